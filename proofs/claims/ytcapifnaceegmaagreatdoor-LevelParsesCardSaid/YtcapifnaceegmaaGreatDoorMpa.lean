/- Mirrors of layer 1: Parse. -/
import Derived.Test.YtcapifnaceegmaaGreatDoorMa
import Derived.Test.YtcapifnaceegmaaGreatDoorFr
import Derived.Test.YtcapifnaceegmaaGreatDoorKy
import Derived.Test.YtcapifnaceegmaaGreatDoorFc
import Derived.Test.YtcapifnaceegmaaGreatDoorBy
import Derived.Test.YtcapifnaceegmaaGreatDoorKs
namespace Go.Proofs.YtcapifnaceegmaaGreatDoor
open Go.RowKit Go.Shelf
set_option linter.unusedSimpArgs false
set_option linter.unusedVariables false

theorem fo_79_0 : fieldOff Tryz.prog 79 0 = some 0 := by kernel_rfl
theorem fo_79_1 : fieldOff Tryz.prog 79 1 = some 1 := by kernel_rfl
theorem fo_79_2 : fieldOff Tryz.prog 79 2 = some 2 := by kernel_rfl
theorem fo_79_3 : fieldOff Tryz.prog 79 3 = some 3 := by kernel_rfl
theorem fo_100_0 : fieldOff Tryz.prog 100 0 = some 0 := by kernel_rfl
theorem fo_100_1 : fieldOff Tryz.prog 100 1 = some 1 := by kernel_rfl
theorem ag_4 : tyAgg Tryz.prog 4 = some (false, 1) := by kernel_rfl
theorem ag_9 : tyAgg Tryz.prog 9 = some (false, 1) := by kernel_rfl
theorem ag_27 : tyAgg Tryz.prog 27 = some (false, 1) := by kernel_rfl
theorem ag_76 : tyAgg Tryz.prog 76 = some (false, 1) := by kernel_rfl
theorem ag_98 : tyAgg Tryz.prog 98 = some (false, 1) := by kernel_rfl
theorem bd_79 : IsStruct Tryz.prog 79 [(0, 1), (1, 1), (2, 1), (3, 1)] [.string ByteArray.empty, .bool false, .int .i64 0, .pointer none] := ⟨by kernel_rfl, by kernel_rfl⟩
theorem bd_100 : IsStruct Tryz.prog 100 [(0, 1), (1, 1)] [.map none, .int .i64 0] := ⟨by kernel_rfl, by kernel_rfl⟩
theorem mp_98 : tyMap Tryz.prog 98 = some (true, .one (.d (.v (.int .i64 0)))) := by kernel_rfl
theorem st_9 : isStrTy Tryz.prog 9 = true := by kernel_rfl
theorem en_26 : Enters Tryz.prog 26 := enters_of Tryz.func26 (by kernel_rfl) rfl
theorem en_52 : Enters Tryz.prog 52 := enters_of Tryz.func52 (by kernel_rfl) rfl
theorem en_53 : Enters Tryz.prog 53 := enters_of Tryz.func53 (by kernel_rfl) rfl
theorem en_54 : Enters Tryz.prog 54 := enters_of Tryz.func54 (by kernel_rfl) rfl
theorem en_55 : Enters Tryz.prog 55 := enters_of Tryz.func55 (by kernel_rfl) rfl
theorem en_56 : Enters Tryz.prog 56 := enters_of Tryz.func56 (by kernel_rfl) rfl
theorem en_70 : Enters Tryz.prog 70 := enters_of Tryz.func70 (by kernel_rfl) rfl
theorem en_71 : Enters Tryz.prog 71 := enters_of Tryz.func71 (by kernel_rfl) rfl
theorem en_81 : Enters Tryz.prog 81 := enters_of Tryz.func81 (by kernel_rfl) rfl
theorem en_83 : Enters Tryz.prog 83 := enters_of Tryz.func83 (by kernel_rfl) rfl
/-- (*euclid/level.reader).spaces, in its part of memory -/
def m53f0 (a0 : (List UInt8)) (a1 : Bool) (a2 : Int) (a3 : Int) (a4 : IMap) : Option Unit :=
  some ()

set_option maxRecDepth 100000 in
set_option maxHeartbeats 8000000 in
theorem m53f0_ok (a0 : (List UInt8)) (a1 : Bool) (a2 : Int) (a3 : Int) (a4 : IMap) (r : Unit) (h0 : m53f0 a0 a1 a2 a3 a4 = some r) : CallM Tryz.prog 53 [.one (.ptr 0 0)] ⟨[(0, .cells 79 [dS8 a0, dB a1, dI a2, .ptr 1 0]), (1, .cells 100 [.mp 2, dI a3]), (2, .mp (imE a4.1) a4.2)], [], 3⟩ (resOf []) ⟨[(0, .cells 79 [dS8 (a0.dropWhile (· == 32)), dB a1, dI a2, .ptr 1 0]), (1, .cells 100 [.mp 2, dI a3]), (2, .mp (imE a4.1) a4.2)], [], 3⟩ := by
  unfold m53f0 at h0
  refine CallM.of_bodyD ⟨[], [(0, .cells 79 [dS8 (a0.dropWhile (· == 32)), dB a1, dI a2, .ptr 1 0]), (1, .cells 100 [.mp 2, dI a3]), (2, .mp (imE a4.1) a4.2)], [], 3, 10, []⟩ rfl rfl en_53 (lb rfl) rfl .nil (fun w0 M V0 Q hv0 hQ0 => ?_)
  simp only [entry]
  refine XC.region ?_
  refine XL.rd rfl rfl (lb rfl) (RO.move rfl) ?_
  refine XL.rd rfl rfl (lb rfl) (RO.move rfl) ?_
  refine XL.rd rfl rfl (lb rfl) (RO.nilCheckPtr rfl) ?_
  refine XL.rd rfl rfl (lb rfl) (RO.fieldOwn fo_79_0 rfl) ?_
  refine XL.rd rfl rfl (lb rfl) (RO.loadOwn ag_9 rfl rfl rfl) ?_
  refine XL.put rfl rfl (lb rfl) (OpOK.callFun (trim_fun a0) rfl (.cons (.one (.d _)) (.cons (.one (.d _)) .nil))) ?_
  refine XL.rd rfl rfl (lb rfl) (RO.nilCheckPtr rfl) ?_
  refine XL.rd rfl rfl (lb rfl) (RO.fieldOwn fo_79_0 rfl) ?_
  refine XL.eff rfl rfl (OpOK.store ag_9 rfl rfl rfl rfl (lb rfl) rfl) ?_
  refine XL.nil ?_
  have e_ := Option.some.inj h0
  subst e_
  exact hQ0 _ _ _ (.inl rfl) rfl (stle tZ (hR rfl (hR rfl (hR rfl hZ))) kZ rfl (Nat.le_trans hv0 (lb rfl)) rfl rfl rfl (bB rfl rfl (bB rfl rfl (bM rfl bZ))) rfl rfl)

/-- (*euclid/level.reader).take, in its part of memory -/
def m54f1 (a0 : (List UInt8)) (a1 : (List UInt8)) (a2 : Bool) (a3 : Int) (a4 : Int) (a5 : IMap) : Option (((List UInt8))) :=
  cond (Lib.hasPrefix a1 a0)
    (some (Lib.trimPrefix a1 a0))
    (some a1)

set_option maxRecDepth 100000 in
set_option maxHeartbeats 8000000 in
theorem m54f1_ok (a0 : (List UInt8)) (a1 : (List UInt8)) (a2 : Bool) (a3 : Int) (a4 : Int) (a5 : IMap) (r : ((List UInt8))) (h0 : m54f1 a0 a1 a2 a3 a4 a5 = some r) : CallM Tryz.prog 54 [.one (.ptr 0 0), .one (dS8 a0)] ⟨[(0, .cells 79 [dS8 a1, dB a2, dI a3, .ptr 1 0]), (1, .cells 100 [.mp 2, dI a4]), (2, .mp (imE a5.1) a5.2)], [], 3⟩ (resOf [.one (dB (Lib.hasPrefix a1 a0))]) ⟨[(0, .cells 79 [dS8 r, dB a2, dI a3, .ptr 1 0]), (1, .cells 100 [.mp 2, dI a4]), (2, .mp (imE a5.1) a5.2)], [], 3⟩ := by
  unfold m54f1 at h0
  refine CallM.of_bodyD ⟨[(4, .v (.one (dB (Lib.hasPrefix a1 a0))))], [(0, .cells 79 [dS8 r, dB a2, dI a3, .ptr 1 0]), (1, .cells 100 [.mp 2, dI a4]), (2, .mp (imE a5.1) a5.2)], [], 3, 22, []⟩ rfl rfl en_54 (lb rfl) rfl (RAs.tmp rfl .nil) (fun w0 M V0 Q hv0 hQ0 => ?_)
  simp only [entry]
  refine XC.seq ?_
  refine XC.region ?_
  refine XL.rd rfl rfl (lb rfl) (RO.assign rfl) ?_
  refine XL.nil ?_
  refine XQ.seq ?_
  refine XC.seq ?_
  refine XC.region ?_
  refine XL.rd rfl rfl (lb rfl) (RO.move rfl) ?_
  refine XL.rd rfl rfl (lb rfl) (RO.nilCheckPtr rfl) ?_
  refine XL.rd rfl rfl (lb rfl) (RO.fieldOwn fo_79_0 rfl) ?_
  refine XL.rd rfl rfl (lb rfl) (RO.loadOwn ag_9 rfl rfl rfl) ?_
  refine XL.rd rfl rfl (lb rfl) (RO.move rfl) ?_
  refine XL.put rfl rfl (lb rfl) (OpOK.callFun (cut_fun a1 a0) rfl (.cons (.one (.d _)) (.cons (.one (.d _)) .nil))) ?_
  refine XL.rd rfl rfl (lb rfl) (RO.move rfl) ?_
  refine XL.rd rfl rfl (lb rfl) (RO.extract rfl rfl) ?_
  refine XL.rd rfl rfl (lb rfl) (RO.extract rfl rfl) ?_
  refine XL.rd rfl rfl (lb rfl) (RO.assign rfl) ?_
  refine XL.rd rfl rfl (lb rfl) (RO.assign rfl) ?_
  refine XL.nil ?_
  refine XQ.seq ?_
  refine XC.seq ?_
  refine XC.seq ?_
  refine XC.region ?_
  refine XL.rd rfl rfl (lb rfl) (RO.move rfl) ?_
  refine XL.nil ?_
  refine XQ.seq ?_
  refine XC.cond (b := (Lib.hasPrefix a1 a0)) rfl (fun c1 => ?_) (fun c1 => ?_)
  ·
   replace h0 := condT c1 h0
   refine XC.region ?_
   refine XL.rd rfl rfl (lb rfl) (RO.move rfl) ?_
   refine XL.rd rfl rfl (lb rfl) (RO.move rfl) ?_
   refine XL.rd rfl rfl (lb rfl) (RO.nilCheckPtr rfl) ?_
   refine XL.rd rfl rfl (lb rfl) (RO.fieldOwn fo_79_0 rfl) ?_
   refine XL.eff rfl rfl (OpOK.store ag_9 rfl rfl rfl rfl (lb rfl) rfl) ?_
   refine XL.nil ?_
   refine XQ.seq ?_
   refine XC.seq ?_
   refine XC.region ?_
   refine XL.rd rfl rfl (lb rfl) (RO.move rfl) ?_
   refine XL.rd rfl rfl (lb rfl) (RO.assign rfl) ?_
   refine XL.nil ?_
   refine XQ.seq ?_
   refine XC.ret ?_
   have e_ := Option.some.inj h0
   subst e_
   exact hQ0 _ _ _ (.inr rfl) rfl (stle (tR rfl tZ) (hR rfl (hR rfl (hR rfl hZ))) kZ rfl (Nat.le_trans hv0 (lb rfl)) rfl rfl rfl (bB rfl rfl (bB rfl rfl (bM rfl bZ))) rfl rfl)
  ·
   replace h0 := condF c1 h0
   refine XC.skip ?_
   refine XQ.seq ?_
   refine XC.seq ?_
   refine XC.region ?_
   refine XL.rd rfl rfl (lb rfl) (RO.move rfl) ?_
   refine XL.rd rfl rfl (lb rfl) (RO.assign rfl) ?_
   refine XL.nil ?_
   refine XQ.seq ?_
   refine XC.ret ?_
   have e_ := Option.some.inj h0
   subst e_
   exact hQ0 _ _ _ (.inr rfl) rfl (stle (tR rfl tZ) (hR rfl (hR rfl (hR rfl hZ))) kZ rfl (Nat.le_trans hv0 (lb rfl)) rfl rfl rfl (bB rfl rfl (bB rfl rfl (bM rfl bZ))) rfl rfl)

def m81f3_l0 (a0 : (List UInt8)) (s1 : Int) : Option (LO Int Int) :=
  Option.bind (cond (decide (s1 < (a0.length : Int)))
    (Option.bind (idx a0 s1) fun (x4 : UInt8) =>
  cond (decide (48 ≤ (x4.toNat : Int)))
    (Option.bind (idx a0 s1) fun (x6 : UInt8) =>
  some (decide ((x6.toNat : Int) ≤ 57)))
    (some false))
    (some false)) (fun (v2 : Bool) => cond v2
    (some (.next (w64 (s1 + 1))))
    (some (.done s1)))

/-- (*euclid/level.reader).number, in its part of memory -/
def m81f3 (a0 : (List UInt8)) (a1 : Bool) (a2 : Int) (a3 : Int) (a4 : IMap) : Option (Int × ((List UInt8)) × Bool) :=
  Option.bind (loopN (m81f3_l0 a0) FUEL 0) (fun (o1 : Int) => guardO (cond (decide (0 ≤ o1)) (Nat.ble o1.toNat a0.length) false)
  (guardO (cond (decide (0 ≤ o1)) (Nat.ble o1.toNat a0.length) false)
  (Option.bind (cond (o1 == 0)
    (some true)
    (cond (decide (6 < o1))
    (some true)
    (cond (decide (1 < o1))
    (Option.bind (idx (a0.take o1.toNat) 0) fun (x8 : UInt8) =>
  some ((x8.toNat : Int) == 48))
    (some false)))) (fun (v4 : Bool) => cond v4
    (some (0, (a0.drop o1.toNat), true))
    (guardO ((cond (Nat.ble (a0.take o1.toNat).length 18) (Lib.atoi (a0.take o1.toNat)).isSome false))
  (some ((atoiL (a0.take o1.toNat)), (a0.drop o1.toNat), a1)))))))

set_option maxRecDepth 100000 in
set_option maxHeartbeats 8000000 in
theorem m81f3_ok (a0 : (List UInt8)) (a1 : Bool) (a2 : Int) (a3 : Int) (a4 : IMap) (r : Int × ((List UInt8)) × Bool) (h0 : m81f3 a0 a1 a2 a3 a4 = some r) : CallM Tryz.prog 81 [.one (.ptr 0 0)] ⟨[(0, .cells 79 [dS8 a0, dB a1, dI a2, .ptr 1 0]), (1, .cells 100 [.mp 2, dI a3]), (2, .mp (imE a4.1) a4.2)], [], 3⟩ (resOf [.one (dI r.1)]) ⟨[(0, .cells 79 [dS8 r.2.1, dB r.2.2, dI a2, .ptr 1 0]), (1, .cells 100 [.mp 2, dI a3]), (2, .mp (imE a4.1) a4.2)], [], 3⟩ := by
  unfold m81f3 at h0
  refine CallM.of_bodyD ⟨[(2, .v (.one (dI r.1)))], [(0, .cells 79 [dS8 r.2.1, dB r.2.2, dI a2, .ptr 1 0]), (1, .cells 100 [.mp 2, dI a3]), (2, .mp (imE a4.1) a4.2)], [], 3, 73, []⟩ rfl rfl en_81 (lb rfl) rfl (RAs.tmp rfl .nil) (fun w0 M V0 Q hv0 hQ0 => ?_)
  simp only [entry]
  refine XC.seq ?_
  refine XC.region ?_
  refine XL.rd rfl rfl (lb rfl) (RO.assign rfl) ?_
  refine XL.nil ?_
  refine XQ.seq ?_
  refine XC.seq ?_
  refine XC.region ?_
  refine XL.rd rfl rfl (lb rfl) (RO.assign rfl) ?_
  refine XL.nil ?_
  refine XQ.seq ?_
  refine XC.seq ?_
  refine XC.block ?_
  refine XC.joinX 0 (fun (o1 : Int) => ⟨[(0, .v (.one (.ptr 0 0))), (3, .v (.one (dI o1)))], [(0, .cells 79 [dS8 a0, dB a1, dI a2, .ptr 1 0]), (1, .cells 100 [.mp 2, dI a3]), (2, .mp (imE a4.1) a4.2)], [], 3, 73, []⟩) (fun (o1 : Int) => (guardO (cond (decide (0 ≤ o1)) (Nat.ble o1.toNat a0.length) false)
    (guardO (cond (decide (0 ≤ o1)) (Nat.ble o1.toNat a0.length) false)
    (Option.bind (cond (o1 == 0)
      (some true)
      (cond (decide (6 < o1))
      (some true)
      (cond (decide (1 < o1))
      (Option.bind (idx (a0.take o1.toNat) 0) fun (x8 : UInt8) =>
    some ((x8.toNat : Int) == 48))
      (some false)))) (fun (v4 : Bool) => cond v4
      (some (0, (a0.drop o1.toNat), true))
      (guardO ((cond (Nat.ble (a0.take o1.toNat).length 18) (Lib.atoi (a0.take o1.toNat)).isSome false))
    (some ((atoiL (a0.take o1.toNat)), (a0.drop o1.toNat), a1))))))) = some r) ?_ ?_
  ·
   refine bindK h0 (fun o2 hl1 h0 => ?_)
   refine XC.loopM (m81f3_l0 a0) (fun s1 => ⟨[(0, .v (.one (.ptr 0 0))), (3, .v (.one (dI s1)))], [(0, .cells 79 [dS8 a0, dB a1, dI a2, .ptr 1 0]), (1, .cells 100 [.mp 2, dI a3]), (2, .mp (imE a4.1) a4.2)], [], 3, 73, []⟩) 0 o2 (stle (tR rfl (tR rfl tZ)) (hR rfl (hR rfl (hR rfl hZ))) kZ rfl (Nat.le_trans hv0 (lb rfl)) rfl rfl rfl (bB rfl rfl (bB rfl rfl (bM rfl bZ))) rfl rfl) hl1 (fun s1 n1 oo1 h1 ho1 => ?_)
   unfold m81f3_l0 at h1
   refine XC.seq ?_
   refine XC.seq ?_
   refine XC.joinR (fun (v3 : Bool) => ⟨[(0, .v (.one (.ptr 0 0))), (3, .v (.one (dI s1))), (31, .v (.one (dB v3)))], [(0, .cells 79 [dS8 a0, dB a1, dI a2, .ptr 1 0]), (1, .cells 100 [.mp 2, dI a3]), (2, .mp (imE a4.1) a4.2)], [], 3, 73, []⟩) (fun (v3 : Bool) => (cond v3
       (some (.next (w64 (s1 + 1))))
       (some (.done s1))) = some oo1) ?_ ?_
   ·
    refine bindK h1 (fun w2_ h2 h1 => ?_)
    refine XC.region ?_
    refine XL.rd rfl rfl (lb rfl) (RO.move rfl) ?_
    refine XL.rd rfl rfl (lb rfl) (RO.move rfl) ?_
    refine XL.rd rfl rfl (lb rfl) (RO.nilCheckPtr rfl) ?_
    refine XL.rd rfl rfl (lb rfl) (RO.fieldOwn fo_79_0 rfl) ?_
    refine XL.rd rfl rfl (lb rfl) (RO.loadOwn ag_9 rfl rfl rfl) ?_
    refine XL.rd rfl rfl (lb rfl) (RO.lenS st_9 rfl) ?_
    refine XL.rd rfl rfl (lb rfl) (RO.binInt rfl rfl rfl) ?_
    refine XL.rd rfl rfl (lb rfl) (RO.move rfl) ?_
    refine XL.case (d := 14) (c := (decide (s1 < (a0.length : Int)))) rfl (fun c4 => ?_) (fun c4 => ?_)
    ·
     replace h2 := condT c4 h2
     refine XL.rd rfl rfl (lb rfl) (RO.move rfl) ?_
     refine XL.rd rfl rfl (lb rfl) (RO.nilCheckPtr rfl) ?_
     refine XL.rd rfl rfl (lb rfl) (RO.fieldOwn fo_79_0 rfl) ?_
     refine XL.rd rfl rfl (lb rfl) (RO.loadOwn ag_9 rfl rfl rfl) ?_
     refine XL.rd rfl rfl (lb rfl) (RO.move rfl) ?_
     refine bindK h2 (fun x5 hx5 h2 => ?_)
     refine XL.rd rfl rfl (lb rfl) (RO.ixS st_9 rfl rfl hx5) ?_
     refine XL.rd rfl rfl (lb rfl) (RO.binInt rfl rfl rfl) ?_
     refine XL.rd rfl rfl (lb rfl) (RO.pickT rfl rfl) ?_
     refine XL.rd rfl rfl (lb rfl) (RO.move rfl) ?_
     refine XL.case (d := 23) (c := (decide (48 ≤ (x5.toNat : Int)))) rfl (fun c6 => ?_) (fun c6 => ?_)
     ·
      replace h2 := condT c6 h2
      refine XL.rd rfl rfl (lb rfl) (RO.move rfl) ?_
      refine XL.rd rfl rfl (lb rfl) (RO.nilCheckPtr rfl) ?_
      refine XL.rd rfl rfl (lb rfl) (RO.fieldOwn fo_79_0 rfl) ?_
      refine XL.rd rfl rfl (lb rfl) (RO.loadOwn ag_9 rfl rfl rfl) ?_
      refine XL.rd rfl rfl (lb rfl) (RO.move rfl) ?_
      refine bindK h2 (fun x7 hx7 h2 => ?_)
      refine XL.rd rfl rfl (lb rfl) (RO.ixS st_9 rfl rfl hx7) ?_
      refine XL.rd rfl rfl (lb rfl) (RO.binInt rfl rfl rfl) ?_
      refine XL.rd rfl rfl (lb rfl) (RO.pickT rfl rfl) ?_
      refine XL.nil ?_
      have e_ := Option.some.inj h2
      subst e_
      exact XQ.joinR (decide ((x7.toNat : Int) ≤ 57)) (stle (tR rfl (tR rfl (tR rfl tZ))) (hR rfl (hR rfl (hR rfl hZ))) kZ rfl (Nat.le_trans hv0 (lb rfl)) rfl rfl rfl (bB rfl rfl (bB rfl rfl (bM rfl bZ))) rfl rfl) h1
     ·
      replace h2 := condF c6 h2
      refine XL.no rfl rfl ?_
      refine XL.no rfl rfl ?_
      refine XL.no rfl rfl ?_
      refine XL.no rfl rfl ?_
      refine XL.no rfl rfl ?_
      refine XL.no rfl rfl ?_
      refine XL.no rfl rfl ?_
      refine XL.rd rfl rfl (lb rfl) (RO.pickF rfl rfl) ?_
      refine XL.nil ?_
      have e_ := Option.some.inj h2
      subst e_
      exact XQ.joinR false (stle (tR rfl (tR rfl (tR rfl tZ))) (hR rfl (hR rfl (hR rfl hZ))) kZ rfl (Nat.le_trans hv0 (lb rfl)) rfl rfl rfl (bB rfl rfl (bB rfl rfl (bM rfl bZ))) rfl rfl) h1
    ·
     replace h2 := condF c4 h2
     refine XL.no rfl rfl ?_
     refine XL.no rfl rfl ?_
     refine XL.no rfl rfl ?_
     refine XL.no rfl rfl ?_
     refine XL.no rfl rfl ?_
     refine XL.no rfl rfl ?_
     refine XL.no rfl rfl ?_
     refine XL.rd rfl rfl (lb rfl) (RO.pickF rfl rfl) ?_
     refine XL.rd rfl rfl (lb rfl) (RO.move rfl) ?_
     refine XL.no rfl rfl ?_
     refine XL.no rfl rfl ?_
     refine XL.no rfl rfl ?_
     refine XL.no rfl rfl ?_
     refine XL.no rfl rfl ?_
     refine XL.no rfl rfl ?_
     refine XL.no rfl rfl ?_
     refine XL.rd rfl rfl (lb rfl) (RO.pickF rfl rfl) ?_
     refine XL.nil ?_
     have e_ := Option.some.inj h2
     subst e_
     exact XQ.joinR false (stle (tR rfl (tR rfl (tR rfl tZ))) (hR rfl (hR rfl (hR rfl hZ))) kZ rfl (Nat.le_trans hv0 (lb rfl)) rfl rfl rfl (bB rfl rfl (bB rfl rfl (bM rfl bZ))) rfl rfl) h1
   ·
    intro v3 h1
    refine XQ.seq ?_
    refine XC.cond (b := v3) rfl (fun c8 => ?_) (fun c8 => ?_)
    ·
     replace h1 := condT c8 h1
     refine XC.skip ?_
     refine XQ.seq ?_
     refine XC.block ?_
     refine XC.region ?_
     refine XL.rd rfl rfl (lb rfl) (RO.move rfl) ?_
     refine XL.rd rfl rfl (lb rfl) (RO.binInt rfl rfl rfl) ?_
     refine XL.rd rfl rfl (lb rfl) (RO.assign rfl) ?_
     refine XL.nil ?_
     refine XQ.inBlock ?_
     have e_ := Option.some.inj h1
     subst e_
     refine XQ.nextM (w64 (s1 + 1)) (stle (tR rfl (tR rfl tZ)) (hR rfl (hR rfl (hR rfl hZ))) kZ rfl (Nat.le_trans hv0 (lb rfl)) rfl rfl rfl (bB rfl rfl (bB rfl rfl (bM rfl bZ))) rfl rfl) ho1
    ·
     replace h1 := condF c8 h1
     refine XC.exit ?_
     refine XQ.thenE ?_
     refine XQ.thenE ?_
     have e_ := Option.some.inj h1
     subst e_
     have e_ : _ = _ := ho1
     subst e_
     exact XQ.joinX s1 (stle (tR rfl (tR rfl tZ)) (hR rfl (hR rfl (hR rfl hZ))) kZ rfl (Nat.le_trans hv0 (lb rfl)) rfl rfl rfl (bB rfl rfl (bB rfl rfl (bM rfl bZ))) rfl rfl) h0
  ·
   intro o1 h0
   refine XQ.blockX ?_
   refine XQ.seq ?_
   refine XC.seq ?_
   refine XC.region ?_
   refine XL.rd rfl rfl (lb rfl) (RO.move rfl) ?_
   refine XL.rd rfl rfl (lb rfl) (RO.nilCheckPtr rfl) ?_
   refine XL.rd rfl rfl (lb rfl) (RO.fieldOwn fo_79_0 rfl) ?_
   refine XL.rd rfl rfl (lb rfl) (RO.loadOwn ag_9 rfl rfl rfl) ?_
   refine XL.rd rfl rfl (lb rfl) (RO.move rfl) ?_
   refine guardK h0 (fun g9 h0 => ?_)
   refine XL.rd rfl rfl (lb rfl) (RO.toS st_9 rfl rfl g9) ?_
   refine XL.rd rfl rfl (lb rfl) (RO.assign rfl) ?_
   refine XL.nil ?_
   refine XQ.seq ?_
   refine XC.seq ?_
   refine XC.region ?_
   refine XL.rd rfl rfl (lb rfl) (RO.move rfl) ?_
   refine XL.rd rfl rfl (lb rfl) (RO.move rfl) ?_
   refine XL.rd rfl rfl (lb rfl) (RO.nilCheckPtr rfl) ?_
   refine XL.rd rfl rfl (lb rfl) (RO.fieldOwn fo_79_0 rfl) ?_
   refine XL.rd rfl rfl (lb rfl) (RO.loadOwn ag_9 rfl rfl rfl) ?_
   refine XL.rd rfl rfl (lb rfl) (RO.move rfl) ?_
   refine guardK h0 (fun g10 h0 => ?_)
   refine XL.rd rfl rfl (lb rfl) (RO.fromS st_9 rfl rfl g10) ?_
   refine XL.rd rfl rfl (lb rfl) (RO.nilCheckPtr rfl) ?_
   refine XL.rd rfl rfl (lb rfl) (RO.fieldOwn fo_79_0 rfl) ?_
   refine XL.eff rfl rfl (OpOK.store ag_9 rfl rfl rfl rfl (lb rfl) rfl) ?_
   refine XL.nil ?_
   refine XQ.seq ?_
   refine XC.seq ?_
   refine XC.seq ?_
   refine XC.joinR (fun (v11 : Bool) => ⟨[(0, .v (.one (.ptr 0 0))), (4, .v (.one (dS8 (a0.take o1.toNat)))), (63, .v (.one (dB v11)))], [(0, .cells 79 [dS8 (a0.drop o1.toNat), dB a1, dI a2, .ptr 1 0]), (1, .cells 100 [.mp 2, dI a3]), (2, .mp (imE a4.1) a4.2)], [], 3, 73, []⟩) (fun (v11 : Bool) => (cond v11
       (some (0, (a0.drop o1.toNat), true))
       (guardO ((cond (Nat.ble (a0.take o1.toNat).length 18) (Lib.atoi (a0.take o1.toNat)).isSome false))
     (some ((atoiL (a0.take o1.toNat)), (a0.drop o1.toNat), a1)))) = some r) ?_ ?_
   ·
    refine bindK h0 (fun w1_ h1 h0 => ?_)
    refine XC.region ?_
    refine XL.rd rfl rfl (lb rfl) (RO.move rfl) ?_
    refine XL.rd rfl rfl (lb rfl) (RO.binInt rfl rfl rfl) ?_
    refine XL.rd rfl rfl (lb rfl) (RO.move rfl) ?_
    refine XL.case (d := 51) (c := (o1 == 0)) rfl (fun c12 => ?_) (fun c12 => ?_)
    ·
     replace h1 := condT c12 h1
     refine XL.no rfl rfl ?_
     refine XL.no rfl rfl ?_
     refine XL.rd rfl rfl (lb rfl) (RO.pickT rfl rfl) ?_
     refine XL.rd rfl rfl (lb rfl) (RO.move rfl) ?_
     refine XL.no rfl rfl ?_
     refine XL.no rfl rfl ?_
     refine XL.no rfl rfl ?_
     refine XL.no rfl rfl ?_
     refine XL.no rfl rfl ?_
     refine XL.no rfl rfl ?_
     refine XL.no rfl rfl ?_
     refine XL.rd rfl rfl (lb rfl) (RO.pickT rfl rfl) ?_
     refine XL.nil ?_
     have e_ := Option.some.inj h1
     subst e_
     exact XQ.joinR true (stle (tR rfl (tR rfl (tR rfl tZ))) (hR rfl (hR rfl (hR rfl hZ))) kZ rfl (Nat.le_trans hv0 (lb rfl)) rfl rfl rfl (bB rfl rfl (bB rfl rfl (bM rfl bZ))) rfl rfl) h0
    ·
     replace h1 := condF c12 h1
     refine XL.rd rfl rfl (lb rfl) (RO.move rfl) ?_
     refine XL.rd rfl rfl (lb rfl) (RO.binInt rfl rfl rfl) ?_
     refine XL.rd rfl rfl (lb rfl) (RO.pickF rfl rfl) ?_
     refine XL.rd rfl rfl (lb rfl) (RO.move rfl) ?_
     refine XL.case (d := 55) (c := (decide (6 < o1))) rfl (fun c13 => ?_) (fun c13 => ?_)
     ·
      replace h1 := condT c13 h1
      refine XL.no rfl rfl ?_
      refine XL.no rfl rfl ?_
      refine XL.no rfl rfl ?_
      refine XL.no rfl rfl ?_
      refine XL.no rfl rfl ?_
      refine XL.no rfl rfl ?_
      refine XL.no rfl rfl ?_
      refine XL.rd rfl rfl (lb rfl) (RO.pickT rfl rfl) ?_
      refine XL.nil ?_
      have e_ := Option.some.inj h1
      subst e_
      exact XQ.joinR true (stle (tR rfl (tR rfl (tR rfl tZ))) (hR rfl (hR rfl (hR rfl hZ))) kZ rfl (Nat.le_trans hv0 (lb rfl)) rfl rfl rfl (bB rfl rfl (bB rfl rfl (bM rfl bZ))) rfl rfl) h0
     ·
      replace h1 := condF c13 h1
      refine XL.rd rfl rfl (lb rfl) (RO.move rfl) ?_
      refine XL.rd rfl rfl (lb rfl) (RO.binInt rfl rfl rfl) ?_
      refine XL.rd rfl rfl (lb rfl) (RO.move rfl) ?_
      refine XL.case (d := 58) (c := (decide (1 < o1))) rfl (fun c14 => ?_) (fun c14 => ?_)
      ·
       replace h1 := condT c14 h1
       refine XL.rd rfl rfl (lb rfl) (RO.move rfl) ?_
       refine bindK h1 (fun x15 hx15 h1 => ?_)
       refine XL.rd rfl rfl (lb rfl) (RO.ixS st_9 rfl rfl hx15) ?_
       refine XL.rd rfl rfl (lb rfl) (RO.binInt rfl rfl rfl) ?_
       refine XL.rd rfl rfl (lb rfl) (RO.pickT rfl rfl) ?_
       refine XL.rd rfl rfl (lb rfl) (RO.pickF rfl rfl) ?_
       refine XL.nil ?_
       have e_ := Option.some.inj h1
       subst e_
       exact XQ.joinR ((x15.toNat : Int) == 48) (stle (tR rfl (tR rfl (tR rfl tZ))) (hR rfl (hR rfl (hR rfl hZ))) kZ rfl (Nat.le_trans hv0 (lb rfl)) rfl rfl rfl (bB rfl rfl (bB rfl rfl (bM rfl bZ))) rfl rfl) h0
      ·
       replace h1 := condF c14 h1
       refine XL.no rfl rfl ?_
       refine XL.no rfl rfl ?_
       refine XL.no rfl rfl ?_
       refine XL.rd rfl rfl (lb rfl) (RO.pickF rfl rfl) ?_
       refine XL.rd rfl rfl (lb rfl) (RO.pickF rfl rfl) ?_
       refine XL.nil ?_
       have e_ := Option.some.inj h1
       subst e_
       exact XQ.joinR false (stle (tR rfl (tR rfl (tR rfl tZ))) (hR rfl (hR rfl (hR rfl hZ))) kZ rfl (Nat.le_trans hv0 (lb rfl)) rfl rfl rfl (bB rfl rfl (bB rfl rfl (bM rfl bZ))) rfl rfl) h0
   ·
    intro v11 h0
    refine XQ.seq ?_
    refine XC.cond (b := v11) rfl (fun c16 => ?_) (fun c16 => ?_)
    ·
     replace h0 := condT c16 h0
     refine XC.seq ?_
     refine XC.region ?_
     refine XL.rd rfl rfl (lb rfl) (RO.move rfl) ?_
     refine XL.rd rfl rfl (lb rfl) (RO.nilCheckPtr rfl) ?_
     refine XL.rd rfl rfl (lb rfl) (RO.fieldOwn fo_79_1 rfl) ?_
     refine XL.eff rfl rfl (OpOK.store ag_4 rfl rfl rfl rfl (lb rfl) rfl) ?_
     refine XL.nil ?_
     refine XQ.seq ?_
     refine XC.seq ?_
     refine XC.region ?_
     refine XL.rd rfl rfl (lb rfl) (RO.assign rfl) ?_
     refine XL.nil ?_
     refine XQ.seq ?_
     refine XC.ret ?_
     have e_ := Option.some.inj h0
     subst e_
     exact hQ0 _ _ _ (.inr rfl) rfl (stle (tR rfl tZ) (hR rfl (hR rfl (hR rfl hZ))) kZ rfl (Nat.le_trans hv0 (lb rfl)) rfl rfl rfl (bB rfl rfl (bB rfl rfl (bM rfl bZ))) rfl rfl)
    ·
     replace h0 := condF c16 h0
     refine XC.skip ?_
     refine XQ.seq ?_
     refine XC.seq ?_
     refine XC.region ?_
     refine XL.rd rfl rfl (lb rfl) (RO.move rfl) ?_
     refine guardK h0 (fun g17 h0 => ?_)
     refine XL.put rfl rfl (lb rfl) (OpOK.callFun (atoi_fun (a0.take o1.toNat) g17) rfl (.cons (.one (.d _)) .nil)) ?_
     refine XL.rd rfl rfl (lb rfl) (RO.move rfl) ?_
     refine XL.rd rfl rfl (lb rfl) (RO.extract rfl rfl) ?_
     refine XL.rd rfl rfl (lb rfl) (RO.extract rfl rfl) ?_
     refine XL.rd rfl rfl (lb rfl) (RO.assign rfl) ?_
     refine XL.rd rfl rfl (lb rfl) (RO.assign rfl) ?_
     refine XL.nil ?_
     refine XQ.seq ?_
     refine XC.seq ?_
     refine XC.region ?_
     refine XL.rd rfl rfl (lb rfl) (RO.move rfl) ?_
     refine XL.rd rfl rfl (lb rfl) (RO.assign rfl) ?_
     refine XL.nil ?_
     refine XQ.seq ?_
     refine XC.ret ?_
     have e_ := Option.some.inj h0
     subst e_
     exact hQ0 _ _ _ (.inr rfl) rfl (stle (tR rfl tZ) (hR rfl (hR rfl (hR rfl hZ))) kZ rfl (Nat.le_trans hv0 (lb rfl)) rfl rfl rfl (bB rfl rfl (bB rfl rfl (bM rfl bZ))) rfl rfl)

/-- (euclid/level.offsets).raise, in its part of memory -/
def m70f5 (a0 : Int) (a1 : Int) (a2 : IMap) : Option IMap :=
  Option.bind (cond (!(imHas a2 a0))
    (some true)
    (some (decide ((imVal a2 a0) < a1)))) (fun (v1 : Bool) => cond v1
    (some (imSet a2 a0 a1))
    (some a2))

set_option maxRecDepth 100000 in
set_option maxHeartbeats 8000000 in
theorem m70f5_ok (a0 : Int) (a1 : Int) (a2 : IMap) (r : IMap) (h0 : m70f5 a0 a1 a2 = some r) : CallM Tryz.prog 70 [.one (.mp 0), .one (dI a0), .one (dI a1)] ⟨[(0, .mp (imE a2.1) a2.2)], [], 1⟩ (resOf []) ⟨[(0, .mp (imE r.1) r.2)], [], 1⟩ := by
  unfold m70f5 at h0
  refine CallM.of_bodyD ⟨[], [(0, .mp (imE r.1) r.2)], [], 1, 24, []⟩ rfl rfl en_70 (lb rfl) rfl .nil (fun w0 M V0 Q hv0 hQ0 => ?_)
  simp only [entry]
  refine XC.seq ?_
  refine XC.region ?_
  refine XL.rd rfl rfl (lb rfl) (RO.move rfl) ?_
  refine XL.rd rfl rfl (lb rfl) (RO.move rfl) ?_
  refine XL.rd rfl rfl (lb rfl) (RO.lookupT mp_98 rfl rfl rfl) ?_
  refine XL.rd rfl rfl (lb rfl) (RO.move rfl) ?_
  refine XL.rd rfl rfl (lb rfl) (RO.extract rfl rfl) ?_
  refine XL.rd rfl rfl (lb rfl) (RO.extract rfl rfl) ?_
  refine XL.rd rfl rfl (lb rfl) (RO.assign rfl) ?_
  refine XL.rd rfl rfl (lb rfl) (RO.assign rfl) ?_
  refine XL.nil ?_
  refine XQ.seq ?_
  refine XC.seq ?_
  refine XC.joinR (fun (v1 : Bool) => ⟨[(0, .v (.one (.mp 0))), (1, .v (.one (dI a0))), (2, .v (.one (dI a1))), (20, .v (.one (dB v1)))], [(0, .mp (imE a2.1) a2.2)], [], 1, 24, []⟩) (fun (v1 : Bool) => (cond v1
      (some (imSet a2 a0 a1))
      (some a2)) = some r) ?_ ?_
  ·
   refine bindK h0 (fun w1_ h1 h0 => ?_)
   refine XC.region ?_
   refine XL.rd rfl rfl (lb rfl) (RO.move rfl) ?_
   refine XL.rd rfl rfl (lb rfl) (RO.not rfl) ?_
   refine XL.rd rfl rfl (lb rfl) (RO.move rfl) ?_
   refine XL.case (d := 16) (c := (!(imHas a2 a0))) rfl (fun c2 => ?_) (fun c2 => ?_)
   ·
    replace h1 := condT c2 h1
    refine XL.no rfl rfl ?_
    refine XL.no rfl rfl ?_
    refine XL.no rfl rfl ?_
    refine XL.rd rfl rfl (lb rfl) (RO.pickT rfl rfl) ?_
    refine XL.nil ?_
    have e_ := Option.some.inj h1
    subst e_
    exact XQ.joinR true (stle (tR rfl (tR rfl (tR rfl (tR rfl tZ)))) (hR rfl hZ) kZ rfl (Nat.le_trans hv0 (lb rfl)) rfl rfl rfl (bM rfl bZ) rfl rfl) h0
   ·
    replace h1 := condF c2 h1
    refine XL.rd rfl rfl (lb rfl) (RO.move rfl) ?_
    refine XL.rd rfl rfl (lb rfl) (RO.move rfl) ?_
    refine XL.rd rfl rfl (lb rfl) (RO.binInt rfl rfl rfl) ?_
    refine XL.rd rfl rfl (lb rfl) (RO.pickF rfl rfl) ?_
    refine XL.nil ?_
    have e_ := Option.some.inj h1
    subst e_
    exact XQ.joinR (decide ((imVal a2 a0) < a1)) (stle (tR rfl (tR rfl (tR rfl (tR rfl tZ)))) (hR rfl hZ) kZ rfl (Nat.le_trans hv0 (lb rfl)) rfl rfl rfl (bM rfl bZ) rfl rfl) h0
  ·
   intro v1 h0
   refine XQ.seq ?_
   refine XC.cond (b := v1) rfl (fun c3 => ?_) (fun c3 => ?_)
   ·
    replace h0 := condT c3 h0
    refine XC.region ?_
    refine XL.rd rfl rfl (lb rfl) (RO.move rfl) ?_
    refine XL.rd rfl rfl (lb rfl) (RO.move rfl) ?_
    refine XL.rd rfl rfl (lb rfl) (RO.move rfl) ?_
    refine XL.eff rfl rfl (OpOK.mapSetI mp_98 rfl rfl rfl rfl rfl) ?_
    refine XL.nil ?_
    have e_ := Option.some.inj h0
    subst e_
    exact hQ0 _ _ _ (.inl rfl) rfl (stle tZ (hR rfl hZ) kZ rfl (Nat.le_trans hv0 (lb rfl)) rfl rfl rfl (bM rfl bZ) rfl rfl)
   ·
    replace h0 := condF c3 h0
    refine XC.skip ?_
    have e_ := Option.some.inj h0
    subst e_
    exact hQ0 _ _ _ (.inl rfl) rfl (stle tZ (hR rfl hZ) kZ rfl (Nat.le_trans hv0 (lb rfl)) rfl rfl rfl (bM rfl bZ) rfl rfl)

def m71f4_l0 (a0 : Lvl) (a1 : Int) (s1 : Int × IMap) : Option (LO (Int × IMap) IMap) :=
  cond (decide (s1.1 < (a0.vs.length : Int)))
    (Option.bind (idx a0.vs s1.1) fun (x3 : LV) =>
  Option.bind (m70f5 x3.1 (w64 (x3.2 + a1)) s1.2) fun (x4 : IMap) =>
  some (.next ((w64 (s1.1 + 1)), x4)))
    (some (.done s1.2))

/-- (*euclid/level.sum).add, in its part of memory -/
def m71f4 (a0 : Lvl) (a1 : Int) (a2 : Int) (a3 : IMap) : Option IMap :=
  Option.bind (loopN (m71f4_l0 a0 a1) FUEL (0, a3)) (fun (o1 : IMap) => some o1)

set_option maxRecDepth 100000 in
set_option maxHeartbeats 8000000 in
theorem m71f4_ok (a0 : Lvl) (a1 : Int) (a2 : Int) (a3 : IMap) (r : IMap) (h0 : m71f4 a0 a1 a2 a3 = some r) : CallM Tryz.prog 71 [.one (.ptr 0 0), .agg (cE a0), .one (dI a1)] ⟨[(0, .cells 100 [.mp 1, dI a2]), (1, .mp (imE a3.1) a3.2)], [], 2⟩ (resOf []) ⟨[(0, .cells 100 [.mp 1, dI (max a2 (w64 (a0.c + a1)))]), (1, .mp (imE r.1) r.2)], [], 3⟩ := by
  unfold m71f4 at h0
  refine CallM.of_bodyD ⟨[], [(0, .cells 100 [.mp 1, dI (max a2 (w64 (a0.c + a1)))]), (1, .mp (imE r.1) r.2)], [], 3, 39, []⟩ rfl rfl en_71 (lb rfl) rfl .nil (fun w0 M V0 Q hv0 hQ0 => ?_)
  simp only [entry]
  refine XC.seq ?_
  refine XC.region ?_
  refine XL.put rfl rfl (lb rfl) (OpOK.box rfl) ?_
  refine XL.nil ?_
  refine XQ.seq ?_
  refine XC.seq ?_
  refine XC.anyRun [12] [] mixed (by kernel_rfl) (by kernel_rfl) (by kernel_rfl) ?_
  refine RunA.rd rfl rfl rfl (OpOK.of_ro (RO.move rfl)) rfl ?_
  refine RunA.rd rfl rfl rfl (OpOK.of_ro (RO.move rfl)) rfl ?_
  refine RunA.rd rfl rfl rfl (OpOK.of_ro (RO.nilCheckPtr rfl)) rfl ?_
  refine RunA.rd rfl rfl rfl (OpOK.of_ro (RO.fieldOwn fo_100_1 rfl)) rfl ?_
  refine RunA.rd rfl rfl rfl (OpOK.of_ro (RO.loadOwn ag_3 rfl rfl rfl)) rfl ?_
  refine RunA.rd rfl rfl rfl (OpOK.of_ro (RO.fieldOwn fo_24_0 rfl)) rfl ?_
  refine RunA.rd rfl rfl rfl (OpOK.of_ro (RO.loadOwn ag_3 rfl rfl rfl)) rfl ?_
  refine RunA.rd rfl rfl rfl (OpOK.of_ro (RO.move rfl)) rfl ?_
  refine RunA.rd rfl rfl rfl (OpOK.of_ro (RO.binInt rfl rfl rfl)) rfl ?_
  refine RunA.rd rfl rfl rfl (OpOK.of_ro (RO.max2 rfl rfl)) rfl ?_
  refine RunA.rd rfl rfl rfl (OpOK.of_ro (RO.nilCheckPtr rfl)) rfl ?_
  refine RunA.rd rfl rfl rfl (OpOK.of_ro (RO.fieldOwn fo_100_1 rfl)) rfl ?_
  refine RunA.eff rfl rfl rfl (OpOK.store ag_3 rfl rfl rfl rfl (lb rfl) rfl) rfl ?_
  refine RunA.nil ⟨?ex, _, _, rfl, ?_⟩
  case ex => exact trivial
  refine XQ.less (st' := ⟨[(0, .v (.one (.ptr 0 0))), (2, .v (.one (dI a1))), (4, .v (.one (.ptr 2 0)))], [(0, .cells 100 [.mp 1, dI (max a2 (w64 (a0.c + a1)))]), (1, .mp (imE a3.1) a3.2), (2, .cells 24 (cE a0))], [], 3, 39, []⟩) (stle (tR rfl (tR rfl (tR rfl tZ))) (hR rfl (hR rfl (hR rfl hZ))) kZ rfl (Nat.le_trans hv0 (lb rfl)) rfl rfl rfl (bB rfl rfl (bM rfl (bB rfl rfl bZ))) rfl rfl) ?_
  refine XQ.seq ?_
  refine XC.seq ?_
  refine XC.region ?_
  refine XL.rd rfl rfl (lb rfl) (RO.fieldOwn fo_24_1 rfl) ?_
  refine XL.rd rfl rfl (lb rfl) (RO.loadOwn ag_22 rfl rfl rfl) ?_
  refine XL.rd rfl rfl (lb rfl) (RO.lenE (α := LV) sl_22 rfl (.d _)) ?_
  refine XL.rd rfl rfl (lb rfl) (RO.move rfl) ?_
  refine XL.nil ?_
  refine XQ.seq ?_
  refine XC.block ?_
  refine XC.joinX 0 (fun (o1 : IMap) => ⟨[], [(0, .cells 100 [.mp 1, dI (max a2 (w64 (a0.c + a1)))]), (1, .mp (imE o1.1) o1.2), (2, .cells 24 (cE a0))], [], 3, 39, []⟩) (fun (o1 : IMap) => (some o1) = some r) ?_ ?_
  ·
   refine bindK h0 (fun o2 hl1 h0 => ?_)
   refine XC.loopM (m71f4_l0 a0 a1) (fun s1 => ⟨[(0, .v (.one (.ptr 0 0))), (2, .v (.one (dI a1))), (21, .v (.one (dS a0.vs))), (22, .v (.one (dI (a0.vs.length : Int)))), (23, .v (.one (dI s1.1)))], [(0, .cells 100 [.mp 1, dI (max a2 (w64 (a0.c + a1)))]), (1, .mp (imE s1.2.1) s1.2.2), (2, .cells 24 (cE a0))], [], 3, 39, []⟩) (0, a3) o2 (stle (tR rfl (tR rfl (tR rfl (tR rfl (tR rfl tZ))))) (hR rfl (hR rfl (hR rfl hZ))) kZ rfl (Nat.le_trans hv0 (lb rfl)) rfl rfl rfl (bB rfl rfl (bM rfl (bB rfl rfl bZ))) rfl rfl) hl1 (fun s1 n1 oo1 h1 ho1 => ?_)
   unfold m71f4_l0 at h1
   refine XC.seq ?_
   refine XC.region ?_
   refine XL.rd rfl rfl (lb rfl) (RO.binInt rfl rfl rfl) ?_
   refine XL.nil ?_
   refine XQ.seq ?_
   refine XC.seq ?_
   refine XC.cond (b := (decide (s1.1 < (a0.vs.length : Int)))) rfl (fun c3 => ?_) (fun c3 => ?_)
   ·
    replace h1 := condT c3 h1
    refine XC.skip ?_
    refine XQ.seq ?_
    refine XC.seq ?_
    refine XC.block ?_
    refine XC.seq ?_
    refine XC.region ?_
    refine bindK h1 (fun x4 hx4 h1 => ?_)
    refine XL.rd rfl rfl (lb rfl) (RO.indexE (α := LV) sl_22 rfl (.d _) rfl hx4) ?_
    refine XL.rd rfl rfl (lb rfl) (RO.loadPelAgg ag_69 rfl rfl rfl) ?_
    refine XL.put rfl rfl (lb rfl) (OpOK.alloc z_69 rfl) ?_
    refine XL.eff rfl rfl (OpOK.store ag_69 rfl rfl rfl rfl (lb rfl) rfl) ?_
    refine XL.nil ?_
    refine XQ.seq ?_
    refine XC.anyRun [10] [] mixed (by kernel_rfl) (by kernel_rfl) (by kernel_rfl) ?_
    refine RunA.rd rfl rfl rfl (OpOK.of_ro (RO.move rfl)) rfl ?_
    refine RunA.rd rfl rfl rfl (OpOK.of_ro (RO.nilCheckPtr rfl)) rfl ?_
    refine RunA.rd rfl rfl rfl (OpOK.of_ro (RO.fieldOwn fo_100_0 rfl)) rfl ?_
    refine RunA.rd rfl rfl rfl (OpOK.of_ro (RO.loadOwn ag_98 rfl rfl rfl)) rfl ?_
    refine RunA.rd rfl rfl rfl (OpOK.of_ro (RO.fieldOwn fo_69_0 rfl)) rfl ?_
    refine RunA.rd rfl rfl rfl (OpOK.of_ro (RO.loadOwn ag_3 rfl rfl rfl)) rfl ?_
    refine RunA.rd rfl rfl rfl (OpOK.of_ro (RO.fieldOwn fo_69_1 rfl)) rfl ?_
    refine RunA.rd rfl rfl rfl (OpOK.of_ro (RO.loadOwn ag_3 rfl rfl rfl)) rfl ?_
    refine RunA.rd rfl rfl rfl (OpOK.of_ro (RO.move rfl)) rfl ?_
    refine RunA.rd rfl rfl rfl (OpOK.of_ro (RO.binInt rfl rfl rfl)) rfl ?_
    refine bindK h1 (fun x5 hx5 h1 => ?_)
    refine RunA.eff rfl rfl rfl (OpOK.callG (hp1' := [(1, .mp (imE x5.1) x5.2)]) (tk1' := []) (hpF := [(0, .cells 100 [.mp 1, dI (max a2 (w64 (a0.c + a1)))]), (2, .cells 24 (cE a0)), (3, .cells 69 (cE x4))]) (tkF := []) (res2 := resOf []) (nx2 := 4) [1] rfl rfl (m70f5_ok x4.1 (w64 (x4.2 + a1)) s1.2 x5 hx5) rfl rfl (qM rfl qZ) rfl rfl (gM rfl gZ) jZ (hR rfl (hR rfl (hR rfl hZ))) kZ rfl rfl rfl rfl rfl (bM rfl bZ) rfl rfl rfl rfl) rfl ?_
    refine RunA.nil ⟨?ex, _, _, rfl, ?_⟩
    case ex => exact trivial
    refine XQ.less (st' := ⟨[(0, .v (.one (.ptr 0 0))), (2, .v (.one (dI a1))), (21, .v (.one (dS a0.vs))), (22, .v (.one (dI (a0.vs.length : Int)))), (23, .v (.one (dI s1.1)))], [(0, .cells 100 [.mp 1, dI (max a2 (w64 (a0.c + a1)))]), (1, .mp (imE x5.1) x5.2), (2, .cells 24 (cE a0)), (3, .cells 69 (cE x4))], [], 4, 39, []⟩) (stle (tR rfl (tR rfl (tR rfl (tR rfl (tR rfl tZ))))) (hR rfl (hR rfl (hR rfl (hR rfl hZ)))) kZ rfl (Nat.le_trans hv0 (lb rfl)) rfl rfl rfl (bB rfl rfl (bM rfl (bB rfl rfl (bB rfl rfl bZ)))) rfl rfl) ?_
    refine XQ.inBlock ?_
    refine XQ.seq ?_
    refine XC.region ?_
    refine XL.rd rfl rfl (lb rfl) (RO.binInt rfl rfl rfl) ?_
    refine XL.rd rfl rfl (lb rfl) (RO.move rfl) ?_
    refine XL.nil ?_
    have e_ := Option.some.inj h1
    subst e_
    refine XQ.nextM ((w64 (s1.1 + 1)), x5) (stle (tR rfl (tR rfl (tR rfl (tR rfl (tR rfl tZ))))) (hR rfl (hR rfl (hR rfl hZ))) kZ rfl (Nat.le_trans hv0 (lb rfl)) rfl rfl rfl (bB rfl rfl (bM rfl (bB rfl rfl bZ))) rfl rfl) ho1
   ·
    replace h1 := condF c3 h1
    refine XC.exit ?_
    refine XQ.thenE ?_
    refine XQ.thenE ?_
    have e_ := Option.some.inj h1
    subst e_
    have e_ : _ = _ := ho1
    subst e_
    exact XQ.joinX s1.2 (stle tZ (hR rfl (hR rfl (hR rfl hZ))) kZ rfl (Nat.le_trans hv0 (lb rfl)) rfl rfl rfl (bB rfl rfl (bM rfl (bB rfl rfl bZ))) rfl rfl) h0
  ·
   intro o1 h0
   refine XQ.blockX ?_
   have e_ := Option.some.inj h0
   subst e_
   exact hQ0 _ _ _ (.inl rfl) rfl (stle tZ (hR rfl (hR rfl hZ)) kZ rfl (Nat.le_trans hv0 (lb rfl)) rfl rfl rfl (bB rfl rfl (bM rfl bZ)) rfl rfl)

/-- (*euclid/level.reader).part, in its part of memory -/
def m55f2 (a0 : (List UInt8)) (a1 : Bool) (a2 : Int) (a3 : Int) (a4 : IMap) : Option (((List UInt8)) × Bool × Int × Int × IMap) :=
  Option.bind (m54f1 ([117] : List UInt8) a0 a1 a2 a3 a4) fun (x1 : ((List UInt8))) =>
  Option.bind (cond (Lib.hasPrefix a0 ([117] : List UInt8))
    (some (true, x1))
    (Option.bind (m54f1 ([63] : List UInt8) x1 a1 a2 a3 a4) fun (x4 : ((List UInt8))) =>
  some ((Lib.hasPrefix x1 ([63] : List UInt8)), x4))) (fun (v2 : Bool × ((List UInt8))) => Option.bind (cond v2.1
    (Option.bind (m81f3 v2.2 a1 a2 a3 a4) fun (x5 : Int × ((List UInt8)) × Bool) =>
  Option.bind (cond (!(Lib.hasPrefix a0 ([117] : List UInt8)))
    (some (w64 ((-1) - x5.1)))
    (some x5.1)) (fun (v6 : Int) => Option.bind (m53f0 x5.2.1 x5.2.2 a2 a3 a4) fun (x7 : Unit) =>
  Option.bind (m54f1 ([43] : List UInt8) (x5.2.1.dropWhile (· == 32)) x5.2.2 a2 a3 a4) fun (x8 : ((List UInt8))) =>
  Option.bind (cond (Lib.hasPrefix (x5.2.1.dropWhile (· == 32)) ([43] : List UInt8))
    (Option.bind (m53f0 x8 x5.2.2 a2 a3 a4) fun (x11 : Unit) =>
  Option.bind (m81f3 (x8.dropWhile (· == 32)) x5.2.2 a2 a3 a4) fun (x12 : Int × ((List UInt8)) × Bool) =>
  some (x12.1, x12.2.1, x12.2.2))
    (some (0, x8, x5.2.2))) (fun (v9 : Int × ((List UInt8)) × Bool) => Option.bind (m17 v6 v9.1) fun (x10 : Lvl × Int) =>
  some (x10.2, x10.1.c, x10.1.vs, v9.2.1, v9.2.2))))
    (Option.bind (m81f3 v2.2 a1 a2 a3 a4) fun (x15 : Int × ((List UInt8)) × Bool) =>
  Option.bind (m15 x15.1) fun (x16 : Lvl × Int) =>
  some (x16.2, x16.1.c, x16.1.vs, x15.2.1, x15.2.2))) (fun (v3 : Int × Int × (List LV) × ((List UInt8)) × Bool) => Option.bind (cond (a2 == 0)
    (some v3.1)
    (some a2)) (fun (v4 : Int) => Option.bind (m71f4 (⟨v3.2.1, v3.2.2.1⟩ : Lvl) 0 a3 a4) fun (x5 : IMap) =>
  some (v3.2.2.2.1, v3.2.2.2.2, v4, (max a3 (w64 ((⟨v3.2.1, v3.2.2.1⟩ : Lvl).c + 0))), x5))))

set_option maxRecDepth 100000 in
set_option maxHeartbeats 8000000 in
theorem m55f2_ok (a0 : (List UInt8)) (a1 : Bool) (a2 : Int) (a3 : Int) (a4 : IMap) (r : ((List UInt8)) × Bool × Int × Int × IMap) (h0 : m55f2 a0 a1 a2 a3 a4 = some r) : CallM Tryz.prog 55 [.one (.ptr 0 0)] ⟨[(0, .cells 79 [dS8 a0, dB a1, dI a2, .ptr 1 0]), (1, .cells 100 [.mp 2, dI a3]), (2, .mp (imE a4.1) a4.2)], [], 3⟩ (resOf []) ⟨[(0, .cells 79 [dS8 r.1, dB r.2.1, dI r.2.2.1, .ptr 1 0]), (1, .cells 100 [.mp 2, dI r.2.2.2.1]), (2, .mp (imE r.2.2.2.2.1) r.2.2.2.2.2)], [], 5⟩ := by
  unfold m55f2 at h0
  refine CallM.of_bodyD ⟨[], [(0, .cells 79 [dS8 r.1, dB r.2.1, dI r.2.2.1, .ptr 1 0]), (1, .cells 100 [.mp 2, dI r.2.2.2.1]), (2, .mp (imE r.2.2.2.2.1) r.2.2.2.2.2)], [], 5, 55, []⟩ rfl rfl en_55 (lb rfl) rfl .nil (fun w0 M V0 Q hv0 hQ0 => ?_)
  simp only [entry]
  refine XC.seq ?_
  refine XC.region ?_
  refine XL.put rfl rfl (lb rfl) (OpOK.alloc z_24 rfl) ?_
  refine XL.nil ?_
  refine XQ.seq ?_
  refine XC.seq ?_
  refine XC.region ?_
  refine XL.rd rfl rfl (lb rfl) (RO.assign rfl) ?_
  refine XL.nil ?_
  refine XQ.seq ?_
  refine XC.seq ?_
  refine XC.region ?_
  refine XL.rd rfl rfl (lb rfl) (RO.move rfl) ?_
  refine bindK h0 (fun x1 hx1 h0 => ?_)
  refine XL.put rfl rfl (lb rfl) (OpOK.callG (hp1' := [(0, .cells 79 [dS8 x1, dB a1, dI a2, .ptr 1 0]), (1, .cells 100 [.mp 2, dI a3]), (2, .mp (imE a4.1) a4.2)]) (tk1' := []) (hpF := [(3, .cells 24 [dI 0, dN])]) (tkF := []) (res2 := resOf [.one (dB (Lib.hasPrefix a0 ([117] : List UInt8)))]) (nx2 := 4) [0, 1, 2] rfl rfl (m54f1_ok ([117] : List UInt8) a0 a1 a2 a3 a4 x1 hx1) rfl rfl (qB rfl rfl (qB rfl rfl (qM rfl qZ))) rfl rfl (gR rfl (gR rfl (gM rfl gZ))) jZ (hR rfl hZ) kZ rfl rfl rfl rfl rfl (bB rfl rfl (bB rfl rfl (bM rfl bZ))) rfl rfl rfl rfl) ?_
  refine XL.rd rfl rfl (lb rfl) (RO.assign rfl) ?_
  refine XL.nil ?_
  refine XQ.seq ?_
  refine XC.seq ?_
  refine XC.seq ?_
  refine XC.joinR (fun (v2 : Bool × ((List UInt8))) => ⟨[(0, .v (.one (.ptr 0 0))), (2, .v (.one (.ptr 3 0))), (4, .v (.one (dB (Lib.hasPrefix a0 ([117] : List UInt8))))), (13, .v (.one (dB v2.1)))], [(0, .cells 79 [dS8 v2.2, dB a1, dI a2, .ptr 1 0]), (1, .cells 100 [.mp 2, dI a3]), (2, .mp (imE a4.1) a4.2), (3, .cells 24 [dI 0, dN])], [], 4, 55, []⟩) (fun (v2 : Bool × ((List UInt8))) => (Option.bind (cond v2.1
      (Option.bind (m81f3 v2.2 a1 a2 a3 a4) fun (x5 : Int × ((List UInt8)) × Bool) =>
    Option.bind (cond (!(Lib.hasPrefix a0 ([117] : List UInt8)))
      (some (w64 ((-1) - x5.1)))
      (some x5.1)) (fun (v6 : Int) => Option.bind (m53f0 x5.2.1 x5.2.2 a2 a3 a4) fun (x7 : Unit) =>
    Option.bind (m54f1 ([43] : List UInt8) (x5.2.1.dropWhile (· == 32)) x5.2.2 a2 a3 a4) fun (x8 : ((List UInt8))) =>
    Option.bind (cond (Lib.hasPrefix (x5.2.1.dropWhile (· == 32)) ([43] : List UInt8))
      (Option.bind (m53f0 x8 x5.2.2 a2 a3 a4) fun (x11 : Unit) =>
    Option.bind (m81f3 (x8.dropWhile (· == 32)) x5.2.2 a2 a3 a4) fun (x12 : Int × ((List UInt8)) × Bool) =>
    some (x12.1, x12.2.1, x12.2.2))
      (some (0, x8, x5.2.2))) (fun (v9 : Int × ((List UInt8)) × Bool) => Option.bind (m17 v6 v9.1) fun (x10 : Lvl × Int) =>
    some (x10.2, x10.1.c, x10.1.vs, v9.2.1, v9.2.2))))
      (Option.bind (m81f3 v2.2 a1 a2 a3 a4) fun (x15 : Int × ((List UInt8)) × Bool) =>
    Option.bind (m15 x15.1) fun (x16 : Lvl × Int) =>
    some (x16.2, x16.1.c, x16.1.vs, x15.2.1, x15.2.2))) (fun (v3 : Int × Int × (List LV) × ((List UInt8)) × Bool) => Option.bind (cond (a2 == 0)
      (some v3.1)
      (some a2)) (fun (v4 : Int) => Option.bind (m71f4 (⟨v3.2.1, v3.2.2.1⟩ : Lvl) 0 a3 a4) fun (x5 : IMap) =>
    some (v3.2.2.2.1, v3.2.2.2.2, v4, (max a3 (w64 ((⟨v3.2.1, v3.2.2.1⟩ : Lvl).c + 0))), x5)))) = some r) ?_ ?_
  ·
   refine bindK h0 (fun w1_ h1 h0 => ?_)
   refine XC.region ?_
   refine XL.rd rfl rfl (lb rfl) (RO.move rfl) ?_
   refine XL.rd rfl rfl (lb rfl) (RO.move rfl) ?_
   refine XL.case (d := 10) (c := (Lib.hasPrefix a0 ([117] : List UInt8))) rfl (fun c3 => ?_) (fun c3 => ?_)
   ·
    replace h1 := condT c3 h1
    refine XL.no rfl rfl ?_
    refine XL.no rfl rfl ?_
    refine XL.rd rfl rfl (lb rfl) (RO.pickT rfl rfl) ?_
    refine XL.nil ?_
    have e_ := Option.some.inj h1
    subst e_
    exact XQ.joinR (true, x1) (stle (tR rfl (tR rfl (tR rfl (tR rfl tZ)))) (hR rfl (hR rfl (hR rfl (hR rfl hZ)))) kZ rfl (Nat.le_trans hv0 (lb rfl)) rfl rfl rfl (bB rfl rfl (bB rfl rfl (bM rfl (bB rfl rfl bZ)))) rfl rfl) h0
   ·
    replace h1 := condF c3 h1
    refine XL.rd rfl rfl (lb rfl) (RO.move rfl) ?_
    refine bindK h1 (fun x4 hx4 h1 => ?_)
    refine XL.put rfl rfl (lb rfl) (OpOK.callG (hp1' := [(0, .cells 79 [dS8 x4, dB a1, dI a2, .ptr 1 0]), (1, .cells 100 [.mp 2, dI a3]), (2, .mp (imE a4.1) a4.2)]) (tk1' := []) (hpF := [(3, .cells 24 [dI 0, dN])]) (tkF := []) (res2 := resOf [.one (dB (Lib.hasPrefix x1 ([63] : List UInt8)))]) (nx2 := 4) [0, 1, 2] rfl rfl (m54f1_ok ([63] : List UInt8) x1 a1 a2 a3 a4 x4 hx4) rfl rfl (qB rfl rfl (qB rfl rfl (qM rfl qZ))) rfl rfl (gR rfl (gR rfl (gM rfl gZ))) jZ (hR rfl hZ) kZ rfl rfl rfl rfl rfl (bB rfl rfl (bB rfl rfl (bM rfl bZ))) rfl rfl rfl rfl) ?_
    refine XL.rd rfl rfl (lb rfl) (RO.pickF rfl rfl) ?_
    refine XL.nil ?_
    have e_ := Option.some.inj h1
    subst e_
    exact XQ.joinR ((Lib.hasPrefix x1 ([63] : List UInt8)), x4) (stle (tR rfl (tR rfl (tR rfl (tR rfl tZ)))) (hR rfl (hR rfl (hR rfl (hR rfl hZ)))) kZ rfl (Nat.le_trans hv0 (lb rfl)) rfl rfl rfl (bB rfl rfl (bB rfl rfl (bM rfl (bB rfl rfl bZ)))) rfl rfl) h0
  ·
   intro v2 h0
   refine XQ.seq ?_
   refine XC.joinR (fun (v5 : Int × Int × (List LV) × ((List UInt8)) × Bool) => ⟨[(0, .v (.one (.ptr 0 0))), (2, .v (.one (.ptr 3 0))), (3, .v (.one (dI v5.1)))], [(0, .cells 79 [dS8 v5.2.2.2.1, dB v5.2.2.2.2, dI a2, .ptr 1 0]), (1, .cells 100 [.mp 2, dI a3]), (2, .mp (imE a4.1) a4.2), (3, .cells 24 [dI v5.2.1, dS v5.2.2.1])], [], 4, 55, []⟩) (fun (v5 : Int × Int × (List LV) × ((List UInt8)) × Bool) => (Option.bind (cond (a2 == 0)
       (some v5.1)
       (some a2)) (fun (v6 : Int) => Option.bind (m71f4 (⟨v5.2.1, v5.2.2.1⟩ : Lvl) 0 a3 a4) fun (x7 : IMap) =>
     some (v5.2.2.2.1, v5.2.2.2.2, v6, (max a3 (w64 ((⟨v5.2.1, v5.2.2.1⟩ : Lvl).c + 0))), x7))) = some r) ?_ ?_
   ·
    refine bindK h0 (fun w1_ h1 h0 => ?_)
    refine XC.cond (b := v2.1) rfl (fun c6 => ?_) (fun c6 => ?_)
    ·
     replace h1 := condT c6 h1
     refine XC.seq ?_
     refine XC.region ?_
     refine XL.rd rfl rfl (lb rfl) (RO.move rfl) ?_
     refine bindK h1 (fun x7 hx7 h1 => ?_)
     refine XL.put rfl rfl (lb rfl) (OpOK.callG (hp1' := [(0, .cells 79 [dS8 x7.2.1, dB x7.2.2, dI a2, .ptr 1 0]), (1, .cells 100 [.mp 2, dI a3]), (2, .mp (imE a4.1) a4.2)]) (tk1' := []) (hpF := [(3, .cells 24 [dI 0, dN])]) (tkF := []) (res2 := resOf [.one (dI x7.1)]) (nx2 := 4) [0, 1, 2] rfl rfl (m81f3_ok v2.2 a1 a2 a3 a4 x7 hx7) rfl rfl (qB rfl rfl (qB rfl rfl (qM rfl qZ))) rfl rfl (gR rfl (gR rfl (gM rfl gZ))) jZ (hR rfl hZ) kZ rfl rfl rfl rfl rfl (bB rfl rfl (bB rfl rfl (bM rfl bZ))) rfl rfl rfl rfl) ?_
     refine XL.rd rfl rfl (lb rfl) (RO.assign rfl) ?_
     refine XL.nil ?_
     refine XQ.seq ?_
     refine XC.seq ?_
     refine XC.seq ?_
     refine XC.region ?_
     refine XL.rd rfl rfl (lb rfl) (RO.move rfl) ?_
     refine XL.rd rfl rfl (lb rfl) (RO.not rfl) ?_
     refine XL.nil ?_
     refine XQ.seq ?_
     refine XC.joinR (fun (v8 : Int) => ⟨[(0, .v (.one (.ptr 0 0))), (2, .v (.one (.ptr 3 0))), (5, .v (.one (dI v8)))], [(0, .cells 79 [dS8 x7.2.1, dB x7.2.2, dI a2, .ptr 1 0]), (1, .cells 100 [.mp 2, dI a3]), (2, .mp (imE a4.1) a4.2), (3, .cells 24 [dI 0, dN])], [], 4, 55, []⟩) (fun (v8 : Int) => (Option.bind (m53f0 x7.2.1 x7.2.2 a2 a3 a4) fun (x9 : Unit) =>
       Option.bind (m54f1 ([43] : List UInt8) (x7.2.1.dropWhile (· == 32)) x7.2.2 a2 a3 a4) fun (x10 : ((List UInt8))) =>
       Option.bind (cond (Lib.hasPrefix (x7.2.1.dropWhile (· == 32)) ([43] : List UInt8))
         (Option.bind (m53f0 x10 x7.2.2 a2 a3 a4) fun (x13 : Unit) =>
       Option.bind (m81f3 (x10.dropWhile (· == 32)) x7.2.2 a2 a3 a4) fun (x14 : Int × ((List UInt8)) × Bool) =>
       some (x14.1, x14.2.1, x14.2.2))
         (some (0, x10, x7.2.2))) (fun (v11 : Int × ((List UInt8)) × Bool) => Option.bind (m17 v8 v11.1) fun (x12 : Lvl × Int) =>
       some (x12.2, x12.1.c, x12.1.vs, v11.2.1, v11.2.2))) = some w1_) ?_ ?_
     ·
      refine bindK h1 (fun w2_ h2 h1 => ?_)
      refine XC.cond (b := (!(Lib.hasPrefix a0 ([117] : List UInt8)))) rfl (fun c9 => ?_) (fun c9 => ?_)
      ·
       replace h2 := condT c9 h2
       refine XC.region ?_
       refine XL.rd rfl rfl (lb rfl) (RO.move rfl) ?_
       refine XL.rd rfl rfl (lb rfl) (RO.binInt rfl rfl rfl) ?_
       refine XL.rd rfl rfl (lb rfl) (RO.assign rfl) ?_
       refine XL.nil ?_
       have e_ := Option.some.inj h2
       subst e_
       exact XQ.joinR (w64 ((-1) - x7.1)) (stle (tR rfl (tR rfl (tR rfl tZ))) (hR rfl (hR rfl (hR rfl (hR rfl hZ)))) kZ rfl (Nat.le_trans hv0 (lb rfl)) rfl rfl rfl (bB rfl rfl (bB rfl rfl (bM rfl (bB rfl rfl bZ)))) rfl rfl) h1
      ·
       replace h2 := condF c9 h2
       refine XC.skip ?_
       have e_ := Option.some.inj h2
       subst e_
       exact XQ.joinR x7.1 (stle (tR rfl (tR rfl (tR rfl tZ))) (hR rfl (hR rfl (hR rfl (hR rfl hZ)))) kZ rfl (Nat.le_trans hv0 (lb rfl)) rfl rfl rfl (bB rfl rfl (bB rfl rfl (bM rfl (bB rfl rfl bZ)))) rfl rfl) h1
     ·
      intro v8 h1
      refine XQ.seq ?_
      refine XC.seq ?_
      refine XC.region ?_
      refine XL.rd rfl rfl (lb rfl) (RO.assign rfl) ?_
      refine XL.nil ?_
      refine XQ.seq ?_
      refine XC.seq ?_
      refine XC.region ?_
      refine XL.rd rfl rfl (lb rfl) (RO.move rfl) ?_
      refine bindK h1 (fun x10 hx10 h1 => ?_)
      refine XL.put rfl rfl (lb rfl) (OpOK.callG (hp1' := [(0, .cells 79 [dS8 (x7.2.1.dropWhile (· == 32)), dB x7.2.2, dI a2, .ptr 1 0]), (1, .cells 100 [.mp 2, dI a3]), (2, .mp (imE a4.1) a4.2)]) (tk1' := []) (hpF := [(3, .cells 24 [dI 0, dN])]) (tkF := []) (res2 := resOf []) (nx2 := 4) [0, 1, 2] rfl rfl (m53f0_ok x7.2.1 x7.2.2 a2 a3 a4 x10 hx10) rfl rfl (qB rfl rfl (qB rfl rfl (qM rfl qZ))) rfl rfl (gR rfl (gR rfl (gM rfl gZ))) jZ (hR rfl hZ) kZ rfl rfl rfl rfl rfl (bB rfl rfl (bB rfl rfl (bM rfl bZ))) rfl rfl rfl rfl) ?_
      refine XL.nil ?_
      refine XQ.seq ?_
      refine XC.seq ?_
      refine XC.seq ?_
      refine XC.region ?_
      refine XL.rd rfl rfl (lb rfl) (RO.move rfl) ?_
      refine bindK h1 (fun x11 hx11 h1 => ?_)
      refine XL.put rfl rfl (lb rfl) (OpOK.callG (hp1' := [(0, .cells 79 [dS8 x11, dB x7.2.2, dI a2, .ptr 1 0]), (1, .cells 100 [.mp 2, dI a3]), (2, .mp (imE a4.1) a4.2)]) (tk1' := []) (hpF := [(3, .cells 24 [dI 0, dN])]) (tkF := []) (res2 := resOf [.one (dB (Lib.hasPrefix (x7.2.1.dropWhile (· == 32)) ([43] : List UInt8)))]) (nx2 := 4) [0, 1, 2] rfl rfl (m54f1_ok ([43] : List UInt8) (x7.2.1.dropWhile (· == 32)) x7.2.2 a2 a3 a4 x11 hx11) rfl rfl (qB rfl rfl (qB rfl rfl (qM rfl qZ))) rfl rfl (gR rfl (gR rfl (gM rfl gZ))) jZ (hR rfl hZ) kZ rfl rfl rfl rfl rfl (bB rfl rfl (bB rfl rfl (bM rfl bZ))) rfl rfl rfl rfl) ?_
      refine XL.nil ?_
      refine XQ.seq ?_
      refine XC.joinR (fun (v12 : Int × ((List UInt8)) × Bool) => ⟨[(0, .v (.one (.ptr 0 0))), (2, .v (.one (.ptr 3 0))), (5, .v (.one (dI v8))), (6, .v (.one (dI v12.1)))], [(0, .cells 79 [dS8 v12.2.1, dB v12.2.2, dI a2, .ptr 1 0]), (1, .cells 100 [.mp 2, dI a3]), (2, .mp (imE a4.1) a4.2), (3, .cells 24 [dI 0, dN])], [], 4, 55, []⟩) (fun (v12 : Int × ((List UInt8)) × Bool) => (Option.bind (m17 v8 v12.1) fun (x13 : Lvl × Int) =>
        some (x13.2, x13.1.c, x13.1.vs, v12.2.1, v12.2.2)) = some w1_) ?_ ?_
      ·
       refine bindK h1 (fun w2_ h2 h1 => ?_)
       refine XC.cond (b := (Lib.hasPrefix (x7.2.1.dropWhile (· == 32)) ([43] : List UInt8))) rfl (fun c13 => ?_) (fun c13 => ?_)
       ·
        replace h2 := condT c13 h2
        refine XC.seq ?_
        refine XC.region ?_
        refine XL.rd rfl rfl (lb rfl) (RO.move rfl) ?_
        refine bindK h2 (fun x14 hx14 h2 => ?_)
        refine XL.put rfl rfl (lb rfl) (OpOK.callG (hp1' := [(0, .cells 79 [dS8 (x11.dropWhile (· == 32)), dB x7.2.2, dI a2, .ptr 1 0]), (1, .cells 100 [.mp 2, dI a3]), (2, .mp (imE a4.1) a4.2)]) (tk1' := []) (hpF := [(3, .cells 24 [dI 0, dN])]) (tkF := []) (res2 := resOf []) (nx2 := 4) [0, 1, 2] rfl rfl (m53f0_ok x11 x7.2.2 a2 a3 a4 x14 hx14) rfl rfl (qB rfl rfl (qB rfl rfl (qM rfl qZ))) rfl rfl (gR rfl (gR rfl (gM rfl gZ))) jZ (hR rfl hZ) kZ rfl rfl rfl rfl rfl (bB rfl rfl (bB rfl rfl (bM rfl bZ))) rfl rfl rfl rfl) ?_
        refine XL.nil ?_
        refine XQ.seq ?_
        refine XC.region ?_
        refine XL.rd rfl rfl (lb rfl) (RO.move rfl) ?_
        refine bindK h2 (fun x15 hx15 h2 => ?_)
        refine XL.put rfl rfl (lb rfl) (OpOK.callG (hp1' := [(0, .cells 79 [dS8 x15.2.1, dB x15.2.2, dI a2, .ptr 1 0]), (1, .cells 100 [.mp 2, dI a3]), (2, .mp (imE a4.1) a4.2)]) (tk1' := []) (hpF := [(3, .cells 24 [dI 0, dN])]) (tkF := []) (res2 := resOf [.one (dI x15.1)]) (nx2 := 4) [0, 1, 2] rfl rfl (m81f3_ok (x11.dropWhile (· == 32)) x7.2.2 a2 a3 a4 x15 hx15) rfl rfl (qB rfl rfl (qB rfl rfl (qM rfl qZ))) rfl rfl (gR rfl (gR rfl (gM rfl gZ))) jZ (hR rfl hZ) kZ rfl rfl rfl rfl rfl (bB rfl rfl (bB rfl rfl (bM rfl bZ))) rfl rfl rfl rfl) ?_
        refine XL.rd rfl rfl (lb rfl) (RO.assign rfl) ?_
        refine XL.nil ?_
        have e_ := Option.some.inj h2
        subst e_
        exact XQ.joinR (x15.1, x15.2.1, x15.2.2) (stle (tR rfl (tR rfl (tR rfl (tR rfl tZ)))) (hR rfl (hR rfl (hR rfl (hR rfl hZ)))) kZ rfl (Nat.le_trans hv0 (lb rfl)) rfl rfl rfl (bB rfl rfl (bB rfl rfl (bM rfl (bB rfl rfl bZ)))) rfl rfl) h1
       ·
        replace h2 := condF c13 h2
        refine XC.skip ?_
        have e_ := Option.some.inj h2
        subst e_
        exact XQ.joinR (0, x11, x7.2.2) (stle (tR rfl (tR rfl (tR rfl (tR rfl tZ)))) (hR rfl (hR rfl (hR rfl (hR rfl hZ)))) kZ rfl (Nat.le_trans hv0 (lb rfl)) rfl rfl rfl (bB rfl rfl (bB rfl rfl (bM rfl (bB rfl rfl bZ)))) rfl rfl) h1
      ·
       intro v12 h1
       refine XQ.seq ?_
       refine XC.region ?_
       refine XL.rd rfl rfl (lb rfl) (RO.move rfl) ?_
       refine XL.rd rfl rfl (lb rfl) (RO.move rfl) ?_
       refine bindK h1 (fun x16 hx16 h1 => ?_)
       refine XL.put rfl rfl (lb rfl) (OpOK.callFun (m17_ok v8 v12.1 x16 hx16) rfl (.cons (.one (.d _)) (.cons (.one (.d _)) .nil))) ?_
       refine XL.rd rfl rfl (lb rfl) (RO.move rfl) ?_
       refine XL.rd rfl rfl (lb rfl) (RO.extract rfl rfl) ?_
       refine XL.rd rfl rfl (lb rfl) (RO.extract rfl rfl) ?_
       refine XL.eff rfl rfl (OpOK.store ag_24 rfl rfl rfl rfl (lb rfl) rfl) ?_
       refine XL.rd rfl rfl (lb rfl) (RO.assign rfl) ?_
       refine XL.nil ?_
       have e_ := Option.some.inj h1
       subst e_
       exact XQ.joinR (x16.2, x16.1.c, x16.1.vs, v12.2.1, v12.2.2) (stle (tR rfl (tR rfl (tR rfl tZ))) (hR rfl (hR rfl (hR rfl (hR rfl hZ)))) kZ rfl (Nat.le_trans hv0 (lb rfl)) rfl rfl rfl (bB rfl rfl (bB rfl rfl (bM rfl (bB rfl rfl bZ)))) rfl rfl) h0
    ·
     replace h1 := condF c6 h1
     refine XC.region ?_
     refine XL.rd rfl rfl (lb rfl) (RO.move rfl) ?_
     refine bindK h1 (fun x17 hx17 h1 => ?_)
     refine XL.put rfl rfl (lb rfl) (OpOK.callG (hp1' := [(0, .cells 79 [dS8 x17.2.1, dB x17.2.2, dI a2, .ptr 1 0]), (1, .cells 100 [.mp 2, dI a3]), (2, .mp (imE a4.1) a4.2)]) (tk1' := []) (hpF := [(3, .cells 24 [dI 0, dN])]) (tkF := []) (res2 := resOf [.one (dI x17.1)]) (nx2 := 4) [0, 1, 2] rfl rfl (m81f3_ok v2.2 a1 a2 a3 a4 x17 hx17) rfl rfl (qB rfl rfl (qB rfl rfl (qM rfl qZ))) rfl rfl (gR rfl (gR rfl (gM rfl gZ))) jZ (hR rfl hZ) kZ rfl rfl rfl rfl rfl (bB rfl rfl (bB rfl rfl (bM rfl bZ))) rfl rfl rfl rfl) ?_
     refine bindK h1 (fun x18 hx18 h1 => ?_)
     refine XL.put rfl rfl (lb rfl) (OpOK.callFun (m15_ok x17.1 x18 hx18) rfl (.cons (.one (.d _)) .nil)) ?_
     refine XL.rd rfl rfl (lb rfl) (RO.move rfl) ?_
     refine XL.rd rfl rfl (lb rfl) (RO.extract rfl rfl) ?_
     refine XL.rd rfl rfl (lb rfl) (RO.extract rfl rfl) ?_
     refine XL.eff rfl rfl (OpOK.store ag_24 rfl rfl rfl rfl (lb rfl) rfl) ?_
     refine XL.rd rfl rfl (lb rfl) (RO.assign rfl) ?_
     refine XL.nil ?_
     have e_ := Option.some.inj h1
     subst e_
     exact XQ.joinR (x18.2, x18.1.c, x18.1.vs, x17.2.1, x17.2.2) (stle (tR rfl (tR rfl (tR rfl tZ))) (hR rfl (hR rfl (hR rfl (hR rfl hZ)))) kZ rfl (Nat.le_trans hv0 (lb rfl)) rfl rfl rfl (bB rfl rfl (bB rfl rfl (bM rfl (bB rfl rfl bZ)))) rfl rfl) h0
   ·
    intro v5 h0
    refine XQ.seq ?_
    refine XC.seq ?_
    refine XC.seq ?_
    refine XC.region ?_
    refine XL.rd rfl rfl (lb rfl) (RO.move rfl) ?_
    refine XL.rd rfl rfl (lb rfl) (RO.nilCheckPtr rfl) ?_
    refine XL.rd rfl rfl (lb rfl) (RO.fieldOwn fo_79_2 rfl) ?_
    refine XL.rd rfl rfl (lb rfl) (RO.loadOwn ag_27 rfl rfl rfl) ?_
    refine XL.rd rfl rfl (lb rfl) (RO.binInt rfl rfl rfl) ?_
    refine XL.nil ?_
    refine XQ.seq ?_
    refine XC.joinR (fun (v19 : Int) => ⟨[(0, .v (.one (.ptr 0 0))), (2, .v (.one (.ptr 3 0)))], [(0, .cells 79 [dS8 v5.2.2.2.1, dB v5.2.2.2.2, dI v19, .ptr 1 0]), (1, .cells 100 [.mp 2, dI a3]), (2, .mp (imE a4.1) a4.2), (3, .cells 24 [dI v5.2.1, dS v5.2.2.1])], [], 4, 55, []⟩) (fun (v19 : Int) => (Option.bind (m71f4 (⟨v5.2.1, v5.2.2.1⟩ : Lvl) 0 a3 a4) fun (x20 : IMap) =>
      some (v5.2.2.2.1, v5.2.2.2.2, v19, (max a3 (w64 ((⟨v5.2.1, v5.2.2.1⟩ : Lvl).c + 0))), x20)) = some r) ?_ ?_
    ·
     refine bindK h0 (fun w1_ h1 h0 => ?_)
     refine XC.cond (b := (a2 == 0)) rfl (fun c20 => ?_) (fun c20 => ?_)
     ·
      replace h1 := condT c20 h1
      refine XC.region ?_
      refine XL.rd rfl rfl (lb rfl) (RO.move rfl) ?_
      refine XL.rd rfl rfl (lb rfl) (RO.move rfl) ?_
      refine XL.rd rfl rfl (lb rfl) (RO.nilCheckPtr rfl) ?_
      refine XL.rd rfl rfl (lb rfl) (RO.fieldOwn fo_79_2 rfl) ?_
      refine XL.eff rfl rfl (OpOK.store ag_27 rfl rfl rfl rfl (lb rfl) rfl) ?_
      refine XL.nil ?_
      have e_ := Option.some.inj h1
      subst e_
      exact XQ.joinR v5.1 (stle (tR rfl (tR rfl tZ)) (hR rfl (hR rfl (hR rfl (hR rfl hZ)))) kZ rfl (Nat.le_trans hv0 (lb rfl)) rfl rfl rfl (bB rfl rfl (bB rfl rfl (bM rfl (bB rfl rfl bZ)))) rfl rfl) h0
     ·
      replace h1 := condF c20 h1
      refine XC.skip ?_
      have e_ := Option.some.inj h1
      subst e_
      exact XQ.joinR a2 (stle (tR rfl (tR rfl tZ)) (hR rfl (hR rfl (hR rfl (hR rfl hZ)))) kZ rfl (Nat.le_trans hv0 (lb rfl)) rfl rfl rfl (bB rfl rfl (bB rfl rfl (bM rfl (bB rfl rfl bZ)))) rfl rfl) h0
    ·
     intro v19 h0
     refine XQ.seq ?_
     refine XC.anyRun [5] [] mixed (by kernel_rfl) (by kernel_rfl) (by kernel_rfl) ?_
     refine RunA.rd rfl rfl rfl (OpOK.of_ro (RO.move rfl)) rfl ?_
     refine RunA.rd rfl rfl rfl (OpOK.of_ro (RO.nilCheckPtr rfl)) rfl ?_
     refine RunA.rd rfl rfl rfl (OpOK.of_ro (RO.fieldOwn fo_79_3 rfl)) rfl ?_
     refine RunA.rd rfl rfl rfl (OpOK.of_ro (RO.loadOwn ag_76 rfl rfl rfl)) rfl ?_
     refine RunA.rd rfl rfl rfl (OpOK.of_ro (RO.loadOwnAgg ag_24 rfl rfl rfl rfl)) rfl ?_
     refine bindK h0 (fun x21 hx21 h0 => ?_)
     refine RunA.eff rfl rfl rfl (OpOK.callG (hp1' := [(1, .cells 100 [.mp 2, dI (max a3 (w64 ((⟨v5.2.1, v5.2.2.1⟩ : Lvl).c + 0)))]), (2, .mp (imE x21.1) x21.2)]) (tk1' := []) (hpF := [(0, .cells 79 [dS8 v5.2.2.2.1, dB v5.2.2.2.2, dI v19, .ptr 1 0]), (3, .cells 24 [dI v5.2.1, dS v5.2.2.1])]) (tkF := []) (res2 := resOf []) (nx2 := 5) [1, 2] rfl rfl (m71f4_ok (⟨v5.2.1, v5.2.2.1⟩ : Lvl) 0 a3 a4 x21 hx21) rfl rfl (qB rfl rfl (qM rfl qZ)) rfl rfl (gR rfl (gM rfl gZ)) jZ (hR rfl (hR rfl hZ)) kZ rfl rfl rfl rfl rfl (bB rfl rfl (bM rfl bZ)) rfl rfl rfl rfl) rfl ?_
     refine RunA.nil ⟨?ex, _, _, rfl, ?_⟩
     case ex => exact trivial
     refine XQ.less (st' := ⟨[], [(0, .cells 79 [dS8 v5.2.2.2.1, dB v5.2.2.2.2, dI v19, .ptr 1 0]), (1, .cells 100 [.mp 2, dI (max a3 (w64 ((⟨v5.2.1, v5.2.2.1⟩ : Lvl).c + 0)))]), (2, .mp (imE x21.1) x21.2), (3, .cells 24 [dI v5.2.1, dS v5.2.2.1])], [], 5, 55, []⟩) (stle tZ (hR rfl (hR rfl (hR rfl (hR rfl hZ)))) kZ rfl (Nat.le_trans hv0 (lb rfl)) rfl rfl rfl (bB rfl rfl (bB rfl rfl (bM rfl (bB rfl rfl bZ)))) rfl rfl) ?_
     have e_ := Option.some.inj h0
     subst e_
     exact hQ0 _ _ _ (.inl rfl) rfl (stle tZ (hR rfl (hR rfl (hR rfl hZ))) kZ rfl (Nat.le_trans hv0 (lb rfl)) rfl rfl rfl (bB rfl rfl (bB rfl rfl (bM rfl bZ))) rfl rfl)

/-- maps.Keys[euclid/level.offsets,int,int], in its part of memory -/
def m83f7 (a0 : IMap) : Option Unit :=
  some ()

set_option maxRecDepth 100000 in
set_option maxHeartbeats 8000000 in
theorem m83f7_ok (a0 : IMap) (r : Unit) (h0 : m83f7 a0 = some r) : CallM Tryz.prog 83 [.one (.mp 0)] ⟨[(0, .mp (imE a0.1) a0.2)], [], 1⟩ (resOf [.one (.fn 102 [(1, 0)])]) ⟨[(0, .mp (imE a0.1) a0.2), (1, .cells 98 [.mp 0])], [], 2⟩ := by
  unfold m83f7 at h0
  refine CallM.of_bodyD ⟨[(2, .v (.one (.fn 102 [(1, 0)])))], [(0, .mp (imE a0.1) a0.2), (1, .cells 98 [.mp 0])], [], 2, 4, []⟩ rfl rfl en_83 (lb rfl) rfl (RAs.tmp rfl .nil) (fun w0 M V0 Q hv0 hQ0 => ?_)
  simp only [entry]
  refine XC.seq ?_
  refine XC.region ?_
  refine XL.put rfl rfl (lb rfl) (OpOK.box rfl) ?_
  refine XL.rd rfl rfl (lb rfl) (RO.assign rfl) ?_
  refine XL.nil ?_
  refine XQ.seq ?_
  refine XC.seq ?_
  refine XC.region ?_
  refine XL.rd rfl rfl (lb rfl) (RO.makeFunc1 rfl) ?_
  refine XL.rd rfl rfl (lb rfl) (RO.assign rfl) ?_
  refine XL.nil ?_
  refine XQ.seq ?_
  refine XC.ret ?_
  have e_ := Option.some.inj h0
  subst e_
  exact hQ0 _ _ _ (.inr rfl) rfl (stle (tR rfl tZ) (hR rfl (hR rfl hZ)) kZ rfl (Nat.le_trans hv0 (lb rfl)) rfl rfl rfl (bM rfl (bB rfl rfl bZ)) rfl rfl)

def m56f6_l0 (a1 : IMap) (s1 : Int × (List LV)) : Option (LO (Int × (List LV)) (((List LV)))) :=
  cond (decide (s1.1 < ((imKeys a1).length : Int)))
    (Option.bind (idx (imKeys a1) s1.1) fun (x5 : Int) =>
  guardO (Nat.ble (s1.2.length + ([(x5, (imVal a1 x5))]).length) 1000000000)
  (some (.next ((w64 (s1.1 + 1)), (s1.2 ++ ([(x5, (imVal a1 x5))]))))))
    (some (.done s1.2))

/-- (*euclid/level.sum).level, in its part of memory -/
def m56f6 (a0 : Int) (a1 : IMap) : Option (Int × Int × (List LV)) :=
  Option.bind (m83f7 a1) fun (x1 : Unit) =>
  guardO (imOk a1)
  (Option.bind (loopN (m56f6_l0 a1) FUEL (0, ([] : List LV))) (fun (o3 : (List LV)) => guardO (Nat.ble (⟨a0, o3⟩ : Lvl).vs.length 100000)
  (some ((limL (⟨a0, o3⟩ : Lvl)).2, ((limL (⟨a0, o3⟩ : Lvl)).1).c, ((limL (⟨a0, o3⟩ : Lvl)).1).vs))))

set_option maxRecDepth 100000 in
set_option maxHeartbeats 8000000 in
theorem m56f6_ok (a0 : Int) (a1 : IMap) (r : Int × Int × (List LV)) (h0 : m56f6 a0 a1 = some r) : CallM Tryz.prog 56 [.one (.ptr 0 0)] ⟨[(0, .cells 100 [.mp 1, dI a0]), (1, .mp (imE a1.1) a1.2)], [], 2⟩ (resOf [.agg [dI r.2.1, dS r.2.2], .one (dI r.1)]) ⟨[(0, .cells 100 [.mp 1, dI a0]), (1, .mp (imE a1.1) a1.2), (2, .cells 24 [dI r.2.1, dS r.2.2])], [], 6⟩ := by
  unfold m56f6 at h0
  refine CallM.of_bodyD ⟨[(2, .v (.one (.ptr 2 0))), (3, .v (.one (dI r.1)))], [(0, .cells 100 [.mp 1, dI a0]), (1, .mp (imE a1.1) a1.2), (2, .cells 24 [dI r.2.1, dS r.2.2])], [], 6, 41, []⟩ rfl rfl en_56 (lb rfl) rfl (RAs.agg ag_24 rfl rfl rfl rfl (RAs.tmp rfl .nil)) (fun w0 M V0 Q hv0 hQ0 => ?_)
  simp only [entry]
  refine XC.seq ?_
  refine XC.region ?_
  refine XL.put rfl rfl (lb rfl) (OpOK.alloc z_24 rfl) ?_
  refine XL.rd rfl rfl (lb rfl) (RO.assign rfl) ?_
  refine XL.nil ?_
  refine XQ.seq ?_
  refine XC.seq ?_
  refine XC.region ?_
  refine XL.rd rfl rfl (lb rfl) (RO.move rfl) ?_
  refine XL.rd rfl rfl (lb rfl) (RO.nilCheckPtr rfl) ?_
  refine XL.rd rfl rfl (lb rfl) (RO.fieldOwn fo_100_1 rfl) ?_
  refine XL.rd rfl rfl (lb rfl) (RO.loadOwn ag_3 rfl rfl rfl) ?_
  refine XL.rd rfl rfl (lb rfl) (RO.build1 bd_24 rfl rfl rfl) ?_
  refine XL.put rfl rfl (lb rfl) (OpOK.alloc z_24 rfl) ?_
  refine XL.eff rfl rfl (OpOK.store ag_24 rfl rfl rfl rfl (lb rfl) rfl) ?_
  refine XL.nil ?_
  refine XQ.seq ?_
  refine XC.seq ?_
  refine XC.seq ?_
  refine XC.region ?_
  refine XL.rd rfl rfl (lb rfl) (RO.move rfl) ?_
  refine XL.rd rfl rfl (lb rfl) (RO.nilCheckPtr rfl) ?_
  refine XL.rd rfl rfl (lb rfl) (RO.fieldOwn fo_100_0 rfl) ?_
  refine XL.rd rfl rfl (lb rfl) (RO.loadOwn ag_98 rfl rfl rfl) ?_
  refine bindK h0 (fun x1 hx1 h0 => ?_)
  refine XL.put rfl rfl (lb rfl) (OpOK.callG (hp1' := [(1, .mp (imE a1.1) a1.2), (4, .cells 98 [.mp 1])]) (tk1' := []) (hpF := [(0, .cells 100 [.mp 1, dI a0]), (2, .cells 24 [dI 0, dN]), (3, .cells 24 [dI a0, dN])]) (tkF := []) (res2 := resOf [.one (.fn 102 [(4, 0)])]) (nx2 := 5) [1] rfl rfl (m83f7_ok a1 x1 hx1) rfl rfl (qM rfl (qB rfl rfl qZ)) rfl rfl (gM rfl gZ) jZ (hR rfl (hR rfl (hR rfl hZ))) kZ rfl rfl rfl rfl rfl (bM rfl bZ) rfl rfl rfl rfl) ?_
  refine guardK h0 (fun g2 h0 => ?_)
  refine XL.put rfl rfl (lb rfl) (OpOK.sortedKeys rfl rfl rfl rfl g2) ?_
  refine XL.rd rfl rfl (lb rfl) (RO.lenE (α := Int) sl_46 rfl (.d _)) ?_
  refine XL.rd rfl rfl (lb rfl) (RO.move rfl) ?_
  refine XL.nil ?_
  refine XQ.seq ?_
  refine XC.block ?_
  refine XC.joinX 0 (fun (o3 : (List LV)) => ⟨[(2, .v (.one (.ptr 2 0))), (4, .v (.one (.ptr 3 0)))], [(0, .cells 100 [.mp 1, dI a0]), (1, .mp (imE a1.1) a1.2), (2, .cells 24 [dI 0, dN]), (3, .cells 24 [dI a0, dA 5 o3]), (4, .cells 98 [.mp 1])], [(5, some ⟨69, 2, (Enc.encL o3).length⟩)], 6, 41, []⟩) (fun (o3 : (List LV)) => (guardO (Nat.ble (⟨a0, o3⟩ : Lvl).vs.length 100000)
    (some ((limL (⟨a0, o3⟩ : Lvl)).2, ((limL (⟨a0, o3⟩ : Lvl)).1).c, ((limL (⟨a0, o3⟩ : Lvl)).1).vs))) = some r) ?_ ?_
  ·
   refine XC.adoptC (i := 3) (off := 1) 69 2 rfl rfl ?_
   refine bindK h0 (fun o4 hl1 h0 => ?_)
   refine XC.loopM (m56f6_l0 a1) (fun s1 => ⟨[(0, .v (.one (.ptr 0 0))), (2, .v (.one (.ptr 2 0))), (4, .v (.one (.ptr 3 0))), (17, .v (.one (dS ((imKeys a1) : List Int)))), (18, .v (.one (dI ((imKeys a1).length : Int)))), (19, .v (.one (dI s1.1)))], [(0, .cells 100 [.mp 1, dI a0]), (1, .mp (imE a1.1) a1.2), (2, .cells 24 [dI 0, dN]), (3, .cells 24 [dI a0, dA 5 s1.2]), (4, .cells 98 [.mp 1])], [(5, some ⟨69, 2, (Enc.encL s1.2).length⟩)], 6, 41, []⟩) (0, ([] : List LV)) o4 (stle (tR rfl (tR rfl (tR rfl (tR rfl (tR rfl (tR rfl tZ)))))) (hR rfl (hR rfl (hR rfl (hR rfl (hR rfl hZ))))) (kR rfl kZ) rfl (Nat.le_trans hv0 (lb rfl)) rfl rfl rfl (bB rfl rfl (bM rfl (bB rfl rfl (bB rfl rfl (bB rfl rfl bZ))))) rfl rfl) hl1 (fun s1 n1 oo1 h1 ho1 => ?_)
   unfold m56f6_l0 at h1
   refine XC.seq ?_
   refine XC.region ?_
   refine XL.rd rfl rfl (lb rfl) (RO.binInt rfl rfl rfl) ?_
   refine XL.nil ?_
   refine XQ.seq ?_
   refine XC.seq ?_
   refine XC.cond (b := (decide (s1.1 < ((imKeys a1).length : Int)))) rfl (fun c5 => ?_) (fun c5 => ?_)
   ·
    replace h1 := condT c5 h1
    refine XC.skip ?_
    refine XQ.seq ?_
    refine XC.seq ?_
    refine XC.block ?_
    refine XC.seq ?_
    refine XC.region ?_
    refine bindK h1 (fun x6 hx6 h1 => ?_)
    refine XL.rd rfl rfl (lb rfl) (RO.indexE (α := Int) sl_46 rfl (.d _) rfl hx6) ?_
    refine XL.rd rfl rfl (lb rfl) (RO.loadPel ag_3 rfl rfl) ?_
    refine XL.rd rfl rfl (lb rfl) (RO.assign rfl) ?_
    refine XL.nil ?_
    refine XQ.seq ?_
    refine XC.anyRun [11, 13] [] mixed (by kernel_rfl) (by kernel_rfl) (by kernel_rfl) ?_
    refine RunA.rd rfl rfl rfl (OpOK.of_ro (RO.fieldOwn fo_24_1 rfl)) rfl ?_
    refine RunA.rd rfl rfl rfl (OpOK.of_ro (RO.loadOwn ag_22 rfl rfl rfl)) rfl ?_
    refine RunA.rd rfl rfl rfl (OpOK.of_ro (RO.move rfl)) rfl ?_
    refine RunA.rd rfl rfl rfl (OpOK.of_ro (RO.move rfl)) rfl ?_
    refine RunA.rd rfl rfl rfl (OpOK.of_ro (RO.nilCheckPtr rfl)) rfl ?_
    refine RunA.rd rfl rfl rfl (OpOK.of_ro (RO.fieldOwn fo_100_0 rfl)) rfl ?_
    refine RunA.rd rfl rfl rfl (OpOK.of_ro (RO.loadOwn ag_98 rfl rfl rfl)) rfl ?_
    refine RunA.rd rfl rfl rfl (OpOK.of_ro (RO.move rfl)) rfl ?_
    refine RunA.rd rfl rfl rfl (OpOK.of_ro (RO.lookupF mp_98 rfl rfl rfl)) rfl ?_
    refine RunA.rd rfl rfl rfl (OpOK.of_ro (RO.build2 bd_69 rfl rfl rfl rfl)) rfl ?_
    refine RunA.rd rfl rfl rfl (OpOK.data1E (α := LV) ((x6, (imVal a1 x6))) sl_22 z_69 rfl rfl (lb rfl) rfl rfl (.cons (.d _) (.cons (.d _) .nil)) rfl) rfl ?_
    refine guardK h1 (fun g7 h1 => ?_)
    refine RunA.eff rfl rfl rfl (OpOK.appendE (α := LV) sl_22 el_69 rfl rfl rfl rfl rfl (.d _) g7) rfl ?_
    refine RunA.rd rfl rfl rfl (OpOK.of_ro (RO.fieldOwn fo_24_1 rfl)) rfl ?_
    refine RunA.eff rfl rfl rfl (OpOK.store ag_22 rfl rfl rfl rfl (lb rfl) rfl) rfl ?_
    refine RunA.nil ⟨?ex, _, _, rfl, ?_⟩
    case ex => exact trivial
    refine XQ.less (st' := ⟨[(0, .v (.one (.ptr 0 0))), (2, .v (.one (.ptr 2 0))), (4, .v (.one (.ptr 3 0))), (17, .v (.one (dS ((imKeys a1) : List Int)))), (18, .v (.one (dI ((imKeys a1).length : Int)))), (19, .v (.one (dI s1.1)))], [(0, .cells 100 [.mp 1, dI a0]), (1, .mp (imE a1.1) a1.2), (2, .cells 24 [dI 0, dN]), (3, .cells 24 [dI a0, dA 5 ((s1.2 ++ ([(x6, (imVal a1 x6))])) : List LV)]), (4, .cells 98 [.mp 1])], [(5, some ⟨69, 2, (Enc.encL ((s1.2 ++ ([(x6, (imVal a1 x6))])) : List LV)).length⟩)], 6, 41, []⟩) (stle (tR rfl (tR rfl (tR rfl (tR rfl (tR rfl (tR rfl tZ)))))) (hR rfl (hR rfl (hR rfl (hR rfl (hR rfl hZ))))) (kR rfl kZ) rfl (Nat.le_trans hv0 (lb rfl)) rfl rfl rfl (bB rfl rfl (bM rfl (bB rfl rfl (bB rfl rfl (bB rfl rfl bZ))))) rfl rfl) ?_
    refine XQ.inBlock ?_
    refine XQ.seq ?_
    refine XC.region ?_
    refine XL.rd rfl rfl (lb rfl) (RO.binInt rfl rfl rfl) ?_
    refine XL.rd rfl rfl (lb rfl) (RO.move rfl) ?_
    refine XL.nil ?_
    have e_ := Option.some.inj h1
    subst e_
    refine XQ.nextM ((w64 (s1.1 + 1)), (s1.2 ++ ([(x6, (imVal a1 x6))]))) (stle (tR rfl (tR rfl (tR rfl (tR rfl (tR rfl (tR rfl tZ)))))) (hR rfl (hR rfl (hR rfl (hR rfl (hR rfl hZ))))) (kR rfl kZ) rfl (Nat.le_trans hv0 (lb rfl)) rfl rfl rfl (bB rfl rfl (bM rfl (bB rfl rfl (bB rfl rfl (bB rfl rfl bZ))))) rfl rfl) ho1
   ·
    replace h1 := condF c5 h1
    refine XC.exit ?_
    refine XQ.thenE ?_
    refine XQ.thenE ?_
    have e_ := Option.some.inj h1
    subst e_
    have e_ : _ = _ := ho1
    subst e_
    exact XQ.joinX s1.2 (stle (tR rfl (tR rfl tZ)) (hR rfl (hR rfl (hR rfl (hR rfl (hR rfl hZ))))) (kR rfl kZ) rfl (Nat.le_trans hv0 (lb rfl)) rfl rfl rfl (bB rfl rfl (bM rfl (bB rfl rfl (bB rfl rfl (bB rfl rfl bZ))))) rfl rfl) h0
  ·
   intro o3 h0
   refine XQ.blockX ?_
   refine XQ.seq ?_
   refine XC.seq ?_
   refine XC.region ?_
   refine XL.rd rfl rfl (lb rfl) (RO.loadOwnAgg ag_24 rfl rfl rfl rfl) ?_
   refine guardK h0 (fun g8 h0 => ?_)
   refine XL.put rfl rfl (lb rfl) (OpOK.callFun (limited_fun (⟨a0, o3⟩ : Lvl) (Nat.le_of_ble_eq_true g8)) rfl (.cons (.agg (.cons (.d _) (.cons (.app _ _ _) .nil))) .nil)) ?_
   refine XL.rd rfl rfl (lb rfl) (RO.extract rfl rfl) ?_
   refine XL.rd rfl rfl (lb rfl) (RO.extract rfl rfl) ?_
   refine XL.eff rfl rfl (OpOK.store ag_24 rfl rfl rfl rfl (lb rfl) rfl) ?_
   refine XL.rd rfl rfl (lb rfl) (RO.assign rfl) ?_
   refine XL.nil ?_
   refine XQ.seq ?_
   refine XC.ret ?_
   have e_ := Option.some.inj h0
   subst e_
   exact hQ0 _ _ _ (.inr rfl) rfl (stle (tR rfl (tR rfl tZ)) (hR rfl (hR rfl (hR rfl hZ))) kZ rfl (Nat.le_trans hv0 (lb rfl)) rfl rfl rfl (bB rfl rfl (bM rfl (bB rfl rfl bZ))) rfl rfl)

def m26_l0  (s2 : Bool × IMap × Int × ((List UInt8)) × Bool × Int) : Option (LO (Bool × IMap × Int × ((List UInt8)) × Bool × Int) ((IMap × Int × ((List UInt8)) × Bool × Int))) :=
  Option.bind (cond s2.1
    (some (!s2.2.2.2.2.1))
    (some false)) (fun (v11 : Bool) => cond v11
    (Option.bind (m53f0 s2.2.2.2.1 s2.2.2.2.2.1 s2.2.2.2.2.2 s2.2.2.1 s2.2.1) fun (x13 : Unit) =>
  Option.bind (m55f2 (s2.2.2.2.1.dropWhile (· == 32)) s2.2.2.2.2.1 s2.2.2.2.2.2 s2.2.2.1 s2.2.1) fun (x14 : ((List UInt8)) × Bool × Int × Int × IMap) =>
  Option.bind (m53f0 x14.1 x14.2.1 x14.2.2.1 x14.2.2.2.1 x14.2.2.2.2) fun (x15 : Unit) =>
  Option.bind (m54f1 ([44] : List UInt8) (x14.1.dropWhile (· == 32)) x14.2.1 x14.2.2.1 x14.2.2.2.1 x14.2.2.2.2) fun (x16 : ((List UInt8))) =>
  some (.next ((Lib.hasPrefix (x14.1.dropWhile (· == 32)) ([44] : List UInt8)), x14.2.2.2.2, x14.2.2.2.1, x16, x14.2.1, x14.2.2.1)))
    (some (.done (s2.2.1, s2.2.2.1, s2.2.2.2.1, s2.2.2.2.2.1, s2.2.2.2.2.2))))

/-- euclid/level.Parse -/
def m26 (a0 : (List UInt8)) : Option (Lvl × Int) :=
  cond (decide (65536 < (a0.length : Int)))
    (some ((⟨0, ([] : List LV)⟩ : Lvl), 5))
    (Option.bind (some ()) (fun (y2 : Unit) => Option.bind (m53f0 a0 false 0 0 imNil) fun (x4 : Unit) =>
  Option.bind (m54f1 ([109, 97, 120] : List UInt8) (a0.dropWhile (· == 32)) false 0 0 imNil) fun (x5 : ((List UInt8))) =>
  Option.bind (cond (Lib.hasPrefix (a0.dropWhile (· == 32)) ([109, 97, 120] : List UInt8))
    (Option.bind (m53f0 x5 false 0 0 imNil) fun (x8 : Unit) =>
  Option.bind (m54f1 ([40] : List UInt8) (x5.dropWhile (· == 32)) false 0 0 imNil) fun (x9 : ((List UInt8))) =>
  Option.bind (loopN (m26_l0) FUEL (true, imNil, 0, x9, (!(Lib.hasPrefix (x5.dropWhile (· == 32)) ([40] : List UInt8))), 0)) (fun (o10 : IMap × Int × ((List UInt8)) × Bool × Int) => Option.bind (m54f1 ([41] : List UInt8) o10.2.2.1 o10.2.2.2.1 o10.2.2.2.2 o10.2.1 o10.1) fun (x11 : ((List UInt8))) =>
  cond (!(Lib.hasPrefix o10.2.2.1 ([41] : List UInt8)))
    (some (x11, true, o10.2.2.2.2, o10.2.1, o10.1))
    (some (x11, o10.2.2.2.1, o10.2.2.2.2, o10.2.1, o10.1))))
    (Option.bind (m55f2 x5 false 0 0 imNil) fun (x21 : ((List UInt8)) × Bool × Int × Int × IMap) =>
  some (x21.1, x21.2.1, x21.2.2.1, x21.2.2.2.1, x21.2.2.2.2))) (fun (v6 : ((List UInt8)) × Bool × Int × Int × IMap) => Option.bind (m53f0 v6.1 v6.2.1 v6.2.2.1 v6.2.2.2.1 v6.2.2.2.2) fun (x7 : Unit) =>
  Option.bind (cond v6.2.1
    (some true)
    (some (!((v6.1.dropWhile (· == 32)) == ([] : List UInt8))))) (fun (v8 : Bool) => cond v8
    (some ((⟨0, ([] : List LV)⟩ : Lvl), 4))
    (cond (v6.2.2.1 != 0)
    (some ((⟨0, ([] : List LV)⟩ : Lvl), v6.2.2.1))
    (Option.bind (m56f6 v6.2.2.2.1 v6.2.2.2.2) fun (x11 : Int × Int × (List LV)) =>
  some ((⟨x11.2.1, x11.2.2⟩ : Lvl), x11.1)))))))

set_option maxRecDepth 100000 in
set_option maxHeartbeats 8000000 in
theorem m26_ok (a0 : (List UInt8)) (r : Lvl × Int) (h0 : m26 a0 = some r) : Fun Tryz.prog 26 [.one (dS8 a0)] (resOf [.agg (cE r.1), .one (dI r.2)]) := by
  unfold m26 at h0
  refine Fun.of_bodyM 9 83 Tryz.func26 rfl en_26 rfl (lb rfl) (fun S w => ?_)
  simp only [entry]
  refine XC.seq ?_
  refine XC.region ?_
  refine XL.put rfl rfl (lb rfl) (OpOK.alloc z_24 rfl) ?_
  refine XL.rd rfl rfl (lb rfl) (RO.assign rfl) ?_
  refine XL.nil ?_
  refine XQ.seq ?_
  refine XC.seq ?_
  refine XC.seq ?_
  refine XC.region ?_
  refine XL.rd rfl rfl (lb rfl) (RO.move rfl) ?_
  refine XL.rd rfl rfl (lb rfl) (RO.lenS st_9 rfl) ?_
  refine XL.rd rfl rfl (lb rfl) (RO.binInt rfl rfl rfl) ?_
  refine XL.nil ?_
  refine XQ.seq ?_
  refine XC.cond (b := (decide (65536 < (a0.length : Int)))) rfl (fun c1 => ?_) (fun c1 => ?_)
  ·
   replace h0 := condT c1 h0
   refine XC.seq ?_
   refine XC.region ?_
   refine XL.rd rfl rfl (lb rfl) (RO.build0 bd_24 rfl ) ?_
   refine XL.eff rfl rfl (OpOK.store ag_24 rfl rfl rfl rfl (lb rfl) rfl) ?_
   refine XL.rd rfl rfl (lb rfl) (RO.assign rfl) ?_
   refine XL.nil ?_
   refine XQ.seq ?_
   refine XC.ret ?_
   have e_ := Option.some.inj h0
   subst e_
   exact XQ.retF (fun _ _ h => h) rfl (RAs.agg ag_24 rfl rfl rfl rfl (RAs.tmp rfl .nil)) (.cons (.agg (.cons (.d _) (.cons (.nil _) .nil))) (.cons (.one (.d _)) .nil))
  ·
   replace h0 := condF c1 h0
   refine XC.skip ?_
   refine XQ.seq ?_
   refine XC.seq ?_
   refine XC.region ?_
   refine XL.rd rfl rfl (lb rfl) (RO.move rfl) ?_
   refine bindK h0 (fun y2 h1 h0 => ?_)
   have hc3 : CallM Tryz.prog 52 [] ⟨[(0, .cells 24 [dI 0, dN])], [], 1⟩ (resOf [.one (.ptr 2 0)]) ⟨[(0, .cells 24 [dI 0, dN]), (1, .mp (imE imNil.1) imNil.2), (2, .cells 100 [.mp 1, dI 0])], [], 3⟩ := by
    refine CallM.of_bodyD ⟨[(0, .v (.one (.ptr 2 0)))], [(0, .cells 24 [dI 0, dN]), (1, .mp (imE imNil.1) imNil.2), (2, .cells 100 [.mp 1, dI 0])], [], 3, 4, []⟩ rfl rfl en_52 (lb rfl) rfl (RAs.tmp rfl .nil) (fun w0 M V0 Q hv1 hQ1 => ?_)
    simp only [entry]
    refine XC.seq ?_
    refine XC.region ?_
    refine XL.rd rfl rfl (lb rfl) (RO.assign rfl) ?_
    refine XL.nil ?_
    refine XQ.seq ?_
    refine XC.seq ?_
    refine XC.region ?_
    refine XL.put rfl rfl (lb rfl) (OpOK.makeMapI) ?_
    refine XL.rd rfl rfl (lb rfl) (RO.build1 bd_100 rfl rfl rfl) ?_
    refine XL.put rfl rfl (lb rfl) (OpOK.box rfl) ?_
    refine XL.rd rfl rfl (lb rfl) (RO.assign rfl) ?_
    refine XL.nil ?_
    refine XQ.seq ?_
    refine XC.ret ?_
    have e_ := Option.some.inj h1
    subst e_
    exact hQ1 _ _ _ (.inr rfl) rfl (stle (tR rfl tZ) (hR rfl (hR rfl (hR rfl hZ))) kZ rfl (Nat.le_trans hv1 (lb rfl)) rfl rfl rfl (bB rfl rfl (bM rfl (bB rfl rfl bZ))) rfl rfl)
   refine XL.put rfl rfl (lb rfl) (OpOK.callW rfl rfl rfl hc3 rfl (hR rfl hZ) kZ) ?_
   refine XL.rd rfl rfl (lb rfl) (RO.build2 bd_79 rfl rfl rfl rfl) ?_
   refine XL.put rfl rfl (lb rfl) (OpOK.box rfl) ?_
   refine XL.rd rfl rfl (lb rfl) (RO.assign rfl) ?_
   refine XL.nil ?_
   refine XQ.seq ?_
   refine XC.seq ?_
   refine XC.region ?_
   refine XL.rd rfl rfl (lb rfl) (RO.move rfl) ?_
   refine bindK h0 (fun x4 hx4 h0 => ?_)
   refine XL.put rfl rfl (lb rfl) (OpOK.callG (hp1' := [(3, .cells 79 [dS8 (a0.dropWhile (· == 32)), dB false, dI 0, .ptr 2 0]), (2, .cells 100 [.mp 1, dI 0]), (1, .mp (imE imNil.1) imNil.2)]) (tk1' := []) (hpF := [(0, .cells 24 [dI 0, dN])]) (tkF := []) (res2 := resOf []) (nx2 := 4) [3, 2, 1] rfl rfl (m53f0_ok a0 false 0 0 imNil x4 hx4) rfl rfl (qB rfl rfl (qB rfl rfl (qM rfl qZ))) rfl rfl (gR rfl (gR rfl (gM rfl gZ))) jZ (hR rfl hZ) kZ rfl rfl rfl rfl rfl (bB rfl rfl (bB rfl rfl (bM rfl bZ))) rfl rfl rfl rfl) ?_
   refine XL.nil ?_
   refine XQ.seq ?_
   refine XC.seq ?_
   refine XC.seq ?_
   refine XC.region ?_
   refine XL.rd rfl rfl (lb rfl) (RO.move rfl) ?_
   refine bindK h0 (fun x5 hx5 h0 => ?_)
   refine XL.put rfl rfl (lb rfl) (OpOK.callG (hp1' := [(3, .cells 79 [dS8 x5, dB false, dI 0, .ptr 2 0]), (2, .cells 100 [.mp 1, dI 0]), (1, .mp (imE imNil.1) imNil.2)]) (tk1' := []) (hpF := [(0, .cells 24 [dI 0, dN])]) (tkF := []) (res2 := resOf [.one (dB (Lib.hasPrefix (a0.dropWhile (· == 32)) ([109, 97, 120] : List UInt8)))]) (nx2 := 4) [3, 2, 1] rfl rfl (m54f1_ok ([109, 97, 120] : List UInt8) (a0.dropWhile (· == 32)) false 0 0 imNil x5 hx5) rfl rfl (qB rfl rfl (qB rfl rfl (qM rfl qZ))) rfl rfl (gR rfl (gR rfl (gM rfl gZ))) jZ (hR rfl hZ) kZ rfl rfl rfl rfl rfl (bB rfl rfl (bB rfl rfl (bM rfl bZ))) rfl rfl rfl rfl) ?_
   refine XL.nil ?_
   refine XQ.seq ?_
   refine XC.joinR (fun (v6 : ((List UInt8)) × Bool × Int × Int × IMap) => ⟨[(2, .v (.one (.ptr 0 0))), (4, .v (.one (.ptr 3 0)))], [(0, .cells 24 [dI 0, dN]), (1, .mp (imE v6.2.2.2.2.1) v6.2.2.2.2.2), (2, .cells 100 [.mp 1, dI v6.2.2.2.1]), (3, .cells 79 [dS8 v6.1, dB v6.2.1, dI v6.2.2.1, .ptr 2 0])], [], 4, 83, []⟩) (fun (v6 : ((List UInt8)) × Bool × Int × Int × IMap) => (Option.bind (m53f0 v6.1 v6.2.1 v6.2.2.1 v6.2.2.2.1 v6.2.2.2.2) fun (x7 : Unit) =>
     Option.bind (cond v6.2.1
       (some true)
       (some (!((v6.1.dropWhile (· == 32)) == ([] : List UInt8))))) (fun (v8 : Bool) => cond v8
       (some ((⟨0, ([] : List LV)⟩ : Lvl), 4))
       (cond (v6.2.2.1 != 0)
       (some ((⟨0, ([] : List LV)⟩ : Lvl), v6.2.2.1))
       (Option.bind (m56f6 v6.2.2.2.1 v6.2.2.2.2) fun (x11 : Int × Int × (List LV)) =>
     some ((⟨x11.2.1, x11.2.2⟩ : Lvl), x11.1))))) = some r) ?_ ?_
   ·
    refine bindK h0 (fun w1_ h1 h0 => ?_)
    refine XC.cond (b := (Lib.hasPrefix (a0.dropWhile (· == 32)) ([109, 97, 120] : List UInt8))) rfl (fun c7 => ?_) (fun c7 => ?_)
    ·
     replace h1 := condT c7 h1
     refine XC.seq ?_
     refine XC.region ?_
     refine XL.rd rfl rfl (lb rfl) (RO.move rfl) ?_
     refine bindK h1 (fun x8 hx8 h1 => ?_)
     refine XL.put rfl rfl (lb rfl) (OpOK.callG (hp1' := [(3, .cells 79 [dS8 (x5.dropWhile (· == 32)), dB false, dI 0, .ptr 2 0]), (2, .cells 100 [.mp 1, dI 0]), (1, .mp (imE imNil.1) imNil.2)]) (tk1' := []) (hpF := [(0, .cells 24 [dI 0, dN])]) (tkF := []) (res2 := resOf []) (nx2 := 4) [3, 2, 1] rfl rfl (m53f0_ok x5 false 0 0 imNil x8 hx8) rfl rfl (qB rfl rfl (qB rfl rfl (qM rfl qZ))) rfl rfl (gR rfl (gR rfl (gM rfl gZ))) jZ (hR rfl hZ) kZ rfl rfl rfl rfl rfl (bB rfl rfl (bB rfl rfl (bM rfl bZ))) rfl rfl rfl rfl) ?_
     refine XL.nil ?_
     refine XQ.seq ?_
     refine XC.seq ?_
     refine XC.region ?_
     refine XL.rd rfl rfl (lb rfl) (RO.move rfl) ?_
     refine XL.rd rfl rfl (lb rfl) (RO.move rfl) ?_
     refine bindK h1 (fun x9 hx9 h1 => ?_)
     refine XL.put rfl rfl (lb rfl) (OpOK.callG (hp1' := [(3, .cells 79 [dS8 x9, dB false, dI 0, .ptr 2 0]), (2, .cells 100 [.mp 1, dI 0]), (1, .mp (imE imNil.1) imNil.2)]) (tk1' := []) (hpF := [(0, .cells 24 [dI 0, dN])]) (tkF := []) (res2 := resOf [.one (dB (Lib.hasPrefix (x5.dropWhile (· == 32)) ([40] : List UInt8)))]) (nx2 := 4) [3, 2, 1] rfl rfl (m54f1_ok ([40] : List UInt8) (x5.dropWhile (· == 32)) false 0 0 imNil x9 hx9) rfl rfl (qB rfl rfl (qB rfl rfl (qM rfl qZ))) rfl rfl (gR rfl (gR rfl (gM rfl gZ))) jZ (hR rfl hZ) kZ rfl rfl rfl rfl rfl (bB rfl rfl (bB rfl rfl (bM rfl bZ))) rfl rfl rfl rfl) ?_
     refine XL.rd rfl rfl (lb rfl) (RO.not rfl) ?_
     refine XL.rd rfl rfl (lb rfl) (RO.nilCheckPtr rfl) ?_
     refine XL.rd rfl rfl (lb rfl) (RO.fieldOwn fo_79_1 rfl) ?_
     refine XL.eff rfl rfl (OpOK.store ag_4 rfl rfl rfl rfl (lb rfl) rfl) ?_
     refine XL.nil ?_
     refine XQ.seq ?_
     refine XC.seq ?_
     refine XC.seq ?_
     refine XC.region ?_
     refine XL.rd rfl rfl (lb rfl) (RO.assign rfl) ?_
     refine XL.nil ?_
     refine XQ.seq ?_
     refine XC.block ?_
     refine XC.joinX 0 (fun (o10 : IMap × Int × ((List UInt8)) × Bool × Int) => ⟨[(2, .v (.one (.ptr 0 0))), (4, .v (.one (.ptr 3 0)))], [(0, .cells 24 [dI 0, dN]), (1, .mp (imE o10.1.1) o10.1.2), (2, .cells 100 [.mp 1, dI o10.2.1]), (3, .cells 79 [dS8 o10.2.2.1, dB o10.2.2.2.1, dI o10.2.2.2.2, .ptr 2 0])], [], 4, 83, []⟩) (fun (o10 : IMap × Int × ((List UInt8)) × Bool × Int) => (Option.bind (m54f1 ([41] : List UInt8) o10.2.2.1 o10.2.2.2.1 o10.2.2.2.2 o10.2.1 o10.1) fun (x11 : ((List UInt8))) =>
       cond (!(Lib.hasPrefix o10.2.2.1 ([41] : List UInt8)))
         (some (x11, true, o10.2.2.2.2, o10.2.1, o10.1))
         (some (x11, o10.2.2.2.1, o10.2.2.2.2, o10.2.1, o10.1))) = some w1_) ?_ ?_
     ·
      refine bindK h1 (fun o11 hl2 h1 => ?_)
      refine XC.loopM (m26_l0) (fun s2 => ⟨[(2, .v (.one (.ptr 0 0))), (4, .v (.one (.ptr 3 0))), (5, .v (.one (dB s2.1)))], [(0, .cells 24 [dI 0, dN]), (1, .mp (imE s2.2.1.1) s2.2.1.2), (2, .cells 100 [.mp 1, dI s2.2.2.1]), (3, .cells 79 [dS8 s2.2.2.2.1, dB s2.2.2.2.2.1, dI s2.2.2.2.2.2, .ptr 2 0])], [], 4, 83, []⟩) (true, imNil, 0, x9, (!(Lib.hasPrefix (x5.dropWhile (· == 32)) ([40] : List UInt8))), 0) o11 (stle (tR rfl (tR rfl (tR rfl tZ))) (hR rfl (hR rfl (hR rfl (hR rfl hZ)))) kZ rfl (Nat.zero_le _) rfl rfl rfl (bB rfl rfl (bM rfl (bB rfl rfl (bB rfl rfl bZ)))) rfl rfl) hl2 (fun s2 n2 oo2 h2 ho2 => ?_)
      unfold m26_l0 at h2
      refine XC.seq ?_
      refine XC.seq ?_
      refine XC.joinR (fun (v12 : Bool) => ⟨[(2, .v (.one (.ptr 0 0))), (4, .v (.one (.ptr 3 0))), (33, .v (.one (dB v12)))], [(0, .cells 24 [dI 0, dN]), (1, .mp (imE s2.2.1.1) s2.2.1.2), (2, .cells 100 [.mp 1, dI s2.2.2.1]), (3, .cells 79 [dS8 s2.2.2.2.1, dB s2.2.2.2.2.1, dI s2.2.2.2.2.2, .ptr 2 0])], [], 4, 83, []⟩) (fun (v12 : Bool) => (cond v12
          (Option.bind (m53f0 s2.2.2.2.1 s2.2.2.2.2.1 s2.2.2.2.2.2 s2.2.2.1 s2.2.1) fun (x14 : Unit) =>
        Option.bind (m55f2 (s2.2.2.2.1.dropWhile (· == 32)) s2.2.2.2.2.1 s2.2.2.2.2.2 s2.2.2.1 s2.2.1) fun (x15 : ((List UInt8)) × Bool × Int × Int × IMap) =>
        Option.bind (m53f0 x15.1 x15.2.1 x15.2.2.1 x15.2.2.2.1 x15.2.2.2.2) fun (x16 : Unit) =>
        Option.bind (m54f1 ([44] : List UInt8) (x15.1.dropWhile (· == 32)) x15.2.1 x15.2.2.1 x15.2.2.2.1 x15.2.2.2.2) fun (x17 : ((List UInt8))) =>
        some (.next ((Lib.hasPrefix (x15.1.dropWhile (· == 32)) ([44] : List UInt8)), x15.2.2.2.2, x15.2.2.2.1, x17, x15.2.1, x15.2.2.1)))
          (some (.done (s2.2.1, s2.2.2.1, s2.2.2.2.1, s2.2.2.2.2.1, s2.2.2.2.2.2)))) = some oo2) ?_ ?_
      ·
       refine bindK h2 (fun w3_ h3 h2 => ?_)
       refine XC.region ?_
       refine XL.rd rfl rfl (lb rfl) (RO.move rfl) ?_
       refine XL.rd rfl rfl (lb rfl) (RO.move rfl) ?_
       refine XL.case (d := 27) (c := s2.1) rfl (fun c13 => ?_) (fun c13 => ?_)
       ·
        replace h3 := condT c13 h3
        refine XL.rd rfl rfl (lb rfl) (RO.move rfl) ?_
        refine XL.rd rfl rfl (lb rfl) (RO.nilCheckPtr rfl) ?_
        refine XL.rd rfl rfl (lb rfl) (RO.fieldOwn fo_79_1 rfl) ?_
        refine XL.rd rfl rfl (lb rfl) (RO.loadOwn ag_4 rfl rfl rfl) ?_
        refine XL.rd rfl rfl (lb rfl) (RO.not rfl) ?_
        refine XL.rd rfl rfl (lb rfl) (RO.pickT rfl rfl) ?_
        refine XL.nil ?_
        have e_ := Option.some.inj h3
        subst e_
        exact XQ.joinR (!s2.2.2.2.2.1) (stle (tR rfl (tR rfl (tR rfl tZ))) (hR rfl (hR rfl (hR rfl (hR rfl hZ)))) kZ rfl (Nat.zero_le _) rfl rfl rfl (bB rfl rfl (bM rfl (bB rfl rfl (bB rfl rfl bZ)))) rfl rfl) h2
       ·
        replace h3 := condF c13 h3
        refine XL.no rfl rfl ?_
        refine XL.no rfl rfl ?_
        refine XL.no rfl rfl ?_
        refine XL.no rfl rfl ?_
        refine XL.no rfl rfl ?_
        refine XL.rd rfl rfl (lb rfl) (RO.pickF rfl rfl) ?_
        refine XL.nil ?_
        have e_ := Option.some.inj h3
        subst e_
        exact XQ.joinR false (stle (tR rfl (tR rfl (tR rfl tZ))) (hR rfl (hR rfl (hR rfl (hR rfl hZ)))) kZ rfl (Nat.zero_le _) rfl rfl rfl (bB rfl rfl (bM rfl (bB rfl rfl (bB rfl rfl bZ)))) rfl rfl) h2
      ·
       intro v12 h2
       refine XQ.seq ?_
       refine XC.cond (b := v12) rfl (fun c14 => ?_) (fun c14 => ?_)
       ·
        replace h2 := condT c14 h2
        refine XC.skip ?_
        refine XQ.seq ?_
        refine XC.seq ?_
        refine XC.block ?_
        refine XC.seq ?_
        refine XC.region ?_
        refine XL.rd rfl rfl (lb rfl) (RO.move rfl) ?_
        refine bindK h2 (fun x15 hx15 h2 => ?_)
        refine XL.put rfl rfl (lb rfl) (OpOK.callG (hp1' := [(3, .cells 79 [dS8 (s2.2.2.2.1.dropWhile (· == 32)), dB s2.2.2.2.2.1, dI s2.2.2.2.2.2, .ptr 2 0]), (2, .cells 100 [.mp 1, dI s2.2.2.1]), (1, .mp (imE s2.2.1.1) s2.2.1.2)]) (tk1' := []) (hpF := [(0, .cells 24 [dI 0, dN])]) (tkF := []) (res2 := resOf []) (nx2 := 4) [3, 2, 1] rfl rfl (m53f0_ok s2.2.2.2.1 s2.2.2.2.2.1 s2.2.2.2.2.2 s2.2.2.1 s2.2.1 x15 hx15) rfl rfl (qB rfl rfl (qB rfl rfl (qM rfl qZ))) rfl rfl (gR rfl (gR rfl (gM rfl gZ))) jZ (hR rfl hZ) kZ rfl rfl rfl rfl rfl (bB rfl rfl (bB rfl rfl (bM rfl bZ))) rfl rfl rfl rfl) ?_
        refine XL.nil ?_
        refine XQ.seq ?_
        refine XC.seq ?_
        refine XC.region ?_
        refine XL.rd rfl rfl (lb rfl) (RO.move rfl) ?_
        refine bindK h2 (fun x16 hx16 h2 => ?_)
        refine XL.put rfl rfl (lb rfl) (OpOK.callG (hp1' := [(3, .cells 79 [dS8 x16.1, dB x16.2.1, dI x16.2.2.1, .ptr 2 0]), (2, .cells 100 [.mp 1, dI x16.2.2.2.1]), (1, .mp (imE x16.2.2.2.2.1) x16.2.2.2.2.2)]) (tk1' := []) (hpF := [(0, .cells 24 [dI 0, dN])]) (tkF := []) (res2 := resOf []) (nx2 := 6) [3, 2, 1] rfl rfl (m55f2_ok (s2.2.2.2.1.dropWhile (· == 32)) s2.2.2.2.2.1 s2.2.2.2.2.2 s2.2.2.1 s2.2.1 x16 hx16) rfl rfl (qB rfl rfl (qB rfl rfl (qM rfl qZ))) rfl rfl (gR rfl (gR rfl (gM rfl gZ))) jZ (hR rfl hZ) kZ rfl rfl rfl rfl rfl (bB rfl rfl (bB rfl rfl (bM rfl bZ))) rfl rfl rfl rfl) ?_
        refine XL.nil ?_
        refine XQ.seq ?_
        refine XC.region ?_
        refine XL.rd rfl rfl (lb rfl) (RO.move rfl) ?_
        refine bindK h2 (fun x17 hx17 h2 => ?_)
        refine XL.put rfl rfl (lb rfl) (OpOK.callG (hp1' := [(3, .cells 79 [dS8 (x16.1.dropWhile (· == 32)), dB x16.2.1, dI x16.2.2.1, .ptr 2 0]), (2, .cells 100 [.mp 1, dI x16.2.2.2.1]), (1, .mp (imE x16.2.2.2.2.1) x16.2.2.2.2.2)]) (tk1' := []) (hpF := [(0, .cells 24 [dI 0, dN])]) (tkF := []) (res2 := resOf []) (nx2 := 6) [3, 2, 1] rfl rfl (m53f0_ok x16.1 x16.2.1 x16.2.2.1 x16.2.2.2.1 x16.2.2.2.2 x17 hx17) rfl rfl (qB rfl rfl (qB rfl rfl (qM rfl qZ))) rfl rfl (gR rfl (gR rfl (gM rfl gZ))) jZ (hR rfl hZ) kZ rfl rfl rfl rfl rfl (bB rfl rfl (bB rfl rfl (bM rfl bZ))) rfl rfl rfl rfl) ?_
        refine XL.nil ?_
        refine XQ.inBlock ?_
        refine XQ.seq ?_
        refine XC.region ?_
        refine XL.rd rfl rfl (lb rfl) (RO.move rfl) ?_
        refine bindK h2 (fun x18 hx18 h2 => ?_)
        refine XL.put rfl rfl (lb rfl) (OpOK.callG (hp1' := [(3, .cells 79 [dS8 x18, dB x16.2.1, dI x16.2.2.1, .ptr 2 0]), (2, .cells 100 [.mp 1, dI x16.2.2.2.1]), (1, .mp (imE x16.2.2.2.2.1) x16.2.2.2.2.2)]) (tk1' := []) (hpF := [(0, .cells 24 [dI 0, dN])]) (tkF := []) (res2 := resOf [.one (dB (Lib.hasPrefix (x16.1.dropWhile (· == 32)) ([44] : List UInt8)))]) (nx2 := 6) [3, 2, 1] rfl rfl (m54f1_ok ([44] : List UInt8) (x16.1.dropWhile (· == 32)) x16.2.1 x16.2.2.1 x16.2.2.2.1 x16.2.2.2.2 x18 hx18) rfl rfl (qB rfl rfl (qB rfl rfl (qM rfl qZ))) rfl rfl (gR rfl (gR rfl (gM rfl gZ))) jZ (hR rfl hZ) kZ rfl rfl rfl rfl rfl (bB rfl rfl (bB rfl rfl (bM rfl bZ))) rfl rfl rfl rfl) ?_
        refine XL.rd rfl rfl (lb rfl) (RO.assign rfl) ?_
        refine XL.nil ?_
        have e_ := Option.some.inj h2
        subst e_
        refine XQ.nextM ((Lib.hasPrefix (x16.1.dropWhile (· == 32)) ([44] : List UInt8)), x16.2.2.2.2, x16.2.2.2.1, x18, x16.2.1, x16.2.2.1) (stle (tR rfl (tR rfl (tR rfl tZ))) (hR rfl (hR rfl (hR rfl (hR rfl hZ)))) kZ rfl (Nat.zero_le _) rfl rfl rfl (bB rfl rfl (bM rfl (bB rfl rfl (bB rfl rfl bZ)))) rfl rfl) ho2
       ·
        replace h2 := condF c14 h2
        refine XC.exit ?_
        refine XQ.thenE ?_
        refine XQ.thenE ?_
        have e_ := Option.some.inj h2
        subst e_
        have e_ : _ = _ := ho2
        subst e_
        exact XQ.joinX (s2.2.1, s2.2.2.1, s2.2.2.2.1, s2.2.2.2.2.1, s2.2.2.2.2.2) (stle (tR rfl (tR rfl tZ)) (hR rfl (hR rfl (hR rfl (hR rfl hZ)))) kZ rfl (Nat.zero_le _) rfl rfl rfl (bB rfl rfl (bM rfl (bB rfl rfl (bB rfl rfl bZ)))) rfl rfl) h1
     ·
      intro o10 h1
      refine XQ.blockX ?_
      refine XQ.seq ?_
      refine XC.seq ?_
      refine XC.region ?_
      refine XL.rd rfl rfl (lb rfl) (RO.move rfl) ?_
      refine bindK h1 (fun x19 hx19 h1 => ?_)
      refine XL.put rfl rfl (lb rfl) (OpOK.callG (hp1' := [(3, .cells 79 [dS8 x19, dB o10.2.2.2.1, dI o10.2.2.2.2, .ptr 2 0]), (2, .cells 100 [.mp 1, dI o10.2.1]), (1, .mp (imE o10.1.1) o10.1.2)]) (tk1' := []) (hpF := [(0, .cells 24 [dI 0, dN])]) (tkF := []) (res2 := resOf [.one (dB (Lib.hasPrefix o10.2.2.1 ([41] : List UInt8)))]) (nx2 := 4) [3, 2, 1] rfl rfl (m54f1_ok ([41] : List UInt8) o10.2.2.1 o10.2.2.2.1 o10.2.2.2.2 o10.2.1 o10.1 x19 hx19) rfl rfl (qB rfl rfl (qB rfl rfl (qM rfl qZ))) rfl rfl (gR rfl (gR rfl (gM rfl gZ))) jZ (hR rfl hZ) kZ rfl rfl rfl rfl rfl (bB rfl rfl (bB rfl rfl (bM rfl bZ))) rfl rfl rfl rfl) ?_
      refine XL.rd rfl rfl (lb rfl) (RO.not rfl) ?_
      refine XL.nil ?_
      refine XQ.seq ?_
      refine XC.cond (b := (!(Lib.hasPrefix o10.2.2.1 ([41] : List UInt8)))) rfl (fun c20 => ?_) (fun c20 => ?_)
      ·
       replace h1 := condT c20 h1
       refine XC.region ?_
       refine XL.rd rfl rfl (lb rfl) (RO.move rfl) ?_
       refine XL.rd rfl rfl (lb rfl) (RO.nilCheckPtr rfl) ?_
       refine XL.rd rfl rfl (lb rfl) (RO.fieldOwn fo_79_1 rfl) ?_
       refine XL.eff rfl rfl (OpOK.store ag_4 rfl rfl rfl rfl (lb rfl) rfl) ?_
       refine XL.nil ?_
       have e_ := Option.some.inj h1
       subst e_
       exact XQ.joinR (x19, true, o10.2.2.2.2, o10.2.1, o10.1) (stle (tR rfl (tR rfl tZ)) (hR rfl (hR rfl (hR rfl (hR rfl hZ)))) kZ rfl (Nat.zero_le _) rfl rfl rfl (bB rfl rfl (bM rfl (bB rfl rfl (bB rfl rfl bZ)))) rfl rfl) h0
      ·
       replace h1 := condF c20 h1
       refine XC.skip ?_
       have e_ := Option.some.inj h1
       subst e_
       exact XQ.joinR (x19, o10.2.2.2.1, o10.2.2.2.2, o10.2.1, o10.1) (stle (tR rfl (tR rfl tZ)) (hR rfl (hR rfl (hR rfl (hR rfl hZ)))) kZ rfl (Nat.zero_le _) rfl rfl rfl (bB rfl rfl (bM rfl (bB rfl rfl (bB rfl rfl bZ)))) rfl rfl) h0
    ·
     replace h1 := condF c7 h1
     refine XC.region ?_
     refine XL.rd rfl rfl (lb rfl) (RO.move rfl) ?_
     refine bindK h1 (fun x21 hx21 h1 => ?_)
     refine XL.put rfl rfl (lb rfl) (OpOK.callG (hp1' := [(3, .cells 79 [dS8 x21.1, dB x21.2.1, dI x21.2.2.1, .ptr 2 0]), (2, .cells 100 [.mp 1, dI x21.2.2.2.1]), (1, .mp (imE x21.2.2.2.2.1) x21.2.2.2.2.2)]) (tk1' := []) (hpF := [(0, .cells 24 [dI 0, dN])]) (tkF := []) (res2 := resOf []) (nx2 := 6) [3, 2, 1] rfl rfl (m55f2_ok x5 false 0 0 imNil x21 hx21) rfl rfl (qB rfl rfl (qB rfl rfl (qM rfl qZ))) rfl rfl (gR rfl (gR rfl (gM rfl gZ))) jZ (hR rfl hZ) kZ rfl rfl rfl rfl rfl (bB rfl rfl (bB rfl rfl (bM rfl bZ))) rfl rfl rfl rfl) ?_
     refine XL.nil ?_
     have e_ := Option.some.inj h1
     subst e_
     exact XQ.joinR (x21.1, x21.2.1, x21.2.2.1, x21.2.2.2.1, x21.2.2.2.2) (stle (tR rfl (tR rfl tZ)) (hR rfl (hR rfl (hR rfl (hR rfl hZ)))) kZ rfl (Nat.zero_le _) rfl rfl rfl (bB rfl rfl (bM rfl (bB rfl rfl (bB rfl rfl bZ)))) rfl rfl) h0
   ·
    intro v6 h0
    refine XQ.seq ?_
    refine XC.seq ?_
    refine XC.region ?_
    refine XL.rd rfl rfl (lb rfl) (RO.move rfl) ?_
    refine bindK h0 (fun x22 hx22 h0 => ?_)
    refine XL.put rfl rfl (lb rfl) (OpOK.callG (hp1' := [(3, .cells 79 [dS8 (v6.1.dropWhile (· == 32)), dB v6.2.1, dI v6.2.2.1, .ptr 2 0]), (2, .cells 100 [.mp 1, dI v6.2.2.2.1]), (1, .mp (imE v6.2.2.2.2.1) v6.2.2.2.2.2)]) (tk1' := []) (hpF := [(0, .cells 24 [dI 0, dN])]) (tkF := []) (res2 := resOf []) (nx2 := 4) [3, 2, 1] rfl rfl (m53f0_ok v6.1 v6.2.1 v6.2.2.1 v6.2.2.2.1 v6.2.2.2.2 x22 hx22) rfl rfl (qB rfl rfl (qB rfl rfl (qM rfl qZ))) rfl rfl (gR rfl (gR rfl (gM rfl gZ))) jZ (hR rfl hZ) kZ rfl rfl rfl rfl rfl (bB rfl rfl (bB rfl rfl (bM rfl bZ))) rfl rfl rfl rfl) ?_
    refine XL.nil ?_
    refine XQ.seq ?_
    refine XC.seq ?_
    refine XC.block ?_
    refine XC.seq ?_
    refine XC.joinR (fun (v23 : Bool) => ⟨[(2, .v (.one (.ptr 0 0))), (4, .v (.one (.ptr 3 0))), (52, .v (.one (dB v23)))], [(0, .cells 24 [dI 0, dN]), (1, .mp (imE v6.2.2.2.2.1) v6.2.2.2.2.2), (2, .cells 100 [.mp 1, dI v6.2.2.2.1]), (3, .cells 79 [dS8 (v6.1.dropWhile (· == 32)), dB v6.2.1, dI v6.2.2.1, .ptr 2 0])], [], 4, 83, []⟩) (fun (v23 : Bool) => (cond v23
        (some ((⟨0, ([] : List LV)⟩ : Lvl), 4))
        (cond (v6.2.2.1 != 0)
        (some ((⟨0, ([] : List LV)⟩ : Lvl), v6.2.2.1))
        (Option.bind (m56f6 v6.2.2.2.1 v6.2.2.2.2) fun (x26 : Int × Int × (List LV)) =>
      some ((⟨x26.2.1, x26.2.2⟩ : Lvl), x26.1)))) = some r) ?_ ?_
    ·
     refine bindK h0 (fun w1_ h1 h0 => ?_)
     refine XC.region ?_
     refine XL.rd rfl rfl (lb rfl) (RO.move rfl) ?_
     refine XL.rd rfl rfl (lb rfl) (RO.nilCheckPtr rfl) ?_
     refine XL.rd rfl rfl (lb rfl) (RO.fieldOwn fo_79_1 rfl) ?_
     refine XL.rd rfl rfl (lb rfl) (RO.loadOwn ag_4 rfl rfl rfl) ?_
     refine XL.rd rfl rfl (lb rfl) (RO.move rfl) ?_
     refine XL.case (d := 57) (c := v6.2.1) rfl (fun c24 => ?_) (fun c24 => ?_)
     ·
      replace h1 := condT c24 h1
      refine XL.no rfl rfl ?_
      refine XL.no rfl rfl ?_
      refine XL.no rfl rfl ?_
      refine XL.no rfl rfl ?_
      refine XL.no rfl rfl ?_
      refine XL.rd rfl rfl (lb rfl) (RO.pickT rfl rfl) ?_
      refine XL.rd rfl rfl (lb rfl) (RO.assign rfl) ?_
      refine XL.nil ?_
      have e_ := Option.some.inj h1
      subst e_
      exact XQ.joinR true (stle (tR rfl (tR rfl (tR rfl tZ))) (hR rfl (hR rfl (hR rfl (hR rfl hZ)))) kZ rfl (Nat.zero_le _) rfl rfl rfl (bB rfl rfl (bM rfl (bB rfl rfl (bB rfl rfl bZ)))) rfl rfl) h0
     ·
      replace h1 := condF c24 h1
      refine XL.rd rfl rfl (lb rfl) (RO.move rfl) ?_
      refine XL.rd rfl rfl (lb rfl) (RO.nilCheckPtr rfl) ?_
      refine XL.rd rfl rfl (lb rfl) (RO.fieldOwn fo_79_0 rfl) ?_
      refine XL.rd rfl rfl (lb rfl) (RO.loadOwn ag_9 rfl rfl rfl) ?_
      refine XL.rd rfl rfl (lb rfl) (RO.neS rfl rfl) ?_
      refine XL.rd rfl rfl (lb rfl) (RO.pickF rfl rfl) ?_
      refine XL.rd rfl rfl (lb rfl) (RO.assign rfl) ?_
      refine XL.nil ?_
      have e_ := Option.some.inj h1
      subst e_
      exact XQ.joinR (!((v6.1.dropWhile (· == 32)) == ([] : List UInt8))) (stle (tR rfl (tR rfl (tR rfl tZ))) (hR rfl (hR rfl (hR rfl (hR rfl hZ)))) kZ rfl (Nat.zero_le _) rfl rfl rfl (bB rfl rfl (bM rfl (bB rfl rfl (bB rfl rfl bZ)))) rfl rfl) h0
    ·
     intro v23 h0
     refine XQ.seq ?_
     refine XC.cond (b := v23) rfl (fun c25 => ?_) (fun c25 => ?_)
     ·
      replace h0 := condT c25 h0
      refine XC.seq ?_
      refine XC.region ?_
      refine XL.rd rfl rfl (lb rfl) (RO.build0 bd_24 rfl ) ?_
      refine XL.eff rfl rfl (OpOK.store ag_24 rfl rfl rfl rfl (lb rfl) rfl) ?_
      refine XL.rd rfl rfl (lb rfl) (RO.assign rfl) ?_
      refine XL.nil ?_
      refine XQ.seq ?_
      refine XC.ret ?_
      have e_ := Option.some.inj h0
      subst e_
      exact XQ.retF (fun _ _ h => h) rfl (RAs.agg ag_24 rfl rfl rfl rfl (RAs.tmp rfl .nil)) (.cons (.agg (.cons (.d _) (.cons (.nil _) .nil))) (.cons (.one (.d _)) .nil))
     ·
      replace h0 := condF c25 h0
      refine XC.seq ?_
      refine XC.region ?_
      refine XL.rd rfl rfl (lb rfl) (RO.move rfl) ?_
      refine XL.rd rfl rfl (lb rfl) (RO.nilCheckPtr rfl) ?_
      refine XL.rd rfl rfl (lb rfl) (RO.fieldOwn fo_79_2 rfl) ?_
      refine XL.rd rfl rfl (lb rfl) (RO.loadOwn ag_27 rfl rfl rfl) ?_
      refine XL.rd rfl rfl (lb rfl) (RO.binInt rfl rfl rfl) ?_
      refine XL.rd rfl rfl (lb rfl) (RO.assign rfl) ?_
      refine XL.nil ?_
      refine XQ.seq ?_
      refine XC.cond (b := (v6.2.2.1 != 0)) rfl (fun c26 => ?_) (fun c26 => ?_)
      ·
       replace h0 := condT c26 h0
       refine XC.seq ?_
       refine XC.anyRun [5] [(1, 1), (2, 1), (3, 1), (4, 1)] mixed (by kernel_rfl) (by kernel_rfl) (by kernel_rfl) ?_
       refine RunA.rd rfl rfl rfl (OpOK.of_ro (RO.build0 bd_24 rfl )) rfl ?_
       refine RunA.rd rfl rfl rfl (OpOK.of_ro (RO.move rfl)) rfl ?_
       refine RunA.rd rfl rfl rfl (OpOK.of_ro (RO.nilCheckPtr rfl)) rfl ?_
       refine RunA.rd rfl rfl rfl (OpOK.of_ro (RO.fieldOwn fo_79_2 rfl)) rfl ?_
       refine RunA.rd rfl rfl rfl (OpOK.of_ro (RO.loadOwn ag_27 rfl rfl rfl)) rfl ?_
       refine RunA.eff rfl rfl rfl (OpOK.store ag_24 rfl rfl rfl rfl (lb rfl) rfl) rfl ?_
       refine RunA.rd rfl rfl rfl (OpOK.of_ro (RO.assign rfl)) rfl ?_
       refine RunA.nil ⟨?ex, _, _, rfl, ?_⟩
       case ex => exact ⟨⟨_, rfl, _, _, rfl, rfl, rfl, .inl ⟨rfl, _, OpOK.of_ro (RO.move rfl), rfl⟩⟩, ⟨_, rfl, _, _, rfl, rfl, rfl, .inl ⟨rfl, _, OpOK.of_ro (RO.nilCheckPtr rfl), rfl⟩⟩, ⟨_, rfl, _, _, rfl, rfl, rfl, .inl ⟨rfl, _, OpOK.of_ro (RO.fieldOwn fo_79_2 rfl), rfl⟩⟩, ⟨_, rfl, _, _, rfl, rfl, rfl, .inl ⟨rfl, _, OpOK.of_ro (RO.loadOwn ag_27 rfl rfl rfl), rfl⟩⟩, trivial⟩
       refine XQ.less (st' := ⟨[(2, .v (.one (.ptr 0 0))), (3, .v (.one (dI v6.2.2.1)))], [(0, .cells 24 [dI 0, dN]), (1, .mp (imE v6.2.2.2.2.1) v6.2.2.2.2.2), (2, .cells 100 [.mp 1, dI v6.2.2.2.1]), (3, .cells 79 [dS8 (v6.1.dropWhile (· == 32)), dB v6.2.1, dI v6.2.2.1, .ptr 2 0])], [], 4, 83, []⟩) (stle (tR rfl (tR rfl tZ)) (hR rfl (hR rfl (hR rfl (hR rfl hZ)))) kZ rfl (Nat.zero_le _) rfl rfl rfl (bB rfl rfl (bM rfl (bB rfl rfl (bB rfl rfl bZ)))) rfl rfl) ?_
       refine XQ.seq ?_
       refine XC.ret ?_
       have e_ := Option.some.inj h0
       subst e_
       exact XQ.retF (fun _ _ h => h) rfl (RAs.agg ag_24 rfl rfl rfl rfl (RAs.tmp rfl .nil)) (.cons (.agg (.cons (.d _) (.cons (.nil _) .nil))) (.cons (.one (.d _)) .nil))
      ·
       replace h0 := condF c26 h0
       refine XC.skip ?_
       refine XQ.inBlock ?_
       refine XQ.seq ?_
       refine XC.seq ?_
       refine XC.region ?_
       refine XL.rd rfl rfl (lb rfl) (RO.move rfl) ?_
       refine XL.rd rfl rfl (lb rfl) (RO.nilCheckPtr rfl) ?_
       refine XL.rd rfl rfl (lb rfl) (RO.fieldOwn fo_79_3 rfl) ?_
       refine XL.rd rfl rfl (lb rfl) (RO.loadOwn ag_76 rfl rfl rfl) ?_
       refine bindK h0 (fun x27 hx27 h0 => ?_)
       refine XL.put rfl rfl (lb rfl) (OpOK.callG (hp1' := [(2, .cells 100 [.mp 1, dI v6.2.2.2.1]), (1, .mp (imE v6.2.2.2.2.1) v6.2.2.2.2.2), (4, .cells 24 [dI x27.2.1, dS x27.2.2])]) (tk1' := []) (hpF := [(0, .cells 24 [dI 0, dN]), (3, .cells 79 [dS8 (v6.1.dropWhile (· == 32)), dB v6.2.1, dI v6.2.2.1, .ptr 2 0])]) (tkF := []) (res2 := resOf [.agg [dI x27.2.1, dS x27.2.2], .one (dI x27.1)]) (nx2 := 8) [2, 1] rfl rfl (m56f6_ok v6.2.2.2.1 v6.2.2.2.2 x27 hx27) rfl rfl (qB rfl rfl (qM rfl (qB rfl rfl qZ))) rfl rfl (gR rfl (gM rfl gZ)) jZ (hR rfl (hR rfl hZ)) kZ rfl rfl rfl rfl rfl (bB rfl rfl (bM rfl bZ)) rfl rfl rfl rfl) ?_
       refine XL.rd rfl rfl (lb rfl) (RO.extract rfl rfl) ?_
       refine XL.rd rfl rfl (lb rfl) (RO.extract rfl rfl) ?_
       refine XL.eff rfl rfl (OpOK.store ag_24 rfl rfl rfl rfl (lb rfl) rfl) ?_
       refine XL.rd rfl rfl (lb rfl) (RO.assign rfl) ?_
       refine XL.nil ?_
       refine XQ.seq ?_
       refine XC.ret ?_
       have e_ := Option.some.inj h0
       subst e_
       exact XQ.retF (fun _ _ h => h) rfl (RAs.agg ag_24 rfl rfl rfl rfl (RAs.tmp rfl .nil)) (.cons (.agg (.cons (.d _) (.cons (.d _) .nil))) (.cons (.one (.d _)) .nil))
end Go.Proofs.YtcapifnaceegmaaGreatDoor
