/- Mirrors of layer 1: the law of Leq and Same. -/
import Derived.Test.YtcapifnaceegmaaGreatDoorMs
import Derived.Test.YtcapifnaceegmaaGreatDoorAw
namespace Go.Proofs.YtcapifnaceegmaaGreatDoor
open Go.RowKit Go.Shelf
set_option linter.unusedSimpArgs false
set_option linter.unusedVariables false

theorem en_7 : Enters Tryz.prog 7 := enters_of Tryz.func7 (by kernel_rfl) rfl
/-- euclid/euclidlaw01.LevelCompares -/
def m7 (a0 : Lvl) (a1 : Lvl) : Option Bool :=
  Option.bind (m13 ([a0, a1])) fun (x1 : Bool) =>
  cond (!x1)
    (some true)
    (Option.bind (guardO ((cond (Nat.ble a0.vs.length 100000) (Nat.ble a1.vs.length 100000) false))
  (guardO ((cond (Nat.ble a0.vs.length 100000) (Nat.ble a1.vs.length 100000) false))
  (cond ((leqB a0 a1) == (leqB a0 a1))
    (guardO ((cond (Nat.ble a0.vs.length 100000) (Nat.ble a0.vs.length 100000) false))
  (guardO (Nat.ble a0.vs.length 100000)
  (cond ((leqB a0 a0) == (validB a0))
    (Option.bind (m31 a0 a1) fun (x10 : Bool) =>
  Option.bind (m21 a0 a1) fun (x11 : Bool) =>
  cond (x10 == x11)
    (Option.bind (m31 a0 a0) fun (x13 : Bool) =>
  cond x13
    (some true)
    (some false))
    (some false))
    (some false))))
    (some false)))) (fun (v3 : Bool) => some v3))

set_option maxRecDepth 100000 in
set_option maxHeartbeats 8000000 in
theorem m7_ok (a0 : Lvl) (a1 : Lvl) (r : Bool) (h0 : m7 a0 a1 = some r) : Fun Tryz.prog 7 [.agg (cE a0), .agg (cE a1)] (resOf [.one (dB r)]) := by
  unfold m7 at h0
  refine Fun.of_bodyM 9 43 Tryz.func7 rfl en_7 rfl (lb rfl) (fun S w => ?_)
  simp only [entry]
  refine XC.seq <| XC.region <| XL.put rfl rfl (lb rfl) (OpOK.box rfl) <| XL.put rfl rfl (lb rfl) (OpOK.box rfl) <| rA rfl rfl rfl <| XL.nil <| XQ.seq <| XC.seq <| XC.seq <| XC.region <| rR rfl rfl rfl (RO.loadOwnAgg ag_24 rfl rfl rfl rfl) <| rR rfl rfl rfl (RO.loadOwnAgg ag_24 rfl rfl rfl rfl) <| XL.put rfl rfl (lb rfl) (OpOK.data2E (α := Lvl) a0 a1 sl_55 z_24 rfl rfl (lb rfl) rfl rfl rfl (.cons (.d _) (.cons (.d _) (.cons (.d _) (.cons (.d _) .nil)))) ⟨rfl, rfl⟩) ?_
  refine bindK h0 (fun x1 hx1 h0 => ?_)
  refine XL.put rfl rfl (lb rfl) (OpOK.callFun (m13_ok ([a0, a1]) x1 hx1) rfl (.cons (.one (.d _)) .nil)) <| rR rfl rfl rfl (RO.not rfl) <| XL.nil <| XQ.seq ?_
  refine XC.cond (b := (!x1)) rfl (fun c2 => ?_) (fun c2 => ?_)
  ·
   replace h0 := condT c2 h0
   refine XC.seq <| XC.region <| XL.put rfl rfl (lb rfl) (OpOK.callFun (awake_fun) rfl .nil) <| rA rfl rfl rfl <| XL.nil <| XQ.seq <| XC.ret ?_
   have e_ := Option.some.inj h0
   subst e_
   exact XQ.retF (fun _ _ h => h) rfl (RAs.tmp rfl .nil) (.cons (.one (.d _)) .nil)
  ·
   replace h0 := condF c2 h0
   refine XC.skip <| XQ.seq <| XC.seq ?_
   refine XC.joinR (fun (v3 : Bool) => ⟨[(4, .v (.one (dB v3)))], [(0, .cells 24 (cE a0)), (1, .cells 24 (cE a1))], [], 2, 43, []⟩) (fun (v3 : Bool) => (some v3) = some r) ?_ ?_
   ·
    refine bindK h0 (fun v_ h1 h0 => ?_)
    refine XC.anyRun [] [] mixed (by kernel_rfl) (by kernel_rfl) (by kernel_rfl) ?_
    refine RunA.rd rfl rfl rfl (OpOK.of_ro (RO.loadOwnAgg ag_24 rfl rfl rfl rfl)) rfl <| RunA.rd rfl rfl rfl (OpOK.of_ro (RO.loadOwnAgg ag_24 rfl rfl rfl rfl)) rfl ?_
    refine guardK h1 (fun g4 h1 => ?_)
    refine RunA.rd rfl rfl rfl (OpOK.callFun (leq_fun a0 a1 (Nat.le_of_ble_eq_true (cond_left g4)) (Nat.le_of_ble_eq_true (cond_right g4))) rfl (.cons (.agg (.cons (.d _) (.cons (.d _) .nil))) (.cons (.agg (.cons (.d _) (.cons (.d _) .nil))) .nil))) rfl ?_
    refine RunA.rd rfl rfl rfl (OpOK.of_ro (RO.loadOwnAgg ag_24 rfl rfl rfl rfl)) rfl <| RunA.rd rfl rfl rfl (OpOK.of_ro (RO.loadOwnAgg ag_24 rfl rfl rfl rfl)) rfl ?_
    refine guardK h1 (fun g5 h1 => ?_)
    refine RunA.rd rfl rfl rfl (OpOK.callFun (leqR_fun a0 a1 (Nat.le_of_ble_eq_true (cond_left g5)) (Nat.le_of_ble_eq_true (cond_right g5))) rfl (.cons (.agg (.cons (.d _) (.cons (.d _) .nil))) (.cons (.agg (.cons (.d _) (.cons (.d _) .nil))) .nil))) rfl ?_
    refine RunA.rd rfl rfl rfl (OpOK.of_ro (RO.eqBool ib_4 rfl rfl)) rfl ?_
    refine RunA.case (c := ((leqB a0 a1) == (leqB a0 a1))) rfl rfl rfl (OpOK.of_ro (RO.move rfl)) rfl (fun c6 => ?_) (fun c6 => ?_)
    ·
     replace h1 := condT c6 h1
     refine RunA.rd rfl rfl rfl (OpOK.of_ro (RO.loadOwnAgg ag_24 rfl rfl rfl rfl)) rfl <| RunA.rd rfl rfl rfl (OpOK.of_ro (RO.loadOwnAgg ag_24 rfl rfl rfl rfl)) rfl ?_
     refine guardK h1 (fun g7 h1 => ?_)
     refine RunA.rd rfl rfl rfl (OpOK.callFun (leq_fun a0 a0 (Nat.le_of_ble_eq_true (cond_left g7)) (Nat.le_of_ble_eq_true (cond_right g7))) rfl (.cons (.agg (.cons (.d _) (.cons (.d _) .nil))) (.cons (.agg (.cons (.d _) (.cons (.d _) .nil))) .nil))) rfl ?_
     refine RunA.rd rfl rfl rfl (OpOK.of_ro (RO.loadOwnAgg ag_24 rfl rfl rfl rfl)) rfl ?_
     refine guardK h1 (fun g8 h1 => ?_)
     refine RunA.rd rfl rfl rfl (OpOK.callFun (validR_fun a0 (Nat.le_of_ble_eq_true g8)) rfl (.cons (.agg (.cons (.d _) (.cons (.d _) .nil))) .nil)) rfl ?_
     refine RunA.rd rfl rfl rfl (OpOK.of_ro (RO.eqBool ib_4 rfl rfl)) rfl <| RunA.rd rfl rfl rfl (OpOK.of_ro (RO.pickT rfl rfl)) rfl ?_
     refine RunA.case (c := ((leqB a0 a0) == (validB a0))) rfl rfl rfl (OpOK.of_ro (RO.move rfl)) rfl (fun c9 => ?_) (fun c9 => ?_)
     ·
      replace h1 := condT c9 h1
      refine RunA.rd rfl rfl rfl (OpOK.of_ro (RO.loadOwnAgg ag_24 rfl rfl rfl rfl)) rfl <| RunA.rd rfl rfl rfl (OpOK.of_ro (RO.loadOwnAgg ag_24 rfl rfl rfl rfl)) rfl ?_
      refine bindK h1 (fun x10 hx10 h1 => ?_)
      refine RunA.rd rfl rfl rfl (OpOK.callFun (m31_ok a0 a1 x10 hx10) rfl (.cons (.agg (.cons (.d _) (.cons (.d _) .nil))) (.cons (.agg (.cons (.d _) (.cons (.d _) .nil))) .nil))) rfl <| RunA.rd rfl rfl rfl (OpOK.of_ro (RO.loadOwnAgg ag_24 rfl rfl rfl rfl)) rfl <| RunA.rd rfl rfl rfl (OpOK.of_ro (RO.loadOwnAgg ag_24 rfl rfl rfl rfl)) rfl ?_
      refine bindK h1 (fun x11 hx11 h1 => ?_)
      refine RunA.rd rfl rfl rfl (OpOK.callFun (m21_ok a0 a1 x11 hx11) rfl (.cons (.agg (.cons (.d _) (.cons (.d _) .nil))) (.cons (.agg (.cons (.d _) (.cons (.d _) .nil))) .nil))) rfl <| RunA.rd rfl rfl rfl (OpOK.of_ro (RO.eqBool ib_4 rfl rfl)) rfl <| RunA.rd rfl rfl rfl (OpOK.of_ro (RO.pickT rfl rfl)) rfl ?_
      refine RunA.case (c := (x10 == x11)) rfl rfl rfl (OpOK.of_ro (RO.move rfl)) rfl (fun c12 => ?_) (fun c12 => ?_)
      ·
       replace h1 := condT c12 h1
       refine RunA.rd rfl rfl rfl (OpOK.of_ro (RO.loadOwnAgg ag_24 rfl rfl rfl rfl)) rfl <| RunA.rd rfl rfl rfl (OpOK.of_ro (RO.loadOwnAgg ag_24 rfl rfl rfl rfl)) rfl ?_
       refine bindK h1 (fun x13 hx13 h1 => ?_)
       refine RunA.rd rfl rfl rfl (OpOK.callFun (m31_ok a0 a0 x13 hx13) rfl (.cons (.agg (.cons (.d _) (.cons (.d _) .nil))) (.cons (.agg (.cons (.d _) (.cons (.d _) .nil))) .nil))) rfl <| RunA.rd rfl rfl rfl (OpOK.of_ro (RO.pickT rfl rfl)) rfl ?_
       refine RunA.case (c := x13) rfl rfl rfl (OpOK.of_ro (RO.move rfl)) rfl (fun c14 => ?_) (fun c14 => ?_)
       ·
        replace h1 := condT c14 h1
        refine RunA.rd rfl rfl rfl (OpOK.callFun (awake_fun) rfl .nil) rfl <| RunA.rd rfl rfl rfl (OpOK.of_ro (RO.pickT rfl rfl)) rfl <| RunA.rd rfl rfl rfl (OpOK.of_ro (RO.assign rfl)) rfl ?_
        refine RunA.nil ⟨?ex, _, _, rfl, ?_⟩
        case ex => exact trivial
        have e_ := Option.some.inj h1
        subst e_
        exact XQ.joinR true (stle (tR rfl tZ) (hR rfl (hR rfl hZ)) kZ rfl (Nat.zero_le _) rfl rfl rfl (bB rfl rfl (bB rfl rfl bZ)) rfl rfl) h0
       ·
        replace h1 := condF c14 h1
        refine RunA.no rfl rfl rfl rfl <| RunA.rd rfl rfl rfl (OpOK.of_ro (RO.pickF rfl rfl)) rfl <| RunA.rd rfl rfl rfl (OpOK.of_ro (RO.assign rfl)) rfl ?_
        refine RunA.nil ⟨?ex, _, _, rfl, ?_⟩
        case ex => exact trivial
        have e_ := Option.some.inj h1
        subst e_
        exact XQ.joinR false (stle (tR rfl tZ) (hR rfl (hR rfl hZ)) kZ rfl (Nat.zero_le _) rfl rfl rfl (bB rfl rfl (bB rfl rfl bZ)) rfl rfl) h0
      ·
       replace h1 := condF c12 h1
       refine RunA.no rfl rfl rfl rfl <| RunA.no rfl rfl rfl rfl <| RunA.no rfl rfl rfl rfl <| RunA.rd rfl rfl rfl (OpOK.of_ro (RO.pickF rfl rfl)) rfl <| RunA.rd rfl rfl rfl (OpOK.of_ro (RO.move rfl)) rfl <| RunA.no rfl rfl rfl rfl <| RunA.rd rfl rfl rfl (OpOK.of_ro (RO.pickF rfl rfl)) rfl <| RunA.rd rfl rfl rfl (OpOK.of_ro (RO.assign rfl)) rfl ?_
       refine RunA.nil ⟨?ex, _, _, rfl, ?_⟩
       case ex => exact trivial
       have e_ := Option.some.inj h1
       subst e_
       exact XQ.joinR false (stle (tR rfl tZ) (hR rfl (hR rfl hZ)) kZ rfl (Nat.zero_le _) rfl rfl rfl (bB rfl rfl (bB rfl rfl bZ)) rfl rfl) h0
     ·
      replace h1 := condF c9 h1
      refine RunA.no rfl rfl rfl rfl <| RunA.no rfl rfl rfl rfl <| RunA.no rfl rfl rfl rfl <| RunA.no rfl rfl rfl rfl <| RunA.no rfl rfl rfl rfl <| RunA.no rfl rfl rfl rfl <| RunA.no rfl rfl rfl rfl <| RunA.rd rfl rfl rfl (OpOK.of_ro (RO.pickF rfl rfl)) rfl <| RunA.rd rfl rfl rfl (OpOK.of_ro (RO.move rfl)) rfl <| RunA.no rfl rfl rfl rfl <| RunA.no rfl rfl rfl rfl <| RunA.no rfl rfl rfl rfl <| RunA.rd rfl rfl rfl (OpOK.of_ro (RO.pickF rfl rfl)) rfl <| RunA.rd rfl rfl rfl (OpOK.of_ro (RO.move rfl)) rfl ?_
      refine RunA.no rfl rfl rfl rfl <| RunA.rd rfl rfl rfl (OpOK.of_ro (RO.pickF rfl rfl)) rfl <| RunA.rd rfl rfl rfl (OpOK.of_ro (RO.assign rfl)) rfl ?_
      refine RunA.nil ⟨?ex, _, _, rfl, ?_⟩
      case ex => exact trivial
      have e_ := Option.some.inj h1
      subst e_
      exact XQ.joinR false (stle (tR rfl tZ) (hR rfl (hR rfl hZ)) kZ rfl (Nat.zero_le _) rfl rfl rfl (bB rfl rfl (bB rfl rfl bZ)) rfl rfl) h0
    ·
     replace h1 := condF c6 h1
     refine RunA.no rfl rfl rfl rfl <| RunA.no rfl rfl rfl rfl <| RunA.no rfl rfl rfl rfl <| RunA.no rfl rfl rfl rfl <| RunA.no rfl rfl rfl rfl <| RunA.no rfl rfl rfl rfl <| RunA.rd rfl rfl rfl (OpOK.of_ro (RO.pickF rfl rfl)) rfl <| RunA.rd rfl rfl rfl (OpOK.of_ro (RO.move rfl)) rfl <| RunA.no rfl rfl rfl rfl <| RunA.no rfl rfl rfl rfl <| RunA.no rfl rfl rfl rfl <| RunA.no rfl rfl rfl rfl <| RunA.no rfl rfl rfl rfl <| RunA.no rfl rfl rfl rfl ?_
     refine RunA.no rfl rfl rfl rfl <| RunA.rd rfl rfl rfl (OpOK.of_ro (RO.pickF rfl rfl)) rfl <| RunA.rd rfl rfl rfl (OpOK.of_ro (RO.move rfl)) rfl <| RunA.no rfl rfl rfl rfl <| RunA.no rfl rfl rfl rfl <| RunA.no rfl rfl rfl rfl <| RunA.rd rfl rfl rfl (OpOK.of_ro (RO.pickF rfl rfl)) rfl <| RunA.rd rfl rfl rfl (OpOK.of_ro (RO.move rfl)) rfl <| RunA.no rfl rfl rfl rfl <| RunA.rd rfl rfl rfl (OpOK.of_ro (RO.pickF rfl rfl)) rfl <| RunA.rd rfl rfl rfl (OpOK.of_ro (RO.assign rfl)) rfl ?_
     refine RunA.nil ⟨?ex, _, _, rfl, ?_⟩
     case ex => exact trivial
     have e_ := Option.some.inj h1
     subst e_
     exact XQ.joinR false (stle (tR rfl tZ) (hR rfl (hR rfl hZ)) kZ rfl (Nat.zero_le _) rfl rfl rfl (bB rfl rfl (bB rfl rfl bZ)) rfl rfl) h0
   ·
    intro v3 h0
    refine XQ.seq <| XC.ret ?_
    have e_ := Option.some.inj h0
    subst e_
    exact XQ.retF (fun _ _ h => h) rfl (RAs.tmp rfl .nil) (.cons (.one (.d _)) .nil)
end Go.Proofs.YtcapifnaceegmaaGreatDoor
