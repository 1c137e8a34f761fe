/- Mirrors of layer 1: the law of uniqueness. -/
import Derived.Test.YtcapifnaceegmaaGreatDoorMs
import Derived.Test.YtcapifnaceegmaaGreatDoorMx
import Derived.Test.YtcapifnaceegmaaGreatDoorAw
namespace Go.Proofs.YtcapifnaceegmaaGreatDoor
open Go.RowKit Go.Shelf
set_option linter.unusedSimpArgs false
set_option linter.unusedVariables false

theorem en_9 : Enters Tryz.prog 9 := enters_of Tryz.func9 (by kernel_rfl) rfl
/-- euclid/euclidlaw01.LevelUnique -/
def m9 (a0 : Lvl) (a1 : Lvl) (a2 : Lvl) : Option Bool :=
  Option.bind (Option.bind (m13 ([a0, a1, a2])) fun (x2 : Bool) =>
  cond (!x2)
    (some true)
    (guardO (Nat.ble a0.vs.length 100000)
  (cond (!(validB a0))
    (some true)
    (guardO (Nat.ble a1.vs.length 100000)
  (cond (!(validB a1))
    (some true)
    (guardO (Nat.ble a2.vs.length 100000)
  (some (!(validB a2))))))))) (fun (v1 : Bool) => cond v1
    (some true)
    (Option.bind (guardO ((cond (Nat.ble a0.vs.length 100000) (Nat.ble a1.vs.length 100000) false))
  (cond (leqB a0 a1)
    (guardO ((cond (Nat.ble a1.vs.length 100000) (Nat.ble a0.vs.length 100000) false))
  (Option.bind (m31 a0 a1) fun (x7 : Bool) =>
  some (!((leqB a1 a0) == x7))))
    (Option.bind (m31 a0 a1) fun (x8 : Bool) =>
  some (!(false == x8))))) (fun (v3 : Bool) => cond v3
    (some false)
    (Option.bind (m24 a0 a1) fun (x5 : Lvl × Int) =>
  Option.bind (cond (x5.2 == 0)
    (guardO ((cond (Nat.ble a0.vs.length 100000) (Nat.ble x5.1.vs.length 100000) false))
  (cond (leqB a0 x5.1)
    (guardO ((cond (Nat.ble a1.vs.length 100000) (Nat.ble x5.1.vs.length 100000) false))
  (cond (leqB a1 x5.1)
    (guardO ((cond (Nat.ble x5.1.vs.length 100000) (Nat.ble a2.vs.length 100000) false))
  (guardO ((cond (Nat.ble a0.vs.length 100000) (Nat.ble a2.vs.length 100000) false))
  (cond (leqB a0 a2)
    (guardO ((cond (Nat.ble a1.vs.length 100000) (Nat.ble a2.vs.length 100000) false))
  (cond ((leqB x5.1 a2) == (leqB a1 a2))
    (some true)
    (some false)))
    (cond ((leqB x5.1 a2) == false)
    (some true)
    (some false)))))
    (some false)))
    (some false)))
    (some false)) (fun (v6 : Bool) => some v6)))))

set_option maxRecDepth 100000 in
set_option maxHeartbeats 8000000 in
theorem m9_ok (a0 : Lvl) (a1 : Lvl) (a2 : Lvl) (r : Bool) (h0 : m9 a0 a1 a2 = some r) : Fun Tryz.prog 9 [.agg (cE a0), .agg (cE a1), .agg (cE a2)] (resOf [.one (dB r)]) := by
  unfold m9 at h0
  refine Fun.of_bodyM 9 78 Tryz.func9 rfl en_9 rfl (lb rfl) (fun S w => ?_)
  simp only [entry]
  refine XC.seq <| XC.region <| XL.put rfl rfl (lb rfl) (OpOK.box rfl) <| XL.put rfl rfl (lb rfl) (OpOK.box rfl) <| XL.put rfl rfl (lb rfl) (OpOK.box rfl) <| rA rfl rfl rfl <| XL.nil <| XQ.seq <| XC.seq <| XC.seq ?_
  refine XC.joinR (fun (v1 : Bool) => ⟨[(3, .v (.one (.ptr 0 0))), (4, .v (.one (.ptr 1 0))), (5, .v (.one (.ptr 2 0))), (29, .v (.one (dB v1)))], [(0, .cells 24 (cE a0)), (1, .cells 24 (cE a1)), (2, .cells 24 (cE a2))], [], 3, 78, []⟩) (fun (v1 : Bool) => (cond v1
      (some true)
      (Option.bind (guardO ((cond (Nat.ble a0.vs.length 100000) (Nat.ble a1.vs.length 100000) false))
    (cond (leqB a0 a1)
      (guardO ((cond (Nat.ble a1.vs.length 100000) (Nat.ble a0.vs.length 100000) false))
    (Option.bind (m31 a0 a1) fun (x7 : Bool) =>
    some (!((leqB a1 a0) == x7))))
      (Option.bind (m31 a0 a1) fun (x8 : Bool) =>
    some (!(false == x8))))) (fun (v3 : Bool) => cond v3
      (some false)
      (Option.bind (m24 a0 a1) fun (x5 : Lvl × Int) =>
    Option.bind (cond (x5.2 == 0)
      (guardO ((cond (Nat.ble a0.vs.length 100000) (Nat.ble x5.1.vs.length 100000) false))
    (cond (leqB a0 x5.1)
      (guardO ((cond (Nat.ble a1.vs.length 100000) (Nat.ble x5.1.vs.length 100000) false))
    (cond (leqB a1 x5.1)
      (guardO ((cond (Nat.ble x5.1.vs.length 100000) (Nat.ble a2.vs.length 100000) false))
    (guardO ((cond (Nat.ble a0.vs.length 100000) (Nat.ble a2.vs.length 100000) false))
    (cond (leqB a0 a2)
      (guardO ((cond (Nat.ble a1.vs.length 100000) (Nat.ble a2.vs.length 100000) false))
    (cond ((leqB x5.1 a2) == (leqB a1 a2))
      (some true)
      (some false)))
      (cond ((leqB x5.1 a2) == false)
      (some true)
      (some false)))))
      (some false)))
      (some false)))
      (some false)) (fun (v6 : Bool) => some v6))))) = some r) ?_ ?_
  ·
   refine bindK h0 (fun v_ h1 h0 => ?_)
   refine XC.region <| rR rfl rfl rfl (RO.loadOwnAgg ag_24 rfl rfl rfl rfl) <| rR rfl rfl rfl (RO.loadOwnAgg ag_24 rfl rfl rfl rfl) <| rR rfl rfl rfl (RO.loadOwnAgg ag_24 rfl rfl rfl rfl) <| XL.put rfl rfl (lb rfl) (OpOK.data3E (α := Lvl) a0 a1 a2 sl_55 z_24 rfl rfl (lb rfl) rfl rfl rfl rfl (.cons (.d _) (.cons (.d _) (.cons (.d _) (.cons (.d _) (.cons (.d _) (.cons (.d _) .nil)))))) ⟨rfl, rfl, rfl⟩) ?_
   refine bindK h1 (fun x2 hx2 h1 => ?_)
   refine XL.put rfl rfl (lb rfl) (OpOK.callFun (m13_ok ([a0, a1, a2]) x2 hx2) rfl (.cons (.one (.d _)) .nil)) <| rR rfl rfl rfl (RO.not rfl) <| rM rfl rfl rfl ?_
   refine XL.case (d := 15) (c := (!x2)) rfl (fun c3 => ?_) (fun c3 => ?_)
   ·
    replace h1 := condT c3 h1
    refine XL.no rfl rfl <| XL.no rfl rfl <| XL.no rfl rfl <| rR rfl rfl rfl (RO.pickT rfl rfl) <| rM rfl rfl rfl <| XL.no rfl rfl <| XL.no rfl rfl <| XL.no rfl rfl <| rR rfl rfl rfl (RO.pickT rfl rfl) <| rM rfl rfl rfl <| XL.no rfl rfl <| XL.no rfl rfl <| XL.no rfl rfl <| rR rfl rfl rfl (RO.pickT rfl rfl) ?_
    refine XL.nil ?_
    have e_ := Option.some.inj h1
    subst e_
    exact XQ.joinR true (stle (tR rfl (tR rfl (tR rfl (tR rfl tZ)))) (hR rfl (hR rfl (hR rfl hZ))) kZ rfl (Nat.zero_le _) rfl rfl rfl (bB rfl rfl (bB rfl rfl (bB rfl rfl bZ))) rfl rfl) h0
   ·
    replace h1 := condF c3 h1
    refine rR rfl rfl rfl (RO.loadOwnAgg ag_24 rfl rfl rfl rfl) ?_
    refine guardK h1 (fun g4 h1 => ?_)
    refine XL.put rfl rfl (lb rfl) (OpOK.callFun (validR_fun a0 (Nat.le_of_ble_eq_true g4)) rfl (.cons (.agg (.cons (.d _) (.cons (.d _) .nil))) .nil)) ?_
    refine rR rfl rfl rfl (RO.not rfl) <| rR rfl rfl rfl (RO.pickF rfl rfl) <| rM rfl rfl rfl ?_
    refine XL.case (d := 20) (c := (!(validB a0))) rfl (fun c5 => ?_) (fun c5 => ?_)
    ·
     replace h1 := condT c5 h1
     refine XL.no rfl rfl <| XL.no rfl rfl <| XL.no rfl rfl <| rR rfl rfl rfl (RO.pickT rfl rfl) <| rM rfl rfl rfl <| XL.no rfl rfl <| XL.no rfl rfl <| XL.no rfl rfl <| rR rfl rfl rfl (RO.pickT rfl rfl) <| XL.nil ?_
     have e_ := Option.some.inj h1
     subst e_
     exact XQ.joinR true (stle (tR rfl (tR rfl (tR rfl (tR rfl tZ)))) (hR rfl (hR rfl (hR rfl hZ))) kZ rfl (Nat.zero_le _) rfl rfl rfl (bB rfl rfl (bB rfl rfl (bB rfl rfl bZ))) rfl rfl) h0
    ·
     replace h1 := condF c5 h1
     refine rR rfl rfl rfl (RO.loadOwnAgg ag_24 rfl rfl rfl rfl) ?_
     refine guardK h1 (fun g6 h1 => ?_)
     refine XL.put rfl rfl (lb rfl) (OpOK.callFun (validR_fun a1 (Nat.le_of_ble_eq_true g6)) rfl (.cons (.agg (.cons (.d _) (.cons (.d _) .nil))) .nil)) ?_
     refine rR rfl rfl rfl (RO.not rfl) <| rR rfl rfl rfl (RO.pickF rfl rfl) <| rM rfl rfl rfl ?_
     refine XL.case (d := 25) (c := (!(validB a1))) rfl (fun c7 => ?_) (fun c7 => ?_)
     ·
      replace h1 := condT c7 h1
      refine XL.no rfl rfl <| XL.no rfl rfl <| XL.no rfl rfl <| rR rfl rfl rfl (RO.pickT rfl rfl) <| XL.nil ?_
      have e_ := Option.some.inj h1
      subst e_
      exact XQ.joinR true (stle (tR rfl (tR rfl (tR rfl (tR rfl tZ)))) (hR rfl (hR rfl (hR rfl hZ))) kZ rfl (Nat.zero_le _) rfl rfl rfl (bB rfl rfl (bB rfl rfl (bB rfl rfl bZ))) rfl rfl) h0
     ·
      replace h1 := condF c7 h1
      refine rR rfl rfl rfl (RO.loadOwnAgg ag_24 rfl rfl rfl rfl) ?_
      refine guardK h1 (fun g8 h1 => ?_)
      refine XL.put rfl rfl (lb rfl) (OpOK.callFun (validR_fun a2 (Nat.le_of_ble_eq_true g8)) rfl (.cons (.agg (.cons (.d _) (.cons (.d _) .nil))) .nil)) ?_
      refine rR rfl rfl rfl (RO.not rfl) <| rR rfl rfl rfl (RO.pickF rfl rfl) <| XL.nil ?_
      have e_ := Option.some.inj h1
      subst e_
      exact XQ.joinR (!(validB a2)) (stle (tR rfl (tR rfl (tR rfl (tR rfl tZ)))) (hR rfl (hR rfl (hR rfl hZ))) kZ rfl (Nat.zero_le _) rfl rfl rfl (bB rfl rfl (bB rfl rfl (bB rfl rfl bZ))) rfl rfl) h0
  ·
   intro v1 h0
   refine XQ.seq ?_
   refine XC.cond (b := v1) rfl (fun c9 => ?_) (fun c9 => ?_)
   ·
    replace h0 := condT c9 h0
    refine XC.seq <| XC.region <| XL.put rfl rfl (lb rfl) (OpOK.callFun (awake_fun) rfl .nil) <| rA rfl rfl rfl <| XL.nil <| XQ.seq <| XC.ret ?_
    have e_ := Option.some.inj h0
    subst e_
    exact XQ.retF (fun _ _ h => h) rfl (RAs.tmp rfl .nil) (.cons (.one (.d _)) .nil)
   ·
    replace h0 := condF c9 h0
    refine XC.skip <| XQ.seq <| XC.seq <| XC.seq ?_
    refine XC.joinR (fun (v10 : Bool) => ⟨[(3, .v (.one (.ptr 0 0))), (4, .v (.one (.ptr 1 0))), (5, .v (.one (.ptr 2 0))), (42, .v (.one (dB v10)))], [(0, .cells 24 (cE a0)), (1, .cells 24 (cE a1)), (2, .cells 24 (cE a2))], [], 3, 78, []⟩) (fun (v10 : Bool) => (cond v10
        (some false)
        (Option.bind (m24 a0 a1) fun (x12 : Lvl × Int) =>
      Option.bind (cond (x12.2 == 0)
        (guardO ((cond (Nat.ble a0.vs.length 100000) (Nat.ble x12.1.vs.length 100000) false))
      (cond (leqB a0 x12.1)
        (guardO ((cond (Nat.ble a1.vs.length 100000) (Nat.ble x12.1.vs.length 100000) false))
      (cond (leqB a1 x12.1)
        (guardO ((cond (Nat.ble x12.1.vs.length 100000) (Nat.ble a2.vs.length 100000) false))
      (guardO ((cond (Nat.ble a0.vs.length 100000) (Nat.ble a2.vs.length 100000) false))
      (cond (leqB a0 a2)
        (guardO ((cond (Nat.ble a1.vs.length 100000) (Nat.ble a2.vs.length 100000) false))
      (cond ((leqB x12.1 a2) == (leqB a1 a2))
        (some true)
        (some false)))
        (cond ((leqB x12.1 a2) == false)
        (some true)
        (some false)))))
        (some false)))
        (some false)))
        (some false)) (fun (v13 : Bool) => some v13))) = some r) ?_ ?_
    ·
     refine bindK h0 (fun v_ h1 h0 => ?_)
     refine XC.anyRun [] [] mixed (by kernel_rfl) (by kernel_rfl) (by kernel_rfl) ?_
     refine RunA.rd rfl rfl rfl (OpOK.of_ro (RO.loadOwnAgg ag_24 rfl rfl rfl rfl)) rfl <| RunA.rd rfl rfl rfl (OpOK.of_ro (RO.loadOwnAgg ag_24 rfl rfl rfl rfl)) rfl ?_
     refine guardK h1 (fun g11 h1 => ?_)
     refine RunA.rd rfl rfl rfl (OpOK.callFun (leq_fun a0 a1 (Nat.le_of_ble_eq_true (cond_left g11)) (Nat.le_of_ble_eq_true (cond_right g11))) rfl (.cons (.agg (.cons (.d _) (.cons (.d _) .nil))) (.cons (.agg (.cons (.d _) (.cons (.d _) .nil))) .nil))) rfl ?_
     refine RunA.case (c := (leqB a0 a1)) rfl rfl rfl (OpOK.of_ro (RO.move rfl)) rfl (fun c12 => ?_) (fun c12 => ?_)
     ·
      replace h1 := condT c12 h1
      refine RunA.rd rfl rfl rfl (OpOK.of_ro (RO.loadOwnAgg ag_24 rfl rfl rfl rfl)) rfl <| RunA.rd rfl rfl rfl (OpOK.of_ro (RO.loadOwnAgg ag_24 rfl rfl rfl rfl)) rfl ?_
      refine guardK h1 (fun g13 h1 => ?_)
      refine RunA.rd rfl rfl rfl (OpOK.callFun (leq_fun a1 a0 (Nat.le_of_ble_eq_true (cond_left g13)) (Nat.le_of_ble_eq_true (cond_right g13))) rfl (.cons (.agg (.cons (.d _) (.cons (.d _) .nil))) (.cons (.agg (.cons (.d _) (.cons (.d _) .nil))) .nil))) rfl ?_
      refine RunA.rd rfl rfl rfl (OpOK.of_ro (RO.pickT rfl rfl)) rfl <| RunA.rd rfl rfl rfl (OpOK.of_ro (RO.loadOwnAgg ag_24 rfl rfl rfl rfl)) rfl <| RunA.rd rfl rfl rfl (OpOK.of_ro (RO.loadOwnAgg ag_24 rfl rfl rfl rfl)) rfl ?_
      refine bindK h1 (fun x14 hx14 h1 => ?_)
      refine RunA.rd rfl rfl rfl (OpOK.callFun (m31_ok a0 a1 x14 hx14) rfl (.cons (.agg (.cons (.d _) (.cons (.d _) .nil))) (.cons (.agg (.cons (.d _) (.cons (.d _) .nil))) .nil))) rfl <| RunA.rd rfl rfl rfl (OpOK.of_ro (RO.neqBool ib_4 rfl rfl)) rfl ?_
      refine RunA.nil ⟨?ex, _, _, rfl, ?_⟩
      case ex => exact trivial
      have e_ := Option.some.inj h1
      subst e_
      exact XQ.joinR (!((leqB a1 a0) == x14)) (stle (tR rfl (tR rfl (tR rfl (tR rfl tZ)))) (hR rfl (hR rfl (hR rfl hZ))) kZ rfl (Nat.zero_le _) rfl rfl rfl (bB rfl rfl (bB rfl rfl (bB rfl rfl bZ))) rfl rfl) h0
     ·
      replace h1 := condF c12 h1
      refine RunA.no rfl rfl rfl rfl <| RunA.no rfl rfl rfl rfl <| RunA.no rfl rfl rfl rfl <| RunA.rd rfl rfl rfl (OpOK.of_ro (RO.pickF rfl rfl)) rfl <| RunA.rd rfl rfl rfl (OpOK.of_ro (RO.loadOwnAgg ag_24 rfl rfl rfl rfl)) rfl <| RunA.rd rfl rfl rfl (OpOK.of_ro (RO.loadOwnAgg ag_24 rfl rfl rfl rfl)) rfl ?_
      refine bindK h1 (fun x15 hx15 h1 => ?_)
      refine RunA.rd rfl rfl rfl (OpOK.callFun (m31_ok a0 a1 x15 hx15) rfl (.cons (.agg (.cons (.d _) (.cons (.d _) .nil))) (.cons (.agg (.cons (.d _) (.cons (.d _) .nil))) .nil))) rfl <| RunA.rd rfl rfl rfl (OpOK.of_ro (RO.neqBool ib_4 rfl rfl)) rfl ?_
      refine RunA.nil ⟨?ex, _, _, rfl, ?_⟩
      case ex => exact trivial
      have e_ := Option.some.inj h1
      subst e_
      exact XQ.joinR (!(false == x15)) (stle (tR rfl (tR rfl (tR rfl (tR rfl tZ)))) (hR rfl (hR rfl (hR rfl hZ))) kZ rfl (Nat.zero_le _) rfl rfl rfl (bB rfl rfl (bB rfl rfl (bB rfl rfl bZ))) rfl rfl) h0
    ·
     intro v10 h0
     refine XQ.seq ?_
     refine XC.cond (b := v10) rfl (fun c16 => ?_) (fun c16 => ?_)
     ·
      replace h0 := condT c16 h0
      refine XC.seq <| XC.region <| rA rfl rfl rfl <| XL.nil <| XQ.seq <| XC.ret ?_
      have e_ := Option.some.inj h0
      subst e_
      exact XQ.retF (fun _ _ h => h) rfl (RAs.tmp rfl .nil) (.cons (.one (.d _)) .nil)
     ·
      replace h0 := condF c16 h0
      refine XC.skip <| XQ.seq <| XC.seq <| XC.region <| rR rfl rfl rfl (RO.loadOwnAgg ag_24 rfl rfl rfl rfl) <| rR rfl rfl rfl (RO.loadOwnAgg ag_24 rfl rfl rfl rfl) ?_
      refine bindK h0 (fun x17 hx17 h0 => ?_)
      refine XL.put rfl rfl (lb rfl) (OpOK.callFun (m24_ok a0 a1 x17 hx17) rfl (.cons (.agg (.cons (.d _) (.cons (.d _) .nil))) (.cons (.agg (.cons (.d _) (.cons (.d _) .nil))) .nil))) <| rM rfl rfl rfl <| rR rfl rfl rfl (RO.extract rfl rfl) <| rR rfl rfl rfl (RO.extract rfl rfl) <| XL.put rfl rfl (lb rfl) (OpOK.alloc z_24 rfl) <| XL.eff rfl rfl (OpOK.store ag_24 rfl rfl rfl rfl (lb rfl) rfl) <| rA rfl rfl rfl <| XL.nil <| XQ.seq <| XC.seq ?_
      refine XC.joinR (fun (v18 : Bool) => ⟨[(6, .v (.one (dB v18)))], [(0, .cells 24 (cE a0)), (1, .cells 24 (cE a1)), (2, .cells 24 (cE a2)), (3, .cells 24 (cE x17.1))], [], 4, 78, []⟩) (fun (v18 : Bool) => (some v18) = some r) ?_ ?_
      ·
       refine bindK h0 (fun v_ h1 h0 => ?_)
       refine XC.anyRun [] [] mixed (by kernel_rfl) (by kernel_rfl) (by kernel_rfl) ?_
       refine RunA.rd rfl rfl rfl (OpOK.of_ro (RO.move rfl)) rfl <| RunA.rd rfl rfl rfl (OpOK.of_ro (RO.binInt rfl rfl rfl)) rfl ?_
       refine RunA.case (c := (x17.2 == 0)) rfl rfl rfl (OpOK.of_ro (RO.move rfl)) rfl (fun c19 => ?_) (fun c19 => ?_)
       ·
        replace h1 := condT c19 h1
        refine RunA.rd rfl rfl rfl (OpOK.of_ro (RO.loadOwnAgg ag_24 rfl rfl rfl rfl)) rfl <| RunA.rd rfl rfl rfl (OpOK.of_ro (RO.loadOwnAgg ag_24 rfl rfl rfl rfl)) rfl ?_
        refine guardK h1 (fun g20 h1 => ?_)
        refine RunA.rd rfl rfl rfl (OpOK.callFun (leq_fun a0 x17.1 (Nat.le_of_ble_eq_true (cond_left g20)) (Nat.le_of_ble_eq_true (cond_right g20))) rfl (.cons (.agg (.cons (.d _) (.cons (.d _) .nil))) (.cons (.agg (.cons (.d _) (.cons (.d _) .nil))) .nil))) rfl ?_
        refine RunA.rd rfl rfl rfl (OpOK.of_ro (RO.pickT rfl rfl)) rfl ?_
        refine RunA.case (c := (leqB a0 x17.1)) rfl rfl rfl (OpOK.of_ro (RO.move rfl)) rfl (fun c21 => ?_) (fun c21 => ?_)
        ·
         replace h1 := condT c21 h1
         refine RunA.rd rfl rfl rfl (OpOK.of_ro (RO.loadOwnAgg ag_24 rfl rfl rfl rfl)) rfl <| RunA.rd rfl rfl rfl (OpOK.of_ro (RO.loadOwnAgg ag_24 rfl rfl rfl rfl)) rfl ?_
         refine guardK h1 (fun g22 h1 => ?_)
         refine RunA.rd rfl rfl rfl (OpOK.callFun (leq_fun a1 x17.1 (Nat.le_of_ble_eq_true (cond_left g22)) (Nat.le_of_ble_eq_true (cond_right g22))) rfl (.cons (.agg (.cons (.d _) (.cons (.d _) .nil))) (.cons (.agg (.cons (.d _) (.cons (.d _) .nil))) .nil))) rfl ?_
         refine RunA.rd rfl rfl rfl (OpOK.of_ro (RO.pickT rfl rfl)) rfl ?_
         refine RunA.case (c := (leqB a1 x17.1)) rfl rfl rfl (OpOK.of_ro (RO.move rfl)) rfl (fun c23 => ?_) (fun c23 => ?_)
         ·
          replace h1 := condT c23 h1
          refine RunA.rd rfl rfl rfl (OpOK.of_ro (RO.loadOwnAgg ag_24 rfl rfl rfl rfl)) rfl <| RunA.rd rfl rfl rfl (OpOK.of_ro (RO.loadOwnAgg ag_24 rfl rfl rfl rfl)) rfl ?_
          refine guardK h1 (fun g24 h1 => ?_)
          refine RunA.rd rfl rfl rfl (OpOK.callFun (leq_fun x17.1 a2 (Nat.le_of_ble_eq_true (cond_left g24)) (Nat.le_of_ble_eq_true (cond_right g24))) rfl (.cons (.agg (.cons (.d _) (.cons (.d _) .nil))) (.cons (.agg (.cons (.d _) (.cons (.d _) .nil))) .nil))) rfl ?_
          refine RunA.rd rfl rfl rfl (OpOK.of_ro (RO.loadOwnAgg ag_24 rfl rfl rfl rfl)) rfl <| RunA.rd rfl rfl rfl (OpOK.of_ro (RO.loadOwnAgg ag_24 rfl rfl rfl rfl)) rfl ?_
          refine guardK h1 (fun g25 h1 => ?_)
          refine RunA.rd rfl rfl rfl (OpOK.callFun (leq_fun a0 a2 (Nat.le_of_ble_eq_true (cond_left g25)) (Nat.le_of_ble_eq_true (cond_right g25))) rfl (.cons (.agg (.cons (.d _) (.cons (.d _) .nil))) (.cons (.agg (.cons (.d _) (.cons (.d _) .nil))) .nil))) rfl ?_
          refine RunA.case (c := (leqB a0 a2)) rfl rfl rfl (OpOK.of_ro (RO.move rfl)) rfl (fun c26 => ?_) (fun c26 => ?_)
          ·
           replace h1 := condT c26 h1
           refine RunA.rd rfl rfl rfl (OpOK.of_ro (RO.loadOwnAgg ag_24 rfl rfl rfl rfl)) rfl <| RunA.rd rfl rfl rfl (OpOK.of_ro (RO.loadOwnAgg ag_24 rfl rfl rfl rfl)) rfl ?_
           refine guardK h1 (fun g27 h1 => ?_)
           refine RunA.rd rfl rfl rfl (OpOK.callFun (leq_fun a1 a2 (Nat.le_of_ble_eq_true (cond_left g27)) (Nat.le_of_ble_eq_true (cond_right g27))) rfl (.cons (.agg (.cons (.d _) (.cons (.d _) .nil))) (.cons (.agg (.cons (.d _) (.cons (.d _) .nil))) .nil))) rfl ?_
           refine RunA.rd rfl rfl rfl (OpOK.of_ro (RO.pickT rfl rfl)) rfl <| RunA.rd rfl rfl rfl (OpOK.of_ro (RO.eqBool ib_4 rfl rfl)) rfl <| RunA.rd rfl rfl rfl (OpOK.of_ro (RO.pickT rfl rfl)) rfl ?_
           refine RunA.case (c := ((leqB x17.1 a2) == (leqB a1 a2))) rfl rfl rfl (OpOK.of_ro (RO.move rfl)) rfl (fun c28 => ?_) (fun c28 => ?_)
           ·
            replace h1 := condT c28 h1
            refine RunA.rd rfl rfl rfl (OpOK.callFun (awake_fun) rfl .nil) rfl <| RunA.rd rfl rfl rfl (OpOK.of_ro (RO.pickT rfl rfl)) rfl <| RunA.rd rfl rfl rfl (OpOK.of_ro (RO.assign rfl)) rfl ?_
            refine RunA.nil ⟨?ex, _, _, rfl, ?_⟩
            case ex => exact trivial
            have e_ := Option.some.inj h1
            subst e_
            exact XQ.joinR true (stle (tR rfl tZ) (hR rfl (hR rfl (hR rfl (hR rfl hZ)))) kZ rfl (Nat.zero_le _) rfl rfl rfl (bB rfl rfl (bB rfl rfl (bB rfl rfl (bB rfl rfl bZ)))) rfl rfl) h0
           ·
            replace h1 := condF c28 h1
            refine RunA.no rfl rfl rfl rfl <| RunA.rd rfl rfl rfl (OpOK.of_ro (RO.pickF rfl rfl)) rfl <| RunA.rd rfl rfl rfl (OpOK.of_ro (RO.assign rfl)) rfl ?_
            refine RunA.nil ⟨?ex, _, _, rfl, ?_⟩
            case ex => exact trivial
            have e_ := Option.some.inj h1
            subst e_
            exact XQ.joinR false (stle (tR rfl tZ) (hR rfl (hR rfl (hR rfl (hR rfl hZ)))) kZ rfl (Nat.zero_le _) rfl rfl rfl (bB rfl rfl (bB rfl rfl (bB rfl rfl (bB rfl rfl bZ)))) rfl rfl) h0
          ·
           replace h1 := condF c26 h1
           refine RunA.no rfl rfl rfl rfl <| RunA.no rfl rfl rfl rfl <| RunA.no rfl rfl rfl rfl <| RunA.rd rfl rfl rfl (OpOK.of_ro (RO.pickF rfl rfl)) rfl <| RunA.rd rfl rfl rfl (OpOK.of_ro (RO.eqBool ib_4 rfl rfl)) rfl <| RunA.rd rfl rfl rfl (OpOK.of_ro (RO.pickT rfl rfl)) rfl ?_
           refine RunA.case (c := ((leqB x17.1 a2) == false)) rfl rfl rfl (OpOK.of_ro (RO.move rfl)) rfl (fun c29 => ?_) (fun c29 => ?_)
           ·
            replace h1 := condT c29 h1
            refine RunA.rd rfl rfl rfl (OpOK.callFun (awake_fun) rfl .nil) rfl <| RunA.rd rfl rfl rfl (OpOK.of_ro (RO.pickT rfl rfl)) rfl <| RunA.rd rfl rfl rfl (OpOK.of_ro (RO.assign rfl)) rfl ?_
            refine RunA.nil ⟨?ex, _, _, rfl, ?_⟩
            case ex => exact trivial
            have e_ := Option.some.inj h1
            subst e_
            exact XQ.joinR true (stle (tR rfl tZ) (hR rfl (hR rfl (hR rfl (hR rfl hZ)))) kZ rfl (Nat.zero_le _) rfl rfl rfl (bB rfl rfl (bB rfl rfl (bB rfl rfl (bB rfl rfl bZ)))) rfl rfl) h0
           ·
            replace h1 := condF c29 h1
            refine RunA.no rfl rfl rfl rfl <| RunA.rd rfl rfl rfl (OpOK.of_ro (RO.pickF rfl rfl)) rfl <| RunA.rd rfl rfl rfl (OpOK.of_ro (RO.assign rfl)) rfl ?_
            refine RunA.nil ⟨?ex, _, _, rfl, ?_⟩
            case ex => exact trivial
            have e_ := Option.some.inj h1
            subst e_
            exact XQ.joinR false (stle (tR rfl tZ) (hR rfl (hR rfl (hR rfl (hR rfl hZ)))) kZ rfl (Nat.zero_le _) rfl rfl rfl (bB rfl rfl (bB rfl rfl (bB rfl rfl (bB rfl rfl bZ)))) rfl rfl) h0
         ·
          replace h1 := condF c23 h1
          refine RunA.no rfl rfl rfl rfl <| RunA.no rfl rfl rfl rfl <| RunA.no rfl rfl rfl rfl <| RunA.no rfl rfl rfl rfl <| RunA.no rfl rfl rfl rfl <| RunA.no rfl rfl rfl rfl <| RunA.no rfl rfl rfl rfl <| RunA.no rfl rfl rfl rfl <| RunA.no rfl rfl rfl rfl <| RunA.no rfl rfl rfl rfl <| RunA.no rfl rfl rfl rfl <| RunA.no rfl rfl rfl rfl <| RunA.rd rfl rfl rfl (OpOK.of_ro (RO.pickF rfl rfl)) rfl <| RunA.rd rfl rfl rfl (OpOK.of_ro (RO.move rfl)) rfl ?_
          refine RunA.no rfl rfl rfl rfl <| RunA.rd rfl rfl rfl (OpOK.of_ro (RO.pickF rfl rfl)) rfl <| RunA.rd rfl rfl rfl (OpOK.of_ro (RO.assign rfl)) rfl ?_
          refine RunA.nil ⟨?ex, _, _, rfl, ?_⟩
          case ex => exact trivial
          have e_ := Option.some.inj h1
          subst e_
          exact XQ.joinR false (stle (tR rfl tZ) (hR rfl (hR rfl (hR rfl (hR rfl hZ)))) kZ rfl (Nat.zero_le _) rfl rfl rfl (bB rfl rfl (bB rfl rfl (bB rfl rfl (bB rfl rfl bZ)))) rfl rfl) h0
        ·
         replace h1 := condF c21 h1
         refine RunA.no rfl rfl rfl rfl <| RunA.no rfl rfl rfl rfl <| RunA.no rfl rfl rfl rfl <| RunA.rd rfl rfl rfl (OpOK.of_ro (RO.pickF rfl rfl)) rfl <| RunA.rd rfl rfl rfl (OpOK.of_ro (RO.move rfl)) rfl <| RunA.no rfl rfl rfl rfl <| RunA.no rfl rfl rfl rfl <| RunA.no rfl rfl rfl rfl <| RunA.no rfl rfl rfl rfl <| RunA.no rfl rfl rfl rfl <| RunA.no rfl rfl rfl rfl <| RunA.no rfl rfl rfl rfl <| RunA.no rfl rfl rfl rfl <| RunA.no rfl rfl rfl rfl ?_
         refine RunA.no rfl rfl rfl rfl <| RunA.no rfl rfl rfl rfl <| RunA.no rfl rfl rfl rfl <| RunA.rd rfl rfl rfl (OpOK.of_ro (RO.pickF rfl rfl)) rfl <| RunA.rd rfl rfl rfl (OpOK.of_ro (RO.move rfl)) rfl <| RunA.no rfl rfl rfl rfl <| RunA.rd rfl rfl rfl (OpOK.of_ro (RO.pickF rfl rfl)) rfl <| RunA.rd rfl rfl rfl (OpOK.of_ro (RO.assign rfl)) rfl ?_
         refine RunA.nil ⟨?ex, _, _, rfl, ?_⟩
         case ex => exact trivial
         have e_ := Option.some.inj h1
         subst e_
         exact XQ.joinR false (stle (tR rfl tZ) (hR rfl (hR rfl (hR rfl (hR rfl hZ)))) kZ rfl (Nat.zero_le _) rfl rfl rfl (bB rfl rfl (bB rfl rfl (bB rfl rfl (bB rfl rfl bZ)))) rfl rfl) h0
       ·
        replace h1 := condF c19 h1
        refine RunA.no rfl rfl rfl rfl <| RunA.no rfl rfl rfl rfl <| RunA.no rfl rfl rfl rfl <| RunA.rd rfl rfl rfl (OpOK.of_ro (RO.pickF rfl rfl)) rfl <| RunA.rd rfl rfl rfl (OpOK.of_ro (RO.move rfl)) rfl <| RunA.no rfl rfl rfl rfl <| RunA.no rfl rfl rfl rfl <| RunA.no rfl rfl rfl rfl <| RunA.rd rfl rfl rfl (OpOK.of_ro (RO.pickF rfl rfl)) rfl <| RunA.rd rfl rfl rfl (OpOK.of_ro (RO.move rfl)) rfl <| RunA.no rfl rfl rfl rfl <| RunA.no rfl rfl rfl rfl <| RunA.no rfl rfl rfl rfl <| RunA.no rfl rfl rfl rfl ?_
        refine RunA.no rfl rfl rfl rfl <| RunA.no rfl rfl rfl rfl <| RunA.no rfl rfl rfl rfl <| RunA.no rfl rfl rfl rfl <| RunA.no rfl rfl rfl rfl <| RunA.no rfl rfl rfl rfl <| RunA.no rfl rfl rfl rfl <| RunA.no rfl rfl rfl rfl <| RunA.rd rfl rfl rfl (OpOK.of_ro (RO.pickF rfl rfl)) rfl <| RunA.rd rfl rfl rfl (OpOK.of_ro (RO.move rfl)) rfl <| RunA.no rfl rfl rfl rfl <| RunA.rd rfl rfl rfl (OpOK.of_ro (RO.pickF rfl rfl)) rfl <| RunA.rd rfl rfl rfl (OpOK.of_ro (RO.assign rfl)) rfl ?_
        refine RunA.nil ⟨?ex, _, _, rfl, ?_⟩
        case ex => exact trivial
        have e_ := Option.some.inj h1
        subst e_
        exact XQ.joinR false (stle (tR rfl tZ) (hR rfl (hR rfl (hR rfl (hR rfl hZ)))) kZ rfl (Nat.zero_le _) rfl rfl rfl (bB rfl rfl (bB rfl rfl (bB rfl rfl (bB rfl rfl bZ)))) rfl rfl) h0
      ·
       intro v18 h0
       refine XQ.seq <| XC.ret ?_
       have e_ := Option.some.inj h0
       subst e_
       exact XQ.retF (fun _ _ h => h) rfl (RAs.tmp rfl .nil) (.cons (.one (.d _)) .nil)
end Go.Proofs.YtcapifnaceegmaaGreatDoor
