/- Mirrors of layer 1: the law of values. Plain laws of layer 1: the values of Plus, Max and Subst; the law of values. -/
import Derived.Test.YtcapifnaceegmaaGreatDoorMv
import Derived.Test.YtcapifnaceegmaaGreatDoorPl4
import Derived.Test.YtcapifnaceegmaaGreatDoorPsu
import Derived.Test.YtcapifnaceegmaaGreatDoorAw
import Derived.Test.YtcapifnaceegmaaGreatDoorPl11
import Derived.Test.YtcapifnaceegmaaGreatDoorVl
import Derived.Test.YtcapifnaceegmaaGreatDoorPl6
namespace Go.Proofs.YtcapifnaceegmaaGreatDoor
section
open Go.RowKit Go.Shelf
set_option linter.unusedSimpArgs false
set_option linter.unusedVariables false

theorem fo_53_0 : fieldOff Tryz.prog 53 0 = some 0 := by kernel_rfl
theorem fo_53_1 : fieldOff Tryz.prog 53 1 = some 1 := by kernel_rfl
theorem fo_53_2 : fieldOff Tryz.prog 53 2 = some 2 := by kernel_rfl
theorem fo_53_3 : fieldOff Tryz.prog 53 3 = some 3 := by kernel_rfl
theorem ag_5 : tyAgg Tryz.prog 5 = some (false, 1) := by kernel_rfl
theorem ti_3 : tyInt Tryz.prog 3 = some .i64 := by kernel_rfl
theorem ti_5 : tyInt Tryz.prog 5 = some .u8 := by kernel_rfl
theorem en_10 : Enters Tryz.prog 10 := enters_of Tryz.func10 (by kernel_rfl) rfl
/-- euclid/euclidlaw01.LevelValues -/
def m10 (a0 : Lvl) (a1 : Lvl) (a2 : Vls) : Option Bool :=
  Option.bind (guardO (Nat.ble ([a0, a1]).length 9223372036854775807)
  (cond (!(fewL ([a0, a1])))
    (some true)
    (Option.bind (m28 a0 ([(w64 a2.u), (w64 a2.v), (w64 a2.w)])) fun (x4 : Int) =>
  cond (decide (x4 < 0))
    (some true)
    (Option.bind (m28 a1 ([(w64 a2.u), (w64 a2.v), (w64 a2.w)])) fun (x6 : Int) =>
  some (decide (x6 < 0)))))) (fun (v1 : Bool) => cond v1
    (some true)
    (Option.bind (m22 a0 (w64 (Int.tmod a2.n 40))) fun (x3 : Lvl × Int) =>
  Option.bind (m24 a0 a1) fun (x4 : Lvl × Int) =>
  Option.bind (cond (x3.2 != 0)
    (cond (x3.2 != 15)
    (some true)
    (cond (x4.2 != 0)
    (some true)
    (Option.bind (m28 x4.1 ([(w64 a2.u), (w64 a2.v), (w64 a2.w)])) fun (x9 : Int) =>
  Option.bind (m28 a0 ([(w64 a2.u), (w64 a2.v), (w64 a2.w)])) fun (x10 : Int) =>
  Option.bind (m28 a1 ([(w64 a2.u), (w64 a2.v), (w64 a2.w)])) fun (x11 : Int) =>
  some (x9 != (max x10 x11)))))
    (cond (x4.2 != 0)
    (some true)
    (Option.bind (m28 x4.1 ([(w64 a2.u), (w64 a2.v), (w64 a2.w)])) fun (x13 : Int) =>
  Option.bind (m28 a0 ([(w64 a2.u), (w64 a2.v), (w64 a2.w)])) fun (x14 : Int) =>
  Option.bind (m28 a1 ([(w64 a2.u), (w64 a2.v), (w64 a2.w)])) fun (x15 : Int) =>
  some (x13 != (max x14 x15))))) (fun (v5 : Bool) => cond v5
    (some false)
    (Option.bind (cond (x3.2 == 0)
    (Option.bind (m28 x3.1 ([(w64 a2.u), (w64 a2.v), (w64 a2.w)])) fun (x9 : Int) =>
  Option.bind (m28 a0 ([(w64 a2.u), (w64 a2.v), (w64 a2.w)])) fun (x10 : Int) =>
  some (x9 != (w64 (x10 + (w64 (Int.tmod a2.n 40))))))
    (some false)) (fun (v7 : Bool) => cond v7
    (some false)
    (Option.bind (m34 a0 ([a1, x4.1, a0])) fun (x9 : Lvl × Int) =>
  cond (x9.2 != 0)
    (Option.bind (cond (x9.2 == 15)
    (some true)
    (some false)) (fun (v11 : Bool) => some v11))
    (Option.bind (Option.bind (m28 x9.1 ([(w64 a2.u), (w64 a2.v), (w64 a2.w)])) fun (x14 : Int) =>
  Option.bind (m28 a1 ([(w64 a2.u), (w64 a2.v), (w64 a2.w)])) fun (x15 : Int) =>
  Option.bind (m28 x4.1 ([(w64 a2.u), (w64 a2.v), (w64 a2.w)])) fun (x16 : Int) =>
  Option.bind (m28 a0 ([(w64 a2.u), (w64 a2.v), (w64 a2.w)])) fun (x17 : Int) =>
  Option.bind (m28 a0 ([x15, x16, x17])) fun (x18 : Int) =>
  cond (x14 == x18)
    (some true)
    (some false)) (fun (v13 : Bool) => some v13))))))))

set_option maxRecDepth 100000 in
set_option maxHeartbeats 8000000 in
theorem m10_ok (a0 : Lvl) (a1 : Lvl) (a2 : Vls) (r : Bool) (h0 : m10 a0 a1 a2 = some r) : Fun Tryz.prog 10 [.agg (cE a0), .agg (cE a1), .agg (cE a2)] (resOf [.one (dB r)]) := by
  unfold m10 at h0
  refine Fun.of_bodyM 9 131 Tryz.func10 rfl en_10 rfl (lb rfl) (fun S w => ?_)
  simp only [entry]
  refine XC.seq <| XC.region <| XL.put rfl rfl (lb rfl) (OpOK.box rfl) <| XL.put rfl rfl (lb rfl) (OpOK.box rfl) <| XL.put rfl rfl (lb rfl) (OpOK.box rfl) <| rA rfl rfl rfl <| XL.nil <| XQ.seq <| XC.seq <| XC.region <| rR rfl rfl rfl (RO.fieldOwn fo_53_0 rfl) <| rR rfl rfl rfl (RO.loadOwn ag_5 rfl rfl rfl) <| rR rfl rfl rfl (RO.conv2 ti_5 ti_3 rfl) <| rR rfl rfl rfl (RO.fieldOwn fo_53_1 rfl) ?_
  refine rR rfl rfl rfl (RO.loadOwn ag_5 rfl rfl rfl) <| rR rfl rfl rfl (RO.conv2 ti_5 ti_3 rfl) <| rR rfl rfl rfl (RO.fieldOwn fo_53_2 rfl) <| rR rfl rfl rfl (RO.loadOwn ag_5 rfl rfl rfl) <| rR rfl rfl rfl (RO.conv2 ti_5 ti_3 rfl) <| XL.put rfl rfl (lb rfl) (OpOK.data3E (α := Int) (w64 a2.u) (w64 a2.v) (w64 a2.w) sl_46 z_3 rfl rfl (lb rfl) rfl rfl rfl rfl (.cons (.d _) (.cons (.d _) (.cons (.d _) .nil))) ⟨rfl, rfl, rfl⟩) <| rA rfl rfl rfl <| XL.nil <| XQ.seq <| XC.seq <| XC.seq ?_
  refine XC.joinR (fun (v1 : Bool) => ⟨[(3, .v (.one (.ptr 0 0))), (4, .v (.one (.ptr 1 0))), (5, .v (.one (.ptr 2 0))), (7, .v (.one (dS ([(w64 a2.u), (w64 a2.v), (w64 a2.w)] : List Int)))), (40, .v (.one (dB v1)))], [(0, .cells 24 (cE a0)), (1, .cells 24 (cE a1)), (2, .cells 53 (cE a2))], [], 3, 131, []⟩) (fun (v1 : Bool) => (cond v1
      (some true)
      (Option.bind (m22 a0 (w64 (Int.tmod a2.n 40))) fun (x3 : Lvl × Int) =>
    Option.bind (m24 a0 a1) fun (x4 : Lvl × Int) =>
    Option.bind (cond (x3.2 != 0)
      (cond (x3.2 != 15)
      (some true)
      (cond (x4.2 != 0)
      (some true)
      (Option.bind (m28 x4.1 ([(w64 a2.u), (w64 a2.v), (w64 a2.w)])) fun (x9 : Int) =>
    Option.bind (m28 a0 ([(w64 a2.u), (w64 a2.v), (w64 a2.w)])) fun (x10 : Int) =>
    Option.bind (m28 a1 ([(w64 a2.u), (w64 a2.v), (w64 a2.w)])) fun (x11 : Int) =>
    some (x9 != (max x10 x11)))))
      (cond (x4.2 != 0)
      (some true)
      (Option.bind (m28 x4.1 ([(w64 a2.u), (w64 a2.v), (w64 a2.w)])) fun (x13 : Int) =>
    Option.bind (m28 a0 ([(w64 a2.u), (w64 a2.v), (w64 a2.w)])) fun (x14 : Int) =>
    Option.bind (m28 a1 ([(w64 a2.u), (w64 a2.v), (w64 a2.w)])) fun (x15 : Int) =>
    some (x13 != (max x14 x15))))) (fun (v5 : Bool) => cond v5
      (some false)
      (Option.bind (cond (x3.2 == 0)
      (Option.bind (m28 x3.1 ([(w64 a2.u), (w64 a2.v), (w64 a2.w)])) fun (x9 : Int) =>
    Option.bind (m28 a0 ([(w64 a2.u), (w64 a2.v), (w64 a2.w)])) fun (x10 : Int) =>
    some (x9 != (w64 (x10 + (w64 (Int.tmod a2.n 40))))))
      (some false)) (fun (v7 : Bool) => cond v7
      (some false)
      (Option.bind (m34 a0 ([a1, x4.1, a0])) fun (x9 : Lvl × Int) =>
    cond (x9.2 != 0)
      (Option.bind (cond (x9.2 == 15)
      (some true)
      (some false)) (fun (v11 : Bool) => some v11))
      (Option.bind (Option.bind (m28 x9.1 ([(w64 a2.u), (w64 a2.v), (w64 a2.w)])) fun (x14 : Int) =>
    Option.bind (m28 a1 ([(w64 a2.u), (w64 a2.v), (w64 a2.w)])) fun (x15 : Int) =>
    Option.bind (m28 x4.1 ([(w64 a2.u), (w64 a2.v), (w64 a2.w)])) fun (x16 : Int) =>
    Option.bind (m28 a0 ([(w64 a2.u), (w64 a2.v), (w64 a2.w)])) fun (x17 : Int) =>
    Option.bind (m28 a0 ([x15, x16, x17])) fun (x18 : Int) =>
    cond (x14 == x18)
      (some true)
      (some false)) (fun (v13 : Bool) => some v13)))))))) = some r) ?_ ?_
  ·
   refine bindK h0 (fun v_ h1 h0 => ?_)
   refine XC.region <| rR rfl rfl rfl (RO.loadOwnAgg ag_24 rfl rfl rfl rfl) <| rR rfl rfl rfl (RO.loadOwnAgg ag_24 rfl rfl rfl rfl) <| XL.put rfl rfl (lb rfl) (OpOK.data2E (α := Lvl) a0 a1 sl_55 z_24 rfl rfl (lb rfl) rfl rfl rfl (.cons (.d _) (.cons (.d _) (.cons (.d _) (.cons (.d _) .nil)))) ⟨rfl, rfl⟩) ?_
   refine guardK h1 (fun g2 h1 => ?_)
   refine XL.put rfl rfl (lb rfl) (OpOK.callFun (few_any ([a0, a1]) g2) rfl (.cons (.one (.d _)) .nil)) <| rR rfl rfl rfl (RO.not rfl) <| rM rfl rfl rfl ?_
   refine XL.case (d := 29) (c := (!(fewL ([a0, a1])))) rfl (fun c3 => ?_) (fun c3 => ?_)
   ·
    replace h1 := condT c3 h1
    refine XL.no rfl rfl <| XL.no rfl rfl <| XL.no rfl rfl <| XL.no rfl rfl <| rR rfl rfl rfl (RO.pickT rfl rfl) <| rM rfl rfl rfl <| XL.no rfl rfl <| XL.no rfl rfl <| XL.no rfl rfl <| XL.no rfl rfl <| rR rfl rfl rfl (RO.pickT rfl rfl) <| XL.nil ?_
    have e_ := Option.some.inj h1
    subst e_
    exact XQ.joinR true (stle (tR rfl (tR rfl (tR rfl (tR rfl (tR rfl tZ))))) (hR rfl (hR rfl (hR rfl hZ))) kZ rfl (Nat.zero_le _) rfl rfl rfl (bB rfl rfl (bB rfl rfl (bB rfl rfl bZ))) rfl rfl) h0
   ·
    replace h1 := condF c3 h1
    refine rR rfl rfl rfl (RO.loadOwnAgg ag_24 rfl rfl rfl rfl) <| rM rfl rfl rfl ?_
    refine bindK h1 (fun x4 hx4 h1 => ?_)
    refine XL.put rfl rfl (lb rfl) (OpOK.callFun (m28_ok a0 ([(w64 a2.u), (w64 a2.v), (w64 a2.w)]) x4 hx4) rfl (.cons (.agg (.cons (.d _) (.cons (.d _) .nil))) (.cons (.one (.d _)) .nil))) <| rR rfl rfl rfl (RO.binInt rfl rfl rfl) <| rR rfl rfl rfl (RO.pickF rfl rfl) <| rM rfl rfl rfl ?_
    refine XL.case (d := 35) (c := (decide (x4 < 0))) rfl (fun c5 => ?_) (fun c5 => ?_)
    ·
     replace h1 := condT c5 h1
     refine XL.no rfl rfl <| XL.no rfl rfl <| XL.no rfl rfl <| XL.no rfl rfl <| rR rfl rfl rfl (RO.pickT rfl rfl) <| XL.nil ?_
     have e_ := Option.some.inj h1
     subst e_
     exact XQ.joinR true (stle (tR rfl (tR rfl (tR rfl (tR rfl (tR rfl tZ))))) (hR rfl (hR rfl (hR rfl hZ))) kZ rfl (Nat.zero_le _) rfl rfl rfl (bB rfl rfl (bB rfl rfl (bB rfl rfl bZ))) rfl rfl) h0
    ·
     replace h1 := condF c5 h1
     refine rR rfl rfl rfl (RO.loadOwnAgg ag_24 rfl rfl rfl rfl) <| rM rfl rfl rfl ?_
     refine bindK h1 (fun x6 hx6 h1 => ?_)
     refine XL.put rfl rfl (lb rfl) (OpOK.callFun (m28_ok a1 ([(w64 a2.u), (w64 a2.v), (w64 a2.w)]) x6 hx6) rfl (.cons (.agg (.cons (.d _) (.cons (.d _) .nil))) (.cons (.one (.d _)) .nil))) <| rR rfl rfl rfl (RO.binInt rfl rfl rfl) <| rR rfl rfl rfl (RO.pickF rfl rfl) <| XL.nil ?_
     have e_ := Option.some.inj h1
     subst e_
     exact XQ.joinR (decide (x6 < 0)) (stle (tR rfl (tR rfl (tR rfl (tR rfl (tR rfl tZ))))) (hR rfl (hR rfl (hR rfl hZ))) kZ rfl (Nat.zero_le _) rfl rfl rfl (bB rfl rfl (bB rfl rfl (bB rfl rfl bZ))) rfl rfl) h0
  ·
   intro v1 h0
   refine XQ.seq ?_
   refine XC.cond (b := v1) rfl (fun c7 => ?_) (fun c7 => ?_)
   ·
    replace h0 := condT c7 h0
    refine XC.seq <| XC.region <| XL.put rfl rfl (lb rfl) (OpOK.callFun (awake_fun) rfl .nil) <| rA rfl rfl rfl <| XL.nil <| XQ.seq <| XC.ret ?_
    have e_ := Option.some.inj h0
    subst e_
    exact XQ.retF (fun _ _ h => h) rfl (RAs.tmp rfl .nil) (.cons (.one (.d _)) .nil)
   ·
    replace h0 := condF c7 h0
    refine XC.skip <| XQ.seq <| XC.seq <| XC.region <| rR rfl rfl rfl (RO.loadOwnAgg ag_24 rfl rfl rfl rfl) <| rR rfl rfl rfl (RO.fieldOwn fo_53_3 rfl) <| rR rfl rfl rfl (RO.loadOwn ag_5 rfl rfl rfl) <| rR rfl rfl rfl (RO.binInt rfl rfl rfl) <| rR rfl rfl rfl (RO.conv2 ti_5 ti_3 rfl) ?_
    refine bindK h0 (fun x8 hx8 h0 => ?_)
    refine XL.put rfl rfl (lb rfl) (OpOK.callFun (m22_ok a0 (w64 (Int.tmod a2.n 40)) x8 hx8) rfl (.cons (.agg (.cons (.d _) (.cons (.d _) .nil))) (.cons (.one (.d _)) .nil))) <| rM rfl rfl rfl <| rR rfl rfl rfl (RO.extract rfl rfl) <| rR rfl rfl rfl (RO.extract rfl rfl) <| XL.put rfl rfl (lb rfl) (OpOK.alloc z_24 rfl) <| XL.eff rfl rfl (OpOK.store ag_24 rfl rfl rfl rfl (lb rfl) rfl) <| rA rfl rfl rfl <| XL.nil <| XQ.seq <| XC.seq <| XC.region <| rR rfl rfl rfl (RO.loadOwnAgg ag_24 rfl rfl rfl rfl) <| rR rfl rfl rfl (RO.loadOwnAgg ag_24 rfl rfl rfl rfl) ?_
    refine bindK h0 (fun x9 hx9 h0 => ?_)
    refine XL.put rfl rfl (lb rfl) (OpOK.callFun (m24_ok a0 a1 x9 hx9) rfl (.cons (.agg (.cons (.d _) (.cons (.d _) .nil))) (.cons (.agg (.cons (.d _) (.cons (.d _) .nil))) .nil))) <| rM rfl rfl rfl <| rR rfl rfl rfl (RO.extract rfl rfl) <| rR rfl rfl rfl (RO.extract rfl rfl) <| XL.put rfl rfl (lb rfl) (OpOK.alloc z_24 rfl) <| XL.eff rfl rfl (OpOK.store ag_24 rfl rfl rfl rfl (lb rfl) rfl) <| rA rfl rfl rfl <| XL.nil <| XQ.seq <| XC.seq <| XC.seq ?_
    refine XC.joinR (fun (v10 : Bool) => ⟨[(3, .v (.one (.ptr 0 0))), (4, .v (.one (.ptr 1 0))), (5, .v (.one (.ptr 2 0))), (7, .v (.one (dS ([(w64 a2.u), (w64 a2.v), (w64 a2.w)] : List Int)))), (8, .v (.one (.ptr 3 0))), (9, .v (.one (dI x8.2))), (10, .v (.one (.ptr 4 0))), (79, .v (.one (dB v10)))], [(0, .cells 24 (cE a0)), (1, .cells 24 (cE a1)), (2, .cells 53 (cE a2)), (3, .cells 24 (cE x8.1)), (4, .cells 24 (cE x9.1))], [], 5, 131, []⟩) (fun (v10 : Bool) => (cond v10
        (some false)
        (Option.bind (cond (x8.2 == 0)
        (Option.bind (m28 x8.1 ([(w64 a2.u), (w64 a2.v), (w64 a2.w)])) fun (x14 : Int) =>
      Option.bind (m28 a0 ([(w64 a2.u), (w64 a2.v), (w64 a2.w)])) fun (x15 : Int) =>
      some (x14 != (w64 (x15 + (w64 (Int.tmod a2.n 40))))))
        (some false)) (fun (v12 : Bool) => cond v12
        (some false)
        (Option.bind (m34 a0 ([a1, x9.1, a0])) fun (x14 : Lvl × Int) =>
      cond (x14.2 != 0)
        (Option.bind (cond (x14.2 == 15)
        (some true)
        (some false)) (fun (v16 : Bool) => some v16))
        (Option.bind (Option.bind (m28 x14.1 ([(w64 a2.u), (w64 a2.v), (w64 a2.w)])) fun (x19 : Int) =>
      Option.bind (m28 a1 ([(w64 a2.u), (w64 a2.v), (w64 a2.w)])) fun (x20 : Int) =>
      Option.bind (m28 x9.1 ([(w64 a2.u), (w64 a2.v), (w64 a2.w)])) fun (x21 : Int) =>
      Option.bind (m28 a0 ([(w64 a2.u), (w64 a2.v), (w64 a2.w)])) fun (x22 : Int) =>
      Option.bind (m28 a0 ([x20, x21, x22])) fun (x23 : Int) =>
      cond (x19 == x23)
        (some true)
        (some false)) (fun (v18 : Bool) => some v18)))))) = some r) ?_ ?_
    ·
     refine bindK h0 (fun v_ h1 h0 => ?_)
     refine XC.anyRun [] [] mixed (by kernel_rfl) (by kernel_rfl) (by kernel_rfl) ?_
     refine RunA.rd rfl rfl rfl (OpOK.of_ro (RO.move rfl)) rfl <| RunA.rd rfl rfl rfl (OpOK.of_ro (RO.binInt rfl rfl rfl)) rfl ?_
     refine RunA.case (c := (x8.2 != 0)) rfl rfl rfl (OpOK.of_ro (RO.move rfl)) rfl (fun c11 => ?_) (fun c11 => ?_)
     ·
      replace h1 := condT c11 h1
      refine RunA.rd rfl rfl rfl (OpOK.of_ro (RO.move rfl)) rfl <| RunA.rd rfl rfl rfl (OpOK.of_ro (RO.binInt rfl rfl rfl)) rfl <| RunA.rd rfl rfl rfl (OpOK.of_ro (RO.pickT rfl rfl)) rfl ?_
      refine RunA.case (c := (x8.2 != 15)) rfl rfl rfl (OpOK.of_ro (RO.move rfl)) rfl (fun c12 => ?_) (fun c12 => ?_)
      ·
       replace h1 := condT c12 h1
       refine RunA.no rfl rfl rfl rfl <| RunA.no rfl rfl rfl rfl <| RunA.rd rfl rfl rfl (OpOK.of_ro (RO.pickT rfl rfl)) rfl <| RunA.rd rfl rfl rfl (OpOK.of_ro (RO.move rfl)) rfl <| RunA.no rfl rfl rfl rfl <| RunA.no rfl rfl rfl rfl <| RunA.no rfl rfl rfl rfl <| RunA.no rfl rfl rfl rfl <| RunA.no rfl rfl rfl rfl <| RunA.no rfl rfl rfl rfl <| RunA.no rfl rfl rfl rfl <| RunA.no rfl rfl rfl rfl <| RunA.no rfl rfl rfl rfl <| RunA.no rfl rfl rfl rfl ?_
       refine RunA.no rfl rfl rfl rfl <| RunA.rd rfl rfl rfl (OpOK.of_ro (RO.pickT rfl rfl)) rfl ?_
       refine RunA.nil ⟨?ex, _, _, rfl, ?_⟩
       case ex => exact trivial
       have e_ := Option.some.inj h1
       subst e_
       exact XQ.joinR true (stle (tR rfl (tR rfl (tR rfl (tR rfl (tR rfl (tR rfl (tR rfl (tR rfl tZ)))))))) (hR rfl (hR rfl (hR rfl (hR rfl (hR rfl hZ))))) kZ rfl (Nat.zero_le _) rfl rfl rfl (bB rfl rfl (bB rfl rfl (bB rfl rfl (bB rfl rfl (bB rfl rfl bZ))))) rfl rfl) h0
      ·
       replace h1 := condF c12 h1
       refine RunA.rd rfl rfl rfl (OpOK.of_ro (RO.move rfl)) rfl <| RunA.rd rfl rfl rfl (OpOK.of_ro (RO.binInt rfl rfl rfl)) rfl <| RunA.rd rfl rfl rfl (OpOK.of_ro (RO.pickF rfl rfl)) rfl ?_
       refine RunA.case (c := (x9.2 != 0)) rfl rfl rfl (OpOK.of_ro (RO.move rfl)) rfl (fun c13 => ?_) (fun c13 => ?_)
       ·
        replace h1 := condT c13 h1
        refine RunA.no rfl rfl rfl rfl <| RunA.no rfl rfl rfl rfl <| RunA.no rfl rfl rfl rfl <| RunA.no rfl rfl rfl rfl <| RunA.no rfl rfl rfl rfl <| RunA.no rfl rfl rfl rfl <| RunA.no rfl rfl rfl rfl <| RunA.no rfl rfl rfl rfl <| RunA.no rfl rfl rfl rfl <| RunA.no rfl rfl rfl rfl <| RunA.no rfl rfl rfl rfl <| RunA.rd rfl rfl rfl (OpOK.of_ro (RO.pickT rfl rfl)) rfl ?_
        refine RunA.nil ⟨?ex, _, _, rfl, ?_⟩
        case ex => exact trivial
        have e_ := Option.some.inj h1
        subst e_
        exact XQ.joinR true (stle (tR rfl (tR rfl (tR rfl (tR rfl (tR rfl (tR rfl (tR rfl (tR rfl tZ)))))))) (hR rfl (hR rfl (hR rfl (hR rfl (hR rfl hZ))))) kZ rfl (Nat.zero_le _) rfl rfl rfl (bB rfl rfl (bB rfl rfl (bB rfl rfl (bB rfl rfl (bB rfl rfl bZ))))) rfl rfl) h0
       ·
        replace h1 := condF c13 h1
        refine RunA.rd rfl rfl rfl (OpOK.of_ro (RO.loadOwnAgg ag_24 rfl rfl rfl rfl)) rfl <| RunA.rd rfl rfl rfl (OpOK.of_ro (RO.move rfl)) rfl ?_
        refine bindK h1 (fun x14 hx14 h1 => ?_)
        refine RunA.rd rfl rfl rfl (OpOK.callFun (m28_ok x9.1 ([(w64 a2.u), (w64 a2.v), (w64 a2.w)]) x14 hx14) rfl (.cons (.agg (.cons (.d _) (.cons (.d _) .nil))) (.cons (.one (.d _)) .nil))) rfl <| RunA.rd rfl rfl rfl (OpOK.of_ro (RO.loadOwnAgg ag_24 rfl rfl rfl rfl)) rfl <| RunA.rd rfl rfl rfl (OpOK.of_ro (RO.move rfl)) rfl ?_
        refine bindK h1 (fun x15 hx15 h1 => ?_)
        refine RunA.rd rfl rfl rfl (OpOK.callFun (m28_ok a0 ([(w64 a2.u), (w64 a2.v), (w64 a2.w)]) x15 hx15) rfl (.cons (.agg (.cons (.d _) (.cons (.d _) .nil))) (.cons (.one (.d _)) .nil))) rfl <| RunA.rd rfl rfl rfl (OpOK.of_ro (RO.loadOwnAgg ag_24 rfl rfl rfl rfl)) rfl <| RunA.rd rfl rfl rfl (OpOK.of_ro (RO.move rfl)) rfl ?_
        refine bindK h1 (fun x16 hx16 h1 => ?_)
        refine RunA.rd rfl rfl rfl (OpOK.callFun (m28_ok a1 ([(w64 a2.u), (w64 a2.v), (w64 a2.w)]) x16 hx16) rfl (.cons (.agg (.cons (.d _) (.cons (.d _) .nil))) (.cons (.one (.d _)) .nil))) rfl <| RunA.rd rfl rfl rfl (OpOK.of_ro (RO.max2 rfl rfl)) rfl <| RunA.rd rfl rfl rfl (OpOK.of_ro (RO.binInt rfl rfl rfl)) rfl <| RunA.rd rfl rfl rfl (OpOK.of_ro (RO.pickF rfl rfl)) rfl ?_
        refine RunA.nil ⟨?ex, _, _, rfl, ?_⟩
        case ex => exact trivial
        have e_ := Option.some.inj h1
        subst e_
        exact XQ.joinR (x14 != (max x15 x16)) (stle (tR rfl (tR rfl (tR rfl (tR rfl (tR rfl (tR rfl (tR rfl (tR rfl tZ)))))))) (hR rfl (hR rfl (hR rfl (hR rfl (hR rfl hZ))))) kZ rfl (Nat.zero_le _) rfl rfl rfl (bB rfl rfl (bB rfl rfl (bB rfl rfl (bB rfl rfl (bB rfl rfl bZ))))) rfl rfl) h0
     ·
      replace h1 := condF c11 h1
      refine RunA.no rfl rfl rfl rfl <| RunA.no rfl rfl rfl rfl <| RunA.rd rfl rfl rfl (OpOK.of_ro (RO.pickF rfl rfl)) rfl <| RunA.rd rfl rfl rfl (OpOK.of_ro (RO.move rfl)) rfl <| RunA.rd rfl rfl rfl (OpOK.of_ro (RO.move rfl)) rfl <| RunA.rd rfl rfl rfl (OpOK.of_ro (RO.binInt rfl rfl rfl)) rfl <| RunA.rd rfl rfl rfl (OpOK.of_ro (RO.pickF rfl rfl)) rfl ?_
      refine RunA.case (c := (x9.2 != 0)) rfl rfl rfl (OpOK.of_ro (RO.move rfl)) rfl (fun c17 => ?_) (fun c17 => ?_)
      ·
       replace h1 := condT c17 h1
       refine RunA.no rfl rfl rfl rfl <| RunA.no rfl rfl rfl rfl <| RunA.no rfl rfl rfl rfl <| RunA.no rfl rfl rfl rfl <| RunA.no rfl rfl rfl rfl <| RunA.no rfl rfl rfl rfl <| RunA.no rfl rfl rfl rfl <| RunA.no rfl rfl rfl rfl <| RunA.no rfl rfl rfl rfl <| RunA.no rfl rfl rfl rfl <| RunA.no rfl rfl rfl rfl <| RunA.rd rfl rfl rfl (OpOK.of_ro (RO.pickT rfl rfl)) rfl ?_
       refine RunA.nil ⟨?ex, _, _, rfl, ?_⟩
       case ex => exact trivial
       have e_ := Option.some.inj h1
       subst e_
       exact XQ.joinR true (stle (tR rfl (tR rfl (tR rfl (tR rfl (tR rfl (tR rfl (tR rfl (tR rfl tZ)))))))) (hR rfl (hR rfl (hR rfl (hR rfl (hR rfl hZ))))) kZ rfl (Nat.zero_le _) rfl rfl rfl (bB rfl rfl (bB rfl rfl (bB rfl rfl (bB rfl rfl (bB rfl rfl bZ))))) rfl rfl) h0
      ·
       replace h1 := condF c17 h1
       refine RunA.rd rfl rfl rfl (OpOK.of_ro (RO.loadOwnAgg ag_24 rfl rfl rfl rfl)) rfl <| RunA.rd rfl rfl rfl (OpOK.of_ro (RO.move rfl)) rfl ?_
       refine bindK h1 (fun x18 hx18 h1 => ?_)
       refine RunA.rd rfl rfl rfl (OpOK.callFun (m28_ok x9.1 ([(w64 a2.u), (w64 a2.v), (w64 a2.w)]) x18 hx18) rfl (.cons (.agg (.cons (.d _) (.cons (.d _) .nil))) (.cons (.one (.d _)) .nil))) rfl <| RunA.rd rfl rfl rfl (OpOK.of_ro (RO.loadOwnAgg ag_24 rfl rfl rfl rfl)) rfl <| RunA.rd rfl rfl rfl (OpOK.of_ro (RO.move rfl)) rfl ?_
       refine bindK h1 (fun x19 hx19 h1 => ?_)
       refine RunA.rd rfl rfl rfl (OpOK.callFun (m28_ok a0 ([(w64 a2.u), (w64 a2.v), (w64 a2.w)]) x19 hx19) rfl (.cons (.agg (.cons (.d _) (.cons (.d _) .nil))) (.cons (.one (.d _)) .nil))) rfl <| RunA.rd rfl rfl rfl (OpOK.of_ro (RO.loadOwnAgg ag_24 rfl rfl rfl rfl)) rfl <| RunA.rd rfl rfl rfl (OpOK.of_ro (RO.move rfl)) rfl ?_
       refine bindK h1 (fun x20 hx20 h1 => ?_)
       refine RunA.rd rfl rfl rfl (OpOK.callFun (m28_ok a1 ([(w64 a2.u), (w64 a2.v), (w64 a2.w)]) x20 hx20) rfl (.cons (.agg (.cons (.d _) (.cons (.d _) .nil))) (.cons (.one (.d _)) .nil))) rfl <| RunA.rd rfl rfl rfl (OpOK.of_ro (RO.max2 rfl rfl)) rfl <| RunA.rd rfl rfl rfl (OpOK.of_ro (RO.binInt rfl rfl rfl)) rfl <| RunA.rd rfl rfl rfl (OpOK.of_ro (RO.pickF rfl rfl)) rfl ?_
       refine RunA.nil ⟨?ex, _, _, rfl, ?_⟩
       case ex => exact trivial
       have e_ := Option.some.inj h1
       subst e_
       exact XQ.joinR (x18 != (max x19 x20)) (stle (tR rfl (tR rfl (tR rfl (tR rfl (tR rfl (tR rfl (tR rfl (tR rfl tZ)))))))) (hR rfl (hR rfl (hR rfl (hR rfl (hR rfl hZ))))) kZ rfl (Nat.zero_le _) rfl rfl rfl (bB rfl rfl (bB rfl rfl (bB rfl rfl (bB rfl rfl (bB rfl rfl bZ))))) rfl rfl) h0
    ·
     intro v10 h0
     refine XQ.seq ?_
     refine XC.cond (b := v10) rfl (fun c21 => ?_) (fun c21 => ?_)
     ·
      replace h0 := condT c21 h0
      refine XC.seq <| XC.region <| rA rfl rfl rfl <| XL.nil <| XQ.seq <| XC.ret ?_
      have e_ := Option.some.inj h0
      subst e_
      exact XQ.retF (fun _ _ h => h) rfl (RAs.tmp rfl .nil) (.cons (.one (.d _)) .nil)
     ·
      replace h0 := condF c21 h0
      refine XC.skip <| XQ.seq <| XC.seq <| XC.seq ?_
      refine XC.joinR (fun (v22 : Bool) => ⟨[(3, .v (.one (.ptr 0 0))), (4, .v (.one (.ptr 1 0))), (7, .v (.one (dS ([(w64 a2.u), (w64 a2.v), (w64 a2.w)] : List Int)))), (10, .v (.one (.ptr 4 0))), (95, .v (.one (dB v22)))], [(0, .cells 24 (cE a0)), (1, .cells 24 (cE a1)), (2, .cells 53 (cE a2)), (3, .cells 24 (cE x8.1)), (4, .cells 24 (cE x9.1))], [], 5, 131, []⟩) (fun (v22 : Bool) => (cond v22
          (some false)
          (Option.bind (m34 a0 ([a1, x9.1, a0])) fun (x24 : Lvl × Int) =>
        cond (x24.2 != 0)
          (Option.bind (cond (x24.2 == 15)
          (some true)
          (some false)) (fun (v26 : Bool) => some v26))
          (Option.bind (Option.bind (m28 x24.1 ([(w64 a2.u), (w64 a2.v), (w64 a2.w)])) fun (x29 : Int) =>
        Option.bind (m28 a1 ([(w64 a2.u), (w64 a2.v), (w64 a2.w)])) fun (x30 : Int) =>
        Option.bind (m28 x9.1 ([(w64 a2.u), (w64 a2.v), (w64 a2.w)])) fun (x31 : Int) =>
        Option.bind (m28 a0 ([(w64 a2.u), (w64 a2.v), (w64 a2.w)])) fun (x32 : Int) =>
        Option.bind (m28 a0 ([x30, x31, x32])) fun (x33 : Int) =>
        cond (x29 == x33)
          (some true)
          (some false)) (fun (v28 : Bool) => some v28)))) = some r) ?_ ?_
      ·
       refine bindK h0 (fun v_ h1 h0 => ?_)
       refine XC.anyRun [] [] mixed (by kernel_rfl) (by kernel_rfl) (by kernel_rfl) ?_
       refine RunA.rd rfl rfl rfl (OpOK.of_ro (RO.move rfl)) rfl <| RunA.rd rfl rfl rfl (OpOK.of_ro (RO.binInt rfl rfl rfl)) rfl ?_
       refine RunA.case (c := (x8.2 == 0)) rfl rfl rfl (OpOK.of_ro (RO.move rfl)) rfl (fun c23 => ?_) (fun c23 => ?_)
       ·
        replace h1 := condT c23 h1
        refine RunA.rd rfl rfl rfl (OpOK.of_ro (RO.loadOwnAgg ag_24 rfl rfl rfl rfl)) rfl <| RunA.rd rfl rfl rfl (OpOK.of_ro (RO.move rfl)) rfl ?_
        refine bindK h1 (fun x24 hx24 h1 => ?_)
        refine RunA.rd rfl rfl rfl (OpOK.callFun (m28_ok x8.1 ([(w64 a2.u), (w64 a2.v), (w64 a2.w)]) x24 hx24) rfl (.cons (.agg (.cons (.d _) (.cons (.d _) .nil))) (.cons (.one (.d _)) .nil))) rfl <| RunA.rd rfl rfl rfl (OpOK.of_ro (RO.loadOwnAgg ag_24 rfl rfl rfl rfl)) rfl <| RunA.rd rfl rfl rfl (OpOK.of_ro (RO.move rfl)) rfl ?_
        refine bindK h1 (fun x25 hx25 h1 => ?_)
        refine RunA.rd rfl rfl rfl (OpOK.callFun (m28_ok a0 ([(w64 a2.u), (w64 a2.v), (w64 a2.w)]) x25 hx25) rfl (.cons (.agg (.cons (.d _) (.cons (.d _) .nil))) (.cons (.one (.d _)) .nil))) rfl <| RunA.rd rfl rfl rfl (OpOK.of_ro (RO.fieldOwn fo_53_3 rfl)) rfl <| RunA.rd rfl rfl rfl (OpOK.of_ro (RO.loadOwn ag_5 rfl rfl rfl)) rfl <| RunA.rd rfl rfl rfl (OpOK.of_ro (RO.binInt rfl rfl rfl)) rfl <| RunA.rd rfl rfl rfl (OpOK.of_ro (RO.conv2 ti_5 ti_3 rfl)) rfl <| RunA.rd rfl rfl rfl (OpOK.of_ro (RO.binInt rfl rfl rfl)) rfl <| RunA.rd rfl rfl rfl (OpOK.of_ro (RO.binInt rfl rfl rfl)) rfl <| RunA.rd rfl rfl rfl (OpOK.of_ro (RO.pickT rfl rfl)) rfl ?_
        refine RunA.nil ⟨?ex, _, _, rfl, ?_⟩
        case ex => exact trivial
        have e_ := Option.some.inj h1
        subst e_
        exact XQ.joinR (x24 != (w64 (x25 + (w64 (Int.tmod a2.n 40))))) (stle (tR rfl (tR rfl (tR rfl (tR rfl (tR rfl tZ))))) (hR rfl (hR rfl (hR rfl (hR rfl (hR rfl hZ))))) kZ rfl (Nat.zero_le _) rfl rfl rfl (bB rfl rfl (bB rfl rfl (bB rfl rfl (bB rfl rfl (bB rfl rfl bZ))))) rfl rfl) h0
       ·
        replace h1 := condF c23 h1
        refine RunA.no rfl rfl rfl rfl <| RunA.no rfl rfl rfl rfl <| RunA.no rfl rfl rfl rfl <| RunA.no rfl rfl rfl rfl <| RunA.no rfl rfl rfl rfl <| RunA.no rfl rfl rfl rfl <| RunA.no rfl rfl rfl rfl <| RunA.no rfl rfl rfl rfl <| RunA.no rfl rfl rfl rfl <| RunA.no rfl rfl rfl rfl <| RunA.no rfl rfl rfl rfl <| RunA.no rfl rfl rfl rfl <| RunA.rd rfl rfl rfl (OpOK.of_ro (RO.pickF rfl rfl)) rfl ?_
        refine RunA.nil ⟨?ex, _, _, rfl, ?_⟩
        case ex => exact trivial
        have e_ := Option.some.inj h1
        subst e_
        exact XQ.joinR false (stle (tR rfl (tR rfl (tR rfl (tR rfl (tR rfl tZ))))) (hR rfl (hR rfl (hR rfl (hR rfl (hR rfl hZ))))) kZ rfl (Nat.zero_le _) rfl rfl rfl (bB rfl rfl (bB rfl rfl (bB rfl rfl (bB rfl rfl (bB rfl rfl bZ))))) rfl rfl) h0
      ·
       intro v22 h0
       refine XQ.seq ?_
       refine XC.cond (b := v22) rfl (fun c26 => ?_) (fun c26 => ?_)
       ·
        replace h0 := condT c26 h0
        refine XC.seq <| XC.region <| rA rfl rfl rfl <| XL.nil <| XQ.seq <| XC.ret ?_
        have e_ := Option.some.inj h0
        subst e_
        exact XQ.retF (fun _ _ h => h) rfl (RAs.tmp rfl .nil) (.cons (.one (.d _)) .nil)
       ·
        replace h0 := condF c26 h0
        refine XC.skip <| XQ.seq <| XC.seq <| XC.region <| rR rfl rfl rfl (RO.loadOwnAgg ag_24 rfl rfl rfl rfl) <| rR rfl rfl rfl (RO.loadOwnAgg ag_24 rfl rfl rfl rfl) <| rR rfl rfl rfl (RO.loadOwnAgg ag_24 rfl rfl rfl rfl) <| rR rfl rfl rfl (RO.loadOwnAgg ag_24 rfl rfl rfl rfl) <| XL.put rfl rfl (lb rfl) (OpOK.data3E (α := Lvl) a1 x9.1 a0 sl_55 z_24 rfl rfl (lb rfl) rfl rfl rfl rfl (.cons (.d _) (.cons (.d _) (.cons (.d _) (.cons (.d _) (.cons (.d _) (.cons (.d _) .nil)))))) ⟨rfl, rfl, rfl⟩) ?_
        refine bindK h0 (fun x27 hx27 h0 => ?_)
        refine XL.put rfl rfl (lb rfl) (OpOK.callFun (m34_ok a0 ([a1, x9.1, a0]) x27 hx27) rfl (.cons (.agg (.cons (.d _) (.cons (.d _) .nil))) (.cons (.one (.d _)) .nil))) <| rM rfl rfl rfl <| rR rfl rfl rfl (RO.extract rfl rfl) <| rR rfl rfl rfl (RO.extract rfl rfl) <| XL.put rfl rfl (lb rfl) (OpOK.alloc z_24 rfl) <| XL.eff rfl rfl (OpOK.store ag_24 rfl rfl rfl rfl (lb rfl) rfl) <| rA rfl rfl rfl <| XL.nil <| XQ.seq <| XC.seq <| XC.seq <| XC.region <| rM rfl rfl rfl <| rR rfl rfl rfl (RO.binInt rfl rfl rfl) ?_
        refine XL.nil <| XQ.seq ?_
        refine XC.cond (b := (x27.2 != 0)) rfl (fun c28 => ?_) (fun c28 => ?_)
        ·
         replace h0 := condT c28 h0
         refine XC.seq ?_
         refine XC.joinR (fun (v29 : Bool) => ⟨[(6, .v (.one (dB v29)))], [(0, .cells 24 (cE a0)), (1, .cells 24 (cE a1)), (2, .cells 53 (cE a2)), (3, .cells 24 (cE x8.1)), (4, .cells 24 (cE x9.1)), (5, .cells 24 (cE x27.1))], [], 6, 131, []⟩) (fun (v29 : Bool) => (some v29) = some r) ?_ ?_
         ·
          refine bindK h0 (fun v_ h1 h0 => ?_)
          refine XC.region <| rM rfl rfl rfl <| rR rfl rfl rfl (RO.binInt rfl rfl rfl) <| rM rfl rfl rfl ?_
          refine XL.case (d := 109) (c := (x27.2 == 15)) rfl (fun c30 => ?_) (fun c30 => ?_)
          ·
           replace h1 := condT c30 h1
           refine XL.put rfl rfl (lb rfl) (OpOK.callFun (awake_fun) rfl .nil) <| rR rfl rfl rfl (RO.pickT rfl rfl) <| rA rfl rfl rfl <| XL.nil ?_
           have e_ := Option.some.inj h1
           subst e_
           exact XQ.joinR true (stle (tR rfl tZ) (hR rfl (hR rfl (hR rfl (hR rfl (hR rfl (hR rfl hZ)))))) kZ rfl (Nat.zero_le _) rfl rfl rfl (bB rfl rfl (bB rfl rfl (bB rfl rfl (bB rfl rfl (bB rfl rfl (bB rfl rfl bZ)))))) rfl rfl) h0
          ·
           replace h1 := condF c30 h1
           refine XL.no rfl rfl <| rR rfl rfl rfl (RO.pickF rfl rfl) <| rA rfl rfl rfl <| XL.nil ?_
           have e_ := Option.some.inj h1
           subst e_
           exact XQ.joinR false (stle (tR rfl tZ) (hR rfl (hR rfl (hR rfl (hR rfl (hR rfl (hR rfl hZ)))))) kZ rfl (Nat.zero_le _) rfl rfl rfl (bB rfl rfl (bB rfl rfl (bB rfl rfl (bB rfl rfl (bB rfl rfl (bB rfl rfl bZ)))))) rfl rfl) h0
         ·
          intro v29 h0
          refine XQ.seq <| XC.ret ?_
          have e_ := Option.some.inj h0
          subst e_
          exact XQ.retF (fun _ _ h => h) rfl (RAs.tmp rfl .nil) (.cons (.one (.d _)) .nil)
        ·
         replace h0 := condF c28 h0
         refine XC.skip <| XQ.seq <| XC.seq ?_
         refine XC.joinR (fun (v31 : Bool) => ⟨[(6, .v (.one (dB v31)))], [(0, .cells 24 (cE a0)), (1, .cells 24 (cE a1)), (2, .cells 53 (cE a2)), (3, .cells 24 (cE x8.1)), (4, .cells 24 (cE x9.1)), (5, .cells 24 (cE x27.1))], [], 6, 131, []⟩) (fun (v31 : Bool) => (some v31) = some r) ?_ ?_
         ·
          refine bindK h0 (fun v_ h1 h0 => ?_)
          refine XC.anyRun [] [] mixed (by kernel_rfl) (by kernel_rfl) (by kernel_rfl) ?_
          refine RunA.rd rfl rfl rfl (OpOK.of_ro (RO.loadOwnAgg ag_24 rfl rfl rfl rfl)) rfl <| RunA.rd rfl rfl rfl (OpOK.of_ro (RO.move rfl)) rfl ?_
          refine bindK h1 (fun x32 hx32 h1 => ?_)
          refine RunA.rd rfl rfl rfl (OpOK.callFun (m28_ok x27.1 ([(w64 a2.u), (w64 a2.v), (w64 a2.w)]) x32 hx32) rfl (.cons (.agg (.cons (.d _) (.cons (.d _) .nil))) (.cons (.one (.d _)) .nil))) rfl <| RunA.rd rfl rfl rfl (OpOK.of_ro (RO.loadOwnAgg ag_24 rfl rfl rfl rfl)) rfl <| RunA.rd rfl rfl rfl (OpOK.of_ro (RO.loadOwnAgg ag_24 rfl rfl rfl rfl)) rfl <| RunA.rd rfl rfl rfl (OpOK.of_ro (RO.move rfl)) rfl ?_
          refine bindK h1 (fun x33 hx33 h1 => ?_)
          refine RunA.rd rfl rfl rfl (OpOK.callFun (m28_ok a1 ([(w64 a2.u), (w64 a2.v), (w64 a2.w)]) x33 hx33) rfl (.cons (.agg (.cons (.d _) (.cons (.d _) .nil))) (.cons (.one (.d _)) .nil))) rfl <| RunA.rd rfl rfl rfl (OpOK.of_ro (RO.loadOwnAgg ag_24 rfl rfl rfl rfl)) rfl <| RunA.rd rfl rfl rfl (OpOK.of_ro (RO.move rfl)) rfl ?_
          refine bindK h1 (fun x34 hx34 h1 => ?_)
          refine RunA.rd rfl rfl rfl (OpOK.callFun (m28_ok x9.1 ([(w64 a2.u), (w64 a2.v), (w64 a2.w)]) x34 hx34) rfl (.cons (.agg (.cons (.d _) (.cons (.d _) .nil))) (.cons (.one (.d _)) .nil))) rfl <| RunA.rd rfl rfl rfl (OpOK.of_ro (RO.loadOwnAgg ag_24 rfl rfl rfl rfl)) rfl <| RunA.rd rfl rfl rfl (OpOK.of_ro (RO.move rfl)) rfl ?_
          refine bindK h1 (fun x35 hx35 h1 => ?_)
          refine RunA.rd rfl rfl rfl (OpOK.callFun (m28_ok a0 ([(w64 a2.u), (w64 a2.v), (w64 a2.w)]) x35 hx35) rfl (.cons (.agg (.cons (.d _) (.cons (.d _) .nil))) (.cons (.one (.d _)) .nil))) rfl <| RunA.rd rfl rfl rfl (OpOK.data3E (α := Int) x33 x34 x35 sl_46 z_3 rfl rfl (lb rfl) rfl rfl rfl rfl (.cons (.d _) (.cons (.d _) (.cons (.d _) .nil))) ⟨rfl, rfl, rfl⟩) rfl ?_
          refine bindK h1 (fun x36 hx36 h1 => ?_)
          refine RunA.rd rfl rfl rfl (OpOK.callFun (m28_ok a0 ([x33, x34, x35]) x36 hx36) rfl (.cons (.agg (.cons (.d _) (.cons (.d _) .nil))) (.cons (.one (.d _)) .nil))) rfl <| RunA.rd rfl rfl rfl (OpOK.of_ro (RO.binInt rfl rfl rfl)) rfl ?_
          refine RunA.case (c := (x32 == x36)) rfl rfl rfl (OpOK.of_ro (RO.move rfl)) rfl (fun c37 => ?_) (fun c37 => ?_)
          ·
           replace h1 := condT c37 h1
           refine RunA.rd rfl rfl rfl (OpOK.callFun (awake_fun) rfl .nil) rfl <| RunA.rd rfl rfl rfl (OpOK.of_ro (RO.pickT rfl rfl)) rfl <| RunA.rd rfl rfl rfl (OpOK.of_ro (RO.assign rfl)) rfl ?_
           refine RunA.nil ⟨?ex, _, _, rfl, ?_⟩
           case ex => exact trivial
           have e_ := Option.some.inj h1
           subst e_
           exact XQ.joinR true (stle (tR rfl tZ) (hR rfl (hR rfl (hR rfl (hR rfl (hR rfl (hR rfl hZ)))))) kZ rfl (Nat.zero_le _) rfl rfl rfl (bB rfl rfl (bB rfl rfl (bB rfl rfl (bB rfl rfl (bB rfl rfl (bB rfl rfl bZ)))))) rfl rfl) h0
          ·
           replace h1 := condF c37 h1
           refine RunA.no rfl rfl rfl rfl <| RunA.rd rfl rfl rfl (OpOK.of_ro (RO.pickF rfl rfl)) rfl <| RunA.rd rfl rfl rfl (OpOK.of_ro (RO.assign rfl)) rfl ?_
           refine RunA.nil ⟨?ex, _, _, rfl, ?_⟩
           case ex => exact trivial
           have e_ := Option.some.inj h1
           subst e_
           exact XQ.joinR false (stle (tR rfl tZ) (hR rfl (hR rfl (hR rfl (hR rfl (hR rfl (hR rfl hZ)))))) kZ rfl (Nat.zero_le _) rfl rfl rfl (bB rfl rfl (bB rfl rfl (bB rfl rfl (bB rfl rfl (bB rfl rfl (bB rfl rfl bZ)))))) rfl rfl) h0
         ·
          intro v31 h0
          refine XQ.seq <| XC.ret ?_
          have e_ := Option.some.inj h0
          subst e_
          exact XQ.retF (fun _ _ h => h) rfl (RAs.tmp rfl .nil) (.cons (.one (.d _)) .nil)
end

section
open Go.RowKit
set_option linter.unusedSimpArgs false
set_option linter.unusedVariables false

def pv (P : List Int) (x : LV) : Int := P.getD x.1.toNat 0 + x.2
theorem vs_le {L : Lvl} {P : List Int} {m : Int} : valS L P ≤ m ↔ L.c ≤ m ∧ ∀ x ∈ L.vs, pv P x ≤ m := valS_le
theorem int_ext {a b : Int} (h : ∀ m, a ≤ m ↔ b ≤ m) : a = b := Int.le_antisymm ((h b).2 (Int.le_refl _)) ((h a).1 (Int.le_refl _))
theorem pv_merge {a b : List LV} (ha : WF a) (hb : WF b) {P : List Int} {m : Int} : (∀ x ∈ mergeV a b, pv P x ≤ m) ↔ (∀ x ∈ a, pv P x ≤ m) ∧ ∀ x ∈ b, pv P x ≤ m := by
  constructor
  · intro h
    refine ⟨fun x hx => ?_, fun x hx => ?_⟩
    · obtain ⟨y, hy, e, h2⟩ := merge_ge_l ha hb hx
      have := h y hy
      unfold pv at this ⊢
      rw [e] at this; omega
    · obtain ⟨y, hy, e, h2⟩ := merge_ge_r ha hb hx
      have := h y hy
      unfold pv at this ⊢
      rw [e] at this; omega
  · rintro ⟨h1, h2⟩ x hx
    exact (merge_src ha hb hx).elim (h1 x) (h2 x)
def nonneg (P : List Int) : Prop := ∀ i : Nat, 0 ≤ P.getD i 0
theorem vs_trim {A : Lvl} {P : List Int} (h0 : 0 ≤ A.c) (hP : nonneg P) : valS (trimL A) P = valS A P := by
  unfold trimL
  by_cases hc : covB A.c A.vs = true
  · rw [if_pos hc]
    obtain ⟨x, hx, h2⟩ := cov_mem.1 hc
    refine int_ext fun m => ?_
    rw [vs_le, vs_le]
    dsimp only
    have hx0 := hP x.1.toNat
    refine ⟨fun h => ⟨?_, h.2⟩, fun h => ⟨by omega, h.2⟩⟩
    have := h.2 x hx
    unfold pv at this
    omega
  · rw [if_neg hc]
theorem vs_join {A B : Lvl} {P : List Int} (ha : validB A = true) (hb : validB B = true) (hP : nonneg P) : valS (joinL A B) P = max (valS A P) (valS B P) := by
  have ga := good_valid ha; have gb := good_valid hb
  rw [join_trim ga gb, vs_trim (good_merge ga gb).c hP]
  refine int_ext fun m => ?_
  rw [vs_le]
  dsimp only
  rw [pv_merge ga.wf gb.wf]
  have : max (valS A P) (valS B P) ≤ m ↔ valS A P ≤ m ∧ valS B P ≤ m := by omega
  rw [this, vs_le, vs_le]
  constructor
  · rintro ⟨h1, h2, h3⟩; exact ⟨⟨by omega, h2⟩, by omega, h3⟩
  · rintro ⟨⟨h1, h2⟩, h3, h4⟩; exact ⟨by omega, h2, h4⟩
theorem lim_or (A : Lvl) : (limL A).2 = 0 ∨ (limL A).2 = 15 := by
  unfold limL
  by_cases h : bigB A = true
  · rw [if_pos h]; exact .inr rfl
  · rw [if_neg h]; exact .inl rfl
theorem plus_ok {L : Lvl} {n : Int} (hL : validB L = true) (hn : 0 ≤ n ∧ n ≤ 100) : ((plusL L n).2 = 0 ∧ (plusL L n).1 = trimL ⟨if L.vs ≠ [] ∧ L.c = 0 then 0 else L.c + n, upV n L.vs⟩ ∧ validB (plusL L n).1 = true) ∨ (plusL L n).2 = 15 := by
  have h0 := valid_c hL
  have g : GoodL ⟨if L.vs ≠ [] ∧ L.c = 0 then 0 else L.c + n, upV n L.vs⟩ := ⟨wf_upV n (wf_valid hL), by dsimp only; split <;> omega, fun y hy => by
    obtain ⟨x, hx, rfl⟩ := upV_mem.1 hy
    have := (okV_valid hL hx).2.2.1
    dsimp only; omega⟩
  rw [← lim_plus hL hn]
  by_cases hb : (limL ⟨if L.vs ≠ [] ∧ L.c = 0 then 0 else L.c + n, upV n L.vs⟩).2 = 0
  · obtain ⟨e, ht⟩ := lim_ok hb
    rw [e]
    exact .inl ⟨rfl, rfl, valid_trim g ht⟩
  · exact .inr ((lim_or _).resolve_left hb)
theorem vs_plus {L : Lvl} {n : Int} {P : List Int} (hL : validB L = true) (hn : 0 ≤ n ∧ n ≤ 100) (hP : nonneg P) (he : (plusL L n).2 = 0) : valS (plusL L n).1 P = valS L P + n := by
  have h0 := valid_c hL
  rcases plus_ok hL hn with ⟨-, e, -⟩ | e
  · rw [e, vs_trim (by dsimp only; split <;> omega) hP]
    refine int_ext fun m => ?_
    have : valS L P + n ≤ m ↔ valS L P ≤ m - n := by omega
    rw [this, vs_le, vs_le]
    dsimp only
    have e2 : (∀ x ∈ upV n L.vs, pv P x ≤ m) ↔ ∀ x ∈ L.vs, pv P x ≤ m - n := by
      constructor
      · intro h x hx
        have := h _ (upV_mem.2 ⟨x, hx, rfl⟩)
        unfold pv at this ⊢
        dsimp only at this
        omega
      · intro h y hy
        obtain ⟨x, hx, rfl⟩ := upV_mem.1 hy
        have := h x hx
        unfold pv at this ⊢
        dsimp only
        omega
    rw [e2]
    by_cases hc : L.vs ≠ [] ∧ L.c = 0
    · rw [if_pos hc]
      obtain ⟨x, hx⟩ : ∃ x, x ∈ L.vs := List.exists_mem_of_ne_nil _ hc.1
      have hx2 := (okV_valid hL hx).2.2.1
      have hx0 := hP x.1.toNat
      refine ⟨fun h => ⟨?_, h.2⟩, fun h => ⟨by omega, h.2⟩⟩
      have := h.2 x hx
      unfold pv at this
      omega
    · rw [if_neg hc]
      exact ⟨fun h => ⟨by omega, h.2⟩, fun h => ⟨by omega, h.2⟩⟩
  · rw [e] at he; cases he

/-! ### Subst -/
theorem gath_vs {L : Lvl} {ps : List Lvl} (h1 : validB L = true) (h2 : ps.all validB = true) (hin : ∀ v ∈ L.vs, hasVP ps v) {P Q : List Int} (hQ : ∀ v ∈ L.vs, Q.getD v.1.toNat 0 = valS (valVP ps v) P) : valS (gathLP L ps) P = valS L Q := by
  refine int_ext fun m => ?_
  have key : ∀ (l : List LV) (s : List LV × Int), WF s.1 → (∀ v ∈ l, okV v ∧ hasVP ps v) →
      (((l.foldl (addVP ps) s).2 ≤ m ∧ ∀ x ∈ (l.foldl (addVP ps) s).1, pv P x ≤ m) ↔ (s.2 ≤ m ∧ ∀ x ∈ s.1, pv P x ≤ m) ∧ ∀ v ∈ l, valS (valVP ps v) P + v.2 ≤ m) := by
    intro l
    induction l with
    | nil => intro s _ _; simp
    | cons v l ih =>
      intro s hs hl
      have hv := hl v List.mem_cons_self
      rw [List.foldl_cons, ih _ (addV_wfP h2 hs hv.1) fun x hx => hl x (List.mem_cons_of_mem _ hx)]
      have hV := valV_validP h2 hv.2
      have e : ((addVP ps s v).2 ≤ m ∧ ∀ x ∈ (addVP ps s v).1, pv P x ≤ m) ↔ (s.2 ≤ m ∧ ∀ x ∈ s.1, pv P x ≤ m) ∧ valS (valVP ps v) P + v.2 ≤ m := by
        unfold addVP
        rw [if_pos hv.2]
        dsimp only
        rw [pv_merge hs (wf_upV v.2 (wf_valid hV))]
        have e1 : valS (valVP ps v) P + v.2 ≤ m ↔ valS (valVP ps v) P ≤ m - v.2 := by omega
        rw [e1, vs_le]
        have e2 : (∀ x ∈ upV v.2 (valVP ps v).vs, pv P x ≤ m) ↔ ∀ x ∈ (valVP ps v).vs, pv P x ≤ m - v.2 := by
          constructor
          · intro h x hx
            have := h _ (upV_mem.2 ⟨x, hx, rfl⟩)
            unfold pv at this ⊢
            dsimp only at this
            omega
          · intro h y hy
            obtain ⟨x, hx, rfl⟩ := upV_mem.1 hy
            have := h x hx
            unfold pv at this ⊢
            dsimp only
            omega
        rw [e2]
        constructor
        · rintro ⟨h3, h4, h5⟩; exact ⟨⟨by omega, h4⟩, by omega, h5⟩
        · rintro ⟨⟨h3, h4⟩, h5, h6⟩; exact ⟨by omega, h4, h6⟩
      rw [e]
      simp [and_assoc]
  have k := key L.vs ([], L.c) wf_nil fun v hv => ⟨okV_valid h1 hv, hin v hv⟩
  rw [vs_le, vs_le]
  show ((L.vs.foldl (addVP ps) ([], L.c)).2 ≤ m ∧ ∀ x ∈ (L.vs.foldl (addVP ps) ([], L.c)).1, pv P x ≤ m) ↔ _
  rw [k]
  have : (∀ v ∈ L.vs, valS (valVP ps v) P + v.2 ≤ m) ↔ ∀ x ∈ L.vs, pv Q x ≤ m := by
    constructor
    · intro h x hx
      have := h x hx
      unfold pv
      rw [hQ x hx]; exact this
    · intro h x hx
      have := h x hx
      unfold pv at this
      rw [hQ x hx] at this; exact this
  rw [this]
  simp

theorem inR_mem {L : Lvl} {n : Nat} : inR L n = true ↔ ∀ x ∈ L.vs, 0 ≤ x.1 ∧ x.1 < n := by
  unfold inR
  simp only [List.all_eq_true, Bool.and_eq_true, decide_eq_true_eq]
theorem vs_range {L : Lvl} {P : List Int} (hL : validB L = true) (h : ∀ i : Nat, 0 ≤ P.getD i 0 ∧ P.getD i 0 ≤ 1000) : 0 ≤ valS L P ∧ valS L P ≤ 2000 := by
  have h0 := valid_c hL
  refine ⟨?_, vs_le.2 ⟨by omega, fun x hx => ?_⟩⟩
  · have := (vs_le (L := L) (P := P)).1 (Int.le_refl _)
    omega
  · have := h x.1.toNat
    have := okV_valid hL hx
    unfold okV at this
    unfold pv
    omega
theorem m10_eq (a0 a1 : Lvl) (a2 : Vls) (hu : 0 ≤ a2.u ∧ a2.u < 256) (hv : 0 ≤ a2.v ∧ a2.v < 256) (hw : 0 ≤ a2.w ∧ a2.w < 256) (hn : 0 ≤ a2.n ∧ a2.n < 256) : m10 a0 a1 a2 = some true := by
  unfold m10
  rw [guard_t (Nat.ble_eq_true_of_le (by simp))]
  cases hf : fewL [a0, a1] with
  | false => rfl
  | true =>
    have h0 := few_mem hf (x := a0) (by simp)
    have h1 := few_mem hf (x := a1) (by simp)
    simp only [Bool.not_true, cond_false]
    have ek : w64 (Int.tmod a2.n 40) = a2.n % 40 := by
      have e : Int.tmod a2.n 40 = a2.n % 40 := Int.tmod_eq_emod_of_nonneg hn.1
      rw [e, w64_id (by omega) (by omega)]
    rw [ek, w64_id (n := a2.u) (by omega) (by omega), w64_id (n := a2.v) (by omega) (by omega), w64_id (n := a2.w) (by omega) (by omega)]
    generalize hP : ([a2.u, a2.v, a2.w] : List Int) = P
    have hk : 0 ≤ a2.n % 40 ∧ a2.n % 40 ≤ 100 := by omega
    have lP : P.length = 3 := by rw [← hP]; rfl
    have mP : ∀ p ∈ P, 0 ≤ p ∧ p ≤ 1000000000 := by
      intro p hp
      rw [← hP] at hp
      simp only [List.mem_cons, List.not_mem_nil, or_false] at hp
      rcases hp with rfl | rfl | rfl <;> omega
    have gP : ∀ i : Nat, 0 ≤ P.getD i 0 ∧ P.getD i 0 ≤ 1000 := fun i => by
      rw [← hP]
      match i with
      | 0 => show 0 ≤ a2.u ∧ a2.u ≤ 1000; omega
      | 1 => show 0 ≤ a2.v ∧ a2.v ≤ 1000; omega
      | 2 => show 0 ≤ a2.w ∧ a2.w ≤ 1000; omega
      | i + 3 => show (0 : Int) ≤ 0 ∧ (0 : Int) ≤ 1000; omega
    have nP : nonneg P := fun i => (gP i).1
    have val : ∀ L : Lvl, validB L = true → inR L 3 = true → m28 L P = some (valS L P) := fun L hL hi => by
      rw [m28_eq (wf_valid hL).len mP, lP, hL, hi]; rfl
    rw [m28_eq (by omega) mP, lP]
    cases c0 : validB a0 && inR a0 3 with
    | false => rfl
    | true =>
      rw [Bool.and_eq_true] at c0
      rw [m28_eq (by omega) mP, lP]
      have r0 := vs_range c0.1 gP
      rw [if_pos rfl, Option.bind_some, decide_eq_false (by omega), cond_false]
      cases c1 : validB a1 && inR a1 3 with
      | false => rfl
      | true =>
        rw [Bool.and_eq_true] at c1
        have r1 := vs_range c1.1 gP
        have i0 := inR_mem.1 c0.2
        have i1 := inR_mem.1 c1.2
        have jv := join_valid c0.1 c1.1
        have ji : inR (joinL a0 a1) 3 = true := inR_mem.2 fun x hx => by
          rw [joinL_vs] at hx
          exact (merge_src (wf_valid c0.1) (wf_valid c1.1) hx).elim (i0 x) (i1 x)
        have vj := val _ jv ji
        have v0 := val _ c0.1 c0.2
        have v1 := val _ c1.1 c1.2
        have rj := vs_range jv gP
        have ej := vs_join c0.1 c1.1 nP
        rw [if_pos rfl, Option.bind_some, decide_eq_false (by omega), Option.bind_some, cond_false, m22_eq (by omega), m24_eq (by omega) (by omega), maxL_ok c0.1 c1.1]
        simp only [Option.bind_some]
        have hnz : ((0 : Int) != 0) = false := rfl
        have e5 : ∀ (x : Int), x = 0 ∨ x = 15 → cond (x != 0) (cond (x != 15) (some true) (cond ((0 : Int) != 0) (some true) (Option.bind (m28 (joinL a0 a1) P) fun (x9 : Int) => some (x9 != (max (valS a0 P) (valS a1 P)))))) (cond ((0 : Int) != 0) (some true) (Option.bind (m28 (joinL a0 a1) P) fun (x9 : Int) => some (x9 != (max (valS a0 P) (valS a1 P))))) = some false := by
          intro x hx
          rw [vj]
          simp only [hnz, cond_false, Option.bind_some]
          rw [ej]
          have : (max (valS a0 P) (valS a1 P) != max (valS a0 P) (valS a1 P)) = false := bne_self_eq_false _
          rw [this]
          rcases hx with rfl | rfl <;> rfl
        have hp := plus_ok c0.1 hk
        have hp15 : (plusL a0 (a2.n % 40)).2 = 0 ∨ (plusL a0 (a2.n % 40)).2 = 15 := hp.elim (fun h => .inl h.1) .inr
        rw [e5 _ hp15, Option.bind_some, cond_false]
        have e7 : cond ((plusL a0 (a2.n % 40)).2 == 0) (Option.bind (m28 (plusL a0 (a2.n % 40)).1 P) fun (x9 : Int) => some (x9 != (w64 (valS a0 P + (a2.n % 40))))) (some false) = some false := by
          rcases hp with ⟨z, e, hv'⟩ | z
          · have hi' : inR (plusL a0 (a2.n % 40)).1 3 = true := inR_mem.2 fun y hy => by
              rw [e, trim_vs] at hy
              obtain ⟨x, hx, rfl⟩ := upV_mem.1 hy
              exact i0 x hx
            rw [z, val _ hv' hi', vs_plus c0.1 hk nP z]
            simp only [Option.bind_some]
            rw [w64_id (by omega) (by omega), bne_self_eq_false]
            rfl
          · rw [z]; rfl
        rw [e7, Option.bind_some, cond_false]
        -- Subst
        have hall : ([a1, joinL a0 a1, a0] : List Lvl).all validB = true := by simp [c1.1, jv, c0.1]
        have hfit : fitB [a1, joinL a0 a1, a0] := ⟨by simp, fun x hx => (wf_valid (List.all_eq_true.1 hall x hx)).len⟩
        have hin : ∀ v ∈ a0.vs, hasVP [a1, joinL a0 a1, a0] v := fun v hv => ⟨(i0 v hv).1, by have := (i0 v hv).2; simpa using this⟩
        have hpar : ¬ ((([a1, joinL a0 a1, a0] : List Lvl).length : Int) < parL a0) := by
          unfold parL
          rw [if_pos c0.1]
          cases hl : a0.vs.getLast? with
          | none => simp
          | some x =>
            have := i0 x (List.mem_of_getLast? hl)
            simp only [List.length_cons, List.length_nil]
            omega
        have hsub : subL a0 [a1, joinL a0 a1, a0] = limL (gathLP a0 [a1, joinL a0 a1, a0]) := by
          unfold subL
          rw [c0.1, hall, Bool.and_self, if_pos rfl, if_neg hpar, ← assL_okP c0.1 hall, assL_gathP c0.1 hall]
        rw [m34_eq (by omega) hfit, Option.bind_some, hsub]
        by_cases he : (limL (gathLP a0 [a1, joinL a0 a1, a0])).2 = 0
        · obtain ⟨e, ht⟩ := lim_ok he
          have g := gath_goodP c0.1 hall
          rw [e]
          dsimp only
          rw [hnz, cond_false]
          have sv := valid_trim g ht
          have si : inR (trimL (gathLP a0 [a1, joinL a0 a1, a0])) 3 = true := inR_mem.2 fun y hy => by
            rw [trim_vs] at hy
            obtain ⟨v, hv, ⟨hh, x, hx, rfl⟩ | ⟨hh, rfl⟩⟩ := gath_srcP c0.1 hall hy
            · have hm := List.mem_of_getElem? (valV_atP hh)
              simp only [List.mem_cons, List.not_mem_nil, or_false] at hm
              rcases hm with hm | hm | hm <;> rw [hm] at hx
              · exact i1 x hx
              · exact inR_mem.1 ji x hx
              · exact i0 x hx
            · exact absurd (hin y hv) hh
          rw [val _ sv si, vj]
          simp only [Option.bind_some]
          have mQ : ∀ p ∈ ([valS a1 P, valS (joinL a0 a1) P, valS a0 P] : List Int), 0 ≤ p ∧ p ≤ 1000000000 := by
            intro p hp
            simp only [List.mem_cons, List.not_mem_nil, or_false] at hp
            rcases hp with rfl | rfl | rfl <;> omega
          rw [m28_eq (by omega) mQ]
          have lQ : ([valS a1 P, valS (joinL a0 a1) P, valS a0 P] : List Int).length = 3 := rfl
          rw [lQ, c0.1, c0.2]
          simp only [Bool.and_self, if_true, Option.bind_some]
          have es : valS (trimL (gathLP a0 [a1, joinL a0 a1, a0])) P = valS a0 [valS a1 P, valS (joinL a0 a1) P, valS a0 P] := by
            rw [vs_trim g.c nP]
            refine gath_vs c0.1 hall hin fun v hv => ?_
            have h3 : v.1 = 0 ∨ v.1 = 1 ∨ v.1 = 2 := by have := i0 v hv; omega
            unfold valVP
            rcases h3 with e | e | e <;> rw [e] <;> rfl
          rw [es, beq_self_eq_true]
          rfl
        · have e15 : (limL (gathLP a0 [a1, joinL a0 a1, a0])).2 = 15 := (lim_or _).resolve_left he
          rw [e15]
          rfl
end

end Go.Proofs.YtcapifnaceegmaaGreatDoor
