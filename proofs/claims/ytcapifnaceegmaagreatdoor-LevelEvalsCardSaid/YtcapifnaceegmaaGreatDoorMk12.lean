/- Mirrors of layer 1: the law of Eval, Params and Metas. -/
import Derived.Test.YtcapifnaceegmaaGreatDoorMe
import Derived.Test.YtcapifnaceegmaaGreatDoorAw
namespace Go.Proofs.YtcapifnaceegmaaGreatDoor
open Go.RowKit Go.Shelf
set_option linter.unusedSimpArgs false
set_option linter.unusedVariables false

theorem en_12 : Enters Tryz.prog 12 := enters_of Tryz.func12 (by kernel_rfl) rfl
/-- euclid/euclidlaw01.LevelEvals -/
def m12 (a0 : Lvl) (a1 : List Int) : Option Bool :=
  Option.bind (Option.bind (m13 ([a0])) fun (x2 : Bool) =>
  cond (!x2)
    (some true)
    (some (decide (12 < (a1.length : Int))))) (fun (v1 : Bool) => cond v1
    (some true)
    (Option.bind (m38 a0 a1) fun (x3 : Int × Int) =>
  Option.bind (m39 a0 a1) fun (x4 : Int × Int) =>
  Option.bind (cond (x3.1 == x4.1)
    (cond (x3.2 == x4.2)
    (Option.bind (m40 a0) fun (x8 : Int) =>
  Option.bind (m41 a0) fun (x9 : Int) =>
  cond (x8 == x9)
    (Option.bind (m43 a0) fun (x11 : (List Int)) =>
  Option.bind (m44 a0) fun (x12 : (List Int)) =>
  Option.bind (m42 x11 x12) fun (x13 : Bool) =>
  cond x13
    (some true)
    (some false))
    (some false))
    (some false))
    (some false)) (fun (v5 : Bool) => some v5)))

set_option maxRecDepth 100000 in
set_option maxHeartbeats 8000000 in
theorem m12_ok (a0 : Lvl) (a1 : List Int) (r : Bool) (h0 : m12 a0 a1 = some r) : Fun Tryz.prog 12 [.agg (cE a0), .one (dS a1)] (resOf [.one (dB r)]) := by
  unfold m12 at h0
  refine Fun.of_bodyM 9 56 Tryz.func12 rfl en_12 rfl (lb rfl) (fun S w => ?_)
  simp only [entry]
  refine XC.seq <| XC.region <| XL.put rfl rfl (lb rfl) (OpOK.box rfl) <| rA rfl rfl rfl <| XL.nil <| XQ.seq <| XC.seq <| XC.seq ?_
  refine XC.joinR (fun (v1 : Bool) => ⟨[(1, .v (.one (dS a1))), (2, .v (.one (.ptr 0 0))), (17, .v (.one (dB v1)))], [(0, .cells 24 (cE a0))], [(1, some ⟨24, 2, (Enc.encL ([a0] : List Lvl)).length⟩)], 2, 56, []⟩) (fun (v1 : Bool) => (cond v1
      (some true)
      (Option.bind (m38 a0 a1) fun (x3 : Int × Int) =>
    Option.bind (m39 a0 a1) fun (x4 : Int × Int) =>
    Option.bind (cond (x3.1 == x4.1)
      (cond (x3.2 == x4.2)
      (Option.bind (m40 a0) fun (x8 : Int) =>
    Option.bind (m41 a0) fun (x9 : Int) =>
    cond (x8 == x9)
      (Option.bind (m43 a0) fun (x11 : (List Int)) =>
    Option.bind (m44 a0) fun (x12 : (List Int)) =>
    Option.bind (m42 x11 x12) fun (x13 : Bool) =>
    cond x13
      (some true)
      (some false))
      (some false))
      (some false))
      (some false)) (fun (v5 : Bool) => some v5))) = some r) ?_ ?_
  ·
   refine bindK h0 (fun v_ h1 h0 => ?_)
   refine XC.region <| rR rfl rfl rfl (RO.loadOwnAgg ag_24 rfl rfl rfl rfl) <| XL.put rfl rfl (lb rfl) (OpOK.lit1E (α := Lvl) (a0) sl_55 z_24 rfl rfl (lb rfl) (lb rfl) rfl rfl (.cons (.d _) (.cons (.d _) .nil)) rfl) ?_
   refine bindK h1 (fun x2 hx2 h1 => ?_)
   refine XL.put rfl rfl (lb rfl) (OpOK.callFun (m13_ok ([a0]) x2 hx2) rfl (.cons (.one (.app _ _ _)) .nil)) <| rR rfl rfl rfl (RO.not rfl) <| rM rfl rfl rfl ?_
   refine XL.case (d := 13) (c := (!x2)) rfl (fun c3 => ?_) (fun c3 => ?_)
   ·
    replace h1 := condT c3 h1
    refine XL.no rfl rfl <| XL.no rfl rfl <| XL.no rfl rfl <| rR rfl rfl rfl (RO.pickT rfl rfl) <| XL.nil ?_
    have e_ := Option.some.inj h1
    subst e_
    exact XQ.joinR true (stle (tR rfl (tR rfl (tR rfl tZ))) (hR rfl hZ) (kR rfl kZ) rfl (Nat.zero_le _) rfl rfl rfl (bB rfl rfl bZ) rfl rfl) h0
   ·
    replace h1 := condF c3 h1
    refine rM rfl rfl rfl <| rR rfl rfl rfl (RO.lenE (α := Int) sl_46 rfl (.d _)) <| rR rfl rfl rfl (RO.binInt rfl rfl rfl) <| rR rfl rfl rfl (RO.pickF rfl rfl) <| XL.nil ?_
    have e_ := Option.some.inj h1
    subst e_
    exact XQ.joinR (decide (12 < (a1.length : Int))) (stle (tR rfl (tR rfl (tR rfl tZ))) (hR rfl hZ) (kR rfl kZ) rfl (Nat.zero_le _) rfl rfl rfl (bB rfl rfl bZ) rfl rfl) h0
  ·
   intro v1 h0
   refine XQ.seq ?_
   refine XC.cond (b := v1) rfl (fun c4 => ?_) (fun c4 => ?_)
   ·
    replace h0 := condT c4 h0
    refine XC.seq <| XC.region <| XL.put rfl rfl (lb rfl) (OpOK.callFun (awake_fun) rfl .nil) <| rA rfl rfl rfl <| XL.nil <| XQ.seq <| XC.ret ?_
    have e_ := Option.some.inj h0
    subst e_
    exact XQ.retF (fun _ _ h => h) rfl (RAs.tmp rfl .nil) (.cons (.one (.d _)) .nil)
   ·
    replace h0 := condF c4 h0
    refine XC.skip <| XQ.seq <| XC.seq <| XC.region <| rR rfl rfl rfl (RO.loadOwnAgg ag_24 rfl rfl rfl rfl) <| rM rfl rfl rfl ?_
    refine bindK h0 (fun x5 hx5 h0 => ?_)
    refine XL.put rfl rfl (lb rfl) (OpOK.callFun (m38_ok a0 a1 x5 hx5) rfl (.cons (.agg (.cons (.d _) (.cons (.d _) .nil))) (.cons (.one (.d _)) .nil))) <| rM rfl rfl rfl <| rR rfl rfl rfl (RO.extract rfl rfl) <| rR rfl rfl rfl (RO.extract rfl rfl) <| rA rfl rfl rfl <| rA rfl rfl rfl <| XL.nil <| XQ.seq <| XC.seq <| XC.region <| rR rfl rfl rfl (RO.loadOwnAgg ag_24 rfl rfl rfl rfl) <| rM rfl rfl rfl ?_
    refine bindK h0 (fun x6 hx6 h0 => ?_)
    refine XL.put rfl rfl (lb rfl) (OpOK.callFun (m39_ok a0 a1 x6 hx6) rfl (.cons (.agg (.cons (.d _) (.cons (.d _) .nil))) (.cons (.one (.d _)) .nil))) <| rM rfl rfl rfl <| rR rfl rfl rfl (RO.extract rfl rfl) <| rR rfl rfl rfl (RO.extract rfl rfl) <| rA rfl rfl rfl <| rA rfl rfl rfl <| XL.nil <| XQ.seq <| XC.seq ?_
    refine XC.joinR (fun (v7 : Bool) => ⟨[(4, .v (.one (dB v7)))], [(0, .cells 24 (cE a0))], [(1, some ⟨24, 2, (Enc.encL ([a0] : List Lvl)).length⟩)], 2, 56, []⟩) (fun (v7 : Bool) => (some v7) = some r) ?_ ?_
    ·
     refine bindK h0 (fun v_ h1 h0 => ?_)
     refine XC.anyRun [] [] mixed (by kernel_rfl) (by kernel_rfl) (by kernel_rfl) ?_
     refine RunA.rd rfl rfl rfl (OpOK.of_ro (RO.move rfl)) rfl <| RunA.rd rfl rfl rfl (OpOK.of_ro (RO.move rfl)) rfl <| RunA.rd rfl rfl rfl (OpOK.of_ro (RO.binInt rfl rfl rfl)) rfl ?_
     refine RunA.case (c := (x5.1 == x6.1)) rfl rfl rfl (OpOK.of_ro (RO.move rfl)) rfl (fun c8 => ?_) (fun c8 => ?_)
     ·
      replace h1 := condT c8 h1
      refine RunA.rd rfl rfl rfl (OpOK.of_ro (RO.move rfl)) rfl <| RunA.rd rfl rfl rfl (OpOK.of_ro (RO.move rfl)) rfl <| RunA.rd rfl rfl rfl (OpOK.of_ro (RO.binInt rfl rfl rfl)) rfl <| RunA.rd rfl rfl rfl (OpOK.of_ro (RO.pickT rfl rfl)) rfl ?_
      refine RunA.case (c := (x5.2 == x6.2)) rfl rfl rfl (OpOK.of_ro (RO.move rfl)) rfl (fun c9 => ?_) (fun c9 => ?_)
      ·
       replace h1 := condT c9 h1
       refine RunA.rd rfl rfl rfl (OpOK.of_ro (RO.loadOwnAgg ag_24 rfl rfl rfl rfl)) rfl ?_
       refine bindK h1 (fun x10 hx10 h1 => ?_)
       refine RunA.rd rfl rfl rfl (OpOK.callFun (m40_ok a0 x10 hx10) rfl (.cons (.agg (.cons (.d _) (.cons (.d _) .nil))) .nil)) rfl <| RunA.rd rfl rfl rfl (OpOK.of_ro (RO.loadOwnAgg ag_24 rfl rfl rfl rfl)) rfl ?_
       refine bindK h1 (fun x11 hx11 h1 => ?_)
       refine RunA.rd rfl rfl rfl (OpOK.callFun (m41_ok a0 x11 hx11) rfl (.cons (.agg (.cons (.d _) (.cons (.d _) .nil))) .nil)) rfl <| RunA.rd rfl rfl rfl (OpOK.of_ro (RO.binInt rfl rfl rfl)) rfl <| RunA.rd rfl rfl rfl (OpOK.of_ro (RO.pickT rfl rfl)) rfl ?_
       refine RunA.case (c := (x10 == x11)) rfl rfl rfl (OpOK.of_ro (RO.move rfl)) rfl (fun c12 => ?_) (fun c12 => ?_)
       ·
        replace h1 := condT c12 h1
        refine RunA.rd rfl rfl rfl (OpOK.of_ro (RO.loadOwnAgg ag_24 rfl rfl rfl rfl)) rfl ?_
        refine bindK h1 (fun x13 hx13 h1 => ?_)
        refine RunA.rd rfl rfl rfl (OpOK.callFun (m43_ok a0 x13 hx13) rfl (.cons (.agg (.cons (.d _) (.cons (.d _) .nil))) .nil)) rfl <| RunA.rd rfl rfl rfl (OpOK.of_ro (RO.loadOwnAgg ag_24 rfl rfl rfl rfl)) rfl ?_
        refine bindK h1 (fun x14 hx14 h1 => ?_)
        refine RunA.rd rfl rfl rfl (OpOK.callFun (m44_ok a0 x14 hx14) rfl (.cons (.agg (.cons (.d _) (.cons (.d _) .nil))) .nil)) rfl ?_
        refine bindK h1 (fun x15 hx15 h1 => ?_)
        refine RunA.rd rfl rfl rfl (OpOK.callFun (m42_ok x13 x14 x15 hx15) rfl (.cons (.one (.d _)) (.cons (.one (.d _)) .nil))) rfl <| RunA.rd rfl rfl rfl (OpOK.of_ro (RO.pickT rfl rfl)) rfl ?_
        refine RunA.case (c := x15) rfl rfl rfl (OpOK.of_ro (RO.move rfl)) rfl (fun c16 => ?_) (fun c16 => ?_)
        ·
         replace h1 := condT c16 h1
         refine RunA.rd rfl rfl rfl (OpOK.callFun (awake_fun) rfl .nil) rfl <| RunA.rd rfl rfl rfl (OpOK.of_ro (RO.pickT rfl rfl)) rfl <| RunA.rd rfl rfl rfl (OpOK.of_ro (RO.assign rfl)) rfl ?_
         refine RunA.nil ⟨?ex, _, _, rfl, ?_⟩
         case ex => exact trivial
         have e_ := Option.some.inj h1
         subst e_
         exact XQ.joinR true (stle (tR rfl tZ) (hR rfl hZ) (kR rfl kZ) rfl (Nat.zero_le _) rfl rfl rfl (bB rfl rfl bZ) rfl rfl) h0
        ·
         replace h1 := condF c16 h1
         refine RunA.no rfl rfl rfl rfl <| RunA.rd rfl rfl rfl (OpOK.of_ro (RO.pickF rfl rfl)) rfl <| RunA.rd rfl rfl rfl (OpOK.of_ro (RO.assign rfl)) rfl ?_
         refine RunA.nil ⟨?ex, _, _, rfl, ?_⟩
         case ex => exact trivial
         have e_ := Option.some.inj h1
         subst e_
         exact XQ.joinR false (stle (tR rfl tZ) (hR rfl hZ) (kR rfl kZ) rfl (Nat.zero_le _) rfl rfl rfl (bB rfl rfl bZ) rfl rfl) h0
       ·
        replace h1 := condF c12 h1
        refine RunA.no rfl rfl rfl rfl <| RunA.no rfl rfl rfl rfl <| RunA.no rfl rfl rfl rfl <| RunA.no rfl rfl rfl rfl <| RunA.no rfl rfl rfl rfl <| RunA.rd rfl rfl rfl (OpOK.of_ro (RO.pickF rfl rfl)) rfl <| RunA.rd rfl rfl rfl (OpOK.of_ro (RO.move rfl)) rfl <| RunA.no rfl rfl rfl rfl <| RunA.rd rfl rfl rfl (OpOK.of_ro (RO.pickF rfl rfl)) rfl <| RunA.rd rfl rfl rfl (OpOK.of_ro (RO.assign rfl)) rfl ?_
        refine RunA.nil ⟨?ex, _, _, rfl, ?_⟩
        case ex => exact trivial
        have e_ := Option.some.inj h1
        subst e_
        exact XQ.joinR false (stle (tR rfl tZ) (hR rfl hZ) (kR rfl kZ) rfl (Nat.zero_le _) rfl rfl rfl (bB rfl rfl bZ) rfl rfl) h0
      ·
       replace h1 := condF c9 h1
       refine RunA.no rfl rfl rfl rfl <| RunA.no rfl rfl rfl rfl <| RunA.no rfl rfl rfl rfl <| RunA.no rfl rfl rfl rfl <| RunA.no rfl rfl rfl rfl <| RunA.rd rfl rfl rfl (OpOK.of_ro (RO.pickF rfl rfl)) rfl <| RunA.rd rfl rfl rfl (OpOK.of_ro (RO.move rfl)) rfl <| RunA.no rfl rfl rfl rfl <| RunA.no rfl rfl rfl rfl <| RunA.no rfl rfl rfl rfl <| RunA.no rfl rfl rfl rfl <| RunA.no rfl rfl rfl rfl <| RunA.rd rfl rfl rfl (OpOK.of_ro (RO.pickF rfl rfl)) rfl <| RunA.rd rfl rfl rfl (OpOK.of_ro (RO.move rfl)) rfl ?_
       refine RunA.no rfl rfl rfl rfl <| RunA.rd rfl rfl rfl (OpOK.of_ro (RO.pickF rfl rfl)) rfl <| RunA.rd rfl rfl rfl (OpOK.of_ro (RO.assign rfl)) rfl ?_
       refine RunA.nil ⟨?ex, _, _, rfl, ?_⟩
       case ex => exact trivial
       have e_ := Option.some.inj h1
       subst e_
       exact XQ.joinR false (stle (tR rfl tZ) (hR rfl hZ) (kR rfl kZ) rfl (Nat.zero_le _) rfl rfl rfl (bB rfl rfl bZ) rfl rfl) h0
     ·
      replace h1 := condF c8 h1
      refine RunA.no rfl rfl rfl rfl <| RunA.no rfl rfl rfl rfl <| RunA.no rfl rfl rfl rfl <| RunA.rd rfl rfl rfl (OpOK.of_ro (RO.pickF rfl rfl)) rfl <| RunA.rd rfl rfl rfl (OpOK.of_ro (RO.move rfl)) rfl <| RunA.no rfl rfl rfl rfl <| RunA.no rfl rfl rfl rfl <| RunA.no rfl rfl rfl rfl <| RunA.no rfl rfl rfl rfl <| RunA.no rfl rfl rfl rfl <| RunA.rd rfl rfl rfl (OpOK.of_ro (RO.pickF rfl rfl)) rfl <| RunA.rd rfl rfl rfl (OpOK.of_ro (RO.move rfl)) rfl <| RunA.no rfl rfl rfl rfl <| RunA.no rfl rfl rfl rfl ?_
      refine RunA.no rfl rfl rfl rfl <| RunA.no rfl rfl rfl rfl <| RunA.no rfl rfl rfl rfl <| RunA.rd rfl rfl rfl (OpOK.of_ro (RO.pickF rfl rfl)) rfl <| RunA.rd rfl rfl rfl (OpOK.of_ro (RO.move rfl)) rfl <| RunA.no rfl rfl rfl rfl <| RunA.rd rfl rfl rfl (OpOK.of_ro (RO.pickF rfl rfl)) rfl <| RunA.rd rfl rfl rfl (OpOK.of_ro (RO.assign rfl)) rfl ?_
      refine RunA.nil ⟨?ex, _, _, rfl, ?_⟩
      case ex => exact trivial
      have e_ := Option.some.inj h1
      subst e_
      exact XQ.joinR false (stle (tR rfl tZ) (hR rfl hZ) (kR rfl kZ) rfl (Nat.zero_le _) rfl rfl rfl (bB rfl rfl bZ) rfl rfl) h0
    ·
     intro v7 h0
     refine XQ.seq <| XC.ret ?_
     have e_ := Option.some.inj h0
     subst e_
     exact XQ.retF (fun _ _ h => h) rfl (RAs.tmp rfl .nil) (.cons (.one (.d _)) .nil)
end Go.Proofs.YtcapifnaceegmaaGreatDoor
