/- Mirrors of layer 1: the law of Parse. -/
import Derived.Test.YtcapifnaceegmaaGreatDoorMpa
import Derived.Test.YtcapifnaceegmaaGreatDoorMpr
import Derived.Test.YtcapifnaceegmaaGreatDoorAw
namespace Go.Proofs.YtcapifnaceegmaaGreatDoor
open Go.RowKit Go.Shelf
set_option linter.unusedSimpArgs false
set_option linter.unusedVariables false

theorem en_5 : Enters Tryz.prog 5 := enters_of Tryz.func5 (by kernel_rfl) rfl
/-- euclid/euclidlaw01.LevelParses -/
def m5 (a0 : (List UInt8)) : Option Bool :=
  cond (decide (600 < (a0.length : Int)))
    (some true)
    (Option.bind (m26 a0) fun (x2 : Lvl × Int) =>
  Option.bind (m27 a0) fun (x3 : Lvl × Int) =>
  Option.bind (Option.bind (m21 x2.1 x3.1) fun (x5 : Bool) =>
  cond x5
    (cond (x2.2 == x3.2)
    (some true)
    (some false))
    (some false)) (fun (v4 : Bool) => some v4))

set_option maxRecDepth 100000 in
set_option maxHeartbeats 8000000 in
theorem m5_ok (a0 : (List UInt8)) (r : Bool) (h0 : m5 a0 = some r) : Fun Tryz.prog 5 [.one (dS8 a0)] (resOf [.one (dB r)]) := by
  unfold m5 at h0
  refine Fun.of_bodyM 9 32 Tryz.func5 rfl en_5 rfl (lb rfl) (fun S w => ?_)
  simp only [entry]
  refine XC.seq ?_
  refine XC.region ?_
  refine XL.rd rfl rfl (lb rfl) (RO.assign rfl) ?_
  refine XL.nil ?_
  refine XQ.seq ?_
  refine XC.seq ?_
  refine XC.seq ?_
  refine XC.region ?_
  refine XL.rd rfl rfl (lb rfl) (RO.move rfl) ?_
  refine XL.rd rfl rfl (lb rfl) (RO.lenS st_9 rfl) ?_
  refine XL.rd rfl rfl (lb rfl) (RO.binInt rfl rfl rfl) ?_
  refine XL.nil ?_
  refine XQ.seq ?_
  refine XC.cond (b := (decide (600 < (a0.length : Int)))) rfl (fun c1 => ?_) (fun c1 => ?_)
  ·
   replace h0 := condT c1 h0
   refine XC.seq ?_
   refine XC.region ?_
   refine XL.put rfl rfl (lb rfl) (OpOK.callFun (awake_fun) rfl .nil) ?_
   refine XL.rd rfl rfl (lb rfl) (RO.assign rfl) ?_
   refine XL.nil ?_
   refine XQ.seq ?_
   refine XC.ret ?_
   have e_ := Option.some.inj h0
   subst e_
   exact XQ.retF (fun _ _ h => h) rfl (RAs.tmp rfl .nil) (.cons (.one (.d _)) .nil)
  ·
   replace h0 := condF c1 h0
   refine XC.skip ?_
   refine XQ.seq ?_
   refine XC.seq ?_
   refine XC.region ?_
   refine XL.rd rfl rfl (lb rfl) (RO.move rfl) ?_
   refine bindK h0 (fun x2 hx2 h0 => ?_)
   refine XL.put rfl rfl (lb rfl) (OpOK.callFun (m26_ok a0 x2 hx2) rfl (.cons (.one (.d _)) .nil)) ?_
   refine XL.rd rfl rfl (lb rfl) (RO.move rfl) ?_
   refine XL.rd rfl rfl (lb rfl) (RO.extract rfl rfl) ?_
   refine XL.rd rfl rfl (lb rfl) (RO.extract rfl rfl) ?_
   refine XL.put rfl rfl (lb rfl) (OpOK.alloc z_24 rfl) ?_
   refine XL.eff rfl rfl (OpOK.store ag_24 rfl rfl rfl rfl (lb rfl) rfl) ?_
   refine XL.rd rfl rfl (lb rfl) (RO.assign rfl) ?_
   refine XL.nil ?_
   refine XQ.seq ?_
   refine XC.seq ?_
   refine XC.region ?_
   refine XL.rd rfl rfl (lb rfl) (RO.move rfl) ?_
   refine bindK h0 (fun x3 hx3 h0 => ?_)
   refine XL.put rfl rfl (lb rfl) (OpOK.callFun (m27_ok a0 x3 hx3) rfl (.cons (.one (.d _)) .nil)) ?_
   refine XL.rd rfl rfl (lb rfl) (RO.move rfl) ?_
   refine XL.rd rfl rfl (lb rfl) (RO.extract rfl rfl) ?_
   refine XL.rd rfl rfl (lb rfl) (RO.extract rfl rfl) ?_
   refine XL.put rfl rfl (lb rfl) (OpOK.alloc z_24 rfl) ?_
   refine XL.eff rfl rfl (OpOK.store ag_24 rfl rfl rfl rfl (lb rfl) rfl) ?_
   refine XL.rd rfl rfl (lb rfl) (RO.assign rfl) ?_
   refine XL.nil ?_
   refine XQ.seq ?_
   refine XC.seq ?_
   refine XC.joinR (fun (v4 : Bool) => ⟨[(2, .v (.one (dB v4)))], [(0, .cells 24 (cE x2.1)), (1, .cells 24 (cE x3.1))], [], 2, 32, []⟩) (fun (v4 : Bool) => (some v4) = some r) ?_ ?_
   ·
    refine bindK h0 (fun w1_ h1 h0 => ?_)
    refine XC.region ?_
    refine XL.rd rfl rfl (lb rfl) (RO.loadOwnAgg ag_24 rfl rfl rfl rfl) ?_
    refine XL.rd rfl rfl (lb rfl) (RO.loadOwnAgg ag_24 rfl rfl rfl rfl) ?_
    refine bindK h1 (fun x5 hx5 h1 => ?_)
    refine XL.put rfl rfl (lb rfl) (OpOK.callFun (m21_ok x2.1 x3.1 x5 hx5) rfl (.cons (.agg (.cons (.d _) (.cons (.d _) .nil))) (.cons (.agg (.cons (.d _) (.cons (.d _) .nil))) .nil))) ?_
    refine XL.rd rfl rfl (lb rfl) (RO.move rfl) ?_
    refine XL.case (d := 24) (c := x5) rfl (fun c6 => ?_) (fun c6 => ?_)
    ·
     replace h1 := condT c6 h1
     refine XL.rd rfl rfl (lb rfl) (RO.move rfl) ?_
     refine XL.rd rfl rfl (lb rfl) (RO.move rfl) ?_
     refine XL.rd rfl rfl (lb rfl) (RO.binInt rfl rfl rfl) ?_
     refine XL.rd rfl rfl (lb rfl) (RO.pickT rfl rfl) ?_
     refine XL.rd rfl rfl (lb rfl) (RO.move rfl) ?_
     refine XL.case (d := 29) (c := (x2.2 == x3.2)) rfl (fun c7 => ?_) (fun c7 => ?_)
     ·
      replace h1 := condT c7 h1
      refine XL.put rfl rfl (lb rfl) (OpOK.callFun (awake_fun) rfl .nil) ?_
      refine XL.rd rfl rfl (lb rfl) (RO.pickT rfl rfl) ?_
      refine XL.rd rfl rfl (lb rfl) (RO.assign rfl) ?_
      refine XL.nil ?_
      have e_ := Option.some.inj h1
      subst e_
      exact XQ.joinR true (stle (tR rfl tZ) (hR rfl (hR rfl hZ)) kZ rfl (Nat.zero_le _) rfl rfl rfl (bB rfl rfl (bB rfl rfl bZ)) rfl rfl) h0
     ·
      replace h1 := condF c7 h1
      refine XL.no rfl rfl ?_
      refine XL.rd rfl rfl (lb rfl) (RO.pickF rfl rfl) ?_
      refine XL.rd rfl rfl (lb rfl) (RO.assign rfl) ?_
      refine XL.nil ?_
      have e_ := Option.some.inj h1
      subst e_
      exact XQ.joinR false (stle (tR rfl tZ) (hR rfl (hR rfl hZ)) kZ rfl (Nat.zero_le _) rfl rfl rfl (bB rfl rfl (bB rfl rfl bZ)) rfl rfl) h0
    ·
     replace h1 := condF c6 h1
     refine XL.no rfl rfl ?_
     refine XL.no rfl rfl ?_
     refine XL.no rfl rfl ?_
     refine XL.rd rfl rfl (lb rfl) (RO.pickF rfl rfl) ?_
     refine XL.rd rfl rfl (lb rfl) (RO.move rfl) ?_
     refine XL.no rfl rfl ?_
     refine XL.rd rfl rfl (lb rfl) (RO.pickF rfl rfl) ?_
     refine XL.rd rfl rfl (lb rfl) (RO.assign rfl) ?_
     refine XL.nil ?_
     have e_ := Option.some.inj h1
     subst e_
     exact XQ.joinR false (stle (tR rfl tZ) (hR rfl (hR rfl hZ)) kZ rfl (Nat.zero_le _) rfl rfl rfl (bB rfl rfl (bB rfl rfl bZ)) rfl rfl) h0
   ·
    intro v4 h0
    refine XQ.seq ?_
    refine XC.ret ?_
    have e_ := Option.some.inj h0
    subst e_
    exact XQ.retF (fun _ _ h => h) rfl (RAs.tmp rfl .nil) (.cons (.one (.d _)) .nil)
end Go.Proofs.YtcapifnaceegmaaGreatDoor
