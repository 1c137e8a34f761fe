/- Mirrors of layer 1: the law of Plus and Max. -/
import Derived.Test.YtcapifnaceegmaaGreatDoorMp
import Derived.Test.YtcapifnaceegmaaGreatDoorMx
import Derived.Test.YtcapifnaceegmaaGreatDoorAw
import Derived.Test.YtcapifnaceegmaaGreatDoorFd
namespace Go.Proofs.YtcapifnaceegmaaGreatDoor
open Go.RowKit Go.Shelf
set_option linter.unusedSimpArgs false
set_option linter.unusedVariables false

theorem en_4 : Enters Tryz.prog 4 := enters_of Tryz.func4 (by kernel_rfl) rfl
/-- euclid/euclidlaw01.LevelAdds -/
def m4 (a0 : Lvl) (a1 : Lvl) (a2 : Int) : Option Bool :=
  Option.bind (m13 ([a0, a1])) fun (x1 : Bool) =>
  cond (!x1)
    (some true)
    (Option.bind (m22 a0 a2) fun (x3 : Lvl × Int) =>
  guardO (Nat.ble a0.vs.length 100000)
  (Option.bind (m24 a0 a1) fun (x5 : Lvl × Int) =>
  guardO ((cond (Nat.ble a0.vs.length 100000) (Nat.ble a1.vs.length 100000) false))
  (Option.bind (Option.bind (m21 x3.1 ((plusL a0 a2).1)) fun (x8 : Bool) =>
  cond x8
    (cond (x3.2 == ((plusL a0 a2).2))
    (Option.bind (m21 x5.1 ((maxL a0 a1).1)) fun (x11 : Bool) =>
  cond x11
    (cond (x5.2 == ((maxL a0 a1).2))
    (some true)
    (some false))
    (some false))
    (some false))
    (some false)) (fun (v7 : Bool) => some v7))))

set_option maxRecDepth 100000 in
set_option maxHeartbeats 8000000 in
theorem m4_ok (a0 : Lvl) (a1 : Lvl) (a2 : Int) (r : Bool) (h0 : m4 a0 a1 a2 = some r) : Fun Tryz.prog 4 [.agg (cE a0), .agg (cE a1), .one (dI a2)] (resOf [.one (dB r)]) := by
  unfold m4 at h0
  refine Fun.of_bodyM 9 66 Tryz.func4 rfl en_4 rfl (lb rfl) (fun S w => ?_)
  simp only [entry]
  refine XC.seq <| XC.region <| XL.put rfl rfl (lb rfl) (OpOK.box rfl) <| XL.put rfl rfl (lb rfl) (OpOK.box rfl) <| rA rfl rfl rfl <| XL.nil <| XQ.seq <| XC.seq <| XC.seq <| XC.region <| rR rfl rfl rfl (RO.loadOwnAgg ag_24 rfl rfl rfl rfl) <| rR rfl rfl rfl (RO.loadOwnAgg ag_24 rfl rfl rfl rfl) <| XL.put rfl rfl (lb rfl) (OpOK.data2E (α := Lvl) a0 a1 sl_55 z_24 rfl rfl (lb rfl) rfl rfl rfl (.cons (.d _) (.cons (.d _) (.cons (.d _) (.cons (.d _) .nil)))) ⟨rfl, rfl⟩) ?_
  refine bindK h0 (fun x1 hx1 h0 => ?_)
  refine XL.put rfl rfl (lb rfl) (OpOK.callFun (m13_ok ([a0, a1]) x1 hx1) rfl (.cons (.one (.d _)) .nil)) <| rR rfl rfl rfl (RO.not rfl) <| XL.nil <| XQ.seq ?_
  refine XC.cond (b := (!x1)) rfl (fun c2 => ?_) (fun c2 => ?_)
  ·
   replace h0 := condT c2 h0
   refine XC.seq <| XC.region <| XL.put rfl rfl (lb rfl) (OpOK.callFun (awake_fun) rfl .nil) <| rA rfl rfl rfl <| XL.nil <| XQ.seq <| XC.ret ?_
   have e_ := Option.some.inj h0
   subst e_
   exact XQ.retF (fun _ _ h => h) rfl (RAs.tmp rfl .nil) (.cons (.one (.d _)) .nil)
  ·
   replace h0 := condF c2 h0
   refine XC.skip <| XQ.seq <| XC.seq <| XC.region <| rR rfl rfl rfl (RO.loadOwnAgg ag_24 rfl rfl rfl rfl) <| rM rfl rfl rfl ?_
   refine bindK h0 (fun x3 hx3 h0 => ?_)
   refine XL.put rfl rfl (lb rfl) (OpOK.callFun (m22_ok a0 a2 x3 hx3) rfl (.cons (.agg (.cons (.d _) (.cons (.d _) .nil))) (.cons (.one (.d _)) .nil))) <| rM rfl rfl rfl <| rR rfl rfl rfl (RO.extract rfl rfl) <| rR rfl rfl rfl (RO.extract rfl rfl) <| XL.put rfl rfl (lb rfl) (OpOK.alloc z_24 rfl) <| XL.eff rfl rfl (OpOK.store ag_24 rfl rfl rfl rfl (lb rfl) rfl) <| rA rfl rfl rfl <| XL.nil <| XQ.seq <| XC.seq <| XC.region <| rR rfl rfl rfl (RO.loadOwnAgg ag_24 rfl rfl rfl rfl) <| rM rfl rfl rfl ?_
   refine guardK h0 (fun g4 h0 => ?_)
   refine XL.put rfl rfl (lb rfl) (OpOK.callFun (plusR_fun a0 a2 (Nat.le_of_ble_eq_true g4)) rfl (.cons (.agg (.cons (.d _) (.cons (.d _) .nil))) (.cons (.one (.d _)) .nil))) ?_
   refine rM rfl rfl rfl <| rR rfl rfl rfl (RO.extract rfl rfl) <| rR rfl rfl rfl (RO.extract rfl rfl) <| XL.put rfl rfl (lb rfl) (OpOK.alloc z_24 rfl) <| XL.eff rfl rfl (OpOK.store ag_24 rfl rfl rfl rfl (lb rfl) rfl) <| rA rfl rfl rfl <| XL.nil <| XQ.seq <| XC.seq <| XC.region <| rR rfl rfl rfl (RO.loadOwnAgg ag_24 rfl rfl rfl rfl) <| rR rfl rfl rfl (RO.loadOwnAgg ag_24 rfl rfl rfl rfl) ?_
   refine bindK h0 (fun x5 hx5 h0 => ?_)
   refine XL.put rfl rfl (lb rfl) (OpOK.callFun (m24_ok a0 a1 x5 hx5) rfl (.cons (.agg (.cons (.d _) (.cons (.d _) .nil))) (.cons (.agg (.cons (.d _) (.cons (.d _) .nil))) .nil))) <| rM rfl rfl rfl <| rR rfl rfl rfl (RO.extract rfl rfl) <| rR rfl rfl rfl (RO.extract rfl rfl) <| XL.put rfl rfl (lb rfl) (OpOK.alloc z_24 rfl) <| XL.eff rfl rfl (OpOK.store ag_24 rfl rfl rfl rfl (lb rfl) rfl) <| rA rfl rfl rfl <| XL.nil <| XQ.seq <| XC.seq <| XC.region <| rR rfl rfl rfl (RO.loadOwnAgg ag_24 rfl rfl rfl rfl) <| rR rfl rfl rfl (RO.loadOwnAgg ag_24 rfl rfl rfl rfl) ?_
   refine guardK h0 (fun g6 h0 => ?_)
   refine XL.put rfl rfl (lb rfl) (OpOK.callFun (maxR_fun a0 a1 (Nat.le_of_ble_eq_true (cond_left g6)) (Nat.le_of_ble_eq_true (cond_right g6))) rfl (.cons (.agg (.cons (.d _) (.cons (.d _) .nil))) (.cons (.agg (.cons (.d _) (.cons (.d _) .nil))) .nil))) ?_
   refine rM rfl rfl rfl <| rR rfl rfl rfl (RO.extract rfl rfl) <| rR rfl rfl rfl (RO.extract rfl rfl) <| XL.put rfl rfl (lb rfl) (OpOK.alloc z_24 rfl) <| XL.eff rfl rfl (OpOK.store ag_24 rfl rfl rfl rfl (lb rfl) rfl) <| rA rfl rfl rfl <| XL.nil <| XQ.seq <| XC.seq ?_
   refine XC.joinR (fun (v7 : Bool) => ⟨[(6, .v (.one (dB v7)))], [(0, .cells 24 (cE a0)), (1, .cells 24 (cE a1)), (2, .cells 24 (cE x3.1)), (3, .cells 24 [dI (((plusL a0 a2).1).c), dS (((plusL a0 a2).1).vs : List LV)]), (4, .cells 24 (cE x5.1)), (5, .cells 24 [dI (((maxL a0 a1).1).c), dS (((maxL a0 a1).1).vs : List LV)])], [], 6, 66, []⟩) (fun (v7 : Bool) => (some v7) = some r) ?_ ?_
   ·
    refine bindK h0 (fun v_ h1 h0 => ?_)
    refine XC.region <| rR rfl rfl rfl (RO.loadOwnAgg ag_24 rfl rfl rfl rfl) <| rR rfl rfl rfl (RO.loadOwnAgg ag_24 rfl rfl rfl rfl) ?_
    refine bindK h1 (fun x8 hx8 h1 => ?_)
    refine XL.put rfl rfl (lb rfl) (OpOK.callFun (m21_ok x3.1 ((plusL a0 a2).1) x8 hx8) rfl (.cons (.agg (.cons (.d _) (.cons (.d _) .nil))) (.cons (.agg (.cons (.d _) (.cons (.d _) .nil))) .nil))) <| rM rfl rfl rfl ?_
    refine XL.case (d := 48) (c := x8) rfl (fun c9 => ?_) (fun c9 => ?_)
    ·
     replace h1 := condT c9 h1
     refine rM rfl rfl rfl <| rM rfl rfl rfl <| rR rfl rfl rfl (RO.binInt rfl rfl rfl) <| rR rfl rfl rfl (RO.pickT rfl rfl) <| rM rfl rfl rfl ?_
     refine XL.case (d := 53) (c := (x3.2 == ((plusL a0 a2).2))) rfl (fun c10 => ?_) (fun c10 => ?_)
     ·
      replace h1 := condT c10 h1
      refine rR rfl rfl rfl (RO.loadOwnAgg ag_24 rfl rfl rfl rfl) <| rR rfl rfl rfl (RO.loadOwnAgg ag_24 rfl rfl rfl rfl) ?_
      refine bindK h1 (fun x11 hx11 h1 => ?_)
      refine XL.put rfl rfl (lb rfl) (OpOK.callFun (m21_ok x5.1 ((maxL a0 a1).1) x11 hx11) rfl (.cons (.agg (.cons (.d _) (.cons (.d _) .nil))) (.cons (.agg (.cons (.d _) (.cons (.d _) .nil))) .nil))) <| rR rfl rfl rfl (RO.pickT rfl rfl) <| rM rfl rfl rfl ?_
      refine XL.case (d := 58) (c := x11) rfl (fun c12 => ?_) (fun c12 => ?_)
      ·
       replace h1 := condT c12 h1
       refine rM rfl rfl rfl <| rM rfl rfl rfl <| rR rfl rfl rfl (RO.binInt rfl rfl rfl) <| rR rfl rfl rfl (RO.pickT rfl rfl) <| rM rfl rfl rfl ?_
       refine XL.case (d := 63) (c := (x5.2 == ((maxL a0 a1).2))) rfl (fun c13 => ?_) (fun c13 => ?_)
       ·
        replace h1 := condT c13 h1
        refine XL.put rfl rfl (lb rfl) (OpOK.callFun (awake_fun) rfl .nil) <| rR rfl rfl rfl (RO.pickT rfl rfl) <| rA rfl rfl rfl <| XL.nil ?_
        have e_ := Option.some.inj h1
        subst e_
        exact XQ.joinR true (stle (tR rfl tZ) (hR rfl (hR rfl (hR rfl (hR rfl (hR rfl (hR rfl hZ)))))) kZ rfl (Nat.zero_le _) rfl rfl rfl (bB rfl rfl (bB rfl rfl (bB rfl rfl (bB rfl rfl (bB rfl rfl (bB rfl rfl bZ)))))) rfl rfl) h0
       ·
        replace h1 := condF c13 h1
        refine XL.no rfl rfl <| rR rfl rfl rfl (RO.pickF rfl rfl) <| rA rfl rfl rfl <| XL.nil ?_
        have e_ := Option.some.inj h1
        subst e_
        exact XQ.joinR false (stle (tR rfl tZ) (hR rfl (hR rfl (hR rfl (hR rfl (hR rfl (hR rfl hZ)))))) kZ rfl (Nat.zero_le _) rfl rfl rfl (bB rfl rfl (bB rfl rfl (bB rfl rfl (bB rfl rfl (bB rfl rfl (bB rfl rfl bZ)))))) rfl rfl) h0
      ·
       replace h1 := condF c12 h1
       refine XL.no rfl rfl <| XL.no rfl rfl <| XL.no rfl rfl <| rR rfl rfl rfl (RO.pickF rfl rfl) <| rM rfl rfl rfl <| XL.no rfl rfl <| rR rfl rfl rfl (RO.pickF rfl rfl) <| rA rfl rfl rfl <| XL.nil ?_
       have e_ := Option.some.inj h1
       subst e_
       exact XQ.joinR false (stle (tR rfl tZ) (hR rfl (hR rfl (hR rfl (hR rfl (hR rfl (hR rfl hZ)))))) kZ rfl (Nat.zero_le _) rfl rfl rfl (bB rfl rfl (bB rfl rfl (bB rfl rfl (bB rfl rfl (bB rfl rfl (bB rfl rfl bZ)))))) rfl rfl) h0
     ·
      replace h1 := condF c10 h1
      refine XL.no rfl rfl <| XL.no rfl rfl <| XL.no rfl rfl <| rR rfl rfl rfl (RO.pickF rfl rfl) <| rM rfl rfl rfl <| XL.no rfl rfl <| XL.no rfl rfl <| XL.no rfl rfl <| rR rfl rfl rfl (RO.pickF rfl rfl) <| rM rfl rfl rfl <| XL.no rfl rfl <| rR rfl rfl rfl (RO.pickF rfl rfl) <| rA rfl rfl rfl <| XL.nil ?_
      have e_ := Option.some.inj h1
      subst e_
      exact XQ.joinR false (stle (tR rfl tZ) (hR rfl (hR rfl (hR rfl (hR rfl (hR rfl (hR rfl hZ)))))) kZ rfl (Nat.zero_le _) rfl rfl rfl (bB rfl rfl (bB rfl rfl (bB rfl rfl (bB rfl rfl (bB rfl rfl (bB rfl rfl bZ)))))) rfl rfl) h0
    ·
     replace h1 := condF c9 h1
     refine XL.no rfl rfl <| XL.no rfl rfl <| XL.no rfl rfl <| rR rfl rfl rfl (RO.pickF rfl rfl) <| rM rfl rfl rfl <| XL.no rfl rfl <| XL.no rfl rfl <| XL.no rfl rfl <| rR rfl rfl rfl (RO.pickF rfl rfl) <| rM rfl rfl rfl <| XL.no rfl rfl <| XL.no rfl rfl <| XL.no rfl rfl <| rR rfl rfl rfl (RO.pickF rfl rfl) ?_
     refine rM rfl rfl rfl <| XL.no rfl rfl <| rR rfl rfl rfl (RO.pickF rfl rfl) <| rA rfl rfl rfl <| XL.nil ?_
     have e_ := Option.some.inj h1
     subst e_
     exact XQ.joinR false (stle (tR rfl tZ) (hR rfl (hR rfl (hR rfl (hR rfl (hR rfl (hR rfl hZ)))))) kZ rfl (Nat.zero_le _) rfl rfl rfl (bB rfl rfl (bB rfl rfl (bB rfl rfl (bB rfl rfl (bB rfl rfl (bB rfl rfl bZ)))))) rfl rfl) h0
   ·
    intro v7 h0
    refine XQ.seq <| XC.ret ?_
    have e_ := Option.some.inj h0
    subst e_
    exact XQ.retF (fun _ _ h => h) rfl (RAs.tmp rfl .nil) (.cons (.one (.d _)) .nil)
end Go.Proofs.YtcapifnaceegmaaGreatDoor
