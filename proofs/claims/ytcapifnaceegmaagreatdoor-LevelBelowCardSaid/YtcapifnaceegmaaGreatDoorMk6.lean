/- Mirrors of layer 1: the law of Leq by values. -/
import Derived.Test.YtcapifnaceegmaaGreatDoorMv
import Derived.Test.YtcapifnaceegmaaGreatDoorAw
namespace Go.Proofs.YtcapifnaceegmaaGreatDoor
open Go.RowKit Go.Shelf
set_option linter.unusedSimpArgs false
set_option linter.unusedVariables false

theorem z_3 : tyZero Tryz.prog 3 = some [.int .i64 0] := by kernel_rfl
theorem en_6 : Enters Tryz.prog 6 := enters_of Tryz.func6 (by kernel_rfl) rfl
def m6_l0 (a0 : Lvl) (a1 : Lvl) (s1 : Bool × Int) : Option (LO (Bool × Int) Bool) :=
  cond (decide (s1.2 < 8))
    (Option.bind (cond s1.1
    (Option.bind (m28 a0 ([(w64 (500 * (Int.tmod s1.2 2))), (w64 (500 * (Int.tmod (w64 (Int.tdiv s1.2 2)) 2))), (w64 (500 * (w64 (Int.tdiv s1.2 4))))])) fun (x7 : Int) =>
  Option.bind (m28 a1 ([(w64 (500 * (Int.tmod s1.2 2))), (w64 (500 * (Int.tmod (w64 (Int.tdiv s1.2 2)) 2))), (w64 (500 * (w64 (Int.tdiv s1.2 4))))])) fun (x8 : Int) =>
  some (decide (x7 ≤ x8)))
    (some false)) (fun (v5 : Bool) => some (.next (v5, (w64 (s1.2 + 1))))))
    (some (.done s1.1))

/-- euclid/euclidlaw01.LevelBelow -/
def m6 (a0 : Lvl) (a1 : Lvl) : Option Bool :=
  Option.bind (Option.bind (m13 ([a0, a1])) fun (x2 : Bool) =>
  cond (!x2)
    (some true)
    (Option.bind (m28 a0 ([0, 0, 0])) fun (x4 : Int) =>
  cond (decide (x4 < 0))
    (some true)
    (Option.bind (m28 a1 ([0, 0, 0])) fun (x6 : Int) =>
  some (decide (x6 < 0))))) (fun (v1 : Bool) => cond v1
    (some true)
    (Option.bind (loopN (m6_l0 a0 a1) FUEL (true, 0)) (fun (o3 : Bool) => Option.bind (guardO ((cond (Nat.ble a0.vs.length 100000) (Nat.ble a1.vs.length 100000) false))
  (cond ((leqB a0 a1) == o3)
    (some true)
    (some false))) (fun (v4 : Bool) => some v4))))

set_option maxRecDepth 100000 in
set_option maxHeartbeats 8000000 in
theorem m6_ok (a0 : Lvl) (a1 : Lvl) (r : Bool) (h0 : m6 a0 a1 = some r) : Fun Tryz.prog 6 [.agg (cE a0), .agg (cE a1)] (resOf [.one (dB r)]) := by
  unfold m6 at h0
  refine Fun.of_bodyM 9 59 Tryz.func6 rfl en_6 rfl (lb rfl) (fun S w => ?_)
  simp only [entry]
  refine XC.seq <| XC.region <| XL.put rfl rfl (lb rfl) (OpOK.box rfl) <| XL.put rfl rfl (lb rfl) (OpOK.box rfl) <| rA rfl rfl rfl <| XL.nil <| XQ.seq <| XC.seq <| XC.seq ?_
  refine XC.joinR (fun (v1 : Bool) => ⟨[(2, .v (.one (.ptr 0 0))), (3, .v (.one (.ptr 1 0))), (24, .v (.one (dB v1)))], [(0, .cells 24 (cE a0)), (1, .cells 24 (cE a1))], [], 2, 59, []⟩) (fun (v1 : Bool) => (cond v1
      (some true)
      (Option.bind (loopN (m6_l0 a0 a1) FUEL (true, 0)) (fun (o3 : Bool) => Option.bind (guardO ((cond (Nat.ble a0.vs.length 100000) (Nat.ble a1.vs.length 100000) false))
    (cond ((leqB a0 a1) == o3)
      (some true)
      (some false))) (fun (v4 : Bool) => some v4)))) = some r) ?_ ?_
  ·
   refine bindK h0 (fun v_ h1 h0 => ?_)
   refine XC.region <| rR rfl rfl rfl (RO.loadOwnAgg ag_24 rfl rfl rfl rfl) <| rR rfl rfl rfl (RO.loadOwnAgg ag_24 rfl rfl rfl rfl) <| XL.put rfl rfl (lb rfl) (OpOK.data2E (α := Lvl) a0 a1 sl_55 z_24 rfl rfl (lb rfl) rfl rfl rfl (.cons (.d _) (.cons (.d _) (.cons (.d _) (.cons (.d _) .nil)))) ⟨rfl, rfl⟩) ?_
   refine bindK h1 (fun x2 hx2 h1 => ?_)
   refine XL.put rfl rfl (lb rfl) (OpOK.callFun (m13_ok ([a0, a1]) x2 hx2) rfl (.cons (.one (.d _)) .nil)) <| rR rfl rfl rfl (RO.not rfl) <| rM rfl rfl rfl ?_
   refine XL.case (d := 13) (c := (!x2)) rfl (fun c3 => ?_) (fun c3 => ?_)
   ·
    replace h1 := condT c3 h1
    refine XL.no rfl rfl <| XL.no rfl rfl <| XL.no rfl rfl <| XL.no rfl rfl <| rR rfl rfl rfl (RO.pickT rfl rfl) <| rM rfl rfl rfl <| XL.no rfl rfl <| XL.no rfl rfl <| XL.no rfl rfl <| XL.no rfl rfl <| rR rfl rfl rfl (RO.pickT rfl rfl) <| XL.nil ?_
    have e_ := Option.some.inj h1
    subst e_
    exact XQ.joinR true (stle (tR rfl (tR rfl (tR rfl tZ))) (hR rfl (hR rfl hZ)) kZ rfl (Nat.zero_le _) rfl rfl rfl (bB rfl rfl (bB rfl rfl bZ)) rfl rfl) h0
   ·
    replace h1 := condF c3 h1
    refine rR rfl rfl rfl (RO.loadOwnAgg ag_24 rfl rfl rfl rfl) <| XL.put rfl rfl (lb rfl) (OpOK.data3E (α := Int) 0 0 0 sl_46 z_3 rfl rfl (lb rfl) rfl rfl rfl rfl (.cons (.d _) (.cons (.d _) (.cons (.d _) .nil))) ⟨rfl, rfl, rfl⟩) ?_
    refine bindK h1 (fun x4 hx4 h1 => ?_)
    refine XL.put rfl rfl (lb rfl) (OpOK.callFun (m28_ok a0 ([0, 0, 0]) x4 hx4) rfl (.cons (.agg (.cons (.d _) (.cons (.d _) .nil))) (.cons (.one (.d _)) .nil))) <| rR rfl rfl rfl (RO.binInt rfl rfl rfl) <| rR rfl rfl rfl (RO.pickF rfl rfl) <| rM rfl rfl rfl ?_
    refine XL.case (d := 19) (c := (decide (x4 < 0))) rfl (fun c5 => ?_) (fun c5 => ?_)
    ·
     replace h1 := condT c5 h1
     refine XL.no rfl rfl <| XL.no rfl rfl <| XL.no rfl rfl <| XL.no rfl rfl <| rR rfl rfl rfl (RO.pickT rfl rfl) <| XL.nil ?_
     have e_ := Option.some.inj h1
     subst e_
     exact XQ.joinR true (stle (tR rfl (tR rfl (tR rfl tZ))) (hR rfl (hR rfl hZ)) kZ rfl (Nat.zero_le _) rfl rfl rfl (bB rfl rfl (bB rfl rfl bZ)) rfl rfl) h0
    ·
     replace h1 := condF c5 h1
     refine rR rfl rfl rfl (RO.loadOwnAgg ag_24 rfl rfl rfl rfl) <| XL.put rfl rfl (lb rfl) (OpOK.data3E (α := Int) 0 0 0 sl_46 z_3 rfl rfl (lb rfl) rfl rfl rfl rfl (.cons (.d _) (.cons (.d _) (.cons (.d _) .nil))) ⟨rfl, rfl, rfl⟩) ?_
     refine bindK h1 (fun x6 hx6 h1 => ?_)
     refine XL.put rfl rfl (lb rfl) (OpOK.callFun (m28_ok a1 ([0, 0, 0]) x6 hx6) rfl (.cons (.agg (.cons (.d _) (.cons (.d _) .nil))) (.cons (.one (.d _)) .nil))) <| rR rfl rfl rfl (RO.binInt rfl rfl rfl) <| rR rfl rfl rfl (RO.pickF rfl rfl) <| XL.nil ?_
     have e_ := Option.some.inj h1
     subst e_
     exact XQ.joinR (decide (x6 < 0)) (stle (tR rfl (tR rfl (tR rfl tZ))) (hR rfl (hR rfl hZ)) kZ rfl (Nat.zero_le _) rfl rfl rfl (bB rfl rfl (bB rfl rfl bZ)) rfl rfl) h0
  ·
   intro v1 h0
   refine XQ.seq ?_
   refine XC.cond (b := v1) rfl (fun c7 => ?_) (fun c7 => ?_)
   ·
    replace h0 := condT c7 h0
    refine XC.seq <| XC.region <| XL.put rfl rfl (lb rfl) (OpOK.callFun (awake_fun) rfl .nil) <| rA rfl rfl rfl <| XL.nil <| XQ.seq <| XC.ret ?_
    have e_ := Option.some.inj h0
    subst e_
    exact XQ.retF (fun _ _ h => h) rfl (RAs.tmp rfl .nil) (.cons (.one (.d _)) .nil)
   ·
    replace h0 := condF c7 h0
    refine XC.skip <| XQ.seq <| XC.seq <| XC.region <| rA rfl rfl rfl <| XL.nil <| XQ.seq <| XC.seq <| XC.seq <| XC.region <| rM rfl rfl rfl <| XL.nil <| XQ.seq <| XC.block ?_
    refine XC.joinX 0 (fun (o8 : Bool) => ⟨[(2, .v (.one (.ptr 0 0))), (3, .v (.one (.ptr 1 0))), (5, .v (.one (dB o8)))], [(0, .cells 24 (cE a0)), (1, .cells 24 (cE a1))], [], 2, 59, []⟩) (fun (o8 : Bool) => (Option.bind (guardO ((cond (Nat.ble a0.vs.length 100000) (Nat.ble a1.vs.length 100000) false))
      (cond ((leqB a0 a1) == o8)
        (some true)
        (some false))) (fun (v9 : Bool) => some v9)) = some r) ?_ ?_
    ·
     refine bindK h0 (fun o9 hl1 h0 => ?_)
     refine XC.loopM (m6_l0 a0 a1) (fun s1 => ⟨[(2, .v (.one (.ptr 0 0))), (3, .v (.one (.ptr 1 0))), (5, .v (.one (dB s1.1))), (26, .v (.one (dI s1.2)))], [(0, .cells 24 (cE a0)), (1, .cells 24 (cE a1))], [], 2, 59, []⟩) (true, 0) o9 (stle (tR rfl (tR rfl (tR rfl (tR rfl tZ)))) (hR rfl (hR rfl hZ)) kZ rfl (Nat.zero_le _) rfl rfl rfl (bB rfl rfl (bB rfl rfl bZ)) rfl rfl) hl1 (fun s1 n1 oo1 h1 ho1 => ?_)
     unfold m6_l0 at h1
     refine XC.seq <| XC.region <| rR rfl rfl rfl (RO.binInt rfl rfl rfl) <| XL.nil <| XQ.seq <| XC.seq ?_
     refine XC.cond (b := (decide (s1.2 < 8))) rfl (fun c10 => ?_) (fun c10 => ?_)
     ·
      replace h1 := condT c10 h1
      refine XC.skip <| XQ.seq <| XC.seq <| XC.block <| XC.seq <| XC.region <| rM rfl rfl rfl <| rA rfl rfl rfl <| XL.nil <| XQ.seq <| XC.seq <| XC.region <| rM rfl rfl rfl <| rR rfl rfl rfl (RO.binInt rfl rfl rfl) ?_
      refine rR rfl rfl rfl (RO.binInt rfl rfl rfl) <| rM rfl rfl rfl <| rR rfl rfl rfl (RO.binInt rfl rfl rfl) <| rR rfl rfl rfl (RO.binInt rfl rfl rfl) <| rR rfl rfl rfl (RO.binInt rfl rfl rfl) <| rM rfl rfl rfl <| rR rfl rfl rfl (RO.binInt rfl rfl rfl) <| rR rfl rfl rfl (RO.binInt rfl rfl rfl) <| XL.put rfl rfl (lb rfl) (OpOK.data3E (α := Int) (w64 (500 * (Int.tmod s1.2 2))) (w64 (500 * (Int.tmod (w64 (Int.tdiv s1.2 2)) 2))) (w64 (500 * (w64 (Int.tdiv s1.2 4)))) sl_46 z_3 rfl rfl (lb rfl) rfl rfl rfl rfl (.cons (.d _) (.cons (.d _) (.cons (.d _) .nil))) ⟨rfl, rfl, rfl⟩) <| rA rfl rfl rfl <| XL.nil <| XQ.seq ?_
      refine XC.joinR (fun (v11 : Bool) => ⟨[(2, .v (.one (.ptr 0 0))), (3, .v (.one (.ptr 1 0))), (5, .v (.one (dB v11))), (26, .v (.one (dI s1.2)))], [(0, .cells 24 (cE a0)), (1, .cells 24 (cE a1))], [], 2, 59, []⟩) (fun (v11 : Bool) => (some (.next (v11, (w64 (s1.2 + 1))))) = some oo1) ?_ ?_
      ·
       refine bindK h1 (fun v_ h2 h1 => ?_)
       refine XC.anyRun [] [] mixed (by kernel_rfl) (by kernel_rfl) (by kernel_rfl) ?_
       refine RunA.rd rfl rfl rfl (OpOK.of_ro (RO.move rfl)) rfl ?_
       refine RunA.case (c := s1.1) rfl rfl rfl (OpOK.of_ro (RO.move rfl)) rfl (fun c12 => ?_) (fun c12 => ?_)
       ·
        replace h2 := condT c12 h2
        refine RunA.rd rfl rfl rfl (OpOK.of_ro (RO.loadOwnAgg ag_24 rfl rfl rfl rfl)) rfl <| RunA.rd rfl rfl rfl (OpOK.of_ro (RO.move rfl)) rfl ?_
        refine bindK h2 (fun x13 hx13 h2 => ?_)
        refine RunA.rd rfl rfl rfl (OpOK.callFun (m28_ok a0 ([(w64 (500 * (Int.tmod s1.2 2))), (w64 (500 * (Int.tmod (w64 (Int.tdiv s1.2 2)) 2))), (w64 (500 * (w64 (Int.tdiv s1.2 4))))]) x13 hx13) rfl (.cons (.agg (.cons (.d _) (.cons (.d _) .nil))) (.cons (.one (.d _)) .nil))) rfl <| RunA.rd rfl rfl rfl (OpOK.of_ro (RO.loadOwnAgg ag_24 rfl rfl rfl rfl)) rfl <| RunA.rd rfl rfl rfl (OpOK.of_ro (RO.move rfl)) rfl ?_
        refine bindK h2 (fun x14 hx14 h2 => ?_)
        refine RunA.rd rfl rfl rfl (OpOK.callFun (m28_ok a1 ([(w64 (500 * (Int.tmod s1.2 2))), (w64 (500 * (Int.tmod (w64 (Int.tdiv s1.2 2)) 2))), (w64 (500 * (w64 (Int.tdiv s1.2 4))))]) x14 hx14) rfl (.cons (.agg (.cons (.d _) (.cons (.d _) .nil))) (.cons (.one (.d _)) .nil))) rfl <| RunA.rd rfl rfl rfl (OpOK.of_ro (RO.binInt rfl rfl rfl)) rfl <| RunA.rd rfl rfl rfl (OpOK.of_ro (RO.pickT rfl rfl)) rfl <| RunA.rd rfl rfl rfl (OpOK.of_ro (RO.assign rfl)) rfl ?_
        refine RunA.nil ⟨?ex, _, _, rfl, ?_⟩
        case ex => exact trivial
        have e_ := Option.some.inj h2
        subst e_
        exact XQ.joinR (decide (x13 ≤ x14)) (stle (tR rfl (tR rfl (tR rfl (tR rfl tZ)))) (hR rfl (hR rfl hZ)) kZ rfl (Nat.zero_le _) rfl rfl rfl (bB rfl rfl (bB rfl rfl bZ)) rfl rfl) h1
       ·
        replace h2 := condF c12 h2
        refine RunA.no rfl rfl rfl rfl <| RunA.no rfl rfl rfl rfl <| RunA.no rfl rfl rfl rfl <| RunA.no rfl rfl rfl rfl <| RunA.no rfl rfl rfl rfl <| RunA.no rfl rfl rfl rfl <| RunA.no rfl rfl rfl rfl <| RunA.rd rfl rfl rfl (OpOK.of_ro (RO.pickF rfl rfl)) rfl <| RunA.rd rfl rfl rfl (OpOK.of_ro (RO.assign rfl)) rfl ?_
        refine RunA.nil ⟨?ex, _, _, rfl, ?_⟩
        case ex => exact trivial
        have e_ := Option.some.inj h2
        subst e_
        exact XQ.joinR false (stle (tR rfl (tR rfl (tR rfl (tR rfl tZ)))) (hR rfl (hR rfl hZ)) kZ rfl (Nat.zero_le _) rfl rfl rfl (bB rfl rfl (bB rfl rfl bZ)) rfl rfl) h1
      ·
       intro v11 h1
       refine XQ.inBlock <| XQ.seq <| XC.region <| rR rfl rfl rfl (RO.binInt rfl rfl rfl) <| rM rfl rfl rfl <| XL.nil ?_
       have e_ := Option.some.inj h1
       subst e_
       refine XQ.nextM (v11, (w64 (s1.2 + 1))) (stle (tR rfl (tR rfl (tR rfl (tR rfl tZ)))) (hR rfl (hR rfl hZ)) kZ rfl (Nat.zero_le _) rfl rfl rfl (bB rfl rfl (bB rfl rfl bZ)) rfl rfl) ho1
     ·
      replace h1 := condF c10 h1
      refine XC.exit <| XQ.thenE <| XQ.thenE ?_
      have e_ := Option.some.inj h1
      subst e_
      have e_ : _ = _ := ho1
      subst e_
      exact XQ.joinX s1.1 (stle (tR rfl (tR rfl (tR rfl tZ))) (hR rfl (hR rfl hZ)) kZ rfl (Nat.zero_le _) rfl rfl rfl (bB rfl rfl (bB rfl rfl bZ)) rfl rfl) h0
    ·
     intro o8 h0
     refine XQ.blockX <| XQ.seq <| XC.seq ?_
     refine XC.joinR (fun (v15 : Bool) => ⟨[(4, .v (.one (dB v15)))], [(0, .cells 24 (cE a0)), (1, .cells 24 (cE a1))], [], 2, 59, []⟩) (fun (v15 : Bool) => (some v15) = some r) ?_ ?_
     ·
      refine bindK h0 (fun v_ h1 h0 => ?_)
      refine XC.region <| rR rfl rfl rfl (RO.loadOwnAgg ag_24 rfl rfl rfl rfl) <| rR rfl rfl rfl (RO.loadOwnAgg ag_24 rfl rfl rfl rfl) ?_
      refine guardK h1 (fun g16 h1 => ?_)
      refine XL.put rfl rfl (lb rfl) (OpOK.callFun (leq_fun a0 a1 (Nat.le_of_ble_eq_true (cond_left g16)) (Nat.le_of_ble_eq_true (cond_right g16))) rfl (.cons (.agg (.cons (.d _) (.cons (.d _) .nil))) (.cons (.agg (.cons (.d _) (.cons (.d _) .nil))) .nil))) ?_
      refine rM rfl rfl rfl <| rR rfl rfl rfl (RO.eqBool ib_4 rfl rfl) <| rM rfl rfl rfl ?_
      refine XL.case (d := 56) (c := ((leqB a0 a1) == o8)) rfl (fun c17 => ?_) (fun c17 => ?_)
      ·
       replace h1 := condT c17 h1
       refine XL.put rfl rfl (lb rfl) (OpOK.callFun (awake_fun) rfl .nil) <| rR rfl rfl rfl (RO.pickT rfl rfl) <| rA rfl rfl rfl <| XL.nil ?_
       have e_ := Option.some.inj h1
       subst e_
       exact XQ.joinR true (stle (tR rfl tZ) (hR rfl (hR rfl hZ)) kZ rfl (Nat.zero_le _) rfl rfl rfl (bB rfl rfl (bB rfl rfl bZ)) rfl rfl) h0
      ·
       replace h1 := condF c17 h1
       refine XL.no rfl rfl <| rR rfl rfl rfl (RO.pickF rfl rfl) <| rA rfl rfl rfl <| XL.nil ?_
       have e_ := Option.some.inj h1
       subst e_
       exact XQ.joinR false (stle (tR rfl tZ) (hR rfl (hR rfl hZ)) kZ rfl (Nat.zero_le _) rfl rfl rfl (bB rfl rfl (bB rfl rfl bZ)) rfl rfl) h0
     ·
      intro v15 h0
      refine XQ.seq <| XC.ret ?_
      have e_ := Option.some.inj h0
      subst e_
      exact XQ.retF (fun _ _ h => h) rfl (RAs.tmp rfl .nil) (.cons (.one (.d _)) .nil)
end Go.Proofs.YtcapifnaceegmaaGreatDoor
