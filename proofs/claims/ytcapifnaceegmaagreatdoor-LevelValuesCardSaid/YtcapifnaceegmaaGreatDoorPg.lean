/- Mirrors of layer 1: Assign. Plain laws of layer 1: Assign. Plain laws: the theory of Assign once more, for parameters: Subst (made by renaming). -/
import Derived.Test.YtcapifnaceegmaaGreatDoorMa
import Derived.Test.YtcapifnaceegmaaGreatDoorKy
import Derived.Test.YtcapifnaceegmaaGreatDoorPb
import Derived.Test.YtcapifnaceegmaaGreatDoorPa
namespace Go.Proofs.YtcapifnaceegmaaGreatDoor
section
open Go.RowKit Go.Shelf
set_option linter.unusedSimpArgs false
set_option linter.unusedVariables false

theorem fo_100_0 : fieldOff Tryz.prog 100 0 = some 0 := by kernel_rfl
theorem fo_100_1 : fieldOff Tryz.prog 100 1 = some 1 := by kernel_rfl
theorem ag_98 : tyAgg Tryz.prog 98 = some (false, 1) := by kernel_rfl
theorem bd_100 : IsStruct Tryz.prog 100 [(0, 1), (1, 1)] [.map none, .int .i64 0] := ⟨by kernel_rfl, by kernel_rfl⟩
theorem mp_98 : tyMap Tryz.prog 98 = some (true, .one (.d (.v (.int .i64 0)))) := by kernel_rfl
theorem en_36 : Enters Tryz.prog 36 := enters_of Tryz.func36 (by kernel_rfl) rfl
theorem en_52 : Enters Tryz.prog 52 := enters_of Tryz.func52 (by kernel_rfl) rfl
theorem en_56 : Enters Tryz.prog 56 := enters_of Tryz.func56 (by kernel_rfl) rfl
theorem en_70 : Enters Tryz.prog 70 := enters_of Tryz.func70 (by kernel_rfl) rfl
theorem en_71 : Enters Tryz.prog 71 := enters_of Tryz.func71 (by kernel_rfl) rfl
theorem en_83 : Enters Tryz.prog 83 := enters_of Tryz.func83 (by kernel_rfl) rfl
def m36_l0 (x10 : Lvl) (x7 : LV) (s3 : Int × IMap) : Option (LO (Int × IMap) IMap) :=
  cond (decide (s3.1 < (x10.vs.length : Int)))
    (Option.bind (idx x10.vs s3.1) fun (x15 : LV) =>
  Option.bind (Option.bind (cond (!(imHas s3.2 x15.1))
    (some true)
    (some (decide ((imVal s3.2 x15.1) < (w64 (x15.2 + x7.2)))))) (fun (v18 : Bool) => cond v18
    (some (imSet s3.2 x15.1 (w64 (x15.2 + x7.2))))
    (some s3.2))) (fun (y16 : IMap) => some (.next ((w64 (s3.1 + 1)), y16))))
    (some (.done s3.2))

def m36_l1 (a0 : Lvl) (a1 : List Lvl) (s1 : Int × IMap × Int) : Option (LO (Int × IMap × Int) ((IMap × Int))) :=
  cond (decide (s1.1 < (a0.vs.length : Int)))
    (Option.bind (idx a0.vs s1.1) fun (x7 : LV) =>
  Option.bind (cond (decide (0 ≤ (w64 ((-1) - x7.1))))
    (some (decide ((w64 ((-1) - x7.1)) < (a1.length : Int))))
    (some false)) (fun (v8 : Bool) => cond v8
    (Option.bind (idx a1 (w64 ((-1) - x7.1))) fun (x10 : Lvl) =>
  Option.bind (Option.bind (loopN (m36_l0 x10 x7) FUEL (0, s1.2.1)) (fun (o13 : IMap) => some o13)) (fun (y11 : IMap) => some (.next ((w64 (s1.1 + 1)), y11, (max s1.2.2 (w64 (x10.c + x7.2)))))))
    (Option.bind (Option.bind (cond (!(imHas s1.2.1 x7.1))
    (some true)
    (some (decide ((imVal s1.2.1 x7.1) < x7.2)))) (fun (v24 : Bool) => cond v24
    (some (imSet s1.2.1 x7.1 x7.2))
    (some s1.2.1))) (fun (y22 : IMap) => some (.next ((w64 (s1.1 + 1)), y22, s1.2.2))))))
    (some (.done (s1.2.1, s1.2.2)))

def m36_l2 (o5 : IMap × Int) (s2 : Int × (List LV)) : Option (LO (Int × (List LV)) (((List LV)))) :=
  cond (decide (s2.1 < ((imKeys o5.1).length : Int)))
    (Option.bind (idx (imKeys o5.1) s2.1) fun (x13 : Int) =>
  guardO (Nat.ble (s2.2.length + ([(x13, (imVal o5.1 x13))]).length) 1000000000)
  (some (.next ((w64 (s2.1 + 1)), (s2.2 ++ ([(x13, (imVal o5.1 x13))]))))))
    (some (.done s2.2))

/-- euclid/level.Assign -/
def m36 (a0 : Lvl) (a1 : List Lvl) : Option (Lvl × Int) :=
  Option.bind (guardO (Nat.ble a0.vs.length 100000)
  (cond (!(validB a0))
    (some true)
    (guardO (lensB a1)
  (some (!(a1.all validB)))))) (fun (v1 : Bool) => cond v1
    (some ((⟨0, ([] : List LV)⟩ : Lvl), 3))
    (Option.bind (some ()) (fun (y3 : Unit) => Option.bind (loopN (m36_l1 a0 a1) FUEL (0, imNil, a0.c)) (fun (o5 : IMap × Int) => Option.bind (Option.bind (some ()) (fun (y8 : Unit) => guardO (imOk o5.1)
  (Option.bind (loopN (m36_l2 o5) FUEL (0, ([] : List LV))) (fun (o11 : (List LV)) => guardO (Nat.ble (⟨o5.2, o11⟩ : Lvl).vs.length 100000)
  (some ((limL (⟨o5.2, o11⟩ : Lvl)).2, ((limL (⟨o5.2, o11⟩ : Lvl)).1).c, ((limL (⟨o5.2, o11⟩ : Lvl)).1).vs)))))) (fun (y6 : Int × Int × (List LV)) => some ((⟨y6.2.1, y6.2.2⟩ : Lvl), y6.1))))))

set_option maxRecDepth 100000 in
set_option maxHeartbeats 8000000 in
theorem m36_ok (a0 : Lvl) (a1 : List Lvl) (r : Lvl × Int) (h0 : m36 a0 a1 = some r) : Fun Tryz.prog 36 [.agg (cE a0), .one (dS a1)] (resOf [.agg (cE r.1), .one (dI r.2)]) := by
  unfold m36 at h0
  refine Fun.of_bodyM 9 65 Tryz.func36 rfl en_36 rfl (lb rfl) (fun S w => ?_)
  simp only [entry]
  refine XC.seq <| XC.region <| XL.put rfl rfl (lb rfl) (OpOK.box rfl) <| XL.put rfl rfl (lb rfl) (OpOK.alloc z_24 rfl) <| rA rfl rfl rfl <| XL.nil <| XQ.seq <| XC.seq <| XC.seq ?_
  refine XC.joinR (fun (v1 : Bool) => ⟨[(1, .v (.one (dS a1))), (2, .v (.one (.ptr 0 0))), (4, .v (.one (.ptr 1 0))), (17, .v (.one (dB v1)))], [(0, .cells 24 (cE a0)), (1, .cells 24 [dI 0, dN])], [], 2, 65, []⟩) (fun (v1 : Bool) => (cond v1
      (some ((⟨0, ([] : List LV)⟩ : Lvl), 3))
      (Option.bind (some ()) (fun (y3 : Unit) => Option.bind (loopN (m36_l1 a0 a1) FUEL (0, imNil, a0.c)) (fun (o5 : IMap × Int) => Option.bind (Option.bind (some ()) (fun (y8 : Unit) => guardO (imOk o5.1)
    (Option.bind (loopN (m36_l2 o5) FUEL (0, ([] : List LV))) (fun (o11 : (List LV)) => guardO (Nat.ble (⟨o5.2, o11⟩ : Lvl).vs.length 100000)
    (some ((limL (⟨o5.2, o11⟩ : Lvl)).2, ((limL (⟨o5.2, o11⟩ : Lvl)).1).c, ((limL (⟨o5.2, o11⟩ : Lvl)).1).vs)))))) (fun (y6 : Int × Int × (List LV)) => some ((⟨y6.2.1, y6.2.2⟩ : Lvl), y6.1)))))) = some r) ?_ ?_
  ·
   refine bindK h0 (fun v_ h1 h0 => ?_)
   refine XC.region <| rR rfl rfl rfl (RO.loadOwnAgg ag_24 rfl rfl rfl rfl) ?_
   refine guardK h1 (fun g2 h1 => ?_)
   refine XL.put rfl rfl (lb rfl) (OpOK.callFun (valid_fun a0 (Nat.le_of_ble_eq_true g2)) rfl (.cons (.agg (.cons (.d _) (.cons (.d _) .nil))) .nil)) ?_
   refine rR rfl rfl rfl (RO.not rfl) <| rM rfl rfl rfl ?_
   refine XL.case (d := 13) (c := (!(validB a0))) rfl (fun c3 => ?_) (fun c3 => ?_)
   ·
    replace h1 := condT c3 h1
    refine XL.no rfl rfl <| XL.no rfl rfl <| XL.no rfl rfl <| rR rfl rfl rfl (RO.pickT rfl rfl) <| XL.nil ?_
    have e_ := Option.some.inj h1
    subst e_
    exact XQ.joinR true (stle (tR rfl (tR rfl (tR rfl (tR rfl tZ)))) (hR rfl (hR rfl hZ)) kZ rfl (Nat.zero_le _) rfl rfl rfl (bB rfl rfl (bB rfl rfl bZ)) rfl rfl) h0
   ·
    replace h1 := condF c3 h1
    refine rM rfl rfl rfl ?_
    refine guardK h1 (fun g4 h1 => ?_)
    refine XL.put rfl rfl (lb rfl) (OpOK.callFun (allValidF a1 g4) rfl (.cons (.one (.d _)) .nil)) <| rR rfl rfl rfl (RO.not rfl) <| rR rfl rfl rfl (RO.pickF rfl rfl) <| XL.nil ?_
    have e_ := Option.some.inj h1
    subst e_
    exact XQ.joinR (!(a1.all validB)) (stle (tR rfl (tR rfl (tR rfl (tR rfl tZ)))) (hR rfl (hR rfl hZ)) kZ rfl (Nat.zero_le _) rfl rfl rfl (bB rfl rfl (bB rfl rfl bZ)) rfl rfl) h0
  ·
   intro v1 h0
   refine XQ.seq ?_
   refine XC.cond (b := v1) rfl (fun c5 => ?_) (fun c5 => ?_)
   ·
    replace h0 := condT c5 h0
    refine XC.seq <| XC.region <| rR rfl rfl rfl (RO.build0 bd_24 rfl ) <| XL.eff rfl rfl (OpOK.store ag_24 rfl rfl rfl rfl (lb rfl) rfl) <| rA rfl rfl rfl <| XL.nil <| XQ.seq <| XC.ret ?_
    have e_ := Option.some.inj h0
    subst e_
    exact XQ.retF (fun _ _ h => h) rfl (RAs.agg ag_24 rfl rfl rfl rfl (RAs.tmp rfl .nil)) (.cons (.agg (.cons (.d _) (.cons (.nil _) .nil))) (.cons (.one (.d _)) .nil))
   ·
    replace h0 := condF c5 h0
    refine XC.skip <| XQ.seq <| XC.seq <| XC.region ?_
    refine bindK h0 (fun y6 h1 h0 => ?_)
    have hc7 : CallM Tryz.prog 52 [] ⟨[(0, .cells 24 (cE a0)), (1, .cells 24 [dI 0, dN])], [], 2⟩ (resOf [.one (.ptr 3 0)]) ⟨[(0, .cells 24 (cE a0)), (1, .cells 24 [dI 0, dN]), (2, .mp (imE imNil.1) imNil.2), (3, .cells 100 [.mp 2, dI 0])], [], 4⟩ := by
     refine CallM.of_bodyD ⟨[(0, .v (.one (.ptr 3 0)))], [(0, .cells 24 (cE a0)), (1, .cells 24 [dI 0, dN]), (2, .mp (imE imNil.1) imNil.2), (3, .cells 100 [.mp 2, dI 0])], [], 4, 4, []⟩ rfl rfl en_52 (lb rfl) rfl (RAs.tmp rfl .nil) (fun w0 M V0 Q hv1 hQ1 => ?_)
     simp only [entry]
     refine XC.seq <| XC.region <| rA rfl rfl rfl <| XL.nil <| XQ.seq <| XC.seq <| XC.region <| XL.put rfl rfl (lb rfl) (OpOK.makeMapI) <| rR rfl rfl rfl (RO.build1 bd_100 rfl rfl rfl) <| XL.put rfl rfl (lb rfl) (OpOK.box rfl) <| rA rfl rfl rfl <| XL.nil <| XQ.seq <| XC.ret ?_
     have e_ := Option.some.inj h1
     subst e_
     exact hQ1 _ _ _ (.inr rfl) rfl (stle (tR rfl tZ) (hR rfl (hR rfl (hR rfl (hR rfl hZ)))) kZ rfl (Nat.le_trans hv1 (lb rfl)) rfl rfl rfl (bB rfl rfl (bB rfl rfl (bM rfl (bB rfl rfl bZ)))) rfl rfl)
    refine XL.put rfl rfl (lb rfl) (OpOK.callW rfl rfl rfl hc7 rfl (hR rfl (hR rfl hZ)) kZ) <| rA rfl rfl rfl <| XL.nil <| XQ.seq <| XC.seq <| XC.region <| rM rfl rfl rfl <| rR rfl rfl rfl (RO.fieldOwn fo_24_0 rfl) <| rR rfl rfl rfl (RO.loadOwn ag_3 rfl rfl rfl) <| rR rfl rfl rfl (RO.nilCheckPtr rfl) <| rR rfl rfl rfl (RO.fieldOwn fo_100_1 rfl) <| XL.eff rfl rfl (OpOK.store ag_3 rfl rfl rfl rfl (lb rfl) rfl) <| XL.nil <| XQ.seq ?_
    refine XC.seq <| XC.seq <| XC.region <| rR rfl rfl rfl (RO.fieldOwn fo_24_1 rfl) <| rR rfl rfl rfl (RO.loadOwn ag_22 rfl rfl rfl) <| rR rfl rfl rfl (RO.lenE (α := LV) sl_22 rfl (.d _)) <| rM rfl rfl rfl <| XL.nil <| XQ.seq <| XC.block ?_
    refine XC.joinX 0 (fun (o8 : IMap × Int) => ⟨[(4, .v (.one (.ptr 1 0))), (6, .v (.one (.ptr 3 0)))], [(0, .cells 24 (cE a0)), (1, .cells 24 [dI 0, dN]), (2, .mp (imE o8.1.1) o8.1.2), (3, .cells 100 [.mp 2, dI o8.2])], [], 4, 65, []⟩) (fun (o8 : IMap × Int) => (Option.bind (Option.bind (some ()) (fun (y11 : Unit) => guardO (imOk o8.1)
      (Option.bind (loopN (m36_l2 o8) FUEL (0, ([] : List LV))) (fun (o14 : (List LV)) => guardO (Nat.ble (⟨o8.2, o14⟩ : Lvl).vs.length 100000)
      (some ((limL (⟨o8.2, o14⟩ : Lvl)).2, ((limL (⟨o8.2, o14⟩ : Lvl)).1).c, ((limL (⟨o8.2, o14⟩ : Lvl)).1).vs)))))) (fun (y9 : Int × Int × (List LV)) => some ((⟨y9.2.1, y9.2.2⟩ : Lvl), y9.1))) = some r) ?_ ?_
    ·
     refine bindK h0 (fun o9 hl1 h0 => ?_)
     refine XC.loopM (m36_l1 a0 a1) (fun s1 => ⟨[(1, .v (.one (dS a1))), (4, .v (.one (.ptr 1 0))), (6, .v (.one (.ptr 3 0))), (26, .v (.one (dS a0.vs))), (27, .v (.one (dI (a0.vs.length : Int)))), (28, .v (.one (dI s1.1)))], [(0, .cells 24 (cE a0)), (1, .cells 24 [dI 0, dN]), (2, .mp (imE s1.2.1.1) s1.2.1.2), (3, .cells 100 [.mp 2, dI s1.2.2])], [], 4, 65, []⟩) (0, imNil, a0.c) o9 (stle (tR rfl (tR rfl (tR rfl (tR rfl (tR rfl (tR rfl tZ)))))) (hR rfl (hR rfl (hR rfl (hR rfl hZ)))) kZ rfl (Nat.zero_le _) rfl rfl rfl (bB rfl rfl (bB rfl rfl (bM rfl (bB rfl rfl bZ)))) rfl rfl) hl1 (fun s1 n1 oo1 h1 ho1 => ?_)
     unfold m36_l1 at h1
     refine XC.seq <| XC.region <| rR rfl rfl rfl (RO.binInt rfl rfl rfl) <| XL.nil <| XQ.seq <| XC.seq ?_
     refine XC.cond (b := (decide (s1.1 < (a0.vs.length : Int)))) rfl (fun c10 => ?_) (fun c10 => ?_)
     ·
      replace h1 := condT c10 h1
      refine XC.skip <| XQ.seq <| XC.seq <| XC.block <| XC.seq <| XC.region ?_
      refine bindK h1 (fun x11 hx11 h1 => ?_)
      refine rR rfl rfl rfl (RO.indexE (α := LV) sl_22 rfl (.d _) rfl hx11) <| rR rfl rfl rfl (RO.loadPelAgg ag_69 rfl rfl rfl) <| XL.put rfl rfl (lb rfl) (OpOK.alloc z_69 rfl) <| XL.eff rfl rfl (OpOK.store ag_69 rfl rfl rfl rfl (lb rfl) rfl) <| XL.nil <| XQ.seq <| XC.seq <| XC.region <| rR rfl rfl rfl (RO.fieldOwn fo_69_0 rfl) <| rR rfl rfl rfl (RO.loadOwn ag_3 rfl rfl rfl) <| rR rfl rfl rfl (RO.binInt rfl rfl rfl) <| rA rfl rfl rfl <| XL.nil <| XQ.seq ?_
      refine XC.seq ?_
      refine XC.joinR (fun (v12 : Bool) => ⟨[(1, .v (.one (dS a1))), (4, .v (.one (.ptr 1 0))), (6, .v (.one (.ptr 3 0))), (8, .v (.one (.ptr 4 0))), (9, .v (.one (dI (w64 ((-1) - x11.1))))), (26, .v (.one (dS a0.vs))), (27, .v (.one (dI (a0.vs.length : Int)))), (28, .v (.one (dI s1.1))), (42, .v (.one (dB v12)))], [(0, .cells 24 (cE a0)), (1, .cells 24 [dI 0, dN]), (2, .mp (imE s1.2.1.1) s1.2.1.2), (3, .cells 100 [.mp 2, dI s1.2.2]), (4, .cells 69 (cE x11))], [], 5, 65, []⟩) (fun (v12 : Bool) => (cond v12
          (Option.bind (idx a1 (w64 ((-1) - x11.1))) fun (x14 : Lvl) =>
        Option.bind (Option.bind (loopN (m36_l0 x14 x11) FUEL (0, s1.2.1)) (fun (o17 : IMap) => some o17)) (fun (y15 : IMap) => some (.next ((w64 (s1.1 + 1)), y15, (max s1.2.2 (w64 (x14.c + x11.2)))))))
          (Option.bind (Option.bind (cond (!(imHas s1.2.1 x11.1))
          (some true)
          (some (decide ((imVal s1.2.1 x11.1) < x11.2)))) (fun (v28 : Bool) => cond v28
          (some (imSet s1.2.1 x11.1 x11.2))
          (some s1.2.1))) (fun (y26 : IMap) => some (.next ((w64 (s1.1 + 1)), y26, s1.2.2))))) = some oo1) ?_ ?_
      ·
       refine bindK h1 (fun v_ h2 h1 => ?_)
       refine XC.region <| rM rfl rfl rfl <| rR rfl rfl rfl (RO.binInt rfl rfl rfl) <| rM rfl rfl rfl ?_
       refine XL.case (d := 37) (c := (decide (0 ≤ (w64 ((-1) - x11.1))))) rfl (fun c13 => ?_) (fun c13 => ?_)
       ·
        replace h2 := condT c13 h2
        refine rM rfl rfl rfl <| rM rfl rfl rfl <| rR rfl rfl rfl (RO.lenE (α := Lvl) sl_55 rfl (.d _)) <| rR rfl rfl rfl (RO.binInt rfl rfl rfl) <| rR rfl rfl rfl (RO.pickT rfl rfl) <| XL.nil ?_
        have e_ := Option.some.inj h2
        subst e_
        exact XQ.joinR (decide ((w64 ((-1) - x11.1)) < (a1.length : Int))) (stle (tR rfl (tR rfl (tR rfl (tR rfl (tR rfl (tR rfl (tR rfl (tR rfl (tR rfl tZ))))))))) (hR rfl (hR rfl (hR rfl (hR rfl (hR rfl hZ))))) kZ rfl (Nat.zero_le _) rfl rfl rfl (bB rfl rfl (bB rfl rfl (bM rfl (bB rfl rfl (bB rfl rfl bZ))))) rfl rfl) h1
       ·
        replace h2 := condF c13 h2
        refine XL.no rfl rfl <| XL.no rfl rfl <| XL.no rfl rfl <| XL.no rfl rfl <| rR rfl rfl rfl (RO.pickF rfl rfl) <| XL.nil ?_
        have e_ := Option.some.inj h2
        subst e_
        exact XQ.joinR false (stle (tR rfl (tR rfl (tR rfl (tR rfl (tR rfl (tR rfl (tR rfl (tR rfl (tR rfl tZ))))))))) (hR rfl (hR rfl (hR rfl (hR rfl (hR rfl hZ))))) kZ rfl (Nat.zero_le _) rfl rfl rfl (bB rfl rfl (bB rfl rfl (bM rfl (bB rfl rfl (bB rfl rfl bZ))))) rfl rfl) h1
      ·
       intro v12 h1
       refine XQ.seq ?_
       refine XC.cond (b := v12) rfl (fun c14 => ?_) (fun c14 => ?_)
       ·
        replace h1 := condT c14 h1
        refine XC.anyRun [7] [] mixed (by kernel_rfl) (by kernel_rfl) (by kernel_rfl) ?_
        refine RunA.rd rfl rfl rfl (OpOK.of_ro (RO.move rfl)) rfl <| RunA.rd rfl rfl rfl (OpOK.of_ro (RO.move rfl)) rfl <| RunA.rd rfl rfl rfl (OpOK.of_ro (RO.move rfl)) rfl ?_
        refine bindK h1 (fun x15 hx15 h1 => ?_)
        refine RunA.rd rfl rfl rfl (OpOK.of_ro (RO.indexE (α := Lvl) sl_55 rfl (.d _) rfl hx15)) rfl <| RunA.rd rfl rfl rfl (OpOK.of_ro (RO.loadPelAgg ag_24 rfl rfl rfl)) rfl <| RunA.rd rfl rfl rfl (OpOK.of_ro (RO.fieldOwn fo_69_1 rfl)) rfl <| RunA.rd rfl rfl rfl (OpOK.of_ro (RO.loadOwn ag_3 rfl rfl rfl)) rfl ?_
        refine bindK h1 (fun y16 h2 h1 => ?_)
        have hc17 : CallM Tryz.prog 71 [.one (.ptr 3 0), .agg (cE x15), .one (dI x11.2)] ⟨[(0, .cells 24 (cE a0)), (1, .cells 24 [dI 0, dN]), (2, .mp (imE s1.2.1.1) s1.2.1.2), (3, .cells 100 [.mp 2, dI s1.2.2]), (4, .cells 69 (cE x11))], [], 5⟩ (resOf []) ⟨[(0, .cells 24 (cE a0)), (1, .cells 24 [dI 0, dN]), (2, .mp (imE y16.1) y16.2), (3, .cells 100 [.mp 2, dI (max s1.2.2 (w64 (x15.c + x11.2)))]), (4, .cells 69 (cE x11))], [], 6⟩ := by
         refine CallM.of_bodyD ⟨[], [(0, .cells 24 (cE a0)), (1, .cells 24 [dI 0, dN]), (2, .mp (imE y16.1) y16.2), (3, .cells 100 [.mp 2, dI (max s1.2.2 (w64 (x15.c + x11.2)))]), (4, .cells 69 (cE x11))], [], 6, 39, []⟩ rfl rfl en_71 (lb rfl) rfl .nil (fun w0 M V0 Q hv2 hQ2 => ?_)
         simp only [entry]
         refine XC.seq <| XC.region <| XL.put rfl rfl (lb rfl) (OpOK.box rfl) <| XL.nil <| XQ.seq <| XC.seq ?_
         refine XC.anyRun [12] [] mixed (by kernel_rfl) (by kernel_rfl) (by kernel_rfl) ?_
         refine RunA.rd rfl rfl rfl (OpOK.of_ro (RO.move rfl)) rfl <| RunA.rd rfl rfl rfl (OpOK.of_ro (RO.move rfl)) rfl <| RunA.rd rfl rfl rfl (OpOK.of_ro (RO.nilCheckPtr rfl)) rfl <| RunA.rd rfl rfl rfl (OpOK.of_ro (RO.fieldOwn fo_100_1 rfl)) rfl <| RunA.rd rfl rfl rfl (OpOK.of_ro (RO.loadOwn ag_3 rfl rfl rfl)) rfl <| RunA.rd rfl rfl rfl (OpOK.of_ro (RO.fieldOwn fo_24_0 rfl)) rfl <| RunA.rd rfl rfl rfl (OpOK.of_ro (RO.loadOwn ag_3 rfl rfl rfl)) rfl <| RunA.rd rfl rfl rfl (OpOK.of_ro (RO.move rfl)) rfl <| RunA.rd rfl rfl rfl (OpOK.of_ro (RO.binInt rfl rfl rfl)) rfl <| RunA.rd rfl rfl rfl (OpOK.of_ro (RO.max2 rfl rfl)) rfl <| RunA.rd rfl rfl rfl (OpOK.of_ro (RO.nilCheckPtr rfl)) rfl <| RunA.rd rfl rfl rfl (OpOK.of_ro (RO.fieldOwn fo_100_1 rfl)) rfl <| RunA.eff rfl rfl rfl (OpOK.store ag_3 rfl rfl rfl rfl (lb rfl) rfl) rfl ?_
         refine RunA.nil ⟨?ex, _, _, rfl, ?_⟩
         case ex => exact trivial
         refine XQ.less (st' := ⟨[(0, .v (.one (.ptr 3 0))), (2, .v (.one (dI x11.2))), (4, .v (.one (.ptr 5 0)))], [(0, .cells 24 (cE a0)), (1, .cells 24 [dI 0, dN]), (2, .mp (imE s1.2.1.1) s1.2.1.2), (3, .cells 100 [.mp 2, dI (max s1.2.2 (w64 (x15.c + x11.2)))]), (4, .cells 69 (cE x11)), (5, .cells 24 (cE x15))], [], 6, 39, []⟩) (stle (tR rfl (tR rfl (tR rfl tZ))) (hR rfl (hR rfl (hR rfl (hR rfl (hR rfl (hR rfl hZ)))))) kZ rfl (Nat.le_trans hv2 (lb rfl)) rfl rfl rfl (bB rfl rfl (bB rfl rfl (bM rfl (bB rfl rfl (bB rfl rfl (bB rfl rfl bZ)))))) rfl rfl) <| XQ.seq <| XC.seq <| XC.region <| rR rfl rfl rfl (RO.fieldOwn fo_24_1 rfl) <| rR rfl rfl rfl (RO.loadOwn ag_22 rfl rfl rfl) <| rR rfl rfl rfl (RO.lenE (α := LV) sl_22 rfl (.d _)) <| rM rfl rfl rfl <| XL.nil <| XQ.seq <| XC.block ?_
         refine XC.joinX 0 (fun (o18 : IMap) => ⟨[], [(0, .cells 24 (cE a0)), (1, .cells 24 [dI 0, dN]), (2, .mp (imE o18.1) o18.2), (3, .cells 100 [.mp 2, dI (max s1.2.2 (w64 (x15.c + x11.2)))]), (4, .cells 69 (cE x11)), (5, .cells 24 (cE x15))], [], 6, 39, []⟩) (fun (o18 : IMap) => (some o18) = some y16) ?_ ?_
         ·
          refine bindK h2 (fun o19 hl3 h2 => ?_)
          refine XC.loopM (m36_l0 x15 x11) (fun s3 => ⟨[(0, .v (.one (.ptr 3 0))), (2, .v (.one (dI x11.2))), (21, .v (.one (dS x15.vs))), (22, .v (.one (dI (x15.vs.length : Int)))), (23, .v (.one (dI s3.1)))], [(0, .cells 24 (cE a0)), (1, .cells 24 [dI 0, dN]), (2, .mp (imE s3.2.1) s3.2.2), (3, .cells 100 [.mp 2, dI (max s1.2.2 (w64 (x15.c + x11.2)))]), (4, .cells 69 (cE x11)), (5, .cells 24 (cE x15))], [], 6, 39, []⟩) (0, s1.2.1) o19 (stle (tR rfl (tR rfl (tR rfl (tR rfl (tR rfl tZ))))) (hR rfl (hR rfl (hR rfl (hR rfl (hR rfl (hR rfl hZ)))))) kZ rfl (Nat.le_trans hv2 (lb rfl)) rfl rfl rfl (bB rfl rfl (bB rfl rfl (bM rfl (bB rfl rfl (bB rfl rfl (bB rfl rfl bZ)))))) rfl rfl) hl3 (fun s3 n3 oo3 h3 ho3 => ?_)
          unfold m36_l0 at h3
          refine XC.seq <| XC.region <| rR rfl rfl rfl (RO.binInt rfl rfl rfl) <| XL.nil <| XQ.seq <| XC.seq ?_
          refine XC.cond (b := (decide (s3.1 < (x15.vs.length : Int)))) rfl (fun c20 => ?_) (fun c20 => ?_)
          ·
           replace h3 := condT c20 h3
           refine XC.skip <| XQ.seq <| XC.seq <| XC.block <| XC.seq <| XC.region ?_
           refine bindK h3 (fun x21 hx21 h3 => ?_)
           refine rR rfl rfl rfl (RO.indexE (α := LV) sl_22 rfl (.d _) rfl hx21) <| rR rfl rfl rfl (RO.loadPelAgg ag_69 rfl rfl rfl) <| XL.put rfl rfl (lb rfl) (OpOK.alloc z_69 rfl) <| XL.eff rfl rfl (OpOK.store ag_69 rfl rfl rfl rfl (lb rfl) rfl) <| XL.nil <| XQ.seq ?_
           refine XC.anyRun [10] [] mixed (by kernel_rfl) (by kernel_rfl) (by kernel_rfl) ?_
           refine RunA.rd rfl rfl rfl (OpOK.of_ro (RO.move rfl)) rfl <| RunA.rd rfl rfl rfl (OpOK.of_ro (RO.nilCheckPtr rfl)) rfl <| RunA.rd rfl rfl rfl (OpOK.of_ro (RO.fieldOwn fo_100_0 rfl)) rfl <| RunA.rd rfl rfl rfl (OpOK.of_ro (RO.loadOwn ag_98 rfl rfl rfl)) rfl <| RunA.rd rfl rfl rfl (OpOK.of_ro (RO.fieldOwn fo_69_0 rfl)) rfl <| RunA.rd rfl rfl rfl (OpOK.of_ro (RO.loadOwn ag_3 rfl rfl rfl)) rfl <| RunA.rd rfl rfl rfl (OpOK.of_ro (RO.fieldOwn fo_69_1 rfl)) rfl <| RunA.rd rfl rfl rfl (OpOK.of_ro (RO.loadOwn ag_3 rfl rfl rfl)) rfl <| RunA.rd rfl rfl rfl (OpOK.of_ro (RO.move rfl)) rfl <| RunA.rd rfl rfl rfl (OpOK.of_ro (RO.binInt rfl rfl rfl)) rfl ?_
           refine bindK h3 (fun y22 h4 h3 => ?_)
           have hc23 : CallM Tryz.prog 70 [.one (.mp 2), .one (dI x21.1), .one (dI (w64 (x21.2 + x11.2)))] ⟨[(0, .cells 24 (cE a0)), (1, .cells 24 [dI 0, dN]), (2, .mp (imE s3.2.1) s3.2.2), (3, .cells 100 [.mp 2, dI (max s1.2.2 (w64 (x15.c + x11.2)))]), (4, .cells 69 (cE x11)), (5, .cells 24 (cE x15)), (6, .cells 69 (cE x21))], [], 7⟩ (resOf []) ⟨[(0, .cells 24 (cE a0)), (1, .cells 24 [dI 0, dN]), (2, .mp (imE y22.1) y22.2), (3, .cells 100 [.mp 2, dI (max s1.2.2 (w64 (x15.c + x11.2)))]), (4, .cells 69 (cE x11)), (5, .cells 24 (cE x15)), (6, .cells 69 (cE x21))], [], 7⟩ := by
            refine CallM.of_bodyD ⟨[], [(0, .cells 24 (cE a0)), (1, .cells 24 [dI 0, dN]), (2, .mp (imE y22.1) y22.2), (3, .cells 100 [.mp 2, dI (max s1.2.2 (w64 (x15.c + x11.2)))]), (4, .cells 69 (cE x11)), (5, .cells 24 (cE x15)), (6, .cells 69 (cE x21))], [], 7, 24, []⟩ rfl rfl en_70 (lb rfl) rfl .nil (fun w0 M V0 Q hv4 hQ4 => ?_)
            simp only [entry]
            refine XC.seq <| XC.region <| rM rfl rfl rfl <| rM rfl rfl rfl <| rR rfl rfl rfl (RO.lookupT mp_98 rfl rfl rfl) <| rM rfl rfl rfl <| rR rfl rfl rfl (RO.extract rfl rfl) <| rR rfl rfl rfl (RO.extract rfl rfl) <| rA rfl rfl rfl <| rA rfl rfl rfl <| XL.nil <| XQ.seq <| XC.seq ?_
            refine XC.joinR (fun (v24 : Bool) => ⟨[(0, .v (.one (.mp 2))), (1, .v (.one (dI x21.1))), (2, .v (.one (dI (w64 (x21.2 + x11.2))))), (20, .v (.one (dB v24)))], [(0, .cells 24 (cE a0)), (1, .cells 24 [dI 0, dN]), (2, .mp (imE s3.2.1) s3.2.2), (3, .cells 100 [.mp 2, dI (max s1.2.2 (w64 (x15.c + x11.2)))]), (4, .cells 69 (cE x11)), (5, .cells 24 (cE x15)), (6, .cells 69 (cE x21))], [], 7, 24, []⟩) (fun (v24 : Bool) => (cond v24
                (some (imSet s3.2 x21.1 (w64 (x21.2 + x11.2))))
                (some s3.2)) = some y22) ?_ ?_
            ·
             refine bindK h4 (fun v_ h5 h4 => ?_)
             refine XC.region <| rM rfl rfl rfl <| rR rfl rfl rfl (RO.not rfl) <| rM rfl rfl rfl ?_
             refine XL.case (d := 16) (c := (!(imHas s3.2 x21.1))) rfl (fun c25 => ?_) (fun c25 => ?_)
             ·
              replace h5 := condT c25 h5
              refine XL.no rfl rfl <| XL.no rfl rfl <| XL.no rfl rfl <| rR rfl rfl rfl (RO.pickT rfl rfl) <| XL.nil ?_
              have e_ := Option.some.inj h5
              subst e_
              exact XQ.joinR true (stle (tR rfl (tR rfl (tR rfl (tR rfl tZ)))) (hR rfl (hR rfl (hR rfl (hR rfl (hR rfl (hR rfl (hR rfl hZ))))))) kZ rfl (Nat.le_trans hv4 (lb rfl)) rfl rfl rfl (bB rfl rfl (bB rfl rfl (bM rfl (bB rfl rfl (bB rfl rfl (bB rfl rfl (bB rfl rfl bZ))))))) rfl rfl) h4
             ·
              replace h5 := condF c25 h5
              refine rM rfl rfl rfl <| rM rfl rfl rfl <| rR rfl rfl rfl (RO.binInt rfl rfl rfl) <| rR rfl rfl rfl (RO.pickF rfl rfl) <| XL.nil ?_
              have e_ := Option.some.inj h5
              subst e_
              exact XQ.joinR (decide ((imVal s3.2 x21.1) < (w64 (x21.2 + x11.2)))) (stle (tR rfl (tR rfl (tR rfl (tR rfl tZ)))) (hR rfl (hR rfl (hR rfl (hR rfl (hR rfl (hR rfl (hR rfl hZ))))))) kZ rfl (Nat.le_trans hv4 (lb rfl)) rfl rfl rfl (bB rfl rfl (bB rfl rfl (bM rfl (bB rfl rfl (bB rfl rfl (bB rfl rfl (bB rfl rfl bZ))))))) rfl rfl) h4
            ·
             intro v24 h4
             refine XQ.seq ?_
             refine XC.cond (b := v24) rfl (fun c26 => ?_) (fun c26 => ?_)
             ·
              replace h4 := condT c26 h4
              refine XC.region <| rM rfl rfl rfl <| rM rfl rfl rfl <| rM rfl rfl rfl <| XL.eff rfl rfl (OpOK.mapSetI mp_98 rfl rfl rfl rfl rfl) <| XL.nil ?_
              have e_ := Option.some.inj h4
              subst e_
              exact hQ4 _ _ _ (.inl rfl) rfl (stle tZ (hR rfl (hR rfl (hR rfl (hR rfl (hR rfl (hR rfl (hR rfl hZ))))))) kZ rfl (Nat.le_trans hv4 (lb rfl)) rfl rfl rfl (bB rfl rfl (bB rfl rfl (bM rfl (bB rfl rfl (bB rfl rfl (bB rfl rfl (bB rfl rfl bZ))))))) rfl rfl)
             ·
              replace h4 := condF c26 h4
              refine XC.skip ?_
              have e_ := Option.some.inj h4
              subst e_
              exact hQ4 _ _ _ (.inl rfl) rfl (stle tZ (hR rfl (hR rfl (hR rfl (hR rfl (hR rfl (hR rfl (hR rfl hZ))))))) kZ rfl (Nat.le_trans hv4 (lb rfl)) rfl rfl rfl (bB rfl rfl (bB rfl rfl (bM rfl (bB rfl rfl (bB rfl rfl (bB rfl rfl (bB rfl rfl bZ))))))) rfl rfl)
           refine RunA.eff rfl rfl rfl (OpOK.callW rfl rfl rfl hc23 rfl (hR rfl (hR rfl (hR rfl (hR rfl (hR rfl (hR rfl (hR rfl hZ))))))) kZ) rfl ?_
           refine RunA.nil ⟨?ex, _, _, rfl, ?_⟩
           case ex => exact trivial
           refine XQ.less (st' := ⟨[(0, .v (.one (.ptr 3 0))), (2, .v (.one (dI x11.2))), (21, .v (.one (dS x15.vs))), (22, .v (.one (dI (x15.vs.length : Int)))), (23, .v (.one (dI s3.1)))], [(0, .cells 24 (cE a0)), (1, .cells 24 [dI 0, dN]), (2, .mp (imE y22.1) y22.2), (3, .cells 100 [.mp 2, dI (max s1.2.2 (w64 (x15.c + x11.2)))]), (4, .cells 69 (cE x11)), (5, .cells 24 (cE x15)), (6, .cells 69 (cE x21))], [], 7, 39, []⟩) (stle (tR rfl (tR rfl (tR rfl (tR rfl (tR rfl tZ))))) (hR rfl (hR rfl (hR rfl (hR rfl (hR rfl (hR rfl (hR rfl hZ))))))) kZ rfl (Nat.le_trans hv2 (lb rfl)) rfl rfl rfl (bB rfl rfl (bB rfl rfl (bM rfl (bB rfl rfl (bB rfl rfl (bB rfl rfl (bB rfl rfl bZ))))))) rfl rfl) <| XQ.inBlock <| XQ.seq <| XC.region <| rR rfl rfl rfl (RO.binInt rfl rfl rfl) <| rM rfl rfl rfl <| XL.nil ?_
           have e_ := Option.some.inj h3
           subst e_
           refine XQ.nextM ((w64 (s3.1 + 1)), y22) (stle (tR rfl (tR rfl (tR rfl (tR rfl (tR rfl tZ))))) (hR rfl (hR rfl (hR rfl (hR rfl (hR rfl (hR rfl hZ)))))) kZ rfl (Nat.le_trans hv2 (lb rfl)) rfl rfl rfl (bB rfl rfl (bB rfl rfl (bM rfl (bB rfl rfl (bB rfl rfl (bB rfl rfl bZ)))))) rfl rfl) ho3
          ·
           replace h3 := condF c20 h3
           refine XC.exit <| XQ.thenE <| XQ.thenE ?_
           have e_ := Option.some.inj h3
           subst e_
           have e_ : _ = _ := ho3
           subst e_
           exact XQ.joinX s3.2 (stle tZ (hR rfl (hR rfl (hR rfl (hR rfl (hR rfl (hR rfl hZ)))))) kZ rfl (Nat.le_trans hv2 (lb rfl)) rfl rfl rfl (bB rfl rfl (bB rfl rfl (bM rfl (bB rfl rfl (bB rfl rfl (bB rfl rfl bZ)))))) rfl rfl) h2
         ·
          intro o18 h2
          refine XQ.blockX ?_
          have e_ := Option.some.inj h2
          subst e_
          exact hQ2 _ _ _ (.inl rfl) rfl (stle tZ (hR rfl (hR rfl (hR rfl (hR rfl (hR rfl hZ))))) kZ rfl (Nat.le_trans hv2 (lb rfl)) rfl rfl rfl (bB rfl rfl (bB rfl rfl (bM rfl (bB rfl rfl (bB rfl rfl bZ))))) rfl rfl)
        refine RunA.eff rfl rfl rfl (OpOK.callW rfl rfl rfl hc17 rfl (hR rfl (hR rfl (hR rfl (hR rfl (hR rfl hZ))))) kZ) rfl ?_
        refine RunA.nil ⟨?ex, _, _, rfl, ?_⟩
        case ex => exact trivial
        refine XQ.less (st' := ⟨[(1, .v (.one (dS a1))), (4, .v (.one (.ptr 1 0))), (6, .v (.one (.ptr 3 0))), (26, .v (.one (dS a0.vs))), (27, .v (.one (dI (a0.vs.length : Int)))), (28, .v (.one (dI s1.1)))], [(0, .cells 24 (cE a0)), (1, .cells 24 [dI 0, dN]), (2, .mp (imE y16.1) y16.2), (3, .cells 100 [.mp 2, dI (max s1.2.2 (w64 (x15.c + x11.2)))]), (4, .cells 69 (cE x11))], [], 6, 65, []⟩) (stle (tR rfl (tR rfl (tR rfl (tR rfl (tR rfl (tR rfl tZ)))))) (hR rfl (hR rfl (hR rfl (hR rfl (hR rfl hZ))))) kZ rfl (Nat.zero_le _) rfl rfl rfl (bB rfl rfl (bB rfl rfl (bM rfl (bB rfl rfl (bB rfl rfl bZ))))) rfl rfl) <| XQ.inBlock <| XQ.seq <| XC.region <| rR rfl rfl rfl (RO.binInt rfl rfl rfl) <| rM rfl rfl rfl <| XL.nil ?_
        have e_ := Option.some.inj h1
        subst e_
        refine XQ.nextM ((w64 (s1.1 + 1)), y16, (max s1.2.2 (w64 (x15.c + x11.2)))) (stle (tR rfl (tR rfl (tR rfl (tR rfl (tR rfl (tR rfl tZ)))))) (hR rfl (hR rfl (hR rfl (hR rfl hZ)))) kZ rfl (Nat.zero_le _) rfl rfl rfl (bB rfl rfl (bB rfl rfl (bM rfl (bB rfl rfl bZ)))) rfl rfl) ho1
       ·
        replace h1 := condF c14 h1
        refine XC.anyRun [8] [] mixed (by kernel_rfl) (by kernel_rfl) (by kernel_rfl) ?_
        refine RunA.rd rfl rfl rfl (OpOK.of_ro (RO.move rfl)) rfl <| RunA.rd rfl rfl rfl (OpOK.of_ro (RO.nilCheckPtr rfl)) rfl <| RunA.rd rfl rfl rfl (OpOK.of_ro (RO.fieldOwn fo_100_0 rfl)) rfl <| RunA.rd rfl rfl rfl (OpOK.of_ro (RO.loadOwn ag_98 rfl rfl rfl)) rfl <| RunA.rd rfl rfl rfl (OpOK.of_ro (RO.fieldOwn fo_69_0 rfl)) rfl <| RunA.rd rfl rfl rfl (OpOK.of_ro (RO.loadOwn ag_3 rfl rfl rfl)) rfl <| RunA.rd rfl rfl rfl (OpOK.of_ro (RO.fieldOwn fo_69_1 rfl)) rfl <| RunA.rd rfl rfl rfl (OpOK.of_ro (RO.loadOwn ag_3 rfl rfl rfl)) rfl ?_
        refine bindK h1 (fun y27 h2 h1 => ?_)
        have hc28 : CallM Tryz.prog 70 [.one (.mp 2), .one (dI x11.1), .one (dI x11.2)] ⟨[(0, .cells 24 (cE a0)), (1, .cells 24 [dI 0, dN]), (2, .mp (imE s1.2.1.1) s1.2.1.2), (3, .cells 100 [.mp 2, dI s1.2.2]), (4, .cells 69 (cE x11))], [], 5⟩ (resOf []) ⟨[(0, .cells 24 (cE a0)), (1, .cells 24 [dI 0, dN]), (2, .mp (imE y27.1) y27.2), (3, .cells 100 [.mp 2, dI s1.2.2]), (4, .cells 69 (cE x11))], [], 5⟩ := by
         refine CallM.of_bodyD ⟨[], [(0, .cells 24 (cE a0)), (1, .cells 24 [dI 0, dN]), (2, .mp (imE y27.1) y27.2), (3, .cells 100 [.mp 2, dI s1.2.2]), (4, .cells 69 (cE x11))], [], 5, 24, []⟩ rfl rfl en_70 (lb rfl) rfl .nil (fun w0 M V0 Q hv2 hQ2 => ?_)
         simp only [entry]
         refine XC.seq <| XC.region <| rM rfl rfl rfl <| rM rfl rfl rfl <| rR rfl rfl rfl (RO.lookupT mp_98 rfl rfl rfl) <| rM rfl rfl rfl <| rR rfl rfl rfl (RO.extract rfl rfl) <| rR rfl rfl rfl (RO.extract rfl rfl) <| rA rfl rfl rfl <| rA rfl rfl rfl <| XL.nil <| XQ.seq <| XC.seq ?_
         refine XC.joinR (fun (v29 : Bool) => ⟨[(0, .v (.one (.mp 2))), (1, .v (.one (dI x11.1))), (2, .v (.one (dI x11.2))), (20, .v (.one (dB v29)))], [(0, .cells 24 (cE a0)), (1, .cells 24 [dI 0, dN]), (2, .mp (imE s1.2.1.1) s1.2.1.2), (3, .cells 100 [.mp 2, dI s1.2.2]), (4, .cells 69 (cE x11))], [], 5, 24, []⟩) (fun (v29 : Bool) => (cond v29
             (some (imSet s1.2.1 x11.1 x11.2))
             (some s1.2.1)) = some y27) ?_ ?_
         ·
          refine bindK h2 (fun v_ h3 h2 => ?_)
          refine XC.region <| rM rfl rfl rfl <| rR rfl rfl rfl (RO.not rfl) <| rM rfl rfl rfl ?_
          refine XL.case (d := 16) (c := (!(imHas s1.2.1 x11.1))) rfl (fun c30 => ?_) (fun c30 => ?_)
          ·
           replace h3 := condT c30 h3
           refine XL.no rfl rfl <| XL.no rfl rfl <| XL.no rfl rfl <| rR rfl rfl rfl (RO.pickT rfl rfl) <| XL.nil ?_
           have e_ := Option.some.inj h3
           subst e_
           exact XQ.joinR true (stle (tR rfl (tR rfl (tR rfl (tR rfl tZ)))) (hR rfl (hR rfl (hR rfl (hR rfl (hR rfl hZ))))) kZ rfl (Nat.le_trans hv2 (lb rfl)) rfl rfl rfl (bB rfl rfl (bB rfl rfl (bM rfl (bB rfl rfl (bB rfl rfl bZ))))) rfl rfl) h2
          ·
           replace h3 := condF c30 h3
           refine rM rfl rfl rfl <| rM rfl rfl rfl <| rR rfl rfl rfl (RO.binInt rfl rfl rfl) <| rR rfl rfl rfl (RO.pickF rfl rfl) <| XL.nil ?_
           have e_ := Option.some.inj h3
           subst e_
           exact XQ.joinR (decide ((imVal s1.2.1 x11.1) < x11.2)) (stle (tR rfl (tR rfl (tR rfl (tR rfl tZ)))) (hR rfl (hR rfl (hR rfl (hR rfl (hR rfl hZ))))) kZ rfl (Nat.le_trans hv2 (lb rfl)) rfl rfl rfl (bB rfl rfl (bB rfl rfl (bM rfl (bB rfl rfl (bB rfl rfl bZ))))) rfl rfl) h2
         ·
          intro v29 h2
          refine XQ.seq ?_
          refine XC.cond (b := v29) rfl (fun c31 => ?_) (fun c31 => ?_)
          ·
           replace h2 := condT c31 h2
           refine XC.region <| rM rfl rfl rfl <| rM rfl rfl rfl <| rM rfl rfl rfl <| XL.eff rfl rfl (OpOK.mapSetI mp_98 rfl rfl rfl rfl rfl) <| XL.nil ?_
           have e_ := Option.some.inj h2
           subst e_
           exact hQ2 _ _ _ (.inl rfl) rfl (stle tZ (hR rfl (hR rfl (hR rfl (hR rfl (hR rfl hZ))))) kZ rfl (Nat.le_trans hv2 (lb rfl)) rfl rfl rfl (bB rfl rfl (bB rfl rfl (bM rfl (bB rfl rfl (bB rfl rfl bZ))))) rfl rfl)
          ·
           replace h2 := condF c31 h2
           refine XC.skip ?_
           have e_ := Option.some.inj h2
           subst e_
           exact hQ2 _ _ _ (.inl rfl) rfl (stle tZ (hR rfl (hR rfl (hR rfl (hR rfl (hR rfl hZ))))) kZ rfl (Nat.le_trans hv2 (lb rfl)) rfl rfl rfl (bB rfl rfl (bB rfl rfl (bM rfl (bB rfl rfl (bB rfl rfl bZ))))) rfl rfl)
        refine RunA.eff rfl rfl rfl (OpOK.callW rfl rfl rfl hc28 rfl (hR rfl (hR rfl (hR rfl (hR rfl (hR rfl hZ))))) kZ) rfl ?_
        refine RunA.nil ⟨?ex, _, _, rfl, ?_⟩
        case ex => exact trivial
        refine XQ.less (st' := ⟨[(1, .v (.one (dS a1))), (4, .v (.one (.ptr 1 0))), (6, .v (.one (.ptr 3 0))), (26, .v (.one (dS a0.vs))), (27, .v (.one (dI (a0.vs.length : Int)))), (28, .v (.one (dI s1.1)))], [(0, .cells 24 (cE a0)), (1, .cells 24 [dI 0, dN]), (2, .mp (imE y27.1) y27.2), (3, .cells 100 [.mp 2, dI s1.2.2]), (4, .cells 69 (cE x11))], [], 5, 65, []⟩) (stle (tR rfl (tR rfl (tR rfl (tR rfl (tR rfl (tR rfl tZ)))))) (hR rfl (hR rfl (hR rfl (hR rfl (hR rfl hZ))))) kZ rfl (Nat.zero_le _) rfl rfl rfl (bB rfl rfl (bB rfl rfl (bM rfl (bB rfl rfl (bB rfl rfl bZ))))) rfl rfl) <| XQ.inBlock <| XQ.seq <| XC.region <| rR rfl rfl rfl (RO.binInt rfl rfl rfl) <| rM rfl rfl rfl <| XL.nil ?_
        have e_ := Option.some.inj h1
        subst e_
        refine XQ.nextM ((w64 (s1.1 + 1)), y27, s1.2.2) (stle (tR rfl (tR rfl (tR rfl (tR rfl (tR rfl (tR rfl tZ)))))) (hR rfl (hR rfl (hR rfl (hR rfl hZ)))) kZ rfl (Nat.zero_le _) rfl rfl rfl (bB rfl rfl (bB rfl rfl (bM rfl (bB rfl rfl bZ)))) rfl rfl) ho1
     ·
      replace h1 := condF c10 h1
      refine XC.exit <| XQ.thenE <| XQ.thenE ?_
      have e_ := Option.some.inj h1
      subst e_
      have e_ : _ = _ := ho1
      subst e_
      exact XQ.joinX (s1.2.1, s1.2.2) (stle (tR rfl (tR rfl tZ)) (hR rfl (hR rfl (hR rfl (hR rfl hZ)))) kZ rfl (Nat.zero_le _) rfl rfl rfl (bB rfl rfl (bB rfl rfl (bM rfl (bB rfl rfl bZ)))) rfl rfl) h0
    ·
     intro o8 h0
     refine XQ.blockX <| XQ.seq <| XC.seq <| XC.region <| rM rfl rfl rfl ?_
     refine bindK h0 (fun y32 h1 h0 => ?_)
     have hc33 : CallM Tryz.prog 56 [.one (.ptr 3 0)] ⟨[(0, .cells 24 (cE a0)), (1, .cells 24 [dI 0, dN]), (2, .mp (imE o8.1.1) o8.1.2), (3, .cells 100 [.mp 2, dI o8.2])], [], 4⟩ (resOf [.agg [dI y32.2.1, dS y32.2.2], .one (dI y32.1)]) ⟨[(0, .cells 24 (cE a0)), (1, .cells 24 [dI 0, dN]), (2, .mp (imE o8.1.1) o8.1.2), (3, .cells 100 [.mp 2, dI o8.2]), (4, .cells 24 [dI y32.2.1, dS y32.2.2])], [], 8⟩ := by
      refine CallM.of_bodyD ⟨[(2, .v (.one (.ptr 4 0))), (3, .v (.one (dI y32.1)))], [(0, .cells 24 (cE a0)), (1, .cells 24 [dI 0, dN]), (2, .mp (imE o8.1.1) o8.1.2), (3, .cells 100 [.mp 2, dI o8.2]), (4, .cells 24 [dI y32.2.1, dS y32.2.2])], [], 8, 41, []⟩ rfl rfl en_56 (lb rfl) rfl (RAs.agg ag_24 rfl rfl rfl rfl (RAs.tmp rfl .nil)) (fun w0 M V0 Q hv1 hQ1 => ?_)
      simp only [entry]
      refine XC.seq <| XC.region <| XL.put rfl rfl (lb rfl) (OpOK.alloc z_24 rfl) <| rA rfl rfl rfl <| XL.nil <| XQ.seq <| XC.seq <| XC.region <| rM rfl rfl rfl <| rR rfl rfl rfl (RO.nilCheckPtr rfl) <| rR rfl rfl rfl (RO.fieldOwn fo_100_1 rfl) <| rR rfl rfl rfl (RO.loadOwn ag_3 rfl rfl rfl) <| rR rfl rfl rfl (RO.build1 bd_24 rfl rfl rfl) <| XL.put rfl rfl (lb rfl) (OpOK.alloc z_24 rfl) ?_
      refine XL.eff rfl rfl (OpOK.store ag_24 rfl rfl rfl rfl (lb rfl) rfl) <| XL.nil <| XQ.seq <| XC.seq <| XC.seq <| XC.region <| rM rfl rfl rfl <| rR rfl rfl rfl (RO.nilCheckPtr rfl) <| rR rfl rfl rfl (RO.fieldOwn fo_100_0 rfl) <| rR rfl rfl rfl (RO.loadOwn ag_98 rfl rfl rfl) ?_
      refine bindK h1 (fun y34 h2 h1 => ?_)
      have hc35 : CallM Tryz.prog 83 [.one (.mp 2)] ⟨[(0, .cells 24 (cE a0)), (1, .cells 24 [dI 0, dN]), (2, .mp (imE o8.1.1) o8.1.2), (3, .cells 100 [.mp 2, dI o8.2]), (4, .cells 24 [dI 0, dN]), (5, .cells 24 [dI o8.2, dN])], [], 6⟩ (resOf [.one (.fn 102 [(6, 0)])]) ⟨[(0, .cells 24 (cE a0)), (1, .cells 24 [dI 0, dN]), (2, .mp (imE o8.1.1) o8.1.2), (3, .cells 100 [.mp 2, dI o8.2]), (4, .cells 24 [dI 0, dN]), (5, .cells 24 [dI o8.2, dN]), (6, .cells 98 [.mp 2])], [], 7⟩ := by
       refine CallM.of_bodyD ⟨[(2, .v (.one (.fn 102 [(6, 0)])))], [(0, .cells 24 (cE a0)), (1, .cells 24 [dI 0, dN]), (2, .mp (imE o8.1.1) o8.1.2), (3, .cells 100 [.mp 2, dI o8.2]), (4, .cells 24 [dI 0, dN]), (5, .cells 24 [dI o8.2, dN]), (6, .cells 98 [.mp 2])], [], 7, 4, []⟩ rfl rfl en_83 (lb rfl) rfl (RAs.tmp rfl .nil) (fun w0 M V0 Q hv2 hQ2 => ?_)
       simp only [entry]
       refine XC.seq <| XC.region <| XL.put rfl rfl (lb rfl) (OpOK.box rfl) <| rA rfl rfl rfl <| XL.nil <| XQ.seq <| XC.seq <| XC.region <| rR rfl rfl rfl (RO.makeFunc1 rfl) <| rA rfl rfl rfl <| XL.nil <| XQ.seq <| XC.ret ?_
       have e_ := Option.some.inj h2
       subst e_
       exact hQ2 _ _ _ (.inr rfl) rfl (stle (tR rfl tZ) (hR rfl (hR rfl (hR rfl (hR rfl (hR rfl (hR rfl (hR rfl hZ))))))) kZ rfl (Nat.le_trans hv2 (lb rfl)) rfl rfl rfl (bB rfl rfl (bB rfl rfl (bM rfl (bB rfl rfl (bB rfl rfl (bB rfl rfl (bB rfl rfl bZ))))))) rfl rfl)
      refine XL.put rfl rfl (lb rfl) (OpOK.callW rfl rfl rfl hc35 rfl (hR rfl (hR rfl (hR rfl (hR rfl (hR rfl (hR rfl hZ)))))) kZ) ?_
      refine guardK h1 (fun g36 h1 => ?_)
      refine XL.put rfl rfl (lb rfl) (OpOK.sortedKeys rfl rfl rfl rfl g36) <| rR rfl rfl rfl (RO.lenE (α := Int) sl_46 rfl (.d _)) <| rM rfl rfl rfl <| XL.nil <| XQ.seq <| XC.block ?_
      refine XC.joinX 0 (fun (o37 : (List LV)) => ⟨[(2, .v (.one (.ptr 4 0))), (4, .v (.one (.ptr 5 0)))], [(0, .cells 24 (cE a0)), (1, .cells 24 [dI 0, dN]), (2, .mp (imE o8.1.1) o8.1.2), (3, .cells 100 [.mp 2, dI o8.2]), (4, .cells 24 [dI 0, dN]), (5, .cells 24 [dI o8.2, dA 7 o37]), (6, .cells 98 [.mp 2])], [(7, some ⟨69, 2, (Enc.encL o37).length⟩)], 8, 41, []⟩) (fun (o37 : (List LV)) => (guardO (Nat.ble (⟨o8.2, o37⟩ : Lvl).vs.length 100000)
        (some ((limL (⟨o8.2, o37⟩ : Lvl)).2, ((limL (⟨o8.2, o37⟩ : Lvl)).1).c, ((limL (⟨o8.2, o37⟩ : Lvl)).1).vs))) = some y32) ?_ ?_
      ·
       refine XC.adoptC (i := 5) (off := 1) 69 2 rfl rfl ?_
       refine bindK h1 (fun o38 hl2 h1 => ?_)
       refine XC.loopM (m36_l2 o8) (fun s2 => ⟨[(0, .v (.one (.ptr 3 0))), (2, .v (.one (.ptr 4 0))), (4, .v (.one (.ptr 5 0))), (17, .v (.one (dS ((imKeys o8.1) : List Int)))), (18, .v (.one (dI ((imKeys o8.1).length : Int)))), (19, .v (.one (dI s2.1)))], [(0, .cells 24 (cE a0)), (1, .cells 24 [dI 0, dN]), (2, .mp (imE o8.1.1) o8.1.2), (3, .cells 100 [.mp 2, dI o8.2]), (4, .cells 24 [dI 0, dN]), (5, .cells 24 [dI o8.2, dA 7 s2.2]), (6, .cells 98 [.mp 2])], [(7, some ⟨69, 2, (Enc.encL s2.2).length⟩)], 8, 41, []⟩) (0, ([] : List LV)) o38 (stle (tR rfl (tR rfl (tR rfl (tR rfl (tR rfl (tR rfl tZ)))))) (hR rfl (hR rfl (hR rfl (hR rfl (hR rfl (hR rfl (hR rfl hZ))))))) (kR rfl kZ) rfl (Nat.le_trans hv1 (lb rfl)) rfl rfl rfl (bB rfl rfl (bB rfl rfl (bM rfl (bB rfl rfl (bB rfl rfl (bB rfl rfl (bB rfl rfl bZ))))))) rfl rfl) hl2 (fun s2 n2 oo2 h2 ho2 => ?_)
       unfold m36_l2 at h2
       refine XC.seq <| XC.region <| rR rfl rfl rfl (RO.binInt rfl rfl rfl) <| XL.nil <| XQ.seq <| XC.seq ?_
       refine XC.cond (b := (decide (s2.1 < ((imKeys o8.1).length : Int)))) rfl (fun c39 => ?_) (fun c39 => ?_)
       ·
        replace h2 := condT c39 h2
        refine XC.skip <| XQ.seq <| XC.seq <| XC.block <| XC.seq <| XC.region ?_
        refine bindK h2 (fun x40 hx40 h2 => ?_)
        refine rR rfl rfl rfl (RO.indexE (α := Int) sl_46 rfl (.d _) rfl hx40) <| rR rfl rfl rfl (RO.loadPel ag_3 rfl rfl) <| rA rfl rfl rfl <| XL.nil <| XQ.seq ?_
        refine XC.anyRun [11, 13] [] mixed (by kernel_rfl) (by kernel_rfl) (by kernel_rfl) ?_
        refine RunA.rd rfl rfl rfl (OpOK.of_ro (RO.fieldOwn fo_24_1 rfl)) rfl <| RunA.rd rfl rfl rfl (OpOK.of_ro (RO.loadOwn ag_22 rfl rfl rfl)) rfl <| RunA.rd rfl rfl rfl (OpOK.of_ro (RO.move rfl)) rfl <| RunA.rd rfl rfl rfl (OpOK.of_ro (RO.move rfl)) rfl <| RunA.rd rfl rfl rfl (OpOK.of_ro (RO.nilCheckPtr rfl)) rfl <| RunA.rd rfl rfl rfl (OpOK.of_ro (RO.fieldOwn fo_100_0 rfl)) rfl <| RunA.rd rfl rfl rfl (OpOK.of_ro (RO.loadOwn ag_98 rfl rfl rfl)) rfl <| RunA.rd rfl rfl rfl (OpOK.of_ro (RO.move rfl)) rfl <| RunA.rd rfl rfl rfl (OpOK.of_ro (RO.lookupF mp_98 rfl rfl rfl)) rfl <| RunA.rd rfl rfl rfl (OpOK.of_ro (RO.build2 bd_69 rfl rfl rfl rfl)) rfl <| RunA.rd rfl rfl rfl (OpOK.data1E (α := LV) ((x40, (imVal o8.1 x40))) sl_22 z_69 rfl rfl (lb rfl) rfl rfl (.cons (.d _) (.cons (.d _) .nil)) rfl) rfl ?_
        refine guardK h2 (fun g41 h2 => ?_)
        refine RunA.eff rfl rfl rfl (OpOK.appendE (α := LV) sl_22 el_69 rfl rfl rfl rfl rfl (.d _) g41) rfl <| RunA.rd rfl rfl rfl (OpOK.of_ro (RO.fieldOwn fo_24_1 rfl)) rfl <| RunA.eff rfl rfl rfl (OpOK.store ag_22 rfl rfl rfl rfl (lb rfl) rfl) rfl ?_
        refine RunA.nil ⟨?ex, _, _, rfl, ?_⟩
        case ex => exact trivial
        refine XQ.less (st' := ⟨[(0, .v (.one (.ptr 3 0))), (2, .v (.one (.ptr 4 0))), (4, .v (.one (.ptr 5 0))), (17, .v (.one (dS ((imKeys o8.1) : List Int)))), (18, .v (.one (dI ((imKeys o8.1).length : Int)))), (19, .v (.one (dI s2.1)))], [(0, .cells 24 (cE a0)), (1, .cells 24 [dI 0, dN]), (2, .mp (imE o8.1.1) o8.1.2), (3, .cells 100 [.mp 2, dI o8.2]), (4, .cells 24 [dI 0, dN]), (5, .cells 24 [dI o8.2, dA 7 ((s2.2 ++ ([(x40, (imVal o8.1 x40))])) : List LV)]), (6, .cells 98 [.mp 2])], [(7, some ⟨69, 2, (Enc.encL ((s2.2 ++ ([(x40, (imVal o8.1 x40))])) : List LV)).length⟩)], 8, 41, []⟩) (stle (tR rfl (tR rfl (tR rfl (tR rfl (tR rfl (tR rfl tZ)))))) (hR rfl (hR rfl (hR rfl (hR rfl (hR rfl (hR rfl (hR rfl hZ))))))) (kR rfl kZ) rfl (Nat.le_trans hv1 (lb rfl)) rfl rfl rfl (bB rfl rfl (bB rfl rfl (bM rfl (bB rfl rfl (bB rfl rfl (bB rfl rfl (bB rfl rfl bZ))))))) rfl rfl) <| XQ.inBlock <| XQ.seq <| XC.region <| rR rfl rfl rfl (RO.binInt rfl rfl rfl) <| rM rfl rfl rfl <| XL.nil ?_
        have e_ := Option.some.inj h2
        subst e_
        refine XQ.nextM ((w64 (s2.1 + 1)), (s2.2 ++ ([(x40, (imVal o8.1 x40))]))) (stle (tR rfl (tR rfl (tR rfl (tR rfl (tR rfl (tR rfl tZ)))))) (hR rfl (hR rfl (hR rfl (hR rfl (hR rfl (hR rfl (hR rfl hZ))))))) (kR rfl kZ) rfl (Nat.le_trans hv1 (lb rfl)) rfl rfl rfl (bB rfl rfl (bB rfl rfl (bM rfl (bB rfl rfl (bB rfl rfl (bB rfl rfl (bB rfl rfl bZ))))))) rfl rfl) ho2
       ·
        replace h2 := condF c39 h2
        refine XC.exit <| XQ.thenE <| XQ.thenE ?_
        have e_ := Option.some.inj h2
        subst e_
        have e_ : _ = _ := ho2
        subst e_
        exact XQ.joinX s2.2 (stle (tR rfl (tR rfl tZ)) (hR rfl (hR rfl (hR rfl (hR rfl (hR rfl (hR rfl (hR rfl hZ))))))) (kR rfl kZ) rfl (Nat.le_trans hv1 (lb rfl)) rfl rfl rfl (bB rfl rfl (bB rfl rfl (bM rfl (bB rfl rfl (bB rfl rfl (bB rfl rfl (bB rfl rfl bZ))))))) rfl rfl) h1
      ·
       intro o37 h1
       refine XQ.blockX <| XQ.seq <| XC.seq <| XC.region <| rR rfl rfl rfl (RO.loadOwnAgg ag_24 rfl rfl rfl rfl) ?_
       refine guardK h1 (fun g42 h1 => ?_)
       refine XL.put rfl rfl (lb rfl) (OpOK.callFun (limited_fun (⟨o8.2, o37⟩ : Lvl) (Nat.le_of_ble_eq_true g42)) rfl (.cons (.agg (.cons (.d _) (.cons (.app _ _ _) .nil))) .nil)) ?_
       refine rR rfl rfl rfl (RO.extract rfl rfl) <| rR rfl rfl rfl (RO.extract rfl rfl) <| XL.eff rfl rfl (OpOK.store ag_24 rfl rfl rfl rfl (lb rfl) rfl) <| rA rfl rfl rfl <| XL.nil <| XQ.seq <| XC.ret ?_
       have e_ := Option.some.inj h1
       subst e_
       exact hQ1 _ _ _ (.inr rfl) rfl (stle (tR rfl (tR rfl tZ)) (hR rfl (hR rfl (hR rfl (hR rfl (hR rfl hZ))))) kZ rfl (Nat.le_trans hv1 (lb rfl)) rfl rfl rfl (bB rfl rfl (bB rfl rfl (bM rfl (bB rfl rfl (bB rfl rfl bZ))))) rfl rfl)
     refine XL.put rfl rfl (lb rfl) (OpOK.callW rfl rfl rfl hc33 rfl (hR rfl (hR rfl (hR rfl (hR rfl hZ)))) kZ) <| rR rfl rfl rfl (RO.extract rfl rfl) <| rR rfl rfl rfl (RO.extract rfl rfl) <| XL.eff rfl rfl (OpOK.store ag_24 rfl rfl rfl rfl (lb rfl) rfl) <| rA rfl rfl rfl <| XL.nil <| XQ.seq <| XC.ret ?_
     have e_ := Option.some.inj h0
     subst e_
     exact XQ.retF (fun _ _ h => h) rfl (RAs.agg ag_24 rfl rfl rfl rfl (RAs.tmp rfl .nil)) (.cons (.agg (.cons (.d _) (.cons (.d _) .nil))) (.cons (.one (.d _)) .nil))
end

section
open Go.RowKit
set_option linter.unusedSimpArgs false
set_option linter.unusedVariables false

theorem fitB_lens {ms : List Lvl} (h : fitB ms) : lensB ms = true := by
  unfold lensB
  rw [ble_t h.1, cond_true, List.all_eq_true]
  exact fun x hx => ble_t (h.2 x hx)

theorem gath_l0 {x : Lvl} {v : LV} (hx : validB x = true) (hv : okV v) (M : IMap) : loopN (m36_l0 x v) FUEL (0, M) = some ((upV v.2 x.vs).foldl rzM M) := by
  have hw := wf_valid hx
  have key := fold_loop (step := m36_l0 x v) (l := x.vs) (fun M y => rzM M (y.1, y.2 + v.2)) (fun _ _ => True) (by have := hw.len; omega) (fun k y s hy _ => by
    have hk := (List.getElem?_eq_some_iff.1 hy).1
    have hyv := valid_okVar hx hy
    refine ⟨?_, trivial⟩
    unfold m36_l0
    dsimp only
    rw [decide_eq_true (by omega : (k : Int) < x.vs.length), cond_true, idx_nat (Int.natCast_nonneg _) (by simpa using hy), Option.bind_some, w64_id (n := y.2 + v.2) (by have := hv.2.2; omega) (by have := hv.2.2; omega), rz_stepM]
    rfl) (fun s _ => by unfold m36_l0; dsimp only; rw [decide_eq_false (by omega), cond_false]) M trivial
  rw [key.1]
  unfold upV
  rw [List.foldl_map]

theorem gath_l1 {L : Lvl} {ms : List Lvl} (hL : validB L = true) (hm : ms.all validB = true) (hl : ms.length ≤ 100000) : loopN (m36_l1 L ms) FUEL (0, imNil, L.c) = some (L.vs.foldl (addS ms) (imNil, L.c)) := by
  have hw := wf_valid hL
  have key := fold_loop (step := m36_l1 L ms) (l := L.vs) (addS ms) (fun _ _ => True) (by have := hw.len; omega) (fun k v s hy _ => by
    have hk := (List.getElem?_eq_some_iff.1 hy).1
    have hv : okV v := valid_okVar hL hy
    refine ⟨?_, trivial⟩
    unfold m36_l1
    dsimp only
    rw [decide_eq_true (by omega : (k : Int) < L.vs.length), cond_true, idx_nat (Int.natCast_nonneg _) (by simpa using hy), Option.bind_some, w64_neg ⟨hv.1, hv.2.1⟩]
    by_cases hh : hasV ms v
    · have hV := valV_valid hm hh
      have hVc := valid_c hV
      obtain ⟨h1, h2⟩ := hh
      rw [decide_eq_true (show 0 ≤ -1 - v.1 by omega), cond_true, decide_eq_true h2, Option.bind_some, cond_true, idx_nat (by omega) (valV_at ⟨h1, h2⟩), Option.bind_some, gath_l0 hV hv]
      simp only [Option.bind_some]
      rw [w64_id (n := (valV ms v).c + v.2) (by have := hv.2.2; omega) (by have := hv.2.2; omega)]
      unfold addS
      rw [if_pos ⟨h1, h2⟩]
    · have e' : cond (decide (0 ≤ -1 - v.1)) (some (decide (-1 - v.1 < (ms.length : Int)))) (some false) = some false := by
        unfold hasV at hh
        by_cases h1 : v.1 < 0
        · rw [decide_eq_true (by omega), decide_eq_false (by omega)]; rfl
        · rw [decide_eq_false (by omega)]; rfl
      rw [e', Option.bind_some, cond_false, rz_stepM]
      unfold addS
      rw [if_neg hh]
      rfl) (fun s _ => by unfold m36_l1; dsimp only; rw [decide_eq_false (by omega), cond_false]) (imNil, L.c) trivial
  exact key.1

theorem gath_l2 {o : IMap × Int} {vs : List LV} (h : RMap o.1 vs) : loopN (m36_l2 o) FUEL (0, []) = some vs := by
  have h2 := h.ok.2
  have hlen : (imKeys o.1).length ≤ 100000 := by
    have := h.wf.len
    rw [← h2, List.length_map] at this; exact this
  have key := fold_loop (step := m36_l2 o) (l := imKeys o.1) (fun out k => out ++ [(k, imVal o.1 k)]) (fun k s => s.length = k) (by omega) (fun k y s hy hs => by
    have hk := (List.getElem?_eq_some_iff.1 hy).1
    refine ⟨?_, by simp [hs]⟩
    unfold m36_l2
    dsimp only
    rw [decide_eq_true (by omega : (k : Int) < (imKeys o.1).length), cond_true, idx_nat (Int.natCast_nonneg _) (by simpa using hy), Option.bind_some, guard_t (ble_t (by simp; omega))]) (fun s _ => by unfold m36_l2; dsimp only; rw [decide_eq_false (by omega), cond_false]) [] rfl
  rw [key.1, foldl_snoc, List.nil_append, h2]

theorem m36_eq {L : Lvl} {ms : List Lvl} (hL : L.vs.length ≤ 100000) (hf : fitB ms) : m36 L ms = some (assL L ms) := by
  unfold m36
  rw [guard_t (ble_t hL)]
  cases hv : validB L with
  | false => rw [assL_inv (by rw [hv]; rfl)]; rfl
  | true =>
    simp only [Bool.not_true, cond_false]
    rw [guard_t (fitB_lens hf)]
    cases hm : ms.all validB with
    | false => rw [assL_inv (by rw [hm]; simp)]; rfl
    | true =>
      simp only [Bool.not_true, Option.bind_some, cond_false]
      rw [gath_l1 hv hm hf.1]
      obtain ⟨h1, h2⟩ := gath_limL hv hm
      simp only [Option.bind_some]
      rw [guard_t h1.ok.1]
      have e : loopN (m36_l2 (List.foldl (addS ms) (imNil, L.c) L.vs)) FUEL (0, []) = _ := gath_l2 h1
      rw [e]
      simp only [Option.bind_some]
      rw [guard_t (ble_t (by have := h1.wf.len; exact this)), h2, assL_gath hv hm]
      rfl
end

section
open Go.RowKit
set_option linter.unusedSimpArgs false
set_option linter.unusedVariables false

/-- one variable replaced, or kept -/
def repStepP (vals : List Lvl) (out : Lvl) (v : LV) : Lvl × Int :=
  if 0 ≤ v.1 ∧ v.1 < vals.length then (if (plusL (vals.getD v.1.toNat ⟨0, []⟩) v.2).2 = 0 then (joinL out (plusL (vals.getD v.1.toNat ⟨0, []⟩) v.2).1, 0) else (⟨0, []⟩, (plusL (vals.getD v.1.toNat ⟨0, []⟩) v.2).2)) else (joinL out ⟨0, [v]⟩, 0)

def repGoP (vals : List Lvl) : List LV → Lvl → Lvl × Int
  | [], out => (out, 0)
  | v :: r, out => if (repStepP vals out v).2 = 0 then repGoP vals r (repStepP vals out v).1 else (⟨0, []⟩, (repStepP vals out v).2)

def repLP (L : Lvl) (vals : List Lvl) : Lvl × Int := repGoP vals L.vs ⟨L.c, []⟩

/-- the reference's Assign -/
def assLP (L : Lvl) (vals : List Lvl) : Lvl × Int := if validB L && vals.all validB then repLP L vals else (⟨0, []⟩, 3)

theorem assL_invP {L : Lvl} {vals : List Lvl} (h : (validB L && vals.all validB) = false) : assLP L vals = (⟨0, []⟩, 3) := by simp [assLP, h]

theorem assL_okP {L : Lvl} {vals : List Lvl} (h1 : validB L = true) (h2 : vals.all validB = true) : assLP L vals = repLP L vals := by simp [assLP, h1, h2]

theorem rep_keepP {vals : List Lvl} {out : Lvl} {v : LV} (h : ¬ (0 ≤ v.1 ∧ v.1 < vals.length)) : repStepP vals out v = (joinL out ⟨0, [v]⟩, 0) := if_neg h

theorem rep_putP {vals : List Lvl} {out V : Lvl} {v : LV} {m : Nat} (h : 0 ≤ v.1) (hm : v.1 = (m : Int)) (hV : vals[m]? = some V) (he : (plusL V v.2).2 = 0) : repStepP vals out v = (joinL out (plusL V v.2).1, 0) := by
  have hlt := (List.getElem?_eq_some_iff.1 hV).1
  have e : vals.getD v.1.toNat ⟨0, []⟩ = V := by rw [hm, Int.toNat_natCast, List.getD_eq_getElem?_getD, hV]; rfl
  unfold repStepP; rw [if_pos ⟨h, by omega⟩, e, if_pos he]

theorem rep_errP {vals : List Lvl} {out V : Lvl} {v : LV} {m : Nat} (h : 0 ≤ v.1) (hm : v.1 = (m : Int)) (hV : vals[m]? = some V) (he : (plusL V v.2).2 ≠ 0) : repStepP vals out v = (⟨0, []⟩, (plusL V v.2).2) := by
  have hlt := (List.getElem?_eq_some_iff.1 hV).1
  have e : vals.getD v.1.toNat ⟨0, []⟩ = V := by rw [hm, Int.toNat_natCast, List.getD_eq_getElem?_getD, hV]; rfl
  unfold repStepP; rw [if_pos ⟨h, by omega⟩, e, if_neg he]

theorem repGo_atP {vals : List Lvl} {l : List LV} {k : Nat} {v : LV} {out : Lvl} (h : l[k]? = some v) (he : (repStepP vals out v).2 = 0) : repGoP vals (l.drop k) out = repGoP vals (l.drop (k + 1)) (repStepP vals out v).1 := by
  rw [drop_at h, repGoP, if_pos he]

theorem repGo_errP {vals : List Lvl} {l : List LV} {k : Nat} {v : LV} {out : Lvl} (h : l[k]? = some v) (he : (repStepP vals out v).2 ≠ 0) : repGoP vals (l.drop k) out = (⟨0, []⟩, (repStepP vals out v).2) := by
  rw [drop_at h, repGoP, if_neg he]

def hasVP (ms : List Lvl) (v : LV) : Prop := 0 ≤ v.1 ∧ v.1 < ms.length

instance (ms : List Lvl) (v : LV) : Decidable (hasVP ms v) := inferInstanceAs (Decidable (_ ∧ _))

def valVP (ms : List Lvl) (v : LV) : Lvl := ms.getD v.1.toNat ⟨0, []⟩

def addSP (ms : List Lvl) (s : IMap × Int) (v : LV) : IMap × Int := if hasVP ms v then ((upV v.2 (valVP ms v).vs).foldl rzM s.1, max s.2 ((valVP ms v).c + v.2)) else (rzM s.1 v, s.2)

def addVP (ms : List Lvl) (s : List LV × Int) (v : LV) : List LV × Int := if hasVP ms v then (mergeV s.1 (upV v.2 (valVP ms v).vs), max s.2 ((valVP ms v).c + v.2)) else (mergeV s.1 [v], s.2)

theorem valV_validP {ms : List Lvl} (hm : ms.all validB = true) {v : LV} (h : hasVP ms v) : validB (valVP ms v) = true := by
  unfold valVP
  obtain ⟨h1, h2⟩ := h
  have hlt : v.1.toNat < ms.length := by omega
  rw [List.getD_eq_getElem?_getD, List.getElem?_eq_getElem hlt]
  exact List.all_eq_true.1 hm _ (List.getElem_mem hlt)

theorem valV_atP {ms : List Lvl} {v : LV} (h : hasVP ms v) : ms[v.1.toNat]? = some (valVP ms v) := by
  unfold valVP
  obtain ⟨h1, h2⟩ := h
  have hlt : v.1.toNat < ms.length := by omega
  rw [List.getD_eq_getElem?_getD, List.getElem?_eq_getElem hlt]; rfl

theorem addV_relP {ms : List Lvl} (hm : ms.all validB = true) {M : IMap} {vs : List LV} {C : Int} (h : RMap M vs) {v : LV} (hv : okV v) : RMap (addSP ms (M, C) v).1 (addVP ms (vs, C) v).1 ∧ (addSP ms (M, C) v).2 = (addVP ms (vs, C) v).2 := by
  unfold addSP addVP
  by_cases hh : hasVP ms v
  · rw [if_pos hh, if_pos hh]
    exact ⟨h.merge (wf_upV _ (wf_valid (valV_validP hm hh))), rfl⟩
  · rw [if_neg hh, if_neg hh]
    exact ⟨h.merge (l := [v]) (wf_one ⟨hv.1, hv.2.1⟩), rfl⟩

theorem addV_foldP {ms : List Lvl} (hm : ms.all validB = true) : ∀ (l : List LV) (M : IMap) (vs : List LV) (C : Int), RMap M vs → (∀ v ∈ l, okV v) → RMap (l.foldl (addSP ms) (M, C)).1 (l.foldl (addVP ms) (vs, C)).1 ∧ (l.foldl (addSP ms) (M, C)).2 = (l.foldl (addVP ms) (vs, C)).2
  | [], M, vs, C, h, _ => ⟨h, rfl⟩
  | v :: l, M, vs, C, h, hl => by
    obtain ⟨h1, h2⟩ := addV_relP hm (C := C) h (hl v List.mem_cons_self)
    have := addV_foldP hm l (addSP ms (M, C) v).1 (addVP ms (vs, C) v).1 (addSP ms (M, C) v).2 h1 (fun y hy => hl y (List.mem_cons_of_mem _ hy))
    rw [List.foldl_cons, List.foldl_cons]
    have e : ((addVP ms (vs, C) v).1, (addSP ms (M, C) v).2) = addVP ms (vs, C) v := by rw [h2]
    rw [e] at this
    exact this

theorem addV_wfP {ms : List Lvl} (hm : ms.all validB = true) {s : List LV × Int} (h : WF s.1) {v : LV} (hv : okV v) : WF (addVP ms s v).1 := by
  unfold addVP
  by_cases hh : hasVP ms v
  · rw [if_pos hh]; exact wf_merge _ _ h (wf_upV _ (wf_valid (valV_validP hm hh)))
  · rw [if_neg hh]; exact wf_merge _ _ h (wf_one ⟨hv.1, hv.2.1⟩)

theorem addV_bigP {ms : List Lvl} (hm : ms.all validB = true) {s : List LV × Int} (hw : WF s.1) (h : bigS s) {v : LV} (hv : okV v) : bigS (addVP ms s v) := by
  unfold addVP
  by_cases hh : hasVP ms v
  · rw [if_pos hh]
    rcases h with h | ⟨x, hx, h⟩
    · left; dsimp only; omega
    · obtain ⟨y, hy, -, h1⟩ := merge_ge_l hw (wf_upV v.2 (wf_valid (valV_validP hm hh))) hx
      exact .inr ⟨y, hy, by omega⟩
  · rw [if_neg hh]
    rcases h with h | ⟨x, hx, h⟩
    · exact .inl h
    · obtain ⟨y, hy, -, h1⟩ := merge_ge_l hw (wf_one (x := v) ⟨hv.1, hv.2.1⟩) hx
      exact .inr ⟨y, hy, by omega⟩

theorem addV_bigsP {ms : List Lvl} (hm : ms.all validB = true) : ∀ (l : List LV) (s : List LV × Int), WF s.1 → bigS s → (∀ v ∈ l, okV v) → bigS (l.foldl (addVP ms) s)
  | [], s, _, h, _ => h
  | v :: l, s, hw, h, hl => addV_bigsP hm l _ (addV_wfP hm hw (hl v List.mem_cons_self)) (addV_bigP hm hw h (hl v List.mem_cons_self)) fun y hy => hl y (List.mem_cons_of_mem _ hy)

theorem repGo_eqP {ms : List Lvl} (hm : ms.all validB = true) : ∀ (l : List LV) (out : Lvl) (C : Int), (∀ v ∈ l, okV v) → WF out.vs → (∀ x ∈ out.vs, 0 ≤ x.2 ∧ x.2 ≤ 100) → 0 ≤ C → C ≤ 100 → out.c = trimC C out.vs →
    repGoP ms l out = limL ⟨(l.foldl (addVP ms) (out.vs, C)).2, (l.foldl (addVP ms) (out.vs, C)).1⟩
  | [], out, C, _, hw, ho, h0, h1, hc => by
    have hb : bigB ⟨C, out.vs⟩ = false := big_no (fun j x _ hx => (ho x (List.mem_of_getElem? hx)).2) h1
    show (out, 0) = limL ⟨C, out.vs⟩
    unfold limL
    rw [hb, if_neg (by simp), trim_eq h0 (fun x hx => (ho x hx).1), ← hc]
  | v :: l, out, C, hl, hw, ho, h0, h1, hc => by
    have hv := hl v List.mem_cons_self
    have hl' : ∀ y ∈ l, okV y := fun y hy => hl y (List.mem_cons_of_mem _ hy)
    rw [List.foldl_cons, repGoP]
    by_cases hh : hasVP ms v
    · have hV := valV_validP hm hh
      have hVw := wf_valid hV
      have hVc := valid_c hV
      have e1 : addVP ms (out.vs, C) v = (mergeV out.vs (upV v.2 (valVP ms v).vs), max C ((valVP ms v).c + v.2)) := if_pos hh
      have es : repStepP ms out v = (if (plusL (valVP ms v) v.2).2 = 0 then (joinL out (plusL (valVP ms v) v.2).1, (0 : Int)) else (⟨0, []⟩, (plusL (valVP ms v) v.2).2)) := if_pos hh
      have ep : plusL (valVP ms v) v.2 = if tooBig (valVP ms v) v.2 then (⟨0, []⟩, 15) else (⟨plusC (valVP ms v) v.2, upV v.2 (valVP ms v).vs⟩, 0) := by
        unfold plusL
        rw [if_neg (by rw [hV]; simp), if_neg (by have := hv.2.2; omega), if_neg (by have := hv.2.2; omega)]
      cases ht : tooBig (valVP ms v) v.2 with
      | true =>
        rw [ht, if_pos rfl] at ep
        have : bigS (addVP ms (out.vs, C) v) := by
          rw [e1]
          unfold tooBig at ht
          rcases Bool.or_eq_true_iff.1 ht with h | h
          · left
            have h2 := of_decide_eq_true h
            unfold plusC at h2
            dsimp only
            split at h2 <;> omega
          · obtain ⟨x, hx, h2⟩ := List.any_eq_true.1 h
            have h3 := of_decide_eq_true h2
            obtain ⟨y, hy, -, h4⟩ := merge_ge_r hw (wf_upV v.2 hVw) (upV_mem.2 ⟨x, hx, rfl⟩)
            exact .inr ⟨y, hy, by dsimp only at h4; omega⟩
        have hb := big_bigB (addV_bigsP hm l _ (addV_wfP hm hw hv) this hl')
        rw [es, ep, limL_big hb]
        rfl
      | false =>
        rw [ht, if_neg (by simp)] at ep
        obtain ⟨t1, t2⟩ := Bool.or_eq_false_iff.1 ht
        have t1 := of_decide_eq_false t1
        rw [List.any_eq_false] at t2
        rw [ep] at es
        rw [if_pos rfl] at es
        rw [es, if_pos rfl, e1]
        dsimp only
        rw [join_eq]
        have hwu := wf_upV v.2 hVw
        refine repGo_eqP hm l ⟨_, _⟩ _ hl' (wf_merge _ _ hw hwu) (fun x hx => ?_) (by omega) ?_ ?_
        · rcases merge_src hw hwu hx with h | h
          · exact ho x h
          · obtain ⟨y, hy, rfl⟩ := upV_mem.1 h
            have h2 := t2 y hy
            have h3 := okV_valid hV hy
            simp only [decide_eq_true_eq] at h2
            exact ⟨by have := h3.2.2.1; have := hv.2.2.1; dsimp only; omega, by dsimp only; omega⟩
        · by_cases hp : 0 < (valVP ms v).c ∨ (valVP ms v).vs = []
          · rw [plusC_yes hp] at t1; omega
          · have : (valVP ms v).c = 0 := by omega
            have := hv.2.2; omega
        · dsimp only
          have hmono : topOf 0 out.vs ≤ topOf 0 (mergeV out.vs (upV v.2 (valVP ms v).vs)) := topOf_mono fun x hx => by
            obtain ⟨y, hy, -, h⟩ := merge_ge_l hw hwu hx; exact ⟨y, hy, h⟩
          rw [hc]
          by_cases hp : 0 < (valVP ms v).c ∨ (valVP ms v).vs = []
          · rw [plusC_yes hp]
            exact trimC_more h0 (by have := hv.2.2; omega) merge_ne_l hmono
          · have hz : (valVP ms v).c = 0 := by omega
            have hne : (valVP ms v).vs ≠ [] := fun e => hp (.inr e)
            rw [plusC_no (by omega) hne, trimC_more h0 (by omega) merge_ne_l hmono, hz]
            obtain ⟨x, r, hx⟩ := List.exists_cons_of_ne_nil hne
            have hxm : x ∈ (valVP ms v).vs := by rw [hx]; exact List.mem_cons_self
            obtain ⟨y, hy, -, h4⟩ := merge_ge_r hw hwu (upV_mem.2 ⟨x, hxm, rfl⟩)
            have h5 := le_topOf (c := 0) hy
            have h6 := (okV_valid hV hxm).2.2.1
            have hmne : mergeV out.vs (upV v.2 (valVP ms v).vs) ≠ [] := by intro e; rw [e] at hy; cases hy
            have h7 := hv.2.2.1
            dsimp only at h4
            rw [trimC_low hmne (by omega), trimC_low hmne (by omega)]
    · have e1 : addVP ms (out.vs, C) v = (mergeV out.vs [v], C) := if_neg hh
      have es : repStepP ms out v = (joinL out ⟨0, [v]⟩, 0) := if_neg hh
      rw [es, if_pos rfl, e1]
      dsimp only
      rw [join_eq]
      have hwu : WF [v] := wf_one ⟨hv.1, hv.2.1⟩
      refine repGo_eqP hm l ⟨_, _⟩ _ hl' (wf_merge _ _ hw hwu) (fun x hx => ?_) h0 h1 ?_
      · rcases merge_src hw hwu hx with h | h
        · exact ho x h
        · simp only [List.mem_singleton] at h; subst h; exact hv.2.2
      · dsimp only
        have hmono : topOf 0 out.vs ≤ topOf 0 (mergeV out.vs [v]) := topOf_mono fun x hx => by
          obtain ⟨y, hy, -, h⟩ := merge_ge_l hw hwu hx; exact ⟨y, hy, h⟩
        rw [hc, trimC_more h0 (by omega) merge_ne_l hmono]
        have : max C 0 = C := by omega
        rw [this]

/-- what Assign gathers -/
def gathLP (L : Lvl) (ms : List Lvl) : Lvl := ⟨(L.vs.foldl (addVP ms) ([], L.c)).2, (L.vs.foldl (addVP ms) ([], L.c)).1⟩

theorem assL_gathP {L : Lvl} {ms : List Lvl} (h1 : validB L = true) (h2 : ms.all validB = true) : assLP L ms = limL (gathLP L ms) := by
  rw [assL_okP h1 h2]
  have := valid_c h1
  exact repGo_eqP h2 L.vs ⟨L.c, []⟩ L.c (fun v hv => okV_valid h1 hv) wf_nil (fun x hx => by cases hx) this.1 this.2 (by simp [trimC])

theorem gath_limLP {L : Lvl} {ms : List Lvl} (hL : validB L = true) (hm : ms.all validB = true) : RMap (L.vs.foldl (addSP ms) (imNil, L.c)).1 (gathLP L ms).vs ∧ (L.vs.foldl (addSP ms) (imNil, L.c)).2 = (gathLP L ms).c :=
  addV_foldP hm L.vs imNil [] L.c RMap.nil fun v hv => okV_valid hL hv

def leWP (ms : List Lvl) (v : LV) (B : Lvl) : Prop := if hasVP ms v then ((valVP ms v).c + v.2 ≤ topL B ∧ ∀ x ∈ (valVP ms v).vs, inB (x.1, x.2 + v.2) B) else inB v B

theorem addV_leP {ms : List Lvl} (hm : ms.all validB = true) {s : List LV × Int} (h : WF s.1) {v : LV} (hv : okV v) {B : Lvl} :
    ((addVP ms s v).2 ≤ topL B ∧ ∀ x ∈ (addVP ms s v).1, inB x B) ↔ (s.2 ≤ topL B ∧ ∀ x ∈ s.1, inB x B) ∧ leWP ms v B := by
  unfold addVP leWP
  by_cases hh : hasVP ms v
  · rw [if_pos hh, if_pos hh]
    dsimp only
    rw [inV_merge h (wf_upV v.2 (wf_valid (valV_validP hm hh)))]
    have e : max s.2 ((valVP ms v).c + v.2) ≤ topL B ↔ s.2 ≤ topL B ∧ (valVP ms v).c + v.2 ≤ topL B := by omega
    have e2 : (∀ x ∈ upV v.2 (valVP ms v).vs, inB x B) ↔ ∀ x ∈ (valVP ms v).vs, inB (x.1, x.2 + v.2) B := ⟨fun h x hx => h _ (upV_mem.2 ⟨x, hx, rfl⟩), fun h y hy => by obtain ⟨x, hx, rfl⟩ := upV_mem.1 hy; exact h x hx⟩
    rw [e, e2]
    constructor
    · rintro ⟨⟨h1, h2⟩, h3, h4⟩; exact ⟨⟨h1, h3⟩, h2, h4⟩
    · rintro ⟨⟨h1, h3⟩, h2, h4⟩; exact ⟨⟨h1, h2⟩, h3, h4⟩
  · rw [if_neg hh, if_neg hh]
    dsimp only
    rw [inV_merge h (wf_one ⟨hv.1, hv.2.1⟩)]
    simp [and_assoc]

theorem addV_lesP {ms : List Lvl} (hm : ms.all validB = true) {B : Lvl} : ∀ (l : List LV) (s : List LV × Int), WF s.1 → (∀ v ∈ l, okV v) →
    (((l.foldl (addVP ms) s).2 ≤ topL B ∧ ∀ x ∈ (l.foldl (addVP ms) s).1, inB x B) ↔ (s.2 ≤ topL B ∧ ∀ x ∈ s.1, inB x B) ∧ ∀ v ∈ l, leWP ms v B)
  | [], s, _, _ => by simp
  | v :: l, s, hs, hl => by
    have hv := hl v List.mem_cons_self
    rw [List.foldl_cons, addV_lesP hm l _ (addV_wfP hm hs hv) fun x hx => hl x (List.mem_cons_of_mem _ hx), addV_leP hm hs hv]
    simp [and_assoc]

theorem gath_leP {L : Lvl} {ms : List Lvl} (h1 : validB L = true) (h2 : ms.all validB = true) {B : Lvl} : leL (gathLP L ms) B ↔ L.c ≤ topL B ∧ ∀ v ∈ L.vs, leWP ms v B := by
  have := addV_lesP h2 (B := B) L.vs ([], L.c) wf_nil fun v hv => okV_valid h1 hv
  unfold leL gathLP
  dsimp only
  rw [this]
  simp

theorem addV_srcP {ms : List Lvl} (hm : ms.all validB = true) : ∀ (l : List LV) (s : List LV × Int), WF s.1 → (∀ v ∈ l, okV v) → s.2 ≤ (l.foldl (addVP ms) s).2 ∧
    ∀ y ∈ (l.foldl (addVP ms) s).1, y ∈ s.1 ∨ ∃ v ∈ l, (hasVP ms v ∧ ∃ x ∈ (valVP ms v).vs, y = (x.1, x.2 + v.2)) ∨ (¬ hasVP ms v ∧ y = v)
  | [], s, _, _ => ⟨Int.le_refl _, fun y hy => .inl hy⟩
  | v :: l, s, hs, hl => by
    have hv := hl v List.mem_cons_self
    obtain ⟨h1, h2⟩ := addV_srcP hm l _ (addV_wfP hm hs hv) fun x hx => hl x (List.mem_cons_of_mem _ hx)
    rw [List.foldl_cons]
    refine ⟨Int.le_trans ?_ h1, fun y hy => ?_⟩
    · unfold addVP; split
      · show s.2 ≤ max s.2 _; omega
      · exact Int.le_refl _
    · rcases h2 y hy with h | ⟨w, hw, h⟩
      · by_cases hh : hasVP ms v
        · have e : (addVP ms s v).1 = mergeV s.1 (upV v.2 (valVP ms v).vs) := by unfold addVP; rw [if_pos hh]
          rw [e] at h
          rcases merge_src hs (wf_upV v.2 (wf_valid (valV_validP hm hh))) h with h | h
          · exact .inl h
          · exact .inr ⟨v, List.mem_cons_self, .inl ⟨hh, upV_mem.1 h⟩⟩
        · have e : (addVP ms s v).1 = mergeV s.1 [v] := by unfold addVP; rw [if_neg hh]
          rw [e] at h
          rcases merge_src hs (wf_one ⟨hv.1, hv.2.1⟩) h with h | h
          · exact .inl h
          · exact .inr ⟨v, List.mem_cons_self, .inr ⟨hh, by simpa using h⟩⟩
      · exact .inr ⟨w, List.mem_cons_of_mem _ hw, h⟩

theorem gath_srcP {L : Lvl} {ms : List Lvl} (h1 : validB L = true) (h2 : ms.all validB = true) {y : LV} (hy : y ∈ (gathLP L ms).vs) : ∃ v ∈ L.vs, (hasVP ms v ∧ ∃ x ∈ (valVP ms v).vs, y = (x.1, x.2 + v.2)) ∨ (¬ hasVP ms v ∧ y = v) :=
  ((addV_srcP h2 L.vs ([], L.c) wf_nil fun v hv => okV_valid h1 hv).2 y hy).resolve_left fun h => by cases h

theorem gath_goodP {L : Lvl} {ms : List Lvl} (h1 : validB L = true) (h2 : ms.all validB = true) : GoodL (gathLP L ms) := by
  refine ⟨(gath_limLP h1 h2).1.wf, ?_, fun y hy => ?_⟩
  · have := (addV_srcP h2 L.vs ([], L.c) wf_nil fun v hv => okV_valid h1 hv).1
    have h3 := (valid_c h1).1
    show 0 ≤ (L.vs.foldl (addVP ms) ([], L.c)).2
    dsimp only at this
    omega
  · obtain ⟨v, hv, ⟨hh, x, hx, rfl⟩ | ⟨-, rfl⟩⟩ := gath_srcP h1 h2 hy
    · have := (okV_valid (valV_validP h2 hh) hx).2.2.1
      have := (okV_valid h1 hv).2.2.1
      show 0 ≤ x.2 + v.2
      omega
    · exact (okV_valid h1 hv).2.2.1

/-- what Assign says, where it does not fail -/
theorem ass_okP {L : Lvl} {ms : List Lvl} (h1 : validB L = true) (h2 : ms.all validB = true) (he : (assLP L ms).2 = 0) :
    (assLP L ms).1 = trimL (gathLP L ms) ∧ topL (gathLP L ms) ≤ 100 ∧ validB (assLP L ms).1 = true ∧ leL (assLP L ms).1 (gathLP L ms) ∧ leL (gathLP L ms) (assLP L ms).1 := by
  have g := gath_goodP h1 h2
  rw [assL_gathP h1 h2] at he ⊢
  obtain ⟨e, ht⟩ := lim_ok he
  rw [e]
  exact ⟨rfl, ht, valid_trim g ht, trim_eqv g.c⟩

theorem ass_errP {L : Lvl} {ms : List Lvl} (h1 : validB L = true) (h2 : ms.all validB = true) : (assLP L ms).2 = 0 ↔ topL (gathLP L ms) ≤ 100 := by
  rw [assL_gathP h1 h2, lim_err]
end

end Go.Proofs.YtcapifnaceegmaaGreatDoor
