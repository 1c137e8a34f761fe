/- Mirrors of layer 1: Subst. Plain laws of layer 1: Subst. -/
import Derived.Test.YtcapifnaceegmaaGreatDoorPl12
import Derived.Test.YtcapifnaceegmaaGreatDoorKy
import Derived.Test.YtcapifnaceegmaaGreatDoorPg
namespace Go.Proofs.YtcapifnaceegmaaGreatDoor
section
open Go.RowKit Go.Shelf
set_option linter.unusedSimpArgs false
set_option linter.unusedVariables false

theorem en_34 : Enters Tryz.prog 34 := enters_of Tryz.func34 (by kernel_rfl) rfl
def m34_l0 (x16 : Lvl) (x9 : LV) (s3 : Int × IMap) : Option (LO (Int × IMap) IMap) :=
  cond (decide (s3.1 < (x16.vs.length : Int)))
    (Option.bind (idx x16.vs s3.1) fun (x21 : LV) =>
  Option.bind (Option.bind (cond (!(imHas s3.2 x21.1))
    (some true)
    (some (decide ((imVal s3.2 x21.1) < (w64 (x21.2 + x9.2)))))) (fun (v24 : Bool) => cond v24
    (some (imSet s3.2 x21.1 (w64 (x21.2 + x9.2))))
    (some s3.2))) (fun (y22 : IMap) => some (.next ((w64 (s3.1 + 1)), y22))))
    (some (.done s3.2))

def m34_l1 (a0 : Lvl) (a1 : List Lvl) (s1 : Int × IMap × Int) : Option (LO (Int × IMap × Int) ((IMap × Int))) :=
  cond (decide (s1.1 < (a0.vs.length : Int)))
    (Option.bind (idx a0.vs s1.1) fun (x9 : LV) =>
  cond (decide (x9.1 < 0))
    (Option.bind (Option.bind (cond (!(imHas s1.2.1 x9.1))
    (some true)
    (some (decide ((imVal s1.2.1 x9.1) < x9.2)))) (fun (v13 : Bool) => cond v13
    (some (imSet s1.2.1 x9.1 x9.2))
    (some s1.2.1))) (fun (y11 : IMap) => some (.next ((w64 (s1.1 + 1)), y11, s1.2.2))))
    (Option.bind (idx a1 x9.1) fun (x16 : Lvl) =>
  Option.bind (Option.bind (loopN (m34_l0 x16 x9) FUEL (0, s1.2.1)) (fun (o19 : IMap) => some o19)) (fun (y17 : IMap) => some (.next ((w64 (s1.1 + 1)), y17, (max s1.2.2 (w64 (x16.c + x9.2))))))))
    (some (.done (s1.2.1, s1.2.2)))

def m34_l2 (o7 : IMap × Int) (s2 : Int × (List LV)) : Option (LO (Int × (List LV)) (((List LV)))) :=
  cond (decide (s2.1 < ((imKeys o7.1).length : Int)))
    (Option.bind (idx (imKeys o7.1) s2.1) fun (x15 : Int) =>
  guardO (Nat.ble (s2.2.length + ([(x15, (imVal o7.1 x15))]).length) 1000000000)
  (some (.next ((w64 (s2.1 + 1)), (s2.2 ++ ([(x15, (imVal o7.1 x15))]))))))
    (some (.done s2.2))

/-- euclid/level.Subst -/
def m34 (a0 : Lvl) (a1 : List Lvl) : Option (Lvl × Int) :=
  Option.bind (guardO (Nat.ble a0.vs.length 100000)
  (cond (!(validB a0))
    (some true)
    (guardO (lensB a1)
  (some (!(a1.all validB)))))) (fun (v1 : Bool) => cond v1
    (some ((⟨0, ([] : List LV)⟩ : Lvl), 3))
    (Option.bind (m40 a0) fun (x3 : Int) =>
  cond (decide ((a1.length : Int) < x3))
    (some ((⟨0, ([] : List LV)⟩ : Lvl), 24))
    (Option.bind (some ()) (fun (y5 : Unit) => Option.bind (loopN (m34_l1 a0 a1) FUEL (0, imNil, a0.c)) (fun (o7 : IMap × Int) => Option.bind (Option.bind (some ()) (fun (y10 : Unit) => guardO (imOk o7.1)
  (Option.bind (loopN (m34_l2 o7) FUEL (0, ([] : List LV))) (fun (o13 : (List LV)) => guardO (Nat.ble (⟨o7.2, o13⟩ : Lvl).vs.length 100000)
  (some ((limL (⟨o7.2, o13⟩ : Lvl)).2, ((limL (⟨o7.2, o13⟩ : Lvl)).1).c, ((limL (⟨o7.2, o13⟩ : Lvl)).1).vs)))))) (fun (y8 : Int × Int × (List LV)) => some ((⟨y8.2.1, y8.2.2⟩ : Lvl), y8.1)))))))

set_option maxRecDepth 100000 in
set_option maxHeartbeats 8000000 in
theorem m34_ok (a0 : Lvl) (a1 : List Lvl) (r : Lvl × Int) (h0 : m34 a0 a1 = some r) : Fun Tryz.prog 34 [.agg (cE a0), .one (dS a1)] (resOf [.agg (cE r.1), .one (dI r.2)]) := by
  unfold m34 at h0
  refine Fun.of_bodyM 9 63 Tryz.func34 rfl en_34 rfl (lb rfl) (fun S w => ?_)
  simp only [entry]
  refine XC.seq <| XC.region <| XL.put rfl rfl (lb rfl) (OpOK.box rfl) <| XL.put rfl rfl (lb rfl) (OpOK.alloc z_24 rfl) <| rA rfl rfl rfl <| XL.nil <| XQ.seq <| XC.seq <| XC.seq ?_
  refine XC.joinR (fun (v1 : Bool) => ⟨[(1, .v (.one (dS a1))), (2, .v (.one (.ptr 0 0))), (4, .v (.one (.ptr 1 0))), (16, .v (.one (dB v1)))], [(0, .cells 24 (cE a0)), (1, .cells 24 [dI 0, dN])], [], 2, 63, []⟩) (fun (v1 : Bool) => (cond v1
      (some ((⟨0, ([] : List LV)⟩ : Lvl), 3))
      (Option.bind (m40 a0) fun (x3 : Int) =>
    cond (decide ((a1.length : Int) < x3))
      (some ((⟨0, ([] : List LV)⟩ : Lvl), 24))
      (Option.bind (some ()) (fun (y5 : Unit) => Option.bind (loopN (m34_l1 a0 a1) FUEL (0, imNil, a0.c)) (fun (o7 : IMap × Int) => Option.bind (Option.bind (some ()) (fun (y10 : Unit) => guardO (imOk o7.1)
    (Option.bind (loopN (m34_l2 o7) FUEL (0, ([] : List LV))) (fun (o13 : (List LV)) => guardO (Nat.ble (⟨o7.2, o13⟩ : Lvl).vs.length 100000)
    (some ((limL (⟨o7.2, o13⟩ : Lvl)).2, ((limL (⟨o7.2, o13⟩ : Lvl)).1).c, ((limL (⟨o7.2, o13⟩ : Lvl)).1).vs)))))) (fun (y8 : Int × Int × (List LV)) => some ((⟨y8.2.1, y8.2.2⟩ : Lvl), y8.1))))))) = some r) ?_ ?_
  ·
   refine bindK h0 (fun v_ h1 h0 => ?_)
   refine XC.region <| rR rfl rfl rfl (RO.loadOwnAgg ag_24 rfl rfl rfl rfl) ?_
   refine guardK h1 (fun g2 h1 => ?_)
   refine XL.put rfl rfl (lb rfl) (OpOK.callFun (valid_fun a0 (Nat.le_of_ble_eq_true g2)) rfl (.cons (.agg (.cons (.d _) (.cons (.d _) .nil))) .nil)) ?_
   refine rR rfl rfl rfl (RO.not rfl) <| rM rfl rfl rfl ?_
   refine XL.case (d := 12) (c := (!(validB a0))) rfl (fun c3 => ?_) (fun c3 => ?_)
   ·
    replace h1 := condT c3 h1
    refine XL.no rfl rfl <| XL.no rfl rfl <| XL.no rfl rfl <| rR rfl rfl rfl (RO.pickT rfl rfl) <| XL.nil ?_
    have e_ := Option.some.inj h1
    subst e_
    exact XQ.joinR true (stle (tR rfl (tR rfl (tR rfl (tR rfl tZ)))) (hR rfl (hR rfl hZ)) kZ rfl (Nat.zero_le _) rfl rfl rfl (bB rfl rfl (bB rfl rfl bZ)) rfl rfl) h0
   ·
    replace h1 := condF c3 h1
    refine rM rfl rfl rfl ?_
    refine guardK h1 (fun g4 h1 => ?_)
    refine XL.put rfl rfl (lb rfl) (OpOK.callFun (allValidF a1 g4) rfl (.cons (.one (.d _)) .nil)) <| rR rfl rfl rfl (RO.not rfl) <| rR rfl rfl rfl (RO.pickF rfl rfl) <| XL.nil ?_
    have e_ := Option.some.inj h1
    subst e_
    exact XQ.joinR (!(a1.all validB)) (stle (tR rfl (tR rfl (tR rfl (tR rfl tZ)))) (hR rfl (hR rfl hZ)) kZ rfl (Nat.zero_le _) rfl rfl rfl (bB rfl rfl (bB rfl rfl bZ)) rfl rfl) h0
  ·
   intro v1 h0
   refine XQ.seq ?_
   refine XC.cond (b := v1) rfl (fun c5 => ?_) (fun c5 => ?_)
   ·
    replace h0 := condT c5 h0
    refine XC.seq <| XC.region <| rR rfl rfl rfl (RO.build0 bd_24 rfl ) <| XL.eff rfl rfl (OpOK.store ag_24 rfl rfl rfl rfl (lb rfl) rfl) <| rA rfl rfl rfl <| XL.nil <| XQ.seq <| XC.ret ?_
    have e_ := Option.some.inj h0
    subst e_
    exact XQ.retF (fun _ _ h => h) rfl (RAs.agg ag_24 rfl rfl rfl rfl (RAs.tmp rfl .nil)) (.cons (.agg (.cons (.d _) (.cons (.nil _) .nil))) (.cons (.one (.d _)) .nil))
   ·
    replace h0 := condF c5 h0
    refine XC.skip <| XQ.seq <| XC.seq <| XC.seq <| XC.region <| rR rfl rfl rfl (RO.loadOwnAgg ag_24 rfl rfl rfl rfl) ?_
    refine bindK h0 (fun x6 hx6 h0 => ?_)
    refine XL.put rfl rfl (lb rfl) (OpOK.callFun (m40_ok a0 x6 hx6) rfl (.cons (.agg (.cons (.d _) (.cons (.d _) .nil))) .nil)) <| rM rfl rfl rfl <| rR rfl rfl rfl (RO.lenE (α := Lvl) sl_55 rfl (.d _)) <| rR rfl rfl rfl (RO.binInt rfl rfl rfl) <| XL.nil <| XQ.seq ?_
    refine XC.cond (b := (decide ((a1.length : Int) < x6))) rfl (fun c7 => ?_) (fun c7 => ?_)
    ·
     replace h0 := condT c7 h0
     refine XC.seq <| XC.region <| rR rfl rfl rfl (RO.build0 bd_24 rfl ) <| XL.eff rfl rfl (OpOK.store ag_24 rfl rfl rfl rfl (lb rfl) rfl) <| rA rfl rfl rfl <| XL.nil <| XQ.seq <| XC.ret ?_
     have e_ := Option.some.inj h0
     subst e_
     exact XQ.retF (fun _ _ h => h) rfl (RAs.agg ag_24 rfl rfl rfl rfl (RAs.tmp rfl .nil)) (.cons (.agg (.cons (.d _) (.cons (.nil _) .nil))) (.cons (.one (.d _)) .nil))
    ·
     replace h0 := condF c7 h0
     refine XC.skip <| XQ.seq <| XC.seq <| XC.region ?_
     refine bindK h0 (fun y8 h1 h0 => ?_)
     have hc9 : CallM Tryz.prog 52 [] ⟨[(0, .cells 24 (cE a0)), (1, .cells 24 [dI 0, dN])], [], 2⟩ (resOf [.one (.ptr 3 0)]) ⟨[(0, .cells 24 (cE a0)), (1, .cells 24 [dI 0, dN]), (2, .mp (imE imNil.1) imNil.2), (3, .cells 100 [.mp 2, dI 0])], [], 4⟩ := by
      refine CallM.of_bodyD ⟨[(0, .v (.one (.ptr 3 0)))], [(0, .cells 24 (cE a0)), (1, .cells 24 [dI 0, dN]), (2, .mp (imE imNil.1) imNil.2), (3, .cells 100 [.mp 2, dI 0])], [], 4, 4, []⟩ rfl rfl en_52 (lb rfl) rfl (RAs.tmp rfl .nil) (fun w0 M V0 Q hv1 hQ1 => ?_)
      simp only [entry]
      refine XC.seq <| XC.region <| rA rfl rfl rfl <| XL.nil <| XQ.seq <| XC.seq <| XC.region <| XL.put rfl rfl (lb rfl) (OpOK.makeMapI) <| rR rfl rfl rfl (RO.build1 bd_100 rfl rfl rfl) <| XL.put rfl rfl (lb rfl) (OpOK.box rfl) <| rA rfl rfl rfl <| XL.nil <| XQ.seq <| XC.ret ?_
      have e_ := Option.some.inj h1
      subst e_
      exact hQ1 _ _ _ (.inr rfl) rfl (stle (tR rfl tZ) (hR rfl (hR rfl (hR rfl (hR rfl hZ)))) kZ rfl (Nat.le_trans hv1 (lb rfl)) rfl rfl rfl (bB rfl rfl (bB rfl rfl (bM rfl (bB rfl rfl bZ)))) rfl rfl)
     refine XL.put rfl rfl (lb rfl) (OpOK.callW rfl rfl rfl hc9 rfl (hR rfl (hR rfl hZ)) kZ) <| rA rfl rfl rfl <| XL.nil <| XQ.seq <| XC.seq <| XC.region <| rM rfl rfl rfl <| rR rfl rfl rfl (RO.fieldOwn fo_24_0 rfl) <| rR rfl rfl rfl (RO.loadOwn ag_3 rfl rfl rfl) <| rR rfl rfl rfl (RO.nilCheckPtr rfl) <| rR rfl rfl rfl (RO.fieldOwn fo_100_1 rfl) <| XL.eff rfl rfl (OpOK.store ag_3 rfl rfl rfl rfl (lb rfl) rfl) <| XL.nil <| XQ.seq ?_
     refine XC.seq <| XC.seq <| XC.region <| rR rfl rfl rfl (RO.fieldOwn fo_24_1 rfl) <| rR rfl rfl rfl (RO.loadOwn ag_22 rfl rfl rfl) <| rR rfl rfl rfl (RO.lenE (α := LV) sl_22 rfl (.d _)) <| rM rfl rfl rfl <| XL.nil <| XQ.seq <| XC.block ?_
     refine XC.joinX 0 (fun (o10 : IMap × Int) => ⟨[(4, .v (.one (.ptr 1 0))), (6, .v (.one (.ptr 3 0)))], [(0, .cells 24 (cE a0)), (1, .cells 24 [dI 0, dN]), (2, .mp (imE o10.1.1) o10.1.2), (3, .cells 100 [.mp 2, dI o10.2])], [], 4, 63, []⟩) (fun (o10 : IMap × Int) => (Option.bind (Option.bind (some ()) (fun (y13 : Unit) => guardO (imOk o10.1)
       (Option.bind (loopN (m34_l2 o10) FUEL (0, ([] : List LV))) (fun (o16 : (List LV)) => guardO (Nat.ble (⟨o10.2, o16⟩ : Lvl).vs.length 100000)
       (some ((limL (⟨o10.2, o16⟩ : Lvl)).2, ((limL (⟨o10.2, o16⟩ : Lvl)).1).c, ((limL (⟨o10.2, o16⟩ : Lvl)).1).vs)))))) (fun (y11 : Int × Int × (List LV)) => some ((⟨y11.2.1, y11.2.2⟩ : Lvl), y11.1))) = some r) ?_ ?_
     ·
      refine bindK h0 (fun o11 hl1 h0 => ?_)
      refine XC.loopM (m34_l1 a0 a1) (fun s1 => ⟨[(1, .v (.one (dS a1))), (4, .v (.one (.ptr 1 0))), (6, .v (.one (.ptr 3 0))), (31, .v (.one (dS a0.vs))), (32, .v (.one (dI (a0.vs.length : Int)))), (33, .v (.one (dI s1.1)))], [(0, .cells 24 (cE a0)), (1, .cells 24 [dI 0, dN]), (2, .mp (imE s1.2.1.1) s1.2.1.2), (3, .cells 100 [.mp 2, dI s1.2.2])], [], 4, 63, []⟩) (0, imNil, a0.c) o11 (stle (tR rfl (tR rfl (tR rfl (tR rfl (tR rfl (tR rfl tZ)))))) (hR rfl (hR rfl (hR rfl (hR rfl hZ)))) kZ rfl (Nat.zero_le _) rfl rfl rfl (bB rfl rfl (bB rfl rfl (bM rfl (bB rfl rfl bZ)))) rfl rfl) hl1 (fun s1 n1 oo1 h1 ho1 => ?_)
      unfold m34_l1 at h1
      refine XC.seq <| XC.region <| rR rfl rfl rfl (RO.binInt rfl rfl rfl) <| XL.nil <| XQ.seq <| XC.seq ?_
      refine XC.cond (b := (decide (s1.1 < (a0.vs.length : Int)))) rfl (fun c12 => ?_) (fun c12 => ?_)
      ·
       replace h1 := condT c12 h1
       refine XC.skip <| XQ.seq <| XC.seq <| XC.block <| XC.seq <| XC.region ?_
       refine bindK h1 (fun x13 hx13 h1 => ?_)
       refine rR rfl rfl rfl (RO.indexE (α := LV) sl_22 rfl (.d _) rfl hx13) <| rR rfl rfl rfl (RO.loadPelAgg ag_69 rfl rfl rfl) <| XL.put rfl rfl (lb rfl) (OpOK.alloc z_69 rfl) <| XL.eff rfl rfl (OpOK.store ag_69 rfl rfl rfl rfl (lb rfl) rfl) <| XL.nil <| XQ.seq <| XC.seq <| XC.region <| rR rfl rfl rfl (RO.fieldOwn fo_69_0 rfl) <| rR rfl rfl rfl (RO.loadOwn ag_3 rfl rfl rfl) <| rR rfl rfl rfl (RO.binInt rfl rfl rfl) <| XL.nil <| XQ.seq ?_
       refine XC.cond (b := (decide (x13.1 < 0))) rfl (fun c14 => ?_) (fun c14 => ?_)
       ·
        replace h1 := condT c14 h1
        refine XC.anyRun [8] [] mixed (by kernel_rfl) (by kernel_rfl) (by kernel_rfl) ?_
        refine RunA.rd rfl rfl rfl (OpOK.of_ro (RO.move rfl)) rfl <| RunA.rd rfl rfl rfl (OpOK.of_ro (RO.nilCheckPtr rfl)) rfl <| RunA.rd rfl rfl rfl (OpOK.of_ro (RO.fieldOwn fo_100_0 rfl)) rfl <| RunA.rd rfl rfl rfl (OpOK.of_ro (RO.loadOwn ag_98 rfl rfl rfl)) rfl <| RunA.rd rfl rfl rfl (OpOK.of_ro (RO.fieldOwn fo_69_0 rfl)) rfl <| RunA.rd rfl rfl rfl (OpOK.of_ro (RO.loadOwn ag_3 rfl rfl rfl)) rfl <| RunA.rd rfl rfl rfl (OpOK.of_ro (RO.fieldOwn fo_69_1 rfl)) rfl <| RunA.rd rfl rfl rfl (OpOK.of_ro (RO.loadOwn ag_3 rfl rfl rfl)) rfl ?_
        refine bindK h1 (fun y15 h2 h1 => ?_)
        have hc16 : CallM Tryz.prog 70 [.one (.mp 2), .one (dI x13.1), .one (dI x13.2)] ⟨[(0, .cells 24 (cE a0)), (1, .cells 24 [dI 0, dN]), (2, .mp (imE s1.2.1.1) s1.2.1.2), (3, .cells 100 [.mp 2, dI s1.2.2]), (4, .cells 69 (cE x13))], [], 5⟩ (resOf []) ⟨[(0, .cells 24 (cE a0)), (1, .cells 24 [dI 0, dN]), (2, .mp (imE y15.1) y15.2), (3, .cells 100 [.mp 2, dI s1.2.2]), (4, .cells 69 (cE x13))], [], 5⟩ := by
         refine CallM.of_bodyD ⟨[], [(0, .cells 24 (cE a0)), (1, .cells 24 [dI 0, dN]), (2, .mp (imE y15.1) y15.2), (3, .cells 100 [.mp 2, dI s1.2.2]), (4, .cells 69 (cE x13))], [], 5, 24, []⟩ rfl rfl en_70 (lb rfl) rfl .nil (fun w0 M V0 Q hv2 hQ2 => ?_)
         simp only [entry]
         refine XC.seq <| XC.region <| rM rfl rfl rfl <| rM rfl rfl rfl <| rR rfl rfl rfl (RO.lookupT mp_98 rfl rfl rfl) <| rM rfl rfl rfl <| rR rfl rfl rfl (RO.extract rfl rfl) <| rR rfl rfl rfl (RO.extract rfl rfl) <| rA rfl rfl rfl <| rA rfl rfl rfl <| XL.nil <| XQ.seq <| XC.seq ?_
         refine XC.joinR (fun (v17 : Bool) => ⟨[(0, .v (.one (.mp 2))), (1, .v (.one (dI x13.1))), (2, .v (.one (dI x13.2))), (20, .v (.one (dB v17)))], [(0, .cells 24 (cE a0)), (1, .cells 24 [dI 0, dN]), (2, .mp (imE s1.2.1.1) s1.2.1.2), (3, .cells 100 [.mp 2, dI s1.2.2]), (4, .cells 69 (cE x13))], [], 5, 24, []⟩) (fun (v17 : Bool) => (cond v17
             (some (imSet s1.2.1 x13.1 x13.2))
             (some s1.2.1)) = some y15) ?_ ?_
         ·
          refine bindK h2 (fun v_ h3 h2 => ?_)
          refine XC.region <| rM rfl rfl rfl <| rR rfl rfl rfl (RO.not rfl) <| rM rfl rfl rfl ?_
          refine XL.case (d := 16) (c := (!(imHas s1.2.1 x13.1))) rfl (fun c18 => ?_) (fun c18 => ?_)
          ·
           replace h3 := condT c18 h3
           refine XL.no rfl rfl <| XL.no rfl rfl <| XL.no rfl rfl <| rR rfl rfl rfl (RO.pickT rfl rfl) <| XL.nil ?_
           have e_ := Option.some.inj h3
           subst e_
           exact XQ.joinR true (stle (tR rfl (tR rfl (tR rfl (tR rfl tZ)))) (hR rfl (hR rfl (hR rfl (hR rfl (hR rfl hZ))))) kZ rfl (Nat.le_trans hv2 (lb rfl)) rfl rfl rfl (bB rfl rfl (bB rfl rfl (bM rfl (bB rfl rfl (bB rfl rfl bZ))))) rfl rfl) h2
          ·
           replace h3 := condF c18 h3
           refine rM rfl rfl rfl <| rM rfl rfl rfl <| rR rfl rfl rfl (RO.binInt rfl rfl rfl) <| rR rfl rfl rfl (RO.pickF rfl rfl) <| XL.nil ?_
           have e_ := Option.some.inj h3
           subst e_
           exact XQ.joinR (decide ((imVal s1.2.1 x13.1) < x13.2)) (stle (tR rfl (tR rfl (tR rfl (tR rfl tZ)))) (hR rfl (hR rfl (hR rfl (hR rfl (hR rfl hZ))))) kZ rfl (Nat.le_trans hv2 (lb rfl)) rfl rfl rfl (bB rfl rfl (bB rfl rfl (bM rfl (bB rfl rfl (bB rfl rfl bZ))))) rfl rfl) h2
         ·
          intro v17 h2
          refine XQ.seq ?_
          refine XC.cond (b := v17) rfl (fun c19 => ?_) (fun c19 => ?_)
          ·
           replace h2 := condT c19 h2
           refine XC.region <| rM rfl rfl rfl <| rM rfl rfl rfl <| rM rfl rfl rfl <| XL.eff rfl rfl (OpOK.mapSetI mp_98 rfl rfl rfl rfl rfl) <| XL.nil ?_
           have e_ := Option.some.inj h2
           subst e_
           exact hQ2 _ _ _ (.inl rfl) rfl (stle tZ (hR rfl (hR rfl (hR rfl (hR rfl (hR rfl hZ))))) kZ rfl (Nat.le_trans hv2 (lb rfl)) rfl rfl rfl (bB rfl rfl (bB rfl rfl (bM rfl (bB rfl rfl (bB rfl rfl bZ))))) rfl rfl)
          ·
           replace h2 := condF c19 h2
           refine XC.skip ?_
           have e_ := Option.some.inj h2
           subst e_
           exact hQ2 _ _ _ (.inl rfl) rfl (stle tZ (hR rfl (hR rfl (hR rfl (hR rfl (hR rfl hZ))))) kZ rfl (Nat.le_trans hv2 (lb rfl)) rfl rfl rfl (bB rfl rfl (bB rfl rfl (bM rfl (bB rfl rfl (bB rfl rfl bZ))))) rfl rfl)
        refine RunA.eff rfl rfl rfl (OpOK.callW rfl rfl rfl hc16 rfl (hR rfl (hR rfl (hR rfl (hR rfl (hR rfl hZ))))) kZ) rfl ?_
        refine RunA.nil ⟨?ex, _, _, rfl, ?_⟩
        case ex => exact trivial
        refine XQ.less (st' := ⟨[(1, .v (.one (dS a1))), (4, .v (.one (.ptr 1 0))), (6, .v (.one (.ptr 3 0))), (31, .v (.one (dS a0.vs))), (32, .v (.one (dI (a0.vs.length : Int)))), (33, .v (.one (dI s1.1)))], [(0, .cells 24 (cE a0)), (1, .cells 24 [dI 0, dN]), (2, .mp (imE y15.1) y15.2), (3, .cells 100 [.mp 2, dI s1.2.2]), (4, .cells 69 (cE x13))], [], 5, 63, []⟩) (stle (tR rfl (tR rfl (tR rfl (tR rfl (tR rfl (tR rfl tZ)))))) (hR rfl (hR rfl (hR rfl (hR rfl (hR rfl hZ))))) kZ rfl (Nat.zero_le _) rfl rfl rfl (bB rfl rfl (bB rfl rfl (bM rfl (bB rfl rfl (bB rfl rfl bZ))))) rfl rfl) <| XQ.inBlock <| XQ.seq <| XC.region <| rR rfl rfl rfl (RO.binInt rfl rfl rfl) <| rM rfl rfl rfl <| XL.nil ?_
        have e_ := Option.some.inj h1
        subst e_
        refine XQ.nextM ((w64 (s1.1 + 1)), y15, s1.2.2) (stle (tR rfl (tR rfl (tR rfl (tR rfl (tR rfl (tR rfl tZ)))))) (hR rfl (hR rfl (hR rfl (hR rfl hZ)))) kZ rfl (Nat.zero_le _) rfl rfl rfl (bB rfl rfl (bB rfl rfl (bM rfl (bB rfl rfl bZ)))) rfl rfl) ho1
       ·
        replace h1 := condF c14 h1
        refine XC.anyRun [8] [] mixed (by kernel_rfl) (by kernel_rfl) (by kernel_rfl) ?_
        refine RunA.rd rfl rfl rfl (OpOK.of_ro (RO.move rfl)) rfl <| RunA.rd rfl rfl rfl (OpOK.of_ro (RO.move rfl)) rfl <| RunA.rd rfl rfl rfl (OpOK.of_ro (RO.fieldOwn fo_69_0 rfl)) rfl <| RunA.rd rfl rfl rfl (OpOK.of_ro (RO.loadOwn ag_3 rfl rfl rfl)) rfl ?_
        refine bindK h1 (fun x20 hx20 h1 => ?_)
        refine RunA.rd rfl rfl rfl (OpOK.of_ro (RO.indexE (α := Lvl) sl_55 rfl (.d _) rfl hx20)) rfl <| RunA.rd rfl rfl rfl (OpOK.of_ro (RO.loadPelAgg ag_24 rfl rfl rfl)) rfl <| RunA.rd rfl rfl rfl (OpOK.of_ro (RO.fieldOwn fo_69_1 rfl)) rfl <| RunA.rd rfl rfl rfl (OpOK.of_ro (RO.loadOwn ag_3 rfl rfl rfl)) rfl ?_
        refine bindK h1 (fun y21 h2 h1 => ?_)
        have hc22 : CallM Tryz.prog 71 [.one (.ptr 3 0), .agg (cE x20), .one (dI x13.2)] ⟨[(0, .cells 24 (cE a0)), (1, .cells 24 [dI 0, dN]), (2, .mp (imE s1.2.1.1) s1.2.1.2), (3, .cells 100 [.mp 2, dI s1.2.2]), (4, .cells 69 (cE x13))], [], 5⟩ (resOf []) ⟨[(0, .cells 24 (cE a0)), (1, .cells 24 [dI 0, dN]), (2, .mp (imE y21.1) y21.2), (3, .cells 100 [.mp 2, dI (max s1.2.2 (w64 (x20.c + x13.2)))]), (4, .cells 69 (cE x13))], [], 6⟩ := by
         refine CallM.of_bodyD ⟨[], [(0, .cells 24 (cE a0)), (1, .cells 24 [dI 0, dN]), (2, .mp (imE y21.1) y21.2), (3, .cells 100 [.mp 2, dI (max s1.2.2 (w64 (x20.c + x13.2)))]), (4, .cells 69 (cE x13))], [], 6, 39, []⟩ rfl rfl en_71 (lb rfl) rfl .nil (fun w0 M V0 Q hv2 hQ2 => ?_)
         simp only [entry]
         refine XC.seq <| XC.region <| XL.put rfl rfl (lb rfl) (OpOK.box rfl) <| XL.nil <| XQ.seq <| XC.seq ?_
         refine XC.anyRun [12] [] mixed (by kernel_rfl) (by kernel_rfl) (by kernel_rfl) ?_
         refine RunA.rd rfl rfl rfl (OpOK.of_ro (RO.move rfl)) rfl <| RunA.rd rfl rfl rfl (OpOK.of_ro (RO.move rfl)) rfl <| RunA.rd rfl rfl rfl (OpOK.of_ro (RO.nilCheckPtr rfl)) rfl <| RunA.rd rfl rfl rfl (OpOK.of_ro (RO.fieldOwn fo_100_1 rfl)) rfl <| RunA.rd rfl rfl rfl (OpOK.of_ro (RO.loadOwn ag_3 rfl rfl rfl)) rfl <| RunA.rd rfl rfl rfl (OpOK.of_ro (RO.fieldOwn fo_24_0 rfl)) rfl <| RunA.rd rfl rfl rfl (OpOK.of_ro (RO.loadOwn ag_3 rfl rfl rfl)) rfl <| RunA.rd rfl rfl rfl (OpOK.of_ro (RO.move rfl)) rfl <| RunA.rd rfl rfl rfl (OpOK.of_ro (RO.binInt rfl rfl rfl)) rfl <| RunA.rd rfl rfl rfl (OpOK.of_ro (RO.max2 rfl rfl)) rfl <| RunA.rd rfl rfl rfl (OpOK.of_ro (RO.nilCheckPtr rfl)) rfl <| RunA.rd rfl rfl rfl (OpOK.of_ro (RO.fieldOwn fo_100_1 rfl)) rfl <| RunA.eff rfl rfl rfl (OpOK.store ag_3 rfl rfl rfl rfl (lb rfl) rfl) rfl ?_
         refine RunA.nil ⟨?ex, _, _, rfl, ?_⟩
         case ex => exact trivial
         refine XQ.less (st' := ⟨[(0, .v (.one (.ptr 3 0))), (2, .v (.one (dI x13.2))), (4, .v (.one (.ptr 5 0)))], [(0, .cells 24 (cE a0)), (1, .cells 24 [dI 0, dN]), (2, .mp (imE s1.2.1.1) s1.2.1.2), (3, .cells 100 [.mp 2, dI (max s1.2.2 (w64 (x20.c + x13.2)))]), (4, .cells 69 (cE x13)), (5, .cells 24 (cE x20))], [], 6, 39, []⟩) (stle (tR rfl (tR rfl (tR rfl tZ))) (hR rfl (hR rfl (hR rfl (hR rfl (hR rfl (hR rfl hZ)))))) kZ rfl (Nat.le_trans hv2 (lb rfl)) rfl rfl rfl (bB rfl rfl (bB rfl rfl (bM rfl (bB rfl rfl (bB rfl rfl (bB rfl rfl bZ)))))) rfl rfl) <| XQ.seq <| XC.seq <| XC.region <| rR rfl rfl rfl (RO.fieldOwn fo_24_1 rfl) <| rR rfl rfl rfl (RO.loadOwn ag_22 rfl rfl rfl) <| rR rfl rfl rfl (RO.lenE (α := LV) sl_22 rfl (.d _)) <| rM rfl rfl rfl <| XL.nil <| XQ.seq <| XC.block ?_
         refine XC.joinX 0 (fun (o23 : IMap) => ⟨[], [(0, .cells 24 (cE a0)), (1, .cells 24 [dI 0, dN]), (2, .mp (imE o23.1) o23.2), (3, .cells 100 [.mp 2, dI (max s1.2.2 (w64 (x20.c + x13.2)))]), (4, .cells 69 (cE x13)), (5, .cells 24 (cE x20))], [], 6, 39, []⟩) (fun (o23 : IMap) => (some o23) = some y21) ?_ ?_
         ·
          refine bindK h2 (fun o24 hl3 h2 => ?_)
          refine XC.loopM (m34_l0 x20 x13) (fun s3 => ⟨[(0, .v (.one (.ptr 3 0))), (2, .v (.one (dI x13.2))), (21, .v (.one (dS x20.vs))), (22, .v (.one (dI (x20.vs.length : Int)))), (23, .v (.one (dI s3.1)))], [(0, .cells 24 (cE a0)), (1, .cells 24 [dI 0, dN]), (2, .mp (imE s3.2.1) s3.2.2), (3, .cells 100 [.mp 2, dI (max s1.2.2 (w64 (x20.c + x13.2)))]), (4, .cells 69 (cE x13)), (5, .cells 24 (cE x20))], [], 6, 39, []⟩) (0, s1.2.1) o24 (stle (tR rfl (tR rfl (tR rfl (tR rfl (tR rfl tZ))))) (hR rfl (hR rfl (hR rfl (hR rfl (hR rfl (hR rfl hZ)))))) kZ rfl (Nat.le_trans hv2 (lb rfl)) rfl rfl rfl (bB rfl rfl (bB rfl rfl (bM rfl (bB rfl rfl (bB rfl rfl (bB rfl rfl bZ)))))) rfl rfl) hl3 (fun s3 n3 oo3 h3 ho3 => ?_)
          unfold m34_l0 at h3
          refine XC.seq <| XC.region <| rR rfl rfl rfl (RO.binInt rfl rfl rfl) <| XL.nil <| XQ.seq <| XC.seq ?_
          refine XC.cond (b := (decide (s3.1 < (x20.vs.length : Int)))) rfl (fun c25 => ?_) (fun c25 => ?_)
          ·
           replace h3 := condT c25 h3
           refine XC.skip <| XQ.seq <| XC.seq <| XC.block <| XC.seq <| XC.region ?_
           refine bindK h3 (fun x26 hx26 h3 => ?_)
           refine rR rfl rfl rfl (RO.indexE (α := LV) sl_22 rfl (.d _) rfl hx26) <| rR rfl rfl rfl (RO.loadPelAgg ag_69 rfl rfl rfl) <| XL.put rfl rfl (lb rfl) (OpOK.alloc z_69 rfl) <| XL.eff rfl rfl (OpOK.store ag_69 rfl rfl rfl rfl (lb rfl) rfl) <| XL.nil <| XQ.seq ?_
           refine XC.anyRun [10] [] mixed (by kernel_rfl) (by kernel_rfl) (by kernel_rfl) ?_
           refine RunA.rd rfl rfl rfl (OpOK.of_ro (RO.move rfl)) rfl <| RunA.rd rfl rfl rfl (OpOK.of_ro (RO.nilCheckPtr rfl)) rfl <| RunA.rd rfl rfl rfl (OpOK.of_ro (RO.fieldOwn fo_100_0 rfl)) rfl <| RunA.rd rfl rfl rfl (OpOK.of_ro (RO.loadOwn ag_98 rfl rfl rfl)) rfl <| RunA.rd rfl rfl rfl (OpOK.of_ro (RO.fieldOwn fo_69_0 rfl)) rfl <| RunA.rd rfl rfl rfl (OpOK.of_ro (RO.loadOwn ag_3 rfl rfl rfl)) rfl <| RunA.rd rfl rfl rfl (OpOK.of_ro (RO.fieldOwn fo_69_1 rfl)) rfl <| RunA.rd rfl rfl rfl (OpOK.of_ro (RO.loadOwn ag_3 rfl rfl rfl)) rfl <| RunA.rd rfl rfl rfl (OpOK.of_ro (RO.move rfl)) rfl <| RunA.rd rfl rfl rfl (OpOK.of_ro (RO.binInt rfl rfl rfl)) rfl ?_
           refine bindK h3 (fun y27 h4 h3 => ?_)
           have hc28 : CallM Tryz.prog 70 [.one (.mp 2), .one (dI x26.1), .one (dI (w64 (x26.2 + x13.2)))] ⟨[(0, .cells 24 (cE a0)), (1, .cells 24 [dI 0, dN]), (2, .mp (imE s3.2.1) s3.2.2), (3, .cells 100 [.mp 2, dI (max s1.2.2 (w64 (x20.c + x13.2)))]), (4, .cells 69 (cE x13)), (5, .cells 24 (cE x20)), (6, .cells 69 (cE x26))], [], 7⟩ (resOf []) ⟨[(0, .cells 24 (cE a0)), (1, .cells 24 [dI 0, dN]), (2, .mp (imE y27.1) y27.2), (3, .cells 100 [.mp 2, dI (max s1.2.2 (w64 (x20.c + x13.2)))]), (4, .cells 69 (cE x13)), (5, .cells 24 (cE x20)), (6, .cells 69 (cE x26))], [], 7⟩ := by
            refine CallM.of_bodyD ⟨[], [(0, .cells 24 (cE a0)), (1, .cells 24 [dI 0, dN]), (2, .mp (imE y27.1) y27.2), (3, .cells 100 [.mp 2, dI (max s1.2.2 (w64 (x20.c + x13.2)))]), (4, .cells 69 (cE x13)), (5, .cells 24 (cE x20)), (6, .cells 69 (cE x26))], [], 7, 24, []⟩ rfl rfl en_70 (lb rfl) rfl .nil (fun w0 M V0 Q hv4 hQ4 => ?_)
            simp only [entry]
            refine XC.seq <| XC.region <| rM rfl rfl rfl <| rM rfl rfl rfl <| rR rfl rfl rfl (RO.lookupT mp_98 rfl rfl rfl) <| rM rfl rfl rfl <| rR rfl rfl rfl (RO.extract rfl rfl) <| rR rfl rfl rfl (RO.extract rfl rfl) <| rA rfl rfl rfl <| rA rfl rfl rfl <| XL.nil <| XQ.seq <| XC.seq ?_
            refine XC.joinR (fun (v29 : Bool) => ⟨[(0, .v (.one (.mp 2))), (1, .v (.one (dI x26.1))), (2, .v (.one (dI (w64 (x26.2 + x13.2))))), (20, .v (.one (dB v29)))], [(0, .cells 24 (cE a0)), (1, .cells 24 [dI 0, dN]), (2, .mp (imE s3.2.1) s3.2.2), (3, .cells 100 [.mp 2, dI (max s1.2.2 (w64 (x20.c + x13.2)))]), (4, .cells 69 (cE x13)), (5, .cells 24 (cE x20)), (6, .cells 69 (cE x26))], [], 7, 24, []⟩) (fun (v29 : Bool) => (cond v29
                (some (imSet s3.2 x26.1 (w64 (x26.2 + x13.2))))
                (some s3.2)) = some y27) ?_ ?_
            ·
             refine bindK h4 (fun v_ h5 h4 => ?_)
             refine XC.region <| rM rfl rfl rfl <| rR rfl rfl rfl (RO.not rfl) <| rM rfl rfl rfl ?_
             refine XL.case (d := 16) (c := (!(imHas s3.2 x26.1))) rfl (fun c30 => ?_) (fun c30 => ?_)
             ·
              replace h5 := condT c30 h5
              refine XL.no rfl rfl <| XL.no rfl rfl <| XL.no rfl rfl <| rR rfl rfl rfl (RO.pickT rfl rfl) <| XL.nil ?_
              have e_ := Option.some.inj h5
              subst e_
              exact XQ.joinR true (stle (tR rfl (tR rfl (tR rfl (tR rfl tZ)))) (hR rfl (hR rfl (hR rfl (hR rfl (hR rfl (hR rfl (hR rfl hZ))))))) kZ rfl (Nat.le_trans hv4 (lb rfl)) rfl rfl rfl (bB rfl rfl (bB rfl rfl (bM rfl (bB rfl rfl (bB rfl rfl (bB rfl rfl (bB rfl rfl bZ))))))) rfl rfl) h4
             ·
              replace h5 := condF c30 h5
              refine rM rfl rfl rfl <| rM rfl rfl rfl <| rR rfl rfl rfl (RO.binInt rfl rfl rfl) <| rR rfl rfl rfl (RO.pickF rfl rfl) <| XL.nil ?_
              have e_ := Option.some.inj h5
              subst e_
              exact XQ.joinR (decide ((imVal s3.2 x26.1) < (w64 (x26.2 + x13.2)))) (stle (tR rfl (tR rfl (tR rfl (tR rfl tZ)))) (hR rfl (hR rfl (hR rfl (hR rfl (hR rfl (hR rfl (hR rfl hZ))))))) kZ rfl (Nat.le_trans hv4 (lb rfl)) rfl rfl rfl (bB rfl rfl (bB rfl rfl (bM rfl (bB rfl rfl (bB rfl rfl (bB rfl rfl (bB rfl rfl bZ))))))) rfl rfl) h4
            ·
             intro v29 h4
             refine XQ.seq ?_
             refine XC.cond (b := v29) rfl (fun c31 => ?_) (fun c31 => ?_)
             ·
              replace h4 := condT c31 h4
              refine XC.region <| rM rfl rfl rfl <| rM rfl rfl rfl <| rM rfl rfl rfl <| XL.eff rfl rfl (OpOK.mapSetI mp_98 rfl rfl rfl rfl rfl) <| XL.nil ?_
              have e_ := Option.some.inj h4
              subst e_
              exact hQ4 _ _ _ (.inl rfl) rfl (stle tZ (hR rfl (hR rfl (hR rfl (hR rfl (hR rfl (hR rfl (hR rfl hZ))))))) kZ rfl (Nat.le_trans hv4 (lb rfl)) rfl rfl rfl (bB rfl rfl (bB rfl rfl (bM rfl (bB rfl rfl (bB rfl rfl (bB rfl rfl (bB rfl rfl bZ))))))) rfl rfl)
             ·
              replace h4 := condF c31 h4
              refine XC.skip ?_
              have e_ := Option.some.inj h4
              subst e_
              exact hQ4 _ _ _ (.inl rfl) rfl (stle tZ (hR rfl (hR rfl (hR rfl (hR rfl (hR rfl (hR rfl (hR rfl hZ))))))) kZ rfl (Nat.le_trans hv4 (lb rfl)) rfl rfl rfl (bB rfl rfl (bB rfl rfl (bM rfl (bB rfl rfl (bB rfl rfl (bB rfl rfl (bB rfl rfl bZ))))))) rfl rfl)
           refine RunA.eff rfl rfl rfl (OpOK.callW rfl rfl rfl hc28 rfl (hR rfl (hR rfl (hR rfl (hR rfl (hR rfl (hR rfl (hR rfl hZ))))))) kZ) rfl ?_
           refine RunA.nil ⟨?ex, _, _, rfl, ?_⟩
           case ex => exact trivial
           refine XQ.less (st' := ⟨[(0, .v (.one (.ptr 3 0))), (2, .v (.one (dI x13.2))), (21, .v (.one (dS x20.vs))), (22, .v (.one (dI (x20.vs.length : Int)))), (23, .v (.one (dI s3.1)))], [(0, .cells 24 (cE a0)), (1, .cells 24 [dI 0, dN]), (2, .mp (imE y27.1) y27.2), (3, .cells 100 [.mp 2, dI (max s1.2.2 (w64 (x20.c + x13.2)))]), (4, .cells 69 (cE x13)), (5, .cells 24 (cE x20)), (6, .cells 69 (cE x26))], [], 7, 39, []⟩) (stle (tR rfl (tR rfl (tR rfl (tR rfl (tR rfl tZ))))) (hR rfl (hR rfl (hR rfl (hR rfl (hR rfl (hR rfl (hR rfl hZ))))))) kZ rfl (Nat.le_trans hv2 (lb rfl)) rfl rfl rfl (bB rfl rfl (bB rfl rfl (bM rfl (bB rfl rfl (bB rfl rfl (bB rfl rfl (bB rfl rfl bZ))))))) rfl rfl) <| XQ.inBlock <| XQ.seq <| XC.region <| rR rfl rfl rfl (RO.binInt rfl rfl rfl) <| rM rfl rfl rfl <| XL.nil ?_
           have e_ := Option.some.inj h3
           subst e_
           refine XQ.nextM ((w64 (s3.1 + 1)), y27) (stle (tR rfl (tR rfl (tR rfl (tR rfl (tR rfl tZ))))) (hR rfl (hR rfl (hR rfl (hR rfl (hR rfl (hR rfl hZ)))))) kZ rfl (Nat.le_trans hv2 (lb rfl)) rfl rfl rfl (bB rfl rfl (bB rfl rfl (bM rfl (bB rfl rfl (bB rfl rfl (bB rfl rfl bZ)))))) rfl rfl) ho3
          ·
           replace h3 := condF c25 h3
           refine XC.exit <| XQ.thenE <| XQ.thenE ?_
           have e_ := Option.some.inj h3
           subst e_
           have e_ : _ = _ := ho3
           subst e_
           exact XQ.joinX s3.2 (stle tZ (hR rfl (hR rfl (hR rfl (hR rfl (hR rfl (hR rfl hZ)))))) kZ rfl (Nat.le_trans hv2 (lb rfl)) rfl rfl rfl (bB rfl rfl (bB rfl rfl (bM rfl (bB rfl rfl (bB rfl rfl (bB rfl rfl bZ)))))) rfl rfl) h2
         ·
          intro o23 h2
          refine XQ.blockX ?_
          have e_ := Option.some.inj h2
          subst e_
          exact hQ2 _ _ _ (.inl rfl) rfl (stle tZ (hR rfl (hR rfl (hR rfl (hR rfl (hR rfl hZ))))) kZ rfl (Nat.le_trans hv2 (lb rfl)) rfl rfl rfl (bB rfl rfl (bB rfl rfl (bM rfl (bB rfl rfl (bB rfl rfl bZ))))) rfl rfl)
        refine RunA.eff rfl rfl rfl (OpOK.callW rfl rfl rfl hc22 rfl (hR rfl (hR rfl (hR rfl (hR rfl (hR rfl hZ))))) kZ) rfl ?_
        refine RunA.nil ⟨?ex, _, _, rfl, ?_⟩
        case ex => exact trivial
        refine XQ.less (st' := ⟨[(1, .v (.one (dS a1))), (4, .v (.one (.ptr 1 0))), (6, .v (.one (.ptr 3 0))), (31, .v (.one (dS a0.vs))), (32, .v (.one (dI (a0.vs.length : Int)))), (33, .v (.one (dI s1.1)))], [(0, .cells 24 (cE a0)), (1, .cells 24 [dI 0, dN]), (2, .mp (imE y21.1) y21.2), (3, .cells 100 [.mp 2, dI (max s1.2.2 (w64 (x20.c + x13.2)))]), (4, .cells 69 (cE x13))], [], 6, 63, []⟩) (stle (tR rfl (tR rfl (tR rfl (tR rfl (tR rfl (tR rfl tZ)))))) (hR rfl (hR rfl (hR rfl (hR rfl (hR rfl hZ))))) kZ rfl (Nat.zero_le _) rfl rfl rfl (bB rfl rfl (bB rfl rfl (bM rfl (bB rfl rfl (bB rfl rfl bZ))))) rfl rfl) <| XQ.inBlock <| XQ.seq <| XC.region <| rR rfl rfl rfl (RO.binInt rfl rfl rfl) <| rM rfl rfl rfl <| XL.nil ?_
        have e_ := Option.some.inj h1
        subst e_
        refine XQ.nextM ((w64 (s1.1 + 1)), y21, (max s1.2.2 (w64 (x20.c + x13.2)))) (stle (tR rfl (tR rfl (tR rfl (tR rfl (tR rfl (tR rfl tZ)))))) (hR rfl (hR rfl (hR rfl (hR rfl hZ)))) kZ rfl (Nat.zero_le _) rfl rfl rfl (bB rfl rfl (bB rfl rfl (bM rfl (bB rfl rfl bZ)))) rfl rfl) ho1
      ·
       replace h1 := condF c12 h1
       refine XC.exit <| XQ.thenE <| XQ.thenE ?_
       have e_ := Option.some.inj h1
       subst e_
       have e_ : _ = _ := ho1
       subst e_
       exact XQ.joinX (s1.2.1, s1.2.2) (stle (tR rfl (tR rfl tZ)) (hR rfl (hR rfl (hR rfl (hR rfl hZ)))) kZ rfl (Nat.zero_le _) rfl rfl rfl (bB rfl rfl (bB rfl rfl (bM rfl (bB rfl rfl bZ)))) rfl rfl) h0
     ·
      intro o10 h0
      refine XQ.blockX <| XQ.seq <| XC.seq <| XC.region <| rM rfl rfl rfl ?_
      refine bindK h0 (fun y32 h1 h0 => ?_)
      have hc33 : CallM Tryz.prog 56 [.one (.ptr 3 0)] ⟨[(0, .cells 24 (cE a0)), (1, .cells 24 [dI 0, dN]), (2, .mp (imE o10.1.1) o10.1.2), (3, .cells 100 [.mp 2, dI o10.2])], [], 4⟩ (resOf [.agg [dI y32.2.1, dS y32.2.2], .one (dI y32.1)]) ⟨[(0, .cells 24 (cE a0)), (1, .cells 24 [dI 0, dN]), (2, .mp (imE o10.1.1) o10.1.2), (3, .cells 100 [.mp 2, dI o10.2]), (4, .cells 24 [dI y32.2.1, dS y32.2.2])], [], 8⟩ := by
       refine CallM.of_bodyD ⟨[(2, .v (.one (.ptr 4 0))), (3, .v (.one (dI y32.1)))], [(0, .cells 24 (cE a0)), (1, .cells 24 [dI 0, dN]), (2, .mp (imE o10.1.1) o10.1.2), (3, .cells 100 [.mp 2, dI o10.2]), (4, .cells 24 [dI y32.2.1, dS y32.2.2])], [], 8, 41, []⟩ rfl rfl en_56 (lb rfl) rfl (RAs.agg ag_24 rfl rfl rfl rfl (RAs.tmp rfl .nil)) (fun w0 M V0 Q hv1 hQ1 => ?_)
       simp only [entry]
       refine XC.seq <| XC.region <| XL.put rfl rfl (lb rfl) (OpOK.alloc z_24 rfl) <| rA rfl rfl rfl <| XL.nil <| XQ.seq <| XC.seq <| XC.region <| rM rfl rfl rfl <| rR rfl rfl rfl (RO.nilCheckPtr rfl) <| rR rfl rfl rfl (RO.fieldOwn fo_100_1 rfl) <| rR rfl rfl rfl (RO.loadOwn ag_3 rfl rfl rfl) <| rR rfl rfl rfl (RO.build1 bd_24 rfl rfl rfl) <| XL.put rfl rfl (lb rfl) (OpOK.alloc z_24 rfl) ?_
       refine XL.eff rfl rfl (OpOK.store ag_24 rfl rfl rfl rfl (lb rfl) rfl) <| XL.nil <| XQ.seq <| XC.seq <| XC.seq <| XC.region <| rM rfl rfl rfl <| rR rfl rfl rfl (RO.nilCheckPtr rfl) <| rR rfl rfl rfl (RO.fieldOwn fo_100_0 rfl) <| rR rfl rfl rfl (RO.loadOwn ag_98 rfl rfl rfl) ?_
       refine bindK h1 (fun y34 h2 h1 => ?_)
       have hc35 : CallM Tryz.prog 83 [.one (.mp 2)] ⟨[(0, .cells 24 (cE a0)), (1, .cells 24 [dI 0, dN]), (2, .mp (imE o10.1.1) o10.1.2), (3, .cells 100 [.mp 2, dI o10.2]), (4, .cells 24 [dI 0, dN]), (5, .cells 24 [dI o10.2, dN])], [], 6⟩ (resOf [.one (.fn 102 [(6, 0)])]) ⟨[(0, .cells 24 (cE a0)), (1, .cells 24 [dI 0, dN]), (2, .mp (imE o10.1.1) o10.1.2), (3, .cells 100 [.mp 2, dI o10.2]), (4, .cells 24 [dI 0, dN]), (5, .cells 24 [dI o10.2, dN]), (6, .cells 98 [.mp 2])], [], 7⟩ := by
        refine CallM.of_bodyD ⟨[(2, .v (.one (.fn 102 [(6, 0)])))], [(0, .cells 24 (cE a0)), (1, .cells 24 [dI 0, dN]), (2, .mp (imE o10.1.1) o10.1.2), (3, .cells 100 [.mp 2, dI o10.2]), (4, .cells 24 [dI 0, dN]), (5, .cells 24 [dI o10.2, dN]), (6, .cells 98 [.mp 2])], [], 7, 4, []⟩ rfl rfl en_83 (lb rfl) rfl (RAs.tmp rfl .nil) (fun w0 M V0 Q hv2 hQ2 => ?_)
        simp only [entry]
        refine XC.seq <| XC.region <| XL.put rfl rfl (lb rfl) (OpOK.box rfl) <| rA rfl rfl rfl <| XL.nil <| XQ.seq <| XC.seq <| XC.region <| rR rfl rfl rfl (RO.makeFunc1 rfl) <| rA rfl rfl rfl <| XL.nil <| XQ.seq <| XC.ret ?_
        have e_ := Option.some.inj h2
        subst e_
        exact hQ2 _ _ _ (.inr rfl) rfl (stle (tR rfl tZ) (hR rfl (hR rfl (hR rfl (hR rfl (hR rfl (hR rfl (hR rfl hZ))))))) kZ rfl (Nat.le_trans hv2 (lb rfl)) rfl rfl rfl (bB rfl rfl (bB rfl rfl (bM rfl (bB rfl rfl (bB rfl rfl (bB rfl rfl (bB rfl rfl bZ))))))) rfl rfl)
       refine XL.put rfl rfl (lb rfl) (OpOK.callW rfl rfl rfl hc35 rfl (hR rfl (hR rfl (hR rfl (hR rfl (hR rfl (hR rfl hZ)))))) kZ) ?_
       refine guardK h1 (fun g36 h1 => ?_)
       refine XL.put rfl rfl (lb rfl) (OpOK.sortedKeys rfl rfl rfl rfl g36) <| rR rfl rfl rfl (RO.lenE (α := Int) sl_46 rfl (.d _)) <| rM rfl rfl rfl <| XL.nil <| XQ.seq <| XC.block ?_
       refine XC.joinX 0 (fun (o37 : (List LV)) => ⟨[(2, .v (.one (.ptr 4 0))), (4, .v (.one (.ptr 5 0)))], [(0, .cells 24 (cE a0)), (1, .cells 24 [dI 0, dN]), (2, .mp (imE o10.1.1) o10.1.2), (3, .cells 100 [.mp 2, dI o10.2]), (4, .cells 24 [dI 0, dN]), (5, .cells 24 [dI o10.2, dA 7 o37]), (6, .cells 98 [.mp 2])], [(7, some ⟨69, 2, (Enc.encL o37).length⟩)], 8, 41, []⟩) (fun (o37 : (List LV)) => (guardO (Nat.ble (⟨o10.2, o37⟩ : Lvl).vs.length 100000)
         (some ((limL (⟨o10.2, o37⟩ : Lvl)).2, ((limL (⟨o10.2, o37⟩ : Lvl)).1).c, ((limL (⟨o10.2, o37⟩ : Lvl)).1).vs))) = some y32) ?_ ?_
       ·
        refine XC.adoptC (i := 5) (off := 1) 69 2 rfl rfl ?_
        refine bindK h1 (fun o38 hl2 h1 => ?_)
        refine XC.loopM (m34_l2 o10) (fun s2 => ⟨[(0, .v (.one (.ptr 3 0))), (2, .v (.one (.ptr 4 0))), (4, .v (.one (.ptr 5 0))), (17, .v (.one (dS ((imKeys o10.1) : List Int)))), (18, .v (.one (dI ((imKeys o10.1).length : Int)))), (19, .v (.one (dI s2.1)))], [(0, .cells 24 (cE a0)), (1, .cells 24 [dI 0, dN]), (2, .mp (imE o10.1.1) o10.1.2), (3, .cells 100 [.mp 2, dI o10.2]), (4, .cells 24 [dI 0, dN]), (5, .cells 24 [dI o10.2, dA 7 s2.2]), (6, .cells 98 [.mp 2])], [(7, some ⟨69, 2, (Enc.encL s2.2).length⟩)], 8, 41, []⟩) (0, ([] : List LV)) o38 (stle (tR rfl (tR rfl (tR rfl (tR rfl (tR rfl (tR rfl tZ)))))) (hR rfl (hR rfl (hR rfl (hR rfl (hR rfl (hR rfl (hR rfl hZ))))))) (kR rfl kZ) rfl (Nat.le_trans hv1 (lb rfl)) rfl rfl rfl (bB rfl rfl (bB rfl rfl (bM rfl (bB rfl rfl (bB rfl rfl (bB rfl rfl (bB rfl rfl bZ))))))) rfl rfl) hl2 (fun s2 n2 oo2 h2 ho2 => ?_)
        unfold m34_l2 at h2
        refine XC.seq <| XC.region <| rR rfl rfl rfl (RO.binInt rfl rfl rfl) <| XL.nil <| XQ.seq <| XC.seq ?_
        refine XC.cond (b := (decide (s2.1 < ((imKeys o10.1).length : Int)))) rfl (fun c39 => ?_) (fun c39 => ?_)
        ·
         replace h2 := condT c39 h2
         refine XC.skip <| XQ.seq <| XC.seq <| XC.block <| XC.seq <| XC.region ?_
         refine bindK h2 (fun x40 hx40 h2 => ?_)
         refine rR rfl rfl rfl (RO.indexE (α := Int) sl_46 rfl (.d _) rfl hx40) <| rR rfl rfl rfl (RO.loadPel ag_3 rfl rfl) <| rA rfl rfl rfl <| XL.nil <| XQ.seq ?_
         refine XC.anyRun [11, 13] [] mixed (by kernel_rfl) (by kernel_rfl) (by kernel_rfl) ?_
         refine RunA.rd rfl rfl rfl (OpOK.of_ro (RO.fieldOwn fo_24_1 rfl)) rfl <| RunA.rd rfl rfl rfl (OpOK.of_ro (RO.loadOwn ag_22 rfl rfl rfl)) rfl <| RunA.rd rfl rfl rfl (OpOK.of_ro (RO.move rfl)) rfl <| RunA.rd rfl rfl rfl (OpOK.of_ro (RO.move rfl)) rfl <| RunA.rd rfl rfl rfl (OpOK.of_ro (RO.nilCheckPtr rfl)) rfl <| RunA.rd rfl rfl rfl (OpOK.of_ro (RO.fieldOwn fo_100_0 rfl)) rfl <| RunA.rd rfl rfl rfl (OpOK.of_ro (RO.loadOwn ag_98 rfl rfl rfl)) rfl <| RunA.rd rfl rfl rfl (OpOK.of_ro (RO.move rfl)) rfl <| RunA.rd rfl rfl rfl (OpOK.of_ro (RO.lookupF mp_98 rfl rfl rfl)) rfl <| RunA.rd rfl rfl rfl (OpOK.of_ro (RO.build2 bd_69 rfl rfl rfl rfl)) rfl <| RunA.rd rfl rfl rfl (OpOK.data1E (α := LV) ((x40, (imVal o10.1 x40))) sl_22 z_69 rfl rfl (lb rfl) rfl rfl (.cons (.d _) (.cons (.d _) .nil)) rfl) rfl ?_
         refine guardK h2 (fun g41 h2 => ?_)
         refine RunA.eff rfl rfl rfl (OpOK.appendE (α := LV) sl_22 el_69 rfl rfl rfl rfl rfl (.d _) g41) rfl <| RunA.rd rfl rfl rfl (OpOK.of_ro (RO.fieldOwn fo_24_1 rfl)) rfl <| RunA.eff rfl rfl rfl (OpOK.store ag_22 rfl rfl rfl rfl (lb rfl) rfl) rfl ?_
         refine RunA.nil ⟨?ex, _, _, rfl, ?_⟩
         case ex => exact trivial
         refine XQ.less (st' := ⟨[(0, .v (.one (.ptr 3 0))), (2, .v (.one (.ptr 4 0))), (4, .v (.one (.ptr 5 0))), (17, .v (.one (dS ((imKeys o10.1) : List Int)))), (18, .v (.one (dI ((imKeys o10.1).length : Int)))), (19, .v (.one (dI s2.1)))], [(0, .cells 24 (cE a0)), (1, .cells 24 [dI 0, dN]), (2, .mp (imE o10.1.1) o10.1.2), (3, .cells 100 [.mp 2, dI o10.2]), (4, .cells 24 [dI 0, dN]), (5, .cells 24 [dI o10.2, dA 7 ((s2.2 ++ ([(x40, (imVal o10.1 x40))])) : List LV)]), (6, .cells 98 [.mp 2])], [(7, some ⟨69, 2, (Enc.encL ((s2.2 ++ ([(x40, (imVal o10.1 x40))])) : List LV)).length⟩)], 8, 41, []⟩) (stle (tR rfl (tR rfl (tR rfl (tR rfl (tR rfl (tR rfl tZ)))))) (hR rfl (hR rfl (hR rfl (hR rfl (hR rfl (hR rfl (hR rfl hZ))))))) (kR rfl kZ) rfl (Nat.le_trans hv1 (lb rfl)) rfl rfl rfl (bB rfl rfl (bB rfl rfl (bM rfl (bB rfl rfl (bB rfl rfl (bB rfl rfl (bB rfl rfl bZ))))))) rfl rfl) <| XQ.inBlock <| XQ.seq <| XC.region <| rR rfl rfl rfl (RO.binInt rfl rfl rfl) <| rM rfl rfl rfl <| XL.nil ?_
         have e_ := Option.some.inj h2
         subst e_
         refine XQ.nextM ((w64 (s2.1 + 1)), (s2.2 ++ ([(x40, (imVal o10.1 x40))]))) (stle (tR rfl (tR rfl (tR rfl (tR rfl (tR rfl (tR rfl tZ)))))) (hR rfl (hR rfl (hR rfl (hR rfl (hR rfl (hR rfl (hR rfl hZ))))))) (kR rfl kZ) rfl (Nat.le_trans hv1 (lb rfl)) rfl rfl rfl (bB rfl rfl (bB rfl rfl (bM rfl (bB rfl rfl (bB rfl rfl (bB rfl rfl (bB rfl rfl bZ))))))) rfl rfl) ho2
        ·
         replace h2 := condF c39 h2
         refine XC.exit <| XQ.thenE <| XQ.thenE ?_
         have e_ := Option.some.inj h2
         subst e_
         have e_ : _ = _ := ho2
         subst e_
         exact XQ.joinX s2.2 (stle (tR rfl (tR rfl tZ)) (hR rfl (hR rfl (hR rfl (hR rfl (hR rfl (hR rfl (hR rfl hZ))))))) (kR rfl kZ) rfl (Nat.le_trans hv1 (lb rfl)) rfl rfl rfl (bB rfl rfl (bB rfl rfl (bM rfl (bB rfl rfl (bB rfl rfl (bB rfl rfl (bB rfl rfl bZ))))))) rfl rfl) h1
       ·
        intro o37 h1
        refine XQ.blockX <| XQ.seq <| XC.seq <| XC.region <| rR rfl rfl rfl (RO.loadOwnAgg ag_24 rfl rfl rfl rfl) ?_
        refine guardK h1 (fun g42 h1 => ?_)
        refine XL.put rfl rfl (lb rfl) (OpOK.callFun (limited_fun (⟨o10.2, o37⟩ : Lvl) (Nat.le_of_ble_eq_true g42)) rfl (.cons (.agg (.cons (.d _) (.cons (.app _ _ _) .nil))) .nil)) ?_
        refine rR rfl rfl rfl (RO.extract rfl rfl) <| rR rfl rfl rfl (RO.extract rfl rfl) <| XL.eff rfl rfl (OpOK.store ag_24 rfl rfl rfl rfl (lb rfl) rfl) <| rA rfl rfl rfl <| XL.nil <| XQ.seq <| XC.ret ?_
        have e_ := Option.some.inj h1
        subst e_
        exact hQ1 _ _ _ (.inr rfl) rfl (stle (tR rfl (tR rfl tZ)) (hR rfl (hR rfl (hR rfl (hR rfl (hR rfl hZ))))) kZ rfl (Nat.le_trans hv1 (lb rfl)) rfl rfl rfl (bB rfl rfl (bB rfl rfl (bM rfl (bB rfl rfl (bB rfl rfl bZ))))) rfl rfl)
      refine XL.put rfl rfl (lb rfl) (OpOK.callW rfl rfl rfl hc33 rfl (hR rfl (hR rfl (hR rfl (hR rfl hZ)))) kZ) <| rR rfl rfl rfl (RO.extract rfl rfl) <| rR rfl rfl rfl (RO.extract rfl rfl) <| XL.eff rfl rfl (OpOK.store ag_24 rfl rfl rfl rfl (lb rfl) rfl) <| rA rfl rfl rfl <| XL.nil <| XQ.seq <| XC.ret ?_
      have e_ := Option.some.inj h0
      subst e_
      exact XQ.retF (fun _ _ h => h) rfl (RAs.agg ag_24 rfl rfl rfl rfl (RAs.tmp rfl .nil)) (.cons (.agg (.cons (.d _) (.cons (.d _) .nil))) (.cons (.one (.d _)) .nil))
end

section
open Go.RowKit
set_option linter.unusedSimpArgs false
set_option linter.unusedVariables false

theorem gathS_l0 {x : Lvl} {v : LV} (hx : validB x = true) (hv : okV v) (M : IMap) : loopN (m34_l0 x v) FUEL (0, M) = some ((upV v.2 x.vs).foldl rzM M) := by
  have hw := wf_valid hx
  have key := fold_loop (step := m34_l0 x v) (l := x.vs) (fun M y => rzM M (y.1, y.2 + v.2)) (fun _ _ => True) (by have := hw.len; omega) (fun k y s hy _ => by
    have hk := (List.getElem?_eq_some_iff.1 hy).1
    have hyv := valid_okVar hx hy
    refine ⟨?_, trivial⟩
    unfold m34_l0
    dsimp only
    rw [decide_eq_true (by omega : (k : Int) < x.vs.length), cond_true, idx_nat (Int.natCast_nonneg _) (by simpa using hy), Option.bind_some, w64_id (n := y.2 + v.2) (by have := hv.2.2; omega) (by have := hv.2.2; omega), rz_stepM]
    rfl) (fun s _ => by unfold m34_l0; dsimp only; rw [decide_eq_false (by omega), cond_false]) M trivial
  rw [key.1]
  unfold upV
  rw [List.foldl_map]

theorem gathS_l1 {L : Lvl} {ms : List Lvl} (hL : validB L = true) (hm : ms.all validB = true) (hl : ms.length ≤ 100000) (hp : parL L ≤ ms.length) : loopN (m34_l1 L ms) FUEL (0, imNil, L.c) = some (L.vs.foldl (addSP ms) (imNil, L.c)) := by
  have hw := wf_valid hL
  have hlt := par_lt hL hp
  have key := fold_loop (step := m34_l1 L ms) (l := L.vs) (addSP ms) (fun _ _ => True) (by have := hw.len; omega) (fun k v s hy _ => by
    have hk := (List.getElem?_eq_some_iff.1 hy).1
    have hv : okV v := valid_okVar hL hy
    have hvl := hlt v (List.mem_of_getElem? hy)
    refine ⟨?_, trivial⟩
    unfold m34_l1
    dsimp only
    rw [decide_eq_true (by omega : (k : Int) < L.vs.length), cond_true, idx_nat (Int.natCast_nonneg _) (by simpa using hy), Option.bind_some]
    by_cases hn : v.1 < 0
    · have hh : ¬ hasVP ms v := fun h => by have := h.1; omega
      rw [decide_eq_true hn, cond_true, rz_stepM]
      unfold addSP
      rw [if_neg hh]
      rfl
    · have hh : hasVP ms v := ⟨by omega, hvl⟩
      have hV := valV_validP hm hh
      have hVc := valid_c hV
      rw [decide_eq_false hn, cond_false, idx_nat (by omega) (valV_atP hh), Option.bind_some, gathS_l0 hV hv]
      simp only [Option.bind_some]
      rw [w64_id (n := (valVP ms v).c + v.2) (by have := hv.2.2; omega) (by have := hv.2.2; omega)]
      unfold addSP
      rw [if_pos hh]) (fun s _ => by unfold m34_l1; dsimp only; rw [decide_eq_false (by omega), cond_false]) (imNil, L.c) trivial
  exact key.1

theorem gathS_l2 {o : IMap × Int} {vs : List LV} (h : RMap o.1 vs) : loopN (m34_l2 o) FUEL (0, []) = some vs := by
  have h2 := h.ok.2
  have hlen : (imKeys o.1).length ≤ 100000 := by
    have := h.wf.len
    rw [← h2, List.length_map] at this; exact this
  have key := fold_loop (step := m34_l2 o) (l := imKeys o.1) (fun out k => out ++ [(k, imVal o.1 k)]) (fun k s => s.length = k) (by omega) (fun k y s hy hs => by
    have hk := (List.getElem?_eq_some_iff.1 hy).1
    refine ⟨?_, by simp [hs]⟩
    unfold m34_l2
    dsimp only
    rw [decide_eq_true (by omega : (k : Int) < (imKeys o.1).length), cond_true, idx_nat (Int.natCast_nonneg _) (by simpa using hy), Option.bind_some, guard_t (ble_t (by simp; omega))]) (fun s _ => by unfold m34_l2; dsimp only; rw [decide_eq_false (by omega), cond_false]) [] rfl
  rw [key.1, foldl_snoc, List.nil_append, h2]

/-- what Subst says -/
def subL (L : Lvl) (ps : List Lvl) : Lvl × Int := if validB L && ps.all validB then (if (ps.length : Int) < parL L then (⟨0, []⟩, 24) else repLP L ps) else (⟨0, []⟩, 3)
theorem m34_eq {L : Lvl} {ms : List Lvl} (hL : L.vs.length ≤ 100000) (hf : fitB ms) : m34 L ms = some (subL L ms) := by
  unfold m34 subL
  rw [guard_t (ble_t hL)]
  cases hv : validB L with
  | false => rfl
  | true =>
    simp only [Bool.not_true, cond_false]
    rw [guard_t (fitB_lens hf)]
    cases hm : ms.all validB with
    | false => rfl
    | true =>
      simp only [Bool.not_true, Option.bind_some, cond_false, Bool.and_self, if_true]
      rw [(m40_eq hL).1, Option.bind_some]
      by_cases hq : (ms.length : Int) < parL L
      · rw [decide_eq_true hq, cond_true, if_pos hq]
      · rw [decide_eq_false hq, cond_false, if_neg hq, gathS_l1 hv hm hf.1 (by omega)]
        obtain ⟨h1, h2⟩ := gath_limLP hv hm
        simp only [Option.bind_some]
        rw [guard_t h1.ok.1]
        have e : loopN (m34_l2 (List.foldl (addSP ms) (imNil, L.c) L.vs)) FUEL (0, []) = _ := gathS_l2 h1
        rw [e]
        simp only [Option.bind_some]
        rw [guard_t (ble_t (by have := h1.wf.len; exact this)), h2, ← assL_okP hv hm, assL_gathP hv hm]
        rfl
end

end Go.Proofs.YtcapifnaceegmaaGreatDoor
