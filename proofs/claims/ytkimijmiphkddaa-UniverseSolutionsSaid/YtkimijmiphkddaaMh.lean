/- Mirrors of layer 2: Assign, Holds. -/
import Derived.Test.YtkimijmiphkddaaMt
namespace Go.Proofs.Ytkimijmiphkddaa
open Go.RowKit Go.Shelf
set_option linter.unusedSimpArgs false
set_option linter.unusedVariables false

theorem en_24 : Enters Try.prog 24 := enters_of Try.func24 (by kernel_rfl) rfl
def m48_l0 (x10 : Lvl) (x7 : LV) (s3 : Int × IMap) : Option (LO (Int × IMap) IMap) :=
  cond (decide (s3.1 < (x10.vs.length : Int)))
    (Option.bind (idx x10.vs s3.1) fun (x15 : LV) =>
  Option.bind (Option.bind (cond (!(imHas s3.2 x15.1))
    (some true)
    (some (decide ((imVal s3.2 x15.1) < (w64 (x15.2 + x7.2)))))) (fun (v18 : Bool) => cond v18
    (some (imSet s3.2 x15.1 (w64 (x15.2 + x7.2))))
    (some s3.2))) (fun (y16 : IMap) => some (.next ((w64 (s3.1 + 1)), y16))))
    (some (.done s3.2))

def m48_l1 (a0 : Lvl) (a1 : List Lvl) (s1 : Int × IMap × Int) : Option (LO (Int × IMap × Int) ((IMap × Int))) :=
  cond (decide (s1.1 < (a0.vs.length : Int)))
    (Option.bind (idx a0.vs s1.1) fun (x7 : LV) =>
  Option.bind (cond (decide (0 ≤ (w64 ((-1) - x7.1))))
    (some (decide ((w64 ((-1) - x7.1)) < (a1.length : Int))))
    (some false)) (fun (v8 : Bool) => cond v8
    (Option.bind (idx a1 (w64 ((-1) - x7.1))) fun (x10 : Lvl) =>
  Option.bind (Option.bind (loopN (m48_l0 x10 x7) FUEL (0, s1.2.1)) (fun (o13 : IMap) => some o13)) (fun (y11 : IMap) => some (.next ((w64 (s1.1 + 1)), y11, (max s1.2.2 (w64 (x10.c + x7.2)))))))
    (Option.bind (Option.bind (cond (!(imHas s1.2.1 x7.1))
    (some true)
    (some (decide ((imVal s1.2.1 x7.1) < x7.2)))) (fun (v24 : Bool) => cond v24
    (some (imSet s1.2.1 x7.1 x7.2))
    (some s1.2.1))) (fun (y22 : IMap) => some (.next ((w64 (s1.1 + 1)), y22, s1.2.2))))))
    (some (.done (s1.2.1, s1.2.2)))

def m48_l2 (o5 : IMap × Int) (s2 : Int × (List LV)) : Option (LO (Int × (List LV)) (((List LV)))) :=
  cond (decide (s2.1 < ((imKeys o5.1).length : Int)))
    (Option.bind (idx (imKeys o5.1) s2.1) fun (x13 : Int) =>
  guardO (Nat.ble (s2.2.length + ([(x13, (imVal o5.1 x13))]).length) 1000000000)
  (some (.next ((w64 (s2.1 + 1)), (s2.2 ++ ([(x13, (imVal o5.1 x13))]))))))
    (some (.done s2.2))

/-- euclid/level.Assign -/
def m48 (a0 : Lvl) (a1 : List Lvl) : Option (Lvl × Int) :=
  Option.bind (guardO (Nat.ble a0.vs.length 100000)
  (cond (!(validB a0))
    (some true)
    (guardO (lensB a1)
  (some (!(a1.all validB)))))) (fun (v1 : Bool) => cond v1
    (some ((⟨0, ([] : List LV)⟩ : Lvl), 3))
    (Option.bind (some ()) (fun (y3 : Unit) => Option.bind (loopN (m48_l1 a0 a1) FUEL (0, imNil, a0.c)) (fun (o5 : IMap × Int) => Option.bind (Option.bind (some ()) (fun (y8 : Unit) => guardO (imOk o5.1)
  (Option.bind (loopN (m48_l2 o5) FUEL (0, ([] : List LV))) (fun (o11 : (List LV)) => guardO (Nat.ble (⟨o5.2, o11⟩ : Lvl).vs.length 100000)
  (some ((limL (⟨o5.2, o11⟩ : Lvl)).2, ((limL (⟨o5.2, o11⟩ : Lvl)).1).c, ((limL (⟨o5.2, o11⟩ : Lvl)).1).vs)))))) (fun (y6 : Int × Int × (List LV)) => some ((⟨y6.2.1, y6.2.2⟩ : Lvl), y6.1))))))

set_option maxRecDepth 100000 in
set_option maxHeartbeats 8000000 in
theorem m48_ok (a0 : Lvl) (a1 : List Lvl) (r : Lvl × Int) (h0 : m48 a0 a1 = some r) : Fun Try.prog 48 [.agg (cE a0), .one (dS a1)] (resOf [.agg (cE r.1), .one (dI r.2)]) := by
  unfold m48 at h0
  refine Fun.of_bodyM 9 65 Try.func48 rfl en_48 rfl (lb rfl) (fun S w => ?_)
  simp only [entry]
  refine XC.seq <| XC.region <| XL.put rfl rfl (lb rfl) (OpOK.box rfl) <| XL.put rfl rfl (lb rfl) (OpOK.alloc z_39 rfl) <| rA rfl rfl rfl <| XL.nil <| XQ.seq <| XC.seq <| XC.seq ?_
  refine XC.joinR (fun (v1 : Bool) => ⟨[(1, .v (.one (dS a1))), (2, .v (.one (.ptr 0 0))), (4, .v (.one (.ptr 1 0))), (17, .v (.one (dB v1)))], [(0, .cells 39 (cE a0)), (1, .cells 39 [dI 0, dN])], [], 2, 65, []⟩) (fun (v1 : Bool) => (cond v1
      (some ((⟨0, ([] : List LV)⟩ : Lvl), 3))
      (Option.bind (some ()) (fun (y3 : Unit) => Option.bind (loopN (m48_l1 a0 a1) FUEL (0, imNil, a0.c)) (fun (o5 : IMap × Int) => Option.bind (Option.bind (some ()) (fun (y8 : Unit) => guardO (imOk o5.1)
    (Option.bind (loopN (m48_l2 o5) FUEL (0, ([] : List LV))) (fun (o11 : (List LV)) => guardO (Nat.ble (⟨o5.2, o11⟩ : Lvl).vs.length 100000)
    (some ((limL (⟨o5.2, o11⟩ : Lvl)).2, ((limL (⟨o5.2, o11⟩ : Lvl)).1).c, ((limL (⟨o5.2, o11⟩ : Lvl)).1).vs)))))) (fun (y6 : Int × Int × (List LV)) => some ((⟨y6.2.1, y6.2.2⟩ : Lvl), y6.1)))))) = some r) ?_ ?_
  ·
   refine bindK h0 (fun v_ h1 h0 => ?_)
   refine XC.region <| rR rfl rfl rfl (RO.loadOwnAgg ag_39 rfl rfl rfl rfl) ?_
   refine guardK h1 (fun g2 h1 => ?_)
   refine XL.put rfl rfl (lb rfl) (OpOK.callFun (valid_fun a0 (Nat.le_of_ble_eq_true g2)) rfl (.cons (.agg (.cons (.d _) (.cons (.d _) .nil))) .nil)) ?_
   refine rR rfl rfl rfl (RO.not rfl) <| rM rfl rfl rfl ?_
   refine XL.case (d := 13) (c := (!(validB a0))) rfl (fun c3 => ?_) (fun c3 => ?_)
   ·
    replace h1 := condT c3 h1
    refine XL.no rfl rfl <| XL.no rfl rfl <| XL.no rfl rfl <| rR rfl rfl rfl (RO.pickT rfl rfl) <| XL.nil ?_
    have e_ := Option.some.inj h1
    subst e_
    exact XQ.joinR true (stle (tR rfl (tR rfl (tR rfl (tR rfl tZ)))) (hR rfl (hR rfl hZ)) kZ rfl (Nat.zero_le _) rfl rfl rfl (bB rfl rfl (bB rfl rfl bZ)) rfl rfl) h0
   ·
    replace h1 := condF c3 h1
    refine rM rfl rfl rfl ?_
    refine guardK h1 (fun g4 h1 => ?_)
    refine XL.put rfl rfl (lb rfl) (OpOK.callFun (allValidF a1 g4) rfl (.cons (.one (.d _)) .nil)) <| rR rfl rfl rfl (RO.not rfl) <| rR rfl rfl rfl (RO.pickF rfl rfl) <| XL.nil ?_
    have e_ := Option.some.inj h1
    subst e_
    exact XQ.joinR (!(a1.all validB)) (stle (tR rfl (tR rfl (tR rfl (tR rfl tZ)))) (hR rfl (hR rfl hZ)) kZ rfl (Nat.zero_le _) rfl rfl rfl (bB rfl rfl (bB rfl rfl bZ)) rfl rfl) h0
  ·
   intro v1 h0
   refine XQ.seq ?_
   refine XC.cond (b := v1) rfl (fun c5 => ?_) (fun c5 => ?_)
   ·
    replace h0 := condT c5 h0
    refine XC.seq <| XC.region <| rR rfl rfl rfl (RO.build0 bd_39 rfl ) <| XL.eff rfl rfl (OpOK.store ag_39 rfl rfl rfl rfl (lb rfl) rfl) <| rA rfl rfl rfl <| XL.nil <| XQ.seq <| XC.ret ?_
    have e_ := Option.some.inj h0
    subst e_
    exact XQ.retF (fun _ _ h => h) rfl (RAs.agg ag_39 rfl rfl rfl rfl (RAs.tmp rfl .nil)) (.cons (.agg (.cons (.d _) (.cons (.nil _) .nil))) (.cons (.one (.d _)) .nil))
   ·
    replace h0 := condF c5 h0
    refine XC.skip <| XQ.seq <| XC.seq <| XC.region ?_
    refine bindK h0 (fun y6 h1 h0 => ?_)
    have hc7 : CallM Try.prog 66 [] ⟨[(0, .cells 39 (cE a0)), (1, .cells 39 [dI 0, dN])], [], 2⟩ (resOf [.one (.ptr 3 0)]) ⟨[(0, .cells 39 (cE a0)), (1, .cells 39 [dI 0, dN]), (2, .mp (imE imNil.1) imNil.2), (3, .cells 105 [.mp 2, dI 0])], [], 4⟩ := by
     refine CallM.of_bodyD ⟨[(0, .v (.one (.ptr 3 0)))], [(0, .cells 39 (cE a0)), (1, .cells 39 [dI 0, dN]), (2, .mp (imE imNil.1) imNil.2), (3, .cells 105 [.mp 2, dI 0])], [], 4, 4, []⟩ rfl rfl en_66 (lb rfl) rfl (RAs.tmp rfl .nil) (fun w0 M V0 Q hv1 hQ1 => ?_)
     simp only [entry]
     refine XC.seq <| XC.region <| rA rfl rfl rfl <| XL.nil <| XQ.seq <| XC.seq <| XC.region <| XL.put rfl rfl (lb rfl) (OpOK.makeMapI) <| rR rfl rfl rfl (RO.build1 bd_105 rfl rfl rfl) <| XL.put rfl rfl (lb rfl) (OpOK.box rfl) <| rA rfl rfl rfl <| XL.nil <| XQ.seq <| XC.ret ?_
     have e_ := Option.some.inj h1
     subst e_
     exact hQ1 _ _ _ (.inr rfl) rfl (stle (tR rfl tZ) (hR rfl (hR rfl (hR rfl (hR rfl hZ)))) kZ rfl (Nat.le_trans hv1 (lb rfl)) rfl rfl rfl (bB rfl rfl (bB rfl rfl (bM rfl (bB rfl rfl bZ)))) rfl rfl)
    refine XL.put rfl rfl (lb rfl) (OpOK.callW rfl rfl rfl hc7 rfl (hR rfl (hR rfl hZ)) kZ) <| rA rfl rfl rfl <| XL.nil <| XQ.seq <| XC.seq <| XC.region <| rM rfl rfl rfl <| rR rfl rfl rfl (RO.fieldOwn fo_39_0 rfl) <| rR rfl rfl rfl (RO.loadOwn ag_3 rfl rfl rfl) <| rR rfl rfl rfl (RO.nilCheckPtr rfl) <| rR rfl rfl rfl (RO.fieldOwn fo_105_1 rfl) <| XL.eff rfl rfl (OpOK.store ag_3 rfl rfl rfl rfl (lb rfl) rfl) <| XL.nil <| XQ.seq ?_
    refine XC.seq <| XC.seq <| XC.region <| rR rfl rfl rfl (RO.fieldOwn fo_39_1 rfl) <| rR rfl rfl rfl (RO.loadOwn ag_37 rfl rfl rfl) <| rR rfl rfl rfl (RO.lenE (α := LV) sl_37 rfl (.d _)) <| rM rfl rfl rfl <| XL.nil <| XQ.seq <| XC.block ?_
    refine XC.joinX 0 (fun (o8 : IMap × Int) => ⟨[(4, .v (.one (.ptr 1 0))), (6, .v (.one (.ptr 3 0)))], [(0, .cells 39 (cE a0)), (1, .cells 39 [dI 0, dN]), (2, .mp (imE o8.1.1) o8.1.2), (3, .cells 105 [.mp 2, dI o8.2])], [], 4, 65, []⟩) (fun (o8 : IMap × Int) => (Option.bind (Option.bind (some ()) (fun (y11 : Unit) => guardO (imOk o8.1)
      (Option.bind (loopN (m48_l2 o8) FUEL (0, ([] : List LV))) (fun (o14 : (List LV)) => guardO (Nat.ble (⟨o8.2, o14⟩ : Lvl).vs.length 100000)
      (some ((limL (⟨o8.2, o14⟩ : Lvl)).2, ((limL (⟨o8.2, o14⟩ : Lvl)).1).c, ((limL (⟨o8.2, o14⟩ : Lvl)).1).vs)))))) (fun (y9 : Int × Int × (List LV)) => some ((⟨y9.2.1, y9.2.2⟩ : Lvl), y9.1))) = some r) ?_ ?_
    ·
     refine bindK h0 (fun o9 hl1 h0 => ?_)
     refine XC.loopM (m48_l1 a0 a1) (fun s1 => ⟨[(1, .v (.one (dS a1))), (4, .v (.one (.ptr 1 0))), (6, .v (.one (.ptr 3 0))), (26, .v (.one (dS a0.vs))), (27, .v (.one (dI (a0.vs.length : Int)))), (28, .v (.one (dI s1.1)))], [(0, .cells 39 (cE a0)), (1, .cells 39 [dI 0, dN]), (2, .mp (imE s1.2.1.1) s1.2.1.2), (3, .cells 105 [.mp 2, dI s1.2.2])], [], 4, 65, []⟩) (0, imNil, a0.c) o9 (stle (tR rfl (tR rfl (tR rfl (tR rfl (tR rfl (tR rfl tZ)))))) (hR rfl (hR rfl (hR rfl (hR rfl hZ)))) kZ rfl (Nat.zero_le _) rfl rfl rfl (bB rfl rfl (bB rfl rfl (bM rfl (bB rfl rfl bZ)))) rfl rfl) hl1 (fun s1 n1 oo1 h1 ho1 => ?_)
     unfold m48_l1 at h1
     refine XC.seq <| XC.region <| rR rfl rfl rfl (RO.binInt rfl rfl rfl) <| XL.nil <| XQ.seq <| XC.seq ?_
     refine XC.cond (b := (decide (s1.1 < (a0.vs.length : Int)))) rfl (fun c10 => ?_) (fun c10 => ?_)
     ·
      replace h1 := condT c10 h1
      refine XC.skip <| XQ.seq <| XC.seq <| XC.block <| XC.seq <| XC.region ?_
      refine bindK h1 (fun x11 hx11 h1 => ?_)
      refine rR rfl rfl rfl (RO.indexE (α := LV) sl_37 rfl (.d _) rfl hx11) <| rR rfl rfl rfl (RO.loadPelAgg ag_59 rfl rfl rfl) <| XL.put rfl rfl (lb rfl) (OpOK.alloc z_59 rfl) <| XL.eff rfl rfl (OpOK.store ag_59 rfl rfl rfl rfl (lb rfl) rfl) <| XL.nil <| XQ.seq <| XC.seq <| XC.region <| rR rfl rfl rfl (RO.fieldOwn fo_59_0 rfl) <| rR rfl rfl rfl (RO.loadOwn ag_3 rfl rfl rfl) <| rR rfl rfl rfl (RO.binInt rfl rfl rfl) <| rA rfl rfl rfl <| XL.nil <| XQ.seq ?_
      refine XC.seq ?_
      refine XC.joinR (fun (v12 : Bool) => ⟨[(1, .v (.one (dS a1))), (4, .v (.one (.ptr 1 0))), (6, .v (.one (.ptr 3 0))), (8, .v (.one (.ptr 4 0))), (9, .v (.one (dI (w64 ((-1) - x11.1))))), (26, .v (.one (dS a0.vs))), (27, .v (.one (dI (a0.vs.length : Int)))), (28, .v (.one (dI s1.1))), (42, .v (.one (dB v12)))], [(0, .cells 39 (cE a0)), (1, .cells 39 [dI 0, dN]), (2, .mp (imE s1.2.1.1) s1.2.1.2), (3, .cells 105 [.mp 2, dI s1.2.2]), (4, .cells 59 (cE x11))], [], 5, 65, []⟩) (fun (v12 : Bool) => (cond v12
          (Option.bind (idx a1 (w64 ((-1) - x11.1))) fun (x14 : Lvl) =>
        Option.bind (Option.bind (loopN (m48_l0 x14 x11) FUEL (0, s1.2.1)) (fun (o17 : IMap) => some o17)) (fun (y15 : IMap) => some (.next ((w64 (s1.1 + 1)), y15, (max s1.2.2 (w64 (x14.c + x11.2)))))))
          (Option.bind (Option.bind (cond (!(imHas s1.2.1 x11.1))
          (some true)
          (some (decide ((imVal s1.2.1 x11.1) < x11.2)))) (fun (v28 : Bool) => cond v28
          (some (imSet s1.2.1 x11.1 x11.2))
          (some s1.2.1))) (fun (y26 : IMap) => some (.next ((w64 (s1.1 + 1)), y26, s1.2.2))))) = some oo1) ?_ ?_
      ·
       refine bindK h1 (fun v_ h2 h1 => ?_)
       refine XC.region <| rM rfl rfl rfl <| rR rfl rfl rfl (RO.binInt rfl rfl rfl) <| rM rfl rfl rfl ?_
       refine XL.case (d := 37) (c := (decide (0 ≤ (w64 ((-1) - x11.1))))) rfl (fun c13 => ?_) (fun c13 => ?_)
       ·
        replace h2 := condT c13 h2
        refine rM rfl rfl rfl <| rM rfl rfl rfl <| rR rfl rfl rfl (RO.lenE (α := Lvl) sl_31 rfl (.d _)) <| rR rfl rfl rfl (RO.binInt rfl rfl rfl) <| rR rfl rfl rfl (RO.pickT rfl rfl) <| XL.nil ?_
        have e_ := Option.some.inj h2
        subst e_
        exact XQ.joinR (decide ((w64 ((-1) - x11.1)) < (a1.length : Int))) (stle (tR rfl (tR rfl (tR rfl (tR rfl (tR rfl (tR rfl (tR rfl (tR rfl (tR rfl tZ))))))))) (hR rfl (hR rfl (hR rfl (hR rfl (hR rfl hZ))))) kZ rfl (Nat.zero_le _) rfl rfl rfl (bB rfl rfl (bB rfl rfl (bM rfl (bB rfl rfl (bB rfl rfl bZ))))) rfl rfl) h1
       ·
        replace h2 := condF c13 h2
        refine XL.no rfl rfl <| XL.no rfl rfl <| XL.no rfl rfl <| XL.no rfl rfl <| rR rfl rfl rfl (RO.pickF rfl rfl) <| XL.nil ?_
        have e_ := Option.some.inj h2
        subst e_
        exact XQ.joinR false (stle (tR rfl (tR rfl (tR rfl (tR rfl (tR rfl (tR rfl (tR rfl (tR rfl (tR rfl tZ))))))))) (hR rfl (hR rfl (hR rfl (hR rfl (hR rfl hZ))))) kZ rfl (Nat.zero_le _) rfl rfl rfl (bB rfl rfl (bB rfl rfl (bM rfl (bB rfl rfl (bB rfl rfl bZ))))) rfl rfl) h1
      ·
       intro v12 h1
       refine XQ.seq ?_
       refine XC.cond (b := v12) rfl (fun c14 => ?_) (fun c14 => ?_)
       ·
        replace h1 := condT c14 h1
        refine XC.anyRun [7] [] mixed (by kernel_rfl) (by kernel_rfl) (by kernel_rfl) ?_
        refine RunA.rd rfl rfl rfl (OpOK.of_ro (RO.move rfl)) rfl <| RunA.rd rfl rfl rfl (OpOK.of_ro (RO.move rfl)) rfl <| RunA.rd rfl rfl rfl (OpOK.of_ro (RO.move rfl)) rfl ?_
        refine bindK h1 (fun x15 hx15 h1 => ?_)
        refine RunA.rd rfl rfl rfl (OpOK.of_ro (RO.indexE (α := Lvl) sl_31 rfl (.d _) rfl hx15)) rfl <| RunA.rd rfl rfl rfl (OpOK.of_ro (RO.loadPelAgg ag_39 rfl rfl rfl)) rfl <| RunA.rd rfl rfl rfl (OpOK.of_ro (RO.fieldOwn fo_59_1 rfl)) rfl <| RunA.rd rfl rfl rfl (OpOK.of_ro (RO.loadOwn ag_3 rfl rfl rfl)) rfl ?_
        refine bindK h1 (fun y16 h2 h1 => ?_)
        have hc17 : CallM Try.prog 67 [.one (.ptr 3 0), .agg (cE x15), .one (dI x11.2)] ⟨[(0, .cells 39 (cE a0)), (1, .cells 39 [dI 0, dN]), (2, .mp (imE s1.2.1.1) s1.2.1.2), (3, .cells 105 [.mp 2, dI s1.2.2]), (4, .cells 59 (cE x11))], [], 5⟩ (resOf []) ⟨[(0, .cells 39 (cE a0)), (1, .cells 39 [dI 0, dN]), (2, .mp (imE y16.1) y16.2), (3, .cells 105 [.mp 2, dI (max s1.2.2 (w64 (x15.c + x11.2)))]), (4, .cells 59 (cE x11))], [], 6⟩ := by
         refine CallM.of_bodyD ⟨[], [(0, .cells 39 (cE a0)), (1, .cells 39 [dI 0, dN]), (2, .mp (imE y16.1) y16.2), (3, .cells 105 [.mp 2, dI (max s1.2.2 (w64 (x15.c + x11.2)))]), (4, .cells 59 (cE x11))], [], 6, 39, []⟩ rfl rfl en_67 (lb rfl) rfl .nil (fun w0 M V0 Q hv2 hQ2 => ?_)
         simp only [entry]
         refine XC.seq <| XC.region <| XL.put rfl rfl (lb rfl) (OpOK.box rfl) <| XL.nil <| XQ.seq <| XC.seq ?_
         refine XC.anyRun [12] [] mixed (by kernel_rfl) (by kernel_rfl) (by kernel_rfl) ?_
         refine RunA.rd rfl rfl rfl (OpOK.of_ro (RO.move rfl)) rfl <| RunA.rd rfl rfl rfl (OpOK.of_ro (RO.move rfl)) rfl <| RunA.rd rfl rfl rfl (OpOK.of_ro (RO.nilCheckPtr rfl)) rfl <| RunA.rd rfl rfl rfl (OpOK.of_ro (RO.fieldOwn fo_105_1 rfl)) rfl <| RunA.rd rfl rfl rfl (OpOK.of_ro (RO.loadOwn ag_3 rfl rfl rfl)) rfl <| RunA.rd rfl rfl rfl (OpOK.of_ro (RO.fieldOwn fo_39_0 rfl)) rfl <| RunA.rd rfl rfl rfl (OpOK.of_ro (RO.loadOwn ag_3 rfl rfl rfl)) rfl <| RunA.rd rfl rfl rfl (OpOK.of_ro (RO.move rfl)) rfl <| RunA.rd rfl rfl rfl (OpOK.of_ro (RO.binInt rfl rfl rfl)) rfl <| RunA.rd rfl rfl rfl (OpOK.of_ro (RO.max2 rfl rfl)) rfl <| RunA.rd rfl rfl rfl (OpOK.of_ro (RO.nilCheckPtr rfl)) rfl <| RunA.rd rfl rfl rfl (OpOK.of_ro (RO.fieldOwn fo_105_1 rfl)) rfl <| RunA.eff rfl rfl rfl (OpOK.store ag_3 rfl rfl rfl rfl (lb rfl) rfl) rfl ?_
         refine RunA.nil ⟨?ex, _, _, rfl, ?_⟩
         case ex => exact trivial
         refine XQ.less (st' := ⟨[(0, .v (.one (.ptr 3 0))), (2, .v (.one (dI x11.2))), (4, .v (.one (.ptr 5 0)))], [(0, .cells 39 (cE a0)), (1, .cells 39 [dI 0, dN]), (2, .mp (imE s1.2.1.1) s1.2.1.2), (3, .cells 105 [.mp 2, dI (max s1.2.2 (w64 (x15.c + x11.2)))]), (4, .cells 59 (cE x11)), (5, .cells 39 (cE x15))], [], 6, 39, []⟩) (stle (tR rfl (tR rfl (tR rfl tZ))) (hR rfl (hR rfl (hR rfl (hR rfl (hR rfl (hR rfl hZ)))))) kZ rfl (Nat.le_trans hv2 (lb rfl)) rfl rfl rfl (bB rfl rfl (bB rfl rfl (bM rfl (bB rfl rfl (bB rfl rfl (bB rfl rfl bZ)))))) rfl rfl) <| XQ.seq <| XC.seq <| XC.region <| rR rfl rfl rfl (RO.fieldOwn fo_39_1 rfl) <| rR rfl rfl rfl (RO.loadOwn ag_37 rfl rfl rfl) <| rR rfl rfl rfl (RO.lenE (α := LV) sl_37 rfl (.d _)) <| rM rfl rfl rfl <| XL.nil <| XQ.seq <| XC.block ?_
         refine XC.joinX 0 (fun (o18 : IMap) => ⟨[], [(0, .cells 39 (cE a0)), (1, .cells 39 [dI 0, dN]), (2, .mp (imE o18.1) o18.2), (3, .cells 105 [.mp 2, dI (max s1.2.2 (w64 (x15.c + x11.2)))]), (4, .cells 59 (cE x11)), (5, .cells 39 (cE x15))], [], 6, 39, []⟩) (fun (o18 : IMap) => (some o18) = some y16) ?_ ?_
         ·
          refine bindK h2 (fun o19 hl3 h2 => ?_)
          refine XC.loopM (m48_l0 x15 x11) (fun s3 => ⟨[(0, .v (.one (.ptr 3 0))), (2, .v (.one (dI x11.2))), (21, .v (.one (dS x15.vs))), (22, .v (.one (dI (x15.vs.length : Int)))), (23, .v (.one (dI s3.1)))], [(0, .cells 39 (cE a0)), (1, .cells 39 [dI 0, dN]), (2, .mp (imE s3.2.1) s3.2.2), (3, .cells 105 [.mp 2, dI (max s1.2.2 (w64 (x15.c + x11.2)))]), (4, .cells 59 (cE x11)), (5, .cells 39 (cE x15))], [], 6, 39, []⟩) (0, s1.2.1) o19 (stle (tR rfl (tR rfl (tR rfl (tR rfl (tR rfl tZ))))) (hR rfl (hR rfl (hR rfl (hR rfl (hR rfl (hR rfl hZ)))))) kZ rfl (Nat.le_trans hv2 (lb rfl)) rfl rfl rfl (bB rfl rfl (bB rfl rfl (bM rfl (bB rfl rfl (bB rfl rfl (bB rfl rfl bZ)))))) rfl rfl) hl3 (fun s3 n3 oo3 h3 ho3 => ?_)
          unfold m48_l0 at h3
          refine XC.seq <| XC.region <| rR rfl rfl rfl (RO.binInt rfl rfl rfl) <| XL.nil <| XQ.seq <| XC.seq ?_
          refine XC.cond (b := (decide (s3.1 < (x15.vs.length : Int)))) rfl (fun c20 => ?_) (fun c20 => ?_)
          ·
           replace h3 := condT c20 h3
           refine XC.skip <| XQ.seq <| XC.seq <| XC.block <| XC.seq <| XC.region ?_
           refine bindK h3 (fun x21 hx21 h3 => ?_)
           refine rR rfl rfl rfl (RO.indexE (α := LV) sl_37 rfl (.d _) rfl hx21) <| rR rfl rfl rfl (RO.loadPelAgg ag_59 rfl rfl rfl) <| XL.put rfl rfl (lb rfl) (OpOK.alloc z_59 rfl) <| XL.eff rfl rfl (OpOK.store ag_59 rfl rfl rfl rfl (lb rfl) rfl) <| XL.nil <| XQ.seq ?_
           refine XC.anyRun [10] [] mixed (by kernel_rfl) (by kernel_rfl) (by kernel_rfl) ?_
           refine RunA.rd rfl rfl rfl (OpOK.of_ro (RO.move rfl)) rfl <| RunA.rd rfl rfl rfl (OpOK.of_ro (RO.nilCheckPtr rfl)) rfl <| RunA.rd rfl rfl rfl (OpOK.of_ro (RO.fieldOwn fo_105_0 rfl)) rfl <| RunA.rd rfl rfl rfl (OpOK.of_ro (RO.loadOwn ag_103 rfl rfl rfl)) rfl <| RunA.rd rfl rfl rfl (OpOK.of_ro (RO.fieldOwn fo_59_0 rfl)) rfl <| RunA.rd rfl rfl rfl (OpOK.of_ro (RO.loadOwn ag_3 rfl rfl rfl)) rfl <| RunA.rd rfl rfl rfl (OpOK.of_ro (RO.fieldOwn fo_59_1 rfl)) rfl <| RunA.rd rfl rfl rfl (OpOK.of_ro (RO.loadOwn ag_3 rfl rfl rfl)) rfl <| RunA.rd rfl rfl rfl (OpOK.of_ro (RO.move rfl)) rfl <| RunA.rd rfl rfl rfl (OpOK.of_ro (RO.binInt rfl rfl rfl)) rfl ?_
           refine bindK h3 (fun y22 h4 h3 => ?_)
           have hc23 : CallM Try.prog 68 [.one (.mp 2), .one (dI x21.1), .one (dI (w64 (x21.2 + x11.2)))] ⟨[(0, .cells 39 (cE a0)), (1, .cells 39 [dI 0, dN]), (2, .mp (imE s3.2.1) s3.2.2), (3, .cells 105 [.mp 2, dI (max s1.2.2 (w64 (x15.c + x11.2)))]), (4, .cells 59 (cE x11)), (5, .cells 39 (cE x15)), (6, .cells 59 (cE x21))], [], 7⟩ (resOf []) ⟨[(0, .cells 39 (cE a0)), (1, .cells 39 [dI 0, dN]), (2, .mp (imE y22.1) y22.2), (3, .cells 105 [.mp 2, dI (max s1.2.2 (w64 (x15.c + x11.2)))]), (4, .cells 59 (cE x11)), (5, .cells 39 (cE x15)), (6, .cells 59 (cE x21))], [], 7⟩ := by
            refine CallM.of_bodyD ⟨[], [(0, .cells 39 (cE a0)), (1, .cells 39 [dI 0, dN]), (2, .mp (imE y22.1) y22.2), (3, .cells 105 [.mp 2, dI (max s1.2.2 (w64 (x15.c + x11.2)))]), (4, .cells 59 (cE x11)), (5, .cells 39 (cE x15)), (6, .cells 59 (cE x21))], [], 7, 24, []⟩ rfl rfl en_68 (lb rfl) rfl .nil (fun w0 M V0 Q hv4 hQ4 => ?_)
            simp only [entry]
            refine XC.seq <| XC.region <| rM rfl rfl rfl <| rM rfl rfl rfl <| rR rfl rfl rfl (RO.lookupT mp_103 rfl rfl rfl) <| rM rfl rfl rfl <| rR rfl rfl rfl (RO.extract rfl rfl) <| rR rfl rfl rfl (RO.extract rfl rfl) <| rA rfl rfl rfl <| rA rfl rfl rfl <| XL.nil <| XQ.seq <| XC.seq ?_
            refine XC.joinR (fun (v24 : Bool) => ⟨[(0, .v (.one (.mp 2))), (1, .v (.one (dI x21.1))), (2, .v (.one (dI (w64 (x21.2 + x11.2))))), (20, .v (.one (dB v24)))], [(0, .cells 39 (cE a0)), (1, .cells 39 [dI 0, dN]), (2, .mp (imE s3.2.1) s3.2.2), (3, .cells 105 [.mp 2, dI (max s1.2.2 (w64 (x15.c + x11.2)))]), (4, .cells 59 (cE x11)), (5, .cells 39 (cE x15)), (6, .cells 59 (cE x21))], [], 7, 24, []⟩) (fun (v24 : Bool) => (cond v24
                (some (imSet s3.2 x21.1 (w64 (x21.2 + x11.2))))
                (some s3.2)) = some y22) ?_ ?_
            ·
             refine bindK h4 (fun v_ h5 h4 => ?_)
             refine XC.region <| rM rfl rfl rfl <| rR rfl rfl rfl (RO.not rfl) <| rM rfl rfl rfl ?_
             refine XL.case (d := 16) (c := (!(imHas s3.2 x21.1))) rfl (fun c25 => ?_) (fun c25 => ?_)
             ·
              replace h5 := condT c25 h5
              refine XL.no rfl rfl <| XL.no rfl rfl <| XL.no rfl rfl <| rR rfl rfl rfl (RO.pickT rfl rfl) <| XL.nil ?_
              have e_ := Option.some.inj h5
              subst e_
              exact XQ.joinR true (stle (tR rfl (tR rfl (tR rfl (tR rfl tZ)))) (hR rfl (hR rfl (hR rfl (hR rfl (hR rfl (hR rfl (hR rfl hZ))))))) kZ rfl (Nat.le_trans hv4 (lb rfl)) rfl rfl rfl (bB rfl rfl (bB rfl rfl (bM rfl (bB rfl rfl (bB rfl rfl (bB rfl rfl (bB rfl rfl bZ))))))) rfl rfl) h4
             ·
              replace h5 := condF c25 h5
              refine rM rfl rfl rfl <| rM rfl rfl rfl <| rR rfl rfl rfl (RO.binInt rfl rfl rfl) <| rR rfl rfl rfl (RO.pickF rfl rfl) <| XL.nil ?_
              have e_ := Option.some.inj h5
              subst e_
              exact XQ.joinR (decide ((imVal s3.2 x21.1) < (w64 (x21.2 + x11.2)))) (stle (tR rfl (tR rfl (tR rfl (tR rfl tZ)))) (hR rfl (hR rfl (hR rfl (hR rfl (hR rfl (hR rfl (hR rfl hZ))))))) kZ rfl (Nat.le_trans hv4 (lb rfl)) rfl rfl rfl (bB rfl rfl (bB rfl rfl (bM rfl (bB rfl rfl (bB rfl rfl (bB rfl rfl (bB rfl rfl bZ))))))) rfl rfl) h4
            ·
             intro v24 h4
             refine XQ.seq ?_
             refine XC.cond (b := v24) rfl (fun c26 => ?_) (fun c26 => ?_)
             ·
              replace h4 := condT c26 h4
              refine XC.region <| rM rfl rfl rfl <| rM rfl rfl rfl <| rM rfl rfl rfl <| XL.eff rfl rfl (OpOK.mapSetI mp_103 rfl rfl rfl rfl rfl) <| XL.nil ?_
              have e_ := Option.some.inj h4
              subst e_
              exact hQ4 _ _ _ (.inl rfl) rfl (stle tZ (hR rfl (hR rfl (hR rfl (hR rfl (hR rfl (hR rfl (hR rfl hZ))))))) kZ rfl (Nat.le_trans hv4 (lb rfl)) rfl rfl rfl (bB rfl rfl (bB rfl rfl (bM rfl (bB rfl rfl (bB rfl rfl (bB rfl rfl (bB rfl rfl bZ))))))) rfl rfl)
             ·
              replace h4 := condF c26 h4
              refine XC.skip ?_
              have e_ := Option.some.inj h4
              subst e_
              exact hQ4 _ _ _ (.inl rfl) rfl (stle tZ (hR rfl (hR rfl (hR rfl (hR rfl (hR rfl (hR rfl (hR rfl hZ))))))) kZ rfl (Nat.le_trans hv4 (lb rfl)) rfl rfl rfl (bB rfl rfl (bB rfl rfl (bM rfl (bB rfl rfl (bB rfl rfl (bB rfl rfl (bB rfl rfl bZ))))))) rfl rfl)
           refine RunA.eff rfl rfl rfl (OpOK.callW rfl rfl rfl hc23 rfl (hR rfl (hR rfl (hR rfl (hR rfl (hR rfl (hR rfl (hR rfl hZ))))))) kZ) rfl ?_
           refine RunA.nil ⟨?ex, _, _, rfl, ?_⟩
           case ex => exact trivial
           refine XQ.less (st' := ⟨[(0, .v (.one (.ptr 3 0))), (2, .v (.one (dI x11.2))), (21, .v (.one (dS x15.vs))), (22, .v (.one (dI (x15.vs.length : Int)))), (23, .v (.one (dI s3.1)))], [(0, .cells 39 (cE a0)), (1, .cells 39 [dI 0, dN]), (2, .mp (imE y22.1) y22.2), (3, .cells 105 [.mp 2, dI (max s1.2.2 (w64 (x15.c + x11.2)))]), (4, .cells 59 (cE x11)), (5, .cells 39 (cE x15)), (6, .cells 59 (cE x21))], [], 7, 39, []⟩) (stle (tR rfl (tR rfl (tR rfl (tR rfl (tR rfl tZ))))) (hR rfl (hR rfl (hR rfl (hR rfl (hR rfl (hR rfl (hR rfl hZ))))))) kZ rfl (Nat.le_trans hv2 (lb rfl)) rfl rfl rfl (bB rfl rfl (bB rfl rfl (bM rfl (bB rfl rfl (bB rfl rfl (bB rfl rfl (bB rfl rfl bZ))))))) rfl rfl) <| XQ.inBlock <| XQ.seq <| XC.region <| rR rfl rfl rfl (RO.binInt rfl rfl rfl) <| rM rfl rfl rfl <| XL.nil ?_
           have e_ := Option.some.inj h3
           subst e_
           refine XQ.nextM ((w64 (s3.1 + 1)), y22) (stle (tR rfl (tR rfl (tR rfl (tR rfl (tR rfl tZ))))) (hR rfl (hR rfl (hR rfl (hR rfl (hR rfl (hR rfl hZ)))))) kZ rfl (Nat.le_trans hv2 (lb rfl)) rfl rfl rfl (bB rfl rfl (bB rfl rfl (bM rfl (bB rfl rfl (bB rfl rfl (bB rfl rfl bZ)))))) rfl rfl) ho3
          ·
           replace h3 := condF c20 h3
           refine XC.exit <| XQ.thenE <| XQ.thenE ?_
           have e_ := Option.some.inj h3
           subst e_
           have e_ : _ = _ := ho3
           subst e_
           exact XQ.joinX s3.2 (stle tZ (hR rfl (hR rfl (hR rfl (hR rfl (hR rfl (hR rfl hZ)))))) kZ rfl (Nat.le_trans hv2 (lb rfl)) rfl rfl rfl (bB rfl rfl (bB rfl rfl (bM rfl (bB rfl rfl (bB rfl rfl (bB rfl rfl bZ)))))) rfl rfl) h2
         ·
          intro o18 h2
          refine XQ.blockX ?_
          have e_ := Option.some.inj h2
          subst e_
          exact hQ2 _ _ _ (.inl rfl) rfl (stle tZ (hR rfl (hR rfl (hR rfl (hR rfl (hR rfl hZ))))) kZ rfl (Nat.le_trans hv2 (lb rfl)) rfl rfl rfl (bB rfl rfl (bB rfl rfl (bM rfl (bB rfl rfl (bB rfl rfl bZ))))) rfl rfl)
        refine RunA.eff rfl rfl rfl (OpOK.callW rfl rfl rfl hc17 rfl (hR rfl (hR rfl (hR rfl (hR rfl (hR rfl hZ))))) kZ) rfl ?_
        refine RunA.nil ⟨?ex, _, _, rfl, ?_⟩
        case ex => exact trivial
        refine XQ.less (st' := ⟨[(1, .v (.one (dS a1))), (4, .v (.one (.ptr 1 0))), (6, .v (.one (.ptr 3 0))), (26, .v (.one (dS a0.vs))), (27, .v (.one (dI (a0.vs.length : Int)))), (28, .v (.one (dI s1.1)))], [(0, .cells 39 (cE a0)), (1, .cells 39 [dI 0, dN]), (2, .mp (imE y16.1) y16.2), (3, .cells 105 [.mp 2, dI (max s1.2.2 (w64 (x15.c + x11.2)))]), (4, .cells 59 (cE x11))], [], 6, 65, []⟩) (stle (tR rfl (tR rfl (tR rfl (tR rfl (tR rfl (tR rfl tZ)))))) (hR rfl (hR rfl (hR rfl (hR rfl (hR rfl hZ))))) kZ rfl (Nat.zero_le _) rfl rfl rfl (bB rfl rfl (bB rfl rfl (bM rfl (bB rfl rfl (bB rfl rfl bZ))))) rfl rfl) <| XQ.inBlock <| XQ.seq <| XC.region <| rR rfl rfl rfl (RO.binInt rfl rfl rfl) <| rM rfl rfl rfl <| XL.nil ?_
        have e_ := Option.some.inj h1
        subst e_
        refine XQ.nextM ((w64 (s1.1 + 1)), y16, (max s1.2.2 (w64 (x15.c + x11.2)))) (stle (tR rfl (tR rfl (tR rfl (tR rfl (tR rfl (tR rfl tZ)))))) (hR rfl (hR rfl (hR rfl (hR rfl hZ)))) kZ rfl (Nat.zero_le _) rfl rfl rfl (bB rfl rfl (bB rfl rfl (bM rfl (bB rfl rfl bZ)))) rfl rfl) ho1
       ·
        replace h1 := condF c14 h1
        refine XC.anyRun [8] [] mixed (by kernel_rfl) (by kernel_rfl) (by kernel_rfl) ?_
        refine RunA.rd rfl rfl rfl (OpOK.of_ro (RO.move rfl)) rfl <| RunA.rd rfl rfl rfl (OpOK.of_ro (RO.nilCheckPtr rfl)) rfl <| RunA.rd rfl rfl rfl (OpOK.of_ro (RO.fieldOwn fo_105_0 rfl)) rfl <| RunA.rd rfl rfl rfl (OpOK.of_ro (RO.loadOwn ag_103 rfl rfl rfl)) rfl <| RunA.rd rfl rfl rfl (OpOK.of_ro (RO.fieldOwn fo_59_0 rfl)) rfl <| RunA.rd rfl rfl rfl (OpOK.of_ro (RO.loadOwn ag_3 rfl rfl rfl)) rfl <| RunA.rd rfl rfl rfl (OpOK.of_ro (RO.fieldOwn fo_59_1 rfl)) rfl <| RunA.rd rfl rfl rfl (OpOK.of_ro (RO.loadOwn ag_3 rfl rfl rfl)) rfl ?_
        refine bindK h1 (fun y27 h2 h1 => ?_)
        have hc28 : CallM Try.prog 68 [.one (.mp 2), .one (dI x11.1), .one (dI x11.2)] ⟨[(0, .cells 39 (cE a0)), (1, .cells 39 [dI 0, dN]), (2, .mp (imE s1.2.1.1) s1.2.1.2), (3, .cells 105 [.mp 2, dI s1.2.2]), (4, .cells 59 (cE x11))], [], 5⟩ (resOf []) ⟨[(0, .cells 39 (cE a0)), (1, .cells 39 [dI 0, dN]), (2, .mp (imE y27.1) y27.2), (3, .cells 105 [.mp 2, dI s1.2.2]), (4, .cells 59 (cE x11))], [], 5⟩ := by
         refine CallM.of_bodyD ⟨[], [(0, .cells 39 (cE a0)), (1, .cells 39 [dI 0, dN]), (2, .mp (imE y27.1) y27.2), (3, .cells 105 [.mp 2, dI s1.2.2]), (4, .cells 59 (cE x11))], [], 5, 24, []⟩ rfl rfl en_68 (lb rfl) rfl .nil (fun w0 M V0 Q hv2 hQ2 => ?_)
         simp only [entry]
         refine XC.seq <| XC.region <| rM rfl rfl rfl <| rM rfl rfl rfl <| rR rfl rfl rfl (RO.lookupT mp_103 rfl rfl rfl) <| rM rfl rfl rfl <| rR rfl rfl rfl (RO.extract rfl rfl) <| rR rfl rfl rfl (RO.extract rfl rfl) <| rA rfl rfl rfl <| rA rfl rfl rfl <| XL.nil <| XQ.seq <| XC.seq ?_
         refine XC.joinR (fun (v29 : Bool) => ⟨[(0, .v (.one (.mp 2))), (1, .v (.one (dI x11.1))), (2, .v (.one (dI x11.2))), (20, .v (.one (dB v29)))], [(0, .cells 39 (cE a0)), (1, .cells 39 [dI 0, dN]), (2, .mp (imE s1.2.1.1) s1.2.1.2), (3, .cells 105 [.mp 2, dI s1.2.2]), (4, .cells 59 (cE x11))], [], 5, 24, []⟩) (fun (v29 : Bool) => (cond v29
             (some (imSet s1.2.1 x11.1 x11.2))
             (some s1.2.1)) = some y27) ?_ ?_
         ·
          refine bindK h2 (fun v_ h3 h2 => ?_)
          refine XC.region <| rM rfl rfl rfl <| rR rfl rfl rfl (RO.not rfl) <| rM rfl rfl rfl ?_
          refine XL.case (d := 16) (c := (!(imHas s1.2.1 x11.1))) rfl (fun c30 => ?_) (fun c30 => ?_)
          ·
           replace h3 := condT c30 h3
           refine XL.no rfl rfl <| XL.no rfl rfl <| XL.no rfl rfl <| rR rfl rfl rfl (RO.pickT rfl rfl) <| XL.nil ?_
           have e_ := Option.some.inj h3
           subst e_
           exact XQ.joinR true (stle (tR rfl (tR rfl (tR rfl (tR rfl tZ)))) (hR rfl (hR rfl (hR rfl (hR rfl (hR rfl hZ))))) kZ rfl (Nat.le_trans hv2 (lb rfl)) rfl rfl rfl (bB rfl rfl (bB rfl rfl (bM rfl (bB rfl rfl (bB rfl rfl bZ))))) rfl rfl) h2
          ·
           replace h3 := condF c30 h3
           refine rM rfl rfl rfl <| rM rfl rfl rfl <| rR rfl rfl rfl (RO.binInt rfl rfl rfl) <| rR rfl rfl rfl (RO.pickF rfl rfl) <| XL.nil ?_
           have e_ := Option.some.inj h3
           subst e_
           exact XQ.joinR (decide ((imVal s1.2.1 x11.1) < x11.2)) (stle (tR rfl (tR rfl (tR rfl (tR rfl tZ)))) (hR rfl (hR rfl (hR rfl (hR rfl (hR rfl hZ))))) kZ rfl (Nat.le_trans hv2 (lb rfl)) rfl rfl rfl (bB rfl rfl (bB rfl rfl (bM rfl (bB rfl rfl (bB rfl rfl bZ))))) rfl rfl) h2
         ·
          intro v29 h2
          refine XQ.seq ?_
          refine XC.cond (b := v29) rfl (fun c31 => ?_) (fun c31 => ?_)
          ·
           replace h2 := condT c31 h2
           refine XC.region <| rM rfl rfl rfl <| rM rfl rfl rfl <| rM rfl rfl rfl <| XL.eff rfl rfl (OpOK.mapSetI mp_103 rfl rfl rfl rfl rfl) <| XL.nil ?_
           have e_ := Option.some.inj h2
           subst e_
           exact hQ2 _ _ _ (.inl rfl) rfl (stle tZ (hR rfl (hR rfl (hR rfl (hR rfl (hR rfl hZ))))) kZ rfl (Nat.le_trans hv2 (lb rfl)) rfl rfl rfl (bB rfl rfl (bB rfl rfl (bM rfl (bB rfl rfl (bB rfl rfl bZ))))) rfl rfl)
          ·
           replace h2 := condF c31 h2
           refine XC.skip ?_
           have e_ := Option.some.inj h2
           subst e_
           exact hQ2 _ _ _ (.inl rfl) rfl (stle tZ (hR rfl (hR rfl (hR rfl (hR rfl (hR rfl hZ))))) kZ rfl (Nat.le_trans hv2 (lb rfl)) rfl rfl rfl (bB rfl rfl (bB rfl rfl (bM rfl (bB rfl rfl (bB rfl rfl bZ))))) rfl rfl)
        refine RunA.eff rfl rfl rfl (OpOK.callW rfl rfl rfl hc28 rfl (hR rfl (hR rfl (hR rfl (hR rfl (hR rfl hZ))))) kZ) rfl ?_
        refine RunA.nil ⟨?ex, _, _, rfl, ?_⟩
        case ex => exact trivial
        refine XQ.less (st' := ⟨[(1, .v (.one (dS a1))), (4, .v (.one (.ptr 1 0))), (6, .v (.one (.ptr 3 0))), (26, .v (.one (dS a0.vs))), (27, .v (.one (dI (a0.vs.length : Int)))), (28, .v (.one (dI s1.1)))], [(0, .cells 39 (cE a0)), (1, .cells 39 [dI 0, dN]), (2, .mp (imE y27.1) y27.2), (3, .cells 105 [.mp 2, dI s1.2.2]), (4, .cells 59 (cE x11))], [], 5, 65, []⟩) (stle (tR rfl (tR rfl (tR rfl (tR rfl (tR rfl (tR rfl tZ)))))) (hR rfl (hR rfl (hR rfl (hR rfl (hR rfl hZ))))) kZ rfl (Nat.zero_le _) rfl rfl rfl (bB rfl rfl (bB rfl rfl (bM rfl (bB rfl rfl (bB rfl rfl bZ))))) rfl rfl) <| XQ.inBlock <| XQ.seq <| XC.region <| rR rfl rfl rfl (RO.binInt rfl rfl rfl) <| rM rfl rfl rfl <| XL.nil ?_
        have e_ := Option.some.inj h1
        subst e_
        refine XQ.nextM ((w64 (s1.1 + 1)), y27, s1.2.2) (stle (tR rfl (tR rfl (tR rfl (tR rfl (tR rfl (tR rfl tZ)))))) (hR rfl (hR rfl (hR rfl (hR rfl hZ)))) kZ rfl (Nat.zero_le _) rfl rfl rfl (bB rfl rfl (bB rfl rfl (bM rfl (bB rfl rfl bZ)))) rfl rfl) ho1
     ·
      replace h1 := condF c10 h1
      refine XC.exit <| XQ.thenE <| XQ.thenE ?_
      have e_ := Option.some.inj h1
      subst e_
      have e_ : _ = _ := ho1
      subst e_
      exact XQ.joinX (s1.2.1, s1.2.2) (stle (tR rfl (tR rfl tZ)) (hR rfl (hR rfl (hR rfl (hR rfl hZ)))) kZ rfl (Nat.zero_le _) rfl rfl rfl (bB rfl rfl (bB rfl rfl (bM rfl (bB rfl rfl bZ)))) rfl rfl) h0
    ·
     intro o8 h0
     refine XQ.blockX <| XQ.seq <| XC.seq <| XC.region <| rM rfl rfl rfl ?_
     refine bindK h0 (fun y32 h1 h0 => ?_)
     have hc33 : CallM Try.prog 69 [.one (.ptr 3 0)] ⟨[(0, .cells 39 (cE a0)), (1, .cells 39 [dI 0, dN]), (2, .mp (imE o8.1.1) o8.1.2), (3, .cells 105 [.mp 2, dI o8.2])], [], 4⟩ (resOf [.agg [dI y32.2.1, dS y32.2.2], .one (dI y32.1)]) ⟨[(0, .cells 39 (cE a0)), (1, .cells 39 [dI 0, dN]), (2, .mp (imE o8.1.1) o8.1.2), (3, .cells 105 [.mp 2, dI o8.2]), (4, .cells 39 [dI y32.2.1, dS y32.2.2])], [], 8⟩ := by
      refine CallM.of_bodyD ⟨[(2, .v (.one (.ptr 4 0))), (3, .v (.one (dI y32.1)))], [(0, .cells 39 (cE a0)), (1, .cells 39 [dI 0, dN]), (2, .mp (imE o8.1.1) o8.1.2), (3, .cells 105 [.mp 2, dI o8.2]), (4, .cells 39 [dI y32.2.1, dS y32.2.2])], [], 8, 41, []⟩ rfl rfl en_69 (lb rfl) rfl (RAs.agg ag_39 rfl rfl rfl rfl (RAs.tmp rfl .nil)) (fun w0 M V0 Q hv1 hQ1 => ?_)
      simp only [entry]
      refine XC.seq <| XC.region <| XL.put rfl rfl (lb rfl) (OpOK.alloc z_39 rfl) <| rA rfl rfl rfl <| XL.nil <| XQ.seq <| XC.seq <| XC.region <| rM rfl rfl rfl <| rR rfl rfl rfl (RO.nilCheckPtr rfl) <| rR rfl rfl rfl (RO.fieldOwn fo_105_1 rfl) <| rR rfl rfl rfl (RO.loadOwn ag_3 rfl rfl rfl) <| rR rfl rfl rfl (RO.build1 bd_39 rfl rfl rfl) <| XL.put rfl rfl (lb rfl) (OpOK.alloc z_39 rfl) ?_
      refine XL.eff rfl rfl (OpOK.store ag_39 rfl rfl rfl rfl (lb rfl) rfl) <| XL.nil <| XQ.seq <| XC.seq <| XC.seq <| XC.region <| rM rfl rfl rfl <| rR rfl rfl rfl (RO.nilCheckPtr rfl) <| rR rfl rfl rfl (RO.fieldOwn fo_105_0 rfl) <| rR rfl rfl rfl (RO.loadOwn ag_103 rfl rfl rfl) ?_
      refine bindK h1 (fun y34 h2 h1 => ?_)
      have hc35 : CallM Try.prog 83 [.one (.mp 2)] ⟨[(0, .cells 39 (cE a0)), (1, .cells 39 [dI 0, dN]), (2, .mp (imE o8.1.1) o8.1.2), (3, .cells 105 [.mp 2, dI o8.2]), (4, .cells 39 [dI 0, dN]), (5, .cells 39 [dI o8.2, dN])], [], 6⟩ (resOf [.one (.fn 91 [(6, 0)])]) ⟨[(0, .cells 39 (cE a0)), (1, .cells 39 [dI 0, dN]), (2, .mp (imE o8.1.1) o8.1.2), (3, .cells 105 [.mp 2, dI o8.2]), (4, .cells 39 [dI 0, dN]), (5, .cells 39 [dI o8.2, dN]), (6, .cells 103 [.mp 2])], [], 7⟩ := by
       refine CallM.of_bodyD ⟨[(2, .v (.one (.fn 91 [(6, 0)])))], [(0, .cells 39 (cE a0)), (1, .cells 39 [dI 0, dN]), (2, .mp (imE o8.1.1) o8.1.2), (3, .cells 105 [.mp 2, dI o8.2]), (4, .cells 39 [dI 0, dN]), (5, .cells 39 [dI o8.2, dN]), (6, .cells 103 [.mp 2])], [], 7, 4, []⟩ rfl rfl en_83 (lb rfl) rfl (RAs.tmp rfl .nil) (fun w0 M V0 Q hv2 hQ2 => ?_)
       simp only [entry]
       refine XC.seq <| XC.region <| XL.put rfl rfl (lb rfl) (OpOK.box rfl) <| rA rfl rfl rfl <| XL.nil <| XQ.seq <| XC.seq <| XC.region <| rR rfl rfl rfl (RO.makeFunc1 rfl) <| rA rfl rfl rfl <| XL.nil <| XQ.seq <| XC.ret ?_
       have e_ := Option.some.inj h2
       subst e_
       exact hQ2 _ _ _ (.inr rfl) rfl (stle (tR rfl tZ) (hR rfl (hR rfl (hR rfl (hR rfl (hR rfl (hR rfl (hR rfl hZ))))))) kZ rfl (Nat.le_trans hv2 (lb rfl)) rfl rfl rfl (bB rfl rfl (bB rfl rfl (bM rfl (bB rfl rfl (bB rfl rfl (bB rfl rfl (bB rfl rfl bZ))))))) rfl rfl)
      refine XL.put rfl rfl (lb rfl) (OpOK.callW rfl rfl rfl hc35 rfl (hR rfl (hR rfl (hR rfl (hR rfl (hR rfl (hR rfl hZ)))))) kZ) ?_
      refine guardK h1 (fun g36 h1 => ?_)
      refine XL.put rfl rfl (lb rfl) (OpOK.sortedKeys rfl rfl rfl rfl g36) <| rR rfl rfl rfl (RO.lenE (α := Int) sl_66 rfl (.d _)) <| rM rfl rfl rfl <| XL.nil <| XQ.seq <| XC.block ?_
      refine XC.joinX 0 (fun (o37 : (List LV)) => ⟨[(2, .v (.one (.ptr 4 0))), (4, .v (.one (.ptr 5 0)))], [(0, .cells 39 (cE a0)), (1, .cells 39 [dI 0, dN]), (2, .mp (imE o8.1.1) o8.1.2), (3, .cells 105 [.mp 2, dI o8.2]), (4, .cells 39 [dI 0, dN]), (5, .cells 39 [dI o8.2, dA 7 o37]), (6, .cells 103 [.mp 2])], [(7, some ⟨59, 2, (Enc.encL o37).length⟩)], 8, 41, []⟩) (fun (o37 : (List LV)) => (guardO (Nat.ble (⟨o8.2, o37⟩ : Lvl).vs.length 100000)
        (some ((limL (⟨o8.2, o37⟩ : Lvl)).2, ((limL (⟨o8.2, o37⟩ : Lvl)).1).c, ((limL (⟨o8.2, o37⟩ : Lvl)).1).vs))) = some y32) ?_ ?_
      ·
       refine XC.adoptC (i := 5) (off := 1) 59 2 rfl rfl ?_
       refine bindK h1 (fun o38 hl2 h1 => ?_)
       refine XC.loopM (m48_l2 o8) (fun s2 => ⟨[(0, .v (.one (.ptr 3 0))), (2, .v (.one (.ptr 4 0))), (4, .v (.one (.ptr 5 0))), (17, .v (.one (dS ((imKeys o8.1) : List Int)))), (18, .v (.one (dI ((imKeys o8.1).length : Int)))), (19, .v (.one (dI s2.1)))], [(0, .cells 39 (cE a0)), (1, .cells 39 [dI 0, dN]), (2, .mp (imE o8.1.1) o8.1.2), (3, .cells 105 [.mp 2, dI o8.2]), (4, .cells 39 [dI 0, dN]), (5, .cells 39 [dI o8.2, dA 7 s2.2]), (6, .cells 103 [.mp 2])], [(7, some ⟨59, 2, (Enc.encL s2.2).length⟩)], 8, 41, []⟩) (0, ([] : List LV)) o38 (stle (tR rfl (tR rfl (tR rfl (tR rfl (tR rfl (tR rfl tZ)))))) (hR rfl (hR rfl (hR rfl (hR rfl (hR rfl (hR rfl (hR rfl hZ))))))) (kR rfl kZ) rfl (Nat.le_trans hv1 (lb rfl)) rfl rfl rfl (bB rfl rfl (bB rfl rfl (bM rfl (bB rfl rfl (bB rfl rfl (bB rfl rfl (bB rfl rfl bZ))))))) rfl rfl) hl2 (fun s2 n2 oo2 h2 ho2 => ?_)
       unfold m48_l2 at h2
       refine XC.seq <| XC.region <| rR rfl rfl rfl (RO.binInt rfl rfl rfl) <| XL.nil <| XQ.seq <| XC.seq ?_
       refine XC.cond (b := (decide (s2.1 < ((imKeys o8.1).length : Int)))) rfl (fun c39 => ?_) (fun c39 => ?_)
       ·
        replace h2 := condT c39 h2
        refine XC.skip <| XQ.seq <| XC.seq <| XC.block <| XC.seq <| XC.region ?_
        refine bindK h2 (fun x40 hx40 h2 => ?_)
        refine rR rfl rfl rfl (RO.indexE (α := Int) sl_66 rfl (.d _) rfl hx40) <| rR rfl rfl rfl (RO.loadPel ag_3 rfl rfl) <| rA rfl rfl rfl <| XL.nil <| XQ.seq ?_
        refine XC.anyRun [11, 13] [] mixed (by kernel_rfl) (by kernel_rfl) (by kernel_rfl) ?_
        refine RunA.rd rfl rfl rfl (OpOK.of_ro (RO.fieldOwn fo_39_1 rfl)) rfl <| RunA.rd rfl rfl rfl (OpOK.of_ro (RO.loadOwn ag_37 rfl rfl rfl)) rfl <| RunA.rd rfl rfl rfl (OpOK.of_ro (RO.move rfl)) rfl <| RunA.rd rfl rfl rfl (OpOK.of_ro (RO.move rfl)) rfl <| RunA.rd rfl rfl rfl (OpOK.of_ro (RO.nilCheckPtr rfl)) rfl <| RunA.rd rfl rfl rfl (OpOK.of_ro (RO.fieldOwn fo_105_0 rfl)) rfl <| RunA.rd rfl rfl rfl (OpOK.of_ro (RO.loadOwn ag_103 rfl rfl rfl)) rfl <| RunA.rd rfl rfl rfl (OpOK.of_ro (RO.move rfl)) rfl <| RunA.rd rfl rfl rfl (OpOK.of_ro (RO.lookupF mp_103 rfl rfl rfl)) rfl <| RunA.rd rfl rfl rfl (OpOK.of_ro (RO.build2 bd_59 rfl rfl rfl rfl)) rfl <| RunA.rd rfl rfl rfl (OpOK.data1E (α := LV) ((x40, (imVal o8.1 x40))) sl_37 z_59 rfl rfl (lb rfl) rfl rfl (.cons (.d _) (.cons (.d _) .nil)) rfl) rfl ?_
        refine guardK h2 (fun g41 h2 => ?_)
        refine RunA.eff rfl rfl rfl (OpOK.appendE (α := LV) sl_37 el_59 rfl rfl rfl rfl rfl (.d _) g41) rfl <| RunA.rd rfl rfl rfl (OpOK.of_ro (RO.fieldOwn fo_39_1 rfl)) rfl <| RunA.eff rfl rfl rfl (OpOK.store ag_37 rfl rfl rfl rfl (lb rfl) rfl) rfl ?_
        refine RunA.nil ⟨?ex, _, _, rfl, ?_⟩
        case ex => exact trivial
        refine XQ.less (st' := ⟨[(0, .v (.one (.ptr 3 0))), (2, .v (.one (.ptr 4 0))), (4, .v (.one (.ptr 5 0))), (17, .v (.one (dS ((imKeys o8.1) : List Int)))), (18, .v (.one (dI ((imKeys o8.1).length : Int)))), (19, .v (.one (dI s2.1)))], [(0, .cells 39 (cE a0)), (1, .cells 39 [dI 0, dN]), (2, .mp (imE o8.1.1) o8.1.2), (3, .cells 105 [.mp 2, dI o8.2]), (4, .cells 39 [dI 0, dN]), (5, .cells 39 [dI o8.2, dA 7 ((s2.2 ++ ([(x40, (imVal o8.1 x40))])) : List LV)]), (6, .cells 103 [.mp 2])], [(7, some ⟨59, 2, (Enc.encL ((s2.2 ++ ([(x40, (imVal o8.1 x40))])) : List LV)).length⟩)], 8, 41, []⟩) (stle (tR rfl (tR rfl (tR rfl (tR rfl (tR rfl (tR rfl tZ)))))) (hR rfl (hR rfl (hR rfl (hR rfl (hR rfl (hR rfl (hR rfl hZ))))))) (kR rfl kZ) rfl (Nat.le_trans hv1 (lb rfl)) rfl rfl rfl (bB rfl rfl (bB rfl rfl (bM rfl (bB rfl rfl (bB rfl rfl (bB rfl rfl (bB rfl rfl bZ))))))) rfl rfl) <| XQ.inBlock <| XQ.seq <| XC.region <| rR rfl rfl rfl (RO.binInt rfl rfl rfl) <| rM rfl rfl rfl <| XL.nil ?_
        have e_ := Option.some.inj h2
        subst e_
        refine XQ.nextM ((w64 (s2.1 + 1)), (s2.2 ++ ([(x40, (imVal o8.1 x40))]))) (stle (tR rfl (tR rfl (tR rfl (tR rfl (tR rfl (tR rfl tZ)))))) (hR rfl (hR rfl (hR rfl (hR rfl (hR rfl (hR rfl (hR rfl hZ))))))) (kR rfl kZ) rfl (Nat.le_trans hv1 (lb rfl)) rfl rfl rfl (bB rfl rfl (bB rfl rfl (bM rfl (bB rfl rfl (bB rfl rfl (bB rfl rfl (bB rfl rfl bZ))))))) rfl rfl) ho2
       ·
        replace h2 := condF c39 h2
        refine XC.exit <| XQ.thenE <| XQ.thenE ?_
        have e_ := Option.some.inj h2
        subst e_
        have e_ : _ = _ := ho2
        subst e_
        exact XQ.joinX s2.2 (stle (tR rfl (tR rfl tZ)) (hR rfl (hR rfl (hR rfl (hR rfl (hR rfl (hR rfl (hR rfl hZ))))))) (kR rfl kZ) rfl (Nat.le_trans hv1 (lb rfl)) rfl rfl rfl (bB rfl rfl (bB rfl rfl (bM rfl (bB rfl rfl (bB rfl rfl (bB rfl rfl (bB rfl rfl bZ))))))) rfl rfl) h1
      ·
       intro o37 h1
       refine XQ.blockX <| XQ.seq <| XC.seq <| XC.region <| rR rfl rfl rfl (RO.loadOwnAgg ag_39 rfl rfl rfl rfl) ?_
       refine guardK h1 (fun g42 h1 => ?_)
       refine XL.put rfl rfl (lb rfl) (OpOK.callFun (limited_fun (⟨o8.2, o37⟩ : Lvl) (Nat.le_of_ble_eq_true g42)) rfl (.cons (.agg (.cons (.d _) (.cons (.app _ _ _) .nil))) .nil)) ?_
       refine rR rfl rfl rfl (RO.extract rfl rfl) <| rR rfl rfl rfl (RO.extract rfl rfl) <| XL.eff rfl rfl (OpOK.store ag_39 rfl rfl rfl rfl (lb rfl) rfl) <| rA rfl rfl rfl <| XL.nil <| XQ.seq <| XC.ret ?_
       have e_ := Option.some.inj h1
       subst e_
       exact hQ1 _ _ _ (.inr rfl) rfl (stle (tR rfl (tR rfl tZ)) (hR rfl (hR rfl (hR rfl (hR rfl (hR rfl hZ))))) kZ rfl (Nat.le_trans hv1 (lb rfl)) rfl rfl rfl (bB rfl rfl (bB rfl rfl (bM rfl (bB rfl rfl (bB rfl rfl bZ))))) rfl rfl)
     refine XL.put rfl rfl (lb rfl) (OpOK.callW rfl rfl rfl hc33 rfl (hR rfl (hR rfl (hR rfl (hR rfl hZ)))) kZ) <| rR rfl rfl rfl (RO.extract rfl rfl) <| rR rfl rfl rfl (RO.extract rfl rfl) <| XL.eff rfl rfl (OpOK.store ag_39 rfl rfl rfl rfl (lb rfl) rfl) <| rA rfl rfl rfl <| XL.nil <| XQ.seq <| XC.ret ?_
     have e_ := Option.some.inj h0
     subst e_
     exact XQ.retF (fun _ _ h => h) rfl (RAs.agg ag_39 rfl rfl rfl rfl (RAs.tmp rfl .nil)) (.cons (.agg (.cons (.d _) (.cons (.d _) .nil))) (.cons (.one (.d _)) .nil))

def m24_l0 (a0 : List Lvl) (s1 : Int) : Option (LO Int (Unit ⊕ (Bool × Int))) :=
  cond (decide (s1 < (a0.length : Int)))
    (Option.bind (idx a0 s1) fun (x3 : Lvl) =>
  Option.bind (guardO (Nat.ble x3.vs.length 100000)
  (cond (!(validB x3))
    (some true)
    (Option.bind (m38 x3) fun (x7 : (List Int)) =>
  some (decide (0 < (x7.length : Int)))))) (fun (v4 : Bool) => cond v4
    (some (.done (.inr (false, 3))))
    (some (.next (w64 (s1 + 1))))))
    (some (.done (.inl ())))

def m24_l1 (a1 : List Bnd) (a0 : List Lvl) (s1 : Bool × Int) : Option (LO (Bool × Int) (Bool ⊕ (Bool × Int))) :=
  cond (decide (s1.2 < (a1.length : Int)))
    (Option.bind (idx a1 s1.2) fun (x6 : Bnd) =>
  Option.bind (m48 x6.lo a0) fun (x7 : Lvl × Int) =>
  Option.bind (m48 x6.hi a0) fun (x8 : Lvl × Int) =>
  Option.bind (cond (x7.2 != 0)
    (some true)
    (some (x8.2 != 0))) (fun (v9 : Bool) => cond v9
    (some (.done (.inr (false, 15))))
    (Option.bind (cond s1.1
    (guardO ((cond (Nat.ble x7.1.vs.length 100000) (Nat.ble x8.1.vs.length 100000) false))
  (some (leqB x7.1 x8.1)))
    (some false)) (fun (v11 : Bool) => some (.next (v11, (w64 (s1.2 + 1))))))))
    (some (.done (.inl s1.1)))

/-- euclid/universe.Holds -/
def m24 (a0 : List Lvl) (a1 : List Bnd) : Option (Bool × Int) :=
  Option.bind (loopN (m24_l0 a0) FUEL 0) (Sum.elim (fun (o1 : Unit) => Option.bind (m13 (a0.length : Int) a1) fun (x2 : Int × Int) =>
  cond (x2.2 != 0)
    (some (false, x2.2))
    (Option.bind (loopN (m24_l1 a1 a0) FUEL (true, 0)) (Sum.elim (fun (o4 : Bool) => some (o4, 0)) (fun o => some o)))) (fun o => some o))

set_option maxRecDepth 100000 in
set_option maxHeartbeats 8000000 in
theorem m24_ok (a0 : List Lvl) (a1 : List Bnd) (r : Bool × Int) (h0 : m24 a0 a1 = some r) : Fun Try.prog 24 [.one (dS a0), .one (dS a1)] (resOf [.one (dB r.1), .one (dI r.2)]) := by
  unfold m24 at h0
  refine Fun.of_bodyM 9 77 Try.func24 rfl en_24 rfl (lb rfl) (fun S w => ?_)
  simp only [entry]
  refine XC.seq <| XC.region <| rA rfl rfl rfl <| rA rfl rfl rfl <| XL.nil <| XQ.seq <| XC.seq <| XC.seq <| XC.region <| rM rfl rfl rfl <| rR rfl rfl rfl (RO.lenE (α := Lvl) sl_31 rfl (.d _)) <| rM rfl rfl rfl <| XL.nil <| XQ.seq ?_
  refine XC.block ?_
  refine XC.joinX 0 (fun (o1 : Unit) => ⟨[(0, .v (.one (dS a0))), (1, .v (.one (dS a1)))], [], [], 0, 77, []⟩) (fun (o1 : Unit) => (Option.bind (m13 (a0.length : Int) a1) fun (x2 : Int × Int) =>
    cond (x2.2 != 0)
      (some (false, x2.2))
      (Option.bind (loopN (m24_l1 a1 a0) FUEL (true, 0)) (Sum.elim (fun (o4 : Bool) => some (o4, 0)) (fun o => some o)))) = some r) ?_ ?_
  ·
   refine bindK h0 (fun o2 hl1 h0 => ?_)
   refine XC.loopM (m24_l0 a0) (fun s1 => ⟨[(0, .v (.one (dS a0))), (1, .v (.one (dS a1))), (17, .v (.one (dS a0))), (18, .v (.one (dI (a0.length : Int)))), (19, .v (.one (dI s1)))], [], [], 0, 77, []⟩) 0 o2 (stle (tR rfl (tR rfl (tR rfl (tR rfl (tR rfl tZ))))) hZ kZ rfl (Nat.zero_le _) rfl rfl rfl bZ rfl rfl) hl1 (fun s1 n1 oo1 h1 ho1 => ?_)
   unfold m24_l0 at h1
   refine XC.seq <| XC.region <| rR rfl rfl rfl (RO.binInt rfl rfl rfl) <| XL.nil <| XQ.seq <| XC.seq ?_
   refine XC.cond (b := (decide (s1 < (a0.length : Int)))) rfl (fun c3 => ?_) (fun c3 => ?_)
   ·
    replace h1 := condT c3 h1
    refine XC.skip <| XQ.seq <| XC.seq <| XC.block <| XC.seq <| XC.region ?_
    refine bindK h1 (fun x4 hx4 h1 => ?_)
    refine rR rfl rfl rfl (RO.indexE (α := Lvl) sl_31 rfl (.d _) rfl hx4) <| rR rfl rfl rfl (RO.loadPelAgg ag_39 rfl rfl rfl) <| XL.put rfl rfl (lb rfl) (OpOK.alloc z_39 rfl) <| XL.eff rfl rfl (OpOK.store ag_39 rfl rfl rfl rfl (lb rfl) rfl) <| XL.nil <| XQ.seq <| XC.seq ?_
    refine XC.joinR (fun (v5 : Bool) => ⟨[(0, .v (.one (dS a0))), (1, .v (.one (dS a1))), (17, .v (.one (dS a0))), (18, .v (.one (dI (a0.length : Int)))), (19, .v (.one (dI s1))), (31, .v (.one (dB v5)))], [(0, .cells 39 (cE x4))], [], 1, 77, []⟩) (fun (v5 : Bool) => (cond v5
        (some (.done (.inr (false, 3))))
        (some (.next (w64 (s1 + 1))))) = some oo1) ?_ ?_
    ·
     refine bindK h1 (fun v_ h2 h1 => ?_)
     refine XC.region <| rR rfl rfl rfl (RO.loadOwnAgg ag_39 rfl rfl rfl rfl) ?_
     refine guardK h2 (fun g6 h2 => ?_)
     refine XL.put rfl rfl (lb rfl) (OpOK.callFun (valid_fun x4 (Nat.le_of_ble_eq_true g6)) rfl (.cons (.agg (.cons (.d _) (.cons (.d _) .nil))) .nil)) ?_
     refine rR rfl rfl rfl (RO.not rfl) <| rM rfl rfl rfl ?_
     refine XL.case (d := 26) (c := (!(validB x4))) rfl (fun c7 => ?_) (fun c7 => ?_)
     ·
      replace h2 := condT c7 h2
      refine XL.no rfl rfl <| XL.no rfl rfl <| XL.no rfl rfl <| XL.no rfl rfl <| rR rfl rfl rfl (RO.pickT rfl rfl) <| XL.nil ?_
      have e_ := Option.some.inj h2
      subst e_
      exact XQ.joinR true (stle (tR rfl (tR rfl (tR rfl (tR rfl (tR rfl (tR rfl tZ)))))) (hR rfl hZ) kZ rfl (Nat.zero_le _) rfl rfl rfl (bB rfl rfl bZ) rfl rfl) h1
     ·
      replace h2 := condF c7 h2
      refine rR rfl rfl rfl (RO.loadOwnAgg ag_39 rfl rfl rfl rfl) ?_
      refine bindK h2 (fun x8 hx8 h2 => ?_)
      refine XL.put rfl rfl (lb rfl) (OpOK.callFun (m38_ok x4 x8 hx8) rfl (.cons (.agg (.cons (.d _) (.cons (.d _) .nil))) .nil)) <| rR rfl rfl rfl (RO.lenE (α := Int) sl_66 rfl (.d _)) <| rR rfl rfl rfl (RO.binInt rfl rfl rfl) <| rR rfl rfl rfl (RO.pickF rfl rfl) <| XL.nil ?_
      have e_ := Option.some.inj h2
      subst e_
      exact XQ.joinR (decide (0 < (x8.length : Int))) (stle (tR rfl (tR rfl (tR rfl (tR rfl (tR rfl (tR rfl tZ)))))) (hR rfl hZ) kZ rfl (Nat.zero_le _) rfl rfl rfl (bB rfl rfl bZ) rfl rfl) h1
    ·
     intro v5 h1
     refine XQ.seq ?_
     refine XC.cond (b := v5) rfl (fun c9 => ?_) (fun c9 => ?_)
     ·
      replace h1 := condT c9 h1
      refine XC.seq <| XC.region <| rA rfl rfl rfl <| rA rfl rfl rfl <| XL.nil <| XQ.seq <| XC.ret ?_
      have e_ := Option.some.inj h1
      subst e_
      have e_ : _ = _ := ho1
      subst e_
      try dsimp only [Sum.elim_inl, Sum.elim_inr] at h0
      have e_ := Option.some.inj h0
      subst e_
      exact XQ.retF (fun _ _ h => h) rfl (RAs.tmp rfl (RAs.tmp rfl .nil)) (.cons (.one (.d _)) (.cons (.one (.d _)) .nil))
     ·
      replace h1 := condF c9 h1
      refine XC.skip <| XQ.inBlock <| XQ.seq <| XC.region <| rR rfl rfl rfl (RO.binInt rfl rfl rfl) <| rM rfl rfl rfl <| XL.nil ?_
      have e_ := Option.some.inj h1
      subst e_
      refine XQ.nextM (w64 (s1 + 1)) (stle (tR rfl (tR rfl (tR rfl (tR rfl (tR rfl tZ))))) hZ kZ rfl (Nat.zero_le _) rfl rfl rfl bZ rfl rfl) ho1
   ·
    replace h1 := condF c3 h1
    refine XC.exit <| XQ.thenE <| XQ.thenE ?_
    have e_ := Option.some.inj h1
    subst e_
    have e_ : _ = _ := ho1
    subst e_
    exact XQ.joinX () (stle (tR rfl (tR rfl tZ)) hZ kZ rfl (Nat.zero_le _) rfl rfl rfl bZ rfl rfl) h0
  ·
   intro o1 h0
   refine XQ.blockX <| XQ.seq <| XC.seq <| XC.seq <| XC.region <| rM rfl rfl rfl <| rR rfl rfl rfl (RO.lenE (α := Lvl) sl_31 rfl (.d _)) <| rM rfl rfl rfl ?_
   refine bindK h0 (fun x10 hx10 h0 => ?_)
   refine XL.put rfl rfl (lb rfl) (OpOK.callFun (m13_ok (a0.length : Int) a1 x10 hx10) rfl (.cons (.one (.d _)) (.cons (.one (.d _)) .nil))) <| rM rfl rfl rfl <| rR rfl rfl rfl (RO.extract rfl rfl) <| rR rfl rfl rfl (RO.extract rfl rfl) <| rA rfl rfl rfl <| rA rfl rfl rfl <| XL.nil <| XQ.seq <| XC.seq <| XC.region <| rM rfl rfl rfl <| rR rfl rfl rfl (RO.binInt rfl rfl rfl) <| XL.nil <| XQ.seq ?_
   refine XC.cond (b := (x10.2 != 0)) rfl (fun c11 => ?_) (fun c11 => ?_)
   ·
    replace h0 := condT c11 h0
    refine XC.seq <| XC.region <| rM rfl rfl rfl <| rA rfl rfl rfl <| rA rfl rfl rfl <| XL.nil <| XQ.seq <| XC.ret ?_
    have e_ := Option.some.inj h0
    subst e_
    exact XQ.retF (fun _ _ h => h) rfl (RAs.tmp rfl (RAs.tmp rfl .nil)) (.cons (.one (.d _)) (.cons (.one (.d _)) .nil))
   ·
    replace h0 := condF c11 h0
    refine XC.skip <| XQ.seq <| XC.seq <| XC.region <| rA rfl rfl rfl <| XL.nil <| XQ.seq <| XC.seq <| XC.seq <| XC.region <| rM rfl rfl rfl <| rR rfl rfl rfl (RO.lenE (α := Bnd) sl_22 rfl (.d _)) <| rM rfl rfl rfl <| XL.nil ?_
    refine XQ.seq <| XC.block ?_
    refine XC.joinX 2 (fun (o12 : Bool) => ⟨[(10, .v (.one (dB o12)))], [], [], 0, 77, []⟩) (fun (o12 : Bool) => (some (o12, 0)) = some r) ?_ ?_
    ·
     refine bindK h0 (fun o13 hl1 h0 => ?_)
     refine XC.loopM (m24_l1 a1 a0) (fun s1 => ⟨[(0, .v (.one (dS a0))), (10, .v (.one (dB s1.1))), (43, .v (.one (dS a1))), (44, .v (.one (dI (a1.length : Int)))), (45, .v (.one (dI s1.2)))], [], [], 0, 77, []⟩) (true, 0) o13 (stle (tR rfl (tR rfl (tR rfl (tR rfl (tR rfl tZ))))) hZ kZ rfl (Nat.zero_le _) rfl rfl rfl bZ rfl rfl) hl1 (fun s1 n1 oo1 h1 ho1 => ?_)
     unfold m24_l1 at h1
     refine XC.seq <| XC.region <| rR rfl rfl rfl (RO.binInt rfl rfl rfl) <| XL.nil <| XQ.seq <| XC.seq ?_
     refine XC.cond (b := (decide (s1.2 < (a1.length : Int)))) rfl (fun c14 => ?_) (fun c14 => ?_)
     ·
      replace h1 := condT c14 h1
      refine XC.skip <| XQ.seq <| XC.seq <| XC.block <| XC.seq <| XC.region ?_
      refine bindK h1 (fun x15 hx15 h1 => ?_)
      refine rR rfl rfl rfl (RO.indexE (α := Bnd) sl_22 rfl (.d _) rfl hx15) <| rR rfl rfl rfl (RO.loadPelAgg ag_41 rfl rfl rfl) <| XL.put rfl rfl (lb rfl) (OpOK.alloc z_41 rfl) <| XL.eff rfl rfl (OpOK.store ag_41 rfl rfl rfl rfl (lb rfl) rfl) <| XL.nil <| XQ.seq <| XC.seq <| XC.region <| rR rfl rfl rfl (RO.fieldOwn fo_41_0 rfl) <| rR rfl rfl rfl (RO.loadOwnAgg ag_39 rfl rfl rfl rfl) <| rM rfl rfl rfl ?_
      refine bindK h1 (fun x16 hx16 h1 => ?_)
      refine XL.put rfl rfl (lb rfl) (OpOK.callFun (m48_ok x15.lo a0 x16 hx16) rfl (.cons (.agg (.cons (.d _) (.cons (.d _) .nil))) (.cons (.one (.d _)) .nil))) <| rM rfl rfl rfl <| rR rfl rfl rfl (RO.extract rfl rfl) <| rR rfl rfl rfl (RO.extract rfl rfl) <| XL.put rfl rfl (lb rfl) (OpOK.alloc z_39 rfl) <| XL.eff rfl rfl (OpOK.store ag_39 rfl rfl rfl rfl (lb rfl) rfl) <| rA rfl rfl rfl <| XL.nil <| XQ.seq <| XC.seq <| XC.region <| rR rfl rfl rfl (RO.fieldOwn fo_41_1 rfl) <| rR rfl rfl rfl (RO.loadOwnAgg ag_39 rfl rfl rfl rfl) <| rM rfl rfl rfl ?_
      refine bindK h1 (fun x17 hx17 h1 => ?_)
      refine XL.put rfl rfl (lb rfl) (OpOK.callFun (m48_ok x15.hi a0 x17 hx17) rfl (.cons (.agg (.cons (.d _) (.cons (.d _) .nil))) (.cons (.one (.d _)) .nil))) <| rM rfl rfl rfl <| rR rfl rfl rfl (RO.extract rfl rfl) <| rR rfl rfl rfl (RO.extract rfl rfl) <| XL.put rfl rfl (lb rfl) (OpOK.alloc z_39 rfl) <| XL.eff rfl rfl (OpOK.store ag_39 rfl rfl rfl rfl (lb rfl) rfl) <| rA rfl rfl rfl <| XL.nil <| XQ.seq <| XC.seq <| XC.seq ?_
      refine XC.joinR (fun (v18 : Bool) => ⟨[(0, .v (.one (dS a0))), (10, .v (.one (dB s1.1))), (13, .v (.one (.ptr 1 0))), (15, .v (.one (.ptr 2 0))), (43, .v (.one (dS a1))), (44, .v (.one (dI (a1.length : Int)))), (45, .v (.one (dI s1.2))), (68, .v (.one (dB v18)))], [(0, .cells 41 (cE x15)), (1, .cells 39 (cE x16.1)), (2, .cells 39 (cE x17.1))], [], 3, 77, []⟩) (fun (v18 : Bool) => (cond v18
          (some (.done (.inr (false, 15))))
          (Option.bind (cond s1.1
          (guardO ((cond (Nat.ble x16.1.vs.length 100000) (Nat.ble x17.1.vs.length 100000) false))
        (some (leqB x16.1 x17.1)))
          (some false)) (fun (v20 : Bool) => some (.next (v20, (w64 (s1.2 + 1))))))) = some oo1) ?_ ?_
      ·
       refine bindK h1 (fun v_ h2 h1 => ?_)
       refine XC.region <| rM rfl rfl rfl <| rR rfl rfl rfl (RO.binInt rfl rfl rfl) <| rM rfl rfl rfl ?_
       refine XL.case (d := 65) (c := (x16.2 != 0)) rfl (fun c19 => ?_) (fun c19 => ?_)
       ·
        replace h2 := condT c19 h2
        refine XL.no rfl rfl <| XL.no rfl rfl <| rR rfl rfl rfl (RO.pickT rfl rfl) <| XL.nil ?_
        have e_ := Option.some.inj h2
        subst e_
        exact XQ.joinR true (stle (tR rfl (tR rfl (tR rfl (tR rfl (tR rfl (tR rfl (tR rfl (tR rfl tZ)))))))) (hR rfl (hR rfl (hR rfl hZ))) kZ rfl (Nat.zero_le _) rfl rfl rfl (bB rfl rfl (bB rfl rfl (bB rfl rfl bZ))) rfl rfl) h1
       ·
        replace h2 := condF c19 h2
        refine rM rfl rfl rfl <| rR rfl rfl rfl (RO.binInt rfl rfl rfl) <| rR rfl rfl rfl (RO.pickF rfl rfl) <| XL.nil ?_
        have e_ := Option.some.inj h2
        subst e_
        exact XQ.joinR (x17.2 != 0) (stle (tR rfl (tR rfl (tR rfl (tR rfl (tR rfl (tR rfl (tR rfl (tR rfl tZ)))))))) (hR rfl (hR rfl (hR rfl hZ))) kZ rfl (Nat.zero_le _) rfl rfl rfl (bB rfl rfl (bB rfl rfl (bB rfl rfl bZ))) rfl rfl) h1
      ·
       intro v18 h1
       refine XQ.seq ?_
       refine XC.cond (b := v18) rfl (fun c20 => ?_) (fun c20 => ?_)
       ·
        replace h1 := condT c20 h1
        refine XC.seq <| XC.region <| rA rfl rfl rfl <| rA rfl rfl rfl <| XL.nil <| XQ.seq <| XC.ret ?_
        have e_ := Option.some.inj h1
        subst e_
        have e_ : _ = _ := ho1
        subst e_
        try dsimp only [Sum.elim_inl, Sum.elim_inr] at h0
        have e_ := Option.some.inj h0
        subst e_
        exact XQ.retF (fun _ _ h => h) rfl (RAs.tmp rfl (RAs.tmp rfl .nil)) (.cons (.one (.d _)) (.cons (.one (.d _)) .nil))
       ·
        replace h1 := condF c20 h1
        refine XC.skip <| XQ.seq ?_
        refine XC.joinR (fun (v21 : Bool) => ⟨[(0, .v (.one (dS a0))), (10, .v (.one (dB v21))), (43, .v (.one (dS a1))), (44, .v (.one (dI (a1.length : Int)))), (45, .v (.one (dI s1.2)))], [(0, .cells 41 (cE x15)), (1, .cells 39 (cE x16.1)), (2, .cells 39 (cE x17.1))], [], 3, 77, []⟩) (fun (v21 : Bool) => (some (.next (v21, (w64 (s1.2 + 1))))) = some oo1) ?_ ?_
        ·
         refine bindK h1 (fun v_ h2 h1 => ?_)
         refine XC.region <| rM rfl rfl rfl <| rM rfl rfl rfl ?_
         refine XL.case (d := 70) (c := s1.1) rfl (fun c22 => ?_) (fun c22 => ?_)
         ·
          replace h2 := condT c22 h2
          refine rR rfl rfl rfl (RO.loadOwnAgg ag_39 rfl rfl rfl rfl) <| rR rfl rfl rfl (RO.loadOwnAgg ag_39 rfl rfl rfl rfl) ?_
          refine guardK h2 (fun g23 h2 => ?_)
          refine XL.put rfl rfl (lb rfl) (OpOK.callFun (leq_fun x16.1 x17.1 (Nat.le_of_ble_eq_true (cond_left g23)) (Nat.le_of_ble_eq_true (cond_right g23))) rfl (.cons (.agg (.cons (.d _) (.cons (.d _) .nil))) (.cons (.agg (.cons (.d _) (.cons (.d _) .nil))) .nil))) ?_
          refine rR rfl rfl rfl (RO.pickT rfl rfl) <| rA rfl rfl rfl <| XL.nil ?_
          have e_ := Option.some.inj h2
          subst e_
          exact XQ.joinR (leqB x16.1 x17.1) (stle (tR rfl (tR rfl (tR rfl (tR rfl (tR rfl tZ))))) (hR rfl (hR rfl (hR rfl hZ))) kZ rfl (Nat.zero_le _) rfl rfl rfl (bB rfl rfl (bB rfl rfl (bB rfl rfl bZ))) rfl rfl) h1
         ·
          replace h2 := condF c22 h2
          refine XL.no rfl rfl <| XL.no rfl rfl <| XL.no rfl rfl <| rR rfl rfl rfl (RO.pickF rfl rfl) <| rA rfl rfl rfl <| XL.nil ?_
          have e_ := Option.some.inj h2
          subst e_
          exact XQ.joinR false (stle (tR rfl (tR rfl (tR rfl (tR rfl (tR rfl tZ))))) (hR rfl (hR rfl (hR rfl hZ))) kZ rfl (Nat.zero_le _) rfl rfl rfl (bB rfl rfl (bB rfl rfl (bB rfl rfl bZ))) rfl rfl) h1
        ·
         intro v21 h1
         refine XQ.inBlock <| XQ.seq <| XC.region <| rR rfl rfl rfl (RO.binInt rfl rfl rfl) <| rM rfl rfl rfl <| XL.nil ?_
         have e_ := Option.some.inj h1
         subst e_
         refine XQ.nextM (v21, (w64 (s1.2 + 1))) (stle (tR rfl (tR rfl (tR rfl (tR rfl (tR rfl tZ))))) hZ kZ rfl (Nat.zero_le _) rfl rfl rfl bZ rfl rfl) ho1
     ·
      replace h1 := condF c14 h1
      refine XC.exit <| XQ.thenE <| XQ.thenE ?_
      have e_ := Option.some.inj h1
      subst e_
      have e_ : _ = _ := ho1
      subst e_
      exact XQ.joinX s1.1 (stle (tR rfl tZ) hZ kZ rfl (Nat.zero_le _) rfl rfl rfl bZ rfl rfl) h0
    ·
     intro o12 h0
     refine XQ.blockX <| XQ.seq <| XC.seq <| XC.region <| rM rfl rfl rfl <| rA rfl rfl rfl <| rA rfl rfl rfl <| XL.nil <| XQ.seq <| XC.ret ?_
     have e_ := Option.some.inj h0
     subst e_
     exact XQ.retF (fun _ _ h => h) rfl (RAs.tmp rfl (RAs.tmp rfl .nil)) (.cons (.one (.d _)) (.cons (.one (.d _)) .nil))
end Go.Proofs.Ytkimijmiphkddaa
