/- Mirrors of layer 1: Eval and its reference, Equal. -/
import Derived.Test.YtcapifnaceegmaaGreatDoorMm
namespace Go.Proofs.YtcapifnaceegmaaGreatDoor
open Go.RowKit Go.Shelf
set_option linter.unusedSimpArgs false
set_option linter.unusedVariables false

theorem en_38 : Enters Tryz.prog 38 := enters_of Tryz.func38 (by kernel_rfl) rfl
theorem en_39 : Enters Tryz.prog 39 := enters_of Tryz.func39 (by kernel_rfl) rfl
theorem en_42 : Enters Tryz.prog 42 := enters_of Tryz.func42 (by kernel_rfl) rfl
theorem en_75 : Enters Tryz.prog 75 := enters_of Tryz.func75 (by kernel_rfl) rfl
def m38_l0 (a1 : List Int) (s3 : Int) : Option (LO Int (Unit ⊕ Int)) :=
  cond (decide (s3 < (a1.length : Int)))
    (Option.bind (idx a1 s3) fun (x9 : Int) =>
  Option.bind (Option.bind (cond (decide (x9 < 0))
    (some true)
    (some (decide (1000000 < x9)))) (fun (v12 : Bool) => some v12)) (fun (y10 : Bool) => cond y10
    (some (.done (.inr s3)))
    (some (.next (w64 (s3 + 1))))))
    (some (.done (.inl ())))

def m38_l1 (a0 : Lvl) (a1 : List Int) (s1 : Int × Int) : Option (LO (Int × Int) Int) :=
  cond (decide (s1.2 < (a0.vs.length : Int)))
    (Option.bind (idx a0.vs s1.2) fun (x23 : LV) =>
  Option.bind (idx a1 x23.1) fun (x24 : Int) =>
  some (.next ((max s1.1 (w64 (x24 + x23.2))), (w64 (s1.2 + 1)))))
    (some (.done s1.1))

/-- euclid/level.Eval -/
def m38 (a0 : Lvl) (a1 : List Int) : Option (Int × Int) :=
  guardO (Nat.ble a0.vs.length 100000)
  (cond (!(validB a0))
    (some (0, 3))
    (Option.bind (Option.bind (Option.bind (loopN (m38_l0 a1) FUEL 0) (Sum.elim (fun (o7 : Unit) => some (-1)) (fun o => some o))) (fun (y5 : Int) => some (decide (0 ≤ y5)))) (fun (y3 : Bool) => cond y3
    (some (0, 2))
    (Option.bind (m43 a0) fun (x17 : (List Int)) =>
  cond (decide (0 < (x17.length : Int)))
    (some (0, 23))
    (Option.bind (m40 a0) fun (x19 : Int) =>
  cond (decide ((a1.length : Int) < x19))
    (some (0, 24))
    (Option.bind (loopN (m38_l1 a0 a1) FUEL (a0.c, 0)) (fun (o21 : Int) => some (o21, 0))))))))

set_option maxRecDepth 100000 in
set_option maxHeartbeats 8000000 in
theorem m38_ok (a0 : Lvl) (a1 : List Int) (r : Int × Int) (h0 : m38 a0 a1 = some r) : Fun Tryz.prog 38 [.agg (cE a0), .one (dS a1)] (resOf [.one (dI r.1), .one (dI r.2)]) := by
  unfold m38 at h0
  refine Fun.of_bodyM 9 48 Tryz.func38 rfl en_38 rfl (lb rfl) (fun S w => ?_)
  simp only [entry]
  refine XC.seq <| XC.region <| XL.put rfl rfl (lb rfl) (OpOK.box rfl) <| rA rfl rfl rfl <| rA rfl rfl rfl <| XL.nil <| XQ.seq <| XC.seq <| XC.block <| XC.seq <| XC.region <| rR rfl rfl rfl (RO.loadOwnAgg ag_24 rfl rfl rfl rfl) ?_
  refine guardK h0 (fun g1 h0 => ?_)
  refine XL.put rfl rfl (lb rfl) (OpOK.callFun (valid_fun a0 (Nat.le_of_ble_eq_true g1)) rfl (.cons (.agg (.cons (.d _) (.cons (.d _) .nil))) .nil)) ?_
  refine rR rfl rfl rfl (RO.not rfl) <| rA rfl rfl rfl <| XL.nil <| XQ.seq ?_
  refine XC.cond (b := (!(validB a0))) rfl (fun c2 => ?_) (fun c2 => ?_)
  ·
   replace h0 := condT c2 h0
   refine XC.seq <| XC.region <| rA rfl rfl rfl <| rA rfl rfl rfl <| XL.nil <| XQ.seq <| XC.ret ?_
   have e_ := Option.some.inj h0
   subst e_
   exact XQ.retF (fun _ _ h => h) rfl (RAs.tmp rfl (RAs.tmp rfl .nil)) (.cons (.one (.d _)) (.cons (.one (.d _)) .nil))
  ·
   replace h0 := condF c2 h0
   refine XC.seq <| XC.region <| rM rfl rfl rfl ?_
   refine bindK h0 (fun y3 h1 h0 => ?_)
   have hc4 : CallM Tryz.prog 74 [.one (dS a1), .one (.fn 75 [])] ⟨[(0, .cells 24 (cE a0))], [], 1⟩ (resOf [.one (dB y3)]) ⟨[(0, .cells 24 (cE a0))], [], 1⟩ := by
    refine CallM.of_bodyD ⟨[(4, .v (.one (dB y3)))], [(0, .cells 24 (cE a0))], [], 1, 9, []⟩ rfl rfl en_74 (lb rfl) rfl (RAs.tmp rfl .nil) (fun w0 M V0 Q hv1 hQ1 => ?_)
    simp only [entry]
    refine XC.seq <| XC.region <| rA rfl rfl rfl <| XL.nil <| XQ.seq <| XC.seq <| XC.region <| rM rfl rfl rfl <| rM rfl rfl rfl ?_
    refine bindK h1 (fun y5 h2 h1 => ?_)
    have hc6 : CallM Tryz.prog 93 [.one (dS a1), .one (.fn 75 [])] ⟨[(0, .cells 24 (cE a0))], [], 1⟩ (resOf [.one (dI y5)]) ⟨[(0, .cells 24 (cE a0))], [], 1⟩ := by
     refine CallM.of_bodyD ⟨[(4, .v (.one (dI y5)))], [(0, .cells 24 (cE a0))], [], 1, 19, []⟩ rfl rfl en_93 (lb rfl) rfl (RAs.tmp rfl .nil) (fun w0 M V0 Q hv2 hQ2 => ?_)
     simp only [entry]
     refine XC.seq <| XC.region <| rA rfl rfl rfl <| XL.nil <| XQ.seq <| XC.seq <| XC.seq <| XC.region <| rM rfl rfl rfl <| rR rfl rfl rfl (RO.lenE (α := Int) sl_46 rfl (.d _)) <| rM rfl rfl rfl <| XL.nil <| XQ.seq <| XC.block ?_
     refine XC.joinX 0 (fun (o7 : Unit) => ⟨[], [(0, .cells 24 (cE a0))], [], 1, 19, []⟩) (fun (o7 : Unit) => (some (-1)) = some y5) ?_ ?_
     ·
      refine bindK h2 (fun o8 hl3 h2 => ?_)
      refine XC.loopM (m38_l0 a1) (fun s3 => ⟨[(0, .v (.one (dS a1))), (1, .v (.one (.fn 75 []))), (7, .v (.one (dI (a1.length : Int)))), (8, .v (.one (dI s3)))], [(0, .cells 24 (cE a0))], [], 1, 19, []⟩) 0 o8 (stle (tR rfl (tR rfl (tR rfl (tR rfl tZ)))) (hR rfl hZ) kZ rfl (Nat.le_trans hv2 (lb rfl)) rfl rfl rfl (bB rfl rfl bZ) rfl rfl) hl3 (fun s3 n3 oo3 h3 ho3 => ?_)
      unfold m38_l0 at h3
      refine XC.seq <| XC.region <| rR rfl rfl rfl (RO.binInt rfl rfl rfl) <| XL.nil <| XQ.seq <| XC.seq ?_
      refine XC.cond (b := (decide (s3 < (a1.length : Int)))) rfl (fun c9 => ?_) (fun c9 => ?_)
      ·
       replace h3 := condT c9 h3
       refine XC.skip <| XQ.seq <| XC.seq <| XC.block <| XC.seq <| XC.region <| rM rfl rfl rfl <| rA rfl rfl rfl <| XL.nil <| XQ.seq <| XC.seq <| XC.region <| rM rfl rfl rfl <| rM rfl rfl rfl ?_
       refine rM rfl rfl rfl ?_
       refine bindK h3 (fun x10 hx10 h3 => ?_)
       refine rR rfl rfl rfl (RO.indexE (α := Int) sl_46 rfl (.d _) rfl hx10) <| rR rfl rfl rfl (RO.loadPel ag_3 rfl rfl) ?_
       refine bindK h3 (fun y11 h4 h3 => ?_)
       have hc12 : CallM Tryz.prog 75 [.one (dI x10)] ⟨[(0, .cells 24 (cE a0))], [], 1⟩ (resOf [.one (dB y11)]) ⟨[(0, .cells 24 (cE a0))], [], 1⟩ := by
        refine CallM.of_bodyD ⟨[(2, .v (.one (dB y11)))], [(0, .cells 24 (cE a0))], [], 1, 9, []⟩ rfl rfl en_75 (lb rfl) rfl (RAs.tmp rfl .nil) (fun w0 M V0 Q hv4 hQ4 => ?_)
        simp only [entry]
        refine XC.seq <| XC.region <| rA rfl rfl rfl <| XL.nil <| XQ.seq <| XC.seq ?_
        refine XC.joinR (fun (v13 : Bool) => ⟨[(2, .v (.one (dB v13)))], [(0, .cells 24 (cE a0))], [], 1, 9, []⟩) (fun (v13 : Bool) => (some v13) = some y11) ?_ ?_
        ·
         refine bindK h4 (fun v_ h5 h4 => ?_)
         refine XC.region <| rM rfl rfl rfl <| rR rfl rfl rfl (RO.binInt rfl rfl rfl) <| rM rfl rfl rfl ?_
         refine XL.case (d := 5) (c := (decide (x10 < 0))) rfl (fun c14 => ?_) (fun c14 => ?_)
         ·
          replace h5 := condT c14 h5
          refine XL.no rfl rfl <| XL.no rfl rfl <| rR rfl rfl rfl (RO.pickT rfl rfl) <| rA rfl rfl rfl <| XL.nil ?_
          have e_ := Option.some.inj h5
          subst e_
          exact XQ.joinR true (stle (tR rfl tZ) (hR rfl hZ) kZ rfl (Nat.le_trans hv4 (lb rfl)) rfl rfl rfl (bB rfl rfl bZ) rfl rfl) h4
         ·
          replace h5 := condF c14 h5
          refine rM rfl rfl rfl <| rR rfl rfl rfl (RO.binInt rfl rfl rfl) <| rR rfl rfl rfl (RO.pickF rfl rfl) <| rA rfl rfl rfl <| XL.nil ?_
          have e_ := Option.some.inj h5
          subst e_
          exact XQ.joinR (decide (1000000 < x10)) (stle (tR rfl tZ) (hR rfl hZ) kZ rfl (Nat.le_trans hv4 (lb rfl)) rfl rfl rfl (bB rfl rfl bZ) rfl rfl) h4
        ·
         intro v13 h4
         refine XQ.seq <| XC.ret ?_
         have e_ := Option.some.inj h4
         subst e_
         exact hQ4 _ _ _ (.inr rfl) rfl (stle (tR rfl tZ) (hR rfl hZ) kZ rfl (Nat.le_trans hv4 (lb rfl)) rfl rfl rfl (bB rfl rfl bZ) rfl rfl)
       refine XL.put rfl rfl (lb rfl) (OpOK.callW rfl rfl rfl hc12 rfl (hR rfl hZ) kZ) <| XL.nil <| XQ.seq ?_
       refine XC.cond (b := y11) rfl (fun c15 => ?_) (fun c15 => ?_)
       ·
        replace h3 := condT c15 h3
        refine XC.seq <| XC.region <| rM rfl rfl rfl <| rA rfl rfl rfl <| XL.nil <| XQ.seq <| XC.ret ?_
        have e_ := Option.some.inj h3
        subst e_
        have e_ : _ = _ := ho3
        subst e_
        try dsimp only [Sum.elim_inl, Sum.elim_inr] at h2
        have e_ := Option.some.inj h2
        subst e_
        exact hQ2 _ _ _ (.inr rfl) rfl (stle (tR rfl tZ) (hR rfl hZ) kZ rfl (Nat.le_trans hv2 (lb rfl)) rfl rfl rfl (bB rfl rfl bZ) rfl rfl)
       ·
        replace h3 := condF c15 h3
        refine XC.skip <| XQ.inBlock <| XQ.seq <| XC.region <| rR rfl rfl rfl (RO.binInt rfl rfl rfl) <| rM rfl rfl rfl <| XL.nil ?_
        have e_ := Option.some.inj h3
        subst e_
        refine XQ.nextM (w64 (s3 + 1)) (stle (tR rfl (tR rfl (tR rfl (tR rfl tZ)))) (hR rfl hZ) kZ rfl (Nat.le_trans hv2 (lb rfl)) rfl rfl rfl (bB rfl rfl bZ) rfl rfl) ho3
      ·
       replace h3 := condF c9 h3
       refine XC.exit <| XQ.thenE <| XQ.thenE ?_
       have e_ := Option.some.inj h3
       subst e_
       have e_ : _ = _ := ho3
       subst e_
       exact XQ.joinX () (stle tZ (hR rfl hZ) kZ rfl (Nat.le_trans hv2 (lb rfl)) rfl rfl rfl (bB rfl rfl bZ) rfl rfl) h2
     ·
      intro o7 h2
      refine XQ.blockX <| XQ.seq <| XC.seq <| XC.region <| rA rfl rfl rfl <| XL.nil <| XQ.seq <| XC.ret ?_
      have e_ := Option.some.inj h2
      subst e_
      exact hQ2 _ _ _ (.inr rfl) rfl (stle (tR rfl tZ) (hR rfl hZ) kZ rfl (Nat.le_trans hv2 (lb rfl)) rfl rfl rfl (bB rfl rfl bZ) rfl rfl)
    refine XL.put rfl rfl (lb rfl) (OpOK.callW rfl rfl rfl hc6 rfl (hR rfl hZ) kZ) <| rR rfl rfl rfl (RO.binInt rfl rfl rfl) <| rA rfl rfl rfl <| XL.nil <| XQ.seq <| XC.ret ?_
    have e_ := Option.some.inj h1
    subst e_
    exact hQ1 _ _ _ (.inr rfl) rfl (stle (tR rfl tZ) (hR rfl hZ) kZ rfl (Nat.le_trans hv1 (lb rfl)) rfl rfl rfl (bB rfl rfl bZ) rfl rfl)
   refine XL.put rfl rfl (lb rfl) (OpOK.callW rfl rfl rfl hc4 rfl (hR rfl hZ) kZ) <| rA rfl rfl rfl <| XL.nil <| XQ.seq ?_
   refine XC.cond (b := y3) rfl (fun c16 => ?_) (fun c16 => ?_)
   ·
    replace h0 := condT c16 h0
    refine XC.seq <| XC.region <| rA rfl rfl rfl <| rA rfl rfl rfl <| XL.nil <| XQ.seq <| XC.ret ?_
    have e_ := Option.some.inj h0
    subst e_
    exact XQ.retF (fun _ _ h => h) rfl (RAs.tmp rfl (RAs.tmp rfl .nil)) (.cons (.one (.d _)) (.cons (.one (.d _)) .nil))
   ·
    replace h0 := condF c16 h0
    refine XC.seq <| XC.region <| rR rfl rfl rfl (RO.loadOwnAgg ag_24 rfl rfl rfl rfl) ?_
    refine bindK h0 (fun x17 hx17 h0 => ?_)
    refine XL.put rfl rfl (lb rfl) (OpOK.callFun (m43_ok a0 x17 hx17) rfl (.cons (.agg (.cons (.d _) (.cons (.d _) .nil))) .nil)) <| rR rfl rfl rfl (RO.lenE (α := Int) sl_46 rfl (.d _)) <| rR rfl rfl rfl (RO.binInt rfl rfl rfl) <| rA rfl rfl rfl <| XL.nil <| XQ.seq ?_
    refine XC.cond (b := (decide (0 < (x17.length : Int)))) rfl (fun c18 => ?_) (fun c18 => ?_)
    ·
     replace h0 := condT c18 h0
     refine XC.seq <| XC.region <| rA rfl rfl rfl <| rA rfl rfl rfl <| XL.nil <| XQ.seq <| XC.ret ?_
     have e_ := Option.some.inj h0
     subst e_
     exact XQ.retF (fun _ _ h => h) rfl (RAs.tmp rfl (RAs.tmp rfl .nil)) (.cons (.one (.d _)) (.cons (.one (.d _)) .nil))
    ·
     replace h0 := condF c18 h0
     refine XC.seq <| XC.region <| rR rfl rfl rfl (RO.loadOwnAgg ag_24 rfl rfl rfl rfl) ?_
     refine bindK h0 (fun x19 hx19 h0 => ?_)
     refine XL.put rfl rfl (lb rfl) (OpOK.callFun (m40_ok a0 x19 hx19) rfl (.cons (.agg (.cons (.d _) (.cons (.d _) .nil))) .nil)) <| rM rfl rfl rfl <| rR rfl rfl rfl (RO.lenE (α := Int) sl_46 rfl (.d _)) <| rR rfl rfl rfl (RO.binInt rfl rfl rfl) <| rA rfl rfl rfl <| XL.nil <| XQ.seq ?_
     refine XC.cond (b := (decide ((a1.length : Int) < x19))) rfl (fun c20 => ?_) (fun c20 => ?_)
     ·
      replace h0 := condT c20 h0
      refine XC.seq <| XC.region <| rA rfl rfl rfl <| rA rfl rfl rfl <| XL.nil <| XQ.seq <| XC.ret ?_
      have e_ := Option.some.inj h0
      subst e_
      exact XQ.retF (fun _ _ h => h) rfl (RAs.tmp rfl (RAs.tmp rfl .nil)) (.cons (.one (.d _)) (.cons (.one (.d _)) .nil))
     ·
      replace h0 := condF c20 h0
      refine XC.skip <| XQ.inBlock <| XQ.seq <| XC.seq <| XC.region <| rR rfl rfl rfl (RO.fieldOwn fo_24_0 rfl) <| rR rfl rfl rfl (RO.loadOwn ag_3 rfl rfl rfl) <| rA rfl rfl rfl <| XL.nil <| XQ.seq <| XC.seq <| XC.seq <| XC.region <| rR rfl rfl rfl (RO.fieldOwn fo_24_1 rfl) ?_
      refine rR rfl rfl rfl (RO.loadOwn ag_22 rfl rfl rfl) <| rR rfl rfl rfl (RO.lenE (α := LV) sl_22 rfl (.d _)) <| rM rfl rfl rfl <| XL.nil <| XQ.seq <| XC.block ?_
      refine XC.joinX 1 (fun (o21 : Int) => ⟨[(6, .v (.one (dI o21)))], [(0, .cells 24 (cE a0))], [], 1, 48, []⟩) (fun (o21 : Int) => (some (o21, 0)) = some r) ?_ ?_
      ·
       refine bindK h0 (fun o22 hl1 h0 => ?_)
       refine XC.loopM (m38_l1 a0 a1) (fun s1 => ⟨[(1, .v (.one (dS a1))), (6, .v (.one (dI s1.1))), (30, .v (.one (dS a0.vs))), (31, .v (.one (dI (a0.vs.length : Int)))), (32, .v (.one (dI s1.2)))], [(0, .cells 24 (cE a0))], [], 1, 48, []⟩) (a0.c, 0) o22 (stle (tR rfl (tR rfl (tR rfl (tR rfl (tR rfl tZ))))) (hR rfl hZ) kZ rfl (Nat.zero_le _) rfl rfl rfl (bB rfl rfl bZ) rfl rfl) hl1 (fun s1 n1 oo1 h1 ho1 => ?_)
       unfold m38_l1 at h1
       refine XC.seq <| XC.region <| rR rfl rfl rfl (RO.binInt rfl rfl rfl) <| XL.nil <| XQ.seq <| XC.seq ?_
       refine XC.cond (b := (decide (s1.2 < (a0.vs.length : Int)))) rfl (fun c23 => ?_) (fun c23 => ?_)
       ·
        replace h1 := condT c23 h1
        refine XC.skip <| XQ.seq <| XC.seq <| XC.block <| XC.seq <| XC.region ?_
        refine bindK h1 (fun x24 hx24 h1 => ?_)
        refine rR rfl rfl rfl (RO.indexE (α := LV) sl_22 rfl (.d _) rfl hx24) <| rR rfl rfl rfl (RO.loadPelAgg ag_69 rfl rfl rfl) <| XL.put rfl rfl (lb rfl) (OpOK.alloc z_69 rfl) <| XL.eff rfl rfl (OpOK.store ag_69 rfl rfl rfl rfl (lb rfl) rfl) <| XL.nil <| XQ.seq ?_
        refine XC.anyRun [] [] mixed (by kernel_rfl) (by kernel_rfl) (by kernel_rfl) ?_
        refine RunA.rd rfl rfl rfl (OpOK.of_ro (RO.move rfl)) rfl <| RunA.rd rfl rfl rfl (OpOK.of_ro (RO.move rfl)) rfl <| RunA.rd rfl rfl rfl (OpOK.of_ro (RO.fieldOwn fo_69_0 rfl)) rfl <| RunA.rd rfl rfl rfl (OpOK.of_ro (RO.loadOwn ag_3 rfl rfl rfl)) rfl ?_
        refine bindK h1 (fun x25 hx25 h1 => ?_)
        refine RunA.rd rfl rfl rfl (OpOK.of_ro (RO.indexE (α := Int) sl_46 rfl (.d _) rfl hx25)) rfl <| RunA.rd rfl rfl rfl (OpOK.of_ro (RO.loadPel ag_3 rfl rfl)) rfl <| RunA.rd rfl rfl rfl (OpOK.of_ro (RO.fieldOwn fo_69_1 rfl)) rfl <| RunA.rd rfl rfl rfl (OpOK.of_ro (RO.loadOwn ag_3 rfl rfl rfl)) rfl <| RunA.rd rfl rfl rfl (OpOK.of_ro (RO.binInt rfl rfl rfl)) rfl <| RunA.rd rfl rfl rfl (OpOK.of_ro (RO.max2 rfl rfl)) rfl <| RunA.rd rfl rfl rfl (OpOK.of_ro (RO.assign rfl)) rfl ?_
        refine RunA.nil ⟨?ex, _, _, rfl, ?_⟩
        case ex => exact trivial
        refine XQ.less (st' := ⟨[(1, .v (.one (dS a1))), (6, .v (.one (dI (max s1.1 (w64 (x25 + x24.2)))))), (30, .v (.one (dS a0.vs))), (31, .v (.one (dI (a0.vs.length : Int)))), (32, .v (.one (dI s1.2)))], [(0, .cells 24 (cE a0)), (1, .cells 69 (cE x24))], [], 2, 48, []⟩) (stle (tR rfl (tR rfl (tR rfl (tR rfl (tR rfl tZ))))) (hR rfl (hR rfl hZ)) kZ rfl (Nat.zero_le _) rfl rfl rfl (bB rfl rfl (bB rfl rfl bZ)) rfl rfl) <| XQ.inBlock <| XQ.seq <| XC.region <| rR rfl rfl rfl (RO.binInt rfl rfl rfl) <| rM rfl rfl rfl <| XL.nil ?_
        have e_ := Option.some.inj h1
        subst e_
        refine XQ.nextM ((max s1.1 (w64 (x25 + x24.2))), (w64 (s1.2 + 1))) (stle (tR rfl (tR rfl (tR rfl (tR rfl (tR rfl tZ))))) (hR rfl hZ) kZ rfl (Nat.zero_le _) rfl rfl rfl (bB rfl rfl bZ) rfl rfl) ho1
       ·
        replace h1 := condF c23 h1
        refine XC.exit <| XQ.thenE <| XQ.thenE ?_
        have e_ := Option.some.inj h1
        subst e_
        have e_ : _ = _ := ho1
        subst e_
        exact XQ.joinX s1.1 (stle (tR rfl tZ) (hR rfl hZ) kZ rfl (Nat.zero_le _) rfl rfl rfl (bB rfl rfl bZ) rfl rfl) h0
      ·
       intro o21 h0
       refine XQ.blockX <| XQ.seq <| XC.seq <| XC.region <| rM rfl rfl rfl <| rA rfl rfl rfl <| rA rfl rfl rfl <| XL.nil <| XQ.seq <| XC.ret ?_
       have e_ := Option.some.inj h0
       subst e_
       exact XQ.retF (fun _ _ h => h) rfl (RAs.tmp rfl (RAs.tmp rfl .nil)) (.cons (.one (.d _)) (.cons (.one (.d _)) .nil))

def m39_l0 (a1 : List Int) (s1 : Int) : Option (LO Int (Unit ⊕ (Int × Int))) :=
  cond (decide (s1 < (a1.length : Int)))
    (Option.bind (Option.bind (idx a1 s1) fun (x6 : Int) =>
  cond (decide (x6 < 0))
    (some true)
    (Option.bind (idx a1 s1) fun (x8 : Int) =>
  some (decide (1000000 < x8)))) (fun (v5 : Bool) => cond v5
    (some (.done (.inr (0, 2))))
    (some (.next (w64 (s1 + 1))))))
    (some (.done (.inl ())))

def m39_l1 (a0 : Lvl) (a1 : List Int) (s1 : Int × Int) : Option (LO (Int × Int) Int) :=
  cond (decide (s1.2 < (a0.vs.length : Int)))
    (Option.bind (idx a0.vs s1.2) fun (x10 : LV) =>
  Option.bind (idx a1 x10.1) fun (x11 : Int) =>
  Option.bind (idx a0.vs s1.2) fun (x12 : LV) =>
  some (.next ((max s1.1 (w64 (x11 + x12.2))), (w64 (s1.2 + 1)))))
    (some (.done s1.1))

/-- euclid/euclidref01.Eval -/
def m39 (a0 : Lvl) (a1 : List Int) : Option (Int × Int) :=
  guardO (Nat.ble a0.vs.length 100000)
  (cond (!(validB a0))
    (some (0, 3))
    (Option.bind (loopN (m39_l0 a1) FUEL 0) (Sum.elim (fun (o3 : Unit) => Option.bind (m44 a0) fun (x4 : (List Int)) =>
  cond (decide (0 < (x4.length : Int)))
    (some (0, 23))
    (Option.bind (m41 a0) fun (x6 : Int) =>
  cond (decide ((a1.length : Int) < x6))
    (some (0, 24))
    (Option.bind (loopN (m39_l1 a0 a1) FUEL (a0.c, 0)) (fun (o8 : Int) => some (o8, 0))))) (fun o => some o))))

set_option maxRecDepth 100000 in
set_option maxHeartbeats 8000000 in
theorem m39_ok (a0 : Lvl) (a1 : List Int) (r : Int × Int) (h0 : m39 a0 a1 = some r) : Fun Tryz.prog 39 [.agg (cE a0), .one (dS a1)] (resOf [.one (dI r.1), .one (dI r.2)]) := by
  unfold m39 at h0
  refine Fun.of_bodyM 9 67 Tryz.func39 rfl en_39 rfl (lb rfl) (fun S w => ?_)
  simp only [entry]
  refine XC.seq <| XC.region <| XL.put rfl rfl (lb rfl) (OpOK.box rfl) <| rA rfl rfl rfl <| rA rfl rfl rfl <| XL.nil <| XQ.seq <| XC.seq <| XC.seq <| XC.region <| rR rfl rfl rfl (RO.loadOwnAgg ag_24 rfl rfl rfl rfl) ?_
  refine guardK h0 (fun g1 h0 => ?_)
  refine XL.put rfl rfl (lb rfl) (OpOK.callFun (validR_fun a0 (Nat.le_of_ble_eq_true g1)) rfl (.cons (.agg (.cons (.d _) (.cons (.d _) .nil))) .nil)) ?_
  refine rR rfl rfl rfl (RO.not rfl) <| XL.nil <| XQ.seq ?_
  refine XC.cond (b := (!(validB a0))) rfl (fun c2 => ?_) (fun c2 => ?_)
  ·
   replace h0 := condT c2 h0
   refine XC.seq <| XC.region <| rA rfl rfl rfl <| rA rfl rfl rfl <| XL.nil <| XQ.seq <| XC.ret ?_
   have e_ := Option.some.inj h0
   subst e_
   exact XQ.retF (fun _ _ h => h) rfl (RAs.tmp rfl (RAs.tmp rfl .nil)) (.cons (.one (.d _)) (.cons (.one (.d _)) .nil))
  ·
   replace h0 := condF c2 h0
   refine XC.skip <| XQ.seq <| XC.seq <| XC.seq <| XC.region <| rA rfl rfl rfl <| XL.nil <| XQ.seq <| XC.block ?_
   refine XC.joinX 0 (fun (o3 : Unit) => ⟨[(1, .v (.one (dS a1))), (2, .v (.one (.ptr 0 0)))], [(0, .cells 24 (cE a0))], [], 1, 67, []⟩) (fun (o3 : Unit) => (Option.bind (m44 a0) fun (x4 : (List Int)) =>
     cond (decide (0 < (x4.length : Int)))
       (some (0, 23))
       (Option.bind (m41 a0) fun (x6 : Int) =>
     cond (decide ((a1.length : Int) < x6))
       (some (0, 24))
       (Option.bind (loopN (m39_l1 a0 a1) FUEL (a0.c, 0)) (fun (o8 : Int) => some (o8, 0))))) = some r) ?_ ?_
   ·
    refine bindK h0 (fun o4 hl1 h0 => ?_)
    refine XC.loopM (m39_l0 a1) (fun s1 => ⟨[(1, .v (.one (dS a1))), (2, .v (.one (.ptr 0 0))), (6, .v (.one (dI s1)))], [(0, .cells 24 (cE a0))], [], 1, 67, []⟩) 0 o4 (stle (tR rfl (tR rfl (tR rfl tZ))) (hR rfl hZ) kZ rfl (Nat.zero_le _) rfl rfl rfl (bB rfl rfl bZ) rfl rfl) hl1 (fun s1 n1 oo1 h1 ho1 => ?_)
    unfold m39_l0 at h1
    refine XC.seq <| XC.seq <| XC.region <| rM rfl rfl rfl <| rM rfl rfl rfl <| rR rfl rfl rfl (RO.lenE (α := Int) sl_46 rfl (.d _)) <| rR rfl rfl rfl (RO.binInt rfl rfl rfl) <| XL.nil <| XQ.seq ?_
    refine XC.cond (b := (decide (s1 < (a1.length : Int)))) rfl (fun c5 => ?_) (fun c5 => ?_)
    ·
     replace h1 := condT c5 h1
     refine XC.skip <| XQ.seq <| XC.seq <| XC.block <| XC.seq ?_
     refine XC.joinR (fun (v6 : Bool) => ⟨[(1, .v (.one (dS a1))), (2, .v (.one (.ptr 0 0))), (6, .v (.one (dI s1))), (29, .v (.one (dB v6)))], [(0, .cells 24 (cE a0))], [], 1, 67, []⟩) (fun (v6 : Bool) => (cond v6
         (some (.done (.inr (0, 2))))
         (some (.next (w64 (s1 + 1))))) = some oo1) ?_ ?_
     ·
      refine bindK h1 (fun v_ h2 h1 => ?_)
      refine XC.region <| rM rfl rfl rfl <| rM rfl rfl rfl ?_
      refine bindK h2 (fun x7 hx7 h2 => ?_)
      refine rR rfl rfl rfl (RO.indexE (α := Int) sl_46 rfl (.d _) rfl hx7) <| rR rfl rfl rfl (RO.loadPel ag_3 rfl rfl) <| rR rfl rfl rfl (RO.binInt rfl rfl rfl) <| rM rfl rfl rfl ?_
      refine XL.case (d := 23) (c := (decide (x7 < 0))) rfl (fun c8 => ?_) (fun c8 => ?_)
      ·
       replace h2 := condT c8 h2
       refine XL.no rfl rfl <| XL.no rfl rfl <| XL.no rfl rfl <| XL.no rfl rfl <| XL.no rfl rfl <| rR rfl rfl rfl (RO.pickT rfl rfl) <| XL.nil ?_
       have e_ := Option.some.inj h2
       subst e_
       exact XQ.joinR true (stle (tR rfl (tR rfl (tR rfl (tR rfl tZ)))) (hR rfl hZ) kZ rfl (Nat.zero_le _) rfl rfl rfl (bB rfl rfl bZ) rfl rfl) h1
      ·
       replace h2 := condF c8 h2
       refine rM rfl rfl rfl <| rM rfl rfl rfl ?_
       refine bindK h2 (fun x9 hx9 h2 => ?_)
       refine rR rfl rfl rfl (RO.indexE (α := Int) sl_46 rfl (.d _) rfl hx9) <| rR rfl rfl rfl (RO.loadPel ag_3 rfl rfl) <| rR rfl rfl rfl (RO.binInt rfl rfl rfl) <| rR rfl rfl rfl (RO.pickF rfl rfl) <| XL.nil ?_
       have e_ := Option.some.inj h2
       subst e_
       exact XQ.joinR (decide (1000000 < x9)) (stle (tR rfl (tR rfl (tR rfl (tR rfl tZ)))) (hR rfl hZ) kZ rfl (Nat.zero_le _) rfl rfl rfl (bB rfl rfl bZ) rfl rfl) h1
     ·
      intro v6 h1
      refine XQ.seq ?_
      refine XC.cond (b := v6) rfl (fun c10 => ?_) (fun c10 => ?_)
      ·
       replace h1 := condT c10 h1
       refine XC.seq <| XC.region <| rA rfl rfl rfl <| rA rfl rfl rfl <| XL.nil <| XQ.seq <| XC.ret ?_
       have e_ := Option.some.inj h1
       subst e_
       have e_ : _ = _ := ho1
       subst e_
       try dsimp only [Sum.elim_inl, Sum.elim_inr] at h0
       have e_ := Option.some.inj h0
       subst e_
       exact XQ.retF (fun _ _ h => h) rfl (RAs.tmp rfl (RAs.tmp rfl .nil)) (.cons (.one (.d _)) (.cons (.one (.d _)) .nil))
      ·
       replace h1 := condF c10 h1
       refine XC.skip <| XQ.inBlock <| XQ.seq <| XC.region <| rM rfl rfl rfl <| rR rfl rfl rfl (RO.binInt rfl rfl rfl) <| rA rfl rfl rfl <| XL.nil ?_
       have e_ := Option.some.inj h1
       subst e_
       refine XQ.nextM (w64 (s1 + 1)) (stle (tR rfl (tR rfl (tR rfl tZ))) (hR rfl hZ) kZ rfl (Nat.zero_le _) rfl rfl rfl (bB rfl rfl bZ) rfl rfl) ho1
    ·
     replace h1 := condF c5 h1
     refine XC.exit <| XQ.thenE <| XQ.thenE ?_
     have e_ := Option.some.inj h1
     subst e_
     have e_ : _ = _ := ho1
     subst e_
     exact XQ.joinX () (stle (tR rfl (tR rfl tZ)) (hR rfl hZ) kZ rfl (Nat.zero_le _) rfl rfl rfl (bB rfl rfl bZ) rfl rfl) h0
   ·
    intro o3 h0
    refine XQ.blockX <| XQ.seq <| XC.seq <| XC.seq <| XC.region <| rR rfl rfl rfl (RO.loadOwnAgg ag_24 rfl rfl rfl rfl) ?_
    refine bindK h0 (fun x11 hx11 h0 => ?_)
    refine XL.put rfl rfl (lb rfl) (OpOK.callFun (m44_ok a0 x11 hx11) rfl (.cons (.agg (.cons (.d _) (.cons (.d _) .nil))) .nil)) <| rR rfl rfl rfl (RO.lenE (α := Int) sl_46 rfl (.d _)) <| rR rfl rfl rfl (RO.binInt rfl rfl rfl) <| XL.nil <| XQ.seq ?_
    refine XC.cond (b := (decide (0 < (x11.length : Int)))) rfl (fun c12 => ?_) (fun c12 => ?_)
    ·
     replace h0 := condT c12 h0
     refine XC.seq <| XC.region <| rA rfl rfl rfl <| rA rfl rfl rfl <| XL.nil <| XQ.seq <| XC.ret ?_
     have e_ := Option.some.inj h0
     subst e_
     exact XQ.retF (fun _ _ h => h) rfl (RAs.tmp rfl (RAs.tmp rfl .nil)) (.cons (.one (.d _)) (.cons (.one (.d _)) .nil))
    ·
     replace h0 := condF c12 h0
     refine XC.skip <| XQ.seq <| XC.seq <| XC.seq <| XC.region <| rR rfl rfl rfl (RO.loadOwnAgg ag_24 rfl rfl rfl rfl) ?_
     refine bindK h0 (fun x13 hx13 h0 => ?_)
     refine XL.put rfl rfl (lb rfl) (OpOK.callFun (m41_ok a0 x13 hx13) rfl (.cons (.agg (.cons (.d _) (.cons (.d _) .nil))) .nil)) <| rM rfl rfl rfl <| rR rfl rfl rfl (RO.lenE (α := Int) sl_46 rfl (.d _)) <| rR rfl rfl rfl (RO.binInt rfl rfl rfl) <| XL.nil <| XQ.seq ?_
     refine XC.cond (b := (decide ((a1.length : Int) < x13))) rfl (fun c14 => ?_) (fun c14 => ?_)
     ·
      replace h0 := condT c14 h0
      refine XC.seq <| XC.region <| rA rfl rfl rfl <| rA rfl rfl rfl <| XL.nil <| XQ.seq <| XC.ret ?_
      have e_ := Option.some.inj h0
      subst e_
      exact XQ.retF (fun _ _ h => h) rfl (RAs.tmp rfl (RAs.tmp rfl .nil)) (.cons (.one (.d _)) (.cons (.one (.d _)) .nil))
     ·
      replace h0 := condF c14 h0
      refine XC.skip <| XQ.seq <| XC.seq <| XC.region <| rR rfl rfl rfl (RO.fieldOwn fo_24_0 rfl) <| rR rfl rfl rfl (RO.loadOwn ag_3 rfl rfl rfl) <| rA rfl rfl rfl <| XL.nil <| XQ.seq <| XC.seq <| XC.seq <| XC.region <| rA rfl rfl rfl <| XL.nil ?_
      refine XQ.seq <| XC.block ?_
      refine XC.joinX 2 (fun (o15 : Int) => ⟨[(7, .v (.one (dI o15)))], [(0, .cells 24 (cE a0))], [], 1, 67, []⟩) (fun (o15 : Int) => (some (o15, 0)) = some r) ?_ ?_
      ·
       refine bindK h0 (fun o16 hl1 h0 => ?_)
       refine XC.loopM (m39_l1 a0 a1) (fun s1 => ⟨[(1, .v (.one (dS a1))), (2, .v (.one (.ptr 0 0))), (7, .v (.one (dI s1.1))), (8, .v (.one (dI s1.2)))], [(0, .cells 24 (cE a0))], [], 1, 67, []⟩) (a0.c, 0) o16 (stle (tR rfl (tR rfl (tR rfl (tR rfl tZ)))) (hR rfl hZ) kZ rfl (Nat.zero_le _) rfl rfl rfl (bB rfl rfl bZ) rfl rfl) hl1 (fun s1 n1 oo1 h1 ho1 => ?_)
       unfold m39_l1 at h1
       refine XC.seq <| XC.seq <| XC.region <| rM rfl rfl rfl <| rR rfl rfl rfl (RO.fieldOwn fo_24_1 rfl) <| rR rfl rfl rfl (RO.loadOwn ag_22 rfl rfl rfl) <| rR rfl rfl rfl (RO.lenE (α := LV) sl_22 rfl (.d _)) <| rR rfl rfl rfl (RO.binInt rfl rfl rfl) <| XL.nil <| XQ.seq ?_
       refine XC.cond (b := (decide (s1.2 < (a0.vs.length : Int)))) rfl (fun c17 => ?_) (fun c17 => ?_)
       ·
        replace h1 := condT c17 h1
        refine XC.skip <| XQ.seq <| XC.seq <| XC.block ?_
        refine XC.anyRun [] [] mixed (by kernel_rfl) (by kernel_rfl) (by kernel_rfl) ?_
        refine RunA.rd rfl rfl rfl (OpOK.of_ro (RO.move rfl)) rfl <| RunA.rd rfl rfl rfl (OpOK.of_ro (RO.move rfl)) rfl <| RunA.rd rfl rfl rfl (OpOK.of_ro (RO.fieldOwn fo_24_1 rfl)) rfl <| RunA.rd rfl rfl rfl (OpOK.of_ro (RO.loadOwn ag_22 rfl rfl rfl)) rfl <| RunA.rd rfl rfl rfl (OpOK.of_ro (RO.move rfl)) rfl ?_
        refine bindK h1 (fun x18 hx18 h1 => ?_)
        refine RunA.rd rfl rfl rfl (OpOK.of_ro (RO.indexE (α := LV) sl_22 rfl (.d _) rfl hx18)) rfl <| RunA.rd rfl rfl rfl (OpOK.of_ro (RO.fieldPel fo_69_0 rfl)) rfl <| RunA.rd rfl rfl rfl (OpOK.of_ro (RO.loadPel ag_3 rfl rfl)) rfl ?_
        refine bindK h1 (fun x19 hx19 h1 => ?_)
        refine RunA.rd rfl rfl rfl (OpOK.of_ro (RO.indexE (α := Int) sl_46 rfl (.d _) rfl hx19)) rfl <| RunA.rd rfl rfl rfl (OpOK.of_ro (RO.loadPel ag_3 rfl rfl)) rfl <| RunA.rd rfl rfl rfl (OpOK.of_ro (RO.fieldOwn fo_24_1 rfl)) rfl <| RunA.rd rfl rfl rfl (OpOK.of_ro (RO.loadOwn ag_22 rfl rfl rfl)) rfl <| RunA.rd rfl rfl rfl (OpOK.of_ro (RO.move rfl)) rfl ?_
        refine bindK h1 (fun x20 hx20 h1 => ?_)
        refine RunA.rd rfl rfl rfl (OpOK.of_ro (RO.indexE (α := LV) sl_22 rfl (.d _) rfl hx20)) rfl <| RunA.rd rfl rfl rfl (OpOK.of_ro (RO.fieldPel fo_69_1 rfl)) rfl <| RunA.rd rfl rfl rfl (OpOK.of_ro (RO.loadPel ag_3 rfl rfl)) rfl <| RunA.rd rfl rfl rfl (OpOK.of_ro (RO.binInt rfl rfl rfl)) rfl <| RunA.rd rfl rfl rfl (OpOK.of_ro (RO.max2 rfl rfl)) rfl <| RunA.rd rfl rfl rfl (OpOK.of_ro (RO.assign rfl)) rfl ?_
        refine RunA.nil ⟨?ex, _, _, rfl, ?_⟩
        case ex => exact trivial
        refine XQ.less (st' := ⟨[(1, .v (.one (dS a1))), (2, .v (.one (.ptr 0 0))), (7, .v (.one (dI (max s1.1 (w64 (x19 + x20.2)))))), (8, .v (.one (dI s1.2)))], [(0, .cells 24 (cE a0))], [], 1, 67, []⟩) (stle (tR rfl (tR rfl (tR rfl (tR rfl tZ)))) (hR rfl hZ) kZ rfl (Nat.zero_le _) rfl rfl rfl (bB rfl rfl bZ) rfl rfl) <| XQ.inBlock <| XQ.seq <| XC.region <| rM rfl rfl rfl <| rR rfl rfl rfl (RO.binInt rfl rfl rfl) <| rA rfl rfl rfl <| XL.nil ?_
        have e_ := Option.some.inj h1
        subst e_
        refine XQ.nextM ((max s1.1 (w64 (x19 + x20.2))), (w64 (s1.2 + 1))) (stle (tR rfl (tR rfl (tR rfl (tR rfl tZ)))) (hR rfl hZ) kZ rfl (Nat.zero_le _) rfl rfl rfl (bB rfl rfl bZ) rfl rfl) ho1
       ·
        replace h1 := condF c17 h1
        refine XC.exit <| XQ.thenE <| XQ.thenE ?_
        have e_ := Option.some.inj h1
        subst e_
        have e_ : _ = _ := ho1
        subst e_
        exact XQ.joinX s1.1 (stle (tR rfl tZ) (hR rfl hZ) kZ rfl (Nat.zero_le _) rfl rfl rfl (bB rfl rfl bZ) rfl rfl) h0
      ·
       intro o15 h0
       refine XQ.blockX <| XQ.seq <| XC.seq <| XC.region <| rM rfl rfl rfl <| rA rfl rfl rfl <| rA rfl rfl rfl <| XL.nil <| XQ.seq <| XC.ret ?_
       have e_ := Option.some.inj h0
       subst e_
       exact XQ.retF (fun _ _ h => h) rfl (RAs.tmp rfl (RAs.tmp rfl .nil)) (.cons (.one (.d _)) (.cons (.one (.d _)) .nil))

def m42_l0 (a0 : List Int) (a1 : List Int) (s1 : Int) : Option (LO Int (Unit ⊕ Bool)) :=
  cond (decide (s1 < (a0.length : Int)))
    (Option.bind (idx a0 s1) fun (x4 : Int) =>
  Option.bind (idx a1 s1) fun (x5 : Int) =>
  cond (x4 != x5)
    (some (.done (.inr false)))
    (some (.next (w64 (s1 + 1)))))
    (some (.done (.inl ())))

/-- slices.Equal[[]int,int] -/
def m42 (a0 : List Int) (a1 : List Int) : Option Bool :=
  cond ((a0.length : Int) != (a1.length : Int))
    (some false)
    (Option.bind (loopN (m42_l0 a0 a1) FUEL 0) (Sum.elim (fun (o2 : Unit) => some true) (fun o => some o)))

set_option maxRecDepth 100000 in
set_option maxHeartbeats 8000000 in
theorem m42_ok (a0 : List Int) (a1 : List Int) (r : Bool) (h0 : m42 a0 a1 = some r) : Fun Tryz.prog 42 [.one (dS a0), .one (dS a1)] (resOf [.one (dB r)]) := by
  unfold m42 at h0
  refine Fun.of_bodyM 9 26 Tryz.func42 rfl en_42 rfl (lb rfl) (fun S w => ?_)
  simp only [entry]
  refine XC.seq <| XC.region <| rA rfl rfl rfl <| XL.nil <| XQ.seq <| XC.seq <| XC.seq <| XC.region <| rM rfl rfl rfl <| rR rfl rfl rfl (RO.lenE (α := Int) sl_46 rfl (.d _)) <| rM rfl rfl rfl <| rR rfl rfl rfl (RO.lenE (α := Int) sl_46 rfl (.d _)) <| rR rfl rfl rfl (RO.binInt rfl rfl rfl) <| XL.nil ?_
  refine XQ.seq ?_
  refine XC.cond (b := ((a0.length : Int) != (a1.length : Int))) rfl (fun c1 => ?_) (fun c1 => ?_)
  ·
   replace h0 := condT c1 h0
   refine XC.seq <| XC.region <| rA rfl rfl rfl <| XL.nil <| XQ.seq <| XC.ret ?_
   have e_ := Option.some.inj h0
   subst e_
   exact XQ.retF (fun _ _ h => h) rfl (RAs.tmp rfl .nil) (.cons (.one (.d _)) .nil)
  ·
   replace h0 := condF c1 h0
   refine XC.skip <| XQ.seq <| XC.seq <| XC.seq <| XC.region <| rM rfl rfl rfl <| rR rfl rfl rfl (RO.lenE (α := Int) sl_46 rfl (.d _)) <| rM rfl rfl rfl <| XL.nil <| XQ.seq <| XC.block ?_
   refine XC.joinX 0 (fun (o2 : Unit) => ⟨[], [], [], 0, 26, []⟩) (fun (o2 : Unit) => (some true) = some r) ?_ ?_
   ·
    refine bindK h0 (fun o3 hl1 h0 => ?_)
    refine XC.loopM (m42_l0 a0 a1) (fun s1 => ⟨[(0, .v (.one (dS a0))), (1, .v (.one (dS a1))), (12, .v (.one (dI (a0.length : Int)))), (13, .v (.one (dI s1)))], [], [], 0, 26, []⟩) 0 o3 (stle (tR rfl (tR rfl (tR rfl (tR rfl tZ)))) hZ kZ rfl (Nat.zero_le _) rfl rfl rfl bZ rfl rfl) hl1 (fun s1 n1 oo1 h1 ho1 => ?_)
    unfold m42_l0 at h1
    refine XC.seq <| XC.region <| rR rfl rfl rfl (RO.binInt rfl rfl rfl) <| XL.nil <| XQ.seq <| XC.seq ?_
    refine XC.cond (b := (decide (s1 < (a0.length : Int)))) rfl (fun c4 => ?_) (fun c4 => ?_)
    ·
     replace h1 := condT c4 h1
     refine XC.skip <| XQ.seq <| XC.seq <| XC.block <| XC.seq <| XC.region <| rM rfl rfl rfl <| rA rfl rfl rfl <| XL.nil <| XQ.seq <| XC.seq ?_
     refine XC.anyRun [] [] mixed (by kernel_rfl) (by kernel_rfl) (by kernel_rfl) ?_
     refine RunA.rd rfl rfl rfl (OpOK.of_ro (RO.move rfl)) rfl <| RunA.rd rfl rfl rfl (OpOK.of_ro (RO.move rfl)) rfl ?_
     refine bindK h1 (fun x5 hx5 h1 => ?_)
     refine RunA.rd rfl rfl rfl (OpOK.of_ro (RO.indexE (α := Int) sl_46 rfl (.d _) rfl hx5)) rfl <| RunA.rd rfl rfl rfl (OpOK.of_ro (RO.loadPel ag_3 rfl rfl)) rfl <| RunA.rd rfl rfl rfl (OpOK.of_ro (RO.move rfl)) rfl <| RunA.rd rfl rfl rfl (OpOK.of_ro (RO.move rfl)) rfl ?_
     refine bindK h1 (fun x6 hx6 h1 => ?_)
     refine RunA.rd rfl rfl rfl (OpOK.of_ro (RO.indexE (α := Int) sl_46 rfl (.d _) rfl hx6)) rfl <| RunA.rd rfl rfl rfl (OpOK.of_ro (RO.loadPel ag_3 rfl rfl)) rfl <| RunA.rd rfl rfl rfl (OpOK.of_ro (RO.binInt rfl rfl rfl)) rfl ?_
     refine RunA.nil ⟨?ex, _, _, rfl, ?_⟩
     case ex => exact trivial
     refine XQ.less (st' := ⟨[(0, .v (.one (dS a0))), (1, .v (.one (dS a1))), (12, .v (.one (dI (a0.length : Int)))), (13, .v (.one (dI s1))), (24, .v (.one (dB (x5 != x6))))], [], [], 0, 26, []⟩) (stle (tR rfl (tR rfl (tR rfl (tR rfl (tR rfl tZ))))) hZ kZ rfl (Nat.zero_le _) rfl rfl rfl bZ rfl rfl) <| XQ.seq ?_
     refine XC.cond (b := (x5 != x6)) rfl (fun c7 => ?_) (fun c7 => ?_)
     ·
      replace h1 := condT c7 h1
      refine XC.seq <| XC.region <| rA rfl rfl rfl <| XL.nil <| XQ.seq <| XC.ret ?_
      have e_ := Option.some.inj h1
      subst e_
      have e_ : _ = _ := ho1
      subst e_
      try dsimp only [Sum.elim_inl, Sum.elim_inr] at h0
      have e_ := Option.some.inj h0
      subst e_
      exact XQ.retF (fun _ _ h => h) rfl (RAs.tmp rfl .nil) (.cons (.one (.d _)) .nil)
     ·
      replace h1 := condF c7 h1
      refine XC.skip <| XQ.inBlock <| XQ.seq <| XC.region <| rR rfl rfl rfl (RO.binInt rfl rfl rfl) <| rM rfl rfl rfl <| XL.nil ?_
      have e_ := Option.some.inj h1
      subst e_
      refine XQ.nextM (w64 (s1 + 1)) (stle (tR rfl (tR rfl (tR rfl (tR rfl tZ)))) hZ kZ rfl (Nat.zero_le _) rfl rfl rfl bZ rfl rfl) ho1
    ·
     replace h1 := condF c4 h1
     refine XC.exit <| XQ.thenE <| XQ.thenE ?_
     have e_ := Option.some.inj h1
     subst e_
     have e_ : _ = _ := ho1
     subst e_
     exact XQ.joinX () (stle tZ hZ kZ rfl (Nat.zero_le _) rfl rfl rfl bZ rfl rfl) h0
   ·
    intro o2 h0
    refine XQ.blockX <| XQ.seq <| XC.seq <| XC.region <| rA rfl rfl rfl <| XL.nil <| XQ.seq <| XC.ret ?_
    have e_ := Option.some.inj h0
    subst e_
    exact XQ.retF (fun _ _ h => h) rfl (RAs.tmp rfl .nil) (.cons (.one (.d _)) .nil)
end Go.Proofs.YtcapifnaceegmaaGreatDoor
