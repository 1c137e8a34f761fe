/- Mirrors of layer 1: value. -/
import Derived.Test.YtcapifnaceegmaaGreatDoorMa
namespace Go.Proofs.YtcapifnaceegmaaGreatDoor
open Go.RowKit Go.Shelf
set_option linter.unusedSimpArgs false
set_option linter.unusedVariables false

theorem en_28 : Enters Tryz.prog 28 := enters_of Tryz.func28 (by kernel_rfl) rfl
def m28_l0 (a0 : Lvl) (a1 : List Int) (s1 : Int × Int) : Option (LO (Int × Int) (Int ⊕ Int)) :=
  cond (decide (s1.2 < (a0.vs.length : Int)))
    (Option.bind (idx a0.vs s1.2) fun (x5 : LV) =>
  Option.bind (cond (decide (x5.1 < 0))
    (some true)
    (some (decide ((a1.length : Int) ≤ x5.1)))) (fun (v6 : Bool) => cond v6
    (some (.done (.inr (-1))))
    (Option.bind (idx a1 x5.1) fun (x8 : Int) =>
  some (.next ((max s1.1 (w64 (x8 + x5.2))), (w64 (s1.2 + 1)))))))
    (some (.done (.inl s1.1)))

/-- euclid/euclidlaw01.value -/
def m28 (a0 : Lvl) (a1 : List Int) : Option Int :=
  guardO (Nat.ble a0.vs.length 100000)
  (cond (!(validB a0))
    (some (-1))
    (Option.bind (loopN (m28_l0 a0 a1) FUEL (a0.c, 0)) (Sum.elim (fun (o3 : Int) => some o3) (fun o => some o))))

set_option maxRecDepth 100000 in
set_option maxHeartbeats 8000000 in
theorem m28_ok (a0 : Lvl) (a1 : List Int) (r : Int) (h0 : m28 a0 a1 = some r) : Fun Tryz.prog 28 [.agg (cE a0), .one (dS a1)] (resOf [.one (dI r)]) := by
  unfold m28 at h0
  refine Fun.of_bodyM 9 42 Tryz.func28 rfl en_28 rfl (lb rfl) (fun S w => ?_)
  simp only [entry]
  refine XC.seq <| XC.region <| XL.put rfl rfl (lb rfl) (OpOK.box rfl) <| rA rfl rfl rfl <| XL.nil <| XQ.seq <| XC.seq <| XC.seq <| XC.region <| rR rfl rfl rfl (RO.loadOwnAgg ag_24 rfl rfl rfl rfl) ?_
  refine guardK h0 (fun g1 h0 => ?_)
  refine XL.put rfl rfl (lb rfl) (OpOK.callFun (validR_fun a0 (Nat.le_of_ble_eq_true g1)) rfl (.cons (.agg (.cons (.d _) (.cons (.d _) .nil))) .nil)) ?_
  refine rR rfl rfl rfl (RO.not rfl) <| XL.nil <| XQ.seq ?_
  refine XC.cond (b := (!(validB a0))) rfl (fun c2 => ?_) (fun c2 => ?_)
  ·
   replace h0 := condT c2 h0
   refine XC.seq <| XC.region <| rA rfl rfl rfl <| XL.nil <| XQ.seq <| XC.ret ?_
   have e_ := Option.some.inj h0
   subst e_
   exact XQ.retF (fun _ _ h => h) rfl (RAs.tmp rfl .nil) (.cons (.one (.d _)) .nil)
  ·
   replace h0 := condF c2 h0
   refine XC.skip <| XQ.seq <| XC.seq <| XC.region <| rR rfl rfl rfl (RO.fieldOwn fo_24_0 rfl) <| rR rfl rfl rfl (RO.loadOwn ag_3 rfl rfl rfl) <| rA rfl rfl rfl <| XL.nil <| XQ.seq <| XC.seq <| XC.seq <| XC.region <| rR rfl rfl rfl (RO.fieldOwn fo_24_1 rfl) <| rR rfl rfl rfl (RO.loadOwn ag_22 rfl rfl rfl) ?_
   refine rR rfl rfl rfl (RO.lenE (α := LV) sl_22 rfl (.d _)) <| rM rfl rfl rfl <| XL.nil <| XQ.seq <| XC.block ?_
   refine XC.joinX 0 (fun (o3 : Int) => ⟨[(5, .v (.one (dI o3)))], [(0, .cells 24 (cE a0))], [], 1, 42, []⟩) (fun (o3 : Int) => (some o3) = some r) ?_ ?_
   ·
    refine bindK h0 (fun o4 hl1 h0 => ?_)
    refine XC.loopM (m28_l0 a0 a1) (fun s1 => ⟨[(1, .v (.one (dS a1))), (5, .v (.one (dI s1.1))), (14, .v (.one (dS a0.vs))), (15, .v (.one (dI (a0.vs.length : Int)))), (16, .v (.one (dI s1.2)))], [(0, .cells 24 (cE a0))], [], 1, 42, []⟩) (a0.c, 0) o4 (stle (tR rfl (tR rfl (tR rfl (tR rfl (tR rfl tZ))))) (hR rfl hZ) kZ rfl (Nat.zero_le _) rfl rfl rfl (bB rfl rfl bZ) rfl rfl) hl1 (fun s1 n1 oo1 h1 ho1 => ?_)
    unfold m28_l0 at h1
    refine XC.seq <| XC.region <| rR rfl rfl rfl (RO.binInt rfl rfl rfl) <| XL.nil <| XQ.seq <| XC.seq ?_
    refine XC.cond (b := (decide (s1.2 < (a0.vs.length : Int)))) rfl (fun c5 => ?_) (fun c5 => ?_)
    ·
     replace h1 := condT c5 h1
     refine XC.skip <| XQ.seq <| XC.seq <| XC.block <| XC.seq <| XC.region ?_
     refine bindK h1 (fun x6 hx6 h1 => ?_)
     refine rR rfl rfl rfl (RO.indexE (α := LV) sl_22 rfl (.d _) rfl hx6) <| rR rfl rfl rfl (RO.loadPelAgg ag_69 rfl rfl rfl) <| XL.put rfl rfl (lb rfl) (OpOK.alloc z_69 rfl) <| XL.eff rfl rfl (OpOK.store ag_69 rfl rfl rfl rfl (lb rfl) rfl) <| XL.nil <| XQ.seq <| XC.seq <| XC.seq ?_
     refine XC.joinR (fun (v7 : Bool) => ⟨[(1, .v (.one (dS a1))), (5, .v (.one (dI s1.1))), (7, .v (.one (.ptr 1 0))), (14, .v (.one (dS a0.vs))), (15, .v (.one (dI (a0.vs.length : Int)))), (16, .v (.one (dI s1.2))), (29, .v (.one (dB v7)))], [(0, .cells 24 (cE a0)), (1, .cells 69 (cE x6))], [], 2, 42, []⟩) (fun (v7 : Bool) => (cond v7
         (some (.done (.inr (-1))))
         (Option.bind (idx a1 x6.1) fun (x9 : Int) =>
       some (.next ((max s1.1 (w64 (x9 + x6.2))), (w64 (s1.2 + 1)))))) = some oo1) ?_ ?_
     ·
      refine bindK h1 (fun v_ h2 h1 => ?_)
      refine XC.region <| rR rfl rfl rfl (RO.fieldOwn fo_69_0 rfl) <| rR rfl rfl rfl (RO.loadOwn ag_3 rfl rfl rfl) <| rR rfl rfl rfl (RO.binInt rfl rfl rfl) <| rM rfl rfl rfl ?_
      refine XL.case (d := 23) (c := (decide (x6.1 < 0))) rfl (fun c8 => ?_) (fun c8 => ?_)
      ·
       replace h2 := condT c8 h2
       refine XL.no rfl rfl <| XL.no rfl rfl <| XL.no rfl rfl <| XL.no rfl rfl <| XL.no rfl rfl <| rR rfl rfl rfl (RO.pickT rfl rfl) <| XL.nil ?_
       have e_ := Option.some.inj h2
       subst e_
       exact XQ.joinR true (stle (tR rfl (tR rfl (tR rfl (tR rfl (tR rfl (tR rfl (tR rfl tZ))))))) (hR rfl (hR rfl hZ)) kZ rfl (Nat.zero_le _) rfl rfl rfl (bB rfl rfl (bB rfl rfl bZ)) rfl rfl) h1
      ·
       replace h2 := condF c8 h2
       refine rR rfl rfl rfl (RO.fieldOwn fo_69_0 rfl) <| rR rfl rfl rfl (RO.loadOwn ag_3 rfl rfl rfl) <| rM rfl rfl rfl <| rR rfl rfl rfl (RO.lenE (α := Int) sl_46 rfl (.d _)) <| rR rfl rfl rfl (RO.binInt rfl rfl rfl) <| rR rfl rfl rfl (RO.pickF rfl rfl) <| XL.nil ?_
       have e_ := Option.some.inj h2
       subst e_
       exact XQ.joinR (decide ((a1.length : Int) ≤ x6.1)) (stle (tR rfl (tR rfl (tR rfl (tR rfl (tR rfl (tR rfl (tR rfl tZ))))))) (hR rfl (hR rfl hZ)) kZ rfl (Nat.zero_le _) rfl rfl rfl (bB rfl rfl (bB rfl rfl bZ)) rfl rfl) h1
     ·
      intro v7 h1
      refine XQ.seq ?_
      refine XC.cond (b := v7) rfl (fun c9 => ?_) (fun c9 => ?_)
      ·
       replace h1 := condT c9 h1
       refine XC.seq <| XC.region <| rA rfl rfl rfl <| XL.nil <| XQ.seq <| XC.ret ?_
       have e_ := Option.some.inj h1
       subst e_
       have e_ : _ = _ := ho1
       subst e_
       try dsimp only [Sum.elim_inl, Sum.elim_inr] at h0
       have e_ := Option.some.inj h0
       subst e_
       exact XQ.retF (fun _ _ h => h) rfl (RAs.tmp rfl .nil) (.cons (.one (.d _)) .nil)
      ·
       replace h1 := condF c9 h1
       refine XC.skip <| XQ.seq ?_
       refine XC.anyRun [] [] mixed (by kernel_rfl) (by kernel_rfl) (by kernel_rfl) ?_
       refine RunA.rd rfl rfl rfl (OpOK.of_ro (RO.move rfl)) rfl <| RunA.rd rfl rfl rfl (OpOK.of_ro (RO.move rfl)) rfl <| RunA.rd rfl rfl rfl (OpOK.of_ro (RO.fieldOwn fo_69_0 rfl)) rfl <| RunA.rd rfl rfl rfl (OpOK.of_ro (RO.loadOwn ag_3 rfl rfl rfl)) rfl ?_
       refine bindK h1 (fun x10 hx10 h1 => ?_)
       refine RunA.rd rfl rfl rfl (OpOK.of_ro (RO.indexE (α := Int) sl_46 rfl (.d _) rfl hx10)) rfl <| RunA.rd rfl rfl rfl (OpOK.of_ro (RO.loadPel ag_3 rfl rfl)) rfl <| RunA.rd rfl rfl rfl (OpOK.of_ro (RO.fieldOwn fo_69_1 rfl)) rfl <| RunA.rd rfl rfl rfl (OpOK.of_ro (RO.loadOwn ag_3 rfl rfl rfl)) rfl <| RunA.rd rfl rfl rfl (OpOK.of_ro (RO.binInt rfl rfl rfl)) rfl <| RunA.rd rfl rfl rfl (OpOK.of_ro (RO.max2 rfl rfl)) rfl <| RunA.rd rfl rfl rfl (OpOK.of_ro (RO.assign rfl)) rfl ?_
       refine RunA.nil ⟨?ex, _, _, rfl, ?_⟩
       case ex => exact trivial
       refine XQ.less (st' := ⟨[(1, .v (.one (dS a1))), (5, .v (.one (dI (max s1.1 (w64 (x10 + x6.2)))))), (14, .v (.one (dS a0.vs))), (15, .v (.one (dI (a0.vs.length : Int)))), (16, .v (.one (dI s1.2)))], [(0, .cells 24 (cE a0)), (1, .cells 69 (cE x6))], [], 2, 42, []⟩) (stle (tR rfl (tR rfl (tR rfl (tR rfl (tR rfl tZ))))) (hR rfl (hR rfl hZ)) kZ rfl (Nat.zero_le _) rfl rfl rfl (bB rfl rfl (bB rfl rfl bZ)) rfl rfl) <| XQ.inBlock <| XQ.seq <| XC.region <| rR rfl rfl rfl (RO.binInt rfl rfl rfl) <| rM rfl rfl rfl <| XL.nil ?_
       have e_ := Option.some.inj h1
       subst e_
       refine XQ.nextM ((max s1.1 (w64 (x10 + x6.2))), (w64 (s1.2 + 1))) (stle (tR rfl (tR rfl (tR rfl (tR rfl (tR rfl tZ))))) (hR rfl hZ) kZ rfl (Nat.zero_le _) rfl rfl rfl (bB rfl rfl bZ) rfl rfl) ho1
    ·
     replace h1 := condF c5 h1
     refine XC.exit <| XQ.thenE <| XQ.thenE ?_
     have e_ := Option.some.inj h1
     subst e_
     have e_ : _ = _ := ho1
     subst e_
     exact XQ.joinX s1.1 (stle (tR rfl tZ) (hR rfl hZ) kZ rfl (Nat.zero_le _) rfl rfl rfl (bB rfl rfl bZ) rfl rfl) h0
   ·
    intro o3 h0
    refine XQ.blockX <| XQ.seq <| XC.seq <| XC.region <| rM rfl rfl rfl <| rA rfl rfl rfl <| XL.nil <| XQ.seq <| XC.ret ?_
    have e_ := Option.some.inj h0
    subst e_
    exact XQ.retF (fun _ _ h => h) rfl (RAs.tmp rfl .nil) (.cons (.one (.d _)) .nil)
end Go.Proofs.YtcapifnaceegmaaGreatDoor
