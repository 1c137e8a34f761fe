/- Mirrors of layer 1: Same. -/
import Derived.Test.YtcapifnaceegmaaGreatDoorMa
namespace Go.Proofs.YtcapifnaceegmaaGreatDoor
open Go.RowKit Go.Shelf
set_option linter.unusedSimpArgs false
set_option linter.unusedVariables false

theorem en_31 : Enters Tryz.prog 31 := enters_of Tryz.func31 (by kernel_rfl) rfl
theorem en_62 : Enters Tryz.prog 62 := enters_of Tryz.func62 (by kernel_rfl) rfl
def m31_l0 (a0 : Lvl) (a1 : Lvl) (s3 : Int) : Option (LO Int (Unit ⊕ Bool)) :=
  cond (decide (s3 < (a0.vs.length : Int)))
    (Option.bind (idx a0.vs s3) fun (x8 : LV) =>
  Option.bind (idx a1.vs s3) fun (x9 : LV) =>
  cond (!((x8.1 == x9.1) && (x8.2 == x9.2)))
    (some (.done (.inr false)))
    (some (.next (w64 (s3 + 1)))))
    (some (.done (.inl ())))

/-- euclid/level.Same -/
def m31 (a0 : Lvl) (a1 : Lvl) : Option Bool :=
  Option.bind (cond (a0.c == a1.c)
    (Option.bind (cond ((a0.vs.length : Int) != (a1.vs.length : Int))
    (some false)
    (Option.bind (loopN (m31_l0 a0 a1) FUEL 0) (Sum.elim (fun (o6 : Unit) => some true) (fun o => some o)))) (fun (y3 : Bool) => some y3))
    (some false)) (fun (v1 : Bool) => some v1)

set_option maxRecDepth 100000 in
set_option maxHeartbeats 8000000 in
theorem m31_ok (a0 : Lvl) (a1 : Lvl) (r : Bool) (h0 : m31 a0 a1 = some r) : Fun Tryz.prog 31 [.agg (cE a0), .agg (cE a1)] (resOf [.one (dB r)]) := by
  unfold m31 at h0
  refine Fun.of_bodyM 9 17 Tryz.func31 rfl en_31 rfl (lb rfl) (fun S w => ?_)
  simp only [entry]
  refine XC.seq <| XC.region <| XL.put rfl rfl (lb rfl) (OpOK.box rfl) <| XL.put rfl rfl (lb rfl) (OpOK.box rfl) <| rA rfl rfl rfl <| XL.nil <| XQ.seq <| XC.seq ?_
  refine XC.joinR (fun (v1 : Bool) => ⟨[(4, .v (.one (dB v1)))], [(0, .cells 24 (cE a0)), (1, .cells 24 (cE a1))], [], 2, 17, []⟩) (fun (v1 : Bool) => (some v1) = some r) ?_ ?_
  ·
   refine bindK h0 (fun v_ h1 h0 => ?_)
   refine XC.region <| rR rfl rfl rfl (RO.fieldOwn fo_24_0 rfl) <| rR rfl rfl rfl (RO.loadOwn ag_3 rfl rfl rfl) <| rR rfl rfl rfl (RO.fieldOwn fo_24_0 rfl) <| rR rfl rfl rfl (RO.loadOwn ag_3 rfl rfl rfl) <| rR rfl rfl rfl (RO.binInt rfl rfl rfl) <| rM rfl rfl rfl ?_
   refine XL.case (d := 10) (c := (a0.c == a1.c)) rfl (fun c2 => ?_) (fun c2 => ?_)
   ·
    replace h1 := condT c2 h1
    refine rR rfl rfl rfl (RO.fieldOwn fo_24_1 rfl) <| rR rfl rfl rfl (RO.loadOwn ag_22 rfl rfl rfl) <| rR rfl rfl rfl (RO.fieldOwn fo_24_1 rfl) <| rR rfl rfl rfl (RO.loadOwn ag_22 rfl rfl rfl) ?_
    refine bindK h1 (fun y3 h2 h1 => ?_)
    have hc4 : CallM Tryz.prog 62 [.one (dS a0.vs), .one (dS a1.vs)] ⟨[(0, .cells 24 (cE a0)), (1, .cells 24 (cE a1))], [], 2⟩ (resOf [.one (dB y3)]) ⟨[(0, .cells 24 (cE a0)), (1, .cells 24 (cE a1))], [], 2⟩ := by
     refine CallM.of_bodyD ⟨[(4, .v (.one (dB y3)))], [(0, .cells 24 (cE a0)), (1, .cells 24 (cE a1))], [], 2, 26, []⟩ rfl rfl en_62 (lb rfl) rfl (RAs.tmp rfl .nil) (fun w0 M V0 Q hv2 hQ2 => ?_)
     simp only [entry]
     refine XC.seq <| XC.region <| rA rfl rfl rfl <| XL.nil <| XQ.seq <| XC.seq <| XC.seq <| XC.region <| rM rfl rfl rfl <| rR rfl rfl rfl (RO.lenE (α := LV) sl_22 rfl (.d _)) <| rM rfl rfl rfl <| rR rfl rfl rfl (RO.lenE (α := LV) sl_22 rfl (.d _)) <| rR rfl rfl rfl (RO.binInt rfl rfl rfl) <| XL.nil ?_
     refine XQ.seq ?_
     refine XC.cond (b := ((a0.vs.length : Int) != (a1.vs.length : Int))) rfl (fun c5 => ?_) (fun c5 => ?_)
     ·
      replace h2 := condT c5 h2
      refine XC.seq <| XC.region <| rA rfl rfl rfl <| XL.nil <| XQ.seq <| XC.ret ?_
      have e_ := Option.some.inj h2
      subst e_
      exact hQ2 _ _ _ (.inr rfl) rfl (stle (tR rfl tZ) (hR rfl (hR rfl hZ)) kZ rfl (Nat.le_trans hv2 (lb rfl)) rfl rfl rfl (bB rfl rfl (bB rfl rfl bZ)) rfl rfl)
     ·
      replace h2 := condF c5 h2
      refine XC.skip <| XQ.seq <| XC.seq <| XC.seq <| XC.region <| rM rfl rfl rfl <| rR rfl rfl rfl (RO.lenE (α := LV) sl_22 rfl (.d _)) <| rM rfl rfl rfl <| XL.nil <| XQ.seq <| XC.block ?_
      refine XC.joinX 0 (fun (o6 : Unit) => ⟨[], [(0, .cells 24 (cE a0)), (1, .cells 24 (cE a1))], [], 2, 26, []⟩) (fun (o6 : Unit) => (some true) = some y3) ?_ ?_
      ·
       refine bindK h2 (fun o7 hl3 h2 => ?_)
       refine XC.loopM (m31_l0 a0 a1) (fun s3 => ⟨[(0, .v (.one (dS a0.vs))), (1, .v (.one (dS a1.vs))), (12, .v (.one (dI (a0.vs.length : Int)))), (13, .v (.one (dI s3)))], [(0, .cells 24 (cE a0)), (1, .cells 24 (cE a1))], [], 2, 26, []⟩) 0 o7 (stle (tR rfl (tR rfl (tR rfl (tR rfl tZ)))) (hR rfl (hR rfl hZ)) kZ rfl (Nat.le_trans hv2 (lb rfl)) rfl rfl rfl (bB rfl rfl (bB rfl rfl bZ)) rfl rfl) hl3 (fun s3 n3 oo3 h3 ho3 => ?_)
       unfold m31_l0 at h3
       refine XC.seq <| XC.region <| rR rfl rfl rfl (RO.binInt rfl rfl rfl) <| XL.nil <| XQ.seq <| XC.seq ?_
       refine XC.cond (b := (decide (s3 < (a0.vs.length : Int)))) rfl (fun c8 => ?_) (fun c8 => ?_)
       ·
        replace h3 := condT c8 h3
        refine XC.skip <| XQ.seq <| XC.seq <| XC.block <| XC.seq <| XC.region <| rM rfl rfl rfl <| rA rfl rfl rfl <| XL.nil <| XQ.seq <| XC.seq ?_
        refine XC.anyRun [] [] mixed (by kernel_rfl) (by kernel_rfl) (by kernel_rfl) ?_
        refine RunA.rd rfl rfl rfl (OpOK.of_ro (RO.move rfl)) rfl <| RunA.rd rfl rfl rfl (OpOK.of_ro (RO.move rfl)) rfl ?_
        refine bindK h3 (fun x9 hx9 h3 => ?_)
        refine RunA.rd rfl rfl rfl (OpOK.of_ro (RO.indexE (α := LV) sl_22 rfl (.d _) rfl hx9)) rfl <| RunA.rd rfl rfl rfl (OpOK.of_ro (RO.loadPelAgg ag_69 rfl rfl rfl)) rfl <| RunA.rd rfl rfl rfl (OpOK.of_ro (RO.move rfl)) rfl <| RunA.rd rfl rfl rfl (OpOK.of_ro (RO.move rfl)) rfl ?_
        refine bindK h3 (fun x10 hx10 h3 => ?_)
        refine RunA.rd rfl rfl rfl (OpOK.of_ro (RO.indexE (α := LV) sl_22 rfl (.d _) rfl hx10)) rfl <| RunA.rd rfl rfl rfl (OpOK.of_ro (RO.loadPelAgg ag_69 rfl rfl rfl)) rfl <| RunA.rd rfl rfl rfl (OpOK.of_ro (RO.neqPair ip_69 rfl rfl)) rfl ?_
        refine RunA.nil ⟨?ex, _, _, rfl, ?_⟩
        case ex => exact trivial
        refine XQ.less (st' := ⟨[(0, .v (.one (dS a0.vs))), (1, .v (.one (dS a1.vs))), (12, .v (.one (dI (a0.vs.length : Int)))), (13, .v (.one (dI s3))), (24, .v (.one (dB (!((x9.1 == x10.1) && (x9.2 == x10.2))))))], [(0, .cells 24 (cE a0)), (1, .cells 24 (cE a1))], [], 2, 26, []⟩) (stle (tR rfl (tR rfl (tR rfl (tR rfl (tR rfl tZ))))) (hR rfl (hR rfl hZ)) kZ rfl (Nat.le_trans hv2 (lb rfl)) rfl rfl rfl (bB rfl rfl (bB rfl rfl bZ)) rfl rfl) <| XQ.seq ?_
        refine XC.cond (b := (!((x9.1 == x10.1) && (x9.2 == x10.2)))) rfl (fun c11 => ?_) (fun c11 => ?_)
        ·
         replace h3 := condT c11 h3
         refine XC.seq <| XC.region <| rA rfl rfl rfl <| XL.nil <| XQ.seq <| XC.ret ?_
         have e_ := Option.some.inj h3
         subst e_
         have e_ : _ = _ := ho3
         subst e_
         try dsimp only [Sum.elim_inl, Sum.elim_inr] at h2
         have e_ := Option.some.inj h2
         subst e_
         exact hQ2 _ _ _ (.inr rfl) rfl (stle (tR rfl tZ) (hR rfl (hR rfl hZ)) kZ rfl (Nat.le_trans hv2 (lb rfl)) rfl rfl rfl (bB rfl rfl (bB rfl rfl bZ)) rfl rfl)
        ·
         replace h3 := condF c11 h3
         refine XC.skip <| XQ.inBlock <| XQ.seq <| XC.region <| rR rfl rfl rfl (RO.binInt rfl rfl rfl) <| rM rfl rfl rfl <| XL.nil ?_
         have e_ := Option.some.inj h3
         subst e_
         refine XQ.nextM (w64 (s3 + 1)) (stle (tR rfl (tR rfl (tR rfl (tR rfl tZ)))) (hR rfl (hR rfl hZ)) kZ rfl (Nat.le_trans hv2 (lb rfl)) rfl rfl rfl (bB rfl rfl (bB rfl rfl bZ)) rfl rfl) ho3
       ·
        replace h3 := condF c8 h3
        refine XC.exit <| XQ.thenE <| XQ.thenE ?_
        have e_ := Option.some.inj h3
        subst e_
        have e_ : _ = _ := ho3
        subst e_
        exact XQ.joinX () (stle tZ (hR rfl (hR rfl hZ)) kZ rfl (Nat.le_trans hv2 (lb rfl)) rfl rfl rfl (bB rfl rfl (bB rfl rfl bZ)) rfl rfl) h2
      ·
       intro o6 h2
       refine XQ.blockX <| XQ.seq <| XC.seq <| XC.region <| rA rfl rfl rfl <| XL.nil <| XQ.seq <| XC.ret ?_
       have e_ := Option.some.inj h2
       subst e_
       exact hQ2 _ _ _ (.inr rfl) rfl (stle (tR rfl tZ) (hR rfl (hR rfl hZ)) kZ rfl (Nat.le_trans hv2 (lb rfl)) rfl rfl rfl (bB rfl rfl (bB rfl rfl bZ)) rfl rfl)
    refine XL.put rfl rfl (lb rfl) (OpOK.callW rfl rfl rfl hc4 rfl (hR rfl (hR rfl hZ)) kZ) <| rR rfl rfl rfl (RO.pickT rfl rfl) <| rA rfl rfl rfl <| XL.nil ?_
    have e_ := Option.some.inj h1
    subst e_
    exact XQ.joinR y3 (stle (tR rfl tZ) (hR rfl (hR rfl hZ)) kZ rfl (Nat.zero_le _) rfl rfl rfl (bB rfl rfl (bB rfl rfl bZ)) rfl rfl) h0
   ·
    replace h1 := condF c2 h1
    refine XL.no rfl rfl <| XL.no rfl rfl <| XL.no rfl rfl <| XL.no rfl rfl <| XL.no rfl rfl <| rR rfl rfl rfl (RO.pickF rfl rfl) <| rA rfl rfl rfl <| XL.nil ?_
    have e_ := Option.some.inj h1
    subst e_
    exact XQ.joinR false (stle (tR rfl tZ) (hR rfl (hR rfl hZ)) kZ rfl (Nat.zero_le _) rfl rfl rfl (bB rfl rfl (bB rfl rfl bZ)) rfl rfl) h0
  ·
   intro v1 h0
   refine XQ.seq <| XC.ret ?_
   have e_ := Option.some.inj h0
   subst e_
   exact XQ.retF (fun _ _ h => h) rfl (RAs.tmp rfl .nil) (.cons (.one (.d _)) .nil)
end Go.Proofs.YtcapifnaceegmaaGreatDoor
