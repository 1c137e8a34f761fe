/- Mirrors of layer 2: the first metavariable. -/
import Derived.Test.YtkimijmiphkddaaMt
namespace Go.Proofs.Ytkimijmiphkddaa
open Go.RowKit Go.Shelf
set_option linter.unusedSimpArgs false
set_option linter.unusedVariables false

theorem en_43 : Enters Try.prog 43 := enters_of Try.func43 (by kernel_rfl) rfl
def m43_l0 (a0 : Lvl) (s1 : Int × Int × Int) : Option (LO (Int × Int × Int) ((Int × Int))) :=
  cond (decide (s1.2.2 < (a0.vs.length : Int)))
    (Option.bind (idx a0.vs s1.2.2) fun (x3 : LV) =>
  Option.bind (cond (decide (x3.1 < 0))
    (cond (decide (s1.1 < 0))
    (some true)
    (some (decide ((w64 ((-1) - x3.1)) < s1.1))))
    (some false)) (fun (v4 : Bool) => cond v4
    (some (.next ((w64 ((-1) - x3.1)), x3.2, (w64 (s1.2.2 + 1)))))
    (some (.next (s1.1, s1.2.1, (w64 (s1.2.2 + 1)))))))
    (some (.done (s1.1, s1.2.1)))

/-- euclid/euclidref02.first -/
def m43 (a0 : Lvl) : Option (Int × Int) :=
  Option.bind (loopN (m43_l0 a0) FUEL ((-1), 0, 0)) (fun (o1 : Int × Int) => some (o1.1, o1.2))

set_option maxRecDepth 100000 in
set_option maxHeartbeats 8000000 in
theorem m43_ok (a0 : Lvl) (r : Int × Int) (h0 : m43 a0 = some r) : Fun Try.prog 43 [.agg (cE a0)] (resOf [.one (dI r.1), .one (dI r.2)]) := by
  unfold m43 at h0
  refine Fun.of_bodyM 9 41 Try.func43 rfl en_43 rfl (lb rfl) (fun S w => ?_)
  simp only [entry]
  refine XC.seq <| XC.region <| XL.put rfl rfl (lb rfl) (OpOK.box rfl) <| rA rfl rfl rfl <| rA rfl rfl rfl <| XL.nil <| XQ.seq <| XC.seq <| XC.region <| rA rfl rfl rfl <| rA rfl rfl rfl <| XL.nil <| XQ.seq <| XC.seq ?_
  refine XC.seq <| XC.region <| rA rfl rfl rfl <| XL.nil <| XQ.seq <| XC.block ?_
  refine XC.joinX 0 (fun (o1 : Int × Int) => ⟨[(4, .v (.one (dI o1.1))), (5, .v (.one (dI o1.2)))], [(0, .cells 39 (cE a0))], [], 1, 41, []⟩) (fun (o1 : Int × Int) => (some (o1.1, o1.2)) = some r) ?_ ?_
  ·
   refine bindK h0 (fun o2 hl1 h0 => ?_)
   refine XC.loopM (m43_l0 a0) (fun s1 => ⟨[(1, .v (.one (.ptr 0 0))), (4, .v (.one (dI s1.1))), (5, .v (.one (dI s1.2.1))), (6, .v (.one (dI s1.2.2)))], [(0, .cells 39 (cE a0))], [], 1, 41, []⟩) ((-1), 0, 0) o2 (stle (tR rfl (tR rfl (tR rfl (tR rfl tZ)))) (hR rfl hZ) kZ rfl (Nat.zero_le _) rfl rfl rfl (bB rfl rfl bZ) rfl rfl) hl1 (fun s1 n1 oo1 h1 ho1 => ?_)
   unfold m43_l0 at h1
   refine XC.seq <| XC.seq <| XC.region <| rM rfl rfl rfl <| rR rfl rfl rfl (RO.fieldOwn fo_39_1 rfl) <| rR rfl rfl rfl (RO.loadOwn ag_37 rfl rfl rfl) <| rR rfl rfl rfl (RO.lenE (α := LV) sl_37 rfl (.d _)) <| rR rfl rfl rfl (RO.binInt rfl rfl rfl) <| XL.nil <| XQ.seq ?_
   refine XC.cond (b := (decide (s1.2.2 < (a0.vs.length : Int)))) rfl (fun c3 => ?_) (fun c3 => ?_)
   ·
    replace h1 := condT c3 h1
    refine XC.skip <| XQ.seq <| XC.seq <| XC.block <| XC.seq <| XC.region <| rR rfl rfl rfl (RO.fieldOwn fo_39_1 rfl) <| rR rfl rfl rfl (RO.loadOwn ag_37 rfl rfl rfl) <| rM rfl rfl rfl ?_
    refine bindK h1 (fun x4 hx4 h1 => ?_)
    refine rR rfl rfl rfl (RO.indexE (α := LV) sl_37 rfl (.d _) rfl hx4) <| rR rfl rfl rfl (RO.loadPelAgg ag_59 rfl rfl rfl) <| XL.put rfl rfl (lb rfl) (OpOK.alloc z_59 rfl) <| XL.eff rfl rfl (OpOK.store ag_59 rfl rfl rfl rfl (lb rfl) rfl) <| XL.nil <| XQ.seq <| XC.seq ?_
    refine XC.joinR (fun (v5 : Bool) => ⟨[(1, .v (.one (.ptr 0 0))), (4, .v (.one (dI s1.1))), (5, .v (.one (dI s1.2.1))), (6, .v (.one (dI s1.2.2))), (7, .v (.one (.ptr 1 0))), (33, .v (.one (dB v5)))], [(0, .cells 39 (cE a0)), (1, .cells 59 (cE x4))], [], 2, 41, []⟩) (fun (v5 : Bool) => (cond v5
        (some (.next ((w64 ((-1) - x4.1)), x4.2, (w64 (s1.2.2 + 1)))))
        (some (.next (s1.1, s1.2.1, (w64 (s1.2.2 + 1)))))) = some oo1) ?_ ?_
    ·
     refine bindK h1 (fun v_ h2 h1 => ?_)
     refine XC.region <| rR rfl rfl rfl (RO.fieldOwn fo_59_0 rfl) <| rR rfl rfl rfl (RO.loadOwn ag_3 rfl rfl rfl) <| rR rfl rfl rfl (RO.binInt rfl rfl rfl) <| rM rfl rfl rfl ?_
     refine XL.case (d := 23) (c := (decide (x4.1 < 0))) rfl (fun c6 => ?_) (fun c6 => ?_)
     ·
      replace h2 := condT c6 h2
      refine rM rfl rfl rfl <| rR rfl rfl rfl (RO.binInt rfl rfl rfl) <| rM rfl rfl rfl ?_
      refine XL.case (d := 26) (c := (decide (s1.1 < 0))) rfl (fun c7 => ?_) (fun c7 => ?_)
      ·
       replace h2 := condT c7 h2
       refine XL.no rfl rfl <| XL.no rfl rfl <| XL.no rfl rfl <| XL.no rfl rfl <| XL.no rfl rfl <| rR rfl rfl rfl (RO.pickT rfl rfl) <| rR rfl rfl rfl (RO.pickT rfl rfl) <| XL.nil ?_
       have e_ := Option.some.inj h2
       subst e_
       exact XQ.joinR true (stle (tR rfl (tR rfl (tR rfl (tR rfl (tR rfl (tR rfl tZ)))))) (hR rfl (hR rfl hZ)) kZ rfl (Nat.zero_le _) rfl rfl rfl (bB rfl rfl (bB rfl rfl bZ)) rfl rfl) h1
      ·
       replace h2 := condF c7 h2
       refine rR rfl rfl rfl (RO.fieldOwn fo_59_0 rfl) <| rR rfl rfl rfl (RO.loadOwn ag_3 rfl rfl rfl) <| rR rfl rfl rfl (RO.binInt rfl rfl rfl) <| rM rfl rfl rfl <| rR rfl rfl rfl (RO.binInt rfl rfl rfl) <| rR rfl rfl rfl (RO.pickF rfl rfl) <| rR rfl rfl rfl (RO.pickT rfl rfl) <| XL.nil ?_
       have e_ := Option.some.inj h2
       subst e_
       exact XQ.joinR (decide ((w64 ((-1) - x4.1)) < s1.1)) (stle (tR rfl (tR rfl (tR rfl (tR rfl (tR rfl (tR rfl tZ)))))) (hR rfl (hR rfl hZ)) kZ rfl (Nat.zero_le _) rfl rfl rfl (bB rfl rfl (bB rfl rfl bZ)) rfl rfl) h1
     ·
      replace h2 := condF c6 h2
      refine XL.no rfl rfl <| XL.no rfl rfl <| XL.no rfl rfl <| XL.no rfl rfl <| XL.no rfl rfl <| XL.no rfl rfl <| XL.no rfl rfl <| XL.no rfl rfl <| XL.no rfl rfl <| rR rfl rfl rfl (RO.pickF rfl rfl) <| XL.nil ?_
      have e_ := Option.some.inj h2
      subst e_
      exact XQ.joinR false (stle (tR rfl (tR rfl (tR rfl (tR rfl (tR rfl (tR rfl tZ)))))) (hR rfl (hR rfl hZ)) kZ rfl (Nat.zero_le _) rfl rfl rfl (bB rfl rfl (bB rfl rfl bZ)) rfl rfl) h1
    ·
     intro v5 h1
     refine XQ.seq ?_
     refine XC.cond (b := v5) rfl (fun c8 => ?_) (fun c8 => ?_)
     ·
      replace h1 := condT c8 h1
      refine XC.anyRun [] [] mixed (by kernel_rfl) (by kernel_rfl) (by kernel_rfl) ?_
      refine RunA.rd rfl rfl rfl (OpOK.of_ro (RO.fieldOwn fo_59_0 rfl)) rfl <| RunA.rd rfl rfl rfl (OpOK.of_ro (RO.loadOwn ag_3 rfl rfl rfl)) rfl <| RunA.rd rfl rfl rfl (OpOK.of_ro (RO.binInt rfl rfl rfl)) rfl <| RunA.rd rfl rfl rfl (OpOK.of_ro (RO.fieldOwn fo_59_1 rfl)) rfl <| RunA.rd rfl rfl rfl (OpOK.of_ro (RO.loadOwn ag_3 rfl rfl rfl)) rfl <| RunA.rd rfl rfl rfl (OpOK.of_ro (RO.assign rfl)) rfl <| RunA.rd rfl rfl rfl (OpOK.of_ro (RO.assign rfl)) rfl ?_
      refine RunA.nil ⟨?ex, _, _, rfl, ?_⟩
      case ex => exact trivial
      refine XQ.less (st' := ⟨[(1, .v (.one (.ptr 0 0))), (4, .v (.one (dI (w64 ((-1) - x4.1))))), (5, .v (.one (dI x4.2))), (6, .v (.one (dI s1.2.2)))], [(0, .cells 39 (cE a0)), (1, .cells 59 (cE x4))], [], 2, 41, []⟩) (stle (tR rfl (tR rfl (tR rfl (tR rfl tZ)))) (hR rfl (hR rfl hZ)) kZ rfl (Nat.zero_le _) rfl rfl rfl (bB rfl rfl (bB rfl rfl bZ)) rfl rfl) <| XQ.inBlock <| XQ.seq <| XC.region <| rM rfl rfl rfl <| rR rfl rfl rfl (RO.binInt rfl rfl rfl) <| rA rfl rfl rfl <| XL.nil ?_
      have e_ := Option.some.inj h1
      subst e_
      refine XQ.nextM ((w64 ((-1) - x4.1)), x4.2, (w64 (s1.2.2 + 1))) (stle (tR rfl (tR rfl (tR rfl (tR rfl tZ)))) (hR rfl hZ) kZ rfl (Nat.zero_le _) rfl rfl rfl (bB rfl rfl bZ) rfl rfl) ho1
     ·
      replace h1 := condF c8 h1
      refine XC.skip <| XQ.inBlock <| XQ.seq <| XC.region <| rM rfl rfl rfl <| rR rfl rfl rfl (RO.binInt rfl rfl rfl) <| rA rfl rfl rfl <| XL.nil ?_
      have e_ := Option.some.inj h1
      subst e_
      refine XQ.nextM (s1.1, s1.2.1, (w64 (s1.2.2 + 1))) (stle (tR rfl (tR rfl (tR rfl (tR rfl tZ)))) (hR rfl hZ) kZ rfl (Nat.zero_le _) rfl rfl rfl (bB rfl rfl bZ) rfl rfl) ho1
   ·
    replace h1 := condF c3 h1
    refine XC.exit <| XQ.thenE <| XQ.thenE ?_
    have e_ := Option.some.inj h1
    subst e_
    have e_ : _ = _ := ho1
    subst e_
    exact XQ.joinX (s1.1, s1.2.1) (stle (tR rfl (tR rfl tZ)) (hR rfl hZ) kZ rfl (Nat.zero_le _) rfl rfl rfl (bB rfl rfl bZ) rfl rfl) h0
  ·
   intro o1 h0
   refine XQ.blockX <| XQ.seq <| XC.seq <| XC.region <| rM rfl rfl rfl <| rM rfl rfl rfl <| rA rfl rfl rfl <| rA rfl rfl rfl <| XL.nil <| XQ.seq <| XC.ret ?_
   have e_ := Option.some.inj h0
   subst e_
   exact XQ.retF (fun _ _ h => h) rfl (RAs.tmp rfl (RAs.tmp rfl .nil)) (.cons (.one (.d _)) (.cons (.one (.d _)) .nil))
end Go.Proofs.Ytkimijmiphkddaa
