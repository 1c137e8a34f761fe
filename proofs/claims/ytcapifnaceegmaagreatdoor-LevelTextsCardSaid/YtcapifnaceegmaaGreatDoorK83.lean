/- Part 3 of the proof: rules, mirrors and plain laws. The card of LevelTexts is proved here: for every level the law returns true, and the arguments read behind the call as they did before; condition: the listed package-level variables hold what the program's text lays (tied). -/
import Derived.Test.YtcapifnaceegmaaGreatDoorK82
import Derived.Shelf.SlIterI.Sorted
import Derived.Shelf.SlIterI.Collect
import Derived.Shelf.SortM.Plain
import Derived.Shelf.SortM.SortNone
import Derived.Shelf.Strings.Trim
import Derived.Shelf.Small.Wraps
import Derived.Shelf.Strings.OnBuilder
import Derived.Shelf.Strconv.Atoi
import Derived.Shelf.Strconv.Itoa3
import Derived.Ground.NamesProg
import Derived.Ground.GgzProg
import Derived.Ground.SlgmProg
import Derived.Test.YtcapifnaceegmaaGreatDoorProg
import Derived.Lib.Bytes
import Derived.Laws.BytesArg
import Derived.Lib.AtoiErrMem
import Derived.Shelf.Abstract
namespace Go.Proofs.YtcapifnaceegmaaGreatDoor
open Go.RowKit Go.Shelf
set_option linter.unusedSimpArgs false
set_option linter.unusedVariables false
theorem ip_69 : isPairTy Tryz.prog 69 = true := by kernel_rfl
theorem en_13 : Enters Tryz.prog 13 := enters_of Tryz.func13 (by kernel_rfl) rfl
theorem en_15 : Enters Tryz.prog 15 := enters_of Tryz.func15 (by kernel_rfl) rfl
theorem en_17 : Enters Tryz.prog 17 := enters_of Tryz.func17 (by kernel_rfl) rfl
theorem en_21 : Enters Tryz.prog 21 := enters_of Tryz.func21 (by kernel_rfl) rfl
theorem en_46 : Enters Tryz.prog 46 := enters_of Tryz.func46 (by kernel_rfl) rfl
def m13_l0 (a0 : List Lvl) (s3 : Int) : Option (LO Int (Unit ⊕ Int)) :=
  cond (decide (s3 < (a0.length : Int)))
    (Option.bind (idx a0 s3) fun (x7 : Lvl) =>
  Option.bind (some ()) (fun (y8 : Unit) => cond (decide (12 < (x7.vs.length : Int)))
    (some (.done (.inr s3)))
    (some (.next (w64 (s3 + 1))))))
    (some (.done (.inl ())))
def m13 (a0 : List Lvl) : Option Bool :=
  Option.bind (Option.bind (Option.bind (loopN (m13_l0 a0) FUEL 0) (Sum.elim (fun (o5 : Unit) => some (-1)) (fun o => some o))) (fun (y3 : Int) => some (decide (0 ≤ y3)))) (fun (y1 : Bool) => some (!y1))
set_option maxRecDepth 100000 in
set_option maxHeartbeats 8000000 in
theorem m13_ok (a0 : List Lvl) (r : Bool) (h0 : m13 a0 = some r) : Fun Tryz.prog 13 [.one (dS a0)] (resOf [.one (dB r)]) := by
  unfold m13 at h0
  refine Fun.of_bodyM 9 6 Tryz.func13 rfl en_13 rfl (lb rfl) (fun S w => ?_)
  simp only [entry]
  refine XC.seq <| XC.region <| rA rfl rfl rfl <| XL.nil <| XQ.seq <| XC.seq <| XC.region <| rM rfl rfl rfl ?_
  refine bindK h0 (fun y1 h1 h0 => ?_)
  have hc2 : CallM Tryz.prog 45 [.one (dS a0), .one (.fn 46 [])] ⟨[], [], 0⟩ (resOf [.one (dB y1)]) ⟨[], [], 0⟩ := by
   refine CallM.of_bodyD ⟨[(4, .v (.one (dB y1)))], [], [], 0, 9, []⟩ rfl rfl en_45 (lb rfl) rfl (RAs.tmp rfl .nil) (fun w0 M V0 Q hv1 hQ1 => ?_)
   simp only [entry]
   refine XC.seq <| XC.region <| rA rfl rfl rfl <| XL.nil <| XQ.seq <| XC.seq <| XC.region <| rM rfl rfl rfl <| rM rfl rfl rfl ?_
   refine bindK h1 (fun y3 h2 h1 => ?_)
   have hc4 : CallM Tryz.prog 76 [.one (dS a0), .one (.fn 46 [])] ⟨[], [], 0⟩ (resOf [.one (dI y3)]) ⟨[], [], 0⟩ := by
    refine CallM.of_bodyD ⟨[(4, .v (.one (dI y3)))], [], [], 0, 19, []⟩ rfl rfl en_76 (lb rfl) rfl (RAs.tmp rfl .nil) (fun w0 M V0 Q hv2 hQ2 => ?_)
    simp only [entry]
    refine XC.seq <| XC.region <| rA rfl rfl rfl <| XL.nil <| XQ.seq <| XC.seq <| XC.seq <| XC.region <| rM rfl rfl rfl <| rR rfl rfl rfl (RO.lenE (α := Lvl) sl_55 rfl (.d _)) <| rM rfl rfl rfl <| XL.nil <| XQ.seq <| XC.block ?_
    refine XC.joinX 0 (fun (o5 : Unit) => ⟨[], [], [], 0, 19, []⟩) (fun (o5 : Unit) => (some (-1)) = some y3) ?_ ?_
    ·
     refine bindK h2 (fun o6 hl3 h2 => ?_)
     refine XC.loopM (m13_l0 a0) (fun s3 => ⟨[(0, .v (.one (dS a0))), (1, .v (.one (.fn 46 []))), (7, .v (.one (dI (a0.length : Int)))), (8, .v (.one (dI s3)))], [], [], 0, 19, []⟩) 0 o6 (stle (tR rfl (tR rfl (tR rfl (tR rfl tZ)))) hZ kZ rfl (Nat.le_trans hv2 (lb rfl)) rfl rfl rfl bZ rfl rfl) hl3 (fun s3 n3 oo3 h3 ho3 => ?_)
     unfold m13_l0 at h3
     refine XC.seq <| XC.region <| rR rfl rfl rfl (RO.binInt rfl rfl rfl) <| XL.nil <| XQ.seq <| XC.seq ?_
     refine XC.cond (b := (decide (s3 < (a0.length : Int)))) rfl (fun c7 => ?_) (fun c7 => ?_)
     ·
      replace h3 := condT c7 h3
      refine XC.skip <| XQ.seq <| XC.seq <| XC.block <| XC.seq <| XC.region <| rM rfl rfl rfl <| rA rfl rfl rfl <| XL.nil <| XQ.seq <| XC.seq <| XC.region <| rM rfl rfl rfl <| rM rfl rfl rfl ?_
      refine rM rfl rfl rfl ?_
      refine bindK h3 (fun x8 hx8 h3 => ?_)
      refine rR rfl rfl rfl (RO.indexE (α := Lvl) sl_55 rfl (.d _) rfl hx8) <| rR rfl rfl rfl (RO.loadPelAgg ag_24 rfl rfl rfl) ?_
      refine bindK h3 (fun y9 h4 h3 => ?_)
      have hc10 : CallM Tryz.prog 46 [.agg (cE x8)] ⟨[], [], 0⟩ (resOf [.one (dB (decide (12 < (x8.vs.length : Int))))]) ⟨[], [], 1⟩ := by
       refine CallM.of_bodyD ⟨[(2, .v (.one (dB (decide (12 < (x8.vs.length : Int))))))], [], [], 1, 7, []⟩ rfl rfl en_46 (lb rfl) rfl (RAs.tmp rfl .nil) (fun w0 M V0 Q hv4 hQ4 => ?_)
       simp only [entry]
       refine XC.seq <| XC.region <| XL.put rfl rfl (lb rfl) (OpOK.box rfl) <| rA rfl rfl rfl <| XL.nil <| XQ.seq <| XC.seq <| XC.region <| rR rfl rfl rfl (RO.fieldOwn fo_24_1 rfl) <| rR rfl rfl rfl (RO.loadOwn ag_22 rfl rfl rfl) <| rR rfl rfl rfl (RO.lenE (α := LV) sl_22 rfl (.d _)) <| rR rfl rfl rfl (RO.binInt rfl rfl rfl) <| rA rfl rfl rfl <| XL.nil ?_
       refine XQ.seq <| XC.ret ?_
       have e_ := Option.some.inj h4
       subst e_
       exact hQ4 _ _ _ (.inr rfl) rfl (stle (tR rfl tZ) hZ kZ rfl (Nat.le_trans hv4 (lb rfl)) rfl rfl rfl bZ rfl rfl)
      refine XL.put rfl rfl (lb rfl) (OpOK.callW rfl rfl rfl hc10 rfl hZ kZ) <| XL.nil <| XQ.seq ?_
      refine XC.cond (b := (decide (12 < (x8.vs.length : Int)))) rfl (fun c11 => ?_) (fun c11 => ?_)
      ·
       replace h3 := condT c11 h3
       refine XC.seq <| XC.region <| rM rfl rfl rfl <| rA rfl rfl rfl <| XL.nil <| XQ.seq <| XC.ret ?_
       have e_ := Option.some.inj h3
       subst e_
       have e_ : _ = _ := ho3
       subst e_
       try dsimp only [Sum.elim_inl, Sum.elim_inr] at h2
       have e_ := Option.some.inj h2
       subst e_
       exact hQ2 _ _ _ (.inr rfl) rfl (stle (tR rfl tZ) hZ kZ rfl (Nat.le_trans hv2 (lb rfl)) rfl rfl rfl bZ rfl rfl)
      ·
       replace h3 := condF c11 h3
       refine XC.skip <| XQ.inBlock <| XQ.seq <| XC.region <| rR rfl rfl rfl (RO.binInt rfl rfl rfl) <| rM rfl rfl rfl <| XL.nil ?_
       have e_ := Option.some.inj h3
       subst e_
       refine XQ.nextM (w64 (s3 + 1)) (stle (tR rfl (tR rfl (tR rfl (tR rfl tZ)))) hZ kZ rfl (Nat.le_trans hv2 (lb rfl)) rfl rfl rfl bZ rfl rfl) ho3
     ·
      replace h3 := condF c7 h3
      refine XC.exit <| XQ.thenE <| XQ.thenE ?_
      have e_ := Option.some.inj h3
      subst e_
      have e_ : _ = _ := ho3
      subst e_
      exact XQ.joinX () (stle tZ hZ kZ rfl (Nat.le_trans hv2 (lb rfl)) rfl rfl rfl bZ rfl rfl) h2
    ·
     intro o5 h2
     refine XQ.blockX <| XQ.seq <| XC.seq <| XC.region <| rA rfl rfl rfl <| XL.nil <| XQ.seq <| XC.ret ?_
     have e_ := Option.some.inj h2
     subst e_
     exact hQ2 _ _ _ (.inr rfl) rfl (stle (tR rfl tZ) hZ kZ rfl (Nat.le_trans hv2 (lb rfl)) rfl rfl rfl bZ rfl rfl)
   refine XL.put rfl rfl (lb rfl) (OpOK.callW rfl rfl rfl hc4 rfl hZ kZ) <| rR rfl rfl rfl (RO.binInt rfl rfl rfl) <| rA rfl rfl rfl <| XL.nil <| XQ.seq <| XC.ret ?_
   have e_ := Option.some.inj h1
   subst e_
   exact hQ1 _ _ _ (.inr rfl) rfl (stle (tR rfl tZ) hZ kZ rfl (Nat.le_trans hv1 (lb rfl)) rfl rfl rfl bZ rfl rfl)
  refine XL.put rfl rfl (lb rfl) (OpOK.callW rfl rfl rfl hc2 rfl hZ kZ) <| rR rfl rfl rfl (RO.not rfl) <| rA rfl rfl rfl <| XL.nil <| XQ.seq <| XC.ret ?_
  have e_ := Option.some.inj h0
  subst e_
  exact XQ.retF (fun _ _ h => h) rfl (RAs.tmp rfl .nil) (.cons (.one (.d _)) .nil)
def m21_l0 (a0 : Lvl) (a1 : Lvl) (s1 : Int) : Option (LO Int (Unit ⊕ Bool)) :=
  cond (decide (s1 < (a0.vs.length : Int)))
    (Option.bind (idx a0.vs s1) fun (x5 : LV) =>
  Option.bind (idx a1.vs s1) fun (x6 : LV) =>
  cond (!((x5.1 == x6.1) && (x5.2 == x6.2)))
    (some (.done (.inr false)))
    (some (.next (w64 (s1 + 1)))))
    (some (.done (.inl ())))
def m21 (a0 : Lvl) (a1 : Lvl) : Option Bool :=
  Option.bind (cond (a0.c != a1.c)
    (some true)
    (some ((a0.vs.length : Int) != (a1.vs.length : Int)))) (fun (v1 : Bool) => cond v1
    (some false)
    (Option.bind (loopN (m21_l0 a0 a1) FUEL 0) (Sum.elim (fun (o3 : Unit) => some true) (fun o => some o))))
set_option maxRecDepth 100000 in
set_option maxHeartbeats 8000000 in
theorem m21_ok (a0 : Lvl) (a1 : Lvl) (r : Bool) (h0 : m21 a0 a1 = some r) : Fun Tryz.prog 21 [.agg (cE a0), .agg (cE a1)] (resOf [.one (dB r)]) := by
  unfold m21 at h0
  refine Fun.of_bodyM 9 38 Tryz.func21 rfl en_21 rfl (lb rfl) (fun S w => ?_)
  simp only [entry]
  refine XC.seq <| XC.region <| XL.put rfl rfl (lb rfl) (OpOK.box rfl) <| XL.put rfl rfl (lb rfl) (OpOK.box rfl) <| rA rfl rfl rfl <| XL.nil <| XQ.seq <| XC.seq <| XC.seq ?_
  refine XC.joinR (fun (v1 : Bool) => ⟨[(2, .v (.one (.ptr 0 0))), (3, .v (.one (.ptr 1 0))), (19, .v (.one (dB v1)))], [(0, .cells 24 (cE a0)), (1, .cells 24 (cE a1))], [], 2, 38, []⟩) (fun (v1 : Bool) => (cond v1
      (some false)
      (Option.bind (loopN (m21_l0 a0 a1) FUEL 0) (Sum.elim (fun (o3 : Unit) => some true) (fun o => some o)))) = some r) ?_ ?_
  ·
   refine bindK h0 (fun v_ h1 h0 => ?_)
   refine XC.region <| rR rfl rfl rfl (RO.fieldOwn fo_24_0 rfl) <| rR rfl rfl rfl (RO.loadOwn ag_3 rfl rfl rfl) <| rR rfl rfl rfl (RO.fieldOwn fo_24_0 rfl) <| rR rfl rfl rfl (RO.loadOwn ag_3 rfl rfl rfl) <| rR rfl rfl rfl (RO.binInt rfl rfl rfl) <| rM rfl rfl rfl ?_
   refine XL.case (d := 11) (c := (a0.c != a1.c)) rfl (fun c2 => ?_) (fun c2 => ?_)
   ·
    replace h1 := condT c2 h1
    refine XL.no rfl rfl <| XL.no rfl rfl <| XL.no rfl rfl <| XL.no rfl rfl <| XL.no rfl rfl <| XL.no rfl rfl <| XL.no rfl rfl <| rR rfl rfl rfl (RO.pickT rfl rfl) <| XL.nil ?_
    have e_ := Option.some.inj h1
    subst e_
    exact XQ.joinR true (stle (tR rfl (tR rfl (tR rfl tZ))) (hR rfl (hR rfl hZ)) kZ rfl (Nat.zero_le _) rfl rfl rfl (bB rfl rfl (bB rfl rfl bZ)) rfl rfl) h0
   ·
    replace h1 := condF c2 h1
    refine rR rfl rfl rfl (RO.fieldOwn fo_24_1 rfl) <| rR rfl rfl rfl (RO.loadOwn ag_22 rfl rfl rfl) <| rR rfl rfl rfl (RO.lenE (α := LV) sl_22 rfl (.d _)) <| rR rfl rfl rfl (RO.fieldOwn fo_24_1 rfl) <| rR rfl rfl rfl (RO.loadOwn ag_22 rfl rfl rfl) <| rR rfl rfl rfl (RO.lenE (α := LV) sl_22 rfl (.d _)) <| rR rfl rfl rfl (RO.binInt rfl rfl rfl) <| rR rfl rfl rfl (RO.pickF rfl rfl) <| XL.nil ?_
    have e_ := Option.some.inj h1
    subst e_
    exact XQ.joinR ((a0.vs.length : Int) != (a1.vs.length : Int)) (stle (tR rfl (tR rfl (tR rfl tZ))) (hR rfl (hR rfl hZ)) kZ rfl (Nat.zero_le _) rfl rfl rfl (bB rfl rfl (bB rfl rfl bZ)) rfl rfl) h0
  ·
   intro v1 h0
   refine XQ.seq ?_
   refine XC.cond (b := v1) rfl (fun c3 => ?_) (fun c3 => ?_)
   ·
    replace h0 := condT c3 h0
    refine XC.seq <| XC.region <| rA rfl rfl rfl <| XL.nil <| XQ.seq <| XC.ret ?_
    have e_ := Option.some.inj h0
    subst e_
    exact XQ.retF (fun _ _ h => h) rfl (RAs.tmp rfl .nil) (.cons (.one (.d _)) .nil)
   ·
    replace h0 := condF c3 h0
    refine XC.skip <| XQ.seq <| XC.seq <| XC.seq <| XC.region <| rA rfl rfl rfl <| XL.nil <| XQ.seq <| XC.block ?_
    refine XC.joinX 0 (fun (o4 : Unit) => ⟨[], [(0, .cells 24 (cE a0)), (1, .cells 24 (cE a1))], [], 2, 38, []⟩) (fun (o4 : Unit) => (some true) = some r) ?_ ?_
    ·
     refine bindK h0 (fun o5 hl1 h0 => ?_)
     refine XC.loopM (m21_l0 a0 a1) (fun s1 => ⟨[(2, .v (.one (.ptr 0 0))), (3, .v (.one (.ptr 1 0))), (5, .v (.one (dI s1)))], [(0, .cells 24 (cE a0)), (1, .cells 24 (cE a1))], [], 2, 38, []⟩) 0 o5 (stle (tR rfl (tR rfl (tR rfl tZ))) (hR rfl (hR rfl hZ)) kZ rfl (Nat.zero_le _) rfl rfl rfl (bB rfl rfl (bB rfl rfl bZ)) rfl rfl) hl1 (fun s1 n1 oo1 h1 ho1 => ?_)
     unfold m21_l0 at h1
     refine XC.seq <| XC.seq <| XC.region <| rM rfl rfl rfl <| rR rfl rfl rfl (RO.fieldOwn fo_24_1 rfl) <| rR rfl rfl rfl (RO.loadOwn ag_22 rfl rfl rfl) <| rR rfl rfl rfl (RO.lenE (α := LV) sl_22 rfl (.d _)) <| rR rfl rfl rfl (RO.binInt rfl rfl rfl) <| XL.nil <| XQ.seq ?_
     refine XC.cond (b := (decide (s1 < (a0.vs.length : Int)))) rfl (fun c6 => ?_) (fun c6 => ?_)
     ·
      replace h1 := condT c6 h1
      refine XC.skip <| XQ.seq <| XC.seq <| XC.block <| XC.seq ?_
      refine XC.anyRun [] [] mixed (by kernel_rfl) (by kernel_rfl) (by kernel_rfl) ?_
      refine RunA.rd rfl rfl rfl (OpOK.of_ro (RO.fieldOwn fo_24_1 rfl)) rfl <| RunA.rd rfl rfl rfl (OpOK.of_ro (RO.loadOwn ag_22 rfl rfl rfl)) rfl <| RunA.rd rfl rfl rfl (OpOK.of_ro (RO.move rfl)) rfl ?_
      refine bindK h1 (fun x7 hx7 h1 => ?_)
      refine RunA.rd rfl rfl rfl (OpOK.of_ro (RO.indexE (α := LV) sl_22 rfl (.d _) rfl hx7)) rfl <| RunA.rd rfl rfl rfl (OpOK.of_ro (RO.loadPelAgg ag_69 rfl rfl rfl)) rfl <| RunA.rd rfl rfl rfl (OpOK.of_ro (RO.fieldOwn fo_24_1 rfl)) rfl <| RunA.rd rfl rfl rfl (OpOK.of_ro (RO.loadOwn ag_22 rfl rfl rfl)) rfl <| RunA.rd rfl rfl rfl (OpOK.of_ro (RO.move rfl)) rfl ?_
      refine bindK h1 (fun x8 hx8 h1 => ?_)
      refine RunA.rd rfl rfl rfl (OpOK.of_ro (RO.indexE (α := LV) sl_22 rfl (.d _) rfl hx8)) rfl <| RunA.rd rfl rfl rfl (OpOK.of_ro (RO.loadPelAgg ag_69 rfl rfl rfl)) rfl <| RunA.rd rfl rfl rfl (OpOK.of_ro (RO.neqPair ip_69 rfl rfl)) rfl ?_
      refine RunA.nil ⟨?ex, _, _, rfl, ?_⟩
      case ex => exact trivial
      refine XQ.less (st' := ⟨[(2, .v (.one (.ptr 0 0))), (3, .v (.one (.ptr 1 0))), (5, .v (.one (dI s1))), (37, .v (.one (dB (!((x7.1 == x8.1) && (x7.2 == x8.2))))))], [(0, .cells 24 (cE a0)), (1, .cells 24 (cE a1))], [], 2, 38, []⟩) (stle (tR rfl (tR rfl (tR rfl (tR rfl tZ)))) (hR rfl (hR rfl hZ)) kZ rfl (Nat.zero_le _) rfl rfl rfl (bB rfl rfl (bB rfl rfl bZ)) rfl rfl) <| XQ.seq ?_
      refine XC.cond (b := (!((x7.1 == x8.1) && (x7.2 == x8.2)))) rfl (fun c9 => ?_) (fun c9 => ?_)
      ·
       replace h1 := condT c9 h1
       refine XC.seq <| XC.region <| rA rfl rfl rfl <| XL.nil <| XQ.seq <| XC.ret ?_
       have e_ := Option.some.inj h1
       subst e_
       have e_ : _ = _ := ho1
       subst e_
       try dsimp only [Sum.elim_inl, Sum.elim_inr] at h0
       have e_ := Option.some.inj h0
       subst e_
       exact XQ.retF (fun _ _ h => h) rfl (RAs.tmp rfl .nil) (.cons (.one (.d _)) .nil)
      ·
       replace h1 := condF c9 h1
       refine XC.skip <| XQ.inBlock <| XQ.seq <| XC.region <| rM rfl rfl rfl <| rR rfl rfl rfl (RO.binInt rfl rfl rfl) <| rA rfl rfl rfl <| XL.nil ?_
       have e_ := Option.some.inj h1
       subst e_
       refine XQ.nextM (w64 (s1 + 1)) (stle (tR rfl (tR rfl (tR rfl tZ))) (hR rfl (hR rfl hZ)) kZ rfl (Nat.zero_le _) rfl rfl rfl (bB rfl rfl (bB rfl rfl bZ)) rfl rfl) ho1
     ·
      replace h1 := condF c6 h1
      refine XC.exit <| XQ.thenE <| XQ.thenE ?_
      have e_ := Option.some.inj h1
      subst e_
      have e_ : _ = _ := ho1
      subst e_
      exact XQ.joinX () (stle tZ (hR rfl (hR rfl hZ)) kZ rfl (Nat.zero_le _) rfl rfl rfl (bB rfl rfl (bB rfl rfl bZ)) rfl rfl) h0
    ·
     intro o4 h0
     refine XQ.blockX <| XQ.seq <| XC.seq <| XC.region <| rA rfl rfl rfl <| XL.nil <| XQ.seq <| XC.ret ?_
     have e_ := Option.some.inj h0
     subst e_
     exact XQ.retF (fun _ _ h => h) rfl (RAs.tmp rfl .nil) (.cons (.one (.d _)) .nil)
def m15 (a0 : Int) : Option (Lvl × Int) :=
  cond (decide (a0 < 0))
    (some ((⟨0, ([] : List LV)⟩ : Lvl), 2))
    (cond (decide (100 < a0))
    (some ((⟨0, ([] : List LV)⟩ : Lvl), 15))
    (some ((⟨a0, ([] : List LV)⟩ : Lvl), 0)))
set_option maxRecDepth 100000 in
set_option maxHeartbeats 8000000 in
theorem m15_ok (a0 : Int) (r : Lvl × Int) (h0 : m15 a0 = some r) : Fun Tryz.prog 15 [.one (dI a0)] (resOf [.agg (cE r.1), .one (dI r.2)]) := by
  unfold m15 at h0
  refine Fun.of_bodyM 9 14 Tryz.func15 rfl en_15 rfl (lb rfl) (fun S w => ?_)
  simp only [entry]
  refine XC.seq <| XC.region <| XL.put rfl rfl (lb rfl) (OpOK.alloc z_24 rfl) <| rA rfl rfl rfl <| XL.nil <| XQ.seq <| XC.seq <| XC.block <| XC.seq <| XC.region <| rM rfl rfl rfl <| rR rfl rfl rfl (RO.binInt rfl rfl rfl) <| rA rfl rfl rfl <| XL.nil ?_
  refine XQ.seq ?_
  refine XC.cond (b := (decide (a0 < 0))) rfl (fun c1 => ?_) (fun c1 => ?_)
  ·
   replace h0 := condT c1 h0
   refine XC.seq <| XC.region <| rR rfl rfl rfl (RO.build0 bd_24 rfl ) <| XL.eff rfl rfl (OpOK.store ag_24 rfl rfl rfl rfl (lb rfl) rfl) <| rA rfl rfl rfl <| XL.nil <| XQ.seq <| XC.ret ?_
   have e_ := Option.some.inj h0
   subst e_
   exact XQ.retF (fun _ _ h => h) rfl (RAs.agg ag_24 rfl rfl rfl rfl (RAs.tmp rfl .nil)) (.cons (.agg (.cons (.d _) (.cons (.nil _) .nil))) (.cons (.one (.d _)) .nil))
  ·
   replace h0 := condF c1 h0
   refine XC.seq <| XC.region <| rM rfl rfl rfl <| rR rfl rfl rfl (RO.binInt rfl rfl rfl) <| rA rfl rfl rfl <| XL.nil <| XQ.seq ?_
   refine XC.cond (b := (decide (100 < a0))) rfl (fun c2 => ?_) (fun c2 => ?_)
   ·
    replace h0 := condT c2 h0
    refine XC.seq <| XC.region <| rR rfl rfl rfl (RO.build0 bd_24 rfl ) <| XL.eff rfl rfl (OpOK.store ag_24 rfl rfl rfl rfl (lb rfl) rfl) <| rA rfl rfl rfl <| XL.nil <| XQ.seq <| XC.ret ?_
    have e_ := Option.some.inj h0
    subst e_
    exact XQ.retF (fun _ _ h => h) rfl (RAs.agg ag_24 rfl rfl rfl rfl (RAs.tmp rfl .nil)) (.cons (.agg (.cons (.d _) (.cons (.nil _) .nil))) (.cons (.one (.d _)) .nil))
   ·
    replace h0 := condF c2 h0
    refine XC.skip <| XQ.inBlock <| XQ.seq <| XC.seq <| XC.region <| rM rfl rfl rfl <| rR rfl rfl rfl (RO.build1 bd_24 rfl rfl rfl) <| XL.eff rfl rfl (OpOK.store ag_24 rfl rfl rfl rfl (lb rfl) rfl) <| rA rfl rfl rfl <| XL.nil <| XQ.seq <| XC.ret ?_
    have e_ := Option.some.inj h0
    subst e_
    exact XQ.retF (fun _ _ h => h) rfl (RAs.agg ag_24 rfl rfl rfl rfl (RAs.tmp rfl .nil)) (.cons (.agg (.cons (.d _) (.cons (.nil _) .nil))) (.cons (.one (.d _)) .nil))
def m16 (a0 : Int) : Option (Lvl × Int) :=
  cond (decide (a0 < 0))
    (some ((⟨0, ([] : List LV)⟩ : Lvl), 2))
    (cond (decide (100 < a0))
    (some ((⟨0, ([] : List LV)⟩ : Lvl), 15))
    (some ((⟨a0, []⟩ : Lvl), 0)))
def m17 (a0 : Int) (a1 : Int) : Option (Lvl × Int) :=
  Option.bind (cond (decide (a0 < (-65536)))
    (some true)
    (cond (decide (7 < a0))
    (some true)
    (some (decide (a1 < 0))))) (fun (v1 : Bool) => cond v1
    (some ((⟨0, ([] : List LV)⟩ : Lvl), 2))
    (cond (decide (100 < a1))
    (some ((⟨0, ([] : List LV)⟩ : Lvl), 15))
    (some ((⟨0, [(a0, a1)]⟩ : Lvl), 0))))
set_option maxRecDepth 100000 in
set_option maxHeartbeats 8000000 in
theorem m17_ok (a0 : Int) (a1 : Int) (r : Lvl × Int) (h0 : m17 a0 a1 = some r) : Fun Tryz.prog 17 [.one (dI a0), .one (dI a1)] (resOf [.agg (cE r.1), .one (dI r.2)]) := by
  unfold m17 at h0
  refine Fun.of_bodyM 9 27 Tryz.func17 rfl en_17 rfl (lb rfl) (fun S w => ?_)
  simp only [entry]
  refine XC.seq <| XC.region <| XL.put rfl rfl (lb rfl) (OpOK.alloc z_24 rfl) <| rA rfl rfl rfl <| XL.nil <| XQ.seq <| XC.seq <| XC.block <| XC.seq ?_
  refine XC.joinR (fun (v1 : Bool) => ⟨[(0, .v (.one (dI a0))), (1, .v (.one (dI a1))), (4, .v (.one (.ptr 0 0))), (6, .v (.one (dB v1)))], [(0, .cells 24 [dI 0, dN])], [], 1, 27, []⟩) (fun (v1 : Bool) => (cond v1
      (some ((⟨0, ([] : List LV)⟩ : Lvl), 2))
      (cond (decide (100 < a1))
      (some ((⟨0, ([] : List LV)⟩ : Lvl), 15))
      (some ((⟨0, [(a0, a1)]⟩ : Lvl), 0)))) = some r) ?_ ?_
  ·
   refine bindK h0 (fun v_ h1 h0 => ?_)
   refine XC.region <| rM rfl rfl rfl <| rR rfl rfl rfl (RO.binInt rfl rfl rfl) <| rM rfl rfl rfl ?_
   refine XL.case (d := 9) (c := (decide (a0 < (-65536)))) rfl (fun c2 => ?_) (fun c2 => ?_)
   ·
    replace h1 := condT c2 h1
    refine XL.no rfl rfl <| XL.no rfl rfl <| rR rfl rfl rfl (RO.pickT rfl rfl) <| rM rfl rfl rfl <| XL.no rfl rfl <| XL.no rfl rfl <| rR rfl rfl rfl (RO.pickT rfl rfl) <| rA rfl rfl rfl <| XL.nil ?_
    have e_ := Option.some.inj h1
    subst e_
    exact XQ.joinR true (stle (tR rfl (tR rfl (tR rfl (tR rfl tZ)))) (hR rfl hZ) kZ rfl (Nat.zero_le _) rfl rfl rfl (bB rfl rfl bZ) rfl rfl) h0
   ·
    replace h1 := condF c2 h1
    refine rM rfl rfl rfl <| rR rfl rfl rfl (RO.binInt rfl rfl rfl) <| rR rfl rfl rfl (RO.pickF rfl rfl) <| rM rfl rfl rfl ?_
    refine XL.case (d := 13) (c := (decide (7 < a0))) rfl (fun c3 => ?_) (fun c3 => ?_)
    ·
     replace h1 := condT c3 h1
     refine XL.no rfl rfl <| XL.no rfl rfl <| rR rfl rfl rfl (RO.pickT rfl rfl) <| rA rfl rfl rfl <| XL.nil ?_
     have e_ := Option.some.inj h1
     subst e_
     exact XQ.joinR true (stle (tR rfl (tR rfl (tR rfl (tR rfl tZ)))) (hR rfl hZ) kZ rfl (Nat.zero_le _) rfl rfl rfl (bB rfl rfl bZ) rfl rfl) h0
    ·
     replace h1 := condF c3 h1
     refine rM rfl rfl rfl <| rR rfl rfl rfl (RO.binInt rfl rfl rfl) <| rR rfl rfl rfl (RO.pickF rfl rfl) <| rA rfl rfl rfl <| XL.nil ?_
     have e_ := Option.some.inj h1
     subst e_
     exact XQ.joinR (decide (a1 < 0)) (stle (tR rfl (tR rfl (tR rfl (tR rfl tZ)))) (hR rfl hZ) kZ rfl (Nat.zero_le _) rfl rfl rfl (bB rfl rfl bZ) rfl rfl) h0
  ·
   intro v1 h0
   refine XQ.seq ?_
   refine XC.cond (b := v1) rfl (fun c4 => ?_) (fun c4 => ?_)
   ·
    replace h0 := condT c4 h0
    refine XC.seq <| XC.region <| rR rfl rfl rfl (RO.build0 bd_24 rfl ) <| XL.eff rfl rfl (OpOK.store ag_24 rfl rfl rfl rfl (lb rfl) rfl) <| rA rfl rfl rfl <| XL.nil <| XQ.seq <| XC.ret ?_
    have e_ := Option.some.inj h0
    subst e_
    exact XQ.retF (fun _ _ h => h) rfl (RAs.agg ag_24 rfl rfl rfl rfl (RAs.tmp rfl .nil)) (.cons (.agg (.cons (.d _) (.cons (.nil _) .nil))) (.cons (.one (.d _)) .nil))
   ·
    replace h0 := condF c4 h0
    refine XC.seq <| XC.region <| rM rfl rfl rfl <| rR rfl rfl rfl (RO.binInt rfl rfl rfl) <| rA rfl rfl rfl <| XL.nil <| XQ.seq ?_
    refine XC.cond (b := (decide (100 < a1))) rfl (fun c5 => ?_) (fun c5 => ?_)
    ·
     replace h0 := condT c5 h0
     refine XC.seq <| XC.region <| rR rfl rfl rfl (RO.build0 bd_24 rfl ) <| XL.eff rfl rfl (OpOK.store ag_24 rfl rfl rfl rfl (lb rfl) rfl) <| rA rfl rfl rfl <| XL.nil <| XQ.seq <| XC.ret ?_
     have e_ := Option.some.inj h0
     subst e_
     exact XQ.retF (fun _ _ h => h) rfl (RAs.agg ag_24 rfl rfl rfl rfl (RAs.tmp rfl .nil)) (.cons (.agg (.cons (.d _) (.cons (.nil _) .nil))) (.cons (.one (.d _)) .nil))
    ·
     replace h0 := condF c5 h0
     refine XC.skip <| XQ.inBlock <| XQ.seq <| XC.seq <| XC.region <| rM rfl rfl rfl <| rM rfl rfl rfl <| rR rfl rfl rfl (RO.build2 bd_69 rfl rfl rfl rfl) <| XL.put rfl rfl (lb rfl) (OpOK.lit1E (α := LV) ((a0, a1)) sl_22 z_69 rfl rfl (lb rfl) (lb rfl) rfl rfl (.cons (.d _) (.cons (.d _) .nil)) rfl) <| rR rfl rfl rfl (RO.build1 bd_24 rfl rfl rfl) <| XL.eff rfl rfl (OpOK.store ag_24 rfl rfl rfl rfl (lb rfl) rfl) <| rA rfl rfl rfl <| XL.nil <| XQ.seq ?_
     refine XC.ret ?_
     have e_ := Option.some.inj h0
     subst e_
     exact XQ.retF (fun _ _ h => h) rfl (RAs.agg ag_24 rfl rfl rfl rfl (RAs.tmp rfl .nil)) (.cons (.agg (.cons (.d _) (.cons (.app _ _ _) .nil))) (.cons (.one (.d _)) .nil))
def m18 (a0 : Int) (a1 : Int) : Option (Lvl × Int) :=
  Option.bind (cond (decide (a0 < (-65536)))
    (some true)
    (cond (decide (8 ≤ a0))
    (some true)
    (some (decide (a1 < 0))))) (fun (v1 : Bool) => cond v1
    (some ((⟨0, ([] : List LV)⟩ : Lvl), 2))
    (cond (decide (100 < a1))
    (some ((⟨0, ([] : List LV)⟩ : Lvl), 15))
    (some ((⟨0, [(a0, a1)]⟩ : Lvl), 0))))
end Go.Proofs.YtcapifnaceegmaaGreatDoor
namespace Go.Proofs.YtcapifnaceegmaaGreatDoor
open Go.RowKit
set_option linter.unusedSimpArgs false
set_option linter.unusedVariables false
set_option linter.unusedSectionVars false
theorem ownsRow_same {w w' : World} {b e s n : Nat} {v : Value} {xs : List Value} (h : w.ownsRow b e s v n xs) (hs : ∀ g, v.ownBlock = some g → w'.heap[g]? = w.heap[g]?) : w'.ownsRow b e s v n xs := by
  obtain ⟨h1, h2⟩ := h
  refine ⟨h1, h2.imp id ?_⟩
  rintro ⟨g, cap, cur, rfl, h3, h4, h5⟩
  exact ⟨g, cap, cur, rfl, h3, (hs g rfl).trans h4, h5⟩
def partM (V : Vu) (hp : List (Nat × HB)) (tk : List (Nat × Option Tok)) (k : Nat) : Prop :=
  (∃ i B, lk hp i = some B ∧ V.ι i = k) ∨ ∃ i T, lk tk i = some (some T) ∧ (V.κ i T.n).ownBlock = some k
theorem lk_app {α : Type} : ∀ (a b : List (Nat × α)) (i : Nat), lk (a ++ b) i = match lk a i with
    | some x => some x
    | none => lk b i
  | [], b, i => rfl
  | (k, x) :: a, b, i => by
    rw [List.cons_append, lk_cons, lk_cons]
    split
    · rfl
    · exact lk_app a b i
theorem lk_app_some {α : Type} {a b : List (Nat × α)} {i : Nat} {x : α} (h : lk (a ++ b) i = some x) : lk a i = some x ∨ lk b i = some x := by
  rw [lk_app] at h
  cases h1 : lk a i with
  | none => rw [h1] at h; exact .inr h
  | some y => rw [h1] at h; exact .inl h
theorem lk_memF {α : Type} : ∀ {a : List (Nat × α)} {i : Nat} {x : α}, lk a i = some x → (i, x) ∈ a
  | [], i, x, h => by cases h
  | (k, y) :: a, i, x, h => by
    rw [lk_cons] at h
    split at h
    · rename_i e; subst e; cases h; exact List.mem_cons_self
    · exact List.mem_cons_of_mem _ (lk_memF h)
def rho : List Nat → Nat → Nat → Nat
  | [], n, i => n + i
  | j :: _, _, 0 => j
  | _ :: r, n, i + 1 => rho r n i
theorem rho_lt : ∀ {rs : List Nat} {n i : Nat}, i < rs.length → ∃ j, rs[i]? = some j ∧ rho rs n i = j
  | [], n, i, h => by simp at h
  | j :: r, n, 0, h => ⟨j, rfl, rfl⟩
  | j :: r, n, i + 1, h => rho_lt (rs := r) (n := n) (i := i) (by simpa using h)
theorem rho_ge : ∀ {rs : List Nat} {n i : Nat}, rs.length ≤ i → rho rs n i = n + (i - rs.length)
  | [], n, i, h => rfl
  | j :: r, n, 0, h => by simp at h
  | j :: r, n, i + 1, h => by
    have h1 : r.length ≤ i := by simpa using h
    have h2 := rho_ge (rs := r) (n := n) (i := i) h1
    simp only [rho, List.length_cons]
    omega
theorem rho_mem {rs : List Nat} {n i : Nat} (h : i < rs.length) : rho rs n i ∈ rs := by
  obtain ⟨j, h1, h2⟩ := rho_lt (n := n) h
  rw [h2]; exact List.mem_of_getElem? h1
theorem nodup_get {α : Type} : ∀ {l : List α} {i j : Nat} {a : α}, l.Nodup → l[i]? = some a → l[j]? = some a → i = j
  | [], i, j, a, _, h, _ => by simp at h
  | x :: l, 0, 0, a, _, _, _ => rfl
  | x :: l, 0, j + 1, a, hn, h1, h2 => by
    simp at h1 h2
    subst h1
    exact absurd (List.mem_of_getElem? h2) (List.nodup_cons.1 hn).1
  | x :: l, i + 1, 0, a, hn, h1, h2 => by
    simp at h1 h2
    subst h2
    exact absurd (List.mem_of_getElem? h1) (List.nodup_cons.1 hn).1
  | x :: l, i + 1, j + 1, a, hn, h1, h2 => by
    simp at h1 h2
    rw [nodup_get (List.nodup_cons.1 hn).2 h1 h2]
theorem rho_inj {rs : List Nat} {n : Nat} (hnd : rs.Nodup) (hlt : ∀ j ∈ rs, j < n) {i j : Nat} (h : rho rs n i = rho rs n j) : i = j := by
  by_cases h1 : i < rs.length <;> by_cases h2 : j < rs.length
  · obtain ⟨a, h3, h4⟩ := rho_lt (n := n) h1
    obtain ⟨b, h5, h6⟩ := rho_lt (n := n) h2
    rw [h4, h6] at h
    subst h
    exact nodup_get hnd h3 h5
  · have := hlt _ (rho_mem (n := n) h1)
    rw [h, rho_ge (Nat.le_of_not_lt h2)] at this; omega
  · have := hlt _ (rho_mem (n := n) h2)
    rw [← h, rho_ge (Nat.le_of_not_lt h1)] at this; omega
  · rw [rho_ge (Nat.le_of_not_lt h1), rho_ge (Nat.le_of_not_lt h2)] at h; omega
def CA.ren (ρ : Nat → Nat) : CA → CA
  | .d c => .d c
  | .ptr i off => .ptr (ρ i) off
  | .pel e off => .pel e off
  | .fn f caps => .fn f (caps.map fun p => (ρ p.1, p.2))
  | .app i sz es => .app (ρ i) sz es
  | .osl i off len cap => .osl (ρ i) off len cap
  | .mp i => .mp (ρ i)
  | .yld i => .yld (ρ i)
  | .clo f caps => .clo f caps
  | .any => .any
def AV.ren (ρ : Nat → Nat) : AV → AV
  | .one x => .one (x.ren ρ)
  | .agg xs => .agg (xs.map (CA.ren ρ))
def TV.ren (ρ : Nat → Nat) : TV → TV
  | .v x => .v (x.ren ρ)
  | .tup xs => .tup (xs.map (AV.ren ρ))
  | .unk => .unk
def HB.ren (ρ : Nat → Nat) : HB → HB
  | .cells T xs => .cells T (xs.map (CA.ren ρ))
  | .obj o => .obj o
  | .loop s p tm nt ps assign body D => .loop s p (tm.map fun q => (q.1, q.2.ren ρ)) nt ps assign body (ρ D)
  | .mp es c => .mp (es.map fun e => (e.1, e.2.1.ren ρ, e.2.2)) c
def renHp (ρ : Nat → Nat) (l : List (Nat × HB)) : List (Nat × HB) := l.map fun p => (ρ p.1, p.2.ren ρ)
def renTk (ρ : Nat → Nat) (l : List (Nat × Option Tok)) : List (Nat × Option Tok) := l.map fun p => (ρ p.1, p.2)
theorem lk_map2 {α β : Type} (f : α → β) : ∀ (l : List (Nat × α)) (t : Nat), lk (l.map fun q => (q.1, f q.2)) t = (lk l t).map f
  | [], t => rfl
  | (k, x) :: l, t => by
    rw [List.map_cons, lk_cons, lk_cons]
    split
    · rfl
    · exact lk_map2 f l t
theorem lk_ren {α β : Type} {ρ : Nat → Nat} {f : α → β} (inj : ∀ i j, ρ i = ρ j → i = j) : ∀ (l : List (Nat × α)) (i : Nat), lk (l.map fun p => (ρ p.1, f p.2)) (ρ i) = (lk l i).map f
  | [], i => rfl
  | (k, x) :: l, i => by
    rw [List.map_cons, lk_cons, lk_cons]
    by_cases h : k = i
    · subst h; rw [if_pos rfl, if_pos rfl]; rfl
    · rw [if_neg h, if_neg (fun e => h (inj _ _ e))]; exact lk_ren inj l i
theorem lk_ren_inv {α β : Type} {ρ : Nat → Nat} {f : α → β} (inj : ∀ i j, ρ i = ρ j → i = j) {l : List (Nat × α)} {j : Nat} {y : β} (h : lk (l.map fun p => (ρ p.1, f p.2)) j = some y) : ∃ i x, ρ i = j ∧ lk l i = some x ∧ y = f x := by
  obtain ⟨p, h1, h2⟩ := List.mem_map.1 (lk_memF h)
  have h3 : ρ p.1 = j := (Prod.mk.inj h2).1
  subst h3
  rw [lk_ren inj] at h
  cases h4 : lk l p.1 with
  | none => rw [h4] at h; cases h
  | some x => rw [h4] at h; cases h; exact ⟨p.1, x, rfl, h4, rfl⟩
def pull (ρ : Nat → Nat) (V : Vu) (m : Nat) : Vu := ⟨m, fun i => V.ι (ρ i), fun i => V.κ (ρ i), fun i => V.cu (ρ i), V.S⟩
theorem CA.rel.pull {ρ : Nat → Nat} {V : Vu} {w : World} {m : Nat} {x : CA} {v : Value} (h : (x.ren ρ).rel V w v) (hb : x.below m) : x.rel (pull ρ V m) w v := by
  cases x with
  | ptr i off => exact ⟨hb, h.2⟩
  | fn f caps =>
    have := h.2
    rw [List.map_map] at this
    exact ⟨hb, this⟩
  | app i sz es => exact ⟨hb, h.2⟩
  | osl i off len cap => exact ⟨hb, h.2⟩
  | mp i => exact ⟨hb, h.2⟩
  | yld i => exact ⟨hb, h.2⟩
  | d c => exact h
  | pel e off => exact h
  | clo f caps => exact h
  | any => exact h
theorem rels.pull {ρ : Nat → Nat} {V : Vu} {w : World} {m : Nat} {xs : List CA} {vs : Array Value} (h : rels V w (xs.map (CA.ren ρ)) vs) (hb : ∀ x ∈ xs, x.below m) : rels (pull ρ V m) w xs vs :=
  ⟨by simpa using h.1, fun i x hx => let ⟨u, h1, h2⟩ := h.2 i (x.ren ρ) (by rw [List.getElem?_map, hx]; rfl); ⟨u, h1, h2.pull (hb x (List.mem_of_getElem? hx))⟩⟩
theorem AV.rel.pull {ρ : Nat → Nat} {V : Vu} {w : World} {m : Nat} {x : AV} {v : Value} (h : (x.ren ρ).rel V w v) (hb : x.below m) : x.rel (pull ρ V m) w v := by
  cases x with
  | one x => exact CA.rel.pull h hb
  | agg xs => obtain ⟨vs, h1, h2⟩ := h; exact ⟨vs, h1, h2.pull hb⟩
theorem TV.rel.pull {ρ : Nat → Nat} {V : Vu} {w : World} {m : Nat} {x : TV} {v : Value} (h : (x.ren ρ).rel V w v) (hb : x.below m) : x.rel (pull ρ V m) w v := by
  cases x with
  | v x => exact AV.rel.pull h hb
  | tup xs =>
    obtain ⟨vs, h1, h2, h3⟩ := h
    exact ⟨vs, h1, by simpa using h2, fun i x hx => let ⟨u, h4, h5⟩ := h3 i (x.ren ρ) (by rw [List.getElem?_map, hx]; rfl); ⟨u, h4, h5.pull (hb x (List.mem_of_getElem? hx))⟩⟩
  | unk => trivial
theorem HB.rel.pull {ρ : Nat → Nat} {V : Vu} {w : World} {m : Nat} {x : HB} {o : Obj} (h : (x.ren ρ).rel V w o) (hb : x.below m) : x.rel (pull ρ V m) w o := by
  cases x with
  | cells T xs => obtain ⟨vs, h3, h4⟩ := h; exact ⟨vs, h3, h4.pull hb⟩
  | obj o' => exact h
  | loop s p tm nt ps assign body D =>
    obtain ⟨-, fn, tmps, h3, h4, h5⟩ := h
    exact ⟨hb.1, fn, tmps, h3, h4, fun t x hx => (h5 t (x.ren ρ) (by rw [lk_map2, hx]; rfl)).pull (hb.2 t x hx)⟩
  | mp es clock =>
    obtain ⟨ents, h3, h4, h5⟩ := h
    exact ⟨ents, h3, by simpa using h4, fun i k x b hi => let ⟨v, h6, h7⟩ := h5 i k (x.ren ρ) b (by rw [List.getElem?_map, hi]; rfl); ⟨v, h6, h7.pull (hb _ (List.mem_of_getElem? hi))⟩⟩
structure Via (ρ : Nat → Nat) (V1 V2 : Vu) : Prop where
  ι : ∀ i, i < V1.nx → ρ i < V2.nx ∧ V2.ι (ρ i) = V1.ι i
  cu : ∀ i, i < V1.nx → V2.cu (ρ i) = V1.cu i
  κ : ∀ i, i < V1.nx → V2.κ (ρ i) = V1.κ i
  S : ∀ b o, V1.S b o → V2.S b o
section
variable {ρ : Nat → Nat} {V1 V2 : Vu} {w : World}
theorem CA.rel.via (hV : Via ρ V1 V2) {x : CA} {v : Value} (h : x.rel V1 w v) : (x.ren ρ).rel V2 w v := by
  cases x with
  | ptr i off => exact ⟨(hV.ι i h.1).1, by rw [(hV.ι i h.1).2]; exact h.2⟩
  | fn f caps =>
    refine ⟨fun p hp => ?_, ?_⟩
    · obtain ⟨q, hq, rfl⟩ := List.mem_map.1 hp
      exact (hV.ι _ (h.1 q hq)).1
    · rw [h.2, List.map_map]
      congr 2
      exact List.map_congr_left fun p hp => by show _ = Value.pointer (some ⟨V2.ι (ρ p.1), p.2, none⟩); rw [(hV.ι _ (h.1 p hp)).2]
  | app i sz es => exact ⟨(hV.ι i h.1).1, by rw [hV.cu i h.1]; exact h.2.1, by rw [hV.κ i h.1]; exact h.2.2.1, Reads.mono hV.S (fun _ _ _ => rfl) h.2.2.2⟩
  | osl i off len cap => exact ⟨(hV.ι i h.1).1, by rw [(hV.ι i h.1).2]; exact h.2⟩
  | mp i => exact ⟨(hV.ι i h.1).1, by rw [(hV.ι i h.1).2]; exact h.2⟩
  | yld i => exact ⟨(hV.ι i h.1).1, by rw [(hV.ι i h.1).2]; exact h.2⟩
  | d c => exact Reads.mono hV.S (fun _ _ _ => rfl) h
  | pel e off => exact pelRel.mono hV.S (fun _ _ _ => rfl) h
  | clo f caps =>
    obtain ⟨ps, h1, h2, h3⟩ := h
    exact ⟨ps, h1, h2, fun i e off hi => let ⟨p, h4, h5⟩ := h3 i e off hi; ⟨p, h4, h5.mono hV.S (fun _ _ _ => rfl)⟩⟩
  | any => exact h
theorem rels.via (hV : Via ρ V1 V2) {xs : List CA} {vs : Array Value} (h : rels V1 w xs vs) : rels V2 w (xs.map (CA.ren ρ)) vs :=
  ⟨by simpa using h.1, fun i x hx => by
    rw [List.getElem?_map] at hx
    cases h1 : xs[i]? with
    | none => rw [h1] at hx; cases hx
    | some y => rw [h1] at hx; cases hx; obtain ⟨u, h2, h3⟩ := h.2 i y h1; exact ⟨u, h2, h3.via hV⟩⟩
theorem AV.rel.via (hV : Via ρ V1 V2) {x : AV} {v : Value} (h : x.rel V1 w v) : (x.ren ρ).rel V2 w v := by
  cases x with
  | one x => exact CA.rel.via hV h
  | agg xs => obtain ⟨vs, h1, h2⟩ := h; exact ⟨vs, h1, h2.via hV⟩
theorem TV.rel.via (hV : Via ρ V1 V2) {x : TV} {v : Value} (h : x.rel V1 w v) : (x.ren ρ).rel V2 w v := by
  cases x with
  | v x => exact AV.rel.via hV h
  | tup xs =>
    obtain ⟨vs, h1, h2, h3⟩ := h
    refine ⟨vs, h1, by simpa using h2, fun i x hx => ?_⟩
    rw [List.getElem?_map] at hx
    cases h4 : xs[i]? with
    | none => rw [h4] at hx; cases hx
    | some y => rw [h4] at hx; cases hx; obtain ⟨u, h5, h6⟩ := h3 i y h4; exact ⟨u, h5, h6.via hV⟩
  | unk => trivial
theorem HB.rel.via (hV : Via ρ V1 V2) {x : HB} {o : Obj} (h : x.rel V1 w o) : (x.ren ρ).rel V2 w o := by
  cases x with
  | cells T xs => obtain ⟨vs, h3, h4⟩ := h; exact ⟨vs, h3, h4.via hV⟩
  | obj o' => exact h
  | loop s p tm nt ps assign body D =>
    obtain ⟨h1, fn, tmps, h3, h4, h5⟩ := h
    refine ⟨(hV.ι D h1).1, fn, tmps, by rw [(hV.ι D h1).2]; exact h3, h4, fun t x hx => ?_⟩
    rw [lk_map2] at hx
    cases h6 : lk tm t with
    | none => rw [h6] at hx; cases hx
    | some y => rw [h6] at hx; cases hx; exact (h5 t y h6).via hV
  | mp es clock =>
    obtain ⟨ents, h3, h4, h5⟩ := h
    refine ⟨ents, h3, by simpa using h4, fun i k x b hi => ?_⟩
    rw [List.getElem?_map] at hi
    cases h6 : es[i]? with
    | none => rw [h6] at hi; cases hi
    | some y =>
      obtain ⟨k', x', b'⟩ := y
      rw [h6] at hi; cases hi
      obtain ⟨v, h7, h8⟩ := h5 i _ _ _ h6
      exact ⟨v, h7, h8.via hV⟩
end
open Classical in
noncomputable def backV (ρ : Nat → Nat) (V V1 : Vu) (n : Nat) : Vu :=
  ⟨n, fun j => if h : ∃ i, ρ i = j then V1.ι h.choose else V.ι j, fun j => if h : ∃ i, ρ i = j then V1.κ h.choose else V.κ j, fun j => if h : ∃ i, ρ i = j then V1.cu h.choose else V.cu j, V1.S⟩
section
open Classical
variable {ρ : Nat → Nat} {V V1 : Vu} {n : Nat}
theorem choose_ren (inj : ∀ i j, ρ i = ρ j → i = j) {i : Nat} (h : ∃ k, ρ k = ρ i) : h.choose = i := inj _ _ h.choose_spec
theorem backV_ι (inj : ∀ i j, ρ i = ρ j → i = j) (i : Nat) : (backV ρ V V1 n).ι (ρ i) = V1.ι i := by
  have h : ∃ k, ρ k = ρ i := ⟨i, rfl⟩
  show (if h : ∃ k, ρ k = ρ i then V1.ι h.choose else V.ι (ρ i)) = _
  rw [dif_pos h, choose_ren inj h]
theorem backV_κ (inj : ∀ i j, ρ i = ρ j → i = j) (i : Nat) : (backV ρ V V1 n).κ (ρ i) = V1.κ i := by
  have h : ∃ k, ρ k = ρ i := ⟨i, rfl⟩
  show (if h : ∃ k, ρ k = ρ i then V1.κ h.choose else V.κ (ρ i)) = _
  rw [dif_pos h, choose_ren inj h]
theorem backV_cu (inj : ∀ i j, ρ i = ρ j → i = j) (i : Nat) : (backV ρ V V1 n).cu (ρ i) = V1.cu i := by
  have h : ∃ k, ρ k = ρ i := ⟨i, rfl⟩
  show (if h : ∃ k, ρ k = ρ i then V1.cu h.choose else V.cu (ρ i)) = _
  rw [dif_pos h, choose_ren inj h]
theorem backV_ι' {j : Nat} (h : ¬ ∃ i, ρ i = j) : (backV ρ V V1 n).ι j = V.ι j := dif_neg h
theorem backV_κ' {j : Nat} (h : ¬ ∃ i, ρ i = j) : (backV ρ V V1 n).κ j = V.κ j := dif_neg h
theorem backV_cu' {j : Nat} (h : ¬ ∃ i, ρ i = j) : (backV ρ V V1 n).cu j = V.cu j := dif_neg h
end
section
variable {E : Env} {V V1 : Vu} {hp hp0 hp1 hpF : List (Nat × HB)} {tk tk0 tk1 tkF : List (Nat × Option Tok)} {w w' : World} {ρ : Nat → Nat} {nx0 n : Nat}
theorem HRel.part (inj : ∀ i j, ρ i = ρ j → i = j) (h : HRel E V (renHp ρ hp0) (renTk ρ tk0) w) (b0 : hpBelow nx0 hp0) (c0 : tkBelow nx0 tk0) :
    HRel ⟨E.P, w, partM V (renHp ρ hp0) (renTk ρ tk0), pull ρ V nx0⟩ (pull ρ V nx0) hp0 tk0 w := by
  have eH : ∀ i B, lk hp0 i = some B → lk (renHp ρ hp0) (ρ i) = some (B.ren ρ) := fun i B hi => by
    have := lk_ren (f := HB.ren ρ) inj hp0 i
    rw [hi] at this; exact this
  have eT : ∀ i T, lk tk0 i = some T → lk (renTk ρ tk0) (ρ i) = some T := fun i T hi => by
    have := lk_ren (f := fun x : Option Tok => x) inj tk0 i
    rw [hi] at this; exact this
  refine ⟨ExtM.refl _ _, ⟨Vu.Le.refl _ _, h.tabs⟩, h.sz, fun b o hs => .inl hs, fun i B hi => ?_, fun i j A B hi hj e => ?_, fun i B hi => ⟨.inr (.inl ⟨ρ i, _, eH i B hi, rfl⟩), (h.new _ _ (eH i B hi)).2⟩, fun i T hi => ?_, fun i j T U g hi hj ei ej => ?_⟩
  · obtain ⟨h1, h2⟩ := b0.get i B hi
    obtain ⟨-, o, h3, h4⟩ := h.own _ _ (eH i B hi)
    exact ⟨h1, o, h3, h4.pull h2⟩
  · exact inj _ _ (h.inj _ _ _ _ (eH i A hi) (eH j B hj) e)
  · obtain ⟨-, h2, xs, h3, h4⟩ := h.tok _ _ (eT i _ hi)
    exact ⟨c0.get i _ hi, h2, xs, h3, fun g hg => ⟨.inr (.inr ⟨ρ i, T, eT i _ hi, hg⟩), (h4 g hg).2.1, fun j B hj => (h4 g hg).2.2 _ _ (eH j B hj)⟩⟩
  · exact inj _ _ (h.tki _ _ T U g (eT i _ hi) (eT j _ hj) ei ej)
theorem HRel.turn (inj : ∀ i j, ρ i = ρ j → i = j) (h : HRel E V hp tk w) (hh : hpLe hp (renHp ρ hp0)) (ht : tkLe tk (renTk ρ tk0)) (hhF : hpLe hp hpF) (htF : tkLe tk tkF)
    (old : ∀ i, i < nx0 → ρ i < V.nx) (new : ∀ i, nx0 ≤ i → ρ i = V.nx + (i - nx0)) (dF : ∀ i B, lk hpF i = some B → ∀ k, k < nx0 → ρ k ≠ i) (dT : ∀ i T, lk tkF i = some (some T) → ∀ k, k < nx0 → ρ k ≠ i)
    (b0 : hpBelow nx0 hp0) (c0 : tkBelow nx0 tk0) (hn : V1.nx + V.nx = n + nx0) (hle : nx0 ≤ V1.nx)
    (H : HRel ⟨E.P, w, partM V (renHp ρ hp0) (renTk ρ tk0), pull ρ V nx0⟩ V1 hp1 tk1 w') :
    HRel E (backV ρ V V1 n) (renHp ρ hp1 ++ hpF) (renTk ρ tk1 ++ tkF) w' ∧ V.Le (backV ρ V V1 n) w w' ∧ Via ρ V1 (backV ρ V V1 n) := by
  have L := H.le0.toLe
  have h0 := h.forgetLe hh ht
  have hF := h.forgetLe hhF htF
  have eHi : ∀ {l : List (Nat × HB)} {j B}, lk (renHp ρ l) j = some B → ∃ i x, ρ i = j ∧ lk l i = some x ∧ B = x.ren ρ := fun hj => lk_ren_inv inj hj
  have eTi : ∀ {l : List (Nat × Option Tok)} {j T}, lk (renTk ρ l) j = some T → ∃ i x, ρ i = j ∧ lk l i = some x ∧ T = x := fun hj => lk_ren_inv (f := fun x : Option Tok => x) inj hj
  have pE : ∀ k, partM V (renHp ρ hp0) (renTk ρ tk0) k → E.w0.heap.size ≤ k ∨ E.M k := by
    rintro k (⟨i, B, hi, rfl⟩ | ⟨i, T, hi, hg⟩)
    · exact (h0.new i B hi).1
    · obtain ⟨-, -, xs, -, h4⟩ := h0.tok i T hi
      exact (h4 k hg).1
  have Fl : ∀ i B, lk hpF i = some B → V.ι i < w.heap.size := fun i B hi => by
    obtain ⟨-, o, ho, -⟩ := hF.own i B hi
    exact heap_lt ho
  have Tl : ∀ i T g, lk tkF i = some (some T) → (V.κ i T.n).ownBlock = some g → g < w.heap.size := fun i T g hi hg => by
    obtain ⟨-, -, xs, h3, -⟩ := hF.tok i T hi
    exact (h3.lt g hg).2
  have nF : ∀ i, i < V.nx → (∀ k, k < nx0 → ρ k ≠ i) → ¬ ∃ k, ρ k = i := by
    rintro i hi hk ⟨k, hk2⟩
    rcases Nat.lt_or_ge k nx0 with h1 | h1
    · exact hk k h1 hk2
    · rw [new k h1] at hk2; omega
  have Fn : ∀ i B, lk hpF i = some B → ¬ ∃ k, ρ k = i := fun i B hi => nF i (hF.own i B hi).1 (dF i B hi)
  have Tn : ∀ i T, lk tkF i = some (some T) → ¬ ∃ k, ρ k = i := fun i T hi => nF i (hF.tok i T hi).1 (dT i T hi)
  have Fp : ∀ i B, lk hpF i = some B → ¬ partM V (renHp ρ hp0) (renTk ρ tk0) (V.ι i) := by
    rintro i B hi (⟨j, C, hj, e⟩ | ⟨j, T, hj, hg⟩)
    · obtain ⟨x, hx, -⟩ := hh.get j C hj
      obtain ⟨y, hy, -⟩ := hhF.get i B hi
      have := h.inj j i x y hx hy e
      subst this
      obtain ⟨k, -, hk, -⟩ := eHi hj
      exact Fn _ B hi ⟨k, hk⟩
    · obtain ⟨y, hy, -⟩ := hhF.get i B hi
      obtain ⟨-, -, xs, -, h4⟩ := h.tok j T (ht.get j T hj)
      exact (h4 _ hg).2.2 i y hy rfl
  have Tp : ∀ i T g, lk tkF i = some (some T) → (V.κ i T.n).ownBlock = some g → ¬ partM V (renHp ρ hp0) (renTk ρ tk0) g := by
    rintro i T g hi hg (⟨j, C, hj, e⟩ | ⟨j, U, hj, hg'⟩)
    · obtain ⟨x, hx, -⟩ := hh.get j C hj
      obtain ⟨-, -, xs, -, h4⟩ := h.tok i T (htF.get i T hi)
      exact (h4 _ hg).2.2 j x hx e
    · have := h.tki i j T U g (htF.get i T hi) (ht.get j U hj) hg hg'
      subst this
      obtain ⟨k, -, hk, -⟩ := eTi hj
      exact Tn _ T hi ⟨k, hk⟩
  have S1 : ∀ b o, V1.S b o → V.S b o ∨ w.heap.size ≤ b ∨ partM V (renHp ρ hp0) (renTk ρ tk0) b := H.sub
  have nn : ∀ i, i < V1.nx → ρ i < n := fun i hi => by
    rcases Nat.lt_or_ge i nx0 with h1 | h1
    · have := old i h1; omega
    · rw [new i h1]; omega
  have A2 : Via ρ V1 (backV ρ V V1 n) := ⟨fun i hi => ⟨nn i hi, backV_ι inj i⟩, fun i hi => backV_cu inj i, fun i hi => backV_κ inj i, fun b o hs => hs⟩
  have isNew : ∀ k, ρ k < V.nx → k < nx0 := fun k hk => by
    rcases Nat.lt_or_ge k nx0 with h1 | h1
    · exact h1
    · rw [new k h1] at hk; omega
  have A1 : V.Le (backV ρ V V1 n) w w' := by
    refine ⟨by show V.nx ≤ n; omega, fun i hi => ?_, fun i hi => ?_, fun i hi m hm => ?_, L.S, L.cell⟩
    · by_cases hq : ∃ k, ρ k = i
      · obtain ⟨k, rfl⟩ := hq
        rw [backV_ι inj]; exact L.ι k (isNew k hi)
      · exact backV_ι' hq
    · by_cases hq : ∃ k, ρ k = i
      · obtain ⟨k, rfl⟩ := hq
        rw [backV_cu inj]; exact L.cu k (isNew k hi)
      · rw [backV_cu' hq]; exact Nat.le_refl _
    · by_cases hq : ∃ k, ρ k = i
      · obtain ⟨k, rfl⟩ := hq
        rw [backV_κ inj]; exact L.κ k (isNew k hi) m hm
      · rw [backV_κ' hq]
  have hsize : w.heap.size ≤ w'.heap.size := H.ext.size
  have keep : ∀ k, k < w.heap.size → ¬ partM V (renHp ρ hp0) (renTk ρ tk0) k → w'.heap[k]? = w.heap[k]? := H.ext.block
  have inE : ∀ k, (w.heap.size ≤ k ∨ partM V (renHp ρ hp0) (renTk ρ tk0) k) → E.w0.heap.size ≤ k ∨ E.M k := fun k hk => by
    rcases hk with h1 | h1
    · exact .inl (Nat.le_trans h.ext.size h1)
    · exact pE k h1
  refine ⟨⟨?_, h.le0.trans A1, H.sz, ?_, ?_, ?_, ?_, ?_, ?_⟩, A1, A2⟩
  · refine ⟨H.ext.os.trans h.ext.os, H.ext.tape.trans h.ext.tape, H.ext.output.trans h.ext.output, Nat.le_trans h.ext.size hsize, fun k hk hM => ?_⟩
    refine (keep k (Nat.lt_of_lt_of_le hk h.ext.size) fun hp => ?_).trans (h.ext.block k hk hM)
    rcases pE k hp with h1 | h1
    · omega
    · exact hM h1
  · intro b o hs
    rcases S1 b o hs with h1 | h1
    · exact h.sub b o h1
    · exact .inr (inE b h1)
  · intro i B hi
    rcases lk_app_some hi with hi | hi
    · obtain ⟨k, x, rfl, hk, rfl⟩ := eHi hi
      obtain ⟨h1, o, h3, h4⟩ := H.own k x hk
      exact ⟨nn k h1, o, by rw [backV_ι inj]; exact h3, h4.via A2⟩
    · obtain ⟨h1, o, h3, h4⟩ := hF.own i B hi
      exact ⟨by show i < n; omega, o, by rw [backV_ι' (Fn i B hi), keep _ (Fl i B hi) (Fp i B hi)]; exact h3, h4.mono A1⟩
  · have mix : ∀ i j A B, lk (renHp ρ hp1) i = some A → lk hpF j = some B → (backV ρ V V1 n).ι i = (backV ρ V V1 n).ι j → False := fun i j A B hi hj e => by
      obtain ⟨k, x, rfl, hk, -⟩ := eHi hi
      rw [backV_ι inj, backV_ι' (Fn j B hj)] at e
      rcases (H.new k x hk).1 with h2 | h2
      · rw [e] at h2
        exact absurd h2 (Nat.not_le.2 (Fl j B hj))
      · rw [e] at h2
        exact Fp j B hj h2
    intro i j A B hi hj e
    rcases lk_app_some hi with hi | hi <;> rcases lk_app_some hj with hj | hj
    · obtain ⟨k, x, rfl, hk, -⟩ := eHi hi
      obtain ⟨k', x', rfl, hk', -⟩ := eHi hj
      rw [backV_ι inj, backV_ι inj] at e
      rw [H.inj k k' x x' hk hk' e]
    · exact (mix i j A B hi hj e).elim
    · exact (mix j i B A hj hi e.symm).elim
    · rw [backV_ι' (Fn i A hi), backV_ι' (Fn j B hj)] at e
      exact hF.inj i j A B hi hj e
  · intro i B hi
    rcases lk_app_some hi with hi | hi
    · obtain ⟨k, x, rfl, hk, -⟩ := eHi hi
      obtain ⟨h2, h3⟩ := H.new k x hk
      rw [backV_ι inj]
      exact ⟨inE _ h2, h3⟩
    · obtain ⟨h2, h3⟩ := hF.new i B hi
      rw [backV_ι' (Fn i B hi)]
      refine ⟨h2, fun o hs => ?_⟩
      rcases S1 _ o hs with h4 | h4 | h4
      · exact h3 o h4
      · exact absurd h4 (Nat.not_le.2 (Fl i B hi))
      · exact Fp i B hi h4
  · intro i T hi
    rcases lk_app_some hi with hi | hi
    · obtain ⟨k, x, rfl, hk, e⟩ := eTi hi
      subst e
      obtain ⟨h1, h2, xs, h3, h4⟩ := H.tok k T hk
      refine ⟨nn k h1, by rw [backV_cu inj]; exact h2, xs, by rw [backV_κ inj]; exact h3, fun g hg => ?_⟩
      rw [backV_κ inj] at hg
      obtain ⟨h5, h6, h7⟩ := h4 g hg
      refine ⟨inE g h5, h6, fun j B hj => ?_⟩
      rcases lk_app_some hj with hj | hj
      · obtain ⟨k', x', rfl, hk', -⟩ := eHi hj
        rw [backV_ι inj]; exact h7 k' x' hk'
      · intro e
        rw [backV_ι' (Fn j B hj)] at e
        rcases h5 with h5 | h5
        · have := Fl j B hj
          rw [e] at this
          exact absurd h5 (Nat.not_le.2 this)
        · exact Fp j B hj (by rw [e]; exact h5)
    · have hq := Tn i T hi
      obtain ⟨h1, h2, xs, h3, h4⟩ := hF.tok i T hi
      refine ⟨by show i < n; omega, by rw [backV_cu' hq]; exact h2, xs, ?_, fun g hg => ?_⟩
      · rw [backV_κ' hq]
        exact ownsRow_same h3 fun g hg => keep g (Tl i T g hi hg) (Tp i T g hi hg)
      · rw [backV_κ' hq] at hg
        obtain ⟨h5, h6, h7⟩ := h4 g hg
        refine ⟨h5, fun o hs => ?_, fun j B hj => ?_⟩
        · rcases S1 _ o hs with h8 | h8 | h8
          · exact h6 o h8
          · exact absurd h8 (Nat.not_le.2 (Tl i T g hi hg))
          · exact absurd h8 (Tp i T g hi hg)
        · rcases lk_app_some hj with hj | hj
          · intro e
            obtain ⟨k', x', rfl, hk', -⟩ := eHi hj
            rw [backV_ι inj] at e
            rcases (H.new k' x' hk').1 with h9 | h9
            · rw [e] at h9
              exact absurd h9 (Nat.not_le.2 (Tl i T g hi hg))
            · rw [e] at h9
              exact Tp i T g hi hg h9
          · rw [backV_ι' (Fn j B hj)]; exact h7 j B hj
  · have mix : ∀ i j T U g, lk (renTk ρ tk1) i = some (some T) → lk tkF j = some (some U) → ((backV ρ V V1 n).κ i T.n).ownBlock = some g → ((backV ρ V V1 n).κ j U.n).ownBlock = some g → False := fun i j T U g hi hj ei ej => by
      obtain ⟨k, x, rfl, hk, e⟩ := eTi hi
      subst e
      rw [backV_κ inj] at ei
      rw [backV_κ' (Tn j U hj)] at ej
      obtain ⟨-, -, xs, -, h4⟩ := H.tok k T hk
      rcases (h4 g ei).1 with h5 | h5
      · exact absurd h5 (Nat.not_le.2 (Tl j U g hj ej))
      · exact Tp j U g hj ej h5
    intro i j T U g hi hj ei ej
    rcases lk_app_some hi with hi | hi <;> rcases lk_app_some hj with hj | hj
    · obtain ⟨k, x, rfl, hk, e⟩ := eTi hi
      subst e
      obtain ⟨k', x', rfl, hk', e⟩ := eTi hj
      subst e
      rw [backV_κ inj] at ei ej
      rw [H.tki k k' T U g hk hk' ei ej]
    · exact (mix i j T U g hi hj ei ej).elim
    · exact (mix j i U T g hj hi ej ei).elim
    · rw [backV_κ' (Tn i T hi)] at ei
      rw [backV_κ' (Tn j U hj)] at ej
      exact hF.tki i j T U g hi hj ei ej
end
theorem tkBelow_all {m : Nat} : ∀ {l : List (Nat × Option Tok)}, (l.all fun p => Nat.blt p.1 m) = true → tkBelow m l
  | [], _ => trivial
  | (i, x) :: l, h => by
    rw [List.all_cons, Bool.and_eq_true] at h
    exact ⟨blt_t h.1, tkBelow_all h.2⟩
def nodupN : List Nat → Bool
  | [] => true
  | x :: l => cond (l.any fun y => Nat.beq x y) false (nodupN l)
theorem nodupN_ok : ∀ {l : List Nat}, nodupN l = true → l.Nodup
  | [], _ => List.nodup_nil
  | x :: l, h => by
    unfold nodupN at h
    cases h1 : (l.any fun y => Nat.beq x y) with
    | true => rw [h1] at h; cases h
    | false =>
      rw [h1] at h
      refine List.nodup_cons.2 ⟨fun hm => ?_, nodupN_ok h⟩
      have := List.any_eq_false.1 h1 x hm
      simp at this
def apartB {α : Type} (rs : List Nat) (l : List (Nat × α)) : Bool := l.all fun p => rs.all fun q => cond (Nat.beq q p.1) false true
theorem apartB_ok {α : Type} {rs : List Nat} {l : List (Nat × α)} (h : apartB rs l = true) {i : Nat} {x : α} (hi : lk l i = some x) : i ∉ rs := fun hm => by
  have h1 := List.all_eq_true.1 (List.all_eq_true.1 h _ (lk_memF hi)) i hm
  have h2 : Nat.beq i i = true := by simp
  dsimp only at h1
  rw [h2] at h1; cases h1
theorem OpOK.callG {E : Env} {st : St} {dd : Option Tmp} {ty : TypeId} {pos : String} {af : Array Edge} {g : Option (Nat × Bool)} {x : Operand} {f : FuncId} {caps : List (Nat × Nat)} {ars : Array Operand} {args args0 : List AV} {ats : Array TypeId} {res res2 : TV} {hp0 hp1 hp1' hpF : List (Nat × HB)} {tk0 tk1 tk1' tkF : List (Nat × Option Tok)} {nx0 nx1 nx2 n : Nat}
    (rs : List Nat) (hx : ev st.tm x = some (.v (.one (.fn f caps)))) (ha : evArgs st.tm ars.toList = some args)
    (hc : CallM E.P f args0 ⟨hp0, tk0, nx0⟩ res ⟨hp1, tk1, nx1⟩) (hst : st.nx = n) (he : args ++ ptrs caps = args0.map (AV.ren (rho rs n))) (e3 : renHp (rho rs n) hp1 = hp1') (e4 : renTk (rho rs n) tk1 = tk1') (e5 : res.ren (rho rs n) = res2)
    (hh : hpLe st.hp (renHp (rho rs n) hp0)) (ht : tkLe st.tk (renTk (rho rs n) tk0)) (hhF : hpLe st.hp hpF) (htF : tkLe st.tk tkF) (hl : Nat.beq rs.length nx0 = true) (hnd : nodupN rs = true) (hlt : (rs.all fun j => Nat.blt j n) = true) (d1 : apartB rs hpF = true) (d2 : apartB rs tkF = true)
    (b0 : hpBelow nx0 hp0) (c0 : (tk0.all fun p => Nat.blt p.1 nx0) = true) (ba : (args0.all fun y => y.belowB nx0) = true) (hle : Nat.ble nx0 nx1 = true) (hn : Nat.beq (nx1 + n) (nx2 + nx0) = true) :
    OpOK E ⟨dd, .call { callee := .value x, args := ars, argTypes := ats }, ty, pos, af, g⟩ st res2 ⟨hp1' ++ hpF, tk1' ++ tkF, nx2⟩ := by
  subst hst e3 e4 e5
  have c0' := tkBelow_all c0
  have hl' : rs.length = nx0 := Nat.eq_of_beq_eq_true hl
  have hlt' : ∀ j ∈ rs, j < st.nx := fun j hj => blt_t (List.all_eq_true.1 hlt j hj)
  have inj : ∀ i j, rho rs st.nx i = rho rs st.nx j → i = j := fun i j h => rho_inj (nodupN_ok hnd) hlt' h
  intro V a w hr ro n K Q hK
  refine ⟨fun _ _ => trivial, ?_⟩
  rw [Oper.semAt_eq _ _ _ (by intro c h; cases h)]
  obtain ⟨hv1, hv2⟩ := hr.ev hx
  have hrun : (execOp a.eval ⟨dd, .call { callee := .value x, args := ars, argTypes := ats }, ty, pos, af, g⟩).run E.P w = .ok (.enter f (ars.map a.eval ++ (caps.map fun p => Value.pointer (some ⟨V.ι p.1, p.2, none⟩)).toArray)) w := by
    have := hc.1 (ars.map a.eval ++ (caps.map fun p => Value.pointer (some ⟨V.ι p.1, p.2, none⟩)).toArray) w
    simp [execOp, resolve, hv2, Deferred.ofValue, invoke]
    simpa using this
  rw [hrun]
  refine ⟨(by intro h; cases h), ?_⟩
  have h0 := (hr.h.forgetLe hh ht).part inj b0 c0'
  have har : argsRel (pull (rho rs st.nx) V nx0) w args0 (ars.map a.eval ++ (caps.map fun p => Value.pointer (some ⟨V.ι p.1, p.2, none⟩)).toArray) := by
    obtain ⟨h1, h2⟩ := (args_rel hr ha).append (ptrs_rel hv1)
    rw [he] at h1 h2
    refine ⟨by simpa using h1, fun i y hy => ?_⟩
    obtain ⟨u, hu, hyu⟩ := h2 i (y.ren _) (by rw [List.getElem?_map, hy]; rfl)
    exact ⟨u, hu, hyu.pull (AV.belowB_ok (List.all_eq_true.1 ba y (List.mem_of_getElem? hy)))⟩
  have hc' : CallsIn Fence.wide (n - 1) E.P f _ w _ := callsIn_wide.2 (hc.2 ⟨E.P, w, partM V _ _, pull (rho rs st.nx) V nx0⟩ _ w _ rfl h0 rfl har)
  refine CallsIn.mono (F := FR ro) hc' ?_
  rintro e w' ⟨v, V1, rfl, H, hn1, L, hres⟩
  have hn2 := Nat.eq_of_beq_eq_true hn
  have hnx := hr.nx
  dsimp only at hn1
  obtain ⟨H2, L2, L3⟩ := hr.h.turn (n := nx2) inj hh ht hhF htF (fun i hi => by rw [hnx]; exact hlt' _ (rho_mem (by omega))) (fun i hi => by rw [rho_ge (by omega), hnx, hl'])
    (fun i B hi k hk e => apartB_ok d1 hi (by rw [← e]; exact rho_mem (by omega))) (fun i T hi k hk e => apartB_ok d2 hi (by rw [← e]; exact rho_mem (by omega))) b0 c0' (by rw [hn1, hnx]; exact hn2) (by rw [hn1]; exact Nat.le_of_ble_eq_true hle) H
  exact hK _ w' v H2 rfl L2 (hres.via L3)
theorem qZ {ρ : Nat → Nat} : renHp ρ [] = [] := rfl
theorem qB {ρ : Nat → Nat} {i j : Nat} {x y : HB} {r r' : List (Nat × HB)} (h1 : ρ i = j) (h2 : x.ren ρ = y) (h : renHp ρ r = r') : renHp ρ ((i, x) :: r) = (j, y) :: r' := by
  subst h1 h2 h; rfl
theorem qM {ρ : Nat → Nat} {i j c : Nat} {xs : List (Int × Int × Nat)} {r r' : List (Nat × HB)} (h1 : ρ i = j) (h : renHp ρ r = r') : renHp ρ ((i, .mp (imE xs) c) :: r) = (j, .mp (imE xs) c) :: r' :=
  qB h1 (by show HB.mp ((imE xs).map _) c = _; unfold imE; rw [List.map_map]; rfl) h
section
variable {ρ : Nat → Nat} {hp : List (Nat × HB)} {tk : List (Nat × Option Tok)}
theorem gZ : hpLe hp (renHp ρ []) := trivial
theorem gR {i : Nat} {x : HB} {r : List (Nat × HB)} (h : lk hp (ρ i) = some (x.ren ρ)) (l : hpLe hp (renHp ρ r)) : hpLe hp (renHp ρ ((i, x) :: r)) := ⟨⟨_, h, .refl _⟩, l⟩
theorem gM {i c : Nat} {xs : List (Int × Int × Nat)} {r : List (Nat × HB)} (h : lk hp (ρ i) = some (.mp (imE xs) c)) (l : hpLe hp (renHp ρ r)) : hpLe hp (renHp ρ ((i, .mp (imE xs) c) :: r)) :=
  gR (by show _ = some (HB.mp ((imE xs).map _) c); unfold imE at h ⊢; rw [List.map_map]; exact h) l
theorem jZ : tkLe tk (renTk ρ []) := trivial
end
def recO {σ β : Type} (F : (σ → Option β) → σ → Option β) : Nat → σ → Option β
  | 0, _ => none
  | n + 1, u => F (recO F n) u
theorem recO_ind {σ β : Type} {F : (σ → Option β) → σ → Option β} {C : σ → β → Prop} (h : ∀ rc : σ → Option β, (∀ u y, rc u = some y → C u y) → ∀ u y, F rc u = some y → C u y) : ∀ (n : Nat) (u : σ) (y : β), recO F n u = some y → C u y
  | 0, u, y, e => by cases e
  | n + 1, u, y, e => h _ (recO_ind h n) u y e
end Go.Proofs.YtcapifnaceegmaaGreatDoor
namespace Go.Proofs
open Go.Shelf
set_option linter.unusedSimpArgs false
set_option linter.unusedVariables false
set_option linter.unusedSectionVars false
def Tryz.keys83_ren : Go.Shelf.Ren := ⟨fun | 7 => 83 | 10 => 102 | n => n, fun | 23 => 98 | 26 => 3 | 3 => 3 | 28 => 113 | 0 => 0 | 27 => 112 | 33 => 105 | 4 => 4 | n => n, fun | n => n⟩
theorem Tryz.keys83 : Go.Proofs.SlLaysZI.n7 Tryz.prog Tryz.keys83_ren := {
  mixed := by kernel_rfl
  f7 := ⟨Tryz.f83.name, by decide, Tryz.func83.trans (congrArg some (by kernel_rfl))⟩
  f10 := ⟨Tryz.f102.name, by decide, Tryz.func102.trans (congrArg some (by kernel_rfl))⟩
  t0 := Tryz.underlying0
  a0 := Tryz.isAgg0
  z0 := Tryz.sizeOf0
  v0 := Tryz.zeroValue0
  t4 := Tryz.underlying4
  a4 := Tryz.isAgg4
  z4 := Tryz.sizeOf4
  v4 := Tryz.zeroValue4
  t23 := Tryz.underlying98
  a23 := Tryz.isAgg98
  z23 := Tryz.sizeOf98
  v23 := Tryz.zeroValue98
  t26 := Tryz.underlying3
  a26 := Tryz.isAgg3
  z26 := Tryz.sizeOf3
  v26 := Tryz.zeroValue3
  t27 := Tryz.underlying112
  a27 := Tryz.isAgg112
  z27 := Tryz.sizeOf112
  v27 := Tryz.zeroValue112
  t28 := Tryz.underlying113
  a28 := Tryz.isAgg113
  z28 := Tryz.sizeOf113
  v28 := Tryz.zeroValue113
  t33 := Tryz.underlying105
  a33 := Tryz.isAgg105
  z33 := Tryz.sizeOf105
  v33 := Tryz.zeroValue105 }
def Tryz.sorted82_ren : Go.Shelf.Ren := ⟨fun | 6 => 82 | 8 => 100 | 9 => 101 | 11 => 112 | 13 => 114 | 12 => 113 | 23 => 137 | 24 => 138 | 14 => 128 | 15 => 129 | 16 => 130 | 17 => 131 | 18 => 132 | 19 => 133 | 20 => 134 | 21 => 135 | 22 => 136 | 25 => 150 | 26 => 151 | 27 => 152 | 28 => 153 | 29 => 154 | 30 => 155 | 31 => 161 | n => n, fun | 26 => 3 | 28 => 113 | 24 => 46 | 0 => 0 | 3 => 3 | 37 => 148 | 48 => 174 | 50 => 150 | 4 => 4 | 40 => 167 | 39 => 166 | 45 => 128 | 5 => 5 | 9 => 9 | 51 => 192 | 55 => 196 | 57 => 202 | 58 => 61 | 33 => 105 | n => n, fun | n => n⟩
theorem Tryz.sorted82 : Go.Proofs.SlLaysZI.n6 Tryz.prog Tryz.sorted82_ren := {
  mixed := by kernel_rfl
  f6 := ⟨Tryz.f82.name, by decide, Tryz.func82.trans (congrArg some (by kernel_rfl))⟩
  f8 := ⟨Tryz.f100.name, by decide, Tryz.func100.trans (congrArg some (by kernel_rfl))⟩
  f11 := ⟨Tryz.f112.name, by decide, Tryz.func112.trans (congrArg some (by kernel_rfl))⟩
  t0 := Tryz.underlying0
  a0 := Tryz.isAgg0
  z0 := Tryz.sizeOf0
  v0 := Tryz.zeroValue0
  t24 := Tryz.underlying46
  a24 := Tryz.isAgg46
  z24 := Tryz.sizeOf46
  v24 := Tryz.zeroValue46
  t26 := Tryz.underlying3
  a26 := Tryz.isAgg3
  z26 := Tryz.sizeOf3
  v26 := Tryz.zeroValue3
  t28 := Tryz.underlying113
  a28 := Tryz.isAgg113
  z28 := Tryz.sizeOf113
  v28 := Tryz.zeroValue113
  i26 := by kernel_rfl }
def Tryz.sort101_ren : Go.Shelf.Ren := ⟨fun | 5 => 101 | 8 => 114 | 7 => 113 | 19 => 137 | 20 => 138 | 10 => 128 | 11 => 129 | 12 => 130 | 13 => 131 | 14 => 132 | 15 => 133 | 16 => 134 | 17 => 135 | 18 => 136 | 30 => 150 | 31 => 151 | 32 => 152 | 33 => 153 | 34 => 154 | 35 => 155 | 40 => 161 | n => n, fun | 23 => 46 | 25 => 3 | 3 => 3 | 32 => 148 | 22 => 46 | 0 => 0 | 44 => 174 | 46 => 150 | 4 => 4 | 36 => 167 | 35 => 166 | 41 => 128 | 5 => 5 | 9 => 9 | 53 => 192 | 57 => 196 | 63 => 202 | 64 => 61 | n => n, fun | n => n⟩
theorem Tryz.sort101 : Go.Proofs.SlLaysM.n5 Tryz.prog Tryz.sort101_ren := {
  mixed := by kernel_rfl
  f5 := ⟨Tryz.f101.name, by decide, Tryz.func101.trans (congrArg some (by kernel_rfl))⟩
  f7 := ⟨Tryz.f113.name, by decide, Tryz.func113.trans (congrArg some (by kernel_rfl))⟩
  f8 := Tryz.func114.trans (congrArg some (by kernel_rfl))
  f10 := ⟨Tryz.f128.name, by decide, Tryz.func128.trans (congrArg some (by kernel_rfl))⟩
  f11 := ⟨Tryz.f129.name, by decide, Tryz.func129.trans (congrArg some (by kernel_rfl))⟩
  f12 := ⟨Tryz.f130.name, by decide, Tryz.func130.trans (congrArg some (by kernel_rfl))⟩
  f13 := ⟨Tryz.f131.name, by decide, Tryz.func131.trans (congrArg some (by kernel_rfl))⟩
  f14 := ⟨Tryz.f132.name, by decide, Tryz.func132.trans (congrArg some (by kernel_rfl))⟩
  f15 := ⟨Tryz.f133.name, by decide, Tryz.func133.trans (congrArg some (by kernel_rfl))⟩
  f16 := ⟨Tryz.f134.name, by decide, Tryz.func134.trans (congrArg some (by kernel_rfl))⟩
  f17 := ⟨Tryz.f135.name, by decide, Tryz.func135.trans (congrArg some (by kernel_rfl))⟩
  f18 := ⟨Tryz.f136.name, by decide, Tryz.func136.trans (congrArg some (by kernel_rfl))⟩
  f19 := Tryz.func137.trans (congrArg some (by kernel_rfl))
  f20 := Tryz.func138.trans (congrArg some (by kernel_rfl))
  f30 := ⟨Tryz.f150.name, by decide, Tryz.func150.trans (congrArg some (by kernel_rfl))⟩
  f31 := Tryz.func151.trans (congrArg some (by kernel_rfl))
  f32 := Tryz.func152.trans (congrArg some (by kernel_rfl))
  f33 := ⟨Tryz.f153.name, by decide, Tryz.func153.trans (congrArg some (by kernel_rfl))⟩
  f34 := ⟨Tryz.f154.name, by decide, Tryz.func154.trans (congrArg some (by kernel_rfl))⟩
  f35 := ⟨Tryz.f155.name, by decide, Tryz.func155.trans (congrArg some (by kernel_rfl))⟩
  f40 := ⟨Tryz.f161.name, by decide, Tryz.func161.trans (congrArg some (by kernel_rfl))⟩
  t0 := Tryz.underlying0
  a0 := Tryz.isAgg0
  z0 := Tryz.sizeOf0
  v0 := Tryz.zeroValue0
  t3 := Tryz.underlying3
  a3 := Tryz.isAgg3
  z3 := Tryz.sizeOf3
  v3 := Tryz.zeroValue3
  t4 := Tryz.underlying4
  a4 := Tryz.isAgg4
  z4 := Tryz.sizeOf4
  v4 := Tryz.zeroValue4
  t5 := Tryz.underlying5
  a5 := Tryz.isAgg5
  z5 := Tryz.sizeOf5
  v5 := Tryz.zeroValue5
  t9 := Tryz.underlying9
  a9 := Tryz.isAgg9
  z9 := Tryz.sizeOf9
  v9 := Tryz.zeroValue9
  t22 := Tryz.underlying46
  a22 := Tryz.isAgg46
  z22 := Tryz.sizeOf46
  v22 := Tryz.zeroValue46
  t23 := Tryz.underlying46
  a23 := Tryz.isAgg46
  z23 := Tryz.sizeOf46
  v23 := Tryz.zeroValue46
  t25 := Tryz.underlying3
  a25 := Tryz.isAgg3
  z25 := Tryz.sizeOf3
  v25 := Tryz.zeroValue3
  t32 := Tryz.underlying148
  a32 := Tryz.isAgg148
  z32 := Tryz.sizeOf148
  v32 := Tryz.zeroValue148
  t35 := Tryz.underlying166
  a35 := Tryz.isAgg166
  z35 := Tryz.sizeOf166
  v35 := Tryz.zeroValue166
  t36 := Tryz.underlying167
  a36 := Tryz.isAgg167
  z36 := Tryz.sizeOf167
  v36 := Tryz.zeroValue167
  t41 := Tryz.underlying128
  a41 := Tryz.isAgg128
  z41 := Tryz.sizeOf128
  v41 := Tryz.zeroValue128
  t44 := Tryz.underlying174
  a44 := Tryz.isAgg174
  z44 := Tryz.sizeOf174
  v44 := Tryz.zeroValue174
  t46 := Tryz.underlying150
  a46 := Tryz.isAgg150
  z46 := Tryz.sizeOf150
  v46 := Tryz.zeroValue150
  t53 := Tryz.underlying192
  a53 := Tryz.isAgg192
  z53 := Tryz.sizeOf192
  v53 := Tryz.zeroValue192
  t57 := Tryz.underlying196
  a57 := Tryz.isAgg196
  z57 := Tryz.sizeOf196
  v57 := Tryz.zeroValue196
  t63 := Tryz.underlying202
  a63 := Tryz.isAgg202
  z63 := Tryz.sizeOf202
  v63 := Tryz.zeroValue202
  t64 := Tryz.underlying61
  a64 := Tryz.isAgg61
  z64 := Tryz.sizeOf61
  v64 := Tryz.zeroValue61 }
theorem Tryz.sorts82 (m : Nat) : AnyZI.SortsIn Tryz.prog Tryz.sorted82_ren Fence.wide m :=
  ⟨fun blk off cap ss W hH hblk hsz => callsIn_wide.2 (AnyM.slices_Sort_int Tryz.sort101 blk off cap ss W hH hblk hsz),
   fun p cap W => callsIn_wide.2 (AnyM.slices_Sort_int_none Tryz.sort101 p cap W)⟩
def Tryz.lays171_ren : Go.Shelf.Ren := ⟨fun | 171 => 63 | 243 => 87 | 246 => 103 | 283 => 115 | 284 => 116 | 285 => 117 | 286 => 118 | 129 => 138 | 317 => 139 | 318 => 140 | 319 => 141 | 320 => 142 | 337 => 156 | 338 => 157 | n => n, fun | 3 => 3 | 9 => 9 | 2 => 2 | 4 => 4 | 171 => 149 | 0 => 0 | 53 => 150 | 37 => 119 | 5 => 5 | 173 => 153 | 212 => 177 | 51 => 174 | 20 => 20 | 213 => 178 | 46 => 148 | 232 => 204 | 233 => 205 | n => n, fun | 17 => 0 | 18 => 6 | 19 => 7 | n => n⟩
theorem Tryz.lays171 : Go.Proofs.Lays.n171 Tryz.prog Tryz.lays171_ren := {
  mixed := by kernel_rfl
  f129 := Tryz.func138.trans (congrArg some (by kernel_rfl))
  f171 := Tryz.func63.trans (congrArg some (by kernel_rfl))
  f243 := Tryz.func87.trans (congrArg some (by kernel_rfl))
  f246 := Tryz.func103.trans (congrArg some (by kernel_rfl))
  f283 := Tryz.func115.trans (congrArg some (by kernel_rfl))
  f284 := Tryz.func116.trans (congrArg some (by kernel_rfl))
  f285 := Tryz.func117.trans (congrArg some (by kernel_rfl))
  f286 := Tryz.func118.trans (congrArg some (by kernel_rfl))
  f317 := Tryz.func139.trans (congrArg some (by kernel_rfl))
  f318 := Tryz.func140.trans (congrArg some (by kernel_rfl))
  f319 := Tryz.func141.trans (congrArg some (by kernel_rfl))
  f320 := Tryz.func142.trans (congrArg some (by kernel_rfl))
  f337 := Tryz.func156.trans (congrArg some (by kernel_rfl))
  f338 := Tryz.func157.trans (congrArg some (by kernel_rfl))
  t0 := Tryz.underlying0
  a0 := Tryz.isAgg0
  z0 := Tryz.sizeOf0
  v0 := Tryz.zeroValue0
  t2 := Tryz.underlying2
  a2 := Tryz.isAgg2
  z2 := Tryz.sizeOf2
  v2 := Tryz.zeroValue2
  t3 := Tryz.underlying3
  a3 := Tryz.isAgg3
  z3 := Tryz.sizeOf3
  v3 := Tryz.zeroValue3
  t4 := Tryz.underlying4
  a4 := Tryz.isAgg4
  z4 := Tryz.sizeOf4
  v4 := Tryz.zeroValue4
  t5 := Tryz.underlying5
  a5 := Tryz.isAgg5
  z5 := Tryz.sizeOf5
  v5 := Tryz.zeroValue5
  t9 := Tryz.underlying9
  a9 := Tryz.isAgg9
  z9 := Tryz.sizeOf9
  v9 := Tryz.zeroValue9
  t20 := Tryz.underlying20
  a20 := Tryz.isAgg20
  z20 := Tryz.sizeOf20
  v20 := Tryz.zeroValue20
  t37 := Tryz.underlying119
  a37 := Tryz.isAgg119
  z37 := Tryz.sizeOf119
  v37 := Tryz.zeroValue119
  t46 := Tryz.underlying148
  a46 := Tryz.isAgg148
  z46 := Tryz.sizeOf148
  v46 := Tryz.zeroValue148
  t51 := Tryz.underlying174
  a51 := Tryz.isAgg174
  z51 := Tryz.sizeOf174
  v51 := Tryz.zeroValue174
  t53 := Tryz.underlying150
  a53 := Tryz.isAgg150
  z53 := Tryz.sizeOf150
  v53 := Tryz.zeroValue150
  t171 := Tryz.underlying149
  a171 := Tryz.isAgg149
  z171 := Tryz.sizeOf149
  v171 := Tryz.zeroValue149
  t173 := Tryz.underlying153
  a173 := Tryz.isAgg153
  z173 := Tryz.sizeOf153
  v173 := Tryz.zeroValue153
  t212 := Tryz.underlying177
  a212 := Tryz.isAgg177
  z212 := Tryz.sizeOf177
  v212 := Tryz.zeroValue177
  t213 := Tryz.underlying178
  a213 := Tryz.isAgg178
  z213 := Tryz.sizeOf178
  t232 := Tryz.underlying204
  a232 := Tryz.isAgg204
  z232 := Tryz.sizeOf204
  v232 := Tryz.zeroValue204
  t233 := Tryz.underlying205
  a233 := Tryz.isAgg205
  z233 := Tryz.sizeOf205
  v233 := Tryz.zeroValue205
  g17 := by kernel_rfl
  g18 := by kernel_rfl
  g19 := by kernel_rfl }
def Tryz.lays161_ren : Go.Shelf.Ren := ⟨fun | 161 => 79 | 231 => 94 | 227 => 95 | 233 => 96 | 235 => 97 | 228 => 106 | 197 => 107 | 151 => 108 | 260 => 121 | 152 => 122 | 137 => 143 | 119 => 144 | 224 => 145 | 225 => 146 | 217 => 158 | 266 => 162 | n => n, fun | 9 => 9 | 4 => 4 | 3 => 3 | 5 => 5 | 117 => 133 | 116 => 132 | 0 => 0 | 124 => 136 | 105 => 140 | 21 => 21 | 119 => 179 | 46 => 148 | 139 => 182 | 138 => 181 | n => n, fun | 3 => 2 | 4 => 3 | n => n⟩
theorem Tryz.lays161 : Go.Proofs.Lays.n161 Tryz.prog Tryz.lays161_ren := {
  mixed := by kernel_rfl
  f119 := Tryz.func144.trans (congrArg some (by kernel_rfl))
  f137 := Tryz.func143.trans (congrArg some (by kernel_rfl))
  f151 := Tryz.func108.trans (congrArg some (by kernel_rfl))
  f152 := Tryz.func122.trans (congrArg some (by kernel_rfl))
  f161 := Tryz.func79.trans (congrArg some (by kernel_rfl))
  f197 := Tryz.func107.trans (congrArg some (by kernel_rfl))
  f217 := Tryz.func158.trans (congrArg some (by kernel_rfl))
  f224 := Tryz.func145.trans (congrArg some (by kernel_rfl))
  f225 := Tryz.func146.trans (congrArg some (by kernel_rfl))
  f227 := Tryz.func95.trans (congrArg some (by kernel_rfl))
  f228 := Tryz.func106.trans (congrArg some (by kernel_rfl))
  f231 := Tryz.func94.trans (congrArg some (by kernel_rfl))
  f233 := Tryz.func96.trans (congrArg some (by kernel_rfl))
  f235 := Tryz.func97.trans (congrArg some (by kernel_rfl))
  f260 := Tryz.func121.trans (congrArg some (by kernel_rfl))
  f266 := Tryz.func162.trans (congrArg some (by kernel_rfl))
  t0 := Tryz.underlying0
  a0 := Tryz.isAgg0
  z0 := Tryz.sizeOf0
  v0 := Tryz.zeroValue0
  t3 := Tryz.underlying3
  a3 := Tryz.isAgg3
  z3 := Tryz.sizeOf3
  v3 := Tryz.zeroValue3
  t4 := Tryz.underlying4
  a4 := Tryz.isAgg4
  z4 := Tryz.sizeOf4
  v4 := Tryz.zeroValue4
  t5 := Tryz.underlying5
  a5 := Tryz.isAgg5
  z5 := Tryz.sizeOf5
  v5 := Tryz.zeroValue5
  t9 := Tryz.underlying9
  a9 := Tryz.isAgg9
  z9 := Tryz.sizeOf9
  v9 := Tryz.zeroValue9
  t21 := Tryz.underlying21
  a21 := Tryz.isAgg21
  z21 := Tryz.sizeOf21
  v21 := Tryz.zeroValue21
  t46 := Tryz.underlying148
  a46 := Tryz.isAgg148
  z46 := Tryz.sizeOf148
  v46 := Tryz.zeroValue148
  t105 := Tryz.underlying140
  a105 := Tryz.isAgg140
  z105 := Tryz.sizeOf140
  v105 := Tryz.zeroValue140
  t116 := Tryz.underlying132
  a116 := Tryz.isAgg132
  z116 := Tryz.sizeOf132
  t117 := Tryz.underlying133
  a117 := Tryz.isAgg133
  z117 := Tryz.sizeOf133
  v117 := Tryz.zeroValue133
  t119 := Tryz.underlying179
  a119 := Tryz.isAgg179
  z119 := Tryz.sizeOf179
  t124 := Tryz.underlying136
  a124 := Tryz.isAgg136
  z124 := Tryz.sizeOf136
  v124 := Tryz.zeroValue136
  t138 := Tryz.underlying181
  a138 := Tryz.isAgg181
  z138 := Tryz.sizeOf181
  v138 := Tryz.zeroValue181
  t139 := Tryz.underlying182
  a139 := Tryz.isAgg182
  z139 := Tryz.sizeOf182
  v139 := Tryz.zeroValue182
  g3 := by kernel_rfl
  g4 := by kernel_rfl }
def Tryz.lays103_ren : Go.Shelf.Ren := ⟨fun | 103 => 80 | 210 => 98 | 206 => 109 | n => n, fun | 9 => 9 | 4 => 4 | 24 => 108 | 3 => 3 | n => n, fun | n => n⟩
theorem Tryz.lays103 : Go.Proofs.Lays.n103 Tryz.prog Tryz.lays103_ren := {
  mixed := by kernel_rfl
  f103 := Tryz.func80.trans (congrArg some (by kernel_rfl))
  f206 := Tryz.func109.trans (congrArg some (by kernel_rfl))
  f210 := Tryz.func98.trans (congrArg some (by kernel_rfl))
  t3 := Tryz.underlying3
  a3 := Tryz.isAgg3
  z3 := Tryz.sizeOf3
  v3 := Tryz.zeroValue3
  t4 := Tryz.underlying4
  a4 := Tryz.isAgg4
  z4 := Tryz.sizeOf4
  v4 := Tryz.zeroValue4
  t9 := Tryz.underlying9
  a9 := Tryz.isAgg9
  z9 := Tryz.sizeOf9
  v9 := Tryz.zeroValue9
  t24 := Tryz.underlying108
  a24 := Tryz.isAgg108
  z24 := Tryz.sizeOf108
  v24 := Tryz.zeroValue108 }
def Tryz.lays172_ren : Go.Shelf.Ren := ⟨fun | 172 => 99 | 244 => 110 | 245 => 111 | 247 => 123 | 279 => 124 | 280 => 125 | 281 => 126 | 282 => 127 | 287 => 147 | 316 => 148 | 171 => 63 | 205 => 149 | 321 => 159 | 322 => 160 | 243 => 87 | 246 => 103 | 283 => 115 | 284 => 116 | 285 => 117 | 286 => 118 | 129 => 138 | 317 => 139 | 318 => 140 | 319 => 141 | 320 => 142 | 337 => 156 | 338 => 157 | n => n, fun | 9 => 9 | 3 => 3 | 75 => 124 | 76 => 125 | 4 => 4 | 5 => 5 | 167 => 159 | 37 => 119 | 0 => 0 | 85 => 160 | 2 => 2 | 168 => 162 | 53 => 150 | 175 => 186 | 46 => 148 | 210 => 190 | 127 => 139 | 145 => 201 | 143 => 199 | 21 => 21 | 171 => 149 | 173 => 153 | 212 => 177 | 51 => 174 | 20 => 20 | 213 => 178 | 232 => 204 | 233 => 205 | 80 => 127 | n => n, fun | 15 => 4 | 16 => 5 | 17 => 0 | 18 => 6 | 19 => 7 | n => n⟩
theorem Tryz.lays172 : Go.Proofs.Lays.n172 Tryz.prog Tryz.lays172_ren := {
  mixed := by kernel_rfl
  f129 := Tryz.func138.trans (congrArg some (by kernel_rfl))
  f171 := Tryz.func63.trans (congrArg some (by kernel_rfl))
  f172 := Tryz.func99.trans (congrArg some (by kernel_rfl))
  f205 := Tryz.func149.trans (congrArg some (by kernel_rfl))
  f243 := Tryz.func87.trans (congrArg some (by kernel_rfl))
  f244 := Tryz.func110.trans (congrArg some (by kernel_rfl))
  f245 := Tryz.func111.trans (congrArg some (by kernel_rfl))
  f246 := Tryz.func103.trans (congrArg some (by kernel_rfl))
  f247 := Tryz.func123.trans (congrArg some (by kernel_rfl))
  f279 := Tryz.func124.trans (congrArg some (by kernel_rfl))
  f280 := Tryz.func125.trans (congrArg some (by kernel_rfl))
  f281 := Tryz.func126.trans (congrArg some (by kernel_rfl))
  f282 := Tryz.func127.trans (congrArg some (by kernel_rfl))
  f283 := Tryz.func115.trans (congrArg some (by kernel_rfl))
  f284 := Tryz.func116.trans (congrArg some (by kernel_rfl))
  f285 := Tryz.func117.trans (congrArg some (by kernel_rfl))
  f286 := Tryz.func118.trans (congrArg some (by kernel_rfl))
  f287 := Tryz.func147.trans (congrArg some (by kernel_rfl))
  f316 := Tryz.func148.trans (congrArg some (by kernel_rfl))
  f317 := Tryz.func139.trans (congrArg some (by kernel_rfl))
  f318 := Tryz.func140.trans (congrArg some (by kernel_rfl))
  f319 := Tryz.func141.trans (congrArg some (by kernel_rfl))
  f320 := Tryz.func142.trans (congrArg some (by kernel_rfl))
  f321 := Tryz.func159.trans (congrArg some (by kernel_rfl))
  f322 := Tryz.func160.trans (congrArg some (by kernel_rfl))
  f337 := Tryz.func156.trans (congrArg some (by kernel_rfl))
  f338 := Tryz.func157.trans (congrArg some (by kernel_rfl))
  t0 := Tryz.underlying0
  a0 := Tryz.isAgg0
  z0 := Tryz.sizeOf0
  v0 := Tryz.zeroValue0
  t2 := Tryz.underlying2
  a2 := Tryz.isAgg2
  z2 := Tryz.sizeOf2
  v2 := Tryz.zeroValue2
  t3 := Tryz.underlying3
  a3 := Tryz.isAgg3
  z3 := Tryz.sizeOf3
  v3 := Tryz.zeroValue3
  t4 := Tryz.underlying4
  a4 := Tryz.isAgg4
  z4 := Tryz.sizeOf4
  v4 := Tryz.zeroValue4
  t5 := Tryz.underlying5
  a5 := Tryz.isAgg5
  z5 := Tryz.sizeOf5
  v5 := Tryz.zeroValue5
  t9 := Tryz.underlying9
  a9 := Tryz.isAgg9
  z9 := Tryz.sizeOf9
  v9 := Tryz.zeroValue9
  t20 := Tryz.underlying20
  a20 := Tryz.isAgg20
  z20 := Tryz.sizeOf20
  v20 := Tryz.zeroValue20
  t21 := Tryz.underlying21
  a21 := Tryz.isAgg21
  z21 := Tryz.sizeOf21
  v21 := Tryz.zeroValue21
  t37 := Tryz.underlying119
  a37 := Tryz.isAgg119
  z37 := Tryz.sizeOf119
  v37 := Tryz.zeroValue119
  t46 := Tryz.underlying148
  a46 := Tryz.isAgg148
  z46 := Tryz.sizeOf148
  v46 := Tryz.zeroValue148
  t51 := Tryz.underlying174
  a51 := Tryz.isAgg174
  z51 := Tryz.sizeOf174
  v51 := Tryz.zeroValue174
  t53 := Tryz.underlying150
  a53 := Tryz.isAgg150
  z53 := Tryz.sizeOf150
  v53 := Tryz.zeroValue150
  t75 := Tryz.underlying124
  a75 := Tryz.isAgg124
  z75 := Tryz.sizeOf124
  v75 := Tryz.zeroValue124
  t76 := Tryz.underlying125
  a76 := Tryz.isAgg125
  z76 := Tryz.sizeOf125
  v76 := Tryz.zeroValue125
  t85 := Tryz.underlying160
  a85 := Tryz.isAgg160
  z85 := Tryz.sizeOf160
  v85 := Tryz.zeroValue160
  t127 := Tryz.underlying139
  a127 := Tryz.isAgg139
  z127 := Tryz.sizeOf139
  v127 := Tryz.zeroValue139
  t143 := Tryz.underlying199
  a143 := Tryz.isAgg199
  z143 := Tryz.sizeOf199
  v143 := Tryz.zeroValue199
  t145 := Tryz.underlying201
  a145 := Tryz.isAgg201
  z145 := Tryz.sizeOf201
  v145 := Tryz.zeroValue201
  t167 := Tryz.underlying159
  a167 := Tryz.isAgg159
  z167 := Tryz.sizeOf159
  v167 := Tryz.zeroValue159
  t168 := Tryz.underlying162
  a168 := Tryz.isAgg162
  z168 := Tryz.sizeOf162
  v168 := Tryz.zeroValue162
  t171 := Tryz.underlying149
  a171 := Tryz.isAgg149
  z171 := Tryz.sizeOf149
  v171 := Tryz.zeroValue149
  t173 := Tryz.underlying153
  a173 := Tryz.isAgg153
  z173 := Tryz.sizeOf153
  v173 := Tryz.zeroValue153
  t175 := Tryz.underlying186
  a175 := Tryz.isAgg186
  z175 := Tryz.sizeOf186
  v175 := Tryz.zeroValue186
  t210 := Tryz.underlying190
  a210 := Tryz.isAgg190
  z210 := Tryz.sizeOf190
  v210 := Tryz.zeroValue190
  t212 := Tryz.underlying177
  a212 := Tryz.isAgg177
  z212 := Tryz.sizeOf177
  v212 := Tryz.zeroValue177
  t213 := Tryz.underlying178
  a213 := Tryz.isAgg178
  z213 := Tryz.sizeOf178
  t232 := Tryz.underlying204
  a232 := Tryz.isAgg204
  z232 := Tryz.sizeOf204
  v232 := Tryz.zeroValue204
  t233 := Tryz.underlying205
  a233 := Tryz.isAgg205
  z233 := Tryz.sizeOf205
  v233 := Tryz.zeroValue205
  g15 := by kernel_rfl
  g16 := by kernel_rfl
  g17 := by kernel_rfl
  g18 := by kernel_rfl
  g19 := by kernel_rfl }
def Tryz.lays156_ren : Go.Shelf.Ren := ⟨fun | 156 => 66 | 165 => 89 | 166 => 90 | 169 => 91 | 240 => 104 | 241 => 105 | 276 => 119 | 277 => 120 | n => n, fun | 31 => 89 | 9 => 9 | 3 => 3 | 4 => 4 | 0 => 0 | 20 => 20 | 72 => 121 | 76 => 125 | 70 => 118 | 37 => 119 | 75 => 124 | 127 => 139 | 164 => 155 | 5 => 5 | 80 => 127 | n => n, fun | n => n⟩
theorem Tryz.lays156 : Go.Proofs.Lays.n156 Tryz.prog Tryz.lays156_ren := {
  mixed := by kernel_rfl
  f156 := Tryz.func66.trans (congrArg some (by kernel_rfl))
  f165 := Tryz.func89.trans (congrArg some (by kernel_rfl))
  f166 := Tryz.func90.trans (congrArg some (by kernel_rfl))
  f169 := Tryz.func91.trans (congrArg some (by kernel_rfl))
  f240 := Tryz.func104.trans (congrArg some (by kernel_rfl))
  f241 := Tryz.func105.trans (congrArg some (by kernel_rfl))
  f276 := Tryz.func119.trans (congrArg some (by kernel_rfl))
  f277 := Tryz.func120.trans (congrArg some (by kernel_rfl))
  t0 := Tryz.underlying0
  a0 := Tryz.isAgg0
  z0 := Tryz.sizeOf0
  v0 := Tryz.zeroValue0
  t3 := Tryz.underlying3
  a3 := Tryz.isAgg3
  z3 := Tryz.sizeOf3
  v3 := Tryz.zeroValue3
  t4 := Tryz.underlying4
  a4 := Tryz.isAgg4
  z4 := Tryz.sizeOf4
  v4 := Tryz.zeroValue4
  t9 := Tryz.underlying9
  a9 := Tryz.isAgg9
  z9 := Tryz.sizeOf9
  v9 := Tryz.zeroValue9
  t20 := Tryz.underlying20
  a20 := Tryz.isAgg20
  z20 := Tryz.sizeOf20
  v20 := Tryz.zeroValue20
  t31 := Tryz.underlying89
  a31 := Tryz.isAgg89
  z31 := Tryz.sizeOf89
  v31 := Tryz.zeroValue89
  t37 := Tryz.underlying119
  a37 := Tryz.isAgg119
  z37 := Tryz.sizeOf119
  v37 := Tryz.zeroValue119
  t70 := Tryz.underlying118
  a70 := Tryz.isAgg118
  z70 := Tryz.sizeOf118
  v70 := Tryz.zeroValue118
  t72 := Tryz.underlying121
  a72 := Tryz.isAgg121
  z72 := Tryz.sizeOf121
  v72 := Tryz.zeroValue121
  t75 := Tryz.underlying124
  a75 := Tryz.isAgg124
  z75 := Tryz.sizeOf124
  v75 := Tryz.zeroValue124
  t76 := Tryz.underlying125
  a76 := Tryz.isAgg125
  z76 := Tryz.sizeOf125
  v76 := Tryz.zeroValue125
  t127 := Tryz.underlying139
  a127 := Tryz.isAgg139
  z127 := Tryz.sizeOf139
  v127 := Tryz.zeroValue139
  t164 := Tryz.underlying155
  a164 := Tryz.isAgg155
  z164 := Tryz.sizeOf155
  v164 := Tryz.zeroValue155 }
theorem Tryz.bx156 : Builder.Extra Tryz.prog Tryz.lays156_ren := {
  sizeBuilder := by kernel_rfl
  liesBuilder := by kernel_rfl
  t5 := Tryz.underlying5
  a5 := Tryz.isAgg5
  z5 := Tryz.sizeOf5
  v5 := Tryz.zeroValue5
  infoByte := by kernel_rfl
  cellsByte := by kernel_rfl
  sizeByte := by kernel_rfl
  neB5 := by decide }
end Go.Proofs
namespace Go.Proofs.YtcapifnaceegmaaGreatDoor
open Go.RowKit Go.Maps Go.Shelf
set_option linter.unusedSimpArgs false
set_option linter.unusedVariables false
set_option linter.unusedSectionVars false
def EntsOf (ents : Array MapEntry) (l : List (Int × Int × Nat)) : Prop := ents.toList = l.map fun e => ⟨.int .i64 e.1, .int .i64 e.2.1, e.2.2⟩
abbrev R0 : Value → Option (DataW Unit × List MemPlace) := fun _ => some (.lit (.bool false), [])
theorem owns_im {P : Program} {w : World} {b : Nat} {M : IMap} {ents : Array MapEntry} (hk : P.underlying 3 = some (.int .i64)) (hM : imOk M = true) (hb : w.heap[b]? = some (.map ents M.2)) (he : EntsOf ents M.1) :
    ∃ D, w.ownsMap P 3 R0 b M.1.length D ∧ (intKeys D).Perm (M.1.map fun e => e.1) ∧ Maps.size D = M.1.length := by
  unfold imOk at hM
  have h1 := cond_left hM; rw [h1] at hM; simp only [cond_true] at hM
  have h2 := cond_left hM; rw [h2] at hM; simp only [cond_true] at hM
  have h3 := cond_left hM; rw [h3] at hM; simp only [cond_true] at hM
  have hlen : M.1.length ≤ 1000000 := Nat.le_of_ble_eq_true h1
  have hall : ∀ e ∈ M.1, e.2.2 < M.2 ∧ -9223372036854775808 ≤ e.1 ∧ e.1 ≤ 9223372036854775807 := fun e he => by
    have := List.all_eq_true.1 h2 e he
    have a1 := cond_left this; rw [a1] at this; simp only [cond_true] at this
    have a2 := cond_left this; rw [a2] at this; simp only [cond_true] at this
    exact ⟨Nat.le_of_ble_eq_true a1, of_decide_eq_true a2, of_decide_eq_true this⟩
  have hkey : ∀ e ∈ M.1, Go.keyOf P 3 (.int .i64 e.1) = some (.int .i64 e.1) := fun e he => by
    obtain ⟨-, h4, h5⟩ := hall e he
    exact keyOf_int_mk hk (by show (decide (_ ≤ _) && decide (_ ≤ _)) = true; rw [Bool.and_eq_true]; exact ⟨decide_eq_true h4, decide_eq_true h5⟩)
  have hsz : ents.size = M.1.length := by rw [← Array.length_toList, he, List.length_map]
  have hrd : ∀ e ∈ M.1, Go.WideElems.rd P 3 R0 ⟨.int .i64 e.1, .int .i64 e.2.1, e.2.2⟩ = some (.int .i64 e.1, .lit (.bool false)) := fun e he => by
    simp [Go.WideElems.rd, hkey e he, R0]
  refine ⟨_, ⟨ents, M.2, hb, ⟨?_, ⟨?_, ?_, ?_⟩, ?_⟩, Nat.le_of_eq hsz, rfl⟩, ?_, ?_⟩
  · rw [hsz]; unfold maxLen; omega
  · intro x hx; rw [he] at hx; obtain ⟨e, h4, rfl⟩ := List.mem_map.1 hx; exact (hall e h4).1
  · rw [he, List.map_map]; exact nodupB_ok h3
  · rw [he, List.map_map]
    have := nodupB_ok hM
    rw [show (fun x : MapEntry => x.key) ∘ (fun e : Int × Int × Nat => (⟨.int .i64 e.1, .int .i64 e.2.1, e.2.2⟩ : MapEntry)) = (Value.int .i64) ∘ fun e => e.1 from rfl, ← List.map_map]
    exact List.pairwise_map.2 (this.imp fun hne h => hne (by cases h; rfl))
  · intro x hx; rw [he] at hx; obtain ⟨e, h4, rfl⟩ := List.mem_map.1 hx; exact ⟨_, hrd e h4⟩
  · show (List.map _ _).Perm _
    refine ((WideShapes.sorted_perm _).map _).trans ?_
    rw [he, List.map_map, List.map_map]
    refine .of_eq (List.map_congr_left fun e h4 => ?_)
    simp [Go.WideElems.rg, hrd e h4]; rfl
  · simp [Maps.size, length_sorted, hsz]
theorem imOk_len {M : IMap} (hM : imOk M = true) : M.1.length ≤ 1000000 := Nat.le_of_ble_eq_true (cond_left hM)
theorem sortedKeys_run {w : World} {Bm b : Nat} {M : IMap} {ents : Array MapEntry} (hM : imOk M = true) (hBm : w.cell? ⟨Bm, 0, none⟩ = some (.map (some b))) (hlt : Bm < w.heap.size) (hb : w.heap[b]? = some (.map ents M.2)) (he : EntsOf ents M.1) :
    CallsIn Fence.wide 5 Tryz.prog 82 #[.func (.func 102) #[] #[.pointer (some ⟨Bm, 0, none⟩)]] w fun e w' => ∃ v, e = .returned v ∧ w'.ownsRow w.heap.size 3 1 v (imKeys M).length ((imKeys M).map (Value.int .i64)) ∧ Below w.heap.size w w' := by
  obtain ⟨D, hown, hperm, hsize⟩ := owns_im (P := Tryz.prog) (by kernel_rfl) hM hb he
  have hlen := imOk_len hM
  have hseq : SeqGives Fence.wide 2 Tryz.prog 102 #[.pointer (some ⟨Bm, 0, none⟩)] encZ (fun ss => ss.Perm (intKeys D)) (Maps.size D) w :=
    AnyZI.keys_gives (ρ := Tryz.keys83_ren) { Tryz.keys83 with } Fence.wide _ trivial rfl (by omega) Bm b _ D w hlt hBm hown
  have hrun := AnyZI.sorted_in Tryz.sorted82 Fence.wide 5 trivial trivial trivial trivial rfl (by omega) (Tryz.sorts82 _) (enters_of Tryz.func101 (by kernel_rfl) rfl) 102 #[.pointer (some ⟨Bm, 0, none⟩)] trivial (enters_of Tryz.func102 (by kernel_rfl) rfl) _ _ (by rw [hsize]; unfold maxLen; omega) (by rw [hsize]; omega) _ hseq
  refine CallsIn.mono (show CallsIn _ _ Tryz.prog 82 _ _ _ from hrun) ?_
  rintro e w' ⟨v, ss, rfl, hS, hrow, -, hbel⟩
  have hp := hS.trans hperm
  rw [mergeSort_sortZ hp] at hrow
  have hl : ss.length = (imKeys M).length := hp.length_eq.trans (sortZ_perm _).length_eq.symm
  rw [hl] at hrow
  exact ⟨v, rfl, hrow, hbel⟩
theorem reads_row {w : World} {S : Nat → Nat → Prop} {base : Nat} {v : Value} {l : List Int} (h : w.ownsRow base 3 1 v l.length (l.map (Value.int .i64))) (hS : ∀ b o, base ≤ b → b < w.heap.size → S b o) : Reads S w (.sl 1 (Enc.encL l)) v := by
  rcases h.2 with ⟨rfl, h0⟩ | ⟨g, cap, cur, rfl, hg, hcur, hn, -, hsz, htk⟩
  · have : l = [] := List.eq_nil_of_length_eq_zero h0
    subst this
    exact .sl 1 [] none 0 0 0 (fun _ _ => undef) (Nat.le_refl _) (fun h => absurd rfl h) (fun i e h => by simp at h) (fun i e j c h => by simp at h) (fun i e j c h => by simp at h) (fun i e j c h => by simp at h)
  · have hlt : g < w.heap.size := heap_lt hcur
    have hget : ∀ (i : Nat) (e : List C), (Enc.encL l)[i]? = some e → ∃ x, l[i]? = some x ∧ e = [.v (.int .i64 x)] := fun i e hi => by
      rw [Enc.map, List.getElem?_map] at hi
      cases hx : l[i]? with
      | none => rw [hx] at hi; cases hi
      | some x => rw [hx] at hi; cases hi; exact ⟨x, rfl, rfl⟩
    have hcell : ∀ (i : Nat) (x : Int), l[i]? = some x → w.cell? ⟨g, i, none⟩ = some (.int .i64 x) := fun i x hx => by
      have hi : i < l.length := (List.getElem?_eq_some_iff.1 hx).1
      have h1 : (cur.toList.take (l.length * 1))[i]? = some (.int .i64 x) := by rw [htk, List.getElem?_map, hx]; rfl
      rw [List.getElem?_take] at h1
      rw [if_pos (by omega)] at h1
      simp only [World.cell?, hcur, Option.isSome_none, Bool.false_eq_true, if_false]
      rw [← Array.getElem?_toList]; exact h1
    have := Reads.sl (S := S) (w := w) 1 (Enc.encL l) (some ⟨g, 0, none⟩) cap g 0 (fun i j => .int .i64 (l.getD i 0)) (by rw [Enc.len]; exact hn) (fun _ => rfl)
      (fun i e hi => by obtain ⟨x, -, rfl⟩ := hget i e hi; rfl)
      (fun i e j c hi hj => by
        obtain ⟨x, hx, rfl⟩ := hget i e hi
        cases j with
        | zero => rw [List.getD_eq_getElem?_getD, hx]; simpa using hcell i x hx
        | succ j => simp at hj)
      (fun i e j c hi hj => hS _ _ hg hlt)
      (fun i e j c hi hj => by
        obtain ⟨x, hx, rfl⟩ := hget i e hi
        cases j with
        | zero => simp at hj; subst hj; rw [List.getD_eq_getElem?_getD, hx]; exact Reads.v _ rfl
        | succ j => simp at hj)
    rw [Enc.len] at this; exact this
theorem sortedKeys_call {m : Mem} {b i : Nat} {T : TypeId} {M : IMap} (hb : lk m.hp b = some (.cells T [.mp i])) (hi : lk m.hp i = some (.mp (imE M.1) M.2)) (hM : imOk M = true) :
    CallM Tryz.prog 82 [.one (.fn 102 [(b, 0)])] m (.v (.one (.d (.sl 1 (Enc.encL (imKeys M)))))) m := by
  refine ⟨enters_of Tryz.func82 (by kernel_rfl) rfl, fun E V w vs hP H hn hargs => ?_⟩
  obtain ⟨hbl, o, ho, us, rfl, hus⟩ := H.own b _ hb
  obtain ⟨u, hu, -, rfl⟩ := hus.2 0 _ rfl
  obtain ⟨-, o2, ho2, ents, rfl, hsz, hents⟩ := H.own i _ hi
  obtain ⟨a, ha, -, rfl⟩ := hargs.2 0 _ rfl
  have hvs : vs = #[.func (.func 102) #[] #[.pointer (some ⟨V.ι b, 0, none⟩)]] := by
    have h1 : vs.size = 1 := hargs.1
    apply Array.ext_getElem?
    intro k
    cases k with
    | zero => rw [ha]; rfl
    | succ k => simp [h1]
  rw [hvs]
  have hE : EntsOf ents M.1 := by
    have hlen : (imE M.1).length = M.1.length := by simp [imE]
    apply List.ext_getElem?
    intro k
    rw [List.getElem?_map]
    cases hk : M.1[k]? with
    | none =>
      have : M.1.length ≤ k := List.getElem?_eq_none_iff.1 hk
      rw [Option.map_none, List.getElem?_eq_none_iff, Array.length_toList]; omega
    | some e =>
      obtain ⟨v, h1, h2⟩ := hents k (.int .i64 e.1) (.one (.d (.v (.int .i64 e.2.1)))) e.2.2 (by simp [imE, hk])
      have hv : v = .int .i64 e.2.1 := by cases h2; rfl
      rw [hv] at h1
      rw [Array.getElem?_toList, h1]; rfl
  refine Calls.mono ((callsIn_wide (n := 5)).1 (sortedKeys_run (Bm := V.ι b) (b := V.ι i) hM ?_ (heap_lt ho) ho2 hE)) ?_
  · simp only [World.cell?, ho, Option.isSome_none, Bool.false_eq_true, if_false]; exact hu
  · rintro e w' ⟨v, rfl, hrow, hbel⟩
    have hx : ExtF w w' := ⟨hbel.os, hbel.tape, hbel.output, hbel.size, fun k hk _ => hbel.block k hk⟩
    have hg : V.Grow { V with S := fun b o => V.S b o ∨ (w.heap.size ≤ b ∧ b < w'.heap.size) } w w' := ⟨Nat.le_refl _, fun _ _ => rfl, fun _ _ => rfl, fun _ _ _ _ => rfl, fun b o h => .inl h, fun b o h => h.elim .inl fun h => .inr h.1,
      fun b o h => h.elim (fun h => Nat.lt_of_lt_of_le (H.sz b o h) hbel.size) fun h => h.2⟩
    exact ⟨v, _, rfl, H.later hx hg, hn, H.le hx hg, reads_row hrow (fun b o h1 h2 => .inr ⟨h1, h2⟩)⟩
theorem OpOK.sortedKeys {E : Env} {st : St} {dd : Option Tmp} {ty : TypeId} {pos : String} {af : Array Edge} {g : Option (Nat × Bool)} {xs : Array Operand} {ats : Array TypeId} {b i : Nat} {T : TypeId} {M : IMap} (hP : E.P = Tryz.prog) (ha : evArgs st.tm xs.toList = some [.one (.fn 102 [(b, 0)])])
    (hb : lk st.hp b = some (.cells T [.mp i])) (hi : lk st.hp i = some (.mp (imE M.1) M.2)) (hM : imOk M = true) :
    OpOK E ⟨dd, .call { callee := .value (.func 82), args := xs, argTypes := ats }, ty, pos, af, g⟩ st (.v (.one (.d (.sl 1 (Enc.encL (imKeys M)))))) ⟨st.hp, st.tk, st.nx⟩ :=
  OpOK.call (E := E) (st := st) (dd := dd) (ty := ty) (pos := pos) (af := af) (g := g) (x := .func 82) (caps := []) rfl ha (by rw [hP]; exact sortedKeys_call hb hi hM)
end Go.Proofs.YtcapifnaceegmaaGreatDoor
namespace Go.Proofs.YtcapifnaceegmaaGreatDoor
open Go.RowKit
set_option linter.unusedSimpArgs false
set_option linter.unusedVariables false
set_option linter.unusedSectionVars false
def sB (l : List UInt8) : ByteArray := ⟨l.toArray⟩
theorem sB_of (s : ByteArray) : sB s.data.toList = s := by cases s; simp [sB]
theorem sB_size (l : List UInt8) : (sB l).size = l.length := by simp [sB, ByteArray.size]
theorem sB_toList (l : List UInt8) : (sB l).toList = l := by rw [Go.Lib.toList_data]; rfl
theorem sB_append (a b : List UInt8) : sB a ++ sB b = sB (a ++ b) := by
  apply ByteArray.ext
  simp [sB, ByteArray.data_append]
theorem sB_get (l : List UInt8) (k : Nat) : (sB l)[k]? = l[k]? := by
  by_cases h : k < l.length
  · rw [List.getElem?_eq_getElem h, getElem?_pos (sB l) k (by rw [sB_size]; exact h)]
    simp [sB, ByteArray.get, ByteArray.getElem_eq_getElem_data]
  · rw [List.getElem?_eq_none (by omega), getElem?_neg (sB l) k (by rw [sB_size]; exact h)]
theorem sB_extract (l : List UInt8) (a b : Nat) : (sB l).extract a b = sB ((l.take b).drop a) := by
  apply ByteArray.ext
  simp [sB, ByteArray.data_extract, List.extract_eq_take_drop, List.drop_take]
def strL (s : List UInt8) : List C := [.v (.string (sB s))]
instance : Enc (List UInt8) := ⟨1, strL, fun l => l.map strL, rfl, fun a b => List.map_append, fun _ => rfl⟩
abbrev dS8 (l : List UInt8) : CA := .d (.v (.string (sB l)))
abbrev TS (l : List UInt8) : TV := TVv (.string (sB l))
section
variable {E : Env} {st : St} {d : Option Tmp} {ty : TypeId} {pos : String} {af : Array Edge} {g : Option (Nat × Bool)}
theorem RO.addS {t t' : TypeId} {x y : Operand} {a b : List UInt8} (hx : ev st.tm x = some (TS a)) (hy : ev st.tm y = some (TS b)) (hg : Nat.ble (a.length + b.length) 1000000000 = true) : RO E ⟨d, .binOp .add t x y t', ty, pos, af, g⟩ st (TS (a ++ b)) := by
  have := RO.binStr (E := E) (d := d) (ty := ty) (pos := pos) (af := af) (g := g) (t := t) (t' := t') (op := .add) hx hy (v := .string (sB a ++ sB b)) (by
    have h1 := Nat.le_of_ble_eq_true hg
    have h2 : decide ((((sB a).size + (sB b).size : Nat) : Int) > IntKind.i64.max) = false := by
      rw [sB_size, sB_size]
      refine decide_eq_false ?_
      have : IntKind.i64.max = 9223372036854775807 := by decide
      omega
    simp only [strBin, h2, cond_false])
  rw [sB_append] at this
  exact this
theorem RO.neS {t t' : TypeId} {x y : Operand} {a b : List UInt8} (hx : ev st.tm x = some (TS a)) (hy : ev st.tm y = some (TS b)) : RO E ⟨d, .binOp .neq t x y t', ty, pos, af, g⟩ st (TB (!(a == b))) := by
  have := RO.binStr (E := E) (d := d) (ty := ty) (pos := pos) (af := af) (g := g) (t := t) (t' := t') (op := .neq) hx hy (v := .bool (!(a == b))) (by simp only [strBin, sB_toList])
  exact this
theorem RO.lenS {t : TypeId} {x : Operand} {a : List UInt8} (ht : isStrTy E.P t = true) (hx : ev st.tm x = some (TS a)) : RO E ⟨d, .call { callee := .builtin .len, args := #[x], argTypes := #[t] }, ty, pos, af, g⟩ st (TI a.length) := by
  have := RO.lenStr (E := E) (d := d) (ty := ty) (pos := pos) (af := af) (g := g) ht hx
  rw [sB_size] at this
  exact this
theorem RO.ixS {t : TypeId} {x y : Operand} {a : List UInt8} {k : IntKind} {m : Int} {b : UInt8} (ht : isStrTy E.P t = true) (hx : ev st.tm x = some (TS a)) (hy : ev st.tm y = some (TVv (.int k m))) (hv : idx a m = some b) : RO E ⟨d, .index t x y, ty, pos, af, g⟩ st (TVv (.int .u8 b.toNat)) := by
  obtain ⟨j, hj, hl⟩ := idxS hv
  exact RO.indexStr ht hx hy hj (by rw [sB_get]; exact hl)
theorem RO.fromS {t : TypeId} {o lo : Operand} {a : List UInt8} {m : Int} (ht : isStrTy E.P t = true) (hx : ev st.tm o = some (TS a)) (hlo : ev st.tm lo = some (TI m)) (hm : (cond (decide (0 ≤ m)) (Nat.ble m.toNat a.length) false) = true) : RO E ⟨d, .slice t o (some lo) none none, ty, pos, af, g⟩ st (TS (a.drop m.toNat)) := by
  have h0 : 0 ≤ m := of_decide_eq_true (cond_left hm)
  have hb := cond_right hm
  obtain ⟨k, rfl⟩ : ∃ k : Nat, m = (k : Int) := ⟨m.toNat, (Int.toNat_of_nonneg h0).symm⟩
  simp only [Int.toNat_natCast] at hb ⊢
  have := RO.sliceStr (E := E) (st := st) (d := d) (ty := ty) (pos := pos) (af := af) (g := g) (l := k) (h := a.length) ht hx (lo := some lo) (hi := none) (mx := none) (by
    have : ev st.tm lo = some (.v (.one (.d (.v (.int .i64 (.ofNat k)))))) := hlo
    rw [sB_size]
    simp only [boundsOf, hiOf, loOf, this, hb, cond_true])
  rw [sB_extract, List.take_length] at this
  exact this
theorem RO.toS {t : TypeId} {o hi : Operand} {a : List UInt8} {m : Int} (ht : isStrTy E.P t = true) (hx : ev st.tm o = some (TS a)) (hhi : ev st.tm hi = some (TI m)) (hm : (cond (decide (0 ≤ m)) (Nat.ble m.toNat a.length) false) = true) : RO E ⟨d, .slice t o none (some hi) none, ty, pos, af, g⟩ st (TS (a.take m.toNat)) := by
  have h0 : 0 ≤ m := of_decide_eq_true (cond_left hm)
  have hb := cond_right hm
  obtain ⟨k, rfl⟩ : ∃ k : Nat, m = (k : Int) := ⟨m.toNat, (Int.toNat_of_nonneg h0).symm⟩
  simp only [Int.toNat_natCast] at hb ⊢
  have := RO.sliceStr (E := E) (st := st) (d := d) (ty := ty) (pos := pos) (af := af) (g := g) (l := 0) (h := k) ht hx (lo := none) (hi := some hi) (mx := none) (by
    have : ev st.tm hi = some (.v (.one (.d (.v (.int .i64 (.ofNat k)))))) := hhi
    rw [sB_size]
    simp only [boundsOf, hiOf, loOf, this, hb, cond_true])
  rw [sB_extract, List.drop_zero] at this
  exact this
end
end Go.Proofs.YtcapifnaceegmaaGreatDoor
namespace Go.Proofs.YtcapifnaceegmaaGreatDoor
open Go.RowKit
set_option linter.unusedSimpArgs false
set_option linter.unusedVariables false
set_option linter.unusedSectionVars false
structure Byt where
  n : Int
def Byt.u8 (b : Byt) : UInt8 := UInt8.ofNat b.n.toNat
def bytC (b : Byt) : List C := [.v (.int .u8 b.n)]
instance : Enc Byt := ⟨1, bytC, fun l => l.map bytC, rfl, fun a b => List.map_append, fun _ => rfl⟩
instance : EncLen Byt := ⟨fun _ => rfl, by decide⟩
def tyBytes (P : Program) (s : TypeId) : Bool := match P.underlying s with
  | some (.slice e) => match P.underlying e with
    | some (.int .u8) => true
    | _ => false
  | _ => false
theorem tyBytes_spec {P : Program} {s : TypeId} (h : tyBytes P s = true) : ∃ e, P.underlying s = some (.slice e) ∧ P.underlying e = some (.int .u8) := by
  unfold tyBytes at h
  split at h
  · rename_i e he
    split at h
    · rename_i h2; exact ⟨e, he, h2⟩
    · cases h
  · cases h
section
variable {E : Env} {st : St} {d : Option Tmp} {ty : TypeId} {pos : String} {af : Array Edge} {g : Option (Nat × Bool)}
theorem RO.bytesS {s t : TypeId} {x : Operand} {y : CA} {l : List Byt} (hs : tyBytes E.P s = true) (ht : isStrTy E.P t = true) (hx : ev st.tm x = some (.v (.one y))) (hl : SlE y l) : RO E ⟨d, .convert s t x, ty, pos, af, g⟩ st (TS (l.map Byt.u8)) := by
  refine ⟨(fun _ h => nomatch h), fun V a w hr => ⟨.string (sB (l.map Byt.u8)), ?_, rel_of rfl⟩⟩
  obtain ⟨e, h1, h2⟩ := tyBytes_spec hs
  have h3 : E.P.underlying t = some .string := by
    unfold isStrTy at ht
    split at ht
    · rename_i h; exact h
    · cases ht
  have hR := hl.sl.reads (hr.ev hx)
  have key : (convert s t (a.eval x)).run E.P w = .ok (.string (sB (l.map Byt.u8))) w := by
    generalize hv : a.eval x = v at hR
    have hle : ∀ es : List (List C), es = Enc.encL l → Reads V.S w (.sl 1 es) v → (convert s t v).run E.P w = .ok (.string (sB (l.map Byt.u8))) w := by
      intro es hes hR
      cases hR with
      | sl _ _ ad cap b off f hcap ha hln hc _ hr' =>
        have hlen : es.length = l.length := by rw [hes, Enc.len]
        have cells : ∀ i, i < l.length → w.cell? ⟨b, off + i, none⟩ = some (.int .u8 ((l.map Byt.n).getD i 0)) := fun i hi => by
          have hg : es[i]? = some [.v (.int .u8 (l[i]).n)] := by rw [hes]; exact Enc.get (List.getElem?_eq_getElem hi)
          have c1 := hc i _ 0 _ hg rfl
          have c2 := hr' i _ 0 _ hg rfl
          generalize hf : f i 0 = u at c1 c2
          cases c2
          rw [show off + i * 1 + 0 = off + i by omega] at c1
          rw [c1]
          simp [List.getD, hi]
        by_cases h0 : es = []
        · have hl0 : l = [] := List.eq_nil_of_length_eq_zero (by rw [← hlen, h0]; rfl)
          subst hl0
          rw [h0]
          rw [run_convert_bytes_string w s t e ad _ cap h1 h2 h3]
          cases ad with
          | none => simp [Conv.bytesToString]; rfl
          | some ad =>
            rw [run_bytesToString w ad _ cap [] (by
              have := run_loadCells_list (P := E.P) w ad [] (fun j v hj => by simp at hj)
              simpa using this)]
            rfl
        · rw [ha h0, hlen]
          rw [run_convert_bytes_arg w s e h1 h2 b off l.length cap (l.map Byt.n) (by simp) cells t h3]
          congr 2
          unfold strOfNums sB
          rw [List.map_map]; rfl
    exact hle _ rfl hR
  simp only [execOp, Sem.run_bind, key, Result.andThen_ok]
  rfl
end
end Go.Proofs.YtcapifnaceegmaaGreatDoor
namespace Go.Proofs.YtcapifnaceegmaaGreatDoor
open Go.RowKit Go.Shelf
set_option linter.unusedSimpArgs false
set_option linter.unusedVariables false
set_option linter.unusedSectionVars false
theorem ext_of_below {w w' : World} (h : Below w.heap.size w w') : ExtF w w' := ⟨h.os, h.tape, h.output, h.size, fun k hk _ => h.block k hk⟩
theorem Fun.of_vals {P : Program} {f : FuncId} {vs0 : List Value} {res : TV} (v : Value) (hen : Enters P f) (hres : ∀ V w, res.rel V w v) (h : ∀ w, Calls P f vs0.toArray w fun e w' => e = .returned v ∧ ExtF w w') : Fun P f (vs0.map fun a => .one (.d (.v a))) res := by
  refine ⟨hen, fun S w vs hS hT hargs => ?_⟩
  have hsz : vs.size = vs0.length := by rw [hargs.1, List.length_map]
  have hvs : vs = vs0.toArray := by
    apply Array.ext_getElem?
    intro k
    cases hk : vs0[k]? with
    | none =>
      have := List.getElem?_eq_none_iff.1 hk
      rw [Array.getElem?_eq_none (by omega)]
      simp [hk]
    | some a =>
      obtain ⟨u, h1, h2⟩ := hargs.2 k (.one (.d (.v a))) (by rw [List.getElem?_map, hk]; rfl)
      have e : u = a := by cases h2; rfl
      rw [h1, e]
      simp [hk]
  rw [hvs]
  exact (h w).mono fun e w' ⟨he, hx⟩ => ⟨v, S, he, hx, fun _ _ h => h, fun b o h => ⟨.inl h, Nat.lt_of_lt_of_le (hS b o h) hx.size⟩, hres _ _⟩
def dig2 (n : Int) : List UInt8 := cond (decide (n < 10)) [UInt8.ofNat (48 + n.toNat)] [UInt8.ofNat (48 + n.toNat / 10), UInt8.ofNat (48 + n.toNat % 10)]
theorem dig2_eq (k : Nat) (h : k < 100) : dig2 k = Lib.decDigits k := by
  unfold dig2
  rw [Int.toNat_natCast]
  by_cases h1 : k < 10
  · rw [decide_eq_true (by omega : (k : Int) < 10), cond_true, Lib.decDigits, dif_pos h1]
  · rw [decide_eq_false (by omega : ¬ (k : Int) < 10), cond_false, Lib.decDigits, dif_neg h1, Lib.decDigits, dif_pos (by omega : k / 10 < 10)]
    rfl
set_option maxRecDepth 100000 in
theorem itoa_fun (n : Int) (h : (cond (decide (0 ≤ n)) (decide (n < 100)) false) = true) : Fun Tryz.prog 63 [.one (.d (.v (.int .i64 n)))] (TS (dig2 n)) := by
  have h0 : 0 ≤ n := of_decide_eq_true (cond_left h)
  have h1 : n < 100 := of_decide_eq_true (cond_right h)
  obtain ⟨k, rfl⟩ := Int.eq_ofNat_of_zero_le h0
  refine Fun.of_vals (vs0 := [.int .i64 k]) (.string (sB (dig2 k))) (enters_of Tryz.func63 (by kernel_rfl) rfl) (fun V w => rel_of rfl) fun w => ?_
  refine Calls.mono (Any.strconv_Itoa_small Tryz.lays171 k (by omega) w) ?_
  rintro e w' ⟨rfl, rfl⟩
  exact ⟨by rw [dig2_eq k (by omega)]; rfl, ExtM.refl _ _⟩
set_option maxRecDepth 100000 in
theorem trim_fun (s : List UInt8) : Fun Tryz.prog 79 [.one (dS8 s), .one (dS8 [32])] (TS (s.dropWhile (· == 32))) := by
  refine Fun.of_vals (vs0 := [.string (sB s), .string (sB [32])]) (.string (sB (s.dropWhile (· == 32)))) (enters_of Tryz.func79 (by kernel_rfl) rfl) (fun V w => rel_of rfl) fun w => ?_
  refine Calls.mono (Any.strings_TrimLeft_one Tryz.lays161 (sB s) 32 (by decide) w) ?_
  rintro e w' ⟨rfl, rfl⟩
  exact ⟨rfl, ExtM.refl _ _⟩
theorem tup2 {a b : Value} {x y : AV} (h1 : ∀ V w, x.rel V w a) (h2 : ∀ V w, y.rel V w b) : ∀ V w, (TV.tup [x, y]).rel V w (.tuple #[a, b]) := fun V w =>
  ⟨#[a, b], rfl, rfl, fun i z hz => by
    match i, hz with
    | 0, hz => cases hz; exact ⟨a, rfl, h1 V w⟩
    | 1, hz => cases hz; exact ⟨b, rfl, h2 V w⟩⟩
theorem one_rel {v : Value} (h : v.oneCell' = true) : ∀ V w, (AV.one (.d (.v v))).rel V w v := fun V w => Reads.v v h
set_option maxRecDepth 100000 in
theorem cut_fun (s p : List UInt8) : Fun Tryz.prog 80 [.one (dS8 s), .one (dS8 p)] (.tup [.one (dS8 (Lib.trimPrefix s p)), .one (.d (.v (.bool (Lib.hasPrefix s p))))]) := by
  refine Fun.of_vals (vs0 := [.string (sB s), .string (sB p)]) (.tuple #[.string (sB (Lib.trimPrefix s p)), .bool (Lib.hasPrefix s p)]) (enters_of Tryz.func80 (by kernel_rfl) rfl) (tup2 (one_rel rfl) (one_rel rfl)) fun w => ?_
  refine Calls.mono (Any.strings_CutPrefix Tryz.lays103 (sB s) (sB p) w) ?_
  rintro e w' ⟨rfl, rfl⟩
  exact ⟨rfl, ExtM.refl _ _⟩
def atoiL (s : List UInt8) : Int := (Lib.atoi s).getD 0
set_option maxRecDepth 100000 in
theorem atoi_fun (s : List UInt8) (h : (cond (Nat.ble s.length 18) (Lib.atoi s).isSome false) = true) : Fun Tryz.prog 99 [.one (dS8 s)] (.tup [.one (.d (.v (.int .i64 (atoiL s)))), .one (.d (.v .nilIface))]) := by
  have h0 := Nat.le_of_ble_eq_true (cond_left h)
  obtain ⟨n, hn⟩ := Option.isSome_iff_exists.1 (cond_right h)
  have e : atoiL s = n := by unfold atoiL; rw [hn]; rfl
  rw [e]
  refine Fun.of_vals (vs0 := [.string (sB s)]) (.tuple #[.int .i64 n, .nilIface]) (enters_of Tryz.func99 (by kernel_rfl) rfl) (tup2 (one_rel rfl) (one_rel rfl)) fun w => ?_
  refine Calls.mono (Any.strconv_Atoi Tryz.lays172 (sB s) n (by rw [sB_size]; exact h0) hn w) ?_
  rintro e w' ⟨rfl, t, rfl⟩
  exact ⟨rfl, ext_of_below (Lib.bytesWorld_below _ _ _)⟩
set_option maxRecDepth 100000 in
theorem join_str_fun (xs : List (List UInt8)) (sep : List UInt8) (h : (cond (Nat.ble xs.length 1000000) (Nat.ble (Lib.join xs sep).length 1000000000) false) = true) : Fun Tryz.prog 66 [.one (.d (.sl 1 (xs.map strL))), .one (dS8 sep)] (TS (Lib.join xs sep)) := by
  have h0 := Nat.le_of_ble_eq_true (cond_left h)
  have h1 := Nat.le_of_ble_eq_true (cond_right h)
  have hmap : (xs.map sB).map (·.data.toList) = xs := by
    rw [List.map_map]
    have : ((fun x : ByteArray => x.data.toList) ∘ sB) = id := rfl
    rw [this, List.map_id]
  refine ⟨enters_of Tryz.func66 (by kernel_rfl) rfl, fun S w vs hS hT hargs => ?_⟩
  obtain ⟨u0, hu0, r0⟩ := hargs.2 0 _ rfl
  obtain ⟨u1, hu1, r1⟩ := hargs.2 1 _ rfl
  have e1 : u1 = .string (sB sep) := by cases r1; rfl
  subst e1
  have hvs : vs = #[u0, .string (sB sep)] := by
    apply Array.ext_getElem?
    intro k
    match k with
    | 0 => rw [hu0]; rfl
    | 1 => rw [hu1]; rfl
    | k + 2 => rw [Array.getElem?_eq_none (by rw [hargs.1]; simp)]; simp
  rw [hvs]
  have fin : ∀ (e : Ending) (w' : World), e = .returned (.string (sB (Lib.join xs sep))) ∧ Below w.heap.size w w' → ∃ v S', e = .returned v ∧ ExtF w w' ∧ (∀ b o, S b o → S' b o) ∧ (∀ b o, S' b o → (S b o ∨ w.heap.size ≤ b) ∧ b < w'.heap.size) ∧ (TS (Lib.join xs sep)).rel (Vu.of S') w' v :=
    fun e w' ⟨he, hb⟩ => ⟨_, S, he, ext_of_below hb, fun _ _ h => h, fun b o h => ⟨.inl h, Nat.lt_of_lt_of_le (hS b o h) hb.size⟩, rel_of rfl⟩
  have rd : Reads S w (.sl 1 (xs.map strL)) u0 := r0
  generalize hes : xs.map strL = es at rd
  cases rd with
  | sl _ _ a cap b off f hcap ha hl hc hs hr =>
    subst hes
    rw [List.length_map] at hcap ⊢
    cases xs with
    | nil =>
      refine Calls.mono (Any.strings_Join_none Tryz.lays156 Tryz.bx156 a cap (sB sep) w) ?_
      rintro e w' ⟨rfl, rfl⟩
      exact fin _ _ ⟨rfl, Below.refl _ _⟩
    | cons x r =>
      have ha' := ha (by simp)
      subst ha'
      have hget : ∀ (j : Nat) (y : List UInt8), (x :: r)[j]? = some y → w.cell? ⟨b, off + j, none⟩ = some (.string (sB y)) ∧ S b (off + j) := fun j y hy => by
        have hj : ((x :: r).map strL)[j]? = some (strL y) := by rw [List.getElem?_map, hy]; rfl
        have h3 := hc j (strL y) 0 _ hj rfl
        have h4 := hs j (strL y) 0 _ hj rfl
        have h5 := hr j (strL y) 0 _ hj rfl
        rw [Nat.mul_one, Nat.add_zero] at h3 h4
        have e5 : f j 0 = .string (sB y) := by
          generalize hfv : f j 0 = fv at h5
          cases h5; rfl
        rw [e5] at h3
        exact ⟨h3, h4⟩
      have key := Any.strings_Join Tryz.lays156 Tryz.bx156 b off cap ((x :: r).map sB) (sB sep) w (fun j y hy => by
        rw [List.getElem?_map] at hy
        cases hz : (x :: r)[j]? with
        | none => rw [hz] at hy; cases hy
        | some z => rw [hz] at hy; cases hy; exact (hget j z hz).1) (hS _ _ (hget 0 x rfl).2) (by rw [List.length_map]; omega) (by rw [List.length_map]; exact hcap) (by rw [hmap]; exact Nat.le_trans h1 (by decide))
      rw [hmap, List.length_map] at key
      exact Calls.mono key fin
end Go.Proofs.YtcapifnaceegmaaGreatDoor
namespace Go.Proofs.YtcapifnaceegmaaGreatDoor
open Go.RowKit Go.Shelf
set_option linter.unusedSimpArgs false
set_option linter.unusedVariables false
theorem fo_79_0 : fieldOff Tryz.prog 79 0 = some 0 := by kernel_rfl
theorem fo_79_1 : fieldOff Tryz.prog 79 1 = some 1 := by kernel_rfl
theorem fo_79_2 : fieldOff Tryz.prog 79 2 = some 2 := by kernel_rfl
theorem fo_79_3 : fieldOff Tryz.prog 79 3 = some 3 := by kernel_rfl
theorem fo_100_0 : fieldOff Tryz.prog 100 0 = some 0 := by kernel_rfl
theorem fo_100_1 : fieldOff Tryz.prog 100 1 = some 1 := by kernel_rfl
theorem ag_4 : tyAgg Tryz.prog 4 = some (false, 1) := by kernel_rfl
theorem ag_9 : tyAgg Tryz.prog 9 = some (false, 1) := by kernel_rfl
theorem ag_27 : tyAgg Tryz.prog 27 = some (false, 1) := by kernel_rfl
theorem ag_76 : tyAgg Tryz.prog 76 = some (false, 1) := by kernel_rfl
theorem ag_98 : tyAgg Tryz.prog 98 = some (false, 1) := by kernel_rfl
theorem bd_79 : IsStruct Tryz.prog 79 [(0, 1), (1, 1), (2, 1), (3, 1)] [.string ByteArray.empty, .bool false, .int .i64 0, .pointer none] := ⟨by kernel_rfl, by kernel_rfl⟩
theorem bd_100 : IsStruct Tryz.prog 100 [(0, 1), (1, 1)] [.map none, .int .i64 0] := ⟨by kernel_rfl, by kernel_rfl⟩
theorem mp_98 : tyMap Tryz.prog 98 = some (true, .one (.d (.v (.int .i64 0)))) := by kernel_rfl
theorem st_9 : isStrTy Tryz.prog 9 = true := by kernel_rfl
theorem en_26 : Enters Tryz.prog 26 := enters_of Tryz.func26 (by kernel_rfl) rfl
theorem en_52 : Enters Tryz.prog 52 := enters_of Tryz.func52 (by kernel_rfl) rfl
theorem en_53 : Enters Tryz.prog 53 := enters_of Tryz.func53 (by kernel_rfl) rfl
theorem en_54 : Enters Tryz.prog 54 := enters_of Tryz.func54 (by kernel_rfl) rfl
theorem en_55 : Enters Tryz.prog 55 := enters_of Tryz.func55 (by kernel_rfl) rfl
theorem en_56 : Enters Tryz.prog 56 := enters_of Tryz.func56 (by kernel_rfl) rfl
theorem en_70 : Enters Tryz.prog 70 := enters_of Tryz.func70 (by kernel_rfl) rfl
theorem en_71 : Enters Tryz.prog 71 := enters_of Tryz.func71 (by kernel_rfl) rfl
theorem en_81 : Enters Tryz.prog 81 := enters_of Tryz.func81 (by kernel_rfl) rfl
theorem en_83 : Enters Tryz.prog 83 := enters_of Tryz.func83 (by kernel_rfl) rfl
def m53f0 (a0 : (List UInt8)) (a1 : Bool) (a2 : Int) (a3 : Int) (a4 : IMap) : Option Unit :=
  some ()
set_option maxRecDepth 100000 in
set_option maxHeartbeats 8000000 in
theorem m53f0_ok (a0 : (List UInt8)) (a1 : Bool) (a2 : Int) (a3 : Int) (a4 : IMap) (r : Unit) (h0 : m53f0 a0 a1 a2 a3 a4 = some r) : CallM Tryz.prog 53 [.one (.ptr 0 0)] ⟨[(0, .cells 79 [dS8 a0, dB a1, dI a2, .ptr 1 0]), (1, .cells 100 [.mp 2, dI a3]), (2, .mp (imE a4.1) a4.2)], [], 3⟩ (resOf []) ⟨[(0, .cells 79 [dS8 (a0.dropWhile (· == 32)), dB a1, dI a2, .ptr 1 0]), (1, .cells 100 [.mp 2, dI a3]), (2, .mp (imE a4.1) a4.2)], [], 3⟩ := by
  unfold m53f0 at h0
  refine CallM.of_bodyD ⟨[], [(0, .cells 79 [dS8 (a0.dropWhile (· == 32)), dB a1, dI a2, .ptr 1 0]), (1, .cells 100 [.mp 2, dI a3]), (2, .mp (imE a4.1) a4.2)], [], 3, 10, []⟩ rfl rfl en_53 (lb rfl) rfl .nil (fun w0 M V0 Q hv0 hQ0 => ?_)
  simp only [entry]
  refine XC.region ?_
  refine XL.rd rfl rfl (lb rfl) (RO.move rfl) ?_
  refine XL.rd rfl rfl (lb rfl) (RO.move rfl) ?_
  refine XL.rd rfl rfl (lb rfl) (RO.nilCheckPtr rfl) ?_
  refine XL.rd rfl rfl (lb rfl) (RO.fieldOwn fo_79_0 rfl) ?_
  refine XL.rd rfl rfl (lb rfl) (RO.loadOwn ag_9 rfl rfl rfl) ?_
  refine XL.put rfl rfl (lb rfl) (OpOK.callFun (trim_fun a0) rfl (.cons (.one (.d _)) (.cons (.one (.d _)) .nil))) ?_
  refine XL.rd rfl rfl (lb rfl) (RO.nilCheckPtr rfl) ?_
  refine XL.rd rfl rfl (lb rfl) (RO.fieldOwn fo_79_0 rfl) ?_
  refine XL.eff rfl rfl (OpOK.store ag_9 rfl rfl rfl rfl (lb rfl) rfl) ?_
  refine XL.nil ?_
  have e_ := Option.some.inj h0
  subst e_
  exact hQ0 _ _ _ (.inl rfl) rfl (stle tZ (hR rfl (hR rfl (hR rfl hZ))) kZ rfl (Nat.le_trans hv0 (lb rfl)) rfl rfl rfl (bB rfl rfl (bB rfl rfl (bM rfl bZ))) rfl rfl)
def m54f1 (a0 : (List UInt8)) (a1 : (List UInt8)) (a2 : Bool) (a3 : Int) (a4 : Int) (a5 : IMap) : Option (((List UInt8))) :=
  cond (Lib.hasPrefix a1 a0)
    (some (Lib.trimPrefix a1 a0))
    (some a1)
set_option maxRecDepth 100000 in
set_option maxHeartbeats 8000000 in
theorem m54f1_ok (a0 : (List UInt8)) (a1 : (List UInt8)) (a2 : Bool) (a3 : Int) (a4 : Int) (a5 : IMap) (r : ((List UInt8))) (h0 : m54f1 a0 a1 a2 a3 a4 a5 = some r) : CallM Tryz.prog 54 [.one (.ptr 0 0), .one (dS8 a0)] ⟨[(0, .cells 79 [dS8 a1, dB a2, dI a3, .ptr 1 0]), (1, .cells 100 [.mp 2, dI a4]), (2, .mp (imE a5.1) a5.2)], [], 3⟩ (resOf [.one (dB (Lib.hasPrefix a1 a0))]) ⟨[(0, .cells 79 [dS8 r, dB a2, dI a3, .ptr 1 0]), (1, .cells 100 [.mp 2, dI a4]), (2, .mp (imE a5.1) a5.2)], [], 3⟩ := by
  unfold m54f1 at h0
  refine CallM.of_bodyD ⟨[(4, .v (.one (dB (Lib.hasPrefix a1 a0))))], [(0, .cells 79 [dS8 r, dB a2, dI a3, .ptr 1 0]), (1, .cells 100 [.mp 2, dI a4]), (2, .mp (imE a5.1) a5.2)], [], 3, 22, []⟩ rfl rfl en_54 (lb rfl) rfl (RAs.tmp rfl .nil) (fun w0 M V0 Q hv0 hQ0 => ?_)
  simp only [entry]
  refine XC.seq ?_
  refine XC.region ?_
  refine XL.rd rfl rfl (lb rfl) (RO.assign rfl) ?_
  refine XL.nil ?_
  refine XQ.seq ?_
  refine XC.seq ?_
  refine XC.region ?_
  refine XL.rd rfl rfl (lb rfl) (RO.move rfl) ?_
  refine XL.rd rfl rfl (lb rfl) (RO.nilCheckPtr rfl) ?_
  refine XL.rd rfl rfl (lb rfl) (RO.fieldOwn fo_79_0 rfl) ?_
  refine XL.rd rfl rfl (lb rfl) (RO.loadOwn ag_9 rfl rfl rfl) ?_
  refine XL.rd rfl rfl (lb rfl) (RO.move rfl) ?_
  refine XL.put rfl rfl (lb rfl) (OpOK.callFun (cut_fun a1 a0) rfl (.cons (.one (.d _)) (.cons (.one (.d _)) .nil))) ?_
  refine XL.rd rfl rfl (lb rfl) (RO.move rfl) ?_
  refine XL.rd rfl rfl (lb rfl) (RO.extract rfl rfl) ?_
  refine XL.rd rfl rfl (lb rfl) (RO.extract rfl rfl) ?_
  refine XL.rd rfl rfl (lb rfl) (RO.assign rfl) ?_
  refine XL.rd rfl rfl (lb rfl) (RO.assign rfl) ?_
  refine XL.nil ?_
  refine XQ.seq ?_
  refine XC.seq ?_
  refine XC.seq ?_
  refine XC.region ?_
  refine XL.rd rfl rfl (lb rfl) (RO.move rfl) ?_
  refine XL.nil ?_
  refine XQ.seq ?_
  refine XC.cond (b := (Lib.hasPrefix a1 a0)) rfl (fun c1 => ?_) (fun c1 => ?_)
  ·
   replace h0 := condT c1 h0
   refine XC.region ?_
   refine XL.rd rfl rfl (lb rfl) (RO.move rfl) ?_
   refine XL.rd rfl rfl (lb rfl) (RO.move rfl) ?_
   refine XL.rd rfl rfl (lb rfl) (RO.nilCheckPtr rfl) ?_
   refine XL.rd rfl rfl (lb rfl) (RO.fieldOwn fo_79_0 rfl) ?_
   refine XL.eff rfl rfl (OpOK.store ag_9 rfl rfl rfl rfl (lb rfl) rfl) ?_
   refine XL.nil ?_
   refine XQ.seq ?_
   refine XC.seq ?_
   refine XC.region ?_
   refine XL.rd rfl rfl (lb rfl) (RO.move rfl) ?_
   refine XL.rd rfl rfl (lb rfl) (RO.assign rfl) ?_
   refine XL.nil ?_
   refine XQ.seq ?_
   refine XC.ret ?_
   have e_ := Option.some.inj h0
   subst e_
   exact hQ0 _ _ _ (.inr rfl) rfl (stle (tR rfl tZ) (hR rfl (hR rfl (hR rfl hZ))) kZ rfl (Nat.le_trans hv0 (lb rfl)) rfl rfl rfl (bB rfl rfl (bB rfl rfl (bM rfl bZ))) rfl rfl)
  ·
   replace h0 := condF c1 h0
   refine XC.skip ?_
   refine XQ.seq ?_
   refine XC.seq ?_
   refine XC.region ?_
   refine XL.rd rfl rfl (lb rfl) (RO.move rfl) ?_
   refine XL.rd rfl rfl (lb rfl) (RO.assign rfl) ?_
   refine XL.nil ?_
   refine XQ.seq ?_
   refine XC.ret ?_
   have e_ := Option.some.inj h0
   subst e_
   exact hQ0 _ _ _ (.inr rfl) rfl (stle (tR rfl tZ) (hR rfl (hR rfl (hR rfl hZ))) kZ rfl (Nat.le_trans hv0 (lb rfl)) rfl rfl rfl (bB rfl rfl (bB rfl rfl (bM rfl bZ))) rfl rfl)
def m81f3_l0 (a0 : (List UInt8)) (s1 : Int) : Option (LO Int Int) :=
  Option.bind (cond (decide (s1 < (a0.length : Int)))
    (Option.bind (idx a0 s1) fun (x4 : UInt8) =>
  cond (decide (48 ≤ (x4.toNat : Int)))
    (Option.bind (idx a0 s1) fun (x6 : UInt8) =>
  some (decide ((x6.toNat : Int) ≤ 57)))
    (some false))
    (some false)) (fun (v2 : Bool) => cond v2
    (some (.next (w64 (s1 + 1))))
    (some (.done s1)))
def m81f3 (a0 : (List UInt8)) (a1 : Bool) (a2 : Int) (a3 : Int) (a4 : IMap) : Option (Int × ((List UInt8)) × Bool) :=
  Option.bind (loopN (m81f3_l0 a0) FUEL 0) (fun (o1 : Int) => guardO (cond (decide (0 ≤ o1)) (Nat.ble o1.toNat a0.length) false)
  (guardO (cond (decide (0 ≤ o1)) (Nat.ble o1.toNat a0.length) false)
  (Option.bind (cond (o1 == 0)
    (some true)
    (cond (decide (6 < o1))
    (some true)
    (cond (decide (1 < o1))
    (Option.bind (idx (a0.take o1.toNat) 0) fun (x8 : UInt8) =>
  some ((x8.toNat : Int) == 48))
    (some false)))) (fun (v4 : Bool) => cond v4
    (some (0, (a0.drop o1.toNat), true))
    (guardO ((cond (Nat.ble (a0.take o1.toNat).length 18) (Lib.atoi (a0.take o1.toNat)).isSome false))
  (some ((atoiL (a0.take o1.toNat)), (a0.drop o1.toNat), a1)))))))
set_option maxRecDepth 100000 in
set_option maxHeartbeats 8000000 in
theorem m81f3_ok (a0 : (List UInt8)) (a1 : Bool) (a2 : Int) (a3 : Int) (a4 : IMap) (r : Int × ((List UInt8)) × Bool) (h0 : m81f3 a0 a1 a2 a3 a4 = some r) : CallM Tryz.prog 81 [.one (.ptr 0 0)] ⟨[(0, .cells 79 [dS8 a0, dB a1, dI a2, .ptr 1 0]), (1, .cells 100 [.mp 2, dI a3]), (2, .mp (imE a4.1) a4.2)], [], 3⟩ (resOf [.one (dI r.1)]) ⟨[(0, .cells 79 [dS8 r.2.1, dB r.2.2, dI a2, .ptr 1 0]), (1, .cells 100 [.mp 2, dI a3]), (2, .mp (imE a4.1) a4.2)], [], 3⟩ := by
  unfold m81f3 at h0
  refine CallM.of_bodyD ⟨[(2, .v (.one (dI r.1)))], [(0, .cells 79 [dS8 r.2.1, dB r.2.2, dI a2, .ptr 1 0]), (1, .cells 100 [.mp 2, dI a3]), (2, .mp (imE a4.1) a4.2)], [], 3, 73, []⟩ rfl rfl en_81 (lb rfl) rfl (RAs.tmp rfl .nil) (fun w0 M V0 Q hv0 hQ0 => ?_)
  simp only [entry]
  refine XC.seq ?_
  refine XC.region ?_
  refine XL.rd rfl rfl (lb rfl) (RO.assign rfl) ?_
  refine XL.nil ?_
  refine XQ.seq ?_
  refine XC.seq ?_
  refine XC.region ?_
  refine XL.rd rfl rfl (lb rfl) (RO.assign rfl) ?_
  refine XL.nil ?_
  refine XQ.seq ?_
  refine XC.seq ?_
  refine XC.block ?_
  refine XC.joinX 0 (fun (o1 : Int) => ⟨[(0, .v (.one (.ptr 0 0))), (3, .v (.one (dI o1)))], [(0, .cells 79 [dS8 a0, dB a1, dI a2, .ptr 1 0]), (1, .cells 100 [.mp 2, dI a3]), (2, .mp (imE a4.1) a4.2)], [], 3, 73, []⟩) (fun (o1 : Int) => (guardO (cond (decide (0 ≤ o1)) (Nat.ble o1.toNat a0.length) false)
    (guardO (cond (decide (0 ≤ o1)) (Nat.ble o1.toNat a0.length) false)
    (Option.bind (cond (o1 == 0)
      (some true)
      (cond (decide (6 < o1))
      (some true)
      (cond (decide (1 < o1))
      (Option.bind (idx (a0.take o1.toNat) 0) fun (x8 : UInt8) =>
    some ((x8.toNat : Int) == 48))
      (some false)))) (fun (v4 : Bool) => cond v4
      (some (0, (a0.drop o1.toNat), true))
      (guardO ((cond (Nat.ble (a0.take o1.toNat).length 18) (Lib.atoi (a0.take o1.toNat)).isSome false))
    (some ((atoiL (a0.take o1.toNat)), (a0.drop o1.toNat), a1))))))) = some r) ?_ ?_
  ·
   refine bindK h0 (fun o2 hl1 h0 => ?_)
   refine XC.loopM (m81f3_l0 a0) (fun s1 => ⟨[(0, .v (.one (.ptr 0 0))), (3, .v (.one (dI s1)))], [(0, .cells 79 [dS8 a0, dB a1, dI a2, .ptr 1 0]), (1, .cells 100 [.mp 2, dI a3]), (2, .mp (imE a4.1) a4.2)], [], 3, 73, []⟩) 0 o2 (stle (tR rfl (tR rfl tZ)) (hR rfl (hR rfl (hR rfl hZ))) kZ rfl (Nat.le_trans hv0 (lb rfl)) rfl rfl rfl (bB rfl rfl (bB rfl rfl (bM rfl bZ))) rfl rfl) hl1 (fun s1 n1 oo1 h1 ho1 => ?_)
   unfold m81f3_l0 at h1
   refine XC.seq ?_
   refine XC.seq ?_
   refine XC.joinR (fun (v3 : Bool) => ⟨[(0, .v (.one (.ptr 0 0))), (3, .v (.one (dI s1))), (31, .v (.one (dB v3)))], [(0, .cells 79 [dS8 a0, dB a1, dI a2, .ptr 1 0]), (1, .cells 100 [.mp 2, dI a3]), (2, .mp (imE a4.1) a4.2)], [], 3, 73, []⟩) (fun (v3 : Bool) => (cond v3
       (some (.next (w64 (s1 + 1))))
       (some (.done s1))) = some oo1) ?_ ?_
   ·
    refine bindK h1 (fun w2_ h2 h1 => ?_)
    refine XC.region ?_
    refine XL.rd rfl rfl (lb rfl) (RO.move rfl) ?_
    refine XL.rd rfl rfl (lb rfl) (RO.move rfl) ?_
    refine XL.rd rfl rfl (lb rfl) (RO.nilCheckPtr rfl) ?_
    refine XL.rd rfl rfl (lb rfl) (RO.fieldOwn fo_79_0 rfl) ?_
    refine XL.rd rfl rfl (lb rfl) (RO.loadOwn ag_9 rfl rfl rfl) ?_
    refine XL.rd rfl rfl (lb rfl) (RO.lenS st_9 rfl) ?_
    refine XL.rd rfl rfl (lb rfl) (RO.binInt rfl rfl rfl) ?_
    refine XL.rd rfl rfl (lb rfl) (RO.move rfl) ?_
    refine XL.case (d := 14) (c := (decide (s1 < (a0.length : Int)))) rfl (fun c4 => ?_) (fun c4 => ?_)
    ·
     replace h2 := condT c4 h2
     refine XL.rd rfl rfl (lb rfl) (RO.move rfl) ?_
     refine XL.rd rfl rfl (lb rfl) (RO.nilCheckPtr rfl) ?_
     refine XL.rd rfl rfl (lb rfl) (RO.fieldOwn fo_79_0 rfl) ?_
     refine XL.rd rfl rfl (lb rfl) (RO.loadOwn ag_9 rfl rfl rfl) ?_
     refine XL.rd rfl rfl (lb rfl) (RO.move rfl) ?_
     refine bindK h2 (fun x5 hx5 h2 => ?_)
     refine XL.rd rfl rfl (lb rfl) (RO.ixS st_9 rfl rfl hx5) ?_
     refine XL.rd rfl rfl (lb rfl) (RO.binInt rfl rfl rfl) ?_
     refine XL.rd rfl rfl (lb rfl) (RO.pickT rfl rfl) ?_
     refine XL.rd rfl rfl (lb rfl) (RO.move rfl) ?_
     refine XL.case (d := 23) (c := (decide (48 ≤ (x5.toNat : Int)))) rfl (fun c6 => ?_) (fun c6 => ?_)
     ·
      replace h2 := condT c6 h2
      refine XL.rd rfl rfl (lb rfl) (RO.move rfl) ?_
      refine XL.rd rfl rfl (lb rfl) (RO.nilCheckPtr rfl) ?_
      refine XL.rd rfl rfl (lb rfl) (RO.fieldOwn fo_79_0 rfl) ?_
      refine XL.rd rfl rfl (lb rfl) (RO.loadOwn ag_9 rfl rfl rfl) ?_
      refine XL.rd rfl rfl (lb rfl) (RO.move rfl) ?_
      refine bindK h2 (fun x7 hx7 h2 => ?_)
      refine XL.rd rfl rfl (lb rfl) (RO.ixS st_9 rfl rfl hx7) ?_
      refine XL.rd rfl rfl (lb rfl) (RO.binInt rfl rfl rfl) ?_
      refine XL.rd rfl rfl (lb rfl) (RO.pickT rfl rfl) ?_
      refine XL.nil ?_
      have e_ := Option.some.inj h2
      subst e_
      exact XQ.joinR (decide ((x7.toNat : Int) ≤ 57)) (stle (tR rfl (tR rfl (tR rfl tZ))) (hR rfl (hR rfl (hR rfl hZ))) kZ rfl (Nat.le_trans hv0 (lb rfl)) rfl rfl rfl (bB rfl rfl (bB rfl rfl (bM rfl bZ))) rfl rfl) h1
     ·
      replace h2 := condF c6 h2
      refine XL.no rfl rfl ?_
      refine XL.no rfl rfl ?_
      refine XL.no rfl rfl ?_
      refine XL.no rfl rfl ?_
      refine XL.no rfl rfl ?_
      refine XL.no rfl rfl ?_
      refine XL.no rfl rfl ?_
      refine XL.rd rfl rfl (lb rfl) (RO.pickF rfl rfl) ?_
      refine XL.nil ?_
      have e_ := Option.some.inj h2
      subst e_
      exact XQ.joinR false (stle (tR rfl (tR rfl (tR rfl tZ))) (hR rfl (hR rfl (hR rfl hZ))) kZ rfl (Nat.le_trans hv0 (lb rfl)) rfl rfl rfl (bB rfl rfl (bB rfl rfl (bM rfl bZ))) rfl rfl) h1
    ·
     replace h2 := condF c4 h2
     refine XL.no rfl rfl ?_
     refine XL.no rfl rfl ?_
     refine XL.no rfl rfl ?_
     refine XL.no rfl rfl ?_
     refine XL.no rfl rfl ?_
     refine XL.no rfl rfl ?_
     refine XL.no rfl rfl ?_
     refine XL.rd rfl rfl (lb rfl) (RO.pickF rfl rfl) ?_
     refine XL.rd rfl rfl (lb rfl) (RO.move rfl) ?_
     refine XL.no rfl rfl ?_
     refine XL.no rfl rfl ?_
     refine XL.no rfl rfl ?_
     refine XL.no rfl rfl ?_
     refine XL.no rfl rfl ?_
     refine XL.no rfl rfl ?_
     refine XL.no rfl rfl ?_
     refine XL.rd rfl rfl (lb rfl) (RO.pickF rfl rfl) ?_
     refine XL.nil ?_
     have e_ := Option.some.inj h2
     subst e_
     exact XQ.joinR false (stle (tR rfl (tR rfl (tR rfl tZ))) (hR rfl (hR rfl (hR rfl hZ))) kZ rfl (Nat.le_trans hv0 (lb rfl)) rfl rfl rfl (bB rfl rfl (bB rfl rfl (bM rfl bZ))) rfl rfl) h1
   ·
    intro v3 h1
    refine XQ.seq ?_
    refine XC.cond (b := v3) rfl (fun c8 => ?_) (fun c8 => ?_)
    ·
     replace h1 := condT c8 h1
     refine XC.skip ?_
     refine XQ.seq ?_
     refine XC.block ?_
     refine XC.region ?_
     refine XL.rd rfl rfl (lb rfl) (RO.move rfl) ?_
     refine XL.rd rfl rfl (lb rfl) (RO.binInt rfl rfl rfl) ?_
     refine XL.rd rfl rfl (lb rfl) (RO.assign rfl) ?_
     refine XL.nil ?_
     refine XQ.inBlock ?_
     have e_ := Option.some.inj h1
     subst e_
     refine XQ.nextM (w64 (s1 + 1)) (stle (tR rfl (tR rfl tZ)) (hR rfl (hR rfl (hR rfl hZ))) kZ rfl (Nat.le_trans hv0 (lb rfl)) rfl rfl rfl (bB rfl rfl (bB rfl rfl (bM rfl bZ))) rfl rfl) ho1
    ·
     replace h1 := condF c8 h1
     refine XC.exit ?_
     refine XQ.thenE ?_
     refine XQ.thenE ?_
     have e_ := Option.some.inj h1
     subst e_
     have e_ : _ = _ := ho1
     subst e_
     exact XQ.joinX s1 (stle (tR rfl (tR rfl tZ)) (hR rfl (hR rfl (hR rfl hZ))) kZ rfl (Nat.le_trans hv0 (lb rfl)) rfl rfl rfl (bB rfl rfl (bB rfl rfl (bM rfl bZ))) rfl rfl) h0
  ·
   intro o1 h0
   refine XQ.blockX ?_
   refine XQ.seq ?_
   refine XC.seq ?_
   refine XC.region ?_
   refine XL.rd rfl rfl (lb rfl) (RO.move rfl) ?_
   refine XL.rd rfl rfl (lb rfl) (RO.nilCheckPtr rfl) ?_
   refine XL.rd rfl rfl (lb rfl) (RO.fieldOwn fo_79_0 rfl) ?_
   refine XL.rd rfl rfl (lb rfl) (RO.loadOwn ag_9 rfl rfl rfl) ?_
   refine XL.rd rfl rfl (lb rfl) (RO.move rfl) ?_
   refine guardK h0 (fun g9 h0 => ?_)
   refine XL.rd rfl rfl (lb rfl) (RO.toS st_9 rfl rfl g9) ?_
   refine XL.rd rfl rfl (lb rfl) (RO.assign rfl) ?_
   refine XL.nil ?_
   refine XQ.seq ?_
   refine XC.seq ?_
   refine XC.region ?_
   refine XL.rd rfl rfl (lb rfl) (RO.move rfl) ?_
   refine XL.rd rfl rfl (lb rfl) (RO.move rfl) ?_
   refine XL.rd rfl rfl (lb rfl) (RO.nilCheckPtr rfl) ?_
   refine XL.rd rfl rfl (lb rfl) (RO.fieldOwn fo_79_0 rfl) ?_
   refine XL.rd rfl rfl (lb rfl) (RO.loadOwn ag_9 rfl rfl rfl) ?_
   refine XL.rd rfl rfl (lb rfl) (RO.move rfl) ?_
   refine guardK h0 (fun g10 h0 => ?_)
   refine XL.rd rfl rfl (lb rfl) (RO.fromS st_9 rfl rfl g10) ?_
   refine XL.rd rfl rfl (lb rfl) (RO.nilCheckPtr rfl) ?_
   refine XL.rd rfl rfl (lb rfl) (RO.fieldOwn fo_79_0 rfl) ?_
   refine XL.eff rfl rfl (OpOK.store ag_9 rfl rfl rfl rfl (lb rfl) rfl) ?_
   refine XL.nil ?_
   refine XQ.seq ?_
   refine XC.seq ?_
   refine XC.seq ?_
   refine XC.joinR (fun (v11 : Bool) => ⟨[(0, .v (.one (.ptr 0 0))), (4, .v (.one (dS8 (a0.take o1.toNat)))), (63, .v (.one (dB v11)))], [(0, .cells 79 [dS8 (a0.drop o1.toNat), dB a1, dI a2, .ptr 1 0]), (1, .cells 100 [.mp 2, dI a3]), (2, .mp (imE a4.1) a4.2)], [], 3, 73, []⟩) (fun (v11 : Bool) => (cond v11
       (some (0, (a0.drop o1.toNat), true))
       (guardO ((cond (Nat.ble (a0.take o1.toNat).length 18) (Lib.atoi (a0.take o1.toNat)).isSome false))
     (some ((atoiL (a0.take o1.toNat)), (a0.drop o1.toNat), a1)))) = some r) ?_ ?_
   ·
    refine bindK h0 (fun w1_ h1 h0 => ?_)
    refine XC.region ?_
    refine XL.rd rfl rfl (lb rfl) (RO.move rfl) ?_
    refine XL.rd rfl rfl (lb rfl) (RO.binInt rfl rfl rfl) ?_
    refine XL.rd rfl rfl (lb rfl) (RO.move rfl) ?_
    refine XL.case (d := 51) (c := (o1 == 0)) rfl (fun c12 => ?_) (fun c12 => ?_)
    ·
     replace h1 := condT c12 h1
     refine XL.no rfl rfl ?_
     refine XL.no rfl rfl ?_
     refine XL.rd rfl rfl (lb rfl) (RO.pickT rfl rfl) ?_
     refine XL.rd rfl rfl (lb rfl) (RO.move rfl) ?_
     refine XL.no rfl rfl ?_
     refine XL.no rfl rfl ?_
     refine XL.no rfl rfl ?_
     refine XL.no rfl rfl ?_
     refine XL.no rfl rfl ?_
     refine XL.no rfl rfl ?_
     refine XL.no rfl rfl ?_
     refine XL.rd rfl rfl (lb rfl) (RO.pickT rfl rfl) ?_
     refine XL.nil ?_
     have e_ := Option.some.inj h1
     subst e_
     exact XQ.joinR true (stle (tR rfl (tR rfl (tR rfl tZ))) (hR rfl (hR rfl (hR rfl hZ))) kZ rfl (Nat.le_trans hv0 (lb rfl)) rfl rfl rfl (bB rfl rfl (bB rfl rfl (bM rfl bZ))) rfl rfl) h0
    ·
     replace h1 := condF c12 h1
     refine XL.rd rfl rfl (lb rfl) (RO.move rfl) ?_
     refine XL.rd rfl rfl (lb rfl) (RO.binInt rfl rfl rfl) ?_
     refine XL.rd rfl rfl (lb rfl) (RO.pickF rfl rfl) ?_
     refine XL.rd rfl rfl (lb rfl) (RO.move rfl) ?_
     refine XL.case (d := 55) (c := (decide (6 < o1))) rfl (fun c13 => ?_) (fun c13 => ?_)
     ·
      replace h1 := condT c13 h1
      refine XL.no rfl rfl ?_
      refine XL.no rfl rfl ?_
      refine XL.no rfl rfl ?_
      refine XL.no rfl rfl ?_
      refine XL.no rfl rfl ?_
      refine XL.no rfl rfl ?_
      refine XL.no rfl rfl ?_
      refine XL.rd rfl rfl (lb rfl) (RO.pickT rfl rfl) ?_
      refine XL.nil ?_
      have e_ := Option.some.inj h1
      subst e_
      exact XQ.joinR true (stle (tR rfl (tR rfl (tR rfl tZ))) (hR rfl (hR rfl (hR rfl hZ))) kZ rfl (Nat.le_trans hv0 (lb rfl)) rfl rfl rfl (bB rfl rfl (bB rfl rfl (bM rfl bZ))) rfl rfl) h0
     ·
      replace h1 := condF c13 h1
      refine XL.rd rfl rfl (lb rfl) (RO.move rfl) ?_
      refine XL.rd rfl rfl (lb rfl) (RO.binInt rfl rfl rfl) ?_
      refine XL.rd rfl rfl (lb rfl) (RO.move rfl) ?_
      refine XL.case (d := 58) (c := (decide (1 < o1))) rfl (fun c14 => ?_) (fun c14 => ?_)
      ·
       replace h1 := condT c14 h1
       refine XL.rd rfl rfl (lb rfl) (RO.move rfl) ?_
       refine bindK h1 (fun x15 hx15 h1 => ?_)
       refine XL.rd rfl rfl (lb rfl) (RO.ixS st_9 rfl rfl hx15) ?_
       refine XL.rd rfl rfl (lb rfl) (RO.binInt rfl rfl rfl) ?_
       refine XL.rd rfl rfl (lb rfl) (RO.pickT rfl rfl) ?_
       refine XL.rd rfl rfl (lb rfl) (RO.pickF rfl rfl) ?_
       refine XL.nil ?_
       have e_ := Option.some.inj h1
       subst e_
       exact XQ.joinR ((x15.toNat : Int) == 48) (stle (tR rfl (tR rfl (tR rfl tZ))) (hR rfl (hR rfl (hR rfl hZ))) kZ rfl (Nat.le_trans hv0 (lb rfl)) rfl rfl rfl (bB rfl rfl (bB rfl rfl (bM rfl bZ))) rfl rfl) h0
      ·
       replace h1 := condF c14 h1
       refine XL.no rfl rfl ?_
       refine XL.no rfl rfl ?_
       refine XL.no rfl rfl ?_
       refine XL.rd rfl rfl (lb rfl) (RO.pickF rfl rfl) ?_
       refine XL.rd rfl rfl (lb rfl) (RO.pickF rfl rfl) ?_
       refine XL.nil ?_
       have e_ := Option.some.inj h1
       subst e_
       exact XQ.joinR false (stle (tR rfl (tR rfl (tR rfl tZ))) (hR rfl (hR rfl (hR rfl hZ))) kZ rfl (Nat.le_trans hv0 (lb rfl)) rfl rfl rfl (bB rfl rfl (bB rfl rfl (bM rfl bZ))) rfl rfl) h0
   ·
    intro v11 h0
    refine XQ.seq ?_
    refine XC.cond (b := v11) rfl (fun c16 => ?_) (fun c16 => ?_)
    ·
     replace h0 := condT c16 h0
     refine XC.seq ?_
     refine XC.region ?_
     refine XL.rd rfl rfl (lb rfl) (RO.move rfl) ?_
     refine XL.rd rfl rfl (lb rfl) (RO.nilCheckPtr rfl) ?_
     refine XL.rd rfl rfl (lb rfl) (RO.fieldOwn fo_79_1 rfl) ?_
     refine XL.eff rfl rfl (OpOK.store ag_4 rfl rfl rfl rfl (lb rfl) rfl) ?_
     refine XL.nil ?_
     refine XQ.seq ?_
     refine XC.seq ?_
     refine XC.region ?_
     refine XL.rd rfl rfl (lb rfl) (RO.assign rfl) ?_
     refine XL.nil ?_
     refine XQ.seq ?_
     refine XC.ret ?_
     have e_ := Option.some.inj h0
     subst e_
     exact hQ0 _ _ _ (.inr rfl) rfl (stle (tR rfl tZ) (hR rfl (hR rfl (hR rfl hZ))) kZ rfl (Nat.le_trans hv0 (lb rfl)) rfl rfl rfl (bB rfl rfl (bB rfl rfl (bM rfl bZ))) rfl rfl)
    ·
     replace h0 := condF c16 h0
     refine XC.skip ?_
     refine XQ.seq ?_
     refine XC.seq ?_
     refine XC.region ?_
     refine XL.rd rfl rfl (lb rfl) (RO.move rfl) ?_
     refine guardK h0 (fun g17 h0 => ?_)
     refine XL.put rfl rfl (lb rfl) (OpOK.callFun (atoi_fun (a0.take o1.toNat) g17) rfl (.cons (.one (.d _)) .nil)) ?_
     refine XL.rd rfl rfl (lb rfl) (RO.move rfl) ?_
     refine XL.rd rfl rfl (lb rfl) (RO.extract rfl rfl) ?_
     refine XL.rd rfl rfl (lb rfl) (RO.extract rfl rfl) ?_
     refine XL.rd rfl rfl (lb rfl) (RO.assign rfl) ?_
     refine XL.rd rfl rfl (lb rfl) (RO.assign rfl) ?_
     refine XL.nil ?_
     refine XQ.seq ?_
     refine XC.seq ?_
     refine XC.region ?_
     refine XL.rd rfl rfl (lb rfl) (RO.move rfl) ?_
     refine XL.rd rfl rfl (lb rfl) (RO.assign rfl) ?_
     refine XL.nil ?_
     refine XQ.seq ?_
     refine XC.ret ?_
     have e_ := Option.some.inj h0
     subst e_
     exact hQ0 _ _ _ (.inr rfl) rfl (stle (tR rfl tZ) (hR rfl (hR rfl (hR rfl hZ))) kZ rfl (Nat.le_trans hv0 (lb rfl)) rfl rfl rfl (bB rfl rfl (bB rfl rfl (bM rfl bZ))) rfl rfl)
def m70f5 (a0 : Int) (a1 : Int) (a2 : IMap) : Option IMap :=
  Option.bind (cond (!(imHas a2 a0))
    (some true)
    (some (decide ((imVal a2 a0) < a1)))) (fun (v1 : Bool) => cond v1
    (some (imSet a2 a0 a1))
    (some a2))
set_option maxRecDepth 100000 in
set_option maxHeartbeats 8000000 in
theorem m70f5_ok (a0 : Int) (a1 : Int) (a2 : IMap) (r : IMap) (h0 : m70f5 a0 a1 a2 = some r) : CallM Tryz.prog 70 [.one (.mp 0), .one (dI a0), .one (dI a1)] ⟨[(0, .mp (imE a2.1) a2.2)], [], 1⟩ (resOf []) ⟨[(0, .mp (imE r.1) r.2)], [], 1⟩ := by
  unfold m70f5 at h0
  refine CallM.of_bodyD ⟨[], [(0, .mp (imE r.1) r.2)], [], 1, 24, []⟩ rfl rfl en_70 (lb rfl) rfl .nil (fun w0 M V0 Q hv0 hQ0 => ?_)
  simp only [entry]
  refine XC.seq ?_
  refine XC.region ?_
  refine XL.rd rfl rfl (lb rfl) (RO.move rfl) ?_
  refine XL.rd rfl rfl (lb rfl) (RO.move rfl) ?_
  refine XL.rd rfl rfl (lb rfl) (RO.lookupT mp_98 rfl rfl rfl) ?_
  refine XL.rd rfl rfl (lb rfl) (RO.move rfl) ?_
  refine XL.rd rfl rfl (lb rfl) (RO.extract rfl rfl) ?_
  refine XL.rd rfl rfl (lb rfl) (RO.extract rfl rfl) ?_
  refine XL.rd rfl rfl (lb rfl) (RO.assign rfl) ?_
  refine XL.rd rfl rfl (lb rfl) (RO.assign rfl) ?_
  refine XL.nil ?_
  refine XQ.seq ?_
  refine XC.seq ?_
  refine XC.joinR (fun (v1 : Bool) => ⟨[(0, .v (.one (.mp 0))), (1, .v (.one (dI a0))), (2, .v (.one (dI a1))), (20, .v (.one (dB v1)))], [(0, .mp (imE a2.1) a2.2)], [], 1, 24, []⟩) (fun (v1 : Bool) => (cond v1
      (some (imSet a2 a0 a1))
      (some a2)) = some r) ?_ ?_
  ·
   refine bindK h0 (fun w1_ h1 h0 => ?_)
   refine XC.region ?_
   refine XL.rd rfl rfl (lb rfl) (RO.move rfl) ?_
   refine XL.rd rfl rfl (lb rfl) (RO.not rfl) ?_
   refine XL.rd rfl rfl (lb rfl) (RO.move rfl) ?_
   refine XL.case (d := 16) (c := (!(imHas a2 a0))) rfl (fun c2 => ?_) (fun c2 => ?_)
   ·
    replace h1 := condT c2 h1
    refine XL.no rfl rfl ?_
    refine XL.no rfl rfl ?_
    refine XL.no rfl rfl ?_
    refine XL.rd rfl rfl (lb rfl) (RO.pickT rfl rfl) ?_
    refine XL.nil ?_
    have e_ := Option.some.inj h1
    subst e_
    exact XQ.joinR true (stle (tR rfl (tR rfl (tR rfl (tR rfl tZ)))) (hR rfl hZ) kZ rfl (Nat.le_trans hv0 (lb rfl)) rfl rfl rfl (bM rfl bZ) rfl rfl) h0
   ·
    replace h1 := condF c2 h1
    refine XL.rd rfl rfl (lb rfl) (RO.move rfl) ?_
    refine XL.rd rfl rfl (lb rfl) (RO.move rfl) ?_
    refine XL.rd rfl rfl (lb rfl) (RO.binInt rfl rfl rfl) ?_
    refine XL.rd rfl rfl (lb rfl) (RO.pickF rfl rfl) ?_
    refine XL.nil ?_
    have e_ := Option.some.inj h1
    subst e_
    exact XQ.joinR (decide ((imVal a2 a0) < a1)) (stle (tR rfl (tR rfl (tR rfl (tR rfl tZ)))) (hR rfl hZ) kZ rfl (Nat.le_trans hv0 (lb rfl)) rfl rfl rfl (bM rfl bZ) rfl rfl) h0
  ·
   intro v1 h0
   refine XQ.seq ?_
   refine XC.cond (b := v1) rfl (fun c3 => ?_) (fun c3 => ?_)
   ·
    replace h0 := condT c3 h0
    refine XC.region ?_
    refine XL.rd rfl rfl (lb rfl) (RO.move rfl) ?_
    refine XL.rd rfl rfl (lb rfl) (RO.move rfl) ?_
    refine XL.rd rfl rfl (lb rfl) (RO.move rfl) ?_
    refine XL.eff rfl rfl (OpOK.mapSetI mp_98 rfl rfl rfl rfl rfl) ?_
    refine XL.nil ?_
    have e_ := Option.some.inj h0
    subst e_
    exact hQ0 _ _ _ (.inl rfl) rfl (stle tZ (hR rfl hZ) kZ rfl (Nat.le_trans hv0 (lb rfl)) rfl rfl rfl (bM rfl bZ) rfl rfl)
   ·
    replace h0 := condF c3 h0
    refine XC.skip ?_
    have e_ := Option.some.inj h0
    subst e_
    exact hQ0 _ _ _ (.inl rfl) rfl (stle tZ (hR rfl hZ) kZ rfl (Nat.le_trans hv0 (lb rfl)) rfl rfl rfl (bM rfl bZ) rfl rfl)
def m71f4_l0 (a0 : Lvl) (a1 : Int) (s1 : Int × IMap) : Option (LO (Int × IMap) IMap) :=
  cond (decide (s1.1 < (a0.vs.length : Int)))
    (Option.bind (idx a0.vs s1.1) fun (x3 : LV) =>
  Option.bind (m70f5 x3.1 (w64 (x3.2 + a1)) s1.2) fun (x4 : IMap) =>
  some (.next ((w64 (s1.1 + 1)), x4)))
    (some (.done s1.2))
def m71f4 (a0 : Lvl) (a1 : Int) (a2 : Int) (a3 : IMap) : Option IMap :=
  Option.bind (loopN (m71f4_l0 a0 a1) FUEL (0, a3)) (fun (o1 : IMap) => some o1)
set_option maxRecDepth 100000 in
set_option maxHeartbeats 8000000 in
theorem m71f4_ok (a0 : Lvl) (a1 : Int) (a2 : Int) (a3 : IMap) (r : IMap) (h0 : m71f4 a0 a1 a2 a3 = some r) : CallM Tryz.prog 71 [.one (.ptr 0 0), .agg (cE a0), .one (dI a1)] ⟨[(0, .cells 100 [.mp 1, dI a2]), (1, .mp (imE a3.1) a3.2)], [], 2⟩ (resOf []) ⟨[(0, .cells 100 [.mp 1, dI (max a2 (w64 (a0.c + a1)))]), (1, .mp (imE r.1) r.2)], [], 3⟩ := by
  unfold m71f4 at h0
  refine CallM.of_bodyD ⟨[], [(0, .cells 100 [.mp 1, dI (max a2 (w64 (a0.c + a1)))]), (1, .mp (imE r.1) r.2)], [], 3, 39, []⟩ rfl rfl en_71 (lb rfl) rfl .nil (fun w0 M V0 Q hv0 hQ0 => ?_)
  simp only [entry]
  refine XC.seq ?_
  refine XC.region ?_
  refine XL.put rfl rfl (lb rfl) (OpOK.box rfl) ?_
  refine XL.nil ?_
  refine XQ.seq ?_
  refine XC.seq ?_
  refine XC.anyRun [12] [] mixed (by kernel_rfl) (by kernel_rfl) (by kernel_rfl) ?_
  refine RunA.rd rfl rfl rfl (OpOK.of_ro (RO.move rfl)) rfl ?_
  refine RunA.rd rfl rfl rfl (OpOK.of_ro (RO.move rfl)) rfl ?_
  refine RunA.rd rfl rfl rfl (OpOK.of_ro (RO.nilCheckPtr rfl)) rfl ?_
  refine RunA.rd rfl rfl rfl (OpOK.of_ro (RO.fieldOwn fo_100_1 rfl)) rfl ?_
  refine RunA.rd rfl rfl rfl (OpOK.of_ro (RO.loadOwn ag_3 rfl rfl rfl)) rfl ?_
  refine RunA.rd rfl rfl rfl (OpOK.of_ro (RO.fieldOwn fo_24_0 rfl)) rfl ?_
  refine RunA.rd rfl rfl rfl (OpOK.of_ro (RO.loadOwn ag_3 rfl rfl rfl)) rfl ?_
  refine RunA.rd rfl rfl rfl (OpOK.of_ro (RO.move rfl)) rfl ?_
  refine RunA.rd rfl rfl rfl (OpOK.of_ro (RO.binInt rfl rfl rfl)) rfl ?_
  refine RunA.rd rfl rfl rfl (OpOK.of_ro (RO.max2 rfl rfl)) rfl ?_
  refine RunA.rd rfl rfl rfl (OpOK.of_ro (RO.nilCheckPtr rfl)) rfl ?_
  refine RunA.rd rfl rfl rfl (OpOK.of_ro (RO.fieldOwn fo_100_1 rfl)) rfl ?_
  refine RunA.eff rfl rfl rfl (OpOK.store ag_3 rfl rfl rfl rfl (lb rfl) rfl) rfl ?_
  refine RunA.nil ⟨?ex, _, _, rfl, ?_⟩
  case ex => exact trivial
  refine XQ.less (st' := ⟨[(0, .v (.one (.ptr 0 0))), (2, .v (.one (dI a1))), (4, .v (.one (.ptr 2 0)))], [(0, .cells 100 [.mp 1, dI (max a2 (w64 (a0.c + a1)))]), (1, .mp (imE a3.1) a3.2), (2, .cells 24 (cE a0))], [], 3, 39, []⟩) (stle (tR rfl (tR rfl (tR rfl tZ))) (hR rfl (hR rfl (hR rfl hZ))) kZ rfl (Nat.le_trans hv0 (lb rfl)) rfl rfl rfl (bB rfl rfl (bM rfl (bB rfl rfl bZ))) rfl rfl) ?_
  refine XQ.seq ?_
  refine XC.seq ?_
  refine XC.region ?_
  refine XL.rd rfl rfl (lb rfl) (RO.fieldOwn fo_24_1 rfl) ?_
  refine XL.rd rfl rfl (lb rfl) (RO.loadOwn ag_22 rfl rfl rfl) ?_
  refine XL.rd rfl rfl (lb rfl) (RO.lenE (α := LV) sl_22 rfl (.d _)) ?_
  refine XL.rd rfl rfl (lb rfl) (RO.move rfl) ?_
  refine XL.nil ?_
  refine XQ.seq ?_
  refine XC.block ?_
  refine XC.joinX 0 (fun (o1 : IMap) => ⟨[], [(0, .cells 100 [.mp 1, dI (max a2 (w64 (a0.c + a1)))]), (1, .mp (imE o1.1) o1.2), (2, .cells 24 (cE a0))], [], 3, 39, []⟩) (fun (o1 : IMap) => (some o1) = some r) ?_ ?_
  ·
   refine bindK h0 (fun o2 hl1 h0 => ?_)
   refine XC.loopM (m71f4_l0 a0 a1) (fun s1 => ⟨[(0, .v (.one (.ptr 0 0))), (2, .v (.one (dI a1))), (21, .v (.one (dS a0.vs))), (22, .v (.one (dI (a0.vs.length : Int)))), (23, .v (.one (dI s1.1)))], [(0, .cells 100 [.mp 1, dI (max a2 (w64 (a0.c + a1)))]), (1, .mp (imE s1.2.1) s1.2.2), (2, .cells 24 (cE a0))], [], 3, 39, []⟩) (0, a3) o2 (stle (tR rfl (tR rfl (tR rfl (tR rfl (tR rfl tZ))))) (hR rfl (hR rfl (hR rfl hZ))) kZ rfl (Nat.le_trans hv0 (lb rfl)) rfl rfl rfl (bB rfl rfl (bM rfl (bB rfl rfl bZ))) rfl rfl) hl1 (fun s1 n1 oo1 h1 ho1 => ?_)
   unfold m71f4_l0 at h1
   refine XC.seq ?_
   refine XC.region ?_
   refine XL.rd rfl rfl (lb rfl) (RO.binInt rfl rfl rfl) ?_
   refine XL.nil ?_
   refine XQ.seq ?_
   refine XC.seq ?_
   refine XC.cond (b := (decide (s1.1 < (a0.vs.length : Int)))) rfl (fun c3 => ?_) (fun c3 => ?_)
   ·
    replace h1 := condT c3 h1
    refine XC.skip ?_
    refine XQ.seq ?_
    refine XC.seq ?_
    refine XC.block ?_
    refine XC.seq ?_
    refine XC.region ?_
    refine bindK h1 (fun x4 hx4 h1 => ?_)
    refine XL.rd rfl rfl (lb rfl) (RO.indexE (α := LV) sl_22 rfl (.d _) rfl hx4) ?_
    refine XL.rd rfl rfl (lb rfl) (RO.loadPelAgg ag_69 rfl rfl rfl) ?_
    refine XL.put rfl rfl (lb rfl) (OpOK.alloc z_69 rfl) ?_
    refine XL.eff rfl rfl (OpOK.store ag_69 rfl rfl rfl rfl (lb rfl) rfl) ?_
    refine XL.nil ?_
    refine XQ.seq ?_
    refine XC.anyRun [10] [] mixed (by kernel_rfl) (by kernel_rfl) (by kernel_rfl) ?_
    refine RunA.rd rfl rfl rfl (OpOK.of_ro (RO.move rfl)) rfl ?_
    refine RunA.rd rfl rfl rfl (OpOK.of_ro (RO.nilCheckPtr rfl)) rfl ?_
    refine RunA.rd rfl rfl rfl (OpOK.of_ro (RO.fieldOwn fo_100_0 rfl)) rfl ?_
    refine RunA.rd rfl rfl rfl (OpOK.of_ro (RO.loadOwn ag_98 rfl rfl rfl)) rfl ?_
    refine RunA.rd rfl rfl rfl (OpOK.of_ro (RO.fieldOwn fo_69_0 rfl)) rfl ?_
    refine RunA.rd rfl rfl rfl (OpOK.of_ro (RO.loadOwn ag_3 rfl rfl rfl)) rfl ?_
    refine RunA.rd rfl rfl rfl (OpOK.of_ro (RO.fieldOwn fo_69_1 rfl)) rfl ?_
    refine RunA.rd rfl rfl rfl (OpOK.of_ro (RO.loadOwn ag_3 rfl rfl rfl)) rfl ?_
    refine RunA.rd rfl rfl rfl (OpOK.of_ro (RO.move rfl)) rfl ?_
    refine RunA.rd rfl rfl rfl (OpOK.of_ro (RO.binInt rfl rfl rfl)) rfl ?_
    refine bindK h1 (fun x5 hx5 h1 => ?_)
    refine RunA.eff rfl rfl rfl (OpOK.callG (hp1' := [(1, .mp (imE x5.1) x5.2)]) (tk1' := []) (hpF := [(0, .cells 100 [.mp 1, dI (max a2 (w64 (a0.c + a1)))]), (2, .cells 24 (cE a0)), (3, .cells 69 (cE x4))]) (tkF := []) (res2 := resOf []) (nx2 := 4) [1] rfl rfl (m70f5_ok x4.1 (w64 (x4.2 + a1)) s1.2 x5 hx5) rfl rfl (qM rfl qZ) rfl rfl (gM rfl gZ) jZ (hR rfl (hR rfl (hR rfl hZ))) kZ rfl rfl rfl rfl rfl (bM rfl bZ) rfl rfl rfl rfl) rfl ?_
    refine RunA.nil ⟨?ex, _, _, rfl, ?_⟩
    case ex => exact trivial
    refine XQ.less (st' := ⟨[(0, .v (.one (.ptr 0 0))), (2, .v (.one (dI a1))), (21, .v (.one (dS a0.vs))), (22, .v (.one (dI (a0.vs.length : Int)))), (23, .v (.one (dI s1.1)))], [(0, .cells 100 [.mp 1, dI (max a2 (w64 (a0.c + a1)))]), (1, .mp (imE x5.1) x5.2), (2, .cells 24 (cE a0)), (3, .cells 69 (cE x4))], [], 4, 39, []⟩) (stle (tR rfl (tR rfl (tR rfl (tR rfl (tR rfl tZ))))) (hR rfl (hR rfl (hR rfl (hR rfl hZ)))) kZ rfl (Nat.le_trans hv0 (lb rfl)) rfl rfl rfl (bB rfl rfl (bM rfl (bB rfl rfl (bB rfl rfl bZ)))) rfl rfl) ?_
    refine XQ.inBlock ?_
    refine XQ.seq ?_
    refine XC.region ?_
    refine XL.rd rfl rfl (lb rfl) (RO.binInt rfl rfl rfl) ?_
    refine XL.rd rfl rfl (lb rfl) (RO.move rfl) ?_
    refine XL.nil ?_
    have e_ := Option.some.inj h1
    subst e_
    refine XQ.nextM ((w64 (s1.1 + 1)), x5) (stle (tR rfl (tR rfl (tR rfl (tR rfl (tR rfl tZ))))) (hR rfl (hR rfl (hR rfl hZ))) kZ rfl (Nat.le_trans hv0 (lb rfl)) rfl rfl rfl (bB rfl rfl (bM rfl (bB rfl rfl bZ))) rfl rfl) ho1
   ·
    replace h1 := condF c3 h1
    refine XC.exit ?_
    refine XQ.thenE ?_
    refine XQ.thenE ?_
    have e_ := Option.some.inj h1
    subst e_
    have e_ : _ = _ := ho1
    subst e_
    exact XQ.joinX s1.2 (stle tZ (hR rfl (hR rfl (hR rfl hZ))) kZ rfl (Nat.le_trans hv0 (lb rfl)) rfl rfl rfl (bB rfl rfl (bM rfl (bB rfl rfl bZ))) rfl rfl) h0
  ·
   intro o1 h0
   refine XQ.blockX ?_
   have e_ := Option.some.inj h0
   subst e_
   exact hQ0 _ _ _ (.inl rfl) rfl (stle tZ (hR rfl (hR rfl hZ)) kZ rfl (Nat.le_trans hv0 (lb rfl)) rfl rfl rfl (bB rfl rfl (bM rfl bZ)) rfl rfl)
def m55f2 (a0 : (List UInt8)) (a1 : Bool) (a2 : Int) (a3 : Int) (a4 : IMap) : Option (((List UInt8)) × Bool × Int × Int × IMap) :=
  Option.bind (m54f1 ([117] : List UInt8) a0 a1 a2 a3 a4) fun (x1 : ((List UInt8))) =>
  Option.bind (cond (Lib.hasPrefix a0 ([117] : List UInt8))
    (some (true, x1))
    (Option.bind (m54f1 ([63] : List UInt8) x1 a1 a2 a3 a4) fun (x4 : ((List UInt8))) =>
  some ((Lib.hasPrefix x1 ([63] : List UInt8)), x4))) (fun (v2 : Bool × ((List UInt8))) => Option.bind (cond v2.1
    (Option.bind (m81f3 v2.2 a1 a2 a3 a4) fun (x5 : Int × ((List UInt8)) × Bool) =>
  Option.bind (cond (!(Lib.hasPrefix a0 ([117] : List UInt8)))
    (some (w64 ((-1) - x5.1)))
    (some x5.1)) (fun (v6 : Int) => Option.bind (m53f0 x5.2.1 x5.2.2 a2 a3 a4) fun (x7 : Unit) =>
  Option.bind (m54f1 ([43] : List UInt8) (x5.2.1.dropWhile (· == 32)) x5.2.2 a2 a3 a4) fun (x8 : ((List UInt8))) =>
  Option.bind (cond (Lib.hasPrefix (x5.2.1.dropWhile (· == 32)) ([43] : List UInt8))
    (Option.bind (m53f0 x8 x5.2.2 a2 a3 a4) fun (x11 : Unit) =>
  Option.bind (m81f3 (x8.dropWhile (· == 32)) x5.2.2 a2 a3 a4) fun (x12 : Int × ((List UInt8)) × Bool) =>
  some (x12.1, x12.2.1, x12.2.2))
    (some (0, x8, x5.2.2))) (fun (v9 : Int × ((List UInt8)) × Bool) => Option.bind (m17 v6 v9.1) fun (x10 : Lvl × Int) =>
  some (x10.2, x10.1.c, x10.1.vs, v9.2.1, v9.2.2))))
    (Option.bind (m81f3 v2.2 a1 a2 a3 a4) fun (x15 : Int × ((List UInt8)) × Bool) =>
  Option.bind (m15 x15.1) fun (x16 : Lvl × Int) =>
  some (x16.2, x16.1.c, x16.1.vs, x15.2.1, x15.2.2))) (fun (v3 : Int × Int × (List LV) × ((List UInt8)) × Bool) => Option.bind (cond (a2 == 0)
    (some v3.1)
    (some a2)) (fun (v4 : Int) => Option.bind (m71f4 (⟨v3.2.1, v3.2.2.1⟩ : Lvl) 0 a3 a4) fun (x5 : IMap) =>
  some (v3.2.2.2.1, v3.2.2.2.2, v4, (max a3 (w64 ((⟨v3.2.1, v3.2.2.1⟩ : Lvl).c + 0))), x5))))
set_option maxRecDepth 100000 in
set_option maxHeartbeats 8000000 in
theorem m55f2_ok (a0 : (List UInt8)) (a1 : Bool) (a2 : Int) (a3 : Int) (a4 : IMap) (r : ((List UInt8)) × Bool × Int × Int × IMap) (h0 : m55f2 a0 a1 a2 a3 a4 = some r) : CallM Tryz.prog 55 [.one (.ptr 0 0)] ⟨[(0, .cells 79 [dS8 a0, dB a1, dI a2, .ptr 1 0]), (1, .cells 100 [.mp 2, dI a3]), (2, .mp (imE a4.1) a4.2)], [], 3⟩ (resOf []) ⟨[(0, .cells 79 [dS8 r.1, dB r.2.1, dI r.2.2.1, .ptr 1 0]), (1, .cells 100 [.mp 2, dI r.2.2.2.1]), (2, .mp (imE r.2.2.2.2.1) r.2.2.2.2.2)], [], 5⟩ := by
  unfold m55f2 at h0
  refine CallM.of_bodyD ⟨[], [(0, .cells 79 [dS8 r.1, dB r.2.1, dI r.2.2.1, .ptr 1 0]), (1, .cells 100 [.mp 2, dI r.2.2.2.1]), (2, .mp (imE r.2.2.2.2.1) r.2.2.2.2.2)], [], 5, 55, []⟩ rfl rfl en_55 (lb rfl) rfl .nil (fun w0 M V0 Q hv0 hQ0 => ?_)
  simp only [entry]
  refine XC.seq ?_
  refine XC.region ?_
  refine XL.put rfl rfl (lb rfl) (OpOK.alloc z_24 rfl) ?_
  refine XL.nil ?_
  refine XQ.seq ?_
  refine XC.seq ?_
  refine XC.region ?_
  refine XL.rd rfl rfl (lb rfl) (RO.assign rfl) ?_
  refine XL.nil ?_
  refine XQ.seq ?_
  refine XC.seq ?_
  refine XC.region ?_
  refine XL.rd rfl rfl (lb rfl) (RO.move rfl) ?_
  refine bindK h0 (fun x1 hx1 h0 => ?_)
  refine XL.put rfl rfl (lb rfl) (OpOK.callG (hp1' := [(0, .cells 79 [dS8 x1, dB a1, dI a2, .ptr 1 0]), (1, .cells 100 [.mp 2, dI a3]), (2, .mp (imE a4.1) a4.2)]) (tk1' := []) (hpF := [(3, .cells 24 [dI 0, dN])]) (tkF := []) (res2 := resOf [.one (dB (Lib.hasPrefix a0 ([117] : List UInt8)))]) (nx2 := 4) [0, 1, 2] rfl rfl (m54f1_ok ([117] : List UInt8) a0 a1 a2 a3 a4 x1 hx1) rfl rfl (qB rfl rfl (qB rfl rfl (qM rfl qZ))) rfl rfl (gR rfl (gR rfl (gM rfl gZ))) jZ (hR rfl hZ) kZ rfl rfl rfl rfl rfl (bB rfl rfl (bB rfl rfl (bM rfl bZ))) rfl rfl rfl rfl) ?_
  refine XL.rd rfl rfl (lb rfl) (RO.assign rfl) ?_
  refine XL.nil ?_
  refine XQ.seq ?_
  refine XC.seq ?_
  refine XC.seq ?_
  refine XC.joinR (fun (v2 : Bool × ((List UInt8))) => ⟨[(0, .v (.one (.ptr 0 0))), (2, .v (.one (.ptr 3 0))), (4, .v (.one (dB (Lib.hasPrefix a0 ([117] : List UInt8))))), (13, .v (.one (dB v2.1)))], [(0, .cells 79 [dS8 v2.2, dB a1, dI a2, .ptr 1 0]), (1, .cells 100 [.mp 2, dI a3]), (2, .mp (imE a4.1) a4.2), (3, .cells 24 [dI 0, dN])], [], 4, 55, []⟩) (fun (v2 : Bool × ((List UInt8))) => (Option.bind (cond v2.1
      (Option.bind (m81f3 v2.2 a1 a2 a3 a4) fun (x5 : Int × ((List UInt8)) × Bool) =>
    Option.bind (cond (!(Lib.hasPrefix a0 ([117] : List UInt8)))
      (some (w64 ((-1) - x5.1)))
      (some x5.1)) (fun (v6 : Int) => Option.bind (m53f0 x5.2.1 x5.2.2 a2 a3 a4) fun (x7 : Unit) =>
    Option.bind (m54f1 ([43] : List UInt8) (x5.2.1.dropWhile (· == 32)) x5.2.2 a2 a3 a4) fun (x8 : ((List UInt8))) =>
    Option.bind (cond (Lib.hasPrefix (x5.2.1.dropWhile (· == 32)) ([43] : List UInt8))
      (Option.bind (m53f0 x8 x5.2.2 a2 a3 a4) fun (x11 : Unit) =>
    Option.bind (m81f3 (x8.dropWhile (· == 32)) x5.2.2 a2 a3 a4) fun (x12 : Int × ((List UInt8)) × Bool) =>
    some (x12.1, x12.2.1, x12.2.2))
      (some (0, x8, x5.2.2))) (fun (v9 : Int × ((List UInt8)) × Bool) => Option.bind (m17 v6 v9.1) fun (x10 : Lvl × Int) =>
    some (x10.2, x10.1.c, x10.1.vs, v9.2.1, v9.2.2))))
      (Option.bind (m81f3 v2.2 a1 a2 a3 a4) fun (x15 : Int × ((List UInt8)) × Bool) =>
    Option.bind (m15 x15.1) fun (x16 : Lvl × Int) =>
    some (x16.2, x16.1.c, x16.1.vs, x15.2.1, x15.2.2))) (fun (v3 : Int × Int × (List LV) × ((List UInt8)) × Bool) => Option.bind (cond (a2 == 0)
      (some v3.1)
      (some a2)) (fun (v4 : Int) => Option.bind (m71f4 (⟨v3.2.1, v3.2.2.1⟩ : Lvl) 0 a3 a4) fun (x5 : IMap) =>
    some (v3.2.2.2.1, v3.2.2.2.2, v4, (max a3 (w64 ((⟨v3.2.1, v3.2.2.1⟩ : Lvl).c + 0))), x5)))) = some r) ?_ ?_
  ·
   refine bindK h0 (fun w1_ h1 h0 => ?_)
   refine XC.region ?_
   refine XL.rd rfl rfl (lb rfl) (RO.move rfl) ?_
   refine XL.rd rfl rfl (lb rfl) (RO.move rfl) ?_
   refine XL.case (d := 10) (c := (Lib.hasPrefix a0 ([117] : List UInt8))) rfl (fun c3 => ?_) (fun c3 => ?_)
   ·
    replace h1 := condT c3 h1
    refine XL.no rfl rfl ?_
    refine XL.no rfl rfl ?_
    refine XL.rd rfl rfl (lb rfl) (RO.pickT rfl rfl) ?_
    refine XL.nil ?_
    have e_ := Option.some.inj h1
    subst e_
    exact XQ.joinR (true, x1) (stle (tR rfl (tR rfl (tR rfl (tR rfl tZ)))) (hR rfl (hR rfl (hR rfl (hR rfl hZ)))) kZ rfl (Nat.le_trans hv0 (lb rfl)) rfl rfl rfl (bB rfl rfl (bB rfl rfl (bM rfl (bB rfl rfl bZ)))) rfl rfl) h0
   ·
    replace h1 := condF c3 h1
    refine XL.rd rfl rfl (lb rfl) (RO.move rfl) ?_
    refine bindK h1 (fun x4 hx4 h1 => ?_)
    refine XL.put rfl rfl (lb rfl) (OpOK.callG (hp1' := [(0, .cells 79 [dS8 x4, dB a1, dI a2, .ptr 1 0]), (1, .cells 100 [.mp 2, dI a3]), (2, .mp (imE a4.1) a4.2)]) (tk1' := []) (hpF := [(3, .cells 24 [dI 0, dN])]) (tkF := []) (res2 := resOf [.one (dB (Lib.hasPrefix x1 ([63] : List UInt8)))]) (nx2 := 4) [0, 1, 2] rfl rfl (m54f1_ok ([63] : List UInt8) x1 a1 a2 a3 a4 x4 hx4) rfl rfl (qB rfl rfl (qB rfl rfl (qM rfl qZ))) rfl rfl (gR rfl (gR rfl (gM rfl gZ))) jZ (hR rfl hZ) kZ rfl rfl rfl rfl rfl (bB rfl rfl (bB rfl rfl (bM rfl bZ))) rfl rfl rfl rfl) ?_
    refine XL.rd rfl rfl (lb rfl) (RO.pickF rfl rfl) ?_
    refine XL.nil ?_
    have e_ := Option.some.inj h1
    subst e_
    exact XQ.joinR ((Lib.hasPrefix x1 ([63] : List UInt8)), x4) (stle (tR rfl (tR rfl (tR rfl (tR rfl tZ)))) (hR rfl (hR rfl (hR rfl (hR rfl hZ)))) kZ rfl (Nat.le_trans hv0 (lb rfl)) rfl rfl rfl (bB rfl rfl (bB rfl rfl (bM rfl (bB rfl rfl bZ)))) rfl rfl) h0
  ·
   intro v2 h0
   refine XQ.seq ?_
   refine XC.joinR (fun (v5 : Int × Int × (List LV) × ((List UInt8)) × Bool) => ⟨[(0, .v (.one (.ptr 0 0))), (2, .v (.one (.ptr 3 0))), (3, .v (.one (dI v5.1)))], [(0, .cells 79 [dS8 v5.2.2.2.1, dB v5.2.2.2.2, dI a2, .ptr 1 0]), (1, .cells 100 [.mp 2, dI a3]), (2, .mp (imE a4.1) a4.2), (3, .cells 24 [dI v5.2.1, dS v5.2.2.1])], [], 4, 55, []⟩) (fun (v5 : Int × Int × (List LV) × ((List UInt8)) × Bool) => (Option.bind (cond (a2 == 0)
       (some v5.1)
       (some a2)) (fun (v6 : Int) => Option.bind (m71f4 (⟨v5.2.1, v5.2.2.1⟩ : Lvl) 0 a3 a4) fun (x7 : IMap) =>
     some (v5.2.2.2.1, v5.2.2.2.2, v6, (max a3 (w64 ((⟨v5.2.1, v5.2.2.1⟩ : Lvl).c + 0))), x7))) = some r) ?_ ?_
   ·
    refine bindK h0 (fun w1_ h1 h0 => ?_)
    refine XC.cond (b := v2.1) rfl (fun c6 => ?_) (fun c6 => ?_)
    ·
     replace h1 := condT c6 h1
     refine XC.seq ?_
     refine XC.region ?_
     refine XL.rd rfl rfl (lb rfl) (RO.move rfl) ?_
     refine bindK h1 (fun x7 hx7 h1 => ?_)
     refine XL.put rfl rfl (lb rfl) (OpOK.callG (hp1' := [(0, .cells 79 [dS8 x7.2.1, dB x7.2.2, dI a2, .ptr 1 0]), (1, .cells 100 [.mp 2, dI a3]), (2, .mp (imE a4.1) a4.2)]) (tk1' := []) (hpF := [(3, .cells 24 [dI 0, dN])]) (tkF := []) (res2 := resOf [.one (dI x7.1)]) (nx2 := 4) [0, 1, 2] rfl rfl (m81f3_ok v2.2 a1 a2 a3 a4 x7 hx7) rfl rfl (qB rfl rfl (qB rfl rfl (qM rfl qZ))) rfl rfl (gR rfl (gR rfl (gM rfl gZ))) jZ (hR rfl hZ) kZ rfl rfl rfl rfl rfl (bB rfl rfl (bB rfl rfl (bM rfl bZ))) rfl rfl rfl rfl) ?_
     refine XL.rd rfl rfl (lb rfl) (RO.assign rfl) ?_
     refine XL.nil ?_
     refine XQ.seq ?_
     refine XC.seq ?_
     refine XC.seq ?_
     refine XC.region ?_
     refine XL.rd rfl rfl (lb rfl) (RO.move rfl) ?_
     refine XL.rd rfl rfl (lb rfl) (RO.not rfl) ?_
     refine XL.nil ?_
     refine XQ.seq ?_
     refine XC.joinR (fun (v8 : Int) => ⟨[(0, .v (.one (.ptr 0 0))), (2, .v (.one (.ptr 3 0))), (5, .v (.one (dI v8)))], [(0, .cells 79 [dS8 x7.2.1, dB x7.2.2, dI a2, .ptr 1 0]), (1, .cells 100 [.mp 2, dI a3]), (2, .mp (imE a4.1) a4.2), (3, .cells 24 [dI 0, dN])], [], 4, 55, []⟩) (fun (v8 : Int) => (Option.bind (m53f0 x7.2.1 x7.2.2 a2 a3 a4) fun (x9 : Unit) =>
       Option.bind (m54f1 ([43] : List UInt8) (x7.2.1.dropWhile (· == 32)) x7.2.2 a2 a3 a4) fun (x10 : ((List UInt8))) =>
       Option.bind (cond (Lib.hasPrefix (x7.2.1.dropWhile (· == 32)) ([43] : List UInt8))
         (Option.bind (m53f0 x10 x7.2.2 a2 a3 a4) fun (x13 : Unit) =>
       Option.bind (m81f3 (x10.dropWhile (· == 32)) x7.2.2 a2 a3 a4) fun (x14 : Int × ((List UInt8)) × Bool) =>
       some (x14.1, x14.2.1, x14.2.2))
         (some (0, x10, x7.2.2))) (fun (v11 : Int × ((List UInt8)) × Bool) => Option.bind (m17 v8 v11.1) fun (x12 : Lvl × Int) =>
       some (x12.2, x12.1.c, x12.1.vs, v11.2.1, v11.2.2))) = some w1_) ?_ ?_
     ·
      refine bindK h1 (fun w2_ h2 h1 => ?_)
      refine XC.cond (b := (!(Lib.hasPrefix a0 ([117] : List UInt8)))) rfl (fun c9 => ?_) (fun c9 => ?_)
      ·
       replace h2 := condT c9 h2
       refine XC.region ?_
       refine XL.rd rfl rfl (lb rfl) (RO.move rfl) ?_
       refine XL.rd rfl rfl (lb rfl) (RO.binInt rfl rfl rfl) ?_
       refine XL.rd rfl rfl (lb rfl) (RO.assign rfl) ?_
       refine XL.nil ?_
       have e_ := Option.some.inj h2
       subst e_
       exact XQ.joinR (w64 ((-1) - x7.1)) (stle (tR rfl (tR rfl (tR rfl tZ))) (hR rfl (hR rfl (hR rfl (hR rfl hZ)))) kZ rfl (Nat.le_trans hv0 (lb rfl)) rfl rfl rfl (bB rfl rfl (bB rfl rfl (bM rfl (bB rfl rfl bZ)))) rfl rfl) h1
      ·
       replace h2 := condF c9 h2
       refine XC.skip ?_
       have e_ := Option.some.inj h2
       subst e_
       exact XQ.joinR x7.1 (stle (tR rfl (tR rfl (tR rfl tZ))) (hR rfl (hR rfl (hR rfl (hR rfl hZ)))) kZ rfl (Nat.le_trans hv0 (lb rfl)) rfl rfl rfl (bB rfl rfl (bB rfl rfl (bM rfl (bB rfl rfl bZ)))) rfl rfl) h1
     ·
      intro v8 h1
      refine XQ.seq ?_
      refine XC.seq ?_
      refine XC.region ?_
      refine XL.rd rfl rfl (lb rfl) (RO.assign rfl) ?_
      refine XL.nil ?_
      refine XQ.seq ?_
      refine XC.seq ?_
      refine XC.region ?_
      refine XL.rd rfl rfl (lb rfl) (RO.move rfl) ?_
      refine bindK h1 (fun x10 hx10 h1 => ?_)
      refine XL.put rfl rfl (lb rfl) (OpOK.callG (hp1' := [(0, .cells 79 [dS8 (x7.2.1.dropWhile (· == 32)), dB x7.2.2, dI a2, .ptr 1 0]), (1, .cells 100 [.mp 2, dI a3]), (2, .mp (imE a4.1) a4.2)]) (tk1' := []) (hpF := [(3, .cells 24 [dI 0, dN])]) (tkF := []) (res2 := resOf []) (nx2 := 4) [0, 1, 2] rfl rfl (m53f0_ok x7.2.1 x7.2.2 a2 a3 a4 x10 hx10) rfl rfl (qB rfl rfl (qB rfl rfl (qM rfl qZ))) rfl rfl (gR rfl (gR rfl (gM rfl gZ))) jZ (hR rfl hZ) kZ rfl rfl rfl rfl rfl (bB rfl rfl (bB rfl rfl (bM rfl bZ))) rfl rfl rfl rfl) ?_
      refine XL.nil ?_
      refine XQ.seq ?_
      refine XC.seq ?_
      refine XC.seq ?_
      refine XC.region ?_
      refine XL.rd rfl rfl (lb rfl) (RO.move rfl) ?_
      refine bindK h1 (fun x11 hx11 h1 => ?_)
      refine XL.put rfl rfl (lb rfl) (OpOK.callG (hp1' := [(0, .cells 79 [dS8 x11, dB x7.2.2, dI a2, .ptr 1 0]), (1, .cells 100 [.mp 2, dI a3]), (2, .mp (imE a4.1) a4.2)]) (tk1' := []) (hpF := [(3, .cells 24 [dI 0, dN])]) (tkF := []) (res2 := resOf [.one (dB (Lib.hasPrefix (x7.2.1.dropWhile (· == 32)) ([43] : List UInt8)))]) (nx2 := 4) [0, 1, 2] rfl rfl (m54f1_ok ([43] : List UInt8) (x7.2.1.dropWhile (· == 32)) x7.2.2 a2 a3 a4 x11 hx11) rfl rfl (qB rfl rfl (qB rfl rfl (qM rfl qZ))) rfl rfl (gR rfl (gR rfl (gM rfl gZ))) jZ (hR rfl hZ) kZ rfl rfl rfl rfl rfl (bB rfl rfl (bB rfl rfl (bM rfl bZ))) rfl rfl rfl rfl) ?_
      refine XL.nil ?_
      refine XQ.seq ?_
      refine XC.joinR (fun (v12 : Int × ((List UInt8)) × Bool) => ⟨[(0, .v (.one (.ptr 0 0))), (2, .v (.one (.ptr 3 0))), (5, .v (.one (dI v8))), (6, .v (.one (dI v12.1)))], [(0, .cells 79 [dS8 v12.2.1, dB v12.2.2, dI a2, .ptr 1 0]), (1, .cells 100 [.mp 2, dI a3]), (2, .mp (imE a4.1) a4.2), (3, .cells 24 [dI 0, dN])], [], 4, 55, []⟩) (fun (v12 : Int × ((List UInt8)) × Bool) => (Option.bind (m17 v8 v12.1) fun (x13 : Lvl × Int) =>
        some (x13.2, x13.1.c, x13.1.vs, v12.2.1, v12.2.2)) = some w1_) ?_ ?_
      ·
       refine bindK h1 (fun w2_ h2 h1 => ?_)
       refine XC.cond (b := (Lib.hasPrefix (x7.2.1.dropWhile (· == 32)) ([43] : List UInt8))) rfl (fun c13 => ?_) (fun c13 => ?_)
       ·
        replace h2 := condT c13 h2
        refine XC.seq ?_
        refine XC.region ?_
        refine XL.rd rfl rfl (lb rfl) (RO.move rfl) ?_
        refine bindK h2 (fun x14 hx14 h2 => ?_)
        refine XL.put rfl rfl (lb rfl) (OpOK.callG (hp1' := [(0, .cells 79 [dS8 (x11.dropWhile (· == 32)), dB x7.2.2, dI a2, .ptr 1 0]), (1, .cells 100 [.mp 2, dI a3]), (2, .mp (imE a4.1) a4.2)]) (tk1' := []) (hpF := [(3, .cells 24 [dI 0, dN])]) (tkF := []) (res2 := resOf []) (nx2 := 4) [0, 1, 2] rfl rfl (m53f0_ok x11 x7.2.2 a2 a3 a4 x14 hx14) rfl rfl (qB rfl rfl (qB rfl rfl (qM rfl qZ))) rfl rfl (gR rfl (gR rfl (gM rfl gZ))) jZ (hR rfl hZ) kZ rfl rfl rfl rfl rfl (bB rfl rfl (bB rfl rfl (bM rfl bZ))) rfl rfl rfl rfl) ?_
        refine XL.nil ?_
        refine XQ.seq ?_
        refine XC.region ?_
        refine XL.rd rfl rfl (lb rfl) (RO.move rfl) ?_
        refine bindK h2 (fun x15 hx15 h2 => ?_)
        refine XL.put rfl rfl (lb rfl) (OpOK.callG (hp1' := [(0, .cells 79 [dS8 x15.2.1, dB x15.2.2, dI a2, .ptr 1 0]), (1, .cells 100 [.mp 2, dI a3]), (2, .mp (imE a4.1) a4.2)]) (tk1' := []) (hpF := [(3, .cells 24 [dI 0, dN])]) (tkF := []) (res2 := resOf [.one (dI x15.1)]) (nx2 := 4) [0, 1, 2] rfl rfl (m81f3_ok (x11.dropWhile (· == 32)) x7.2.2 a2 a3 a4 x15 hx15) rfl rfl (qB rfl rfl (qB rfl rfl (qM rfl qZ))) rfl rfl (gR rfl (gR rfl (gM rfl gZ))) jZ (hR rfl hZ) kZ rfl rfl rfl rfl rfl (bB rfl rfl (bB rfl rfl (bM rfl bZ))) rfl rfl rfl rfl) ?_
        refine XL.rd rfl rfl (lb rfl) (RO.assign rfl) ?_
        refine XL.nil ?_
        have e_ := Option.some.inj h2
        subst e_
        exact XQ.joinR (x15.1, x15.2.1, x15.2.2) (stle (tR rfl (tR rfl (tR rfl (tR rfl tZ)))) (hR rfl (hR rfl (hR rfl (hR rfl hZ)))) kZ rfl (Nat.le_trans hv0 (lb rfl)) rfl rfl rfl (bB rfl rfl (bB rfl rfl (bM rfl (bB rfl rfl bZ)))) rfl rfl) h1
       ·
        replace h2 := condF c13 h2
        refine XC.skip ?_
        have e_ := Option.some.inj h2
        subst e_
        exact XQ.joinR (0, x11, x7.2.2) (stle (tR rfl (tR rfl (tR rfl (tR rfl tZ)))) (hR rfl (hR rfl (hR rfl (hR rfl hZ)))) kZ rfl (Nat.le_trans hv0 (lb rfl)) rfl rfl rfl (bB rfl rfl (bB rfl rfl (bM rfl (bB rfl rfl bZ)))) rfl rfl) h1
      ·
       intro v12 h1
       refine XQ.seq ?_
       refine XC.region ?_
       refine XL.rd rfl rfl (lb rfl) (RO.move rfl) ?_
       refine XL.rd rfl rfl (lb rfl) (RO.move rfl) ?_
       refine bindK h1 (fun x16 hx16 h1 => ?_)
       refine XL.put rfl rfl (lb rfl) (OpOK.callFun (m17_ok v8 v12.1 x16 hx16) rfl (.cons (.one (.d _)) (.cons (.one (.d _)) .nil))) ?_
       refine XL.rd rfl rfl (lb rfl) (RO.move rfl) ?_
       refine XL.rd rfl rfl (lb rfl) (RO.extract rfl rfl) ?_
       refine XL.rd rfl rfl (lb rfl) (RO.extract rfl rfl) ?_
       refine XL.eff rfl rfl (OpOK.store ag_24 rfl rfl rfl rfl (lb rfl) rfl) ?_
       refine XL.rd rfl rfl (lb rfl) (RO.assign rfl) ?_
       refine XL.nil ?_
       have e_ := Option.some.inj h1
       subst e_
       exact XQ.joinR (x16.2, x16.1.c, x16.1.vs, v12.2.1, v12.2.2) (stle (tR rfl (tR rfl (tR rfl tZ))) (hR rfl (hR rfl (hR rfl (hR rfl hZ)))) kZ rfl (Nat.le_trans hv0 (lb rfl)) rfl rfl rfl (bB rfl rfl (bB rfl rfl (bM rfl (bB rfl rfl bZ)))) rfl rfl) h0
    ·
     replace h1 := condF c6 h1
     refine XC.region ?_
     refine XL.rd rfl rfl (lb rfl) (RO.move rfl) ?_
     refine bindK h1 (fun x17 hx17 h1 => ?_)
     refine XL.put rfl rfl (lb rfl) (OpOK.callG (hp1' := [(0, .cells 79 [dS8 x17.2.1, dB x17.2.2, dI a2, .ptr 1 0]), (1, .cells 100 [.mp 2, dI a3]), (2, .mp (imE a4.1) a4.2)]) (tk1' := []) (hpF := [(3, .cells 24 [dI 0, dN])]) (tkF := []) (res2 := resOf [.one (dI x17.1)]) (nx2 := 4) [0, 1, 2] rfl rfl (m81f3_ok v2.2 a1 a2 a3 a4 x17 hx17) rfl rfl (qB rfl rfl (qB rfl rfl (qM rfl qZ))) rfl rfl (gR rfl (gR rfl (gM rfl gZ))) jZ (hR rfl hZ) kZ rfl rfl rfl rfl rfl (bB rfl rfl (bB rfl rfl (bM rfl bZ))) rfl rfl rfl rfl) ?_
     refine bindK h1 (fun x18 hx18 h1 => ?_)
     refine XL.put rfl rfl (lb rfl) (OpOK.callFun (m15_ok x17.1 x18 hx18) rfl (.cons (.one (.d _)) .nil)) ?_
     refine XL.rd rfl rfl (lb rfl) (RO.move rfl) ?_
     refine XL.rd rfl rfl (lb rfl) (RO.extract rfl rfl) ?_
     refine XL.rd rfl rfl (lb rfl) (RO.extract rfl rfl) ?_
     refine XL.eff rfl rfl (OpOK.store ag_24 rfl rfl rfl rfl (lb rfl) rfl) ?_
     refine XL.rd rfl rfl (lb rfl) (RO.assign rfl) ?_
     refine XL.nil ?_
     have e_ := Option.some.inj h1
     subst e_
     exact XQ.joinR (x18.2, x18.1.c, x18.1.vs, x17.2.1, x17.2.2) (stle (tR rfl (tR rfl (tR rfl tZ))) (hR rfl (hR rfl (hR rfl (hR rfl hZ)))) kZ rfl (Nat.le_trans hv0 (lb rfl)) rfl rfl rfl (bB rfl rfl (bB rfl rfl (bM rfl (bB rfl rfl bZ)))) rfl rfl) h0
   ·
    intro v5 h0
    refine XQ.seq ?_
    refine XC.seq ?_
    refine XC.seq ?_
    refine XC.region ?_
    refine XL.rd rfl rfl (lb rfl) (RO.move rfl) ?_
    refine XL.rd rfl rfl (lb rfl) (RO.nilCheckPtr rfl) ?_
    refine XL.rd rfl rfl (lb rfl) (RO.fieldOwn fo_79_2 rfl) ?_
    refine XL.rd rfl rfl (lb rfl) (RO.loadOwn ag_27 rfl rfl rfl) ?_
    refine XL.rd rfl rfl (lb rfl) (RO.binInt rfl rfl rfl) ?_
    refine XL.nil ?_
    refine XQ.seq ?_
    refine XC.joinR (fun (v19 : Int) => ⟨[(0, .v (.one (.ptr 0 0))), (2, .v (.one (.ptr 3 0)))], [(0, .cells 79 [dS8 v5.2.2.2.1, dB v5.2.2.2.2, dI v19, .ptr 1 0]), (1, .cells 100 [.mp 2, dI a3]), (2, .mp (imE a4.1) a4.2), (3, .cells 24 [dI v5.2.1, dS v5.2.2.1])], [], 4, 55, []⟩) (fun (v19 : Int) => (Option.bind (m71f4 (⟨v5.2.1, v5.2.2.1⟩ : Lvl) 0 a3 a4) fun (x20 : IMap) =>
      some (v5.2.2.2.1, v5.2.2.2.2, v19, (max a3 (w64 ((⟨v5.2.1, v5.2.2.1⟩ : Lvl).c + 0))), x20)) = some r) ?_ ?_
    ·
     refine bindK h0 (fun w1_ h1 h0 => ?_)
     refine XC.cond (b := (a2 == 0)) rfl (fun c20 => ?_) (fun c20 => ?_)
     ·
      replace h1 := condT c20 h1
      refine XC.region ?_
      refine XL.rd rfl rfl (lb rfl) (RO.move rfl) ?_
      refine XL.rd rfl rfl (lb rfl) (RO.move rfl) ?_
      refine XL.rd rfl rfl (lb rfl) (RO.nilCheckPtr rfl) ?_
      refine XL.rd rfl rfl (lb rfl) (RO.fieldOwn fo_79_2 rfl) ?_
      refine XL.eff rfl rfl (OpOK.store ag_27 rfl rfl rfl rfl (lb rfl) rfl) ?_
      refine XL.nil ?_
      have e_ := Option.some.inj h1
      subst e_
      exact XQ.joinR v5.1 (stle (tR rfl (tR rfl tZ)) (hR rfl (hR rfl (hR rfl (hR rfl hZ)))) kZ rfl (Nat.le_trans hv0 (lb rfl)) rfl rfl rfl (bB rfl rfl (bB rfl rfl (bM rfl (bB rfl rfl bZ)))) rfl rfl) h0
     ·
      replace h1 := condF c20 h1
      refine XC.skip ?_
      have e_ := Option.some.inj h1
      subst e_
      exact XQ.joinR a2 (stle (tR rfl (tR rfl tZ)) (hR rfl (hR rfl (hR rfl (hR rfl hZ)))) kZ rfl (Nat.le_trans hv0 (lb rfl)) rfl rfl rfl (bB rfl rfl (bB rfl rfl (bM rfl (bB rfl rfl bZ)))) rfl rfl) h0
    ·
     intro v19 h0
     refine XQ.seq ?_
     refine XC.anyRun [5] [] mixed (by kernel_rfl) (by kernel_rfl) (by kernel_rfl) ?_
     refine RunA.rd rfl rfl rfl (OpOK.of_ro (RO.move rfl)) rfl ?_
     refine RunA.rd rfl rfl rfl (OpOK.of_ro (RO.nilCheckPtr rfl)) rfl ?_
     refine RunA.rd rfl rfl rfl (OpOK.of_ro (RO.fieldOwn fo_79_3 rfl)) rfl ?_
     refine RunA.rd rfl rfl rfl (OpOK.of_ro (RO.loadOwn ag_76 rfl rfl rfl)) rfl ?_
     refine RunA.rd rfl rfl rfl (OpOK.of_ro (RO.loadOwnAgg ag_24 rfl rfl rfl rfl)) rfl ?_
     refine bindK h0 (fun x21 hx21 h0 => ?_)
     refine RunA.eff rfl rfl rfl (OpOK.callG (hp1' := [(1, .cells 100 [.mp 2, dI (max a3 (w64 ((⟨v5.2.1, v5.2.2.1⟩ : Lvl).c + 0)))]), (2, .mp (imE x21.1) x21.2)]) (tk1' := []) (hpF := [(0, .cells 79 [dS8 v5.2.2.2.1, dB v5.2.2.2.2, dI v19, .ptr 1 0]), (3, .cells 24 [dI v5.2.1, dS v5.2.2.1])]) (tkF := []) (res2 := resOf []) (nx2 := 5) [1, 2] rfl rfl (m71f4_ok (⟨v5.2.1, v5.2.2.1⟩ : Lvl) 0 a3 a4 x21 hx21) rfl rfl (qB rfl rfl (qM rfl qZ)) rfl rfl (gR rfl (gM rfl gZ)) jZ (hR rfl (hR rfl hZ)) kZ rfl rfl rfl rfl rfl (bB rfl rfl (bM rfl bZ)) rfl rfl rfl rfl) rfl ?_
     refine RunA.nil ⟨?ex, _, _, rfl, ?_⟩
     case ex => exact trivial
     refine XQ.less (st' := ⟨[], [(0, .cells 79 [dS8 v5.2.2.2.1, dB v5.2.2.2.2, dI v19, .ptr 1 0]), (1, .cells 100 [.mp 2, dI (max a3 (w64 ((⟨v5.2.1, v5.2.2.1⟩ : Lvl).c + 0)))]), (2, .mp (imE x21.1) x21.2), (3, .cells 24 [dI v5.2.1, dS v5.2.2.1])], [], 5, 55, []⟩) (stle tZ (hR rfl (hR rfl (hR rfl (hR rfl hZ)))) kZ rfl (Nat.le_trans hv0 (lb rfl)) rfl rfl rfl (bB rfl rfl (bB rfl rfl (bM rfl (bB rfl rfl bZ)))) rfl rfl) ?_
     have e_ := Option.some.inj h0
     subst e_
     exact hQ0 _ _ _ (.inl rfl) rfl (stle tZ (hR rfl (hR rfl (hR rfl hZ))) kZ rfl (Nat.le_trans hv0 (lb rfl)) rfl rfl rfl (bB rfl rfl (bB rfl rfl (bM rfl bZ))) rfl rfl)
def m83f7 (a0 : IMap) : Option Unit :=
  some ()
set_option maxRecDepth 100000 in
set_option maxHeartbeats 8000000 in
theorem m83f7_ok (a0 : IMap) (r : Unit) (h0 : m83f7 a0 = some r) : CallM Tryz.prog 83 [.one (.mp 0)] ⟨[(0, .mp (imE a0.1) a0.2)], [], 1⟩ (resOf [.one (.fn 102 [(1, 0)])]) ⟨[(0, .mp (imE a0.1) a0.2), (1, .cells 98 [.mp 0])], [], 2⟩ := by
  unfold m83f7 at h0
  refine CallM.of_bodyD ⟨[(2, .v (.one (.fn 102 [(1, 0)])))], [(0, .mp (imE a0.1) a0.2), (1, .cells 98 [.mp 0])], [], 2, 4, []⟩ rfl rfl en_83 (lb rfl) rfl (RAs.tmp rfl .nil) (fun w0 M V0 Q hv0 hQ0 => ?_)
  simp only [entry]
  refine XC.seq ?_
  refine XC.region ?_
  refine XL.put rfl rfl (lb rfl) (OpOK.box rfl) ?_
  refine XL.rd rfl rfl (lb rfl) (RO.assign rfl) ?_
  refine XL.nil ?_
  refine XQ.seq ?_
  refine XC.seq ?_
  refine XC.region ?_
  refine XL.rd rfl rfl (lb rfl) (RO.makeFunc1 rfl) ?_
  refine XL.rd rfl rfl (lb rfl) (RO.assign rfl) ?_
  refine XL.nil ?_
  refine XQ.seq ?_
  refine XC.ret ?_
  have e_ := Option.some.inj h0
  subst e_
  exact hQ0 _ _ _ (.inr rfl) rfl (stle (tR rfl tZ) (hR rfl (hR rfl hZ)) kZ rfl (Nat.le_trans hv0 (lb rfl)) rfl rfl rfl (bM rfl (bB rfl rfl bZ)) rfl rfl)
def m56f6_l0 (a1 : IMap) (s1 : Int × (List LV)) : Option (LO (Int × (List LV)) (((List LV)))) :=
  cond (decide (s1.1 < ((imKeys a1).length : Int)))
    (Option.bind (idx (imKeys a1) s1.1) fun (x5 : Int) =>
  guardO (Nat.ble (s1.2.length + ([(x5, (imVal a1 x5))]).length) 1000000000)
  (some (.next ((w64 (s1.1 + 1)), (s1.2 ++ ([(x5, (imVal a1 x5))]))))))
    (some (.done s1.2))
def m56f6 (a0 : Int) (a1 : IMap) : Option (Int × Int × (List LV)) :=
  Option.bind (m83f7 a1) fun (x1 : Unit) =>
  guardO (imOk a1)
  (Option.bind (loopN (m56f6_l0 a1) FUEL (0, ([] : List LV))) (fun (o3 : (List LV)) => guardO (Nat.ble (⟨a0, o3⟩ : Lvl).vs.length 100000)
  (some ((limL (⟨a0, o3⟩ : Lvl)).2, ((limL (⟨a0, o3⟩ : Lvl)).1).c, ((limL (⟨a0, o3⟩ : Lvl)).1).vs))))
set_option maxRecDepth 100000 in
set_option maxHeartbeats 8000000 in
theorem m56f6_ok (a0 : Int) (a1 : IMap) (r : Int × Int × (List LV)) (h0 : m56f6 a0 a1 = some r) : CallM Tryz.prog 56 [.one (.ptr 0 0)] ⟨[(0, .cells 100 [.mp 1, dI a0]), (1, .mp (imE a1.1) a1.2)], [], 2⟩ (resOf [.agg [dI r.2.1, dS r.2.2], .one (dI r.1)]) ⟨[(0, .cells 100 [.mp 1, dI a0]), (1, .mp (imE a1.1) a1.2), (2, .cells 24 [dI r.2.1, dS r.2.2])], [], 6⟩ := by
  unfold m56f6 at h0
  refine CallM.of_bodyD ⟨[(2, .v (.one (.ptr 2 0))), (3, .v (.one (dI r.1)))], [(0, .cells 100 [.mp 1, dI a0]), (1, .mp (imE a1.1) a1.2), (2, .cells 24 [dI r.2.1, dS r.2.2])], [], 6, 41, []⟩ rfl rfl en_56 (lb rfl) rfl (RAs.agg ag_24 rfl rfl rfl rfl (RAs.tmp rfl .nil)) (fun w0 M V0 Q hv0 hQ0 => ?_)
  simp only [entry]
  refine XC.seq ?_
  refine XC.region ?_
  refine XL.put rfl rfl (lb rfl) (OpOK.alloc z_24 rfl) ?_
  refine XL.rd rfl rfl (lb rfl) (RO.assign rfl) ?_
  refine XL.nil ?_
  refine XQ.seq ?_
  refine XC.seq ?_
  refine XC.region ?_
  refine XL.rd rfl rfl (lb rfl) (RO.move rfl) ?_
  refine XL.rd rfl rfl (lb rfl) (RO.nilCheckPtr rfl) ?_
  refine XL.rd rfl rfl (lb rfl) (RO.fieldOwn fo_100_1 rfl) ?_
  refine XL.rd rfl rfl (lb rfl) (RO.loadOwn ag_3 rfl rfl rfl) ?_
  refine XL.rd rfl rfl (lb rfl) (RO.build1 bd_24 rfl rfl rfl) ?_
  refine XL.put rfl rfl (lb rfl) (OpOK.alloc z_24 rfl) ?_
  refine XL.eff rfl rfl (OpOK.store ag_24 rfl rfl rfl rfl (lb rfl) rfl) ?_
  refine XL.nil ?_
  refine XQ.seq ?_
  refine XC.seq ?_
  refine XC.seq ?_
  refine XC.region ?_
  refine XL.rd rfl rfl (lb rfl) (RO.move rfl) ?_
  refine XL.rd rfl rfl (lb rfl) (RO.nilCheckPtr rfl) ?_
  refine XL.rd rfl rfl (lb rfl) (RO.fieldOwn fo_100_0 rfl) ?_
  refine XL.rd rfl rfl (lb rfl) (RO.loadOwn ag_98 rfl rfl rfl) ?_
  refine bindK h0 (fun x1 hx1 h0 => ?_)
  refine XL.put rfl rfl (lb rfl) (OpOK.callG (hp1' := [(1, .mp (imE a1.1) a1.2), (4, .cells 98 [.mp 1])]) (tk1' := []) (hpF := [(0, .cells 100 [.mp 1, dI a0]), (2, .cells 24 [dI 0, dN]), (3, .cells 24 [dI a0, dN])]) (tkF := []) (res2 := resOf [.one (.fn 102 [(4, 0)])]) (nx2 := 5) [1] rfl rfl (m83f7_ok a1 x1 hx1) rfl rfl (qM rfl (qB rfl rfl qZ)) rfl rfl (gM rfl gZ) jZ (hR rfl (hR rfl (hR rfl hZ))) kZ rfl rfl rfl rfl rfl (bM rfl bZ) rfl rfl rfl rfl) ?_
  refine guardK h0 (fun g2 h0 => ?_)
  refine XL.put rfl rfl (lb rfl) (OpOK.sortedKeys rfl rfl rfl rfl g2) ?_
  refine XL.rd rfl rfl (lb rfl) (RO.lenE (α := Int) sl_46 rfl (.d _)) ?_
  refine XL.rd rfl rfl (lb rfl) (RO.move rfl) ?_
  refine XL.nil ?_
  refine XQ.seq ?_
  refine XC.block ?_
  refine XC.joinX 0 (fun (o3 : (List LV)) => ⟨[(2, .v (.one (.ptr 2 0))), (4, .v (.one (.ptr 3 0)))], [(0, .cells 100 [.mp 1, dI a0]), (1, .mp (imE a1.1) a1.2), (2, .cells 24 [dI 0, dN]), (3, .cells 24 [dI a0, dA 5 o3]), (4, .cells 98 [.mp 1])], [(5, some ⟨69, 2, (Enc.encL o3).length⟩)], 6, 41, []⟩) (fun (o3 : (List LV)) => (guardO (Nat.ble (⟨a0, o3⟩ : Lvl).vs.length 100000)
    (some ((limL (⟨a0, o3⟩ : Lvl)).2, ((limL (⟨a0, o3⟩ : Lvl)).1).c, ((limL (⟨a0, o3⟩ : Lvl)).1).vs))) = some r) ?_ ?_
  ·
   refine XC.adoptC (i := 3) (off := 1) 69 2 rfl rfl ?_
   refine bindK h0 (fun o4 hl1 h0 => ?_)
   refine XC.loopM (m56f6_l0 a1) (fun s1 => ⟨[(0, .v (.one (.ptr 0 0))), (2, .v (.one (.ptr 2 0))), (4, .v (.one (.ptr 3 0))), (17, .v (.one (dS ((imKeys a1) : List Int)))), (18, .v (.one (dI ((imKeys a1).length : Int)))), (19, .v (.one (dI s1.1)))], [(0, .cells 100 [.mp 1, dI a0]), (1, .mp (imE a1.1) a1.2), (2, .cells 24 [dI 0, dN]), (3, .cells 24 [dI a0, dA 5 s1.2]), (4, .cells 98 [.mp 1])], [(5, some ⟨69, 2, (Enc.encL s1.2).length⟩)], 6, 41, []⟩) (0, ([] : List LV)) o4 (stle (tR rfl (tR rfl (tR rfl (tR rfl (tR rfl (tR rfl tZ)))))) (hR rfl (hR rfl (hR rfl (hR rfl (hR rfl hZ))))) (kR rfl kZ) rfl (Nat.le_trans hv0 (lb rfl)) rfl rfl rfl (bB rfl rfl (bM rfl (bB rfl rfl (bB rfl rfl (bB rfl rfl bZ))))) rfl rfl) hl1 (fun s1 n1 oo1 h1 ho1 => ?_)
   unfold m56f6_l0 at h1
   refine XC.seq ?_
   refine XC.region ?_
   refine XL.rd rfl rfl (lb rfl) (RO.binInt rfl rfl rfl) ?_
   refine XL.nil ?_
   refine XQ.seq ?_
   refine XC.seq ?_
   refine XC.cond (b := (decide (s1.1 < ((imKeys a1).length : Int)))) rfl (fun c5 => ?_) (fun c5 => ?_)
   ·
    replace h1 := condT c5 h1
    refine XC.skip ?_
    refine XQ.seq ?_
    refine XC.seq ?_
    refine XC.block ?_
    refine XC.seq ?_
    refine XC.region ?_
    refine bindK h1 (fun x6 hx6 h1 => ?_)
    refine XL.rd rfl rfl (lb rfl) (RO.indexE (α := Int) sl_46 rfl (.d _) rfl hx6) ?_
    refine XL.rd rfl rfl (lb rfl) (RO.loadPel ag_3 rfl rfl) ?_
    refine XL.rd rfl rfl (lb rfl) (RO.assign rfl) ?_
    refine XL.nil ?_
    refine XQ.seq ?_
    refine XC.anyRun [11, 13] [] mixed (by kernel_rfl) (by kernel_rfl) (by kernel_rfl) ?_
    refine RunA.rd rfl rfl rfl (OpOK.of_ro (RO.fieldOwn fo_24_1 rfl)) rfl ?_
    refine RunA.rd rfl rfl rfl (OpOK.of_ro (RO.loadOwn ag_22 rfl rfl rfl)) rfl ?_
    refine RunA.rd rfl rfl rfl (OpOK.of_ro (RO.move rfl)) rfl ?_
    refine RunA.rd rfl rfl rfl (OpOK.of_ro (RO.move rfl)) rfl ?_
    refine RunA.rd rfl rfl rfl (OpOK.of_ro (RO.nilCheckPtr rfl)) rfl ?_
    refine RunA.rd rfl rfl rfl (OpOK.of_ro (RO.fieldOwn fo_100_0 rfl)) rfl ?_
    refine RunA.rd rfl rfl rfl (OpOK.of_ro (RO.loadOwn ag_98 rfl rfl rfl)) rfl ?_
    refine RunA.rd rfl rfl rfl (OpOK.of_ro (RO.move rfl)) rfl ?_
    refine RunA.rd rfl rfl rfl (OpOK.of_ro (RO.lookupF mp_98 rfl rfl rfl)) rfl ?_
    refine RunA.rd rfl rfl rfl (OpOK.of_ro (RO.build2 bd_69 rfl rfl rfl rfl)) rfl ?_
    refine RunA.rd rfl rfl rfl (OpOK.data1E (α := LV) ((x6, (imVal a1 x6))) sl_22 z_69 rfl rfl (lb rfl) rfl rfl (.cons (.d _) (.cons (.d _) .nil)) rfl) rfl ?_
    refine guardK h1 (fun g7 h1 => ?_)
    refine RunA.eff rfl rfl rfl (OpOK.appendE (α := LV) sl_22 el_69 rfl rfl rfl rfl rfl (.d _) g7) rfl ?_
    refine RunA.rd rfl rfl rfl (OpOK.of_ro (RO.fieldOwn fo_24_1 rfl)) rfl ?_
    refine RunA.eff rfl rfl rfl (OpOK.store ag_22 rfl rfl rfl rfl (lb rfl) rfl) rfl ?_
    refine RunA.nil ⟨?ex, _, _, rfl, ?_⟩
    case ex => exact trivial
    refine XQ.less (st' := ⟨[(0, .v (.one (.ptr 0 0))), (2, .v (.one (.ptr 2 0))), (4, .v (.one (.ptr 3 0))), (17, .v (.one (dS ((imKeys a1) : List Int)))), (18, .v (.one (dI ((imKeys a1).length : Int)))), (19, .v (.one (dI s1.1)))], [(0, .cells 100 [.mp 1, dI a0]), (1, .mp (imE a1.1) a1.2), (2, .cells 24 [dI 0, dN]), (3, .cells 24 [dI a0, dA 5 ((s1.2 ++ ([(x6, (imVal a1 x6))])) : List LV)]), (4, .cells 98 [.mp 1])], [(5, some ⟨69, 2, (Enc.encL ((s1.2 ++ ([(x6, (imVal a1 x6))])) : List LV)).length⟩)], 6, 41, []⟩) (stle (tR rfl (tR rfl (tR rfl (tR rfl (tR rfl (tR rfl tZ)))))) (hR rfl (hR rfl (hR rfl (hR rfl (hR rfl hZ))))) (kR rfl kZ) rfl (Nat.le_trans hv0 (lb rfl)) rfl rfl rfl (bB rfl rfl (bM rfl (bB rfl rfl (bB rfl rfl (bB rfl rfl bZ))))) rfl rfl) ?_
    refine XQ.inBlock ?_
    refine XQ.seq ?_
    refine XC.region ?_
    refine XL.rd rfl rfl (lb rfl) (RO.binInt rfl rfl rfl) ?_
    refine XL.rd rfl rfl (lb rfl) (RO.move rfl) ?_
    refine XL.nil ?_
    have e_ := Option.some.inj h1
    subst e_
    refine XQ.nextM ((w64 (s1.1 + 1)), (s1.2 ++ ([(x6, (imVal a1 x6))]))) (stle (tR rfl (tR rfl (tR rfl (tR rfl (tR rfl (tR rfl tZ)))))) (hR rfl (hR rfl (hR rfl (hR rfl (hR rfl hZ))))) (kR rfl kZ) rfl (Nat.le_trans hv0 (lb rfl)) rfl rfl rfl (bB rfl rfl (bM rfl (bB rfl rfl (bB rfl rfl (bB rfl rfl bZ))))) rfl rfl) ho1
   ·
    replace h1 := condF c5 h1
    refine XC.exit ?_
    refine XQ.thenE ?_
    refine XQ.thenE ?_
    have e_ := Option.some.inj h1
    subst e_
    have e_ : _ = _ := ho1
    subst e_
    exact XQ.joinX s1.2 (stle (tR rfl (tR rfl tZ)) (hR rfl (hR rfl (hR rfl (hR rfl (hR rfl hZ))))) (kR rfl kZ) rfl (Nat.le_trans hv0 (lb rfl)) rfl rfl rfl (bB rfl rfl (bM rfl (bB rfl rfl (bB rfl rfl (bB rfl rfl bZ))))) rfl rfl) h0
  ·
   intro o3 h0
   refine XQ.blockX ?_
   refine XQ.seq ?_
   refine XC.seq ?_
   refine XC.region ?_
   refine XL.rd rfl rfl (lb rfl) (RO.loadOwnAgg ag_24 rfl rfl rfl rfl) ?_
   refine guardK h0 (fun g8 h0 => ?_)
   refine XL.put rfl rfl (lb rfl) (OpOK.callFun (limited_fun (⟨a0, o3⟩ : Lvl) (Nat.le_of_ble_eq_true g8)) rfl (.cons (.agg (.cons (.d _) (.cons (.app _ _ _) .nil))) .nil)) ?_
   refine XL.rd rfl rfl (lb rfl) (RO.extract rfl rfl) ?_
   refine XL.rd rfl rfl (lb rfl) (RO.extract rfl rfl) ?_
   refine XL.eff rfl rfl (OpOK.store ag_24 rfl rfl rfl rfl (lb rfl) rfl) ?_
   refine XL.rd rfl rfl (lb rfl) (RO.assign rfl) ?_
   refine XL.nil ?_
   refine XQ.seq ?_
   refine XC.ret ?_
   have e_ := Option.some.inj h0
   subst e_
   exact hQ0 _ _ _ (.inr rfl) rfl (stle (tR rfl (tR rfl tZ)) (hR rfl (hR rfl (hR rfl hZ))) kZ rfl (Nat.le_trans hv0 (lb rfl)) rfl rfl rfl (bB rfl rfl (bM rfl (bB rfl rfl bZ))) rfl rfl)
def m26_l0  (s2 : Bool × IMap × Int × ((List UInt8)) × Bool × Int) : Option (LO (Bool × IMap × Int × ((List UInt8)) × Bool × Int) ((IMap × Int × ((List UInt8)) × Bool × Int))) :=
  Option.bind (cond s2.1
    (some (!s2.2.2.2.2.1))
    (some false)) (fun (v11 : Bool) => cond v11
    (Option.bind (m53f0 s2.2.2.2.1 s2.2.2.2.2.1 s2.2.2.2.2.2 s2.2.2.1 s2.2.1) fun (x13 : Unit) =>
  Option.bind (m55f2 (s2.2.2.2.1.dropWhile (· == 32)) s2.2.2.2.2.1 s2.2.2.2.2.2 s2.2.2.1 s2.2.1) fun (x14 : ((List UInt8)) × Bool × Int × Int × IMap) =>
  Option.bind (m53f0 x14.1 x14.2.1 x14.2.2.1 x14.2.2.2.1 x14.2.2.2.2) fun (x15 : Unit) =>
  Option.bind (m54f1 ([44] : List UInt8) (x14.1.dropWhile (· == 32)) x14.2.1 x14.2.2.1 x14.2.2.2.1 x14.2.2.2.2) fun (x16 : ((List UInt8))) =>
  some (.next ((Lib.hasPrefix (x14.1.dropWhile (· == 32)) ([44] : List UInt8)), x14.2.2.2.2, x14.2.2.2.1, x16, x14.2.1, x14.2.2.1)))
    (some (.done (s2.2.1, s2.2.2.1, s2.2.2.2.1, s2.2.2.2.2.1, s2.2.2.2.2.2))))
def m26 (a0 : (List UInt8)) : Option (Lvl × Int) :=
  cond (decide (65536 < (a0.length : Int)))
    (some ((⟨0, ([] : List LV)⟩ : Lvl), 5))
    (Option.bind (some ()) (fun (y2 : Unit) => Option.bind (m53f0 a0 false 0 0 imNil) fun (x4 : Unit) =>
  Option.bind (m54f1 ([109, 97, 120] : List UInt8) (a0.dropWhile (· == 32)) false 0 0 imNil) fun (x5 : ((List UInt8))) =>
  Option.bind (cond (Lib.hasPrefix (a0.dropWhile (· == 32)) ([109, 97, 120] : List UInt8))
    (Option.bind (m53f0 x5 false 0 0 imNil) fun (x8 : Unit) =>
  Option.bind (m54f1 ([40] : List UInt8) (x5.dropWhile (· == 32)) false 0 0 imNil) fun (x9 : ((List UInt8))) =>
  Option.bind (loopN (m26_l0) FUEL (true, imNil, 0, x9, (!(Lib.hasPrefix (x5.dropWhile (· == 32)) ([40] : List UInt8))), 0)) (fun (o10 : IMap × Int × ((List UInt8)) × Bool × Int) => Option.bind (m54f1 ([41] : List UInt8) o10.2.2.1 o10.2.2.2.1 o10.2.2.2.2 o10.2.1 o10.1) fun (x11 : ((List UInt8))) =>
  cond (!(Lib.hasPrefix o10.2.2.1 ([41] : List UInt8)))
    (some (x11, true, o10.2.2.2.2, o10.2.1, o10.1))
    (some (x11, o10.2.2.2.1, o10.2.2.2.2, o10.2.1, o10.1))))
    (Option.bind (m55f2 x5 false 0 0 imNil) fun (x21 : ((List UInt8)) × Bool × Int × Int × IMap) =>
  some (x21.1, x21.2.1, x21.2.2.1, x21.2.2.2.1, x21.2.2.2.2))) (fun (v6 : ((List UInt8)) × Bool × Int × Int × IMap) => Option.bind (m53f0 v6.1 v6.2.1 v6.2.2.1 v6.2.2.2.1 v6.2.2.2.2) fun (x7 : Unit) =>
  Option.bind (cond v6.2.1
    (some true)
    (some (!((v6.1.dropWhile (· == 32)) == ([] : List UInt8))))) (fun (v8 : Bool) => cond v8
    (some ((⟨0, ([] : List LV)⟩ : Lvl), 4))
    (cond (v6.2.2.1 != 0)
    (some ((⟨0, ([] : List LV)⟩ : Lvl), v6.2.2.1))
    (Option.bind (m56f6 v6.2.2.2.1 v6.2.2.2.2) fun (x11 : Int × Int × (List LV)) =>
  some ((⟨x11.2.1, x11.2.2⟩ : Lvl), x11.1)))))))
set_option maxRecDepth 100000 in
set_option maxHeartbeats 8000000 in
theorem m26_ok (a0 : (List UInt8)) (r : Lvl × Int) (h0 : m26 a0 = some r) : Fun Tryz.prog 26 [.one (dS8 a0)] (resOf [.agg (cE r.1), .one (dI r.2)]) := by
  unfold m26 at h0
  refine Fun.of_bodyM 9 83 Tryz.func26 rfl en_26 rfl (lb rfl) (fun S w => ?_)
  simp only [entry]
  refine XC.seq ?_
  refine XC.region ?_
  refine XL.put rfl rfl (lb rfl) (OpOK.alloc z_24 rfl) ?_
  refine XL.rd rfl rfl (lb rfl) (RO.assign rfl) ?_
  refine XL.nil ?_
  refine XQ.seq ?_
  refine XC.seq ?_
  refine XC.seq ?_
  refine XC.region ?_
  refine XL.rd rfl rfl (lb rfl) (RO.move rfl) ?_
  refine XL.rd rfl rfl (lb rfl) (RO.lenS st_9 rfl) ?_
  refine XL.rd rfl rfl (lb rfl) (RO.binInt rfl rfl rfl) ?_
  refine XL.nil ?_
  refine XQ.seq ?_
  refine XC.cond (b := (decide (65536 < (a0.length : Int)))) rfl (fun c1 => ?_) (fun c1 => ?_)
  ·
   replace h0 := condT c1 h0
   refine XC.seq ?_
   refine XC.region ?_
   refine XL.rd rfl rfl (lb rfl) (RO.build0 bd_24 rfl ) ?_
   refine XL.eff rfl rfl (OpOK.store ag_24 rfl rfl rfl rfl (lb rfl) rfl) ?_
   refine XL.rd rfl rfl (lb rfl) (RO.assign rfl) ?_
   refine XL.nil ?_
   refine XQ.seq ?_
   refine XC.ret ?_
   have e_ := Option.some.inj h0
   subst e_
   exact XQ.retF (fun _ _ h => h) rfl (RAs.agg ag_24 rfl rfl rfl rfl (RAs.tmp rfl .nil)) (.cons (.agg (.cons (.d _) (.cons (.nil _) .nil))) (.cons (.one (.d _)) .nil))
  ·
   replace h0 := condF c1 h0
   refine XC.skip ?_
   refine XQ.seq ?_
   refine XC.seq ?_
   refine XC.region ?_
   refine XL.rd rfl rfl (lb rfl) (RO.move rfl) ?_
   refine bindK h0 (fun y2 h1 h0 => ?_)
   have hc3 : CallM Tryz.prog 52 [] ⟨[(0, .cells 24 [dI 0, dN])], [], 1⟩ (resOf [.one (.ptr 2 0)]) ⟨[(0, .cells 24 [dI 0, dN]), (1, .mp (imE imNil.1) imNil.2), (2, .cells 100 [.mp 1, dI 0])], [], 3⟩ := by
    refine CallM.of_bodyD ⟨[(0, .v (.one (.ptr 2 0)))], [(0, .cells 24 [dI 0, dN]), (1, .mp (imE imNil.1) imNil.2), (2, .cells 100 [.mp 1, dI 0])], [], 3, 4, []⟩ rfl rfl en_52 (lb rfl) rfl (RAs.tmp rfl .nil) (fun w0 M V0 Q hv1 hQ1 => ?_)
    simp only [entry]
    refine XC.seq ?_
    refine XC.region ?_
    refine XL.rd rfl rfl (lb rfl) (RO.assign rfl) ?_
    refine XL.nil ?_
    refine XQ.seq ?_
    refine XC.seq ?_
    refine XC.region ?_
    refine XL.put rfl rfl (lb rfl) (OpOK.makeMapI) ?_
    refine XL.rd rfl rfl (lb rfl) (RO.build1 bd_100 rfl rfl rfl) ?_
    refine XL.put rfl rfl (lb rfl) (OpOK.box rfl) ?_
    refine XL.rd rfl rfl (lb rfl) (RO.assign rfl) ?_
    refine XL.nil ?_
    refine XQ.seq ?_
    refine XC.ret ?_
    have e_ := Option.some.inj h1
    subst e_
    exact hQ1 _ _ _ (.inr rfl) rfl (stle (tR rfl tZ) (hR rfl (hR rfl (hR rfl hZ))) kZ rfl (Nat.le_trans hv1 (lb rfl)) rfl rfl rfl (bB rfl rfl (bM rfl (bB rfl rfl bZ))) rfl rfl)
   refine XL.put rfl rfl (lb rfl) (OpOK.callW rfl rfl rfl hc3 rfl (hR rfl hZ) kZ) ?_
   refine XL.rd rfl rfl (lb rfl) (RO.build2 bd_79 rfl rfl rfl rfl) ?_
   refine XL.put rfl rfl (lb rfl) (OpOK.box rfl) ?_
   refine XL.rd rfl rfl (lb rfl) (RO.assign rfl) ?_
   refine XL.nil ?_
   refine XQ.seq ?_
   refine XC.seq ?_
   refine XC.region ?_
   refine XL.rd rfl rfl (lb rfl) (RO.move rfl) ?_
   refine bindK h0 (fun x4 hx4 h0 => ?_)
   refine XL.put rfl rfl (lb rfl) (OpOK.callG (hp1' := [(3, .cells 79 [dS8 (a0.dropWhile (· == 32)), dB false, dI 0, .ptr 2 0]), (2, .cells 100 [.mp 1, dI 0]), (1, .mp (imE imNil.1) imNil.2)]) (tk1' := []) (hpF := [(0, .cells 24 [dI 0, dN])]) (tkF := []) (res2 := resOf []) (nx2 := 4) [3, 2, 1] rfl rfl (m53f0_ok a0 false 0 0 imNil x4 hx4) rfl rfl (qB rfl rfl (qB rfl rfl (qM rfl qZ))) rfl rfl (gR rfl (gR rfl (gM rfl gZ))) jZ (hR rfl hZ) kZ rfl rfl rfl rfl rfl (bB rfl rfl (bB rfl rfl (bM rfl bZ))) rfl rfl rfl rfl) ?_
   refine XL.nil ?_
   refine XQ.seq ?_
   refine XC.seq ?_
   refine XC.seq ?_
   refine XC.region ?_
   refine XL.rd rfl rfl (lb rfl) (RO.move rfl) ?_
   refine bindK h0 (fun x5 hx5 h0 => ?_)
   refine XL.put rfl rfl (lb rfl) (OpOK.callG (hp1' := [(3, .cells 79 [dS8 x5, dB false, dI 0, .ptr 2 0]), (2, .cells 100 [.mp 1, dI 0]), (1, .mp (imE imNil.1) imNil.2)]) (tk1' := []) (hpF := [(0, .cells 24 [dI 0, dN])]) (tkF := []) (res2 := resOf [.one (dB (Lib.hasPrefix (a0.dropWhile (· == 32)) ([109, 97, 120] : List UInt8)))]) (nx2 := 4) [3, 2, 1] rfl rfl (m54f1_ok ([109, 97, 120] : List UInt8) (a0.dropWhile (· == 32)) false 0 0 imNil x5 hx5) rfl rfl (qB rfl rfl (qB rfl rfl (qM rfl qZ))) rfl rfl (gR rfl (gR rfl (gM rfl gZ))) jZ (hR rfl hZ) kZ rfl rfl rfl rfl rfl (bB rfl rfl (bB rfl rfl (bM rfl bZ))) rfl rfl rfl rfl) ?_
   refine XL.nil ?_
   refine XQ.seq ?_
   refine XC.joinR (fun (v6 : ((List UInt8)) × Bool × Int × Int × IMap) => ⟨[(2, .v (.one (.ptr 0 0))), (4, .v (.one (.ptr 3 0)))], [(0, .cells 24 [dI 0, dN]), (1, .mp (imE v6.2.2.2.2.1) v6.2.2.2.2.2), (2, .cells 100 [.mp 1, dI v6.2.2.2.1]), (3, .cells 79 [dS8 v6.1, dB v6.2.1, dI v6.2.2.1, .ptr 2 0])], [], 4, 83, []⟩) (fun (v6 : ((List UInt8)) × Bool × Int × Int × IMap) => (Option.bind (m53f0 v6.1 v6.2.1 v6.2.2.1 v6.2.2.2.1 v6.2.2.2.2) fun (x7 : Unit) =>
     Option.bind (cond v6.2.1
       (some true)
       (some (!((v6.1.dropWhile (· == 32)) == ([] : List UInt8))))) (fun (v8 : Bool) => cond v8
       (some ((⟨0, ([] : List LV)⟩ : Lvl), 4))
       (cond (v6.2.2.1 != 0)
       (some ((⟨0, ([] : List LV)⟩ : Lvl), v6.2.2.1))
       (Option.bind (m56f6 v6.2.2.2.1 v6.2.2.2.2) fun (x11 : Int × Int × (List LV)) =>
     some ((⟨x11.2.1, x11.2.2⟩ : Lvl), x11.1))))) = some r) ?_ ?_
   ·
    refine bindK h0 (fun w1_ h1 h0 => ?_)
    refine XC.cond (b := (Lib.hasPrefix (a0.dropWhile (· == 32)) ([109, 97, 120] : List UInt8))) rfl (fun c7 => ?_) (fun c7 => ?_)
    ·
     replace h1 := condT c7 h1
     refine XC.seq ?_
     refine XC.region ?_
     refine XL.rd rfl rfl (lb rfl) (RO.move rfl) ?_
     refine bindK h1 (fun x8 hx8 h1 => ?_)
     refine XL.put rfl rfl (lb rfl) (OpOK.callG (hp1' := [(3, .cells 79 [dS8 (x5.dropWhile (· == 32)), dB false, dI 0, .ptr 2 0]), (2, .cells 100 [.mp 1, dI 0]), (1, .mp (imE imNil.1) imNil.2)]) (tk1' := []) (hpF := [(0, .cells 24 [dI 0, dN])]) (tkF := []) (res2 := resOf []) (nx2 := 4) [3, 2, 1] rfl rfl (m53f0_ok x5 false 0 0 imNil x8 hx8) rfl rfl (qB rfl rfl (qB rfl rfl (qM rfl qZ))) rfl rfl (gR rfl (gR rfl (gM rfl gZ))) jZ (hR rfl hZ) kZ rfl rfl rfl rfl rfl (bB rfl rfl (bB rfl rfl (bM rfl bZ))) rfl rfl rfl rfl) ?_
     refine XL.nil ?_
     refine XQ.seq ?_
     refine XC.seq ?_
     refine XC.region ?_
     refine XL.rd rfl rfl (lb rfl) (RO.move rfl) ?_
     refine XL.rd rfl rfl (lb rfl) (RO.move rfl) ?_
     refine bindK h1 (fun x9 hx9 h1 => ?_)
     refine XL.put rfl rfl (lb rfl) (OpOK.callG (hp1' := [(3, .cells 79 [dS8 x9, dB false, dI 0, .ptr 2 0]), (2, .cells 100 [.mp 1, dI 0]), (1, .mp (imE imNil.1) imNil.2)]) (tk1' := []) (hpF := [(0, .cells 24 [dI 0, dN])]) (tkF := []) (res2 := resOf [.one (dB (Lib.hasPrefix (x5.dropWhile (· == 32)) ([40] : List UInt8)))]) (nx2 := 4) [3, 2, 1] rfl rfl (m54f1_ok ([40] : List UInt8) (x5.dropWhile (· == 32)) false 0 0 imNil x9 hx9) rfl rfl (qB rfl rfl (qB rfl rfl (qM rfl qZ))) rfl rfl (gR rfl (gR rfl (gM rfl gZ))) jZ (hR rfl hZ) kZ rfl rfl rfl rfl rfl (bB rfl rfl (bB rfl rfl (bM rfl bZ))) rfl rfl rfl rfl) ?_
     refine XL.rd rfl rfl (lb rfl) (RO.not rfl) ?_
     refine XL.rd rfl rfl (lb rfl) (RO.nilCheckPtr rfl) ?_
     refine XL.rd rfl rfl (lb rfl) (RO.fieldOwn fo_79_1 rfl) ?_
     refine XL.eff rfl rfl (OpOK.store ag_4 rfl rfl rfl rfl (lb rfl) rfl) ?_
     refine XL.nil ?_
     refine XQ.seq ?_
     refine XC.seq ?_
     refine XC.seq ?_
     refine XC.region ?_
     refine XL.rd rfl rfl (lb rfl) (RO.assign rfl) ?_
     refine XL.nil ?_
     refine XQ.seq ?_
     refine XC.block ?_
     refine XC.joinX 0 (fun (o10 : IMap × Int × ((List UInt8)) × Bool × Int) => ⟨[(2, .v (.one (.ptr 0 0))), (4, .v (.one (.ptr 3 0)))], [(0, .cells 24 [dI 0, dN]), (1, .mp (imE o10.1.1) o10.1.2), (2, .cells 100 [.mp 1, dI o10.2.1]), (3, .cells 79 [dS8 o10.2.2.1, dB o10.2.2.2.1, dI o10.2.2.2.2, .ptr 2 0])], [], 4, 83, []⟩) (fun (o10 : IMap × Int × ((List UInt8)) × Bool × Int) => (Option.bind (m54f1 ([41] : List UInt8) o10.2.2.1 o10.2.2.2.1 o10.2.2.2.2 o10.2.1 o10.1) fun (x11 : ((List UInt8))) =>
       cond (!(Lib.hasPrefix o10.2.2.1 ([41] : List UInt8)))
         (some (x11, true, o10.2.2.2.2, o10.2.1, o10.1))
         (some (x11, o10.2.2.2.1, o10.2.2.2.2, o10.2.1, o10.1))) = some w1_) ?_ ?_
     ·
      refine bindK h1 (fun o11 hl2 h1 => ?_)
      refine XC.loopM (m26_l0) (fun s2 => ⟨[(2, .v (.one (.ptr 0 0))), (4, .v (.one (.ptr 3 0))), (5, .v (.one (dB s2.1)))], [(0, .cells 24 [dI 0, dN]), (1, .mp (imE s2.2.1.1) s2.2.1.2), (2, .cells 100 [.mp 1, dI s2.2.2.1]), (3, .cells 79 [dS8 s2.2.2.2.1, dB s2.2.2.2.2.1, dI s2.2.2.2.2.2, .ptr 2 0])], [], 4, 83, []⟩) (true, imNil, 0, x9, (!(Lib.hasPrefix (x5.dropWhile (· == 32)) ([40] : List UInt8))), 0) o11 (stle (tR rfl (tR rfl (tR rfl tZ))) (hR rfl (hR rfl (hR rfl (hR rfl hZ)))) kZ rfl (Nat.zero_le _) rfl rfl rfl (bB rfl rfl (bM rfl (bB rfl rfl (bB rfl rfl bZ)))) rfl rfl) hl2 (fun s2 n2 oo2 h2 ho2 => ?_)
      unfold m26_l0 at h2
      refine XC.seq ?_
      refine XC.seq ?_
      refine XC.joinR (fun (v12 : Bool) => ⟨[(2, .v (.one (.ptr 0 0))), (4, .v (.one (.ptr 3 0))), (33, .v (.one (dB v12)))], [(0, .cells 24 [dI 0, dN]), (1, .mp (imE s2.2.1.1) s2.2.1.2), (2, .cells 100 [.mp 1, dI s2.2.2.1]), (3, .cells 79 [dS8 s2.2.2.2.1, dB s2.2.2.2.2.1, dI s2.2.2.2.2.2, .ptr 2 0])], [], 4, 83, []⟩) (fun (v12 : Bool) => (cond v12
          (Option.bind (m53f0 s2.2.2.2.1 s2.2.2.2.2.1 s2.2.2.2.2.2 s2.2.2.1 s2.2.1) fun (x14 : Unit) =>
        Option.bind (m55f2 (s2.2.2.2.1.dropWhile (· == 32)) s2.2.2.2.2.1 s2.2.2.2.2.2 s2.2.2.1 s2.2.1) fun (x15 : ((List UInt8)) × Bool × Int × Int × IMap) =>
        Option.bind (m53f0 x15.1 x15.2.1 x15.2.2.1 x15.2.2.2.1 x15.2.2.2.2) fun (x16 : Unit) =>
        Option.bind (m54f1 ([44] : List UInt8) (x15.1.dropWhile (· == 32)) x15.2.1 x15.2.2.1 x15.2.2.2.1 x15.2.2.2.2) fun (x17 : ((List UInt8))) =>
        some (.next ((Lib.hasPrefix (x15.1.dropWhile (· == 32)) ([44] : List UInt8)), x15.2.2.2.2, x15.2.2.2.1, x17, x15.2.1, x15.2.2.1)))
          (some (.done (s2.2.1, s2.2.2.1, s2.2.2.2.1, s2.2.2.2.2.1, s2.2.2.2.2.2)))) = some oo2) ?_ ?_
      ·
       refine bindK h2 (fun w3_ h3 h2 => ?_)
       refine XC.region ?_
       refine XL.rd rfl rfl (lb rfl) (RO.move rfl) ?_
       refine XL.rd rfl rfl (lb rfl) (RO.move rfl) ?_
       refine XL.case (d := 27) (c := s2.1) rfl (fun c13 => ?_) (fun c13 => ?_)
       ·
        replace h3 := condT c13 h3
        refine XL.rd rfl rfl (lb rfl) (RO.move rfl) ?_
        refine XL.rd rfl rfl (lb rfl) (RO.nilCheckPtr rfl) ?_
        refine XL.rd rfl rfl (lb rfl) (RO.fieldOwn fo_79_1 rfl) ?_
        refine XL.rd rfl rfl (lb rfl) (RO.loadOwn ag_4 rfl rfl rfl) ?_
        refine XL.rd rfl rfl (lb rfl) (RO.not rfl) ?_
        refine XL.rd rfl rfl (lb rfl) (RO.pickT rfl rfl) ?_
        refine XL.nil ?_
        have e_ := Option.some.inj h3
        subst e_
        exact XQ.joinR (!s2.2.2.2.2.1) (stle (tR rfl (tR rfl (tR rfl tZ))) (hR rfl (hR rfl (hR rfl (hR rfl hZ)))) kZ rfl (Nat.zero_le _) rfl rfl rfl (bB rfl rfl (bM rfl (bB rfl rfl (bB rfl rfl bZ)))) rfl rfl) h2
       ·
        replace h3 := condF c13 h3
        refine XL.no rfl rfl ?_
        refine XL.no rfl rfl ?_
        refine XL.no rfl rfl ?_
        refine XL.no rfl rfl ?_
        refine XL.no rfl rfl ?_
        refine XL.rd rfl rfl (lb rfl) (RO.pickF rfl rfl) ?_
        refine XL.nil ?_
        have e_ := Option.some.inj h3
        subst e_
        exact XQ.joinR false (stle (tR rfl (tR rfl (tR rfl tZ))) (hR rfl (hR rfl (hR rfl (hR rfl hZ)))) kZ rfl (Nat.zero_le _) rfl rfl rfl (bB rfl rfl (bM rfl (bB rfl rfl (bB rfl rfl bZ)))) rfl rfl) h2
      ·
       intro v12 h2
       refine XQ.seq ?_
       refine XC.cond (b := v12) rfl (fun c14 => ?_) (fun c14 => ?_)
       ·
        replace h2 := condT c14 h2
        refine XC.skip ?_
        refine XQ.seq ?_
        refine XC.seq ?_
        refine XC.block ?_
        refine XC.seq ?_
        refine XC.region ?_
        refine XL.rd rfl rfl (lb rfl) (RO.move rfl) ?_
        refine bindK h2 (fun x15 hx15 h2 => ?_)
        refine XL.put rfl rfl (lb rfl) (OpOK.callG (hp1' := [(3, .cells 79 [dS8 (s2.2.2.2.1.dropWhile (· == 32)), dB s2.2.2.2.2.1, dI s2.2.2.2.2.2, .ptr 2 0]), (2, .cells 100 [.mp 1, dI s2.2.2.1]), (1, .mp (imE s2.2.1.1) s2.2.1.2)]) (tk1' := []) (hpF := [(0, .cells 24 [dI 0, dN])]) (tkF := []) (res2 := resOf []) (nx2 := 4) [3, 2, 1] rfl rfl (m53f0_ok s2.2.2.2.1 s2.2.2.2.2.1 s2.2.2.2.2.2 s2.2.2.1 s2.2.1 x15 hx15) rfl rfl (qB rfl rfl (qB rfl rfl (qM rfl qZ))) rfl rfl (gR rfl (gR rfl (gM rfl gZ))) jZ (hR rfl hZ) kZ rfl rfl rfl rfl rfl (bB rfl rfl (bB rfl rfl (bM rfl bZ))) rfl rfl rfl rfl) ?_
        refine XL.nil ?_
        refine XQ.seq ?_
        refine XC.seq ?_
        refine XC.region ?_
        refine XL.rd rfl rfl (lb rfl) (RO.move rfl) ?_
        refine bindK h2 (fun x16 hx16 h2 => ?_)
        refine XL.put rfl rfl (lb rfl) (OpOK.callG (hp1' := [(3, .cells 79 [dS8 x16.1, dB x16.2.1, dI x16.2.2.1, .ptr 2 0]), (2, .cells 100 [.mp 1, dI x16.2.2.2.1]), (1, .mp (imE x16.2.2.2.2.1) x16.2.2.2.2.2)]) (tk1' := []) (hpF := [(0, .cells 24 [dI 0, dN])]) (tkF := []) (res2 := resOf []) (nx2 := 6) [3, 2, 1] rfl rfl (m55f2_ok (s2.2.2.2.1.dropWhile (· == 32)) s2.2.2.2.2.1 s2.2.2.2.2.2 s2.2.2.1 s2.2.1 x16 hx16) rfl rfl (qB rfl rfl (qB rfl rfl (qM rfl qZ))) rfl rfl (gR rfl (gR rfl (gM rfl gZ))) jZ (hR rfl hZ) kZ rfl rfl rfl rfl rfl (bB rfl rfl (bB rfl rfl (bM rfl bZ))) rfl rfl rfl rfl) ?_
        refine XL.nil ?_
        refine XQ.seq ?_
        refine XC.region ?_
        refine XL.rd rfl rfl (lb rfl) (RO.move rfl) ?_
        refine bindK h2 (fun x17 hx17 h2 => ?_)
        refine XL.put rfl rfl (lb rfl) (OpOK.callG (hp1' := [(3, .cells 79 [dS8 (x16.1.dropWhile (· == 32)), dB x16.2.1, dI x16.2.2.1, .ptr 2 0]), (2, .cells 100 [.mp 1, dI x16.2.2.2.1]), (1, .mp (imE x16.2.2.2.2.1) x16.2.2.2.2.2)]) (tk1' := []) (hpF := [(0, .cells 24 [dI 0, dN])]) (tkF := []) (res2 := resOf []) (nx2 := 6) [3, 2, 1] rfl rfl (m53f0_ok x16.1 x16.2.1 x16.2.2.1 x16.2.2.2.1 x16.2.2.2.2 x17 hx17) rfl rfl (qB rfl rfl (qB rfl rfl (qM rfl qZ))) rfl rfl (gR rfl (gR rfl (gM rfl gZ))) jZ (hR rfl hZ) kZ rfl rfl rfl rfl rfl (bB rfl rfl (bB rfl rfl (bM rfl bZ))) rfl rfl rfl rfl) ?_
        refine XL.nil ?_
        refine XQ.inBlock ?_
        refine XQ.seq ?_
        refine XC.region ?_
        refine XL.rd rfl rfl (lb rfl) (RO.move rfl) ?_
        refine bindK h2 (fun x18 hx18 h2 => ?_)
        refine XL.put rfl rfl (lb rfl) (OpOK.callG (hp1' := [(3, .cells 79 [dS8 x18, dB x16.2.1, dI x16.2.2.1, .ptr 2 0]), (2, .cells 100 [.mp 1, dI x16.2.2.2.1]), (1, .mp (imE x16.2.2.2.2.1) x16.2.2.2.2.2)]) (tk1' := []) (hpF := [(0, .cells 24 [dI 0, dN])]) (tkF := []) (res2 := resOf [.one (dB (Lib.hasPrefix (x16.1.dropWhile (· == 32)) ([44] : List UInt8)))]) (nx2 := 6) [3, 2, 1] rfl rfl (m54f1_ok ([44] : List UInt8) (x16.1.dropWhile (· == 32)) x16.2.1 x16.2.2.1 x16.2.2.2.1 x16.2.2.2.2 x18 hx18) rfl rfl (qB rfl rfl (qB rfl rfl (qM rfl qZ))) rfl rfl (gR rfl (gR rfl (gM rfl gZ))) jZ (hR rfl hZ) kZ rfl rfl rfl rfl rfl (bB rfl rfl (bB rfl rfl (bM rfl bZ))) rfl rfl rfl rfl) ?_
        refine XL.rd rfl rfl (lb rfl) (RO.assign rfl) ?_
        refine XL.nil ?_
        have e_ := Option.some.inj h2
        subst e_
        refine XQ.nextM ((Lib.hasPrefix (x16.1.dropWhile (· == 32)) ([44] : List UInt8)), x16.2.2.2.2, x16.2.2.2.1, x18, x16.2.1, x16.2.2.1) (stle (tR rfl (tR rfl (tR rfl tZ))) (hR rfl (hR rfl (hR rfl (hR rfl hZ)))) kZ rfl (Nat.zero_le _) rfl rfl rfl (bB rfl rfl (bM rfl (bB rfl rfl (bB rfl rfl bZ)))) rfl rfl) ho2
       ·
        replace h2 := condF c14 h2
        refine XC.exit ?_
        refine XQ.thenE ?_
        refine XQ.thenE ?_
        have e_ := Option.some.inj h2
        subst e_
        have e_ : _ = _ := ho2
        subst e_
        exact XQ.joinX (s2.2.1, s2.2.2.1, s2.2.2.2.1, s2.2.2.2.2.1, s2.2.2.2.2.2) (stle (tR rfl (tR rfl tZ)) (hR rfl (hR rfl (hR rfl (hR rfl hZ)))) kZ rfl (Nat.zero_le _) rfl rfl rfl (bB rfl rfl (bM rfl (bB rfl rfl (bB rfl rfl bZ)))) rfl rfl) h1
     ·
      intro o10 h1
      refine XQ.blockX ?_
      refine XQ.seq ?_
      refine XC.seq ?_
      refine XC.region ?_
      refine XL.rd rfl rfl (lb rfl) (RO.move rfl) ?_
      refine bindK h1 (fun x19 hx19 h1 => ?_)
      refine XL.put rfl rfl (lb rfl) (OpOK.callG (hp1' := [(3, .cells 79 [dS8 x19, dB o10.2.2.2.1, dI o10.2.2.2.2, .ptr 2 0]), (2, .cells 100 [.mp 1, dI o10.2.1]), (1, .mp (imE o10.1.1) o10.1.2)]) (tk1' := []) (hpF := [(0, .cells 24 [dI 0, dN])]) (tkF := []) (res2 := resOf [.one (dB (Lib.hasPrefix o10.2.2.1 ([41] : List UInt8)))]) (nx2 := 4) [3, 2, 1] rfl rfl (m54f1_ok ([41] : List UInt8) o10.2.2.1 o10.2.2.2.1 o10.2.2.2.2 o10.2.1 o10.1 x19 hx19) rfl rfl (qB rfl rfl (qB rfl rfl (qM rfl qZ))) rfl rfl (gR rfl (gR rfl (gM rfl gZ))) jZ (hR rfl hZ) kZ rfl rfl rfl rfl rfl (bB rfl rfl (bB rfl rfl (bM rfl bZ))) rfl rfl rfl rfl) ?_
      refine XL.rd rfl rfl (lb rfl) (RO.not rfl) ?_
      refine XL.nil ?_
      refine XQ.seq ?_
      refine XC.cond (b := (!(Lib.hasPrefix o10.2.2.1 ([41] : List UInt8)))) rfl (fun c20 => ?_) (fun c20 => ?_)
      ·
       replace h1 := condT c20 h1
       refine XC.region ?_
       refine XL.rd rfl rfl (lb rfl) (RO.move rfl) ?_
       refine XL.rd rfl rfl (lb rfl) (RO.nilCheckPtr rfl) ?_
       refine XL.rd rfl rfl (lb rfl) (RO.fieldOwn fo_79_1 rfl) ?_
       refine XL.eff rfl rfl (OpOK.store ag_4 rfl rfl rfl rfl (lb rfl) rfl) ?_
       refine XL.nil ?_
       have e_ := Option.some.inj h1
       subst e_
       exact XQ.joinR (x19, true, o10.2.2.2.2, o10.2.1, o10.1) (stle (tR rfl (tR rfl tZ)) (hR rfl (hR rfl (hR rfl (hR rfl hZ)))) kZ rfl (Nat.zero_le _) rfl rfl rfl (bB rfl rfl (bM rfl (bB rfl rfl (bB rfl rfl bZ)))) rfl rfl) h0
      ·
       replace h1 := condF c20 h1
       refine XC.skip ?_
       have e_ := Option.some.inj h1
       subst e_
       exact XQ.joinR (x19, o10.2.2.2.1, o10.2.2.2.2, o10.2.1, o10.1) (stle (tR rfl (tR rfl tZ)) (hR rfl (hR rfl (hR rfl (hR rfl hZ)))) kZ rfl (Nat.zero_le _) rfl rfl rfl (bB rfl rfl (bM rfl (bB rfl rfl (bB rfl rfl bZ)))) rfl rfl) h0
    ·
     replace h1 := condF c7 h1
     refine XC.region ?_
     refine XL.rd rfl rfl (lb rfl) (RO.move rfl) ?_
     refine bindK h1 (fun x21 hx21 h1 => ?_)
     refine XL.put rfl rfl (lb rfl) (OpOK.callG (hp1' := [(3, .cells 79 [dS8 x21.1, dB x21.2.1, dI x21.2.2.1, .ptr 2 0]), (2, .cells 100 [.mp 1, dI x21.2.2.2.1]), (1, .mp (imE x21.2.2.2.2.1) x21.2.2.2.2.2)]) (tk1' := []) (hpF := [(0, .cells 24 [dI 0, dN])]) (tkF := []) (res2 := resOf []) (nx2 := 6) [3, 2, 1] rfl rfl (m55f2_ok x5 false 0 0 imNil x21 hx21) rfl rfl (qB rfl rfl (qB rfl rfl (qM rfl qZ))) rfl rfl (gR rfl (gR rfl (gM rfl gZ))) jZ (hR rfl hZ) kZ rfl rfl rfl rfl rfl (bB rfl rfl (bB rfl rfl (bM rfl bZ))) rfl rfl rfl rfl) ?_
     refine XL.nil ?_
     have e_ := Option.some.inj h1
     subst e_
     exact XQ.joinR (x21.1, x21.2.1, x21.2.2.1, x21.2.2.2.1, x21.2.2.2.2) (stle (tR rfl (tR rfl tZ)) (hR rfl (hR rfl (hR rfl (hR rfl hZ)))) kZ rfl (Nat.zero_le _) rfl rfl rfl (bB rfl rfl (bM rfl (bB rfl rfl (bB rfl rfl bZ)))) rfl rfl) h0
   ·
    intro v6 h0
    refine XQ.seq ?_
    refine XC.seq ?_
    refine XC.region ?_
    refine XL.rd rfl rfl (lb rfl) (RO.move rfl) ?_
    refine bindK h0 (fun x22 hx22 h0 => ?_)
    refine XL.put rfl rfl (lb rfl) (OpOK.callG (hp1' := [(3, .cells 79 [dS8 (v6.1.dropWhile (· == 32)), dB v6.2.1, dI v6.2.2.1, .ptr 2 0]), (2, .cells 100 [.mp 1, dI v6.2.2.2.1]), (1, .mp (imE v6.2.2.2.2.1) v6.2.2.2.2.2)]) (tk1' := []) (hpF := [(0, .cells 24 [dI 0, dN])]) (tkF := []) (res2 := resOf []) (nx2 := 4) [3, 2, 1] rfl rfl (m53f0_ok v6.1 v6.2.1 v6.2.2.1 v6.2.2.2.1 v6.2.2.2.2 x22 hx22) rfl rfl (qB rfl rfl (qB rfl rfl (qM rfl qZ))) rfl rfl (gR rfl (gR rfl (gM rfl gZ))) jZ (hR rfl hZ) kZ rfl rfl rfl rfl rfl (bB rfl rfl (bB rfl rfl (bM rfl bZ))) rfl rfl rfl rfl) ?_
    refine XL.nil ?_
    refine XQ.seq ?_
    refine XC.seq ?_
    refine XC.block ?_
    refine XC.seq ?_
    refine XC.joinR (fun (v23 : Bool) => ⟨[(2, .v (.one (.ptr 0 0))), (4, .v (.one (.ptr 3 0))), (52, .v (.one (dB v23)))], [(0, .cells 24 [dI 0, dN]), (1, .mp (imE v6.2.2.2.2.1) v6.2.2.2.2.2), (2, .cells 100 [.mp 1, dI v6.2.2.2.1]), (3, .cells 79 [dS8 (v6.1.dropWhile (· == 32)), dB v6.2.1, dI v6.2.2.1, .ptr 2 0])], [], 4, 83, []⟩) (fun (v23 : Bool) => (cond v23
        (some ((⟨0, ([] : List LV)⟩ : Lvl), 4))
        (cond (v6.2.2.1 != 0)
        (some ((⟨0, ([] : List LV)⟩ : Lvl), v6.2.2.1))
        (Option.bind (m56f6 v6.2.2.2.1 v6.2.2.2.2) fun (x26 : Int × Int × (List LV)) =>
      some ((⟨x26.2.1, x26.2.2⟩ : Lvl), x26.1)))) = some r) ?_ ?_
    ·
     refine bindK h0 (fun w1_ h1 h0 => ?_)
     refine XC.region ?_
     refine XL.rd rfl rfl (lb rfl) (RO.move rfl) ?_
     refine XL.rd rfl rfl (lb rfl) (RO.nilCheckPtr rfl) ?_
     refine XL.rd rfl rfl (lb rfl) (RO.fieldOwn fo_79_1 rfl) ?_
     refine XL.rd rfl rfl (lb rfl) (RO.loadOwn ag_4 rfl rfl rfl) ?_
     refine XL.rd rfl rfl (lb rfl) (RO.move rfl) ?_
     refine XL.case (d := 57) (c := v6.2.1) rfl (fun c24 => ?_) (fun c24 => ?_)
     ·
      replace h1 := condT c24 h1
      refine XL.no rfl rfl ?_
      refine XL.no rfl rfl ?_
      refine XL.no rfl rfl ?_
      refine XL.no rfl rfl ?_
      refine XL.no rfl rfl ?_
      refine XL.rd rfl rfl (lb rfl) (RO.pickT rfl rfl) ?_
      refine XL.rd rfl rfl (lb rfl) (RO.assign rfl) ?_
      refine XL.nil ?_
      have e_ := Option.some.inj h1
      subst e_
      exact XQ.joinR true (stle (tR rfl (tR rfl (tR rfl tZ))) (hR rfl (hR rfl (hR rfl (hR rfl hZ)))) kZ rfl (Nat.zero_le _) rfl rfl rfl (bB rfl rfl (bM rfl (bB rfl rfl (bB rfl rfl bZ)))) rfl rfl) h0
     ·
      replace h1 := condF c24 h1
      refine XL.rd rfl rfl (lb rfl) (RO.move rfl) ?_
      refine XL.rd rfl rfl (lb rfl) (RO.nilCheckPtr rfl) ?_
      refine XL.rd rfl rfl (lb rfl) (RO.fieldOwn fo_79_0 rfl) ?_
      refine XL.rd rfl rfl (lb rfl) (RO.loadOwn ag_9 rfl rfl rfl) ?_
      refine XL.rd rfl rfl (lb rfl) (RO.neS rfl rfl) ?_
      refine XL.rd rfl rfl (lb rfl) (RO.pickF rfl rfl) ?_
      refine XL.rd rfl rfl (lb rfl) (RO.assign rfl) ?_
      refine XL.nil ?_
      have e_ := Option.some.inj h1
      subst e_
      exact XQ.joinR (!((v6.1.dropWhile (· == 32)) == ([] : List UInt8))) (stle (tR rfl (tR rfl (tR rfl tZ))) (hR rfl (hR rfl (hR rfl (hR rfl hZ)))) kZ rfl (Nat.zero_le _) rfl rfl rfl (bB rfl rfl (bM rfl (bB rfl rfl (bB rfl rfl bZ)))) rfl rfl) h0
    ·
     intro v23 h0
     refine XQ.seq ?_
     refine XC.cond (b := v23) rfl (fun c25 => ?_) (fun c25 => ?_)
     ·
      replace h0 := condT c25 h0
      refine XC.seq ?_
      refine XC.region ?_
      refine XL.rd rfl rfl (lb rfl) (RO.build0 bd_24 rfl ) ?_
      refine XL.eff rfl rfl (OpOK.store ag_24 rfl rfl rfl rfl (lb rfl) rfl) ?_
      refine XL.rd rfl rfl (lb rfl) (RO.assign rfl) ?_
      refine XL.nil ?_
      refine XQ.seq ?_
      refine XC.ret ?_
      have e_ := Option.some.inj h0
      subst e_
      exact XQ.retF (fun _ _ h => h) rfl (RAs.agg ag_24 rfl rfl rfl rfl (RAs.tmp rfl .nil)) (.cons (.agg (.cons (.d _) (.cons (.nil _) .nil))) (.cons (.one (.d _)) .nil))
     ·
      replace h0 := condF c25 h0
      refine XC.seq ?_
      refine XC.region ?_
      refine XL.rd rfl rfl (lb rfl) (RO.move rfl) ?_
      refine XL.rd rfl rfl (lb rfl) (RO.nilCheckPtr rfl) ?_
      refine XL.rd rfl rfl (lb rfl) (RO.fieldOwn fo_79_2 rfl) ?_
      refine XL.rd rfl rfl (lb rfl) (RO.loadOwn ag_27 rfl rfl rfl) ?_
      refine XL.rd rfl rfl (lb rfl) (RO.binInt rfl rfl rfl) ?_
      refine XL.rd rfl rfl (lb rfl) (RO.assign rfl) ?_
      refine XL.nil ?_
      refine XQ.seq ?_
      refine XC.cond (b := (v6.2.2.1 != 0)) rfl (fun c26 => ?_) (fun c26 => ?_)
      ·
       replace h0 := condT c26 h0
       refine XC.seq ?_
       refine XC.anyRun [5] [(1, 1), (2, 1), (3, 1), (4, 1)] mixed (by kernel_rfl) (by kernel_rfl) (by kernel_rfl) ?_
       refine RunA.rd rfl rfl rfl (OpOK.of_ro (RO.build0 bd_24 rfl )) rfl ?_
       refine RunA.rd rfl rfl rfl (OpOK.of_ro (RO.move rfl)) rfl ?_
       refine RunA.rd rfl rfl rfl (OpOK.of_ro (RO.nilCheckPtr rfl)) rfl ?_
       refine RunA.rd rfl rfl rfl (OpOK.of_ro (RO.fieldOwn fo_79_2 rfl)) rfl ?_
       refine RunA.rd rfl rfl rfl (OpOK.of_ro (RO.loadOwn ag_27 rfl rfl rfl)) rfl ?_
       refine RunA.eff rfl rfl rfl (OpOK.store ag_24 rfl rfl rfl rfl (lb rfl) rfl) rfl ?_
       refine RunA.rd rfl rfl rfl (OpOK.of_ro (RO.assign rfl)) rfl ?_
       refine RunA.nil ⟨?ex, _, _, rfl, ?_⟩
       case ex => exact ⟨⟨_, rfl, _, _, rfl, rfl, rfl, .inl ⟨rfl, _, OpOK.of_ro (RO.move rfl), rfl⟩⟩, ⟨_, rfl, _, _, rfl, rfl, rfl, .inl ⟨rfl, _, OpOK.of_ro (RO.nilCheckPtr rfl), rfl⟩⟩, ⟨_, rfl, _, _, rfl, rfl, rfl, .inl ⟨rfl, _, OpOK.of_ro (RO.fieldOwn fo_79_2 rfl), rfl⟩⟩, ⟨_, rfl, _, _, rfl, rfl, rfl, .inl ⟨rfl, _, OpOK.of_ro (RO.loadOwn ag_27 rfl rfl rfl), rfl⟩⟩, trivial⟩
       refine XQ.less (st' := ⟨[(2, .v (.one (.ptr 0 0))), (3, .v (.one (dI v6.2.2.1)))], [(0, .cells 24 [dI 0, dN]), (1, .mp (imE v6.2.2.2.2.1) v6.2.2.2.2.2), (2, .cells 100 [.mp 1, dI v6.2.2.2.1]), (3, .cells 79 [dS8 (v6.1.dropWhile (· == 32)), dB v6.2.1, dI v6.2.2.1, .ptr 2 0])], [], 4, 83, []⟩) (stle (tR rfl (tR rfl tZ)) (hR rfl (hR rfl (hR rfl (hR rfl hZ)))) kZ rfl (Nat.zero_le _) rfl rfl rfl (bB rfl rfl (bM rfl (bB rfl rfl (bB rfl rfl bZ)))) rfl rfl) ?_
       refine XQ.seq ?_
       refine XC.ret ?_
       have e_ := Option.some.inj h0
       subst e_
       exact XQ.retF (fun _ _ h => h) rfl (RAs.agg ag_24 rfl rfl rfl rfl (RAs.tmp rfl .nil)) (.cons (.agg (.cons (.d _) (.cons (.nil _) .nil))) (.cons (.one (.d _)) .nil))
      ·
       replace h0 := condF c26 h0
       refine XC.skip ?_
       refine XQ.inBlock ?_
       refine XQ.seq ?_
       refine XC.seq ?_
       refine XC.region ?_
       refine XL.rd rfl rfl (lb rfl) (RO.move rfl) ?_
       refine XL.rd rfl rfl (lb rfl) (RO.nilCheckPtr rfl) ?_
       refine XL.rd rfl rfl (lb rfl) (RO.fieldOwn fo_79_3 rfl) ?_
       refine XL.rd rfl rfl (lb rfl) (RO.loadOwn ag_76 rfl rfl rfl) ?_
       refine bindK h0 (fun x27 hx27 h0 => ?_)
       refine XL.put rfl rfl (lb rfl) (OpOK.callG (hp1' := [(2, .cells 100 [.mp 1, dI v6.2.2.2.1]), (1, .mp (imE v6.2.2.2.2.1) v6.2.2.2.2.2), (4, .cells 24 [dI x27.2.1, dS x27.2.2])]) (tk1' := []) (hpF := [(0, .cells 24 [dI 0, dN]), (3, .cells 79 [dS8 (v6.1.dropWhile (· == 32)), dB v6.2.1, dI v6.2.2.1, .ptr 2 0])]) (tkF := []) (res2 := resOf [.agg [dI x27.2.1, dS x27.2.2], .one (dI x27.1)]) (nx2 := 8) [2, 1] rfl rfl (m56f6_ok v6.2.2.2.1 v6.2.2.2.2 x27 hx27) rfl rfl (qB rfl rfl (qM rfl (qB rfl rfl qZ))) rfl rfl (gR rfl (gM rfl gZ)) jZ (hR rfl (hR rfl hZ)) kZ rfl rfl rfl rfl rfl (bB rfl rfl (bM rfl bZ)) rfl rfl rfl rfl) ?_
       refine XL.rd rfl rfl (lb rfl) (RO.extract rfl rfl) ?_
       refine XL.rd rfl rfl (lb rfl) (RO.extract rfl rfl) ?_
       refine XL.eff rfl rfl (OpOK.store ag_24 rfl rfl rfl rfl (lb rfl) rfl) ?_
       refine XL.rd rfl rfl (lb rfl) (RO.assign rfl) ?_
       refine XL.nil ?_
       refine XQ.seq ?_
       refine XC.ret ?_
       have e_ := Option.some.inj h0
       subst e_
       exact XQ.retF (fun _ _ h => h) rfl (RAs.agg ag_24 rfl rfl rfl rfl (RAs.tmp rfl .nil)) (.cons (.agg (.cons (.d _) (.cons (.d _) .nil))) (.cons (.one (.d _)) .nil))
end Go.Proofs.YtcapifnaceegmaaGreatDoor
namespace Go.Proofs.YtcapifnaceegmaaGreatDoor
open Go.RowKit Go.Shelf
set_option linter.unusedSimpArgs false
set_option linter.unusedVariables false
theorem ti_3 : tyInt Tryz.prog 3 = some .i64 := by kernel_rfl
theorem ti_5 : tyInt Tryz.prog 5 = some .u8 := by kernel_rfl
end Go.Proofs.YtcapifnaceegmaaGreatDoor
namespace Go.Proofs.YtcapifnaceegmaaGreatDoor
open Go.RowKit Go.Shelf
set_option linter.unusedSimpArgs false
set_option linter.unusedVariables false
noncomputable def cfgFns : List (Nat × Func) := [(14, Tryz.f14), (15, Tryz.f15), (17, Tryz.f17), (19, Tryz.f19), (22, Tryz.f22), (24, Tryz.f24), (26, Tryz.f26), (29, Tryz.f29), (32, Tryz.f32), (48, Tryz.f48), (49, Tryz.f49), (50, Tryz.f50), (52, Tryz.f52), (53, Tryz.f53), (54, Tryz.f54), (55, Tryz.f55), (56, Tryz.f56), (60, Tryz.f60), (61, Tryz.f61), (64, Tryz.f64), (65, Tryz.f65), (70, Tryz.f70), (71, Tryz.f71), (77, Tryz.f77), (78, Tryz.f78), (81, Tryz.f81), (83, Tryz.f83), (86, Tryz.f86), (88, Tryz.f88), (102, Tryz.f102)]
noncomputable def cfg : Cfg := {
  agg := [(3, (false, 1)), (4, (false, 1)), (9, (false, 1)), (22, (false, 1)), (24, (true, 2)), (27, (false, 1)), (69, (true, 2)), (76, (false, 1)), (89, (false, 1)), (98, (false, 1))]
  sl := [(22, (69, 2)), (46, (3, 1)), (89, (9, 1))]
  zero := [(3, [.int .i64 0]), (9, [.string ByteArray.empty]), (24, [.int .i64 0, .slice none 0 0]), (69, [.int .i64 0, .int .i64 0]), (79, [.string ByteArray.empty, .bool false, .int .i64 0, .pointer none]), (89, [.slice none 0 0]), (100, [.map none, .int .i64 0])]
  fld := [(24, [(0, 0), (1, 1)]), (69, [(0, 0), (1, 1)]), (79, [(0, 0), (1, 1), (2, 2), (3, 3)]), (100, [(0, 0), (1, 1)])]
  places := [(24, [(0, 1), (1, 1)]), (69, [(0, 1), (1, 1)]), (79, [(0, 1), (1, 1), (2, 1), (3, 1)]), (100, [(0, 1), (1, 1)])]
  elem := [(3, (1, 8)), (9, (1, 16)), (69, (2, 16))]
  arr := []
  mp := [(98, (true, .one (.d (.v (.int .i64 0)))))]
  ints := []
  strs := [(9, ())]
  bools := []
  pairs := []
  fns := cfgFns
  keep := [50, 52, 53, 54, 55, 56, 65, 70, 71, 81, 83]
  oslT := []
  rounds := 100000 }
theorem cfg_ok : cfg.OK Tryz.prog where
  agg := ⟨(show _ = _ by kernel_rfl), (show _ = _ by kernel_rfl), (show _ = _ by kernel_rfl), (show _ = _ by kernel_rfl), (show _ = _ by kernel_rfl), (show _ = _ by kernel_rfl), (show _ = _ by kernel_rfl), (show _ = _ by kernel_rfl), (show _ = _ by kernel_rfl), (show _ = _ by kernel_rfl), trivial⟩
  sl := ⟨(show _ = _ by kernel_rfl), (show _ = _ by kernel_rfl), (show _ = _ by kernel_rfl), trivial⟩
  zero := ⟨⟨(show _ = _ by kernel_rfl), (show _ = _ by kernel_rfl)⟩, ⟨(show _ = _ by kernel_rfl), (show _ = _ by kernel_rfl)⟩, ⟨(show _ = _ by kernel_rfl), (show _ = _ by kernel_rfl)⟩, ⟨(show _ = _ by kernel_rfl), (show _ = _ by kernel_rfl)⟩, ⟨(show _ = _ by kernel_rfl), (show _ = _ by kernel_rfl)⟩, ⟨(show _ = _ by kernel_rfl), (show _ = _ by kernel_rfl)⟩, ⟨(show _ = _ by kernel_rfl), (show _ = _ by kernel_rfl)⟩, trivial⟩
  fld := ⟨⟨(show _ = _ by kernel_rfl), (show _ = _ by kernel_rfl), trivial⟩, ⟨(show _ = _ by kernel_rfl), (show _ = _ by kernel_rfl), trivial⟩, ⟨(show _ = _ by kernel_rfl), (show _ = _ by kernel_rfl), (show _ = _ by kernel_rfl), (show _ = _ by kernel_rfl), trivial⟩, ⟨(show _ = _ by kernel_rfl), (show _ = _ by kernel_rfl), trivial⟩, trivial⟩
  places := ⟨(show _ = _ by kernel_rfl), (show _ = _ by kernel_rfl), (show _ = _ by kernel_rfl), (show _ = _ by kernel_rfl), trivial⟩
  elem := ⟨(show _ = _ by kernel_rfl), (show _ = _ by kernel_rfl), (show _ = _ by kernel_rfl), trivial⟩
  arr := trivial
  mp := ⟨(show _ = _ by kernel_rfl), trivial⟩
  ints := trivial
  strs := ⟨(show _ = _ by kernel_rfl), trivial⟩
  bools := trivial
  pairs := trivial
  fns := ⟨⟨Tryz.func14, enters_of Tryz.func14 (by kernel_rfl) rfl⟩, ⟨Tryz.func15, enters_of Tryz.func15 (by kernel_rfl) rfl⟩, ⟨Tryz.func17, enters_of Tryz.func17 (by kernel_rfl) rfl⟩, ⟨Tryz.func19, enters_of Tryz.func19 (by kernel_rfl) rfl⟩, ⟨Tryz.func22, enters_of Tryz.func22 (by kernel_rfl) rfl⟩, ⟨Tryz.func24, enters_of Tryz.func24 (by kernel_rfl) rfl⟩, ⟨Tryz.func26, enters_of Tryz.func26 (by kernel_rfl) rfl⟩, ⟨Tryz.func29, enters_of Tryz.func29 (by kernel_rfl) rfl⟩, ⟨Tryz.func32, enters_of Tryz.func32 (by kernel_rfl) rfl⟩, ⟨Tryz.func48, enters_of Tryz.func48 (by kernel_rfl) rfl⟩, ⟨Tryz.func49, enters_of Tryz.func49 (by kernel_rfl) rfl⟩, ⟨Tryz.func50, enters_of Tryz.func50 (by kernel_rfl) rfl⟩, ⟨Tryz.func52, enters_of Tryz.func52 (by kernel_rfl) rfl⟩, ⟨Tryz.func53, enters_of Tryz.func53 (by kernel_rfl) rfl⟩, ⟨Tryz.func54, enters_of Tryz.func54 (by kernel_rfl) rfl⟩, ⟨Tryz.func55, enters_of Tryz.func55 (by kernel_rfl) rfl⟩, ⟨Tryz.func56, enters_of Tryz.func56 (by kernel_rfl) rfl⟩, ⟨Tryz.func60, enters_of Tryz.func60 (by kernel_rfl) rfl⟩, ⟨Tryz.func61, enters_of Tryz.func61 (by kernel_rfl) rfl⟩, ⟨Tryz.func64, enters_of Tryz.func64 (by kernel_rfl) rfl⟩, ⟨Tryz.func65, enters_of Tryz.func65 (by kernel_rfl) rfl⟩, ⟨Tryz.func70, enters_of Tryz.func70 (by kernel_rfl) rfl⟩, ⟨Tryz.func71, enters_of Tryz.func71 (by kernel_rfl) rfl⟩, ⟨Tryz.func77, enters_of Tryz.func77 (by kernel_rfl) rfl⟩, ⟨Tryz.func78, enters_of Tryz.func78 (by kernel_rfl) rfl⟩, ⟨Tryz.func81, enters_of Tryz.func81 (by kernel_rfl) rfl⟩, ⟨Tryz.func83, enters_of Tryz.func83 (by kernel_rfl) rfl⟩, ⟨Tryz.func86, enters_of Tryz.func86 (by kernel_rfl) rfl⟩, ⟨Tryz.func88, enters_of Tryz.func88 (by kernel_rfl) rfl⟩, ⟨Tryz.func102, enters_of Tryz.func102 (by kernel_rfl) rfl⟩, trivial⟩
  mixed := by kernel_rfl
end Go.Proofs.YtcapifnaceegmaaGreatDoor
namespace Go.Proofs.YtcapifnaceegmaaGreatDoor
open Go.RowKit
set_option linter.unusedSimpArgs false
set_option linter.unusedVariables false
set_option linter.unusedSectionVars false
theorem CallM.of_fun {P : Program} {f : FuncId} {args : List AV} {res : TV} (h : Fun P f args res) (hd : ∀ (V : Vu) (w : World) (vs : Array Value), argsRel V w args vs → argsRel (Vu.of V.S) w args vs) (m : Mem) : CallM P f args m res m := by
  refine ⟨h.1, fun E V w vs hP H hn hargs => ?_⟩
  refine Calls.mono (h.2 V.S w vs H.sz (hP ▸ H.tabs) (hd V w vs hargs)) ?_
  rintro e w' ⟨v, S', rfl, hx, hS, hS', hv⟩
  have hg : V.Grow { V with S := S' } w w' := ⟨Nat.le_refl _, fun _ _ => rfl, fun _ _ => rfl, fun _ _ _ _ => rfl, hS, fun b o h => (hS' b o h).1, fun b o h => (hS' b o h).2⟩
  exact ⟨v, { V with S := S' }, rfl, H.later hx hg, hn, H.le hx hg, hv.mono (of_le (V := { V with S := S' }))⟩
theorem condS {b : Bool} {α : Type} {x : Option α} {r : α} (h : cond b x none = some r) : b = true ∧ x = some r := by
  cases b with
  | false => cases h
  | true => exact ⟨rfl, h⟩
theorem data_args {cs : List C} : ∀ (V : Vu) (w : World) (vs : Array Value), argsRel V w (cs.map fun c => .one (.d c)) vs → argsRel (Vu.of V.S) w (cs.map fun c => .one (.d c)) vs := fun V w vs hv => ⟨hv.1, fun i y hy => by
  obtain ⟨u, h1, h2⟩ := hv.2 i y hy
  refine ⟨u, h1, ?_⟩
  rw [List.getElem?_map] at hy
  cases hc : cs[i]? with
  | none => rw [hc] at hy; cases hy
  | some c => rw [hc] at hy; cases hy; exact h2⟩
def bL (s : ByteArray) : List UInt8 := s.data.toList
theorem sB_bL (s : ByteArray) : sB (bL s) = s := sB_of s
def k63 (args : List AV) (m : Mem) : Option (TV × Mem) := match args with
  | [.one (.d (.v (.int .i64 n)))] => cond (cond (decide (0 ≤ n)) (decide (n < 100)) false) (some (TS (dig2 n), m)) none
  | _ => none
theorem k63_ok {args : List AV} {m m' : Mem} {res : TV} (h : k63 args m = some (res, m')) : CallM Tryz.prog 63 args m res m' := by
  unfold k63 at h
  split at h
  · obtain ⟨h1, h2⟩ := condS h
    cases h2
    exact CallM.of_fun (itoa_fun _ h1) (data_args (cs := [_])) m
  · cases h
def k79 (args : List AV) (m : Mem) : Option (TV × Mem) := match args with
  | [.one (.d (.v (.string s))), .one (.d (.v (.string c)))] => cond (bL c == [32]) (some (TS ((bL s).dropWhile (· == 32)), m)) none
  | _ => none
theorem k79_ok {args : List AV} {m m' : Mem} {res : TV} (h : k79 args m = some (res, m')) : CallM Tryz.prog 79 args m res m' := by
  unfold k79 at h
  split at h
  · rename_i s c
    obtain ⟨h1, h2⟩ := condS h
    cases h2
    have e := trim_fun (bL s)
    have h3 : bL c = [32] := by simpa using h1
    rw [← h3] at e
    unfold dS8 at e
    rw [sB_bL, sB_bL] at e
    exact CallM.of_fun e (data_args (cs := [_, _])) m
  · cases h
def k80 (args : List AV) (m : Mem) : Option (TV × Mem) := match args with
  | [.one (.d (.v (.string s))), .one (.d (.v (.string p)))] => some (.tup [.one (dS8 (Lib.trimPrefix (bL s) (bL p))), .one (.d (.v (.bool (Lib.hasPrefix (bL s) (bL p)))))], m)
  | _ => none
theorem k80_ok {args : List AV} {m m' : Mem} {res : TV} (h : k80 args m = some (res, m')) : CallM Tryz.prog 80 args m res m' := by
  unfold k80 at h
  split at h
  · rename_i s p
    have h2 := Option.some.inj h
    have e1 := congrArg Prod.fst h2
    have e2 := congrArg Prod.snd h2
    dsimp only at e1 e2
    subst e1; subst e2
    have e := cut_fun (bL s) (bL p)
    have a1 : dS8 (bL s) = .d (.v (.string s)) := by unfold dS8; rw [sB_bL]
    have a2 : dS8 (bL p) = .d (.v (.string p)) := by unfold dS8; rw [sB_bL]
    rw [a1, a2] at e
    exact CallM.of_fun e (data_args (cs := [_, _])) m
  · cases h
def k99 (args : List AV) (m : Mem) : Option (TV × Mem) := match args with
  | [.one (.d (.v (.string s)))] => cond (cond (Nat.ble (bL s).length 18) (Lib.atoi (bL s)).isSome false) (some (.tup [.one (.d (.v (.int .i64 (atoiL (bL s))))), .one (.d (.v .nilIface))], m)) none
  | _ => none
theorem k99_ok {args : List AV} {m m' : Mem} {res : TV} (h : k99 args m = some (res, m')) : CallM Tryz.prog 99 args m res m' := by
  unfold k99 at h
  split at h
  · rename_i s
    obtain ⟨h1, h2⟩ := condS h
    cases h2
    have e := atoi_fun (bL s) h1
    have a1 : dS8 (bL s) = .d (.v (.string s)) := by unfold dS8; rw [sB_bL]
    rw [a1] at e
    exact CallM.of_fun e (data_args (cs := [_])) m
  · cases h
def decS : List (List C) → Option (List (List UInt8))
  | [] => some []
  | [.v (.string s)] :: l => match decS l with
    | some r => some (bL s :: r)
    | none => none
  | _ => none
theorem decS_ok : ∀ {l : List (List C)} {r : List (List UInt8)}, decS l = some r → r.map strL = l
  | [], r, h => by cases h; rfl
  | x :: l, r, h => by
    unfold decS at h
    split at h
    · cases ‹_ :: _ = []›
    · rename_i s l' heq
      cases heq
      split at h
      · rename_i r' hr
        cases h
        rw [List.map_cons, decS_ok hr]
        unfold strL
        rw [sB_bL]
      · cases h
    · cases h
def k66 (args : List AV) (m : Mem) : Option (TV × Mem) := match args with
  | [.one (.d (.sl n es)), .one (.d (.v (.string p)))] => cond (Nat.beq n 1) (match decS es with
    | some l => cond (cond (Nat.ble l.length 1000000) (Nat.ble (Lib.join l (bL p)).length 1000000000) false) (some (TS (Lib.join l (bL p)), m)) none
    | none => none) none
  | _ => none
theorem k66_ok {args : List AV} {m m' : Mem} {res : TV} (h : k66 args m = some (res, m')) : CallM Tryz.prog 66 args m res m' := by
  unfold k66 at h
  split at h
  · rename_i n es p
    obtain ⟨h1, h2⟩ := condS h
    obtain rfl := Nat.eq_of_beq_eq_true h1
    split at h2
    · rename_i l hl
      obtain ⟨h3, h4⟩ := condS h2
      cases h4
      have e := join_str_fun l (bL p) h3
      have a1 : dS8 (bL p) = .d (.v (.string p)) := by unfold dS8; rw [sB_bL]
      rw [a1, decS_ok hl] at e
      exact CallM.of_fun e (data_args (cs := [_, _])) m
    · cases h2
  · cases h
def decM : List (Value × AV × Nat) → Option (List (Int × Int × Nat))
  | [] => some []
  | (.int .i64 k, .one (.d (.v (.int .i64 v))), n) :: l => match decM l with
    | some r => some ((k, v, n) :: r)
    | none => none
  | _ => none
theorem decM_ok : ∀ {l : List (Value × AV × Nat)} {r : List (Int × Int × Nat)}, decM l = some r → imE r = l
  | [], r, h => by cases h; rfl
  | x :: l, r, h => by
    unfold decM at h
    split at h
    · cases ‹_ :: _ = []›
    · rename_i k v n l' heq
      cases heq
      split at h
      · rename_i r' hr
        cases h
        have := decM_ok hr
        unfold imE at this ⊢
        rw [List.map_cons, this]
      · cases h
    · cases h
def k82 (args : List AV) (m : Mem) : Option (TV × Mem) := match args with
  | [.one (.fn g [(b, o)])] => cond (Nat.beq g 102) (cond (Nat.beq o 0) (match lk m.hp b with
    | some (.cells _ [.mp i]) => match lk m.hp i with
      | some (.mp es c) => match decM es with
        | some l => cond (imOk (l, c)) (some (.v (.one (.d (.sl 1 (Enc.encL (imKeys (l, c)))))), m)) none
        | none => none
      | _ => none
    | _ => none) none) none
  | _ => none
theorem k82_ok {args : List AV} {m m' : Mem} {res : TV} (h : k82 args m = some (res, m')) : CallM Tryz.prog 82 args m res m' := by
  unfold k82 at h
  split at h
  · rename_i g b o
    obtain ⟨h1, h2⟩ := condS h
    obtain ⟨h3, h4⟩ := condS h2
    obtain rfl := Nat.eq_of_beq_eq_true h1
    obtain rfl := Nat.eq_of_beq_eq_true h3
    split at h4
    · rename_i T i hb
      split at h4
      · rename_i es c hi
        split at h4
        · rename_i l hl
          obtain ⟨h5, h6⟩ := condS h4
          cases h6
          rw [← decM_ok hl] at hi
          exact sortedKeys_call (M := (l, c)) hb hi h5
        · cases h4
      · cases h4
    · cases h4
  · cases h
def KE : Known := fun f args m => cond (Nat.beq f 63) (k63 args m) (cond (Nat.beq f 79) (k79 args m) (cond (Nat.beq f 80) (k80 args m) (cond (Nat.beq f 99) (k99 args m) (cond (Nat.beq f 66) (k66 args m) (cond (Nat.beq f 82) (k82 args m) none)))))
theorem KE_step {f g : Nat} {P : Program} {args : List AV} {m m' : Mem} {res : TV} {x y : Option (TV × Mem)} (h : cond (Nat.beq f g) x y = some (res, m')) (h1 : x = some (res, m') → CallM P g args m res m') (h2 : y = some (res, m') → CallM P f args m res m') : CallM P f args m res m' := by
  cases hb : Nat.beq f g with
  | true =>
    rw [hb] at h
    obtain rfl := Nat.eq_of_beq_eq_true hb
    exact h1 h
  | false => rw [hb] at h; exact h2 h
theorem KE_ok : KE.OK Tryz.prog := by
  intro f args m res m' h
  unfold KE at h
  refine KE_step h k63_ok fun h => KE_step h k79_ok fun h => KE_step h k80_ok fun h => KE_step h k99_ok fun h => KE_step h k66_ok fun h => KE_step h k82_ok fun h => by cases h
def isT : Option (TV × Mem) → Bool
  | some (.v (.one (.d (.v (.bool b)))), _) => b
  | _ => false
theorem isT_ok {o : Option (TV × Mem)} (h : isT o = true) : ∃ m, o = some (TB true, m) := by
  unfold isT at h
  split at h
  · rename_i b m; subst h; exact ⟨m, rfl⟩
  · cases h
theorem awake_run : isT ((recN cfg KE 60).call 14 [] mem0) = true := by kernel_rfl
theorem awake_fun : Fun Tryz.prog 14 [] (TB true) := by
  obtain ⟨m, hm⟩ := isT_ok awake_run
  exact Fun.of_callM ((recN_ok cfg_ok KE_ok 60).call hm) rfl
end Go.Proofs.YtcapifnaceegmaaGreatDoor
namespace Go.Proofs.YtcapifnaceegmaaGreatDoor
open Go.RowKit
set_option linter.unusedSimpArgs false
set_option linter.unusedVariables false
theorem loop_spec {σ β : Type} {step : σ → Option (LO σ β)} (I : σ → Prop) (μ : σ → Nat) (spec : σ → β)
    (h : ∀ s, I s → (step s = some (.done (spec s))) ∨ (∃ s', step s = some (.next s') ∧ I s' ∧ μ s' < μ s ∧ spec s' = spec s)) : ∀ (n : Nat) (s : σ), I s → μ s < n → loopN step n s = some (spec s)
  | 0, _, _, h0 => absurd h0 (Nat.not_lt_zero _)
  | n + 1, s, hs, hn => by
    rcases h s hs with h1 | ⟨s', h1, h2, h3, h4⟩
    · simp only [loopN, h1]
    · simp only [loopN, h1]
      rw [loop_spec I μ spec h n s' h2 (by omega), h4]
theorem w64_id {n : Int} (h1 : -9223372036854775808 ≤ n) (h2 : n ≤ 9223372036854775807) : w64 n = n := IntWalk.i64_in n ⟨h1, h2⟩
theorem idx_nat {α : Type} {l : List α} {i : Int} {x : α} (h0 : 0 ≤ i) (hx : l[i.toNat]? = some x) : idx l i = some x := by
  obtain ⟨k, rfl⟩ := Int.eq_ofNat_of_zero_le h0
  simpa [idx] using hx
def firstR {α β : Type} (f : Nat → α → Option β) : List α → Nat → Option β
  | [], _ => none
  | x :: l, k => match f k x with
    | some b => some b
    | none => firstR f l (k + 1)
def sumR {β : Type} : Option β → Unit ⊕ β
  | some b => .inr b
  | none => .inl ()
theorem firstR_drop {α β : Type} {f : Nat → α → Option β} {l : List α} {k : Nat} {x : α} (h : l[k]? = some x) : firstR f (l.drop k) k = match f k x with
    | some b => some b
    | none => firstR f (l.drop (k + 1)) (k + 1) := by
  have hk := (List.getElem?_eq_some_iff.1 h).1
  rw [List.drop_eq_getElem_cons hk, (List.getElem?_eq_some_iff.1 h).2]
  rfl
theorem scan_loop {α β : Type} {step : Int → Option (LO Int (Unit ⊕ β))} {l : List α} (f : Nat → α → Option β) (hlen : l.length ≤ 900000)
    (hin : ∀ (k : Nat) (x : α), l[k]? = some x → step (k : Int) = some (match f k x with
      | some b => .done (.inr b)
      | none => .next (w64 ((k : Int) + 1)))) (hout : step (l.length : Int) = some (.done (.inl ()))) : loopN step FUEL 0 = some (sumR (firstR f l 0)) := by
  have key := loop_spec (step := step) (fun s => 0 ≤ s ∧ s ≤ l.length) (fun s => l.length - s.toNat) (fun s => sumR (firstR f (l.drop s.toNat) s.toNat)) (fun s hs => by
    obtain ⟨k, rfl⟩ := Int.eq_ofNat_of_zero_le hs.1
    rcases Nat.lt_or_ge k l.length with hk | hk
    · obtain ⟨x, hx⟩ : ∃ x, l[k]? = some x := ⟨_, List.getElem?_eq_getElem hk⟩
      have h1 := hin k x hx
      have h2 := firstR_drop (f := f) hx
      simp only [Int.toNat_natCast]
      rw [h1, h2]
      cases hf : f k x with
      | some b => left; rfl
      | none =>
        right
        refine ⟨_, rfl, ?_⟩
        rw [w64_id (by omega) (by omega)]
        refine ⟨by omega, by omega, ?_⟩
        rw [show ((k : Int) + 1).toNat = k + 1 by omega]
    · left
      have e : k = l.length := by omega
      subst e
      rw [hout]
      simp [firstR, sumR]) FUEL 0 ⟨Int.le_refl _, by omega⟩ (by simp [FUEL]; omega)
  simpa using key
theorem firstR_any {α : Type} {p : α → Bool} {β : Type} {g : Nat → β} : ∀ (l : List α) (k : Nat), (firstR (fun k x => if p x then some (g k) else none) l k).isSome = l.any p
  | [], _ => rfl
  | x :: l, k => by
    cases h : p x with
    | true => simp [firstR, h]
    | false => simp [firstR, h, firstR_any l (k + 1)]
theorem firstR_ge {α : Type} {p : α → Bool} : ∀ (l : List α) (k : Nat) (n : Int), firstR (fun k x => if p x then some (k : Int) else none) l k = some n → 0 ≤ n
  | [], _, _, h => by simp [firstR] at h
  | x :: l, k, n, h => by
    cases hp : p x with
    | true => simp [firstR, hp] at h; omega
    | false => simp [firstR, hp] at h; exact firstR_ge l (k + 1) n h
theorem w64_next {k n : Nat} (h : k < n) (hn : n ≤ 1000000000) : w64 ((k : Int) + 1) = ((k + 1 : Nat) : Int) := by rw [w64_id (by omega) (by omega)]; rfl
theorem drop_foldl {α σ : Type} {f : σ → α → σ} {l : List α} {k : Nat} {x : α} {s : σ} (h : l[k]? = some x) : (l.drop k).foldl f s = (l.drop (k + 1)).foldl f (f s x) := by
  have : l.drop k = x :: l.drop (k + 1) := by
    obtain ⟨hk, rfl⟩ := List.getElem?_eq_some_iff.1 h
    exact List.drop_eq_getElem_cons hk
  rw [this]; rfl
theorem fold_loop {α σ : Type} {step : Int × σ → Option (LO (Int × σ) σ)} {l : List α} (f : σ → α → σ) (P : Nat → σ → Prop) (hlen : l.length ≤ 900000)
    (hin : ∀ (k : Nat) (x : α) (s : σ), l[k]? = some x → P k s → step ((k : Int), s) = some (.next (w64 ((k : Int) + 1), f s x)) ∧ P (k + 1) (f s x))
    (hout : ∀ s, P l.length s → step ((l.length : Int), s) = some (.done s)) (s0 : σ) (h0 : P 0 s0) : loopN step FUEL (0, s0) = some (l.foldl f s0) ∧ P l.length (l.foldl f s0) := by
  have key := loop_spec (step := step) (fun s => ∃ k : Nat, s.1 = (k : Int) ∧ k ≤ l.length ∧ P k s.2) (fun s => l.length - s.1.toNat) (fun s => (l.drop s.1.toNat).foldl f s.2) (fun s hs => by
    obtain ⟨i, s⟩ := s
    obtain ⟨k, rfl, hk, hp⟩ := hs
    dsimp only at hp ⊢
    rcases Nat.lt_or_ge k l.length with hlt | hge
    · obtain ⟨x, hx⟩ : ∃ x, l[k]? = some x := ⟨_, List.getElem?_eq_getElem hlt⟩
      obtain ⟨h1, h2⟩ := hin k x s hx hp
      right
      rw [w64_next hlt (by omega)] at h1
      refine ⟨_, h1, ⟨k + 1, rfl, hlt, h2⟩, ?_, ?_⟩
      · simp only [Int.toNat_natCast]; omega
      · simp only [Int.toNat_natCast]; exact (drop_foldl hx).symm
    · left
      obtain rfl : k = l.length := by omega
      rw [hout s hp]
      simp) FUEL (0, s0) ⟨0, rfl, Nat.zero_le _, h0⟩ (by show l.length - 0 < 1000000; omega)
  refine ⟨by simpa using key, ?_⟩
  have hind : ∀ (k : Nat), k ≤ l.length → P k ((l.take k).foldl f s0) := by
    intro k
    induction k with
    | zero => intro _; exact h0
    | succ k ih =>
      intro hk
      have hx : l[k]? = some l[k] := List.getElem?_eq_getElem (by omega)
      have := (hin k _ _ hx (ih (by omega))).2
      rw [List.take_add_one, hx, List.foldl_append]
      exact this
  have := hind l.length (Nat.le_refl _)
  rwa [List.take_length] at this
def lkp (k : Int) (l : List (Int × Int × Nat)) : Option Int := (l.find? fun e => k == e.1).map fun e => e.2.1
theorem imFind_lkp (k : Int) : ∀ (l : List (Int × Int × Nat)) (i : Nat), (imFind k l i).map (·.2) = lkp k l
  | [], i => rfl
  | e :: l, i => by
    simp only [imFind, lkp, List.find?_cons]
    cases h : k == e.1 with
    | true => rfl
    | false => simp only [cond_false]; exact imFind_lkp k l (i + 1)
theorem imGet_lkp (M : IMap) (k : Int) : imGet M k = lkp k M.1 := imFind_lkp k M.1 0
theorem lkp_append (k : Int) (l r : List (Int × Int × Nat)) : lkp k (l ++ r) = (lkp k l).or (lkp k r) := by
  simp only [lkp, List.find?_append]
  cases l.find? fun e => k == e.1 <;> rfl
theorem lkp_modify {k v : Int} {k' : Int} : ∀ {l : List (Int × Int × Nat)} {i j : Nat} {u : Int}, imFind k l i = some (j, u) → i ≤ j ∧ j - i < l.length ∧ lkp k' (l.modify (j - i) fun e => (k, v, e.2.2)) = if k' = k then some v else lkp k' l
  | [], i, j, u, h => by cases h
  | e :: l, i, j, u, h => by
    simp only [imFind] at h
    cases hk : k == e.1 with
    | true =>
      rw [hk] at h; cases h
      have hke : k = e.1 := by simpa using hk
      refine ⟨Nat.le_refl _, by simp, ?_⟩
      rw [Nat.sub_self, List.modify_zero_cons]
      simp only [lkp, List.find?_cons]
      by_cases hkk : k' = k
      · subst hkk; simp
      · have h1 : (k' == k) = false := by simpa using hkk
        have h2 : (k' == e.1) = false := by rw [← hke]; exact h1
        rw [h1, h2, if_neg hkk]
    | false =>
      rw [hk] at h
      simp only [cond_false] at h
      obtain ⟨h1, h2, h3⟩ := lkp_modify (v := v) (k' := k') h
      refine ⟨by omega, by simp only [List.length_cons]; omega, ?_⟩
      rw [show j - i = (j - (i + 1)) + 1 by omega, List.modify_succ_cons]
      simp only [lkp, List.find?_cons] at h3 ⊢
      cases hk' : k' == e.1 with
      | true =>
        have : k' ≠ k := by
          intro e1; subst e1; rw [hk] at hk'; cases hk'
        rw [if_neg this]
      | false => exact h3
theorem imGet_set (M : IMap) (k v k' : Int) : imGet (imSet M k v) k' = if k' = k then some v else imGet M k' := by
  rw [imGet_lkp, imGet_lkp]
  unfold imSet
  cases h : imFind k M.1 0 with
  | some p =>
    obtain ⟨j, u⟩ := p
    have := (lkp_modify (v := v) (k' := k') h).2.2
    simpa using this
  | none =>
    have h0 : lkp k M.1 = none := by rw [← imFind_lkp k M.1 0, h]; rfl
    dsimp only
    rw [lkp_append]
    by_cases hkk : k' = k
    · subst hkk
      rw [h0]; simp [lkp]
    · rw [if_neg hkk]
      have : lkp k' [(k, v, M.2)] = none := by
        have h1 : (k' == k) = false := by simpa using hkk
        simp [lkp, h1]
      rw [this]; cases lkp k' M.1 <;> rfl
structure ImInv (n : Nat) (M : IMap) : Prop where
  len : M.1.length ≤ n
  keys : (M.1.map fun e => e.1).Nodup
  born : (M.1.map fun e => e.2.2).Nodup
  old : ∀ e ∈ M.1, e.2.2 < M.2
  rng : ∀ e ∈ M.1, -9223372036854775808 ≤ e.1 ∧ e.1 ≤ 9223372036854775807
theorem ImInv.nil : ImInv 0 imNil := ⟨Nat.le_refl _, List.nodup_nil, List.nodup_nil, (fun e h => by cases h), (fun e h => by cases h)⟩
theorem modify_map {α β : Type} (g : α → β) (f : α → α) : ∀ (l : List α) (j : Nat), (∀ x, l[j]? = some x → g (f x) = g x) → (l.modify j f).map g = l.map g
  | [], j, _ => by cases j <;> rfl
  | x :: l, 0, h => by rw [List.modify_zero_cons, List.map_cons, List.map_cons, h x rfl]
  | x :: l, j + 1, h => by rw [List.modify_succ_cons, List.map_cons, List.map_cons, modify_map g f l j (fun y hy => h y (by simpa using hy))]
theorem imFind_key {k : Int} : ∀ {l : List (Int × Int × Nat)} {i j : Nat} {u : Int}, imFind k l i = some (j, u) → ∃ e, l[j - i]? = some e ∧ e.1 = k
  | [], i, j, u, h => by cases h
  | e :: l, i, j, u, h => by
    simp only [imFind] at h
    cases hk : k == e.1 with
    | true => rw [hk] at h; cases h; exact ⟨e, by simp, (by simpa using hk : k = e.1).symm⟩
    | false =>
      rw [hk] at h
      simp only [cond_false] at h
      obtain ⟨e', h1, h2⟩ := imFind_key h
      have := (lkp_modify (v := 0) (k' := 0) h).1
      exact ⟨e', by rw [show j - i = (j - (i + 1)) + 1 by omega, List.getElem?_cons_succ]; exact h1, h2⟩
theorem imFind_none {k : Int} : ∀ {l : List (Int × Int × Nat)} {i : Nat}, imFind k l i = none → ∀ e ∈ l, e.1 ≠ k
  | [], i, _, e, he => by cases he
  | x :: l, i, h, e, he => by
    simp only [imFind] at h
    cases hk : k == x.1 with
    | true => rw [hk] at h; cases h
    | false =>
      rw [hk] at h
      rcases List.mem_cons.1 he with rfl | he
      · intro e1; rw [e1] at hk; simp at hk
      · exact imFind_none h e he
theorem ImInv.set {n : Nat} {M : IMap} (h : ImInv n M) {k : Int} (v : Int) (hk : -9223372036854775808 ≤ k ∧ k ≤ 9223372036854775807) : ImInv (n + 1) (imSet M k v) := by
  unfold imSet
  cases hf : imFind k M.1 0 with
  | some p =>
    obtain ⟨j, u⟩ := p
    obtain ⟨e0, h1, h2⟩ := imFind_key hf
    rw [Nat.sub_zero] at h1
    have m1 : (M.1.modify j fun e => (k, v, e.2.2)).map (fun e => e.1) = M.1.map fun e => e.1 := modify_map _ _ _ _ (fun x hx => by rw [h1] at hx; cases hx; exact h2.symm)
    have m2 : (M.1.modify j fun e => (k, v, e.2.2)).map (fun e => e.2.2) = M.1.map fun e => e.2.2 := modify_map _ _ _ _ (fun x hx => rfl)
    refine ⟨by rw [List.length_modify]; exact Nat.le_succ_of_le h.len, by dsimp only; rw [m1]; exact h.keys, by dsimp only; rw [m2]; exact h.born, fun e he => ?_, fun e he => ?_⟩
    · have : e.2.2 ∈ M.1.map fun e => e.2.2 := by rw [← m2]; exact List.mem_map_of_mem he
      obtain ⟨e', h3, h4⟩ := List.mem_map.1 this
      dsimp only at h4 ⊢
      rw [← h4]; exact h.old e' h3
    · have : e.1 ∈ M.1.map fun e => e.1 := by rw [← m1]; exact List.mem_map_of_mem he
      obtain ⟨e', h3, h4⟩ := List.mem_map.1 this
      rw [← h4]; exact h.rng e' h3
  | none =>
    have hn := imFind_none hf
    refine ⟨by simp only [List.length_append, List.length_singleton]; have := h.len; omega, ?_, ?_, fun e he => ?_, fun e he => ?_⟩
    · rw [List.map_append, List.nodup_append]
      refine ⟨h.keys, by simp, fun a ha b hb => ?_⟩
      obtain ⟨e, h3, rfl⟩ := List.mem_map.1 ha
      simp at hb; subst hb
      exact hn e h3
    · rw [List.map_append, List.nodup_append]
      refine ⟨h.born, by simp, fun a ha b hb => ?_⟩
      obtain ⟨e, h3, rfl⟩ := List.mem_map.1 ha
      simp at hb; subst hb
      exact Nat.ne_of_lt (h.old e h3)
    · rcases List.mem_append.1 he with he | he
      · exact Nat.lt_succ_of_lt (h.old e he)
      · simp at he; subst he; exact Nat.lt_succ_self _
    · rcases List.mem_append.1 he with he | he
      · exact h.rng e he
      · simp at he; subst he; exact hk
theorem nodupB_of {α : Type} [BEq α] [LawfulBEq α] : ∀ {l : List α}, l.Nodup → nodupB l = true
  | [], _ => rfl
  | x :: l, h => by
    obtain ⟨h1, h2⟩ := List.nodup_cons.1 h
    simp only [nodupB]
    cases h3 : l.any fun y => x == y with
    | true =>
      obtain ⟨y, h4, h5⟩ := List.any_eq_true.1 h3
      rw [show x = y by simpa using h5] at h1
      exact absurd h4 h1
    | false => exact nodupB_of h2
theorem ImInv.ok {n : Nat} {M : IMap} (h : ImInv n M) (hn : n ≤ 1000000) : imOk M = true := by
  unfold imOk
  rw [Nat.ble_eq_true_of_le (Nat.le_trans h.len hn), nodupB_of h.keys, nodupB_of h.born]
  have : (M.1.all fun e => cond (Nat.ble (e.2.2 + 1) M.2) (cond (decide (-9223372036854775808 ≤ e.1)) (decide (e.1 ≤ 9223372036854775807)) false) false) = true := by
    refine List.all_eq_true.2 fun e he => ?_
    rw [Nat.ble_eq_true_of_le (h.old e he), decide_eq_true (h.rng e he).1, decide_eq_true (h.rng e he).2]; rfl
  rw [this]; rfl
theorem mem_imKeys {M : IMap} {k : Int} : k ∈ imKeys M ↔ (imGet M k).isSome := by
  rw [imGet_lkp]
  unfold imKeys lkp
  rw [(sortZ_perm _).mem_iff, Option.isSome_map, List.find?_isSome]
  constructor
  · intro h
    obtain ⟨e, h1, h2⟩ := List.mem_map.1 h
    exact ⟨e, h1, by simp [h2]⟩
  · rintro ⟨e, h1, h2⟩
    exact List.mem_map.2 ⟨e, h1, (by simpa using h2 : k = e.1).symm⟩
theorem imKeys_asc {n : Nat} {M : IMap} (h : ImInv n M) : (imKeys M).Pairwise (· < ·) := by
  have h1 : (imKeys M).Nodup := (sortZ_perm _).nodup_iff.2 h.keys
  have h2 := sortZ_sorted (M.1.map fun e => e.1)
  exact (h2.and h1).imp fun ⟨a, b⟩ => Int.lt_iff_le_and_ne.2 ⟨a, b⟩
def mx : Option Int → Int → Option Int
  | none, p => some p
  | some o, p => some (max o p)
def comb : Option Int → Option Int → Option Int
  | a, none => a
  | a, some p => mx a p
def getV (vs : List LV) (k : Int) : Option Int := (vs.find? fun x => k == x.1).map fun x => x.2
abbrev Asc (l : List LV) : Prop := l.Pairwise (fun a b => a.1 < b.1)
theorem getV_nil (k : Int) : getV [] k = none := rfl
theorem getV_hit (x : LV) (l : List LV) : getV (x :: l) x.1 = some x.2 := by simp [getV]
theorem getV_miss {x : LV} {l : List LV} {k : Int} (h : k ≠ x.1) : getV (x :: l) k = getV l k := by
  have : (k == x.1) = false := by simpa using h
  simp [getV, List.find?_cons, this]
theorem getV_none {l : List LV} {k : Int} (h : ∀ y ∈ l, y.1 ≠ k) : getV l k = none := by
  induction l with
  | nil => rfl
  | cons x l ih => rw [getV_miss (fun e => h x List.mem_cons_self e.symm)]; exact ih fun y hy => h y (List.mem_cons_of_mem _ hy)
theorem getV_mem {l : List LV} (h : Asc l) {k p : Int} : getV l k = some p ↔ (k, p) ∈ l := by
  induction l with
  | nil => simp [getV]
  | cons x l ih =>
    obtain ⟨h1, h2⟩ := List.pairwise_cons.1 h
    by_cases hk : k = x.1
    · subst hk
      rw [getV_hit]
      constructor
      · intro e; cases e; exact List.mem_cons_self
      · intro hm
        rcases List.mem_cons.1 hm with e | hm
        · rw [← e]
        · have := h1 _ hm; simp at this
    · rw [getV_miss hk, ih h2]
      constructor
      · exact fun hm => List.mem_cons_of_mem _ hm
      · intro hm
        rcases List.mem_cons.1 hm with e | hm
        · exact absurd (by rw [← e]) hk
        · exact hm
theorem Asc.nodup {l : List LV} (h : Asc l) : l.Nodup := h.imp fun hab e => by rw [e] at hab; omega
theorem asc_ext {a b : List LV} (ha : Asc a) (hb : Asc b) (h : ∀ k, getV a k = getV b k) : a = b := by
  have hp : a.Perm b := (List.perm_ext_iff_of_nodup ha.nodup hb.nodup).2 fun x => by
    obtain ⟨k, p⟩ := x
    rw [← getV_mem ha, ← getV_mem hb, h]
  exact List.Perm.eq_of_pairwise (le := fun x y : LV => x.1 < y.1) (fun x y _ _ h1 h2 => by omega) ha hb hp
theorem getV_lt {x : LV} {l : List LV} {k : Int} (h : Asc (x :: l)) (hk : k < x.1) : getV (x :: l) k = none := by
  refine getV_none fun y hy e => ?_
  rcases List.mem_cons.1 hy with rfl | hy
  · omega
  · have := (List.pairwise_cons.1 h).1 y hy; omega
theorem comb_none_l (a : Option Int) : comb none a = a := by cases a <;> rfl
theorem comb_none_r (a : Option Int) : comb a none = a := by cases a <;> rfl
theorem getV_merge : ∀ (a b : List LV), Asc a → Asc b → ∀ k, getV (mergeV a b) k = comb (getV a k) (getV b k)
  | [], b, _, _, k => by rw [mergeV_nil_l, getV_nil, comb_none_l]
  | x :: a, [], _, _, k => by rw [mergeV_nil_r, getV_nil, comb_none_r]
  | x :: a, y :: b, ha, hb, k => by
    obtain ⟨a1, a2⟩ := List.pairwise_cons.1 ha
    obtain ⟨b1, b2⟩ := List.pairwise_cons.1 hb
    rw [mergeV]
    split
    · rename_i hxy
      by_cases hk : k = x.1
      · subst hk; rw [getV_hit, getV_hit, getV_lt hb hxy, comb_none_r]
      · rw [getV_miss hk, getV_miss hk]; exact getV_merge a (y :: b) a2 hb k
    · split
      · rename_i hyx
        by_cases hk : k = y.1
        · subst hk; rw [getV_hit, getV_hit, getV_lt ha hyx, comb_none_l]
        · rw [getV_miss hk, getV_miss (x := y) hk]; exact getV_merge (x :: a) b ha b2 k
      · rename_i h1 h2
        have e : x.1 = y.1 := by omega
        by_cases hk : k = x.1
        · subst hk
          rw [getV_hit (x.1, max x.2 y.2), getV_hit, e, getV_hit]; rfl
        · have hk2 : k ≠ y.1 := by rw [← e]; exact hk
          rw [getV_miss (x := (x.1, max x.2 y.2)) hk, getV_miss hk, getV_miss hk2]
          exact getV_merge a b a2 b2 k
termination_by a b => a.length + b.length
theorem topOf_le {c m : Int} {vs : List LV} : topOf c vs ≤ m ↔ c ≤ m ∧ ∀ x ∈ vs, x.2 ≤ m := by
  unfold topOf
  induction vs generalizing c with
  | nil => simp
  | cons y l ih =>
    rw [List.foldl_cons, ih]
    constructor
    · rintro ⟨h1, h2⟩
      refine ⟨by omega, fun x hx => ?_⟩
      rcases List.mem_cons.1 hx with rfl | hx
      · omega
      · exact h2 x hx
    · rintro ⟨h1, h2⟩
      exact ⟨by have := h2 y List.mem_cons_self; omega, fun x hx => h2 x (List.mem_cons_of_mem _ hx)⟩
theorem le_topOf {c : Int} {vs : List LV} {x : LV} (h : x ∈ vs) : x.2 ≤ topOf c vs := (topOf_le.1 (Int.le_refl _)).2 x h
theorem top_ge (c : Int) (vs : List LV) : c ≤ topOf c vs := (topOf_le.1 (Int.le_refl _)).1
theorem topOf_at {vs : List LV} (hne : vs ≠ []) (h0 : ∀ x ∈ vs, 0 ≤ x.2) : ∃ x ∈ vs, topOf 0 vs = x.2 := by
  have key : ∀ (l : List LV) (c : Int), topOf c l = c ∨ ∃ x ∈ l, topOf c l = x.2 := by
    intro l
    induction l with
    | nil => intro c; exact .inl rfl
    | cons y l ih =>
      intro c
      have e : topOf c (y :: l) = topOf (max c y.2) l := rfl
      rw [e]
      rcases ih (max c y.2) with h | ⟨x, hx, h⟩
      · rw [h]
        rcases Int.le_total c y.2 with h1 | h1
        · right; exact ⟨y, List.mem_cons_self, by omega⟩
        · left; omega
      · right; exact ⟨x, List.mem_cons_of_mem _ hx, h⟩
  rcases key vs 0 with h | h
  · obtain ⟨x, r, rfl⟩ := List.exists_cons_of_ne_nil hne
    have h1 := h0 x List.mem_cons_self
    have h2 := le_topOf (c := 0) (vs := x :: r) List.mem_cons_self
    exact ⟨x, List.mem_cons_self, by omega⟩
  · exact h
def trimC (C : Int) (vs : List LV) : Int := if vs ≠ [] ∧ C ≤ topOf 0 vs then 0 else C
theorem join_eq (A B : Lvl) : joinL A B = ⟨trimC (max A.c B.c) (mergeV A.vs B.vs), mergeV A.vs B.vs⟩ := by
  unfold joinL trimC
  split <;> rfl
theorem trimC_more {C b : Int} {vs m : List LV} (hC : 0 ≤ C) (hb : 0 ≤ b) (hm : vs ≠ [] → m ≠ []) (ht : topOf 0 vs ≤ topOf 0 m) : trimC (max (trimC C vs) b) m = trimC (max C b) m := by
  unfold trimC
  have h0 := top_ge 0 m
  by_cases h1 : vs ≠ [] ∧ C ≤ topOf 0 vs
  · rw [if_pos h1]
    have hm' := hm h1.1
    by_cases h2 : b ≤ topOf 0 m
    · rw [if_pos ⟨hm', by omega⟩, if_pos ⟨hm', by omega⟩]
    · rw [if_neg (fun h => h2 (by omega)), if_neg (fun h => h2 (by omega))]; omega
  · rw [if_neg h1]
theorem trim_eq {C : Int} {vs : List LV} (hC : 0 ≤ C) (h0 : ∀ x ∈ vs, 0 ≤ x.2) : trimL ⟨C, vs⟩ = ⟨trimC C vs, vs⟩ := by
  unfold trimL trimC covB
  by_cases h1 : vs ≠ [] ∧ C ≤ topOf 0 vs
  · rw [if_pos h1]
    obtain ⟨x, hx, he⟩ := topOf_at h1.1 h0
    rw [if_pos]
    exact List.any_eq_true.2 ⟨x, hx, by simp; omega⟩
  · rw [if_neg h1, if_neg]
    intro h2
    obtain ⟨x, hx, he⟩ := List.any_eq_true.1 h2
    have hx' : x ∈ vs := hx
    have := le_topOf (c := 0) hx'
    simp at he
    exact h1 ⟨(by intro h; rw [h] at hx'; cases hx'), by omega⟩
theorem getV_of_mem {l : List LV} (h : Asc l) {x : LV} (hx : x ∈ l) : getV l x.1 = some x.2 := (getV_mem h).2 hx
theorem merge_ge_l {a b : List LV} (ha : WF a) (hb : WF b) {x : LV} (hx : x ∈ a) : ∃ y ∈ mergeV a b, y.1 = x.1 ∧ x.2 ≤ y.2 := by
  have h1 := getV_merge a b ha.1 hb.1 x.1
  rw [getV_of_mem ha.1 hx] at h1
  have hm := (wf_merge a b ha hb).1
  cases h2 : getV b x.1 with
  | none => rw [h2] at h1; exact ⟨(x.1, x.2), (getV_mem hm).1 h1, rfl, Int.le_refl _⟩
  | some p => rw [h2] at h1; exact ⟨(x.1, max x.2 p), (getV_mem hm).1 h1, rfl, by dsimp only; omega⟩
theorem merge_ge_r {a b : List LV} (ha : WF a) (hb : WF b) {x : LV} (hx : x ∈ b) : ∃ y ∈ mergeV a b, y.1 = x.1 ∧ x.2 ≤ y.2 := by
  have h1 := getV_merge a b ha.1 hb.1 x.1
  rw [getV_of_mem hb.1 hx] at h1
  have hm := (wf_merge a b ha hb).1
  cases h2 : getV a x.1 with
  | none => rw [h2] at h1; exact ⟨(x.1, x.2), (getV_mem hm).1 h1, rfl, Int.le_refl _⟩
  | some p => rw [h2] at h1; exact ⟨(x.1, max p x.2), (getV_mem hm).1 h1, rfl, by dsimp only; omega⟩
theorem merge_src {a b : List LV} (ha : WF a) (hb : WF b) {y : LV} (hy : y ∈ mergeV a b) : y ∈ a ∨ y ∈ b := by
  have hm := (wf_merge a b ha hb).1
  have h1 := getV_merge a b ha.1 hb.1 y.1
  rw [getV_of_mem hm hy] at h1
  cases h2 : getV a y.1 with
  | none =>
    rw [h2, comb_none_l] at h1
    exact .inr ((getV_mem hb.1).1 h1.symm)
  | some p =>
    cases h3 : getV b y.1 with
    | none =>
      rw [h2, h3, comb_none_r] at h1
      have := (getV_mem ha.1).1 h2
      cases h1; exact .inl this
    | some q =>
      rw [h2, h3] at h1
      have h4 := (getV_mem ha.1).1 h2
      have h5 := (getV_mem hb.1).1 h3
      have h6 : y.2 = max p q := Option.some.inj h1
      rcases Int.le_total p q with h7 | h7
      · right
        rw [show max p q = q by omega] at h6
        rwa [← h6] at h5
      · left
        rw [show max p q = p by omega] at h6
        rwa [← h6] at h4
theorem merge_ne_l {a b : List LV} (h : a ≠ []) : mergeV a b ≠ [] := by
  cases a with
  | nil => exact absurd rfl h
  | cons x a => cases b with
    | nil => rw [mergeV_nil_r]; exact h
    | cons y b =>
      rw [mergeV]
      repeat' split
      all_goals exact List.cons_ne_nil _ _
theorem topOf_mono {a m : List LV} (h : ∀ x ∈ a, ∃ y ∈ m, x.2 ≤ y.2) : topOf 0 a ≤ topOf 0 m := by
  refine topOf_le.2 ⟨top_ge 0 m, fun x hx => ?_⟩
  obtain ⟨y, hy, h1⟩ := h x hx
  have := le_topOf (c := 0) hy
  omega
def rzM (M : IMap) (x : LV) : IMap := cond (cond (!(imHas M x.1)) true (decide (imVal M x.1 < x.2))) (imSet M x.1 x.2) M
theorem rz_get (M : IMap) (x : LV) (k : Int) : imGet (rzM M x) k = if k = x.1 then mx (imGet M k) x.2 else imGet M k := by
  unfold rzM imHas imVal
  cases h : imGet M x.1 with
  | none =>
    simp only [Option.isSome_none, Bool.not_false, cond_true]
    rw [imGet_set]
    by_cases hk : k = x.1
    · subst hk; rw [if_pos rfl, if_pos rfl, h]; rfl
    · rw [if_neg hk, if_neg hk]
  | some o =>
    simp only [Option.isSome_some, Bool.not_true, cond_false, Option.getD_some]
    by_cases ho : o < x.2
    · rw [decide_eq_true ho, cond_true, imGet_set]
      by_cases hk : k = x.1
      · subst hk; rw [if_pos rfl, if_pos rfl, h]
        have : max o x.2 = x.2 := by omega
        simp only [mx, this]
      · rw [if_neg hk, if_neg hk]
    · rw [decide_eq_false ho, cond_false]
      by_cases hk : k = x.1
      · subst hk; rw [if_pos rfl, h]
        have : max o x.2 = o := by omega
        simp only [mx, this]
      · rw [if_neg hk]
def Good (M : IMap) : Prop := ∃ n, ImInv n M
theorem rz_good {M : IMap} (h : Good M) {x : LV} (hx : -65536 ≤ x.1 ∧ x.1 ≤ 7) : Good (rzM M x) := by
  unfold rzM
  obtain ⟨n, hn⟩ := h
  cases cond (!(imHas M x.1)) true (decide (imVal M x.1 < x.2)) with
  | true => exact ⟨_, hn.set x.2 ⟨by omega, by omega⟩⟩
  | false => exact ⟨n, hn⟩
theorem rz_fold : ∀ (l : List LV) (M : IMap), Asc l → ∀ k, imGet (l.foldl rzM M) k = comb (imGet M k) (getV l k)
  | [], M, _, k => by rw [getV_nil, comb_none_r]; rfl
  | x :: l, M, h, k => by
    obtain ⟨h1, h2⟩ := List.pairwise_cons.1 h
    rw [List.foldl_cons, rz_fold l _ h2, rz_get]
    by_cases hk : k = x.1
    · subst hk
      have : getV l x.1 = none := getV_none fun y hy e => by have := h1 y hy; omega
      rw [if_pos rfl, this, getV_hit, comb_none_r]; rfl
    · rw [if_neg hk, getV_miss hk]
theorem rz_fold_good : ∀ (l : List LV) (M : IMap), Good M → (∀ x ∈ l, -65536 ≤ x.1 ∧ x.1 ≤ 7) → Good (l.foldl rzM M)
  | [], _, h, _ => h
  | x :: l, M, h, hl => rz_fold_good l _ (rz_good h (hl x List.mem_cons_self)) fun y hy => hl y (List.mem_cons_of_mem _ hy)
structure RMap (M : IMap) (vs : List LV) : Prop where
  good : Good M
  wf : WF vs
  eq : ∀ k, imGet M k = getV vs k
theorem RMap.nil : RMap imNil [] := ⟨⟨0, ImInv.nil⟩, wf_nil, fun k => rfl⟩
theorem RMap.merge {M : IMap} {vs l : List LV} (h : RMap M vs) (hl : WF l) : RMap (l.foldl rzM M) (mergeV vs l) :=
  ⟨rz_fold_good l M h.good hl.2, wf_merge _ _ h.wf hl, fun k => by rw [rz_fold l M hl.1, h.eq, getV_merge vs l h.wf.1 hl.1]⟩
theorem RMap.ok {M : IMap} {vs : List LV} (h : RMap M vs) : imOk M = true ∧ (imKeys M).map (fun k => (k, imVal M k)) = vs := by
  obtain ⟨n, hn⟩ := h.good
  have h1 : (imKeys M).map (fun k => (k, imVal M k)) = vs := by
    refine asc_ext ?_ h.wf.1 fun k => ?_
    · unfold Asc
      rw [List.pairwise_map]; exact imKeys_asc hn
    · have ha : Asc ((imKeys M).map fun k => (k, imVal M k)) := by unfold Asc; rw [List.pairwise_map]; exact imKeys_asc hn
      rw [← h.eq k]
      cases hg : imGet M k with
      | none =>
        refine getV_none fun y hy e => ?_
        obtain ⟨k', hk', rfl⟩ := List.mem_map.1 hy
        have := mem_imKeys.1 hk'
        dsimp only at e; subst e
        rw [hg] at this; cases this
      | some p =>
        have hk : k ∈ imKeys M := mem_imKeys.2 (by rw [hg]; rfl)
        refine (getV_mem ha).2 (List.mem_map.2 ⟨k, hk, ?_⟩)
        unfold imVal; rw [hg]; rfl
  refine ⟨ImInv.ok (n := M.1.length) { hn with len := Nat.le_refl _ } ?_, h1⟩
  have h2 : vs.length = M.1.length := by
    rw [← h1, List.length_map]
    exact (sortZ_perm _).length_eq.trans (List.length_map _)
  have := h.wf.len
  omega
def hasV (ms : List Lvl) (v : LV) : Prop := v.1 < 0 ∧ -1 - v.1 < ms.length
instance (ms : List Lvl) (v : LV) : Decidable (hasV ms v) := inferInstanceAs (Decidable (_ ∧ _))
def valV (ms : List Lvl) (v : LV) : Lvl := ms.getD (-1 - v.1).toNat ⟨0, []⟩
def addS (ms : List Lvl) (s : IMap × Int) (v : LV) : IMap × Int := if hasV ms v then ((upV v.2 (valV ms v).vs).foldl rzM s.1, max s.2 ((valV ms v).c + v.2)) else (rzM s.1 v, s.2)
def okV (v : LV) : Prop := -65536 ≤ v.1 ∧ v.1 ≤ 7 ∧ 0 ≤ v.2 ∧ v.2 ≤ 100
theorem okV_valid {L : Lvl} (h : validB L = true) {v : LV} (hv : v ∈ L.vs) : okV v := by
  obtain ⟨k, hk⟩ := List.getElem?_of_mem hv
  exact valid_okVar h hk
theorem ble_t {a b : Nat} (h : a ≤ b) : Nat.ble a b = true := Nat.ble_eq_true_of_le h
theorem guard_t {α : Type} {b : Bool} {x : Option α} (h : b = true) : guardO b x = x := by rw [h]; rfl
theorem w64_neg {n : Int} (h : -65536 ≤ n ∧ n ≤ 7) : w64 (-1 - n) = -1 - n := w64_id (by omega) (by omega)
theorem rz_stepM (M : IMap) (k p : Int) : (Option.bind (cond (!(imHas M k))
    (some true)
    (some (decide ((imVal M k) < p)))) (fun (v19 : Bool) => cond v19
    (some (imSet M k p))
    (some M))) = some (rzM M (k, p)) := by
  unfold rzM
  cases imHas M k with
  | false => rfl
  | true =>
    simp only [Bool.not_true, cond_false, Option.bind_some]
    cases decide (imVal M k < p) <;> rfl
theorem foldl_snoc {α β : Type} (f : α → β) : ∀ (l : List α) (out : List β), l.foldl (fun o x => o ++ [f x]) out = out ++ l.map f
  | [], out => by simp
  | x :: l, out => by rw [List.foldl_cons, foldl_snoc f l]; simp
def inB (v : LV) (B : Lvl) : Prop := ∃ y ∈ B.vs, y.1 = v.1 ∧ v.2 ≤ y.2
def topL (B : Lvl) : Int := topOf B.c B.vs
def leL (A B : Lvl) : Prop := A.c ≤ topL B ∧ ∀ x ∈ A.vs, inB x B
theorem inB.top {v : LV} {B : Lvl} (h : inB v B) : v.2 ≤ topL B := by
  obtain ⟨y, hy, -, h2⟩ := h
  have := le_topOf (c := B.c) hy
  unfold topL; omega
theorem topL_le {B : Lvl} {m : Int} : topL B ≤ m ↔ B.c ≤ m ∧ ∀ x ∈ B.vs, x.2 ≤ m := topOf_le
theorem leL.top {A B : Lvl} (h : leL A B) : topL A ≤ topL B := topL_le.2 ⟨h.1, fun x hx => (h.2 x hx).top⟩
theorem leL.inB {A B : Lvl} {v : LV} (h : leL A B) (hv : inB v A) : inB v B := by
  obtain ⟨y, hy, e, h2⟩ := hv
  obtain ⟨z, hz, e2, h3⟩ := h.2 y hy
  exact ⟨z, hz, by omega, by omega⟩
theorem leL.refl (A : Lvl) : leL A A := ⟨top_ge _ _, fun x hx => ⟨x, hx, rfl, Int.le_refl _⟩⟩
theorem leL.trans {A B C : Lvl} (h : leL A B) (k : leL B C) : leL A C := ⟨Int.le_trans h.1 k.top, fun x hx => k.inB (h.2 x hx)⟩
theorem inV_merge {a b : List LV} (ha : WF a) (hb : WF b) {B : Lvl} : (∀ x ∈ mergeV a b, inB x B) ↔ (∀ x ∈ a, inB x B) ∧ ∀ x ∈ b, inB x B := by
  constructor
  · intro h
    refine ⟨fun x hx => ?_, fun x hx => ?_⟩
    · obtain ⟨y, hy, e, h2⟩ := merge_ge_l ha hb hx
      obtain ⟨z, hz, e2, h3⟩ := h y hy
      exact ⟨z, hz, by omega, by omega⟩
    · obtain ⟨y, hy, e, h2⟩ := merge_ge_r ha hb hx
      obtain ⟨z, hz, e2, h3⟩ := h y hy
      exact ⟨z, hz, by omega, by omega⟩
  · rintro ⟨h1, h2⟩ x hx
    exact (merge_src ha hb hx).elim (h1 x) (h2 x)
theorem cov_mem {c : Int} {vs : List LV} : covB c vs = true ↔ ∃ x ∈ vs, c ≤ x.2 := by simp [covB]
theorem trim_eqv {A : Lvl} (h : 0 ≤ A.c) : leL (trimL A) A ∧ leL A (trimL A) := by
  unfold trimL
  by_cases hc : covB A.c A.vs = true
  · rw [if_pos hc]
    obtain ⟨x, hx, h2⟩ := cov_mem.1 hc
    have h3 := top_ge A.c A.vs
    refine ⟨⟨by show (0 : Int) ≤ topL A; unfold topL; omega, (leL.refl A).2⟩, ?_, (leL.refl A).2⟩
    have := le_topOf (c := 0) hx
    show A.c ≤ topOf 0 A.vs
    omega
  · rw [if_neg hc]; exact ⟨leL.refl _, leL.refl _⟩
structure GoodL (A : Lvl) : Prop where
  wf : WF A.vs
  c : 0 ≤ A.c
  v : ∀ x ∈ A.vs, 0 ≤ x.2
theorem good_valid {A : Lvl} (h : validB A = true) : GoodL A := ⟨wf_valid h, (valid_c h).1, fun x hx => (okV_valid h hx).2.2.1⟩
theorem trim_vs (A : Lvl) : (trimL A).vs = A.vs := by unfold trimL; split <;> rfl
theorem valid_trim {A : Lvl} (h : GoodL A) (ht : topL A ≤ 100) : validB (trimL A) = true := by
  obtain ⟨h1, h2⟩ := topL_le.1 ht
  have h0 := h.c
  have ha : A.vs.all okVar = true := List.all_eq_true.2 fun x hx => by
    have := h.v x hx; have := h2 x hx; have := h.wf.2 x hx
    simp [okVar]; omega
  have hs : ascB A.vs = true := asc_pair.2 h.wf.1
  unfold trimL
  by_cases hc : covB A.c A.vs = true
  · rw [if_pos hc]; simp [validB, ha, hs]
  · rw [if_neg hc]; simp [validB, ha, hs, hc, h0, h1]
theorem join_trim {A B : Lvl} (ha : GoodL A) (hb : GoodL B) : joinL A B = trimL ⟨max A.c B.c, mergeV A.vs B.vs⟩ := by
  have h1 := ha.c
  rw [join_eq, trim_eq (by omega) fun x hx => (merge_src ha.wf hb.wf hx).elim (ha.v x) (hb.v x)]
theorem good_merge {A B : Lvl} (ha : GoodL A) (hb : GoodL B) : GoodL ⟨max A.c B.c, mergeV A.vs B.vs⟩ := ⟨wf_merge _ _ ha.wf hb.wf, by have := ha.c; show 0 ≤ max A.c B.c; omega, fun x hx => (merge_src ha.wf hb.wf hx).elim (ha.v x) (hb.v x)⟩
theorem merge_le {A B C : Lvl} (ha : GoodL A) (hb : GoodL B) : leL ⟨max A.c B.c, mergeV A.vs B.vs⟩ C ↔ leL A C ∧ leL B C := by
  unfold leL
  rw [inV_merge ha.wf hb.wf]
  dsimp only
  have : max A.c B.c ≤ topL C ↔ A.c ≤ topL C ∧ B.c ≤ topL C := by omega
  rw [this]
  constructor
  · rintro ⟨⟨h1, h2⟩, h3, h4⟩; exact ⟨⟨h1, h3⟩, h2, h4⟩
  · rintro ⟨⟨h1, h3⟩, h2, h4⟩; exact ⟨⟨h1, h2⟩, h3, h4⟩
theorem join_le {A B C : Lvl} (ha : GoodL A) (hb : GoodL B) : leL (joinL A B) C ↔ leL A C ∧ leL B C := by
  rw [← merge_le ha hb, join_trim ha hb]
  have h := trim_eqv (good_merge ha hb).c
  exact ⟨fun k => h.2.trans k, fun k => h.1.trans k⟩
theorem join_valid {A B : Lvl} (ha : validB A = true) (hb : validB B = true) : validB (joinL A B) = true := by
  rw [join_trim (good_valid ha) (good_valid hb)]
  refine valid_trim (good_merge (good_valid ha) (good_valid hb)) (topL_le.2 ⟨?_, fun x hx => ?_⟩)
  · have := valid_c ha; have := valid_c hb; show max A.c B.c ≤ 100; omega
  · rcases merge_src (wf_valid ha) (wf_valid hb) hx with h | h
    · exact (okV_valid ha h).2.2.2
    · exact (okV_valid hb h).2.2.2
end Go.Proofs.YtcapifnaceegmaaGreatDoor
namespace Go.Proofs.YtcapifnaceegmaaGreatDoor
open Go.RowKit
set_option linter.unusedSimpArgs false
set_option linter.unusedVariables false
def few12 (l : List Lvl) : Bool := l.all fun x => decide (x.vs.length ≤ 12)
theorem m13_eq {l : List Lvl} (hl : l.length ≤ 900000) : m13 l = some (few12 l) := by
  unfold m13
  have key := scan_loop (step := m13_l0 l) (l := l) (fun k x => if decide (12 < (x.vs.length : Int)) then some (k : Int) else none) hl (fun k x hx => by
    have hk := (List.getElem?_eq_some_iff.1 hx).1
    unfold m13_l0
    rw [decide_eq_true (by omega : (k : Int) < l.length), cond_true, idx_nat (Int.natCast_nonneg _) (by simpa using hx), Option.bind_some, Option.bind_some]
    cases decide (12 < (x.vs.length : Int)) <;> rfl) (by unfold m13_l0; rw [decide_eq_false (by omega), cond_false])
  rw [key]
  have h1 := firstR_any (p := fun x : Lvl => decide (12 < (x.vs.length : Int))) (g := fun k => (k : Int)) l 0
  have h2 : few12 l = !(l.any fun x => decide (12 < (x.vs.length : Int))) := by
    unfold few12
    rw [Bool.eq_iff_iff]
    simp only [List.all_eq_true, decide_eq_true_eq, Bool.not_eq_true', List.any_eq_false, Int.not_lt]
    exact ⟨fun h x hx => by have := h x hx; omega, fun h x hx => by have := h x hx; omega⟩
  rw [h2, ← h1]
  cases hf : firstR (fun k (x : Lvl) => if decide (12 < (x.vs.length : Int)) then some (k : Int) else none) l 0 with
  | none => rfl
  | some n =>
    have h0 := firstR_ge (p := fun x : Lvl => decide (12 < (x.vs.length : Int))) _ _ _ hf
    simp only [sumR, Option.bind_some, Sum.elim_inr, decide_eq_true h0]
    rfl
theorem few_len {l : List Lvl} (h : few12 l = true) {x : Lvl} (hx : x ∈ l) : x.vs.length ≤ 12 := of_decide_eq_true (List.all_eq_true.1 h x hx)
def sameB (A B : Lvl) : Bool := (A.c == B.c) && decide (A.vs = B.vs)
theorem sameB_refl (A : Lvl) : sameB A A = true := by simp [sameB]
theorem scan_eq {α : Type} [DecidableEq α] {ne : α → α → Bool} (hne : ∀ x y, ne x y = !(decide (x = y))) : ∀ (l r p : List α), l.length = r.length →
    firstR (fun k x => match (p ++ r)[k]? with
      | some y => if ne x y then some false else none
      | none => none) l p.length = if l = r then none else some false
  | [], r, p, h => by
    have : r = [] := List.eq_nil_of_length_eq_zero h.symm
    rw [this]; rfl
  | x :: l, [], p, h => by cases h
  | x :: l, y :: r, p, h => by
    unfold firstR
    have e : (p ++ y :: r)[p.length]? = some y := by rw [List.getElem?_append_right (Nat.le_refl _), Nat.sub_self]; rfl
    rw [e]
    dsimp only
    rw [hne]
    by_cases hxy : x = y
    · rw [decide_eq_true hxy]
      simp only [Bool.not_true, Bool.false_eq_true, if_false]
      have ih := scan_eq hne l r (p ++ [y]) (by simpa using h)
      rw [List.append_assoc, List.length_append] at ih
      simp only [List.singleton_append, List.length_singleton] at ih
      rw [ih]
      simp [hxy]
    · rw [decide_eq_false hxy]
      simp [hxy]
theorem lv_ne (x y : LV) : (!((x.1 == y.1) && (x.2 == y.2))) = !(decide (x = y)) := by
  congr 1
  rw [Bool.eq_iff_iff]
  simp only [Bool.and_eq_true, beq_iff_eq, decide_eq_true_eq]
  exact ⟨fun h => Prod.ext h.1 h.2, fun h => by rw [h]; exact ⟨rfl, rfl⟩⟩
theorem same_loop {step : Int → Option (LO Int (Unit ⊕ Bool))} {a b : List LV} (hl : a.length = b.length) (h9 : a.length ≤ 900000)
    (hin : ∀ (k : Nat) (x y : LV), a[k]? = some x → b[k]? = some y → step (k : Int) = some (if !((x.1 == y.1) && (x.2 == y.2)) then .done (.inr false) else .next (w64 ((k : Int) + 1)))) (hout : step (a.length : Int) = some (.done (.inl ()))) :
    loopN step FUEL 0 = some (sumR (if a = b then none else some false)) := by
  rw [← scan_eq lv_ne a b [] hl]
  refine scan_loop (l := a) _ h9 (fun k x hx => ?_) hout
  obtain ⟨y, hy⟩ : ∃ y, b[k]? = some y := ⟨_, List.getElem?_eq_getElem (by have := (List.getElem?_eq_some_iff.1 hx).1; omega)⟩
  rw [hin k x y hx hy, List.nil_append, hy]
  dsimp only
  cases (!((x.1 == y.1) && (x.2 == y.2))) <;> rfl
theorem m21_eq {A B : Lvl} (hA : A.vs.length ≤ 900000) : m21 A B = some (sameB A B) := by
  unfold m21 sameB
  by_cases hc : A.c = B.c
  · have e1 : (A.c != B.c) = false := by rw [hc]; exact bne_self_eq_false _
    have e2 : (A.c == B.c) = true := by rw [hc]; exact beq_self_eq_true _
    rw [e1, e2, cond_false, Option.bind_some]
    by_cases hl : A.vs.length = B.vs.length
    · have e3 : ((A.vs.length : Int) != (B.vs.length : Int)) = false := by rw [hl]; exact bne_self_eq_false _
      rw [e3, cond_false]
      have key := same_loop (step := m21_l0 A B) hl hA (fun k x y hx hy => by
        have hk := (List.getElem?_eq_some_iff.1 hx).1
        unfold m21_l0
        rw [decide_eq_true (by omega : (k : Int) < A.vs.length), cond_true, idx_nat (Int.natCast_nonneg _) (by simpa using hx), Option.bind_some, idx_nat (Int.natCast_nonneg _) (by simpa using hy), Option.bind_some]
        cases (!((x.1 == y.1) && (x.2 == y.2))) <;> rfl) (by unfold m21_l0; rw [decide_eq_false (by omega), cond_false])
      rw [key]
      by_cases h : A.vs = B.vs
      · rw [if_pos h, decide_eq_true h]; rfl
      · rw [if_neg h, decide_eq_false h]; rfl
    · have e3 : ((A.vs.length : Int) != (B.vs.length : Int)) = true := by simpa using fun h => hl (by omega)
      rw [e3, cond_true, decide_eq_false (fun h => hl (by rw [h]))]; rfl
  · have e1 : (A.c != B.c) = true := by simpa using hc
    have e2 : (A.c == B.c) = false := by simpa using hc
    rw [e1, e2, cond_true, Option.bind_some, cond_true, Bool.false_and]
theorem g2 {a b : Nat} (h1 : a ≤ 100000) (h2 : b ≤ 100000) : cond (Nat.ble a 100000) (Nat.ble b 100000) false = true := by rw [ble_t h1, ble_t h2]; rfl
end Go.Proofs.YtcapifnaceegmaaGreatDoor
namespace Go.Proofs.YtcapifnaceegmaaGreatDoor
open Go.RowKit
set_option linter.unusedSimpArgs false
set_option linter.unusedVariables false
abbrev Bs := List UInt8
def isD (b : UInt8) : Bool := decide (48 ≤ b.toNat) && decide (b.toNat ≤ 57)
def dig (s : Bs) : Bs := s.takeWhile isD
def numV (ds : Bs) : Nat := ds.foldl (fun a b => 10 * a + (b.toNat - 48)) 0
def badD (ds : Bs) : Bool := decide (ds.length = 0) || decide (6 < ds.length) || (decide (1 < ds.length) && (ds.head? == some 48))
def numP (s : Bs) : Option (Nat × Bs) := if badD (dig s) then none else some (numV (dig s), s.drop (dig s).length)
def sp (s : Bs) : Bs := s.dropWhile (· == 32)
def tkc (c : UInt8) : Bs → Option Bs
  | b :: r => if b = c then some r else none
  | [] => none
def varR (i n : Int) : Lvl × Int := if i < -65536 ∨ 7 < i ∨ n < 0 then (⟨0, []⟩, 2) else if 100 < n then (⟨0, []⟩, 15) else (⟨0, [(i, n)]⟩, 0)
def ofR (n : Int) : Lvl × Int := if n < 0 then (⟨0, []⟩, 2) else if 100 < n then (⟨0, []⟩, 15) else (⟨n, []⟩, 0)
def goP (neg : Bool) (t : Bs) : Option ((Lvl × Int) × Bs) := match numP t with
  | none => none
  | some (n, r) => match tkc 43 (sp r) with
    | none => some (varR (if neg then -1 - (n : Int) else n) 0, sp r)
    | some r2 => match numP (sp r2) with
      | none => none
      | some (p, r3) => some (varR (if neg then -1 - (n : Int) else n) p, r3)
def partP (t : Bs) : Option ((Lvl × Int) × Bs) := match tkc 117 t with
  | some t' => goP false t'
  | none => match tkc 63 t with
    | some t' => goP true t'
    | none => match numP t with
      | none => none
      | some (n, r) => some (ofR n, r)
def restP : Nat → Bs → Option (List (Lvl × Int) × Bs)
  | 0, _ => none
  | n + 1, t => match partP (sp t) with
    | none => none
    | some (x, r) => match tkc 44 (sp r) with
      | none => some ([x], sp r)
      | some r2 => match restP n r2 with
        | none => none
        | some (xs, r3) => some (x :: xs, r3)
def parseP (s : Bs) : Option (List (Lvl × Int)) :=
  if Lib.hasPrefix (sp s) [109, 97, 120] then match tkc 40 (sp ((sp s).drop 3)) with
    | none => none
    | some t => match restP (s.length + 1) t with
      | none => none
      | some (xs, r) => match tkc 41 r with
        | none => none
        | some r2 => if sp r2 = [] then some xs else none
  else match partP (sp s) with
    | none => none
    | some (x, r) => if sp r = [] then some [x] else none
def firstE (e : Int) (xs : List (Lvl × Int)) : Int := xs.foldl (fun e x => if e = 0 then x.2 else e) e
def joinsL (o : Lvl) (xs : List (Lvl × Int)) : Lvl := xs.foldl (fun o x => joinL o x.1) o
def resP (s : Bs) : Lvl × Int := match parseP s with
  | none => (⟨0, []⟩, 4)
  | some [] => (⟨0, []⟩, 4)
  | some (x :: xs) => if firstE 0 (x :: xs) = 0 then (joinsL x.1 xs, 0) else (⟨0, []⟩, firstE 0 (x :: xs))
theorem tw_get {p : UInt8 → Bool} : ∀ (s : Bs) (k : Nat), k < (s.takeWhile p).length → ∃ b, s[k]? = some b ∧ p b = true
  | [], k, h => by simp at h
  | b :: s, k, h => by
    rw [List.takeWhile_cons] at h
    split at h
    · rename_i hb
      cases k with
      | zero => exact ⟨b, rfl, hb⟩
      | succ k => exact tw_get s k (by simpa using h)
    · simp at h
theorem tw_end {p : UInt8 → Bool} : ∀ (s : Bs) (b : UInt8), s[(s.takeWhile p).length]? = some b → p b = false
  | [], b, h => by simp at h
  | c :: s, b, h => by
    rw [List.takeWhile_cons] at h
    split at h
    · rename_i hc
      exact tw_end s b (by simpa using h)
    · rename_i hc
      simp at h; subst h; simpa using hc
theorem tw_take {p : UInt8 → Bool} (s : Bs) : s.take (s.takeWhile p).length = s.takeWhile p := by
  conv => lhs; rw [← List.takeWhile_append_dropWhile (p := p) (l := s)]
  have h : ((s.takeWhile p ++ s.dropWhile p).takeWhile p).length = (s.takeWhile p).length := by rw [List.takeWhile_append_dropWhile]
  rw [h, List.take_left']
  rfl
theorem tw_le {p : UInt8 → Bool} (s : Bs) : (s.takeWhile p).length ≤ s.length := by
  have := congrArg List.length (List.takeWhile_append_dropWhile (p := p) (l := s))
  rw [List.length_append] at this; omega
theorem sp_len (s : Bs) : (sp s).length ≤ s.length := by
  have := congrArg List.length (List.takeWhile_append_dropWhile (p := fun b : UInt8 => b == 32) (l := s))
  rw [List.length_append] at this; unfold sp; omega
theorem tkc_some {c : UInt8} {t r : Bs} (h : tkc c t = some r) : t = c :: r := by
  cases t with
  | nil => cases h
  | cons b t =>
    unfold tkc at h
    dsimp only at h
    split at h
    · rename_i hb
      have := Option.some.inj h
      subst this hb; rfl
    · cases h
theorem tkc_pre (c : UInt8) (t : Bs) : Lib.hasPrefix t [c] = (tkc c t).isSome ∧ Lib.trimPrefix t [c] = (tkc c t).getD t := by
  unfold Lib.trimPrefix Lib.hasPrefix
  cases t with
  | nil => exact ⟨rfl, rfl⟩
  | cons b t =>
    unfold tkc
    dsimp only
    by_cases h : b = c
    · subst h
      rw [if_pos rfl]
      simp [List.isPrefixOf]
    · rw [if_neg h]
      have : (c == b) = false := by simpa using fun e => h e.symm
      simp [List.isPrefixOf, this]
theorem num_len {t r : Bs} {v : Nat} (h : numP t = some (v, r)) : r.length < t.length ∧ r = t.drop (dig t).length ∧ v = numV (dig t) ∧ badD (dig t) = false := by
  unfold numP at h
  split at h
  · cases h
  · rename_i hb
    cases h
    refine ⟨?_, rfl, rfl, by simpa using hb⟩
    have h1 : (dig t).length ≠ 0 := fun h0 => by simp [badD, h0] at hb
    have h2 : (dig t).length ≤ t.length := tw_le t
    rw [List.length_drop]; omega
theorem go_len {neg : Bool} {t r : Bs} {x : Lvl × Int} (h : goP neg t = some (x, r)) : r.length < t.length := by
  unfold goP at h
  split at h
  · cases h
  · rename_i n r1 h1
    have l1 := (num_len h1).1
    have l2 := sp_len r1
    split at h
    · cases h; omega
    · rename_i r2 h2
      have l3 := congrArg List.length (tkc_some h2)
      rw [List.length_cons] at l3
      have l4 := sp_len r2
      split at h
      · cases h
      · rename_i p r3 h3
        have l5 := (num_len h3).1
        cases h; omega
theorem part_len {t r : Bs} {x : Lvl × Int} (h : partP t = some (x, r)) : r.length < t.length := by
  unfold partP at h
  split at h
  · rename_i t' h1
    have l1 := congrArg List.length (tkc_some h1)
    rw [List.length_cons] at l1
    have := go_len h; omega
  · split at h
    · rename_i t' h1
      have l1 := congrArg List.length (tkc_some h1)
      rw [List.length_cons] at l1
      have := go_len h; omega
    · split at h
      · cases h
      · rename_i n r1 h1
        cases h; exact (num_len h1).1
theorem dec_from : ∀ (ds : Bs) (acc : Nat), (∀ b ∈ ds, isD b = true) → Lib.decFrom acc ds = some (ds.foldl (fun a b => 10 * a + (b.toNat - 48)) acc)
  | [], acc, _ => rfl
  | b :: ds, acc, h => by
    have hb := h b List.mem_cons_self
    simp only [isD, Bool.and_eq_true, decide_eq_true_eq] at hb
    have hd : Lib.digitVal b = some (b.toNat - 48) := by unfold Lib.digitVal; rw [if_pos hb]
    unfold Lib.decFrom
    rw [hd]
    dsimp only
    rw [dec_from ds _ (fun c hc => h c (List.mem_cons_of_mem _ hc)), List.foldl_cons, Nat.mul_comm acc 10]
theorem dig_isD {s : Bs} : ∀ b ∈ dig s, isD b = true := fun b hb => by
  have := List.all_takeWhile (p := isD) (l := s)
  exact List.all_eq_true.1 this b hb
theorem atoi_dig {s : Bs} (h : dig s ≠ []) : Lib.atoi (dig s) = some ((numV (dig s) : Nat) : Int) := by
  have hd := dig_isD (s := s)
  generalize dig s = ds at h hd
  cases ds with
  | nil => exact absurd rfl h
  | cons b ds =>
    have hb := hd b List.mem_cons_self
    simp only [isD, Bool.and_eq_true, decide_eq_true_eq] at hb
    unfold Lib.atoi
    dsimp only
    have h1 : (b == 45) = false := by
      cases hc : (b == 45) with
      | false => rfl
      | true => have := eq_of_beq hc; subst this; exact absurd hb.1 (by decide)
    have h2 : (b == 43) = false := by
      cases hc : (b == 43) with
      | false => rfl
      | true => have := eq_of_beq hc; subst this; exact absurd hb.1 (by decide)
    rw [h1, h2, if_neg Bool.false_ne_true, if_neg Bool.false_ne_true]
    unfold Lib.decNat
    rw [show (b :: ds).isEmpty = false from rfl, if_neg Bool.false_ne_true, dec_from _ 0 hd]
    rfl
theorem idx_lt {s : Bs} {k : Nat} {b : UInt8} (h : s[k]? = some b) : idx s (k : Int) = some b := h
theorem isD_int (b : UInt8) : isD b = (decide (48 ≤ (b.toNat : Int)) && decide ((b.toNat : Int) ≤ 57)) := by
  unfold isD
  congr 1 <;> (apply Bool.eq_iff_iff.2; simp only [decide_eq_true_eq]; omega)
theorem numV_lt : ∀ (ds : Bs) (acc : Nat), (∀ b ∈ ds, isD b = true) → ds.foldl (fun a b => 10 * a + (b.toNat - 48)) acc + 1 ≤ (acc + 1) * 10 ^ ds.length
  | [], acc, _ => by simp
  | b :: ds, acc, h => by
    have hb := h b List.mem_cons_self
    simp only [isD, Bool.and_eq_true, decide_eq_true_eq] at hb
    rw [List.foldl_cons]
    refine Nat.le_trans (numV_lt ds _ (fun c hc => h c (List.mem_cons_of_mem _ hc))) ?_
    rw [List.length_cons, Nat.pow_succ, Nat.mul_comm _ 10, ← Nat.mul_assoc]
    refine Nat.mul_le_mul_right _ ?_
    omega
theorem num_small {t r : Bs} {v : Nat} (h : numP t = some (v, r)) : v < 1000000 := by
  obtain ⟨-, -, h2, h3⟩ := num_len h
  have h4 := numV_lt (dig t) 0 dig_isD
  have h5 : (dig t).length ≤ 6 := by
    simp [badD] at h3; omega
  have h6 : 10 ^ (dig t).length ≤ 10 ^ 6 := Nat.pow_le_pow_right (by decide) h5
  have h7 : (10 : Nat) ^ 6 = 1000000 := by decide
  unfold numV at h2
  omega
theorem m81_loop {s : Bs} (hs : s.length ≤ 100000) : loopN (m81f3_l0 s) FUEL 0 = some ((dig s).length : Int) := by
  refine loop_spec (fun i => ∃ k : Nat, i = (k : Int) ∧ k ≤ (dig s).length) (fun i => (dig s).length - i.toNat) (fun _ => ((dig s).length : Int)) ?_ FUEL 0 ⟨0, rfl, Nat.zero_le _⟩ ?_
  · rintro i ⟨k, rfl, hk⟩
    have hle : (dig s).length ≤ s.length := tw_le s
    unfold m81f3_l0
    by_cases hlt : k < (dig s).length
    · obtain ⟨b, hb, hd⟩ := tw_get s k hlt
      rw [isD_int] at hd
      simp only [Bool.and_eq_true] at hd
      right
      refine ⟨((k + 1 : Nat) : Int), ?_, ⟨k + 1, rfl, hlt⟩, by simp only [Int.toNat_natCast]; omega, rfl⟩
      rw [decide_eq_true (by omega : (k : Int) < s.length), cond_true, idx_lt hb]
      simp only [Option.bind_some, hd.1, hd.2, cond_true]
      rw [w64_id (by omega) (by omega)]; rfl
    · have hk' : k = (dig s).length := by omega
      subst hk'
      left
      cases hb : s[(dig s).length]? with
      | none =>
        have := List.getElem?_eq_none_iff.1 hb
        rw [decide_eq_false (by omega : ¬ ((dig s).length : Int) < s.length)]
        rfl
      | some b =>
        have hd := tw_end s b hb
        have := (List.getElem?_eq_some_iff.1 hb).1
        rw [decide_eq_true (by omega : ((dig s).length : Int) < s.length), cond_true, idx_lt hb]
        rw [isD_int] at hd
        simp only [Option.bind_some]
        cases h1 : decide (48 ≤ (b.toNat : Int)) with
        | false => rfl
        | true =>
          rw [h1, Bool.true_and] at hd
          rw [hd]; rfl
  · have : (dig s).length ≤ s.length := tw_le s
    show (dig s).length - 0 < FUEL
    unfold FUEL; omega
theorem m81_eq {s : Bs} (hs : s.length ≤ 100000) (bad : Bool) (e C : Int) (M : IMap) : ∃ x, m81f3 s bad e C M = some x ∧ match numP s with
    | some (v, r) => x = ((v : Int), r, bad)
    | none => x.2.2 = true := by
  have hle : (dig s).length ≤ s.length := tw_le s
  unfold m81f3
  rw [m81_loop hs, Option.bind_some]
  have g : (cond (decide (0 ≤ ((dig s).length : Int))) (Nat.ble ((dig s).length : Int).toNat s.length) false) = true := by
    rw [decide_eq_true (by omega), cond_true]; exact ble_t (by simpa using hle)
  rw [guard_t g, guard_t g, Int.toNat_natCast]
  have ht : s.take (dig s).length = dig s := tw_take s
  rw [ht]
  unfold numP badD
  by_cases h0 : (dig s).length = 0
  · rw [show (((dig s).length : Int) == 0) = true by simpa using h0, cond_true]
    refine ⟨_, rfl, ?_⟩
    rw [if_pos (by simp [h0])]
  · rw [show (((dig s).length : Int) == 0) = false by simpa using h0, cond_false]
    by_cases h6 : 6 < (dig s).length
    · rw [decide_eq_true (by omega : (6 : Int) < (dig s).length), cond_true]
      refine ⟨_, rfl, ?_⟩
      rw [if_pos (by simp [h6])]
    · rw [decide_eq_false (by omega : ¬ (6 : Int) < (dig s).length), cond_false]
      have hne : dig s ≠ [] := fun h => h0 (by rw [h]; rfl)
      have ha := atoi_dig hne
      obtain ⟨b, ds, hds⟩ : ∃ b ds, dig s = b :: ds := by
        cases h : dig s with
        | nil => exact absurd h hne
        | cons b ds => exact ⟨b, ds, rfl⟩
      have g2 : (cond (Nat.ble (dig s).length 18) (Lib.atoi (dig s)).isSome false) = true := by rw [ble_t (by omega), cond_true, ha]; rfl
      have hi : idx (dig s) 0 = some b := by rw [hds]; rfl
      have hh : (dig s).head? = some b := by rw [hds]; rfl
      by_cases h1 : 1 < (dig s).length
      · rw [decide_eq_true (by omega : (1 : Int) < (dig s).length), cond_true, hi, hh]
        simp only [Option.bind_some]
        by_cases hb : b = 48
        · subst hb
          refine ⟨_, rfl, ?_⟩
          rw [if_pos (by simp [h1])]
        · have e1 : ((b.toNat : Int) == 48) = false := by
            have : b.toNat ≠ 48 := fun e => hb (UInt8.toNat_inj.1 e)
            simpa using fun e : (b.toNat : Int) = 48 => this (by omega)
          rw [e1, cond_false, guard_t g2]
          refine ⟨_, rfl, ?_⟩
          rw [if_neg (by simp [h0, h6, hb])]
          dsimp only
          unfold atoiL
          rw [ha]; rfl
      · rw [decide_eq_false (by omega : ¬ (1 : Int) < (dig s).length), cond_false, Option.bind_some, cond_false, guard_t g2]
        refine ⟨_, rfl, ?_⟩
        rw [if_neg (by simp [h0, h6, h1])]
        dsimp only
        unfold atoiL
        rw [ha]; rfl
end Go.Proofs.YtcapifnaceegmaaGreatDoor
