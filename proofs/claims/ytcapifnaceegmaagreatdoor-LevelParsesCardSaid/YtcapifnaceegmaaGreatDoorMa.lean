/- Mirrors of layer 1: few, Same, Of, Var. -/
import Derived.Test.YtcapifnaceegmaaGreatDoorMc
import Derived.Test.YtcapifnaceegmaaGreatDoorArr
namespace Go.Proofs.YtcapifnaceegmaaGreatDoor
open Go.RowKit Go.Shelf
set_option linter.unusedSimpArgs false
set_option linter.unusedVariables false

theorem ip_69 : isPairTy Tryz.prog 69 = true := by kernel_rfl
theorem en_13 : Enters Tryz.prog 13 := enters_of Tryz.func13 (by kernel_rfl) rfl
theorem en_15 : Enters Tryz.prog 15 := enters_of Tryz.func15 (by kernel_rfl) rfl
theorem en_16 : Enters Tryz.prog 16 := enters_of Tryz.func16 (by kernel_rfl) rfl
theorem en_17 : Enters Tryz.prog 17 := enters_of Tryz.func17 (by kernel_rfl) rfl
theorem en_18 : Enters Tryz.prog 18 := enters_of Tryz.func18 (by kernel_rfl) rfl
theorem en_21 : Enters Tryz.prog 21 := enters_of Tryz.func21 (by kernel_rfl) rfl
theorem en_46 : Enters Tryz.prog 46 := enters_of Tryz.func46 (by kernel_rfl) rfl
def m13_l0 (a0 : List Lvl) (s3 : Int) : Option (LO Int (Unit ⊕ Int)) :=
  cond (decide (s3 < (a0.length : Int)))
    (Option.bind (idx a0 s3) fun (x7 : Lvl) =>
  Option.bind (some ()) (fun (y8 : Unit) => cond (decide (12 < (x7.vs.length : Int)))
    (some (.done (.inr s3)))
    (some (.next (w64 (s3 + 1))))))
    (some (.done (.inl ())))

/-- euclid/euclidlaw01.few -/
def m13 (a0 : List Lvl) : Option Bool :=
  Option.bind (Option.bind (Option.bind (loopN (m13_l0 a0) FUEL 0) (Sum.elim (fun (o5 : Unit) => some (-1)) (fun o => some o))) (fun (y3 : Int) => some (decide (0 ≤ y3)))) (fun (y1 : Bool) => some (!y1))

set_option maxRecDepth 100000 in
set_option maxHeartbeats 8000000 in
theorem m13_ok (a0 : List Lvl) (r : Bool) (h0 : m13 a0 = some r) : Fun Tryz.prog 13 [.one (dS a0)] (resOf [.one (dB r)]) := by
  unfold m13 at h0
  refine Fun.of_bodyM 9 6 Tryz.func13 rfl en_13 rfl (lb rfl) (fun S w => ?_)
  simp only [entry]
  refine XC.seq <| XC.region <| rA rfl rfl rfl <| XL.nil <| XQ.seq <| XC.seq <| XC.region <| rM rfl rfl rfl ?_
  refine bindK h0 (fun y1 h1 h0 => ?_)
  have hc2 : CallM Tryz.prog 45 [.one (dS a0), .one (.fn 46 [])] ⟨[], [], 0⟩ (resOf [.one (dB y1)]) ⟨[], [], 0⟩ := by
   refine CallM.of_bodyD ⟨[(4, .v (.one (dB y1)))], [], [], 0, 9, []⟩ rfl rfl en_45 (lb rfl) rfl (RAs.tmp rfl .nil) (fun w0 M V0 Q hv1 hQ1 => ?_)
   simp only [entry]
   refine XC.seq <| XC.region <| rA rfl rfl rfl <| XL.nil <| XQ.seq <| XC.seq <| XC.region <| rM rfl rfl rfl <| rM rfl rfl rfl ?_
   refine bindK h1 (fun y3 h2 h1 => ?_)
   have hc4 : CallM Tryz.prog 76 [.one (dS a0), .one (.fn 46 [])] ⟨[], [], 0⟩ (resOf [.one (dI y3)]) ⟨[], [], 0⟩ := by
    refine CallM.of_bodyD ⟨[(4, .v (.one (dI y3)))], [], [], 0, 19, []⟩ rfl rfl en_76 (lb rfl) rfl (RAs.tmp rfl .nil) (fun w0 M V0 Q hv2 hQ2 => ?_)
    simp only [entry]
    refine XC.seq <| XC.region <| rA rfl rfl rfl <| XL.nil <| XQ.seq <| XC.seq <| XC.seq <| XC.region <| rM rfl rfl rfl <| rR rfl rfl rfl (RO.lenE (α := Lvl) sl_55 rfl (.d _)) <| rM rfl rfl rfl <| XL.nil <| XQ.seq <| XC.block ?_
    refine XC.joinX 0 (fun (o5 : Unit) => ⟨[], [], [], 0, 19, []⟩) (fun (o5 : Unit) => (some (-1)) = some y3) ?_ ?_
    ·
     refine bindK h2 (fun o6 hl3 h2 => ?_)
     refine XC.loopM (m13_l0 a0) (fun s3 => ⟨[(0, .v (.one (dS a0))), (1, .v (.one (.fn 46 []))), (7, .v (.one (dI (a0.length : Int)))), (8, .v (.one (dI s3)))], [], [], 0, 19, []⟩) 0 o6 (stle (tR rfl (tR rfl (tR rfl (tR rfl tZ)))) hZ kZ rfl (Nat.le_trans hv2 (lb rfl)) rfl rfl rfl bZ rfl rfl) hl3 (fun s3 n3 oo3 h3 ho3 => ?_)
     unfold m13_l0 at h3
     refine XC.seq <| XC.region <| rR rfl rfl rfl (RO.binInt rfl rfl rfl) <| XL.nil <| XQ.seq <| XC.seq ?_
     refine XC.cond (b := (decide (s3 < (a0.length : Int)))) rfl (fun c7 => ?_) (fun c7 => ?_)
     ·
      replace h3 := condT c7 h3
      refine XC.skip <| XQ.seq <| XC.seq <| XC.block <| XC.seq <| XC.region <| rM rfl rfl rfl <| rA rfl rfl rfl <| XL.nil <| XQ.seq <| XC.seq <| XC.region <| rM rfl rfl rfl <| rM rfl rfl rfl ?_
      refine rM rfl rfl rfl ?_
      refine bindK h3 (fun x8 hx8 h3 => ?_)
      refine rR rfl rfl rfl (RO.indexE (α := Lvl) sl_55 rfl (.d _) rfl hx8) <| rR rfl rfl rfl (RO.loadPelAgg ag_24 rfl rfl rfl) ?_
      refine bindK h3 (fun y9 h4 h3 => ?_)
      have hc10 : CallM Tryz.prog 46 [.agg (cE x8)] ⟨[], [], 0⟩ (resOf [.one (dB (decide (12 < (x8.vs.length : Int))))]) ⟨[], [], 1⟩ := by
       refine CallM.of_bodyD ⟨[(2, .v (.one (dB (decide (12 < (x8.vs.length : Int))))))], [], [], 1, 7, []⟩ rfl rfl en_46 (lb rfl) rfl (RAs.tmp rfl .nil) (fun w0 M V0 Q hv4 hQ4 => ?_)
       simp only [entry]
       refine XC.seq <| XC.region <| XL.put rfl rfl (lb rfl) (OpOK.box rfl) <| rA rfl rfl rfl <| XL.nil <| XQ.seq <| XC.seq <| XC.region <| rR rfl rfl rfl (RO.fieldOwn fo_24_1 rfl) <| rR rfl rfl rfl (RO.loadOwn ag_22 rfl rfl rfl) <| rR rfl rfl rfl (RO.lenE (α := LV) sl_22 rfl (.d _)) <| rR rfl rfl rfl (RO.binInt rfl rfl rfl) <| rA rfl rfl rfl <| XL.nil ?_
       refine XQ.seq <| XC.ret ?_
       have e_ := Option.some.inj h4
       subst e_
       exact hQ4 _ _ _ (.inr rfl) rfl (stle (tR rfl tZ) hZ kZ rfl (Nat.le_trans hv4 (lb rfl)) rfl rfl rfl bZ rfl rfl)
      refine XL.put rfl rfl (lb rfl) (OpOK.callW rfl rfl rfl hc10 rfl hZ kZ) <| XL.nil <| XQ.seq ?_
      refine XC.cond (b := (decide (12 < (x8.vs.length : Int)))) rfl (fun c11 => ?_) (fun c11 => ?_)
      ·
       replace h3 := condT c11 h3
       refine XC.seq <| XC.region <| rM rfl rfl rfl <| rA rfl rfl rfl <| XL.nil <| XQ.seq <| XC.ret ?_
       have e_ := Option.some.inj h3
       subst e_
       have e_ : _ = _ := ho3
       subst e_
       try dsimp only [Sum.elim_inl, Sum.elim_inr] at h2
       have e_ := Option.some.inj h2
       subst e_
       exact hQ2 _ _ _ (.inr rfl) rfl (stle (tR rfl tZ) hZ kZ rfl (Nat.le_trans hv2 (lb rfl)) rfl rfl rfl bZ rfl rfl)
      ·
       replace h3 := condF c11 h3
       refine XC.skip <| XQ.inBlock <| XQ.seq <| XC.region <| rR rfl rfl rfl (RO.binInt rfl rfl rfl) <| rM rfl rfl rfl <| XL.nil ?_
       have e_ := Option.some.inj h3
       subst e_
       refine XQ.nextM (w64 (s3 + 1)) (stle (tR rfl (tR rfl (tR rfl (tR rfl tZ)))) hZ kZ rfl (Nat.le_trans hv2 (lb rfl)) rfl rfl rfl bZ rfl rfl) ho3
     ·
      replace h3 := condF c7 h3
      refine XC.exit <| XQ.thenE <| XQ.thenE ?_
      have e_ := Option.some.inj h3
      subst e_
      have e_ : _ = _ := ho3
      subst e_
      exact XQ.joinX () (stle tZ hZ kZ rfl (Nat.le_trans hv2 (lb rfl)) rfl rfl rfl bZ rfl rfl) h2
    ·
     intro o5 h2
     refine XQ.blockX <| XQ.seq <| XC.seq <| XC.region <| rA rfl rfl rfl <| XL.nil <| XQ.seq <| XC.ret ?_
     have e_ := Option.some.inj h2
     subst e_
     exact hQ2 _ _ _ (.inr rfl) rfl (stle (tR rfl tZ) hZ kZ rfl (Nat.le_trans hv2 (lb rfl)) rfl rfl rfl bZ rfl rfl)
   refine XL.put rfl rfl (lb rfl) (OpOK.callW rfl rfl rfl hc4 rfl hZ kZ) <| rR rfl rfl rfl (RO.binInt rfl rfl rfl) <| rA rfl rfl rfl <| XL.nil <| XQ.seq <| XC.ret ?_
   have e_ := Option.some.inj h1
   subst e_
   exact hQ1 _ _ _ (.inr rfl) rfl (stle (tR rfl tZ) hZ kZ rfl (Nat.le_trans hv1 (lb rfl)) rfl rfl rfl bZ rfl rfl)
  refine XL.put rfl rfl (lb rfl) (OpOK.callW rfl rfl rfl hc2 rfl hZ kZ) <| rR rfl rfl rfl (RO.not rfl) <| rA rfl rfl rfl <| XL.nil <| XQ.seq <| XC.ret ?_
  have e_ := Option.some.inj h0
  subst e_
  exact XQ.retF (fun _ _ h => h) rfl (RAs.tmp rfl .nil) (.cons (.one (.d _)) .nil)

def m21_l0 (a0 : Lvl) (a1 : Lvl) (s1 : Int) : Option (LO Int (Unit ⊕ Bool)) :=
  cond (decide (s1 < (a0.vs.length : Int)))
    (Option.bind (idx a0.vs s1) fun (x5 : LV) =>
  Option.bind (idx a1.vs s1) fun (x6 : LV) =>
  cond (!((x5.1 == x6.1) && (x5.2 == x6.2)))
    (some (.done (.inr false)))
    (some (.next (w64 (s1 + 1)))))
    (some (.done (.inl ())))

/-- euclid/euclidref01.Same -/
def m21 (a0 : Lvl) (a1 : Lvl) : Option Bool :=
  Option.bind (cond (a0.c != a1.c)
    (some true)
    (some ((a0.vs.length : Int) != (a1.vs.length : Int)))) (fun (v1 : Bool) => cond v1
    (some false)
    (Option.bind (loopN (m21_l0 a0 a1) FUEL 0) (Sum.elim (fun (o3 : Unit) => some true) (fun o => some o))))

set_option maxRecDepth 100000 in
set_option maxHeartbeats 8000000 in
theorem m21_ok (a0 : Lvl) (a1 : Lvl) (r : Bool) (h0 : m21 a0 a1 = some r) : Fun Tryz.prog 21 [.agg (cE a0), .agg (cE a1)] (resOf [.one (dB r)]) := by
  unfold m21 at h0
  refine Fun.of_bodyM 9 38 Tryz.func21 rfl en_21 rfl (lb rfl) (fun S w => ?_)
  simp only [entry]
  refine XC.seq <| XC.region <| XL.put rfl rfl (lb rfl) (OpOK.box rfl) <| XL.put rfl rfl (lb rfl) (OpOK.box rfl) <| rA rfl rfl rfl <| XL.nil <| XQ.seq <| XC.seq <| XC.seq ?_
  refine XC.joinR (fun (v1 : Bool) => ⟨[(2, .v (.one (.ptr 0 0))), (3, .v (.one (.ptr 1 0))), (19, .v (.one (dB v1)))], [(0, .cells 24 (cE a0)), (1, .cells 24 (cE a1))], [], 2, 38, []⟩) (fun (v1 : Bool) => (cond v1
      (some false)
      (Option.bind (loopN (m21_l0 a0 a1) FUEL 0) (Sum.elim (fun (o3 : Unit) => some true) (fun o => some o)))) = some r) ?_ ?_
  ·
   refine bindK h0 (fun v_ h1 h0 => ?_)
   refine XC.region <| rR rfl rfl rfl (RO.fieldOwn fo_24_0 rfl) <| rR rfl rfl rfl (RO.loadOwn ag_3 rfl rfl rfl) <| rR rfl rfl rfl (RO.fieldOwn fo_24_0 rfl) <| rR rfl rfl rfl (RO.loadOwn ag_3 rfl rfl rfl) <| rR rfl rfl rfl (RO.binInt rfl rfl rfl) <| rM rfl rfl rfl ?_
   refine XL.case (d := 11) (c := (a0.c != a1.c)) rfl (fun c2 => ?_) (fun c2 => ?_)
   ·
    replace h1 := condT c2 h1
    refine XL.no rfl rfl <| XL.no rfl rfl <| XL.no rfl rfl <| XL.no rfl rfl <| XL.no rfl rfl <| XL.no rfl rfl <| XL.no rfl rfl <| rR rfl rfl rfl (RO.pickT rfl rfl) <| XL.nil ?_
    have e_ := Option.some.inj h1
    subst e_
    exact XQ.joinR true (stle (tR rfl (tR rfl (tR rfl tZ))) (hR rfl (hR rfl hZ)) kZ rfl (Nat.zero_le _) rfl rfl rfl (bB rfl rfl (bB rfl rfl bZ)) rfl rfl) h0
   ·
    replace h1 := condF c2 h1
    refine rR rfl rfl rfl (RO.fieldOwn fo_24_1 rfl) <| rR rfl rfl rfl (RO.loadOwn ag_22 rfl rfl rfl) <| rR rfl rfl rfl (RO.lenE (α := LV) sl_22 rfl (.d _)) <| rR rfl rfl rfl (RO.fieldOwn fo_24_1 rfl) <| rR rfl rfl rfl (RO.loadOwn ag_22 rfl rfl rfl) <| rR rfl rfl rfl (RO.lenE (α := LV) sl_22 rfl (.d _)) <| rR rfl rfl rfl (RO.binInt rfl rfl rfl) <| rR rfl rfl rfl (RO.pickF rfl rfl) <| XL.nil ?_
    have e_ := Option.some.inj h1
    subst e_
    exact XQ.joinR ((a0.vs.length : Int) != (a1.vs.length : Int)) (stle (tR rfl (tR rfl (tR rfl tZ))) (hR rfl (hR rfl hZ)) kZ rfl (Nat.zero_le _) rfl rfl rfl (bB rfl rfl (bB rfl rfl bZ)) rfl rfl) h0
  ·
   intro v1 h0
   refine XQ.seq ?_
   refine XC.cond (b := v1) rfl (fun c3 => ?_) (fun c3 => ?_)
   ·
    replace h0 := condT c3 h0
    refine XC.seq <| XC.region <| rA rfl rfl rfl <| XL.nil <| XQ.seq <| XC.ret ?_
    have e_ := Option.some.inj h0
    subst e_
    exact XQ.retF (fun _ _ h => h) rfl (RAs.tmp rfl .nil) (.cons (.one (.d _)) .nil)
   ·
    replace h0 := condF c3 h0
    refine XC.skip <| XQ.seq <| XC.seq <| XC.seq <| XC.region <| rA rfl rfl rfl <| XL.nil <| XQ.seq <| XC.block ?_
    refine XC.joinX 0 (fun (o4 : Unit) => ⟨[], [(0, .cells 24 (cE a0)), (1, .cells 24 (cE a1))], [], 2, 38, []⟩) (fun (o4 : Unit) => (some true) = some r) ?_ ?_
    ·
     refine bindK h0 (fun o5 hl1 h0 => ?_)
     refine XC.loopM (m21_l0 a0 a1) (fun s1 => ⟨[(2, .v (.one (.ptr 0 0))), (3, .v (.one (.ptr 1 0))), (5, .v (.one (dI s1)))], [(0, .cells 24 (cE a0)), (1, .cells 24 (cE a1))], [], 2, 38, []⟩) 0 o5 (stle (tR rfl (tR rfl (tR rfl tZ))) (hR rfl (hR rfl hZ)) kZ rfl (Nat.zero_le _) rfl rfl rfl (bB rfl rfl (bB rfl rfl bZ)) rfl rfl) hl1 (fun s1 n1 oo1 h1 ho1 => ?_)
     unfold m21_l0 at h1
     refine XC.seq <| XC.seq <| XC.region <| rM rfl rfl rfl <| rR rfl rfl rfl (RO.fieldOwn fo_24_1 rfl) <| rR rfl rfl rfl (RO.loadOwn ag_22 rfl rfl rfl) <| rR rfl rfl rfl (RO.lenE (α := LV) sl_22 rfl (.d _)) <| rR rfl rfl rfl (RO.binInt rfl rfl rfl) <| XL.nil <| XQ.seq ?_
     refine XC.cond (b := (decide (s1 < (a0.vs.length : Int)))) rfl (fun c6 => ?_) (fun c6 => ?_)
     ·
      replace h1 := condT c6 h1
      refine XC.skip <| XQ.seq <| XC.seq <| XC.block <| XC.seq ?_
      refine XC.anyRun [] [] mixed (by kernel_rfl) (by kernel_rfl) (by kernel_rfl) ?_
      refine RunA.rd rfl rfl rfl (OpOK.of_ro (RO.fieldOwn fo_24_1 rfl)) rfl <| RunA.rd rfl rfl rfl (OpOK.of_ro (RO.loadOwn ag_22 rfl rfl rfl)) rfl <| RunA.rd rfl rfl rfl (OpOK.of_ro (RO.move rfl)) rfl ?_
      refine bindK h1 (fun x7 hx7 h1 => ?_)
      refine RunA.rd rfl rfl rfl (OpOK.of_ro (RO.indexE (α := LV) sl_22 rfl (.d _) rfl hx7)) rfl <| RunA.rd rfl rfl rfl (OpOK.of_ro (RO.loadPelAgg ag_69 rfl rfl rfl)) rfl <| RunA.rd rfl rfl rfl (OpOK.of_ro (RO.fieldOwn fo_24_1 rfl)) rfl <| RunA.rd rfl rfl rfl (OpOK.of_ro (RO.loadOwn ag_22 rfl rfl rfl)) rfl <| RunA.rd rfl rfl rfl (OpOK.of_ro (RO.move rfl)) rfl ?_
      refine bindK h1 (fun x8 hx8 h1 => ?_)
      refine RunA.rd rfl rfl rfl (OpOK.of_ro (RO.indexE (α := LV) sl_22 rfl (.d _) rfl hx8)) rfl <| RunA.rd rfl rfl rfl (OpOK.of_ro (RO.loadPelAgg ag_69 rfl rfl rfl)) rfl <| RunA.rd rfl rfl rfl (OpOK.of_ro (RO.neqPair ip_69 rfl rfl)) rfl ?_
      refine RunA.nil ⟨?ex, _, _, rfl, ?_⟩
      case ex => exact trivial
      refine XQ.less (st' := ⟨[(2, .v (.one (.ptr 0 0))), (3, .v (.one (.ptr 1 0))), (5, .v (.one (dI s1))), (37, .v (.one (dB (!((x7.1 == x8.1) && (x7.2 == x8.2))))))], [(0, .cells 24 (cE a0)), (1, .cells 24 (cE a1))], [], 2, 38, []⟩) (stle (tR rfl (tR rfl (tR rfl (tR rfl tZ)))) (hR rfl (hR rfl hZ)) kZ rfl (Nat.zero_le _) rfl rfl rfl (bB rfl rfl (bB rfl rfl bZ)) rfl rfl) <| XQ.seq ?_
      refine XC.cond (b := (!((x7.1 == x8.1) && (x7.2 == x8.2)))) rfl (fun c9 => ?_) (fun c9 => ?_)
      ·
       replace h1 := condT c9 h1
       refine XC.seq <| XC.region <| rA rfl rfl rfl <| XL.nil <| XQ.seq <| XC.ret ?_
       have e_ := Option.some.inj h1
       subst e_
       have e_ : _ = _ := ho1
       subst e_
       try dsimp only [Sum.elim_inl, Sum.elim_inr] at h0
       have e_ := Option.some.inj h0
       subst e_
       exact XQ.retF (fun _ _ h => h) rfl (RAs.tmp rfl .nil) (.cons (.one (.d _)) .nil)
      ·
       replace h1 := condF c9 h1
       refine XC.skip <| XQ.inBlock <| XQ.seq <| XC.region <| rM rfl rfl rfl <| rR rfl rfl rfl (RO.binInt rfl rfl rfl) <| rA rfl rfl rfl <| XL.nil ?_
       have e_ := Option.some.inj h1
       subst e_
       refine XQ.nextM (w64 (s1 + 1)) (stle (tR rfl (tR rfl (tR rfl tZ))) (hR rfl (hR rfl hZ)) kZ rfl (Nat.zero_le _) rfl rfl rfl (bB rfl rfl (bB rfl rfl bZ)) rfl rfl) ho1
     ·
      replace h1 := condF c6 h1
      refine XC.exit <| XQ.thenE <| XQ.thenE ?_
      have e_ := Option.some.inj h1
      subst e_
      have e_ : _ = _ := ho1
      subst e_
      exact XQ.joinX () (stle tZ (hR rfl (hR rfl hZ)) kZ rfl (Nat.zero_le _) rfl rfl rfl (bB rfl rfl (bB rfl rfl bZ)) rfl rfl) h0
    ·
     intro o4 h0
     refine XQ.blockX <| XQ.seq <| XC.seq <| XC.region <| rA rfl rfl rfl <| XL.nil <| XQ.seq <| XC.ret ?_
     have e_ := Option.some.inj h0
     subst e_
     exact XQ.retF (fun _ _ h => h) rfl (RAs.tmp rfl .nil) (.cons (.one (.d _)) .nil)

/-- euclid/level.Of -/
def m15 (a0 : Int) : Option (Lvl × Int) :=
  cond (decide (a0 < 0))
    (some ((⟨0, ([] : List LV)⟩ : Lvl), 2))
    (cond (decide (100 < a0))
    (some ((⟨0, ([] : List LV)⟩ : Lvl), 15))
    (some ((⟨a0, ([] : List LV)⟩ : Lvl), 0)))

set_option maxRecDepth 100000 in
set_option maxHeartbeats 8000000 in
theorem m15_ok (a0 : Int) (r : Lvl × Int) (h0 : m15 a0 = some r) : Fun Tryz.prog 15 [.one (dI a0)] (resOf [.agg (cE r.1), .one (dI r.2)]) := by
  unfold m15 at h0
  refine Fun.of_bodyM 9 14 Tryz.func15 rfl en_15 rfl (lb rfl) (fun S w => ?_)
  simp only [entry]
  refine XC.seq <| XC.region <| XL.put rfl rfl (lb rfl) (OpOK.alloc z_24 rfl) <| rA rfl rfl rfl <| XL.nil <| XQ.seq <| XC.seq <| XC.block <| XC.seq <| XC.region <| rM rfl rfl rfl <| rR rfl rfl rfl (RO.binInt rfl rfl rfl) <| rA rfl rfl rfl <| XL.nil ?_
  refine XQ.seq ?_
  refine XC.cond (b := (decide (a0 < 0))) rfl (fun c1 => ?_) (fun c1 => ?_)
  ·
   replace h0 := condT c1 h0
   refine XC.seq <| XC.region <| rR rfl rfl rfl (RO.build0 bd_24 rfl ) <| XL.eff rfl rfl (OpOK.store ag_24 rfl rfl rfl rfl (lb rfl) rfl) <| rA rfl rfl rfl <| XL.nil <| XQ.seq <| XC.ret ?_
   have e_ := Option.some.inj h0
   subst e_
   exact XQ.retF (fun _ _ h => h) rfl (RAs.agg ag_24 rfl rfl rfl rfl (RAs.tmp rfl .nil)) (.cons (.agg (.cons (.d _) (.cons (.nil _) .nil))) (.cons (.one (.d _)) .nil))
  ·
   replace h0 := condF c1 h0
   refine XC.seq <| XC.region <| rM rfl rfl rfl <| rR rfl rfl rfl (RO.binInt rfl rfl rfl) <| rA rfl rfl rfl <| XL.nil <| XQ.seq ?_
   refine XC.cond (b := (decide (100 < a0))) rfl (fun c2 => ?_) (fun c2 => ?_)
   ·
    replace h0 := condT c2 h0
    refine XC.seq <| XC.region <| rR rfl rfl rfl (RO.build0 bd_24 rfl ) <| XL.eff rfl rfl (OpOK.store ag_24 rfl rfl rfl rfl (lb rfl) rfl) <| rA rfl rfl rfl <| XL.nil <| XQ.seq <| XC.ret ?_
    have e_ := Option.some.inj h0
    subst e_
    exact XQ.retF (fun _ _ h => h) rfl (RAs.agg ag_24 rfl rfl rfl rfl (RAs.tmp rfl .nil)) (.cons (.agg (.cons (.d _) (.cons (.nil _) .nil))) (.cons (.one (.d _)) .nil))
   ·
    replace h0 := condF c2 h0
    refine XC.skip <| XQ.inBlock <| XQ.seq <| XC.seq <| XC.region <| rM rfl rfl rfl <| rR rfl rfl rfl (RO.build1 bd_24 rfl rfl rfl) <| XL.eff rfl rfl (OpOK.store ag_24 rfl rfl rfl rfl (lb rfl) rfl) <| rA rfl rfl rfl <| XL.nil <| XQ.seq <| XC.ret ?_
    have e_ := Option.some.inj h0
    subst e_
    exact XQ.retF (fun _ _ h => h) rfl (RAs.agg ag_24 rfl rfl rfl rfl (RAs.tmp rfl .nil)) (.cons (.agg (.cons (.d _) (.cons (.nil _) .nil))) (.cons (.one (.d _)) .nil))

/-- euclid/euclidref01.Of -/
def m16 (a0 : Int) : Option (Lvl × Int) :=
  cond (decide (a0 < 0))
    (some ((⟨0, ([] : List LV)⟩ : Lvl), 2))
    (cond (decide (100 < a0))
    (some ((⟨0, ([] : List LV)⟩ : Lvl), 15))
    (some ((⟨a0, []⟩ : Lvl), 0)))

set_option maxRecDepth 100000 in
set_option maxHeartbeats 8000000 in
theorem m16_ok (a0 : Int) (r : Lvl × Int) (h0 : m16 a0 = some r) : Fun Tryz.prog 16 [.one (dI a0)] (resOf [.agg (cE r.1), .one (dI r.2)]) := by
  unfold m16 at h0
  refine Fun.of_bodyM 9 12 Tryz.func16 rfl en_16 rfl (lb rfl) (fun S w => ?_)
  simp only [entry]
  refine XC.seq <| XC.region <| XL.put rfl rfl (lb rfl) (OpOK.alloc z_24 rfl) <| rA rfl rfl rfl <| XL.nil <| XQ.seq <| XC.seq <| XC.seq <| XC.region <| rM rfl rfl rfl <| rR rfl rfl rfl (RO.binInt rfl rfl rfl) <| XL.nil <| XQ.seq ?_
  refine XC.cond (b := (decide (a0 < 0))) rfl (fun c1 => ?_) (fun c1 => ?_)
  ·
   replace h0 := condT c1 h0
   refine XC.seq <| XC.region <| rR rfl rfl rfl (RO.build0 bd_24 rfl ) <| XL.eff rfl rfl (OpOK.store ag_24 rfl rfl rfl rfl (lb rfl) rfl) <| rA rfl rfl rfl <| XL.nil <| XQ.seq <| XC.ret ?_
   have e_ := Option.some.inj h0
   subst e_
   exact XQ.retF (fun _ _ h => h) rfl (RAs.agg ag_24 rfl rfl rfl rfl (RAs.tmp rfl .nil)) (.cons (.agg (.cons (.d _) (.cons (.nil _) .nil))) (.cons (.one (.d _)) .nil))
  ·
   replace h0 := condF c1 h0
   refine XC.skip <| XQ.seq <| XC.seq <| XC.seq <| XC.region <| rM rfl rfl rfl <| rR rfl rfl rfl (RO.binInt rfl rfl rfl) <| XL.nil <| XQ.seq ?_
   refine XC.cond (b := (decide (100 < a0))) rfl (fun c2 => ?_) (fun c2 => ?_)
   ·
    replace h0 := condT c2 h0
    refine XC.seq <| XC.region <| rR rfl rfl rfl (RO.build0 bd_24 rfl ) <| XL.eff rfl rfl (OpOK.store ag_24 rfl rfl rfl rfl (lb rfl) rfl) <| rA rfl rfl rfl <| XL.nil <| XQ.seq <| XC.ret ?_
    have e_ := Option.some.inj h0
    subst e_
    exact XQ.retF (fun _ _ h => h) rfl (RAs.agg ag_24 rfl rfl rfl rfl (RAs.tmp rfl .nil)) (.cons (.agg (.cons (.d _) (.cons (.nil _) .nil))) (.cons (.one (.d _)) .nil))
   ·
    replace h0 := condF c2 h0
    refine XC.skip <| XQ.seq <| XC.seq <| XC.region <| rM rfl rfl rfl ?_
    refine XL.put rfl rfl (lb rfl) (OpOK.callFun (number_fun a0) rfl (.cons (.one (.d _)) .nil)) ?_
    refine XL.eff rfl rfl (OpOK.store ag_24 rfl rfl rfl rfl (lb rfl) rfl) <| rA rfl rfl rfl <| XL.nil <| XQ.seq <| XC.ret ?_
    have e_ := Option.some.inj h0
    subst e_
    exact XQ.retF (fun _ _ h => h) rfl (RAs.agg ag_24 rfl rfl rfl rfl (RAs.tmp rfl .nil)) (.cons (.agg (.cons (.d _) (.cons (.d _) .nil))) (.cons (.one (.d _)) .nil))

/-- euclid/level.Var -/
def m17 (a0 : Int) (a1 : Int) : Option (Lvl × Int) :=
  Option.bind (cond (decide (a0 < (-65536)))
    (some true)
    (cond (decide (7 < a0))
    (some true)
    (some (decide (a1 < 0))))) (fun (v1 : Bool) => cond v1
    (some ((⟨0, ([] : List LV)⟩ : Lvl), 2))
    (cond (decide (100 < a1))
    (some ((⟨0, ([] : List LV)⟩ : Lvl), 15))
    (some ((⟨0, [(a0, a1)]⟩ : Lvl), 0))))

set_option maxRecDepth 100000 in
set_option maxHeartbeats 8000000 in
theorem m17_ok (a0 : Int) (a1 : Int) (r : Lvl × Int) (h0 : m17 a0 a1 = some r) : Fun Tryz.prog 17 [.one (dI a0), .one (dI a1)] (resOf [.agg (cE r.1), .one (dI r.2)]) := by
  unfold m17 at h0
  refine Fun.of_bodyM 9 27 Tryz.func17 rfl en_17 rfl (lb rfl) (fun S w => ?_)
  simp only [entry]
  refine XC.seq <| XC.region <| XL.put rfl rfl (lb rfl) (OpOK.alloc z_24 rfl) <| rA rfl rfl rfl <| XL.nil <| XQ.seq <| XC.seq <| XC.block <| XC.seq ?_
  refine XC.joinR (fun (v1 : Bool) => ⟨[(0, .v (.one (dI a0))), (1, .v (.one (dI a1))), (4, .v (.one (.ptr 0 0))), (6, .v (.one (dB v1)))], [(0, .cells 24 [dI 0, dN])], [], 1, 27, []⟩) (fun (v1 : Bool) => (cond v1
      (some ((⟨0, ([] : List LV)⟩ : Lvl), 2))
      (cond (decide (100 < a1))
      (some ((⟨0, ([] : List LV)⟩ : Lvl), 15))
      (some ((⟨0, [(a0, a1)]⟩ : Lvl), 0)))) = some r) ?_ ?_
  ·
   refine bindK h0 (fun v_ h1 h0 => ?_)
   refine XC.region <| rM rfl rfl rfl <| rR rfl rfl rfl (RO.binInt rfl rfl rfl) <| rM rfl rfl rfl ?_
   refine XL.case (d := 9) (c := (decide (a0 < (-65536)))) rfl (fun c2 => ?_) (fun c2 => ?_)
   ·
    replace h1 := condT c2 h1
    refine XL.no rfl rfl <| XL.no rfl rfl <| rR rfl rfl rfl (RO.pickT rfl rfl) <| rM rfl rfl rfl <| XL.no rfl rfl <| XL.no rfl rfl <| rR rfl rfl rfl (RO.pickT rfl rfl) <| rA rfl rfl rfl <| XL.nil ?_
    have e_ := Option.some.inj h1
    subst e_
    exact XQ.joinR true (stle (tR rfl (tR rfl (tR rfl (tR rfl tZ)))) (hR rfl hZ) kZ rfl (Nat.zero_le _) rfl rfl rfl (bB rfl rfl bZ) rfl rfl) h0
   ·
    replace h1 := condF c2 h1
    refine rM rfl rfl rfl <| rR rfl rfl rfl (RO.binInt rfl rfl rfl) <| rR rfl rfl rfl (RO.pickF rfl rfl) <| rM rfl rfl rfl ?_
    refine XL.case (d := 13) (c := (decide (7 < a0))) rfl (fun c3 => ?_) (fun c3 => ?_)
    ·
     replace h1 := condT c3 h1
     refine XL.no rfl rfl <| XL.no rfl rfl <| rR rfl rfl rfl (RO.pickT rfl rfl) <| rA rfl rfl rfl <| XL.nil ?_
     have e_ := Option.some.inj h1
     subst e_
     exact XQ.joinR true (stle (tR rfl (tR rfl (tR rfl (tR rfl tZ)))) (hR rfl hZ) kZ rfl (Nat.zero_le _) rfl rfl rfl (bB rfl rfl bZ) rfl rfl) h0
    ·
     replace h1 := condF c3 h1
     refine rM rfl rfl rfl <| rR rfl rfl rfl (RO.binInt rfl rfl rfl) <| rR rfl rfl rfl (RO.pickF rfl rfl) <| rA rfl rfl rfl <| XL.nil ?_
     have e_ := Option.some.inj h1
     subst e_
     exact XQ.joinR (decide (a1 < 0)) (stle (tR rfl (tR rfl (tR rfl (tR rfl tZ)))) (hR rfl hZ) kZ rfl (Nat.zero_le _) rfl rfl rfl (bB rfl rfl bZ) rfl rfl) h0
  ·
   intro v1 h0
   refine XQ.seq ?_
   refine XC.cond (b := v1) rfl (fun c4 => ?_) (fun c4 => ?_)
   ·
    replace h0 := condT c4 h0
    refine XC.seq <| XC.region <| rR rfl rfl rfl (RO.build0 bd_24 rfl ) <| XL.eff rfl rfl (OpOK.store ag_24 rfl rfl rfl rfl (lb rfl) rfl) <| rA rfl rfl rfl <| XL.nil <| XQ.seq <| XC.ret ?_
    have e_ := Option.some.inj h0
    subst e_
    exact XQ.retF (fun _ _ h => h) rfl (RAs.agg ag_24 rfl rfl rfl rfl (RAs.tmp rfl .nil)) (.cons (.agg (.cons (.d _) (.cons (.nil _) .nil))) (.cons (.one (.d _)) .nil))
   ·
    replace h0 := condF c4 h0
    refine XC.seq <| XC.region <| rM rfl rfl rfl <| rR rfl rfl rfl (RO.binInt rfl rfl rfl) <| rA rfl rfl rfl <| XL.nil <| XQ.seq ?_
    refine XC.cond (b := (decide (100 < a1))) rfl (fun c5 => ?_) (fun c5 => ?_)
    ·
     replace h0 := condT c5 h0
     refine XC.seq <| XC.region <| rR rfl rfl rfl (RO.build0 bd_24 rfl ) <| XL.eff rfl rfl (OpOK.store ag_24 rfl rfl rfl rfl (lb rfl) rfl) <| rA rfl rfl rfl <| XL.nil <| XQ.seq <| XC.ret ?_
     have e_ := Option.some.inj h0
     subst e_
     exact XQ.retF (fun _ _ h => h) rfl (RAs.agg ag_24 rfl rfl rfl rfl (RAs.tmp rfl .nil)) (.cons (.agg (.cons (.d _) (.cons (.nil _) .nil))) (.cons (.one (.d _)) .nil))
    ·
     replace h0 := condF c5 h0
     refine XC.skip <| XQ.inBlock <| XQ.seq <| XC.seq <| XC.region <| rM rfl rfl rfl <| rM rfl rfl rfl <| rR rfl rfl rfl (RO.build2 bd_69 rfl rfl rfl rfl) <| XL.put rfl rfl (lb rfl) (OpOK.lit1E (α := LV) ((a0, a1)) sl_22 z_69 rfl rfl (lb rfl) (lb rfl) rfl rfl (.cons (.d _) (.cons (.d _) .nil)) rfl) <| rR rfl rfl rfl (RO.build1 bd_24 rfl rfl rfl) <| XL.eff rfl rfl (OpOK.store ag_24 rfl rfl rfl rfl (lb rfl) rfl) <| rA rfl rfl rfl <| XL.nil <| XQ.seq ?_
     refine XC.ret ?_
     have e_ := Option.some.inj h0
     subst e_
     exact XQ.retF (fun _ _ h => h) rfl (RAs.agg ag_24 rfl rfl rfl rfl (RAs.tmp rfl .nil)) (.cons (.agg (.cons (.d _) (.cons (.app _ _ _) .nil))) (.cons (.one (.d _)) .nil))

/-- euclid/euclidref01.Var -/
def m18 (a0 : Int) (a1 : Int) : Option (Lvl × Int) :=
  Option.bind (cond (decide (a0 < (-65536)))
    (some true)
    (cond (decide (8 ≤ a0))
    (some true)
    (some (decide (a1 < 0))))) (fun (v1 : Bool) => cond v1
    (some ((⟨0, ([] : List LV)⟩ : Lvl), 2))
    (cond (decide (100 < a1))
    (some ((⟨0, ([] : List LV)⟩ : Lvl), 15))
    (some ((⟨0, [(a0, a1)]⟩ : Lvl), 0))))

set_option maxRecDepth 100000 in
set_option maxHeartbeats 8000000 in
theorem m18_ok (a0 : Int) (a1 : Int) (r : Lvl × Int) (h0 : m18 a0 a1 = some r) : Fun Tryz.prog 18 [.one (dI a0), .one (dI a1)] (resOf [.agg (cE r.1), .one (dI r.2)]) := by
  unfold m18 at h0
  refine Fun.of_bodyM 9 25 Tryz.func18 rfl en_18 rfl (lb rfl) (fun S w => ?_)
  simp only [entry]
  refine XC.seq <| XC.region <| XL.put rfl rfl (lb rfl) (OpOK.alloc z_24 rfl) <| rA rfl rfl rfl <| XL.nil <| XQ.seq <| XC.seq <| XC.seq ?_
  refine XC.joinR (fun (v1 : Bool) => ⟨[(0, .v (.one (dI a0))), (1, .v (.one (dI a1))), (4, .v (.one (.ptr 0 0))), (15, .v (.one (dB v1)))], [(0, .cells 24 [dI 0, dN])], [], 1, 25, []⟩) (fun (v1 : Bool) => (cond v1
      (some ((⟨0, ([] : List LV)⟩ : Lvl), 2))
      (cond (decide (100 < a1))
      (some ((⟨0, ([] : List LV)⟩ : Lvl), 15))
      (some ((⟨0, [(a0, a1)]⟩ : Lvl), 0)))) = some r) ?_ ?_
  ·
   refine bindK h0 (fun v_ h1 h0 => ?_)
   refine XC.region <| rM rfl rfl rfl <| rR rfl rfl rfl (RO.binInt rfl rfl rfl) <| rM rfl rfl rfl ?_
   refine XL.case (d := 8) (c := (decide (a0 < (-65536)))) rfl (fun c2 => ?_) (fun c2 => ?_)
   ·
    replace h1 := condT c2 h1
    refine XL.no rfl rfl <| XL.no rfl rfl <| rR rfl rfl rfl (RO.pickT rfl rfl) <| rM rfl rfl rfl <| XL.no rfl rfl <| XL.no rfl rfl <| rR rfl rfl rfl (RO.pickT rfl rfl) <| XL.nil ?_
    have e_ := Option.some.inj h1
    subst e_
    exact XQ.joinR true (stle (tR rfl (tR rfl (tR rfl (tR rfl tZ)))) (hR rfl hZ) kZ rfl (Nat.zero_le _) rfl rfl rfl (bB rfl rfl bZ) rfl rfl) h0
   ·
    replace h1 := condF c2 h1
    refine rM rfl rfl rfl <| rR rfl rfl rfl (RO.binInt rfl rfl rfl) <| rR rfl rfl rfl (RO.pickF rfl rfl) <| rM rfl rfl rfl ?_
    refine XL.case (d := 12) (c := (decide (8 ≤ a0))) rfl (fun c3 => ?_) (fun c3 => ?_)
    ·
     replace h1 := condT c3 h1
     refine XL.no rfl rfl <| XL.no rfl rfl <| rR rfl rfl rfl (RO.pickT rfl rfl) <| XL.nil ?_
     have e_ := Option.some.inj h1
     subst e_
     exact XQ.joinR true (stle (tR rfl (tR rfl (tR rfl (tR rfl tZ)))) (hR rfl hZ) kZ rfl (Nat.zero_le _) rfl rfl rfl (bB rfl rfl bZ) rfl rfl) h0
    ·
     replace h1 := condF c3 h1
     refine rM rfl rfl rfl <| rR rfl rfl rfl (RO.binInt rfl rfl rfl) <| rR rfl rfl rfl (RO.pickF rfl rfl) <| XL.nil ?_
     have e_ := Option.some.inj h1
     subst e_
     exact XQ.joinR (decide (a1 < 0)) (stle (tR rfl (tR rfl (tR rfl (tR rfl tZ)))) (hR rfl hZ) kZ rfl (Nat.zero_le _) rfl rfl rfl (bB rfl rfl bZ) rfl rfl) h0
  ·
   intro v1 h0
   refine XQ.seq ?_
   refine XC.cond (b := v1) rfl (fun c4 => ?_) (fun c4 => ?_)
   ·
    replace h0 := condT c4 h0
    refine XC.seq <| XC.region <| rR rfl rfl rfl (RO.build0 bd_24 rfl ) <| XL.eff rfl rfl (OpOK.store ag_24 rfl rfl rfl rfl (lb rfl) rfl) <| rA rfl rfl rfl <| XL.nil <| XQ.seq <| XC.ret ?_
    have e_ := Option.some.inj h0
    subst e_
    exact XQ.retF (fun _ _ h => h) rfl (RAs.agg ag_24 rfl rfl rfl rfl (RAs.tmp rfl .nil)) (.cons (.agg (.cons (.d _) (.cons (.nil _) .nil))) (.cons (.one (.d _)) .nil))
   ·
    replace h0 := condF c4 h0
    refine XC.skip <| XQ.seq <| XC.seq <| XC.seq <| XC.region <| rM rfl rfl rfl <| rR rfl rfl rfl (RO.binInt rfl rfl rfl) <| XL.nil <| XQ.seq ?_
    refine XC.cond (b := (decide (100 < a1))) rfl (fun c5 => ?_) (fun c5 => ?_)
    ·
     replace h0 := condT c5 h0
     refine XC.seq <| XC.region <| rR rfl rfl rfl (RO.build0 bd_24 rfl ) <| XL.eff rfl rfl (OpOK.store ag_24 rfl rfl rfl rfl (lb rfl) rfl) <| rA rfl rfl rfl <| XL.nil <| XQ.seq <| XC.ret ?_
     have e_ := Option.some.inj h0
     subst e_
     exact XQ.retF (fun _ _ h => h) rfl (RAs.agg ag_24 rfl rfl rfl rfl (RAs.tmp rfl .nil)) (.cons (.agg (.cons (.d _) (.cons (.nil _) .nil))) (.cons (.one (.d _)) .nil))
    ·
     replace h0 := condF c5 h0
     refine XC.skip <| XQ.seq <| XC.seq <| XC.region <| rM rfl rfl rfl <| rM rfl rfl rfl <| rR rfl rfl rfl (RO.build2 bd_69 rfl rfl rfl rfl) <| XL.put rfl rfl (lb rfl) (OpOK.lit1E (α := LV) ((a0, a1)) sl_22 z_69 rfl rfl (lb rfl) (lb rfl) rfl rfl (.cons (.d _) (.cons (.d _) .nil)) rfl) <| rR rfl rfl rfl (RO.build1 bd_24 rfl rfl rfl) <| XL.eff rfl rfl (OpOK.store ag_24 rfl rfl rfl rfl (lb rfl) rfl) <| rA rfl rfl rfl <| XL.nil <| XQ.seq <| XC.ret ?_
     have e_ := Option.some.inj h0
     subst e_
     exact XQ.retF (fun _ _ h => h) rfl (RAs.agg ag_24 rfl rfl rfl rfl (RAs.tmp rfl .nil)) (.cons (.agg (.cons (.d _) (.cons (.app _ _ _) .nil))) (.cons (.one (.d _)) .nil))
end Go.Proofs.YtcapifnaceegmaaGreatDoor
