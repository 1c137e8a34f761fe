/- Mirrors of layer 2: awake. -/
import Derived.Test.YtkimijmiphkddaaAw
namespace Go.Proofs.Ytkimijmiphkddaa
open Go.RowKit Go.Shelf
set_option linter.unusedSimpArgs false
set_option linter.unusedVariables false

theorem bd_41 : IsStruct Try.prog 41 [(0, 2), (2, 2)] [.int .i64 0, .slice none 0 0, .int .i64 0, .slice none 0 0] := ⟨by kernel_rfl, by kernel_rfl⟩
theorem ip_59 : isPairTy Try.prog 59 = true := by kernel_rfl
theorem el_41 : tyElem Try.prog 41 = some (4, 64) := by kernel_rfl
theorem en_12 : Enters Try.prog 12 := enters_of Try.func12 (by kernel_rfl) rfl
theorem en_17 : Enters Try.prog 17 := enters_of Try.func17 (by kernel_rfl) rfl
theorem en_33 : Enters Try.prog 33 := enters_of Try.func33 (by kernel_rfl) rfl
def m33_l0 (a0 : Lvl) (a1 : Lvl) (s1 : Int) : Option (LO Int (Unit ⊕ Bool)) :=
  cond (decide (s1 < (a0.vs.length : Int)))
    (Option.bind (idx a0.vs s1) fun (x5 : LV) =>
  Option.bind (idx a1.vs s1) fun (x6 : LV) =>
  cond (!((x5.1 == x6.1) && (x5.2 == x6.2)))
    (some (.done (.inr false)))
    (some (.next (w64 (s1 + 1)))))
    (some (.done (.inl ())))

/-- euclid/euclidref01.Same -/
def m33 (a0 : Lvl) (a1 : Lvl) : Option Bool :=
  Option.bind (cond (a0.c != a1.c)
    (some true)
    (some ((a0.vs.length : Int) != (a1.vs.length : Int)))) (fun (v1 : Bool) => cond v1
    (some false)
    (Option.bind (loopN (m33_l0 a0 a1) FUEL 0) (Sum.elim (fun (o3 : Unit) => some true) (fun o => some o))))

set_option maxRecDepth 100000 in
set_option maxHeartbeats 8000000 in
theorem m33_ok (a0 : Lvl) (a1 : Lvl) (r : Bool) (h0 : m33 a0 a1 = some r) : Fun Try.prog 33 [.agg (cE a0), .agg (cE a1)] (resOf [.one (dB r)]) := by
  unfold m33 at h0
  refine Fun.of_bodyM 9 38 Try.func33 rfl en_33 rfl (lb rfl) (fun S w => ?_)
  simp only [entry]
  refine XC.seq <| XC.region <| XL.put rfl rfl (lb rfl) (OpOK.box rfl) <| XL.put rfl rfl (lb rfl) (OpOK.box rfl) <| rA rfl rfl rfl <| XL.nil <| XQ.seq <| XC.seq <| XC.seq ?_
  refine XC.joinR (fun (v1 : Bool) => ⟨[(2, .v (.one (.ptr 0 0))), (3, .v (.one (.ptr 1 0))), (19, .v (.one (dB v1)))], [(0, .cells 39 (cE a0)), (1, .cells 39 (cE a1))], [], 2, 38, []⟩) (fun (v1 : Bool) => (cond v1
      (some false)
      (Option.bind (loopN (m33_l0 a0 a1) FUEL 0) (Sum.elim (fun (o3 : Unit) => some true) (fun o => some o)))) = some r) ?_ ?_
  ·
   refine bindK h0 (fun v_ h1 h0 => ?_)
   refine XC.region <| rR rfl rfl rfl (RO.fieldOwn fo_39_0 rfl) <| rR rfl rfl rfl (RO.loadOwn ag_3 rfl rfl rfl) <| rR rfl rfl rfl (RO.fieldOwn fo_39_0 rfl) <| rR rfl rfl rfl (RO.loadOwn ag_3 rfl rfl rfl) <| rR rfl rfl rfl (RO.binInt rfl rfl rfl) <| rM rfl rfl rfl ?_
   refine XL.case (d := 11) (c := (a0.c != a1.c)) rfl (fun c2 => ?_) (fun c2 => ?_)
   ·
    replace h1 := condT c2 h1
    refine XL.no rfl rfl <| XL.no rfl rfl <| XL.no rfl rfl <| XL.no rfl rfl <| XL.no rfl rfl <| XL.no rfl rfl <| XL.no rfl rfl <| rR rfl rfl rfl (RO.pickT rfl rfl) <| XL.nil ?_
    have e_ := Option.some.inj h1
    subst e_
    exact XQ.joinR true (stle (tR rfl (tR rfl (tR rfl tZ))) (hR rfl (hR rfl hZ)) kZ rfl (Nat.zero_le _) rfl rfl rfl (bB rfl rfl (bB rfl rfl bZ)) rfl rfl) h0
   ·
    replace h1 := condF c2 h1
    refine rR rfl rfl rfl (RO.fieldOwn fo_39_1 rfl) <| rR rfl rfl rfl (RO.loadOwn ag_37 rfl rfl rfl) <| rR rfl rfl rfl (RO.lenE (α := LV) sl_37 rfl (.d _)) <| rR rfl rfl rfl (RO.fieldOwn fo_39_1 rfl) <| rR rfl rfl rfl (RO.loadOwn ag_37 rfl rfl rfl) <| rR rfl rfl rfl (RO.lenE (α := LV) sl_37 rfl (.d _)) <| rR rfl rfl rfl (RO.binInt rfl rfl rfl) <| rR rfl rfl rfl (RO.pickF rfl rfl) <| XL.nil ?_
    have e_ := Option.some.inj h1
    subst e_
    exact XQ.joinR ((a0.vs.length : Int) != (a1.vs.length : Int)) (stle (tR rfl (tR rfl (tR rfl tZ))) (hR rfl (hR rfl hZ)) kZ rfl (Nat.zero_le _) rfl rfl rfl (bB rfl rfl (bB rfl rfl bZ)) rfl rfl) h0
  ·
   intro v1 h0
   refine XQ.seq ?_
   refine XC.cond (b := v1) rfl (fun c3 => ?_) (fun c3 => ?_)
   ·
    replace h0 := condT c3 h0
    refine XC.seq <| XC.region <| rA rfl rfl rfl <| XL.nil <| XQ.seq <| XC.ret ?_
    have e_ := Option.some.inj h0
    subst e_
    exact XQ.retF (fun _ _ h => h) rfl (RAs.tmp rfl .nil) (.cons (.one (.d _)) .nil)
   ·
    replace h0 := condF c3 h0
    refine XC.skip <| XQ.seq <| XC.seq <| XC.seq <| XC.region <| rA rfl rfl rfl <| XL.nil <| XQ.seq <| XC.block ?_
    refine XC.joinX 0 (fun (o4 : Unit) => ⟨[], [(0, .cells 39 (cE a0)), (1, .cells 39 (cE a1))], [], 2, 38, []⟩) (fun (o4 : Unit) => (some true) = some r) ?_ ?_
    ·
     refine bindK h0 (fun o5 hl1 h0 => ?_)
     refine XC.loopM (m33_l0 a0 a1) (fun s1 => ⟨[(2, .v (.one (.ptr 0 0))), (3, .v (.one (.ptr 1 0))), (5, .v (.one (dI s1)))], [(0, .cells 39 (cE a0)), (1, .cells 39 (cE a1))], [], 2, 38, []⟩) 0 o5 (stle (tR rfl (tR rfl (tR rfl tZ))) (hR rfl (hR rfl hZ)) kZ rfl (Nat.zero_le _) rfl rfl rfl (bB rfl rfl (bB rfl rfl bZ)) rfl rfl) hl1 (fun s1 n1 oo1 h1 ho1 => ?_)
     unfold m33_l0 at h1
     refine XC.seq <| XC.seq <| XC.region <| rM rfl rfl rfl <| rR rfl rfl rfl (RO.fieldOwn fo_39_1 rfl) <| rR rfl rfl rfl (RO.loadOwn ag_37 rfl rfl rfl) <| rR rfl rfl rfl (RO.lenE (α := LV) sl_37 rfl (.d _)) <| rR rfl rfl rfl (RO.binInt rfl rfl rfl) <| XL.nil <| XQ.seq ?_
     refine XC.cond (b := (decide (s1 < (a0.vs.length : Int)))) rfl (fun c6 => ?_) (fun c6 => ?_)
     ·
      replace h1 := condT c6 h1
      refine XC.skip <| XQ.seq <| XC.seq <| XC.block <| XC.seq ?_
      refine XC.anyRun [] [] mixed (by kernel_rfl) (by kernel_rfl) (by kernel_rfl) ?_
      refine RunA.rd rfl rfl rfl (OpOK.of_ro (RO.fieldOwn fo_39_1 rfl)) rfl <| RunA.rd rfl rfl rfl (OpOK.of_ro (RO.loadOwn ag_37 rfl rfl rfl)) rfl <| RunA.rd rfl rfl rfl (OpOK.of_ro (RO.move rfl)) rfl ?_
      refine bindK h1 (fun x7 hx7 h1 => ?_)
      refine RunA.rd rfl rfl rfl (OpOK.of_ro (RO.indexE (α := LV) sl_37 rfl (.d _) rfl hx7)) rfl <| RunA.rd rfl rfl rfl (OpOK.of_ro (RO.loadPelAgg ag_59 rfl rfl rfl)) rfl <| RunA.rd rfl rfl rfl (OpOK.of_ro (RO.fieldOwn fo_39_1 rfl)) rfl <| RunA.rd rfl rfl rfl (OpOK.of_ro (RO.loadOwn ag_37 rfl rfl rfl)) rfl <| RunA.rd rfl rfl rfl (OpOK.of_ro (RO.move rfl)) rfl ?_
      refine bindK h1 (fun x8 hx8 h1 => ?_)
      refine RunA.rd rfl rfl rfl (OpOK.of_ro (RO.indexE (α := LV) sl_37 rfl (.d _) rfl hx8)) rfl <| RunA.rd rfl rfl rfl (OpOK.of_ro (RO.loadPelAgg ag_59 rfl rfl rfl)) rfl <| RunA.rd rfl rfl rfl (OpOK.of_ro (RO.neqPair ip_59 rfl rfl)) rfl ?_
      refine RunA.nil ⟨?ex, _, _, rfl, ?_⟩
      case ex => exact trivial
      refine XQ.less (st' := ⟨[(2, .v (.one (.ptr 0 0))), (3, .v (.one (.ptr 1 0))), (5, .v (.one (dI s1))), (37, .v (.one (dB (!((x7.1 == x8.1) && (x7.2 == x8.2))))))], [(0, .cells 39 (cE a0)), (1, .cells 39 (cE a1))], [], 2, 38, []⟩) (stle (tR rfl (tR rfl (tR rfl (tR rfl tZ)))) (hR rfl (hR rfl hZ)) kZ rfl (Nat.zero_le _) rfl rfl rfl (bB rfl rfl (bB rfl rfl bZ)) rfl rfl) <| XQ.seq ?_
      refine XC.cond (b := (!((x7.1 == x8.1) && (x7.2 == x8.2)))) rfl (fun c9 => ?_) (fun c9 => ?_)
      ·
       replace h1 := condT c9 h1
       refine XC.seq <| XC.region <| rA rfl rfl rfl <| XL.nil <| XQ.seq <| XC.ret ?_
       have e_ := Option.some.inj h1
       subst e_
       have e_ : _ = _ := ho1
       subst e_
       try dsimp only [Sum.elim_inl, Sum.elim_inr] at h0
       have e_ := Option.some.inj h0
       subst e_
       exact XQ.retF (fun _ _ h => h) rfl (RAs.tmp rfl .nil) (.cons (.one (.d _)) .nil)
      ·
       replace h1 := condF c9 h1
       refine XC.skip <| XQ.inBlock <| XQ.seq <| XC.region <| rM rfl rfl rfl <| rR rfl rfl rfl (RO.binInt rfl rfl rfl) <| rA rfl rfl rfl <| XL.nil ?_
       have e_ := Option.some.inj h1
       subst e_
       refine XQ.nextM (w64 (s1 + 1)) (stle (tR rfl (tR rfl (tR rfl tZ))) (hR rfl (hR rfl hZ)) kZ rfl (Nat.zero_le _) rfl rfl rfl (bB rfl rfl (bB rfl rfl bZ)) rfl rfl) ho1
     ·
      replace h1 := condF c6 h1
      refine XC.exit <| XQ.thenE <| XQ.thenE ?_
      have e_ := Option.some.inj h1
      subst e_
      have e_ : _ = _ := ho1
      subst e_
      exact XQ.joinX () (stle tZ (hR rfl (hR rfl hZ)) kZ rfl (Nat.zero_le _) rfl rfl rfl (bB rfl rfl (bB rfl rfl bZ)) rfl rfl) h0
    ·
     intro o4 h0
     refine XQ.blockX <| XQ.seq <| XC.seq <| XC.region <| rA rfl rfl rfl <| XL.nil <| XQ.seq <| XC.ret ?_
     have e_ := Option.some.inj h0
     subst e_
     exact XQ.retF (fun _ _ h => h) rfl (RAs.tmp rfl .nil) (.cons (.one (.d _)) .nil)

def m17_l0 (a0 : List Lvl) (a1 : List Lvl) (s1 : Int) : Option (LO Int (Unit ⊕ Bool)) :=
  cond (decide (s1 < (a0.length : Int)))
    (Option.bind (idx a0 s1) fun (x4 : Lvl) =>
  Option.bind (idx a1 s1) fun (x5 : Lvl) =>
  Option.bind (m33 x4 x5) fun (x6 : Bool) =>
  cond (!x6)
    (some (.done (.inr false)))
    (some (.next (w64 (s1 + 1)))))
    (some (.done (.inl ())))

/-- euclid/euclidref02.Same -/
def m17 (a0 : List Lvl) (a1 : List Lvl) : Option Bool :=
  cond ((a0.length : Int) != (a1.length : Int))
    (some false)
    (Option.bind (loopN (m17_l0 a0 a1) FUEL 0) (Sum.elim (fun (o2 : Unit) => some true) (fun o => some o)))

set_option maxRecDepth 100000 in
set_option maxHeartbeats 8000000 in
theorem m17_ok (a0 : List Lvl) (a1 : List Lvl) (r : Bool) (h0 : m17 a0 a1 = some r) : Fun Try.prog 17 [.one (dS a0), .one (dS a1)] (resOf [.one (dB r)]) := by
  unfold m17 at h0
  refine Fun.of_bodyM 9 27 Try.func17 rfl en_17 rfl (lb rfl) (fun S w => ?_)
  simp only [entry]
  refine XC.seq <| XC.region <| rA rfl rfl rfl <| XL.nil <| XQ.seq <| XC.seq <| XC.seq <| XC.region <| rM rfl rfl rfl <| rR rfl rfl rfl (RO.lenE (α := Lvl) sl_31 rfl (.d _)) <| rM rfl rfl rfl <| rR rfl rfl rfl (RO.lenE (α := Lvl) sl_31 rfl (.d _)) <| rR rfl rfl rfl (RO.binInt rfl rfl rfl) <| XL.nil ?_
  refine XQ.seq ?_
  refine XC.cond (b := ((a0.length : Int) != (a1.length : Int))) rfl (fun c1 => ?_) (fun c1 => ?_)
  ·
   replace h0 := condT c1 h0
   refine XC.seq <| XC.region <| rA rfl rfl rfl <| XL.nil <| XQ.seq <| XC.ret ?_
   have e_ := Option.some.inj h0
   subst e_
   exact XQ.retF (fun _ _ h => h) rfl (RAs.tmp rfl .nil) (.cons (.one (.d _)) .nil)
  ·
   replace h0 := condF c1 h0
   refine XC.skip <| XQ.seq <| XC.seq <| XC.seq <| XC.region <| rA rfl rfl rfl <| XL.nil <| XQ.seq <| XC.block ?_
   refine XC.joinX 0 (fun (o2 : Unit) => ⟨[], [], [], 0, 27, []⟩) (fun (o2 : Unit) => (some true) = some r) ?_ ?_
   ·
    refine bindK h0 (fun o3 hl1 h0 => ?_)
    refine XC.loopM (m17_l0 a0 a1) (fun s1 => ⟨[(0, .v (.one (dS a0))), (1, .v (.one (dS a1))), (5, .v (.one (dI s1)))], [], [], 0, 27, []⟩) 0 o3 (stle (tR rfl (tR rfl (tR rfl tZ))) hZ kZ rfl (Nat.zero_le _) rfl rfl rfl bZ rfl rfl) hl1 (fun s1 n1 oo1 h1 ho1 => ?_)
    unfold m17_l0 at h1
    refine XC.seq <| XC.seq <| XC.region <| rM rfl rfl rfl <| rM rfl rfl rfl <| rR rfl rfl rfl (RO.lenE (α := Lvl) sl_31 rfl (.d _)) <| rR rfl rfl rfl (RO.binInt rfl rfl rfl) <| XL.nil <| XQ.seq ?_
    refine XC.cond (b := (decide (s1 < (a0.length : Int)))) rfl (fun c4 => ?_) (fun c4 => ?_)
    ·
     replace h1 := condT c4 h1
     refine XC.skip <| XQ.seq <| XC.seq <| XC.block <| XC.seq ?_
     refine XC.anyRun [] [] mixed (by kernel_rfl) (by kernel_rfl) (by kernel_rfl) ?_
     refine RunA.rd rfl rfl rfl (OpOK.of_ro (RO.move rfl)) rfl <| RunA.rd rfl rfl rfl (OpOK.of_ro (RO.move rfl)) rfl ?_
     refine bindK h1 (fun x5 hx5 h1 => ?_)
     refine RunA.rd rfl rfl rfl (OpOK.of_ro (RO.indexE (α := Lvl) sl_31 rfl (.d _) rfl hx5)) rfl <| RunA.rd rfl rfl rfl (OpOK.of_ro (RO.loadPelAgg ag_39 rfl rfl rfl)) rfl <| RunA.rd rfl rfl rfl (OpOK.of_ro (RO.move rfl)) rfl <| RunA.rd rfl rfl rfl (OpOK.of_ro (RO.move rfl)) rfl ?_
     refine bindK h1 (fun x6 hx6 h1 => ?_)
     refine RunA.rd rfl rfl rfl (OpOK.of_ro (RO.indexE (α := Lvl) sl_31 rfl (.d _) rfl hx6)) rfl <| RunA.rd rfl rfl rfl (OpOK.of_ro (RO.loadPelAgg ag_39 rfl rfl rfl)) rfl ?_
     refine bindK h1 (fun x7 hx7 h1 => ?_)
     refine RunA.rd rfl rfl rfl (OpOK.callFun (m33_ok x5 x6 x7 hx7) rfl (.cons (.agg (.cons (.d _) (.cons (.d _) .nil))) (.cons (.agg (.cons (.d _) (.cons (.d _) .nil))) .nil))) rfl <| RunA.rd rfl rfl rfl (OpOK.of_ro (RO.not rfl)) rfl ?_
     refine RunA.nil ⟨?ex, _, _, rfl, ?_⟩
     case ex => exact trivial
     refine XQ.less (st' := ⟨[(0, .v (.one (dS a0))), (1, .v (.one (dS a1))), (5, .v (.one (dI s1))), (26, .v (.one (dB (!x7))))], [], [], 0, 27, []⟩) (stle (tR rfl (tR rfl (tR rfl (tR rfl tZ)))) hZ kZ rfl (Nat.zero_le _) rfl rfl rfl bZ rfl rfl) <| XQ.seq ?_
     refine XC.cond (b := (!x7)) rfl (fun c8 => ?_) (fun c8 => ?_)
     ·
      replace h1 := condT c8 h1
      refine XC.seq <| XC.region <| rA rfl rfl rfl <| XL.nil <| XQ.seq <| XC.ret ?_
      have e_ := Option.some.inj h1
      subst e_
      have e_ : _ = _ := ho1
      subst e_
      try dsimp only [Sum.elim_inl, Sum.elim_inr] at h0
      have e_ := Option.some.inj h0
      subst e_
      exact XQ.retF (fun _ _ h => h) rfl (RAs.tmp rfl .nil) (.cons (.one (.d _)) .nil)
     ·
      replace h1 := condF c8 h1
      refine XC.skip <| XQ.inBlock <| XQ.seq <| XC.region <| rM rfl rfl rfl <| rR rfl rfl rfl (RO.binInt rfl rfl rfl) <| rA rfl rfl rfl <| XL.nil ?_
      have e_ := Option.some.inj h1
      subst e_
      refine XQ.nextM (w64 (s1 + 1)) (stle (tR rfl (tR rfl (tR rfl tZ))) hZ kZ rfl (Nat.zero_le _) rfl rfl rfl bZ rfl rfl) ho1
    ·
     replace h1 := condF c4 h1
     refine XC.exit <| XQ.thenE <| XQ.thenE ?_
     have e_ := Option.some.inj h1
     subst e_
     have e_ : _ = _ := ho1
     subst e_
     exact XQ.joinX () (stle tZ hZ kZ rfl (Nat.zero_le _) rfl rfl rfl bZ rfl rfl) h0
   ·
    intro o2 h0
    refine XQ.blockX <| XQ.seq <| XC.seq <| XC.region <| rA rfl rfl rfl <| XL.nil <| XQ.seq <| XC.ret ?_
    have e_ := Option.some.inj h0
    subst e_
    exact XQ.retF (fun _ _ h => h) rfl (RAs.tmp rfl .nil) (.cons (.one (.d _)) .nil)

/-- euclid/euclidlaw02.awake -/
def m12  : Option Bool :=
  Option.bind (m15 2 ([(⟨(⟨0, [(0, 0)]⟩ : Lvl), (⟨0, [((-1), 0)]⟩ : Lvl)⟩ : Bnd), (⟨(⟨2, ([] : List LV)⟩ : Lvl), (⟨0, [((-1), 1)]⟩ : Lvl)⟩ : Bnd), (⟨(⟨0, [((-1), 1)]⟩ : Lvl), (⟨0, [((-2), 0)]⟩ : Lvl)⟩ : Bnd)])) fun (x1 : (List Lvl) × Int × Int) =>
  guardO (Nat.ble (([] : List Bnd).length + ([(⟨(⟨0, [(0, 0)]⟩ : Lvl), (⟨0, [((-1), 0)]⟩ : Lvl)⟩ : Bnd), (⟨(⟨2, ([] : List LV)⟩ : Lvl), (⟨0, [((-1), 1)]⟩ : Lvl)⟩ : Bnd), (⟨(⟨0, [((-1), 1)]⟩ : Lvl), (⟨0, [((-2), 0)]⟩ : Lvl)⟩ : Bnd)]).length) 1000000000)
  (guardO (Nat.ble ((([] : List Bnd) ++ ([(⟨(⟨0, [(0, 0)]⟩ : Lvl), (⟨0, [((-1), 0)]⟩ : Lvl)⟩ : Bnd), (⟨(⟨2, ([] : List LV)⟩ : Lvl), (⟨0, [((-1), 1)]⟩ : Lvl)⟩ : Bnd), (⟨(⟨0, [((-1), 1)]⟩ : Lvl), (⟨0, [((-2), 0)]⟩ : Lvl)⟩ : Bnd)])).length + ([(⟨(⟨0, [((-2), 0)]⟩ : Lvl), (⟨1, ([] : List LV)⟩ : Lvl)⟩ : Bnd)]).length) 1000000000)
  (Option.bind (m15 2 ((([] : List Bnd) ++ ([(⟨(⟨0, [(0, 0)]⟩ : Lvl), (⟨0, [((-1), 0)]⟩ : Lvl)⟩ : Bnd), (⟨(⟨2, ([] : List LV)⟩ : Lvl), (⟨0, [((-1), 1)]⟩ : Lvl)⟩ : Bnd), (⟨(⟨0, [((-1), 1)]⟩ : Lvl), (⟨0, [((-2), 0)]⟩ : Lvl)⟩ : Bnd)])) ++ ([(⟨(⟨0, [((-2), 0)]⟩ : Lvl), (⟨1, ([] : List LV)⟩ : Lvl)⟩ : Bnd)]))) fun (x4 : (List Lvl) × Int × Int) =>
  Option.bind (m15 1 ([(⟨(⟨0, [((-1), 1)]⟩ : Lvl), (⟨0, [((-1), 0)]⟩ : Lvl)⟩ : Bnd)])) fun (x5 : (List Lvl) × Int × Int) =>
  Option.bind (cond (x1.2.2 == 0)
    (Option.bind (m17 x1.1 ([(⟨1, [(0, 0)]⟩ : Lvl), (⟨2, [(0, 1)]⟩ : Lvl)])) fun (x8 : Bool) =>
  cond x8
    (cond (x4.2.1 == 3)
    (cond (x4.2.2 == 15)
    (cond (x5.2.1 == 0)
    (cond (x5.2.2 == 15)
    (cond (0 == 0)
    (some (0 == 0))
    (some false))
    (some false))
    (some false))
    (some false))
    (some false))
    (some false))
    (some false)) (fun (v6 : Bool) => some v6)))

set_option maxRecDepth 100000 in
set_option maxHeartbeats 8000000 in
theorem m12_ok  (r : Bool) (h0 : m12  = some r) : Fun Try.prog 12 [] (resOf [.one (dB r)]) := by
  unfold m12 at h0
  refine Fun.of_bodyM 9 123 Try.func12 rfl en_12 rfl (lb rfl) (fun S w => ?_)
  simp only [entry]
  refine XC.seq <| XC.region <| rA rfl rfl rfl <| XL.nil <| XQ.seq <| XC.seq <| XC.region ?_
  refine XL.put rfl rfl (lb rfl) (OpOK.callFun (level_fun 0 0) rfl (.cons (.one (.d _)) (.cons (.one (.d _)) .nil))) ?_
  refine XL.put rfl rfl (lb rfl) (OpOK.callFun (level_fun (-1) 0) rfl (.cons (.one (.d _)) (.cons (.one (.d _)) .nil))) ?_
  refine rR rfl rfl rfl (RO.build2 bd_41 rfl rfl rfl rfl) <| rR rfl rfl rfl (RO.build1 bd_39 rfl rfl rfl) ?_
  refine XL.put rfl rfl (lb rfl) (OpOK.callFun (level_fun (-1) 1) rfl (.cons (.one (.d _)) (.cons (.one (.d _)) .nil))) ?_
  refine rR rfl rfl rfl (RO.build2 bd_41 rfl rfl rfl rfl) ?_
  refine XL.put rfl rfl (lb rfl) (OpOK.callFun (level_fun (-1) 1) rfl (.cons (.one (.d _)) (.cons (.one (.d _)) .nil))) ?_
  refine XL.put rfl rfl (lb rfl) (OpOK.callFun (level_fun (-2) 0) rfl (.cons (.one (.d _)) (.cons (.one (.d _)) .nil))) ?_
  refine rR rfl rfl rfl (RO.build2 bd_41 rfl rfl rfl rfl) <| XL.put rfl rfl (lb rfl) (OpOK.data3E (α := Bnd) (⟨(⟨0, [(0, 0)]⟩ : Lvl), (⟨0, [((-1), 0)]⟩ : Lvl)⟩ : Bnd) (⟨(⟨2, ([] : List LV)⟩ : Lvl), (⟨0, [((-1), 1)]⟩ : Lvl)⟩ : Bnd) (⟨(⟨0, [((-1), 1)]⟩ : Lvl), (⟨0, [((-2), 0)]⟩ : Lvl)⟩ : Bnd) sl_22 z_41 rfl rfl (lb rfl) rfl rfl rfl rfl (.cons (.d _) (.cons (.d _) (.cons (.d _) (.cons (.d _) (.cons (.d _) (.cons (.nil _) (.cons (.d _) (.cons (.d _) (.cons (.d _) (.cons (.d _) (.cons (.d _) (.cons (.d _) .nil)))))))))))) ⟨rfl, rfl, rfl⟩) <| rA rfl rfl rfl <| XL.nil <| XQ.seq <| XC.seq <| XC.region <| rM rfl rfl rfl ?_
  refine bindK h0 (fun x1 hx1 h0 => ?_)
  refine XL.put rfl rfl (lb rfl) (OpOK.callFun (m15_ok 2 ([(⟨(⟨0, [(0, 0)]⟩ : Lvl), (⟨0, [((-1), 0)]⟩ : Lvl)⟩ : Bnd), (⟨(⟨2, ([] : List LV)⟩ : Lvl), (⟨0, [((-1), 1)]⟩ : Lvl)⟩ : Bnd), (⟨(⟨0, [((-1), 1)]⟩ : Lvl), (⟨0, [((-2), 0)]⟩ : Lvl)⟩ : Bnd)]) x1 hx1) rfl (.cons (.one (.d _)) (.cons (.one (.d _)) .nil))) <| rM rfl rfl rfl <| rR rfl rfl rfl (RO.extract rfl rfl) <| rR rfl rfl rfl (RO.extract rfl rfl) <| rR rfl rfl rfl (RO.extract rfl rfl) <| rA rfl rfl rfl <| rA rfl rfl rfl <| rA rfl rfl rfl <| XL.nil <| XQ.seq <| XC.seq <| XC.region <| rR rfl rfl rfl (RO.build1 bd_59 rfl rfl rfl) <| XL.put rfl rfl (lb rfl) (OpOK.lit1E (α := LV) ((0, 0)) sl_37 z_59 rfl rfl (lb rfl) (lb rfl) rfl rfl (.cons (.d _) (.cons (.d _) .nil)) rfl) ?_
  refine rR rfl rfl rfl (RO.build2 bd_39 rfl rfl rfl rfl) <| rR rfl rfl rfl (RO.build2 bd_59 rfl rfl rfl rfl) <| XL.put rfl rfl (lb rfl) (OpOK.lit1E (α := LV) ((0, 1)) sl_37 z_59 rfl rfl (lb rfl) (lb rfl) rfl rfl (.cons (.d _) (.cons (.d _) .nil)) rfl) <| rR rfl rfl rfl (RO.build2 bd_39 rfl rfl rfl rfl) <| XL.put rfl rfl (lb rfl) (OpOK.data2E (α := Lvl) (⟨1, [(0, 0)]⟩ : Lvl) (⟨2, [(0, 1)]⟩ : Lvl) sl_31 z_39 rfl rfl (lb rfl) rfl rfl rfl (.cons (.d _) (.cons (.app _ _ _) (.cons (.d _) (.cons (.app _ _ _) .nil)))) ⟨rfl, rfl⟩) <| rA rfl rfl rfl <| XL.nil <| XQ.seq <| XC.seq <| XC.region <| XL.put rfl rfl (lb rfl) (OpOK.lit0E (α := Bnd) sl_22 z_41 rfl rfl (lb rfl)) <| rM rfl rfl rfl ?_
  refine guardK h0 (fun g2 h0 => ?_)
  refine XL.put rfl rfl (lb rfl) (OpOK.appendE (α := Bnd) sl_22 el_41 rfl rfl rfl rfl rfl (.d _) g2) ?_
  refine XL.put rfl rfl (lb rfl) (OpOK.callFun (level_fun (-2) 0) rfl (.cons (.one (.d _)) (.cons (.one (.d _)) .nil))) ?_
  refine rR rfl rfl rfl (RO.build1 bd_39 rfl rfl rfl) <| rR rfl rfl rfl (RO.build2 bd_41 rfl rfl rfl rfl) <| XL.put rfl rfl (lb rfl) (OpOK.lit1E (α := Bnd) ((⟨(⟨0, [((-2), 0)]⟩ : Lvl), (⟨1, ([] : List LV)⟩ : Lvl)⟩ : Bnd)) sl_22 z_41 rfl rfl (lb rfl) (lb rfl) rfl rfl (.cons (.d _) (.cons (.d _) (.cons (.d _) (.cons (.nil _) .nil)))) rfl) ?_
  refine guardK h0 (fun g3 h0 => ?_)
  refine XL.put rfl rfl (lb rfl) (OpOK.appendE (α := Bnd) sl_22 el_41 rfl rfl rfl rfl rfl (.app _ _) g3) ?_
  refine bindK h0 (fun x4 hx4 h0 => ?_)
  refine XL.put rfl rfl (lb rfl) (OpOK.callFun (m15_ok 2 ((([] : List Bnd) ++ ([(⟨(⟨0, [(0, 0)]⟩ : Lvl), (⟨0, [((-1), 0)]⟩ : Lvl)⟩ : Bnd), (⟨(⟨2, ([] : List LV)⟩ : Lvl), (⟨0, [((-1), 1)]⟩ : Lvl)⟩ : Bnd), (⟨(⟨0, [((-1), 1)]⟩ : Lvl), (⟨0, [((-2), 0)]⟩ : Lvl)⟩ : Bnd)])) ++ ([(⟨(⟨0, [((-2), 0)]⟩ : Lvl), (⟨1, ([] : List LV)⟩ : Lvl)⟩ : Bnd)])) x4 hx4) rfl (.cons (.one (.d _)) (.cons (.one (.app _ _ _)) .nil))) <| rM rfl rfl rfl <| rR rfl rfl rfl (RO.extract rfl rfl) <| rR rfl rfl rfl (RO.extract rfl rfl) <| rR rfl rfl rfl (RO.extract rfl rfl) <| rA rfl rfl rfl <| rA rfl rfl rfl <| rA rfl rfl rfl <| XL.nil <| XQ.seq <| XC.seq <| XC.region ?_
  refine XL.put rfl rfl (lb rfl) (OpOK.callFun (level_fun (-1) 1) rfl (.cons (.one (.d _)) (.cons (.one (.d _)) .nil))) ?_
  refine XL.put rfl rfl (lb rfl) (OpOK.callFun (level_fun (-1) 0) rfl (.cons (.one (.d _)) (.cons (.one (.d _)) .nil))) ?_
  refine rR rfl rfl rfl (RO.build2 bd_41 rfl rfl rfl rfl) <| XL.put rfl rfl (lb rfl) (OpOK.lit1E (α := Bnd) ((⟨(⟨0, [((-1), 1)]⟩ : Lvl), (⟨0, [((-1), 0)]⟩ : Lvl)⟩ : Bnd)) sl_22 z_41 rfl rfl (lb rfl) (lb rfl) rfl rfl (.cons (.d _) (.cons (.d _) (.cons (.d _) (.cons (.d _) .nil)))) rfl) ?_
  refine bindK h0 (fun x5 hx5 h0 => ?_)
  refine XL.put rfl rfl (lb rfl) (OpOK.callFun (m15_ok 1 ([(⟨(⟨0, [((-1), 1)]⟩ : Lvl), (⟨0, [((-1), 0)]⟩ : Lvl)⟩ : Bnd)]) x5 hx5) rfl (.cons (.one (.d _)) (.cons (.one (.app _ _ _)) .nil))) <| rM rfl rfl rfl <| rR rfl rfl rfl (RO.extract rfl rfl) <| rR rfl rfl rfl (RO.extract rfl rfl) <| rR rfl rfl rfl (RO.extract rfl rfl) <| rA rfl rfl rfl <| rA rfl rfl rfl <| rA rfl rfl rfl <| XL.nil <| XQ.seq <| XC.seq <| XC.region ?_
  refine XL.put rfl rfl (lb rfl) (OpOK.callFun (level_fun 0 1) rfl (.cons (.one (.d _)) (.cons (.one (.d _)) .nil))) ?_
  refine XL.put rfl rfl (lb rfl) (OpOK.callFun (level_fun 1 0) rfl (.cons (.one (.d _)) (.cons (.one (.d _)) .nil))) ?_
  refine rR rfl rfl rfl (RO.build2 bd_41 rfl rfl rfl rfl) ?_
  refine XL.put rfl rfl (lb rfl) (OpOK.callFun (level_fun 1 0) rfl (.cons (.one (.d _)) (.cons (.one (.d _)) .nil))) ?_
  refine rR rfl rfl rfl (RO.build1 bd_39 rfl rfl rfl) <| rR rfl rfl rfl (RO.build2 bd_41 rfl rfl rfl rfl) <| XL.put rfl rfl (lb rfl) (OpOK.data2E (α := Bnd) (⟨(⟨0, [(0, 1)]⟩ : Lvl), (⟨0, [(1, 0)]⟩ : Lvl)⟩ : Bnd) (⟨(⟨0, [(1, 0)]⟩ : Lvl), (⟨3, ([] : List LV)⟩ : Lvl)⟩ : Bnd) sl_22 z_41 rfl rfl (lb rfl) rfl rfl rfl (.cons (.d _) (.cons (.d _) (.cons (.d _) (.cons (.d _) (.cons (.d _) (.cons (.d _) (.cons (.d _) (.cons (.nil _) .nil)))))))) ⟨rfl, rfl⟩) <| rA rfl rfl rfl <| XL.nil <| XQ.seq <| XC.seq <| XC.region <| rM rfl rfl rfl ?_
  refine XL.put rfl rfl (lb rfl) (OpOK.callFun (level_fun 0 0) rfl (.cons (.one (.d _)) (.cons (.one (.d _)) .nil))) ?_
  refine rR rfl rfl rfl (RO.build1 bd_39 rfl rfl rfl) <| rR rfl rfl rfl (RO.build2 bd_41 rfl rfl rfl rfl) <| XL.put rfl rfl (lb rfl) (OpOK.callFun (ent1) rfl (.cons (.one (.d _)) (.cons (.agg (.cons (.d _) (.cons (.d _) (.cons (.d _) (.cons (.nil _) .nil))))) .nil))) <| rM rfl rfl rfl <| rR rfl rfl rfl (RO.extract rfl rfl) <| rR rfl rfl rfl (RO.extract rfl rfl) <| rA rfl rfl rfl <| rA rfl rfl rfl <| XL.nil <| XQ.seq <| XC.seq <| XC.region <| rM rfl rfl rfl ?_
  refine XL.put rfl rfl (lb rfl) (OpOK.callFun (level_fun 0 0) rfl (.cons (.one (.d _)) (.cons (.one (.d _)) .nil))) ?_
  refine rR rfl rfl rfl (RO.build1 bd_39 rfl rfl rfl) <| rR rfl rfl rfl (RO.build2 bd_41 rfl rfl rfl rfl) <| XL.put rfl rfl (lb rfl) (OpOK.callFun (ent2) rfl (.cons (.one (.d _)) (.cons (.agg (.cons (.d _) (.cons (.d _) (.cons (.d _) (.cons (.nil _) .nil))))) .nil))) <| rM rfl rfl rfl <| rR rfl rfl rfl (RO.extract rfl rfl) <| rR rfl rfl rfl (RO.extract rfl rfl) <| rA rfl rfl rfl <| rA rfl rfl rfl <| XL.nil <| XQ.seq <| XC.seq ?_
  refine XC.joinR (fun (v6 : Bool) => ⟨[(0, .v (.one (dB v6)))], [], [(0, some ⟨59, 2, (Enc.encL ([(0, 0)] : List LV)).length⟩), (1, some ⟨59, 2, (Enc.encL ([(0, 1)] : List LV)).length⟩), (2, some ⟨41, 4, (Enc.encL (((([] : List Bnd) ++ ([(⟨(⟨0, [(0, 0)]⟩ : Lvl), (⟨0, [((-1), 0)]⟩ : Lvl)⟩ : Bnd), (⟨(⟨2, ([] : List LV)⟩ : Lvl), (⟨0, [((-1), 1)]⟩ : Lvl)⟩ : Bnd), (⟨(⟨0, [((-1), 1)]⟩ : Lvl), (⟨0, [((-2), 0)]⟩ : Lvl)⟩ : Bnd)])) ++ ([(⟨(⟨0, [((-2), 0)]⟩ : Lvl), (⟨1, ([] : List LV)⟩ : Lvl)⟩ : Bnd)])) : List Bnd)).length⟩), (3, some ⟨41, 4, (Enc.encL ([(⟨(⟨0, [((-2), 0)]⟩ : Lvl), (⟨1, ([] : List LV)⟩ : Lvl)⟩ : Bnd)] : List Bnd)).length⟩), (4, some ⟨41, 4, (Enc.encL ([(⟨(⟨0, [((-1), 1)]⟩ : Lvl), (⟨0, [((-1), 0)]⟩ : Lvl)⟩ : Bnd)] : List Bnd)).length⟩)], 5, 123, []⟩) (fun (v6 : Bool) => (some v6) = some r) ?_ ?_
  ·
   refine bindK h0 (fun v_ h1 h0 => ?_)
   refine XC.region <| rM rfl rfl rfl <| rR rfl rfl rfl (RO.binInt rfl rfl rfl) <| rM rfl rfl rfl ?_
   refine XL.case (d := 87) (c := (x1.2.2 == 0)) rfl (fun c7 => ?_) (fun c7 => ?_)
   ·
    replace h1 := condT c7 h1
    refine rM rfl rfl rfl <| rM rfl rfl rfl ?_
    refine bindK h1 (fun x8 hx8 h1 => ?_)
    refine XL.put rfl rfl (lb rfl) (OpOK.callFun (m17_ok x1.1 ([(⟨1, [(0, 0)]⟩ : Lvl), (⟨2, [(0, 1)]⟩ : Lvl)]) x8 hx8) rfl (.cons (.one (.d _)) (.cons (.one (.d _)) .nil))) <| rR rfl rfl rfl (RO.pickT rfl rfl) <| rM rfl rfl rfl ?_
    refine XL.case (d := 92) (c := x8) rfl (fun c9 => ?_) (fun c9 => ?_)
    ·
     replace h1 := condT c9 h1
     refine rM rfl rfl rfl <| rR rfl rfl rfl (RO.binInt rfl rfl rfl) <| rR rfl rfl rfl (RO.pickT rfl rfl) <| rM rfl rfl rfl ?_
     refine XL.case (d := 96) (c := (x4.2.1 == 3)) rfl (fun c10 => ?_) (fun c10 => ?_)
     ·
      replace h1 := condT c10 h1
      refine rM rfl rfl rfl <| rR rfl rfl rfl (RO.binInt rfl rfl rfl) <| rR rfl rfl rfl (RO.pickT rfl rfl) <| rM rfl rfl rfl ?_
      refine XL.case (d := 100) (c := (x4.2.2 == 15)) rfl (fun c11 => ?_) (fun c11 => ?_)
      ·
       replace h1 := condT c11 h1
       refine rM rfl rfl rfl <| rR rfl rfl rfl (RO.binInt rfl rfl rfl) <| rR rfl rfl rfl (RO.pickT rfl rfl) <| rM rfl rfl rfl ?_
       refine XL.case (d := 104) (c := (x5.2.1 == 0)) rfl (fun c12 => ?_) (fun c12 => ?_)
       ·
        replace h1 := condT c12 h1
        refine rM rfl rfl rfl <| rR rfl rfl rfl (RO.binInt rfl rfl rfl) <| rR rfl rfl rfl (RO.pickT rfl rfl) <| rM rfl rfl rfl ?_
        refine XL.case (d := 108) (c := (x5.2.2 == 15)) rfl (fun c13 => ?_) (fun c13 => ?_)
        ·
         replace h1 := condT c13 h1
         refine rM rfl rfl rfl <| rR rfl rfl rfl (RO.pickT rfl rfl) <| rM rfl rfl rfl <| rM rfl rfl rfl <| rR rfl rfl rfl (RO.binInt rfl rfl rfl) <| rR rfl rfl rfl (RO.pickT rfl rfl) <| rM rfl rfl rfl ?_
         refine XL.case (d := 115) (c := (0 == 0)) rfl (fun c14 => ?_) (fun c14 => ?_)
         ·
          replace h1 := condT c14 h1
          refine rM rfl rfl rfl <| rR rfl rfl rfl (RO.not rfl) <| rR rfl rfl rfl (RO.pickT rfl rfl) <| rM rfl rfl rfl <| rM rfl rfl rfl <| rR rfl rfl rfl (RO.binInt rfl rfl rfl) <| rR rfl rfl rfl (RO.pickT rfl rfl) <| rA rfl rfl rfl <| XL.nil ?_
          have e_ := Option.some.inj h1
          subst e_
          exact XQ.joinR (0 == 0) (stle (tR rfl tZ) hZ (kR rfl (kR rfl (kR rfl (kR rfl (kR rfl kZ))))) rfl (Nat.zero_le _) rfl rfl rfl bZ rfl rfl) h0
         ·
          replace h1 := condF c14 h1
          refine XL.no rfl rfl <| XL.no rfl rfl <| rR rfl rfl rfl (RO.pickF rfl rfl) <| rM rfl rfl rfl <| XL.no rfl rfl <| XL.no rfl rfl <| rR rfl rfl rfl (RO.pickF rfl rfl) <| rA rfl rfl rfl <| XL.nil ?_
          have e_ := Option.some.inj h1
          subst e_
          exact XQ.joinR false (stle (tR rfl tZ) hZ (kR rfl (kR rfl (kR rfl (kR rfl (kR rfl kZ))))) rfl (Nat.zero_le _) rfl rfl rfl bZ rfl rfl) h0
        ·
         replace h1 := condF c13 h1
         refine XL.no rfl rfl <| rR rfl rfl rfl (RO.pickF rfl rfl) <| rM rfl rfl rfl <| XL.no rfl rfl <| XL.no rfl rfl <| rR rfl rfl rfl (RO.pickF rfl rfl) <| rM rfl rfl rfl <| XL.no rfl rfl <| XL.no rfl rfl <| rR rfl rfl rfl (RO.pickF rfl rfl) <| rM rfl rfl rfl <| XL.no rfl rfl <| XL.no rfl rfl <| rR rfl rfl rfl (RO.pickF rfl rfl) ?_
         refine rA rfl rfl rfl <| XL.nil ?_
         have e_ := Option.some.inj h1
         subst e_
         exact XQ.joinR false (stle (tR rfl tZ) hZ (kR rfl (kR rfl (kR rfl (kR rfl (kR rfl kZ))))) rfl (Nat.zero_le _) rfl rfl rfl bZ rfl rfl) h0
       ·
        replace h1 := condF c12 h1
        refine XL.no rfl rfl <| XL.no rfl rfl <| rR rfl rfl rfl (RO.pickF rfl rfl) <| rM rfl rfl rfl <| XL.no rfl rfl <| rR rfl rfl rfl (RO.pickF rfl rfl) <| rM rfl rfl rfl <| XL.no rfl rfl <| XL.no rfl rfl <| rR rfl rfl rfl (RO.pickF rfl rfl) <| rM rfl rfl rfl <| XL.no rfl rfl <| XL.no rfl rfl <| rR rfl rfl rfl (RO.pickF rfl rfl) ?_
        refine rM rfl rfl rfl <| XL.no rfl rfl <| XL.no rfl rfl <| rR rfl rfl rfl (RO.pickF rfl rfl) <| rA rfl rfl rfl <| XL.nil ?_
        have e_ := Option.some.inj h1
        subst e_
        exact XQ.joinR false (stle (tR rfl tZ) hZ (kR rfl (kR rfl (kR rfl (kR rfl (kR rfl kZ))))) rfl (Nat.zero_le _) rfl rfl rfl bZ rfl rfl) h0
      ·
       replace h1 := condF c11 h1
       refine XL.no rfl rfl <| XL.no rfl rfl <| rR rfl rfl rfl (RO.pickF rfl rfl) <| rM rfl rfl rfl <| XL.no rfl rfl <| XL.no rfl rfl <| rR rfl rfl rfl (RO.pickF rfl rfl) <| rM rfl rfl rfl <| XL.no rfl rfl <| rR rfl rfl rfl (RO.pickF rfl rfl) <| rM rfl rfl rfl <| XL.no rfl rfl <| XL.no rfl rfl <| rR rfl rfl rfl (RO.pickF rfl rfl) ?_
       refine rM rfl rfl rfl <| XL.no rfl rfl <| XL.no rfl rfl <| rR rfl rfl rfl (RO.pickF rfl rfl) <| rM rfl rfl rfl <| XL.no rfl rfl <| XL.no rfl rfl <| rR rfl rfl rfl (RO.pickF rfl rfl) <| rA rfl rfl rfl <| XL.nil ?_
       have e_ := Option.some.inj h1
       subst e_
       exact XQ.joinR false (stle (tR rfl tZ) hZ (kR rfl (kR rfl (kR rfl (kR rfl (kR rfl kZ))))) rfl (Nat.zero_le _) rfl rfl rfl bZ rfl rfl) h0
     ·
      replace h1 := condF c10 h1
      refine XL.no rfl rfl <| XL.no rfl rfl <| rR rfl rfl rfl (RO.pickF rfl rfl) <| rM rfl rfl rfl <| XL.no rfl rfl <| XL.no rfl rfl <| rR rfl rfl rfl (RO.pickF rfl rfl) <| rM rfl rfl rfl <| XL.no rfl rfl <| XL.no rfl rfl <| rR rfl rfl rfl (RO.pickF rfl rfl) <| rM rfl rfl rfl <| XL.no rfl rfl <| rR rfl rfl rfl (RO.pickF rfl rfl) ?_
      refine rM rfl rfl rfl <| XL.no rfl rfl <| XL.no rfl rfl <| rR rfl rfl rfl (RO.pickF rfl rfl) <| rM rfl rfl rfl <| XL.no rfl rfl <| XL.no rfl rfl <| rR rfl rfl rfl (RO.pickF rfl rfl) <| rM rfl rfl rfl <| XL.no rfl rfl <| XL.no rfl rfl <| rR rfl rfl rfl (RO.pickF rfl rfl) <| rA rfl rfl rfl <| XL.nil ?_
      have e_ := Option.some.inj h1
      subst e_
      exact XQ.joinR false (stle (tR rfl tZ) hZ (kR rfl (kR rfl (kR rfl (kR rfl (kR rfl kZ))))) rfl (Nat.zero_le _) rfl rfl rfl bZ rfl rfl) h0
    ·
     replace h1 := condF c9 h1
     refine XL.no rfl rfl <| XL.no rfl rfl <| rR rfl rfl rfl (RO.pickF rfl rfl) <| rM rfl rfl rfl <| XL.no rfl rfl <| XL.no rfl rfl <| rR rfl rfl rfl (RO.pickF rfl rfl) <| rM rfl rfl rfl <| XL.no rfl rfl <| XL.no rfl rfl <| rR rfl rfl rfl (RO.pickF rfl rfl) <| rM rfl rfl rfl <| XL.no rfl rfl <| XL.no rfl rfl ?_
     refine rR rfl rfl rfl (RO.pickF rfl rfl) <| rM rfl rfl rfl <| XL.no rfl rfl <| rR rfl rfl rfl (RO.pickF rfl rfl) <| rM rfl rfl rfl <| XL.no rfl rfl <| XL.no rfl rfl <| rR rfl rfl rfl (RO.pickF rfl rfl) <| rM rfl rfl rfl <| XL.no rfl rfl <| XL.no rfl rfl <| rR rfl rfl rfl (RO.pickF rfl rfl) <| rM rfl rfl rfl <| XL.no rfl rfl ?_
     refine XL.no rfl rfl <| rR rfl rfl rfl (RO.pickF rfl rfl) <| rA rfl rfl rfl <| XL.nil ?_
     have e_ := Option.some.inj h1
     subst e_
     exact XQ.joinR false (stle (tR rfl tZ) hZ (kR rfl (kR rfl (kR rfl (kR rfl (kR rfl kZ))))) rfl (Nat.zero_le _) rfl rfl rfl bZ rfl rfl) h0
   ·
    replace h1 := condF c7 h1
    refine XL.no rfl rfl <| XL.no rfl rfl <| XL.no rfl rfl <| rR rfl rfl rfl (RO.pickF rfl rfl) <| rM rfl rfl rfl <| XL.no rfl rfl <| XL.no rfl rfl <| rR rfl rfl rfl (RO.pickF rfl rfl) <| rM rfl rfl rfl <| XL.no rfl rfl <| XL.no rfl rfl <| rR rfl rfl rfl (RO.pickF rfl rfl) <| rM rfl rfl rfl <| XL.no rfl rfl ?_
    refine XL.no rfl rfl <| rR rfl rfl rfl (RO.pickF rfl rfl) <| rM rfl rfl rfl <| XL.no rfl rfl <| XL.no rfl rfl <| rR rfl rfl rfl (RO.pickF rfl rfl) <| rM rfl rfl rfl <| XL.no rfl rfl <| rR rfl rfl rfl (RO.pickF rfl rfl) <| rM rfl rfl rfl <| XL.no rfl rfl <| XL.no rfl rfl <| rR rfl rfl rfl (RO.pickF rfl rfl) <| rM rfl rfl rfl ?_
    refine XL.no rfl rfl <| XL.no rfl rfl <| rR rfl rfl rfl (RO.pickF rfl rfl) <| rM rfl rfl rfl <| XL.no rfl rfl <| XL.no rfl rfl <| rR rfl rfl rfl (RO.pickF rfl rfl) <| rA rfl rfl rfl <| XL.nil ?_
    have e_ := Option.some.inj h1
    subst e_
    exact XQ.joinR false (stle (tR rfl tZ) hZ (kR rfl (kR rfl (kR rfl (kR rfl (kR rfl kZ))))) rfl (Nat.zero_le _) rfl rfl rfl bZ rfl rfl) h0
  ·
   intro v6 h0
   refine XQ.seq <| XC.ret ?_
   have e_ := Option.some.inj h0
   subst e_
   exact XQ.retF (fun _ _ h => h) rfl (RAs.tmp rfl .nil) (.cons (.one (.d _)) .nil)
end Go.Proofs.Ytkimijmiphkddaa
