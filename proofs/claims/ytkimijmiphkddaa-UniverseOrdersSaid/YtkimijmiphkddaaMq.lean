/- Mirrors of layer 2: Max, Assign with a lent slice. -/
import Derived.Test.YtkimijmiphkddaaKy
import Derived.Test.YtkimijmiphkddaaMa
namespace Go.Proofs.Ytkimijmiphkddaa
open Go.RowKit Go.Shelf
set_option linter.unusedSimpArgs false
set_option linter.unusedVariables false

theorem fo_105_0 : fieldOff Try.prog 105 0 = some 0 := by kernel_rfl
theorem fo_105_1 : fieldOff Try.prog 105 1 = some 1 := by kernel_rfl
theorem ag_103 : tyAgg Try.prog 103 = some (false, 1) := by kernel_rfl
theorem bd_105 : IsStruct Try.prog 105 [(0, 1), (1, 1)] [.map none, .int .i64 0] := ⟨by kernel_rfl, by kernel_rfl⟩
theorem mp_103 : tyMap Try.prog 103 = some (true, .one (.d (.v (.int .i64 0)))) := by kernel_rfl
theorem en_48 : Enters Try.prog 48 := enters_of Try.func48 (by kernel_rfl) rfl
theorem en_55 : Enters Try.prog 55 := enters_of Try.func55 (by kernel_rfl) rfl
theorem en_66 : Enters Try.prog 66 := enters_of Try.func66 (by kernel_rfl) rfl
theorem en_67 : Enters Try.prog 67 := enters_of Try.func67 (by kernel_rfl) rfl
theorem en_68 : Enters Try.prog 68 := enters_of Try.func68 (by kernel_rfl) rfl
theorem en_69 : Enters Try.prog 69 := enters_of Try.func69 (by kernel_rfl) rfl
theorem en_76 : Enters Try.prog 76 := enters_of Try.func76 (by kernel_rfl) rfl
theorem en_83 : Enters Try.prog 83 := enters_of Try.func83 (by kernel_rfl) rfl
theorem en_87 : Enters Try.prog 87 := enters_of Try.func87 (by kernel_rfl) rfl
def m54_l0 (a0 : Lvl) (s1 : Int) : Option (LO Int (Unit ⊕ (Int × Int))) :=
  cond (decide (0 ≤ s1))
    (Option.bind (idx a0.vs s1) fun (x3 : LV) =>
  cond (decide (x3.1 < 0))
    (some (.done (.inr ((w64 ((-1) - x3.1)), x3.2))))
    (some (.next (w64 (s1 - 1)))))
    (some (.done (.inl ())))

/-- euclid/universe.pivot -/
def m54 (a0 : Lvl) : Option (Int × Int) :=
  Option.bind (loopN (m54_l0 a0) FUEL (w64 ((a0.vs.length : Int) - 1))) (Sum.elim (fun (o1 : Unit) => some ((-1), 0)) (fun o => some o))

set_option maxRecDepth 100000 in
set_option maxHeartbeats 8000000 in
theorem m54_ok (a0 : Lvl) (r : Int × Int) (h0 : m54 a0 = some r) : Fun Try.prog 54 [.agg (cE a0)] (resOf [.one (dI r.1), .one (dI r.2)]) := by
  unfold m54 at h0
  refine Fun.of_bodyM 9 27 Try.func54 rfl en_54 rfl (lb rfl) (fun S w => ?_)
  simp only [entry]
  refine XC.seq <| XC.region <| XL.put rfl rfl (lb rfl) (OpOK.box rfl) <| rA rfl rfl rfl <| rA rfl rfl rfl <| XL.nil <| XQ.seq <| XC.seq <| XC.seq <| XC.region <| rR rfl rfl rfl (RO.fieldOwn fo_39_1 rfl) <| rR rfl rfl rfl (RO.loadOwn ag_37 rfl rfl rfl) <| rR rfl rfl rfl (RO.lenE (α := LV) sl_37 rfl (.d _)) <| rR rfl rfl rfl (RO.binInt rfl rfl rfl) ?_
  refine rA rfl rfl rfl <| XL.nil <| XQ.seq <| XC.block ?_
  refine XC.joinX 0 (fun (o1 : Unit) => ⟨[], [(0, .cells 39 (cE a0))], [], 1, 27, []⟩) (fun (o1 : Unit) => (some ((-1), 0)) = some r) ?_ ?_
  ·
   refine bindK h0 (fun o2 hl1 h0 => ?_)
   refine XC.loopM (m54_l0 a0) (fun s1 => ⟨[(1, .v (.one (.ptr 0 0))), (4, .v (.one (dI s1)))], [(0, .cells 39 (cE a0))], [], 1, 27, []⟩) (w64 ((a0.vs.length : Int) - 1)) o2 (stle (tR rfl (tR rfl tZ)) (hR rfl hZ) kZ rfl (Nat.zero_le _) rfl rfl rfl (bB rfl rfl bZ) rfl rfl) hl1 (fun s1 n1 oo1 h1 ho1 => ?_)
   unfold m54_l0 at h1
   refine XC.seq <| XC.seq <| XC.region <| rM rfl rfl rfl <| rR rfl rfl rfl (RO.binInt rfl rfl rfl) <| XL.nil <| XQ.seq ?_
   refine XC.cond (b := (decide (0 ≤ s1))) rfl (fun c3 => ?_) (fun c3 => ?_)
   ·
    replace h1 := condT c3 h1
    refine XC.skip <| XQ.seq <| XC.seq <| XC.block <| XC.seq <| XC.region <| rR rfl rfl rfl (RO.fieldOwn fo_39_1 rfl) <| rR rfl rfl rfl (RO.loadOwn ag_37 rfl rfl rfl) <| rM rfl rfl rfl ?_
    refine bindK h1 (fun x4 hx4 h1 => ?_)
    refine rR rfl rfl rfl (RO.indexE (α := LV) sl_37 rfl (.d _) rfl hx4) <| rR rfl rfl rfl (RO.loadPelAgg ag_59 rfl rfl rfl) <| XL.put rfl rfl (lb rfl) (OpOK.alloc z_59 rfl) <| XL.eff rfl rfl (OpOK.store ag_59 rfl rfl rfl rfl (lb rfl) rfl) <| XL.nil <| XQ.seq <| XC.seq <| XC.region <| rR rfl rfl rfl (RO.fieldOwn fo_59_0 rfl) <| rR rfl rfl rfl (RO.loadOwn ag_3 rfl rfl rfl) <| rR rfl rfl rfl (RO.binInt rfl rfl rfl) <| XL.nil <| XQ.seq ?_
    refine XC.cond (b := (decide (x4.1 < 0))) rfl (fun c5 => ?_) (fun c5 => ?_)
    ·
     replace h1 := condT c5 h1
     refine XC.seq ?_
     refine XC.anyRun [] [] mixed (by kernel_rfl) (by kernel_rfl) (by kernel_rfl) ?_
     refine RunA.rd rfl rfl rfl (OpOK.of_ro (RO.fieldOwn fo_59_0 rfl)) rfl <| RunA.rd rfl rfl rfl (OpOK.of_ro (RO.loadOwn ag_3 rfl rfl rfl)) rfl <| RunA.rd rfl rfl rfl (OpOK.of_ro (RO.binInt rfl rfl rfl)) rfl <| RunA.rd rfl rfl rfl (OpOK.of_ro (RO.fieldOwn fo_59_1 rfl)) rfl <| RunA.rd rfl rfl rfl (OpOK.of_ro (RO.loadOwn ag_3 rfl rfl rfl)) rfl <| RunA.rd rfl rfl rfl (OpOK.of_ro (RO.assign rfl)) rfl <| RunA.rd rfl rfl rfl (OpOK.of_ro (RO.assign rfl)) rfl ?_
     refine RunA.nil ⟨?ex, _, _, rfl, ?_⟩
     case ex => exact trivial
     refine XQ.less (st' := ⟨[(2, .v (.one (dI (w64 ((-1) - x4.1))))), (3, .v (.one (dI x4.2)))], [(0, .cells 39 (cE a0)), (1, .cells 59 (cE x4))], [], 2, 27, []⟩) (stle (tR rfl (tR rfl tZ)) (hR rfl (hR rfl hZ)) kZ rfl (Nat.zero_le _) rfl rfl rfl (bB rfl rfl (bB rfl rfl bZ)) rfl rfl) <| XQ.seq <| XC.ret ?_
     have e_ := Option.some.inj h1
     subst e_
     have e_ : _ = _ := ho1
     subst e_
     try dsimp only [Sum.elim_inl, Sum.elim_inr] at h0
     have e_ := Option.some.inj h0
     subst e_
     exact XQ.retF (fun _ _ h => h) rfl (RAs.tmp rfl (RAs.tmp rfl .nil)) (.cons (.one (.d _)) (.cons (.one (.d _)) .nil))
    ·
     replace h1 := condF c5 h1
     refine XC.skip <| XQ.inBlock <| XQ.seq <| XC.region <| rM rfl rfl rfl <| rR rfl rfl rfl (RO.binInt rfl rfl rfl) <| rA rfl rfl rfl <| XL.nil ?_
     have e_ := Option.some.inj h1
     subst e_
     refine XQ.nextM (w64 (s1 - 1)) (stle (tR rfl (tR rfl tZ)) (hR rfl hZ) kZ rfl (Nat.zero_le _) rfl rfl rfl (bB rfl rfl bZ) rfl rfl) ho1
   ·
    replace h1 := condF c3 h1
    refine XC.exit <| XQ.thenE <| XQ.thenE ?_
    have e_ := Option.some.inj h1
    subst e_
    have e_ : _ = _ := ho1
    subst e_
    exact XQ.joinX () (stle tZ (hR rfl hZ) kZ rfl (Nat.zero_le _) rfl rfl rfl (bB rfl rfl bZ) rfl rfl) h0
  ·
   intro o1 h0
   refine XQ.blockX <| XQ.seq <| XC.seq <| XC.region <| rA rfl rfl rfl <| rA rfl rfl rfl <| XL.nil <| XQ.seq <| XC.ret ?_
   have e_ := Option.some.inj h0
   subst e_
   exact XQ.retF (fun _ _ h => h) rfl (RAs.tmp rfl (RAs.tmp rfl .nil)) (.cons (.one (.d _)) (.cons (.one (.d _)) .nil))

/-- euclid/universe.lowered -/
def m56 (a0 : Lvl) (a1 : Int) : Option Lvl :=
  cond ((a0.vs.length : Int) == 0)
    (some (⟨(max 0 (w64 (a0.c - a1))), ([] : List LV)⟩ : Lvl))
    (Option.bind (idx a0.vs 0) fun (x2 : LV) =>
  some (⟨0, [(x2.1, (max 0 (w64 (x2.2 - a1))))]⟩ : Lvl))

set_option maxRecDepth 100000 in
set_option maxHeartbeats 8000000 in
theorem m56_ok (a0 : Lvl) (a1 : Int) (r : Lvl) (h0 : m56 a0 a1 = some r) : Fun Try.prog 56 [.agg (cE a0), .one (dI a1)] (resOf [.agg (cE r)]) := by
  unfold m56 at h0
  refine Fun.of_bodyM 9 30 Try.func56 rfl en_56 rfl (lb rfl) (fun S w => ?_)
  simp only [entry]
  refine XC.seq <| XC.region <| XL.put rfl rfl (lb rfl) (OpOK.box rfl) <| XL.put rfl rfl (lb rfl) (OpOK.alloc z_39 rfl) <| XL.nil <| XQ.seq <| XC.seq <| XC.seq <| XC.region <| rR rfl rfl rfl (RO.fieldOwn fo_39_1 rfl) <| rR rfl rfl rfl (RO.loadOwn ag_37 rfl rfl rfl) <| rR rfl rfl rfl (RO.lenE (α := LV) sl_37 rfl (.d _)) <| rR rfl rfl rfl (RO.binInt rfl rfl rfl) <| XL.nil ?_
  refine XQ.seq ?_
  refine XC.cond (b := ((a0.vs.length : Int) == 0)) rfl (fun c1 => ?_) (fun c1 => ?_)
  ·
   replace h0 := condT c1 h0
   refine XC.seq <| XC.region <| rR rfl rfl rfl (RO.fieldOwn fo_39_0 rfl) <| rR rfl rfl rfl (RO.loadOwn ag_3 rfl rfl rfl) <| rM rfl rfl rfl <| rR rfl rfl rfl (RO.binInt rfl rfl rfl) <| rR rfl rfl rfl (RO.max2 rfl rfl) <| rR rfl rfl rfl (RO.build1 bd_39 rfl rfl rfl) <| XL.eff rfl rfl (OpOK.store ag_39 rfl rfl rfl rfl (lb rfl) rfl) <| XL.nil <| XQ.seq <| XC.ret ?_
   have e_ := Option.some.inj h0
   subst e_
   exact XQ.retF (fun _ _ h => h) rfl (RAs.agg ag_39 rfl rfl rfl rfl .nil) (.cons (.agg (.cons (.d _) (.cons (.nil _) .nil))) .nil)
  ·
   replace h0 := condF c1 h0
   refine XC.skip <| XQ.seq <| XC.seq <| XC.region <| rR rfl rfl rfl (RO.fieldOwn fo_39_1 rfl) <| rR rfl rfl rfl (RO.loadOwn ag_37 rfl rfl rfl) ?_
   refine bindK h0 (fun x2 hx2 h0 => ?_)
   refine rR rfl rfl rfl (RO.indexE (α := LV) sl_37 rfl (.d _) rfl hx2) <| rR rfl rfl rfl (RO.loadPelAgg ag_59 rfl rfl rfl) <| XL.put rfl rfl (lb rfl) (OpOK.alloc z_59 rfl) <| XL.eff rfl rfl (OpOK.store ag_59 rfl rfl rfl rfl (lb rfl) rfl) <| XL.nil <| XQ.seq <| XC.seq <| XC.region <| rR rfl rfl rfl (RO.fieldOwn fo_59_0 rfl) <| rR rfl rfl rfl (RO.loadOwn ag_3 rfl rfl rfl) <| rR rfl rfl rfl (RO.fieldOwn fo_59_1 rfl) <| rR rfl rfl rfl (RO.loadOwn ag_3 rfl rfl rfl) <| rM rfl rfl rfl <| rR rfl rfl rfl (RO.binInt rfl rfl rfl) ?_
   refine rR rfl rfl rfl (RO.max2 rfl rfl) <| rR rfl rfl rfl (RO.build2 bd_59 rfl rfl rfl rfl) <| XL.put rfl rfl (lb rfl) (OpOK.lit1E (α := LV) ((x2.1, (max 0 (w64 (x2.2 - a1))))) sl_37 z_59 rfl rfl (lb rfl) (lb rfl) rfl rfl (.cons (.d _) (.cons (.d _) .nil)) rfl) <| rR rfl rfl rfl (RO.build1 bd_39 rfl rfl rfl) <| XL.eff rfl rfl (OpOK.store ag_39 rfl rfl rfl rfl (lb rfl) rfl) <| XL.nil <| XQ.seq <| XC.ret ?_
   have e_ := Option.some.inj h0
   subst e_
   exact XQ.retF (fun _ _ h => h) rfl (RAs.agg ag_39 rfl rfl rfl rfl .nil) (.cons (.agg (.cons (.d _) (.cons (.app _ _ _) .nil))) .nil)

noncomputable def m55_c0 : Code := (cA (cA (cB (cA (cB (cB (cB (bodyC Try.f55))))))))

noncomputable def m55_c1 : Code := (cB (cA (cB (cA (cB (cB (cB (bodyC Try.f55))))))))

def m55_l0  (s2 : (List LV) × (List LV) × (List LV)) : Option (LO ((List LV) × (List LV) × (List LV)) (((List LV) × (List LV) × (List LV)))) :=
  Option.bind (cond (decide (0 < (s2.2.1.length : Int)))
    (some true)
    (some (decide (0 < (s2.2.2.length : Int))))) (fun (v8 : Bool) => cond v8
    (Option.bind (cond ((s2.2.2.length : Int) == 0)
    (some true)
    (cond (decide (0 < (s2.2.1.length : Int)))
    (Option.bind (idx s2.2.1 0) fun (x13 : LV) =>
  Option.bind (idx s2.2.2 0) fun (x14 : LV) =>
  some (decide (x13.1 < x14.1)))
    (some false))) (fun (v10 : Bool) => cond v10
    (Option.bind (idx s2.2.1 0) fun (x12 : LV) =>
  guardO (cond (decide (0 ≤ (1 : Int))) (Nat.ble (1 : Int).toNat s2.2.1.length) false)
  (Option.bind (guardO (Nat.ble (s2.1.length + ([x12]).length) 1000000000)
  (some ())) (fun (y14 : Unit) => some (.next ((s2.1 ++ ([x12])), (s2.2.1.drop (1 : Int).toNat), s2.2.2)))))
    (Option.bind (cond ((s2.2.1.length : Int) == 0)
    (some true)
    (Option.bind (idx s2.2.2 0) fun (x20 : LV) =>
  Option.bind (idx s2.2.1 0) fun (x21 : LV) =>
  some (decide (x20.1 < x21.1)))) (fun (v18 : Bool) => cond v18
    (Option.bind (idx s2.2.2 0) fun (x20 : LV) =>
  guardO (cond (decide (0 ≤ (1 : Int))) (Nat.ble (1 : Int).toNat s2.2.2.length) false)
  (Option.bind (guardO (Nat.ble (s2.1.length + ([x20]).length) 1000000000)
  (some ())) (fun (y22 : Unit) => some (.next ((s2.1 ++ ([x20])), s2.2.1, (s2.2.2.drop (1 : Int).toNat))))))
    (Option.bind (idx s2.2.1 0) fun (x26 : LV) =>
  Option.bind (idx s2.2.1 0) fun (x27 : LV) =>
  Option.bind (idx s2.2.2 0) fun (x28 : LV) =>
  guardO (cond (decide (0 ≤ (1 : Int))) (Nat.ble (1 : Int).toNat s2.2.1.length) false)
  (guardO (cond (decide (0 ≤ (1 : Int))) (Nat.ble (1 : Int).toNat s2.2.2.length) false)
  (Option.bind (guardO (Nat.ble (s2.1.length + ([(x26.1, (max x27.2 x28.2))]).length) 1000000000)
  (some ())) (fun (y31 : Unit) => some (.next ((s2.1 ++ ([(x26.1, (max x27.2 x28.2))])), (s2.2.1.drop (1 : Int).toNat), (s2.2.2.drop (1 : Int).toNat)))))))))))
    (some (.done (s2.1, s2.2.1, s2.2.2))))

/-- euclid/level.Max -/
def m55 (a0 : Lvl) (a1 : Lvl) : Option (Lvl × Int) :=
  Option.bind (guardO (Nat.ble a0.vs.length 100000)
  (cond (!(validB a0))
    (some true)
    (guardO (Nat.ble a1.vs.length 100000)
  (some (!(validB a1)))))) (fun (v1 : Bool) => cond v1
    (some ((⟨0, ([] : List LV)⟩ : Lvl), 3))
    (Option.bind (some ()) (fun (y3 : Unit) => Option.bind (Option.bind (loopN (m55_l0) FUEL (([] : List LV), a0.vs, a1.vs)) (fun (o7 : (List LV) × (List LV) × (List LV)) => some (o7.1, o7.2.1, o7.2.2))) (fun (y5 : (List LV) × (List LV) × (List LV)) => guardO (Nat.ble (⟨(max a0.c a1.c), y5.1⟩ : Lvl).vs.length 100000)
  (some (((limL (⟨(max a0.c a1.c), y5.1⟩ : Lvl)).1), (limL (⟨(max a0.c a1.c), y5.1⟩ : Lvl)).2))))))

set_option maxRecDepth 100000 in
set_option maxHeartbeats 8000000 in
theorem m55_ok (a0 : Lvl) (a1 : Lvl) (r : Lvl × Int) (h0 : m55 a0 a1 = some r) : Fun Try.prog 55 [.agg (cE a0), .agg (cE a1)] (resOf [.agg (cE r.1), .one (dI r.2)]) := by
  unfold m55 at h0
  refine Fun.of_bodyM 9 39 Try.func55 rfl en_55 rfl (lb rfl) (fun S w => ?_)
  simp only [entry]
  refine XC.seq <| XC.region <| XL.put rfl rfl (lb rfl) (OpOK.box rfl) <| XL.put rfl rfl (lb rfl) (OpOK.box rfl) <| XL.put rfl rfl (lb rfl) (OpOK.alloc z_39 rfl) <| rA rfl rfl rfl <| XL.nil <| XQ.seq <| XC.seq <| XC.seq ?_
  refine XC.joinR (fun (v1 : Bool) => ⟨[(2, .v (.one (.ptr 0 0))), (3, .v (.one (.ptr 1 0))), (4, .v (.one (.ptr 2 0))), (15, .v (.one (dB v1)))], [(0, .cells 39 (cE a0)), (1, .cells 39 (cE a1)), (2, .cells 39 [dI 0, dN])], [], 3, 39, []⟩) (fun (v1 : Bool) => (cond v1
      (some ((⟨0, ([] : List LV)⟩ : Lvl), 3))
      (Option.bind (some ()) (fun (y3 : Unit) => Option.bind (Option.bind (loopN (m55_l0) FUEL (([] : List LV), a0.vs, a1.vs)) (fun (o7 : (List LV) × (List LV) × (List LV)) => some (o7.1, o7.2.1, o7.2.2))) (fun (y5 : (List LV) × (List LV) × (List LV)) => guardO (Nat.ble (⟨(max a0.c a1.c), y5.1⟩ : Lvl).vs.length 100000)
    (some (((limL (⟨(max a0.c a1.c), y5.1⟩ : Lvl)).1), (limL (⟨(max a0.c a1.c), y5.1⟩ : Lvl)).2)))))) = some r) ?_ ?_
  ·
   refine bindK h0 (fun v_ h1 h0 => ?_)
   refine XC.region <| rR rfl rfl rfl (RO.loadOwnAgg ag_39 rfl rfl rfl rfl) ?_
   refine guardK h1 (fun g2 h1 => ?_)
   refine XL.put rfl rfl (lb rfl) (OpOK.callFun (valid_fun a0 (Nat.le_of_ble_eq_true g2)) rfl (.cons (.agg (.cons (.d _) (.cons (.d _) .nil))) .nil)) ?_
   refine rR rfl rfl rfl (RO.not rfl) <| rM rfl rfl rfl ?_
   refine XL.case (d := 11) (c := (!(validB a0))) rfl (fun c3 => ?_) (fun c3 => ?_)
   ·
    replace h1 := condT c3 h1
    refine XL.no rfl rfl <| XL.no rfl rfl <| XL.no rfl rfl <| rR rfl rfl rfl (RO.pickT rfl rfl) <| XL.nil ?_
    have e_ := Option.some.inj h1
    subst e_
    exact XQ.joinR true (stle (tR rfl (tR rfl (tR rfl (tR rfl tZ)))) (hR rfl (hR rfl (hR rfl hZ))) kZ rfl (Nat.zero_le _) rfl rfl rfl (bB rfl rfl (bB rfl rfl (bB rfl rfl bZ))) rfl rfl) h0
   ·
    replace h1 := condF c3 h1
    refine rR rfl rfl rfl (RO.loadOwnAgg ag_39 rfl rfl rfl rfl) ?_
    refine guardK h1 (fun g4 h1 => ?_)
    refine XL.put rfl rfl (lb rfl) (OpOK.callFun (valid_fun a1 (Nat.le_of_ble_eq_true g4)) rfl (.cons (.agg (.cons (.d _) (.cons (.d _) .nil))) .nil)) ?_
    refine rR rfl rfl rfl (RO.not rfl) <| rR rfl rfl rfl (RO.pickF rfl rfl) <| XL.nil ?_
    have e_ := Option.some.inj h1
    subst e_
    exact XQ.joinR (!(validB a1)) (stle (tR rfl (tR rfl (tR rfl (tR rfl tZ)))) (hR rfl (hR rfl (hR rfl hZ))) kZ rfl (Nat.zero_le _) rfl rfl rfl (bB rfl rfl (bB rfl rfl (bB rfl rfl bZ))) rfl rfl) h0
  ·
   intro v1 h0
   refine XQ.seq ?_
   refine XC.cond (b := v1) rfl (fun c5 => ?_) (fun c5 => ?_)
   ·
    replace h0 := condT c5 h0
    refine XC.seq <| XC.region <| rR rfl rfl rfl (RO.build0 bd_39 rfl ) <| XL.eff rfl rfl (OpOK.store ag_39 rfl rfl rfl rfl (lb rfl) rfl) <| rA rfl rfl rfl <| XL.nil <| XQ.seq <| XC.ret ?_
    have e_ := Option.some.inj h0
    subst e_
    exact XQ.retF (fun _ _ h => h) rfl (RAs.agg ag_39 rfl rfl rfl rfl (RAs.tmp rfl .nil)) (.cons (.agg (.cons (.d _) (.cons (.nil _) .nil))) (.cons (.one (.d _)) .nil))
   ·
    replace h0 := condF c5 h0
    refine XC.skip <| XQ.seq <| XC.seq <| XC.region <| rR rfl rfl rfl (RO.fieldOwn fo_39_0 rfl) <| rR rfl rfl rfl (RO.loadOwn ag_3 rfl rfl rfl) <| rR rfl rfl rfl (RO.fieldOwn fo_39_0 rfl) <| rR rfl rfl rfl (RO.loadOwn ag_3 rfl rfl rfl) <| rR rfl rfl rfl (RO.max2 rfl rfl) <| rR rfl rfl rfl (RO.build1 bd_39 rfl rfl rfl) <| XL.put rfl rfl (lb rfl) (OpOK.alloc z_39 rfl) <| XL.eff rfl rfl (OpOK.store ag_39 rfl rfl rfl rfl (lb rfl) rfl) <| XL.nil <| XQ.seq ?_
    refine XC.seq <| XC.seq <| XC.region <| rR rfl rfl rfl (RO.fieldOwn fo_39_1 rfl) <| rR rfl rfl rfl (RO.loadOwn ag_37 rfl rfl rfl) <| rR rfl rfl rfl (RO.fieldOwn fo_39_1 rfl) <| rR rfl rfl rfl (RO.loadOwn ag_37 rfl rfl rfl) ?_
    refine bindK h0 (fun y6 h1 h0 => ?_)
    have hc7 : CallM Try.prog 76 [.one (dS a0.vs), .one (dS a1.vs)] ⟨[(0, .cells 39 (cE a0)), (1, .cells 39 (cE a1)), (2, .cells 39 [dI 0, dN]), (3, .cells 39 [dI (max a0.c a1.c), dN])], [], 4⟩ (resOf [.one (.fn 87 [(4, 0), (5, 0)])]) ⟨[(0, .cells 39 (cE a0)), (1, .cells 39 (cE a1)), (2, .cells 39 [dI 0, dN]), (3, .cells 39 [dI (max a0.c a1.c), dN]), (4, .cells 37 [dS a0.vs]), (5, .cells 37 [dS a1.vs])], [], 6⟩ := by
     refine CallM.of_bodyD ⟨[(4, .v (.one (.fn 87 [(4, 0), (5, 0)])))], [(0, .cells 39 (cE a0)), (1, .cells 39 (cE a1)), (2, .cells 39 [dI 0, dN]), (3, .cells 39 [dI (max a0.c a1.c), dN]), (4, .cells 37 [dS a0.vs]), (5, .cells 37 [dS a1.vs])], [], 6, 6, []⟩ rfl rfl en_76 (lb rfl) rfl (RAs.tmp rfl .nil) (fun w0 M V0 Q hv1 hQ1 => ?_)
     simp only [entry]
     refine XC.seq <| XC.region <| XL.put rfl rfl (lb rfl) (OpOK.box rfl) <| XL.put rfl rfl (lb rfl) (OpOK.box rfl) <| rA rfl rfl rfl <| XL.nil <| XQ.seq <| XC.seq <| XC.region <| rR rfl rfl rfl (RO.makeFunc2 rfl rfl) <| rA rfl rfl rfl <| XL.nil <| XQ.seq <| XC.ret ?_
     have e_ := Option.some.inj h1
     subst e_
     exact hQ1 _ _ _ (.inr rfl) rfl (stle (tR rfl tZ) (hR rfl (hR rfl (hR rfl (hR rfl (hR rfl (hR rfl hZ)))))) kZ rfl (Nat.le_trans hv1 (lb rfl)) rfl rfl rfl (bB rfl rfl (bB rfl rfl (bB rfl rfl (bB rfl rfl (bB rfl rfl (bB rfl rfl bZ)))))) rfl rfl)
    refine XL.put rfl rfl (lb rfl) (OpOK.callW rfl rfl rfl hc7 rfl (hR rfl (hR rfl (hR rfl (hR rfl hZ)))) kZ) <| XL.nil <| XQ.seq <| XC.block <| XC.less (st' := ⟨[(4, .v (.one (.ptr 2 0))), (6, .v (.one (.ptr 3 0))), (27, .v (.one (.fn 87 [(4, 0), (5, 0)])))], [(0, .cells 39 (cE a0)), (1, .cells 39 (cE a1)), (2, .cells 39 [dI 0, dN]), (3, .cells 39 [dI (max a0.c a1.c), dN]), (4, .cells 37 [dS a0.vs]), (5, .cells 37 [dS a1.vs])], [], 6, 39, []⟩) (stle (tR rfl (tR rfl (tR rfl tZ))) (hR rfl (hR rfl (hR rfl (hR rfl (hR rfl (hR rfl hZ)))))) kZ rfl (Nat.zero_le _) rfl rfl rfl (bB rfl rfl (bB rfl rfl (bB rfl rfl (bB rfl rfl (bB rfl rfl (bB rfl rfl bZ)))))) rfl rfl) ?_
    refine bindK h0 (fun y8 h1 h0 => ?_)
    have hc9 : CallM Try.prog 87 [.one (.yld 7), .one (.ptr 4 0), .one (.ptr 5 0)] ⟨[(7, .loop .ready none [(4, .v (.one (.ptr 2 0))), (6, .v (.one (.ptr 3 0))), (27, .v (.one (.fn 87 [(4, 0), (5, 0)])))] 39 #[28] m55_c0 m55_c1 6), (6, .obj (.deferred (some []))), (0, .cells 39 (cE a0)), (1, .cells 39 (cE a1)), (2, .cells 39 [dI 0, dN]), (3, .cells 39 [dI (max a0.c a1.c), dN]), (4, .cells 37 [dS a0.vs]), (5, .cells 37 [dS a1.vs])], [], 8⟩ (resOf []) ⟨[(0, .cells 39 (cE a0)), (1, .cells 39 (cE a1)), (2, .cells 39 [dI 0, dN]), (3, .cells 39 [dI (max a0.c a1.c), dA 8 y8.1]), (4, .cells 37 [dS y8.2.1]), (5, .cells 37 [dS y8.2.2]), (6, .obj (.deferred (some []))), (7, .loop .ready none [(4, .v (.one (.ptr 2 0))), (6, .v (.one (.ptr 3 0))), (27, .v (.one (.fn 87 [(4, 0), (5, 0)])))] 39 #[28] m55_c0 m55_c1 6)], [(8, some ⟨59, 2, (Enc.encL y8.1).length⟩)], 9⟩ := by
     refine CallM.of_bodyD ⟨[], [(0, .cells 39 (cE a0)), (1, .cells 39 (cE a1)), (2, .cells 39 [dI 0, dN]), (3, .cells 39 [dI (max a0.c a1.c), dA 8 y8.1]), (4, .cells 37 [dS y8.2.1]), (5, .cells 37 [dS y8.2.2]), (6, .obj (.deferred (some []))), (7, .loop .ready none [(4, .v (.one (.ptr 2 0))), (6, .v (.one (.ptr 3 0))), (27, .v (.one (.fn 87 [(4, 0), (5, 0)])))] 39 #[28] m55_c0 m55_c1 6)], [(8, some ⟨59, 2, (Enc.encL y8.1).length⟩)], 9, 80, []⟩ rfl rfl en_87 (lb rfl) rfl .nil (fun w0 M V0 Q hv1 hQ1 => ?_)
     simp only [entry]
     refine XC.block ?_
     refine XC.joinX 0 (fun (o10 : (List LV) × (List LV) × (List LV)) => ⟨[], [(0, .cells 39 (cE a0)), (1, .cells 39 (cE a1)), (2, .cells 39 [dI 0, dN]), (3, .cells 39 [dI (max a0.c a1.c), dA 8 o10.1]), (4, .cells 37 [dS o10.2.1]), (5, .cells 37 [dS o10.2.2]), (6, .obj (.deferred (some []))), (7, .loop .ready none [(4, .v (.one (.ptr 2 0))), (6, .v (.one (.ptr 3 0))), (27, .v (.one (.fn 87 [(4, 0), (5, 0)])))] 39 #[28] m55_c0 m55_c1 6)], [(8, some ⟨59, 2, (Enc.encL o10.1).length⟩)], 9, 80, []⟩) (fun (o10 : (List LV) × (List LV) × (List LV)) => (some (o10.1, o10.2.1, o10.2.2)) = some y8) ?_ ?_
     ·
      refine XC.adoptC (i := 3) (off := 1) 59 2 rfl rfl ?_
      refine bindK h1 (fun o11 hl2 h1 => ?_)
      refine XC.loopM (m55_l0) (fun s2 => ⟨[(0, .v (.one (.yld 7))), (1, .v (.one (.ptr 4 0))), (2, .v (.one (.ptr 5 0)))], [(0, .cells 39 (cE a0)), (1, .cells 39 (cE a1)), (2, .cells 39 [dI 0, dN]), (3, .cells 39 [dI (max a0.c a1.c), dA 8 s2.1]), (4, .cells 37 [dS s2.2.1]), (5, .cells 37 [dS s2.2.2]), (6, .obj (.deferred (some []))), (7, .loop .ready none [(4, .v (.one (.ptr 2 0))), (6, .v (.one (.ptr 3 0))), (27, .v (.one (.fn 87 [(4, 0), (5, 0)])))] 39 #[28] m55_c0 m55_c1 6)], [(8, some ⟨59, 2, (Enc.encL s2.1).length⟩)], 9, 80, []⟩) (([] : List LV), a0.vs, a1.vs) o11 (stle (tR rfl (tR rfl (tR rfl tZ))) (hR rfl (hR rfl (hR rfl (hR rfl (hR rfl (hR rfl (hR rfl (hR rfl hZ)))))))) (kR rfl kZ) rfl (Nat.le_trans hv1 (lb rfl)) rfl rfl rfl (bB rfl rfl (bB rfl rfl (bB rfl rfl (bB rfl rfl (bB rfl rfl (bB rfl rfl (bB rfl rfl (bB rfl rfl bZ)))))))) rfl rfl) hl2 (fun s2 n2 oo2 h2 ho2 => ?_)
      unfold m55_l0 at h2
      refine XC.seq <| XC.seq ?_
      refine XC.joinR (fun (v12 : Bool) => ⟨[(0, .v (.one (.yld 7))), (1, .v (.one (.ptr 4 0))), (2, .v (.one (.ptr 5 0))), (12, .v (.one (dB v12)))], [(0, .cells 39 (cE a0)), (1, .cells 39 (cE a1)), (2, .cells 39 [dI 0, dN]), (3, .cells 39 [dI (max a0.c a1.c), dA 8 s2.1]), (4, .cells 37 [dS s2.2.1]), (5, .cells 37 [dS s2.2.2]), (6, .obj (.deferred (some []))), (7, .loop .ready none [(4, .v (.one (.ptr 2 0))), (6, .v (.one (.ptr 3 0))), (27, .v (.one (.fn 87 [(4, 0), (5, 0)])))] 39 #[28] m55_c0 m55_c1 6)], [(8, some ⟨59, 2, (Enc.encL s2.1).length⟩)], 9, 80, []⟩) (fun (v12 : Bool) => (cond v12
          (Option.bind (cond ((s2.2.2.length : Int) == 0)
          (some true)
          (cond (decide (0 < (s2.2.1.length : Int)))
          (Option.bind (idx s2.2.1 0) fun (x17 : LV) =>
        Option.bind (idx s2.2.2 0) fun (x18 : LV) =>
        some (decide (x17.1 < x18.1)))
          (some false))) (fun (v14 : Bool) => cond v14
          (Option.bind (idx s2.2.1 0) fun (x16 : LV) =>
        guardO (cond (decide (0 ≤ (1 : Int))) (Nat.ble (1 : Int).toNat s2.2.1.length) false)
        (Option.bind (guardO (Nat.ble (s2.1.length + ([x16]).length) 1000000000)
        (some ())) (fun (y18 : Unit) => some (.next ((s2.1 ++ ([x16])), (s2.2.1.drop (1 : Int).toNat), s2.2.2)))))
          (Option.bind (cond ((s2.2.1.length : Int) == 0)
          (some true)
          (Option.bind (idx s2.2.2 0) fun (x24 : LV) =>
        Option.bind (idx s2.2.1 0) fun (x25 : LV) =>
        some (decide (x24.1 < x25.1)))) (fun (v22 : Bool) => cond v22
          (Option.bind (idx s2.2.2 0) fun (x24 : LV) =>
        guardO (cond (decide (0 ≤ (1 : Int))) (Nat.ble (1 : Int).toNat s2.2.2.length) false)
        (Option.bind (guardO (Nat.ble (s2.1.length + ([x24]).length) 1000000000)
        (some ())) (fun (y26 : Unit) => some (.next ((s2.1 ++ ([x24])), s2.2.1, (s2.2.2.drop (1 : Int).toNat))))))
          (Option.bind (idx s2.2.1 0) fun (x30 : LV) =>
        Option.bind (idx s2.2.1 0) fun (x31 : LV) =>
        Option.bind (idx s2.2.2 0) fun (x32 : LV) =>
        guardO (cond (decide (0 ≤ (1 : Int))) (Nat.ble (1 : Int).toNat s2.2.1.length) false)
        (guardO (cond (decide (0 ≤ (1 : Int))) (Nat.ble (1 : Int).toNat s2.2.2.length) false)
        (Option.bind (guardO (Nat.ble (s2.1.length + ([(x30.1, (max x31.2 x32.2))]).length) 1000000000)
        (some ())) (fun (y35 : Unit) => some (.next ((s2.1 ++ ([(x30.1, (max x31.2 x32.2))])), (s2.2.1.drop (1 : Int).toNat), (s2.2.2.drop (1 : Int).toNat)))))))))))
          (some (.done (s2.1, s2.2.1, s2.2.2)))) = some oo2) ?_ ?_
      ·
       refine bindK h2 (fun v_ h3 h2 => ?_)
       refine XC.region <| rR rfl rfl rfl (RO.loadOwn ag_37 rfl rfl rfl) <| rR rfl rfl rfl (RO.lenE (α := LV) sl_37 rfl (.d _)) <| rR rfl rfl rfl (RO.binInt rfl rfl rfl) <| rM rfl rfl rfl ?_
       refine XL.case (d := 8) (c := (decide (0 < (s2.2.1.length : Int)))) rfl (fun c13 => ?_) (fun c13 => ?_)
       ·
        replace h3 := condT c13 h3
        refine XL.no rfl rfl <| XL.no rfl rfl <| XL.no rfl rfl <| rR rfl rfl rfl (RO.pickT rfl rfl) <| XL.nil ?_
        have e_ := Option.some.inj h3
        subst e_
        exact XQ.joinR true (stle (tR rfl (tR rfl (tR rfl (tR rfl tZ)))) (hR rfl (hR rfl (hR rfl (hR rfl (hR rfl (hR rfl (hR rfl (hR rfl hZ)))))))) (kR rfl kZ) rfl (Nat.le_trans hv1 (lb rfl)) rfl rfl rfl (bB rfl rfl (bB rfl rfl (bB rfl rfl (bB rfl rfl (bB rfl rfl (bB rfl rfl (bB rfl rfl (bB rfl rfl bZ)))))))) rfl rfl) h2
       ·
        replace h3 := condF c13 h3
        refine rR rfl rfl rfl (RO.loadOwn ag_37 rfl rfl rfl) <| rR rfl rfl rfl (RO.lenE (α := LV) sl_37 rfl (.d _)) <| rR rfl rfl rfl (RO.binInt rfl rfl rfl) <| rR rfl rfl rfl (RO.pickF rfl rfl) <| XL.nil ?_
        have e_ := Option.some.inj h3
        subst e_
        exact XQ.joinR (decide (0 < (s2.2.2.length : Int))) (stle (tR rfl (tR rfl (tR rfl (tR rfl tZ)))) (hR rfl (hR rfl (hR rfl (hR rfl (hR rfl (hR rfl (hR rfl (hR rfl hZ)))))))) (kR rfl kZ) rfl (Nat.le_trans hv1 (lb rfl)) rfl rfl rfl (bB rfl rfl (bB rfl rfl (bB rfl rfl (bB rfl rfl (bB rfl rfl (bB rfl rfl (bB rfl rfl (bB rfl rfl bZ)))))))) rfl rfl) h2
      ·
       intro v12 h2
       refine XQ.seq ?_
       refine XC.cond (b := v12) rfl (fun c14 => ?_) (fun c14 => ?_)
       ·
        replace h2 := condT c14 h2
        refine XC.skip <| XQ.seq <| XC.block <| XC.seq <| XC.region <| XL.put rfl rfl (lb rfl) (OpOK.alloc z_59 rfl) <| XL.nil <| XQ.seq <| XC.seq <| XC.block <| XC.seq ?_
        refine XC.joinR (fun (v15 : Bool) => ⟨[(0, .v (.one (.yld 7))), (1, .v (.one (.ptr 4 0))), (2, .v (.one (.ptr 5 0))), (4, .v (.one (.ptr 9 0))), (31, .v (.one (dB v15)))], [(0, .cells 39 (cE a0)), (1, .cells 39 (cE a1)), (2, .cells 39 [dI 0, dN]), (3, .cells 39 [dI (max a0.c a1.c), dA 8 s2.1]), (4, .cells 37 [dS s2.2.1]), (5, .cells 37 [dS s2.2.2]), (6, .obj (.deferred (some []))), (7, .loop .ready none [(4, .v (.one (.ptr 2 0))), (6, .v (.one (.ptr 3 0))), (27, .v (.one (.fn 87 [(4, 0), (5, 0)])))] 39 #[28] m55_c0 m55_c1 6), (9, .cells 59 [dI 0, dI 0])], [(8, some ⟨59, 2, (Enc.encL s2.1).length⟩)], 10, 80, []⟩) (fun (v15 : Bool) => (cond v15
            (Option.bind (idx s2.2.1 0) fun (x17 : LV) =>
          guardO (cond (decide (0 ≤ (1 : Int))) (Nat.ble (1 : Int).toNat s2.2.1.length) false)
          (Option.bind (guardO (Nat.ble (s2.1.length + ([x17]).length) 1000000000)
          (some ())) (fun (y19 : Unit) => some (.next ((s2.1 ++ ([x17])), (s2.2.1.drop (1 : Int).toNat), s2.2.2)))))
            (Option.bind (cond ((s2.2.1.length : Int) == 0)
            (some true)
            (Option.bind (idx s2.2.2 0) fun (x25 : LV) =>
          Option.bind (idx s2.2.1 0) fun (x26 : LV) =>
          some (decide (x25.1 < x26.1)))) (fun (v23 : Bool) => cond v23
            (Option.bind (idx s2.2.2 0) fun (x25 : LV) =>
          guardO (cond (decide (0 ≤ (1 : Int))) (Nat.ble (1 : Int).toNat s2.2.2.length) false)
          (Option.bind (guardO (Nat.ble (s2.1.length + ([x25]).length) 1000000000)
          (some ())) (fun (y27 : Unit) => some (.next ((s2.1 ++ ([x25])), s2.2.1, (s2.2.2.drop (1 : Int).toNat))))))
            (Option.bind (idx s2.2.1 0) fun (x31 : LV) =>
          Option.bind (idx s2.2.1 0) fun (x32 : LV) =>
          Option.bind (idx s2.2.2 0) fun (x33 : LV) =>
          guardO (cond (decide (0 ≤ (1 : Int))) (Nat.ble (1 : Int).toNat s2.2.1.length) false)
          (guardO (cond (decide (0 ≤ (1 : Int))) (Nat.ble (1 : Int).toNat s2.2.2.length) false)
          (Option.bind (guardO (Nat.ble (s2.1.length + ([(x31.1, (max x32.2 x33.2))]).length) 1000000000)
          (some ())) (fun (y36 : Unit) => some (.next ((s2.1 ++ ([(x31.1, (max x32.2 x33.2))])), (s2.2.1.drop (1 : Int).toNat), (s2.2.2.drop (1 : Int).toNat)))))))))) = some oo2) ?_ ?_
        ·
         refine bindK h2 (fun v_ h3 h2 => ?_)
         refine XC.anyRun [] [] mixed (by kernel_rfl) (by kernel_rfl) (by kernel_rfl) ?_
         refine RunA.rd rfl rfl rfl (OpOK.of_ro (RO.loadOwn ag_37 rfl rfl rfl)) rfl <| RunA.rd rfl rfl rfl (OpOK.of_ro (RO.lenE (α := LV) sl_37 rfl (.d _))) rfl <| RunA.rd rfl rfl rfl (OpOK.of_ro (RO.binInt rfl rfl rfl)) rfl ?_
         refine RunA.case (c := ((s2.2.2.length : Int) == 0)) rfl rfl rfl (OpOK.of_ro (RO.move rfl)) rfl (fun c16 => ?_) (fun c16 => ?_)
         ·
          replace h3 := condT c16 h3
          refine RunA.no rfl rfl rfl rfl <| RunA.no rfl rfl rfl rfl <| RunA.no rfl rfl rfl rfl <| RunA.no rfl rfl rfl rfl <| RunA.no rfl rfl rfl rfl <| RunA.no rfl rfl rfl rfl <| RunA.no rfl rfl rfl rfl <| RunA.no rfl rfl rfl rfl <| RunA.no rfl rfl rfl rfl <| RunA.no rfl rfl rfl rfl <| RunA.no rfl rfl rfl rfl <| RunA.no rfl rfl rfl rfl <| RunA.no rfl rfl rfl rfl <| RunA.no rfl rfl rfl rfl ?_
          refine RunA.rd rfl rfl rfl (OpOK.of_ro (RO.pickT rfl rfl)) rfl <| RunA.rd rfl rfl rfl (OpOK.of_ro (RO.assign rfl)) rfl ?_
          refine RunA.nil ⟨?ex, _, _, rfl, ?_⟩
          case ex => exact trivial
          have e_ := Option.some.inj h3
          subst e_
          exact XQ.joinR true (stle (tR rfl (tR rfl (tR rfl (tR rfl (tR rfl tZ))))) (hR rfl (hR rfl (hR rfl (hR rfl (hR rfl (hR rfl (hR rfl (hR rfl (hR rfl hZ))))))))) (kR rfl kZ) rfl (Nat.le_trans hv1 (lb rfl)) rfl rfl rfl (bB rfl rfl (bB rfl rfl (bB rfl rfl (bB rfl rfl (bB rfl rfl (bB rfl rfl (bB rfl rfl (bB rfl rfl (bB rfl rfl bZ))))))))) rfl rfl) h2
         ·
          replace h3 := condF c16 h3
          refine RunA.rd rfl rfl rfl (OpOK.of_ro (RO.loadOwn ag_37 rfl rfl rfl)) rfl <| RunA.rd rfl rfl rfl (OpOK.of_ro (RO.lenE (α := LV) sl_37 rfl (.d _))) rfl <| RunA.rd rfl rfl rfl (OpOK.of_ro (RO.binInt rfl rfl rfl)) rfl ?_
          refine RunA.case (c := (decide (0 < (s2.2.1.length : Int)))) rfl rfl rfl (OpOK.of_ro (RO.move rfl)) rfl (fun c17 => ?_) (fun c17 => ?_)
          ·
           replace h3 := condT c17 h3
           refine RunA.rd rfl rfl rfl (OpOK.of_ro (RO.loadOwn ag_37 rfl rfl rfl)) rfl ?_
           refine bindK h3 (fun x18 hx18 h3 => ?_)
           refine RunA.rd rfl rfl rfl (OpOK.of_ro (RO.indexE (α := LV) sl_37 rfl (.d _) rfl hx18)) rfl <| RunA.rd rfl rfl rfl (OpOK.of_ro (RO.fieldPel fo_59_0 rfl)) rfl <| RunA.rd rfl rfl rfl (OpOK.of_ro (RO.loadPel ag_3 rfl rfl)) rfl <| RunA.rd rfl rfl rfl (OpOK.of_ro (RO.loadOwn ag_37 rfl rfl rfl)) rfl ?_
           refine bindK h3 (fun x19 hx19 h3 => ?_)
           refine RunA.rd rfl rfl rfl (OpOK.of_ro (RO.indexE (α := LV) sl_37 rfl (.d _) rfl hx19)) rfl <| RunA.rd rfl rfl rfl (OpOK.of_ro (RO.fieldPel fo_59_0 rfl)) rfl <| RunA.rd rfl rfl rfl (OpOK.of_ro (RO.loadPel ag_3 rfl rfl)) rfl <| RunA.rd rfl rfl rfl (OpOK.of_ro (RO.binInt rfl rfl rfl)) rfl <| RunA.rd rfl rfl rfl (OpOK.of_ro (RO.pickT rfl rfl)) rfl <| RunA.rd rfl rfl rfl (OpOK.of_ro (RO.pickF rfl rfl)) rfl <| RunA.rd rfl rfl rfl (OpOK.of_ro (RO.assign rfl)) rfl ?_
           refine RunA.nil ⟨?ex, _, _, rfl, ?_⟩
           case ex => exact trivial
           have e_ := Option.some.inj h3
           subst e_
           exact XQ.joinR (decide (x18.1 < x19.1)) (stle (tR rfl (tR rfl (tR rfl (tR rfl (tR rfl tZ))))) (hR rfl (hR rfl (hR rfl (hR rfl (hR rfl (hR rfl (hR rfl (hR rfl (hR rfl hZ))))))))) (kR rfl kZ) rfl (Nat.le_trans hv1 (lb rfl)) rfl rfl rfl (bB rfl rfl (bB rfl rfl (bB rfl rfl (bB rfl rfl (bB rfl rfl (bB rfl rfl (bB rfl rfl (bB rfl rfl (bB rfl rfl bZ))))))))) rfl rfl) h2
          ·
           replace h3 := condF c17 h3
           refine RunA.no rfl rfl rfl rfl <| RunA.no rfl rfl rfl rfl <| RunA.no rfl rfl rfl rfl <| RunA.no rfl rfl rfl rfl <| RunA.no rfl rfl rfl rfl <| RunA.no rfl rfl rfl rfl <| RunA.no rfl rfl rfl rfl <| RunA.no rfl rfl rfl rfl <| RunA.no rfl rfl rfl rfl <| RunA.rd rfl rfl rfl (OpOK.of_ro (RO.pickF rfl rfl)) rfl <| RunA.rd rfl rfl rfl (OpOK.of_ro (RO.pickF rfl rfl)) rfl <| RunA.rd rfl rfl rfl (OpOK.of_ro (RO.assign rfl)) rfl ?_
           refine RunA.nil ⟨?ex, _, _, rfl, ?_⟩
           case ex => exact trivial
           have e_ := Option.some.inj h3
           subst e_
           exact XQ.joinR false (stle (tR rfl (tR rfl (tR rfl (tR rfl (tR rfl tZ))))) (hR rfl (hR rfl (hR rfl (hR rfl (hR rfl (hR rfl (hR rfl (hR rfl (hR rfl hZ))))))))) (kR rfl kZ) rfl (Nat.le_trans hv1 (lb rfl)) rfl rfl rfl (bB rfl rfl (bB rfl rfl (bB rfl rfl (bB rfl rfl (bB rfl rfl (bB rfl rfl (bB rfl rfl (bB rfl rfl (bB rfl rfl bZ))))))))) rfl rfl) h2
        ·
         intro v15 h2
         refine XQ.seq ?_
         refine XC.cond (b := v15) rfl (fun c20 => ?_) (fun c20 => ?_)
         ·
          replace h2 := condT c20 h2
          refine XC.anyRun [5, 6] [(3, 1), (4, 1)] mixed (by kernel_rfl) (by kernel_rfl) (by kernel_rfl) ?_
          refine RunA.rd rfl rfl rfl (OpOK.of_ro (RO.loadOwn ag_37 rfl rfl rfl)) rfl ?_
          refine bindK h2 (fun x21 hx21 h2 => ?_)
          refine RunA.rd rfl rfl rfl (OpOK.of_ro (RO.indexE (α := LV) sl_37 rfl (.d _) rfl hx21)) rfl <| RunA.rd rfl rfl rfl (OpOK.of_ro (RO.loadPelAgg ag_59 rfl rfl rfl)) rfl <| RunA.rd rfl rfl rfl (OpOK.of_ro (RO.loadOwn ag_37 rfl rfl rfl)) rfl ?_
          refine guardK h2 (fun g22 h2 => ?_)
          refine RunA.rd rfl rfl rfl (OpOK.of_ro (RO.sliceFrom (α := LV) sl_37 rfl (.d _) rfl g22)) rfl <| RunA.eff rfl rfl rfl (OpOK.store ag_59 rfl rfl rfl rfl (lb rfl) rfl) rfl <| RunA.eff rfl rfl rfl (OpOK.store ag_37 rfl rfl rfl rfl (lb rfl) rfl) rfl ?_
          refine RunA.nil ⟨?ex, _, _, rfl, ?_⟩
          case ex => exact ⟨⟨_, rfl, _, _, rfl, rfl, rfl, .inl ⟨rfl, _, OpOK.of_ro (RO.loadOwn ag_37 rfl rfl rfl), rfl⟩⟩, ⟨_, rfl, _, _, rfl, rfl, rfl, .inl ⟨rfl, _, OpOK.of_ro (RO.sliceFrom (α := LV) sl_37 rfl (.d _) rfl g22), rfl⟩⟩, trivial⟩
          refine XQ.less (st' := ⟨[(0, .v (.one (.yld 7))), (1, .v (.one (.ptr 4 0))), (2, .v (.one (.ptr 5 0))), (4, .v (.one (.ptr 9 0)))], [(0, .cells 39 (cE a0)), (1, .cells 39 (cE a1)), (2, .cells 39 [dI 0, dN]), (3, .cells 39 [dI (max a0.c a1.c), dA 8 s2.1]), (4, .cells 37 [dS ((s2.2.1.drop (1 : Int).toNat) : List LV)]), (5, .cells 37 [dS s2.2.2]), (6, .obj (.deferred (some []))), (7, .loop .ready none [(4, .v (.one (.ptr 2 0))), (6, .v (.one (.ptr 3 0))), (27, .v (.one (.fn 87 [(4, 0), (5, 0)])))] 39 #[28] m55_c0 m55_c1 6), (9, .cells 59 (cE x21))], [(8, some ⟨59, 2, (Enc.encL s2.1).length⟩)], 10, 80, []⟩) (stle (tR rfl (tR rfl (tR rfl (tR rfl tZ)))) (hR rfl (hR rfl (hR rfl (hR rfl (hR rfl (hR rfl (hR rfl (hR rfl (hR rfl hZ))))))))) (kR rfl kZ) rfl (Nat.le_trans hv1 (lb rfl)) rfl rfl rfl (bB rfl rfl (bB rfl rfl (bB rfl rfl (bB rfl rfl (bB rfl rfl (bB rfl rfl (bB rfl rfl (bB rfl rfl (bB rfl rfl bZ))))))))) rfl rfl) <| XQ.inBlock <| XQ.seq <| XC.seq <| XC.region <| rM rfl rfl rfl <| rR rfl rfl rfl (RO.loadOwnAgg ag_59 rfl rfl rfl rfl) ?_
          refine bindK h2 (fun y23 h3 h2 => ?_)
          have ha24 : ExecOK Try.prog (some 7) m55_c0 ⟨[(4, .v (.one (.ptr 2 0))), (6, .v (.one (.ptr 3 0))), (27, .v (.one (.fn 87 [(4, 0), (5, 0)]))), (28, .v (.agg (cE x21)))], [(0, .cells 39 (cE a0)), (1, .cells 39 (cE a1)), (2, .cells 39 [dI 0, dN]), (3, .cells 39 [dI (max a0.c a1.c), dA 8 s2.1]), (4, .cells 37 [dS ((s2.2.1.drop (1 : Int).toNat) : List LV)]), (5, .cells 37 [dS s2.2.2]), (6, .obj (.deferred (some []))), (7, .loop .ready none [(4, .v (.one (.ptr 2 0))), (6, .v (.one (.ptr 3 0))), (27, .v (.one (.fn 87 [(4, 0), (5, 0)])))] 39 #[28] m55_c0 m55_c1 6), (9, .cells 59 (cE x21))], [(8, some ⟨59, 2, (Enc.encL s2.1).length⟩)], 10, 39, []⟩ .normal ⟨[(6, .v (.one (.ptr 3 0))), (7, .v (.one (.ptr 10 0)))], [(0, .cells 39 (cE a0)), (1, .cells 39 (cE a1)), (2, .cells 39 [dI 0, dN]), (3, .cells 39 [dI (max a0.c a1.c), dA 8 s2.1]), (4, .cells 37 [dS ((s2.2.1.drop (1 : Int).toNat) : List LV)]), (5, .cells 37 [dS s2.2.2]), (6, .obj (.deferred (some []))), (7, .loop .ready none [(4, .v (.one (.ptr 2 0))), (6, .v (.one (.ptr 3 0))), (27, .v (.one (.fn 87 [(4, 0), (5, 0)])))] 39 #[28] m55_c0 m55_c1 6), (9, .cells 59 (cE x21)), (10, .cells 59 (cE x21))], [(8, some ⟨59, 2, (Enc.encL s2.1).length⟩)], 11, 39, []⟩ := by
           refine ExecOK.walk (fun w0 M V0 ro n Q hv3 hro3 hQn3 => ?_)
           refine XC.region <| XL.put rfl rfl (lb rfl) (OpOK.alloc z_59 rfl) <| XL.eff rfl rfl (OpOK.store ag_59 rfl rfl rfl rfl (lb rfl) rfl) <| XL.nil ?_
           exact XQ.of hQn3 (stle (tR rfl (tR rfl tZ)) (hR rfl (hR rfl (hR rfl (hR rfl (hR rfl (hR rfl (hR rfl (hR rfl (hR rfl (hR rfl hZ)))))))))) (kR rfl kZ) rfl (Nat.le_trans hv3 (lb rfl)) rfl rfl rfl (bB rfl rfl (bB rfl rfl (bB rfl rfl (bB rfl rfl (bB rfl rfl (bB rfl rfl (bB rfl rfl (bB rfl rfl (bB rfl rfl (bB rfl rfl bZ)))))))))) rfl rfl)
          have hb25 : ExecOK Try.prog (some 7) m55_c1 ⟨[(6, .v (.one (.ptr 3 0))), (7, .v (.one (.ptr 10 0)))], [(0, .cells 39 (cE a0)), (1, .cells 39 (cE a1)), (2, .cells 39 [dI 0, dN]), (3, .cells 39 [dI (max a0.c a1.c), dA 8 s2.1]), (4, .cells 37 [dS ((s2.2.1.drop (1 : Int).toNat) : List LV)]), (5, .cells 37 [dS s2.2.2]), (6, .obj (.deferred (some []))), (7, .loop .busy none [(4, .v (.one (.ptr 2 0))), (6, .v (.one (.ptr 3 0))), (27, .v (.one (.fn 87 [(4, 0), (5, 0)])))] 39 #[28] m55_c0 m55_c1 6), (9, .cells 59 (cE x21)), (10, .cells 59 (cE x21))], [(8, some ⟨59, 2, (Enc.encL s2.1).length⟩)], 11, 39, []⟩ .normal ⟨[], [(0, .cells 39 (cE a0)), (1, .cells 39 (cE a1)), (2, .cells 39 [dI 0, dN]), (3, .cells 39 [dI (max a0.c a1.c), dA 8 ((s2.1 ++ ([x21])) : List LV)]), (4, .cells 37 [dS ((s2.2.1.drop (1 : Int).toNat) : List LV)]), (5, .cells 37 [dS s2.2.2]), (6, .obj (.deferred (some []))), (7, .loop .busy none [(4, .v (.one (.ptr 2 0))), (6, .v (.one (.ptr 3 0))), (27, .v (.one (.fn 87 [(4, 0), (5, 0)])))] 39 #[28] m55_c0 m55_c1 6), (9, .cells 59 (cE x21))], [(8, some ⟨59, 2, (Enc.encL ((s2.1 ++ ([x21])) : List LV)).length⟩)], 12, 39, []⟩ := by
           refine ExecOK.walk (fun w0 M V0 ro n Q hv3 hro3 hQn3 => ?_)
           refine XC.block <| XC.region <| rR rfl rfl rfl (RO.fieldOwn fo_39_1 rfl) <| rR rfl rfl rfl (RO.loadOwn ag_37 rfl rfl rfl) <| rR rfl rfl rfl (RO.loadOwnAgg ag_59 rfl rfl rfl rfl) <| XL.put rfl rfl (lb rfl) (OpOK.lit1E (α := LV) (x21) sl_37 z_59 rfl rfl (lb rfl) (lb rfl) rfl rfl (.cons (.d _) (.cons (.d _) .nil)) rfl) ?_
           refine guardK h3 (fun g26 h3 => ?_)
           refine XL.put rfl rfl (lb rfl) (OpOK.appendE (α := LV) sl_37 el_59 rfl rfl rfl rfl rfl (.app _ _) g26) <| rR rfl rfl rfl (RO.fieldOwn fo_39_1 rfl) <| XL.eff rfl rfl (OpOK.store ag_37 rfl rfl rfl rfl (lb rfl) rfl) <| XL.nil <| XQ.inBlock ?_
           have e_ := Option.some.inj h3
           subst e_
           exact XQ.of hQn3 (stle tZ (hR rfl (hR rfl (hR rfl (hR rfl (hR rfl (hR rfl (hR rfl (hR rfl (hR rfl hZ))))))))) (kR rfl kZ) rfl (Nat.le_trans hv3 (lb rfl)) rfl rfl rfl (bB rfl rfl (bB rfl rfl (bB rfl rfl (bB rfl rfl (bB rfl rfl (bB rfl rfl (bB rfl rfl (bB rfl rfl (bB rfl rfl bZ))))))))) rfl rfl)
          refine XL.put rfl rfl (lb rfl) (OpOK.yield (jump := none) rfl rfl rfl rfl rfl (ExecOK.from ha24 (fun E hv => (stle (tR rfl (tR rfl (tR rfl (tR rfl tZ)))) (hR rfl (hR rfl (hR rfl (hR rfl (hR rfl (hR rfl (hR rfl (hR rfl (hR rfl hZ))))))))) (kR rfl kZ) rfl (Nat.le_trans hv (lb rfl)) rfl rfl rfl (bB rfl rfl (bB rfl rfl (bB rfl rfl (bB rfl rfl (bB rfl rfl (bB rfl rfl (bB rfl rfl (bB rfl rfl (bB rfl rfl bZ))))))))) rfl rfl))) rfl (ExecOK.from hb25 (fun E hv => (stle (tR rfl (tR rfl tZ)) (hR rfl (hR rfl (hR rfl (hR rfl (hR rfl (hR rfl (hR rfl (hR rfl (hR rfl (hR rfl hZ)))))))))) (kR rfl kZ) rfl (Nat.le_trans hv (lb rfl)) rfl rfl rfl (bB rfl rfl (bB rfl rfl (bB rfl rfl (bB rfl rfl (bB rfl rfl (bB rfl rfl (bB rfl rfl (bB rfl rfl (bB rfl rfl (bB rfl rfl bZ)))))))))) rfl rfl))) rfl rfl) ?_
          refine rR rfl rfl rfl (RO.not rfl) <| XL.nil <| XQ.seq ?_
          refine XC.cond rfl (fun h => nomatch h) (fun _ => ?_)
          refine XC.skip <| XQ.inBlock ?_
          have e_ := Option.some.inj h2
          subst e_
          refine XQ.nextM ((s2.1 ++ ([x21])), (s2.2.1.drop (1 : Int).toNat), s2.2.2) (stle (tR rfl (tR rfl (tR rfl tZ))) (hR rfl (hR rfl (hR rfl (hR rfl (hR rfl (hR rfl (hR rfl (hR rfl hZ)))))))) (kR rfl kZ) rfl (Nat.le_trans hv1 (lb rfl)) rfl rfl rfl (bB rfl rfl (bB rfl rfl (bB rfl rfl (bB rfl rfl (bB rfl rfl (bB rfl rfl (bB rfl rfl (bB rfl rfl bZ)))))))) rfl rfl) ho2
         ·
          replace h2 := condF c20 h2
          refine XC.seq ?_
          refine XC.joinR (fun (v27 : Bool) => ⟨[(0, .v (.one (.yld 7))), (1, .v (.one (.ptr 4 0))), (2, .v (.one (.ptr 5 0))), (4, .v (.one (.ptr 9 0))), (56, .v (.one (dB v27)))], [(0, .cells 39 (cE a0)), (1, .cells 39 (cE a1)), (2, .cells 39 [dI 0, dN]), (3, .cells 39 [dI (max a0.c a1.c), dA 8 s2.1]), (4, .cells 37 [dS s2.2.1]), (5, .cells 37 [dS s2.2.2]), (6, .obj (.deferred (some []))), (7, .loop .ready none [(4, .v (.one (.ptr 2 0))), (6, .v (.one (.ptr 3 0))), (27, .v (.one (.fn 87 [(4, 0), (5, 0)])))] 39 #[28] m55_c0 m55_c1 6), (9, .cells 59 [dI 0, dI 0])], [(8, some ⟨59, 2, (Enc.encL s2.1).length⟩)], 10, 80, []⟩) (fun (v27 : Bool) => (cond v27
              (Option.bind (idx s2.2.2 0) fun (x29 : LV) =>
            guardO (cond (decide (0 ≤ (1 : Int))) (Nat.ble (1 : Int).toNat s2.2.2.length) false)
            (Option.bind (guardO (Nat.ble (s2.1.length + ([x29]).length) 1000000000)
            (some ())) (fun (y31 : Unit) => some (.next ((s2.1 ++ ([x29])), s2.2.1, (s2.2.2.drop (1 : Int).toNat))))))
              (Option.bind (idx s2.2.1 0) fun (x35 : LV) =>
            Option.bind (idx s2.2.1 0) fun (x36 : LV) =>
            Option.bind (idx s2.2.2 0) fun (x37 : LV) =>
            guardO (cond (decide (0 ≤ (1 : Int))) (Nat.ble (1 : Int).toNat s2.2.1.length) false)
            (guardO (cond (decide (0 ≤ (1 : Int))) (Nat.ble (1 : Int).toNat s2.2.2.length) false)
            (Option.bind (guardO (Nat.ble (s2.1.length + ([(x35.1, (max x36.2 x37.2))]).length) 1000000000)
            (some ())) (fun (y40 : Unit) => some (.next ((s2.1 ++ ([(x35.1, (max x36.2 x37.2))])), (s2.2.1.drop (1 : Int).toNat), (s2.2.2.drop (1 : Int).toNat)))))))) = some oo2) ?_ ?_
          ·
           refine bindK h2 (fun v_ h3 h2 => ?_)
           refine XC.anyRun [] [] mixed (by kernel_rfl) (by kernel_rfl) (by kernel_rfl) ?_
           refine RunA.rd rfl rfl rfl (OpOK.of_ro (RO.loadOwn ag_37 rfl rfl rfl)) rfl <| RunA.rd rfl rfl rfl (OpOK.of_ro (RO.lenE (α := LV) sl_37 rfl (.d _))) rfl <| RunA.rd rfl rfl rfl (OpOK.of_ro (RO.binInt rfl rfl rfl)) rfl ?_
           refine RunA.case (c := ((s2.2.1.length : Int) == 0)) rfl rfl rfl (OpOK.of_ro (RO.move rfl)) rfl (fun c28 => ?_) (fun c28 => ?_)
           ·
            replace h3 := condT c28 h3
            refine RunA.no rfl rfl rfl rfl <| RunA.no rfl rfl rfl rfl <| RunA.no rfl rfl rfl rfl <| RunA.no rfl rfl rfl rfl <| RunA.no rfl rfl rfl rfl <| RunA.no rfl rfl rfl rfl <| RunA.no rfl rfl rfl rfl <| RunA.no rfl rfl rfl rfl <| RunA.no rfl rfl rfl rfl <| RunA.rd rfl rfl rfl (OpOK.of_ro (RO.pickT rfl rfl)) rfl <| RunA.rd rfl rfl rfl (OpOK.of_ro (RO.assign rfl)) rfl ?_
            refine RunA.nil ⟨?ex, _, _, rfl, ?_⟩
            case ex => exact trivial
            have e_ := Option.some.inj h3
            subst e_
            exact XQ.joinR true (stle (tR rfl (tR rfl (tR rfl (tR rfl (tR rfl tZ))))) (hR rfl (hR rfl (hR rfl (hR rfl (hR rfl (hR rfl (hR rfl (hR rfl (hR rfl hZ))))))))) (kR rfl kZ) rfl (Nat.le_trans hv1 (lb rfl)) rfl rfl rfl (bB rfl rfl (bB rfl rfl (bB rfl rfl (bB rfl rfl (bB rfl rfl (bB rfl rfl (bB rfl rfl (bB rfl rfl (bB rfl rfl bZ))))))))) rfl rfl) h2
           ·
            replace h3 := condF c28 h3
            refine RunA.rd rfl rfl rfl (OpOK.of_ro (RO.loadOwn ag_37 rfl rfl rfl)) rfl ?_
            refine bindK h3 (fun x29 hx29 h3 => ?_)
            refine RunA.rd rfl rfl rfl (OpOK.of_ro (RO.indexE (α := LV) sl_37 rfl (.d _) rfl hx29)) rfl <| RunA.rd rfl rfl rfl (OpOK.of_ro (RO.fieldPel fo_59_0 rfl)) rfl <| RunA.rd rfl rfl rfl (OpOK.of_ro (RO.loadPel ag_3 rfl rfl)) rfl <| RunA.rd rfl rfl rfl (OpOK.of_ro (RO.loadOwn ag_37 rfl rfl rfl)) rfl ?_
            refine bindK h3 (fun x30 hx30 h3 => ?_)
            refine RunA.rd rfl rfl rfl (OpOK.of_ro (RO.indexE (α := LV) sl_37 rfl (.d _) rfl hx30)) rfl <| RunA.rd rfl rfl rfl (OpOK.of_ro (RO.fieldPel fo_59_0 rfl)) rfl <| RunA.rd rfl rfl rfl (OpOK.of_ro (RO.loadPel ag_3 rfl rfl)) rfl <| RunA.rd rfl rfl rfl (OpOK.of_ro (RO.binInt rfl rfl rfl)) rfl <| RunA.rd rfl rfl rfl (OpOK.of_ro (RO.pickF rfl rfl)) rfl <| RunA.rd rfl rfl rfl (OpOK.of_ro (RO.assign rfl)) rfl ?_
            refine RunA.nil ⟨?ex, _, _, rfl, ?_⟩
            case ex => exact trivial
            have e_ := Option.some.inj h3
            subst e_
            exact XQ.joinR (decide (x29.1 < x30.1)) (stle (tR rfl (tR rfl (tR rfl (tR rfl (tR rfl tZ))))) (hR rfl (hR rfl (hR rfl (hR rfl (hR rfl (hR rfl (hR rfl (hR rfl (hR rfl hZ))))))))) (kR rfl kZ) rfl (Nat.le_trans hv1 (lb rfl)) rfl rfl rfl (bB rfl rfl (bB rfl rfl (bB rfl rfl (bB rfl rfl (bB rfl rfl (bB rfl rfl (bB rfl rfl (bB rfl rfl (bB rfl rfl bZ))))))))) rfl rfl) h2
          ·
           intro v27 h2
           refine XQ.seq ?_
           refine XC.cond (b := v27) rfl (fun c31 => ?_) (fun c31 => ?_)
           ·
            replace h2 := condT c31 h2
            refine XC.anyRun [5, 6] [(3, 1), (4, 1)] mixed (by kernel_rfl) (by kernel_rfl) (by kernel_rfl) ?_
            refine RunA.rd rfl rfl rfl (OpOK.of_ro (RO.loadOwn ag_37 rfl rfl rfl)) rfl ?_
            refine bindK h2 (fun x32 hx32 h2 => ?_)
            refine RunA.rd rfl rfl rfl (OpOK.of_ro (RO.indexE (α := LV) sl_37 rfl (.d _) rfl hx32)) rfl <| RunA.rd rfl rfl rfl (OpOK.of_ro (RO.loadPelAgg ag_59 rfl rfl rfl)) rfl <| RunA.rd rfl rfl rfl (OpOK.of_ro (RO.loadOwn ag_37 rfl rfl rfl)) rfl ?_
            refine guardK h2 (fun g33 h2 => ?_)
            refine RunA.rd rfl rfl rfl (OpOK.of_ro (RO.sliceFrom (α := LV) sl_37 rfl (.d _) rfl g33)) rfl <| RunA.eff rfl rfl rfl (OpOK.store ag_59 rfl rfl rfl rfl (lb rfl) rfl) rfl <| RunA.eff rfl rfl rfl (OpOK.store ag_37 rfl rfl rfl rfl (lb rfl) rfl) rfl ?_
            refine RunA.nil ⟨?ex, _, _, rfl, ?_⟩
            case ex => exact ⟨⟨_, rfl, _, _, rfl, rfl, rfl, .inl ⟨rfl, _, OpOK.of_ro (RO.loadOwn ag_37 rfl rfl rfl), rfl⟩⟩, ⟨_, rfl, _, _, rfl, rfl, rfl, .inl ⟨rfl, _, OpOK.of_ro (RO.sliceFrom (α := LV) sl_37 rfl (.d _) rfl g33), rfl⟩⟩, trivial⟩
            refine XQ.less (st' := ⟨[(0, .v (.one (.yld 7))), (1, .v (.one (.ptr 4 0))), (2, .v (.one (.ptr 5 0))), (4, .v (.one (.ptr 9 0)))], [(0, .cells 39 (cE a0)), (1, .cells 39 (cE a1)), (2, .cells 39 [dI 0, dN]), (3, .cells 39 [dI (max a0.c a1.c), dA 8 s2.1]), (4, .cells 37 [dS s2.2.1]), (5, .cells 37 [dS ((s2.2.2.drop (1 : Int).toNat) : List LV)]), (6, .obj (.deferred (some []))), (7, .loop .ready none [(4, .v (.one (.ptr 2 0))), (6, .v (.one (.ptr 3 0))), (27, .v (.one (.fn 87 [(4, 0), (5, 0)])))] 39 #[28] m55_c0 m55_c1 6), (9, .cells 59 (cE x32))], [(8, some ⟨59, 2, (Enc.encL s2.1).length⟩)], 10, 80, []⟩) (stle (tR rfl (tR rfl (tR rfl (tR rfl tZ)))) (hR rfl (hR rfl (hR rfl (hR rfl (hR rfl (hR rfl (hR rfl (hR rfl (hR rfl hZ))))))))) (kR rfl kZ) rfl (Nat.le_trans hv1 (lb rfl)) rfl rfl rfl (bB rfl rfl (bB rfl rfl (bB rfl rfl (bB rfl rfl (bB rfl rfl (bB rfl rfl (bB rfl rfl (bB rfl rfl (bB rfl rfl bZ))))))))) rfl rfl) <| XQ.inBlock <| XQ.seq <| XC.seq <| XC.region <| rM rfl rfl rfl <| rR rfl rfl rfl (RO.loadOwnAgg ag_59 rfl rfl rfl rfl) ?_
            refine bindK h2 (fun y34 h3 h2 => ?_)
            have ha35 : ExecOK Try.prog (some 7) m55_c0 ⟨[(4, .v (.one (.ptr 2 0))), (6, .v (.one (.ptr 3 0))), (27, .v (.one (.fn 87 [(4, 0), (5, 0)]))), (28, .v (.agg (cE x32)))], [(0, .cells 39 (cE a0)), (1, .cells 39 (cE a1)), (2, .cells 39 [dI 0, dN]), (3, .cells 39 [dI (max a0.c a1.c), dA 8 s2.1]), (4, .cells 37 [dS s2.2.1]), (5, .cells 37 [dS ((s2.2.2.drop (1 : Int).toNat) : List LV)]), (6, .obj (.deferred (some []))), (7, .loop .ready none [(4, .v (.one (.ptr 2 0))), (6, .v (.one (.ptr 3 0))), (27, .v (.one (.fn 87 [(4, 0), (5, 0)])))] 39 #[28] m55_c0 m55_c1 6), (9, .cells 59 (cE x32))], [(8, some ⟨59, 2, (Enc.encL s2.1).length⟩)], 10, 39, []⟩ .normal ⟨[(6, .v (.one (.ptr 3 0))), (7, .v (.one (.ptr 10 0)))], [(0, .cells 39 (cE a0)), (1, .cells 39 (cE a1)), (2, .cells 39 [dI 0, dN]), (3, .cells 39 [dI (max a0.c a1.c), dA 8 s2.1]), (4, .cells 37 [dS s2.2.1]), (5, .cells 37 [dS ((s2.2.2.drop (1 : Int).toNat) : List LV)]), (6, .obj (.deferred (some []))), (7, .loop .ready none [(4, .v (.one (.ptr 2 0))), (6, .v (.one (.ptr 3 0))), (27, .v (.one (.fn 87 [(4, 0), (5, 0)])))] 39 #[28] m55_c0 m55_c1 6), (9, .cells 59 (cE x32)), (10, .cells 59 (cE x32))], [(8, some ⟨59, 2, (Enc.encL s2.1).length⟩)], 11, 39, []⟩ := by
             refine ExecOK.walk (fun w0 M V0 ro n Q hv3 hro3 hQn3 => ?_)
             refine XC.region <| XL.put rfl rfl (lb rfl) (OpOK.alloc z_59 rfl) <| XL.eff rfl rfl (OpOK.store ag_59 rfl rfl rfl rfl (lb rfl) rfl) <| XL.nil ?_
             exact XQ.of hQn3 (stle (tR rfl (tR rfl tZ)) (hR rfl (hR rfl (hR rfl (hR rfl (hR rfl (hR rfl (hR rfl (hR rfl (hR rfl (hR rfl hZ)))))))))) (kR rfl kZ) rfl (Nat.le_trans hv3 (lb rfl)) rfl rfl rfl (bB rfl rfl (bB rfl rfl (bB rfl rfl (bB rfl rfl (bB rfl rfl (bB rfl rfl (bB rfl rfl (bB rfl rfl (bB rfl rfl (bB rfl rfl bZ)))))))))) rfl rfl)
            have hb36 : ExecOK Try.prog (some 7) m55_c1 ⟨[(6, .v (.one (.ptr 3 0))), (7, .v (.one (.ptr 10 0)))], [(0, .cells 39 (cE a0)), (1, .cells 39 (cE a1)), (2, .cells 39 [dI 0, dN]), (3, .cells 39 [dI (max a0.c a1.c), dA 8 s2.1]), (4, .cells 37 [dS s2.2.1]), (5, .cells 37 [dS ((s2.2.2.drop (1 : Int).toNat) : List LV)]), (6, .obj (.deferred (some []))), (7, .loop .busy none [(4, .v (.one (.ptr 2 0))), (6, .v (.one (.ptr 3 0))), (27, .v (.one (.fn 87 [(4, 0), (5, 0)])))] 39 #[28] m55_c0 m55_c1 6), (9, .cells 59 (cE x32)), (10, .cells 59 (cE x32))], [(8, some ⟨59, 2, (Enc.encL s2.1).length⟩)], 11, 39, []⟩ .normal ⟨[], [(0, .cells 39 (cE a0)), (1, .cells 39 (cE a1)), (2, .cells 39 [dI 0, dN]), (3, .cells 39 [dI (max a0.c a1.c), dA 8 ((s2.1 ++ ([x32])) : List LV)]), (4, .cells 37 [dS s2.2.1]), (5, .cells 37 [dS ((s2.2.2.drop (1 : Int).toNat) : List LV)]), (6, .obj (.deferred (some []))), (7, .loop .busy none [(4, .v (.one (.ptr 2 0))), (6, .v (.one (.ptr 3 0))), (27, .v (.one (.fn 87 [(4, 0), (5, 0)])))] 39 #[28] m55_c0 m55_c1 6), (9, .cells 59 (cE x32))], [(8, some ⟨59, 2, (Enc.encL ((s2.1 ++ ([x32])) : List LV)).length⟩)], 12, 39, []⟩ := by
             refine ExecOK.walk (fun w0 M V0 ro n Q hv3 hro3 hQn3 => ?_)
             refine XC.block <| XC.region <| rR rfl rfl rfl (RO.fieldOwn fo_39_1 rfl) <| rR rfl rfl rfl (RO.loadOwn ag_37 rfl rfl rfl) <| rR rfl rfl rfl (RO.loadOwnAgg ag_59 rfl rfl rfl rfl) <| XL.put rfl rfl (lb rfl) (OpOK.lit1E (α := LV) (x32) sl_37 z_59 rfl rfl (lb rfl) (lb rfl) rfl rfl (.cons (.d _) (.cons (.d _) .nil)) rfl) ?_
             refine guardK h3 (fun g37 h3 => ?_)
             refine XL.put rfl rfl (lb rfl) (OpOK.appendE (α := LV) sl_37 el_59 rfl rfl rfl rfl rfl (.app _ _) g37) <| rR rfl rfl rfl (RO.fieldOwn fo_39_1 rfl) <| XL.eff rfl rfl (OpOK.store ag_37 rfl rfl rfl rfl (lb rfl) rfl) <| XL.nil <| XQ.inBlock ?_
             have e_ := Option.some.inj h3
             subst e_
             exact XQ.of hQn3 (stle tZ (hR rfl (hR rfl (hR rfl (hR rfl (hR rfl (hR rfl (hR rfl (hR rfl (hR rfl hZ))))))))) (kR rfl kZ) rfl (Nat.le_trans hv3 (lb rfl)) rfl rfl rfl (bB rfl rfl (bB rfl rfl (bB rfl rfl (bB rfl rfl (bB rfl rfl (bB rfl rfl (bB rfl rfl (bB rfl rfl (bB rfl rfl bZ))))))))) rfl rfl)
            refine XL.put rfl rfl (lb rfl) (OpOK.yield (jump := none) rfl rfl rfl rfl rfl (ExecOK.from ha35 (fun E hv => (stle (tR rfl (tR rfl (tR rfl (tR rfl tZ)))) (hR rfl (hR rfl (hR rfl (hR rfl (hR rfl (hR rfl (hR rfl (hR rfl (hR rfl hZ))))))))) (kR rfl kZ) rfl (Nat.le_trans hv (lb rfl)) rfl rfl rfl (bB rfl rfl (bB rfl rfl (bB rfl rfl (bB rfl rfl (bB rfl rfl (bB rfl rfl (bB rfl rfl (bB rfl rfl (bB rfl rfl bZ))))))))) rfl rfl))) rfl (ExecOK.from hb36 (fun E hv => (stle (tR rfl (tR rfl tZ)) (hR rfl (hR rfl (hR rfl (hR rfl (hR rfl (hR rfl (hR rfl (hR rfl (hR rfl (hR rfl hZ)))))))))) (kR rfl kZ) rfl (Nat.le_trans hv (lb rfl)) rfl rfl rfl (bB rfl rfl (bB rfl rfl (bB rfl rfl (bB rfl rfl (bB rfl rfl (bB rfl rfl (bB rfl rfl (bB rfl rfl (bB rfl rfl (bB rfl rfl bZ)))))))))) rfl rfl))) rfl rfl) ?_
            refine rR rfl rfl rfl (RO.not rfl) <| XL.nil <| XQ.seq ?_
            refine XC.cond rfl (fun h => nomatch h) (fun _ => ?_)
            refine XC.skip <| XQ.inBlock ?_
            have e_ := Option.some.inj h2
            subst e_
            refine XQ.nextM ((s2.1 ++ ([x32])), s2.2.1, (s2.2.2.drop (1 : Int).toNat)) (stle (tR rfl (tR rfl (tR rfl tZ))) (hR rfl (hR rfl (hR rfl (hR rfl (hR rfl (hR rfl (hR rfl (hR rfl hZ)))))))) (kR rfl kZ) rfl (Nat.le_trans hv1 (lb rfl)) rfl rfl rfl (bB rfl rfl (bB rfl rfl (bB rfl rfl (bB rfl rfl (bB rfl rfl (bB rfl rfl (bB rfl rfl (bB rfl rfl bZ)))))))) rfl rfl) ho2
           ·
            replace h2 := condF c31 h2
            refine XC.seq ?_
            refine XC.anyRun [14] [] mixed (by kernel_rfl) (by kernel_rfl) (by kernel_rfl) ?_
            refine RunA.rd rfl rfl rfl (OpOK.of_ro (RO.loadOwn ag_37 rfl rfl rfl)) rfl ?_
            refine bindK h2 (fun x38 hx38 h2 => ?_)
            refine RunA.rd rfl rfl rfl (OpOK.of_ro (RO.indexE (α := LV) sl_37 rfl (.d _) rfl hx38)) rfl <| RunA.rd rfl rfl rfl (OpOK.of_ro (RO.fieldPel fo_59_0 rfl)) rfl <| RunA.rd rfl rfl rfl (OpOK.of_ro (RO.loadPel ag_3 rfl rfl)) rfl <| RunA.rd rfl rfl rfl (OpOK.of_ro (RO.loadOwn ag_37 rfl rfl rfl)) rfl ?_
            refine bindK h2 (fun x39 hx39 h2 => ?_)
            refine RunA.rd rfl rfl rfl (OpOK.of_ro (RO.indexE (α := LV) sl_37 rfl (.d _) rfl hx39)) rfl <| RunA.rd rfl rfl rfl (OpOK.of_ro (RO.fieldPel fo_59_1 rfl)) rfl <| RunA.rd rfl rfl rfl (OpOK.of_ro (RO.loadPel ag_3 rfl rfl)) rfl <| RunA.rd rfl rfl rfl (OpOK.of_ro (RO.loadOwn ag_37 rfl rfl rfl)) rfl ?_
            refine bindK h2 (fun x40 hx40 h2 => ?_)
            refine RunA.rd rfl rfl rfl (OpOK.of_ro (RO.indexE (α := LV) sl_37 rfl (.d _) rfl hx40)) rfl <| RunA.rd rfl rfl rfl (OpOK.of_ro (RO.fieldPel fo_59_1 rfl)) rfl <| RunA.rd rfl rfl rfl (OpOK.of_ro (RO.loadPel ag_3 rfl rfl)) rfl <| RunA.rd rfl rfl rfl (OpOK.of_ro (RO.max2 rfl rfl)) rfl <| RunA.rd rfl rfl rfl (OpOK.of_ro (RO.build2 bd_59 rfl rfl rfl rfl)) rfl <| RunA.eff rfl rfl rfl (OpOK.store ag_59 rfl rfl rfl rfl (lb rfl) rfl) rfl ?_
            refine RunA.nil ⟨?ex, _, _, rfl, ?_⟩
            case ex => exact trivial
            refine XQ.less (st' := ⟨[(0, .v (.one (.yld 7))), (1, .v (.one (.ptr 4 0))), (2, .v (.one (.ptr 5 0))), (4, .v (.one (.ptr 9 0)))], [(0, .cells 39 (cE a0)), (1, .cells 39 (cE a1)), (2, .cells 39 [dI 0, dN]), (3, .cells 39 [dI (max a0.c a1.c), dA 8 s2.1]), (4, .cells 37 [dS s2.2.1]), (5, .cells 37 [dS s2.2.2]), (6, .obj (.deferred (some []))), (7, .loop .ready none [(4, .v (.one (.ptr 2 0))), (6, .v (.one (.ptr 3 0))), (27, .v (.one (.fn 87 [(4, 0), (5, 0)])))] 39 #[28] m55_c0 m55_c1 6), (9, .cells 59 [dI x38.1, dI (max x39.2 x40.2)])], [(8, some ⟨59, 2, (Enc.encL s2.1).length⟩)], 10, 80, []⟩) (stle (tR rfl (tR rfl (tR rfl (tR rfl tZ)))) (hR rfl (hR rfl (hR rfl (hR rfl (hR rfl (hR rfl (hR rfl (hR rfl (hR rfl hZ))))))))) (kR rfl kZ) rfl (Nat.le_trans hv1 (lb rfl)) rfl rfl rfl (bB rfl rfl (bB rfl rfl (bB rfl rfl (bB rfl rfl (bB rfl rfl (bB rfl rfl (bB rfl rfl (bB rfl rfl (bB rfl rfl bZ))))))))) rfl rfl) <| XQ.seq ?_
            refine XC.anyRun [4, 5] [(2, 1), (3, 1)] mixed (by kernel_rfl) (by kernel_rfl) (by kernel_rfl) ?_
            refine RunA.rd rfl rfl rfl (OpOK.of_ro (RO.loadOwn ag_37 rfl rfl rfl)) rfl ?_
            refine guardK h2 (fun g41 h2 => ?_)
            refine RunA.rd rfl rfl rfl (OpOK.of_ro (RO.sliceFrom (α := LV) sl_37 rfl (.d _) rfl g41)) rfl <| RunA.rd rfl rfl rfl (OpOK.of_ro (RO.loadOwn ag_37 rfl rfl rfl)) rfl ?_
            refine guardK h2 (fun g42 h2 => ?_)
            refine RunA.rd rfl rfl rfl (OpOK.of_ro (RO.sliceFrom (α := LV) sl_37 rfl (.d _) rfl g42)) rfl <| RunA.eff rfl rfl rfl (OpOK.store ag_37 rfl rfl rfl rfl (lb rfl) rfl) rfl <| RunA.eff rfl rfl rfl (OpOK.store ag_37 rfl rfl rfl rfl (lb rfl) rfl) rfl ?_
            refine RunA.nil ⟨?ex, _, _, rfl, ?_⟩
            case ex => exact ⟨⟨_, rfl, _, _, rfl, rfl, rfl, .inl ⟨rfl, _, OpOK.of_ro (RO.loadOwn ag_37 rfl rfl rfl), rfl⟩⟩, ⟨_, rfl, _, _, rfl, rfl, rfl, .inl ⟨rfl, _, OpOK.of_ro (RO.sliceFrom (α := LV) sl_37 rfl (.d _) rfl g42), rfl⟩⟩, trivial⟩
            refine XQ.less (st' := ⟨[(0, .v (.one (.yld 7))), (1, .v (.one (.ptr 4 0))), (2, .v (.one (.ptr 5 0))), (4, .v (.one (.ptr 9 0)))], [(0, .cells 39 (cE a0)), (1, .cells 39 (cE a1)), (2, .cells 39 [dI 0, dN]), (3, .cells 39 [dI (max a0.c a1.c), dA 8 s2.1]), (4, .cells 37 [dS ((s2.2.1.drop (1 : Int).toNat) : List LV)]), (5, .cells 37 [dS ((s2.2.2.drop (1 : Int).toNat) : List LV)]), (6, .obj (.deferred (some []))), (7, .loop .ready none [(4, .v (.one (.ptr 2 0))), (6, .v (.one (.ptr 3 0))), (27, .v (.one (.fn 87 [(4, 0), (5, 0)])))] 39 #[28] m55_c0 m55_c1 6), (9, .cells 59 [dI x38.1, dI (max x39.2 x40.2)])], [(8, some ⟨59, 2, (Enc.encL s2.1).length⟩)], 10, 80, []⟩) (stle (tR rfl (tR rfl (tR rfl (tR rfl tZ)))) (hR rfl (hR rfl (hR rfl (hR rfl (hR rfl (hR rfl (hR rfl (hR rfl (hR rfl hZ))))))))) (kR rfl kZ) rfl (Nat.le_trans hv1 (lb rfl)) rfl rfl rfl (bB rfl rfl (bB rfl rfl (bB rfl rfl (bB rfl rfl (bB rfl rfl (bB rfl rfl (bB rfl rfl (bB rfl rfl (bB rfl rfl bZ))))))))) rfl rfl) <| XQ.inBlock <| XQ.seq <| XC.seq <| XC.region <| rM rfl rfl rfl <| rR rfl rfl rfl (RO.loadOwnAgg ag_59 rfl rfl rfl rfl) ?_
            refine bindK h2 (fun y43 h3 h2 => ?_)
            have ha44 : ExecOK Try.prog (some 7) m55_c0 ⟨[(4, .v (.one (.ptr 2 0))), (6, .v (.one (.ptr 3 0))), (27, .v (.one (.fn 87 [(4, 0), (5, 0)]))), (28, .v (.agg [dI x38.1, dI (max x39.2 x40.2)]))], [(0, .cells 39 (cE a0)), (1, .cells 39 (cE a1)), (2, .cells 39 [dI 0, dN]), (3, .cells 39 [dI (max a0.c a1.c), dA 8 s2.1]), (4, .cells 37 [dS ((s2.2.1.drop (1 : Int).toNat) : List LV)]), (5, .cells 37 [dS ((s2.2.2.drop (1 : Int).toNat) : List LV)]), (6, .obj (.deferred (some []))), (7, .loop .ready none [(4, .v (.one (.ptr 2 0))), (6, .v (.one (.ptr 3 0))), (27, .v (.one (.fn 87 [(4, 0), (5, 0)])))] 39 #[28] m55_c0 m55_c1 6), (9, .cells 59 [dI x38.1, dI (max x39.2 x40.2)])], [(8, some ⟨59, 2, (Enc.encL s2.1).length⟩)], 10, 39, []⟩ .normal ⟨[(6, .v (.one (.ptr 3 0))), (7, .v (.one (.ptr 10 0)))], [(0, .cells 39 (cE a0)), (1, .cells 39 (cE a1)), (2, .cells 39 [dI 0, dN]), (3, .cells 39 [dI (max a0.c a1.c), dA 8 s2.1]), (4, .cells 37 [dS ((s2.2.1.drop (1 : Int).toNat) : List LV)]), (5, .cells 37 [dS ((s2.2.2.drop (1 : Int).toNat) : List LV)]), (6, .obj (.deferred (some []))), (7, .loop .ready none [(4, .v (.one (.ptr 2 0))), (6, .v (.one (.ptr 3 0))), (27, .v (.one (.fn 87 [(4, 0), (5, 0)])))] 39 #[28] m55_c0 m55_c1 6), (9, .cells 59 [dI x38.1, dI (max x39.2 x40.2)]), (10, .cells 59 [dI x38.1, dI (max x39.2 x40.2)])], [(8, some ⟨59, 2, (Enc.encL s2.1).length⟩)], 11, 39, []⟩ := by
             refine ExecOK.walk (fun w0 M V0 ro n Q hv3 hro3 hQn3 => ?_)
             refine XC.region <| XL.put rfl rfl (lb rfl) (OpOK.alloc z_59 rfl) <| XL.eff rfl rfl (OpOK.store ag_59 rfl rfl rfl rfl (lb rfl) rfl) <| XL.nil ?_
             exact XQ.of hQn3 (stle (tR rfl (tR rfl tZ)) (hR rfl (hR rfl (hR rfl (hR rfl (hR rfl (hR rfl (hR rfl (hR rfl (hR rfl (hR rfl hZ)))))))))) (kR rfl kZ) rfl (Nat.le_trans hv3 (lb rfl)) rfl rfl rfl (bB rfl rfl (bB rfl rfl (bB rfl rfl (bB rfl rfl (bB rfl rfl (bB rfl rfl (bB rfl rfl (bB rfl rfl (bB rfl rfl (bB rfl rfl bZ)))))))))) rfl rfl)
            have hb45 : ExecOK Try.prog (some 7) m55_c1 ⟨[(6, .v (.one (.ptr 3 0))), (7, .v (.one (.ptr 10 0)))], [(0, .cells 39 (cE a0)), (1, .cells 39 (cE a1)), (2, .cells 39 [dI 0, dN]), (3, .cells 39 [dI (max a0.c a1.c), dA 8 s2.1]), (4, .cells 37 [dS ((s2.2.1.drop (1 : Int).toNat) : List LV)]), (5, .cells 37 [dS ((s2.2.2.drop (1 : Int).toNat) : List LV)]), (6, .obj (.deferred (some []))), (7, .loop .busy none [(4, .v (.one (.ptr 2 0))), (6, .v (.one (.ptr 3 0))), (27, .v (.one (.fn 87 [(4, 0), (5, 0)])))] 39 #[28] m55_c0 m55_c1 6), (9, .cells 59 [dI x38.1, dI (max x39.2 x40.2)]), (10, .cells 59 [dI x38.1, dI (max x39.2 x40.2)])], [(8, some ⟨59, 2, (Enc.encL s2.1).length⟩)], 11, 39, []⟩ .normal ⟨[], [(0, .cells 39 (cE a0)), (1, .cells 39 (cE a1)), (2, .cells 39 [dI 0, dN]), (3, .cells 39 [dI (max a0.c a1.c), dA 8 ((s2.1 ++ ([(x38.1, (max x39.2 x40.2))])) : List LV)]), (4, .cells 37 [dS ((s2.2.1.drop (1 : Int).toNat) : List LV)]), (5, .cells 37 [dS ((s2.2.2.drop (1 : Int).toNat) : List LV)]), (6, .obj (.deferred (some []))), (7, .loop .busy none [(4, .v (.one (.ptr 2 0))), (6, .v (.one (.ptr 3 0))), (27, .v (.one (.fn 87 [(4, 0), (5, 0)])))] 39 #[28] m55_c0 m55_c1 6), (9, .cells 59 [dI x38.1, dI (max x39.2 x40.2)])], [(8, some ⟨59, 2, (Enc.encL ((s2.1 ++ ([(x38.1, (max x39.2 x40.2))])) : List LV)).length⟩)], 12, 39, []⟩ := by
             refine ExecOK.walk (fun w0 M V0 ro n Q hv3 hro3 hQn3 => ?_)
             refine XC.block <| XC.region <| rR rfl rfl rfl (RO.fieldOwn fo_39_1 rfl) <| rR rfl rfl rfl (RO.loadOwn ag_37 rfl rfl rfl) <| rR rfl rfl rfl (RO.loadOwnAgg ag_59 rfl rfl rfl rfl) <| XL.put rfl rfl (lb rfl) (OpOK.lit1E (α := LV) ((x38.1, (max x39.2 x40.2))) sl_37 z_59 rfl rfl (lb rfl) (lb rfl) rfl rfl (.cons (.d _) (.cons (.d _) .nil)) rfl) ?_
             refine guardK h3 (fun g46 h3 => ?_)
             refine XL.put rfl rfl (lb rfl) (OpOK.appendE (α := LV) sl_37 el_59 rfl rfl rfl rfl rfl (.app _ _) g46) <| rR rfl rfl rfl (RO.fieldOwn fo_39_1 rfl) <| XL.eff rfl rfl (OpOK.store ag_37 rfl rfl rfl rfl (lb rfl) rfl) <| XL.nil <| XQ.inBlock ?_
             have e_ := Option.some.inj h3
             subst e_
             exact XQ.of hQn3 (stle tZ (hR rfl (hR rfl (hR rfl (hR rfl (hR rfl (hR rfl (hR rfl (hR rfl (hR rfl hZ))))))))) (kR rfl kZ) rfl (Nat.le_trans hv3 (lb rfl)) rfl rfl rfl (bB rfl rfl (bB rfl rfl (bB rfl rfl (bB rfl rfl (bB rfl rfl (bB rfl rfl (bB rfl rfl (bB rfl rfl (bB rfl rfl bZ))))))))) rfl rfl)
            refine XL.put rfl rfl (lb rfl) (OpOK.yield (jump := none) rfl rfl rfl rfl rfl (ExecOK.from ha44 (fun E hv => (stle (tR rfl (tR rfl (tR rfl (tR rfl tZ)))) (hR rfl (hR rfl (hR rfl (hR rfl (hR rfl (hR rfl (hR rfl (hR rfl (hR rfl hZ))))))))) (kR rfl kZ) rfl (Nat.le_trans hv (lb rfl)) rfl rfl rfl (bB rfl rfl (bB rfl rfl (bB rfl rfl (bB rfl rfl (bB rfl rfl (bB rfl rfl (bB rfl rfl (bB rfl rfl (bB rfl rfl bZ))))))))) rfl rfl))) rfl (ExecOK.from hb45 (fun E hv => (stle (tR rfl (tR rfl tZ)) (hR rfl (hR rfl (hR rfl (hR rfl (hR rfl (hR rfl (hR rfl (hR rfl (hR rfl (hR rfl hZ)))))))))) (kR rfl kZ) rfl (Nat.le_trans hv (lb rfl)) rfl rfl rfl (bB rfl rfl (bB rfl rfl (bB rfl rfl (bB rfl rfl (bB rfl rfl (bB rfl rfl (bB rfl rfl (bB rfl rfl (bB rfl rfl (bB rfl rfl bZ)))))))))) rfl rfl))) rfl rfl) ?_
            refine rR rfl rfl rfl (RO.not rfl) <| XL.nil <| XQ.seq ?_
            refine XC.cond rfl (fun h => nomatch h) (fun _ => ?_)
            refine XC.skip <| XQ.inBlock ?_
            have e_ := Option.some.inj h2
            subst e_
            refine XQ.nextM ((s2.1 ++ ([(x38.1, (max x39.2 x40.2))])), (s2.2.1.drop (1 : Int).toNat), (s2.2.2.drop (1 : Int).toNat)) (stle (tR rfl (tR rfl (tR rfl tZ))) (hR rfl (hR rfl (hR rfl (hR rfl (hR rfl (hR rfl (hR rfl (hR rfl hZ)))))))) (kR rfl kZ) rfl (Nat.le_trans hv1 (lb rfl)) rfl rfl rfl (bB rfl rfl (bB rfl rfl (bB rfl rfl (bB rfl rfl (bB rfl rfl (bB rfl rfl (bB rfl rfl (bB rfl rfl bZ)))))))) rfl rfl) ho2
       ·
        replace h2 := condF c14 h2
        refine XC.exit <| XQ.thenE <| XQ.thenE ?_
        have e_ := Option.some.inj h2
        subst e_
        have e_ : _ = _ := ho2
        subst e_
        exact XQ.joinX (s2.1, s2.2.1, s2.2.2) (stle tZ (hR rfl (hR rfl (hR rfl (hR rfl (hR rfl (hR rfl (hR rfl (hR rfl hZ)))))))) (kR rfl kZ) rfl (Nat.le_trans hv1 (lb rfl)) rfl rfl rfl (bB rfl rfl (bB rfl rfl (bB rfl rfl (bB rfl rfl (bB rfl rfl (bB rfl rfl (bB rfl rfl (bB rfl rfl bZ)))))))) rfl rfl) h1
     ·
      intro o10 h1
      refine XQ.blockX ?_
      have e_ := Option.some.inj h1
      subst e_
      exact hQ1 _ _ _ (.inl rfl) rfl (stle tZ (hR rfl (hR rfl (hR rfl (hR rfl (hR rfl (hR rfl (hR rfl (hR rfl hZ)))))))) (kR rfl kZ) rfl (Nat.le_trans hv1 (lb rfl)) rfl rfl rfl (bB rfl rfl (bB rfl rfl (bB rfl rfl (bB rfl rfl (bB rfl rfl (bB rfl rfl (bB rfl rfl (bB rfl rfl bZ)))))))) rfl rfl)
    refine XC.exec (rangeFunc_out (e := .normal) rfl hc9 rfl (by intro h; cases h) rfl) rfl ?_
    refine XQ.inBlock <| XQ.seq <| XC.seq <| XC.region <| rR rfl rfl rfl (RO.loadOwnAgg ag_39 rfl rfl rfl rfl) ?_
    refine guardK h0 (fun g47 h0 => ?_)
    refine XL.put rfl rfl (lb rfl) (OpOK.callFun (limited_fun (⟨(max a0.c a1.c), y8.1⟩ : Lvl) (Nat.le_of_ble_eq_true g47)) rfl (.cons (.agg (.cons (.d _) (.cons (.app _ _ _) .nil))) .nil)) ?_
    refine rR rfl rfl rfl (RO.extract rfl rfl) <| rR rfl rfl rfl (RO.extract rfl rfl) <| XL.eff rfl rfl (OpOK.store ag_39 rfl rfl rfl rfl (lb rfl) rfl) <| rA rfl rfl rfl <| XL.nil <| XQ.seq <| XC.ret ?_
    have e_ := Option.some.inj h0
    subst e_
    exact XQ.retF (fun _ _ h => h) rfl (RAs.agg ag_39 rfl rfl rfl rfl (RAs.tmp rfl .nil)) (.cons (.agg (.cons (.d _) (.cons (.d _) .nil))) (.cons (.one (.d _)) .nil))

def m48o_l0 (x10 : Lvl) (x7 : LV) (s3 : Int × IMap) : Option (LO (Int × IMap) IMap) :=
  cond (decide (s3.1 < (x10.vs.length : Int)))
    (Option.bind (idx x10.vs s3.1) fun (x16 : LV) =>
  Option.bind (Option.bind (cond (!(imHas s3.2 x16.1))
    (some true)
    (some (decide ((imVal s3.2 x16.1) < (w64 (x16.2 + x7.2)))))) (fun (v19 : Bool) => cond v19
    (some (imSet s3.2 x16.1 (w64 (x16.2 + x7.2))))
    (some s3.2))) (fun (y17 : IMap) => some (.next ((w64 (s3.1 + 1)), y17))))
    (some (.done s3.2))

def m48o_l1 (a0 : Lvl) (nn : Nat) (a1 : List Lvl) (s1 : Int × IMap × Int) : Option (LO (Int × IMap × Int) ((IMap × Int))) :=
  cond (decide (s1.1 < (a0.vs.length : Int)))
    (Option.bind (idx a0.vs s1.1) fun (x7 : LV) =>
  Option.bind (cond (decide (0 ≤ (w64 ((-1) - x7.1))))
    (some (decide ((w64 ((-1) - x7.1)) < ((nn : Nat) : Int))))
    (some false)) (fun (v8 : Bool) => cond v8
    (Option.bind (idx a1 (w64 ((-1) - x7.1))) fun (x10 : Lvl) =>
  guardO (Nat.beq a1.length nn)
  (Option.bind (Option.bind (loopN (m48o_l0 x10 x7) FUEL (0, s1.2.1)) (fun (o14 : IMap) => some o14)) (fun (y12 : IMap) => some (.next ((w64 (s1.1 + 1)), y12, (max s1.2.2 (w64 (x10.c + x7.2))))))))
    (Option.bind (Option.bind (cond (!(imHas s1.2.1 x7.1))
    (some true)
    (some (decide ((imVal s1.2.1 x7.1) < x7.2)))) (fun (v25 : Bool) => cond v25
    (some (imSet s1.2.1 x7.1 x7.2))
    (some s1.2.1))) (fun (y23 : IMap) => some (.next ((w64 (s1.1 + 1)), y23, s1.2.2))))))
    (some (.done (s1.2.1, s1.2.2)))

def m48o_l2 (o5 : IMap × Int) (s2 : Int × (List LV)) : Option (LO (Int × (List LV)) (((List LV)))) :=
  cond (decide (s2.1 < ((imKeys o5.1).length : Int)))
    (Option.bind (idx (imKeys o5.1) s2.1) fun (x13 : Int) =>
  guardO (Nat.ble (s2.2.length + ([(x13, (imVal o5.1 x13))]).length) 1000000000)
  (some (.next ((w64 (s2.1 + 1)), (s2.2 ++ ([(x13, (imVal o5.1 x13))]))))))
    (some (.done s2.2))

def m48o_l3 (nn : Nat) (a1 : List Lvl) (s5 : Int) : Option (LO Int (Unit ⊕ Int)) :=
  cond (decide (s5 < ((nn : Nat) : Int)))
    (Option.bind (idx a1 s5) fun (x12 : Lvl) =>
  guardO (Nat.beq a1.length nn)
  (Option.bind (guardO (Nat.ble x12.vs.length 100000)
  (some ())) (fun (y14 : Unit) => cond (!(validB x12))
    (some (.done (.inr s5)))
    (some (.next (w64 (s5 + 1)))))))
    (some (.done (.inl ())))

/-- euclid/level.Assign, its slice lent -/
def m48o (a0 : Lvl) (a1 : List Lvl) (nn : Nat) : Option (Int × Int × (List LV)) :=
  Option.bind (guardO (Nat.ble a0.vs.length 100000)
  (cond (!(validB a0))
    (some true)
    (Option.bind (Option.bind (Option.bind (Option.bind (loopN (m48o_l3 nn a1) FUEL 0) (Sum.elim (fun (o10 : Unit) => some (-1)) (fun o => some o))) (fun (y8 : Int) => some (decide (0 ≤ y8)))) (fun (y6 : Bool) => some (!y6))) (fun (y4 : Bool) => some (!y4))))) (fun (v1 : Bool) => cond v1
    (some (3, 0, ([] : List LV)))
    (Option.bind (some ()) (fun (y3 : Unit) => Option.bind (loopN (m48o_l1 a0 nn a1) FUEL (0, imNil, a0.c)) (fun (o5 : IMap × Int) => Option.bind (Option.bind (some ()) (fun (y8 : Unit) => guardO (imOk o5.1)
  (Option.bind (loopN (m48o_l2 o5) FUEL (0, ([] : List LV))) (fun (o11 : (List LV)) => guardO (Nat.ble (⟨o5.2, o11⟩ : Lvl).vs.length 100000)
  (some ((limL (⟨o5.2, o11⟩ : Lvl)).2, ((limL (⟨o5.2, o11⟩ : Lvl)).1).c, ((limL (⟨o5.2, o11⟩ : Lvl)).1).vs)))))) (fun (y6 : Int × Int × (List LV)) => some (y6.1, y6.2.1, y6.2.2))))))

set_option maxRecDepth 100000 in
set_option maxHeartbeats 8000000 in
theorem m48o_ok (a0 : Lvl) (a1 : List Lvl) (nn : Nat) (r : Int × Int × (List LV)) (h0 : m48o a0 a1 nn = some r) : CallM Try.prog 48 [.agg (cE a0), .one (.osl 0 0 nn nn)] ⟨[(0, .cells 39 (flatE a1))], [], 1⟩ (resOf [.agg [dI r.2.1, dS r.2.2], .one (dI r.1)]) ⟨[(0, .cells 39 (flatE a1)), (2, .cells 39 [dI r.2.1, dS r.2.2])], [], 3⟩ := by
  unfold m48o at h0
  refine CallM.of_bodyD ⟨[(4, .v (.one (.ptr 2 0))), (5, .v (.one (dI r.1)))], [(0, .cells 39 (flatE a1)), (2, .cells 39 [dI r.2.1, dS r.2.2])], [], 3, 65, []⟩ rfl rfl en_48 (lb rfl) rfl (RAs.agg ag_39 rfl rfl rfl rfl (RAs.tmp rfl .nil)) (fun w0 M V0 Q hv0 hQ0 => ?_)
  simp only [entry]
  refine XC.seq <| XC.region <| XL.put rfl rfl (lb rfl) (OpOK.box rfl) <| XL.put rfl rfl (lb rfl) (OpOK.alloc z_39 rfl) <| rA rfl rfl rfl <| XL.nil <| XQ.seq <| XC.seq <| XC.seq ?_
  refine XC.joinR (fun (v1 : Bool) => ⟨[(1, .v (.one (.osl 0 0 nn nn))), (2, .v (.one (.ptr 1 0))), (4, .v (.one (.ptr 2 0))), (17, .v (.one (dB v1)))], [(0, .cells 39 (flatE a1)), (1, .cells 39 (cE a0)), (2, .cells 39 [dI 0, dN])], [], 3, 65, []⟩) (fun (v1 : Bool) => (cond v1
      (some (3, 0, ([] : List LV)))
      (Option.bind (some ()) (fun (y3 : Unit) => Option.bind (loopN (m48o_l1 a0 nn a1) FUEL (0, imNil, a0.c)) (fun (o5 : IMap × Int) => Option.bind (Option.bind (some ()) (fun (y8 : Unit) => guardO (imOk o5.1)
    (Option.bind (loopN (m48o_l2 o5) FUEL (0, ([] : List LV))) (fun (o11 : (List LV)) => guardO (Nat.ble (⟨o5.2, o11⟩ : Lvl).vs.length 100000)
    (some ((limL (⟨o5.2, o11⟩ : Lvl)).2, ((limL (⟨o5.2, o11⟩ : Lvl)).1).c, ((limL (⟨o5.2, o11⟩ : Lvl)).1).vs)))))) (fun (y6 : Int × Int × (List LV)) => some (y6.1, y6.2.1, y6.2.2)))))) = some r) ?_ ?_
  ·
   refine bindK h0 (fun v_ h1 h0 => ?_)
   refine XC.region <| rR rfl rfl rfl (RO.loadOwnAgg ag_39 rfl rfl rfl rfl) ?_
   refine guardK h1 (fun g2 h1 => ?_)
   refine XL.put rfl rfl (lb rfl) (OpOK.callFun (valid_fun a0 (Nat.le_of_ble_eq_true g2)) rfl (.cons (.agg (.cons (.d _) (.cons (.d _) .nil))) .nil)) ?_
   refine rR rfl rfl rfl (RO.not rfl) <| rM rfl rfl rfl ?_
   refine XL.case (d := 13) (c := (!(validB a0))) rfl (fun c3 => ?_) (fun c3 => ?_)
   ·
    replace h1 := condT c3 h1
    refine XL.no rfl rfl <| XL.no rfl rfl <| XL.no rfl rfl <| rR rfl rfl rfl (RO.pickT rfl rfl) <| XL.nil ?_
    have e_ := Option.some.inj h1
    subst e_
    exact XQ.joinR true (stle (tR rfl (tR rfl (tR rfl (tR rfl tZ)))) (hR rfl (hR rfl (hR rfl hZ))) kZ rfl (Nat.le_trans hv0 (lb rfl)) rfl rfl rfl (bF rfl (bB rfl rfl (bB rfl rfl bZ))) rfl rfl) h0
   ·
    replace h1 := condF c3 h1
    refine rM rfl rfl rfl ?_
    refine bindK h1 (fun y4 h2 h1 => ?_)
    have hc5 : CallM Try.prog 65 [.one (.osl 0 0 nn nn)] ⟨[(0, .cells 39 (flatE a1)), (1, .cells 39 (cE a0)), (2, .cells 39 [dI 0, dN])], [], 3⟩ (resOf [.one (dB y4)]) ⟨[(0, .cells 39 (flatE a1)), (1, .cells 39 (cE a0)), (2, .cells 39 [dI 0, dN])], [], 3⟩ := by
     refine CallM.of_bodyD ⟨[(2, .v (.one (dB y4)))], [(0, .cells 39 (flatE a1)), (1, .cells 39 (cE a0)), (2, .cells 39 [dI 0, dN])], [], 3, 6, []⟩ rfl rfl en_65 (lb rfl) rfl (RAs.tmp rfl .nil) (fun w0 M V0 Q hv2 hQ2 => ?_)
     simp only [entry]
     refine XC.seq <| XC.region <| rA rfl rfl rfl <| XL.nil <| XQ.seq <| XC.seq <| XC.region <| rM rfl rfl rfl ?_
     refine bindK h2 (fun y6 h3 h2 => ?_)
     have hc7 : CallM Try.prog 80 [.one (.osl 0 0 nn nn), .one (.fn 81 [])] ⟨[(0, .cells 39 (flatE a1)), (1, .cells 39 (cE a0)), (2, .cells 39 [dI 0, dN])], [], 3⟩ (resOf [.one (dB y6)]) ⟨[(0, .cells 39 (flatE a1)), (1, .cells 39 (cE a0)), (2, .cells 39 [dI 0, dN])], [], 3⟩ := by
      refine CallM.of_bodyD ⟨[(4, .v (.one (dB y6)))], [(0, .cells 39 (flatE a1)), (1, .cells 39 (cE a0)), (2, .cells 39 [dI 0, dN])], [], 3, 9, []⟩ rfl rfl en_80 (lb rfl) rfl (RAs.tmp rfl .nil) (fun w0 M V0 Q hv3 hQ3 => ?_)
      simp only [entry]
      refine XC.seq <| XC.region <| rA rfl rfl rfl <| XL.nil <| XQ.seq <| XC.seq <| XC.region <| rM rfl rfl rfl <| rM rfl rfl rfl ?_
      refine bindK h3 (fun y8 h4 h3 => ?_)
      have hc9 : CallM Try.prog 88 [.one (.osl 0 0 nn nn), .one (.fn 81 [])] ⟨[(0, .cells 39 (flatE a1)), (1, .cells 39 (cE a0)), (2, .cells 39 [dI 0, dN])], [], 3⟩ (resOf [.one (dI y8)]) ⟨[(0, .cells 39 (flatE a1)), (1, .cells 39 (cE a0)), (2, .cells 39 [dI 0, dN])], [], 3⟩ := by
       refine CallM.of_bodyD ⟨[(4, .v (.one (dI y8)))], [(0, .cells 39 (flatE a1)), (1, .cells 39 (cE a0)), (2, .cells 39 [dI 0, dN])], [], 3, 19, []⟩ rfl rfl en_88 (lb rfl) rfl (RAs.tmp rfl .nil) (fun w0 M V0 Q hv4 hQ4 => ?_)
       simp only [entry]
       refine XC.seq <| XC.region <| rA rfl rfl rfl <| XL.nil <| XQ.seq <| XC.seq <| XC.seq <| XC.region <| rM rfl rfl rfl <| rR rfl rfl rfl (RO.lenOsl sl_31 rfl) <| rM rfl rfl rfl <| XL.nil <| XQ.seq <| XC.block ?_
       refine XC.joinX 0 (fun (o10 : Unit) => ⟨[], [(0, .cells 39 (flatE a1)), (1, .cells 39 (cE a0)), (2, .cells 39 [dI 0, dN])], [], 3, 19, []⟩) (fun (o10 : Unit) => (some (-1)) = some y8) ?_ ?_
       ·
        refine bindK h4 (fun o11 hl5 h4 => ?_)
        refine XC.loopM (m48o_l3 nn a1) (fun s5 => ⟨[(0, .v (.one (.osl 0 0 nn nn))), (1, .v (.one (.fn 81 []))), (7, .v (.one (dI ((nn : Nat) : Int)))), (8, .v (.one (dI s5)))], [(0, .cells 39 (flatE a1)), (1, .cells 39 (cE a0)), (2, .cells 39 [dI 0, dN])], [], 3, 19, []⟩) 0 o11 (stle (tR rfl (tR rfl (tR rfl (tR rfl tZ)))) (hR rfl (hR rfl (hR rfl hZ))) kZ rfl (Nat.le_trans hv4 (lb rfl)) rfl rfl rfl (bF rfl (bB rfl rfl (bB rfl rfl bZ))) rfl rfl) hl5 (fun s5 n5 oo5 h5 ho5 => ?_)
        unfold m48o_l3 at h5
        refine XC.seq <| XC.region <| rR rfl rfl rfl (RO.binInt rfl rfl rfl) <| XL.nil <| XQ.seq <| XC.seq ?_
        refine XC.cond (b := (decide (s5 < ((nn : Nat) : Int)))) rfl (fun c12 => ?_) (fun c12 => ?_)
        ·
         replace h5 := condT c12 h5
         refine XC.skip <| XQ.seq <| XC.seq <| XC.block <| XC.seq <| XC.region <| rM rfl rfl rfl <| rA rfl rfl rfl <| XL.nil <| XQ.seq <| XC.seq <| XC.region <| rM rfl rfl rfl <| rM rfl rfl rfl ?_
         refine rM rfl rfl rfl ?_
         refine bindK h5 (fun x13 hx13 h5 => ?_)
         refine guardK h5 (fun g14 h5 => ?_)
         refine rR rfl rfl rfl (RO.indexO (α := Lvl) sl_31 rfl rfl hx13 g14) <| rR rfl rfl rfl (RO.loadOE (α := Lvl) (ys := [dI x13.c, dS x13.vs]) ag_39 rfl rfl hx13 rfl) ?_
         refine bindK h5 (fun y15 h6 h5 => ?_)
         have hc16 : CallM Try.prog 81 [.agg (cE x13)] ⟨[(0, .cells 39 (flatE a1)), (1, .cells 39 (cE a0)), (2, .cells 39 [dI 0, dN])], [], 3⟩ (resOf [.one (dB (!(validB x13)))]) ⟨[(0, .cells 39 (flatE a1)), (1, .cells 39 (cE a0)), (2, .cells 39 [dI 0, dN])], [], 4⟩ := by
          refine CallM.of_bodyD ⟨[(2, .v (.one (dB (!(validB x13)))))], [(0, .cells 39 (flatE a1)), (1, .cells 39 (cE a0)), (2, .cells 39 [dI 0, dN])], [], 4, 6, []⟩ rfl rfl en_81 (lb rfl) rfl (RAs.tmp rfl .nil) (fun w0 M V0 Q hv6 hQ6 => ?_)
          simp only [entry]
          refine XC.seq <| XC.region <| XL.put rfl rfl (lb rfl) (OpOK.box rfl) <| rA rfl rfl rfl <| XL.nil <| XQ.seq <| XC.seq <| XC.region <| rR rfl rfl rfl (RO.loadOwnAgg ag_39 rfl rfl rfl rfl) ?_
          refine guardK h6 (fun g17 h6 => ?_)
          refine XL.put rfl rfl (lb rfl) (OpOK.callFun (valid_fun x13 (Nat.le_of_ble_eq_true g17)) rfl (.cons (.agg (.cons (.d _) (.cons (.d _) .nil))) .nil)) ?_
          refine rR rfl rfl rfl (RO.not rfl) <| rA rfl rfl rfl <| XL.nil <| XQ.seq <| XC.ret ?_
          have e_ := Option.some.inj h6
          subst e_
          exact hQ6 _ _ _ (.inr rfl) rfl (stle (tR rfl tZ) (hR rfl (hR rfl (hR rfl hZ))) kZ rfl (Nat.le_trans hv6 (lb rfl)) rfl rfl rfl (bF rfl (bB rfl rfl (bB rfl rfl bZ))) rfl rfl)
         refine XL.put rfl rfl (lb rfl) (OpOK.callW rfl rfl rfl hc16 rfl (hR rfl (hR rfl (hR rfl hZ))) kZ) <| XL.nil <| XQ.seq ?_
         refine XC.cond (b := (!(validB x13))) rfl (fun c18 => ?_) (fun c18 => ?_)
         ·
          replace h5 := condT c18 h5
          refine XC.seq <| XC.region <| rM rfl rfl rfl <| rA rfl rfl rfl <| XL.nil <| XQ.seq <| XC.ret ?_
          have e_ := Option.some.inj h5
          subst e_
          have e_ : _ = _ := ho5
          subst e_
          try dsimp only [Sum.elim_inl, Sum.elim_inr] at h4
          have e_ := Option.some.inj h4
          subst e_
          exact hQ4 _ _ _ (.inr rfl) rfl (stle (tR rfl tZ) (hR rfl (hR rfl (hR rfl hZ))) kZ rfl (Nat.le_trans hv4 (lb rfl)) rfl rfl rfl (bF rfl (bB rfl rfl (bB rfl rfl bZ))) rfl rfl)
         ·
          replace h5 := condF c18 h5
          refine XC.skip <| XQ.inBlock <| XQ.seq <| XC.region <| rR rfl rfl rfl (RO.binInt rfl rfl rfl) <| rM rfl rfl rfl <| XL.nil ?_
          have e_ := Option.some.inj h5
          subst e_
          refine XQ.nextM (w64 (s5 + 1)) (stle (tR rfl (tR rfl (tR rfl (tR rfl tZ)))) (hR rfl (hR rfl (hR rfl hZ))) kZ rfl (Nat.le_trans hv4 (lb rfl)) rfl rfl rfl (bF rfl (bB rfl rfl (bB rfl rfl bZ))) rfl rfl) ho5
        ·
         replace h5 := condF c12 h5
         refine XC.exit <| XQ.thenE <| XQ.thenE ?_
         have e_ := Option.some.inj h5
         subst e_
         have e_ : _ = _ := ho5
         subst e_
         exact XQ.joinX () (stle tZ (hR rfl (hR rfl (hR rfl hZ))) kZ rfl (Nat.le_trans hv4 (lb rfl)) rfl rfl rfl (bF rfl (bB rfl rfl (bB rfl rfl bZ))) rfl rfl) h4
       ·
        intro o10 h4
        refine XQ.blockX <| XQ.seq <| XC.seq <| XC.region <| rA rfl rfl rfl <| XL.nil <| XQ.seq <| XC.ret ?_
        have e_ := Option.some.inj h4
        subst e_
        exact hQ4 _ _ _ (.inr rfl) rfl (stle (tR rfl tZ) (hR rfl (hR rfl (hR rfl hZ))) kZ rfl (Nat.le_trans hv4 (lb rfl)) rfl rfl rfl (bF rfl (bB rfl rfl (bB rfl rfl bZ))) rfl rfl)
      refine XL.put rfl rfl (lb rfl) (OpOK.callW rfl rfl rfl hc9 rfl (hR rfl (hR rfl (hR rfl hZ))) kZ) <| rR rfl rfl rfl (RO.binInt rfl rfl rfl) <| rA rfl rfl rfl <| XL.nil <| XQ.seq <| XC.ret ?_
      have e_ := Option.some.inj h3
      subst e_
      exact hQ3 _ _ _ (.inr rfl) rfl (stle (tR rfl tZ) (hR rfl (hR rfl (hR rfl hZ))) kZ rfl (Nat.le_trans hv3 (lb rfl)) rfl rfl rfl (bF rfl (bB rfl rfl (bB rfl rfl bZ))) rfl rfl)
     refine XL.put rfl rfl (lb rfl) (OpOK.callW rfl rfl rfl hc7 rfl (hR rfl (hR rfl (hR rfl hZ))) kZ) <| rR rfl rfl rfl (RO.not rfl) <| rA rfl rfl rfl <| XL.nil <| XQ.seq <| XC.ret ?_
     have e_ := Option.some.inj h2
     subst e_
     exact hQ2 _ _ _ (.inr rfl) rfl (stle (tR rfl tZ) (hR rfl (hR rfl (hR rfl hZ))) kZ rfl (Nat.le_trans hv2 (lb rfl)) rfl rfl rfl (bF rfl (bB rfl rfl (bB rfl rfl bZ))) rfl rfl)
    refine XL.put rfl rfl (lb rfl) (OpOK.callW rfl rfl rfl hc5 rfl (hR rfl (hR rfl (hR rfl hZ))) kZ) <| rR rfl rfl rfl (RO.not rfl) <| rR rfl rfl rfl (RO.pickF rfl rfl) <| XL.nil ?_
    have e_ := Option.some.inj h1
    subst e_
    exact XQ.joinR (!y4) (stle (tR rfl (tR rfl (tR rfl (tR rfl tZ)))) (hR rfl (hR rfl (hR rfl hZ))) kZ rfl (Nat.le_trans hv0 (lb rfl)) rfl rfl rfl (bF rfl (bB rfl rfl (bB rfl rfl bZ))) rfl rfl) h0
  ·
   intro v1 h0
   refine XQ.seq ?_
   refine XC.cond (b := v1) rfl (fun c19 => ?_) (fun c19 => ?_)
   ·
    replace h0 := condT c19 h0
    refine XC.seq <| XC.region <| rR rfl rfl rfl (RO.build0 bd_39 rfl ) <| XL.eff rfl rfl (OpOK.store ag_39 rfl rfl rfl rfl (lb rfl) rfl) <| rA rfl rfl rfl <| XL.nil <| XQ.seq <| XC.ret ?_
    have e_ := Option.some.inj h0
    subst e_
    exact hQ0 _ _ _ (.inr rfl) rfl (stle (tR rfl (tR rfl tZ)) (hR rfl (hC rfl (.cons (.refl _) (.cons (.sub (.nil _)) .nil)) hZ)) kZ rfl (Nat.le_trans hv0 (lb rfl)) rfl rfl rfl (bF rfl (bB rfl rfl bZ)) rfl rfl)
   ·
    replace h0 := condF c19 h0
    refine XC.skip <| XQ.seq <| XC.seq <| XC.region ?_
    refine bindK h0 (fun y20 h1 h0 => ?_)
    have hc21 : CallM Try.prog 66 [] ⟨[(0, .cells 39 (flatE a1)), (1, .cells 39 (cE a0)), (2, .cells 39 [dI 0, dN])], [], 3⟩ (resOf [.one (.ptr 4 0)]) ⟨[(0, .cells 39 (flatE a1)), (1, .cells 39 (cE a0)), (2, .cells 39 [dI 0, dN]), (3, .mp (imE imNil.1) imNil.2), (4, .cells 105 [.mp 3, dI 0])], [], 5⟩ := by
     refine CallM.of_bodyD ⟨[(0, .v (.one (.ptr 4 0)))], [(0, .cells 39 (flatE a1)), (1, .cells 39 (cE a0)), (2, .cells 39 [dI 0, dN]), (3, .mp (imE imNil.1) imNil.2), (4, .cells 105 [.mp 3, dI 0])], [], 5, 4, []⟩ rfl rfl en_66 (lb rfl) rfl (RAs.tmp rfl .nil) (fun w0 M V0 Q hv1 hQ1 => ?_)
     simp only [entry]
     refine XC.seq <| XC.region <| rA rfl rfl rfl <| XL.nil <| XQ.seq <| XC.seq <| XC.region <| XL.put rfl rfl (lb rfl) (OpOK.makeMapI) <| rR rfl rfl rfl (RO.build1 bd_105 rfl rfl rfl) <| XL.put rfl rfl (lb rfl) (OpOK.box rfl) <| rA rfl rfl rfl <| XL.nil <| XQ.seq <| XC.ret ?_
     have e_ := Option.some.inj h1
     subst e_
     exact hQ1 _ _ _ (.inr rfl) rfl (stle (tR rfl tZ) (hR rfl (hR rfl (hR rfl (hR rfl (hR rfl hZ))))) kZ rfl (Nat.le_trans hv1 (lb rfl)) rfl rfl rfl (bF rfl (bB rfl rfl (bB rfl rfl (bM rfl (bB rfl rfl bZ))))) rfl rfl)
    refine XL.put rfl rfl (lb rfl) (OpOK.callW rfl rfl rfl hc21 rfl (hR rfl (hR rfl (hR rfl hZ))) kZ) <| rA rfl rfl rfl <| XL.nil <| XQ.seq <| XC.seq <| XC.region <| rM rfl rfl rfl <| rR rfl rfl rfl (RO.fieldOwn fo_39_0 rfl) <| rR rfl rfl rfl (RO.loadOwn ag_3 rfl rfl rfl) <| rR rfl rfl rfl (RO.nilCheckPtr rfl) <| rR rfl rfl rfl (RO.fieldOwn fo_105_1 rfl) <| XL.eff rfl rfl (OpOK.store ag_3 rfl rfl rfl rfl (lb rfl) rfl) <| XL.nil <| XQ.seq ?_
    refine XC.seq <| XC.seq <| XC.region <| rR rfl rfl rfl (RO.fieldOwn fo_39_1 rfl) <| rR rfl rfl rfl (RO.loadOwn ag_37 rfl rfl rfl) <| rR rfl rfl rfl (RO.lenE (α := LV) sl_37 rfl (.d _)) <| rM rfl rfl rfl <| XL.nil <| XQ.seq <| XC.block ?_
    refine XC.joinX 0 (fun (o22 : IMap × Int) => ⟨[(4, .v (.one (.ptr 2 0))), (6, .v (.one (.ptr 4 0)))], [(0, .cells 39 (flatE a1)), (1, .cells 39 (cE a0)), (2, .cells 39 [dI 0, dN]), (3, .mp (imE o22.1.1) o22.1.2), (4, .cells 105 [.mp 3, dI o22.2])], [], 5, 65, []⟩) (fun (o22 : IMap × Int) => (Option.bind (Option.bind (some ()) (fun (y25 : Unit) => guardO (imOk o22.1)
      (Option.bind (loopN (m48o_l2 o22) FUEL (0, ([] : List LV))) (fun (o28 : (List LV)) => guardO (Nat.ble (⟨o22.2, o28⟩ : Lvl).vs.length 100000)
      (some ((limL (⟨o22.2, o28⟩ : Lvl)).2, ((limL (⟨o22.2, o28⟩ : Lvl)).1).c, ((limL (⟨o22.2, o28⟩ : Lvl)).1).vs)))))) (fun (y23 : Int × Int × (List LV)) => some (y23.1, y23.2.1, y23.2.2))) = some r) ?_ ?_
    ·
     refine bindK h0 (fun o23 hl1 h0 => ?_)
     refine XC.loopM (m48o_l1 a0 nn a1) (fun s1 => ⟨[(1, .v (.one (.osl 0 0 nn nn))), (4, .v (.one (.ptr 2 0))), (6, .v (.one (.ptr 4 0))), (26, .v (.one (dS a0.vs))), (27, .v (.one (dI (a0.vs.length : Int)))), (28, .v (.one (dI s1.1)))], [(0, .cells 39 (flatE a1)), (1, .cells 39 (cE a0)), (2, .cells 39 [dI 0, dN]), (3, .mp (imE s1.2.1.1) s1.2.1.2), (4, .cells 105 [.mp 3, dI s1.2.2])], [], 5, 65, []⟩) (0, imNil, a0.c) o23 (stle (tR rfl (tR rfl (tR rfl (tR rfl (tR rfl (tR rfl tZ)))))) (hR rfl (hR rfl (hR rfl (hR rfl (hR rfl hZ))))) kZ rfl (Nat.le_trans hv0 (lb rfl)) rfl rfl rfl (bF rfl (bB rfl rfl (bB rfl rfl (bM rfl (bB rfl rfl bZ))))) rfl rfl) hl1 (fun s1 n1 oo1 h1 ho1 => ?_)
     unfold m48o_l1 at h1
     refine XC.seq <| XC.region <| rR rfl rfl rfl (RO.binInt rfl rfl rfl) <| XL.nil <| XQ.seq <| XC.seq ?_
     refine XC.cond (b := (decide (s1.1 < (a0.vs.length : Int)))) rfl (fun c24 => ?_) (fun c24 => ?_)
     ·
      replace h1 := condT c24 h1
      refine XC.skip <| XQ.seq <| XC.seq <| XC.block <| XC.seq <| XC.region ?_
      refine bindK h1 (fun x25 hx25 h1 => ?_)
      refine rR rfl rfl rfl (RO.indexE (α := LV) sl_37 rfl (.d _) rfl hx25) <| rR rfl rfl rfl (RO.loadPelAgg ag_59 rfl rfl rfl) <| XL.put rfl rfl (lb rfl) (OpOK.alloc z_59 rfl) <| XL.eff rfl rfl (OpOK.store ag_59 rfl rfl rfl rfl (lb rfl) rfl) <| XL.nil <| XQ.seq <| XC.seq <| XC.region <| rR rfl rfl rfl (RO.fieldOwn fo_59_0 rfl) <| rR rfl rfl rfl (RO.loadOwn ag_3 rfl rfl rfl) <| rR rfl rfl rfl (RO.binInt rfl rfl rfl) <| rA rfl rfl rfl <| XL.nil <| XQ.seq ?_
      refine XC.seq ?_
      refine XC.joinR (fun (v26 : Bool) => ⟨[(1, .v (.one (.osl 0 0 nn nn))), (4, .v (.one (.ptr 2 0))), (6, .v (.one (.ptr 4 0))), (8, .v (.one (.ptr 5 0))), (9, .v (.one (dI (w64 ((-1) - x25.1))))), (26, .v (.one (dS a0.vs))), (27, .v (.one (dI (a0.vs.length : Int)))), (28, .v (.one (dI s1.1))), (42, .v (.one (dB v26)))], [(0, .cells 39 (flatE a1)), (1, .cells 39 (cE a0)), (2, .cells 39 [dI 0, dN]), (3, .mp (imE s1.2.1.1) s1.2.1.2), (4, .cells 105 [.mp 3, dI s1.2.2]), (5, .cells 59 (cE x25))], [], 6, 65, []⟩) (fun (v26 : Bool) => (cond v26
          (Option.bind (idx a1 (w64 ((-1) - x25.1))) fun (x28 : Lvl) =>
        guardO (Nat.beq a1.length nn)
        (Option.bind (Option.bind (loopN (m48o_l0 x28 x25) FUEL (0, s1.2.1)) (fun (o32 : IMap) => some o32)) (fun (y30 : IMap) => some (.next ((w64 (s1.1 + 1)), y30, (max s1.2.2 (w64 (x28.c + x25.2))))))))
          (Option.bind (Option.bind (cond (!(imHas s1.2.1 x25.1))
          (some true)
          (some (decide ((imVal s1.2.1 x25.1) < x25.2)))) (fun (v43 : Bool) => cond v43
          (some (imSet s1.2.1 x25.1 x25.2))
          (some s1.2.1))) (fun (y41 : IMap) => some (.next ((w64 (s1.1 + 1)), y41, s1.2.2))))) = some oo1) ?_ ?_
      ·
       refine bindK h1 (fun v_ h2 h1 => ?_)
       refine XC.region <| rM rfl rfl rfl <| rR rfl rfl rfl (RO.binInt rfl rfl rfl) <| rM rfl rfl rfl ?_
       refine XL.case (d := 37) (c := (decide (0 ≤ (w64 ((-1) - x25.1))))) rfl (fun c27 => ?_) (fun c27 => ?_)
       ·
        replace h2 := condT c27 h2
        refine rM rfl rfl rfl <| rM rfl rfl rfl <| rR rfl rfl rfl (RO.lenOsl sl_31 rfl) <| rR rfl rfl rfl (RO.binInt rfl rfl rfl) <| rR rfl rfl rfl (RO.pickT rfl rfl) <| XL.nil ?_
        have e_ := Option.some.inj h2
        subst e_
        exact XQ.joinR (decide ((w64 ((-1) - x25.1)) < ((nn : Nat) : Int))) (stle (tR rfl (tR rfl (tR rfl (tR rfl (tR rfl (tR rfl (tR rfl (tR rfl (tR rfl tZ))))))))) (hR rfl (hR rfl (hR rfl (hR rfl (hR rfl (hR rfl hZ)))))) kZ rfl (Nat.le_trans hv0 (lb rfl)) rfl rfl rfl (bF rfl (bB rfl rfl (bB rfl rfl (bM rfl (bB rfl rfl (bB rfl rfl bZ)))))) rfl rfl) h1
       ·
        replace h2 := condF c27 h2
        refine XL.no rfl rfl <| XL.no rfl rfl <| XL.no rfl rfl <| XL.no rfl rfl <| rR rfl rfl rfl (RO.pickF rfl rfl) <| XL.nil ?_
        have e_ := Option.some.inj h2
        subst e_
        exact XQ.joinR false (stle (tR rfl (tR rfl (tR rfl (tR rfl (tR rfl (tR rfl (tR rfl (tR rfl (tR rfl tZ))))))))) (hR rfl (hR rfl (hR rfl (hR rfl (hR rfl (hR rfl hZ)))))) kZ rfl (Nat.le_trans hv0 (lb rfl)) rfl rfl rfl (bF rfl (bB rfl rfl (bB rfl rfl (bM rfl (bB rfl rfl (bB rfl rfl bZ)))))) rfl rfl) h1
      ·
       intro v26 h1
       refine XQ.seq ?_
       refine XC.cond (b := v26) rfl (fun c28 => ?_) (fun c28 => ?_)
       ·
        replace h1 := condT c28 h1
        refine XC.anyRun [7] [] mixed (by kernel_rfl) (by kernel_rfl) (by kernel_rfl) ?_
        refine RunA.rd rfl rfl rfl (OpOK.of_ro (RO.move rfl)) rfl <| RunA.rd rfl rfl rfl (OpOK.of_ro (RO.move rfl)) rfl <| RunA.rd rfl rfl rfl (OpOK.of_ro (RO.move rfl)) rfl ?_
        refine bindK h1 (fun x29 hx29 h1 => ?_)
        refine guardK h1 (fun g30 h1 => ?_)
        refine RunA.rd rfl rfl rfl (OpOK.of_ro (RO.indexO (α := Lvl) sl_31 rfl rfl hx29 g30)) rfl <| RunA.rd rfl rfl rfl (OpOK.of_ro (RO.loadOE (α := Lvl) (ys := [dI x29.c, dS x29.vs]) ag_39 rfl rfl hx29 rfl)) rfl <| RunA.rd rfl rfl rfl (OpOK.of_ro (RO.fieldOwn fo_59_1 rfl)) rfl <| RunA.rd rfl rfl rfl (OpOK.of_ro (RO.loadOwn ag_3 rfl rfl rfl)) rfl ?_
        refine bindK h1 (fun y31 h2 h1 => ?_)
        have hc32 : CallM Try.prog 67 [.one (.ptr 4 0), .agg (cE x29), .one (dI x25.2)] ⟨[(0, .cells 39 (flatE a1)), (1, .cells 39 (cE a0)), (2, .cells 39 [dI 0, dN]), (3, .mp (imE s1.2.1.1) s1.2.1.2), (4, .cells 105 [.mp 3, dI s1.2.2]), (5, .cells 59 (cE x25))], [], 6⟩ (resOf []) ⟨[(0, .cells 39 (flatE a1)), (1, .cells 39 (cE a0)), (2, .cells 39 [dI 0, dN]), (3, .mp (imE y31.1) y31.2), (4, .cells 105 [.mp 3, dI (max s1.2.2 (w64 (x29.c + x25.2)))]), (5, .cells 59 (cE x25))], [], 7⟩ := by
         refine CallM.of_bodyD ⟨[], [(0, .cells 39 (flatE a1)), (1, .cells 39 (cE a0)), (2, .cells 39 [dI 0, dN]), (3, .mp (imE y31.1) y31.2), (4, .cells 105 [.mp 3, dI (max s1.2.2 (w64 (x29.c + x25.2)))]), (5, .cells 59 (cE x25))], [], 7, 39, []⟩ rfl rfl en_67 (lb rfl) rfl .nil (fun w0 M V0 Q hv2 hQ2 => ?_)
         simp only [entry]
         refine XC.seq <| XC.region <| XL.put rfl rfl (lb rfl) (OpOK.box rfl) <| XL.nil <| XQ.seq <| XC.seq ?_
         refine XC.anyRun [12] [] mixed (by kernel_rfl) (by kernel_rfl) (by kernel_rfl) ?_
         refine RunA.rd rfl rfl rfl (OpOK.of_ro (RO.move rfl)) rfl <| RunA.rd rfl rfl rfl (OpOK.of_ro (RO.move rfl)) rfl <| RunA.rd rfl rfl rfl (OpOK.of_ro (RO.nilCheckPtr rfl)) rfl <| RunA.rd rfl rfl rfl (OpOK.of_ro (RO.fieldOwn fo_105_1 rfl)) rfl <| RunA.rd rfl rfl rfl (OpOK.of_ro (RO.loadOwn ag_3 rfl rfl rfl)) rfl <| RunA.rd rfl rfl rfl (OpOK.of_ro (RO.fieldOwn fo_39_0 rfl)) rfl <| RunA.rd rfl rfl rfl (OpOK.of_ro (RO.loadOwn ag_3 rfl rfl rfl)) rfl <| RunA.rd rfl rfl rfl (OpOK.of_ro (RO.move rfl)) rfl <| RunA.rd rfl rfl rfl (OpOK.of_ro (RO.binInt rfl rfl rfl)) rfl <| RunA.rd rfl rfl rfl (OpOK.of_ro (RO.max2 rfl rfl)) rfl <| RunA.rd rfl rfl rfl (OpOK.of_ro (RO.nilCheckPtr rfl)) rfl <| RunA.rd rfl rfl rfl (OpOK.of_ro (RO.fieldOwn fo_105_1 rfl)) rfl <| RunA.eff rfl rfl rfl (OpOK.store ag_3 rfl rfl rfl rfl (lb rfl) rfl) rfl ?_
         refine RunA.nil ⟨?ex, _, _, rfl, ?_⟩
         case ex => exact trivial
         refine XQ.less (st' := ⟨[(0, .v (.one (.ptr 4 0))), (2, .v (.one (dI x25.2))), (4, .v (.one (.ptr 6 0)))], [(0, .cells 39 (flatE a1)), (1, .cells 39 (cE a0)), (2, .cells 39 [dI 0, dN]), (3, .mp (imE s1.2.1.1) s1.2.1.2), (4, .cells 105 [.mp 3, dI (max s1.2.2 (w64 (x29.c + x25.2)))]), (5, .cells 59 (cE x25)), (6, .cells 39 (cE x29))], [], 7, 39, []⟩) (stle (tR rfl (tR rfl (tR rfl tZ))) (hR rfl (hR rfl (hR rfl (hR rfl (hR rfl (hR rfl (hR rfl hZ))))))) kZ rfl (Nat.le_trans hv2 (lb rfl)) rfl rfl rfl (bF rfl (bB rfl rfl (bB rfl rfl (bM rfl (bB rfl rfl (bB rfl rfl (bB rfl rfl bZ))))))) rfl rfl) <| XQ.seq <| XC.seq <| XC.region <| rR rfl rfl rfl (RO.fieldOwn fo_39_1 rfl) <| rR rfl rfl rfl (RO.loadOwn ag_37 rfl rfl rfl) <| rR rfl rfl rfl (RO.lenE (α := LV) sl_37 rfl (.d _)) <| rM rfl rfl rfl <| XL.nil <| XQ.seq <| XC.block ?_
         refine XC.joinX 0 (fun (o33 : IMap) => ⟨[], [(0, .cells 39 (flatE a1)), (1, .cells 39 (cE a0)), (2, .cells 39 [dI 0, dN]), (3, .mp (imE o33.1) o33.2), (4, .cells 105 [.mp 3, dI (max s1.2.2 (w64 (x29.c + x25.2)))]), (5, .cells 59 (cE x25)), (6, .cells 39 (cE x29))], [], 7, 39, []⟩) (fun (o33 : IMap) => (some o33) = some y31) ?_ ?_
         ·
          refine bindK h2 (fun o34 hl3 h2 => ?_)
          refine XC.loopM (m48o_l0 x29 x25) (fun s3 => ⟨[(0, .v (.one (.ptr 4 0))), (2, .v (.one (dI x25.2))), (21, .v (.one (dS x29.vs))), (22, .v (.one (dI (x29.vs.length : Int)))), (23, .v (.one (dI s3.1)))], [(0, .cells 39 (flatE a1)), (1, .cells 39 (cE a0)), (2, .cells 39 [dI 0, dN]), (3, .mp (imE s3.2.1) s3.2.2), (4, .cells 105 [.mp 3, dI (max s1.2.2 (w64 (x29.c + x25.2)))]), (5, .cells 59 (cE x25)), (6, .cells 39 (cE x29))], [], 7, 39, []⟩) (0, s1.2.1) o34 (stle (tR rfl (tR rfl (tR rfl (tR rfl (tR rfl tZ))))) (hR rfl (hR rfl (hR rfl (hR rfl (hR rfl (hR rfl (hR rfl hZ))))))) kZ rfl (Nat.le_trans hv2 (lb rfl)) rfl rfl rfl (bF rfl (bB rfl rfl (bB rfl rfl (bM rfl (bB rfl rfl (bB rfl rfl (bB rfl rfl bZ))))))) rfl rfl) hl3 (fun s3 n3 oo3 h3 ho3 => ?_)
          unfold m48o_l0 at h3
          refine XC.seq <| XC.region <| rR rfl rfl rfl (RO.binInt rfl rfl rfl) <| XL.nil <| XQ.seq <| XC.seq ?_
          refine XC.cond (b := (decide (s3.1 < (x29.vs.length : Int)))) rfl (fun c35 => ?_) (fun c35 => ?_)
          ·
           replace h3 := condT c35 h3
           refine XC.skip <| XQ.seq <| XC.seq <| XC.block <| XC.seq <| XC.region ?_
           refine bindK h3 (fun x36 hx36 h3 => ?_)
           refine rR rfl rfl rfl (RO.indexE (α := LV) sl_37 rfl (.d _) rfl hx36) <| rR rfl rfl rfl (RO.loadPelAgg ag_59 rfl rfl rfl) <| XL.put rfl rfl (lb rfl) (OpOK.alloc z_59 rfl) <| XL.eff rfl rfl (OpOK.store ag_59 rfl rfl rfl rfl (lb rfl) rfl) <| XL.nil <| XQ.seq ?_
           refine XC.anyRun [10] [] mixed (by kernel_rfl) (by kernel_rfl) (by kernel_rfl) ?_
           refine RunA.rd rfl rfl rfl (OpOK.of_ro (RO.move rfl)) rfl <| RunA.rd rfl rfl rfl (OpOK.of_ro (RO.nilCheckPtr rfl)) rfl <| RunA.rd rfl rfl rfl (OpOK.of_ro (RO.fieldOwn fo_105_0 rfl)) rfl <| RunA.rd rfl rfl rfl (OpOK.of_ro (RO.loadOwn ag_103 rfl rfl rfl)) rfl <| RunA.rd rfl rfl rfl (OpOK.of_ro (RO.fieldOwn fo_59_0 rfl)) rfl <| RunA.rd rfl rfl rfl (OpOK.of_ro (RO.loadOwn ag_3 rfl rfl rfl)) rfl <| RunA.rd rfl rfl rfl (OpOK.of_ro (RO.fieldOwn fo_59_1 rfl)) rfl <| RunA.rd rfl rfl rfl (OpOK.of_ro (RO.loadOwn ag_3 rfl rfl rfl)) rfl <| RunA.rd rfl rfl rfl (OpOK.of_ro (RO.move rfl)) rfl <| RunA.rd rfl rfl rfl (OpOK.of_ro (RO.binInt rfl rfl rfl)) rfl ?_
           refine bindK h3 (fun y37 h4 h3 => ?_)
           have hc38 : CallM Try.prog 68 [.one (.mp 3), .one (dI x36.1), .one (dI (w64 (x36.2 + x25.2)))] ⟨[(0, .cells 39 (flatE a1)), (1, .cells 39 (cE a0)), (2, .cells 39 [dI 0, dN]), (3, .mp (imE s3.2.1) s3.2.2), (4, .cells 105 [.mp 3, dI (max s1.2.2 (w64 (x29.c + x25.2)))]), (5, .cells 59 (cE x25)), (6, .cells 39 (cE x29)), (7, .cells 59 (cE x36))], [], 8⟩ (resOf []) ⟨[(0, .cells 39 (flatE a1)), (1, .cells 39 (cE a0)), (2, .cells 39 [dI 0, dN]), (3, .mp (imE y37.1) y37.2), (4, .cells 105 [.mp 3, dI (max s1.2.2 (w64 (x29.c + x25.2)))]), (5, .cells 59 (cE x25)), (6, .cells 39 (cE x29)), (7, .cells 59 (cE x36))], [], 8⟩ := by
            refine CallM.of_bodyD ⟨[], [(0, .cells 39 (flatE a1)), (1, .cells 39 (cE a0)), (2, .cells 39 [dI 0, dN]), (3, .mp (imE y37.1) y37.2), (4, .cells 105 [.mp 3, dI (max s1.2.2 (w64 (x29.c + x25.2)))]), (5, .cells 59 (cE x25)), (6, .cells 39 (cE x29)), (7, .cells 59 (cE x36))], [], 8, 24, []⟩ rfl rfl en_68 (lb rfl) rfl .nil (fun w0 M V0 Q hv4 hQ4 => ?_)
            simp only [entry]
            refine XC.seq <| XC.region <| rM rfl rfl rfl <| rM rfl rfl rfl <| rR rfl rfl rfl (RO.lookupT mp_103 rfl rfl rfl) <| rM rfl rfl rfl <| rR rfl rfl rfl (RO.extract rfl rfl) <| rR rfl rfl rfl (RO.extract rfl rfl) <| rA rfl rfl rfl <| rA rfl rfl rfl <| XL.nil <| XQ.seq <| XC.seq ?_
            refine XC.joinR (fun (v39 : Bool) => ⟨[(0, .v (.one (.mp 3))), (1, .v (.one (dI x36.1))), (2, .v (.one (dI (w64 (x36.2 + x25.2))))), (20, .v (.one (dB v39)))], [(0, .cells 39 (flatE a1)), (1, .cells 39 (cE a0)), (2, .cells 39 [dI 0, dN]), (3, .mp (imE s3.2.1) s3.2.2), (4, .cells 105 [.mp 3, dI (max s1.2.2 (w64 (x29.c + x25.2)))]), (5, .cells 59 (cE x25)), (6, .cells 39 (cE x29)), (7, .cells 59 (cE x36))], [], 8, 24, []⟩) (fun (v39 : Bool) => (cond v39
                (some (imSet s3.2 x36.1 (w64 (x36.2 + x25.2))))
                (some s3.2)) = some y37) ?_ ?_
            ·
             refine bindK h4 (fun v_ h5 h4 => ?_)
             refine XC.region <| rM rfl rfl rfl <| rR rfl rfl rfl (RO.not rfl) <| rM rfl rfl rfl ?_
             refine XL.case (d := 16) (c := (!(imHas s3.2 x36.1))) rfl (fun c40 => ?_) (fun c40 => ?_)
             ·
              replace h5 := condT c40 h5
              refine XL.no rfl rfl <| XL.no rfl rfl <| XL.no rfl rfl <| rR rfl rfl rfl (RO.pickT rfl rfl) <| XL.nil ?_
              have e_ := Option.some.inj h5
              subst e_
              exact XQ.joinR true (stle (tR rfl (tR rfl (tR rfl (tR rfl tZ)))) (hR rfl (hR rfl (hR rfl (hR rfl (hR rfl (hR rfl (hR rfl (hR rfl hZ)))))))) kZ rfl (Nat.le_trans hv4 (lb rfl)) rfl rfl rfl (bF rfl (bB rfl rfl (bB rfl rfl (bM rfl (bB rfl rfl (bB rfl rfl (bB rfl rfl (bB rfl rfl bZ)))))))) rfl rfl) h4
             ·
              replace h5 := condF c40 h5
              refine rM rfl rfl rfl <| rM rfl rfl rfl <| rR rfl rfl rfl (RO.binInt rfl rfl rfl) <| rR rfl rfl rfl (RO.pickF rfl rfl) <| XL.nil ?_
              have e_ := Option.some.inj h5
              subst e_
              exact XQ.joinR (decide ((imVal s3.2 x36.1) < (w64 (x36.2 + x25.2)))) (stle (tR rfl (tR rfl (tR rfl (tR rfl tZ)))) (hR rfl (hR rfl (hR rfl (hR rfl (hR rfl (hR rfl (hR rfl (hR rfl hZ)))))))) kZ rfl (Nat.le_trans hv4 (lb rfl)) rfl rfl rfl (bF rfl (bB rfl rfl (bB rfl rfl (bM rfl (bB rfl rfl (bB rfl rfl (bB rfl rfl (bB rfl rfl bZ)))))))) rfl rfl) h4
            ·
             intro v39 h4
             refine XQ.seq ?_
             refine XC.cond (b := v39) rfl (fun c41 => ?_) (fun c41 => ?_)
             ·
              replace h4 := condT c41 h4
              refine XC.region <| rM rfl rfl rfl <| rM rfl rfl rfl <| rM rfl rfl rfl <| XL.eff rfl rfl (OpOK.mapSetI mp_103 rfl rfl rfl rfl rfl) <| XL.nil ?_
              have e_ := Option.some.inj h4
              subst e_
              exact hQ4 _ _ _ (.inl rfl) rfl (stle tZ (hR rfl (hR rfl (hR rfl (hR rfl (hR rfl (hR rfl (hR rfl (hR rfl hZ)))))))) kZ rfl (Nat.le_trans hv4 (lb rfl)) rfl rfl rfl (bF rfl (bB rfl rfl (bB rfl rfl (bM rfl (bB rfl rfl (bB rfl rfl (bB rfl rfl (bB rfl rfl bZ)))))))) rfl rfl)
             ·
              replace h4 := condF c41 h4
              refine XC.skip ?_
              have e_ := Option.some.inj h4
              subst e_
              exact hQ4 _ _ _ (.inl rfl) rfl (stle tZ (hR rfl (hR rfl (hR rfl (hR rfl (hR rfl (hR rfl (hR rfl (hR rfl hZ)))))))) kZ rfl (Nat.le_trans hv4 (lb rfl)) rfl rfl rfl (bF rfl (bB rfl rfl (bB rfl rfl (bM rfl (bB rfl rfl (bB rfl rfl (bB rfl rfl (bB rfl rfl bZ)))))))) rfl rfl)
           refine RunA.eff rfl rfl rfl (OpOK.callW rfl rfl rfl hc38 rfl (hR rfl (hR rfl (hR rfl (hR rfl (hR rfl (hR rfl (hR rfl (hR rfl hZ)))))))) kZ) rfl ?_
           refine RunA.nil ⟨?ex, _, _, rfl, ?_⟩
           case ex => exact trivial
           refine XQ.less (st' := ⟨[(0, .v (.one (.ptr 4 0))), (2, .v (.one (dI x25.2))), (21, .v (.one (dS x29.vs))), (22, .v (.one (dI (x29.vs.length : Int)))), (23, .v (.one (dI s3.1)))], [(0, .cells 39 (flatE a1)), (1, .cells 39 (cE a0)), (2, .cells 39 [dI 0, dN]), (3, .mp (imE y37.1) y37.2), (4, .cells 105 [.mp 3, dI (max s1.2.2 (w64 (x29.c + x25.2)))]), (5, .cells 59 (cE x25)), (6, .cells 39 (cE x29)), (7, .cells 59 (cE x36))], [], 8, 39, []⟩) (stle (tR rfl (tR rfl (tR rfl (tR rfl (tR rfl tZ))))) (hR rfl (hR rfl (hR rfl (hR rfl (hR rfl (hR rfl (hR rfl (hR rfl hZ)))))))) kZ rfl (Nat.le_trans hv2 (lb rfl)) rfl rfl rfl (bF rfl (bB rfl rfl (bB rfl rfl (bM rfl (bB rfl rfl (bB rfl rfl (bB rfl rfl (bB rfl rfl bZ)))))))) rfl rfl) <| XQ.inBlock <| XQ.seq <| XC.region <| rR rfl rfl rfl (RO.binInt rfl rfl rfl) <| rM rfl rfl rfl <| XL.nil ?_
           have e_ := Option.some.inj h3
           subst e_
           refine XQ.nextM ((w64 (s3.1 + 1)), y37) (stle (tR rfl (tR rfl (tR rfl (tR rfl (tR rfl tZ))))) (hR rfl (hR rfl (hR rfl (hR rfl (hR rfl (hR rfl (hR rfl hZ))))))) kZ rfl (Nat.le_trans hv2 (lb rfl)) rfl rfl rfl (bF rfl (bB rfl rfl (bB rfl rfl (bM rfl (bB rfl rfl (bB rfl rfl (bB rfl rfl bZ))))))) rfl rfl) ho3
          ·
           replace h3 := condF c35 h3
           refine XC.exit <| XQ.thenE <| XQ.thenE ?_
           have e_ := Option.some.inj h3
           subst e_
           have e_ : _ = _ := ho3
           subst e_
           exact XQ.joinX s3.2 (stle tZ (hR rfl (hR rfl (hR rfl (hR rfl (hR rfl (hR rfl (hR rfl hZ))))))) kZ rfl (Nat.le_trans hv2 (lb rfl)) rfl rfl rfl (bF rfl (bB rfl rfl (bB rfl rfl (bM rfl (bB rfl rfl (bB rfl rfl (bB rfl rfl bZ))))))) rfl rfl) h2
         ·
          intro o33 h2
          refine XQ.blockX ?_
          have e_ := Option.some.inj h2
          subst e_
          exact hQ2 _ _ _ (.inl rfl) rfl (stle tZ (hR rfl (hR rfl (hR rfl (hR rfl (hR rfl (hR rfl hZ)))))) kZ rfl (Nat.le_trans hv2 (lb rfl)) rfl rfl rfl (bF rfl (bB rfl rfl (bB rfl rfl (bM rfl (bB rfl rfl (bB rfl rfl bZ)))))) rfl rfl)
        refine RunA.eff rfl rfl rfl (OpOK.callW rfl rfl rfl hc32 rfl (hR rfl (hR rfl (hR rfl (hR rfl (hR rfl (hR rfl hZ)))))) kZ) rfl ?_
        refine RunA.nil ⟨?ex, _, _, rfl, ?_⟩
        case ex => exact trivial
        refine XQ.less (st' := ⟨[(1, .v (.one (.osl 0 0 nn nn))), (4, .v (.one (.ptr 2 0))), (6, .v (.one (.ptr 4 0))), (26, .v (.one (dS a0.vs))), (27, .v (.one (dI (a0.vs.length : Int)))), (28, .v (.one (dI s1.1)))], [(0, .cells 39 (flatE a1)), (1, .cells 39 (cE a0)), (2, .cells 39 [dI 0, dN]), (3, .mp (imE y31.1) y31.2), (4, .cells 105 [.mp 3, dI (max s1.2.2 (w64 (x29.c + x25.2)))]), (5, .cells 59 (cE x25))], [], 7, 65, []⟩) (stle (tR rfl (tR rfl (tR rfl (tR rfl (tR rfl (tR rfl tZ)))))) (hR rfl (hR rfl (hR rfl (hR rfl (hR rfl (hR rfl hZ)))))) kZ rfl (Nat.le_trans hv0 (lb rfl)) rfl rfl rfl (bF rfl (bB rfl rfl (bB rfl rfl (bM rfl (bB rfl rfl (bB rfl rfl bZ)))))) rfl rfl) <| XQ.inBlock <| XQ.seq <| XC.region <| rR rfl rfl rfl (RO.binInt rfl rfl rfl) <| rM rfl rfl rfl <| XL.nil ?_
        have e_ := Option.some.inj h1
        subst e_
        refine XQ.nextM ((w64 (s1.1 + 1)), y31, (max s1.2.2 (w64 (x29.c + x25.2)))) (stle (tR rfl (tR rfl (tR rfl (tR rfl (tR rfl (tR rfl tZ)))))) (hR rfl (hR rfl (hR rfl (hR rfl (hR rfl hZ))))) kZ rfl (Nat.le_trans hv0 (lb rfl)) rfl rfl rfl (bF rfl (bB rfl rfl (bB rfl rfl (bM rfl (bB rfl rfl bZ))))) rfl rfl) ho1
       ·
        replace h1 := condF c28 h1
        refine XC.anyRun [8] [] mixed (by kernel_rfl) (by kernel_rfl) (by kernel_rfl) ?_
        refine RunA.rd rfl rfl rfl (OpOK.of_ro (RO.move rfl)) rfl <| RunA.rd rfl rfl rfl (OpOK.of_ro (RO.nilCheckPtr rfl)) rfl <| RunA.rd rfl rfl rfl (OpOK.of_ro (RO.fieldOwn fo_105_0 rfl)) rfl <| RunA.rd rfl rfl rfl (OpOK.of_ro (RO.loadOwn ag_103 rfl rfl rfl)) rfl <| RunA.rd rfl rfl rfl (OpOK.of_ro (RO.fieldOwn fo_59_0 rfl)) rfl <| RunA.rd rfl rfl rfl (OpOK.of_ro (RO.loadOwn ag_3 rfl rfl rfl)) rfl <| RunA.rd rfl rfl rfl (OpOK.of_ro (RO.fieldOwn fo_59_1 rfl)) rfl <| RunA.rd rfl rfl rfl (OpOK.of_ro (RO.loadOwn ag_3 rfl rfl rfl)) rfl ?_
        refine bindK h1 (fun y42 h2 h1 => ?_)
        have hc43 : CallM Try.prog 68 [.one (.mp 3), .one (dI x25.1), .one (dI x25.2)] ⟨[(0, .cells 39 (flatE a1)), (1, .cells 39 (cE a0)), (2, .cells 39 [dI 0, dN]), (3, .mp (imE s1.2.1.1) s1.2.1.2), (4, .cells 105 [.mp 3, dI s1.2.2]), (5, .cells 59 (cE x25))], [], 6⟩ (resOf []) ⟨[(0, .cells 39 (flatE a1)), (1, .cells 39 (cE a0)), (2, .cells 39 [dI 0, dN]), (3, .mp (imE y42.1) y42.2), (4, .cells 105 [.mp 3, dI s1.2.2]), (5, .cells 59 (cE x25))], [], 6⟩ := by
         refine CallM.of_bodyD ⟨[], [(0, .cells 39 (flatE a1)), (1, .cells 39 (cE a0)), (2, .cells 39 [dI 0, dN]), (3, .mp (imE y42.1) y42.2), (4, .cells 105 [.mp 3, dI s1.2.2]), (5, .cells 59 (cE x25))], [], 6, 24, []⟩ rfl rfl en_68 (lb rfl) rfl .nil (fun w0 M V0 Q hv2 hQ2 => ?_)
         simp only [entry]
         refine XC.seq <| XC.region <| rM rfl rfl rfl <| rM rfl rfl rfl <| rR rfl rfl rfl (RO.lookupT mp_103 rfl rfl rfl) <| rM rfl rfl rfl <| rR rfl rfl rfl (RO.extract rfl rfl) <| rR rfl rfl rfl (RO.extract rfl rfl) <| rA rfl rfl rfl <| rA rfl rfl rfl <| XL.nil <| XQ.seq <| XC.seq ?_
         refine XC.joinR (fun (v44 : Bool) => ⟨[(0, .v (.one (.mp 3))), (1, .v (.one (dI x25.1))), (2, .v (.one (dI x25.2))), (20, .v (.one (dB v44)))], [(0, .cells 39 (flatE a1)), (1, .cells 39 (cE a0)), (2, .cells 39 [dI 0, dN]), (3, .mp (imE s1.2.1.1) s1.2.1.2), (4, .cells 105 [.mp 3, dI s1.2.2]), (5, .cells 59 (cE x25))], [], 6, 24, []⟩) (fun (v44 : Bool) => (cond v44
             (some (imSet s1.2.1 x25.1 x25.2))
             (some s1.2.1)) = some y42) ?_ ?_
         ·
          refine bindK h2 (fun v_ h3 h2 => ?_)
          refine XC.region <| rM rfl rfl rfl <| rR rfl rfl rfl (RO.not rfl) <| rM rfl rfl rfl ?_
          refine XL.case (d := 16) (c := (!(imHas s1.2.1 x25.1))) rfl (fun c45 => ?_) (fun c45 => ?_)
          ·
           replace h3 := condT c45 h3
           refine XL.no rfl rfl <| XL.no rfl rfl <| XL.no rfl rfl <| rR rfl rfl rfl (RO.pickT rfl rfl) <| XL.nil ?_
           have e_ := Option.some.inj h3
           subst e_
           exact XQ.joinR true (stle (tR rfl (tR rfl (tR rfl (tR rfl tZ)))) (hR rfl (hR rfl (hR rfl (hR rfl (hR rfl (hR rfl hZ)))))) kZ rfl (Nat.le_trans hv2 (lb rfl)) rfl rfl rfl (bF rfl (bB rfl rfl (bB rfl rfl (bM rfl (bB rfl rfl (bB rfl rfl bZ)))))) rfl rfl) h2
          ·
           replace h3 := condF c45 h3
           refine rM rfl rfl rfl <| rM rfl rfl rfl <| rR rfl rfl rfl (RO.binInt rfl rfl rfl) <| rR rfl rfl rfl (RO.pickF rfl rfl) <| XL.nil ?_
           have e_ := Option.some.inj h3
           subst e_
           exact XQ.joinR (decide ((imVal s1.2.1 x25.1) < x25.2)) (stle (tR rfl (tR rfl (tR rfl (tR rfl tZ)))) (hR rfl (hR rfl (hR rfl (hR rfl (hR rfl (hR rfl hZ)))))) kZ rfl (Nat.le_trans hv2 (lb rfl)) rfl rfl rfl (bF rfl (bB rfl rfl (bB rfl rfl (bM rfl (bB rfl rfl (bB rfl rfl bZ)))))) rfl rfl) h2
         ·
          intro v44 h2
          refine XQ.seq ?_
          refine XC.cond (b := v44) rfl (fun c46 => ?_) (fun c46 => ?_)
          ·
           replace h2 := condT c46 h2
           refine XC.region <| rM rfl rfl rfl <| rM rfl rfl rfl <| rM rfl rfl rfl <| XL.eff rfl rfl (OpOK.mapSetI mp_103 rfl rfl rfl rfl rfl) <| XL.nil ?_
           have e_ := Option.some.inj h2
           subst e_
           exact hQ2 _ _ _ (.inl rfl) rfl (stle tZ (hR rfl (hR rfl (hR rfl (hR rfl (hR rfl (hR rfl hZ)))))) kZ rfl (Nat.le_trans hv2 (lb rfl)) rfl rfl rfl (bF rfl (bB rfl rfl (bB rfl rfl (bM rfl (bB rfl rfl (bB rfl rfl bZ)))))) rfl rfl)
          ·
           replace h2 := condF c46 h2
           refine XC.skip ?_
           have e_ := Option.some.inj h2
           subst e_
           exact hQ2 _ _ _ (.inl rfl) rfl (stle tZ (hR rfl (hR rfl (hR rfl (hR rfl (hR rfl (hR rfl hZ)))))) kZ rfl (Nat.le_trans hv2 (lb rfl)) rfl rfl rfl (bF rfl (bB rfl rfl (bB rfl rfl (bM rfl (bB rfl rfl (bB rfl rfl bZ)))))) rfl rfl)
        refine RunA.eff rfl rfl rfl (OpOK.callW rfl rfl rfl hc43 rfl (hR rfl (hR rfl (hR rfl (hR rfl (hR rfl (hR rfl hZ)))))) kZ) rfl ?_
        refine RunA.nil ⟨?ex, _, _, rfl, ?_⟩
        case ex => exact trivial
        refine XQ.less (st' := ⟨[(1, .v (.one (.osl 0 0 nn nn))), (4, .v (.one (.ptr 2 0))), (6, .v (.one (.ptr 4 0))), (26, .v (.one (dS a0.vs))), (27, .v (.one (dI (a0.vs.length : Int)))), (28, .v (.one (dI s1.1)))], [(0, .cells 39 (flatE a1)), (1, .cells 39 (cE a0)), (2, .cells 39 [dI 0, dN]), (3, .mp (imE y42.1) y42.2), (4, .cells 105 [.mp 3, dI s1.2.2]), (5, .cells 59 (cE x25))], [], 6, 65, []⟩) (stle (tR rfl (tR rfl (tR rfl (tR rfl (tR rfl (tR rfl tZ)))))) (hR rfl (hR rfl (hR rfl (hR rfl (hR rfl (hR rfl hZ)))))) kZ rfl (Nat.le_trans hv0 (lb rfl)) rfl rfl rfl (bF rfl (bB rfl rfl (bB rfl rfl (bM rfl (bB rfl rfl (bB rfl rfl bZ)))))) rfl rfl) <| XQ.inBlock <| XQ.seq <| XC.region <| rR rfl rfl rfl (RO.binInt rfl rfl rfl) <| rM rfl rfl rfl <| XL.nil ?_
        have e_ := Option.some.inj h1
        subst e_
        refine XQ.nextM ((w64 (s1.1 + 1)), y42, s1.2.2) (stle (tR rfl (tR rfl (tR rfl (tR rfl (tR rfl (tR rfl tZ)))))) (hR rfl (hR rfl (hR rfl (hR rfl (hR rfl hZ))))) kZ rfl (Nat.le_trans hv0 (lb rfl)) rfl rfl rfl (bF rfl (bB rfl rfl (bB rfl rfl (bM rfl (bB rfl rfl bZ))))) rfl rfl) ho1
     ·
      replace h1 := condF c24 h1
      refine XC.exit <| XQ.thenE <| XQ.thenE ?_
      have e_ := Option.some.inj h1
      subst e_
      have e_ : _ = _ := ho1
      subst e_
      exact XQ.joinX (s1.2.1, s1.2.2) (stle (tR rfl (tR rfl tZ)) (hR rfl (hR rfl (hR rfl (hR rfl (hR rfl hZ))))) kZ rfl (Nat.le_trans hv0 (lb rfl)) rfl rfl rfl (bF rfl (bB rfl rfl (bB rfl rfl (bM rfl (bB rfl rfl bZ))))) rfl rfl) h0
    ·
     intro o22 h0
     refine XQ.blockX <| XQ.seq <| XC.seq <| XC.region <| rM rfl rfl rfl ?_
     refine bindK h0 (fun y47 h1 h0 => ?_)
     have hc48 : CallM Try.prog 69 [.one (.ptr 4 0)] ⟨[(0, .cells 39 (flatE a1)), (1, .cells 39 (cE a0)), (2, .cells 39 [dI 0, dN]), (3, .mp (imE o22.1.1) o22.1.2), (4, .cells 105 [.mp 3, dI o22.2])], [], 5⟩ (resOf [.agg [dI y47.2.1, dS y47.2.2], .one (dI y47.1)]) ⟨[(0, .cells 39 (flatE a1)), (1, .cells 39 (cE a0)), (2, .cells 39 [dI 0, dN]), (3, .mp (imE o22.1.1) o22.1.2), (4, .cells 105 [.mp 3, dI o22.2]), (5, .cells 39 [dI y47.2.1, dS y47.2.2])], [], 9⟩ := by
      refine CallM.of_bodyD ⟨[(2, .v (.one (.ptr 5 0))), (3, .v (.one (dI y47.1)))], [(0, .cells 39 (flatE a1)), (1, .cells 39 (cE a0)), (2, .cells 39 [dI 0, dN]), (3, .mp (imE o22.1.1) o22.1.2), (4, .cells 105 [.mp 3, dI o22.2]), (5, .cells 39 [dI y47.2.1, dS y47.2.2])], [], 9, 41, []⟩ rfl rfl en_69 (lb rfl) rfl (RAs.agg ag_39 rfl rfl rfl rfl (RAs.tmp rfl .nil)) (fun w0 M V0 Q hv1 hQ1 => ?_)
      simp only [entry]
      refine XC.seq <| XC.region <| XL.put rfl rfl (lb rfl) (OpOK.alloc z_39 rfl) <| rA rfl rfl rfl <| XL.nil <| XQ.seq <| XC.seq <| XC.region <| rM rfl rfl rfl <| rR rfl rfl rfl (RO.nilCheckPtr rfl) <| rR rfl rfl rfl (RO.fieldOwn fo_105_1 rfl) <| rR rfl rfl rfl (RO.loadOwn ag_3 rfl rfl rfl) <| rR rfl rfl rfl (RO.build1 bd_39 rfl rfl rfl) <| XL.put rfl rfl (lb rfl) (OpOK.alloc z_39 rfl) ?_
      refine XL.eff rfl rfl (OpOK.store ag_39 rfl rfl rfl rfl (lb rfl) rfl) <| XL.nil <| XQ.seq <| XC.seq <| XC.seq <| XC.region <| rM rfl rfl rfl <| rR rfl rfl rfl (RO.nilCheckPtr rfl) <| rR rfl rfl rfl (RO.fieldOwn fo_105_0 rfl) <| rR rfl rfl rfl (RO.loadOwn ag_103 rfl rfl rfl) ?_
      refine bindK h1 (fun y49 h2 h1 => ?_)
      have hc50 : CallM Try.prog 83 [.one (.mp 3)] ⟨[(0, .cells 39 (flatE a1)), (1, .cells 39 (cE a0)), (2, .cells 39 [dI 0, dN]), (3, .mp (imE o22.1.1) o22.1.2), (4, .cells 105 [.mp 3, dI o22.2]), (5, .cells 39 [dI 0, dN]), (6, .cells 39 [dI o22.2, dN])], [], 7⟩ (resOf [.one (.fn 91 [(7, 0)])]) ⟨[(0, .cells 39 (flatE a1)), (1, .cells 39 (cE a0)), (2, .cells 39 [dI 0, dN]), (3, .mp (imE o22.1.1) o22.1.2), (4, .cells 105 [.mp 3, dI o22.2]), (5, .cells 39 [dI 0, dN]), (6, .cells 39 [dI o22.2, dN]), (7, .cells 103 [.mp 3])], [], 8⟩ := by
       refine CallM.of_bodyD ⟨[(2, .v (.one (.fn 91 [(7, 0)])))], [(0, .cells 39 (flatE a1)), (1, .cells 39 (cE a0)), (2, .cells 39 [dI 0, dN]), (3, .mp (imE o22.1.1) o22.1.2), (4, .cells 105 [.mp 3, dI o22.2]), (5, .cells 39 [dI 0, dN]), (6, .cells 39 [dI o22.2, dN]), (7, .cells 103 [.mp 3])], [], 8, 4, []⟩ rfl rfl en_83 (lb rfl) rfl (RAs.tmp rfl .nil) (fun w0 M V0 Q hv2 hQ2 => ?_)
       simp only [entry]
       refine XC.seq <| XC.region <| XL.put rfl rfl (lb rfl) (OpOK.box rfl) <| rA rfl rfl rfl <| XL.nil <| XQ.seq <| XC.seq <| XC.region <| rR rfl rfl rfl (RO.makeFunc1 rfl) <| rA rfl rfl rfl <| XL.nil <| XQ.seq <| XC.ret ?_
       have e_ := Option.some.inj h2
       subst e_
       exact hQ2 _ _ _ (.inr rfl) rfl (stle (tR rfl tZ) (hR rfl (hR rfl (hR rfl (hR rfl (hR rfl (hR rfl (hR rfl (hR rfl hZ)))))))) kZ rfl (Nat.le_trans hv2 (lb rfl)) rfl rfl rfl (bF rfl (bB rfl rfl (bB rfl rfl (bM rfl (bB rfl rfl (bB rfl rfl (bB rfl rfl (bB rfl rfl bZ)))))))) rfl rfl)
      refine XL.put rfl rfl (lb rfl) (OpOK.callW rfl rfl rfl hc50 rfl (hR rfl (hR rfl (hR rfl (hR rfl (hR rfl (hR rfl (hR rfl hZ))))))) kZ) ?_
      refine guardK h1 (fun g51 h1 => ?_)
      refine XL.put rfl rfl (lb rfl) (OpOK.sortedKeys rfl rfl rfl rfl g51) <| rR rfl rfl rfl (RO.lenE (α := Int) sl_66 rfl (.d _)) <| rM rfl rfl rfl <| XL.nil <| XQ.seq <| XC.block ?_
      refine XC.joinX 0 (fun (o52 : (List LV)) => ⟨[(2, .v (.one (.ptr 5 0))), (4, .v (.one (.ptr 6 0)))], [(0, .cells 39 (flatE a1)), (1, .cells 39 (cE a0)), (2, .cells 39 [dI 0, dN]), (3, .mp (imE o22.1.1) o22.1.2), (4, .cells 105 [.mp 3, dI o22.2]), (5, .cells 39 [dI 0, dN]), (6, .cells 39 [dI o22.2, dA 8 o52]), (7, .cells 103 [.mp 3])], [(8, some ⟨59, 2, (Enc.encL o52).length⟩)], 9, 41, []⟩) (fun (o52 : (List LV)) => (guardO (Nat.ble (⟨o22.2, o52⟩ : Lvl).vs.length 100000)
        (some ((limL (⟨o22.2, o52⟩ : Lvl)).2, ((limL (⟨o22.2, o52⟩ : Lvl)).1).c, ((limL (⟨o22.2, o52⟩ : Lvl)).1).vs))) = some y47) ?_ ?_
      ·
       refine XC.adoptC (i := 6) (off := 1) 59 2 rfl rfl ?_
       refine bindK h1 (fun o53 hl2 h1 => ?_)
       refine XC.loopM (m48o_l2 o22) (fun s2 => ⟨[(0, .v (.one (.ptr 4 0))), (2, .v (.one (.ptr 5 0))), (4, .v (.one (.ptr 6 0))), (17, .v (.one (dS ((imKeys o22.1) : List Int)))), (18, .v (.one (dI ((imKeys o22.1).length : Int)))), (19, .v (.one (dI s2.1)))], [(0, .cells 39 (flatE a1)), (1, .cells 39 (cE a0)), (2, .cells 39 [dI 0, dN]), (3, .mp (imE o22.1.1) o22.1.2), (4, .cells 105 [.mp 3, dI o22.2]), (5, .cells 39 [dI 0, dN]), (6, .cells 39 [dI o22.2, dA 8 s2.2]), (7, .cells 103 [.mp 3])], [(8, some ⟨59, 2, (Enc.encL s2.2).length⟩)], 9, 41, []⟩) (0, ([] : List LV)) o53 (stle (tR rfl (tR rfl (tR rfl (tR rfl (tR rfl (tR rfl tZ)))))) (hR rfl (hR rfl (hR rfl (hR rfl (hR rfl (hR rfl (hR rfl (hR rfl hZ)))))))) (kR rfl kZ) rfl (Nat.le_trans hv1 (lb rfl)) rfl rfl rfl (bF rfl (bB rfl rfl (bB rfl rfl (bM rfl (bB rfl rfl (bB rfl rfl (bB rfl rfl (bB rfl rfl bZ)))))))) rfl rfl) hl2 (fun s2 n2 oo2 h2 ho2 => ?_)
       unfold m48o_l2 at h2
       refine XC.seq <| XC.region <| rR rfl rfl rfl (RO.binInt rfl rfl rfl) <| XL.nil <| XQ.seq <| XC.seq ?_
       refine XC.cond (b := (decide (s2.1 < ((imKeys o22.1).length : Int)))) rfl (fun c54 => ?_) (fun c54 => ?_)
       ·
        replace h2 := condT c54 h2
        refine XC.skip <| XQ.seq <| XC.seq <| XC.block <| XC.seq <| XC.region ?_
        refine bindK h2 (fun x55 hx55 h2 => ?_)
        refine rR rfl rfl rfl (RO.indexE (α := Int) sl_66 rfl (.d _) rfl hx55) <| rR rfl rfl rfl (RO.loadPel ag_3 rfl rfl) <| rA rfl rfl rfl <| XL.nil <| XQ.seq ?_
        refine XC.anyRun [11, 13] [] mixed (by kernel_rfl) (by kernel_rfl) (by kernel_rfl) ?_
        refine RunA.rd rfl rfl rfl (OpOK.of_ro (RO.fieldOwn fo_39_1 rfl)) rfl <| RunA.rd rfl rfl rfl (OpOK.of_ro (RO.loadOwn ag_37 rfl rfl rfl)) rfl <| RunA.rd rfl rfl rfl (OpOK.of_ro (RO.move rfl)) rfl <| RunA.rd rfl rfl rfl (OpOK.of_ro (RO.move rfl)) rfl <| RunA.rd rfl rfl rfl (OpOK.of_ro (RO.nilCheckPtr rfl)) rfl <| RunA.rd rfl rfl rfl (OpOK.of_ro (RO.fieldOwn fo_105_0 rfl)) rfl <| RunA.rd rfl rfl rfl (OpOK.of_ro (RO.loadOwn ag_103 rfl rfl rfl)) rfl <| RunA.rd rfl rfl rfl (OpOK.of_ro (RO.move rfl)) rfl <| RunA.rd rfl rfl rfl (OpOK.of_ro (RO.lookupF mp_103 rfl rfl rfl)) rfl <| RunA.rd rfl rfl rfl (OpOK.of_ro (RO.build2 bd_59 rfl rfl rfl rfl)) rfl <| RunA.rd rfl rfl rfl (OpOK.data1E (α := LV) ((x55, (imVal o22.1 x55))) sl_37 z_59 rfl rfl (lb rfl) rfl rfl (.cons (.d _) (.cons (.d _) .nil)) rfl) rfl ?_
        refine guardK h2 (fun g56 h2 => ?_)
        refine RunA.eff rfl rfl rfl (OpOK.appendE (α := LV) sl_37 el_59 rfl rfl rfl rfl rfl (.d _) g56) rfl <| RunA.rd rfl rfl rfl (OpOK.of_ro (RO.fieldOwn fo_39_1 rfl)) rfl <| RunA.eff rfl rfl rfl (OpOK.store ag_37 rfl rfl rfl rfl (lb rfl) rfl) rfl ?_
        refine RunA.nil ⟨?ex, _, _, rfl, ?_⟩
        case ex => exact trivial
        refine XQ.less (st' := ⟨[(0, .v (.one (.ptr 4 0))), (2, .v (.one (.ptr 5 0))), (4, .v (.one (.ptr 6 0))), (17, .v (.one (dS ((imKeys o22.1) : List Int)))), (18, .v (.one (dI ((imKeys o22.1).length : Int)))), (19, .v (.one (dI s2.1)))], [(0, .cells 39 (flatE a1)), (1, .cells 39 (cE a0)), (2, .cells 39 [dI 0, dN]), (3, .mp (imE o22.1.1) o22.1.2), (4, .cells 105 [.mp 3, dI o22.2]), (5, .cells 39 [dI 0, dN]), (6, .cells 39 [dI o22.2, dA 8 ((s2.2 ++ ([(x55, (imVal o22.1 x55))])) : List LV)]), (7, .cells 103 [.mp 3])], [(8, some ⟨59, 2, (Enc.encL ((s2.2 ++ ([(x55, (imVal o22.1 x55))])) : List LV)).length⟩)], 9, 41, []⟩) (stle (tR rfl (tR rfl (tR rfl (tR rfl (tR rfl (tR rfl tZ)))))) (hR rfl (hR rfl (hR rfl (hR rfl (hR rfl (hR rfl (hR rfl (hR rfl hZ)))))))) (kR rfl kZ) rfl (Nat.le_trans hv1 (lb rfl)) rfl rfl rfl (bF rfl (bB rfl rfl (bB rfl rfl (bM rfl (bB rfl rfl (bB rfl rfl (bB rfl rfl (bB rfl rfl bZ)))))))) rfl rfl) <| XQ.inBlock <| XQ.seq <| XC.region <| rR rfl rfl rfl (RO.binInt rfl rfl rfl) <| rM rfl rfl rfl <| XL.nil ?_
        have e_ := Option.some.inj h2
        subst e_
        refine XQ.nextM ((w64 (s2.1 + 1)), (s2.2 ++ ([(x55, (imVal o22.1 x55))]))) (stle (tR rfl (tR rfl (tR rfl (tR rfl (tR rfl (tR rfl tZ)))))) (hR rfl (hR rfl (hR rfl (hR rfl (hR rfl (hR rfl (hR rfl (hR rfl hZ)))))))) (kR rfl kZ) rfl (Nat.le_trans hv1 (lb rfl)) rfl rfl rfl (bF rfl (bB rfl rfl (bB rfl rfl (bM rfl (bB rfl rfl (bB rfl rfl (bB rfl rfl (bB rfl rfl bZ)))))))) rfl rfl) ho2
       ·
        replace h2 := condF c54 h2
        refine XC.exit <| XQ.thenE <| XQ.thenE ?_
        have e_ := Option.some.inj h2
        subst e_
        have e_ : _ = _ := ho2
        subst e_
        exact XQ.joinX s2.2 (stle (tR rfl (tR rfl tZ)) (hR rfl (hR rfl (hR rfl (hR rfl (hR rfl (hR rfl (hR rfl (hR rfl hZ)))))))) (kR rfl kZ) rfl (Nat.le_trans hv1 (lb rfl)) rfl rfl rfl (bF rfl (bB rfl rfl (bB rfl rfl (bM rfl (bB rfl rfl (bB rfl rfl (bB rfl rfl (bB rfl rfl bZ)))))))) rfl rfl) h1
      ·
       intro o52 h1
       refine XQ.blockX <| XQ.seq <| XC.seq <| XC.region <| rR rfl rfl rfl (RO.loadOwnAgg ag_39 rfl rfl rfl rfl) ?_
       refine guardK h1 (fun g57 h1 => ?_)
       refine XL.put rfl rfl (lb rfl) (OpOK.callFun (limited_fun (⟨o22.2, o52⟩ : Lvl) (Nat.le_of_ble_eq_true g57)) rfl (.cons (.agg (.cons (.d _) (.cons (.app _ _ _) .nil))) .nil)) ?_
       refine rR rfl rfl rfl (RO.extract rfl rfl) <| rR rfl rfl rfl (RO.extract rfl rfl) <| XL.eff rfl rfl (OpOK.store ag_39 rfl rfl rfl rfl (lb rfl) rfl) <| rA rfl rfl rfl <| XL.nil <| XQ.seq <| XC.ret ?_
       have e_ := Option.some.inj h1
       subst e_
       exact hQ1 _ _ _ (.inr rfl) rfl (stle (tR rfl (tR rfl tZ)) (hR rfl (hR rfl (hR rfl (hR rfl (hR rfl (hR rfl hZ)))))) kZ rfl (Nat.le_trans hv1 (lb rfl)) rfl rfl rfl (bF rfl (bB rfl rfl (bB rfl rfl (bM rfl (bB rfl rfl (bB rfl rfl bZ)))))) rfl rfl)
     refine XL.put rfl rfl (lb rfl) (OpOK.callW rfl rfl rfl hc48 rfl (hR rfl (hR rfl (hR rfl (hR rfl (hR rfl hZ))))) kZ) <| rR rfl rfl rfl (RO.extract rfl rfl) <| rR rfl rfl rfl (RO.extract rfl rfl) <| XL.eff rfl rfl (OpOK.store ag_39 rfl rfl rfl rfl (lb rfl) rfl) <| rA rfl rfl rfl <| XL.nil <| XQ.seq <| XC.ret ?_
     have e_ := Option.some.inj h0
     subst e_
     exact hQ0 _ _ _ (.inr rfl) rfl (stle (tR rfl (tR rfl tZ)) (hR rfl (hR rfl hZ)) kZ rfl (Nat.le_trans hv0 (lb rfl)) rfl rfl rfl (bF rfl (bB rfl rfl bZ)) rfl rfl)
end Go.Proofs.Ytkimijmiphkddaa
