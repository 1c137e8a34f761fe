/- Mirrors of layer 1: Plus. -/
import Derived.Test.YtcapifnaceegmaaGreatDoorMa
namespace Go.Proofs.YtcapifnaceegmaaGreatDoor
open Go.RowKit Go.Shelf
set_option linter.unusedSimpArgs false
set_option linter.unusedVariables false

theorem en_22 : Enters Tryz.prog 22 := enters_of Tryz.func22 (by kernel_rfl) rfl
def m22_l0 (a0 : Lvl) (a1 : Int) (s1 : Int × (List LV)) : Option (LO (Int × (List LV)) (((List LV)))) :=
  cond (decide (s1.1 < (a0.vs.length : Int)))
    (Option.bind (idx a0.vs s1.1) fun (x9 : LV) =>
  guardO (Nat.ble (s1.2.length + ([(x9.1, (w64 (x9.2 + a1)))]).length) 1000000000)
  (some (.next ((w64 (s1.1 + 1)), (s1.2 ++ ([(x9.1, (w64 (x9.2 + a1)))]))))))
    (some (.done s1.2))

/-- euclid/level.Plus -/
def m22 (a0 : Lvl) (a1 : Int) : Option (Lvl × Int) :=
  guardO (Nat.ble a0.vs.length 100000)
  (cond (!(validB a0))
    (some ((⟨0, ([] : List LV)⟩ : Lvl), 3))
    (cond (decide (a1 < 0))
    (some ((⟨0, ([] : List LV)⟩ : Lvl), 2))
    (cond (decide (100 < a1))
    (some ((⟨0, ([] : List LV)⟩ : Lvl), 15))
    (Option.bind (cond (decide (0 < (a0.vs.length : Int)))
    (some (a0.c == 0))
    (some false)) (fun (v5 : Bool) => cond v5
    (Option.bind (loopN (m22_l0 a0 a1) FUEL (0, ([] : List LV))) (fun (o7 : (List LV)) => guardO (Nat.ble (⟨0, o7⟩ : Lvl).vs.length 100000)
  (some (((limL (⟨0, o7⟩ : Lvl)).1), (limL (⟨0, o7⟩ : Lvl)).2))))
    (Option.bind (loopN (m22_l0 a0 a1) FUEL (0, ([] : List LV))) (fun (o13 : (List LV)) => guardO (Nat.ble (⟨(w64 (a0.c + a1)), o13⟩ : Lvl).vs.length 100000)
  (some (((limL (⟨(w64 (a0.c + a1)), o13⟩ : Lvl)).1), (limL (⟨(w64 (a0.c + a1)), o13⟩ : Lvl)).2)))))))))

set_option maxRecDepth 100000 in
set_option maxHeartbeats 8000000 in
theorem m22_ok (a0 : Lvl) (a1 : Int) (r : Lvl × Int) (h0 : m22 a0 a1 = some r) : Fun Tryz.prog 22 [.agg (cE a0), .one (dI a1)] (resOf [.agg (cE r.1), .one (dI r.2)]) := by
  unfold m22 at h0
  refine Fun.of_bodyM 9 61 Tryz.func22 rfl en_22 rfl (lb rfl) (fun S w => ?_)
  simp only [entry]
  refine XC.seq <| XC.region <| XL.put rfl rfl (lb rfl) (OpOK.box rfl) <| XL.put rfl rfl (lb rfl) (OpOK.alloc z_24 rfl) <| rA rfl rfl rfl <| XL.nil <| XQ.seq <| XC.seq <| XC.block <| XC.seq <| XC.region <| rR rfl rfl rfl (RO.loadOwnAgg ag_24 rfl rfl rfl rfl) ?_
  refine guardK h0 (fun g1 h0 => ?_)
  refine XL.put rfl rfl (lb rfl) (OpOK.callFun (valid_fun a0 (Nat.le_of_ble_eq_true g1)) rfl (.cons (.agg (.cons (.d _) (.cons (.d _) .nil))) .nil)) ?_
  refine rR rfl rfl rfl (RO.not rfl) <| rA rfl rfl rfl <| XL.nil <| XQ.seq ?_
  refine XC.cond (b := (!(validB a0))) rfl (fun c2 => ?_) (fun c2 => ?_)
  ·
   replace h0 := condT c2 h0
   refine XC.seq <| XC.region <| rR rfl rfl rfl (RO.build0 bd_24 rfl ) <| XL.eff rfl rfl (OpOK.store ag_24 rfl rfl rfl rfl (lb rfl) rfl) <| rA rfl rfl rfl <| XL.nil <| XQ.seq <| XC.ret ?_
   have e_ := Option.some.inj h0
   subst e_
   exact XQ.retF (fun _ _ h => h) rfl (RAs.agg ag_24 rfl rfl rfl rfl (RAs.tmp rfl .nil)) (.cons (.agg (.cons (.d _) (.cons (.nil _) .nil))) (.cons (.one (.d _)) .nil))
  ·
   replace h0 := condF c2 h0
   refine XC.seq <| XC.region <| rM rfl rfl rfl <| rR rfl rfl rfl (RO.binInt rfl rfl rfl) <| rA rfl rfl rfl <| XL.nil <| XQ.seq ?_
   refine XC.cond (b := (decide (a1 < 0))) rfl (fun c3 => ?_) (fun c3 => ?_)
   ·
    replace h0 := condT c3 h0
    refine XC.seq <| XC.region <| rR rfl rfl rfl (RO.build0 bd_24 rfl ) <| XL.eff rfl rfl (OpOK.store ag_24 rfl rfl rfl rfl (lb rfl) rfl) <| rA rfl rfl rfl <| XL.nil <| XQ.seq <| XC.ret ?_
    have e_ := Option.some.inj h0
    subst e_
    exact XQ.retF (fun _ _ h => h) rfl (RAs.agg ag_24 rfl rfl rfl rfl (RAs.tmp rfl .nil)) (.cons (.agg (.cons (.d _) (.cons (.nil _) .nil))) (.cons (.one (.d _)) .nil))
   ·
    replace h0 := condF c3 h0
    refine XC.seq <| XC.region <| rM rfl rfl rfl <| rR rfl rfl rfl (RO.binInt rfl rfl rfl) <| rA rfl rfl rfl <| XL.nil <| XQ.seq ?_
    refine XC.cond (b := (decide (100 < a1))) rfl (fun c4 => ?_) (fun c4 => ?_)
    ·
     replace h0 := condT c4 h0
     refine XC.seq <| XC.region <| rR rfl rfl rfl (RO.build0 bd_24 rfl ) <| XL.eff rfl rfl (OpOK.store ag_24 rfl rfl rfl rfl (lb rfl) rfl) <| rA rfl rfl rfl <| XL.nil <| XQ.seq <| XC.ret ?_
     have e_ := Option.some.inj h0
     subst e_
     exact XQ.retF (fun _ _ h => h) rfl (RAs.agg ag_24 rfl rfl rfl rfl (RAs.tmp rfl .nil)) (.cons (.agg (.cons (.d _) (.cons (.nil _) .nil))) (.cons (.one (.d _)) .nil))
    ·
     replace h0 := condF c4 h0
     refine XC.skip <| XQ.inBlock <| XQ.seq <| XC.seq <| XC.region <| rR rfl rfl rfl (RO.fieldOwn fo_24_0 rfl) <| rR rfl rfl rfl (RO.loadOwn ag_3 rfl rfl rfl) <| rM rfl rfl rfl <| rR rfl rfl rfl (RO.binInt rfl rfl rfl) <| rR rfl rfl rfl (RO.build1 bd_24 rfl rfl rfl) <| XL.put rfl rfl (lb rfl) (OpOK.alloc z_24 rfl) <| XL.eff rfl rfl (OpOK.store ag_24 rfl rfl rfl rfl (lb rfl) rfl) <| XL.nil <| XQ.seq ?_
     refine XC.seq <| XC.seq ?_
     refine XC.joinR (fun (v5 : Bool) => ⟨[(1, .v (.one (dI a1))), (2, .v (.one (.ptr 0 0))), (4, .v (.one (.ptr 1 0))), (6, .v (.one (.ptr 2 0))), (35, .v (.one (dB v5)))], [(0, .cells 24 (cE a0)), (1, .cells 24 [dI 0, dN]), (2, .cells 24 [dI (w64 (a0.c + a1)), dN])], [], 3, 61, []⟩) (fun (v5 : Bool) => (cond v5
         (Option.bind (loopN (m22_l0 a0 a1) FUEL (0, ([] : List LV))) (fun (o7 : (List LV)) => guardO (Nat.ble (⟨0, o7⟩ : Lvl).vs.length 100000)
       (some (((limL (⟨0, o7⟩ : Lvl)).1), (limL (⟨0, o7⟩ : Lvl)).2))))
         (Option.bind (loopN (m22_l0 a0 a1) FUEL (0, ([] : List LV))) (fun (o13 : (List LV)) => guardO (Nat.ble (⟨(w64 (a0.c + a1)), o13⟩ : Lvl).vs.length 100000)
       (some (((limL (⟨(w64 (a0.c + a1)), o13⟩ : Lvl)).1), (limL (⟨(w64 (a0.c + a1)), o13⟩ : Lvl)).2))))) = some r) ?_ ?_
     ·
      refine bindK h0 (fun v_ h1 h0 => ?_)
      refine XC.region <| rR rfl rfl rfl (RO.fieldOwn fo_24_1 rfl) <| rR rfl rfl rfl (RO.loadOwn ag_22 rfl rfl rfl) <| rR rfl rfl rfl (RO.lenE (α := LV) sl_22 rfl (.d _)) <| rR rfl rfl rfl (RO.binInt rfl rfl rfl) <| rM rfl rfl rfl ?_
      refine XL.case (d := 31) (c := (decide (0 < (a0.vs.length : Int)))) rfl (fun c6 => ?_) (fun c6 => ?_)
      ·
       replace h1 := condT c6 h1
       refine rR rfl rfl rfl (RO.fieldOwn fo_24_0 rfl) <| rR rfl rfl rfl (RO.loadOwn ag_3 rfl rfl rfl) <| rR rfl rfl rfl (RO.binInt rfl rfl rfl) <| rR rfl rfl rfl (RO.pickT rfl rfl) <| XL.nil ?_
       have e_ := Option.some.inj h1
       subst e_
       exact XQ.joinR (a0.c == 0) (stle (tR rfl (tR rfl (tR rfl (tR rfl (tR rfl tZ))))) (hR rfl (hR rfl (hR rfl hZ))) kZ rfl (Nat.zero_le _) rfl rfl rfl (bB rfl rfl (bB rfl rfl (bB rfl rfl bZ))) rfl rfl) h0
      ·
       replace h1 := condF c6 h1
       refine XL.no rfl rfl <| XL.no rfl rfl <| XL.no rfl rfl <| rR rfl rfl rfl (RO.pickF rfl rfl) <| XL.nil ?_
       have e_ := Option.some.inj h1
       subst e_
       exact XQ.joinR false (stle (tR rfl (tR rfl (tR rfl (tR rfl (tR rfl tZ))))) (hR rfl (hR rfl (hR rfl hZ))) kZ rfl (Nat.zero_le _) rfl rfl rfl (bB rfl rfl (bB rfl rfl (bB rfl rfl bZ))) rfl rfl) h0
     ·
      intro v5 h0
      refine XQ.seq ?_
      refine XC.cond (b := v5) rfl (fun c7 => ?_) (fun c7 => ?_)
      ·
       replace h0 := condT c7 h0
       refine XC.region <| rR rfl rfl rfl (RO.fieldOwn fo_24_0 rfl) <| XL.eff rfl rfl (OpOK.store ag_3 rfl rfl rfl rfl (lb rfl) rfl) <| XL.nil <| XQ.seq <| XC.seq <| XC.seq <| XC.region <| rR rfl rfl rfl (RO.fieldOwn fo_24_1 rfl) <| rR rfl rfl rfl (RO.loadOwn ag_22 rfl rfl rfl) <| rR rfl rfl rfl (RO.lenE (α := LV) sl_22 rfl (.d _)) <| rM rfl rfl rfl <| XL.nil <| XQ.seq ?_
       refine XC.block ?_
       refine XC.joinX 1 (fun (o8 : (List LV)) => ⟨[(4, .v (.one (.ptr 1 0))), (6, .v (.one (.ptr 2 0)))], [(0, .cells 24 (cE a0)), (1, .cells 24 [dI 0, dN]), (2, .cells 24 [dI 0, dA 3 o8])], [(3, some ⟨69, 2, (Enc.encL o8).length⟩)], 4, 61, []⟩) (fun (o8 : (List LV)) => (guardO (Nat.ble (⟨0, o8⟩ : Lvl).vs.length 100000)
         (some (((limL (⟨0, o8⟩ : Lvl)).1), (limL (⟨0, o8⟩ : Lvl)).2))) = some r) ?_ ?_
       ·
        refine XC.adoptC (i := 2) (off := 1) 69 2 rfl rfl ?_
        refine bindK h0 (fun o9 hl1 h0 => ?_)
        refine XC.loopM (m22_l0 a0 a1) (fun s1 => ⟨[(1, .v (.one (dI a1))), (4, .v (.one (.ptr 1 0))), (6, .v (.one (.ptr 2 0))), (38, .v (.one (dS a0.vs))), (39, .v (.one (dI (a0.vs.length : Int)))), (40, .v (.one (dI s1.1)))], [(0, .cells 24 (cE a0)), (1, .cells 24 [dI 0, dN]), (2, .cells 24 [dI 0, dA 3 s1.2])], [(3, some ⟨69, 2, (Enc.encL s1.2).length⟩)], 4, 61, []⟩) (0, ([] : List LV)) o9 (stle (tR rfl (tR rfl (tR rfl (tR rfl (tR rfl (tR rfl tZ)))))) (hR rfl (hR rfl (hR rfl hZ))) (kR rfl kZ) rfl (Nat.zero_le _) rfl rfl rfl (bB rfl rfl (bB rfl rfl (bB rfl rfl bZ))) rfl rfl) hl1 (fun s1 n1 oo1 h1 ho1 => ?_)
        unfold m22_l0 at h1
        refine XC.seq <| XC.region <| rR rfl rfl rfl (RO.binInt rfl rfl rfl) <| XL.nil <| XQ.seq <| XC.seq ?_
        refine XC.cond (b := (decide (s1.1 < (a0.vs.length : Int)))) rfl (fun c10 => ?_) (fun c10 => ?_)
        ·
         replace h1 := condT c10 h1
         refine XC.skip <| XQ.seq <| XC.seq <| XC.block <| XC.seq <| XC.region ?_
         refine bindK h1 (fun x11 hx11 h1 => ?_)
         refine rR rfl rfl rfl (RO.indexE (α := LV) sl_22 rfl (.d _) rfl hx11) <| rR rfl rfl rfl (RO.loadPelAgg ag_69 rfl rfl rfl) <| XL.put rfl rfl (lb rfl) (OpOK.alloc z_69 rfl) <| XL.eff rfl rfl (OpOK.store ag_69 rfl rfl rfl rfl (lb rfl) rfl) <| XL.nil <| XQ.seq <| XC.region <| rR rfl rfl rfl (RO.fieldOwn fo_24_1 rfl) <| rR rfl rfl rfl (RO.loadOwn ag_22 rfl rfl rfl) <| rR rfl rfl rfl (RO.fieldOwn fo_69_0 rfl) <| rR rfl rfl rfl (RO.loadOwn ag_3 rfl rfl rfl) <| rR rfl rfl rfl (RO.fieldOwn fo_69_1 rfl) <| rR rfl rfl rfl (RO.loadOwn ag_3 rfl rfl rfl) <| rM rfl rfl rfl ?_
         refine rR rfl rfl rfl (RO.binInt rfl rfl rfl) <| rR rfl rfl rfl (RO.build2 bd_69 rfl rfl rfl rfl) <| XL.put rfl rfl (lb rfl) (OpOK.lit1E (α := LV) ((x11.1, (w64 (x11.2 + a1)))) sl_22 z_69 rfl rfl (lb rfl) (lb rfl) rfl rfl (.cons (.d _) (.cons (.d _) .nil)) rfl) ?_
         refine guardK h1 (fun g12 h1 => ?_)
         refine XL.put rfl rfl (lb rfl) (OpOK.appendE (α := LV) sl_22 el_69 rfl rfl rfl rfl rfl (.app _ _) g12) <| rR rfl rfl rfl (RO.fieldOwn fo_24_1 rfl) <| XL.eff rfl rfl (OpOK.store ag_22 rfl rfl rfl rfl (lb rfl) rfl) <| XL.nil <| XQ.inBlock <| XQ.seq <| XC.region <| rR rfl rfl rfl (RO.binInt rfl rfl rfl) <| rM rfl rfl rfl <| XL.nil ?_
         have e_ := Option.some.inj h1
         subst e_
         refine XQ.nextM ((w64 (s1.1 + 1)), (s1.2 ++ ([(x11.1, (w64 (x11.2 + a1)))]))) (stle (tR rfl (tR rfl (tR rfl (tR rfl (tR rfl (tR rfl tZ)))))) (hR rfl (hR rfl (hR rfl hZ))) (kR rfl kZ) rfl (Nat.zero_le _) rfl rfl rfl (bB rfl rfl (bB rfl rfl (bB rfl rfl bZ))) rfl rfl) ho1
        ·
         replace h1 := condF c10 h1
         refine XC.exit <| XQ.thenE <| XQ.thenE ?_
         have e_ := Option.some.inj h1
         subst e_
         have e_ : _ = _ := ho1
         subst e_
         exact XQ.joinX s1.2 (stle (tR rfl (tR rfl tZ)) (hR rfl (hR rfl (hR rfl hZ))) (kR rfl kZ) rfl (Nat.zero_le _) rfl rfl rfl (bB rfl rfl (bB rfl rfl (bB rfl rfl bZ))) rfl rfl) h0
       ·
        intro o8 h0
        refine XQ.blockX <| XQ.seq <| XC.seq <| XC.region <| rR rfl rfl rfl (RO.loadOwnAgg ag_24 rfl rfl rfl rfl) ?_
        refine guardK h0 (fun g13 h0 => ?_)
        refine XL.put rfl rfl (lb rfl) (OpOK.callFun (limited_fun (⟨0, o8⟩ : Lvl) (Nat.le_of_ble_eq_true g13)) rfl (.cons (.agg (.cons (.d _) (.cons (.app _ _ _) .nil))) .nil)) ?_
        refine rR rfl rfl rfl (RO.extract rfl rfl) <| rR rfl rfl rfl (RO.extract rfl rfl) <| XL.eff rfl rfl (OpOK.store ag_24 rfl rfl rfl rfl (lb rfl) rfl) <| rA rfl rfl rfl <| XL.nil <| XQ.seq <| XC.ret ?_
        have e_ := Option.some.inj h0
        subst e_
        exact XQ.retF (fun _ _ h => h) rfl (RAs.agg ag_24 rfl rfl rfl rfl (RAs.tmp rfl .nil)) (.cons (.agg (.cons (.d _) (.cons (.d _) .nil))) (.cons (.one (.d _)) .nil))
      ·
       replace h0 := condF c7 h0
       refine XC.skip <| XQ.seq <| XC.seq <| XC.seq <| XC.region <| rR rfl rfl rfl (RO.fieldOwn fo_24_1 rfl) <| rR rfl rfl rfl (RO.loadOwn ag_22 rfl rfl rfl) <| rR rfl rfl rfl (RO.lenE (α := LV) sl_22 rfl (.d _)) <| rM rfl rfl rfl <| XL.nil <| XQ.seq <| XC.block ?_
       refine XC.joinX 1 (fun (o14 : (List LV)) => ⟨[(4, .v (.one (.ptr 1 0))), (6, .v (.one (.ptr 2 0)))], [(0, .cells 24 (cE a0)), (1, .cells 24 [dI 0, dN]), (2, .cells 24 [dI (w64 (a0.c + a1)), dA 3 o14])], [(3, some ⟨69, 2, (Enc.encL o14).length⟩)], 4, 61, []⟩) (fun (o14 : (List LV)) => (guardO (Nat.ble (⟨(w64 (a0.c + a1)), o14⟩ : Lvl).vs.length 100000)
         (some (((limL (⟨(w64 (a0.c + a1)), o14⟩ : Lvl)).1), (limL (⟨(w64 (a0.c + a1)), o14⟩ : Lvl)).2))) = some r) ?_ ?_
       ·
        refine XC.adoptC (i := 2) (off := 1) 69 2 rfl rfl ?_
        refine bindK h0 (fun o15 hl1 h0 => ?_)
        refine XC.loopM (m22_l0 a0 a1) (fun s1 => ⟨[(1, .v (.one (dI a1))), (4, .v (.one (.ptr 1 0))), (6, .v (.one (.ptr 2 0))), (38, .v (.one (dS a0.vs))), (39, .v (.one (dI (a0.vs.length : Int)))), (40, .v (.one (dI s1.1)))], [(0, .cells 24 (cE a0)), (1, .cells 24 [dI 0, dN]), (2, .cells 24 [dI (w64 (a0.c + a1)), dA 3 s1.2])], [(3, some ⟨69, 2, (Enc.encL s1.2).length⟩)], 4, 61, []⟩) (0, ([] : List LV)) o15 (stle (tR rfl (tR rfl (tR rfl (tR rfl (tR rfl (tR rfl tZ)))))) (hR rfl (hR rfl (hR rfl hZ))) (kR rfl kZ) rfl (Nat.zero_le _) rfl rfl rfl (bB rfl rfl (bB rfl rfl (bB rfl rfl bZ))) rfl rfl) hl1 (fun s1 n1 oo1 h1 ho1 => ?_)
        unfold m22_l0 at h1
        refine XC.seq <| XC.region <| rR rfl rfl rfl (RO.binInt rfl rfl rfl) <| XL.nil <| XQ.seq <| XC.seq ?_
        refine XC.cond (b := (decide (s1.1 < (a0.vs.length : Int)))) rfl (fun c16 => ?_) (fun c16 => ?_)
        ·
         replace h1 := condT c16 h1
         refine XC.skip <| XQ.seq <| XC.seq <| XC.block <| XC.seq <| XC.region ?_
         refine bindK h1 (fun x17 hx17 h1 => ?_)
         refine rR rfl rfl rfl (RO.indexE (α := LV) sl_22 rfl (.d _) rfl hx17) <| rR rfl rfl rfl (RO.loadPelAgg ag_69 rfl rfl rfl) <| XL.put rfl rfl (lb rfl) (OpOK.alloc z_69 rfl) <| XL.eff rfl rfl (OpOK.store ag_69 rfl rfl rfl rfl (lb rfl) rfl) <| XL.nil <| XQ.seq <| XC.region <| rR rfl rfl rfl (RO.fieldOwn fo_24_1 rfl) <| rR rfl rfl rfl (RO.loadOwn ag_22 rfl rfl rfl) <| rR rfl rfl rfl (RO.fieldOwn fo_69_0 rfl) <| rR rfl rfl rfl (RO.loadOwn ag_3 rfl rfl rfl) <| rR rfl rfl rfl (RO.fieldOwn fo_69_1 rfl) <| rR rfl rfl rfl (RO.loadOwn ag_3 rfl rfl rfl) <| rM rfl rfl rfl ?_
         refine rR rfl rfl rfl (RO.binInt rfl rfl rfl) <| rR rfl rfl rfl (RO.build2 bd_69 rfl rfl rfl rfl) <| XL.put rfl rfl (lb rfl) (OpOK.lit1E (α := LV) ((x17.1, (w64 (x17.2 + a1)))) sl_22 z_69 rfl rfl (lb rfl) (lb rfl) rfl rfl (.cons (.d _) (.cons (.d _) .nil)) rfl) ?_
         refine guardK h1 (fun g18 h1 => ?_)
         refine XL.put rfl rfl (lb rfl) (OpOK.appendE (α := LV) sl_22 el_69 rfl rfl rfl rfl rfl (.app _ _) g18) <| rR rfl rfl rfl (RO.fieldOwn fo_24_1 rfl) <| XL.eff rfl rfl (OpOK.store ag_22 rfl rfl rfl rfl (lb rfl) rfl) <| XL.nil <| XQ.inBlock <| XQ.seq <| XC.region <| rR rfl rfl rfl (RO.binInt rfl rfl rfl) <| rM rfl rfl rfl <| XL.nil ?_
         have e_ := Option.some.inj h1
         subst e_
         refine XQ.nextM ((w64 (s1.1 + 1)), (s1.2 ++ ([(x17.1, (w64 (x17.2 + a1)))]))) (stle (tR rfl (tR rfl (tR rfl (tR rfl (tR rfl (tR rfl tZ)))))) (hR rfl (hR rfl (hR rfl hZ))) (kR rfl kZ) rfl (Nat.zero_le _) rfl rfl rfl (bB rfl rfl (bB rfl rfl (bB rfl rfl bZ))) rfl rfl) ho1
        ·
         replace h1 := condF c16 h1
         refine XC.exit <| XQ.thenE <| XQ.thenE ?_
         have e_ := Option.some.inj h1
         subst e_
         have e_ : _ = _ := ho1
         subst e_
         exact XQ.joinX s1.2 (stle (tR rfl (tR rfl tZ)) (hR rfl (hR rfl (hR rfl hZ))) (kR rfl kZ) rfl (Nat.zero_le _) rfl rfl rfl (bB rfl rfl (bB rfl rfl (bB rfl rfl bZ))) rfl rfl) h0
       ·
        intro o14 h0
        refine XQ.blockX <| XQ.seq <| XC.seq <| XC.region <| rR rfl rfl rfl (RO.loadOwnAgg ag_24 rfl rfl rfl rfl) ?_
        refine guardK h0 (fun g19 h0 => ?_)
        refine XL.put rfl rfl (lb rfl) (OpOK.callFun (limited_fun (⟨(w64 (a0.c + a1)), o14⟩ : Lvl) (Nat.le_of_ble_eq_true g19)) rfl (.cons (.agg (.cons (.d _) (.cons (.app _ _ _) .nil))) .nil)) ?_
        refine rR rfl rfl rfl (RO.extract rfl rfl) <| rR rfl rfl rfl (RO.extract rfl rfl) <| XL.eff rfl rfl (OpOK.store ag_24 rfl rfl rfl rfl (lb rfl) rfl) <| rA rfl rfl rfl <| XL.nil <| XQ.seq <| XC.ret ?_
        have e_ := Option.some.inj h0
        subst e_
        exact XQ.retF (fun _ _ h => h) rfl (RAs.agg ag_24 rfl rfl rfl rfl (RAs.tmp rfl .nil)) (.cons (.agg (.cons (.d _) (.cons (.d _) .nil))) (.cons (.one (.d _)) .nil))
end Go.Proofs.YtcapifnaceegmaaGreatDoor
