/- Mirrors of layer 1: Max. -/
import Derived.Test.YtcapifnaceegmaaGreatDoorMa
namespace Go.Proofs.YtcapifnaceegmaaGreatDoor
open Go.RowKit Go.Shelf
set_option linter.unusedSimpArgs false
set_option linter.unusedVariables false

theorem en_24 : Enters Tryz.prog 24 := enters_of Tryz.func24 (by kernel_rfl) rfl
theorem en_50 : Enters Tryz.prog 50 := enters_of Tryz.func50 (by kernel_rfl) rfl
theorem en_78 : Enters Tryz.prog 78 := enters_of Tryz.func78 (by kernel_rfl) rfl
noncomputable def m24_c0 : Code := (cA (cA (cB (cA (cB (cB (cB (bodyC Tryz.f24))))))))

noncomputable def m24_c1 : Code := (cB (cA (cB (cA (cB (cB (cB (bodyC Tryz.f24))))))))

def m24_l0  (s2 : (List LV) × (List LV) × (List LV)) : Option (LO ((List LV) × (List LV) × (List LV)) (((List LV) × (List LV) × (List LV)))) :=
  Option.bind (cond (decide (0 < (s2.2.1.length : Int)))
    (some true)
    (some (decide (0 < (s2.2.2.length : Int))))) (fun (v8 : Bool) => cond v8
    (Option.bind (cond ((s2.2.2.length : Int) == 0)
    (some true)
    (cond (decide (0 < (s2.2.1.length : Int)))
    (Option.bind (idx s2.2.1 0) fun (x13 : LV) =>
  Option.bind (idx s2.2.2 0) fun (x14 : LV) =>
  some (decide (x13.1 < x14.1)))
    (some false))) (fun (v10 : Bool) => cond v10
    (Option.bind (idx s2.2.1 0) fun (x12 : LV) =>
  guardO (cond (decide (0 ≤ (1 : Int))) (Nat.ble (1 : Int).toNat s2.2.1.length) false)
  (Option.bind (guardO (Nat.ble (s2.1.length + ([x12]).length) 1000000000)
  (some ())) (fun (y14 : Unit) => some (.next ((s2.1 ++ ([x12])), (s2.2.1.drop (1 : Int).toNat), s2.2.2)))))
    (Option.bind (cond ((s2.2.1.length : Int) == 0)
    (some true)
    (Option.bind (idx s2.2.2 0) fun (x20 : LV) =>
  Option.bind (idx s2.2.1 0) fun (x21 : LV) =>
  some (decide (x20.1 < x21.1)))) (fun (v18 : Bool) => cond v18
    (Option.bind (idx s2.2.2 0) fun (x20 : LV) =>
  guardO (cond (decide (0 ≤ (1 : Int))) (Nat.ble (1 : Int).toNat s2.2.2.length) false)
  (Option.bind (guardO (Nat.ble (s2.1.length + ([x20]).length) 1000000000)
  (some ())) (fun (y22 : Unit) => some (.next ((s2.1 ++ ([x20])), s2.2.1, (s2.2.2.drop (1 : Int).toNat))))))
    (Option.bind (idx s2.2.1 0) fun (x26 : LV) =>
  Option.bind (idx s2.2.1 0) fun (x27 : LV) =>
  Option.bind (idx s2.2.2 0) fun (x28 : LV) =>
  guardO (cond (decide (0 ≤ (1 : Int))) (Nat.ble (1 : Int).toNat s2.2.1.length) false)
  (guardO (cond (decide (0 ≤ (1 : Int))) (Nat.ble (1 : Int).toNat s2.2.2.length) false)
  (Option.bind (guardO (Nat.ble (s2.1.length + ([(x26.1, (max x27.2 x28.2))]).length) 1000000000)
  (some ())) (fun (y31 : Unit) => some (.next ((s2.1 ++ ([(x26.1, (max x27.2 x28.2))])), (s2.2.1.drop (1 : Int).toNat), (s2.2.2.drop (1 : Int).toNat)))))))))))
    (some (.done (s2.1, s2.2.1, s2.2.2))))

/-- euclid/level.Max -/
def m24 (a0 : Lvl) (a1 : Lvl) : Option (Lvl × Int) :=
  Option.bind (guardO (Nat.ble a0.vs.length 100000)
  (cond (!(validB a0))
    (some true)
    (guardO (Nat.ble a1.vs.length 100000)
  (some (!(validB a1)))))) (fun (v1 : Bool) => cond v1
    (some ((⟨0, ([] : List LV)⟩ : Lvl), 3))
    (Option.bind (some ()) (fun (y3 : Unit) => Option.bind (Option.bind (loopN (m24_l0) FUEL (([] : List LV), a0.vs, a1.vs)) (fun (o7 : (List LV) × (List LV) × (List LV)) => some (o7.1, o7.2.1, o7.2.2))) (fun (y5 : (List LV) × (List LV) × (List LV)) => guardO (Nat.ble (⟨(max a0.c a1.c), y5.1⟩ : Lvl).vs.length 100000)
  (some (((limL (⟨(max a0.c a1.c), y5.1⟩ : Lvl)).1), (limL (⟨(max a0.c a1.c), y5.1⟩ : Lvl)).2))))))

set_option maxRecDepth 100000 in
set_option maxHeartbeats 8000000 in
theorem m24_ok (a0 : Lvl) (a1 : Lvl) (r : Lvl × Int) (h0 : m24 a0 a1 = some r) : Fun Tryz.prog 24 [.agg (cE a0), .agg (cE a1)] (resOf [.agg (cE r.1), .one (dI r.2)]) := by
  unfold m24 at h0
  refine Fun.of_bodyM 9 39 Tryz.func24 rfl en_24 rfl (lb rfl) (fun S w => ?_)
  simp only [entry]
  refine XC.seq <| XC.region <| XL.put rfl rfl (lb rfl) (OpOK.box rfl) <| XL.put rfl rfl (lb rfl) (OpOK.box rfl) <| XL.put rfl rfl (lb rfl) (OpOK.alloc z_24 rfl) <| rA rfl rfl rfl <| XL.nil <| XQ.seq <| XC.seq <| XC.seq ?_
  refine XC.joinR (fun (v1 : Bool) => ⟨[(2, .v (.one (.ptr 0 0))), (3, .v (.one (.ptr 1 0))), (4, .v (.one (.ptr 2 0))), (15, .v (.one (dB v1)))], [(0, .cells 24 (cE a0)), (1, .cells 24 (cE a1)), (2, .cells 24 [dI 0, dN])], [], 3, 39, []⟩) (fun (v1 : Bool) => (cond v1
      (some ((⟨0, ([] : List LV)⟩ : Lvl), 3))
      (Option.bind (some ()) (fun (y3 : Unit) => Option.bind (Option.bind (loopN (m24_l0) FUEL (([] : List LV), a0.vs, a1.vs)) (fun (o7 : (List LV) × (List LV) × (List LV)) => some (o7.1, o7.2.1, o7.2.2))) (fun (y5 : (List LV) × (List LV) × (List LV)) => guardO (Nat.ble (⟨(max a0.c a1.c), y5.1⟩ : Lvl).vs.length 100000)
    (some (((limL (⟨(max a0.c a1.c), y5.1⟩ : Lvl)).1), (limL (⟨(max a0.c a1.c), y5.1⟩ : Lvl)).2)))))) = some r) ?_ ?_
  ·
   refine bindK h0 (fun v_ h1 h0 => ?_)
   refine XC.region <| rR rfl rfl rfl (RO.loadOwnAgg ag_24 rfl rfl rfl rfl) ?_
   refine guardK h1 (fun g2 h1 => ?_)
   refine XL.put rfl rfl (lb rfl) (OpOK.callFun (valid_fun a0 (Nat.le_of_ble_eq_true g2)) rfl (.cons (.agg (.cons (.d _) (.cons (.d _) .nil))) .nil)) ?_
   refine rR rfl rfl rfl (RO.not rfl) <| rM rfl rfl rfl ?_
   refine XL.case (d := 11) (c := (!(validB a0))) rfl (fun c3 => ?_) (fun c3 => ?_)
   ·
    replace h1 := condT c3 h1
    refine XL.no rfl rfl <| XL.no rfl rfl <| XL.no rfl rfl <| rR rfl rfl rfl (RO.pickT rfl rfl) <| XL.nil ?_
    have e_ := Option.some.inj h1
    subst e_
    exact XQ.joinR true (stle (tR rfl (tR rfl (tR rfl (tR rfl tZ)))) (hR rfl (hR rfl (hR rfl hZ))) kZ rfl (Nat.zero_le _) rfl rfl rfl (bB rfl rfl (bB rfl rfl (bB rfl rfl bZ))) rfl rfl) h0
   ·
    replace h1 := condF c3 h1
    refine rR rfl rfl rfl (RO.loadOwnAgg ag_24 rfl rfl rfl rfl) ?_
    refine guardK h1 (fun g4 h1 => ?_)
    refine XL.put rfl rfl (lb rfl) (OpOK.callFun (valid_fun a1 (Nat.le_of_ble_eq_true g4)) rfl (.cons (.agg (.cons (.d _) (.cons (.d _) .nil))) .nil)) ?_
    refine rR rfl rfl rfl (RO.not rfl) <| rR rfl rfl rfl (RO.pickF rfl rfl) <| XL.nil ?_
    have e_ := Option.some.inj h1
    subst e_
    exact XQ.joinR (!(validB a1)) (stle (tR rfl (tR rfl (tR rfl (tR rfl tZ)))) (hR rfl (hR rfl (hR rfl hZ))) kZ rfl (Nat.zero_le _) rfl rfl rfl (bB rfl rfl (bB rfl rfl (bB rfl rfl bZ))) rfl rfl) h0
  ·
   intro v1 h0
   refine XQ.seq ?_
   refine XC.cond (b := v1) rfl (fun c5 => ?_) (fun c5 => ?_)
   ·
    replace h0 := condT c5 h0
    refine XC.seq <| XC.region <| rR rfl rfl rfl (RO.build0 bd_24 rfl ) <| XL.eff rfl rfl (OpOK.store ag_24 rfl rfl rfl rfl (lb rfl) rfl) <| rA rfl rfl rfl <| XL.nil <| XQ.seq <| XC.ret ?_
    have e_ := Option.some.inj h0
    subst e_
    exact XQ.retF (fun _ _ h => h) rfl (RAs.agg ag_24 rfl rfl rfl rfl (RAs.tmp rfl .nil)) (.cons (.agg (.cons (.d _) (.cons (.nil _) .nil))) (.cons (.one (.d _)) .nil))
   ·
    replace h0 := condF c5 h0
    refine XC.skip <| XQ.seq <| XC.seq <| XC.region <| rR rfl rfl rfl (RO.fieldOwn fo_24_0 rfl) <| rR rfl rfl rfl (RO.loadOwn ag_3 rfl rfl rfl) <| rR rfl rfl rfl (RO.fieldOwn fo_24_0 rfl) <| rR rfl rfl rfl (RO.loadOwn ag_3 rfl rfl rfl) <| rR rfl rfl rfl (RO.max2 rfl rfl) <| rR rfl rfl rfl (RO.build1 bd_24 rfl rfl rfl) <| XL.put rfl rfl (lb rfl) (OpOK.alloc z_24 rfl) <| XL.eff rfl rfl (OpOK.store ag_24 rfl rfl rfl rfl (lb rfl) rfl) <| XL.nil <| XQ.seq ?_
    refine XC.seq <| XC.seq <| XC.region <| rR rfl rfl rfl (RO.fieldOwn fo_24_1 rfl) <| rR rfl rfl rfl (RO.loadOwn ag_22 rfl rfl rfl) <| rR rfl rfl rfl (RO.fieldOwn fo_24_1 rfl) <| rR rfl rfl rfl (RO.loadOwn ag_22 rfl rfl rfl) ?_
    refine bindK h0 (fun y6 h1 h0 => ?_)
    have hc7 : CallM Tryz.prog 50 [.one (dS a0.vs), .one (dS a1.vs)] ⟨[(0, .cells 24 (cE a0)), (1, .cells 24 (cE a1)), (2, .cells 24 [dI 0, dN]), (3, .cells 24 [dI (max a0.c a1.c), dN])], [], 4⟩ (resOf [.one (.fn 78 [(4, 0), (5, 0)])]) ⟨[(0, .cells 24 (cE a0)), (1, .cells 24 (cE a1)), (2, .cells 24 [dI 0, dN]), (3, .cells 24 [dI (max a0.c a1.c), dN]), (4, .cells 22 [dS a0.vs]), (5, .cells 22 [dS a1.vs])], [], 6⟩ := by
     refine CallM.of_bodyD ⟨[(4, .v (.one (.fn 78 [(4, 0), (5, 0)])))], [(0, .cells 24 (cE a0)), (1, .cells 24 (cE a1)), (2, .cells 24 [dI 0, dN]), (3, .cells 24 [dI (max a0.c a1.c), dN]), (4, .cells 22 [dS a0.vs]), (5, .cells 22 [dS a1.vs])], [], 6, 6, []⟩ rfl rfl en_50 (lb rfl) rfl (RAs.tmp rfl .nil) (fun w0 M V0 Q hv1 hQ1 => ?_)
     simp only [entry]
     refine XC.seq <| XC.region <| XL.put rfl rfl (lb rfl) (OpOK.box rfl) <| XL.put rfl rfl (lb rfl) (OpOK.box rfl) <| rA rfl rfl rfl <| XL.nil <| XQ.seq <| XC.seq <| XC.region <| rR rfl rfl rfl (RO.makeFunc2 rfl rfl) <| rA rfl rfl rfl <| XL.nil <| XQ.seq <| XC.ret ?_
     have e_ := Option.some.inj h1
     subst e_
     exact hQ1 _ _ _ (.inr rfl) rfl (stle (tR rfl tZ) (hR rfl (hR rfl (hR rfl (hR rfl (hR rfl (hR rfl hZ)))))) kZ rfl (Nat.le_trans hv1 (lb rfl)) rfl rfl rfl (bB rfl rfl (bB rfl rfl (bB rfl rfl (bB rfl rfl (bB rfl rfl (bB rfl rfl bZ)))))) rfl rfl)
    refine XL.put rfl rfl (lb rfl) (OpOK.callW rfl rfl rfl hc7 rfl (hR rfl (hR rfl (hR rfl (hR rfl hZ)))) kZ) <| XL.nil <| XQ.seq <| XC.block <| XC.less (st' := ⟨[(4, .v (.one (.ptr 2 0))), (6, .v (.one (.ptr 3 0))), (27, .v (.one (.fn 78 [(4, 0), (5, 0)])))], [(0, .cells 24 (cE a0)), (1, .cells 24 (cE a1)), (2, .cells 24 [dI 0, dN]), (3, .cells 24 [dI (max a0.c a1.c), dN]), (4, .cells 22 [dS a0.vs]), (5, .cells 22 [dS a1.vs])], [], 6, 39, []⟩) (stle (tR rfl (tR rfl (tR rfl tZ))) (hR rfl (hR rfl (hR rfl (hR rfl (hR rfl (hR rfl hZ)))))) kZ rfl (Nat.zero_le _) rfl rfl rfl (bB rfl rfl (bB rfl rfl (bB rfl rfl (bB rfl rfl (bB rfl rfl (bB rfl rfl bZ)))))) rfl rfl) ?_
    refine bindK h0 (fun y8 h1 h0 => ?_)
    have hc9 : CallM Tryz.prog 78 [.one (.yld 7), .one (.ptr 4 0), .one (.ptr 5 0)] ⟨[(7, .loop .ready none [(4, .v (.one (.ptr 2 0))), (6, .v (.one (.ptr 3 0))), (27, .v (.one (.fn 78 [(4, 0), (5, 0)])))] 39 #[28] m24_c0 m24_c1 6), (6, .obj (.deferred (some []))), (0, .cells 24 (cE a0)), (1, .cells 24 (cE a1)), (2, .cells 24 [dI 0, dN]), (3, .cells 24 [dI (max a0.c a1.c), dN]), (4, .cells 22 [dS a0.vs]), (5, .cells 22 [dS a1.vs])], [], 8⟩ (resOf []) ⟨[(0, .cells 24 (cE a0)), (1, .cells 24 (cE a1)), (2, .cells 24 [dI 0, dN]), (3, .cells 24 [dI (max a0.c a1.c), dA 8 y8.1]), (4, .cells 22 [dS y8.2.1]), (5, .cells 22 [dS y8.2.2]), (6, .obj (.deferred (some []))), (7, .loop .ready none [(4, .v (.one (.ptr 2 0))), (6, .v (.one (.ptr 3 0))), (27, .v (.one (.fn 78 [(4, 0), (5, 0)])))] 39 #[28] m24_c0 m24_c1 6)], [(8, some ⟨69, 2, (Enc.encL y8.1).length⟩)], 9⟩ := by
     refine CallM.of_bodyD ⟨[], [(0, .cells 24 (cE a0)), (1, .cells 24 (cE a1)), (2, .cells 24 [dI 0, dN]), (3, .cells 24 [dI (max a0.c a1.c), dA 8 y8.1]), (4, .cells 22 [dS y8.2.1]), (5, .cells 22 [dS y8.2.2]), (6, .obj (.deferred (some []))), (7, .loop .ready none [(4, .v (.one (.ptr 2 0))), (6, .v (.one (.ptr 3 0))), (27, .v (.one (.fn 78 [(4, 0), (5, 0)])))] 39 #[28] m24_c0 m24_c1 6)], [(8, some ⟨69, 2, (Enc.encL y8.1).length⟩)], 9, 80, []⟩ rfl rfl en_78 (lb rfl) rfl .nil (fun w0 M V0 Q hv1 hQ1 => ?_)
     simp only [entry]
     refine XC.block ?_
     refine XC.joinX 0 (fun (o10 : (List LV) × (List LV) × (List LV)) => ⟨[], [(0, .cells 24 (cE a0)), (1, .cells 24 (cE a1)), (2, .cells 24 [dI 0, dN]), (3, .cells 24 [dI (max a0.c a1.c), dA 8 o10.1]), (4, .cells 22 [dS o10.2.1]), (5, .cells 22 [dS o10.2.2]), (6, .obj (.deferred (some []))), (7, .loop .ready none [(4, .v (.one (.ptr 2 0))), (6, .v (.one (.ptr 3 0))), (27, .v (.one (.fn 78 [(4, 0), (5, 0)])))] 39 #[28] m24_c0 m24_c1 6)], [(8, some ⟨69, 2, (Enc.encL o10.1).length⟩)], 9, 80, []⟩) (fun (o10 : (List LV) × (List LV) × (List LV)) => (some (o10.1, o10.2.1, o10.2.2)) = some y8) ?_ ?_
     ·
      refine XC.adoptC (i := 3) (off := 1) 69 2 rfl rfl ?_
      refine bindK h1 (fun o11 hl2 h1 => ?_)
      refine XC.loopM (m24_l0) (fun s2 => ⟨[(0, .v (.one (.yld 7))), (1, .v (.one (.ptr 4 0))), (2, .v (.one (.ptr 5 0)))], [(0, .cells 24 (cE a0)), (1, .cells 24 (cE a1)), (2, .cells 24 [dI 0, dN]), (3, .cells 24 [dI (max a0.c a1.c), dA 8 s2.1]), (4, .cells 22 [dS s2.2.1]), (5, .cells 22 [dS s2.2.2]), (6, .obj (.deferred (some []))), (7, .loop .ready none [(4, .v (.one (.ptr 2 0))), (6, .v (.one (.ptr 3 0))), (27, .v (.one (.fn 78 [(4, 0), (5, 0)])))] 39 #[28] m24_c0 m24_c1 6)], [(8, some ⟨69, 2, (Enc.encL s2.1).length⟩)], 9, 80, []⟩) (([] : List LV), a0.vs, a1.vs) o11 (stle (tR rfl (tR rfl (tR rfl tZ))) (hR rfl (hR rfl (hR rfl (hR rfl (hR rfl (hR rfl (hR rfl (hR rfl hZ)))))))) (kR rfl kZ) rfl (Nat.le_trans hv1 (lb rfl)) rfl rfl rfl (bB rfl rfl (bB rfl rfl (bB rfl rfl (bB rfl rfl (bB rfl rfl (bB rfl rfl (bB rfl rfl (bB rfl rfl bZ)))))))) rfl rfl) hl2 (fun s2 n2 oo2 h2 ho2 => ?_)
      unfold m24_l0 at h2
      refine XC.seq <| XC.seq ?_
      refine XC.joinR (fun (v12 : Bool) => ⟨[(0, .v (.one (.yld 7))), (1, .v (.one (.ptr 4 0))), (2, .v (.one (.ptr 5 0))), (12, .v (.one (dB v12)))], [(0, .cells 24 (cE a0)), (1, .cells 24 (cE a1)), (2, .cells 24 [dI 0, dN]), (3, .cells 24 [dI (max a0.c a1.c), dA 8 s2.1]), (4, .cells 22 [dS s2.2.1]), (5, .cells 22 [dS s2.2.2]), (6, .obj (.deferred (some []))), (7, .loop .ready none [(4, .v (.one (.ptr 2 0))), (6, .v (.one (.ptr 3 0))), (27, .v (.one (.fn 78 [(4, 0), (5, 0)])))] 39 #[28] m24_c0 m24_c1 6)], [(8, some ⟨69, 2, (Enc.encL s2.1).length⟩)], 9, 80, []⟩) (fun (v12 : Bool) => (cond v12
          (Option.bind (cond ((s2.2.2.length : Int) == 0)
          (some true)
          (cond (decide (0 < (s2.2.1.length : Int)))
          (Option.bind (idx s2.2.1 0) fun (x17 : LV) =>
        Option.bind (idx s2.2.2 0) fun (x18 : LV) =>
        some (decide (x17.1 < x18.1)))
          (some false))) (fun (v14 : Bool) => cond v14
          (Option.bind (idx s2.2.1 0) fun (x16 : LV) =>
        guardO (cond (decide (0 ≤ (1 : Int))) (Nat.ble (1 : Int).toNat s2.2.1.length) false)
        (Option.bind (guardO (Nat.ble (s2.1.length + ([x16]).length) 1000000000)
        (some ())) (fun (y18 : Unit) => some (.next ((s2.1 ++ ([x16])), (s2.2.1.drop (1 : Int).toNat), s2.2.2)))))
          (Option.bind (cond ((s2.2.1.length : Int) == 0)
          (some true)
          (Option.bind (idx s2.2.2 0) fun (x24 : LV) =>
        Option.bind (idx s2.2.1 0) fun (x25 : LV) =>
        some (decide (x24.1 < x25.1)))) (fun (v22 : Bool) => cond v22
          (Option.bind (idx s2.2.2 0) fun (x24 : LV) =>
        guardO (cond (decide (0 ≤ (1 : Int))) (Nat.ble (1 : Int).toNat s2.2.2.length) false)
        (Option.bind (guardO (Nat.ble (s2.1.length + ([x24]).length) 1000000000)
        (some ())) (fun (y26 : Unit) => some (.next ((s2.1 ++ ([x24])), s2.2.1, (s2.2.2.drop (1 : Int).toNat))))))
          (Option.bind (idx s2.2.1 0) fun (x30 : LV) =>
        Option.bind (idx s2.2.1 0) fun (x31 : LV) =>
        Option.bind (idx s2.2.2 0) fun (x32 : LV) =>
        guardO (cond (decide (0 ≤ (1 : Int))) (Nat.ble (1 : Int).toNat s2.2.1.length) false)
        (guardO (cond (decide (0 ≤ (1 : Int))) (Nat.ble (1 : Int).toNat s2.2.2.length) false)
        (Option.bind (guardO (Nat.ble (s2.1.length + ([(x30.1, (max x31.2 x32.2))]).length) 1000000000)
        (some ())) (fun (y35 : Unit) => some (.next ((s2.1 ++ ([(x30.1, (max x31.2 x32.2))])), (s2.2.1.drop (1 : Int).toNat), (s2.2.2.drop (1 : Int).toNat)))))))))))
          (some (.done (s2.1, s2.2.1, s2.2.2)))) = some oo2) ?_ ?_
      ·
       refine bindK h2 (fun v_ h3 h2 => ?_)
       refine XC.region <| rR rfl rfl rfl (RO.loadOwn ag_22 rfl rfl rfl) <| rR rfl rfl rfl (RO.lenE (α := LV) sl_22 rfl (.d _)) <| rR rfl rfl rfl (RO.binInt rfl rfl rfl) <| rM rfl rfl rfl ?_
       refine XL.case (d := 8) (c := (decide (0 < (s2.2.1.length : Int)))) rfl (fun c13 => ?_) (fun c13 => ?_)
       ·
        replace h3 := condT c13 h3
        refine XL.no rfl rfl <| XL.no rfl rfl <| XL.no rfl rfl <| rR rfl rfl rfl (RO.pickT rfl rfl) <| XL.nil ?_
        have e_ := Option.some.inj h3
        subst e_
        exact XQ.joinR true (stle (tR rfl (tR rfl (tR rfl (tR rfl tZ)))) (hR rfl (hR rfl (hR rfl (hR rfl (hR rfl (hR rfl (hR rfl (hR rfl hZ)))))))) (kR rfl kZ) rfl (Nat.le_trans hv1 (lb rfl)) rfl rfl rfl (bB rfl rfl (bB rfl rfl (bB rfl rfl (bB rfl rfl (bB rfl rfl (bB rfl rfl (bB rfl rfl (bB rfl rfl bZ)))))))) rfl rfl) h2
       ·
        replace h3 := condF c13 h3
        refine rR rfl rfl rfl (RO.loadOwn ag_22 rfl rfl rfl) <| rR rfl rfl rfl (RO.lenE (α := LV) sl_22 rfl (.d _)) <| rR rfl rfl rfl (RO.binInt rfl rfl rfl) <| rR rfl rfl rfl (RO.pickF rfl rfl) <| XL.nil ?_
        have e_ := Option.some.inj h3
        subst e_
        exact XQ.joinR (decide (0 < (s2.2.2.length : Int))) (stle (tR rfl (tR rfl (tR rfl (tR rfl tZ)))) (hR rfl (hR rfl (hR rfl (hR rfl (hR rfl (hR rfl (hR rfl (hR rfl hZ)))))))) (kR rfl kZ) rfl (Nat.le_trans hv1 (lb rfl)) rfl rfl rfl (bB rfl rfl (bB rfl rfl (bB rfl rfl (bB rfl rfl (bB rfl rfl (bB rfl rfl (bB rfl rfl (bB rfl rfl bZ)))))))) rfl rfl) h2
      ·
       intro v12 h2
       refine XQ.seq ?_
       refine XC.cond (b := v12) rfl (fun c14 => ?_) (fun c14 => ?_)
       ·
        replace h2 := condT c14 h2
        refine XC.skip <| XQ.seq <| XC.block <| XC.seq <| XC.region <| XL.put rfl rfl (lb rfl) (OpOK.alloc z_69 rfl) <| XL.nil <| XQ.seq <| XC.seq <| XC.block <| XC.seq ?_
        refine XC.joinR (fun (v15 : Bool) => ⟨[(0, .v (.one (.yld 7))), (1, .v (.one (.ptr 4 0))), (2, .v (.one (.ptr 5 0))), (4, .v (.one (.ptr 9 0))), (31, .v (.one (dB v15)))], [(0, .cells 24 (cE a0)), (1, .cells 24 (cE a1)), (2, .cells 24 [dI 0, dN]), (3, .cells 24 [dI (max a0.c a1.c), dA 8 s2.1]), (4, .cells 22 [dS s2.2.1]), (5, .cells 22 [dS s2.2.2]), (6, .obj (.deferred (some []))), (7, .loop .ready none [(4, .v (.one (.ptr 2 0))), (6, .v (.one (.ptr 3 0))), (27, .v (.one (.fn 78 [(4, 0), (5, 0)])))] 39 #[28] m24_c0 m24_c1 6), (9, .cells 69 [dI 0, dI 0])], [(8, some ⟨69, 2, (Enc.encL s2.1).length⟩)], 10, 80, []⟩) (fun (v15 : Bool) => (cond v15
            (Option.bind (idx s2.2.1 0) fun (x17 : LV) =>
          guardO (cond (decide (0 ≤ (1 : Int))) (Nat.ble (1 : Int).toNat s2.2.1.length) false)
          (Option.bind (guardO (Nat.ble (s2.1.length + ([x17]).length) 1000000000)
          (some ())) (fun (y19 : Unit) => some (.next ((s2.1 ++ ([x17])), (s2.2.1.drop (1 : Int).toNat), s2.2.2)))))
            (Option.bind (cond ((s2.2.1.length : Int) == 0)
            (some true)
            (Option.bind (idx s2.2.2 0) fun (x25 : LV) =>
          Option.bind (idx s2.2.1 0) fun (x26 : LV) =>
          some (decide (x25.1 < x26.1)))) (fun (v23 : Bool) => cond v23
            (Option.bind (idx s2.2.2 0) fun (x25 : LV) =>
          guardO (cond (decide (0 ≤ (1 : Int))) (Nat.ble (1 : Int).toNat s2.2.2.length) false)
          (Option.bind (guardO (Nat.ble (s2.1.length + ([x25]).length) 1000000000)
          (some ())) (fun (y27 : Unit) => some (.next ((s2.1 ++ ([x25])), s2.2.1, (s2.2.2.drop (1 : Int).toNat))))))
            (Option.bind (idx s2.2.1 0) fun (x31 : LV) =>
          Option.bind (idx s2.2.1 0) fun (x32 : LV) =>
          Option.bind (idx s2.2.2 0) fun (x33 : LV) =>
          guardO (cond (decide (0 ≤ (1 : Int))) (Nat.ble (1 : Int).toNat s2.2.1.length) false)
          (guardO (cond (decide (0 ≤ (1 : Int))) (Nat.ble (1 : Int).toNat s2.2.2.length) false)
          (Option.bind (guardO (Nat.ble (s2.1.length + ([(x31.1, (max x32.2 x33.2))]).length) 1000000000)
          (some ())) (fun (y36 : Unit) => some (.next ((s2.1 ++ ([(x31.1, (max x32.2 x33.2))])), (s2.2.1.drop (1 : Int).toNat), (s2.2.2.drop (1 : Int).toNat)))))))))) = some oo2) ?_ ?_
        ·
         refine bindK h2 (fun v_ h3 h2 => ?_)
         refine XC.anyRun [] [] mixed (by kernel_rfl) (by kernel_rfl) (by kernel_rfl) ?_
         refine RunA.rd rfl rfl rfl (OpOK.of_ro (RO.loadOwn ag_22 rfl rfl rfl)) rfl <| RunA.rd rfl rfl rfl (OpOK.of_ro (RO.lenE (α := LV) sl_22 rfl (.d _))) rfl <| RunA.rd rfl rfl rfl (OpOK.of_ro (RO.binInt rfl rfl rfl)) rfl ?_
         refine RunA.case (c := ((s2.2.2.length : Int) == 0)) rfl rfl rfl (OpOK.of_ro (RO.move rfl)) rfl (fun c16 => ?_) (fun c16 => ?_)
         ·
          replace h3 := condT c16 h3
          refine RunA.no rfl rfl rfl rfl <| RunA.no rfl rfl rfl rfl <| RunA.no rfl rfl rfl rfl <| RunA.no rfl rfl rfl rfl <| RunA.no rfl rfl rfl rfl <| RunA.no rfl rfl rfl rfl <| RunA.no rfl rfl rfl rfl <| RunA.no rfl rfl rfl rfl <| RunA.no rfl rfl rfl rfl <| RunA.no rfl rfl rfl rfl <| RunA.no rfl rfl rfl rfl <| RunA.no rfl rfl rfl rfl <| RunA.no rfl rfl rfl rfl <| RunA.no rfl rfl rfl rfl ?_
          refine RunA.rd rfl rfl rfl (OpOK.of_ro (RO.pickT rfl rfl)) rfl <| RunA.rd rfl rfl rfl (OpOK.of_ro (RO.assign rfl)) rfl ?_
          refine RunA.nil ⟨?ex, _, _, rfl, ?_⟩
          case ex => exact trivial
          have e_ := Option.some.inj h3
          subst e_
          exact XQ.joinR true (stle (tR rfl (tR rfl (tR rfl (tR rfl (tR rfl tZ))))) (hR rfl (hR rfl (hR rfl (hR rfl (hR rfl (hR rfl (hR rfl (hR rfl (hR rfl hZ))))))))) (kR rfl kZ) rfl (Nat.le_trans hv1 (lb rfl)) rfl rfl rfl (bB rfl rfl (bB rfl rfl (bB rfl rfl (bB rfl rfl (bB rfl rfl (bB rfl rfl (bB rfl rfl (bB rfl rfl (bB rfl rfl bZ))))))))) rfl rfl) h2
         ·
          replace h3 := condF c16 h3
          refine RunA.rd rfl rfl rfl (OpOK.of_ro (RO.loadOwn ag_22 rfl rfl rfl)) rfl <| RunA.rd rfl rfl rfl (OpOK.of_ro (RO.lenE (α := LV) sl_22 rfl (.d _))) rfl <| RunA.rd rfl rfl rfl (OpOK.of_ro (RO.binInt rfl rfl rfl)) rfl ?_
          refine RunA.case (c := (decide (0 < (s2.2.1.length : Int)))) rfl rfl rfl (OpOK.of_ro (RO.move rfl)) rfl (fun c17 => ?_) (fun c17 => ?_)
          ·
           replace h3 := condT c17 h3
           refine RunA.rd rfl rfl rfl (OpOK.of_ro (RO.loadOwn ag_22 rfl rfl rfl)) rfl ?_
           refine bindK h3 (fun x18 hx18 h3 => ?_)
           refine RunA.rd rfl rfl rfl (OpOK.of_ro (RO.indexE (α := LV) sl_22 rfl (.d _) rfl hx18)) rfl <| RunA.rd rfl rfl rfl (OpOK.of_ro (RO.fieldPel fo_69_0 rfl)) rfl <| RunA.rd rfl rfl rfl (OpOK.of_ro (RO.loadPel ag_3 rfl rfl)) rfl <| RunA.rd rfl rfl rfl (OpOK.of_ro (RO.loadOwn ag_22 rfl rfl rfl)) rfl ?_
           refine bindK h3 (fun x19 hx19 h3 => ?_)
           refine RunA.rd rfl rfl rfl (OpOK.of_ro (RO.indexE (α := LV) sl_22 rfl (.d _) rfl hx19)) rfl <| RunA.rd rfl rfl rfl (OpOK.of_ro (RO.fieldPel fo_69_0 rfl)) rfl <| RunA.rd rfl rfl rfl (OpOK.of_ro (RO.loadPel ag_3 rfl rfl)) rfl <| RunA.rd rfl rfl rfl (OpOK.of_ro (RO.binInt rfl rfl rfl)) rfl <| RunA.rd rfl rfl rfl (OpOK.of_ro (RO.pickT rfl rfl)) rfl <| RunA.rd rfl rfl rfl (OpOK.of_ro (RO.pickF rfl rfl)) rfl <| RunA.rd rfl rfl rfl (OpOK.of_ro (RO.assign rfl)) rfl ?_
           refine RunA.nil ⟨?ex, _, _, rfl, ?_⟩
           case ex => exact trivial
           have e_ := Option.some.inj h3
           subst e_
           exact XQ.joinR (decide (x18.1 < x19.1)) (stle (tR rfl (tR rfl (tR rfl (tR rfl (tR rfl tZ))))) (hR rfl (hR rfl (hR rfl (hR rfl (hR rfl (hR rfl (hR rfl (hR rfl (hR rfl hZ))))))))) (kR rfl kZ) rfl (Nat.le_trans hv1 (lb rfl)) rfl rfl rfl (bB rfl rfl (bB rfl rfl (bB rfl rfl (bB rfl rfl (bB rfl rfl (bB rfl rfl (bB rfl rfl (bB rfl rfl (bB rfl rfl bZ))))))))) rfl rfl) h2
          ·
           replace h3 := condF c17 h3
           refine RunA.no rfl rfl rfl rfl <| RunA.no rfl rfl rfl rfl <| RunA.no rfl rfl rfl rfl <| RunA.no rfl rfl rfl rfl <| RunA.no rfl rfl rfl rfl <| RunA.no rfl rfl rfl rfl <| RunA.no rfl rfl rfl rfl <| RunA.no rfl rfl rfl rfl <| RunA.no rfl rfl rfl rfl <| RunA.rd rfl rfl rfl (OpOK.of_ro (RO.pickF rfl rfl)) rfl <| RunA.rd rfl rfl rfl (OpOK.of_ro (RO.pickF rfl rfl)) rfl <| RunA.rd rfl rfl rfl (OpOK.of_ro (RO.assign rfl)) rfl ?_
           refine RunA.nil ⟨?ex, _, _, rfl, ?_⟩
           case ex => exact trivial
           have e_ := Option.some.inj h3
           subst e_
           exact XQ.joinR false (stle (tR rfl (tR rfl (tR rfl (tR rfl (tR rfl tZ))))) (hR rfl (hR rfl (hR rfl (hR rfl (hR rfl (hR rfl (hR rfl (hR rfl (hR rfl hZ))))))))) (kR rfl kZ) rfl (Nat.le_trans hv1 (lb rfl)) rfl rfl rfl (bB rfl rfl (bB rfl rfl (bB rfl rfl (bB rfl rfl (bB rfl rfl (bB rfl rfl (bB rfl rfl (bB rfl rfl (bB rfl rfl bZ))))))))) rfl rfl) h2
        ·
         intro v15 h2
         refine XQ.seq ?_
         refine XC.cond (b := v15) rfl (fun c20 => ?_) (fun c20 => ?_)
         ·
          replace h2 := condT c20 h2
          refine XC.anyRun [5, 6] [(3, 1), (4, 1)] mixed (by kernel_rfl) (by kernel_rfl) (by kernel_rfl) ?_
          refine RunA.rd rfl rfl rfl (OpOK.of_ro (RO.loadOwn ag_22 rfl rfl rfl)) rfl ?_
          refine bindK h2 (fun x21 hx21 h2 => ?_)
          refine RunA.rd rfl rfl rfl (OpOK.of_ro (RO.indexE (α := LV) sl_22 rfl (.d _) rfl hx21)) rfl <| RunA.rd rfl rfl rfl (OpOK.of_ro (RO.loadPelAgg ag_69 rfl rfl rfl)) rfl <| RunA.rd rfl rfl rfl (OpOK.of_ro (RO.loadOwn ag_22 rfl rfl rfl)) rfl ?_
          refine guardK h2 (fun g22 h2 => ?_)
          refine RunA.rd rfl rfl rfl (OpOK.of_ro (RO.sliceFrom (α := LV) sl_22 rfl (.d _) rfl g22)) rfl <| RunA.eff rfl rfl rfl (OpOK.store ag_69 rfl rfl rfl rfl (lb rfl) rfl) rfl <| RunA.eff rfl rfl rfl (OpOK.store ag_22 rfl rfl rfl rfl (lb rfl) rfl) rfl ?_
          refine RunA.nil ⟨?ex, _, _, rfl, ?_⟩
          case ex => exact ⟨⟨_, rfl, _, _, rfl, rfl, rfl, .inl ⟨rfl, _, OpOK.of_ro (RO.loadOwn ag_22 rfl rfl rfl), rfl⟩⟩, ⟨_, rfl, _, _, rfl, rfl, rfl, .inl ⟨rfl, _, OpOK.of_ro (RO.sliceFrom (α := LV) sl_22 rfl (.d _) rfl g22), rfl⟩⟩, trivial⟩
          refine XQ.less (st' := ⟨[(0, .v (.one (.yld 7))), (1, .v (.one (.ptr 4 0))), (2, .v (.one (.ptr 5 0))), (4, .v (.one (.ptr 9 0)))], [(0, .cells 24 (cE a0)), (1, .cells 24 (cE a1)), (2, .cells 24 [dI 0, dN]), (3, .cells 24 [dI (max a0.c a1.c), dA 8 s2.1]), (4, .cells 22 [dS ((s2.2.1.drop (1 : Int).toNat) : List LV)]), (5, .cells 22 [dS s2.2.2]), (6, .obj (.deferred (some []))), (7, .loop .ready none [(4, .v (.one (.ptr 2 0))), (6, .v (.one (.ptr 3 0))), (27, .v (.one (.fn 78 [(4, 0), (5, 0)])))] 39 #[28] m24_c0 m24_c1 6), (9, .cells 69 (cE x21))], [(8, some ⟨69, 2, (Enc.encL s2.1).length⟩)], 10, 80, []⟩) (stle (tR rfl (tR rfl (tR rfl (tR rfl tZ)))) (hR rfl (hR rfl (hR rfl (hR rfl (hR rfl (hR rfl (hR rfl (hR rfl (hR rfl hZ))))))))) (kR rfl kZ) rfl (Nat.le_trans hv1 (lb rfl)) rfl rfl rfl (bB rfl rfl (bB rfl rfl (bB rfl rfl (bB rfl rfl (bB rfl rfl (bB rfl rfl (bB rfl rfl (bB rfl rfl (bB rfl rfl bZ))))))))) rfl rfl) <| XQ.inBlock <| XQ.seq <| XC.seq <| XC.region <| rM rfl rfl rfl <| rR rfl rfl rfl (RO.loadOwnAgg ag_69 rfl rfl rfl rfl) ?_
          refine bindK h2 (fun y23 h3 h2 => ?_)
          have ha24 : ExecOK Tryz.prog (some 7) m24_c0 ⟨[(4, .v (.one (.ptr 2 0))), (6, .v (.one (.ptr 3 0))), (27, .v (.one (.fn 78 [(4, 0), (5, 0)]))), (28, .v (.agg (cE x21)))], [(0, .cells 24 (cE a0)), (1, .cells 24 (cE a1)), (2, .cells 24 [dI 0, dN]), (3, .cells 24 [dI (max a0.c a1.c), dA 8 s2.1]), (4, .cells 22 [dS ((s2.2.1.drop (1 : Int).toNat) : List LV)]), (5, .cells 22 [dS s2.2.2]), (6, .obj (.deferred (some []))), (7, .loop .ready none [(4, .v (.one (.ptr 2 0))), (6, .v (.one (.ptr 3 0))), (27, .v (.one (.fn 78 [(4, 0), (5, 0)])))] 39 #[28] m24_c0 m24_c1 6), (9, .cells 69 (cE x21))], [(8, some ⟨69, 2, (Enc.encL s2.1).length⟩)], 10, 39, []⟩ .normal ⟨[(6, .v (.one (.ptr 3 0))), (7, .v (.one (.ptr 10 0)))], [(0, .cells 24 (cE a0)), (1, .cells 24 (cE a1)), (2, .cells 24 [dI 0, dN]), (3, .cells 24 [dI (max a0.c a1.c), dA 8 s2.1]), (4, .cells 22 [dS ((s2.2.1.drop (1 : Int).toNat) : List LV)]), (5, .cells 22 [dS s2.2.2]), (6, .obj (.deferred (some []))), (7, .loop .ready none [(4, .v (.one (.ptr 2 0))), (6, .v (.one (.ptr 3 0))), (27, .v (.one (.fn 78 [(4, 0), (5, 0)])))] 39 #[28] m24_c0 m24_c1 6), (9, .cells 69 (cE x21)), (10, .cells 69 (cE x21))], [(8, some ⟨69, 2, (Enc.encL s2.1).length⟩)], 11, 39, []⟩ := by
           refine ExecOK.walk (fun w0 M V0 ro n Q hv3 hro3 hQn3 => ?_)
           refine XC.region <| XL.put rfl rfl (lb rfl) (OpOK.alloc z_69 rfl) <| XL.eff rfl rfl (OpOK.store ag_69 rfl rfl rfl rfl (lb rfl) rfl) <| XL.nil ?_
           exact XQ.of hQn3 (stle (tR rfl (tR rfl tZ)) (hR rfl (hR rfl (hR rfl (hR rfl (hR rfl (hR rfl (hR rfl (hR rfl (hR rfl (hR rfl hZ)))))))))) (kR rfl kZ) rfl (Nat.le_trans hv3 (lb rfl)) rfl rfl rfl (bB rfl rfl (bB rfl rfl (bB rfl rfl (bB rfl rfl (bB rfl rfl (bB rfl rfl (bB rfl rfl (bB rfl rfl (bB rfl rfl (bB rfl rfl bZ)))))))))) rfl rfl)
          have hb25 : ExecOK Tryz.prog (some 7) m24_c1 ⟨[(6, .v (.one (.ptr 3 0))), (7, .v (.one (.ptr 10 0)))], [(0, .cells 24 (cE a0)), (1, .cells 24 (cE a1)), (2, .cells 24 [dI 0, dN]), (3, .cells 24 [dI (max a0.c a1.c), dA 8 s2.1]), (4, .cells 22 [dS ((s2.2.1.drop (1 : Int).toNat) : List LV)]), (5, .cells 22 [dS s2.2.2]), (6, .obj (.deferred (some []))), (7, .loop .busy none [(4, .v (.one (.ptr 2 0))), (6, .v (.one (.ptr 3 0))), (27, .v (.one (.fn 78 [(4, 0), (5, 0)])))] 39 #[28] m24_c0 m24_c1 6), (9, .cells 69 (cE x21)), (10, .cells 69 (cE x21))], [(8, some ⟨69, 2, (Enc.encL s2.1).length⟩)], 11, 39, []⟩ .normal ⟨[], [(0, .cells 24 (cE a0)), (1, .cells 24 (cE a1)), (2, .cells 24 [dI 0, dN]), (3, .cells 24 [dI (max a0.c a1.c), dA 8 ((s2.1 ++ ([x21])) : List LV)]), (4, .cells 22 [dS ((s2.2.1.drop (1 : Int).toNat) : List LV)]), (5, .cells 22 [dS s2.2.2]), (6, .obj (.deferred (some []))), (7, .loop .busy none [(4, .v (.one (.ptr 2 0))), (6, .v (.one (.ptr 3 0))), (27, .v (.one (.fn 78 [(4, 0), (5, 0)])))] 39 #[28] m24_c0 m24_c1 6), (9, .cells 69 (cE x21))], [(8, some ⟨69, 2, (Enc.encL ((s2.1 ++ ([x21])) : List LV)).length⟩)], 12, 39, []⟩ := by
           refine ExecOK.walk (fun w0 M V0 ro n Q hv3 hro3 hQn3 => ?_)
           refine XC.block <| XC.region <| rR rfl rfl rfl (RO.fieldOwn fo_24_1 rfl) <| rR rfl rfl rfl (RO.loadOwn ag_22 rfl rfl rfl) <| rR rfl rfl rfl (RO.loadOwnAgg ag_69 rfl rfl rfl rfl) <| XL.put rfl rfl (lb rfl) (OpOK.lit1E (α := LV) (x21) sl_22 z_69 rfl rfl (lb rfl) (lb rfl) rfl rfl (.cons (.d _) (.cons (.d _) .nil)) rfl) ?_
           refine guardK h3 (fun g26 h3 => ?_)
           refine XL.put rfl rfl (lb rfl) (OpOK.appendE (α := LV) sl_22 el_69 rfl rfl rfl rfl rfl (.app _ _) g26) <| rR rfl rfl rfl (RO.fieldOwn fo_24_1 rfl) <| XL.eff rfl rfl (OpOK.store ag_22 rfl rfl rfl rfl (lb rfl) rfl) <| XL.nil <| XQ.inBlock ?_
           have e_ := Option.some.inj h3
           subst e_
           exact XQ.of hQn3 (stle tZ (hR rfl (hR rfl (hR rfl (hR rfl (hR rfl (hR rfl (hR rfl (hR rfl (hR rfl hZ))))))))) (kR rfl kZ) rfl (Nat.le_trans hv3 (lb rfl)) rfl rfl rfl (bB rfl rfl (bB rfl rfl (bB rfl rfl (bB rfl rfl (bB rfl rfl (bB rfl rfl (bB rfl rfl (bB rfl rfl (bB rfl rfl bZ))))))))) rfl rfl)
          refine XL.put rfl rfl (lb rfl) (OpOK.yield (jump := none) rfl rfl rfl rfl rfl (ExecOK.from ha24 (fun E hv => (stle (tR rfl (tR rfl (tR rfl (tR rfl tZ)))) (hR rfl (hR rfl (hR rfl (hR rfl (hR rfl (hR rfl (hR rfl (hR rfl (hR rfl hZ))))))))) (kR rfl kZ) rfl (Nat.le_trans hv (lb rfl)) rfl rfl rfl (bB rfl rfl (bB rfl rfl (bB rfl rfl (bB rfl rfl (bB rfl rfl (bB rfl rfl (bB rfl rfl (bB rfl rfl (bB rfl rfl bZ))))))))) rfl rfl))) rfl (ExecOK.from hb25 (fun E hv => (stle (tR rfl (tR rfl tZ)) (hR rfl (hR rfl (hR rfl (hR rfl (hR rfl (hR rfl (hR rfl (hR rfl (hR rfl (hR rfl hZ)))))))))) (kR rfl kZ) rfl (Nat.le_trans hv (lb rfl)) rfl rfl rfl (bB rfl rfl (bB rfl rfl (bB rfl rfl (bB rfl rfl (bB rfl rfl (bB rfl rfl (bB rfl rfl (bB rfl rfl (bB rfl rfl (bB rfl rfl bZ)))))))))) rfl rfl))) rfl rfl) ?_
          refine rR rfl rfl rfl (RO.not rfl) <| XL.nil <| XQ.seq ?_
          refine XC.cond rfl (fun h => nomatch h) (fun _ => ?_)
          refine XC.skip <| XQ.inBlock ?_
          have e_ := Option.some.inj h2
          subst e_
          refine XQ.nextM ((s2.1 ++ ([x21])), (s2.2.1.drop (1 : Int).toNat), s2.2.2) (stle (tR rfl (tR rfl (tR rfl tZ))) (hR rfl (hR rfl (hR rfl (hR rfl (hR rfl (hR rfl (hR rfl (hR rfl hZ)))))))) (kR rfl kZ) rfl (Nat.le_trans hv1 (lb rfl)) rfl rfl rfl (bB rfl rfl (bB rfl rfl (bB rfl rfl (bB rfl rfl (bB rfl rfl (bB rfl rfl (bB rfl rfl (bB rfl rfl bZ)))))))) rfl rfl) ho2
         ·
          replace h2 := condF c20 h2
          refine XC.seq ?_
          refine XC.joinR (fun (v27 : Bool) => ⟨[(0, .v (.one (.yld 7))), (1, .v (.one (.ptr 4 0))), (2, .v (.one (.ptr 5 0))), (4, .v (.one (.ptr 9 0))), (56, .v (.one (dB v27)))], [(0, .cells 24 (cE a0)), (1, .cells 24 (cE a1)), (2, .cells 24 [dI 0, dN]), (3, .cells 24 [dI (max a0.c a1.c), dA 8 s2.1]), (4, .cells 22 [dS s2.2.1]), (5, .cells 22 [dS s2.2.2]), (6, .obj (.deferred (some []))), (7, .loop .ready none [(4, .v (.one (.ptr 2 0))), (6, .v (.one (.ptr 3 0))), (27, .v (.one (.fn 78 [(4, 0), (5, 0)])))] 39 #[28] m24_c0 m24_c1 6), (9, .cells 69 [dI 0, dI 0])], [(8, some ⟨69, 2, (Enc.encL s2.1).length⟩)], 10, 80, []⟩) (fun (v27 : Bool) => (cond v27
              (Option.bind (idx s2.2.2 0) fun (x29 : LV) =>
            guardO (cond (decide (0 ≤ (1 : Int))) (Nat.ble (1 : Int).toNat s2.2.2.length) false)
            (Option.bind (guardO (Nat.ble (s2.1.length + ([x29]).length) 1000000000)
            (some ())) (fun (y31 : Unit) => some (.next ((s2.1 ++ ([x29])), s2.2.1, (s2.2.2.drop (1 : Int).toNat))))))
              (Option.bind (idx s2.2.1 0) fun (x35 : LV) =>
            Option.bind (idx s2.2.1 0) fun (x36 : LV) =>
            Option.bind (idx s2.2.2 0) fun (x37 : LV) =>
            guardO (cond (decide (0 ≤ (1 : Int))) (Nat.ble (1 : Int).toNat s2.2.1.length) false)
            (guardO (cond (decide (0 ≤ (1 : Int))) (Nat.ble (1 : Int).toNat s2.2.2.length) false)
            (Option.bind (guardO (Nat.ble (s2.1.length + ([(x35.1, (max x36.2 x37.2))]).length) 1000000000)
            (some ())) (fun (y40 : Unit) => some (.next ((s2.1 ++ ([(x35.1, (max x36.2 x37.2))])), (s2.2.1.drop (1 : Int).toNat), (s2.2.2.drop (1 : Int).toNat)))))))) = some oo2) ?_ ?_
          ·
           refine bindK h2 (fun v_ h3 h2 => ?_)
           refine XC.anyRun [] [] mixed (by kernel_rfl) (by kernel_rfl) (by kernel_rfl) ?_
           refine RunA.rd rfl rfl rfl (OpOK.of_ro (RO.loadOwn ag_22 rfl rfl rfl)) rfl <| RunA.rd rfl rfl rfl (OpOK.of_ro (RO.lenE (α := LV) sl_22 rfl (.d _))) rfl <| RunA.rd rfl rfl rfl (OpOK.of_ro (RO.binInt rfl rfl rfl)) rfl ?_
           refine RunA.case (c := ((s2.2.1.length : Int) == 0)) rfl rfl rfl (OpOK.of_ro (RO.move rfl)) rfl (fun c28 => ?_) (fun c28 => ?_)
           ·
            replace h3 := condT c28 h3
            refine RunA.no rfl rfl rfl rfl <| RunA.no rfl rfl rfl rfl <| RunA.no rfl rfl rfl rfl <| RunA.no rfl rfl rfl rfl <| RunA.no rfl rfl rfl rfl <| RunA.no rfl rfl rfl rfl <| RunA.no rfl rfl rfl rfl <| RunA.no rfl rfl rfl rfl <| RunA.no rfl rfl rfl rfl <| RunA.rd rfl rfl rfl (OpOK.of_ro (RO.pickT rfl rfl)) rfl <| RunA.rd rfl rfl rfl (OpOK.of_ro (RO.assign rfl)) rfl ?_
            refine RunA.nil ⟨?ex, _, _, rfl, ?_⟩
            case ex => exact trivial
            have e_ := Option.some.inj h3
            subst e_
            exact XQ.joinR true (stle (tR rfl (tR rfl (tR rfl (tR rfl (tR rfl tZ))))) (hR rfl (hR rfl (hR rfl (hR rfl (hR rfl (hR rfl (hR rfl (hR rfl (hR rfl hZ))))))))) (kR rfl kZ) rfl (Nat.le_trans hv1 (lb rfl)) rfl rfl rfl (bB rfl rfl (bB rfl rfl (bB rfl rfl (bB rfl rfl (bB rfl rfl (bB rfl rfl (bB rfl rfl (bB rfl rfl (bB rfl rfl bZ))))))))) rfl rfl) h2
           ·
            replace h3 := condF c28 h3
            refine RunA.rd rfl rfl rfl (OpOK.of_ro (RO.loadOwn ag_22 rfl rfl rfl)) rfl ?_
            refine bindK h3 (fun x29 hx29 h3 => ?_)
            refine RunA.rd rfl rfl rfl (OpOK.of_ro (RO.indexE (α := LV) sl_22 rfl (.d _) rfl hx29)) rfl <| RunA.rd rfl rfl rfl (OpOK.of_ro (RO.fieldPel fo_69_0 rfl)) rfl <| RunA.rd rfl rfl rfl (OpOK.of_ro (RO.loadPel ag_3 rfl rfl)) rfl <| RunA.rd rfl rfl rfl (OpOK.of_ro (RO.loadOwn ag_22 rfl rfl rfl)) rfl ?_
            refine bindK h3 (fun x30 hx30 h3 => ?_)
            refine RunA.rd rfl rfl rfl (OpOK.of_ro (RO.indexE (α := LV) sl_22 rfl (.d _) rfl hx30)) rfl <| RunA.rd rfl rfl rfl (OpOK.of_ro (RO.fieldPel fo_69_0 rfl)) rfl <| RunA.rd rfl rfl rfl (OpOK.of_ro (RO.loadPel ag_3 rfl rfl)) rfl <| RunA.rd rfl rfl rfl (OpOK.of_ro (RO.binInt rfl rfl rfl)) rfl <| RunA.rd rfl rfl rfl (OpOK.of_ro (RO.pickF rfl rfl)) rfl <| RunA.rd rfl rfl rfl (OpOK.of_ro (RO.assign rfl)) rfl ?_
            refine RunA.nil ⟨?ex, _, _, rfl, ?_⟩
            case ex => exact trivial
            have e_ := Option.some.inj h3
            subst e_
            exact XQ.joinR (decide (x29.1 < x30.1)) (stle (tR rfl (tR rfl (tR rfl (tR rfl (tR rfl tZ))))) (hR rfl (hR rfl (hR rfl (hR rfl (hR rfl (hR rfl (hR rfl (hR rfl (hR rfl hZ))))))))) (kR rfl kZ) rfl (Nat.le_trans hv1 (lb rfl)) rfl rfl rfl (bB rfl rfl (bB rfl rfl (bB rfl rfl (bB rfl rfl (bB rfl rfl (bB rfl rfl (bB rfl rfl (bB rfl rfl (bB rfl rfl bZ))))))))) rfl rfl) h2
          ·
           intro v27 h2
           refine XQ.seq ?_
           refine XC.cond (b := v27) rfl (fun c31 => ?_) (fun c31 => ?_)
           ·
            replace h2 := condT c31 h2
            refine XC.anyRun [5, 6] [(3, 1), (4, 1)] mixed (by kernel_rfl) (by kernel_rfl) (by kernel_rfl) ?_
            refine RunA.rd rfl rfl rfl (OpOK.of_ro (RO.loadOwn ag_22 rfl rfl rfl)) rfl ?_
            refine bindK h2 (fun x32 hx32 h2 => ?_)
            refine RunA.rd rfl rfl rfl (OpOK.of_ro (RO.indexE (α := LV) sl_22 rfl (.d _) rfl hx32)) rfl <| RunA.rd rfl rfl rfl (OpOK.of_ro (RO.loadPelAgg ag_69 rfl rfl rfl)) rfl <| RunA.rd rfl rfl rfl (OpOK.of_ro (RO.loadOwn ag_22 rfl rfl rfl)) rfl ?_
            refine guardK h2 (fun g33 h2 => ?_)
            refine RunA.rd rfl rfl rfl (OpOK.of_ro (RO.sliceFrom (α := LV) sl_22 rfl (.d _) rfl g33)) rfl <| RunA.eff rfl rfl rfl (OpOK.store ag_69 rfl rfl rfl rfl (lb rfl) rfl) rfl <| RunA.eff rfl rfl rfl (OpOK.store ag_22 rfl rfl rfl rfl (lb rfl) rfl) rfl ?_
            refine RunA.nil ⟨?ex, _, _, rfl, ?_⟩
            case ex => exact ⟨⟨_, rfl, _, _, rfl, rfl, rfl, .inl ⟨rfl, _, OpOK.of_ro (RO.loadOwn ag_22 rfl rfl rfl), rfl⟩⟩, ⟨_, rfl, _, _, rfl, rfl, rfl, .inl ⟨rfl, _, OpOK.of_ro (RO.sliceFrom (α := LV) sl_22 rfl (.d _) rfl g33), rfl⟩⟩, trivial⟩
            refine XQ.less (st' := ⟨[(0, .v (.one (.yld 7))), (1, .v (.one (.ptr 4 0))), (2, .v (.one (.ptr 5 0))), (4, .v (.one (.ptr 9 0)))], [(0, .cells 24 (cE a0)), (1, .cells 24 (cE a1)), (2, .cells 24 [dI 0, dN]), (3, .cells 24 [dI (max a0.c a1.c), dA 8 s2.1]), (4, .cells 22 [dS s2.2.1]), (5, .cells 22 [dS ((s2.2.2.drop (1 : Int).toNat) : List LV)]), (6, .obj (.deferred (some []))), (7, .loop .ready none [(4, .v (.one (.ptr 2 0))), (6, .v (.one (.ptr 3 0))), (27, .v (.one (.fn 78 [(4, 0), (5, 0)])))] 39 #[28] m24_c0 m24_c1 6), (9, .cells 69 (cE x32))], [(8, some ⟨69, 2, (Enc.encL s2.1).length⟩)], 10, 80, []⟩) (stle (tR rfl (tR rfl (tR rfl (tR rfl tZ)))) (hR rfl (hR rfl (hR rfl (hR rfl (hR rfl (hR rfl (hR rfl (hR rfl (hR rfl hZ))))))))) (kR rfl kZ) rfl (Nat.le_trans hv1 (lb rfl)) rfl rfl rfl (bB rfl rfl (bB rfl rfl (bB rfl rfl (bB rfl rfl (bB rfl rfl (bB rfl rfl (bB rfl rfl (bB rfl rfl (bB rfl rfl bZ))))))))) rfl rfl) <| XQ.inBlock <| XQ.seq <| XC.seq <| XC.region <| rM rfl rfl rfl <| rR rfl rfl rfl (RO.loadOwnAgg ag_69 rfl rfl rfl rfl) ?_
            refine bindK h2 (fun y34 h3 h2 => ?_)
            have ha35 : ExecOK Tryz.prog (some 7) m24_c0 ⟨[(4, .v (.one (.ptr 2 0))), (6, .v (.one (.ptr 3 0))), (27, .v (.one (.fn 78 [(4, 0), (5, 0)]))), (28, .v (.agg (cE x32)))], [(0, .cells 24 (cE a0)), (1, .cells 24 (cE a1)), (2, .cells 24 [dI 0, dN]), (3, .cells 24 [dI (max a0.c a1.c), dA 8 s2.1]), (4, .cells 22 [dS s2.2.1]), (5, .cells 22 [dS ((s2.2.2.drop (1 : Int).toNat) : List LV)]), (6, .obj (.deferred (some []))), (7, .loop .ready none [(4, .v (.one (.ptr 2 0))), (6, .v (.one (.ptr 3 0))), (27, .v (.one (.fn 78 [(4, 0), (5, 0)])))] 39 #[28] m24_c0 m24_c1 6), (9, .cells 69 (cE x32))], [(8, some ⟨69, 2, (Enc.encL s2.1).length⟩)], 10, 39, []⟩ .normal ⟨[(6, .v (.one (.ptr 3 0))), (7, .v (.one (.ptr 10 0)))], [(0, .cells 24 (cE a0)), (1, .cells 24 (cE a1)), (2, .cells 24 [dI 0, dN]), (3, .cells 24 [dI (max a0.c a1.c), dA 8 s2.1]), (4, .cells 22 [dS s2.2.1]), (5, .cells 22 [dS ((s2.2.2.drop (1 : Int).toNat) : List LV)]), (6, .obj (.deferred (some []))), (7, .loop .ready none [(4, .v (.one (.ptr 2 0))), (6, .v (.one (.ptr 3 0))), (27, .v (.one (.fn 78 [(4, 0), (5, 0)])))] 39 #[28] m24_c0 m24_c1 6), (9, .cells 69 (cE x32)), (10, .cells 69 (cE x32))], [(8, some ⟨69, 2, (Enc.encL s2.1).length⟩)], 11, 39, []⟩ := by
             refine ExecOK.walk (fun w0 M V0 ro n Q hv3 hro3 hQn3 => ?_)
             refine XC.region <| XL.put rfl rfl (lb rfl) (OpOK.alloc z_69 rfl) <| XL.eff rfl rfl (OpOK.store ag_69 rfl rfl rfl rfl (lb rfl) rfl) <| XL.nil ?_
             exact XQ.of hQn3 (stle (tR rfl (tR rfl tZ)) (hR rfl (hR rfl (hR rfl (hR rfl (hR rfl (hR rfl (hR rfl (hR rfl (hR rfl (hR rfl hZ)))))))))) (kR rfl kZ) rfl (Nat.le_trans hv3 (lb rfl)) rfl rfl rfl (bB rfl rfl (bB rfl rfl (bB rfl rfl (bB rfl rfl (bB rfl rfl (bB rfl rfl (bB rfl rfl (bB rfl rfl (bB rfl rfl (bB rfl rfl bZ)))))))))) rfl rfl)
            have hb36 : ExecOK Tryz.prog (some 7) m24_c1 ⟨[(6, .v (.one (.ptr 3 0))), (7, .v (.one (.ptr 10 0)))], [(0, .cells 24 (cE a0)), (1, .cells 24 (cE a1)), (2, .cells 24 [dI 0, dN]), (3, .cells 24 [dI (max a0.c a1.c), dA 8 s2.1]), (4, .cells 22 [dS s2.2.1]), (5, .cells 22 [dS ((s2.2.2.drop (1 : Int).toNat) : List LV)]), (6, .obj (.deferred (some []))), (7, .loop .busy none [(4, .v (.one (.ptr 2 0))), (6, .v (.one (.ptr 3 0))), (27, .v (.one (.fn 78 [(4, 0), (5, 0)])))] 39 #[28] m24_c0 m24_c1 6), (9, .cells 69 (cE x32)), (10, .cells 69 (cE x32))], [(8, some ⟨69, 2, (Enc.encL s2.1).length⟩)], 11, 39, []⟩ .normal ⟨[], [(0, .cells 24 (cE a0)), (1, .cells 24 (cE a1)), (2, .cells 24 [dI 0, dN]), (3, .cells 24 [dI (max a0.c a1.c), dA 8 ((s2.1 ++ ([x32])) : List LV)]), (4, .cells 22 [dS s2.2.1]), (5, .cells 22 [dS ((s2.2.2.drop (1 : Int).toNat) : List LV)]), (6, .obj (.deferred (some []))), (7, .loop .busy none [(4, .v (.one (.ptr 2 0))), (6, .v (.one (.ptr 3 0))), (27, .v (.one (.fn 78 [(4, 0), (5, 0)])))] 39 #[28] m24_c0 m24_c1 6), (9, .cells 69 (cE x32))], [(8, some ⟨69, 2, (Enc.encL ((s2.1 ++ ([x32])) : List LV)).length⟩)], 12, 39, []⟩ := by
             refine ExecOK.walk (fun w0 M V0 ro n Q hv3 hro3 hQn3 => ?_)
             refine XC.block <| XC.region <| rR rfl rfl rfl (RO.fieldOwn fo_24_1 rfl) <| rR rfl rfl rfl (RO.loadOwn ag_22 rfl rfl rfl) <| rR rfl rfl rfl (RO.loadOwnAgg ag_69 rfl rfl rfl rfl) <| XL.put rfl rfl (lb rfl) (OpOK.lit1E (α := LV) (x32) sl_22 z_69 rfl rfl (lb rfl) (lb rfl) rfl rfl (.cons (.d _) (.cons (.d _) .nil)) rfl) ?_
             refine guardK h3 (fun g37 h3 => ?_)
             refine XL.put rfl rfl (lb rfl) (OpOK.appendE (α := LV) sl_22 el_69 rfl rfl rfl rfl rfl (.app _ _) g37) <| rR rfl rfl rfl (RO.fieldOwn fo_24_1 rfl) <| XL.eff rfl rfl (OpOK.store ag_22 rfl rfl rfl rfl (lb rfl) rfl) <| XL.nil <| XQ.inBlock ?_
             have e_ := Option.some.inj h3
             subst e_
             exact XQ.of hQn3 (stle tZ (hR rfl (hR rfl (hR rfl (hR rfl (hR rfl (hR rfl (hR rfl (hR rfl (hR rfl hZ))))))))) (kR rfl kZ) rfl (Nat.le_trans hv3 (lb rfl)) rfl rfl rfl (bB rfl rfl (bB rfl rfl (bB rfl rfl (bB rfl rfl (bB rfl rfl (bB rfl rfl (bB rfl rfl (bB rfl rfl (bB rfl rfl bZ))))))))) rfl rfl)
            refine XL.put rfl rfl (lb rfl) (OpOK.yield (jump := none) rfl rfl rfl rfl rfl (ExecOK.from ha35 (fun E hv => (stle (tR rfl (tR rfl (tR rfl (tR rfl tZ)))) (hR rfl (hR rfl (hR rfl (hR rfl (hR rfl (hR rfl (hR rfl (hR rfl (hR rfl hZ))))))))) (kR rfl kZ) rfl (Nat.le_trans hv (lb rfl)) rfl rfl rfl (bB rfl rfl (bB rfl rfl (bB rfl rfl (bB rfl rfl (bB rfl rfl (bB rfl rfl (bB rfl rfl (bB rfl rfl (bB rfl rfl bZ))))))))) rfl rfl))) rfl (ExecOK.from hb36 (fun E hv => (stle (tR rfl (tR rfl tZ)) (hR rfl (hR rfl (hR rfl (hR rfl (hR rfl (hR rfl (hR rfl (hR rfl (hR rfl (hR rfl hZ)))))))))) (kR rfl kZ) rfl (Nat.le_trans hv (lb rfl)) rfl rfl rfl (bB rfl rfl (bB rfl rfl (bB rfl rfl (bB rfl rfl (bB rfl rfl (bB rfl rfl (bB rfl rfl (bB rfl rfl (bB rfl rfl (bB rfl rfl bZ)))))))))) rfl rfl))) rfl rfl) ?_
            refine rR rfl rfl rfl (RO.not rfl) <| XL.nil <| XQ.seq ?_
            refine XC.cond rfl (fun h => nomatch h) (fun _ => ?_)
            refine XC.skip <| XQ.inBlock ?_
            have e_ := Option.some.inj h2
            subst e_
            refine XQ.nextM ((s2.1 ++ ([x32])), s2.2.1, (s2.2.2.drop (1 : Int).toNat)) (stle (tR rfl (tR rfl (tR rfl tZ))) (hR rfl (hR rfl (hR rfl (hR rfl (hR rfl (hR rfl (hR rfl (hR rfl hZ)))))))) (kR rfl kZ) rfl (Nat.le_trans hv1 (lb rfl)) rfl rfl rfl (bB rfl rfl (bB rfl rfl (bB rfl rfl (bB rfl rfl (bB rfl rfl (bB rfl rfl (bB rfl rfl (bB rfl rfl bZ)))))))) rfl rfl) ho2
           ·
            replace h2 := condF c31 h2
            refine XC.seq ?_
            refine XC.anyRun [14] [] mixed (by kernel_rfl) (by kernel_rfl) (by kernel_rfl) ?_
            refine RunA.rd rfl rfl rfl (OpOK.of_ro (RO.loadOwn ag_22 rfl rfl rfl)) rfl ?_
            refine bindK h2 (fun x38 hx38 h2 => ?_)
            refine RunA.rd rfl rfl rfl (OpOK.of_ro (RO.indexE (α := LV) sl_22 rfl (.d _) rfl hx38)) rfl <| RunA.rd rfl rfl rfl (OpOK.of_ro (RO.fieldPel fo_69_0 rfl)) rfl <| RunA.rd rfl rfl rfl (OpOK.of_ro (RO.loadPel ag_3 rfl rfl)) rfl <| RunA.rd rfl rfl rfl (OpOK.of_ro (RO.loadOwn ag_22 rfl rfl rfl)) rfl ?_
            refine bindK h2 (fun x39 hx39 h2 => ?_)
            refine RunA.rd rfl rfl rfl (OpOK.of_ro (RO.indexE (α := LV) sl_22 rfl (.d _) rfl hx39)) rfl <| RunA.rd rfl rfl rfl (OpOK.of_ro (RO.fieldPel fo_69_1 rfl)) rfl <| RunA.rd rfl rfl rfl (OpOK.of_ro (RO.loadPel ag_3 rfl rfl)) rfl <| RunA.rd rfl rfl rfl (OpOK.of_ro (RO.loadOwn ag_22 rfl rfl rfl)) rfl ?_
            refine bindK h2 (fun x40 hx40 h2 => ?_)
            refine RunA.rd rfl rfl rfl (OpOK.of_ro (RO.indexE (α := LV) sl_22 rfl (.d _) rfl hx40)) rfl <| RunA.rd rfl rfl rfl (OpOK.of_ro (RO.fieldPel fo_69_1 rfl)) rfl <| RunA.rd rfl rfl rfl (OpOK.of_ro (RO.loadPel ag_3 rfl rfl)) rfl <| RunA.rd rfl rfl rfl (OpOK.of_ro (RO.max2 rfl rfl)) rfl <| RunA.rd rfl rfl rfl (OpOK.of_ro (RO.build2 bd_69 rfl rfl rfl rfl)) rfl <| RunA.eff rfl rfl rfl (OpOK.store ag_69 rfl rfl rfl rfl (lb rfl) rfl) rfl ?_
            refine RunA.nil ⟨?ex, _, _, rfl, ?_⟩
            case ex => exact trivial
            refine XQ.less (st' := ⟨[(0, .v (.one (.yld 7))), (1, .v (.one (.ptr 4 0))), (2, .v (.one (.ptr 5 0))), (4, .v (.one (.ptr 9 0)))], [(0, .cells 24 (cE a0)), (1, .cells 24 (cE a1)), (2, .cells 24 [dI 0, dN]), (3, .cells 24 [dI (max a0.c a1.c), dA 8 s2.1]), (4, .cells 22 [dS s2.2.1]), (5, .cells 22 [dS s2.2.2]), (6, .obj (.deferred (some []))), (7, .loop .ready none [(4, .v (.one (.ptr 2 0))), (6, .v (.one (.ptr 3 0))), (27, .v (.one (.fn 78 [(4, 0), (5, 0)])))] 39 #[28] m24_c0 m24_c1 6), (9, .cells 69 [dI x38.1, dI (max x39.2 x40.2)])], [(8, some ⟨69, 2, (Enc.encL s2.1).length⟩)], 10, 80, []⟩) (stle (tR rfl (tR rfl (tR rfl (tR rfl tZ)))) (hR rfl (hR rfl (hR rfl (hR rfl (hR rfl (hR rfl (hR rfl (hR rfl (hR rfl hZ))))))))) (kR rfl kZ) rfl (Nat.le_trans hv1 (lb rfl)) rfl rfl rfl (bB rfl rfl (bB rfl rfl (bB rfl rfl (bB rfl rfl (bB rfl rfl (bB rfl rfl (bB rfl rfl (bB rfl rfl (bB rfl rfl bZ))))))))) rfl rfl) <| XQ.seq ?_
            refine XC.anyRun [4, 5] [(2, 1), (3, 1)] mixed (by kernel_rfl) (by kernel_rfl) (by kernel_rfl) ?_
            refine RunA.rd rfl rfl rfl (OpOK.of_ro (RO.loadOwn ag_22 rfl rfl rfl)) rfl ?_
            refine guardK h2 (fun g41 h2 => ?_)
            refine RunA.rd rfl rfl rfl (OpOK.of_ro (RO.sliceFrom (α := LV) sl_22 rfl (.d _) rfl g41)) rfl <| RunA.rd rfl rfl rfl (OpOK.of_ro (RO.loadOwn ag_22 rfl rfl rfl)) rfl ?_
            refine guardK h2 (fun g42 h2 => ?_)
            refine RunA.rd rfl rfl rfl (OpOK.of_ro (RO.sliceFrom (α := LV) sl_22 rfl (.d _) rfl g42)) rfl <| RunA.eff rfl rfl rfl (OpOK.store ag_22 rfl rfl rfl rfl (lb rfl) rfl) rfl <| RunA.eff rfl rfl rfl (OpOK.store ag_22 rfl rfl rfl rfl (lb rfl) rfl) rfl ?_
            refine RunA.nil ⟨?ex, _, _, rfl, ?_⟩
            case ex => exact ⟨⟨_, rfl, _, _, rfl, rfl, rfl, .inl ⟨rfl, _, OpOK.of_ro (RO.loadOwn ag_22 rfl rfl rfl), rfl⟩⟩, ⟨_, rfl, _, _, rfl, rfl, rfl, .inl ⟨rfl, _, OpOK.of_ro (RO.sliceFrom (α := LV) sl_22 rfl (.d _) rfl g42), rfl⟩⟩, trivial⟩
            refine XQ.less (st' := ⟨[(0, .v (.one (.yld 7))), (1, .v (.one (.ptr 4 0))), (2, .v (.one (.ptr 5 0))), (4, .v (.one (.ptr 9 0)))], [(0, .cells 24 (cE a0)), (1, .cells 24 (cE a1)), (2, .cells 24 [dI 0, dN]), (3, .cells 24 [dI (max a0.c a1.c), dA 8 s2.1]), (4, .cells 22 [dS ((s2.2.1.drop (1 : Int).toNat) : List LV)]), (5, .cells 22 [dS ((s2.2.2.drop (1 : Int).toNat) : List LV)]), (6, .obj (.deferred (some []))), (7, .loop .ready none [(4, .v (.one (.ptr 2 0))), (6, .v (.one (.ptr 3 0))), (27, .v (.one (.fn 78 [(4, 0), (5, 0)])))] 39 #[28] m24_c0 m24_c1 6), (9, .cells 69 [dI x38.1, dI (max x39.2 x40.2)])], [(8, some ⟨69, 2, (Enc.encL s2.1).length⟩)], 10, 80, []⟩) (stle (tR rfl (tR rfl (tR rfl (tR rfl tZ)))) (hR rfl (hR rfl (hR rfl (hR rfl (hR rfl (hR rfl (hR rfl (hR rfl (hR rfl hZ))))))))) (kR rfl kZ) rfl (Nat.le_trans hv1 (lb rfl)) rfl rfl rfl (bB rfl rfl (bB rfl rfl (bB rfl rfl (bB rfl rfl (bB rfl rfl (bB rfl rfl (bB rfl rfl (bB rfl rfl (bB rfl rfl bZ))))))))) rfl rfl) <| XQ.inBlock <| XQ.seq <| XC.seq <| XC.region <| rM rfl rfl rfl <| rR rfl rfl rfl (RO.loadOwnAgg ag_69 rfl rfl rfl rfl) ?_
            refine bindK h2 (fun y43 h3 h2 => ?_)
            have ha44 : ExecOK Tryz.prog (some 7) m24_c0 ⟨[(4, .v (.one (.ptr 2 0))), (6, .v (.one (.ptr 3 0))), (27, .v (.one (.fn 78 [(4, 0), (5, 0)]))), (28, .v (.agg [dI x38.1, dI (max x39.2 x40.2)]))], [(0, .cells 24 (cE a0)), (1, .cells 24 (cE a1)), (2, .cells 24 [dI 0, dN]), (3, .cells 24 [dI (max a0.c a1.c), dA 8 s2.1]), (4, .cells 22 [dS ((s2.2.1.drop (1 : Int).toNat) : List LV)]), (5, .cells 22 [dS ((s2.2.2.drop (1 : Int).toNat) : List LV)]), (6, .obj (.deferred (some []))), (7, .loop .ready none [(4, .v (.one (.ptr 2 0))), (6, .v (.one (.ptr 3 0))), (27, .v (.one (.fn 78 [(4, 0), (5, 0)])))] 39 #[28] m24_c0 m24_c1 6), (9, .cells 69 [dI x38.1, dI (max x39.2 x40.2)])], [(8, some ⟨69, 2, (Enc.encL s2.1).length⟩)], 10, 39, []⟩ .normal ⟨[(6, .v (.one (.ptr 3 0))), (7, .v (.one (.ptr 10 0)))], [(0, .cells 24 (cE a0)), (1, .cells 24 (cE a1)), (2, .cells 24 [dI 0, dN]), (3, .cells 24 [dI (max a0.c a1.c), dA 8 s2.1]), (4, .cells 22 [dS ((s2.2.1.drop (1 : Int).toNat) : List LV)]), (5, .cells 22 [dS ((s2.2.2.drop (1 : Int).toNat) : List LV)]), (6, .obj (.deferred (some []))), (7, .loop .ready none [(4, .v (.one (.ptr 2 0))), (6, .v (.one (.ptr 3 0))), (27, .v (.one (.fn 78 [(4, 0), (5, 0)])))] 39 #[28] m24_c0 m24_c1 6), (9, .cells 69 [dI x38.1, dI (max x39.2 x40.2)]), (10, .cells 69 [dI x38.1, dI (max x39.2 x40.2)])], [(8, some ⟨69, 2, (Enc.encL s2.1).length⟩)], 11, 39, []⟩ := by
             refine ExecOK.walk (fun w0 M V0 ro n Q hv3 hro3 hQn3 => ?_)
             refine XC.region <| XL.put rfl rfl (lb rfl) (OpOK.alloc z_69 rfl) <| XL.eff rfl rfl (OpOK.store ag_69 rfl rfl rfl rfl (lb rfl) rfl) <| XL.nil ?_
             exact XQ.of hQn3 (stle (tR rfl (tR rfl tZ)) (hR rfl (hR rfl (hR rfl (hR rfl (hR rfl (hR rfl (hR rfl (hR rfl (hR rfl (hR rfl hZ)))))))))) (kR rfl kZ) rfl (Nat.le_trans hv3 (lb rfl)) rfl rfl rfl (bB rfl rfl (bB rfl rfl (bB rfl rfl (bB rfl rfl (bB rfl rfl (bB rfl rfl (bB rfl rfl (bB rfl rfl (bB rfl rfl (bB rfl rfl bZ)))))))))) rfl rfl)
            have hb45 : ExecOK Tryz.prog (some 7) m24_c1 ⟨[(6, .v (.one (.ptr 3 0))), (7, .v (.one (.ptr 10 0)))], [(0, .cells 24 (cE a0)), (1, .cells 24 (cE a1)), (2, .cells 24 [dI 0, dN]), (3, .cells 24 [dI (max a0.c a1.c), dA 8 s2.1]), (4, .cells 22 [dS ((s2.2.1.drop (1 : Int).toNat) : List LV)]), (5, .cells 22 [dS ((s2.2.2.drop (1 : Int).toNat) : List LV)]), (6, .obj (.deferred (some []))), (7, .loop .busy none [(4, .v (.one (.ptr 2 0))), (6, .v (.one (.ptr 3 0))), (27, .v (.one (.fn 78 [(4, 0), (5, 0)])))] 39 #[28] m24_c0 m24_c1 6), (9, .cells 69 [dI x38.1, dI (max x39.2 x40.2)]), (10, .cells 69 [dI x38.1, dI (max x39.2 x40.2)])], [(8, some ⟨69, 2, (Enc.encL s2.1).length⟩)], 11, 39, []⟩ .normal ⟨[], [(0, .cells 24 (cE a0)), (1, .cells 24 (cE a1)), (2, .cells 24 [dI 0, dN]), (3, .cells 24 [dI (max a0.c a1.c), dA 8 ((s2.1 ++ ([(x38.1, (max x39.2 x40.2))])) : List LV)]), (4, .cells 22 [dS ((s2.2.1.drop (1 : Int).toNat) : List LV)]), (5, .cells 22 [dS ((s2.2.2.drop (1 : Int).toNat) : List LV)]), (6, .obj (.deferred (some []))), (7, .loop .busy none [(4, .v (.one (.ptr 2 0))), (6, .v (.one (.ptr 3 0))), (27, .v (.one (.fn 78 [(4, 0), (5, 0)])))] 39 #[28] m24_c0 m24_c1 6), (9, .cells 69 [dI x38.1, dI (max x39.2 x40.2)])], [(8, some ⟨69, 2, (Enc.encL ((s2.1 ++ ([(x38.1, (max x39.2 x40.2))])) : List LV)).length⟩)], 12, 39, []⟩ := by
             refine ExecOK.walk (fun w0 M V0 ro n Q hv3 hro3 hQn3 => ?_)
             refine XC.block <| XC.region <| rR rfl rfl rfl (RO.fieldOwn fo_24_1 rfl) <| rR rfl rfl rfl (RO.loadOwn ag_22 rfl rfl rfl) <| rR rfl rfl rfl (RO.loadOwnAgg ag_69 rfl rfl rfl rfl) <| XL.put rfl rfl (lb rfl) (OpOK.lit1E (α := LV) ((x38.1, (max x39.2 x40.2))) sl_22 z_69 rfl rfl (lb rfl) (lb rfl) rfl rfl (.cons (.d _) (.cons (.d _) .nil)) rfl) ?_
             refine guardK h3 (fun g46 h3 => ?_)
             refine XL.put rfl rfl (lb rfl) (OpOK.appendE (α := LV) sl_22 el_69 rfl rfl rfl rfl rfl (.app _ _) g46) <| rR rfl rfl rfl (RO.fieldOwn fo_24_1 rfl) <| XL.eff rfl rfl (OpOK.store ag_22 rfl rfl rfl rfl (lb rfl) rfl) <| XL.nil <| XQ.inBlock ?_
             have e_ := Option.some.inj h3
             subst e_
             exact XQ.of hQn3 (stle tZ (hR rfl (hR rfl (hR rfl (hR rfl (hR rfl (hR rfl (hR rfl (hR rfl (hR rfl hZ))))))))) (kR rfl kZ) rfl (Nat.le_trans hv3 (lb rfl)) rfl rfl rfl (bB rfl rfl (bB rfl rfl (bB rfl rfl (bB rfl rfl (bB rfl rfl (bB rfl rfl (bB rfl rfl (bB rfl rfl (bB rfl rfl bZ))))))))) rfl rfl)
            refine XL.put rfl rfl (lb rfl) (OpOK.yield (jump := none) rfl rfl rfl rfl rfl (ExecOK.from ha44 (fun E hv => (stle (tR rfl (tR rfl (tR rfl (tR rfl tZ)))) (hR rfl (hR rfl (hR rfl (hR rfl (hR rfl (hR rfl (hR rfl (hR rfl (hR rfl hZ))))))))) (kR rfl kZ) rfl (Nat.le_trans hv (lb rfl)) rfl rfl rfl (bB rfl rfl (bB rfl rfl (bB rfl rfl (bB rfl rfl (bB rfl rfl (bB rfl rfl (bB rfl rfl (bB rfl rfl (bB rfl rfl bZ))))))))) rfl rfl))) rfl (ExecOK.from hb45 (fun E hv => (stle (tR rfl (tR rfl tZ)) (hR rfl (hR rfl (hR rfl (hR rfl (hR rfl (hR rfl (hR rfl (hR rfl (hR rfl (hR rfl hZ)))))))))) (kR rfl kZ) rfl (Nat.le_trans hv (lb rfl)) rfl rfl rfl (bB rfl rfl (bB rfl rfl (bB rfl rfl (bB rfl rfl (bB rfl rfl (bB rfl rfl (bB rfl rfl (bB rfl rfl (bB rfl rfl (bB rfl rfl bZ)))))))))) rfl rfl))) rfl rfl) ?_
            refine rR rfl rfl rfl (RO.not rfl) <| XL.nil <| XQ.seq ?_
            refine XC.cond rfl (fun h => nomatch h) (fun _ => ?_)
            refine XC.skip <| XQ.inBlock ?_
            have e_ := Option.some.inj h2
            subst e_
            refine XQ.nextM ((s2.1 ++ ([(x38.1, (max x39.2 x40.2))])), (s2.2.1.drop (1 : Int).toNat), (s2.2.2.drop (1 : Int).toNat)) (stle (tR rfl (tR rfl (tR rfl tZ))) (hR rfl (hR rfl (hR rfl (hR rfl (hR rfl (hR rfl (hR rfl (hR rfl hZ)))))))) (kR rfl kZ) rfl (Nat.le_trans hv1 (lb rfl)) rfl rfl rfl (bB rfl rfl (bB rfl rfl (bB rfl rfl (bB rfl rfl (bB rfl rfl (bB rfl rfl (bB rfl rfl (bB rfl rfl bZ)))))))) rfl rfl) ho2
       ·
        replace h2 := condF c14 h2
        refine XC.exit <| XQ.thenE <| XQ.thenE ?_
        have e_ := Option.some.inj h2
        subst e_
        have e_ : _ = _ := ho2
        subst e_
        exact XQ.joinX (s2.1, s2.2.1, s2.2.2) (stle tZ (hR rfl (hR rfl (hR rfl (hR rfl (hR rfl (hR rfl (hR rfl (hR rfl hZ)))))))) (kR rfl kZ) rfl (Nat.le_trans hv1 (lb rfl)) rfl rfl rfl (bB rfl rfl (bB rfl rfl (bB rfl rfl (bB rfl rfl (bB rfl rfl (bB rfl rfl (bB rfl rfl (bB rfl rfl bZ)))))))) rfl rfl) h1
     ·
      intro o10 h1
      refine XQ.blockX ?_
      have e_ := Option.some.inj h1
      subst e_
      exact hQ1 _ _ _ (.inl rfl) rfl (stle tZ (hR rfl (hR rfl (hR rfl (hR rfl (hR rfl (hR rfl (hR rfl (hR rfl hZ)))))))) (kR rfl kZ) rfl (Nat.le_trans hv1 (lb rfl)) rfl rfl rfl (bB rfl rfl (bB rfl rfl (bB rfl rfl (bB rfl rfl (bB rfl rfl (bB rfl rfl (bB rfl rfl (bB rfl rfl bZ)))))))) rfl rfl)
    refine XC.exec (rangeFunc_out (e := .normal) rfl hc9 rfl (by intro h; cases h) rfl) rfl ?_
    refine XQ.inBlock <| XQ.seq <| XC.seq <| XC.region <| rR rfl rfl rfl (RO.loadOwnAgg ag_24 rfl rfl rfl rfl) ?_
    refine guardK h0 (fun g47 h0 => ?_)
    refine XL.put rfl rfl (lb rfl) (OpOK.callFun (limited_fun (⟨(max a0.c a1.c), y8.1⟩ : Lvl) (Nat.le_of_ble_eq_true g47)) rfl (.cons (.agg (.cons (.d _) (.cons (.app _ _ _) .nil))) .nil)) ?_
    refine rR rfl rfl rfl (RO.extract rfl rfl) <| rR rfl rfl rfl (RO.extract rfl rfl) <| XL.eff rfl rfl (OpOK.store ag_24 rfl rfl rfl rfl (lb rfl) rfl) <| rA rfl rfl rfl <| XL.nil <| XQ.seq <| XC.ret ?_
    have e_ := Option.some.inj h0
    subst e_
    exact XQ.retF (fun _ _ h => h) rfl (RAs.agg ag_24 rfl rfl rfl rfl (RAs.tmp rfl .nil)) (.cons (.agg (.cons (.d _) (.cons (.d _) .nil))) (.cons (.one (.d _)) .nil))
end Go.Proofs.YtcapifnaceegmaaGreatDoor
