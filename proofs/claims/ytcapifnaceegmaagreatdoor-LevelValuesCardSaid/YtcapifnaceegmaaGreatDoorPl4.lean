/- Mirrors of layer 1: Max. Plain laws of layer 1: Max. Mirrors of layer 1: Plus. Mirrors of layer 1: the law of Plus and Max. Plain laws of layer 1: Plus; the law of Plus and Max. -/
import Derived.Test.YtcapifnaceegmaaGreatDoorMa
import Derived.Test.YtcapifnaceegmaaGreatDoorPa
import Derived.Test.YtcapifnaceegmaaGreatDoorAw
import Derived.Test.YtcapifnaceegmaaGreatDoorFd
import Derived.Test.YtcapifnaceegmaaGreatDoorPb
namespace Go.Proofs.YtcapifnaceegmaaGreatDoor
section
open Go.RowKit Go.Shelf
set_option linter.unusedSimpArgs false
set_option linter.unusedVariables false

theorem en_24 : Enters Tryz.prog 24 := enters_of Tryz.func24 (by kernel_rfl) rfl
theorem en_50 : Enters Tryz.prog 50 := enters_of Tryz.func50 (by kernel_rfl) rfl
theorem en_78 : Enters Tryz.prog 78 := enters_of Tryz.func78 (by kernel_rfl) rfl
noncomputable def m24_c0 : Code := (cA (cA (cB (cA (cB (cB (cB (bodyC Tryz.f24))))))))

noncomputable def m24_c1 : Code := (cB (cA (cB (cA (cB (cB (cB (bodyC Tryz.f24))))))))

def m24_l0  (s2 : (List LV) × (List LV) × (List LV)) : Option (LO ((List LV) × (List LV) × (List LV)) (((List LV) × (List LV) × (List LV)))) :=
  Option.bind (cond (decide (0 < (s2.2.1.length : Int)))
    (some true)
    (some (decide (0 < (s2.2.2.length : Int))))) (fun (v8 : Bool) => cond v8
    (Option.bind (cond ((s2.2.2.length : Int) == 0)
    (some true)
    (cond (decide (0 < (s2.2.1.length : Int)))
    (Option.bind (idx s2.2.1 0) fun (x13 : LV) =>
  Option.bind (idx s2.2.2 0) fun (x14 : LV) =>
  some (decide (x13.1 < x14.1)))
    (some false))) (fun (v10 : Bool) => cond v10
    (Option.bind (idx s2.2.1 0) fun (x12 : LV) =>
  guardO (cond (decide (0 ≤ (1 : Int))) (Nat.ble (1 : Int).toNat s2.2.1.length) false)
  (Option.bind (guardO (Nat.ble (s2.1.length + ([x12]).length) 1000000000)
  (some ())) (fun (y14 : Unit) => some (.next ((s2.1 ++ ([x12])), (s2.2.1.drop (1 : Int).toNat), s2.2.2)))))
    (Option.bind (cond ((s2.2.1.length : Int) == 0)
    (some true)
    (Option.bind (idx s2.2.2 0) fun (x20 : LV) =>
  Option.bind (idx s2.2.1 0) fun (x21 : LV) =>
  some (decide (x20.1 < x21.1)))) (fun (v18 : Bool) => cond v18
    (Option.bind (idx s2.2.2 0) fun (x20 : LV) =>
  guardO (cond (decide (0 ≤ (1 : Int))) (Nat.ble (1 : Int).toNat s2.2.2.length) false)
  (Option.bind (guardO (Nat.ble (s2.1.length + ([x20]).length) 1000000000)
  (some ())) (fun (y22 : Unit) => some (.next ((s2.1 ++ ([x20])), s2.2.1, (s2.2.2.drop (1 : Int).toNat))))))
    (Option.bind (idx s2.2.1 0) fun (x26 : LV) =>
  Option.bind (idx s2.2.1 0) fun (x27 : LV) =>
  Option.bind (idx s2.2.2 0) fun (x28 : LV) =>
  guardO (cond (decide (0 ≤ (1 : Int))) (Nat.ble (1 : Int).toNat s2.2.1.length) false)
  (guardO (cond (decide (0 ≤ (1 : Int))) (Nat.ble (1 : Int).toNat s2.2.2.length) false)
  (Option.bind (guardO (Nat.ble (s2.1.length + ([(x26.1, (max x27.2 x28.2))]).length) 1000000000)
  (some ())) (fun (y31 : Unit) => some (.next ((s2.1 ++ ([(x26.1, (max x27.2 x28.2))])), (s2.2.1.drop (1 : Int).toNat), (s2.2.2.drop (1 : Int).toNat)))))))))))
    (some (.done (s2.1, s2.2.1, s2.2.2))))

/-- euclid/level.Max -/
def m24 (a0 : Lvl) (a1 : Lvl) : Option (Lvl × Int) :=
  Option.bind (guardO (Nat.ble a0.vs.length 100000)
  (cond (!(validB a0))
    (some true)
    (guardO (Nat.ble a1.vs.length 100000)
  (some (!(validB a1)))))) (fun (v1 : Bool) => cond v1
    (some ((⟨0, ([] : List LV)⟩ : Lvl), 3))
    (Option.bind (some ()) (fun (y3 : Unit) => Option.bind (Option.bind (loopN (m24_l0) FUEL (([] : List LV), a0.vs, a1.vs)) (fun (o7 : (List LV) × (List LV) × (List LV)) => some (o7.1, o7.2.1, o7.2.2))) (fun (y5 : (List LV) × (List LV) × (List LV)) => guardO (Nat.ble (⟨(max a0.c a1.c), y5.1⟩ : Lvl).vs.length 100000)
  (some (((limL (⟨(max a0.c a1.c), y5.1⟩ : Lvl)).1), (limL (⟨(max a0.c a1.c), y5.1⟩ : Lvl)).2))))))

set_option maxRecDepth 100000 in
set_option maxHeartbeats 8000000 in
theorem m24_ok (a0 : Lvl) (a1 : Lvl) (r : Lvl × Int) (h0 : m24 a0 a1 = some r) : Fun Tryz.prog 24 [.agg (cE a0), .agg (cE a1)] (resOf [.agg (cE r.1), .one (dI r.2)]) := by
  unfold m24 at h0
  refine Fun.of_bodyM 9 39 Tryz.func24 rfl en_24 rfl (lb rfl) (fun S w => ?_)
  simp only [entry]
  refine XC.seq <| XC.region <| XL.put rfl rfl (lb rfl) (OpOK.box rfl) <| XL.put rfl rfl (lb rfl) (OpOK.box rfl) <| XL.put rfl rfl (lb rfl) (OpOK.alloc z_24 rfl) <| rA rfl rfl rfl <| XL.nil <| XQ.seq <| XC.seq <| XC.seq ?_
  refine XC.joinR (fun (v1 : Bool) => ⟨[(2, .v (.one (.ptr 0 0))), (3, .v (.one (.ptr 1 0))), (4, .v (.one (.ptr 2 0))), (15, .v (.one (dB v1)))], [(0, .cells 24 (cE a0)), (1, .cells 24 (cE a1)), (2, .cells 24 [dI 0, dN])], [], 3, 39, []⟩) (fun (v1 : Bool) => (cond v1
      (some ((⟨0, ([] : List LV)⟩ : Lvl), 3))
      (Option.bind (some ()) (fun (y3 : Unit) => Option.bind (Option.bind (loopN (m24_l0) FUEL (([] : List LV), a0.vs, a1.vs)) (fun (o7 : (List LV) × (List LV) × (List LV)) => some (o7.1, o7.2.1, o7.2.2))) (fun (y5 : (List LV) × (List LV) × (List LV)) => guardO (Nat.ble (⟨(max a0.c a1.c), y5.1⟩ : Lvl).vs.length 100000)
    (some (((limL (⟨(max a0.c a1.c), y5.1⟩ : Lvl)).1), (limL (⟨(max a0.c a1.c), y5.1⟩ : Lvl)).2)))))) = some r) ?_ ?_
  ·
   refine bindK h0 (fun v_ h1 h0 => ?_)
   refine XC.region <| rR rfl rfl rfl (RO.loadOwnAgg ag_24 rfl rfl rfl rfl) ?_
   refine guardK h1 (fun g2 h1 => ?_)
   refine XL.put rfl rfl (lb rfl) (OpOK.callFun (valid_fun a0 (Nat.le_of_ble_eq_true g2)) rfl (.cons (.agg (.cons (.d _) (.cons (.d _) .nil))) .nil)) ?_
   refine rR rfl rfl rfl (RO.not rfl) <| rM rfl rfl rfl ?_
   refine XL.case (d := 11) (c := (!(validB a0))) rfl (fun c3 => ?_) (fun c3 => ?_)
   ·
    replace h1 := condT c3 h1
    refine XL.no rfl rfl <| XL.no rfl rfl <| XL.no rfl rfl <| rR rfl rfl rfl (RO.pickT rfl rfl) <| XL.nil ?_
    have e_ := Option.some.inj h1
    subst e_
    exact XQ.joinR true (stle (tR rfl (tR rfl (tR rfl (tR rfl tZ)))) (hR rfl (hR rfl (hR rfl hZ))) kZ rfl (Nat.zero_le _) rfl rfl rfl (bB rfl rfl (bB rfl rfl (bB rfl rfl bZ))) rfl rfl) h0
   ·
    replace h1 := condF c3 h1
    refine rR rfl rfl rfl (RO.loadOwnAgg ag_24 rfl rfl rfl rfl) ?_
    refine guardK h1 (fun g4 h1 => ?_)
    refine XL.put rfl rfl (lb rfl) (OpOK.callFun (valid_fun a1 (Nat.le_of_ble_eq_true g4)) rfl (.cons (.agg (.cons (.d _) (.cons (.d _) .nil))) .nil)) ?_
    refine rR rfl rfl rfl (RO.not rfl) <| rR rfl rfl rfl (RO.pickF rfl rfl) <| XL.nil ?_
    have e_ := Option.some.inj h1
    subst e_
    exact XQ.joinR (!(validB a1)) (stle (tR rfl (tR rfl (tR rfl (tR rfl tZ)))) (hR rfl (hR rfl (hR rfl hZ))) kZ rfl (Nat.zero_le _) rfl rfl rfl (bB rfl rfl (bB rfl rfl (bB rfl rfl bZ))) rfl rfl) h0
  ·
   intro v1 h0
   refine XQ.seq ?_
   refine XC.cond (b := v1) rfl (fun c5 => ?_) (fun c5 => ?_)
   ·
    replace h0 := condT c5 h0
    refine XC.seq <| XC.region <| rR rfl rfl rfl (RO.build0 bd_24 rfl ) <| XL.eff rfl rfl (OpOK.store ag_24 rfl rfl rfl rfl (lb rfl) rfl) <| rA rfl rfl rfl <| XL.nil <| XQ.seq <| XC.ret ?_
    have e_ := Option.some.inj h0
    subst e_
    exact XQ.retF (fun _ _ h => h) rfl (RAs.agg ag_24 rfl rfl rfl rfl (RAs.tmp rfl .nil)) (.cons (.agg (.cons (.d _) (.cons (.nil _) .nil))) (.cons (.one (.d _)) .nil))
   ·
    replace h0 := condF c5 h0
    refine XC.skip <| XQ.seq <| XC.seq <| XC.region <| rR rfl rfl rfl (RO.fieldOwn fo_24_0 rfl) <| rR rfl rfl rfl (RO.loadOwn ag_3 rfl rfl rfl) <| rR rfl rfl rfl (RO.fieldOwn fo_24_0 rfl) <| rR rfl rfl rfl (RO.loadOwn ag_3 rfl rfl rfl) <| rR rfl rfl rfl (RO.max2 rfl rfl) <| rR rfl rfl rfl (RO.build1 bd_24 rfl rfl rfl) <| XL.put rfl rfl (lb rfl) (OpOK.alloc z_24 rfl) <| XL.eff rfl rfl (OpOK.store ag_24 rfl rfl rfl rfl (lb rfl) rfl) <| XL.nil <| XQ.seq ?_
    refine XC.seq <| XC.seq <| XC.region <| rR rfl rfl rfl (RO.fieldOwn fo_24_1 rfl) <| rR rfl rfl rfl (RO.loadOwn ag_22 rfl rfl rfl) <| rR rfl rfl rfl (RO.fieldOwn fo_24_1 rfl) <| rR rfl rfl rfl (RO.loadOwn ag_22 rfl rfl rfl) ?_
    refine bindK h0 (fun y6 h1 h0 => ?_)
    have hc7 : CallM Tryz.prog 50 [.one (dS a0.vs), .one (dS a1.vs)] ⟨[(0, .cells 24 (cE a0)), (1, .cells 24 (cE a1)), (2, .cells 24 [dI 0, dN]), (3, .cells 24 [dI (max a0.c a1.c), dN])], [], 4⟩ (resOf [.one (.fn 78 [(4, 0), (5, 0)])]) ⟨[(0, .cells 24 (cE a0)), (1, .cells 24 (cE a1)), (2, .cells 24 [dI 0, dN]), (3, .cells 24 [dI (max a0.c a1.c), dN]), (4, .cells 22 [dS a0.vs]), (5, .cells 22 [dS a1.vs])], [], 6⟩ := by
     refine CallM.of_bodyD ⟨[(4, .v (.one (.fn 78 [(4, 0), (5, 0)])))], [(0, .cells 24 (cE a0)), (1, .cells 24 (cE a1)), (2, .cells 24 [dI 0, dN]), (3, .cells 24 [dI (max a0.c a1.c), dN]), (4, .cells 22 [dS a0.vs]), (5, .cells 22 [dS a1.vs])], [], 6, 6, []⟩ rfl rfl en_50 (lb rfl) rfl (RAs.tmp rfl .nil) (fun w0 M V0 Q hv1 hQ1 => ?_)
     simp only [entry]
     refine XC.seq <| XC.region <| XL.put rfl rfl (lb rfl) (OpOK.box rfl) <| XL.put rfl rfl (lb rfl) (OpOK.box rfl) <| rA rfl rfl rfl <| XL.nil <| XQ.seq <| XC.seq <| XC.region <| rR rfl rfl rfl (RO.makeFunc2 rfl rfl) <| rA rfl rfl rfl <| XL.nil <| XQ.seq <| XC.ret ?_
     have e_ := Option.some.inj h1
     subst e_
     exact hQ1 _ _ _ (.inr rfl) rfl (stle (tR rfl tZ) (hR rfl (hR rfl (hR rfl (hR rfl (hR rfl (hR rfl hZ)))))) kZ rfl (Nat.le_trans hv1 (lb rfl)) rfl rfl rfl (bB rfl rfl (bB rfl rfl (bB rfl rfl (bB rfl rfl (bB rfl rfl (bB rfl rfl bZ)))))) rfl rfl)
    refine XL.put rfl rfl (lb rfl) (OpOK.callW rfl rfl rfl hc7 rfl (hR rfl (hR rfl (hR rfl (hR rfl hZ)))) kZ) <| XL.nil <| XQ.seq <| XC.block <| XC.less (st' := ⟨[(4, .v (.one (.ptr 2 0))), (6, .v (.one (.ptr 3 0))), (27, .v (.one (.fn 78 [(4, 0), (5, 0)])))], [(0, .cells 24 (cE a0)), (1, .cells 24 (cE a1)), (2, .cells 24 [dI 0, dN]), (3, .cells 24 [dI (max a0.c a1.c), dN]), (4, .cells 22 [dS a0.vs]), (5, .cells 22 [dS a1.vs])], [], 6, 39, []⟩) (stle (tR rfl (tR rfl (tR rfl tZ))) (hR rfl (hR rfl (hR rfl (hR rfl (hR rfl (hR rfl hZ)))))) kZ rfl (Nat.zero_le _) rfl rfl rfl (bB rfl rfl (bB rfl rfl (bB rfl rfl (bB rfl rfl (bB rfl rfl (bB rfl rfl bZ)))))) rfl rfl) ?_
    refine bindK h0 (fun y8 h1 h0 => ?_)
    have hc9 : CallM Tryz.prog 78 [.one (.yld 7), .one (.ptr 4 0), .one (.ptr 5 0)] ⟨[(7, .loop .ready none [(4, .v (.one (.ptr 2 0))), (6, .v (.one (.ptr 3 0))), (27, .v (.one (.fn 78 [(4, 0), (5, 0)])))] 39 #[28] m24_c0 m24_c1 6), (6, .obj (.deferred (some []))), (0, .cells 24 (cE a0)), (1, .cells 24 (cE a1)), (2, .cells 24 [dI 0, dN]), (3, .cells 24 [dI (max a0.c a1.c), dN]), (4, .cells 22 [dS a0.vs]), (5, .cells 22 [dS a1.vs])], [], 8⟩ (resOf []) ⟨[(0, .cells 24 (cE a0)), (1, .cells 24 (cE a1)), (2, .cells 24 [dI 0, dN]), (3, .cells 24 [dI (max a0.c a1.c), dA 8 y8.1]), (4, .cells 22 [dS y8.2.1]), (5, .cells 22 [dS y8.2.2]), (6, .obj (.deferred (some []))), (7, .loop .ready none [(4, .v (.one (.ptr 2 0))), (6, .v (.one (.ptr 3 0))), (27, .v (.one (.fn 78 [(4, 0), (5, 0)])))] 39 #[28] m24_c0 m24_c1 6)], [(8, some ⟨69, 2, (Enc.encL y8.1).length⟩)], 9⟩ := by
     refine CallM.of_bodyD ⟨[], [(0, .cells 24 (cE a0)), (1, .cells 24 (cE a1)), (2, .cells 24 [dI 0, dN]), (3, .cells 24 [dI (max a0.c a1.c), dA 8 y8.1]), (4, .cells 22 [dS y8.2.1]), (5, .cells 22 [dS y8.2.2]), (6, .obj (.deferred (some []))), (7, .loop .ready none [(4, .v (.one (.ptr 2 0))), (6, .v (.one (.ptr 3 0))), (27, .v (.one (.fn 78 [(4, 0), (5, 0)])))] 39 #[28] m24_c0 m24_c1 6)], [(8, some ⟨69, 2, (Enc.encL y8.1).length⟩)], 9, 80, []⟩ rfl rfl en_78 (lb rfl) rfl .nil (fun w0 M V0 Q hv1 hQ1 => ?_)
     simp only [entry]
     refine XC.block ?_
     refine XC.joinX 0 (fun (o10 : (List LV) × (List LV) × (List LV)) => ⟨[], [(0, .cells 24 (cE a0)), (1, .cells 24 (cE a1)), (2, .cells 24 [dI 0, dN]), (3, .cells 24 [dI (max a0.c a1.c), dA 8 o10.1]), (4, .cells 22 [dS o10.2.1]), (5, .cells 22 [dS o10.2.2]), (6, .obj (.deferred (some []))), (7, .loop .ready none [(4, .v (.one (.ptr 2 0))), (6, .v (.one (.ptr 3 0))), (27, .v (.one (.fn 78 [(4, 0), (5, 0)])))] 39 #[28] m24_c0 m24_c1 6)], [(8, some ⟨69, 2, (Enc.encL o10.1).length⟩)], 9, 80, []⟩) (fun (o10 : (List LV) × (List LV) × (List LV)) => (some (o10.1, o10.2.1, o10.2.2)) = some y8) ?_ ?_
     ·
      refine XC.adoptC (i := 3) (off := 1) 69 2 rfl rfl ?_
      refine bindK h1 (fun o11 hl2 h1 => ?_)
      refine XC.loopM (m24_l0) (fun s2 => ⟨[(0, .v (.one (.yld 7))), (1, .v (.one (.ptr 4 0))), (2, .v (.one (.ptr 5 0)))], [(0, .cells 24 (cE a0)), (1, .cells 24 (cE a1)), (2, .cells 24 [dI 0, dN]), (3, .cells 24 [dI (max a0.c a1.c), dA 8 s2.1]), (4, .cells 22 [dS s2.2.1]), (5, .cells 22 [dS s2.2.2]), (6, .obj (.deferred (some []))), (7, .loop .ready none [(4, .v (.one (.ptr 2 0))), (6, .v (.one (.ptr 3 0))), (27, .v (.one (.fn 78 [(4, 0), (5, 0)])))] 39 #[28] m24_c0 m24_c1 6)], [(8, some ⟨69, 2, (Enc.encL s2.1).length⟩)], 9, 80, []⟩) (([] : List LV), a0.vs, a1.vs) o11 (stle (tR rfl (tR rfl (tR rfl tZ))) (hR rfl (hR rfl (hR rfl (hR rfl (hR rfl (hR rfl (hR rfl (hR rfl hZ)))))))) (kR rfl kZ) rfl (Nat.le_trans hv1 (lb rfl)) rfl rfl rfl (bB rfl rfl (bB rfl rfl (bB rfl rfl (bB rfl rfl (bB rfl rfl (bB rfl rfl (bB rfl rfl (bB rfl rfl bZ)))))))) rfl rfl) hl2 (fun s2 n2 oo2 h2 ho2 => ?_)
      unfold m24_l0 at h2
      refine XC.seq <| XC.seq ?_
      refine XC.joinR (fun (v12 : Bool) => ⟨[(0, .v (.one (.yld 7))), (1, .v (.one (.ptr 4 0))), (2, .v (.one (.ptr 5 0))), (12, .v (.one (dB v12)))], [(0, .cells 24 (cE a0)), (1, .cells 24 (cE a1)), (2, .cells 24 [dI 0, dN]), (3, .cells 24 [dI (max a0.c a1.c), dA 8 s2.1]), (4, .cells 22 [dS s2.2.1]), (5, .cells 22 [dS s2.2.2]), (6, .obj (.deferred (some []))), (7, .loop .ready none [(4, .v (.one (.ptr 2 0))), (6, .v (.one (.ptr 3 0))), (27, .v (.one (.fn 78 [(4, 0), (5, 0)])))] 39 #[28] m24_c0 m24_c1 6)], [(8, some ⟨69, 2, (Enc.encL s2.1).length⟩)], 9, 80, []⟩) (fun (v12 : Bool) => (cond v12
          (Option.bind (cond ((s2.2.2.length : Int) == 0)
          (some true)
          (cond (decide (0 < (s2.2.1.length : Int)))
          (Option.bind (idx s2.2.1 0) fun (x17 : LV) =>
        Option.bind (idx s2.2.2 0) fun (x18 : LV) =>
        some (decide (x17.1 < x18.1)))
          (some false))) (fun (v14 : Bool) => cond v14
          (Option.bind (idx s2.2.1 0) fun (x16 : LV) =>
        guardO (cond (decide (0 ≤ (1 : Int))) (Nat.ble (1 : Int).toNat s2.2.1.length) false)
        (Option.bind (guardO (Nat.ble (s2.1.length + ([x16]).length) 1000000000)
        (some ())) (fun (y18 : Unit) => some (.next ((s2.1 ++ ([x16])), (s2.2.1.drop (1 : Int).toNat), s2.2.2)))))
          (Option.bind (cond ((s2.2.1.length : Int) == 0)
          (some true)
          (Option.bind (idx s2.2.2 0) fun (x24 : LV) =>
        Option.bind (idx s2.2.1 0) fun (x25 : LV) =>
        some (decide (x24.1 < x25.1)))) (fun (v22 : Bool) => cond v22
          (Option.bind (idx s2.2.2 0) fun (x24 : LV) =>
        guardO (cond (decide (0 ≤ (1 : Int))) (Nat.ble (1 : Int).toNat s2.2.2.length) false)
        (Option.bind (guardO (Nat.ble (s2.1.length + ([x24]).length) 1000000000)
        (some ())) (fun (y26 : Unit) => some (.next ((s2.1 ++ ([x24])), s2.2.1, (s2.2.2.drop (1 : Int).toNat))))))
          (Option.bind (idx s2.2.1 0) fun (x30 : LV) =>
        Option.bind (idx s2.2.1 0) fun (x31 : LV) =>
        Option.bind (idx s2.2.2 0) fun (x32 : LV) =>
        guardO (cond (decide (0 ≤ (1 : Int))) (Nat.ble (1 : Int).toNat s2.2.1.length) false)
        (guardO (cond (decide (0 ≤ (1 : Int))) (Nat.ble (1 : Int).toNat s2.2.2.length) false)
        (Option.bind (guardO (Nat.ble (s2.1.length + ([(x30.1, (max x31.2 x32.2))]).length) 1000000000)
        (some ())) (fun (y35 : Unit) => some (.next ((s2.1 ++ ([(x30.1, (max x31.2 x32.2))])), (s2.2.1.drop (1 : Int).toNat), (s2.2.2.drop (1 : Int).toNat)))))))))))
          (some (.done (s2.1, s2.2.1, s2.2.2)))) = some oo2) ?_ ?_
      ·
       refine bindK h2 (fun v_ h3 h2 => ?_)
       refine XC.region <| rR rfl rfl rfl (RO.loadOwn ag_22 rfl rfl rfl) <| rR rfl rfl rfl (RO.lenE (α := LV) sl_22 rfl (.d _)) <| rR rfl rfl rfl (RO.binInt rfl rfl rfl) <| rM rfl rfl rfl ?_
       refine XL.case (d := 8) (c := (decide (0 < (s2.2.1.length : Int)))) rfl (fun c13 => ?_) (fun c13 => ?_)
       ·
        replace h3 := condT c13 h3
        refine XL.no rfl rfl <| XL.no rfl rfl <| XL.no rfl rfl <| rR rfl rfl rfl (RO.pickT rfl rfl) <| XL.nil ?_
        have e_ := Option.some.inj h3
        subst e_
        exact XQ.joinR true (stle (tR rfl (tR rfl (tR rfl (tR rfl tZ)))) (hR rfl (hR rfl (hR rfl (hR rfl (hR rfl (hR rfl (hR rfl (hR rfl hZ)))))))) (kR rfl kZ) rfl (Nat.le_trans hv1 (lb rfl)) rfl rfl rfl (bB rfl rfl (bB rfl rfl (bB rfl rfl (bB rfl rfl (bB rfl rfl (bB rfl rfl (bB rfl rfl (bB rfl rfl bZ)))))))) rfl rfl) h2
       ·
        replace h3 := condF c13 h3
        refine rR rfl rfl rfl (RO.loadOwn ag_22 rfl rfl rfl) <| rR rfl rfl rfl (RO.lenE (α := LV) sl_22 rfl (.d _)) <| rR rfl rfl rfl (RO.binInt rfl rfl rfl) <| rR rfl rfl rfl (RO.pickF rfl rfl) <| XL.nil ?_
        have e_ := Option.some.inj h3
        subst e_
        exact XQ.joinR (decide (0 < (s2.2.2.length : Int))) (stle (tR rfl (tR rfl (tR rfl (tR rfl tZ)))) (hR rfl (hR rfl (hR rfl (hR rfl (hR rfl (hR rfl (hR rfl (hR rfl hZ)))))))) (kR rfl kZ) rfl (Nat.le_trans hv1 (lb rfl)) rfl rfl rfl (bB rfl rfl (bB rfl rfl (bB rfl rfl (bB rfl rfl (bB rfl rfl (bB rfl rfl (bB rfl rfl (bB rfl rfl bZ)))))))) rfl rfl) h2
      ·
       intro v12 h2
       refine XQ.seq ?_
       refine XC.cond (b := v12) rfl (fun c14 => ?_) (fun c14 => ?_)
       ·
        replace h2 := condT c14 h2
        refine XC.skip <| XQ.seq <| XC.block <| XC.seq <| XC.region <| XL.put rfl rfl (lb rfl) (OpOK.alloc z_69 rfl) <| XL.nil <| XQ.seq <| XC.seq <| XC.block <| XC.seq ?_
        refine XC.joinR (fun (v15 : Bool) => ⟨[(0, .v (.one (.yld 7))), (1, .v (.one (.ptr 4 0))), (2, .v (.one (.ptr 5 0))), (4, .v (.one (.ptr 9 0))), (31, .v (.one (dB v15)))], [(0, .cells 24 (cE a0)), (1, .cells 24 (cE a1)), (2, .cells 24 [dI 0, dN]), (3, .cells 24 [dI (max a0.c a1.c), dA 8 s2.1]), (4, .cells 22 [dS s2.2.1]), (5, .cells 22 [dS s2.2.2]), (6, .obj (.deferred (some []))), (7, .loop .ready none [(4, .v (.one (.ptr 2 0))), (6, .v (.one (.ptr 3 0))), (27, .v (.one (.fn 78 [(4, 0), (5, 0)])))] 39 #[28] m24_c0 m24_c1 6), (9, .cells 69 [dI 0, dI 0])], [(8, some ⟨69, 2, (Enc.encL s2.1).length⟩)], 10, 80, []⟩) (fun (v15 : Bool) => (cond v15
            (Option.bind (idx s2.2.1 0) fun (x17 : LV) =>
          guardO (cond (decide (0 ≤ (1 : Int))) (Nat.ble (1 : Int).toNat s2.2.1.length) false)
          (Option.bind (guardO (Nat.ble (s2.1.length + ([x17]).length) 1000000000)
          (some ())) (fun (y19 : Unit) => some (.next ((s2.1 ++ ([x17])), (s2.2.1.drop (1 : Int).toNat), s2.2.2)))))
            (Option.bind (cond ((s2.2.1.length : Int) == 0)
            (some true)
            (Option.bind (idx s2.2.2 0) fun (x25 : LV) =>
          Option.bind (idx s2.2.1 0) fun (x26 : LV) =>
          some (decide (x25.1 < x26.1)))) (fun (v23 : Bool) => cond v23
            (Option.bind (idx s2.2.2 0) fun (x25 : LV) =>
          guardO (cond (decide (0 ≤ (1 : Int))) (Nat.ble (1 : Int).toNat s2.2.2.length) false)
          (Option.bind (guardO (Nat.ble (s2.1.length + ([x25]).length) 1000000000)
          (some ())) (fun (y27 : Unit) => some (.next ((s2.1 ++ ([x25])), s2.2.1, (s2.2.2.drop (1 : Int).toNat))))))
            (Option.bind (idx s2.2.1 0) fun (x31 : LV) =>
          Option.bind (idx s2.2.1 0) fun (x32 : LV) =>
          Option.bind (idx s2.2.2 0) fun (x33 : LV) =>
          guardO (cond (decide (0 ≤ (1 : Int))) (Nat.ble (1 : Int).toNat s2.2.1.length) false)
          (guardO (cond (decide (0 ≤ (1 : Int))) (Nat.ble (1 : Int).toNat s2.2.2.length) false)
          (Option.bind (guardO (Nat.ble (s2.1.length + ([(x31.1, (max x32.2 x33.2))]).length) 1000000000)
          (some ())) (fun (y36 : Unit) => some (.next ((s2.1 ++ ([(x31.1, (max x32.2 x33.2))])), (s2.2.1.drop (1 : Int).toNat), (s2.2.2.drop (1 : Int).toNat)))))))))) = some oo2) ?_ ?_
        ·
         refine bindK h2 (fun v_ h3 h2 => ?_)
         refine XC.anyRun [] [] mixed (by kernel_rfl) (by kernel_rfl) (by kernel_rfl) ?_
         refine RunA.rd rfl rfl rfl (OpOK.of_ro (RO.loadOwn ag_22 rfl rfl rfl)) rfl <| RunA.rd rfl rfl rfl (OpOK.of_ro (RO.lenE (α := LV) sl_22 rfl (.d _))) rfl <| RunA.rd rfl rfl rfl (OpOK.of_ro (RO.binInt rfl rfl rfl)) rfl ?_
         refine RunA.case (c := ((s2.2.2.length : Int) == 0)) rfl rfl rfl (OpOK.of_ro (RO.move rfl)) rfl (fun c16 => ?_) (fun c16 => ?_)
         ·
          replace h3 := condT c16 h3
          refine RunA.no rfl rfl rfl rfl <| RunA.no rfl rfl rfl rfl <| RunA.no rfl rfl rfl rfl <| RunA.no rfl rfl rfl rfl <| RunA.no rfl rfl rfl rfl <| RunA.no rfl rfl rfl rfl <| RunA.no rfl rfl rfl rfl <| RunA.no rfl rfl rfl rfl <| RunA.no rfl rfl rfl rfl <| RunA.no rfl rfl rfl rfl <| RunA.no rfl rfl rfl rfl <| RunA.no rfl rfl rfl rfl <| RunA.no rfl rfl rfl rfl <| RunA.no rfl rfl rfl rfl ?_
          refine RunA.rd rfl rfl rfl (OpOK.of_ro (RO.pickT rfl rfl)) rfl <| RunA.rd rfl rfl rfl (OpOK.of_ro (RO.assign rfl)) rfl ?_
          refine RunA.nil ⟨?ex, _, _, rfl, ?_⟩
          case ex => exact trivial
          have e_ := Option.some.inj h3
          subst e_
          exact XQ.joinR true (stle (tR rfl (tR rfl (tR rfl (tR rfl (tR rfl tZ))))) (hR rfl (hR rfl (hR rfl (hR rfl (hR rfl (hR rfl (hR rfl (hR rfl (hR rfl hZ))))))))) (kR rfl kZ) rfl (Nat.le_trans hv1 (lb rfl)) rfl rfl rfl (bB rfl rfl (bB rfl rfl (bB rfl rfl (bB rfl rfl (bB rfl rfl (bB rfl rfl (bB rfl rfl (bB rfl rfl (bB rfl rfl bZ))))))))) rfl rfl) h2
         ·
          replace h3 := condF c16 h3
          refine RunA.rd rfl rfl rfl (OpOK.of_ro (RO.loadOwn ag_22 rfl rfl rfl)) rfl <| RunA.rd rfl rfl rfl (OpOK.of_ro (RO.lenE (α := LV) sl_22 rfl (.d _))) rfl <| RunA.rd rfl rfl rfl (OpOK.of_ro (RO.binInt rfl rfl rfl)) rfl ?_
          refine RunA.case (c := (decide (0 < (s2.2.1.length : Int)))) rfl rfl rfl (OpOK.of_ro (RO.move rfl)) rfl (fun c17 => ?_) (fun c17 => ?_)
          ·
           replace h3 := condT c17 h3
           refine RunA.rd rfl rfl rfl (OpOK.of_ro (RO.loadOwn ag_22 rfl rfl rfl)) rfl ?_
           refine bindK h3 (fun x18 hx18 h3 => ?_)
           refine RunA.rd rfl rfl rfl (OpOK.of_ro (RO.indexE (α := LV) sl_22 rfl (.d _) rfl hx18)) rfl <| RunA.rd rfl rfl rfl (OpOK.of_ro (RO.fieldPel fo_69_0 rfl)) rfl <| RunA.rd rfl rfl rfl (OpOK.of_ro (RO.loadPel ag_3 rfl rfl)) rfl <| RunA.rd rfl rfl rfl (OpOK.of_ro (RO.loadOwn ag_22 rfl rfl rfl)) rfl ?_
           refine bindK h3 (fun x19 hx19 h3 => ?_)
           refine RunA.rd rfl rfl rfl (OpOK.of_ro (RO.indexE (α := LV) sl_22 rfl (.d _) rfl hx19)) rfl <| RunA.rd rfl rfl rfl (OpOK.of_ro (RO.fieldPel fo_69_0 rfl)) rfl <| RunA.rd rfl rfl rfl (OpOK.of_ro (RO.loadPel ag_3 rfl rfl)) rfl <| RunA.rd rfl rfl rfl (OpOK.of_ro (RO.binInt rfl rfl rfl)) rfl <| RunA.rd rfl rfl rfl (OpOK.of_ro (RO.pickT rfl rfl)) rfl <| RunA.rd rfl rfl rfl (OpOK.of_ro (RO.pickF rfl rfl)) rfl <| RunA.rd rfl rfl rfl (OpOK.of_ro (RO.assign rfl)) rfl ?_
           refine RunA.nil ⟨?ex, _, _, rfl, ?_⟩
           case ex => exact trivial
           have e_ := Option.some.inj h3
           subst e_
           exact XQ.joinR (decide (x18.1 < x19.1)) (stle (tR rfl (tR rfl (tR rfl (tR rfl (tR rfl tZ))))) (hR rfl (hR rfl (hR rfl (hR rfl (hR rfl (hR rfl (hR rfl (hR rfl (hR rfl hZ))))))))) (kR rfl kZ) rfl (Nat.le_trans hv1 (lb rfl)) rfl rfl rfl (bB rfl rfl (bB rfl rfl (bB rfl rfl (bB rfl rfl (bB rfl rfl (bB rfl rfl (bB rfl rfl (bB rfl rfl (bB rfl rfl bZ))))))))) rfl rfl) h2
          ·
           replace h3 := condF c17 h3
           refine RunA.no rfl rfl rfl rfl <| RunA.no rfl rfl rfl rfl <| RunA.no rfl rfl rfl rfl <| RunA.no rfl rfl rfl rfl <| RunA.no rfl rfl rfl rfl <| RunA.no rfl rfl rfl rfl <| RunA.no rfl rfl rfl rfl <| RunA.no rfl rfl rfl rfl <| RunA.no rfl rfl rfl rfl <| RunA.rd rfl rfl rfl (OpOK.of_ro (RO.pickF rfl rfl)) rfl <| RunA.rd rfl rfl rfl (OpOK.of_ro (RO.pickF rfl rfl)) rfl <| RunA.rd rfl rfl rfl (OpOK.of_ro (RO.assign rfl)) rfl ?_
           refine RunA.nil ⟨?ex, _, _, rfl, ?_⟩
           case ex => exact trivial
           have e_ := Option.some.inj h3
           subst e_
           exact XQ.joinR false (stle (tR rfl (tR rfl (tR rfl (tR rfl (tR rfl tZ))))) (hR rfl (hR rfl (hR rfl (hR rfl (hR rfl (hR rfl (hR rfl (hR rfl (hR rfl hZ))))))))) (kR rfl kZ) rfl (Nat.le_trans hv1 (lb rfl)) rfl rfl rfl (bB rfl rfl (bB rfl rfl (bB rfl rfl (bB rfl rfl (bB rfl rfl (bB rfl rfl (bB rfl rfl (bB rfl rfl (bB rfl rfl bZ))))))))) rfl rfl) h2
        ·
         intro v15 h2
         refine XQ.seq ?_
         refine XC.cond (b := v15) rfl (fun c20 => ?_) (fun c20 => ?_)
         ·
          replace h2 := condT c20 h2
          refine XC.anyRun [5, 6] [(3, 1), (4, 1)] mixed (by kernel_rfl) (by kernel_rfl) (by kernel_rfl) ?_
          refine RunA.rd rfl rfl rfl (OpOK.of_ro (RO.loadOwn ag_22 rfl rfl rfl)) rfl ?_
          refine bindK h2 (fun x21 hx21 h2 => ?_)
          refine RunA.rd rfl rfl rfl (OpOK.of_ro (RO.indexE (α := LV) sl_22 rfl (.d _) rfl hx21)) rfl <| RunA.rd rfl rfl rfl (OpOK.of_ro (RO.loadPelAgg ag_69 rfl rfl rfl)) rfl <| RunA.rd rfl rfl rfl (OpOK.of_ro (RO.loadOwn ag_22 rfl rfl rfl)) rfl ?_
          refine guardK h2 (fun g22 h2 => ?_)
          refine RunA.rd rfl rfl rfl (OpOK.of_ro (RO.sliceFrom (α := LV) sl_22 rfl (.d _) rfl g22)) rfl <| RunA.eff rfl rfl rfl (OpOK.store ag_69 rfl rfl rfl rfl (lb rfl) rfl) rfl <| RunA.eff rfl rfl rfl (OpOK.store ag_22 rfl rfl rfl rfl (lb rfl) rfl) rfl ?_
          refine RunA.nil ⟨?ex, _, _, rfl, ?_⟩
          case ex => exact ⟨⟨_, rfl, _, _, rfl, rfl, rfl, .inl ⟨rfl, _, OpOK.of_ro (RO.loadOwn ag_22 rfl rfl rfl), rfl⟩⟩, ⟨_, rfl, _, _, rfl, rfl, rfl, .inl ⟨rfl, _, OpOK.of_ro (RO.sliceFrom (α := LV) sl_22 rfl (.d _) rfl g22), rfl⟩⟩, trivial⟩
          refine XQ.less (st' := ⟨[(0, .v (.one (.yld 7))), (1, .v (.one (.ptr 4 0))), (2, .v (.one (.ptr 5 0))), (4, .v (.one (.ptr 9 0)))], [(0, .cells 24 (cE a0)), (1, .cells 24 (cE a1)), (2, .cells 24 [dI 0, dN]), (3, .cells 24 [dI (max a0.c a1.c), dA 8 s2.1]), (4, .cells 22 [dS ((s2.2.1.drop (1 : Int).toNat) : List LV)]), (5, .cells 22 [dS s2.2.2]), (6, .obj (.deferred (some []))), (7, .loop .ready none [(4, .v (.one (.ptr 2 0))), (6, .v (.one (.ptr 3 0))), (27, .v (.one (.fn 78 [(4, 0), (5, 0)])))] 39 #[28] m24_c0 m24_c1 6), (9, .cells 69 (cE x21))], [(8, some ⟨69, 2, (Enc.encL s2.1).length⟩)], 10, 80, []⟩) (stle (tR rfl (tR rfl (tR rfl (tR rfl tZ)))) (hR rfl (hR rfl (hR rfl (hR rfl (hR rfl (hR rfl (hR rfl (hR rfl (hR rfl hZ))))))))) (kR rfl kZ) rfl (Nat.le_trans hv1 (lb rfl)) rfl rfl rfl (bB rfl rfl (bB rfl rfl (bB rfl rfl (bB rfl rfl (bB rfl rfl (bB rfl rfl (bB rfl rfl (bB rfl rfl (bB rfl rfl bZ))))))))) rfl rfl) <| XQ.inBlock <| XQ.seq <| XC.seq <| XC.region <| rM rfl rfl rfl <| rR rfl rfl rfl (RO.loadOwnAgg ag_69 rfl rfl rfl rfl) ?_
          refine bindK h2 (fun y23 h3 h2 => ?_)
          have ha24 : ExecOK Tryz.prog (some 7) m24_c0 ⟨[(4, .v (.one (.ptr 2 0))), (6, .v (.one (.ptr 3 0))), (27, .v (.one (.fn 78 [(4, 0), (5, 0)]))), (28, .v (.agg (cE x21)))], [(0, .cells 24 (cE a0)), (1, .cells 24 (cE a1)), (2, .cells 24 [dI 0, dN]), (3, .cells 24 [dI (max a0.c a1.c), dA 8 s2.1]), (4, .cells 22 [dS ((s2.2.1.drop (1 : Int).toNat) : List LV)]), (5, .cells 22 [dS s2.2.2]), (6, .obj (.deferred (some []))), (7, .loop .ready none [(4, .v (.one (.ptr 2 0))), (6, .v (.one (.ptr 3 0))), (27, .v (.one (.fn 78 [(4, 0), (5, 0)])))] 39 #[28] m24_c0 m24_c1 6), (9, .cells 69 (cE x21))], [(8, some ⟨69, 2, (Enc.encL s2.1).length⟩)], 10, 39, []⟩ .normal ⟨[(6, .v (.one (.ptr 3 0))), (7, .v (.one (.ptr 10 0)))], [(0, .cells 24 (cE a0)), (1, .cells 24 (cE a1)), (2, .cells 24 [dI 0, dN]), (3, .cells 24 [dI (max a0.c a1.c), dA 8 s2.1]), (4, .cells 22 [dS ((s2.2.1.drop (1 : Int).toNat) : List LV)]), (5, .cells 22 [dS s2.2.2]), (6, .obj (.deferred (some []))), (7, .loop .ready none [(4, .v (.one (.ptr 2 0))), (6, .v (.one (.ptr 3 0))), (27, .v (.one (.fn 78 [(4, 0), (5, 0)])))] 39 #[28] m24_c0 m24_c1 6), (9, .cells 69 (cE x21)), (10, .cells 69 (cE x21))], [(8, some ⟨69, 2, (Enc.encL s2.1).length⟩)], 11, 39, []⟩ := by
           refine ExecOK.walk (fun w0 M V0 ro n Q hv3 hro3 hQn3 => ?_)
           refine XC.region <| XL.put rfl rfl (lb rfl) (OpOK.alloc z_69 rfl) <| XL.eff rfl rfl (OpOK.store ag_69 rfl rfl rfl rfl (lb rfl) rfl) <| XL.nil ?_
           exact XQ.of hQn3 (stle (tR rfl (tR rfl tZ)) (hR rfl (hR rfl (hR rfl (hR rfl (hR rfl (hR rfl (hR rfl (hR rfl (hR rfl (hR rfl hZ)))))))))) (kR rfl kZ) rfl (Nat.le_trans hv3 (lb rfl)) rfl rfl rfl (bB rfl rfl (bB rfl rfl (bB rfl rfl (bB rfl rfl (bB rfl rfl (bB rfl rfl (bB rfl rfl (bB rfl rfl (bB rfl rfl (bB rfl rfl bZ)))))))))) rfl rfl)
          have hb25 : ExecOK Tryz.prog (some 7) m24_c1 ⟨[(6, .v (.one (.ptr 3 0))), (7, .v (.one (.ptr 10 0)))], [(0, .cells 24 (cE a0)), (1, .cells 24 (cE a1)), (2, .cells 24 [dI 0, dN]), (3, .cells 24 [dI (max a0.c a1.c), dA 8 s2.1]), (4, .cells 22 [dS ((s2.2.1.drop (1 : Int).toNat) : List LV)]), (5, .cells 22 [dS s2.2.2]), (6, .obj (.deferred (some []))), (7, .loop .busy none [(4, .v (.one (.ptr 2 0))), (6, .v (.one (.ptr 3 0))), (27, .v (.one (.fn 78 [(4, 0), (5, 0)])))] 39 #[28] m24_c0 m24_c1 6), (9, .cells 69 (cE x21)), (10, .cells 69 (cE x21))], [(8, some ⟨69, 2, (Enc.encL s2.1).length⟩)], 11, 39, []⟩ .normal ⟨[], [(0, .cells 24 (cE a0)), (1, .cells 24 (cE a1)), (2, .cells 24 [dI 0, dN]), (3, .cells 24 [dI (max a0.c a1.c), dA 8 ((s2.1 ++ ([x21])) : List LV)]), (4, .cells 22 [dS ((s2.2.1.drop (1 : Int).toNat) : List LV)]), (5, .cells 22 [dS s2.2.2]), (6, .obj (.deferred (some []))), (7, .loop .busy none [(4, .v (.one (.ptr 2 0))), (6, .v (.one (.ptr 3 0))), (27, .v (.one (.fn 78 [(4, 0), (5, 0)])))] 39 #[28] m24_c0 m24_c1 6), (9, .cells 69 (cE x21))], [(8, some ⟨69, 2, (Enc.encL ((s2.1 ++ ([x21])) : List LV)).length⟩)], 12, 39, []⟩ := by
           refine ExecOK.walk (fun w0 M V0 ro n Q hv3 hro3 hQn3 => ?_)
           refine XC.block <| XC.region <| rR rfl rfl rfl (RO.fieldOwn fo_24_1 rfl) <| rR rfl rfl rfl (RO.loadOwn ag_22 rfl rfl rfl) <| rR rfl rfl rfl (RO.loadOwnAgg ag_69 rfl rfl rfl rfl) <| XL.put rfl rfl (lb rfl) (OpOK.lit1E (α := LV) (x21) sl_22 z_69 rfl rfl (lb rfl) (lb rfl) rfl rfl (.cons (.d _) (.cons (.d _) .nil)) rfl) ?_
           refine guardK h3 (fun g26 h3 => ?_)
           refine XL.put rfl rfl (lb rfl) (OpOK.appendE (α := LV) sl_22 el_69 rfl rfl rfl rfl rfl (.app _ _) g26) <| rR rfl rfl rfl (RO.fieldOwn fo_24_1 rfl) <| XL.eff rfl rfl (OpOK.store ag_22 rfl rfl rfl rfl (lb rfl) rfl) <| XL.nil <| XQ.inBlock ?_
           have e_ := Option.some.inj h3
           subst e_
           exact XQ.of hQn3 (stle tZ (hR rfl (hR rfl (hR rfl (hR rfl (hR rfl (hR rfl (hR rfl (hR rfl (hR rfl hZ))))))))) (kR rfl kZ) rfl (Nat.le_trans hv3 (lb rfl)) rfl rfl rfl (bB rfl rfl (bB rfl rfl (bB rfl rfl (bB rfl rfl (bB rfl rfl (bB rfl rfl (bB rfl rfl (bB rfl rfl (bB rfl rfl bZ))))))))) rfl rfl)
          refine XL.put rfl rfl (lb rfl) (OpOK.yield (jump := none) rfl rfl rfl rfl rfl (ExecOK.from ha24 (fun E hv => (stle (tR rfl (tR rfl (tR rfl (tR rfl tZ)))) (hR rfl (hR rfl (hR rfl (hR rfl (hR rfl (hR rfl (hR rfl (hR rfl (hR rfl hZ))))))))) (kR rfl kZ) rfl (Nat.le_trans hv (lb rfl)) rfl rfl rfl (bB rfl rfl (bB rfl rfl (bB rfl rfl (bB rfl rfl (bB rfl rfl (bB rfl rfl (bB rfl rfl (bB rfl rfl (bB rfl rfl bZ))))))))) rfl rfl))) rfl (ExecOK.from hb25 (fun E hv => (stle (tR rfl (tR rfl tZ)) (hR rfl (hR rfl (hR rfl (hR rfl (hR rfl (hR rfl (hR rfl (hR rfl (hR rfl (hR rfl hZ)))))))))) (kR rfl kZ) rfl (Nat.le_trans hv (lb rfl)) rfl rfl rfl (bB rfl rfl (bB rfl rfl (bB rfl rfl (bB rfl rfl (bB rfl rfl (bB rfl rfl (bB rfl rfl (bB rfl rfl (bB rfl rfl (bB rfl rfl bZ)))))))))) rfl rfl))) rfl rfl) ?_
          refine rR rfl rfl rfl (RO.not rfl) <| XL.nil <| XQ.seq ?_
          refine XC.cond rfl (fun h => nomatch h) (fun _ => ?_)
          refine XC.skip <| XQ.inBlock ?_
          have e_ := Option.some.inj h2
          subst e_
          refine XQ.nextM ((s2.1 ++ ([x21])), (s2.2.1.drop (1 : Int).toNat), s2.2.2) (stle (tR rfl (tR rfl (tR rfl tZ))) (hR rfl (hR rfl (hR rfl (hR rfl (hR rfl (hR rfl (hR rfl (hR rfl hZ)))))))) (kR rfl kZ) rfl (Nat.le_trans hv1 (lb rfl)) rfl rfl rfl (bB rfl rfl (bB rfl rfl (bB rfl rfl (bB rfl rfl (bB rfl rfl (bB rfl rfl (bB rfl rfl (bB rfl rfl bZ)))))))) rfl rfl) ho2
         ·
          replace h2 := condF c20 h2
          refine XC.seq ?_
          refine XC.joinR (fun (v27 : Bool) => ⟨[(0, .v (.one (.yld 7))), (1, .v (.one (.ptr 4 0))), (2, .v (.one (.ptr 5 0))), (4, .v (.one (.ptr 9 0))), (56, .v (.one (dB v27)))], [(0, .cells 24 (cE a0)), (1, .cells 24 (cE a1)), (2, .cells 24 [dI 0, dN]), (3, .cells 24 [dI (max a0.c a1.c), dA 8 s2.1]), (4, .cells 22 [dS s2.2.1]), (5, .cells 22 [dS s2.2.2]), (6, .obj (.deferred (some []))), (7, .loop .ready none [(4, .v (.one (.ptr 2 0))), (6, .v (.one (.ptr 3 0))), (27, .v (.one (.fn 78 [(4, 0), (5, 0)])))] 39 #[28] m24_c0 m24_c1 6), (9, .cells 69 [dI 0, dI 0])], [(8, some ⟨69, 2, (Enc.encL s2.1).length⟩)], 10, 80, []⟩) (fun (v27 : Bool) => (cond v27
              (Option.bind (idx s2.2.2 0) fun (x29 : LV) =>
            guardO (cond (decide (0 ≤ (1 : Int))) (Nat.ble (1 : Int).toNat s2.2.2.length) false)
            (Option.bind (guardO (Nat.ble (s2.1.length + ([x29]).length) 1000000000)
            (some ())) (fun (y31 : Unit) => some (.next ((s2.1 ++ ([x29])), s2.2.1, (s2.2.2.drop (1 : Int).toNat))))))
              (Option.bind (idx s2.2.1 0) fun (x35 : LV) =>
            Option.bind (idx s2.2.1 0) fun (x36 : LV) =>
            Option.bind (idx s2.2.2 0) fun (x37 : LV) =>
            guardO (cond (decide (0 ≤ (1 : Int))) (Nat.ble (1 : Int).toNat s2.2.1.length) false)
            (guardO (cond (decide (0 ≤ (1 : Int))) (Nat.ble (1 : Int).toNat s2.2.2.length) false)
            (Option.bind (guardO (Nat.ble (s2.1.length + ([(x35.1, (max x36.2 x37.2))]).length) 1000000000)
            (some ())) (fun (y40 : Unit) => some (.next ((s2.1 ++ ([(x35.1, (max x36.2 x37.2))])), (s2.2.1.drop (1 : Int).toNat), (s2.2.2.drop (1 : Int).toNat)))))))) = some oo2) ?_ ?_
          ·
           refine bindK h2 (fun v_ h3 h2 => ?_)
           refine XC.anyRun [] [] mixed (by kernel_rfl) (by kernel_rfl) (by kernel_rfl) ?_
           refine RunA.rd rfl rfl rfl (OpOK.of_ro (RO.loadOwn ag_22 rfl rfl rfl)) rfl <| RunA.rd rfl rfl rfl (OpOK.of_ro (RO.lenE (α := LV) sl_22 rfl (.d _))) rfl <| RunA.rd rfl rfl rfl (OpOK.of_ro (RO.binInt rfl rfl rfl)) rfl ?_
           refine RunA.case (c := ((s2.2.1.length : Int) == 0)) rfl rfl rfl (OpOK.of_ro (RO.move rfl)) rfl (fun c28 => ?_) (fun c28 => ?_)
           ·
            replace h3 := condT c28 h3
            refine RunA.no rfl rfl rfl rfl <| RunA.no rfl rfl rfl rfl <| RunA.no rfl rfl rfl rfl <| RunA.no rfl rfl rfl rfl <| RunA.no rfl rfl rfl rfl <| RunA.no rfl rfl rfl rfl <| RunA.no rfl rfl rfl rfl <| RunA.no rfl rfl rfl rfl <| RunA.no rfl rfl rfl rfl <| RunA.rd rfl rfl rfl (OpOK.of_ro (RO.pickT rfl rfl)) rfl <| RunA.rd rfl rfl rfl (OpOK.of_ro (RO.assign rfl)) rfl ?_
            refine RunA.nil ⟨?ex, _, _, rfl, ?_⟩
            case ex => exact trivial
            have e_ := Option.some.inj h3
            subst e_
            exact XQ.joinR true (stle (tR rfl (tR rfl (tR rfl (tR rfl (tR rfl tZ))))) (hR rfl (hR rfl (hR rfl (hR rfl (hR rfl (hR rfl (hR rfl (hR rfl (hR rfl hZ))))))))) (kR rfl kZ) rfl (Nat.le_trans hv1 (lb rfl)) rfl rfl rfl (bB rfl rfl (bB rfl rfl (bB rfl rfl (bB rfl rfl (bB rfl rfl (bB rfl rfl (bB rfl rfl (bB rfl rfl (bB rfl rfl bZ))))))))) rfl rfl) h2
           ·
            replace h3 := condF c28 h3
            refine RunA.rd rfl rfl rfl (OpOK.of_ro (RO.loadOwn ag_22 rfl rfl rfl)) rfl ?_
            refine bindK h3 (fun x29 hx29 h3 => ?_)
            refine RunA.rd rfl rfl rfl (OpOK.of_ro (RO.indexE (α := LV) sl_22 rfl (.d _) rfl hx29)) rfl <| RunA.rd rfl rfl rfl (OpOK.of_ro (RO.fieldPel fo_69_0 rfl)) rfl <| RunA.rd rfl rfl rfl (OpOK.of_ro (RO.loadPel ag_3 rfl rfl)) rfl <| RunA.rd rfl rfl rfl (OpOK.of_ro (RO.loadOwn ag_22 rfl rfl rfl)) rfl ?_
            refine bindK h3 (fun x30 hx30 h3 => ?_)
            refine RunA.rd rfl rfl rfl (OpOK.of_ro (RO.indexE (α := LV) sl_22 rfl (.d _) rfl hx30)) rfl <| RunA.rd rfl rfl rfl (OpOK.of_ro (RO.fieldPel fo_69_0 rfl)) rfl <| RunA.rd rfl rfl rfl (OpOK.of_ro (RO.loadPel ag_3 rfl rfl)) rfl <| RunA.rd rfl rfl rfl (OpOK.of_ro (RO.binInt rfl rfl rfl)) rfl <| RunA.rd rfl rfl rfl (OpOK.of_ro (RO.pickF rfl rfl)) rfl <| RunA.rd rfl rfl rfl (OpOK.of_ro (RO.assign rfl)) rfl ?_
            refine RunA.nil ⟨?ex, _, _, rfl, ?_⟩
            case ex => exact trivial
            have e_ := Option.some.inj h3
            subst e_
            exact XQ.joinR (decide (x29.1 < x30.1)) (stle (tR rfl (tR rfl (tR rfl (tR rfl (tR rfl tZ))))) (hR rfl (hR rfl (hR rfl (hR rfl (hR rfl (hR rfl (hR rfl (hR rfl (hR rfl hZ))))))))) (kR rfl kZ) rfl (Nat.le_trans hv1 (lb rfl)) rfl rfl rfl (bB rfl rfl (bB rfl rfl (bB rfl rfl (bB rfl rfl (bB rfl rfl (bB rfl rfl (bB rfl rfl (bB rfl rfl (bB rfl rfl bZ))))))))) rfl rfl) h2
          ·
           intro v27 h2
           refine XQ.seq ?_
           refine XC.cond (b := v27) rfl (fun c31 => ?_) (fun c31 => ?_)
           ·
            replace h2 := condT c31 h2
            refine XC.anyRun [5, 6] [(3, 1), (4, 1)] mixed (by kernel_rfl) (by kernel_rfl) (by kernel_rfl) ?_
            refine RunA.rd rfl rfl rfl (OpOK.of_ro (RO.loadOwn ag_22 rfl rfl rfl)) rfl ?_
            refine bindK h2 (fun x32 hx32 h2 => ?_)
            refine RunA.rd rfl rfl rfl (OpOK.of_ro (RO.indexE (α := LV) sl_22 rfl (.d _) rfl hx32)) rfl <| RunA.rd rfl rfl rfl (OpOK.of_ro (RO.loadPelAgg ag_69 rfl rfl rfl)) rfl <| RunA.rd rfl rfl rfl (OpOK.of_ro (RO.loadOwn ag_22 rfl rfl rfl)) rfl ?_
            refine guardK h2 (fun g33 h2 => ?_)
            refine RunA.rd rfl rfl rfl (OpOK.of_ro (RO.sliceFrom (α := LV) sl_22 rfl (.d _) rfl g33)) rfl <| RunA.eff rfl rfl rfl (OpOK.store ag_69 rfl rfl rfl rfl (lb rfl) rfl) rfl <| RunA.eff rfl rfl rfl (OpOK.store ag_22 rfl rfl rfl rfl (lb rfl) rfl) rfl ?_
            refine RunA.nil ⟨?ex, _, _, rfl, ?_⟩
            case ex => exact ⟨⟨_, rfl, _, _, rfl, rfl, rfl, .inl ⟨rfl, _, OpOK.of_ro (RO.loadOwn ag_22 rfl rfl rfl), rfl⟩⟩, ⟨_, rfl, _, _, rfl, rfl, rfl, .inl ⟨rfl, _, OpOK.of_ro (RO.sliceFrom (α := LV) sl_22 rfl (.d _) rfl g33), rfl⟩⟩, trivial⟩
            refine XQ.less (st' := ⟨[(0, .v (.one (.yld 7))), (1, .v (.one (.ptr 4 0))), (2, .v (.one (.ptr 5 0))), (4, .v (.one (.ptr 9 0)))], [(0, .cells 24 (cE a0)), (1, .cells 24 (cE a1)), (2, .cells 24 [dI 0, dN]), (3, .cells 24 [dI (max a0.c a1.c), dA 8 s2.1]), (4, .cells 22 [dS s2.2.1]), (5, .cells 22 [dS ((s2.2.2.drop (1 : Int).toNat) : List LV)]), (6, .obj (.deferred (some []))), (7, .loop .ready none [(4, .v (.one (.ptr 2 0))), (6, .v (.one (.ptr 3 0))), (27, .v (.one (.fn 78 [(4, 0), (5, 0)])))] 39 #[28] m24_c0 m24_c1 6), (9, .cells 69 (cE x32))], [(8, some ⟨69, 2, (Enc.encL s2.1).length⟩)], 10, 80, []⟩) (stle (tR rfl (tR rfl (tR rfl (tR rfl tZ)))) (hR rfl (hR rfl (hR rfl (hR rfl (hR rfl (hR rfl (hR rfl (hR rfl (hR rfl hZ))))))))) (kR rfl kZ) rfl (Nat.le_trans hv1 (lb rfl)) rfl rfl rfl (bB rfl rfl (bB rfl rfl (bB rfl rfl (bB rfl rfl (bB rfl rfl (bB rfl rfl (bB rfl rfl (bB rfl rfl (bB rfl rfl bZ))))))))) rfl rfl) <| XQ.inBlock <| XQ.seq <| XC.seq <| XC.region <| rM rfl rfl rfl <| rR rfl rfl rfl (RO.loadOwnAgg ag_69 rfl rfl rfl rfl) ?_
            refine bindK h2 (fun y34 h3 h2 => ?_)
            have ha35 : ExecOK Tryz.prog (some 7) m24_c0 ⟨[(4, .v (.one (.ptr 2 0))), (6, .v (.one (.ptr 3 0))), (27, .v (.one (.fn 78 [(4, 0), (5, 0)]))), (28, .v (.agg (cE x32)))], [(0, .cells 24 (cE a0)), (1, .cells 24 (cE a1)), (2, .cells 24 [dI 0, dN]), (3, .cells 24 [dI (max a0.c a1.c), dA 8 s2.1]), (4, .cells 22 [dS s2.2.1]), (5, .cells 22 [dS ((s2.2.2.drop (1 : Int).toNat) : List LV)]), (6, .obj (.deferred (some []))), (7, .loop .ready none [(4, .v (.one (.ptr 2 0))), (6, .v (.one (.ptr 3 0))), (27, .v (.one (.fn 78 [(4, 0), (5, 0)])))] 39 #[28] m24_c0 m24_c1 6), (9, .cells 69 (cE x32))], [(8, some ⟨69, 2, (Enc.encL s2.1).length⟩)], 10, 39, []⟩ .normal ⟨[(6, .v (.one (.ptr 3 0))), (7, .v (.one (.ptr 10 0)))], [(0, .cells 24 (cE a0)), (1, .cells 24 (cE a1)), (2, .cells 24 [dI 0, dN]), (3, .cells 24 [dI (max a0.c a1.c), dA 8 s2.1]), (4, .cells 22 [dS s2.2.1]), (5, .cells 22 [dS ((s2.2.2.drop (1 : Int).toNat) : List LV)]), (6, .obj (.deferred (some []))), (7, .loop .ready none [(4, .v (.one (.ptr 2 0))), (6, .v (.one (.ptr 3 0))), (27, .v (.one (.fn 78 [(4, 0), (5, 0)])))] 39 #[28] m24_c0 m24_c1 6), (9, .cells 69 (cE x32)), (10, .cells 69 (cE x32))], [(8, some ⟨69, 2, (Enc.encL s2.1).length⟩)], 11, 39, []⟩ := by
             refine ExecOK.walk (fun w0 M V0 ro n Q hv3 hro3 hQn3 => ?_)
             refine XC.region <| XL.put rfl rfl (lb rfl) (OpOK.alloc z_69 rfl) <| XL.eff rfl rfl (OpOK.store ag_69 rfl rfl rfl rfl (lb rfl) rfl) <| XL.nil ?_
             exact XQ.of hQn3 (stle (tR rfl (tR rfl tZ)) (hR rfl (hR rfl (hR rfl (hR rfl (hR rfl (hR rfl (hR rfl (hR rfl (hR rfl (hR rfl hZ)))))))))) (kR rfl kZ) rfl (Nat.le_trans hv3 (lb rfl)) rfl rfl rfl (bB rfl rfl (bB rfl rfl (bB rfl rfl (bB rfl rfl (bB rfl rfl (bB rfl rfl (bB rfl rfl (bB rfl rfl (bB rfl rfl (bB rfl rfl bZ)))))))))) rfl rfl)
            have hb36 : ExecOK Tryz.prog (some 7) m24_c1 ⟨[(6, .v (.one (.ptr 3 0))), (7, .v (.one (.ptr 10 0)))], [(0, .cells 24 (cE a0)), (1, .cells 24 (cE a1)), (2, .cells 24 [dI 0, dN]), (3, .cells 24 [dI (max a0.c a1.c), dA 8 s2.1]), (4, .cells 22 [dS s2.2.1]), (5, .cells 22 [dS ((s2.2.2.drop (1 : Int).toNat) : List LV)]), (6, .obj (.deferred (some []))), (7, .loop .busy none [(4, .v (.one (.ptr 2 0))), (6, .v (.one (.ptr 3 0))), (27, .v (.one (.fn 78 [(4, 0), (5, 0)])))] 39 #[28] m24_c0 m24_c1 6), (9, .cells 69 (cE x32)), (10, .cells 69 (cE x32))], [(8, some ⟨69, 2, (Enc.encL s2.1).length⟩)], 11, 39, []⟩ .normal ⟨[], [(0, .cells 24 (cE a0)), (1, .cells 24 (cE a1)), (2, .cells 24 [dI 0, dN]), (3, .cells 24 [dI (max a0.c a1.c), dA 8 ((s2.1 ++ ([x32])) : List LV)]), (4, .cells 22 [dS s2.2.1]), (5, .cells 22 [dS ((s2.2.2.drop (1 : Int).toNat) : List LV)]), (6, .obj (.deferred (some []))), (7, .loop .busy none [(4, .v (.one (.ptr 2 0))), (6, .v (.one (.ptr 3 0))), (27, .v (.one (.fn 78 [(4, 0), (5, 0)])))] 39 #[28] m24_c0 m24_c1 6), (9, .cells 69 (cE x32))], [(8, some ⟨69, 2, (Enc.encL ((s2.1 ++ ([x32])) : List LV)).length⟩)], 12, 39, []⟩ := by
             refine ExecOK.walk (fun w0 M V0 ro n Q hv3 hro3 hQn3 => ?_)
             refine XC.block <| XC.region <| rR rfl rfl rfl (RO.fieldOwn fo_24_1 rfl) <| rR rfl rfl rfl (RO.loadOwn ag_22 rfl rfl rfl) <| rR rfl rfl rfl (RO.loadOwnAgg ag_69 rfl rfl rfl rfl) <| XL.put rfl rfl (lb rfl) (OpOK.lit1E (α := LV) (x32) sl_22 z_69 rfl rfl (lb rfl) (lb rfl) rfl rfl (.cons (.d _) (.cons (.d _) .nil)) rfl) ?_
             refine guardK h3 (fun g37 h3 => ?_)
             refine XL.put rfl rfl (lb rfl) (OpOK.appendE (α := LV) sl_22 el_69 rfl rfl rfl rfl rfl (.app _ _) g37) <| rR rfl rfl rfl (RO.fieldOwn fo_24_1 rfl) <| XL.eff rfl rfl (OpOK.store ag_22 rfl rfl rfl rfl (lb rfl) rfl) <| XL.nil <| XQ.inBlock ?_
             have e_ := Option.some.inj h3
             subst e_
             exact XQ.of hQn3 (stle tZ (hR rfl (hR rfl (hR rfl (hR rfl (hR rfl (hR rfl (hR rfl (hR rfl (hR rfl hZ))))))))) (kR rfl kZ) rfl (Nat.le_trans hv3 (lb rfl)) rfl rfl rfl (bB rfl rfl (bB rfl rfl (bB rfl rfl (bB rfl rfl (bB rfl rfl (bB rfl rfl (bB rfl rfl (bB rfl rfl (bB rfl rfl bZ))))))))) rfl rfl)
            refine XL.put rfl rfl (lb rfl) (OpOK.yield (jump := none) rfl rfl rfl rfl rfl (ExecOK.from ha35 (fun E hv => (stle (tR rfl (tR rfl (tR rfl (tR rfl tZ)))) (hR rfl (hR rfl (hR rfl (hR rfl (hR rfl (hR rfl (hR rfl (hR rfl (hR rfl hZ))))))))) (kR rfl kZ) rfl (Nat.le_trans hv (lb rfl)) rfl rfl rfl (bB rfl rfl (bB rfl rfl (bB rfl rfl (bB rfl rfl (bB rfl rfl (bB rfl rfl (bB rfl rfl (bB rfl rfl (bB rfl rfl bZ))))))))) rfl rfl))) rfl (ExecOK.from hb36 (fun E hv => (stle (tR rfl (tR rfl tZ)) (hR rfl (hR rfl (hR rfl (hR rfl (hR rfl (hR rfl (hR rfl (hR rfl (hR rfl (hR rfl hZ)))))))))) (kR rfl kZ) rfl (Nat.le_trans hv (lb rfl)) rfl rfl rfl (bB rfl rfl (bB rfl rfl (bB rfl rfl (bB rfl rfl (bB rfl rfl (bB rfl rfl (bB rfl rfl (bB rfl rfl (bB rfl rfl (bB rfl rfl bZ)))))))))) rfl rfl))) rfl rfl) ?_
            refine rR rfl rfl rfl (RO.not rfl) <| XL.nil <| XQ.seq ?_
            refine XC.cond rfl (fun h => nomatch h) (fun _ => ?_)
            refine XC.skip <| XQ.inBlock ?_
            have e_ := Option.some.inj h2
            subst e_
            refine XQ.nextM ((s2.1 ++ ([x32])), s2.2.1, (s2.2.2.drop (1 : Int).toNat)) (stle (tR rfl (tR rfl (tR rfl tZ))) (hR rfl (hR rfl (hR rfl (hR rfl (hR rfl (hR rfl (hR rfl (hR rfl hZ)))))))) (kR rfl kZ) rfl (Nat.le_trans hv1 (lb rfl)) rfl rfl rfl (bB rfl rfl (bB rfl rfl (bB rfl rfl (bB rfl rfl (bB rfl rfl (bB rfl rfl (bB rfl rfl (bB rfl rfl bZ)))))))) rfl rfl) ho2
           ·
            replace h2 := condF c31 h2
            refine XC.seq ?_
            refine XC.anyRun [14] [] mixed (by kernel_rfl) (by kernel_rfl) (by kernel_rfl) ?_
            refine RunA.rd rfl rfl rfl (OpOK.of_ro (RO.loadOwn ag_22 rfl rfl rfl)) rfl ?_
            refine bindK h2 (fun x38 hx38 h2 => ?_)
            refine RunA.rd rfl rfl rfl (OpOK.of_ro (RO.indexE (α := LV) sl_22 rfl (.d _) rfl hx38)) rfl <| RunA.rd rfl rfl rfl (OpOK.of_ro (RO.fieldPel fo_69_0 rfl)) rfl <| RunA.rd rfl rfl rfl (OpOK.of_ro (RO.loadPel ag_3 rfl rfl)) rfl <| RunA.rd rfl rfl rfl (OpOK.of_ro (RO.loadOwn ag_22 rfl rfl rfl)) rfl ?_
            refine bindK h2 (fun x39 hx39 h2 => ?_)
            refine RunA.rd rfl rfl rfl (OpOK.of_ro (RO.indexE (α := LV) sl_22 rfl (.d _) rfl hx39)) rfl <| RunA.rd rfl rfl rfl (OpOK.of_ro (RO.fieldPel fo_69_1 rfl)) rfl <| RunA.rd rfl rfl rfl (OpOK.of_ro (RO.loadPel ag_3 rfl rfl)) rfl <| RunA.rd rfl rfl rfl (OpOK.of_ro (RO.loadOwn ag_22 rfl rfl rfl)) rfl ?_
            refine bindK h2 (fun x40 hx40 h2 => ?_)
            refine RunA.rd rfl rfl rfl (OpOK.of_ro (RO.indexE (α := LV) sl_22 rfl (.d _) rfl hx40)) rfl <| RunA.rd rfl rfl rfl (OpOK.of_ro (RO.fieldPel fo_69_1 rfl)) rfl <| RunA.rd rfl rfl rfl (OpOK.of_ro (RO.loadPel ag_3 rfl rfl)) rfl <| RunA.rd rfl rfl rfl (OpOK.of_ro (RO.max2 rfl rfl)) rfl <| RunA.rd rfl rfl rfl (OpOK.of_ro (RO.build2 bd_69 rfl rfl rfl rfl)) rfl <| RunA.eff rfl rfl rfl (OpOK.store ag_69 rfl rfl rfl rfl (lb rfl) rfl) rfl ?_
            refine RunA.nil ⟨?ex, _, _, rfl, ?_⟩
            case ex => exact trivial
            refine XQ.less (st' := ⟨[(0, .v (.one (.yld 7))), (1, .v (.one (.ptr 4 0))), (2, .v (.one (.ptr 5 0))), (4, .v (.one (.ptr 9 0)))], [(0, .cells 24 (cE a0)), (1, .cells 24 (cE a1)), (2, .cells 24 [dI 0, dN]), (3, .cells 24 [dI (max a0.c a1.c), dA 8 s2.1]), (4, .cells 22 [dS s2.2.1]), (5, .cells 22 [dS s2.2.2]), (6, .obj (.deferred (some []))), (7, .loop .ready none [(4, .v (.one (.ptr 2 0))), (6, .v (.one (.ptr 3 0))), (27, .v (.one (.fn 78 [(4, 0), (5, 0)])))] 39 #[28] m24_c0 m24_c1 6), (9, .cells 69 [dI x38.1, dI (max x39.2 x40.2)])], [(8, some ⟨69, 2, (Enc.encL s2.1).length⟩)], 10, 80, []⟩) (stle (tR rfl (tR rfl (tR rfl (tR rfl tZ)))) (hR rfl (hR rfl (hR rfl (hR rfl (hR rfl (hR rfl (hR rfl (hR rfl (hR rfl hZ))))))))) (kR rfl kZ) rfl (Nat.le_trans hv1 (lb rfl)) rfl rfl rfl (bB rfl rfl (bB rfl rfl (bB rfl rfl (bB rfl rfl (bB rfl rfl (bB rfl rfl (bB rfl rfl (bB rfl rfl (bB rfl rfl bZ))))))))) rfl rfl) <| XQ.seq ?_
            refine XC.anyRun [4, 5] [(2, 1), (3, 1)] mixed (by kernel_rfl) (by kernel_rfl) (by kernel_rfl) ?_
            refine RunA.rd rfl rfl rfl (OpOK.of_ro (RO.loadOwn ag_22 rfl rfl rfl)) rfl ?_
            refine guardK h2 (fun g41 h2 => ?_)
            refine RunA.rd rfl rfl rfl (OpOK.of_ro (RO.sliceFrom (α := LV) sl_22 rfl (.d _) rfl g41)) rfl <| RunA.rd rfl rfl rfl (OpOK.of_ro (RO.loadOwn ag_22 rfl rfl rfl)) rfl ?_
            refine guardK h2 (fun g42 h2 => ?_)
            refine RunA.rd rfl rfl rfl (OpOK.of_ro (RO.sliceFrom (α := LV) sl_22 rfl (.d _) rfl g42)) rfl <| RunA.eff rfl rfl rfl (OpOK.store ag_22 rfl rfl rfl rfl (lb rfl) rfl) rfl <| RunA.eff rfl rfl rfl (OpOK.store ag_22 rfl rfl rfl rfl (lb rfl) rfl) rfl ?_
            refine RunA.nil ⟨?ex, _, _, rfl, ?_⟩
            case ex => exact ⟨⟨_, rfl, _, _, rfl, rfl, rfl, .inl ⟨rfl, _, OpOK.of_ro (RO.loadOwn ag_22 rfl rfl rfl), rfl⟩⟩, ⟨_, rfl, _, _, rfl, rfl, rfl, .inl ⟨rfl, _, OpOK.of_ro (RO.sliceFrom (α := LV) sl_22 rfl (.d _) rfl g42), rfl⟩⟩, trivial⟩
            refine XQ.less (st' := ⟨[(0, .v (.one (.yld 7))), (1, .v (.one (.ptr 4 0))), (2, .v (.one (.ptr 5 0))), (4, .v (.one (.ptr 9 0)))], [(0, .cells 24 (cE a0)), (1, .cells 24 (cE a1)), (2, .cells 24 [dI 0, dN]), (3, .cells 24 [dI (max a0.c a1.c), dA 8 s2.1]), (4, .cells 22 [dS ((s2.2.1.drop (1 : Int).toNat) : List LV)]), (5, .cells 22 [dS ((s2.2.2.drop (1 : Int).toNat) : List LV)]), (6, .obj (.deferred (some []))), (7, .loop .ready none [(4, .v (.one (.ptr 2 0))), (6, .v (.one (.ptr 3 0))), (27, .v (.one (.fn 78 [(4, 0), (5, 0)])))] 39 #[28] m24_c0 m24_c1 6), (9, .cells 69 [dI x38.1, dI (max x39.2 x40.2)])], [(8, some ⟨69, 2, (Enc.encL s2.1).length⟩)], 10, 80, []⟩) (stle (tR rfl (tR rfl (tR rfl (tR rfl tZ)))) (hR rfl (hR rfl (hR rfl (hR rfl (hR rfl (hR rfl (hR rfl (hR rfl (hR rfl hZ))))))))) (kR rfl kZ) rfl (Nat.le_trans hv1 (lb rfl)) rfl rfl rfl (bB rfl rfl (bB rfl rfl (bB rfl rfl (bB rfl rfl (bB rfl rfl (bB rfl rfl (bB rfl rfl (bB rfl rfl (bB rfl rfl bZ))))))))) rfl rfl) <| XQ.inBlock <| XQ.seq <| XC.seq <| XC.region <| rM rfl rfl rfl <| rR rfl rfl rfl (RO.loadOwnAgg ag_69 rfl rfl rfl rfl) ?_
            refine bindK h2 (fun y43 h3 h2 => ?_)
            have ha44 : ExecOK Tryz.prog (some 7) m24_c0 ⟨[(4, .v (.one (.ptr 2 0))), (6, .v (.one (.ptr 3 0))), (27, .v (.one (.fn 78 [(4, 0), (5, 0)]))), (28, .v (.agg [dI x38.1, dI (max x39.2 x40.2)]))], [(0, .cells 24 (cE a0)), (1, .cells 24 (cE a1)), (2, .cells 24 [dI 0, dN]), (3, .cells 24 [dI (max a0.c a1.c), dA 8 s2.1]), (4, .cells 22 [dS ((s2.2.1.drop (1 : Int).toNat) : List LV)]), (5, .cells 22 [dS ((s2.2.2.drop (1 : Int).toNat) : List LV)]), (6, .obj (.deferred (some []))), (7, .loop .ready none [(4, .v (.one (.ptr 2 0))), (6, .v (.one (.ptr 3 0))), (27, .v (.one (.fn 78 [(4, 0), (5, 0)])))] 39 #[28] m24_c0 m24_c1 6), (9, .cells 69 [dI x38.1, dI (max x39.2 x40.2)])], [(8, some ⟨69, 2, (Enc.encL s2.1).length⟩)], 10, 39, []⟩ .normal ⟨[(6, .v (.one (.ptr 3 0))), (7, .v (.one (.ptr 10 0)))], [(0, .cells 24 (cE a0)), (1, .cells 24 (cE a1)), (2, .cells 24 [dI 0, dN]), (3, .cells 24 [dI (max a0.c a1.c), dA 8 s2.1]), (4, .cells 22 [dS ((s2.2.1.drop (1 : Int).toNat) : List LV)]), (5, .cells 22 [dS ((s2.2.2.drop (1 : Int).toNat) : List LV)]), (6, .obj (.deferred (some []))), (7, .loop .ready none [(4, .v (.one (.ptr 2 0))), (6, .v (.one (.ptr 3 0))), (27, .v (.one (.fn 78 [(4, 0), (5, 0)])))] 39 #[28] m24_c0 m24_c1 6), (9, .cells 69 [dI x38.1, dI (max x39.2 x40.2)]), (10, .cells 69 [dI x38.1, dI (max x39.2 x40.2)])], [(8, some ⟨69, 2, (Enc.encL s2.1).length⟩)], 11, 39, []⟩ := by
             refine ExecOK.walk (fun w0 M V0 ro n Q hv3 hro3 hQn3 => ?_)
             refine XC.region <| XL.put rfl rfl (lb rfl) (OpOK.alloc z_69 rfl) <| XL.eff rfl rfl (OpOK.store ag_69 rfl rfl rfl rfl (lb rfl) rfl) <| XL.nil ?_
             exact XQ.of hQn3 (stle (tR rfl (tR rfl tZ)) (hR rfl (hR rfl (hR rfl (hR rfl (hR rfl (hR rfl (hR rfl (hR rfl (hR rfl (hR rfl hZ)))))))))) (kR rfl kZ) rfl (Nat.le_trans hv3 (lb rfl)) rfl rfl rfl (bB rfl rfl (bB rfl rfl (bB rfl rfl (bB rfl rfl (bB rfl rfl (bB rfl rfl (bB rfl rfl (bB rfl rfl (bB rfl rfl (bB rfl rfl bZ)))))))))) rfl rfl)
            have hb45 : ExecOK Tryz.prog (some 7) m24_c1 ⟨[(6, .v (.one (.ptr 3 0))), (7, .v (.one (.ptr 10 0)))], [(0, .cells 24 (cE a0)), (1, .cells 24 (cE a1)), (2, .cells 24 [dI 0, dN]), (3, .cells 24 [dI (max a0.c a1.c), dA 8 s2.1]), (4, .cells 22 [dS ((s2.2.1.drop (1 : Int).toNat) : List LV)]), (5, .cells 22 [dS ((s2.2.2.drop (1 : Int).toNat) : List LV)]), (6, .obj (.deferred (some []))), (7, .loop .busy none [(4, .v (.one (.ptr 2 0))), (6, .v (.one (.ptr 3 0))), (27, .v (.one (.fn 78 [(4, 0), (5, 0)])))] 39 #[28] m24_c0 m24_c1 6), (9, .cells 69 [dI x38.1, dI (max x39.2 x40.2)]), (10, .cells 69 [dI x38.1, dI (max x39.2 x40.2)])], [(8, some ⟨69, 2, (Enc.encL s2.1).length⟩)], 11, 39, []⟩ .normal ⟨[], [(0, .cells 24 (cE a0)), (1, .cells 24 (cE a1)), (2, .cells 24 [dI 0, dN]), (3, .cells 24 [dI (max a0.c a1.c), dA 8 ((s2.1 ++ ([(x38.1, (max x39.2 x40.2))])) : List LV)]), (4, .cells 22 [dS ((s2.2.1.drop (1 : Int).toNat) : List LV)]), (5, .cells 22 [dS ((s2.2.2.drop (1 : Int).toNat) : List LV)]), (6, .obj (.deferred (some []))), (7, .loop .busy none [(4, .v (.one (.ptr 2 0))), (6, .v (.one (.ptr 3 0))), (27, .v (.one (.fn 78 [(4, 0), (5, 0)])))] 39 #[28] m24_c0 m24_c1 6), (9, .cells 69 [dI x38.1, dI (max x39.2 x40.2)])], [(8, some ⟨69, 2, (Enc.encL ((s2.1 ++ ([(x38.1, (max x39.2 x40.2))])) : List LV)).length⟩)], 12, 39, []⟩ := by
             refine ExecOK.walk (fun w0 M V0 ro n Q hv3 hro3 hQn3 => ?_)
             refine XC.block <| XC.region <| rR rfl rfl rfl (RO.fieldOwn fo_24_1 rfl) <| rR rfl rfl rfl (RO.loadOwn ag_22 rfl rfl rfl) <| rR rfl rfl rfl (RO.loadOwnAgg ag_69 rfl rfl rfl rfl) <| XL.put rfl rfl (lb rfl) (OpOK.lit1E (α := LV) ((x38.1, (max x39.2 x40.2))) sl_22 z_69 rfl rfl (lb rfl) (lb rfl) rfl rfl (.cons (.d _) (.cons (.d _) .nil)) rfl) ?_
             refine guardK h3 (fun g46 h3 => ?_)
             refine XL.put rfl rfl (lb rfl) (OpOK.appendE (α := LV) sl_22 el_69 rfl rfl rfl rfl rfl (.app _ _) g46) <| rR rfl rfl rfl (RO.fieldOwn fo_24_1 rfl) <| XL.eff rfl rfl (OpOK.store ag_22 rfl rfl rfl rfl (lb rfl) rfl) <| XL.nil <| XQ.inBlock ?_
             have e_ := Option.some.inj h3
             subst e_
             exact XQ.of hQn3 (stle tZ (hR rfl (hR rfl (hR rfl (hR rfl (hR rfl (hR rfl (hR rfl (hR rfl (hR rfl hZ))))))))) (kR rfl kZ) rfl (Nat.le_trans hv3 (lb rfl)) rfl rfl rfl (bB rfl rfl (bB rfl rfl (bB rfl rfl (bB rfl rfl (bB rfl rfl (bB rfl rfl (bB rfl rfl (bB rfl rfl (bB rfl rfl bZ))))))))) rfl rfl)
            refine XL.put rfl rfl (lb rfl) (OpOK.yield (jump := none) rfl rfl rfl rfl rfl (ExecOK.from ha44 (fun E hv => (stle (tR rfl (tR rfl (tR rfl (tR rfl tZ)))) (hR rfl (hR rfl (hR rfl (hR rfl (hR rfl (hR rfl (hR rfl (hR rfl (hR rfl hZ))))))))) (kR rfl kZ) rfl (Nat.le_trans hv (lb rfl)) rfl rfl rfl (bB rfl rfl (bB rfl rfl (bB rfl rfl (bB rfl rfl (bB rfl rfl (bB rfl rfl (bB rfl rfl (bB rfl rfl (bB rfl rfl bZ))))))))) rfl rfl))) rfl (ExecOK.from hb45 (fun E hv => (stle (tR rfl (tR rfl tZ)) (hR rfl (hR rfl (hR rfl (hR rfl (hR rfl (hR rfl (hR rfl (hR rfl (hR rfl (hR rfl hZ)))))))))) (kR rfl kZ) rfl (Nat.le_trans hv (lb rfl)) rfl rfl rfl (bB rfl rfl (bB rfl rfl (bB rfl rfl (bB rfl rfl (bB rfl rfl (bB rfl rfl (bB rfl rfl (bB rfl rfl (bB rfl rfl (bB rfl rfl bZ)))))))))) rfl rfl))) rfl rfl) ?_
            refine rR rfl rfl rfl (RO.not rfl) <| XL.nil <| XQ.seq ?_
            refine XC.cond rfl (fun h => nomatch h) (fun _ => ?_)
            refine XC.skip <| XQ.inBlock ?_
            have e_ := Option.some.inj h2
            subst e_
            refine XQ.nextM ((s2.1 ++ ([(x38.1, (max x39.2 x40.2))])), (s2.2.1.drop (1 : Int).toNat), (s2.2.2.drop (1 : Int).toNat)) (stle (tR rfl (tR rfl (tR rfl tZ))) (hR rfl (hR rfl (hR rfl (hR rfl (hR rfl (hR rfl (hR rfl (hR rfl hZ)))))))) (kR rfl kZ) rfl (Nat.le_trans hv1 (lb rfl)) rfl rfl rfl (bB rfl rfl (bB rfl rfl (bB rfl rfl (bB rfl rfl (bB rfl rfl (bB rfl rfl (bB rfl rfl (bB rfl rfl bZ)))))))) rfl rfl) ho2
       ·
        replace h2 := condF c14 h2
        refine XC.exit <| XQ.thenE <| XQ.thenE ?_
        have e_ := Option.some.inj h2
        subst e_
        have e_ : _ = _ := ho2
        subst e_
        exact XQ.joinX (s2.1, s2.2.1, s2.2.2) (stle tZ (hR rfl (hR rfl (hR rfl (hR rfl (hR rfl (hR rfl (hR rfl (hR rfl hZ)))))))) (kR rfl kZ) rfl (Nat.le_trans hv1 (lb rfl)) rfl rfl rfl (bB rfl rfl (bB rfl rfl (bB rfl rfl (bB rfl rfl (bB rfl rfl (bB rfl rfl (bB rfl rfl (bB rfl rfl bZ)))))))) rfl rfl) h1
     ·
      intro o10 h1
      refine XQ.blockX ?_
      have e_ := Option.some.inj h1
      subst e_
      exact hQ1 _ _ _ (.inl rfl) rfl (stle tZ (hR rfl (hR rfl (hR rfl (hR rfl (hR rfl (hR rfl (hR rfl (hR rfl hZ)))))))) (kR rfl kZ) rfl (Nat.le_trans hv1 (lb rfl)) rfl rfl rfl (bB rfl rfl (bB rfl rfl (bB rfl rfl (bB rfl rfl (bB rfl rfl (bB rfl rfl (bB rfl rfl (bB rfl rfl bZ)))))))) rfl rfl)
    refine XC.exec (rangeFunc_out (e := .normal) rfl hc9 rfl (by intro h; cases h) rfl) rfl ?_
    refine XQ.inBlock <| XQ.seq <| XC.seq <| XC.region <| rR rfl rfl rfl (RO.loadOwnAgg ag_24 rfl rfl rfl rfl) ?_
    refine guardK h0 (fun g47 h0 => ?_)
    refine XL.put rfl rfl (lb rfl) (OpOK.callFun (limited_fun (⟨(max a0.c a1.c), y8.1⟩ : Lvl) (Nat.le_of_ble_eq_true g47)) rfl (.cons (.agg (.cons (.d _) (.cons (.app _ _ _) .nil))) .nil)) ?_
    refine rR rfl rfl rfl (RO.extract rfl rfl) <| rR rfl rfl rfl (RO.extract rfl rfl) <| XL.eff rfl rfl (OpOK.store ag_24 rfl rfl rfl rfl (lb rfl) rfl) <| rA rfl rfl rfl <| XL.nil <| XQ.seq <| XC.ret ?_
    have e_ := Option.some.inj h0
    subst e_
    exact XQ.retF (fun _ _ h => h) rfl (RAs.agg ag_24 rfl rfl rfl rfl (RAs.tmp rfl .nil)) (.cons (.agg (.cons (.d _) (.cons (.d _) .nil))) (.cons (.one (.d _)) .nil))
end

section
open Go.RowKit
set_option linter.unusedSimpArgs false
set_option linter.unusedVariables false

/-! ### Max -/
theorem m24_loop (a b : List LV) (hab : a.length + b.length ≤ 300000) : loopN m24_l0 FUEL ([], a, b) = some (mergeV a b, [], []) := by
  have key := loop_spec (step := m24_l0) (fun s => s.1.length + s.2.1.length + s.2.2.length ≤ 300000) (fun s => s.2.1.length + s.2.2.length) (fun s => (s.1 ++ mergeV s.2.1 s.2.2, [], [])) (fun s hs => by
    obtain ⟨o, a, b⟩ := s
    dsimp only at hs ⊢
    unfold m24_l0
    dsimp only
    cases a with
    | nil =>
      cases b with
      | nil => left; simp [mergeV]
      | cons y b =>
        right
        simp only [List.length_nil, List.length_cons] at hs
        refine ⟨(o ++ [y], [], b), ?_, (by simp only [List.length_append, List.length_cons, List.length_nil]; omega), (by simp only [List.length_cons, List.length_nil]; omega), by simp [mergeV_nil_l]⟩
        have e1 : decide ((0 : Int) < ((([] : List LV).length : Nat) : Int)) = false := rfl
        have e2 : decide ((0 : Int) < (((y :: b).length : Nat) : Int)) = true := decide_eq_true (by rw [List.length_cons]; omega)
        have e3 : ((((y :: b).length : Nat) : Int) == 0) = false := by simp; omega
        have e4 : ((((([] : List LV)).length : Nat) : Int) == 0) = true := rfl
        have g1 : Nat.ble (1 : Int).toNat (y :: b).length = true := by simp [Nat.ble]
        have g2 : decide ((0 : Int) ≤ 1) = true := rfl
        have i1 : idx (y :: b) 0 = some y := rfl
        simp only [e1, e2, e3, e4, g1, g2, i1, cond_false, cond_true, Option.bind_some, guard_t]
        rw [guard_t (ble_t (by simp only [List.length_cons, List.length_nil]; omega))]
        rfl
    | cons x a =>
      have e1 : decide ((0 : Int) < (((x :: a).length : Nat) : Int)) = true := decide_eq_true (by rw [List.length_cons]; omega)
      have e4 : ((((x :: a).length : Nat) : Int) == 0) = false := by simp; omega
      right
      rw [e1, cond_true, Option.bind_some, cond_true]
      cases b with
      | nil =>
        simp only [List.length_nil, List.length_cons] at hs
        refine ⟨(o ++ [x], a, []), ?_, (by simp only [List.length_append, List.length_cons, List.length_nil]; omega), (by simp only [List.length_cons, List.length_nil]; omega), by simp [mergeV_nil_r]⟩
        have e3 : (((([] : List LV).length : Nat) : Int) == 0) = true := rfl
        rw [e3, cond_true, Option.bind_some, cond_true]
        show Option.bind (some x) _ = _
        rw [Option.bind_some, guard_t (by simp [Nat.ble]), guard_t (ble_t (by simp only [List.length_cons, List.length_nil]; omega))]
        rfl
      | cons y b =>
        simp only [List.length_cons] at hs
        have e3 : ((((y :: b).length : Nat) : Int) == 0) = false := by simp; omega
        have g1 : Nat.ble (1 : Int).toNat (x :: a).length = true := by simp [Nat.ble]
        have g2 : Nat.ble (1 : Int).toNat (y :: b).length = true := by simp [Nat.ble]
        have i1 : idx (x :: a) 0 = some x := rfl
        have i2 : idx (y :: b) 0 = some y := rfl
        have d1 : decide ((0 : Int) ≤ 1) = true := rfl
        rw [e3, cond_false, e4, cond_false, i1, i2, g1, g2, d1, cond_true]
        simp only [Option.bind_some]
        by_cases h1 : x.1 < y.1
        · rw [decide_eq_true h1]
          refine ⟨(o ++ [x], a, y :: b), ?_, (by simp only [List.length_append, List.length_cons, List.length_nil]; omega), (by simp only [List.length_cons]; omega), ?_⟩
          · simp only [cond_true, guard_t]; rw [guard_t (ble_t (by simp only [List.length_cons, List.length_nil]; omega))]; rfl
          · simp [mergeV, h1]
        · rw [decide_eq_false h1, cond_false]
          by_cases h2 : y.1 < x.1
          · rw [decide_eq_true h2]
            refine ⟨(o ++ [y], x :: a, b), ?_, (by simp only [List.length_append, List.length_cons, List.length_nil]; omega), (by simp only [List.length_cons]; omega), ?_⟩
            · simp only [cond_true, guard_t]; rw [guard_t (ble_t (by simp only [List.length_cons, List.length_nil]; omega))]; rfl
            · simp [mergeV, h1, h2]
          · rw [decide_eq_false h2]
            refine ⟨(o ++ [(x.1, max x.2 y.2)], a, b), ?_, (by simp only [List.length_append, List.length_cons, List.length_nil]; omega), (by simp only [List.length_cons]; omega), ?_⟩
            · rw [cond_false, cond_true, guard_t (b := true) rfl, guard_t (b := true) rfl, guard_t (ble_t (by simp only [List.length_cons, List.length_nil]; omega))]; rfl
            · simp [mergeV, h1, h2]) FUEL ([], a, b) (by simpa using hab) (by dsimp only; unfold FUEL; omega)
  simpa using key

theorem m24_eq {A B : Lvl} (ha : A.vs.length ≤ 100000) (hb : B.vs.length ≤ 100000) : m24 A B = some (maxL A B) := by
  unfold m24
  rw [guard_t (ble_t ha)]
  cases hA : validB A with
  | false => rw [maxL_inv (by rw [hA]; rfl)]; rfl
  | true =>
    simp only [Bool.not_true, cond_false]
    rw [guard_t (ble_t hb)]
    cases hB : validB B with
    | false => rw [maxL_inv (by rw [hB]; simp)]; rfl
    | true =>
      simp only [Bool.not_true, Option.bind_some, cond_false]
      rw [m24_loop _ _ (by omega)]
      simp only [Option.bind_some]
      have gA := good_valid hA; have gB := good_valid hB
      have g := good_merge gA gB
      rw [guard_t (ble_t g.wf.len), maxL_ok hA hB, join_trim gA gB]
      have ht : topL ⟨max A.c B.c, mergeV A.vs B.vs⟩ ≤ 100 := topL_le.2 ⟨by have := valid_c hA; have := valid_c hB; show max A.c B.c ≤ 100; omega, fun x hx => (merge_src gA.wf gB.wf hx).elim (fun h => (okV_valid hA h).2.2.2) fun h => (okV_valid hB h).2.2.2⟩
      rw [(lim_ok (lim_err.2 ht)).1]
end

section
open Go.RowKit Go.Shelf
set_option linter.unusedSimpArgs false
set_option linter.unusedVariables false

theorem en_22 : Enters Tryz.prog 22 := enters_of Tryz.func22 (by kernel_rfl) rfl
def m22_l0 (a0 : Lvl) (a1 : Int) (s1 : Int × (List LV)) : Option (LO (Int × (List LV)) (((List LV)))) :=
  cond (decide (s1.1 < (a0.vs.length : Int)))
    (Option.bind (idx a0.vs s1.1) fun (x9 : LV) =>
  guardO (Nat.ble (s1.2.length + ([(x9.1, (w64 (x9.2 + a1)))]).length) 1000000000)
  (some (.next ((w64 (s1.1 + 1)), (s1.2 ++ ([(x9.1, (w64 (x9.2 + a1)))]))))))
    (some (.done s1.2))

/-- euclid/level.Plus -/
def m22 (a0 : Lvl) (a1 : Int) : Option (Lvl × Int) :=
  guardO (Nat.ble a0.vs.length 100000)
  (cond (!(validB a0))
    (some ((⟨0, ([] : List LV)⟩ : Lvl), 3))
    (cond (decide (a1 < 0))
    (some ((⟨0, ([] : List LV)⟩ : Lvl), 2))
    (cond (decide (100 < a1))
    (some ((⟨0, ([] : List LV)⟩ : Lvl), 15))
    (Option.bind (cond (decide (0 < (a0.vs.length : Int)))
    (some (a0.c == 0))
    (some false)) (fun (v5 : Bool) => cond v5
    (Option.bind (loopN (m22_l0 a0 a1) FUEL (0, ([] : List LV))) (fun (o7 : (List LV)) => guardO (Nat.ble (⟨0, o7⟩ : Lvl).vs.length 100000)
  (some (((limL (⟨0, o7⟩ : Lvl)).1), (limL (⟨0, o7⟩ : Lvl)).2))))
    (Option.bind (loopN (m22_l0 a0 a1) FUEL (0, ([] : List LV))) (fun (o13 : (List LV)) => guardO (Nat.ble (⟨(w64 (a0.c + a1)), o13⟩ : Lvl).vs.length 100000)
  (some (((limL (⟨(w64 (a0.c + a1)), o13⟩ : Lvl)).1), (limL (⟨(w64 (a0.c + a1)), o13⟩ : Lvl)).2)))))))))

set_option maxRecDepth 100000 in
set_option maxHeartbeats 8000000 in
theorem m22_ok (a0 : Lvl) (a1 : Int) (r : Lvl × Int) (h0 : m22 a0 a1 = some r) : Fun Tryz.prog 22 [.agg (cE a0), .one (dI a1)] (resOf [.agg (cE r.1), .one (dI r.2)]) := by
  unfold m22 at h0
  refine Fun.of_bodyM 9 61 Tryz.func22 rfl en_22 rfl (lb rfl) (fun S w => ?_)
  simp only [entry]
  refine XC.seq <| XC.region <| XL.put rfl rfl (lb rfl) (OpOK.box rfl) <| XL.put rfl rfl (lb rfl) (OpOK.alloc z_24 rfl) <| rA rfl rfl rfl <| XL.nil <| XQ.seq <| XC.seq <| XC.block <| XC.seq <| XC.region <| rR rfl rfl rfl (RO.loadOwnAgg ag_24 rfl rfl rfl rfl) ?_
  refine guardK h0 (fun g1 h0 => ?_)
  refine XL.put rfl rfl (lb rfl) (OpOK.callFun (valid_fun a0 (Nat.le_of_ble_eq_true g1)) rfl (.cons (.agg (.cons (.d _) (.cons (.d _) .nil))) .nil)) ?_
  refine rR rfl rfl rfl (RO.not rfl) <| rA rfl rfl rfl <| XL.nil <| XQ.seq ?_
  refine XC.cond (b := (!(validB a0))) rfl (fun c2 => ?_) (fun c2 => ?_)
  ·
   replace h0 := condT c2 h0
   refine XC.seq <| XC.region <| rR rfl rfl rfl (RO.build0 bd_24 rfl ) <| XL.eff rfl rfl (OpOK.store ag_24 rfl rfl rfl rfl (lb rfl) rfl) <| rA rfl rfl rfl <| XL.nil <| XQ.seq <| XC.ret ?_
   have e_ := Option.some.inj h0
   subst e_
   exact XQ.retF (fun _ _ h => h) rfl (RAs.agg ag_24 rfl rfl rfl rfl (RAs.tmp rfl .nil)) (.cons (.agg (.cons (.d _) (.cons (.nil _) .nil))) (.cons (.one (.d _)) .nil))
  ·
   replace h0 := condF c2 h0
   refine XC.seq <| XC.region <| rM rfl rfl rfl <| rR rfl rfl rfl (RO.binInt rfl rfl rfl) <| rA rfl rfl rfl <| XL.nil <| XQ.seq ?_
   refine XC.cond (b := (decide (a1 < 0))) rfl (fun c3 => ?_) (fun c3 => ?_)
   ·
    replace h0 := condT c3 h0
    refine XC.seq <| XC.region <| rR rfl rfl rfl (RO.build0 bd_24 rfl ) <| XL.eff rfl rfl (OpOK.store ag_24 rfl rfl rfl rfl (lb rfl) rfl) <| rA rfl rfl rfl <| XL.nil <| XQ.seq <| XC.ret ?_
    have e_ := Option.some.inj h0
    subst e_
    exact XQ.retF (fun _ _ h => h) rfl (RAs.agg ag_24 rfl rfl rfl rfl (RAs.tmp rfl .nil)) (.cons (.agg (.cons (.d _) (.cons (.nil _) .nil))) (.cons (.one (.d _)) .nil))
   ·
    replace h0 := condF c3 h0
    refine XC.seq <| XC.region <| rM rfl rfl rfl <| rR rfl rfl rfl (RO.binInt rfl rfl rfl) <| rA rfl rfl rfl <| XL.nil <| XQ.seq ?_
    refine XC.cond (b := (decide (100 < a1))) rfl (fun c4 => ?_) (fun c4 => ?_)
    ·
     replace h0 := condT c4 h0
     refine XC.seq <| XC.region <| rR rfl rfl rfl (RO.build0 bd_24 rfl ) <| XL.eff rfl rfl (OpOK.store ag_24 rfl rfl rfl rfl (lb rfl) rfl) <| rA rfl rfl rfl <| XL.nil <| XQ.seq <| XC.ret ?_
     have e_ := Option.some.inj h0
     subst e_
     exact XQ.retF (fun _ _ h => h) rfl (RAs.agg ag_24 rfl rfl rfl rfl (RAs.tmp rfl .nil)) (.cons (.agg (.cons (.d _) (.cons (.nil _) .nil))) (.cons (.one (.d _)) .nil))
    ·
     replace h0 := condF c4 h0
     refine XC.skip <| XQ.inBlock <| XQ.seq <| XC.seq <| XC.region <| rR rfl rfl rfl (RO.fieldOwn fo_24_0 rfl) <| rR rfl rfl rfl (RO.loadOwn ag_3 rfl rfl rfl) <| rM rfl rfl rfl <| rR rfl rfl rfl (RO.binInt rfl rfl rfl) <| rR rfl rfl rfl (RO.build1 bd_24 rfl rfl rfl) <| XL.put rfl rfl (lb rfl) (OpOK.alloc z_24 rfl) <| XL.eff rfl rfl (OpOK.store ag_24 rfl rfl rfl rfl (lb rfl) rfl) <| XL.nil <| XQ.seq ?_
     refine XC.seq <| XC.seq ?_
     refine XC.joinR (fun (v5 : Bool) => ⟨[(1, .v (.one (dI a1))), (2, .v (.one (.ptr 0 0))), (4, .v (.one (.ptr 1 0))), (6, .v (.one (.ptr 2 0))), (35, .v (.one (dB v5)))], [(0, .cells 24 (cE a0)), (1, .cells 24 [dI 0, dN]), (2, .cells 24 [dI (w64 (a0.c + a1)), dN])], [], 3, 61, []⟩) (fun (v5 : Bool) => (cond v5
         (Option.bind (loopN (m22_l0 a0 a1) FUEL (0, ([] : List LV))) (fun (o7 : (List LV)) => guardO (Nat.ble (⟨0, o7⟩ : Lvl).vs.length 100000)
       (some (((limL (⟨0, o7⟩ : Lvl)).1), (limL (⟨0, o7⟩ : Lvl)).2))))
         (Option.bind (loopN (m22_l0 a0 a1) FUEL (0, ([] : List LV))) (fun (o13 : (List LV)) => guardO (Nat.ble (⟨(w64 (a0.c + a1)), o13⟩ : Lvl).vs.length 100000)
       (some (((limL (⟨(w64 (a0.c + a1)), o13⟩ : Lvl)).1), (limL (⟨(w64 (a0.c + a1)), o13⟩ : Lvl)).2))))) = some r) ?_ ?_
     ·
      refine bindK h0 (fun v_ h1 h0 => ?_)
      refine XC.region <| rR rfl rfl rfl (RO.fieldOwn fo_24_1 rfl) <| rR rfl rfl rfl (RO.loadOwn ag_22 rfl rfl rfl) <| rR rfl rfl rfl (RO.lenE (α := LV) sl_22 rfl (.d _)) <| rR rfl rfl rfl (RO.binInt rfl rfl rfl) <| rM rfl rfl rfl ?_
      refine XL.case (d := 31) (c := (decide (0 < (a0.vs.length : Int)))) rfl (fun c6 => ?_) (fun c6 => ?_)
      ·
       replace h1 := condT c6 h1
       refine rR rfl rfl rfl (RO.fieldOwn fo_24_0 rfl) <| rR rfl rfl rfl (RO.loadOwn ag_3 rfl rfl rfl) <| rR rfl rfl rfl (RO.binInt rfl rfl rfl) <| rR rfl rfl rfl (RO.pickT rfl rfl) <| XL.nil ?_
       have e_ := Option.some.inj h1
       subst e_
       exact XQ.joinR (a0.c == 0) (stle (tR rfl (tR rfl (tR rfl (tR rfl (tR rfl tZ))))) (hR rfl (hR rfl (hR rfl hZ))) kZ rfl (Nat.zero_le _) rfl rfl rfl (bB rfl rfl (bB rfl rfl (bB rfl rfl bZ))) rfl rfl) h0
      ·
       replace h1 := condF c6 h1
       refine XL.no rfl rfl <| XL.no rfl rfl <| XL.no rfl rfl <| rR rfl rfl rfl (RO.pickF rfl rfl) <| XL.nil ?_
       have e_ := Option.some.inj h1
       subst e_
       exact XQ.joinR false (stle (tR rfl (tR rfl (tR rfl (tR rfl (tR rfl tZ))))) (hR rfl (hR rfl (hR rfl hZ))) kZ rfl (Nat.zero_le _) rfl rfl rfl (bB rfl rfl (bB rfl rfl (bB rfl rfl bZ))) rfl rfl) h0
     ·
      intro v5 h0
      refine XQ.seq ?_
      refine XC.cond (b := v5) rfl (fun c7 => ?_) (fun c7 => ?_)
      ·
       replace h0 := condT c7 h0
       refine XC.region <| rR rfl rfl rfl (RO.fieldOwn fo_24_0 rfl) <| XL.eff rfl rfl (OpOK.store ag_3 rfl rfl rfl rfl (lb rfl) rfl) <| XL.nil <| XQ.seq <| XC.seq <| XC.seq <| XC.region <| rR rfl rfl rfl (RO.fieldOwn fo_24_1 rfl) <| rR rfl rfl rfl (RO.loadOwn ag_22 rfl rfl rfl) <| rR rfl rfl rfl (RO.lenE (α := LV) sl_22 rfl (.d _)) <| rM rfl rfl rfl <| XL.nil <| XQ.seq ?_
       refine XC.block ?_
       refine XC.joinX 1 (fun (o8 : (List LV)) => ⟨[(4, .v (.one (.ptr 1 0))), (6, .v (.one (.ptr 2 0)))], [(0, .cells 24 (cE a0)), (1, .cells 24 [dI 0, dN]), (2, .cells 24 [dI 0, dA 3 o8])], [(3, some ⟨69, 2, (Enc.encL o8).length⟩)], 4, 61, []⟩) (fun (o8 : (List LV)) => (guardO (Nat.ble (⟨0, o8⟩ : Lvl).vs.length 100000)
         (some (((limL (⟨0, o8⟩ : Lvl)).1), (limL (⟨0, o8⟩ : Lvl)).2))) = some r) ?_ ?_
       ·
        refine XC.adoptC (i := 2) (off := 1) 69 2 rfl rfl ?_
        refine bindK h0 (fun o9 hl1 h0 => ?_)
        refine XC.loopM (m22_l0 a0 a1) (fun s1 => ⟨[(1, .v (.one (dI a1))), (4, .v (.one (.ptr 1 0))), (6, .v (.one (.ptr 2 0))), (38, .v (.one (dS a0.vs))), (39, .v (.one (dI (a0.vs.length : Int)))), (40, .v (.one (dI s1.1)))], [(0, .cells 24 (cE a0)), (1, .cells 24 [dI 0, dN]), (2, .cells 24 [dI 0, dA 3 s1.2])], [(3, some ⟨69, 2, (Enc.encL s1.2).length⟩)], 4, 61, []⟩) (0, ([] : List LV)) o9 (stle (tR rfl (tR rfl (tR rfl (tR rfl (tR rfl (tR rfl tZ)))))) (hR rfl (hR rfl (hR rfl hZ))) (kR rfl kZ) rfl (Nat.zero_le _) rfl rfl rfl (bB rfl rfl (bB rfl rfl (bB rfl rfl bZ))) rfl rfl) hl1 (fun s1 n1 oo1 h1 ho1 => ?_)
        unfold m22_l0 at h1
        refine XC.seq <| XC.region <| rR rfl rfl rfl (RO.binInt rfl rfl rfl) <| XL.nil <| XQ.seq <| XC.seq ?_
        refine XC.cond (b := (decide (s1.1 < (a0.vs.length : Int)))) rfl (fun c10 => ?_) (fun c10 => ?_)
        ·
         replace h1 := condT c10 h1
         refine XC.skip <| XQ.seq <| XC.seq <| XC.block <| XC.seq <| XC.region ?_
         refine bindK h1 (fun x11 hx11 h1 => ?_)
         refine rR rfl rfl rfl (RO.indexE (α := LV) sl_22 rfl (.d _) rfl hx11) <| rR rfl rfl rfl (RO.loadPelAgg ag_69 rfl rfl rfl) <| XL.put rfl rfl (lb rfl) (OpOK.alloc z_69 rfl) <| XL.eff rfl rfl (OpOK.store ag_69 rfl rfl rfl rfl (lb rfl) rfl) <| XL.nil <| XQ.seq <| XC.region <| rR rfl rfl rfl (RO.fieldOwn fo_24_1 rfl) <| rR rfl rfl rfl (RO.loadOwn ag_22 rfl rfl rfl) <| rR rfl rfl rfl (RO.fieldOwn fo_69_0 rfl) <| rR rfl rfl rfl (RO.loadOwn ag_3 rfl rfl rfl) <| rR rfl rfl rfl (RO.fieldOwn fo_69_1 rfl) <| rR rfl rfl rfl (RO.loadOwn ag_3 rfl rfl rfl) <| rM rfl rfl rfl ?_
         refine rR rfl rfl rfl (RO.binInt rfl rfl rfl) <| rR rfl rfl rfl (RO.build2 bd_69 rfl rfl rfl rfl) <| XL.put rfl rfl (lb rfl) (OpOK.lit1E (α := LV) ((x11.1, (w64 (x11.2 + a1)))) sl_22 z_69 rfl rfl (lb rfl) (lb rfl) rfl rfl (.cons (.d _) (.cons (.d _) .nil)) rfl) ?_
         refine guardK h1 (fun g12 h1 => ?_)
         refine XL.put rfl rfl (lb rfl) (OpOK.appendE (α := LV) sl_22 el_69 rfl rfl rfl rfl rfl (.app _ _) g12) <| rR rfl rfl rfl (RO.fieldOwn fo_24_1 rfl) <| XL.eff rfl rfl (OpOK.store ag_22 rfl rfl rfl rfl (lb rfl) rfl) <| XL.nil <| XQ.inBlock <| XQ.seq <| XC.region <| rR rfl rfl rfl (RO.binInt rfl rfl rfl) <| rM rfl rfl rfl <| XL.nil ?_
         have e_ := Option.some.inj h1
         subst e_
         refine XQ.nextM ((w64 (s1.1 + 1)), (s1.2 ++ ([(x11.1, (w64 (x11.2 + a1)))]))) (stle (tR rfl (tR rfl (tR rfl (tR rfl (tR rfl (tR rfl tZ)))))) (hR rfl (hR rfl (hR rfl hZ))) (kR rfl kZ) rfl (Nat.zero_le _) rfl rfl rfl (bB rfl rfl (bB rfl rfl (bB rfl rfl bZ))) rfl rfl) ho1
        ·
         replace h1 := condF c10 h1
         refine XC.exit <| XQ.thenE <| XQ.thenE ?_
         have e_ := Option.some.inj h1
         subst e_
         have e_ : _ = _ := ho1
         subst e_
         exact XQ.joinX s1.2 (stle (tR rfl (tR rfl tZ)) (hR rfl (hR rfl (hR rfl hZ))) (kR rfl kZ) rfl (Nat.zero_le _) rfl rfl rfl (bB rfl rfl (bB rfl rfl (bB rfl rfl bZ))) rfl rfl) h0
       ·
        intro o8 h0
        refine XQ.blockX <| XQ.seq <| XC.seq <| XC.region <| rR rfl rfl rfl (RO.loadOwnAgg ag_24 rfl rfl rfl rfl) ?_
        refine guardK h0 (fun g13 h0 => ?_)
        refine XL.put rfl rfl (lb rfl) (OpOK.callFun (limited_fun (⟨0, o8⟩ : Lvl) (Nat.le_of_ble_eq_true g13)) rfl (.cons (.agg (.cons (.d _) (.cons (.app _ _ _) .nil))) .nil)) ?_
        refine rR rfl rfl rfl (RO.extract rfl rfl) <| rR rfl rfl rfl (RO.extract rfl rfl) <| XL.eff rfl rfl (OpOK.store ag_24 rfl rfl rfl rfl (lb rfl) rfl) <| rA rfl rfl rfl <| XL.nil <| XQ.seq <| XC.ret ?_
        have e_ := Option.some.inj h0
        subst e_
        exact XQ.retF (fun _ _ h => h) rfl (RAs.agg ag_24 rfl rfl rfl rfl (RAs.tmp rfl .nil)) (.cons (.agg (.cons (.d _) (.cons (.d _) .nil))) (.cons (.one (.d _)) .nil))
      ·
       replace h0 := condF c7 h0
       refine XC.skip <| XQ.seq <| XC.seq <| XC.seq <| XC.region <| rR rfl rfl rfl (RO.fieldOwn fo_24_1 rfl) <| rR rfl rfl rfl (RO.loadOwn ag_22 rfl rfl rfl) <| rR rfl rfl rfl (RO.lenE (α := LV) sl_22 rfl (.d _)) <| rM rfl rfl rfl <| XL.nil <| XQ.seq <| XC.block ?_
       refine XC.joinX 1 (fun (o14 : (List LV)) => ⟨[(4, .v (.one (.ptr 1 0))), (6, .v (.one (.ptr 2 0)))], [(0, .cells 24 (cE a0)), (1, .cells 24 [dI 0, dN]), (2, .cells 24 [dI (w64 (a0.c + a1)), dA 3 o14])], [(3, some ⟨69, 2, (Enc.encL o14).length⟩)], 4, 61, []⟩) (fun (o14 : (List LV)) => (guardO (Nat.ble (⟨(w64 (a0.c + a1)), o14⟩ : Lvl).vs.length 100000)
         (some (((limL (⟨(w64 (a0.c + a1)), o14⟩ : Lvl)).1), (limL (⟨(w64 (a0.c + a1)), o14⟩ : Lvl)).2))) = some r) ?_ ?_
       ·
        refine XC.adoptC (i := 2) (off := 1) 69 2 rfl rfl ?_
        refine bindK h0 (fun o15 hl1 h0 => ?_)
        refine XC.loopM (m22_l0 a0 a1) (fun s1 => ⟨[(1, .v (.one (dI a1))), (4, .v (.one (.ptr 1 0))), (6, .v (.one (.ptr 2 0))), (38, .v (.one (dS a0.vs))), (39, .v (.one (dI (a0.vs.length : Int)))), (40, .v (.one (dI s1.1)))], [(0, .cells 24 (cE a0)), (1, .cells 24 [dI 0, dN]), (2, .cells 24 [dI (w64 (a0.c + a1)), dA 3 s1.2])], [(3, some ⟨69, 2, (Enc.encL s1.2).length⟩)], 4, 61, []⟩) (0, ([] : List LV)) o15 (stle (tR rfl (tR rfl (tR rfl (tR rfl (tR rfl (tR rfl tZ)))))) (hR rfl (hR rfl (hR rfl hZ))) (kR rfl kZ) rfl (Nat.zero_le _) rfl rfl rfl (bB rfl rfl (bB rfl rfl (bB rfl rfl bZ))) rfl rfl) hl1 (fun s1 n1 oo1 h1 ho1 => ?_)
        unfold m22_l0 at h1
        refine XC.seq <| XC.region <| rR rfl rfl rfl (RO.binInt rfl rfl rfl) <| XL.nil <| XQ.seq <| XC.seq ?_
        refine XC.cond (b := (decide (s1.1 < (a0.vs.length : Int)))) rfl (fun c16 => ?_) (fun c16 => ?_)
        ·
         replace h1 := condT c16 h1
         refine XC.skip <| XQ.seq <| XC.seq <| XC.block <| XC.seq <| XC.region ?_
         refine bindK h1 (fun x17 hx17 h1 => ?_)
         refine rR rfl rfl rfl (RO.indexE (α := LV) sl_22 rfl (.d _) rfl hx17) <| rR rfl rfl rfl (RO.loadPelAgg ag_69 rfl rfl rfl) <| XL.put rfl rfl (lb rfl) (OpOK.alloc z_69 rfl) <| XL.eff rfl rfl (OpOK.store ag_69 rfl rfl rfl rfl (lb rfl) rfl) <| XL.nil <| XQ.seq <| XC.region <| rR rfl rfl rfl (RO.fieldOwn fo_24_1 rfl) <| rR rfl rfl rfl (RO.loadOwn ag_22 rfl rfl rfl) <| rR rfl rfl rfl (RO.fieldOwn fo_69_0 rfl) <| rR rfl rfl rfl (RO.loadOwn ag_3 rfl rfl rfl) <| rR rfl rfl rfl (RO.fieldOwn fo_69_1 rfl) <| rR rfl rfl rfl (RO.loadOwn ag_3 rfl rfl rfl) <| rM rfl rfl rfl ?_
         refine rR rfl rfl rfl (RO.binInt rfl rfl rfl) <| rR rfl rfl rfl (RO.build2 bd_69 rfl rfl rfl rfl) <| XL.put rfl rfl (lb rfl) (OpOK.lit1E (α := LV) ((x17.1, (w64 (x17.2 + a1)))) sl_22 z_69 rfl rfl (lb rfl) (lb rfl) rfl rfl (.cons (.d _) (.cons (.d _) .nil)) rfl) ?_
         refine guardK h1 (fun g18 h1 => ?_)
         refine XL.put rfl rfl (lb rfl) (OpOK.appendE (α := LV) sl_22 el_69 rfl rfl rfl rfl rfl (.app _ _) g18) <| rR rfl rfl rfl (RO.fieldOwn fo_24_1 rfl) <| XL.eff rfl rfl (OpOK.store ag_22 rfl rfl rfl rfl (lb rfl) rfl) <| XL.nil <| XQ.inBlock <| XQ.seq <| XC.region <| rR rfl rfl rfl (RO.binInt rfl rfl rfl) <| rM rfl rfl rfl <| XL.nil ?_
         have e_ := Option.some.inj h1
         subst e_
         refine XQ.nextM ((w64 (s1.1 + 1)), (s1.2 ++ ([(x17.1, (w64 (x17.2 + a1)))]))) (stle (tR rfl (tR rfl (tR rfl (tR rfl (tR rfl (tR rfl tZ)))))) (hR rfl (hR rfl (hR rfl hZ))) (kR rfl kZ) rfl (Nat.zero_le _) rfl rfl rfl (bB rfl rfl (bB rfl rfl (bB rfl rfl bZ))) rfl rfl) ho1
        ·
         replace h1 := condF c16 h1
         refine XC.exit <| XQ.thenE <| XQ.thenE ?_
         have e_ := Option.some.inj h1
         subst e_
         have e_ : _ = _ := ho1
         subst e_
         exact XQ.joinX s1.2 (stle (tR rfl (tR rfl tZ)) (hR rfl (hR rfl (hR rfl hZ))) (kR rfl kZ) rfl (Nat.zero_le _) rfl rfl rfl (bB rfl rfl (bB rfl rfl (bB rfl rfl bZ))) rfl rfl) h0
       ·
        intro o14 h0
        refine XQ.blockX <| XQ.seq <| XC.seq <| XC.region <| rR rfl rfl rfl (RO.loadOwnAgg ag_24 rfl rfl rfl rfl) ?_
        refine guardK h0 (fun g19 h0 => ?_)
        refine XL.put rfl rfl (lb rfl) (OpOK.callFun (limited_fun (⟨(w64 (a0.c + a1)), o14⟩ : Lvl) (Nat.le_of_ble_eq_true g19)) rfl (.cons (.agg (.cons (.d _) (.cons (.app _ _ _) .nil))) .nil)) ?_
        refine rR rfl rfl rfl (RO.extract rfl rfl) <| rR rfl rfl rfl (RO.extract rfl rfl) <| XL.eff rfl rfl (OpOK.store ag_24 rfl rfl rfl rfl (lb rfl) rfl) <| rA rfl rfl rfl <| XL.nil <| XQ.seq <| XC.ret ?_
        have e_ := Option.some.inj h0
        subst e_
        exact XQ.retF (fun _ _ h => h) rfl (RAs.agg ag_24 rfl rfl rfl rfl (RAs.tmp rfl .nil)) (.cons (.agg (.cons (.d _) (.cons (.d _) .nil))) (.cons (.one (.d _)) .nil))
end

section
open Go.RowKit Go.Shelf
set_option linter.unusedSimpArgs false
set_option linter.unusedVariables false

theorem en_4 : Enters Tryz.prog 4 := enters_of Tryz.func4 (by kernel_rfl) rfl
/-- euclid/euclidlaw01.LevelAdds -/
def m4 (a0 : Lvl) (a1 : Lvl) (a2 : Int) : Option Bool :=
  Option.bind (m13 ([a0, a1])) fun (x1 : Bool) =>
  cond (!x1)
    (some true)
    (Option.bind (m22 a0 a2) fun (x3 : Lvl × Int) =>
  guardO (Nat.ble a0.vs.length 100000)
  (Option.bind (m24 a0 a1) fun (x5 : Lvl × Int) =>
  guardO ((cond (Nat.ble a0.vs.length 100000) (Nat.ble a1.vs.length 100000) false))
  (Option.bind (Option.bind (m21 x3.1 ((plusL a0 a2).1)) fun (x8 : Bool) =>
  cond x8
    (cond (x3.2 == ((plusL a0 a2).2))
    (Option.bind (m21 x5.1 ((maxL a0 a1).1)) fun (x11 : Bool) =>
  cond x11
    (cond (x5.2 == ((maxL a0 a1).2))
    (some true)
    (some false))
    (some false))
    (some false))
    (some false)) (fun (v7 : Bool) => some v7))))

set_option maxRecDepth 100000 in
set_option maxHeartbeats 8000000 in
theorem m4_ok (a0 : Lvl) (a1 : Lvl) (a2 : Int) (r : Bool) (h0 : m4 a0 a1 a2 = some r) : Fun Tryz.prog 4 [.agg (cE a0), .agg (cE a1), .one (dI a2)] (resOf [.one (dB r)]) := by
  unfold m4 at h0
  refine Fun.of_bodyM 9 66 Tryz.func4 rfl en_4 rfl (lb rfl) (fun S w => ?_)
  simp only [entry]
  refine XC.seq <| XC.region <| XL.put rfl rfl (lb rfl) (OpOK.box rfl) <| XL.put rfl rfl (lb rfl) (OpOK.box rfl) <| rA rfl rfl rfl <| XL.nil <| XQ.seq <| XC.seq <| XC.seq <| XC.region <| rR rfl rfl rfl (RO.loadOwnAgg ag_24 rfl rfl rfl rfl) <| rR rfl rfl rfl (RO.loadOwnAgg ag_24 rfl rfl rfl rfl) <| XL.put rfl rfl (lb rfl) (OpOK.data2E (α := Lvl) a0 a1 sl_55 z_24 rfl rfl (lb rfl) rfl rfl rfl (.cons (.d _) (.cons (.d _) (.cons (.d _) (.cons (.d _) .nil)))) ⟨rfl, rfl⟩) ?_
  refine bindK h0 (fun x1 hx1 h0 => ?_)
  refine XL.put rfl rfl (lb rfl) (OpOK.callFun (m13_ok ([a0, a1]) x1 hx1) rfl (.cons (.one (.d _)) .nil)) <| rR rfl rfl rfl (RO.not rfl) <| XL.nil <| XQ.seq ?_
  refine XC.cond (b := (!x1)) rfl (fun c2 => ?_) (fun c2 => ?_)
  ·
   replace h0 := condT c2 h0
   refine XC.seq <| XC.region <| XL.put rfl rfl (lb rfl) (OpOK.callFun (awake_fun) rfl .nil) <| rA rfl rfl rfl <| XL.nil <| XQ.seq <| XC.ret ?_
   have e_ := Option.some.inj h0
   subst e_
   exact XQ.retF (fun _ _ h => h) rfl (RAs.tmp rfl .nil) (.cons (.one (.d _)) .nil)
  ·
   replace h0 := condF c2 h0
   refine XC.skip <| XQ.seq <| XC.seq <| XC.region <| rR rfl rfl rfl (RO.loadOwnAgg ag_24 rfl rfl rfl rfl) <| rM rfl rfl rfl ?_
   refine bindK h0 (fun x3 hx3 h0 => ?_)
   refine XL.put rfl rfl (lb rfl) (OpOK.callFun (m22_ok a0 a2 x3 hx3) rfl (.cons (.agg (.cons (.d _) (.cons (.d _) .nil))) (.cons (.one (.d _)) .nil))) <| rM rfl rfl rfl <| rR rfl rfl rfl (RO.extract rfl rfl) <| rR rfl rfl rfl (RO.extract rfl rfl) <| XL.put rfl rfl (lb rfl) (OpOK.alloc z_24 rfl) <| XL.eff rfl rfl (OpOK.store ag_24 rfl rfl rfl rfl (lb rfl) rfl) <| rA rfl rfl rfl <| XL.nil <| XQ.seq <| XC.seq <| XC.region <| rR rfl rfl rfl (RO.loadOwnAgg ag_24 rfl rfl rfl rfl) <| rM rfl rfl rfl ?_
   refine guardK h0 (fun g4 h0 => ?_)
   refine XL.put rfl rfl (lb rfl) (OpOK.callFun (plusR_fun a0 a2 (Nat.le_of_ble_eq_true g4)) rfl (.cons (.agg (.cons (.d _) (.cons (.d _) .nil))) (.cons (.one (.d _)) .nil))) ?_
   refine rM rfl rfl rfl <| rR rfl rfl rfl (RO.extract rfl rfl) <| rR rfl rfl rfl (RO.extract rfl rfl) <| XL.put rfl rfl (lb rfl) (OpOK.alloc z_24 rfl) <| XL.eff rfl rfl (OpOK.store ag_24 rfl rfl rfl rfl (lb rfl) rfl) <| rA rfl rfl rfl <| XL.nil <| XQ.seq <| XC.seq <| XC.region <| rR rfl rfl rfl (RO.loadOwnAgg ag_24 rfl rfl rfl rfl) <| rR rfl rfl rfl (RO.loadOwnAgg ag_24 rfl rfl rfl rfl) ?_
   refine bindK h0 (fun x5 hx5 h0 => ?_)
   refine XL.put rfl rfl (lb rfl) (OpOK.callFun (m24_ok a0 a1 x5 hx5) rfl (.cons (.agg (.cons (.d _) (.cons (.d _) .nil))) (.cons (.agg (.cons (.d _) (.cons (.d _) .nil))) .nil))) <| rM rfl rfl rfl <| rR rfl rfl rfl (RO.extract rfl rfl) <| rR rfl rfl rfl (RO.extract rfl rfl) <| XL.put rfl rfl (lb rfl) (OpOK.alloc z_24 rfl) <| XL.eff rfl rfl (OpOK.store ag_24 rfl rfl rfl rfl (lb rfl) rfl) <| rA rfl rfl rfl <| XL.nil <| XQ.seq <| XC.seq <| XC.region <| rR rfl rfl rfl (RO.loadOwnAgg ag_24 rfl rfl rfl rfl) <| rR rfl rfl rfl (RO.loadOwnAgg ag_24 rfl rfl rfl rfl) ?_
   refine guardK h0 (fun g6 h0 => ?_)
   refine XL.put rfl rfl (lb rfl) (OpOK.callFun (maxR_fun a0 a1 (Nat.le_of_ble_eq_true (cond_left g6)) (Nat.le_of_ble_eq_true (cond_right g6))) rfl (.cons (.agg (.cons (.d _) (.cons (.d _) .nil))) (.cons (.agg (.cons (.d _) (.cons (.d _) .nil))) .nil))) ?_
   refine rM rfl rfl rfl <| rR rfl rfl rfl (RO.extract rfl rfl) <| rR rfl rfl rfl (RO.extract rfl rfl) <| XL.put rfl rfl (lb rfl) (OpOK.alloc z_24 rfl) <| XL.eff rfl rfl (OpOK.store ag_24 rfl rfl rfl rfl (lb rfl) rfl) <| rA rfl rfl rfl <| XL.nil <| XQ.seq <| XC.seq ?_
   refine XC.joinR (fun (v7 : Bool) => ⟨[(6, .v (.one (dB v7)))], [(0, .cells 24 (cE a0)), (1, .cells 24 (cE a1)), (2, .cells 24 (cE x3.1)), (3, .cells 24 [dI (((plusL a0 a2).1).c), dS (((plusL a0 a2).1).vs : List LV)]), (4, .cells 24 (cE x5.1)), (5, .cells 24 [dI (((maxL a0 a1).1).c), dS (((maxL a0 a1).1).vs : List LV)])], [], 6, 66, []⟩) (fun (v7 : Bool) => (some v7) = some r) ?_ ?_
   ·
    refine bindK h0 (fun v_ h1 h0 => ?_)
    refine XC.region <| rR rfl rfl rfl (RO.loadOwnAgg ag_24 rfl rfl rfl rfl) <| rR rfl rfl rfl (RO.loadOwnAgg ag_24 rfl rfl rfl rfl) ?_
    refine bindK h1 (fun x8 hx8 h1 => ?_)
    refine XL.put rfl rfl (lb rfl) (OpOK.callFun (m21_ok x3.1 ((plusL a0 a2).1) x8 hx8) rfl (.cons (.agg (.cons (.d _) (.cons (.d _) .nil))) (.cons (.agg (.cons (.d _) (.cons (.d _) .nil))) .nil))) <| rM rfl rfl rfl ?_
    refine XL.case (d := 48) (c := x8) rfl (fun c9 => ?_) (fun c9 => ?_)
    ·
     replace h1 := condT c9 h1
     refine rM rfl rfl rfl <| rM rfl rfl rfl <| rR rfl rfl rfl (RO.binInt rfl rfl rfl) <| rR rfl rfl rfl (RO.pickT rfl rfl) <| rM rfl rfl rfl ?_
     refine XL.case (d := 53) (c := (x3.2 == ((plusL a0 a2).2))) rfl (fun c10 => ?_) (fun c10 => ?_)
     ·
      replace h1 := condT c10 h1
      refine rR rfl rfl rfl (RO.loadOwnAgg ag_24 rfl rfl rfl rfl) <| rR rfl rfl rfl (RO.loadOwnAgg ag_24 rfl rfl rfl rfl) ?_
      refine bindK h1 (fun x11 hx11 h1 => ?_)
      refine XL.put rfl rfl (lb rfl) (OpOK.callFun (m21_ok x5.1 ((maxL a0 a1).1) x11 hx11) rfl (.cons (.agg (.cons (.d _) (.cons (.d _) .nil))) (.cons (.agg (.cons (.d _) (.cons (.d _) .nil))) .nil))) <| rR rfl rfl rfl (RO.pickT rfl rfl) <| rM rfl rfl rfl ?_
      refine XL.case (d := 58) (c := x11) rfl (fun c12 => ?_) (fun c12 => ?_)
      ·
       replace h1 := condT c12 h1
       refine rM rfl rfl rfl <| rM rfl rfl rfl <| rR rfl rfl rfl (RO.binInt rfl rfl rfl) <| rR rfl rfl rfl (RO.pickT rfl rfl) <| rM rfl rfl rfl ?_
       refine XL.case (d := 63) (c := (x5.2 == ((maxL a0 a1).2))) rfl (fun c13 => ?_) (fun c13 => ?_)
       ·
        replace h1 := condT c13 h1
        refine XL.put rfl rfl (lb rfl) (OpOK.callFun (awake_fun) rfl .nil) <| rR rfl rfl rfl (RO.pickT rfl rfl) <| rA rfl rfl rfl <| XL.nil ?_
        have e_ := Option.some.inj h1
        subst e_
        exact XQ.joinR true (stle (tR rfl tZ) (hR rfl (hR rfl (hR rfl (hR rfl (hR rfl (hR rfl hZ)))))) kZ rfl (Nat.zero_le _) rfl rfl rfl (bB rfl rfl (bB rfl rfl (bB rfl rfl (bB rfl rfl (bB rfl rfl (bB rfl rfl bZ)))))) rfl rfl) h0
       ·
        replace h1 := condF c13 h1
        refine XL.no rfl rfl <| rR rfl rfl rfl (RO.pickF rfl rfl) <| rA rfl rfl rfl <| XL.nil ?_
        have e_ := Option.some.inj h1
        subst e_
        exact XQ.joinR false (stle (tR rfl tZ) (hR rfl (hR rfl (hR rfl (hR rfl (hR rfl (hR rfl hZ)))))) kZ rfl (Nat.zero_le _) rfl rfl rfl (bB rfl rfl (bB rfl rfl (bB rfl rfl (bB rfl rfl (bB rfl rfl (bB rfl rfl bZ)))))) rfl rfl) h0
      ·
       replace h1 := condF c12 h1
       refine XL.no rfl rfl <| XL.no rfl rfl <| XL.no rfl rfl <| rR rfl rfl rfl (RO.pickF rfl rfl) <| rM rfl rfl rfl <| XL.no rfl rfl <| rR rfl rfl rfl (RO.pickF rfl rfl) <| rA rfl rfl rfl <| XL.nil ?_
       have e_ := Option.some.inj h1
       subst e_
       exact XQ.joinR false (stle (tR rfl tZ) (hR rfl (hR rfl (hR rfl (hR rfl (hR rfl (hR rfl hZ)))))) kZ rfl (Nat.zero_le _) rfl rfl rfl (bB rfl rfl (bB rfl rfl (bB rfl rfl (bB rfl rfl (bB rfl rfl (bB rfl rfl bZ)))))) rfl rfl) h0
     ·
      replace h1 := condF c10 h1
      refine XL.no rfl rfl <| XL.no rfl rfl <| XL.no rfl rfl <| rR rfl rfl rfl (RO.pickF rfl rfl) <| rM rfl rfl rfl <| XL.no rfl rfl <| XL.no rfl rfl <| XL.no rfl rfl <| rR rfl rfl rfl (RO.pickF rfl rfl) <| rM rfl rfl rfl <| XL.no rfl rfl <| rR rfl rfl rfl (RO.pickF rfl rfl) <| rA rfl rfl rfl <| XL.nil ?_
      have e_ := Option.some.inj h1
      subst e_
      exact XQ.joinR false (stle (tR rfl tZ) (hR rfl (hR rfl (hR rfl (hR rfl (hR rfl (hR rfl hZ)))))) kZ rfl (Nat.zero_le _) rfl rfl rfl (bB rfl rfl (bB rfl rfl (bB rfl rfl (bB rfl rfl (bB rfl rfl (bB rfl rfl bZ)))))) rfl rfl) h0
    ·
     replace h1 := condF c9 h1
     refine XL.no rfl rfl <| XL.no rfl rfl <| XL.no rfl rfl <| rR rfl rfl rfl (RO.pickF rfl rfl) <| rM rfl rfl rfl <| XL.no rfl rfl <| XL.no rfl rfl <| XL.no rfl rfl <| rR rfl rfl rfl (RO.pickF rfl rfl) <| rM rfl rfl rfl <| XL.no rfl rfl <| XL.no rfl rfl <| XL.no rfl rfl <| rR rfl rfl rfl (RO.pickF rfl rfl) ?_
     refine rM rfl rfl rfl <| XL.no rfl rfl <| rR rfl rfl rfl (RO.pickF rfl rfl) <| rA rfl rfl rfl <| XL.nil ?_
     have e_ := Option.some.inj h1
     subst e_
     exact XQ.joinR false (stle (tR rfl tZ) (hR rfl (hR rfl (hR rfl (hR rfl (hR rfl (hR rfl hZ)))))) kZ rfl (Nat.zero_le _) rfl rfl rfl (bB rfl rfl (bB rfl rfl (bB rfl rfl (bB rfl rfl (bB rfl rfl (bB rfl rfl bZ)))))) rfl rfl) h0
   ·
    intro v7 h0
    refine XQ.seq <| XC.ret ?_
    have e_ := Option.some.inj h0
    subst e_
    exact XQ.retF (fun _ _ h => h) rfl (RAs.tmp rfl .nil) (.cons (.one (.d _)) .nil)
end

section
open Go.RowKit
set_option linter.unusedSimpArgs false
set_option linter.unusedVariables false

theorem m22_loop {L : Lvl} {n : Int} (hL : validB L = true) (hn : 0 ≤ n ∧ n ≤ 100) : loopN (m22_l0 L n) FUEL (0, []) = some (upV n L.vs) := by
  have hlen := (wf_valid hL).len
  have key := fold_loopG (step := m22_l0 L n) (l := L.vs) (fun i s => (i, s)) (fun s => s) (fun o (x : LV) => o ++ [(x.1, x.2 + n)]) (fun k s => s.length ≤ k) (by omega) (fun k x s hx hs => by
    have hk := (List.getElem?_eq_some_iff.1 hx).1
    have hv := valid_okVar hL hx
    refine ⟨?_, by simp; omega⟩
    unfold m22_l0
    dsimp only
    rw [decide_eq_true (by omega : (k : Int) < L.vs.length), cond_true, idx_nat (Int.natCast_nonneg _) (by simpa using hx), Option.bind_some, w64_id (n := x.2 + n) (by omega) (by omega), guard_t (ble_t (by simp; omega))]) (fun s _ => by unfold m22_l0; dsimp only; rw [decide_eq_false (by omega), cond_false]) [] (Nat.le_refl _)
  rw [key, foldl_snoc]
  rfl
/-- what limited makes of the sums is what plusL says -/
theorem lim_plus {L : Lvl} {n : Int} (hL : validB L = true) (hn : 0 ≤ n ∧ n ≤ 100) : limL ⟨if L.vs ≠ [] ∧ L.c = 0 then 0 else L.c + n, upV n L.vs⟩ = plusL L n := by
  have h0 := valid_c hL
  have hne : upV n L.vs = [] ↔ L.vs = [] := by simp [upV]
  have e : (if L.vs ≠ [] ∧ L.c = 0 then 0 else L.c + n) = plusC L n := by
    unfold plusC
    by_cases h1 : L.vs = []
    · rw [if_neg (by simp [h1]), if_pos (.inr h1)]
    · by_cases h2 : L.c = 0
      · rw [if_pos ⟨h1, h2⟩, if_neg (by simp [h1]; omega)]
      · rw [if_neg (by simp [h2]), if_pos (.inl (by omega))]
  rw [e]
  have hbig : bigB ⟨plusC L n, upV n L.vs⟩ = tooBig L n := by
    unfold bigB tooBig
    rw [Bool.or_comm]
    congr 1
    simp [upV, List.any_map, Function.comp_def]
  have hp : plusL L n = if tooBig L n then (⟨0, []⟩, 15) else (⟨plusC L n, upV n L.vs⟩, 0) := by
    unfold plusL
    rw [if_neg (show ¬ validB L = false by simp [hL]), if_neg (show ¬ n < 0 by omega), if_neg (show ¬ 100 < n by omega)]
  unfold limL
  rw [hbig, hp]
  cases ht : tooBig L n with
  | true => rfl
  | false =>
    rw [if_neg Bool.false_ne_true, if_neg Bool.false_ne_true]
    have hcov : covB (plusC L n) (upV n L.vs) = true → plusC L n = 0 := fun h => by
      obtain ⟨y, hy, h3⟩ := cov_mem.1 h
      obtain ⟨x, hx, rfl⟩ := upV_mem.1 hy
      dsimp only at h3
      unfold plusC at h3 ⊢
      by_cases hc : 0 < L.c ∨ L.vs = []
      · rw [if_pos hc] at h3
        rcases hc with hc | hc
        · have := ((valid_parts L).1 hL).2.2.1 hc
          rw [cov_mem.2 ⟨x, hx, by omega⟩] at this; cases this
        · rw [hc] at hx; cases hx
      · rw [if_neg hc]
    unfold trimL
    dsimp only
    by_cases hc : covB (plusC L n) (upV n L.vs) = true
    · rw [if_pos hc, hcov hc]
    · rw [if_neg hc]
theorem m22_eq {L : Lvl} {n : Int} (hl : L.vs.length ≤ 100000) : m22 L n = some (plusL L n) := by
  unfold m22
  rw [guard_t (ble_t hl)]
  cases hL : validB L with
  | false => rw [plusL_inv hL]; rfl
  | true =>
    simp only [Bool.not_true, cond_false]
    by_cases h1 : n < 0
    · rw [decide_eq_true h1, cond_true, plusL_neg hL h1]
    · rw [decide_eq_false h1, cond_false]
      by_cases h2 : 100 < n
      · rw [decide_eq_true h2, cond_true, plusL_big hL (by omega) h2]
      · rw [decide_eq_false h2, cond_false]
        have hn' : 0 ≤ n ∧ n ≤ 100 := ⟨by omega, by omega⟩
        have hw : (upV n L.vs).length ≤ 100000 := by unfold upV; rw [List.length_map]; exact hl
        have h0 := valid_c hL
        rw [← lim_plus hL hn']
        have fin : ∀ c : Int, (Option.bind (loopN (m22_l0 L n) FUEL (0, ([] : List LV))) (fun (o7 : (List LV)) => guardO (Nat.ble (⟨c, o7⟩ : Lvl).vs.length 100000)
  (some (((limL (⟨c, o7⟩ : Lvl)).1), (limL (⟨c, o7⟩ : Lvl)).2)))) = some (limL ⟨c, upV n L.vs⟩) := fun c => by
          rw [m22_loop hL hn', Option.bind_some, guard_t (ble_t hw)]
        by_cases hv : L.vs = []
        · have e : decide (0 < (L.vs.length : Int)) = false := decide_eq_false (by rw [hv]; simp)
          rw [e, cond_false, Option.bind_some, cond_false, if_neg (by simp [hv]), fin, w64_id (by omega) (by omega)]
        · have e : decide (0 < (L.vs.length : Int)) = true := decide_eq_true (by have := List.length_pos_iff.2 hv; omega)
          rw [e, cond_true, Option.bind_some]
          by_cases hc : L.c = 0
          · rw [show (L.c == 0) = true by rw [hc]; rfl, cond_true, if_pos ⟨hv, hc⟩, fin]
          · rw [show (L.c == 0) = false by simpa using hc, cond_false, if_neg (by simp [hc]), fin, w64_id (by omega) (by omega)]
theorem plus_len {L : Lvl} {n : Int} (h : L.vs.length ≤ 900000) : (plusL L n).1.vs.length ≤ 900000 := by
  unfold plusL
  split
  · simp
  · split
    · simp
    · split
      · simp
      · split
        · simp
        · show (upV n L.vs).length ≤ 900000; unfold upV; rw [List.length_map]; exact h
theorem max_len (A B : Lvl) : (maxL A B).1.vs.length ≤ 900000 := by
  unfold maxL
  split
  · rename_i h
    rw [Bool.and_eq_true] at h
    have := (wf_join (wf_valid h.1) (wf_valid h.2)).len
    show (joinL A B).vs.length ≤ 900000
    omega
  · simp
theorem m4_eq (a0 a1 : Lvl) (a2 : Int) : m4 a0 a1 a2 = some true := by
  unfold m4
  rw [m13_eq (by simp), Option.bind_some]
  cases hf : few12 [a0, a1] with
  | false => rfl
  | true =>
    have h0 := few_len hf (x := a0) (by simp)
    have h1 := few_len hf (x := a1) (by simp)
    simp only [Bool.not_true, cond_false]
    rw [m22_eq (by omega), Option.bind_some, guard_t (ble_t (by omega)), m24_eq (by omega) (by omega), Option.bind_some, guard_t (g2 (by omega) (by omega)), m21_eq (plus_len (by omega)), sameB_refl, m21_eq (max_len _ _), sameB_refl]
    simp
end

end Go.Proofs.YtcapifnaceegmaaGreatDoor
