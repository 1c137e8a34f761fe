/- Mirrors of layer 1: the reference Subst and Assign. few, for lists of any length. Mirrors of layer 1: the law of Subst and Assign. Plain laws of layer 1: the references Subst and Assign; the law of Subst and Assign. -/
import Derived.Test.YtcapifnaceegmaaGreatDoorPl12
import Derived.Test.YtcapifnaceegmaaGreatDoorFd
import Derived.Test.YtcapifnaceegmaaGreatDoorFc
import Derived.Test.YtcapifnaceegmaaGreatDoorPsu
import Derived.Test.YtcapifnaceegmaaGreatDoorPg
import Derived.Test.YtcapifnaceegmaaGreatDoorAw
namespace Go.Proofs.YtcapifnaceegmaaGreatDoor
section
open Go.RowKit Go.Shelf
set_option linter.unusedSimpArgs false
set_option linter.unusedVariables false

theorem en_35 : Enters Tryz.prog 35 := enters_of Tryz.func35 (by kernel_rfl) rfl
theorem en_37 : Enters Tryz.prog 37 := enters_of Tryz.func37 (by kernel_rfl) rfl
def m73_l0 (a0 : Lvl) (a2 : Bool) (a1 : List Lvl) (s1 : Int × Int × (List LV)) : Option (LO (Int × Int × (List LV)) ((Int × (List LV)) ⊕ (Lvl × Int))) :=
  cond (decide (s1.1 < (a0.vs.length : Int)))
    (Option.bind (idx a0.vs s1.1) fun (x3 : LV) =>
  cond a2
    (Option.bind (cond ((decide (x3.1 < 0)) == a2)
    (some (decide ((w64 ((-1) - x3.1)) < (a1.length : Int))))
    (some false)) (fun (v5 : Bool) => cond v5
    (Option.bind (idx a1 (w64 ((-1) - x3.1))) fun (x7 : Lvl) =>
  guardO (Nat.ble x7.vs.length 100000)
  (cond (((plusL x7 x3.2).2) != 0)
    (some (.done (.inr ((⟨0, ([] : List LV)⟩ : Lvl), (plusL x7 x3.2).2))))
    (guardO ((cond (Nat.ble (⟨s1.2.1, s1.2.2⟩ : Lvl).vs.length 100000) (Nat.ble ((plusL x7 x3.2).1).vs.length 100000) false))
  (some (.next ((w64 (s1.1 + 1)), (joinL (⟨s1.2.1, s1.2.2⟩ : Lvl) ((plusL x7 x3.2).1)).c, (joinL (⟨s1.2.1, s1.2.2⟩ : Lvl) ((plusL x7 x3.2).1)).vs))))))
    (guardO ((cond (Nat.ble (⟨s1.2.1, s1.2.2⟩ : Lvl).vs.length 100000) (Nat.ble (⟨0, [x3]⟩ : Lvl).vs.length 100000) false))
  (some (.next ((w64 (s1.1 + 1)), (joinL (⟨s1.2.1, s1.2.2⟩ : Lvl) (⟨0, [x3]⟩ : Lvl)).c, (joinL (⟨s1.2.1, s1.2.2⟩ : Lvl) (⟨0, [x3]⟩ : Lvl)).vs))))))
    (Option.bind (cond ((decide (x3.1 < 0)) == a2)
    (some (decide (x3.1 < (a1.length : Int))))
    (some false)) (fun (v13 : Bool) => cond v13
    (Option.bind (idx a1 x3.1) fun (x15 : Lvl) =>
  guardO (Nat.ble x15.vs.length 100000)
  (cond (((plusL x15 x3.2).2) != 0)
    (some (.done (.inr ((⟨0, ([] : List LV)⟩ : Lvl), (plusL x15 x3.2).2))))
    (guardO ((cond (Nat.ble (⟨s1.2.1, s1.2.2⟩ : Lvl).vs.length 100000) (Nat.ble ((plusL x15 x3.2).1).vs.length 100000) false))
  (some (.next ((w64 (s1.1 + 1)), (joinL (⟨s1.2.1, s1.2.2⟩ : Lvl) ((plusL x15 x3.2).1)).c, (joinL (⟨s1.2.1, s1.2.2⟩ : Lvl) ((plusL x15 x3.2).1)).vs))))))
    (guardO ((cond (Nat.ble (⟨s1.2.1, s1.2.2⟩ : Lvl).vs.length 100000) (Nat.ble (⟨0, [x3]⟩ : Lvl).vs.length 100000) false))
  (some (.next ((w64 (s1.1 + 1)), (joinL (⟨s1.2.1, s1.2.2⟩ : Lvl) (⟨0, [x3]⟩ : Lvl)).c, (joinL (⟨s1.2.1, s1.2.2⟩ : Lvl) (⟨0, [x3]⟩ : Lvl)).vs)))))))
    (some (.done (.inl (s1.2.1, s1.2.2))))

/-- euclid/euclidref01.replace -/
def m73 (a0 : Lvl) (a1 : List Lvl) (a2 : Bool) : Option (Lvl × Int) :=
  Option.bind (loopN (m73_l0 a0 a2 a1) FUEL (0, (⟨a0.c, []⟩ : Lvl).c, (⟨a0.c, []⟩ : Lvl).vs)) (Sum.elim (fun (o1 : Int × (List LV)) => some ((⟨o1.1, o1.2⟩ : Lvl), 0)) (fun o => some o))

set_option maxRecDepth 100000 in
set_option maxHeartbeats 8000000 in
theorem m73_ok (a0 : Lvl) (a1 : List Lvl) (a2 : Bool) (r : Lvl × Int) (h0 : m73 a0 a1 a2 = some r) : Fun Tryz.prog 73 [.agg (cE a0), .one (dS a1), .one (dB a2)] (resOf [.agg (cE r.1), .one (dI r.2)]) := by
  unfold m73 at h0
  refine Fun.of_bodyM 9 69 Tryz.func73 rfl en_73 rfl (lb rfl) (fun S w => ?_)
  simp only [entry]
  refine XC.seq <| XC.region <| XL.put rfl rfl (lb rfl) (OpOK.box rfl) <| XL.put rfl rfl (lb rfl) (OpOK.alloc z_24 rfl) <| rA rfl rfl rfl <| XL.nil <| XQ.seq <| XC.seq <| XC.region <| rR rfl rfl rfl (RO.fieldOwn fo_24_0 rfl) <| rR rfl rfl rfl (RO.loadOwn ag_3 rfl rfl rfl) ?_
  refine XL.put rfl rfl (lb rfl) (OpOK.callFun (number_fun a0.c) rfl (.cons (.one (.d _)) .nil)) ?_
  refine XL.put rfl rfl (lb rfl) (OpOK.alloc z_24 rfl) <| XL.eff rfl rfl (OpOK.store ag_24 rfl rfl rfl rfl (lb rfl) rfl) <| XL.nil <| XQ.seq <| XC.seq <| XC.seq <| XC.region <| rA rfl rfl rfl <| XL.nil <| XQ.seq <| XC.block ?_
  refine XC.joinX 0 (fun (o1 : Int × (List LV)) => ⟨[(6, .v (.one (.ptr 1 0))), (8, .v (.one (.ptr 2 0)))], [(0, .cells 24 (cE a0)), (1, .cells 24 [dI 0, dN]), (2, .cells 24 [dI o1.1, dS o1.2])], [], 3, 69, []⟩) (fun (o1 : Int × (List LV)) => (some ((⟨o1.1, o1.2⟩ : Lvl), 0)) = some r) ?_ ?_
  ·
   refine bindK h0 (fun o2 hl1 h0 => ?_)
   refine XC.loopM (m73_l0 a0 a2 a1) (fun s1 => ⟨[(1, .v (.one (dS a1))), (2, .v (.one (dB a2))), (3, .v (.one (.ptr 0 0))), (6, .v (.one (.ptr 1 0))), (8, .v (.one (.ptr 2 0))), (9, .v (.one (dI s1.1)))], [(0, .cells 24 (cE a0)), (1, .cells 24 [dI 0, dN]), (2, .cells 24 [dI s1.2.1, dS s1.2.2])], [], 3, 69, []⟩) (0, (⟨a0.c, []⟩ : Lvl).c, (⟨a0.c, []⟩ : Lvl).vs) o2 (stle (tR rfl (tR rfl (tR rfl (tR rfl (tR rfl (tR rfl tZ)))))) (hR rfl (hR rfl (hR rfl hZ))) kZ rfl (Nat.zero_le _) rfl rfl rfl (bB rfl rfl (bB rfl rfl (bB rfl rfl bZ))) rfl rfl) hl1 (fun s1 n1 oo1 h1 ho1 => ?_)
   unfold m73_l0 at h1
   refine XC.seq <| XC.seq <| XC.region <| rM rfl rfl rfl <| rR rfl rfl rfl (RO.fieldOwn fo_24_1 rfl) <| rR rfl rfl rfl (RO.loadOwn ag_22 rfl rfl rfl) <| rR rfl rfl rfl (RO.lenE (α := LV) sl_22 rfl (.d _)) <| rR rfl rfl rfl (RO.binInt rfl rfl rfl) <| XL.nil <| XQ.seq ?_
   refine XC.cond (b := (decide (s1.1 < (a0.vs.length : Int)))) rfl (fun c3 => ?_) (fun c3 => ?_)
   ·
    replace h1 := condT c3 h1
    refine XC.skip <| XQ.seq <| XC.seq <| XC.block <| XC.seq <| XC.region <| rR rfl rfl rfl (RO.fieldOwn fo_24_1 rfl) <| rR rfl rfl rfl (RO.loadOwn ag_22 rfl rfl rfl) <| rM rfl rfl rfl ?_
    refine bindK h1 (fun x4 hx4 h1 => ?_)
    refine rR rfl rfl rfl (RO.indexE (α := LV) sl_22 rfl (.d _) rfl hx4) <| rR rfl rfl rfl (RO.loadPelAgg ag_69 rfl rfl rfl) <| XL.put rfl rfl (lb rfl) (OpOK.alloc z_69 rfl) <| XL.eff rfl rfl (OpOK.store ag_69 rfl rfl rfl rfl (lb rfl) rfl) <| XL.nil <| XQ.seq <| XC.seq <| XC.region <| rR rfl rfl rfl (RO.fieldOwn fo_69_0 rfl) <| rR rfl rfl rfl (RO.loadOwn ag_3 rfl rfl rfl) <| rA rfl rfl rfl <| XL.nil <| XQ.seq <| XC.seq ?_
    refine XC.seq <| XC.region <| rM rfl rfl rfl <| XL.nil <| XQ.seq ?_
    refine XC.cond (b := a2) rfl (fun c5 => ?_) (fun c5 => ?_)
    ·
     replace h1 := condT c5 h1
     refine XC.region <| rR rfl rfl rfl (RO.fieldOwn fo_69_0 rfl) <| rR rfl rfl rfl (RO.loadOwn ag_3 rfl rfl rfl) <| rR rfl rfl rfl (RO.binInt rfl rfl rfl) <| rA rfl rfl rfl <| XL.nil <| XQ.seq <| XC.seq <| XC.region <| rR rfl rfl rfl (RO.loadOwnAgg ag_69 rfl rfl rfl rfl) <| XL.put rfl rfl (lb rfl) (OpOK.lit1E (α := LV) (x4) sl_22 z_69 rfl rfl (lb rfl) (lb rfl) rfl rfl (.cons (.d _) (.cons (.d _) .nil)) rfl) <| rR rfl rfl rfl (RO.build1 bd_24 rfl rfl rfl) <| XL.put rfl rfl (lb rfl) (OpOK.alloc z_24 rfl) <| XL.eff rfl rfl (OpOK.store ag_24 rfl rfl rfl rfl (lb rfl) rfl) ?_
     refine XL.nil <| XQ.seq <| XC.seq <| XC.seq ?_
     refine XC.joinR (fun (v6 : Bool) => ⟨[(1, .v (.one (dS a1))), (2, .v (.one (dB a2))), (3, .v (.one (.ptr 0 0))), (6, .v (.one (.ptr 1 0))), (8, .v (.one (.ptr 2 0))), (9, .v (.one (dI s1.1))), (10, .v (.one (.ptr 3 0))), (11, .v (.one (dI (w64 ((-1) - x4.1))))), (12, .v (.one (.ptr 5 0))), (49, .v (.one (dB v6)))], [(0, .cells 24 (cE a0)), (1, .cells 24 [dI 0, dN]), (2, .cells 24 [dI s1.2.1, dS s1.2.2]), (3, .cells 69 (cE x4)), (5, .cells 24 [dI 0, dA 4 ([x4] : List LV)])], [(4, some ⟨69, 2, (Enc.encL ([x4] : List LV)).length⟩)], 6, 69, []⟩) (fun (v6 : Bool) => (cond v6
         (Option.bind (idx a1 (w64 ((-1) - x4.1))) fun (x8 : Lvl) =>
       guardO (Nat.ble x8.vs.length 100000)
       (cond (((plusL x8 x4.2).2) != 0)
         (some (.done (.inr ((⟨0, ([] : List LV)⟩ : Lvl), (plusL x8 x4.2).2))))
         (guardO ((cond (Nat.ble (⟨s1.2.1, s1.2.2⟩ : Lvl).vs.length 100000) (Nat.ble ((plusL x8 x4.2).1).vs.length 100000) false))
       (some (.next ((w64 (s1.1 + 1)), (joinL (⟨s1.2.1, s1.2.2⟩ : Lvl) ((plusL x8 x4.2).1)).c, (joinL (⟨s1.2.1, s1.2.2⟩ : Lvl) ((plusL x8 x4.2).1)).vs))))))
         (guardO ((cond (Nat.ble (⟨s1.2.1, s1.2.2⟩ : Lvl).vs.length 100000) (Nat.ble (⟨0, [x4]⟩ : Lvl).vs.length 100000) false))
       (some (.next ((w64 (s1.1 + 1)), (joinL (⟨s1.2.1, s1.2.2⟩ : Lvl) (⟨0, [x4]⟩ : Lvl)).c, (joinL (⟨s1.2.1, s1.2.2⟩ : Lvl) (⟨0, [x4]⟩ : Lvl)).vs))))) = some oo1) ?_ ?_
     ·
      refine bindK h1 (fun v_ h2 h1 => ?_)
      refine XC.region <| rR rfl rfl rfl (RO.fieldOwn fo_69_0 rfl) <| rR rfl rfl rfl (RO.loadOwn ag_3 rfl rfl rfl) <| rR rfl rfl rfl (RO.binInt rfl rfl rfl) <| rM rfl rfl rfl <| rR rfl rfl rfl (RO.eqBool ib_4 rfl rfl) <| rM rfl rfl rfl ?_
      refine XL.case (d := 44) (c := ((decide (x4.1 < 0)) == a2)) rfl (fun c7 => ?_) (fun c7 => ?_)
      ·
       replace h2 := condT c7 h2
       refine rM rfl rfl rfl <| rM rfl rfl rfl <| rR rfl rfl rfl (RO.lenE (α := Lvl) sl_55 rfl (.d _)) <| rR rfl rfl rfl (RO.binInt rfl rfl rfl) <| rR rfl rfl rfl (RO.pickT rfl rfl) <| XL.nil ?_
       have e_ := Option.some.inj h2
       subst e_
       exact XQ.joinR (decide ((w64 ((-1) - x4.1)) < (a1.length : Int))) (stle (tR rfl (tR rfl (tR rfl (tR rfl (tR rfl (tR rfl (tR rfl (tR rfl (tR rfl (tR rfl tZ)))))))))) (hR rfl (hR rfl (hR rfl (hR rfl (hR rfl hZ))))) (kR rfl kZ) rfl (Nat.zero_le _) rfl rfl rfl (bB rfl rfl (bB rfl rfl (bB rfl rfl (bB rfl rfl (bB rfl rfl bZ))))) rfl rfl) h1
      ·
       replace h2 := condF c7 h2
       refine XL.no rfl rfl <| XL.no rfl rfl <| XL.no rfl rfl <| XL.no rfl rfl <| rR rfl rfl rfl (RO.pickF rfl rfl) <| XL.nil ?_
       have e_ := Option.some.inj h2
       subst e_
       exact XQ.joinR false (stle (tR rfl (tR rfl (tR rfl (tR rfl (tR rfl (tR rfl (tR rfl (tR rfl (tR rfl (tR rfl tZ)))))))))) (hR rfl (hR rfl (hR rfl (hR rfl (hR rfl hZ))))) (kR rfl kZ) rfl (Nat.zero_le _) rfl rfl rfl (bB rfl rfl (bB rfl rfl (bB rfl rfl (bB rfl rfl (bB rfl rfl bZ))))) rfl rfl) h1
     ·
      intro v6 h1
      refine XQ.seq ?_
      refine XC.cond (b := v6) rfl (fun c8 => ?_) (fun c8 => ?_)
      ·
       replace h1 := condT c8 h1
       refine XC.seq ?_
       refine XC.anyRun [10, 11] [(0, 1), (1, 1), (2, 1), (3, 1), (4, 1), (5, 1), (6, 1), (7, 1), (8, 1), (9, 1), (9, 2)] mixed (by kernel_rfl) (by kernel_rfl) (by kernel_rfl) ?_
       refine RunA.rd rfl rfl rfl (OpOK.of_ro (RO.move rfl)) rfl <| RunA.rd rfl rfl rfl (OpOK.of_ro (RO.move rfl)) rfl ?_
       refine bindK h1 (fun x9 hx9 h1 => ?_)
       refine RunA.rd rfl rfl rfl (OpOK.of_ro (RO.indexE (α := Lvl) sl_55 rfl (.d _) rfl hx9)) rfl <| RunA.rd rfl rfl rfl (OpOK.of_ro (RO.loadPelAgg ag_24 rfl rfl rfl)) rfl <| RunA.rd rfl rfl rfl (OpOK.of_ro (RO.fieldOwn fo_69_1 rfl)) rfl <| RunA.rd rfl rfl rfl (OpOK.of_ro (RO.loadOwn ag_3 rfl rfl rfl)) rfl ?_
       refine guardK h1 (fun g10 h1 => ?_)
       refine RunA.rd rfl rfl rfl (OpOK.callFun (plusR_fun x9 x4.2 (Nat.le_of_ble_eq_true g10)) rfl (.cons (.agg (.cons (.d _) (.cons (.d _) .nil))) (.cons (.one (.d _)) .nil))) rfl ?_
       refine RunA.rd rfl rfl rfl (OpOK.of_ro (RO.move rfl)) rfl <| RunA.rd rfl rfl rfl (OpOK.of_ro (RO.extract rfl rfl)) rfl <| RunA.rd rfl rfl rfl (OpOK.of_ro (RO.extract rfl rfl)) rfl <| RunA.eff rfl rfl rfl (OpOK.alloc z_24 rfl) rfl <| RunA.eff rfl rfl rfl (OpOK.store ag_24 rfl rfl rfl rfl (lb rfl) rfl) rfl <| RunA.rd rfl rfl rfl (OpOK.of_ro (RO.assign rfl)) rfl ?_
       refine RunA.nil ⟨?ex, _, _, rfl, ?_⟩
       case ex => exact ⟨⟨_, rfl, _, _, rfl, rfl, rfl, .inl ⟨rfl, _, OpOK.of_ro (RO.move rfl), rfl⟩⟩, ⟨_, rfl, _, _, rfl, rfl, rfl, .inl ⟨rfl, _, OpOK.of_ro (RO.move rfl), rfl⟩⟩, ⟨_, rfl, _, _, rfl, rfl, rfl, .inl ⟨rfl, _, OpOK.of_ro (RO.indexE (α := Lvl) sl_55 rfl (.d _) rfl hx9), rfl⟩⟩, ⟨_, rfl, _, _, rfl, rfl, rfl, .inl ⟨rfl, _, OpOK.of_ro (RO.loadPelAgg ag_24 rfl rfl rfl), rfl⟩⟩, ⟨_, rfl, _, _, rfl, rfl, rfl, .inl ⟨rfl, _, OpOK.of_ro (RO.fieldOwn fo_69_1 rfl), rfl⟩⟩, ⟨_, rfl, _, _, rfl, rfl, rfl, .inl ⟨rfl, _, OpOK.of_ro (RO.loadOwn ag_3 rfl rfl rfl), rfl⟩⟩, ⟨_, rfl, _, _, rfl, rfl, rfl, .inl ⟨rfl, _, OpOK.callFun (plusR_fun x9 x4.2 (Nat.le_of_ble_eq_true g10)) rfl (.cons (.agg (.cons (.d _) (.cons (.d _) .nil))) (.cons (.one (.d _)) .nil)), rfl⟩⟩, ⟨_, rfl, _, _, rfl, rfl, rfl, .inl ⟨rfl, _, OpOK.of_ro (RO.move rfl), rfl⟩⟩, ⟨_, rfl, _, _, rfl, rfl, rfl, .inl ⟨rfl, _, OpOK.of_ro (RO.extract rfl rfl), rfl⟩⟩, ⟨_, rfl, _, _, rfl, rfl, rfl, .inl ⟨rfl, _, OpOK.of_ro (RO.extract rfl rfl), rfl⟩⟩, ⟨_, rfl, _, _, rfl, rfl, rfl, .inl ⟨rfl, _, OpOK.of_ro (RO.extract rfl rfl), rfl⟩⟩, trivial⟩
       refine XQ.less (st' := ⟨[(1, .v (.one (dS a1))), (2, .v (.one (dB a2))), (3, .v (.one (.ptr 0 0))), (6, .v (.one (.ptr 1 0))), (8, .v (.one (.ptr 2 0))), (9, .v (.one (dI s1.1))), (12, .v (.one (.ptr 5 0))), (13, .v (.one (.ptr 6 0))), (14, .v (.one (dI ((plusL x9 x4.2).2))))], [(0, .cells 24 (cE a0)), (1, .cells 24 [dI 0, dN]), (2, .cells 24 [dI s1.2.1, dS s1.2.2]), (3, .cells 69 (cE x4)), (5, .cells 24 [dI 0, dA 4 ([x4] : List LV)]), (6, .cells 24 [dI (((plusL x9 x4.2).1).c), dS (((plusL x9 x4.2).1).vs : List LV)])], [(4, some ⟨69, 2, (Enc.encL ([x4] : List LV)).length⟩)], 7, 69, []⟩) (stle (tR rfl (tR rfl (tR rfl (tR rfl (tR rfl (tR rfl (tR rfl (tR rfl (tR rfl tZ))))))))) (hR rfl (hR rfl (hR rfl (hR rfl (hR rfl (hR rfl hZ)))))) (kR rfl kZ) rfl (Nat.zero_le _) rfl rfl rfl (bB rfl rfl (bB rfl rfl (bB rfl rfl (bB rfl rfl (bB rfl rfl (bB rfl rfl bZ)))))) rfl rfl) <| XQ.seq <| XC.seq <| XC.seq <| XC.region <| rM rfl rfl rfl <| rR rfl rfl rfl (RO.binInt rfl rfl rfl) <| XL.nil <| XQ.seq ?_
       refine XC.cond (b := (((plusL x9 x4.2).2) != 0)) rfl (fun c11 => ?_) (fun c11 => ?_)
       ·
        replace h1 := condT c11 h1
        refine XC.seq <| XC.region <| rR rfl rfl rfl (RO.build0 bd_24 rfl ) <| rM rfl rfl rfl <| XL.eff rfl rfl (OpOK.store ag_24 rfl rfl rfl rfl (lb rfl) rfl) <| rA rfl rfl rfl <| XL.nil <| XQ.seq <| XC.ret ?_
        have e_ := Option.some.inj h1
        subst e_
        have e_ : _ = _ := ho1
        subst e_
        try dsimp only [Sum.elim_inl, Sum.elim_inr] at h0
        have e_ := Option.some.inj h0
        subst e_
        exact XQ.retF (fun _ _ h => h) rfl (RAs.agg ag_24 rfl rfl rfl rfl (RAs.tmp rfl .nil)) (.cons (.agg (.cons (.d _) (.cons (.nil _) .nil))) (.cons (.one (.d _)) .nil))
       ·
        replace h1 := condF c11 h1
        refine XC.skip <| XQ.seq <| XC.region <| rR rfl rfl rfl (RO.loadOwnAgg ag_24 rfl rfl rfl rfl) <| XL.eff rfl rfl (OpOK.store ag_24 rfl rfl rfl rfl (lb rfl) rfl) <| XL.nil <| XQ.seq <| XC.region <| rR rfl rfl rfl (RO.loadOwnAgg ag_24 rfl rfl rfl rfl) <| rR rfl rfl rfl (RO.loadOwnAgg ag_24 rfl rfl rfl rfl) ?_
        refine guardK h1 (fun g12 h1 => ?_)
        refine XL.put rfl rfl (lb rfl) (OpOK.callFun (join_fun (⟨s1.2.1, s1.2.2⟩ : Lvl) ((plusL x9 x4.2).1) (Nat.le_of_ble_eq_true (cond_left g12)) (Nat.le_of_ble_eq_true (cond_right g12))) rfl (.cons (.agg (.cons (.d _) (.cons (.d _) .nil))) (.cons (.agg (.cons (.d _) (.cons (.d _) .nil))) .nil))) ?_
        refine XL.eff rfl rfl (OpOK.store ag_24 rfl rfl rfl rfl (lb rfl) rfl) <| XL.nil <| XQ.inBlock <| XQ.seq <| XC.region <| rM rfl rfl rfl <| rR rfl rfl rfl (RO.binInt rfl rfl rfl) <| rA rfl rfl rfl <| XL.nil ?_
        have e_ := Option.some.inj h1
        subst e_
        refine XQ.nextM ((w64 (s1.1 + 1)), (joinL (⟨s1.2.1, s1.2.2⟩ : Lvl) ((plusL x9 x4.2).1)).c, (joinL (⟨s1.2.1, s1.2.2⟩ : Lvl) ((plusL x9 x4.2).1)).vs) (stle (tR rfl (tR rfl (tR rfl (tR rfl (tR rfl (tR rfl tZ)))))) (hR rfl (hR rfl (hR rfl hZ))) kZ rfl (Nat.zero_le _) rfl rfl rfl (bB rfl rfl (bB rfl rfl (bB rfl rfl bZ))) rfl rfl) ho1
      ·
       replace h1 := condF c8 h1
       refine XC.skip <| XQ.seq <| XC.region <| rR rfl rfl rfl (RO.loadOwnAgg ag_24 rfl rfl rfl rfl) <| rR rfl rfl rfl (RO.loadOwnAgg ag_24 rfl rfl rfl rfl) ?_
       refine guardK h1 (fun g13 h1 => ?_)
       refine XL.put rfl rfl (lb rfl) (OpOK.callFun (join_fun (⟨s1.2.1, s1.2.2⟩ : Lvl) (⟨0, [x4]⟩ : Lvl) (Nat.le_of_ble_eq_true (cond_left g13)) (Nat.le_of_ble_eq_true (cond_right g13))) rfl (.cons (.agg (.cons (.d _) (.cons (.d _) .nil))) (.cons (.agg (.cons (.d _) (.cons (.app _ _ _) .nil))) .nil))) ?_
       refine XL.eff rfl rfl (OpOK.store ag_24 rfl rfl rfl rfl (lb rfl) rfl) <| XL.nil <| XQ.inBlock <| XQ.seq <| XC.region <| rM rfl rfl rfl <| rR rfl rfl rfl (RO.binInt rfl rfl rfl) <| rA rfl rfl rfl <| XL.nil ?_
       have e_ := Option.some.inj h1
       subst e_
       refine XQ.nextM ((w64 (s1.1 + 1)), (joinL (⟨s1.2.1, s1.2.2⟩ : Lvl) (⟨0, [x4]⟩ : Lvl)).c, (joinL (⟨s1.2.1, s1.2.2⟩ : Lvl) (⟨0, [x4]⟩ : Lvl)).vs) (stle (tR rfl (tR rfl (tR rfl (tR rfl (tR rfl (tR rfl tZ)))))) (hR rfl (hR rfl (hR rfl hZ))) kZ rfl (Nat.zero_le _) rfl rfl rfl (bB rfl rfl (bB rfl rfl (bB rfl rfl bZ))) rfl rfl) ho1
    ·
     replace h1 := condF c5 h1
     refine XC.skip <| XQ.seq <| XC.seq <| XC.region <| rR rfl rfl rfl (RO.loadOwnAgg ag_69 rfl rfl rfl rfl) <| XL.put rfl rfl (lb rfl) (OpOK.lit1E (α := LV) (x4) sl_22 z_69 rfl rfl (lb rfl) (lb rfl) rfl rfl (.cons (.d _) (.cons (.d _) .nil)) rfl) <| rR rfl rfl rfl (RO.build1 bd_24 rfl rfl rfl) <| XL.put rfl rfl (lb rfl) (OpOK.alloc z_24 rfl) <| XL.eff rfl rfl (OpOK.store ag_24 rfl rfl rfl rfl (lb rfl) rfl) <| XL.nil <| XQ.seq <| XC.seq <| XC.seq ?_
     refine XC.joinR (fun (v14 : Bool) => ⟨[(1, .v (.one (dS a1))), (2, .v (.one (dB a2))), (3, .v (.one (.ptr 0 0))), (6, .v (.one (.ptr 1 0))), (8, .v (.one (.ptr 2 0))), (9, .v (.one (dI s1.1))), (10, .v (.one (.ptr 3 0))), (11, .v (.one (dI x4.1))), (12, .v (.one (.ptr 5 0))), (49, .v (.one (dB v14)))], [(0, .cells 24 (cE a0)), (1, .cells 24 [dI 0, dN]), (2, .cells 24 [dI s1.2.1, dS s1.2.2]), (3, .cells 69 (cE x4)), (5, .cells 24 [dI 0, dA 4 ([x4] : List LV)])], [(4, some ⟨69, 2, (Enc.encL ([x4] : List LV)).length⟩)], 6, 69, []⟩) (fun (v14 : Bool) => (cond v14
         (Option.bind (idx a1 x4.1) fun (x16 : Lvl) =>
       guardO (Nat.ble x16.vs.length 100000)
       (cond (((plusL x16 x4.2).2) != 0)
         (some (.done (.inr ((⟨0, ([] : List LV)⟩ : Lvl), (plusL x16 x4.2).2))))
         (guardO ((cond (Nat.ble (⟨s1.2.1, s1.2.2⟩ : Lvl).vs.length 100000) (Nat.ble ((plusL x16 x4.2).1).vs.length 100000) false))
       (some (.next ((w64 (s1.1 + 1)), (joinL (⟨s1.2.1, s1.2.2⟩ : Lvl) ((plusL x16 x4.2).1)).c, (joinL (⟨s1.2.1, s1.2.2⟩ : Lvl) ((plusL x16 x4.2).1)).vs))))))
         (guardO ((cond (Nat.ble (⟨s1.2.1, s1.2.2⟩ : Lvl).vs.length 100000) (Nat.ble (⟨0, [x4]⟩ : Lvl).vs.length 100000) false))
       (some (.next ((w64 (s1.1 + 1)), (joinL (⟨s1.2.1, s1.2.2⟩ : Lvl) (⟨0, [x4]⟩ : Lvl)).c, (joinL (⟨s1.2.1, s1.2.2⟩ : Lvl) (⟨0, [x4]⟩ : Lvl)).vs))))) = some oo1) ?_ ?_
     ·
      refine bindK h1 (fun v_ h2 h1 => ?_)
      refine XC.region <| rR rfl rfl rfl (RO.fieldOwn fo_69_0 rfl) <| rR rfl rfl rfl (RO.loadOwn ag_3 rfl rfl rfl) <| rR rfl rfl rfl (RO.binInt rfl rfl rfl) <| rM rfl rfl rfl <| rR rfl rfl rfl (RO.eqBool ib_4 rfl rfl) <| rM rfl rfl rfl ?_
      refine XL.case (d := 44) (c := ((decide (x4.1 < 0)) == a2)) rfl (fun c15 => ?_) (fun c15 => ?_)
      ·
       replace h2 := condT c15 h2
       refine rM rfl rfl rfl <| rM rfl rfl rfl <| rR rfl rfl rfl (RO.lenE (α := Lvl) sl_55 rfl (.d _)) <| rR rfl rfl rfl (RO.binInt rfl rfl rfl) <| rR rfl rfl rfl (RO.pickT rfl rfl) <| XL.nil ?_
       have e_ := Option.some.inj h2
       subst e_
       exact XQ.joinR (decide (x4.1 < (a1.length : Int))) (stle (tR rfl (tR rfl (tR rfl (tR rfl (tR rfl (tR rfl (tR rfl (tR rfl (tR rfl (tR rfl tZ)))))))))) (hR rfl (hR rfl (hR rfl (hR rfl (hR rfl hZ))))) (kR rfl kZ) rfl (Nat.zero_le _) rfl rfl rfl (bB rfl rfl (bB rfl rfl (bB rfl rfl (bB rfl rfl (bB rfl rfl bZ))))) rfl rfl) h1
      ·
       replace h2 := condF c15 h2
       refine XL.no rfl rfl <| XL.no rfl rfl <| XL.no rfl rfl <| XL.no rfl rfl <| rR rfl rfl rfl (RO.pickF rfl rfl) <| XL.nil ?_
       have e_ := Option.some.inj h2
       subst e_
       exact XQ.joinR false (stle (tR rfl (tR rfl (tR rfl (tR rfl (tR rfl (tR rfl (tR rfl (tR rfl (tR rfl (tR rfl tZ)))))))))) (hR rfl (hR rfl (hR rfl (hR rfl (hR rfl hZ))))) (kR rfl kZ) rfl (Nat.zero_le _) rfl rfl rfl (bB rfl rfl (bB rfl rfl (bB rfl rfl (bB rfl rfl (bB rfl rfl bZ))))) rfl rfl) h1
     ·
      intro v14 h1
      refine XQ.seq ?_
      refine XC.cond (b := v14) rfl (fun c16 => ?_) (fun c16 => ?_)
      ·
       replace h1 := condT c16 h1
       refine XC.seq ?_
       refine XC.anyRun [10, 11] [(0, 1), (1, 1), (2, 1), (3, 1), (4, 1), (5, 1), (6, 1), (7, 1), (8, 1), (9, 1), (9, 2)] mixed (by kernel_rfl) (by kernel_rfl) (by kernel_rfl) ?_
       refine RunA.rd rfl rfl rfl (OpOK.of_ro (RO.move rfl)) rfl <| RunA.rd rfl rfl rfl (OpOK.of_ro (RO.move rfl)) rfl ?_
       refine bindK h1 (fun x17 hx17 h1 => ?_)
       refine RunA.rd rfl rfl rfl (OpOK.of_ro (RO.indexE (α := Lvl) sl_55 rfl (.d _) rfl hx17)) rfl <| RunA.rd rfl rfl rfl (OpOK.of_ro (RO.loadPelAgg ag_24 rfl rfl rfl)) rfl <| RunA.rd rfl rfl rfl (OpOK.of_ro (RO.fieldOwn fo_69_1 rfl)) rfl <| RunA.rd rfl rfl rfl (OpOK.of_ro (RO.loadOwn ag_3 rfl rfl rfl)) rfl ?_
       refine guardK h1 (fun g18 h1 => ?_)
       refine RunA.rd rfl rfl rfl (OpOK.callFun (plusR_fun x17 x4.2 (Nat.le_of_ble_eq_true g18)) rfl (.cons (.agg (.cons (.d _) (.cons (.d _) .nil))) (.cons (.one (.d _)) .nil))) rfl ?_
       refine RunA.rd rfl rfl rfl (OpOK.of_ro (RO.move rfl)) rfl <| RunA.rd rfl rfl rfl (OpOK.of_ro (RO.extract rfl rfl)) rfl <| RunA.rd rfl rfl rfl (OpOK.of_ro (RO.extract rfl rfl)) rfl <| RunA.eff rfl rfl rfl (OpOK.alloc z_24 rfl) rfl <| RunA.eff rfl rfl rfl (OpOK.store ag_24 rfl rfl rfl rfl (lb rfl) rfl) rfl <| RunA.rd rfl rfl rfl (OpOK.of_ro (RO.assign rfl)) rfl ?_
       refine RunA.nil ⟨?ex, _, _, rfl, ?_⟩
       case ex => exact ⟨⟨_, rfl, _, _, rfl, rfl, rfl, .inl ⟨rfl, _, OpOK.of_ro (RO.move rfl), rfl⟩⟩, ⟨_, rfl, _, _, rfl, rfl, rfl, .inl ⟨rfl, _, OpOK.of_ro (RO.move rfl), rfl⟩⟩, ⟨_, rfl, _, _, rfl, rfl, rfl, .inl ⟨rfl, _, OpOK.of_ro (RO.indexE (α := Lvl) sl_55 rfl (.d _) rfl hx17), rfl⟩⟩, ⟨_, rfl, _, _, rfl, rfl, rfl, .inl ⟨rfl, _, OpOK.of_ro (RO.loadPelAgg ag_24 rfl rfl rfl), rfl⟩⟩, ⟨_, rfl, _, _, rfl, rfl, rfl, .inl ⟨rfl, _, OpOK.of_ro (RO.fieldOwn fo_69_1 rfl), rfl⟩⟩, ⟨_, rfl, _, _, rfl, rfl, rfl, .inl ⟨rfl, _, OpOK.of_ro (RO.loadOwn ag_3 rfl rfl rfl), rfl⟩⟩, ⟨_, rfl, _, _, rfl, rfl, rfl, .inl ⟨rfl, _, OpOK.callFun (plusR_fun x17 x4.2 (Nat.le_of_ble_eq_true g18)) rfl (.cons (.agg (.cons (.d _) (.cons (.d _) .nil))) (.cons (.one (.d _)) .nil)), rfl⟩⟩, ⟨_, rfl, _, _, rfl, rfl, rfl, .inl ⟨rfl, _, OpOK.of_ro (RO.move rfl), rfl⟩⟩, ⟨_, rfl, _, _, rfl, rfl, rfl, .inl ⟨rfl, _, OpOK.of_ro (RO.extract rfl rfl), rfl⟩⟩, ⟨_, rfl, _, _, rfl, rfl, rfl, .inl ⟨rfl, _, OpOK.of_ro (RO.extract rfl rfl), rfl⟩⟩, ⟨_, rfl, _, _, rfl, rfl, rfl, .inl ⟨rfl, _, OpOK.of_ro (RO.extract rfl rfl), rfl⟩⟩, trivial⟩
       refine XQ.less (st' := ⟨[(1, .v (.one (dS a1))), (2, .v (.one (dB a2))), (3, .v (.one (.ptr 0 0))), (6, .v (.one (.ptr 1 0))), (8, .v (.one (.ptr 2 0))), (9, .v (.one (dI s1.1))), (12, .v (.one (.ptr 5 0))), (13, .v (.one (.ptr 6 0))), (14, .v (.one (dI ((plusL x17 x4.2).2))))], [(0, .cells 24 (cE a0)), (1, .cells 24 [dI 0, dN]), (2, .cells 24 [dI s1.2.1, dS s1.2.2]), (3, .cells 69 (cE x4)), (5, .cells 24 [dI 0, dA 4 ([x4] : List LV)]), (6, .cells 24 [dI (((plusL x17 x4.2).1).c), dS (((plusL x17 x4.2).1).vs : List LV)])], [(4, some ⟨69, 2, (Enc.encL ([x4] : List LV)).length⟩)], 7, 69, []⟩) (stle (tR rfl (tR rfl (tR rfl (tR rfl (tR rfl (tR rfl (tR rfl (tR rfl (tR rfl tZ))))))))) (hR rfl (hR rfl (hR rfl (hR rfl (hR rfl (hR rfl hZ)))))) (kR rfl kZ) rfl (Nat.zero_le _) rfl rfl rfl (bB rfl rfl (bB rfl rfl (bB rfl rfl (bB rfl rfl (bB rfl rfl (bB rfl rfl bZ)))))) rfl rfl) <| XQ.seq <| XC.seq <| XC.seq <| XC.region <| rM rfl rfl rfl <| rR rfl rfl rfl (RO.binInt rfl rfl rfl) <| XL.nil <| XQ.seq ?_
       refine XC.cond (b := (((plusL x17 x4.2).2) != 0)) rfl (fun c19 => ?_) (fun c19 => ?_)
       ·
        replace h1 := condT c19 h1
        refine XC.seq <| XC.region <| rR rfl rfl rfl (RO.build0 bd_24 rfl ) <| rM rfl rfl rfl <| XL.eff rfl rfl (OpOK.store ag_24 rfl rfl rfl rfl (lb rfl) rfl) <| rA rfl rfl rfl <| XL.nil <| XQ.seq <| XC.ret ?_
        have e_ := Option.some.inj h1
        subst e_
        have e_ : _ = _ := ho1
        subst e_
        try dsimp only [Sum.elim_inl, Sum.elim_inr] at h0
        have e_ := Option.some.inj h0
        subst e_
        exact XQ.retF (fun _ _ h => h) rfl (RAs.agg ag_24 rfl rfl rfl rfl (RAs.tmp rfl .nil)) (.cons (.agg (.cons (.d _) (.cons (.nil _) .nil))) (.cons (.one (.d _)) .nil))
       ·
        replace h1 := condF c19 h1
        refine XC.skip <| XQ.seq <| XC.region <| rR rfl rfl rfl (RO.loadOwnAgg ag_24 rfl rfl rfl rfl) <| XL.eff rfl rfl (OpOK.store ag_24 rfl rfl rfl rfl (lb rfl) rfl) <| XL.nil <| XQ.seq <| XC.region <| rR rfl rfl rfl (RO.loadOwnAgg ag_24 rfl rfl rfl rfl) <| rR rfl rfl rfl (RO.loadOwnAgg ag_24 rfl rfl rfl rfl) ?_
        refine guardK h1 (fun g20 h1 => ?_)
        refine XL.put rfl rfl (lb rfl) (OpOK.callFun (join_fun (⟨s1.2.1, s1.2.2⟩ : Lvl) ((plusL x17 x4.2).1) (Nat.le_of_ble_eq_true (cond_left g20)) (Nat.le_of_ble_eq_true (cond_right g20))) rfl (.cons (.agg (.cons (.d _) (.cons (.d _) .nil))) (.cons (.agg (.cons (.d _) (.cons (.d _) .nil))) .nil))) ?_
        refine XL.eff rfl rfl (OpOK.store ag_24 rfl rfl rfl rfl (lb rfl) rfl) <| XL.nil <| XQ.inBlock <| XQ.seq <| XC.region <| rM rfl rfl rfl <| rR rfl rfl rfl (RO.binInt rfl rfl rfl) <| rA rfl rfl rfl <| XL.nil ?_
        have e_ := Option.some.inj h1
        subst e_
        refine XQ.nextM ((w64 (s1.1 + 1)), (joinL (⟨s1.2.1, s1.2.2⟩ : Lvl) ((plusL x17 x4.2).1)).c, (joinL (⟨s1.2.1, s1.2.2⟩ : Lvl) ((plusL x17 x4.2).1)).vs) (stle (tR rfl (tR rfl (tR rfl (tR rfl (tR rfl (tR rfl tZ)))))) (hR rfl (hR rfl (hR rfl hZ))) kZ rfl (Nat.zero_le _) rfl rfl rfl (bB rfl rfl (bB rfl rfl (bB rfl rfl bZ))) rfl rfl) ho1
      ·
       replace h1 := condF c16 h1
       refine XC.skip <| XQ.seq <| XC.region <| rR rfl rfl rfl (RO.loadOwnAgg ag_24 rfl rfl rfl rfl) <| rR rfl rfl rfl (RO.loadOwnAgg ag_24 rfl rfl rfl rfl) ?_
       refine guardK h1 (fun g21 h1 => ?_)
       refine XL.put rfl rfl (lb rfl) (OpOK.callFun (join_fun (⟨s1.2.1, s1.2.2⟩ : Lvl) (⟨0, [x4]⟩ : Lvl) (Nat.le_of_ble_eq_true (cond_left g21)) (Nat.le_of_ble_eq_true (cond_right g21))) rfl (.cons (.agg (.cons (.d _) (.cons (.d _) .nil))) (.cons (.agg (.cons (.d _) (.cons (.app _ _ _) .nil))) .nil))) ?_
       refine XL.eff rfl rfl (OpOK.store ag_24 rfl rfl rfl rfl (lb rfl) rfl) <| XL.nil <| XQ.inBlock <| XQ.seq <| XC.region <| rM rfl rfl rfl <| rR rfl rfl rfl (RO.binInt rfl rfl rfl) <| rA rfl rfl rfl <| XL.nil ?_
       have e_ := Option.some.inj h1
       subst e_
       refine XQ.nextM ((w64 (s1.1 + 1)), (joinL (⟨s1.2.1, s1.2.2⟩ : Lvl) (⟨0, [x4]⟩ : Lvl)).c, (joinL (⟨s1.2.1, s1.2.2⟩ : Lvl) (⟨0, [x4]⟩ : Lvl)).vs) (stle (tR rfl (tR rfl (tR rfl (tR rfl (tR rfl (tR rfl tZ)))))) (hR rfl (hR rfl (hR rfl hZ))) kZ rfl (Nat.zero_le _) rfl rfl rfl (bB rfl rfl (bB rfl rfl (bB rfl rfl bZ))) rfl rfl) ho1
   ·
    replace h1 := condF c3 h1
    refine XC.exit <| XQ.thenE <| XQ.thenE ?_
    have e_ := Option.some.inj h1
    subst e_
    have e_ : _ = _ := ho1
    subst e_
    exact XQ.joinX (s1.2.1, s1.2.2) (stle (tR rfl (tR rfl tZ)) (hR rfl (hR rfl (hR rfl hZ))) kZ rfl (Nat.zero_le _) rfl rfl rfl (bB rfl rfl (bB rfl rfl (bB rfl rfl bZ))) rfl rfl) h0
  ·
   intro o1 h0
   refine XQ.blockX <| XQ.seq <| XC.seq <| XC.region <| rR rfl rfl rfl (RO.loadOwnAgg ag_24 rfl rfl rfl rfl) <| XL.eff rfl rfl (OpOK.store ag_24 rfl rfl rfl rfl (lb rfl) rfl) <| rA rfl rfl rfl <| XL.nil <| XQ.seq <| XC.ret ?_
   have e_ := Option.some.inj h0
   subst e_
   exact XQ.retF (fun _ _ h => h) rfl (RAs.agg ag_24 rfl rfl rfl rfl (RAs.tmp rfl .nil)) (.cons (.agg (.cons (.d _) (.cons (.d _) .nil))) (.cons (.one (.d _)) .nil))

/-- euclid/euclidref01.Subst -/
def m35 (a0 : Lvl) (a1 : List Lvl) : Option (Lvl × Int) :=
  Option.bind (guardO (Nat.ble a0.vs.length 100000)
  (cond (!(validB a0))
    (some true)
    (guardO (lensB a1)
  (some (!(a1.all validB)))))) (fun (v1 : Bool) => cond v1
    (some ((⟨0, ([] : List LV)⟩ : Lvl), 3))
    (Option.bind (m41 a0) fun (x3 : Int) =>
  cond (decide ((a1.length : Int) < x3))
    (some ((⟨0, ([] : List LV)⟩ : Lvl), 24))
    (Option.bind (m73 a0 a1 false) fun (x5 : Lvl × Int) =>
  some (x5.1, x5.2))))

set_option maxRecDepth 100000 in
set_option maxHeartbeats 8000000 in
theorem m35_ok (a0 : Lvl) (a1 : List Lvl) (r : Lvl × Int) (h0 : m35 a0 a1 = some r) : Fun Tryz.prog 35 [.agg (cE a0), .one (dS a1)] (resOf [.agg (cE r.1), .one (dI r.2)]) := by
  unfold m35 at h0
  refine Fun.of_bodyM 9 26 Tryz.func35 rfl en_35 rfl (lb rfl) (fun S w => ?_)
  simp only [entry]
  refine XC.seq <| XC.region <| XL.put rfl rfl (lb rfl) (OpOK.box rfl) <| XL.put rfl rfl (lb rfl) (OpOK.alloc z_24 rfl) <| rA rfl rfl rfl <| XL.nil <| XQ.seq <| XC.seq <| XC.seq ?_
  refine XC.joinR (fun (v1 : Bool) => ⟨[(1, .v (.one (dS a1))), (2, .v (.one (.ptr 0 0))), (4, .v (.one (.ptr 1 0))), (13, .v (.one (dB v1)))], [(0, .cells 24 (cE a0)), (1, .cells 24 [dI 0, dN])], [], 2, 26, []⟩) (fun (v1 : Bool) => (cond v1
      (some ((⟨0, ([] : List LV)⟩ : Lvl), 3))
      (Option.bind (m41 a0) fun (x3 : Int) =>
    cond (decide ((a1.length : Int) < x3))
      (some ((⟨0, ([] : List LV)⟩ : Lvl), 24))
      (Option.bind (m73 a0 a1 false) fun (x5 : Lvl × Int) =>
    some (x5.1, x5.2)))) = some r) ?_ ?_
  ·
   refine bindK h0 (fun v_ h1 h0 => ?_)
   refine XC.region <| rR rfl rfl rfl (RO.loadOwnAgg ag_24 rfl rfl rfl rfl) ?_
   refine guardK h1 (fun g2 h1 => ?_)
   refine XL.put rfl rfl (lb rfl) (OpOK.callFun (validR_fun a0 (Nat.le_of_ble_eq_true g2)) rfl (.cons (.agg (.cons (.d _) (.cons (.d _) .nil))) .nil)) ?_
   refine rR rfl rfl rfl (RO.not rfl) <| rM rfl rfl rfl ?_
   refine XL.case (d := 9) (c := (!(validB a0))) rfl (fun c3 => ?_) (fun c3 => ?_)
   ·
    replace h1 := condT c3 h1
    refine XL.no rfl rfl <| XL.no rfl rfl <| XL.no rfl rfl <| rR rfl rfl rfl (RO.pickT rfl rfl) <| XL.nil ?_
    have e_ := Option.some.inj h1
    subst e_
    exact XQ.joinR true (stle (tR rfl (tR rfl (tR rfl (tR rfl tZ)))) (hR rfl (hR rfl hZ)) kZ rfl (Nat.zero_le _) rfl rfl rfl (bB rfl rfl (bB rfl rfl bZ)) rfl rfl) h0
   ·
    replace h1 := condF c3 h1
    refine rM rfl rfl rfl ?_
    refine guardK h1 (fun g4 h1 => ?_)
    refine XL.put rfl rfl (lb rfl) (OpOK.callFun (allValidRF a1 g4) rfl (.cons (.one (.d _)) .nil)) <| rR rfl rfl rfl (RO.not rfl) <| rR rfl rfl rfl (RO.pickF rfl rfl) <| XL.nil ?_
    have e_ := Option.some.inj h1
    subst e_
    exact XQ.joinR (!(a1.all validB)) (stle (tR rfl (tR rfl (tR rfl (tR rfl tZ)))) (hR rfl (hR rfl hZ)) kZ rfl (Nat.zero_le _) rfl rfl rfl (bB rfl rfl (bB rfl rfl bZ)) rfl rfl) h0
  ·
   intro v1 h0
   refine XQ.seq ?_
   refine XC.cond (b := v1) rfl (fun c5 => ?_) (fun c5 => ?_)
   ·
    replace h0 := condT c5 h0
    refine XC.seq <| XC.region <| rR rfl rfl rfl (RO.build0 bd_24 rfl ) <| XL.eff rfl rfl (OpOK.store ag_24 rfl rfl rfl rfl (lb rfl) rfl) <| rA rfl rfl rfl <| XL.nil <| XQ.seq <| XC.ret ?_
    have e_ := Option.some.inj h0
    subst e_
    exact XQ.retF (fun _ _ h => h) rfl (RAs.agg ag_24 rfl rfl rfl rfl (RAs.tmp rfl .nil)) (.cons (.agg (.cons (.d _) (.cons (.nil _) .nil))) (.cons (.one (.d _)) .nil))
   ·
    replace h0 := condF c5 h0
    refine XC.skip <| XQ.seq <| XC.seq <| XC.seq <| XC.region <| rR rfl rfl rfl (RO.loadOwnAgg ag_24 rfl rfl rfl rfl) ?_
    refine bindK h0 (fun x6 hx6 h0 => ?_)
    refine XL.put rfl rfl (lb rfl) (OpOK.callFun (m41_ok a0 x6 hx6) rfl (.cons (.agg (.cons (.d _) (.cons (.d _) .nil))) .nil)) <| rM rfl rfl rfl <| rR rfl rfl rfl (RO.lenE (α := Lvl) sl_55 rfl (.d _)) <| rR rfl rfl rfl (RO.binInt rfl rfl rfl) <| XL.nil <| XQ.seq ?_
    refine XC.cond (b := (decide ((a1.length : Int) < x6))) rfl (fun c7 => ?_) (fun c7 => ?_)
    ·
     replace h0 := condT c7 h0
     refine XC.seq <| XC.region <| rR rfl rfl rfl (RO.build0 bd_24 rfl ) <| XL.eff rfl rfl (OpOK.store ag_24 rfl rfl rfl rfl (lb rfl) rfl) <| rA rfl rfl rfl <| XL.nil <| XQ.seq <| XC.ret ?_
     have e_ := Option.some.inj h0
     subst e_
     exact XQ.retF (fun _ _ h => h) rfl (RAs.agg ag_24 rfl rfl rfl rfl (RAs.tmp rfl .nil)) (.cons (.agg (.cons (.d _) (.cons (.nil _) .nil))) (.cons (.one (.d _)) .nil))
    ·
     replace h0 := condF c7 h0
     refine XC.skip <| XQ.seq <| XC.seq <| XC.region <| rR rfl rfl rfl (RO.loadOwnAgg ag_24 rfl rfl rfl rfl) <| rM rfl rfl rfl ?_
     refine bindK h0 (fun x8 hx8 h0 => ?_)
     refine XL.put rfl rfl (lb rfl) (OpOK.callFun (m73_ok a0 a1 false x8 hx8) rfl (.cons (.agg (.cons (.d _) (.cons (.d _) .nil))) (.cons (.one (.d _)) (.cons (.one (.d _)) .nil)))) <| rR rfl rfl rfl (RO.extract rfl rfl) <| rR rfl rfl rfl (RO.extract rfl rfl) <| XL.eff rfl rfl (OpOK.store ag_24 rfl rfl rfl rfl (lb rfl) rfl) <| rA rfl rfl rfl <| XL.nil <| XQ.seq <| XC.ret ?_
     have e_ := Option.some.inj h0
     subst e_
     exact XQ.retF (fun _ _ h => h) rfl (RAs.agg ag_24 rfl rfl rfl rfl (RAs.tmp rfl .nil)) (.cons (.agg (.cons (.d _) (.cons (.d _) .nil))) (.cons (.one (.d _)) .nil))

/-- euclid/euclidref01.Assign -/
def m37 (a0 : Lvl) (a1 : List Lvl) : Option (Lvl × Int) :=
  Option.bind (guardO (Nat.ble a0.vs.length 100000)
  (cond (!(validB a0))
    (some true)
    (guardO (lensB a1)
  (some (!(a1.all validB)))))) (fun (v1 : Bool) => cond v1
    (some ((⟨0, ([] : List LV)⟩ : Lvl), 3))
    (Option.bind (m73 a0 a1 true) fun (x3 : Lvl × Int) =>
  some (x3.1, x3.2)))

set_option maxRecDepth 100000 in
set_option maxHeartbeats 8000000 in
theorem m37_ok (a0 : Lvl) (a1 : List Lvl) (r : Lvl × Int) (h0 : m37 a0 a1 = some r) : Fun Tryz.prog 37 [.agg (cE a0), .one (dS a1)] (resOf [.agg (cE r.1), .one (dI r.2)]) := by
  unfold m37 at h0
  refine Fun.of_bodyM 9 20 Tryz.func37 rfl en_37 rfl (lb rfl) (fun S w => ?_)
  simp only [entry]
  refine XC.seq <| XC.region <| XL.put rfl rfl (lb rfl) (OpOK.box rfl) <| XL.put rfl rfl (lb rfl) (OpOK.alloc z_24 rfl) <| rA rfl rfl rfl <| XL.nil <| XQ.seq <| XC.seq <| XC.seq ?_
  refine XC.joinR (fun (v1 : Bool) => ⟨[(1, .v (.one (dS a1))), (2, .v (.one (.ptr 0 0))), (4, .v (.one (.ptr 1 0))), (13, .v (.one (dB v1)))], [(0, .cells 24 (cE a0)), (1, .cells 24 [dI 0, dN])], [], 2, 20, []⟩) (fun (v1 : Bool) => (cond v1
      (some ((⟨0, ([] : List LV)⟩ : Lvl), 3))
      (Option.bind (m73 a0 a1 true) fun (x3 : Lvl × Int) =>
    some (x3.1, x3.2))) = some r) ?_ ?_
  ·
   refine bindK h0 (fun v_ h1 h0 => ?_)
   refine XC.region <| rR rfl rfl rfl (RO.loadOwnAgg ag_24 rfl rfl rfl rfl) ?_
   refine guardK h1 (fun g2 h1 => ?_)
   refine XL.put rfl rfl (lb rfl) (OpOK.callFun (validR_fun a0 (Nat.le_of_ble_eq_true g2)) rfl (.cons (.agg (.cons (.d _) (.cons (.d _) .nil))) .nil)) ?_
   refine rR rfl rfl rfl (RO.not rfl) <| rM rfl rfl rfl ?_
   refine XL.case (d := 9) (c := (!(validB a0))) rfl (fun c3 => ?_) (fun c3 => ?_)
   ·
    replace h1 := condT c3 h1
    refine XL.no rfl rfl <| XL.no rfl rfl <| XL.no rfl rfl <| rR rfl rfl rfl (RO.pickT rfl rfl) <| XL.nil ?_
    have e_ := Option.some.inj h1
    subst e_
    exact XQ.joinR true (stle (tR rfl (tR rfl (tR rfl (tR rfl tZ)))) (hR rfl (hR rfl hZ)) kZ rfl (Nat.zero_le _) rfl rfl rfl (bB rfl rfl (bB rfl rfl bZ)) rfl rfl) h0
   ·
    replace h1 := condF c3 h1
    refine rM rfl rfl rfl ?_
    refine guardK h1 (fun g4 h1 => ?_)
    refine XL.put rfl rfl (lb rfl) (OpOK.callFun (allValidRF a1 g4) rfl (.cons (.one (.d _)) .nil)) <| rR rfl rfl rfl (RO.not rfl) <| rR rfl rfl rfl (RO.pickF rfl rfl) <| XL.nil ?_
    have e_ := Option.some.inj h1
    subst e_
    exact XQ.joinR (!(a1.all validB)) (stle (tR rfl (tR rfl (tR rfl (tR rfl tZ)))) (hR rfl (hR rfl hZ)) kZ rfl (Nat.zero_le _) rfl rfl rfl (bB rfl rfl (bB rfl rfl bZ)) rfl rfl) h0
  ·
   intro v1 h0
   refine XQ.seq ?_
   refine XC.cond (b := v1) rfl (fun c5 => ?_) (fun c5 => ?_)
   ·
    replace h0 := condT c5 h0
    refine XC.seq <| XC.region <| rR rfl rfl rfl (RO.build0 bd_24 rfl ) <| XL.eff rfl rfl (OpOK.store ag_24 rfl rfl rfl rfl (lb rfl) rfl) <| rA rfl rfl rfl <| XL.nil <| XQ.seq <| XC.ret ?_
    have e_ := Option.some.inj h0
    subst e_
    exact XQ.retF (fun _ _ h => h) rfl (RAs.agg ag_24 rfl rfl rfl rfl (RAs.tmp rfl .nil)) (.cons (.agg (.cons (.d _) (.cons (.nil _) .nil))) (.cons (.one (.d _)) .nil))
   ·
    replace h0 := condF c5 h0
    refine XC.skip <| XQ.seq <| XC.seq <| XC.region <| rR rfl rfl rfl (RO.loadOwnAgg ag_24 rfl rfl rfl rfl) <| rM rfl rfl rfl ?_
    refine bindK h0 (fun x6 hx6 h0 => ?_)
    refine XL.put rfl rfl (lb rfl) (OpOK.callFun (m73_ok a0 a1 true x6 hx6) rfl (.cons (.agg (.cons (.d _) (.cons (.d _) .nil))) (.cons (.one (.d _)) (.cons (.one (.d _)) .nil)))) <| rR rfl rfl rfl (RO.extract rfl rfl) <| rR rfl rfl rfl (RO.extract rfl rfl) <| XL.eff rfl rfl (OpOK.store ag_24 rfl rfl rfl rfl (lb rfl) rfl) <| rA rfl rfl rfl <| XL.nil <| XQ.seq <| XC.ret ?_
    have e_ := Option.some.inj h0
    subst e_
    exact XQ.retF (fun _ _ h => h) rfl (RAs.agg ag_24 rfl rfl rfl rfl (RAs.tmp rfl .nil)) (.cons (.agg (.cons (.d _) (.cons (.d _) .nil))) (.cons (.one (.d _)) .nil))
end

section
open Go.RowKit
set_option linter.unusedSimpArgs false
set_option linter.unusedVariables false

set_option maxRecDepth 100000 in
theorem indexLvlW (l : List Lvl) (p : Lvl → Bool) (f : FuncId) (caps : List (List C × Nat)) (hlen : l.length ≤ 9223372036854775807) (hf : ∀ x ∈ l, Fun Tryz.prog f ([lvlA x] ++ caps.map fun q => .one (.pel q.1 q.2)) (TB (p x))) : Fun Tryz.prog 76 [.one (.d (.sl 2 (l.map lvlC))), .one (.clo f caps)] (TI (idxOf p l)) := by
  refine Fun.of_body 9 19 Tryz.func76 rfl en_76 rfl (lb rfl) (fun S w => ?_)
  simp only [entry]
  refine XC.seq <| XC.region <| oA rfl rfl <| XL.nil <| XQ.seq <| XC.seq <| XC.seq <| XC.region <| oM rfl rfl ?_
  refine XL.op rfl (XO.of_ro rfl (lb rfl) (RO.len sl_55 rfl (by repeat' constructor))) ?_
  refine oM rfl rfl <| XL.nil <| XQ.seq <| XC.block ?_
  refine XC.loop (X := Nat) (fun k => ⟨[(0, .v (.one (.d (.sl 2 (l.map lvlC))))), (1, .v (.one (.clo f caps))), (7, TI (l.map lvlC).length), (8, TI k)], [], [], 0, 19, []⟩) (fun k => k ≤ l.length ∧ ∀ (i : Nat) (x : Lvl), i < k → l[i]? = some x → p x = false) (fun k => l.length - k) 0 ⟨(by repeat' constructor), (by repeat' constructor), (by repeat (first | exact trivial | refine ⟨(by intro T h; first | (cases h; rfl) | cases h), ?_⟩)), (lb rfl), Nat.zero_le _, rfl, rfl, (by simp [tmBelow, TV.below, AV.below, CA.below]), (by simp [hpBelow, HB.below, CA.below]), (by simp [tkBelow]), (by simp)⟩ ⟨Nat.zero_le _, fun i e h => absurd h (Nat.not_lt_zero i)⟩ ?_
  rintro k ⟨hk, hn⟩
  try dsimp only
  refine XC.seq <| XC.region <| oR rfl rfl rfl (RO.cmp rfl rfl rfl) <| XL.nil <| XQ.seq <| XC.seq ?_
  refine XC.cond rfl (fun c1 => ?_) (fun c1 => ?_)
  ·
    replace c1 := prs c1
    simp only [List.length_map] at c1
    have hlt : k < l.length := by omega
    obtain ⟨x, hx⟩ : ∃ x, l[k]? = some x := ⟨_, List.getElem?_eq_getElem hlt⟩
    refine XC.skip <| XQ.seq <| XC.seq <| XC.block <| XC.seq <| XC.region <| oM rfl rfl <| oA rfl rfl <| XL.nil <| XQ.seq <| XC.seq <| XC.region <| oM rfl rfl <| oM rfl rfl ?_
    refine oM rfl rfl ?_
    refine XL.op rfl (XO.of_ro rfl (lb rfl) (RO.index sl_55 rfl (by repeat' constructor) rfl rfl (map_get hx))) ?_
    first | refine oR rfl rfl rfl (RO.loadOwnAgg ag_24 rfl rfl rfl rfl) ?_ | refine oR rfl rfl rfl (RO.loadPelAgg ag_24 rfl rfl rfl) ?_
    refine XL.op rfl (XO.callB1 (.inr ⟨_, _, rfl, rfl, rfl⟩) (hf x (List.mem_of_getElem? hx)) (by first | exact Plain.v _ rfl | exact Plain.tup [_, _] (by simp [Value.oneCell'])) rfl (by repeat' constructor) (lb rfl)) ?_
    refine XL.nil <| XQ.seq ?_
    refine XC.cond rfl (fun c2 => ?_) (fun c2 => ?_)
    ·
      replace c2 := prs c2
      refine XC.seq <| XC.region <| oM rfl rfl <| oA rfl rfl <| XL.nil <| XQ.seq <| XC.ret ?_
      refine XQ.ret1 (fun _ _ h => h) rfl (RA.tmp rfl) ?s0 rfl
      case s0 => (rw [idxOf_at p l k x hx c2 hn]); exact (by repeat' constructor)
    ·
      replace c2 := prs c2
      refine XC.skip <| XQ.inBlock <| XQ.seq <| XC.region ?_
      refine XL.op rfl (XO.of_ro rfl (lb rfl) (RO.arith rfl rfl rfl (by omega) (by omega))) ?_
      refine oM rfl rfl <| XL.nil ?_
      refine XQ.next (k + 1) ⟨(by repeat' constructor), (by repeat' constructor), (by repeat (first | exact trivial | refine ⟨(by intro T h; first | (cases h; rfl) | cases h), ?_⟩)), (lb rfl), Nat.zero_le _, rfl, rfl, (by simp [tmBelow, TV.below, AV.below, CA.below]), (by simp [hpBelow, HB.below, CA.below]), (by simp [tkBelow]), (by simp)⟩ ⟨by omega, ?_⟩ (by omega)
      intro i y hi hy
      rcases Nat.lt_or_ge i k with h | h
      · exact hn i y h hy
      · obtain rfl : i = k := by omega
        rw [hx] at hy; cases hy; exact c2
  ·
    replace c1 := prs c1
    refine XC.exit <| XQ.thenE <| XQ.thenE <| XQ.blockX <| XQ.seq <| XC.seq <| XC.region <| oA rfl rfl <| XL.nil <| XQ.seq <| XC.ret ?_
    refine XQ.ret1 (fun _ _ h => h) rfl (RA.tmp rfl) ?s0 rfl
    case s0 => (rw [idxOf_none p l (fun i y hy => hn i y (by have := (List.getElem?_eq_some_iff.1 hy).1; simp only [List.length_map] at c1; omega) hy)]); exact (by repeat' constructor)

set_option maxRecDepth 100000 in
theorem containsLvlW (l : List Lvl) (p : Lvl → Bool) (f : FuncId) (caps : List (List C × Nat)) (hlen : l.length ≤ 9223372036854775807) (hf : ∀ x ∈ l, Fun Tryz.prog f ([lvlA x] ++ caps.map fun q => .one (.pel q.1 q.2)) (TB (p x))) : Fun Tryz.prog 45 [.one (.d (.sl 2 (l.map lvlC))), .one (.clo f caps)] (TB (l.any p)) := by
  refine Fun.of_body 9 9 Tryz.func45 rfl en_45 rfl (lb rfl) (fun S w => ?_)
  simp only [entry]
  refine XC.seq <| XC.region <| oA rfl rfl <| XL.nil <| XQ.seq <| XC.seq <| XC.region <| oM rfl rfl <| oM rfl rfl ?_
  refine XL.op rfl (XO.callB2 (.inl ⟨rfl, rfl⟩) (indexLvlW l p f caps hlen hf) (by first | exact Plain.v _ rfl | exact Plain.tup [_, _] (by simp [Value.oneCell'])) rfl (by repeat' constructor) rfl (by repeat' constructor) (lb rfl)) ?_
  refine oR rfl rfl rfl (RO.cmp rfl rfl rfl) <| oA rfl rfl <| XL.nil <| XQ.seq <| XC.ret ?_
  refine XQ.ret1 (fun _ _ h => h) rfl (RA.tmp rfl) ?s0 rfl
  case s0 => (rw [← idxOf_pos p l]); exact (by repeat' constructor)

set_option maxRecDepth 100000 in
theorem few1 (L : Lvl) : Fun Tryz.prog 46 [lvlA L] (TB (decide (12 < (((L.vs.map lvC).length : Nat) : Int)))) := by
  refine Fun.of_body 9 7 Tryz.func46 rfl en_46 rfl (lb rfl) (fun S w => ?_)
  simp only [entry]
  refine XC.seq <| XC.region <| XL.op rfl (XO.box rfl (lb rfl)) <| oA rfl rfl <| XL.nil <| XQ.seq <| XC.seq <| XC.region ?_
  first | refine oR rfl rfl rfl (RO.fieldOwn fo_24_1 rfl) ?_ | refine oR rfl rfl rfl (RO.fieldPel fo_24_1 rfl) ?_
  first | refine oR rfl rfl rfl (RO.loadOwn ag_22 rfl rfl rfl) ?_ | refine oR rfl rfl rfl (RO.loadPel ag_22 rfl rfl) ?_
  refine XL.op rfl (XO.of_ro rfl (lb rfl) (RO.len sl_22 rfl (by repeat' constructor))) ?_
  refine oR rfl rfl rfl (RO.cmp rfl rfl rfl) <| oA rfl rfl <| XL.nil <| XQ.seq <| XC.ret ?_
  refine XQ.ret1 (fun _ _ h => h) rfl (RA.tmp rfl) ?s0 rfl
  case s0 => exact (by repeat' constructor)

set_option maxRecDepth 100000 in
theorem fewW (l : List Lvl) (hlen : l.length ≤ 9223372036854775807) : Fun Tryz.prog 13 [.one (.d (lvlsC l))] (TB (!(l.any fun L => decide (12 < (((L.vs.map lvC).length : Nat) : Int))))) := by
  refine Fun.of_body 9 6 Tryz.func13 rfl en_13 rfl (lb rfl) (fun S w => ?_)
  simp only [entry]
  refine XC.seq <| XC.region <| oA rfl rfl <| XL.nil <| XQ.seq <| XC.seq <| XC.region <| oM rfl rfl ?_
  refine XL.op rfl (XO.callB2 (.inl ⟨rfl, rfl⟩) (containsLvlW l (fun L => decide (12 < (((L.vs.map lvC).length : Nat) : Int))) 46 [] hlen (fun L _ => few1 L)) (by first | exact Plain.v _ rfl | exact Plain.tup [_, _] (by simp [Value.oneCell'])) rfl (by repeat' constructor) rfl (by repeat' constructor) (lb rfl)) ?_
  refine oR rfl rfl rfl (RO.not rfl) <| oA rfl rfl <| XL.nil <| XQ.seq <| XC.ret ?_
  refine XQ.ret1 (fun _ _ h => h) rfl (RA.tmp rfl) ?s0 rfl
  case s0 => exact (by repeat' constructor)

/-- few, for lists of any length -/
def fewL (l : List Lvl) : Bool := !(l.any fun L => decide (12 < (L.vs.length : Int)))
theorem few_any (l : List Lvl) (h : Nat.ble l.length 9223372036854775807 = true) : Fun Tryz.prog 13 [.one (.d (lvlsC l))] (TB (fewL l)) := by
  have := fewW l (Nat.le_of_ble_eq_true h)
  simp only [List.length_map] at this
  exact this
end

section
open Go.RowKit Go.Shelf
set_option linter.unusedSimpArgs false
set_option linter.unusedVariables false

theorem en_11 : Enters Tryz.prog 11 := enters_of Tryz.func11 (by kernel_rfl) rfl
/-- euclid/euclidlaw01.LevelSubsts -/
def m11 (a0 : Lvl) (a1 : List Lvl) : Option Bool :=
  Option.bind (guardO (Nat.ble ([a0]).length 9223372036854775807)
  (cond (!(fewL ([a0])))
    (some true)
    (guardO (Nat.ble a1.length 9223372036854775807)
  (cond (!(fewL a1))
    (some true)
    (some (decide (12 < (a1.length : Int)))))))) (fun (v1 : Bool) => cond v1
    (some true)
    (Option.bind (m34 a0 a1) fun (x3 : Lvl × Int) =>
  Option.bind (m35 a0 a1) fun (x4 : Lvl × Int) =>
  Option.bind (m36 a0 a1) fun (x5 : Lvl × Int) =>
  Option.bind (m37 a0 a1) fun (x6 : Lvl × Int) =>
  Option.bind (Option.bind (m21 x3.1 x4.1) fun (x8 : Bool) =>
  cond x8
    (cond (x3.2 == x4.2)
    (Option.bind (m21 x5.1 x6.1) fun (x11 : Bool) =>
  cond x11
    (cond (x5.2 == x6.2)
    (some true)
    (some false))
    (some false))
    (some false))
    (some false)) (fun (v7 : Bool) => some v7)))

set_option maxRecDepth 100000 in
set_option maxHeartbeats 8000000 in
theorem m11_ok (a0 : Lvl) (a1 : List Lvl) (r : Bool) (h0 : m11 a0 a1 = some r) : Fun Tryz.prog 11 [.agg (cE a0), .one (dS a1)] (resOf [.one (dB r)]) := by
  unfold m11 at h0
  refine Fun.of_bodyM 9 73 Tryz.func11 rfl en_11 rfl (lb rfl) (fun S w => ?_)
  simp only [entry]
  refine XC.seq <| XC.region <| XL.put rfl rfl (lb rfl) (OpOK.box rfl) <| rA rfl rfl rfl <| XL.nil <| XQ.seq <| XC.seq <| XC.seq ?_
  refine XC.joinR (fun (v1 : Bool) => ⟨[(1, .v (.one (dS a1))), (2, .v (.one (.ptr 0 0))), (26, .v (.one (dB v1)))], [(0, .cells 24 (cE a0))], [(1, some ⟨24, 2, (Enc.encL ([a0] : List Lvl)).length⟩)], 2, 73, []⟩) (fun (v1 : Bool) => (cond v1
      (some true)
      (Option.bind (m34 a0 a1) fun (x3 : Lvl × Int) =>
    Option.bind (m35 a0 a1) fun (x4 : Lvl × Int) =>
    Option.bind (m36 a0 a1) fun (x5 : Lvl × Int) =>
    Option.bind (m37 a0 a1) fun (x6 : Lvl × Int) =>
    Option.bind (Option.bind (m21 x3.1 x4.1) fun (x8 : Bool) =>
    cond x8
      (cond (x3.2 == x4.2)
      (Option.bind (m21 x5.1 x6.1) fun (x11 : Bool) =>
    cond x11
      (cond (x5.2 == x6.2)
      (some true)
      (some false))
      (some false))
      (some false))
      (some false)) (fun (v7 : Bool) => some v7))) = some r) ?_ ?_
  ·
   refine bindK h0 (fun v_ h1 h0 => ?_)
   refine XC.region <| rR rfl rfl rfl (RO.loadOwnAgg ag_24 rfl rfl rfl rfl) <| XL.put rfl rfl (lb rfl) (OpOK.lit1E (α := Lvl) (a0) sl_55 z_24 rfl rfl (lb rfl) (lb rfl) rfl rfl (.cons (.d _) (.cons (.d _) .nil)) rfl) ?_
   refine guardK h1 (fun g2 h1 => ?_)
   refine XL.put rfl rfl (lb rfl) (OpOK.callFun (few_any ([a0]) g2) rfl (.cons (.one (.app _ _ _)) .nil)) <| rR rfl rfl rfl (RO.not rfl) <| rM rfl rfl rfl ?_
   refine XL.case (d := 17) (c := (!(fewL ([a0])))) rfl (fun c3 => ?_) (fun c3 => ?_)
   ·
    replace h1 := condT c3 h1
    refine XL.no rfl rfl <| XL.no rfl rfl <| XL.no rfl rfl <| rR rfl rfl rfl (RO.pickT rfl rfl) <| rM rfl rfl rfl <| XL.no rfl rfl <| XL.no rfl rfl <| XL.no rfl rfl <| rR rfl rfl rfl (RO.pickT rfl rfl) <| XL.nil ?_
    have e_ := Option.some.inj h1
    subst e_
    exact XQ.joinR true (stle (tR rfl (tR rfl (tR rfl tZ))) (hR rfl hZ) (kR rfl kZ) rfl (Nat.zero_le _) rfl rfl rfl (bB rfl rfl bZ) rfl rfl) h0
   ·
    replace h1 := condF c3 h1
    refine rM rfl rfl rfl ?_
    refine guardK h1 (fun g4 h1 => ?_)
    refine XL.put rfl rfl (lb rfl) (OpOK.callFun (few_any a1 g4) rfl (.cons (.one (.d _)) .nil)) <| rR rfl rfl rfl (RO.not rfl) <| rR rfl rfl rfl (RO.pickF rfl rfl) <| rM rfl rfl rfl ?_
    refine XL.case (d := 22) (c := (!(fewL a1))) rfl (fun c5 => ?_) (fun c5 => ?_)
    ·
     replace h1 := condT c5 h1
     refine XL.no rfl rfl <| XL.no rfl rfl <| XL.no rfl rfl <| rR rfl rfl rfl (RO.pickT rfl rfl) <| XL.nil ?_
     have e_ := Option.some.inj h1
     subst e_
     exact XQ.joinR true (stle (tR rfl (tR rfl (tR rfl tZ))) (hR rfl hZ) (kR rfl kZ) rfl (Nat.zero_le _) rfl rfl rfl (bB rfl rfl bZ) rfl rfl) h0
    ·
     replace h1 := condF c5 h1
     refine rM rfl rfl rfl <| rR rfl rfl rfl (RO.lenE (α := Lvl) sl_55 rfl (.d _)) <| rR rfl rfl rfl (RO.binInt rfl rfl rfl) <| rR rfl rfl rfl (RO.pickF rfl rfl) <| XL.nil ?_
     have e_ := Option.some.inj h1
     subst e_
     exact XQ.joinR (decide (12 < (a1.length : Int))) (stle (tR rfl (tR rfl (tR rfl tZ))) (hR rfl hZ) (kR rfl kZ) rfl (Nat.zero_le _) rfl rfl rfl (bB rfl rfl bZ) rfl rfl) h0
  ·
   intro v1 h0
   refine XQ.seq ?_
   refine XC.cond (b := v1) rfl (fun c6 => ?_) (fun c6 => ?_)
   ·
    replace h0 := condT c6 h0
    refine XC.seq <| XC.region <| XL.put rfl rfl (lb rfl) (OpOK.callFun (awake_fun) rfl .nil) <| rA rfl rfl rfl <| XL.nil <| XQ.seq <| XC.ret ?_
    have e_ := Option.some.inj h0
    subst e_
    exact XQ.retF (fun _ _ h => h) rfl (RAs.tmp rfl .nil) (.cons (.one (.d _)) .nil)
   ·
    replace h0 := condF c6 h0
    refine XC.skip <| XQ.seq <| XC.seq <| XC.region <| rR rfl rfl rfl (RO.loadOwnAgg ag_24 rfl rfl rfl rfl) <| rM rfl rfl rfl ?_
    refine bindK h0 (fun x7 hx7 h0 => ?_)
    refine XL.put rfl rfl (lb rfl) (OpOK.callFun (m34_ok a0 a1 x7 hx7) rfl (.cons (.agg (.cons (.d _) (.cons (.d _) .nil))) (.cons (.one (.d _)) .nil))) <| rM rfl rfl rfl <| rR rfl rfl rfl (RO.extract rfl rfl) <| rR rfl rfl rfl (RO.extract rfl rfl) <| XL.put rfl rfl (lb rfl) (OpOK.alloc z_24 rfl) <| XL.eff rfl rfl (OpOK.store ag_24 rfl rfl rfl rfl (lb rfl) rfl) <| rA rfl rfl rfl <| XL.nil <| XQ.seq <| XC.seq <| XC.region <| rR rfl rfl rfl (RO.loadOwnAgg ag_24 rfl rfl rfl rfl) <| rM rfl rfl rfl ?_
    refine bindK h0 (fun x8 hx8 h0 => ?_)
    refine XL.put rfl rfl (lb rfl) (OpOK.callFun (m35_ok a0 a1 x8 hx8) rfl (.cons (.agg (.cons (.d _) (.cons (.d _) .nil))) (.cons (.one (.d _)) .nil))) <| rM rfl rfl rfl <| rR rfl rfl rfl (RO.extract rfl rfl) <| rR rfl rfl rfl (RO.extract rfl rfl) <| XL.put rfl rfl (lb rfl) (OpOK.alloc z_24 rfl) <| XL.eff rfl rfl (OpOK.store ag_24 rfl rfl rfl rfl (lb rfl) rfl) <| rA rfl rfl rfl <| XL.nil <| XQ.seq <| XC.seq <| XC.region <| rR rfl rfl rfl (RO.loadOwnAgg ag_24 rfl rfl rfl rfl) <| rM rfl rfl rfl ?_
    refine bindK h0 (fun x9 hx9 h0 => ?_)
    refine XL.put rfl rfl (lb rfl) (OpOK.callFun (m36_ok a0 a1 x9 hx9) rfl (.cons (.agg (.cons (.d _) (.cons (.d _) .nil))) (.cons (.one (.d _)) .nil))) <| rM rfl rfl rfl <| rR rfl rfl rfl (RO.extract rfl rfl) <| rR rfl rfl rfl (RO.extract rfl rfl) <| XL.put rfl rfl (lb rfl) (OpOK.alloc z_24 rfl) <| XL.eff rfl rfl (OpOK.store ag_24 rfl rfl rfl rfl (lb rfl) rfl) <| rA rfl rfl rfl <| XL.nil <| XQ.seq <| XC.seq <| XC.region <| rR rfl rfl rfl (RO.loadOwnAgg ag_24 rfl rfl rfl rfl) <| rM rfl rfl rfl ?_
    refine bindK h0 (fun x10 hx10 h0 => ?_)
    refine XL.put rfl rfl (lb rfl) (OpOK.callFun (m37_ok a0 a1 x10 hx10) rfl (.cons (.agg (.cons (.d _) (.cons (.d _) .nil))) (.cons (.one (.d _)) .nil))) <| rM rfl rfl rfl <| rR rfl rfl rfl (RO.extract rfl rfl) <| rR rfl rfl rfl (RO.extract rfl rfl) <| XL.put rfl rfl (lb rfl) (OpOK.alloc z_24 rfl) <| XL.eff rfl rfl (OpOK.store ag_24 rfl rfl rfl rfl (lb rfl) rfl) <| rA rfl rfl rfl <| XL.nil <| XQ.seq <| XC.seq ?_
    refine XC.joinR (fun (v11 : Bool) => ⟨[(4, .v (.one (dB v11)))], [(0, .cells 24 (cE a0)), (2, .cells 24 (cE x7.1)), (3, .cells 24 (cE x8.1)), (4, .cells 24 (cE x9.1)), (5, .cells 24 (cE x10.1))], [(1, some ⟨24, 2, (Enc.encL ([a0] : List Lvl)).length⟩)], 6, 73, []⟩) (fun (v11 : Bool) => (some v11) = some r) ?_ ?_
    ·
     refine bindK h0 (fun v_ h1 h0 => ?_)
     refine XC.region <| rR rfl rfl rfl (RO.loadOwnAgg ag_24 rfl rfl rfl rfl) <| rR rfl rfl rfl (RO.loadOwnAgg ag_24 rfl rfl rfl rfl) ?_
     refine bindK h1 (fun x12 hx12 h1 => ?_)
     refine XL.put rfl rfl (lb rfl) (OpOK.callFun (m21_ok x7.1 x8.1 x12 hx12) rfl (.cons (.agg (.cons (.d _) (.cons (.d _) .nil))) (.cons (.agg (.cons (.d _) (.cons (.d _) .nil))) .nil))) <| rM rfl rfl rfl ?_
     refine XL.case (d := 55) (c := x12) rfl (fun c13 => ?_) (fun c13 => ?_)
     ·
      replace h1 := condT c13 h1
      refine rM rfl rfl rfl <| rM rfl rfl rfl <| rR rfl rfl rfl (RO.binInt rfl rfl rfl) <| rR rfl rfl rfl (RO.pickT rfl rfl) <| rM rfl rfl rfl ?_
      refine XL.case (d := 60) (c := (x7.2 == x8.2)) rfl (fun c14 => ?_) (fun c14 => ?_)
      ·
       replace h1 := condT c14 h1
       refine rR rfl rfl rfl (RO.loadOwnAgg ag_24 rfl rfl rfl rfl) <| rR rfl rfl rfl (RO.loadOwnAgg ag_24 rfl rfl rfl rfl) ?_
       refine bindK h1 (fun x15 hx15 h1 => ?_)
       refine XL.put rfl rfl (lb rfl) (OpOK.callFun (m21_ok x9.1 x10.1 x15 hx15) rfl (.cons (.agg (.cons (.d _) (.cons (.d _) .nil))) (.cons (.agg (.cons (.d _) (.cons (.d _) .nil))) .nil))) <| rR rfl rfl rfl (RO.pickT rfl rfl) <| rM rfl rfl rfl ?_
       refine XL.case (d := 65) (c := x15) rfl (fun c16 => ?_) (fun c16 => ?_)
       ·
        replace h1 := condT c16 h1
        refine rM rfl rfl rfl <| rM rfl rfl rfl <| rR rfl rfl rfl (RO.binInt rfl rfl rfl) <| rR rfl rfl rfl (RO.pickT rfl rfl) <| rM rfl rfl rfl ?_
        refine XL.case (d := 70) (c := (x9.2 == x10.2)) rfl (fun c17 => ?_) (fun c17 => ?_)
        ·
         replace h1 := condT c17 h1
         refine XL.put rfl rfl (lb rfl) (OpOK.callFun (awake_fun) rfl .nil) <| rR rfl rfl rfl (RO.pickT rfl rfl) <| rA rfl rfl rfl <| XL.nil ?_
         have e_ := Option.some.inj h1
         subst e_
         exact XQ.joinR true (stle (tR rfl tZ) (hR rfl (hR rfl (hR rfl (hR rfl (hR rfl hZ))))) (kR rfl kZ) rfl (Nat.zero_le _) rfl rfl rfl (bB rfl rfl (bB rfl rfl (bB rfl rfl (bB rfl rfl (bB rfl rfl bZ))))) rfl rfl) h0
        ·
         replace h1 := condF c17 h1
         refine XL.no rfl rfl <| rR rfl rfl rfl (RO.pickF rfl rfl) <| rA rfl rfl rfl <| XL.nil ?_
         have e_ := Option.some.inj h1
         subst e_
         exact XQ.joinR false (stle (tR rfl tZ) (hR rfl (hR rfl (hR rfl (hR rfl (hR rfl hZ))))) (kR rfl kZ) rfl (Nat.zero_le _) rfl rfl rfl (bB rfl rfl (bB rfl rfl (bB rfl rfl (bB rfl rfl (bB rfl rfl bZ))))) rfl rfl) h0
       ·
        replace h1 := condF c16 h1
        refine XL.no rfl rfl <| XL.no rfl rfl <| XL.no rfl rfl <| rR rfl rfl rfl (RO.pickF rfl rfl) <| rM rfl rfl rfl <| XL.no rfl rfl <| rR rfl rfl rfl (RO.pickF rfl rfl) <| rA rfl rfl rfl <| XL.nil ?_
        have e_ := Option.some.inj h1
        subst e_
        exact XQ.joinR false (stle (tR rfl tZ) (hR rfl (hR rfl (hR rfl (hR rfl (hR rfl hZ))))) (kR rfl kZ) rfl (Nat.zero_le _) rfl rfl rfl (bB rfl rfl (bB rfl rfl (bB rfl rfl (bB rfl rfl (bB rfl rfl bZ))))) rfl rfl) h0
      ·
       replace h1 := condF c14 h1
       refine XL.no rfl rfl <| XL.no rfl rfl <| XL.no rfl rfl <| rR rfl rfl rfl (RO.pickF rfl rfl) <| rM rfl rfl rfl <| XL.no rfl rfl <| XL.no rfl rfl <| XL.no rfl rfl <| rR rfl rfl rfl (RO.pickF rfl rfl) <| rM rfl rfl rfl <| XL.no rfl rfl <| rR rfl rfl rfl (RO.pickF rfl rfl) <| rA rfl rfl rfl <| XL.nil ?_
       have e_ := Option.some.inj h1
       subst e_
       exact XQ.joinR false (stle (tR rfl tZ) (hR rfl (hR rfl (hR rfl (hR rfl (hR rfl hZ))))) (kR rfl kZ) rfl (Nat.zero_le _) rfl rfl rfl (bB rfl rfl (bB rfl rfl (bB rfl rfl (bB rfl rfl (bB rfl rfl bZ))))) rfl rfl) h0
     ·
      replace h1 := condF c13 h1
      refine XL.no rfl rfl <| XL.no rfl rfl <| XL.no rfl rfl <| rR rfl rfl rfl (RO.pickF rfl rfl) <| rM rfl rfl rfl <| XL.no rfl rfl <| XL.no rfl rfl <| XL.no rfl rfl <| rR rfl rfl rfl (RO.pickF rfl rfl) <| rM rfl rfl rfl <| XL.no rfl rfl <| XL.no rfl rfl <| XL.no rfl rfl <| rR rfl rfl rfl (RO.pickF rfl rfl) ?_
      refine rM rfl rfl rfl <| XL.no rfl rfl <| rR rfl rfl rfl (RO.pickF rfl rfl) <| rA rfl rfl rfl <| XL.nil ?_
      have e_ := Option.some.inj h1
      subst e_
      exact XQ.joinR false (stle (tR rfl tZ) (hR rfl (hR rfl (hR rfl (hR rfl (hR rfl hZ))))) (kR rfl kZ) rfl (Nat.zero_le _) rfl rfl rfl (bB rfl rfl (bB rfl rfl (bB rfl rfl (bB rfl rfl (bB rfl rfl bZ))))) rfl rfl) h0
    ·
     intro v11 h0
     refine XQ.seq <| XC.ret ?_
     have e_ := Option.some.inj h0
     subst e_
     exact XQ.retF (fun _ _ h => h) rfl (RAs.tmp rfl .nil) (.cons (.one (.d _)) .nil)
end

section
open Go.RowKit
set_option linter.unusedSimpArgs false
set_option linter.unusedVariables false

theorem hasV_b {ms : List Lvl} {v : LV} : (cond ((decide (v.1 < 0)) == true) (some (decide (-1 - v.1 < (ms.length : Int)))) (some false)) = some (decide (hasV ms v)) := by
  by_cases h1 : v.1 < 0
  · rw [decide_eq_true h1]
    by_cases h2 : -1 - v.1 < (ms.length : Int)
    · rw [decide_eq_true h2, decide_eq_true (show hasV ms v from ⟨h1, h2⟩)]; rfl
    · rw [decide_eq_false h2, decide_eq_false (show ¬ hasV ms v from fun e => h2 e.2)]; rfl
  · rw [decide_eq_false h1, decide_eq_false (show ¬ hasV ms v from fun e => h1 e.1)]; rfl

theorem repStep_wf {ms : List Lvl} (hm : ms.all validB = true) {out : Lvl} (hw : WF out.vs) {v : LV} (hv : okV v) : WF (repStep ms out v).1.vs := by
  unfold repStep
  by_cases hh : hasV ms v
  · rw [if_pos (show v.1 < 0 ∧ -1 - v.1 < ms.length from hh)]
    split
    · exact wf_join hw (wf_plus (wf_valid (valV_valid hm hh)))
    · exact wf_nil
  · rw [if_neg (show ¬ (v.1 < 0 ∧ -1 - v.1 < ms.length) from hh)]
    exact wf_join hw (wf_one ⟨hv.1, hv.2.1⟩)

theorem repStep_has {ms : List Lvl} {out : Lvl} {v : LV} (hh : hasV ms v) : repStep ms out v = (if (plusL (valV ms v) v.2).2 = 0 then (joinL out (plusL (valV ms v) v.2).1, (0 : Int)) else (⟨0, []⟩, (plusL (valV ms v) v.2).2)) := if_pos hh

theorem m73_eq {L : Lvl} {ms : List Lvl} (hL : validB L = true) (hm : ms.all validB = true) (hl : ms.length ≤ 100000) : m73 L ms true = some (repL L ms) := by
  unfold m73
  have hlen := (wf_valid hL).len
  have key := loop_spec (step := m73_l0 L true ms) (fun s => 0 ≤ s.1 ∧ s.1 ≤ L.vs.length ∧ WF s.2.2) (fun s => L.vs.length - s.1.toNat) (fun s => if (repGo ms (L.vs.drop s.1.toNat) ⟨s.2.1, s.2.2⟩).2 = 0 then .inl ((repGo ms (L.vs.drop s.1.toNat) ⟨s.2.1, s.2.2⟩).1.c, (repGo ms (L.vs.drop s.1.toNat) ⟨s.2.1, s.2.2⟩).1.vs) else .inr (repGo ms (L.vs.drop s.1.toNat) ⟨s.2.1, s.2.2⟩)) (fun s hs => by
    obtain ⟨i, c, vs⟩ := s
    obtain ⟨h0, h1, hw⟩ := hs
    obtain ⟨k, rfl⟩ := Int.eq_ofNat_of_zero_le h0
    dsimp only at h1 hw ⊢
    simp only [Int.toNat_natCast]
    unfold m73_l0
    dsimp only
    rcases Nat.lt_or_ge k L.vs.length with hk | hk
    · obtain ⟨v, hx⟩ : ∃ v, L.vs[k]? = some v := ⟨_, List.getElem?_eq_getElem hk⟩
      have hv : okV v := valid_okVar hL hx
      have hwf := repStep_wf hm (out := ⟨c, vs⟩) hw hv
      rw [decide_eq_true (by omega : (k : Int) < L.vs.length), cond_true, idx_nat (Int.natCast_nonneg _) (by simpa using hx), Option.bind_some, cond_true, w64_neg ⟨hv.1, hv.2.1⟩, hasV_b, Option.bind_some]
      by_cases hh : hasV ms v
      · have hV := valV_valid hm hh
        have es := repStep_has (out := ⟨c, vs⟩) hh
        rw [decide_eq_true hh, cond_true, idx_nat (by have := hh.1; omega) (valV_at hh), Option.bind_some, guard_t (ble_t (wf_valid hV).len)]
        by_cases he : (plusL (valV ms v) v.2).2 = 0
        · right
          rw [if_pos he] at es
          have hb : ((plusL (valV ms v) v.2).2 != 0) = false := by rw [he]; rfl
          rw [es] at hwf
          rw [hb, cond_false, guard_t (by rw [ble_t hw.len, cond_true]; exact ble_t (wf_plus (wf_valid hV)).len)]
          refine ⟨_, rfl, ⟨?_, ?_, hwf⟩, ?_, ?_⟩
          · rw [w64_next hk (by omega)]; exact Int.natCast_nonneg _
          · rw [w64_next hk (by omega)]; dsimp only; omega
          · rw [w64_next hk (by omega)]; simp only [Int.toNat_natCast]; omega
          · rw [w64_next hk (by omega)]
            simp only [Int.toNat_natCast]
            rw [repGo_at hx (by rw [es]), es]
        · left
          rw [if_neg he] at es
          have hb : ((plusL (valV ms v) v.2).2 != 0) = true := by simpa using he
          rw [hb, cond_true, repGo_err hx (by rw [es]; exact he), es, if_neg he]
      · right
        rw [decide_eq_false hh, cond_false]
        have es : repStep ms ⟨c, vs⟩ v = (joinL ⟨c, vs⟩ ⟨0, [v]⟩, 0) := if_neg hh
        rw [es] at hwf
        rw [guard_t (by rw [ble_t hw.len, cond_true]; rfl)]
        refine ⟨_, rfl, ⟨?_, ?_, hwf⟩, ?_, ?_⟩
        · rw [w64_next hk (by omega)]; exact Int.natCast_nonneg _
        · rw [w64_next hk (by omega)]; dsimp only; omega
        · rw [w64_next hk (by omega)]; simp only [Int.toNat_natCast]; omega
        · rw [w64_next hk (by omega)]
          simp only [Int.toNat_natCast]
          rw [repGo_at hx (by rw [es]), es]
    · left
      rw [decide_eq_false (by omega), cond_false, List.drop_eq_nil_of_le hk]
      rfl) FUEL (0, L.c, []) ⟨Int.le_refl _, by dsimp only; omega, wf_nil⟩ (by dsimp only; unfold FUEL; omega)
  dsimp only
  rw [key]
  show Option.bind (some (if (repGo ms L.vs ⟨L.c, []⟩).2 = 0 then Sum.inl ((repGo ms L.vs ⟨L.c, []⟩).1.c, (repGo ms L.vs ⟨L.c, []⟩).1.vs) else Sum.inr (repGo ms L.vs ⟨L.c, []⟩))) _ = some (repGo ms L.vs ⟨L.c, []⟩)
  by_cases he : (repGo ms L.vs ⟨L.c, []⟩).2 = 0
  · rw [if_pos he]
    simp only [Option.bind_some, Sum.elim_inl]
    rw [← he]
  · rw [if_neg he]; rfl

theorem hasVP_b {ms : List Lvl} {v : LV} : (cond ((decide (v.1 < 0)) == false) (some (decide (v.1 < (ms.length : Int)))) (some false)) = some (decide (hasVP ms v)) := by
  by_cases h1 : v.1 < 0
  · rw [decide_eq_true h1, decide_eq_false (show ¬ hasVP ms v from fun e => by have := e.1; omega)]; rfl
  · rw [decide_eq_false h1]
    by_cases h2 : v.1 < (ms.length : Int)
    · rw [decide_eq_true h2, decide_eq_true (show hasVP ms v from ⟨by omega, h2⟩)]; rfl
    · rw [decide_eq_false h2, decide_eq_false (show ¬ hasVP ms v from fun e => h2 e.2)]; rfl

theorem repStep_wfP {ms : List Lvl} (hm : ms.all validB = true) {out : Lvl} (hw : WF out.vs) {v : LV} (hv : okV v) : WF (repStepP ms out v).1.vs := by
  unfold repStepP
  by_cases hh : hasVP ms v
  · rw [if_pos (show 0 ≤ v.1 ∧ v.1 < ms.length from hh)]
    split
    · exact wf_join hw (wf_plus (wf_valid (valV_validP hm hh)))
    · exact wf_nil
  · rw [if_neg (show ¬ (0 ≤ v.1 ∧ v.1 < ms.length) from hh)]
    exact wf_join hw (wf_one ⟨hv.1, hv.2.1⟩)

theorem repStep_hasP {ms : List Lvl} {out : Lvl} {v : LV} (hh : hasVP ms v) : repStepP ms out v = (if (plusL (valVP ms v) v.2).2 = 0 then (joinL out (plusL (valVP ms v) v.2).1, (0 : Int)) else (⟨0, []⟩, (plusL (valVP ms v) v.2).2)) := if_pos hh

theorem m73_eqP {L : Lvl} {ms : List Lvl} (hL : validB L = true) (hm : ms.all validB = true) (hl : ms.length ≤ 100000) : m73 L ms false = some (repLP L ms) := by
  unfold m73
  have hlen := (wf_valid hL).len
  have key := loop_spec (step := m73_l0 L false ms) (fun s => 0 ≤ s.1 ∧ s.1 ≤ L.vs.length ∧ WF s.2.2) (fun s => L.vs.length - s.1.toNat) (fun s => if (repGoP ms (L.vs.drop s.1.toNat) ⟨s.2.1, s.2.2⟩).2 = 0 then .inl ((repGoP ms (L.vs.drop s.1.toNat) ⟨s.2.1, s.2.2⟩).1.c, (repGoP ms (L.vs.drop s.1.toNat) ⟨s.2.1, s.2.2⟩).1.vs) else .inr (repGoP ms (L.vs.drop s.1.toNat) ⟨s.2.1, s.2.2⟩)) (fun s hs => by
    obtain ⟨i, c, vs⟩ := s
    obtain ⟨h0, h1, hw⟩ := hs
    obtain ⟨k, rfl⟩ := Int.eq_ofNat_of_zero_le h0
    dsimp only at h1 hw ⊢
    simp only [Int.toNat_natCast]
    unfold m73_l0
    dsimp only
    rcases Nat.lt_or_ge k L.vs.length with hk | hk
    · obtain ⟨v, hx⟩ : ∃ v, L.vs[k]? = some v := ⟨_, List.getElem?_eq_getElem hk⟩
      have hv : okV v := valid_okVar hL hx
      have hwf := repStep_wfP hm (out := ⟨c, vs⟩) hw hv
      rw [decide_eq_true (by omega : (k : Int) < L.vs.length), cond_true, idx_nat (Int.natCast_nonneg _) (by simpa using hx), Option.bind_some, cond_false, hasVP_b, Option.bind_some]
      by_cases hh : hasVP ms v
      · have hV := valV_validP hm hh
        have es := repStep_hasP (out := ⟨c, vs⟩) hh
        rw [decide_eq_true hh, cond_true, idx_nat (by have := hh.1; omega) (valV_atP hh), Option.bind_some, guard_t (ble_t (wf_valid hV).len)]
        by_cases he : (plusL (valVP ms v) v.2).2 = 0
        · right
          rw [if_pos he] at es
          have hb : ((plusL (valVP ms v) v.2).2 != 0) = false := by rw [he]; rfl
          rw [es] at hwf
          rw [hb, cond_false, guard_t (by rw [ble_t hw.len, cond_true]; exact ble_t (wf_plus (wf_valid hV)).len)]
          refine ⟨_, rfl, ⟨?_, ?_, hwf⟩, ?_, ?_⟩
          · rw [w64_next hk (by omega)]; exact Int.natCast_nonneg _
          · rw [w64_next hk (by omega)]; dsimp only; omega
          · rw [w64_next hk (by omega)]; simp only [Int.toNat_natCast]; omega
          · rw [w64_next hk (by omega)]
            simp only [Int.toNat_natCast]
            rw [repGo_atP hx (by rw [es]), es]
        · left
          rw [if_neg he] at es
          have hb : ((plusL (valVP ms v) v.2).2 != 0) = true := by simpa using he
          rw [hb, cond_true, repGo_errP hx (by rw [es]; exact he), es, if_neg he]
      · right
        rw [decide_eq_false hh, cond_false]
        have es : repStepP ms ⟨c, vs⟩ v = (joinL ⟨c, vs⟩ ⟨0, [v]⟩, 0) := if_neg hh
        rw [es] at hwf
        rw [guard_t (by rw [ble_t hw.len, cond_true]; rfl)]
        refine ⟨_, rfl, ⟨?_, ?_, hwf⟩, ?_, ?_⟩
        · rw [w64_next hk (by omega)]; exact Int.natCast_nonneg _
        · rw [w64_next hk (by omega)]; dsimp only; omega
        · rw [w64_next hk (by omega)]; simp only [Int.toNat_natCast]; omega
        · rw [w64_next hk (by omega)]
          simp only [Int.toNat_natCast]
          rw [repGo_atP hx (by rw [es]), es]
    · left
      rw [decide_eq_false (by omega), cond_false, List.drop_eq_nil_of_le hk]
      rfl) FUEL (0, L.c, []) ⟨Int.le_refl _, by dsimp only; omega, wf_nil⟩ (by dsimp only; unfold FUEL; omega)
  dsimp only
  rw [key]
  show Option.bind (some (if (repGoP ms L.vs ⟨L.c, []⟩).2 = 0 then Sum.inl ((repGoP ms L.vs ⟨L.c, []⟩).1.c, (repGoP ms L.vs ⟨L.c, []⟩).1.vs) else Sum.inr (repGoP ms L.vs ⟨L.c, []⟩))) _ = some (repGoP ms L.vs ⟨L.c, []⟩)
  by_cases he : (repGoP ms L.vs ⟨L.c, []⟩).2 = 0
  · rw [if_pos he]
    simp only [Option.bind_some, Sum.elim_inl]
    rw [← he]
  · rw [if_neg he]; rfl

theorem m37_eq {L : Lvl} {ms : List Lvl} (hL : L.vs.length ≤ 100000) (hf : fitB ms) : m37 L ms = some (assL L ms) := by
  unfold m37
  rw [guard_t (ble_t hL)]
  cases hv : validB L with
  | false => rw [assL_inv (by rw [hv]; rfl)]; rfl
  | true =>
    simp only [Bool.not_true, cond_false]
    rw [guard_t (fitB_lens hf)]
    cases hm : ms.all validB with
    | false => rw [assL_inv (by rw [hm]; simp)]; rfl
    | true =>
      simp only [Bool.not_true, Option.bind_some, cond_false]
      rw [m73_eq hv hm hf.1, assL_ok hv hm]
      rfl
theorem m35_eq {L : Lvl} {ms : List Lvl} (hL : L.vs.length ≤ 100000) (hf : fitB ms) : m35 L ms = some (subL L ms) := by
  unfold m35 subL
  rw [guard_t (ble_t hL)]
  cases hv : validB L with
  | false => rfl
  | true =>
    simp only [Bool.not_true, cond_false]
    rw [guard_t (fitB_lens hf)]
    cases hm : ms.all validB with
    | false => rfl
    | true =>
      simp only [Bool.not_true, Option.bind_some, cond_false, Bool.and_self, if_true]
      rw [(m40_eq hL).2, Option.bind_some]
      by_cases hq : (ms.length : Int) < parL L
      · rw [decide_eq_true hq, cond_true, if_pos hq]
      · rw [decide_eq_false hq, cond_false, if_neg hq, m73_eqP hv hm hf.1]
        rfl

theorem lim_len {A : Lvl} (h : A.vs.length ≤ 900000) : (limL A).1.vs.length ≤ 900000 := by
  unfold limL trimL
  split
  · exact Nat.zero_le _
  · split <;> exact h
theorem ass_len {L : Lvl} {ms : List Lvl} : (assL L ms).1.vs.length ≤ 900000 := by
  cases h : validB L && ms.all validB with
  | false => rw [assL_inv h]; exact Nat.zero_le _
  | true =>
    rw [Bool.and_eq_true] at h
    rw [assL_gath h.1 h.2]
    have := (gath_limL h.1 h.2).1.wf.len
    exact lim_len (by omega)
theorem sub_len {L : Lvl} {ms : List Lvl} : (subL L ms).1.vs.length ≤ 900000 := by
  unfold subL
  cases h : validB L && ms.all validB with
  | false => exact Nat.zero_le _
  | true =>
    rw [if_pos rfl]
    split
    · exact Nat.zero_le _
    · rw [Bool.and_eq_true] at h
      rw [← assL_okP h.1 h.2, assL_gathP h.1 h.2]
      have := (gath_limLP h.1 h.2).1.wf.len
      exact lim_len (by omega)
theorem few_mem {l : List Lvl} (h : fewL l = true) {x : Lvl} (hx : x ∈ l) : x.vs.length ≤ 12 := by
  unfold fewL at h
  rw [Bool.not_eq_true', List.any_eq_false] at h
  have := h x hx
  rw [decide_eq_true_eq] at this
  omega
theorem m11_eq (a0 : Lvl) (a1 : List Lvl) (hn : a1.length ≤ 9223372036854775807) : m11 a0 a1 = some true := by
  unfold m11
  rw [guard_t (Nat.ble_eq_true_of_le (by simp)), guard_t (Nat.ble_eq_true_of_le hn)]
  cases h1 : fewL [a0] with
  | false => rfl
  | true =>
    cases h2 : fewL a1 with
    | false => rfl
    | true =>
      simp only [Bool.not_true, cond_false]
      by_cases hq : 12 < (a1.length : Int)
      · rw [decide_eq_true hq]; rfl
      · have e0 := few_mem h1 (x := a0) (by simp)
        have hf : fitB a1 := ⟨by omega, fun x hx => by have := few_mem h2 hx; omega⟩
        rw [decide_eq_false hq, Option.bind_some, cond_false, m34_eq (by omega) hf, m35_eq (by omega) hf, m36_eq (by omega) hf, m37_eq (by omega) hf]
        simp only [Option.bind_some]
        rw [m21_eq sub_len, sameB_refl, m21_eq ass_len, sameB_refl]
        simp
end

end Go.Proofs.YtcapifnaceegmaaGreatDoor
