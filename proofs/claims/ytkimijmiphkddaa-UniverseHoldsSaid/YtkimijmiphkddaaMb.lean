/- Mirrors of layer 2: the reference Holds. -/
import Derived.Test.YtkimijmiphkddaaFd
import Derived.Test.YtkimijmiphkddaaMf
namespace Go.Proofs.Ytkimijmiphkddaa
open Go.RowKit Go.Shelf
set_option linter.unusedSimpArgs false
set_option linter.unusedVariables false

theorem en_25 : Enters Try.prog 25 := enters_of Try.func25 (by kernel_rfl) rfl
theorem en_50 : Enters Try.prog 50 := enters_of Try.func50 (by kernel_rfl) rfl
def m73_l0 (a0 : Lvl) (a2 : Bool) (a1 : List Lvl) (s1 : Int × Int × (List LV)) : Option (LO (Int × Int × (List LV)) ((Int × (List LV)) ⊕ (Lvl × Int))) :=
  cond (decide (s1.1 < (a0.vs.length : Int)))
    (Option.bind (idx a0.vs s1.1) fun (x3 : LV) =>
  cond a2
    (Option.bind (cond ((decide (x3.1 < 0)) == a2)
    (some (decide ((w64 ((-1) - x3.1)) < (a1.length : Int))))
    (some false)) (fun (v5 : Bool) => cond v5
    (Option.bind (idx a1 (w64 ((-1) - x3.1))) fun (x7 : Lvl) =>
  guardO (Nat.ble x7.vs.length 100000)
  (cond (((plusL x7 x3.2).2) != 0)
    (some (.done (.inr ((⟨0, ([] : List LV)⟩ : Lvl), (plusL x7 x3.2).2))))
    (guardO ((cond (Nat.ble (⟨s1.2.1, s1.2.2⟩ : Lvl).vs.length 100000) (Nat.ble ((plusL x7 x3.2).1).vs.length 100000) false))
  (some (.next ((w64 (s1.1 + 1)), (joinL (⟨s1.2.1, s1.2.2⟩ : Lvl) ((plusL x7 x3.2).1)).c, (joinL (⟨s1.2.1, s1.2.2⟩ : Lvl) ((plusL x7 x3.2).1)).vs))))))
    (guardO ((cond (Nat.ble (⟨s1.2.1, s1.2.2⟩ : Lvl).vs.length 100000) (Nat.ble (⟨0, [x3]⟩ : Lvl).vs.length 100000) false))
  (some (.next ((w64 (s1.1 + 1)), (joinL (⟨s1.2.1, s1.2.2⟩ : Lvl) (⟨0, [x3]⟩ : Lvl)).c, (joinL (⟨s1.2.1, s1.2.2⟩ : Lvl) (⟨0, [x3]⟩ : Lvl)).vs))))))
    (Option.bind (cond ((decide (x3.1 < 0)) == a2)
    (some (decide (x3.1 < (a1.length : Int))))
    (some false)) (fun (v13 : Bool) => cond v13
    (Option.bind (idx a1 x3.1) fun (x15 : Lvl) =>
  guardO (Nat.ble x15.vs.length 100000)
  (cond (((plusL x15 x3.2).2) != 0)
    (some (.done (.inr ((⟨0, ([] : List LV)⟩ : Lvl), (plusL x15 x3.2).2))))
    (guardO ((cond (Nat.ble (⟨s1.2.1, s1.2.2⟩ : Lvl).vs.length 100000) (Nat.ble ((plusL x15 x3.2).1).vs.length 100000) false))
  (some (.next ((w64 (s1.1 + 1)), (joinL (⟨s1.2.1, s1.2.2⟩ : Lvl) ((plusL x15 x3.2).1)).c, (joinL (⟨s1.2.1, s1.2.2⟩ : Lvl) ((plusL x15 x3.2).1)).vs))))))
    (guardO ((cond (Nat.ble (⟨s1.2.1, s1.2.2⟩ : Lvl).vs.length 100000) (Nat.ble (⟨0, [x3]⟩ : Lvl).vs.length 100000) false))
  (some (.next ((w64 (s1.1 + 1)), (joinL (⟨s1.2.1, s1.2.2⟩ : Lvl) (⟨0, [x3]⟩ : Lvl)).c, (joinL (⟨s1.2.1, s1.2.2⟩ : Lvl) (⟨0, [x3]⟩ : Lvl)).vs)))))))
    (some (.done (.inl (s1.2.1, s1.2.2))))

/-- euclid/euclidref01.replace -/
def m73 (a0 : Lvl) (a1 : List Lvl) (a2 : Bool) : Option (Lvl × Int) :=
  Option.bind (loopN (m73_l0 a0 a2 a1) FUEL (0, (⟨a0.c, []⟩ : Lvl).c, (⟨a0.c, []⟩ : Lvl).vs)) (Sum.elim (fun (o1 : Int × (List LV)) => some ((⟨o1.1, o1.2⟩ : Lvl), 0)) (fun o => some o))

set_option maxRecDepth 100000 in
set_option maxHeartbeats 8000000 in
theorem m73_ok (a0 : Lvl) (a1 : List Lvl) (a2 : Bool) (r : Lvl × Int) (h0 : m73 a0 a1 a2 = some r) : Fun Try.prog 73 [.agg (cE a0), .one (dS a1), .one (dB a2)] (resOf [.agg (cE r.1), .one (dI r.2)]) := by
  unfold m73 at h0
  refine Fun.of_bodyM 9 69 Try.func73 rfl en_73 rfl (lb rfl) (fun S w => ?_)
  simp only [entry]
  refine XC.seq <| XC.region <| XL.put rfl rfl (lb rfl) (OpOK.box rfl) <| XL.put rfl rfl (lb rfl) (OpOK.alloc z_39 rfl) <| rA rfl rfl rfl <| XL.nil <| XQ.seq <| XC.seq <| XC.region <| rR rfl rfl rfl (RO.fieldOwn fo_39_0 rfl) <| rR rfl rfl rfl (RO.loadOwn ag_3 rfl rfl rfl) ?_
  refine XL.put rfl rfl (lb rfl) (OpOK.callFun (number_fun a0.c) rfl (.cons (.one (.d _)) .nil)) ?_
  refine XL.put rfl rfl (lb rfl) (OpOK.alloc z_39 rfl) <| XL.eff rfl rfl (OpOK.store ag_39 rfl rfl rfl rfl (lb rfl) rfl) <| XL.nil <| XQ.seq <| XC.seq <| XC.seq <| XC.region <| rA rfl rfl rfl <| XL.nil <| XQ.seq <| XC.block ?_
  refine XC.joinX 0 (fun (o1 : Int × (List LV)) => ⟨[(6, .v (.one (.ptr 1 0))), (8, .v (.one (.ptr 2 0)))], [(0, .cells 39 (cE a0)), (1, .cells 39 [dI 0, dN]), (2, .cells 39 [dI o1.1, dS o1.2])], [], 3, 69, []⟩) (fun (o1 : Int × (List LV)) => (some ((⟨o1.1, o1.2⟩ : Lvl), 0)) = some r) ?_ ?_
  ·
   refine bindK h0 (fun o2 hl1 h0 => ?_)
   refine XC.loopM (m73_l0 a0 a2 a1) (fun s1 => ⟨[(1, .v (.one (dS a1))), (2, .v (.one (dB a2))), (3, .v (.one (.ptr 0 0))), (6, .v (.one (.ptr 1 0))), (8, .v (.one (.ptr 2 0))), (9, .v (.one (dI s1.1)))], [(0, .cells 39 (cE a0)), (1, .cells 39 [dI 0, dN]), (2, .cells 39 [dI s1.2.1, dS s1.2.2])], [], 3, 69, []⟩) (0, (⟨a0.c, []⟩ : Lvl).c, (⟨a0.c, []⟩ : Lvl).vs) o2 (stle (tR rfl (tR rfl (tR rfl (tR rfl (tR rfl (tR rfl tZ)))))) (hR rfl (hR rfl (hR rfl hZ))) kZ rfl (Nat.zero_le _) rfl rfl rfl (bB rfl rfl (bB rfl rfl (bB rfl rfl bZ))) rfl rfl) hl1 (fun s1 n1 oo1 h1 ho1 => ?_)
   unfold m73_l0 at h1
   refine XC.seq <| XC.seq <| XC.region <| rM rfl rfl rfl <| rR rfl rfl rfl (RO.fieldOwn fo_39_1 rfl) <| rR rfl rfl rfl (RO.loadOwn ag_37 rfl rfl rfl) <| rR rfl rfl rfl (RO.lenE (α := LV) sl_37 rfl (.d _)) <| rR rfl rfl rfl (RO.binInt rfl rfl rfl) <| XL.nil <| XQ.seq ?_
   refine XC.cond (b := (decide (s1.1 < (a0.vs.length : Int)))) rfl (fun c3 => ?_) (fun c3 => ?_)
   ·
    replace h1 := condT c3 h1
    refine XC.skip <| XQ.seq <| XC.seq <| XC.block <| XC.seq <| XC.region <| rR rfl rfl rfl (RO.fieldOwn fo_39_1 rfl) <| rR rfl rfl rfl (RO.loadOwn ag_37 rfl rfl rfl) <| rM rfl rfl rfl ?_
    refine bindK h1 (fun x4 hx4 h1 => ?_)
    refine rR rfl rfl rfl (RO.indexE (α := LV) sl_37 rfl (.d _) rfl hx4) <| rR rfl rfl rfl (RO.loadPelAgg ag_59 rfl rfl rfl) <| XL.put rfl rfl (lb rfl) (OpOK.alloc z_59 rfl) <| XL.eff rfl rfl (OpOK.store ag_59 rfl rfl rfl rfl (lb rfl) rfl) <| XL.nil <| XQ.seq <| XC.seq <| XC.region <| rR rfl rfl rfl (RO.fieldOwn fo_59_0 rfl) <| rR rfl rfl rfl (RO.loadOwn ag_3 rfl rfl rfl) <| rA rfl rfl rfl <| XL.nil <| XQ.seq <| XC.seq ?_
    refine XC.seq <| XC.region <| rM rfl rfl rfl <| XL.nil <| XQ.seq ?_
    refine XC.cond (b := a2) rfl (fun c5 => ?_) (fun c5 => ?_)
    ·
     replace h1 := condT c5 h1
     refine XC.region <| rR rfl rfl rfl (RO.fieldOwn fo_59_0 rfl) <| rR rfl rfl rfl (RO.loadOwn ag_3 rfl rfl rfl) <| rR rfl rfl rfl (RO.binInt rfl rfl rfl) <| rA rfl rfl rfl <| XL.nil <| XQ.seq <| XC.seq <| XC.region <| rR rfl rfl rfl (RO.loadOwnAgg ag_59 rfl rfl rfl rfl) <| XL.put rfl rfl (lb rfl) (OpOK.lit1E (α := LV) (x4) sl_37 z_59 rfl rfl (lb rfl) (lb rfl) rfl rfl (.cons (.d _) (.cons (.d _) .nil)) rfl) <| rR rfl rfl rfl (RO.build1 bd_39 rfl rfl rfl) <| XL.put rfl rfl (lb rfl) (OpOK.alloc z_39 rfl) <| XL.eff rfl rfl (OpOK.store ag_39 rfl rfl rfl rfl (lb rfl) rfl) ?_
     refine XL.nil <| XQ.seq <| XC.seq <| XC.seq ?_
     refine XC.joinR (fun (v6 : Bool) => ⟨[(1, .v (.one (dS a1))), (2, .v (.one (dB a2))), (3, .v (.one (.ptr 0 0))), (6, .v (.one (.ptr 1 0))), (8, .v (.one (.ptr 2 0))), (9, .v (.one (dI s1.1))), (10, .v (.one (.ptr 3 0))), (11, .v (.one (dI (w64 ((-1) - x4.1))))), (12, .v (.one (.ptr 5 0))), (49, .v (.one (dB v6)))], [(0, .cells 39 (cE a0)), (1, .cells 39 [dI 0, dN]), (2, .cells 39 [dI s1.2.1, dS s1.2.2]), (3, .cells 59 (cE x4)), (5, .cells 39 [dI 0, dA 4 ([x4] : List LV)])], [(4, some ⟨59, 2, (Enc.encL ([x4] : List LV)).length⟩)], 6, 69, []⟩) (fun (v6 : Bool) => (cond v6
         (Option.bind (idx a1 (w64 ((-1) - x4.1))) fun (x8 : Lvl) =>
       guardO (Nat.ble x8.vs.length 100000)
       (cond (((plusL x8 x4.2).2) != 0)
         (some (.done (.inr ((⟨0, ([] : List LV)⟩ : Lvl), (plusL x8 x4.2).2))))
         (guardO ((cond (Nat.ble (⟨s1.2.1, s1.2.2⟩ : Lvl).vs.length 100000) (Nat.ble ((plusL x8 x4.2).1).vs.length 100000) false))
       (some (.next ((w64 (s1.1 + 1)), (joinL (⟨s1.2.1, s1.2.2⟩ : Lvl) ((plusL x8 x4.2).1)).c, (joinL (⟨s1.2.1, s1.2.2⟩ : Lvl) ((plusL x8 x4.2).1)).vs))))))
         (guardO ((cond (Nat.ble (⟨s1.2.1, s1.2.2⟩ : Lvl).vs.length 100000) (Nat.ble (⟨0, [x4]⟩ : Lvl).vs.length 100000) false))
       (some (.next ((w64 (s1.1 + 1)), (joinL (⟨s1.2.1, s1.2.2⟩ : Lvl) (⟨0, [x4]⟩ : Lvl)).c, (joinL (⟨s1.2.1, s1.2.2⟩ : Lvl) (⟨0, [x4]⟩ : Lvl)).vs))))) = some oo1) ?_ ?_
     ·
      refine bindK h1 (fun v_ h2 h1 => ?_)
      refine XC.region <| rR rfl rfl rfl (RO.fieldOwn fo_59_0 rfl) <| rR rfl rfl rfl (RO.loadOwn ag_3 rfl rfl rfl) <| rR rfl rfl rfl (RO.binInt rfl rfl rfl) <| rM rfl rfl rfl <| rR rfl rfl rfl (RO.eqBool ib_4 rfl rfl) <| rM rfl rfl rfl ?_
      refine XL.case (d := 44) (c := ((decide (x4.1 < 0)) == a2)) rfl (fun c7 => ?_) (fun c7 => ?_)
      ·
       replace h2 := condT c7 h2
       refine rM rfl rfl rfl <| rM rfl rfl rfl <| rR rfl rfl rfl (RO.lenE (α := Lvl) sl_31 rfl (.d _)) <| rR rfl rfl rfl (RO.binInt rfl rfl rfl) <| rR rfl rfl rfl (RO.pickT rfl rfl) <| XL.nil ?_
       have e_ := Option.some.inj h2
       subst e_
       exact XQ.joinR (decide ((w64 ((-1) - x4.1)) < (a1.length : Int))) (stle (tR rfl (tR rfl (tR rfl (tR rfl (tR rfl (tR rfl (tR rfl (tR rfl (tR rfl (tR rfl tZ)))))))))) (hR rfl (hR rfl (hR rfl (hR rfl (hR rfl hZ))))) (kR rfl kZ) rfl (Nat.zero_le _) rfl rfl rfl (bB rfl rfl (bB rfl rfl (bB rfl rfl (bB rfl rfl (bB rfl rfl bZ))))) rfl rfl) h1
      ·
       replace h2 := condF c7 h2
       refine XL.no rfl rfl <| XL.no rfl rfl <| XL.no rfl rfl <| XL.no rfl rfl <| rR rfl rfl rfl (RO.pickF rfl rfl) <| XL.nil ?_
       have e_ := Option.some.inj h2
       subst e_
       exact XQ.joinR false (stle (tR rfl (tR rfl (tR rfl (tR rfl (tR rfl (tR rfl (tR rfl (tR rfl (tR rfl (tR rfl tZ)))))))))) (hR rfl (hR rfl (hR rfl (hR rfl (hR rfl hZ))))) (kR rfl kZ) rfl (Nat.zero_le _) rfl rfl rfl (bB rfl rfl (bB rfl rfl (bB rfl rfl (bB rfl rfl (bB rfl rfl bZ))))) rfl rfl) h1
     ·
      intro v6 h1
      refine XQ.seq ?_
      refine XC.cond (b := v6) rfl (fun c8 => ?_) (fun c8 => ?_)
      ·
       replace h1 := condT c8 h1
       refine XC.seq ?_
       refine XC.anyRun [10, 11] [(0, 1), (1, 1), (2, 1), (3, 1), (4, 1), (5, 1), (6, 1), (7, 1), (8, 1), (9, 1), (9, 2)] mixed (by kernel_rfl) (by kernel_rfl) (by kernel_rfl) ?_
       refine RunA.rd rfl rfl rfl (OpOK.of_ro (RO.move rfl)) rfl <| RunA.rd rfl rfl rfl (OpOK.of_ro (RO.move rfl)) rfl ?_
       refine bindK h1 (fun x9 hx9 h1 => ?_)
       refine RunA.rd rfl rfl rfl (OpOK.of_ro (RO.indexE (α := Lvl) sl_31 rfl (.d _) rfl hx9)) rfl <| RunA.rd rfl rfl rfl (OpOK.of_ro (RO.loadPelAgg ag_39 rfl rfl rfl)) rfl <| RunA.rd rfl rfl rfl (OpOK.of_ro (RO.fieldOwn fo_59_1 rfl)) rfl <| RunA.rd rfl rfl rfl (OpOK.of_ro (RO.loadOwn ag_3 rfl rfl rfl)) rfl ?_
       refine guardK h1 (fun g10 h1 => ?_)
       refine RunA.rd rfl rfl rfl (OpOK.callFun (plusR_fun x9 x4.2 (Nat.le_of_ble_eq_true g10)) rfl (.cons (.agg (.cons (.d _) (.cons (.d _) .nil))) (.cons (.one (.d _)) .nil))) rfl ?_
       refine RunA.rd rfl rfl rfl (OpOK.of_ro (RO.move rfl)) rfl <| RunA.rd rfl rfl rfl (OpOK.of_ro (RO.extract rfl rfl)) rfl <| RunA.rd rfl rfl rfl (OpOK.of_ro (RO.extract rfl rfl)) rfl <| RunA.eff rfl rfl rfl (OpOK.alloc z_39 rfl) rfl <| RunA.eff rfl rfl rfl (OpOK.store ag_39 rfl rfl rfl rfl (lb rfl) rfl) rfl <| RunA.rd rfl rfl rfl (OpOK.of_ro (RO.assign rfl)) rfl ?_
       refine RunA.nil ⟨?ex, _, _, rfl, ?_⟩
       case ex => exact ⟨⟨_, rfl, _, _, rfl, rfl, rfl, .inl ⟨rfl, _, OpOK.of_ro (RO.move rfl), rfl⟩⟩, ⟨_, rfl, _, _, rfl, rfl, rfl, .inl ⟨rfl, _, OpOK.of_ro (RO.move rfl), rfl⟩⟩, ⟨_, rfl, _, _, rfl, rfl, rfl, .inl ⟨rfl, _, OpOK.of_ro (RO.indexE (α := Lvl) sl_31 rfl (.d _) rfl hx9), rfl⟩⟩, ⟨_, rfl, _, _, rfl, rfl, rfl, .inl ⟨rfl, _, OpOK.of_ro (RO.loadPelAgg ag_39 rfl rfl rfl), rfl⟩⟩, ⟨_, rfl, _, _, rfl, rfl, rfl, .inl ⟨rfl, _, OpOK.of_ro (RO.fieldOwn fo_59_1 rfl), rfl⟩⟩, ⟨_, rfl, _, _, rfl, rfl, rfl, .inl ⟨rfl, _, OpOK.of_ro (RO.loadOwn ag_3 rfl rfl rfl), rfl⟩⟩, ⟨_, rfl, _, _, rfl, rfl, rfl, .inl ⟨rfl, _, OpOK.callFun (plusR_fun x9 x4.2 (Nat.le_of_ble_eq_true g10)) rfl (.cons (.agg (.cons (.d _) (.cons (.d _) .nil))) (.cons (.one (.d _)) .nil)), rfl⟩⟩, ⟨_, rfl, _, _, rfl, rfl, rfl, .inl ⟨rfl, _, OpOK.of_ro (RO.move rfl), rfl⟩⟩, ⟨_, rfl, _, _, rfl, rfl, rfl, .inl ⟨rfl, _, OpOK.of_ro (RO.extract rfl rfl), rfl⟩⟩, ⟨_, rfl, _, _, rfl, rfl, rfl, .inl ⟨rfl, _, OpOK.of_ro (RO.extract rfl rfl), rfl⟩⟩, ⟨_, rfl, _, _, rfl, rfl, rfl, .inl ⟨rfl, _, OpOK.of_ro (RO.extract rfl rfl), rfl⟩⟩, trivial⟩
       refine XQ.less (st' := ⟨[(1, .v (.one (dS a1))), (2, .v (.one (dB a2))), (3, .v (.one (.ptr 0 0))), (6, .v (.one (.ptr 1 0))), (8, .v (.one (.ptr 2 0))), (9, .v (.one (dI s1.1))), (12, .v (.one (.ptr 5 0))), (13, .v (.one (.ptr 6 0))), (14, .v (.one (dI ((plusL x9 x4.2).2))))], [(0, .cells 39 (cE a0)), (1, .cells 39 [dI 0, dN]), (2, .cells 39 [dI s1.2.1, dS s1.2.2]), (3, .cells 59 (cE x4)), (5, .cells 39 [dI 0, dA 4 ([x4] : List LV)]), (6, .cells 39 [dI (((plusL x9 x4.2).1).c), dS (((plusL x9 x4.2).1).vs : List LV)])], [(4, some ⟨59, 2, (Enc.encL ([x4] : List LV)).length⟩)], 7, 69, []⟩) (stle (tR rfl (tR rfl (tR rfl (tR rfl (tR rfl (tR rfl (tR rfl (tR rfl (tR rfl tZ))))))))) (hR rfl (hR rfl (hR rfl (hR rfl (hR rfl (hR rfl hZ)))))) (kR rfl kZ) rfl (Nat.zero_le _) rfl rfl rfl (bB rfl rfl (bB rfl rfl (bB rfl rfl (bB rfl rfl (bB rfl rfl (bB rfl rfl bZ)))))) rfl rfl) <| XQ.seq <| XC.seq <| XC.seq <| XC.region <| rM rfl rfl rfl <| rR rfl rfl rfl (RO.binInt rfl rfl rfl) <| XL.nil <| XQ.seq ?_
       refine XC.cond (b := (((plusL x9 x4.2).2) != 0)) rfl (fun c11 => ?_) (fun c11 => ?_)
       ·
        replace h1 := condT c11 h1
        refine XC.seq <| XC.region <| rR rfl rfl rfl (RO.build0 bd_39 rfl ) <| rM rfl rfl rfl <| XL.eff rfl rfl (OpOK.store ag_39 rfl rfl rfl rfl (lb rfl) rfl) <| rA rfl rfl rfl <| XL.nil <| XQ.seq <| XC.ret ?_
        have e_ := Option.some.inj h1
        subst e_
        have e_ : _ = _ := ho1
        subst e_
        try dsimp only [Sum.elim_inl, Sum.elim_inr] at h0
        have e_ := Option.some.inj h0
        subst e_
        exact XQ.retF (fun _ _ h => h) rfl (RAs.agg ag_39 rfl rfl rfl rfl (RAs.tmp rfl .nil)) (.cons (.agg (.cons (.d _) (.cons (.nil _) .nil))) (.cons (.one (.d _)) .nil))
       ·
        replace h1 := condF c11 h1
        refine XC.skip <| XQ.seq <| XC.region <| rR rfl rfl rfl (RO.loadOwnAgg ag_39 rfl rfl rfl rfl) <| XL.eff rfl rfl (OpOK.store ag_39 rfl rfl rfl rfl (lb rfl) rfl) <| XL.nil <| XQ.seq <| XC.region <| rR rfl rfl rfl (RO.loadOwnAgg ag_39 rfl rfl rfl rfl) <| rR rfl rfl rfl (RO.loadOwnAgg ag_39 rfl rfl rfl rfl) ?_
        refine guardK h1 (fun g12 h1 => ?_)
        refine XL.put rfl rfl (lb rfl) (OpOK.callFun (join_fun (⟨s1.2.1, s1.2.2⟩ : Lvl) ((plusL x9 x4.2).1) (Nat.le_of_ble_eq_true (cond_left g12)) (Nat.le_of_ble_eq_true (cond_right g12))) rfl (.cons (.agg (.cons (.d _) (.cons (.d _) .nil))) (.cons (.agg (.cons (.d _) (.cons (.d _) .nil))) .nil))) ?_
        refine XL.eff rfl rfl (OpOK.store ag_39 rfl rfl rfl rfl (lb rfl) rfl) <| XL.nil <| XQ.inBlock <| XQ.seq <| XC.region <| rM rfl rfl rfl <| rR rfl rfl rfl (RO.binInt rfl rfl rfl) <| rA rfl rfl rfl <| XL.nil ?_
        have e_ := Option.some.inj h1
        subst e_
        refine XQ.nextM ((w64 (s1.1 + 1)), (joinL (⟨s1.2.1, s1.2.2⟩ : Lvl) ((plusL x9 x4.2).1)).c, (joinL (⟨s1.2.1, s1.2.2⟩ : Lvl) ((plusL x9 x4.2).1)).vs) (stle (tR rfl (tR rfl (tR rfl (tR rfl (tR rfl (tR rfl tZ)))))) (hR rfl (hR rfl (hR rfl hZ))) kZ rfl (Nat.zero_le _) rfl rfl rfl (bB rfl rfl (bB rfl rfl (bB rfl rfl bZ))) rfl rfl) ho1
      ·
       replace h1 := condF c8 h1
       refine XC.skip <| XQ.seq <| XC.region <| rR rfl rfl rfl (RO.loadOwnAgg ag_39 rfl rfl rfl rfl) <| rR rfl rfl rfl (RO.loadOwnAgg ag_39 rfl rfl rfl rfl) ?_
       refine guardK h1 (fun g13 h1 => ?_)
       refine XL.put rfl rfl (lb rfl) (OpOK.callFun (join_fun (⟨s1.2.1, s1.2.2⟩ : Lvl) (⟨0, [x4]⟩ : Lvl) (Nat.le_of_ble_eq_true (cond_left g13)) (Nat.le_of_ble_eq_true (cond_right g13))) rfl (.cons (.agg (.cons (.d _) (.cons (.d _) .nil))) (.cons (.agg (.cons (.d _) (.cons (.app _ _ _) .nil))) .nil))) ?_
       refine XL.eff rfl rfl (OpOK.store ag_39 rfl rfl rfl rfl (lb rfl) rfl) <| XL.nil <| XQ.inBlock <| XQ.seq <| XC.region <| rM rfl rfl rfl <| rR rfl rfl rfl (RO.binInt rfl rfl rfl) <| rA rfl rfl rfl <| XL.nil ?_
       have e_ := Option.some.inj h1
       subst e_
       refine XQ.nextM ((w64 (s1.1 + 1)), (joinL (⟨s1.2.1, s1.2.2⟩ : Lvl) (⟨0, [x4]⟩ : Lvl)).c, (joinL (⟨s1.2.1, s1.2.2⟩ : Lvl) (⟨0, [x4]⟩ : Lvl)).vs) (stle (tR rfl (tR rfl (tR rfl (tR rfl (tR rfl (tR rfl tZ)))))) (hR rfl (hR rfl (hR rfl hZ))) kZ rfl (Nat.zero_le _) rfl rfl rfl (bB rfl rfl (bB rfl rfl (bB rfl rfl bZ))) rfl rfl) ho1
    ·
     replace h1 := condF c5 h1
     refine XC.skip <| XQ.seq <| XC.seq <| XC.region <| rR rfl rfl rfl (RO.loadOwnAgg ag_59 rfl rfl rfl rfl) <| XL.put rfl rfl (lb rfl) (OpOK.lit1E (α := LV) (x4) sl_37 z_59 rfl rfl (lb rfl) (lb rfl) rfl rfl (.cons (.d _) (.cons (.d _) .nil)) rfl) <| rR rfl rfl rfl (RO.build1 bd_39 rfl rfl rfl) <| XL.put rfl rfl (lb rfl) (OpOK.alloc z_39 rfl) <| XL.eff rfl rfl (OpOK.store ag_39 rfl rfl rfl rfl (lb rfl) rfl) <| XL.nil <| XQ.seq <| XC.seq <| XC.seq ?_
     refine XC.joinR (fun (v14 : Bool) => ⟨[(1, .v (.one (dS a1))), (2, .v (.one (dB a2))), (3, .v (.one (.ptr 0 0))), (6, .v (.one (.ptr 1 0))), (8, .v (.one (.ptr 2 0))), (9, .v (.one (dI s1.1))), (10, .v (.one (.ptr 3 0))), (11, .v (.one (dI x4.1))), (12, .v (.one (.ptr 5 0))), (49, .v (.one (dB v14)))], [(0, .cells 39 (cE a0)), (1, .cells 39 [dI 0, dN]), (2, .cells 39 [dI s1.2.1, dS s1.2.2]), (3, .cells 59 (cE x4)), (5, .cells 39 [dI 0, dA 4 ([x4] : List LV)])], [(4, some ⟨59, 2, (Enc.encL ([x4] : List LV)).length⟩)], 6, 69, []⟩) (fun (v14 : Bool) => (cond v14
         (Option.bind (idx a1 x4.1) fun (x16 : Lvl) =>
       guardO (Nat.ble x16.vs.length 100000)
       (cond (((plusL x16 x4.2).2) != 0)
         (some (.done (.inr ((⟨0, ([] : List LV)⟩ : Lvl), (plusL x16 x4.2).2))))
         (guardO ((cond (Nat.ble (⟨s1.2.1, s1.2.2⟩ : Lvl).vs.length 100000) (Nat.ble ((plusL x16 x4.2).1).vs.length 100000) false))
       (some (.next ((w64 (s1.1 + 1)), (joinL (⟨s1.2.1, s1.2.2⟩ : Lvl) ((plusL x16 x4.2).1)).c, (joinL (⟨s1.2.1, s1.2.2⟩ : Lvl) ((plusL x16 x4.2).1)).vs))))))
         (guardO ((cond (Nat.ble (⟨s1.2.1, s1.2.2⟩ : Lvl).vs.length 100000) (Nat.ble (⟨0, [x4]⟩ : Lvl).vs.length 100000) false))
       (some (.next ((w64 (s1.1 + 1)), (joinL (⟨s1.2.1, s1.2.2⟩ : Lvl) (⟨0, [x4]⟩ : Lvl)).c, (joinL (⟨s1.2.1, s1.2.2⟩ : Lvl) (⟨0, [x4]⟩ : Lvl)).vs))))) = some oo1) ?_ ?_
     ·
      refine bindK h1 (fun v_ h2 h1 => ?_)
      refine XC.region <| rR rfl rfl rfl (RO.fieldOwn fo_59_0 rfl) <| rR rfl rfl rfl (RO.loadOwn ag_3 rfl rfl rfl) <| rR rfl rfl rfl (RO.binInt rfl rfl rfl) <| rM rfl rfl rfl <| rR rfl rfl rfl (RO.eqBool ib_4 rfl rfl) <| rM rfl rfl rfl ?_
      refine XL.case (d := 44) (c := ((decide (x4.1 < 0)) == a2)) rfl (fun c15 => ?_) (fun c15 => ?_)
      ·
       replace h2 := condT c15 h2
       refine rM rfl rfl rfl <| rM rfl rfl rfl <| rR rfl rfl rfl (RO.lenE (α := Lvl) sl_31 rfl (.d _)) <| rR rfl rfl rfl (RO.binInt rfl rfl rfl) <| rR rfl rfl rfl (RO.pickT rfl rfl) <| XL.nil ?_
       have e_ := Option.some.inj h2
       subst e_
       exact XQ.joinR (decide (x4.1 < (a1.length : Int))) (stle (tR rfl (tR rfl (tR rfl (tR rfl (tR rfl (tR rfl (tR rfl (tR rfl (tR rfl (tR rfl tZ)))))))))) (hR rfl (hR rfl (hR rfl (hR rfl (hR rfl hZ))))) (kR rfl kZ) rfl (Nat.zero_le _) rfl rfl rfl (bB rfl rfl (bB rfl rfl (bB rfl rfl (bB rfl rfl (bB rfl rfl bZ))))) rfl rfl) h1
      ·
       replace h2 := condF c15 h2
       refine XL.no rfl rfl <| XL.no rfl rfl <| XL.no rfl rfl <| XL.no rfl rfl <| rR rfl rfl rfl (RO.pickF rfl rfl) <| XL.nil ?_
       have e_ := Option.some.inj h2
       subst e_
       exact XQ.joinR false (stle (tR rfl (tR rfl (tR rfl (tR rfl (tR rfl (tR rfl (tR rfl (tR rfl (tR rfl (tR rfl tZ)))))))))) (hR rfl (hR rfl (hR rfl (hR rfl (hR rfl hZ))))) (kR rfl kZ) rfl (Nat.zero_le _) rfl rfl rfl (bB rfl rfl (bB rfl rfl (bB rfl rfl (bB rfl rfl (bB rfl rfl bZ))))) rfl rfl) h1
     ·
      intro v14 h1
      refine XQ.seq ?_
      refine XC.cond (b := v14) rfl (fun c16 => ?_) (fun c16 => ?_)
      ·
       replace h1 := condT c16 h1
       refine XC.seq ?_
       refine XC.anyRun [10, 11] [(0, 1), (1, 1), (2, 1), (3, 1), (4, 1), (5, 1), (6, 1), (7, 1), (8, 1), (9, 1), (9, 2)] mixed (by kernel_rfl) (by kernel_rfl) (by kernel_rfl) ?_
       refine RunA.rd rfl rfl rfl (OpOK.of_ro (RO.move rfl)) rfl <| RunA.rd rfl rfl rfl (OpOK.of_ro (RO.move rfl)) rfl ?_
       refine bindK h1 (fun x17 hx17 h1 => ?_)
       refine RunA.rd rfl rfl rfl (OpOK.of_ro (RO.indexE (α := Lvl) sl_31 rfl (.d _) rfl hx17)) rfl <| RunA.rd rfl rfl rfl (OpOK.of_ro (RO.loadPelAgg ag_39 rfl rfl rfl)) rfl <| RunA.rd rfl rfl rfl (OpOK.of_ro (RO.fieldOwn fo_59_1 rfl)) rfl <| RunA.rd rfl rfl rfl (OpOK.of_ro (RO.loadOwn ag_3 rfl rfl rfl)) rfl ?_
       refine guardK h1 (fun g18 h1 => ?_)
       refine RunA.rd rfl rfl rfl (OpOK.callFun (plusR_fun x17 x4.2 (Nat.le_of_ble_eq_true g18)) rfl (.cons (.agg (.cons (.d _) (.cons (.d _) .nil))) (.cons (.one (.d _)) .nil))) rfl ?_
       refine RunA.rd rfl rfl rfl (OpOK.of_ro (RO.move rfl)) rfl <| RunA.rd rfl rfl rfl (OpOK.of_ro (RO.extract rfl rfl)) rfl <| RunA.rd rfl rfl rfl (OpOK.of_ro (RO.extract rfl rfl)) rfl <| RunA.eff rfl rfl rfl (OpOK.alloc z_39 rfl) rfl <| RunA.eff rfl rfl rfl (OpOK.store ag_39 rfl rfl rfl rfl (lb rfl) rfl) rfl <| RunA.rd rfl rfl rfl (OpOK.of_ro (RO.assign rfl)) rfl ?_
       refine RunA.nil ⟨?ex, _, _, rfl, ?_⟩
       case ex => exact ⟨⟨_, rfl, _, _, rfl, rfl, rfl, .inl ⟨rfl, _, OpOK.of_ro (RO.move rfl), rfl⟩⟩, ⟨_, rfl, _, _, rfl, rfl, rfl, .inl ⟨rfl, _, OpOK.of_ro (RO.move rfl), rfl⟩⟩, ⟨_, rfl, _, _, rfl, rfl, rfl, .inl ⟨rfl, _, OpOK.of_ro (RO.indexE (α := Lvl) sl_31 rfl (.d _) rfl hx17), rfl⟩⟩, ⟨_, rfl, _, _, rfl, rfl, rfl, .inl ⟨rfl, _, OpOK.of_ro (RO.loadPelAgg ag_39 rfl rfl rfl), rfl⟩⟩, ⟨_, rfl, _, _, rfl, rfl, rfl, .inl ⟨rfl, _, OpOK.of_ro (RO.fieldOwn fo_59_1 rfl), rfl⟩⟩, ⟨_, rfl, _, _, rfl, rfl, rfl, .inl ⟨rfl, _, OpOK.of_ro (RO.loadOwn ag_3 rfl rfl rfl), rfl⟩⟩, ⟨_, rfl, _, _, rfl, rfl, rfl, .inl ⟨rfl, _, OpOK.callFun (plusR_fun x17 x4.2 (Nat.le_of_ble_eq_true g18)) rfl (.cons (.agg (.cons (.d _) (.cons (.d _) .nil))) (.cons (.one (.d _)) .nil)), rfl⟩⟩, ⟨_, rfl, _, _, rfl, rfl, rfl, .inl ⟨rfl, _, OpOK.of_ro (RO.move rfl), rfl⟩⟩, ⟨_, rfl, _, _, rfl, rfl, rfl, .inl ⟨rfl, _, OpOK.of_ro (RO.extract rfl rfl), rfl⟩⟩, ⟨_, rfl, _, _, rfl, rfl, rfl, .inl ⟨rfl, _, OpOK.of_ro (RO.extract rfl rfl), rfl⟩⟩, ⟨_, rfl, _, _, rfl, rfl, rfl, .inl ⟨rfl, _, OpOK.of_ro (RO.extract rfl rfl), rfl⟩⟩, trivial⟩
       refine XQ.less (st' := ⟨[(1, .v (.one (dS a1))), (2, .v (.one (dB a2))), (3, .v (.one (.ptr 0 0))), (6, .v (.one (.ptr 1 0))), (8, .v (.one (.ptr 2 0))), (9, .v (.one (dI s1.1))), (12, .v (.one (.ptr 5 0))), (13, .v (.one (.ptr 6 0))), (14, .v (.one (dI ((plusL x17 x4.2).2))))], [(0, .cells 39 (cE a0)), (1, .cells 39 [dI 0, dN]), (2, .cells 39 [dI s1.2.1, dS s1.2.2]), (3, .cells 59 (cE x4)), (5, .cells 39 [dI 0, dA 4 ([x4] : List LV)]), (6, .cells 39 [dI (((plusL x17 x4.2).1).c), dS (((plusL x17 x4.2).1).vs : List LV)])], [(4, some ⟨59, 2, (Enc.encL ([x4] : List LV)).length⟩)], 7, 69, []⟩) (stle (tR rfl (tR rfl (tR rfl (tR rfl (tR rfl (tR rfl (tR rfl (tR rfl (tR rfl tZ))))))))) (hR rfl (hR rfl (hR rfl (hR rfl (hR rfl (hR rfl hZ)))))) (kR rfl kZ) rfl (Nat.zero_le _) rfl rfl rfl (bB rfl rfl (bB rfl rfl (bB rfl rfl (bB rfl rfl (bB rfl rfl (bB rfl rfl bZ)))))) rfl rfl) <| XQ.seq <| XC.seq <| XC.seq <| XC.region <| rM rfl rfl rfl <| rR rfl rfl rfl (RO.binInt rfl rfl rfl) <| XL.nil <| XQ.seq ?_
       refine XC.cond (b := (((plusL x17 x4.2).2) != 0)) rfl (fun c19 => ?_) (fun c19 => ?_)
       ·
        replace h1 := condT c19 h1
        refine XC.seq <| XC.region <| rR rfl rfl rfl (RO.build0 bd_39 rfl ) <| rM rfl rfl rfl <| XL.eff rfl rfl (OpOK.store ag_39 rfl rfl rfl rfl (lb rfl) rfl) <| rA rfl rfl rfl <| XL.nil <| XQ.seq <| XC.ret ?_
        have e_ := Option.some.inj h1
        subst e_
        have e_ : _ = _ := ho1
        subst e_
        try dsimp only [Sum.elim_inl, Sum.elim_inr] at h0
        have e_ := Option.some.inj h0
        subst e_
        exact XQ.retF (fun _ _ h => h) rfl (RAs.agg ag_39 rfl rfl rfl rfl (RAs.tmp rfl .nil)) (.cons (.agg (.cons (.d _) (.cons (.nil _) .nil))) (.cons (.one (.d _)) .nil))
       ·
        replace h1 := condF c19 h1
        refine XC.skip <| XQ.seq <| XC.region <| rR rfl rfl rfl (RO.loadOwnAgg ag_39 rfl rfl rfl rfl) <| XL.eff rfl rfl (OpOK.store ag_39 rfl rfl rfl rfl (lb rfl) rfl) <| XL.nil <| XQ.seq <| XC.region <| rR rfl rfl rfl (RO.loadOwnAgg ag_39 rfl rfl rfl rfl) <| rR rfl rfl rfl (RO.loadOwnAgg ag_39 rfl rfl rfl rfl) ?_
        refine guardK h1 (fun g20 h1 => ?_)
        refine XL.put rfl rfl (lb rfl) (OpOK.callFun (join_fun (⟨s1.2.1, s1.2.2⟩ : Lvl) ((plusL x17 x4.2).1) (Nat.le_of_ble_eq_true (cond_left g20)) (Nat.le_of_ble_eq_true (cond_right g20))) rfl (.cons (.agg (.cons (.d _) (.cons (.d _) .nil))) (.cons (.agg (.cons (.d _) (.cons (.d _) .nil))) .nil))) ?_
        refine XL.eff rfl rfl (OpOK.store ag_39 rfl rfl rfl rfl (lb rfl) rfl) <| XL.nil <| XQ.inBlock <| XQ.seq <| XC.region <| rM rfl rfl rfl <| rR rfl rfl rfl (RO.binInt rfl rfl rfl) <| rA rfl rfl rfl <| XL.nil ?_
        have e_ := Option.some.inj h1
        subst e_
        refine XQ.nextM ((w64 (s1.1 + 1)), (joinL (⟨s1.2.1, s1.2.2⟩ : Lvl) ((plusL x17 x4.2).1)).c, (joinL (⟨s1.2.1, s1.2.2⟩ : Lvl) ((plusL x17 x4.2).1)).vs) (stle (tR rfl (tR rfl (tR rfl (tR rfl (tR rfl (tR rfl tZ)))))) (hR rfl (hR rfl (hR rfl hZ))) kZ rfl (Nat.zero_le _) rfl rfl rfl (bB rfl rfl (bB rfl rfl (bB rfl rfl bZ))) rfl rfl) ho1
      ·
       replace h1 := condF c16 h1
       refine XC.skip <| XQ.seq <| XC.region <| rR rfl rfl rfl (RO.loadOwnAgg ag_39 rfl rfl rfl rfl) <| rR rfl rfl rfl (RO.loadOwnAgg ag_39 rfl rfl rfl rfl) ?_
       refine guardK h1 (fun g21 h1 => ?_)
       refine XL.put rfl rfl (lb rfl) (OpOK.callFun (join_fun (⟨s1.2.1, s1.2.2⟩ : Lvl) (⟨0, [x4]⟩ : Lvl) (Nat.le_of_ble_eq_true (cond_left g21)) (Nat.le_of_ble_eq_true (cond_right g21))) rfl (.cons (.agg (.cons (.d _) (.cons (.d _) .nil))) (.cons (.agg (.cons (.d _) (.cons (.app _ _ _) .nil))) .nil))) ?_
       refine XL.eff rfl rfl (OpOK.store ag_39 rfl rfl rfl rfl (lb rfl) rfl) <| XL.nil <| XQ.inBlock <| XQ.seq <| XC.region <| rM rfl rfl rfl <| rR rfl rfl rfl (RO.binInt rfl rfl rfl) <| rA rfl rfl rfl <| XL.nil ?_
       have e_ := Option.some.inj h1
       subst e_
       refine XQ.nextM ((w64 (s1.1 + 1)), (joinL (⟨s1.2.1, s1.2.2⟩ : Lvl) (⟨0, [x4]⟩ : Lvl)).c, (joinL (⟨s1.2.1, s1.2.2⟩ : Lvl) (⟨0, [x4]⟩ : Lvl)).vs) (stle (tR rfl (tR rfl (tR rfl (tR rfl (tR rfl (tR rfl tZ)))))) (hR rfl (hR rfl (hR rfl hZ))) kZ rfl (Nat.zero_le _) rfl rfl rfl (bB rfl rfl (bB rfl rfl (bB rfl rfl bZ))) rfl rfl) ho1
   ·
    replace h1 := condF c3 h1
    refine XC.exit <| XQ.thenE <| XQ.thenE ?_
    have e_ := Option.some.inj h1
    subst e_
    have e_ : _ = _ := ho1
    subst e_
    exact XQ.joinX (s1.2.1, s1.2.2) (stle (tR rfl (tR rfl tZ)) (hR rfl (hR rfl (hR rfl hZ))) kZ rfl (Nat.zero_le _) rfl rfl rfl (bB rfl rfl (bB rfl rfl (bB rfl rfl bZ))) rfl rfl) h0
  ·
   intro o1 h0
   refine XQ.blockX <| XQ.seq <| XC.seq <| XC.region <| rR rfl rfl rfl (RO.loadOwnAgg ag_39 rfl rfl rfl rfl) <| XL.eff rfl rfl (OpOK.store ag_39 rfl rfl rfl rfl (lb rfl) rfl) <| rA rfl rfl rfl <| XL.nil <| XQ.seq <| XC.ret ?_
   have e_ := Option.some.inj h0
   subst e_
   exact XQ.retF (fun _ _ h => h) rfl (RAs.agg ag_39 rfl rfl rfl rfl (RAs.tmp rfl .nil)) (.cons (.agg (.cons (.d _) (.cons (.d _) .nil))) (.cons (.one (.d _)) .nil))

/-- euclid/euclidref01.Assign -/
def m50 (a0 : Lvl) (a1 : List Lvl) : Option (Lvl × Int) :=
  Option.bind (guardO (Nat.ble a0.vs.length 100000)
  (cond (!(validB a0))
    (some true)
    (guardO (lensB a1)
  (some (!(a1.all validB)))))) (fun (v1 : Bool) => cond v1
    (some ((⟨0, ([] : List LV)⟩ : Lvl), 3))
    (Option.bind (m73 a0 a1 true) fun (x3 : Lvl × Int) =>
  some (x3.1, x3.2)))

set_option maxRecDepth 100000 in
set_option maxHeartbeats 8000000 in
theorem m50_ok (a0 : Lvl) (a1 : List Lvl) (r : Lvl × Int) (h0 : m50 a0 a1 = some r) : Fun Try.prog 50 [.agg (cE a0), .one (dS a1)] (resOf [.agg (cE r.1), .one (dI r.2)]) := by
  unfold m50 at h0
  refine Fun.of_bodyM 9 20 Try.func50 rfl en_50 rfl (lb rfl) (fun S w => ?_)
  simp only [entry]
  refine XC.seq <| XC.region <| XL.put rfl rfl (lb rfl) (OpOK.box rfl) <| XL.put rfl rfl (lb rfl) (OpOK.alloc z_39 rfl) <| rA rfl rfl rfl <| XL.nil <| XQ.seq <| XC.seq <| XC.seq ?_
  refine XC.joinR (fun (v1 : Bool) => ⟨[(1, .v (.one (dS a1))), (2, .v (.one (.ptr 0 0))), (4, .v (.one (.ptr 1 0))), (13, .v (.one (dB v1)))], [(0, .cells 39 (cE a0)), (1, .cells 39 [dI 0, dN])], [], 2, 20, []⟩) (fun (v1 : Bool) => (cond v1
      (some ((⟨0, ([] : List LV)⟩ : Lvl), 3))
      (Option.bind (m73 a0 a1 true) fun (x3 : Lvl × Int) =>
    some (x3.1, x3.2))) = some r) ?_ ?_
  ·
   refine bindK h0 (fun v_ h1 h0 => ?_)
   refine XC.region <| rR rfl rfl rfl (RO.loadOwnAgg ag_39 rfl rfl rfl rfl) ?_
   refine guardK h1 (fun g2 h1 => ?_)
   refine XL.put rfl rfl (lb rfl) (OpOK.callFun (validR_fun a0 (Nat.le_of_ble_eq_true g2)) rfl (.cons (.agg (.cons (.d _) (.cons (.d _) .nil))) .nil)) ?_
   refine rR rfl rfl rfl (RO.not rfl) <| rM rfl rfl rfl ?_
   refine XL.case (d := 9) (c := (!(validB a0))) rfl (fun c3 => ?_) (fun c3 => ?_)
   ·
    replace h1 := condT c3 h1
    refine XL.no rfl rfl <| XL.no rfl rfl <| XL.no rfl rfl <| rR rfl rfl rfl (RO.pickT rfl rfl) <| XL.nil ?_
    have e_ := Option.some.inj h1
    subst e_
    exact XQ.joinR true (stle (tR rfl (tR rfl (tR rfl (tR rfl tZ)))) (hR rfl (hR rfl hZ)) kZ rfl (Nat.zero_le _) rfl rfl rfl (bB rfl rfl (bB rfl rfl bZ)) rfl rfl) h0
   ·
    replace h1 := condF c3 h1
    refine rM rfl rfl rfl ?_
    refine guardK h1 (fun g4 h1 => ?_)
    refine XL.put rfl rfl (lb rfl) (OpOK.callFun (allValidRF a1 g4) rfl (.cons (.one (.d _)) .nil)) <| rR rfl rfl rfl (RO.not rfl) <| rR rfl rfl rfl (RO.pickF rfl rfl) <| XL.nil ?_
    have e_ := Option.some.inj h1
    subst e_
    exact XQ.joinR (!(a1.all validB)) (stle (tR rfl (tR rfl (tR rfl (tR rfl tZ)))) (hR rfl (hR rfl hZ)) kZ rfl (Nat.zero_le _) rfl rfl rfl (bB rfl rfl (bB rfl rfl bZ)) rfl rfl) h0
  ·
   intro v1 h0
   refine XQ.seq ?_
   refine XC.cond (b := v1) rfl (fun c5 => ?_) (fun c5 => ?_)
   ·
    replace h0 := condT c5 h0
    refine XC.seq <| XC.region <| rR rfl rfl rfl (RO.build0 bd_39 rfl ) <| XL.eff rfl rfl (OpOK.store ag_39 rfl rfl rfl rfl (lb rfl) rfl) <| rA rfl rfl rfl <| XL.nil <| XQ.seq <| XC.ret ?_
    have e_ := Option.some.inj h0
    subst e_
    exact XQ.retF (fun _ _ h => h) rfl (RAs.agg ag_39 rfl rfl rfl rfl (RAs.tmp rfl .nil)) (.cons (.agg (.cons (.d _) (.cons (.nil _) .nil))) (.cons (.one (.d _)) .nil))
   ·
    replace h0 := condF c5 h0
    refine XC.skip <| XQ.seq <| XC.seq <| XC.region <| rR rfl rfl rfl (RO.loadOwnAgg ag_39 rfl rfl rfl rfl) <| rM rfl rfl rfl ?_
    refine bindK h0 (fun x6 hx6 h0 => ?_)
    refine XL.put rfl rfl (lb rfl) (OpOK.callFun (m73_ok a0 a1 true x6 hx6) rfl (.cons (.agg (.cons (.d _) (.cons (.d _) .nil))) (.cons (.one (.d _)) (.cons (.one (.d _)) .nil)))) <| rR rfl rfl rfl (RO.extract rfl rfl) <| rR rfl rfl rfl (RO.extract rfl rfl) <| XL.eff rfl rfl (OpOK.store ag_39 rfl rfl rfl rfl (lb rfl) rfl) <| rA rfl rfl rfl <| XL.nil <| XQ.seq <| XC.ret ?_
    have e_ := Option.some.inj h0
    subst e_
    exact XQ.retF (fun _ _ h => h) rfl (RAs.agg ag_39 rfl rfl rfl rfl (RAs.tmp rfl .nil)) (.cons (.agg (.cons (.d _) (.cons (.d _) .nil))) (.cons (.one (.d _)) .nil))

def m25_l0 (a0 : List Lvl) (s1 : Int) : Option (LO Int (Unit ⊕ (Bool × Int))) :=
  cond (decide (s1 < (a0.length : Int)))
    (Option.bind (idx a0 s1) fun (x3 : Lvl) =>
  Option.bind (m43 x3) fun (x4 : Int × Int) =>
  Option.bind (Option.bind (idx a0 s1) fun (x6 : Lvl) =>
  guardO (Nat.ble x6.vs.length 100000)
  (cond (!(validB x6))
    (some true)
    (some (decide (0 ≤ x4.1))))) (fun (v5 : Bool) => cond v5
    (some (.done (.inr (false, 3))))
    (some (.next (w64 (s1 + 1))))))
    (some (.done (.inl ())))

def m25_l1 (a1 : List Bnd) (a0 : List Lvl) (s1 : Bool × Int) : Option (LO (Bool × Int) (Bool ⊕ (Bool × Int))) :=
  cond (decide (s1.2 < (a1.length : Int)))
    (Option.bind (idx a1 s1.2) fun (x6 : Bnd) =>
  Option.bind (m50 x6.lo a0) fun (x7 : Lvl × Int) =>
  Option.bind (idx a1 s1.2) fun (x8 : Bnd) =>
  Option.bind (m50 x8.hi a0) fun (x9 : Lvl × Int) =>
  Option.bind (cond (x7.2 != 0)
    (some true)
    (some (x9.2 != 0))) (fun (v10 : Bool) => cond v10
    (some (.done (.inr (false, 15))))
    (Option.bind (cond s1.1
    (guardO ((cond (Nat.ble x7.1.vs.length 100000) (Nat.ble x9.1.vs.length 100000) false))
  (some (leqB x7.1 x9.1)))
    (some false)) (fun (v12 : Bool) => some (.next (v12, (w64 (s1.2 + 1))))))))
    (some (.done (.inl s1.1)))

/-- euclid/euclidref02.Holds -/
def m25 (a0 : List Lvl) (a1 : List Bnd) : Option (Bool × Int) :=
  Option.bind (loopN (m25_l0 a0) FUEL 0) (Sum.elim (fun (o1 : Unit) => Option.bind (m14 (a0.length : Int) a1) fun (x2 : Int × Int) =>
  cond (x2.2 != 0)
    (some (false, x2.2))
    (Option.bind (loopN (m25_l1 a1 a0) FUEL (true, 0)) (Sum.elim (fun (o4 : Bool) => some (o4, 0)) (fun o => some o)))) (fun o => some o))

set_option maxRecDepth 100000 in
set_option maxHeartbeats 8000000 in
theorem m25_ok (a0 : List Lvl) (a1 : List Bnd) (r : Bool × Int) (h0 : m25 a0 a1 = some r) : Fun Try.prog 25 [.one (dS a0), .one (dS a1)] (resOf [.one (dB r.1), .one (dI r.2)]) := by
  unfold m25 at h0
  refine Fun.of_bodyM 9 90 Try.func25 rfl en_25 rfl (lb rfl) (fun S w => ?_)
  simp only [entry]
  refine XC.seq <| XC.region <| rA rfl rfl rfl <| rA rfl rfl rfl <| XL.nil <| XQ.seq <| XC.seq <| XC.seq <| XC.region <| rA rfl rfl rfl <| XL.nil <| XQ.seq <| XC.block ?_
  refine XC.joinX 0 (fun (o1 : Unit) => ⟨[(0, .v (.one (dS a0))), (1, .v (.one (dS a1)))], [], [], 0, 90, []⟩) (fun (o1 : Unit) => (Option.bind (m14 (a0.length : Int) a1) fun (x2 : Int × Int) =>
    cond (x2.2 != 0)
      (some (false, x2.2))
      (Option.bind (loopN (m25_l1 a1 a0) FUEL (true, 0)) (Sum.elim (fun (o4 : Bool) => some (o4, 0)) (fun o => some o)))) = some r) ?_ ?_
  ·
   refine bindK h0 (fun o2 hl1 h0 => ?_)
   refine XC.loopM (m25_l0 a0) (fun s1 => ⟨[(0, .v (.one (dS a0))), (1, .v (.one (dS a1))), (6, .v (.one (dI s1)))], [], [], 0, 90, []⟩) 0 o2 (stle (tR rfl (tR rfl (tR rfl tZ))) hZ kZ rfl (Nat.zero_le _) rfl rfl rfl bZ rfl rfl) hl1 (fun s1 n1 oo1 h1 ho1 => ?_)
   unfold m25_l0 at h1
   refine XC.seq <| XC.seq <| XC.region <| rM rfl rfl rfl <| rM rfl rfl rfl <| rR rfl rfl rfl (RO.lenE (α := Lvl) sl_31 rfl (.d _)) <| rR rfl rfl rfl (RO.binInt rfl rfl rfl) <| XL.nil <| XQ.seq ?_
   refine XC.cond (b := (decide (s1 < (a0.length : Int)))) rfl (fun c3 => ?_) (fun c3 => ?_)
   ·
    replace h1 := condT c3 h1
    refine XC.skip <| XQ.seq <| XC.seq <| XC.block <| XC.seq <| XC.region <| rM rfl rfl rfl <| rM rfl rfl rfl ?_
    refine bindK h1 (fun x4 hx4 h1 => ?_)
    refine rR rfl rfl rfl (RO.indexE (α := Lvl) sl_31 rfl (.d _) rfl hx4) <| rR rfl rfl rfl (RO.loadPelAgg ag_39 rfl rfl rfl) ?_
    refine bindK h1 (fun x5 hx5 h1 => ?_)
    refine XL.put rfl rfl (lb rfl) (OpOK.callFun (m43_ok x4 x5 hx5) rfl (.cons (.agg (.cons (.d _) (.cons (.d _) .nil))) .nil)) <| rM rfl rfl rfl <| rR rfl rfl rfl (RO.extract rfl rfl) <| rR rfl rfl rfl (RO.extract rfl rfl) <| rA rfl rfl rfl <| rA rfl rfl rfl <| XL.nil <| XQ.seq <| XC.seq ?_
    refine XC.joinR (fun (v6 : Bool) => ⟨[(0, .v (.one (dS a0))), (1, .v (.one (dS a1))), (6, .v (.one (dI s1))), (40, .v (.one (dB v6)))], [], [], 0, 90, []⟩) (fun (v6 : Bool) => (cond v6
        (some (.done (.inr (false, 3))))
        (some (.next (w64 (s1 + 1))))) = some oo1) ?_ ?_
    ·
     refine bindK h1 (fun v_ h2 h1 => ?_)
     refine XC.region <| rM rfl rfl rfl <| rM rfl rfl rfl ?_
     refine bindK h2 (fun x7 hx7 h2 => ?_)
     refine rR rfl rfl rfl (RO.indexE (α := Lvl) sl_31 rfl (.d _) rfl hx7) <| rR rfl rfl rfl (RO.loadPelAgg ag_39 rfl rfl rfl) ?_
     refine guardK h2 (fun g8 h2 => ?_)
     refine XL.put rfl rfl (lb rfl) (OpOK.callFun (validR_fun x7 (Nat.le_of_ble_eq_true g8)) rfl (.cons (.agg (.cons (.d _) (.cons (.d _) .nil))) .nil)) ?_
     refine rR rfl rfl rfl (RO.not rfl) <| rM rfl rfl rfl ?_
     refine XL.case (d := 37) (c := (!(validB x7))) rfl (fun c9 => ?_) (fun c9 => ?_)
     ·
      replace h2 := condT c9 h2
      refine XL.no rfl rfl <| XL.no rfl rfl <| rR rfl rfl rfl (RO.pickT rfl rfl) <| XL.nil ?_
      have e_ := Option.some.inj h2
      subst e_
      exact XQ.joinR true (stle (tR rfl (tR rfl (tR rfl (tR rfl tZ)))) hZ kZ rfl (Nat.zero_le _) rfl rfl rfl bZ rfl rfl) h1
     ·
      replace h2 := condF c9 h2
      refine rM rfl rfl rfl <| rR rfl rfl rfl (RO.binInt rfl rfl rfl) <| rR rfl rfl rfl (RO.pickF rfl rfl) <| XL.nil ?_
      have e_ := Option.some.inj h2
      subst e_
      exact XQ.joinR (decide (0 ≤ x5.1)) (stle (tR rfl (tR rfl (tR rfl (tR rfl tZ)))) hZ kZ rfl (Nat.zero_le _) rfl rfl rfl bZ rfl rfl) h1
    ·
     intro v6 h1
     refine XQ.seq ?_
     refine XC.cond (b := v6) rfl (fun c10 => ?_) (fun c10 => ?_)
     ·
      replace h1 := condT c10 h1
      refine XC.seq <| XC.region <| rA rfl rfl rfl <| rA rfl rfl rfl <| XL.nil <| XQ.seq <| XC.ret ?_
      have e_ := Option.some.inj h1
      subst e_
      have e_ : _ = _ := ho1
      subst e_
      try dsimp only [Sum.elim_inl, Sum.elim_inr] at h0
      have e_ := Option.some.inj h0
      subst e_
      exact XQ.retF (fun _ _ h => h) rfl (RAs.tmp rfl (RAs.tmp rfl .nil)) (.cons (.one (.d _)) (.cons (.one (.d _)) .nil))
     ·
      replace h1 := condF c10 h1
      refine XC.skip <| XQ.inBlock <| XQ.seq <| XC.region <| rM rfl rfl rfl <| rR rfl rfl rfl (RO.binInt rfl rfl rfl) <| rA rfl rfl rfl <| XL.nil ?_
      have e_ := Option.some.inj h1
      subst e_
      refine XQ.nextM (w64 (s1 + 1)) (stle (tR rfl (tR rfl (tR rfl tZ))) hZ kZ rfl (Nat.zero_le _) rfl rfl rfl bZ rfl rfl) ho1
   ·
    replace h1 := condF c3 h1
    refine XC.exit <| XQ.thenE <| XQ.thenE ?_
    have e_ := Option.some.inj h1
    subst e_
    have e_ : _ = _ := ho1
    subst e_
    exact XQ.joinX () (stle (tR rfl (tR rfl tZ)) hZ kZ rfl (Nat.zero_le _) rfl rfl rfl bZ rfl rfl) h0
  ·
   intro o1 h0
   refine XQ.blockX <| XQ.seq <| XC.seq <| XC.seq <| XC.region <| rM rfl rfl rfl <| rR rfl rfl rfl (RO.lenE (α := Lvl) sl_31 rfl (.d _)) <| rM rfl rfl rfl ?_
   refine bindK h0 (fun x11 hx11 h0 => ?_)
   refine XL.put rfl rfl (lb rfl) (OpOK.callFun (m14_ok (a0.length : Int) a1 x11 hx11) rfl (.cons (.one (.d _)) (.cons (.one (.d _)) .nil))) <| rM rfl rfl rfl <| rR rfl rfl rfl (RO.extract rfl rfl) <| rR rfl rfl rfl (RO.extract rfl rfl) <| rA rfl rfl rfl <| rA rfl rfl rfl <| XL.nil <| XQ.seq <| XC.seq <| XC.region <| rM rfl rfl rfl <| rR rfl rfl rfl (RO.binInt rfl rfl rfl) <| XL.nil <| XQ.seq ?_
   refine XC.cond (b := (x11.2 != 0)) rfl (fun c12 => ?_) (fun c12 => ?_)
   ·
    replace h0 := condT c12 h0
    refine XC.seq <| XC.region <| rM rfl rfl rfl <| rA rfl rfl rfl <| rA rfl rfl rfl <| XL.nil <| XQ.seq <| XC.ret ?_
    have e_ := Option.some.inj h0
    subst e_
    exact XQ.retF (fun _ _ h => h) rfl (RAs.tmp rfl (RAs.tmp rfl .nil)) (.cons (.one (.d _)) (.cons (.one (.d _)) .nil))
   ·
    replace h0 := condF c12 h0
    refine XC.skip <| XQ.seq <| XC.seq <| XC.region <| rA rfl rfl rfl <| XL.nil <| XQ.seq <| XC.seq <| XC.seq <| XC.region <| rA rfl rfl rfl <| XL.nil <| XQ.seq <| XC.block ?_
    refine XC.joinX 2 (fun (o13 : Bool) => ⟨[(11, .v (.one (dB o13)))], [], [], 0, 90, []⟩) (fun (o13 : Bool) => (some (o13, 0)) = some r) ?_ ?_
    ·
     refine bindK h0 (fun o14 hl1 h0 => ?_)
     refine XC.loopM (m25_l1 a1 a0) (fun s1 => ⟨[(0, .v (.one (dS a0))), (1, .v (.one (dS a1))), (11, .v (.one (dB s1.1))), (12, .v (.one (dI s1.2)))], [], [], 0, 90, []⟩) (true, 0) o14 (stle (tR rfl (tR rfl (tR rfl (tR rfl tZ)))) hZ kZ rfl (Nat.zero_le _) rfl rfl rfl bZ rfl rfl) hl1 (fun s1 n1 oo1 h1 ho1 => ?_)
     unfold m25_l1 at h1
     refine XC.seq <| XC.seq <| XC.region <| rM rfl rfl rfl <| rM rfl rfl rfl <| rR rfl rfl rfl (RO.lenE (α := Bnd) sl_22 rfl (.d _)) <| rR rfl rfl rfl (RO.binInt rfl rfl rfl) <| XL.nil <| XQ.seq ?_
     refine XC.cond (b := (decide (s1.2 < (a1.length : Int)))) rfl (fun c15 => ?_) (fun c15 => ?_)
     ·
      replace h1 := condT c15 h1
      refine XC.skip <| XQ.seq <| XC.seq <| XC.block <| XC.seq <| XC.region <| rM rfl rfl rfl <| rM rfl rfl rfl ?_
      refine bindK h1 (fun x16 hx16 h1 => ?_)
      refine rR rfl rfl rfl (RO.indexE (α := Bnd) sl_22 rfl (.d _) rfl hx16) <| rR rfl rfl rfl (RO.fieldPel fo_41_0 rfl) <| rR rfl rfl rfl (RO.loadPelAgg ag_39 rfl rfl rfl) <| rM rfl rfl rfl ?_
      refine bindK h1 (fun x17 hx17 h1 => ?_)
      refine XL.put rfl rfl (lb rfl) (OpOK.callFun (m50_ok x16.lo a0 x17 hx17) rfl (.cons (.agg (.cons (.d _) (.cons (.d _) .nil))) (.cons (.one (.d _)) .nil))) <| rM rfl rfl rfl <| rR rfl rfl rfl (RO.extract rfl rfl) <| rR rfl rfl rfl (RO.extract rfl rfl) <| XL.put rfl rfl (lb rfl) (OpOK.alloc z_39 rfl) <| XL.eff rfl rfl (OpOK.store ag_39 rfl rfl rfl rfl (lb rfl) rfl) <| rA rfl rfl rfl <| XL.nil <| XQ.seq <| XC.seq <| XC.region <| rM rfl rfl rfl <| rM rfl rfl rfl ?_
      refine bindK h1 (fun x18 hx18 h1 => ?_)
      refine rR rfl rfl rfl (RO.indexE (α := Bnd) sl_22 rfl (.d _) rfl hx18) <| rR rfl rfl rfl (RO.fieldPel fo_41_1 rfl) <| rR rfl rfl rfl (RO.loadPelAgg ag_39 rfl rfl rfl) <| rM rfl rfl rfl ?_
      refine bindK h1 (fun x19 hx19 h1 => ?_)
      refine XL.put rfl rfl (lb rfl) (OpOK.callFun (m50_ok x18.hi a0 x19 hx19) rfl (.cons (.agg (.cons (.d _) (.cons (.d _) .nil))) (.cons (.one (.d _)) .nil))) <| rM rfl rfl rfl <| rR rfl rfl rfl (RO.extract rfl rfl) <| rR rfl rfl rfl (RO.extract rfl rfl) <| XL.put rfl rfl (lb rfl) (OpOK.alloc z_39 rfl) <| XL.eff rfl rfl (OpOK.store ag_39 rfl rfl rfl rfl (lb rfl) rfl) <| rA rfl rfl rfl <| XL.nil <| XQ.seq <| XC.seq <| XC.seq ?_
      refine XC.joinR (fun (v20 : Bool) => ⟨[(0, .v (.one (dS a0))), (1, .v (.one (dS a1))), (11, .v (.one (dB s1.1))), (12, .v (.one (dI s1.2))), (13, .v (.one (.ptr 0 0))), (15, .v (.one (.ptr 1 0))), (82, .v (.one (dB v20)))], [(0, .cells 39 (cE x17.1)), (1, .cells 39 (cE x19.1))], [], 2, 90, []⟩) (fun (v20 : Bool) => (cond v20
          (some (.done (.inr (false, 15))))
          (Option.bind (cond s1.1
          (guardO ((cond (Nat.ble x17.1.vs.length 100000) (Nat.ble x19.1.vs.length 100000) false))
        (some (leqB x17.1 x19.1)))
          (some false)) (fun (v22 : Bool) => some (.next (v22, (w64 (s1.2 + 1))))))) = some oo1) ?_ ?_
      ·
       refine bindK h1 (fun v_ h2 h1 => ?_)
       refine XC.region <| rM rfl rfl rfl <| rR rfl rfl rfl (RO.binInt rfl rfl rfl) <| rM rfl rfl rfl ?_
       refine XL.case (d := 79) (c := (x17.2 != 0)) rfl (fun c21 => ?_) (fun c21 => ?_)
       ·
        replace h2 := condT c21 h2
        refine XL.no rfl rfl <| XL.no rfl rfl <| rR rfl rfl rfl (RO.pickT rfl rfl) <| XL.nil ?_
        have e_ := Option.some.inj h2
        subst e_
        exact XQ.joinR true (stle (tR rfl (tR rfl (tR rfl (tR rfl (tR rfl (tR rfl (tR rfl tZ))))))) (hR rfl (hR rfl hZ)) kZ rfl (Nat.zero_le _) rfl rfl rfl (bB rfl rfl (bB rfl rfl bZ)) rfl rfl) h1
       ·
        replace h2 := condF c21 h2
        refine rM rfl rfl rfl <| rR rfl rfl rfl (RO.binInt rfl rfl rfl) <| rR rfl rfl rfl (RO.pickF rfl rfl) <| XL.nil ?_
        have e_ := Option.some.inj h2
        subst e_
        exact XQ.joinR (x19.2 != 0) (stle (tR rfl (tR rfl (tR rfl (tR rfl (tR rfl (tR rfl (tR rfl tZ))))))) (hR rfl (hR rfl hZ)) kZ rfl (Nat.zero_le _) rfl rfl rfl (bB rfl rfl (bB rfl rfl bZ)) rfl rfl) h1
      ·
       intro v20 h1
       refine XQ.seq ?_
       refine XC.cond (b := v20) rfl (fun c22 => ?_) (fun c22 => ?_)
       ·
        replace h1 := condT c22 h1
        refine XC.seq <| XC.region <| rA rfl rfl rfl <| rA rfl rfl rfl <| XL.nil <| XQ.seq <| XC.ret ?_
        have e_ := Option.some.inj h1
        subst e_
        have e_ : _ = _ := ho1
        subst e_
        try dsimp only [Sum.elim_inl, Sum.elim_inr] at h0
        have e_ := Option.some.inj h0
        subst e_
        exact XQ.retF (fun _ _ h => h) rfl (RAs.tmp rfl (RAs.tmp rfl .nil)) (.cons (.one (.d _)) (.cons (.one (.d _)) .nil))
       ·
        replace h1 := condF c22 h1
        refine XC.skip <| XQ.seq ?_
        refine XC.joinR (fun (v23 : Bool) => ⟨[(0, .v (.one (dS a0))), (1, .v (.one (dS a1))), (11, .v (.one (dB v23))), (12, .v (.one (dI s1.2)))], [(0, .cells 39 (cE x17.1)), (1, .cells 39 (cE x19.1))], [], 2, 90, []⟩) (fun (v23 : Bool) => (some (.next (v23, (w64 (s1.2 + 1))))) = some oo1) ?_ ?_
        ·
         refine bindK h1 (fun v_ h2 h1 => ?_)
         refine XC.region <| rM rfl rfl rfl <| rM rfl rfl rfl ?_
         refine XL.case (d := 84) (c := s1.1) rfl (fun c24 => ?_) (fun c24 => ?_)
         ·
          replace h2 := condT c24 h2
          refine rR rfl rfl rfl (RO.loadOwnAgg ag_39 rfl rfl rfl rfl) <| rR rfl rfl rfl (RO.loadOwnAgg ag_39 rfl rfl rfl rfl) ?_
          refine guardK h2 (fun g25 h2 => ?_)
          refine XL.put rfl rfl (lb rfl) (OpOK.callFun (leqR_fun x17.1 x19.1 (Nat.le_of_ble_eq_true (cond_left g25)) (Nat.le_of_ble_eq_true (cond_right g25))) rfl (.cons (.agg (.cons (.d _) (.cons (.d _) .nil))) (.cons (.agg (.cons (.d _) (.cons (.d _) .nil))) .nil))) ?_
          refine rR rfl rfl rfl (RO.pickT rfl rfl) <| rA rfl rfl rfl <| XL.nil ?_
          have e_ := Option.some.inj h2
          subst e_
          exact XQ.joinR (leqB x17.1 x19.1) (stle (tR rfl (tR rfl (tR rfl (tR rfl tZ)))) (hR rfl (hR rfl hZ)) kZ rfl (Nat.zero_le _) rfl rfl rfl (bB rfl rfl (bB rfl rfl bZ)) rfl rfl) h1
         ·
          replace h2 := condF c24 h2
          refine XL.no rfl rfl <| XL.no rfl rfl <| XL.no rfl rfl <| rR rfl rfl rfl (RO.pickF rfl rfl) <| rA rfl rfl rfl <| XL.nil ?_
          have e_ := Option.some.inj h2
          subst e_
          exact XQ.joinR false (stle (tR rfl (tR rfl (tR rfl (tR rfl tZ)))) (hR rfl (hR rfl hZ)) kZ rfl (Nat.zero_le _) rfl rfl rfl (bB rfl rfl (bB rfl rfl bZ)) rfl rfl) h1
        ·
         intro v23 h1
         refine XQ.inBlock <| XQ.seq <| XC.region <| rM rfl rfl rfl <| rR rfl rfl rfl (RO.binInt rfl rfl rfl) <| rA rfl rfl rfl <| XL.nil ?_
         have e_ := Option.some.inj h1
         subst e_
         refine XQ.nextM (v23, (w64 (s1.2 + 1))) (stle (tR rfl (tR rfl (tR rfl (tR rfl tZ)))) hZ kZ rfl (Nat.zero_le _) rfl rfl rfl bZ rfl rfl) ho1
     ·
      replace h1 := condF c15 h1
      refine XC.exit <| XQ.thenE <| XQ.thenE ?_
      have e_ := Option.some.inj h1
      subst e_
      have e_ : _ = _ := ho1
      subst e_
      exact XQ.joinX s1.1 (stle (tR rfl tZ) hZ kZ rfl (Nat.zero_le _) rfl rfl rfl bZ rfl rfl) h0
    ·
     intro o13 h0
     refine XQ.blockX <| XQ.seq <| XC.seq <| XC.region <| rM rfl rfl rfl <| rA rfl rfl rfl <| rA rfl rfl rfl <| XL.nil <| XQ.seq <| XC.ret ?_
     have e_ := Option.some.inj h0
     subst e_
     exact XQ.retF (fun _ _ h => h) rfl (RAs.tmp rfl (RAs.tmp rfl .nil)) (.cons (.one (.d _)) (.cons (.one (.d _)) .nil))
end Go.Proofs.Ytkimijmiphkddaa
