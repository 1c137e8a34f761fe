/- Mirrors of layer 1: Params, Metas and their references. -/
import Derived.Test.YtcapifnaceegmaaGreatDoorMa
namespace Go.Proofs.YtcapifnaceegmaaGreatDoor
open Go.RowKit Go.Shelf
set_option linter.unusedSimpArgs false
set_option linter.unusedVariables false

theorem ag_46 : tyAgg Tryz.prog 46 = some (false, 1) := by kernel_rfl
theorem z_3 : tyZero Tryz.prog 3 = some [.int .i64 0] := by kernel_rfl
theorem z_46 : tyZero Tryz.prog 46 = some [.slice none 0 0] := by kernel_rfl
theorem el_3 : tyElem Tryz.prog 3 = some (1, 8) := by kernel_rfl
theorem en_40 : Enters Tryz.prog 40 := enters_of Tryz.func40 (by kernel_rfl) rfl
theorem en_41 : Enters Tryz.prog 41 := enters_of Tryz.func41 (by kernel_rfl) rfl
theorem en_43 : Enters Tryz.prog 43 := enters_of Tryz.func43 (by kernel_rfl) rfl
theorem en_44 : Enters Tryz.prog 44 := enters_of Tryz.func44 (by kernel_rfl) rfl
theorem en_65 : Enters Tryz.prog 65 := enters_of Tryz.func65 (by kernel_rfl) rfl
theorem en_88 : Enters Tryz.prog 88 := enters_of Tryz.func88 (by kernel_rfl) rfl
/-- euclid/level.Params -/
def m40 (a0 : Lvl) : Option Int :=
  Option.bind (guardO (Nat.ble a0.vs.length 100000)
  (cond (validB a0)
    (some (decide (0 < (a0.vs.length : Int))))
    (some false))) (fun (v1 : Bool) => cond v1
    (Option.bind (idx a0.vs (w64 ((a0.vs.length : Int) - 1))) fun (x3 : LV) =>
  some (max 0 (w64 (x3.1 + 1))))
    (some 0))

set_option maxRecDepth 100000 in
set_option maxHeartbeats 8000000 in
theorem m40_ok (a0 : Lvl) (r : Int) (h0 : m40 a0 = some r) : Fun Tryz.prog 40 [.agg (cE a0)] (resOf [.one (dI r)]) := by
  unfold m40 at h0
  refine Fun.of_bodyM 9 22 Tryz.func40 rfl en_40 rfl (lb rfl) (fun S w => ?_)
  simp only [entry]
  refine XC.seq <| XC.region <| XL.put rfl rfl (lb rfl) (OpOK.box rfl) <| rA rfl rfl rfl <| XL.nil <| XQ.seq <| XC.seq <| XC.seq <| XC.region <| rR rfl rfl rfl (RO.fieldOwn fo_24_1 rfl) <| rR rfl rfl rfl (RO.loadOwn ag_22 rfl rfl rfl) <| rR rfl rfl rfl (RO.lenE (α := LV) sl_22 rfl (.d _)) <| rA rfl rfl rfl <| XL.nil ?_
  refine XQ.seq <| XC.seq ?_
  refine XC.joinR (fun (v1 : Bool) => ⟨[(1, .v (.one (.ptr 0 0))), (3, .v (.one (dI (a0.vs.length : Int)))), (12, .v (.one (dB v1)))], [(0, .cells 24 (cE a0))], [], 1, 22, []⟩) (fun (v1 : Bool) => (cond v1
      (Option.bind (idx a0.vs (w64 ((a0.vs.length : Int) - 1))) fun (x3 : LV) =>
    some (max 0 (w64 (x3.1 + 1))))
      (some 0)) = some r) ?_ ?_
  ·
   refine bindK h0 (fun v_ h1 h0 => ?_)
   refine XC.region <| rR rfl rfl rfl (RO.loadOwnAgg ag_24 rfl rfl rfl rfl) ?_
   refine guardK h1 (fun g2 h1 => ?_)
   refine XL.put rfl rfl (lb rfl) (OpOK.callFun (valid_fun a0 (Nat.le_of_ble_eq_true g2)) rfl (.cons (.agg (.cons (.d _) (.cons (.d _) .nil))) .nil)) ?_
   refine rM rfl rfl rfl ?_
   refine XL.case (d := 9) (c := (validB a0)) rfl (fun c3 => ?_) (fun c3 => ?_)
   ·
    replace h1 := condT c3 h1
    refine rM rfl rfl rfl <| rR rfl rfl rfl (RO.binInt rfl rfl rfl) <| rR rfl rfl rfl (RO.pickT rfl rfl) <| XL.nil ?_
    have e_ := Option.some.inj h1
    subst e_
    exact XQ.joinR (decide (0 < (a0.vs.length : Int))) (stle (tR rfl (tR rfl (tR rfl tZ))) (hR rfl hZ) kZ rfl (Nat.zero_le _) rfl rfl rfl (bB rfl rfl bZ) rfl rfl) h0
   ·
    replace h1 := condF c3 h1
    refine XL.no rfl rfl <| XL.no rfl rfl <| rR rfl rfl rfl (RO.pickF rfl rfl) <| XL.nil ?_
    have e_ := Option.some.inj h1
    subst e_
    exact XQ.joinR false (stle (tR rfl (tR rfl (tR rfl tZ))) (hR rfl hZ) kZ rfl (Nat.zero_le _) rfl rfl rfl (bB rfl rfl bZ) rfl rfl) h0
  ·
   intro v1 h0
   refine XQ.seq ?_
   refine XC.cond (b := v1) rfl (fun c4 => ?_) (fun c4 => ?_)
   ·
    replace h0 := condT c4 h0
    refine XC.seq <| XC.region <| rR rfl rfl rfl (RO.fieldOwn fo_24_1 rfl) <| rR rfl rfl rfl (RO.loadOwn ag_22 rfl rfl rfl) <| rM rfl rfl rfl <| rR rfl rfl rfl (RO.binInt rfl rfl rfl) ?_
    refine bindK h0 (fun x5 hx5 h0 => ?_)
    refine rR rfl rfl rfl (RO.indexE (α := LV) sl_22 rfl (.d _) rfl hx5) <| rR rfl rfl rfl (RO.fieldPel fo_69_0 rfl) <| rR rfl rfl rfl (RO.loadPel ag_3 rfl rfl) <| rR rfl rfl rfl (RO.binInt rfl rfl rfl) <| rR rfl rfl rfl (RO.max2 rfl rfl) <| rA rfl rfl rfl <| XL.nil <| XQ.seq <| XC.ret ?_
    have e_ := Option.some.inj h0
    subst e_
    exact XQ.retF (fun _ _ h => h) rfl (RAs.tmp rfl .nil) (.cons (.one (.d _)) .nil)
   ·
    replace h0 := condF c4 h0
    refine XC.skip <| XQ.seq <| XC.seq <| XC.region <| rA rfl rfl rfl <| XL.nil <| XQ.seq <| XC.ret ?_
    have e_ := Option.some.inj h0
    subst e_
    exact XQ.retF (fun _ _ h => h) rfl (RAs.tmp rfl .nil) (.cons (.one (.d _)) .nil)

/-- euclid/euclidref01.Params -/
def m41 (a0 : Lvl) : Option Int :=
  Option.bind (guardO (Nat.ble a0.vs.length 100000)
  (cond (!(validB a0))
    (some true)
    (some ((a0.vs.length : Int) == 0)))) (fun (v1 : Bool) => cond v1
    (some 0)
    (Option.bind (idx a0.vs (w64 ((a0.vs.length : Int) - 1))) fun (x3 : LV) =>
  some (max 0 (w64 (x3.1 + 1)))))

set_option maxRecDepth 100000 in
set_option maxHeartbeats 8000000 in
theorem m41_ok (a0 : Lvl) (r : Int) (h0 : m41 a0 = some r) : Fun Tryz.prog 41 [.agg (cE a0)] (resOf [.one (dI r)]) := by
  unfold m41 at h0
  refine Fun.of_bodyM 9 23 Tryz.func41 rfl en_41 rfl (lb rfl) (fun S w => ?_)
  simp only [entry]
  refine XC.seq <| XC.region <| XL.put rfl rfl (lb rfl) (OpOK.box rfl) <| rA rfl rfl rfl <| XL.nil <| XQ.seq <| XC.seq <| XC.seq ?_
  refine XC.joinR (fun (v1 : Bool) => ⟨[(1, .v (.one (.ptr 0 0))), (11, .v (.one (dB v1)))], [(0, .cells 24 (cE a0))], [], 1, 23, []⟩) (fun (v1 : Bool) => (cond v1
      (some 0)
      (Option.bind (idx a0.vs (w64 ((a0.vs.length : Int) - 1))) fun (x3 : LV) =>
    some (max 0 (w64 (x3.1 + 1))))) = some r) ?_ ?_
  ·
   refine bindK h0 (fun v_ h1 h0 => ?_)
   refine XC.region <| rR rfl rfl rfl (RO.loadOwnAgg ag_24 rfl rfl rfl rfl) ?_
   refine guardK h1 (fun g2 h1 => ?_)
   refine XL.put rfl rfl (lb rfl) (OpOK.callFun (validR_fun a0 (Nat.le_of_ble_eq_true g2)) rfl (.cons (.agg (.cons (.d _) (.cons (.d _) .nil))) .nil)) ?_
   refine rR rfl rfl rfl (RO.not rfl) <| rM rfl rfl rfl ?_
   refine XL.case (d := 6) (c := (!(validB a0))) rfl (fun c3 => ?_) (fun c3 => ?_)
   ·
    replace h1 := condT c3 h1
    refine XL.no rfl rfl <| XL.no rfl rfl <| XL.no rfl rfl <| XL.no rfl rfl <| rR rfl rfl rfl (RO.pickT rfl rfl) <| XL.nil ?_
    have e_ := Option.some.inj h1
    subst e_
    exact XQ.joinR true (stle (tR rfl (tR rfl tZ)) (hR rfl hZ) kZ rfl (Nat.zero_le _) rfl rfl rfl (bB rfl rfl bZ) rfl rfl) h0
   ·
    replace h1 := condF c3 h1
    refine rR rfl rfl rfl (RO.fieldOwn fo_24_1 rfl) <| rR rfl rfl rfl (RO.loadOwn ag_22 rfl rfl rfl) <| rR rfl rfl rfl (RO.lenE (α := LV) sl_22 rfl (.d _)) <| rR rfl rfl rfl (RO.binInt rfl rfl rfl) <| rR rfl rfl rfl (RO.pickF rfl rfl) <| XL.nil ?_
    have e_ := Option.some.inj h1
    subst e_
    exact XQ.joinR ((a0.vs.length : Int) == 0) (stle (tR rfl (tR rfl tZ)) (hR rfl hZ) kZ rfl (Nat.zero_le _) rfl rfl rfl (bB rfl rfl bZ) rfl rfl) h0
  ·
   intro v1 h0
   refine XQ.seq ?_
   refine XC.cond (b := v1) rfl (fun c4 => ?_) (fun c4 => ?_)
   ·
    replace h0 := condT c4 h0
    refine XC.seq <| XC.region <| rA rfl rfl rfl <| XL.nil <| XQ.seq <| XC.ret ?_
    have e_ := Option.some.inj h0
    subst e_
    exact XQ.retF (fun _ _ h => h) rfl (RAs.tmp rfl .nil) (.cons (.one (.d _)) .nil)
   ·
    replace h0 := condF c4 h0
    refine XC.skip <| XQ.seq <| XC.seq <| XC.region <| rR rfl rfl rfl (RO.fieldOwn fo_24_1 rfl) <| rR rfl rfl rfl (RO.loadOwn ag_22 rfl rfl rfl) <| rR rfl rfl rfl (RO.fieldOwn fo_24_1 rfl) <| rR rfl rfl rfl (RO.loadOwn ag_22 rfl rfl rfl) <| rR rfl rfl rfl (RO.lenE (α := LV) sl_22 rfl (.d _)) <| rR rfl rfl rfl (RO.binInt rfl rfl rfl) ?_
    refine bindK h0 (fun x5 hx5 h0 => ?_)
    refine rR rfl rfl rfl (RO.indexE (α := LV) sl_22 rfl (.d _) rfl hx5) <| rR rfl rfl rfl (RO.fieldPel fo_69_0 rfl) <| rR rfl rfl rfl (RO.loadPel ag_3 rfl rfl) <| rR rfl rfl rfl (RO.binInt rfl rfl rfl) <| rR rfl rfl rfl (RO.max2 rfl rfl) <| rA rfl rfl rfl <| XL.nil <| XQ.seq <| XC.ret ?_
    have e_ := Option.some.inj h0
    subst e_
    exact XQ.retF (fun _ _ h => h) rfl (RAs.tmp rfl .nil) (.cons (.one (.d _)) .nil)

noncomputable def m43_c0 : Code := (cA (cA (cB (cA (cB (cA (cB (cB (bodyC Tryz.f43)))))))))

noncomputable def m43_c1 : Code := (cB (cA (cB (cA (cB (cA (cB (cB (bodyC Tryz.f43)))))))))

def m43_l0 (a0 : Lvl) (s2 : Int × (List Int)) : Option (LO (Int × (List Int)) (((List Int)))) :=
  cond (decide (0 ≤ s2.1))
    (Option.bind (idx a0.vs s2.1) fun (x9 : LV) =>
  Option.bind (cond (decide (x9.1 < 0))
    (guardO (Nat.ble (s2.2.length + ([(w64 ((-1) - x9.1))]).length) 1000000000)
  (some (s2.2 ++ ([(w64 ((-1) - x9.1))]))))
    (some s2.2)) (fun (y10 : (List Int)) => some (.next ((w64 (s2.1 - 1)), y10))))
    (some (.done s2.2))

/-- euclid/level.Metas -/
def m43 (a0 : Lvl) : Option ((List Int)) :=
  guardO (Nat.ble a0.vs.length 100000)
  (cond (validB a0)
    (Option.bind (some ()) (fun (y3 : Unit) => Option.bind (Option.bind (loopN (m43_l0 a0) FUEL ((w64 ((a0.vs.length : Int) - 1)), ([] : List Int))) (fun (o7 : (List Int)) => some o7)) (fun (y5 : (List Int)) => some y5)))
    (some ([] : List Int)))

set_option maxRecDepth 100000 in
set_option maxHeartbeats 8000000 in
theorem m43_ok (a0 : Lvl) (r : (List Int)) (h0 : m43 a0 = some r) : Fun Tryz.prog 43 [.agg (cE a0)] (resOf [.one (dS r)]) := by
  unfold m43 at h0
  refine Fun.of_bodyM 9 23 Tryz.func43 rfl en_43 rfl (lb rfl) (fun S w => ?_)
  simp only [entry]
  refine XC.seq <| XC.region <| XL.put rfl rfl (lb rfl) (OpOK.box rfl) <| rA rfl rfl rfl <| XL.nil <| XQ.seq <| XC.seq <| XC.region <| XL.put rfl rfl (lb rfl) (OpOK.alloc z_46 rfl) <| XL.nil <| XQ.seq <| XC.seq <| XC.seq <| XC.region ?_
  refine rR rfl rfl rfl (RO.loadOwnAgg ag_24 rfl rfl rfl rfl) ?_
  refine guardK h0 (fun g1 h0 => ?_)
  refine XL.put rfl rfl (lb rfl) (OpOK.callFun (valid_fun a0 (Nat.le_of_ble_eq_true g1)) rfl (.cons (.agg (.cons (.d _) (.cons (.d _) .nil))) .nil)) ?_
  refine XL.nil <| XQ.seq ?_
  refine XC.cond (b := (validB a0)) rfl (fun c2 => ?_) (fun c2 => ?_)
  ·
   replace h0 := condT c2 h0
   refine XC.seq <| XC.region <| rR rfl rfl rfl (RO.fieldOwn fo_24_1 rfl) <| rR rfl rfl rfl (RO.loadOwn ag_22 rfl rfl rfl) ?_
   refine bindK h0 (fun y3 h1 h0 => ?_)
   have hc4 : CallM Tryz.prog 65 [.one (dS a0.vs)] ⟨[(0, .cells 24 (cE a0)), (1, .cells 46 [dN])], [], 2⟩ (resOf [.one (.fn 88 [(2, 0)])]) ⟨[(0, .cells 24 (cE a0)), (1, .cells 46 [dN]), (2, .cells 22 [dS a0.vs])], [], 3⟩ := by
    refine CallM.of_bodyD ⟨[(2, .v (.one (.fn 88 [(2, 0)])))], [(0, .cells 24 (cE a0)), (1, .cells 46 [dN]), (2, .cells 22 [dS a0.vs])], [], 3, 4, []⟩ rfl rfl en_65 (lb rfl) rfl (RAs.tmp rfl .nil) (fun w0 M V0 Q hv1 hQ1 => ?_)
    simp only [entry]
    refine XC.seq <| XC.region <| XL.put rfl rfl (lb rfl) (OpOK.box rfl) <| rA rfl rfl rfl <| XL.nil <| XQ.seq <| XC.seq <| XC.region <| rR rfl rfl rfl (RO.makeFunc1 rfl) <| rA rfl rfl rfl <| XL.nil <| XQ.seq <| XC.ret ?_
    have e_ := Option.some.inj h1
    subst e_
    exact hQ1 _ _ _ (.inr rfl) rfl (stle (tR rfl tZ) (hR rfl (hR rfl (hR rfl hZ))) kZ rfl (Nat.le_trans hv1 (lb rfl)) rfl rfl rfl (bB rfl rfl (bB rfl rfl (bB rfl rfl bZ))) rfl rfl)
   refine XL.put rfl rfl (lb rfl) (OpOK.callW rfl rfl rfl hc4 rfl (hR rfl (hR rfl hZ)) kZ) <| XL.nil <| XQ.seq <| XC.block <| XC.less (st' := ⟨[(3, .v (.one (.ptr 1 0))), (10, .v (.one (.fn 88 [(2, 0)])))], [(0, .cells 24 (cE a0)), (1, .cells 46 [dN]), (2, .cells 22 [dS a0.vs])], [], 3, 23, []⟩) (stle (tR rfl (tR rfl tZ)) (hR rfl (hR rfl (hR rfl hZ))) kZ rfl (Nat.zero_le _) rfl rfl rfl (bB rfl rfl (bB rfl rfl (bB rfl rfl bZ))) rfl rfl) ?_
   refine bindK h0 (fun y5 h1 h0 => ?_)
   have hc6 : CallM Tryz.prog 88 [.one (.yld 4), .one (.ptr 2 0)] ⟨[(4, .loop .ready none [(3, .v (.one (.ptr 1 0))), (10, .v (.one (.fn 88 [(2, 0)])))] 23 #[11, 12] m43_c0 m43_c1 3), (3, .obj (.deferred (some []))), (0, .cells 24 (cE a0)), (1, .cells 46 [dN]), (2, .cells 22 [dS a0.vs])], [], 5⟩ (resOf []) ⟨[(0, .cells 24 (cE a0)), (1, .cells 46 [dA 5 y5]), (2, .cells 22 [dS a0.vs]), (3, .obj (.deferred (some []))), (4, .loop .ready none [(3, .v (.one (.ptr 1 0))), (10, .v (.one (.fn 88 [(2, 0)])))] 23 #[11, 12] m43_c0 m43_c1 3)], [(5, some ⟨3, 1, (Enc.encL y5).length⟩)], 6⟩ := by
    refine CallM.of_bodyD ⟨[], [(0, .cells 24 (cE a0)), (1, .cells 46 [dA 5 y5]), (2, .cells 22 [dS a0.vs]), (3, .obj (.deferred (some []))), (4, .loop .ready none [(3, .v (.one (.ptr 1 0))), (10, .v (.one (.fn 88 [(2, 0)])))] 23 #[11, 12] m43_c0 m43_c1 3)], [(5, some ⟨3, 1, (Enc.encL y5).length⟩)], 6, 19, []⟩ rfl rfl en_88 (lb rfl) rfl .nil (fun w0 M V0 Q hv1 hQ1 => ?_)
    simp only [entry]
    refine XC.seq <| XC.region <| rR rfl rfl rfl (RO.loadOwn ag_22 rfl rfl rfl) <| rR rfl rfl rfl (RO.lenE (α := LV) sl_22 rfl (.d _)) <| rR rfl rfl rfl (RO.binInt rfl rfl rfl) <| rA rfl rfl rfl <| XL.nil <| XQ.seq <| XC.block ?_
    refine XC.joinX 0 (fun (o7 : (List Int)) => ⟨[], [(0, .cells 24 (cE a0)), (1, .cells 46 [dA 5 o7]), (2, .cells 22 [dS a0.vs]), (3, .obj (.deferred (some []))), (4, .loop .ready none [(3, .v (.one (.ptr 1 0))), (10, .v (.one (.fn 88 [(2, 0)])))] 23 #[11, 12] m43_c0 m43_c1 3)], [(5, some ⟨3, 1, (Enc.encL o7).length⟩)], 6, 19, []⟩) (fun (o7 : (List Int)) => (some o7) = some y5) ?_ ?_
    ·
     refine XC.adoptC (i := 1) (off := 0) 3 1 rfl rfl ?_
     refine bindK h1 (fun o8 hl2 h1 => ?_)
     refine XC.loopM (m43_l0 a0) (fun s2 => ⟨[(0, .v (.one (.yld 4))), (1, .v (.one (.ptr 2 0))), (3, .v (.one (dI s2.1)))], [(0, .cells 24 (cE a0)), (1, .cells 46 [dA 5 s2.2]), (2, .cells 22 [dS a0.vs]), (3, .obj (.deferred (some []))), (4, .loop .ready none [(3, .v (.one (.ptr 1 0))), (10, .v (.one (.fn 88 [(2, 0)])))] 23 #[11, 12] m43_c0 m43_c1 3)], [(5, some ⟨3, 1, (Enc.encL s2.2).length⟩)], 6, 19, []⟩) ((w64 ((a0.vs.length : Int) - 1)), ([] : List Int)) o8 (stle (tR rfl (tR rfl (tR rfl tZ))) (hR rfl (hR rfl (hR rfl (hR rfl (hR rfl hZ))))) (kR rfl kZ) rfl (Nat.le_trans hv1 (lb rfl)) rfl rfl rfl (bB rfl rfl (bB rfl rfl (bB rfl rfl (bB rfl rfl (bB rfl rfl bZ))))) rfl rfl) hl2 (fun s2 n2 oo2 h2 ho2 => ?_)
     unfold m43_l0 at h2
     refine XC.seq <| XC.seq <| XC.region <| rM rfl rfl rfl <| rR rfl rfl rfl (RO.binInt rfl rfl rfl) <| XL.nil <| XQ.seq ?_
     refine XC.cond (b := (decide (0 ≤ s2.1))) rfl (fun c9 => ?_) (fun c9 => ?_)
     ·
      replace h2 := condT c9 h2
      refine XC.skip <| XQ.seq <| XC.seq <| XC.block <| XC.seq <| XC.region <| rM rfl rfl rfl <| rM rfl rfl rfl <| rR rfl rfl rfl (RO.loadOwn ag_22 rfl rfl rfl) <| rM rfl rfl rfl ?_
      refine bindK h2 (fun x10 hx10 h2 => ?_)
      refine rR rfl rfl rfl (RO.indexE (α := LV) sl_22 rfl (.d _) rfl hx10) <| rR rfl rfl rfl (RO.loadPelAgg ag_69 rfl rfl rfl) ?_
      refine bindK h2 (fun y11 h3 h2 => ?_)
      have ha12 : ExecOK Tryz.prog (some 4) m43_c0 ⟨[(3, .v (.one (.ptr 1 0))), (10, .v (.one (.fn 88 [(2, 0)]))), (11, .v (.one (dI s2.1))), (12, .v (.agg (cE x10)))], [(0, .cells 24 (cE a0)), (1, .cells 46 [dA 5 s2.2]), (2, .cells 22 [dS a0.vs]), (3, .obj (.deferred (some []))), (4, .loop .ready none [(3, .v (.one (.ptr 1 0))), (10, .v (.one (.fn 88 [(2, 0)])))] 23 #[11, 12] m43_c0 m43_c1 3)], [(5, some ⟨3, 1, (Enc.encL s2.2).length⟩)], 6, 23, []⟩ .normal ⟨[(3, .v (.one (.ptr 1 0))), (5, .v (.one (.ptr 6 0)))], [(0, .cells 24 (cE a0)), (1, .cells 46 [dA 5 s2.2]), (2, .cells 22 [dS a0.vs]), (3, .obj (.deferred (some []))), (4, .loop .ready none [(3, .v (.one (.ptr 1 0))), (10, .v (.one (.fn 88 [(2, 0)])))] 23 #[11, 12] m43_c0 m43_c1 3), (6, .cells 69 (cE x10))], [(5, some ⟨3, 1, (Enc.encL s2.2).length⟩)], 7, 23, []⟩ := by
       refine ExecOK.walk (fun w0 M V0 ro n Q hv3 hro3 hQn3 => ?_)
       refine XC.region <| XL.put rfl rfl (lb rfl) (OpOK.alloc z_69 rfl) <| XL.eff rfl rfl (OpOK.store ag_69 rfl rfl rfl rfl (lb rfl) rfl) <| XL.nil ?_
       exact XQ.of hQn3 (stle (tR rfl (tR rfl tZ)) (hR rfl (hR rfl (hR rfl (hR rfl (hR rfl (hR rfl hZ)))))) (kR rfl kZ) rfl (Nat.le_trans hv3 (lb rfl)) rfl rfl rfl (bB rfl rfl (bB rfl rfl (bB rfl rfl (bB rfl rfl (bB rfl rfl (bB rfl rfl bZ)))))) rfl rfl)
      have hb13 : ExecOK Tryz.prog (some 4) m43_c1 ⟨[(3, .v (.one (.ptr 1 0))), (5, .v (.one (.ptr 6 0)))], [(0, .cells 24 (cE a0)), (1, .cells 46 [dA 5 s2.2]), (2, .cells 22 [dS a0.vs]), (3, .obj (.deferred (some []))), (4, .loop .busy none [(3, .v (.one (.ptr 1 0))), (10, .v (.one (.fn 88 [(2, 0)])))] 23 #[11, 12] m43_c0 m43_c1 3), (6, .cells 69 (cE x10))], [(5, some ⟨3, 1, (Enc.encL s2.2).length⟩)], 7, 23, []⟩ .normal ⟨[], [(0, .cells 24 (cE a0)), (1, .cells 46 [dA 5 y11]), (2, .cells 22 [dS a0.vs]), (3, .obj (.deferred (some []))), (4, .loop .busy none [(3, .v (.one (.ptr 1 0))), (10, .v (.one (.fn 88 [(2, 0)])))] 23 #[11, 12] m43_c0 m43_c1 3)], [(5, some ⟨3, 1, (Enc.encL y11).length⟩)], 7, 23, []⟩ := by
       refine ExecOK.walk (fun w0 M V0 ro n Q hv3 hro3 hQn3 => ?_)
       refine XC.block <| XC.seq <| XC.region <| rR rfl rfl rfl (RO.fieldOwn fo_69_0 rfl) <| rR rfl rfl rfl (RO.loadOwn ag_3 rfl rfl rfl) <| rR rfl rfl rfl (RO.binInt rfl rfl rfl) <| XL.nil <| XQ.seq ?_
       refine XC.cond (b := (decide (x10.1 < 0))) rfl (fun c14 => ?_) (fun c14 => ?_)
       ·
        replace h3 := condT c14 h3
        refine XC.region <| rR rfl rfl rfl (RO.loadOwn ag_46 rfl rfl rfl) <| rR rfl rfl rfl (RO.fieldOwn fo_69_0 rfl) <| rR rfl rfl rfl (RO.loadOwn ag_3 rfl rfl rfl) <| rR rfl rfl rfl (RO.binInt rfl rfl rfl) <| XL.put rfl rfl (lb rfl) (OpOK.lit1E (α := Int) ((w64 ((-1) - x10.1))) sl_46 z_3 rfl rfl (lb rfl) (lb rfl) rfl rfl (.cons (.d _) .nil) rfl) ?_
        refine guardK h3 (fun g15 h3 => ?_)
        refine XL.put rfl rfl (lb rfl) (OpOK.appendE (α := Int) sl_46 el_3 rfl rfl rfl rfl rfl (.app _ _) g15) <| XL.eff rfl rfl (OpOK.store ag_46 rfl rfl rfl rfl (lb rfl) rfl) <| XL.nil <| XQ.inBlock ?_
        have e_ := Option.some.inj h3
        subst e_
        exact XQ.of hQn3 (stle tZ (hR rfl (hR rfl (hR rfl (hR rfl (hR rfl hZ))))) (kR rfl kZ) rfl (Nat.le_trans hv3 (lb rfl)) rfl rfl rfl (bB rfl rfl (bB rfl rfl (bB rfl rfl (bB rfl rfl (bB rfl rfl bZ))))) rfl rfl)
       ·
        replace h3 := condF c14 h3
        refine XC.skip <| XQ.inBlock ?_
        have e_ := Option.some.inj h3
        subst e_
        exact XQ.of hQn3 (stle tZ (hR rfl (hR rfl (hR rfl (hR rfl (hR rfl hZ))))) (kR rfl kZ) rfl (Nat.le_trans hv3 (lb rfl)) rfl rfl rfl (bB rfl rfl (bB rfl rfl (bB rfl rfl (bB rfl rfl (bB rfl rfl bZ))))) rfl rfl)
      refine XL.put rfl rfl (lb rfl) (OpOK.yield (jump := none) rfl rfl rfl rfl rfl (ExecOK.from ha12 (fun E hv => (stle (tR rfl (tR rfl (tR rfl (tR rfl tZ)))) (hR rfl (hR rfl (hR rfl (hR rfl (hR rfl hZ))))) (kR rfl kZ) rfl (Nat.le_trans hv (lb rfl)) rfl rfl rfl (bB rfl rfl (bB rfl rfl (bB rfl rfl (bB rfl rfl (bB rfl rfl bZ))))) rfl rfl))) rfl (ExecOK.from hb13 (fun E hv => (stle (tR rfl (tR rfl tZ)) (hR rfl (hR rfl (hR rfl (hR rfl (hR rfl (hR rfl hZ)))))) (kR rfl kZ) rfl (Nat.le_trans hv (lb rfl)) rfl rfl rfl (bB rfl rfl (bB rfl rfl (bB rfl rfl (bB rfl rfl (bB rfl rfl (bB rfl rfl bZ)))))) rfl rfl))) rfl rfl) ?_
      refine rR rfl rfl rfl (RO.not rfl) <| XL.nil <| XQ.seq ?_
      refine XC.cond rfl (fun h => nomatch h) (fun _ => ?_)
      refine XC.skip <| XQ.inBlock <| XQ.seq <| XC.region <| rM rfl rfl rfl <| rR rfl rfl rfl (RO.binInt rfl rfl rfl) <| rA rfl rfl rfl <| XL.nil ?_
      have e_ := Option.some.inj h2
      subst e_
      refine XQ.nextM ((w64 (s2.1 - 1)), y11) (stle (tR rfl (tR rfl (tR rfl tZ))) (hR rfl (hR rfl (hR rfl (hR rfl (hR rfl hZ))))) (kR rfl kZ) rfl (Nat.le_trans hv1 (lb rfl)) rfl rfl rfl (bB rfl rfl (bB rfl rfl (bB rfl rfl (bB rfl rfl (bB rfl rfl bZ))))) rfl rfl) ho2
     ·
      replace h2 := condF c9 h2
      refine XC.exit <| XQ.thenE <| XQ.thenE ?_
      have e_ := Option.some.inj h2
      subst e_
      have e_ : _ = _ := ho2
      subst e_
      exact XQ.joinX s2.2 (stle tZ (hR rfl (hR rfl (hR rfl (hR rfl (hR rfl hZ))))) (kR rfl kZ) rfl (Nat.le_trans hv1 (lb rfl)) rfl rfl rfl (bB rfl rfl (bB rfl rfl (bB rfl rfl (bB rfl rfl (bB rfl rfl bZ))))) rfl rfl) h1
    ·
     intro o7 h1
     refine XQ.blockX ?_
     have e_ := Option.some.inj h1
     subst e_
     exact hQ1 _ _ _ (.inl rfl) rfl (stle tZ (hR rfl (hR rfl (hR rfl (hR rfl (hR rfl hZ))))) (kR rfl kZ) rfl (Nat.le_trans hv1 (lb rfl)) rfl rfl rfl (bB rfl rfl (bB rfl rfl (bB rfl rfl (bB rfl rfl (bB rfl rfl bZ))))) rfl rfl)
   refine XC.exec (rangeFunc_out (e := .normal) rfl hc6 rfl (by intro h; cases h) rfl) rfl ?_
   refine XQ.inBlock <| XQ.seq <| XC.seq <| XC.region <| rR rfl rfl rfl (RO.loadOwn ag_46 rfl rfl rfl) <| rA rfl rfl rfl <| XL.nil <| XQ.seq <| XC.ret ?_
   have e_ := Option.some.inj h0
   subst e_
   exact XQ.retF (fun _ _ h => h) rfl (RAs.tmp rfl .nil) (.cons (.one (.app _ _ _)) .nil)
  ·
   replace h0 := condF c2 h0
   refine XC.skip <| XQ.seq <| XC.seq <| XC.region <| rR rfl rfl rfl (RO.loadOwn ag_46 rfl rfl rfl) <| rA rfl rfl rfl <| XL.nil <| XQ.seq <| XC.ret ?_
   have e_ := Option.some.inj h0
   subst e_
   exact XQ.retF (fun _ _ h => h) rfl (RAs.tmp rfl .nil) (.cons (.one (.nil _)) .nil)

def m44_l0 (a0 : Lvl) (s1 : (List Int) × Int) : Option (LO ((List Int) × Int) (((List Int)))) :=
  cond (decide (0 ≤ s1.2))
    (Option.bind (idx a0.vs s1.2) fun (x5 : LV) =>
  cond (decide (x5.1 < 0))
    (Option.bind (idx a0.vs s1.2) fun (x7 : LV) =>
  guardO (Nat.ble (s1.1.length + ([(w64 ((-1) - x7.1))]).length) 1000000000)
  (some (.next ((s1.1 ++ ([(w64 ((-1) - x7.1))])), (w64 (s1.2 - 1))))))
    (some (.next (s1.1, (w64 (s1.2 - 1))))))
    (some (.done s1.1))

/-- euclid/euclidref01.Metas -/
def m44 (a0 : Lvl) : Option ((List Int)) :=
  guardO (Nat.ble a0.vs.length 100000)
  (cond (!(validB a0))
    (some ([] : List Int))
    (Option.bind (loopN (m44_l0 a0) FUEL (([] : List Int), (w64 ((a0.vs.length : Int) - 1)))) (fun (o3 : (List Int)) => some o3)))

set_option maxRecDepth 100000 in
set_option maxHeartbeats 8000000 in
theorem m44_ok (a0 : Lvl) (r : (List Int)) (h0 : m44 a0 = some r) : Fun Tryz.prog 44 [.agg (cE a0)] (resOf [.one (dS r)]) := by
  unfold m44 at h0
  refine Fun.of_bodyM 9 35 Tryz.func44 rfl en_44 rfl (lb rfl) (fun S w => ?_)
  simp only [entry]
  refine XC.seq <| XC.region <| XL.put rfl rfl (lb rfl) (OpOK.box rfl) <| rA rfl rfl rfl <| XL.nil <| XQ.seq <| XC.seq <| XC.region <| rA rfl rfl rfl <| XL.nil <| XQ.seq <| XC.seq <| XC.seq <| XC.region ?_
  refine rR rfl rfl rfl (RO.loadOwnAgg ag_24 rfl rfl rfl rfl) ?_
  refine guardK h0 (fun g1 h0 => ?_)
  refine XL.put rfl rfl (lb rfl) (OpOK.callFun (validR_fun a0 (Nat.le_of_ble_eq_true g1)) rfl (.cons (.agg (.cons (.d _) (.cons (.d _) .nil))) .nil)) ?_
  refine rR rfl rfl rfl (RO.not rfl) <| XL.nil <| XQ.seq ?_
  refine XC.cond (b := (!(validB a0))) rfl (fun c2 => ?_) (fun c2 => ?_)
  ·
   replace h0 := condT c2 h0
   refine XC.seq <| XC.region <| rM rfl rfl rfl <| rA rfl rfl rfl <| XL.nil <| XQ.seq <| XC.ret ?_
   have e_ := Option.some.inj h0
   subst e_
   exact XQ.retF (fun _ _ h => h) rfl (RAs.tmp rfl .nil) (.cons (.one (.nil _)) .nil)
  ·
   replace h0 := condF c2 h0
   refine XC.skip <| XQ.seq <| XC.seq <| XC.seq <| XC.region <| rR rfl rfl rfl (RO.fieldOwn fo_24_1 rfl) <| rR rfl rfl rfl (RO.loadOwn ag_22 rfl rfl rfl) <| rR rfl rfl rfl (RO.lenE (α := LV) sl_22 rfl (.d _)) <| rR rfl rfl rfl (RO.binInt rfl rfl rfl) <| rA rfl rfl rfl <| XL.nil <| XQ.seq <| XC.block ?_
   refine XC.joinX 0 (fun (o3 : (List Int)) => ⟨[(3, .v (.one (dA 1 o3)))], [(0, .cells 24 (cE a0))], [(1, some ⟨3, 1, (Enc.encL o3).length⟩)], 2, 35, []⟩) (fun (o3 : (List Int)) => (some o3) = some r) ?_ ?_
   ·
    refine XC.adoptT (t := 3) 3 1 rfl ?_
    refine bindK h0 (fun o4 hl1 h0 => ?_)
    refine XC.loopM (m44_l0 a0) (fun s1 => ⟨[(1, .v (.one (.ptr 0 0))), (3, .v (.one (dA 1 s1.1))), (4, .v (.one (dI s1.2)))], [(0, .cells 24 (cE a0))], [(1, some ⟨3, 1, (Enc.encL s1.1).length⟩)], 2, 35, []⟩) (([] : List Int), (w64 ((a0.vs.length : Int) - 1))) o4 (stle (tR rfl (tR rfl (tR rfl tZ))) (hR rfl hZ) (kR rfl kZ) rfl (Nat.zero_le _) rfl rfl rfl (bB rfl rfl bZ) rfl rfl) hl1 (fun s1 n1 oo1 h1 ho1 => ?_)
    unfold m44_l0 at h1
    refine XC.seq <| XC.seq <| XC.region <| rM rfl rfl rfl <| rR rfl rfl rfl (RO.binInt rfl rfl rfl) <| XL.nil <| XQ.seq ?_
    refine XC.cond (b := (decide (0 ≤ s1.2))) rfl (fun c5 => ?_) (fun c5 => ?_)
    ·
     replace h1 := condT c5 h1
     refine XC.skip <| XQ.seq <| XC.seq <| XC.block <| XC.seq <| XC.region <| rR rfl rfl rfl (RO.fieldOwn fo_24_1 rfl) <| rR rfl rfl rfl (RO.loadOwn ag_22 rfl rfl rfl) <| rM rfl rfl rfl ?_
     refine bindK h1 (fun x6 hx6 h1 => ?_)
     refine rR rfl rfl rfl (RO.indexE (α := LV) sl_22 rfl (.d _) rfl hx6) <| rR rfl rfl rfl (RO.fieldPel fo_69_0 rfl) <| rR rfl rfl rfl (RO.loadPel ag_3 rfl rfl) <| rR rfl rfl rfl (RO.binInt rfl rfl rfl) <| XL.nil <| XQ.seq ?_
     refine XC.cond (b := (decide (x6.1 < 0))) rfl (fun c7 => ?_) (fun c7 => ?_)
     ·
      replace h1 := condT c7 h1
      refine XC.region <| rM rfl rfl rfl <| rR rfl rfl rfl (RO.fieldOwn fo_24_1 rfl) <| rR rfl rfl rfl (RO.loadOwn ag_22 rfl rfl rfl) <| rM rfl rfl rfl ?_
      refine bindK h1 (fun x8 hx8 h1 => ?_)
      refine rR rfl rfl rfl (RO.indexE (α := LV) sl_22 rfl (.d _) rfl hx8) <| rR rfl rfl rfl (RO.fieldPel fo_69_0 rfl) <| rR rfl rfl rfl (RO.loadPel ag_3 rfl rfl) <| rR rfl rfl rfl (RO.binInt rfl rfl rfl) <| XL.put rfl rfl (lb rfl) (OpOK.lit1E (α := Int) ((w64 ((-1) - x8.1))) sl_46 z_3 rfl rfl (lb rfl) (lb rfl) rfl rfl (.cons (.d _) .nil) rfl) ?_
      refine guardK h1 (fun g9 h1 => ?_)
      refine XL.put rfl rfl (lb rfl) (OpOK.appendE (α := Int) sl_46 el_3 rfl rfl rfl rfl rfl (.app _ _) g9) <| rA rfl rfl rfl <| XL.nil <| XQ.inBlock <| XQ.seq <| XC.region <| rM rfl rfl rfl <| rR rfl rfl rfl (RO.binInt rfl rfl rfl) <| rA rfl rfl rfl <| XL.nil ?_
      have e_ := Option.some.inj h1
      subst e_
      refine XQ.nextM ((s1.1 ++ ([(w64 ((-1) - x8.1))])), (w64 (s1.2 - 1))) (stle (tR rfl (tR rfl (tR rfl tZ))) (hR rfl hZ) (kR rfl kZ) rfl (Nat.zero_le _) rfl rfl rfl (bB rfl rfl bZ) rfl rfl) ho1
     ·
      replace h1 := condF c7 h1
      refine XC.skip <| XQ.inBlock <| XQ.seq <| XC.region <| rM rfl rfl rfl <| rR rfl rfl rfl (RO.binInt rfl rfl rfl) <| rA rfl rfl rfl <| XL.nil ?_
      have e_ := Option.some.inj h1
      subst e_
      refine XQ.nextM (s1.1, (w64 (s1.2 - 1))) (stle (tR rfl (tR rfl (tR rfl tZ))) (hR rfl hZ) (kR rfl kZ) rfl (Nat.zero_le _) rfl rfl rfl (bB rfl rfl bZ) rfl rfl) ho1
    ·
     replace h1 := condF c5 h1
     refine XC.exit <| XQ.thenE <| XQ.thenE ?_
     have e_ := Option.some.inj h1
     subst e_
     have e_ : _ = _ := ho1
     subst e_
     exact XQ.joinX s1.1 (stle (tR rfl tZ) (hR rfl hZ) (kR rfl kZ) rfl (Nat.zero_le _) rfl rfl rfl (bB rfl rfl bZ) rfl rfl) h0
   ·
    intro o3 h0
    refine XQ.blockX <| XQ.seq <| XC.seq <| XC.region <| rM rfl rfl rfl <| rA rfl rfl rfl <| XL.nil <| XQ.seq <| XC.ret ?_
    have e_ := Option.some.inj h0
    subst e_
    exact XQ.retF (fun _ _ h => h) rfl (RAs.tmp rfl .nil) (.cons (.one (.app _ _ _)) .nil)
end Go.Proofs.YtcapifnaceegmaaGreatDoor
