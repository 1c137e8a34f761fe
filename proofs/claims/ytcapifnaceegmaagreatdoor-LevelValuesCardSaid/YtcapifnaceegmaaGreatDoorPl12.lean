/- Mirrors of layer 1: Params, Metas and their references. Mirrors of layer 1: Eval and its reference, Equal. Mirrors of layer 1: the law of Eval, Params and Metas. Plain laws of layer 1: Params, Metas, Eval and their references; the law of Eval, Params and Metas. -/
import Derived.Test.YtcapifnaceegmaaGreatDoorMa
import Derived.Test.YtcapifnaceegmaaGreatDoorAw
import Derived.Test.YtcapifnaceegmaaGreatDoorPb
namespace Go.Proofs.YtcapifnaceegmaaGreatDoor
section
open Go.RowKit Go.Shelf
set_option linter.unusedSimpArgs false
set_option linter.unusedVariables false

theorem ag_46 : tyAgg Tryz.prog 46 = some (false, 1) := by kernel_rfl
theorem z_3 : tyZero Tryz.prog 3 = some [.int .i64 0] := by kernel_rfl
theorem z_46 : tyZero Tryz.prog 46 = some [.slice none 0 0] := by kernel_rfl
theorem el_3 : tyElem Tryz.prog 3 = some (1, 8) := by kernel_rfl
theorem en_40 : Enters Tryz.prog 40 := enters_of Tryz.func40 (by kernel_rfl) rfl
theorem en_41 : Enters Tryz.prog 41 := enters_of Tryz.func41 (by kernel_rfl) rfl
theorem en_43 : Enters Tryz.prog 43 := enters_of Tryz.func43 (by kernel_rfl) rfl
theorem en_44 : Enters Tryz.prog 44 := enters_of Tryz.func44 (by kernel_rfl) rfl
theorem en_65 : Enters Tryz.prog 65 := enters_of Tryz.func65 (by kernel_rfl) rfl
theorem en_88 : Enters Tryz.prog 88 := enters_of Tryz.func88 (by kernel_rfl) rfl
/-- euclid/level.Params -/
def m40 (a0 : Lvl) : Option Int :=
  Option.bind (guardO (Nat.ble a0.vs.length 100000)
  (cond (validB a0)
    (some (decide (0 < (a0.vs.length : Int))))
    (some false))) (fun (v1 : Bool) => cond v1
    (Option.bind (idx a0.vs (w64 ((a0.vs.length : Int) - 1))) fun (x3 : LV) =>
  some (max 0 (w64 (x3.1 + 1))))
    (some 0))

set_option maxRecDepth 100000 in
set_option maxHeartbeats 8000000 in
theorem m40_ok (a0 : Lvl) (r : Int) (h0 : m40 a0 = some r) : Fun Tryz.prog 40 [.agg (cE a0)] (resOf [.one (dI r)]) := by
  unfold m40 at h0
  refine Fun.of_bodyM 9 22 Tryz.func40 rfl en_40 rfl (lb rfl) (fun S w => ?_)
  simp only [entry]
  refine XC.seq <| XC.region <| XL.put rfl rfl (lb rfl) (OpOK.box rfl) <| rA rfl rfl rfl <| XL.nil <| XQ.seq <| XC.seq <| XC.seq <| XC.region <| rR rfl rfl rfl (RO.fieldOwn fo_24_1 rfl) <| rR rfl rfl rfl (RO.loadOwn ag_22 rfl rfl rfl) <| rR rfl rfl rfl (RO.lenE (α := LV) sl_22 rfl (.d _)) <| rA rfl rfl rfl <| XL.nil ?_
  refine XQ.seq <| XC.seq ?_
  refine XC.joinR (fun (v1 : Bool) => ⟨[(1, .v (.one (.ptr 0 0))), (3, .v (.one (dI (a0.vs.length : Int)))), (12, .v (.one (dB v1)))], [(0, .cells 24 (cE a0))], [], 1, 22, []⟩) (fun (v1 : Bool) => (cond v1
      (Option.bind (idx a0.vs (w64 ((a0.vs.length : Int) - 1))) fun (x3 : LV) =>
    some (max 0 (w64 (x3.1 + 1))))
      (some 0)) = some r) ?_ ?_
  ·
   refine bindK h0 (fun v_ h1 h0 => ?_)
   refine XC.region <| rR rfl rfl rfl (RO.loadOwnAgg ag_24 rfl rfl rfl rfl) ?_
   refine guardK h1 (fun g2 h1 => ?_)
   refine XL.put rfl rfl (lb rfl) (OpOK.callFun (valid_fun a0 (Nat.le_of_ble_eq_true g2)) rfl (.cons (.agg (.cons (.d _) (.cons (.d _) .nil))) .nil)) ?_
   refine rM rfl rfl rfl ?_
   refine XL.case (d := 9) (c := (validB a0)) rfl (fun c3 => ?_) (fun c3 => ?_)
   ·
    replace h1 := condT c3 h1
    refine rM rfl rfl rfl <| rR rfl rfl rfl (RO.binInt rfl rfl rfl) <| rR rfl rfl rfl (RO.pickT rfl rfl) <| XL.nil ?_
    have e_ := Option.some.inj h1
    subst e_
    exact XQ.joinR (decide (0 < (a0.vs.length : Int))) (stle (tR rfl (tR rfl (tR rfl tZ))) (hR rfl hZ) kZ rfl (Nat.zero_le _) rfl rfl rfl (bB rfl rfl bZ) rfl rfl) h0
   ·
    replace h1 := condF c3 h1
    refine XL.no rfl rfl <| XL.no rfl rfl <| rR rfl rfl rfl (RO.pickF rfl rfl) <| XL.nil ?_
    have e_ := Option.some.inj h1
    subst e_
    exact XQ.joinR false (stle (tR rfl (tR rfl (tR rfl tZ))) (hR rfl hZ) kZ rfl (Nat.zero_le _) rfl rfl rfl (bB rfl rfl bZ) rfl rfl) h0
  ·
   intro v1 h0
   refine XQ.seq ?_
   refine XC.cond (b := v1) rfl (fun c4 => ?_) (fun c4 => ?_)
   ·
    replace h0 := condT c4 h0
    refine XC.seq <| XC.region <| rR rfl rfl rfl (RO.fieldOwn fo_24_1 rfl) <| rR rfl rfl rfl (RO.loadOwn ag_22 rfl rfl rfl) <| rM rfl rfl rfl <| rR rfl rfl rfl (RO.binInt rfl rfl rfl) ?_
    refine bindK h0 (fun x5 hx5 h0 => ?_)
    refine rR rfl rfl rfl (RO.indexE (α := LV) sl_22 rfl (.d _) rfl hx5) <| rR rfl rfl rfl (RO.fieldPel fo_69_0 rfl) <| rR rfl rfl rfl (RO.loadPel ag_3 rfl rfl) <| rR rfl rfl rfl (RO.binInt rfl rfl rfl) <| rR rfl rfl rfl (RO.max2 rfl rfl) <| rA rfl rfl rfl <| XL.nil <| XQ.seq <| XC.ret ?_
    have e_ := Option.some.inj h0
    subst e_
    exact XQ.retF (fun _ _ h => h) rfl (RAs.tmp rfl .nil) (.cons (.one (.d _)) .nil)
   ·
    replace h0 := condF c4 h0
    refine XC.skip <| XQ.seq <| XC.seq <| XC.region <| rA rfl rfl rfl <| XL.nil <| XQ.seq <| XC.ret ?_
    have e_ := Option.some.inj h0
    subst e_
    exact XQ.retF (fun _ _ h => h) rfl (RAs.tmp rfl .nil) (.cons (.one (.d _)) .nil)

/-- euclid/euclidref01.Params -/
def m41 (a0 : Lvl) : Option Int :=
  Option.bind (guardO (Nat.ble a0.vs.length 100000)
  (cond (!(validB a0))
    (some true)
    (some ((a0.vs.length : Int) == 0)))) (fun (v1 : Bool) => cond v1
    (some 0)
    (Option.bind (idx a0.vs (w64 ((a0.vs.length : Int) - 1))) fun (x3 : LV) =>
  some (max 0 (w64 (x3.1 + 1)))))

set_option maxRecDepth 100000 in
set_option maxHeartbeats 8000000 in
theorem m41_ok (a0 : Lvl) (r : Int) (h0 : m41 a0 = some r) : Fun Tryz.prog 41 [.agg (cE a0)] (resOf [.one (dI r)]) := by
  unfold m41 at h0
  refine Fun.of_bodyM 9 23 Tryz.func41 rfl en_41 rfl (lb rfl) (fun S w => ?_)
  simp only [entry]
  refine XC.seq <| XC.region <| XL.put rfl rfl (lb rfl) (OpOK.box rfl) <| rA rfl rfl rfl <| XL.nil <| XQ.seq <| XC.seq <| XC.seq ?_
  refine XC.joinR (fun (v1 : Bool) => ⟨[(1, .v (.one (.ptr 0 0))), (11, .v (.one (dB v1)))], [(0, .cells 24 (cE a0))], [], 1, 23, []⟩) (fun (v1 : Bool) => (cond v1
      (some 0)
      (Option.bind (idx a0.vs (w64 ((a0.vs.length : Int) - 1))) fun (x3 : LV) =>
    some (max 0 (w64 (x3.1 + 1))))) = some r) ?_ ?_
  ·
   refine bindK h0 (fun v_ h1 h0 => ?_)
   refine XC.region <| rR rfl rfl rfl (RO.loadOwnAgg ag_24 rfl rfl rfl rfl) ?_
   refine guardK h1 (fun g2 h1 => ?_)
   refine XL.put rfl rfl (lb rfl) (OpOK.callFun (validR_fun a0 (Nat.le_of_ble_eq_true g2)) rfl (.cons (.agg (.cons (.d _) (.cons (.d _) .nil))) .nil)) ?_
   refine rR rfl rfl rfl (RO.not rfl) <| rM rfl rfl rfl ?_
   refine XL.case (d := 6) (c := (!(validB a0))) rfl (fun c3 => ?_) (fun c3 => ?_)
   ·
    replace h1 := condT c3 h1
    refine XL.no rfl rfl <| XL.no rfl rfl <| XL.no rfl rfl <| XL.no rfl rfl <| rR rfl rfl rfl (RO.pickT rfl rfl) <| XL.nil ?_
    have e_ := Option.some.inj h1
    subst e_
    exact XQ.joinR true (stle (tR rfl (tR rfl tZ)) (hR rfl hZ) kZ rfl (Nat.zero_le _) rfl rfl rfl (bB rfl rfl bZ) rfl rfl) h0
   ·
    replace h1 := condF c3 h1
    refine rR rfl rfl rfl (RO.fieldOwn fo_24_1 rfl) <| rR rfl rfl rfl (RO.loadOwn ag_22 rfl rfl rfl) <| rR rfl rfl rfl (RO.lenE (α := LV) sl_22 rfl (.d _)) <| rR rfl rfl rfl (RO.binInt rfl rfl rfl) <| rR rfl rfl rfl (RO.pickF rfl rfl) <| XL.nil ?_
    have e_ := Option.some.inj h1
    subst e_
    exact XQ.joinR ((a0.vs.length : Int) == 0) (stle (tR rfl (tR rfl tZ)) (hR rfl hZ) kZ rfl (Nat.zero_le _) rfl rfl rfl (bB rfl rfl bZ) rfl rfl) h0
  ·
   intro v1 h0
   refine XQ.seq ?_
   refine XC.cond (b := v1) rfl (fun c4 => ?_) (fun c4 => ?_)
   ·
    replace h0 := condT c4 h0
    refine XC.seq <| XC.region <| rA rfl rfl rfl <| XL.nil <| XQ.seq <| XC.ret ?_
    have e_ := Option.some.inj h0
    subst e_
    exact XQ.retF (fun _ _ h => h) rfl (RAs.tmp rfl .nil) (.cons (.one (.d _)) .nil)
   ·
    replace h0 := condF c4 h0
    refine XC.skip <| XQ.seq <| XC.seq <| XC.region <| rR rfl rfl rfl (RO.fieldOwn fo_24_1 rfl) <| rR rfl rfl rfl (RO.loadOwn ag_22 rfl rfl rfl) <| rR rfl rfl rfl (RO.fieldOwn fo_24_1 rfl) <| rR rfl rfl rfl (RO.loadOwn ag_22 rfl rfl rfl) <| rR rfl rfl rfl (RO.lenE (α := LV) sl_22 rfl (.d _)) <| rR rfl rfl rfl (RO.binInt rfl rfl rfl) ?_
    refine bindK h0 (fun x5 hx5 h0 => ?_)
    refine rR rfl rfl rfl (RO.indexE (α := LV) sl_22 rfl (.d _) rfl hx5) <| rR rfl rfl rfl (RO.fieldPel fo_69_0 rfl) <| rR rfl rfl rfl (RO.loadPel ag_3 rfl rfl) <| rR rfl rfl rfl (RO.binInt rfl rfl rfl) <| rR rfl rfl rfl (RO.max2 rfl rfl) <| rA rfl rfl rfl <| XL.nil <| XQ.seq <| XC.ret ?_
    have e_ := Option.some.inj h0
    subst e_
    exact XQ.retF (fun _ _ h => h) rfl (RAs.tmp rfl .nil) (.cons (.one (.d _)) .nil)

noncomputable def m43_c0 : Code := (cA (cA (cB (cA (cB (cA (cB (cB (bodyC Tryz.f43)))))))))

noncomputable def m43_c1 : Code := (cB (cA (cB (cA (cB (cA (cB (cB (bodyC Tryz.f43)))))))))

def m43_l0 (a0 : Lvl) (s2 : Int × (List Int)) : Option (LO (Int × (List Int)) (((List Int)))) :=
  cond (decide (0 ≤ s2.1))
    (Option.bind (idx a0.vs s2.1) fun (x9 : LV) =>
  Option.bind (cond (decide (x9.1 < 0))
    (guardO (Nat.ble (s2.2.length + ([(w64 ((-1) - x9.1))]).length) 1000000000)
  (some (s2.2 ++ ([(w64 ((-1) - x9.1))]))))
    (some s2.2)) (fun (y10 : (List Int)) => some (.next ((w64 (s2.1 - 1)), y10))))
    (some (.done s2.2))

/-- euclid/level.Metas -/
def m43 (a0 : Lvl) : Option ((List Int)) :=
  guardO (Nat.ble a0.vs.length 100000)
  (cond (validB a0)
    (Option.bind (some ()) (fun (y3 : Unit) => Option.bind (Option.bind (loopN (m43_l0 a0) FUEL ((w64 ((a0.vs.length : Int) - 1)), ([] : List Int))) (fun (o7 : (List Int)) => some o7)) (fun (y5 : (List Int)) => some y5)))
    (some ([] : List Int)))

set_option maxRecDepth 100000 in
set_option maxHeartbeats 8000000 in
theorem m43_ok (a0 : Lvl) (r : (List Int)) (h0 : m43 a0 = some r) : Fun Tryz.prog 43 [.agg (cE a0)] (resOf [.one (dS r)]) := by
  unfold m43 at h0
  refine Fun.of_bodyM 9 23 Tryz.func43 rfl en_43 rfl (lb rfl) (fun S w => ?_)
  simp only [entry]
  refine XC.seq <| XC.region <| XL.put rfl rfl (lb rfl) (OpOK.box rfl) <| rA rfl rfl rfl <| XL.nil <| XQ.seq <| XC.seq <| XC.region <| XL.put rfl rfl (lb rfl) (OpOK.alloc z_46 rfl) <| XL.nil <| XQ.seq <| XC.seq <| XC.seq <| XC.region ?_
  refine rR rfl rfl rfl (RO.loadOwnAgg ag_24 rfl rfl rfl rfl) ?_
  refine guardK h0 (fun g1 h0 => ?_)
  refine XL.put rfl rfl (lb rfl) (OpOK.callFun (valid_fun a0 (Nat.le_of_ble_eq_true g1)) rfl (.cons (.agg (.cons (.d _) (.cons (.d _) .nil))) .nil)) ?_
  refine XL.nil <| XQ.seq ?_
  refine XC.cond (b := (validB a0)) rfl (fun c2 => ?_) (fun c2 => ?_)
  ·
   replace h0 := condT c2 h0
   refine XC.seq <| XC.region <| rR rfl rfl rfl (RO.fieldOwn fo_24_1 rfl) <| rR rfl rfl rfl (RO.loadOwn ag_22 rfl rfl rfl) ?_
   refine bindK h0 (fun y3 h1 h0 => ?_)
   have hc4 : CallM Tryz.prog 65 [.one (dS a0.vs)] ⟨[(0, .cells 24 (cE a0)), (1, .cells 46 [dN])], [], 2⟩ (resOf [.one (.fn 88 [(2, 0)])]) ⟨[(0, .cells 24 (cE a0)), (1, .cells 46 [dN]), (2, .cells 22 [dS a0.vs])], [], 3⟩ := by
    refine CallM.of_bodyD ⟨[(2, .v (.one (.fn 88 [(2, 0)])))], [(0, .cells 24 (cE a0)), (1, .cells 46 [dN]), (2, .cells 22 [dS a0.vs])], [], 3, 4, []⟩ rfl rfl en_65 (lb rfl) rfl (RAs.tmp rfl .nil) (fun w0 M V0 Q hv1 hQ1 => ?_)
    simp only [entry]
    refine XC.seq <| XC.region <| XL.put rfl rfl (lb rfl) (OpOK.box rfl) <| rA rfl rfl rfl <| XL.nil <| XQ.seq <| XC.seq <| XC.region <| rR rfl rfl rfl (RO.makeFunc1 rfl) <| rA rfl rfl rfl <| XL.nil <| XQ.seq <| XC.ret ?_
    have e_ := Option.some.inj h1
    subst e_
    exact hQ1 _ _ _ (.inr rfl) rfl (stle (tR rfl tZ) (hR rfl (hR rfl (hR rfl hZ))) kZ rfl (Nat.le_trans hv1 (lb rfl)) rfl rfl rfl (bB rfl rfl (bB rfl rfl (bB rfl rfl bZ))) rfl rfl)
   refine XL.put rfl rfl (lb rfl) (OpOK.callW rfl rfl rfl hc4 rfl (hR rfl (hR rfl hZ)) kZ) <| XL.nil <| XQ.seq <| XC.block <| XC.less (st' := ⟨[(3, .v (.one (.ptr 1 0))), (10, .v (.one (.fn 88 [(2, 0)])))], [(0, .cells 24 (cE a0)), (1, .cells 46 [dN]), (2, .cells 22 [dS a0.vs])], [], 3, 23, []⟩) (stle (tR rfl (tR rfl tZ)) (hR rfl (hR rfl (hR rfl hZ))) kZ rfl (Nat.zero_le _) rfl rfl rfl (bB rfl rfl (bB rfl rfl (bB rfl rfl bZ))) rfl rfl) ?_
   refine bindK h0 (fun y5 h1 h0 => ?_)
   have hc6 : CallM Tryz.prog 88 [.one (.yld 4), .one (.ptr 2 0)] ⟨[(4, .loop .ready none [(3, .v (.one (.ptr 1 0))), (10, .v (.one (.fn 88 [(2, 0)])))] 23 #[11, 12] m43_c0 m43_c1 3), (3, .obj (.deferred (some []))), (0, .cells 24 (cE a0)), (1, .cells 46 [dN]), (2, .cells 22 [dS a0.vs])], [], 5⟩ (resOf []) ⟨[(0, .cells 24 (cE a0)), (1, .cells 46 [dA 5 y5]), (2, .cells 22 [dS a0.vs]), (3, .obj (.deferred (some []))), (4, .loop .ready none [(3, .v (.one (.ptr 1 0))), (10, .v (.one (.fn 88 [(2, 0)])))] 23 #[11, 12] m43_c0 m43_c1 3)], [(5, some ⟨3, 1, (Enc.encL y5).length⟩)], 6⟩ := by
    refine CallM.of_bodyD ⟨[], [(0, .cells 24 (cE a0)), (1, .cells 46 [dA 5 y5]), (2, .cells 22 [dS a0.vs]), (3, .obj (.deferred (some []))), (4, .loop .ready none [(3, .v (.one (.ptr 1 0))), (10, .v (.one (.fn 88 [(2, 0)])))] 23 #[11, 12] m43_c0 m43_c1 3)], [(5, some ⟨3, 1, (Enc.encL y5).length⟩)], 6, 19, []⟩ rfl rfl en_88 (lb rfl) rfl .nil (fun w0 M V0 Q hv1 hQ1 => ?_)
    simp only [entry]
    refine XC.seq <| XC.region <| rR rfl rfl rfl (RO.loadOwn ag_22 rfl rfl rfl) <| rR rfl rfl rfl (RO.lenE (α := LV) sl_22 rfl (.d _)) <| rR rfl rfl rfl (RO.binInt rfl rfl rfl) <| rA rfl rfl rfl <| XL.nil <| XQ.seq <| XC.block ?_
    refine XC.joinX 0 (fun (o7 : (List Int)) => ⟨[], [(0, .cells 24 (cE a0)), (1, .cells 46 [dA 5 o7]), (2, .cells 22 [dS a0.vs]), (3, .obj (.deferred (some []))), (4, .loop .ready none [(3, .v (.one (.ptr 1 0))), (10, .v (.one (.fn 88 [(2, 0)])))] 23 #[11, 12] m43_c0 m43_c1 3)], [(5, some ⟨3, 1, (Enc.encL o7).length⟩)], 6, 19, []⟩) (fun (o7 : (List Int)) => (some o7) = some y5) ?_ ?_
    ·
     refine XC.adoptC (i := 1) (off := 0) 3 1 rfl rfl ?_
     refine bindK h1 (fun o8 hl2 h1 => ?_)
     refine XC.loopM (m43_l0 a0) (fun s2 => ⟨[(0, .v (.one (.yld 4))), (1, .v (.one (.ptr 2 0))), (3, .v (.one (dI s2.1)))], [(0, .cells 24 (cE a0)), (1, .cells 46 [dA 5 s2.2]), (2, .cells 22 [dS a0.vs]), (3, .obj (.deferred (some []))), (4, .loop .ready none [(3, .v (.one (.ptr 1 0))), (10, .v (.one (.fn 88 [(2, 0)])))] 23 #[11, 12] m43_c0 m43_c1 3)], [(5, some ⟨3, 1, (Enc.encL s2.2).length⟩)], 6, 19, []⟩) ((w64 ((a0.vs.length : Int) - 1)), ([] : List Int)) o8 (stle (tR rfl (tR rfl (tR rfl tZ))) (hR rfl (hR rfl (hR rfl (hR rfl (hR rfl hZ))))) (kR rfl kZ) rfl (Nat.le_trans hv1 (lb rfl)) rfl rfl rfl (bB rfl rfl (bB rfl rfl (bB rfl rfl (bB rfl rfl (bB rfl rfl bZ))))) rfl rfl) hl2 (fun s2 n2 oo2 h2 ho2 => ?_)
     unfold m43_l0 at h2
     refine XC.seq <| XC.seq <| XC.region <| rM rfl rfl rfl <| rR rfl rfl rfl (RO.binInt rfl rfl rfl) <| XL.nil <| XQ.seq ?_
     refine XC.cond (b := (decide (0 ≤ s2.1))) rfl (fun c9 => ?_) (fun c9 => ?_)
     ·
      replace h2 := condT c9 h2
      refine XC.skip <| XQ.seq <| XC.seq <| XC.block <| XC.seq <| XC.region <| rM rfl rfl rfl <| rM rfl rfl rfl <| rR rfl rfl rfl (RO.loadOwn ag_22 rfl rfl rfl) <| rM rfl rfl rfl ?_
      refine bindK h2 (fun x10 hx10 h2 => ?_)
      refine rR rfl rfl rfl (RO.indexE (α := LV) sl_22 rfl (.d _) rfl hx10) <| rR rfl rfl rfl (RO.loadPelAgg ag_69 rfl rfl rfl) ?_
      refine bindK h2 (fun y11 h3 h2 => ?_)
      have ha12 : ExecOK Tryz.prog (some 4) m43_c0 ⟨[(3, .v (.one (.ptr 1 0))), (10, .v (.one (.fn 88 [(2, 0)]))), (11, .v (.one (dI s2.1))), (12, .v (.agg (cE x10)))], [(0, .cells 24 (cE a0)), (1, .cells 46 [dA 5 s2.2]), (2, .cells 22 [dS a0.vs]), (3, .obj (.deferred (some []))), (4, .loop .ready none [(3, .v (.one (.ptr 1 0))), (10, .v (.one (.fn 88 [(2, 0)])))] 23 #[11, 12] m43_c0 m43_c1 3)], [(5, some ⟨3, 1, (Enc.encL s2.2).length⟩)], 6, 23, []⟩ .normal ⟨[(3, .v (.one (.ptr 1 0))), (5, .v (.one (.ptr 6 0)))], [(0, .cells 24 (cE a0)), (1, .cells 46 [dA 5 s2.2]), (2, .cells 22 [dS a0.vs]), (3, .obj (.deferred (some []))), (4, .loop .ready none [(3, .v (.one (.ptr 1 0))), (10, .v (.one (.fn 88 [(2, 0)])))] 23 #[11, 12] m43_c0 m43_c1 3), (6, .cells 69 (cE x10))], [(5, some ⟨3, 1, (Enc.encL s2.2).length⟩)], 7, 23, []⟩ := by
       refine ExecOK.walk (fun w0 M V0 ro n Q hv3 hro3 hQn3 => ?_)
       refine XC.region <| XL.put rfl rfl (lb rfl) (OpOK.alloc z_69 rfl) <| XL.eff rfl rfl (OpOK.store ag_69 rfl rfl rfl rfl (lb rfl) rfl) <| XL.nil ?_
       exact XQ.of hQn3 (stle (tR rfl (tR rfl tZ)) (hR rfl (hR rfl (hR rfl (hR rfl (hR rfl (hR rfl hZ)))))) (kR rfl kZ) rfl (Nat.le_trans hv3 (lb rfl)) rfl rfl rfl (bB rfl rfl (bB rfl rfl (bB rfl rfl (bB rfl rfl (bB rfl rfl (bB rfl rfl bZ)))))) rfl rfl)
      have hb13 : ExecOK Tryz.prog (some 4) m43_c1 ⟨[(3, .v (.one (.ptr 1 0))), (5, .v (.one (.ptr 6 0)))], [(0, .cells 24 (cE a0)), (1, .cells 46 [dA 5 s2.2]), (2, .cells 22 [dS a0.vs]), (3, .obj (.deferred (some []))), (4, .loop .busy none [(3, .v (.one (.ptr 1 0))), (10, .v (.one (.fn 88 [(2, 0)])))] 23 #[11, 12] m43_c0 m43_c1 3), (6, .cells 69 (cE x10))], [(5, some ⟨3, 1, (Enc.encL s2.2).length⟩)], 7, 23, []⟩ .normal ⟨[], [(0, .cells 24 (cE a0)), (1, .cells 46 [dA 5 y11]), (2, .cells 22 [dS a0.vs]), (3, .obj (.deferred (some []))), (4, .loop .busy none [(3, .v (.one (.ptr 1 0))), (10, .v (.one (.fn 88 [(2, 0)])))] 23 #[11, 12] m43_c0 m43_c1 3)], [(5, some ⟨3, 1, (Enc.encL y11).length⟩)], 7, 23, []⟩ := by
       refine ExecOK.walk (fun w0 M V0 ro n Q hv3 hro3 hQn3 => ?_)
       refine XC.block <| XC.seq <| XC.region <| rR rfl rfl rfl (RO.fieldOwn fo_69_0 rfl) <| rR rfl rfl rfl (RO.loadOwn ag_3 rfl rfl rfl) <| rR rfl rfl rfl (RO.binInt rfl rfl rfl) <| XL.nil <| XQ.seq ?_
       refine XC.cond (b := (decide (x10.1 < 0))) rfl (fun c14 => ?_) (fun c14 => ?_)
       ·
        replace h3 := condT c14 h3
        refine XC.region <| rR rfl rfl rfl (RO.loadOwn ag_46 rfl rfl rfl) <| rR rfl rfl rfl (RO.fieldOwn fo_69_0 rfl) <| rR rfl rfl rfl (RO.loadOwn ag_3 rfl rfl rfl) <| rR rfl rfl rfl (RO.binInt rfl rfl rfl) <| XL.put rfl rfl (lb rfl) (OpOK.lit1E (α := Int) ((w64 ((-1) - x10.1))) sl_46 z_3 rfl rfl (lb rfl) (lb rfl) rfl rfl (.cons (.d _) .nil) rfl) ?_
        refine guardK h3 (fun g15 h3 => ?_)
        refine XL.put rfl rfl (lb rfl) (OpOK.appendE (α := Int) sl_46 el_3 rfl rfl rfl rfl rfl (.app _ _) g15) <| XL.eff rfl rfl (OpOK.store ag_46 rfl rfl rfl rfl (lb rfl) rfl) <| XL.nil <| XQ.inBlock ?_
        have e_ := Option.some.inj h3
        subst e_
        exact XQ.of hQn3 (stle tZ (hR rfl (hR rfl (hR rfl (hR rfl (hR rfl hZ))))) (kR rfl kZ) rfl (Nat.le_trans hv3 (lb rfl)) rfl rfl rfl (bB rfl rfl (bB rfl rfl (bB rfl rfl (bB rfl rfl (bB rfl rfl bZ))))) rfl rfl)
       ·
        replace h3 := condF c14 h3
        refine XC.skip <| XQ.inBlock ?_
        have e_ := Option.some.inj h3
        subst e_
        exact XQ.of hQn3 (stle tZ (hR rfl (hR rfl (hR rfl (hR rfl (hR rfl hZ))))) (kR rfl kZ) rfl (Nat.le_trans hv3 (lb rfl)) rfl rfl rfl (bB rfl rfl (bB rfl rfl (bB rfl rfl (bB rfl rfl (bB rfl rfl bZ))))) rfl rfl)
      refine XL.put rfl rfl (lb rfl) (OpOK.yield (jump := none) rfl rfl rfl rfl rfl (ExecOK.from ha12 (fun E hv => (stle (tR rfl (tR rfl (tR rfl (tR rfl tZ)))) (hR rfl (hR rfl (hR rfl (hR rfl (hR rfl hZ))))) (kR rfl kZ) rfl (Nat.le_trans hv (lb rfl)) rfl rfl rfl (bB rfl rfl (bB rfl rfl (bB rfl rfl (bB rfl rfl (bB rfl rfl bZ))))) rfl rfl))) rfl (ExecOK.from hb13 (fun E hv => (stle (tR rfl (tR rfl tZ)) (hR rfl (hR rfl (hR rfl (hR rfl (hR rfl (hR rfl hZ)))))) (kR rfl kZ) rfl (Nat.le_trans hv (lb rfl)) rfl rfl rfl (bB rfl rfl (bB rfl rfl (bB rfl rfl (bB rfl rfl (bB rfl rfl (bB rfl rfl bZ)))))) rfl rfl))) rfl rfl) ?_
      refine rR rfl rfl rfl (RO.not rfl) <| XL.nil <| XQ.seq ?_
      refine XC.cond rfl (fun h => nomatch h) (fun _ => ?_)
      refine XC.skip <| XQ.inBlock <| XQ.seq <| XC.region <| rM rfl rfl rfl <| rR rfl rfl rfl (RO.binInt rfl rfl rfl) <| rA rfl rfl rfl <| XL.nil ?_
      have e_ := Option.some.inj h2
      subst e_
      refine XQ.nextM ((w64 (s2.1 - 1)), y11) (stle (tR rfl (tR rfl (tR rfl tZ))) (hR rfl (hR rfl (hR rfl (hR rfl (hR rfl hZ))))) (kR rfl kZ) rfl (Nat.le_trans hv1 (lb rfl)) rfl rfl rfl (bB rfl rfl (bB rfl rfl (bB rfl rfl (bB rfl rfl (bB rfl rfl bZ))))) rfl rfl) ho2
     ·
      replace h2 := condF c9 h2
      refine XC.exit <| XQ.thenE <| XQ.thenE ?_
      have e_ := Option.some.inj h2
      subst e_
      have e_ : _ = _ := ho2
      subst e_
      exact XQ.joinX s2.2 (stle tZ (hR rfl (hR rfl (hR rfl (hR rfl (hR rfl hZ))))) (kR rfl kZ) rfl (Nat.le_trans hv1 (lb rfl)) rfl rfl rfl (bB rfl rfl (bB rfl rfl (bB rfl rfl (bB rfl rfl (bB rfl rfl bZ))))) rfl rfl) h1
    ·
     intro o7 h1
     refine XQ.blockX ?_
     have e_ := Option.some.inj h1
     subst e_
     exact hQ1 _ _ _ (.inl rfl) rfl (stle tZ (hR rfl (hR rfl (hR rfl (hR rfl (hR rfl hZ))))) (kR rfl kZ) rfl (Nat.le_trans hv1 (lb rfl)) rfl rfl rfl (bB rfl rfl (bB rfl rfl (bB rfl rfl (bB rfl rfl (bB rfl rfl bZ))))) rfl rfl)
   refine XC.exec (rangeFunc_out (e := .normal) rfl hc6 rfl (by intro h; cases h) rfl) rfl ?_
   refine XQ.inBlock <| XQ.seq <| XC.seq <| XC.region <| rR rfl rfl rfl (RO.loadOwn ag_46 rfl rfl rfl) <| rA rfl rfl rfl <| XL.nil <| XQ.seq <| XC.ret ?_
   have e_ := Option.some.inj h0
   subst e_
   exact XQ.retF (fun _ _ h => h) rfl (RAs.tmp rfl .nil) (.cons (.one (.app _ _ _)) .nil)
  ·
   replace h0 := condF c2 h0
   refine XC.skip <| XQ.seq <| XC.seq <| XC.region <| rR rfl rfl rfl (RO.loadOwn ag_46 rfl rfl rfl) <| rA rfl rfl rfl <| XL.nil <| XQ.seq <| XC.ret ?_
   have e_ := Option.some.inj h0
   subst e_
   exact XQ.retF (fun _ _ h => h) rfl (RAs.tmp rfl .nil) (.cons (.one (.nil _)) .nil)

def m44_l0 (a0 : Lvl) (s1 : (List Int) × Int) : Option (LO ((List Int) × Int) (((List Int)))) :=
  cond (decide (0 ≤ s1.2))
    (Option.bind (idx a0.vs s1.2) fun (x5 : LV) =>
  cond (decide (x5.1 < 0))
    (Option.bind (idx a0.vs s1.2) fun (x7 : LV) =>
  guardO (Nat.ble (s1.1.length + ([(w64 ((-1) - x7.1))]).length) 1000000000)
  (some (.next ((s1.1 ++ ([(w64 ((-1) - x7.1))])), (w64 (s1.2 - 1))))))
    (some (.next (s1.1, (w64 (s1.2 - 1))))))
    (some (.done s1.1))

/-- euclid/euclidref01.Metas -/
def m44 (a0 : Lvl) : Option ((List Int)) :=
  guardO (Nat.ble a0.vs.length 100000)
  (cond (!(validB a0))
    (some ([] : List Int))
    (Option.bind (loopN (m44_l0 a0) FUEL (([] : List Int), (w64 ((a0.vs.length : Int) - 1)))) (fun (o3 : (List Int)) => some o3)))

set_option maxRecDepth 100000 in
set_option maxHeartbeats 8000000 in
theorem m44_ok (a0 : Lvl) (r : (List Int)) (h0 : m44 a0 = some r) : Fun Tryz.prog 44 [.agg (cE a0)] (resOf [.one (dS r)]) := by
  unfold m44 at h0
  refine Fun.of_bodyM 9 35 Tryz.func44 rfl en_44 rfl (lb rfl) (fun S w => ?_)
  simp only [entry]
  refine XC.seq <| XC.region <| XL.put rfl rfl (lb rfl) (OpOK.box rfl) <| rA rfl rfl rfl <| XL.nil <| XQ.seq <| XC.seq <| XC.region <| rA rfl rfl rfl <| XL.nil <| XQ.seq <| XC.seq <| XC.seq <| XC.region ?_
  refine rR rfl rfl rfl (RO.loadOwnAgg ag_24 rfl rfl rfl rfl) ?_
  refine guardK h0 (fun g1 h0 => ?_)
  refine XL.put rfl rfl (lb rfl) (OpOK.callFun (validR_fun a0 (Nat.le_of_ble_eq_true g1)) rfl (.cons (.agg (.cons (.d _) (.cons (.d _) .nil))) .nil)) ?_
  refine rR rfl rfl rfl (RO.not rfl) <| XL.nil <| XQ.seq ?_
  refine XC.cond (b := (!(validB a0))) rfl (fun c2 => ?_) (fun c2 => ?_)
  ·
   replace h0 := condT c2 h0
   refine XC.seq <| XC.region <| rM rfl rfl rfl <| rA rfl rfl rfl <| XL.nil <| XQ.seq <| XC.ret ?_
   have e_ := Option.some.inj h0
   subst e_
   exact XQ.retF (fun _ _ h => h) rfl (RAs.tmp rfl .nil) (.cons (.one (.nil _)) .nil)
  ·
   replace h0 := condF c2 h0
   refine XC.skip <| XQ.seq <| XC.seq <| XC.seq <| XC.region <| rR rfl rfl rfl (RO.fieldOwn fo_24_1 rfl) <| rR rfl rfl rfl (RO.loadOwn ag_22 rfl rfl rfl) <| rR rfl rfl rfl (RO.lenE (α := LV) sl_22 rfl (.d _)) <| rR rfl rfl rfl (RO.binInt rfl rfl rfl) <| rA rfl rfl rfl <| XL.nil <| XQ.seq <| XC.block ?_
   refine XC.joinX 0 (fun (o3 : (List Int)) => ⟨[(3, .v (.one (dA 1 o3)))], [(0, .cells 24 (cE a0))], [(1, some ⟨3, 1, (Enc.encL o3).length⟩)], 2, 35, []⟩) (fun (o3 : (List Int)) => (some o3) = some r) ?_ ?_
   ·
    refine XC.adoptT (t := 3) 3 1 rfl ?_
    refine bindK h0 (fun o4 hl1 h0 => ?_)
    refine XC.loopM (m44_l0 a0) (fun s1 => ⟨[(1, .v (.one (.ptr 0 0))), (3, .v (.one (dA 1 s1.1))), (4, .v (.one (dI s1.2)))], [(0, .cells 24 (cE a0))], [(1, some ⟨3, 1, (Enc.encL s1.1).length⟩)], 2, 35, []⟩) (([] : List Int), (w64 ((a0.vs.length : Int) - 1))) o4 (stle (tR rfl (tR rfl (tR rfl tZ))) (hR rfl hZ) (kR rfl kZ) rfl (Nat.zero_le _) rfl rfl rfl (bB rfl rfl bZ) rfl rfl) hl1 (fun s1 n1 oo1 h1 ho1 => ?_)
    unfold m44_l0 at h1
    refine XC.seq <| XC.seq <| XC.region <| rM rfl rfl rfl <| rR rfl rfl rfl (RO.binInt rfl rfl rfl) <| XL.nil <| XQ.seq ?_
    refine XC.cond (b := (decide (0 ≤ s1.2))) rfl (fun c5 => ?_) (fun c5 => ?_)
    ·
     replace h1 := condT c5 h1
     refine XC.skip <| XQ.seq <| XC.seq <| XC.block <| XC.seq <| XC.region <| rR rfl rfl rfl (RO.fieldOwn fo_24_1 rfl) <| rR rfl rfl rfl (RO.loadOwn ag_22 rfl rfl rfl) <| rM rfl rfl rfl ?_
     refine bindK h1 (fun x6 hx6 h1 => ?_)
     refine rR rfl rfl rfl (RO.indexE (α := LV) sl_22 rfl (.d _) rfl hx6) <| rR rfl rfl rfl (RO.fieldPel fo_69_0 rfl) <| rR rfl rfl rfl (RO.loadPel ag_3 rfl rfl) <| rR rfl rfl rfl (RO.binInt rfl rfl rfl) <| XL.nil <| XQ.seq ?_
     refine XC.cond (b := (decide (x6.1 < 0))) rfl (fun c7 => ?_) (fun c7 => ?_)
     ·
      replace h1 := condT c7 h1
      refine XC.region <| rM rfl rfl rfl <| rR rfl rfl rfl (RO.fieldOwn fo_24_1 rfl) <| rR rfl rfl rfl (RO.loadOwn ag_22 rfl rfl rfl) <| rM rfl rfl rfl ?_
      refine bindK h1 (fun x8 hx8 h1 => ?_)
      refine rR rfl rfl rfl (RO.indexE (α := LV) sl_22 rfl (.d _) rfl hx8) <| rR rfl rfl rfl (RO.fieldPel fo_69_0 rfl) <| rR rfl rfl rfl (RO.loadPel ag_3 rfl rfl) <| rR rfl rfl rfl (RO.binInt rfl rfl rfl) <| XL.put rfl rfl (lb rfl) (OpOK.lit1E (α := Int) ((w64 ((-1) - x8.1))) sl_46 z_3 rfl rfl (lb rfl) (lb rfl) rfl rfl (.cons (.d _) .nil) rfl) ?_
      refine guardK h1 (fun g9 h1 => ?_)
      refine XL.put rfl rfl (lb rfl) (OpOK.appendE (α := Int) sl_46 el_3 rfl rfl rfl rfl rfl (.app _ _) g9) <| rA rfl rfl rfl <| XL.nil <| XQ.inBlock <| XQ.seq <| XC.region <| rM rfl rfl rfl <| rR rfl rfl rfl (RO.binInt rfl rfl rfl) <| rA rfl rfl rfl <| XL.nil ?_
      have e_ := Option.some.inj h1
      subst e_
      refine XQ.nextM ((s1.1 ++ ([(w64 ((-1) - x8.1))])), (w64 (s1.2 - 1))) (stle (tR rfl (tR rfl (tR rfl tZ))) (hR rfl hZ) (kR rfl kZ) rfl (Nat.zero_le _) rfl rfl rfl (bB rfl rfl bZ) rfl rfl) ho1
     ·
      replace h1 := condF c7 h1
      refine XC.skip <| XQ.inBlock <| XQ.seq <| XC.region <| rM rfl rfl rfl <| rR rfl rfl rfl (RO.binInt rfl rfl rfl) <| rA rfl rfl rfl <| XL.nil ?_
      have e_ := Option.some.inj h1
      subst e_
      refine XQ.nextM (s1.1, (w64 (s1.2 - 1))) (stle (tR rfl (tR rfl (tR rfl tZ))) (hR rfl hZ) (kR rfl kZ) rfl (Nat.zero_le _) rfl rfl rfl (bB rfl rfl bZ) rfl rfl) ho1
    ·
     replace h1 := condF c5 h1
     refine XC.exit <| XQ.thenE <| XQ.thenE ?_
     have e_ := Option.some.inj h1
     subst e_
     have e_ : _ = _ := ho1
     subst e_
     exact XQ.joinX s1.1 (stle (tR rfl tZ) (hR rfl hZ) (kR rfl kZ) rfl (Nat.zero_le _) rfl rfl rfl (bB rfl rfl bZ) rfl rfl) h0
   ·
    intro o3 h0
    refine XQ.blockX <| XQ.seq <| XC.seq <| XC.region <| rM rfl rfl rfl <| rA rfl rfl rfl <| XL.nil <| XQ.seq <| XC.ret ?_
    have e_ := Option.some.inj h0
    subst e_
    exact XQ.retF (fun _ _ h => h) rfl (RAs.tmp rfl .nil) (.cons (.one (.app _ _ _)) .nil)
end

section
open Go.RowKit Go.Shelf
set_option linter.unusedSimpArgs false
set_option linter.unusedVariables false

theorem en_38 : Enters Tryz.prog 38 := enters_of Tryz.func38 (by kernel_rfl) rfl
theorem en_39 : Enters Tryz.prog 39 := enters_of Tryz.func39 (by kernel_rfl) rfl
theorem en_42 : Enters Tryz.prog 42 := enters_of Tryz.func42 (by kernel_rfl) rfl
theorem en_75 : Enters Tryz.prog 75 := enters_of Tryz.func75 (by kernel_rfl) rfl
def m38_l0 (a1 : List Int) (s3 : Int) : Option (LO Int (Unit ⊕ Int)) :=
  cond (decide (s3 < (a1.length : Int)))
    (Option.bind (idx a1 s3) fun (x9 : Int) =>
  Option.bind (Option.bind (cond (decide (x9 < 0))
    (some true)
    (some (decide (1000000 < x9)))) (fun (v12 : Bool) => some v12)) (fun (y10 : Bool) => cond y10
    (some (.done (.inr s3)))
    (some (.next (w64 (s3 + 1))))))
    (some (.done (.inl ())))

def m38_l1 (a0 : Lvl) (a1 : List Int) (s1 : Int × Int) : Option (LO (Int × Int) Int) :=
  cond (decide (s1.2 < (a0.vs.length : Int)))
    (Option.bind (idx a0.vs s1.2) fun (x23 : LV) =>
  Option.bind (idx a1 x23.1) fun (x24 : Int) =>
  some (.next ((max s1.1 (w64 (x24 + x23.2))), (w64 (s1.2 + 1)))))
    (some (.done s1.1))

/-- euclid/level.Eval -/
def m38 (a0 : Lvl) (a1 : List Int) : Option (Int × Int) :=
  guardO (Nat.ble a0.vs.length 100000)
  (cond (!(validB a0))
    (some (0, 3))
    (Option.bind (Option.bind (Option.bind (loopN (m38_l0 a1) FUEL 0) (Sum.elim (fun (o7 : Unit) => some (-1)) (fun o => some o))) (fun (y5 : Int) => some (decide (0 ≤ y5)))) (fun (y3 : Bool) => cond y3
    (some (0, 2))
    (Option.bind (m43 a0) fun (x17 : (List Int)) =>
  cond (decide (0 < (x17.length : Int)))
    (some (0, 23))
    (Option.bind (m40 a0) fun (x19 : Int) =>
  cond (decide ((a1.length : Int) < x19))
    (some (0, 24))
    (Option.bind (loopN (m38_l1 a0 a1) FUEL (a0.c, 0)) (fun (o21 : Int) => some (o21, 0))))))))

set_option maxRecDepth 100000 in
set_option maxHeartbeats 8000000 in
theorem m38_ok (a0 : Lvl) (a1 : List Int) (r : Int × Int) (h0 : m38 a0 a1 = some r) : Fun Tryz.prog 38 [.agg (cE a0), .one (dS a1)] (resOf [.one (dI r.1), .one (dI r.2)]) := by
  unfold m38 at h0
  refine Fun.of_bodyM 9 48 Tryz.func38 rfl en_38 rfl (lb rfl) (fun S w => ?_)
  simp only [entry]
  refine XC.seq <| XC.region <| XL.put rfl rfl (lb rfl) (OpOK.box rfl) <| rA rfl rfl rfl <| rA rfl rfl rfl <| XL.nil <| XQ.seq <| XC.seq <| XC.block <| XC.seq <| XC.region <| rR rfl rfl rfl (RO.loadOwnAgg ag_24 rfl rfl rfl rfl) ?_
  refine guardK h0 (fun g1 h0 => ?_)
  refine XL.put rfl rfl (lb rfl) (OpOK.callFun (valid_fun a0 (Nat.le_of_ble_eq_true g1)) rfl (.cons (.agg (.cons (.d _) (.cons (.d _) .nil))) .nil)) ?_
  refine rR rfl rfl rfl (RO.not rfl) <| rA rfl rfl rfl <| XL.nil <| XQ.seq ?_
  refine XC.cond (b := (!(validB a0))) rfl (fun c2 => ?_) (fun c2 => ?_)
  ·
   replace h0 := condT c2 h0
   refine XC.seq <| XC.region <| rA rfl rfl rfl <| rA rfl rfl rfl <| XL.nil <| XQ.seq <| XC.ret ?_
   have e_ := Option.some.inj h0
   subst e_
   exact XQ.retF (fun _ _ h => h) rfl (RAs.tmp rfl (RAs.tmp rfl .nil)) (.cons (.one (.d _)) (.cons (.one (.d _)) .nil))
  ·
   replace h0 := condF c2 h0
   refine XC.seq <| XC.region <| rM rfl rfl rfl ?_
   refine bindK h0 (fun y3 h1 h0 => ?_)
   have hc4 : CallM Tryz.prog 74 [.one (dS a1), .one (.fn 75 [])] ⟨[(0, .cells 24 (cE a0))], [], 1⟩ (resOf [.one (dB y3)]) ⟨[(0, .cells 24 (cE a0))], [], 1⟩ := by
    refine CallM.of_bodyD ⟨[(4, .v (.one (dB y3)))], [(0, .cells 24 (cE a0))], [], 1, 9, []⟩ rfl rfl en_74 (lb rfl) rfl (RAs.tmp rfl .nil) (fun w0 M V0 Q hv1 hQ1 => ?_)
    simp only [entry]
    refine XC.seq <| XC.region <| rA rfl rfl rfl <| XL.nil <| XQ.seq <| XC.seq <| XC.region <| rM rfl rfl rfl <| rM rfl rfl rfl ?_
    refine bindK h1 (fun y5 h2 h1 => ?_)
    have hc6 : CallM Tryz.prog 93 [.one (dS a1), .one (.fn 75 [])] ⟨[(0, .cells 24 (cE a0))], [], 1⟩ (resOf [.one (dI y5)]) ⟨[(0, .cells 24 (cE a0))], [], 1⟩ := by
     refine CallM.of_bodyD ⟨[(4, .v (.one (dI y5)))], [(0, .cells 24 (cE a0))], [], 1, 19, []⟩ rfl rfl en_93 (lb rfl) rfl (RAs.tmp rfl .nil) (fun w0 M V0 Q hv2 hQ2 => ?_)
     simp only [entry]
     refine XC.seq <| XC.region <| rA rfl rfl rfl <| XL.nil <| XQ.seq <| XC.seq <| XC.seq <| XC.region <| rM rfl rfl rfl <| rR rfl rfl rfl (RO.lenE (α := Int) sl_46 rfl (.d _)) <| rM rfl rfl rfl <| XL.nil <| XQ.seq <| XC.block ?_
     refine XC.joinX 0 (fun (o7 : Unit) => ⟨[], [(0, .cells 24 (cE a0))], [], 1, 19, []⟩) (fun (o7 : Unit) => (some (-1)) = some y5) ?_ ?_
     ·
      refine bindK h2 (fun o8 hl3 h2 => ?_)
      refine XC.loopM (m38_l0 a1) (fun s3 => ⟨[(0, .v (.one (dS a1))), (1, .v (.one (.fn 75 []))), (7, .v (.one (dI (a1.length : Int)))), (8, .v (.one (dI s3)))], [(0, .cells 24 (cE a0))], [], 1, 19, []⟩) 0 o8 (stle (tR rfl (tR rfl (tR rfl (tR rfl tZ)))) (hR rfl hZ) kZ rfl (Nat.le_trans hv2 (lb rfl)) rfl rfl rfl (bB rfl rfl bZ) rfl rfl) hl3 (fun s3 n3 oo3 h3 ho3 => ?_)
      unfold m38_l0 at h3
      refine XC.seq <| XC.region <| rR rfl rfl rfl (RO.binInt rfl rfl rfl) <| XL.nil <| XQ.seq <| XC.seq ?_
      refine XC.cond (b := (decide (s3 < (a1.length : Int)))) rfl (fun c9 => ?_) (fun c9 => ?_)
      ·
       replace h3 := condT c9 h3
       refine XC.skip <| XQ.seq <| XC.seq <| XC.block <| XC.seq <| XC.region <| rM rfl rfl rfl <| rA rfl rfl rfl <| XL.nil <| XQ.seq <| XC.seq <| XC.region <| rM rfl rfl rfl <| rM rfl rfl rfl ?_
       refine rM rfl rfl rfl ?_
       refine bindK h3 (fun x10 hx10 h3 => ?_)
       refine rR rfl rfl rfl (RO.indexE (α := Int) sl_46 rfl (.d _) rfl hx10) <| rR rfl rfl rfl (RO.loadPel ag_3 rfl rfl) ?_
       refine bindK h3 (fun y11 h4 h3 => ?_)
       have hc12 : CallM Tryz.prog 75 [.one (dI x10)] ⟨[(0, .cells 24 (cE a0))], [], 1⟩ (resOf [.one (dB y11)]) ⟨[(0, .cells 24 (cE a0))], [], 1⟩ := by
        refine CallM.of_bodyD ⟨[(2, .v (.one (dB y11)))], [(0, .cells 24 (cE a0))], [], 1, 9, []⟩ rfl rfl en_75 (lb rfl) rfl (RAs.tmp rfl .nil) (fun w0 M V0 Q hv4 hQ4 => ?_)
        simp only [entry]
        refine XC.seq <| XC.region <| rA rfl rfl rfl <| XL.nil <| XQ.seq <| XC.seq ?_
        refine XC.joinR (fun (v13 : Bool) => ⟨[(2, .v (.one (dB v13)))], [(0, .cells 24 (cE a0))], [], 1, 9, []⟩) (fun (v13 : Bool) => (some v13) = some y11) ?_ ?_
        ·
         refine bindK h4 (fun v_ h5 h4 => ?_)
         refine XC.region <| rM rfl rfl rfl <| rR rfl rfl rfl (RO.binInt rfl rfl rfl) <| rM rfl rfl rfl ?_
         refine XL.case (d := 5) (c := (decide (x10 < 0))) rfl (fun c14 => ?_) (fun c14 => ?_)
         ·
          replace h5 := condT c14 h5
          refine XL.no rfl rfl <| XL.no rfl rfl <| rR rfl rfl rfl (RO.pickT rfl rfl) <| rA rfl rfl rfl <| XL.nil ?_
          have e_ := Option.some.inj h5
          subst e_
          exact XQ.joinR true (stle (tR rfl tZ) (hR rfl hZ) kZ rfl (Nat.le_trans hv4 (lb rfl)) rfl rfl rfl (bB rfl rfl bZ) rfl rfl) h4
         ·
          replace h5 := condF c14 h5
          refine rM rfl rfl rfl <| rR rfl rfl rfl (RO.binInt rfl rfl rfl) <| rR rfl rfl rfl (RO.pickF rfl rfl) <| rA rfl rfl rfl <| XL.nil ?_
          have e_ := Option.some.inj h5
          subst e_
          exact XQ.joinR (decide (1000000 < x10)) (stle (tR rfl tZ) (hR rfl hZ) kZ rfl (Nat.le_trans hv4 (lb rfl)) rfl rfl rfl (bB rfl rfl bZ) rfl rfl) h4
        ·
         intro v13 h4
         refine XQ.seq <| XC.ret ?_
         have e_ := Option.some.inj h4
         subst e_
         exact hQ4 _ _ _ (.inr rfl) rfl (stle (tR rfl tZ) (hR rfl hZ) kZ rfl (Nat.le_trans hv4 (lb rfl)) rfl rfl rfl (bB rfl rfl bZ) rfl rfl)
       refine XL.put rfl rfl (lb rfl) (OpOK.callW rfl rfl rfl hc12 rfl (hR rfl hZ) kZ) <| XL.nil <| XQ.seq ?_
       refine XC.cond (b := y11) rfl (fun c15 => ?_) (fun c15 => ?_)
       ·
        replace h3 := condT c15 h3
        refine XC.seq <| XC.region <| rM rfl rfl rfl <| rA rfl rfl rfl <| XL.nil <| XQ.seq <| XC.ret ?_
        have e_ := Option.some.inj h3
        subst e_
        have e_ : _ = _ := ho3
        subst e_
        try dsimp only [Sum.elim_inl, Sum.elim_inr] at h2
        have e_ := Option.some.inj h2
        subst e_
        exact hQ2 _ _ _ (.inr rfl) rfl (stle (tR rfl tZ) (hR rfl hZ) kZ rfl (Nat.le_trans hv2 (lb rfl)) rfl rfl rfl (bB rfl rfl bZ) rfl rfl)
       ·
        replace h3 := condF c15 h3
        refine XC.skip <| XQ.inBlock <| XQ.seq <| XC.region <| rR rfl rfl rfl (RO.binInt rfl rfl rfl) <| rM rfl rfl rfl <| XL.nil ?_
        have e_ := Option.some.inj h3
        subst e_
        refine XQ.nextM (w64 (s3 + 1)) (stle (tR rfl (tR rfl (tR rfl (tR rfl tZ)))) (hR rfl hZ) kZ rfl (Nat.le_trans hv2 (lb rfl)) rfl rfl rfl (bB rfl rfl bZ) rfl rfl) ho3
      ·
       replace h3 := condF c9 h3
       refine XC.exit <| XQ.thenE <| XQ.thenE ?_
       have e_ := Option.some.inj h3
       subst e_
       have e_ : _ = _ := ho3
       subst e_
       exact XQ.joinX () (stle tZ (hR rfl hZ) kZ rfl (Nat.le_trans hv2 (lb rfl)) rfl rfl rfl (bB rfl rfl bZ) rfl rfl) h2
     ·
      intro o7 h2
      refine XQ.blockX <| XQ.seq <| XC.seq <| XC.region <| rA rfl rfl rfl <| XL.nil <| XQ.seq <| XC.ret ?_
      have e_ := Option.some.inj h2
      subst e_
      exact hQ2 _ _ _ (.inr rfl) rfl (stle (tR rfl tZ) (hR rfl hZ) kZ rfl (Nat.le_trans hv2 (lb rfl)) rfl rfl rfl (bB rfl rfl bZ) rfl rfl)
    refine XL.put rfl rfl (lb rfl) (OpOK.callW rfl rfl rfl hc6 rfl (hR rfl hZ) kZ) <| rR rfl rfl rfl (RO.binInt rfl rfl rfl) <| rA rfl rfl rfl <| XL.nil <| XQ.seq <| XC.ret ?_
    have e_ := Option.some.inj h1
    subst e_
    exact hQ1 _ _ _ (.inr rfl) rfl (stle (tR rfl tZ) (hR rfl hZ) kZ rfl (Nat.le_trans hv1 (lb rfl)) rfl rfl rfl (bB rfl rfl bZ) rfl rfl)
   refine XL.put rfl rfl (lb rfl) (OpOK.callW rfl rfl rfl hc4 rfl (hR rfl hZ) kZ) <| rA rfl rfl rfl <| XL.nil <| XQ.seq ?_
   refine XC.cond (b := y3) rfl (fun c16 => ?_) (fun c16 => ?_)
   ·
    replace h0 := condT c16 h0
    refine XC.seq <| XC.region <| rA rfl rfl rfl <| rA rfl rfl rfl <| XL.nil <| XQ.seq <| XC.ret ?_
    have e_ := Option.some.inj h0
    subst e_
    exact XQ.retF (fun _ _ h => h) rfl (RAs.tmp rfl (RAs.tmp rfl .nil)) (.cons (.one (.d _)) (.cons (.one (.d _)) .nil))
   ·
    replace h0 := condF c16 h0
    refine XC.seq <| XC.region <| rR rfl rfl rfl (RO.loadOwnAgg ag_24 rfl rfl rfl rfl) ?_
    refine bindK h0 (fun x17 hx17 h0 => ?_)
    refine XL.put rfl rfl (lb rfl) (OpOK.callFun (m43_ok a0 x17 hx17) rfl (.cons (.agg (.cons (.d _) (.cons (.d _) .nil))) .nil)) <| rR rfl rfl rfl (RO.lenE (α := Int) sl_46 rfl (.d _)) <| rR rfl rfl rfl (RO.binInt rfl rfl rfl) <| rA rfl rfl rfl <| XL.nil <| XQ.seq ?_
    refine XC.cond (b := (decide (0 < (x17.length : Int)))) rfl (fun c18 => ?_) (fun c18 => ?_)
    ·
     replace h0 := condT c18 h0
     refine XC.seq <| XC.region <| rA rfl rfl rfl <| rA rfl rfl rfl <| XL.nil <| XQ.seq <| XC.ret ?_
     have e_ := Option.some.inj h0
     subst e_
     exact XQ.retF (fun _ _ h => h) rfl (RAs.tmp rfl (RAs.tmp rfl .nil)) (.cons (.one (.d _)) (.cons (.one (.d _)) .nil))
    ·
     replace h0 := condF c18 h0
     refine XC.seq <| XC.region <| rR rfl rfl rfl (RO.loadOwnAgg ag_24 rfl rfl rfl rfl) ?_
     refine bindK h0 (fun x19 hx19 h0 => ?_)
     refine XL.put rfl rfl (lb rfl) (OpOK.callFun (m40_ok a0 x19 hx19) rfl (.cons (.agg (.cons (.d _) (.cons (.d _) .nil))) .nil)) <| rM rfl rfl rfl <| rR rfl rfl rfl (RO.lenE (α := Int) sl_46 rfl (.d _)) <| rR rfl rfl rfl (RO.binInt rfl rfl rfl) <| rA rfl rfl rfl <| XL.nil <| XQ.seq ?_
     refine XC.cond (b := (decide ((a1.length : Int) < x19))) rfl (fun c20 => ?_) (fun c20 => ?_)
     ·
      replace h0 := condT c20 h0
      refine XC.seq <| XC.region <| rA rfl rfl rfl <| rA rfl rfl rfl <| XL.nil <| XQ.seq <| XC.ret ?_
      have e_ := Option.some.inj h0
      subst e_
      exact XQ.retF (fun _ _ h => h) rfl (RAs.tmp rfl (RAs.tmp rfl .nil)) (.cons (.one (.d _)) (.cons (.one (.d _)) .nil))
     ·
      replace h0 := condF c20 h0
      refine XC.skip <| XQ.inBlock <| XQ.seq <| XC.seq <| XC.region <| rR rfl rfl rfl (RO.fieldOwn fo_24_0 rfl) <| rR rfl rfl rfl (RO.loadOwn ag_3 rfl rfl rfl) <| rA rfl rfl rfl <| XL.nil <| XQ.seq <| XC.seq <| XC.seq <| XC.region <| rR rfl rfl rfl (RO.fieldOwn fo_24_1 rfl) ?_
      refine rR rfl rfl rfl (RO.loadOwn ag_22 rfl rfl rfl) <| rR rfl rfl rfl (RO.lenE (α := LV) sl_22 rfl (.d _)) <| rM rfl rfl rfl <| XL.nil <| XQ.seq <| XC.block ?_
      refine XC.joinX 1 (fun (o21 : Int) => ⟨[(6, .v (.one (dI o21)))], [(0, .cells 24 (cE a0))], [], 1, 48, []⟩) (fun (o21 : Int) => (some (o21, 0)) = some r) ?_ ?_
      ·
       refine bindK h0 (fun o22 hl1 h0 => ?_)
       refine XC.loopM (m38_l1 a0 a1) (fun s1 => ⟨[(1, .v (.one (dS a1))), (6, .v (.one (dI s1.1))), (30, .v (.one (dS a0.vs))), (31, .v (.one (dI (a0.vs.length : Int)))), (32, .v (.one (dI s1.2)))], [(0, .cells 24 (cE a0))], [], 1, 48, []⟩) (a0.c, 0) o22 (stle (tR rfl (tR rfl (tR rfl (tR rfl (tR rfl tZ))))) (hR rfl hZ) kZ rfl (Nat.zero_le _) rfl rfl rfl (bB rfl rfl bZ) rfl rfl) hl1 (fun s1 n1 oo1 h1 ho1 => ?_)
       unfold m38_l1 at h1
       refine XC.seq <| XC.region <| rR rfl rfl rfl (RO.binInt rfl rfl rfl) <| XL.nil <| XQ.seq <| XC.seq ?_
       refine XC.cond (b := (decide (s1.2 < (a0.vs.length : Int)))) rfl (fun c23 => ?_) (fun c23 => ?_)
       ·
        replace h1 := condT c23 h1
        refine XC.skip <| XQ.seq <| XC.seq <| XC.block <| XC.seq <| XC.region ?_
        refine bindK h1 (fun x24 hx24 h1 => ?_)
        refine rR rfl rfl rfl (RO.indexE (α := LV) sl_22 rfl (.d _) rfl hx24) <| rR rfl rfl rfl (RO.loadPelAgg ag_69 rfl rfl rfl) <| XL.put rfl rfl (lb rfl) (OpOK.alloc z_69 rfl) <| XL.eff rfl rfl (OpOK.store ag_69 rfl rfl rfl rfl (lb rfl) rfl) <| XL.nil <| XQ.seq ?_
        refine XC.anyRun [] [] mixed (by kernel_rfl) (by kernel_rfl) (by kernel_rfl) ?_
        refine RunA.rd rfl rfl rfl (OpOK.of_ro (RO.move rfl)) rfl <| RunA.rd rfl rfl rfl (OpOK.of_ro (RO.move rfl)) rfl <| RunA.rd rfl rfl rfl (OpOK.of_ro (RO.fieldOwn fo_69_0 rfl)) rfl <| RunA.rd rfl rfl rfl (OpOK.of_ro (RO.loadOwn ag_3 rfl rfl rfl)) rfl ?_
        refine bindK h1 (fun x25 hx25 h1 => ?_)
        refine RunA.rd rfl rfl rfl (OpOK.of_ro (RO.indexE (α := Int) sl_46 rfl (.d _) rfl hx25)) rfl <| RunA.rd rfl rfl rfl (OpOK.of_ro (RO.loadPel ag_3 rfl rfl)) rfl <| RunA.rd rfl rfl rfl (OpOK.of_ro (RO.fieldOwn fo_69_1 rfl)) rfl <| RunA.rd rfl rfl rfl (OpOK.of_ro (RO.loadOwn ag_3 rfl rfl rfl)) rfl <| RunA.rd rfl rfl rfl (OpOK.of_ro (RO.binInt rfl rfl rfl)) rfl <| RunA.rd rfl rfl rfl (OpOK.of_ro (RO.max2 rfl rfl)) rfl <| RunA.rd rfl rfl rfl (OpOK.of_ro (RO.assign rfl)) rfl ?_
        refine RunA.nil ⟨?ex, _, _, rfl, ?_⟩
        case ex => exact trivial
        refine XQ.less (st' := ⟨[(1, .v (.one (dS a1))), (6, .v (.one (dI (max s1.1 (w64 (x25 + x24.2)))))), (30, .v (.one (dS a0.vs))), (31, .v (.one (dI (a0.vs.length : Int)))), (32, .v (.one (dI s1.2)))], [(0, .cells 24 (cE a0)), (1, .cells 69 (cE x24))], [], 2, 48, []⟩) (stle (tR rfl (tR rfl (tR rfl (tR rfl (tR rfl tZ))))) (hR rfl (hR rfl hZ)) kZ rfl (Nat.zero_le _) rfl rfl rfl (bB rfl rfl (bB rfl rfl bZ)) rfl rfl) <| XQ.inBlock <| XQ.seq <| XC.region <| rR rfl rfl rfl (RO.binInt rfl rfl rfl) <| rM rfl rfl rfl <| XL.nil ?_
        have e_ := Option.some.inj h1
        subst e_
        refine XQ.nextM ((max s1.1 (w64 (x25 + x24.2))), (w64 (s1.2 + 1))) (stle (tR rfl (tR rfl (tR rfl (tR rfl (tR rfl tZ))))) (hR rfl hZ) kZ rfl (Nat.zero_le _) rfl rfl rfl (bB rfl rfl bZ) rfl rfl) ho1
       ·
        replace h1 := condF c23 h1
        refine XC.exit <| XQ.thenE <| XQ.thenE ?_
        have e_ := Option.some.inj h1
        subst e_
        have e_ : _ = _ := ho1
        subst e_
        exact XQ.joinX s1.1 (stle (tR rfl tZ) (hR rfl hZ) kZ rfl (Nat.zero_le _) rfl rfl rfl (bB rfl rfl bZ) rfl rfl) h0
      ·
       intro o21 h0
       refine XQ.blockX <| XQ.seq <| XC.seq <| XC.region <| rM rfl rfl rfl <| rA rfl rfl rfl <| rA rfl rfl rfl <| XL.nil <| XQ.seq <| XC.ret ?_
       have e_ := Option.some.inj h0
       subst e_
       exact XQ.retF (fun _ _ h => h) rfl (RAs.tmp rfl (RAs.tmp rfl .nil)) (.cons (.one (.d _)) (.cons (.one (.d _)) .nil))

def m39_l0 (a1 : List Int) (s1 : Int) : Option (LO Int (Unit ⊕ (Int × Int))) :=
  cond (decide (s1 < (a1.length : Int)))
    (Option.bind (Option.bind (idx a1 s1) fun (x6 : Int) =>
  cond (decide (x6 < 0))
    (some true)
    (Option.bind (idx a1 s1) fun (x8 : Int) =>
  some (decide (1000000 < x8)))) (fun (v5 : Bool) => cond v5
    (some (.done (.inr (0, 2))))
    (some (.next (w64 (s1 + 1))))))
    (some (.done (.inl ())))

def m39_l1 (a0 : Lvl) (a1 : List Int) (s1 : Int × Int) : Option (LO (Int × Int) Int) :=
  cond (decide (s1.2 < (a0.vs.length : Int)))
    (Option.bind (idx a0.vs s1.2) fun (x10 : LV) =>
  Option.bind (idx a1 x10.1) fun (x11 : Int) =>
  Option.bind (idx a0.vs s1.2) fun (x12 : LV) =>
  some (.next ((max s1.1 (w64 (x11 + x12.2))), (w64 (s1.2 + 1)))))
    (some (.done s1.1))

/-- euclid/euclidref01.Eval -/
def m39 (a0 : Lvl) (a1 : List Int) : Option (Int × Int) :=
  guardO (Nat.ble a0.vs.length 100000)
  (cond (!(validB a0))
    (some (0, 3))
    (Option.bind (loopN (m39_l0 a1) FUEL 0) (Sum.elim (fun (o3 : Unit) => Option.bind (m44 a0) fun (x4 : (List Int)) =>
  cond (decide (0 < (x4.length : Int)))
    (some (0, 23))
    (Option.bind (m41 a0) fun (x6 : Int) =>
  cond (decide ((a1.length : Int) < x6))
    (some (0, 24))
    (Option.bind (loopN (m39_l1 a0 a1) FUEL (a0.c, 0)) (fun (o8 : Int) => some (o8, 0))))) (fun o => some o))))

set_option maxRecDepth 100000 in
set_option maxHeartbeats 8000000 in
theorem m39_ok (a0 : Lvl) (a1 : List Int) (r : Int × Int) (h0 : m39 a0 a1 = some r) : Fun Tryz.prog 39 [.agg (cE a0), .one (dS a1)] (resOf [.one (dI r.1), .one (dI r.2)]) := by
  unfold m39 at h0
  refine Fun.of_bodyM 9 67 Tryz.func39 rfl en_39 rfl (lb rfl) (fun S w => ?_)
  simp only [entry]
  refine XC.seq <| XC.region <| XL.put rfl rfl (lb rfl) (OpOK.box rfl) <| rA rfl rfl rfl <| rA rfl rfl rfl <| XL.nil <| XQ.seq <| XC.seq <| XC.seq <| XC.region <| rR rfl rfl rfl (RO.loadOwnAgg ag_24 rfl rfl rfl rfl) ?_
  refine guardK h0 (fun g1 h0 => ?_)
  refine XL.put rfl rfl (lb rfl) (OpOK.callFun (validR_fun a0 (Nat.le_of_ble_eq_true g1)) rfl (.cons (.agg (.cons (.d _) (.cons (.d _) .nil))) .nil)) ?_
  refine rR rfl rfl rfl (RO.not rfl) <| XL.nil <| XQ.seq ?_
  refine XC.cond (b := (!(validB a0))) rfl (fun c2 => ?_) (fun c2 => ?_)
  ·
   replace h0 := condT c2 h0
   refine XC.seq <| XC.region <| rA rfl rfl rfl <| rA rfl rfl rfl <| XL.nil <| XQ.seq <| XC.ret ?_
   have e_ := Option.some.inj h0
   subst e_
   exact XQ.retF (fun _ _ h => h) rfl (RAs.tmp rfl (RAs.tmp rfl .nil)) (.cons (.one (.d _)) (.cons (.one (.d _)) .nil))
  ·
   replace h0 := condF c2 h0
   refine XC.skip <| XQ.seq <| XC.seq <| XC.seq <| XC.region <| rA rfl rfl rfl <| XL.nil <| XQ.seq <| XC.block ?_
   refine XC.joinX 0 (fun (o3 : Unit) => ⟨[(1, .v (.one (dS a1))), (2, .v (.one (.ptr 0 0)))], [(0, .cells 24 (cE a0))], [], 1, 67, []⟩) (fun (o3 : Unit) => (Option.bind (m44 a0) fun (x4 : (List Int)) =>
     cond (decide (0 < (x4.length : Int)))
       (some (0, 23))
       (Option.bind (m41 a0) fun (x6 : Int) =>
     cond (decide ((a1.length : Int) < x6))
       (some (0, 24))
       (Option.bind (loopN (m39_l1 a0 a1) FUEL (a0.c, 0)) (fun (o8 : Int) => some (o8, 0))))) = some r) ?_ ?_
   ·
    refine bindK h0 (fun o4 hl1 h0 => ?_)
    refine XC.loopM (m39_l0 a1) (fun s1 => ⟨[(1, .v (.one (dS a1))), (2, .v (.one (.ptr 0 0))), (6, .v (.one (dI s1)))], [(0, .cells 24 (cE a0))], [], 1, 67, []⟩) 0 o4 (stle (tR rfl (tR rfl (tR rfl tZ))) (hR rfl hZ) kZ rfl (Nat.zero_le _) rfl rfl rfl (bB rfl rfl bZ) rfl rfl) hl1 (fun s1 n1 oo1 h1 ho1 => ?_)
    unfold m39_l0 at h1
    refine XC.seq <| XC.seq <| XC.region <| rM rfl rfl rfl <| rM rfl rfl rfl <| rR rfl rfl rfl (RO.lenE (α := Int) sl_46 rfl (.d _)) <| rR rfl rfl rfl (RO.binInt rfl rfl rfl) <| XL.nil <| XQ.seq ?_
    refine XC.cond (b := (decide (s1 < (a1.length : Int)))) rfl (fun c5 => ?_) (fun c5 => ?_)
    ·
     replace h1 := condT c5 h1
     refine XC.skip <| XQ.seq <| XC.seq <| XC.block <| XC.seq ?_
     refine XC.joinR (fun (v6 : Bool) => ⟨[(1, .v (.one (dS a1))), (2, .v (.one (.ptr 0 0))), (6, .v (.one (dI s1))), (29, .v (.one (dB v6)))], [(0, .cells 24 (cE a0))], [], 1, 67, []⟩) (fun (v6 : Bool) => (cond v6
         (some (.done (.inr (0, 2))))
         (some (.next (w64 (s1 + 1))))) = some oo1) ?_ ?_
     ·
      refine bindK h1 (fun v_ h2 h1 => ?_)
      refine XC.region <| rM rfl rfl rfl <| rM rfl rfl rfl ?_
      refine bindK h2 (fun x7 hx7 h2 => ?_)
      refine rR rfl rfl rfl (RO.indexE (α := Int) sl_46 rfl (.d _) rfl hx7) <| rR rfl rfl rfl (RO.loadPel ag_3 rfl rfl) <| rR rfl rfl rfl (RO.binInt rfl rfl rfl) <| rM rfl rfl rfl ?_
      refine XL.case (d := 23) (c := (decide (x7 < 0))) rfl (fun c8 => ?_) (fun c8 => ?_)
      ·
       replace h2 := condT c8 h2
       refine XL.no rfl rfl <| XL.no rfl rfl <| XL.no rfl rfl <| XL.no rfl rfl <| XL.no rfl rfl <| rR rfl rfl rfl (RO.pickT rfl rfl) <| XL.nil ?_
       have e_ := Option.some.inj h2
       subst e_
       exact XQ.joinR true (stle (tR rfl (tR rfl (tR rfl (tR rfl tZ)))) (hR rfl hZ) kZ rfl (Nat.zero_le _) rfl rfl rfl (bB rfl rfl bZ) rfl rfl) h1
      ·
       replace h2 := condF c8 h2
       refine rM rfl rfl rfl <| rM rfl rfl rfl ?_
       refine bindK h2 (fun x9 hx9 h2 => ?_)
       refine rR rfl rfl rfl (RO.indexE (α := Int) sl_46 rfl (.d _) rfl hx9) <| rR rfl rfl rfl (RO.loadPel ag_3 rfl rfl) <| rR rfl rfl rfl (RO.binInt rfl rfl rfl) <| rR rfl rfl rfl (RO.pickF rfl rfl) <| XL.nil ?_
       have e_ := Option.some.inj h2
       subst e_
       exact XQ.joinR (decide (1000000 < x9)) (stle (tR rfl (tR rfl (tR rfl (tR rfl tZ)))) (hR rfl hZ) kZ rfl (Nat.zero_le _) rfl rfl rfl (bB rfl rfl bZ) rfl rfl) h1
     ·
      intro v6 h1
      refine XQ.seq ?_
      refine XC.cond (b := v6) rfl (fun c10 => ?_) (fun c10 => ?_)
      ·
       replace h1 := condT c10 h1
       refine XC.seq <| XC.region <| rA rfl rfl rfl <| rA rfl rfl rfl <| XL.nil <| XQ.seq <| XC.ret ?_
       have e_ := Option.some.inj h1
       subst e_
       have e_ : _ = _ := ho1
       subst e_
       try dsimp only [Sum.elim_inl, Sum.elim_inr] at h0
       have e_ := Option.some.inj h0
       subst e_
       exact XQ.retF (fun _ _ h => h) rfl (RAs.tmp rfl (RAs.tmp rfl .nil)) (.cons (.one (.d _)) (.cons (.one (.d _)) .nil))
      ·
       replace h1 := condF c10 h1
       refine XC.skip <| XQ.inBlock <| XQ.seq <| XC.region <| rM rfl rfl rfl <| rR rfl rfl rfl (RO.binInt rfl rfl rfl) <| rA rfl rfl rfl <| XL.nil ?_
       have e_ := Option.some.inj h1
       subst e_
       refine XQ.nextM (w64 (s1 + 1)) (stle (tR rfl (tR rfl (tR rfl tZ))) (hR rfl hZ) kZ rfl (Nat.zero_le _) rfl rfl rfl (bB rfl rfl bZ) rfl rfl) ho1
    ·
     replace h1 := condF c5 h1
     refine XC.exit <| XQ.thenE <| XQ.thenE ?_
     have e_ := Option.some.inj h1
     subst e_
     have e_ : _ = _ := ho1
     subst e_
     exact XQ.joinX () (stle (tR rfl (tR rfl tZ)) (hR rfl hZ) kZ rfl (Nat.zero_le _) rfl rfl rfl (bB rfl rfl bZ) rfl rfl) h0
   ·
    intro o3 h0
    refine XQ.blockX <| XQ.seq <| XC.seq <| XC.seq <| XC.region <| rR rfl rfl rfl (RO.loadOwnAgg ag_24 rfl rfl rfl rfl) ?_
    refine bindK h0 (fun x11 hx11 h0 => ?_)
    refine XL.put rfl rfl (lb rfl) (OpOK.callFun (m44_ok a0 x11 hx11) rfl (.cons (.agg (.cons (.d _) (.cons (.d _) .nil))) .nil)) <| rR rfl rfl rfl (RO.lenE (α := Int) sl_46 rfl (.d _)) <| rR rfl rfl rfl (RO.binInt rfl rfl rfl) <| XL.nil <| XQ.seq ?_
    refine XC.cond (b := (decide (0 < (x11.length : Int)))) rfl (fun c12 => ?_) (fun c12 => ?_)
    ·
     replace h0 := condT c12 h0
     refine XC.seq <| XC.region <| rA rfl rfl rfl <| rA rfl rfl rfl <| XL.nil <| XQ.seq <| XC.ret ?_
     have e_ := Option.some.inj h0
     subst e_
     exact XQ.retF (fun _ _ h => h) rfl (RAs.tmp rfl (RAs.tmp rfl .nil)) (.cons (.one (.d _)) (.cons (.one (.d _)) .nil))
    ·
     replace h0 := condF c12 h0
     refine XC.skip <| XQ.seq <| XC.seq <| XC.seq <| XC.region <| rR rfl rfl rfl (RO.loadOwnAgg ag_24 rfl rfl rfl rfl) ?_
     refine bindK h0 (fun x13 hx13 h0 => ?_)
     refine XL.put rfl rfl (lb rfl) (OpOK.callFun (m41_ok a0 x13 hx13) rfl (.cons (.agg (.cons (.d _) (.cons (.d _) .nil))) .nil)) <| rM rfl rfl rfl <| rR rfl rfl rfl (RO.lenE (α := Int) sl_46 rfl (.d _)) <| rR rfl rfl rfl (RO.binInt rfl rfl rfl) <| XL.nil <| XQ.seq ?_
     refine XC.cond (b := (decide ((a1.length : Int) < x13))) rfl (fun c14 => ?_) (fun c14 => ?_)
     ·
      replace h0 := condT c14 h0
      refine XC.seq <| XC.region <| rA rfl rfl rfl <| rA rfl rfl rfl <| XL.nil <| XQ.seq <| XC.ret ?_
      have e_ := Option.some.inj h0
      subst e_
      exact XQ.retF (fun _ _ h => h) rfl (RAs.tmp rfl (RAs.tmp rfl .nil)) (.cons (.one (.d _)) (.cons (.one (.d _)) .nil))
     ·
      replace h0 := condF c14 h0
      refine XC.skip <| XQ.seq <| XC.seq <| XC.region <| rR rfl rfl rfl (RO.fieldOwn fo_24_0 rfl) <| rR rfl rfl rfl (RO.loadOwn ag_3 rfl rfl rfl) <| rA rfl rfl rfl <| XL.nil <| XQ.seq <| XC.seq <| XC.seq <| XC.region <| rA rfl rfl rfl <| XL.nil ?_
      refine XQ.seq <| XC.block ?_
      refine XC.joinX 2 (fun (o15 : Int) => ⟨[(7, .v (.one (dI o15)))], [(0, .cells 24 (cE a0))], [], 1, 67, []⟩) (fun (o15 : Int) => (some (o15, 0)) = some r) ?_ ?_
      ·
       refine bindK h0 (fun o16 hl1 h0 => ?_)
       refine XC.loopM (m39_l1 a0 a1) (fun s1 => ⟨[(1, .v (.one (dS a1))), (2, .v (.one (.ptr 0 0))), (7, .v (.one (dI s1.1))), (8, .v (.one (dI s1.2)))], [(0, .cells 24 (cE a0))], [], 1, 67, []⟩) (a0.c, 0) o16 (stle (tR rfl (tR rfl (tR rfl (tR rfl tZ)))) (hR rfl hZ) kZ rfl (Nat.zero_le _) rfl rfl rfl (bB rfl rfl bZ) rfl rfl) hl1 (fun s1 n1 oo1 h1 ho1 => ?_)
       unfold m39_l1 at h1
       refine XC.seq <| XC.seq <| XC.region <| rM rfl rfl rfl <| rR rfl rfl rfl (RO.fieldOwn fo_24_1 rfl) <| rR rfl rfl rfl (RO.loadOwn ag_22 rfl rfl rfl) <| rR rfl rfl rfl (RO.lenE (α := LV) sl_22 rfl (.d _)) <| rR rfl rfl rfl (RO.binInt rfl rfl rfl) <| XL.nil <| XQ.seq ?_
       refine XC.cond (b := (decide (s1.2 < (a0.vs.length : Int)))) rfl (fun c17 => ?_) (fun c17 => ?_)
       ·
        replace h1 := condT c17 h1
        refine XC.skip <| XQ.seq <| XC.seq <| XC.block ?_
        refine XC.anyRun [] [] mixed (by kernel_rfl) (by kernel_rfl) (by kernel_rfl) ?_
        refine RunA.rd rfl rfl rfl (OpOK.of_ro (RO.move rfl)) rfl <| RunA.rd rfl rfl rfl (OpOK.of_ro (RO.move rfl)) rfl <| RunA.rd rfl rfl rfl (OpOK.of_ro (RO.fieldOwn fo_24_1 rfl)) rfl <| RunA.rd rfl rfl rfl (OpOK.of_ro (RO.loadOwn ag_22 rfl rfl rfl)) rfl <| RunA.rd rfl rfl rfl (OpOK.of_ro (RO.move rfl)) rfl ?_
        refine bindK h1 (fun x18 hx18 h1 => ?_)
        refine RunA.rd rfl rfl rfl (OpOK.of_ro (RO.indexE (α := LV) sl_22 rfl (.d _) rfl hx18)) rfl <| RunA.rd rfl rfl rfl (OpOK.of_ro (RO.fieldPel fo_69_0 rfl)) rfl <| RunA.rd rfl rfl rfl (OpOK.of_ro (RO.loadPel ag_3 rfl rfl)) rfl ?_
        refine bindK h1 (fun x19 hx19 h1 => ?_)
        refine RunA.rd rfl rfl rfl (OpOK.of_ro (RO.indexE (α := Int) sl_46 rfl (.d _) rfl hx19)) rfl <| RunA.rd rfl rfl rfl (OpOK.of_ro (RO.loadPel ag_3 rfl rfl)) rfl <| RunA.rd rfl rfl rfl (OpOK.of_ro (RO.fieldOwn fo_24_1 rfl)) rfl <| RunA.rd rfl rfl rfl (OpOK.of_ro (RO.loadOwn ag_22 rfl rfl rfl)) rfl <| RunA.rd rfl rfl rfl (OpOK.of_ro (RO.move rfl)) rfl ?_
        refine bindK h1 (fun x20 hx20 h1 => ?_)
        refine RunA.rd rfl rfl rfl (OpOK.of_ro (RO.indexE (α := LV) sl_22 rfl (.d _) rfl hx20)) rfl <| RunA.rd rfl rfl rfl (OpOK.of_ro (RO.fieldPel fo_69_1 rfl)) rfl <| RunA.rd rfl rfl rfl (OpOK.of_ro (RO.loadPel ag_3 rfl rfl)) rfl <| RunA.rd rfl rfl rfl (OpOK.of_ro (RO.binInt rfl rfl rfl)) rfl <| RunA.rd rfl rfl rfl (OpOK.of_ro (RO.max2 rfl rfl)) rfl <| RunA.rd rfl rfl rfl (OpOK.of_ro (RO.assign rfl)) rfl ?_
        refine RunA.nil ⟨?ex, _, _, rfl, ?_⟩
        case ex => exact trivial
        refine XQ.less (st' := ⟨[(1, .v (.one (dS a1))), (2, .v (.one (.ptr 0 0))), (7, .v (.one (dI (max s1.1 (w64 (x19 + x20.2)))))), (8, .v (.one (dI s1.2)))], [(0, .cells 24 (cE a0))], [], 1, 67, []⟩) (stle (tR rfl (tR rfl (tR rfl (tR rfl tZ)))) (hR rfl hZ) kZ rfl (Nat.zero_le _) rfl rfl rfl (bB rfl rfl bZ) rfl rfl) <| XQ.inBlock <| XQ.seq <| XC.region <| rM rfl rfl rfl <| rR rfl rfl rfl (RO.binInt rfl rfl rfl) <| rA rfl rfl rfl <| XL.nil ?_
        have e_ := Option.some.inj h1
        subst e_
        refine XQ.nextM ((max s1.1 (w64 (x19 + x20.2))), (w64 (s1.2 + 1))) (stle (tR rfl (tR rfl (tR rfl (tR rfl tZ)))) (hR rfl hZ) kZ rfl (Nat.zero_le _) rfl rfl rfl (bB rfl rfl bZ) rfl rfl) ho1
       ·
        replace h1 := condF c17 h1
        refine XC.exit <| XQ.thenE <| XQ.thenE ?_
        have e_ := Option.some.inj h1
        subst e_
        have e_ : _ = _ := ho1
        subst e_
        exact XQ.joinX s1.1 (stle (tR rfl tZ) (hR rfl hZ) kZ rfl (Nat.zero_le _) rfl rfl rfl (bB rfl rfl bZ) rfl rfl) h0
      ·
       intro o15 h0
       refine XQ.blockX <| XQ.seq <| XC.seq <| XC.region <| rM rfl rfl rfl <| rA rfl rfl rfl <| rA rfl rfl rfl <| XL.nil <| XQ.seq <| XC.ret ?_
       have e_ := Option.some.inj h0
       subst e_
       exact XQ.retF (fun _ _ h => h) rfl (RAs.tmp rfl (RAs.tmp rfl .nil)) (.cons (.one (.d _)) (.cons (.one (.d _)) .nil))

def m42_l0 (a0 : List Int) (a1 : List Int) (s1 : Int) : Option (LO Int (Unit ⊕ Bool)) :=
  cond (decide (s1 < (a0.length : Int)))
    (Option.bind (idx a0 s1) fun (x4 : Int) =>
  Option.bind (idx a1 s1) fun (x5 : Int) =>
  cond (x4 != x5)
    (some (.done (.inr false)))
    (some (.next (w64 (s1 + 1)))))
    (some (.done (.inl ())))

/-- slices.Equal[[]int,int] -/
def m42 (a0 : List Int) (a1 : List Int) : Option Bool :=
  cond ((a0.length : Int) != (a1.length : Int))
    (some false)
    (Option.bind (loopN (m42_l0 a0 a1) FUEL 0) (Sum.elim (fun (o2 : Unit) => some true) (fun o => some o)))

set_option maxRecDepth 100000 in
set_option maxHeartbeats 8000000 in
theorem m42_ok (a0 : List Int) (a1 : List Int) (r : Bool) (h0 : m42 a0 a1 = some r) : Fun Tryz.prog 42 [.one (dS a0), .one (dS a1)] (resOf [.one (dB r)]) := by
  unfold m42 at h0
  refine Fun.of_bodyM 9 26 Tryz.func42 rfl en_42 rfl (lb rfl) (fun S w => ?_)
  simp only [entry]
  refine XC.seq <| XC.region <| rA rfl rfl rfl <| XL.nil <| XQ.seq <| XC.seq <| XC.seq <| XC.region <| rM rfl rfl rfl <| rR rfl rfl rfl (RO.lenE (α := Int) sl_46 rfl (.d _)) <| rM rfl rfl rfl <| rR rfl rfl rfl (RO.lenE (α := Int) sl_46 rfl (.d _)) <| rR rfl rfl rfl (RO.binInt rfl rfl rfl) <| XL.nil ?_
  refine XQ.seq ?_
  refine XC.cond (b := ((a0.length : Int) != (a1.length : Int))) rfl (fun c1 => ?_) (fun c1 => ?_)
  ·
   replace h0 := condT c1 h0
   refine XC.seq <| XC.region <| rA rfl rfl rfl <| XL.nil <| XQ.seq <| XC.ret ?_
   have e_ := Option.some.inj h0
   subst e_
   exact XQ.retF (fun _ _ h => h) rfl (RAs.tmp rfl .nil) (.cons (.one (.d _)) .nil)
  ·
   replace h0 := condF c1 h0
   refine XC.skip <| XQ.seq <| XC.seq <| XC.seq <| XC.region <| rM rfl rfl rfl <| rR rfl rfl rfl (RO.lenE (α := Int) sl_46 rfl (.d _)) <| rM rfl rfl rfl <| XL.nil <| XQ.seq <| XC.block ?_
   refine XC.joinX 0 (fun (o2 : Unit) => ⟨[], [], [], 0, 26, []⟩) (fun (o2 : Unit) => (some true) = some r) ?_ ?_
   ·
    refine bindK h0 (fun o3 hl1 h0 => ?_)
    refine XC.loopM (m42_l0 a0 a1) (fun s1 => ⟨[(0, .v (.one (dS a0))), (1, .v (.one (dS a1))), (12, .v (.one (dI (a0.length : Int)))), (13, .v (.one (dI s1)))], [], [], 0, 26, []⟩) 0 o3 (stle (tR rfl (tR rfl (tR rfl (tR rfl tZ)))) hZ kZ rfl (Nat.zero_le _) rfl rfl rfl bZ rfl rfl) hl1 (fun s1 n1 oo1 h1 ho1 => ?_)
    unfold m42_l0 at h1
    refine XC.seq <| XC.region <| rR rfl rfl rfl (RO.binInt rfl rfl rfl) <| XL.nil <| XQ.seq <| XC.seq ?_
    refine XC.cond (b := (decide (s1 < (a0.length : Int)))) rfl (fun c4 => ?_) (fun c4 => ?_)
    ·
     replace h1 := condT c4 h1
     refine XC.skip <| XQ.seq <| XC.seq <| XC.block <| XC.seq <| XC.region <| rM rfl rfl rfl <| rA rfl rfl rfl <| XL.nil <| XQ.seq <| XC.seq ?_
     refine XC.anyRun [] [] mixed (by kernel_rfl) (by kernel_rfl) (by kernel_rfl) ?_
     refine RunA.rd rfl rfl rfl (OpOK.of_ro (RO.move rfl)) rfl <| RunA.rd rfl rfl rfl (OpOK.of_ro (RO.move rfl)) rfl ?_
     refine bindK h1 (fun x5 hx5 h1 => ?_)
     refine RunA.rd rfl rfl rfl (OpOK.of_ro (RO.indexE (α := Int) sl_46 rfl (.d _) rfl hx5)) rfl <| RunA.rd rfl rfl rfl (OpOK.of_ro (RO.loadPel ag_3 rfl rfl)) rfl <| RunA.rd rfl rfl rfl (OpOK.of_ro (RO.move rfl)) rfl <| RunA.rd rfl rfl rfl (OpOK.of_ro (RO.move rfl)) rfl ?_
     refine bindK h1 (fun x6 hx6 h1 => ?_)
     refine RunA.rd rfl rfl rfl (OpOK.of_ro (RO.indexE (α := Int) sl_46 rfl (.d _) rfl hx6)) rfl <| RunA.rd rfl rfl rfl (OpOK.of_ro (RO.loadPel ag_3 rfl rfl)) rfl <| RunA.rd rfl rfl rfl (OpOK.of_ro (RO.binInt rfl rfl rfl)) rfl ?_
     refine RunA.nil ⟨?ex, _, _, rfl, ?_⟩
     case ex => exact trivial
     refine XQ.less (st' := ⟨[(0, .v (.one (dS a0))), (1, .v (.one (dS a1))), (12, .v (.one (dI (a0.length : Int)))), (13, .v (.one (dI s1))), (24, .v (.one (dB (x5 != x6))))], [], [], 0, 26, []⟩) (stle (tR rfl (tR rfl (tR rfl (tR rfl (tR rfl tZ))))) hZ kZ rfl (Nat.zero_le _) rfl rfl rfl bZ rfl rfl) <| XQ.seq ?_
     refine XC.cond (b := (x5 != x6)) rfl (fun c7 => ?_) (fun c7 => ?_)
     ·
      replace h1 := condT c7 h1
      refine XC.seq <| XC.region <| rA rfl rfl rfl <| XL.nil <| XQ.seq <| XC.ret ?_
      have e_ := Option.some.inj h1
      subst e_
      have e_ : _ = _ := ho1
      subst e_
      try dsimp only [Sum.elim_inl, Sum.elim_inr] at h0
      have e_ := Option.some.inj h0
      subst e_
      exact XQ.retF (fun _ _ h => h) rfl (RAs.tmp rfl .nil) (.cons (.one (.d _)) .nil)
     ·
      replace h1 := condF c7 h1
      refine XC.skip <| XQ.inBlock <| XQ.seq <| XC.region <| rR rfl rfl rfl (RO.binInt rfl rfl rfl) <| rM rfl rfl rfl <| XL.nil ?_
      have e_ := Option.some.inj h1
      subst e_
      refine XQ.nextM (w64 (s1 + 1)) (stle (tR rfl (tR rfl (tR rfl (tR rfl tZ)))) hZ kZ rfl (Nat.zero_le _) rfl rfl rfl bZ rfl rfl) ho1
    ·
     replace h1 := condF c4 h1
     refine XC.exit <| XQ.thenE <| XQ.thenE ?_
     have e_ := Option.some.inj h1
     subst e_
     have e_ : _ = _ := ho1
     subst e_
     exact XQ.joinX () (stle tZ hZ kZ rfl (Nat.zero_le _) rfl rfl rfl bZ rfl rfl) h0
   ·
    intro o2 h0
    refine XQ.blockX <| XQ.seq <| XC.seq <| XC.region <| rA rfl rfl rfl <| XL.nil <| XQ.seq <| XC.ret ?_
    have e_ := Option.some.inj h0
    subst e_
    exact XQ.retF (fun _ _ h => h) rfl (RAs.tmp rfl .nil) (.cons (.one (.d _)) .nil)
end

section
open Go.RowKit Go.Shelf
set_option linter.unusedSimpArgs false
set_option linter.unusedVariables false

theorem en_12 : Enters Tryz.prog 12 := enters_of Tryz.func12 (by kernel_rfl) rfl
/-- euclid/euclidlaw01.LevelEvals -/
def m12 (a0 : Lvl) (a1 : List Int) : Option Bool :=
  Option.bind (Option.bind (m13 ([a0])) fun (x2 : Bool) =>
  cond (!x2)
    (some true)
    (some (decide (12 < (a1.length : Int))))) (fun (v1 : Bool) => cond v1
    (some true)
    (Option.bind (m38 a0 a1) fun (x3 : Int × Int) =>
  Option.bind (m39 a0 a1) fun (x4 : Int × Int) =>
  Option.bind (cond (x3.1 == x4.1)
    (cond (x3.2 == x4.2)
    (Option.bind (m40 a0) fun (x8 : Int) =>
  Option.bind (m41 a0) fun (x9 : Int) =>
  cond (x8 == x9)
    (Option.bind (m43 a0) fun (x11 : (List Int)) =>
  Option.bind (m44 a0) fun (x12 : (List Int)) =>
  Option.bind (m42 x11 x12) fun (x13 : Bool) =>
  cond x13
    (some true)
    (some false))
    (some false))
    (some false))
    (some false)) (fun (v5 : Bool) => some v5)))

set_option maxRecDepth 100000 in
set_option maxHeartbeats 8000000 in
theorem m12_ok (a0 : Lvl) (a1 : List Int) (r : Bool) (h0 : m12 a0 a1 = some r) : Fun Tryz.prog 12 [.agg (cE a0), .one (dS a1)] (resOf [.one (dB r)]) := by
  unfold m12 at h0
  refine Fun.of_bodyM 9 56 Tryz.func12 rfl en_12 rfl (lb rfl) (fun S w => ?_)
  simp only [entry]
  refine XC.seq <| XC.region <| XL.put rfl rfl (lb rfl) (OpOK.box rfl) <| rA rfl rfl rfl <| XL.nil <| XQ.seq <| XC.seq <| XC.seq ?_
  refine XC.joinR (fun (v1 : Bool) => ⟨[(1, .v (.one (dS a1))), (2, .v (.one (.ptr 0 0))), (17, .v (.one (dB v1)))], [(0, .cells 24 (cE a0))], [(1, some ⟨24, 2, (Enc.encL ([a0] : List Lvl)).length⟩)], 2, 56, []⟩) (fun (v1 : Bool) => (cond v1
      (some true)
      (Option.bind (m38 a0 a1) fun (x3 : Int × Int) =>
    Option.bind (m39 a0 a1) fun (x4 : Int × Int) =>
    Option.bind (cond (x3.1 == x4.1)
      (cond (x3.2 == x4.2)
      (Option.bind (m40 a0) fun (x8 : Int) =>
    Option.bind (m41 a0) fun (x9 : Int) =>
    cond (x8 == x9)
      (Option.bind (m43 a0) fun (x11 : (List Int)) =>
    Option.bind (m44 a0) fun (x12 : (List Int)) =>
    Option.bind (m42 x11 x12) fun (x13 : Bool) =>
    cond x13
      (some true)
      (some false))
      (some false))
      (some false))
      (some false)) (fun (v5 : Bool) => some v5))) = some r) ?_ ?_
  ·
   refine bindK h0 (fun v_ h1 h0 => ?_)
   refine XC.region <| rR rfl rfl rfl (RO.loadOwnAgg ag_24 rfl rfl rfl rfl) <| XL.put rfl rfl (lb rfl) (OpOK.lit1E (α := Lvl) (a0) sl_55 z_24 rfl rfl (lb rfl) (lb rfl) rfl rfl (.cons (.d _) (.cons (.d _) .nil)) rfl) ?_
   refine bindK h1 (fun x2 hx2 h1 => ?_)
   refine XL.put rfl rfl (lb rfl) (OpOK.callFun (m13_ok ([a0]) x2 hx2) rfl (.cons (.one (.app _ _ _)) .nil)) <| rR rfl rfl rfl (RO.not rfl) <| rM rfl rfl rfl ?_
   refine XL.case (d := 13) (c := (!x2)) rfl (fun c3 => ?_) (fun c3 => ?_)
   ·
    replace h1 := condT c3 h1
    refine XL.no rfl rfl <| XL.no rfl rfl <| XL.no rfl rfl <| rR rfl rfl rfl (RO.pickT rfl rfl) <| XL.nil ?_
    have e_ := Option.some.inj h1
    subst e_
    exact XQ.joinR true (stle (tR rfl (tR rfl (tR rfl tZ))) (hR rfl hZ) (kR rfl kZ) rfl (Nat.zero_le _) rfl rfl rfl (bB rfl rfl bZ) rfl rfl) h0
   ·
    replace h1 := condF c3 h1
    refine rM rfl rfl rfl <| rR rfl rfl rfl (RO.lenE (α := Int) sl_46 rfl (.d _)) <| rR rfl rfl rfl (RO.binInt rfl rfl rfl) <| rR rfl rfl rfl (RO.pickF rfl rfl) <| XL.nil ?_
    have e_ := Option.some.inj h1
    subst e_
    exact XQ.joinR (decide (12 < (a1.length : Int))) (stle (tR rfl (tR rfl (tR rfl tZ))) (hR rfl hZ) (kR rfl kZ) rfl (Nat.zero_le _) rfl rfl rfl (bB rfl rfl bZ) rfl rfl) h0
  ·
   intro v1 h0
   refine XQ.seq ?_
   refine XC.cond (b := v1) rfl (fun c4 => ?_) (fun c4 => ?_)
   ·
    replace h0 := condT c4 h0
    refine XC.seq <| XC.region <| XL.put rfl rfl (lb rfl) (OpOK.callFun (awake_fun) rfl .nil) <| rA rfl rfl rfl <| XL.nil <| XQ.seq <| XC.ret ?_
    have e_ := Option.some.inj h0
    subst e_
    exact XQ.retF (fun _ _ h => h) rfl (RAs.tmp rfl .nil) (.cons (.one (.d _)) .nil)
   ·
    replace h0 := condF c4 h0
    refine XC.skip <| XQ.seq <| XC.seq <| XC.region <| rR rfl rfl rfl (RO.loadOwnAgg ag_24 rfl rfl rfl rfl) <| rM rfl rfl rfl ?_
    refine bindK h0 (fun x5 hx5 h0 => ?_)
    refine XL.put rfl rfl (lb rfl) (OpOK.callFun (m38_ok a0 a1 x5 hx5) rfl (.cons (.agg (.cons (.d _) (.cons (.d _) .nil))) (.cons (.one (.d _)) .nil))) <| rM rfl rfl rfl <| rR rfl rfl rfl (RO.extract rfl rfl) <| rR rfl rfl rfl (RO.extract rfl rfl) <| rA rfl rfl rfl <| rA rfl rfl rfl <| XL.nil <| XQ.seq <| XC.seq <| XC.region <| rR rfl rfl rfl (RO.loadOwnAgg ag_24 rfl rfl rfl rfl) <| rM rfl rfl rfl ?_
    refine bindK h0 (fun x6 hx6 h0 => ?_)
    refine XL.put rfl rfl (lb rfl) (OpOK.callFun (m39_ok a0 a1 x6 hx6) rfl (.cons (.agg (.cons (.d _) (.cons (.d _) .nil))) (.cons (.one (.d _)) .nil))) <| rM rfl rfl rfl <| rR rfl rfl rfl (RO.extract rfl rfl) <| rR rfl rfl rfl (RO.extract rfl rfl) <| rA rfl rfl rfl <| rA rfl rfl rfl <| XL.nil <| XQ.seq <| XC.seq ?_
    refine XC.joinR (fun (v7 : Bool) => ⟨[(4, .v (.one (dB v7)))], [(0, .cells 24 (cE a0))], [(1, some ⟨24, 2, (Enc.encL ([a0] : List Lvl)).length⟩)], 2, 56, []⟩) (fun (v7 : Bool) => (some v7) = some r) ?_ ?_
    ·
     refine bindK h0 (fun v_ h1 h0 => ?_)
     refine XC.anyRun [] [] mixed (by kernel_rfl) (by kernel_rfl) (by kernel_rfl) ?_
     refine RunA.rd rfl rfl rfl (OpOK.of_ro (RO.move rfl)) rfl <| RunA.rd rfl rfl rfl (OpOK.of_ro (RO.move rfl)) rfl <| RunA.rd rfl rfl rfl (OpOK.of_ro (RO.binInt rfl rfl rfl)) rfl ?_
     refine RunA.case (c := (x5.1 == x6.1)) rfl rfl rfl (OpOK.of_ro (RO.move rfl)) rfl (fun c8 => ?_) (fun c8 => ?_)
     ·
      replace h1 := condT c8 h1
      refine RunA.rd rfl rfl rfl (OpOK.of_ro (RO.move rfl)) rfl <| RunA.rd rfl rfl rfl (OpOK.of_ro (RO.move rfl)) rfl <| RunA.rd rfl rfl rfl (OpOK.of_ro (RO.binInt rfl rfl rfl)) rfl <| RunA.rd rfl rfl rfl (OpOK.of_ro (RO.pickT rfl rfl)) rfl ?_
      refine RunA.case (c := (x5.2 == x6.2)) rfl rfl rfl (OpOK.of_ro (RO.move rfl)) rfl (fun c9 => ?_) (fun c9 => ?_)
      ·
       replace h1 := condT c9 h1
       refine RunA.rd rfl rfl rfl (OpOK.of_ro (RO.loadOwnAgg ag_24 rfl rfl rfl rfl)) rfl ?_
       refine bindK h1 (fun x10 hx10 h1 => ?_)
       refine RunA.rd rfl rfl rfl (OpOK.callFun (m40_ok a0 x10 hx10) rfl (.cons (.agg (.cons (.d _) (.cons (.d _) .nil))) .nil)) rfl <| RunA.rd rfl rfl rfl (OpOK.of_ro (RO.loadOwnAgg ag_24 rfl rfl rfl rfl)) rfl ?_
       refine bindK h1 (fun x11 hx11 h1 => ?_)
       refine RunA.rd rfl rfl rfl (OpOK.callFun (m41_ok a0 x11 hx11) rfl (.cons (.agg (.cons (.d _) (.cons (.d _) .nil))) .nil)) rfl <| RunA.rd rfl rfl rfl (OpOK.of_ro (RO.binInt rfl rfl rfl)) rfl <| RunA.rd rfl rfl rfl (OpOK.of_ro (RO.pickT rfl rfl)) rfl ?_
       refine RunA.case (c := (x10 == x11)) rfl rfl rfl (OpOK.of_ro (RO.move rfl)) rfl (fun c12 => ?_) (fun c12 => ?_)
       ·
        replace h1 := condT c12 h1
        refine RunA.rd rfl rfl rfl (OpOK.of_ro (RO.loadOwnAgg ag_24 rfl rfl rfl rfl)) rfl ?_
        refine bindK h1 (fun x13 hx13 h1 => ?_)
        refine RunA.rd rfl rfl rfl (OpOK.callFun (m43_ok a0 x13 hx13) rfl (.cons (.agg (.cons (.d _) (.cons (.d _) .nil))) .nil)) rfl <| RunA.rd rfl rfl rfl (OpOK.of_ro (RO.loadOwnAgg ag_24 rfl rfl rfl rfl)) rfl ?_
        refine bindK h1 (fun x14 hx14 h1 => ?_)
        refine RunA.rd rfl rfl rfl (OpOK.callFun (m44_ok a0 x14 hx14) rfl (.cons (.agg (.cons (.d _) (.cons (.d _) .nil))) .nil)) rfl ?_
        refine bindK h1 (fun x15 hx15 h1 => ?_)
        refine RunA.rd rfl rfl rfl (OpOK.callFun (m42_ok x13 x14 x15 hx15) rfl (.cons (.one (.d _)) (.cons (.one (.d _)) .nil))) rfl <| RunA.rd rfl rfl rfl (OpOK.of_ro (RO.pickT rfl rfl)) rfl ?_
        refine RunA.case (c := x15) rfl rfl rfl (OpOK.of_ro (RO.move rfl)) rfl (fun c16 => ?_) (fun c16 => ?_)
        ·
         replace h1 := condT c16 h1
         refine RunA.rd rfl rfl rfl (OpOK.callFun (awake_fun) rfl .nil) rfl <| RunA.rd rfl rfl rfl (OpOK.of_ro (RO.pickT rfl rfl)) rfl <| RunA.rd rfl rfl rfl (OpOK.of_ro (RO.assign rfl)) rfl ?_
         refine RunA.nil ⟨?ex, _, _, rfl, ?_⟩
         case ex => exact trivial
         have e_ := Option.some.inj h1
         subst e_
         exact XQ.joinR true (stle (tR rfl tZ) (hR rfl hZ) (kR rfl kZ) rfl (Nat.zero_le _) rfl rfl rfl (bB rfl rfl bZ) rfl rfl) h0
        ·
         replace h1 := condF c16 h1
         refine RunA.no rfl rfl rfl rfl <| RunA.rd rfl rfl rfl (OpOK.of_ro (RO.pickF rfl rfl)) rfl <| RunA.rd rfl rfl rfl (OpOK.of_ro (RO.assign rfl)) rfl ?_
         refine RunA.nil ⟨?ex, _, _, rfl, ?_⟩
         case ex => exact trivial
         have e_ := Option.some.inj h1
         subst e_
         exact XQ.joinR false (stle (tR rfl tZ) (hR rfl hZ) (kR rfl kZ) rfl (Nat.zero_le _) rfl rfl rfl (bB rfl rfl bZ) rfl rfl) h0
       ·
        replace h1 := condF c12 h1
        refine RunA.no rfl rfl rfl rfl <| RunA.no rfl rfl rfl rfl <| RunA.no rfl rfl rfl rfl <| RunA.no rfl rfl rfl rfl <| RunA.no rfl rfl rfl rfl <| RunA.rd rfl rfl rfl (OpOK.of_ro (RO.pickF rfl rfl)) rfl <| RunA.rd rfl rfl rfl (OpOK.of_ro (RO.move rfl)) rfl <| RunA.no rfl rfl rfl rfl <| RunA.rd rfl rfl rfl (OpOK.of_ro (RO.pickF rfl rfl)) rfl <| RunA.rd rfl rfl rfl (OpOK.of_ro (RO.assign rfl)) rfl ?_
        refine RunA.nil ⟨?ex, _, _, rfl, ?_⟩
        case ex => exact trivial
        have e_ := Option.some.inj h1
        subst e_
        exact XQ.joinR false (stle (tR rfl tZ) (hR rfl hZ) (kR rfl kZ) rfl (Nat.zero_le _) rfl rfl rfl (bB rfl rfl bZ) rfl rfl) h0
      ·
       replace h1 := condF c9 h1
       refine RunA.no rfl rfl rfl rfl <| RunA.no rfl rfl rfl rfl <| RunA.no rfl rfl rfl rfl <| RunA.no rfl rfl rfl rfl <| RunA.no rfl rfl rfl rfl <| RunA.rd rfl rfl rfl (OpOK.of_ro (RO.pickF rfl rfl)) rfl <| RunA.rd rfl rfl rfl (OpOK.of_ro (RO.move rfl)) rfl <| RunA.no rfl rfl rfl rfl <| RunA.no rfl rfl rfl rfl <| RunA.no rfl rfl rfl rfl <| RunA.no rfl rfl rfl rfl <| RunA.no rfl rfl rfl rfl <| RunA.rd rfl rfl rfl (OpOK.of_ro (RO.pickF rfl rfl)) rfl <| RunA.rd rfl rfl rfl (OpOK.of_ro (RO.move rfl)) rfl ?_
       refine RunA.no rfl rfl rfl rfl <| RunA.rd rfl rfl rfl (OpOK.of_ro (RO.pickF rfl rfl)) rfl <| RunA.rd rfl rfl rfl (OpOK.of_ro (RO.assign rfl)) rfl ?_
       refine RunA.nil ⟨?ex, _, _, rfl, ?_⟩
       case ex => exact trivial
       have e_ := Option.some.inj h1
       subst e_
       exact XQ.joinR false (stle (tR rfl tZ) (hR rfl hZ) (kR rfl kZ) rfl (Nat.zero_le _) rfl rfl rfl (bB rfl rfl bZ) rfl rfl) h0
     ·
      replace h1 := condF c8 h1
      refine RunA.no rfl rfl rfl rfl <| RunA.no rfl rfl rfl rfl <| RunA.no rfl rfl rfl rfl <| RunA.rd rfl rfl rfl (OpOK.of_ro (RO.pickF rfl rfl)) rfl <| RunA.rd rfl rfl rfl (OpOK.of_ro (RO.move rfl)) rfl <| RunA.no rfl rfl rfl rfl <| RunA.no rfl rfl rfl rfl <| RunA.no rfl rfl rfl rfl <| RunA.no rfl rfl rfl rfl <| RunA.no rfl rfl rfl rfl <| RunA.rd rfl rfl rfl (OpOK.of_ro (RO.pickF rfl rfl)) rfl <| RunA.rd rfl rfl rfl (OpOK.of_ro (RO.move rfl)) rfl <| RunA.no rfl rfl rfl rfl <| RunA.no rfl rfl rfl rfl ?_
      refine RunA.no rfl rfl rfl rfl <| RunA.no rfl rfl rfl rfl <| RunA.no rfl rfl rfl rfl <| RunA.rd rfl rfl rfl (OpOK.of_ro (RO.pickF rfl rfl)) rfl <| RunA.rd rfl rfl rfl (OpOK.of_ro (RO.move rfl)) rfl <| RunA.no rfl rfl rfl rfl <| RunA.rd rfl rfl rfl (OpOK.of_ro (RO.pickF rfl rfl)) rfl <| RunA.rd rfl rfl rfl (OpOK.of_ro (RO.assign rfl)) rfl ?_
      refine RunA.nil ⟨?ex, _, _, rfl, ?_⟩
      case ex => exact trivial
      have e_ := Option.some.inj h1
      subst e_
      exact XQ.joinR false (stle (tR rfl tZ) (hR rfl hZ) (kR rfl kZ) rfl (Nat.zero_le _) rfl rfl rfl (bB rfl rfl bZ) rfl rfl) h0
    ·
     intro v7 h0
     refine XQ.seq <| XC.ret ?_
     have e_ := Option.some.inj h0
     subst e_
     exact XQ.retF (fun _ _ h => h) rfl (RAs.tmp rfl .nil) (.cons (.one (.d _)) .nil)
end

section
open Go.RowKit
set_option linter.unusedSimpArgs false
set_option linter.unusedVariables false

theorem m43_eq (L : Lvl) (hl : L.vs.length ≤ 100000) : m43 L = some (metL L) := by
  unfold m43
  have hg : Nat.ble L.vs.length 100000 = true := Nat.ble_eq_true_of_le hl
  rw [hg]
  simp only [guardO, cond_true]
  unfold metL
  cases hv : validB L with
  | false => rfl
  | true =>
    simp only [cond_true, if_pos, Option.bind_some]
    have key := loop_spec (step := m43_l0 L) (fun s => -1 ≤ s.1 ∧ s.1 < L.vs.length ∧ s.2.length ≤ L.vs.length ∧ ((s.2.length : Int) + s.1 + 1 ≤ L.vs.length)) (fun s => (s.1 + 1).toNat) (fun s => s.2 ++ metGo (L.vs.take (s.1 + 1).toNat)) (fun s hs => by
      obtain ⟨i, out⟩ := s
      dsimp only at hs ⊢
      unfold m43_l0
      dsimp only
      by_cases h0 : 0 ≤ i
      · right
        obtain ⟨x, hx⟩ : ∃ x, L.vs[i.toNat]? = some x := ⟨_, List.getElem?_eq_getElem (by omega)⟩
        have hb := valid_okVar hv hx
        have ht := metGo_take hx
        rw [decide_eq_true h0, cond_true, idx_nat h0 hx]
        have e1 : (i + 1).toNat = i.toNat + 1 := by omega
        rw [e1, ht]
        by_cases hn : x.1 < 0
        · have hgg : Nat.ble (out.length + [w64 (-1 - x.1)].length) 1000000000 = true := Nat.ble_eq_true_of_le (by simp; omega)
          simp only [Option.bind_some, decide_eq_true hn, cond_true, hgg, guardO, if_pos hn]
          refine ⟨_, rfl, ?_⟩
          dsimp only
          rw [w64_id (n := i - 1) (by omega) (by omega), w64_id (n := -1 - x.1) (by omega) (by omega)]
          refine ⟨⟨by omega, by omega, by simp; omega, by simp; omega⟩, by omega, ?_⟩
          rw [show (i - 1 + 1).toNat = i.toNat by omega, List.append_assoc]
        · simp only [Option.bind_some, decide_eq_false hn, cond_false, if_neg hn, List.nil_append]
          refine ⟨_, rfl, ?_⟩
          dsimp only
          rw [w64_id (n := i - 1) (by omega) (by omega)]
          refine ⟨⟨by omega, by omega, by omega, by omega⟩, by omega, ?_⟩
          rw [show (i - 1 + 1).toNat = i.toNat by omega]
      · left
        rw [decide_eq_false h0, cond_false, show (i + 1).toNat = 0 by omega]
        simp [metGo])
    rw [w64_id (by omega) (by omega)]
    rw [key FUEL ((L.vs.length : Int) - 1, []) ⟨by dsimp only; omega, by dsimp only; omega, by simp, by simp⟩ (by dsimp only; unfold FUEL; omega)]
    simp only [Option.bind_some, List.nil_append]
    rw [show ((L.vs.length : Int) - 1 + 1).toNat = L.vs.length by omega, List.take_length]

theorem m44_eq (L : Lvl) (hl : L.vs.length ≤ 100000) : m44 L = some (metL L) := by
  unfold m44 metL
  rw [guard_t (ble_t hl)]
  cases hv : validB L with
  | false => rfl
  | true =>
    simp only [Bool.not_true, cond_false, if_true]
    have key := loop_spec (step := m44_l0 L) (fun s => -1 ≤ s.2 ∧ s.2 < L.vs.length ∧ (s.1.length : Int) ≤ L.vs.length - 1 - s.2) (fun s => (s.2 + 1).toNat) (fun s => s.1 ++ metGo (L.vs.take (s.2 + 1).toNat)) (fun s hs => by
      obtain ⟨o, i⟩ := s
      obtain ⟨h0, h1, h2⟩ := hs
      dsimp only at h0 h1 h2 ⊢
      unfold m44_l0
      dsimp only
      by_cases hn : 0 ≤ i
      · obtain ⟨k, rfl⟩ := Int.eq_ofNat_of_zero_le hn
        obtain ⟨x, hx⟩ : ∃ x, L.vs[k]? = some x := ⟨_, List.getElem?_eq_getElem (by omega)⟩
        have ho := valid_okVar hv hx
        have e : ((k : Int) + 1).toNat = k + 1 := by omega
        have e2 : ((k : Int) - 1 + 1).toNat = k := by omega
        right
        rw [decide_eq_true hn, cond_true, idx_nat hn (by simpa using hx), Option.bind_some, Option.bind_some, e, metGo_take hx]
        by_cases hx0 : x.1 < 0
        · rw [decide_eq_true hx0, cond_true, guard_t (ble_t (by simp; omega)), w64_id (n := (k : Int) - 1) (by omega) (by omega), w64_id (n := -1 - x.1) (by omega) (by omega), if_pos hx0]
          refine ⟨_, rfl, ⟨by dsimp only; omega, by dsimp only; omega, by simp; omega⟩, by dsimp only; omega, ?_⟩
          dsimp only
          rw [e2, List.append_assoc]
        · rw [decide_eq_false hx0, cond_false, w64_id (n := (k : Int) - 1) (by omega) (by omega), if_neg hx0]
          refine ⟨_, rfl, ⟨by dsimp only; omega, by dsimp only; omega, by dsimp only; omega⟩, by dsimp only; omega, ?_⟩
          dsimp only
          rw [e2, List.nil_append]
      · left
        rw [decide_eq_false hn, cond_false]
        have e : (i + 1).toNat = 0 := by omega
        rw [e]
        simp [metGo]) FUEL (([] : List Int), w64 ((L.vs.length : Int) - 1)) (by rw [w64_id (by omega) (by omega)]; simp; omega) (by rw [w64_id (by omega) (by omega)]; unfold FUEL; dsimp only; omega)
    rw [key, w64_id (by omega) (by omega), Option.bind_some]
    have e : ((L.vs.length : Int) - 1 + 1).toNat = L.vs.length := by omega
    dsimp only
    rw [e, List.take_length, List.nil_append]

/-- one more than the greatest parameter -/
def parL (L : Lvl) : Int := if validB L then (match L.vs.getLast? with
  | some x => max 0 (x.1 + 1)
  | none => 0) else 0
theorem last_idx {l : List LV} (hl : l.length ≤ 100000) (hne : l ≠ []) : ∃ x, l.getLast? = some x ∧ idx l (w64 ((l.length : Int) - 1)) = some x ∧ x ∈ l := by
  have hp := List.length_pos_iff.2 hne
  refine ⟨l.getLast hne, List.getLast?_eq_some_getLast hne, ?_, List.getLast_mem hne⟩
  rw [w64_id (by omega) (by omega)]
  refine idx_nat (by omega) ?_
  have e : ((l.length : Int) - 1).toNat = l.length - 1 := by omega
  rw [e, ← List.getLast?_eq_getElem?, List.getLast?_eq_some_getLast hne]
theorem m40_eq {L : Lvl} (hl : L.vs.length ≤ 100000) : m40 L = some (parL L) ∧ m41 L = some (parL L) := by
  unfold m40 m41 parL
  rw [guard_t (ble_t hl), guard_t (ble_t hl)]
  cases hv : validB L with
  | false => exact ⟨rfl, rfl⟩
  | true =>
    simp only [Bool.not_true, cond_false, cond_true, if_true]
    by_cases hne : L.vs = []
    · rw [hne]; exact ⟨rfl, rfl⟩
    · have hp := List.length_pos_iff.2 hne
      obtain ⟨x, h1, h2, h3⟩ := last_idx hl hne
      have ho := okV_valid hv h3
      unfold okV at ho
      have e1 : decide (0 < (L.vs.length : Int)) = true := decide_eq_true (by omega)
      have e2 : ((L.vs.length : Int) == 0) = false := by simpa using hne
      rw [e1, e2, Option.bind_some, Option.bind_some, cond_true, cond_false, h2, Option.bind_some, h1, w64_id (by omega) (by omega)]
      exact ⟨rfl, rfl⟩
theorem par_lt {L : Lvl} (hv : validB L = true) {n : Int} (h : parL L ≤ n) : ∀ x ∈ L.vs, x.1 < n := by
  intro x hx
  have hne : L.vs ≠ [] := fun e => by rw [e] at hx; cases hx
  unfold parL at h
  rw [if_pos hv, List.getLast?_eq_some_getLast hne] at h
  dsimp only at h
  have hle : x.1 ≤ (L.vs.getLast hne).1 := by
    have hw := (wf_valid hv).1
    rw [← List.dropLast_concat_getLast hne] at hx hw
    rcases List.mem_append.1 hx with h1 | h1
    · have := (List.pairwise_append.1 hw).2.2 x h1 _ (List.mem_singleton_self _)
      omega
    · rw [List.mem_singleton.1 h1]; exact Int.le_refl _
  omega

def badP (x : Int) : Bool := decide (x < 0) || decide (1000000 < x)
def evF (ps : List Int) (s : Int) (x : LV) : Int := max s (w64 (ps.getD x.1.toNat 0 + x.2))
def evL (L : Lvl) (ps : List Int) : Int × Int := if validB L then (if ps.any badP then (0, 2) else if metL L ≠ [] then (0, 23) else if (ps.length : Int) < parL L then (0, 24) else (L.vs.foldl (evF ps) L.c, 0)) else (0, 3)
theorem met_nil {L : Lvl} (hv : validB L = true) (h : metL L = []) : ∀ x ∈ L.vs, 0 ≤ x.1 := by
  unfold metL at h
  rw [if_pos hv] at h
  have : ∀ l : List LV, metGo l = [] → ∀ x ∈ l, 0 ≤ x.1 := by
    intro l
    induction l with
    | nil => intro _ x hx; cases hx
    | cons y l ih =>
      intro h x hx
      unfold metGo at h
      have h2 := List.append_eq_nil_iff.1 h
      rcases List.mem_cons.1 hx with rfl | hx
      · refine Int.not_lt.1 fun hn => ?_
        have := h2.2
        rw [if_pos hn] at this
        cases this
      · exact ih h2.1 x hx
  exact this _ h
theorem m38_eq {L : Lvl} {ps : List Int} (hl : L.vs.length ≤ 100000) (hp : ps.length ≤ 900000) : m38 L ps = some (evL L ps) := by
  unfold m38 evL
  rw [guard_t (ble_t hl)]
  cases hv : validB L with
  | false => rfl
  | true =>
    simp only [Bool.not_true, cond_false, if_true]
    have key := scan_loop (step := m38_l0 ps) (l := ps) (fun k x => if badP x then some (k : Int) else none) hp (fun k x hx => by
      have hk := (List.getElem?_eq_some_iff.1 hx).1
      unfold m38_l0 badP
      rw [decide_eq_true (by omega : (k : Int) < ps.length), cond_true, idx_nat (Int.natCast_nonneg _) (by simpa using hx), Option.bind_some]
      cases decide (x < 0) <;> cases decide (1000000 < x) <;> rfl) (by unfold m38_l0; rw [decide_eq_false (by omega), cond_false])
    rw [key]
    have h1 := firstR_any (p := badP) (g := fun k => (k : Int)) ps 0
    cases hb : ps.any badP with
    | true =>
      rw [hb] at h1
      obtain ⟨n, hn⟩ := Option.isSome_iff_exists.1 h1
      have h0 := firstR_ge (p := badP) _ _ _ hn
      rw [hn]
      simp only [sumR, Option.bind_some, Sum.elim_inr, decide_eq_true h0]
      rfl
    | false =>
      rw [hb] at h1
      have hn : firstR (fun k x => if badP x then some (k : Int) else none) ps 0 = none := by
        cases h : firstR (fun k x => if badP x then some (k : Int) else none) ps 0 with
        | none => rfl
        | some n => rw [h] at h1; cases h1
      rw [hn]
      simp only [sumR, Option.bind_some, Sum.elim_inl]
      rw [show decide (0 ≤ (-1 : Int)) = false from rfl, cond_false, m43_eq L hl, Option.bind_some]
      by_cases hm : metL L = []
      · rw [hm, (m40_eq hl).1]
        simp only [List.length_nil, Option.bind_some]
        rw [show decide (0 < ((0 : Nat) : Int)) = false from rfl, cond_false]
        by_cases hq : (ps.length : Int) < parL L
        · rw [decide_eq_true hq, cond_true]; simp [hq]
        · rw [decide_eq_false hq, cond_false]
          have hlt := par_lt hv (Int.not_lt.1 hq)
          have hge := met_nil hv hm
          have k2 := fold_loopG (step := m38_l1 L ps) (l := L.vs) (fun i (s : Int) => (s, i)) (fun s => s) (evF ps) (fun _ _ => True) (by omega) (fun k x s hx _ => by
            have hk := (List.getElem?_eq_some_iff.1 hx).1
            have hx1 := hlt x (List.mem_of_getElem? hx)
            have hx2 := hge x (List.mem_of_getElem? hx)
            obtain ⟨p, hpp⟩ : ∃ p, ps[x.1.toNat]? = some p := ⟨_, List.getElem?_eq_getElem (by omega)⟩
            refine ⟨?_, trivial⟩
            unfold m38_l1
            dsimp only
            rw [decide_eq_true (by omega : (k : Int) < L.vs.length), cond_true, idx_nat (Int.natCast_nonneg _) (by simpa using hx), Option.bind_some, idx_nat hx2 hpp, Option.bind_some]
            unfold evF
            rw [List.getD_eq_getElem?_getD, hpp]
            rfl) (fun s _ => by unfold m38_l1; dsimp only; rw [decide_eq_false (by omega), cond_false]) L.c trivial
          have k3 : loopN (m38_l1 L ps) FUEL (L.c, 0) = some (L.vs.foldl (evF ps) L.c) := k2
          rw [k3]
          simp [hq]
      · have e : decide (0 < ((metL L).length : Int)) = true := decide_eq_true (by have := List.length_pos_iff.2 hm; omega)
        rw [e, cond_true]
        simp [hm]
theorem m39_eq {L : Lvl} {ps : List Int} (hl : L.vs.length ≤ 100000) (hp : ps.length ≤ 900000) : m39 L ps = some (evL L ps) := by
  unfold m39 evL
  rw [guard_t (ble_t hl)]
  cases hv : validB L with
  | false => rfl
  | true =>
    simp only [Bool.not_true, cond_false, if_true]
    have key := scan_loop (step := m39_l0 ps) (l := ps) (fun _ x => if !(!(badP x)) then some ((0 : Int), (2 : Int)) else none) hp (fun k x hx => by
      have hk := (List.getElem?_eq_some_iff.1 hx).1
      unfold m39_l0 badP
      rw [decide_eq_true (by omega : (k : Int) < ps.length), cond_true, idx_nat (Int.natCast_nonneg _) (by simpa using hx), Option.bind_some, Option.bind_some]
      cases decide (x < 0) <;> cases decide (1000000 < x) <;> rfl) (by unfold m39_l0; rw [decide_eq_false (by omega), cond_false])
    rw [key, firstR_const (p := fun x => !(badP x))]
    have e0 : (ps.all fun x => !(badP x)) = !(ps.any badP) := by
      rw [Bool.eq_iff_iff]; simp [List.all_eq_true]
    rw [e0]
    cases hb : ps.any badP with
    | true => rfl
    | false =>
      simp only [Bool.not_false, if_true, sumR, Option.bind_some, Sum.elim_inl]
      rw [m44_eq L hl, Option.bind_some]
      by_cases hm : metL L = []
      · rw [hm, (m40_eq hl).2]
        simp only [List.length_nil, Option.bind_some]
        rw [show decide (0 < ((0 : Nat) : Int)) = false from rfl, cond_false]
        by_cases hq : (ps.length : Int) < parL L
        · rw [decide_eq_true hq, cond_true]; simp [hq]
        · rw [decide_eq_false hq, cond_false]
          have hlt := par_lt hv (Int.not_lt.1 hq)
          have hge := met_nil hv hm
          have k2 := fold_loopG (step := m39_l1 L ps) (l := L.vs) (fun i (s : Int) => (s, i)) (fun s => s) (evF ps) (fun _ _ => True) (by omega) (fun k x s hx _ => by
            have hk := (List.getElem?_eq_some_iff.1 hx).1
            have hx1 := hlt x (List.mem_of_getElem? hx)
            have hx2 := hge x (List.mem_of_getElem? hx)
            obtain ⟨p, hpp⟩ : ∃ p, ps[x.1.toNat]? = some p := ⟨_, List.getElem?_eq_getElem (by omega)⟩
            refine ⟨?_, trivial⟩
            unfold m39_l1
            dsimp only
            rw [decide_eq_true (by omega : (k : Int) < L.vs.length), cond_true, idx_nat (Int.natCast_nonneg _) (by simpa using hx), Option.bind_some, idx_nat hx2 hpp, Option.bind_some, Option.bind_some]
            unfold evF
            rw [List.getD_eq_getElem?_getD, hpp]
            rfl) (fun s _ => by unfold m39_l1; dsimp only; rw [decide_eq_false (by omega), cond_false]) L.c trivial
          have k3 : loopN (m39_l1 L ps) FUEL (L.c, 0) = some (L.vs.foldl (evF ps) L.c) := k2
          rw [k3]
          simp [hq]
      · have e : decide (0 < ((metL L).length : Int)) = true := decide_eq_true (by have := List.length_pos_iff.2 hm; omega)
        rw [e, cond_true]
        simp [hm]
theorem m42_refl {l : List Int} (h : l.length ≤ 900000) : m42 l l = some true := by
  unfold m42
  have key := scan_loop (step := m42_l0 l l) (l := l) (β := Bool) (fun _ _ => none) h (fun k x hx => by
    have hk := (List.getElem?_eq_some_iff.1 hx).1
    unfold m42_l0
    rw [decide_eq_true (by omega : (k : Int) < l.length), cond_true, idx_nat (Int.natCast_nonneg _) (by simpa using hx), Option.bind_some, Option.bind_some]
    simp) (by unfold m42_l0; rw [decide_eq_false (by omega), cond_false])
  rw [key, firstR_none]
  simp [sumR]
theorem metGo_len : ∀ l : List LV, (metGo l).length ≤ l.length
  | [] => Nat.le_refl _
  | x :: l => by
    have := metGo_len l
    unfold metGo
    rw [List.length_append]
    split <;> simp <;> omega
theorem met_len (L : Lvl) : (metL L).length ≤ L.vs.length := by
  unfold metL
  split
  · exact metGo_len _
  · exact Nat.zero_le _
theorem m12_eq (a0 : Lvl) (a1 : List Int) : m12 a0 a1 = some true := by
  unfold m12
  rw [m13_eq (by simp), Option.bind_some]
  cases hf : few12 [a0] with
  | false => rfl
  | true =>
    have h0 := few_len hf (x := a0) (by simp)
    simp only [Bool.not_true, cond_false]
    by_cases hq : 12 < (a1.length : Int)
    · rw [decide_eq_true hq]; rfl
    · have hm := met_len a0
      rw [decide_eq_false hq, Option.bind_some, cond_false, m38_eq (by omega) (by omega), m39_eq (by omega) (by omega), (m40_eq (by omega)).1, (m40_eq (by omega)).2, m43_eq a0 (by omega), m44_eq a0 (by omega)]
      simp only [Option.bind_some]
      rw [m42_refl (by omega)]
      simp
end

end Go.Proofs.YtcapifnaceegmaaGreatDoor
