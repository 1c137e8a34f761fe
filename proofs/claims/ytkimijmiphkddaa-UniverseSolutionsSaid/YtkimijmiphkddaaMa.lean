/- Mirrors of layer 2: Check and its reference. -/
import Derived.Test.YtkimijmiphkddaaOwn
import Derived.Test.YtkimijmiphkddaaMc
namespace Go.Proofs.Ytkimijmiphkddaa
open Go.RowKit Go.Shelf
set_option linter.unusedSimpArgs false
set_option linter.unusedVariables false

theorem ag_66 : tyAgg Try.prog 66 = some (false, 1) := by kernel_rfl
theorem z_3 : tyZero Try.prog 3 = some [.int .i64 0] := by kernel_rfl
theorem z_41 : tyZero Try.prog 41 = some [.int .i64 0, .slice none 0 0, .int .i64 0, .slice none 0 0] := by kernel_rfl
theorem z_66 : tyZero Try.prog 66 = some [.slice none 0 0] := by kernel_rfl
theorem el_3 : tyElem Try.prog 3 = some (1, 8) := by kernel_rfl
theorem en_13 : Enters Try.prog 13 := enters_of Try.func13 (by kernel_rfl) rfl
theorem en_14 : Enters Try.prog 14 := enters_of Try.func14 (by kernel_rfl) rfl
theorem en_29 : Enters Try.prog 29 := enters_of Try.func29 (by kernel_rfl) rfl
theorem en_38 : Enters Try.prog 38 := enters_of Try.func38 (by kernel_rfl) rfl
theorem en_53 : Enters Try.prog 53 := enters_of Try.func53 (by kernel_rfl) rfl
theorem en_60 : Enters Try.prog 60 := enters_of Try.func60 (by kernel_rfl) rfl
theorem en_79 : Enters Try.prog 79 := enters_of Try.func79 (by kernel_rfl) rfl
noncomputable def m38_c0 : Code := (cA (cA (cB (cA (cB (cA (cB (cB (bodyC Try.f38)))))))))

noncomputable def m38_c1 : Code := (cB (cA (cB (cA (cB (cA (cB (cB (bodyC Try.f38)))))))))

def m38_l0 (a0 : Lvl) (s2 : Int × (List Int)) : Option (LO (Int × (List Int)) (((List Int)))) :=
  cond (decide (0 ≤ s2.1))
    (Option.bind (idx a0.vs s2.1) fun (x9 : LV) =>
  Option.bind (cond (decide (x9.1 < 0))
    (guardO (Nat.ble (s2.2.length + ([(w64 ((-1) - x9.1))]).length) 1000000000)
  (some (s2.2 ++ ([(w64 ((-1) - x9.1))]))))
    (some s2.2)) (fun (y10 : (List Int)) => some (.next ((w64 (s2.1 - 1)), y10))))
    (some (.done s2.2))

/-- euclid/level.Metas -/
def m38 (a0 : Lvl) : Option ((List Int)) :=
  guardO (Nat.ble a0.vs.length 100000)
  (cond (validB a0)
    (Option.bind (some ()) (fun (y3 : Unit) => Option.bind (Option.bind (loopN (m38_l0 a0) FUEL ((w64 ((a0.vs.length : Int) - 1)), ([] : List Int))) (fun (o7 : (List Int)) => some o7)) (fun (y5 : (List Int)) => some y5)))
    (some ([] : List Int)))

set_option maxRecDepth 100000 in
set_option maxHeartbeats 8000000 in
theorem m38_ok (a0 : Lvl) (r : (List Int)) (h0 : m38 a0 = some r) : Fun Try.prog 38 [.agg (cE a0)] (resOf [.one (dS r)]) := by
  unfold m38 at h0
  refine Fun.of_bodyM 9 23 Try.func38 rfl en_38 rfl (lb rfl) (fun S w => ?_)
  simp only [entry]
  refine XC.seq <| XC.region <| XL.put rfl rfl (lb rfl) (OpOK.box rfl) <| rA rfl rfl rfl <| XL.nil <| XQ.seq <| XC.seq <| XC.region <| XL.put rfl rfl (lb rfl) (OpOK.alloc z_66 rfl) <| XL.nil <| XQ.seq <| XC.seq <| XC.seq <| XC.region ?_
  refine rR rfl rfl rfl (RO.loadOwnAgg ag_39 rfl rfl rfl rfl) ?_
  refine guardK h0 (fun g1 h0 => ?_)
  refine XL.put rfl rfl (lb rfl) (OpOK.callFun (valid_fun a0 (Nat.le_of_ble_eq_true g1)) rfl (.cons (.agg (.cons (.d _) (.cons (.d _) .nil))) .nil)) ?_
  refine XL.nil <| XQ.seq ?_
  refine XC.cond (b := (validB a0)) rfl (fun c2 => ?_) (fun c2 => ?_)
  ·
   replace h0 := condT c2 h0
   refine XC.seq <| XC.region <| rR rfl rfl rfl (RO.fieldOwn fo_39_1 rfl) <| rR rfl rfl rfl (RO.loadOwn ag_37 rfl rfl rfl) ?_
   refine bindK h0 (fun y3 h1 h0 => ?_)
   have hc4 : CallM Try.prog 60 [.one (dS a0.vs)] ⟨[(0, .cells 39 (cE a0)), (1, .cells 66 [dN])], [], 2⟩ (resOf [.one (.fn 79 [(2, 0)])]) ⟨[(0, .cells 39 (cE a0)), (1, .cells 66 [dN]), (2, .cells 37 [dS a0.vs])], [], 3⟩ := by
    refine CallM.of_bodyD ⟨[(2, .v (.one (.fn 79 [(2, 0)])))], [(0, .cells 39 (cE a0)), (1, .cells 66 [dN]), (2, .cells 37 [dS a0.vs])], [], 3, 4, []⟩ rfl rfl en_60 (lb rfl) rfl (RAs.tmp rfl .nil) (fun w0 M V0 Q hv1 hQ1 => ?_)
    simp only [entry]
    refine XC.seq <| XC.region <| XL.put rfl rfl (lb rfl) (OpOK.box rfl) <| rA rfl rfl rfl <| XL.nil <| XQ.seq <| XC.seq <| XC.region <| rR rfl rfl rfl (RO.makeFunc1 rfl) <| rA rfl rfl rfl <| XL.nil <| XQ.seq <| XC.ret ?_
    have e_ := Option.some.inj h1
    subst e_
    exact hQ1 _ _ _ (.inr rfl) rfl (stle (tR rfl tZ) (hR rfl (hR rfl (hR rfl hZ))) kZ rfl (Nat.le_trans hv1 (lb rfl)) rfl rfl rfl (bB rfl rfl (bB rfl rfl (bB rfl rfl bZ))) rfl rfl)
   refine XL.put rfl rfl (lb rfl) (OpOK.callW rfl rfl rfl hc4 rfl (hR rfl (hR rfl hZ)) kZ) <| XL.nil <| XQ.seq <| XC.block <| XC.less (st' := ⟨[(3, .v (.one (.ptr 1 0))), (10, .v (.one (.fn 79 [(2, 0)])))], [(0, .cells 39 (cE a0)), (1, .cells 66 [dN]), (2, .cells 37 [dS a0.vs])], [], 3, 23, []⟩) (stle (tR rfl (tR rfl tZ)) (hR rfl (hR rfl (hR rfl hZ))) kZ rfl (Nat.zero_le _) rfl rfl rfl (bB rfl rfl (bB rfl rfl (bB rfl rfl bZ))) rfl rfl) ?_
   refine bindK h0 (fun y5 h1 h0 => ?_)
   have hc6 : CallM Try.prog 79 [.one (.yld 4), .one (.ptr 2 0)] ⟨[(4, .loop .ready none [(3, .v (.one (.ptr 1 0))), (10, .v (.one (.fn 79 [(2, 0)])))] 23 #[11, 12] m38_c0 m38_c1 3), (3, .obj (.deferred (some []))), (0, .cells 39 (cE a0)), (1, .cells 66 [dN]), (2, .cells 37 [dS a0.vs])], [], 5⟩ (resOf []) ⟨[(0, .cells 39 (cE a0)), (1, .cells 66 [dA 5 y5]), (2, .cells 37 [dS a0.vs]), (3, .obj (.deferred (some []))), (4, .loop .ready none [(3, .v (.one (.ptr 1 0))), (10, .v (.one (.fn 79 [(2, 0)])))] 23 #[11, 12] m38_c0 m38_c1 3)], [(5, some ⟨3, 1, (Enc.encL y5).length⟩)], 6⟩ := by
    refine CallM.of_bodyD ⟨[], [(0, .cells 39 (cE a0)), (1, .cells 66 [dA 5 y5]), (2, .cells 37 [dS a0.vs]), (3, .obj (.deferred (some []))), (4, .loop .ready none [(3, .v (.one (.ptr 1 0))), (10, .v (.one (.fn 79 [(2, 0)])))] 23 #[11, 12] m38_c0 m38_c1 3)], [(5, some ⟨3, 1, (Enc.encL y5).length⟩)], 6, 19, []⟩ rfl rfl en_79 (lb rfl) rfl .nil (fun w0 M V0 Q hv1 hQ1 => ?_)
    simp only [entry]
    refine XC.seq <| XC.region <| rR rfl rfl rfl (RO.loadOwn ag_37 rfl rfl rfl) <| rR rfl rfl rfl (RO.lenE (α := LV) sl_37 rfl (.d _)) <| rR rfl rfl rfl (RO.binInt rfl rfl rfl) <| rA rfl rfl rfl <| XL.nil <| XQ.seq <| XC.block ?_
    refine XC.joinX 0 (fun (o7 : (List Int)) => ⟨[], [(0, .cells 39 (cE a0)), (1, .cells 66 [dA 5 o7]), (2, .cells 37 [dS a0.vs]), (3, .obj (.deferred (some []))), (4, .loop .ready none [(3, .v (.one (.ptr 1 0))), (10, .v (.one (.fn 79 [(2, 0)])))] 23 #[11, 12] m38_c0 m38_c1 3)], [(5, some ⟨3, 1, (Enc.encL o7).length⟩)], 6, 19, []⟩) (fun (o7 : (List Int)) => (some o7) = some y5) ?_ ?_
    ·
     refine XC.adoptC (i := 1) (off := 0) 3 1 rfl rfl ?_
     refine bindK h1 (fun o8 hl2 h1 => ?_)
     refine XC.loopM (m38_l0 a0) (fun s2 => ⟨[(0, .v (.one (.yld 4))), (1, .v (.one (.ptr 2 0))), (3, .v (.one (dI s2.1)))], [(0, .cells 39 (cE a0)), (1, .cells 66 [dA 5 s2.2]), (2, .cells 37 [dS a0.vs]), (3, .obj (.deferred (some []))), (4, .loop .ready none [(3, .v (.one (.ptr 1 0))), (10, .v (.one (.fn 79 [(2, 0)])))] 23 #[11, 12] m38_c0 m38_c1 3)], [(5, some ⟨3, 1, (Enc.encL s2.2).length⟩)], 6, 19, []⟩) ((w64 ((a0.vs.length : Int) - 1)), ([] : List Int)) o8 (stle (tR rfl (tR rfl (tR rfl tZ))) (hR rfl (hR rfl (hR rfl (hR rfl (hR rfl hZ))))) (kR rfl kZ) rfl (Nat.le_trans hv1 (lb rfl)) rfl rfl rfl (bB rfl rfl (bB rfl rfl (bB rfl rfl (bB rfl rfl (bB rfl rfl bZ))))) rfl rfl) hl2 (fun s2 n2 oo2 h2 ho2 => ?_)
     unfold m38_l0 at h2
     refine XC.seq <| XC.seq <| XC.region <| rM rfl rfl rfl <| rR rfl rfl rfl (RO.binInt rfl rfl rfl) <| XL.nil <| XQ.seq ?_
     refine XC.cond (b := (decide (0 ≤ s2.1))) rfl (fun c9 => ?_) (fun c9 => ?_)
     ·
      replace h2 := condT c9 h2
      refine XC.skip <| XQ.seq <| XC.seq <| XC.block <| XC.seq <| XC.region <| rM rfl rfl rfl <| rM rfl rfl rfl <| rR rfl rfl rfl (RO.loadOwn ag_37 rfl rfl rfl) <| rM rfl rfl rfl ?_
      refine bindK h2 (fun x10 hx10 h2 => ?_)
      refine rR rfl rfl rfl (RO.indexE (α := LV) sl_37 rfl (.d _) rfl hx10) <| rR rfl rfl rfl (RO.loadPelAgg ag_59 rfl rfl rfl) ?_
      refine bindK h2 (fun y11 h3 h2 => ?_)
      have ha12 : ExecOK Try.prog (some 4) m38_c0 ⟨[(3, .v (.one (.ptr 1 0))), (10, .v (.one (.fn 79 [(2, 0)]))), (11, .v (.one (dI s2.1))), (12, .v (.agg (cE x10)))], [(0, .cells 39 (cE a0)), (1, .cells 66 [dA 5 s2.2]), (2, .cells 37 [dS a0.vs]), (3, .obj (.deferred (some []))), (4, .loop .ready none [(3, .v (.one (.ptr 1 0))), (10, .v (.one (.fn 79 [(2, 0)])))] 23 #[11, 12] m38_c0 m38_c1 3)], [(5, some ⟨3, 1, (Enc.encL s2.2).length⟩)], 6, 23, []⟩ .normal ⟨[(3, .v (.one (.ptr 1 0))), (5, .v (.one (.ptr 6 0)))], [(0, .cells 39 (cE a0)), (1, .cells 66 [dA 5 s2.2]), (2, .cells 37 [dS a0.vs]), (3, .obj (.deferred (some []))), (4, .loop .ready none [(3, .v (.one (.ptr 1 0))), (10, .v (.one (.fn 79 [(2, 0)])))] 23 #[11, 12] m38_c0 m38_c1 3), (6, .cells 59 (cE x10))], [(5, some ⟨3, 1, (Enc.encL s2.2).length⟩)], 7, 23, []⟩ := by
       refine ExecOK.walk (fun w0 M V0 ro n Q hv3 hro3 hQn3 => ?_)
       refine XC.region <| XL.put rfl rfl (lb rfl) (OpOK.alloc z_59 rfl) <| XL.eff rfl rfl (OpOK.store ag_59 rfl rfl rfl rfl (lb rfl) rfl) <| XL.nil ?_
       exact XQ.of hQn3 (stle (tR rfl (tR rfl tZ)) (hR rfl (hR rfl (hR rfl (hR rfl (hR rfl (hR rfl hZ)))))) (kR rfl kZ) rfl (Nat.le_trans hv3 (lb rfl)) rfl rfl rfl (bB rfl rfl (bB rfl rfl (bB rfl rfl (bB rfl rfl (bB rfl rfl (bB rfl rfl bZ)))))) rfl rfl)
      have hb13 : ExecOK Try.prog (some 4) m38_c1 ⟨[(3, .v (.one (.ptr 1 0))), (5, .v (.one (.ptr 6 0)))], [(0, .cells 39 (cE a0)), (1, .cells 66 [dA 5 s2.2]), (2, .cells 37 [dS a0.vs]), (3, .obj (.deferred (some []))), (4, .loop .busy none [(3, .v (.one (.ptr 1 0))), (10, .v (.one (.fn 79 [(2, 0)])))] 23 #[11, 12] m38_c0 m38_c1 3), (6, .cells 59 (cE x10))], [(5, some ⟨3, 1, (Enc.encL s2.2).length⟩)], 7, 23, []⟩ .normal ⟨[], [(0, .cells 39 (cE a0)), (1, .cells 66 [dA 5 y11]), (2, .cells 37 [dS a0.vs]), (3, .obj (.deferred (some []))), (4, .loop .busy none [(3, .v (.one (.ptr 1 0))), (10, .v (.one (.fn 79 [(2, 0)])))] 23 #[11, 12] m38_c0 m38_c1 3)], [(5, some ⟨3, 1, (Enc.encL y11).length⟩)], 7, 23, []⟩ := by
       refine ExecOK.walk (fun w0 M V0 ro n Q hv3 hro3 hQn3 => ?_)
       refine XC.block <| XC.seq <| XC.region <| rR rfl rfl rfl (RO.fieldOwn fo_59_0 rfl) <| rR rfl rfl rfl (RO.loadOwn ag_3 rfl rfl rfl) <| rR rfl rfl rfl (RO.binInt rfl rfl rfl) <| XL.nil <| XQ.seq ?_
       refine XC.cond (b := (decide (x10.1 < 0))) rfl (fun c14 => ?_) (fun c14 => ?_)
       ·
        replace h3 := condT c14 h3
        refine XC.region <| rR rfl rfl rfl (RO.loadOwn ag_66 rfl rfl rfl) <| rR rfl rfl rfl (RO.fieldOwn fo_59_0 rfl) <| rR rfl rfl rfl (RO.loadOwn ag_3 rfl rfl rfl) <| rR rfl rfl rfl (RO.binInt rfl rfl rfl) <| XL.put rfl rfl (lb rfl) (OpOK.lit1E (α := Int) ((w64 ((-1) - x10.1))) sl_66 z_3 rfl rfl (lb rfl) (lb rfl) rfl rfl (.cons (.d _) .nil) rfl) ?_
        refine guardK h3 (fun g15 h3 => ?_)
        refine XL.put rfl rfl (lb rfl) (OpOK.appendE (α := Int) sl_66 el_3 rfl rfl rfl rfl rfl (.app _ _) g15) <| XL.eff rfl rfl (OpOK.store ag_66 rfl rfl rfl rfl (lb rfl) rfl) <| XL.nil <| XQ.inBlock ?_
        have e_ := Option.some.inj h3
        subst e_
        exact XQ.of hQn3 (stle tZ (hR rfl (hR rfl (hR rfl (hR rfl (hR rfl hZ))))) (kR rfl kZ) rfl (Nat.le_trans hv3 (lb rfl)) rfl rfl rfl (bB rfl rfl (bB rfl rfl (bB rfl rfl (bB rfl rfl (bB rfl rfl bZ))))) rfl rfl)
       ·
        replace h3 := condF c14 h3
        refine XC.skip <| XQ.inBlock ?_
        have e_ := Option.some.inj h3
        subst e_
        exact XQ.of hQn3 (stle tZ (hR rfl (hR rfl (hR rfl (hR rfl (hR rfl hZ))))) (kR rfl kZ) rfl (Nat.le_trans hv3 (lb rfl)) rfl rfl rfl (bB rfl rfl (bB rfl rfl (bB rfl rfl (bB rfl rfl (bB rfl rfl bZ))))) rfl rfl)
      refine XL.put rfl rfl (lb rfl) (OpOK.yield (jump := none) rfl rfl rfl rfl rfl (ExecOK.from ha12 (fun E hv => (stle (tR rfl (tR rfl (tR rfl (tR rfl tZ)))) (hR rfl (hR rfl (hR rfl (hR rfl (hR rfl hZ))))) (kR rfl kZ) rfl (Nat.le_trans hv (lb rfl)) rfl rfl rfl (bB rfl rfl (bB rfl rfl (bB rfl rfl (bB rfl rfl (bB rfl rfl bZ))))) rfl rfl))) rfl (ExecOK.from hb13 (fun E hv => (stle (tR rfl (tR rfl tZ)) (hR rfl (hR rfl (hR rfl (hR rfl (hR rfl (hR rfl hZ)))))) (kR rfl kZ) rfl (Nat.le_trans hv (lb rfl)) rfl rfl rfl (bB rfl rfl (bB rfl rfl (bB rfl rfl (bB rfl rfl (bB rfl rfl (bB rfl rfl bZ)))))) rfl rfl))) rfl rfl) ?_
      refine rR rfl rfl rfl (RO.not rfl) <| XL.nil <| XQ.seq ?_
      refine XC.cond rfl (fun h => nomatch h) (fun _ => ?_)
      refine XC.skip <| XQ.inBlock <| XQ.seq <| XC.region <| rM rfl rfl rfl <| rR rfl rfl rfl (RO.binInt rfl rfl rfl) <| rA rfl rfl rfl <| XL.nil ?_
      have e_ := Option.some.inj h2
      subst e_
      refine XQ.nextM ((w64 (s2.1 - 1)), y11) (stle (tR rfl (tR rfl (tR rfl tZ))) (hR rfl (hR rfl (hR rfl (hR rfl (hR rfl hZ))))) (kR rfl kZ) rfl (Nat.le_trans hv1 (lb rfl)) rfl rfl rfl (bB rfl rfl (bB rfl rfl (bB rfl rfl (bB rfl rfl (bB rfl rfl bZ))))) rfl rfl) ho2
     ·
      replace h2 := condF c9 h2
      refine XC.exit <| XQ.thenE <| XQ.thenE ?_
      have e_ := Option.some.inj h2
      subst e_
      have e_ : _ = _ := ho2
      subst e_
      exact XQ.joinX s2.2 (stle tZ (hR rfl (hR rfl (hR rfl (hR rfl (hR rfl hZ))))) (kR rfl kZ) rfl (Nat.le_trans hv1 (lb rfl)) rfl rfl rfl (bB rfl rfl (bB rfl rfl (bB rfl rfl (bB rfl rfl (bB rfl rfl bZ))))) rfl rfl) h1
    ·
     intro o7 h1
     refine XQ.blockX ?_
     have e_ := Option.some.inj h1
     subst e_
     exact hQ1 _ _ _ (.inl rfl) rfl (stle tZ (hR rfl (hR rfl (hR rfl (hR rfl (hR rfl hZ))))) (kR rfl kZ) rfl (Nat.le_trans hv1 (lb rfl)) rfl rfl rfl (bB rfl rfl (bB rfl rfl (bB rfl rfl (bB rfl rfl (bB rfl rfl bZ))))) rfl rfl)
   refine XC.exec (rangeFunc_out (e := .normal) rfl hc6 rfl (by intro h; cases h) rfl) rfl ?_
   refine XQ.inBlock <| XQ.seq <| XC.seq <| XC.region <| rR rfl rfl rfl (RO.loadOwn ag_66 rfl rfl rfl) <| rA rfl rfl rfl <| XL.nil <| XQ.seq <| XC.ret ?_
   have e_ := Option.some.inj h0
   subst e_
   exact XQ.retF (fun _ _ h => h) rfl (RAs.tmp rfl .nil) (.cons (.one (.app _ _ _)) .nil)
  ·
   replace h0 := condF c2 h0
   refine XC.skip <| XQ.seq <| XC.seq <| XC.region <| rR rfl rfl rfl (RO.loadOwn ag_66 rfl rfl rfl) <| rA rfl rfl rfl <| XL.nil <| XQ.seq <| XC.ret ?_
   have e_ := Option.some.inj h0
   subst e_
   exact XQ.retF (fun _ _ h => h) rfl (RAs.tmp rfl .nil) (.cons (.one (.nil _)) .nil)

def m29_l0 (x1 : (List Int)) (a1 : Int) (s3 : Int) : Option (LO Int (Unit ⊕ Int)) :=
  cond (decide (s3 < (x1.length : Int)))
    (Option.bind (idx x1 s3) fun (x8 : Int) =>
  Option.bind (some ()) (fun (y9 : Unit) => cond (decide (a1 ≤ x8))
    (some (.done (.inr s3)))
    (some (.next (w64 (s3 + 1))))))
    (some (.done (.inl ())))

/-- euclid/universe.beyond -/
def m29 (a0 : Lvl) (a1 : Int) : Option Bool :=
  Option.bind (m38 a0) fun (x1 : (List Int)) =>
  Option.bind (Option.bind (Option.bind (loopN (m29_l0 x1 a1) FUEL 0) (Sum.elim (fun (o6 : Unit) => some (-1)) (fun o => some o))) (fun (y4 : Int) => some (decide (0 ≤ y4)))) (fun (y2 : Bool) => some y2)

set_option maxRecDepth 100000 in
set_option maxHeartbeats 8000000 in
theorem m29_ok (a0 : Lvl) (a1 : Int) (r : Bool) (h0 : m29 a0 a1 = some r) : Fun Try.prog 29 [.agg (cE a0), .one (dI a1)] (resOf [.one (dB r)]) := by
  unfold m29 at h0
  refine Fun.of_bodyM 9 9 Try.func29 rfl en_29 rfl (lb rfl) (fun S w => ?_)
  simp only [entry]
  refine XC.seq <| XC.region <| XL.put rfl rfl (lb rfl) (OpOK.box rfl) <| XL.put rfl rfl (lb rfl) (OpOK.box rfl) <| rA rfl rfl rfl <| XL.nil <| XQ.seq <| XC.seq <| XC.region <| rR rfl rfl rfl (RO.loadOwnAgg ag_39 rfl rfl rfl rfl) ?_
  refine bindK h0 (fun x1 hx1 h0 => ?_)
  refine XL.put rfl rfl (lb rfl) (OpOK.callFun (m38_ok a0 x1 hx1) rfl (.cons (.agg (.cons (.d _) (.cons (.d _) .nil))) .nil)) <| rR rfl rfl rfl (RO.makeFunc1 rfl) ?_
  refine bindK h0 (fun y2 h1 h0 => ?_)
  have hc3 : CallM Try.prog 52 [.one (dS x1), .one (.fn 53 [(1, 0)])] ⟨[(0, .cells 39 (cE a0)), (1, .cells 3 [dI a1])], [], 2⟩ (resOf [.one (dB y2)]) ⟨[(0, .cells 39 (cE a0)), (1, .cells 3 [dI a1])], [], 2⟩ := by
   refine CallM.of_bodyD ⟨[(4, .v (.one (dB y2)))], [(0, .cells 39 (cE a0)), (1, .cells 3 [dI a1])], [], 2, 9, []⟩ rfl rfl en_52 (lb rfl) rfl (RAs.tmp rfl .nil) (fun w0 M V0 Q hv1 hQ1 => ?_)
   simp only [entry]
   refine XC.seq <| XC.region <| rA rfl rfl rfl <| XL.nil <| XQ.seq <| XC.seq <| XC.region <| rM rfl rfl rfl <| rM rfl rfl rfl ?_
   refine bindK h1 (fun y4 h2 h1 => ?_)
   have hc5 : CallM Try.prog 75 [.one (dS x1), .one (.fn 53 [(1, 0)])] ⟨[(0, .cells 39 (cE a0)), (1, .cells 3 [dI a1])], [], 2⟩ (resOf [.one (dI y4)]) ⟨[(0, .cells 39 (cE a0)), (1, .cells 3 [dI a1])], [], 2⟩ := by
    refine CallM.of_bodyD ⟨[(4, .v (.one (dI y4)))], [(0, .cells 39 (cE a0)), (1, .cells 3 [dI a1])], [], 2, 19, []⟩ rfl rfl en_75 (lb rfl) rfl (RAs.tmp rfl .nil) (fun w0 M V0 Q hv2 hQ2 => ?_)
    simp only [entry]
    refine XC.seq <| XC.region <| rA rfl rfl rfl <| XL.nil <| XQ.seq <| XC.seq <| XC.seq <| XC.region <| rM rfl rfl rfl <| rR rfl rfl rfl (RO.lenE (α := Int) sl_66 rfl (.d _)) <| rM rfl rfl rfl <| XL.nil <| XQ.seq <| XC.block ?_
    refine XC.joinX 0 (fun (o6 : Unit) => ⟨[], [(0, .cells 39 (cE a0)), (1, .cells 3 [dI a1])], [], 2, 19, []⟩) (fun (o6 : Unit) => (some (-1)) = some y4) ?_ ?_
    ·
     refine bindK h2 (fun o7 hl3 h2 => ?_)
     refine XC.loopM (m29_l0 x1 a1) (fun s3 => ⟨[(0, .v (.one (dS x1))), (1, .v (.one (.fn 53 [(1, 0)]))), (7, .v (.one (dI (x1.length : Int)))), (8, .v (.one (dI s3)))], [(0, .cells 39 (cE a0)), (1, .cells 3 [dI a1])], [], 2, 19, []⟩) 0 o7 (stle (tR rfl (tR rfl (tR rfl (tR rfl tZ)))) (hR rfl (hR rfl hZ)) kZ rfl (Nat.le_trans hv2 (lb rfl)) rfl rfl rfl (bB rfl rfl (bB rfl rfl bZ)) rfl rfl) hl3 (fun s3 n3 oo3 h3 ho3 => ?_)
     unfold m29_l0 at h3
     refine XC.seq <| XC.region <| rR rfl rfl rfl (RO.binInt rfl rfl rfl) <| XL.nil <| XQ.seq <| XC.seq ?_
     refine XC.cond (b := (decide (s3 < (x1.length : Int)))) rfl (fun c8 => ?_) (fun c8 => ?_)
     ·
      replace h3 := condT c8 h3
      refine XC.skip <| XQ.seq <| XC.seq <| XC.block <| XC.seq <| XC.region <| rM rfl rfl rfl <| rA rfl rfl rfl <| XL.nil <| XQ.seq <| XC.seq <| XC.region <| rM rfl rfl rfl <| rM rfl rfl rfl ?_
      refine rM rfl rfl rfl ?_
      refine bindK h3 (fun x9 hx9 h3 => ?_)
      refine rR rfl rfl rfl (RO.indexE (α := Int) sl_66 rfl (.d _) rfl hx9) <| rR rfl rfl rfl (RO.loadPel ag_3 rfl rfl) ?_
      refine bindK h3 (fun y10 h4 h3 => ?_)
      have hc11 : CallM Try.prog 53 [.one (dI x9), .one (.ptr 1 0)] ⟨[(0, .cells 39 (cE a0)), (1, .cells 3 [dI a1])], [], 2⟩ (resOf [.one (dB (decide (a1 ≤ x9)))]) ⟨[(0, .cells 39 (cE a0)), (1, .cells 3 [dI a1])], [], 2⟩ := by
       refine CallM.of_bodyD ⟨[(3, .v (.one (dB (decide (a1 ≤ x9)))))], [(0, .cells 39 (cE a0)), (1, .cells 3 [dI a1])], [], 2, 7, []⟩ rfl rfl en_53 (lb rfl) rfl (RAs.tmp rfl .nil) (fun w0 M V0 Q hv4 hQ4 => ?_)
       simp only [entry]
       refine XC.seq <| XC.region <| rA rfl rfl rfl <| XL.nil <| XQ.seq <| XC.seq <| XC.region <| rM rfl rfl rfl <| rR rfl rfl rfl (RO.loadOwn ag_3 rfl rfl rfl) <| rR rfl rfl rfl (RO.binInt rfl rfl rfl) <| rA rfl rfl rfl <| XL.nil <| XQ.seq <| XC.ret ?_
       have e_ := Option.some.inj h4
       subst e_
       exact hQ4 _ _ _ (.inr rfl) rfl (stle (tR rfl tZ) (hR rfl (hR rfl hZ)) kZ rfl (Nat.le_trans hv4 (lb rfl)) rfl rfl rfl (bB rfl rfl (bB rfl rfl bZ)) rfl rfl)
      refine XL.put rfl rfl (lb rfl) (OpOK.callW rfl rfl rfl hc11 rfl (hR rfl (hR rfl hZ)) kZ) <| XL.nil <| XQ.seq ?_
      refine XC.cond (b := (decide (a1 ≤ x9))) rfl (fun c12 => ?_) (fun c12 => ?_)
      ·
       replace h3 := condT c12 h3
       refine XC.seq <| XC.region <| rM rfl rfl rfl <| rA rfl rfl rfl <| XL.nil <| XQ.seq <| XC.ret ?_
       have e_ := Option.some.inj h3
       subst e_
       have e_ : _ = _ := ho3
       subst e_
       try dsimp only [Sum.elim_inl, Sum.elim_inr] at h2
       have e_ := Option.some.inj h2
       subst e_
       exact hQ2 _ _ _ (.inr rfl) rfl (stle (tR rfl tZ) (hR rfl (hR rfl hZ)) kZ rfl (Nat.le_trans hv2 (lb rfl)) rfl rfl rfl (bB rfl rfl (bB rfl rfl bZ)) rfl rfl)
      ·
       replace h3 := condF c12 h3
       refine XC.skip <| XQ.inBlock <| XQ.seq <| XC.region <| rR rfl rfl rfl (RO.binInt rfl rfl rfl) <| rM rfl rfl rfl <| XL.nil ?_
       have e_ := Option.some.inj h3
       subst e_
       refine XQ.nextM (w64 (s3 + 1)) (stle (tR rfl (tR rfl (tR rfl (tR rfl tZ)))) (hR rfl (hR rfl hZ)) kZ rfl (Nat.le_trans hv2 (lb rfl)) rfl rfl rfl (bB rfl rfl (bB rfl rfl bZ)) rfl rfl) ho3
     ·
      replace h3 := condF c8 h3
      refine XC.exit <| XQ.thenE <| XQ.thenE ?_
      have e_ := Option.some.inj h3
      subst e_
      have e_ : _ = _ := ho3
      subst e_
      exact XQ.joinX () (stle tZ (hR rfl (hR rfl hZ)) kZ rfl (Nat.le_trans hv2 (lb rfl)) rfl rfl rfl (bB rfl rfl (bB rfl rfl bZ)) rfl rfl) h2
    ·
     intro o6 h2
     refine XQ.blockX <| XQ.seq <| XC.seq <| XC.region <| rA rfl rfl rfl <| XL.nil <| XQ.seq <| XC.ret ?_
     have e_ := Option.some.inj h2
     subst e_
     exact hQ2 _ _ _ (.inr rfl) rfl (stle (tR rfl tZ) (hR rfl (hR rfl hZ)) kZ rfl (Nat.le_trans hv2 (lb rfl)) rfl rfl rfl (bB rfl rfl (bB rfl rfl bZ)) rfl rfl)
   refine XL.put rfl rfl (lb rfl) (OpOK.callW rfl rfl rfl hc5 rfl (hR rfl (hR rfl hZ)) kZ) <| rR rfl rfl rfl (RO.binInt rfl rfl rfl) <| rA rfl rfl rfl <| XL.nil <| XQ.seq <| XC.ret ?_
   have e_ := Option.some.inj h1
   subst e_
   exact hQ1 _ _ _ (.inr rfl) rfl (stle (tR rfl tZ) (hR rfl (hR rfl hZ)) kZ rfl (Nat.le_trans hv1 (lb rfl)) rfl rfl rfl (bB rfl rfl (bB rfl rfl bZ)) rfl rfl)
  refine XL.put rfl rfl (lb rfl) (OpOK.callW rfl rfl rfl hc3 rfl (hR rfl (hR rfl hZ)) kZ) <| rA rfl rfl rfl <| XL.nil <| XQ.seq <| XC.ret ?_
  have e_ := Option.some.inj h0
  subst e_
  exact XQ.retF (fun _ _ h => h) rfl (RAs.tmp rfl .nil) (.cons (.one (.d _)) .nil)

def m13_l0 (a1 : List Bnd) (a0 : Int) (s1 : Int) : Option (LO Int (Unit ⊕ (Int × Int))) :=
  cond (decide (s1 < (a1.length : Int)))
    (Option.bind (idx a1 s1) fun (x5 : Bnd) =>
  Option.bind (guardO (Nat.ble x5.lo.vs.length 100000)
  (cond (!(validB x5.lo))
    (some true)
    (guardO (Nat.ble x5.hi.vs.length 100000)
  (some (!(validB x5.hi)))))) (fun (v6 : Bool) => cond v6
    (some (.done (.inr (s1, 3))))
    (Option.bind (Option.bind (m29 x5.lo a0) fun (x9 : Bool) =>
  cond x9
    (some true)
    (Option.bind (m29 x5.hi a0) fun (x11 : Bool) =>
  some x11)) (fun (v8 : Bool) => cond v8
    (some (.done (.inr (s1, 24))))
    (some (.next (w64 (s1 + 1))))))))
    (some (.done (.inl ())))

/-- euclid/universe.Check -/
def m13 (a0 : Int) (a1 : List Bnd) : Option (Int × Int) :=
  Option.bind (cond (decide (a0 < 0))
    (some true)
    (some (decide (2000 < a0)))) (fun (v1 : Bool) => cond v1
    (some (0, 2))
    (Option.bind (loopN (m13_l0 a1 a0) FUEL 0) (Sum.elim (fun (o3 : Unit) => some (0, 0)) (fun o => some o))))

set_option maxRecDepth 100000 in
set_option maxHeartbeats 8000000 in
theorem m13_ok (a0 : Int) (a1 : List Bnd) (r : Int × Int) (h0 : m13 a0 a1 = some r) : Fun Try.prog 13 [.one (dI a0), .one (dS a1)] (resOf [.one (dI r.1), .one (dI r.2)]) := by
  unfold m13 at h0
  refine Fun.of_bodyM 9 46 Try.func13 rfl en_13 rfl (lb rfl) (fun S w => ?_)
  simp only [entry]
  refine XC.seq <| XC.region <| rA rfl rfl rfl <| rA rfl rfl rfl <| XL.nil <| XQ.seq <| XC.seq <| XC.seq ?_
  refine XC.joinR (fun (v1 : Bool) => ⟨[(0, .v (.one (dI a0))), (1, .v (.one (dS a1))), (13, .v (.one (dB v1)))], [], [], 0, 46, []⟩) (fun (v1 : Bool) => (cond v1
      (some (0, 2))
      (Option.bind (loopN (m13_l0 a1 a0) FUEL 0) (Sum.elim (fun (o3 : Unit) => some (0, 0)) (fun o => some o)))) = some r) ?_ ?_
  ·
   refine bindK h0 (fun v_ h1 h0 => ?_)
   refine XC.region <| rM rfl rfl rfl <| rR rfl rfl rfl (RO.binInt rfl rfl rfl) <| rM rfl rfl rfl ?_
   refine XL.case (d := 10) (c := (decide (a0 < 0))) rfl (fun c2 => ?_) (fun c2 => ?_)
   ·
    replace h1 := condT c2 h1
    refine XL.no rfl rfl <| XL.no rfl rfl <| rR rfl rfl rfl (RO.pickT rfl rfl) <| XL.nil ?_
    have e_ := Option.some.inj h1
    subst e_
    exact XQ.joinR true (stle (tR rfl (tR rfl (tR rfl tZ))) hZ kZ rfl (Nat.zero_le _) rfl rfl rfl bZ rfl rfl) h0
   ·
    replace h1 := condF c2 h1
    refine rM rfl rfl rfl <| rR rfl rfl rfl (RO.binInt rfl rfl rfl) <| rR rfl rfl rfl (RO.pickF rfl rfl) <| XL.nil ?_
    have e_ := Option.some.inj h1
    subst e_
    exact XQ.joinR (decide (2000 < a0)) (stle (tR rfl (tR rfl (tR rfl tZ))) hZ kZ rfl (Nat.zero_le _) rfl rfl rfl bZ rfl rfl) h0
  ·
   intro v1 h0
   refine XQ.seq ?_
   refine XC.cond (b := v1) rfl (fun c3 => ?_) (fun c3 => ?_)
   ·
    replace h0 := condT c3 h0
    refine XC.seq <| XC.region <| rA rfl rfl rfl <| rA rfl rfl rfl <| XL.nil <| XQ.seq <| XC.ret ?_
    have e_ := Option.some.inj h0
    subst e_
    exact XQ.retF (fun _ _ h => h) rfl (RAs.tmp rfl (RAs.tmp rfl .nil)) (.cons (.one (.d _)) (.cons (.one (.d _)) .nil))
   ·
    replace h0 := condF c3 h0
    refine XC.skip <| XQ.seq <| XC.seq <| XC.seq <| XC.region <| rM rfl rfl rfl <| rR rfl rfl rfl (RO.lenE (α := Bnd) sl_22 rfl (.d _)) <| rM rfl rfl rfl <| XL.nil <| XQ.seq <| XC.block ?_
    refine XC.joinX 0 (fun (o4 : Unit) => ⟨[], [], [], 0, 46, []⟩) (fun (o4 : Unit) => (some (0, 0)) = some r) ?_ ?_
    ·
     refine bindK h0 (fun o5 hl1 h0 => ?_)
     refine XC.loopM (m13_l0 a1 a0) (fun s1 => ⟨[(0, .v (.one (dI a0))), (14, .v (.one (dS a1))), (15, .v (.one (dI (a1.length : Int)))), (16, .v (.one (dI s1)))], [], [], 0, 46, []⟩) 0 o5 (stle (tR rfl (tR rfl (tR rfl (tR rfl tZ)))) hZ kZ rfl (Nat.zero_le _) rfl rfl rfl bZ rfl rfl) hl1 (fun s1 n1 oo1 h1 ho1 => ?_)
     unfold m13_l0 at h1
     refine XC.seq <| XC.region <| rR rfl rfl rfl (RO.binInt rfl rfl rfl) <| XL.nil <| XQ.seq <| XC.seq ?_
     refine XC.cond (b := (decide (s1 < (a1.length : Int)))) rfl (fun c6 => ?_) (fun c6 => ?_)
     ·
      replace h1 := condT c6 h1
      refine XC.skip <| XQ.seq <| XC.seq <| XC.block <| XC.seq <| XC.region <| rM rfl rfl rfl ?_
      refine bindK h1 (fun x7 hx7 h1 => ?_)
      refine rR rfl rfl rfl (RO.indexE (α := Bnd) sl_22 rfl (.d _) rfl hx7) <| rR rfl rfl rfl (RO.loadPelAgg ag_41 rfl rfl rfl) <| XL.put rfl rfl (lb rfl) (OpOK.alloc z_41 rfl) <| rA rfl rfl rfl <| XL.eff rfl rfl (OpOK.store ag_41 rfl rfl rfl rfl (lb rfl) rfl) <| XL.nil <| XQ.seq <| XC.block <| XC.seq ?_
      refine XC.joinR (fun (v8 : Bool) => ⟨[(0, .v (.one (dI a0))), (6, .v (.one (dI s1))), (7, .v (.one (.ptr 0 0))), (14, .v (.one (dS a1))), (15, .v (.one (dI (a1.length : Int)))), (16, .v (.one (dI s1))), (21, .v (.one (dB v8)))], [(0, .cells 41 (cE x7))], [], 1, 46, []⟩) (fun (v8 : Bool) => (cond v8
          (some (.done (.inr (s1, 3))))
          (Option.bind (Option.bind (m29 x7.lo a0) fun (x11 : Bool) =>
        cond x11
          (some true)
          (Option.bind (m29 x7.hi a0) fun (x13 : Bool) =>
        some x13)) (fun (v10 : Bool) => cond v10
          (some (.done (.inr (s1, 24))))
          (some (.next (w64 (s1 + 1))))))) = some oo1) ?_ ?_
      ·
       refine bindK h1 (fun v_ h2 h1 => ?_)
       refine XC.region <| rR rfl rfl rfl (RO.fieldOwn fo_41_0 rfl) <| rR rfl rfl rfl (RO.loadOwnAgg ag_39 rfl rfl rfl rfl) ?_
       refine guardK h2 (fun g9 h2 => ?_)
       refine XL.put rfl rfl (lb rfl) (OpOK.callFun (valid_fun x7.lo (Nat.le_of_ble_eq_true g9)) rfl (.cons (.agg (.cons (.d _) (.cons (.d _) .nil))) .nil)) ?_
       refine rR rfl rfl rfl (RO.not rfl) <| rM rfl rfl rfl ?_
       refine XL.case (d := 26) (c := (!(validB x7.lo))) rfl (fun c10 => ?_) (fun c10 => ?_)
       ·
        replace h2 := condT c10 h2
        refine XL.no rfl rfl <| XL.no rfl rfl <| XL.no rfl rfl <| XL.no rfl rfl <| rR rfl rfl rfl (RO.pickT rfl rfl) <| rA rfl rfl rfl <| XL.nil ?_
        have e_ := Option.some.inj h2
        subst e_
        exact XQ.joinR true (stle (tR rfl (tR rfl (tR rfl (tR rfl (tR rfl (tR rfl (tR rfl tZ))))))) (hR rfl hZ) kZ rfl (Nat.zero_le _) rfl rfl rfl (bB rfl rfl bZ) rfl rfl) h1
       ·
        replace h2 := condF c10 h2
        refine rR rfl rfl rfl (RO.fieldOwn fo_41_1 rfl) <| rR rfl rfl rfl (RO.loadOwnAgg ag_39 rfl rfl rfl rfl) ?_
        refine guardK h2 (fun g11 h2 => ?_)
        refine XL.put rfl rfl (lb rfl) (OpOK.callFun (valid_fun x7.hi (Nat.le_of_ble_eq_true g11)) rfl (.cons (.agg (.cons (.d _) (.cons (.d _) .nil))) .nil)) ?_
        refine rR rfl rfl rfl (RO.not rfl) <| rR rfl rfl rfl (RO.pickF rfl rfl) <| rA rfl rfl rfl <| XL.nil ?_
        have e_ := Option.some.inj h2
        subst e_
        exact XQ.joinR (!(validB x7.hi)) (stle (tR rfl (tR rfl (tR rfl (tR rfl (tR rfl (tR rfl (tR rfl tZ))))))) (hR rfl hZ) kZ rfl (Nat.zero_le _) rfl rfl rfl (bB rfl rfl bZ) rfl rfl) h1
      ·
       intro v8 h1
       refine XQ.seq ?_
       refine XC.cond (b := v8) rfl (fun c12 => ?_) (fun c12 => ?_)
       ·
        replace h1 := condT c12 h1
        refine XC.seq <| XC.region <| rM rfl rfl rfl <| rA rfl rfl rfl <| rA rfl rfl rfl <| XL.nil <| XQ.seq <| XC.ret ?_
        have e_ := Option.some.inj h1
        subst e_
        have e_ : _ = _ := ho1
        subst e_
        try dsimp only [Sum.elim_inl, Sum.elim_inr] at h0
        have e_ := Option.some.inj h0
        subst e_
        exact XQ.retF (fun _ _ h => h) rfl (RAs.tmp rfl (RAs.tmp rfl .nil)) (.cons (.one (.d _)) (.cons (.one (.d _)) .nil))
       ·
        replace h1 := condF c12 h1
        refine XC.seq ?_
        refine XC.joinR (fun (v13 : Bool) => ⟨[(0, .v (.one (dI a0))), (6, .v (.one (dI s1))), (14, .v (.one (dS a1))), (15, .v (.one (dI (a1.length : Int)))), (16, .v (.one (dI s1))), (33, .v (.one (dB v13)))], [(0, .cells 41 (cE x7))], [], 1, 46, []⟩) (fun (v13 : Bool) => (cond v13
            (some (.done (.inr (s1, 24))))
            (some (.next (w64 (s1 + 1))))) = some oo1) ?_ ?_
        ·
         refine bindK h1 (fun v_ h2 h1 => ?_)
         refine XC.region <| rR rfl rfl rfl (RO.fieldOwn fo_41_0 rfl) <| rR rfl rfl rfl (RO.loadOwnAgg ag_39 rfl rfl rfl rfl) <| rM rfl rfl rfl ?_
         refine bindK h2 (fun x14 hx14 h2 => ?_)
         refine XL.put rfl rfl (lb rfl) (OpOK.callFun (m29_ok x7.lo a0 x14 hx14) rfl (.cons (.agg (.cons (.d _) (.cons (.d _) .nil))) (.cons (.one (.d _)) .nil))) <| rM rfl rfl rfl ?_
         refine XL.case (d := 38) (c := x14) rfl (fun c15 => ?_) (fun c15 => ?_)
         ·
          replace h2 := condT c15 h2
          refine XL.no rfl rfl <| XL.no rfl rfl <| XL.no rfl rfl <| XL.no rfl rfl <| rR rfl rfl rfl (RO.pickT rfl rfl) <| rA rfl rfl rfl <| XL.nil ?_
          have e_ := Option.some.inj h2
          subst e_
          exact XQ.joinR true (stle (tR rfl (tR rfl (tR rfl (tR rfl (tR rfl (tR rfl tZ)))))) (hR rfl hZ) kZ rfl (Nat.zero_le _) rfl rfl rfl (bB rfl rfl bZ) rfl rfl) h1
         ·
          replace h2 := condF c15 h2
          refine rR rfl rfl rfl (RO.fieldOwn fo_41_1 rfl) <| rR rfl rfl rfl (RO.loadOwnAgg ag_39 rfl rfl rfl rfl) <| rM rfl rfl rfl ?_
          refine bindK h2 (fun x16 hx16 h2 => ?_)
          refine XL.put rfl rfl (lb rfl) (OpOK.callFun (m29_ok x7.hi a0 x16 hx16) rfl (.cons (.agg (.cons (.d _) (.cons (.d _) .nil))) (.cons (.one (.d _)) .nil))) <| rR rfl rfl rfl (RO.pickF rfl rfl) <| rA rfl rfl rfl <| XL.nil ?_
          have e_ := Option.some.inj h2
          subst e_
          exact XQ.joinR x16 (stle (tR rfl (tR rfl (tR rfl (tR rfl (tR rfl (tR rfl tZ)))))) (hR rfl hZ) kZ rfl (Nat.zero_le _) rfl rfl rfl (bB rfl rfl bZ) rfl rfl) h1
        ·
         intro v13 h1
         refine XQ.seq ?_
         refine XC.cond (b := v13) rfl (fun c17 => ?_) (fun c17 => ?_)
         ·
          replace h1 := condT c17 h1
          refine XC.seq <| XC.region <| rM rfl rfl rfl <| rA rfl rfl rfl <| rA rfl rfl rfl <| XL.nil <| XQ.seq <| XC.ret ?_
          have e_ := Option.some.inj h1
          subst e_
          have e_ : _ = _ := ho1
          subst e_
          try dsimp only [Sum.elim_inl, Sum.elim_inr] at h0
          have e_ := Option.some.inj h0
          subst e_
          exact XQ.retF (fun _ _ h => h) rfl (RAs.tmp rfl (RAs.tmp rfl .nil)) (.cons (.one (.d _)) (.cons (.one (.d _)) .nil))
         ·
          replace h1 := condF c17 h1
          refine XC.skip <| XQ.inBlock <| XQ.inBlock <| XQ.seq <| XC.region <| rR rfl rfl rfl (RO.binInt rfl rfl rfl) <| rM rfl rfl rfl <| XL.nil ?_
          have e_ := Option.some.inj h1
          subst e_
          refine XQ.nextM (w64 (s1 + 1)) (stle (tR rfl (tR rfl (tR rfl (tR rfl tZ)))) hZ kZ rfl (Nat.zero_le _) rfl rfl rfl bZ rfl rfl) ho1
     ·
      replace h1 := condF c6 h1
      refine XC.exit <| XQ.thenE <| XQ.thenE ?_
      have e_ := Option.some.inj h1
      subst e_
      have e_ : _ = _ := ho1
      subst e_
      exact XQ.joinX () (stle tZ hZ kZ rfl (Nat.zero_le _) rfl rfl rfl bZ rfl rfl) h0
    ·
     intro o4 h0
     refine XQ.blockX <| XQ.seq <| XC.seq <| XC.region <| rA rfl rfl rfl <| rA rfl rfl rfl <| XL.nil <| XQ.seq <| XC.ret ?_
     have e_ := Option.some.inj h0
     subst e_
     exact XQ.retF (fun _ _ h => h) rfl (RAs.tmp rfl (RAs.tmp rfl .nil)) (.cons (.one (.d _)) (.cons (.one (.d _)) .nil))

def m14_l0 (x5 : Bnd) (a0 : Int) (s1 : Int) (s2 : Int) : Option (LO Int (Unit ⊕ (Int × Int))) :=
  cond (decide (s2 < (((([] : List LV) ++ x5.lo.vs) ++ x5.hi.vs).length : Int)))
    (Option.bind (Option.bind (idx ((([] : List LV) ++ x5.lo.vs) ++ x5.hi.vs) s2) fun (x13 : LV) =>
  cond (decide (x13.1 < 0))
    (Option.bind (idx ((([] : List LV) ++ x5.lo.vs) ++ x5.hi.vs) s2) fun (x15 : LV) =>
  some (decide (a0 ≤ (w64 ((-1) - x15.1)))))
    (some false)) (fun (v12 : Bool) => cond v12
    (some (.done (.inr (s1, 24))))
    (some (.next (w64 (s2 + 1))))))
    (some (.done (.inl ())))

def m14_l1 (a1 : List Bnd) (a0 : Int) (s1 : Int) : Option (LO Int (Unit ⊕ (Int × Int))) :=
  cond (decide (s1 < (a1.length : Int)))
    (Option.bind (idx a1 s1) fun (x5 : Bnd) =>
  Option.bind (guardO (Nat.ble x5.lo.vs.length 100000)
  (cond (!(validB x5.lo))
    (some true)
    (guardO (Nat.ble x5.hi.vs.length 100000)
  (some (!(validB x5.hi)))))) (fun (v6 : Bool) => cond v6
    (some (.done (.inr (s1, 3))))
    (guardO (Nat.ble (([] : List LV).length + x5.lo.vs.length) 1000000000)
  (guardO (Nat.ble ((([] : List LV) ++ x5.lo.vs).length + x5.hi.vs.length) 1000000000)
  (Option.bind (loopN (m14_l0 x5 a0 s1) FUEL 0) (Sum.elim (fun (o10 : Unit) => some (.next (w64 (s1 + 1)))) (fun o => some (.done (.inr o)))))))))
    (some (.done (.inl ())))

/-- euclid/euclidref02.Check -/
def m14 (a0 : Int) (a1 : List Bnd) : Option (Int × Int) :=
  Option.bind (cond (decide (a0 < 0))
    (some true)
    (some (decide (2000 < a0)))) (fun (v1 : Bool) => cond v1
    (some (0, 2))
    (Option.bind (loopN (m14_l1 a1 a0) FUEL 0) (Sum.elim (fun (o3 : Unit) => some (0, 0)) (fun o => some o))))

set_option maxRecDepth 100000 in
set_option maxHeartbeats 8000000 in
theorem m14_ok (a0 : Int) (a1 : List Bnd) (r : Int × Int) (h0 : m14 a0 a1 = some r) : Fun Try.prog 14 [.one (dI a0), .one (dS a1)] (resOf [.one (dI r.1), .one (dI r.2)]) := by
  unfold m14 at h0
  refine Fun.of_bodyM 9 69 Try.func14 rfl en_14 rfl (lb rfl) (fun S w => ?_)
  simp only [entry]
  refine XC.seq <| XC.region <| rA rfl rfl rfl <| rA rfl rfl rfl <| XL.nil <| XQ.seq <| XC.seq <| XC.seq ?_
  refine XC.joinR (fun (v1 : Bool) => ⟨[(0, .v (.one (dI a0))), (1, .v (.one (dS a1))), (15, .v (.one (dB v1)))], [], [], 0, 69, []⟩) (fun (v1 : Bool) => (cond v1
      (some (0, 2))
      (Option.bind (loopN (m14_l1 a1 a0) FUEL 0) (Sum.elim (fun (o3 : Unit) => some (0, 0)) (fun o => some o)))) = some r) ?_ ?_
  ·
   refine bindK h0 (fun v_ h1 h0 => ?_)
   refine XC.region <| rM rfl rfl rfl <| rR rfl rfl rfl (RO.binInt rfl rfl rfl) <| rM rfl rfl rfl ?_
   refine XL.case (d := 12) (c := (decide (a0 < 0))) rfl (fun c2 => ?_) (fun c2 => ?_)
   ·
    replace h1 := condT c2 h1
    refine XL.no rfl rfl <| XL.no rfl rfl <| rR rfl rfl rfl (RO.pickT rfl rfl) <| XL.nil ?_
    have e_ := Option.some.inj h1
    subst e_
    exact XQ.joinR true (stle (tR rfl (tR rfl (tR rfl tZ))) hZ kZ rfl (Nat.zero_le _) rfl rfl rfl bZ rfl rfl) h0
   ·
    replace h1 := condF c2 h1
    refine rM rfl rfl rfl <| rR rfl rfl rfl (RO.binInt rfl rfl rfl) <| rR rfl rfl rfl (RO.pickF rfl rfl) <| XL.nil ?_
    have e_ := Option.some.inj h1
    subst e_
    exact XQ.joinR (decide (2000 < a0)) (stle (tR rfl (tR rfl (tR rfl tZ))) hZ kZ rfl (Nat.zero_le _) rfl rfl rfl bZ rfl rfl) h0
  ·
   intro v1 h0
   refine XQ.seq ?_
   refine XC.cond (b := v1) rfl (fun c3 => ?_) (fun c3 => ?_)
   ·
    replace h0 := condT c3 h0
    refine XC.seq <| XC.region <| rA rfl rfl rfl <| rA rfl rfl rfl <| XL.nil <| XQ.seq <| XC.ret ?_
    have e_ := Option.some.inj h0
    subst e_
    exact XQ.retF (fun _ _ h => h) rfl (RAs.tmp rfl (RAs.tmp rfl .nil)) (.cons (.one (.d _)) (.cons (.one (.d _)) .nil))
   ·
    replace h0 := condF c3 h0
    refine XC.skip <| XQ.seq <| XC.seq <| XC.seq <| XC.region <| rA rfl rfl rfl <| XL.nil <| XQ.seq <| XC.block ?_
    refine XC.joinX 0 (fun (o4 : Unit) => ⟨[], [], [], 0, 69, []⟩) (fun (o4 : Unit) => (some (0, 0)) = some r) ?_ ?_
    ·
     refine bindK h0 (fun o5 hl1 h0 => ?_)
     refine XC.loopM (m14_l1 a1 a0) (fun s1 => ⟨[(0, .v (.one (dI a0))), (1, .v (.one (dS a1))), (6, .v (.one (dI s1)))], [], [], 0, 69, []⟩) 0 o5 (stle (tR rfl (tR rfl (tR rfl tZ))) hZ kZ rfl (Nat.zero_le _) rfl rfl rfl bZ rfl rfl) hl1 (fun s1 n1 oo1 h1 ho1 => ?_)
     unfold m14_l1 at h1
     refine XC.seq <| XC.seq <| XC.region <| rM rfl rfl rfl <| rM rfl rfl rfl <| rR rfl rfl rfl (RO.lenE (α := Bnd) sl_22 rfl (.d _)) <| rR rfl rfl rfl (RO.binInt rfl rfl rfl) <| XL.nil <| XQ.seq ?_
     refine XC.cond (b := (decide (s1 < (a1.length : Int)))) rfl (fun c6 => ?_) (fun c6 => ?_)
     ·
      replace h1 := condT c6 h1
      refine XC.skip <| XQ.seq <| XC.seq <| XC.block <| XC.seq <| XC.region <| rM rfl rfl rfl <| rM rfl rfl rfl ?_
      refine bindK h1 (fun x7 hx7 h1 => ?_)
      refine rR rfl rfl rfl (RO.indexE (α := Bnd) sl_22 rfl (.d _) rfl hx7) <| rR rfl rfl rfl (RO.loadPelAgg ag_41 rfl rfl rfl) <| XL.put rfl rfl (lb rfl) (OpOK.alloc z_41 rfl) <| XL.eff rfl rfl (OpOK.store ag_41 rfl rfl rfl rfl (lb rfl) rfl) <| XL.nil <| XQ.seq <| XC.seq <| XC.seq ?_
      refine XC.joinR (fun (v8 : Bool) => ⟨[(0, .v (.one (dI a0))), (1, .v (.one (dS a1))), (6, .v (.one (dI s1))), (7, .v (.one (.ptr 0 0))), (35, .v (.one (dB v8)))], [(0, .cells 41 (cE x7))], [], 1, 69, []⟩) (fun (v8 : Bool) => (cond v8
          (some (.done (.inr (s1, 3))))
          (guardO (Nat.ble (([] : List LV).length + x7.lo.vs.length) 1000000000)
        (guardO (Nat.ble ((([] : List LV) ++ x7.lo.vs).length + x7.hi.vs.length) 1000000000)
        (Option.bind (loopN (m14_l0 x7 a0 s1) FUEL 0) (Sum.elim (fun (o12 : Unit) => some (.next (w64 (s1 + 1)))) (fun o => some (.done (.inr o)))))))) = some oo1) ?_ ?_
      ·
       refine bindK h1 (fun v_ h2 h1 => ?_)
       refine XC.region <| rR rfl rfl rfl (RO.fieldOwn fo_41_0 rfl) <| rR rfl rfl rfl (RO.loadOwnAgg ag_39 rfl rfl rfl rfl) ?_
       refine guardK h2 (fun g9 h2 => ?_)
       refine XL.put rfl rfl (lb rfl) (OpOK.callFun (validR_fun x7.lo (Nat.le_of_ble_eq_true g9)) rfl (.cons (.agg (.cons (.d _) (.cons (.d _) .nil))) .nil)) ?_
       refine rR rfl rfl rfl (RO.not rfl) <| rM rfl rfl rfl ?_
       refine XL.case (d := 30) (c := (!(validB x7.lo))) rfl (fun c10 => ?_) (fun c10 => ?_)
       ·
        replace h2 := condT c10 h2
        refine XL.no rfl rfl <| XL.no rfl rfl <| XL.no rfl rfl <| XL.no rfl rfl <| rR rfl rfl rfl (RO.pickT rfl rfl) <| XL.nil ?_
        have e_ := Option.some.inj h2
        subst e_
        exact XQ.joinR true (stle (tR rfl (tR rfl (tR rfl (tR rfl (tR rfl tZ))))) (hR rfl hZ) kZ rfl (Nat.zero_le _) rfl rfl rfl (bB rfl rfl bZ) rfl rfl) h1
       ·
        replace h2 := condF c10 h2
        refine rR rfl rfl rfl (RO.fieldOwn fo_41_1 rfl) <| rR rfl rfl rfl (RO.loadOwnAgg ag_39 rfl rfl rfl rfl) ?_
        refine guardK h2 (fun g11 h2 => ?_)
        refine XL.put rfl rfl (lb rfl) (OpOK.callFun (validR_fun x7.hi (Nat.le_of_ble_eq_true g11)) rfl (.cons (.agg (.cons (.d _) (.cons (.d _) .nil))) .nil)) ?_
        refine rR rfl rfl rfl (RO.not rfl) <| rR rfl rfl rfl (RO.pickF rfl rfl) <| XL.nil ?_
        have e_ := Option.some.inj h2
        subst e_
        exact XQ.joinR (!(validB x7.hi)) (stle (tR rfl (tR rfl (tR rfl (tR rfl (tR rfl tZ))))) (hR rfl hZ) kZ rfl (Nat.zero_le _) rfl rfl rfl (bB rfl rfl bZ) rfl rfl) h1
      ·
       intro v8 h1
       refine XQ.seq ?_
       refine XC.cond (b := v8) rfl (fun c12 => ?_) (fun c12 => ?_)
       ·
        replace h1 := condT c12 h1
        refine XC.seq <| XC.region <| rM rfl rfl rfl <| rA rfl rfl rfl <| rA rfl rfl rfl <| XL.nil <| XQ.seq <| XC.ret ?_
        have e_ := Option.some.inj h1
        subst e_
        have e_ : _ = _ := ho1
        subst e_
        try dsimp only [Sum.elim_inl, Sum.elim_inr] at h0
        have e_ := Option.some.inj h0
        subst e_
        exact XQ.retF (fun _ _ h => h) rfl (RAs.tmp rfl (RAs.tmp rfl .nil)) (.cons (.one (.d _)) (.cons (.one (.d _)) .nil))
       ·
        replace h1 := condF c12 h1
        refine XC.skip <| XQ.seq <| XC.seq ?_
        refine XC.anyRun [0, 4, 8] [(1, 0), (2, 0), (3, 0), (5, 0), (5, 1), (6, 0), (6, 1), (7, 0), (7, 1)] mixed (by kernel_rfl) (by kernel_rfl) (by kernel_rfl) ?_
        refine RunA.eff rfl rfl rfl (OpOK.lit0E (α := LV) sl_37 z_59 rfl rfl (lb rfl)) rfl <| RunA.rd rfl rfl rfl (OpOK.of_ro (RO.fieldOwn fo_41_0 rfl)) rfl <| RunA.rd rfl rfl rfl (OpOK.of_ro (RO.fieldOwn fo_39_1 rfl)) rfl <| RunA.rd rfl rfl rfl (OpOK.of_ro (RO.loadOwn ag_37 rfl rfl rfl)) rfl ?_
        refine guardK h1 (fun g13 h1 => ?_)
        refine RunA.eff rfl rfl rfl (OpOK.appendE (α := LV) sl_37 el_59 rfl rfl rfl rfl rfl (.d _) g13) rfl <| RunA.rd rfl rfl rfl (OpOK.of_ro (RO.fieldOwn fo_41_1 rfl)) rfl <| RunA.rd rfl rfl rfl (OpOK.of_ro (RO.fieldOwn fo_39_1 rfl)) rfl <| RunA.rd rfl rfl rfl (OpOK.of_ro (RO.loadOwn ag_37 rfl rfl rfl)) rfl ?_
        refine guardK h1 (fun g14 h1 => ?_)
        refine RunA.eff rfl rfl rfl (OpOK.appendE (α := LV) sl_37 el_59 rfl rfl rfl rfl rfl (.d _) g14) rfl <| RunA.rd rfl rfl rfl (OpOK.of_ro (RO.assign rfl)) rfl ?_
        refine RunA.nil ⟨?ex, _, _, rfl, ?_⟩
        case ex => exact ⟨⟨_, rfl, _, _, rfl, rfl, rfl, .inl ⟨rfl, _, OpOK.of_ro (RO.fieldOwn fo_41_0 rfl), rfl⟩⟩, ⟨_, rfl, _, _, rfl, rfl, rfl, .inl ⟨rfl, _, OpOK.of_ro (RO.fieldOwn fo_39_1 rfl), rfl⟩⟩, ⟨_, rfl, _, _, rfl, rfl, rfl, .inl ⟨rfl, _, OpOK.of_ro (RO.loadOwn ag_37 rfl rfl rfl), rfl⟩⟩, ⟨_, rfl, _, _, rfl, rfl, rfl, .inl ⟨rfl, _, OpOK.of_ro (RO.fieldOwn fo_41_1 rfl), rfl⟩⟩, ⟨_, rfl, _, _, rfl, rfl, rfl, .inl ⟨rfl, _, OpOK.of_ro (RO.fieldOwn fo_41_1 rfl), rfl⟩⟩, ⟨_, rfl, _, _, rfl, rfl, rfl, .inl ⟨rfl, _, OpOK.of_ro (RO.fieldOwn fo_39_1 rfl), rfl⟩⟩, ⟨_, rfl, _, _, rfl, rfl, rfl, .inl ⟨rfl, _, OpOK.of_ro (RO.fieldOwn fo_39_1 rfl), rfl⟩⟩, ⟨_, rfl, _, _, rfl, rfl, rfl, .inl ⟨rfl, _, OpOK.of_ro (RO.loadOwn ag_37 rfl rfl rfl), rfl⟩⟩, ⟨_, rfl, _, _, rfl, rfl, rfl, .inl ⟨rfl, _, OpOK.of_ro (RO.loadOwn ag_37 rfl rfl rfl), rfl⟩⟩, trivial⟩
        refine XQ.less (st' := ⟨[(0, .v (.one (dI a0))), (1, .v (.one (dS a1))), (6, .v (.one (dI s1))), (8, .v (.one (dA 1 (((([] : List LV) ++ x7.lo.vs) ++ x7.hi.vs) : List LV))))], [(0, .cells 41 (cE x7))], [(1, some ⟨59, 2, (Enc.encL (((([] : List LV) ++ x7.lo.vs) ++ x7.hi.vs) : List LV)).length⟩)], 2, 69, []⟩) (stle (tR rfl (tR rfl (tR rfl (tR rfl tZ)))) (hR rfl hZ) (kR rfl kZ) rfl (Nat.zero_le _) rfl rfl rfl (bB rfl rfl bZ) rfl rfl) <| XQ.seq <| XC.seq <| XC.region <| rA rfl rfl rfl <| XL.nil <| XQ.seq <| XC.block ?_
        refine XC.joinX 2 (fun (o15 : Unit) => ⟨[(0, .v (.one (dI a0))), (1, .v (.one (dS a1))), (6, .v (.one (dI s1)))], [(0, .cells 41 (cE x7))], [(1, some ⟨59, 2, (Enc.encL (((([] : List LV) ++ x7.lo.vs) ++ x7.hi.vs) : List LV)).length⟩)], 2, 69, []⟩) (fun (o15 : Unit) => (some (.next (w64 (s1 + 1)))) = some oo1) ?_ ?_
        ·
         refine bindK h1 (fun o16 hl2 h1 => ?_)
         refine XC.loopM (m14_l0 x7 a0 s1) (fun s2 => ⟨[(0, .v (.one (dI a0))), (1, .v (.one (dS a1))), (6, .v (.one (dI s1))), (8, .v (.one (dA 1 (((([] : List LV) ++ x7.lo.vs) ++ x7.hi.vs) : List LV)))), (9, .v (.one (dI s2)))], [(0, .cells 41 (cE x7))], [(1, some ⟨59, 2, (Enc.encL (((([] : List LV) ++ x7.lo.vs) ++ x7.hi.vs) : List LV)).length⟩)], 2, 69, []⟩) 0 o16 (stle (tR rfl (tR rfl (tR rfl (tR rfl (tR rfl tZ))))) (hR rfl hZ) (kR rfl kZ) rfl (Nat.zero_le _) rfl rfl rfl (bB rfl rfl bZ) rfl rfl) hl2 (fun s2 n2 oo2 h2 ho2 => ?_)
         unfold m14_l0 at h2
         refine XC.seq <| XC.seq <| XC.region <| rM rfl rfl rfl <| rM rfl rfl rfl <| rR rfl rfl rfl (RO.lenE (α := LV) sl_37 rfl (.app _ _)) <| rR rfl rfl rfl (RO.binInt rfl rfl rfl) <| XL.nil <| XQ.seq ?_
         refine XC.cond (b := (decide (s2 < (((([] : List LV) ++ x7.lo.vs) ++ x7.hi.vs).length : Int)))) rfl (fun c17 => ?_) (fun c17 => ?_)
         ·
          replace h2 := condT c17 h2
          refine XC.skip <| XQ.seq <| XC.seq <| XC.block <| XC.seq ?_
          refine XC.joinR (fun (v18 : Bool) => ⟨[(0, .v (.one (dI a0))), (1, .v (.one (dS a1))), (6, .v (.one (dI s1))), (8, .v (.one (dA 1 (((([] : List LV) ++ x7.lo.vs) ++ x7.hi.vs) : List LV)))), (9, .v (.one (dI s2))), (67, .v (.one (dB v18)))], [(0, .cells 41 (cE x7))], [(1, some ⟨59, 2, (Enc.encL (((([] : List LV) ++ x7.lo.vs) ++ x7.hi.vs) : List LV)).length⟩)], 2, 69, []⟩) (fun (v18 : Bool) => (cond v18
              (some (.done (.inr (s1, 24))))
              (some (.next (w64 (s2 + 1))))) = some oo2) ?_ ?_
          ·
           refine bindK h2 (fun v_ h3 h2 => ?_)
           refine XC.region <| rM rfl rfl rfl <| rM rfl rfl rfl ?_
           refine bindK h3 (fun x19 hx19 h3 => ?_)
           refine rR rfl rfl rfl (RO.indexE (α := LV) sl_37 rfl (.app _ _) rfl hx19) <| rR rfl rfl rfl (RO.fieldPel fo_59_0 rfl) <| rR rfl rfl rfl (RO.loadPel ag_3 rfl rfl) <| rR rfl rfl rfl (RO.binInt rfl rfl rfl) <| rM rfl rfl rfl ?_
           refine XL.case (d := 58) (c := (decide (x19.1 < 0))) rfl (fun c20 => ?_) (fun c20 => ?_)
           ·
            replace h3 := condT c20 h3
            refine rM rfl rfl rfl <| rM rfl rfl rfl ?_
            refine bindK h3 (fun x21 hx21 h3 => ?_)
            refine rR rfl rfl rfl (RO.indexE (α := LV) sl_37 rfl (.app _ _) rfl hx21) <| rR rfl rfl rfl (RO.fieldPel fo_59_0 rfl) <| rR rfl rfl rfl (RO.loadPel ag_3 rfl rfl) <| rR rfl rfl rfl (RO.binInt rfl rfl rfl) <| rM rfl rfl rfl <| rR rfl rfl rfl (RO.binInt rfl rfl rfl) <| rR rfl rfl rfl (RO.pickT rfl rfl) <| XL.nil ?_
            have e_ := Option.some.inj h3
            subst e_
            exact XQ.joinR (decide (a0 ≤ (w64 ((-1) - x21.1)))) (stle (tR rfl (tR rfl (tR rfl (tR rfl (tR rfl (tR rfl tZ)))))) (hR rfl hZ) (kR rfl kZ) rfl (Nat.zero_le _) rfl rfl rfl (bB rfl rfl bZ) rfl rfl) h2
           ·
            replace h3 := condF c20 h3
            refine XL.no rfl rfl <| XL.no rfl rfl <| XL.no rfl rfl <| XL.no rfl rfl <| XL.no rfl rfl <| XL.no rfl rfl <| XL.no rfl rfl <| XL.no rfl rfl <| rR rfl rfl rfl (RO.pickF rfl rfl) <| XL.nil ?_
            have e_ := Option.some.inj h3
            subst e_
            exact XQ.joinR false (stle (tR rfl (tR rfl (tR rfl (tR rfl (tR rfl (tR rfl tZ)))))) (hR rfl hZ) (kR rfl kZ) rfl (Nat.zero_le _) rfl rfl rfl (bB rfl rfl bZ) rfl rfl) h2
          ·
           intro v18 h2
           refine XQ.seq ?_
           refine XC.cond (b := v18) rfl (fun c22 => ?_) (fun c22 => ?_)
           ·
            replace h2 := condT c22 h2
            refine XC.seq <| XC.region <| rM rfl rfl rfl <| rA rfl rfl rfl <| rA rfl rfl rfl <| XL.nil <| XQ.seq <| XC.ret ?_
            have e_ := Option.some.inj h2
            subst e_
            have e_ : _ = _ := ho2
            subst e_
            try dsimp only [Sum.elim_inl, Sum.elim_inr] at h1
            have e_ := Option.some.inj h1
            subst e_
            have e_ : _ = _ := ho1
            subst e_
            try dsimp only [Sum.elim_inl, Sum.elim_inr] at h0
            have e_ := Option.some.inj h0
            subst e_
            exact XQ.retF (fun _ _ h => h) rfl (RAs.tmp rfl (RAs.tmp rfl .nil)) (.cons (.one (.d _)) (.cons (.one (.d _)) .nil))
           ·
            replace h2 := condF c22 h2
            refine XC.skip <| XQ.inBlock <| XQ.seq <| XC.region <| rM rfl rfl rfl <| rR rfl rfl rfl (RO.binInt rfl rfl rfl) <| rA rfl rfl rfl <| XL.nil ?_
            have e_ := Option.some.inj h2
            subst e_
            refine XQ.nextM (w64 (s2 + 1)) (stle (tR rfl (tR rfl (tR rfl (tR rfl (tR rfl tZ))))) (hR rfl hZ) (kR rfl kZ) rfl (Nat.zero_le _) rfl rfl rfl (bB rfl rfl bZ) rfl rfl) ho2
         ·
          replace h2 := condF c17 h2
          refine XC.exit <| XQ.thenE <| XQ.thenE ?_
          have e_ := Option.some.inj h2
          subst e_
          have e_ : _ = _ := ho2
          subst e_
          exact XQ.joinX () (stle (tR rfl (tR rfl (tR rfl tZ))) (hR rfl hZ) (kR rfl kZ) rfl (Nat.zero_le _) rfl rfl rfl (bB rfl rfl bZ) rfl rfl) h1
        ·
         intro o15 h1
         refine XQ.blockX <| XQ.inBlock <| XQ.seq <| XC.region <| rM rfl rfl rfl <| rR rfl rfl rfl (RO.binInt rfl rfl rfl) <| rA rfl rfl rfl <| XL.nil ?_
         have e_ := Option.some.inj h1
         subst e_
         refine XQ.nextM (w64 (s1 + 1)) (stle (tR rfl (tR rfl (tR rfl tZ))) hZ kZ rfl (Nat.zero_le _) rfl rfl rfl bZ rfl rfl) ho1
     ·
      replace h1 := condF c6 h1
      refine XC.exit <| XQ.thenE <| XQ.thenE ?_
      have e_ := Option.some.inj h1
      subst e_
      have e_ : _ = _ := ho1
      subst e_
      exact XQ.joinX () (stle tZ hZ kZ rfl (Nat.zero_le _) rfl rfl rfl bZ rfl rfl) h0
    ·
     intro o4 h0
     refine XQ.blockX <| XQ.seq <| XC.seq <| XC.region <| rA rfl rfl rfl <| rA rfl rfl rfl <| XL.nil <| XQ.seq <| XC.ret ?_
     have e_ := Option.some.inj h0
     subst e_
     exact XQ.retF (fun _ _ h => h) rfl (RAs.tmp rfl (RAs.tmp rfl .nil)) (.cons (.one (.d _)) (.cons (.one (.d _)) .nil))
end Go.Proofs.Ytkimijmiphkddaa
