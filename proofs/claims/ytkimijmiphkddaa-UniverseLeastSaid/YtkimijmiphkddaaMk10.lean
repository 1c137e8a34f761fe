/- Mirrors of layer 2: the law of least solutions. -/
import Derived.Test.YtkimijmiphkddaaAk
import Derived.Test.YtkimijmiphkddaaMh
import Derived.Test.YtkimijmiphkddaaMz
namespace Go.Proofs.Ytkimijmiphkddaa
open Go.RowKit Go.Shelf
set_option linter.unusedSimpArgs false
set_option linter.unusedVariables false

theorem en_10 : Enters Try.prog 10 := enters_of Try.func10 (by kernel_rfl) rfl
def m10_l0 (x6 : (List Lvl) × Int × Int) (a0 : List Lvl) (s1 : Int) : Option (LO Int (Unit ⊕ Bool)) :=
  cond (decide (s1 < (x6.1.length : Int)))
    (Option.bind (idx x6.1 s1) fun (x11 : Lvl) =>
  Option.bind (idx a0 s1) fun (x12 : Lvl) =>
  guardO ((cond (Nat.ble x11.vs.length 100000) (Nat.ble x12.vs.length 100000) false))
  (cond (!(leqB x11 x12))
    (some (.done (.inr false)))
    (some (.next (w64 (s1 + 1))))))
    (some (.done (.inl ())))

/-- euclid/euclidlaw02.UniverseLeast -/
def m10 (a0 : List Lvl) (a1 : List Bnd) : Option Bool :=
  Option.bind (cond (!(fewB a1))
    (some true)
    (cond (!(shortB a0))
    (some true)
    (Option.bind (m22 a1) fun (x4 : Bool) =>
  some (!x4)))) (fun (v1 : Bool) => cond v1
    (some true)
    (Option.bind (m24 a0 a1) fun (x3 : Bool × Int) =>
  Option.bind (cond (x3.2 != 0)
    (some true)
    (some (!x3.1))) (fun (v4 : Bool) => cond v4
    (some true)
    (Option.bind (m15 (a0.length : Int) a1) fun (x6 : (List Lvl) × Int × Int) =>
  Option.bind (cond (x6.2.2 != 0)
    (some true)
    (some ((x6.1.length : Int) != (a0.length : Int)))) (fun (v7 : Bool) => cond v7
    (some false)
    (Option.bind (loopN (m10_l0 x6 a0) FUEL 0) (Sum.elim (fun (o9 : Unit) => some true) (fun o => some o))))))))

set_option maxRecDepth 100000 in
set_option maxHeartbeats 8000000 in
theorem m10_ok (a0 : List Lvl) (a1 : List Bnd) (r : Bool) (h0 : m10 a0 a1 = some r) : Fun Try.prog 10 [.one (dS a0), .one (dS a1)] (resOf [.one (dB r)]) := by
  unfold m10 at h0
  refine Fun.of_bodyM 9 72 Try.func10 rfl en_10 rfl (lb rfl) (fun S w => ?_)
  simp only [entry]
  refine XC.seq <| XC.region <| rA rfl rfl rfl <| XL.nil <| XQ.seq <| XC.seq <| XC.seq ?_
  refine XC.joinR (fun (v1 : Bool) => ⟨[(0, .v (.one (dS a0))), (1, .v (.one (dS a1))), (23, .v (.one (dB v1)))], [], [], 0, 72, []⟩) (fun (v1 : Bool) => (cond v1
      (some true)
      (Option.bind (m24 a0 a1) fun (x3 : Bool × Int) =>
    Option.bind (cond (x3.2 != 0)
      (some true)
      (some (!x3.1))) (fun (v4 : Bool) => cond v4
      (some true)
      (Option.bind (m15 (a0.length : Int) a1) fun (x6 : (List Lvl) × Int × Int) =>
    Option.bind (cond (x6.2.2 != 0)
      (some true)
      (some ((x6.1.length : Int) != (a0.length : Int)))) (fun (v7 : Bool) => cond v7
      (some false)
      (Option.bind (loopN (m10_l0 x6 a0) FUEL 0) (Sum.elim (fun (o9 : Unit) => some true) (fun o => some o)))))))) = some r) ?_ ?_
  ·
   refine bindK h0 (fun v_ h1 h0 => ?_)
   refine XC.region <| rM rfl rfl rfl ?_
   refine XL.put rfl rfl (lb rfl) (OpOK.callFun (few_fun a1) rfl (.cons (.one (.d _)) .nil)) ?_
   refine rR rfl rfl rfl (RO.not rfl) <| rM rfl rfl rfl ?_
   refine XL.case (d := 14) (c := (!(fewB a1))) rfl (fun c2 => ?_) (fun c2 => ?_)
   ·
    replace h1 := condT c2 h1
    refine XL.no rfl rfl <| XL.no rfl rfl <| XL.no rfl rfl <| rR rfl rfl rfl (RO.pickT rfl rfl) <| rM rfl rfl rfl <| XL.no rfl rfl <| XL.no rfl rfl <| XL.no rfl rfl <| rR rfl rfl rfl (RO.pickT rfl rfl) <| XL.nil ?_
    have e_ := Option.some.inj h1
    subst e_
    exact XQ.joinR true (stle (tR rfl (tR rfl (tR rfl tZ))) hZ kZ rfl (Nat.zero_le _) rfl rfl rfl bZ rfl rfl) h0
   ·
    replace h1 := condF c2 h1
    refine rM rfl rfl rfl ?_
    refine XL.put rfl rfl (lb rfl) (OpOK.callFun (short_fun a0) rfl (.cons (.one (.d _)) .nil)) ?_
    refine rR rfl rfl rfl (RO.not rfl) <| rR rfl rfl rfl (RO.pickF rfl rfl) <| rM rfl rfl rfl ?_
    refine XL.case (d := 19) (c := (!(shortB a0))) rfl (fun c3 => ?_) (fun c3 => ?_)
    ·
     replace h1 := condT c3 h1
     refine XL.no rfl rfl <| XL.no rfl rfl <| XL.no rfl rfl <| rR rfl rfl rfl (RO.pickT rfl rfl) <| XL.nil ?_
     have e_ := Option.some.inj h1
     subst e_
     exact XQ.joinR true (stle (tR rfl (tR rfl (tR rfl tZ))) hZ kZ rfl (Nat.zero_le _) rfl rfl rfl bZ rfl rfl) h0
    ·
     replace h1 := condF c3 h1
     refine rM rfl rfl rfl ?_
     refine bindK h1 (fun x4 hx4 h1 => ?_)
     refine XL.put rfl rfl (lb rfl) (OpOK.callFun (m22_ok a1 x4 hx4) rfl (.cons (.one (.d _)) .nil)) <| rR rfl rfl rfl (RO.not rfl) <| rR rfl rfl rfl (RO.pickF rfl rfl) <| XL.nil ?_
     have e_ := Option.some.inj h1
     subst e_
     exact XQ.joinR (!x4) (stle (tR rfl (tR rfl (tR rfl tZ))) hZ kZ rfl (Nat.zero_le _) rfl rfl rfl bZ rfl rfl) h0
  ·
   intro v1 h0
   refine XQ.seq ?_
   refine XC.cond (b := v1) rfl (fun c5 => ?_) (fun c5 => ?_)
   ·
    replace h0 := condT c5 h0
    refine XC.seq <| XC.region <| XL.put rfl rfl (lb rfl) (OpOK.callFun (awake_fun) rfl .nil) <| rA rfl rfl rfl <| XL.nil <| XQ.seq <| XC.ret ?_
    have e_ := Option.some.inj h0
    subst e_
    exact XQ.retF (fun _ _ h => h) rfl (RAs.tmp rfl .nil) (.cons (.one (.d _)) .nil)
   ·
    replace h0 := condF c5 h0
    refine XC.skip <| XQ.seq <| XC.seq <| XC.region <| rM rfl rfl rfl <| rM rfl rfl rfl ?_
    refine bindK h0 (fun x6 hx6 h0 => ?_)
    refine XL.put rfl rfl (lb rfl) (OpOK.callFun (m24_ok a0 a1 x6 hx6) rfl (.cons (.one (.d _)) (.cons (.one (.d _)) .nil))) <| rM rfl rfl rfl <| rR rfl rfl rfl (RO.extract rfl rfl) <| rR rfl rfl rfl (RO.extract rfl rfl) <| rA rfl rfl rfl <| rA rfl rfl rfl <| XL.nil <| XQ.seq <| XC.seq <| XC.seq ?_
    refine XC.joinR (fun (v7 : Bool) => ⟨[(0, .v (.one (dS a0))), (1, .v (.one (dS a1))), (36, .v (.one (dB v7)))], [], [], 0, 72, []⟩) (fun (v7 : Bool) => (cond v7
        (some true)
        (Option.bind (m15 (a0.length : Int) a1) fun (x9 : (List Lvl) × Int × Int) =>
      Option.bind (cond (x9.2.2 != 0)
        (some true)
        (some ((x9.1.length : Int) != (a0.length : Int)))) (fun (v10 : Bool) => cond v10
        (some false)
        (Option.bind (loopN (m10_l0 x9 a0) FUEL 0) (Sum.elim (fun (o12 : Unit) => some true) (fun o => some o)))))) = some r) ?_ ?_
    ·
     refine bindK h0 (fun v_ h1 h0 => ?_)
     refine XC.region <| rM rfl rfl rfl <| rR rfl rfl rfl (RO.binInt rfl rfl rfl) <| rM rfl rfl rfl ?_
     refine XL.case (d := 33) (c := (x6.2 != 0)) rfl (fun c8 => ?_) (fun c8 => ?_)
     ·
      replace h1 := condT c8 h1
      refine XL.no rfl rfl <| XL.no rfl rfl <| rR rfl rfl rfl (RO.pickT rfl rfl) <| XL.nil ?_
      have e_ := Option.some.inj h1
      subst e_
      exact XQ.joinR true (stle (tR rfl (tR rfl (tR rfl tZ))) hZ kZ rfl (Nat.zero_le _) rfl rfl rfl bZ rfl rfl) h0
     ·
      replace h1 := condF c8 h1
      refine rM rfl rfl rfl <| rR rfl rfl rfl (RO.not rfl) <| rR rfl rfl rfl (RO.pickF rfl rfl) <| XL.nil ?_
      have e_ := Option.some.inj h1
      subst e_
      exact XQ.joinR (!x6.1) (stle (tR rfl (tR rfl (tR rfl tZ))) hZ kZ rfl (Nat.zero_le _) rfl rfl rfl bZ rfl rfl) h0
    ·
     intro v7 h0
     refine XQ.seq ?_
     refine XC.cond (b := v7) rfl (fun c9 => ?_) (fun c9 => ?_)
     ·
      replace h0 := condT c9 h0
      refine XC.seq <| XC.region <| XL.put rfl rfl (lb rfl) (OpOK.callFun (awake_fun) rfl .nil) <| rA rfl rfl rfl <| XL.nil <| XQ.seq <| XC.ret ?_
      have e_ := Option.some.inj h0
      subst e_
      exact XQ.retF (fun _ _ h => h) rfl (RAs.tmp rfl .nil) (.cons (.one (.d _)) .nil)
     ·
      replace h0 := condF c9 h0
      refine XC.skip <| XQ.seq <| XC.seq <| XC.region <| rM rfl rfl rfl <| rR rfl rfl rfl (RO.lenE (α := Lvl) sl_31 rfl (.d _)) <| rM rfl rfl rfl ?_
      refine bindK h0 (fun x10 hx10 h0 => ?_)
      refine XL.put rfl rfl (lb rfl) (OpOK.callFun (m15_ok (a0.length : Int) a1 x10 hx10) rfl (.cons (.one (.d _)) (.cons (.one (.d _)) .nil))) <| rM rfl rfl rfl <| rR rfl rfl rfl (RO.extract rfl rfl) <| rR rfl rfl rfl (RO.extract rfl rfl) <| rR rfl rfl rfl (RO.extract rfl rfl) <| rA rfl rfl rfl <| rA rfl rfl rfl <| rA rfl rfl rfl <| XL.nil <| XQ.seq <| XC.seq <| XC.seq ?_
      refine XC.joinR (fun (v11 : Bool) => ⟨[(0, .v (.one (dS a0))), (7, .v (.one (dS x10.1))), (54, .v (.one (dB v11)))], [], [], 0, 72, []⟩) (fun (v11 : Bool) => (cond v11
          (some false)
          (Option.bind (loopN (m10_l0 x10 a0) FUEL 0) (Sum.elim (fun (o13 : Unit) => some true) (fun o => some o)))) = some r) ?_ ?_
      ·
       refine bindK h0 (fun v_ h1 h0 => ?_)
       refine XC.region <| rM rfl rfl rfl <| rR rfl rfl rfl (RO.binInt rfl rfl rfl) <| rM rfl rfl rfl ?_
       refine XL.case (d := 48) (c := (x10.2.2 != 0)) rfl (fun c12 => ?_) (fun c12 => ?_)
       ·
        replace h1 := condT c12 h1
        refine XL.no rfl rfl <| XL.no rfl rfl <| XL.no rfl rfl <| XL.no rfl rfl <| XL.no rfl rfl <| rR rfl rfl rfl (RO.pickT rfl rfl) <| XL.nil ?_
        have e_ := Option.some.inj h1
        subst e_
        exact XQ.joinR true (stle (tR rfl (tR rfl (tR rfl tZ))) hZ kZ rfl (Nat.zero_le _) rfl rfl rfl bZ rfl rfl) h0
       ·
        replace h1 := condF c12 h1
        refine rM rfl rfl rfl <| rR rfl rfl rfl (RO.lenE (α := Lvl) sl_31 rfl (.d _)) <| rM rfl rfl rfl <| rR rfl rfl rfl (RO.lenE (α := Lvl) sl_31 rfl (.d _)) <| rR rfl rfl rfl (RO.binInt rfl rfl rfl) <| rR rfl rfl rfl (RO.pickF rfl rfl) <| XL.nil ?_
        have e_ := Option.some.inj h1
        subst e_
        exact XQ.joinR ((x10.1.length : Int) != (a0.length : Int)) (stle (tR rfl (tR rfl (tR rfl tZ))) hZ kZ rfl (Nat.zero_le _) rfl rfl rfl bZ rfl rfl) h0
      ·
       intro v11 h0
       refine XQ.seq ?_
       refine XC.cond (b := v11) rfl (fun c13 => ?_) (fun c13 => ?_)
       ·
        replace h0 := condT c13 h0
        refine XC.seq <| XC.region <| rA rfl rfl rfl <| XL.nil <| XQ.seq <| XC.ret ?_
        have e_ := Option.some.inj h0
        subst e_
        exact XQ.retF (fun _ _ h => h) rfl (RAs.tmp rfl .nil) (.cons (.one (.d _)) .nil)
       ·
        replace h0 := condF c13 h0
        refine XC.skip <| XQ.seq <| XC.seq <| XC.seq <| XC.region <| rA rfl rfl rfl <| XL.nil <| XQ.seq <| XC.block ?_
        refine XC.joinX 0 (fun (o14 : Unit) => ⟨[], [], [], 0, 72, []⟩) (fun (o14 : Unit) => (some true) = some r) ?_ ?_
        ·
         refine bindK h0 (fun o15 hl1 h0 => ?_)
         refine XC.loopM (m10_l0 x10 a0) (fun s1 => ⟨[(0, .v (.one (dS a0))), (7, .v (.one (dS x10.1))), (10, .v (.one (dI s1)))], [], [], 0, 72, []⟩) 0 o15 (stle (tR rfl (tR rfl (tR rfl tZ))) hZ kZ rfl (Nat.zero_le _) rfl rfl rfl bZ rfl rfl) hl1 (fun s1 n1 oo1 h1 ho1 => ?_)
         unfold m10_l0 at h1
         refine XC.seq <| XC.seq <| XC.region <| rM rfl rfl rfl <| rM rfl rfl rfl <| rR rfl rfl rfl (RO.lenE (α := Lvl) sl_31 rfl (.d _)) <| rR rfl rfl rfl (RO.binInt rfl rfl rfl) <| XL.nil <| XQ.seq ?_
         refine XC.cond (b := (decide (s1 < (x10.1.length : Int)))) rfl (fun c16 => ?_) (fun c16 => ?_)
         ·
          replace h1 := condT c16 h1
          refine XC.skip <| XQ.seq <| XC.seq <| XC.block <| XC.seq ?_
          refine XC.anyRun [] [] mixed (by kernel_rfl) (by kernel_rfl) (by kernel_rfl) ?_
          refine RunA.rd rfl rfl rfl (OpOK.of_ro (RO.move rfl)) rfl <| RunA.rd rfl rfl rfl (OpOK.of_ro (RO.move rfl)) rfl ?_
          refine bindK h1 (fun x17 hx17 h1 => ?_)
          refine RunA.rd rfl rfl rfl (OpOK.of_ro (RO.indexE (α := Lvl) sl_31 rfl (.d _) rfl hx17)) rfl <| RunA.rd rfl rfl rfl (OpOK.of_ro (RO.loadPelAgg ag_39 rfl rfl rfl)) rfl <| RunA.rd rfl rfl rfl (OpOK.of_ro (RO.move rfl)) rfl <| RunA.rd rfl rfl rfl (OpOK.of_ro (RO.move rfl)) rfl ?_
          refine bindK h1 (fun x18 hx18 h1 => ?_)
          refine RunA.rd rfl rfl rfl (OpOK.of_ro (RO.indexE (α := Lvl) sl_31 rfl (.d _) rfl hx18)) rfl <| RunA.rd rfl rfl rfl (OpOK.of_ro (RO.loadPelAgg ag_39 rfl rfl rfl)) rfl ?_
          refine guardK h1 (fun g19 h1 => ?_)
          refine RunA.rd rfl rfl rfl (OpOK.callFun (leqR_fun x17 x18 (Nat.le_of_ble_eq_true (cond_left g19)) (Nat.le_of_ble_eq_true (cond_right g19))) rfl (.cons (.agg (.cons (.d _) (.cons (.d _) .nil))) (.cons (.agg (.cons (.d _) (.cons (.d _) .nil))) .nil))) rfl ?_
          refine RunA.rd rfl rfl rfl (OpOK.of_ro (RO.not rfl)) rfl ?_
          refine RunA.nil ⟨?ex, _, _, rfl, ?_⟩
          case ex => exact trivial
          refine XQ.less (st' := ⟨[(0, .v (.one (dS a0))), (7, .v (.one (dS x10.1))), (10, .v (.one (dI s1))), (70, .v (.one (dB (!(leqB x17 x18)))))], [], [], 0, 72, []⟩) (stle (tR rfl (tR rfl (tR rfl (tR rfl tZ)))) hZ kZ rfl (Nat.zero_le _) rfl rfl rfl bZ rfl rfl) <| XQ.seq ?_
          refine XC.cond (b := (!(leqB x17 x18))) rfl (fun c20 => ?_) (fun c20 => ?_)
          ·
           replace h1 := condT c20 h1
           refine XC.seq <| XC.region <| rA rfl rfl rfl <| XL.nil <| XQ.seq <| XC.ret ?_
           have e_ := Option.some.inj h1
           subst e_
           have e_ : _ = _ := ho1
           subst e_
           try dsimp only [Sum.elim_inl, Sum.elim_inr] at h0
           have e_ := Option.some.inj h0
           subst e_
           exact XQ.retF (fun _ _ h => h) rfl (RAs.tmp rfl .nil) (.cons (.one (.d _)) .nil)
          ·
           replace h1 := condF c20 h1
           refine XC.skip <| XQ.inBlock <| XQ.seq <| XC.region <| rM rfl rfl rfl <| rR rfl rfl rfl (RO.binInt rfl rfl rfl) <| rA rfl rfl rfl <| XL.nil ?_
           have e_ := Option.some.inj h1
           subst e_
           refine XQ.nextM (w64 (s1 + 1)) (stle (tR rfl (tR rfl (tR rfl tZ))) hZ kZ rfl (Nat.zero_le _) rfl rfl rfl bZ rfl rfl) ho1
         ·
          replace h1 := condF c16 h1
          refine XC.exit <| XQ.thenE <| XQ.thenE ?_
          have e_ := Option.some.inj h1
          subst e_
          have e_ : _ = _ := ho1
          subst e_
          exact XQ.joinX () (stle tZ hZ kZ rfl (Nat.zero_le _) rfl rfl rfl bZ rfl rfl) h0
        ·
         intro o14 h0
         refine XQ.blockX <| XQ.seq <| XC.seq <| XC.region <| XL.put rfl rfl (lb rfl) (OpOK.callFun (awake_fun) rfl .nil) <| rA rfl rfl rfl <| XL.nil <| XQ.seq <| XC.ret ?_
         have e_ := Option.some.inj h0
         subst e_
         exact XQ.retF (fun _ _ h => h) rfl (RAs.tmp rfl .nil) (.cons (.one (.d _)) .nil)
end Go.Proofs.Ytkimijmiphkddaa
