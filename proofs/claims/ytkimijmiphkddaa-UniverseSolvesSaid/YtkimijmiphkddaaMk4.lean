/- Mirrors of layer 2: the law of Solve. -/
import Derived.Test.YtkimijmiphkddaaAk
import Derived.Test.YtkimijmiphkddaaMs
import Derived.Test.YtkimijmiphkddaaPb
namespace Go.Proofs.Ytkimijmiphkddaa
open Go.RowKit Go.Shelf
set_option linter.unusedSimpArgs false
set_option linter.unusedVariables false

theorem en_4 : Enters Try.prog 4 := enters_of Try.func4 (by kernel_rfl) rfl
/-- euclid/euclidlaw02.UniverseSolves -/
def m4 (a0 : Int) (a1 : List Bnd) : Option Bool :=
  Option.bind (cond (!(fewB a1))
    (some true)
    (cond (decide (10 < a0))
    (some (decide (a0 ≤ 2000)))
    (some false))) (fun (v1 : Bool) => cond v1
    (some true)
    (Option.bind (m15 a0 a1) fun (x3 : (List Lvl) × Int × Int) =>
  Option.bind (m16 a0 a1) fun (x4 : (List Lvl) × Int × Int) =>
  Option.bind (Option.bind (m17 x3.1 x4.1) fun (x6 : Bool) =>
  cond x6
    (cond (x3.2.1 == x4.2.1)
    (some (x3.2.2 == x4.2.2))
    (some false))
    (some false)) (fun (v5 : Bool) => some v5)))

set_option maxRecDepth 100000 in
set_option maxHeartbeats 8000000 in
theorem m4_ok (a0 : Int) (a1 : List Bnd) (r : Bool) (h0 : m4 a0 a1 = some r) : Fun Try.prog 4 [.one (dI a0), .one (dS a1)] (resOf [.one (dB r)]) := by
  unfold m4 at h0
  refine Fun.of_bodyM 9 53 Try.func4 rfl en_4 rfl (lb rfl) (fun S w => ?_)
  simp only [entry]
  refine XC.seq ?_
  refine XC.region ?_
  refine XL.rd rfl rfl (lb rfl) (RO.assign rfl) ?_
  refine XL.nil ?_
  refine XQ.seq ?_
  refine XC.seq ?_
  refine XC.seq ?_
  refine XC.joinR (fun (v1 : Bool) => ⟨[(0, .v (.one (dI a0))), (1, .v (.one (dS a1))), (21, .v (.one (dB v1)))], [], [], 0, 53, []⟩) (fun (v1 : Bool) => (cond v1
      (some true)
      (Option.bind (m15 a0 a1) fun (x3 : (List Lvl) × Int × Int) =>
    Option.bind (m16 a0 a1) fun (x4 : (List Lvl) × Int × Int) =>
    Option.bind (Option.bind (m17 x3.1 x4.1) fun (x6 : Bool) =>
    cond x6
      (cond (x3.2.1 == x4.2.1)
      (some (x3.2.2 == x4.2.2))
      (some false))
      (some false)) (fun (v5 : Bool) => some v5))) = some r) ?_ ?_
  ·
   refine bindK h0 (fun v_ h1 h0 => ?_)
   refine XC.region ?_
   refine XL.rd rfl rfl (lb rfl) (RO.move rfl) ?_
   refine XL.put rfl rfl (lb rfl) (OpOK.callFun (few_fun a1) rfl (.cons (.one (.d _)) .nil)) ?_
   refine XL.rd rfl rfl (lb rfl) (RO.not rfl) ?_
   refine XL.rd rfl rfl (lb rfl) (RO.move rfl) ?_
   refine XL.case (d := 14) (c := (!(fewB a1))) rfl (fun c2 => ?_) (fun c2 => ?_)
   ·
    replace h1 := condT c2 h1
    refine XL.no rfl rfl ?_
    refine XL.no rfl rfl ?_
    refine XL.no rfl rfl ?_
    refine XL.no rfl rfl ?_
    refine XL.no rfl rfl ?_
    refine XL.no rfl rfl ?_
    refine XL.rd rfl rfl (lb rfl) (RO.pickT rfl rfl) ?_
    refine XL.nil ?_
    have e_ := Option.some.inj h1
    subst e_
    exact XQ.joinR true (stle (tR rfl (tR rfl (tR rfl tZ))) hZ kZ rfl (Nat.zero_le _) rfl rfl rfl bZ rfl rfl) h0
   ·
    replace h1 := condF c2 h1
    refine XL.rd rfl rfl (lb rfl) (RO.move rfl) ?_
    refine XL.rd rfl rfl (lb rfl) (RO.binInt rfl rfl rfl) ?_
    refine XL.rd rfl rfl (lb rfl) (RO.move rfl) ?_
    refine XL.case (d := 17) (c := (decide (10 < a0))) rfl (fun c3 => ?_) (fun c3 => ?_)
    ·
     replace h1 := condT c3 h1
     refine XL.rd rfl rfl (lb rfl) (RO.move rfl) ?_
     refine XL.rd rfl rfl (lb rfl) (RO.binInt rfl rfl rfl) ?_
     refine XL.rd rfl rfl (lb rfl) (RO.pickT rfl rfl) ?_
     refine XL.rd rfl rfl (lb rfl) (RO.pickF rfl rfl) ?_
     refine XL.nil ?_
     have e_ := Option.some.inj h1
     subst e_
     exact XQ.joinR (decide (a0 ≤ 2000)) (stle (tR rfl (tR rfl (tR rfl tZ))) hZ kZ rfl (Nat.zero_le _) rfl rfl rfl bZ rfl rfl) h0
    ·
     replace h1 := condF c3 h1
     refine XL.no rfl rfl ?_
     refine XL.no rfl rfl ?_
     refine XL.rd rfl rfl (lb rfl) (RO.pickF rfl rfl) ?_
     refine XL.rd rfl rfl (lb rfl) (RO.pickF rfl rfl) ?_
     refine XL.nil ?_
     have e_ := Option.some.inj h1
     subst e_
     exact XQ.joinR false (stle (tR rfl (tR rfl (tR rfl tZ))) hZ kZ rfl (Nat.zero_le _) rfl rfl rfl bZ rfl rfl) h0
  ·
   intro v1 h0
   refine XQ.seq ?_
   refine XC.cond (b := v1) rfl (fun c4 => ?_) (fun c4 => ?_)
   ·
    replace h0 := condT c4 h0
    refine XC.seq ?_
    refine XC.region ?_
    refine XL.put rfl rfl (lb rfl) (OpOK.callFun (awake_fun) rfl .nil) ?_
    refine XL.rd rfl rfl (lb rfl) (RO.assign rfl) ?_
    refine XL.nil ?_
    refine XQ.seq ?_
    refine XC.ret ?_
    have e_ := Option.some.inj h0
    subst e_
    exact XQ.retF (fun _ _ h => h) rfl (RAs.tmp rfl .nil) (.cons (.one (.d _)) .nil)
   ·
    replace h0 := condF c4 h0
    refine XC.skip ?_
    refine XQ.seq ?_
    refine XC.seq ?_
    refine XC.region ?_
    refine XL.rd rfl rfl (lb rfl) (RO.move rfl) ?_
    refine XL.rd rfl rfl (lb rfl) (RO.move rfl) ?_
    refine bindK h0 (fun x5 hx5 h0 => ?_)
    refine XL.put rfl rfl (lb rfl) (OpOK.callFun (m15_ok a0 a1 x5 hx5) rfl (.cons (.one (.d _)) (.cons (.one (.d _)) .nil))) ?_
    refine XL.rd rfl rfl (lb rfl) (RO.move rfl) ?_
    refine XL.rd rfl rfl (lb rfl) (RO.extract rfl rfl) ?_
    refine XL.rd rfl rfl (lb rfl) (RO.extract rfl rfl) ?_
    refine XL.rd rfl rfl (lb rfl) (RO.extract rfl rfl) ?_
    refine XL.rd rfl rfl (lb rfl) (RO.assign rfl) ?_
    refine XL.rd rfl rfl (lb rfl) (RO.assign rfl) ?_
    refine XL.rd rfl rfl (lb rfl) (RO.assign rfl) ?_
    refine XL.nil ?_
    refine XQ.seq ?_
    refine XC.seq ?_
    refine XC.region ?_
    refine XL.rd rfl rfl (lb rfl) (RO.move rfl) ?_
    refine XL.rd rfl rfl (lb rfl) (RO.move rfl) ?_
    refine bindK h0 (fun x6 hx6 h0 => ?_)
    refine XL.put rfl rfl (lb rfl) (OpOK.callFun (m16_ok a0 a1 x6 hx6) rfl (.cons (.one (.d _)) (.cons (.one (.d _)) .nil))) ?_
    refine XL.rd rfl rfl (lb rfl) (RO.move rfl) ?_
    refine XL.rd rfl rfl (lb rfl) (RO.extract rfl rfl) ?_
    refine XL.rd rfl rfl (lb rfl) (RO.extract rfl rfl) ?_
    refine XL.rd rfl rfl (lb rfl) (RO.extract rfl rfl) ?_
    refine XL.rd rfl rfl (lb rfl) (RO.assign rfl) ?_
    refine XL.rd rfl rfl (lb rfl) (RO.assign rfl) ?_
    refine XL.rd rfl rfl (lb rfl) (RO.assign rfl) ?_
    refine XL.nil ?_
    refine XQ.seq ?_
    refine XC.seq ?_
    refine XC.joinR (fun (v7 : Bool) => ⟨[(4, .v (.one (dB v7)))], [], [], 0, 53, []⟩) (fun (v7 : Bool) => (some v7) = some r) ?_ ?_
    ·
     refine bindK h0 (fun v_ h1 h0 => ?_)
     refine XC.region ?_
     refine XL.put rfl rfl (lb rfl) (OpOK.callFun (awake_fun) rfl .nil) ?_
     refine XL.rd rfl rfl (lb rfl) (RO.move rfl) ?_
     refine XL.rd rfl rfl (lb rfl) (RO.move rfl) ?_
     refine XL.rd rfl rfl (lb rfl) (RO.move rfl) ?_
     refine bindK h1 (fun x8 hx8 h1 => ?_)
     refine XL.put rfl rfl (lb rfl) (OpOK.callFun (m17_ok x5.1 x6.1 x8 hx8) rfl (.cons (.one (.d _)) (.cons (.one (.d _)) .nil))) ?_
     refine XL.rd rfl rfl (lb rfl) (RO.pickT rfl rfl) ?_
     refine XL.rd rfl rfl (lb rfl) (RO.move rfl) ?_
     refine XL.case (d := 43) (c := x8) rfl (fun c9 => ?_) (fun c9 => ?_)
     ·
      replace h1 := condT c9 h1
      refine XL.rd rfl rfl (lb rfl) (RO.move rfl) ?_
      refine XL.rd rfl rfl (lb rfl) (RO.move rfl) ?_
      refine XL.rd rfl rfl (lb rfl) (RO.binInt rfl rfl rfl) ?_
      refine XL.rd rfl rfl (lb rfl) (RO.pickT rfl rfl) ?_
      refine XL.rd rfl rfl (lb rfl) (RO.move rfl) ?_
      refine XL.case (d := 48) (c := (x5.2.1 == x6.2.1)) rfl (fun c10 => ?_) (fun c10 => ?_)
      ·
       replace h1 := condT c10 h1
       refine XL.rd rfl rfl (lb rfl) (RO.move rfl) ?_
       refine XL.rd rfl rfl (lb rfl) (RO.move rfl) ?_
       refine XL.rd rfl rfl (lb rfl) (RO.binInt rfl rfl rfl) ?_
       refine XL.rd rfl rfl (lb rfl) (RO.pickT rfl rfl) ?_
       refine XL.rd rfl rfl (lb rfl) (RO.assign rfl) ?_
       refine XL.nil ?_
       have e_ := Option.some.inj h1
       subst e_
       exact XQ.joinR (x5.2.2 == x6.2.2) (stle (tR rfl tZ) hZ kZ rfl (Nat.zero_le _) rfl rfl rfl bZ rfl rfl) h0
      ·
       replace h1 := condF c10 h1
       refine XL.no rfl rfl ?_
       refine XL.no rfl rfl ?_
       refine XL.no rfl rfl ?_
       refine XL.rd rfl rfl (lb rfl) (RO.pickF rfl rfl) ?_
       refine XL.rd rfl rfl (lb rfl) (RO.assign rfl) ?_
       refine XL.nil ?_
       have e_ := Option.some.inj h1
       subst e_
       exact XQ.joinR false (stle (tR rfl tZ) hZ kZ rfl (Nat.zero_le _) rfl rfl rfl bZ rfl rfl) h0
     ·
      replace h1 := condF c9 h1
      refine XL.no rfl rfl ?_
      refine XL.no rfl rfl ?_
      refine XL.no rfl rfl ?_
      refine XL.rd rfl rfl (lb rfl) (RO.pickF rfl rfl) ?_
      refine XL.rd rfl rfl (lb rfl) (RO.move rfl) ?_
      refine XL.no rfl rfl ?_
      refine XL.no rfl rfl ?_
      refine XL.no rfl rfl ?_
      refine XL.rd rfl rfl (lb rfl) (RO.pickF rfl rfl) ?_
      refine XL.rd rfl rfl (lb rfl) (RO.assign rfl) ?_
      refine XL.nil ?_
      have e_ := Option.some.inj h1
      subst e_
      exact XQ.joinR false (stle (tR rfl tZ) hZ kZ rfl (Nat.zero_le _) rfl rfl rfl bZ rfl rfl) h0
    ·
     intro v7 h0
     refine XQ.seq ?_
     refine XC.ret ?_
     have e_ := Option.some.inj h0
     subst e_
     exact XQ.retF (fun _ _ h => h) rfl (RAs.tmp rfl .nil) (.cons (.one (.d _)) .nil)
end Go.Proofs.Ytkimijmiphkddaa
