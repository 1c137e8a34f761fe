/- Mirrors of layer 2: the law of Check. -/
import Derived.Test.YtkimijmiphkddaaAk
import Derived.Test.YtkimijmiphkddaaPb
namespace Go.Proofs.Ytkimijmiphkddaa
open Go.RowKit Go.Shelf
set_option linter.unusedSimpArgs false
set_option linter.unusedVariables false

theorem en_3 : Enters Try.prog 3 := enters_of Try.func3 (by kernel_rfl) rfl
/-- euclid/euclidlaw02.UniverseChecks -/
def m3 (a0 : Int) (a1 : List Bnd) : Option Bool :=
  cond (!(fewB a1))
    (some true)
    (Option.bind (m13 a0 a1) fun (x2 : Int × Int) =>
  Option.bind (m14 a0 a1) fun (x3 : Int × Int) =>
  Option.bind (cond (x2.1 == x3.1)
    (some (x2.2 == x3.2))
    (some false)) (fun (v4 : Bool) => some v4))

set_option maxRecDepth 100000 in
set_option maxHeartbeats 8000000 in
theorem m3_ok (a0 : Int) (a1 : List Bnd) (r : Bool) (h0 : m3 a0 a1 = some r) : Fun Try.prog 3 [.one (dI a0), .one (dS a1)] (resOf [.one (dB r)]) := by
  unfold m3 at h0
  refine Fun.of_bodyM 9 36 Try.func3 rfl en_3 rfl (lb rfl) (fun S w => ?_)
  simp only [entry]
  refine XC.seq ?_
  refine XC.region ?_
  refine XL.rd rfl rfl (lb rfl) (RO.assign rfl) ?_
  refine XL.nil ?_
  refine XQ.seq ?_
  refine XC.seq ?_
  refine XC.seq ?_
  refine XC.region ?_
  refine XL.rd rfl rfl (lb rfl) (RO.move rfl) ?_
  refine XL.put rfl rfl (lb rfl) (OpOK.callFun (few_fun a1) rfl (.cons (.one (.d _)) .nil)) ?_
  refine XL.rd rfl rfl (lb rfl) (RO.not rfl) ?_
  refine XL.nil ?_
  refine XQ.seq ?_
  refine XC.cond (b := (!(fewB a1))) rfl (fun c1 => ?_) (fun c1 => ?_)
  ·
   replace h0 := condT c1 h0
   refine XC.seq ?_
   refine XC.region ?_
   refine XL.put rfl rfl (lb rfl) (OpOK.callFun (awake_fun) rfl .nil) ?_
   refine XL.rd rfl rfl (lb rfl) (RO.assign rfl) ?_
   refine XL.nil ?_
   refine XQ.seq ?_
   refine XC.ret ?_
   have e_ := Option.some.inj h0
   subst e_
   exact XQ.retF (fun _ _ h => h) rfl (RAs.tmp rfl .nil) (.cons (.one (.d _)) .nil)
  ·
   replace h0 := condF c1 h0
   refine XC.skip ?_
   refine XQ.seq ?_
   refine XC.seq ?_
   refine XC.region ?_
   refine XL.rd rfl rfl (lb rfl) (RO.move rfl) ?_
   refine XL.rd rfl rfl (lb rfl) (RO.move rfl) ?_
   refine bindK h0 (fun x2 hx2 h0 => ?_)
   refine XL.put rfl rfl (lb rfl) (OpOK.callFun (m13_ok a0 a1 x2 hx2) rfl (.cons (.one (.d _)) (.cons (.one (.d _)) .nil))) ?_
   refine XL.rd rfl rfl (lb rfl) (RO.move rfl) ?_
   refine XL.rd rfl rfl (lb rfl) (RO.extract rfl rfl) ?_
   refine XL.rd rfl rfl (lb rfl) (RO.extract rfl rfl) ?_
   refine XL.rd rfl rfl (lb rfl) (RO.assign rfl) ?_
   refine XL.rd rfl rfl (lb rfl) (RO.assign rfl) ?_
   refine XL.nil ?_
   refine XQ.seq ?_
   refine XC.seq ?_
   refine XC.region ?_
   refine XL.rd rfl rfl (lb rfl) (RO.move rfl) ?_
   refine XL.rd rfl rfl (lb rfl) (RO.move rfl) ?_
   refine bindK h0 (fun x3 hx3 h0 => ?_)
   refine XL.put rfl rfl (lb rfl) (OpOK.callFun (m14_ok a0 a1 x3 hx3) rfl (.cons (.one (.d _)) (.cons (.one (.d _)) .nil))) ?_
   refine XL.rd rfl rfl (lb rfl) (RO.move rfl) ?_
   refine XL.rd rfl rfl (lb rfl) (RO.extract rfl rfl) ?_
   refine XL.rd rfl rfl (lb rfl) (RO.extract rfl rfl) ?_
   refine XL.rd rfl rfl (lb rfl) (RO.assign rfl) ?_
   refine XL.rd rfl rfl (lb rfl) (RO.assign rfl) ?_
   refine XL.nil ?_
   refine XQ.seq ?_
   refine XC.seq ?_
   refine XC.joinR (fun (v4 : Bool) => ⟨[(4, .v (.one (dB v4)))], [], [], 0, 36, []⟩) (fun (v4 : Bool) => (some v4) = some r) ?_ ?_
   ·
    refine bindK h0 (fun v_ h1 h0 => ?_)
    refine XC.region ?_
    refine XL.put rfl rfl (lb rfl) (OpOK.callFun (awake_fun) rfl .nil) ?_
    refine XL.rd rfl rfl (lb rfl) (RO.move rfl) ?_
    refine XL.rd rfl rfl (lb rfl) (RO.move rfl) ?_
    refine XL.rd rfl rfl (lb rfl) (RO.move rfl) ?_
    refine XL.rd rfl rfl (lb rfl) (RO.binInt rfl rfl rfl) ?_
    refine XL.rd rfl rfl (lb rfl) (RO.pickT rfl rfl) ?_
    refine XL.rd rfl rfl (lb rfl) (RO.move rfl) ?_
    refine XL.case (d := 31) (c := (x2.1 == x3.1)) rfl (fun c5 => ?_) (fun c5 => ?_)
    ·
     replace h1 := condT c5 h1
     refine XL.rd rfl rfl (lb rfl) (RO.move rfl) ?_
     refine XL.rd rfl rfl (lb rfl) (RO.move rfl) ?_
     refine XL.rd rfl rfl (lb rfl) (RO.binInt rfl rfl rfl) ?_
     refine XL.rd rfl rfl (lb rfl) (RO.pickT rfl rfl) ?_
     refine XL.rd rfl rfl (lb rfl) (RO.assign rfl) ?_
     refine XL.nil ?_
     have e_ := Option.some.inj h1
     subst e_
     exact XQ.joinR (x2.2 == x3.2) (stle (tR rfl tZ) hZ kZ rfl (Nat.zero_le _) rfl rfl rfl bZ rfl rfl) h0
    ·
     replace h1 := condF c5 h1
     refine XL.no rfl rfl ?_
     refine XL.no rfl rfl ?_
     refine XL.no rfl rfl ?_
     refine XL.rd rfl rfl (lb rfl) (RO.pickF rfl rfl) ?_
     refine XL.rd rfl rfl (lb rfl) (RO.assign rfl) ?_
     refine XL.nil ?_
     have e_ := Option.some.inj h1
     subst e_
     exact XQ.joinR false (stle (tR rfl tZ) hZ kZ rfl (Nat.zero_le _) rfl rfl rfl bZ rfl rfl) h0
   ·
    intro v4 h0
    refine XQ.seq ?_
    refine XC.ret ?_
    have e_ := Option.some.inj h0
    subst e_
    exact XQ.retF (fun _ _ h => h) rfl (RAs.tmp rfl .nil) (.cons (.one (.d _)) .nil)
end Go.Proofs.Ytkimijmiphkddaa
