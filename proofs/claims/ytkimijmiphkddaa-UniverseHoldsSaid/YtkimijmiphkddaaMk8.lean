/- Mirrors of layer 2: the law of Holds. -/
import Derived.Test.YtkimijmiphkddaaAk
import Derived.Test.YtkimijmiphkddaaMh
import Derived.Test.YtkimijmiphkddaaMb
import Derived.Test.YtkimijmiphkddaaPb
namespace Go.Proofs.Ytkimijmiphkddaa
open Go.RowKit Go.Shelf
set_option linter.unusedSimpArgs false
set_option linter.unusedVariables false

theorem en_8 : Enters Try.prog 8 := enters_of Try.func8 (by kernel_rfl) rfl
/-- euclid/euclidlaw02.UniverseHolds -/
def m8 (a0 : List Lvl) (a1 : List Bnd) : Option Bool :=
  Option.bind (cond (!(fewB a1))
    (some true)
    (some (!(shortB a0)))) (fun (v1 : Bool) => cond v1
    (some true)
    (Option.bind (m24 a0 a1) fun (x3 : Bool × Int) =>
  Option.bind (m25 a0 a1) fun (x4 : Bool × Int) =>
  Option.bind (cond (x3.1 == x4.1)
    (some (x3.2 == x4.2))
    (some false)) (fun (v5 : Bool) => some v5)))

set_option maxRecDepth 100000 in
set_option maxHeartbeats 8000000 in
theorem m8_ok (a0 : List Lvl) (a1 : List Bnd) (r : Bool) (h0 : m8 a0 a1 = some r) : Fun Try.prog 8 [.one (dS a0), .one (dS a1)] (resOf [.one (dB r)]) := by
  unfold m8 at h0
  refine Fun.of_bodyM 9 41 Try.func8 rfl en_8 rfl (lb rfl) (fun S w => ?_)
  simp only [entry]
  refine XC.seq ?_
  refine XC.region ?_
  refine XL.rd rfl rfl (lb rfl) (RO.assign rfl) ?_
  refine XL.nil ?_
  refine XQ.seq ?_
  refine XC.seq ?_
  refine XC.seq ?_
  refine XC.joinR (fun (v1 : Bool) => ⟨[(0, .v (.one (dS a0))), (1, .v (.one (dS a1))), (16, .v (.one (dB v1)))], [], [], 0, 41, []⟩) (fun (v1 : Bool) => (cond v1
      (some true)
      (Option.bind (m24 a0 a1) fun (x3 : Bool × Int) =>
    Option.bind (m25 a0 a1) fun (x4 : Bool × Int) =>
    Option.bind (cond (x3.1 == x4.1)
      (some (x3.2 == x4.2))
      (some false)) (fun (v5 : Bool) => some v5))) = some r) ?_ ?_
  ·
   refine bindK h0 (fun v_ h1 h0 => ?_)
   refine XC.region ?_
   refine XL.rd rfl rfl (lb rfl) (RO.move rfl) ?_
   refine XL.put rfl rfl (lb rfl) (OpOK.callFun (few_fun a1) rfl (.cons (.one (.d _)) .nil)) ?_
   refine XL.rd rfl rfl (lb rfl) (RO.not rfl) ?_
   refine XL.rd rfl rfl (lb rfl) (RO.move rfl) ?_
   refine XL.case (d := 12) (c := (!(fewB a1))) rfl (fun c2 => ?_) (fun c2 => ?_)
   ·
    replace h1 := condT c2 h1
    refine XL.no rfl rfl ?_
    refine XL.no rfl rfl ?_
    refine XL.no rfl rfl ?_
    refine XL.rd rfl rfl (lb rfl) (RO.pickT rfl rfl) ?_
    refine XL.nil ?_
    have e_ := Option.some.inj h1
    subst e_
    exact XQ.joinR true (stle (tR rfl (tR rfl (tR rfl tZ))) hZ kZ rfl (Nat.zero_le _) rfl rfl rfl bZ rfl rfl) h0
   ·
    replace h1 := condF c2 h1
    refine XL.rd rfl rfl (lb rfl) (RO.move rfl) ?_
    refine XL.put rfl rfl (lb rfl) (OpOK.callFun (short_fun a0) rfl (.cons (.one (.d _)) .nil)) ?_
    refine XL.rd rfl rfl (lb rfl) (RO.not rfl) ?_
    refine XL.rd rfl rfl (lb rfl) (RO.pickF rfl rfl) ?_
    refine XL.nil ?_
    have e_ := Option.some.inj h1
    subst e_
    exact XQ.joinR (!(shortB a0)) (stle (tR rfl (tR rfl (tR rfl tZ))) hZ kZ rfl (Nat.zero_le _) rfl rfl rfl bZ rfl rfl) h0
  ·
   intro v1 h0
   refine XQ.seq ?_
   refine XC.cond (b := v1) rfl (fun c3 => ?_) (fun c3 => ?_)
   ·
    replace h0 := condT c3 h0
    refine XC.seq ?_
    refine XC.region ?_
    refine XL.put rfl rfl (lb rfl) (OpOK.callFun (awake_fun) rfl .nil) ?_
    refine XL.rd rfl rfl (lb rfl) (RO.assign rfl) ?_
    refine XL.nil ?_
    refine XQ.seq ?_
    refine XC.ret ?_
    have e_ := Option.some.inj h0
    subst e_
    exact XQ.retF (fun _ _ h => h) rfl (RAs.tmp rfl .nil) (.cons (.one (.d _)) .nil)
   ·
    replace h0 := condF c3 h0
    refine XC.skip ?_
    refine XQ.seq ?_
    refine XC.seq ?_
    refine XC.region ?_
    refine XL.rd rfl rfl (lb rfl) (RO.move rfl) ?_
    refine XL.rd rfl rfl (lb rfl) (RO.move rfl) ?_
    refine bindK h0 (fun x4 hx4 h0 => ?_)
    refine XL.put rfl rfl (lb rfl) (OpOK.callFun (m24_ok a0 a1 x4 hx4) rfl (.cons (.one (.d _)) (.cons (.one (.d _)) .nil))) ?_
    refine XL.rd rfl rfl (lb rfl) (RO.move rfl) ?_
    refine XL.rd rfl rfl (lb rfl) (RO.extract rfl rfl) ?_
    refine XL.rd rfl rfl (lb rfl) (RO.extract rfl rfl) ?_
    refine XL.rd rfl rfl (lb rfl) (RO.assign rfl) ?_
    refine XL.rd rfl rfl (lb rfl) (RO.assign rfl) ?_
    refine XL.nil ?_
    refine XQ.seq ?_
    refine XC.seq ?_
    refine XC.region ?_
    refine XL.rd rfl rfl (lb rfl) (RO.move rfl) ?_
    refine XL.rd rfl rfl (lb rfl) (RO.move rfl) ?_
    refine bindK h0 (fun x5 hx5 h0 => ?_)
    refine XL.put rfl rfl (lb rfl) (OpOK.callFun (m25_ok a0 a1 x5 hx5) rfl (.cons (.one (.d _)) (.cons (.one (.d _)) .nil))) ?_
    refine XL.rd rfl rfl (lb rfl) (RO.move rfl) ?_
    refine XL.rd rfl rfl (lb rfl) (RO.extract rfl rfl) ?_
    refine XL.rd rfl rfl (lb rfl) (RO.extract rfl rfl) ?_
    refine XL.rd rfl rfl (lb rfl) (RO.assign rfl) ?_
    refine XL.rd rfl rfl (lb rfl) (RO.assign rfl) ?_
    refine XL.nil ?_
    refine XQ.seq ?_
    refine XC.seq ?_
    refine XC.joinR (fun (v6 : Bool) => ⟨[(4, .v (.one (dB v6)))], [], [], 0, 41, []⟩) (fun (v6 : Bool) => (some v6) = some r) ?_ ?_
    ·
     refine bindK h0 (fun v_ h1 h0 => ?_)
     refine XC.region ?_
     refine XL.put rfl rfl (lb rfl) (OpOK.callFun (awake_fun) rfl .nil) ?_
     refine XL.rd rfl rfl (lb rfl) (RO.move rfl) ?_
     refine XL.rd rfl rfl (lb rfl) (RO.move rfl) ?_
     refine XL.rd rfl rfl (lb rfl) (RO.move rfl) ?_
     refine XL.rd rfl rfl (lb rfl) (RO.eqBool ib_4 rfl rfl) ?_
     refine XL.rd rfl rfl (lb rfl) (RO.pickT rfl rfl) ?_
     refine XL.rd rfl rfl (lb rfl) (RO.move rfl) ?_
     refine XL.case (d := 36) (c := (x4.1 == x5.1)) rfl (fun c7 => ?_) (fun c7 => ?_)
     ·
      replace h1 := condT c7 h1
      refine XL.rd rfl rfl (lb rfl) (RO.move rfl) ?_
      refine XL.rd rfl rfl (lb rfl) (RO.move rfl) ?_
      refine XL.rd rfl rfl (lb rfl) (RO.binInt rfl rfl rfl) ?_
      refine XL.rd rfl rfl (lb rfl) (RO.pickT rfl rfl) ?_
      refine XL.rd rfl rfl (lb rfl) (RO.assign rfl) ?_
      refine XL.nil ?_
      have e_ := Option.some.inj h1
      subst e_
      exact XQ.joinR (x4.2 == x5.2) (stle (tR rfl tZ) hZ kZ rfl (Nat.zero_le _) rfl rfl rfl bZ rfl rfl) h0
     ·
      replace h1 := condF c7 h1
      refine XL.no rfl rfl ?_
      refine XL.no rfl rfl ?_
      refine XL.no rfl rfl ?_
      refine XL.rd rfl rfl (lb rfl) (RO.pickF rfl rfl) ?_
      refine XL.rd rfl rfl (lb rfl) (RO.assign rfl) ?_
      refine XL.nil ?_
      have e_ := Option.some.inj h1
      subst e_
      exact XQ.joinR false (stle (tR rfl tZ) hZ kZ rfl (Nat.zero_le _) rfl rfl rfl bZ rfl rfl) h0
    ·
     intro v6 h0
     refine XQ.seq ?_
     refine XC.ret ?_
     have e_ := Option.some.inj h0
     subst e_
     exact XQ.retF (fun _ _ h => h) rfl (RAs.tmp rfl .nil) (.cons (.one (.d _)) .nil)
end Go.Proofs.Ytkimijmiphkddaa
