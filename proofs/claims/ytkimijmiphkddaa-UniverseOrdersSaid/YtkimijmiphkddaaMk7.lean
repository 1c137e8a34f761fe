/- Mirrors of layer 2: the law of repeated bounds. -/
import Derived.Test.YtkimijmiphkddaaAk
import Derived.Test.YtkimijmiphkddaaMz
namespace Go.Proofs.Ytkimijmiphkddaa
open Go.RowKit Go.Shelf
set_option linter.unusedSimpArgs false
set_option linter.unusedVariables false

theorem ti_3 : tyInt Try.prog 3 = some .i64 := by kernel_rfl
theorem ti_5 : tyInt Try.prog 5 = some .u8 := by kernel_rfl
theorem en_7 : Enters Try.prog 7 := enters_of Try.func7 (by kernel_rfl) rfl
/-- euclid/euclidlaw02.UniverseOrders -/
def m7 (a0 : Int) (a1 : List Bnd) (a2 : Int) : Option Bool :=
  Option.bind (cond (!(fewB a1))
    (some true)
    (cond ((a1.length : Int) == 0)
    (some true)
    (Option.bind (m22 a1) fun (x4 : Bool) =>
  some (!x4)))) (fun (v1 : Bool) => cond v1
    (some true)
    (Option.bind (m15 (w64 (Int.tmod a0 6)) a1) fun (x3 : (List Lvl) × Int × Int) =>
  cond (x3.2.2 != 0)
    (some true)
    (guardO ((!((a1.length : Int) == 0)))
  (guardO (Nat.ble (([] : List Bnd).length + a1.length) 1000000000)
  (Option.bind (idx a1 (Int.tmod (w64 a2) (a1.length : Int))) fun (x7 : Bnd) =>
  guardO (Nat.ble ((([] : List Bnd) ++ a1).length + ([x7]).length) 1000000000)
  (Option.bind (m15 (w64 (Int.tmod a0 6)) ((([] : List Bnd) ++ a1) ++ ([x7]))) fun (x9 : (List Lvl) × Int × Int) =>
  Option.bind (cond (x9.2.2 == 0)
    (cond (x9.2.1 == 0)
    (Option.bind (m17 x3.1 x9.1) fun (x13 : Bool) =>
  some x13)
    (some false))
    (some false)) (fun (v10 : Bool) => some v10)))))))

set_option maxRecDepth 100000 in
set_option maxHeartbeats 8000000 in
theorem m7_ok (a0 : Int) (a1 : List Bnd) (a2 : Int) (r : Bool) (h0 : m7 a0 a1 a2 = some r) : Fun Try.prog 7 [.one (.d (.v (.int .u8 a0))), .one (dS a1), .one (.d (.v (.int .u8 a2)))] (resOf [.one (dB r)]) := by
  unfold m7 at h0
  refine Fun.of_bodyM 9 78 Try.func7 rfl en_7 rfl (lb rfl) (fun S w => ?_)
  simp only [entry]
  refine XC.seq <| XC.region <| rA rfl rfl rfl <| XL.nil <| XQ.seq <| XC.seq <| XC.region <| rM rfl rfl rfl <| rR rfl rfl rfl (RO.binInt rfl rfl rfl) <| rR rfl rfl rfl (RO.conv2 ti_5 ti_3 rfl) <| rA rfl rfl rfl <| XL.nil <| XQ.seq <| XC.seq ?_
  refine XC.seq ?_
  refine XC.joinR (fun (v1 : Bool) => ⟨[(1, .v (.one (dS a1))), (2, .v (.one (.d (.v (.int .u8 a2))))), (7, .v (.one (dI (w64 (Int.tmod a0 6))))), (31, .v (.one (dB v1)))], [], [], 0, 78, []⟩) (fun (v1 : Bool) => (cond v1
      (some true)
      (Option.bind (m15 (w64 (Int.tmod a0 6)) a1) fun (x3 : (List Lvl) × Int × Int) =>
    cond (x3.2.2 != 0)
      (some true)
      (guardO ((!((a1.length : Int) == 0)))
    (guardO (Nat.ble (([] : List Bnd).length + a1.length) 1000000000)
    (Option.bind (idx a1 (Int.tmod (w64 a2) (a1.length : Int))) fun (x7 : Bnd) =>
    guardO (Nat.ble ((([] : List Bnd) ++ a1).length + ([x7]).length) 1000000000)
    (Option.bind (m15 (w64 (Int.tmod a0 6)) ((([] : List Bnd) ++ a1) ++ ([x7]))) fun (x9 : (List Lvl) × Int × Int) =>
    Option.bind (cond (x9.2.2 == 0)
      (cond (x9.2.1 == 0)
      (Option.bind (m17 x3.1 x9.1) fun (x13 : Bool) =>
    some x13)
      (some false))
      (some false)) (fun (v10 : Bool) => some v10))))))) = some r) ?_ ?_
  ·
   refine bindK h0 (fun v_ h1 h0 => ?_)
   refine XC.region <| rM rfl rfl rfl ?_
   refine XL.put rfl rfl (lb rfl) (OpOK.callFun (few_fun a1) rfl (.cons (.one (.d _)) .nil)) ?_
   refine rR rfl rfl rfl (RO.not rfl) <| rM rfl rfl rfl ?_
   refine XL.case (d := 22) (c := (!(fewB a1))) rfl (fun c2 => ?_) (fun c2 => ?_)
   ·
    replace h1 := condT c2 h1
    refine XL.no rfl rfl <| XL.no rfl rfl <| XL.no rfl rfl <| rR rfl rfl rfl (RO.pickT rfl rfl) <| rM rfl rfl rfl <| XL.no rfl rfl <| XL.no rfl rfl <| XL.no rfl rfl <| rR rfl rfl rfl (RO.pickT rfl rfl) <| XL.nil ?_
    have e_ := Option.some.inj h1
    subst e_
    exact XQ.joinR true (stle (tR rfl (tR rfl (tR rfl (tR rfl tZ)))) hZ kZ rfl (Nat.zero_le _) rfl rfl rfl bZ rfl rfl) h0
   ·
    replace h1 := condF c2 h1
    refine rM rfl rfl rfl <| rR rfl rfl rfl (RO.lenE (α := Bnd) sl_22 rfl (.d _)) <| rR rfl rfl rfl (RO.binInt rfl rfl rfl) <| rR rfl rfl rfl (RO.pickF rfl rfl) <| rM rfl rfl rfl ?_
    refine XL.case (d := 27) (c := ((a1.length : Int) == 0)) rfl (fun c3 => ?_) (fun c3 => ?_)
    ·
     replace h1 := condT c3 h1
     refine XL.no rfl rfl <| XL.no rfl rfl <| XL.no rfl rfl <| rR rfl rfl rfl (RO.pickT rfl rfl) <| XL.nil ?_
     have e_ := Option.some.inj h1
     subst e_
     exact XQ.joinR true (stle (tR rfl (tR rfl (tR rfl (tR rfl tZ)))) hZ kZ rfl (Nat.zero_le _) rfl rfl rfl bZ rfl rfl) h0
    ·
     replace h1 := condF c3 h1
     refine rM rfl rfl rfl ?_
     refine bindK h1 (fun x4 hx4 h1 => ?_)
     refine XL.put rfl rfl (lb rfl) (OpOK.callFun (m22_ok a1 x4 hx4) rfl (.cons (.one (.d _)) .nil)) <| rR rfl rfl rfl (RO.not rfl) <| rR rfl rfl rfl (RO.pickF rfl rfl) <| XL.nil ?_
     have e_ := Option.some.inj h1
     subst e_
     exact XQ.joinR (!x4) (stle (tR rfl (tR rfl (tR rfl (tR rfl tZ)))) hZ kZ rfl (Nat.zero_le _) rfl rfl rfl bZ rfl rfl) h0
  ·
   intro v1 h0
   refine XQ.seq ?_
   refine XC.cond (b := v1) rfl (fun c5 => ?_) (fun c5 => ?_)
   ·
    replace h0 := condT c5 h0
    refine XC.seq <| XC.region <| XL.put rfl rfl (lb rfl) (OpOK.callFun (awake_fun) rfl .nil) <| rA rfl rfl rfl <| XL.nil <| XQ.seq <| XC.ret ?_
    have e_ := Option.some.inj h0
    subst e_
    exact XQ.retF (fun _ _ h => h) rfl (RAs.tmp rfl .nil) (.cons (.one (.d _)) .nil)
   ·
    replace h0 := condF c5 h0
    refine XC.skip <| XQ.seq <| XC.seq <| XC.region <| rM rfl rfl rfl <| rM rfl rfl rfl ?_
    refine bindK h0 (fun x6 hx6 h0 => ?_)
    refine XL.put rfl rfl (lb rfl) (OpOK.callFun (m15_ok (w64 (Int.tmod a0 6)) a1 x6 hx6) rfl (.cons (.one (.d _)) (.cons (.one (.d _)) .nil))) <| rM rfl rfl rfl <| rR rfl rfl rfl (RO.extract rfl rfl) <| rR rfl rfl rfl (RO.extract rfl rfl) <| rR rfl rfl rfl (RO.extract rfl rfl) <| rA rfl rfl rfl <| rA rfl rfl rfl <| rA rfl rfl rfl <| XL.nil <| XQ.seq <| XC.seq <| XC.seq <| XC.region <| rM rfl rfl rfl ?_
    refine rR rfl rfl rfl (RO.binInt rfl rfl rfl) <| XL.nil <| XQ.seq ?_
    refine XC.cond (b := (x6.2.2 != 0)) rfl (fun c7 => ?_) (fun c7 => ?_)
    ·
     replace h0 := condT c7 h0
     refine XC.seq <| XC.region <| XL.put rfl rfl (lb rfl) (OpOK.callFun (awake_fun) rfl .nil) <| rA rfl rfl rfl <| XL.nil <| XQ.seq <| XC.ret ?_
     have e_ := Option.some.inj h0
     subst e_
     exact XQ.retF (fun _ _ h => h) rfl (RAs.tmp rfl .nil) (.cons (.one (.d _)) .nil)
    ·
     replace h0 := condF c7 h0
     refine XC.skip <| XQ.seq <| XC.seq <| XC.region <| rM rfl rfl rfl <| rR rfl rfl rfl (RO.conv2 ti_5 ti_3 rfl) <| rM rfl rfl rfl <| rR rfl rfl rfl (RO.lenE (α := Bnd) sl_22 rfl (.d _)) ?_
     refine guardK h0 (fun g8 h0 => ?_)
     refine rR rfl rfl rfl (RO.remI rfl rfl g8) <| rA rfl rfl rfl <| XL.nil <| XQ.seq <| XC.seq ?_
     refine XC.anyRun [0, 2, 8] [(1, 0), (3, 0), (3, 1), (4, 0), (4, 1), (5, 0), (5, 1), (6, 0), (6, 1), (7, 0), (7, 1)] mixed (by kernel_rfl) (by kernel_rfl) (by kernel_rfl) ?_
     refine RunA.eff rfl rfl rfl (OpOK.lit0E (α := Bnd) sl_22 z_41 rfl rfl (lb rfl)) rfl <| RunA.rd rfl rfl rfl (OpOK.of_ro (RO.move rfl)) rfl ?_
     refine guardK h0 (fun g9 h0 => ?_)
     refine RunA.eff rfl rfl rfl (OpOK.appendE (α := Bnd) sl_22 el_41 rfl rfl rfl rfl rfl (.d _) g9) rfl <| RunA.rd rfl rfl rfl (OpOK.of_ro (RO.move rfl)) rfl <| RunA.rd rfl rfl rfl (OpOK.of_ro (RO.move rfl)) rfl ?_
     refine bindK h0 (fun x10 hx10 h0 => ?_)
     refine RunA.rd rfl rfl rfl (OpOK.of_ro (RO.indexE (α := Bnd) sl_22 rfl (.d _) rfl hx10)) rfl <| RunA.rd rfl rfl rfl (OpOK.of_ro (RO.loadPelAgg ag_41 rfl rfl rfl)) rfl <| RunA.rd rfl rfl rfl (OpOK.data1E (α := Bnd) (x10) sl_22 z_41 rfl rfl (lb rfl) rfl rfl (.cons (.d _) (.cons (.d _) (.cons (.d _) (.cons (.d _) .nil)))) rfl) rfl ?_
     refine guardK h0 (fun g11 h0 => ?_)
     refine RunA.eff rfl rfl rfl (OpOK.appendE (α := Bnd) sl_22 el_41 rfl rfl rfl rfl rfl (.d _) g11) rfl <| RunA.rd rfl rfl rfl (OpOK.of_ro (RO.assign rfl)) rfl ?_
     refine RunA.nil ⟨?ex, _, _, rfl, ?_⟩
     case ex => exact ⟨⟨_, rfl, _, _, rfl, rfl, rfl, .inl ⟨rfl, _, OpOK.of_ro (RO.move rfl), rfl⟩⟩, ⟨_, rfl, _, _, rfl, rfl, rfl, .inl ⟨rfl, _, OpOK.of_ro (RO.move rfl), rfl⟩⟩, ⟨_, rfl, _, _, rfl, rfl, rfl, .inl ⟨rfl, _, OpOK.of_ro (RO.move rfl), rfl⟩⟩, ⟨_, rfl, _, _, rfl, rfl, rfl, .inl ⟨rfl, _, OpOK.of_ro (RO.move rfl), rfl⟩⟩, ⟨_, rfl, _, _, rfl, rfl, rfl, .inl ⟨rfl, _, OpOK.of_ro (RO.move rfl), rfl⟩⟩, ⟨_, rfl, _, _, rfl, rfl, rfl, .inl ⟨rfl, _, OpOK.of_ro (RO.indexE (α := Bnd) sl_22 rfl (.d _) rfl hx10), rfl⟩⟩, ⟨_, rfl, _, _, rfl, rfl, rfl, .inl ⟨rfl, _, OpOK.of_ro (RO.indexE (α := Bnd) sl_22 rfl (.d _) rfl hx10), rfl⟩⟩, ⟨_, rfl, _, _, rfl, rfl, rfl, .inl ⟨rfl, _, OpOK.of_ro (RO.loadPelAgg ag_41 rfl rfl rfl), rfl⟩⟩, ⟨_, rfl, _, _, rfl, rfl, rfl, .inl ⟨rfl, _, OpOK.of_ro (RO.loadPelAgg ag_41 rfl rfl rfl), rfl⟩⟩, ⟨_, rfl, _, _, rfl, rfl, rfl, .inl ⟨rfl, _, OpOK.data1E (α := Bnd) (x10) sl_22 z_41 rfl rfl (lb rfl) rfl rfl (.cons (.d _) (.cons (.d _) (.cons (.d _) (.cons (.d _) .nil)))) rfl, rfl⟩⟩, ⟨_, rfl, _, _, rfl, rfl, rfl, .inl ⟨rfl, _, OpOK.data1E (α := Bnd) (x10) sl_22 z_41 rfl rfl (lb rfl) rfl rfl (.cons (.d _) (.cons (.d _) (.cons (.d _) (.cons (.d _) .nil)))) rfl, rfl⟩⟩, trivial⟩
     refine XQ.less (st' := ⟨[(7, .v (.one (dI (w64 (Int.tmod a0 6))))), (8, .v (.one (dS x6.1))), (12, .v (.one (dA 0 (((([] : List Bnd) ++ a1) ++ ([x10])) : List Bnd))))], [], [(0, some ⟨41, 4, (Enc.encL (((([] : List Bnd) ++ a1) ++ ([x10])) : List Bnd)).length⟩)], 1, 78, []⟩) (stle (tR rfl (tR rfl (tR rfl tZ))) hZ (kR rfl kZ) rfl (Nat.zero_le _) rfl rfl rfl bZ rfl rfl) <| XQ.seq <| XC.seq <| XC.region <| rM rfl rfl rfl <| rM rfl rfl rfl ?_
     refine bindK h0 (fun x12 hx12 h0 => ?_)
     refine XL.put rfl rfl (lb rfl) (OpOK.callFun (m15_ok (w64 (Int.tmod a0 6)) ((([] : List Bnd) ++ a1) ++ ([x10])) x12 hx12) rfl (.cons (.one (.d _)) (.cons (.one (.app _ _ _)) .nil))) <| rM rfl rfl rfl <| rR rfl rfl rfl (RO.extract rfl rfl) <| rR rfl rfl rfl (RO.extract rfl rfl) <| rR rfl rfl rfl (RO.extract rfl rfl) <| rA rfl rfl rfl <| rA rfl rfl rfl <| rA rfl rfl rfl <| XL.nil <| XQ.seq <| XC.seq ?_
     refine XC.joinR (fun (v13 : Bool) => ⟨[(6, .v (.one (dB v13)))], [], [(0, some ⟨41, 4, (Enc.encL (((([] : List Bnd) ++ a1) ++ ([x10])) : List Bnd)).length⟩)], 1, 78, []⟩) (fun (v13 : Bool) => (some v13) = some r) ?_ ?_
     ·
      refine bindK h0 (fun v_ h1 h0 => ?_)
      refine XC.region <| XL.put rfl rfl (lb rfl) (OpOK.callFun (awake_fun) rfl .nil) <| rM rfl rfl rfl <| rM rfl rfl rfl <| rR rfl rfl rfl (RO.binInt rfl rfl rfl) <| rR rfl rfl rfl (RO.pickT rfl rfl) <| rM rfl rfl rfl ?_
      refine XL.case (d := 69) (c := (x12.2.2 == 0)) rfl (fun c14 => ?_) (fun c14 => ?_)
      ·
       replace h1 := condT c14 h1
       refine rM rfl rfl rfl <| rR rfl rfl rfl (RO.binInt rfl rfl rfl) <| rR rfl rfl rfl (RO.pickT rfl rfl) <| rM rfl rfl rfl ?_
       refine XL.case (d := 73) (c := (x12.2.1 == 0)) rfl (fun c15 => ?_) (fun c15 => ?_)
       ·
        replace h1 := condT c15 h1
        refine rM rfl rfl rfl <| rM rfl rfl rfl ?_
        refine bindK h1 (fun x16 hx16 h1 => ?_)
        refine XL.put rfl rfl (lb rfl) (OpOK.callFun (m17_ok x6.1 x12.1 x16 hx16) rfl (.cons (.one (.d _)) (.cons (.one (.d _)) .nil))) <| rR rfl rfl rfl (RO.pickT rfl rfl) <| rA rfl rfl rfl <| XL.nil ?_
        have e_ := Option.some.inj h1
        subst e_
        exact XQ.joinR x16 (stle (tR rfl tZ) hZ (kR rfl kZ) rfl (Nat.zero_le _) rfl rfl rfl bZ rfl rfl) h0
       ·
        replace h1 := condF c15 h1
        refine XL.no rfl rfl <| XL.no rfl rfl <| XL.no rfl rfl <| rR rfl rfl rfl (RO.pickF rfl rfl) <| rA rfl rfl rfl <| XL.nil ?_
        have e_ := Option.some.inj h1
        subst e_
        exact XQ.joinR false (stle (tR rfl tZ) hZ (kR rfl kZ) rfl (Nat.zero_le _) rfl rfl rfl bZ rfl rfl) h0
      ·
       replace h1 := condF c14 h1
       refine XL.no rfl rfl <| XL.no rfl rfl <| rR rfl rfl rfl (RO.pickF rfl rfl) <| rM rfl rfl rfl <| XL.no rfl rfl <| XL.no rfl rfl <| XL.no rfl rfl <| rR rfl rfl rfl (RO.pickF rfl rfl) <| rA rfl rfl rfl <| XL.nil ?_
       have e_ := Option.some.inj h1
       subst e_
       exact XQ.joinR false (stle (tR rfl tZ) hZ (kR rfl kZ) rfl (Nat.zero_le _) rfl rfl rfl bZ rfl rfl) h0
     ·
      intro v13 h0
      refine XQ.seq <| XC.ret ?_
      have e_ := Option.some.inj h0
      subst e_
      exact XQ.retF (fun _ _ h => h) rfl (RAs.tmp rfl .nil) (.cons (.one (.d _)) .nil)
end Go.Proofs.Ytkimijmiphkddaa
