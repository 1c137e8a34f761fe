/- Mirrors of layer 2: the reference Solve. -/
import Derived.Test.YtkimijmiphkddaaFd
import Derived.Test.YtkimijmiphkddaaMf
namespace Go.Proofs.Ytkimijmiphkddaa
open Go.RowKit Go.Shelf
set_option linter.unusedSimpArgs false
set_option linter.unusedVariables false

theorem en_16 : Enters Try.prog 16 := enters_of Try.func16 (by kernel_rfl) rfl
theorem en_32 : Enters Try.prog 32 := enters_of Try.func32 (by kernel_rfl) rfl
theorem en_44 : Enters Try.prog 44 := enters_of Try.func44 (by kernel_rfl) rfl
theorem en_50 : Enters Try.prog 50 := enters_of Try.func50 (by kernel_rfl) rfl
def m44_l0 (a0 : Lvl) (s1 : (List Lvl) × Int) : Option (LO ((List Lvl) × Int) (((List Lvl)))) :=
  cond (decide (s1.2 < (a0.vs.length : Int)))
    (Option.bind (idx a0.vs s1.2) fun (x6 : LV) =>
  guardO (Nat.ble (s1.1.length + ([(⟨0, [x6]⟩ : Lvl)]).length) 1000000000)
  (some (.next ((s1.1 ++ ([(⟨0, [x6]⟩ : Lvl)])), (w64 (s1.2 + 1))))))
    (some (.done s1.1))

/-- euclid/euclidref02.Parts -/
def m44 (a0 : Lvl) : Option ((List Lvl)) :=
  Option.bind (cond (decide (0 < a0.c))
    (some true)
    (some ((a0.vs.length : Int) == 0))) (fun (v1 : Bool) => cond v1
    (guardO (Nat.ble ([(⟨a0.c, ([] : List LV)⟩ : Lvl)]).length 1000000000)
  (Option.bind (loopN (m44_l0 a0) FUEL ([(⟨a0.c, ([] : List LV)⟩ : Lvl)], 0)) (fun (o4 : (List Lvl)) => some o4)))
    (Option.bind (loopN (m44_l0 a0) FUEL (([] : List Lvl), 0)) (fun (o9 : (List Lvl)) => some o9)))

set_option maxRecDepth 100000 in
set_option maxHeartbeats 8000000 in
theorem m44_ok (a0 : Lvl) (r : (List Lvl)) (h0 : m44 a0 = some r) : Fun Try.prog 44 [.agg (cE a0)] (resOf [.one (dS r)]) := by
  unfold m44 at h0
  refine Fun.of_bodyM 9 38 Try.func44 rfl en_44 rfl (lb rfl) (fun S w => ?_)
  simp only [entry]
  refine XC.seq <| XC.region <| XL.put rfl rfl (lb rfl) (OpOK.box rfl) <| rA rfl rfl rfl <| XL.nil <| XQ.seq <| XC.seq <| XC.region <| rA rfl rfl rfl <| XL.nil <| XQ.seq <| XC.seq <| XC.seq ?_
  refine XC.joinR (fun (v1 : Bool) => ⟨[(1, .v (.one (.ptr 0 0))), (3, .v (.one (dN))), (13, .v (.one (dB v1)))], [(0, .cells 39 (cE a0))], [], 1, 38, []⟩) (fun (v1 : Bool) => (cond v1
      (guardO (Nat.ble ([(⟨a0.c, ([] : List LV)⟩ : Lvl)]).length 1000000000)
    (Option.bind (loopN (m44_l0 a0) FUEL ([(⟨a0.c, ([] : List LV)⟩ : Lvl)], 0)) (fun (o4 : (List Lvl)) => some o4)))
      (Option.bind (loopN (m44_l0 a0) FUEL (([] : List Lvl), 0)) (fun (o9 : (List Lvl)) => some o9))) = some r) ?_ ?_
  ·
   refine bindK h0 (fun v_ h1 h0 => ?_)
   refine XC.region <| rR rfl rfl rfl (RO.fieldOwn fo_39_0 rfl) <| rR rfl rfl rfl (RO.loadOwn ag_3 rfl rfl rfl) <| rR rfl rfl rfl (RO.binInt rfl rfl rfl) <| rM rfl rfl rfl ?_
   refine XL.case (d := 8) (c := (decide (0 < a0.c))) rfl (fun c2 => ?_) (fun c2 => ?_)
   ·
    replace h1 := condT c2 h1
    refine XL.no rfl rfl <| XL.no rfl rfl <| XL.no rfl rfl <| XL.no rfl rfl <| rR rfl rfl rfl (RO.pickT rfl rfl) <| XL.nil ?_
    have e_ := Option.some.inj h1
    subst e_
    exact XQ.joinR true (stle (tR rfl (tR rfl (tR rfl tZ))) (hR rfl hZ) kZ rfl (Nat.zero_le _) rfl rfl rfl (bB rfl rfl bZ) rfl rfl) h0
   ·
    replace h1 := condF c2 h1
    refine rR rfl rfl rfl (RO.fieldOwn fo_39_1 rfl) <| rR rfl rfl rfl (RO.loadOwn ag_37 rfl rfl rfl) <| rR rfl rfl rfl (RO.lenE (α := LV) sl_37 rfl (.d _)) <| rR rfl rfl rfl (RO.binInt rfl rfl rfl) <| rR rfl rfl rfl (RO.pickF rfl rfl) <| XL.nil ?_
    have e_ := Option.some.inj h1
    subst e_
    exact XQ.joinR ((a0.vs.length : Int) == 0) (stle (tR rfl (tR rfl (tR rfl tZ))) (hR rfl hZ) kZ rfl (Nat.zero_le _) rfl rfl rfl (bB rfl rfl bZ) rfl rfl) h0
  ·
   intro v1 h0
   refine XQ.seq ?_
   refine XC.cond (b := v1) rfl (fun c3 => ?_) (fun c3 => ?_)
   ·
    replace h0 := condT c3 h0
    refine XC.region <| rM rfl rfl rfl <| rR rfl rfl rfl (RO.fieldOwn fo_39_0 rfl) <| rR rfl rfl rfl (RO.loadOwn ag_3 rfl rfl rfl) <| rR rfl rfl rfl (RO.build1 bd_39 rfl rfl rfl) <| XL.put rfl rfl (lb rfl) (OpOK.lit1E (α := Lvl) ((⟨a0.c, ([] : List LV)⟩ : Lvl)) sl_31 z_39 rfl rfl (lb rfl) (lb rfl) rfl rfl (.cons (.d _) (.cons (.nil _) .nil)) rfl) ?_
    refine guardK h0 (fun g4 h0 => ?_)
    refine XL.put rfl rfl (lb rfl) (OpOK.appendNilE (α := Lvl) sl_31 el_39 rfl rfl rfl (.app _ _) g4) <| rA rfl rfl rfl <| XL.nil <| XQ.seq <| XC.seq <| XC.seq <| XC.region <| rA rfl rfl rfl <| XL.nil <| XQ.seq <| XC.block ?_
    refine XC.joinX 0 (fun (o5 : (List Lvl)) => ⟨[(3, .v (.one (dA 2 o5)))], [(0, .cells 39 (cE a0))], [(1, some ⟨39, 2, (Enc.encL ([(⟨a0.c, ([] : List LV)⟩ : Lvl)] : List Lvl)).length⟩), (2, some ⟨39, 2, (Enc.encL o5).length⟩)], 3, 38, []⟩) (fun (o5 : (List Lvl)) => (some o5) = some r) ?_ ?_
    ·
     refine bindK h0 (fun o6 hl1 h0 => ?_)
     refine XC.loopM (m44_l0 a0) (fun s1 => ⟨[(1, .v (.one (.ptr 0 0))), (3, .v (.one (dA 2 s1.1))), (4, .v (.one (dI s1.2)))], [(0, .cells 39 (cE a0))], [(1, some ⟨39, 2, (Enc.encL ([(⟨a0.c, ([] : List LV)⟩ : Lvl)] : List Lvl)).length⟩), (2, some ⟨39, 2, (Enc.encL s1.1).length⟩)], 3, 38, []⟩) ([(⟨a0.c, ([] : List LV)⟩ : Lvl)], 0) o6 (stle (tR rfl (tR rfl (tR rfl tZ))) (hR rfl hZ) (kR rfl (kR rfl kZ)) rfl (Nat.zero_le _) rfl rfl rfl (bB rfl rfl bZ) rfl rfl) hl1 (fun s1 n1 oo1 h1 ho1 => ?_)
     unfold m44_l0 at h1
     refine XC.seq <| XC.seq <| XC.region <| rM rfl rfl rfl <| rR rfl rfl rfl (RO.fieldOwn fo_39_1 rfl) <| rR rfl rfl rfl (RO.loadOwn ag_37 rfl rfl rfl) <| rR rfl rfl rfl (RO.lenE (α := LV) sl_37 rfl (.d _)) <| rR rfl rfl rfl (RO.binInt rfl rfl rfl) <| XL.nil <| XQ.seq ?_
     refine XC.cond (b := (decide (s1.2 < (a0.vs.length : Int)))) rfl (fun c7 => ?_) (fun c7 => ?_)
     ·
      replace h1 := condT c7 h1
      refine XC.skip <| XQ.seq <| XC.seq <| XC.block <| XC.region <| rM rfl rfl rfl <| rR rfl rfl rfl (RO.fieldOwn fo_39_1 rfl) <| rR rfl rfl rfl (RO.loadOwn ag_37 rfl rfl rfl) <| rM rfl rfl rfl ?_
      refine bindK h1 (fun x8 hx8 h1 => ?_)
      refine rR rfl rfl rfl (RO.indexE (α := LV) sl_37 rfl (.d _) rfl hx8) <| rR rfl rfl rfl (RO.loadPelAgg ag_59 rfl rfl rfl) <| XL.put rfl rfl (lb rfl) (OpOK.lit1E (α := LV) (x8) sl_37 z_59 rfl rfl (lb rfl) (lb rfl) rfl rfl (.cons (.d _) (.cons (.d _) .nil)) rfl) <| rR rfl rfl rfl (RO.build1 bd_39 rfl rfl rfl) <| XL.put rfl rfl (lb rfl) (OpOK.lit1E (α := Lvl) ((⟨0, [x8]⟩ : Lvl)) sl_31 z_39 rfl rfl (lb rfl) (lb rfl) rfl rfl (.cons (.d _) (.cons (.app _ _ _) .nil)) rfl) ?_
      refine guardK h1 (fun g9 h1 => ?_)
      refine XL.put rfl rfl (lb rfl) (OpOK.appendE (α := Lvl) sl_31 el_39 rfl rfl rfl rfl rfl (.app _ _) g9) <| rA rfl rfl rfl <| XL.nil <| XQ.inBlock <| XQ.seq <| XC.region <| rM rfl rfl rfl <| rR rfl rfl rfl (RO.binInt rfl rfl rfl) <| rA rfl rfl rfl <| XL.nil ?_
      have e_ := Option.some.inj h1
      subst e_
      refine XQ.nextM ((s1.1 ++ ([(⟨0, [x8]⟩ : Lvl)])), (w64 (s1.2 + 1))) (stle (tR rfl (tR rfl (tR rfl tZ))) (hR rfl hZ) (kR rfl (kR rfl kZ)) rfl (Nat.zero_le _) rfl rfl rfl (bB rfl rfl bZ) rfl rfl) ho1
     ·
      replace h1 := condF c7 h1
      refine XC.exit <| XQ.thenE <| XQ.thenE ?_
      have e_ := Option.some.inj h1
      subst e_
      have e_ : _ = _ := ho1
      subst e_
      exact XQ.joinX s1.1 (stle (tR rfl tZ) (hR rfl hZ) (kR rfl (kR rfl kZ)) rfl (Nat.zero_le _) rfl rfl rfl (bB rfl rfl bZ) rfl rfl) h0
    ·
     intro o5 h0
     refine XQ.blockX <| XQ.seq <| XC.seq <| XC.region <| rM rfl rfl rfl <| rA rfl rfl rfl <| XL.nil <| XQ.seq <| XC.ret ?_
     have e_ := Option.some.inj h0
     subst e_
     exact XQ.retF (fun _ _ h => h) rfl (RAs.tmp rfl .nil) (.cons (.one (.app _ _ _)) .nil)
   ·
    replace h0 := condF c3 h0
    refine XC.skip <| XQ.seq <| XC.seq <| XC.seq <| XC.region <| rA rfl rfl rfl <| XL.nil <| XQ.seq <| XC.block ?_
    refine XC.joinX 0 (fun (o10 : (List Lvl)) => ⟨[(3, .v (.one (dA 1 o10)))], [(0, .cells 39 (cE a0))], [(1, some ⟨39, 2, (Enc.encL o10).length⟩)], 2, 38, []⟩) (fun (o10 : (List Lvl)) => (some o10) = some r) ?_ ?_
    ·
     refine XC.adoptT (t := 3) 39 2 rfl ?_
     refine bindK h0 (fun o11 hl1 h0 => ?_)
     refine XC.loopM (m44_l0 a0) (fun s1 => ⟨[(1, .v (.one (.ptr 0 0))), (3, .v (.one (dA 1 s1.1))), (4, .v (.one (dI s1.2)))], [(0, .cells 39 (cE a0))], [(1, some ⟨39, 2, (Enc.encL s1.1).length⟩)], 2, 38, []⟩) (([] : List Lvl), 0) o11 (stle (tR rfl (tR rfl (tR rfl tZ))) (hR rfl hZ) (kR rfl kZ) rfl (Nat.zero_le _) rfl rfl rfl (bB rfl rfl bZ) rfl rfl) hl1 (fun s1 n1 oo1 h1 ho1 => ?_)
     unfold m44_l0 at h1
     refine XC.seq <| XC.seq <| XC.region <| rM rfl rfl rfl <| rR rfl rfl rfl (RO.fieldOwn fo_39_1 rfl) <| rR rfl rfl rfl (RO.loadOwn ag_37 rfl rfl rfl) <| rR rfl rfl rfl (RO.lenE (α := LV) sl_37 rfl (.d _)) <| rR rfl rfl rfl (RO.binInt rfl rfl rfl) <| XL.nil <| XQ.seq ?_
     refine XC.cond (b := (decide (s1.2 < (a0.vs.length : Int)))) rfl (fun c12 => ?_) (fun c12 => ?_)
     ·
      replace h1 := condT c12 h1
      refine XC.skip <| XQ.seq <| XC.seq <| XC.block <| XC.region <| rM rfl rfl rfl <| rR rfl rfl rfl (RO.fieldOwn fo_39_1 rfl) <| rR rfl rfl rfl (RO.loadOwn ag_37 rfl rfl rfl) <| rM rfl rfl rfl ?_
      refine bindK h1 (fun x13 hx13 h1 => ?_)
      refine rR rfl rfl rfl (RO.indexE (α := LV) sl_37 rfl (.d _) rfl hx13) <| rR rfl rfl rfl (RO.loadPelAgg ag_59 rfl rfl rfl) <| XL.put rfl rfl (lb rfl) (OpOK.lit1E (α := LV) (x13) sl_37 z_59 rfl rfl (lb rfl) (lb rfl) rfl rfl (.cons (.d _) (.cons (.d _) .nil)) rfl) <| rR rfl rfl rfl (RO.build1 bd_39 rfl rfl rfl) <| XL.put rfl rfl (lb rfl) (OpOK.lit1E (α := Lvl) ((⟨0, [x13]⟩ : Lvl)) sl_31 z_39 rfl rfl (lb rfl) (lb rfl) rfl rfl (.cons (.d _) (.cons (.app _ _ _) .nil)) rfl) ?_
      refine guardK h1 (fun g14 h1 => ?_)
      refine XL.put rfl rfl (lb rfl) (OpOK.appendE (α := Lvl) sl_31 el_39 rfl rfl rfl rfl rfl (.app _ _) g14) <| rA rfl rfl rfl <| XL.nil <| XQ.inBlock <| XQ.seq <| XC.region <| rM rfl rfl rfl <| rR rfl rfl rfl (RO.binInt rfl rfl rfl) <| rA rfl rfl rfl <| XL.nil ?_
      have e_ := Option.some.inj h1
      subst e_
      refine XQ.nextM ((s1.1 ++ ([(⟨0, [x13]⟩ : Lvl)])), (w64 (s1.2 + 1))) (stle (tR rfl (tR rfl (tR rfl tZ))) (hR rfl hZ) (kR rfl kZ) rfl (Nat.zero_le _) rfl rfl rfl (bB rfl rfl bZ) rfl rfl) ho1
     ·
      replace h1 := condF c12 h1
      refine XC.exit <| XQ.thenE <| XQ.thenE ?_
      have e_ := Option.some.inj h1
      subst e_
      have e_ : _ = _ := ho1
      subst e_
      exact XQ.joinX s1.1 (stle (tR rfl tZ) (hR rfl hZ) (kR rfl kZ) rfl (Nat.zero_le _) rfl rfl rfl (bB rfl rfl bZ) rfl rfl) h0
    ·
     intro o10 h0
     refine XQ.blockX <| XQ.seq <| XC.seq <| XC.region <| rM rfl rfl rfl <| rA rfl rfl rfl <| XL.nil <| XQ.seq <| XC.ret ?_
     have e_ := Option.some.inj h0
     subst e_
     exact XQ.retF (fun _ _ h => h) rfl (RAs.tmp rfl .nil) (.cons (.one (.app _ _ _)) .nil)

/-- euclid/euclidref02.less -/
def m58 (a0 : Lvl) (a1 : Int) : Option Lvl :=
  cond ((a0.vs.length : Int) == 0)
    (some (⟨(max (w64 (a0.c - a1)) 0), ([] : List LV)⟩ : Lvl))
    (Option.bind (idx a0.vs 0) fun (x2 : LV) =>
  some (⟨0, [(x2.1, (max (w64 (x2.2 - a1)) 0))]⟩ : Lvl))

set_option maxRecDepth 100000 in
set_option maxHeartbeats 8000000 in
theorem m58_ok (a0 : Lvl) (a1 : Int) (r : Lvl) (h0 : m58 a0 a1 = some r) : Fun Try.prog 58 [.agg (cE a0), .one (dI a1)] (resOf [.agg (cE r)]) := by
  unfold m58 at h0
  refine Fun.of_bodyM 9 30 Try.func58 rfl en_58 rfl (lb rfl) (fun S w => ?_)
  simp only [entry]
  refine XC.seq <| XC.region <| XL.put rfl rfl (lb rfl) (OpOK.box rfl) <| XL.put rfl rfl (lb rfl) (OpOK.alloc z_39 rfl) <| XL.nil <| XQ.seq <| XC.seq <| XC.seq <| XC.region <| rR rfl rfl rfl (RO.fieldOwn fo_39_1 rfl) <| rR rfl rfl rfl (RO.loadOwn ag_37 rfl rfl rfl) <| rR rfl rfl rfl (RO.lenE (α := LV) sl_37 rfl (.d _)) <| rR rfl rfl rfl (RO.binInt rfl rfl rfl) <| XL.nil ?_
  refine XQ.seq ?_
  refine XC.cond (b := ((a0.vs.length : Int) == 0)) rfl (fun c1 => ?_) (fun c1 => ?_)
  ·
   replace h0 := condT c1 h0
   refine XC.seq <| XC.region <| rR rfl rfl rfl (RO.fieldOwn fo_39_0 rfl) <| rR rfl rfl rfl (RO.loadOwn ag_3 rfl rfl rfl) <| rM rfl rfl rfl <| rR rfl rfl rfl (RO.binInt rfl rfl rfl) <| rR rfl rfl rfl (RO.max2 rfl rfl) <| rR rfl rfl rfl (RO.build1 bd_39 rfl rfl rfl) <| XL.eff rfl rfl (OpOK.store ag_39 rfl rfl rfl rfl (lb rfl) rfl) <| XL.nil <| XQ.seq <| XC.ret ?_
   have e_ := Option.some.inj h0
   subst e_
   exact XQ.retF (fun _ _ h => h) rfl (RAs.agg ag_39 rfl rfl rfl rfl .nil) (.cons (.agg (.cons (.d _) (.cons (.nil _) .nil))) .nil)
  ·
   replace h0 := condF c1 h0
   refine XC.skip <| XQ.seq <| XC.seq <| XC.region <| rR rfl rfl rfl (RO.fieldOwn fo_39_1 rfl) <| rR rfl rfl rfl (RO.loadOwn ag_37 rfl rfl rfl) ?_
   refine bindK h0 (fun x2 hx2 h0 => ?_)
   refine rR rfl rfl rfl (RO.indexE (α := LV) sl_37 rfl (.d _) rfl hx2) <| rR rfl rfl rfl (RO.loadPelAgg ag_59 rfl rfl rfl) <| XL.put rfl rfl (lb rfl) (OpOK.alloc z_59 rfl) <| XL.eff rfl rfl (OpOK.store ag_59 rfl rfl rfl rfl (lb rfl) rfl) <| XL.nil <| XQ.seq <| XC.seq <| XC.region <| rR rfl rfl rfl (RO.fieldOwn fo_59_0 rfl) <| rR rfl rfl rfl (RO.loadOwn ag_3 rfl rfl rfl) <| rR rfl rfl rfl (RO.fieldOwn fo_59_1 rfl) <| rR rfl rfl rfl (RO.loadOwn ag_3 rfl rfl rfl) <| rM rfl rfl rfl <| rR rfl rfl rfl (RO.binInt rfl rfl rfl) ?_
   refine rR rfl rfl rfl (RO.max2 rfl rfl) <| rR rfl rfl rfl (RO.build2 bd_59 rfl rfl rfl rfl) <| XL.put rfl rfl (lb rfl) (OpOK.lit1E (α := LV) ((x2.1, (max (w64 (x2.2 - a1)) 0))) sl_37 z_59 rfl rfl (lb rfl) (lb rfl) rfl rfl (.cons (.d _) (.cons (.d _) .nil)) rfl) <| rR rfl rfl rfl (RO.build1 bd_39 rfl rfl rfl) <| XL.eff rfl rfl (OpOK.store ag_39 rfl rfl rfl rfl (lb rfl) rfl) <| XL.nil <| XQ.seq <| XC.ret ?_
   have e_ := Option.some.inj h0
   subst e_
   exact XQ.retF (fun _ _ h => h) rfl (RAs.agg ag_39 rfl rfl rfl rfl .nil) (.cons (.agg (.cons (.d _) (.cons (.app _ _ _) .nil))) .nil)

def m50o_l0 (a0 : Lvl) (nn : Nat) (a1 : List Lvl) (s2 : Int × Int × (List LV)) : Option (LO (Int × Int × (List LV)) ((Int × (List LV)) ⊕ ((Int × Int × (List LV))))) :=
  cond (decide (s2.1 < (a0.vs.length : Int)))
    (Option.bind (idx a0.vs s2.1) fun (x7 : LV) =>
  Option.bind (cond ((decide (x7.1 < 0)) == true)
    (some (decide ((w64 ((-1) - x7.1)) < ((nn : Nat) : Int))))
    (some false)) (fun (v8 : Bool) => cond v8
    (Option.bind (idx a1 (w64 ((-1) - x7.1))) fun (x10 : Lvl) =>
  guardO (Nat.beq a1.length nn)
  (guardO (Nat.ble x10.vs.length 100000)
  (cond (((plusL x10 x7.2).2) != 0)
    (some (.done (.inr ((plusL x10 x7.2).2, 0, ([] : List LV)))))
    (guardO ((cond (Nat.ble (⟨s2.2.1, s2.2.2⟩ : Lvl).vs.length 100000) (Nat.ble ((plusL x10 x7.2).1).vs.length 100000) false))
  (some (.next ((w64 (s2.1 + 1)), (joinL (⟨s2.2.1, s2.2.2⟩ : Lvl) ((plusL x10 x7.2).1)).c, (joinL (⟨s2.2.1, s2.2.2⟩ : Lvl) ((plusL x10 x7.2).1)).vs)))))))
    (guardO ((cond (Nat.ble (⟨s2.2.1, s2.2.2⟩ : Lvl).vs.length 100000) (Nat.ble (⟨0, [x7]⟩ : Lvl).vs.length 100000) false))
  (some (.next ((w64 (s2.1 + 1)), (joinL (⟨s2.2.1, s2.2.2⟩ : Lvl) (⟨0, [x7]⟩ : Lvl)).c, (joinL (⟨s2.2.1, s2.2.2⟩ : Lvl) (⟨0, [x7]⟩ : Lvl)).vs))))))
    (some (.done (.inl (s2.2.1, s2.2.2))))

def m50o_l1 (nn : Nat) (a1 : List Lvl) (s3 : Int) : Option (LO Int (Unit ⊕ Bool)) :=
  cond (decide (s3 < ((nn : Nat) : Int)))
    (Option.bind (idx a1 s3) fun (x8 : Lvl) =>
  guardO (Nat.beq a1.length nn)
  (guardO (Nat.ble x8.vs.length 100000)
  (cond (!(validB x8))
    (some (.done (.inr false)))
    (some (.next (w64 (s3 + 1)))))))
    (some (.done (.inl ())))

/-- euclid/euclidref01.Assign, its slice lent -/
def m50o (a0 : Lvl) (a1 : List Lvl) (nn : Nat) : Option (Int × Int × (List LV)) :=
  Option.bind (guardO (Nat.ble a0.vs.length 100000)
  (cond (!(validB a0))
    (some true)
    (Option.bind (Option.bind (loopN (m50o_l1 nn a1) FUEL 0) (Sum.elim (fun (o6 : Unit) => some true) (fun o => some o))) (fun (y4 : Bool) => some (!y4))))) (fun (v1 : Bool) => cond v1
    (some (3, 0, ([] : List LV)))
    (Option.bind (Option.bind (loopN (m50o_l0 a0 nn a1) FUEL (0, (⟨a0.c, []⟩ : Lvl).c, (⟨a0.c, []⟩ : Lvl).vs)) (Sum.elim (fun (o5 : Int × (List LV)) => some (0, o5.1, o5.2)) (fun o => some o))) (fun (y3 : Int × Int × (List LV)) => some (y3.1, y3.2.1, y3.2.2))))

set_option maxRecDepth 100000 in
set_option maxHeartbeats 8000000 in
theorem m50o_ok (a0 : Lvl) (a1 : List Lvl) (nn : Nat) (r : Int × Int × (List LV)) (h0 : m50o a0 a1 nn = some r) : CallM Try.prog 50 [.agg (cE a0), .one (.osl 0 0 nn nn)] ⟨[(0, .cells 39 (flatE a1))], [], 1⟩ (resOf [.agg [dI r.2.1, dS r.2.2], .one (dI r.1)]) ⟨[(0, .cells 39 (flatE a1)), (2, .cells 39 [dI r.2.1, dS r.2.2])], [], 3⟩ := by
  unfold m50o at h0
  refine CallM.of_bodyD ⟨[(4, .v (.one (.ptr 2 0))), (5, .v (.one (dI r.1)))], [(0, .cells 39 (flatE a1)), (2, .cells 39 [dI r.2.1, dS r.2.2])], [], 3, 20, []⟩ rfl rfl en_50 (lb rfl) rfl (RAs.agg ag_39 rfl rfl rfl rfl (RAs.tmp rfl .nil)) (fun w0 M V0 Q hv0 hQ0 => ?_)
  simp only [entry]
  refine XC.seq <| XC.region <| XL.put rfl rfl (lb rfl) (OpOK.box rfl) <| XL.put rfl rfl (lb rfl) (OpOK.alloc z_39 rfl) <| rA rfl rfl rfl <| XL.nil <| XQ.seq <| XC.seq <| XC.seq ?_
  refine XC.joinR (fun (v1 : Bool) => ⟨[(1, .v (.one (.osl 0 0 nn nn))), (2, .v (.one (.ptr 1 0))), (4, .v (.one (.ptr 2 0))), (13, .v (.one (dB v1)))], [(0, .cells 39 (flatE a1)), (1, .cells 39 (cE a0)), (2, .cells 39 [dI 0, dN])], [], 3, 20, []⟩) (fun (v1 : Bool) => (cond v1
      (some (3, 0, ([] : List LV)))
      (Option.bind (Option.bind (loopN (m50o_l0 a0 nn a1) FUEL (0, (⟨a0.c, []⟩ : Lvl).c, (⟨a0.c, []⟩ : Lvl).vs)) (Sum.elim (fun (o5 : Int × (List LV)) => some (0, o5.1, o5.2)) (fun o => some o))) (fun (y3 : Int × Int × (List LV)) => some (y3.1, y3.2.1, y3.2.2)))) = some r) ?_ ?_
  ·
   refine bindK h0 (fun v_ h1 h0 => ?_)
   refine XC.region <| rR rfl rfl rfl (RO.loadOwnAgg ag_39 rfl rfl rfl rfl) ?_
   refine guardK h1 (fun g2 h1 => ?_)
   refine XL.put rfl rfl (lb rfl) (OpOK.callFun (validR_fun a0 (Nat.le_of_ble_eq_true g2)) rfl (.cons (.agg (.cons (.d _) (.cons (.d _) .nil))) .nil)) ?_
   refine rR rfl rfl rfl (RO.not rfl) <| rM rfl rfl rfl ?_
   refine XL.case (d := 9) (c := (!(validB a0))) rfl (fun c3 => ?_) (fun c3 => ?_)
   ·
    replace h1 := condT c3 h1
    refine XL.no rfl rfl <| XL.no rfl rfl <| XL.no rfl rfl <| rR rfl rfl rfl (RO.pickT rfl rfl) <| XL.nil ?_
    have e_ := Option.some.inj h1
    subst e_
    exact XQ.joinR true (stle (tR rfl (tR rfl (tR rfl (tR rfl tZ)))) (hR rfl (hR rfl (hR rfl hZ))) kZ rfl (Nat.le_trans hv0 (lb rfl)) rfl rfl rfl (bF rfl (bB rfl rfl (bB rfl rfl bZ))) rfl rfl) h0
   ·
    replace h1 := condF c3 h1
    refine rM rfl rfl rfl ?_
    refine bindK h1 (fun y4 h2 h1 => ?_)
    have hc5 : CallM Try.prog 72 [.one (.osl 0 0 nn nn)] ⟨[(0, .cells 39 (flatE a1)), (1, .cells 39 (cE a0)), (2, .cells 39 [dI 0, dN])], [], 3⟩ (resOf [.one (dB y4)]) ⟨[(0, .cells 39 (flatE a1)), (1, .cells 39 (cE a0)), (2, .cells 39 [dI 0, dN])], [], 3⟩ := by
     refine CallM.of_bodyD ⟨[(2, .v (.one (dB y4)))], [(0, .cells 39 (flatE a1)), (1, .cells 39 (cE a0)), (2, .cells 39 [dI 0, dN])], [], 3, 16, []⟩ rfl rfl en_72 (lb rfl) rfl (RAs.tmp rfl .nil) (fun w0 M V0 Q hv2 hQ2 => ?_)
     simp only [entry]
     refine XC.seq <| XC.region <| rA rfl rfl rfl <| XL.nil <| XQ.seq <| XC.seq <| XC.seq <| XC.region <| rA rfl rfl rfl <| XL.nil <| XQ.seq <| XC.block ?_
     refine XC.joinX 0 (fun (o6 : Unit) => ⟨[], [(0, .cells 39 (flatE a1)), (1, .cells 39 (cE a0)), (2, .cells 39 [dI 0, dN])], [], 3, 16, []⟩) (fun (o6 : Unit) => (some true) = some y4) ?_ ?_
     ·
      refine bindK h2 (fun o7 hl3 h2 => ?_)
      refine XC.loopM (m50o_l1 nn a1) (fun s3 => ⟨[(0, .v (.one (.osl 0 0 nn nn))), (3, .v (.one (dI s3)))], [(0, .cells 39 (flatE a1)), (1, .cells 39 (cE a0)), (2, .cells 39 [dI 0, dN])], [], 3, 16, []⟩) 0 o7 (stle (tR rfl (tR rfl tZ)) (hR rfl (hR rfl (hR rfl hZ))) kZ rfl (Nat.le_trans hv2 (lb rfl)) rfl rfl rfl (bF rfl (bB rfl rfl (bB rfl rfl bZ))) rfl rfl) hl3 (fun s3 n3 oo3 h3 ho3 => ?_)
      unfold m50o_l1 at h3
      refine XC.seq <| XC.seq <| XC.region <| rM rfl rfl rfl <| rM rfl rfl rfl <| rR rfl rfl rfl (RO.lenOsl sl_31 rfl) <| rR rfl rfl rfl (RO.binInt rfl rfl rfl) <| XL.nil <| XQ.seq ?_
      refine XC.cond (b := (decide (s3 < ((nn : Nat) : Int)))) rfl (fun c8 => ?_) (fun c8 => ?_)
      ·
       replace h3 := condT c8 h3
       refine XC.skip <| XQ.seq <| XC.seq <| XC.block <| XC.seq <| XC.region <| rM rfl rfl rfl <| rM rfl rfl rfl ?_
       refine bindK h3 (fun x9 hx9 h3 => ?_)
       refine guardK h3 (fun g10 h3 => ?_)
       refine rR rfl rfl rfl (RO.indexO (α := Lvl) sl_31 rfl rfl hx9 g10) <| rR rfl rfl rfl (RO.loadOE (α := Lvl) (ys := [dI x9.c, dS x9.vs]) ag_39 rfl rfl hx9 rfl) ?_
       refine guardK h3 (fun g11 h3 => ?_)
       refine XL.put rfl rfl (lb rfl) (OpOK.callFun (validR_fun x9 (Nat.le_of_ble_eq_true g11)) rfl (.cons (.agg (.cons (.d _) (.cons (.d _) .nil))) .nil)) ?_
       refine rR rfl rfl rfl (RO.not rfl) <| XL.nil <| XQ.seq ?_
       refine XC.cond (b := (!(validB x9))) rfl (fun c12 => ?_) (fun c12 => ?_)
       ·
        replace h3 := condT c12 h3
        refine XC.seq <| XC.region <| rA rfl rfl rfl <| XL.nil <| XQ.seq <| XC.ret ?_
        have e_ := Option.some.inj h3
        subst e_
        have e_ : _ = _ := ho3
        subst e_
        try dsimp only [Sum.elim_inl, Sum.elim_inr] at h2
        have e_ := Option.some.inj h2
        subst e_
        exact hQ2 _ _ _ (.inr rfl) rfl (stle (tR rfl tZ) (hR rfl (hR rfl (hR rfl hZ))) kZ rfl (Nat.le_trans hv2 (lb rfl)) rfl rfl rfl (bF rfl (bB rfl rfl (bB rfl rfl bZ))) rfl rfl)
       ·
        replace h3 := condF c12 h3
        refine XC.skip <| XQ.inBlock <| XQ.seq <| XC.region <| rM rfl rfl rfl <| rR rfl rfl rfl (RO.binInt rfl rfl rfl) <| rA rfl rfl rfl <| XL.nil ?_
        have e_ := Option.some.inj h3
        subst e_
        refine XQ.nextM (w64 (s3 + 1)) (stle (tR rfl (tR rfl tZ)) (hR rfl (hR rfl (hR rfl hZ))) kZ rfl (Nat.le_trans hv2 (lb rfl)) rfl rfl rfl (bF rfl (bB rfl rfl (bB rfl rfl bZ))) rfl rfl) ho3
      ·
       replace h3 := condF c8 h3
       refine XC.exit <| XQ.thenE <| XQ.thenE ?_
       have e_ := Option.some.inj h3
       subst e_
       have e_ : _ = _ := ho3
       subst e_
       exact XQ.joinX () (stle tZ (hR rfl (hR rfl (hR rfl hZ))) kZ rfl (Nat.le_trans hv2 (lb rfl)) rfl rfl rfl (bF rfl (bB rfl rfl (bB rfl rfl bZ))) rfl rfl) h2
     ·
      intro o6 h2
      refine XQ.blockX <| XQ.seq <| XC.seq <| XC.region <| rA rfl rfl rfl <| XL.nil <| XQ.seq <| XC.ret ?_
      have e_ := Option.some.inj h2
      subst e_
      exact hQ2 _ _ _ (.inr rfl) rfl (stle (tR rfl tZ) (hR rfl (hR rfl (hR rfl hZ))) kZ rfl (Nat.le_trans hv2 (lb rfl)) rfl rfl rfl (bF rfl (bB rfl rfl (bB rfl rfl bZ))) rfl rfl)
    refine XL.put rfl rfl (lb rfl) (OpOK.callW rfl rfl rfl hc5 rfl (hR rfl (hR rfl (hR rfl hZ))) kZ) <| rR rfl rfl rfl (RO.not rfl) <| rR rfl rfl rfl (RO.pickF rfl rfl) <| XL.nil ?_
    have e_ := Option.some.inj h1
    subst e_
    exact XQ.joinR (!y4) (stle (tR rfl (tR rfl (tR rfl (tR rfl tZ)))) (hR rfl (hR rfl (hR rfl hZ))) kZ rfl (Nat.le_trans hv0 (lb rfl)) rfl rfl rfl (bF rfl (bB rfl rfl (bB rfl rfl bZ))) rfl rfl) h0
  ·
   intro v1 h0
   refine XQ.seq ?_
   refine XC.cond (b := v1) rfl (fun c13 => ?_) (fun c13 => ?_)
   ·
    replace h0 := condT c13 h0
    refine XC.seq <| XC.region <| rR rfl rfl rfl (RO.build0 bd_39 rfl ) <| XL.eff rfl rfl (OpOK.store ag_39 rfl rfl rfl rfl (lb rfl) rfl) <| rA rfl rfl rfl <| XL.nil <| XQ.seq <| XC.ret ?_
    have e_ := Option.some.inj h0
    subst e_
    exact hQ0 _ _ _ (.inr rfl) rfl (stle (tR rfl (tR rfl tZ)) (hR rfl (hC rfl (.cons (.refl _) (.cons (.sub (.nil _)) .nil)) hZ)) kZ rfl (Nat.le_trans hv0 (lb rfl)) rfl rfl rfl (bF rfl (bB rfl rfl bZ)) rfl rfl)
   ·
    replace h0 := condF c13 h0
    refine XC.skip <| XQ.seq <| XC.seq <| XC.region <| rR rfl rfl rfl (RO.loadOwnAgg ag_39 rfl rfl rfl rfl) <| rM rfl rfl rfl ?_
    refine bindK h0 (fun y14 h1 h0 => ?_)
    have hc15 : CallM Try.prog 73 [.agg (cE a0), .one (.osl 0 0 nn nn), .one (dB true)] ⟨[(0, .cells 39 (flatE a1)), (1, .cells 39 (cE a0)), (2, .cells 39 [dI 0, dN])], [], 3⟩ (resOf [.agg [dI y14.2.1, dS y14.2.2], .one (dI y14.1)]) ⟨[(0, .cells 39 (flatE a1)), (1, .cells 39 (cE a0)), (2, .cells 39 [dI 0, dN]), (4, .cells 39 [dI y14.2.1, dS y14.2.2])], [], 6⟩ := by
     refine CallM.of_bodyD ⟨[(6, .v (.one (.ptr 4 0))), (7, .v (.one (dI y14.1)))], [(0, .cells 39 (flatE a1)), (1, .cells 39 (cE a0)), (2, .cells 39 [dI 0, dN]), (4, .cells 39 [dI y14.2.1, dS y14.2.2])], [], 6, 69, []⟩ rfl rfl en_73 (lb rfl) rfl (RAs.agg ag_39 rfl rfl rfl rfl (RAs.tmp rfl .nil)) (fun w0 M V0 Q hv1 hQ1 => ?_)
     simp only [entry]
     refine XC.seq <| XC.region <| XL.put rfl rfl (lb rfl) (OpOK.box rfl) <| XL.put rfl rfl (lb rfl) (OpOK.alloc z_39 rfl) <| rA rfl rfl rfl <| XL.nil <| XQ.seq <| XC.seq <| XC.region <| rR rfl rfl rfl (RO.fieldOwn fo_39_0 rfl) <| rR rfl rfl rfl (RO.loadOwn ag_3 rfl rfl rfl) ?_
     refine XL.put rfl rfl (lb rfl) (OpOK.callFun (number_fun a0.c) rfl (.cons (.one (.d _)) .nil)) ?_
     refine XL.put rfl rfl (lb rfl) (OpOK.alloc z_39 rfl) <| XL.eff rfl rfl (OpOK.store ag_39 rfl rfl rfl rfl (lb rfl) rfl) <| XL.nil <| XQ.seq <| XC.seq <| XC.seq <| XC.region <| rA rfl rfl rfl <| XL.nil <| XQ.seq <| XC.block ?_
     refine XC.joinX 0 (fun (o16 : Int × (List LV)) => ⟨[(6, .v (.one (.ptr 4 0))), (8, .v (.one (.ptr 5 0)))], [(0, .cells 39 (flatE a1)), (1, .cells 39 (cE a0)), (2, .cells 39 [dI 0, dN]), (3, .cells 39 (cE a0)), (4, .cells 39 [dI 0, dN]), (5, .cells 39 [dI o16.1, dS o16.2])], [], 6, 69, []⟩) (fun (o16 : Int × (List LV)) => (some (0, o16.1, o16.2)) = some y14) ?_ ?_
     ·
      refine bindK h1 (fun o17 hl2 h1 => ?_)
      refine XC.loopM (m50o_l0 a0 nn a1) (fun s2 => ⟨[(1, .v (.one (.osl 0 0 nn nn))), (2, .v (.one (dB true))), (3, .v (.one (.ptr 3 0))), (6, .v (.one (.ptr 4 0))), (8, .v (.one (.ptr 5 0))), (9, .v (.one (dI s2.1)))], [(0, .cells 39 (flatE a1)), (1, .cells 39 (cE a0)), (2, .cells 39 [dI 0, dN]), (3, .cells 39 (cE a0)), (4, .cells 39 [dI 0, dN]), (5, .cells 39 [dI s2.2.1, dS s2.2.2])], [], 6, 69, []⟩) (0, (⟨a0.c, []⟩ : Lvl).c, (⟨a0.c, []⟩ : Lvl).vs) o17 (stle (tR rfl (tR rfl (tR rfl (tR rfl (tR rfl (tR rfl tZ)))))) (hR rfl (hR rfl (hR rfl (hR rfl (hR rfl (hR rfl hZ)))))) kZ rfl (Nat.le_trans hv1 (lb rfl)) rfl rfl rfl (bF rfl (bB rfl rfl (bB rfl rfl (bB rfl rfl (bB rfl rfl (bB rfl rfl bZ)))))) rfl rfl) hl2 (fun s2 n2 oo2 h2 ho2 => ?_)
      unfold m50o_l0 at h2
      refine XC.seq <| XC.seq <| XC.region <| rM rfl rfl rfl <| rR rfl rfl rfl (RO.fieldOwn fo_39_1 rfl) <| rR rfl rfl rfl (RO.loadOwn ag_37 rfl rfl rfl) <| rR rfl rfl rfl (RO.lenE (α := LV) sl_37 rfl (.d _)) <| rR rfl rfl rfl (RO.binInt rfl rfl rfl) <| XL.nil <| XQ.seq ?_
      refine XC.cond (b := (decide (s2.1 < (a0.vs.length : Int)))) rfl (fun c18 => ?_) (fun c18 => ?_)
      ·
       replace h2 := condT c18 h2
       refine XC.skip <| XQ.seq <| XC.seq <| XC.block <| XC.seq <| XC.region <| rR rfl rfl rfl (RO.fieldOwn fo_39_1 rfl) <| rR rfl rfl rfl (RO.loadOwn ag_37 rfl rfl rfl) <| rM rfl rfl rfl ?_
       refine bindK h2 (fun x19 hx19 h2 => ?_)
       refine rR rfl rfl rfl (RO.indexE (α := LV) sl_37 rfl (.d _) rfl hx19) <| rR rfl rfl rfl (RO.loadPelAgg ag_59 rfl rfl rfl) <| XL.put rfl rfl (lb rfl) (OpOK.alloc z_59 rfl) <| XL.eff rfl rfl (OpOK.store ag_59 rfl rfl rfl rfl (lb rfl) rfl) <| XL.nil <| XQ.seq <| XC.seq <| XC.region <| rR rfl rfl rfl (RO.fieldOwn fo_59_0 rfl) <| rR rfl rfl rfl (RO.loadOwn ag_3 rfl rfl rfl) <| rA rfl rfl rfl <| XL.nil <| XQ.seq <| XC.seq ?_
       refine XC.seq <| XC.region <| rM rfl rfl rfl <| XL.nil <| XQ.seq ?_
       refine XC.cond rfl (fun _ => ?_) (fun h => nomatch h)
       refine XC.region <| rR rfl rfl rfl (RO.fieldOwn fo_59_0 rfl) <| rR rfl rfl rfl (RO.loadOwn ag_3 rfl rfl rfl) <| rR rfl rfl rfl (RO.binInt rfl rfl rfl) <| rA rfl rfl rfl <| XL.nil <| XQ.seq <| XC.seq <| XC.region <| rR rfl rfl rfl (RO.loadOwnAgg ag_59 rfl rfl rfl rfl) <| XL.put rfl rfl (lb rfl) (OpOK.lit1E (α := LV) (x19) sl_37 z_59 rfl rfl (lb rfl) (lb rfl) rfl rfl (.cons (.d _) (.cons (.d _) .nil)) rfl) <| rR rfl rfl rfl (RO.build1 bd_39 rfl rfl rfl) <| XL.put rfl rfl (lb rfl) (OpOK.alloc z_39 rfl) <| XL.eff rfl rfl (OpOK.store ag_39 rfl rfl rfl rfl (lb rfl) rfl) ?_
       refine XL.nil <| XQ.seq <| XC.seq <| XC.seq ?_
       refine XC.joinR (fun (v20 : Bool) => ⟨[(1, .v (.one (.osl 0 0 nn nn))), (2, .v (.one (dB true))), (3, .v (.one (.ptr 3 0))), (6, .v (.one (.ptr 4 0))), (8, .v (.one (.ptr 5 0))), (9, .v (.one (dI s2.1))), (10, .v (.one (.ptr 6 0))), (11, .v (.one (dI (w64 ((-1) - x19.1))))), (12, .v (.one (.ptr 8 0))), (49, .v (.one (dB v20)))], [(0, .cells 39 (flatE a1)), (1, .cells 39 (cE a0)), (2, .cells 39 [dI 0, dN]), (3, .cells 39 (cE a0)), (4, .cells 39 [dI 0, dN]), (5, .cells 39 [dI s2.2.1, dS s2.2.2]), (6, .cells 59 (cE x19)), (8, .cells 39 [dI 0, dA 7 ([x19] : List LV)])], [(7, some ⟨59, 2, (Enc.encL ([x19] : List LV)).length⟩)], 9, 69, []⟩) (fun (v20 : Bool) => (cond v20
           (Option.bind (idx a1 (w64 ((-1) - x19.1))) fun (x22 : Lvl) =>
         guardO (Nat.beq a1.length nn)
         (guardO (Nat.ble x22.vs.length 100000)
         (cond (((plusL x22 x19.2).2) != 0)
           (some (.done (.inr ((plusL x22 x19.2).2, 0, ([] : List LV)))))
           (guardO ((cond (Nat.ble (⟨s2.2.1, s2.2.2⟩ : Lvl).vs.length 100000) (Nat.ble ((plusL x22 x19.2).1).vs.length 100000) false))
         (some (.next ((w64 (s2.1 + 1)), (joinL (⟨s2.2.1, s2.2.2⟩ : Lvl) ((plusL x22 x19.2).1)).c, (joinL (⟨s2.2.1, s2.2.2⟩ : Lvl) ((plusL x22 x19.2).1)).vs)))))))
           (guardO ((cond (Nat.ble (⟨s2.2.1, s2.2.2⟩ : Lvl).vs.length 100000) (Nat.ble (⟨0, [x19]⟩ : Lvl).vs.length 100000) false))
         (some (.next ((w64 (s2.1 + 1)), (joinL (⟨s2.2.1, s2.2.2⟩ : Lvl) (⟨0, [x19]⟩ : Lvl)).c, (joinL (⟨s2.2.1, s2.2.2⟩ : Lvl) (⟨0, [x19]⟩ : Lvl)).vs))))) = some oo2) ?_ ?_
       ·
        refine bindK h2 (fun v_ h3 h2 => ?_)
        refine XC.region <| rR rfl rfl rfl (RO.fieldOwn fo_59_0 rfl) <| rR rfl rfl rfl (RO.loadOwn ag_3 rfl rfl rfl) <| rR rfl rfl rfl (RO.binInt rfl rfl rfl) <| rM rfl rfl rfl <| rR rfl rfl rfl (RO.eqBool ib_4 rfl rfl) <| rM rfl rfl rfl ?_
        refine XL.case (d := 44) (c := ((decide (x19.1 < 0)) == true)) rfl (fun c21 => ?_) (fun c21 => ?_)
        ·
         replace h3 := condT c21 h3
         refine rM rfl rfl rfl <| rM rfl rfl rfl <| rR rfl rfl rfl (RO.lenOsl sl_31 rfl) <| rR rfl rfl rfl (RO.binInt rfl rfl rfl) <| rR rfl rfl rfl (RO.pickT rfl rfl) <| XL.nil ?_
         have e_ := Option.some.inj h3
         subst e_
         exact XQ.joinR (decide ((w64 ((-1) - x19.1)) < ((nn : Nat) : Int))) (stle (tR rfl (tR rfl (tR rfl (tR rfl (tR rfl (tR rfl (tR rfl (tR rfl (tR rfl (tR rfl tZ)))))))))) (hR rfl (hR rfl (hR rfl (hR rfl (hR rfl (hR rfl (hR rfl (hR rfl hZ)))))))) (kR rfl kZ) rfl (Nat.le_trans hv1 (lb rfl)) rfl rfl rfl (bF rfl (bB rfl rfl (bB rfl rfl (bB rfl rfl (bB rfl rfl (bB rfl rfl (bB rfl rfl (bB rfl rfl bZ)))))))) rfl rfl) h2
        ·
         replace h3 := condF c21 h3
         refine XL.no rfl rfl <| XL.no rfl rfl <| XL.no rfl rfl <| XL.no rfl rfl <| rR rfl rfl rfl (RO.pickF rfl rfl) <| XL.nil ?_
         have e_ := Option.some.inj h3
         subst e_
         exact XQ.joinR false (stle (tR rfl (tR rfl (tR rfl (tR rfl (tR rfl (tR rfl (tR rfl (tR rfl (tR rfl (tR rfl tZ)))))))))) (hR rfl (hR rfl (hR rfl (hR rfl (hR rfl (hR rfl (hR rfl (hR rfl hZ)))))))) (kR rfl kZ) rfl (Nat.le_trans hv1 (lb rfl)) rfl rfl rfl (bF rfl (bB rfl rfl (bB rfl rfl (bB rfl rfl (bB rfl rfl (bB rfl rfl (bB rfl rfl (bB rfl rfl bZ)))))))) rfl rfl) h2
       ·
        intro v20 h2
        refine XQ.seq ?_
        refine XC.cond (b := v20) rfl (fun c22 => ?_) (fun c22 => ?_)
        ·
         replace h2 := condT c22 h2
         refine XC.seq ?_
         refine XC.anyRun [10, 11] [(0, 1), (1, 1), (2, 1), (3, 1), (4, 1), (5, 1), (6, 1), (7, 1), (8, 1), (9, 1), (9, 2)] mixed (by kernel_rfl) (by kernel_rfl) (by kernel_rfl) ?_
         refine RunA.rd rfl rfl rfl (OpOK.of_ro (RO.move rfl)) rfl <| RunA.rd rfl rfl rfl (OpOK.of_ro (RO.move rfl)) rfl ?_
         refine bindK h2 (fun x23 hx23 h2 => ?_)
         refine guardK h2 (fun g24 h2 => ?_)
         refine RunA.rd rfl rfl rfl (OpOK.of_ro (RO.indexO (α := Lvl) sl_31 rfl rfl hx23 g24)) rfl <| RunA.rd rfl rfl rfl (OpOK.of_ro (RO.loadOE (α := Lvl) (ys := [dI x23.c, dS x23.vs]) ag_39 rfl rfl hx23 rfl)) rfl <| RunA.rd rfl rfl rfl (OpOK.of_ro (RO.fieldOwn fo_59_1 rfl)) rfl <| RunA.rd rfl rfl rfl (OpOK.of_ro (RO.loadOwn ag_3 rfl rfl rfl)) rfl ?_
         refine guardK h2 (fun g25 h2 => ?_)
         refine RunA.rd rfl rfl rfl (OpOK.callFun (plusR_fun x23 x19.2 (Nat.le_of_ble_eq_true g25)) rfl (.cons (.agg (.cons (.d _) (.cons (.d _) .nil))) (.cons (.one (.d _)) .nil))) rfl ?_
         refine RunA.rd rfl rfl rfl (OpOK.of_ro (RO.move rfl)) rfl <| RunA.rd rfl rfl rfl (OpOK.of_ro (RO.extract rfl rfl)) rfl <| RunA.rd rfl rfl rfl (OpOK.of_ro (RO.extract rfl rfl)) rfl <| RunA.eff rfl rfl rfl (OpOK.alloc z_39 rfl) rfl <| RunA.eff rfl rfl rfl (OpOK.store ag_39 rfl rfl rfl rfl (lb rfl) rfl) rfl <| RunA.rd rfl rfl rfl (OpOK.of_ro (RO.assign rfl)) rfl ?_
         refine RunA.nil ⟨?ex, _, _, rfl, ?_⟩
         case ex => exact ⟨⟨_, rfl, _, _, rfl, rfl, rfl, .inl ⟨rfl, _, OpOK.of_ro (RO.move rfl), rfl⟩⟩, ⟨_, rfl, _, _, rfl, rfl, rfl, .inl ⟨rfl, _, OpOK.of_ro (RO.move rfl), rfl⟩⟩, ⟨_, rfl, _, _, rfl, rfl, rfl, .inl ⟨rfl, _, OpOK.of_ro (RO.indexO (α := Lvl) sl_31 rfl rfl hx23 g24), rfl⟩⟩, ⟨_, rfl, _, _, rfl, rfl, rfl, .inl ⟨rfl, _, OpOK.of_ro (RO.loadOE (α := Lvl) (ys := [dI x23.c, dS x23.vs]) ag_39 rfl rfl hx23 rfl), rfl⟩⟩, ⟨_, rfl, _, _, rfl, rfl, rfl, .inl ⟨rfl, _, OpOK.of_ro (RO.fieldOwn fo_59_1 rfl), rfl⟩⟩, ⟨_, rfl, _, _, rfl, rfl, rfl, .inl ⟨rfl, _, OpOK.of_ro (RO.loadOwn ag_3 rfl rfl rfl), rfl⟩⟩, ⟨_, rfl, _, _, rfl, rfl, rfl, .inl ⟨rfl, _, OpOK.callFun (plusR_fun x23 x19.2 (Nat.le_of_ble_eq_true g25)) rfl (.cons (.agg (.cons (.d _) (.cons (.d _) .nil))) (.cons (.one (.d _)) .nil)), rfl⟩⟩, ⟨_, rfl, _, _, rfl, rfl, rfl, .inl ⟨rfl, _, OpOK.of_ro (RO.move rfl), rfl⟩⟩, ⟨_, rfl, _, _, rfl, rfl, rfl, .inl ⟨rfl, _, OpOK.of_ro (RO.extract rfl rfl), rfl⟩⟩, ⟨_, rfl, _, _, rfl, rfl, rfl, .inl ⟨rfl, _, OpOK.of_ro (RO.extract rfl rfl), rfl⟩⟩, ⟨_, rfl, _, _, rfl, rfl, rfl, .inl ⟨rfl, _, OpOK.of_ro (RO.extract rfl rfl), rfl⟩⟩, trivial⟩
         refine XQ.less (st' := ⟨[(1, .v (.one (.osl 0 0 nn nn))), (2, .v (.one (dB true))), (3, .v (.one (.ptr 3 0))), (6, .v (.one (.ptr 4 0))), (8, .v (.one (.ptr 5 0))), (9, .v (.one (dI s2.1))), (12, .v (.one (.ptr 8 0))), (13, .v (.one (.ptr 9 0))), (14, .v (.one (dI ((plusL x23 x19.2).2))))], [(0, .cells 39 (flatE a1)), (1, .cells 39 (cE a0)), (2, .cells 39 [dI 0, dN]), (3, .cells 39 (cE a0)), (4, .cells 39 [dI 0, dN]), (5, .cells 39 [dI s2.2.1, dS s2.2.2]), (6, .cells 59 (cE x19)), (8, .cells 39 [dI 0, dA 7 ([x19] : List LV)]), (9, .cells 39 [dI (((plusL x23 x19.2).1).c), dS (((plusL x23 x19.2).1).vs : List LV)])], [(7, some ⟨59, 2, (Enc.encL ([x19] : List LV)).length⟩)], 10, 69, []⟩) (stle (tR rfl (tR rfl (tR rfl (tR rfl (tR rfl (tR rfl (tR rfl (tR rfl (tR rfl tZ))))))))) (hR rfl (hR rfl (hR rfl (hR rfl (hR rfl (hR rfl (hR rfl (hR rfl (hR rfl hZ))))))))) (kR rfl kZ) rfl (Nat.le_trans hv1 (lb rfl)) rfl rfl rfl (bF rfl (bB rfl rfl (bB rfl rfl (bB rfl rfl (bB rfl rfl (bB rfl rfl (bB rfl rfl (bB rfl rfl (bB rfl rfl bZ))))))))) rfl rfl) <| XQ.seq <| XC.seq <| XC.seq <| XC.region <| rM rfl rfl rfl <| rR rfl rfl rfl (RO.binInt rfl rfl rfl) <| XL.nil <| XQ.seq ?_
         refine XC.cond (b := (((plusL x23 x19.2).2) != 0)) rfl (fun c26 => ?_) (fun c26 => ?_)
         ·
          replace h2 := condT c26 h2
          refine XC.seq <| XC.region <| rR rfl rfl rfl (RO.build0 bd_39 rfl ) <| rM rfl rfl rfl <| XL.eff rfl rfl (OpOK.store ag_39 rfl rfl rfl rfl (lb rfl) rfl) <| rA rfl rfl rfl <| XL.nil <| XQ.seq <| XC.ret ?_
          have e_ := Option.some.inj h2
          subst e_
          have e_ : _ = _ := ho2
          subst e_
          try dsimp only [Sum.elim_inl, Sum.elim_inr] at h1
          have e_ := Option.some.inj h1
          subst e_
          exact hQ1 _ _ _ (.inr rfl) rfl (stle (tR rfl (tR rfl tZ)) (hR rfl (hR rfl (hR rfl (hC rfl (.cons (.refl _) (.cons (.sub (.nil _)) .nil)) hZ)))) kZ rfl (Nat.le_trans hv1 (lb rfl)) rfl rfl rfl (bF rfl (bB rfl rfl (bB rfl rfl (bB rfl rfl bZ)))) rfl rfl)
         ·
          replace h2 := condF c26 h2
          refine XC.skip <| XQ.seq <| XC.region <| rR rfl rfl rfl (RO.loadOwnAgg ag_39 rfl rfl rfl rfl) <| XL.eff rfl rfl (OpOK.store ag_39 rfl rfl rfl rfl (lb rfl) rfl) <| XL.nil <| XQ.seq <| XC.region <| rR rfl rfl rfl (RO.loadOwnAgg ag_39 rfl rfl rfl rfl) <| rR rfl rfl rfl (RO.loadOwnAgg ag_39 rfl rfl rfl rfl) ?_
          refine guardK h2 (fun g27 h2 => ?_)
          refine XL.put rfl rfl (lb rfl) (OpOK.callFun (join_fun (⟨s2.2.1, s2.2.2⟩ : Lvl) ((plusL x23 x19.2).1) (Nat.le_of_ble_eq_true (cond_left g27)) (Nat.le_of_ble_eq_true (cond_right g27))) rfl (.cons (.agg (.cons (.d _) (.cons (.d _) .nil))) (.cons (.agg (.cons (.d _) (.cons (.d _) .nil))) .nil))) ?_
          refine XL.eff rfl rfl (OpOK.store ag_39 rfl rfl rfl rfl (lb rfl) rfl) <| XL.nil <| XQ.inBlock <| XQ.seq <| XC.region <| rM rfl rfl rfl <| rR rfl rfl rfl (RO.binInt rfl rfl rfl) <| rA rfl rfl rfl <| XL.nil ?_
          have e_ := Option.some.inj h2
          subst e_
          refine XQ.nextM ((w64 (s2.1 + 1)), (joinL (⟨s2.2.1, s2.2.2⟩ : Lvl) ((plusL x23 x19.2).1)).c, (joinL (⟨s2.2.1, s2.2.2⟩ : Lvl) ((plusL x23 x19.2).1)).vs) (stle (tR rfl (tR rfl (tR rfl (tR rfl (tR rfl (tR rfl tZ)))))) (hR rfl (hR rfl (hR rfl (hR rfl (hR rfl (hR rfl hZ)))))) kZ rfl (Nat.le_trans hv1 (lb rfl)) rfl rfl rfl (bF rfl (bB rfl rfl (bB rfl rfl (bB rfl rfl (bB rfl rfl (bB rfl rfl bZ)))))) rfl rfl) ho2
        ·
         replace h2 := condF c22 h2
         refine XC.skip <| XQ.seq <| XC.region <| rR rfl rfl rfl (RO.loadOwnAgg ag_39 rfl rfl rfl rfl) <| rR rfl rfl rfl (RO.loadOwnAgg ag_39 rfl rfl rfl rfl) ?_
         refine guardK h2 (fun g28 h2 => ?_)
         refine XL.put rfl rfl (lb rfl) (OpOK.callFun (join_fun (⟨s2.2.1, s2.2.2⟩ : Lvl) (⟨0, [x19]⟩ : Lvl) (Nat.le_of_ble_eq_true (cond_left g28)) (Nat.le_of_ble_eq_true (cond_right g28))) rfl (.cons (.agg (.cons (.d _) (.cons (.d _) .nil))) (.cons (.agg (.cons (.d _) (.cons (.app _ _ _) .nil))) .nil))) ?_
         refine XL.eff rfl rfl (OpOK.store ag_39 rfl rfl rfl rfl (lb rfl) rfl) <| XL.nil <| XQ.inBlock <| XQ.seq <| XC.region <| rM rfl rfl rfl <| rR rfl rfl rfl (RO.binInt rfl rfl rfl) <| rA rfl rfl rfl <| XL.nil ?_
         have e_ := Option.some.inj h2
         subst e_
         refine XQ.nextM ((w64 (s2.1 + 1)), (joinL (⟨s2.2.1, s2.2.2⟩ : Lvl) (⟨0, [x19]⟩ : Lvl)).c, (joinL (⟨s2.2.1, s2.2.2⟩ : Lvl) (⟨0, [x19]⟩ : Lvl)).vs) (stle (tR rfl (tR rfl (tR rfl (tR rfl (tR rfl (tR rfl tZ)))))) (hR rfl (hR rfl (hR rfl (hR rfl (hR rfl (hR rfl hZ)))))) kZ rfl (Nat.le_trans hv1 (lb rfl)) rfl rfl rfl (bF rfl (bB rfl rfl (bB rfl rfl (bB rfl rfl (bB rfl rfl (bB rfl rfl bZ)))))) rfl rfl) ho2
      ·
       replace h2 := condF c18 h2
       refine XC.exit <| XQ.thenE <| XQ.thenE ?_
       have e_ := Option.some.inj h2
       subst e_
       have e_ : _ = _ := ho2
       subst e_
       exact XQ.joinX (s2.2.1, s2.2.2) (stle (tR rfl (tR rfl tZ)) (hR rfl (hR rfl (hR rfl (hR rfl (hR rfl (hR rfl hZ)))))) kZ rfl (Nat.le_trans hv1 (lb rfl)) rfl rfl rfl (bF rfl (bB rfl rfl (bB rfl rfl (bB rfl rfl (bB rfl rfl (bB rfl rfl bZ)))))) rfl rfl) h1
     ·
      intro o16 h1
      refine XQ.blockX <| XQ.seq <| XC.seq <| XC.region <| rR rfl rfl rfl (RO.loadOwnAgg ag_39 rfl rfl rfl rfl) <| XL.eff rfl rfl (OpOK.store ag_39 rfl rfl rfl rfl (lb rfl) rfl) <| rA rfl rfl rfl <| XL.nil <| XQ.seq <| XC.ret ?_
      have e_ := Option.some.inj h1
      subst e_
      exact hQ1 _ _ _ (.inr rfl) rfl (stle (tR rfl (tR rfl tZ)) (hR rfl (hR rfl (hR rfl (hR rfl hZ)))) kZ rfl (Nat.le_trans hv1 (lb rfl)) rfl rfl rfl (bF rfl (bB rfl rfl (bB rfl rfl (bB rfl rfl bZ)))) rfl rfl)
    refine XL.put rfl rfl (lb rfl) (OpOK.callW rfl rfl rfl hc15 rfl (hR rfl (hR rfl (hR rfl hZ))) kZ) <| rR rfl rfl rfl (RO.extract rfl rfl) <| rR rfl rfl rfl (RO.extract rfl rfl) <| XL.eff rfl rfl (OpOK.store ag_39 rfl rfl rfl rfl (lb rfl) rfl) <| rA rfl rfl rfl <| XL.nil <| XQ.seq <| XC.ret ?_
    have e_ := Option.some.inj h0
    subst e_
    exact hQ0 _ _ _ (.inr rfl) rfl (stle (tR rfl (tR rfl tZ)) (hR rfl (hR rfl hZ)) kZ rfl (Nat.le_trans hv0 (lb rfl)) rfl rfl rfl (bF rfl (bB rfl rfl bZ)) rfl rfl)

def m32o_l0 (x3 : (List Lvl)) (a1 : Bnd) (nn : Nat) (s1 : Bool × Int × (List Lvl)) : Option (LO (Bool × Int × (List Lvl)) ((Bool × (List Lvl)) ⊕ ((Bool × Int × (List Lvl))))) :=
  cond (decide (s1.2.1 < (x3.length : Int)))
    (Option.bind (m50o a1.hi s1.2.2 nn) fun (x6 : Int × Int × (List LV)) =>
  cond (x6.1 != 0)
    (some (.done (.inr (false, 15, s1.2.2))))
    (Option.bind (idx x3 s1.2.1) fun (x8 : Lvl) =>
  guardO ((cond (Nat.ble x8.vs.length 100000) (Nat.ble (⟨x6.2.1, x6.2.2⟩ : Lvl).vs.length 100000) false))
  (cond (leqB x8 (⟨x6.2.1, x6.2.2⟩ : Lvl))
    (some (.next (s1.1, (w64 (s1.2.1 + 1)), s1.2.2)))
    (Option.bind (m43 a1.hi) fun (x11 : Int × Int) =>
  cond (decide (x11.1 < 0))
    (some (.done (.inr (false, 15, s1.2.2))))
    (Option.bind (idx s1.2.2 x11.1) fun (x13 : Lvl) =>
  guardO (Nat.beq s1.2.2.length nn)
  (Option.bind (idx x3 s1.2.1) fun (x15 : Lvl) =>
  Option.bind (m58 x15 x11.2) fun (x16 : Lvl) =>
  guardO ((cond (Nat.ble x13.vs.length 100000) (Nat.ble x16.vs.length 100000) false))
  (cond (((maxL x13 x16).2) != 0)
    (some (.done (.inr (false, 15, s1.2.2))))
    (Option.bind (idx s1.2.2 x11.1) fun (x19 : Lvl) =>
  guardO (Nat.beq s1.2.2.length nn)
  (some (.next (true, (w64 (s1.2.1 + 1)), (s1.2.2.set x11.1.toNat ((maxL x13 x16).1)))))))))))))
    (some (.done (.inl (s1.1, s1.2.2))))

/-- euclid/euclidref02.visit, its slice lent -/
def m32o (a0 : List Lvl) (a1 : Bnd) (nn : Nat) : Option (Bool × Int × (List Lvl)) :=
  Option.bind (m50o a1.lo a0 nn) fun (x1 : Int × Int × (List LV)) =>
  cond (x1.1 != 0)
    (some (false, 15, a0))
    (Option.bind (m44 (⟨x1.2.1, x1.2.2⟩ : Lvl)) fun (x3 : (List Lvl)) =>
  Option.bind (loopN (m32o_l0 x3 a1 nn) FUEL (false, 0, a0)) (Sum.elim (fun (o4 : Bool × (List Lvl)) => some (o4.1, 0, o4.2)) (fun o => some o)))

set_option maxRecDepth 100000 in
set_option maxHeartbeats 8000000 in
theorem m32o_ok (a0 : List Lvl) (a1 : Bnd) (nn : Nat) (r : Bool × Int × (List Lvl)) (h0 : m32o a0 a1 nn = some r) : CallM Try.prog 32 [.one (.osl 0 0 nn nn), .agg (cE a1)] ⟨[(0, .cells 39 (flatE a0))], [], 1⟩ (resOf [.one (dB r.1), .one (dI r.2.1)]) ⟨[(0, .cells 39 (flatE r.2.2))], [], 3⟩ := by
  unfold m32o at h0
  refine CallM.of_bodyD ⟨[(4, .v (.one (dB r.1))), (5, .v (.one (dI r.2.1)))], [(0, .cells 39 (flatE r.2.2))], [], 3, 77, []⟩ rfl rfl en_32 (lb rfl) rfl (RAs.tmp rfl (RAs.tmp rfl .nil)) (fun w0 M V0 Q hv0 hQ0 => ?_)
  simp only [entry]
  refine XC.seq <| XC.region <| XL.put rfl rfl (lb rfl) (OpOK.box rfl) <| rA rfl rfl rfl <| rA rfl rfl rfl <| XL.nil <| XQ.seq <| XC.seq <| XC.region <| rR rfl rfl rfl (RO.fieldOwn fo_41_0 rfl) <| rR rfl rfl rfl (RO.loadOwnAgg ag_39 rfl rfl rfl rfl) <| rM rfl rfl rfl ?_
  refine bindK h0 (fun x1 hx1 h0 => ?_)
  refine XL.put rfl rfl (lb rfl) (OpOK.callO (b := 0) (m50o_ok a1.lo a0 nn x1 hx1) rfl (.agg (.cons (.d _) (.cons (.d _) .nil)) (.osl .nil)) rfl rfl rfl) <| rM rfl rfl rfl <| rR rfl rfl rfl (RO.extract rfl rfl) <| rR rfl rfl rfl (RO.extract rfl rfl) <| XL.put rfl rfl (lb rfl) (OpOK.alloc z_39 rfl) <| XL.eff rfl rfl (OpOK.store ag_39 rfl rfl rfl rfl (lb rfl) rfl) <| rA rfl rfl rfl <| XL.nil <| XQ.seq <| XC.seq <| XC.seq <| XC.region <| rM rfl rfl rfl <| rR rfl rfl rfl (RO.binInt rfl rfl rfl) ?_
  refine XL.nil <| XQ.seq ?_
  refine XC.cond (b := (x1.1 != 0)) rfl (fun c2 => ?_) (fun c2 => ?_)
  ·
   replace h0 := condT c2 h0
   refine XC.seq <| XC.region <| rA rfl rfl rfl <| rA rfl rfl rfl <| XL.nil <| XQ.seq <| XC.ret ?_
   have e_ := Option.some.inj h0
   subst e_
   exact hQ0 _ _ _ (.inr rfl) rfl (stle (tR rfl (tR rfl tZ)) (hR rfl hZ) kZ rfl (Nat.le_trans hv0 (lb rfl)) rfl rfl rfl (bF rfl bZ) rfl rfl)
  ·
   replace h0 := condF c2 h0
   refine XC.skip <| XQ.seq <| XC.seq <| XC.region <| rA rfl rfl rfl <| XL.nil <| XQ.seq <| XC.seq <| XC.region <| rR rfl rfl rfl (RO.loadOwnAgg ag_39 rfl rfl rfl rfl) ?_
   refine bindK h0 (fun x3 hx3 h0 => ?_)
   refine XL.put rfl rfl (lb rfl) (OpOK.callFun (m44_ok (⟨x1.2.1, x1.2.2⟩ : Lvl) x3 hx3) rfl (.cons (.agg (.cons (.d _) (.cons (.d _) .nil))) .nil)) <| rA rfl rfl rfl <| XL.nil <| XQ.seq <| XC.seq <| XC.seq <| XC.region <| rA rfl rfl rfl <| XL.nil <| XQ.seq <| XC.block ?_
   refine XC.joinX 0 (fun (o4 : Bool × (List Lvl)) => ⟨[(8, .v (.one (dB o4.1)))], [(0, .cells 39 (flatE o4.2)), (1, .cells 41 (cE a1)), (2, .cells 39 [dI x1.2.1, dS x1.2.2])], [], 3, 77, []⟩) (fun (o4 : Bool × (List Lvl)) => (some (o4.1, 0, o4.2)) = some r) ?_ ?_
   ·
    refine bindK h0 (fun o5 hl1 h0 => ?_)
    refine XC.loopM (m32o_l0 x3 a1 nn) (fun s1 => ⟨[(0, .v (.one (.osl 0 0 nn nn))), (3, .v (.one (.ptr 1 0))), (8, .v (.one (dB s1.1))), (9, .v (.one (dS x3))), (10, .v (.one (dI s1.2.1)))], [(0, .cells 39 (flatE s1.2.2)), (1, .cells 41 (cE a1)), (2, .cells 39 [dI x1.2.1, dS x1.2.2])], [], 3, 77, []⟩) (false, 0, a0) o5 (stle (tR rfl (tR rfl (tR rfl (tR rfl (tR rfl tZ))))) (hR rfl (hR rfl (hR rfl hZ))) kZ rfl (Nat.le_trans hv0 (lb rfl)) rfl rfl rfl (bF rfl (bB rfl rfl (bB rfl rfl bZ))) rfl rfl) hl1 (fun s1 n1 oo1 h1 ho1 => ?_)
    unfold m32o_l0 at h1
    refine XC.seq <| XC.seq <| XC.region <| rM rfl rfl rfl <| rM rfl rfl rfl <| rR rfl rfl rfl (RO.lenE (α := Lvl) sl_31 rfl (.d _)) <| rR rfl rfl rfl (RO.binInt rfl rfl rfl) <| XL.nil <| XQ.seq ?_
    refine XC.cond (b := (decide (s1.2.1 < (x3.length : Int)))) rfl (fun c6 => ?_) (fun c6 => ?_)
    ·
     replace h1 := condT c6 h1
     refine XC.skip <| XQ.seq <| XC.seq <| XC.block <| XC.seq <| XC.region <| rR rfl rfl rfl (RO.fieldOwn fo_41_1 rfl) <| rR rfl rfl rfl (RO.loadOwnAgg ag_39 rfl rfl rfl rfl) <| rM rfl rfl rfl ?_
     refine bindK h1 (fun x7 hx7 h1 => ?_)
     refine XL.put rfl rfl (lb rfl) (OpOK.callO (b := 0) (m50o_ok a1.hi s1.2.2 nn x7 hx7) rfl (.agg (.cons (.d _) (.cons (.d _) .nil)) (.osl .nil)) rfl rfl rfl) <| rM rfl rfl rfl <| rR rfl rfl rfl (RO.extract rfl rfl) <| rR rfl rfl rfl (RO.extract rfl rfl) <| XL.put rfl rfl (lb rfl) (OpOK.alloc z_39 rfl) <| XL.eff rfl rfl (OpOK.store ag_39 rfl rfl rfl rfl (lb rfl) rfl) <| rA rfl rfl rfl <| XL.nil <| XQ.seq <| XC.seq <| XC.seq <| XC.region <| rM rfl rfl rfl <| rR rfl rfl rfl (RO.binInt rfl rfl rfl) ?_
     refine XL.nil <| XQ.seq ?_
     refine XC.cond (b := (x7.1 != 0)) rfl (fun c8 => ?_) (fun c8 => ?_)
     ·
      replace h1 := condT c8 h1
      refine XC.seq <| XC.region <| rA rfl rfl rfl <| rA rfl rfl rfl <| XL.nil <| XQ.seq <| XC.ret ?_
      have e_ := Option.some.inj h1
      subst e_
      have e_ : _ = _ := ho1
      subst e_
      try dsimp only [Sum.elim_inl, Sum.elim_inr] at h0
      have e_ := Option.some.inj h0
      subst e_
      exact hQ0 _ _ _ (.inr rfl) rfl (stle (tR rfl (tR rfl tZ)) (hR rfl hZ) kZ rfl (Nat.le_trans hv0 (lb rfl)) rfl rfl rfl (bF rfl bZ) rfl rfl)
     ·
      replace h1 := condF c8 h1
      refine XC.skip <| XQ.seq <| XC.seq <| XC.seq ?_
      refine XC.anyRun [] [] mixed (by kernel_rfl) (by kernel_rfl) (by kernel_rfl) ?_
      refine RunA.rd rfl rfl rfl (OpOK.of_ro (RO.move rfl)) rfl <| RunA.rd rfl rfl rfl (OpOK.of_ro (RO.move rfl)) rfl ?_
      refine bindK h1 (fun x9 hx9 h1 => ?_)
      refine RunA.rd rfl rfl rfl (OpOK.of_ro (RO.indexE (α := Lvl) sl_31 rfl (.d _) rfl hx9)) rfl <| RunA.rd rfl rfl rfl (OpOK.of_ro (RO.loadPelAgg ag_39 rfl rfl rfl)) rfl <| RunA.rd rfl rfl rfl (OpOK.of_ro (RO.loadOwnAgg ag_39 rfl rfl rfl rfl)) rfl ?_
      refine guardK h1 (fun g10 h1 => ?_)
      refine RunA.rd rfl rfl rfl (OpOK.callFun (leqR_fun x9 (⟨x7.2.1, x7.2.2⟩ : Lvl) (Nat.le_of_ble_eq_true (cond_left g10)) (Nat.le_of_ble_eq_true (cond_right g10))) rfl (.cons (.agg (.cons (.d _) (.cons (.d _) .nil))) (.cons (.agg (.cons (.d _) (.cons (.d _) .nil))) .nil))) rfl ?_
      refine RunA.nil ⟨?ex, _, _, rfl, ?_⟩
      case ex => exact trivial
      refine XQ.less (st' := ⟨[(0, .v (.one (.osl 0 0 nn nn))), (3, .v (.one (.ptr 1 0))), (8, .v (.one (dB s1.1))), (9, .v (.one (dS x3))), (10, .v (.one (dI s1.2.1))), (47, .v (.one (dB (leqB x9 (⟨x7.2.1, x7.2.2⟩ : Lvl)))))], [(0, .cells 39 (flatE s1.2.2)), (1, .cells 41 (cE a1)), (2, .cells 39 [dI x1.2.1, dS x1.2.2]), (3, .cells 39 [dI x7.2.1, dS x7.2.2])], [], 4, 77, []⟩) (stle (tR rfl (tR rfl (tR rfl (tR rfl (tR rfl (tR rfl tZ)))))) (hR rfl (hR rfl (hR rfl (hR rfl hZ)))) kZ rfl (Nat.le_trans hv0 (lb rfl)) rfl rfl rfl (bF rfl (bB rfl rfl (bB rfl rfl (bB rfl rfl bZ)))) rfl rfl) <| XQ.seq ?_
      refine XC.cond (b := (leqB x9 (⟨x7.2.1, x7.2.2⟩ : Lvl))) rfl (fun c11 => ?_) (fun c11 => ?_)
      ·
       replace h1 := condT c11 h1
       refine XC.exit <| XQ.thenE <| XQ.blockX <| XQ.seq <| XC.region <| rM rfl rfl rfl <| rR rfl rfl rfl (RO.binInt rfl rfl rfl) <| rA rfl rfl rfl <| XL.nil ?_
       have e_ := Option.some.inj h1
       subst e_
       refine XQ.nextM (s1.1, (w64 (s1.2.1 + 1)), s1.2.2) (stle (tR rfl (tR rfl (tR rfl (tR rfl (tR rfl tZ))))) (hR rfl (hR rfl (hR rfl hZ))) kZ rfl (Nat.le_trans hv0 (lb rfl)) rfl rfl rfl (bF rfl (bB rfl rfl (bB rfl rfl bZ))) rfl rfl) ho1
      ·
       replace h1 := condF c11 h1
       refine XC.skip <| XQ.seq <| XC.seq <| XC.region <| rR rfl rfl rfl (RO.fieldOwn fo_41_1 rfl) <| rR rfl rfl rfl (RO.loadOwnAgg ag_39 rfl rfl rfl rfl) ?_
       refine bindK h1 (fun x12 hx12 h1 => ?_)
       refine XL.put rfl rfl (lb rfl) (OpOK.callFun (m43_ok a1.hi x12 hx12) rfl (.cons (.agg (.cons (.d _) (.cons (.d _) .nil))) .nil)) <| rM rfl rfl rfl <| rR rfl rfl rfl (RO.extract rfl rfl) <| rR rfl rfl rfl (RO.extract rfl rfl) <| rA rfl rfl rfl <| rA rfl rfl rfl <| XL.nil <| XQ.seq <| XC.seq <| XC.seq <| XC.region <| rM rfl rfl rfl <| rR rfl rfl rfl (RO.binInt rfl rfl rfl) <| XL.nil ?_
       refine XQ.seq ?_
       refine XC.cond (b := (decide (x12.1 < 0))) rfl (fun c13 => ?_) (fun c13 => ?_)
       ·
        replace h1 := condT c13 h1
        refine XC.seq <| XC.region <| rA rfl rfl rfl <| rA rfl rfl rfl <| XL.nil <| XQ.seq <| XC.ret ?_
        have e_ := Option.some.inj h1
        subst e_
        have e_ : _ = _ := ho1
        subst e_
        try dsimp only [Sum.elim_inl, Sum.elim_inr] at h0
        have e_ := Option.some.inj h0
        subst e_
        exact hQ0 _ _ _ (.inr rfl) rfl (stle (tR rfl (tR rfl tZ)) (hR rfl hZ) kZ rfl (Nat.le_trans hv0 (lb rfl)) rfl rfl rfl (bF rfl bZ) rfl rfl)
       ·
        replace h1 := condF c13 h1
        refine XC.skip <| XQ.seq <| XC.seq ?_
        refine XC.anyRun [14, 15] [(0, 1), (1, 1), (2, 1), (3, 1), (4, 1), (5, 1), (6, 1), (7, 1), (8, 1), (9, 1), (10, 1), (11, 1), (12, 1), (13, 1), (13, 2)] mixed (by kernel_rfl) (by kernel_rfl) (by kernel_rfl) ?_
        refine RunA.rd rfl rfl rfl (OpOK.of_ro (RO.move rfl)) rfl <| RunA.rd rfl rfl rfl (OpOK.of_ro (RO.move rfl)) rfl ?_
        refine bindK h1 (fun x14 hx14 h1 => ?_)
        refine guardK h1 (fun g15 h1 => ?_)
        refine RunA.rd rfl rfl rfl (OpOK.of_ro (RO.indexO (α := Lvl) sl_31 rfl rfl hx14 g15)) rfl <| RunA.rd rfl rfl rfl (OpOK.of_ro (RO.loadOE (α := Lvl) (ys := [dI x14.c, dS x14.vs]) ag_39 rfl rfl hx14 rfl)) rfl <| RunA.rd rfl rfl rfl (OpOK.of_ro (RO.move rfl)) rfl <| RunA.rd rfl rfl rfl (OpOK.of_ro (RO.move rfl)) rfl ?_
        refine bindK h1 (fun x16 hx16 h1 => ?_)
        refine RunA.rd rfl rfl rfl (OpOK.of_ro (RO.indexE (α := Lvl) sl_31 rfl (.d _) rfl hx16)) rfl <| RunA.rd rfl rfl rfl (OpOK.of_ro (RO.loadPelAgg ag_39 rfl rfl rfl)) rfl <| RunA.rd rfl rfl rfl (OpOK.of_ro (RO.move rfl)) rfl ?_
        refine bindK h1 (fun x17 hx17 h1 => ?_)
        refine RunA.rd rfl rfl rfl (OpOK.callFun (m58_ok x16 x12.2 x17 hx17) rfl (.cons (.agg (.cons (.d _) (.cons (.d _) .nil))) (.cons (.one (.d _)) .nil))) rfl ?_
        refine guardK h1 (fun g18 h1 => ?_)
        refine RunA.rd rfl rfl rfl (OpOK.callFun (maxR_fun x14 x17 (Nat.le_of_ble_eq_true (cond_left g18)) (Nat.le_of_ble_eq_true (cond_right g18))) rfl (.cons (.agg (.cons (.d _) (.cons (.d _) .nil))) (.cons (.agg (.cons (.d _) (.cons (.d _) .nil))) .nil))) rfl ?_
        refine RunA.rd rfl rfl rfl (OpOK.of_ro (RO.move rfl)) rfl <| RunA.rd rfl rfl rfl (OpOK.of_ro (RO.extract rfl rfl)) rfl <| RunA.rd rfl rfl rfl (OpOK.of_ro (RO.extract rfl rfl)) rfl <| RunA.eff rfl rfl rfl (OpOK.alloc z_39 rfl) rfl <| RunA.eff rfl rfl rfl (OpOK.store ag_39 rfl rfl rfl rfl (lb rfl) rfl) rfl <| RunA.rd rfl rfl rfl (OpOK.of_ro (RO.assign rfl)) rfl ?_
        refine RunA.nil ⟨?ex, _, _, rfl, ?_⟩
        case ex => exact ⟨⟨_, rfl, _, _, rfl, rfl, rfl, .inl ⟨rfl, _, OpOK.of_ro (RO.move rfl), rfl⟩⟩, ⟨_, rfl, _, _, rfl, rfl, rfl, .inl ⟨rfl, _, OpOK.of_ro (RO.move rfl), rfl⟩⟩, ⟨_, rfl, _, _, rfl, rfl, rfl, .inl ⟨rfl, _, OpOK.of_ro (RO.indexO (α := Lvl) sl_31 rfl rfl hx14 g15), rfl⟩⟩, ⟨_, rfl, _, _, rfl, rfl, rfl, .inl ⟨rfl, _, OpOK.of_ro (RO.loadOE (α := Lvl) (ys := [dI x14.c, dS x14.vs]) ag_39 rfl rfl hx14 rfl), rfl⟩⟩, ⟨_, rfl, _, _, rfl, rfl, rfl, .inl ⟨rfl, _, OpOK.of_ro (RO.move rfl), rfl⟩⟩, ⟨_, rfl, _, _, rfl, rfl, rfl, .inl ⟨rfl, _, OpOK.of_ro (RO.move rfl), rfl⟩⟩, ⟨_, rfl, _, _, rfl, rfl, rfl, .inl ⟨rfl, _, OpOK.of_ro (RO.indexE (α := Lvl) sl_31 rfl (.d _) rfl hx16), rfl⟩⟩, ⟨_, rfl, _, _, rfl, rfl, rfl, .inl ⟨rfl, _, OpOK.of_ro (RO.loadPelAgg ag_39 rfl rfl rfl), rfl⟩⟩, ⟨_, rfl, _, _, rfl, rfl, rfl, .inl ⟨rfl, _, OpOK.of_ro (RO.move rfl), rfl⟩⟩, ⟨_, rfl, _, _, rfl, rfl, rfl, .inl ⟨rfl, _, OpOK.callFun (m58_ok x16 x12.2 x17 hx17) rfl (.cons (.agg (.cons (.d _) (.cons (.d _) .nil))) (.cons (.one (.d _)) .nil)), rfl⟩⟩, ⟨_, rfl, _, _, rfl, rfl, rfl, .inl ⟨rfl, _, OpOK.callFun (maxR_fun x14 x17 (Nat.le_of_ble_eq_true (cond_left g18)) (Nat.le_of_ble_eq_true (cond_right g18))) rfl (.cons (.agg (.cons (.d _) (.cons (.d _) .nil))) (.cons (.agg (.cons (.d _) (.cons (.d _) .nil))) .nil)), rfl⟩⟩, ⟨_, rfl, _, _, rfl, rfl, rfl, .inl ⟨rfl, _, OpOK.of_ro (RO.move rfl), rfl⟩⟩, ⟨_, rfl, _, _, rfl, rfl, rfl, .inl ⟨rfl, _, OpOK.of_ro (RO.extract rfl rfl), rfl⟩⟩, ⟨_, rfl, _, _, rfl, rfl, rfl, .inl ⟨rfl, _, OpOK.of_ro (RO.extract rfl rfl), rfl⟩⟩, ⟨_, rfl, _, _, rfl, rfl, rfl, .inl ⟨rfl, _, OpOK.of_ro (RO.extract rfl rfl), rfl⟩⟩, trivial⟩
        refine XQ.less (st' := ⟨[(0, .v (.one (.osl 0 0 nn nn))), (3, .v (.one (.ptr 1 0))), (9, .v (.one (dS x3))), (10, .v (.one (dI s1.2.1))), (12, .v (.one (dI ((maxL x14 x17).2)))), (13, .v (.one (dI x12.1))), (15, .v (.one (.ptr 4 0)))], [(0, .cells 39 (flatE s1.2.2)), (1, .cells 41 (cE a1)), (2, .cells 39 [dI x1.2.1, dS x1.2.2]), (3, .cells 39 [dI x7.2.1, dS x7.2.2]), (4, .cells 39 [dI (((maxL x14 x17).1).c), dS (((maxL x14 x17).1).vs : List LV)])], [], 5, 77, []⟩) (stle (tR rfl (tR rfl (tR rfl (tR rfl (tR rfl (tR rfl (tR rfl tZ))))))) (hR rfl (hR rfl (hR rfl (hR rfl (hR rfl hZ))))) kZ rfl (Nat.le_trans hv0 (lb rfl)) rfl rfl rfl (bF rfl (bB rfl rfl (bB rfl rfl (bB rfl rfl (bB rfl rfl bZ))))) rfl rfl) <| XQ.seq <| XC.seq <| XC.seq <| XC.region <| rM rfl rfl rfl <| rR rfl rfl rfl (RO.binInt rfl rfl rfl) <| XL.nil <| XQ.seq ?_
        refine XC.cond (b := (((maxL x14 x17).2) != 0)) rfl (fun c19 => ?_) (fun c19 => ?_)
        ·
         replace h1 := condT c19 h1
         refine XC.seq <| XC.region <| rA rfl rfl rfl <| rA rfl rfl rfl <| XL.nil <| XQ.seq <| XC.ret ?_
         have e_ := Option.some.inj h1
         subst e_
         have e_ : _ = _ := ho1
         subst e_
         try dsimp only [Sum.elim_inl, Sum.elim_inr] at h0
         have e_ := Option.some.inj h0
         subst e_
         exact hQ0 _ _ _ (.inr rfl) rfl (stle (tR rfl (tR rfl tZ)) (hR rfl hZ) kZ rfl (Nat.le_trans hv0 (lb rfl)) rfl rfl rfl (bF rfl bZ) rfl rfl)
        ·
         replace h1 := condF c19 h1
         refine XC.skip <| XQ.seq <| XC.seq <| XC.region <| rM rfl rfl rfl <| rM rfl rfl rfl <| rR rfl rfl rfl (RO.loadOwnAgg ag_39 rfl rfl rfl rfl) ?_
         refine bindK h1 (fun x20 hx20 h1 => ?_)
         refine guardK h1 (fun g21 h1 => ?_)
         refine rR rfl rfl rfl (RO.indexO (α := Lvl) sl_31 rfl rfl hx20 g21) <| XL.eff rfl rfl (OpOK.storeOE (α := Lvl) (y' := .agg [dI (((maxL x14 x17).1).c), dS (((maxL x14 x17).1).vs : List LV)]) (v := ((maxL x14 x17).1)) ag_39 rfl rfl (.agg (.cons (.d _) (.cons (.d _) .nil))) rfl rfl hx20 rfl) <| XL.nil <| XQ.seq <| XC.region <| rA rfl rfl rfl <| XL.nil <| XQ.inBlock <| XQ.seq <| XC.region <| rM rfl rfl rfl <| rR rfl rfl rfl (RO.binInt rfl rfl rfl) <| rA rfl rfl rfl <| XL.nil ?_
         have e_ := Option.some.inj h1
         subst e_
         refine XQ.nextM (true, (w64 (s1.2.1 + 1)), (s1.2.2.set x12.1.toNat ((maxL x14 x17).1))) (stle (tR rfl (tR rfl (tR rfl (tR rfl (tR rfl tZ))))) (hR rfl (hR rfl (hR rfl hZ))) kZ rfl (Nat.le_trans hv0 (lb rfl)) rfl rfl rfl (bF rfl (bB rfl rfl (bB rfl rfl bZ))) rfl rfl) ho1
    ·
     replace h1 := condF c6 h1
     refine XC.exit <| XQ.thenE <| XQ.thenE ?_
     have e_ := Option.some.inj h1
     subst e_
     have e_ : _ = _ := ho1
     subst e_
     exact XQ.joinX (s1.1, s1.2.2) (stle (tR rfl tZ) (hR rfl (hR rfl (hR rfl hZ))) kZ rfl (Nat.le_trans hv0 (lb rfl)) rfl rfl rfl (bF rfl (bB rfl rfl (bB rfl rfl bZ))) rfl rfl) h0
   ·
    intro o4 h0
    refine XQ.blockX <| XQ.seq <| XC.seq <| XC.region <| rM rfl rfl rfl <| rA rfl rfl rfl <| rA rfl rfl rfl <| XL.nil <| XQ.seq <| XC.ret ?_
    have e_ := Option.some.inj h0
    subst e_
    exact hQ0 _ _ _ (.inr rfl) rfl (stle (tR rfl (tR rfl tZ)) (hR rfl hZ) kZ rfl (Nat.le_trans hv0 (lb rfl)) rfl rfl rfl (bF rfl bZ) rfl rfl)

def m16_l0 (a1 : List Bnd) (a0 : Int) (s2 : Bool × Int × (List Lvl)) : Option (LO (Bool × Int × (List Lvl)) ((Bool × (List Lvl)) ⊕ ((List Lvl) × Int × Int))) :=
  cond (decide (s2.2.1 < (a1.length : Int)))
    (Option.bind (idx a1 s2.2.1) fun (x8 : Bnd) =>
  Option.bind (m32o s2.2.2 x8 a0.toNat) fun (x9 : Bool × Int × (List Lvl)) =>
  cond (x9.2.1 != 0)
    (some (.done (.inr (([] : List Lvl), s2.2.1, x9.2.1))))
    (Option.bind (cond s2.1
    (some true)
    (some x9.1)) (fun (v11 : Bool) => some (.next (v11, (w64 (s2.2.1 + 1)), x9.2.2)))))
    (some (.done (.inl (s2.1, s2.2.2))))

def m16_l1 (a1 : List Bnd) (a0 : Int) (s1 : Bool × (List Lvl)) : Option (LO (Bool × (List Lvl)) (((List Lvl)) ⊕ ((List Lvl) × Int × Int))) :=
  cond s1.1
    (Option.bind (loopN (m16_l0 a1 a0) FUEL (false, 0, s1.2)) (Sum.elim (fun (o6 : Bool × (List Lvl)) => some (.next (o6.1, o6.2))) (fun o => some (.done (.inr o)))))
    (some (.done (.inl s1.2)))

/-- euclid/euclidref02.Solve -/
def m16 (a0 : Int) (a1 : List Bnd) : Option ((List Lvl) × Int × Int) :=
  Option.bind (m14 a0 a1) fun (x1 : Int × Int) =>
  cond (x1.2 != 0)
    (some (([] : List Lvl), x1.1, x1.2))
    (guardO (cond (decide (0 ≤ a0)) (Nat.ble (32 * a0.toNat) 281474976710656) false)
  (Option.bind (loopN (m16_l1 a1 a0) FUEL (true, (List.replicate a0.toNat (⟨0, ([] : List LV)⟩ : Lvl)))) (Sum.elim (fun (o4 : (List Lvl)) => guardO (Nat.beq o4.length a0.toNat)
  (some (o4, 0, 0))) (fun o => some o))))

set_option maxRecDepth 100000 in
set_option maxHeartbeats 8000000 in
theorem m16_ok (a0 : Int) (a1 : List Bnd) (r : (List Lvl) × Int × Int) (h0 : m16 a0 a1 = some r) : Fun Try.prog 16 [.one (dI a0), .one (dS a1)] (resOf [.one (dS r.1), .one (dI r.2.1), .one (dI r.2.2)]) := by
  unfold m16 at h0
  refine Fun.of_bodyM 9 51 Try.func16 rfl en_16 rfl (lb rfl) (fun S w => ?_)
  simp only [entry]
  refine XC.seq <| XC.region <| rA rfl rfl rfl <| rA rfl rfl rfl <| rA rfl rfl rfl <| XL.nil <| XQ.seq <| XC.seq <| XC.seq <| XC.region <| rM rfl rfl rfl <| rM rfl rfl rfl ?_
  refine bindK h0 (fun x1 hx1 h0 => ?_)
  refine XL.put rfl rfl (lb rfl) (OpOK.callFun (m14_ok a0 a1 x1 hx1) rfl (.cons (.one (.d _)) (.cons (.one (.d _)) .nil))) <| rM rfl rfl rfl <| rR rfl rfl rfl (RO.extract rfl rfl) <| rR rfl rfl rfl (RO.extract rfl rfl) <| rA rfl rfl rfl <| rA rfl rfl rfl <| XL.nil <| XQ.seq <| XC.seq <| XC.region <| rM rfl rfl rfl <| rR rfl rfl rfl (RO.binInt rfl rfl rfl) <| XL.nil <| XQ.seq ?_
  refine XC.cond (b := (x1.2 != 0)) rfl (fun c2 => ?_) (fun c2 => ?_)
  ·
   replace h0 := condT c2 h0
   refine XC.seq <| XC.region <| rM rfl rfl rfl <| rM rfl rfl rfl <| rA rfl rfl rfl <| rA rfl rfl rfl <| rA rfl rfl rfl <| XL.nil <| XQ.seq <| XC.ret ?_
   have e_ := Option.some.inj h0
   subst e_
   exact XQ.retF (fun _ _ h => h) rfl (RAs.tmp rfl (RAs.tmp rfl (RAs.tmp rfl .nil))) (.cons (.one (.nil _)) (.cons (.one (.d _)) (.cons (.one (.d _)) .nil)))
  ·
   replace h0 := condF c2 h0
   refine XC.skip <| XQ.seq <| XC.seq <| XC.region <| rM rfl rfl rfl ?_
   refine guardK h0 (fun g3 h0 => ?_)
   refine XL.put rfl rfl (lb rfl) (OpOK.makeO (α := Lvl) (z := (⟨0, ([] : List LV)⟩ : Lvl)) sl_31 z_39 rfl rfl el_39 rfl rfl g3 rfl (by repeat (first | exact CLs.nil | refine CLs.cons (by first | exact .refl _ | exact .sub (.app _ _ _) | exact .sub (.nil _)) ?_))) ?_
   refine rA rfl rfl rfl <| XL.nil <| XQ.seq <| XC.seq <| XC.seq <| XC.region <| rA rfl rfl rfl <| XL.nil <| XQ.seq <| XC.block ?_
   refine XC.joinX 0 (fun (o4 : (List Lvl)) => ⟨[(9, .v (.one (.osl 0 0 a0.toNat a0.toNat)))], [(0, .cells 39 (flatE o4))], [], 1, 51, []⟩) (fun (o4 : (List Lvl)) => (guardO (Nat.beq o4.length a0.toNat)
     (some (o4, 0, 0))) = some r) ?_ ?_
   ·
    refine bindK h0 (fun o5 hl1 h0 => ?_)
    refine XC.loopM (m16_l1 a1 a0) (fun s1 => ⟨[(1, .v (.one (dS a1))), (9, .v (.one (.osl 0 0 a0.toNat a0.toNat))), (10, .v (.one (dB s1.1)))], [(0, .cells 39 (flatE s1.2))], [], 1, 51, []⟩) (true, (List.replicate a0.toNat (⟨0, ([] : List LV)⟩ : Lvl))) o5 (stle (tR rfl (tR rfl (tR rfl tZ))) (hR rfl hZ) kZ rfl (Nat.zero_le _) rfl rfl rfl (bF rfl bZ) rfl rfl) hl1 (fun s1 n1 oo1 h1 ho1 => ?_)
    unfold m16_l1 at h1
    refine XC.seq <| XC.seq <| XC.region <| rM rfl rfl rfl <| XL.nil <| XQ.seq ?_
    refine XC.cond (b := s1.1) rfl (fun c6 => ?_) (fun c6 => ?_)
    ·
     replace h1 := condT c6 h1
     refine XC.skip <| XQ.seq <| XC.block <| XC.seq <| XC.region <| rA rfl rfl rfl <| XL.nil <| XQ.seq <| XC.seq <| XC.region <| rA rfl rfl rfl <| XL.nil <| XQ.seq <| XC.block ?_
     refine XC.joinX 2 (fun (o7 : Bool × (List Lvl)) => ⟨[(1, .v (.one (dS a1))), (9, .v (.one (.osl 0 0 a0.toNat a0.toNat))), (10, .v (.one (dB o7.1)))], [(0, .cells 39 (flatE o7.2))], [], 1, 51, []⟩) (fun (o7 : Bool × (List Lvl)) => (some (.next (o7.1, o7.2))) = some oo1) ?_ ?_
     ·
      refine bindK h1 (fun o8 hl2 h1 => ?_)
      refine XC.loopM (m16_l0 a1 a0) (fun s2 => ⟨[(1, .v (.one (dS a1))), (9, .v (.one (.osl 0 0 a0.toNat a0.toNat))), (10, .v (.one (dB s2.1))), (11, .v (.one (dI s2.2.1)))], [(0, .cells 39 (flatE s2.2.2))], [], 1, 51, []⟩) (false, 0, s1.2) o8 (stle (tR rfl (tR rfl (tR rfl (tR rfl tZ)))) (hR rfl hZ) kZ rfl (Nat.zero_le _) rfl rfl rfl (bF rfl bZ) rfl rfl) hl2 (fun s2 n2 oo2 h2 ho2 => ?_)
      unfold m16_l0 at h2
      refine XC.seq <| XC.seq <| XC.region <| rM rfl rfl rfl <| rM rfl rfl rfl <| rR rfl rfl rfl (RO.lenE (α := Bnd) sl_22 rfl (.d _)) <| rR rfl rfl rfl (RO.binInt rfl rfl rfl) <| XL.nil <| XQ.seq ?_
      refine XC.cond (b := (decide (s2.2.1 < (a1.length : Int)))) rfl (fun c9 => ?_) (fun c9 => ?_)
      ·
       replace h2 := condT c9 h2
       refine XC.skip <| XQ.seq <| XC.seq <| XC.block <| XC.seq <| XC.region <| rM rfl rfl rfl <| rM rfl rfl rfl <| rM rfl rfl rfl ?_
       refine bindK h2 (fun x10 hx10 h2 => ?_)
       refine rR rfl rfl rfl (RO.indexE (α := Bnd) sl_22 rfl (.d _) rfl hx10) <| rR rfl rfl rfl (RO.loadPelAgg ag_41 rfl rfl rfl) ?_
       refine bindK h2 (fun x11 hx11 h2 => ?_)
       refine XL.put rfl rfl (lb rfl) (OpOK.callO (b := 0) (m32o_ok s2.2.2 x10 a0.toNat x11 hx11) rfl (.osl (.agg (.cons (.d _) (.cons (.d _) (.cons (.d _) (.cons (.d _) .nil)))) .nil)) rfl rfl rfl) <| rM rfl rfl rfl <| rR rfl rfl rfl (RO.extract rfl rfl) <| rR rfl rfl rfl (RO.extract rfl rfl) <| rA rfl rfl rfl <| rA rfl rfl rfl <| XL.nil <| XQ.seq <| XC.seq <| XC.seq <| XC.region <| rM rfl rfl rfl <| rR rfl rfl rfl (RO.binInt rfl rfl rfl) <| XL.nil ?_
       refine XQ.seq ?_
       refine XC.cond (b := (x11.2.1 != 0)) rfl (fun c12 => ?_) (fun c12 => ?_)
       ·
        replace h2 := condT c12 h2
        refine XC.seq <| XC.region <| rM rfl rfl rfl <| rM rfl rfl rfl <| rA rfl rfl rfl <| rA rfl rfl rfl <| rA rfl rfl rfl <| XL.nil <| XQ.seq <| XC.ret ?_
        have e_ := Option.some.inj h2
        subst e_
        have e_ : _ = _ := ho2
        subst e_
        try dsimp only [Sum.elim_inl, Sum.elim_inr] at h1
        have e_ := Option.some.inj h1
        subst e_
        have e_ : _ = _ := ho1
        subst e_
        try dsimp only [Sum.elim_inl, Sum.elim_inr] at h0
        have e_ := Option.some.inj h0
        subst e_
        exact XQ.retF (fun _ _ h => h) rfl (RAs.tmp rfl (RAs.tmp rfl (RAs.tmp rfl .nil))) (.cons (.one (.nil _)) (.cons (.one (.d _)) (.cons (.one (.d _)) .nil)))
       ·
        replace h2 := condF c12 h2
        refine XC.skip <| XQ.seq ?_
        refine XC.joinR (fun (v13 : Bool) => ⟨[(1, .v (.one (dS a1))), (9, .v (.one (.osl 0 0 a0.toNat a0.toNat))), (10, .v (.one (dB v13))), (11, .v (.one (dI s2.2.1)))], [(0, .cells 39 (flatE x11.2.2))], [], 1, 51, []⟩) (fun (v13 : Bool) => (some (.next (v13, (w64 (s2.2.1 + 1)), x11.2.2))) = some oo2) ?_ ?_
        ·
         refine bindK h2 (fun v_ h3 h2 => ?_)
         refine XC.region <| rM rfl rfl rfl <| rM rfl rfl rfl ?_
         refine XL.case (d := 47) (c := s2.1) rfl (fun c14 => ?_) (fun c14 => ?_)
         ·
          replace h3 := condT c14 h3
          refine XL.no rfl rfl <| rR rfl rfl rfl (RO.pickT rfl rfl) <| rA rfl rfl rfl <| XL.nil ?_
          have e_ := Option.some.inj h3
          subst e_
          exact XQ.joinR true (stle (tR rfl (tR rfl (tR rfl (tR rfl tZ)))) (hR rfl hZ) kZ rfl (Nat.zero_le _) rfl rfl rfl (bF rfl bZ) rfl rfl) h2
         ·
          replace h3 := condF c14 h3
          refine rM rfl rfl rfl <| rR rfl rfl rfl (RO.pickF rfl rfl) <| rA rfl rfl rfl <| XL.nil ?_
          have e_ := Option.some.inj h3
          subst e_
          exact XQ.joinR x11.1 (stle (tR rfl (tR rfl (tR rfl (tR rfl tZ)))) (hR rfl hZ) kZ rfl (Nat.zero_le _) rfl rfl rfl (bF rfl bZ) rfl rfl) h2
        ·
         intro v13 h2
         refine XQ.inBlock <| XQ.seq <| XC.region <| rM rfl rfl rfl <| rR rfl rfl rfl (RO.binInt rfl rfl rfl) <| rA rfl rfl rfl <| XL.nil ?_
         have e_ := Option.some.inj h2
         subst e_
         refine XQ.nextM (v13, (w64 (s2.2.1 + 1)), x11.2.2) (stle (tR rfl (tR rfl (tR rfl (tR rfl tZ)))) (hR rfl hZ) kZ rfl (Nat.zero_le _) rfl rfl rfl (bF rfl bZ) rfl rfl) ho2
      ·
       replace h2 := condF c9 h2
       refine XC.exit <| XQ.thenE <| XQ.thenE ?_
       have e_ := Option.some.inj h2
       subst e_
       have e_ : _ = _ := ho2
       subst e_
       exact XQ.joinX (s2.1, s2.2.2) (stle (tR rfl (tR rfl (tR rfl tZ))) (hR rfl hZ) kZ rfl (Nat.zero_le _) rfl rfl rfl (bF rfl bZ) rfl rfl) h1
     ·
      intro o7 h1
      refine XQ.blockX <| XQ.inBlock ?_
      have e_ := Option.some.inj h1
      subst e_
      refine XQ.nextM (o7.1, o7.2) (stle (tR rfl (tR rfl (tR rfl tZ))) (hR rfl hZ) kZ rfl (Nat.zero_le _) rfl rfl rfl (bF rfl bZ) rfl rfl) ho1
    ·
     replace h1 := condF c6 h1
     refine XC.exit <| XQ.thenE <| XQ.thenE ?_
     have e_ := Option.some.inj h1
     subst e_
     have e_ : _ = _ := ho1
     subst e_
     exact XQ.joinX s1.2 (stle (tR rfl tZ) (hR rfl hZ) kZ rfl (Nat.zero_le _) rfl rfl rfl (bF rfl bZ) rfl rfl) h0
   ·
    intro o4 h0
    refine XQ.blockX <| XQ.seq <| XC.seq <| XC.region <| rM rfl rfl rfl <| rA rfl rfl rfl <| rA rfl rfl rfl <| rA rfl rfl rfl <| XL.nil <| XQ.seq <| XC.ret ?_
    refine guardK h0 (fun g15 h0 => ?_)
    have e_ := Option.some.inj h0
    subst e_
    refine XQ.freezeT (α := Lvl) (t := 4) rfl rfl g15 ?_
    exact XQ.retF (fun _ _ h => h) rfl (RAs.tmp rfl (RAs.tmp rfl (RAs.tmp rfl .nil))) (.cons (.one (.d _)) (.cons (.one (.d _)) (.cons (.one (.d _)) .nil)))
end Go.Proofs.Ytkimijmiphkddaa
