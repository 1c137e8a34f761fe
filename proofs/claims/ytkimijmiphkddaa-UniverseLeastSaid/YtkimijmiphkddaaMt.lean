/- Mirrors of layer 2: Solve, possible. -/
import Derived.Test.YtkimijmiphkddaaMr
import Derived.Test.YtkimijmiphkddaaArr
namespace Go.Proofs.Ytkimijmiphkddaa
open Go.RowKit Go.Shelf
set_option linter.unusedSimpArgs false
set_option linter.unusedVariables false

theorem el_39 : tyElem Try.prog 39 = some (2, 32) := by kernel_rfl
theorem arr_68 : tyArr Try.prog 68 = some (9, 1) := by kernel_rfl
theorem arr_70 : tyArr Try.prog 70 = some (9, 9) := by kernel_rfl
theorem en_15 : Enters Try.prog 15 := enters_of Try.func15 (by kernel_rfl) rfl
theorem en_42 : Enters Try.prog 42 := enters_of Try.func42 (by kernel_rfl) rfl
def m15_l0 (a1 : List Bnd) (a0 : Int) (s2 : Bool × Int × (List Lvl)) : Option (LO (Bool × Int × (List Lvl)) ((Bool × (List Lvl)) ⊕ ((List Lvl) × Int × Int))) :=
  cond (decide (s2.2.1 < (a1.length : Int)))
    (Option.bind (idx a1 s2.2.1) fun (x7 : Bnd) =>
  Option.bind (m31o s2.2.2 x7 a0.toNat) fun (x8 : (List Lvl) × Bool × Int) =>
  cond (x8.2.2 != 0)
    (some (.done (.inr (([] : List Lvl), s2.2.1, x8.2.2))))
    (Option.bind (cond s2.1
    (some true)
    (some x8.2.1)) (fun (v10 : Bool) => some (.next (v10, (w64 (s2.2.1 + 1)), x8.1)))))
    (some (.done (.inl (s2.1, s2.2.2))))

def m15_l1 (a1 : List Bnd) (a0 : Int) (s1 : (List Lvl)) : Option (LO ((List Lvl)) (((List Lvl)) ⊕ ((List Lvl) × Int × Int))) :=
  Option.bind (loopN (m15_l0 a1 a0) FUEL (false, 0, s1)) (Sum.elim (fun (o5 : Bool × (List Lvl)) => cond (!o5.1)
    (some (.done (.inl o5.2)))
    (some (.next o5.2))) (fun o => some (.done (.inr o))))

/-- euclid/universe.Solve -/
def m15 (a0 : Int) (a1 : List Bnd) : Option ((List Lvl) × Int × Int) :=
  Option.bind (m13 a0 a1) fun (x1 : Int × Int) =>
  cond (x1.2 != 0)
    (some (([] : List Lvl), x1.1, x1.2))
    (guardO (cond (decide (0 ≤ a0)) (Nat.ble (32 * a0.toNat) 281474976710656) false)
  (Option.bind (loopN (m15_l1 a1 a0) FUEL (List.replicate a0.toNat (⟨0, ([] : List LV)⟩ : Lvl))) (Sum.elim (fun (o4 : (List Lvl)) => guardO (Nat.beq o4.length a0.toNat)
  (some (o4, 0, 0))) (fun o => some o))))

set_option maxRecDepth 100000 in
set_option maxHeartbeats 8000000 in
theorem m15_ok (a0 : Int) (a1 : List Bnd) (r : (List Lvl) × Int × Int) (h0 : m15 a0 a1 = some r) : Fun Try.prog 15 [.one (dI a0), .one (dS a1)] (resOf [.one (dS r.1), .one (dI r.2.1), .one (dI r.2.2)]) := by
  unfold m15 at h0
  refine Fun.of_bodyM 9 52 Try.func15 rfl en_15 rfl (lb rfl) (fun S w => ?_)
  simp only [entry]
  refine XC.seq <| XC.region <| rA rfl rfl rfl <| rA rfl rfl rfl <| rA rfl rfl rfl <| XL.nil <| XQ.seq <| XC.scope <| XC.seq <| XC.seq <| XC.region <| rM rfl rfl rfl <| rM rfl rfl rfl ?_
  refine bindK h0 (fun x1 hx1 h0 => ?_)
  refine XL.put rfl rfl (lb rfl) (OpOK.callFun (m13_ok a0 a1 x1 hx1) rfl (.cons (.one (.d _)) (.cons (.one (.d _)) .nil))) <| rM rfl rfl rfl <| rR rfl rfl rfl (RO.extract rfl rfl) <| rR rfl rfl rfl (RO.extract rfl rfl) <| rA rfl rfl rfl <| rA rfl rfl rfl <| XL.nil <| XQ.seq <| XC.seq <| XC.region <| rM rfl rfl rfl <| rR rfl rfl rfl (RO.binInt rfl rfl rfl) <| XL.nil <| XQ.seq ?_
  refine XC.cond (b := (x1.2 != 0)) rfl (fun c2 => ?_) (fun c2 => ?_)
  ·
   replace h0 := condT c2 h0
   refine XC.seq <| XC.region <| rM rfl rfl rfl <| rM rfl rfl rfl <| rA rfl rfl rfl <| rA rfl rfl rfl <| rA rfl rfl rfl <| XL.nil <| XQ.seq <| XC.ret ?_
   have e_ := Option.some.inj h0
   subst e_
   exact XQ.retF (fun _ _ h => h) rfl (RAs.tmp rfl (RAs.tmp rfl (RAs.tmp rfl .nil))) (.cons (.one (.nil _)) (.cons (.one (.d _)) (.cons (.one (.d _)) .nil)))
  ·
   replace h0 := condF c2 h0
   refine XC.skip <| XQ.seq <| XC.seq <| XC.region <| rM rfl rfl rfl ?_
   refine guardK h0 (fun g3 h0 => ?_)
   refine XL.put rfl rfl (lb rfl) (OpOK.makeO (α := Lvl) (z := (⟨0, ([] : List LV)⟩ : Lvl)) sl_31 z_39 rfl rfl el_39 rfl rfl g3 rfl (by repeat (first | exact CLs.nil | refine CLs.cons (by first | exact .refl _ | exact .sub (.app _ _ _) | exact .sub (.nil _)) ?_))) ?_
   refine rA rfl rfl rfl <| XL.nil <| XQ.seq <| XC.seq <| XC.label <| XQ.seq <| XC.seq <| XC.block ?_
   refine XC.joinX 0 (fun (o4 : (List Lvl)) => ⟨[(9, .v (.one (.osl 0 0 a0.toNat a0.toNat)))], [(0, .cells 39 (flatE o4))], [], 1, 52, []⟩) (fun (o4 : (List Lvl)) => (guardO (Nat.beq o4.length a0.toNat)
     (some (o4, 0, 0))) = some r) ?_ ?_
   ·
    refine bindK h0 (fun o5 hl1 h0 => ?_)
    refine XC.loopM (m15_l1 a1 a0) (fun s1 => ⟨[(1, .v (.one (dS a1))), (9, .v (.one (.osl 0 0 a0.toNat a0.toNat)))], [(0, .cells 39 (flatE s1))], [], 1, 52, []⟩) (List.replicate a0.toNat (⟨0, ([] : List LV)⟩ : Lvl)) o5 (stle (tR rfl (tR rfl tZ)) (hR rfl hZ) kZ rfl (Nat.zero_le _) rfl rfl rfl (bF rfl bZ) rfl rfl) hl1 (fun s1 n1 oo1 h1 ho1 => ?_)
    unfold m15_l1 at h1
    refine XC.block <| XC.seq <| XC.region <| rA rfl rfl rfl <| XL.nil <| XQ.seq <| XC.seq <| XC.seq <| XC.region <| rM rfl rfl rfl <| rR rfl rfl rfl (RO.lenE (α := Bnd) sl_22 rfl (.d _)) <| rM rfl rfl rfl <| XL.nil <| XQ.seq ?_
    refine XC.block ?_
    refine XC.joinX 2 (fun (o6 : Bool × (List Lvl)) => ⟨[(1, .v (.one (dS a1))), (9, .v (.one (.osl 0 0 a0.toNat a0.toNat))), (10, .v (.one (dB o6.1)))], [(0, .cells 39 (flatE o6.2))], [], 1, 52, []⟩) (fun (o6 : Bool × (List Lvl)) => (cond (!o6.1)
        (some (.done (.inl o6.2)))
        (some (.next o6.2))) = some oo1) ?_ ?_
    ·
     refine bindK h1 (fun o7 hl2 h1 => ?_)
     refine XC.loopM (m15_l0 a1 a0) (fun s2 => ⟨[(1, .v (.one (dS a1))), (9, .v (.one (.osl 0 0 a0.toNat a0.toNat))), (10, .v (.one (dB s2.1))), (27, .v (.one (dS a1))), (28, .v (.one (dI (a1.length : Int)))), (29, .v (.one (dI s2.2.1)))], [(0, .cells 39 (flatE s2.2.2))], [], 1, 52, []⟩) (false, 0, s1) o7 (stle (tR rfl (tR rfl (tR rfl (tR rfl (tR rfl (tR rfl tZ)))))) (hR rfl hZ) kZ rfl (Nat.zero_le _) rfl rfl rfl (bF rfl bZ) rfl rfl) hl2 (fun s2 n2 oo2 h2 ho2 => ?_)
     unfold m15_l0 at h2
     refine XC.seq <| XC.region <| rR rfl rfl rfl (RO.binInt rfl rfl rfl) <| XL.nil <| XQ.seq <| XC.seq ?_
     refine XC.cond (b := (decide (s2.2.1 < (a1.length : Int)))) rfl (fun c8 => ?_) (fun c8 => ?_)
     ·
      replace h2 := condT c8 h2
      refine XC.skip <| XQ.seq <| XC.seq <| XC.block <| XC.seq <| XC.region <| rM rfl rfl rfl ?_
      refine bindK h2 (fun x9 hx9 h2 => ?_)
      refine rR rfl rfl rfl (RO.indexE (α := Bnd) sl_22 rfl (.d _) rfl hx9) <| rR rfl rfl rfl (RO.loadPelAgg ag_41 rfl rfl rfl) <| XL.put rfl rfl (lb rfl) (OpOK.alloc z_41 rfl) <| rA rfl rfl rfl <| XL.eff rfl rfl (OpOK.store ag_41 rfl rfl rfl rfl (lb rfl) rfl) <| XL.nil <| XQ.seq <| XC.seq <| XC.region <| rM rfl rfl rfl <| rR rfl rfl rfl (RO.loadOwnAgg ag_41 rfl rfl rfl rfl) ?_
      refine bindK h2 (fun x10 hx10 h2 => ?_)
      refine XL.put rfl rfl (lb rfl) (OpOK.callO (b := 0) (m31o_ok s2.2.2 x9 a0.toNat x10 hx10) rfl (.osl (.agg (.cons (.d _) (.cons (.d _) (.cons (.d _) (.cons (.d _) .nil)))) .nil)) rfl rfl rfl) <| rM rfl rfl rfl <| rR rfl rfl rfl (RO.extract rfl rfl) <| rR rfl rfl rfl (RO.extract rfl rfl) <| rA rfl rfl rfl <| rA rfl rfl rfl <| XL.nil <| XQ.seq <| XC.seq <| XC.seq <| XC.region <| rM rfl rfl rfl <| rR rfl rfl rfl (RO.binInt rfl rfl rfl) <| XL.nil ?_
      refine XQ.seq ?_
      refine XC.cond (b := (x10.2.2 != 0)) rfl (fun c11 => ?_) (fun c11 => ?_)
      ·
       replace h2 := condT c11 h2
       refine XC.seq <| XC.region <| rM rfl rfl rfl <| rM rfl rfl rfl <| rA rfl rfl rfl <| rA rfl rfl rfl <| rA rfl rfl rfl <| XL.nil <| XQ.seq <| XC.ret ?_
       have e_ := Option.some.inj h2
       subst e_
       have e_ : _ = _ := ho2
       subst e_
       try dsimp only [Sum.elim_inl, Sum.elim_inr] at h1
       have e_ := Option.some.inj h1
       subst e_
       have e_ : _ = _ := ho1
       subst e_
       try dsimp only [Sum.elim_inl, Sum.elim_inr] at h0
       have e_ := Option.some.inj h0
       subst e_
       exact XQ.retF (fun _ _ h => h) rfl (RAs.tmp rfl (RAs.tmp rfl (RAs.tmp rfl .nil))) (.cons (.one (.nil _)) (.cons (.one (.d _)) (.cons (.one (.d _)) .nil)))
      ·
       replace h2 := condF c11 h2
       refine XC.skip <| XQ.seq ?_
       refine XC.joinR (fun (v12 : Bool) => ⟨[(1, .v (.one (dS a1))), (9, .v (.one (.osl 0 0 a0.toNat a0.toNat))), (10, .v (.one (dB v12))), (27, .v (.one (dS a1))), (28, .v (.one (dI (a1.length : Int)))), (29, .v (.one (dI s2.2.1)))], [(0, .cells 39 (flatE x10.1)), (1, .cells 41 (cE x9))], [], 2, 52, []⟩) (fun (v12 : Bool) => (some (.next (v12, (w64 (s2.2.1 + 1)), x10.1))) = some oo2) ?_ ?_
       ·
        refine bindK h2 (fun v_ h3 h2 => ?_)
        refine XC.region <| rM rfl rfl rfl <| rM rfl rfl rfl ?_
        refine XL.case (d := 45) (c := s2.1) rfl (fun c13 => ?_) (fun c13 => ?_)
        ·
         replace h3 := condT c13 h3
         refine XL.no rfl rfl <| rR rfl rfl rfl (RO.pickT rfl rfl) <| rA rfl rfl rfl <| XL.nil ?_
         have e_ := Option.some.inj h3
         subst e_
         exact XQ.joinR true (stle (tR rfl (tR rfl (tR rfl (tR rfl (tR rfl (tR rfl tZ)))))) (hR rfl (hR rfl hZ)) kZ rfl (Nat.zero_le _) rfl rfl rfl (bF rfl (bB rfl rfl bZ)) rfl rfl) h2
        ·
         replace h3 := condF c13 h3
         refine rM rfl rfl rfl <| rR rfl rfl rfl (RO.pickF rfl rfl) <| rA rfl rfl rfl <| XL.nil ?_
         have e_ := Option.some.inj h3
         subst e_
         exact XQ.joinR x10.2.1 (stle (tR rfl (tR rfl (tR rfl (tR rfl (tR rfl (tR rfl tZ)))))) (hR rfl (hR rfl hZ)) kZ rfl (Nat.zero_le _) rfl rfl rfl (bF rfl (bB rfl rfl bZ)) rfl rfl) h2
       ·
        intro v12 h2
        refine XQ.inBlock <| XQ.seq <| XC.region <| rR rfl rfl rfl (RO.binInt rfl rfl rfl) <| rM rfl rfl rfl <| XL.nil ?_
        have e_ := Option.some.inj h2
        subst e_
        refine XQ.nextM (v12, (w64 (s2.2.1 + 1)), x10.1) (stle (tR rfl (tR rfl (tR rfl (tR rfl (tR rfl (tR rfl tZ)))))) (hR rfl hZ) kZ rfl (Nat.zero_le _) rfl rfl rfl (bF rfl bZ) rfl rfl) ho2
     ·
      replace h2 := condF c8 h2
      refine XC.exit <| XQ.thenE <| XQ.thenE ?_
      have e_ := Option.some.inj h2
      subst e_
      have e_ : _ = _ := ho2
      subst e_
      exact XQ.joinX (s2.1, s2.2.2) (stle (tR rfl (tR rfl (tR rfl tZ))) (hR rfl hZ) kZ rfl (Nat.zero_le _) rfl rfl rfl (bF rfl bZ) rfl rfl) h1
    ·
     intro o6 h1
     refine XQ.blockX <| XQ.seq <| XC.seq <| XC.region <| rM rfl rfl rfl <| rR rfl rfl rfl (RO.not rfl) <| XL.nil <| XQ.seq ?_
     refine XC.cond (b := (!o6.1)) rfl (fun c14 => ?_) (fun c14 => ?_)
     ·
      replace h1 := condT c14 h1
      refine XC.exit ?_
      refine XQ.blockE (by decide) ?_
      refine XQ.thenE ?_
      have e_ := Option.some.inj h1
      subst e_
      have e_ : _ = _ := ho1
      subst e_
      exact XQ.joinX o6.2 (stle (tR rfl tZ) (hR rfl hZ) kZ rfl (Nat.zero_le _) rfl rfl rfl (bF rfl bZ) rfl rfl) h0
     ·
      replace h1 := condF c14 h1
      refine XC.skip <| XQ.inBlock ?_
      have e_ := Option.some.inj h1
      subst e_
      refine XQ.nextM o6.2 (stle (tR rfl (tR rfl tZ)) (hR rfl hZ) kZ rfl (Nat.zero_le _) rfl rfl rfl (bF rfl bZ) rfl rfl) ho1
   ·
    intro o4 h0
    refine XQ.blockX <| XQ.seq <| XC.seq <| XC.region <| rM rfl rfl rfl <| rA rfl rfl rfl <| rA rfl rfl rfl <| rA rfl rfl rfl <| XL.nil <| XQ.seq <| XC.ret ?_
    refine guardK h0 (fun g15 h0 => ?_)
    have e_ := Option.some.inj h0
    subst e_
    refine XQ.freezeT (α := Lvl) (t := 4) rfl rfl g15 ?_
    exact XQ.retF (fun _ _ h => h) rfl (RAs.tmp rfl (RAs.tmp rfl (RAs.tmp rfl .nil))) (.cons (.one (.d _)) (.cons (.one (.d _)) (.cons (.one (.d _)) .nil)))

def m42_l0 (s2 : Int × (List Int)) (s1 : Int × (List Int)) (s3 : Int × (List Int)) : Option (LO (Int × (List Int)) (((List Int)))) :=
  cond (decide (s3.1 < 9))
    (Option.bind (guardO (cond (decide (0 ≤ s2.1)) (Nat.blt s2.1.toNat 9) false)
  (guardO (cond (decide (0 ≤ s1.1)) (Nat.blt s1.1.toNat 9) false)
  (Option.bind (s3.2[0 + s2.1.toNat * 9 + s1.1.toNat * 1]?) fun (x10 : Int) =>
  cond (decide (x10 < 1048576))
    (guardO (cond (decide (0 ≤ s1.1)) (Nat.blt s1.1.toNat 9) false)
  (guardO (cond (decide (0 ≤ s3.1)) (Nat.blt s3.1.toNat 9) false)
  (Option.bind (s3.2[0 + s1.1.toNat * 9 + s3.1.toNat * 1]?) fun (x14 : Int) =>
  some (decide (x14 < 1048576)))))
    (some false)))) (fun (v7 : Bool) => cond v7
    (guardO (cond (decide (0 ≤ s2.1)) (Nat.blt s2.1.toNat 9) false)
  (guardO (cond (decide (0 ≤ s3.1)) (Nat.blt s3.1.toNat 9) false)
  (Option.bind (s3.2[0 + s2.1.toNat * 9 + s3.1.toNat * 1]?) fun (x11 : Int) =>
  guardO (cond (decide (0 ≤ s2.1)) (Nat.blt s2.1.toNat 9) false)
  (guardO (cond (decide (0 ≤ s1.1)) (Nat.blt s1.1.toNat 9) false)
  (Option.bind (s3.2[0 + s2.1.toNat * 9 + s1.1.toNat * 1]?) fun (x14 : Int) =>
  guardO (cond (decide (0 ≤ s1.1)) (Nat.blt s1.1.toNat 9) false)
  (guardO (cond (decide (0 ≤ s3.1)) (Nat.blt s3.1.toNat 9) false)
  (Option.bind (s3.2[0 + s1.1.toNat * 9 + s3.1.toNat * 1]?) fun (x17 : Int) =>
  guardO (cond (decide (0 ≤ s2.1)) (Nat.blt s2.1.toNat 9) false)
  (guardO (cond (decide (0 ≤ s3.1)) (Nat.blt s3.1.toNat 9) false)
  (guardO (Nat.blt (0 + s2.1.toNat * 9 + s3.1.toNat * 1) s3.2.length)
  (some (.next ((w64 (s3.1 + 1)), (s3.2.set (0 + s2.1.toNat * 9 + s3.1.toNat * 1) (max (-1048576) (min x11 (w64 (x14 + x17)))))))))))))))))
    (some (.next ((w64 (s3.1 + 1)), s3.2)))))
    (some (.done s3.2))

def m42_l1 (s1 : Int × (List Int)) (s2 : Int × (List Int)) : Option (LO (Int × (List Int)) (((List Int)))) :=
  cond (decide (s2.1 < 9))
    (Option.bind (loopN (m42_l0 s2 s1) FUEL (0, s2.2)) (fun (o5 : (List Int)) => some (.next ((w64 (s2.1 + 1)), o5))))
    (some (.done s2.2))

def m42_l2  (s1 : Int × (List Int)) : Option (LO (Int × (List Int)) (((List Int)))) :=
  cond (decide (s1.1 < 9))
    (Option.bind (loopN (m42_l1 s1) FUEL (0, s1.2)) (fun (o3 : (List Int)) => some (.next ((w64 (s1.1 + 1)), o3))))
    (some (.done s1.2))

def m42_l3 (o1 : (List Int)) (s1 : Int) : Option (LO Int (Unit ⊕ Bool)) :=
  cond (decide (s1 < 9))
    (guardO (cond (decide (0 ≤ s1)) (Nat.blt s1.toNat 9) false)
  (guardO (cond (decide (0 ≤ s1)) (Nat.blt s1.toNat 9) false)
  (Option.bind (o1[0 + s1.toNat * 9 + s1.toNat * 1]?) fun (x6 : Int) =>
  cond (decide (x6 < 0))
    (some (.done (.inr false)))
    (some (.next (w64 (s1 + 1)))))))
    (some (.done (.inl ())))

/-- (euclid/universe.distances).possible -/
def m42 (a0 : List Int) : Option Bool :=
  Option.bind (loopN (m42_l2) FUEL (0, a0)) (fun (o1 : (List Int)) => Option.bind (loopN (m42_l3 o1) FUEL 0) (Sum.elim (fun (o2 : Unit) => some true) (fun o => some o)))

set_option maxRecDepth 100000 in
set_option maxHeartbeats 8000000 in
theorem m42_ok (a0 : List Int) (r : Bool) (h0 : m42 a0 = some r) : Fun Try.prog 42 [.agg (flatE (a0 : List Int))] (resOf [.one (dB r)]) := by
  unfold m42 at h0
  refine Fun.of_bodyM 9 65 Try.func42 rfl en_42 rfl (lb rfl) (fun S w => ?_)
  simp only [entry]
  refine XC.seq <| XC.region <| XL.put rfl rfl (lb rfl) (OpOK.box rfl) <| rA rfl rfl rfl <| XL.nil <| XQ.seq <| XC.seq <| XC.seq <| XC.region <| rM rfl rfl rfl <| XL.nil <| XQ.seq <| XC.block ?_
  refine XC.joinX 0 (fun (o1 : (List Int)) => ⟨[(1, .v (.one (.ptr 0 0)))], [(0, .cells 70 (flatE o1))], [], 1, 65, []⟩) (fun (o1 : (List Int)) => (Option.bind (loopN (m42_l3 o1) FUEL 0) (Sum.elim (fun (o2 : Unit) => some true) (fun o => some o))) = some r) ?_ ?_
  ·
   refine bindK h0 (fun o2 hl1 h0 => ?_)
   refine XC.loopM (m42_l2) (fun s1 => ⟨[(1, .v (.one (.ptr 0 0))), (7, .v (.one (dI s1.1)))], [(0, .cells 70 (flatE s1.2))], [], 1, 65, []⟩) (0, a0) o2 (stle (tR rfl (tR rfl tZ)) (hR rfl hZ) kZ rfl (Nat.zero_le _) rfl rfl rfl (bF rfl bZ) rfl rfl) hl1 (fun s1 n1 oo1 h1 ho1 => ?_)
   unfold m42_l2 at h1
   refine XC.seq <| XC.region <| rR rfl rfl rfl (RO.binInt rfl rfl rfl) <| XL.nil <| XQ.seq <| XC.seq ?_
   refine XC.cond (b := (decide (s1.1 < 9))) rfl (fun c3 => ?_) (fun c3 => ?_)
   ·
    replace h1 := condT c3 h1
    refine XC.skip <| XQ.seq <| XC.seq <| XC.block <| XC.seq <| XC.region <| rM rfl rfl rfl <| rA rfl rfl rfl <| XL.nil <| XQ.seq <| XC.seq <| XC.region <| rM rfl rfl rfl <| XL.nil ?_
    refine XQ.seq <| XC.block ?_
    refine XC.joinX 2 (fun (o4 : (List Int)) => ⟨[(1, .v (.one (.ptr 0 0))), (7, .v (.one (dI s1.1)))], [(0, .cells 70 (flatE o4))], [], 1, 65, []⟩) (fun (o4 : (List Int)) => (some (.next ((w64 (s1.1 + 1)), o4))) = some oo1) ?_ ?_
    ·
     refine bindK h1 (fun o5 hl2 h1 => ?_)
     refine XC.loopM (m42_l1 s1) (fun s2 => ⟨[(1, .v (.one (.ptr 0 0))), (3, .v (.one (dI s1.1))), (7, .v (.one (dI s1.1))), (10, .v (.one (dI s2.1)))], [(0, .cells 70 (flatE s2.2))], [], 1, 65, []⟩) (0, s1.2) o5 (stle (tR rfl (tR rfl (tR rfl (tR rfl tZ)))) (hR rfl hZ) kZ rfl (Nat.zero_le _) rfl rfl rfl (bF rfl bZ) rfl rfl) hl2 (fun s2 n2 oo2 h2 ho2 => ?_)
     unfold m42_l1 at h2
     refine XC.seq <| XC.region <| rR rfl rfl rfl (RO.binInt rfl rfl rfl) <| XL.nil <| XQ.seq <| XC.seq ?_
     refine XC.cond (b := (decide (s2.1 < 9))) rfl (fun c6 => ?_) (fun c6 => ?_)
     ·
      replace h2 := condT c6 h2
      refine XC.skip <| XQ.seq <| XC.seq <| XC.block <| XC.seq <| XC.region <| rM rfl rfl rfl <| rA rfl rfl rfl <| XL.nil <| XQ.seq <| XC.seq <| XC.region <| rM rfl rfl rfl <| XL.nil ?_
      refine XQ.seq <| XC.block ?_
      refine XC.joinX 4 (fun (o7 : (List Int)) => ⟨[(1, .v (.one (.ptr 0 0))), (3, .v (.one (dI s1.1))), (7, .v (.one (dI s1.1))), (10, .v (.one (dI s2.1)))], [(0, .cells 70 (flatE o7))], [], 1, 65, []⟩) (fun (o7 : (List Int)) => (some (.next ((w64 (s2.1 + 1)), o7))) = some oo2) ?_ ?_
      ·
       refine bindK h2 (fun o8 hl3 h2 => ?_)
       refine XC.loopM (m42_l0 s2 s1) (fun s3 => ⟨[(1, .v (.one (.ptr 0 0))), (3, .v (.one (dI s1.1))), (4, .v (.one (dI s2.1))), (7, .v (.one (dI s1.1))), (10, .v (.one (dI s2.1))), (13, .v (.one (dI s3.1)))], [(0, .cells 70 (flatE s3.2))], [], 1, 65, []⟩) (0, s2.2) o8 (stle (tR rfl (tR rfl (tR rfl (tR rfl (tR rfl (tR rfl tZ)))))) (hR rfl hZ) kZ rfl (Nat.zero_le _) rfl rfl rfl (bF rfl bZ) rfl rfl) hl3 (fun s3 n3 oo3 h3 ho3 => ?_)
       unfold m42_l0 at h3
       refine XC.seq <| XC.region <| rR rfl rfl rfl (RO.binInt rfl rfl rfl) <| XL.nil <| XQ.seq <| XC.seq ?_
       refine XC.cond (b := (decide (s3.1 < 9))) rfl (fun c9 => ?_) (fun c9 => ?_)
       ·
        replace h3 := condT c9 h3
        refine XC.skip <| XQ.seq <| XC.seq <| XC.block <| XC.seq <| XC.region <| rM rfl rfl rfl <| rA rfl rfl rfl <| XL.nil <| XQ.seq <| XC.seq ?_
        refine XC.joinR (fun (v10 : Bool) => ⟨[(1, .v (.one (.ptr 0 0))), (3, .v (.one (dI s1.1))), (4, .v (.one (dI s2.1))), (5, .v (.one (dI s3.1))), (7, .v (.one (dI s1.1))), (10, .v (.one (dI s2.1))), (13, .v (.one (dI s3.1))), (29, .v (.one (dB v10)))], [(0, .cells 70 (flatE s3.2))], [], 1, 65, []⟩) (fun (v10 : Bool) => (cond v10
            (guardO (cond (decide (0 ≤ s2.1)) (Nat.blt s2.1.toNat 9) false)
          (guardO (cond (decide (0 ≤ s3.1)) (Nat.blt s3.1.toNat 9) false)
          (Option.bind (s3.2[0 + s2.1.toNat * 9 + s3.1.toNat * 1]?) fun (x14 : Int) =>
          guardO (cond (decide (0 ≤ s2.1)) (Nat.blt s2.1.toNat 9) false)
          (guardO (cond (decide (0 ≤ s1.1)) (Nat.blt s1.1.toNat 9) false)
          (Option.bind (s3.2[0 + s2.1.toNat * 9 + s1.1.toNat * 1]?) fun (x17 : Int) =>
          guardO (cond (decide (0 ≤ s1.1)) (Nat.blt s1.1.toNat 9) false)
          (guardO (cond (decide (0 ≤ s3.1)) (Nat.blt s3.1.toNat 9) false)
          (Option.bind (s3.2[0 + s1.1.toNat * 9 + s3.1.toNat * 1]?) fun (x20 : Int) =>
          guardO (cond (decide (0 ≤ s2.1)) (Nat.blt s2.1.toNat 9) false)
          (guardO (cond (decide (0 ≤ s3.1)) (Nat.blt s3.1.toNat 9) false)
          (guardO (Nat.blt (0 + s2.1.toNat * 9 + s3.1.toNat * 1) s3.2.length)
          (some (.next ((w64 (s3.1 + 1)), (s3.2.set (0 + s2.1.toNat * 9 + s3.1.toNat * 1) (max (-1048576) (min x14 (w64 (x17 + x20)))))))))))))))))
            (some (.next ((w64 (s3.1 + 1)), s3.2)))) = some oo3) ?_ ?_
        ·
         refine bindK h3 (fun v_ h4 h3 => ?_)
         refine XC.region <| rM rfl rfl rfl <| rM rfl rfl rfl ?_
         refine guardK h4 (fun g11 h4 => ?_)
         refine rR rfl rfl rfl (RO.indexA arr_70 rfl rfl g11) ?_
         refine guardK h4 (fun g12 h4 => ?_)
         refine rR rfl rfl rfl (RO.indexA arr_68 rfl rfl g12) ?_
         refine bindK h4 (fun x13 hx13 h4 => ?_)
         refine rR rfl rfl rfl (RO.loadA ag_3 rfl rfl hx13) <| rR rfl rfl rfl (RO.binInt rfl rfl rfl) <| rM rfl rfl rfl ?_
         refine XL.case (d := 22) (c := (decide (x13 < 1048576))) rfl (fun c14 => ?_) (fun c14 => ?_)
         ·
          replace h4 := condT c14 h4
          refine rM rfl rfl rfl <| rM rfl rfl rfl ?_
          refine guardK h4 (fun g15 h4 => ?_)
          refine rR rfl rfl rfl (RO.indexA arr_70 rfl rfl g15) ?_
          refine guardK h4 (fun g16 h4 => ?_)
          refine rR rfl rfl rfl (RO.indexA arr_68 rfl rfl g16) ?_
          refine bindK h4 (fun x17 hx17 h4 => ?_)
          refine rR rfl rfl rfl (RO.loadA ag_3 rfl rfl hx17) <| rR rfl rfl rfl (RO.binInt rfl rfl rfl) <| rR rfl rfl rfl (RO.pickT rfl rfl) <| XL.nil ?_
          have e_ := Option.some.inj h4
          subst e_
          exact XQ.joinR (decide (x17 < 1048576)) (stle (tR rfl (tR rfl (tR rfl (tR rfl (tR rfl (tR rfl (tR rfl (tR rfl tZ)))))))) (hR rfl hZ) kZ rfl (Nat.zero_le _) rfl rfl rfl (bF rfl bZ) rfl rfl) h3
         ·
          replace h4 := condF c14 h4
          refine XL.no rfl rfl <| XL.no rfl rfl <| XL.no rfl rfl <| XL.no rfl rfl <| XL.no rfl rfl <| XL.no rfl rfl <| rR rfl rfl rfl (RO.pickF rfl rfl) <| XL.nil ?_
          have e_ := Option.some.inj h4
          subst e_
          exact XQ.joinR false (stle (tR rfl (tR rfl (tR rfl (tR rfl (tR rfl (tR rfl (tR rfl (tR rfl tZ)))))))) (hR rfl hZ) kZ rfl (Nat.zero_le _) rfl rfl rfl (bF rfl bZ) rfl rfl) h3
        ·
         intro v10 h3
         refine XQ.seq ?_
         refine XC.cond (b := v10) rfl (fun c18 => ?_) (fun c18 => ?_)
         ·
          replace h3 := condT c18 h3
          refine XC.anyRun [22] [] mixed (by kernel_rfl) (by kernel_rfl) (by kernel_rfl) ?_
          refine RunA.rd rfl rfl rfl (OpOK.of_ro (RO.move rfl)) rfl <| RunA.rd rfl rfl rfl (OpOK.of_ro (RO.move rfl)) rfl <| RunA.rd rfl rfl rfl (OpOK.of_ro (RO.move rfl)) rfl <| RunA.rd rfl rfl rfl (OpOK.of_ro (RO.move rfl)) rfl ?_
          refine guardK h3 (fun g19 h3 => ?_)
          refine RunA.rd rfl rfl rfl (OpOK.of_ro (RO.indexA arr_70 rfl rfl g19)) rfl ?_
          refine guardK h3 (fun g20 h3 => ?_)
          refine RunA.rd rfl rfl rfl (OpOK.of_ro (RO.indexA arr_68 rfl rfl g20)) rfl ?_
          refine bindK h3 (fun x21 hx21 h3 => ?_)
          refine RunA.rd rfl rfl rfl (OpOK.of_ro (RO.loadA ag_3 rfl rfl hx21)) rfl <| RunA.rd rfl rfl rfl (OpOK.of_ro (RO.move rfl)) rfl <| RunA.rd rfl rfl rfl (OpOK.of_ro (RO.move rfl)) rfl ?_
          refine guardK h3 (fun g22 h3 => ?_)
          refine RunA.rd rfl rfl rfl (OpOK.of_ro (RO.indexA arr_70 rfl rfl g22)) rfl ?_
          refine guardK h3 (fun g23 h3 => ?_)
          refine RunA.rd rfl rfl rfl (OpOK.of_ro (RO.indexA arr_68 rfl rfl g23)) rfl ?_
          refine bindK h3 (fun x24 hx24 h3 => ?_)
          refine RunA.rd rfl rfl rfl (OpOK.of_ro (RO.loadA ag_3 rfl rfl hx24)) rfl <| RunA.rd rfl rfl rfl (OpOK.of_ro (RO.move rfl)) rfl <| RunA.rd rfl rfl rfl (OpOK.of_ro (RO.move rfl)) rfl ?_
          refine guardK h3 (fun g25 h3 => ?_)
          refine RunA.rd rfl rfl rfl (OpOK.of_ro (RO.indexA arr_70 rfl rfl g25)) rfl ?_
          refine guardK h3 (fun g26 h3 => ?_)
          refine RunA.rd rfl rfl rfl (OpOK.of_ro (RO.indexA arr_68 rfl rfl g26)) rfl ?_
          refine bindK h3 (fun x27 hx27 h3 => ?_)
          refine RunA.rd rfl rfl rfl (OpOK.of_ro (RO.loadA ag_3 rfl rfl hx27)) rfl <| RunA.rd rfl rfl rfl (OpOK.of_ro (RO.binInt rfl rfl rfl)) rfl <| RunA.rd rfl rfl rfl (OpOK.of_ro (RO.min2 rfl rfl)) rfl <| RunA.rd rfl rfl rfl (OpOK.of_ro (RO.max2 rfl rfl)) rfl ?_
          refine guardK h3 (fun g28 h3 => ?_)
          refine RunA.rd rfl rfl rfl (OpOK.of_ro (RO.indexA arr_70 rfl rfl g28)) rfl ?_
          refine guardK h3 (fun g29 h3 => ?_)
          refine RunA.rd rfl rfl rfl (OpOK.of_ro (RO.indexA arr_68 rfl rfl g29)) rfl ?_
          refine guardK h3 (fun g30 h3 => ?_)
          refine RunA.eff rfl rfl rfl (OpOK.storeA ag_3 rfl rfl rfl g30 rfl) rfl ?_
          refine RunA.nil ⟨?ex, _, _, rfl, ?_⟩
          case ex => exact trivial
          refine XQ.less (st' := ⟨[(1, .v (.one (.ptr 0 0))), (3, .v (.one (dI s1.1))), (4, .v (.one (dI s2.1))), (7, .v (.one (dI s1.1))), (10, .v (.one (dI s2.1))), (13, .v (.one (dI s3.1)))], [(0, .cells 70 (flatE ((s3.2.set (0 + s2.1.toNat * 9 + s3.1.toNat * 1) (max (-1048576) (min x21 (w64 (x24 + x27))))) : List Int)))], [], 1, 65, []⟩) (stle (tR rfl (tR rfl (tR rfl (tR rfl (tR rfl (tR rfl tZ)))))) (hR rfl hZ) kZ rfl (Nat.zero_le _) rfl rfl rfl (bF rfl bZ) rfl rfl) <| XQ.inBlock <| XQ.seq <| XC.region <| rR rfl rfl rfl (RO.binInt rfl rfl rfl) <| rM rfl rfl rfl <| XL.nil ?_
          have e_ := Option.some.inj h3
          subst e_
          refine XQ.nextM ((w64 (s3.1 + 1)), (s3.2.set (0 + s2.1.toNat * 9 + s3.1.toNat * 1) (max (-1048576) (min x21 (w64 (x24 + x27)))))) (stle (tR rfl (tR rfl (tR rfl (tR rfl (tR rfl (tR rfl tZ)))))) (hR rfl hZ) kZ rfl (Nat.zero_le _) rfl rfl rfl (bF rfl bZ) rfl rfl) ho3
         ·
          replace h3 := condF c18 h3
          refine XC.skip <| XQ.inBlock <| XQ.seq <| XC.region <| rR rfl rfl rfl (RO.binInt rfl rfl rfl) <| rM rfl rfl rfl <| XL.nil ?_
          have e_ := Option.some.inj h3
          subst e_
          refine XQ.nextM ((w64 (s3.1 + 1)), s3.2) (stle (tR rfl (tR rfl (tR rfl (tR rfl (tR rfl (tR rfl tZ)))))) (hR rfl hZ) kZ rfl (Nat.zero_le _) rfl rfl rfl (bF rfl bZ) rfl rfl) ho3
       ·
        replace h3 := condF c9 h3
        refine XC.exit <| XQ.thenE <| XQ.thenE ?_
        have e_ := Option.some.inj h3
        subst e_
        have e_ : _ = _ := ho3
        subst e_
        exact XQ.joinX s3.2 (stle (tR rfl (tR rfl (tR rfl (tR rfl tZ)))) (hR rfl hZ) kZ rfl (Nat.zero_le _) rfl rfl rfl (bF rfl bZ) rfl rfl) h2
      ·
       intro o7 h2
       refine XQ.blockX <| XQ.inBlock <| XQ.seq <| XC.region <| rR rfl rfl rfl (RO.binInt rfl rfl rfl) <| rM rfl rfl rfl <| XL.nil ?_
       have e_ := Option.some.inj h2
       subst e_
       refine XQ.nextM ((w64 (s2.1 + 1)), o7) (stle (tR rfl (tR rfl (tR rfl (tR rfl tZ)))) (hR rfl hZ) kZ rfl (Nat.zero_le _) rfl rfl rfl (bF rfl bZ) rfl rfl) ho2
     ·
      replace h2 := condF c6 h2
      refine XC.exit <| XQ.thenE <| XQ.thenE ?_
      have e_ := Option.some.inj h2
      subst e_
      have e_ : _ = _ := ho2
      subst e_
      exact XQ.joinX s2.2 (stle (tR rfl (tR rfl tZ)) (hR rfl hZ) kZ rfl (Nat.zero_le _) rfl rfl rfl (bF rfl bZ) rfl rfl) h1
    ·
     intro o4 h1
     refine XQ.blockX <| XQ.inBlock <| XQ.seq <| XC.region <| rR rfl rfl rfl (RO.binInt rfl rfl rfl) <| rM rfl rfl rfl <| XL.nil ?_
     have e_ := Option.some.inj h1
     subst e_
     refine XQ.nextM ((w64 (s1.1 + 1)), o4) (stle (tR rfl (tR rfl tZ)) (hR rfl hZ) kZ rfl (Nat.zero_le _) rfl rfl rfl (bF rfl bZ) rfl rfl) ho1
   ·
    replace h1 := condF c3 h1
    refine XC.exit <| XQ.thenE <| XQ.thenE ?_
    have e_ := Option.some.inj h1
    subst e_
    have e_ : _ = _ := ho1
    subst e_
    exact XQ.joinX s1.2 (stle (tR rfl tZ) (hR rfl hZ) kZ rfl (Nat.zero_le _) rfl rfl rfl (bF rfl bZ) rfl rfl) h0
  ·
   intro o1 h0
   refine XQ.blockX <| XQ.seq <| XC.seq <| XC.seq <| XC.region <| rM rfl rfl rfl <| XL.nil <| XQ.seq <| XC.block ?_
   refine XC.joinX 6 (fun (o31 : Unit) => ⟨[], [(0, .cells 70 (flatE o1))], [], 1, 65, []⟩) (fun (o31 : Unit) => (some true) = some r) ?_ ?_
   ·
    refine bindK h0 (fun o32 hl1 h0 => ?_)
    refine XC.loopM (m42_l3 o1) (fun s1 => ⟨[(1, .v (.one (.ptr 0 0))), (55, .v (.one (dI s1)))], [(0, .cells 70 (flatE o1))], [], 1, 65, []⟩) 0 o32 (stle (tR rfl (tR rfl tZ)) (hR rfl hZ) kZ rfl (Nat.zero_le _) rfl rfl rfl (bF rfl bZ) rfl rfl) hl1 (fun s1 n1 oo1 h1 ho1 => ?_)
    unfold m42_l3 at h1
    refine XC.seq <| XC.region <| rR rfl rfl rfl (RO.binInt rfl rfl rfl) <| XL.nil <| XQ.seq <| XC.seq ?_
    refine XC.cond (b := (decide (s1 < 9))) rfl (fun c33 => ?_) (fun c33 => ?_)
    ·
     replace h1 := condT c33 h1
     refine XC.skip <| XQ.seq <| XC.seq <| XC.block <| XC.seq <| XC.region <| rM rfl rfl rfl <| rA rfl rfl rfl <| XL.nil <| XQ.seq <| XC.seq <| XC.region <| rM rfl rfl rfl <| rM rfl rfl rfl ?_
     refine guardK h1 (fun g34 h1 => ?_)
     refine rR rfl rfl rfl (RO.indexA arr_70 rfl rfl g34) ?_
     refine guardK h1 (fun g35 h1 => ?_)
     refine rR rfl rfl rfl (RO.indexA arr_68 rfl rfl g35) ?_
     refine bindK h1 (fun x36 hx36 h1 => ?_)
     refine rR rfl rfl rfl (RO.loadA ag_3 rfl rfl hx36) <| rR rfl rfl rfl (RO.binInt rfl rfl rfl) <| XL.nil <| XQ.seq ?_
     refine XC.cond (b := (decide (x36 < 0))) rfl (fun c37 => ?_) (fun c37 => ?_)
     ·
      replace h1 := condT c37 h1
      refine XC.seq <| XC.region <| rA rfl rfl rfl <| XL.nil <| XQ.seq <| XC.ret ?_
      have e_ := Option.some.inj h1
      subst e_
      have e_ : _ = _ := ho1
      subst e_
      try dsimp only [Sum.elim_inl, Sum.elim_inr] at h0
      have e_ := Option.some.inj h0
      subst e_
      exact XQ.retF (fun _ _ h => h) rfl (RAs.tmp rfl .nil) (.cons (.one (.d _)) .nil)
     ·
      replace h1 := condF c37 h1
      refine XC.skip <| XQ.inBlock <| XQ.seq <| XC.region <| rR rfl rfl rfl (RO.binInt rfl rfl rfl) <| rM rfl rfl rfl <| XL.nil ?_
      have e_ := Option.some.inj h1
      subst e_
      refine XQ.nextM (w64 (s1 + 1)) (stle (tR rfl (tR rfl tZ)) (hR rfl hZ) kZ rfl (Nat.zero_le _) rfl rfl rfl (bF rfl bZ) rfl rfl) ho1
    ·
     replace h1 := condF c33 h1
     refine XC.exit <| XQ.thenE <| XQ.thenE ?_
     have e_ := Option.some.inj h1
     subst e_
     have e_ : _ = _ := ho1
     subst e_
     exact XQ.joinX () (stle tZ (hR rfl hZ) kZ rfl (Nat.zero_le _) rfl rfl rfl (bF rfl bZ) rfl rfl) h0
   ·
    intro o31 h0
    refine XQ.blockX <| XQ.seq <| XC.seq <| XC.region <| rA rfl rfl rfl <| XL.nil <| XQ.seq <| XC.ret ?_
    have e_ := Option.some.inj h0
    subst e_
    exact XQ.retF (fun _ _ h => h) rfl (RAs.tmp rfl .nil) (.cons (.one (.d _)) .nil)
end Go.Proofs.Ytkimijmiphkddaa
