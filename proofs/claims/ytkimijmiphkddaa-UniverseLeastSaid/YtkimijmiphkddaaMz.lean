/- Mirrors of layer 2: bounds of one metavariable. -/
import Derived.Test.YtkimijmiphkddaaMt
namespace Go.Proofs.Ytkimijmiphkddaa
open Go.RowKit Go.Shelf
set_option linter.unusedSimpArgs false
set_option linter.unusedVariables false

theorem en_22 : Enters Try.prog 22 := enters_of Try.func22 (by kernel_rfl) rfl
def m22_l0 (a0 : List Bnd) (s1 : Int) (s2 : Int × Int) : Option (LO (Int × Int) Int) :=
  Option.bind (idx a0 s1) fun (x4 : Bnd) =>
  cond (decide (s2.2 < (x4.hi.vs.length : Int)))
    (Option.bind (idx a0 s1) fun (x6 : Bnd) =>
  Option.bind (idx x6.hi.vs s2.2) fun (x7 : LV) =>
  cond (decide (x7.1 < 0))
    (some (.next ((w64 (s2.1 + 1)), (w64 (s2.2 + 1)))))
    (some (.next (s2.1, (w64 (s2.2 + 1))))))
    (some (.done s2.1))

def m22_l1 (a0 : List Bnd) (s1 : Int) : Option (LO Int (Unit ⊕ Bool)) :=
  cond (decide (s1 < (a0.length : Int)))
    (Option.bind (loopN (m22_l0 a0 s1) FUEL (0, 0)) (fun (o3 : Int) => cond (decide (1 < o3))
    (some (.done (.inr false)))
    (some (.next (w64 (s1 + 1))))))
    (some (.done (.inl ())))

/-- euclid/euclidlaw02.single -/
def m22 (a0 : List Bnd) : Option Bool :=
  Option.bind (loopN (m22_l1 a0) FUEL 0) (Sum.elim (fun (o1 : Unit) => some true) (fun o => some o))

set_option maxRecDepth 100000 in
set_option maxHeartbeats 8000000 in
theorem m22_ok (a0 : List Bnd) (r : Bool) (h0 : m22 a0 = some r) : Fun Try.prog 22 [.one (dS a0)] (resOf [.one (dB r)]) := by
  unfold m22 at h0
  refine Fun.of_bodyM 9 38 Try.func22 rfl en_22 rfl (lb rfl) (fun S w => ?_)
  simp only [entry]
  refine XC.seq <| XC.region <| rA rfl rfl rfl <| XL.nil <| XQ.seq <| XC.seq <| XC.seq <| XC.region <| rA rfl rfl rfl <| XL.nil <| XQ.seq <| XC.block ?_
  refine XC.joinX 0 (fun (o1 : Unit) => ⟨[], [], [], 0, 38, []⟩) (fun (o1 : Unit) => (some true) = some r) ?_ ?_
  ·
   refine bindK h0 (fun o2 hl1 h0 => ?_)
   refine XC.loopM (m22_l1 a0) (fun s1 => ⟨[(0, .v (.one (dS a0))), (3, .v (.one (dI s1)))], [], [], 0, 38, []⟩) 0 o2 (stle (tR rfl (tR rfl tZ)) hZ kZ rfl (Nat.zero_le _) rfl rfl rfl bZ rfl rfl) hl1 (fun s1 n1 oo1 h1 ho1 => ?_)
   unfold m22_l1 at h1
   refine XC.seq <| XC.seq <| XC.region <| rM rfl rfl rfl <| rM rfl rfl rfl <| rR rfl rfl rfl (RO.lenE (α := Bnd) sl_22 rfl (.d _)) <| rR rfl rfl rfl (RO.binInt rfl rfl rfl) <| XL.nil <| XQ.seq ?_
   refine XC.cond (b := (decide (s1 < (a0.length : Int)))) rfl (fun c3 => ?_) (fun c3 => ?_)
   ·
    replace h1 := condT c3 h1
    refine XC.skip <| XQ.seq <| XC.seq <| XC.block <| XC.seq <| XC.region <| rA rfl rfl rfl <| XL.nil <| XQ.seq <| XC.seq <| XC.seq <| XC.region <| rA rfl rfl rfl <| XL.nil ?_
    refine XQ.seq <| XC.block ?_
    refine XC.joinX 2 (fun (o4 : Int) => ⟨[(0, .v (.one (dS a0))), (3, .v (.one (dI s1))), (4, .v (.one (dI o4)))], [], [], 0, 38, []⟩) (fun (o4 : Int) => (cond (decide (1 < o4))
        (some (.done (.inr false)))
        (some (.next (w64 (s1 + 1))))) = some oo1) ?_ ?_
    ·
     refine bindK h1 (fun o5 hl2 h1 => ?_)
     refine XC.loopM (m22_l0 a0 s1) (fun s2 => ⟨[(0, .v (.one (dS a0))), (3, .v (.one (dI s1))), (4, .v (.one (dI s2.1))), (5, .v (.one (dI s2.2)))], [], [], 0, 38, []⟩) (0, 0) o5 (stle (tR rfl (tR rfl (tR rfl (tR rfl tZ)))) hZ kZ rfl (Nat.zero_le _) rfl rfl rfl bZ rfl rfl) hl2 (fun s2 n2 oo2 h2 ho2 => ?_)
     unfold m22_l0 at h2
     refine XC.seq <| XC.seq <| XC.region <| rM rfl rfl rfl <| rM rfl rfl rfl <| rM rfl rfl rfl ?_
     refine bindK h2 (fun x6 hx6 h2 => ?_)
     refine rR rfl rfl rfl (RO.indexE (α := Bnd) sl_22 rfl (.d _) rfl hx6) <| rR rfl rfl rfl (RO.fieldPel fo_41_1 rfl) <| rR rfl rfl rfl (RO.fieldPel fo_39_1 rfl) <| rR rfl rfl rfl (RO.loadPel ag_37 rfl rfl) <| rR rfl rfl rfl (RO.lenE (α := LV) sl_37 rfl (.d _)) <| rR rfl rfl rfl (RO.binInt rfl rfl rfl) <| XL.nil <| XQ.seq ?_
     refine XC.cond (b := (decide (s2.2 < (x6.hi.vs.length : Int)))) rfl (fun c7 => ?_) (fun c7 => ?_)
     ·
      replace h2 := condT c7 h2
      refine XC.skip <| XQ.seq <| XC.seq <| XC.block <| XC.seq <| XC.region <| rM rfl rfl rfl <| rM rfl rfl rfl ?_
      refine bindK h2 (fun x8 hx8 h2 => ?_)
      refine rR rfl rfl rfl (RO.indexE (α := Bnd) sl_22 rfl (.d _) rfl hx8) <| rR rfl rfl rfl (RO.fieldPel fo_41_1 rfl) <| rR rfl rfl rfl (RO.fieldPel fo_39_1 rfl) <| rR rfl rfl rfl (RO.loadPel ag_37 rfl rfl) <| rM rfl rfl rfl ?_
      refine bindK h2 (fun x9 hx9 h2 => ?_)
      refine rR rfl rfl rfl (RO.indexE (α := LV) sl_37 rfl (.d _) rfl hx9) <| rR rfl rfl rfl (RO.fieldPel fo_59_0 rfl) <| rR rfl rfl rfl (RO.loadPel ag_3 rfl rfl) <| rR rfl rfl rfl (RO.binInt rfl rfl rfl) <| XL.nil <| XQ.seq ?_
      refine XC.cond (b := (decide (x9.1 < 0))) rfl (fun c10 => ?_) (fun c10 => ?_)
      ·
       replace h2 := condT c10 h2
       refine XC.region <| rM rfl rfl rfl <| rR rfl rfl rfl (RO.binInt rfl rfl rfl) <| rA rfl rfl rfl <| XL.nil <| XQ.inBlock <| XQ.seq <| XC.region <| rM rfl rfl rfl <| rR rfl rfl rfl (RO.binInt rfl rfl rfl) <| rA rfl rfl rfl <| XL.nil ?_
       have e_ := Option.some.inj h2
       subst e_
       refine XQ.nextM ((w64 (s2.1 + 1)), (w64 (s2.2 + 1))) (stle (tR rfl (tR rfl (tR rfl (tR rfl tZ)))) hZ kZ rfl (Nat.zero_le _) rfl rfl rfl bZ rfl rfl) ho2
      ·
       replace h2 := condF c10 h2
       refine XC.skip <| XQ.inBlock <| XQ.seq <| XC.region <| rM rfl rfl rfl <| rR rfl rfl rfl (RO.binInt rfl rfl rfl) <| rA rfl rfl rfl <| XL.nil ?_
       have e_ := Option.some.inj h2
       subst e_
       refine XQ.nextM (s2.1, (w64 (s2.2 + 1))) (stle (tR rfl (tR rfl (tR rfl (tR rfl tZ)))) hZ kZ rfl (Nat.zero_le _) rfl rfl rfl bZ rfl rfl) ho2
     ·
      replace h2 := condF c7 h2
      refine XC.exit <| XQ.thenE <| XQ.thenE ?_
      have e_ := Option.some.inj h2
      subst e_
      have e_ : _ = _ := ho2
      subst e_
      exact XQ.joinX s2.1 (stle (tR rfl (tR rfl (tR rfl tZ))) hZ kZ rfl (Nat.zero_le _) rfl rfl rfl bZ rfl rfl) h1
    ·
     intro o4 h1
     refine XQ.blockX <| XQ.seq <| XC.seq <| XC.region <| rM rfl rfl rfl <| rR rfl rfl rfl (RO.binInt rfl rfl rfl) <| XL.nil <| XQ.seq ?_
     refine XC.cond (b := (decide (1 < o4))) rfl (fun c11 => ?_) (fun c11 => ?_)
     ·
      replace h1 := condT c11 h1
      refine XC.seq <| XC.region <| rA rfl rfl rfl <| XL.nil <| XQ.seq <| XC.ret ?_
      have e_ := Option.some.inj h1
      subst e_
      have e_ : _ = _ := ho1
      subst e_
      try dsimp only [Sum.elim_inl, Sum.elim_inr] at h0
      have e_ := Option.some.inj h0
      subst e_
      exact XQ.retF (fun _ _ h => h) rfl (RAs.tmp rfl .nil) (.cons (.one (.d _)) .nil)
     ·
      replace h1 := condF c11 h1
      refine XC.skip <| XQ.inBlock <| XQ.seq <| XC.region <| rM rfl rfl rfl <| rR rfl rfl rfl (RO.binInt rfl rfl rfl) <| rA rfl rfl rfl <| XL.nil ?_
      have e_ := Option.some.inj h1
      subst e_
      refine XQ.nextM (w64 (s1 + 1)) (stle (tR rfl (tR rfl tZ)) hZ kZ rfl (Nat.zero_le _) rfl rfl rfl bZ rfl rfl) ho1
   ·
    replace h1 := condF c3 h1
    refine XC.exit <| XQ.thenE <| XQ.thenE ?_
    have e_ := Option.some.inj h1
    subst e_
    have e_ : _ = _ := ho1
    subst e_
    exact XQ.joinX () (stle tZ hZ kZ rfl (Nat.zero_le _) rfl rfl rfl bZ rfl rfl) h0
  ·
   intro o1 h0
   refine XQ.blockX <| XQ.seq <| XC.seq <| XC.region <| rA rfl rfl rfl <| XL.nil <| XQ.seq <| XC.ret ?_
   have e_ := Option.some.inj h0
   subst e_
   exact XQ.retF (fun _ _ h => h) rfl (RAs.tmp rfl .nil) (.cons (.one (.d _)) .nil)
end Go.Proofs.Ytkimijmiphkddaa
