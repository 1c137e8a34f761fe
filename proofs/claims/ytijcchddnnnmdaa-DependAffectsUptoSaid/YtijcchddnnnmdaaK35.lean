/- Part 5 of the proof: rules, mirrors and plain laws. The statement DependAffectsUpto is proved here: for every list of declarations and every list of names the law returns true, and the arguments read behind the call as they did before; condition: the arguments are of bulk at most 1048576 (the second form). -/
import Derived.Test.YtijcchddnnnmdaaK34
namespace Go.Proofs.Ytijcchddnnnmdaa
open Go.RowKit Go.Shelf
set_option linter.unusedSimpArgs false
set_option linter.unusedVariables false
theorem st_9 : isStrTy Try.prog 9 = true := by kernel_rfl
theorem en_9 : Enters Try.prog 9 := enters_of Try.func9 (by kernel_rfl) rfl
theorem en_30 : Enters Try.prog 30 := enters_of Try.func30 (by kernel_rfl) rfl
theorem en_50 : Enters Try.prog 50 := enters_of Try.func50 (by kernel_rfl) rfl
theorem en_51 : Enters Try.prog 51 := enters_of Try.func51 (by kernel_rfl) rfl
theorem en_65 : Enters Try.prog 65 := enters_of Try.func65 (by kernel_rfl) rfl
theorem en_66 : Enters Try.prog 66 := enters_of Try.func66 (by kernel_rfl) rfl
def m65_l0 (a0 : Tm) (rc : Tm → Option Int) (s1 : Int × Int) : Option (LO (Int × Int) Int) :=
  cond (decide (s1.2 < (a0.kids.length : Int)))
    (Option.bind (idx a0.kids s1.2) fun (x3 : Tm) =>
  Option.bind (rc x3) fun (x4 : Int) =>
  some (.next ((w64 (s1.1 + x4)), (w64 (s1.2 + 1)))))
    (some (.done s1.1))
def m65s (rc : Tm → Option Int) (a0 : Tm) : Option Int :=
  Option.bind (loopN (m65_l0 a0 rc) FUEL (1, 0)) (fun (o1 : Int) => some o1)
def m65F (rc : Tm → Option Int) (u : Tm) : Option Int := m65s rc u
def m65 (a0 : Tm) : Option Int := recO m65F FUEL a0
set_option maxRecDepth 100000 in
set_option maxHeartbeats 2000000 in
theorem m65s_ok (rc : Tm → Option Int) (H : ∀ (a0 : Tm) (r : Int), rc a0 = some r → Fun Try.prog 65 [.agg (cE a0)] (resOf [.one (dI r)])) (a0 : Tm) (r : Int) (h0 : m65s rc a0 = some r) : Fun Try.prog 65 [.agg (cE a0)] (resOf [.one (dI r)]) := by
  unfold m65s at h0
  refine Fun.of_bodyM 9 21 Try.func65 rfl en_65 rfl (lb rfl) (fun S w => ?_)
  simp only [entry]
  refine XC.seq <| XC.region <| XL.put rfl rfl (lb rfl) (OpOK.box rfl) <| rA rfl rfl rfl <| XL.nil <| XQ.seq <| XC.seq <| XC.region <| rA rfl rfl rfl <| XL.nil <| XQ.seq <| XC.seq <| XC.seq <| XC.region ?_
  refine rA rfl rfl rfl <| XL.nil <| XQ.seq <| XC.block ?_
  refine XC.joinX 0 (fun (o1 : Int) => ⟨[(3, .v (.one (dI o1)))], [(0, .cells 42 (cE a0))], [], 1, 21, []⟩) (fun (o1 : Int) => (some o1) = some r) ?_ ?_
  ·
   refine bindK h0 (fun o2 hl1 h0 => ?_)
   refine XC.loopM (m65_l0 a0 rc) (fun s1 => ⟨[(1, .v (.one (.ptr 0 0))), (3, .v (.one (dI s1.1))), (4, .v (.one (dI s1.2)))], [(0, .cells 42 (cE a0))], [], 1, 21, []⟩) (1, 0) o2 (stle (tR rfl (tR rfl (tR rfl tZ))) (hR rfl hZ) kZ rfl (Nat.zero_le _) rfl rfl rfl (bB rfl rfl bZ) rfl rfl) hl1 (fun s1 n1 oo1 h1 ho1 => ?_)
   unfold m65_l0 at h1
   refine XC.seq <| XC.seq <| XC.region <| rM rfl rfl rfl <| rR rfl rfl rfl (RO.fieldOwn fo_42_4 rfl) <| rR rfl rfl rfl (RO.loadOwn ag_40 rfl rfl rfl) <| rR rfl rfl rfl (RO.lenE (α := Tm) sl_40 rfl (.d _)) <| rR rfl rfl rfl (RO.binInt rfl rfl rfl) <| XL.nil <| XQ.seq ?_
   refine XC.cond (b := (decide (s1.2 < (a0.kids.length : Int)))) rfl (fun c3 => ?_) (fun c3 => ?_)
   ·
    replace h1 := condT c3 h1
    refine XC.skip <| XQ.seq <| XC.seq <| XC.block <| XC.region <| rM rfl rfl rfl <| rR rfl rfl rfl (RO.fieldOwn fo_42_4 rfl) <| rR rfl rfl rfl (RO.loadOwn ag_40 rfl rfl rfl) <| rM rfl rfl rfl ?_
    refine bindK h1 (fun x4 hx4 h1 => ?_)
    refine rR rfl rfl rfl (RO.indexE (α := Tm) sl_40 rfl (.d _) rfl hx4) <| rR rfl rfl rfl (RO.loadPelCE (x4 : Tm) ag_42 rfl) ?_
    refine bindK h1 (fun x5 hx5 h1 => ?_)
    refine XL.put rfl rfl (lb rfl) (OpOK.callFun (H x4 x5 hx5) rfl (.cons (.agg (.cons (.d _) (.cons (.d _) (.cons (.d _) (.cons (.d _) (.cons (.d _) .nil)))))) .nil)) <| rR rfl rfl rfl (RO.binInt rfl rfl rfl) <| rA rfl rfl rfl <| XL.nil <| XQ.inBlock <| XQ.seq <| XC.region <| rM rfl rfl rfl <| rR rfl rfl rfl (RO.binInt rfl rfl rfl) <| rA rfl rfl rfl <| XL.nil ?_
    have e_ := Option.some.inj h1
    subst e_
    refine XQ.nextM ((w64 (s1.1 + x5)), (w64 (s1.2 + 1))) (stle (tR rfl (tR rfl (tR rfl tZ))) (hR rfl hZ) kZ rfl (Nat.zero_le _) rfl rfl rfl (bB rfl rfl bZ) rfl rfl) ho1
   ·
    replace h1 := condF c3 h1
    refine XC.exit <| XQ.thenE <| XQ.thenE ?_
    have e_ := Option.some.inj h1
    subst e_
    have e_ : _ = _ := ho1
    subst e_
    exact XQ.joinX s1.1 (stle (tR rfl tZ) (hR rfl hZ) kZ rfl (Nat.zero_le _) rfl rfl rfl (bB rfl rfl bZ) rfl rfl) h0
  ·
   intro o1 h0
   refine XQ.blockX <| XQ.seq <| XC.seq <| XC.region <| rM rfl rfl rfl <| rA rfl rfl rfl <| XL.nil <| XQ.seq <| XC.ret ?_
   have e_ := Option.some.inj h0
   subst e_
   exact XQ.retF (fun _ _ h => h) rfl (RAs.tmp rfl .nil) (.cons (.one (.d _)) .nil)
theorem m65_all (n : Nat) (u : Tm) (r : Int) (h0 : recO m65F n u = some r) : Fun Try.prog 65 [.agg (cE u)] (resOf [.one (dI r)]) :=
  recO_ind (C := fun u r => Fun Try.prog 65 [.agg (cE u)] (resOf [.one (dI r)])) (fun rc H u r h => m65s_ok rc (fun a0 r h => H a0 r h) u r h) n u r h0
theorem m65_ok (a0 : Tm) (r : Int) (h0 : m65 a0 = some r) : Fun Try.prog 65 [.agg (cE a0)] (resOf [.one (dI r)]) := m65_all FUEL a0 r h0
def m66_l0 (a0 : Tm) (rc : Tm → Option Int) (s1 : Int × Int) : Option (LO (Int × Int) Int) :=
  cond (decide (s1.2 < (a0.kids.length : Int)))
    (Option.bind (idx a0.kids s1.2) fun (x3 : Tm) =>
  Option.bind (rc x3) fun (x4 : Int) =>
  some (.next ((max s1.1 x4), (w64 (s1.2 + 1)))))
    (some (.done s1.1))
def m66s (rc : Tm → Option Int) (a0 : Tm) : Option Int :=
  Option.bind (loopN (m66_l0 a0 rc) FUEL (0, 0)) (fun (o1 : Int) => some (w64 (o1 + 1)))
def m66F (rc : Tm → Option Int) (u : Tm) : Option Int := m66s rc u
def m66 (a0 : Tm) : Option Int := recO m66F FUEL a0
set_option maxRecDepth 100000 in
set_option maxHeartbeats 2000000 in
theorem m66s_ok (rc : Tm → Option Int) (H : ∀ (a0 : Tm) (r : Int), rc a0 = some r → Fun Try.prog 66 [.agg (cE a0)] (resOf [.one (dI r)])) (a0 : Tm) (r : Int) (h0 : m66s rc a0 = some r) : Fun Try.prog 66 [.agg (cE a0)] (resOf [.one (dI r)]) := by
  unfold m66s at h0
  refine Fun.of_bodyM 9 22 Try.func66 rfl en_66 rfl (lb rfl) (fun S w => ?_)
  simp only [entry]
  refine XC.seq <| XC.region <| XL.put rfl rfl (lb rfl) (OpOK.box rfl) <| rA rfl rfl rfl <| XL.nil <| XQ.seq <| XC.seq <| XC.region <| rA rfl rfl rfl <| XL.nil <| XQ.seq <| XC.seq <| XC.seq <| XC.region ?_
  refine rA rfl rfl rfl <| XL.nil <| XQ.seq <| XC.block ?_
  refine XC.joinX 0 (fun (o1 : Int) => ⟨[(3, .v (.one (dI o1)))], [(0, .cells 42 (cE a0))], [], 1, 22, []⟩) (fun (o1 : Int) => (some (w64 (o1 + 1))) = some r) ?_ ?_
  ·
   refine bindK h0 (fun o2 hl1 h0 => ?_)
   refine XC.loopM (m66_l0 a0 rc) (fun s1 => ⟨[(1, .v (.one (.ptr 0 0))), (3, .v (.one (dI s1.1))), (4, .v (.one (dI s1.2)))], [(0, .cells 42 (cE a0))], [], 1, 22, []⟩) (0, 0) o2 (stle (tR rfl (tR rfl (tR rfl tZ))) (hR rfl hZ) kZ rfl (Nat.zero_le _) rfl rfl rfl (bB rfl rfl bZ) rfl rfl) hl1 (fun s1 n1 oo1 h1 ho1 => ?_)
   unfold m66_l0 at h1
   refine XC.seq <| XC.seq <| XC.region <| rM rfl rfl rfl <| rR rfl rfl rfl (RO.fieldOwn fo_42_4 rfl) <| rR rfl rfl rfl (RO.loadOwn ag_40 rfl rfl rfl) <| rR rfl rfl rfl (RO.lenE (α := Tm) sl_40 rfl (.d _)) <| rR rfl rfl rfl (RO.binInt rfl rfl rfl) <| XL.nil <| XQ.seq ?_
   refine XC.cond (b := (decide (s1.2 < (a0.kids.length : Int)))) rfl (fun c3 => ?_) (fun c3 => ?_)
   ·
    replace h1 := condT c3 h1
    refine XC.skip <| XQ.seq <| XC.seq <| XC.block <| XC.region <| rM rfl rfl rfl <| rR rfl rfl rfl (RO.fieldOwn fo_42_4 rfl) <| rR rfl rfl rfl (RO.loadOwn ag_40 rfl rfl rfl) <| rM rfl rfl rfl ?_
    refine bindK h1 (fun x4 hx4 h1 => ?_)
    refine rR rfl rfl rfl (RO.indexE (α := Tm) sl_40 rfl (.d _) rfl hx4) <| rR rfl rfl rfl (RO.loadPelCE (x4 : Tm) ag_42 rfl) ?_
    refine bindK h1 (fun x5 hx5 h1 => ?_)
    refine XL.put rfl rfl (lb rfl) (OpOK.callFun (H x4 x5 hx5) rfl (.cons (.agg (.cons (.d _) (.cons (.d _) (.cons (.d _) (.cons (.d _) (.cons (.d _) .nil)))))) .nil)) <| rR rfl rfl rfl (RO.max2 rfl rfl) <| rA rfl rfl rfl <| XL.nil <| XQ.inBlock <| XQ.seq <| XC.region <| rM rfl rfl rfl <| rR rfl rfl rfl (RO.binInt rfl rfl rfl) <| rA rfl rfl rfl <| XL.nil ?_
    have e_ := Option.some.inj h1
    subst e_
    refine XQ.nextM ((max s1.1 x5), (w64 (s1.2 + 1))) (stle (tR rfl (tR rfl (tR rfl tZ))) (hR rfl hZ) kZ rfl (Nat.zero_le _) rfl rfl rfl (bB rfl rfl bZ) rfl rfl) ho1
   ·
    replace h1 := condF c3 h1
    refine XC.exit <| XQ.thenE <| XQ.thenE ?_
    have e_ := Option.some.inj h1
    subst e_
    have e_ : _ = _ := ho1
    subst e_
    exact XQ.joinX s1.1 (stle (tR rfl tZ) (hR rfl hZ) kZ rfl (Nat.zero_le _) rfl rfl rfl (bB rfl rfl bZ) rfl rfl) h0
  ·
   intro o1 h0
   refine XQ.blockX <| XQ.seq <| XC.seq <| XC.region <| rM rfl rfl rfl <| rR rfl rfl rfl (RO.binInt rfl rfl rfl) <| rA rfl rfl rfl <| XL.nil <| XQ.seq <| XC.ret ?_
   have e_ := Option.some.inj h0
   subst e_
   exact XQ.retF (fun _ _ h => h) rfl (RAs.tmp rfl .nil) (.cons (.one (.d _)) .nil)
theorem m66_all (n : Nat) (u : Tm) (r : Int) (h0 : recO m66F n u = some r) : Fun Try.prog 66 [.agg (cE u)] (resOf [.one (dI r)]) :=
  recO_ind (C := fun u r => Fun Try.prog 66 [.agg (cE u)] (resOf [.one (dI r)])) (fun rc H u r h => m66s_ok rc (fun a0 r h => H a0 r h) u r h) n u r h0
theorem m66_ok (a0 : Tm) (r : Int) (h0 : m66 a0 = some r) : Fun Try.prog 66 [.agg (cE a0)] (resOf [.one (dI r)]) := m66_all FUEL a0 r h0
def m50 (a0 : Tm) : Option Bool :=
  Option.bind (Option.bind (m65 a0) fun (x2 : Int) =>
  cond (decide (x2 ≤ 400))
    (Option.bind (m66 a0) fun (x4 : Int) =>
  some (decide (x4 ≤ 150)))
    (some false)) (fun (v1 : Bool) => some v1)
set_option maxRecDepth 100000 in
set_option maxHeartbeats 2000000 in
theorem m50_ok (a0 : Tm) (r : Bool) (h0 : m50 a0 = some r) : Fun Try.prog 50 [.agg (cE a0)] (resOf [.one (dB r)]) := by
  unfold m50 at h0
  refine Fun.of_bodyM 9 11 Try.func50 rfl en_50 rfl (lb rfl) (fun S w => ?_)
  simp only [entry]
  refine XC.seq <| XC.region <| XL.put rfl rfl (lb rfl) (OpOK.box rfl) <| rA rfl rfl rfl <| XL.nil <| XQ.seq <| XC.seq ?_
  refine XC.joinR (fun (v1 : Bool) => ⟨[(2, .v (.one (dB v1)))], [(0, .cells 42 (cE a0))], [], 1, 11, []⟩) (fun (v1 : Bool) => (some v1) = some r) ?_ ?_
  ·
   refine bindK h0 (fun w1_ h1 h0 => ?_)
   refine XC.region <| rR rfl rfl rfl (RO.loadCE (a0 : Tm) ag_42 rfl rfl) ?_
   refine bindK h1 (fun x2 hx2 h1 => ?_)
   refine XL.put rfl rfl (lb rfl) (OpOK.callFun (m65_ok a0 x2 hx2) rfl (.cons (.agg (.cons (.d _) (.cons (.d _) (.cons (.d _) (.cons (.d _) (.cons (.d _) .nil)))))) .nil)) <| rR rfl rfl rfl (RO.binInt rfl rfl rfl) <| rM rfl rfl rfl ?_
   refine XL.case (d := 6) (c := (decide (x2 ≤ 400))) rfl (fun c3 => ?_) (fun c3 => ?_)
   ·
    replace h1 := condT c3 h1
    refine rR rfl rfl rfl (RO.loadCE (a0 : Tm) ag_42 rfl rfl) ?_
    refine bindK h1 (fun x4 hx4 h1 => ?_)
    refine XL.put rfl rfl (lb rfl) (OpOK.callFun (m66_ok a0 x4 hx4) rfl (.cons (.agg (.cons (.d _) (.cons (.d _) (.cons (.d _) (.cons (.d _) (.cons (.d _) .nil)))))) .nil)) <| rR rfl rfl rfl (RO.binInt rfl rfl rfl) <| rR rfl rfl rfl (RO.pickT rfl rfl) <| rA rfl rfl rfl <| XL.nil ?_
    have e_ := Option.some.inj h1
    subst e_
    exact XQ.joinR (decide (x4 ≤ 150)) (stle (tR rfl tZ) (hR rfl hZ) kZ rfl (Nat.zero_le _) rfl rfl rfl (bB rfl rfl bZ) rfl rfl) h0
   ·
    replace h1 := condF c3 h1
    refine XL.no rfl rfl <| XL.no rfl rfl <| XL.no rfl rfl <| rR rfl rfl rfl (RO.pickF rfl rfl) <| rA rfl rfl rfl <| XL.nil ?_
    have e_ := Option.some.inj h1
    subst e_
    exact XQ.joinR false (stle (tR rfl tZ) (hR rfl hZ) kZ rfl (Nat.zero_le _) rfl rfl rfl (bB rfl rfl bZ) rfl rfl) h0
  ·
   intro v1 h0
   refine XQ.seq <| XC.ret ?_
   have e_ := Option.some.inj h0
   subst e_
   exact XQ.retF (fun _ _ h => h) rfl (RAs.tmp rfl .nil) (.cons (.one (.d _)) .nil)
def m51_l0 (a0 : Tr) (rc : Tr × Int → Option Bool) (a1 : Int) (s1 : Int) : Option (LO Int (Unit ⊕ Bool)) :=
  cond (decide (s1 < (a0.branches.length : Int)))
    (Option.bind (Option.bind (idx a0.branches s1) fun (x6 : Br) =>
  Option.bind (rc (x6.tree, (w64 (a1 + 1)))) fun (x7 : Bool) =>
  cond (!x7)
    (some true)
    (Option.bind (idx a0.branches s1) fun (x9 : Br) =>
  some (decide (200 < (x9.ctor.length : Int))))) (fun (v5 : Bool) => cond v5
    (some (.done (.inr false)))
    (some (.next (w64 (s1 + 1))))))
    (some (.done (.inl ())))
def m51s (rc : Tr × Int → Option Bool) (a0 : Tr) (a1 : Int) : Option Bool :=
  Option.bind (cond (decide (40 < a1))
    (some true)
    (cond (decide (40 < (a0.branches.length : Int)))
    (some true)
    (Option.bind (m50 a0.body) fun (x4 : Bool) =>
  some (!x4)))) (fun (v1 : Bool) => cond v1
    (some false)
    (Option.bind (loopN (m51_l0 a0 rc a1) FUEL 0) (Sum.elim (fun (o3 : Unit) => some true) (fun o => some o))))
def m51F (rc : Tr × Int → Option Bool) (u : Tr × Int) : Option Bool := m51s rc u.1 u.2
def m51 (a0 : Tr) (a1 : Int) : Option Bool := recO m51F FUEL (a0, a1)
set_option maxRecDepth 100000 in
set_option maxHeartbeats 2000000 in
theorem m51s_ok (rc : Tr × Int → Option Bool) (H : ∀ (a0 : Tr) (a1 : Int) (r : Bool), rc (a0, a1) = some r → Fun Try.prog 51 [.agg (cE a0), .one (dI a1)] (resOf [.one (dB r)])) (a0 : Tr) (a1 : Int) (r : Bool) (h0 : m51s rc a0 a1 = some r) : Fun Try.prog 51 [.agg (cE a0), .one (dI a1)] (resOf [.one (dB r)]) := by
  unfold m51s at h0
  refine Fun.of_bodyM 9 47 Try.func51 rfl en_51 rfl (lb rfl) (fun S w => ?_)
  simp only [entry]
  refine XC.seq <| XC.region <| XL.put rfl rfl (lb rfl) (OpOK.box rfl) <| rA rfl rfl rfl <| XL.nil <| XQ.seq <| XC.seq <| XC.seq ?_
  refine XC.joinR (fun (v1 : Bool) => ⟨[(1, .v (.one (dI a1))), (2, .v (.one (.ptr 0 0))), (19, .v (.one (dB v1)))], [(0, .cells 87 (cE a0))], [], 1, 47, []⟩) (fun (v1 : Bool) => (cond v1
      (some false)
      (Option.bind (loopN (m51_l0 a0 rc a1) FUEL 0) (Sum.elim (fun (o3 : Unit) => some true) (fun o => some o)))) = some r) ?_ ?_
  ·
   refine bindK h0 (fun w1_ h1 h0 => ?_)
   refine XC.region <| rM rfl rfl rfl <| rR rfl rfl rfl (RO.binInt rfl rfl rfl) <| rM rfl rfl rfl ?_
   refine XL.case (d := 8) (c := (decide (40 < a1))) rfl (fun c2 => ?_) (fun c2 => ?_)
   ·
    replace h1 := condT c2 h1
    refine XL.no rfl rfl <| XL.no rfl rfl <| XL.no rfl rfl <| XL.no rfl rfl <| rR rfl rfl rfl (RO.pickT rfl rfl) <| rM rfl rfl rfl <| XL.no rfl rfl <| XL.no rfl rfl <| XL.no rfl rfl <| XL.no rfl rfl <| rR rfl rfl rfl (RO.pickT rfl rfl) <| XL.nil ?_
    have e_ := Option.some.inj h1
    subst e_
    exact XQ.joinR true (stle (tR rfl (tR rfl (tR rfl tZ))) (hR rfl hZ) kZ rfl (Nat.zero_le _) rfl rfl rfl (bB rfl rfl bZ) rfl rfl) h0
   ·
    replace h1 := condF c2 h1
    refine rR rfl rfl rfl (RO.fieldOwn fo_87_3 rfl) <| rR rfl rfl rfl (RO.loadOwn ag_85 rfl rfl rfl) <| rR rfl rfl rfl (RO.lenE (α := Br) sl_85 rfl (.d _)) <| rR rfl rfl rfl (RO.binInt rfl rfl rfl) <| rR rfl rfl rfl (RO.pickF rfl rfl) <| rM rfl rfl rfl ?_
    refine XL.case (d := 14) (c := (decide (40 < (a0.branches.length : Int)))) rfl (fun c3 => ?_) (fun c3 => ?_)
    ·
     replace h1 := condT c3 h1
     refine XL.no rfl rfl <| XL.no rfl rfl <| XL.no rfl rfl <| XL.no rfl rfl <| rR rfl rfl rfl (RO.pickT rfl rfl) <| XL.nil ?_
     have e_ := Option.some.inj h1
     subst e_
     exact XQ.joinR true (stle (tR rfl (tR rfl (tR rfl tZ))) (hR rfl hZ) kZ rfl (Nat.zero_le _) rfl rfl rfl (bB rfl rfl bZ) rfl rfl) h0
    ·
     replace h1 := condF c3 h1
     refine rR rfl rfl rfl (RO.fieldOwn fo_87_1 rfl) <| rR rfl rfl rfl (RO.loadOwnAgg ag_42 rfl rfl rfl rfl) ?_
     refine bindK h1 (fun x4 hx4 h1 => ?_)
     refine XL.put rfl rfl (lb rfl) (OpOK.callFun (m50_ok a0.body x4 hx4) rfl (.cons (.agg (.cons (.d _) (.cons (.d _) (.cons (.d _) (.cons (.d _) (.cons (.d _) .nil)))))) .nil)) <| rR rfl rfl rfl (RO.not rfl) <| rR rfl rfl rfl (RO.pickF rfl rfl) <| XL.nil ?_
     have e_ := Option.some.inj h1
     subst e_
     exact XQ.joinR (!x4) (stle (tR rfl (tR rfl (tR rfl tZ))) (hR rfl hZ) kZ rfl (Nat.zero_le _) rfl rfl rfl (bB rfl rfl bZ) rfl rfl) h0
  ·
   intro v1 h0
   refine XQ.seq ?_
   refine XC.cond (b := v1) rfl (fun c5 => ?_) (fun c5 => ?_)
   ·
    replace h0 := condT c5 h0
    refine XC.seq <| XC.region <| rA rfl rfl rfl <| XL.nil <| XQ.seq <| XC.ret ?_
    have e_ := Option.some.inj h0
    subst e_
    exact XQ.retF (fun _ _ h => h) rfl (RAs.tmp rfl .nil) (.cons (.one (.d _)) .nil)
   ·
    replace h0 := condF c5 h0
    refine XC.skip <| XQ.seq <| XC.seq <| XC.seq <| XC.region <| rA rfl rfl rfl <| XL.nil <| XQ.seq <| XC.block ?_
    refine XC.joinX 0 (fun (o6 : Unit) => ⟨[], [(0, .cells 87 (cE a0))], [], 1, 47, []⟩) (fun (o6 : Unit) => (some true) = some r) ?_ ?_
    ·
     refine bindK h0 (fun o7 hl1 h0 => ?_)
     refine XC.loopM (m51_l0 a0 rc a1) (fun s1 => ⟨[(1, .v (.one (dI a1))), (2, .v (.one (.ptr 0 0))), (5, .v (.one (dI s1)))], [(0, .cells 87 (cE a0))], [], 1, 47, []⟩) 0 o7 (stle (tR rfl (tR rfl (tR rfl tZ))) (hR rfl hZ) kZ rfl (Nat.zero_le _) rfl rfl rfl (bB rfl rfl bZ) rfl rfl) hl1 (fun s1 n1 oo1 h1 ho1 => ?_)
     unfold m51_l0 at h1
     refine XC.seq <| XC.seq <| XC.region <| rM rfl rfl rfl <| rR rfl rfl rfl (RO.fieldOwn fo_87_3 rfl) <| rR rfl rfl rfl (RO.loadOwn ag_85 rfl rfl rfl) <| rR rfl rfl rfl (RO.lenE (α := Br) sl_85 rfl (.d _)) <| rR rfl rfl rfl (RO.binInt rfl rfl rfl) <| XL.nil <| XQ.seq ?_
     refine XC.cond (b := (decide (s1 < (a0.branches.length : Int)))) rfl (fun c8 => ?_) (fun c8 => ?_)
     ·
      replace h1 := condT c8 h1
      refine XC.skip <| XQ.seq <| XC.seq <| XC.block <| XC.seq ?_
      refine XC.joinR (fun (v9 : Bool) => ⟨[(1, .v (.one (dI a1))), (2, .v (.one (.ptr 0 0))), (5, .v (.one (dI s1))), (46, .v (.one (dB v9)))], [(0, .cells 87 (cE a0))], [], 1, 47, []⟩) (fun (v9 : Bool) => (cond v9
          (some (.done (.inr false)))
          (some (.next (w64 (s1 + 1))))) = some oo1) ?_ ?_
      ·
       refine bindK h1 (fun w2_ h2 h1 => ?_)
       refine XC.region <| rR rfl rfl rfl (RO.fieldOwn fo_87_3 rfl) <| rR rfl rfl rfl (RO.loadOwn ag_85 rfl rfl rfl) <| rM rfl rfl rfl ?_
       refine bindK h2 (fun x10 hx10 h2 => ?_)
       refine rR rfl rfl rfl (RO.indexE (α := Br) sl_85 rfl (.d _) rfl hx10) <| rR rfl rfl rfl (RO.fieldPel fo_115_2 rfl) <| rR rfl rfl rfl (RO.loadPelAgg ag_87 rfl rfl rfl) <| rM rfl rfl rfl <| rR rfl rfl rfl (RO.binInt rfl rfl rfl) ?_
       refine bindK h2 (fun x11 hx11 h2 => ?_)
       refine XL.put rfl rfl (lb rfl) (OpOK.callFun (H x10.tree (w64 (a1 + 1)) x11 hx11) rfl (.cons (.agg (.cons (.d _) (.cons (.d _) (.cons (.d _) (.cons (.d _) (.cons (.d _) (.cons (.d _) (.cons (.d _) (.cons (.d _) .nil))))))))) (.cons (.one (.d _)) .nil))) <| rR rfl rfl rfl (RO.not rfl) <| rM rfl rfl rfl ?_
       refine XL.case (d := 37) (c := (!x11)) rfl (fun c12 => ?_) (fun c12 => ?_)
       ·
        replace h2 := condT c12 h2
        refine XL.no rfl rfl <| XL.no rfl rfl <| XL.no rfl rfl <| XL.no rfl rfl <| XL.no rfl rfl <| XL.no rfl rfl <| XL.no rfl rfl <| XL.no rfl rfl <| rR rfl rfl rfl (RO.pickT rfl rfl) <| XL.nil ?_
        have e_ := Option.some.inj h2
        subst e_
        exact XQ.joinR true (stle (tR rfl (tR rfl (tR rfl (tR rfl tZ)))) (hR rfl hZ) kZ rfl (Nat.zero_le _) rfl rfl rfl (bB rfl rfl bZ) rfl rfl) h1
       ·
        replace h2 := condF c12 h2
        refine rR rfl rfl rfl (RO.fieldOwn fo_87_3 rfl) <| rR rfl rfl rfl (RO.loadOwn ag_85 rfl rfl rfl) <| rM rfl rfl rfl ?_
        refine bindK h2 (fun x13 hx13 h2 => ?_)
        refine rR rfl rfl rfl (RO.indexE (α := Br) sl_85 rfl (.d _) rfl hx13) <| rR rfl rfl rfl (RO.fieldPel fo_115_0 rfl) <| rR rfl rfl rfl (RO.loadPel ag_9 rfl rfl) <| rR rfl rfl rfl (RO.lenS st_9 rfl) <| rR rfl rfl rfl (RO.binInt rfl rfl rfl) <| rR rfl rfl rfl (RO.pickF rfl rfl) <| XL.nil ?_
        have e_ := Option.some.inj h2
        subst e_
        exact XQ.joinR (decide (200 < (x13.ctor.length : Int))) (stle (tR rfl (tR rfl (tR rfl (tR rfl tZ)))) (hR rfl hZ) kZ rfl (Nat.zero_le _) rfl rfl rfl (bB rfl rfl bZ) rfl rfl) h1
      ·
       intro v9 h1
       refine XQ.seq ?_
       refine XC.cond (b := v9) rfl (fun c14 => ?_) (fun c14 => ?_)
       ·
        replace h1 := condT c14 h1
        refine XC.seq <| XC.region <| rA rfl rfl rfl <| XL.nil <| XQ.seq <| XC.ret ?_
        have e_ := Option.some.inj h1
        subst e_
        have e_ : _ = _ := ho1
        subst e_
        try dsimp only [Sum.elim_inl, Sum.elim_inr] at h0
        have e_ := Option.some.inj h0
        subst e_
        exact XQ.retF (fun _ _ h => h) rfl (RAs.tmp rfl .nil) (.cons (.one (.d _)) .nil)
       ·
        replace h1 := condF c14 h1
        refine XC.skip <| XQ.inBlock <| XQ.seq <| XC.region <| rM rfl rfl rfl <| rR rfl rfl rfl (RO.binInt rfl rfl rfl) <| rA rfl rfl rfl <| XL.nil ?_
        have e_ := Option.some.inj h1
        subst e_
        refine XQ.nextM (w64 (s1 + 1)) (stle (tR rfl (tR rfl (tR rfl tZ))) (hR rfl hZ) kZ rfl (Nat.zero_le _) rfl rfl rfl (bB rfl rfl bZ) rfl rfl) ho1
     ·
      replace h1 := condF c8 h1
      refine XC.exit <| XQ.thenE <| XQ.thenE ?_
      have e_ := Option.some.inj h1
      subst e_
      have e_ : _ = _ := ho1
      subst e_
      exact XQ.joinX () (stle tZ (hR rfl hZ) kZ rfl (Nat.zero_le _) rfl rfl rfl (bB rfl rfl bZ) rfl rfl) h0
    ·
     intro o6 h0
     refine XQ.blockX <| XQ.seq <| XC.seq <| XC.region <| rA rfl rfl rfl <| XL.nil <| XQ.seq <| XC.ret ?_
     have e_ := Option.some.inj h0
     subst e_
     exact XQ.retF (fun _ _ h => h) rfl (RAs.tmp rfl .nil) (.cons (.one (.d _)) .nil)
theorem m51_all (n : Nat) (u : Tr × Int) (r : Bool) (h0 : recO m51F n u = some r) : Fun Try.prog 51 [.agg (cE u.1), .one (dI u.2)] (resOf [.one (dB r)]) :=
  recO_ind (C := fun u r => Fun Try.prog 51 [.agg (cE u.1), .one (dI u.2)] (resOf [.one (dB r)])) (fun rc H u r h => m51s_ok rc (fun a0 a1 r h => H (a0, a1) r h) u.1 u.2 r h) n u r h0
theorem m51_ok (a0 : Tr) (a1 : Int) (r : Bool) (h0 : m51 a0 a1 = some r) : Fun Try.prog 51 [.agg (cE a0), .one (dI a1)] (resOf [.one (dB r)]) := m51_all FUEL (a0, a1) r h0
def m30_l0 (a0 : Dcl) (s1 : Int) : Option (LO Int (Unit ⊕ Bool)) :=
  cond (decide (s1 < (a0.ctors.length : Int)))
    (Option.bind (Option.bind (idx a0.ctors s1) fun (x6 : Ctr) =>
  cond (decide (200 < (x6.name.length : Int)))
    (some true)
    (Option.bind (idx a0.ctors s1) fun (x8 : Ctr) =>
  Option.bind (m50 x8.ty) fun (x9 : Bool) =>
  some (!x9))) (fun (v5 : Bool) => cond v5
    (some (.done (.inr false)))
    (some (.next (w64 (s1 + 1))))))
    (some (.done (.inl ())))
def m30_l1 (a0 : Dcl) (s1 : Int) : Option (LO Int (Unit ⊕ Bool)) :=
  cond (decide (s1 < (a0.rcr.rules.length : Int)))
    (Option.bind (idx a0.rcr.rules s1) fun (x6 : Tm) =>
  Option.bind (m50 x6) fun (x7 : Bool) =>
  cond (!x7)
    (some (.done (.inr false)))
    (some (.next (w64 (s1 + 1)))))
    (some (.done (.inl ())))
def m30_l2 (a0 : Dcl) (s1 : Int) : Option (LO Int (Unit ⊕ Bool)) :=
  cond (decide (s1 < (a0.funs.length : Int)))
    (Option.bind (Option.bind (idx a0.funs s1) fun (x8 : Fn) =>
  cond (decide (200 < (x8.name.length : Int)))
    (some true)
    (Option.bind (idx a0.funs s1) fun (x10 : Fn) =>
  Option.bind (m50 x10.ty) fun (x11 : Bool) =>
  cond (!x11)
    (some true)
    (Option.bind (idx a0.funs s1) fun (x13 : Fn) =>
  Option.bind (m51 x13.tree 0) fun (x14 : Bool) =>
  some (!x14)))) (fun (v7 : Bool) => cond v7
    (some (.done (.inr false)))
    (some (.next (w64 (s1 + 1))))))
    (some (.done (.inl ())))
def m30 (a0 : Dcl) : Option Bool :=
  Option.bind (cond (decide (200 < (a0.name.length : Int)))
    (some true)
    (Option.bind (m50 a0.ty) fun (x3 : Bool) =>
  cond (!x3)
    (some true)
    (Option.bind (m50 a0.value) fun (x5 : Bool) =>
  cond (!x5)
    (some true)
    (cond (decide (40 < (a0.ctors.length : Int)))
    (some true)
    (cond (decide (12 < (a0.funs.length : Int)))
    (some true)
    (Option.bind (m50 a0.rcr.ty) fun (x9 : Bool) =>
  cond (!x9)
    (some true)
    (some (decide (40 < (a0.rcr.rules.length : Int)))))))))) (fun (v1 : Bool) => cond v1
    (some false)
    (Option.bind (loopN (m30_l0 a0) FUEL 0) (Sum.elim (fun (o3 : Unit) => Option.bind (loopN (m30_l1 a0) FUEL 0) (Sum.elim (fun (o4 : Unit) => Option.bind (loopN (m30_l2 a0) FUEL 0) (Sum.elim (fun (o5 : Unit) => some true) (fun o => some o))) (fun o => some o))) (fun o => some o))))
set_option maxRecDepth 100000 in
set_option maxHeartbeats 2000000 in
theorem m30_ok (a0 : Dcl) (r : Bool) (h0 : m30 a0 = some r) : Fun Try.prog 30 [.agg (cE a0)] (resOf [.one (dB r)]) := by
  unfold m30 at h0
  refine Fun.of_bodyM 9 124 Try.func30 rfl en_30 rfl (lb rfl) (fun S w => ?_)
  simp only [entry]
  refine XC.seq <| XC.region <| XL.put rfl rfl (lb rfl) (OpOK.box rfl) <| rA rfl rfl rfl <| XL.nil <| XQ.seq <| XC.seq <| XC.seq ?_
  refine XC.joinR (fun (v1 : Bool) => ⟨[(1, .v (.one (.ptr 0 0))), (47, .v (.one (dB v1)))], [(0, .cells 48 (cE a0))], [], 1, 124, []⟩) (fun (v1 : Bool) => (cond v1
      (some false)
      (Option.bind (loopN (m30_l0 a0) FUEL 0) (Sum.elim (fun (o3 : Unit) => Option.bind (loopN (m30_l1 a0) FUEL 0) (Sum.elim (fun (o4 : Unit) => Option.bind (loopN (m30_l2 a0) FUEL 0) (Sum.elim (fun (o5 : Unit) => some true) (fun o => some o))) (fun o => some o))) (fun o => some o)))) = some r) ?_ ?_
  ·
   refine bindK h0 (fun w1_ h1 h0 => ?_)
   refine XC.region <| rR rfl rfl rfl (RO.fieldOwn fo_48_1 rfl) <| rR rfl rfl rfl (RO.loadOwn ag_9 rfl rfl rfl) <| rR rfl rfl rfl (RO.lenS st_9 rfl) <| rR rfl rfl rfl (RO.binInt rfl rfl rfl) <| rM rfl rfl rfl ?_
   refine XL.case (d := 10) (c := (decide (200 < (a0.name.length : Int)))) rfl (fun c2 => ?_) (fun c2 => ?_)
   ·
    replace h1 := condT c2 h1
    refine XL.no rfl rfl <| XL.no rfl rfl <| XL.no rfl rfl <| XL.no rfl rfl <| rR rfl rfl rfl (RO.pickT rfl rfl) <| rM rfl rfl rfl <| XL.no rfl rfl <| XL.no rfl rfl <| XL.no rfl rfl <| XL.no rfl rfl <| rR rfl rfl rfl (RO.pickT rfl rfl) <| rM rfl rfl rfl <| XL.no rfl rfl <| XL.no rfl rfl ?_
    refine XL.no rfl rfl <| XL.no rfl rfl <| rR rfl rfl rfl (RO.pickT rfl rfl) <| rM rfl rfl rfl <| XL.no rfl rfl <| XL.no rfl rfl <| XL.no rfl rfl <| XL.no rfl rfl <| rR rfl rfl rfl (RO.pickT rfl rfl) <| rM rfl rfl rfl <| XL.no rfl rfl <| XL.no rfl rfl <| XL.no rfl rfl <| XL.no rfl rfl ?_
    refine XL.no rfl rfl <| rR rfl rfl rfl (RO.pickT rfl rfl) <| rM rfl rfl rfl <| XL.no rfl rfl <| XL.no rfl rfl <| XL.no rfl rfl <| XL.no rfl rfl <| XL.no rfl rfl <| rR rfl rfl rfl (RO.pickT rfl rfl) <| XL.nil ?_
    have e_ := Option.some.inj h1
    subst e_
    exact XQ.joinR true (stle (tR rfl (tR rfl tZ)) (hR rfl hZ) kZ rfl (Nat.zero_le _) rfl rfl rfl (bB rfl rfl bZ) rfl rfl) h0
   ·
    replace h1 := condF c2 h1
    refine rR rfl rfl rfl (RO.fieldOwn fo_48_3 rfl) <| rR rfl rfl rfl (RO.loadOwnAgg ag_42 rfl rfl rfl rfl) ?_
    refine bindK h1 (fun x3 hx3 h1 => ?_)
    refine XL.put rfl rfl (lb rfl) (OpOK.callFun (m50_ok a0.ty x3 hx3) rfl (.cons (.agg (.cons (.d _) (.cons (.d _) (.cons (.d _) (.cons (.d _) (.cons (.d _) .nil)))))) .nil)) <| rR rfl rfl rfl (RO.not rfl) <| rR rfl rfl rfl (RO.pickF rfl rfl) <| rM rfl rfl rfl ?_
    refine XL.case (d := 16) (c := (!x3)) rfl (fun c4 => ?_) (fun c4 => ?_)
    ·
     replace h1 := condT c4 h1
     refine XL.no rfl rfl <| XL.no rfl rfl <| XL.no rfl rfl <| XL.no rfl rfl <| rR rfl rfl rfl (RO.pickT rfl rfl) <| rM rfl rfl rfl <| XL.no rfl rfl <| XL.no rfl rfl <| XL.no rfl rfl <| XL.no rfl rfl <| rR rfl rfl rfl (RO.pickT rfl rfl) <| rM rfl rfl rfl <| XL.no rfl rfl <| XL.no rfl rfl ?_
     refine XL.no rfl rfl <| XL.no rfl rfl <| rR rfl rfl rfl (RO.pickT rfl rfl) <| rM rfl rfl rfl <| XL.no rfl rfl <| XL.no rfl rfl <| XL.no rfl rfl <| XL.no rfl rfl <| XL.no rfl rfl <| rR rfl rfl rfl (RO.pickT rfl rfl) <| rM rfl rfl rfl <| XL.no rfl rfl <| XL.no rfl rfl <| XL.no rfl rfl ?_
     refine XL.no rfl rfl <| XL.no rfl rfl <| rR rfl rfl rfl (RO.pickT rfl rfl) <| XL.nil ?_
     have e_ := Option.some.inj h1
     subst e_
     exact XQ.joinR true (stle (tR rfl (tR rfl tZ)) (hR rfl hZ) kZ rfl (Nat.zero_le _) rfl rfl rfl (bB rfl rfl bZ) rfl rfl) h0
    ·
     replace h1 := condF c4 h1
     refine rR rfl rfl rfl (RO.fieldOwn fo_48_4 rfl) <| rR rfl rfl rfl (RO.loadOwnAgg ag_42 rfl rfl rfl rfl) ?_
     refine bindK h1 (fun x5 hx5 h1 => ?_)
     refine XL.put rfl rfl (lb rfl) (OpOK.callFun (m50_ok a0.value x5 hx5) rfl (.cons (.agg (.cons (.d _) (.cons (.d _) (.cons (.d _) (.cons (.d _) (.cons (.d _) .nil)))))) .nil)) <| rR rfl rfl rfl (RO.not rfl) <| rR rfl rfl rfl (RO.pickF rfl rfl) <| rM rfl rfl rfl ?_
     refine XL.case (d := 22) (c := (!x5)) rfl (fun c6 => ?_) (fun c6 => ?_)
     ·
      replace h1 := condT c6 h1
      refine XL.no rfl rfl <| XL.no rfl rfl <| XL.no rfl rfl <| XL.no rfl rfl <| rR rfl rfl rfl (RO.pickT rfl rfl) <| rM rfl rfl rfl <| XL.no rfl rfl <| XL.no rfl rfl <| XL.no rfl rfl <| XL.no rfl rfl <| rR rfl rfl rfl (RO.pickT rfl rfl) <| rM rfl rfl rfl <| XL.no rfl rfl <| XL.no rfl rfl ?_
      refine XL.no rfl rfl <| XL.no rfl rfl <| XL.no rfl rfl <| rR rfl rfl rfl (RO.pickT rfl rfl) <| rM rfl rfl rfl <| XL.no rfl rfl <| XL.no rfl rfl <| XL.no rfl rfl <| XL.no rfl rfl <| XL.no rfl rfl <| rR rfl rfl rfl (RO.pickT rfl rfl) <| XL.nil ?_
      have e_ := Option.some.inj h1
      subst e_
      exact XQ.joinR true (stle (tR rfl (tR rfl tZ)) (hR rfl hZ) kZ rfl (Nat.zero_le _) rfl rfl rfl (bB rfl rfl bZ) rfl rfl) h0
     ·
      replace h1 := condF c6 h1
      refine rR rfl rfl rfl (RO.fieldOwn fo_48_6 rfl) <| rR rfl rfl rfl (RO.loadOwn ag_43 rfl rfl rfl) <| rR rfl rfl rfl (RO.lenE (α := Ctr) sl_43 rfl (.d _)) <| rR rfl rfl rfl (RO.binInt rfl rfl rfl) <| rR rfl rfl rfl (RO.pickF rfl rfl) <| rM rfl rfl rfl ?_
      refine XL.case (d := 28) (c := (decide (40 < (a0.ctors.length : Int)))) rfl (fun c7 => ?_) (fun c7 => ?_)
      ·
       replace h1 := condT c7 h1
       refine XL.no rfl rfl <| XL.no rfl rfl <| XL.no rfl rfl <| XL.no rfl rfl <| rR rfl rfl rfl (RO.pickT rfl rfl) <| rM rfl rfl rfl <| XL.no rfl rfl <| XL.no rfl rfl <| XL.no rfl rfl <| XL.no rfl rfl <| XL.no rfl rfl <| rR rfl rfl rfl (RO.pickT rfl rfl) <| rM rfl rfl rfl <| XL.no rfl rfl ?_
       refine XL.no rfl rfl <| XL.no rfl rfl <| XL.no rfl rfl <| XL.no rfl rfl <| rR rfl rfl rfl (RO.pickT rfl rfl) <| XL.nil ?_
       have e_ := Option.some.inj h1
       subst e_
       exact XQ.joinR true (stle (tR rfl (tR rfl tZ)) (hR rfl hZ) kZ rfl (Nat.zero_le _) rfl rfl rfl (bB rfl rfl bZ) rfl rfl) h0
      ·
       replace h1 := condF c7 h1
       refine rR rfl rfl rfl (RO.fieldOwn fo_48_8 rfl) <| rR rfl rfl rfl (RO.loadOwn ag_46 rfl rfl rfl) <| rR rfl rfl rfl (RO.lenE (α := Fn) sl_46 rfl (.d _)) <| rR rfl rfl rfl (RO.binInt rfl rfl rfl) <| rR rfl rfl rfl (RO.pickF rfl rfl) <| rM rfl rfl rfl ?_
       refine XL.case (d := 34) (c := (decide (12 < (a0.funs.length : Int)))) rfl (fun c8 => ?_) (fun c8 => ?_)
       ·
        replace h1 := condT c8 h1
        refine XL.no rfl rfl <| XL.no rfl rfl <| XL.no rfl rfl <| XL.no rfl rfl <| XL.no rfl rfl <| rR rfl rfl rfl (RO.pickT rfl rfl) <| rM rfl rfl rfl <| XL.no rfl rfl <| XL.no rfl rfl <| XL.no rfl rfl <| XL.no rfl rfl <| XL.no rfl rfl <| rR rfl rfl rfl (RO.pickT rfl rfl) <| XL.nil ?_
        have e_ := Option.some.inj h1
        subst e_
        exact XQ.joinR true (stle (tR rfl (tR rfl tZ)) (hR rfl hZ) kZ rfl (Nat.zero_le _) rfl rfl rfl (bB rfl rfl bZ) rfl rfl) h0
       ·
        replace h1 := condF c8 h1
        refine rR rfl rfl rfl (RO.fieldOwn fo_48_7 rfl) <| rR rfl rfl rfl (RO.fieldOwn fo_45_1 rfl) <| rR rfl rfl rfl (RO.loadOwnAgg ag_42 rfl rfl rfl rfl) ?_
        refine bindK h1 (fun x9 hx9 h1 => ?_)
        refine XL.put rfl rfl (lb rfl) (OpOK.callFun (m50_ok a0.rcr.ty x9 hx9) rfl (.cons (.agg (.cons (.d _) (.cons (.d _) (.cons (.d _) (.cons (.d _) (.cons (.d _) .nil)))))) .nil)) <| rR rfl rfl rfl (RO.not rfl) <| rR rfl rfl rfl (RO.pickF rfl rfl) <| rM rfl rfl rfl ?_
        refine XL.case (d := 41) (c := (!x9)) rfl (fun c10 => ?_) (fun c10 => ?_)
        ·
         replace h1 := condT c10 h1
         refine XL.no rfl rfl <| XL.no rfl rfl <| XL.no rfl rfl <| XL.no rfl rfl <| XL.no rfl rfl <| rR rfl rfl rfl (RO.pickT rfl rfl) <| XL.nil ?_
         have e_ := Option.some.inj h1
         subst e_
         exact XQ.joinR true (stle (tR rfl (tR rfl tZ)) (hR rfl hZ) kZ rfl (Nat.zero_le _) rfl rfl rfl (bB rfl rfl bZ) rfl rfl) h0
        ·
         replace h1 := condF c10 h1
         refine rR rfl rfl rfl (RO.fieldOwn fo_48_7 rfl) <| rR rfl rfl rfl (RO.fieldOwn fo_45_2 rfl) <| rR rfl rfl rfl (RO.loadOwn ag_40 rfl rfl rfl) <| rR rfl rfl rfl (RO.lenE (α := Tm) sl_40 rfl (.d _)) <| rR rfl rfl rfl (RO.binInt rfl rfl rfl) <| rR rfl rfl rfl (RO.pickF rfl rfl) <| XL.nil ?_
         have e_ := Option.some.inj h1
         subst e_
         exact XQ.joinR (decide (40 < (a0.rcr.rules.length : Int))) (stle (tR rfl (tR rfl tZ)) (hR rfl hZ) kZ rfl (Nat.zero_le _) rfl rfl rfl (bB rfl rfl bZ) rfl rfl) h0
  ·
   intro v1 h0
   refine XQ.seq ?_
   refine XC.cond (b := v1) rfl (fun c11 => ?_) (fun c11 => ?_)
   ·
    replace h0 := condT c11 h0
    refine XC.seq <| XC.region <| rA rfl rfl rfl <| XL.nil <| XQ.seq <| XC.ret ?_
    have e_ := Option.some.inj h0
    subst e_
    exact XQ.retF (fun _ _ h => h) rfl (RAs.tmp rfl .nil) (.cons (.one (.d _)) .nil)
   ·
    replace h0 := condF c11 h0
    refine XC.skip <| XQ.seq <| XC.seq <| XC.seq <| XC.region <| rA rfl rfl rfl <| XL.nil <| XQ.seq <| XC.block ?_
    refine XC.joinX 0 (fun (o12 : Unit) => ⟨[(1, .v (.one (.ptr 0 0)))], [(0, .cells 48 (cE a0))], [], 1, 124, []⟩) (fun (o12 : Unit) => (Option.bind (loopN (m30_l1 a0) FUEL 0) (Sum.elim (fun (o13 : Unit) => Option.bind (loopN (m30_l2 a0) FUEL 0) (Sum.elim (fun (o14 : Unit) => some true) (fun o => some o))) (fun o => some o))) = some r) ?_ ?_
    ·
     refine bindK h0 (fun o13 hl1 h0 => ?_)
     refine XC.loopM (m30_l0 a0) (fun s1 => ⟨[(1, .v (.one (.ptr 0 0))), (3, .v (.one (dI s1)))], [(0, .cells 48 (cE a0))], [], 1, 124, []⟩) 0 o13 (stle (tR rfl (tR rfl tZ)) (hR rfl hZ) kZ rfl (Nat.zero_le _) rfl rfl rfl (bB rfl rfl bZ) rfl rfl) hl1 (fun s1 n1 oo1 h1 ho1 => ?_)
     unfold m30_l0 at h1
     refine XC.seq <| XC.seq <| XC.region <| rM rfl rfl rfl <| rR rfl rfl rfl (RO.fieldOwn fo_48_6 rfl) <| rR rfl rfl rfl (RO.loadOwn ag_43 rfl rfl rfl) <| rR rfl rfl rfl (RO.lenE (α := Ctr) sl_43 rfl (.d _)) <| rR rfl rfl rfl (RO.binInt rfl rfl rfl) <| XL.nil <| XQ.seq ?_
     refine XC.cond (b := (decide (s1 < (a0.ctors.length : Int)))) rfl (fun c14 => ?_) (fun c14 => ?_)
     ·
      replace h1 := condT c14 h1
      refine XC.skip <| XQ.seq <| XC.seq <| XC.block <| XC.seq ?_
      refine XC.joinR (fun (v15 : Bool) => ⟨[(1, .v (.one (.ptr 0 0))), (3, .v (.one (dI s1))), (72, .v (.one (dB v15)))], [(0, .cells 48 (cE a0))], [], 1, 124, []⟩) (fun (v15 : Bool) => (cond v15
          (some (.done (.inr false)))
          (some (.next (w64 (s1 + 1))))) = some oo1) ?_ ?_
      ·
       refine bindK h1 (fun w2_ h2 h1 => ?_)
       refine XC.region <| rR rfl rfl rfl (RO.fieldOwn fo_48_6 rfl) <| rR rfl rfl rfl (RO.loadOwn ag_43 rfl rfl rfl) <| rM rfl rfl rfl ?_
       refine bindK h2 (fun x16 hx16 h2 => ?_)
       refine rR rfl rfl rfl (RO.indexE (α := Ctr) sl_43 rfl (.d _) rfl hx16) <| rR rfl rfl rfl (RO.fieldPel fo_84_0 rfl) <| rR rfl rfl rfl (RO.loadPel ag_9 rfl rfl) <| rR rfl rfl rfl (RO.lenS st_9 rfl) <| rR rfl rfl rfl (RO.binInt rfl rfl rfl) <| rM rfl rfl rfl ?_
       refine XL.case (d := 63) (c := (decide (200 < (x16.name.length : Int)))) rfl (fun c17 => ?_) (fun c17 => ?_)
       ·
        replace h2 := condT c17 h2
        refine XL.no rfl rfl <| XL.no rfl rfl <| XL.no rfl rfl <| XL.no rfl rfl <| XL.no rfl rfl <| XL.no rfl rfl <| XL.no rfl rfl <| XL.no rfl rfl <| rR rfl rfl rfl (RO.pickT rfl rfl) <| XL.nil ?_
        have e_ := Option.some.inj h2
        subst e_
        exact XQ.joinR true (stle (tR rfl (tR rfl (tR rfl tZ))) (hR rfl hZ) kZ rfl (Nat.zero_le _) rfl rfl rfl (bB rfl rfl bZ) rfl rfl) h1
       ·
        replace h2 := condF c17 h2
        refine rR rfl rfl rfl (RO.fieldOwn fo_48_6 rfl) <| rR rfl rfl rfl (RO.loadOwn ag_43 rfl rfl rfl) <| rM rfl rfl rfl ?_
        refine bindK h2 (fun x18 hx18 h2 => ?_)
        refine rR rfl rfl rfl (RO.indexE (α := Ctr) sl_43 rfl (.d _) rfl hx18) <| rR rfl rfl rfl (RO.fieldPel fo_84_1 rfl) <| rR rfl rfl rfl (RO.loadPelAgg ag_42 rfl rfl rfl) ?_
        refine bindK h2 (fun x19 hx19 h2 => ?_)
        refine XL.put rfl rfl (lb rfl) (OpOK.callFun (m50_ok x18.ty x19 hx19) rfl (.cons (.agg (.cons (.d _) (.cons (.d _) (.cons (.d _) (.cons (.d _) (.cons (.d _) .nil)))))) .nil)) <| rR rfl rfl rfl (RO.not rfl) <| rR rfl rfl rfl (RO.pickF rfl rfl) <| XL.nil ?_
        have e_ := Option.some.inj h2
        subst e_
        exact XQ.joinR (!x19) (stle (tR rfl (tR rfl (tR rfl tZ))) (hR rfl hZ) kZ rfl (Nat.zero_le _) rfl rfl rfl (bB rfl rfl bZ) rfl rfl) h1
      ·
       intro v15 h1
       refine XQ.seq ?_
       refine XC.cond (b := v15) rfl (fun c20 => ?_) (fun c20 => ?_)
       ·
        replace h1 := condT c20 h1
        refine XC.seq <| XC.region <| rA rfl rfl rfl <| XL.nil <| XQ.seq <| XC.ret ?_
        have e_ := Option.some.inj h1
        subst e_
        have e_ : _ = _ := ho1
        subst e_
        try dsimp only [Sum.elim_inl, Sum.elim_inr] at h0
        have e_ := Option.some.inj h0
        subst e_
        exact XQ.retF (fun _ _ h => h) rfl (RAs.tmp rfl .nil) (.cons (.one (.d _)) .nil)
       ·
        replace h1 := condF c20 h1
        refine XC.skip <| XQ.inBlock <| XQ.seq <| XC.region <| rM rfl rfl rfl <| rR rfl rfl rfl (RO.binInt rfl rfl rfl) <| rA rfl rfl rfl <| XL.nil ?_
        have e_ := Option.some.inj h1
        subst e_
        refine XQ.nextM (w64 (s1 + 1)) (stle (tR rfl (tR rfl tZ)) (hR rfl hZ) kZ rfl (Nat.zero_le _) rfl rfl rfl (bB rfl rfl bZ) rfl rfl) ho1
     ·
      replace h1 := condF c14 h1
      refine XC.exit <| XQ.thenE <| XQ.thenE ?_
      have e_ := Option.some.inj h1
      subst e_
      have e_ : _ = _ := ho1
      subst e_
      exact XQ.joinX () (stle (tR rfl tZ) (hR rfl hZ) kZ rfl (Nat.zero_le _) rfl rfl rfl (bB rfl rfl bZ) rfl rfl) h0
    ·
     intro o12 h0
     refine XQ.blockX <| XQ.seq <| XC.seq <| XC.seq <| XC.region <| rA rfl rfl rfl <| XL.nil <| XQ.seq <| XC.block ?_
     refine XC.joinX 2 (fun (o21 : Unit) => ⟨[(1, .v (.one (.ptr 0 0)))], [(0, .cells 48 (cE a0))], [], 1, 124, []⟩) (fun (o21 : Unit) => (Option.bind (loopN (m30_l2 a0) FUEL 0) (Sum.elim (fun (o22 : Unit) => some true) (fun o => some o))) = some r) ?_ ?_
     ·
      refine bindK h0 (fun o22 hl1 h0 => ?_)
      refine XC.loopM (m30_l1 a0) (fun s1 => ⟨[(1, .v (.one (.ptr 0 0))), (4, .v (.one (dI s1)))], [(0, .cells 48 (cE a0))], [], 1, 124, []⟩) 0 o22 (stle (tR rfl (tR rfl tZ)) (hR rfl hZ) kZ rfl (Nat.zero_le _) rfl rfl rfl (bB rfl rfl bZ) rfl rfl) hl1 (fun s1 n1 oo1 h1 ho1 => ?_)
      unfold m30_l1 at h1
      refine XC.seq <| XC.seq <| XC.region <| rM rfl rfl rfl <| rR rfl rfl rfl (RO.fieldOwn fo_48_7 rfl) <| rR rfl rfl rfl (RO.fieldOwn fo_45_2 rfl) <| rR rfl rfl rfl (RO.loadOwn ag_40 rfl rfl rfl) <| rR rfl rfl rfl (RO.lenE (α := Tm) sl_40 rfl (.d _)) <| rR rfl rfl rfl (RO.binInt rfl rfl rfl) <| XL.nil <| XQ.seq ?_
      refine XC.cond (b := (decide (s1 < (a0.rcr.rules.length : Int)))) rfl (fun c23 => ?_) (fun c23 => ?_)
      ·
       replace h1 := condT c23 h1
       refine XC.skip <| XQ.seq <| XC.seq <| XC.block <| XC.seq <| XC.region <| rR rfl rfl rfl (RO.fieldOwn fo_48_7 rfl) <| rR rfl rfl rfl (RO.fieldOwn fo_45_2 rfl) <| rR rfl rfl rfl (RO.loadOwn ag_40 rfl rfl rfl) <| rM rfl rfl rfl ?_
       refine bindK h1 (fun x24 hx24 h1 => ?_)
       refine rR rfl rfl rfl (RO.indexE (α := Tm) sl_40 rfl (.d _) rfl hx24) <| rR rfl rfl rfl (RO.loadPelCE (x24 : Tm) ag_42 rfl) ?_
       refine bindK h1 (fun x25 hx25 h1 => ?_)
       refine XL.put rfl rfl (lb rfl) (OpOK.callFun (m50_ok x24 x25 hx25) rfl (.cons (.agg (.cons (.d _) (.cons (.d _) (.cons (.d _) (.cons (.d _) (.cons (.d _) .nil)))))) .nil)) <| rR rfl rfl rfl (RO.not rfl) <| XL.nil <| XQ.seq ?_
       refine XC.cond (b := (!x25)) rfl (fun c26 => ?_) (fun c26 => ?_)
       ·
        replace h1 := condT c26 h1
        refine XC.seq <| XC.region <| rA rfl rfl rfl <| XL.nil <| XQ.seq <| XC.ret ?_
        have e_ := Option.some.inj h1
        subst e_
        have e_ : _ = _ := ho1
        subst e_
        try dsimp only [Sum.elim_inl, Sum.elim_inr] at h0
        have e_ := Option.some.inj h0
        subst e_
        exact XQ.retF (fun _ _ h => h) rfl (RAs.tmp rfl .nil) (.cons (.one (.d _)) .nil)
       ·
        replace h1 := condF c26 h1
        refine XC.skip <| XQ.inBlock <| XQ.seq <| XC.region <| rM rfl rfl rfl <| rR rfl rfl rfl (RO.binInt rfl rfl rfl) <| rA rfl rfl rfl <| XL.nil ?_
        have e_ := Option.some.inj h1
        subst e_
        refine XQ.nextM (w64 (s1 + 1)) (stle (tR rfl (tR rfl tZ)) (hR rfl hZ) kZ rfl (Nat.zero_le _) rfl rfl rfl (bB rfl rfl bZ) rfl rfl) ho1
      ·
       replace h1 := condF c23 h1
       refine XC.exit <| XQ.thenE <| XQ.thenE ?_
       have e_ := Option.some.inj h1
       subst e_
       have e_ : _ = _ := ho1
       subst e_
       exact XQ.joinX () (stle (tR rfl tZ) (hR rfl hZ) kZ rfl (Nat.zero_le _) rfl rfl rfl (bB rfl rfl bZ) rfl rfl) h0
     ·
      intro o21 h0
      refine XQ.blockX <| XQ.seq <| XC.seq <| XC.seq <| XC.region <| rA rfl rfl rfl <| XL.nil <| XQ.seq <| XC.block ?_
      refine XC.joinX 4 (fun (o27 : Unit) => ⟨[], [(0, .cells 48 (cE a0))], [], 1, 124, []⟩) (fun (o27 : Unit) => (some true) = some r) ?_ ?_
      ·
       refine bindK h0 (fun o28 hl1 h0 => ?_)
       refine XC.loopM (m30_l2 a0) (fun s1 => ⟨[(1, .v (.one (.ptr 0 0))), (5, .v (.one (dI s1)))], [(0, .cells 48 (cE a0))], [], 1, 124, []⟩) 0 o28 (stle (tR rfl (tR rfl tZ)) (hR rfl hZ) kZ rfl (Nat.zero_le _) rfl rfl rfl (bB rfl rfl bZ) rfl rfl) hl1 (fun s1 n1 oo1 h1 ho1 => ?_)
       unfold m30_l2 at h1
       refine XC.seq <| XC.seq <| XC.region <| rM rfl rfl rfl <| rR rfl rfl rfl (RO.fieldOwn fo_48_8 rfl) <| rR rfl rfl rfl (RO.loadOwn ag_46 rfl rfl rfl) <| rR rfl rfl rfl (RO.lenE (α := Fn) sl_46 rfl (.d _)) <| rR rfl rfl rfl (RO.binInt rfl rfl rfl) <| XL.nil <| XQ.seq ?_
       refine XC.cond (b := (decide (s1 < (a0.funs.length : Int)))) rfl (fun c29 => ?_) (fun c29 => ?_)
       ·
        replace h1 := condT c29 h1
        refine XC.skip <| XQ.seq <| XC.seq <| XC.block <| XC.seq ?_
        refine XC.joinR (fun (v30 : Bool) => ⟨[(1, .v (.one (.ptr 0 0))), (5, .v (.one (dI s1))), (123, .v (.one (dB v30)))], [(0, .cells 48 (cE a0))], [], 1, 124, []⟩) (fun (v30 : Bool) => (cond v30
            (some (.done (.inr false)))
            (some (.next (w64 (s1 + 1))))) = some oo1) ?_ ?_
        ·
         refine bindK h1 (fun w2_ h2 h1 => ?_)
         refine XC.region <| rR rfl rfl rfl (RO.fieldOwn fo_48_8 rfl) <| rR rfl rfl rfl (RO.loadOwn ag_46 rfl rfl rfl) <| rM rfl rfl rfl ?_
         refine bindK h2 (fun x31 hx31 h2 => ?_)
         refine rR rfl rfl rfl (RO.indexE (α := Fn) sl_46 rfl (.d _) rfl hx31) <| rR rfl rfl rfl (RO.fieldPel fo_89_0 rfl) <| rR rfl rfl rfl (RO.loadPel ag_9 rfl rfl) <| rR rfl rfl rfl (RO.lenS st_9 rfl) <| rR rfl rfl rfl (RO.binInt rfl rfl rfl) <| rM rfl rfl rfl ?_
         refine XL.case (d := 104) (c := (decide (200 < (x31.name.length : Int)))) rfl (fun c32 => ?_) (fun c32 => ?_)
         ·
          replace h2 := condT c32 h2
          refine XL.no rfl rfl <| XL.no rfl rfl <| XL.no rfl rfl <| XL.no rfl rfl <| XL.no rfl rfl <| XL.no rfl rfl <| XL.no rfl rfl <| XL.no rfl rfl <| rR rfl rfl rfl (RO.pickT rfl rfl) <| rM rfl rfl rfl <| XL.no rfl rfl <| XL.no rfl rfl <| XL.no rfl rfl <| XL.no rfl rfl ?_
          refine XL.no rfl rfl <| XL.no rfl rfl <| XL.no rfl rfl <| XL.no rfl rfl <| rR rfl rfl rfl (RO.pickT rfl rfl) <| XL.nil ?_
          have e_ := Option.some.inj h2
          subst e_
          exact XQ.joinR true (stle (tR rfl (tR rfl (tR rfl tZ))) (hR rfl hZ) kZ rfl (Nat.zero_le _) rfl rfl rfl (bB rfl rfl bZ) rfl rfl) h1
         ·
          replace h2 := condF c32 h2
          refine rR rfl rfl rfl (RO.fieldOwn fo_48_8 rfl) <| rR rfl rfl rfl (RO.loadOwn ag_46 rfl rfl rfl) <| rM rfl rfl rfl ?_
          refine bindK h2 (fun x33 hx33 h2 => ?_)
          refine rR rfl rfl rfl (RO.indexE (α := Fn) sl_46 rfl (.d _) rfl hx33) <| rR rfl rfl rfl (RO.fieldPel fo_89_1 rfl) <| rR rfl rfl rfl (RO.loadPelAgg ag_42 rfl rfl rfl) ?_
          refine bindK h2 (fun x34 hx34 h2 => ?_)
          refine XL.put rfl rfl (lb rfl) (OpOK.callFun (m50_ok x33.ty x34 hx34) rfl (.cons (.agg (.cons (.d _) (.cons (.d _) (.cons (.d _) (.cons (.d _) (.cons (.d _) .nil)))))) .nil)) <| rR rfl rfl rfl (RO.not rfl) <| rR rfl rfl rfl (RO.pickF rfl rfl) <| rM rfl rfl rfl ?_
          refine XL.case (d := 114) (c := (!x34)) rfl (fun c35 => ?_) (fun c35 => ?_)
          ·
           replace h2 := condT c35 h2
           refine XL.no rfl rfl <| XL.no rfl rfl <| XL.no rfl rfl <| XL.no rfl rfl <| XL.no rfl rfl <| XL.no rfl rfl <| XL.no rfl rfl <| XL.no rfl rfl <| rR rfl rfl rfl (RO.pickT rfl rfl) <| XL.nil ?_
           have e_ := Option.some.inj h2
           subst e_
           exact XQ.joinR true (stle (tR rfl (tR rfl (tR rfl tZ))) (hR rfl hZ) kZ rfl (Nat.zero_le _) rfl rfl rfl (bB rfl rfl bZ) rfl rfl) h1
          ·
           replace h2 := condF c35 h2
           refine rR rfl rfl rfl (RO.fieldOwn fo_48_8 rfl) <| rR rfl rfl rfl (RO.loadOwn ag_46 rfl rfl rfl) <| rM rfl rfl rfl ?_
           refine bindK h2 (fun x36 hx36 h2 => ?_)
           refine rR rfl rfl rfl (RO.indexE (α := Fn) sl_46 rfl (.d _) rfl hx36) <| rR rfl rfl rfl (RO.fieldPel fo_89_3 rfl) <| rR rfl rfl rfl (RO.loadPelAgg ag_87 rfl rfl rfl) ?_
           refine bindK h2 (fun x37 hx37 h2 => ?_)
           refine XL.put rfl rfl (lb rfl) (OpOK.callFun (m51_ok x36.tree 0 x37 hx37) rfl (.cons (.agg (.cons (.d _) (.cons (.d _) (.cons (.d _) (.cons (.d _) (.cons (.d _) (.cons (.d _) (.cons (.d _) (.cons (.d _) .nil))))))))) (.cons (.one (.d _)) .nil))) <| rR rfl rfl rfl (RO.not rfl) <| rR rfl rfl rfl (RO.pickF rfl rfl) <| XL.nil ?_
           have e_ := Option.some.inj h2
           subst e_
           exact XQ.joinR (!x37) (stle (tR rfl (tR rfl (tR rfl tZ))) (hR rfl hZ) kZ rfl (Nat.zero_le _) rfl rfl rfl (bB rfl rfl bZ) rfl rfl) h1
        ·
         intro v30 h1
         refine XQ.seq ?_
         refine XC.cond (b := v30) rfl (fun c38 => ?_) (fun c38 => ?_)
         ·
          replace h1 := condT c38 h1
          refine XC.seq <| XC.region <| rA rfl rfl rfl <| XL.nil <| XQ.seq <| XC.ret ?_
          have e_ := Option.some.inj h1
          subst e_
          have e_ : _ = _ := ho1
          subst e_
          try dsimp only [Sum.elim_inl, Sum.elim_inr] at h0
          have e_ := Option.some.inj h0
          subst e_
          exact XQ.retF (fun _ _ h => h) rfl (RAs.tmp rfl .nil) (.cons (.one (.d _)) .nil)
         ·
          replace h1 := condF c38 h1
          refine XC.skip <| XQ.inBlock <| XQ.seq <| XC.region <| rM rfl rfl rfl <| rR rfl rfl rfl (RO.binInt rfl rfl rfl) <| rA rfl rfl rfl <| XL.nil ?_
          have e_ := Option.some.inj h1
          subst e_
          refine XQ.nextM (w64 (s1 + 1)) (stle (tR rfl (tR rfl tZ)) (hR rfl hZ) kZ rfl (Nat.zero_le _) rfl rfl rfl (bB rfl rfl bZ) rfl rfl) ho1
       ·
        replace h1 := condF c29 h1
        refine XC.exit <| XQ.thenE <| XQ.thenE ?_
        have e_ := Option.some.inj h1
        subst e_
        have e_ : _ = _ := ho1
        subst e_
        exact XQ.joinX () (stle tZ (hR rfl hZ) kZ rfl (Nat.zero_le _) rfl rfl rfl (bB rfl rfl bZ) rfl rfl) h0
      ·
       intro o27 h0
       refine XQ.blockX <| XQ.seq <| XC.seq <| XC.region <| rA rfl rfl rfl <| XL.nil <| XQ.seq <| XC.ret ?_
       have e_ := Option.some.inj h0
       subst e_
       exact XQ.retF (fun _ _ h => h) rfl (RAs.tmp rfl .nil) (.cons (.one (.d _)) .nil)
def m9_l0 (a0 : List Dcl) (s1 : Int) : Option (LO Int (Unit ⊕ Bool)) :=
  Option.bind (cond (decide (s1 < (a0.length : Int)))
    (some (decide (s1 < 80)))
    (some false)) (fun (v2 : Bool) => cond v2
    (Option.bind (idx a0 s1) fun (x4 : Dcl) =>
  Option.bind (m30 x4) fun (x5 : Bool) =>
  cond (!x5)
    (some (.done (.inr false)))
    (some (.next (w64 (s1 + 1)))))
    (some (.done (.inl ()))))
def m9 (a0 : List Dcl) : Option Bool :=
  Option.bind (loopN (m9_l0 a0) FUEL 0) (Sum.elim (fun (o1 : Unit) => some (decide ((a0.length : Int) ≤ 70))) (fun o => some o))
set_option maxRecDepth 100000 in
set_option maxHeartbeats 2000000 in
theorem m9_ok (a0 : List Dcl) (r : Bool) (h0 : m9 a0 = some r) : Fun Try.prog 9 [.one (dS a0)] (resOf [.one (dB r)]) := by
  unfold m9 at h0
  refine Fun.of_bodyM 9 23 Try.func9 rfl en_9 rfl (lb rfl) (fun S w => ?_)
  simp only [entry]
  refine XC.seq <| XC.region <| rA rfl rfl rfl <| XL.nil <| XQ.seq <| XC.seq <| XC.seq <| XC.region <| rA rfl rfl rfl <| XL.nil <| XQ.seq <| XC.block ?_
  refine XC.joinX 0 (fun (o1 : Unit) => ⟨[(0, .v (.one (dS a0)))], [], [], 0, 23, []⟩) (fun (o1 : Unit) => (some (decide ((a0.length : Int) ≤ 70))) = some r) ?_ ?_
  ·
   refine bindK h0 (fun o2 hl1 h0 => ?_)
   refine XC.loopM (m9_l0 a0) (fun s1 => ⟨[(0, .v (.one (dS a0))), (3, .v (.one (dI s1)))], [], [], 0, 23, []⟩) 0 o2 (stle (tR rfl (tR rfl tZ)) hZ kZ rfl (Nat.zero_le _) rfl rfl rfl bZ rfl rfl) hl1 (fun s1 n1 oo1 h1 ho1 => ?_)
   unfold m9_l0 at h1
   refine XC.seq <| XC.seq ?_
   refine XC.joinR (fun (v3 : Bool) => ⟨[(0, .v (.one (dS a0))), (3, .v (.one (dI s1))), (11, .v (.one (dB v3)))], [], [], 0, 23, []⟩) (fun (v3 : Bool) => (cond v3
       (Option.bind (idx a0 s1) fun (x5 : Dcl) =>
     Option.bind (m30 x5) fun (x6 : Bool) =>
     cond (!x6)
       (some (.done (.inr false)))
       (some (.next (w64 (s1 + 1)))))
       (some (.done (.inl ())))) = some oo1) ?_ ?_
   ·
    refine bindK h1 (fun w2_ h2 h1 => ?_)
    refine XC.region <| rM rfl rfl rfl <| rM rfl rfl rfl <| rR rfl rfl rfl (RO.lenE (α := Dcl) sl_22 rfl (.d _)) <| rR rfl rfl rfl (RO.binInt rfl rfl rfl) <| rM rfl rfl rfl ?_
    refine XL.case (d := 8) (c := (decide (s1 < (a0.length : Int)))) rfl (fun c4 => ?_) (fun c4 => ?_)
    ·
     replace h2 := condT c4 h2
     refine rM rfl rfl rfl <| rR rfl rfl rfl (RO.binInt rfl rfl rfl) <| rR rfl rfl rfl (RO.pickT rfl rfl) <| XL.nil ?_
     have e_ := Option.some.inj h2
     subst e_
     exact XQ.joinR (decide (s1 < 80)) (stle (tR rfl (tR rfl (tR rfl tZ))) hZ kZ rfl (Nat.zero_le _) rfl rfl rfl bZ rfl rfl) h1
    ·
     replace h2 := condF c4 h2
     refine XL.no rfl rfl <| XL.no rfl rfl <| rR rfl rfl rfl (RO.pickF rfl rfl) <| XL.nil ?_
     have e_ := Option.some.inj h2
     subst e_
     exact XQ.joinR false (stle (tR rfl (tR rfl (tR rfl tZ))) hZ kZ rfl (Nat.zero_le _) rfl rfl rfl bZ rfl rfl) h1
   ·
    intro v3 h1
    refine XQ.seq ?_
    refine XC.cond (b := v3) rfl (fun c5 => ?_) (fun c5 => ?_)
    ·
     replace h1 := condT c5 h1
     refine XC.skip <| XQ.seq <| XC.seq <| XC.block <| XC.seq <| XC.region <| rM rfl rfl rfl <| rM rfl rfl rfl ?_
     refine bindK h1 (fun x6 hx6 h1 => ?_)
     refine rR rfl rfl rfl (RO.indexE (α := Dcl) sl_22 rfl (.d _) rfl hx6) <| rR rfl rfl rfl (RO.loadPelCE (x6 : Dcl) ag_48 rfl) ?_
     refine bindK h1 (fun x7 hx7 h1 => ?_)
     refine XL.put rfl rfl (lb rfl) (OpOK.callFun (m30_ok x6 x7 hx7) rfl (.cons (.agg (.cons (.d _) (.cons (.d _) (.cons (.d _) (.cons (.d _) (.cons (.d _) (.cons (.d _) (.cons (.d _) (.cons (.d _) (.cons (.d _) (.cons (.d _) (.cons (.d _) (.cons (.d _) (.cons (.d _) (.cons (.d _) (.cons (.d _) (.cons (.d _) (.cons (.d _) (.cons (.d _) (.cons (.d _) (.cons (.d _) (.cons (.d _) (.cons (.d _) (.cons (.d _) .nil)))))))))))))))))))))))) .nil)) <| rR rfl rfl rfl (RO.not rfl) <| XL.nil <| XQ.seq ?_
     refine XC.cond (b := (!x7)) rfl (fun c8 => ?_) (fun c8 => ?_)
     ·
      replace h1 := condT c8 h1
      refine XC.seq <| XC.region <| rA rfl rfl rfl <| XL.nil <| XQ.seq <| XC.ret ?_
      have e_ := Option.some.inj h1
      subst e_
      have e_ : _ = _ := ho1
      subst e_
      try dsimp only [Sum.elim_inl, Sum.elim_inr] at h0
      have e_ := Option.some.inj h0
      subst e_
      exact XQ.retF (fun _ _ h => h) rfl (RAs.tmp rfl .nil) (.cons (.one (.d _)) .nil)
     ·
      replace h1 := condF c8 h1
      refine XC.skip <| XQ.inBlock <| XQ.seq <| XC.region <| rM rfl rfl rfl <| rR rfl rfl rfl (RO.binInt rfl rfl rfl) <| rA rfl rfl rfl <| XL.nil ?_
      have e_ := Option.some.inj h1
      subst e_
      refine XQ.nextM (w64 (s1 + 1)) (stle (tR rfl (tR rfl tZ)) hZ kZ rfl (Nat.zero_le _) rfl rfl rfl bZ rfl rfl) ho1
    ·
     replace h1 := condF c5 h1
     refine XC.exit <| XQ.thenE <| XQ.thenE ?_
     have e_ := Option.some.inj h1
     subst e_
     have e_ : _ = _ := ho1
     subst e_
     exact XQ.joinX () (stle (tR rfl tZ) hZ kZ rfl (Nat.zero_le _) rfl rfl rfl bZ rfl rfl) h0
  ·
   intro o1 h0
   refine XQ.blockX <| XQ.seq <| XC.seq <| XC.region <| rM rfl rfl rfl <| rR rfl rfl rfl (RO.lenE (α := Dcl) sl_22 rfl (.d _)) <| rR rfl rfl rfl (RO.binInt rfl rfl rfl) <| rA rfl rfl rfl <| XL.nil <| XQ.seq <| XC.ret ?_
   have e_ := Option.some.inj h0
   subst e_
   exact XQ.retF (fun _ _ h => h) rfl (RAs.tmp rfl .nil) (.cons (.one (.d _)) .nil)
end Go.Proofs.Ytijcchddnnnmdaa
namespace Go.Proofs.Ytijcchddnnnmdaa
open Go.RowKit Go.Shelf
set_option linter.unusedSimpArgs false
set_option linter.unusedVariables false
theorem en_29 : Enters Try.prog 29 := enters_of Try.func29 (by kernel_rfl) rfl
def m29_l0 (a0 : List Int) (a1 : List Int) (s1 : Int) : Option (LO Int (Unit ⊕ Bool)) :=
  cond (decide (s1 < (a0.length : Int)))
    (Option.bind (idx a0 s1) fun (x4 : Int) =>
  Option.bind (idx a1 s1) fun (x5 : Int) =>
  cond (x4 != x5)
    (some (.done (.inr false)))
    (some (.next (w64 (s1 + 1)))))
    (some (.done (.inl ())))
def m29 (a0 : List Int) (a1 : List Int) : Option Bool :=
  cond ((a0.length : Int) != (a1.length : Int))
    (some false)
    (Option.bind (loopN (m29_l0 a0 a1) FUEL 0) (Sum.elim (fun (o2 : Unit) => some true) (fun o => some o)))
set_option maxRecDepth 100000 in
set_option maxHeartbeats 2000000 in
theorem m29_ok (a0 : List Int) (a1 : List Int) (r : Bool) (h0 : m29 a0 a1 = some r) : Fun Try.prog 29 [.one (dS a0), .one (dS a1)] (resOf [.one (dB r)]) := by
  unfold m29 at h0
  refine Fun.of_bodyM 9 26 Try.func29 rfl en_29 rfl (lb rfl) (fun S w => ?_)
  simp only [entry]
  refine XC.seq <| XC.region <| rA rfl rfl rfl <| XL.nil <| XQ.seq <| XC.seq <| XC.seq <| XC.region <| rM rfl rfl rfl <| rR rfl rfl rfl (RO.lenE (α := Int) sl_54 rfl (.d _)) <| rM rfl rfl rfl <| rR rfl rfl rfl (RO.lenE (α := Int) sl_54 rfl (.d _)) <| rR rfl rfl rfl (RO.binInt rfl rfl rfl) <| XL.nil ?_
  refine XQ.seq ?_
  refine XC.cond (b := ((a0.length : Int) != (a1.length : Int))) rfl (fun c1 => ?_) (fun c1 => ?_)
  ·
   replace h0 := condT c1 h0
   refine XC.seq <| XC.region <| rA rfl rfl rfl <| XL.nil <| XQ.seq <| XC.ret ?_
   have e_ := Option.some.inj h0
   subst e_
   exact XQ.retF (fun _ _ h => h) rfl (RAs.tmp rfl .nil) (.cons (.one (.d _)) .nil)
  ·
   replace h0 := condF c1 h0
   refine XC.skip <| XQ.seq <| XC.seq <| XC.seq <| XC.region <| rM rfl rfl rfl <| rR rfl rfl rfl (RO.lenE (α := Int) sl_54 rfl (.d _)) <| rM rfl rfl rfl <| XL.nil <| XQ.seq <| XC.block ?_
   refine XC.joinX 0 (fun (o2 : Unit) => ⟨[], [], [], 0, 26, []⟩) (fun (o2 : Unit) => (some true) = some r) ?_ ?_
   ·
    refine bindK h0 (fun o3 hl1 h0 => ?_)
    refine XC.loopM (m29_l0 a0 a1) (fun s1 => ⟨[(0, .v (.one (dS a0))), (1, .v (.one (dS a1))), (12, .v (.one (dI (a0.length : Int)))), (13, .v (.one (dI s1)))], [], [], 0, 26, []⟩) 0 o3 (stle (tR rfl (tR rfl (tR rfl (tR rfl tZ)))) hZ kZ rfl (Nat.zero_le _) rfl rfl rfl bZ rfl rfl) hl1 (fun s1 n1 oo1 h1 ho1 => ?_)
    unfold m29_l0 at h1
    refine XC.seq <| XC.region <| rR rfl rfl rfl (RO.binInt rfl rfl rfl) <| XL.nil <| XQ.seq <| XC.seq ?_
    refine XC.cond (b := (decide (s1 < (a0.length : Int)))) rfl (fun c4 => ?_) (fun c4 => ?_)
    ·
     replace h1 := condT c4 h1
     refine XC.skip <| XQ.seq <| XC.seq <| XC.block <| XC.seq <| XC.region <| rM rfl rfl rfl <| rA rfl rfl rfl <| XL.nil <| XQ.seq <| XC.seq ?_
     refine XC.anyRun [] [] mixed (by kernel_rfl) (by kernel_rfl) (by kernel_rfl) ?_
     refine RunA.rd rfl rfl rfl (OpOK.of_ro (RO.move rfl)) rfl <| RunA.rd rfl rfl rfl (OpOK.of_ro (RO.move rfl)) rfl ?_
     refine bindK h1 (fun x5 hx5 h1 => ?_)
     refine RunA.rd rfl rfl rfl (OpOK.of_ro (RO.indexE (α := Int) sl_54 rfl (.d _) rfl hx5)) rfl <| RunA.rd rfl rfl rfl (OpOK.of_ro (RO.loadPel ag_3 rfl rfl)) rfl <| RunA.rd rfl rfl rfl (OpOK.of_ro (RO.move rfl)) rfl <| RunA.rd rfl rfl rfl (OpOK.of_ro (RO.move rfl)) rfl ?_
     refine bindK h1 (fun x6 hx6 h1 => ?_)
     refine RunA.rd rfl rfl rfl (OpOK.of_ro (RO.indexE (α := Int) sl_54 rfl (.d _) rfl hx6)) rfl <| RunA.rd rfl rfl rfl (OpOK.of_ro (RO.loadPel ag_3 rfl rfl)) rfl <| RunA.rd rfl rfl rfl (OpOK.of_ro (RO.binInt rfl rfl rfl)) rfl ?_
     refine RunA.nil ⟨?ex, _, _, rfl, ?_⟩
     case ex => exact trivial
     refine XQ.less (st' := ⟨[(0, .v (.one (dS a0))), (1, .v (.one (dS a1))), (12, .v (.one (dI (a0.length : Int)))), (13, .v (.one (dI s1))), (24, .v (.one (dB (x5 != x6))))], [], [], 0, 26, []⟩) (stle (tR rfl (tR rfl (tR rfl (tR rfl (tR rfl tZ))))) hZ kZ rfl (Nat.zero_le _) rfl rfl rfl bZ rfl rfl) <| XQ.seq ?_
     refine XC.cond (b := (x5 != x6)) rfl (fun c7 => ?_) (fun c7 => ?_)
     ·
      replace h1 := condT c7 h1
      refine XC.seq <| XC.region <| rA rfl rfl rfl <| XL.nil <| XQ.seq <| XC.ret ?_
      have e_ := Option.some.inj h1
      subst e_
      have e_ : _ = _ := ho1
      subst e_
      try dsimp only [Sum.elim_inl, Sum.elim_inr] at h0
      have e_ := Option.some.inj h0
      subst e_
      exact XQ.retF (fun _ _ h => h) rfl (RAs.tmp rfl .nil) (.cons (.one (.d _)) .nil)
     ·
      replace h1 := condF c7 h1
      refine XC.skip <| XQ.inBlock <| XQ.seq <| XC.region <| rR rfl rfl rfl (RO.binInt rfl rfl rfl) <| rM rfl rfl rfl <| XL.nil ?_
      have e_ := Option.some.inj h1
      subst e_
      refine XQ.nextM (w64 (s1 + 1)) (stle (tR rfl (tR rfl (tR rfl (tR rfl tZ)))) hZ kZ rfl (Nat.zero_le _) rfl rfl rfl bZ rfl rfl) ho1
    ·
     replace h1 := condF c4 h1
     refine XC.exit <| XQ.thenE <| XQ.thenE ?_
     have e_ := Option.some.inj h1
     subst e_
     have e_ : _ = _ := ho1
     subst e_
     exact XQ.joinX () (stle tZ hZ kZ rfl (Nat.zero_le _) rfl rfl rfl bZ rfl rfl) h0
   ·
    intro o2 h0
    refine XQ.blockX <| XQ.seq <| XC.seq <| XC.region <| rA rfl rfl rfl <| XL.nil <| XQ.seq <| XC.ret ?_
    have e_ := Option.some.inj h0
    subst e_
    exact XQ.retF (fun _ _ h => h) rfl (RAs.tmp rfl .nil) (.cons (.one (.d _)) .nil)
end Go.Proofs.Ytijcchddnnnmdaa
namespace Go.Proofs.Ytijcchddnnnmdaa
open Go.RowKit Go.Lib
set_option linter.unusedSimpArgs false
set_option linter.unusedVariables false
set_option linter.unusedSectionVars false
theorem loop_any {α σ τ β : Type} {step : τ → Option (LO τ β)} (l : List α) (mk : Int → σ → τ) (hlen : l.length ≤ 900000000)
    (hin : ∀ (a : List α) (x : α) (b : List α) (s : σ), l = a ++ x :: b → (∃ r, step (mk (a.length : Int) s) = some (.done r)) ∨ ∃ s', step (mk (a.length : Int) s) = some (.next (mk (w64 ((a.length : Int) + 1)) s')))
    (hout : ∀ s, ∃ r, step (mk (l.length : Int) s) = some (.done r)) (s0 : σ) : ∃ r, loopN step FUEL (mk 0 s0) = some r := by
  obtain ⟨r, h, -⟩ := loop_all l mk (fun _ _ => True) (fun _ => True) hlen (fun a x b s e _ => (hin a x b s e).elim (fun ⟨r, h⟩ => .inl ⟨r, h, trivial⟩) (fun ⟨s', h⟩ => .inr ⟨s', h, trivial⟩)) (fun s _ => let ⟨r, h⟩ := hout s; ⟨r, h, trivial⟩) s0 trivial
  exact ⟨r, h⟩
theorem size_some : ∀ (n : Nat) (t : Tm), t.size ≤ n → t.size ≤ 900000000 → ∃ r, recO m65F n t = some r
  | 0, t, h, _ => by rw [t.size_eq] at h; omega
  | n + 1, t, h, h2 => by
    show ∃ r, m65s (recO m65F n) t = some r
    unfold m65s
    have hl := kids_len t
    obtain ⟨r, e⟩ := loop_any (step := m65_l0 t (recO m65F n)) t.kids (fun i (s : Int) => (s, i)) (by omega)
      (fun a x b s e => by
        have hx := Tm.kid_size (t := t) (k := x) (by rw [e]; simp)
        obtain ⟨r, hr⟩ := size_some n x (by omega) (by omega)
        refine .inr ⟨w64 (s + r), ?_⟩
        unfold m65_l0
        dsimp only
        rw [e, lt_mid, idx_mid]
        simp only [cond_true, Option.bind_some]
        rw [hr]; rfl) (fun s => ⟨s, by unfold m65_l0; dsimp only; rw [lt_end]; rfl⟩) 1
    rw [e]; exact ⟨r, rfl⟩
theorem depth_some : ∀ (n : Nat) (t : Tm), t.size ≤ n → t.size ≤ 900000000 → ∃ r, recO m66F n t = some r
  | 0, t, h, _ => by rw [t.size_eq] at h; omega
  | n + 1, t, h, h2 => by
    show ∃ r, m66s (recO m66F n) t = some r
    unfold m66s
    have hl := kids_len t
    obtain ⟨r, e⟩ := loop_any (step := m66_l0 t (recO m66F n)) t.kids (fun i (s : Int) => (s, i)) (by omega)
      (fun a x b s e => by
        have hx := Tm.kid_size (t := t) (k := x) (by rw [e]; simp)
        obtain ⟨r, hr⟩ := depth_some n x (by omega) (by omega)
        refine .inr ⟨max s r, ?_⟩
        unfold m66_l0
        dsimp only
        rw [e, lt_mid, idx_mid]
        simp only [cond_true, Option.bind_some]
        rw [hr]; rfl) (fun s => ⟨s, by unfold m66_l0; dsimp only; rw [lt_end]; rfl⟩) 0
    rw [e]; exact ⟨_, rfl⟩
theorem m50_some (t : Tm) (h : t.size ≤ 900000000) : ∃ b, m50 t = some b := by
  unfold m50
  obtain ⟨r, e⟩ := size_some FUEL t (by unfold FUEL; omega) h
  obtain ⟨r2, e2⟩ := depth_some FUEL t (by unfold FUEL; omega) h
  unfold m65 m66
  rw [e, e2]
  simp only [Option.bind_some]
  cases decide (r ≤ 400) <;> exact ⟨_, rfl⟩
theorem tree_some : ∀ (n : Nat) (t : Tr) (d : Int), t.size ≤ n → t.size ≤ 900000000 → ∃ r, recO m51F n (t, d) = some r
  | 0, t, d, h, _ => by rw [t.size_eq] at h; omega
  | n + 1, t, d, h, h2 => by
    show ∃ r, m51s (recO m51F n) t d = some r
    unfold m51s
    have hl := branches_len t
    have hsz := t.size_eq
    obtain ⟨b, hb⟩ := m50_some t.body (by omega)
    obtain ⟨r, e⟩ := loop_any (step := m51_l0 t (recO m51F n) d) t.branches (fun i (s : Unit) => i) (by omega)
      (fun a x c s e => by
        have hx := Tr.kid_size (t := t) (b := x) (by rw [e]; simp)
        obtain ⟨r, hr⟩ := tree_some n x.tree (w64 (d + 1)) (by omega) (by omega)
        unfold m51_l0
        rw [e, lt_mid, idx_mid]
        simp only [cond_true, Option.bind_some]
        rw [hr]
        cases r with
        | false => exact .inl ⟨_, rfl⟩
        | true =>
          simp only [Option.bind_some, Bool.not_true, cond_false]
          cases decide (200 < (x.ctor.length : Int)) with
          | true => exact .inl ⟨_, rfl⟩
          | false => exact .inr ⟨(), rfl⟩) (fun s => ⟨_, by unfold m51_l0; rw [lt_end]; rfl⟩) ()
    rw [e, hb]
    cases decide (40 < d) with
    | true => exact ⟨_, rfl⟩
    | false =>
      cases decide (40 < (t.branches.length : Int)) with
      | true => exact ⟨_, rfl⟩
      | false =>
        cases b with
        | false => exact ⟨_, rfl⟩
        | true =>
          cases r with
          | inl u => exact ⟨_, rfl⟩
          | inr u => exact ⟨_, rfl⟩
theorem m30_some (d : Dcl) (h : d.size ≤ 900000000) : ∃ b, m30 d = some b := by
  have h1 := ctors_len d
  have h2 := funs_len d
  have h3 := rules_len d
  have hty := term_mem (d := d) (t := d.ty) (by unfold termsOf; simp)
  have hval := term_mem (d := d) (t := d.value) (by unfold termsOf; simp)
  have hrt := term_mem (d := d) (t := d.rcr.ty) (by unfold termsOf; simp)
  obtain ⟨b1, e1⟩ := m50_some d.ty (by omega)
  obtain ⟨b2, e2⟩ := m50_some d.value (by omega)
  obtain ⟨b3, e3⟩ := m50_some d.rcr.ty (by omega)
  obtain ⟨r1, l1⟩ := loop_any (step := m30_l0 d) d.ctors (fun i (s : Unit) => i) (by omega)
    (fun a x c s e => by
      have hx := term_mem (d := d) (t := x.ty) (by unfold termsOf; rw [e]; simp)
      obtain ⟨r, hr⟩ := m50_some x.ty (by omega)
      unfold m30_l0
      rw [e, lt_mid, idx_mid]
      simp only [cond_true, Option.bind_some]
      cases decide (200 < (x.name.length : Int)) with
      | true => exact .inl ⟨_, rfl⟩
      | false =>
        simp only [cond_false]
        rw [hr]
        cases r with
        | false => exact .inl ⟨_, rfl⟩
        | true => exact .inr ⟨(), rfl⟩) (fun s => ⟨_, by unfold m30_l0; rw [lt_end]; rfl⟩) ()
  obtain ⟨r2, l2⟩ := loop_any (step := m30_l1 d) d.rcr.rules (fun i (s : Unit) => i) (by omega)
    (fun a x c s e => by
      have hx := term_mem (d := d) (t := x) (by unfold termsOf; rw [e]; simp)
      obtain ⟨r, hr⟩ := m50_some x (by omega)
      unfold m30_l1
      rw [e, lt_mid, idx_mid]
      simp only [cond_true, Option.bind_some]
      rw [hr]
      cases r with
      | false => exact .inl ⟨_, rfl⟩
      | true => exact .inr ⟨(), rfl⟩) (fun s => ⟨_, by unfold m30_l1; rw [lt_end]; rfl⟩) ()
  obtain ⟨r3, l3⟩ := loop_any (step := m30_l2 d) d.funs (fun i (s : Unit) => i) (by omega)
    (fun a x c s e => by
      have hx := term_mem (d := d) (t := x.ty) (by unfold termsOf; rw [e]; simp)
      have hf := fun_mem (d := d) (f := x) (by rw [e]; simp)
      obtain ⟨r, hr⟩ := m50_some x.ty (by omega)
      obtain ⟨q, hq⟩ := tree_some FUEL x.tree 0 (by unfold FUEL; omega) (by omega)
      unfold m30_l2
      rw [e, lt_mid, idx_mid]
      simp only [cond_true, Option.bind_some]
      cases decide (200 < (x.name.length : Int)) with
      | true => exact .inl ⟨_, rfl⟩
      | false =>
        simp only [cond_false]
        rw [hr]
        cases r with
        | false => exact .inl ⟨_, rfl⟩
        | true =>
          simp only [Option.bind_some, Bool.not_true, cond_false]
          unfold m51
          rw [hq]
          cases q with
          | false => exact .inl ⟨_, rfl⟩
          | true => exact .inr ⟨(), rfl⟩) (fun s => ⟨_, by unfold m30_l2; rw [lt_end]; rfl⟩) ()
  have tail : ∃ b, Option.bind (loopN (m30_l0 d) FUEL 0) (Sum.elim (fun (o3 : Unit) => Option.bind (loopN (m30_l1 d) FUEL 0) (Sum.elim (fun (o4 : Unit) => Option.bind (loopN (m30_l2 d) FUEL 0) (Sum.elim (fun (o5 : Unit) => some true) (fun o => some o))) (fun o => some o))) (fun o => some o)) = some b := by
    rw [l1, l2, l3]
    cases r1 with
    | inr u => exact ⟨_, rfl⟩
    | inl u =>
      cases r2 with
      | inr u => exact ⟨_, rfl⟩
      | inl u =>
        cases r3 with
        | inr u => exact ⟨_, rfl⟩
        | inl u => exact ⟨_, rfl⟩
  obtain ⟨bt, ht⟩ := tail
  unfold m30
  rw [e1, e2, e3, ht]
  cases decide (200 < (d.name.length : Int)) with
  | true => exact ⟨_, rfl⟩
  | false =>
    cases b1 with
    | false => exact ⟨_, rfl⟩
    | true =>
      cases b2 with
      | false => exact ⟨_, rfl⟩
      | true =>
        cases decide (40 < (d.ctors.length : Int)) with
        | true => exact ⟨_, rfl⟩
        | false =>
          cases decide (12 < (d.funs.length : Int)) with
          | true => exact ⟨_, rfl⟩
          | false =>
            cases b3 with
            | false => exact ⟨_, rfl⟩
            | true =>
              cases h7 : decide (40 < (d.rcr.rules.length : Int)) with
              | true => exact ⟨false, by simp [h7]⟩
              | false => exact ⟨bt, by simp [h7]⟩
theorem m9_some (env : List Dcl) (h : envSz env ≤ 900000000) : ∃ b, m9 env = some b ∧ (b = true → env.length ≤ 70) := by
  have hel := env_len env
  obtain ⟨r, e, hr⟩ := loop_all (step := m9_l0 env) env (fun i (s : Unit) => i) (fun _ _ => True) (fun r => r = .inl () ∨ r = .inr false) (by omega)
    (fun a x c s e _ => by
      have hx := size_le (env := env) (d := x) (by rw [e]; simp)
      obtain ⟨r, hr⟩ := m30_some x (by omega)
      unfold m9_l0
      rw [e, lt_mid, idx_mid]
      simp only [cond_true, Option.bind_some]
      cases decide ((a.length : Int) < 80) with
      | false => exact .inl ⟨_, rfl, .inl rfl⟩
      | true =>
        simp only [cond_true]
        rw [hr]
        cases r with
        | false => exact .inl ⟨_, rfl, .inr rfl⟩
        | true => exact .inr ⟨(), rfl, trivial⟩) (fun s _ => ⟨_, by unfold m9_l0; rw [lt_end]; rfl, .inl rfl⟩) () trivial
  unfold m9
  rw [e]
  rcases hr with rfl | rfl
  · exact ⟨_, rfl, fun hb => by have := of_decide_eq_true hb; omega⟩
  · exact ⟨false, rfl, fun hb => by cases hb⟩
end Go.Proofs.Ytijcchddnnnmdaa
namespace Go.Proofs.Ytijcchddnnnmdaa
open Go.RowKit Go.Shelf
set_option linter.unusedSimpArgs false
set_option linter.unusedVariables false
def m23o_l0 (x10 : (List Bs)) (s2 : Int × (GMap Bs Int)) (s3 : Int × (GMap Bs Int)) : Option (LO (Int × (GMap Bs Int)) (((GMap Bs Int)) ⊕ (((List (List Int)) × (GMap Bs Int)) ⊕ Unit ⊕ Unit))) :=
  cond (decide (s3.1 < (x10.length : Int)))
    (Option.bind (idx x10 s3.1) fun (x13 : Bs) =>
  cond (gmHas s3.2 x13)
    (some (.done (.inr (.inr (.inl ())))))
    (some (.next ((w64 (s3.1 + 1)), (gmSet s3.2 x13 s2.1)))))
    (some (.done (.inl s3.2)))
def m23o_l1 (nn : Nat) (a0 : List Dcl) (s2 : Int × (GMap Bs Int)) : Option (LO (Int × (GMap Bs Int)) (((GMap Bs Int)) ⊕ (((List (List Int)) × (GMap Bs Int)) ⊕ Unit ⊕ Unit))) :=
  cond (decide (s2.1 < ((nn : Nat) : Int)))
    (Option.bind (idx a0 s2.1) fun (x8 : Dcl) =>
  guardO (Nat.beq a0.length nn)
  (Option.bind (m37 x8) fun (x10 : (List Bs)) =>
  Option.bind (loopN (m23o_l0 x10 s2) FUEL (0, s2.2)) (Sum.elim (fun (o11 : (GMap Bs Int)) => some (.next ((w64 (s2.1 + 1)), o11))) (fun o => some (.done (.inr o))))))
    (some (.done (.inl s2.2)))
def m23o_l2 (x11 : (List Bs)) (o6 : (GMap Bs Int)) (s3 : (List Int) × Int) : Option (LO ((List Int) × Int) (((List Int)) ⊕ (((List (List Int)) × (GMap Bs Int)) ⊕ Unit ⊕ Unit))) :=
  cond (decide (s3.2 < (x11.length : Int)))
    (Option.bind (idx x11 s3.2) fun (x14 : Bs) =>
  cond (!(gmHas o6 x14))
    (some (.done (.inr (.inr (.inr ())))))
    (guardO (Nat.ble (s3.1.length + ([(gmVal o6 x14)]).length) 1000000000)
  (some (.next ((s3.1 ++ ([(gmVal o6 x14)])), (w64 (s3.2 + 1)))))))
    (some (.done (.inl s3.1)))
def m23o_l3 (nn : Nat) (a0 : List Dcl) (o6 : (GMap Bs Int)) (s2 : Int × (List (List Int))) : Option (LO (Int × (List (List Int))) (((List (List Int))) ⊕ (((List (List Int)) × (GMap Bs Int)) ⊕ Unit ⊕ Unit))) :=
  cond (decide (s2.1 < ((nn : Nat) : Int)))
    (Option.bind (idx a0 s2.1) fun (x9 : Dcl) =>
  guardO (Nat.beq a0.length nn)
  (Option.bind (m53 x9) fun (x11 : (List Bs)) =>
  Option.bind (loopN (m23o_l2 x11 o6) FUEL (([] : List Int), 0)) (Sum.elim (fun (o12 : (List Int)) => Option.bind (sortF o12) fun (x13 : List Int) =>
  Option.bind (compactF x13 ((Enc.encL o12).length)) fun (x14 : List Int) =>
  guardO (Nat.ble (s2.2.length + ([x14]).length) 1000000000)
  (some (.next ((w64 (s2.1 + 1)), (s2.2 ++ ([x14])))))) (fun o => some (.done (.inr o))))))
    (some (.done (.inl s2.2)))
def m23o (a0 : List Dcl) (nn : Nat) : Option ((List (List Int)) × Int) :=
  Option.bind (Option.bind (loopN (m23o_l1 nn a0) FUEL (0, gmNil)) (Sum.elim (fun (o6 : (GMap Bs Int)) => Option.bind (loopN (m23o_l3 nn a0 o6) FUEL (0, ([] : List (List Int)))) (Sum.elim (fun (o7 : (List (List Int))) => some (.inl (o7, o6))) (fun o => some o))) (fun o => some o))) (Sum.elim (fun (y1 : (List (List Int)) × (GMap Bs Int)) => some (y1.1, 0)) (Sum.elim (fun (y2 : Unit) => some (([] : List (List Int)), 8)) (fun (y3 : Unit) => some (([] : List (List Int)), 9))))
set_option maxRecDepth 100000 in
set_option maxHeartbeats 2000000 in
theorem m23o_ok (a0 : List Dcl) (nn : Nat) (r : (List (List Int)) × Int) (h0 : m23o a0 nn = some r) : CallM Try.prog 23 [.one (.osl 0 0 nn nn)] ⟨[(0, .cells 48 (flatE a0))], [], 1⟩ (resOf [.one (dS r.1), .one (dI r.2)]) ⟨[(0, .cells 48 (flatE a0))], [], 6⟩ := by
  unfold m23o at h0
  refine CallM.of_bodyD ⟨[(2, .v (.one (dS r.1))), (3, .v (.one (dI r.2)))], [(0, .cells 48 (flatE a0))], [], 6, 14, []⟩ rfl rfl en_23 (lb rfl) rfl (RAs.tmp rfl (RAs.tmp rfl .nil)) (fun w0 M V0 Q hv0 hQ0 => ?_)
  simp only [entry]
  refine XC.seq <| XC.region <| rA rfl rfl rfl <| rA rfl rfl rfl <| XL.nil <| XQ.seq <| XC.seq <| XC.region <| rM rfl rfl rfl ?_
  refine bindK h0 (fun y5 h1 h0 => ?_)
  have hc4 : CallM Try.prog 34 [.one (.osl 0 0 nn nn)] ⟨[(0, .cells 48 (flatE a0))], [], 1⟩ (resOf (((Sum.elim (fun (y1 : (List (List Int)) × (GMap Bs Int)) => ([.agg [dA 4 y1.1, .mp 2], .one (dI 0)] : List AV)) (Sum.elim (fun (y2 : Unit) => ([.agg [dN, .d (.v (.map none))], .one (dI 8)] : List AV)) (fun (y3 : Unit) => ([.agg [dN, .d (.v (.map none))], .one (dI 9)] : List AV))))) y5)) ⟨(((Sum.elim (fun (y1 : (List (List Int)) × (GMap Bs Int)) => (⟨[(2, .v (.one (.ptr 1 0))), (3, .v (.one (dI 0)))], [(0, .cells 48 (flatE a0)), (1, .cells 72 [dA 4 y1.1, .mp 2]), (2, .mp (gmE y1.2.1) y1.2.2)], [(4, some ⟨54, 1, (Enc.encL y1.1).length, []⟩)], 5, 88, []⟩ : St)) (Sum.elim (fun (y2 : Unit) => (⟨[(2, .v (.one (.ptr 1 0))), (3, .v (.one (dI 8)))], [(0, .cells 48 (flatE a0)), (1, .cells 72 [dN, .d (.v (.map none))])], [], 5, 88, []⟩ : St)) (fun (y3 : Unit) => (⟨[(2, .v (.one (.ptr 1 0))), (3, .v (.one (dI 9)))], [(0, .cells 48 (flatE a0)), (1, .cells 72 [dN, .d (.v (.map none))])], [], 7, 88, []⟩ : St))))) y5).hp, (((Sum.elim (fun (y1 : (List (List Int)) × (GMap Bs Int)) => (⟨[(2, .v (.one (.ptr 1 0))), (3, .v (.one (dI 0)))], [(0, .cells 48 (flatE a0)), (1, .cells 72 [dA 4 y1.1, .mp 2]), (2, .mp (gmE y1.2.1) y1.2.2)], [(4, some ⟨54, 1, (Enc.encL y1.1).length, []⟩)], 5, 88, []⟩ : St)) (Sum.elim (fun (y2 : Unit) => (⟨[(2, .v (.one (.ptr 1 0))), (3, .v (.one (dI 8)))], [(0, .cells 48 (flatE a0)), (1, .cells 72 [dN, .d (.v (.map none))])], [], 5, 88, []⟩ : St)) (fun (y3 : Unit) => (⟨[(2, .v (.one (.ptr 1 0))), (3, .v (.one (dI 9)))], [(0, .cells 48 (flatE a0)), (1, .cells 72 [dN, .d (.v (.map none))])], [], 7, 88, []⟩ : St))))) y5).tk, (((Sum.elim (fun (y1 : (List (List Int)) × (GMap Bs Int)) => (⟨[(2, .v (.one (.ptr 1 0))), (3, .v (.one (dI 0)))], [(0, .cells 48 (flatE a0)), (1, .cells 72 [dA 4 y1.1, .mp 2]), (2, .mp (gmE y1.2.1) y1.2.2)], [(4, some ⟨54, 1, (Enc.encL y1.1).length, []⟩)], 5, 88, []⟩ : St)) (Sum.elim (fun (y2 : Unit) => (⟨[(2, .v (.one (.ptr 1 0))), (3, .v (.one (dI 8)))], [(0, .cells 48 (flatE a0)), (1, .cells 72 [dN, .d (.v (.map none))])], [], 5, 88, []⟩ : St)) (fun (y3 : Unit) => (⟨[(2, .v (.one (.ptr 1 0))), (3, .v (.one (dI 9)))], [(0, .cells 48 (flatE a0)), (1, .cells 72 [dN, .d (.v (.map none))])], [], 7, 88, []⟩ : St))))) y5).nx⟩ := by
   refine CallM.of_bodyT y5 ((Sum.elim (fun (y1 : (List (List Int)) × (GMap Bs Int)) => (⟨[(2, .v (.one (.ptr 1 0))), (3, .v (.one (dI 0)))], [(0, .cells 48 (flatE a0)), (1, .cells 72 [dA 4 y1.1, .mp 2]), (2, .mp (gmE y1.2.1) y1.2.2)], [(4, some ⟨54, 1, (Enc.encL y1.1).length, []⟩)], 5, 88, []⟩ : St)) (Sum.elim (fun (y2 : Unit) => (⟨[(2, .v (.one (.ptr 1 0))), (3, .v (.one (dI 8)))], [(0, .cells 48 (flatE a0)), (1, .cells 72 [dN, .d (.v (.map none))])], [], 5, 88, []⟩ : St)) (fun (y3 : Unit) => (⟨[(2, .v (.one (.ptr 1 0))), (3, .v (.one (dI 9)))], [(0, .cells 48 (flatE a0)), (1, .cells 72 [dN, .d (.v (.map none))])], [], 7, 88, []⟩ : St))))) ((Sum.elim (fun (y1 : (List (List Int)) × (GMap Bs Int)) => ([.agg [dA 4 y1.1, .mp 2], .one (dI 0)] : List AV)) (Sum.elim (fun (y2 : Unit) => ([.agg [dN, .d (.v (.map none))], .one (dI 8)] : List AV)) (fun (y3 : Unit) => ([.agg [dN, .d (.v (.map none))], .one (dI 9)] : List AV))))) rfl rfl en_34 (lb rfl) (fun z_ => by cases z_ with
     | inl _ => rfl
     | inr z_ => exact (by cases z_ <;> rfl)) (fun z_ => by cases z_ with
     | inl _ => exact (RAs.agg ag_72 rfl rfl rfl rfl (RAs.tmp rfl .nil))
     | inr z_ => exact (by cases z_ with
     | inl _ => exact (RAs.agg ag_72 rfl rfl rfl rfl (RAs.tmp rfl .nil))
     | inr _ => exact (RAs.agg ag_72 rfl rfl rfl rfl (RAs.tmp rfl .nil)))) (fun w0 M V0 Q hv1 hQ1 => ?_)
   simp only [entry]
   refine XC.seq <| XC.region <| XL.put rfl rfl (lb rfl) (OpOK.alloc z_72 rfl) <| rA rfl rfl rfl <| XL.nil <| XQ.seq <| XC.seq <| XC.region <| XL.put rfl rfl (lb rfl) (OpOK.makeMapG Bs Int) <| rR rfl rfl rfl (RO.build1 bd_72 rfl rfl rfl) <| XL.put rfl rfl (lb rfl) (OpOK.alloc z_72 rfl) <| XL.eff rfl rfl (OpOK.store ag_72 rfl rfl rfl rfl (lb rfl) rfl) <| XL.nil <| XQ.seq ?_
   refine XC.seq <| XC.seq <| XC.region <| rM rfl rfl rfl <| rR rfl rfl rfl (RO.lenOsl sl_22 rfl) <| rM rfl rfl rfl <| XL.nil <| XQ.seq <| XC.block ?_
   refine XC.joinX 0 (fun (o6 : (GMap Bs Int)) => ⟨[(0, .v (.one (.osl 0 0 nn nn))), (2, .v (.one (.ptr 1 0))), (4, .v (.one (.ptr 3 0)))], [(0, .cells 48 (flatE a0)), (1, .cells 72 [dN, .d (.v (.map none))]), (2, .mp (gmE o6.1) o6.2), (3, .cells 72 [dN, .mp 2])], [], 4, 88, []⟩) (fun (o6 : (GMap Bs Int)) => (Option.bind (loopN (m23o_l3 nn a0 o6) FUEL (0, ([] : List (List Int)))) (Sum.elim (fun (o7 : (List (List Int))) => some (.inl (o7, o6))) (fun o => some o))) = some y5) ?_ ?_
   ·
    refine bindK h1 (fun o7 hl2 h1 => ?_)
    refine XC.loopM (m23o_l1 nn a0) (fun s2 => ⟨[(0, .v (.one (.osl 0 0 nn nn))), (2, .v (.one (.ptr 1 0))), (4, .v (.one (.ptr 3 0))), (20, .v (.one (.osl 0 0 nn nn))), (21, .v (.one (dI ((nn : Nat) : Int)))), (22, .v (.one (dI s2.1)))], [(0, .cells 48 (flatE a0)), (1, .cells 72 [dN, .d (.v (.map none))]), (2, .mp (gmE s2.2.1) s2.2.2), (3, .cells 72 [dN, .mp 2])], [], 4, 88, []⟩) (0, gmNil) o7 (stle (tR rfl (tR rfl (tR rfl (tR rfl (tR rfl (tR rfl tZ)))))) (hR rfl (hR rfl (hR rfl (hR rfl hZ)))) kZ rfl (Nat.le_trans hv1 (lb rfl)) rfl rfl rfl (bF rfl (bB rfl rfl (bG rfl (bB rfl rfl bZ)))) rfl rfl) hl2 (fun s2 n2 oo2 h2 ho2 => ?_)
    unfold m23o_l1 at h2
    refine XC.seq <| XC.region <| rR rfl rfl rfl (RO.binInt rfl rfl rfl) <| XL.nil <| XQ.seq <| XC.seq ?_
    refine XC.cond (b := (decide (s2.1 < ((nn : Nat) : Int)))) rfl (fun c8 => ?_) (fun c8 => ?_)
    ·
     replace h2 := condT c8 h2
     refine XC.skip <| XQ.seq <| XC.seq <| XC.block <| XC.seq <| XC.region <| rM rfl rfl rfl ?_
     refine bindK h2 (fun x9 hx9 h2 => ?_)
     refine guardK h2 (fun g10 h2 => ?_)
     refine rR rfl rfl rfl (RO.indexO (α := Dcl) sl_22 rfl rfl hx9 g10) <| rR rfl rfl rfl (RO.loadOE (α := Dcl) (ys := [dI x9.kind, dS8 x9.name, dI x9.params, dI x9.ty.kind, dI x9.ty.index, dS8 x9.ty.name, dS x9.ty.levels, dS x9.ty.kids, dI x9.value.kind, dI x9.value.index, dS8 x9.value.name, dS x9.value.levels, dS x9.value.kids, dI x9.fixed, dS x9.ctors, dI x9.rcr.params, dI x9.rcr.ty.kind, dI x9.rcr.ty.index, dS8 x9.rcr.ty.name, dS x9.rcr.ty.levels, dS x9.rcr.ty.kids, dS x9.rcr.rules, dS x9.funs]) ag_48 rfl rfl hx9 rfl) <| XL.put rfl rfl (lb rfl) (OpOK.alloc z_48 rfl) <| rA rfl rfl rfl <| XL.eff rfl rfl (OpOK.storeCE (x9 : Dcl) ag_48 rfl rfl rfl rfl rfl) <| XL.nil <| XQ.seq <| XC.seq <| XC.region <| rR rfl rfl rfl (RO.loadCE (x9 : Dcl) ag_48 rfl rfl) ?_
     refine bindK h2 (fun x11 hx11 h2 => ?_)
     refine XL.put rfl rfl (lb rfl) (OpOK.callFun (m37_ok x9 x11 hx11) rfl (.cons (.agg (.cons (.d _) (.cons (.d _) (.cons (.d _) (.cons (.d _) (.cons (.d _) (.cons (.d _) (.cons (.d _) (.cons (.d _) (.cons (.d _) (.cons (.d _) (.cons (.d _) (.cons (.d _) (.cons (.d _) (.cons (.d _) (.cons (.d _) (.cons (.d _) (.cons (.d _) (.cons (.d _) (.cons (.d _) (.cons (.d _) (.cons (.d _) (.cons (.d _) (.cons (.d _) .nil)))))))))))))))))))))))) .nil)) <| rR rfl rfl rfl (RO.lenE (α := Bs) sl_23 rfl (.d _)) <| rM rfl rfl rfl <| XL.nil <| XQ.seq <| XC.block ?_
     refine XC.joinX 2 (fun (o12 : (GMap Bs Int)) => ⟨[(0, .v (.one (.osl 0 0 nn nn))), (2, .v (.one (.ptr 1 0))), (4, .v (.one (.ptr 3 0))), (20, .v (.one (.osl 0 0 nn nn))), (21, .v (.one (dI ((nn : Nat) : Int)))), (22, .v (.one (dI s2.1)))], [(0, .cells 48 (flatE a0)), (1, .cells 72 [dN, .d (.v (.map none))]), (2, .mp (gmE o12.1) o12.2), (3, .cells 72 [dN, .mp 2]), (4, .cells 48 (cE x9))], [], 5, 88, []⟩) (fun (o12 : (GMap Bs Int)) => (some (.next ((w64 (s2.1 + 1)), o12))) = some oo2) ?_ ?_
     ·
      refine bindK h2 (fun o13 hl3 h2 => ?_)
      refine XC.loopM (m23o_l0 x11 s2) (fun s3 => ⟨[(0, .v (.one (.osl 0 0 nn nn))), (2, .v (.one (.ptr 1 0))), (4, .v (.one (.ptr 3 0))), (5, .v (.one (dI s2.1))), (20, .v (.one (.osl 0 0 nn nn))), (21, .v (.one (dI ((nn : Nat) : Int)))), (22, .v (.one (dI s2.1))), (28, .v (.one (dS x11))), (29, .v (.one (dI (x11.length : Int)))), (30, .v (.one (dI s3.1)))], [(0, .cells 48 (flatE a0)), (1, .cells 72 [dN, .d (.v (.map none))]), (2, .mp (gmE s3.2.1) s3.2.2), (3, .cells 72 [dN, .mp 2]), (4, .cells 48 (cE x9))], [], 5, 88, []⟩) (0, s2.2) o13 (stle (tR rfl (tR rfl (tR rfl (tR rfl (tR rfl (tR rfl (tR rfl (tR rfl (tR rfl (tR rfl tZ)))))))))) (hR rfl (hR rfl (hR rfl (hR rfl (hR rfl hZ))))) kZ rfl (Nat.le_trans hv1 (lb rfl)) rfl rfl rfl (bF rfl (bB rfl rfl (bG rfl (bB rfl rfl (bB rfl rfl bZ))))) rfl rfl) hl3 (fun s3 n3 oo3 h3 ho3 => ?_)
      unfold m23o_l0 at h3
      refine XC.seq <| XC.region <| rR rfl rfl rfl (RO.binInt rfl rfl rfl) <| XL.nil <| XQ.seq <| XC.seq ?_
      refine XC.cond (b := (decide (s3.1 < (x11.length : Int)))) rfl (fun c14 => ?_) (fun c14 => ?_)
      ·
       replace h3 := condT c14 h3
       refine XC.skip <| XQ.seq <| XC.seq <| XC.block <| XC.seq <| XC.region ?_
       refine bindK h3 (fun x15 hx15 h3 => ?_)
       refine rR rfl rfl rfl (RO.indexE (α := Bs) sl_23 rfl (.d _) rfl hx15) <| rR rfl rfl rfl (RO.loadPel ag_9 rfl rfl) <| rA rfl rfl rfl <| XL.nil <| XQ.seq <| XC.seq <| XC.seq <| XC.region <| rR rfl rfl rfl (RO.fieldOwn fo_72_1 rfl) <| rR rfl rfl rfl (RO.loadOwn ag_70 rfl rfl rfl) <| rM rfl rfl rfl <| rR rfl rfl rfl (RO.lookupGT (M := s3.2) (k := x15) mp_70 zok_int rfl rfl rfl) <| rM rfl rfl rfl <| rR rfl rfl rfl (RO.extract rfl rfl) ?_
       refine rR rfl rfl rfl (RO.extract rfl rfl) <| rA rfl rfl rfl <| rA rfl rfl rfl <| XL.nil <| XQ.seq <| XC.seq <| XC.region <| rM rfl rfl rfl <| XL.nil <| XQ.seq ?_
       refine XC.cond (b := (gmHas s3.2 x15)) rfl (fun c16 => ?_) (fun c16 => ?_)
       ·
        replace h3 := condT c16 h3
        refine XC.seq <| XC.region <| rR rfl rfl rfl (RO.build0 bd_72 rfl ) <| XL.eff rfl rfl (OpOK.store ag_72 rfl rfl rfl rfl (lb rfl) rfl) <| rA rfl rfl rfl <| XL.nil <| XQ.seq <| XC.ret ?_
        have e_ := Option.some.inj h3
        subst e_
        have e_ : _ = _ := ho3
        subst e_
        try dsimp only [Sum.elim_inl, Sum.elim_inr] at h2
        have e_ := Option.some.inj h2
        subst e_
        have e_ : _ = _ := ho2
        subst e_
        try dsimp only [Sum.elim_inl, Sum.elim_inr] at h1
        have e_ := Option.some.inj h1
        subst e_
        exact hQ1 _ _ _ (.inr rfl) rfl (show StLe _ _ ⟨[(2, .v (.one (.ptr 1 0))), (3, .v (.one (dI 8)))], [(0, .cells 48 (flatE a0)), (1, .cells 72 [dN, .d (.v (.map none))])], [], 5, 88, []⟩ from (stle (tR rfl (tR rfl tZ)) (hR rfl (hR rfl hZ)) kZ rfl (Nat.le_trans hv1 (lb rfl)) rfl rfl rfl (bF rfl (bB rfl rfl bZ)) rfl rfl))
       ·
        replace h3 := condF c16 h3
        refine XC.skip <| XQ.seq <| XC.region <| rR rfl rfl rfl (RO.fieldOwn fo_72_1 rfl) <| rR rfl rfl rfl (RO.loadOwn ag_70 rfl rfl rfl) <| rM rfl rfl rfl <| rM rfl rfl rfl <| XL.eff rfl rfl (OpOK.mapSetG (M := s3.2) (k := x15) (v := s2.1) mp_70 rfl rfl rfl rfl rfl) <| XL.nil <| XQ.inBlock <| XQ.seq <| XC.region <| rR rfl rfl rfl (RO.binInt rfl rfl rfl) <| rM rfl rfl rfl ?_
        refine XL.nil ?_
        have e_ := Option.some.inj h3
        subst e_
        refine XQ.nextM ((w64 (s3.1 + 1)), (gmSet s3.2 x15 s2.1)) (stle (tR rfl (tR rfl (tR rfl (tR rfl (tR rfl (tR rfl (tR rfl (tR rfl (tR rfl (tR rfl tZ)))))))))) (hR rfl (hR rfl (hR rfl (hR rfl (hR rfl hZ))))) kZ rfl (Nat.le_trans hv1 (lb rfl)) rfl rfl rfl (bF rfl (bB rfl rfl (bG rfl (bB rfl rfl (bB rfl rfl bZ))))) rfl rfl) ho3
      ·
       replace h3 := condF c14 h3
       refine XC.exit <| XQ.thenE <| XQ.thenE ?_
       have e_ := Option.some.inj h3
       subst e_
       have e_ : _ = _ := ho3
       subst e_
       exact XQ.joinX s3.2 (stle (tR rfl (tR rfl (tR rfl (tR rfl (tR rfl (tR rfl tZ)))))) (hR rfl (hR rfl (hR rfl (hR rfl (hR rfl hZ))))) kZ rfl (Nat.le_trans hv1 (lb rfl)) rfl rfl rfl (bF rfl (bB rfl rfl (bG rfl (bB rfl rfl (bB rfl rfl bZ))))) rfl rfl) h2
     ·
      intro o12 h2
      refine XQ.blockX <| XQ.inBlock <| XQ.seq <| XC.region <| rR rfl rfl rfl (RO.binInt rfl rfl rfl) <| rM rfl rfl rfl <| XL.nil ?_
      have e_ := Option.some.inj h2
      subst e_
      refine XQ.nextM ((w64 (s2.1 + 1)), o12) (stle (tR rfl (tR rfl (tR rfl (tR rfl (tR rfl (tR rfl tZ)))))) (hR rfl (hR rfl (hR rfl (hR rfl hZ)))) kZ rfl (Nat.le_trans hv1 (lb rfl)) rfl rfl rfl (bF rfl (bB rfl rfl (bG rfl (bB rfl rfl bZ)))) rfl rfl) ho2
    ·
     replace h2 := condF c8 h2
     refine XC.exit <| XQ.thenE <| XQ.thenE ?_
     have e_ := Option.some.inj h2
     subst e_
     have e_ : _ = _ := ho2
     subst e_
     exact XQ.joinX s2.2 (stle (tR rfl (tR rfl (tR rfl tZ))) (hR rfl (hR rfl (hR rfl (hR rfl hZ)))) kZ rfl (Nat.le_trans hv1 (lb rfl)) rfl rfl rfl (bF rfl (bB rfl rfl (bG rfl (bB rfl rfl bZ)))) rfl rfl) h1
   ·
    intro o6 h1
    refine XQ.blockX <| XQ.seq <| XC.seq <| XC.seq <| XC.region <| rM rfl rfl rfl <| rR rfl rfl rfl (RO.lenOsl sl_22 rfl) <| rM rfl rfl rfl <| XL.nil <| XQ.seq <| XC.block ?_
    refine XC.joinX 4 (fun (o17 : (List (List Int))) => ⟨[(2, .v (.one (.ptr 1 0))), (4, .v (.one (.ptr 3 0)))], [(0, .cells 48 (flatE a0)), (1, .cells 72 [dN, .d (.v (.map none))]), (2, .mp (gmE o6.1) o6.2), (3, .cells 72 [dA 4 o17, .mp 2])], [(4, some ⟨54, 1, (Enc.encL o17).length, []⟩)], 5, 88, []⟩) (fun (o17 : (List (List Int))) => (some (.inl (o17, o6))) = some y5) ?_ ?_
    ·
     refine XC.adoptC (i := 3) (off := 0) 54 1 rfl rfl ?_
     refine bindK h1 (fun o18 hl2 h1 => ?_)
     refine XC.loopM (m23o_l3 nn a0 o6) (fun s2 => ⟨[(2, .v (.one (.ptr 1 0))), (4, .v (.one (.ptr 3 0))), (49, .v (.one (.osl 0 0 nn nn))), (50, .v (.one (dI ((nn : Nat) : Int)))), (51, .v (.one (dI s2.1)))], [(0, .cells 48 (flatE a0)), (1, .cells 72 [dN, .d (.v (.map none))]), (2, .mp (gmE o6.1) o6.2), (3, .cells 72 [dA 4 s2.2, .mp 2])], [(4, some ⟨54, 1, (Enc.encL s2.2).length, []⟩)], 5, 88, []⟩) (0, ([] : List (List Int))) o18 (stle (tR rfl (tR rfl (tR rfl (tR rfl (tR rfl tZ))))) (hR rfl (hR rfl (hR rfl (hR rfl hZ)))) (kR rfl kZ) rfl (Nat.le_trans hv1 (lb rfl)) rfl rfl rfl (bF rfl (bB rfl rfl (bG rfl (bB rfl rfl bZ)))) rfl rfl) hl2 (fun s2 n2 oo2 h2 ho2 => ?_)
     unfold m23o_l3 at h2
     refine XC.seq <| XC.region <| rR rfl rfl rfl (RO.binInt rfl rfl rfl) <| XL.nil <| XQ.seq <| XC.seq ?_
     refine XC.cond (b := (decide (s2.1 < ((nn : Nat) : Int)))) rfl (fun c19 => ?_) (fun c19 => ?_)
     ·
      replace h2 := condT c19 h2
      refine XC.skip <| XQ.seq <| XC.seq <| XC.block <| XC.seq <| XC.region ?_
      refine bindK h2 (fun x20 hx20 h2 => ?_)
      refine guardK h2 (fun g21 h2 => ?_)
      refine rR rfl rfl rfl (RO.indexO (α := Dcl) sl_22 rfl rfl hx20 g21) <| rR rfl rfl rfl (RO.loadOE (α := Dcl) (ys := [dI x20.kind, dS8 x20.name, dI x20.params, dI x20.ty.kind, dI x20.ty.index, dS8 x20.ty.name, dS x20.ty.levels, dS x20.ty.kids, dI x20.value.kind, dI x20.value.index, dS8 x20.value.name, dS x20.value.levels, dS x20.value.kids, dI x20.fixed, dS x20.ctors, dI x20.rcr.params, dI x20.rcr.ty.kind, dI x20.rcr.ty.index, dS8 x20.rcr.ty.name, dS x20.rcr.ty.levels, dS x20.rcr.ty.kids, dS x20.rcr.rules, dS x20.funs]) ag_48 rfl rfl hx20 rfl) <| XL.put rfl rfl (lb rfl) (OpOK.alloc z_48 rfl) <| XL.eff rfl rfl (OpOK.storeCE (x20 : Dcl) ag_48 rfl rfl rfl rfl rfl) <| XL.nil <| XQ.seq <| XC.seq <| XC.region <| rA rfl rfl rfl <| XL.nil <| XQ.seq <| XC.seq <| XC.seq <| XC.region ?_
      refine rR rfl rfl rfl (RO.loadCE (x20 : Dcl) ag_48 rfl rfl) ?_
      refine bindK h2 (fun x22 hx22 h2 => ?_)
      refine XL.put rfl rfl (lb rfl) (OpOK.callFun (m53_ok x20 x22 hx22) rfl (.cons (.agg (.cons (.d _) (.cons (.d _) (.cons (.d _) (.cons (.d _) (.cons (.d _) (.cons (.d _) (.cons (.d _) (.cons (.d _) (.cons (.d _) (.cons (.d _) (.cons (.d _) (.cons (.d _) (.cons (.d _) (.cons (.d _) (.cons (.d _) (.cons (.d _) (.cons (.d _) (.cons (.d _) (.cons (.d _) (.cons (.d _) (.cons (.d _) (.cons (.d _) (.cons (.d _) .nil)))))))))))))))))))))))) .nil)) <| rR rfl rfl rfl (RO.lenE (α := Bs) sl_23 rfl (.d _)) <| rM rfl rfl rfl <| XL.nil <| XQ.seq <| XC.block ?_
      refine XC.joinX 6 (fun (o23 : (List Int)) => ⟨[(2, .v (.one (.ptr 1 0))), (4, .v (.one (.ptr 3 0))), (13, .v (.one (.apv 6 1 ((Enc.encL o23).length) []))), (49, .v (.one (.osl 0 0 nn nn))), (50, .v (.one (dI ((nn : Nat) : Int)))), (51, .v (.one (dI s2.1)))], [(0, .cells 48 (flatE a0)), (1, .cells 72 [dN, .d (.v (.map none))]), (2, .mp (gmE o6.1) o6.2), (3, .cells 72 [dA 4 s2.2, .mp 2]), (5, .cells 48 (cE x20))], [(4, some ⟨54, 1, (Enc.encL s2.2).length, []⟩), (6, some ⟨3, 1, (Enc.encL o23).length, (Enc.encL o23).flatten⟩)], 7, 88, []⟩) (fun (o23 : (List Int)) => (Option.bind (sortF o23) fun (x24 : List Int) =>
        Option.bind (compactF x24 ((Enc.encL o23).length)) fun (x25 : List Int) =>
        guardO (Nat.ble (s2.2.length + ([x25]).length) 1000000000)
        (some (.next ((w64 (s2.1 + 1)), (s2.2 ++ ([x25])))))) = some oo2) ?_ ?_
      ·
       refine XC.adoptT (t := 13) 3 1 rfl <| XC.privT (α := Int) (t := 13) rfl rfl ?_
       refine bindK h2 (fun o24 hl3 h2 => ?_)
       refine XC.loopM (m23o_l2 x22 o6) (fun s3 => ⟨[(2, .v (.one (.ptr 1 0))), (4, .v (.one (.ptr 3 0))), (13, .v (.one (.apv 6 1 ((Enc.encL s3.1).length) []))), (49, .v (.one (.osl 0 0 nn nn))), (50, .v (.one (dI ((nn : Nat) : Int)))), (51, .v (.one (dI s2.1))), (56, .v (.one (dS x22))), (57, .v (.one (dI (x22.length : Int)))), (58, .v (.one (dI s3.2)))], [(0, .cells 48 (flatE a0)), (1, .cells 72 [dN, .d (.v (.map none))]), (2, .mp (gmE o6.1) o6.2), (3, .cells 72 [dA 4 s2.2, .mp 2]), (5, .cells 48 (cE x20))], [(4, some ⟨54, 1, (Enc.encL s2.2).length, []⟩), (6, some ⟨3, 1, (Enc.encL s3.1).length, (Enc.encL s3.1).flatten⟩)], 7, 88, []⟩) (([] : List Int), 0) o24 (stle (tR rfl (tR rfl (tR rfl (tR rfl (tR rfl (tR rfl (tR rfl (tR rfl (tR rfl tZ))))))))) (hR rfl (hR rfl (hR rfl (hR rfl (hR rfl hZ))))) (kR rfl (kR rfl kZ)) rfl (Nat.le_trans hv1 (lb rfl)) rfl rfl rfl (bF rfl (bB rfl rfl (bG rfl (bB rfl rfl (bB rfl rfl bZ))))) rfl rfl) hl3 (fun s3 n3 oo3 h3 ho3 => ?_)
       unfold m23o_l2 at h3
       refine XC.seq <| XC.region <| rR rfl rfl rfl (RO.binInt rfl rfl rfl) <| XL.nil <| XQ.seq <| XC.seq ?_
       refine XC.cond (b := (decide (s3.2 < (x22.length : Int)))) rfl (fun c25 => ?_) (fun c25 => ?_)
       ·
        replace h3 := condT c25 h3
        refine XC.skip <| XQ.seq <| XC.seq <| XC.block <| XC.seq <| XC.region ?_
        refine bindK h3 (fun x26 hx26 h3 => ?_)
        refine rR rfl rfl rfl (RO.indexE (α := Bs) sl_23 rfl (.d _) rfl hx26) <| rR rfl rfl rfl (RO.loadPel ag_9 rfl rfl) <| rA rfl rfl rfl <| XL.nil <| XQ.seq <| XC.seq <| XC.region <| rR rfl rfl rfl (RO.fieldOwn fo_72_1 rfl) <| rR rfl rfl rfl (RO.loadOwn ag_70 rfl rfl rfl) <| rM rfl rfl rfl <| rR rfl rfl rfl (RO.lookupGT (M := o6) (k := x26) mp_70 zok_int rfl rfl rfl) <| rM rfl rfl rfl <| rR rfl rfl rfl (RO.extract rfl rfl) <| rR rfl rfl rfl (RO.extract rfl rfl) ?_
        refine rA rfl rfl rfl <| rA rfl rfl rfl <| XL.nil <| XQ.seq <| XC.seq <| XC.seq <| XC.region <| rM rfl rfl rfl <| rR rfl rfl rfl (RO.not rfl) <| XL.nil <| XQ.seq ?_
        refine XC.cond (b := (!(gmHas o6 x26))) rfl (fun c27 => ?_) (fun c27 => ?_)
        ·
         replace h3 := condT c27 h3
         refine XC.seq <| XC.region <| rR rfl rfl rfl (RO.build0 bd_72 rfl ) <| XL.eff rfl rfl (OpOK.store ag_72 rfl rfl rfl rfl (lb rfl) rfl) <| rA rfl rfl rfl <| XL.nil <| XQ.seq <| XC.ret ?_
         have e_ := Option.some.inj h3
         subst e_
         have e_ : _ = _ := ho3
         subst e_
         try dsimp only [Sum.elim_inl, Sum.elim_inr] at h2
         have e_ := Option.some.inj h2
         subst e_
         have e_ : _ = _ := ho2
         subst e_
         try dsimp only [Sum.elim_inl, Sum.elim_inr] at h1
         have e_ := Option.some.inj h1
         subst e_
         exact hQ1 _ _ _ (.inr rfl) rfl (show StLe _ _ ⟨[(2, .v (.one (.ptr 1 0))), (3, .v (.one (dI 9)))], [(0, .cells 48 (flatE a0)), (1, .cells 72 [dN, .d (.v (.map none))])], [], 7, 88, []⟩ from (stle (tR rfl (tR rfl tZ)) (hR rfl (hR rfl hZ)) kZ rfl (Nat.le_trans hv1 (lb rfl)) rfl rfl rfl (bF rfl (bB rfl rfl bZ)) rfl rfl))
        ·
         replace h3 := condF c27 h3
         refine XC.skip <| XQ.seq <| XC.region <| rM rfl rfl rfl <| rM rfl rfl rfl <| XL.put rfl rfl (lb rfl) (OpOK.lit1E (α := Int) ((gmVal o6 x26)) sl_54 z_3 rfl rfl (lb rfl) (lb rfl) rfl rfl (.cons (.d _) .nil) rfl) ?_
         refine guardK h3 (fun g28 h3 => ?_)
         refine XL.put rfl rfl (lb rfl) (OpOK.appendPr (α := Int) (l := s3.1) (l2 := ([(gmVal o6 x26)] : List Int)) sl_54 el_3 rfl rfl rfl rfl (.app _ _) rfl g28) <| rA rfl rfl rfl <| XL.nil <| XQ.inBlock <| XQ.seq <| XC.region <| rR rfl rfl rfl (RO.binInt rfl rfl rfl) <| rM rfl rfl rfl <| XL.nil ?_
         have e_ := Option.some.inj h3
         subst e_
         refine XQ.nextM ((s3.1 ++ ([(gmVal o6 x26)])), (w64 (s3.2 + 1))) (stle (tR rfl (tR rfl (tR rfl (tR rfl (tR rfl (tR rfl (tR rfl (tR rfl (tR rfl tZ))))))))) (hR rfl (hR rfl (hR rfl (hR rfl (hR rfl hZ))))) (kR rfl (kR rfl kZ)) rfl (Nat.le_trans hv1 (lb rfl)) rfl rfl rfl (bF rfl (bB rfl rfl (bG rfl (bB rfl rfl (bB rfl rfl bZ))))) rfl rfl) ho3
       ·
        replace h3 := condF c25 h3
        refine XC.exit <| XQ.thenE <| XQ.thenE ?_
        have e_ := Option.some.inj h3
        subst e_
        have e_ : _ = _ := ho3
        subst e_
        exact XQ.joinX s3.1 (stle (tR rfl (tR rfl (tR rfl (tR rfl (tR rfl (tR rfl tZ)))))) (hR rfl (hR rfl (hR rfl (hR rfl (hR rfl hZ))))) (kR rfl (kR rfl kZ)) rfl (Nat.le_trans hv1 (lb rfl)) rfl rfl rfl (bF rfl (bB rfl rfl (bG rfl (bB rfl rfl (bB rfl rfl bZ))))) rfl rfl) h2
      ·
       intro o23 h2
       refine XQ.blockX <| XQ.seq <| XC.seq <| XC.region <| rM rfl rfl rfl ?_
       refine bindK h2 (fun x29 hx29 h2 => ?_)
       refine XL.put rfl rfl (lb rfl) (OpOK.callG (hp1' := []) (tk1' := [(6, some ⟨3, 1, (Enc.encL o23).length, (Enc.encL x29).flatten⟩)]) (hpF := [(0, .cells 48 (flatE a0)), (1, .cells 72 [dN, .d (.v (.map none))]), (2, .mp (gmE o6.1) o6.2), (3, .cells 72 [dA 4 s2.2, .mp 2]), (5, .cells 48 (cE x20))]) (tkF := [(4, some ⟨54, 1, (Enc.encL s2.2).length, []⟩)]) (res2 := resOf []) (nx2 := 7) [6] rfl rfl (sortF_ok o23 x29 hx29) rfl rfl qZ rfl rfl gZ (jR rfl jZ) (hR rfl (hR rfl (hR rfl (hR rfl (hR rfl hZ))))) (kR rfl kZ) rfl rfl rfl rfl rfl bZ rfl rfl rfl rfl) <| XL.nil <| XQ.seq ?_
       refine XC.anyRun [3, 5, 7] [(0, 1), (1, 1)] mixed (by kernel_rfl) (by kernel_rfl) (by kernel_rfl) ?_
       refine RunA.rd rfl rfl rfl (OpOK.of_ro (RO.fieldOwn fo_72_0 rfl)) rfl <| RunA.rd rfl rfl rfl (OpOK.of_ro (RO.loadOwn ag_57 rfl rfl rfl)) rfl <| RunA.rd rfl rfl rfl (OpOK.of_ro (RO.move rfl)) rfl ?_
       refine bindK h2 (fun x30 hx30 h2 => ?_)
       refine RunA.eff rfl rfl rfl (OpOK.callG (hp1' := []) (tk1' := [(7, some ⟨3, 1, (Enc.encL x30).length, []⟩)]) (hpF := [(0, .cells 48 (flatE a0)), (1, .cells 72 [dN, .d (.v (.map none))]), (2, .mp (gmE o6.1) o6.2), (3, .cells 72 [dA 4 s2.2, .mp 2]), (5, .cells 48 (cE x20))]) (tkF := [(4, some ⟨54, 1, (Enc.encL s2.2).length, []⟩)]) (res2 := resOf [.one (dA 7 x30)]) (nx2 := 8) [6] rfl rfl (compactF_ok x29 ((Enc.encL o23).length) x30 hx30) rfl rfl qZ rfl rfl gZ (jR rfl jZ) (hR rfl (hR rfl (hR rfl (hR rfl (hR rfl hZ))))) (kR rfl kZ) rfl rfl rfl rfl rfl bZ rfl rfl rfl rfl) rfl <| RunA.rd rfl rfl rfl (OpOK.data1E (α := List Int) (x30) sl_57 z_54 rfl rfl (lb rfl) rfl rfl (.cons (.app _ _ _) .nil) rfl) rfl ?_
       refine guardK h2 (fun g31 h2 => ?_)
       refine RunA.eff rfl rfl rfl (OpOK.appendE (α := List Int) sl_57 el_54 rfl rfl rfl rfl rfl (.d _) g31) rfl <| RunA.rd rfl rfl rfl (OpOK.of_ro (RO.fieldOwn fo_72_0 rfl)) rfl <| RunA.eff rfl rfl rfl (OpOK.store ag_57 rfl rfl rfl rfl (lb rfl) rfl) rfl ?_
       refine RunA.nil ⟨?ex, _, _, rfl, ?_⟩
       case ex => exact ⟨⟨_, rfl, _, _, rfl, rfl, rfl, .inl ⟨rfl, _, OpOK.of_ro (RO.fieldOwn fo_72_0 rfl), rfl⟩⟩, ⟨_, rfl, _, _, rfl, rfl, rfl, .inl ⟨rfl, _, OpOK.of_ro (RO.loadOwn ag_57 rfl rfl rfl), rfl⟩⟩, trivial⟩
       refine XQ.less (st' := ⟨[(2, .v (.one (.ptr 1 0))), (4, .v (.one (.ptr 3 0))), (49, .v (.one (.osl 0 0 nn nn))), (50, .v (.one (dI ((nn : Nat) : Int)))), (51, .v (.one (dI s2.1)))], [(0, .cells 48 (flatE a0)), (1, .cells 72 [dN, .d (.v (.map none))]), (2, .mp (gmE o6.1) o6.2), (3, .cells 72 [dA 4 ((s2.2 ++ ([x30])) : List (List Int)), .mp 2]), (5, .cells 48 (cE x20))], [(4, some ⟨54, 1, (Enc.encL ((s2.2 ++ ([x30])) : List (List Int))).length, []⟩), (7, some ⟨3, 1, (Enc.encL x30).length, []⟩)], 8, 88, []⟩) (stle (tR rfl (tR rfl (tR rfl (tR rfl (tR rfl tZ))))) (hR rfl (hR rfl (hR rfl (hR rfl (hR rfl hZ))))) (kR rfl (kR rfl kZ)) rfl (Nat.le_trans hv1 (lb rfl)) rfl rfl rfl (bF rfl (bB rfl rfl (bG rfl (bB rfl rfl (bB rfl rfl bZ))))) rfl rfl) <| XQ.inBlock <| XQ.seq <| XC.region <| rR rfl rfl rfl (RO.binInt rfl rfl rfl) <| rM rfl rfl rfl <| XL.nil ?_
       have e_ := Option.some.inj h2
       subst e_
       refine XQ.nextM ((w64 (s2.1 + 1)), (s2.2 ++ ([x30]))) (stle (tR rfl (tR rfl (tR rfl (tR rfl (tR rfl tZ))))) (hR rfl (hR rfl (hR rfl (hR rfl hZ)))) (kR rfl kZ) rfl (Nat.le_trans hv1 (lb rfl)) rfl rfl rfl (bF rfl (bB rfl rfl (bG rfl (bB rfl rfl bZ)))) rfl rfl) ho2
     ·
      replace h2 := condF c19 h2
      refine XC.exit <| XQ.thenE <| XQ.thenE ?_
      have e_ := Option.some.inj h2
      subst e_
      have e_ : _ = _ := ho2
      subst e_
      exact XQ.joinX s2.2 (stle (tR rfl (tR rfl tZ)) (hR rfl (hR rfl (hR rfl (hR rfl hZ)))) (kR rfl kZ) rfl (Nat.le_trans hv1 (lb rfl)) rfl rfl rfl (bF rfl (bB rfl rfl (bG rfl (bB rfl rfl bZ)))) rfl rfl) h1
    ·
     intro o17 h1
     refine XQ.blockX <| XQ.seq <| XC.seq <| XC.region <| rR rfl rfl rfl (RO.loadOwnAgg ag_72 rfl rfl rfl rfl) <| XL.eff rfl rfl (OpOK.store ag_72 rfl rfl rfl rfl (lb rfl) rfl) <| rA rfl rfl rfl <| XL.nil <| XQ.seq <| XC.ret ?_
     have e_ := Option.some.inj h1
     subst e_
     exact hQ1 _ _ _ (.inr rfl) rfl (show StLe _ _ ⟨[(2, .v (.one (.ptr 1 0))), (3, .v (.one (dI 0)))], [(0, .cells 48 (flatE a0)), (1, .cells 72 [dA 4 o17, .mp 2]), (2, .mp (gmE o6.1) o6.2)], [(4, some ⟨54, 1, (Enc.encL o17).length, []⟩)], 5, 88, []⟩ from (stle (tR rfl (tR rfl tZ)) (hR rfl (hR rfl (hR rfl hZ))) (kR rfl kZ) rfl (Nat.le_trans hv1 (lb rfl)) rfl rfl rfl (bF rfl (bB rfl rfl (bG rfl bZ))) rfl rfl))
  refine sumK (C := fun q_ => CallM Try.prog 34 [.one (.osl 0 0 nn nn)] ⟨[(0, .cells 48 (flatE a0))], [], 1⟩ (resOf (((Sum.elim (fun (y1 : (List (List Int)) × (GMap Bs Int)) => ([.agg [dA 4 y1.1, .mp 2], .one (dI 0)] : List AV)) (Sum.elim (fun (y2 : Unit) => ([.agg [dN, .d (.v (.map none))], .one (dI 8)] : List AV)) (fun (y3 : Unit) => ([.agg [dN, .d (.v (.map none))], .one (dI 9)] : List AV))))) q_)) ⟨(((Sum.elim (fun (y1 : (List (List Int)) × (GMap Bs Int)) => (⟨[(2, .v (.one (.ptr 1 0))), (3, .v (.one (dI 0)))], [(0, .cells 48 (flatE a0)), (1, .cells 72 [dA 4 y1.1, .mp 2]), (2, .mp (gmE y1.2.1) y1.2.2)], [(4, some ⟨54, 1, (Enc.encL y1.1).length, []⟩)], 5, 88, []⟩ : St)) (Sum.elim (fun (y2 : Unit) => (⟨[(2, .v (.one (.ptr 1 0))), (3, .v (.one (dI 8)))], [(0, .cells 48 (flatE a0)), (1, .cells 72 [dN, .d (.v (.map none))])], [], 5, 88, []⟩ : St)) (fun (y3 : Unit) => (⟨[(2, .v (.one (.ptr 1 0))), (3, .v (.one (dI 9)))], [(0, .cells 48 (flatE a0)), (1, .cells 72 [dN, .d (.v (.map none))])], [], 7, 88, []⟩ : St))))) q_).hp, (((Sum.elim (fun (y1 : (List (List Int)) × (GMap Bs Int)) => (⟨[(2, .v (.one (.ptr 1 0))), (3, .v (.one (dI 0)))], [(0, .cells 48 (flatE a0)), (1, .cells 72 [dA 4 y1.1, .mp 2]), (2, .mp (gmE y1.2.1) y1.2.2)], [(4, some ⟨54, 1, (Enc.encL y1.1).length, []⟩)], 5, 88, []⟩ : St)) (Sum.elim (fun (y2 : Unit) => (⟨[(2, .v (.one (.ptr 1 0))), (3, .v (.one (dI 8)))], [(0, .cells 48 (flatE a0)), (1, .cells 72 [dN, .d (.v (.map none))])], [], 5, 88, []⟩ : St)) (fun (y3 : Unit) => (⟨[(2, .v (.one (.ptr 1 0))), (3, .v (.one (dI 9)))], [(0, .cells 48 (flatE a0)), (1, .cells 72 [dN, .d (.v (.map none))])], [], 7, 88, []⟩ : St))))) q_).tk, (((Sum.elim (fun (y1 : (List (List Int)) × (GMap Bs Int)) => (⟨[(2, .v (.one (.ptr 1 0))), (3, .v (.one (dI 0)))], [(0, .cells 48 (flatE a0)), (1, .cells 72 [dA 4 y1.1, .mp 2]), (2, .mp (gmE y1.2.1) y1.2.2)], [(4, some ⟨54, 1, (Enc.encL y1.1).length, []⟩)], 5, 88, []⟩ : St)) (Sum.elim (fun (y2 : Unit) => (⟨[(2, .v (.one (.ptr 1 0))), (3, .v (.one (dI 8)))], [(0, .cells 48 (flatE a0)), (1, .cells 72 [dN, .d (.v (.map none))])], [], 5, 88, []⟩ : St)) (fun (y3 : Unit) => (⟨[(2, .v (.one (.ptr 1 0))), (3, .v (.one (dI 9)))], [(0, .cells 48 (flatE a0)), (1, .cells 72 [dN, .d (.v (.map none))])], [], 7, 88, []⟩ : St))))) q_).nx⟩) hc4 h0 (fun y1 hc4 h0 => ?_) (fun z_ hc4 h0 => sumK (C := fun q_ => CallM Try.prog 34 [.one (.osl 0 0 nn nn)] ⟨[(0, .cells 48 (flatE a0))], [], 1⟩ (resOf (((Sum.elim (fun (y1 : (List (List Int)) × (GMap Bs Int)) => ([.agg [dA 4 y1.1, .mp 2], .one (dI 0)] : List AV)) (Sum.elim (fun (y2 : Unit) => ([.agg [dN, .d (.v (.map none))], .one (dI 8)] : List AV)) (fun (y3 : Unit) => ([.agg [dN, .d (.v (.map none))], .one (dI 9)] : List AV))))) (.inr q_))) ⟨(((Sum.elim (fun (y1 : (List (List Int)) × (GMap Bs Int)) => (⟨[(2, .v (.one (.ptr 1 0))), (3, .v (.one (dI 0)))], [(0, .cells 48 (flatE a0)), (1, .cells 72 [dA 4 y1.1, .mp 2]), (2, .mp (gmE y1.2.1) y1.2.2)], [(4, some ⟨54, 1, (Enc.encL y1.1).length, []⟩)], 5, 88, []⟩ : St)) (Sum.elim (fun (y2 : Unit) => (⟨[(2, .v (.one (.ptr 1 0))), (3, .v (.one (dI 8)))], [(0, .cells 48 (flatE a0)), (1, .cells 72 [dN, .d (.v (.map none))])], [], 5, 88, []⟩ : St)) (fun (y3 : Unit) => (⟨[(2, .v (.one (.ptr 1 0))), (3, .v (.one (dI 9)))], [(0, .cells 48 (flatE a0)), (1, .cells 72 [dN, .d (.v (.map none))])], [], 7, 88, []⟩ : St))))) (.inr q_)).hp, (((Sum.elim (fun (y1 : (List (List Int)) × (GMap Bs Int)) => (⟨[(2, .v (.one (.ptr 1 0))), (3, .v (.one (dI 0)))], [(0, .cells 48 (flatE a0)), (1, .cells 72 [dA 4 y1.1, .mp 2]), (2, .mp (gmE y1.2.1) y1.2.2)], [(4, some ⟨54, 1, (Enc.encL y1.1).length, []⟩)], 5, 88, []⟩ : St)) (Sum.elim (fun (y2 : Unit) => (⟨[(2, .v (.one (.ptr 1 0))), (3, .v (.one (dI 8)))], [(0, .cells 48 (flatE a0)), (1, .cells 72 [dN, .d (.v (.map none))])], [], 5, 88, []⟩ : St)) (fun (y3 : Unit) => (⟨[(2, .v (.one (.ptr 1 0))), (3, .v (.one (dI 9)))], [(0, .cells 48 (flatE a0)), (1, .cells 72 [dN, .d (.v (.map none))])], [], 7, 88, []⟩ : St))))) (.inr q_)).tk, (((Sum.elim (fun (y1 : (List (List Int)) × (GMap Bs Int)) => (⟨[(2, .v (.one (.ptr 1 0))), (3, .v (.one (dI 0)))], [(0, .cells 48 (flatE a0)), (1, .cells 72 [dA 4 y1.1, .mp 2]), (2, .mp (gmE y1.2.1) y1.2.2)], [(4, some ⟨54, 1, (Enc.encL y1.1).length, []⟩)], 5, 88, []⟩ : St)) (Sum.elim (fun (y2 : Unit) => (⟨[(2, .v (.one (.ptr 1 0))), (3, .v (.one (dI 8)))], [(0, .cells 48 (flatE a0)), (1, .cells 72 [dN, .d (.v (.map none))])], [], 5, 88, []⟩ : St)) (fun (y3 : Unit) => (⟨[(2, .v (.one (.ptr 1 0))), (3, .v (.one (dI 9)))], [(0, .cells 48 (flatE a0)), (1, .cells 72 [dN, .d (.v (.map none))])], [], 7, 88, []⟩ : St))))) (.inr q_)).nx⟩) hc4 h0 (fun y2 hc4 h0 => ?_) (fun y3 hc4 h0 => ?_))
  ·
   replace hc4 : CallM Try.prog 34 [.one (.osl 0 0 nn nn)] ⟨[(0, .cells 48 (flatE a0))], [], 1⟩ (resOf [.agg [dA 4 y1.1, .mp 2], .one (dI 0)]) ⟨[(0, .cells 48 (flatE a0)), (1, .cells 72 [dA 4 y1.1, .mp 2]), (2, .mp (gmE y1.2.1) y1.2.2)], [(4, some ⟨54, 1, (Enc.encL y1.1).length, []⟩)], 5⟩ := hc4
   refine XL.put rfl rfl (lb rfl) (OpOK.callW rfl rfl rfl hc4 rfl (hR rfl hZ) kZ) <| rM rfl rfl rfl <| rR rfl rfl rfl (RO.extract rfl rfl) <| rR rfl rfl rfl (RO.extract rfl rfl) <| XL.put rfl rfl (lb rfl) (OpOK.alloc z_72 rfl) <| XL.eff rfl rfl (OpOK.store ag_72 rfl rfl rfl rfl (lb rfl) rfl) <| rA rfl rfl rfl <| XL.nil <| XQ.seq <| XC.seq <| XC.region <| rR rfl rfl rfl (RO.fieldOwn fo_72_0 rfl) <| rR rfl rfl rfl (RO.loadOwn ag_57 rfl rfl rfl) <| rM rfl rfl rfl ?_
   refine rA rfl rfl rfl <| rA rfl rfl rfl <| XL.nil <| XQ.seq <| XC.ret ?_
   have e_ := Option.some.inj h0
   subst e_
   exact hQ0 _ _ _ (.inr rfl) rfl (stle (tC rfl (.sub (.app _ _ _)) (tR rfl tZ)) (hR rfl hZ) kZ rfl (Nat.le_trans hv0 (lb rfl)) rfl rfl rfl (bF rfl bZ) rfl rfl)
  ·
   replace hc4 : CallM Try.prog 34 [.one (.osl 0 0 nn nn)] ⟨[(0, .cells 48 (flatE a0))], [], 1⟩ (resOf [.agg [dN, .d (.v (.map none))], .one (dI 8)]) ⟨[(0, .cells 48 (flatE a0)), (1, .cells 72 [dN, .d (.v (.map none))])], [], 5⟩ := hc4
   refine XL.put rfl rfl (lb rfl) (OpOK.callW rfl rfl rfl hc4 rfl (hR rfl hZ) kZ) <| rM rfl rfl rfl <| rR rfl rfl rfl (RO.extract rfl rfl) <| rR rfl rfl rfl (RO.extract rfl rfl) <| XL.put rfl rfl (lb rfl) (OpOK.alloc z_72 rfl) <| XL.eff rfl rfl (OpOK.store ag_72 rfl rfl rfl rfl (lb rfl) rfl) <| rA rfl rfl rfl <| XL.nil <| XQ.seq <| XC.seq <| XC.region <| rR rfl rfl rfl (RO.fieldOwn fo_72_0 rfl) <| rR rfl rfl rfl (RO.loadOwn ag_57 rfl rfl rfl) <| rM rfl rfl rfl ?_
   refine rA rfl rfl rfl <| rA rfl rfl rfl <| XL.nil <| XQ.seq <| XC.ret ?_
   have e_ := Option.some.inj h0
   subst e_
   exact hQ0 _ _ _ (.inr rfl) rfl (stle (tC rfl (.sub (.nil _)) (tR rfl tZ)) (hR rfl hZ) kZ rfl (Nat.le_trans hv0 (lb rfl)) rfl rfl rfl (bF rfl bZ) rfl rfl)
  ·
   replace hc4 : CallM Try.prog 34 [.one (.osl 0 0 nn nn)] ⟨[(0, .cells 48 (flatE a0))], [], 1⟩ (resOf [.agg [dN, .d (.v (.map none))], .one (dI 9)]) ⟨[(0, .cells 48 (flatE a0)), (1, .cells 72 [dN, .d (.v (.map none))])], [], 7⟩ := hc4
   refine XL.put rfl rfl (lb rfl) (OpOK.callW rfl rfl rfl hc4 rfl (hR rfl hZ) kZ) <| rM rfl rfl rfl <| rR rfl rfl rfl (RO.extract rfl rfl) <| rR rfl rfl rfl (RO.extract rfl rfl) <| XL.put rfl rfl (lb rfl) (OpOK.alloc z_72 rfl) <| XL.eff rfl rfl (OpOK.store ag_72 rfl rfl rfl rfl (lb rfl) rfl) <| rA rfl rfl rfl <| XL.nil <| XQ.seq <| XC.seq <| XC.region <| rR rfl rfl rfl (RO.fieldOwn fo_72_0 rfl) <| rR rfl rfl rfl (RO.loadOwn ag_57 rfl rfl rfl) <| rM rfl rfl rfl ?_
   refine rA rfl rfl rfl <| rA rfl rfl rfl <| XL.nil <| XQ.seq <| XC.ret ?_
   have e_ := Option.some.inj h0
   subst e_
   exact hQ0 _ _ _ (.inr rfl) rfl (stle (tC rfl (.sub (.nil _)) (tR rfl tZ)) (hR rfl hZ) kZ rfl (Nat.le_trans hv0 (lb rfl)) rfl rfl rfl (bF rfl bZ) rfl rfl)
end Go.Proofs.Ytijcchddnnnmdaa
namespace Go.Proofs.Ytijcchddnnnmdaa
open Go.RowKit Go.Shelf
set_option linter.unusedSimpArgs false
set_option linter.unusedVariables false
def m22o_l0 (x10 : (List Bs)) (s2 : Int × (GMap Bs Int)) (s3 : Int × (GMap Bs Int)) : Option (LO (Int × (GMap Bs Int)) (((GMap Bs Int)) ⊕ (((List (List Int)) × (GMap Bs Int)) ⊕ Unit ⊕ Unit))) :=
  cond (decide (s3.1 < (x10.length : Int)))
    (Option.bind (idx x10 s3.1) fun (x13 : Bs) =>
  cond (gmHas s3.2 x13)
    (some (.done (.inr (.inr (.inl ())))))
    (some (.next ((w64 (s3.1 + 1)), (gmSet s3.2 x13 s2.1)))))
    (some (.done (.inl s3.2)))
def m22o_l1 (nn : Nat) (a0 : List Dcl) (s2 : Int × (GMap Bs Int)) : Option (LO (Int × (GMap Bs Int)) (((GMap Bs Int)) ⊕ (((List (List Int)) × (GMap Bs Int)) ⊕ Unit ⊕ Unit))) :=
  cond (decide (s2.1 < ((nn : Nat) : Int)))
    (Option.bind (idx a0 s2.1) fun (x8 : Dcl) =>
  guardO (Nat.beq a0.length nn)
  (Option.bind (m37 x8) fun (x10 : (List Bs)) =>
  Option.bind (loopN (m22o_l0 x10 s2) FUEL (0, s2.2)) (Sum.elim (fun (o11 : (GMap Bs Int)) => some (.next ((w64 (s2.1 + 1)), o11))) (fun o => some (.done (.inr o))))))
    (some (.done (.inl s2.2)))
def m22o_l2 (x11 : (List Bs)) (o6 : (GMap Bs Int)) (s3 : (List Int) × Int) : Option (LO ((List Int) × Int) (((List Int)) ⊕ (((List (List Int)) × (GMap Bs Int)) ⊕ Unit ⊕ Unit))) :=
  cond (decide (s3.2 < (x11.length : Int)))
    (Option.bind (idx x11 s3.2) fun (x14 : Bs) =>
  cond (!(gmHas o6 x14))
    (some (.done (.inr (.inr (.inr ())))))
    (guardO (Nat.ble (s3.1.length + ([(gmVal o6 x14)]).length) 1000000000)
  (some (.next ((s3.1 ++ ([(gmVal o6 x14)])), (w64 (s3.2 + 1)))))))
    (some (.done (.inl s3.1)))
def m22o_l3 (nn : Nat) (a0 : List Dcl) (o6 : (GMap Bs Int)) (s2 : Int × (List (List Int))) : Option (LO (Int × (List (List Int))) (((List (List Int))) ⊕ (((List (List Int)) × (GMap Bs Int)) ⊕ Unit ⊕ Unit))) :=
  cond (decide (s2.1 < ((nn : Nat) : Int)))
    (Option.bind (idx a0 s2.1) fun (x9 : Dcl) =>
  guardO (Nat.beq a0.length nn)
  (Option.bind (m53 x9) fun (x11 : (List Bs)) =>
  Option.bind (loopN (m22o_l2 x11 o6) FUEL (([] : List Int), 0)) (Sum.elim (fun (o12 : (List Int)) => Option.bind (sortF o12) fun (x13 : List Int) =>
  Option.bind (compactF x13 ((Enc.encL o12).length)) fun (x14 : List Int) =>
  guardO (Nat.ble (s2.2.length + ([x14]).length) 1000000000)
  (some (.next ((w64 (s2.1 + 1)), (s2.2 ++ ([x14])))))) (fun o => some (.done (.inr o))))))
    (some (.done (.inl s2.2)))
def m22o_l4 (y1 : (List (List Int)) × (GMap Bs Int)) (s1 : (List Int) × (List Bool)) (nn : Nat) (s2 : Int) : Option (LO Int Int) :=
  cond (decide (s2 < (y1.1.length : Int)))
    (Option.bind (idx y1.1 s2) fun (x37 : List Int) =>
  Option.bind (Option.bind (idx s1.2 s2) fun (x39 : Bool) =>
  guardO (Nat.beq s1.2.length (((nn : Nat) : Int).toNat))
  (cond (!x39)
    (Option.bind (m43f5 x37 (((nn : Nat) : Int).toNat) s1.2) fun (x42 : Bool) =>
  some (!x42))
    (some false))) (fun (v38 : Bool) => cond v38
    (some (.done s2))
    (some (.next (w64 (s2 + 1))))))
    (some (.done (-1)))
def m22o_l5 (nn : Nat) (y1 : (List (List Int)) × (GMap Bs Int)) (s1 : (List Int) × (List Bool)) : Option (LO ((List Int) × (List Bool)) (((List Int) × (List Bool)) ⊕ (((List Int) × Int)))) :=
  cond (decide ((s1.1.length : Int) < ((nn : Nat) : Int)))
    (Option.bind (loopN (m22o_l4 y1 s1 nn) FUEL 0) (fun (o35 : Int) => cond (decide (o35 < 0))
    (some (.done (.inr (([] : List Int), 22))))
    (Option.bind (idx s1.2 o35) fun (x37 : Bool) =>
  guardO (Nat.beq s1.2.length (((nn : Nat) : Int).toNat))
  (guardO (Nat.ble (s1.1.length + ([o35]).length) 1000000000)
  (some (.next ((s1.1 ++ ([o35])), (s1.2.set o35.toNat true))))))))
    (some (.done (.inl (s1.1, s1.2))))
def m22o (a0 : List Dcl) (nn : Nat) : Option ((List Int) × Int) :=
  Option.bind (Option.bind (loopN (m22o_l1 nn a0) FUEL (0, gmNil)) (Sum.elim (fun (o6 : (GMap Bs Int)) => Option.bind (loopN (m22o_l3 nn a0 o6) FUEL (0, ([] : List (List Int)))) (Sum.elim (fun (o7 : (List (List Int))) => some (.inl (o7, o6))) (fun o => some o))) (fun o => some o))) (Sum.elim (fun (y1 : (List (List Int)) × (GMap Bs Int)) => guardO (cond (decide (0 ≤ ((nn : Nat) : Int))) (Nat.ble (1 * ((nn : Nat) : Int).toNat) 281474976710656) false)
  (Option.bind (loopN (m22o_l5 nn y1) FUEL (([] : List Int), (List.replicate ((nn : Nat) : Int).toNat false))) (Sum.elim (fun (o33 : (List Int) × (List Bool)) => some (o33.1, 0)) (fun o => some o)))) (Sum.elim (fun (y2 : Unit) => some (([] : List Int), 8)) (fun (y3 : Unit) => some (([] : List Int), 9))))
set_option maxRecDepth 100000 in
set_option maxHeartbeats 2000000 in
theorem m22o_ok (a0 : List Dcl) (nn : Nat) (r : (List Int) × Int) (h0 : m22o a0 nn = some r) : CallM Try.prog 22 [.one (.osl 0 0 nn nn)] ⟨[(0, .cells 48 (flatE a0))], [], 1⟩ (resOf [.one (dS r.1), .one (dI r.2)]) ⟨[(0, .cells 48 (flatE a0))], [], 6⟩ := by
  unfold m22o at h0
  refine CallM.of_bodyD ⟨[(2, .v (.one (dS r.1))), (3, .v (.one (dI r.2)))], [(0, .cells 48 (flatE a0))], [], 6, 58, []⟩ rfl rfl en_22 (lb rfl) rfl (RAs.tmp rfl (RAs.tmp rfl .nil)) (fun w0 M V0 Q hv0 hQ0 => ?_)
  simp only [entry]
  refine XC.seq <| XC.region <| rA rfl rfl rfl <| rA rfl rfl rfl <| XL.nil <| XQ.seq <| XC.seq <| XC.region <| rM rfl rfl rfl ?_
  refine bindK h0 (fun y5 h1 h0 => ?_)
  have hc4 : CallM Try.prog 34 [.one (.osl 0 0 nn nn)] ⟨[(0, .cells 48 (flatE a0))], [], 1⟩ (resOf (((Sum.elim (fun (y1 : (List (List Int)) × (GMap Bs Int)) => ([.agg [dA 4 y1.1, .mp 2], .one (dI 0)] : List AV)) (Sum.elim (fun (y2 : Unit) => ([.agg [dN, .d (.v (.map none))], .one (dI 8)] : List AV)) (fun (y3 : Unit) => ([.agg [dN, .d (.v (.map none))], .one (dI 9)] : List AV))))) y5)) ⟨(((Sum.elim (fun (y1 : (List (List Int)) × (GMap Bs Int)) => (⟨[(2, .v (.one (.ptr 1 0))), (3, .v (.one (dI 0)))], [(0, .cells 48 (flatE a0)), (1, .cells 72 [dA 4 y1.1, .mp 2]), (2, .mp (gmE y1.2.1) y1.2.2)], [(4, some ⟨54, 1, (Enc.encL y1.1).length, []⟩)], 5, 88, []⟩ : St)) (Sum.elim (fun (y2 : Unit) => (⟨[(2, .v (.one (.ptr 1 0))), (3, .v (.one (dI 8)))], [(0, .cells 48 (flatE a0)), (1, .cells 72 [dN, .d (.v (.map none))])], [], 5, 88, []⟩ : St)) (fun (y3 : Unit) => (⟨[(2, .v (.one (.ptr 1 0))), (3, .v (.one (dI 9)))], [(0, .cells 48 (flatE a0)), (1, .cells 72 [dN, .d (.v (.map none))])], [], 7, 88, []⟩ : St))))) y5).hp, (((Sum.elim (fun (y1 : (List (List Int)) × (GMap Bs Int)) => (⟨[(2, .v (.one (.ptr 1 0))), (3, .v (.one (dI 0)))], [(0, .cells 48 (flatE a0)), (1, .cells 72 [dA 4 y1.1, .mp 2]), (2, .mp (gmE y1.2.1) y1.2.2)], [(4, some ⟨54, 1, (Enc.encL y1.1).length, []⟩)], 5, 88, []⟩ : St)) (Sum.elim (fun (y2 : Unit) => (⟨[(2, .v (.one (.ptr 1 0))), (3, .v (.one (dI 8)))], [(0, .cells 48 (flatE a0)), (1, .cells 72 [dN, .d (.v (.map none))])], [], 5, 88, []⟩ : St)) (fun (y3 : Unit) => (⟨[(2, .v (.one (.ptr 1 0))), (3, .v (.one (dI 9)))], [(0, .cells 48 (flatE a0)), (1, .cells 72 [dN, .d (.v (.map none))])], [], 7, 88, []⟩ : St))))) y5).tk, (((Sum.elim (fun (y1 : (List (List Int)) × (GMap Bs Int)) => (⟨[(2, .v (.one (.ptr 1 0))), (3, .v (.one (dI 0)))], [(0, .cells 48 (flatE a0)), (1, .cells 72 [dA 4 y1.1, .mp 2]), (2, .mp (gmE y1.2.1) y1.2.2)], [(4, some ⟨54, 1, (Enc.encL y1.1).length, []⟩)], 5, 88, []⟩ : St)) (Sum.elim (fun (y2 : Unit) => (⟨[(2, .v (.one (.ptr 1 0))), (3, .v (.one (dI 8)))], [(0, .cells 48 (flatE a0)), (1, .cells 72 [dN, .d (.v (.map none))])], [], 5, 88, []⟩ : St)) (fun (y3 : Unit) => (⟨[(2, .v (.one (.ptr 1 0))), (3, .v (.one (dI 9)))], [(0, .cells 48 (flatE a0)), (1, .cells 72 [dN, .d (.v (.map none))])], [], 7, 88, []⟩ : St))))) y5).nx⟩ := by
   refine CallM.of_bodyT y5 ((Sum.elim (fun (y1 : (List (List Int)) × (GMap Bs Int)) => (⟨[(2, .v (.one (.ptr 1 0))), (3, .v (.one (dI 0)))], [(0, .cells 48 (flatE a0)), (1, .cells 72 [dA 4 y1.1, .mp 2]), (2, .mp (gmE y1.2.1) y1.2.2)], [(4, some ⟨54, 1, (Enc.encL y1.1).length, []⟩)], 5, 88, []⟩ : St)) (Sum.elim (fun (y2 : Unit) => (⟨[(2, .v (.one (.ptr 1 0))), (3, .v (.one (dI 8)))], [(0, .cells 48 (flatE a0)), (1, .cells 72 [dN, .d (.v (.map none))])], [], 5, 88, []⟩ : St)) (fun (y3 : Unit) => (⟨[(2, .v (.one (.ptr 1 0))), (3, .v (.one (dI 9)))], [(0, .cells 48 (flatE a0)), (1, .cells 72 [dN, .d (.v (.map none))])], [], 7, 88, []⟩ : St))))) ((Sum.elim (fun (y1 : (List (List Int)) × (GMap Bs Int)) => ([.agg [dA 4 y1.1, .mp 2], .one (dI 0)] : List AV)) (Sum.elim (fun (y2 : Unit) => ([.agg [dN, .d (.v (.map none))], .one (dI 8)] : List AV)) (fun (y3 : Unit) => ([.agg [dN, .d (.v (.map none))], .one (dI 9)] : List AV))))) rfl rfl en_34 (lb rfl) (fun z_ => by cases z_ with
     | inl _ => rfl
     | inr z_ => exact (by cases z_ <;> rfl)) (fun z_ => by cases z_ with
     | inl _ => exact (RAs.agg ag_72 rfl rfl rfl rfl (RAs.tmp rfl .nil))
     | inr z_ => exact (by cases z_ with
     | inl _ => exact (RAs.agg ag_72 rfl rfl rfl rfl (RAs.tmp rfl .nil))
     | inr _ => exact (RAs.agg ag_72 rfl rfl rfl rfl (RAs.tmp rfl .nil)))) (fun w0 M V0 Q hv1 hQ1 => ?_)
   simp only [entry]
   refine XC.seq <| XC.region <| XL.put rfl rfl (lb rfl) (OpOK.alloc z_72 rfl) <| rA rfl rfl rfl <| XL.nil <| XQ.seq <| XC.seq <| XC.region <| XL.put rfl rfl (lb rfl) (OpOK.makeMapG Bs Int) <| rR rfl rfl rfl (RO.build1 bd_72 rfl rfl rfl) <| XL.put rfl rfl (lb rfl) (OpOK.alloc z_72 rfl) <| XL.eff rfl rfl (OpOK.store ag_72 rfl rfl rfl rfl (lb rfl) rfl) <| XL.nil <| XQ.seq ?_
   refine XC.seq <| XC.seq <| XC.region <| rM rfl rfl rfl <| rR rfl rfl rfl (RO.lenOsl sl_22 rfl) <| rM rfl rfl rfl <| XL.nil <| XQ.seq <| XC.block ?_
   refine XC.joinX 0 (fun (o6 : (GMap Bs Int)) => ⟨[(0, .v (.one (.osl 0 0 nn nn))), (2, .v (.one (.ptr 1 0))), (4, .v (.one (.ptr 3 0)))], [(0, .cells 48 (flatE a0)), (1, .cells 72 [dN, .d (.v (.map none))]), (2, .mp (gmE o6.1) o6.2), (3, .cells 72 [dN, .mp 2])], [], 4, 88, []⟩) (fun (o6 : (GMap Bs Int)) => (Option.bind (loopN (m22o_l3 nn a0 o6) FUEL (0, ([] : List (List Int)))) (Sum.elim (fun (o7 : (List (List Int))) => some (.inl (o7, o6))) (fun o => some o))) = some y5) ?_ ?_
   ·
    refine bindK h1 (fun o7 hl2 h1 => ?_)
    refine XC.loopM (m22o_l1 nn a0) (fun s2 => ⟨[(0, .v (.one (.osl 0 0 nn nn))), (2, .v (.one (.ptr 1 0))), (4, .v (.one (.ptr 3 0))), (20, .v (.one (.osl 0 0 nn nn))), (21, .v (.one (dI ((nn : Nat) : Int)))), (22, .v (.one (dI s2.1)))], [(0, .cells 48 (flatE a0)), (1, .cells 72 [dN, .d (.v (.map none))]), (2, .mp (gmE s2.2.1) s2.2.2), (3, .cells 72 [dN, .mp 2])], [], 4, 88, []⟩) (0, gmNil) o7 (stle (tR rfl (tR rfl (tR rfl (tR rfl (tR rfl (tR rfl tZ)))))) (hR rfl (hR rfl (hR rfl (hR rfl hZ)))) kZ rfl (Nat.le_trans hv1 (lb rfl)) rfl rfl rfl (bF rfl (bB rfl rfl (bG rfl (bB rfl rfl bZ)))) rfl rfl) hl2 (fun s2 n2 oo2 h2 ho2 => ?_)
    unfold m22o_l1 at h2
    refine XC.seq <| XC.region <| rR rfl rfl rfl (RO.binInt rfl rfl rfl) <| XL.nil <| XQ.seq <| XC.seq ?_
    refine XC.cond (b := (decide (s2.1 < ((nn : Nat) : Int)))) rfl (fun c8 => ?_) (fun c8 => ?_)
    ·
     replace h2 := condT c8 h2
     refine XC.skip <| XQ.seq <| XC.seq <| XC.block <| XC.seq <| XC.region <| rM rfl rfl rfl ?_
     refine bindK h2 (fun x9 hx9 h2 => ?_)
     refine guardK h2 (fun g10 h2 => ?_)
     refine rR rfl rfl rfl (RO.indexO (α := Dcl) sl_22 rfl rfl hx9 g10) <| rR rfl rfl rfl (RO.loadOE (α := Dcl) (ys := [dI x9.kind, dS8 x9.name, dI x9.params, dI x9.ty.kind, dI x9.ty.index, dS8 x9.ty.name, dS x9.ty.levels, dS x9.ty.kids, dI x9.value.kind, dI x9.value.index, dS8 x9.value.name, dS x9.value.levels, dS x9.value.kids, dI x9.fixed, dS x9.ctors, dI x9.rcr.params, dI x9.rcr.ty.kind, dI x9.rcr.ty.index, dS8 x9.rcr.ty.name, dS x9.rcr.ty.levels, dS x9.rcr.ty.kids, dS x9.rcr.rules, dS x9.funs]) ag_48 rfl rfl hx9 rfl) <| XL.put rfl rfl (lb rfl) (OpOK.alloc z_48 rfl) <| rA rfl rfl rfl <| XL.eff rfl rfl (OpOK.storeCE (x9 : Dcl) ag_48 rfl rfl rfl rfl rfl) <| XL.nil <| XQ.seq <| XC.seq <| XC.region <| rR rfl rfl rfl (RO.loadCE (x9 : Dcl) ag_48 rfl rfl) ?_
     refine bindK h2 (fun x11 hx11 h2 => ?_)
     refine XL.put rfl rfl (lb rfl) (OpOK.callFun (m37_ok x9 x11 hx11) rfl (.cons (.agg (.cons (.d _) (.cons (.d _) (.cons (.d _) (.cons (.d _) (.cons (.d _) (.cons (.d _) (.cons (.d _) (.cons (.d _) (.cons (.d _) (.cons (.d _) (.cons (.d _) (.cons (.d _) (.cons (.d _) (.cons (.d _) (.cons (.d _) (.cons (.d _) (.cons (.d _) (.cons (.d _) (.cons (.d _) (.cons (.d _) (.cons (.d _) (.cons (.d _) (.cons (.d _) .nil)))))))))))))))))))))))) .nil)) <| rR rfl rfl rfl (RO.lenE (α := Bs) sl_23 rfl (.d _)) <| rM rfl rfl rfl <| XL.nil <| XQ.seq <| XC.block ?_
     refine XC.joinX 2 (fun (o12 : (GMap Bs Int)) => ⟨[(0, .v (.one (.osl 0 0 nn nn))), (2, .v (.one (.ptr 1 0))), (4, .v (.one (.ptr 3 0))), (20, .v (.one (.osl 0 0 nn nn))), (21, .v (.one (dI ((nn : Nat) : Int)))), (22, .v (.one (dI s2.1)))], [(0, .cells 48 (flatE a0)), (1, .cells 72 [dN, .d (.v (.map none))]), (2, .mp (gmE o12.1) o12.2), (3, .cells 72 [dN, .mp 2]), (4, .cells 48 (cE x9))], [], 5, 88, []⟩) (fun (o12 : (GMap Bs Int)) => (some (.next ((w64 (s2.1 + 1)), o12))) = some oo2) ?_ ?_
     ·
      refine bindK h2 (fun o13 hl3 h2 => ?_)
      refine XC.loopM (m22o_l0 x11 s2) (fun s3 => ⟨[(0, .v (.one (.osl 0 0 nn nn))), (2, .v (.one (.ptr 1 0))), (4, .v (.one (.ptr 3 0))), (5, .v (.one (dI s2.1))), (20, .v (.one (.osl 0 0 nn nn))), (21, .v (.one (dI ((nn : Nat) : Int)))), (22, .v (.one (dI s2.1))), (28, .v (.one (dS x11))), (29, .v (.one (dI (x11.length : Int)))), (30, .v (.one (dI s3.1)))], [(0, .cells 48 (flatE a0)), (1, .cells 72 [dN, .d (.v (.map none))]), (2, .mp (gmE s3.2.1) s3.2.2), (3, .cells 72 [dN, .mp 2]), (4, .cells 48 (cE x9))], [], 5, 88, []⟩) (0, s2.2) o13 (stle (tR rfl (tR rfl (tR rfl (tR rfl (tR rfl (tR rfl (tR rfl (tR rfl (tR rfl (tR rfl tZ)))))))))) (hR rfl (hR rfl (hR rfl (hR rfl (hR rfl hZ))))) kZ rfl (Nat.le_trans hv1 (lb rfl)) rfl rfl rfl (bF rfl (bB rfl rfl (bG rfl (bB rfl rfl (bB rfl rfl bZ))))) rfl rfl) hl3 (fun s3 n3 oo3 h3 ho3 => ?_)
      unfold m22o_l0 at h3
      refine XC.seq <| XC.region <| rR rfl rfl rfl (RO.binInt rfl rfl rfl) <| XL.nil <| XQ.seq <| XC.seq ?_
      refine XC.cond (b := (decide (s3.1 < (x11.length : Int)))) rfl (fun c14 => ?_) (fun c14 => ?_)
      ·
       replace h3 := condT c14 h3
       refine XC.skip <| XQ.seq <| XC.seq <| XC.block <| XC.seq <| XC.region ?_
       refine bindK h3 (fun x15 hx15 h3 => ?_)
       refine rR rfl rfl rfl (RO.indexE (α := Bs) sl_23 rfl (.d _) rfl hx15) <| rR rfl rfl rfl (RO.loadPel ag_9 rfl rfl) <| rA rfl rfl rfl <| XL.nil <| XQ.seq <| XC.seq <| XC.seq <| XC.region <| rR rfl rfl rfl (RO.fieldOwn fo_72_1 rfl) <| rR rfl rfl rfl (RO.loadOwn ag_70 rfl rfl rfl) <| rM rfl rfl rfl <| rR rfl rfl rfl (RO.lookupGT (M := s3.2) (k := x15) mp_70 zok_int rfl rfl rfl) <| rM rfl rfl rfl <| rR rfl rfl rfl (RO.extract rfl rfl) ?_
       refine rR rfl rfl rfl (RO.extract rfl rfl) <| rA rfl rfl rfl <| rA rfl rfl rfl <| XL.nil <| XQ.seq <| XC.seq <| XC.region <| rM rfl rfl rfl <| XL.nil <| XQ.seq ?_
       refine XC.cond (b := (gmHas s3.2 x15)) rfl (fun c16 => ?_) (fun c16 => ?_)
       ·
        replace h3 := condT c16 h3
        refine XC.seq <| XC.region <| rR rfl rfl rfl (RO.build0 bd_72 rfl ) <| XL.eff rfl rfl (OpOK.store ag_72 rfl rfl rfl rfl (lb rfl) rfl) <| rA rfl rfl rfl <| XL.nil <| XQ.seq <| XC.ret ?_
        have e_ := Option.some.inj h3
        subst e_
        have e_ : _ = _ := ho3
        subst e_
        try dsimp only [Sum.elim_inl, Sum.elim_inr] at h2
        have e_ := Option.some.inj h2
        subst e_
        have e_ : _ = _ := ho2
        subst e_
        try dsimp only [Sum.elim_inl, Sum.elim_inr] at h1
        have e_ := Option.some.inj h1
        subst e_
        exact hQ1 _ _ _ (.inr rfl) rfl (show StLe _ _ ⟨[(2, .v (.one (.ptr 1 0))), (3, .v (.one (dI 8)))], [(0, .cells 48 (flatE a0)), (1, .cells 72 [dN, .d (.v (.map none))])], [], 5, 88, []⟩ from (stle (tR rfl (tR rfl tZ)) (hR rfl (hR rfl hZ)) kZ rfl (Nat.le_trans hv1 (lb rfl)) rfl rfl rfl (bF rfl (bB rfl rfl bZ)) rfl rfl))
       ·
        replace h3 := condF c16 h3
        refine XC.skip <| XQ.seq <| XC.region <| rR rfl rfl rfl (RO.fieldOwn fo_72_1 rfl) <| rR rfl rfl rfl (RO.loadOwn ag_70 rfl rfl rfl) <| rM rfl rfl rfl <| rM rfl rfl rfl <| XL.eff rfl rfl (OpOK.mapSetG (M := s3.2) (k := x15) (v := s2.1) mp_70 rfl rfl rfl rfl rfl) <| XL.nil <| XQ.inBlock <| XQ.seq <| XC.region <| rR rfl rfl rfl (RO.binInt rfl rfl rfl) <| rM rfl rfl rfl ?_
        refine XL.nil ?_
        have e_ := Option.some.inj h3
        subst e_
        refine XQ.nextM ((w64 (s3.1 + 1)), (gmSet s3.2 x15 s2.1)) (stle (tR rfl (tR rfl (tR rfl (tR rfl (tR rfl (tR rfl (tR rfl (tR rfl (tR rfl (tR rfl tZ)))))))))) (hR rfl (hR rfl (hR rfl (hR rfl (hR rfl hZ))))) kZ rfl (Nat.le_trans hv1 (lb rfl)) rfl rfl rfl (bF rfl (bB rfl rfl (bG rfl (bB rfl rfl (bB rfl rfl bZ))))) rfl rfl) ho3
      ·
       replace h3 := condF c14 h3
       refine XC.exit <| XQ.thenE <| XQ.thenE ?_
       have e_ := Option.some.inj h3
       subst e_
       have e_ : _ = _ := ho3
       subst e_
       exact XQ.joinX s3.2 (stle (tR rfl (tR rfl (tR rfl (tR rfl (tR rfl (tR rfl tZ)))))) (hR rfl (hR rfl (hR rfl (hR rfl (hR rfl hZ))))) kZ rfl (Nat.le_trans hv1 (lb rfl)) rfl rfl rfl (bF rfl (bB rfl rfl (bG rfl (bB rfl rfl (bB rfl rfl bZ))))) rfl rfl) h2
     ·
      intro o12 h2
      refine XQ.blockX <| XQ.inBlock <| XQ.seq <| XC.region <| rR rfl rfl rfl (RO.binInt rfl rfl rfl) <| rM rfl rfl rfl <| XL.nil ?_
      have e_ := Option.some.inj h2
      subst e_
      refine XQ.nextM ((w64 (s2.1 + 1)), o12) (stle (tR rfl (tR rfl (tR rfl (tR rfl (tR rfl (tR rfl tZ)))))) (hR rfl (hR rfl (hR rfl (hR rfl hZ)))) kZ rfl (Nat.le_trans hv1 (lb rfl)) rfl rfl rfl (bF rfl (bB rfl rfl (bG rfl (bB rfl rfl bZ)))) rfl rfl) ho2
    ·
     replace h2 := condF c8 h2
     refine XC.exit <| XQ.thenE <| XQ.thenE ?_
     have e_ := Option.some.inj h2
     subst e_
     have e_ : _ = _ := ho2
     subst e_
     exact XQ.joinX s2.2 (stle (tR rfl (tR rfl (tR rfl tZ))) (hR rfl (hR rfl (hR rfl (hR rfl hZ)))) kZ rfl (Nat.le_trans hv1 (lb rfl)) rfl rfl rfl (bF rfl (bB rfl rfl (bG rfl (bB rfl rfl bZ)))) rfl rfl) h1
   ·
    intro o6 h1
    refine XQ.blockX <| XQ.seq <| XC.seq <| XC.seq <| XC.region <| rM rfl rfl rfl <| rR rfl rfl rfl (RO.lenOsl sl_22 rfl) <| rM rfl rfl rfl <| XL.nil <| XQ.seq <| XC.block ?_
    refine XC.joinX 4 (fun (o17 : (List (List Int))) => ⟨[(2, .v (.one (.ptr 1 0))), (4, .v (.one (.ptr 3 0)))], [(0, .cells 48 (flatE a0)), (1, .cells 72 [dN, .d (.v (.map none))]), (2, .mp (gmE o6.1) o6.2), (3, .cells 72 [dA 4 o17, .mp 2])], [(4, some ⟨54, 1, (Enc.encL o17).length, []⟩)], 5, 88, []⟩) (fun (o17 : (List (List Int))) => (some (.inl (o17, o6))) = some y5) ?_ ?_
    ·
     refine XC.adoptC (i := 3) (off := 0) 54 1 rfl rfl ?_
     refine bindK h1 (fun o18 hl2 h1 => ?_)
     refine XC.loopM (m22o_l3 nn a0 o6) (fun s2 => ⟨[(2, .v (.one (.ptr 1 0))), (4, .v (.one (.ptr 3 0))), (49, .v (.one (.osl 0 0 nn nn))), (50, .v (.one (dI ((nn : Nat) : Int)))), (51, .v (.one (dI s2.1)))], [(0, .cells 48 (flatE a0)), (1, .cells 72 [dN, .d (.v (.map none))]), (2, .mp (gmE o6.1) o6.2), (3, .cells 72 [dA 4 s2.2, .mp 2])], [(4, some ⟨54, 1, (Enc.encL s2.2).length, []⟩)], 5, 88, []⟩) (0, ([] : List (List Int))) o18 (stle (tR rfl (tR rfl (tR rfl (tR rfl (tR rfl tZ))))) (hR rfl (hR rfl (hR rfl (hR rfl hZ)))) (kR rfl kZ) rfl (Nat.le_trans hv1 (lb rfl)) rfl rfl rfl (bF rfl (bB rfl rfl (bG rfl (bB rfl rfl bZ)))) rfl rfl) hl2 (fun s2 n2 oo2 h2 ho2 => ?_)
     unfold m22o_l3 at h2
     refine XC.seq <| XC.region <| rR rfl rfl rfl (RO.binInt rfl rfl rfl) <| XL.nil <| XQ.seq <| XC.seq ?_
     refine XC.cond (b := (decide (s2.1 < ((nn : Nat) : Int)))) rfl (fun c19 => ?_) (fun c19 => ?_)
     ·
      replace h2 := condT c19 h2
      refine XC.skip <| XQ.seq <| XC.seq <| XC.block <| XC.seq <| XC.region ?_
      refine bindK h2 (fun x20 hx20 h2 => ?_)
      refine guardK h2 (fun g21 h2 => ?_)
      refine rR rfl rfl rfl (RO.indexO (α := Dcl) sl_22 rfl rfl hx20 g21) <| rR rfl rfl rfl (RO.loadOE (α := Dcl) (ys := [dI x20.kind, dS8 x20.name, dI x20.params, dI x20.ty.kind, dI x20.ty.index, dS8 x20.ty.name, dS x20.ty.levels, dS x20.ty.kids, dI x20.value.kind, dI x20.value.index, dS8 x20.value.name, dS x20.value.levels, dS x20.value.kids, dI x20.fixed, dS x20.ctors, dI x20.rcr.params, dI x20.rcr.ty.kind, dI x20.rcr.ty.index, dS8 x20.rcr.ty.name, dS x20.rcr.ty.levels, dS x20.rcr.ty.kids, dS x20.rcr.rules, dS x20.funs]) ag_48 rfl rfl hx20 rfl) <| XL.put rfl rfl (lb rfl) (OpOK.alloc z_48 rfl) <| XL.eff rfl rfl (OpOK.storeCE (x20 : Dcl) ag_48 rfl rfl rfl rfl rfl) <| XL.nil <| XQ.seq <| XC.seq <| XC.region <| rA rfl rfl rfl <| XL.nil <| XQ.seq <| XC.seq <| XC.seq <| XC.region ?_
      refine rR rfl rfl rfl (RO.loadCE (x20 : Dcl) ag_48 rfl rfl) ?_
      refine bindK h2 (fun x22 hx22 h2 => ?_)
      refine XL.put rfl rfl (lb rfl) (OpOK.callFun (m53_ok x20 x22 hx22) rfl (.cons (.agg (.cons (.d _) (.cons (.d _) (.cons (.d _) (.cons (.d _) (.cons (.d _) (.cons (.d _) (.cons (.d _) (.cons (.d _) (.cons (.d _) (.cons (.d _) (.cons (.d _) (.cons (.d _) (.cons (.d _) (.cons (.d _) (.cons (.d _) (.cons (.d _) (.cons (.d _) (.cons (.d _) (.cons (.d _) (.cons (.d _) (.cons (.d _) (.cons (.d _) (.cons (.d _) .nil)))))))))))))))))))))))) .nil)) <| rR rfl rfl rfl (RO.lenE (α := Bs) sl_23 rfl (.d _)) <| rM rfl rfl rfl <| XL.nil <| XQ.seq <| XC.block ?_
      refine XC.joinX 6 (fun (o23 : (List Int)) => ⟨[(2, .v (.one (.ptr 1 0))), (4, .v (.one (.ptr 3 0))), (13, .v (.one (.apv 6 1 ((Enc.encL o23).length) []))), (49, .v (.one (.osl 0 0 nn nn))), (50, .v (.one (dI ((nn : Nat) : Int)))), (51, .v (.one (dI s2.1)))], [(0, .cells 48 (flatE a0)), (1, .cells 72 [dN, .d (.v (.map none))]), (2, .mp (gmE o6.1) o6.2), (3, .cells 72 [dA 4 s2.2, .mp 2]), (5, .cells 48 (cE x20))], [(4, some ⟨54, 1, (Enc.encL s2.2).length, []⟩), (6, some ⟨3, 1, (Enc.encL o23).length, (Enc.encL o23).flatten⟩)], 7, 88, []⟩) (fun (o23 : (List Int)) => (Option.bind (sortF o23) fun (x24 : List Int) =>
        Option.bind (compactF x24 ((Enc.encL o23).length)) fun (x25 : List Int) =>
        guardO (Nat.ble (s2.2.length + ([x25]).length) 1000000000)
        (some (.next ((w64 (s2.1 + 1)), (s2.2 ++ ([x25])))))) = some oo2) ?_ ?_
      ·
       refine XC.adoptT (t := 13) 3 1 rfl <| XC.privT (α := Int) (t := 13) rfl rfl ?_
       refine bindK h2 (fun o24 hl3 h2 => ?_)
       refine XC.loopM (m22o_l2 x22 o6) (fun s3 => ⟨[(2, .v (.one (.ptr 1 0))), (4, .v (.one (.ptr 3 0))), (13, .v (.one (.apv 6 1 ((Enc.encL s3.1).length) []))), (49, .v (.one (.osl 0 0 nn nn))), (50, .v (.one (dI ((nn : Nat) : Int)))), (51, .v (.one (dI s2.1))), (56, .v (.one (dS x22))), (57, .v (.one (dI (x22.length : Int)))), (58, .v (.one (dI s3.2)))], [(0, .cells 48 (flatE a0)), (1, .cells 72 [dN, .d (.v (.map none))]), (2, .mp (gmE o6.1) o6.2), (3, .cells 72 [dA 4 s2.2, .mp 2]), (5, .cells 48 (cE x20))], [(4, some ⟨54, 1, (Enc.encL s2.2).length, []⟩), (6, some ⟨3, 1, (Enc.encL s3.1).length, (Enc.encL s3.1).flatten⟩)], 7, 88, []⟩) (([] : List Int), 0) o24 (stle (tR rfl (tR rfl (tR rfl (tR rfl (tR rfl (tR rfl (tR rfl (tR rfl (tR rfl tZ))))))))) (hR rfl (hR rfl (hR rfl (hR rfl (hR rfl hZ))))) (kR rfl (kR rfl kZ)) rfl (Nat.le_trans hv1 (lb rfl)) rfl rfl rfl (bF rfl (bB rfl rfl (bG rfl (bB rfl rfl (bB rfl rfl bZ))))) rfl rfl) hl3 (fun s3 n3 oo3 h3 ho3 => ?_)
       unfold m22o_l2 at h3
       refine XC.seq <| XC.region <| rR rfl rfl rfl (RO.binInt rfl rfl rfl) <| XL.nil <| XQ.seq <| XC.seq ?_
       refine XC.cond (b := (decide (s3.2 < (x22.length : Int)))) rfl (fun c25 => ?_) (fun c25 => ?_)
       ·
        replace h3 := condT c25 h3
        refine XC.skip <| XQ.seq <| XC.seq <| XC.block <| XC.seq <| XC.region ?_
        refine bindK h3 (fun x26 hx26 h3 => ?_)
        refine rR rfl rfl rfl (RO.indexE (α := Bs) sl_23 rfl (.d _) rfl hx26) <| rR rfl rfl rfl (RO.loadPel ag_9 rfl rfl) <| rA rfl rfl rfl <| XL.nil <| XQ.seq <| XC.seq <| XC.region <| rR rfl rfl rfl (RO.fieldOwn fo_72_1 rfl) <| rR rfl rfl rfl (RO.loadOwn ag_70 rfl rfl rfl) <| rM rfl rfl rfl <| rR rfl rfl rfl (RO.lookupGT (M := o6) (k := x26) mp_70 zok_int rfl rfl rfl) <| rM rfl rfl rfl <| rR rfl rfl rfl (RO.extract rfl rfl) <| rR rfl rfl rfl (RO.extract rfl rfl) ?_
        refine rA rfl rfl rfl <| rA rfl rfl rfl <| XL.nil <| XQ.seq <| XC.seq <| XC.seq <| XC.region <| rM rfl rfl rfl <| rR rfl rfl rfl (RO.not rfl) <| XL.nil <| XQ.seq ?_
        refine XC.cond (b := (!(gmHas o6 x26))) rfl (fun c27 => ?_) (fun c27 => ?_)
        ·
         replace h3 := condT c27 h3
         refine XC.seq <| XC.region <| rR rfl rfl rfl (RO.build0 bd_72 rfl ) <| XL.eff rfl rfl (OpOK.store ag_72 rfl rfl rfl rfl (lb rfl) rfl) <| rA rfl rfl rfl <| XL.nil <| XQ.seq <| XC.ret ?_
         have e_ := Option.some.inj h3
         subst e_
         have e_ : _ = _ := ho3
         subst e_
         try dsimp only [Sum.elim_inl, Sum.elim_inr] at h2
         have e_ := Option.some.inj h2
         subst e_
         have e_ : _ = _ := ho2
         subst e_
         try dsimp only [Sum.elim_inl, Sum.elim_inr] at h1
         have e_ := Option.some.inj h1
         subst e_
         exact hQ1 _ _ _ (.inr rfl) rfl (show StLe _ _ ⟨[(2, .v (.one (.ptr 1 0))), (3, .v (.one (dI 9)))], [(0, .cells 48 (flatE a0)), (1, .cells 72 [dN, .d (.v (.map none))])], [], 7, 88, []⟩ from (stle (tR rfl (tR rfl tZ)) (hR rfl (hR rfl hZ)) kZ rfl (Nat.le_trans hv1 (lb rfl)) rfl rfl rfl (bF rfl (bB rfl rfl bZ)) rfl rfl))
        ·
         replace h3 := condF c27 h3
         refine XC.skip <| XQ.seq <| XC.region <| rM rfl rfl rfl <| rM rfl rfl rfl <| XL.put rfl rfl (lb rfl) (OpOK.lit1E (α := Int) ((gmVal o6 x26)) sl_54 z_3 rfl rfl (lb rfl) (lb rfl) rfl rfl (.cons (.d _) .nil) rfl) ?_
         refine guardK h3 (fun g28 h3 => ?_)
         refine XL.put rfl rfl (lb rfl) (OpOK.appendPr (α := Int) (l := s3.1) (l2 := ([(gmVal o6 x26)] : List Int)) sl_54 el_3 rfl rfl rfl rfl (.app _ _) rfl g28) <| rA rfl rfl rfl <| XL.nil <| XQ.inBlock <| XQ.seq <| XC.region <| rR rfl rfl rfl (RO.binInt rfl rfl rfl) <| rM rfl rfl rfl <| XL.nil ?_
         have e_ := Option.some.inj h3
         subst e_
         refine XQ.nextM ((s3.1 ++ ([(gmVal o6 x26)])), (w64 (s3.2 + 1))) (stle (tR rfl (tR rfl (tR rfl (tR rfl (tR rfl (tR rfl (tR rfl (tR rfl (tR rfl tZ))))))))) (hR rfl (hR rfl (hR rfl (hR rfl (hR rfl hZ))))) (kR rfl (kR rfl kZ)) rfl (Nat.le_trans hv1 (lb rfl)) rfl rfl rfl (bF rfl (bB rfl rfl (bG rfl (bB rfl rfl (bB rfl rfl bZ))))) rfl rfl) ho3
       ·
        replace h3 := condF c25 h3
        refine XC.exit <| XQ.thenE <| XQ.thenE ?_
        have e_ := Option.some.inj h3
        subst e_
        have e_ : _ = _ := ho3
        subst e_
        exact XQ.joinX s3.1 (stle (tR rfl (tR rfl (tR rfl (tR rfl (tR rfl (tR rfl tZ)))))) (hR rfl (hR rfl (hR rfl (hR rfl (hR rfl hZ))))) (kR rfl (kR rfl kZ)) rfl (Nat.le_trans hv1 (lb rfl)) rfl rfl rfl (bF rfl (bB rfl rfl (bG rfl (bB rfl rfl (bB rfl rfl bZ))))) rfl rfl) h2
      ·
       intro o23 h2
       refine XQ.blockX <| XQ.seq <| XC.seq <| XC.region <| rM rfl rfl rfl ?_
       refine bindK h2 (fun x29 hx29 h2 => ?_)
       refine XL.put rfl rfl (lb rfl) (OpOK.callG (hp1' := []) (tk1' := [(6, some ⟨3, 1, (Enc.encL o23).length, (Enc.encL x29).flatten⟩)]) (hpF := [(0, .cells 48 (flatE a0)), (1, .cells 72 [dN, .d (.v (.map none))]), (2, .mp (gmE o6.1) o6.2), (3, .cells 72 [dA 4 s2.2, .mp 2]), (5, .cells 48 (cE x20))]) (tkF := [(4, some ⟨54, 1, (Enc.encL s2.2).length, []⟩)]) (res2 := resOf []) (nx2 := 7) [6] rfl rfl (sortF_ok o23 x29 hx29) rfl rfl qZ rfl rfl gZ (jR rfl jZ) (hR rfl (hR rfl (hR rfl (hR rfl (hR rfl hZ))))) (kR rfl kZ) rfl rfl rfl rfl rfl bZ rfl rfl rfl rfl) <| XL.nil <| XQ.seq ?_
       refine XC.anyRun [3, 5, 7] [(0, 1), (1, 1)] mixed (by kernel_rfl) (by kernel_rfl) (by kernel_rfl) ?_
       refine RunA.rd rfl rfl rfl (OpOK.of_ro (RO.fieldOwn fo_72_0 rfl)) rfl <| RunA.rd rfl rfl rfl (OpOK.of_ro (RO.loadOwn ag_57 rfl rfl rfl)) rfl <| RunA.rd rfl rfl rfl (OpOK.of_ro (RO.move rfl)) rfl ?_
       refine bindK h2 (fun x30 hx30 h2 => ?_)
       refine RunA.eff rfl rfl rfl (OpOK.callG (hp1' := []) (tk1' := [(7, some ⟨3, 1, (Enc.encL x30).length, []⟩)]) (hpF := [(0, .cells 48 (flatE a0)), (1, .cells 72 [dN, .d (.v (.map none))]), (2, .mp (gmE o6.1) o6.2), (3, .cells 72 [dA 4 s2.2, .mp 2]), (5, .cells 48 (cE x20))]) (tkF := [(4, some ⟨54, 1, (Enc.encL s2.2).length, []⟩)]) (res2 := resOf [.one (dA 7 x30)]) (nx2 := 8) [6] rfl rfl (compactF_ok x29 ((Enc.encL o23).length) x30 hx30) rfl rfl qZ rfl rfl gZ (jR rfl jZ) (hR rfl (hR rfl (hR rfl (hR rfl (hR rfl hZ))))) (kR rfl kZ) rfl rfl rfl rfl rfl bZ rfl rfl rfl rfl) rfl <| RunA.rd rfl rfl rfl (OpOK.data1E (α := List Int) (x30) sl_57 z_54 rfl rfl (lb rfl) rfl rfl (.cons (.app _ _ _) .nil) rfl) rfl ?_
       refine guardK h2 (fun g31 h2 => ?_)
       refine RunA.eff rfl rfl rfl (OpOK.appendE (α := List Int) sl_57 el_54 rfl rfl rfl rfl rfl (.d _) g31) rfl <| RunA.rd rfl rfl rfl (OpOK.of_ro (RO.fieldOwn fo_72_0 rfl)) rfl <| RunA.eff rfl rfl rfl (OpOK.store ag_57 rfl rfl rfl rfl (lb rfl) rfl) rfl ?_
       refine RunA.nil ⟨?ex, _, _, rfl, ?_⟩
       case ex => exact ⟨⟨_, rfl, _, _, rfl, rfl, rfl, .inl ⟨rfl, _, OpOK.of_ro (RO.fieldOwn fo_72_0 rfl), rfl⟩⟩, ⟨_, rfl, _, _, rfl, rfl, rfl, .inl ⟨rfl, _, OpOK.of_ro (RO.loadOwn ag_57 rfl rfl rfl), rfl⟩⟩, trivial⟩
       refine XQ.less (st' := ⟨[(2, .v (.one (.ptr 1 0))), (4, .v (.one (.ptr 3 0))), (49, .v (.one (.osl 0 0 nn nn))), (50, .v (.one (dI ((nn : Nat) : Int)))), (51, .v (.one (dI s2.1)))], [(0, .cells 48 (flatE a0)), (1, .cells 72 [dN, .d (.v (.map none))]), (2, .mp (gmE o6.1) o6.2), (3, .cells 72 [dA 4 ((s2.2 ++ ([x30])) : List (List Int)), .mp 2]), (5, .cells 48 (cE x20))], [(4, some ⟨54, 1, (Enc.encL ((s2.2 ++ ([x30])) : List (List Int))).length, []⟩), (7, some ⟨3, 1, (Enc.encL x30).length, []⟩)], 8, 88, []⟩) (stle (tR rfl (tR rfl (tR rfl (tR rfl (tR rfl tZ))))) (hR rfl (hR rfl (hR rfl (hR rfl (hR rfl hZ))))) (kR rfl (kR rfl kZ)) rfl (Nat.le_trans hv1 (lb rfl)) rfl rfl rfl (bF rfl (bB rfl rfl (bG rfl (bB rfl rfl (bB rfl rfl bZ))))) rfl rfl) <| XQ.inBlock <| XQ.seq <| XC.region <| rR rfl rfl rfl (RO.binInt rfl rfl rfl) <| rM rfl rfl rfl <| XL.nil ?_
       have e_ := Option.some.inj h2
       subst e_
       refine XQ.nextM ((w64 (s2.1 + 1)), (s2.2 ++ ([x30]))) (stle (tR rfl (tR rfl (tR rfl (tR rfl (tR rfl tZ))))) (hR rfl (hR rfl (hR rfl (hR rfl hZ)))) (kR rfl kZ) rfl (Nat.le_trans hv1 (lb rfl)) rfl rfl rfl (bF rfl (bB rfl rfl (bG rfl (bB rfl rfl bZ)))) rfl rfl) ho2
     ·
      replace h2 := condF c19 h2
      refine XC.exit <| XQ.thenE <| XQ.thenE ?_
      have e_ := Option.some.inj h2
      subst e_
      have e_ : _ = _ := ho2
      subst e_
      exact XQ.joinX s2.2 (stle (tR rfl (tR rfl tZ)) (hR rfl (hR rfl (hR rfl (hR rfl hZ)))) (kR rfl kZ) rfl (Nat.le_trans hv1 (lb rfl)) rfl rfl rfl (bF rfl (bB rfl rfl (bG rfl (bB rfl rfl bZ)))) rfl rfl) h1
    ·
     intro o17 h1
     refine XQ.blockX <| XQ.seq <| XC.seq <| XC.region <| rR rfl rfl rfl (RO.loadOwnAgg ag_72 rfl rfl rfl rfl) <| XL.eff rfl rfl (OpOK.store ag_72 rfl rfl rfl rfl (lb rfl) rfl) <| rA rfl rfl rfl <| XL.nil <| XQ.seq <| XC.ret ?_
     have e_ := Option.some.inj h1
     subst e_
     exact hQ1 _ _ _ (.inr rfl) rfl (show StLe _ _ ⟨[(2, .v (.one (.ptr 1 0))), (3, .v (.one (dI 0)))], [(0, .cells 48 (flatE a0)), (1, .cells 72 [dA 4 o17, .mp 2]), (2, .mp (gmE o6.1) o6.2)], [(4, some ⟨54, 1, (Enc.encL o17).length, []⟩)], 5, 88, []⟩ from (stle (tR rfl (tR rfl tZ)) (hR rfl (hR rfl (hR rfl hZ))) (kR rfl kZ) rfl (Nat.le_trans hv1 (lb rfl)) rfl rfl rfl (bF rfl (bB rfl rfl (bG rfl bZ))) rfl rfl))
  refine sumK (C := fun q_ => CallM Try.prog 34 [.one (.osl 0 0 nn nn)] ⟨[(0, .cells 48 (flatE a0))], [], 1⟩ (resOf (((Sum.elim (fun (y1 : (List (List Int)) × (GMap Bs Int)) => ([.agg [dA 4 y1.1, .mp 2], .one (dI 0)] : List AV)) (Sum.elim (fun (y2 : Unit) => ([.agg [dN, .d (.v (.map none))], .one (dI 8)] : List AV)) (fun (y3 : Unit) => ([.agg [dN, .d (.v (.map none))], .one (dI 9)] : List AV))))) q_)) ⟨(((Sum.elim (fun (y1 : (List (List Int)) × (GMap Bs Int)) => (⟨[(2, .v (.one (.ptr 1 0))), (3, .v (.one (dI 0)))], [(0, .cells 48 (flatE a0)), (1, .cells 72 [dA 4 y1.1, .mp 2]), (2, .mp (gmE y1.2.1) y1.2.2)], [(4, some ⟨54, 1, (Enc.encL y1.1).length, []⟩)], 5, 88, []⟩ : St)) (Sum.elim (fun (y2 : Unit) => (⟨[(2, .v (.one (.ptr 1 0))), (3, .v (.one (dI 8)))], [(0, .cells 48 (flatE a0)), (1, .cells 72 [dN, .d (.v (.map none))])], [], 5, 88, []⟩ : St)) (fun (y3 : Unit) => (⟨[(2, .v (.one (.ptr 1 0))), (3, .v (.one (dI 9)))], [(0, .cells 48 (flatE a0)), (1, .cells 72 [dN, .d (.v (.map none))])], [], 7, 88, []⟩ : St))))) q_).hp, (((Sum.elim (fun (y1 : (List (List Int)) × (GMap Bs Int)) => (⟨[(2, .v (.one (.ptr 1 0))), (3, .v (.one (dI 0)))], [(0, .cells 48 (flatE a0)), (1, .cells 72 [dA 4 y1.1, .mp 2]), (2, .mp (gmE y1.2.1) y1.2.2)], [(4, some ⟨54, 1, (Enc.encL y1.1).length, []⟩)], 5, 88, []⟩ : St)) (Sum.elim (fun (y2 : Unit) => (⟨[(2, .v (.one (.ptr 1 0))), (3, .v (.one (dI 8)))], [(0, .cells 48 (flatE a0)), (1, .cells 72 [dN, .d (.v (.map none))])], [], 5, 88, []⟩ : St)) (fun (y3 : Unit) => (⟨[(2, .v (.one (.ptr 1 0))), (3, .v (.one (dI 9)))], [(0, .cells 48 (flatE a0)), (1, .cells 72 [dN, .d (.v (.map none))])], [], 7, 88, []⟩ : St))))) q_).tk, (((Sum.elim (fun (y1 : (List (List Int)) × (GMap Bs Int)) => (⟨[(2, .v (.one (.ptr 1 0))), (3, .v (.one (dI 0)))], [(0, .cells 48 (flatE a0)), (1, .cells 72 [dA 4 y1.1, .mp 2]), (2, .mp (gmE y1.2.1) y1.2.2)], [(4, some ⟨54, 1, (Enc.encL y1.1).length, []⟩)], 5, 88, []⟩ : St)) (Sum.elim (fun (y2 : Unit) => (⟨[(2, .v (.one (.ptr 1 0))), (3, .v (.one (dI 8)))], [(0, .cells 48 (flatE a0)), (1, .cells 72 [dN, .d (.v (.map none))])], [], 5, 88, []⟩ : St)) (fun (y3 : Unit) => (⟨[(2, .v (.one (.ptr 1 0))), (3, .v (.one (dI 9)))], [(0, .cells 48 (flatE a0)), (1, .cells 72 [dN, .d (.v (.map none))])], [], 7, 88, []⟩ : St))))) q_).nx⟩) hc4 h0 (fun y1 hc4 h0 => ?_) (fun z_ hc4 h0 => sumK (C := fun q_ => CallM Try.prog 34 [.one (.osl 0 0 nn nn)] ⟨[(0, .cells 48 (flatE a0))], [], 1⟩ (resOf (((Sum.elim (fun (y1 : (List (List Int)) × (GMap Bs Int)) => ([.agg [dA 4 y1.1, .mp 2], .one (dI 0)] : List AV)) (Sum.elim (fun (y2 : Unit) => ([.agg [dN, .d (.v (.map none))], .one (dI 8)] : List AV)) (fun (y3 : Unit) => ([.agg [dN, .d (.v (.map none))], .one (dI 9)] : List AV))))) (.inr q_))) ⟨(((Sum.elim (fun (y1 : (List (List Int)) × (GMap Bs Int)) => (⟨[(2, .v (.one (.ptr 1 0))), (3, .v (.one (dI 0)))], [(0, .cells 48 (flatE a0)), (1, .cells 72 [dA 4 y1.1, .mp 2]), (2, .mp (gmE y1.2.1) y1.2.2)], [(4, some ⟨54, 1, (Enc.encL y1.1).length, []⟩)], 5, 88, []⟩ : St)) (Sum.elim (fun (y2 : Unit) => (⟨[(2, .v (.one (.ptr 1 0))), (3, .v (.one (dI 8)))], [(0, .cells 48 (flatE a0)), (1, .cells 72 [dN, .d (.v (.map none))])], [], 5, 88, []⟩ : St)) (fun (y3 : Unit) => (⟨[(2, .v (.one (.ptr 1 0))), (3, .v (.one (dI 9)))], [(0, .cells 48 (flatE a0)), (1, .cells 72 [dN, .d (.v (.map none))])], [], 7, 88, []⟩ : St))))) (.inr q_)).hp, (((Sum.elim (fun (y1 : (List (List Int)) × (GMap Bs Int)) => (⟨[(2, .v (.one (.ptr 1 0))), (3, .v (.one (dI 0)))], [(0, .cells 48 (flatE a0)), (1, .cells 72 [dA 4 y1.1, .mp 2]), (2, .mp (gmE y1.2.1) y1.2.2)], [(4, some ⟨54, 1, (Enc.encL y1.1).length, []⟩)], 5, 88, []⟩ : St)) (Sum.elim (fun (y2 : Unit) => (⟨[(2, .v (.one (.ptr 1 0))), (3, .v (.one (dI 8)))], [(0, .cells 48 (flatE a0)), (1, .cells 72 [dN, .d (.v (.map none))])], [], 5, 88, []⟩ : St)) (fun (y3 : Unit) => (⟨[(2, .v (.one (.ptr 1 0))), (3, .v (.one (dI 9)))], [(0, .cells 48 (flatE a0)), (1, .cells 72 [dN, .d (.v (.map none))])], [], 7, 88, []⟩ : St))))) (.inr q_)).tk, (((Sum.elim (fun (y1 : (List (List Int)) × (GMap Bs Int)) => (⟨[(2, .v (.one (.ptr 1 0))), (3, .v (.one (dI 0)))], [(0, .cells 48 (flatE a0)), (1, .cells 72 [dA 4 y1.1, .mp 2]), (2, .mp (gmE y1.2.1) y1.2.2)], [(4, some ⟨54, 1, (Enc.encL y1.1).length, []⟩)], 5, 88, []⟩ : St)) (Sum.elim (fun (y2 : Unit) => (⟨[(2, .v (.one (.ptr 1 0))), (3, .v (.one (dI 8)))], [(0, .cells 48 (flatE a0)), (1, .cells 72 [dN, .d (.v (.map none))])], [], 5, 88, []⟩ : St)) (fun (y3 : Unit) => (⟨[(2, .v (.one (.ptr 1 0))), (3, .v (.one (dI 9)))], [(0, .cells 48 (flatE a0)), (1, .cells 72 [dN, .d (.v (.map none))])], [], 7, 88, []⟩ : St))))) (.inr q_)).nx⟩) hc4 h0 (fun y2 hc4 h0 => ?_) (fun y3 hc4 h0 => ?_))
  ·
   replace hc4 : CallM Try.prog 34 [.one (.osl 0 0 nn nn)] ⟨[(0, .cells 48 (flatE a0))], [], 1⟩ (resOf [.agg [dA 4 y1.1, .mp 2], .one (dI 0)]) ⟨[(0, .cells 48 (flatE a0)), (1, .cells 72 [dA 4 y1.1, .mp 2]), (2, .mp (gmE y1.2.1) y1.2.2)], [(4, some ⟨54, 1, (Enc.encL y1.1).length, []⟩)], 5⟩ := hc4
   refine XL.put rfl rfl (lb rfl) (OpOK.callW rfl rfl rfl hc4 rfl (hR rfl hZ) kZ) <| rM rfl rfl rfl <| rR rfl rfl rfl (RO.extract rfl rfl) <| rR rfl rfl rfl (RO.extract rfl rfl) <| XL.put rfl rfl (lb rfl) (OpOK.alloc z_72 rfl) <| XL.eff rfl rfl (OpOK.store ag_72 rfl rfl rfl rfl (lb rfl) rfl) <| rA rfl rfl rfl <| XL.nil <| XQ.seq <| XC.seq <| XC.seq <| XC.region <| rM rfl rfl rfl <| rR rfl rfl rfl (RO.binInt rfl rfl rfl) ?_
   refine XL.nil <| XQ.seq ?_
   refine XC.cond rfl (fun h => nomatch h) (fun _ => ?_)
   refine XC.skip <| XQ.seq <| XC.seq <| XC.region <| rA rfl rfl rfl <| XL.nil <| XQ.seq <| XC.seq <| XC.region <| rM rfl rfl rfl <| rR rfl rfl rfl (RO.lenOsl sl_22 rfl) ?_
   refine guardK h0 (fun g32 h0 => ?_)
   refine XL.put rfl rfl (lb rfl) (OpOK.makeO (α := Bool) (z := false) sl_75 z_4 rfl rfl el_4 rfl rfl g32 rfl (by repeat (first | exact CLs.nil | refine CLs.cons (by first | exact .refl _ | exact .sub (.app _ _ _) | exact .sub (.nil _)) ?_))) ?_
   refine XL.put rfl rfl (lb rfl) (OpOK.alloc z_75 rfl) <| XL.eff rfl rfl (OpOK.store ag_75 rfl rfl rfl rfl (lb rfl) rfl) <| XL.nil <| XQ.seq <| XC.seq <| XC.block ?_
   refine XC.joinX 0 (fun (o33 : (List Int) × (List Bool)) => ⟨[(6, .v (.one (dA 8 o33.1)))], [(0, .cells 48 (flatE a0)), (1, .cells 72 [dA 4 y1.1, .mp 2]), (2, .mp (gmE y1.2.1) y1.2.2), (5, .cells 72 [dA 4 y1.1, .mp 2]), (6, .cells 4 (flatE o33.2)), (7, .cells 75 [.osl 6 0 (((nn : Nat) : Int).toNat) (((nn : Nat) : Int).toNat)])], [(4, some ⟨54, 1, (Enc.encL y1.1).length, []⟩), (8, some ⟨3, 1, (Enc.encL o33.1).length, []⟩)], 9, 58, []⟩) (fun (o33 : (List Int) × (List Bool)) => (some (o33.1, 0)) = some r) ?_ ?_
   ·
    refine XC.adoptT (t := 6) 3 1 rfl ?_
    refine bindK h0 (fun o34 hl1 h0 => ?_)
    refine XC.loopM (m22o_l5 nn y1) (fun s1 => ⟨[(0, .v (.one (.osl 0 0 nn nn))), (4, .v (.one (.ptr 5 0))), (6, .v (.one (dA 8 s1.1))), (7, .v (.one (.ptr 7 0)))], [(0, .cells 48 (flatE a0)), (1, .cells 72 [dA 4 y1.1, .mp 2]), (2, .mp (gmE y1.2.1) y1.2.2), (5, .cells 72 [dA 4 y1.1, .mp 2]), (6, .cells 4 (flatE s1.2)), (7, .cells 75 [.osl 6 0 (((nn : Nat) : Int).toNat) (((nn : Nat) : Int).toNat)])], [(4, some ⟨54, 1, (Enc.encL y1.1).length, []⟩), (8, some ⟨3, 1, (Enc.encL s1.1).length, []⟩)], 9, 58, []⟩) (([] : List Int), (List.replicate ((nn : Nat) : Int).toNat false)) o34 (stle (tR rfl (tR rfl (tR rfl (tR rfl tZ)))) (hR rfl (hR rfl (hR rfl (hR rfl (hR rfl (hR rfl hZ)))))) (kR rfl (kR rfl kZ)) rfl (Nat.le_trans hv0 (lb rfl)) rfl rfl rfl (bF rfl (bB rfl rfl (bG rfl (bB rfl rfl (bF rfl (bB rfl rfl bZ)))))) rfl rfl) hl1 (fun s1 n1 oo1 h1 ho1 => ?_)
    unfold m22o_l5 at h1
    refine XC.seq <| XC.seq <| XC.region <| rM rfl rfl rfl <| rR rfl rfl rfl (RO.lenE (α := Int) sl_54 rfl (.app _ _)) <| rM rfl rfl rfl <| rR rfl rfl rfl (RO.lenOsl sl_22 rfl) <| rR rfl rfl rfl (RO.binInt rfl rfl rfl) <| XL.nil <| XQ.seq ?_
    refine XC.cond (b := (decide ((s1.1.length : Int) < ((nn : Nat) : Int)))) rfl (fun c35 => ?_) (fun c35 => ?_)
    ·
     replace h1 := condT c35 h1
     refine XC.skip <| XQ.seq <| XC.block <| XC.seq <| XC.region <| rA rfl rfl rfl <| XL.nil <| XQ.seq <| XC.seq <| XC.seq <| XC.region <| rR rfl rfl rfl (RO.fieldOwn fo_72_0 rfl) <| rR rfl rfl rfl (RO.loadOwn ag_57 rfl rfl rfl) <| rR rfl rfl rfl (RO.lenE (α := List Int) sl_57 rfl (.app _ _)) ?_
     refine rM rfl rfl rfl <| XL.nil <| XQ.seq <| XC.block ?_
     refine XC.joinX 2 (fun (o36 : Int) => ⟨[(0, .v (.one (.osl 0 0 nn nn))), (4, .v (.one (.ptr 5 0))), (6, .v (.one (dA 8 s1.1))), (7, .v (.one (.ptr 7 0))), (8, .v (.one (dI o36)))], [(0, .cells 48 (flatE a0)), (1, .cells 72 [dA 4 y1.1, .mp 2]), (2, .mp (gmE y1.2.1) y1.2.2), (5, .cells 72 [dA 4 y1.1, .mp 2]), (6, .cells 4 (flatE s1.2)), (7, .cells 75 [.osl 6 0 (((nn : Nat) : Int).toNat) (((nn : Nat) : Int).toNat)])], [(4, some ⟨54, 1, (Enc.encL y1.1).length, []⟩), (8, some ⟨3, 1, (Enc.encL s1.1).length, []⟩)], 9, 58, []⟩) (fun (o36 : Int) => (cond (decide (o36 < 0))
         (some (.done (.inr (([] : List Int), 22))))
         (Option.bind (idx s1.2 o36) fun (x38 : Bool) =>
       guardO (Nat.beq s1.2.length (((nn : Nat) : Int).toNat))
       (guardO (Nat.ble (s1.1.length + ([o36]).length) 1000000000)
       (some (.next ((s1.1 ++ ([o36])), (s1.2.set o36.toNat true))))))) = some oo1) ?_ ?_
     ·
      refine bindK h1 (fun o37 hl2 h1 => ?_)
      refine XC.loopM (m22o_l4 y1 s1 nn) (fun s2 => ⟨[(0, .v (.one (.osl 0 0 nn nn))), (4, .v (.one (.ptr 5 0))), (6, .v (.one (dA 8 s1.1))), (7, .v (.one (.ptr 7 0))), (8, .v (.one (dI (-1)))), (28, .v (.one (dA 4 y1.1))), (29, .v (.one (dI (y1.1.length : Int)))), (30, .v (.one (dI s2)))], [(0, .cells 48 (flatE a0)), (1, .cells 72 [dA 4 y1.1, .mp 2]), (2, .mp (gmE y1.2.1) y1.2.2), (5, .cells 72 [dA 4 y1.1, .mp 2]), (6, .cells 4 (flatE s1.2)), (7, .cells 75 [.osl 6 0 (((nn : Nat) : Int).toNat) (((nn : Nat) : Int).toNat)])], [(4, some ⟨54, 1, (Enc.encL y1.1).length, []⟩), (8, some ⟨3, 1, (Enc.encL s1.1).length, []⟩)], 9, 58, []⟩) 0 o37 (stle (tR rfl (tR rfl (tR rfl (tR rfl (tR rfl (tR rfl (tR rfl (tR rfl tZ)))))))) (hR rfl (hR rfl (hR rfl (hR rfl (hR rfl (hR rfl hZ)))))) (kR rfl (kR rfl kZ)) rfl (Nat.le_trans hv0 (lb rfl)) rfl rfl rfl (bF rfl (bB rfl rfl (bG rfl (bB rfl rfl (bF rfl (bB rfl rfl bZ)))))) rfl rfl) hl2 (fun s2 n2 oo2 h2 ho2 => ?_)
      unfold m22o_l4 at h2
      refine XC.seq <| XC.region <| rR rfl rfl rfl (RO.binInt rfl rfl rfl) <| XL.nil <| XQ.seq <| XC.seq ?_
      refine XC.cond (b := (decide (s2 < (y1.1.length : Int)))) rfl (fun c38 => ?_) (fun c38 => ?_)
      ·
       replace h2 := condT c38 h2
       refine XC.skip <| XQ.seq <| XC.seq <| XC.block <| XC.seq <| XC.region <| rM rfl rfl rfl ?_
       refine bindK h2 (fun x39 hx39 h2 => ?_)
       refine rR rfl rfl rfl (RO.indexE (α := List Int) sl_57 rfl (.app _ _) rfl hx39) <| rR rfl rfl rfl (RO.loadPel ag_54 rfl rfl) <| rA rfl rfl rfl <| rA rfl rfl rfl <| XL.nil <| XQ.seq <| XC.seq ?_
       refine XC.joinR (fun (v40 : Bool) => ⟨[(0, .v (.one (.osl 0 0 nn nn))), (4, .v (.one (.ptr 5 0))), (6, .v (.one (dA 8 s1.1))), (7, .v (.one (.ptr 7 0))), (8, .v (.one (dI (-1)))), (9, .v (.one (dI s2))), (28, .v (.one (dA 4 y1.1))), (29, .v (.one (dI (y1.1.length : Int)))), (30, .v (.one (dI s2))), (45, .v (.one (dB v40)))], [(0, .cells 48 (flatE a0)), (1, .cells 72 [dA 4 y1.1, .mp 2]), (2, .mp (gmE y1.2.1) y1.2.2), (5, .cells 72 [dA 4 y1.1, .mp 2]), (6, .cells 4 (flatE s1.2)), (7, .cells 75 [.osl 6 0 (((nn : Nat) : Int).toNat) (((nn : Nat) : Int).toNat)])], [(4, some ⟨54, 1, (Enc.encL y1.1).length, []⟩), (8, some ⟨3, 1, (Enc.encL s1.1).length, []⟩)], 9, 58, []⟩) (fun (v40 : Bool) => (cond v40
           (some (.done s2))
           (some (.next (w64 (s2 + 1))))) = some oo2) ?_ ?_
       ·
        refine bindK h2 (fun w3_ h3 h2 => ?_)
        refine XC.region <| rR rfl rfl rfl (RO.loadOwn ag_75 rfl rfl rfl) <| rM rfl rfl rfl ?_
        refine bindK h3 (fun x41 hx41 h3 => ?_)
        refine guardK h3 (fun g42 h3 => ?_)
        refine rR rfl rfl rfl (RO.indexO (α := Bool) sl_75 rfl rfl hx41 g42) <| rR rfl rfl rfl (RO.loadOF (α := Bool) (m := s2) (f := 0) ag_4 rfl rfl hx41 rfl) <| rR rfl rfl rfl (RO.not rfl) <| rM rfl rfl rfl ?_
        refine XL.case (d := 40) (c := (!x41)) rfl (fun c43 => ?_) (fun c43 => ?_)
        ·
         replace h3 := condT c43 h3
         refine rM rfl rfl rfl <| rR rfl rfl rfl (RO.makeFunc1 rfl) ?_
         refine bindK h3 (fun x44 hx44 h3 => ?_)
         refine XL.put rfl rfl (lb rfl) (OpOK.callG (hp1' := [(7, .cells 75 [.osl 6 0 (((nn : Nat) : Int).toNat) (((nn : Nat) : Int).toNat)]), (6, .cells 4 (flatE s1.2))]) (tk1' := []) (hpF := [(0, .cells 48 (flatE a0)), (1, .cells 72 [dA 4 y1.1, .mp 2]), (2, .mp (gmE y1.2.1) y1.2.2), (5, .cells 72 [dA 4 y1.1, .mp 2])]) (tkF := [(4, some ⟨54, 1, (Enc.encL y1.1).length, []⟩), (8, some ⟨3, 1, (Enc.encL s1.1).length, []⟩)]) (res2 := resOf [.one (dB x44)]) (nx2 := 9) [7, 6] rfl rfl (m43f5_ok x39 (((nn : Nat) : Int).toNat) s1.2 x44 hx44) rfl rfl (qB rfl rfl (qF rfl qZ)) rfl rfl (gR rfl (gF rfl gZ)) jZ (hR rfl (hR rfl (hR rfl (hR rfl hZ)))) (kR rfl (kR rfl kZ)) rfl rfl rfl rfl rfl (bB rfl rfl (bF rfl bZ)) rfl rfl rfl rfl) <| rR rfl rfl rfl (RO.not rfl) <| rR rfl rfl rfl (RO.pickT rfl rfl) <| XL.nil ?_
         have e_ := Option.some.inj h3
         subst e_
         exact XQ.joinR (!x44) (stle (tR rfl (tR rfl (tR rfl (tR rfl (tR rfl (tR rfl (tR rfl (tR rfl (tR rfl (tR rfl tZ)))))))))) (hR rfl (hR rfl (hR rfl (hR rfl (hR rfl (hR rfl hZ)))))) (kR rfl (kR rfl kZ)) rfl (Nat.le_trans hv0 (lb rfl)) rfl rfl rfl (bF rfl (bB rfl rfl (bG rfl (bB rfl rfl (bF rfl (bB rfl rfl bZ)))))) rfl rfl) h2
        ·
         replace h3 := condF c43 h3
         refine XL.no rfl rfl <| XL.no rfl rfl <| XL.no rfl rfl <| XL.no rfl rfl <| rR rfl rfl rfl (RO.pickF rfl rfl) <| XL.nil ?_
         have e_ := Option.some.inj h3
         subst e_
         exact XQ.joinR false (stle (tR rfl (tR rfl (tR rfl (tR rfl (tR rfl (tR rfl (tR rfl (tR rfl (tR rfl (tR rfl tZ)))))))))) (hR rfl (hR rfl (hR rfl (hR rfl (hR rfl (hR rfl hZ)))))) (kR rfl (kR rfl kZ)) rfl (Nat.le_trans hv0 (lb rfl)) rfl rfl rfl (bF rfl (bB rfl rfl (bG rfl (bB rfl rfl (bF rfl (bB rfl rfl bZ)))))) rfl rfl) h2
       ·
        intro v40 h2
        refine XQ.seq ?_
        refine XC.cond (b := v40) rfl (fun c45 => ?_) (fun c45 => ?_)
        ·
         replace h2 := condT c45 h2
         refine XC.seq <| XC.region <| rM rfl rfl rfl <| rA rfl rfl rfl <| XL.nil <| XQ.seq <| XC.exit ?_
         refine XQ.blockE (by decide) ?_
         refine XQ.thenE <| XQ.thenE ?_
         have e_ := Option.some.inj h2
         subst e_
         have e_ : _ = _ := ho2
         subst e_
         exact XQ.joinX s2 (stle (tR rfl (tR rfl (tR rfl (tR rfl (tR rfl tZ))))) (hR rfl (hR rfl (hR rfl (hR rfl (hR rfl (hR rfl hZ)))))) (kR rfl (kR rfl kZ)) rfl (Nat.le_trans hv0 (lb rfl)) rfl rfl rfl (bF rfl (bB rfl rfl (bG rfl (bB rfl rfl (bF rfl (bB rfl rfl bZ)))))) rfl rfl) h1
        ·
         replace h2 := condF c45 h2
         refine XC.skip <| XQ.inBlock <| XQ.seq <| XC.region <| rR rfl rfl rfl (RO.binInt rfl rfl rfl) <| rM rfl rfl rfl <| XL.nil ?_
         have e_ := Option.some.inj h2
         subst e_
         refine XQ.nextM (w64 (s2 + 1)) (stle (tR rfl (tR rfl (tR rfl (tR rfl (tR rfl (tR rfl (tR rfl (tR rfl tZ)))))))) (hR rfl (hR rfl (hR rfl (hR rfl (hR rfl (hR rfl hZ)))))) (kR rfl (kR rfl kZ)) rfl (Nat.le_trans hv0 (lb rfl)) rfl rfl rfl (bF rfl (bB rfl rfl (bG rfl (bB rfl rfl (bF rfl (bB rfl rfl bZ)))))) rfl rfl) ho2
      ·
       replace h2 := condF c38 h2
       refine XC.exit <| XQ.thenE <| XQ.thenE ?_
       have e_ := Option.some.inj h2
       subst e_
       have e_ : _ = _ := ho2
       subst e_
       exact XQ.joinX (-1) (stle (tR rfl (tR rfl (tR rfl (tR rfl (tR rfl tZ))))) (hR rfl (hR rfl (hR rfl (hR rfl (hR rfl (hR rfl hZ)))))) (kR rfl (kR rfl kZ)) rfl (Nat.le_trans hv0 (lb rfl)) rfl rfl rfl (bF rfl (bB rfl rfl (bG rfl (bB rfl rfl (bF rfl (bB rfl rfl bZ)))))) rfl rfl) h1
     ·
      intro o36 h1
      refine XQ.blockX <| XQ.seq <| XC.seq <| XC.seq <| XC.region <| rM rfl rfl rfl <| rR rfl rfl rfl (RO.binInt rfl rfl rfl) <| XL.nil <| XQ.seq ?_
      refine XC.cond (b := (decide (o36 < 0))) rfl (fun c46 => ?_) (fun c46 => ?_)
      ·
       replace h1 := condT c46 h1
       refine XC.seq <| XC.region <| rA rfl rfl rfl <| rA rfl rfl rfl <| XL.nil <| XQ.seq <| XC.ret ?_
       have e_ := Option.some.inj h1
       subst e_
       have e_ : _ = _ := ho1
       subst e_
       try dsimp only [Sum.elim_inl, Sum.elim_inr] at h0
       have e_ := Option.some.inj h0
       subst e_
       exact hQ0 _ _ _ (.inr rfl) rfl (stle (tC rfl (.sub (.nil _)) (tR rfl tZ)) (hR rfl hZ) kZ rfl (Nat.le_trans hv0 (lb rfl)) rfl rfl rfl (bF rfl bZ) rfl rfl)
      ·
       replace h1 := condF c46 h1
       refine XC.skip <| XQ.seq <| XC.seq <| XC.region <| rR rfl rfl rfl (RO.loadOwn ag_75 rfl rfl rfl) <| rM rfl rfl rfl ?_
       refine bindK h1 (fun x47 hx47 h1 => ?_)
       refine guardK h1 (fun g48 h1 => ?_)
       refine rR rfl rfl rfl (RO.indexO (α := Bool) sl_75 rfl rfl hx47 g48) <| XL.eff rfl rfl (OpOK.storeOE (α := Bool) (y' := .one (dB true)) (v := true) ag_4 rfl rfl (.one (.d _)) rfl rfl hx47 rfl) <| XL.nil <| XQ.seq <| XC.region <| rM rfl rfl rfl <| rM rfl rfl rfl <| XL.put rfl rfl (lb rfl) (OpOK.lit1E (α := Int) (o36) sl_54 z_3 rfl rfl (lb rfl) (lb rfl) rfl rfl (.cons (.d _) .nil) rfl) ?_
       refine guardK h1 (fun g49 h1 => ?_)
       refine XL.put rfl rfl (lb rfl) (OpOK.appendE (α := Int) sl_54 el_3 rfl rfl rfl rfl rfl (.app _ _) g49) <| rA rfl rfl rfl <| XL.nil <| XQ.inBlock ?_
       have e_ := Option.some.inj h1
       subst e_
       refine XQ.nextM ((s1.1 ++ ([o36])), (s1.2.set o36.toNat true)) (stle (tR rfl (tR rfl (tR rfl (tR rfl tZ)))) (hR rfl (hR rfl (hR rfl (hR rfl (hR rfl (hR rfl hZ)))))) (kR rfl (kR rfl kZ)) rfl (Nat.le_trans hv0 (lb rfl)) rfl rfl rfl (bF rfl (bB rfl rfl (bG rfl (bB rfl rfl (bF rfl (bB rfl rfl bZ)))))) rfl rfl) ho1
    ·
     replace h1 := condF c35 h1
     refine XC.exit <| XQ.thenE <| XQ.thenE ?_
     have e_ := Option.some.inj h1
     subst e_
     have e_ : _ = _ := ho1
     subst e_
     exact XQ.joinX (s1.1, s1.2) (stle (tR rfl tZ) (hR rfl (hR rfl (hR rfl (hR rfl (hR rfl (hR rfl hZ)))))) (kR rfl (kR rfl kZ)) rfl (Nat.le_trans hv0 (lb rfl)) rfl rfl rfl (bF rfl (bB rfl rfl (bG rfl (bB rfl rfl (bF rfl (bB rfl rfl bZ)))))) rfl rfl) h0
   ·
    intro o33 h0
    refine XQ.blockX <| XQ.seq <| XC.seq <| XC.region <| rM rfl rfl rfl <| rA rfl rfl rfl <| rA rfl rfl rfl <| XL.nil <| XQ.seq <| XC.ret ?_
    have e_ := Option.some.inj h0
    subst e_
    exact hQ0 _ _ _ (.inr rfl) rfl (stle (tC rfl (.sub (.app _ _ _)) (tR rfl tZ)) (hR rfl hZ) kZ rfl (Nat.le_trans hv0 (lb rfl)) rfl rfl rfl (bF rfl bZ) rfl rfl)
  ·
   replace hc4 : CallM Try.prog 34 [.one (.osl 0 0 nn nn)] ⟨[(0, .cells 48 (flatE a0))], [], 1⟩ (resOf [.agg [dN, .d (.v (.map none))], .one (dI 8)]) ⟨[(0, .cells 48 (flatE a0)), (1, .cells 72 [dN, .d (.v (.map none))])], [], 5⟩ := hc4
   refine XL.put rfl rfl (lb rfl) (OpOK.callW rfl rfl rfl hc4 rfl (hR rfl hZ) kZ) <| rM rfl rfl rfl <| rR rfl rfl rfl (RO.extract rfl rfl) <| rR rfl rfl rfl (RO.extract rfl rfl) <| XL.put rfl rfl (lb rfl) (OpOK.alloc z_72 rfl) <| XL.eff rfl rfl (OpOK.store ag_72 rfl rfl rfl rfl (lb rfl) rfl) <| rA rfl rfl rfl <| XL.nil <| XQ.seq <| XC.seq <| XC.seq <| XC.region <| rM rfl rfl rfl <| rR rfl rfl rfl (RO.binInt rfl rfl rfl) ?_
   refine XL.nil <| XQ.seq ?_
   refine XC.cond rfl (fun _ => ?_) (fun h => nomatch h)
   refine XC.seq <| XC.region <| rM rfl rfl rfl <| rA rfl rfl rfl <| rA rfl rfl rfl <| XL.nil <| XQ.seq <| XC.ret ?_
   have e_ := Option.some.inj h0
   subst e_
   exact hQ0 _ _ _ (.inr rfl) rfl (stle (tC rfl (.sub (.nil _)) (tR rfl tZ)) (hR rfl hZ) kZ rfl (Nat.le_trans hv0 (lb rfl)) rfl rfl rfl (bF rfl bZ) rfl rfl)
  ·
   replace hc4 : CallM Try.prog 34 [.one (.osl 0 0 nn nn)] ⟨[(0, .cells 48 (flatE a0))], [], 1⟩ (resOf [.agg [dN, .d (.v (.map none))], .one (dI 9)]) ⟨[(0, .cells 48 (flatE a0)), (1, .cells 72 [dN, .d (.v (.map none))])], [], 7⟩ := hc4
   refine XL.put rfl rfl (lb rfl) (OpOK.callW rfl rfl rfl hc4 rfl (hR rfl hZ) kZ) <| rM rfl rfl rfl <| rR rfl rfl rfl (RO.extract rfl rfl) <| rR rfl rfl rfl (RO.extract rfl rfl) <| XL.put rfl rfl (lb rfl) (OpOK.alloc z_72 rfl) <| XL.eff rfl rfl (OpOK.store ag_72 rfl rfl rfl rfl (lb rfl) rfl) <| rA rfl rfl rfl <| XL.nil <| XQ.seq <| XC.seq <| XC.seq <| XC.region <| rM rfl rfl rfl <| rR rfl rfl rfl (RO.binInt rfl rfl rfl) ?_
   refine XL.nil <| XQ.seq ?_
   refine XC.cond rfl (fun _ => ?_) (fun h => nomatch h)
   refine XC.seq <| XC.region <| rM rfl rfl rfl <| rA rfl rfl rfl <| rA rfl rfl rfl <| XL.nil <| XQ.seq <| XC.ret ?_
   have e_ := Option.some.inj h0
   subst e_
   exact hQ0 _ _ _ (.inr rfl) rfl (stle (tC rfl (.sub (.nil _)) (tR rfl tZ)) (hR rfl hZ) kZ rfl (Nat.le_trans hv0 (lb rfl)) rfl rfl rfl (bF rfl bZ) rfl rfl)
end Go.Proofs.Ytijcchddnnnmdaa
namespace Go.Proofs.Ytijcchddnnnmdaa
open Go.RowKit Go.Shelf
set_option linter.unusedSimpArgs false
set_option linter.unusedVariables false
theorem en_15 : Enters Try.prog 15 := enters_of Try.func15 (by kernel_rfl) rfl
def m56f11_l0 (x6 : List Int) (rc : Int × Nat × (List Bool) × (List (List Int)) → Option ((List Bool))) (a1 : Nat) (a3 : List (List Int)) (s1 : Int × (List Bool)) : Option (LO (Int × (List Bool)) (((List Bool)))) :=
  cond (decide (s1.1 < (x6.length : Int)))
    (Option.bind (idx x6 s1.1) fun (x9 : Int) =>
  Option.bind (rc (x9, a1, s1.2, a3)) fun (x10 : (List Bool)) =>
  some (.next ((w64 (s1.1 + 1)), x10)))
    (some (.done s1.2))
def m56f11s (rc : Int × Nat × (List Bool) × (List (List Int)) → Option ((List Bool))) (a0 : Int) (a1 : Nat) (a2 : List Bool) (a3 : List (List Int)) : Option ((List Bool)) :=
  Option.bind (idx a2 a0) fun (x1 : Bool) =>
  guardO (Nat.beq a2.length a1)
  (cond x1
    (some a2)
    (Option.bind (idx a2 a0) fun (x4 : Bool) =>
  guardO (Nat.beq a2.length a1)
  (Option.bind (idx a3 a0) fun (x6 : List Int) =>
  Option.bind (loopN (m56f11_l0 x6 rc a1 a3) FUEL (0, (a2.set a0.toNat true))) (fun (o7 : (List Bool)) => some o7))))
def m56f11F (rc : Int × Nat × (List Bool) × (List (List Int)) → Option ((List Bool))) (u : Int × Nat × (List Bool) × (List (List Int))) : Option ((List Bool)) := m56f11s rc u.1 u.2.1 u.2.2.1 u.2.2.2
def m56f11 (a0 : Int) (a1 : Nat) (a2 : List Bool) (a3 : List (List Int)) : Option ((List Bool)) := recO m56f11F FUEL (a0, a1, a2, a3)
set_option maxRecDepth 100000 in
set_option maxHeartbeats 2000000 in
theorem m56f11s_ok (rc : Int × Nat × (List Bool) × (List (List Int)) → Option ((List Bool))) (H : ∀ (a0 : Int) (a1 : Nat) (a2 : List Bool) (a3 : List (List Int)) (r : (List Bool)), rc (a0, a1, a2, a3) = some r → CallM Try.prog 56 [.one (dI a0), .one (.ptr 0 0), .one (.ptr 2 0), .one (.ptr 4 0)] ⟨[(0, .cells 75 [.osl 1 0 a1 a1]), (1, .cells 4 (flatE a2)), (2, .cells 57 [dA 3 a3]), (4, .cells 106 [.fn 56 [(0, 0), (2, 0), (4, 0)]])], [(3, some ⟨54, 1, (Enc.encL a3).length, []⟩)], 5⟩ (resOf []) ⟨[(0, .cells 75 [.osl 1 0 a1 a1]), (1, .cells 4 (flatE r)), (2, .cells 57 [dA 3 a3]), (4, .cells 106 [.fn 56 [(0, 0), (2, 0), (4, 0)]])], [(3, some ⟨54, 1, (Enc.encL a3).length, []⟩)], 5⟩) (a0 : Int) (a1 : Nat) (a2 : List Bool) (a3 : List (List Int)) (r : (List Bool)) (h0 : m56f11s rc a0 a1 a2 a3 = some r) : CallM Try.prog 56 [.one (dI a0), .one (.ptr 0 0), .one (.ptr 2 0), .one (.ptr 4 0)] ⟨[(0, .cells 75 [.osl 1 0 a1 a1]), (1, .cells 4 (flatE a2)), (2, .cells 57 [dA 3 a3]), (4, .cells 106 [.fn 56 [(0, 0), (2, 0), (4, 0)]])], [(3, some ⟨54, 1, (Enc.encL a3).length, []⟩)], 5⟩ (resOf []) ⟨[(0, .cells 75 [.osl 1 0 a1 a1]), (1, .cells 4 (flatE r)), (2, .cells 57 [dA 3 a3]), (4, .cells 106 [.fn 56 [(0, 0), (2, 0), (4, 0)]])], [(3, some ⟨54, 1, (Enc.encL a3).length, []⟩)], 5⟩ := by
  unfold m56f11s at h0
  refine CallM.of_bodyD ⟨[], [(0, .cells 75 [.osl 1 0 a1 a1]), (1, .cells 4 (flatE r)), (2, .cells 57 [dA 3 a3]), (4, .cells 106 [.fn 56 [(0, 0), (2, 0), (4, 0)]])], [(3, some ⟨54, 1, (Enc.encL a3).length, []⟩)], 5, 27, []⟩ rfl rfl en_56 (lb rfl) rfl .nil (fun w0 M V0 Q hv0 hQ0 => ?_)
  simp only [entry]
  refine XC.seq <| XC.seq <| XC.region <| rR rfl rfl rfl (RO.loadOwn ag_75 rfl rfl rfl) <| rM rfl rfl rfl ?_
  refine bindK h0 (fun x1 hx1 h0 => ?_)
  refine guardK h0 (fun g2 h0 => ?_)
  refine rR rfl rfl rfl (RO.indexO (α := Bool) sl_75 rfl rfl hx1 g2) <| rR rfl rfl rfl (RO.loadOF (α := Bool) (m := a0) (f := 0) ag_4 rfl rfl hx1 rfl) <| XL.nil <| XQ.seq ?_
  refine XC.cond (b := x1) rfl (fun c3 => ?_) (fun c3 => ?_)
  ·
   replace h0 := condT c3 h0
   refine XC.ret ?_
   have e_ := Option.some.inj h0
   subst e_
   exact hQ0 _ _ _ (.inr rfl) rfl (stle tZ (hR rfl (hR rfl (hR rfl (hR rfl hZ)))) (kR rfl kZ) rfl (Nat.le_trans hv0 (lb rfl)) rfl rfl rfl (bB rfl rfl (bF rfl (bB rfl rfl (bB rfl rfl bZ)))) rfl rfl)
  ·
   replace h0 := condF c3 h0
   refine XC.skip <| XQ.seq <| XC.seq <| XC.region <| rR rfl rfl rfl (RO.loadOwn ag_75 rfl rfl rfl) <| rM rfl rfl rfl ?_
   refine bindK h0 (fun x4 hx4 h0 => ?_)
   refine guardK h0 (fun g5 h0 => ?_)
   refine rR rfl rfl rfl (RO.indexO (α := Bool) sl_75 rfl rfl hx4 g5) <| XL.eff rfl rfl (OpOK.storeOE (α := Bool) (y' := .one (dB true)) (v := true) ag_4 rfl rfl (.one (.d _)) rfl rfl hx4 rfl) <| XL.nil <| XQ.seq <| XC.seq <| XC.region <| rR rfl rfl rfl (RO.loadOwn ag_57 rfl rfl rfl) <| rM rfl rfl rfl ?_
   refine bindK h0 (fun x6 hx6 h0 => ?_)
   refine rR rfl rfl rfl (RO.indexE (α := List Int) sl_57 rfl (.app _ _) rfl hx6) <| rR rfl rfl rfl (RO.loadPel ag_54 rfl rfl) <| rR rfl rfl rfl (RO.lenE (α := Int) sl_54 rfl (.d _)) <| rM rfl rfl rfl <| XL.nil <| XQ.seq <| XC.block ?_
   refine XC.joinX 0 (fun (o7 : (List Bool)) => ⟨[], [(0, .cells 75 [.osl 1 0 a1 a1]), (1, .cells 4 (flatE o7)), (2, .cells 57 [dA 3 a3]), (4, .cells 106 [.fn 56 [(0, 0), (2, 0), (4, 0)]])], [(3, some ⟨54, 1, (Enc.encL a3).length, []⟩)], 5, 27, []⟩) (fun (o7 : (List Bool)) => (some o7) = some r) ?_ ?_
   ·
    refine bindK h0 (fun o8 hl1 h0 => ?_)
    refine XC.loopM (m56f11_l0 x6 rc a1 a3) (fun s1 => ⟨[(3, .v (.one (.ptr 4 0))), (17, .v (.one (dS x6))), (18, .v (.one (dI (x6.length : Int)))), (19, .v (.one (dI s1.1)))], [(0, .cells 75 [.osl 1 0 a1 a1]), (1, .cells 4 (flatE s1.2)), (2, .cells 57 [dA 3 a3]), (4, .cells 106 [.fn 56 [(0, 0), (2, 0), (4, 0)]])], [(3, some ⟨54, 1, (Enc.encL a3).length, []⟩)], 5, 27, []⟩) (0, (a2.set a0.toNat true)) o8 (stle (tR rfl (tR rfl (tR rfl (tR rfl tZ)))) (hR rfl (hR rfl (hR rfl (hR rfl hZ)))) (kR rfl kZ) rfl (Nat.le_trans hv0 (lb rfl)) rfl rfl rfl (bB rfl rfl (bF rfl (bB rfl rfl (bB rfl rfl bZ)))) rfl rfl) hl1 (fun s1 n1 oo1 h1 ho1 => ?_)
    unfold m56f11_l0 at h1
    refine XC.seq <| XC.region <| rR rfl rfl rfl (RO.binInt rfl rfl rfl) <| XL.nil <| XQ.seq <| XC.seq ?_
    refine XC.cond (b := (decide (s1.1 < (x6.length : Int)))) rfl (fun c9 => ?_) (fun c9 => ?_)
    ·
     replace h1 := condT c9 h1
     refine XC.skip <| XQ.seq <| XC.seq <| XC.block <| XC.seq <| XC.region ?_
     refine bindK h1 (fun x10 hx10 h1 => ?_)
     refine rR rfl rfl rfl (RO.indexE (α := Int) sl_54 rfl (.d _) rfl hx10) <| rR rfl rfl rfl (RO.loadPel ag_3 rfl rfl) <| rA rfl rfl rfl <| XL.nil <| XQ.seq <| XC.region <| rR rfl rfl rfl (RO.loadOwn ag_106 rfl rfl rfl) <| rM rfl rfl rfl ?_
     refine bindK h1 (fun x11 hx11 h1 => ?_)
     refine XL.put rfl rfl (lb rfl) (OpOK.callG (hp1' := [(0, .cells 75 [.osl 1 0 a1 a1]), (1, .cells 4 (flatE x11)), (2, .cells 57 [dA 3 a3]), (4, .cells 106 [.fn 56 [(0, 0), (2, 0), (4, 0)]])]) (tk1' := [(3, some ⟨54, 1, (Enc.encL a3).length, []⟩)]) (hpF := []) (tkF := []) (res2 := resOf []) (nx2 := 5) [0, 1, 2, 3, 4] rfl rfl (H x10 a1 s1.2 a3 x11 hx11) rfl rfl (qB rfl rfl (qF rfl (qB rfl rfl (qB rfl rfl qZ)))) rfl rfl (gR rfl (gF rfl (gR rfl (gR rfl gZ)))) (jR rfl jZ) hZ kZ rfl rfl rfl rfl rfl (bB rfl rfl (bF rfl (bB rfl rfl (bB rfl rfl bZ)))) rfl rfl rfl rfl) <| XL.nil <| XQ.inBlock <| XQ.seq <| XC.region <| rR rfl rfl rfl (RO.binInt rfl rfl rfl) <| rM rfl rfl rfl <| XL.nil ?_
     have e_ := Option.some.inj h1
     subst e_
     refine XQ.nextM ((w64 (s1.1 + 1)), x11) (stle (tR rfl (tR rfl (tR rfl (tR rfl tZ)))) (hR rfl (hR rfl (hR rfl (hR rfl hZ)))) (kR rfl kZ) rfl (Nat.le_trans hv0 (lb rfl)) rfl rfl rfl (bB rfl rfl (bF rfl (bB rfl rfl (bB rfl rfl bZ)))) rfl rfl) ho1
    ·
     replace h1 := condF c9 h1
     refine XC.exit <| XQ.thenE <| XQ.thenE ?_
     have e_ := Option.some.inj h1
     subst e_
     have e_ : _ = _ := ho1
     subst e_
     exact XQ.joinX s1.2 (stle tZ (hR rfl (hR rfl (hR rfl (hR rfl hZ)))) (kR rfl kZ) rfl (Nat.le_trans hv0 (lb rfl)) rfl rfl rfl (bB rfl rfl (bF rfl (bB rfl rfl (bB rfl rfl bZ)))) rfl rfl) h0
   ·
    intro o7 h0
    refine XQ.blockX ?_
    have e_ := Option.some.inj h0
    subst e_
    exact hQ0 _ _ _ (.inl rfl) rfl (stle tZ (hR rfl (hR rfl (hR rfl (hR rfl hZ)))) (kR rfl kZ) rfl (Nat.le_trans hv0 (lb rfl)) rfl rfl rfl (bB rfl rfl (bF rfl (bB rfl rfl (bB rfl rfl bZ)))) rfl rfl)
theorem m56f11_all (n : Nat) (u : Int × Nat × (List Bool) × (List (List Int))) (r : (List Bool)) (h0 : recO m56f11F n u = some r) : CallM Try.prog 56 [.one (dI u.1), .one (.ptr 0 0), .one (.ptr 2 0), .one (.ptr 4 0)] ⟨[(0, .cells 75 [.osl 1 0 u.2.1 u.2.1]), (1, .cells 4 (flatE u.2.2.1)), (2, .cells 57 [dA 3 u.2.2.2]), (4, .cells 106 [.fn 56 [(0, 0), (2, 0), (4, 0)]])], [(3, some ⟨54, 1, (Enc.encL u.2.2.2).length, []⟩)], 5⟩ (resOf []) ⟨[(0, .cells 75 [.osl 1 0 u.2.1 u.2.1]), (1, .cells 4 (flatE r)), (2, .cells 57 [dA 3 u.2.2.2]), (4, .cells 106 [.fn 56 [(0, 0), (2, 0), (4, 0)]])], [(3, some ⟨54, 1, (Enc.encL u.2.2.2).length, []⟩)], 5⟩ :=
  recO_ind (C := fun u r => CallM Try.prog 56 [.one (dI u.1), .one (.ptr 0 0), .one (.ptr 2 0), .one (.ptr 4 0)] ⟨[(0, .cells 75 [.osl 1 0 u.2.1 u.2.1]), (1, .cells 4 (flatE u.2.2.1)), (2, .cells 57 [dA 3 u.2.2.2]), (4, .cells 106 [.fn 56 [(0, 0), (2, 0), (4, 0)]])], [(3, some ⟨54, 1, (Enc.encL u.2.2.2).length, []⟩)], 5⟩ (resOf []) ⟨[(0, .cells 75 [.osl 1 0 u.2.1 u.2.1]), (1, .cells 4 (flatE r)), (2, .cells 57 [dA 3 u.2.2.2]), (4, .cells 106 [.fn 56 [(0, 0), (2, 0), (4, 0)]])], [(3, some ⟨54, 1, (Enc.encL u.2.2.2).length, []⟩)], 5⟩) (fun rc H u r h => m56f11s_ok rc (fun a0 a1 a2 a3 r h => H (a0, a1, a2, a3) r h) u.1 u.2.1 u.2.2.1 u.2.2.2 r h) n u r h0
theorem m56f11_ok (a0 : Int) (a1 : Nat) (a2 : List Bool) (a3 : List (List Int)) (r : (List Bool)) (h0 : m56f11 a0 a1 a2 a3 = some r) : CallM Try.prog 56 [.one (dI a0), .one (.ptr 0 0), .one (.ptr 2 0), .one (.ptr 4 0)] ⟨[(0, .cells 75 [.osl 1 0 a1 a1]), (1, .cells 4 (flatE a2)), (2, .cells 57 [dA 3 a3]), (4, .cells 106 [.fn 56 [(0, 0), (2, 0), (4, 0)]])], [(3, some ⟨54, 1, (Enc.encL a3).length, []⟩)], 5⟩ (resOf []) ⟨[(0, .cells 75 [.osl 1 0 a1 a1]), (1, .cells 4 (flatE r)), (2, .cells 57 [dA 3 a3]), (4, .cells 106 [.fn 56 [(0, 0), (2, 0), (4, 0)]])], [(3, some ⟨54, 1, (Enc.encL a3).length, []⟩)], 5⟩ := m56f11_all FUEL (a0, a1, a2, a3) r h0
end Go.Proofs.Ytijcchddnnnmdaa
namespace Go.Proofs.Ytijcchddnnnmdaa
open Go.RowKit Go.Shelf
set_option linter.unusedSimpArgs false
set_option linter.unusedVariables false
def m15o_l0 (x10 : (List Bs)) (s2 : Int × (GMap Bs Int)) (s3 : Int × (GMap Bs Int)) : Option (LO (Int × (GMap Bs Int)) (((GMap Bs Int)) ⊕ (((List (List Int)) × (GMap Bs Int)) ⊕ Unit ⊕ Unit))) :=
  cond (decide (s3.1 < (x10.length : Int)))
    (Option.bind (idx x10 s3.1) fun (x13 : Bs) =>
  cond (gmHas s3.2 x13)
    (some (.done (.inr (.inr (.inl ())))))
    (some (.next ((w64 (s3.1 + 1)), (gmSet s3.2 x13 s2.1)))))
    (some (.done (.inl s3.2)))
def m15o_l1 (nn : Nat) (a0 : List Dcl) (s2 : Int × (GMap Bs Int)) : Option (LO (Int × (GMap Bs Int)) (((GMap Bs Int)) ⊕ (((List (List Int)) × (GMap Bs Int)) ⊕ Unit ⊕ Unit))) :=
  cond (decide (s2.1 < ((nn : Nat) : Int)))
    (Option.bind (idx a0 s2.1) fun (x8 : Dcl) =>
  guardO (Nat.beq a0.length nn)
  (Option.bind (m37 x8) fun (x10 : (List Bs)) =>
  Option.bind (loopN (m15o_l0 x10 s2) FUEL (0, s2.2)) (Sum.elim (fun (o11 : (GMap Bs Int)) => some (.next ((w64 (s2.1 + 1)), o11))) (fun o => some (.done (.inr o))))))
    (some (.done (.inl s2.2)))
def m15o_l2 (x11 : (List Bs)) (o6 : (GMap Bs Int)) (s3 : (List Int) × Int) : Option (LO ((List Int) × Int) (((List Int)) ⊕ (((List (List Int)) × (GMap Bs Int)) ⊕ Unit ⊕ Unit))) :=
  cond (decide (s3.2 < (x11.length : Int)))
    (Option.bind (idx x11 s3.2) fun (x14 : Bs) =>
  cond (!(gmHas o6 x14))
    (some (.done (.inr (.inr (.inr ())))))
    (guardO (Nat.ble (s3.1.length + ([(gmVal o6 x14)]).length) 1000000000)
  (some (.next ((s3.1 ++ ([(gmVal o6 x14)])), (w64 (s3.2 + 1)))))))
    (some (.done (.inl s3.1)))
def m15o_l3 (nn : Nat) (a0 : List Dcl) (o6 : (GMap Bs Int)) (s2 : Int × (List (List Int))) : Option (LO (Int × (List (List Int))) (((List (List Int))) ⊕ (((List (List Int)) × (GMap Bs Int)) ⊕ Unit ⊕ Unit))) :=
  cond (decide (s2.1 < ((nn : Nat) : Int)))
    (Option.bind (idx a0 s2.1) fun (x9 : Dcl) =>
  guardO (Nat.beq a0.length nn)
  (Option.bind (m53 x9) fun (x11 : (List Bs)) =>
  Option.bind (loopN (m15o_l2 x11 o6) FUEL (([] : List Int), 0)) (Sum.elim (fun (o12 : (List Int)) => Option.bind (sortF o12) fun (x13 : List Int) =>
  Option.bind (compactF x13 ((Enc.encL o12).length)) fun (x14 : List Int) =>
  guardO (Nat.ble (s2.2.length + ([x14]).length) 1000000000)
  (some (.next ((w64 (s2.1 + 1)), (s2.2 ++ ([x14])))))) (fun o => some (.done (.inr o))))))
    (some (.done (.inl s2.2)))
def m15o_l4 (a1 : List Bs) (y1 : (List (List Int)) × (GMap Bs Int)) (s2 : Int × (List Bool)) : Option (LO (Int × (List Bool)) (((List Bool)) ⊕ (Unit ⊕ ((List Bool))))) :=
  cond (decide (s2.1 < (a1.length : Int)))
    (Option.bind (idx a1 s2.1) fun (x39 : Bs) =>
  cond (!(gmHas y1.2 x39))
    (some (.done (.inr (.inl ()))))
    (Option.bind (m56f11 (gmVal y1.2 x39) ((y1.1.length : Int).toNat) s2.2 y1.1) fun (x41 : (List Bool)) =>
  some (.next ((w64 (s2.1 + 1)), x41))))
    (some (.done (.inl s2.2)))
def m15o_l5 (nn : Nat) (a0 : List Dcl) (y33 : (List Bool)) (y1 : (List (List Int)) × (GMap Bs Int)) (s1 : (List Dcl) × Int) : Option (LO ((List Dcl) × Int) (((List Dcl)))) :=
  cond (decide (s1.2 < ((nn : Nat) : Int)))
    (Option.bind (idx a0 s1.2) fun (x45 : Dcl) =>
  guardO (Nat.beq a0.length nn)
  (Option.bind (idx y33 s1.2) fun (x47 : Bool) =>
  guardO (Nat.beq y33.length ((y1.1.length : Int).toNat))
  (cond x47
    (guardO (Nat.ble (s1.1.length + ([x45]).length) 1000000000)
  (some (.next ((s1.1 ++ ([x45])), (w64 (s1.2 + 1))))))
    (some (.next (s1.1, (w64 (s1.2 + 1))))))))
    (some (.done s1.1))
def m15o (a0 : List Dcl) (a1 : List Bs) (nn : Nat) : Option ((List Dcl) × Int) :=
  Option.bind (Option.bind (loopN (m15o_l1 nn a0) FUEL (0, gmNil)) (Sum.elim (fun (o6 : (GMap Bs Int)) => Option.bind (loopN (m15o_l3 nn a0 o6) FUEL (0, ([] : List (List Int)))) (Sum.elim (fun (o7 : (List (List Int))) => some (.inl (o7, o6))) (fun o => some o))) (fun o => some o))) (Sum.elim (fun (y1 : (List (List Int)) × (GMap Bs Int)) => Option.bind (guardO (cond (decide (0 ≤ (y1.1.length : Int))) (Nat.ble (1 * (y1.1.length : Int).toNat) 281474976710656) false)
  (Option.bind (loopN (m15o_l4 a1 y1) FUEL (0, (List.replicate (y1.1.length : Int).toNat false))) (Sum.elim (fun (o37 : (List Bool)) => some (.inr o37)) (fun o => some o)))) (Sum.elim (fun (y32 : Unit) => some (([] : List Dcl), 9)) (fun (y33 : (List Bool)) => Option.bind (loopN (m15o_l5 nn a0 y33 y1) FUEL (([] : List Dcl), 0)) (fun (o43 : (List Dcl)) => some (o43, 0))))) (Sum.elim (fun (y2 : Unit) => some (([] : List Dcl), 8)) (fun (y3 : Unit) => some (([] : List Dcl), 9))))
set_option maxRecDepth 100000 in
set_option maxHeartbeats 2000000 in
theorem m15o_ok (a0 : List Dcl) (a1 : List Bs) (nn : Nat) (r : (List Dcl) × Int) (h0 : m15o a0 a1 nn = some r) : CallM Try.prog 15 [.one (.osl 0 0 nn nn), .one (dS a1)] ⟨[(0, .cells 48 (flatE a0))], [], 1⟩ (resOf [.one (dS r.1), .one (dI r.2)]) ⟨[(0, .cells 48 (flatE a0))], [], 6⟩ := by
  unfold m15o at h0
  refine CallM.of_bodyD ⟨[(4, .v (.one (dS r.1))), (5, .v (.one (dI r.2)))], [(0, .cells 48 (flatE a0))], [], 6, 48, []⟩ rfl rfl en_15 (lb rfl) rfl (RAs.tmp rfl (RAs.tmp rfl .nil)) (fun w0 M V0 Q hv0 hQ0 => ?_)
  simp only [entry]
  refine XC.seq <| XC.region <| rA rfl rfl rfl <| rA rfl rfl rfl <| XL.nil <| XQ.seq <| XC.seq <| XC.region <| rM rfl rfl rfl ?_
  refine bindK h0 (fun y5 h1 h0 => ?_)
  have hc4 : CallM Try.prog 34 [.one (.osl 0 0 nn nn)] ⟨[(0, .cells 48 (flatE a0))], [], 1⟩ (resOf (((Sum.elim (fun (y1 : (List (List Int)) × (GMap Bs Int)) => ([.agg [dA 4 y1.1, .mp 2], .one (dI 0)] : List AV)) (Sum.elim (fun (y2 : Unit) => ([.agg [dN, .d (.v (.map none))], .one (dI 8)] : List AV)) (fun (y3 : Unit) => ([.agg [dN, .d (.v (.map none))], .one (dI 9)] : List AV))))) y5)) ⟨(((Sum.elim (fun (y1 : (List (List Int)) × (GMap Bs Int)) => (⟨[(2, .v (.one (.ptr 1 0))), (3, .v (.one (dI 0)))], [(0, .cells 48 (flatE a0)), (1, .cells 72 [dA 4 y1.1, .mp 2]), (2, .mp (gmE y1.2.1) y1.2.2)], [(4, some ⟨54, 1, (Enc.encL y1.1).length, []⟩)], 5, 88, []⟩ : St)) (Sum.elim (fun (y2 : Unit) => (⟨[(2, .v (.one (.ptr 1 0))), (3, .v (.one (dI 8)))], [(0, .cells 48 (flatE a0)), (1, .cells 72 [dN, .d (.v (.map none))])], [], 5, 88, []⟩ : St)) (fun (y3 : Unit) => (⟨[(2, .v (.one (.ptr 1 0))), (3, .v (.one (dI 9)))], [(0, .cells 48 (flatE a0)), (1, .cells 72 [dN, .d (.v (.map none))])], [], 7, 88, []⟩ : St))))) y5).hp, (((Sum.elim (fun (y1 : (List (List Int)) × (GMap Bs Int)) => (⟨[(2, .v (.one (.ptr 1 0))), (3, .v (.one (dI 0)))], [(0, .cells 48 (flatE a0)), (1, .cells 72 [dA 4 y1.1, .mp 2]), (2, .mp (gmE y1.2.1) y1.2.2)], [(4, some ⟨54, 1, (Enc.encL y1.1).length, []⟩)], 5, 88, []⟩ : St)) (Sum.elim (fun (y2 : Unit) => (⟨[(2, .v (.one (.ptr 1 0))), (3, .v (.one (dI 8)))], [(0, .cells 48 (flatE a0)), (1, .cells 72 [dN, .d (.v (.map none))])], [], 5, 88, []⟩ : St)) (fun (y3 : Unit) => (⟨[(2, .v (.one (.ptr 1 0))), (3, .v (.one (dI 9)))], [(0, .cells 48 (flatE a0)), (1, .cells 72 [dN, .d (.v (.map none))])], [], 7, 88, []⟩ : St))))) y5).tk, (((Sum.elim (fun (y1 : (List (List Int)) × (GMap Bs Int)) => (⟨[(2, .v (.one (.ptr 1 0))), (3, .v (.one (dI 0)))], [(0, .cells 48 (flatE a0)), (1, .cells 72 [dA 4 y1.1, .mp 2]), (2, .mp (gmE y1.2.1) y1.2.2)], [(4, some ⟨54, 1, (Enc.encL y1.1).length, []⟩)], 5, 88, []⟩ : St)) (Sum.elim (fun (y2 : Unit) => (⟨[(2, .v (.one (.ptr 1 0))), (3, .v (.one (dI 8)))], [(0, .cells 48 (flatE a0)), (1, .cells 72 [dN, .d (.v (.map none))])], [], 5, 88, []⟩ : St)) (fun (y3 : Unit) => (⟨[(2, .v (.one (.ptr 1 0))), (3, .v (.one (dI 9)))], [(0, .cells 48 (flatE a0)), (1, .cells 72 [dN, .d (.v (.map none))])], [], 7, 88, []⟩ : St))))) y5).nx⟩ := by
   refine CallM.of_bodyT y5 ((Sum.elim (fun (y1 : (List (List Int)) × (GMap Bs Int)) => (⟨[(2, .v (.one (.ptr 1 0))), (3, .v (.one (dI 0)))], [(0, .cells 48 (flatE a0)), (1, .cells 72 [dA 4 y1.1, .mp 2]), (2, .mp (gmE y1.2.1) y1.2.2)], [(4, some ⟨54, 1, (Enc.encL y1.1).length, []⟩)], 5, 88, []⟩ : St)) (Sum.elim (fun (y2 : Unit) => (⟨[(2, .v (.one (.ptr 1 0))), (3, .v (.one (dI 8)))], [(0, .cells 48 (flatE a0)), (1, .cells 72 [dN, .d (.v (.map none))])], [], 5, 88, []⟩ : St)) (fun (y3 : Unit) => (⟨[(2, .v (.one (.ptr 1 0))), (3, .v (.one (dI 9)))], [(0, .cells 48 (flatE a0)), (1, .cells 72 [dN, .d (.v (.map none))])], [], 7, 88, []⟩ : St))))) ((Sum.elim (fun (y1 : (List (List Int)) × (GMap Bs Int)) => ([.agg [dA 4 y1.1, .mp 2], .one (dI 0)] : List AV)) (Sum.elim (fun (y2 : Unit) => ([.agg [dN, .d (.v (.map none))], .one (dI 8)] : List AV)) (fun (y3 : Unit) => ([.agg [dN, .d (.v (.map none))], .one (dI 9)] : List AV))))) rfl rfl en_34 (lb rfl) (fun z_ => by cases z_ with
     | inl _ => rfl
     | inr z_ => exact (by cases z_ <;> rfl)) (fun z_ => by cases z_ with
     | inl _ => exact (RAs.agg ag_72 rfl rfl rfl rfl (RAs.tmp rfl .nil))
     | inr z_ => exact (by cases z_ with
     | inl _ => exact (RAs.agg ag_72 rfl rfl rfl rfl (RAs.tmp rfl .nil))
     | inr _ => exact (RAs.agg ag_72 rfl rfl rfl rfl (RAs.tmp rfl .nil)))) (fun w0 M V0 Q hv1 hQ1 => ?_)
   simp only [entry]
   refine XC.seq <| XC.region <| XL.put rfl rfl (lb rfl) (OpOK.alloc z_72 rfl) <| rA rfl rfl rfl <| XL.nil <| XQ.seq <| XC.seq <| XC.region <| XL.put rfl rfl (lb rfl) (OpOK.makeMapG Bs Int) <| rR rfl rfl rfl (RO.build1 bd_72 rfl rfl rfl) <| XL.put rfl rfl (lb rfl) (OpOK.alloc z_72 rfl) <| XL.eff rfl rfl (OpOK.store ag_72 rfl rfl rfl rfl (lb rfl) rfl) <| XL.nil <| XQ.seq ?_
   refine XC.seq <| XC.seq <| XC.region <| rM rfl rfl rfl <| rR rfl rfl rfl (RO.lenOsl sl_22 rfl) <| rM rfl rfl rfl <| XL.nil <| XQ.seq <| XC.block ?_
   refine XC.joinX 0 (fun (o6 : (GMap Bs Int)) => ⟨[(0, .v (.one (.osl 0 0 nn nn))), (2, .v (.one (.ptr 1 0))), (4, .v (.one (.ptr 3 0)))], [(0, .cells 48 (flatE a0)), (1, .cells 72 [dN, .d (.v (.map none))]), (2, .mp (gmE o6.1) o6.2), (3, .cells 72 [dN, .mp 2])], [], 4, 88, []⟩) (fun (o6 : (GMap Bs Int)) => (Option.bind (loopN (m15o_l3 nn a0 o6) FUEL (0, ([] : List (List Int)))) (Sum.elim (fun (o7 : (List (List Int))) => some (.inl (o7, o6))) (fun o => some o))) = some y5) ?_ ?_
   ·
    refine bindK h1 (fun o7 hl2 h1 => ?_)
    refine XC.loopM (m15o_l1 nn a0) (fun s2 => ⟨[(0, .v (.one (.osl 0 0 nn nn))), (2, .v (.one (.ptr 1 0))), (4, .v (.one (.ptr 3 0))), (20, .v (.one (.osl 0 0 nn nn))), (21, .v (.one (dI ((nn : Nat) : Int)))), (22, .v (.one (dI s2.1)))], [(0, .cells 48 (flatE a0)), (1, .cells 72 [dN, .d (.v (.map none))]), (2, .mp (gmE s2.2.1) s2.2.2), (3, .cells 72 [dN, .mp 2])], [], 4, 88, []⟩) (0, gmNil) o7 (stle (tR rfl (tR rfl (tR rfl (tR rfl (tR rfl (tR rfl tZ)))))) (hR rfl (hR rfl (hR rfl (hR rfl hZ)))) kZ rfl (Nat.le_trans hv1 (lb rfl)) rfl rfl rfl (bF rfl (bB rfl rfl (bG rfl (bB rfl rfl bZ)))) rfl rfl) hl2 (fun s2 n2 oo2 h2 ho2 => ?_)
    unfold m15o_l1 at h2
    refine XC.seq <| XC.region <| rR rfl rfl rfl (RO.binInt rfl rfl rfl) <| XL.nil <| XQ.seq <| XC.seq ?_
    refine XC.cond (b := (decide (s2.1 < ((nn : Nat) : Int)))) rfl (fun c8 => ?_) (fun c8 => ?_)
    ·
     replace h2 := condT c8 h2
     refine XC.skip <| XQ.seq <| XC.seq <| XC.block <| XC.seq <| XC.region <| rM rfl rfl rfl ?_
     refine bindK h2 (fun x9 hx9 h2 => ?_)
     refine guardK h2 (fun g10 h2 => ?_)
     refine rR rfl rfl rfl (RO.indexO (α := Dcl) sl_22 rfl rfl hx9 g10) <| rR rfl rfl rfl (RO.loadOE (α := Dcl) (ys := [dI x9.kind, dS8 x9.name, dI x9.params, dI x9.ty.kind, dI x9.ty.index, dS8 x9.ty.name, dS x9.ty.levels, dS x9.ty.kids, dI x9.value.kind, dI x9.value.index, dS8 x9.value.name, dS x9.value.levels, dS x9.value.kids, dI x9.fixed, dS x9.ctors, dI x9.rcr.params, dI x9.rcr.ty.kind, dI x9.rcr.ty.index, dS8 x9.rcr.ty.name, dS x9.rcr.ty.levels, dS x9.rcr.ty.kids, dS x9.rcr.rules, dS x9.funs]) ag_48 rfl rfl hx9 rfl) <| XL.put rfl rfl (lb rfl) (OpOK.alloc z_48 rfl) <| rA rfl rfl rfl <| XL.eff rfl rfl (OpOK.storeCE (x9 : Dcl) ag_48 rfl rfl rfl rfl rfl) <| XL.nil <| XQ.seq <| XC.seq <| XC.region <| rR rfl rfl rfl (RO.loadCE (x9 : Dcl) ag_48 rfl rfl) ?_
     refine bindK h2 (fun x11 hx11 h2 => ?_)
     refine XL.put rfl rfl (lb rfl) (OpOK.callFun (m37_ok x9 x11 hx11) rfl (.cons (.agg (.cons (.d _) (.cons (.d _) (.cons (.d _) (.cons (.d _) (.cons (.d _) (.cons (.d _) (.cons (.d _) (.cons (.d _) (.cons (.d _) (.cons (.d _) (.cons (.d _) (.cons (.d _) (.cons (.d _) (.cons (.d _) (.cons (.d _) (.cons (.d _) (.cons (.d _) (.cons (.d _) (.cons (.d _) (.cons (.d _) (.cons (.d _) (.cons (.d _) (.cons (.d _) .nil)))))))))))))))))))))))) .nil)) <| rR rfl rfl rfl (RO.lenE (α := Bs) sl_23 rfl (.d _)) <| rM rfl rfl rfl <| XL.nil <| XQ.seq <| XC.block ?_
     refine XC.joinX 2 (fun (o12 : (GMap Bs Int)) => ⟨[(0, .v (.one (.osl 0 0 nn nn))), (2, .v (.one (.ptr 1 0))), (4, .v (.one (.ptr 3 0))), (20, .v (.one (.osl 0 0 nn nn))), (21, .v (.one (dI ((nn : Nat) : Int)))), (22, .v (.one (dI s2.1)))], [(0, .cells 48 (flatE a0)), (1, .cells 72 [dN, .d (.v (.map none))]), (2, .mp (gmE o12.1) o12.2), (3, .cells 72 [dN, .mp 2]), (4, .cells 48 (cE x9))], [], 5, 88, []⟩) (fun (o12 : (GMap Bs Int)) => (some (.next ((w64 (s2.1 + 1)), o12))) = some oo2) ?_ ?_
     ·
      refine bindK h2 (fun o13 hl3 h2 => ?_)
      refine XC.loopM (m15o_l0 x11 s2) (fun s3 => ⟨[(0, .v (.one (.osl 0 0 nn nn))), (2, .v (.one (.ptr 1 0))), (4, .v (.one (.ptr 3 0))), (5, .v (.one (dI s2.1))), (20, .v (.one (.osl 0 0 nn nn))), (21, .v (.one (dI ((nn : Nat) : Int)))), (22, .v (.one (dI s2.1))), (28, .v (.one (dS x11))), (29, .v (.one (dI (x11.length : Int)))), (30, .v (.one (dI s3.1)))], [(0, .cells 48 (flatE a0)), (1, .cells 72 [dN, .d (.v (.map none))]), (2, .mp (gmE s3.2.1) s3.2.2), (3, .cells 72 [dN, .mp 2]), (4, .cells 48 (cE x9))], [], 5, 88, []⟩) (0, s2.2) o13 (stle (tR rfl (tR rfl (tR rfl (tR rfl (tR rfl (tR rfl (tR rfl (tR rfl (tR rfl (tR rfl tZ)))))))))) (hR rfl (hR rfl (hR rfl (hR rfl (hR rfl hZ))))) kZ rfl (Nat.le_trans hv1 (lb rfl)) rfl rfl rfl (bF rfl (bB rfl rfl (bG rfl (bB rfl rfl (bB rfl rfl bZ))))) rfl rfl) hl3 (fun s3 n3 oo3 h3 ho3 => ?_)
      unfold m15o_l0 at h3
      refine XC.seq <| XC.region <| rR rfl rfl rfl (RO.binInt rfl rfl rfl) <| XL.nil <| XQ.seq <| XC.seq ?_
      refine XC.cond (b := (decide (s3.1 < (x11.length : Int)))) rfl (fun c14 => ?_) (fun c14 => ?_)
      ·
       replace h3 := condT c14 h3
       refine XC.skip <| XQ.seq <| XC.seq <| XC.block <| XC.seq <| XC.region ?_
       refine bindK h3 (fun x15 hx15 h3 => ?_)
       refine rR rfl rfl rfl (RO.indexE (α := Bs) sl_23 rfl (.d _) rfl hx15) <| rR rfl rfl rfl (RO.loadPel ag_9 rfl rfl) <| rA rfl rfl rfl <| XL.nil <| XQ.seq <| XC.seq <| XC.seq <| XC.region <| rR rfl rfl rfl (RO.fieldOwn fo_72_1 rfl) <| rR rfl rfl rfl (RO.loadOwn ag_70 rfl rfl rfl) <| rM rfl rfl rfl <| rR rfl rfl rfl (RO.lookupGT (M := s3.2) (k := x15) mp_70 zok_int rfl rfl rfl) <| rM rfl rfl rfl <| rR rfl rfl rfl (RO.extract rfl rfl) ?_
       refine rR rfl rfl rfl (RO.extract rfl rfl) <| rA rfl rfl rfl <| rA rfl rfl rfl <| XL.nil <| XQ.seq <| XC.seq <| XC.region <| rM rfl rfl rfl <| XL.nil <| XQ.seq ?_
       refine XC.cond (b := (gmHas s3.2 x15)) rfl (fun c16 => ?_) (fun c16 => ?_)
       ·
        replace h3 := condT c16 h3
        refine XC.seq <| XC.region <| rR rfl rfl rfl (RO.build0 bd_72 rfl ) <| XL.eff rfl rfl (OpOK.store ag_72 rfl rfl rfl rfl (lb rfl) rfl) <| rA rfl rfl rfl <| XL.nil <| XQ.seq <| XC.ret ?_
        have e_ := Option.some.inj h3
        subst e_
        have e_ : _ = _ := ho3
        subst e_
        try dsimp only [Sum.elim_inl, Sum.elim_inr] at h2
        have e_ := Option.some.inj h2
        subst e_
        have e_ : _ = _ := ho2
        subst e_
        try dsimp only [Sum.elim_inl, Sum.elim_inr] at h1
        have e_ := Option.some.inj h1
        subst e_
        exact hQ1 _ _ _ (.inr rfl) rfl (show StLe _ _ ⟨[(2, .v (.one (.ptr 1 0))), (3, .v (.one (dI 8)))], [(0, .cells 48 (flatE a0)), (1, .cells 72 [dN, .d (.v (.map none))])], [], 5, 88, []⟩ from (stle (tR rfl (tR rfl tZ)) (hR rfl (hR rfl hZ)) kZ rfl (Nat.le_trans hv1 (lb rfl)) rfl rfl rfl (bF rfl (bB rfl rfl bZ)) rfl rfl))
       ·
        replace h3 := condF c16 h3
        refine XC.skip <| XQ.seq <| XC.region <| rR rfl rfl rfl (RO.fieldOwn fo_72_1 rfl) <| rR rfl rfl rfl (RO.loadOwn ag_70 rfl rfl rfl) <| rM rfl rfl rfl <| rM rfl rfl rfl <| XL.eff rfl rfl (OpOK.mapSetG (M := s3.2) (k := x15) (v := s2.1) mp_70 rfl rfl rfl rfl rfl) <| XL.nil <| XQ.inBlock <| XQ.seq <| XC.region <| rR rfl rfl rfl (RO.binInt rfl rfl rfl) <| rM rfl rfl rfl ?_
        refine XL.nil ?_
        have e_ := Option.some.inj h3
        subst e_
        refine XQ.nextM ((w64 (s3.1 + 1)), (gmSet s3.2 x15 s2.1)) (stle (tR rfl (tR rfl (tR rfl (tR rfl (tR rfl (tR rfl (tR rfl (tR rfl (tR rfl (tR rfl tZ)))))))))) (hR rfl (hR rfl (hR rfl (hR rfl (hR rfl hZ))))) kZ rfl (Nat.le_trans hv1 (lb rfl)) rfl rfl rfl (bF rfl (bB rfl rfl (bG rfl (bB rfl rfl (bB rfl rfl bZ))))) rfl rfl) ho3
      ·
       replace h3 := condF c14 h3
       refine XC.exit <| XQ.thenE <| XQ.thenE ?_
       have e_ := Option.some.inj h3
       subst e_
       have e_ : _ = _ := ho3
       subst e_
       exact XQ.joinX s3.2 (stle (tR rfl (tR rfl (tR rfl (tR rfl (tR rfl (tR rfl tZ)))))) (hR rfl (hR rfl (hR rfl (hR rfl (hR rfl hZ))))) kZ rfl (Nat.le_trans hv1 (lb rfl)) rfl rfl rfl (bF rfl (bB rfl rfl (bG rfl (bB rfl rfl (bB rfl rfl bZ))))) rfl rfl) h2
     ·
      intro o12 h2
      refine XQ.blockX <| XQ.inBlock <| XQ.seq <| XC.region <| rR rfl rfl rfl (RO.binInt rfl rfl rfl) <| rM rfl rfl rfl <| XL.nil ?_
      have e_ := Option.some.inj h2
      subst e_
      refine XQ.nextM ((w64 (s2.1 + 1)), o12) (stle (tR rfl (tR rfl (tR rfl (tR rfl (tR rfl (tR rfl tZ)))))) (hR rfl (hR rfl (hR rfl (hR rfl hZ)))) kZ rfl (Nat.le_trans hv1 (lb rfl)) rfl rfl rfl (bF rfl (bB rfl rfl (bG rfl (bB rfl rfl bZ)))) rfl rfl) ho2
    ·
     replace h2 := condF c8 h2
     refine XC.exit <| XQ.thenE <| XQ.thenE ?_
     have e_ := Option.some.inj h2
     subst e_
     have e_ : _ = _ := ho2
     subst e_
     exact XQ.joinX s2.2 (stle (tR rfl (tR rfl (tR rfl tZ))) (hR rfl (hR rfl (hR rfl (hR rfl hZ)))) kZ rfl (Nat.le_trans hv1 (lb rfl)) rfl rfl rfl (bF rfl (bB rfl rfl (bG rfl (bB rfl rfl bZ)))) rfl rfl) h1
   ·
    intro o6 h1
    refine XQ.blockX <| XQ.seq <| XC.seq <| XC.seq <| XC.region <| rM rfl rfl rfl <| rR rfl rfl rfl (RO.lenOsl sl_22 rfl) <| rM rfl rfl rfl <| XL.nil <| XQ.seq <| XC.block ?_
    refine XC.joinX 4 (fun (o17 : (List (List Int))) => ⟨[(2, .v (.one (.ptr 1 0))), (4, .v (.one (.ptr 3 0)))], [(0, .cells 48 (flatE a0)), (1, .cells 72 [dN, .d (.v (.map none))]), (2, .mp (gmE o6.1) o6.2), (3, .cells 72 [dA 4 o17, .mp 2])], [(4, some ⟨54, 1, (Enc.encL o17).length, []⟩)], 5, 88, []⟩) (fun (o17 : (List (List Int))) => (some (.inl (o17, o6))) = some y5) ?_ ?_
    ·
     refine XC.adoptC (i := 3) (off := 0) 54 1 rfl rfl ?_
     refine bindK h1 (fun o18 hl2 h1 => ?_)
     refine XC.loopM (m15o_l3 nn a0 o6) (fun s2 => ⟨[(2, .v (.one (.ptr 1 0))), (4, .v (.one (.ptr 3 0))), (49, .v (.one (.osl 0 0 nn nn))), (50, .v (.one (dI ((nn : Nat) : Int)))), (51, .v (.one (dI s2.1)))], [(0, .cells 48 (flatE a0)), (1, .cells 72 [dN, .d (.v (.map none))]), (2, .mp (gmE o6.1) o6.2), (3, .cells 72 [dA 4 s2.2, .mp 2])], [(4, some ⟨54, 1, (Enc.encL s2.2).length, []⟩)], 5, 88, []⟩) (0, ([] : List (List Int))) o18 (stle (tR rfl (tR rfl (tR rfl (tR rfl (tR rfl tZ))))) (hR rfl (hR rfl (hR rfl (hR rfl hZ)))) (kR rfl kZ) rfl (Nat.le_trans hv1 (lb rfl)) rfl rfl rfl (bF rfl (bB rfl rfl (bG rfl (bB rfl rfl bZ)))) rfl rfl) hl2 (fun s2 n2 oo2 h2 ho2 => ?_)
     unfold m15o_l3 at h2
     refine XC.seq <| XC.region <| rR rfl rfl rfl (RO.binInt rfl rfl rfl) <| XL.nil <| XQ.seq <| XC.seq ?_
     refine XC.cond (b := (decide (s2.1 < ((nn : Nat) : Int)))) rfl (fun c19 => ?_) (fun c19 => ?_)
     ·
      replace h2 := condT c19 h2
      refine XC.skip <| XQ.seq <| XC.seq <| XC.block <| XC.seq <| XC.region ?_
      refine bindK h2 (fun x20 hx20 h2 => ?_)
      refine guardK h2 (fun g21 h2 => ?_)
      refine rR rfl rfl rfl (RO.indexO (α := Dcl) sl_22 rfl rfl hx20 g21) <| rR rfl rfl rfl (RO.loadOE (α := Dcl) (ys := [dI x20.kind, dS8 x20.name, dI x20.params, dI x20.ty.kind, dI x20.ty.index, dS8 x20.ty.name, dS x20.ty.levels, dS x20.ty.kids, dI x20.value.kind, dI x20.value.index, dS8 x20.value.name, dS x20.value.levels, dS x20.value.kids, dI x20.fixed, dS x20.ctors, dI x20.rcr.params, dI x20.rcr.ty.kind, dI x20.rcr.ty.index, dS8 x20.rcr.ty.name, dS x20.rcr.ty.levels, dS x20.rcr.ty.kids, dS x20.rcr.rules, dS x20.funs]) ag_48 rfl rfl hx20 rfl) <| XL.put rfl rfl (lb rfl) (OpOK.alloc z_48 rfl) <| XL.eff rfl rfl (OpOK.storeCE (x20 : Dcl) ag_48 rfl rfl rfl rfl rfl) <| XL.nil <| XQ.seq <| XC.seq <| XC.region <| rA rfl rfl rfl <| XL.nil <| XQ.seq <| XC.seq <| XC.seq <| XC.region ?_
      refine rR rfl rfl rfl (RO.loadCE (x20 : Dcl) ag_48 rfl rfl) ?_
      refine bindK h2 (fun x22 hx22 h2 => ?_)
      refine XL.put rfl rfl (lb rfl) (OpOK.callFun (m53_ok x20 x22 hx22) rfl (.cons (.agg (.cons (.d _) (.cons (.d _) (.cons (.d _) (.cons (.d _) (.cons (.d _) (.cons (.d _) (.cons (.d _) (.cons (.d _) (.cons (.d _) (.cons (.d _) (.cons (.d _) (.cons (.d _) (.cons (.d _) (.cons (.d _) (.cons (.d _) (.cons (.d _) (.cons (.d _) (.cons (.d _) (.cons (.d _) (.cons (.d _) (.cons (.d _) (.cons (.d _) (.cons (.d _) .nil)))))))))))))))))))))))) .nil)) <| rR rfl rfl rfl (RO.lenE (α := Bs) sl_23 rfl (.d _)) <| rM rfl rfl rfl <| XL.nil <| XQ.seq <| XC.block ?_
      refine XC.joinX 6 (fun (o23 : (List Int)) => ⟨[(2, .v (.one (.ptr 1 0))), (4, .v (.one (.ptr 3 0))), (13, .v (.one (.apv 6 1 ((Enc.encL o23).length) []))), (49, .v (.one (.osl 0 0 nn nn))), (50, .v (.one (dI ((nn : Nat) : Int)))), (51, .v (.one (dI s2.1)))], [(0, .cells 48 (flatE a0)), (1, .cells 72 [dN, .d (.v (.map none))]), (2, .mp (gmE o6.1) o6.2), (3, .cells 72 [dA 4 s2.2, .mp 2]), (5, .cells 48 (cE x20))], [(4, some ⟨54, 1, (Enc.encL s2.2).length, []⟩), (6, some ⟨3, 1, (Enc.encL o23).length, (Enc.encL o23).flatten⟩)], 7, 88, []⟩) (fun (o23 : (List Int)) => (Option.bind (sortF o23) fun (x24 : List Int) =>
        Option.bind (compactF x24 ((Enc.encL o23).length)) fun (x25 : List Int) =>
        guardO (Nat.ble (s2.2.length + ([x25]).length) 1000000000)
        (some (.next ((w64 (s2.1 + 1)), (s2.2 ++ ([x25])))))) = some oo2) ?_ ?_
      ·
       refine XC.adoptT (t := 13) 3 1 rfl <| XC.privT (α := Int) (t := 13) rfl rfl ?_
       refine bindK h2 (fun o24 hl3 h2 => ?_)
       refine XC.loopM (m15o_l2 x22 o6) (fun s3 => ⟨[(2, .v (.one (.ptr 1 0))), (4, .v (.one (.ptr 3 0))), (13, .v (.one (.apv 6 1 ((Enc.encL s3.1).length) []))), (49, .v (.one (.osl 0 0 nn nn))), (50, .v (.one (dI ((nn : Nat) : Int)))), (51, .v (.one (dI s2.1))), (56, .v (.one (dS x22))), (57, .v (.one (dI (x22.length : Int)))), (58, .v (.one (dI s3.2)))], [(0, .cells 48 (flatE a0)), (1, .cells 72 [dN, .d (.v (.map none))]), (2, .mp (gmE o6.1) o6.2), (3, .cells 72 [dA 4 s2.2, .mp 2]), (5, .cells 48 (cE x20))], [(4, some ⟨54, 1, (Enc.encL s2.2).length, []⟩), (6, some ⟨3, 1, (Enc.encL s3.1).length, (Enc.encL s3.1).flatten⟩)], 7, 88, []⟩) (([] : List Int), 0) o24 (stle (tR rfl (tR rfl (tR rfl (tR rfl (tR rfl (tR rfl (tR rfl (tR rfl (tR rfl tZ))))))))) (hR rfl (hR rfl (hR rfl (hR rfl (hR rfl hZ))))) (kR rfl (kR rfl kZ)) rfl (Nat.le_trans hv1 (lb rfl)) rfl rfl rfl (bF rfl (bB rfl rfl (bG rfl (bB rfl rfl (bB rfl rfl bZ))))) rfl rfl) hl3 (fun s3 n3 oo3 h3 ho3 => ?_)
       unfold m15o_l2 at h3
       refine XC.seq <| XC.region <| rR rfl rfl rfl (RO.binInt rfl rfl rfl) <| XL.nil <| XQ.seq <| XC.seq ?_
       refine XC.cond (b := (decide (s3.2 < (x22.length : Int)))) rfl (fun c25 => ?_) (fun c25 => ?_)
       ·
        replace h3 := condT c25 h3
        refine XC.skip <| XQ.seq <| XC.seq <| XC.block <| XC.seq <| XC.region ?_
        refine bindK h3 (fun x26 hx26 h3 => ?_)
        refine rR rfl rfl rfl (RO.indexE (α := Bs) sl_23 rfl (.d _) rfl hx26) <| rR rfl rfl rfl (RO.loadPel ag_9 rfl rfl) <| rA rfl rfl rfl <| XL.nil <| XQ.seq <| XC.seq <| XC.region <| rR rfl rfl rfl (RO.fieldOwn fo_72_1 rfl) <| rR rfl rfl rfl (RO.loadOwn ag_70 rfl rfl rfl) <| rM rfl rfl rfl <| rR rfl rfl rfl (RO.lookupGT (M := o6) (k := x26) mp_70 zok_int rfl rfl rfl) <| rM rfl rfl rfl <| rR rfl rfl rfl (RO.extract rfl rfl) <| rR rfl rfl rfl (RO.extract rfl rfl) ?_
        refine rA rfl rfl rfl <| rA rfl rfl rfl <| XL.nil <| XQ.seq <| XC.seq <| XC.seq <| XC.region <| rM rfl rfl rfl <| rR rfl rfl rfl (RO.not rfl) <| XL.nil <| XQ.seq ?_
        refine XC.cond (b := (!(gmHas o6 x26))) rfl (fun c27 => ?_) (fun c27 => ?_)
        ·
         replace h3 := condT c27 h3
         refine XC.seq <| XC.region <| rR rfl rfl rfl (RO.build0 bd_72 rfl ) <| XL.eff rfl rfl (OpOK.store ag_72 rfl rfl rfl rfl (lb rfl) rfl) <| rA rfl rfl rfl <| XL.nil <| XQ.seq <| XC.ret ?_
         have e_ := Option.some.inj h3
         subst e_
         have e_ : _ = _ := ho3
         subst e_
         try dsimp only [Sum.elim_inl, Sum.elim_inr] at h2
         have e_ := Option.some.inj h2
         subst e_
         have e_ : _ = _ := ho2
         subst e_
         try dsimp only [Sum.elim_inl, Sum.elim_inr] at h1
         have e_ := Option.some.inj h1
         subst e_
         exact hQ1 _ _ _ (.inr rfl) rfl (show StLe _ _ ⟨[(2, .v (.one (.ptr 1 0))), (3, .v (.one (dI 9)))], [(0, .cells 48 (flatE a0)), (1, .cells 72 [dN, .d (.v (.map none))])], [], 7, 88, []⟩ from (stle (tR rfl (tR rfl tZ)) (hR rfl (hR rfl hZ)) kZ rfl (Nat.le_trans hv1 (lb rfl)) rfl rfl rfl (bF rfl (bB rfl rfl bZ)) rfl rfl))
        ·
         replace h3 := condF c27 h3
         refine XC.skip <| XQ.seq <| XC.region <| rM rfl rfl rfl <| rM rfl rfl rfl <| XL.put rfl rfl (lb rfl) (OpOK.lit1E (α := Int) ((gmVal o6 x26)) sl_54 z_3 rfl rfl (lb rfl) (lb rfl) rfl rfl (.cons (.d _) .nil) rfl) ?_
         refine guardK h3 (fun g28 h3 => ?_)
         refine XL.put rfl rfl (lb rfl) (OpOK.appendPr (α := Int) (l := s3.1) (l2 := ([(gmVal o6 x26)] : List Int)) sl_54 el_3 rfl rfl rfl rfl (.app _ _) rfl g28) <| rA rfl rfl rfl <| XL.nil <| XQ.inBlock <| XQ.seq <| XC.region <| rR rfl rfl rfl (RO.binInt rfl rfl rfl) <| rM rfl rfl rfl <| XL.nil ?_
         have e_ := Option.some.inj h3
         subst e_
         refine XQ.nextM ((s3.1 ++ ([(gmVal o6 x26)])), (w64 (s3.2 + 1))) (stle (tR rfl (tR rfl (tR rfl (tR rfl (tR rfl (tR rfl (tR rfl (tR rfl (tR rfl tZ))))))))) (hR rfl (hR rfl (hR rfl (hR rfl (hR rfl hZ))))) (kR rfl (kR rfl kZ)) rfl (Nat.le_trans hv1 (lb rfl)) rfl rfl rfl (bF rfl (bB rfl rfl (bG rfl (bB rfl rfl (bB rfl rfl bZ))))) rfl rfl) ho3
       ·
        replace h3 := condF c25 h3
        refine XC.exit <| XQ.thenE <| XQ.thenE ?_
        have e_ := Option.some.inj h3
        subst e_
        have e_ : _ = _ := ho3
        subst e_
        exact XQ.joinX s3.1 (stle (tR rfl (tR rfl (tR rfl (tR rfl (tR rfl (tR rfl tZ)))))) (hR rfl (hR rfl (hR rfl (hR rfl (hR rfl hZ))))) (kR rfl (kR rfl kZ)) rfl (Nat.le_trans hv1 (lb rfl)) rfl rfl rfl (bF rfl (bB rfl rfl (bG rfl (bB rfl rfl (bB rfl rfl bZ))))) rfl rfl) h2
      ·
       intro o23 h2
       refine XQ.blockX <| XQ.seq <| XC.seq <| XC.region <| rM rfl rfl rfl ?_
       refine bindK h2 (fun x29 hx29 h2 => ?_)
       refine XL.put rfl rfl (lb rfl) (OpOK.callG (hp1' := []) (tk1' := [(6, some ⟨3, 1, (Enc.encL o23).length, (Enc.encL x29).flatten⟩)]) (hpF := [(0, .cells 48 (flatE a0)), (1, .cells 72 [dN, .d (.v (.map none))]), (2, .mp (gmE o6.1) o6.2), (3, .cells 72 [dA 4 s2.2, .mp 2]), (5, .cells 48 (cE x20))]) (tkF := [(4, some ⟨54, 1, (Enc.encL s2.2).length, []⟩)]) (res2 := resOf []) (nx2 := 7) [6] rfl rfl (sortF_ok o23 x29 hx29) rfl rfl qZ rfl rfl gZ (jR rfl jZ) (hR rfl (hR rfl (hR rfl (hR rfl (hR rfl hZ))))) (kR rfl kZ) rfl rfl rfl rfl rfl bZ rfl rfl rfl rfl) <| XL.nil <| XQ.seq ?_
       refine XC.anyRun [3, 5, 7] [(0, 1), (1, 1)] mixed (by kernel_rfl) (by kernel_rfl) (by kernel_rfl) ?_
       refine RunA.rd rfl rfl rfl (OpOK.of_ro (RO.fieldOwn fo_72_0 rfl)) rfl <| RunA.rd rfl rfl rfl (OpOK.of_ro (RO.loadOwn ag_57 rfl rfl rfl)) rfl <| RunA.rd rfl rfl rfl (OpOK.of_ro (RO.move rfl)) rfl ?_
       refine bindK h2 (fun x30 hx30 h2 => ?_)
       refine RunA.eff rfl rfl rfl (OpOK.callG (hp1' := []) (tk1' := [(7, some ⟨3, 1, (Enc.encL x30).length, []⟩)]) (hpF := [(0, .cells 48 (flatE a0)), (1, .cells 72 [dN, .d (.v (.map none))]), (2, .mp (gmE o6.1) o6.2), (3, .cells 72 [dA 4 s2.2, .mp 2]), (5, .cells 48 (cE x20))]) (tkF := [(4, some ⟨54, 1, (Enc.encL s2.2).length, []⟩)]) (res2 := resOf [.one (dA 7 x30)]) (nx2 := 8) [6] rfl rfl (compactF_ok x29 ((Enc.encL o23).length) x30 hx30) rfl rfl qZ rfl rfl gZ (jR rfl jZ) (hR rfl (hR rfl (hR rfl (hR rfl (hR rfl hZ))))) (kR rfl kZ) rfl rfl rfl rfl rfl bZ rfl rfl rfl rfl) rfl <| RunA.rd rfl rfl rfl (OpOK.data1E (α := List Int) (x30) sl_57 z_54 rfl rfl (lb rfl) rfl rfl (.cons (.app _ _ _) .nil) rfl) rfl ?_
       refine guardK h2 (fun g31 h2 => ?_)
       refine RunA.eff rfl rfl rfl (OpOK.appendE (α := List Int) sl_57 el_54 rfl rfl rfl rfl rfl (.d _) g31) rfl <| RunA.rd rfl rfl rfl (OpOK.of_ro (RO.fieldOwn fo_72_0 rfl)) rfl <| RunA.eff rfl rfl rfl (OpOK.store ag_57 rfl rfl rfl rfl (lb rfl) rfl) rfl ?_
       refine RunA.nil ⟨?ex, _, _, rfl, ?_⟩
       case ex => exact ⟨⟨_, rfl, _, _, rfl, rfl, rfl, .inl ⟨rfl, _, OpOK.of_ro (RO.fieldOwn fo_72_0 rfl), rfl⟩⟩, ⟨_, rfl, _, _, rfl, rfl, rfl, .inl ⟨rfl, _, OpOK.of_ro (RO.loadOwn ag_57 rfl rfl rfl), rfl⟩⟩, trivial⟩
       refine XQ.less (st' := ⟨[(2, .v (.one (.ptr 1 0))), (4, .v (.one (.ptr 3 0))), (49, .v (.one (.osl 0 0 nn nn))), (50, .v (.one (dI ((nn : Nat) : Int)))), (51, .v (.one (dI s2.1)))], [(0, .cells 48 (flatE a0)), (1, .cells 72 [dN, .d (.v (.map none))]), (2, .mp (gmE o6.1) o6.2), (3, .cells 72 [dA 4 ((s2.2 ++ ([x30])) : List (List Int)), .mp 2]), (5, .cells 48 (cE x20))], [(4, some ⟨54, 1, (Enc.encL ((s2.2 ++ ([x30])) : List (List Int))).length, []⟩), (7, some ⟨3, 1, (Enc.encL x30).length, []⟩)], 8, 88, []⟩) (stle (tR rfl (tR rfl (tR rfl (tR rfl (tR rfl tZ))))) (hR rfl (hR rfl (hR rfl (hR rfl (hR rfl hZ))))) (kR rfl (kR rfl kZ)) rfl (Nat.le_trans hv1 (lb rfl)) rfl rfl rfl (bF rfl (bB rfl rfl (bG rfl (bB rfl rfl (bB rfl rfl bZ))))) rfl rfl) <| XQ.inBlock <| XQ.seq <| XC.region <| rR rfl rfl rfl (RO.binInt rfl rfl rfl) <| rM rfl rfl rfl <| XL.nil ?_
       have e_ := Option.some.inj h2
       subst e_
       refine XQ.nextM ((w64 (s2.1 + 1)), (s2.2 ++ ([x30]))) (stle (tR rfl (tR rfl (tR rfl (tR rfl (tR rfl tZ))))) (hR rfl (hR rfl (hR rfl (hR rfl hZ)))) (kR rfl kZ) rfl (Nat.le_trans hv1 (lb rfl)) rfl rfl rfl (bF rfl (bB rfl rfl (bG rfl (bB rfl rfl bZ)))) rfl rfl) ho2
     ·
      replace h2 := condF c19 h2
      refine XC.exit <| XQ.thenE <| XQ.thenE ?_
      have e_ := Option.some.inj h2
      subst e_
      have e_ : _ = _ := ho2
      subst e_
      exact XQ.joinX s2.2 (stle (tR rfl (tR rfl tZ)) (hR rfl (hR rfl (hR rfl (hR rfl hZ)))) (kR rfl kZ) rfl (Nat.le_trans hv1 (lb rfl)) rfl rfl rfl (bF rfl (bB rfl rfl (bG rfl (bB rfl rfl bZ)))) rfl rfl) h1
    ·
     intro o17 h1
     refine XQ.blockX <| XQ.seq <| XC.seq <| XC.region <| rR rfl rfl rfl (RO.loadOwnAgg ag_72 rfl rfl rfl rfl) <| XL.eff rfl rfl (OpOK.store ag_72 rfl rfl rfl rfl (lb rfl) rfl) <| rA rfl rfl rfl <| XL.nil <| XQ.seq <| XC.ret ?_
     have e_ := Option.some.inj h1
     subst e_
     exact hQ1 _ _ _ (.inr rfl) rfl (show StLe _ _ ⟨[(2, .v (.one (.ptr 1 0))), (3, .v (.one (dI 0)))], [(0, .cells 48 (flatE a0)), (1, .cells 72 [dA 4 o17, .mp 2]), (2, .mp (gmE o6.1) o6.2)], [(4, some ⟨54, 1, (Enc.encL o17).length, []⟩)], 5, 88, []⟩ from (stle (tR rfl (tR rfl tZ)) (hR rfl (hR rfl (hR rfl hZ))) (kR rfl kZ) rfl (Nat.le_trans hv1 (lb rfl)) rfl rfl rfl (bF rfl (bB rfl rfl (bG rfl bZ))) rfl rfl))
  refine sumK (C := fun q_ => CallM Try.prog 34 [.one (.osl 0 0 nn nn)] ⟨[(0, .cells 48 (flatE a0))], [], 1⟩ (resOf (((Sum.elim (fun (y1 : (List (List Int)) × (GMap Bs Int)) => ([.agg [dA 4 y1.1, .mp 2], .one (dI 0)] : List AV)) (Sum.elim (fun (y2 : Unit) => ([.agg [dN, .d (.v (.map none))], .one (dI 8)] : List AV)) (fun (y3 : Unit) => ([.agg [dN, .d (.v (.map none))], .one (dI 9)] : List AV))))) q_)) ⟨(((Sum.elim (fun (y1 : (List (List Int)) × (GMap Bs Int)) => (⟨[(2, .v (.one (.ptr 1 0))), (3, .v (.one (dI 0)))], [(0, .cells 48 (flatE a0)), (1, .cells 72 [dA 4 y1.1, .mp 2]), (2, .mp (gmE y1.2.1) y1.2.2)], [(4, some ⟨54, 1, (Enc.encL y1.1).length, []⟩)], 5, 88, []⟩ : St)) (Sum.elim (fun (y2 : Unit) => (⟨[(2, .v (.one (.ptr 1 0))), (3, .v (.one (dI 8)))], [(0, .cells 48 (flatE a0)), (1, .cells 72 [dN, .d (.v (.map none))])], [], 5, 88, []⟩ : St)) (fun (y3 : Unit) => (⟨[(2, .v (.one (.ptr 1 0))), (3, .v (.one (dI 9)))], [(0, .cells 48 (flatE a0)), (1, .cells 72 [dN, .d (.v (.map none))])], [], 7, 88, []⟩ : St))))) q_).hp, (((Sum.elim (fun (y1 : (List (List Int)) × (GMap Bs Int)) => (⟨[(2, .v (.one (.ptr 1 0))), (3, .v (.one (dI 0)))], [(0, .cells 48 (flatE a0)), (1, .cells 72 [dA 4 y1.1, .mp 2]), (2, .mp (gmE y1.2.1) y1.2.2)], [(4, some ⟨54, 1, (Enc.encL y1.1).length, []⟩)], 5, 88, []⟩ : St)) (Sum.elim (fun (y2 : Unit) => (⟨[(2, .v (.one (.ptr 1 0))), (3, .v (.one (dI 8)))], [(0, .cells 48 (flatE a0)), (1, .cells 72 [dN, .d (.v (.map none))])], [], 5, 88, []⟩ : St)) (fun (y3 : Unit) => (⟨[(2, .v (.one (.ptr 1 0))), (3, .v (.one (dI 9)))], [(0, .cells 48 (flatE a0)), (1, .cells 72 [dN, .d (.v (.map none))])], [], 7, 88, []⟩ : St))))) q_).tk, (((Sum.elim (fun (y1 : (List (List Int)) × (GMap Bs Int)) => (⟨[(2, .v (.one (.ptr 1 0))), (3, .v (.one (dI 0)))], [(0, .cells 48 (flatE a0)), (1, .cells 72 [dA 4 y1.1, .mp 2]), (2, .mp (gmE y1.2.1) y1.2.2)], [(4, some ⟨54, 1, (Enc.encL y1.1).length, []⟩)], 5, 88, []⟩ : St)) (Sum.elim (fun (y2 : Unit) => (⟨[(2, .v (.one (.ptr 1 0))), (3, .v (.one (dI 8)))], [(0, .cells 48 (flatE a0)), (1, .cells 72 [dN, .d (.v (.map none))])], [], 5, 88, []⟩ : St)) (fun (y3 : Unit) => (⟨[(2, .v (.one (.ptr 1 0))), (3, .v (.one (dI 9)))], [(0, .cells 48 (flatE a0)), (1, .cells 72 [dN, .d (.v (.map none))])], [], 7, 88, []⟩ : St))))) q_).nx⟩) hc4 h0 (fun y1 hc4 h0 => ?_) (fun z_ hc4 h0 => sumK (C := fun q_ => CallM Try.prog 34 [.one (.osl 0 0 nn nn)] ⟨[(0, .cells 48 (flatE a0))], [], 1⟩ (resOf (((Sum.elim (fun (y1 : (List (List Int)) × (GMap Bs Int)) => ([.agg [dA 4 y1.1, .mp 2], .one (dI 0)] : List AV)) (Sum.elim (fun (y2 : Unit) => ([.agg [dN, .d (.v (.map none))], .one (dI 8)] : List AV)) (fun (y3 : Unit) => ([.agg [dN, .d (.v (.map none))], .one (dI 9)] : List AV))))) (.inr q_))) ⟨(((Sum.elim (fun (y1 : (List (List Int)) × (GMap Bs Int)) => (⟨[(2, .v (.one (.ptr 1 0))), (3, .v (.one (dI 0)))], [(0, .cells 48 (flatE a0)), (1, .cells 72 [dA 4 y1.1, .mp 2]), (2, .mp (gmE y1.2.1) y1.2.2)], [(4, some ⟨54, 1, (Enc.encL y1.1).length, []⟩)], 5, 88, []⟩ : St)) (Sum.elim (fun (y2 : Unit) => (⟨[(2, .v (.one (.ptr 1 0))), (3, .v (.one (dI 8)))], [(0, .cells 48 (flatE a0)), (1, .cells 72 [dN, .d (.v (.map none))])], [], 5, 88, []⟩ : St)) (fun (y3 : Unit) => (⟨[(2, .v (.one (.ptr 1 0))), (3, .v (.one (dI 9)))], [(0, .cells 48 (flatE a0)), (1, .cells 72 [dN, .d (.v (.map none))])], [], 7, 88, []⟩ : St))))) (.inr q_)).hp, (((Sum.elim (fun (y1 : (List (List Int)) × (GMap Bs Int)) => (⟨[(2, .v (.one (.ptr 1 0))), (3, .v (.one (dI 0)))], [(0, .cells 48 (flatE a0)), (1, .cells 72 [dA 4 y1.1, .mp 2]), (2, .mp (gmE y1.2.1) y1.2.2)], [(4, some ⟨54, 1, (Enc.encL y1.1).length, []⟩)], 5, 88, []⟩ : St)) (Sum.elim (fun (y2 : Unit) => (⟨[(2, .v (.one (.ptr 1 0))), (3, .v (.one (dI 8)))], [(0, .cells 48 (flatE a0)), (1, .cells 72 [dN, .d (.v (.map none))])], [], 5, 88, []⟩ : St)) (fun (y3 : Unit) => (⟨[(2, .v (.one (.ptr 1 0))), (3, .v (.one (dI 9)))], [(0, .cells 48 (flatE a0)), (1, .cells 72 [dN, .d (.v (.map none))])], [], 7, 88, []⟩ : St))))) (.inr q_)).tk, (((Sum.elim (fun (y1 : (List (List Int)) × (GMap Bs Int)) => (⟨[(2, .v (.one (.ptr 1 0))), (3, .v (.one (dI 0)))], [(0, .cells 48 (flatE a0)), (1, .cells 72 [dA 4 y1.1, .mp 2]), (2, .mp (gmE y1.2.1) y1.2.2)], [(4, some ⟨54, 1, (Enc.encL y1.1).length, []⟩)], 5, 88, []⟩ : St)) (Sum.elim (fun (y2 : Unit) => (⟨[(2, .v (.one (.ptr 1 0))), (3, .v (.one (dI 8)))], [(0, .cells 48 (flatE a0)), (1, .cells 72 [dN, .d (.v (.map none))])], [], 5, 88, []⟩ : St)) (fun (y3 : Unit) => (⟨[(2, .v (.one (.ptr 1 0))), (3, .v (.one (dI 9)))], [(0, .cells 48 (flatE a0)), (1, .cells 72 [dN, .d (.v (.map none))])], [], 7, 88, []⟩ : St))))) (.inr q_)).nx⟩) hc4 h0 (fun y2 hc4 h0 => ?_) (fun y3 hc4 h0 => ?_))
  ·
   replace hc4 : CallM Try.prog 34 [.one (.osl 0 0 nn nn)] ⟨[(0, .cells 48 (flatE a0))], [], 1⟩ (resOf [.agg [dA 4 y1.1, .mp 2], .one (dI 0)]) ⟨[(0, .cells 48 (flatE a0)), (1, .cells 72 [dA 4 y1.1, .mp 2]), (2, .mp (gmE y1.2.1) y1.2.2)], [(4, some ⟨54, 1, (Enc.encL y1.1).length, []⟩)], 5⟩ := hc4
   refine XL.put rfl rfl (lb rfl) (OpOK.callW rfl rfl rfl hc4 rfl (hR rfl hZ) kZ) <| rM rfl rfl rfl <| rR rfl rfl rfl (RO.extract rfl rfl) <| rR rfl rfl rfl (RO.extract rfl rfl) <| XL.put rfl rfl (lb rfl) (OpOK.alloc z_72 rfl) <| XL.eff rfl rfl (OpOK.store ag_72 rfl rfl rfl rfl (lb rfl) rfl) <| rA rfl rfl rfl <| XL.nil <| XQ.seq <| XC.seq <| XC.seq <| XC.region <| rM rfl rfl rfl <| rR rfl rfl rfl (RO.binInt rfl rfl rfl) ?_
   refine XL.nil <| XQ.seq ?_
   refine XC.cond rfl (fun h => nomatch h) (fun _ => ?_)
   refine XC.skip <| XQ.seq <| XC.seq <| XC.region <| rR rfl rfl rfl (RO.loadOwnAgg ag_72 rfl rfl rfl rfl) <| rR rfl rfl rfl (RO.fieldOwn fo_72_0 rfl) <| rR rfl rfl rfl (RO.loadOwn ag_57 rfl rfl rfl) <| rM rfl rfl rfl ?_
   refine bindK h0 (fun y35 h1 h0 => ?_)
   have hc34 : CallM Try.prog 35 [.agg [dA 4 y1.1, .mp 2], .one (dA 4 y1.1), .one (dS a1)] ⟨[(0, .cells 48 (flatE a0)), (1, .cells 72 [dA 4 y1.1, .mp 2]), (2, .mp (gmE y1.2.1) y1.2.2), (5, .cells 72 [dA 4 y1.1, .mp 2])], [(4, some ⟨54, 1, (Enc.encL y1.1).length, []⟩)], 6⟩ (resOf (((Sum.elim (fun (y32 : Unit) => ([.one (dN), .one (dI 9)] : List AV)) (fun (y33 : (List Bool)) => ([.one (.osl 8 0 ((y1.1.length : Int).toNat) ((y1.1.length : Int).toNat)), .one (dI 0)] : List AV)))) y35)) ⟨(((Sum.elim (fun (y32 : Unit) => (⟨[(6, .v (.one (dN))), (7, .v (.one (dI 9)))], [(0, .cells 48 (flatE a0)), (1, .cells 72 [dA 4 y1.1, .mp 2]), (2, .mp (gmE y1.2.1) y1.2.2), (5, .cells 72 [dA 4 y1.1, .mp 2])], [(4, some ⟨54, 1, (Enc.encL y1.1).length, []⟩)], 11, 38, []⟩ : St)) (fun (y33 : (List Bool)) => (⟨[(6, .v (.one (.osl 8 0 ((y1.1.length : Int).toNat) ((y1.1.length : Int).toNat)))), (7, .v (.one (dI 0)))], [(0, .cells 48 (flatE a0)), (1, .cells 72 [dA 4 y1.1, .mp 2]), (2, .mp (gmE y1.2.1) y1.2.2), (5, .cells 72 [dA 4 y1.1, .mp 2]), (8, .cells 4 (flatE y33))], [(4, some ⟨54, 1, (Enc.encL y1.1).length, []⟩)], 11, 38, []⟩ : St)))) y35).hp, (((Sum.elim (fun (y32 : Unit) => (⟨[(6, .v (.one (dN))), (7, .v (.one (dI 9)))], [(0, .cells 48 (flatE a0)), (1, .cells 72 [dA 4 y1.1, .mp 2]), (2, .mp (gmE y1.2.1) y1.2.2), (5, .cells 72 [dA 4 y1.1, .mp 2])], [(4, some ⟨54, 1, (Enc.encL y1.1).length, []⟩)], 11, 38, []⟩ : St)) (fun (y33 : (List Bool)) => (⟨[(6, .v (.one (.osl 8 0 ((y1.1.length : Int).toNat) ((y1.1.length : Int).toNat)))), (7, .v (.one (dI 0)))], [(0, .cells 48 (flatE a0)), (1, .cells 72 [dA 4 y1.1, .mp 2]), (2, .mp (gmE y1.2.1) y1.2.2), (5, .cells 72 [dA 4 y1.1, .mp 2]), (8, .cells 4 (flatE y33))], [(4, some ⟨54, 1, (Enc.encL y1.1).length, []⟩)], 11, 38, []⟩ : St)))) y35).tk, (((Sum.elim (fun (y32 : Unit) => (⟨[(6, .v (.one (dN))), (7, .v (.one (dI 9)))], [(0, .cells 48 (flatE a0)), (1, .cells 72 [dA 4 y1.1, .mp 2]), (2, .mp (gmE y1.2.1) y1.2.2), (5, .cells 72 [dA 4 y1.1, .mp 2])], [(4, some ⟨54, 1, (Enc.encL y1.1).length, []⟩)], 11, 38, []⟩ : St)) (fun (y33 : (List Bool)) => (⟨[(6, .v (.one (.osl 8 0 ((y1.1.length : Int).toNat) ((y1.1.length : Int).toNat)))), (7, .v (.one (dI 0)))], [(0, .cells 48 (flatE a0)), (1, .cells 72 [dA 4 y1.1, .mp 2]), (2, .mp (gmE y1.2.1) y1.2.2), (5, .cells 72 [dA 4 y1.1, .mp 2]), (8, .cells 4 (flatE y33))], [(4, some ⟨54, 1, (Enc.encL y1.1).length, []⟩)], 11, 38, []⟩ : St)))) y35).nx⟩ := by
    refine CallM.of_bodyT y35 ((Sum.elim (fun (y32 : Unit) => (⟨[(6, .v (.one (dN))), (7, .v (.one (dI 9)))], [(0, .cells 48 (flatE a0)), (1, .cells 72 [dA 4 y1.1, .mp 2]), (2, .mp (gmE y1.2.1) y1.2.2), (5, .cells 72 [dA 4 y1.1, .mp 2])], [(4, some ⟨54, 1, (Enc.encL y1.1).length, []⟩)], 11, 38, []⟩ : St)) (fun (y33 : (List Bool)) => (⟨[(6, .v (.one (.osl 8 0 ((y1.1.length : Int).toNat) ((y1.1.length : Int).toNat)))), (7, .v (.one (dI 0)))], [(0, .cells 48 (flatE a0)), (1, .cells 72 [dA 4 y1.1, .mp 2]), (2, .mp (gmE y1.2.1) y1.2.2), (5, .cells 72 [dA 4 y1.1, .mp 2]), (8, .cells 4 (flatE y33))], [(4, some ⟨54, 1, (Enc.encL y1.1).length, []⟩)], 11, 38, []⟩ : St)))) ((Sum.elim (fun (y32 : Unit) => ([.one (dN), .one (dI 9)] : List AV)) (fun (y33 : (List Bool)) => ([.one (.osl 8 0 ((y1.1.length : Int).toNat) ((y1.1.length : Int).toNat)), .one (dI 0)] : List AV)))) rfl rfl en_35 (lb rfl) (fun z_ => by cases z_ <;> rfl) (fun z_ => by cases z_ with
      | inl _ => exact (RAs.tmp rfl (RAs.tmp rfl .nil))
      | inr _ => exact (RAs.tmp rfl (RAs.tmp rfl .nil))) (fun w0 M V0 Q hv1 hQ1 => ?_)
    simp only [entry]
    refine XC.seq <| XC.region <| XL.put rfl rfl (lb rfl) (OpOK.box rfl) <| XL.put rfl rfl (lb rfl) (OpOK.box rfl) <| rA rfl rfl rfl <| rA rfl rfl rfl <| XL.nil <| XQ.seq <| XC.seq <| XC.region <| rR rfl rfl rfl (RO.loadOwn ag_57 rfl rfl rfl) <| rR rfl rfl rfl (RO.lenE (α := List Int) sl_57 rfl (.app _ _)) ?_
    refine guardK h1 (fun g36 h1 => ?_)
    refine XL.put rfl rfl (lb rfl) (OpOK.makeO (α := Bool) (z := false) sl_75 z_4 rfl rfl el_4 rfl rfl g36 rfl (by repeat (first | exact CLs.nil | refine CLs.cons (by first | exact .refl _ | exact .sub (.app _ _ _) | exact .sub (.nil _)) ?_))) ?_
    refine XL.put rfl rfl (lb rfl) (OpOK.alloc z_75 rfl) <| XL.eff rfl rfl (OpOK.store ag_75 rfl rfl rfl rfl (lb rfl) rfl) <| XL.nil <| XQ.seq <| XC.seq <| XC.region <| XL.put rfl rfl (lb rfl) (OpOK.alloc z_106 rfl) <| XL.nil <| XQ.seq <| XC.seq <| XC.region <| rR rfl rfl rfl (RO.makeFunc3 rfl rfl rfl) <| XL.eff rfl rfl (OpOK.store ag_106 rfl rfl rfl rfl (lb rfl) rfl) <| XL.nil ?_
    refine XQ.seq <| XC.seq <| XC.seq <| XC.region <| rM rfl rfl rfl <| rR rfl rfl rfl (RO.lenE (α := Bs) sl_23 rfl (.d _)) <| rM rfl rfl rfl <| XL.nil <| XQ.seq <| XC.block ?_
    refine XC.joinX 0 (fun (o37 : (List Bool)) => ⟨[(8, .v (.one (.ptr 9 0)))], [(0, .cells 48 (flatE a0)), (1, .cells 72 [dA 4 y1.1, .mp 2]), (2, .mp (gmE y1.2.1) y1.2.2), (5, .cells 72 [dA 4 y1.1, .mp 2]), (6, .cells 72 [dA 4 y1.1, .mp 2]), (7, .cells 57 [dA 4 y1.1]), (8, .cells 4 (flatE o37)), (9, .cells 75 [.osl 8 0 ((y1.1.length : Int).toNat) ((y1.1.length : Int).toNat)]), (10, .cells 106 [.fn 56 [(9, 0), (7, 0), (10, 0)]])], [(4, some ⟨54, 1, (Enc.encL y1.1).length, []⟩)], 11, 38, []⟩) (fun (o37 : (List Bool)) => (some (.inr o37)) = some y35) ?_ ?_
    ·
     refine bindK h1 (fun o38 hl2 h1 => ?_)
     refine XC.loopM (m15o_l4 a1 y1) (fun s2 => ⟨[(3, .v (.one (.ptr 6 0))), (8, .v (.one (.ptr 9 0))), (9, .v (.one (.ptr 10 0))), (18, .v (.one (dS a1))), (19, .v (.one (dI (a1.length : Int)))), (20, .v (.one (dI s2.1)))], [(0, .cells 48 (flatE a0)), (1, .cells 72 [dA 4 y1.1, .mp 2]), (2, .mp (gmE y1.2.1) y1.2.2), (5, .cells 72 [dA 4 y1.1, .mp 2]), (6, .cells 72 [dA 4 y1.1, .mp 2]), (7, .cells 57 [dA 4 y1.1]), (8, .cells 4 (flatE s2.2)), (9, .cells 75 [.osl 8 0 ((y1.1.length : Int).toNat) ((y1.1.length : Int).toNat)]), (10, .cells 106 [.fn 56 [(9, 0), (7, 0), (10, 0)]])], [(4, some ⟨54, 1, (Enc.encL y1.1).length, []⟩)], 11, 38, []⟩) (0, (List.replicate (y1.1.length : Int).toNat false)) o38 (stle (tR rfl (tR rfl (tR rfl (tR rfl (tR rfl (tR rfl tZ)))))) (hR rfl (hR rfl (hR rfl (hR rfl (hR rfl (hR rfl (hR rfl (hR rfl (hR rfl hZ))))))))) (kR rfl kZ) rfl (Nat.le_trans hv1 (lb rfl)) rfl rfl rfl (bF rfl (bB rfl rfl (bG rfl (bB rfl rfl (bB rfl rfl (bB rfl rfl (bF rfl (bB rfl rfl (bB rfl rfl bZ))))))))) rfl rfl) hl2 (fun s2 n2 oo2 h2 ho2 => ?_)
     unfold m15o_l4 at h2
     refine XC.seq <| XC.region <| rR rfl rfl rfl (RO.binInt rfl rfl rfl) <| XL.nil <| XQ.seq <| XC.seq ?_
     refine XC.cond (b := (decide (s2.1 < (a1.length : Int)))) rfl (fun c39 => ?_) (fun c39 => ?_)
     ·
      replace h2 := condT c39 h2
      refine XC.skip <| XQ.seq <| XC.seq <| XC.block <| XC.seq <| XC.region ?_
      refine bindK h2 (fun x40 hx40 h2 => ?_)
      refine rR rfl rfl rfl (RO.indexE (α := Bs) sl_23 rfl (.d _) rfl hx40) <| rR rfl rfl rfl (RO.loadPel ag_9 rfl rfl) <| rA rfl rfl rfl <| XL.nil <| XQ.seq <| XC.seq <| XC.region <| rR rfl rfl rfl (RO.fieldOwn fo_72_1 rfl) <| rR rfl rfl rfl (RO.loadOwn ag_70 rfl rfl rfl) <| rM rfl rfl rfl <| rR rfl rfl rfl (RO.lookupGT (M := y1.2) (k := x40) mp_70 zok_int rfl rfl rfl) <| rM rfl rfl rfl <| rR rfl rfl rfl (RO.extract rfl rfl) <| rR rfl rfl rfl (RO.extract rfl rfl) ?_
      refine rA rfl rfl rfl <| rA rfl rfl rfl <| XL.nil <| XQ.seq <| XC.seq <| XC.seq <| XC.region <| rM rfl rfl rfl <| rR rfl rfl rfl (RO.not rfl) <| XL.nil <| XQ.seq ?_
      refine XC.cond (b := (!(gmHas y1.2 x40))) rfl (fun c41 => ?_) (fun c41 => ?_)
      ·
       replace h2 := condT c41 h2
       refine XC.seq <| XC.region <| rA rfl rfl rfl <| rA rfl rfl rfl <| XL.nil <| XQ.seq <| XC.ret ?_
       have e_ := Option.some.inj h2
       subst e_
       have e_ : _ = _ := ho2
       subst e_
       try dsimp only [Sum.elim_inl, Sum.elim_inr] at h1
       have e_ := Option.some.inj h1
       subst e_
       exact hQ1 _ _ _ (.inr rfl) rfl (show StLe _ _ ⟨[(6, .v (.one (dN))), (7, .v (.one (dI 9)))], [(0, .cells 48 (flatE a0)), (1, .cells 72 [dA 4 y1.1, .mp 2]), (2, .mp (gmE y1.2.1) y1.2.2), (5, .cells 72 [dA 4 y1.1, .mp 2])], [(4, some ⟨54, 1, (Enc.encL y1.1).length, []⟩)], 11, 38, []⟩ from (stle (tR rfl (tR rfl tZ)) (hR rfl (hR rfl (hR rfl (hR rfl hZ)))) (kR rfl kZ) rfl (Nat.le_trans hv1 (lb rfl)) rfl rfl rfl (bF rfl (bB rfl rfl (bG rfl (bB rfl rfl bZ)))) rfl rfl))
      ·
       replace h2 := condF c41 h2
       refine XC.skip <| XQ.seq <| XC.region <| rR rfl rfl rfl (RO.loadOwn ag_106 rfl rfl rfl) <| rM rfl rfl rfl ?_
       refine bindK h2 (fun x42 hx42 h2 => ?_)
       refine XL.put rfl rfl (lb rfl) (OpOK.callG (hp1' := [(9, .cells 75 [.osl 8 0 ((y1.1.length : Int).toNat) ((y1.1.length : Int).toNat)]), (8, .cells 4 (flatE x42)), (7, .cells 57 [dA 4 y1.1]), (10, .cells 106 [.fn 56 [(9, 0), (7, 0), (10, 0)]])]) (tk1' := [(4, some ⟨54, 1, (Enc.encL y1.1).length, []⟩)]) (hpF := [(0, .cells 48 (flatE a0)), (1, .cells 72 [dA 4 y1.1, .mp 2]), (2, .mp (gmE y1.2.1) y1.2.2), (5, .cells 72 [dA 4 y1.1, .mp 2]), (6, .cells 72 [dA 4 y1.1, .mp 2])]) (tkF := []) (res2 := resOf []) (nx2 := 11) [9, 8, 7, 4, 10] rfl rfl (m56f11_ok (gmVal y1.2 x40) ((y1.1.length : Int).toNat) s2.2 y1.1 x42 hx42) rfl rfl (qB rfl rfl (qF rfl (qB rfl rfl (qB rfl rfl qZ)))) rfl rfl (gR rfl (gF rfl (gR rfl (gR rfl gZ)))) (jR rfl jZ) (hR rfl (hR rfl (hR rfl (hR rfl (hR rfl hZ))))) kZ rfl rfl rfl rfl rfl (bB rfl rfl (bF rfl (bB rfl rfl (bB rfl rfl bZ)))) rfl rfl rfl rfl) <| XL.nil <| XQ.inBlock <| XQ.seq <| XC.region <| rR rfl rfl rfl (RO.binInt rfl rfl rfl) <| rM rfl rfl rfl <| XL.nil ?_
       have e_ := Option.some.inj h2
       subst e_
       refine XQ.nextM ((w64 (s2.1 + 1)), x42) (stle (tR rfl (tR rfl (tR rfl (tR rfl (tR rfl (tR rfl tZ)))))) (hR rfl (hR rfl (hR rfl (hR rfl (hR rfl (hR rfl (hR rfl (hR rfl (hR rfl hZ))))))))) (kR rfl kZ) rfl (Nat.le_trans hv1 (lb rfl)) rfl rfl rfl (bF rfl (bB rfl rfl (bG rfl (bB rfl rfl (bB rfl rfl (bB rfl rfl (bF rfl (bB rfl rfl (bB rfl rfl bZ))))))))) rfl rfl) ho2
     ·
      replace h2 := condF c39 h2
      refine XC.exit <| XQ.thenE <| XQ.thenE ?_
      have e_ := Option.some.inj h2
      subst e_
      have e_ : _ = _ := ho2
      subst e_
      exact XQ.joinX s2.2 (stle (tR rfl tZ) (hR rfl (hR rfl (hR rfl (hR rfl (hR rfl (hR rfl (hR rfl (hR rfl (hR rfl hZ))))))))) (kR rfl kZ) rfl (Nat.le_trans hv1 (lb rfl)) rfl rfl rfl (bF rfl (bB rfl rfl (bG rfl (bB rfl rfl (bB rfl rfl (bB rfl rfl (bF rfl (bB rfl rfl (bB rfl rfl bZ))))))))) rfl rfl) h1
    ·
     intro o37 h1
     refine XQ.blockX <| XQ.seq <| XC.seq <| XC.region <| rR rfl rfl rfl (RO.loadOwn ag_75 rfl rfl rfl) <| rA rfl rfl rfl <| rA rfl rfl rfl <| XL.nil <| XQ.seq <| XC.ret ?_
     have e_ := Option.some.inj h1
     subst e_
     exact hQ1 _ _ _ (.inr rfl) rfl (show StLe _ _ ⟨[(6, .v (.one (.osl 8 0 ((y1.1.length : Int).toNat) ((y1.1.length : Int).toNat)))), (7, .v (.one (dI 0)))], [(0, .cells 48 (flatE a0)), (1, .cells 72 [dA 4 y1.1, .mp 2]), (2, .mp (gmE y1.2.1) y1.2.2), (5, .cells 72 [dA 4 y1.1, .mp 2]), (8, .cells 4 (flatE o37))], [(4, some ⟨54, 1, (Enc.encL y1.1).length, []⟩)], 11, 38, []⟩ from (stle (tR rfl (tR rfl tZ)) (hR rfl (hR rfl (hR rfl (hR rfl (hR rfl hZ))))) (kR rfl kZ) rfl (Nat.le_trans hv1 (lb rfl)) rfl rfl rfl (bF rfl (bB rfl rfl (bG rfl (bB rfl rfl (bF rfl bZ))))) rfl rfl))
   refine sumK (C := fun q_ => CallM Try.prog 35 [.agg [dA 4 y1.1, .mp 2], .one (dA 4 y1.1), .one (dS a1)] ⟨[(0, .cells 48 (flatE a0)), (1, .cells 72 [dA 4 y1.1, .mp 2]), (2, .mp (gmE y1.2.1) y1.2.2), (5, .cells 72 [dA 4 y1.1, .mp 2])], [(4, some ⟨54, 1, (Enc.encL y1.1).length, []⟩)], 6⟩ (resOf (((Sum.elim (fun (y32 : Unit) => ([.one (dN), .one (dI 9)] : List AV)) (fun (y33 : (List Bool)) => ([.one (.osl 8 0 ((y1.1.length : Int).toNat) ((y1.1.length : Int).toNat)), .one (dI 0)] : List AV)))) q_)) ⟨(((Sum.elim (fun (y32 : Unit) => (⟨[(6, .v (.one (dN))), (7, .v (.one (dI 9)))], [(0, .cells 48 (flatE a0)), (1, .cells 72 [dA 4 y1.1, .mp 2]), (2, .mp (gmE y1.2.1) y1.2.2), (5, .cells 72 [dA 4 y1.1, .mp 2])], [(4, some ⟨54, 1, (Enc.encL y1.1).length, []⟩)], 11, 38, []⟩ : St)) (fun (y33 : (List Bool)) => (⟨[(6, .v (.one (.osl 8 0 ((y1.1.length : Int).toNat) ((y1.1.length : Int).toNat)))), (7, .v (.one (dI 0)))], [(0, .cells 48 (flatE a0)), (1, .cells 72 [dA 4 y1.1, .mp 2]), (2, .mp (gmE y1.2.1) y1.2.2), (5, .cells 72 [dA 4 y1.1, .mp 2]), (8, .cells 4 (flatE y33))], [(4, some ⟨54, 1, (Enc.encL y1.1).length, []⟩)], 11, 38, []⟩ : St)))) q_).hp, (((Sum.elim (fun (y32 : Unit) => (⟨[(6, .v (.one (dN))), (7, .v (.one (dI 9)))], [(0, .cells 48 (flatE a0)), (1, .cells 72 [dA 4 y1.1, .mp 2]), (2, .mp (gmE y1.2.1) y1.2.2), (5, .cells 72 [dA 4 y1.1, .mp 2])], [(4, some ⟨54, 1, (Enc.encL y1.1).length, []⟩)], 11, 38, []⟩ : St)) (fun (y33 : (List Bool)) => (⟨[(6, .v (.one (.osl 8 0 ((y1.1.length : Int).toNat) ((y1.1.length : Int).toNat)))), (7, .v (.one (dI 0)))], [(0, .cells 48 (flatE a0)), (1, .cells 72 [dA 4 y1.1, .mp 2]), (2, .mp (gmE y1.2.1) y1.2.2), (5, .cells 72 [dA 4 y1.1, .mp 2]), (8, .cells 4 (flatE y33))], [(4, some ⟨54, 1, (Enc.encL y1.1).length, []⟩)], 11, 38, []⟩ : St)))) q_).tk, (((Sum.elim (fun (y32 : Unit) => (⟨[(6, .v (.one (dN))), (7, .v (.one (dI 9)))], [(0, .cells 48 (flatE a0)), (1, .cells 72 [dA 4 y1.1, .mp 2]), (2, .mp (gmE y1.2.1) y1.2.2), (5, .cells 72 [dA 4 y1.1, .mp 2])], [(4, some ⟨54, 1, (Enc.encL y1.1).length, []⟩)], 11, 38, []⟩ : St)) (fun (y33 : (List Bool)) => (⟨[(6, .v (.one (.osl 8 0 ((y1.1.length : Int).toNat) ((y1.1.length : Int).toNat)))), (7, .v (.one (dI 0)))], [(0, .cells 48 (flatE a0)), (1, .cells 72 [dA 4 y1.1, .mp 2]), (2, .mp (gmE y1.2.1) y1.2.2), (5, .cells 72 [dA 4 y1.1, .mp 2]), (8, .cells 4 (flatE y33))], [(4, some ⟨54, 1, (Enc.encL y1.1).length, []⟩)], 11, 38, []⟩ : St)))) q_).nx⟩) hc34 h0 (fun y32 hc34 h0 => ?_) (fun y33 hc34 h0 => ?_)
   ·
    replace hc34 : CallM Try.prog 35 [.agg [dA 4 y1.1, .mp 2], .one (dA 4 y1.1), .one (dS a1)] ⟨[(0, .cells 48 (flatE a0)), (1, .cells 72 [dA 4 y1.1, .mp 2]), (2, .mp (gmE y1.2.1) y1.2.2), (5, .cells 72 [dA 4 y1.1, .mp 2])], [(4, some ⟨54, 1, (Enc.encL y1.1).length, []⟩)], 6⟩ (resOf [.one (dN), .one (dI 9)]) ⟨[(0, .cells 48 (flatE a0)), (1, .cells 72 [dA 4 y1.1, .mp 2]), (2, .mp (gmE y1.2.1) y1.2.2), (5, .cells 72 [dA 4 y1.1, .mp 2])], [(4, some ⟨54, 1, (Enc.encL y1.1).length, []⟩)], 11⟩ := hc34
    refine XL.put rfl rfl (lb rfl) (OpOK.callW rfl rfl rfl hc34 rfl (hR rfl (hR rfl (hR rfl (hR rfl hZ)))) (kR rfl kZ)) <| rM rfl rfl rfl <| rR rfl rfl rfl (RO.extract rfl rfl) <| rR rfl rfl rfl (RO.extract rfl rfl) <| rA rfl rfl rfl <| rA rfl rfl rfl <| XL.nil <| XQ.seq <| XC.seq <| XC.seq <| XC.region <| rM rfl rfl rfl <| rR rfl rfl rfl (RO.binInt rfl rfl rfl) <| XL.nil ?_
    refine XQ.seq ?_
    refine XC.cond rfl (fun _ => ?_) (fun h => nomatch h)
    refine XC.seq <| XC.region <| rM rfl rfl rfl <| rA rfl rfl rfl <| rA rfl rfl rfl <| XL.nil <| XQ.seq <| XC.ret ?_
    have e_ := Option.some.inj h0
    subst e_
    exact hQ0 _ _ _ (.inr rfl) rfl (stle (tC rfl (.sub (.nil _)) (tR rfl tZ)) (hR rfl hZ) kZ rfl (Nat.le_trans hv0 (lb rfl)) rfl rfl rfl (bF rfl bZ) rfl rfl)
   ·
    replace hc34 : CallM Try.prog 35 [.agg [dA 4 y1.1, .mp 2], .one (dA 4 y1.1), .one (dS a1)] ⟨[(0, .cells 48 (flatE a0)), (1, .cells 72 [dA 4 y1.1, .mp 2]), (2, .mp (gmE y1.2.1) y1.2.2), (5, .cells 72 [dA 4 y1.1, .mp 2])], [(4, some ⟨54, 1, (Enc.encL y1.1).length, []⟩)], 6⟩ (resOf [.one (.osl 8 0 ((y1.1.length : Int).toNat) ((y1.1.length : Int).toNat)), .one (dI 0)]) ⟨[(0, .cells 48 (flatE a0)), (1, .cells 72 [dA 4 y1.1, .mp 2]), (2, .mp (gmE y1.2.1) y1.2.2), (5, .cells 72 [dA 4 y1.1, .mp 2]), (8, .cells 4 (flatE y33))], [(4, some ⟨54, 1, (Enc.encL y1.1).length, []⟩)], 11⟩ := hc34
    refine XL.put rfl rfl (lb rfl) (OpOK.callW rfl rfl rfl hc34 rfl (hR rfl (hR rfl (hR rfl (hR rfl hZ)))) (kR rfl kZ)) <| rM rfl rfl rfl <| rR rfl rfl rfl (RO.extract rfl rfl) <| rR rfl rfl rfl (RO.extract rfl rfl) <| rA rfl rfl rfl <| rA rfl rfl rfl <| XL.nil <| XQ.seq <| XC.seq <| XC.seq <| XC.region <| rM rfl rfl rfl <| rR rfl rfl rfl (RO.binInt rfl rfl rfl) <| XL.nil ?_
    refine XQ.seq ?_
    refine XC.cond rfl (fun h => nomatch h) (fun _ => ?_)
    refine XC.skip <| XQ.seq <| XC.seq <| XC.region <| rA rfl rfl rfl <| XL.nil <| XQ.seq <| XC.seq <| XC.seq <| XC.region <| rM rfl rfl rfl <| rR rfl rfl rfl (RO.lenOsl sl_22 rfl) <| rM rfl rfl rfl <| XL.nil ?_
    refine XQ.seq <| XC.block ?_
    refine XC.joinX 0 (fun (o43 : (List Dcl)) => ⟨[(9, .v (.one (dA 11 o43)))], [(0, .cells 48 (flatE a0)), (1, .cells 72 [dA 4 y1.1, .mp 2]), (2, .mp (gmE y1.2.1) y1.2.2), (5, .cells 72 [dA 4 y1.1, .mp 2]), (8, .cells 4 (flatE y33))], [(4, some ⟨54, 1, (Enc.encL y1.1).length, []⟩), (11, some ⟨48, 23, (Enc.encL o43).length, []⟩)], 12, 48, []⟩) (fun (o43 : (List Dcl)) => (some (o43, 0)) = some r) ?_ ?_
    ·
     refine XC.adoptT (t := 9) 48 23 rfl ?_
     refine bindK h0 (fun o44 hl1 h0 => ?_)
     refine XC.loopM (m15o_l5 nn a0 y33 y1) (fun s1 => ⟨[(8, .v (.one (.osl 8 0 ((y1.1.length : Int).toNat) ((y1.1.length : Int).toNat)))), (9, .v (.one (dA 11 s1.1))), (31, .v (.one (.osl 0 0 nn nn))), (32, .v (.one (dI ((nn : Nat) : Int)))), (33, .v (.one (dI s1.2)))], [(0, .cells 48 (flatE a0)), (1, .cells 72 [dA 4 y1.1, .mp 2]), (2, .mp (gmE y1.2.1) y1.2.2), (5, .cells 72 [dA 4 y1.1, .mp 2]), (8, .cells 4 (flatE y33))], [(4, some ⟨54, 1, (Enc.encL y1.1).length, []⟩), (11, some ⟨48, 23, (Enc.encL s1.1).length, []⟩)], 12, 48, []⟩) (([] : List Dcl), 0) o44 (stle (tR rfl (tR rfl (tR rfl (tR rfl (tR rfl tZ))))) (hR rfl (hR rfl (hR rfl (hR rfl (hR rfl hZ))))) (kR rfl (kR rfl kZ)) rfl (Nat.le_trans hv0 (lb rfl)) rfl rfl rfl (bF rfl (bB rfl rfl (bG rfl (bB rfl rfl (bF rfl bZ))))) rfl rfl) hl1 (fun s1 n1 oo1 h1 ho1 => ?_)
     unfold m15o_l5 at h1
     refine XC.seq <| XC.region <| rR rfl rfl rfl (RO.binInt rfl rfl rfl) <| XL.nil <| XQ.seq <| XC.seq ?_
     refine XC.cond (b := (decide (s1.2 < ((nn : Nat) : Int)))) rfl (fun c45 => ?_) (fun c45 => ?_)
     ·
      replace h1 := condT c45 h1
      refine XC.skip <| XQ.seq <| XC.seq <| XC.block <| XC.seq <| XC.region <| rM rfl rfl rfl ?_
      refine bindK h1 (fun x46 hx46 h1 => ?_)
      refine guardK h1 (fun g47 h1 => ?_)
      refine rR rfl rfl rfl (RO.indexO (α := Dcl) sl_22 rfl rfl hx46 g47) <| rR rfl rfl rfl (RO.loadOE (α := Dcl) (ys := [dI x46.kind, dS8 x46.name, dI x46.params, dI x46.ty.kind, dI x46.ty.index, dS8 x46.ty.name, dS x46.ty.levels, dS x46.ty.kids, dI x46.value.kind, dI x46.value.index, dS8 x46.value.name, dS x46.value.levels, dS x46.value.kids, dI x46.fixed, dS x46.ctors, dI x46.rcr.params, dI x46.rcr.ty.kind, dI x46.rcr.ty.index, dS8 x46.rcr.ty.name, dS x46.rcr.ty.levels, dS x46.rcr.ty.kids, dS x46.rcr.rules, dS x46.funs]) ag_48 rfl rfl hx46 rfl) <| XL.put rfl rfl (lb rfl) (OpOK.alloc z_48 rfl) <| rA rfl rfl rfl <| XL.eff rfl rfl (OpOK.storeCE (x46 : Dcl) ag_48 rfl rfl rfl rfl rfl) <| XL.nil <| XQ.seq <| XC.seq <| XC.region <| rM rfl rfl rfl <| rM rfl rfl rfl ?_
      refine bindK h1 (fun x48 hx48 h1 => ?_)
      refine guardK h1 (fun g49 h1 => ?_)
      refine rR rfl rfl rfl (RO.indexO (α := Bool) sl_75 rfl rfl hx48 g49) <| rR rfl rfl rfl (RO.loadOF (α := Bool) (m := s1.2) (f := 0) ag_4 rfl rfl hx48 rfl) <| XL.nil <| XQ.seq ?_
      refine XC.cond (b := x48) rfl (fun c50 => ?_) (fun c50 => ?_)
      ·
       replace h1 := condT c50 h1
       refine XC.region <| rM rfl rfl rfl <| rR rfl rfl rfl (RO.loadCE (x46 : Dcl) ag_48 rfl rfl) <| XL.put rfl rfl (lb rfl) (OpOK.lit1CE (x46 : Dcl) sl_22 z_48 rfl rfl (lb rfl) rfl) ?_
       refine guardK h1 (fun g51 h1 => ?_)
       refine XL.put rfl rfl (lb rfl) (OpOK.appendE (α := Dcl) sl_22 el_48 rfl rfl rfl rfl rfl (.app _ _) g51) <| rA rfl rfl rfl <| XL.nil <| XQ.inBlock <| XQ.seq <| XC.region <| rR rfl rfl rfl (RO.binInt rfl rfl rfl) <| rM rfl rfl rfl <| XL.nil ?_
       have e_ := Option.some.inj h1
       subst e_
       refine XQ.nextM ((s1.1 ++ ([x46])), (w64 (s1.2 + 1))) (stle (tR rfl (tR rfl (tR rfl (tR rfl (tR rfl tZ))))) (hR rfl (hR rfl (hR rfl (hR rfl (hR rfl hZ))))) (kR rfl (kR rfl kZ)) rfl (Nat.le_trans hv0 (lb rfl)) rfl rfl rfl (bF rfl (bB rfl rfl (bG rfl (bB rfl rfl (bF rfl bZ))))) rfl rfl) ho1
      ·
       replace h1 := condF c50 h1
       refine XC.skip <| XQ.inBlock <| XQ.seq <| XC.region <| rR rfl rfl rfl (RO.binInt rfl rfl rfl) <| rM rfl rfl rfl <| XL.nil ?_
       have e_ := Option.some.inj h1
       subst e_
       refine XQ.nextM (s1.1, (w64 (s1.2 + 1))) (stle (tR rfl (tR rfl (tR rfl (tR rfl (tR rfl tZ))))) (hR rfl (hR rfl (hR rfl (hR rfl (hR rfl hZ))))) (kR rfl (kR rfl kZ)) rfl (Nat.le_trans hv0 (lb rfl)) rfl rfl rfl (bF rfl (bB rfl rfl (bG rfl (bB rfl rfl (bF rfl bZ))))) rfl rfl) ho1
     ·
      replace h1 := condF c45 h1
      refine XC.exit <| XQ.thenE <| XQ.thenE ?_
      have e_ := Option.some.inj h1
      subst e_
      have e_ : _ = _ := ho1
      subst e_
      exact XQ.joinX s1.1 (stle (tR rfl tZ) (hR rfl (hR rfl (hR rfl (hR rfl (hR rfl hZ))))) (kR rfl (kR rfl kZ)) rfl (Nat.le_trans hv0 (lb rfl)) rfl rfl rfl (bF rfl (bB rfl rfl (bG rfl (bB rfl rfl (bF rfl bZ))))) rfl rfl) h0
    ·
     intro o43 h0
     refine XQ.blockX <| XQ.seq <| XC.seq <| XC.region <| rM rfl rfl rfl <| rA rfl rfl rfl <| rA rfl rfl rfl <| XL.nil <| XQ.seq <| XC.ret ?_
     have e_ := Option.some.inj h0
     subst e_
     exact hQ0 _ _ _ (.inr rfl) rfl (stle (tC rfl (.sub (.app _ _ _)) (tR rfl tZ)) (hR rfl hZ) kZ rfl (Nat.le_trans hv0 (lb rfl)) rfl rfl rfl (bF rfl bZ) rfl rfl)
  ·
   replace hc4 : CallM Try.prog 34 [.one (.osl 0 0 nn nn)] ⟨[(0, .cells 48 (flatE a0))], [], 1⟩ (resOf [.agg [dN, .d (.v (.map none))], .one (dI 8)]) ⟨[(0, .cells 48 (flatE a0)), (1, .cells 72 [dN, .d (.v (.map none))])], [], 5⟩ := hc4
   refine XL.put rfl rfl (lb rfl) (OpOK.callW rfl rfl rfl hc4 rfl (hR rfl hZ) kZ) <| rM rfl rfl rfl <| rR rfl rfl rfl (RO.extract rfl rfl) <| rR rfl rfl rfl (RO.extract rfl rfl) <| XL.put rfl rfl (lb rfl) (OpOK.alloc z_72 rfl) <| XL.eff rfl rfl (OpOK.store ag_72 rfl rfl rfl rfl (lb rfl) rfl) <| rA rfl rfl rfl <| XL.nil <| XQ.seq <| XC.seq <| XC.seq <| XC.region <| rM rfl rfl rfl <| rR rfl rfl rfl (RO.binInt rfl rfl rfl) ?_
   refine XL.nil <| XQ.seq ?_
   refine XC.cond rfl (fun _ => ?_) (fun h => nomatch h)
   refine XC.seq <| XC.region <| rM rfl rfl rfl <| rA rfl rfl rfl <| rA rfl rfl rfl <| XL.nil <| XQ.seq <| XC.ret ?_
   have e_ := Option.some.inj h0
   subst e_
   exact hQ0 _ _ _ (.inr rfl) rfl (stle (tC rfl (.sub (.nil _)) (tR rfl tZ)) (hR rfl hZ) kZ rfl (Nat.le_trans hv0 (lb rfl)) rfl rfl rfl (bF rfl bZ) rfl rfl)
  ·
   replace hc4 : CallM Try.prog 34 [.one (.osl 0 0 nn nn)] ⟨[(0, .cells 48 (flatE a0))], [], 1⟩ (resOf [.agg [dN, .d (.v (.map none))], .one (dI 9)]) ⟨[(0, .cells 48 (flatE a0)), (1, .cells 72 [dN, .d (.v (.map none))])], [], 7⟩ := hc4
   refine XL.put rfl rfl (lb rfl) (OpOK.callW rfl rfl rfl hc4 rfl (hR rfl hZ) kZ) <| rM rfl rfl rfl <| rR rfl rfl rfl (RO.extract rfl rfl) <| rR rfl rfl rfl (RO.extract rfl rfl) <| XL.put rfl rfl (lb rfl) (OpOK.alloc z_72 rfl) <| XL.eff rfl rfl (OpOK.store ag_72 rfl rfl rfl rfl (lb rfl) rfl) <| rA rfl rfl rfl <| XL.nil <| XQ.seq <| XC.seq <| XC.seq <| XC.region <| rM rfl rfl rfl <| rR rfl rfl rfl (RO.binInt rfl rfl rfl) ?_
   refine XL.nil <| XQ.seq ?_
   refine XC.cond rfl (fun _ => ?_) (fun h => nomatch h)
   refine XC.seq <| XC.region <| rM rfl rfl rfl <| rA rfl rfl rfl <| rA rfl rfl rfl <| XL.nil <| XQ.seq <| XC.ret ?_
   have e_ := Option.some.inj h0
   subst e_
   exact hQ0 _ _ _ (.inr rfl) rfl (stle (tC rfl (.sub (.nil _)) (tR rfl tZ)) (hR rfl hZ) kZ rfl (Nat.le_trans hv0 (lb rfl)) rfl rfl rfl (bF rfl bZ) rfl rfl)
end Go.Proofs.Ytijcchddnnnmdaa
