/- Part 5 of the proof: rules, mirrors and plain laws. The statement DependSortsUpto is proved here: for every list of declarations the law returns true, and the list reads behind the call as it did before; condition: the list is of bulk at most 1048576 (the second form). -/
import Derived.Test.YtijcchddnnnmdaaK74
import Derived.Deep.Slices
import Derived.ChangeSame
namespace Go.Proofs.Ytijcchddnnnmdaa
open Go.RowKit Go.Shelf
set_option linter.unusedSimpArgs false
set_option linter.unusedVariables false
def m15o_l0 (x10 : (List Bs)) (s2 : Int × (GMap Bs Int)) (s3 : Int × (GMap Bs Int)) : Option (LO (Int × (GMap Bs Int)) (((GMap Bs Int)) ⊕ (((List (List Int)) × (GMap Bs Int)) ⊕ Unit ⊕ Unit))) :=
  cond (decide (s3.1 < (x10.length : Int)))
    (Option.bind (idx x10 s3.1) fun (x13 : Bs) =>
  cond (gmHas s3.2 x13)
    (some (.done (.inr (.inr (.inl ())))))
    (some (.next ((w64 (s3.1 + 1)), (gmSet s3.2 x13 s2.1)))))
    (some (.done (.inl s3.2)))
def m15o_l1 (nn : Nat) (a0 : List Dcl) (s2 : Int × (GMap Bs Int)) : Option (LO (Int × (GMap Bs Int)) (((GMap Bs Int)) ⊕ (((List (List Int)) × (GMap Bs Int)) ⊕ Unit ⊕ Unit))) :=
  cond (decide (s2.1 < ((nn : Nat) : Int)))
    (Option.bind (idx a0 s2.1) fun (x8 : Dcl) =>
  guardO (Nat.beq a0.length nn)
  (Option.bind (m37 x8) fun (x10 : (List Bs)) =>
  Option.bind (loopN (m15o_l0 x10 s2) FUEL (0, s2.2)) (Sum.elim (fun (o11 : (GMap Bs Int)) => some (.next ((w64 (s2.1 + 1)), o11))) (fun o => some (.done (.inr o))))))
    (some (.done (.inl s2.2)))
def m15o_l2 (x11 : (List Bs)) (o6 : (GMap Bs Int)) (s3 : (List Int) × Int) : Option (LO ((List Int) × Int) (((List Int)) ⊕ (((List (List Int)) × (GMap Bs Int)) ⊕ Unit ⊕ Unit))) :=
  cond (decide (s3.2 < (x11.length : Int)))
    (Option.bind (idx x11 s3.2) fun (x14 : Bs) =>
  cond (!(gmHas o6 x14))
    (some (.done (.inr (.inr (.inr ())))))
    (guardO (Nat.ble (s3.1.length + ([(gmVal o6 x14)]).length) 1000000000)
  (some (.next ((s3.1 ++ ([(gmVal o6 x14)])), (w64 (s3.2 + 1)))))))
    (some (.done (.inl s3.1)))
def m15o_l3 (nn : Nat) (a0 : List Dcl) (o6 : (GMap Bs Int)) (s2 : Int × (List (List Int))) : Option (LO (Int × (List (List Int))) (((List (List Int))) ⊕ (((List (List Int)) × (GMap Bs Int)) ⊕ Unit ⊕ Unit))) :=
  cond (decide (s2.1 < ((nn : Nat) : Int)))
    (Option.bind (idx a0 s2.1) fun (x9 : Dcl) =>
  guardO (Nat.beq a0.length nn)
  (Option.bind (m53 x9) fun (x11 : (List Bs)) =>
  Option.bind (loopN (m15o_l2 x11 o6) FUEL (([] : List Int), 0)) (Sum.elim (fun (o12 : (List Int)) => Option.bind (sortF o12) fun (x13 : List Int) =>
  Option.bind (compactF x13 ((Enc.encL o12).length)) fun (x14 : List Int) =>
  guardO (Nat.ble (s2.2.length + ([x14]).length) 1000000000)
  (some (.next ((w64 (s2.1 + 1)), (s2.2 ++ ([x14])))))) (fun o => some (.done (.inr o))))))
    (some (.done (.inl s2.2)))
def m15o_l4 (a1 : List Bs) (y1 : (List (List Int)) × (GMap Bs Int)) (s2 : Int × (List Bool)) : Option (LO (Int × (List Bool)) (((List Bool)) ⊕ (Unit ⊕ ((List Bool))))) :=
  cond (decide (s2.1 < (a1.length : Int)))
    (Option.bind (idx a1 s2.1) fun (x39 : Bs) =>
  cond (!(gmHas y1.2 x39))
    (some (.done (.inr (.inl ()))))
    (Option.bind (m56f11 (gmVal y1.2 x39) ((y1.1.length : Int).toNat) s2.2 y1.1) fun (x41 : (List Bool)) =>
  some (.next ((w64 (s2.1 + 1)), x41))))
    (some (.done (.inl s2.2)))
def m15o_l5 (nn : Nat) (a0 : List Dcl) (y33 : (List Bool)) (y1 : (List (List Int)) × (GMap Bs Int)) (s1 : (List Dcl) × Int) : Option (LO ((List Dcl) × Int) (((List Dcl)))) :=
  cond (decide (s1.2 < ((nn : Nat) : Int)))
    (Option.bind (idx a0 s1.2) fun (x45 : Dcl) =>
  guardO (Nat.beq a0.length nn)
  (Option.bind (idx y33 s1.2) fun (x47 : Bool) =>
  guardO (Nat.beq y33.length ((y1.1.length : Int).toNat))
  (cond x47
    (guardO (Nat.ble (s1.1.length + ([x45]).length) 1000000000)
  (some (.next ((s1.1 ++ ([x45])), (w64 (s1.2 + 1))))))
    (some (.next (s1.1, (w64 (s1.2 + 1))))))))
    (some (.done s1.1))
def m15o (a0 : List Dcl) (a1 : List Bs) (nn : Nat) : Option ((List Dcl) × Int) :=
  Option.bind (Option.bind (loopN (m15o_l1 nn a0) FUEL (0, gmNil)) (Sum.elim (fun (o6 : (GMap Bs Int)) => Option.bind (loopN (m15o_l3 nn a0 o6) FUEL (0, ([] : List (List Int)))) (Sum.elim (fun (o7 : (List (List Int))) => some (.inl (o7, o6))) (fun o => some o))) (fun o => some o))) (Sum.elim (fun (y1 : (List (List Int)) × (GMap Bs Int)) => Option.bind (guardO (cond (decide (0 ≤ (y1.1.length : Int))) (Nat.ble (1 * (y1.1.length : Int).toNat) 281474976710656) false)
  (Option.bind (loopN (m15o_l4 a1 y1) FUEL (0, (List.replicate (y1.1.length : Int).toNat false))) (Sum.elim (fun (o37 : (List Bool)) => some (.inr o37)) (fun o => some o)))) (Sum.elim (fun (y32 : Unit) => some (([] : List Dcl), 9)) (fun (y33 : (List Bool)) => Option.bind (loopN (m15o_l5 nn a0 y33 y1) FUEL (([] : List Dcl), 0)) (fun (o43 : (List Dcl)) => some (o43, 0))))) (Sum.elim (fun (y2 : Unit) => some (([] : List Dcl), 8)) (fun (y3 : Unit) => some (([] : List Dcl), 9))))
set_option maxRecDepth 100000 in
set_option maxHeartbeats 2000000 in
theorem m15o_ok (a0 : List Dcl) (a1 : List Bs) (nn : Nat) (r : (List Dcl) × Int) (h0 : m15o a0 a1 nn = some r) : CallM Try.prog 15 [.one (.osl 0 0 nn nn), .one (dS a1)] ⟨[(0, .cells 48 (flatE a0))], [], 1⟩ (resOf [.one (dS r.1), .one (dI r.2)]) ⟨[(0, .cells 48 (flatE a0))], [], 6⟩ := by
  unfold m15o at h0
  refine CallM.of_bodyD ⟨[(4, .v (.one (dS r.1))), (5, .v (.one (dI r.2)))], [(0, .cells 48 (flatE a0))], [], 6, 48, []⟩ rfl rfl en_15 (lb rfl) rfl (RAs.tmp rfl (RAs.tmp rfl .nil)) (fun w0 M V0 Q hv0 hQ0 => ?_)
  simp only [entry]
  refine XC.seq <| XC.region <| rA rfl rfl rfl <| rA rfl rfl rfl <| XL.nil <| XQ.seq <| XC.seq <| XC.region <| rM rfl rfl rfl ?_
  refine bindK h0 (fun y5 h1 h0 => ?_)
  have hc4 : CallM Try.prog 34 [.one (.osl 0 0 nn nn)] ⟨[(0, .cells 48 (flatE a0))], [], 1⟩ (resOf (((Sum.elim (fun (y1 : (List (List Int)) × (GMap Bs Int)) => ([.agg [dA 4 y1.1, .mp 2], .one (dI 0)] : List AV)) (Sum.elim (fun (y2 : Unit) => ([.agg [dN, .d (.v (.map none))], .one (dI 8)] : List AV)) (fun (y3 : Unit) => ([.agg [dN, .d (.v (.map none))], .one (dI 9)] : List AV))))) y5)) ⟨(((Sum.elim (fun (y1 : (List (List Int)) × (GMap Bs Int)) => (⟨[(2, .v (.one (.ptr 1 0))), (3, .v (.one (dI 0)))], [(0, .cells 48 (flatE a0)), (1, .cells 72 [dA 4 y1.1, .mp 2]), (2, .mp (gmE y1.2.1) y1.2.2)], [(4, some ⟨54, 1, (Enc.encL y1.1).length, []⟩)], 5, 88, []⟩ : St)) (Sum.elim (fun (y2 : Unit) => (⟨[(2, .v (.one (.ptr 1 0))), (3, .v (.one (dI 8)))], [(0, .cells 48 (flatE a0)), (1, .cells 72 [dN, .d (.v (.map none))])], [], 5, 88, []⟩ : St)) (fun (y3 : Unit) => (⟨[(2, .v (.one (.ptr 1 0))), (3, .v (.one (dI 9)))], [(0, .cells 48 (flatE a0)), (1, .cells 72 [dN, .d (.v (.map none))])], [], 7, 88, []⟩ : St))))) y5).hp, (((Sum.elim (fun (y1 : (List (List Int)) × (GMap Bs Int)) => (⟨[(2, .v (.one (.ptr 1 0))), (3, .v (.one (dI 0)))], [(0, .cells 48 (flatE a0)), (1, .cells 72 [dA 4 y1.1, .mp 2]), (2, .mp (gmE y1.2.1) y1.2.2)], [(4, some ⟨54, 1, (Enc.encL y1.1).length, []⟩)], 5, 88, []⟩ : St)) (Sum.elim (fun (y2 : Unit) => (⟨[(2, .v (.one (.ptr 1 0))), (3, .v (.one (dI 8)))], [(0, .cells 48 (flatE a0)), (1, .cells 72 [dN, .d (.v (.map none))])], [], 5, 88, []⟩ : St)) (fun (y3 : Unit) => (⟨[(2, .v (.one (.ptr 1 0))), (3, .v (.one (dI 9)))], [(0, .cells 48 (flatE a0)), (1, .cells 72 [dN, .d (.v (.map none))])], [], 7, 88, []⟩ : St))))) y5).tk, (((Sum.elim (fun (y1 : (List (List Int)) × (GMap Bs Int)) => (⟨[(2, .v (.one (.ptr 1 0))), (3, .v (.one (dI 0)))], [(0, .cells 48 (flatE a0)), (1, .cells 72 [dA 4 y1.1, .mp 2]), (2, .mp (gmE y1.2.1) y1.2.2)], [(4, some ⟨54, 1, (Enc.encL y1.1).length, []⟩)], 5, 88, []⟩ : St)) (Sum.elim (fun (y2 : Unit) => (⟨[(2, .v (.one (.ptr 1 0))), (3, .v (.one (dI 8)))], [(0, .cells 48 (flatE a0)), (1, .cells 72 [dN, .d (.v (.map none))])], [], 5, 88, []⟩ : St)) (fun (y3 : Unit) => (⟨[(2, .v (.one (.ptr 1 0))), (3, .v (.one (dI 9)))], [(0, .cells 48 (flatE a0)), (1, .cells 72 [dN, .d (.v (.map none))])], [], 7, 88, []⟩ : St))))) y5).nx⟩ := by
   refine CallM.of_bodyT y5 ((Sum.elim (fun (y1 : (List (List Int)) × (GMap Bs Int)) => (⟨[(2, .v (.one (.ptr 1 0))), (3, .v (.one (dI 0)))], [(0, .cells 48 (flatE a0)), (1, .cells 72 [dA 4 y1.1, .mp 2]), (2, .mp (gmE y1.2.1) y1.2.2)], [(4, some ⟨54, 1, (Enc.encL y1.1).length, []⟩)], 5, 88, []⟩ : St)) (Sum.elim (fun (y2 : Unit) => (⟨[(2, .v (.one (.ptr 1 0))), (3, .v (.one (dI 8)))], [(0, .cells 48 (flatE a0)), (1, .cells 72 [dN, .d (.v (.map none))])], [], 5, 88, []⟩ : St)) (fun (y3 : Unit) => (⟨[(2, .v (.one (.ptr 1 0))), (3, .v (.one (dI 9)))], [(0, .cells 48 (flatE a0)), (1, .cells 72 [dN, .d (.v (.map none))])], [], 7, 88, []⟩ : St))))) ((Sum.elim (fun (y1 : (List (List Int)) × (GMap Bs Int)) => ([.agg [dA 4 y1.1, .mp 2], .one (dI 0)] : List AV)) (Sum.elim (fun (y2 : Unit) => ([.agg [dN, .d (.v (.map none))], .one (dI 8)] : List AV)) (fun (y3 : Unit) => ([.agg [dN, .d (.v (.map none))], .one (dI 9)] : List AV))))) rfl rfl en_34 (lb rfl) (fun z_ => by cases z_ with
     | inl _ => rfl
     | inr z_ => exact (by cases z_ <;> rfl)) (fun z_ => by cases z_ with
     | inl _ => exact (RAs.agg ag_72 rfl rfl rfl rfl (RAs.tmp rfl .nil))
     | inr z_ => exact (by cases z_ with
     | inl _ => exact (RAs.agg ag_72 rfl rfl rfl rfl (RAs.tmp rfl .nil))
     | inr _ => exact (RAs.agg ag_72 rfl rfl rfl rfl (RAs.tmp rfl .nil)))) (fun w0 M V0 Q hv1 hQ1 => ?_)
   simp only [entry]
   refine XC.seq <| XC.region <| XL.put rfl rfl (lb rfl) (OpOK.alloc z_72 rfl) <| rA rfl rfl rfl <| XL.nil <| XQ.seq <| XC.seq <| XC.region <| XL.put rfl rfl (lb rfl) (OpOK.makeMapG Bs Int) <| rR rfl rfl rfl (RO.build1 bd_72 rfl rfl rfl) <| XL.put rfl rfl (lb rfl) (OpOK.alloc z_72 rfl) <| XL.eff rfl rfl (OpOK.store ag_72 rfl rfl rfl rfl (lb rfl) rfl) <| XL.nil <| XQ.seq ?_
   refine XC.seq <| XC.seq <| XC.region <| rM rfl rfl rfl <| rR rfl rfl rfl (RO.lenOsl sl_22 rfl) <| rM rfl rfl rfl <| XL.nil <| XQ.seq <| XC.block ?_
   refine XC.joinX 0 (fun (o6 : (GMap Bs Int)) => ⟨[(0, .v (.one (.osl 0 0 nn nn))), (2, .v (.one (.ptr 1 0))), (4, .v (.one (.ptr 3 0)))], [(0, .cells 48 (flatE a0)), (1, .cells 72 [dN, .d (.v (.map none))]), (2, .mp (gmE o6.1) o6.2), (3, .cells 72 [dN, .mp 2])], [], 4, 88, []⟩) (fun (o6 : (GMap Bs Int)) => (Option.bind (loopN (m15o_l3 nn a0 o6) FUEL (0, ([] : List (List Int)))) (Sum.elim (fun (o7 : (List (List Int))) => some (.inl (o7, o6))) (fun o => some o))) = some y5) ?_ ?_
   ·
    refine bindK h1 (fun o7 hl2 h1 => ?_)
    refine XC.loopM (m15o_l1 nn a0) (fun s2 => ⟨[(0, .v (.one (.osl 0 0 nn nn))), (2, .v (.one (.ptr 1 0))), (4, .v (.one (.ptr 3 0))), (20, .v (.one (.osl 0 0 nn nn))), (21, .v (.one (dI ((nn : Nat) : Int)))), (22, .v (.one (dI s2.1)))], [(0, .cells 48 (flatE a0)), (1, .cells 72 [dN, .d (.v (.map none))]), (2, .mp (gmE s2.2.1) s2.2.2), (3, .cells 72 [dN, .mp 2])], [], 4, 88, []⟩) (0, gmNil) o7 (stle (tR rfl (tR rfl (tR rfl (tR rfl (tR rfl (tR rfl tZ)))))) (hR rfl (hR rfl (hR rfl (hR rfl hZ)))) kZ rfl (Nat.le_trans hv1 (lb rfl)) rfl rfl rfl (bF rfl (bB rfl rfl (bG rfl (bB rfl rfl bZ)))) rfl rfl) hl2 (fun s2 n2 oo2 h2 ho2 => ?_)
    unfold m15o_l1 at h2
    refine XC.seq <| XC.region <| rR rfl rfl rfl (RO.binInt rfl rfl rfl) <| XL.nil <| XQ.seq <| XC.seq ?_
    refine XC.cond (b := (decide (s2.1 < ((nn : Nat) : Int)))) rfl (fun c8 => ?_) (fun c8 => ?_)
    ·
     replace h2 := condT c8 h2
     refine XC.skip <| XQ.seq <| XC.seq <| XC.block <| XC.seq <| XC.region <| rM rfl rfl rfl ?_
     refine bindK h2 (fun x9 hx9 h2 => ?_)
     refine guardK h2 (fun g10 h2 => ?_)
     refine rR rfl rfl rfl (RO.indexO (α := Dcl) sl_22 rfl rfl hx9 g10) <| rR rfl rfl rfl (RO.loadOE (α := Dcl) (ys := [dI x9.kind, dS8 x9.name, dI x9.params, dI x9.ty.kind, dI x9.ty.index, dS8 x9.ty.name, dS x9.ty.levels, dS x9.ty.kids, dI x9.value.kind, dI x9.value.index, dS8 x9.value.name, dS x9.value.levels, dS x9.value.kids, dI x9.fixed, dS x9.ctors, dI x9.rcr.params, dI x9.rcr.ty.kind, dI x9.rcr.ty.index, dS8 x9.rcr.ty.name, dS x9.rcr.ty.levels, dS x9.rcr.ty.kids, dS x9.rcr.rules, dS x9.funs]) ag_48 rfl rfl hx9 rfl) <| XL.put rfl rfl (lb rfl) (OpOK.alloc z_48 rfl) <| rA rfl rfl rfl <| XL.eff rfl rfl (OpOK.storeCE (x9 : Dcl) ag_48 rfl rfl rfl rfl rfl) <| XL.nil <| XQ.seq <| XC.seq <| XC.region <| rR rfl rfl rfl (RO.loadCE (x9 : Dcl) ag_48 rfl rfl) ?_
     refine bindK h2 (fun x11 hx11 h2 => ?_)
     refine XL.put rfl rfl (lb rfl) (OpOK.callFun (m37_ok x9 x11 hx11) rfl (.cons (.agg (.cons (.d _) (.cons (.d _) (.cons (.d _) (.cons (.d _) (.cons (.d _) (.cons (.d _) (.cons (.d _) (.cons (.d _) (.cons (.d _) (.cons (.d _) (.cons (.d _) (.cons (.d _) (.cons (.d _) (.cons (.d _) (.cons (.d _) (.cons (.d _) (.cons (.d _) (.cons (.d _) (.cons (.d _) (.cons (.d _) (.cons (.d _) (.cons (.d _) (.cons (.d _) .nil)))))))))))))))))))))))) .nil)) <| rR rfl rfl rfl (RO.lenE (α := Bs) sl_23 rfl (.d _)) <| rM rfl rfl rfl <| XL.nil <| XQ.seq <| XC.block ?_
     refine XC.joinX 2 (fun (o12 : (GMap Bs Int)) => ⟨[(0, .v (.one (.osl 0 0 nn nn))), (2, .v (.one (.ptr 1 0))), (4, .v (.one (.ptr 3 0))), (20, .v (.one (.osl 0 0 nn nn))), (21, .v (.one (dI ((nn : Nat) : Int)))), (22, .v (.one (dI s2.1)))], [(0, .cells 48 (flatE a0)), (1, .cells 72 [dN, .d (.v (.map none))]), (2, .mp (gmE o12.1) o12.2), (3, .cells 72 [dN, .mp 2]), (4, .cells 48 (cE x9))], [], 5, 88, []⟩) (fun (o12 : (GMap Bs Int)) => (some (.next ((w64 (s2.1 + 1)), o12))) = some oo2) ?_ ?_
     ·
      refine bindK h2 (fun o13 hl3 h2 => ?_)
      refine XC.loopM (m15o_l0 x11 s2) (fun s3 => ⟨[(0, .v (.one (.osl 0 0 nn nn))), (2, .v (.one (.ptr 1 0))), (4, .v (.one (.ptr 3 0))), (5, .v (.one (dI s2.1))), (20, .v (.one (.osl 0 0 nn nn))), (21, .v (.one (dI ((nn : Nat) : Int)))), (22, .v (.one (dI s2.1))), (28, .v (.one (dS x11))), (29, .v (.one (dI (x11.length : Int)))), (30, .v (.one (dI s3.1)))], [(0, .cells 48 (flatE a0)), (1, .cells 72 [dN, .d (.v (.map none))]), (2, .mp (gmE s3.2.1) s3.2.2), (3, .cells 72 [dN, .mp 2]), (4, .cells 48 (cE x9))], [], 5, 88, []⟩) (0, s2.2) o13 (stle (tR rfl (tR rfl (tR rfl (tR rfl (tR rfl (tR rfl (tR rfl (tR rfl (tR rfl (tR rfl tZ)))))))))) (hR rfl (hR rfl (hR rfl (hR rfl (hR rfl hZ))))) kZ rfl (Nat.le_trans hv1 (lb rfl)) rfl rfl rfl (bF rfl (bB rfl rfl (bG rfl (bB rfl rfl (bB rfl rfl bZ))))) rfl rfl) hl3 (fun s3 n3 oo3 h3 ho3 => ?_)
      unfold m15o_l0 at h3
      refine XC.seq <| XC.region <| rR rfl rfl rfl (RO.binInt rfl rfl rfl) <| XL.nil <| XQ.seq <| XC.seq ?_
      refine XC.cond (b := (decide (s3.1 < (x11.length : Int)))) rfl (fun c14 => ?_) (fun c14 => ?_)
      ·
       replace h3 := condT c14 h3
       refine XC.skip <| XQ.seq <| XC.seq <| XC.block <| XC.seq <| XC.region ?_
       refine bindK h3 (fun x15 hx15 h3 => ?_)
       refine rR rfl rfl rfl (RO.indexE (α := Bs) sl_23 rfl (.d _) rfl hx15) <| rR rfl rfl rfl (RO.loadPel ag_9 rfl rfl) <| rA rfl rfl rfl <| XL.nil <| XQ.seq <| XC.seq <| XC.seq <| XC.region <| rR rfl rfl rfl (RO.fieldOwn fo_72_1 rfl) <| rR rfl rfl rfl (RO.loadOwn ag_70 rfl rfl rfl) <| rM rfl rfl rfl <| rR rfl rfl rfl (RO.lookupGT (M := s3.2) (k := x15) mp_70 zok_int rfl rfl rfl) <| rM rfl rfl rfl <| rR rfl rfl rfl (RO.extract rfl rfl) ?_
       refine rR rfl rfl rfl (RO.extract rfl rfl) <| rA rfl rfl rfl <| rA rfl rfl rfl <| XL.nil <| XQ.seq <| XC.seq <| XC.region <| rM rfl rfl rfl <| XL.nil <| XQ.seq ?_
       refine XC.cond (b := (gmHas s3.2 x15)) rfl (fun c16 => ?_) (fun c16 => ?_)
       ·
        replace h3 := condT c16 h3
        refine XC.seq <| XC.region <| rR rfl rfl rfl (RO.build0 bd_72 rfl ) <| XL.eff rfl rfl (OpOK.store ag_72 rfl rfl rfl rfl (lb rfl) rfl) <| rA rfl rfl rfl <| XL.nil <| XQ.seq <| XC.ret ?_
        have e_ := Option.some.inj h3
        subst e_
        have e_ : _ = _ := ho3
        subst e_
        try dsimp only [Sum.elim_inl, Sum.elim_inr] at h2
        have e_ := Option.some.inj h2
        subst e_
        have e_ : _ = _ := ho2
        subst e_
        try dsimp only [Sum.elim_inl, Sum.elim_inr] at h1
        have e_ := Option.some.inj h1
        subst e_
        exact hQ1 _ _ _ (.inr rfl) rfl (show StLe _ _ ⟨[(2, .v (.one (.ptr 1 0))), (3, .v (.one (dI 8)))], [(0, .cells 48 (flatE a0)), (1, .cells 72 [dN, .d (.v (.map none))])], [], 5, 88, []⟩ from (stle (tR rfl (tR rfl tZ)) (hR rfl (hR rfl hZ)) kZ rfl (Nat.le_trans hv1 (lb rfl)) rfl rfl rfl (bF rfl (bB rfl rfl bZ)) rfl rfl))
       ·
        replace h3 := condF c16 h3
        refine XC.skip <| XQ.seq <| XC.region <| rR rfl rfl rfl (RO.fieldOwn fo_72_1 rfl) <| rR rfl rfl rfl (RO.loadOwn ag_70 rfl rfl rfl) <| rM rfl rfl rfl <| rM rfl rfl rfl <| XL.eff rfl rfl (OpOK.mapSetG (M := s3.2) (k := x15) (v := s2.1) mp_70 rfl rfl rfl rfl rfl) <| XL.nil <| XQ.inBlock <| XQ.seq <| XC.region <| rR rfl rfl rfl (RO.binInt rfl rfl rfl) <| rM rfl rfl rfl ?_
        refine XL.nil ?_
        have e_ := Option.some.inj h3
        subst e_
        refine XQ.nextM ((w64 (s3.1 + 1)), (gmSet s3.2 x15 s2.1)) (stle (tR rfl (tR rfl (tR rfl (tR rfl (tR rfl (tR rfl (tR rfl (tR rfl (tR rfl (tR rfl tZ)))))))))) (hR rfl (hR rfl (hR rfl (hR rfl (hR rfl hZ))))) kZ rfl (Nat.le_trans hv1 (lb rfl)) rfl rfl rfl (bF rfl (bB rfl rfl (bG rfl (bB rfl rfl (bB rfl rfl bZ))))) rfl rfl) ho3
      ·
       replace h3 := condF c14 h3
       refine XC.exit <| XQ.thenE <| XQ.thenE ?_
       have e_ := Option.some.inj h3
       subst e_
       have e_ : _ = _ := ho3
       subst e_
       exact XQ.joinX s3.2 (stle (tR rfl (tR rfl (tR rfl (tR rfl (tR rfl (tR rfl tZ)))))) (hR rfl (hR rfl (hR rfl (hR rfl (hR rfl hZ))))) kZ rfl (Nat.le_trans hv1 (lb rfl)) rfl rfl rfl (bF rfl (bB rfl rfl (bG rfl (bB rfl rfl (bB rfl rfl bZ))))) rfl rfl) h2
     ·
      intro o12 h2
      refine XQ.blockX <| XQ.inBlock <| XQ.seq <| XC.region <| rR rfl rfl rfl (RO.binInt rfl rfl rfl) <| rM rfl rfl rfl <| XL.nil ?_
      have e_ := Option.some.inj h2
      subst e_
      refine XQ.nextM ((w64 (s2.1 + 1)), o12) (stle (tR rfl (tR rfl (tR rfl (tR rfl (tR rfl (tR rfl tZ)))))) (hR rfl (hR rfl (hR rfl (hR rfl hZ)))) kZ rfl (Nat.le_trans hv1 (lb rfl)) rfl rfl rfl (bF rfl (bB rfl rfl (bG rfl (bB rfl rfl bZ)))) rfl rfl) ho2
    ·
     replace h2 := condF c8 h2
     refine XC.exit <| XQ.thenE <| XQ.thenE ?_
     have e_ := Option.some.inj h2
     subst e_
     have e_ : _ = _ := ho2
     subst e_
     exact XQ.joinX s2.2 (stle (tR rfl (tR rfl (tR rfl tZ))) (hR rfl (hR rfl (hR rfl (hR rfl hZ)))) kZ rfl (Nat.le_trans hv1 (lb rfl)) rfl rfl rfl (bF rfl (bB rfl rfl (bG rfl (bB rfl rfl bZ)))) rfl rfl) h1
   ·
    intro o6 h1
    refine XQ.blockX <| XQ.seq <| XC.seq <| XC.seq <| XC.region <| rM rfl rfl rfl <| rR rfl rfl rfl (RO.lenOsl sl_22 rfl) <| rM rfl rfl rfl <| XL.nil <| XQ.seq <| XC.block ?_
    refine XC.joinX 4 (fun (o17 : (List (List Int))) => ⟨[(2, .v (.one (.ptr 1 0))), (4, .v (.one (.ptr 3 0)))], [(0, .cells 48 (flatE a0)), (1, .cells 72 [dN, .d (.v (.map none))]), (2, .mp (gmE o6.1) o6.2), (3, .cells 72 [dA 4 o17, .mp 2])], [(4, some ⟨54, 1, (Enc.encL o17).length, []⟩)], 5, 88, []⟩) (fun (o17 : (List (List Int))) => (some (.inl (o17, o6))) = some y5) ?_ ?_
    ·
     refine XC.adoptC (i := 3) (off := 0) 54 1 rfl rfl ?_
     refine bindK h1 (fun o18 hl2 h1 => ?_)
     refine XC.loopM (m15o_l3 nn a0 o6) (fun s2 => ⟨[(2, .v (.one (.ptr 1 0))), (4, .v (.one (.ptr 3 0))), (49, .v (.one (.osl 0 0 nn nn))), (50, .v (.one (dI ((nn : Nat) : Int)))), (51, .v (.one (dI s2.1)))], [(0, .cells 48 (flatE a0)), (1, .cells 72 [dN, .d (.v (.map none))]), (2, .mp (gmE o6.1) o6.2), (3, .cells 72 [dA 4 s2.2, .mp 2])], [(4, some ⟨54, 1, (Enc.encL s2.2).length, []⟩)], 5, 88, []⟩) (0, ([] : List (List Int))) o18 (stle (tR rfl (tR rfl (tR rfl (tR rfl (tR rfl tZ))))) (hR rfl (hR rfl (hR rfl (hR rfl hZ)))) (kR rfl kZ) rfl (Nat.le_trans hv1 (lb rfl)) rfl rfl rfl (bF rfl (bB rfl rfl (bG rfl (bB rfl rfl bZ)))) rfl rfl) hl2 (fun s2 n2 oo2 h2 ho2 => ?_)
     unfold m15o_l3 at h2
     refine XC.seq <| XC.region <| rR rfl rfl rfl (RO.binInt rfl rfl rfl) <| XL.nil <| XQ.seq <| XC.seq ?_
     refine XC.cond (b := (decide (s2.1 < ((nn : Nat) : Int)))) rfl (fun c19 => ?_) (fun c19 => ?_)
     ·
      replace h2 := condT c19 h2
      refine XC.skip <| XQ.seq <| XC.seq <| XC.block <| XC.seq <| XC.region ?_
      refine bindK h2 (fun x20 hx20 h2 => ?_)
      refine guardK h2 (fun g21 h2 => ?_)
      refine rR rfl rfl rfl (RO.indexO (α := Dcl) sl_22 rfl rfl hx20 g21) <| rR rfl rfl rfl (RO.loadOE (α := Dcl) (ys := [dI x20.kind, dS8 x20.name, dI x20.params, dI x20.ty.kind, dI x20.ty.index, dS8 x20.ty.name, dS x20.ty.levels, dS x20.ty.kids, dI x20.value.kind, dI x20.value.index, dS8 x20.value.name, dS x20.value.levels, dS x20.value.kids, dI x20.fixed, dS x20.ctors, dI x20.rcr.params, dI x20.rcr.ty.kind, dI x20.rcr.ty.index, dS8 x20.rcr.ty.name, dS x20.rcr.ty.levels, dS x20.rcr.ty.kids, dS x20.rcr.rules, dS x20.funs]) ag_48 rfl rfl hx20 rfl) <| XL.put rfl rfl (lb rfl) (OpOK.alloc z_48 rfl) <| XL.eff rfl rfl (OpOK.storeCE (x20 : Dcl) ag_48 rfl rfl rfl rfl rfl) <| XL.nil <| XQ.seq <| XC.seq <| XC.region <| rA rfl rfl rfl <| XL.nil <| XQ.seq <| XC.seq <| XC.seq <| XC.region ?_
      refine rR rfl rfl rfl (RO.loadCE (x20 : Dcl) ag_48 rfl rfl) ?_
      refine bindK h2 (fun x22 hx22 h2 => ?_)
      refine XL.put rfl rfl (lb rfl) (OpOK.callFun (m53_ok x20 x22 hx22) rfl (.cons (.agg (.cons (.d _) (.cons (.d _) (.cons (.d _) (.cons (.d _) (.cons (.d _) (.cons (.d _) (.cons (.d _) (.cons (.d _) (.cons (.d _) (.cons (.d _) (.cons (.d _) (.cons (.d _) (.cons (.d _) (.cons (.d _) (.cons (.d _) (.cons (.d _) (.cons (.d _) (.cons (.d _) (.cons (.d _) (.cons (.d _) (.cons (.d _) (.cons (.d _) (.cons (.d _) .nil)))))))))))))))))))))))) .nil)) <| rR rfl rfl rfl (RO.lenE (α := Bs) sl_23 rfl (.d _)) <| rM rfl rfl rfl <| XL.nil <| XQ.seq <| XC.block ?_
      refine XC.joinX 6 (fun (o23 : (List Int)) => ⟨[(2, .v (.one (.ptr 1 0))), (4, .v (.one (.ptr 3 0))), (13, .v (.one (.apv 6 1 ((Enc.encL o23).length) []))), (49, .v (.one (.osl 0 0 nn nn))), (50, .v (.one (dI ((nn : Nat) : Int)))), (51, .v (.one (dI s2.1)))], [(0, .cells 48 (flatE a0)), (1, .cells 72 [dN, .d (.v (.map none))]), (2, .mp (gmE o6.1) o6.2), (3, .cells 72 [dA 4 s2.2, .mp 2]), (5, .cells 48 (cE x20))], [(4, some ⟨54, 1, (Enc.encL s2.2).length, []⟩), (6, some ⟨3, 1, (Enc.encL o23).length, (Enc.encL o23).flatten⟩)], 7, 88, []⟩) (fun (o23 : (List Int)) => (Option.bind (sortF o23) fun (x24 : List Int) =>
        Option.bind (compactF x24 ((Enc.encL o23).length)) fun (x25 : List Int) =>
        guardO (Nat.ble (s2.2.length + ([x25]).length) 1000000000)
        (some (.next ((w64 (s2.1 + 1)), (s2.2 ++ ([x25])))))) = some oo2) ?_ ?_
      ·
       refine XC.adoptT (t := 13) 3 1 rfl <| XC.privT (α := Int) (t := 13) rfl rfl ?_
       refine bindK h2 (fun o24 hl3 h2 => ?_)
       refine XC.loopM (m15o_l2 x22 o6) (fun s3 => ⟨[(2, .v (.one (.ptr 1 0))), (4, .v (.one (.ptr 3 0))), (13, .v (.one (.apv 6 1 ((Enc.encL s3.1).length) []))), (49, .v (.one (.osl 0 0 nn nn))), (50, .v (.one (dI ((nn : Nat) : Int)))), (51, .v (.one (dI s2.1))), (56, .v (.one (dS x22))), (57, .v (.one (dI (x22.length : Int)))), (58, .v (.one (dI s3.2)))], [(0, .cells 48 (flatE a0)), (1, .cells 72 [dN, .d (.v (.map none))]), (2, .mp (gmE o6.1) o6.2), (3, .cells 72 [dA 4 s2.2, .mp 2]), (5, .cells 48 (cE x20))], [(4, some ⟨54, 1, (Enc.encL s2.2).length, []⟩), (6, some ⟨3, 1, (Enc.encL s3.1).length, (Enc.encL s3.1).flatten⟩)], 7, 88, []⟩) (([] : List Int), 0) o24 (stle (tR rfl (tR rfl (tR rfl (tR rfl (tR rfl (tR rfl (tR rfl (tR rfl (tR rfl tZ))))))))) (hR rfl (hR rfl (hR rfl (hR rfl (hR rfl hZ))))) (kR rfl (kR rfl kZ)) rfl (Nat.le_trans hv1 (lb rfl)) rfl rfl rfl (bF rfl (bB rfl rfl (bG rfl (bB rfl rfl (bB rfl rfl bZ))))) rfl rfl) hl3 (fun s3 n3 oo3 h3 ho3 => ?_)
       unfold m15o_l2 at h3
       refine XC.seq <| XC.region <| rR rfl rfl rfl (RO.binInt rfl rfl rfl) <| XL.nil <| XQ.seq <| XC.seq ?_
       refine XC.cond (b := (decide (s3.2 < (x22.length : Int)))) rfl (fun c25 => ?_) (fun c25 => ?_)
       ·
        replace h3 := condT c25 h3
        refine XC.skip <| XQ.seq <| XC.seq <| XC.block <| XC.seq <| XC.region ?_
        refine bindK h3 (fun x26 hx26 h3 => ?_)
        refine rR rfl rfl rfl (RO.indexE (α := Bs) sl_23 rfl (.d _) rfl hx26) <| rR rfl rfl rfl (RO.loadPel ag_9 rfl rfl) <| rA rfl rfl rfl <| XL.nil <| XQ.seq <| XC.seq <| XC.region <| rR rfl rfl rfl (RO.fieldOwn fo_72_1 rfl) <| rR rfl rfl rfl (RO.loadOwn ag_70 rfl rfl rfl) <| rM rfl rfl rfl <| rR rfl rfl rfl (RO.lookupGT (M := o6) (k := x26) mp_70 zok_int rfl rfl rfl) <| rM rfl rfl rfl <| rR rfl rfl rfl (RO.extract rfl rfl) <| rR rfl rfl rfl (RO.extract rfl rfl) ?_
        refine rA rfl rfl rfl <| rA rfl rfl rfl <| XL.nil <| XQ.seq <| XC.seq <| XC.seq <| XC.region <| rM rfl rfl rfl <| rR rfl rfl rfl (RO.not rfl) <| XL.nil <| XQ.seq ?_
        refine XC.cond (b := (!(gmHas o6 x26))) rfl (fun c27 => ?_) (fun c27 => ?_)
        ·
         replace h3 := condT c27 h3
         refine XC.seq <| XC.region <| rR rfl rfl rfl (RO.build0 bd_72 rfl ) <| XL.eff rfl rfl (OpOK.store ag_72 rfl rfl rfl rfl (lb rfl) rfl) <| rA rfl rfl rfl <| XL.nil <| XQ.seq <| XC.ret ?_
         have e_ := Option.some.inj h3
         subst e_
         have e_ : _ = _ := ho3
         subst e_
         try dsimp only [Sum.elim_inl, Sum.elim_inr] at h2
         have e_ := Option.some.inj h2
         subst e_
         have e_ : _ = _ := ho2
         subst e_
         try dsimp only [Sum.elim_inl, Sum.elim_inr] at h1
         have e_ := Option.some.inj h1
         subst e_
         exact hQ1 _ _ _ (.inr rfl) rfl (show StLe _ _ ⟨[(2, .v (.one (.ptr 1 0))), (3, .v (.one (dI 9)))], [(0, .cells 48 (flatE a0)), (1, .cells 72 [dN, .d (.v (.map none))])], [], 7, 88, []⟩ from (stle (tR rfl (tR rfl tZ)) (hR rfl (hR rfl hZ)) kZ rfl (Nat.le_trans hv1 (lb rfl)) rfl rfl rfl (bF rfl (bB rfl rfl bZ)) rfl rfl))
        ·
         replace h3 := condF c27 h3
         refine XC.skip <| XQ.seq <| XC.region <| rM rfl rfl rfl <| rM rfl rfl rfl <| XL.put rfl rfl (lb rfl) (OpOK.lit1E (α := Int) ((gmVal o6 x26)) sl_54 z_3 rfl rfl (lb rfl) (lb rfl) rfl rfl (.cons (.d _) .nil) rfl) ?_
         refine guardK h3 (fun g28 h3 => ?_)
         refine XL.put rfl rfl (lb rfl) (OpOK.appendPr (α := Int) (l := s3.1) (l2 := ([(gmVal o6 x26)] : List Int)) sl_54 el_3 rfl rfl rfl rfl (.app _ _) rfl g28) <| rA rfl rfl rfl <| XL.nil <| XQ.inBlock <| XQ.seq <| XC.region <| rR rfl rfl rfl (RO.binInt rfl rfl rfl) <| rM rfl rfl rfl <| XL.nil ?_
         have e_ := Option.some.inj h3
         subst e_
         refine XQ.nextM ((s3.1 ++ ([(gmVal o6 x26)])), (w64 (s3.2 + 1))) (stle (tR rfl (tR rfl (tR rfl (tR rfl (tR rfl (tR rfl (tR rfl (tR rfl (tR rfl tZ))))))))) (hR rfl (hR rfl (hR rfl (hR rfl (hR rfl hZ))))) (kR rfl (kR rfl kZ)) rfl (Nat.le_trans hv1 (lb rfl)) rfl rfl rfl (bF rfl (bB rfl rfl (bG rfl (bB rfl rfl (bB rfl rfl bZ))))) rfl rfl) ho3
       ·
        replace h3 := condF c25 h3
        refine XC.exit <| XQ.thenE <| XQ.thenE ?_
        have e_ := Option.some.inj h3
        subst e_
        have e_ : _ = _ := ho3
        subst e_
        exact XQ.joinX s3.1 (stle (tR rfl (tR rfl (tR rfl (tR rfl (tR rfl (tR rfl tZ)))))) (hR rfl (hR rfl (hR rfl (hR rfl (hR rfl hZ))))) (kR rfl (kR rfl kZ)) rfl (Nat.le_trans hv1 (lb rfl)) rfl rfl rfl (bF rfl (bB rfl rfl (bG rfl (bB rfl rfl (bB rfl rfl bZ))))) rfl rfl) h2
      ·
       intro o23 h2
       refine XQ.blockX <| XQ.seq <| XC.seq <| XC.region <| rM rfl rfl rfl ?_
       refine bindK h2 (fun x29 hx29 h2 => ?_)
       refine XL.put rfl rfl (lb rfl) (OpOK.callG (hp1' := []) (tk1' := [(6, some ⟨3, 1, (Enc.encL o23).length, (Enc.encL x29).flatten⟩)]) (hpF := [(0, .cells 48 (flatE a0)), (1, .cells 72 [dN, .d (.v (.map none))]), (2, .mp (gmE o6.1) o6.2), (3, .cells 72 [dA 4 s2.2, .mp 2]), (5, .cells 48 (cE x20))]) (tkF := [(4, some ⟨54, 1, (Enc.encL s2.2).length, []⟩)]) (res2 := resOf []) (nx2 := 7) [6] rfl rfl (sortF_ok o23 x29 hx29) rfl rfl qZ rfl rfl gZ (jR rfl jZ) (hR rfl (hR rfl (hR rfl (hR rfl (hR rfl hZ))))) (kR rfl kZ) rfl rfl rfl rfl rfl bZ rfl rfl rfl rfl) <| XL.nil <| XQ.seq ?_
       refine XC.anyRun [3, 5, 7] [(0, 1), (1, 1)] mixed (by kernel_rfl) (by kernel_rfl) (by kernel_rfl) ?_
       refine RunA.rd rfl rfl rfl (OpOK.of_ro (RO.fieldOwn fo_72_0 rfl)) rfl <| RunA.rd rfl rfl rfl (OpOK.of_ro (RO.loadOwn ag_57 rfl rfl rfl)) rfl <| RunA.rd rfl rfl rfl (OpOK.of_ro (RO.move rfl)) rfl ?_
       refine bindK h2 (fun x30 hx30 h2 => ?_)
       refine RunA.eff rfl rfl rfl (OpOK.callG (hp1' := []) (tk1' := [(7, some ⟨3, 1, (Enc.encL x30).length, []⟩)]) (hpF := [(0, .cells 48 (flatE a0)), (1, .cells 72 [dN, .d (.v (.map none))]), (2, .mp (gmE o6.1) o6.2), (3, .cells 72 [dA 4 s2.2, .mp 2]), (5, .cells 48 (cE x20))]) (tkF := [(4, some ⟨54, 1, (Enc.encL s2.2).length, []⟩)]) (res2 := resOf [.one (dA 7 x30)]) (nx2 := 8) [6] rfl rfl (compactF_ok x29 ((Enc.encL o23).length) x30 hx30) rfl rfl qZ rfl rfl gZ (jR rfl jZ) (hR rfl (hR rfl (hR rfl (hR rfl (hR rfl hZ))))) (kR rfl kZ) rfl rfl rfl rfl rfl bZ rfl rfl rfl rfl) rfl <| RunA.rd rfl rfl rfl (OpOK.data1E (α := List Int) (x30) sl_57 z_54 rfl rfl (lb rfl) rfl rfl (.cons (.app _ _ _) .nil) rfl) rfl ?_
       refine guardK h2 (fun g31 h2 => ?_)
       refine RunA.eff rfl rfl rfl (OpOK.appendE (α := List Int) sl_57 el_54 rfl rfl rfl rfl rfl (.d _) g31) rfl <| RunA.rd rfl rfl rfl (OpOK.of_ro (RO.fieldOwn fo_72_0 rfl)) rfl <| RunA.eff rfl rfl rfl (OpOK.store ag_57 rfl rfl rfl rfl (lb rfl) rfl) rfl ?_
       refine RunA.nil ⟨?ex, _, _, rfl, ?_⟩
       case ex => exact ⟨⟨_, rfl, _, _, rfl, rfl, rfl, .inl ⟨rfl, _, OpOK.of_ro (RO.fieldOwn fo_72_0 rfl), rfl⟩⟩, ⟨_, rfl, _, _, rfl, rfl, rfl, .inl ⟨rfl, _, OpOK.of_ro (RO.loadOwn ag_57 rfl rfl rfl), rfl⟩⟩, trivial⟩
       refine XQ.less (st' := ⟨[(2, .v (.one (.ptr 1 0))), (4, .v (.one (.ptr 3 0))), (49, .v (.one (.osl 0 0 nn nn))), (50, .v (.one (dI ((nn : Nat) : Int)))), (51, .v (.one (dI s2.1)))], [(0, .cells 48 (flatE a0)), (1, .cells 72 [dN, .d (.v (.map none))]), (2, .mp (gmE o6.1) o6.2), (3, .cells 72 [dA 4 ((s2.2 ++ ([x30])) : List (List Int)), .mp 2]), (5, .cells 48 (cE x20))], [(4, some ⟨54, 1, (Enc.encL ((s2.2 ++ ([x30])) : List (List Int))).length, []⟩), (7, some ⟨3, 1, (Enc.encL x30).length, []⟩)], 8, 88, []⟩) (stle (tR rfl (tR rfl (tR rfl (tR rfl (tR rfl tZ))))) (hR rfl (hR rfl (hR rfl (hR rfl (hR rfl hZ))))) (kR rfl (kR rfl kZ)) rfl (Nat.le_trans hv1 (lb rfl)) rfl rfl rfl (bF rfl (bB rfl rfl (bG rfl (bB rfl rfl (bB rfl rfl bZ))))) rfl rfl) <| XQ.inBlock <| XQ.seq <| XC.region <| rR rfl rfl rfl (RO.binInt rfl rfl rfl) <| rM rfl rfl rfl <| XL.nil ?_
       have e_ := Option.some.inj h2
       subst e_
       refine XQ.nextM ((w64 (s2.1 + 1)), (s2.2 ++ ([x30]))) (stle (tR rfl (tR rfl (tR rfl (tR rfl (tR rfl tZ))))) (hR rfl (hR rfl (hR rfl (hR rfl hZ)))) (kR rfl kZ) rfl (Nat.le_trans hv1 (lb rfl)) rfl rfl rfl (bF rfl (bB rfl rfl (bG rfl (bB rfl rfl bZ)))) rfl rfl) ho2
     ·
      replace h2 := condF c19 h2
      refine XC.exit <| XQ.thenE <| XQ.thenE ?_
      have e_ := Option.some.inj h2
      subst e_
      have e_ : _ = _ := ho2
      subst e_
      exact XQ.joinX s2.2 (stle (tR rfl (tR rfl tZ)) (hR rfl (hR rfl (hR rfl (hR rfl hZ)))) (kR rfl kZ) rfl (Nat.le_trans hv1 (lb rfl)) rfl rfl rfl (bF rfl (bB rfl rfl (bG rfl (bB rfl rfl bZ)))) rfl rfl) h1
    ·
     intro o17 h1
     refine XQ.blockX <| XQ.seq <| XC.seq <| XC.region <| rR rfl rfl rfl (RO.loadOwnAgg ag_72 rfl rfl rfl rfl) <| XL.eff rfl rfl (OpOK.store ag_72 rfl rfl rfl rfl (lb rfl) rfl) <| rA rfl rfl rfl <| XL.nil <| XQ.seq <| XC.ret ?_
     have e_ := Option.some.inj h1
     subst e_
     exact hQ1 _ _ _ (.inr rfl) rfl (show StLe _ _ ⟨[(2, .v (.one (.ptr 1 0))), (3, .v (.one (dI 0)))], [(0, .cells 48 (flatE a0)), (1, .cells 72 [dA 4 o17, .mp 2]), (2, .mp (gmE o6.1) o6.2)], [(4, some ⟨54, 1, (Enc.encL o17).length, []⟩)], 5, 88, []⟩ from (stle (tR rfl (tR rfl tZ)) (hR rfl (hR rfl (hR rfl hZ))) (kR rfl kZ) rfl (Nat.le_trans hv1 (lb rfl)) rfl rfl rfl (bF rfl (bB rfl rfl (bG rfl bZ))) rfl rfl))
  refine sumK (C := fun q_ => CallM Try.prog 34 [.one (.osl 0 0 nn nn)] ⟨[(0, .cells 48 (flatE a0))], [], 1⟩ (resOf (((Sum.elim (fun (y1 : (List (List Int)) × (GMap Bs Int)) => ([.agg [dA 4 y1.1, .mp 2], .one (dI 0)] : List AV)) (Sum.elim (fun (y2 : Unit) => ([.agg [dN, .d (.v (.map none))], .one (dI 8)] : List AV)) (fun (y3 : Unit) => ([.agg [dN, .d (.v (.map none))], .one (dI 9)] : List AV))))) q_)) ⟨(((Sum.elim (fun (y1 : (List (List Int)) × (GMap Bs Int)) => (⟨[(2, .v (.one (.ptr 1 0))), (3, .v (.one (dI 0)))], [(0, .cells 48 (flatE a0)), (1, .cells 72 [dA 4 y1.1, .mp 2]), (2, .mp (gmE y1.2.1) y1.2.2)], [(4, some ⟨54, 1, (Enc.encL y1.1).length, []⟩)], 5, 88, []⟩ : St)) (Sum.elim (fun (y2 : Unit) => (⟨[(2, .v (.one (.ptr 1 0))), (3, .v (.one (dI 8)))], [(0, .cells 48 (flatE a0)), (1, .cells 72 [dN, .d (.v (.map none))])], [], 5, 88, []⟩ : St)) (fun (y3 : Unit) => (⟨[(2, .v (.one (.ptr 1 0))), (3, .v (.one (dI 9)))], [(0, .cells 48 (flatE a0)), (1, .cells 72 [dN, .d (.v (.map none))])], [], 7, 88, []⟩ : St))))) q_).hp, (((Sum.elim (fun (y1 : (List (List Int)) × (GMap Bs Int)) => (⟨[(2, .v (.one (.ptr 1 0))), (3, .v (.one (dI 0)))], [(0, .cells 48 (flatE a0)), (1, .cells 72 [dA 4 y1.1, .mp 2]), (2, .mp (gmE y1.2.1) y1.2.2)], [(4, some ⟨54, 1, (Enc.encL y1.1).length, []⟩)], 5, 88, []⟩ : St)) (Sum.elim (fun (y2 : Unit) => (⟨[(2, .v (.one (.ptr 1 0))), (3, .v (.one (dI 8)))], [(0, .cells 48 (flatE a0)), (1, .cells 72 [dN, .d (.v (.map none))])], [], 5, 88, []⟩ : St)) (fun (y3 : Unit) => (⟨[(2, .v (.one (.ptr 1 0))), (3, .v (.one (dI 9)))], [(0, .cells 48 (flatE a0)), (1, .cells 72 [dN, .d (.v (.map none))])], [], 7, 88, []⟩ : St))))) q_).tk, (((Sum.elim (fun (y1 : (List (List Int)) × (GMap Bs Int)) => (⟨[(2, .v (.one (.ptr 1 0))), (3, .v (.one (dI 0)))], [(0, .cells 48 (flatE a0)), (1, .cells 72 [dA 4 y1.1, .mp 2]), (2, .mp (gmE y1.2.1) y1.2.2)], [(4, some ⟨54, 1, (Enc.encL y1.1).length, []⟩)], 5, 88, []⟩ : St)) (Sum.elim (fun (y2 : Unit) => (⟨[(2, .v (.one (.ptr 1 0))), (3, .v (.one (dI 8)))], [(0, .cells 48 (flatE a0)), (1, .cells 72 [dN, .d (.v (.map none))])], [], 5, 88, []⟩ : St)) (fun (y3 : Unit) => (⟨[(2, .v (.one (.ptr 1 0))), (3, .v (.one (dI 9)))], [(0, .cells 48 (flatE a0)), (1, .cells 72 [dN, .d (.v (.map none))])], [], 7, 88, []⟩ : St))))) q_).nx⟩) hc4 h0 (fun y1 hc4 h0 => ?_) (fun z_ hc4 h0 => sumK (C := fun q_ => CallM Try.prog 34 [.one (.osl 0 0 nn nn)] ⟨[(0, .cells 48 (flatE a0))], [], 1⟩ (resOf (((Sum.elim (fun (y1 : (List (List Int)) × (GMap Bs Int)) => ([.agg [dA 4 y1.1, .mp 2], .one (dI 0)] : List AV)) (Sum.elim (fun (y2 : Unit) => ([.agg [dN, .d (.v (.map none))], .one (dI 8)] : List AV)) (fun (y3 : Unit) => ([.agg [dN, .d (.v (.map none))], .one (dI 9)] : List AV))))) (.inr q_))) ⟨(((Sum.elim (fun (y1 : (List (List Int)) × (GMap Bs Int)) => (⟨[(2, .v (.one (.ptr 1 0))), (3, .v (.one (dI 0)))], [(0, .cells 48 (flatE a0)), (1, .cells 72 [dA 4 y1.1, .mp 2]), (2, .mp (gmE y1.2.1) y1.2.2)], [(4, some ⟨54, 1, (Enc.encL y1.1).length, []⟩)], 5, 88, []⟩ : St)) (Sum.elim (fun (y2 : Unit) => (⟨[(2, .v (.one (.ptr 1 0))), (3, .v (.one (dI 8)))], [(0, .cells 48 (flatE a0)), (1, .cells 72 [dN, .d (.v (.map none))])], [], 5, 88, []⟩ : St)) (fun (y3 : Unit) => (⟨[(2, .v (.one (.ptr 1 0))), (3, .v (.one (dI 9)))], [(0, .cells 48 (flatE a0)), (1, .cells 72 [dN, .d (.v (.map none))])], [], 7, 88, []⟩ : St))))) (.inr q_)).hp, (((Sum.elim (fun (y1 : (List (List Int)) × (GMap Bs Int)) => (⟨[(2, .v (.one (.ptr 1 0))), (3, .v (.one (dI 0)))], [(0, .cells 48 (flatE a0)), (1, .cells 72 [dA 4 y1.1, .mp 2]), (2, .mp (gmE y1.2.1) y1.2.2)], [(4, some ⟨54, 1, (Enc.encL y1.1).length, []⟩)], 5, 88, []⟩ : St)) (Sum.elim (fun (y2 : Unit) => (⟨[(2, .v (.one (.ptr 1 0))), (3, .v (.one (dI 8)))], [(0, .cells 48 (flatE a0)), (1, .cells 72 [dN, .d (.v (.map none))])], [], 5, 88, []⟩ : St)) (fun (y3 : Unit) => (⟨[(2, .v (.one (.ptr 1 0))), (3, .v (.one (dI 9)))], [(0, .cells 48 (flatE a0)), (1, .cells 72 [dN, .d (.v (.map none))])], [], 7, 88, []⟩ : St))))) (.inr q_)).tk, (((Sum.elim (fun (y1 : (List (List Int)) × (GMap Bs Int)) => (⟨[(2, .v (.one (.ptr 1 0))), (3, .v (.one (dI 0)))], [(0, .cells 48 (flatE a0)), (1, .cells 72 [dA 4 y1.1, .mp 2]), (2, .mp (gmE y1.2.1) y1.2.2)], [(4, some ⟨54, 1, (Enc.encL y1.1).length, []⟩)], 5, 88, []⟩ : St)) (Sum.elim (fun (y2 : Unit) => (⟨[(2, .v (.one (.ptr 1 0))), (3, .v (.one (dI 8)))], [(0, .cells 48 (flatE a0)), (1, .cells 72 [dN, .d (.v (.map none))])], [], 5, 88, []⟩ : St)) (fun (y3 : Unit) => (⟨[(2, .v (.one (.ptr 1 0))), (3, .v (.one (dI 9)))], [(0, .cells 48 (flatE a0)), (1, .cells 72 [dN, .d (.v (.map none))])], [], 7, 88, []⟩ : St))))) (.inr q_)).nx⟩) hc4 h0 (fun y2 hc4 h0 => ?_) (fun y3 hc4 h0 => ?_))
  ·
   replace hc4 : CallM Try.prog 34 [.one (.osl 0 0 nn nn)] ⟨[(0, .cells 48 (flatE a0))], [], 1⟩ (resOf [.agg [dA 4 y1.1, .mp 2], .one (dI 0)]) ⟨[(0, .cells 48 (flatE a0)), (1, .cells 72 [dA 4 y1.1, .mp 2]), (2, .mp (gmE y1.2.1) y1.2.2)], [(4, some ⟨54, 1, (Enc.encL y1.1).length, []⟩)], 5⟩ := hc4
   refine XL.put rfl rfl (lb rfl) (OpOK.callW rfl rfl rfl hc4 rfl (hR rfl hZ) kZ) <| rM rfl rfl rfl <| rR rfl rfl rfl (RO.extract rfl rfl) <| rR rfl rfl rfl (RO.extract rfl rfl) <| XL.put rfl rfl (lb rfl) (OpOK.alloc z_72 rfl) <| XL.eff rfl rfl (OpOK.store ag_72 rfl rfl rfl rfl (lb rfl) rfl) <| rA rfl rfl rfl <| XL.nil <| XQ.seq <| XC.seq <| XC.seq <| XC.region <| rM rfl rfl rfl <| rR rfl rfl rfl (RO.binInt rfl rfl rfl) ?_
   refine XL.nil <| XQ.seq ?_
   refine XC.cond rfl (fun h => nomatch h) (fun _ => ?_)
   refine XC.skip <| XQ.seq <| XC.seq <| XC.region <| rR rfl rfl rfl (RO.loadOwnAgg ag_72 rfl rfl rfl rfl) <| rR rfl rfl rfl (RO.fieldOwn fo_72_0 rfl) <| rR rfl rfl rfl (RO.loadOwn ag_57 rfl rfl rfl) <| rM rfl rfl rfl ?_
   refine bindK h0 (fun y35 h1 h0 => ?_)
   have hc34 : CallM Try.prog 35 [.agg [dA 4 y1.1, .mp 2], .one (dA 4 y1.1), .one (dS a1)] ⟨[(0, .cells 48 (flatE a0)), (1, .cells 72 [dA 4 y1.1, .mp 2]), (2, .mp (gmE y1.2.1) y1.2.2), (5, .cells 72 [dA 4 y1.1, .mp 2])], [(4, some ⟨54, 1, (Enc.encL y1.1).length, []⟩)], 6⟩ (resOf (((Sum.elim (fun (y32 : Unit) => ([.one (dN), .one (dI 9)] : List AV)) (fun (y33 : (List Bool)) => ([.one (.osl 8 0 ((y1.1.length : Int).toNat) ((y1.1.length : Int).toNat)), .one (dI 0)] : List AV)))) y35)) ⟨(((Sum.elim (fun (y32 : Unit) => (⟨[(6, .v (.one (dN))), (7, .v (.one (dI 9)))], [(0, .cells 48 (flatE a0)), (1, .cells 72 [dA 4 y1.1, .mp 2]), (2, .mp (gmE y1.2.1) y1.2.2), (5, .cells 72 [dA 4 y1.1, .mp 2])], [(4, some ⟨54, 1, (Enc.encL y1.1).length, []⟩)], 11, 38, []⟩ : St)) (fun (y33 : (List Bool)) => (⟨[(6, .v (.one (.osl 8 0 ((y1.1.length : Int).toNat) ((y1.1.length : Int).toNat)))), (7, .v (.one (dI 0)))], [(0, .cells 48 (flatE a0)), (1, .cells 72 [dA 4 y1.1, .mp 2]), (2, .mp (gmE y1.2.1) y1.2.2), (5, .cells 72 [dA 4 y1.1, .mp 2]), (8, .cells 4 (flatE y33))], [(4, some ⟨54, 1, (Enc.encL y1.1).length, []⟩)], 11, 38, []⟩ : St)))) y35).hp, (((Sum.elim (fun (y32 : Unit) => (⟨[(6, .v (.one (dN))), (7, .v (.one (dI 9)))], [(0, .cells 48 (flatE a0)), (1, .cells 72 [dA 4 y1.1, .mp 2]), (2, .mp (gmE y1.2.1) y1.2.2), (5, .cells 72 [dA 4 y1.1, .mp 2])], [(4, some ⟨54, 1, (Enc.encL y1.1).length, []⟩)], 11, 38, []⟩ : St)) (fun (y33 : (List Bool)) => (⟨[(6, .v (.one (.osl 8 0 ((y1.1.length : Int).toNat) ((y1.1.length : Int).toNat)))), (7, .v (.one (dI 0)))], [(0, .cells 48 (flatE a0)), (1, .cells 72 [dA 4 y1.1, .mp 2]), (2, .mp (gmE y1.2.1) y1.2.2), (5, .cells 72 [dA 4 y1.1, .mp 2]), (8, .cells 4 (flatE y33))], [(4, some ⟨54, 1, (Enc.encL y1.1).length, []⟩)], 11, 38, []⟩ : St)))) y35).tk, (((Sum.elim (fun (y32 : Unit) => (⟨[(6, .v (.one (dN))), (7, .v (.one (dI 9)))], [(0, .cells 48 (flatE a0)), (1, .cells 72 [dA 4 y1.1, .mp 2]), (2, .mp (gmE y1.2.1) y1.2.2), (5, .cells 72 [dA 4 y1.1, .mp 2])], [(4, some ⟨54, 1, (Enc.encL y1.1).length, []⟩)], 11, 38, []⟩ : St)) (fun (y33 : (List Bool)) => (⟨[(6, .v (.one (.osl 8 0 ((y1.1.length : Int).toNat) ((y1.1.length : Int).toNat)))), (7, .v (.one (dI 0)))], [(0, .cells 48 (flatE a0)), (1, .cells 72 [dA 4 y1.1, .mp 2]), (2, .mp (gmE y1.2.1) y1.2.2), (5, .cells 72 [dA 4 y1.1, .mp 2]), (8, .cells 4 (flatE y33))], [(4, some ⟨54, 1, (Enc.encL y1.1).length, []⟩)], 11, 38, []⟩ : St)))) y35).nx⟩ := by
    refine CallM.of_bodyT y35 ((Sum.elim (fun (y32 : Unit) => (⟨[(6, .v (.one (dN))), (7, .v (.one (dI 9)))], [(0, .cells 48 (flatE a0)), (1, .cells 72 [dA 4 y1.1, .mp 2]), (2, .mp (gmE y1.2.1) y1.2.2), (5, .cells 72 [dA 4 y1.1, .mp 2])], [(4, some ⟨54, 1, (Enc.encL y1.1).length, []⟩)], 11, 38, []⟩ : St)) (fun (y33 : (List Bool)) => (⟨[(6, .v (.one (.osl 8 0 ((y1.1.length : Int).toNat) ((y1.1.length : Int).toNat)))), (7, .v (.one (dI 0)))], [(0, .cells 48 (flatE a0)), (1, .cells 72 [dA 4 y1.1, .mp 2]), (2, .mp (gmE y1.2.1) y1.2.2), (5, .cells 72 [dA 4 y1.1, .mp 2]), (8, .cells 4 (flatE y33))], [(4, some ⟨54, 1, (Enc.encL y1.1).length, []⟩)], 11, 38, []⟩ : St)))) ((Sum.elim (fun (y32 : Unit) => ([.one (dN), .one (dI 9)] : List AV)) (fun (y33 : (List Bool)) => ([.one (.osl 8 0 ((y1.1.length : Int).toNat) ((y1.1.length : Int).toNat)), .one (dI 0)] : List AV)))) rfl rfl en_35 (lb rfl) (fun z_ => by cases z_ <;> rfl) (fun z_ => by cases z_ with
      | inl _ => exact (RAs.tmp rfl (RAs.tmp rfl .nil))
      | inr _ => exact (RAs.tmp rfl (RAs.tmp rfl .nil))) (fun w0 M V0 Q hv1 hQ1 => ?_)
    simp only [entry]
    refine XC.seq <| XC.region <| XL.put rfl rfl (lb rfl) (OpOK.box rfl) <| XL.put rfl rfl (lb rfl) (OpOK.box rfl) <| rA rfl rfl rfl <| rA rfl rfl rfl <| XL.nil <| XQ.seq <| XC.seq <| XC.region <| rR rfl rfl rfl (RO.loadOwn ag_57 rfl rfl rfl) <| rR rfl rfl rfl (RO.lenE (α := List Int) sl_57 rfl (.app _ _)) ?_
    refine guardK h1 (fun g36 h1 => ?_)
    refine XL.put rfl rfl (lb rfl) (OpOK.makeO (α := Bool) (z := false) sl_75 z_4 rfl rfl el_4 rfl rfl g36 rfl (by repeat (first | exact CLs.nil | refine CLs.cons (by first | exact .refl _ | exact .sub (.app _ _ _) | exact .sub (.nil _)) ?_))) ?_
    refine XL.put rfl rfl (lb rfl) (OpOK.alloc z_75 rfl) <| XL.eff rfl rfl (OpOK.store ag_75 rfl rfl rfl rfl (lb rfl) rfl) <| XL.nil <| XQ.seq <| XC.seq <| XC.region <| XL.put rfl rfl (lb rfl) (OpOK.alloc z_106 rfl) <| XL.nil <| XQ.seq <| XC.seq <| XC.region <| rR rfl rfl rfl (RO.makeFunc3 rfl rfl rfl) <| XL.eff rfl rfl (OpOK.store ag_106 rfl rfl rfl rfl (lb rfl) rfl) <| XL.nil ?_
    refine XQ.seq <| XC.seq <| XC.seq <| XC.region <| rM rfl rfl rfl <| rR rfl rfl rfl (RO.lenE (α := Bs) sl_23 rfl (.d _)) <| rM rfl rfl rfl <| XL.nil <| XQ.seq <| XC.block ?_
    refine XC.joinX 0 (fun (o37 : (List Bool)) => ⟨[(8, .v (.one (.ptr 9 0)))], [(0, .cells 48 (flatE a0)), (1, .cells 72 [dA 4 y1.1, .mp 2]), (2, .mp (gmE y1.2.1) y1.2.2), (5, .cells 72 [dA 4 y1.1, .mp 2]), (6, .cells 72 [dA 4 y1.1, .mp 2]), (7, .cells 57 [dA 4 y1.1]), (8, .cells 4 (flatE o37)), (9, .cells 75 [.osl 8 0 ((y1.1.length : Int).toNat) ((y1.1.length : Int).toNat)]), (10, .cells 106 [.fn 56 [(9, 0), (7, 0), (10, 0)]])], [(4, some ⟨54, 1, (Enc.encL y1.1).length, []⟩)], 11, 38, []⟩) (fun (o37 : (List Bool)) => (some (.inr o37)) = some y35) ?_ ?_
    ·
     refine bindK h1 (fun o38 hl2 h1 => ?_)
     refine XC.loopM (m15o_l4 a1 y1) (fun s2 => ⟨[(3, .v (.one (.ptr 6 0))), (8, .v (.one (.ptr 9 0))), (9, .v (.one (.ptr 10 0))), (18, .v (.one (dS a1))), (19, .v (.one (dI (a1.length : Int)))), (20, .v (.one (dI s2.1)))], [(0, .cells 48 (flatE a0)), (1, .cells 72 [dA 4 y1.1, .mp 2]), (2, .mp (gmE y1.2.1) y1.2.2), (5, .cells 72 [dA 4 y1.1, .mp 2]), (6, .cells 72 [dA 4 y1.1, .mp 2]), (7, .cells 57 [dA 4 y1.1]), (8, .cells 4 (flatE s2.2)), (9, .cells 75 [.osl 8 0 ((y1.1.length : Int).toNat) ((y1.1.length : Int).toNat)]), (10, .cells 106 [.fn 56 [(9, 0), (7, 0), (10, 0)]])], [(4, some ⟨54, 1, (Enc.encL y1.1).length, []⟩)], 11, 38, []⟩) (0, (List.replicate (y1.1.length : Int).toNat false)) o38 (stle (tR rfl (tR rfl (tR rfl (tR rfl (tR rfl (tR rfl tZ)))))) (hR rfl (hR rfl (hR rfl (hR rfl (hR rfl (hR rfl (hR rfl (hR rfl (hR rfl hZ))))))))) (kR rfl kZ) rfl (Nat.le_trans hv1 (lb rfl)) rfl rfl rfl (bF rfl (bB rfl rfl (bG rfl (bB rfl rfl (bB rfl rfl (bB rfl rfl (bF rfl (bB rfl rfl (bB rfl rfl bZ))))))))) rfl rfl) hl2 (fun s2 n2 oo2 h2 ho2 => ?_)
     unfold m15o_l4 at h2
     refine XC.seq <| XC.region <| rR rfl rfl rfl (RO.binInt rfl rfl rfl) <| XL.nil <| XQ.seq <| XC.seq ?_
     refine XC.cond (b := (decide (s2.1 < (a1.length : Int)))) rfl (fun c39 => ?_) (fun c39 => ?_)
     ·
      replace h2 := condT c39 h2
      refine XC.skip <| XQ.seq <| XC.seq <| XC.block <| XC.seq <| XC.region ?_
      refine bindK h2 (fun x40 hx40 h2 => ?_)
      refine rR rfl rfl rfl (RO.indexE (α := Bs) sl_23 rfl (.d _) rfl hx40) <| rR rfl rfl rfl (RO.loadPel ag_9 rfl rfl) <| rA rfl rfl rfl <| XL.nil <| XQ.seq <| XC.seq <| XC.region <| rR rfl rfl rfl (RO.fieldOwn fo_72_1 rfl) <| rR rfl rfl rfl (RO.loadOwn ag_70 rfl rfl rfl) <| rM rfl rfl rfl <| rR rfl rfl rfl (RO.lookupGT (M := y1.2) (k := x40) mp_70 zok_int rfl rfl rfl) <| rM rfl rfl rfl <| rR rfl rfl rfl (RO.extract rfl rfl) <| rR rfl rfl rfl (RO.extract rfl rfl) ?_
      refine rA rfl rfl rfl <| rA rfl rfl rfl <| XL.nil <| XQ.seq <| XC.seq <| XC.seq <| XC.region <| rM rfl rfl rfl <| rR rfl rfl rfl (RO.not rfl) <| XL.nil <| XQ.seq ?_
      refine XC.cond (b := (!(gmHas y1.2 x40))) rfl (fun c41 => ?_) (fun c41 => ?_)
      ·
       replace h2 := condT c41 h2
       refine XC.seq <| XC.region <| rA rfl rfl rfl <| rA rfl rfl rfl <| XL.nil <| XQ.seq <| XC.ret ?_
       have e_ := Option.some.inj h2
       subst e_
       have e_ : _ = _ := ho2
       subst e_
       try dsimp only [Sum.elim_inl, Sum.elim_inr] at h1
       have e_ := Option.some.inj h1
       subst e_
       exact hQ1 _ _ _ (.inr rfl) rfl (show StLe _ _ ⟨[(6, .v (.one (dN))), (7, .v (.one (dI 9)))], [(0, .cells 48 (flatE a0)), (1, .cells 72 [dA 4 y1.1, .mp 2]), (2, .mp (gmE y1.2.1) y1.2.2), (5, .cells 72 [dA 4 y1.1, .mp 2])], [(4, some ⟨54, 1, (Enc.encL y1.1).length, []⟩)], 11, 38, []⟩ from (stle (tR rfl (tR rfl tZ)) (hR rfl (hR rfl (hR rfl (hR rfl hZ)))) (kR rfl kZ) rfl (Nat.le_trans hv1 (lb rfl)) rfl rfl rfl (bF rfl (bB rfl rfl (bG rfl (bB rfl rfl bZ)))) rfl rfl))
      ·
       replace h2 := condF c41 h2
       refine XC.skip <| XQ.seq <| XC.region <| rR rfl rfl rfl (RO.loadOwn ag_106 rfl rfl rfl) <| rM rfl rfl rfl ?_
       refine bindK h2 (fun x42 hx42 h2 => ?_)
       refine XL.put rfl rfl (lb rfl) (OpOK.callG (hp1' := [(9, .cells 75 [.osl 8 0 ((y1.1.length : Int).toNat) ((y1.1.length : Int).toNat)]), (8, .cells 4 (flatE x42)), (7, .cells 57 [dA 4 y1.1]), (10, .cells 106 [.fn 56 [(9, 0), (7, 0), (10, 0)]])]) (tk1' := [(4, some ⟨54, 1, (Enc.encL y1.1).length, []⟩)]) (hpF := [(0, .cells 48 (flatE a0)), (1, .cells 72 [dA 4 y1.1, .mp 2]), (2, .mp (gmE y1.2.1) y1.2.2), (5, .cells 72 [dA 4 y1.1, .mp 2]), (6, .cells 72 [dA 4 y1.1, .mp 2])]) (tkF := []) (res2 := resOf []) (nx2 := 11) [9, 8, 7, 4, 10] rfl rfl (m56f11_ok (gmVal y1.2 x40) ((y1.1.length : Int).toNat) s2.2 y1.1 x42 hx42) rfl rfl (qB rfl rfl (qF rfl (qB rfl rfl (qB rfl rfl qZ)))) rfl rfl (gR rfl (gF rfl (gR rfl (gR rfl gZ)))) (jR rfl jZ) (hR rfl (hR rfl (hR rfl (hR rfl (hR rfl hZ))))) kZ rfl rfl rfl rfl rfl (bB rfl rfl (bF rfl (bB rfl rfl (bB rfl rfl bZ)))) rfl rfl rfl rfl) <| XL.nil <| XQ.inBlock <| XQ.seq <| XC.region <| rR rfl rfl rfl (RO.binInt rfl rfl rfl) <| rM rfl rfl rfl <| XL.nil ?_
       have e_ := Option.some.inj h2
       subst e_
       refine XQ.nextM ((w64 (s2.1 + 1)), x42) (stle (tR rfl (tR rfl (tR rfl (tR rfl (tR rfl (tR rfl tZ)))))) (hR rfl (hR rfl (hR rfl (hR rfl (hR rfl (hR rfl (hR rfl (hR rfl (hR rfl hZ))))))))) (kR rfl kZ) rfl (Nat.le_trans hv1 (lb rfl)) rfl rfl rfl (bF rfl (bB rfl rfl (bG rfl (bB rfl rfl (bB rfl rfl (bB rfl rfl (bF rfl (bB rfl rfl (bB rfl rfl bZ))))))))) rfl rfl) ho2
     ·
      replace h2 := condF c39 h2
      refine XC.exit <| XQ.thenE <| XQ.thenE ?_
      have e_ := Option.some.inj h2
      subst e_
      have e_ : _ = _ := ho2
      subst e_
      exact XQ.joinX s2.2 (stle (tR rfl tZ) (hR rfl (hR rfl (hR rfl (hR rfl (hR rfl (hR rfl (hR rfl (hR rfl (hR rfl hZ))))))))) (kR rfl kZ) rfl (Nat.le_trans hv1 (lb rfl)) rfl rfl rfl (bF rfl (bB rfl rfl (bG rfl (bB rfl rfl (bB rfl rfl (bB rfl rfl (bF rfl (bB rfl rfl (bB rfl rfl bZ))))))))) rfl rfl) h1
    ·
     intro o37 h1
     refine XQ.blockX <| XQ.seq <| XC.seq <| XC.region <| rR rfl rfl rfl (RO.loadOwn ag_75 rfl rfl rfl) <| rA rfl rfl rfl <| rA rfl rfl rfl <| XL.nil <| XQ.seq <| XC.ret ?_
     have e_ := Option.some.inj h1
     subst e_
     exact hQ1 _ _ _ (.inr rfl) rfl (show StLe _ _ ⟨[(6, .v (.one (.osl 8 0 ((y1.1.length : Int).toNat) ((y1.1.length : Int).toNat)))), (7, .v (.one (dI 0)))], [(0, .cells 48 (flatE a0)), (1, .cells 72 [dA 4 y1.1, .mp 2]), (2, .mp (gmE y1.2.1) y1.2.2), (5, .cells 72 [dA 4 y1.1, .mp 2]), (8, .cells 4 (flatE o37))], [(4, some ⟨54, 1, (Enc.encL y1.1).length, []⟩)], 11, 38, []⟩ from (stle (tR rfl (tR rfl tZ)) (hR rfl (hR rfl (hR rfl (hR rfl (hR rfl hZ))))) (kR rfl kZ) rfl (Nat.le_trans hv1 (lb rfl)) rfl rfl rfl (bF rfl (bB rfl rfl (bG rfl (bB rfl rfl (bF rfl bZ))))) rfl rfl))
   refine sumK (C := fun q_ => CallM Try.prog 35 [.agg [dA 4 y1.1, .mp 2], .one (dA 4 y1.1), .one (dS a1)] ⟨[(0, .cells 48 (flatE a0)), (1, .cells 72 [dA 4 y1.1, .mp 2]), (2, .mp (gmE y1.2.1) y1.2.2), (5, .cells 72 [dA 4 y1.1, .mp 2])], [(4, some ⟨54, 1, (Enc.encL y1.1).length, []⟩)], 6⟩ (resOf (((Sum.elim (fun (y32 : Unit) => ([.one (dN), .one (dI 9)] : List AV)) (fun (y33 : (List Bool)) => ([.one (.osl 8 0 ((y1.1.length : Int).toNat) ((y1.1.length : Int).toNat)), .one (dI 0)] : List AV)))) q_)) ⟨(((Sum.elim (fun (y32 : Unit) => (⟨[(6, .v (.one (dN))), (7, .v (.one (dI 9)))], [(0, .cells 48 (flatE a0)), (1, .cells 72 [dA 4 y1.1, .mp 2]), (2, .mp (gmE y1.2.1) y1.2.2), (5, .cells 72 [dA 4 y1.1, .mp 2])], [(4, some ⟨54, 1, (Enc.encL y1.1).length, []⟩)], 11, 38, []⟩ : St)) (fun (y33 : (List Bool)) => (⟨[(6, .v (.one (.osl 8 0 ((y1.1.length : Int).toNat) ((y1.1.length : Int).toNat)))), (7, .v (.one (dI 0)))], [(0, .cells 48 (flatE a0)), (1, .cells 72 [dA 4 y1.1, .mp 2]), (2, .mp (gmE y1.2.1) y1.2.2), (5, .cells 72 [dA 4 y1.1, .mp 2]), (8, .cells 4 (flatE y33))], [(4, some ⟨54, 1, (Enc.encL y1.1).length, []⟩)], 11, 38, []⟩ : St)))) q_).hp, (((Sum.elim (fun (y32 : Unit) => (⟨[(6, .v (.one (dN))), (7, .v (.one (dI 9)))], [(0, .cells 48 (flatE a0)), (1, .cells 72 [dA 4 y1.1, .mp 2]), (2, .mp (gmE y1.2.1) y1.2.2), (5, .cells 72 [dA 4 y1.1, .mp 2])], [(4, some ⟨54, 1, (Enc.encL y1.1).length, []⟩)], 11, 38, []⟩ : St)) (fun (y33 : (List Bool)) => (⟨[(6, .v (.one (.osl 8 0 ((y1.1.length : Int).toNat) ((y1.1.length : Int).toNat)))), (7, .v (.one (dI 0)))], [(0, .cells 48 (flatE a0)), (1, .cells 72 [dA 4 y1.1, .mp 2]), (2, .mp (gmE y1.2.1) y1.2.2), (5, .cells 72 [dA 4 y1.1, .mp 2]), (8, .cells 4 (flatE y33))], [(4, some ⟨54, 1, (Enc.encL y1.1).length, []⟩)], 11, 38, []⟩ : St)))) q_).tk, (((Sum.elim (fun (y32 : Unit) => (⟨[(6, .v (.one (dN))), (7, .v (.one (dI 9)))], [(0, .cells 48 (flatE a0)), (1, .cells 72 [dA 4 y1.1, .mp 2]), (2, .mp (gmE y1.2.1) y1.2.2), (5, .cells 72 [dA 4 y1.1, .mp 2])], [(4, some ⟨54, 1, (Enc.encL y1.1).length, []⟩)], 11, 38, []⟩ : St)) (fun (y33 : (List Bool)) => (⟨[(6, .v (.one (.osl 8 0 ((y1.1.length : Int).toNat) ((y1.1.length : Int).toNat)))), (7, .v (.one (dI 0)))], [(0, .cells 48 (flatE a0)), (1, .cells 72 [dA 4 y1.1, .mp 2]), (2, .mp (gmE y1.2.1) y1.2.2), (5, .cells 72 [dA 4 y1.1, .mp 2]), (8, .cells 4 (flatE y33))], [(4, some ⟨54, 1, (Enc.encL y1.1).length, []⟩)], 11, 38, []⟩ : St)))) q_).nx⟩) hc34 h0 (fun y32 hc34 h0 => ?_) (fun y33 hc34 h0 => ?_)
   ·
    replace hc34 : CallM Try.prog 35 [.agg [dA 4 y1.1, .mp 2], .one (dA 4 y1.1), .one (dS a1)] ⟨[(0, .cells 48 (flatE a0)), (1, .cells 72 [dA 4 y1.1, .mp 2]), (2, .mp (gmE y1.2.1) y1.2.2), (5, .cells 72 [dA 4 y1.1, .mp 2])], [(4, some ⟨54, 1, (Enc.encL y1.1).length, []⟩)], 6⟩ (resOf [.one (dN), .one (dI 9)]) ⟨[(0, .cells 48 (flatE a0)), (1, .cells 72 [dA 4 y1.1, .mp 2]), (2, .mp (gmE y1.2.1) y1.2.2), (5, .cells 72 [dA 4 y1.1, .mp 2])], [(4, some ⟨54, 1, (Enc.encL y1.1).length, []⟩)], 11⟩ := hc34
    refine XL.put rfl rfl (lb rfl) (OpOK.callW rfl rfl rfl hc34 rfl (hR rfl (hR rfl (hR rfl (hR rfl hZ)))) (kR rfl kZ)) <| rM rfl rfl rfl <| rR rfl rfl rfl (RO.extract rfl rfl) <| rR rfl rfl rfl (RO.extract rfl rfl) <| rA rfl rfl rfl <| rA rfl rfl rfl <| XL.nil <| XQ.seq <| XC.seq <| XC.seq <| XC.region <| rM rfl rfl rfl <| rR rfl rfl rfl (RO.binInt rfl rfl rfl) <| XL.nil ?_
    refine XQ.seq ?_
    refine XC.cond rfl (fun _ => ?_) (fun h => nomatch h)
    refine XC.seq <| XC.region <| rM rfl rfl rfl <| rA rfl rfl rfl <| rA rfl rfl rfl <| XL.nil <| XQ.seq <| XC.ret ?_
    have e_ := Option.some.inj h0
    subst e_
    exact hQ0 _ _ _ (.inr rfl) rfl (stle (tC rfl (.sub (.nil _)) (tR rfl tZ)) (hR rfl hZ) kZ rfl (Nat.le_trans hv0 (lb rfl)) rfl rfl rfl (bF rfl bZ) rfl rfl)
   ·
    replace hc34 : CallM Try.prog 35 [.agg [dA 4 y1.1, .mp 2], .one (dA 4 y1.1), .one (dS a1)] ⟨[(0, .cells 48 (flatE a0)), (1, .cells 72 [dA 4 y1.1, .mp 2]), (2, .mp (gmE y1.2.1) y1.2.2), (5, .cells 72 [dA 4 y1.1, .mp 2])], [(4, some ⟨54, 1, (Enc.encL y1.1).length, []⟩)], 6⟩ (resOf [.one (.osl 8 0 ((y1.1.length : Int).toNat) ((y1.1.length : Int).toNat)), .one (dI 0)]) ⟨[(0, .cells 48 (flatE a0)), (1, .cells 72 [dA 4 y1.1, .mp 2]), (2, .mp (gmE y1.2.1) y1.2.2), (5, .cells 72 [dA 4 y1.1, .mp 2]), (8, .cells 4 (flatE y33))], [(4, some ⟨54, 1, (Enc.encL y1.1).length, []⟩)], 11⟩ := hc34
    refine XL.put rfl rfl (lb rfl) (OpOK.callW rfl rfl rfl hc34 rfl (hR rfl (hR rfl (hR rfl (hR rfl hZ)))) (kR rfl kZ)) <| rM rfl rfl rfl <| rR rfl rfl rfl (RO.extract rfl rfl) <| rR rfl rfl rfl (RO.extract rfl rfl) <| rA rfl rfl rfl <| rA rfl rfl rfl <| XL.nil <| XQ.seq <| XC.seq <| XC.seq <| XC.region <| rM rfl rfl rfl <| rR rfl rfl rfl (RO.binInt rfl rfl rfl) <| XL.nil ?_
    refine XQ.seq ?_
    refine XC.cond rfl (fun h => nomatch h) (fun _ => ?_)
    refine XC.skip <| XQ.seq <| XC.seq <| XC.region <| rA rfl rfl rfl <| XL.nil <| XQ.seq <| XC.seq <| XC.seq <| XC.region <| rM rfl rfl rfl <| rR rfl rfl rfl (RO.lenOsl sl_22 rfl) <| rM rfl rfl rfl <| XL.nil ?_
    refine XQ.seq <| XC.block ?_
    refine XC.joinX 0 (fun (o43 : (List Dcl)) => ⟨[(9, .v (.one (dA 11 o43)))], [(0, .cells 48 (flatE a0)), (1, .cells 72 [dA 4 y1.1, .mp 2]), (2, .mp (gmE y1.2.1) y1.2.2), (5, .cells 72 [dA 4 y1.1, .mp 2]), (8, .cells 4 (flatE y33))], [(4, some ⟨54, 1, (Enc.encL y1.1).length, []⟩), (11, some ⟨48, 23, (Enc.encL o43).length, []⟩)], 12, 48, []⟩) (fun (o43 : (List Dcl)) => (some (o43, 0)) = some r) ?_ ?_
    ·
     refine XC.adoptT (t := 9) 48 23 rfl ?_
     refine bindK h0 (fun o44 hl1 h0 => ?_)
     refine XC.loopM (m15o_l5 nn a0 y33 y1) (fun s1 => ⟨[(8, .v (.one (.osl 8 0 ((y1.1.length : Int).toNat) ((y1.1.length : Int).toNat)))), (9, .v (.one (dA 11 s1.1))), (31, .v (.one (.osl 0 0 nn nn))), (32, .v (.one (dI ((nn : Nat) : Int)))), (33, .v (.one (dI s1.2)))], [(0, .cells 48 (flatE a0)), (1, .cells 72 [dA 4 y1.1, .mp 2]), (2, .mp (gmE y1.2.1) y1.2.2), (5, .cells 72 [dA 4 y1.1, .mp 2]), (8, .cells 4 (flatE y33))], [(4, some ⟨54, 1, (Enc.encL y1.1).length, []⟩), (11, some ⟨48, 23, (Enc.encL s1.1).length, []⟩)], 12, 48, []⟩) (([] : List Dcl), 0) o44 (stle (tR rfl (tR rfl (tR rfl (tR rfl (tR rfl tZ))))) (hR rfl (hR rfl (hR rfl (hR rfl (hR rfl hZ))))) (kR rfl (kR rfl kZ)) rfl (Nat.le_trans hv0 (lb rfl)) rfl rfl rfl (bF rfl (bB rfl rfl (bG rfl (bB rfl rfl (bF rfl bZ))))) rfl rfl) hl1 (fun s1 n1 oo1 h1 ho1 => ?_)
     unfold m15o_l5 at h1
     refine XC.seq <| XC.region <| rR rfl rfl rfl (RO.binInt rfl rfl rfl) <| XL.nil <| XQ.seq <| XC.seq ?_
     refine XC.cond (b := (decide (s1.2 < ((nn : Nat) : Int)))) rfl (fun c45 => ?_) (fun c45 => ?_)
     ·
      replace h1 := condT c45 h1
      refine XC.skip <| XQ.seq <| XC.seq <| XC.block <| XC.seq <| XC.region <| rM rfl rfl rfl ?_
      refine bindK h1 (fun x46 hx46 h1 => ?_)
      refine guardK h1 (fun g47 h1 => ?_)
      refine rR rfl rfl rfl (RO.indexO (α := Dcl) sl_22 rfl rfl hx46 g47) <| rR rfl rfl rfl (RO.loadOE (α := Dcl) (ys := [dI x46.kind, dS8 x46.name, dI x46.params, dI x46.ty.kind, dI x46.ty.index, dS8 x46.ty.name, dS x46.ty.levels, dS x46.ty.kids, dI x46.value.kind, dI x46.value.index, dS8 x46.value.name, dS x46.value.levels, dS x46.value.kids, dI x46.fixed, dS x46.ctors, dI x46.rcr.params, dI x46.rcr.ty.kind, dI x46.rcr.ty.index, dS8 x46.rcr.ty.name, dS x46.rcr.ty.levels, dS x46.rcr.ty.kids, dS x46.rcr.rules, dS x46.funs]) ag_48 rfl rfl hx46 rfl) <| XL.put rfl rfl (lb rfl) (OpOK.alloc z_48 rfl) <| rA rfl rfl rfl <| XL.eff rfl rfl (OpOK.storeCE (x46 : Dcl) ag_48 rfl rfl rfl rfl rfl) <| XL.nil <| XQ.seq <| XC.seq <| XC.region <| rM rfl rfl rfl <| rM rfl rfl rfl ?_
      refine bindK h1 (fun x48 hx48 h1 => ?_)
      refine guardK h1 (fun g49 h1 => ?_)
      refine rR rfl rfl rfl (RO.indexO (α := Bool) sl_75 rfl rfl hx48 g49) <| rR rfl rfl rfl (RO.loadOF (α := Bool) (m := s1.2) (f := 0) ag_4 rfl rfl hx48 rfl) <| XL.nil <| XQ.seq ?_
      refine XC.cond (b := x48) rfl (fun c50 => ?_) (fun c50 => ?_)
      ·
       replace h1 := condT c50 h1
       refine XC.region <| rM rfl rfl rfl <| rR rfl rfl rfl (RO.loadCE (x46 : Dcl) ag_48 rfl rfl) <| XL.put rfl rfl (lb rfl) (OpOK.lit1CE (x46 : Dcl) sl_22 z_48 rfl rfl (lb rfl) rfl) ?_
       refine guardK h1 (fun g51 h1 => ?_)
       refine XL.put rfl rfl (lb rfl) (OpOK.appendE (α := Dcl) sl_22 el_48 rfl rfl rfl rfl rfl (.app _ _) g51) <| rA rfl rfl rfl <| XL.nil <| XQ.inBlock <| XQ.seq <| XC.region <| rR rfl rfl rfl (RO.binInt rfl rfl rfl) <| rM rfl rfl rfl <| XL.nil ?_
       have e_ := Option.some.inj h1
       subst e_
       refine XQ.nextM ((s1.1 ++ ([x46])), (w64 (s1.2 + 1))) (stle (tR rfl (tR rfl (tR rfl (tR rfl (tR rfl tZ))))) (hR rfl (hR rfl (hR rfl (hR rfl (hR rfl hZ))))) (kR rfl (kR rfl kZ)) rfl (Nat.le_trans hv0 (lb rfl)) rfl rfl rfl (bF rfl (bB rfl rfl (bG rfl (bB rfl rfl (bF rfl bZ))))) rfl rfl) ho1
      ·
       replace h1 := condF c50 h1
       refine XC.skip <| XQ.inBlock <| XQ.seq <| XC.region <| rR rfl rfl rfl (RO.binInt rfl rfl rfl) <| rM rfl rfl rfl <| XL.nil ?_
       have e_ := Option.some.inj h1
       subst e_
       refine XQ.nextM (s1.1, (w64 (s1.2 + 1))) (stle (tR rfl (tR rfl (tR rfl (tR rfl (tR rfl tZ))))) (hR rfl (hR rfl (hR rfl (hR rfl (hR rfl hZ))))) (kR rfl (kR rfl kZ)) rfl (Nat.le_trans hv0 (lb rfl)) rfl rfl rfl (bF rfl (bB rfl rfl (bG rfl (bB rfl rfl (bF rfl bZ))))) rfl rfl) ho1
     ·
      replace h1 := condF c45 h1
      refine XC.exit <| XQ.thenE <| XQ.thenE ?_
      have e_ := Option.some.inj h1
      subst e_
      have e_ : _ = _ := ho1
      subst e_
      exact XQ.joinX s1.1 (stle (tR rfl tZ) (hR rfl (hR rfl (hR rfl (hR rfl (hR rfl hZ))))) (kR rfl (kR rfl kZ)) rfl (Nat.le_trans hv0 (lb rfl)) rfl rfl rfl (bF rfl (bB rfl rfl (bG rfl (bB rfl rfl (bF rfl bZ))))) rfl rfl) h0
    ·
     intro o43 h0
     refine XQ.blockX <| XQ.seq <| XC.seq <| XC.region <| rM rfl rfl rfl <| rA rfl rfl rfl <| rA rfl rfl rfl <| XL.nil <| XQ.seq <| XC.ret ?_
     have e_ := Option.some.inj h0
     subst e_
     exact hQ0 _ _ _ (.inr rfl) rfl (stle (tC rfl (.sub (.app _ _ _)) (tR rfl tZ)) (hR rfl hZ) kZ rfl (Nat.le_trans hv0 (lb rfl)) rfl rfl rfl (bF rfl bZ) rfl rfl)
  ·
   replace hc4 : CallM Try.prog 34 [.one (.osl 0 0 nn nn)] ⟨[(0, .cells 48 (flatE a0))], [], 1⟩ (resOf [.agg [dN, .d (.v (.map none))], .one (dI 8)]) ⟨[(0, .cells 48 (flatE a0)), (1, .cells 72 [dN, .d (.v (.map none))])], [], 5⟩ := hc4
   refine XL.put rfl rfl (lb rfl) (OpOK.callW rfl rfl rfl hc4 rfl (hR rfl hZ) kZ) <| rM rfl rfl rfl <| rR rfl rfl rfl (RO.extract rfl rfl) <| rR rfl rfl rfl (RO.extract rfl rfl) <| XL.put rfl rfl (lb rfl) (OpOK.alloc z_72 rfl) <| XL.eff rfl rfl (OpOK.store ag_72 rfl rfl rfl rfl (lb rfl) rfl) <| rA rfl rfl rfl <| XL.nil <| XQ.seq <| XC.seq <| XC.seq <| XC.region <| rM rfl rfl rfl <| rR rfl rfl rfl (RO.binInt rfl rfl rfl) ?_
   refine XL.nil <| XQ.seq ?_
   refine XC.cond rfl (fun _ => ?_) (fun h => nomatch h)
   refine XC.seq <| XC.region <| rM rfl rfl rfl <| rA rfl rfl rfl <| rA rfl rfl rfl <| XL.nil <| XQ.seq <| XC.ret ?_
   have e_ := Option.some.inj h0
   subst e_
   exact hQ0 _ _ _ (.inr rfl) rfl (stle (tC rfl (.sub (.nil _)) (tR rfl tZ)) (hR rfl hZ) kZ rfl (Nat.le_trans hv0 (lb rfl)) rfl rfl rfl (bF rfl bZ) rfl rfl)
  ·
   replace hc4 : CallM Try.prog 34 [.one (.osl 0 0 nn nn)] ⟨[(0, .cells 48 (flatE a0))], [], 1⟩ (resOf [.agg [dN, .d (.v (.map none))], .one (dI 9)]) ⟨[(0, .cells 48 (flatE a0)), (1, .cells 72 [dN, .d (.v (.map none))])], [], 7⟩ := hc4
   refine XL.put rfl rfl (lb rfl) (OpOK.callW rfl rfl rfl hc4 rfl (hR rfl hZ) kZ) <| rM rfl rfl rfl <| rR rfl rfl rfl (RO.extract rfl rfl) <| rR rfl rfl rfl (RO.extract rfl rfl) <| XL.put rfl rfl (lb rfl) (OpOK.alloc z_72 rfl) <| XL.eff rfl rfl (OpOK.store ag_72 rfl rfl rfl rfl (lb rfl) rfl) <| rA rfl rfl rfl <| XL.nil <| XQ.seq <| XC.seq <| XC.seq <| XC.region <| rM rfl rfl rfl <| rR rfl rfl rfl (RO.binInt rfl rfl rfl) ?_
   refine XL.nil <| XQ.seq ?_
   refine XC.cond rfl (fun _ => ?_) (fun h => nomatch h)
   refine XC.seq <| XC.region <| rM rfl rfl rfl <| rA rfl rfl rfl <| rA rfl rfl rfl <| XL.nil <| XQ.seq <| XC.ret ?_
   have e_ := Option.some.inj h0
   subst e_
   exact hQ0 _ _ _ (.inr rfl) rfl (stle (tC rfl (.sub (.nil _)) (tR rfl tZ)) (hR rfl hZ) kZ rfl (Nat.le_trans hv0 (lb rfl)) rfl rfl rfl (bF rfl bZ) rfl rfl)
end Go.Proofs.Ytijcchddnnnmdaa
namespace Go.Proofs.Ytijcchddnnnmdaa
open Go.RowKit
set_option linter.unusedSimpArgs false
set_option linter.unusedVariables false
set_option linter.unusedSectionVars false
def rowCell (base : Nat) (es : List (List Int)) (k : Nat) : CA := .app (base + k % 1000) 1 (Enc.encL (es.getD k []))
def rowCells (base : Nat) (es : List (List Int)) : List CA := (List.range es.length).map (rowCell base es)
def rowToks (base : Nat) (es : List (List Int)) : List (Nat × Option Tok) := (List.range (min es.length 1000)).map fun k => (base + k % 1000, some ⟨3, 1, (Enc.encL (es.getD k [])).length, []⟩)
theorem rowCells_get {base : Nat} {es : List (List Int)} {k : Nat} {row : List Int} (h : es[k]? = some row) : (rowCells base es)[k]? = some (.app (base + k % 1000) 1 (Enc.encL row)) := by
  have hlt := (List.getElem?_eq_some_iff.1 h).1
  have e1 : es.getD k [] = row := by rw [List.getD_eq_getElem?_getD, h]; rfl
  simp only [rowCells, rowCell, List.getElem?_map, List.getElem?_range hlt, Option.map_some, e1]
theorem rowCells_len (base : Nat) (es : List (List Int)) : (rowCells base es).length = es.length := by simp [rowCells]
theorem rowCells_set {base : Nat} {es : List (List Int)} {k : Nat} {row : List Int} (hk : k < es.length) : (rowCells base es).set k (.app (base + k % 1000) 1 (Enc.encL row)) = rowCells base (es.set k row) := by
  apply List.ext_getElem?
  intro j
  rw [List.getElem?_set, rowCells_len]
  by_cases hj : k = j
  · subst hj
    rw [if_pos rfl, if_pos hk, rowCells_get (row := row) (by rw [List.getElem?_set, if_pos rfl, if_pos hk])]
  · rw [if_neg hj]
    cases h : es[j]? with
    | none =>
      have h1 : es.length ≤ j := List.getElem?_eq_none_iff.1 h
      rw [List.getElem?_eq_none (by rw [rowCells_len]; exact h1), List.getElem?_eq_none (by rw [rowCells_len, List.length_set]; exact h1)]
    | some r => rw [rowCells_get h, rowCells_get (row := r) (by rw [List.getElem?_set, if_neg hj]; exact h)]
theorem lk_rangeMap {α : Type} (f : Nat → Nat) (v : Nat → α) : ∀ (l : List Nat) (k : Nat), k ∈ l → (∀ a ∈ l, f a = f k → a = k) → lk (l.map fun a => (f a, v a)) (f k) = some (v k)
  | a :: l, k, hk, hi => by
    rw [List.map_cons, lk_cons]
    by_cases h : f a = f k
    · rw [if_pos h, hi a List.mem_cons_self h]
    · rw [if_neg h]
      have : k ∈ l := (List.mem_cons.1 hk).resolve_left fun e => h (by rw [e])
      exact lk_rangeMap f v l k this fun b hb => hi b (List.mem_cons_of_mem _ hb)
theorem rowToks_get {base : Nat} {es : List (List Int)} {k : Nat} {row : List Int} (h : es[k]? = some row) (hl : es.length ≤ 1000) : lk (rowToks base es) (base + k % 1000) = some (some ⟨3, 1, (Enc.encL row).length, []⟩) := by
  have hlt := (List.getElem?_eq_some_iff.1 h).1
  have e1 : es.getD k [] = row := by rw [List.getD_eq_getElem?_getD, h]; rfl
  have := lk_rangeMap (fun a => base + a % 1000) (fun a => (some ⟨3, 1, (Enc.encL (es.getD a [])).length, []⟩ : Option Tok)) (List.range (min es.length 1000)) k (List.mem_range.2 (by omega)) (fun a ha e => by
    have := List.mem_range.1 ha
    rw [Nat.mod_eq_of_lt (by omega), Nat.mod_eq_of_lt (by omega)] at e
    omega)
  rw [e1] at this
  exact this
theorem rowToks_all (base nx : Nat) (es : List (List Int)) (h : Nat.ble (base + 1000) nx = true) : ((rowToks base es).all fun p => Nat.blt p.1 nx) = true := by
  have h1 := Nat.le_of_ble_eq_true h
  refine List.all_eq_true.2 fun p hp => ?_
  obtain ⟨k, -, rfl⟩ := List.mem_map.1 hp
  have : k % 1000 < 1000 := Nat.mod_lt _ (by decide)
  exact Nat.ble_eq_true_of_le (by dsimp only; omega)
theorem rowCells_below (base nx : Nat) (es : List (List Int)) (h : Nat.ble (base + 1000) nx = true) : ∀ x ∈ rowCells base es, x.below nx := fun x hx => by
  have h1 := Nat.le_of_ble_eq_true h
  obtain ⟨k, -, rfl⟩ := List.mem_map.1 hx
  have : k % 1000 < 1000 := Nat.mod_lt _ (by decide)
  show base + k % 1000 < nx
  omega
abbrev nilC : CA := .d (.v (.slice none 0 0))
theorem getD_rep {α : Type} (n k : Nat) : (List.replicate n ([] : List α)).getD k [] = [] := by
  rw [List.getD_eq_getElem?_getD, List.getElem?_replicate]
  split <;> rfl
theorem rowCells_rep (base n : Nat) : rowCells base (List.replicate (n + 1) []) = rowCells base (List.replicate n []) ++ [.app (base + n % 1000) 1 []] := by
  unfold rowCells rowCell
  rw [List.length_replicate, List.length_replicate, List.range_succ, List.map_append]
  congr 1
  · exact List.map_congr_left fun k hk => by rw [getD_rep, getD_rep]
  · rw [List.map_singleton, getD_rep]; rfl
theorem rowToks_rep (base n : Nat) (hn : n < 1000) : rowToks base (List.replicate (n + 1) []) = rowToks base (List.replicate n []) ++ [(base + n % 1000, some ⟨3, 1, 0, []⟩)] := by
  unfold rowToks
  rw [List.length_replicate, List.length_replicate, Nat.min_eq_left (by omega), Nat.min_eq_left (by omega), List.range_succ, List.map_append]
  congr 1
  · exact List.map_congr_left fun k hk => by rw [getD_rep, getD_rep]
  · rw [List.map_singleton, getD_rep]; rfl
theorem HRel.adoptRows {E : Env} {V : Vu} {hp : List (Nat × HB)} {tk : List (Nat × Option Tok)} {w : World} (H : HRel E V hp tk w) {i : Nat} {T : TypeId} (n : Nat) (hn : n ≤ 1000) (hi : lk hp i = some (.cells T (List.replicate n nilC))) :
    ∀ k, k ≤ n → ∃ V', HRel E V' ((i, .cells T (rowCells V.nx (List.replicate k []) ++ List.replicate (n - k) nilC)) :: hp) (rowToks V.nx (List.replicate k [])) w ∧ V.Le V' w w ∧ V'.nx = V.nx + k := by
  intro k
  induction k with
  | zero =>
    intro _
    refine ⟨V, H.forget (fun j B hj => ?_) (fun j T hj => ?_), Vu.Le.refl V w, rfl⟩
    · rw [lk_cons] at hj
      split at hj
      · rename_i e1; subst e1; rw [hi]; rw [← hj]; rfl
      · exact hj
    · cases hj
  | succ k ih =>
    intro hk
    obtain ⟨V', H1, L1, hn1⟩ := ih (by omega)
    have hl : (rowCells V.nx (List.replicate k [])).length = k := by rw [rowCells_len, List.length_replicate]
    obtain ⟨H2, L2⟩ := H1.adoptC (i := i) (off := k) (T := T) 3 1 (by rw [lk_cons, if_pos rfl]) (by rw [List.getElem?_append_right (by omega), hl, Nat.sub_self, List.getElem?_replicate, if_pos (by omega)])
    refine ⟨_, H2.forget (fun j B hj => ?_) (fun j T' hj => ?_), L1.trans L2, ?_⟩
    · rw [lk_cons] at hj ⊢
      split at hj
      · rename_i e1
        rw [if_pos e1, ← hj]
        congr 2
        rw [rowCells_rep, List.set_append_right _ _ (by omega), hl, Nat.sub_self, show n - k = (n - (k + 1)) + 1 by omega, List.replicate_succ, List.set_cons_zero, hn1, Nat.mod_eq_of_lt (by omega)]
        simp
      · rename_i e1
        rw [if_neg e1, lk_cons, if_neg e1]; exact hj
    · rw [rowToks_rep _ _ (by omega), lk_app] at hj
      rw [lk_cons, hn1]
      split at hj
      · rename_i x hx
        have : j < V.nx + k := by
          obtain ⟨q, hq, e1⟩ := List.mem_map.1 (lk_memF hx)
          have hq2 := List.mem_range.1 hq
          rw [List.length_replicate, Nat.min_eq_left (by omega)] at hq2
          have e2 := (Prod.mk.inj e1).1
          rw [Nat.mod_eq_of_lt (by omega)] at e2
          omega
        rw [if_neg (by omega)]
        rw [← hj]; exact hx
      · rw [lk_cons] at hj
        split at hj
        · rename_i e1
          rw [Nat.mod_eq_of_lt (by omega)] at e1
          rw [if_pos e1]; exact hj
        · cases hj
    · show max V'.nx (V'.nx + 1) = _
      omega
section
variable {E : Env} {st : St} {dd : Option Tmp} {ty : TypeId} {pos : String} {af : Array Edge} {g : Option (Nat × Bool)}
theorem zeroRow_nil (n : Nat) : zeroRow [.slice none 0 0] n = List.replicate n nilC := by
  apply List.ext_getElem?
  intro k
  simp only [zeroRow, List.getElem?_map, List.getElem?_replicate, List.length_singleton, Nat.mul_one]
  by_cases hk : k < n
  · rw [List.getElem?_range hk, if_pos hk]
    simp [Nat.mod_one]
  · rw [List.getElem?_eq_none (by simpa using hk), if_neg hk]; rfl
theorem OpOK.makeRows {t e by_ : Nat} {o1 o2 : Operand} {m : Int} (ht : tySlice E.P t = some (e, 1)) (hze : tyZero E.P e = some [.slice none 0 0]) (hel : tyElem E.P e = some (1, by_)) (hb : Nat.ble by_ 1000000 = true)
    (h1 : ev st.tm o1 = some (TI m)) (h2 : ev st.tm o2 = some (TI m)) (hm : (cond (decide (0 ≤ m)) (Nat.ble m.toNat 1000) false) = true) :
    OpOK E ⟨dd, .makeSlice t o1 o2, ty, pos, af, g⟩ st (.v (.one (.osl st.nx 0 m.toNat m.toNat))) ⟨(st.nx, .cells e (rowCells (st.nx + 1) (List.replicate m.toNat []))) :: st.hp, rowToks (st.nx + 1) (List.replicate m.toNat []), st.nx + 1001⟩ := by
  have h0 : 0 ≤ m := of_decide_eq_true (cond_left hm)
  have hn : m.toNat ≤ 1000 := Nat.le_of_ble_eq_true (cond_right hm)
  have hb' := Nat.le_of_ble_eq_true hb
  have hmm : (m.toNat : Int) = m := Int.toNat_of_nonneg h0
  have hbb : by_ * m.toNat ≤ 1000000 * 1000 := Nat.mul_le_mul hb' hn
  have ok := OpOK.makeSlice (E := E) (st := st) (dd := dd) (ty := ty) (pos := pos) (af := af) (g := g) (l := m.toNat) (c := m.toNat) ht hze rfl rfl hel (by rw [hmm]; exact h1) (by rw [hmm]; exact h2) (Nat.le_refl _) (by omega) (by omega)
  rw [zeroRow_nil] at ok
  intro V a w hr ro n K Q hK
  refine ok V a w hr ro n K Q (fun V' w' v H hnx L hx => ?_)
  obtain ⟨V2, H2, L2, hn2⟩ := H.adoptRows (i := st.nx) (T := e) m.toNat hn (by rw [lk_cons, if_pos rfl]) m.toNat (Nat.le_refl _)
  rw [Nat.sub_self, List.replicate_zero, List.append_nil] at H2
  rw [hnx] at H2 hn2
  dsimp only at H2 hn2
  obtain ⟨H3, L3⟩ := H2.skip (st.nx + 1001) (by rw [hn2]; omega)
  refine hK _ w' v (H3.forget (fun j B hj => ?_) (fun j T hj => hj)) rfl (L.trans (L2.trans L3)) (hx.mono (L2.trans L3))
  rw [lk_cons] at hj ⊢
  split at hj
  · rename_i e1; rw [if_pos e1]; exact hj
  · rename_i e1; rw [if_neg e1, lk_cons, if_neg e1]; exact hj
end
theorem tkLe.of {tk : List (Nat × Option Tok)} : ∀ {r : List (Nat × Option Tok)}, (∀ p ∈ r, ∀ T, p.2 = some T → lk tk p.1 = some (some T)) → tkLe tk r
  | [], _ => trivial
  | (t, y) :: r, h => ⟨fun T e => h (t, y) List.mem_cons_self T e, tkLe.of fun p hp => h p (List.mem_cons_of_mem _ hp)⟩
theorem kRow {base : Nat} {es : List (List Int)} : tkLe (rowToks base es) (rowToks base es) := tkLe.of fun p hp T e => by
  obtain ⟨k, hk, rfl⟩ := List.mem_map.1 hp
  have hk' := List.mem_range.1 hk
  cases e
  refine lk_rangeMap (fun a => base + a % 1000) (fun a => (some ⟨3, 1, (Enc.encL (es.getD a [])).length, []⟩ : Option Tok)) (List.range (min es.length 1000)) k hk (fun a ha e => ?_)
  have := List.mem_range.1 ha
  rw [Nat.mod_eq_of_lt (by omega), Nat.mod_eq_of_lt (by omega)] at e
  omega
theorem bRw {m i : Nat} {T : TypeId} {base : Nat} {es : List (List Int)} {r : List (Nat × HB)} (h : Nat.blt i m = true) (hb : Nat.ble (base + 1000) m = true) (l : hpBelow m r) : hpBelow m ((i, .cells T (rowCells base es)) :: r) := ⟨blt_t h, rowCells_below base m es hb, l⟩
theorem rowsCLs (base : Nat) (es : List (List Int)) : CLs (rowCells base es) (flatE es) := by
  have : ∀ (l : List Nat), CLs (l.map (rowCell base es)) (l.map fun k => .d (.sl 1 (Enc.encL (es.getD k [])))) := by
    intro l
    induction l with
    | nil => exact .nil
    | cons x l ih => exact .cons (.sub (.app _ _ _)) ih
  have h1 := this (List.range es.length)
  have e : flatE es = (List.range es.length).map fun k => CA.d (.sl 1 (Enc.encL (es.getD k []))) := by
    apply List.ext_getElem?
    intro k
    unfold flatE
    rw [Enc.map]
    have hsz : ∀ l : List (List Int), (l.map Enc.enc).flatten = l.map fun r => C.sl 1 (Enc.encL r) := by
      intro l
      induction l with
      | nil => rfl
      | cons x l ih => rw [List.map_cons, List.flatten_cons, ih]; rfl
    rw [hsz, List.map_map, List.getElem?_map, List.getElem?_map]
    by_cases hk : k < es.length
    · rw [List.getElem?_range hk, List.getElem?_eq_getElem hk]
      simp [List.getD_eq_getElem?_getD, List.getElem?_eq_getElem hk]
    · rw [List.getElem?_eq_none (by omega), List.getElem?_eq_none (by simpa using hk)]; rfl
  rw [e]; exact h1
theorem XQ.rows {E : Env} {Q : Exit → Act → World → Prop} {st : St} {e : Exit} {i base : Nat} {T : TypeId} {es : List (List Int)} (hi : lk st.hp i = some (.cells T (rowCells base es)))
    (k : XQ E Q e ⟨st.tm, [(i, .cells T (flatE es))], [], st.nx, st.nt, st.df⟩) : XQ E Q e st := fun V a w hr =>
  k V a w ⟨hr.h.forgetLe (hC hi (rowsCLs base es) hZ) kZ, hr.nx, hr.nt, hr.df, hr.tm⟩
section
variable {E : Env} {st : St} {dd : Option Tmp} {ty : TypeId} {pos : String} {af : Array Edge} {g : Option (Nat × Bool)}
theorem RO.indexRow {t e i n base : Nat} {T : TypeId} {x y : Operand} {m : Int} {es : List (List Int)} {row : List Int} (ht : tySlice E.P t = some (e, 1)) (hx : ev st.tm x = some (.v (.one (.osl i 0 n n)))) (hy : ev st.tm y = some (TI m)) (hv : idx es m = some row) (hn : Nat.beq es.length n = true) :
    RO E ⟨dd, .indexAddr t x y, ty, pos, af, g⟩ st (.v (.one (.ptr i m.toNat))) := by
  obtain ⟨k, rfl, hk⟩ := idxS hv
  have hl : es.length = n := Nat.eq_of_beq_eq_true hn
  have := RO.indexOsl (E := E) (st := st) (d := dd) (ty := ty) (pos := pos) (af := af) (g := g) (k := k) ht hx hy rfl (by rw [← hl]; exact (List.getElem?_eq_some_iff.1 hk).1)
  rw [Nat.zero_add, Nat.mul_one] at this; exact this
theorem RO.loadRow {t i base : Nat} {T : TypeId} {x : Operand} {m : Int} {es : List (List Int)} {row : List Int} (ht : tyAgg E.P t = some (false, 1)) (hx : ev st.tm x = some (.v (.one (.ptr i m.toNat)))) (hi : lk st.hp i = some (.cells T (rowCells base es))) (hv : idx es m = some row) :
    RO E ⟨dd, .load t x, ty, pos, af, g⟩ st (.v (.one (.app (base + m.toNat % 1000) 1 (Enc.encL row)))) := by
  obtain ⟨k, rfl, hk⟩ := idxS hv
  exact RO.loadOwn ht hx hi (rowCells_get hk)
theorem rowTok {base : Nat} {es : List (List Int)} {m : Int} {row : List Int} (hv : idx es m = some row) (hl : Nat.ble es.length 1000 = true) : lk (rowToks base es) (base + m.toNat % 1000) = some (some ⟨3, 1, (Enc.encL row).length, []⟩) := by
  obtain ⟨k, rfl, hk⟩ := idxS hv
  exact rowToks_get hk (Nat.le_of_ble_eq_true hl)
theorem OpOK.storeRow {t i base : Nat} {T : TypeId} {o1 o2 : Operand} {m : Int} {es : List (List Int)} {row row2 : List Int} (ht : tyAgg E.P t = some (false, 1)) (h1 : ev st.tm o1 = some (.v (.one (.ptr i m.toNat)))) (h2 : ev st.tm o2 = some (.v (.one (.app (base + m.toNat % 1000) 1 (Enc.encL row2)))))
    (hi : lk st.hp i = some (.cells T (rowCells base es))) (hv : idx es m = some row) (hl : Nat.ble es.length 1000 = true) (htk : st.tk = (base + m.toNat % 1000, some ⟨3, 1, (Enc.encL row2).length, []⟩) :: dropK (base + m.toNat % 1000) (rowToks base es)) (hdd : dd = none) :
    OpOK E ⟨dd, .store t o1 o2, ty, pos, af, g⟩ st (.tup []) ⟨(i, .cells T (rowCells base (es.set m.toNat row2))) :: dropK i st.hp, rowToks base (es.set m.toNat row2), st.nx⟩ := by
  obtain ⟨k, rfl, hk⟩ := idxS hv
  have hlt := (List.getElem?_eq_some_iff.1 hk).1
  rw [Int.toNat_natCast] at h1 h2 htk
  rw [Int.toNat_natCast]
  have hl' := Nat.le_of_ble_eq_true hl
  have ok := OpOK.store (E := E) (st := st) (dd := dd) (ty := ty) (pos := pos) (af := af) (g := g) ht h1 h2 hi rfl (by rw [rowCells_len]; exact hlt) hdd
  intro V a w hr ro n K Q hK
  refine ok V a w hr ro n K Q (fun V' w' v H hnx L hx => ?_)
  refine hK V' w' v (H.forget (fun j B hj => ?_) (fun j T' hj => ?_)) hnx L hx
  · rw [lk_cons] at hj ⊢
    split at hj
    · rename_i e1
      rw [if_pos e1, ← hj]
      congr 2
      exact (rowCells_set hlt).symm ▸ rfl
    · rename_i e1; rw [if_neg e1]; exact hj
  · rw [htk, lk_put, lk_cons]
    have hlen : (es.set k row2).length = es.length := by simp
    obtain ⟨q, hq, e1⟩ := List.mem_map.1 (lk_memF hj)
    have hq2 := List.mem_range.1 hq
    rw [hlen] at hq2
    have e2 := (Prod.mk.inj e1).1
    have e3 := (Prod.mk.inj e1).2
    have hkm : k % 1000 = k := Nat.mod_eq_of_lt (by omega)
    rw [Nat.mod_eq_of_lt (by omega)] at e2
    rw [hkm]
    rw [← e3, ← e2]
    by_cases hqk : q = k
    · subst hqk
      rw [if_pos rfl]
      congr 2
      show _ = Tok.mk 3 1 (Enc.encL ((es.set q row2).getD q [])).length []
      rw [List.getD_eq_getElem?_getD, List.getElem?_set, if_pos rfl, if_pos hlt]; rfl
    · rw [if_neg (by omega)]
      have h5 : es[q]? = some (es.getD q []) := by
        rw [List.getD_eq_getElem?_getD, List.getElem?_eq_getElem (by omega)]; rfl
      have h6 := rowToks_get (base := base) h5 hl'
      rw [Nat.mod_eq_of_lt (by omega)] at h6
      rw [h6]
      congr 2
      show _ = Tok.mk 3 1 (Enc.encL ((es.set k row2).getD q [])).length []
      rw [List.getD_eq_getElem?_getD, List.getD_eq_getElem?_getD, List.getElem?_set, if_neg (fun e => hqk e.symm)]
end
end Go.Proofs.Ytijcchddnnnmdaa
namespace Go.Proofs.Ytijcchddnnnmdaa
open Go.RowKit Go.Shelf
set_option linter.unusedSimpArgs false
set_option linter.unusedVariables false
theorem en_36 : Enters Try.prog 36 := enters_of Try.func36 (by kernel_rfl) rfl
def m36_l0 (x4 : List Int) (a0 : List (List Int)) (s1 : Int × (List (List Int))) (s2 : Int × (List (List Int))) : Option (LO (Int × (List (List Int))) (((List (List Int))))) :=
  cond (decide (s2.1 < (x4.length : Int)))
    (Option.bind (idx x4 s2.1) fun (x7 : Int) =>
  Option.bind (idx s2.2 x7) fun (x8 : List Int) =>
  guardO (Nat.beq s2.2.length ((a0.length : Int).toNat))
  (guardO (Nat.ble s2.2.length 1000)
  (guardO (Nat.ble (x8.length + ([s1.1]).length) 1000000000)
  (Option.bind (idx s2.2 x7) fun (x12 : List Int) =>
  guardO (Nat.beq s2.2.length ((a0.length : Int).toNat))
  (guardO (Nat.ble s2.2.length 1000)
  (some (.next ((w64 (s2.1 + 1)), (s2.2.set x7.toNat (x8 ++ ([s1.1])))))))))))
    (some (.done s2.2))
def m36_l1 (a0 : List (List Int)) (s1 : Int × (List (List Int))) : Option (LO (Int × (List (List Int))) (((List (List Int))))) :=
  cond (decide (s1.1 < (a0.length : Int)))
    (Option.bind (idx a0 s1.1) fun (x4 : List Int) =>
  Option.bind (loopN (m36_l0 x4 a0 s1) FUEL (0, s1.2)) (fun (o5 : (List (List Int))) => some (.next ((w64 (s1.1 + 1)), o5))))
    (some (.done s1.2))
def m36 (a0 : List (List Int)) : Option ((List (List Int))) :=
  guardO (cond (decide (0 ≤ (a0.length : Int))) (Nat.ble (a0.length : Int).toNat 1000) false)
  (Option.bind (loopN (m36_l1 a0) FUEL (0, (List.replicate (a0.length : Int).toNat ([] : List Int)))) (fun (o2 : (List (List Int))) => guardO (Nat.beq o2.length ((a0.length : Int).toNat))
  (some o2)))
set_option maxRecDepth 100000 in
set_option maxHeartbeats 2000000 in
theorem m36_ok (a0 : List (List Int)) (r : (List (List Int))) (h0 : m36 a0 = some r) : Fun Try.prog 36 [.one (dS a0)] (resOf [.one (dS r)]) := by
  unfold m36 at h0
  refine Fun.of_bodyM 9 37 Try.func36 rfl en_36 rfl (lb rfl) (fun S w => ?_)
  simp only [entry]
  refine XC.seq <| XC.region <| rA rfl rfl rfl <| XL.nil <| XQ.seq <| XC.seq <| XC.region <| rM rfl rfl rfl <| rR rfl rfl rfl (RO.lenE (α := List Int) sl_57 rfl (.d _)) ?_
  refine guardK h0 (fun g1 h0 => ?_)
  refine XL.put rfl rfl (lb rfl) (OpOK.makeRows sl_57 z_54 el_54 rfl rfl rfl g1) <| rA rfl rfl rfl <| XL.nil <| XQ.seq <| XC.seq <| XC.seq <| XC.region <| rM rfl rfl rfl <| rR rfl rfl rfl (RO.lenE (α := List Int) sl_57 rfl (.d _)) <| rM rfl rfl rfl <| XL.nil <| XQ.seq <| XC.block ?_
  refine XC.joinX 0 (fun (o2 : (List (List Int))) => ⟨[(3, .v (.one (.osl 0 0 ((a0.length : Int).toNat) ((a0.length : Int).toNat))))], [(0, .cells 54 (rowCells 1 o2))], (rowToks 1 o2), 1001, 37, []⟩) (fun (o2 : (List (List Int))) => (guardO (Nat.beq o2.length ((a0.length : Int).toNat))
    (some o2)) = some r) ?_ ?_
  ·
   refine bindK h0 (fun o3 hl1 h0 => ?_)
   refine XC.loopM (m36_l1 a0) (fun s1 => ⟨[(3, .v (.one (.osl 0 0 ((a0.length : Int).toNat) ((a0.length : Int).toNat)))), (11, .v (.one (dS a0))), (12, .v (.one (dI (a0.length : Int)))), (13, .v (.one (dI s1.1)))], [(0, .cells 54 (rowCells 1 s1.2))], (rowToks 1 s1.2), 1001, 37, []⟩) (0, (List.replicate (a0.length : Int).toNat ([] : List Int))) o3 (stle (tR rfl (tR rfl (tR rfl (tR rfl tZ)))) (hR rfl hZ) kRow rfl (Nat.zero_le _) rfl rfl rfl (bRw rfl rfl bZ) (rowToks_all _ _ _ rfl) rfl) hl1 (fun s1 n1 oo1 h1 ho1 => ?_)
   unfold m36_l1 at h1
   refine XC.seq <| XC.region <| rR rfl rfl rfl (RO.binInt rfl rfl rfl) <| XL.nil <| XQ.seq <| XC.seq ?_
   refine XC.cond (b := (decide (s1.1 < (a0.length : Int)))) rfl (fun c4 => ?_) (fun c4 => ?_)
   ·
    replace h1 := condT c4 h1
    refine XC.skip <| XQ.seq <| XC.seq <| XC.block <| XC.seq <| XC.region <| rM rfl rfl rfl ?_
    refine bindK h1 (fun x5 hx5 h1 => ?_)
    refine rR rfl rfl rfl (RO.indexE (α := List Int) sl_57 rfl (.d _) rfl hx5) <| rR rfl rfl rfl (RO.loadPel ag_54 rfl rfl) <| rA rfl rfl rfl <| rA rfl rfl rfl <| XL.nil <| XQ.seq <| XC.seq <| XC.region <| rM rfl rfl rfl <| rR rfl rfl rfl (RO.lenE (α := Int) sl_54 rfl (.d _)) <| rM rfl rfl rfl <| XL.nil <| XQ.seq <| XC.block ?_
    refine XC.joinX 2 (fun (o6 : (List (List Int))) => ⟨[(3, .v (.one (.osl 0 0 ((a0.length : Int).toNat) ((a0.length : Int).toNat)))), (11, .v (.one (dS a0))), (12, .v (.one (dI (a0.length : Int)))), (13, .v (.one (dI s1.1)))], [(0, .cells 54 (rowCells 1 o6))], (rowToks 1 o6), 1001, 37, []⟩) (fun (o6 : (List (List Int))) => (some (.next ((w64 (s1.1 + 1)), o6))) = some oo1) ?_ ?_
    ·
     refine bindK h1 (fun o7 hl2 h1 => ?_)
     refine XC.loopM (m36_l0 x5 a0 s1) (fun s2 => ⟨[(3, .v (.one (.osl 0 0 ((a0.length : Int).toNat) ((a0.length : Int).toNat)))), (4, .v (.one (dI s1.1))), (11, .v (.one (dS a0))), (12, .v (.one (dI (a0.length : Int)))), (13, .v (.one (dI s1.1))), (18, .v (.one (dS x5))), (19, .v (.one (dI (x5.length : Int)))), (20, .v (.one (dI s2.1)))], [(0, .cells 54 (rowCells 1 s2.2))], (rowToks 1 s2.2), 1001, 37, []⟩) (0, s1.2) o7 (stle (tR rfl (tR rfl (tR rfl (tR rfl (tR rfl (tR rfl (tR rfl (tR rfl tZ)))))))) (hR rfl hZ) kRow rfl (Nat.zero_le _) rfl rfl rfl (bRw rfl rfl bZ) (rowToks_all _ _ _ rfl) rfl) hl2 (fun s2 n2 oo2 h2 ho2 => ?_)
     unfold m36_l0 at h2
     refine XC.seq <| XC.region <| rR rfl rfl rfl (RO.binInt rfl rfl rfl) <| XL.nil <| XQ.seq <| XC.seq ?_
     refine XC.cond (b := (decide (s2.1 < (x5.length : Int)))) rfl (fun c8 => ?_) (fun c8 => ?_)
     ·
      replace h2 := condT c8 h2
      refine XC.skip <| XQ.seq <| XC.seq <| XC.block <| XC.seq <| XC.region ?_
      refine bindK h2 (fun x9 hx9 h2 => ?_)
      refine rR rfl rfl rfl (RO.indexE (α := Int) sl_54 rfl (.d _) rfl hx9) <| rR rfl rfl rfl (RO.loadPel ag_3 rfl rfl) <| rA rfl rfl rfl <| XL.nil <| XQ.seq <| XC.region <| rM rfl rfl rfl <| rM rfl rfl rfl <| rM rfl rfl rfl <| rM rfl rfl rfl ?_
      refine bindK h2 (fun x10 hx10 h2 => ?_)
      refine guardK h2 (fun g11 h2 => ?_)
      refine rR rfl rfl rfl (RO.indexRow (base := 1) (T := 54) sl_57 rfl rfl hx10 g11) <| rR rfl rfl rfl (RO.loadRow ag_54 rfl rfl hx10) <| rM rfl rfl rfl <| XL.put rfl rfl (lb rfl) (OpOK.data1E (α := Int) (s1.1) sl_54 z_3 rfl rfl (lb rfl) rfl rfl (.cons (.d _) .nil) rfl) ?_
      refine guardK h2 (fun g12 h2 => ?_)
      refine guardK h2 (fun g13 h2 => ?_)
      refine XL.put rfl rfl (lb rfl) (OpOK.appendE (α := Int) sl_54 el_3 rfl rfl (rowTok hx10 g12) rfl rfl (.d _) g13) ?_
      refine bindK h2 (fun x14 hx14 h2 => ?_)
      refine guardK h2 (fun g15 h2 => ?_)
      refine rR rfl rfl rfl (RO.indexRow (base := 1) (T := 54) sl_57 rfl rfl hx14 g15) ?_
      refine guardK h2 (fun g16 h2 => ?_)
      refine XL.eff rfl rfl (OpOK.storeRow ag_54 rfl rfl rfl hx14 g16 rfl rfl) <| XL.nil <| XQ.inBlock <| XQ.seq <| XC.region <| rR rfl rfl rfl (RO.binInt rfl rfl rfl) <| rM rfl rfl rfl <| XL.nil ?_
      have e_ := Option.some.inj h2
      subst e_
      refine XQ.nextM ((w64 (s2.1 + 1)), (s2.2.set x9.toNat (x10 ++ ([s1.1])))) (stle (tR rfl (tR rfl (tR rfl (tR rfl (tR rfl (tR rfl (tR rfl (tR rfl tZ)))))))) (hR rfl hZ) kRow rfl (Nat.zero_le _) rfl rfl rfl (bRw rfl rfl bZ) (rowToks_all _ _ _ rfl) rfl) ho2
     ·
      replace h2 := condF c8 h2
      refine XC.exit <| XQ.thenE <| XQ.thenE ?_
      have e_ := Option.some.inj h2
      subst e_
      have e_ : _ = _ := ho2
      subst e_
      exact XQ.joinX s2.2 (stle (tR rfl (tR rfl (tR rfl (tR rfl tZ)))) (hR rfl hZ) kRow rfl (Nat.zero_le _) rfl rfl rfl (bRw rfl rfl bZ) (rowToks_all _ _ _ rfl) rfl) h1
    ·
     intro o6 h1
     refine XQ.blockX <| XQ.inBlock <| XQ.seq <| XC.region <| rR rfl rfl rfl (RO.binInt rfl rfl rfl) <| rM rfl rfl rfl <| XL.nil ?_
     have e_ := Option.some.inj h1
     subst e_
     refine XQ.nextM ((w64 (s1.1 + 1)), o6) (stle (tR rfl (tR rfl (tR rfl (tR rfl tZ)))) (hR rfl hZ) kRow rfl (Nat.zero_le _) rfl rfl rfl (bRw rfl rfl bZ) (rowToks_all _ _ _ rfl) rfl) ho1
   ·
    replace h1 := condF c4 h1
    refine XC.exit <| XQ.thenE <| XQ.thenE ?_
    have e_ := Option.some.inj h1
    subst e_
    have e_ : _ = _ := ho1
    subst e_
    exact XQ.joinX s1.2 (stle (tR rfl tZ) (hR rfl hZ) kRow rfl (Nat.zero_le _) rfl rfl rfl (bRw rfl rfl bZ) (rowToks_all _ _ _ rfl) rfl) h0
  ·
   intro o2 h0
   refine XQ.blockX <| XQ.seq <| XC.seq <| XC.region <| rM rfl rfl rfl <| rA rfl rfl rfl <| XL.nil <| XQ.seq <| XC.ret ?_
   refine guardK h0 (fun g17 h0 => ?_)
   have e_ := Option.some.inj h0
   subst e_
   refine XQ.rows (i := 0) rfl <| XQ.freezeT (α := List Int) (t := 2) rfl rfl g17 ?_
   exact XQ.retF (fun _ _ h => h) rfl (RAs.tmp rfl .nil) (.cons (.one (.d _)) .nil)
end Go.Proofs.Ytijcchddnnnmdaa
namespace Go.Proofs.Ytijcchddnnnmdaa
open Go.RowKit Go.Shelf
set_option linter.unusedSimpArgs false
set_option linter.unusedVariables false
theorem en_12 : Enters Try.prog 12 := enters_of Try.func12 (by kernel_rfl) rfl
def m56f12_l0 (x6 : List Int) (rc : Int × Nat × (List Bool) × (List (List Int)) → Option ((List Bool))) (a1 : Nat) (a3 : List (List Int)) (s1 : Int × (List Bool)) : Option (LO (Int × (List Bool)) (((List Bool)))) :=
  cond (decide (s1.1 < (x6.length : Int)))
    (Option.bind (idx x6 s1.1) fun (x9 : Int) =>
  Option.bind (rc (x9, a1, s1.2, a3)) fun (x10 : (List Bool)) =>
  some (.next ((w64 (s1.1 + 1)), x10)))
    (some (.done s1.2))
def m56f12s (rc : Int × Nat × (List Bool) × (List (List Int)) → Option ((List Bool))) (a0 : Int) (a1 : Nat) (a2 : List Bool) (a3 : List (List Int)) : Option ((List Bool)) :=
  Option.bind (idx a2 a0) fun (x1 : Bool) =>
  guardO (Nat.beq a2.length a1)
  (cond x1
    (some a2)
    (Option.bind (idx a2 a0) fun (x4 : Bool) =>
  guardO (Nat.beq a2.length a1)
  (Option.bind (idx a3 a0) fun (x6 : List Int) =>
  Option.bind (loopN (m56f12_l0 x6 rc a1 a3) FUEL (0, (a2.set a0.toNat true))) (fun (o7 : (List Bool)) => some o7))))
def m56f12F (rc : Int × Nat × (List Bool) × (List (List Int)) → Option ((List Bool))) (u : Int × Nat × (List Bool) × (List (List Int))) : Option ((List Bool)) := m56f12s rc u.1 u.2.1 u.2.2.1 u.2.2.2
def m56f12 (a0 : Int) (a1 : Nat) (a2 : List Bool) (a3 : List (List Int)) : Option ((List Bool)) := recO m56f12F FUEL (a0, a1, a2, a3)
set_option maxRecDepth 100000 in
set_option maxHeartbeats 2000000 in
theorem m56f12s_ok (rc : Int × Nat × (List Bool) × (List (List Int)) → Option ((List Bool))) (H : ∀ (a0 : Int) (a1 : Nat) (a2 : List Bool) (a3 : List (List Int)) (r : (List Bool)), rc (a0, a1, a2, a3) = some r → CallM Try.prog 56 [.one (dI a0), .one (.ptr 0 0), .one (.ptr 2 0), .one (.ptr 3 0)] ⟨[(0, .cells 75 [.osl 1 0 a1 a1]), (1, .cells 4 (flatE a2)), (2, .cells 57 [dS a3]), (3, .cells 106 [.fn 56 [(0, 0), (2, 0), (3, 0)]])], [], 4⟩ (resOf []) ⟨[(0, .cells 75 [.osl 1 0 a1 a1]), (1, .cells 4 (flatE r)), (2, .cells 57 [dS a3]), (3, .cells 106 [.fn 56 [(0, 0), (2, 0), (3, 0)]])], [], 4⟩) (a0 : Int) (a1 : Nat) (a2 : List Bool) (a3 : List (List Int)) (r : (List Bool)) (h0 : m56f12s rc a0 a1 a2 a3 = some r) : CallM Try.prog 56 [.one (dI a0), .one (.ptr 0 0), .one (.ptr 2 0), .one (.ptr 3 0)] ⟨[(0, .cells 75 [.osl 1 0 a1 a1]), (1, .cells 4 (flatE a2)), (2, .cells 57 [dS a3]), (3, .cells 106 [.fn 56 [(0, 0), (2, 0), (3, 0)]])], [], 4⟩ (resOf []) ⟨[(0, .cells 75 [.osl 1 0 a1 a1]), (1, .cells 4 (flatE r)), (2, .cells 57 [dS a3]), (3, .cells 106 [.fn 56 [(0, 0), (2, 0), (3, 0)]])], [], 4⟩ := by
  unfold m56f12s at h0
  refine CallM.of_bodyD ⟨[], [(0, .cells 75 [.osl 1 0 a1 a1]), (1, .cells 4 (flatE r)), (2, .cells 57 [dS a3]), (3, .cells 106 [.fn 56 [(0, 0), (2, 0), (3, 0)]])], [], 4, 27, []⟩ rfl rfl en_56 (lb rfl) rfl .nil (fun w0 M V0 Q hv0 hQ0 => ?_)
  simp only [entry]
  refine XC.seq <| XC.seq <| XC.region <| rR rfl rfl rfl (RO.loadOwn ag_75 rfl rfl rfl) <| rM rfl rfl rfl ?_
  refine bindK h0 (fun x1 hx1 h0 => ?_)
  refine guardK h0 (fun g2 h0 => ?_)
  refine rR rfl rfl rfl (RO.indexO (α := Bool) sl_75 rfl rfl hx1 g2) <| rR rfl rfl rfl (RO.loadOF (α := Bool) (m := a0) (f := 0) ag_4 rfl rfl hx1 rfl) <| XL.nil <| XQ.seq ?_
  refine XC.cond (b := x1) rfl (fun c3 => ?_) (fun c3 => ?_)
  ·
   replace h0 := condT c3 h0
   refine XC.ret ?_
   have e_ := Option.some.inj h0
   subst e_
   exact hQ0 _ _ _ (.inr rfl) rfl (stle tZ (hR rfl (hR rfl (hR rfl (hR rfl hZ)))) kZ rfl (Nat.le_trans hv0 (lb rfl)) rfl rfl rfl (bB rfl rfl (bF rfl (bB rfl rfl (bB rfl rfl bZ)))) rfl rfl)
  ·
   replace h0 := condF c3 h0
   refine XC.skip <| XQ.seq <| XC.seq <| XC.region <| rR rfl rfl rfl (RO.loadOwn ag_75 rfl rfl rfl) <| rM rfl rfl rfl ?_
   refine bindK h0 (fun x4 hx4 h0 => ?_)
   refine guardK h0 (fun g5 h0 => ?_)
   refine rR rfl rfl rfl (RO.indexO (α := Bool) sl_75 rfl rfl hx4 g5) <| XL.eff rfl rfl (OpOK.storeOE (α := Bool) (y' := .one (dB true)) (v := true) ag_4 rfl rfl (.one (.d _)) rfl rfl hx4 rfl) <| XL.nil <| XQ.seq <| XC.seq <| XC.region <| rR rfl rfl rfl (RO.loadOwn ag_57 rfl rfl rfl) <| rM rfl rfl rfl ?_
   refine bindK h0 (fun x6 hx6 h0 => ?_)
   refine rR rfl rfl rfl (RO.indexE (α := List Int) sl_57 rfl (.d _) rfl hx6) <| rR rfl rfl rfl (RO.loadPel ag_54 rfl rfl) <| rR rfl rfl rfl (RO.lenE (α := Int) sl_54 rfl (.d _)) <| rM rfl rfl rfl <| XL.nil <| XQ.seq <| XC.block ?_
   refine XC.joinX 0 (fun (o7 : (List Bool)) => ⟨[], [(0, .cells 75 [.osl 1 0 a1 a1]), (1, .cells 4 (flatE o7)), (2, .cells 57 [dS a3]), (3, .cells 106 [.fn 56 [(0, 0), (2, 0), (3, 0)]])], [], 4, 27, []⟩) (fun (o7 : (List Bool)) => (some o7) = some r) ?_ ?_
   ·
    refine bindK h0 (fun o8 hl1 h0 => ?_)
    refine XC.loopM (m56f12_l0 x6 rc a1 a3) (fun s1 => ⟨[(3, .v (.one (.ptr 3 0))), (17, .v (.one (dS x6))), (18, .v (.one (dI (x6.length : Int)))), (19, .v (.one (dI s1.1)))], [(0, .cells 75 [.osl 1 0 a1 a1]), (1, .cells 4 (flatE s1.2)), (2, .cells 57 [dS a3]), (3, .cells 106 [.fn 56 [(0, 0), (2, 0), (3, 0)]])], [], 4, 27, []⟩) (0, (a2.set a0.toNat true)) o8 (stle (tR rfl (tR rfl (tR rfl (tR rfl tZ)))) (hR rfl (hR rfl (hR rfl (hR rfl hZ)))) kZ rfl (Nat.le_trans hv0 (lb rfl)) rfl rfl rfl (bB rfl rfl (bF rfl (bB rfl rfl (bB rfl rfl bZ)))) rfl rfl) hl1 (fun s1 n1 oo1 h1 ho1 => ?_)
    unfold m56f12_l0 at h1
    refine XC.seq <| XC.region <| rR rfl rfl rfl (RO.binInt rfl rfl rfl) <| XL.nil <| XQ.seq <| XC.seq ?_
    refine XC.cond (b := (decide (s1.1 < (x6.length : Int)))) rfl (fun c9 => ?_) (fun c9 => ?_)
    ·
     replace h1 := condT c9 h1
     refine XC.skip <| XQ.seq <| XC.seq <| XC.block <| XC.seq <| XC.region ?_
     refine bindK h1 (fun x10 hx10 h1 => ?_)
     refine rR rfl rfl rfl (RO.indexE (α := Int) sl_54 rfl (.d _) rfl hx10) <| rR rfl rfl rfl (RO.loadPel ag_3 rfl rfl) <| rA rfl rfl rfl <| XL.nil <| XQ.seq <| XC.region <| rR rfl rfl rfl (RO.loadOwn ag_106 rfl rfl rfl) <| rM rfl rfl rfl ?_
     refine bindK h1 (fun x11 hx11 h1 => ?_)
     refine XL.put rfl rfl (lb rfl) (OpOK.callG (hp1' := [(0, .cells 75 [.osl 1 0 a1 a1]), (1, .cells 4 (flatE x11)), (2, .cells 57 [dS a3]), (3, .cells 106 [.fn 56 [(0, 0), (2, 0), (3, 0)]])]) (tk1' := []) (hpF := []) (tkF := []) (res2 := resOf []) (nx2 := 4) [0, 1, 2, 3] rfl rfl (H x10 a1 s1.2 a3 x11 hx11) rfl rfl (qB rfl rfl (qF rfl (qB rfl rfl (qB rfl rfl qZ)))) rfl rfl (gR rfl (gF rfl (gR rfl (gR rfl gZ)))) jZ hZ kZ rfl rfl rfl rfl rfl (bB rfl rfl (bF rfl (bB rfl rfl (bB rfl rfl bZ)))) rfl rfl rfl rfl) <| XL.nil <| XQ.inBlock <| XQ.seq <| XC.region <| rR rfl rfl rfl (RO.binInt rfl rfl rfl) <| rM rfl rfl rfl <| XL.nil ?_
     have e_ := Option.some.inj h1
     subst e_
     refine XQ.nextM ((w64 (s1.1 + 1)), x11) (stle (tR rfl (tR rfl (tR rfl (tR rfl tZ)))) (hR rfl (hR rfl (hR rfl (hR rfl hZ)))) kZ rfl (Nat.le_trans hv0 (lb rfl)) rfl rfl rfl (bB rfl rfl (bF rfl (bB rfl rfl (bB rfl rfl bZ)))) rfl rfl) ho1
    ·
     replace h1 := condF c9 h1
     refine XC.exit <| XQ.thenE <| XQ.thenE ?_
     have e_ := Option.some.inj h1
     subst e_
     have e_ : _ = _ := ho1
     subst e_
     exact XQ.joinX s1.2 (stle tZ (hR rfl (hR rfl (hR rfl (hR rfl hZ)))) kZ rfl (Nat.le_trans hv0 (lb rfl)) rfl rfl rfl (bB rfl rfl (bF rfl (bB rfl rfl (bB rfl rfl bZ)))) rfl rfl) h0
   ·
    intro o7 h0
    refine XQ.blockX ?_
    have e_ := Option.some.inj h0
    subst e_
    exact hQ0 _ _ _ (.inl rfl) rfl (stle tZ (hR rfl (hR rfl (hR rfl (hR rfl hZ)))) kZ rfl (Nat.le_trans hv0 (lb rfl)) rfl rfl rfl (bB rfl rfl (bF rfl (bB rfl rfl (bB rfl rfl bZ)))) rfl rfl)
theorem m56f12_all (n : Nat) (u : Int × Nat × (List Bool) × (List (List Int))) (r : (List Bool)) (h0 : recO m56f12F n u = some r) : CallM Try.prog 56 [.one (dI u.1), .one (.ptr 0 0), .one (.ptr 2 0), .one (.ptr 3 0)] ⟨[(0, .cells 75 [.osl 1 0 u.2.1 u.2.1]), (1, .cells 4 (flatE u.2.2.1)), (2, .cells 57 [dS u.2.2.2]), (3, .cells 106 [.fn 56 [(0, 0), (2, 0), (3, 0)]])], [], 4⟩ (resOf []) ⟨[(0, .cells 75 [.osl 1 0 u.2.1 u.2.1]), (1, .cells 4 (flatE r)), (2, .cells 57 [dS u.2.2.2]), (3, .cells 106 [.fn 56 [(0, 0), (2, 0), (3, 0)]])], [], 4⟩ :=
  recO_ind (C := fun u r => CallM Try.prog 56 [.one (dI u.1), .one (.ptr 0 0), .one (.ptr 2 0), .one (.ptr 3 0)] ⟨[(0, .cells 75 [.osl 1 0 u.2.1 u.2.1]), (1, .cells 4 (flatE u.2.2.1)), (2, .cells 57 [dS u.2.2.2]), (3, .cells 106 [.fn 56 [(0, 0), (2, 0), (3, 0)]])], [], 4⟩ (resOf []) ⟨[(0, .cells 75 [.osl 1 0 u.2.1 u.2.1]), (1, .cells 4 (flatE r)), (2, .cells 57 [dS u.2.2.2]), (3, .cells 106 [.fn 56 [(0, 0), (2, 0), (3, 0)]])], [], 4⟩) (fun rc H u r h => m56f12s_ok rc (fun a0 a1 a2 a3 r h => H (a0, a1, a2, a3) r h) u.1 u.2.1 u.2.2.1 u.2.2.2 r h) n u r h0
theorem m56f12_ok (a0 : Int) (a1 : Nat) (a2 : List Bool) (a3 : List (List Int)) (r : (List Bool)) (h0 : m56f12 a0 a1 a2 a3 = some r) : CallM Try.prog 56 [.one (dI a0), .one (.ptr 0 0), .one (.ptr 2 0), .one (.ptr 3 0)] ⟨[(0, .cells 75 [.osl 1 0 a1 a1]), (1, .cells 4 (flatE a2)), (2, .cells 57 [dS a3]), (3, .cells 106 [.fn 56 [(0, 0), (2, 0), (3, 0)]])], [], 4⟩ (resOf []) ⟨[(0, .cells 75 [.osl 1 0 a1 a1]), (1, .cells 4 (flatE r)), (2, .cells 57 [dS a3]), (3, .cells 106 [.fn 56 [(0, 0), (2, 0), (3, 0)]])], [], 4⟩ := m56f12_all FUEL (a0, a1, a2, a3) r h0
end Go.Proofs.Ytijcchddnnnmdaa
namespace Go.Proofs.Ytijcchddnnnmdaa
open Go.RowKit Go.Shelf
set_option linter.unusedSimpArgs false
set_option linter.unusedVariables false
def m12o_l0 (x10 : (List Bs)) (s2 : Int × (GMap Bs Int)) (s3 : Int × (GMap Bs Int)) : Option (LO (Int × (GMap Bs Int)) (((GMap Bs Int)) ⊕ (((List (List Int)) × (GMap Bs Int)) ⊕ Unit ⊕ Unit))) :=
  cond (decide (s3.1 < (x10.length : Int)))
    (Option.bind (idx x10 s3.1) fun (x13 : Bs) =>
  cond (gmHas s3.2 x13)
    (some (.done (.inr (.inr (.inl ())))))
    (some (.next ((w64 (s3.1 + 1)), (gmSet s3.2 x13 s2.1)))))
    (some (.done (.inl s3.2)))
def m12o_l1 (nn : Nat) (a0 : List Dcl) (s2 : Int × (GMap Bs Int)) : Option (LO (Int × (GMap Bs Int)) (((GMap Bs Int)) ⊕ (((List (List Int)) × (GMap Bs Int)) ⊕ Unit ⊕ Unit))) :=
  cond (decide (s2.1 < ((nn : Nat) : Int)))
    (Option.bind (idx a0 s2.1) fun (x8 : Dcl) =>
  guardO (Nat.beq a0.length nn)
  (Option.bind (m37 x8) fun (x10 : (List Bs)) =>
  Option.bind (loopN (m12o_l0 x10 s2) FUEL (0, s2.2)) (Sum.elim (fun (o11 : (GMap Bs Int)) => some (.next ((w64 (s2.1 + 1)), o11))) (fun o => some (.done (.inr o))))))
    (some (.done (.inl s2.2)))
def m12o_l2 (x11 : (List Bs)) (o6 : (GMap Bs Int)) (s3 : (List Int) × Int) : Option (LO ((List Int) × Int) (((List Int)) ⊕ (((List (List Int)) × (GMap Bs Int)) ⊕ Unit ⊕ Unit))) :=
  cond (decide (s3.2 < (x11.length : Int)))
    (Option.bind (idx x11 s3.2) fun (x14 : Bs) =>
  cond (!(gmHas o6 x14))
    (some (.done (.inr (.inr (.inr ())))))
    (guardO (Nat.ble (s3.1.length + ([(gmVal o6 x14)]).length) 1000000000)
  (some (.next ((s3.1 ++ ([(gmVal o6 x14)])), (w64 (s3.2 + 1)))))))
    (some (.done (.inl s3.1)))
def m12o_l3 (nn : Nat) (a0 : List Dcl) (o6 : (GMap Bs Int)) (s2 : Int × (List (List Int))) : Option (LO (Int × (List (List Int))) (((List (List Int))) ⊕ (((List (List Int)) × (GMap Bs Int)) ⊕ Unit ⊕ Unit))) :=
  cond (decide (s2.1 < ((nn : Nat) : Int)))
    (Option.bind (idx a0 s2.1) fun (x9 : Dcl) =>
  guardO (Nat.beq a0.length nn)
  (Option.bind (m53 x9) fun (x11 : (List Bs)) =>
  Option.bind (loopN (m12o_l2 x11 o6) FUEL (([] : List Int), 0)) (Sum.elim (fun (o12 : (List Int)) => Option.bind (sortF o12) fun (x13 : List Int) =>
  Option.bind (compactF x13 ((Enc.encL o12).length)) fun (x14 : List Int) =>
  guardO (Nat.ble (s2.2.length + ([x14]).length) 1000000000)
  (some (.next ((w64 (s2.1 + 1)), (s2.2 ++ ([x14])))))) (fun o => some (.done (.inr o))))))
    (some (.done (.inl s2.2)))
def m12o_l4 (a1 : List Bs) (y1 : (List (List Int)) × (GMap Bs Int)) (x32 : (List (List Int))) (s2 : Int × (List Bool)) : Option (LO (Int × (List Bool)) (((List Bool)) ⊕ (Unit ⊕ ((List Bool))))) :=
  cond (decide (s2.1 < (a1.length : Int)))
    (Option.bind (idx a1 s2.1) fun (x40 : Bs) =>
  cond (!(gmHas y1.2 x40))
    (some (.done (.inr (.inl ()))))
    (Option.bind (m56f12 (gmVal y1.2 x40) ((x32.length : Int).toNat) s2.2 x32) fun (x42 : (List Bool)) =>
  some (.next ((w64 (s2.1 + 1)), x42))))
    (some (.done (.inl s2.2)))
def m12o_l5 (nn : Nat) (a0 : List Dcl) (y34 : (List Bool)) (x32 : (List (List Int))) (s1 : (List Bs) × Int) : Option (LO ((List Bs) × Int) (((List Bs)))) :=
  cond (decide (s1.2 < ((nn : Nat) : Int)))
    (Option.bind (idx a0 s1.2) fun (x46 : Dcl) =>
  guardO (Nat.beq a0.length nn)
  (Option.bind (idx y34 s1.2) fun (x48 : Bool) =>
  guardO (Nat.beq y34.length ((x32.length : Int).toNat))
  (cond x48
    (Option.bind (m37 x46) fun (x51 : (List Bs)) =>
  guardO (Nat.ble (s1.1.length + x51.length) 1000000000)
  (some (.next ((s1.1 ++ x51), (w64 (s1.2 + 1))))))
    (some (.next (s1.1, (w64 (s1.2 + 1))))))))
    (some (.done s1.1))
def m12o (a0 : List Dcl) (a1 : List Bs) (nn : Nat) : Option ((List Bs) × Int) :=
  Option.bind (Option.bind (loopN (m12o_l1 nn a0) FUEL (0, gmNil)) (Sum.elim (fun (o6 : (GMap Bs Int)) => Option.bind (loopN (m12o_l3 nn a0 o6) FUEL (0, ([] : List (List Int)))) (Sum.elim (fun (o7 : (List (List Int))) => some (.inl (o7, o6))) (fun o => some o))) (fun o => some o))) (Sum.elim (fun (y1 : (List (List Int)) × (GMap Bs Int)) => Option.bind (m36 y1.1) fun (x32 : (List (List Int))) =>
  Option.bind (guardO (cond (decide (0 ≤ (x32.length : Int))) (Nat.ble (1 * (x32.length : Int).toNat) 281474976710656) false)
  (Option.bind (loopN (m12o_l4 a1 y1 x32) FUEL (0, (List.replicate (x32.length : Int).toNat false))) (Sum.elim (fun (o38 : (List Bool)) => some (.inr o38)) (fun o => some o)))) (Sum.elim (fun (y33 : Unit) => some (([] : List Bs), 9)) (fun (y34 : (List Bool)) => Option.bind (loopN (m12o_l5 nn a0 y34 x32) FUEL (([] : List Bs), 0)) (fun (o44 : (List Bs)) => some (o44, 0))))) (Sum.elim (fun (y2 : Unit) => some (([] : List Bs), 8)) (fun (y3 : Unit) => some (([] : List Bs), 9))))
set_option maxRecDepth 100000 in
set_option maxHeartbeats 2000000 in
theorem m12o_ok (a0 : List Dcl) (a1 : List Bs) (nn : Nat) (r : (List Bs) × Int) (h0 : m12o a0 a1 nn = some r) : CallM Try.prog 12 [.one (.osl 0 0 nn nn), .one (dS a1)] ⟨[(0, .cells 48 (flatE a0))], [], 1⟩ (resOf [.one (dS r.1), .one (dI r.2)]) ⟨[(0, .cells 48 (flatE a0))], [], 6⟩ := by
  unfold m12o at h0
  refine CallM.of_bodyD ⟨[(4, .v (.one (dS r.1))), (5, .v (.one (dI r.2)))], [(0, .cells 48 (flatE a0))], [], 6, 49, []⟩ rfl rfl en_12 (lb rfl) rfl (RAs.tmp rfl (RAs.tmp rfl .nil)) (fun w0 M V0 Q hv0 hQ0 => ?_)
  simp only [entry]
  refine XC.seq <| XC.region <| rA rfl rfl rfl <| rA rfl rfl rfl <| XL.nil <| XQ.seq <| XC.seq <| XC.region <| rM rfl rfl rfl ?_
  refine bindK h0 (fun y5 h1 h0 => ?_)
  have hc4 : CallM Try.prog 34 [.one (.osl 0 0 nn nn)] ⟨[(0, .cells 48 (flatE a0))], [], 1⟩ (resOf (((Sum.elim (fun (y1 : (List (List Int)) × (GMap Bs Int)) => ([.agg [dA 4 y1.1, .mp 2], .one (dI 0)] : List AV)) (Sum.elim (fun (y2 : Unit) => ([.agg [dN, .d (.v (.map none))], .one (dI 8)] : List AV)) (fun (y3 : Unit) => ([.agg [dN, .d (.v (.map none))], .one (dI 9)] : List AV))))) y5)) ⟨(((Sum.elim (fun (y1 : (List (List Int)) × (GMap Bs Int)) => (⟨[(2, .v (.one (.ptr 1 0))), (3, .v (.one (dI 0)))], [(0, .cells 48 (flatE a0)), (1, .cells 72 [dA 4 y1.1, .mp 2]), (2, .mp (gmE y1.2.1) y1.2.2)], [(4, some ⟨54, 1, (Enc.encL y1.1).length, []⟩)], 5, 88, []⟩ : St)) (Sum.elim (fun (y2 : Unit) => (⟨[(2, .v (.one (.ptr 1 0))), (3, .v (.one (dI 8)))], [(0, .cells 48 (flatE a0)), (1, .cells 72 [dN, .d (.v (.map none))])], [], 5, 88, []⟩ : St)) (fun (y3 : Unit) => (⟨[(2, .v (.one (.ptr 1 0))), (3, .v (.one (dI 9)))], [(0, .cells 48 (flatE a0)), (1, .cells 72 [dN, .d (.v (.map none))])], [], 7, 88, []⟩ : St))))) y5).hp, (((Sum.elim (fun (y1 : (List (List Int)) × (GMap Bs Int)) => (⟨[(2, .v (.one (.ptr 1 0))), (3, .v (.one (dI 0)))], [(0, .cells 48 (flatE a0)), (1, .cells 72 [dA 4 y1.1, .mp 2]), (2, .mp (gmE y1.2.1) y1.2.2)], [(4, some ⟨54, 1, (Enc.encL y1.1).length, []⟩)], 5, 88, []⟩ : St)) (Sum.elim (fun (y2 : Unit) => (⟨[(2, .v (.one (.ptr 1 0))), (3, .v (.one (dI 8)))], [(0, .cells 48 (flatE a0)), (1, .cells 72 [dN, .d (.v (.map none))])], [], 5, 88, []⟩ : St)) (fun (y3 : Unit) => (⟨[(2, .v (.one (.ptr 1 0))), (3, .v (.one (dI 9)))], [(0, .cells 48 (flatE a0)), (1, .cells 72 [dN, .d (.v (.map none))])], [], 7, 88, []⟩ : St))))) y5).tk, (((Sum.elim (fun (y1 : (List (List Int)) × (GMap Bs Int)) => (⟨[(2, .v (.one (.ptr 1 0))), (3, .v (.one (dI 0)))], [(0, .cells 48 (flatE a0)), (1, .cells 72 [dA 4 y1.1, .mp 2]), (2, .mp (gmE y1.2.1) y1.2.2)], [(4, some ⟨54, 1, (Enc.encL y1.1).length, []⟩)], 5, 88, []⟩ : St)) (Sum.elim (fun (y2 : Unit) => (⟨[(2, .v (.one (.ptr 1 0))), (3, .v (.one (dI 8)))], [(0, .cells 48 (flatE a0)), (1, .cells 72 [dN, .d (.v (.map none))])], [], 5, 88, []⟩ : St)) (fun (y3 : Unit) => (⟨[(2, .v (.one (.ptr 1 0))), (3, .v (.one (dI 9)))], [(0, .cells 48 (flatE a0)), (1, .cells 72 [dN, .d (.v (.map none))])], [], 7, 88, []⟩ : St))))) y5).nx⟩ := by
   refine CallM.of_bodyT y5 ((Sum.elim (fun (y1 : (List (List Int)) × (GMap Bs Int)) => (⟨[(2, .v (.one (.ptr 1 0))), (3, .v (.one (dI 0)))], [(0, .cells 48 (flatE a0)), (1, .cells 72 [dA 4 y1.1, .mp 2]), (2, .mp (gmE y1.2.1) y1.2.2)], [(4, some ⟨54, 1, (Enc.encL y1.1).length, []⟩)], 5, 88, []⟩ : St)) (Sum.elim (fun (y2 : Unit) => (⟨[(2, .v (.one (.ptr 1 0))), (3, .v (.one (dI 8)))], [(0, .cells 48 (flatE a0)), (1, .cells 72 [dN, .d (.v (.map none))])], [], 5, 88, []⟩ : St)) (fun (y3 : Unit) => (⟨[(2, .v (.one (.ptr 1 0))), (3, .v (.one (dI 9)))], [(0, .cells 48 (flatE a0)), (1, .cells 72 [dN, .d (.v (.map none))])], [], 7, 88, []⟩ : St))))) ((Sum.elim (fun (y1 : (List (List Int)) × (GMap Bs Int)) => ([.agg [dA 4 y1.1, .mp 2], .one (dI 0)] : List AV)) (Sum.elim (fun (y2 : Unit) => ([.agg [dN, .d (.v (.map none))], .one (dI 8)] : List AV)) (fun (y3 : Unit) => ([.agg [dN, .d (.v (.map none))], .one (dI 9)] : List AV))))) rfl rfl en_34 (lb rfl) (fun z_ => by cases z_ with
     | inl _ => rfl
     | inr z_ => exact (by cases z_ <;> rfl)) (fun z_ => by cases z_ with
     | inl _ => exact (RAs.agg ag_72 rfl rfl rfl rfl (RAs.tmp rfl .nil))
     | inr z_ => exact (by cases z_ with
     | inl _ => exact (RAs.agg ag_72 rfl rfl rfl rfl (RAs.tmp rfl .nil))
     | inr _ => exact (RAs.agg ag_72 rfl rfl rfl rfl (RAs.tmp rfl .nil)))) (fun w0 M V0 Q hv1 hQ1 => ?_)
   simp only [entry]
   refine XC.seq <| XC.region <| XL.put rfl rfl (lb rfl) (OpOK.alloc z_72 rfl) <| rA rfl rfl rfl <| XL.nil <| XQ.seq <| XC.seq <| XC.region <| XL.put rfl rfl (lb rfl) (OpOK.makeMapG Bs Int) <| rR rfl rfl rfl (RO.build1 bd_72 rfl rfl rfl) <| XL.put rfl rfl (lb rfl) (OpOK.alloc z_72 rfl) <| XL.eff rfl rfl (OpOK.store ag_72 rfl rfl rfl rfl (lb rfl) rfl) <| XL.nil <| XQ.seq ?_
   refine XC.seq <| XC.seq <| XC.region <| rM rfl rfl rfl <| rR rfl rfl rfl (RO.lenOsl sl_22 rfl) <| rM rfl rfl rfl <| XL.nil <| XQ.seq <| XC.block ?_
   refine XC.joinX 0 (fun (o6 : (GMap Bs Int)) => ⟨[(0, .v (.one (.osl 0 0 nn nn))), (2, .v (.one (.ptr 1 0))), (4, .v (.one (.ptr 3 0)))], [(0, .cells 48 (flatE a0)), (1, .cells 72 [dN, .d (.v (.map none))]), (2, .mp (gmE o6.1) o6.2), (3, .cells 72 [dN, .mp 2])], [], 4, 88, []⟩) (fun (o6 : (GMap Bs Int)) => (Option.bind (loopN (m12o_l3 nn a0 o6) FUEL (0, ([] : List (List Int)))) (Sum.elim (fun (o7 : (List (List Int))) => some (.inl (o7, o6))) (fun o => some o))) = some y5) ?_ ?_
   ·
    refine bindK h1 (fun o7 hl2 h1 => ?_)
    refine XC.loopM (m12o_l1 nn a0) (fun s2 => ⟨[(0, .v (.one (.osl 0 0 nn nn))), (2, .v (.one (.ptr 1 0))), (4, .v (.one (.ptr 3 0))), (20, .v (.one (.osl 0 0 nn nn))), (21, .v (.one (dI ((nn : Nat) : Int)))), (22, .v (.one (dI s2.1)))], [(0, .cells 48 (flatE a0)), (1, .cells 72 [dN, .d (.v (.map none))]), (2, .mp (gmE s2.2.1) s2.2.2), (3, .cells 72 [dN, .mp 2])], [], 4, 88, []⟩) (0, gmNil) o7 (stle (tR rfl (tR rfl (tR rfl (tR rfl (tR rfl (tR rfl tZ)))))) (hR rfl (hR rfl (hR rfl (hR rfl hZ)))) kZ rfl (Nat.le_trans hv1 (lb rfl)) rfl rfl rfl (bF rfl (bB rfl rfl (bG rfl (bB rfl rfl bZ)))) rfl rfl) hl2 (fun s2 n2 oo2 h2 ho2 => ?_)
    unfold m12o_l1 at h2
    refine XC.seq <| XC.region <| rR rfl rfl rfl (RO.binInt rfl rfl rfl) <| XL.nil <| XQ.seq <| XC.seq ?_
    refine XC.cond (b := (decide (s2.1 < ((nn : Nat) : Int)))) rfl (fun c8 => ?_) (fun c8 => ?_)
    ·
     replace h2 := condT c8 h2
     refine XC.skip <| XQ.seq <| XC.seq <| XC.block <| XC.seq <| XC.region <| rM rfl rfl rfl ?_
     refine bindK h2 (fun x9 hx9 h2 => ?_)
     refine guardK h2 (fun g10 h2 => ?_)
     refine rR rfl rfl rfl (RO.indexO (α := Dcl) sl_22 rfl rfl hx9 g10) <| rR rfl rfl rfl (RO.loadOE (α := Dcl) (ys := [dI x9.kind, dS8 x9.name, dI x9.params, dI x9.ty.kind, dI x9.ty.index, dS8 x9.ty.name, dS x9.ty.levels, dS x9.ty.kids, dI x9.value.kind, dI x9.value.index, dS8 x9.value.name, dS x9.value.levels, dS x9.value.kids, dI x9.fixed, dS x9.ctors, dI x9.rcr.params, dI x9.rcr.ty.kind, dI x9.rcr.ty.index, dS8 x9.rcr.ty.name, dS x9.rcr.ty.levels, dS x9.rcr.ty.kids, dS x9.rcr.rules, dS x9.funs]) ag_48 rfl rfl hx9 rfl) <| XL.put rfl rfl (lb rfl) (OpOK.alloc z_48 rfl) <| rA rfl rfl rfl <| XL.eff rfl rfl (OpOK.storeCE (x9 : Dcl) ag_48 rfl rfl rfl rfl rfl) <| XL.nil <| XQ.seq <| XC.seq <| XC.region <| rR rfl rfl rfl (RO.loadCE (x9 : Dcl) ag_48 rfl rfl) ?_
     refine bindK h2 (fun x11 hx11 h2 => ?_)
     refine XL.put rfl rfl (lb rfl) (OpOK.callFun (m37_ok x9 x11 hx11) rfl (.cons (.agg (.cons (.d _) (.cons (.d _) (.cons (.d _) (.cons (.d _) (.cons (.d _) (.cons (.d _) (.cons (.d _) (.cons (.d _) (.cons (.d _) (.cons (.d _) (.cons (.d _) (.cons (.d _) (.cons (.d _) (.cons (.d _) (.cons (.d _) (.cons (.d _) (.cons (.d _) (.cons (.d _) (.cons (.d _) (.cons (.d _) (.cons (.d _) (.cons (.d _) (.cons (.d _) .nil)))))))))))))))))))))))) .nil)) <| rR rfl rfl rfl (RO.lenE (α := Bs) sl_23 rfl (.d _)) <| rM rfl rfl rfl <| XL.nil <| XQ.seq <| XC.block ?_
     refine XC.joinX 2 (fun (o12 : (GMap Bs Int)) => ⟨[(0, .v (.one (.osl 0 0 nn nn))), (2, .v (.one (.ptr 1 0))), (4, .v (.one (.ptr 3 0))), (20, .v (.one (.osl 0 0 nn nn))), (21, .v (.one (dI ((nn : Nat) : Int)))), (22, .v (.one (dI s2.1)))], [(0, .cells 48 (flatE a0)), (1, .cells 72 [dN, .d (.v (.map none))]), (2, .mp (gmE o12.1) o12.2), (3, .cells 72 [dN, .mp 2]), (4, .cells 48 (cE x9))], [], 5, 88, []⟩) (fun (o12 : (GMap Bs Int)) => (some (.next ((w64 (s2.1 + 1)), o12))) = some oo2) ?_ ?_
     ·
      refine bindK h2 (fun o13 hl3 h2 => ?_)
      refine XC.loopM (m12o_l0 x11 s2) (fun s3 => ⟨[(0, .v (.one (.osl 0 0 nn nn))), (2, .v (.one (.ptr 1 0))), (4, .v (.one (.ptr 3 0))), (5, .v (.one (dI s2.1))), (20, .v (.one (.osl 0 0 nn nn))), (21, .v (.one (dI ((nn : Nat) : Int)))), (22, .v (.one (dI s2.1))), (28, .v (.one (dS x11))), (29, .v (.one (dI (x11.length : Int)))), (30, .v (.one (dI s3.1)))], [(0, .cells 48 (flatE a0)), (1, .cells 72 [dN, .d (.v (.map none))]), (2, .mp (gmE s3.2.1) s3.2.2), (3, .cells 72 [dN, .mp 2]), (4, .cells 48 (cE x9))], [], 5, 88, []⟩) (0, s2.2) o13 (stle (tR rfl (tR rfl (tR rfl (tR rfl (tR rfl (tR rfl (tR rfl (tR rfl (tR rfl (tR rfl tZ)))))))))) (hR rfl (hR rfl (hR rfl (hR rfl (hR rfl hZ))))) kZ rfl (Nat.le_trans hv1 (lb rfl)) rfl rfl rfl (bF rfl (bB rfl rfl (bG rfl (bB rfl rfl (bB rfl rfl bZ))))) rfl rfl) hl3 (fun s3 n3 oo3 h3 ho3 => ?_)
      unfold m12o_l0 at h3
      refine XC.seq <| XC.region <| rR rfl rfl rfl (RO.binInt rfl rfl rfl) <| XL.nil <| XQ.seq <| XC.seq ?_
      refine XC.cond (b := (decide (s3.1 < (x11.length : Int)))) rfl (fun c14 => ?_) (fun c14 => ?_)
      ·
       replace h3 := condT c14 h3
       refine XC.skip <| XQ.seq <| XC.seq <| XC.block <| XC.seq <| XC.region ?_
       refine bindK h3 (fun x15 hx15 h3 => ?_)
       refine rR rfl rfl rfl (RO.indexE (α := Bs) sl_23 rfl (.d _) rfl hx15) <| rR rfl rfl rfl (RO.loadPel ag_9 rfl rfl) <| rA rfl rfl rfl <| XL.nil <| XQ.seq <| XC.seq <| XC.seq <| XC.region <| rR rfl rfl rfl (RO.fieldOwn fo_72_1 rfl) <| rR rfl rfl rfl (RO.loadOwn ag_70 rfl rfl rfl) <| rM rfl rfl rfl <| rR rfl rfl rfl (RO.lookupGT (M := s3.2) (k := x15) mp_70 zok_int rfl rfl rfl) <| rM rfl rfl rfl <| rR rfl rfl rfl (RO.extract rfl rfl) ?_
       refine rR rfl rfl rfl (RO.extract rfl rfl) <| rA rfl rfl rfl <| rA rfl rfl rfl <| XL.nil <| XQ.seq <| XC.seq <| XC.region <| rM rfl rfl rfl <| XL.nil <| XQ.seq ?_
       refine XC.cond (b := (gmHas s3.2 x15)) rfl (fun c16 => ?_) (fun c16 => ?_)
       ·
        replace h3 := condT c16 h3
        refine XC.seq <| XC.region <| rR rfl rfl rfl (RO.build0 bd_72 rfl ) <| XL.eff rfl rfl (OpOK.store ag_72 rfl rfl rfl rfl (lb rfl) rfl) <| rA rfl rfl rfl <| XL.nil <| XQ.seq <| XC.ret ?_
        have e_ := Option.some.inj h3
        subst e_
        have e_ : _ = _ := ho3
        subst e_
        try dsimp only [Sum.elim_inl, Sum.elim_inr] at h2
        have e_ := Option.some.inj h2
        subst e_
        have e_ : _ = _ := ho2
        subst e_
        try dsimp only [Sum.elim_inl, Sum.elim_inr] at h1
        have e_ := Option.some.inj h1
        subst e_
        exact hQ1 _ _ _ (.inr rfl) rfl (show StLe _ _ ⟨[(2, .v (.one (.ptr 1 0))), (3, .v (.one (dI 8)))], [(0, .cells 48 (flatE a0)), (1, .cells 72 [dN, .d (.v (.map none))])], [], 5, 88, []⟩ from (stle (tR rfl (tR rfl tZ)) (hR rfl (hR rfl hZ)) kZ rfl (Nat.le_trans hv1 (lb rfl)) rfl rfl rfl (bF rfl (bB rfl rfl bZ)) rfl rfl))
       ·
        replace h3 := condF c16 h3
        refine XC.skip <| XQ.seq <| XC.region <| rR rfl rfl rfl (RO.fieldOwn fo_72_1 rfl) <| rR rfl rfl rfl (RO.loadOwn ag_70 rfl rfl rfl) <| rM rfl rfl rfl <| rM rfl rfl rfl <| XL.eff rfl rfl (OpOK.mapSetG (M := s3.2) (k := x15) (v := s2.1) mp_70 rfl rfl rfl rfl rfl) <| XL.nil <| XQ.inBlock <| XQ.seq <| XC.region <| rR rfl rfl rfl (RO.binInt rfl rfl rfl) <| rM rfl rfl rfl ?_
        refine XL.nil ?_
        have e_ := Option.some.inj h3
        subst e_
        refine XQ.nextM ((w64 (s3.1 + 1)), (gmSet s3.2 x15 s2.1)) (stle (tR rfl (tR rfl (tR rfl (tR rfl (tR rfl (tR rfl (tR rfl (tR rfl (tR rfl (tR rfl tZ)))))))))) (hR rfl (hR rfl (hR rfl (hR rfl (hR rfl hZ))))) kZ rfl (Nat.le_trans hv1 (lb rfl)) rfl rfl rfl (bF rfl (bB rfl rfl (bG rfl (bB rfl rfl (bB rfl rfl bZ))))) rfl rfl) ho3
      ·
       replace h3 := condF c14 h3
       refine XC.exit <| XQ.thenE <| XQ.thenE ?_
       have e_ := Option.some.inj h3
       subst e_
       have e_ : _ = _ := ho3
       subst e_
       exact XQ.joinX s3.2 (stle (tR rfl (tR rfl (tR rfl (tR rfl (tR rfl (tR rfl tZ)))))) (hR rfl (hR rfl (hR rfl (hR rfl (hR rfl hZ))))) kZ rfl (Nat.le_trans hv1 (lb rfl)) rfl rfl rfl (bF rfl (bB rfl rfl (bG rfl (bB rfl rfl (bB rfl rfl bZ))))) rfl rfl) h2
     ·
      intro o12 h2
      refine XQ.blockX <| XQ.inBlock <| XQ.seq <| XC.region <| rR rfl rfl rfl (RO.binInt rfl rfl rfl) <| rM rfl rfl rfl <| XL.nil ?_
      have e_ := Option.some.inj h2
      subst e_
      refine XQ.nextM ((w64 (s2.1 + 1)), o12) (stle (tR rfl (tR rfl (tR rfl (tR rfl (tR rfl (tR rfl tZ)))))) (hR rfl (hR rfl (hR rfl (hR rfl hZ)))) kZ rfl (Nat.le_trans hv1 (lb rfl)) rfl rfl rfl (bF rfl (bB rfl rfl (bG rfl (bB rfl rfl bZ)))) rfl rfl) ho2
    ·
     replace h2 := condF c8 h2
     refine XC.exit <| XQ.thenE <| XQ.thenE ?_
     have e_ := Option.some.inj h2
     subst e_
     have e_ : _ = _ := ho2
     subst e_
     exact XQ.joinX s2.2 (stle (tR rfl (tR rfl (tR rfl tZ))) (hR rfl (hR rfl (hR rfl (hR rfl hZ)))) kZ rfl (Nat.le_trans hv1 (lb rfl)) rfl rfl rfl (bF rfl (bB rfl rfl (bG rfl (bB rfl rfl bZ)))) rfl rfl) h1
   ·
    intro o6 h1
    refine XQ.blockX <| XQ.seq <| XC.seq <| XC.seq <| XC.region <| rM rfl rfl rfl <| rR rfl rfl rfl (RO.lenOsl sl_22 rfl) <| rM rfl rfl rfl <| XL.nil <| XQ.seq <| XC.block ?_
    refine XC.joinX 4 (fun (o17 : (List (List Int))) => ⟨[(2, .v (.one (.ptr 1 0))), (4, .v (.one (.ptr 3 0)))], [(0, .cells 48 (flatE a0)), (1, .cells 72 [dN, .d (.v (.map none))]), (2, .mp (gmE o6.1) o6.2), (3, .cells 72 [dA 4 o17, .mp 2])], [(4, some ⟨54, 1, (Enc.encL o17).length, []⟩)], 5, 88, []⟩) (fun (o17 : (List (List Int))) => (some (.inl (o17, o6))) = some y5) ?_ ?_
    ·
     refine XC.adoptC (i := 3) (off := 0) 54 1 rfl rfl ?_
     refine bindK h1 (fun o18 hl2 h1 => ?_)
     refine XC.loopM (m12o_l3 nn a0 o6) (fun s2 => ⟨[(2, .v (.one (.ptr 1 0))), (4, .v (.one (.ptr 3 0))), (49, .v (.one (.osl 0 0 nn nn))), (50, .v (.one (dI ((nn : Nat) : Int)))), (51, .v (.one (dI s2.1)))], [(0, .cells 48 (flatE a0)), (1, .cells 72 [dN, .d (.v (.map none))]), (2, .mp (gmE o6.1) o6.2), (3, .cells 72 [dA 4 s2.2, .mp 2])], [(4, some ⟨54, 1, (Enc.encL s2.2).length, []⟩)], 5, 88, []⟩) (0, ([] : List (List Int))) o18 (stle (tR rfl (tR rfl (tR rfl (tR rfl (tR rfl tZ))))) (hR rfl (hR rfl (hR rfl (hR rfl hZ)))) (kR rfl kZ) rfl (Nat.le_trans hv1 (lb rfl)) rfl rfl rfl (bF rfl (bB rfl rfl (bG rfl (bB rfl rfl bZ)))) rfl rfl) hl2 (fun s2 n2 oo2 h2 ho2 => ?_)
     unfold m12o_l3 at h2
     refine XC.seq <| XC.region <| rR rfl rfl rfl (RO.binInt rfl rfl rfl) <| XL.nil <| XQ.seq <| XC.seq ?_
     refine XC.cond (b := (decide (s2.1 < ((nn : Nat) : Int)))) rfl (fun c19 => ?_) (fun c19 => ?_)
     ·
      replace h2 := condT c19 h2
      refine XC.skip <| XQ.seq <| XC.seq <| XC.block <| XC.seq <| XC.region ?_
      refine bindK h2 (fun x20 hx20 h2 => ?_)
      refine guardK h2 (fun g21 h2 => ?_)
      refine rR rfl rfl rfl (RO.indexO (α := Dcl) sl_22 rfl rfl hx20 g21) <| rR rfl rfl rfl (RO.loadOE (α := Dcl) (ys := [dI x20.kind, dS8 x20.name, dI x20.params, dI x20.ty.kind, dI x20.ty.index, dS8 x20.ty.name, dS x20.ty.levels, dS x20.ty.kids, dI x20.value.kind, dI x20.value.index, dS8 x20.value.name, dS x20.value.levels, dS x20.value.kids, dI x20.fixed, dS x20.ctors, dI x20.rcr.params, dI x20.rcr.ty.kind, dI x20.rcr.ty.index, dS8 x20.rcr.ty.name, dS x20.rcr.ty.levels, dS x20.rcr.ty.kids, dS x20.rcr.rules, dS x20.funs]) ag_48 rfl rfl hx20 rfl) <| XL.put rfl rfl (lb rfl) (OpOK.alloc z_48 rfl) <| XL.eff rfl rfl (OpOK.storeCE (x20 : Dcl) ag_48 rfl rfl rfl rfl rfl) <| XL.nil <| XQ.seq <| XC.seq <| XC.region <| rA rfl rfl rfl <| XL.nil <| XQ.seq <| XC.seq <| XC.seq <| XC.region ?_
      refine rR rfl rfl rfl (RO.loadCE (x20 : Dcl) ag_48 rfl rfl) ?_
      refine bindK h2 (fun x22 hx22 h2 => ?_)
      refine XL.put rfl rfl (lb rfl) (OpOK.callFun (m53_ok x20 x22 hx22) rfl (.cons (.agg (.cons (.d _) (.cons (.d _) (.cons (.d _) (.cons (.d _) (.cons (.d _) (.cons (.d _) (.cons (.d _) (.cons (.d _) (.cons (.d _) (.cons (.d _) (.cons (.d _) (.cons (.d _) (.cons (.d _) (.cons (.d _) (.cons (.d _) (.cons (.d _) (.cons (.d _) (.cons (.d _) (.cons (.d _) (.cons (.d _) (.cons (.d _) (.cons (.d _) (.cons (.d _) .nil)))))))))))))))))))))))) .nil)) <| rR rfl rfl rfl (RO.lenE (α := Bs) sl_23 rfl (.d _)) <| rM rfl rfl rfl <| XL.nil <| XQ.seq <| XC.block ?_
      refine XC.joinX 6 (fun (o23 : (List Int)) => ⟨[(2, .v (.one (.ptr 1 0))), (4, .v (.one (.ptr 3 0))), (13, .v (.one (.apv 6 1 ((Enc.encL o23).length) []))), (49, .v (.one (.osl 0 0 nn nn))), (50, .v (.one (dI ((nn : Nat) : Int)))), (51, .v (.one (dI s2.1)))], [(0, .cells 48 (flatE a0)), (1, .cells 72 [dN, .d (.v (.map none))]), (2, .mp (gmE o6.1) o6.2), (3, .cells 72 [dA 4 s2.2, .mp 2]), (5, .cells 48 (cE x20))], [(4, some ⟨54, 1, (Enc.encL s2.2).length, []⟩), (6, some ⟨3, 1, (Enc.encL o23).length, (Enc.encL o23).flatten⟩)], 7, 88, []⟩) (fun (o23 : (List Int)) => (Option.bind (sortF o23) fun (x24 : List Int) =>
        Option.bind (compactF x24 ((Enc.encL o23).length)) fun (x25 : List Int) =>
        guardO (Nat.ble (s2.2.length + ([x25]).length) 1000000000)
        (some (.next ((w64 (s2.1 + 1)), (s2.2 ++ ([x25])))))) = some oo2) ?_ ?_
      ·
       refine XC.adoptT (t := 13) 3 1 rfl <| XC.privT (α := Int) (t := 13) rfl rfl ?_
       refine bindK h2 (fun o24 hl3 h2 => ?_)
       refine XC.loopM (m12o_l2 x22 o6) (fun s3 => ⟨[(2, .v (.one (.ptr 1 0))), (4, .v (.one (.ptr 3 0))), (13, .v (.one (.apv 6 1 ((Enc.encL s3.1).length) []))), (49, .v (.one (.osl 0 0 nn nn))), (50, .v (.one (dI ((nn : Nat) : Int)))), (51, .v (.one (dI s2.1))), (56, .v (.one (dS x22))), (57, .v (.one (dI (x22.length : Int)))), (58, .v (.one (dI s3.2)))], [(0, .cells 48 (flatE a0)), (1, .cells 72 [dN, .d (.v (.map none))]), (2, .mp (gmE o6.1) o6.2), (3, .cells 72 [dA 4 s2.2, .mp 2]), (5, .cells 48 (cE x20))], [(4, some ⟨54, 1, (Enc.encL s2.2).length, []⟩), (6, some ⟨3, 1, (Enc.encL s3.1).length, (Enc.encL s3.1).flatten⟩)], 7, 88, []⟩) (([] : List Int), 0) o24 (stle (tR rfl (tR rfl (tR rfl (tR rfl (tR rfl (tR rfl (tR rfl (tR rfl (tR rfl tZ))))))))) (hR rfl (hR rfl (hR rfl (hR rfl (hR rfl hZ))))) (kR rfl (kR rfl kZ)) rfl (Nat.le_trans hv1 (lb rfl)) rfl rfl rfl (bF rfl (bB rfl rfl (bG rfl (bB rfl rfl (bB rfl rfl bZ))))) rfl rfl) hl3 (fun s3 n3 oo3 h3 ho3 => ?_)
       unfold m12o_l2 at h3
       refine XC.seq <| XC.region <| rR rfl rfl rfl (RO.binInt rfl rfl rfl) <| XL.nil <| XQ.seq <| XC.seq ?_
       refine XC.cond (b := (decide (s3.2 < (x22.length : Int)))) rfl (fun c25 => ?_) (fun c25 => ?_)
       ·
        replace h3 := condT c25 h3
        refine XC.skip <| XQ.seq <| XC.seq <| XC.block <| XC.seq <| XC.region ?_
        refine bindK h3 (fun x26 hx26 h3 => ?_)
        refine rR rfl rfl rfl (RO.indexE (α := Bs) sl_23 rfl (.d _) rfl hx26) <| rR rfl rfl rfl (RO.loadPel ag_9 rfl rfl) <| rA rfl rfl rfl <| XL.nil <| XQ.seq <| XC.seq <| XC.region <| rR rfl rfl rfl (RO.fieldOwn fo_72_1 rfl) <| rR rfl rfl rfl (RO.loadOwn ag_70 rfl rfl rfl) <| rM rfl rfl rfl <| rR rfl rfl rfl (RO.lookupGT (M := o6) (k := x26) mp_70 zok_int rfl rfl rfl) <| rM rfl rfl rfl <| rR rfl rfl rfl (RO.extract rfl rfl) <| rR rfl rfl rfl (RO.extract rfl rfl) ?_
        refine rA rfl rfl rfl <| rA rfl rfl rfl <| XL.nil <| XQ.seq <| XC.seq <| XC.seq <| XC.region <| rM rfl rfl rfl <| rR rfl rfl rfl (RO.not rfl) <| XL.nil <| XQ.seq ?_
        refine XC.cond (b := (!(gmHas o6 x26))) rfl (fun c27 => ?_) (fun c27 => ?_)
        ·
         replace h3 := condT c27 h3
         refine XC.seq <| XC.region <| rR rfl rfl rfl (RO.build0 bd_72 rfl ) <| XL.eff rfl rfl (OpOK.store ag_72 rfl rfl rfl rfl (lb rfl) rfl) <| rA rfl rfl rfl <| XL.nil <| XQ.seq <| XC.ret ?_
         have e_ := Option.some.inj h3
         subst e_
         have e_ : _ = _ := ho3
         subst e_
         try dsimp only [Sum.elim_inl, Sum.elim_inr] at h2
         have e_ := Option.some.inj h2
         subst e_
         have e_ : _ = _ := ho2
         subst e_
         try dsimp only [Sum.elim_inl, Sum.elim_inr] at h1
         have e_ := Option.some.inj h1
         subst e_
         exact hQ1 _ _ _ (.inr rfl) rfl (show StLe _ _ ⟨[(2, .v (.one (.ptr 1 0))), (3, .v (.one (dI 9)))], [(0, .cells 48 (flatE a0)), (1, .cells 72 [dN, .d (.v (.map none))])], [], 7, 88, []⟩ from (stle (tR rfl (tR rfl tZ)) (hR rfl (hR rfl hZ)) kZ rfl (Nat.le_trans hv1 (lb rfl)) rfl rfl rfl (bF rfl (bB rfl rfl bZ)) rfl rfl))
        ·
         replace h3 := condF c27 h3
         refine XC.skip <| XQ.seq <| XC.region <| rM rfl rfl rfl <| rM rfl rfl rfl <| XL.put rfl rfl (lb rfl) (OpOK.lit1E (α := Int) ((gmVal o6 x26)) sl_54 z_3 rfl rfl (lb rfl) (lb rfl) rfl rfl (.cons (.d _) .nil) rfl) ?_
         refine guardK h3 (fun g28 h3 => ?_)
         refine XL.put rfl rfl (lb rfl) (OpOK.appendPr (α := Int) (l := s3.1) (l2 := ([(gmVal o6 x26)] : List Int)) sl_54 el_3 rfl rfl rfl rfl (.app _ _) rfl g28) <| rA rfl rfl rfl <| XL.nil <| XQ.inBlock <| XQ.seq <| XC.region <| rR rfl rfl rfl (RO.binInt rfl rfl rfl) <| rM rfl rfl rfl <| XL.nil ?_
         have e_ := Option.some.inj h3
         subst e_
         refine XQ.nextM ((s3.1 ++ ([(gmVal o6 x26)])), (w64 (s3.2 + 1))) (stle (tR rfl (tR rfl (tR rfl (tR rfl (tR rfl (tR rfl (tR rfl (tR rfl (tR rfl tZ))))))))) (hR rfl (hR rfl (hR rfl (hR rfl (hR rfl hZ))))) (kR rfl (kR rfl kZ)) rfl (Nat.le_trans hv1 (lb rfl)) rfl rfl rfl (bF rfl (bB rfl rfl (bG rfl (bB rfl rfl (bB rfl rfl bZ))))) rfl rfl) ho3
       ·
        replace h3 := condF c25 h3
        refine XC.exit <| XQ.thenE <| XQ.thenE ?_
        have e_ := Option.some.inj h3
        subst e_
        have e_ : _ = _ := ho3
        subst e_
        exact XQ.joinX s3.1 (stle (tR rfl (tR rfl (tR rfl (tR rfl (tR rfl (tR rfl tZ)))))) (hR rfl (hR rfl (hR rfl (hR rfl (hR rfl hZ))))) (kR rfl (kR rfl kZ)) rfl (Nat.le_trans hv1 (lb rfl)) rfl rfl rfl (bF rfl (bB rfl rfl (bG rfl (bB rfl rfl (bB rfl rfl bZ))))) rfl rfl) h2
      ·
       intro o23 h2
       refine XQ.blockX <| XQ.seq <| XC.seq <| XC.region <| rM rfl rfl rfl ?_
       refine bindK h2 (fun x29 hx29 h2 => ?_)
       refine XL.put rfl rfl (lb rfl) (OpOK.callG (hp1' := []) (tk1' := [(6, some ⟨3, 1, (Enc.encL o23).length, (Enc.encL x29).flatten⟩)]) (hpF := [(0, .cells 48 (flatE a0)), (1, .cells 72 [dN, .d (.v (.map none))]), (2, .mp (gmE o6.1) o6.2), (3, .cells 72 [dA 4 s2.2, .mp 2]), (5, .cells 48 (cE x20))]) (tkF := [(4, some ⟨54, 1, (Enc.encL s2.2).length, []⟩)]) (res2 := resOf []) (nx2 := 7) [6] rfl rfl (sortF_ok o23 x29 hx29) rfl rfl qZ rfl rfl gZ (jR rfl jZ) (hR rfl (hR rfl (hR rfl (hR rfl (hR rfl hZ))))) (kR rfl kZ) rfl rfl rfl rfl rfl bZ rfl rfl rfl rfl) <| XL.nil <| XQ.seq ?_
       refine XC.anyRun [3, 5, 7] [(0, 1), (1, 1)] mixed (by kernel_rfl) (by kernel_rfl) (by kernel_rfl) ?_
       refine RunA.rd rfl rfl rfl (OpOK.of_ro (RO.fieldOwn fo_72_0 rfl)) rfl <| RunA.rd rfl rfl rfl (OpOK.of_ro (RO.loadOwn ag_57 rfl rfl rfl)) rfl <| RunA.rd rfl rfl rfl (OpOK.of_ro (RO.move rfl)) rfl ?_
       refine bindK h2 (fun x30 hx30 h2 => ?_)
       refine RunA.eff rfl rfl rfl (OpOK.callG (hp1' := []) (tk1' := [(7, some ⟨3, 1, (Enc.encL x30).length, []⟩)]) (hpF := [(0, .cells 48 (flatE a0)), (1, .cells 72 [dN, .d (.v (.map none))]), (2, .mp (gmE o6.1) o6.2), (3, .cells 72 [dA 4 s2.2, .mp 2]), (5, .cells 48 (cE x20))]) (tkF := [(4, some ⟨54, 1, (Enc.encL s2.2).length, []⟩)]) (res2 := resOf [.one (dA 7 x30)]) (nx2 := 8) [6] rfl rfl (compactF_ok x29 ((Enc.encL o23).length) x30 hx30) rfl rfl qZ rfl rfl gZ (jR rfl jZ) (hR rfl (hR rfl (hR rfl (hR rfl (hR rfl hZ))))) (kR rfl kZ) rfl rfl rfl rfl rfl bZ rfl rfl rfl rfl) rfl <| RunA.rd rfl rfl rfl (OpOK.data1E (α := List Int) (x30) sl_57 z_54 rfl rfl (lb rfl) rfl rfl (.cons (.app _ _ _) .nil) rfl) rfl ?_
       refine guardK h2 (fun g31 h2 => ?_)
       refine RunA.eff rfl rfl rfl (OpOK.appendE (α := List Int) sl_57 el_54 rfl rfl rfl rfl rfl (.d _) g31) rfl <| RunA.rd rfl rfl rfl (OpOK.of_ro (RO.fieldOwn fo_72_0 rfl)) rfl <| RunA.eff rfl rfl rfl (OpOK.store ag_57 rfl rfl rfl rfl (lb rfl) rfl) rfl ?_
       refine RunA.nil ⟨?ex, _, _, rfl, ?_⟩
       case ex => exact ⟨⟨_, rfl, _, _, rfl, rfl, rfl, .inl ⟨rfl, _, OpOK.of_ro (RO.fieldOwn fo_72_0 rfl), rfl⟩⟩, ⟨_, rfl, _, _, rfl, rfl, rfl, .inl ⟨rfl, _, OpOK.of_ro (RO.loadOwn ag_57 rfl rfl rfl), rfl⟩⟩, trivial⟩
       refine XQ.less (st' := ⟨[(2, .v (.one (.ptr 1 0))), (4, .v (.one (.ptr 3 0))), (49, .v (.one (.osl 0 0 nn nn))), (50, .v (.one (dI ((nn : Nat) : Int)))), (51, .v (.one (dI s2.1)))], [(0, .cells 48 (flatE a0)), (1, .cells 72 [dN, .d (.v (.map none))]), (2, .mp (gmE o6.1) o6.2), (3, .cells 72 [dA 4 ((s2.2 ++ ([x30])) : List (List Int)), .mp 2]), (5, .cells 48 (cE x20))], [(4, some ⟨54, 1, (Enc.encL ((s2.2 ++ ([x30])) : List (List Int))).length, []⟩), (7, some ⟨3, 1, (Enc.encL x30).length, []⟩)], 8, 88, []⟩) (stle (tR rfl (tR rfl (tR rfl (tR rfl (tR rfl tZ))))) (hR rfl (hR rfl (hR rfl (hR rfl (hR rfl hZ))))) (kR rfl (kR rfl kZ)) rfl (Nat.le_trans hv1 (lb rfl)) rfl rfl rfl (bF rfl (bB rfl rfl (bG rfl (bB rfl rfl (bB rfl rfl bZ))))) rfl rfl) <| XQ.inBlock <| XQ.seq <| XC.region <| rR rfl rfl rfl (RO.binInt rfl rfl rfl) <| rM rfl rfl rfl <| XL.nil ?_
       have e_ := Option.some.inj h2
       subst e_
       refine XQ.nextM ((w64 (s2.1 + 1)), (s2.2 ++ ([x30]))) (stle (tR rfl (tR rfl (tR rfl (tR rfl (tR rfl tZ))))) (hR rfl (hR rfl (hR rfl (hR rfl hZ)))) (kR rfl kZ) rfl (Nat.le_trans hv1 (lb rfl)) rfl rfl rfl (bF rfl (bB rfl rfl (bG rfl (bB rfl rfl bZ)))) rfl rfl) ho2
     ·
      replace h2 := condF c19 h2
      refine XC.exit <| XQ.thenE <| XQ.thenE ?_
      have e_ := Option.some.inj h2
      subst e_
      have e_ : _ = _ := ho2
      subst e_
      exact XQ.joinX s2.2 (stle (tR rfl (tR rfl tZ)) (hR rfl (hR rfl (hR rfl (hR rfl hZ)))) (kR rfl kZ) rfl (Nat.le_trans hv1 (lb rfl)) rfl rfl rfl (bF rfl (bB rfl rfl (bG rfl (bB rfl rfl bZ)))) rfl rfl) h1
    ·
     intro o17 h1
     refine XQ.blockX <| XQ.seq <| XC.seq <| XC.region <| rR rfl rfl rfl (RO.loadOwnAgg ag_72 rfl rfl rfl rfl) <| XL.eff rfl rfl (OpOK.store ag_72 rfl rfl rfl rfl (lb rfl) rfl) <| rA rfl rfl rfl <| XL.nil <| XQ.seq <| XC.ret ?_
     have e_ := Option.some.inj h1
     subst e_
     exact hQ1 _ _ _ (.inr rfl) rfl (show StLe _ _ ⟨[(2, .v (.one (.ptr 1 0))), (3, .v (.one (dI 0)))], [(0, .cells 48 (flatE a0)), (1, .cells 72 [dA 4 o17, .mp 2]), (2, .mp (gmE o6.1) o6.2)], [(4, some ⟨54, 1, (Enc.encL o17).length, []⟩)], 5, 88, []⟩ from (stle (tR rfl (tR rfl tZ)) (hR rfl (hR rfl (hR rfl hZ))) (kR rfl kZ) rfl (Nat.le_trans hv1 (lb rfl)) rfl rfl rfl (bF rfl (bB rfl rfl (bG rfl bZ))) rfl rfl))
  refine sumK (C := fun q_ => CallM Try.prog 34 [.one (.osl 0 0 nn nn)] ⟨[(0, .cells 48 (flatE a0))], [], 1⟩ (resOf (((Sum.elim (fun (y1 : (List (List Int)) × (GMap Bs Int)) => ([.agg [dA 4 y1.1, .mp 2], .one (dI 0)] : List AV)) (Sum.elim (fun (y2 : Unit) => ([.agg [dN, .d (.v (.map none))], .one (dI 8)] : List AV)) (fun (y3 : Unit) => ([.agg [dN, .d (.v (.map none))], .one (dI 9)] : List AV))))) q_)) ⟨(((Sum.elim (fun (y1 : (List (List Int)) × (GMap Bs Int)) => (⟨[(2, .v (.one (.ptr 1 0))), (3, .v (.one (dI 0)))], [(0, .cells 48 (flatE a0)), (1, .cells 72 [dA 4 y1.1, .mp 2]), (2, .mp (gmE y1.2.1) y1.2.2)], [(4, some ⟨54, 1, (Enc.encL y1.1).length, []⟩)], 5, 88, []⟩ : St)) (Sum.elim (fun (y2 : Unit) => (⟨[(2, .v (.one (.ptr 1 0))), (3, .v (.one (dI 8)))], [(0, .cells 48 (flatE a0)), (1, .cells 72 [dN, .d (.v (.map none))])], [], 5, 88, []⟩ : St)) (fun (y3 : Unit) => (⟨[(2, .v (.one (.ptr 1 0))), (3, .v (.one (dI 9)))], [(0, .cells 48 (flatE a0)), (1, .cells 72 [dN, .d (.v (.map none))])], [], 7, 88, []⟩ : St))))) q_).hp, (((Sum.elim (fun (y1 : (List (List Int)) × (GMap Bs Int)) => (⟨[(2, .v (.one (.ptr 1 0))), (3, .v (.one (dI 0)))], [(0, .cells 48 (flatE a0)), (1, .cells 72 [dA 4 y1.1, .mp 2]), (2, .mp (gmE y1.2.1) y1.2.2)], [(4, some ⟨54, 1, (Enc.encL y1.1).length, []⟩)], 5, 88, []⟩ : St)) (Sum.elim (fun (y2 : Unit) => (⟨[(2, .v (.one (.ptr 1 0))), (3, .v (.one (dI 8)))], [(0, .cells 48 (flatE a0)), (1, .cells 72 [dN, .d (.v (.map none))])], [], 5, 88, []⟩ : St)) (fun (y3 : Unit) => (⟨[(2, .v (.one (.ptr 1 0))), (3, .v (.one (dI 9)))], [(0, .cells 48 (flatE a0)), (1, .cells 72 [dN, .d (.v (.map none))])], [], 7, 88, []⟩ : St))))) q_).tk, (((Sum.elim (fun (y1 : (List (List Int)) × (GMap Bs Int)) => (⟨[(2, .v (.one (.ptr 1 0))), (3, .v (.one (dI 0)))], [(0, .cells 48 (flatE a0)), (1, .cells 72 [dA 4 y1.1, .mp 2]), (2, .mp (gmE y1.2.1) y1.2.2)], [(4, some ⟨54, 1, (Enc.encL y1.1).length, []⟩)], 5, 88, []⟩ : St)) (Sum.elim (fun (y2 : Unit) => (⟨[(2, .v (.one (.ptr 1 0))), (3, .v (.one (dI 8)))], [(0, .cells 48 (flatE a0)), (1, .cells 72 [dN, .d (.v (.map none))])], [], 5, 88, []⟩ : St)) (fun (y3 : Unit) => (⟨[(2, .v (.one (.ptr 1 0))), (3, .v (.one (dI 9)))], [(0, .cells 48 (flatE a0)), (1, .cells 72 [dN, .d (.v (.map none))])], [], 7, 88, []⟩ : St))))) q_).nx⟩) hc4 h0 (fun y1 hc4 h0 => ?_) (fun z_ hc4 h0 => sumK (C := fun q_ => CallM Try.prog 34 [.one (.osl 0 0 nn nn)] ⟨[(0, .cells 48 (flatE a0))], [], 1⟩ (resOf (((Sum.elim (fun (y1 : (List (List Int)) × (GMap Bs Int)) => ([.agg [dA 4 y1.1, .mp 2], .one (dI 0)] : List AV)) (Sum.elim (fun (y2 : Unit) => ([.agg [dN, .d (.v (.map none))], .one (dI 8)] : List AV)) (fun (y3 : Unit) => ([.agg [dN, .d (.v (.map none))], .one (dI 9)] : List AV))))) (.inr q_))) ⟨(((Sum.elim (fun (y1 : (List (List Int)) × (GMap Bs Int)) => (⟨[(2, .v (.one (.ptr 1 0))), (3, .v (.one (dI 0)))], [(0, .cells 48 (flatE a0)), (1, .cells 72 [dA 4 y1.1, .mp 2]), (2, .mp (gmE y1.2.1) y1.2.2)], [(4, some ⟨54, 1, (Enc.encL y1.1).length, []⟩)], 5, 88, []⟩ : St)) (Sum.elim (fun (y2 : Unit) => (⟨[(2, .v (.one (.ptr 1 0))), (3, .v (.one (dI 8)))], [(0, .cells 48 (flatE a0)), (1, .cells 72 [dN, .d (.v (.map none))])], [], 5, 88, []⟩ : St)) (fun (y3 : Unit) => (⟨[(2, .v (.one (.ptr 1 0))), (3, .v (.one (dI 9)))], [(0, .cells 48 (flatE a0)), (1, .cells 72 [dN, .d (.v (.map none))])], [], 7, 88, []⟩ : St))))) (.inr q_)).hp, (((Sum.elim (fun (y1 : (List (List Int)) × (GMap Bs Int)) => (⟨[(2, .v (.one (.ptr 1 0))), (3, .v (.one (dI 0)))], [(0, .cells 48 (flatE a0)), (1, .cells 72 [dA 4 y1.1, .mp 2]), (2, .mp (gmE y1.2.1) y1.2.2)], [(4, some ⟨54, 1, (Enc.encL y1.1).length, []⟩)], 5, 88, []⟩ : St)) (Sum.elim (fun (y2 : Unit) => (⟨[(2, .v (.one (.ptr 1 0))), (3, .v (.one (dI 8)))], [(0, .cells 48 (flatE a0)), (1, .cells 72 [dN, .d (.v (.map none))])], [], 5, 88, []⟩ : St)) (fun (y3 : Unit) => (⟨[(2, .v (.one (.ptr 1 0))), (3, .v (.one (dI 9)))], [(0, .cells 48 (flatE a0)), (1, .cells 72 [dN, .d (.v (.map none))])], [], 7, 88, []⟩ : St))))) (.inr q_)).tk, (((Sum.elim (fun (y1 : (List (List Int)) × (GMap Bs Int)) => (⟨[(2, .v (.one (.ptr 1 0))), (3, .v (.one (dI 0)))], [(0, .cells 48 (flatE a0)), (1, .cells 72 [dA 4 y1.1, .mp 2]), (2, .mp (gmE y1.2.1) y1.2.2)], [(4, some ⟨54, 1, (Enc.encL y1.1).length, []⟩)], 5, 88, []⟩ : St)) (Sum.elim (fun (y2 : Unit) => (⟨[(2, .v (.one (.ptr 1 0))), (3, .v (.one (dI 8)))], [(0, .cells 48 (flatE a0)), (1, .cells 72 [dN, .d (.v (.map none))])], [], 5, 88, []⟩ : St)) (fun (y3 : Unit) => (⟨[(2, .v (.one (.ptr 1 0))), (3, .v (.one (dI 9)))], [(0, .cells 48 (flatE a0)), (1, .cells 72 [dN, .d (.v (.map none))])], [], 7, 88, []⟩ : St))))) (.inr q_)).nx⟩) hc4 h0 (fun y2 hc4 h0 => ?_) (fun y3 hc4 h0 => ?_))
  ·
   replace hc4 : CallM Try.prog 34 [.one (.osl 0 0 nn nn)] ⟨[(0, .cells 48 (flatE a0))], [], 1⟩ (resOf [.agg [dA 4 y1.1, .mp 2], .one (dI 0)]) ⟨[(0, .cells 48 (flatE a0)), (1, .cells 72 [dA 4 y1.1, .mp 2]), (2, .mp (gmE y1.2.1) y1.2.2)], [(4, some ⟨54, 1, (Enc.encL y1.1).length, []⟩)], 5⟩ := hc4
   refine XL.put rfl rfl (lb rfl) (OpOK.callW rfl rfl rfl hc4 rfl (hR rfl hZ) kZ) <| rM rfl rfl rfl <| rR rfl rfl rfl (RO.extract rfl rfl) <| rR rfl rfl rfl (RO.extract rfl rfl) <| XL.put rfl rfl (lb rfl) (OpOK.alloc z_72 rfl) <| XL.eff rfl rfl (OpOK.store ag_72 rfl rfl rfl rfl (lb rfl) rfl) <| rA rfl rfl rfl <| XL.nil <| XQ.seq <| XC.seq <| XC.seq <| XC.region <| rM rfl rfl rfl <| rR rfl rfl rfl (RO.binInt rfl rfl rfl) ?_
   refine XL.nil <| XQ.seq ?_
   refine XC.cond rfl (fun h => nomatch h) (fun _ => ?_)
   refine XC.skip <| XQ.seq <| XC.seq ?_
   refine XC.anyRun [5] [] mixed (by kernel_rfl) (by kernel_rfl) (by kernel_rfl) ?_
   refine RunA.rd rfl rfl rfl (OpOK.of_ro (RO.loadOwnAgg ag_72 rfl rfl rfl rfl)) rfl <| RunA.rd rfl rfl rfl (OpOK.of_ro (RO.fieldOwn fo_72_0 rfl)) rfl <| RunA.rd rfl rfl rfl (OpOK.of_ro (RO.loadOwn ag_57 rfl rfl rfl)) rfl ?_
   refine bindK h0 (fun x32 hx32 h0 => ?_)
   refine RunA.rd rfl rfl rfl (OpOK.callFun (m36_ok y1.1 x32 hx32) rfl (.cons (.one (.app _ _ _)) .nil)) rfl <| RunA.rd rfl rfl rfl (OpOK.of_ro (RO.move rfl)) rfl ?_
   refine bindK h0 (fun y36 h1 h0 => ?_)
   have hc35 : CallM Try.prog 35 [.agg [dA 4 y1.1, .mp 2], .one (dS x32), .one (dS a1)] ⟨[(0, .cells 48 (flatE a0)), (1, .cells 72 [dA 4 y1.1, .mp 2]), (2, .mp (gmE y1.2.1) y1.2.2), (5, .cells 72 [dA 4 y1.1, .mp 2])], [(4, some ⟨54, 1, (Enc.encL y1.1).length, []⟩)], 6⟩ (resOf (((Sum.elim (fun (y33 : Unit) => ([.one (dN), .one (dI 9)] : List AV)) (fun (y34 : (List Bool)) => ([.one (.osl 8 0 ((x32.length : Int).toNat) ((x32.length : Int).toNat)), .one (dI 0)] : List AV)))) y36)) ⟨(((Sum.elim (fun (y33 : Unit) => (⟨[(6, .v (.one (dN))), (7, .v (.one (dI 9)))], [(0, .cells 48 (flatE a0)), (1, .cells 72 [dA 4 y1.1, .mp 2]), (2, .mp (gmE y1.2.1) y1.2.2), (5, .cells 72 [dA 4 y1.1, .mp 2])], [(4, some ⟨54, 1, (Enc.encL y1.1).length, []⟩)], 11, 38, []⟩ : St)) (fun (y34 : (List Bool)) => (⟨[(6, .v (.one (.osl 8 0 ((x32.length : Int).toNat) ((x32.length : Int).toNat)))), (7, .v (.one (dI 0)))], [(0, .cells 48 (flatE a0)), (1, .cells 72 [dA 4 y1.1, .mp 2]), (2, .mp (gmE y1.2.1) y1.2.2), (5, .cells 72 [dA 4 y1.1, .mp 2]), (8, .cells 4 (flatE y34))], [(4, some ⟨54, 1, (Enc.encL y1.1).length, []⟩)], 11, 38, []⟩ : St)))) y36).hp, (((Sum.elim (fun (y33 : Unit) => (⟨[(6, .v (.one (dN))), (7, .v (.one (dI 9)))], [(0, .cells 48 (flatE a0)), (1, .cells 72 [dA 4 y1.1, .mp 2]), (2, .mp (gmE y1.2.1) y1.2.2), (5, .cells 72 [dA 4 y1.1, .mp 2])], [(4, some ⟨54, 1, (Enc.encL y1.1).length, []⟩)], 11, 38, []⟩ : St)) (fun (y34 : (List Bool)) => (⟨[(6, .v (.one (.osl 8 0 ((x32.length : Int).toNat) ((x32.length : Int).toNat)))), (7, .v (.one (dI 0)))], [(0, .cells 48 (flatE a0)), (1, .cells 72 [dA 4 y1.1, .mp 2]), (2, .mp (gmE y1.2.1) y1.2.2), (5, .cells 72 [dA 4 y1.1, .mp 2]), (8, .cells 4 (flatE y34))], [(4, some ⟨54, 1, (Enc.encL y1.1).length, []⟩)], 11, 38, []⟩ : St)))) y36).tk, (((Sum.elim (fun (y33 : Unit) => (⟨[(6, .v (.one (dN))), (7, .v (.one (dI 9)))], [(0, .cells 48 (flatE a0)), (1, .cells 72 [dA 4 y1.1, .mp 2]), (2, .mp (gmE y1.2.1) y1.2.2), (5, .cells 72 [dA 4 y1.1, .mp 2])], [(4, some ⟨54, 1, (Enc.encL y1.1).length, []⟩)], 11, 38, []⟩ : St)) (fun (y34 : (List Bool)) => (⟨[(6, .v (.one (.osl 8 0 ((x32.length : Int).toNat) ((x32.length : Int).toNat)))), (7, .v (.one (dI 0)))], [(0, .cells 48 (flatE a0)), (1, .cells 72 [dA 4 y1.1, .mp 2]), (2, .mp (gmE y1.2.1) y1.2.2), (5, .cells 72 [dA 4 y1.1, .mp 2]), (8, .cells 4 (flatE y34))], [(4, some ⟨54, 1, (Enc.encL y1.1).length, []⟩)], 11, 38, []⟩ : St)))) y36).nx⟩ := by
    refine CallM.of_bodyT y36 ((Sum.elim (fun (y33 : Unit) => (⟨[(6, .v (.one (dN))), (7, .v (.one (dI 9)))], [(0, .cells 48 (flatE a0)), (1, .cells 72 [dA 4 y1.1, .mp 2]), (2, .mp (gmE y1.2.1) y1.2.2), (5, .cells 72 [dA 4 y1.1, .mp 2])], [(4, some ⟨54, 1, (Enc.encL y1.1).length, []⟩)], 11, 38, []⟩ : St)) (fun (y34 : (List Bool)) => (⟨[(6, .v (.one (.osl 8 0 ((x32.length : Int).toNat) ((x32.length : Int).toNat)))), (7, .v (.one (dI 0)))], [(0, .cells 48 (flatE a0)), (1, .cells 72 [dA 4 y1.1, .mp 2]), (2, .mp (gmE y1.2.1) y1.2.2), (5, .cells 72 [dA 4 y1.1, .mp 2]), (8, .cells 4 (flatE y34))], [(4, some ⟨54, 1, (Enc.encL y1.1).length, []⟩)], 11, 38, []⟩ : St)))) ((Sum.elim (fun (y33 : Unit) => ([.one (dN), .one (dI 9)] : List AV)) (fun (y34 : (List Bool)) => ([.one (.osl 8 0 ((x32.length : Int).toNat) ((x32.length : Int).toNat)), .one (dI 0)] : List AV)))) rfl rfl en_35 (lb rfl) (fun z_ => by cases z_ <;> rfl) (fun z_ => by cases z_ with
      | inl _ => exact (RAs.tmp rfl (RAs.tmp rfl .nil))
      | inr _ => exact (RAs.tmp rfl (RAs.tmp rfl .nil))) (fun w0 M V0 Q hv1 hQ1 => ?_)
    simp only [entry]
    refine XC.seq <| XC.region <| XL.put rfl rfl (lb rfl) (OpOK.box rfl) <| XL.put rfl rfl (lb rfl) (OpOK.box rfl) <| rA rfl rfl rfl <| rA rfl rfl rfl <| XL.nil <| XQ.seq <| XC.seq <| XC.region <| rR rfl rfl rfl (RO.loadOwn ag_57 rfl rfl rfl) <| rR rfl rfl rfl (RO.lenE (α := List Int) sl_57 rfl (.d _)) ?_
    refine guardK h1 (fun g37 h1 => ?_)
    refine XL.put rfl rfl (lb rfl) (OpOK.makeO (α := Bool) (z := false) sl_75 z_4 rfl rfl el_4 rfl rfl g37 rfl (by repeat (first | exact CLs.nil | refine CLs.cons (by first | exact .refl _ | exact .sub (.app _ _ _) | exact .sub (.nil _)) ?_))) ?_
    refine XL.put rfl rfl (lb rfl) (OpOK.alloc z_75 rfl) <| XL.eff rfl rfl (OpOK.store ag_75 rfl rfl rfl rfl (lb rfl) rfl) <| XL.nil <| XQ.seq <| XC.seq <| XC.region <| XL.put rfl rfl (lb rfl) (OpOK.alloc z_106 rfl) <| XL.nil <| XQ.seq <| XC.seq <| XC.region <| rR rfl rfl rfl (RO.makeFunc3 rfl rfl rfl) <| XL.eff rfl rfl (OpOK.store ag_106 rfl rfl rfl rfl (lb rfl) rfl) <| XL.nil ?_
    refine XQ.seq <| XC.seq <| XC.seq <| XC.region <| rM rfl rfl rfl <| rR rfl rfl rfl (RO.lenE (α := Bs) sl_23 rfl (.d _)) <| rM rfl rfl rfl <| XL.nil <| XQ.seq <| XC.block ?_
    refine XC.joinX 0 (fun (o38 : (List Bool)) => ⟨[(8, .v (.one (.ptr 9 0)))], [(0, .cells 48 (flatE a0)), (1, .cells 72 [dA 4 y1.1, .mp 2]), (2, .mp (gmE y1.2.1) y1.2.2), (5, .cells 72 [dA 4 y1.1, .mp 2]), (6, .cells 72 [dA 4 y1.1, .mp 2]), (7, .cells 57 [dS x32]), (8, .cells 4 (flatE o38)), (9, .cells 75 [.osl 8 0 ((x32.length : Int).toNat) ((x32.length : Int).toNat)]), (10, .cells 106 [.fn 56 [(9, 0), (7, 0), (10, 0)]])], [(4, some ⟨54, 1, (Enc.encL y1.1).length, []⟩)], 11, 38, []⟩) (fun (o38 : (List Bool)) => (some (.inr o38)) = some y36) ?_ ?_
    ·
     refine bindK h1 (fun o39 hl2 h1 => ?_)
     refine XC.loopM (m12o_l4 a1 y1 x32) (fun s2 => ⟨[(3, .v (.one (.ptr 6 0))), (8, .v (.one (.ptr 9 0))), (9, .v (.one (.ptr 10 0))), (18, .v (.one (dS a1))), (19, .v (.one (dI (a1.length : Int)))), (20, .v (.one (dI s2.1)))], [(0, .cells 48 (flatE a0)), (1, .cells 72 [dA 4 y1.1, .mp 2]), (2, .mp (gmE y1.2.1) y1.2.2), (5, .cells 72 [dA 4 y1.1, .mp 2]), (6, .cells 72 [dA 4 y1.1, .mp 2]), (7, .cells 57 [dS x32]), (8, .cells 4 (flatE s2.2)), (9, .cells 75 [.osl 8 0 ((x32.length : Int).toNat) ((x32.length : Int).toNat)]), (10, .cells 106 [.fn 56 [(9, 0), (7, 0), (10, 0)]])], [(4, some ⟨54, 1, (Enc.encL y1.1).length, []⟩)], 11, 38, []⟩) (0, (List.replicate (x32.length : Int).toNat false)) o39 (stle (tR rfl (tR rfl (tR rfl (tR rfl (tR rfl (tR rfl tZ)))))) (hR rfl (hR rfl (hR rfl (hR rfl (hR rfl (hR rfl (hR rfl (hR rfl (hR rfl hZ))))))))) (kR rfl kZ) rfl (Nat.le_trans hv1 (lb rfl)) rfl rfl rfl (bF rfl (bB rfl rfl (bG rfl (bB rfl rfl (bB rfl rfl (bB rfl rfl (bF rfl (bB rfl rfl (bB rfl rfl bZ))))))))) rfl rfl) hl2 (fun s2 n2 oo2 h2 ho2 => ?_)
     unfold m12o_l4 at h2
     refine XC.seq <| XC.region <| rR rfl rfl rfl (RO.binInt rfl rfl rfl) <| XL.nil <| XQ.seq <| XC.seq ?_
     refine XC.cond (b := (decide (s2.1 < (a1.length : Int)))) rfl (fun c40 => ?_) (fun c40 => ?_)
     ·
      replace h2 := condT c40 h2
      refine XC.skip <| XQ.seq <| XC.seq <| XC.block <| XC.seq <| XC.region ?_
      refine bindK h2 (fun x41 hx41 h2 => ?_)
      refine rR rfl rfl rfl (RO.indexE (α := Bs) sl_23 rfl (.d _) rfl hx41) <| rR rfl rfl rfl (RO.loadPel ag_9 rfl rfl) <| rA rfl rfl rfl <| XL.nil <| XQ.seq <| XC.seq <| XC.region <| rR rfl rfl rfl (RO.fieldOwn fo_72_1 rfl) <| rR rfl rfl rfl (RO.loadOwn ag_70 rfl rfl rfl) <| rM rfl rfl rfl <| rR rfl rfl rfl (RO.lookupGT (M := y1.2) (k := x41) mp_70 zok_int rfl rfl rfl) <| rM rfl rfl rfl <| rR rfl rfl rfl (RO.extract rfl rfl) <| rR rfl rfl rfl (RO.extract rfl rfl) ?_
      refine rA rfl rfl rfl <| rA rfl rfl rfl <| XL.nil <| XQ.seq <| XC.seq <| XC.seq <| XC.region <| rM rfl rfl rfl <| rR rfl rfl rfl (RO.not rfl) <| XL.nil <| XQ.seq ?_
      refine XC.cond (b := (!(gmHas y1.2 x41))) rfl (fun c42 => ?_) (fun c42 => ?_)
      ·
       replace h2 := condT c42 h2
       refine XC.seq <| XC.region <| rA rfl rfl rfl <| rA rfl rfl rfl <| XL.nil <| XQ.seq <| XC.ret ?_
       have e_ := Option.some.inj h2
       subst e_
       have e_ : _ = _ := ho2
       subst e_
       try dsimp only [Sum.elim_inl, Sum.elim_inr] at h1
       have e_ := Option.some.inj h1
       subst e_
       exact hQ1 _ _ _ (.inr rfl) rfl (show StLe _ _ ⟨[(6, .v (.one (dN))), (7, .v (.one (dI 9)))], [(0, .cells 48 (flatE a0)), (1, .cells 72 [dA 4 y1.1, .mp 2]), (2, .mp (gmE y1.2.1) y1.2.2), (5, .cells 72 [dA 4 y1.1, .mp 2])], [(4, some ⟨54, 1, (Enc.encL y1.1).length, []⟩)], 11, 38, []⟩ from (stle (tR rfl (tR rfl tZ)) (hR rfl (hR rfl (hR rfl (hR rfl hZ)))) (kR rfl kZ) rfl (Nat.le_trans hv1 (lb rfl)) rfl rfl rfl (bF rfl (bB rfl rfl (bG rfl (bB rfl rfl bZ)))) rfl rfl))
      ·
       replace h2 := condF c42 h2
       refine XC.skip <| XQ.seq <| XC.region <| rR rfl rfl rfl (RO.loadOwn ag_106 rfl rfl rfl) <| rM rfl rfl rfl ?_
       refine bindK h2 (fun x43 hx43 h2 => ?_)
       refine XL.put rfl rfl (lb rfl) (OpOK.callG (hp1' := [(9, .cells 75 [.osl 8 0 ((x32.length : Int).toNat) ((x32.length : Int).toNat)]), (8, .cells 4 (flatE x43)), (7, .cells 57 [dS x32]), (10, .cells 106 [.fn 56 [(9, 0), (7, 0), (10, 0)]])]) (tk1' := []) (hpF := [(0, .cells 48 (flatE a0)), (1, .cells 72 [dA 4 y1.1, .mp 2]), (2, .mp (gmE y1.2.1) y1.2.2), (5, .cells 72 [dA 4 y1.1, .mp 2]), (6, .cells 72 [dA 4 y1.1, .mp 2])]) (tkF := [(4, some ⟨54, 1, (Enc.encL y1.1).length, []⟩)]) (res2 := resOf []) (nx2 := 11) [9, 8, 7, 10] rfl rfl (m56f12_ok (gmVal y1.2 x41) ((x32.length : Int).toNat) s2.2 x32 x43 hx43) rfl rfl (qB rfl rfl (qF rfl (qB rfl rfl (qB rfl rfl qZ)))) rfl rfl (gR rfl (gF rfl (gR rfl (gR rfl gZ)))) jZ (hR rfl (hR rfl (hR rfl (hR rfl (hR rfl hZ))))) (kR rfl kZ) rfl rfl rfl rfl rfl (bB rfl rfl (bF rfl (bB rfl rfl (bB rfl rfl bZ)))) rfl rfl rfl rfl) <| XL.nil <| XQ.inBlock <| XQ.seq <| XC.region <| rR rfl rfl rfl (RO.binInt rfl rfl rfl) <| rM rfl rfl rfl <| XL.nil ?_
       have e_ := Option.some.inj h2
       subst e_
       refine XQ.nextM ((w64 (s2.1 + 1)), x43) (stle (tR rfl (tR rfl (tR rfl (tR rfl (tR rfl (tR rfl tZ)))))) (hR rfl (hR rfl (hR rfl (hR rfl (hR rfl (hR rfl (hR rfl (hR rfl (hR rfl hZ))))))))) (kR rfl kZ) rfl (Nat.le_trans hv1 (lb rfl)) rfl rfl rfl (bF rfl (bB rfl rfl (bG rfl (bB rfl rfl (bB rfl rfl (bB rfl rfl (bF rfl (bB rfl rfl (bB rfl rfl bZ))))))))) rfl rfl) ho2
     ·
      replace h2 := condF c40 h2
      refine XC.exit <| XQ.thenE <| XQ.thenE ?_
      have e_ := Option.some.inj h2
      subst e_
      have e_ : _ = _ := ho2
      subst e_
      exact XQ.joinX s2.2 (stle (tR rfl tZ) (hR rfl (hR rfl (hR rfl (hR rfl (hR rfl (hR rfl (hR rfl (hR rfl (hR rfl hZ))))))))) (kR rfl kZ) rfl (Nat.le_trans hv1 (lb rfl)) rfl rfl rfl (bF rfl (bB rfl rfl (bG rfl (bB rfl rfl (bB rfl rfl (bB rfl rfl (bF rfl (bB rfl rfl (bB rfl rfl bZ))))))))) rfl rfl) h1
    ·
     intro o38 h1
     refine XQ.blockX <| XQ.seq <| XC.seq <| XC.region <| rR rfl rfl rfl (RO.loadOwn ag_75 rfl rfl rfl) <| rA rfl rfl rfl <| rA rfl rfl rfl <| XL.nil <| XQ.seq <| XC.ret ?_
     have e_ := Option.some.inj h1
     subst e_
     exact hQ1 _ _ _ (.inr rfl) rfl (show StLe _ _ ⟨[(6, .v (.one (.osl 8 0 ((x32.length : Int).toNat) ((x32.length : Int).toNat)))), (7, .v (.one (dI 0)))], [(0, .cells 48 (flatE a0)), (1, .cells 72 [dA 4 y1.1, .mp 2]), (2, .mp (gmE y1.2.1) y1.2.2), (5, .cells 72 [dA 4 y1.1, .mp 2]), (8, .cells 4 (flatE o38))], [(4, some ⟨54, 1, (Enc.encL y1.1).length, []⟩)], 11, 38, []⟩ from (stle (tR rfl (tR rfl tZ)) (hR rfl (hR rfl (hR rfl (hR rfl (hR rfl hZ))))) (kR rfl kZ) rfl (Nat.le_trans hv1 (lb rfl)) rfl rfl rfl (bF rfl (bB rfl rfl (bG rfl (bB rfl rfl (bF rfl bZ))))) rfl rfl))
   refine sumK (C := fun q_ => CallM Try.prog 35 [.agg [dA 4 y1.1, .mp 2], .one (dS x32), .one (dS a1)] ⟨[(0, .cells 48 (flatE a0)), (1, .cells 72 [dA 4 y1.1, .mp 2]), (2, .mp (gmE y1.2.1) y1.2.2), (5, .cells 72 [dA 4 y1.1, .mp 2])], [(4, some ⟨54, 1, (Enc.encL y1.1).length, []⟩)], 6⟩ (resOf (((Sum.elim (fun (y33 : Unit) => ([.one (dN), .one (dI 9)] : List AV)) (fun (y34 : (List Bool)) => ([.one (.osl 8 0 ((x32.length : Int).toNat) ((x32.length : Int).toNat)), .one (dI 0)] : List AV)))) q_)) ⟨(((Sum.elim (fun (y33 : Unit) => (⟨[(6, .v (.one (dN))), (7, .v (.one (dI 9)))], [(0, .cells 48 (flatE a0)), (1, .cells 72 [dA 4 y1.1, .mp 2]), (2, .mp (gmE y1.2.1) y1.2.2), (5, .cells 72 [dA 4 y1.1, .mp 2])], [(4, some ⟨54, 1, (Enc.encL y1.1).length, []⟩)], 11, 38, []⟩ : St)) (fun (y34 : (List Bool)) => (⟨[(6, .v (.one (.osl 8 0 ((x32.length : Int).toNat) ((x32.length : Int).toNat)))), (7, .v (.one (dI 0)))], [(0, .cells 48 (flatE a0)), (1, .cells 72 [dA 4 y1.1, .mp 2]), (2, .mp (gmE y1.2.1) y1.2.2), (5, .cells 72 [dA 4 y1.1, .mp 2]), (8, .cells 4 (flatE y34))], [(4, some ⟨54, 1, (Enc.encL y1.1).length, []⟩)], 11, 38, []⟩ : St)))) q_).hp, (((Sum.elim (fun (y33 : Unit) => (⟨[(6, .v (.one (dN))), (7, .v (.one (dI 9)))], [(0, .cells 48 (flatE a0)), (1, .cells 72 [dA 4 y1.1, .mp 2]), (2, .mp (gmE y1.2.1) y1.2.2), (5, .cells 72 [dA 4 y1.1, .mp 2])], [(4, some ⟨54, 1, (Enc.encL y1.1).length, []⟩)], 11, 38, []⟩ : St)) (fun (y34 : (List Bool)) => (⟨[(6, .v (.one (.osl 8 0 ((x32.length : Int).toNat) ((x32.length : Int).toNat)))), (7, .v (.one (dI 0)))], [(0, .cells 48 (flatE a0)), (1, .cells 72 [dA 4 y1.1, .mp 2]), (2, .mp (gmE y1.2.1) y1.2.2), (5, .cells 72 [dA 4 y1.1, .mp 2]), (8, .cells 4 (flatE y34))], [(4, some ⟨54, 1, (Enc.encL y1.1).length, []⟩)], 11, 38, []⟩ : St)))) q_).tk, (((Sum.elim (fun (y33 : Unit) => (⟨[(6, .v (.one (dN))), (7, .v (.one (dI 9)))], [(0, .cells 48 (flatE a0)), (1, .cells 72 [dA 4 y1.1, .mp 2]), (2, .mp (gmE y1.2.1) y1.2.2), (5, .cells 72 [dA 4 y1.1, .mp 2])], [(4, some ⟨54, 1, (Enc.encL y1.1).length, []⟩)], 11, 38, []⟩ : St)) (fun (y34 : (List Bool)) => (⟨[(6, .v (.one (.osl 8 0 ((x32.length : Int).toNat) ((x32.length : Int).toNat)))), (7, .v (.one (dI 0)))], [(0, .cells 48 (flatE a0)), (1, .cells 72 [dA 4 y1.1, .mp 2]), (2, .mp (gmE y1.2.1) y1.2.2), (5, .cells 72 [dA 4 y1.1, .mp 2]), (8, .cells 4 (flatE y34))], [(4, some ⟨54, 1, (Enc.encL y1.1).length, []⟩)], 11, 38, []⟩ : St)))) q_).nx⟩) hc35 h0 (fun y33 hc35 h0 => ?_) (fun y34 hc35 h0 => ?_)
   ·
    replace hc35 : CallM Try.prog 35 [.agg [dA 4 y1.1, .mp 2], .one (dS x32), .one (dS a1)] ⟨[(0, .cells 48 (flatE a0)), (1, .cells 72 [dA 4 y1.1, .mp 2]), (2, .mp (gmE y1.2.1) y1.2.2), (5, .cells 72 [dA 4 y1.1, .mp 2])], [(4, some ⟨54, 1, (Enc.encL y1.1).length, []⟩)], 6⟩ (resOf [.one (dN), .one (dI 9)]) ⟨[(0, .cells 48 (flatE a0)), (1, .cells 72 [dA 4 y1.1, .mp 2]), (2, .mp (gmE y1.2.1) y1.2.2), (5, .cells 72 [dA 4 y1.1, .mp 2])], [(4, some ⟨54, 1, (Enc.encL y1.1).length, []⟩)], 11⟩ := hc35
    refine RunA.eff rfl rfl rfl (OpOK.callW rfl rfl rfl hc35 rfl (hR rfl (hR rfl (hR rfl (hR rfl hZ)))) (kR rfl kZ)) rfl <| RunA.rd rfl rfl rfl (OpOK.of_ro (RO.move rfl)) rfl <| RunA.rd rfl rfl rfl (OpOK.of_ro (RO.extract rfl rfl)) rfl <| RunA.rd rfl rfl rfl (OpOK.of_ro (RO.extract rfl rfl)) rfl <| RunA.rd rfl rfl rfl (OpOK.of_ro (RO.assign rfl)) rfl <| RunA.rd rfl rfl rfl (OpOK.of_ro (RO.assign rfl)) rfl ?_
    refine RunA.nil ⟨?ex, _, _, rfl, ?_⟩
    case ex => exact trivial
    refine XQ.less (st' := ⟨[(0, .v (.one (.osl 0 0 nn nn))), (7, .v (.one (dI 9))), (8, .v (.one (dN)))], [(0, .cells 48 (flatE a0)), (1, .cells 72 [dA 4 y1.1, .mp 2]), (2, .mp (gmE y1.2.1) y1.2.2), (5, .cells 72 [dA 4 y1.1, .mp 2])], [(4, some ⟨54, 1, (Enc.encL y1.1).length, []⟩)], 11, 49, []⟩) (stle (tR rfl (tR rfl (tR rfl tZ))) (hR rfl (hR rfl (hR rfl (hR rfl hZ)))) (kR rfl kZ) rfl (Nat.le_trans hv0 (lb rfl)) rfl rfl rfl (bF rfl (bB rfl rfl (bG rfl (bB rfl rfl bZ)))) rfl rfl) <| XQ.seq <| XC.seq <| XC.seq <| XC.region <| rM rfl rfl rfl <| rR rfl rfl rfl (RO.binInt rfl rfl rfl) <| XL.nil <| XQ.seq ?_
    refine XC.cond rfl (fun _ => ?_) (fun h => nomatch h)
    refine XC.seq <| XC.region <| rM rfl rfl rfl <| rA rfl rfl rfl <| rA rfl rfl rfl <| XL.nil <| XQ.seq <| XC.ret ?_
    have e_ := Option.some.inj h0
    subst e_
    exact hQ0 _ _ _ (.inr rfl) rfl (stle (tC rfl (.sub (.nil _)) (tR rfl tZ)) (hR rfl hZ) kZ rfl (Nat.le_trans hv0 (lb rfl)) rfl rfl rfl (bF rfl bZ) rfl rfl)
   ·
    replace hc35 : CallM Try.prog 35 [.agg [dA 4 y1.1, .mp 2], .one (dS x32), .one (dS a1)] ⟨[(0, .cells 48 (flatE a0)), (1, .cells 72 [dA 4 y1.1, .mp 2]), (2, .mp (gmE y1.2.1) y1.2.2), (5, .cells 72 [dA 4 y1.1, .mp 2])], [(4, some ⟨54, 1, (Enc.encL y1.1).length, []⟩)], 6⟩ (resOf [.one (.osl 8 0 ((x32.length : Int).toNat) ((x32.length : Int).toNat)), .one (dI 0)]) ⟨[(0, .cells 48 (flatE a0)), (1, .cells 72 [dA 4 y1.1, .mp 2]), (2, .mp (gmE y1.2.1) y1.2.2), (5, .cells 72 [dA 4 y1.1, .mp 2]), (8, .cells 4 (flatE y34))], [(4, some ⟨54, 1, (Enc.encL y1.1).length, []⟩)], 11⟩ := hc35
    refine RunA.eff rfl rfl rfl (OpOK.callW rfl rfl rfl hc35 rfl (hR rfl (hR rfl (hR rfl (hR rfl hZ)))) (kR rfl kZ)) rfl <| RunA.rd rfl rfl rfl (OpOK.of_ro (RO.move rfl)) rfl <| RunA.rd rfl rfl rfl (OpOK.of_ro (RO.extract rfl rfl)) rfl <| RunA.rd rfl rfl rfl (OpOK.of_ro (RO.extract rfl rfl)) rfl <| RunA.rd rfl rfl rfl (OpOK.of_ro (RO.assign rfl)) rfl <| RunA.rd rfl rfl rfl (OpOK.of_ro (RO.assign rfl)) rfl ?_
    refine RunA.nil ⟨?ex, _, _, rfl, ?_⟩
    case ex => exact trivial
    refine XQ.less (st' := ⟨[(0, .v (.one (.osl 0 0 nn nn))), (7, .v (.one (dI 0))), (8, .v (.one (.osl 8 0 ((x32.length : Int).toNat) ((x32.length : Int).toNat))))], [(0, .cells 48 (flatE a0)), (1, .cells 72 [dA 4 y1.1, .mp 2]), (2, .mp (gmE y1.2.1) y1.2.2), (5, .cells 72 [dA 4 y1.1, .mp 2]), (8, .cells 4 (flatE y34))], [(4, some ⟨54, 1, (Enc.encL y1.1).length, []⟩)], 11, 49, []⟩) (stle (tR rfl (tR rfl (tR rfl tZ))) (hR rfl (hR rfl (hR rfl (hR rfl (hR rfl hZ))))) (kR rfl kZ) rfl (Nat.le_trans hv0 (lb rfl)) rfl rfl rfl (bF rfl (bB rfl rfl (bG rfl (bB rfl rfl (bF rfl bZ))))) rfl rfl) <| XQ.seq <| XC.seq <| XC.seq <| XC.region <| rM rfl rfl rfl <| rR rfl rfl rfl (RO.binInt rfl rfl rfl) <| XL.nil <| XQ.seq ?_
    refine XC.cond rfl (fun h => nomatch h) (fun _ => ?_)
    refine XC.skip <| XQ.seq <| XC.seq <| XC.region <| rA rfl rfl rfl <| XL.nil <| XQ.seq <| XC.seq <| XC.seq <| XC.region <| rM rfl rfl rfl <| rR rfl rfl rfl (RO.lenOsl sl_22 rfl) <| rM rfl rfl rfl <| XL.nil ?_
    refine XQ.seq <| XC.block ?_
    refine XC.joinX 0 (fun (o44 : (List Bs)) => ⟨[(9, .v (.one (dA 11 o44)))], [(0, .cells 48 (flatE a0)), (1, .cells 72 [dA 4 y1.1, .mp 2]), (2, .mp (gmE y1.2.1) y1.2.2), (5, .cells 72 [dA 4 y1.1, .mp 2]), (8, .cells 4 (flatE y34))], [(4, some ⟨54, 1, (Enc.encL y1.1).length, []⟩), (11, some ⟨9, 1, (Enc.encL o44).length, []⟩)], 12, 49, []⟩) (fun (o44 : (List Bs)) => (some (o44, 0)) = some r) ?_ ?_
    ·
     refine XC.adoptT (t := 9) 9 1 rfl ?_
     refine bindK h0 (fun o45 hl1 h0 => ?_)
     refine XC.loopM (m12o_l5 nn a0 y34 x32) (fun s1 => ⟨[(8, .v (.one (.osl 8 0 ((x32.length : Int).toNat) ((x32.length : Int).toNat)))), (9, .v (.one (dA 11 s1.1))), (32, .v (.one (.osl 0 0 nn nn))), (33, .v (.one (dI ((nn : Nat) : Int)))), (34, .v (.one (dI s1.2)))], [(0, .cells 48 (flatE a0)), (1, .cells 72 [dA 4 y1.1, .mp 2]), (2, .mp (gmE y1.2.1) y1.2.2), (5, .cells 72 [dA 4 y1.1, .mp 2]), (8, .cells 4 (flatE y34))], [(4, some ⟨54, 1, (Enc.encL y1.1).length, []⟩), (11, some ⟨9, 1, (Enc.encL s1.1).length, []⟩)], 12, 49, []⟩) (([] : List Bs), 0) o45 (stle (tR rfl (tR rfl (tR rfl (tR rfl (tR rfl tZ))))) (hR rfl (hR rfl (hR rfl (hR rfl (hR rfl hZ))))) (kR rfl (kR rfl kZ)) rfl (Nat.le_trans hv0 (lb rfl)) rfl rfl rfl (bF rfl (bB rfl rfl (bG rfl (bB rfl rfl (bF rfl bZ))))) rfl rfl) hl1 (fun s1 n1 oo1 h1 ho1 => ?_)
     unfold m12o_l5 at h1
     refine XC.seq <| XC.region <| rR rfl rfl rfl (RO.binInt rfl rfl rfl) <| XL.nil <| XQ.seq <| XC.seq ?_
     refine XC.cond (b := (decide (s1.2 < ((nn : Nat) : Int)))) rfl (fun c46 => ?_) (fun c46 => ?_)
     ·
      replace h1 := condT c46 h1
      refine XC.skip <| XQ.seq <| XC.seq <| XC.block <| XC.seq <| XC.region <| rM rfl rfl rfl ?_
      refine bindK h1 (fun x47 hx47 h1 => ?_)
      refine guardK h1 (fun g48 h1 => ?_)
      refine rR rfl rfl rfl (RO.indexO (α := Dcl) sl_22 rfl rfl hx47 g48) <| rR rfl rfl rfl (RO.loadOE (α := Dcl) (ys := [dI x47.kind, dS8 x47.name, dI x47.params, dI x47.ty.kind, dI x47.ty.index, dS8 x47.ty.name, dS x47.ty.levels, dS x47.ty.kids, dI x47.value.kind, dI x47.value.index, dS8 x47.value.name, dS x47.value.levels, dS x47.value.kids, dI x47.fixed, dS x47.ctors, dI x47.rcr.params, dI x47.rcr.ty.kind, dI x47.rcr.ty.index, dS8 x47.rcr.ty.name, dS x47.rcr.ty.levels, dS x47.rcr.ty.kids, dS x47.rcr.rules, dS x47.funs]) ag_48 rfl rfl hx47 rfl) <| XL.put rfl rfl (lb rfl) (OpOK.alloc z_48 rfl) <| rA rfl rfl rfl <| XL.eff rfl rfl (OpOK.storeCE (x47 : Dcl) ag_48 rfl rfl rfl rfl rfl) <| XL.nil <| XQ.seq <| XC.seq <| XC.region <| rM rfl rfl rfl <| rM rfl rfl rfl ?_
      refine bindK h1 (fun x49 hx49 h1 => ?_)
      refine guardK h1 (fun g50 h1 => ?_)
      refine rR rfl rfl rfl (RO.indexO (α := Bool) sl_75 rfl rfl hx49 g50) <| rR rfl rfl rfl (RO.loadOF (α := Bool) (m := s1.2) (f := 0) ag_4 rfl rfl hx49 rfl) <| XL.nil <| XQ.seq ?_
      refine XC.cond (b := x49) rfl (fun c51 => ?_) (fun c51 => ?_)
      ·
       replace h1 := condT c51 h1
       refine XC.region <| rM rfl rfl rfl <| rR rfl rfl rfl (RO.loadCE (x47 : Dcl) ag_48 rfl rfl) ?_
       refine bindK h1 (fun x52 hx52 h1 => ?_)
       refine XL.put rfl rfl (lb rfl) (OpOK.callFun (m37_ok x47 x52 hx52) rfl (.cons (.agg (.cons (.d _) (.cons (.d _) (.cons (.d _) (.cons (.d _) (.cons (.d _) (.cons (.d _) (.cons (.d _) (.cons (.d _) (.cons (.d _) (.cons (.d _) (.cons (.d _) (.cons (.d _) (.cons (.d _) (.cons (.d _) (.cons (.d _) (.cons (.d _) (.cons (.d _) (.cons (.d _) (.cons (.d _) (.cons (.d _) (.cons (.d _) (.cons (.d _) (.cons (.d _) .nil)))))))))))))))))))))))) .nil)) ?_
       refine guardK h1 (fun g53 h1 => ?_)
       refine XL.put rfl rfl (lb rfl) (OpOK.appendE (α := Bs) sl_23 el_9 rfl rfl rfl rfl rfl (.d _) g53) <| rA rfl rfl rfl <| XL.nil <| XQ.inBlock <| XQ.seq <| XC.region <| rR rfl rfl rfl (RO.binInt rfl rfl rfl) <| rM rfl rfl rfl <| XL.nil ?_
       have e_ := Option.some.inj h1
       subst e_
       refine XQ.nextM ((s1.1 ++ x52), (w64 (s1.2 + 1))) (stle (tR rfl (tR rfl (tR rfl (tR rfl (tR rfl tZ))))) (hR rfl (hR rfl (hR rfl (hR rfl (hR rfl hZ))))) (kR rfl (kR rfl kZ)) rfl (Nat.le_trans hv0 (lb rfl)) rfl rfl rfl (bF rfl (bB rfl rfl (bG rfl (bB rfl rfl (bF rfl bZ))))) rfl rfl) ho1
      ·
       replace h1 := condF c51 h1
       refine XC.skip <| XQ.inBlock <| XQ.seq <| XC.region <| rR rfl rfl rfl (RO.binInt rfl rfl rfl) <| rM rfl rfl rfl <| XL.nil ?_
       have e_ := Option.some.inj h1
       subst e_
       refine XQ.nextM (s1.1, (w64 (s1.2 + 1))) (stle (tR rfl (tR rfl (tR rfl (tR rfl (tR rfl tZ))))) (hR rfl (hR rfl (hR rfl (hR rfl (hR rfl hZ))))) (kR rfl (kR rfl kZ)) rfl (Nat.le_trans hv0 (lb rfl)) rfl rfl rfl (bF rfl (bB rfl rfl (bG rfl (bB rfl rfl (bF rfl bZ))))) rfl rfl) ho1
     ·
      replace h1 := condF c46 h1
      refine XC.exit <| XQ.thenE <| XQ.thenE ?_
      have e_ := Option.some.inj h1
      subst e_
      have e_ : _ = _ := ho1
      subst e_
      exact XQ.joinX s1.1 (stle (tR rfl tZ) (hR rfl (hR rfl (hR rfl (hR rfl (hR rfl hZ))))) (kR rfl (kR rfl kZ)) rfl (Nat.le_trans hv0 (lb rfl)) rfl rfl rfl (bF rfl (bB rfl rfl (bG rfl (bB rfl rfl (bF rfl bZ))))) rfl rfl) h0
    ·
     intro o44 h0
     refine XQ.blockX <| XQ.seq <| XC.seq <| XC.region <| rM rfl rfl rfl <| rA rfl rfl rfl <| rA rfl rfl rfl <| XL.nil <| XQ.seq <| XC.ret ?_
     have e_ := Option.some.inj h0
     subst e_
     exact hQ0 _ _ _ (.inr rfl) rfl (stle (tC rfl (.sub (.app _ _ _)) (tR rfl tZ)) (hR rfl hZ) kZ rfl (Nat.le_trans hv0 (lb rfl)) rfl rfl rfl (bF rfl bZ) rfl rfl)
  ·
   replace hc4 : CallM Try.prog 34 [.one (.osl 0 0 nn nn)] ⟨[(0, .cells 48 (flatE a0))], [], 1⟩ (resOf [.agg [dN, .d (.v (.map none))], .one (dI 8)]) ⟨[(0, .cells 48 (flatE a0)), (1, .cells 72 [dN, .d (.v (.map none))])], [], 5⟩ := hc4
   refine XL.put rfl rfl (lb rfl) (OpOK.callW rfl rfl rfl hc4 rfl (hR rfl hZ) kZ) <| rM rfl rfl rfl <| rR rfl rfl rfl (RO.extract rfl rfl) <| rR rfl rfl rfl (RO.extract rfl rfl) <| XL.put rfl rfl (lb rfl) (OpOK.alloc z_72 rfl) <| XL.eff rfl rfl (OpOK.store ag_72 rfl rfl rfl rfl (lb rfl) rfl) <| rA rfl rfl rfl <| XL.nil <| XQ.seq <| XC.seq <| XC.seq <| XC.region <| rM rfl rfl rfl <| rR rfl rfl rfl (RO.binInt rfl rfl rfl) ?_
   refine XL.nil <| XQ.seq ?_
   refine XC.cond rfl (fun _ => ?_) (fun h => nomatch h)
   refine XC.seq <| XC.region <| rM rfl rfl rfl <| rA rfl rfl rfl <| rA rfl rfl rfl <| XL.nil <| XQ.seq <| XC.ret ?_
   have e_ := Option.some.inj h0
   subst e_
   exact hQ0 _ _ _ (.inr rfl) rfl (stle (tC rfl (.sub (.nil _)) (tR rfl tZ)) (hR rfl hZ) kZ rfl (Nat.le_trans hv0 (lb rfl)) rfl rfl rfl (bF rfl bZ) rfl rfl)
  ·
   replace hc4 : CallM Try.prog 34 [.one (.osl 0 0 nn nn)] ⟨[(0, .cells 48 (flatE a0))], [], 1⟩ (resOf [.agg [dN, .d (.v (.map none))], .one (dI 9)]) ⟨[(0, .cells 48 (flatE a0)), (1, .cells 72 [dN, .d (.v (.map none))])], [], 7⟩ := hc4
   refine XL.put rfl rfl (lb rfl) (OpOK.callW rfl rfl rfl hc4 rfl (hR rfl hZ) kZ) <| rM rfl rfl rfl <| rR rfl rfl rfl (RO.extract rfl rfl) <| rR rfl rfl rfl (RO.extract rfl rfl) <| XL.put rfl rfl (lb rfl) (OpOK.alloc z_72 rfl) <| XL.eff rfl rfl (OpOK.store ag_72 rfl rfl rfl rfl (lb rfl) rfl) <| rA rfl rfl rfl <| XL.nil <| XQ.seq <| XC.seq <| XC.seq <| XC.region <| rM rfl rfl rfl <| rR rfl rfl rfl (RO.binInt rfl rfl rfl) ?_
   refine XL.nil <| XQ.seq ?_
   refine XC.cond rfl (fun _ => ?_) (fun h => nomatch h)
   refine XC.seq <| XC.region <| rM rfl rfl rfl <| rA rfl rfl rfl <| rA rfl rfl rfl <| XL.nil <| XQ.seq <| XC.ret ?_
   have e_ := Option.some.inj h0
   subst e_
   exact hQ0 _ _ _ (.inr rfl) rfl (stle (tC rfl (.sub (.nil _)) (tR rfl tZ)) (hR rfl hZ) kZ rfl (Nat.le_trans hv0 (lb rfl)) rfl rfl rfl (bF rfl bZ) rfl rfl)
end Go.Proofs.Ytijcchddnnnmdaa
namespace Go.Proofs.Ytijcchddnnnmdaa
open Go.RowKit Go.Shelf
set_option linter.unusedSimpArgs false
set_option linter.unusedVariables false
theorem en_14 : Enters Try.prog 14 := enters_of Try.func14 (by kernel_rfl) rfl
def m14_l0 (a0 : List Bs) (a1 : List Bs) (s1 : Int) : Option (LO Int (Unit ⊕ Bool)) :=
  cond (decide (s1 < (a0.length : Int)))
    (Option.bind (idx a0 s1) fun (x4 : Bs) =>
  Option.bind (idx a1 s1) fun (x5 : Bs) =>
  cond (!(x4 == x5))
    (some (.done (.inr false)))
    (some (.next (w64 (s1 + 1)))))
    (some (.done (.inl ())))
def m14 (a0 : List Bs) (a1 : List Bs) : Option Bool :=
  cond ((a0.length : Int) != (a1.length : Int))
    (some false)
    (Option.bind (loopN (m14_l0 a0 a1) FUEL 0) (Sum.elim (fun (o2 : Unit) => some true) (fun o => some o)))
set_option maxRecDepth 100000 in
set_option maxHeartbeats 2000000 in
theorem m14_ok (a0 : List Bs) (a1 : List Bs) (r : Bool) (h0 : m14 a0 a1 = some r) : Fun Try.prog 14 [.one (dS a0), .one (dS a1)] (resOf [.one (dB r)]) := by
  unfold m14 at h0
  refine Fun.of_bodyM 9 26 Try.func14 rfl en_14 rfl (lb rfl) (fun S w => ?_)
  simp only [entry]
  refine XC.seq <| XC.region <| rA rfl rfl rfl <| XL.nil <| XQ.seq <| XC.seq <| XC.seq <| XC.region <| rM rfl rfl rfl <| rR rfl rfl rfl (RO.lenE (α := Bs) sl_23 rfl (.d _)) <| rM rfl rfl rfl <| rR rfl rfl rfl (RO.lenE (α := Bs) sl_23 rfl (.d _)) <| rR rfl rfl rfl (RO.binInt rfl rfl rfl) <| XL.nil ?_
  refine XQ.seq ?_
  refine XC.cond (b := ((a0.length : Int) != (a1.length : Int))) rfl (fun c1 => ?_) (fun c1 => ?_)
  ·
   replace h0 := condT c1 h0
   refine XC.seq <| XC.region <| rA rfl rfl rfl <| XL.nil <| XQ.seq <| XC.ret ?_
   have e_ := Option.some.inj h0
   subst e_
   exact XQ.retF (fun _ _ h => h) rfl (RAs.tmp rfl .nil) (.cons (.one (.d _)) .nil)
  ·
   replace h0 := condF c1 h0
   refine XC.skip <| XQ.seq <| XC.seq <| XC.seq <| XC.region <| rM rfl rfl rfl <| rR rfl rfl rfl (RO.lenE (α := Bs) sl_23 rfl (.d _)) <| rM rfl rfl rfl <| XL.nil <| XQ.seq <| XC.block ?_
   refine XC.joinX 0 (fun (o2 : Unit) => ⟨[], [], [], 0, 26, []⟩) (fun (o2 : Unit) => (some true) = some r) ?_ ?_
   ·
    refine bindK h0 (fun o3 hl1 h0 => ?_)
    refine XC.loopM (m14_l0 a0 a1) (fun s1 => ⟨[(0, .v (.one (dS a0))), (1, .v (.one (dS a1))), (12, .v (.one (dI (a0.length : Int)))), (13, .v (.one (dI s1)))], [], [], 0, 26, []⟩) 0 o3 (stle (tR rfl (tR rfl (tR rfl (tR rfl tZ)))) hZ kZ rfl (Nat.zero_le _) rfl rfl rfl bZ rfl rfl) hl1 (fun s1 n1 oo1 h1 ho1 => ?_)
    unfold m14_l0 at h1
    refine XC.seq <| XC.region <| rR rfl rfl rfl (RO.binInt rfl rfl rfl) <| XL.nil <| XQ.seq <| XC.seq ?_
    refine XC.cond (b := (decide (s1 < (a0.length : Int)))) rfl (fun c4 => ?_) (fun c4 => ?_)
    ·
     replace h1 := condT c4 h1
     refine XC.skip <| XQ.seq <| XC.seq <| XC.block <| XC.seq <| XC.region <| rM rfl rfl rfl <| rA rfl rfl rfl <| XL.nil <| XQ.seq <| XC.seq ?_
     refine XC.anyRun [] [] mixed (by kernel_rfl) (by kernel_rfl) (by kernel_rfl) ?_
     refine RunA.rd rfl rfl rfl (OpOK.of_ro (RO.move rfl)) rfl <| RunA.rd rfl rfl rfl (OpOK.of_ro (RO.move rfl)) rfl ?_
     refine bindK h1 (fun x5 hx5 h1 => ?_)
     refine RunA.rd rfl rfl rfl (OpOK.of_ro (RO.indexE (α := Bs) sl_23 rfl (.d _) rfl hx5)) rfl <| RunA.rd rfl rfl rfl (OpOK.of_ro (RO.loadPel ag_9 rfl rfl)) rfl <| RunA.rd rfl rfl rfl (OpOK.of_ro (RO.move rfl)) rfl <| RunA.rd rfl rfl rfl (OpOK.of_ro (RO.move rfl)) rfl ?_
     refine bindK h1 (fun x6 hx6 h1 => ?_)
     refine RunA.rd rfl rfl rfl (OpOK.of_ro (RO.indexE (α := Bs) sl_23 rfl (.d _) rfl hx6)) rfl <| RunA.rd rfl rfl rfl (OpOK.of_ro (RO.loadPel ag_9 rfl rfl)) rfl <| RunA.rd rfl rfl rfl (OpOK.of_ro (RO.neS rfl rfl)) rfl ?_
     refine RunA.nil ⟨?ex, _, _, rfl, ?_⟩
     case ex => exact trivial
     refine XQ.less (st' := ⟨[(0, .v (.one (dS a0))), (1, .v (.one (dS a1))), (12, .v (.one (dI (a0.length : Int)))), (13, .v (.one (dI s1))), (24, .v (.one (dB (!(x5 == x6)))))], [], [], 0, 26, []⟩) (stle (tR rfl (tR rfl (tR rfl (tR rfl (tR rfl tZ))))) hZ kZ rfl (Nat.zero_le _) rfl rfl rfl bZ rfl rfl) <| XQ.seq ?_
     refine XC.cond (b := (!(x5 == x6))) rfl (fun c7 => ?_) (fun c7 => ?_)
     ·
      replace h1 := condT c7 h1
      refine XC.seq <| XC.region <| rA rfl rfl rfl <| XL.nil <| XQ.seq <| XC.ret ?_
      have e_ := Option.some.inj h1
      subst e_
      have e_ : _ = _ := ho1
      subst e_
      try dsimp only [Sum.elim_inl, Sum.elim_inr] at h0
      have e_ := Option.some.inj h0
      subst e_
      exact XQ.retF (fun _ _ h => h) rfl (RAs.tmp rfl .nil) (.cons (.one (.d _)) .nil)
     ·
      replace h1 := condF c7 h1
      refine XC.skip <| XQ.inBlock <| XQ.seq <| XC.region <| rR rfl rfl rfl (RO.binInt rfl rfl rfl) <| rM rfl rfl rfl <| XL.nil ?_
      have e_ := Option.some.inj h1
      subst e_
      refine XQ.nextM (w64 (s1 + 1)) (stle (tR rfl (tR rfl (tR rfl (tR rfl tZ)))) hZ kZ rfl (Nat.zero_le _) rfl rfl rfl bZ rfl rfl) ho1
    ·
     replace h1 := condF c4 h1
     refine XC.exit <| XQ.thenE <| XQ.thenE ?_
     have e_ := Option.some.inj h1
     subst e_
     have e_ : _ = _ := ho1
     subst e_
     exact XQ.joinX () (stle tZ hZ kZ rfl (Nat.zero_le _) rfl rfl rfl bZ rfl rfl) h0
   ·
    intro o2 h0
    refine XQ.blockX <| XQ.seq <| XC.seq <| XC.region <| rA rfl rfl rfl <| XL.nil <| XQ.seq <| XC.ret ?_
    have e_ := Option.some.inj h0
    subst e_
    exact XQ.retF (fun _ _ h => h) rfl (RAs.tmp rfl .nil) (.cons (.one (.d _)) .nil)
end Go.Proofs.Ytijcchddnnnmdaa
namespace Go.Proofs.Ytijcchddnnnmdaa
open Go.RowKit
set_option linter.unusedSimpArgs false
set_option linter.unusedVariables false
set_option linter.unusedSectionVars false
section
variable {E : Env} {st : St} {d : Option Tmp} {ty : TypeId} {pos : String} {af : Array Edge} {g : Option (Nat × Bool)}
theorem OpOK.litO3 {α : Type} [Enc α] [EncLen α] (v1 v2 v3 : α) {t e : Nat} {zs : List Value} {o1 o2 o3 : Operand} {x1 x2 x3 : AV} {ys : List CA} (ht : tySlice E.P t = some (e, Enc.sz α)) (hze : tyZero E.P e = some zs) (hzl : zs.length = Enc.sz α) (hz : zs.all (·.oneCell') = true) (hlen : 3 * Enc.sz α ≤ 16777216)
    (h1 : ev st.tm o1 = some (.v x1)) (h2 : ev st.tm o2 = some (.v x2)) (h3 : ev st.tm o3 = some (.v x3)) (hf : fillL (rowPlaces (Enc.sz α) 3) (zeroRow zs 3) [(0, x1), (1, x2), (2, x3)] = some ys) (hs : CLs ys (flatE [v1, v2, v3])) :
    OpOK E ⟨d, .buildSlice t 3 #[(0, o1), (1, o2), (2, o3)], ty, pos, af, g⟩ st (.v (.one (.osl st.nx 0 3 3))) ⟨(st.nx, .cells e (flatE [v1, v2, v3])) :: st.hp, st.tk, st.nx + 1⟩ := by
  have ok := OpOK.litOsl (E := E) (st := st) (dd := d) (ty := ty) (pos := pos) (af := af) (g := g) (len := 3) (avs := [(0, x1), (1, x2), (2, x3)]) (parts := #[(0, o1), (1, o2), (2, o3)]) ht hze hzl hz hlen rfl (fun j i x hx => by
    match j, hx with
    | 0, hx => cases hx; exact ⟨o1, rfl, h1⟩
    | 1, hx => cases hx; exact ⟨o2, rfl, h2⟩
    | 2, hx => cases hx; exact ⟨o3, rfl, h3⟩) hf
  intro V a w hr ro n K Q hK
  refine ok V a w hr ro n K Q (fun V' w' v H hnx L hx => ?_)
  exact hK V' w' v (H.swapLe (.cells hs)) hnx L hx
theorem OpOK.storeOP {α : Type} [Enc α] [EncLen α] (l' : List α) {t n i off : Nat} {ag : Bool} {T : TypeId} {o1 o2 : Operand} {y y' : AV} {l : List α} (ht : tyAgg E.P t = some (ag, n)) (h1 : ev st.tm o1 = some (.v (.one (.ptr i off)))) (h2 : ev st.tm o2 = some (.v y)) (hs : ASub y y') (hn : y'.cells.length = n)
    (hi : lk st.hp i = some (.cells T (flatE l))) (hoff : Nat.ble (off + n) (l.length * Enc.sz α) = true) (e : setL (flatE l) off y'.cells = flatE l') (hdd : d = none) :
    OpOK E ⟨d, .store t o1 o2, ty, pos, af, g⟩ st (.tup []) ⟨(i, .cells T (flatE l')) :: dropK i st.hp, st.tk, st.nx⟩ := by
  have := OpOK.storeS (E := E) (st := st) (dd := d) (ty := ty) (pos := pos) (af := af) (g := g) ht h1 h2 hs hi hn (by rw [flatE_len]; exact Nat.le_of_ble_eq_true hoff) hdd
  rw [e] at this; exact this
theorem OpOK.data6E {α : Type} [Enc α] (v1 v2 v3 v4 v5 v6 : α) {t e : Nat} {zs : List Value} {o1 o2 o3 o4 o5 o6 : Operand} {x1 x2 x3 x4 x5 x6 : AV} {ys : List CA} (ht : tySlice E.P t = some (e, Enc.sz α)) (hze : tyZero E.P e = some zs) (hzl : zs.length = Enc.sz α) (hz : zs.all (·.oneCell') = true) (hlen : 6 * Enc.sz α ≤ 16777216)
    (h1 : ev st.tm o1 = some (.v x1)) (h2 : ev st.tm o2 = some (.v x2)) (h3 : ev st.tm o3 = some (.v x3)) (h4 : ev st.tm o4 = some (.v x4)) (h5 : ev st.tm o5 = some (.v x5)) (h6 : ev st.tm o6 = some (.v x6)) (hf : fillL (rowPlaces (Enc.sz α) 6) (zeroRow zs 6) [(0, x1), (1, x2), (2, x3), (3, x4), (4, x5), (5, x6)] = some ys) (hs : CSubs ys (Enc.enc v1 ++ (Enc.enc v2 ++ (Enc.enc v3 ++ (Enc.enc v4 ++ (Enc.enc v5 ++ (Enc.enc v6))))))) (hel : (Enc.enc v1).length = Enc.sz α ∧ (Enc.enc v2).length = Enc.sz α ∧ (Enc.enc v3).length = Enc.sz α ∧ (Enc.enc v4).length = Enc.sz α ∧ (Enc.enc v5).length = Enc.sz α ∧ (Enc.enc v6).length = Enc.sz α) :
    OpOK E ⟨d, .buildSlice t 6 #[(0, o1), (1, o2), (2, o3), (3, o4), (4, o5), (5, o6)], ty, pos, af, g⟩ st (.v (.one (.d (.sl (Enc.sz α) (Enc.encL [v1, v2, v3, v4, v5, v6]))))) ⟨st.hp, st.tk, st.nx⟩ :=
  OpOK.litData (avs := [(0, x1), (1, x2), (2, x3), (3, x4), (4, x5), (5, x6)]) (Enc.encL [v1, v2, v3, v4, v5, v6]) ht hze hzl hz hlen rfl (fun j i x hx => by
    match j, hx with
    | 0, hx => cases hx; exact ⟨o1, rfl, h1⟩
    | 1, hx => cases hx; exact ⟨o2, rfl, h2⟩
    | 2, hx => cases hx; exact ⟨o3, rfl, h3⟩
    | 3, hx => cases hx; exact ⟨o4, rfl, h4⟩
    | 4, hx => cases hx; exact ⟨o5, rfl, h5⟩
    | 5, hx => cases hx; exact ⟨o6, rfl, h6⟩) hf (by rw [Enc.cons, Enc.cons, Enc.cons, Enc.cons, Enc.cons, Enc.one]; simpa using hs) (fun x hx => by
      rw [Enc.cons, Enc.cons, Enc.cons, Enc.cons, Enc.cons, Enc.one] at hx; simp at hx
      rcases hx with rfl | rfl | rfl | rfl | rfl | rfl
      · exact hel.1
      · exact hel.2.1
      · exact hel.2.2.1
      · exact hel.2.2.2.1
      · exact hel.2.2.2.2.1
      · exact hel.2.2.2.2.2) (by rw [Enc.len]; rfl)
end
end Go.Proofs.Ytijcchddnnnmdaa
namespace Go.Proofs.Ytijcchddnnnmdaa
open Go.RowKit Go.Shelf
set_option linter.unusedSimpArgs false
set_option linter.unusedVariables false
theorem sl_39 : tySlice Try.prog 39 = some (102, 2) := by kernel_rfl
theorem z_102 : tyZero Try.prog 102 = some [.int .i64 0, .slice none 0 0] := by kernel_rfl
theorem bd_42 : IsStruct Try.prog 42 [(0, 1), (1, 1), (2, 1), (3, 1), (4, 1)] [.int .i64 0, .int .i64 0, .string ByteArray.empty, .slice none 0 0, .slice none 0 0] := ⟨by kernel_rfl, by kernel_rfl⟩
theorem bd_48 : IsStruct Try.prog 48 [(0, 1), (1, 1), (2, 1), (3, 5), (8, 5), (13, 1), (14, 1), (15, 7), (22, 1)] [.int .i64 0, .string ByteArray.empty, .int .i64 0, .int .i64 0, .int .i64 0, .string ByteArray.empty, .slice none 0 0, .slice none 0 0, .int .i64 0, .int .i64 0, .string ByteArray.empty, .slice none 0 0, .slice none 0 0, .int .i64 0, .slice none 0 0, .int .i64 0, .int .i64 0, .int .i64 0, .string ByteArray.empty, .slice none 0 0, .slice none 0 0, .slice none 0 0, .slice none 0 0] := ⟨by kernel_rfl, by kernel_rfl⟩
theorem bd_84 : IsStruct Try.prog 84 [(0, 1), (1, 5)] [.string ByteArray.empty, .int .i64 0, .int .i64 0, .string ByteArray.empty, .slice none 0 0, .slice none 0 0] := ⟨by kernel_rfl, by kernel_rfl⟩
theorem bd_102 : IsStruct Try.prog 102 [(0, 1), (1, 1)] [.int .i64 0, .slice none 0 0] := ⟨by kernel_rfl, by kernel_rfl⟩
theorem en_11 : Enters Try.prog 11 := enters_of Try.func11 (by kernel_rfl) rfl
theorem en_33 : Enters Try.prog 33 := enters_of Try.func33 (by kernel_rfl) rfl
def m11  : Option Bool :=
  Option.bind (some ()) (fun (y1 : Unit) => Option.bind (m23o ([(⟨0, ([112, 108, 117, 115] : List UInt8), 0, (Tm.mk 3 0 ([78, 97, 116] : List UInt8) ([] : List Lvl) ([] : List Tm)), (Tm.mk 0 0 ([] : List UInt8) ([] : List Lvl) ([] : List Tm)), 0, ([] : List Ctr), (⟨0, (Tm.mk 0 0 ([] : List UInt8) ([] : List Lvl) ([] : List Tm)), ([] : List Tm)⟩ : Rcr), ([] : List Fn)⟩ : Dcl), (⟨3, ([78, 97, 116] : List UInt8), 0, (Tm.mk 2 0 ([] : List UInt8) [(⟨0, ([] : List LV)⟩ : Lvl)] ([] : List Tm)), (Tm.mk 0 0 ([] : List UInt8) ([] : List Lvl) ([] : List Tm)), 0, [(⟨([78, 97, 116, 46, 122, 101, 114, 111] : List UInt8), (Tm.mk 3 0 ([78, 97, 116] : List UInt8) ([] : List Lvl) ([] : List Tm))⟩ : Ctr), (⟨([78, 97, 116, 46, 115, 117, 99, 99] : List UInt8), (Tm.mk 3 0 ([78, 97, 116] : List UInt8) ([] : List Lvl) ([] : List Tm))⟩ : Ctr)], (⟨0, (Tm.mk 0 0 ([] : List UInt8) ([] : List Lvl) ([] : List Tm)), ([] : List Tm)⟩ : Rcr), ([] : List Fn)⟩ : Dcl), (⟨1, ([116, 119, 111] : List UInt8), 0, (Tm.mk 3 0 ([78, 97, 116] : List UInt8) ([] : List Lvl) ([] : List Tm)), (Tm.mk 3 0 ([78, 97, 116, 46, 122, 101, 114, 111] : List UInt8) ([] : List Lvl) ([] : List Tm)), 0, ([] : List Ctr), (⟨0, (Tm.mk 0 0 ([] : List UInt8) ([] : List Lvl) ([] : List Tm)), ([] : List Tm)⟩ : Rcr), ([] : List Fn)⟩ : Dcl)]) 3) fun (x3 : (List (List Int)) × Int) =>
  Option.bind (m22o ([(⟨0, ([112, 108, 117, 115] : List UInt8), 0, (Tm.mk 3 0 ([78, 97, 116] : List UInt8) ([] : List Lvl) ([] : List Tm)), (Tm.mk 0 0 ([] : List UInt8) ([] : List Lvl) ([] : List Tm)), 0, ([] : List Ctr), (⟨0, (Tm.mk 0 0 ([] : List UInt8) ([] : List Lvl) ([] : List Tm)), ([] : List Tm)⟩ : Rcr), ([] : List Fn)⟩ : Dcl), (⟨3, ([78, 97, 116] : List UInt8), 0, (Tm.mk 2 0 ([] : List UInt8) [(⟨0, ([] : List LV)⟩ : Lvl)] ([] : List Tm)), (Tm.mk 0 0 ([] : List UInt8) ([] : List Lvl) ([] : List Tm)), 0, [(⟨([78, 97, 116, 46, 122, 101, 114, 111] : List UInt8), (Tm.mk 3 0 ([78, 97, 116] : List UInt8) ([] : List Lvl) ([] : List Tm))⟩ : Ctr), (⟨([78, 97, 116, 46, 115, 117, 99, 99] : List UInt8), (Tm.mk 3 0 ([78, 97, 116] : List UInt8) ([] : List Lvl) ([] : List Tm))⟩ : Ctr)], (⟨0, (Tm.mk 0 0 ([] : List UInt8) ([] : List Lvl) ([] : List Tm)), ([] : List Tm)⟩ : Rcr), ([] : List Fn)⟩ : Dcl), (⟨1, ([116, 119, 111] : List UInt8), 0, (Tm.mk 3 0 ([78, 97, 116] : List UInt8) ([] : List Lvl) ([] : List Tm)), (Tm.mk 3 0 ([78, 97, 116, 46, 122, 101, 114, 111] : List UInt8) ([] : List Lvl) ([] : List Tm)), 0, ([] : List Ctr), (⟨0, (Tm.mk 0 0 ([] : List UInt8) ([] : List Lvl) ([] : List Tm)), ([] : List Tm)⟩ : Rcr), ([] : List Fn)⟩ : Dcl)]) 3) fun (x4 : (List Int) × Int) =>
  Option.bind (m12o ([(⟨0, ([112, 108, 117, 115] : List UInt8), 0, (Tm.mk 3 0 ([78, 97, 116] : List UInt8) ([] : List Lvl) ([] : List Tm)), (Tm.mk 0 0 ([] : List UInt8) ([] : List Lvl) ([] : List Tm)), 0, ([] : List Ctr), (⟨0, (Tm.mk 0 0 ([] : List UInt8) ([] : List Lvl) ([] : List Tm)), ([] : List Tm)⟩ : Rcr), ([] : List Fn)⟩ : Dcl), (⟨3, ([78, 97, 116] : List UInt8), 0, (Tm.mk 2 0 ([] : List UInt8) [(⟨0, ([] : List LV)⟩ : Lvl)] ([] : List Tm)), (Tm.mk 0 0 ([] : List UInt8) ([] : List Lvl) ([] : List Tm)), 0, [(⟨([78, 97, 116, 46, 122, 101, 114, 111] : List UInt8), (Tm.mk 3 0 ([78, 97, 116] : List UInt8) ([] : List Lvl) ([] : List Tm))⟩ : Ctr), (⟨([78, 97, 116, 46, 115, 117, 99, 99] : List UInt8), (Tm.mk 3 0 ([78, 97, 116] : List UInt8) ([] : List Lvl) ([] : List Tm))⟩ : Ctr)], (⟨0, (Tm.mk 0 0 ([] : List UInt8) ([] : List Lvl) ([] : List Tm)), ([] : List Tm)⟩ : Rcr), ([] : List Fn)⟩ : Dcl), (⟨1, ([116, 119, 111] : List UInt8), 0, (Tm.mk 3 0 ([78, 97, 116] : List UInt8) ([] : List Lvl) ([] : List Tm)), (Tm.mk 3 0 ([78, 97, 116, 46, 122, 101, 114, 111] : List UInt8) ([] : List Lvl) ([] : List Tm)), 0, ([] : List Ctr), (⟨0, (Tm.mk 0 0 ([] : List UInt8) ([] : List Lvl) ([] : List Tm)), ([] : List Tm)⟩ : Rcr), ([] : List Fn)⟩ : Dcl)]) ([([78, 97, 116] : List UInt8)]) 3) fun (x5 : (List Bs) × Int) =>
  Option.bind (m15o ([(⟨0, ([112, 108, 117, 115] : List UInt8), 0, (Tm.mk 3 0 ([78, 97, 116] : List UInt8) ([] : List Lvl) ([] : List Tm)), (Tm.mk 0 0 ([] : List UInt8) ([] : List Lvl) ([] : List Tm)), 0, ([] : List Ctr), (⟨0, (Tm.mk 0 0 ([] : List UInt8) ([] : List Lvl) ([] : List Tm)), ([] : List Tm)⟩ : Rcr), ([] : List Fn)⟩ : Dcl), (⟨3, ([78, 97, 116] : List UInt8), 0, (Tm.mk 2 0 ([] : List UInt8) [(⟨0, ([] : List LV)⟩ : Lvl)] ([] : List Tm)), (Tm.mk 0 0 ([] : List UInt8) ([] : List Lvl) ([] : List Tm)), 0, [(⟨([78, 97, 116, 46, 122, 101, 114, 111] : List UInt8), (Tm.mk 3 0 ([78, 97, 116] : List UInt8) ([] : List Lvl) ([] : List Tm))⟩ : Ctr), (⟨([78, 97, 116, 46, 115, 117, 99, 99] : List UInt8), (Tm.mk 3 0 ([78, 97, 116] : List UInt8) ([] : List Lvl) ([] : List Tm))⟩ : Ctr)], (⟨0, (Tm.mk 0 0 ([] : List UInt8) ([] : List Lvl) ([] : List Tm)), ([] : List Tm)⟩ : Rcr), ([] : List Fn)⟩ : Dcl), (⟨1, ([116, 119, 111] : List UInt8), 0, (Tm.mk 3 0 ([78, 97, 116] : List UInt8) ([] : List Lvl) ([] : List Tm)), (Tm.mk 3 0 ([78, 97, 116, 46, 122, 101, 114, 111] : List UInt8) ([] : List Lvl) ([] : List Tm)), 0, ([] : List Ctr), (⟨0, (Tm.mk 0 0 ([] : List UInt8) ([] : List Lvl) ([] : List Tm)), ([] : List Tm)⟩ : Rcr), ([] : List Fn)⟩ : Dcl)]) ([([116, 119, 111] : List UInt8)]) 3) fun (x6 : (List Dcl) × Int) =>
  Option.bind (idx ([(⟨0, ([112, 108, 117, 115] : List UInt8), 0, (Tm.mk 3 0 ([78, 97, 116] : List UInt8) ([] : List Lvl) ([] : List Tm)), (Tm.mk 0 0 ([] : List UInt8) ([] : List Lvl) ([] : List Tm)), 0, ([] : List Ctr), (⟨0, (Tm.mk 0 0 ([] : List UInt8) ([] : List Lvl) ([] : List Tm)), ([] : List Tm)⟩ : Rcr), ([] : List Fn)⟩ : Dcl), (⟨3, ([78, 97, 116] : List UInt8), 0, (Tm.mk 2 0 ([] : List UInt8) [(⟨0, ([] : List LV)⟩ : Lvl)] ([] : List Tm)), (Tm.mk 0 0 ([] : List UInt8) ([] : List Lvl) ([] : List Tm)), 0, [(⟨([78, 97, 116, 46, 122, 101, 114, 111] : List UInt8), (Tm.mk 3 0 ([78, 97, 116] : List UInt8) ([] : List Lvl) ([] : List Tm))⟩ : Ctr), (⟨([78, 97, 116, 46, 115, 117, 99, 99] : List UInt8), (Tm.mk 3 0 ([78, 97, 116] : List UInt8) ([] : List Lvl) ([] : List Tm))⟩ : Ctr)], (⟨0, (Tm.mk 0 0 ([] : List UInt8) ([] : List Lvl) ([] : List Tm)), ([] : List Tm)⟩ : Rcr), ([] : List Fn)⟩ : Dcl), (⟨1, ([116, 119, 111] : List UInt8), 0, (Tm.mk 3 0 ([78, 97, 116] : List UInt8) ([] : List Lvl) ([] : List Tm)), (Tm.mk 3 0 ([78, 97, 116, 46, 122, 101, 114, 111] : List UInt8) ([] : List Lvl) ([] : List Tm)), 0, ([] : List Ctr), (⟨0, (Tm.mk 0 0 ([] : List UInt8) ([] : List Lvl) ([] : List Tm)), ([] : List Tm)⟩ : Rcr), ([] : List Fn)⟩ : Dcl)]) 1) fun (x7 : Dcl) =>
  guardO (Nat.beq ([(⟨0, ([112, 108, 117, 115] : List UInt8), 0, (Tm.mk 3 0 ([78, 97, 116] : List UInt8) ([] : List Lvl) ([] : List Tm)), (Tm.mk 0 0 ([] : List UInt8) ([] : List Lvl) ([] : List Tm)), 0, ([] : List Ctr), (⟨0, (Tm.mk 0 0 ([] : List UInt8) ([] : List Lvl) ([] : List Tm)), ([] : List Tm)⟩ : Rcr), ([] : List Fn)⟩ : Dcl), (⟨3, ([78, 97, 116] : List UInt8), 0, (Tm.mk 2 0 ([] : List UInt8) [(⟨0, ([] : List LV)⟩ : Lvl)] ([] : List Tm)), (Tm.mk 0 0 ([] : List UInt8) ([] : List Lvl) ([] : List Tm)), 0, [(⟨([78, 97, 116, 46, 122, 101, 114, 111] : List UInt8), (Tm.mk 3 0 ([78, 97, 116] : List UInt8) ([] : List Lvl) ([] : List Tm))⟩ : Ctr), (⟨([78, 97, 116, 46, 115, 117, 99, 99] : List UInt8), (Tm.mk 3 0 ([78, 97, 116] : List UInt8) ([] : List Lvl) ([] : List Tm))⟩ : Ctr)], (⟨0, (Tm.mk 0 0 ([] : List UInt8) ([] : List Lvl) ([] : List Tm)), ([] : List Tm)⟩ : Rcr), ([] : List Fn)⟩ : Dcl), (⟨1, ([116, 119, 111] : List UInt8), 0, (Tm.mk 3 0 ([78, 97, 116] : List UInt8) ([] : List Lvl) ([] : List Tm)), (Tm.mk 3 0 ([78, 97, 116, 46, 122, 101, 114, 111] : List UInt8) ([] : List Lvl) ([] : List Tm)), 0, ([] : List Ctr), (⟨0, (Tm.mk 0 0 ([] : List UInt8) ([] : List Lvl) ([] : List Tm)), ([] : List Tm)⟩ : Rcr), ([] : List Fn)⟩ : Dcl)]).length 3)
  (Option.bind (m22o ([(⟨0, ([112, 108, 117, 115] : List UInt8), 0, (Tm.mk 3 0 ([78, 97, 116] : List UInt8) ([] : List Lvl) ([] : List Tm)), (Tm.mk 0 0 ([] : List UInt8) ([] : List Lvl) ([] : List Tm)), 0, ([] : List Ctr), (⟨0, (Tm.mk 0 0 ([] : List UInt8) ([] : List Lvl) ([] : List Tm)), ([] : List Tm)⟩ : Rcr), ([] : List Fn)⟩ : Dcl), (⟨3, ([78, 97, 116] : List UInt8), 0, (Tm.mk 2 0 ([] : List UInt8) [(⟨0, ([] : List LV)⟩ : Lvl)] ([] : List Tm)), (Tm.mk 3 0 ([116, 119, 111] : List UInt8) [] []), 0, [(⟨([78, 97, 116, 46, 122, 101, 114, 111] : List UInt8), (Tm.mk 3 0 ([78, 97, 116] : List UInt8) ([] : List Lvl) ([] : List Tm))⟩ : Ctr), (⟨([78, 97, 116, 46, 115, 117, 99, 99] : List UInt8), (Tm.mk 3 0 ([78, 97, 116] : List UInt8) ([] : List Lvl) ([] : List Tm))⟩ : Ctr)], (⟨0, (Tm.mk 0 0 ([] : List UInt8) ([] : List Lvl) ([] : List Tm)), ([] : List Tm)⟩ : Rcr), ([] : List Fn)⟩ : Dcl), (⟨1, ([116, 119, 111] : List UInt8), 0, (Tm.mk 3 0 ([78, 97, 116] : List UInt8) ([] : List Lvl) ([] : List Tm)), (Tm.mk 3 0 ([78, 97, 116, 46, 122, 101, 114, 111] : List UInt8) ([] : List Lvl) ([] : List Tm)), 0, ([] : List Ctr), (⟨0, (Tm.mk 0 0 ([] : List UInt8) ([] : List Lvl) ([] : List Tm)), ([] : List Tm)⟩ : Rcr), ([] : List Fn)⟩ : Dcl)]) 3) fun (x9 : (List Int) × Int) =>
  Option.bind (cond (x3.2 != 0)
    (some true)
    (cond (x4.2 != 0)
    (some true)
    (cond (x5.2 != 0)
    (some true)
    (cond (x6.2 != 0)
    (some true)
    (cond (x9.2 != 22)
    (some true)
    (cond ((x3.1.length : Int) != 3)
    (some true)
    (some ((x6.1.length : Int) != 2)))))))) (fun (v10 : Bool) => cond v10
    (some false)
    (Option.bind (Option.bind (idx x3.1 0) fun (x13 : List Int) =>
  Option.bind (m29 x13 ([1])) fun (x14 : Bool) =>
  cond x14
    (Option.bind (idx x3.1 1) fun (x16 : List Int) =>
  cond ((x16.length : Int) == 0)
    (Option.bind (idx x3.1 2) fun (x18 : List Int) =>
  Option.bind (m29 x18 ([1])) fun (x19 : Bool) =>
  cond x19
    (Option.bind (m29 x4.1 ([1, 0, 2])) fun (x21 : Bool) =>
  cond x21
    (Option.bind (m14 x5.1 ([([112, 108, 117, 115] : List UInt8), ([78, 97, 116] : List UInt8), ([78, 97, 116, 46, 122, 101, 114, 111] : List UInt8), ([78, 97, 116, 46, 115, 117, 99, 99] : List UInt8), ([78, 97, 116, 46, 114, 101, 99] : List UInt8), ([116, 119, 111] : List UInt8)])) fun (x23 : Bool) =>
  cond x23
    (Option.bind (idx x6.1 0) fun (x25 : Dcl) =>
  cond (x25.name == ([78, 97, 116] : List UInt8))
    (Option.bind (idx x6.1 1) fun (x27 : Dcl) =>
  some (x27.name == ([116, 119, 111] : List UInt8)))
    (some false))
    (some false))
    (some false))
    (some false))
    (some false))
    (some false)) (fun (v12 : Bool) => some v12)))))
set_option maxRecDepth 100000 in
set_option maxHeartbeats 2000000 in
theorem m11_ok  (r : Bool) (h0 : m11  = some r) : Fun Try.prog 11 [] (resOf [.one (dB r)]) := by
  unfold m11 at h0
  refine Fun.of_bodyM 9 115 Try.func11 rfl en_11 rfl (lb rfl) (fun S w => ?_)
  simp only [entry]
  refine XC.seq <| XC.region <| rA rfl rfl rfl <| XL.nil <| XQ.seq <| XC.seq <| XC.region ?_
  refine bindK h0 (fun y1 h1 h0 => ?_)
  have hc2 : CallM Try.prog 33 [] ⟨[], [], 0⟩ (resOf [.one (.osl 5 0 3 3)]) ⟨[(5, .cells 48 (flatE ([(⟨0, ([112, 108, 117, 115] : List UInt8), 0, (Tm.mk 3 0 ([78, 97, 116] : List UInt8) ([] : List Lvl) ([] : List Tm)), (Tm.mk 0 0 ([] : List UInt8) ([] : List Lvl) ([] : List Tm)), 0, ([] : List Ctr), (⟨0, (Tm.mk 0 0 ([] : List UInt8) ([] : List Lvl) ([] : List Tm)), ([] : List Tm)⟩ : Rcr), ([] : List Fn)⟩ : Dcl), (⟨3, ([78, 97, 116] : List UInt8), 0, (Tm.mk 2 0 ([] : List UInt8) [(⟨0, ([] : List LV)⟩ : Lvl)] ([] : List Tm)), (Tm.mk 0 0 ([] : List UInt8) ([] : List Lvl) ([] : List Tm)), 0, [(⟨([78, 97, 116, 46, 122, 101, 114, 111] : List UInt8), (Tm.mk 3 0 ([78, 97, 116] : List UInt8) ([] : List Lvl) ([] : List Tm))⟩ : Ctr), (⟨([78, 97, 116, 46, 115, 117, 99, 99] : List UInt8), (Tm.mk 3 0 ([78, 97, 116] : List UInt8) ([] : List Lvl) ([] : List Tm))⟩ : Ctr)], (⟨0, (Tm.mk 0 0 ([] : List UInt8) ([] : List Lvl) ([] : List Tm)), ([] : List Tm)⟩ : Rcr), ([] : List Fn)⟩ : Dcl), (⟨1, ([116, 119, 111] : List UInt8), 0, (Tm.mk 3 0 ([78, 97, 116] : List UInt8) ([] : List Lvl) ([] : List Tm)), (Tm.mk 3 0 ([78, 97, 116, 46, 122, 101, 114, 111] : List UInt8) ([] : List Lvl) ([] : List Tm)), 0, ([] : List Ctr), (⟨0, (Tm.mk 0 0 ([] : List UInt8) ([] : List Lvl) ([] : List Tm)), ([] : List Tm)⟩ : Rcr), ([] : List Fn)⟩ : Dcl)] : List Dcl)))], [], 6⟩ := by
   refine CallM.of_bodyD ⟨[(0, .v (.one (.osl 5 0 3 3)))], [(5, .cells 48 (flatE ([(⟨0, ([112, 108, 117, 115] : List UInt8), 0, (Tm.mk 3 0 ([78, 97, 116] : List UInt8) ([] : List Lvl) ([] : List Tm)), (Tm.mk 0 0 ([] : List UInt8) ([] : List Lvl) ([] : List Tm)), 0, ([] : List Ctr), (⟨0, (Tm.mk 0 0 ([] : List UInt8) ([] : List Lvl) ([] : List Tm)), ([] : List Tm)⟩ : Rcr), ([] : List Fn)⟩ : Dcl), (⟨3, ([78, 97, 116] : List UInt8), 0, (Tm.mk 2 0 ([] : List UInt8) [(⟨0, ([] : List LV)⟩ : Lvl)] ([] : List Tm)), (Tm.mk 0 0 ([] : List UInt8) ([] : List Lvl) ([] : List Tm)), 0, [(⟨([78, 97, 116, 46, 122, 101, 114, 111] : List UInt8), (Tm.mk 3 0 ([78, 97, 116] : List UInt8) ([] : List Lvl) ([] : List Tm))⟩ : Ctr), (⟨([78, 97, 116, 46, 115, 117, 99, 99] : List UInt8), (Tm.mk 3 0 ([78, 97, 116] : List UInt8) ([] : List Lvl) ([] : List Tm))⟩ : Ctr)], (⟨0, (Tm.mk 0 0 ([] : List UInt8) ([] : List Lvl) ([] : List Tm)), ([] : List Tm)⟩ : Rcr), ([] : List Fn)⟩ : Dcl), (⟨1, ([116, 119, 111] : List UInt8), 0, (Tm.mk 3 0 ([78, 97, 116] : List UInt8) ([] : List Lvl) ([] : List Tm)), (Tm.mk 3 0 ([78, 97, 116, 46, 122, 101, 114, 111] : List UInt8) ([] : List Lvl) ([] : List Tm)), 0, ([] : List Ctr), (⟨0, (Tm.mk 0 0 ([] : List UInt8) ([] : List Lvl) ([] : List Tm)), ([] : List Tm)⟩ : Rcr), ([] : List Fn)⟩ : Dcl)] : List Dcl)))], [], 6, 22, []⟩ rfl rfl en_33 (lb rfl) rfl (RAs.tmp rfl .nil) (fun w0 M V0 Q hv1 hQ1 => ?_)
   simp only [entry]
   refine XC.seq <| XC.region <| rA rfl rfl rfl <| XL.nil <| XQ.seq <| XC.seq <| XC.region <| rR rfl rfl rfl (RO.build2 bd_42 rfl rfl rfl rfl) <| XL.put rfl rfl (lb rfl) (OpOK.alloc z_42 rfl) <| XL.eff rfl rfl (OpOK.store ag_42 rfl rfl rfl rfl (lb rfl) rfl) <| XL.nil <| XQ.seq <| XC.seq <| XC.region ?_
   refine rR rfl rfl rfl (RO.build0 bd_102 rfl ) <| XL.put rfl rfl (lb rfl) (OpOK.lit1E (α := Lvl) ((⟨0, ([] : List LV)⟩ : Lvl)) sl_39 z_102 rfl rfl (lb rfl) (lb rfl) rfl rfl (.cons (.d _) (.cons (.nil _) .nil)) rfl) <| rR rfl rfl rfl (RO.build2 bd_42 rfl rfl rfl rfl) <| XL.put rfl rfl (lb rfl) (OpOK.alloc z_42 rfl) <| XL.eff rfl rfl (OpOK.store ag_42 rfl rfl rfl rfl (lb rfl) rfl) <| XL.nil <| XQ.seq <| XC.seq <| XC.region <| rR rfl rfl rfl (RO.loadOwnAgg ag_42 rfl rfl rfl rfl) <| rR rfl rfl rfl (RO.loadOwnAgg ag_42 rfl rfl rfl rfl) <| rR rfl rfl rfl (RO.build2 bd_84 rfl rfl rfl rfl) <| rR rfl rfl rfl (RO.loadOwnAgg ag_42 rfl rfl rfl rfl) <| rR rfl rfl rfl (RO.build2 bd_84 rfl rfl rfl rfl) ?_
   refine XL.put rfl rfl (lb rfl) (OpOK.lit2E (α := Ctr) (⟨([78, 97, 116, 46, 122, 101, 114, 111] : List UInt8), (Tm.mk 3 0 ([78, 97, 116] : List UInt8) ([] : List Lvl) ([] : List Tm))⟩ : Ctr) (⟨([78, 97, 116, 46, 115, 117, 99, 99] : List UInt8), (Tm.mk 3 0 ([78, 97, 116] : List UInt8) ([] : List Lvl) ([] : List Tm))⟩ : Ctr) sl_43 z_84 rfl rfl (lb rfl) (lb rfl) rfl rfl rfl (.cons (.d _) (.cons (.d _) (.cons (.d _) (.cons (.d _) (.cons (.nil _) (.cons (.nil _) (.cons (.d _) (.cons (.d _) (.cons (.d _) (.cons (.d _) (.cons (.nil _) (.cons (.nil _) .nil)))))))))))) ⟨rfl, rfl⟩) <| rR rfl rfl rfl (RO.buildN bd_48 rfl (.cons rfl (.cons rfl (.cons rfl (.cons rfl .nil)))) rfl) <| XL.put rfl rfl (lb rfl) (OpOK.alloc z_48 rfl) <| XL.eff rfl rfl (OpOK.store ag_48 rfl rfl rfl rfl (lb rfl) rfl) <| XL.nil <| XQ.seq <| XC.seq <| XC.region <| rR rfl rfl rfl (RO.loadOwnAgg ag_42 rfl rfl rfl rfl) <| rR rfl rfl rfl (RO.build3 bd_48 rfl rfl rfl rfl rfl) <| rR rfl rfl rfl (RO.loadOwnAgg ag_48 rfl rfl rfl rfl) <| rR rfl rfl rfl (RO.loadOwnAgg ag_42 rfl rfl rfl rfl) <| rR rfl rfl rfl (RO.build2 bd_42 rfl rfl rfl rfl) <| rR rfl rfl rfl (RO.buildN bd_48 rfl (.cons rfl (.cons rfl (.cons rfl (.cons rfl .nil)))) rfl) ?_
   refine XL.put rfl rfl (lb rfl) (OpOK.litO3 (α := Dcl) (⟨0, ([112, 108, 117, 115] : List UInt8), 0, (Tm.mk 3 0 ([78, 97, 116] : List UInt8) ([] : List Lvl) ([] : List Tm)), (Tm.mk 0 0 ([] : List UInt8) ([] : List Lvl) ([] : List Tm)), 0, ([] : List Ctr), (⟨0, (Tm.mk 0 0 ([] : List UInt8) ([] : List Lvl) ([] : List Tm)), ([] : List Tm)⟩ : Rcr), ([] : List Fn)⟩ : Dcl) (⟨3, ([78, 97, 116] : List UInt8), 0, (Tm.mk 2 0 ([] : List UInt8) [(⟨0, ([] : List LV)⟩ : Lvl)] ([] : List Tm)), (Tm.mk 0 0 ([] : List UInt8) ([] : List Lvl) ([] : List Tm)), 0, [(⟨([78, 97, 116, 46, 122, 101, 114, 111] : List UInt8), (Tm.mk 3 0 ([78, 97, 116] : List UInt8) ([] : List Lvl) ([] : List Tm))⟩ : Ctr), (⟨([78, 97, 116, 46, 115, 117, 99, 99] : List UInt8), (Tm.mk 3 0 ([78, 97, 116] : List UInt8) ([] : List Lvl) ([] : List Tm))⟩ : Ctr)], (⟨0, (Tm.mk 0 0 ([] : List UInt8) ([] : List Lvl) ([] : List Tm)), ([] : List Tm)⟩ : Rcr), ([] : List Fn)⟩ : Dcl) (⟨1, ([116, 119, 111] : List UInt8), 0, (Tm.mk 3 0 ([78, 97, 116] : List UInt8) ([] : List Lvl) ([] : List Tm)), (Tm.mk 3 0 ([78, 97, 116, 46, 122, 101, 114, 111] : List UInt8) ([] : List Lvl) ([] : List Tm)), 0, ([] : List Ctr), (⟨0, (Tm.mk 0 0 ([] : List UInt8) ([] : List Lvl) ([] : List Tm)), ([] : List Tm)⟩ : Rcr), ([] : List Fn)⟩ : Dcl) sl_22 z_48 rfl rfl (lb rfl) rfl rfl rfl rfl (.cons (.refl _) (.cons (.refl _) (.cons (.refl _) (.cons (.refl _) (.cons (.refl _) (.cons (.refl _) (.cons (.sub (.nil _)) (.cons (.sub (.nil _)) (.cons (.refl _) (.cons (.refl _) (.cons (.refl _) (.cons (.sub (.nil _)) (.cons (.sub (.nil _)) (.cons (.refl _) (.cons (.sub (.nil _)) (.cons (.refl _) (.cons (.refl _) (.cons (.refl _) (.cons (.refl _) (.cons (.sub (.nil _)) (.cons (.sub (.nil _)) (.cons (.sub (.nil _)) (.cons (.sub (.nil _)) (.cons (.refl _) (.cons (.refl _) (.cons (.refl _) (.cons (.refl _) (.cons (.refl _) (.cons (.refl _) (.cons (.sub (.app _ _ _)) (.cons (.sub (.nil _)) (.cons (.refl _) (.cons (.refl _) (.cons (.refl _) (.cons (.sub (.nil _)) (.cons (.sub (.nil _)) (.cons (.refl _) (.cons (.sub (.app _ _ _)) (.cons (.refl _) (.cons (.refl _) (.cons (.refl _) (.cons (.refl _) (.cons (.sub (.nil _)) (.cons (.sub (.nil _)) (.cons (.sub (.nil _)) (.cons (.sub (.nil _)) (.cons (.refl _) (.cons (.refl _) (.cons (.refl _) (.cons (.refl _) (.cons (.refl _) (.cons (.refl _) (.cons (.sub (.nil _)) (.cons (.sub (.nil _)) (.cons (.refl _) (.cons (.refl _) (.cons (.refl _) (.cons (.sub (.nil _)) (.cons (.sub (.nil _)) (.cons (.refl _) (.cons (.sub (.nil _)) (.cons (.refl _) (.cons (.refl _) (.cons (.refl _) (.cons (.refl _) (.cons (.sub (.nil _)) (.cons (.sub (.nil _)) (.cons (.sub (.nil _)) (.cons (.sub (.nil _)) .nil)))))))))))))))))))))))))))))))))))))))))))))))))))))))))))))))))))))) <| rA rfl rfl rfl <| XL.nil <| XQ.seq <| XC.ret ?_
   have e_ := Option.some.inj h1
   subst e_
   exact hQ1 _ _ _ (.inr rfl) rfl (stle (tR rfl tZ) (hR rfl hZ) kZ rfl (Nat.le_trans hv1 (lb rfl)) rfl rfl rfl (bF rfl bZ) rfl rfl)
  refine XL.put rfl rfl (lb rfl) (OpOK.callW rfl rfl rfl hc2 rfl hZ kZ) <| rA rfl rfl rfl <| XL.nil <| XQ.seq <| XC.seq <| XC.region <| rM rfl rfl rfl ?_
  refine bindK h0 (fun x3 hx3 h0 => ?_)
  refine XL.put rfl rfl (lb rfl) (OpOK.callO (b := 5) (m23o_ok ([(⟨0, ([112, 108, 117, 115] : List UInt8), 0, (Tm.mk 3 0 ([78, 97, 116] : List UInt8) ([] : List Lvl) ([] : List Tm)), (Tm.mk 0 0 ([] : List UInt8) ([] : List Lvl) ([] : List Tm)), 0, ([] : List Ctr), (⟨0, (Tm.mk 0 0 ([] : List UInt8) ([] : List Lvl) ([] : List Tm)), ([] : List Tm)⟩ : Rcr), ([] : List Fn)⟩ : Dcl), (⟨3, ([78, 97, 116] : List UInt8), 0, (Tm.mk 2 0 ([] : List UInt8) [(⟨0, ([] : List LV)⟩ : Lvl)] ([] : List Tm)), (Tm.mk 0 0 ([] : List UInt8) ([] : List Lvl) ([] : List Tm)), 0, [(⟨([78, 97, 116, 46, 122, 101, 114, 111] : List UInt8), (Tm.mk 3 0 ([78, 97, 116] : List UInt8) ([] : List Lvl) ([] : List Tm))⟩ : Ctr), (⟨([78, 97, 116, 46, 115, 117, 99, 99] : List UInt8), (Tm.mk 3 0 ([78, 97, 116] : List UInt8) ([] : List Lvl) ([] : List Tm))⟩ : Ctr)], (⟨0, (Tm.mk 0 0 ([] : List UInt8) ([] : List Lvl) ([] : List Tm)), ([] : List Tm)⟩ : Rcr), ([] : List Fn)⟩ : Dcl), (⟨1, ([116, 119, 111] : List UInt8), 0, (Tm.mk 3 0 ([78, 97, 116] : List UInt8) ([] : List Lvl) ([] : List Tm)), (Tm.mk 3 0 ([78, 97, 116, 46, 122, 101, 114, 111] : List UInt8) ([] : List Lvl) ([] : List Tm)), 0, ([] : List Ctr), (⟨0, (Tm.mk 0 0 ([] : List UInt8) ([] : List Lvl) ([] : List Tm)), ([] : List Tm)⟩ : Rcr), ([] : List Fn)⟩ : Dcl)]) 3 x3 hx3) rfl (.osl .nil) rfl rfl rfl) <| rM rfl rfl rfl <| rR rfl rfl rfl (RO.extract rfl rfl) <| rR rfl rfl rfl (RO.extract rfl rfl) <| rA rfl rfl rfl <| rA rfl rfl rfl <| XL.nil <| XQ.seq <| XC.seq <| XC.region <| rM rfl rfl rfl ?_
  refine bindK h0 (fun x4 hx4 h0 => ?_)
  refine XL.put rfl rfl (lb rfl) (OpOK.callO (b := 5) (m22o_ok ([(⟨0, ([112, 108, 117, 115] : List UInt8), 0, (Tm.mk 3 0 ([78, 97, 116] : List UInt8) ([] : List Lvl) ([] : List Tm)), (Tm.mk 0 0 ([] : List UInt8) ([] : List Lvl) ([] : List Tm)), 0, ([] : List Ctr), (⟨0, (Tm.mk 0 0 ([] : List UInt8) ([] : List Lvl) ([] : List Tm)), ([] : List Tm)⟩ : Rcr), ([] : List Fn)⟩ : Dcl), (⟨3, ([78, 97, 116] : List UInt8), 0, (Tm.mk 2 0 ([] : List UInt8) [(⟨0, ([] : List LV)⟩ : Lvl)] ([] : List Tm)), (Tm.mk 0 0 ([] : List UInt8) ([] : List Lvl) ([] : List Tm)), 0, [(⟨([78, 97, 116, 46, 122, 101, 114, 111] : List UInt8), (Tm.mk 3 0 ([78, 97, 116] : List UInt8) ([] : List Lvl) ([] : List Tm))⟩ : Ctr), (⟨([78, 97, 116, 46, 115, 117, 99, 99] : List UInt8), (Tm.mk 3 0 ([78, 97, 116] : List UInt8) ([] : List Lvl) ([] : List Tm))⟩ : Ctr)], (⟨0, (Tm.mk 0 0 ([] : List UInt8) ([] : List Lvl) ([] : List Tm)), ([] : List Tm)⟩ : Rcr), ([] : List Fn)⟩ : Dcl), (⟨1, ([116, 119, 111] : List UInt8), 0, (Tm.mk 3 0 ([78, 97, 116] : List UInt8) ([] : List Lvl) ([] : List Tm)), (Tm.mk 3 0 ([78, 97, 116, 46, 122, 101, 114, 111] : List UInt8) ([] : List Lvl) ([] : List Tm)), 0, ([] : List Ctr), (⟨0, (Tm.mk 0 0 ([] : List UInt8) ([] : List Lvl) ([] : List Tm)), ([] : List Tm)⟩ : Rcr), ([] : List Fn)⟩ : Dcl)]) 3 x4 hx4) rfl (.osl .nil) rfl rfl rfl) <| rM rfl rfl rfl <| rR rfl rfl rfl (RO.extract rfl rfl) <| rR rfl rfl rfl (RO.extract rfl rfl) <| rA rfl rfl rfl <| rA rfl rfl rfl <| XL.nil <| XQ.seq <| XC.seq <| XC.region <| rM rfl rfl rfl <| XL.put rfl rfl (lb rfl) (OpOK.lit1E (α := Bs) (([78, 97, 116] : List UInt8)) sl_23 z_9 rfl rfl (lb rfl) (lb rfl) rfl rfl (.cons (.d _) .nil) rfl) ?_
  refine bindK h0 (fun x5 hx5 h0 => ?_)
  refine XL.put rfl rfl (lb rfl) (OpOK.callO (b := 5) (m12o_ok ([(⟨0, ([112, 108, 117, 115] : List UInt8), 0, (Tm.mk 3 0 ([78, 97, 116] : List UInt8) ([] : List Lvl) ([] : List Tm)), (Tm.mk 0 0 ([] : List UInt8) ([] : List Lvl) ([] : List Tm)), 0, ([] : List Ctr), (⟨0, (Tm.mk 0 0 ([] : List UInt8) ([] : List Lvl) ([] : List Tm)), ([] : List Tm)⟩ : Rcr), ([] : List Fn)⟩ : Dcl), (⟨3, ([78, 97, 116] : List UInt8), 0, (Tm.mk 2 0 ([] : List UInt8) [(⟨0, ([] : List LV)⟩ : Lvl)] ([] : List Tm)), (Tm.mk 0 0 ([] : List UInt8) ([] : List Lvl) ([] : List Tm)), 0, [(⟨([78, 97, 116, 46, 122, 101, 114, 111] : List UInt8), (Tm.mk 3 0 ([78, 97, 116] : List UInt8) ([] : List Lvl) ([] : List Tm))⟩ : Ctr), (⟨([78, 97, 116, 46, 115, 117, 99, 99] : List UInt8), (Tm.mk 3 0 ([78, 97, 116] : List UInt8) ([] : List Lvl) ([] : List Tm))⟩ : Ctr)], (⟨0, (Tm.mk 0 0 ([] : List UInt8) ([] : List Lvl) ([] : List Tm)), ([] : List Tm)⟩ : Rcr), ([] : List Fn)⟩ : Dcl), (⟨1, ([116, 119, 111] : List UInt8), 0, (Tm.mk 3 0 ([78, 97, 116] : List UInt8) ([] : List Lvl) ([] : List Tm)), (Tm.mk 3 0 ([78, 97, 116, 46, 122, 101, 114, 111] : List UInt8) ([] : List Lvl) ([] : List Tm)), 0, ([] : List Ctr), (⟨0, (Tm.mk 0 0 ([] : List UInt8) ([] : List Lvl) ([] : List Tm)), ([] : List Tm)⟩ : Rcr), ([] : List Fn)⟩ : Dcl)]) ([([78, 97, 116] : List UInt8)]) 3 x5 hx5) rfl (.osl (.one (.app _ _ _) .nil)) rfl rfl rfl) <| rM rfl rfl rfl <| rR rfl rfl rfl (RO.extract rfl rfl) <| rR rfl rfl rfl (RO.extract rfl rfl) <| rA rfl rfl rfl <| rA rfl rfl rfl <| XL.nil <| XQ.seq <| XC.seq <| XC.region <| rM rfl rfl rfl <| XL.put rfl rfl (lb rfl) (OpOK.lit1E (α := Bs) (([116, 119, 111] : List UInt8)) sl_23 z_9 rfl rfl (lb rfl) (lb rfl) rfl rfl (.cons (.d _) .nil) rfl) ?_
  refine bindK h0 (fun x6 hx6 h0 => ?_)
  refine XL.put rfl rfl (lb rfl) (OpOK.callO (b := 5) (m15o_ok ([(⟨0, ([112, 108, 117, 115] : List UInt8), 0, (Tm.mk 3 0 ([78, 97, 116] : List UInt8) ([] : List Lvl) ([] : List Tm)), (Tm.mk 0 0 ([] : List UInt8) ([] : List Lvl) ([] : List Tm)), 0, ([] : List Ctr), (⟨0, (Tm.mk 0 0 ([] : List UInt8) ([] : List Lvl) ([] : List Tm)), ([] : List Tm)⟩ : Rcr), ([] : List Fn)⟩ : Dcl), (⟨3, ([78, 97, 116] : List UInt8), 0, (Tm.mk 2 0 ([] : List UInt8) [(⟨0, ([] : List LV)⟩ : Lvl)] ([] : List Tm)), (Tm.mk 0 0 ([] : List UInt8) ([] : List Lvl) ([] : List Tm)), 0, [(⟨([78, 97, 116, 46, 122, 101, 114, 111] : List UInt8), (Tm.mk 3 0 ([78, 97, 116] : List UInt8) ([] : List Lvl) ([] : List Tm))⟩ : Ctr), (⟨([78, 97, 116, 46, 115, 117, 99, 99] : List UInt8), (Tm.mk 3 0 ([78, 97, 116] : List UInt8) ([] : List Lvl) ([] : List Tm))⟩ : Ctr)], (⟨0, (Tm.mk 0 0 ([] : List UInt8) ([] : List Lvl) ([] : List Tm)), ([] : List Tm)⟩ : Rcr), ([] : List Fn)⟩ : Dcl), (⟨1, ([116, 119, 111] : List UInt8), 0, (Tm.mk 3 0 ([78, 97, 116] : List UInt8) ([] : List Lvl) ([] : List Tm)), (Tm.mk 3 0 ([78, 97, 116, 46, 122, 101, 114, 111] : List UInt8) ([] : List Lvl) ([] : List Tm)), 0, ([] : List Ctr), (⟨0, (Tm.mk 0 0 ([] : List UInt8) ([] : List Lvl) ([] : List Tm)), ([] : List Tm)⟩ : Rcr), ([] : List Fn)⟩ : Dcl)]) ([([116, 119, 111] : List UInt8)]) 3 x6 hx6) rfl (.osl (.one (.app _ _ _) .nil)) rfl rfl rfl) <| rM rfl rfl rfl <| rR rfl rfl rfl (RO.extract rfl rfl) <| rR rfl rfl rfl (RO.extract rfl rfl) <| rA rfl rfl rfl <| rA rfl rfl rfl <| XL.nil <| XQ.seq <| XC.seq <| XC.region <| rM rfl rfl rfl <| rR rfl rfl rfl (RO.build2 bd_42 rfl rfl rfl rfl) ?_
  refine bindK h0 (fun x7 hx7 h0 => ?_)
  refine guardK h0 (fun g8 h0 => ?_)
  refine rR rfl rfl rfl (RO.indexO (α := Dcl) sl_22 rfl rfl hx7 g8) <| rR rfl rfl rfl (RO.fieldOwn fo_48_4 rfl) ?_
  refine XL.eff rfl rfl (OpOK.storeOP (α := Dcl) (y' := .agg [dI 3, dI 0, dS8 ([116, 119, 111] : List UInt8), dS ([] : List Lvl), dS ([] : List Tm)]) [(⟨0, ([112, 108, 117, 115] : List UInt8), 0, (Tm.mk 3 0 ([78, 97, 116] : List UInt8) ([] : List Lvl) ([] : List Tm)), (Tm.mk 0 0 ([] : List UInt8) ([] : List Lvl) ([] : List Tm)), 0, ([] : List Ctr), (⟨0, (Tm.mk 0 0 ([] : List UInt8) ([] : List Lvl) ([] : List Tm)), ([] : List Tm)⟩ : Rcr), ([] : List Fn)⟩ : Dcl), (⟨3, ([78, 97, 116] : List UInt8), 0, (Tm.mk 2 0 ([] : List UInt8) [(⟨0, ([] : List LV)⟩ : Lvl)] ([] : List Tm)), (Tm.mk 3 0 ([116, 119, 111] : List UInt8) [] []), 0, [(⟨([78, 97, 116, 46, 122, 101, 114, 111] : List UInt8), (Tm.mk 3 0 ([78, 97, 116] : List UInt8) ([] : List Lvl) ([] : List Tm))⟩ : Ctr), (⟨([78, 97, 116, 46, 115, 117, 99, 99] : List UInt8), (Tm.mk 3 0 ([78, 97, 116] : List UInt8) ([] : List Lvl) ([] : List Tm))⟩ : Ctr)], (⟨0, (Tm.mk 0 0 ([] : List UInt8) ([] : List Lvl) ([] : List Tm)), ([] : List Tm)⟩ : Rcr), ([] : List Fn)⟩ : Dcl), (⟨1, ([116, 119, 111] : List UInt8), 0, (Tm.mk 3 0 ([78, 97, 116] : List UInt8) ([] : List Lvl) ([] : List Tm)), (Tm.mk 3 0 ([78, 97, 116, 46, 122, 101, 114, 111] : List UInt8) ([] : List Lvl) ([] : List Tm)), 0, ([] : List Ctr), (⟨0, (Tm.mk 0 0 ([] : List UInt8) ([] : List Lvl) ([] : List Tm)), ([] : List Tm)⟩ : Rcr), ([] : List Fn)⟩ : Dcl)] ag_42 rfl rfl (.agg (.cons (.d _) (.cons (.d _) (.cons (.d _) (.cons (.nil _) (.cons (.nil _) .nil)))))) rfl rfl rfl (by kernel_rfl) rfl) ?_
  refine XL.nil <| XQ.seq <| XC.seq <| XC.region <| rM rfl rfl rfl ?_
  refine bindK h0 (fun x9 hx9 h0 => ?_)
  refine XL.put rfl rfl (lb rfl) (OpOK.callO (b := 5) (m22o_ok ([(⟨0, ([112, 108, 117, 115] : List UInt8), 0, (Tm.mk 3 0 ([78, 97, 116] : List UInt8) ([] : List Lvl) ([] : List Tm)), (Tm.mk 0 0 ([] : List UInt8) ([] : List Lvl) ([] : List Tm)), 0, ([] : List Ctr), (⟨0, (Tm.mk 0 0 ([] : List UInt8) ([] : List Lvl) ([] : List Tm)), ([] : List Tm)⟩ : Rcr), ([] : List Fn)⟩ : Dcl), (⟨3, ([78, 97, 116] : List UInt8), 0, (Tm.mk 2 0 ([] : List UInt8) [(⟨0, ([] : List LV)⟩ : Lvl)] ([] : List Tm)), (Tm.mk 3 0 ([116, 119, 111] : List UInt8) [] []), 0, [(⟨([78, 97, 116, 46, 122, 101, 114, 111] : List UInt8), (Tm.mk 3 0 ([78, 97, 116] : List UInt8) ([] : List Lvl) ([] : List Tm))⟩ : Ctr), (⟨([78, 97, 116, 46, 115, 117, 99, 99] : List UInt8), (Tm.mk 3 0 ([78, 97, 116] : List UInt8) ([] : List Lvl) ([] : List Tm))⟩ : Ctr)], (⟨0, (Tm.mk 0 0 ([] : List UInt8) ([] : List Lvl) ([] : List Tm)), ([] : List Tm)⟩ : Rcr), ([] : List Fn)⟩ : Dcl), (⟨1, ([116, 119, 111] : List UInt8), 0, (Tm.mk 3 0 ([78, 97, 116] : List UInt8) ([] : List Lvl) ([] : List Tm)), (Tm.mk 3 0 ([78, 97, 116, 46, 122, 101, 114, 111] : List UInt8) ([] : List Lvl) ([] : List Tm)), 0, ([] : List Ctr), (⟨0, (Tm.mk 0 0 ([] : List UInt8) ([] : List Lvl) ([] : List Tm)), ([] : List Tm)⟩ : Rcr), ([] : List Fn)⟩ : Dcl)]) 3 x9 hx9) rfl (.osl .nil) rfl rfl rfl) <| rM rfl rfl rfl <| rR rfl rfl rfl (RO.extract rfl rfl) <| rR rfl rfl rfl (RO.extract rfl rfl) <| rA rfl rfl rfl <| rA rfl rfl rfl <| XL.nil <| XQ.seq <| XC.seq <| XC.seq ?_
  refine XC.joinR (fun (v10 : Bool) => ⟨[(2, .v (.one (dS x3.1))), (4, .v (.one (dS x4.1))), (6, .v (.one (dS x5.1))), (8, .v (.one (dS x6.1))), (71, .v (.one (dB v10)))], [(5, .cells 48 (flatE (([(⟨0, ([112, 108, 117, 115] : List UInt8), 0, (Tm.mk 3 0 ([78, 97, 116] : List UInt8) ([] : List Lvl) ([] : List Tm)), (Tm.mk 0 0 ([] : List UInt8) ([] : List Lvl) ([] : List Tm)), 0, ([] : List Ctr), (⟨0, (Tm.mk 0 0 ([] : List UInt8) ([] : List Lvl) ([] : List Tm)), ([] : List Tm)⟩ : Rcr), ([] : List Fn)⟩ : Dcl), (⟨3, ([78, 97, 116] : List UInt8), 0, (Tm.mk 2 0 ([] : List UInt8) [(⟨0, ([] : List LV)⟩ : Lvl)] ([] : List Tm)), (Tm.mk 3 0 ([116, 119, 111] : List UInt8) [] []), 0, [(⟨([78, 97, 116, 46, 122, 101, 114, 111] : List UInt8), (Tm.mk 3 0 ([78, 97, 116] : List UInt8) ([] : List Lvl) ([] : List Tm))⟩ : Ctr), (⟨([78, 97, 116, 46, 115, 117, 99, 99] : List UInt8), (Tm.mk 3 0 ([78, 97, 116] : List UInt8) ([] : List Lvl) ([] : List Tm))⟩ : Ctr)], (⟨0, (Tm.mk 0 0 ([] : List UInt8) ([] : List Lvl) ([] : List Tm)), ([] : List Tm)⟩ : Rcr), ([] : List Fn)⟩ : Dcl), (⟨1, ([116, 119, 111] : List UInt8), 0, (Tm.mk 3 0 ([78, 97, 116] : List UInt8) ([] : List Lvl) ([] : List Tm)), (Tm.mk 3 0 ([78, 97, 116, 46, 122, 101, 114, 111] : List UInt8) ([] : List Lvl) ([] : List Tm)), 0, ([] : List Ctr), (⟨0, (Tm.mk 0 0 ([] : List UInt8) ([] : List Lvl) ([] : List Tm)), ([] : List Tm)⟩ : Rcr), ([] : List Fn)⟩ : Dcl)]) : List Dcl)))], [(6, some ⟨9, 1, (Enc.encL ([([78, 97, 116] : List UInt8)] : List Bs)).length, []⟩), (7, some ⟨9, 1, (Enc.encL ([([116, 119, 111] : List UInt8)] : List Bs)).length, []⟩)], 8, 115, []⟩) (fun (v10 : Bool) => (cond v10
      (some false)
      (Option.bind (Option.bind (idx x3.1 0) fun (x13 : List Int) =>
    Option.bind (m29 x13 ([1])) fun (x14 : Bool) =>
    cond x14
      (Option.bind (idx x3.1 1) fun (x16 : List Int) =>
    cond ((x16.length : Int) == 0)
      (Option.bind (idx x3.1 2) fun (x18 : List Int) =>
    Option.bind (m29 x18 ([1])) fun (x19 : Bool) =>
    cond x19
      (Option.bind (m29 x4.1 ([1, 0, 2])) fun (x21 : Bool) =>
    cond x21
      (Option.bind (m14 x5.1 ([([112, 108, 117, 115] : List UInt8), ([78, 97, 116] : List UInt8), ([78, 97, 116, 46, 122, 101, 114, 111] : List UInt8), ([78, 97, 116, 46, 115, 117, 99, 99] : List UInt8), ([78, 97, 116, 46, 114, 101, 99] : List UInt8), ([116, 119, 111] : List UInt8)])) fun (x23 : Bool) =>
    cond x23
      (Option.bind (idx x6.1 0) fun (x25 : Dcl) =>
    cond (x25.name == ([78, 97, 116] : List UInt8))
      (Option.bind (idx x6.1 1) fun (x27 : Dcl) =>
    some (x27.name == ([116, 119, 111] : List UInt8)))
      (some false))
      (some false))
      (some false))
      (some false))
      (some false))
      (some false)) (fun (v12 : Bool) => some v12))) = some r) ?_ ?_
  ·
   refine bindK h0 (fun w1_ h1 h0 => ?_)
   refine XC.region <| rM rfl rfl rfl <| rR rfl rfl rfl (RO.binInt rfl rfl rfl) <| rM rfl rfl rfl ?_
   refine XL.case (d := 46) (c := (x3.2 != 0)) rfl (fun c11 => ?_) (fun c11 => ?_)
   ·
    replace h1 := condT c11 h1
    refine XL.no rfl rfl <| XL.no rfl rfl <| rR rfl rfl rfl (RO.pickT rfl rfl) <| rM rfl rfl rfl <| XL.no rfl rfl <| XL.no rfl rfl <| rR rfl rfl rfl (RO.pickT rfl rfl) <| rM rfl rfl rfl <| XL.no rfl rfl <| XL.no rfl rfl <| rR rfl rfl rfl (RO.pickT rfl rfl) <| rM rfl rfl rfl <| XL.no rfl rfl <| XL.no rfl rfl ?_
    refine rR rfl rfl rfl (RO.pickT rfl rfl) <| rM rfl rfl rfl <| XL.no rfl rfl <| XL.no rfl rfl <| XL.no rfl rfl <| rR rfl rfl rfl (RO.pickT rfl rfl) <| rM rfl rfl rfl <| XL.no rfl rfl <| XL.no rfl rfl <| XL.no rfl rfl <| rR rfl rfl rfl (RO.pickT rfl rfl) <| XL.nil ?_
    have e_ := Option.some.inj h1
    subst e_
    exact XQ.joinR true (stle (tR rfl (tR rfl (tR rfl (tR rfl (tR rfl tZ))))) (hR rfl hZ) (kR rfl (kR rfl kZ)) rfl (Nat.zero_le _) rfl rfl rfl (bF rfl bZ) rfl rfl) h0
   ·
    replace h1 := condF c11 h1
    refine rM rfl rfl rfl <| rR rfl rfl rfl (RO.binInt rfl rfl rfl) <| rR rfl rfl rfl (RO.pickF rfl rfl) <| rM rfl rfl rfl ?_
    refine XL.case (d := 50) (c := (x4.2 != 0)) rfl (fun c12 => ?_) (fun c12 => ?_)
    ·
     replace h1 := condT c12 h1
     refine XL.no rfl rfl <| XL.no rfl rfl <| rR rfl rfl rfl (RO.pickT rfl rfl) <| rM rfl rfl rfl <| XL.no rfl rfl <| XL.no rfl rfl <| rR rfl rfl rfl (RO.pickT rfl rfl) <| rM rfl rfl rfl <| XL.no rfl rfl <| XL.no rfl rfl <| rR rfl rfl rfl (RO.pickT rfl rfl) <| rM rfl rfl rfl <| XL.no rfl rfl <| XL.no rfl rfl ?_
     refine XL.no rfl rfl <| rR rfl rfl rfl (RO.pickT rfl rfl) <| rM rfl rfl rfl <| XL.no rfl rfl <| XL.no rfl rfl <| XL.no rfl rfl <| rR rfl rfl rfl (RO.pickT rfl rfl) <| XL.nil ?_
     have e_ := Option.some.inj h1
     subst e_
     exact XQ.joinR true (stle (tR rfl (tR rfl (tR rfl (tR rfl (tR rfl tZ))))) (hR rfl hZ) (kR rfl (kR rfl kZ)) rfl (Nat.zero_le _) rfl rfl rfl (bF rfl bZ) rfl rfl) h0
    ·
     replace h1 := condF c12 h1
     refine rM rfl rfl rfl <| rR rfl rfl rfl (RO.binInt rfl rfl rfl) <| rR rfl rfl rfl (RO.pickF rfl rfl) <| rM rfl rfl rfl ?_
     refine XL.case (d := 54) (c := (x5.2 != 0)) rfl (fun c13 => ?_) (fun c13 => ?_)
     ·
      replace h1 := condT c13 h1
      refine XL.no rfl rfl <| XL.no rfl rfl <| rR rfl rfl rfl (RO.pickT rfl rfl) <| rM rfl rfl rfl <| XL.no rfl rfl <| XL.no rfl rfl <| rR rfl rfl rfl (RO.pickT rfl rfl) <| rM rfl rfl rfl <| XL.no rfl rfl <| XL.no rfl rfl <| XL.no rfl rfl <| rR rfl rfl rfl (RO.pickT rfl rfl) <| rM rfl rfl rfl <| XL.no rfl rfl ?_
      refine XL.no rfl rfl <| XL.no rfl rfl <| rR rfl rfl rfl (RO.pickT rfl rfl) <| XL.nil ?_
      have e_ := Option.some.inj h1
      subst e_
      exact XQ.joinR true (stle (tR rfl (tR rfl (tR rfl (tR rfl (tR rfl tZ))))) (hR rfl hZ) (kR rfl (kR rfl kZ)) rfl (Nat.zero_le _) rfl rfl rfl (bF rfl bZ) rfl rfl) h0
     ·
      replace h1 := condF c13 h1
      refine rM rfl rfl rfl <| rR rfl rfl rfl (RO.binInt rfl rfl rfl) <| rR rfl rfl rfl (RO.pickF rfl rfl) <| rM rfl rfl rfl ?_
      refine XL.case (d := 58) (c := (x6.2 != 0)) rfl (fun c14 => ?_) (fun c14 => ?_)
      ·
       replace h1 := condT c14 h1
       refine XL.no rfl rfl <| XL.no rfl rfl <| rR rfl rfl rfl (RO.pickT rfl rfl) <| rM rfl rfl rfl <| XL.no rfl rfl <| XL.no rfl rfl <| XL.no rfl rfl <| rR rfl rfl rfl (RO.pickT rfl rfl) <| rM rfl rfl rfl <| XL.no rfl rfl <| XL.no rfl rfl <| XL.no rfl rfl <| rR rfl rfl rfl (RO.pickT rfl rfl) <| XL.nil ?_
       have e_ := Option.some.inj h1
       subst e_
       exact XQ.joinR true (stle (tR rfl (tR rfl (tR rfl (tR rfl (tR rfl tZ))))) (hR rfl hZ) (kR rfl (kR rfl kZ)) rfl (Nat.zero_le _) rfl rfl rfl (bF rfl bZ) rfl rfl) h0
      ·
       replace h1 := condF c14 h1
       refine rM rfl rfl rfl <| rR rfl rfl rfl (RO.binInt rfl rfl rfl) <| rR rfl rfl rfl (RO.pickF rfl rfl) <| rM rfl rfl rfl ?_
       refine XL.case (d := 62) (c := (x9.2 != 22)) rfl (fun c15 => ?_) (fun c15 => ?_)
       ·
        replace h1 := condT c15 h1
        refine XL.no rfl rfl <| XL.no rfl rfl <| XL.no rfl rfl <| rR rfl rfl rfl (RO.pickT rfl rfl) <| rM rfl rfl rfl <| XL.no rfl rfl <| XL.no rfl rfl <| XL.no rfl rfl <| rR rfl rfl rfl (RO.pickT rfl rfl) <| XL.nil ?_
        have e_ := Option.some.inj h1
        subst e_
        exact XQ.joinR true (stle (tR rfl (tR rfl (tR rfl (tR rfl (tR rfl tZ))))) (hR rfl hZ) (kR rfl (kR rfl kZ)) rfl (Nat.zero_le _) rfl rfl rfl (bF rfl bZ) rfl rfl) h0
       ·
        replace h1 := condF c15 h1
        refine rM rfl rfl rfl <| rR rfl rfl rfl (RO.lenE (α := List Int) sl_57 rfl (.d _)) <| rR rfl rfl rfl (RO.binInt rfl rfl rfl) <| rR rfl rfl rfl (RO.pickF rfl rfl) <| rM rfl rfl rfl ?_
        refine XL.case (d := 67) (c := ((x3.1.length : Int) != 3)) rfl (fun c16 => ?_) (fun c16 => ?_)
        ·
         replace h1 := condT c16 h1
         refine XL.no rfl rfl <| XL.no rfl rfl <| XL.no rfl rfl <| rR rfl rfl rfl (RO.pickT rfl rfl) <| XL.nil ?_
         have e_ := Option.some.inj h1
         subst e_
         exact XQ.joinR true (stle (tR rfl (tR rfl (tR rfl (tR rfl (tR rfl tZ))))) (hR rfl hZ) (kR rfl (kR rfl kZ)) rfl (Nat.zero_le _) rfl rfl rfl (bF rfl bZ) rfl rfl) h0
        ·
         replace h1 := condF c16 h1
         refine rM rfl rfl rfl <| rR rfl rfl rfl (RO.lenE (α := Dcl) sl_22 rfl (.d _)) <| rR rfl rfl rfl (RO.binInt rfl rfl rfl) <| rR rfl rfl rfl (RO.pickF rfl rfl) <| XL.nil ?_
         have e_ := Option.some.inj h1
         subst e_
         exact XQ.joinR ((x6.1.length : Int) != 2) (stle (tR rfl (tR rfl (tR rfl (tR rfl (tR rfl tZ))))) (hR rfl hZ) (kR rfl (kR rfl kZ)) rfl (Nat.zero_le _) rfl rfl rfl (bF rfl bZ) rfl rfl) h0
  ·
   intro v10 h0
   refine XQ.seq ?_
   refine XC.cond (b := v10) rfl (fun c17 => ?_) (fun c17 => ?_)
   ·
    replace h0 := condT c17 h0
    refine XC.seq <| XC.region <| rA rfl rfl rfl <| XL.nil <| XQ.seq <| XC.ret ?_
    have e_ := Option.some.inj h0
    subst e_
    exact XQ.retF (fun _ _ h => h) rfl (RAs.tmp rfl .nil) (.cons (.one (.d _)) .nil)
   ·
    replace h0 := condF c17 h0
    refine XC.skip <| XQ.seq <| XC.seq ?_
    refine XC.joinR (fun (v18 : Bool) => ⟨[(0, .v (.one (dB v18)))], [(5, .cells 48 (flatE (([(⟨0, ([112, 108, 117, 115] : List UInt8), 0, (Tm.mk 3 0 ([78, 97, 116] : List UInt8) ([] : List Lvl) ([] : List Tm)), (Tm.mk 0 0 ([] : List UInt8) ([] : List Lvl) ([] : List Tm)), 0, ([] : List Ctr), (⟨0, (Tm.mk 0 0 ([] : List UInt8) ([] : List Lvl) ([] : List Tm)), ([] : List Tm)⟩ : Rcr), ([] : List Fn)⟩ : Dcl), (⟨3, ([78, 97, 116] : List UInt8), 0, (Tm.mk 2 0 ([] : List UInt8) [(⟨0, ([] : List LV)⟩ : Lvl)] ([] : List Tm)), (Tm.mk 3 0 ([116, 119, 111] : List UInt8) [] []), 0, [(⟨([78, 97, 116, 46, 122, 101, 114, 111] : List UInt8), (Tm.mk 3 0 ([78, 97, 116] : List UInt8) ([] : List Lvl) ([] : List Tm))⟩ : Ctr), (⟨([78, 97, 116, 46, 115, 117, 99, 99] : List UInt8), (Tm.mk 3 0 ([78, 97, 116] : List UInt8) ([] : List Lvl) ([] : List Tm))⟩ : Ctr)], (⟨0, (Tm.mk 0 0 ([] : List UInt8) ([] : List Lvl) ([] : List Tm)), ([] : List Tm)⟩ : Rcr), ([] : List Fn)⟩ : Dcl), (⟨1, ([116, 119, 111] : List UInt8), 0, (Tm.mk 3 0 ([78, 97, 116] : List UInt8) ([] : List Lvl) ([] : List Tm)), (Tm.mk 3 0 ([78, 97, 116, 46, 122, 101, 114, 111] : List UInt8) ([] : List Lvl) ([] : List Tm)), 0, ([] : List Ctr), (⟨0, (Tm.mk 0 0 ([] : List UInt8) ([] : List Lvl) ([] : List Tm)), ([] : List Tm)⟩ : Rcr), ([] : List Fn)⟩ : Dcl)]) : List Dcl)))], [(6, some ⟨9, 1, (Enc.encL ([([78, 97, 116] : List UInt8)] : List Bs)).length, []⟩), (7, some ⟨9, 1, (Enc.encL ([([116, 119, 111] : List UInt8)] : List Bs)).length, []⟩), (8, some ⟨3, 1, (Enc.encL ([1] : List Int)).length, []⟩)], 9, 115, []⟩) (fun (v18 : Bool) => (some v18) = some r) ?_ ?_
    ·
     refine bindK h0 (fun w1_ h1 h0 => ?_)
     refine XC.region <| rM rfl rfl rfl ?_
     refine bindK h1 (fun x19 hx19 h1 => ?_)
     refine rR rfl rfl rfl (RO.indexE (α := List Int) sl_57 rfl (.d _) rfl hx19) <| rR rfl rfl rfl (RO.loadPel ag_54 rfl rfl) <| XL.put rfl rfl (lb rfl) (OpOK.lit1E (α := Int) (1) sl_54 z_3 rfl rfl (lb rfl) (lb rfl) rfl rfl (.cons (.d _) .nil) rfl) ?_
     refine bindK h1 (fun x20 hx20 h1 => ?_)
     refine XL.put rfl rfl (lb rfl) (OpOK.callFun (m29_ok x19 ([1]) x20 hx20) rfl (.cons (.one (.d _)) (.cons (.one (.app _ _ _)) .nil))) <| rM rfl rfl rfl ?_
     refine XL.case (d := 77) (c := x20) rfl (fun c21 => ?_) (fun c21 => ?_)
     ·
      replace h1 := condT c21 h1
      refine rM rfl rfl rfl ?_
      refine bindK h1 (fun x22 hx22 h1 => ?_)
      refine rR rfl rfl rfl (RO.indexE (α := List Int) sl_57 rfl (.d _) rfl hx22) <| rR rfl rfl rfl (RO.loadPel ag_54 rfl rfl) <| rR rfl rfl rfl (RO.lenE (α := Int) sl_54 rfl (.d _)) <| rR rfl rfl rfl (RO.binInt rfl rfl rfl) <| rR rfl rfl rfl (RO.pickT rfl rfl) <| rM rfl rfl rfl ?_
      refine XL.case (d := 84) (c := ((x22.length : Int) == 0)) rfl (fun c23 => ?_) (fun c23 => ?_)
      ·
       replace h1 := condT c23 h1
       refine rM rfl rfl rfl ?_
       refine bindK h1 (fun x24 hx24 h1 => ?_)
       refine rR rfl rfl rfl (RO.indexE (α := List Int) sl_57 rfl (.d _) rfl hx24) <| rR rfl rfl rfl (RO.loadPel ag_54 rfl rfl) <| XL.put rfl rfl (lb rfl) (OpOK.lit1E (α := Int) (1) sl_54 z_3 rfl rfl (lb rfl) (lb rfl) rfl rfl (.cons (.d _) .nil) rfl) ?_
       refine bindK h1 (fun x25 hx25 h1 => ?_)
       refine XL.put rfl rfl (lb rfl) (OpOK.callFun (m29_ok x24 ([1]) x25 hx25) rfl (.cons (.one (.d _)) (.cons (.one (.app _ _ _)) .nil))) <| rR rfl rfl rfl (RO.pickT rfl rfl) <| rM rfl rfl rfl ?_
       refine XL.case (d := 91) (c := x25) rfl (fun c26 => ?_) (fun c26 => ?_)
       ·
        replace h1 := condT c26 h1
        refine rM rfl rfl rfl <| XL.put rfl rfl (lb rfl) (OpOK.lit3E (α := Int) 1 0 2 sl_54 z_3 rfl rfl (lb rfl) (lb rfl) rfl rfl rfl rfl (.cons (.d _) (.cons (.d _) (.cons (.d _) .nil))) ⟨rfl, rfl, rfl⟩) ?_
        refine bindK h1 (fun x27 hx27 h1 => ?_)
        refine XL.put rfl rfl (lb rfl) (OpOK.callFun (m29_ok x4.1 ([1, 0, 2]) x27 hx27) rfl (.cons (.one (.d _)) (.cons (.one (.app _ _ _)) .nil))) <| rR rfl rfl rfl (RO.pickT rfl rfl) <| rM rfl rfl rfl ?_
        refine XL.case (d := 96) (c := x27) rfl (fun c28 => ?_) (fun c28 => ?_)
        ·
         replace h1 := condT c28 h1
         refine rM rfl rfl rfl <| XL.put rfl rfl (lb rfl) (OpOK.data6E (α := Bs) ([112, 108, 117, 115] : List UInt8) ([78, 97, 116] : List UInt8) ([78, 97, 116, 46, 122, 101, 114, 111] : List UInt8) ([78, 97, 116, 46, 115, 117, 99, 99] : List UInt8) ([78, 97, 116, 46, 114, 101, 99] : List UInt8) ([116, 119, 111] : List UInt8) sl_23 z_9 rfl rfl (lb rfl) rfl rfl rfl rfl rfl rfl rfl (.cons (.d _) (.cons (.d _) (.cons (.d _) (.cons (.d _) (.cons (.d _) (.cons (.d _) .nil)))))) ⟨rfl, rfl, rfl, rfl, rfl, rfl⟩) ?_
         refine bindK h1 (fun x29 hx29 h1 => ?_)
         refine XL.put rfl rfl (lb rfl) (OpOK.callFun (m14_ok x5.1 ([([112, 108, 117, 115] : List UInt8), ([78, 97, 116] : List UInt8), ([78, 97, 116, 46, 122, 101, 114, 111] : List UInt8), ([78, 97, 116, 46, 115, 117, 99, 99] : List UInt8), ([78, 97, 116, 46, 114, 101, 99] : List UInt8), ([116, 119, 111] : List UInt8)]) x29 hx29) rfl (.cons (.one (.d _)) (.cons (.one (.d _)) .nil))) <| rR rfl rfl rfl (RO.pickT rfl rfl) <| rM rfl rfl rfl ?_
         refine XL.case (d := 101) (c := x29) rfl (fun c30 => ?_) (fun c30 => ?_)
         ·
          replace h1 := condT c30 h1
          refine rM rfl rfl rfl ?_
          refine bindK h1 (fun x31 hx31 h1 => ?_)
          refine rR rfl rfl rfl (RO.indexE (α := Dcl) sl_22 rfl (.d _) rfl hx31) <| rR rfl rfl rfl (RO.fieldPel fo_48_1 rfl) <| rR rfl rfl rfl (RO.loadPel ag_9 rfl rfl) <| rR rfl rfl rfl (RO.eqS rfl rfl) <| rR rfl rfl rfl (RO.pickT rfl rfl) <| rM rfl rfl rfl ?_
          refine XL.case (d := 108) (c := (x31.name == ([78, 97, 116] : List UInt8))) rfl (fun c32 => ?_) (fun c32 => ?_)
          ·
           replace h1 := condT c32 h1
           refine rM rfl rfl rfl ?_
           refine bindK h1 (fun x33 hx33 h1 => ?_)
           refine rR rfl rfl rfl (RO.indexE (α := Dcl) sl_22 rfl (.d _) rfl hx33) <| rR rfl rfl rfl (RO.fieldPel fo_48_1 rfl) <| rR rfl rfl rfl (RO.loadPel ag_9 rfl rfl) <| rR rfl rfl rfl (RO.eqS rfl rfl) <| rR rfl rfl rfl (RO.pickT rfl rfl) <| rA rfl rfl rfl <| XL.nil ?_
           have e_ := Option.some.inj h1
           subst e_
           exact XQ.joinR (x33.name == ([116, 119, 111] : List UInt8)) (stle (tR rfl tZ) (hR rfl hZ) (kR rfl (kR rfl (kR rfl kZ))) rfl (Nat.zero_le _) rfl rfl rfl (bF rfl bZ) rfl rfl) h0
          ·
           replace h1 := condF c32 h1
           refine XL.no rfl rfl <| XL.no rfl rfl <| XL.no rfl rfl <| XL.no rfl rfl <| XL.no rfl rfl <| rR rfl rfl rfl (RO.pickF rfl rfl) <| rA rfl rfl rfl <| XL.nil ?_
           have e_ := Option.some.inj h1
           subst e_
           exact XQ.joinR false (stle (tR rfl tZ) (hR rfl hZ) (kR rfl (kR rfl (kR rfl kZ))) rfl (Nat.zero_le _) rfl rfl rfl (bF rfl bZ) rfl rfl) h0
         ·
          replace h1 := condF c30 h1
          refine XL.no rfl rfl <| XL.no rfl rfl <| XL.no rfl rfl <| XL.no rfl rfl <| XL.no rfl rfl <| rR rfl rfl rfl (RO.pickF rfl rfl) <| rM rfl rfl rfl <| XL.no rfl rfl <| XL.no rfl rfl <| XL.no rfl rfl <| XL.no rfl rfl <| XL.no rfl rfl <| rR rfl rfl rfl (RO.pickF rfl rfl) <| rA rfl rfl rfl ?_
          refine XL.nil ?_
          have e_ := Option.some.inj h1
          subst e_
          exact XQ.joinR false (stle (tR rfl tZ) (hR rfl hZ) (kR rfl (kR rfl (kR rfl kZ))) rfl (Nat.zero_le _) rfl rfl rfl (bF rfl bZ) rfl rfl) h0
        ·
         replace h1 := condF c28 h1
         refine XL.no rfl rfl <| XL.no rfl rfl <| XL.no rfl rfl <| rR rfl rfl rfl (RO.pickF rfl rfl) <| rM rfl rfl rfl <| XL.no rfl rfl <| XL.no rfl rfl <| XL.no rfl rfl <| XL.no rfl rfl <| XL.no rfl rfl <| rR rfl rfl rfl (RO.pickF rfl rfl) <| rM rfl rfl rfl <| XL.no rfl rfl <| XL.no rfl rfl ?_
         refine XL.no rfl rfl <| XL.no rfl rfl <| XL.no rfl rfl <| rR rfl rfl rfl (RO.pickF rfl rfl) <| rA rfl rfl rfl <| XL.nil ?_
         have e_ := Option.some.inj h1
         subst e_
         exact XQ.joinR false (stle (tR rfl tZ) (hR rfl hZ) (kR rfl (kR rfl (kR rfl kZ))) rfl (Nat.zero_le _) rfl rfl rfl (bF rfl bZ) rfl rfl) h0
       ·
        replace h1 := condF c26 h1
        refine XL.no rfl rfl <| XL.no rfl rfl <| XL.no rfl rfl <| rR rfl rfl rfl (RO.pickF rfl rfl) <| rM rfl rfl rfl <| XL.no rfl rfl <| XL.no rfl rfl <| XL.no rfl rfl <| rR rfl rfl rfl (RO.pickF rfl rfl) <| rM rfl rfl rfl <| XL.no rfl rfl <| XL.no rfl rfl <| XL.no rfl rfl <| XL.no rfl rfl ?_
        refine XL.no rfl rfl <| rR rfl rfl rfl (RO.pickF rfl rfl) <| rM rfl rfl rfl <| XL.no rfl rfl <| XL.no rfl rfl <| XL.no rfl rfl <| XL.no rfl rfl <| XL.no rfl rfl <| rR rfl rfl rfl (RO.pickF rfl rfl) <| rA rfl rfl rfl <| XL.nil ?_
        have e_ := Option.some.inj h1
        subst e_
        exact XQ.joinR false (stle (tR rfl tZ) (hR rfl hZ) (kR rfl (kR rfl (kR rfl kZ))) rfl (Nat.zero_le _) rfl rfl rfl (bF rfl bZ) rfl rfl) h0
      ·
       replace h1 := condF c23 h1
       refine XL.no rfl rfl <| XL.no rfl rfl <| XL.no rfl rfl <| XL.no rfl rfl <| XL.no rfl rfl <| rR rfl rfl rfl (RO.pickF rfl rfl) <| rM rfl rfl rfl <| XL.no rfl rfl <| XL.no rfl rfl <| XL.no rfl rfl <| rR rfl rfl rfl (RO.pickF rfl rfl) <| rM rfl rfl rfl <| XL.no rfl rfl <| XL.no rfl rfl ?_
       refine XL.no rfl rfl <| rR rfl rfl rfl (RO.pickF rfl rfl) <| rM rfl rfl rfl <| XL.no rfl rfl <| XL.no rfl rfl <| XL.no rfl rfl <| XL.no rfl rfl <| XL.no rfl rfl <| rR rfl rfl rfl (RO.pickF rfl rfl) <| rM rfl rfl rfl <| XL.no rfl rfl <| XL.no rfl rfl <| XL.no rfl rfl <| XL.no rfl rfl ?_
       refine XL.no rfl rfl <| rR rfl rfl rfl (RO.pickF rfl rfl) <| rA rfl rfl rfl <| XL.nil ?_
       have e_ := Option.some.inj h1
       subst e_
       exact XQ.joinR false (stle (tR rfl tZ) (hR rfl hZ) (kR rfl (kR rfl (kR rfl kZ))) rfl (Nat.zero_le _) rfl rfl rfl (bF rfl bZ) rfl rfl) h0
     ·
      replace h1 := condF c21 h1
      refine XL.no rfl rfl <| XL.no rfl rfl <| XL.no rfl rfl <| XL.no rfl rfl <| XL.no rfl rfl <| rR rfl rfl rfl (RO.pickF rfl rfl) <| rM rfl rfl rfl <| XL.no rfl rfl <| XL.no rfl rfl <| XL.no rfl rfl <| XL.no rfl rfl <| XL.no rfl rfl <| rR rfl rfl rfl (RO.pickF rfl rfl) <| rM rfl rfl rfl ?_
      refine XL.no rfl rfl <| XL.no rfl rfl <| XL.no rfl rfl <| rR rfl rfl rfl (RO.pickF rfl rfl) <| rM rfl rfl rfl <| XL.no rfl rfl <| XL.no rfl rfl <| XL.no rfl rfl <| rR rfl rfl rfl (RO.pickF rfl rfl) <| rM rfl rfl rfl <| XL.no rfl rfl <| XL.no rfl rfl <| XL.no rfl rfl <| XL.no rfl rfl ?_
      refine XL.no rfl rfl <| rR rfl rfl rfl (RO.pickF rfl rfl) <| rM rfl rfl rfl <| XL.no rfl rfl <| XL.no rfl rfl <| XL.no rfl rfl <| XL.no rfl rfl <| XL.no rfl rfl <| rR rfl rfl rfl (RO.pickF rfl rfl) <| rA rfl rfl rfl <| XL.nil ?_
      have e_ := Option.some.inj h1
      subst e_
      exact XQ.joinR false (stle (tR rfl tZ) (hR rfl hZ) (kR rfl (kR rfl (kR rfl kZ))) rfl (Nat.zero_le _) rfl rfl rfl (bF rfl bZ) rfl rfl) h0
    ·
     intro v18 h0
     refine XQ.seq <| XC.ret ?_
     have e_ := Option.some.inj h0
     subst e_
     exact XQ.retF (fun _ _ h => h) rfl (RAs.tmp rfl .nil) (.cons (.one (.d _)) .nil)
theorem m11_true : m11 = some true := by kernel_rfl
end Go.Proofs.Ytijcchddnnnmdaa
namespace Go.Proofs.Ytijcchddnnnmdaa
open Go.RowKit Go.Shelf
set_option linter.unusedSimpArgs false
set_option linter.unusedVariables false
def m8_l0 (x4 : (List (List Int)) × Int) (x5 : (List (List Int)) × Int) (s3 : Int) : Option (LO Int (Unit ⊕ Bool)) :=
  cond (decide (s3 < (x4.1.length : Int)))
    (Option.bind (idx x4.1 s3) fun (x15 : List Int) =>
  Option.bind (idx x5.1 s3) fun (x16 : List Int) =>
  Option.bind (Option.bind (m29 x15 x16) fun (x19 : Bool) =>
  some x19) (fun (y17 : Bool) => cond (!y17)
    (some (.done (.inr false)))
    (some (.next (w64 (s3 + 1))))))
    (some (.done (.inl ())))
def m8 (a0 : List Dcl) : Option Bool :=
  Option.bind (m9 a0) fun (x1 : Bool) =>
  cond (!x1)
    (Option.bind (m11 ) fun (x3 : Bool) =>
  some x3)
    (Option.bind (m23 a0) fun (x4 : (List (List Int)) × Int) =>
  Option.bind (m25 a0) fun (x5 : (List (List Int)) × Int) =>
  Option.bind (m22 a0) fun (x6 : (List Int) × Int) =>
  Option.bind (m26 a0) fun (x7 : (List Int) × Int) =>
  Option.bind (cond (x4.2 == x5.2)
    (Option.bind (cond ((x4.1.length : Int) != (x5.1.length : Int))
    (some false)
    (Option.bind (loopN (m8_l0 x4 x5) FUEL 0) (Sum.elim (fun (o13 : Unit) => some true) (fun o => some o)))) (fun (y10 : Bool) => cond y10
    (cond (x6.2 == x7.2)
    (Option.bind (m29 x6.1 x7.1) fun (x24 : Bool) =>
  cond x24
    (Option.bind (m11 ) fun (x26 : Bool) =>
  some x26)
    (some false))
    (some false))
    (some false)))
    (some false)) (fun (v8 : Bool) => some v8))
end Go.Proofs.Ytijcchddnnnmdaa
namespace Go.Proofs.Ytijcchddnnnmdaa
open Go.RowKit Go.Lib
set_option linter.unusedSimpArgs false
set_option linter.unusedVariables false
set_option linter.unusedSectionVars false
theorem orderG_len (g : List (List Int)) : ∀ (k : Nat) (out o : List Int), orderG g k out = .inl o → o.length = out.length + k
  | 0, out, o, h => by cases h; rfl
  | k + 1, out, o, h => by
    simp only [orderG] at h
    split at h
    · cases h
    · have := orderG_len g k _ o h
      rw [this]; simp; omega
end Go.Proofs.Ytijcchddnnnmdaa
namespace Go.Proofs.Ytijcchddnnnmdaa
open Go.RowKit Go.Shelf
set_option linter.unusedSimpArgs false
set_option linter.unusedVariables false
theorem en_7 : Enters Try.prog 7 := enters_of Try.func7 (by kernel_rfl) rfl
theorem en_24 : Enters Try.prog 24 := enters_of Try.func24 (by kernel_rfl) rfl
theorem en_45 : Enters Try.prog 45 := enters_of Try.func45 (by kernel_rfl) rfl
def m45f18_l0 (a0 : List Int) (a1 : Int) (s1 : Int) : Option (LO Int (Unit ⊕ Int)) :=
  cond (decide (s1 < (a0.length : Int)))
    (Option.bind (idx a0 s1) fun (x3 : Int) =>
  cond (a1 == x3)
    (some (.done (.inr s1)))
    (some (.next (w64 (s1 + 1)))))
    (some (.done (.inl ())))
def m45f18 (a0 : List Int) (a1 : Int) : Option Int :=
  Option.bind (loopN (m45f18_l0 a0 a1) FUEL 0) (Sum.elim (fun (o1 : Unit) => some (-1)) (fun o => some o))
set_option maxRecDepth 100000 in
set_option maxHeartbeats 2000000 in
theorem m45f18_ok (a0 : List Int) (a1 : Int) (r : Int) (h0 : m45f18 a0 a1 = some r) : CallM Try.prog 45 [.one (dA 0 a0), .one (dI a1)] ⟨[], [(0, some ⟨3, 1, (Enc.encL a0).length, []⟩)], 1⟩ (resOf [.one (dI r)]) ⟨[], [(0, some ⟨3, 1, (Enc.encL a0).length, []⟩)], 1⟩ := by
  unfold m45f18 at h0
  refine CallM.of_bodyD ⟨[(4, .v (.one (dI r)))], [], [(0, some ⟨3, 1, (Enc.encL a0).length, []⟩)], 1, 19, []⟩ rfl rfl en_45 (lb rfl) rfl (RAs.tmp rfl .nil) (fun w0 M V0 Q hv0 hQ0 => ?_)
  simp only [entry]
  refine XC.seq <| XC.region <| rA rfl rfl rfl <| XL.nil <| XQ.seq <| XC.seq <| XC.seq <| XC.region <| rM rfl rfl rfl <| rR rfl rfl rfl (RO.lenE (α := Int) sl_54 rfl (.app _ _)) <| rM rfl rfl rfl <| XL.nil <| XQ.seq <| XC.block ?_
  refine XC.joinX 0 (fun (o1 : Unit) => ⟨[], [], [(0, some ⟨3, 1, (Enc.encL a0).length, []⟩)], 1, 19, []⟩) (fun (o1 : Unit) => (some (-1)) = some r) ?_ ?_
  ·
   refine bindK h0 (fun o2 hl1 h0 => ?_)
   refine XC.loopM (m45f18_l0 a0 a1) (fun s1 => ⟨[(0, .v (.one (dA 0 a0))), (1, .v (.one (dI a1))), (7, .v (.one (dI (a0.length : Int)))), (8, .v (.one (dI s1)))], [], [(0, some ⟨3, 1, (Enc.encL a0).length, []⟩)], 1, 19, []⟩) 0 o2 (stle (tR rfl (tR rfl (tR rfl (tR rfl tZ)))) hZ (kR rfl kZ) rfl (Nat.le_trans hv0 (lb rfl)) rfl rfl rfl bZ rfl rfl) hl1 (fun s1 n1 oo1 h1 ho1 => ?_)
   unfold m45f18_l0 at h1
   refine XC.seq <| XC.region <| rR rfl rfl rfl (RO.binInt rfl rfl rfl) <| XL.nil <| XQ.seq <| XC.seq ?_
   refine XC.cond (b := (decide (s1 < (a0.length : Int)))) rfl (fun c3 => ?_) (fun c3 => ?_)
   ·
    replace h1 := condT c3 h1
    refine XC.skip <| XQ.seq <| XC.seq <| XC.block <| XC.seq <| XC.region <| rM rfl rfl rfl <| rA rfl rfl rfl <| XL.nil <| XQ.seq <| XC.seq <| XC.region <| rM rfl rfl rfl <| rM rfl rfl rfl ?_
    refine rM rfl rfl rfl ?_
    refine bindK h1 (fun x4 hx4 h1 => ?_)
    refine rR rfl rfl rfl (RO.indexE (α := Int) sl_54 rfl (.app _ _) rfl hx4) <| rR rfl rfl rfl (RO.loadPel ag_3 rfl rfl) <| rR rfl rfl rfl (RO.binInt rfl rfl rfl) <| XL.nil <| XQ.seq ?_
    refine XC.cond (b := (a1 == x4)) rfl (fun c5 => ?_) (fun c5 => ?_)
    ·
     replace h1 := condT c5 h1
     refine XC.seq <| XC.region <| rM rfl rfl rfl <| rA rfl rfl rfl <| XL.nil <| XQ.seq <| XC.ret ?_
     have e_ := Option.some.inj h1
     subst e_
     have e_ : _ = _ := ho1
     subst e_
     try dsimp only [Sum.elim_inl, Sum.elim_inr] at h0
     have e_ := Option.some.inj h0
     subst e_
     exact hQ0 _ _ _ (.inr rfl) rfl (stle (tR rfl tZ) hZ (kR rfl kZ) rfl (Nat.le_trans hv0 (lb rfl)) rfl rfl rfl bZ rfl rfl)
    ·
     replace h1 := condF c5 h1
     refine XC.skip <| XQ.inBlock <| XQ.seq <| XC.region <| rR rfl rfl rfl (RO.binInt rfl rfl rfl) <| rM rfl rfl rfl <| XL.nil ?_
     have e_ := Option.some.inj h1
     subst e_
     refine XQ.nextM (w64 (s1 + 1)) (stle (tR rfl (tR rfl (tR rfl (tR rfl tZ)))) hZ (kR rfl kZ) rfl (Nat.le_trans hv0 (lb rfl)) rfl rfl rfl bZ rfl rfl) ho1
   ·
    replace h1 := condF c3 h1
    refine XC.exit <| XQ.thenE <| XQ.thenE ?_
    have e_ := Option.some.inj h1
    subst e_
    have e_ : _ = _ := ho1
    subst e_
    exact XQ.joinX () (stle tZ hZ (kR rfl kZ) rfl (Nat.le_trans hv0 (lb rfl)) rfl rfl rfl bZ rfl rfl) h0
  ·
   intro o1 h0
   refine XQ.blockX <| XQ.seq <| XC.seq <| XC.region <| rA rfl rfl rfl <| XL.nil <| XQ.seq <| XC.ret ?_
   have e_ := Option.some.inj h0
   subst e_
   exact hQ0 _ _ _ (.inr rfl) rfl (stle (tR rfl tZ) hZ (kR rfl kZ) rfl (Nat.le_trans hv0 (lb rfl)) rfl rfl rfl bZ rfl rfl)
def m24f17 (a0 : List Int) (a1 : Int) : Option Bool :=
  Option.bind (m45f18 a0 a1) fun (x1 : Int) =>
  some (decide (0 ≤ x1))
set_option maxRecDepth 100000 in
set_option maxHeartbeats 2000000 in
theorem m24f17_ok (a0 : List Int) (a1 : Int) (r : Bool) (h0 : m24f17 a0 a1 = some r) : CallM Try.prog 24 [.one (dA 0 a0), .one (dI a1)] ⟨[], [(0, some ⟨3, 1, (Enc.encL a0).length, []⟩)], 1⟩ (resOf [.one (dB r)]) ⟨[], [(0, some ⟨3, 1, (Enc.encL a0).length, []⟩)], 1⟩ := by
  unfold m24f17 at h0
  refine CallM.of_bodyD ⟨[(4, .v (.one (dB r)))], [], [(0, some ⟨3, 1, (Enc.encL a0).length, []⟩)], 1, 9, []⟩ rfl rfl en_24 (lb rfl) rfl (RAs.tmp rfl .nil) (fun w0 M V0 Q hv0 hQ0 => ?_)
  simp only [entry]
  refine XC.seq <| XC.region <| rA rfl rfl rfl <| XL.nil <| XQ.seq <| XC.seq <| XC.region <| rM rfl rfl rfl <| rM rfl rfl rfl ?_
  refine bindK h0 (fun x1 hx1 h0 => ?_)
  refine XL.put rfl rfl (lb rfl) (OpOK.callG (hp1' := []) (tk1' := [(0, some ⟨3, 1, (Enc.encL a0).length, []⟩)]) (hpF := []) (tkF := []) (res2 := resOf [.one (dI x1)]) (nx2 := 1) [0] rfl rfl (m45f18_ok a0 a1 x1 hx1) rfl rfl qZ rfl rfl gZ (jR rfl jZ) hZ kZ rfl rfl rfl rfl rfl bZ rfl rfl rfl rfl) <| rR rfl rfl rfl (RO.binInt rfl rfl rfl) <| rA rfl rfl rfl <| XL.nil <| XQ.seq <| XC.ret ?_
  have e_ := Option.some.inj h0
  subst e_
  exact hQ0 _ _ _ (.inr rfl) rfl (stle (tR rfl tZ) hZ (kR rfl kZ) rfl (Nat.le_trans hv0 (lb rfl)) rfl rfl rfl bZ rfl rfl)
def m7_l0 (x24 : List Int) (s1 : (List Int) × (List Dcl) × Int) (s2 : Int) : Option (LO Int (Unit ⊕ Bool)) :=
  cond (decide (s2 < (x24.length : Int)))
    (Option.bind (idx x24 s2) fun (x27 : Int) =>
  Option.bind (m24f17 s1.1 x27) fun (x28 : Bool) =>
  cond (!x28)
    (some (.done (.inr false)))
    (some (.next (w64 (s2 + 1)))))
    (some (.done (.inl ())))
def m7_l1 (x4 : (List Int) × Int) (a0 : List Dcl) (x5 : (List (List Int)) × Int) (s1 : (List Int) × (List Dcl) × Int) : Option (LO ((List Int) × (List Dcl) × Int) (((List Dcl)) ⊕ Bool)) :=
  cond (decide (s1.2.2 < (x4.1.length : Int)))
    (Option.bind (idx x4.1 s1.2.2) fun (x21 : Int) =>
  Option.bind (cond (decide (x21 < 0))
    (some true)
    (cond (decide ((a0.length : Int) ≤ x21))
    (some true)
    (Option.bind (m24f17 s1.1 x21) fun (x25 : Bool) =>
  some x25))) (fun (v22 : Bool) => cond v22
    (some (.done (.inr false)))
    (Option.bind (idx x5.1 x21) fun (x24 : List Int) =>
  Option.bind (loopN (m7_l0 x24 s1) FUEL 0) (Sum.elim (fun (o25 : Unit) => guardO (Nat.ble (s1.1.length + ([x21]).length) 1000000000)
  (Option.bind (idx a0 x21) fun (x27 : Dcl) =>
  guardO (Nat.ble (s1.2.1.length + ([x27]).length) 1000000000)
  (some (.next ((s1.1 ++ ([x21])), (s1.2.1 ++ ([x27])), (w64 (s1.2.2 + 1))))))) (fun o => some (.done (.inr o)))))))
    (some (.done (.inl s1.2.1)))
def m7_l2 (x20 : (List Int) × Int) (s1 : Int) : Option (LO Int (Unit ⊕ Bool)) :=
  cond (decide (s1 < (x20.1.length : Int)))
    (Option.bind (idx x20.1 s1) fun (x23 : Int) =>
  cond (x23 != s1)
    (some (.done (.inr false)))
    (some (.next (w64 (s1 + 1)))))
    (some (.done (.inl ())))
def m7 (a0 : List Dcl) : Option Bool :=
  Option.bind (m9 a0) fun (x1 : Bool) =>
  cond (!x1)
    (Option.bind (m11 ) fun (x3 : Bool) =>
  some x3)
    (Option.bind (m22 a0) fun (x4 : (List Int) × Int) =>
  Option.bind (m23 a0) fun (x5 : (List (List Int)) × Int) =>
  Option.bind (cond (x4.2 != 0)
    (some true)
    (some (x5.2 != 0))) (fun (v6 : Bool) => cond v6
    (Option.bind (cond ((x4.1.length : Int) == 0)
    (cond (x5.2 == 0)
    (cond (x4.2 == 22)
    (Option.bind (m11 ) fun (x12 : Bool) =>
  some x12)
    (cond (x4.2 == x5.2)
    (Option.bind (m11 ) fun (x14 : Bool) =>
  some x14)
    (some false)))
    (cond (x4.2 == x5.2)
    (Option.bind (m11 ) fun (x16 : Bool) =>
  some x16)
    (some false)))
    (some false)) (fun (v8 : Bool) => some v8))
    (Option.bind (cond ((x4.1.length : Int) != (a0.length : Int))
    (some true)
    (some ((x5.1.length : Int) != (a0.length : Int)))) (fun (v17 : Bool) => cond v17
    (some false)
    (Option.bind (loopN (m7_l1 x4 a0 x5) FUEL (([] : List Int), ([] : List Dcl), 0)) (Sum.elim (fun (o19 : (List Dcl)) => Option.bind (m22 o19) fun (x20 : (List Int) × Int) =>
  Option.bind (loopN (m7_l2 x20) FUEL 0) (Sum.elim (fun (o21 : Unit) => Option.bind (cond (x20.2 == 0)
    (cond ((x20.1.length : Int) == (a0.length : Int))
    (Option.bind (m11 ) fun (x25 : Bool) =>
  some x25)
    (some false))
    (some false)) (fun (v22 : Bool) => some v22)) (fun o => some o))) (fun o => some o)))))))
set_option maxRecDepth 100000 in
set_option maxHeartbeats 2000000 in
theorem m7_ok (a0 : List Dcl) (r : Bool) (h0 : m7 a0 = some r) : Fun Try.prog 7 [.one (dS a0)] (resOf [.one (dB r)]) := by
  unfold m7 at h0
  refine Fun.of_bodyM 9 141 Try.func7 rfl en_7 rfl (lb rfl) (fun S w => ?_)
  simp only [entry]
  refine XC.seq <| XC.region <| rA rfl rfl rfl <| XL.nil <| XQ.seq <| XC.seq <| XC.seq <| XC.region <| rM rfl rfl rfl ?_
  refine bindK h0 (fun x1 hx1 h0 => ?_)
  refine XL.put rfl rfl (lb rfl) (OpOK.callFun (m9_ok a0 x1 hx1) rfl (.cons (.one (.d _)) .nil)) <| rR rfl rfl rfl (RO.not rfl) <| XL.nil <| XQ.seq ?_
  refine XC.cond (b := (!x1)) rfl (fun c2 => ?_) (fun c2 => ?_)
  ·
   replace h0 := condT c2 h0
   refine XC.seq <| XC.region ?_
   refine bindK h0 (fun x3 hx3 h0 => ?_)
   refine XL.put rfl rfl (lb rfl) (OpOK.callFun (m11_ok  x3 hx3) rfl .nil) <| rA rfl rfl rfl <| XL.nil <| XQ.seq <| XC.ret ?_
   have e_ := Option.some.inj h0
   subst e_
   exact XQ.retF (fun _ _ h => h) rfl (RAs.tmp rfl .nil) (.cons (.one (.d _)) .nil)
  ·
   replace h0 := condF c2 h0
   refine XC.skip <| XQ.seq <| XC.seq <| XC.region <| rM rfl rfl rfl ?_
   refine bindK h0 (fun x4 hx4 h0 => ?_)
   refine XL.put rfl rfl (lb rfl) (OpOK.callFun (m22_ok a0 x4 hx4) rfl (.cons (.one (.d _)) .nil)) <| rM rfl rfl rfl <| rR rfl rfl rfl (RO.extract rfl rfl) <| rR rfl rfl rfl (RO.extract rfl rfl) <| rA rfl rfl rfl <| rA rfl rfl rfl <| XL.nil <| XQ.seq <| XC.seq <| XC.region <| rM rfl rfl rfl ?_
   refine bindK h0 (fun x5 hx5 h0 => ?_)
   refine XL.put rfl rfl (lb rfl) (OpOK.callFun (m23_ok a0 x5 hx5) rfl (.cons (.one (.d _)) .nil)) <| rM rfl rfl rfl <| rR rfl rfl rfl (RO.extract rfl rfl) <| rR rfl rfl rfl (RO.extract rfl rfl) <| rA rfl rfl rfl <| rA rfl rfl rfl <| XL.nil <| XQ.seq <| XC.seq <| XC.seq ?_
   refine XC.joinR (fun (v6 : Bool) => ⟨[(0, .v (.one (dS a0))), (3, .v (.one (dS x4.1))), (4, .v (.one (dI x4.2))), (5, .v (.one (dS x5.1))), (6, .v (.one (dI x5.2))), (35, .v (.one (dB v6)))], [], [], 0, 141, []⟩) (fun (v6 : Bool) => (cond v6
       (Option.bind (cond ((x4.1.length : Int) == 0)
       (cond (x5.2 == 0)
       (cond (x4.2 == 22)
       (Option.bind (m11 ) fun (x12 : Bool) =>
     some x12)
       (cond (x4.2 == x5.2)
       (Option.bind (m11 ) fun (x14 : Bool) =>
     some x14)
       (some false)))
       (cond (x4.2 == x5.2)
       (Option.bind (m11 ) fun (x16 : Bool) =>
     some x16)
       (some false)))
       (some false)) (fun (v8 : Bool) => some v8))
       (Option.bind (cond ((x4.1.length : Int) != (a0.length : Int))
       (some true)
       (some ((x5.1.length : Int) != (a0.length : Int)))) (fun (v17 : Bool) => cond v17
       (some false)
       (Option.bind (loopN (m7_l1 x4 a0 x5) FUEL (([] : List Int), ([] : List Dcl), 0)) (Sum.elim (fun (o19 : (List Dcl)) => Option.bind (m22 o19) fun (x20 : (List Int) × Int) =>
     Option.bind (loopN (m7_l2 x20) FUEL 0) (Sum.elim (fun (o21 : Unit) => Option.bind (cond (x20.2 == 0)
       (cond ((x20.1.length : Int) == (a0.length : Int))
       (Option.bind (m11 ) fun (x25 : Bool) =>
     some x25)
       (some false))
       (some false)) (fun (v22 : Bool) => some v22)) (fun o => some o))) (fun o => some o)))))) = some r) ?_ ?_
   ·
    refine bindK h0 (fun w1_ h1 h0 => ?_)
    refine XC.region <| rM rfl rfl rfl <| rR rfl rfl rfl (RO.binInt rfl rfl rfl) <| rM rfl rfl rfl ?_
    refine XL.case (d := 32) (c := (x4.2 != 0)) rfl (fun c7 => ?_) (fun c7 => ?_)
    ·
     replace h1 := condT c7 h1
     refine XL.no rfl rfl <| XL.no rfl rfl <| rR rfl rfl rfl (RO.pickT rfl rfl) <| XL.nil ?_
     have e_ := Option.some.inj h1
     subst e_
     exact XQ.joinR true (stle (tR rfl (tR rfl (tR rfl (tR rfl (tR rfl (tR rfl tZ)))))) hZ kZ rfl (Nat.zero_le _) rfl rfl rfl bZ rfl rfl) h0
    ·
     replace h1 := condF c7 h1
     refine rM rfl rfl rfl <| rR rfl rfl rfl (RO.binInt rfl rfl rfl) <| rR rfl rfl rfl (RO.pickF rfl rfl) <| XL.nil ?_
     have e_ := Option.some.inj h1
     subst e_
     exact XQ.joinR (x5.2 != 0) (stle (tR rfl (tR rfl (tR rfl (tR rfl (tR rfl (tR rfl tZ)))))) hZ kZ rfl (Nat.zero_le _) rfl rfl rfl bZ rfl rfl) h0
   ·
    intro v6 h0
    refine XQ.seq ?_
    refine XC.cond (b := v6) rfl (fun c8 => ?_) (fun c8 => ?_)
    ·
     replace h0 := condT c8 h0
     refine XC.seq ?_
     refine XC.joinR (fun (v9 : Bool) => ⟨[(2, .v (.one (dB v9)))], [], [], 0, 141, []⟩) (fun (v9 : Bool) => (some v9) = some r) ?_ ?_
     ·
      refine bindK h0 (fun w1_ h1 h0 => ?_)
      refine XC.region <| rM rfl rfl rfl <| rR rfl rfl rfl (RO.lenE (α := Int) sl_54 rfl (.d _)) <| rR rfl rfl rfl (RO.binInt rfl rfl rfl) <| rM rfl rfl rfl ?_
      refine XL.case (d := 39) (c := ((x4.1.length : Int) == 0)) rfl (fun c10 => ?_) (fun c10 => ?_)
      ·
       replace h1 := condT c10 h1
       refine rM rfl rfl rfl <| rR rfl rfl rfl (RO.binInt rfl rfl rfl) <| rM rfl rfl rfl ?_
       refine XL.case (d := 42) (c := (x5.2 == 0)) rfl (fun c11 => ?_) (fun c11 => ?_)
       ·
        replace h1 := condT c11 h1
        refine rM rfl rfl rfl <| rR rfl rfl rfl (RO.binInt rfl rfl rfl) <| rR rfl rfl rfl (RO.pickT rfl rfl) <| rM rfl rfl rfl ?_
        refine XL.case (d := 46) (c := (x4.2 == 22)) rfl (fun c12 => ?_) (fun c12 => ?_)
        ·
         replace h1 := condT c12 h1
         refine XL.no rfl rfl <| XL.no rfl rfl <| XL.no rfl rfl <| rR rfl rfl rfl (RO.pickT rfl rfl) <| rR rfl rfl rfl (RO.pickT rfl rfl) <| rM rfl rfl rfl ?_
         refine bindK h1 (fun x13 hx13 h1 => ?_)
         refine XL.put rfl rfl (lb rfl) (OpOK.callFun (m11_ok  x13 hx13) rfl .nil) <| rR rfl rfl rfl (RO.pickT rfl rfl) <| rA rfl rfl rfl <| XL.nil ?_
         have e_ := Option.some.inj h1
         subst e_
         exact XQ.joinR x13 (stle (tR rfl tZ) hZ kZ rfl (Nat.zero_le _) rfl rfl rfl bZ rfl rfl) h0
        ·
         replace h1 := condF c12 h1
         refine rM rfl rfl rfl <| rM rfl rfl rfl <| rR rfl rfl rfl (RO.binInt rfl rfl rfl) <| rR rfl rfl rfl (RO.pickF rfl rfl) <| rR rfl rfl rfl (RO.pickT rfl rfl) <| rM rfl rfl rfl ?_
         refine XL.case (d := 52) (c := (x4.2 == x5.2)) rfl (fun c14 => ?_) (fun c14 => ?_)
         ·
          replace h1 := condT c14 h1
          refine bindK h1 (fun x15 hx15 h1 => ?_)
          refine XL.put rfl rfl (lb rfl) (OpOK.callFun (m11_ok  x15 hx15) rfl .nil) <| rR rfl rfl rfl (RO.pickT rfl rfl) <| rA rfl rfl rfl <| XL.nil ?_
          have e_ := Option.some.inj h1
          subst e_
          exact XQ.joinR x15 (stle (tR rfl tZ) hZ kZ rfl (Nat.zero_le _) rfl rfl rfl bZ rfl rfl) h0
         ·
          replace h1 := condF c14 h1
          refine XL.no rfl rfl <| rR rfl rfl rfl (RO.pickF rfl rfl) <| rA rfl rfl rfl <| XL.nil ?_
          have e_ := Option.some.inj h1
          subst e_
          exact XQ.joinR false (stle (tR rfl tZ) hZ kZ rfl (Nat.zero_le _) rfl rfl rfl bZ rfl rfl) h0
       ·
        replace h1 := condF c11 h1
        refine XL.no rfl rfl <| XL.no rfl rfl <| rR rfl rfl rfl (RO.pickF rfl rfl) <| rM rfl rfl rfl <| rM rfl rfl rfl <| rM rfl rfl rfl <| rR rfl rfl rfl (RO.binInt rfl rfl rfl) <| rR rfl rfl rfl (RO.pickF rfl rfl) <| rR rfl rfl rfl (RO.pickT rfl rfl) <| rM rfl rfl rfl ?_
        refine XL.case (d := 52) (c := (x4.2 == x5.2)) rfl (fun c16 => ?_) (fun c16 => ?_)
        ·
         replace h1 := condT c16 h1
         refine bindK h1 (fun x17 hx17 h1 => ?_)
         refine XL.put rfl rfl (lb rfl) (OpOK.callFun (m11_ok  x17 hx17) rfl .nil) <| rR rfl rfl rfl (RO.pickT rfl rfl) <| rA rfl rfl rfl <| XL.nil ?_
         have e_ := Option.some.inj h1
         subst e_
         exact XQ.joinR x17 (stle (tR rfl tZ) hZ kZ rfl (Nat.zero_le _) rfl rfl rfl bZ rfl rfl) h0
        ·
         replace h1 := condF c16 h1
         refine XL.no rfl rfl <| rR rfl rfl rfl (RO.pickF rfl rfl) <| rA rfl rfl rfl <| XL.nil ?_
         have e_ := Option.some.inj h1
         subst e_
         exact XQ.joinR false (stle (tR rfl tZ) hZ kZ rfl (Nat.zero_le _) rfl rfl rfl bZ rfl rfl) h0
      ·
       replace h1 := condF c10 h1
       refine XL.no rfl rfl <| XL.no rfl rfl <| XL.no rfl rfl <| XL.no rfl rfl <| XL.no rfl rfl <| XL.no rfl rfl <| XL.no rfl rfl <| XL.no rfl rfl <| XL.no rfl rfl <| XL.no rfl rfl <| XL.no rfl rfl <| rR rfl rfl rfl (RO.pickF rfl rfl) <| rM rfl rfl rfl <| XL.no rfl rfl ?_
       refine rR rfl rfl rfl (RO.pickF rfl rfl) <| rA rfl rfl rfl <| XL.nil ?_
       have e_ := Option.some.inj h1
       subst e_
       exact XQ.joinR false (stle (tR rfl tZ) hZ kZ rfl (Nat.zero_le _) rfl rfl rfl bZ rfl rfl) h0
     ·
      intro v9 h0
      refine XQ.seq <| XC.ret ?_
      have e_ := Option.some.inj h0
      subst e_
      exact XQ.retF (fun _ _ h => h) rfl (RAs.tmp rfl .nil) (.cons (.one (.d _)) .nil)
    ·
     replace h0 := condF c8 h0
     refine XC.skip <| XQ.seq <| XC.seq <| XC.seq ?_
     refine XC.joinR (fun (v18 : Bool) => ⟨[(0, .v (.one (dS a0))), (3, .v (.one (dS x4.1))), (5, .v (.one (dS x5.1))), (66, .v (.one (dB v18)))], [], [], 0, 141, []⟩) (fun (v18 : Bool) => (cond v18
         (some false)
         (Option.bind (loopN (m7_l1 x4 a0 x5) FUEL (([] : List Int), ([] : List Dcl), 0)) (Sum.elim (fun (o20 : (List Dcl)) => Option.bind (m22 o20) fun (x21 : (List Int) × Int) =>
       Option.bind (loopN (m7_l2 x21) FUEL 0) (Sum.elim (fun (o22 : Unit) => Option.bind (cond (x21.2 == 0)
         (cond ((x21.1.length : Int) == (a0.length : Int))
         (Option.bind (m11 ) fun (x26 : Bool) =>
       some x26)
         (some false))
         (some false)) (fun (v23 : Bool) => some v23)) (fun o => some o))) (fun o => some o)))) = some r) ?_ ?_
     ·
      refine bindK h0 (fun w1_ h1 h0 => ?_)
      refine XC.region <| rM rfl rfl rfl <| rR rfl rfl rfl (RO.lenE (α := Int) sl_54 rfl (.d _)) <| rM rfl rfl rfl <| rR rfl rfl rfl (RO.lenE (α := Dcl) sl_22 rfl (.d _)) <| rR rfl rfl rfl (RO.binInt rfl rfl rfl) <| rM rfl rfl rfl ?_
      refine XL.case (d := 60) (c := ((x4.1.length : Int) != (a0.length : Int))) rfl (fun c19 => ?_) (fun c19 => ?_)
      ·
       replace h1 := condT c19 h1
       refine XL.no rfl rfl <| XL.no rfl rfl <| XL.no rfl rfl <| XL.no rfl rfl <| XL.no rfl rfl <| rR rfl rfl rfl (RO.pickT rfl rfl) <| XL.nil ?_
       have e_ := Option.some.inj h1
       subst e_
       exact XQ.joinR true (stle (tR rfl (tR rfl (tR rfl (tR rfl tZ)))) hZ kZ rfl (Nat.zero_le _) rfl rfl rfl bZ rfl rfl) h0
      ·
       replace h1 := condF c19 h1
       refine rM rfl rfl rfl <| rR rfl rfl rfl (RO.lenE (α := List Int) sl_57 rfl (.d _)) <| rM rfl rfl rfl <| rR rfl rfl rfl (RO.lenE (α := Dcl) sl_22 rfl (.d _)) <| rR rfl rfl rfl (RO.binInt rfl rfl rfl) <| rR rfl rfl rfl (RO.pickF rfl rfl) <| XL.nil ?_
       have e_ := Option.some.inj h1
       subst e_
       exact XQ.joinR ((x5.1.length : Int) != (a0.length : Int)) (stle (tR rfl (tR rfl (tR rfl (tR rfl tZ)))) hZ kZ rfl (Nat.zero_le _) rfl rfl rfl bZ rfl rfl) h0
     ·
      intro v18 h0
      refine XQ.seq ?_
      refine XC.cond (b := v18) rfl (fun c20 => ?_) (fun c20 => ?_)
      ·
       replace h0 := condT c20 h0
       refine XC.seq <| XC.region <| rA rfl rfl rfl <| XL.nil <| XQ.seq <| XC.ret ?_
       have e_ := Option.some.inj h0
       subst e_
       exact XQ.retF (fun _ _ h => h) rfl (RAs.tmp rfl .nil) (.cons (.one (.d _)) .nil)
      ·
       replace h0 := condF c20 h0
       refine XC.skip <| XQ.seq <| XC.seq <| XC.region <| rA rfl rfl rfl <| XL.nil <| XQ.seq <| XC.seq <| XC.region <| rA rfl rfl rfl <| XL.nil <| XQ.seq <| XC.seq <| XC.seq ?_
       refine XC.region <| rM rfl rfl rfl <| rR rfl rfl rfl (RO.lenE (α := Int) sl_54 rfl (.d _)) <| rM rfl rfl rfl <| XL.nil <| XQ.seq <| XC.block ?_
       refine XC.joinX 0 (fun (o21 : (List Dcl)) => ⟨[(0, .v (.one (dS a0))), (8, .v (.one (dA 1 o21)))], [], [(1, some ⟨48, 23, (Enc.encL o21).length, []⟩)], 2, 141, []⟩) (fun (o21 : (List Dcl)) => (Option.bind (m22 o21) fun (x22 : (List Int) × Int) =>
         Option.bind (loopN (m7_l2 x22) FUEL 0) (Sum.elim (fun (o23 : Unit) => Option.bind (cond (x22.2 == 0)
           (cond ((x22.1.length : Int) == (a0.length : Int))
           (Option.bind (m11 ) fun (x27 : Bool) =>
         some x27)
           (some false))
           (some false)) (fun (v24 : Bool) => some v24)) (fun o => some o))) = some r) ?_ ?_
       ·
        refine XC.adoptT (t := 7) 3 1 rfl <| XC.adoptT (t := 8) 48 23 rfl ?_
        refine bindK h0 (fun o22 hl1 h0 => ?_)
        refine XC.loopM (m7_l1 x4 a0 x5) (fun s1 => ⟨[(0, .v (.one (dS a0))), (5, .v (.one (dS x5.1))), (7, .v (.one (dA 0 s1.1))), (8, .v (.one (dA 1 s1.2.1))), (67, .v (.one (dS x4.1))), (68, .v (.one (dI (x4.1.length : Int)))), (69, .v (.one (dI s1.2.2)))], [], [(0, some ⟨3, 1, (Enc.encL s1.1).length, []⟩), (1, some ⟨48, 23, (Enc.encL s1.2.1).length, []⟩)], 2, 141, []⟩) (([] : List Int), ([] : List Dcl), 0) o22 (stle (tR rfl (tR rfl (tR rfl (tR rfl (tR rfl (tR rfl (tR rfl tZ))))))) hZ (kR rfl (kR rfl kZ)) rfl (Nat.zero_le _) rfl rfl rfl bZ rfl rfl) hl1 (fun s1 n1 oo1 h1 ho1 => ?_)
        unfold m7_l1 at h1
        refine XC.seq <| XC.region <| rR rfl rfl rfl (RO.binInt rfl rfl rfl) <| XL.nil <| XQ.seq <| XC.seq ?_
        refine XC.cond (b := (decide (s1.2.2 < (x4.1.length : Int)))) rfl (fun c23 => ?_) (fun c23 => ?_)
        ·
         replace h1 := condT c23 h1
         refine XC.skip <| XQ.seq <| XC.seq <| XC.block <| XC.seq <| XC.region ?_
         refine bindK h1 (fun x24 hx24 h1 => ?_)
         refine rR rfl rfl rfl (RO.indexE (α := Int) sl_54 rfl (.d _) rfl hx24) <| rR rfl rfl rfl (RO.loadPel ag_3 rfl rfl) <| rA rfl rfl rfl <| XL.nil <| XQ.seq <| XC.seq <| XC.seq ?_
         refine XC.joinR (fun (v25 : Bool) => ⟨[(0, .v (.one (dS a0))), (5, .v (.one (dS x5.1))), (7, .v (.one (dA 0 s1.1))), (8, .v (.one (dA 1 s1.2.1))), (10, .v (.one (dI x24))), (67, .v (.one (dS x4.1))), (68, .v (.one (dI (x4.1.length : Int)))), (69, .v (.one (dI s1.2.2))), (85, .v (.one (dB v25)))], [], [(0, some ⟨3, 1, (Enc.encL s1.1).length, []⟩), (1, some ⟨48, 23, (Enc.encL s1.2.1).length, []⟩)], 2, 141, []⟩) (fun (v25 : Bool) => (cond v25
             (some (.done (.inr false)))
             (Option.bind (idx x5.1 x24) fun (x27 : List Int) =>
           Option.bind (loopN (m7_l0 x27 s1) FUEL 0) (Sum.elim (fun (o28 : Unit) => guardO (Nat.ble (s1.1.length + ([x24]).length) 1000000000)
           (Option.bind (idx a0 x24) fun (x30 : Dcl) =>
           guardO (Nat.ble (s1.2.1.length + ([x30]).length) 1000000000)
           (some (.next ((s1.1 ++ ([x24])), (s1.2.1 ++ ([x30])), (w64 (s1.2.2 + 1))))))) (fun o => some (.done (.inr o)))))) = some oo1) ?_ ?_
         ·
          refine bindK h1 (fun w2_ h2 h1 => ?_)
          refine XC.region <| rM rfl rfl rfl <| rR rfl rfl rfl (RO.binInt rfl rfl rfl) <| rM rfl rfl rfl ?_
          refine XL.case (d := 75) (c := (decide (x24 < 0))) rfl (fun c26 => ?_) (fun c26 => ?_)
          ·
           replace h2 := condT c26 h2
           refine XL.no rfl rfl <| XL.no rfl rfl <| XL.no rfl rfl <| XL.no rfl rfl <| rR rfl rfl rfl (RO.pickT rfl rfl) <| rM rfl rfl rfl <| XL.no rfl rfl <| XL.no rfl rfl <| XL.no rfl rfl <| rR rfl rfl rfl (RO.pickT rfl rfl) <| XL.nil ?_
           have e_ := Option.some.inj h2
           subst e_
           exact XQ.joinR true (stle (tR rfl (tR rfl (tR rfl (tR rfl (tR rfl (tR rfl (tR rfl (tR rfl (tR rfl tZ))))))))) hZ (kR rfl (kR rfl kZ)) rfl (Nat.zero_le _) rfl rfl rfl bZ rfl rfl) h1
          ·
           replace h2 := condF c26 h2
           refine rM rfl rfl rfl <| rM rfl rfl rfl <| rR rfl rfl rfl (RO.lenE (α := Dcl) sl_22 rfl (.d _)) <| rR rfl rfl rfl (RO.binInt rfl rfl rfl) <| rR rfl rfl rfl (RO.pickF rfl rfl) <| rM rfl rfl rfl ?_
           refine XL.case (d := 81) (c := (decide ((a0.length : Int) ≤ x24))) rfl (fun c27 => ?_) (fun c27 => ?_)
           ·
            replace h2 := condT c27 h2
            refine XL.no rfl rfl <| XL.no rfl rfl <| XL.no rfl rfl <| rR rfl rfl rfl (RO.pickT rfl rfl) <| XL.nil ?_
            have e_ := Option.some.inj h2
            subst e_
            exact XQ.joinR true (stle (tR rfl (tR rfl (tR rfl (tR rfl (tR rfl (tR rfl (tR rfl (tR rfl (tR rfl tZ))))))))) hZ (kR rfl (kR rfl kZ)) rfl (Nat.zero_le _) rfl rfl rfl bZ rfl rfl) h1
           ·
            replace h2 := condF c27 h2
            refine rM rfl rfl rfl <| rM rfl rfl rfl ?_
            refine bindK h2 (fun x28 hx28 h2 => ?_)
            refine XL.put rfl rfl (lb rfl) (OpOK.callG (hp1' := []) (tk1' := [(0, some ⟨3, 1, (Enc.encL s1.1).length, []⟩)]) (hpF := []) (tkF := [(1, some ⟨48, 23, (Enc.encL s1.2.1).length, []⟩)]) (res2 := resOf [.one (dB x28)]) (nx2 := 2) [0] rfl rfl (m24f17_ok s1.1 x24 x28 hx28) rfl rfl qZ rfl rfl gZ (jR rfl jZ) hZ (kR rfl kZ) rfl rfl rfl rfl rfl bZ rfl rfl rfl rfl) <| rR rfl rfl rfl (RO.pickF rfl rfl) <| XL.nil ?_
            have e_ := Option.some.inj h2
            subst e_
            exact XQ.joinR x28 (stle (tR rfl (tR rfl (tR rfl (tR rfl (tR rfl (tR rfl (tR rfl (tR rfl (tR rfl tZ))))))))) hZ (kR rfl (kR rfl kZ)) rfl (Nat.zero_le _) rfl rfl rfl bZ rfl rfl) h1
         ·
          intro v25 h1
          refine XQ.seq ?_
          refine XC.cond (b := v25) rfl (fun c29 => ?_) (fun c29 => ?_)
          ·
           replace h1 := condT c29 h1
           refine XC.seq <| XC.region <| rA rfl rfl rfl <| XL.nil <| XQ.seq <| XC.ret ?_
           have e_ := Option.some.inj h1
           subst e_
           have e_ : _ = _ := ho1
           subst e_
           try dsimp only [Sum.elim_inl, Sum.elim_inr] at h0
           have e_ := Option.some.inj h0
           subst e_
           exact XQ.retF (fun _ _ h => h) rfl (RAs.tmp rfl .nil) (.cons (.one (.d _)) .nil)
          ·
           replace h1 := condF c29 h1
           refine XC.skip <| XQ.seq <| XC.seq <| XC.seq <| XC.region <| rM rfl rfl rfl <| rM rfl rfl rfl ?_
           refine bindK h1 (fun x30 hx30 h1 => ?_)
           refine rR rfl rfl rfl (RO.indexE (α := List Int) sl_57 rfl (.d _) rfl hx30) <| rR rfl rfl rfl (RO.loadPel ag_54 rfl rfl) <| rR rfl rfl rfl (RO.lenE (α := Int) sl_54 rfl (.d _)) <| rM rfl rfl rfl <| XL.nil <| XQ.seq <| XC.block ?_
           refine XC.joinX 2 (fun (o31 : Unit) => ⟨[(0, .v (.one (dS a0))), (5, .v (.one (dS x5.1))), (7, .v (.one (dA 0 s1.1))), (8, .v (.one (dA 1 s1.2.1))), (10, .v (.one (dI x24))), (67, .v (.one (dS x4.1))), (68, .v (.one (dI (x4.1.length : Int)))), (69, .v (.one (dI s1.2.2)))], [], [(0, some ⟨3, 1, (Enc.encL s1.1).length, []⟩), (1, some ⟨48, 23, (Enc.encL s1.2.1).length, []⟩)], 2, 141, []⟩) (fun (o31 : Unit) => (guardO (Nat.ble (s1.1.length + ([x24]).length) 1000000000)
             (Option.bind (idx a0 x24) fun (x33 : Dcl) =>
             guardO (Nat.ble (s1.2.1.length + ([x33]).length) 1000000000)
             (some (.next ((s1.1 ++ ([x24])), (s1.2.1 ++ ([x33])), (w64 (s1.2.2 + 1))))))) = some oo1) ?_ ?_
           ·
            refine bindK h1 (fun o32 hl2 h1 => ?_)
            refine XC.loopM (m7_l0 x30 s1) (fun s2 => ⟨[(0, .v (.one (dS a0))), (5, .v (.one (dS x5.1))), (7, .v (.one (dA 0 s1.1))), (8, .v (.one (dA 1 s1.2.1))), (10, .v (.one (dI x24))), (67, .v (.one (dS x4.1))), (68, .v (.one (dI (x4.1.length : Int)))), (69, .v (.one (dI s1.2.2))), (89, .v (.one (dS x30))), (90, .v (.one (dI (x30.length : Int)))), (91, .v (.one (dI s2)))], [], [(0, some ⟨3, 1, (Enc.encL s1.1).length, []⟩), (1, some ⟨48, 23, (Enc.encL s1.2.1).length, []⟩)], 2, 141, []⟩) 0 o32 (stle (tR rfl (tR rfl (tR rfl (tR rfl (tR rfl (tR rfl (tR rfl (tR rfl (tR rfl (tR rfl (tR rfl tZ))))))))))) hZ (kR rfl (kR rfl kZ)) rfl (Nat.zero_le _) rfl rfl rfl bZ rfl rfl) hl2 (fun s2 n2 oo2 h2 ho2 => ?_)
            unfold m7_l0 at h2
            refine XC.seq <| XC.region <| rR rfl rfl rfl (RO.binInt rfl rfl rfl) <| XL.nil <| XQ.seq <| XC.seq ?_
            refine XC.cond (b := (decide (s2 < (x30.length : Int)))) rfl (fun c33 => ?_) (fun c33 => ?_)
            ·
             replace h2 := condT c33 h2
             refine XC.skip <| XQ.seq <| XC.seq <| XC.block <| XC.seq <| XC.region ?_
             refine bindK h2 (fun x34 hx34 h2 => ?_)
             refine rR rfl rfl rfl (RO.indexE (α := Int) sl_54 rfl (.d _) rfl hx34) <| rR rfl rfl rfl (RO.loadPel ag_3 rfl rfl) <| rA rfl rfl rfl <| XL.nil <| XQ.seq <| XC.seq <| XC.region <| rM rfl rfl rfl <| rM rfl rfl rfl ?_
             refine bindK h2 (fun x35 hx35 h2 => ?_)
             refine XL.put rfl rfl (lb rfl) (OpOK.callG (hp1' := []) (tk1' := [(0, some ⟨3, 1, (Enc.encL s1.1).length, []⟩)]) (hpF := []) (tkF := [(1, some ⟨48, 23, (Enc.encL s1.2.1).length, []⟩)]) (res2 := resOf [.one (dB x35)]) (nx2 := 2) [0] rfl rfl (m24f17_ok s1.1 x34 x35 hx35) rfl rfl qZ rfl rfl gZ (jR rfl jZ) hZ (kR rfl kZ) rfl rfl rfl rfl rfl bZ rfl rfl rfl rfl) <| rR rfl rfl rfl (RO.not rfl) <| XL.nil <| XQ.seq ?_
             refine XC.cond (b := (!x35)) rfl (fun c36 => ?_) (fun c36 => ?_)
             ·
              replace h2 := condT c36 h2
              refine XC.seq <| XC.region <| rA rfl rfl rfl <| XL.nil <| XQ.seq <| XC.ret ?_
              have e_ := Option.some.inj h2
              subst e_
              have e_ : _ = _ := ho2
              subst e_
              try dsimp only [Sum.elim_inl, Sum.elim_inr] at h1
              have e_ := Option.some.inj h1
              subst e_
              have e_ : _ = _ := ho1
              subst e_
              try dsimp only [Sum.elim_inl, Sum.elim_inr] at h0
              have e_ := Option.some.inj h0
              subst e_
              exact XQ.retF (fun _ _ h => h) rfl (RAs.tmp rfl .nil) (.cons (.one (.d _)) .nil)
             ·
              replace h2 := condF c36 h2
              refine XC.skip <| XQ.inBlock <| XQ.seq <| XC.region <| rR rfl rfl rfl (RO.binInt rfl rfl rfl) <| rM rfl rfl rfl <| XL.nil ?_
              have e_ := Option.some.inj h2
              subst e_
              refine XQ.nextM (w64 (s2 + 1)) (stle (tR rfl (tR rfl (tR rfl (tR rfl (tR rfl (tR rfl (tR rfl (tR rfl (tR rfl (tR rfl (tR rfl tZ))))))))))) hZ (kR rfl (kR rfl kZ)) rfl (Nat.zero_le _) rfl rfl rfl bZ rfl rfl) ho2
            ·
             replace h2 := condF c33 h2
             refine XC.exit <| XQ.thenE <| XQ.thenE ?_
             have e_ := Option.some.inj h2
             subst e_
             have e_ : _ = _ := ho2
             subst e_
             exact XQ.joinX () (stle (tR rfl (tR rfl (tR rfl (tR rfl (tR rfl (tR rfl (tR rfl (tR rfl tZ)))))))) hZ (kR rfl (kR rfl kZ)) rfl (Nat.zero_le _) rfl rfl rfl bZ rfl rfl) h1
           ·
            intro o31 h1
            refine XQ.blockX <| XQ.seq ?_
            refine XC.anyRun [3, 10] [(4, 0), (5, 0), (6, 0), (7, 0), (8, 0), (9, 0)] mixed (by kernel_rfl) (by kernel_rfl) (by kernel_rfl) ?_
            refine RunA.rd rfl rfl rfl (OpOK.of_ro (RO.move rfl)) rfl <| RunA.rd rfl rfl rfl (OpOK.of_ro (RO.move rfl)) rfl <| RunA.rd rfl rfl rfl (OpOK.data1E (α := Int) (x24) sl_54 z_3 rfl rfl (lb rfl) rfl rfl (.cons (.d _) .nil) rfl) rfl ?_
            refine guardK h1 (fun g37 h1 => ?_)
            refine RunA.eff rfl rfl rfl (OpOK.appendE (α := Int) sl_54 el_3 rfl rfl rfl rfl rfl (.d _) g37) rfl <| RunA.rd rfl rfl rfl (OpOK.of_ro (RO.move rfl)) rfl <| RunA.rd rfl rfl rfl (OpOK.of_ro (RO.move rfl)) rfl <| RunA.rd rfl rfl rfl (OpOK.of_ro (RO.move rfl)) rfl ?_
            refine bindK h1 (fun x38 hx38 h1 => ?_)
            refine RunA.rd rfl rfl rfl (OpOK.of_ro (RO.indexE (α := Dcl) sl_22 rfl (.d _) rfl hx38)) rfl <| RunA.rd rfl rfl rfl (OpOK.of_ro (RO.loadPelCE (x38 : Dcl) ag_48 rfl)) rfl <| RunA.rd rfl rfl rfl (OpOK.data1CE (x38 : Dcl) sl_22 z_48 rfl rfl (lb rfl) rfl) rfl ?_
            refine guardK h1 (fun g39 h1 => ?_)
            refine RunA.eff rfl rfl rfl (OpOK.appendE (α := Dcl) sl_22 el_48 rfl rfl rfl rfl rfl (.d _) g39) rfl <| RunA.rd rfl rfl rfl (OpOK.of_ro (RO.assign rfl)) rfl <| RunA.rd rfl rfl rfl (OpOK.of_ro (RO.assign rfl)) rfl ?_
            refine RunA.nil ⟨?ex, _, _, rfl, ?_⟩
            case ex => exact ⟨⟨_, rfl, _, _, rfl, rfl, rfl, .inl ⟨rfl, _, OpOK.of_ro (RO.move rfl), rfl⟩⟩, ⟨_, rfl, _, _, rfl, rfl, rfl, .inl ⟨rfl, _, OpOK.of_ro (RO.move rfl), rfl⟩⟩, ⟨_, rfl, _, _, rfl, rfl, rfl, .inl ⟨rfl, _, OpOK.of_ro (RO.move rfl), rfl⟩⟩, ⟨_, rfl, _, _, rfl, rfl, rfl, .inl ⟨rfl, _, OpOK.of_ro (RO.indexE (α := Dcl) sl_22 rfl (.d _) rfl hx38), rfl⟩⟩, ⟨_, rfl, _, _, rfl, rfl, rfl, .inl ⟨rfl, _, OpOK.of_ro (RO.loadPelCE (x38 : Dcl) ag_48 rfl), rfl⟩⟩, ⟨_, rfl, _, _, rfl, rfl, rfl, .inl ⟨rfl, _, OpOK.data1CE (x38 : Dcl) sl_22 z_48 rfl rfl (lb rfl) rfl, rfl⟩⟩, trivial⟩
            refine XQ.less (st' := ⟨[(0, .v (.one (dS a0))), (5, .v (.one (dS x5.1))), (7, .v (.one (dA 0 ((s1.1 ++ ([x24])) : List Int)))), (8, .v (.one (dA 1 ((s1.2.1 ++ ([x38])) : List Dcl)))), (67, .v (.one (dS x4.1))), (68, .v (.one (dI (x4.1.length : Int)))), (69, .v (.one (dI s1.2.2)))], [], [(0, some ⟨3, 1, (Enc.encL ((s1.1 ++ ([x24])) : List Int)).length, []⟩), (1, some ⟨48, 23, (Enc.encL ((s1.2.1 ++ ([x38])) : List Dcl)).length, []⟩)], 2, 141, []⟩) (stle (tR rfl (tR rfl (tR rfl (tR rfl (tR rfl (tR rfl (tR rfl tZ))))))) hZ (kR rfl (kR rfl kZ)) rfl (Nat.zero_le _) rfl rfl rfl bZ rfl rfl) <| XQ.inBlock <| XQ.seq <| XC.region <| rR rfl rfl rfl (RO.binInt rfl rfl rfl) <| rM rfl rfl rfl <| XL.nil ?_
            have e_ := Option.some.inj h1
            subst e_
            refine XQ.nextM ((s1.1 ++ ([x24])), (s1.2.1 ++ ([x38])), (w64 (s1.2.2 + 1))) (stle (tR rfl (tR rfl (tR rfl (tR rfl (tR rfl (tR rfl (tR rfl tZ))))))) hZ (kR rfl (kR rfl kZ)) rfl (Nat.zero_le _) rfl rfl rfl bZ rfl rfl) ho1
        ·
         replace h1 := condF c23 h1
         refine XC.exit <| XQ.thenE <| XQ.thenE ?_
         have e_ := Option.some.inj h1
         subst e_
         have e_ : _ = _ := ho1
         subst e_
         exact XQ.joinX s1.2.1 (stle (tR rfl (tR rfl tZ)) hZ (kR rfl kZ) rfl (Nat.zero_le _) rfl rfl rfl bZ rfl rfl) h0
       ·
        intro o21 h0
        refine XQ.blockX <| XQ.seq <| XC.seq <| XC.region <| rM rfl rfl rfl ?_
        refine bindK h0 (fun x40 hx40 h0 => ?_)
        refine XL.put rfl rfl (lb rfl) (OpOK.callFun (m22_ok o21 x40 hx40) rfl (.cons (.one (.app _ _ _)) .nil)) <| rM rfl rfl rfl <| rR rfl rfl rfl (RO.extract rfl rfl) <| rR rfl rfl rfl (RO.extract rfl rfl) <| rA rfl rfl rfl <| rA rfl rfl rfl <| XL.nil <| XQ.seq <| XC.seq <| XC.seq <| XC.region <| rM rfl rfl rfl <| rR rfl rfl rfl (RO.lenE (α := Int) sl_54 rfl (.d _)) <| rM rfl rfl rfl ?_
        refine XL.nil <| XQ.seq <| XC.block ?_
        refine XC.joinX 4 (fun (o41 : Unit) => ⟨[(0, .v (.one (dS a0))), (13, .v (.one (dS x40.1))), (14, .v (.one (dI x40.2)))], [], [(1, some ⟨48, 23, (Enc.encL o21).length, []⟩)], 2, 141, []⟩) (fun (o41 : Unit) => (Option.bind (cond (x40.2 == 0)
            (cond ((x40.1.length : Int) == (a0.length : Int))
            (Option.bind (m11 ) fun (x45 : Bool) =>
          some x45)
            (some false))
            (some false)) (fun (v42 : Bool) => some v42)) = some r) ?_ ?_
        ·
         refine bindK h0 (fun o42 hl1 h0 => ?_)
         refine XC.loopM (m7_l2 x40) (fun s1 => ⟨[(0, .v (.one (dS a0))), (13, .v (.one (dS x40.1))), (14, .v (.one (dI x40.2))), (118, .v (.one (dI (x40.1.length : Int)))), (119, .v (.one (dI s1)))], [], [(1, some ⟨48, 23, (Enc.encL o21).length, []⟩)], 2, 141, []⟩) 0 o42 (stle (tR rfl (tR rfl (tR rfl (tR rfl (tR rfl tZ))))) hZ (kR rfl kZ) rfl (Nat.zero_le _) rfl rfl rfl bZ rfl rfl) hl1 (fun s1 n1 oo1 h1 ho1 => ?_)
         unfold m7_l2 at h1
         refine XC.seq <| XC.region <| rR rfl rfl rfl (RO.binInt rfl rfl rfl) <| XL.nil <| XQ.seq <| XC.seq ?_
         refine XC.cond (b := (decide (s1 < (x40.1.length : Int)))) rfl (fun c43 => ?_) (fun c43 => ?_)
         ·
          replace h1 := condT c43 h1
          refine XC.skip <| XQ.seq <| XC.seq <| XC.block <| XC.seq <| XC.region <| rM rfl rfl rfl <| rA rfl rfl rfl <| XL.nil <| XQ.seq <| XC.seq <| XC.region <| rM rfl rfl rfl <| rM rfl rfl rfl ?_
          refine bindK h1 (fun x44 hx44 h1 => ?_)
          refine rR rfl rfl rfl (RO.indexE (α := Int) sl_54 rfl (.d _) rfl hx44) <| rR rfl rfl rfl (RO.loadPel ag_3 rfl rfl) <| rM rfl rfl rfl <| rR rfl rfl rfl (RO.binInt rfl rfl rfl) <| XL.nil <| XQ.seq ?_
          refine XC.cond (b := (x44 != s1)) rfl (fun c45 => ?_) (fun c45 => ?_)
          ·
           replace h1 := condT c45 h1
           refine XC.seq <| XC.region <| rA rfl rfl rfl <| XL.nil <| XQ.seq <| XC.ret ?_
           have e_ := Option.some.inj h1
           subst e_
           have e_ : _ = _ := ho1
           subst e_
           try dsimp only [Sum.elim_inl, Sum.elim_inr] at h0
           have e_ := Option.some.inj h0
           subst e_
           exact XQ.retF (fun _ _ h => h) rfl (RAs.tmp rfl .nil) (.cons (.one (.d _)) .nil)
          ·
           replace h1 := condF c45 h1
           refine XC.skip <| XQ.inBlock <| XQ.seq <| XC.region <| rR rfl rfl rfl (RO.binInt rfl rfl rfl) <| rM rfl rfl rfl <| XL.nil ?_
           have e_ := Option.some.inj h1
           subst e_
           refine XQ.nextM (w64 (s1 + 1)) (stle (tR rfl (tR rfl (tR rfl (tR rfl (tR rfl tZ))))) hZ (kR rfl kZ) rfl (Nat.zero_le _) rfl rfl rfl bZ rfl rfl) ho1
         ·
          replace h1 := condF c43 h1
          refine XC.exit <| XQ.thenE <| XQ.thenE ?_
          have e_ := Option.some.inj h1
          subst e_
          have e_ : _ = _ := ho1
          subst e_
          exact XQ.joinX () (stle (tR rfl (tR rfl (tR rfl tZ))) hZ (kR rfl kZ) rfl (Nat.zero_le _) rfl rfl rfl bZ rfl rfl) h0
        ·
         intro o41 h0
         refine XQ.blockX <| XQ.seq <| XC.seq ?_
         refine XC.joinR (fun (v46 : Bool) => ⟨[(2, .v (.one (dB v46)))], [], [(1, some ⟨48, 23, (Enc.encL o21).length, []⟩)], 2, 141, []⟩) (fun (v46 : Bool) => (some v46) = some r) ?_ ?_
         ·
          refine bindK h0 (fun w1_ h1 h0 => ?_)
          refine XC.region <| rM rfl rfl rfl <| rR rfl rfl rfl (RO.binInt rfl rfl rfl) <| rM rfl rfl rfl ?_
          refine XL.case (d := 131) (c := (x40.2 == 0)) rfl (fun c47 => ?_) (fun c47 => ?_)
          ·
           replace h1 := condT c47 h1
           refine rM rfl rfl rfl <| rR rfl rfl rfl (RO.lenE (α := Int) sl_54 rfl (.d _)) <| rM rfl rfl rfl <| rR rfl rfl rfl (RO.lenE (α := Dcl) sl_22 rfl (.d _)) <| rR rfl rfl rfl (RO.binInt rfl rfl rfl) <| rR rfl rfl rfl (RO.pickT rfl rfl) <| rM rfl rfl rfl ?_
           refine XL.case (d := 138) (c := ((x40.1.length : Int) == (a0.length : Int))) rfl (fun c48 => ?_) (fun c48 => ?_)
           ·
            replace h1 := condT c48 h1
            refine bindK h1 (fun x49 hx49 h1 => ?_)
            refine XL.put rfl rfl (lb rfl) (OpOK.callFun (m11_ok  x49 hx49) rfl .nil) <| rR rfl rfl rfl (RO.pickT rfl rfl) <| rA rfl rfl rfl <| XL.nil ?_
            have e_ := Option.some.inj h1
            subst e_
            exact XQ.joinR x49 (stle (tR rfl tZ) hZ (kR rfl kZ) rfl (Nat.zero_le _) rfl rfl rfl bZ rfl rfl) h0
           ·
            replace h1 := condF c48 h1
            refine XL.no rfl rfl <| rR rfl rfl rfl (RO.pickF rfl rfl) <| rA rfl rfl rfl <| XL.nil ?_
            have e_ := Option.some.inj h1
            subst e_
            exact XQ.joinR false (stle (tR rfl tZ) hZ (kR rfl kZ) rfl (Nat.zero_le _) rfl rfl rfl bZ rfl rfl) h0
          ·
           replace h1 := condF c47 h1
           refine XL.no rfl rfl <| XL.no rfl rfl <| XL.no rfl rfl <| XL.no rfl rfl <| XL.no rfl rfl <| rR rfl rfl rfl (RO.pickF rfl rfl) <| rM rfl rfl rfl <| XL.no rfl rfl <| rR rfl rfl rfl (RO.pickF rfl rfl) <| rA rfl rfl rfl <| XL.nil ?_
           have e_ := Option.some.inj h1
           subst e_
           exact XQ.joinR false (stle (tR rfl tZ) hZ (kR rfl kZ) rfl (Nat.zero_le _) rfl rfl rfl bZ rfl rfl) h0
         ·
          intro v46 h0
          refine XQ.seq <| XC.ret ?_
          have e_ := Option.some.inj h0
          subst e_
          exact XQ.retF (fun _ _ h => h) rfl (RAs.tmp rfl .nil) (.cons (.one (.d _)) .nil)
end Go.Proofs.Ytijcchddnnnmdaa
namespace Go.Proofs.Ytijcchddnnnmdaa
open Go.RowKit Go.Lib
set_option linter.unusedSimpArgs false
set_option linter.unusedVariables false
set_option linter.unusedSectionVars false
def GoodOrd (g : List (List Int)) (out : List Int) : Prop := ∀ k x, out[k]? = some x → ∃ (i : Nat) (l : List Int), x = (i : Int) ∧ g[i]? = some l ∧ x ∉ out.take k ∧ ∀ j ∈ l, j ∈ out.take k
theorem GoodOrd.snoc {g : List (List Int)} {out : List Int} (h : GoodOrd g out) {i : Nat} {l : List Int} (hl : g[i]? = some l) (hr : readyL out i l = true) : GoodOrd g (out ++ [(i : Int)]) := by
  intro k x hk
  unfold readyL at hr
  rw [Bool.and_eq_true, decide_eq_true_eq, List.all_eq_true] at hr
  rcases Nat.lt_or_ge k out.length with h1 | h1
  · rw [List.getElem?_append_left h1] at hk
    rw [List.take_append_of_le_length (Nat.le_of_lt h1)]
    exact h k x hk
  · rw [List.getElem?_append_right h1] at hk
    cases hq : k - out.length with
    | zero =>
      rw [hq] at hk
      cases hk
      have : k = out.length := by omega
      subst this
      rw [List.take_left]
      exact ⟨i, l, rfl, hl, hr.1, fun j hj => by simpa using hr.2 j hj⟩
    | succ m => rw [hq] at hk; cases hk
theorem orderG_good (g : List (List Int)) : ∀ (k : Nat) (out o : List Int), GoodOrd g out → orderG g k out = .inl o → GoodOrd g o
  | 0, out, o, h, e => by cases e; exact h
  | k + 1, out, o, h, e => by
    simp only [orderG] at e
    split at e
    · cases e
    · rename_i i hi
      obtain ⟨q, l, h1, h2, h3⟩ := pickF_some out g 0 i hi
      rw [Nat.zero_add] at h1
      subst h1
      exact orderG_good g k _ o (h.snoc h2 h3) e
def idxL (n : Nat) : List Int := (List.range n).map fun (k : Nat) => (k : Int)
theorem idxL_mem {n : Nat} {x : Int} : x ∈ idxL n ↔ ∃ k : Nat, k < n ∧ x = (k : Int) := by
  unfold idxL
  rw [List.mem_map]
  exact ⟨fun ⟨k, h1, h2⟩ => ⟨k, List.mem_range.1 h1, h2.symm⟩, fun ⟨k, h1, h2⟩ => ⟨k, List.mem_range.2 h1, h2.symm⟩⟩
theorem idxL_len (n : Nat) : (idxL n).length = n := by unfold idxL; simp
theorem idxL_nodup (n : Nat) : (idxL n).Nodup := by
  unfold idxL
  rw [List.Nodup, List.pairwise_map]
  exact List.nodup_range.imp fun h e => h (by omega)
theorem idxL_succ (n : Nat) : idxL (n + 1) = idxL n ++ [(n : Int)] := by unfold idxL; rw [List.range_succ, List.map_append]; rfl
theorem good_nodup {g : List (List Int)} {o : List Int} (h : GoodOrd g o) : o.Nodup := by
  rw [List.Nodup, List.pairwise_iff_getElem]
  intro i j hi hj hij e
  obtain ⟨-, -, -, -, h3, -⟩ := h j o[j] (List.getElem?_eq_getElem hj)
  refine h3 ?_
  rw [← e, List.mem_take_iff_getElem]
  exact ⟨i, by omega, rfl⟩
theorem good_range {g : List (List Int)} {o : List Int} (h : GoodOrd g o) {x : Int} (hx : x ∈ o) : ∃ i : Nat, i < g.length ∧ x = (i : Int) := by
  obtain ⟨k, hk⟩ := List.mem_iff_getElem?.1 hx
  obtain ⟨i, l, h1, h2, -⟩ := h k x hk
  exact ⟨i, (List.getElem?_eq_some_iff.1 h2).1, h1⟩
theorem good_perm {g : List (List Int)} {o : List Int} (h : GoodOrd g o) (hl : o.length = g.length) : o.Perm (idxL g.length) := by
  have hs : o ⊆ idxL g.length := fun x hx => idxL_mem.2 (good_range h hx)
  refine (List.perm_ext_iff_of_nodup (good_nodup h) (idxL_nodup _)).2 fun x => ⟨fun hx => hs hx, fun hx => ?_⟩
  by_cases hc : x ∈ o
  · exact hc
  · exfalso
    have h1 : (x :: o).Nodup := List.nodup_cons.2 ⟨hc, good_nodup h⟩
    have h2 : (x :: o) ⊆ idxL g.length := fun y hy => (List.mem_cons.1 hy).elim (fun e => by rw [e]; exact hx) (fun e => hs e)
    have := h1.length_le_of_subset h2
    rw [List.length_cons, idxL_len] at this
    omega
def srt (env : List Dcl) (o : List Int) : List Dcl := o.filterMap fun x => env[x.toNat]?
theorem srt_take (env : List Dcl) : ∀ n : Nat, srt env (idxL n) = env.take n
  | 0 => rfl
  | n + 1 => by
    rw [idxL_succ, List.take_add_one, ← srt_take env n]
    unfold srt
    rw [List.filterMap_append]
    simp only [List.filterMap_cons, List.filterMap_nil, Int.toNat_natCast]
    cases env[n]? <;> rfl
theorem srt_get {env : List Dcl} : ∀ {o : List Int}, (∀ x ∈ o, ∃ i : Nat, i < env.length ∧ x = (i : Int)) → ∀ k : Nat, (srt env o)[k]? = (o[k]?).bind fun (x : Int) => env[x.toNat]?
  | [], h, k => by simp [srt]
  | x :: o, h, k => by
    obtain ⟨i, hi, rfl⟩ := h x (by simp)
    have ih := srt_get (env := env) (o := o) fun y hy => h y (by simp [hy])
    have e1 : env[i]? = some env[i] := List.getElem?_eq_getElem hi
    have e2 : srt env ((i : Int) :: o) = env[i] :: srt env o := by
      unfold srt
      rw [List.filterMap_cons, Int.toNat_natCast, e1]
    rw [e2]
    cases k with
    | zero => simp
    | succ k => simpa using ih k
theorem ownO_le (s : Bs) : ∀ (l : List Dcl) (i : Int) (p : Nat) (d : Dcl), l[p]? = some d → s ∈ names d → ∃ q : Nat, q ≤ p ∧ ownO i l s = some (i + q)
  | [], i, p, d, h, _ => by cases h
  | e :: l, i, p, d, h, hs => by
    simp only [ownO]
    split
    · exact ⟨0, Nat.zero_le _, by simp⟩
    · cases p with
      | zero => cases h; contradiction
      | succ p =>
        obtain ⟨q, h1, h2⟩ := ownO_le s l (i + 1) p d h hs
        exact ⟨q + 1, by omega, by rw [h2]; congr 1; omega⟩
theorem pick_at {out : List Int} : ∀ (g : List (List Int)) (i q : Nat) (l : List Int), g[q]? = some l → readyL out (i + q) l = true → (∀ p, p < q → ((i + p : Nat) : Int) ∈ out) → pickF out i g = some (i + q)
  | [], i, q, l, h, _, _ => by cases h
  | m :: g, i, q, l, h, hr, hb => by
    simp only [pickF]
    cases q with
    | zero => cases h; rw [Nat.add_zero] at hr ⊢; rw [if_pos hr]; try rfl
    | succ q =>
      have h0 := hb 0 (by omega)
      rw [if_neg]
      · have := pick_at g (i + 1) q l h (by rw [show i + 1 + q = i + (q + 1) by omega]; exact hr) fun p hp => by
          have := hb (p + 1) (by omega)
          rwa [show i + 1 + p = i + (p + 1) by omega]
        rw [this, show i + 1 + q = i + (q + 1) by omega]
      · unfold readyL
        rw [Nat.add_zero] at h0
        simp [h0]
theorem sorted_order {env : List Dcl} {o : List Int} (h1 : (allNames env).Nodup) (h2 : closedA env env) (h3 : orderG (graphL env) env.length [] = .inl o) :
    GoodOrd (graphL env) o ∧ o.length = env.length ∧ envSz (srt env o) = envSz env ∧ OSays (srt env o) (idxL env.length, 0) := by
  have hgl : (graphL env).length = env.length := by unfold graphL; simp
  have hgo : GoodOrd (graphL env) o := orderG_good _ _ [] o (fun k x h => by cases h) h3
  have hol : o.length = env.length := by
    have := orderG_len _ _ _ _ h3
    simpa using this
  have hp := good_perm hgo (by omega)
  rw [hgl] at hp
  have hse : (srt env o).Perm env := by
    have := hp.filterMap fun x => env[x.toNat]?
    have e : srt env (idxL env.length) = env := by rw [srt_take, List.take_length]
    unfold srt at e ⊢
    rwa [e] at this
  have hsl : (srt env o).length = env.length := hse.length_eq
  have hn : (allNames (srt env o)).Nodup := ((hse.map names).flatten.nodup_iff).2 h1
  have hall : ∀ s, s ∈ allNames (srt env o) ↔ s ∈ allNames env := fun s => (hse.map names).flatten.mem_iff
  have hc : closedA (srt env o) (srt env o) := fun d hd s hs => (hall s).2 (h2 d (hse.mem_iff.1 hd) s hs)
  have hrg : ∀ x ∈ o, ∃ i : Nat, i < env.length ∧ x = (i : Int) := fun x hx => by
    have := good_range hgo hx
    rwa [hgl] at this
  refine ⟨hgo, hol, ?_, ?_⟩
  · unfold envSz
    exact (hse.map Dcl.size).sum_nat
  · have key : ∀ (m k : Nat), k + m = env.length → orderG (graphL (srt env o)) m (idxL k) = .inl (idxL env.length) := by
      intro m
      induction m with
      | zero => intro k hk; rw [Nat.add_zero] at hk; subst hk; rfl
      | succ m ih =>
        intro k hk
        have hko : k < o.length := by omega
        have ek : o[k]? = some o[k] := List.getElem?_eq_getElem hko
        obtain ⟨i, l, e1, e2, e3, e4⟩ := hgo k _ ek
        have hi : i < env.length := by rw [← hgl]; exact (List.getElem?_eq_some_iff.1 e2).1
        have ei : env[i]? = some env[i] := List.getElem?_eq_getElem hi
        have es : (srt env o)[k]? = some env[i] := by rw [srt_get hrg, ek, e1]; exact ei
        have el : l = row env env[i] := by
          unfold graphL at e2
          rw [List.getElem?_map, ei] at e2
          exact (Option.some.inj e2).symm
        have hd2 : ∀ s ∈ uses env[i], s ∈ allNames env := h2 _ (List.getElem_mem hi)
        have eg : (graphL (srt env o))[k]? = some (row (srt env o) env[i]) := by
          unfold graphL
          rw [List.getElem?_map, es]; rfl
        have hpick : pickF (idxL k) 0 (graphL (srt env o)) = some k := by
          have := pick_at (out := idxL k) (graphL (srt env o)) 0 k _ eg ?_ fun p hp => idxL_mem.2 ⟨p, hp, by simp⟩
          · rwa [Nat.zero_add] at this
          · unfold readyL
            rw [Bool.and_eq_true, decide_eq_true_eq, List.all_eq_true, Nat.zero_add]
            refine ⟨fun h => ?_, fun j hj => ?_⟩
            · obtain ⟨p, hp, e⟩ := idxL_mem.1 h
              omega
            · rw [decide_eq_true_eq]
              unfold row at hj
              have hj2 := (List.mem_filter.1 hj).2
              rw [decide_eq_true_eq] at hj2
              obtain ⟨s, hs, rfl⟩ := List.mem_map.1 hj2
              obtain ⟨q, hq, eq⟩ := ownV_range (hd2 s hs)
              have hjl : (q : Int) ∈ l := by
                rw [el, row_mem hd2]
                exact List.mem_map.2 ⟨s, hs, by unfold ownV; rw [eq]; rfl⟩
              obtain ⟨p, hp, ep⟩ := List.mem_take_iff_getElem.1 (e4 _ hjl)
              obtain ⟨q', d', f1, f2, f3⟩ := ownO_some s env 0 _ eq
              have f4 : q' = q := by omega
              subst f4
              have fs : (srt env o)[p]? = some d' := by
                rw [srt_get hrg, List.getElem?_eq_getElem (by omega), ep]; exact f2
              obtain ⟨t, t1, t2⟩ := ownO_le s (srt env o) 0 p d' fs f3
              unfold ownV
              rw [t2]
              exact idxL_mem.2 ⟨t, by omega, by simp⟩
        simp only [orderG]
        rw [hpick]
        dsimp only
        rw [← idxL_succ]
        exact ih (k + 1) (by omega)
    have := key env.length 0 (by omega)
    rw [← hsl] at this
    have hh := OSays.ok hn hc _ this
    rw [hsl] at hh
    exact hh
theorem m24_eq (l : List Int) (s : Int) (h : l.length ≤ 900000000) : m24f17 l s = some (decide (s ∈ l)) := by
  unfold m24f17 m45f18
  obtain ⟨r, e, hr⟩ := loop_all (step := m45f18_l0 l s) l (fun k (_ : Unit) => k) (fun a _ => s ∉ a) (fun r => (s ∈ l ∧ ∃ k : Nat, r = .inr (k : Int)) ∨ (s ∉ l ∧ r = .inl ())) h
    (fun a x b _ e hI => by
      by_cases hx : s = x
      · refine .inl ⟨.inr (a.length : Int), ?_, .inl ⟨by rw [e, hx]; simp, _, rfl⟩⟩
        unfold m45f18_l0
        rw [e, lt_mid, idx_mid]
        simp [beqI, hx]
      · refine .inr ⟨(), ?_, ?_⟩
        · unfold m45f18_l0
          rw [e, lt_mid, idx_mid]
          simp [beqI, hx]
        · rw [List.mem_append, List.mem_singleton]
          exact fun h => h.elim hI hx)
    (fun _ hI => ⟨.inl (), by unfold m45f18_l0; rw [lt_end]; rfl, .inr ⟨hI, rfl⟩⟩) () (by simp)
  rw [e]
  rcases hr with ⟨h1, k, rfl⟩ | ⟨h1, rfl⟩
  · simp only [Option.bind_some, Sum.elim_inr, h1]
    rw [show decide (0 ≤ (k : Int)) = true from by rw [decide_eq_true_eq]; omega]; simp
  · simp [h1]
theorem m7_true (env : List Dcl) (h : envSz env ≤ 100000000) : m7 env = some true := by
  have hel := env_len env
  unfold m7
  obtain ⟨b, hb, -⟩ := m9_some env (by omega)
  rw [hb, m11_true]
  cases b with
  | false => rfl
  | true =>
    obtain ⟨r1, e1, h1⟩ := m22_eq env h
    obtain ⟨r2, e2, h2⟩ := m23_eq env h
    rw [e1, e2]
    cases h1 with
    | twice g1 => cases h2 <;> first | rfl | contradiction
    | none g1 g2 => cases h2 <;> first | rfl | contradiction
    | loop g1 g2 g3 => cases h2 <;> first | rfl | contradiction
    | ok g1 g2 o g3 =>
      cases h2 with
      | twice k1 => contradiction
      | none k1 k2 => contradiction
      | ok k1 k2 =>
        obtain ⟨s1, s2, s3, s4⟩ := sorted_order g1 g2 g3
        have hgl : (graphL env).length = env.length := by unfold graphL; simp
        have hgr := graph_gr g2
        have hloop : loopN (m7_l1 (o, 0) env (graphL env, 0)) FUEL ([], [], 0) = some (.inl (srt env o)) := by
          obtain ⟨r, e, rfl⟩ := loop_all (step := m7_l1 (o, 0) env (graphL env, 0)) o (fun i (s : List Int × List Dcl) => (s.1, s.2, i)) (fun a s => s = (a, srt env a)) (fun r => r = .inl (srt env o)) (by omega)
            (fun a x c s e hs => by
              subst hs
              have hal := mid_lt e
              have ex : o[a.length]? = some x := by rw [e]; simp
              have et : o.take a.length = a := by rw [e]; simp
              obtain ⟨i, l, f1, f2, f3, f4⟩ := s1 _ _ ex
              rw [et] at f3 f4
              have hi : i < env.length := by rw [← hgl]; exact (List.getElem?_eq_some_iff.1 f2).1
              have ei : env[i]? = some env[i] := List.getElem?_eq_getElem hi
              have hll := (hgr.2 l (List.mem_of_getElem? f2)).1
              have hin : loopN (m7_l0 l (a, srt env a, (a.length : Int))) FUEL 0 = some (.inl ()) := by
                obtain ⟨r, e, rfl⟩ := loop_all (step := m7_l0 l (a, srt env a, (a.length : Int))) l (fun i (s : Unit) => i) (fun _ _ => True) (fun r => r = .inl ()) (by omega)
                  (fun p y q s e _ => .inr ⟨(), by
                    have hy : y ∈ a := f4 y (by rw [e]; simp)
                    unfold m7_l0
                    rw [e, lt_mid, idx_mid]
                    simp only [cond_true, Option.bind_some]
                    rw [m24_eq a y (by omega)]
                    simp [hy], trivial⟩) (fun s _ => ⟨_, by unfold m7_l0; rw [lt_end]; rfl, rfl⟩) () trivial
                exact e
              have hsl : (srt env a).length ≤ a.length := List.length_filterMap_le _ _
              refine .inr ⟨(a ++ [x], srt env a ++ [env[i]]), ?_, ?_⟩
              · unfold m7_l1
                dsimp only
                rw [show decide ((a.length : Int) < (o.length : Int)) = true from by rw [decide_eq_true_eq]; omega, idx_at ex]
                simp only [cond_true, Option.bind_some]
                rw [m24_eq a x (by omega)]
                rw [show decide (x < 0) = false from by rw [decide_eq_false_iff_not]; omega, show decide ((env.length : Int) ≤ x) = false from by rw [decide_eq_false_iff_not]; omega, decide_eq_false f3]
                simp only [cond_false, Option.bind_some]
                rw [f1, idx_at f2]
                simp only [Option.bind_some]
                rw [hin]
                simp only [Option.bind_some, Sum.elim_inl]
                rw [guard_le (by simp; omega), idx_at ei]
                simp only [Option.bind_some]
                rw [guard_le (by simp; omega)]
              · unfold srt
                rw [List.filterMap_append, f1]
                simp [ei])
            (fun s hs => ⟨_, by unfold m7_l1; dsimp only; rw [lt_end, hs]; rfl, rfl⟩) ([], []) rfl
          exact e
        obtain ⟨r3, e3, h3⟩ := m22_eq (srt env o) (by omega)
        obtain rfl := h3.uniq s4
        have hfin : loopN (m7_l2 (idxL env.length, 0)) FUEL 0 = some (.inl ()) := by
          obtain ⟨r, e, rfl⟩ := loop_all (step := m7_l2 (idxL env.length, 0)) (idxL env.length) (fun i (s : Unit) => i) (fun _ _ => True) (fun r => r = .inl ()) (by rw [idxL_len]; omega)
            (fun p y q s e _ => .inr ⟨(), by
              have hy : y = (p.length : Int) := by
                have h1 : (idxL env.length)[p.length]? = some y := by rw [e]; simp
                unfold idxL at h1
                rw [List.getElem?_map] at h1
                have h2 : p.length < env.length := by
                  have := mid_lt e
                  rwa [idxL_len] at this
                rw [List.getElem?_range h2] at h1
                exact (Option.some.inj h1).symm
              unfold m7_l2
              dsimp only
              rw [e, lt_mid, idx_mid]
              simp [hy], trivial⟩) (fun s _ => ⟨_, by unfold m7_l2; dsimp only; rw [lt_end]; rfl, rfl⟩) () trivial
          exact e
        simp only [Option.bind_some, Bool.not_true, cond_false]
        rw [show ((0 : Int) != 0) = false from rfl]
        simp only [cond_false, Option.bind_some]
        rw [show ((o.length : Int) != (env.length : Int)) = false from by rw [s2]; simp, hgl, show ((env.length : Int) != (env.length : Int)) = false from by simp]
        simp only [cond_false, Option.bind_some]
        rw [hloop]
        simp only [Option.bind_some, Sum.elim_inl]
        rw [e3]
        simp only [Option.bind_some]
        rw [hfin]
        simp only [Option.bind_some, Sum.elim_inl, idxL_len]
        simp [beqI]
end Go.Proofs.Ytijcchddnnnmdaa
namespace Go.Proofs.Ytijcchddnnnmdaa
open Go.RowKit Go.ChangeShapes Go.WideShapes
set_option linter.unusedSimpArgs false
set_option linter.unusedVariables false
set_option linter.unusedSectionVars false
def allS (w : World) : Nat → Nat → Prop := fun b _ => b < w.heap.size
def RC (w : World) (e : List C) (cs : List Value) : Prop := cs.length = e.length ∧ ∀ (j : Nat) (c : C), e[j]? = some c → ∃ u, cs[j]? = some u ∧ Reads (allS w) w c u
theorem RC.app {w : World} {e0 e1 : List C} {cs : List Value} (h0 : RC w e0 (cs.take e0.length)) (h1 : RC w e1 (cs.drop e0.length)) (hl : cs.length = e0.length + e1.length) : RC w (e0 ++ e1) cs := by
  refine ⟨by rw [hl, List.length_append], fun j c hj => ?_⟩
  rcases Nat.lt_or_ge j e0.length with h | h
  · rw [List.getElem?_append_left h] at hj
    obtain ⟨u, h2, h3⟩ := h0.2 j c hj
    rw [List.getElem?_take, if_pos h] at h2
    exact ⟨u, h2, h3⟩
  · rw [List.getElem?_append_right h] at hj
    obtain ⟨u, h2, h3⟩ := h1.2 _ c hj
    rw [List.getElem?_drop, show e0.length + (j - e0.length) = j by omega] at h2
    exact ⟨u, h2, h3⟩
section
variable {H : Type} (enc : TypeId × Value → H) (P : Program) (w : World)
end
section
variable {H : Type} {enc : TypeId × Value → H} {P : Program} {w : World}
end
end Go.Proofs.Ytijcchddnnnmdaa
