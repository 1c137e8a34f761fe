/- Part 5 of the proof: rules, mirrors and plain laws. The statement DependRepeatsUpto is proved here: for every list of declarations and every list of names the law returns true, and the arguments read behind the call as they did before; condition: the arguments are of bulk at most 1048576 (the second form). -/
import Derived.Test.YtijcchddnnnmdaaK54
namespace Go.Proofs.Ytijcchddnnnmdaa
open Go.RowKit Go.Shelf
set_option linter.unusedSimpArgs false
set_option linter.unusedVariables false
def m12o_l0 (x10 : (List U3)) (s2 : Int × (Qh U3 Int)) (s3 : Int × (Qh U3 Int)) : Option (LO (Int × (Qh U3 Int)) (((Qh U3 Int)) ⊕ (((List (List Int)) × (Qh U3 Int)) ⊕ Unit ⊕ Unit))) :=
 cond (decide (s3.1 < (x10.length : Int)))
   (Option.bind (Ja x10 s3.1) fun (x13 : U3) =>
 cond (Jt s3.2 x13)
   (some (.done (.inr (.inr (.inl ())))))
   (some (.next ((QZ (s3.1 + 1)), (JY s3.2 x13 s2.1)))))
   (some (.done (.inl s3.2)))
def m12o_l1 (nn : Nat) (a0 : List Dcl) (s2 : Int × (Qh U3 Int)) : Option (LO (Int × (Qh U3 Int)) (((Qh U3 Int)) ⊕ (((List (List Int)) × (Qh U3 Int)) ⊕ Unit ⊕ Unit))) :=
 cond (decide (s2.1 < ((nn : Nat) : Int)))
   (Option.bind (Ja a0 s2.1) fun (x8 : Dcl) =>
 Qy (Nat.beq a0.length nn)
 (Option.bind (Xt x8) fun (x10 : (List U3)) =>
 Option.bind (Qw (m12o_l0 x10 s2) QF (0, s2.2)) (Sum.elim (fun (o11 : (Qh U3 Int)) => some (.next ((QZ (s2.1 + 1)), o11))) (fun o => some (.done (.inr o))))))
   (some (.done (.inl s2.2)))
def m12o_l2 (x11 : (List U3)) (o6 : (Qh U3 Int)) (s3 : (List Int) × Int) : Option (LO ((List Int) × Int) (((List Int)) ⊕ (((List (List Int)) × (Qh U3 Int)) ⊕ Unit ⊕ Unit))) :=
 cond (decide (s3.2 < (x11.length : Int)))
   (Option.bind (Ja x11 s3.2) fun (x14 : U3) =>
 cond (!(Jt o6 x14))
   (some (.done (.inr (.inr (.inr ())))))
   (Qy (Nat.ble (s3.1.length + ([(Je o6 x14)]).length) 1000000000)
 (some (.next ((s3.1 ++ ([(Je o6 x14)])), (QZ (s3.2 + 1)))))))
   (some (.done (.inl s3.1)))
def m12o_l3 (nn : Nat) (a0 : List Dcl) (o6 : (Qh U3 Int)) (s2 : Int × (List (List Int))) : Option (LO (Int × (List (List Int))) (((List (List Int))) ⊕ (((List (List Int)) × (Qh U3 Int)) ⊕ Unit ⊕ Unit))) :=
 cond (decide (s2.1 < ((nn : Nat) : Int)))
   (Option.bind (Ja a0 s2.1) fun (x9 : Dcl) =>
 Qy (Nat.beq a0.length nn)
 (Option.bind (XA x9) fun (x11 : (List U3)) =>
 Option.bind (Qw (m12o_l2 x11 o6) QF (([] : List Int), 0)) (Sum.elim (fun (o12 : (List Int)) => Option.bind (Zf o12) fun (x13 : List Int) =>
 Option.bind (JS x13 ((Enc.encL o12).length)) fun (x14 : List Int) =>
 Qy (Nat.ble (s2.2.length + ([x14]).length) 1000000000)
 (some (.next ((QZ (s2.1 + 1)), (s2.2 ++ ([x14])))))) (fun o => some (.done (.inr o))))))
   (some (.done (.inl s2.2)))
def m12o_l4 (a1 : List U3) (y1 : (List (List Int)) × (Qh U3 Int)) (x32 : (List (List Int))) (s2 : Int × (List Bool)) : Option (LO (Int × (List Bool)) (((List Bool)) ⊕ (Unit ⊕ ((List Bool))))) :=
 cond (decide (s2.1 < (a1.length : Int)))
   (Option.bind (Ja a1 s2.1) fun (x40 : U3) =>
 cond (!(Jt y1.2 x40))
   (some (.done (.inr (.inl ()))))
   (Option.bind (m56f12 (Je y1.2 x40) ((x32.length : Int).toNat) s2.2 x32) fun (x42 : (List Bool)) =>
 some (.next ((QZ (s2.1 + 1)), x42))))
   (some (.done (.inl s2.2)))
def m12o_l5 (nn : Nat) (a0 : List Dcl) (y34 : (List Bool)) (x32 : (List (List Int))) (s1 : (List U3) × Int) : Option (LO ((List U3) × Int) (((List U3)))) :=
 cond (decide (s1.2 < ((nn : Nat) : Int)))
   (Option.bind (Ja a0 s1.2) fun (x46 : Dcl) =>
 Qy (Nat.beq a0.length nn)
 (Option.bind (Ja y34 s1.2) fun (x48 : Bool) =>
 Qy (Nat.beq y34.length ((x32.length : Int).toNat))
 (cond x48
   (Option.bind (Xt x46) fun (x51 : (List U3)) =>
 Qy (Nat.ble (s1.1.length + x51.length) 1000000000)
 (some (.next ((s1.1 ++ x51), (QZ (s1.2 + 1))))))
   (some (.next (s1.1, (QZ (s1.2 + 1))))))))
   (some (.done s1.1))
def m12o (a0 : List Dcl) (a1 : List U3) (nn : Nat) : Option ((List U3) × Int) :=
 Option.bind (Option.bind (Qw (m12o_l1 nn a0) QF (0, gmNil)) (Sum.elim (fun (o6 : (Qh U3 Int)) => Option.bind (Qw (m12o_l3 nn a0 o6) QF (0, ([] : List (List Int)))) (Sum.elim (fun (o7 : (List (List Int))) => some (.inl (o7, o6))) (fun o => some o))) (fun o => some o))) (Sum.elim (fun (y1 : (List (List Int)) × (Qh U3 Int)) => Option.bind (W7 y1.1) fun (x32 : (List (List Int))) =>
 Option.bind (Qy (cond (decide (0 ≤ (x32.length : Int))) (Nat.ble (1 * (x32.length : Int).toNat) 281474976710656) false)
 (Option.bind (Qw (m12o_l4 a1 y1 x32) QF (0, (List.replicate (x32.length : Int).toNat false))) (Sum.elim (fun (o38 : (List Bool)) => some (.inr o38)) (fun o => some o)))) (Sum.elim (fun (y33 : Unit) => some (([] : List U3), 9)) (fun (y34 : (List Bool)) => Option.bind (Qw (m12o_l5 nn a0 y34 x32) QF (([] : List U3), 0)) (fun (o44 : (List U3)) => some (o44, 0))))) (Sum.elim (fun (y2 : Unit) => some (([] : List U3), 8)) (fun (y3 : Unit) => some (([] : List U3), 9))))
set_option maxRecDepth 100000 in
set_option maxHeartbeats 2000000 in
theorem m12o_ok (a0 : List Dcl) (a1 : List U3) (nn : Nat) (r : (List U3) × Int) (h0 : m12o a0 a1 nn = some r) : CallM Try.prog 12 [.one (.osl 0 0 nn nn), .one (WJ a1)] ⟨[(0, .cells 48 (Q9 a0))], [], 1⟩ (QA [.one (WJ r.1), .one (WL r.2)]) ⟨[(0, .cells 48 (Q9 a0))], [], 6⟩ := by
 unfold m12o at h0
 refine QR ⟨[(4, .v (.one (WJ r.1))), (5, .v (.one (WL r.2)))], [(0, .cells 48 (Q9 a0))], [], 6, 49, []⟩ rfl rfl en_12 (Wx rfl) rfl (Qo rfl (Qo rfl .nil)) (fun w0 M V0 Q hv0 hQ0 => ?_)
 simp only [Jb]
 refine Q2 <| Q0 <| Wo rfl rfl rfl <| Wo rfl rfl rfl <| Q3 <| Q1 <| Q2 <| Q0 <| Wn rfl rfl rfl ?_
 refine Qb h0 (fun y5 h1 h0 => ?_)
 have hc4 : CallM Try.prog 34 [.one (.osl 0 0 nn nn)] ⟨[(0, .cells 48 (Q9 a0))], [], 1⟩ (QA (((Sum.elim (fun (y1 : (List (List Int)) × (Qh U3 Int)) => ([.agg [WN 4 y1.1, .mp 2], .one (WL 0)] : List AV)) (Sum.elim (fun (y2 : Unit) => ([.agg [WK, .d (.v (.map none))], .one (WL 8)] : List AV)) (fun (y3 : Unit) => ([.agg [WK, .d (.v (.map none))], .one (WL 9)] : List AV))))) y5)) ⟨(((Sum.elim (fun (y1 : (List (List Int)) × (Qh U3 Int)) => (⟨[(2, .v (.one (.ptr 1 0))), (3, .v (.one (WL 0)))], [(0, .cells 48 (Q9 a0)), (1, .cells 72 [WN 4 y1.1, .mp 2]), (2, .mp (QL y1.2.1) y1.2.2)], [(4, some ⟨54, 1, (Enc.encL y1.1).length, []⟩)], 5, 88, []⟩ : St)) (Sum.elim (fun (y2 : Unit) => (⟨[(2, .v (.one (.ptr 1 0))), (3, .v (.one (WL 8)))], [(0, .cells 48 (Q9 a0)), (1, .cells 72 [WK, .d (.v (.map none))])], [], 5, 88, []⟩ : St)) (fun (y3 : Unit) => (⟨[(2, .v (.one (.ptr 1 0))), (3, .v (.one (WL 9)))], [(0, .cells 48 (Q9 a0)), (1, .cells 72 [WK, .d (.v (.map none))])], [], 7, 88, []⟩ : St))))) y5).hp, (((Sum.elim (fun (y1 : (List (List Int)) × (Qh U3 Int)) => (⟨[(2, .v (.one (.ptr 1 0))), (3, .v (.one (WL 0)))], [(0, .cells 48 (Q9 a0)), (1, .cells 72 [WN 4 y1.1, .mp 2]), (2, .mp (QL y1.2.1) y1.2.2)], [(4, some ⟨54, 1, (Enc.encL y1.1).length, []⟩)], 5, 88, []⟩ : St)) (Sum.elim (fun (y2 : Unit) => (⟨[(2, .v (.one (.ptr 1 0))), (3, .v (.one (WL 8)))], [(0, .cells 48 (Q9 a0)), (1, .cells 72 [WK, .d (.v (.map none))])], [], 5, 88, []⟩ : St)) (fun (y3 : Unit) => (⟨[(2, .v (.one (.ptr 1 0))), (3, .v (.one (WL 9)))], [(0, .cells 48 (Q9 a0)), (1, .cells 72 [WK, .d (.v (.map none))])], [], 7, 88, []⟩ : St))))) y5).tk, (((Sum.elim (fun (y1 : (List (List Int)) × (Qh U3 Int)) => (⟨[(2, .v (.one (.ptr 1 0))), (3, .v (.one (WL 0)))], [(0, .cells 48 (Q9 a0)), (1, .cells 72 [WN 4 y1.1, .mp 2]), (2, .mp (QL y1.2.1) y1.2.2)], [(4, some ⟨54, 1, (Enc.encL y1.1).length, []⟩)], 5, 88, []⟩ : St)) (Sum.elim (fun (y2 : Unit) => (⟨[(2, .v (.one (.ptr 1 0))), (3, .v (.one (WL 8)))], [(0, .cells 48 (Q9 a0)), (1, .cells 72 [WK, .d (.v (.map none))])], [], 5, 88, []⟩ : St)) (fun (y3 : Unit) => (⟨[(2, .v (.one (.ptr 1 0))), (3, .v (.one (WL 9)))], [(0, .cells 48 (Q9 a0)), (1, .cells 72 [WK, .d (.v (.map none))])], [], 7, 88, []⟩ : St))))) y5).nx⟩ := by
  refine JE y5 ((Sum.elim (fun (y1 : (List (List Int)) × (Qh U3 Int)) => (⟨[(2, .v (.one (.ptr 1 0))), (3, .v (.one (WL 0)))], [(0, .cells 48 (Q9 a0)), (1, .cells 72 [WN 4 y1.1, .mp 2]), (2, .mp (QL y1.2.1) y1.2.2)], [(4, some ⟨54, 1, (Enc.encL y1.1).length, []⟩)], 5, 88, []⟩ : St)) (Sum.elim (fun (y2 : Unit) => (⟨[(2, .v (.one (.ptr 1 0))), (3, .v (.one (WL 8)))], [(0, .cells 48 (Q9 a0)), (1, .cells 72 [WK, .d (.v (.map none))])], [], 5, 88, []⟩ : St)) (fun (y3 : Unit) => (⟨[(2, .v (.one (.ptr 1 0))), (3, .v (.one (WL 9)))], [(0, .cells 48 (Q9 a0)), (1, .cells 72 [WK, .d (.v (.map none))])], [], 7, 88, []⟩ : St))))) ((Sum.elim (fun (y1 : (List (List Int)) × (Qh U3 Int)) => ([.agg [WN 4 y1.1, .mp 2], .one (WL 0)] : List AV)) (Sum.elim (fun (y2 : Unit) => ([.agg [WK, .d (.v (.map none))], .one (WL 8)] : List AV)) (fun (y3 : Unit) => ([.agg [WK, .d (.v (.map none))], .one (WL 9)] : List AV))))) rfl rfl Xf (Wx rfl) (fun z_ => by cases z_ with
    | inl _ => rfl
    | inr z_ => exact (by cases z_ <;> rfl)) (fun z_ => by cases z_ with
    | inl _ => exact (Y0 J8 rfl rfl rfl rfl (Qo rfl .nil))
    | inr z_ => exact (by cases z_ with
    | inl _ => exact (Y0 J8 rfl rfl rfl rfl (Qo rfl .nil))
    | inr _ => exact (Y0 J8 rfl rfl rfl rfl (Qo rfl .nil)))) (fun w0 M V0 Q hv1 hQ1 => ?_)
  simp only [Jb]
  refine Q2 <| Q0 <| Qa rfl rfl (Wx rfl) (Qp YT rfl) <| Wo rfl rfl rfl <| Q3 <| Q1 <| Q2 <| Q0 <| Qa rfl rfl (Wx rfl) (Y2 U3 Int) <| Wm rfl rfl rfl (Zc Z5 rfl rfl rfl) <| Qa rfl rfl (Wx rfl) (Qp YT rfl) <| QJ rfl rfl (Ql J8 rfl rfl rfl rfl (Wx rfl) rfl) <| Q3 <| Q1 ?_
  refine Q2 <| Q2 <| Q0 <| Wn rfl rfl rfl <| Wm rfl rfl rfl (Ya Jo rfl) <| Wn rfl rfl rfl <| Q3 <| Q1 <| Qc ?_
  refine QI 0 (fun (o6 : (Qh U3 Int)) => ⟨[(0, .v (.one (.osl 0 0 nn nn))), (2, .v (.one (.ptr 1 0))), (4, .v (.one (.ptr 3 0)))], [(0, .cells 48 (Q9 a0)), (1, .cells 72 [WK, .d (.v (.map none))]), (2, .mp (QL o6.1) o6.2), (3, .cells 72 [WK, .mp 2])], [], 4, 88, []⟩) (fun (o6 : (Qh U3 Int)) => (Option.bind (Qw (m12o_l3 nn a0 o6) QF (0, ([] : List (List Int)))) (Sum.elim (fun (o7 : (List (List Int))) => some (.inl (o7, o6))) (fun o => some o))) = some y5) ?_ ?_
  refine Qb h1 (fun o7 hl2 h1 => ?_)
  refine QH (m12o_l1 nn a0) (fun s2 => ⟨[(0, .v (.one (.osl 0 0 nn nn))), (2, .v (.one (.ptr 1 0))), (4, .v (.one (.ptr 3 0))), (20, .v (.one (.osl 0 0 nn nn))), (21, .v (.one (WL ((nn : Nat) : Int)))), (22, .v (.one (WL s2.1)))], [(0, .cells 48 (Q9 a0)), (1, .cells 72 [WK, .d (.v (.map none))]), (2, .mp (QL s2.2.1) s2.2.2), (3, .cells 72 [WK, .mp 2])], [], 4, 88, []⟩) (0, gmNil) o7 (Qf (Wi rfl (Wi rfl (Wi rfl (Wi rfl (Wi rfl (Wi rfl Wh)))))) (WD rfl (WD rfl (WD rfl (WD rfl WC)))) Wy rfl (Nat.le_trans hv1 (Wx rfl)) rfl rfl rfl (WT rfl (WU rfl rfl (WS rfl (WU rfl rfl WR)))) rfl rfl) hl2 (fun s2 n2 oo2 h2 ho2 => ?_)
  unfold m12o_l1 at h2
  refine Q2 <| Q0 <| Wm rfl rfl rfl (Q8 rfl rfl rfl) <| Q3 <| Q1 <| Q2 ?_
  refine Qe (b := (decide (s2.1 < ((nn : Nat) : Int)))) rfl (fun c8 => ?_) (fun c8 => ?_)
  replace h2 := Qq c8 h2
  refine Qi <| Q1 <| Q2 <| Qc <| Q2 <| Q0 <| Wn rfl rfl rfl ?_
  refine Qb h2 (fun x9 hx9 h2 => ?_)
  refine QS h2 (fun g10 h2 => ?_)
  refine Wm rfl rfl rfl (Jp (α := Dcl) Jo rfl rfl hx9 g10) <| Wm rfl rfl rfl (Yu (α := Dcl) (ys := [WL x9.kind, Z4 x9.name, WL x9.params, WL x9.ty.kind, WL x9.ty.index, Z4 x9.ty.name, WJ x9.ty.levels, WJ x9.ty.kids, WL x9.value.kind, WL x9.value.index, Z4 x9.value.name, WJ x9.value.levels, WJ x9.value.kids, WL x9.fixed, WJ x9.ctors, WL x9.rcr.params, WL x9.rcr.ty.kind, WL x9.rcr.ty.index, Z4 x9.rcr.ty.name, WJ x9.rcr.ty.levels, WJ x9.rcr.ty.kids, WJ x9.rcr.rules, WJ x9.funs]) Jg rfl rfl hx9 rfl) <| Qa rfl rfl (Wx rfl) (Qp ZU rfl) <| Wo rfl rfl rfl <| QJ rfl rfl (J6 (x9 : Dcl) Jg rfl rfl rfl rfl rfl) <| Q3 <| Q1 <| Q2 <| Q0 <| Wm rfl rfl rfl (JA (x9 : Dcl) Jg rfl rfl) ?_
  refine Qb h2 (fun x11 hx11 h2 => ?_)
  refine Qa rfl rfl (Wx rfl) (Qn (Ki x9 x11 hx11) rfl (.cons (.agg (.cons (.d _) (.cons (.d _) (.cons (.d _) (.cons (.d _) (.cons (.d _) (.cons (.d _) (.cons (.d _) (.cons (.d _) (.cons (.d _) (.cons (.d _) (.cons (.d _) (.cons (.d _) (.cons (.d _) (.cons (.d _) (.cons (.d _) (.cons (.d _) (.cons (.d _) (.cons (.d _) (.cons (.d _) (.cons (.d _) (.cons (.d _) (.cons (.d _) (.cons (.d _) .nil)))))))))))))))))))))))) .nil)) <| Wm rfl rfl rfl (QC (α := U3) J1 rfl (.d _)) <| Wn rfl rfl rfl <| Q3 <| Q1 <| Qc ?_
  refine QI 2 (fun (o12 : (Qh U3 Int)) => ⟨[(0, .v (.one (.osl 0 0 nn nn))), (2, .v (.one (.ptr 1 0))), (4, .v (.one (.ptr 3 0))), (20, .v (.one (.osl 0 0 nn nn))), (21, .v (.one (WL ((nn : Nat) : Int)))), (22, .v (.one (WL s2.1)))], [(0, .cells 48 (Q9 a0)), (1, .cells 72 [WK, .d (.v (.map none))]), (2, .mp (QL o12.1) o12.2), (3, .cells 72 [WK, .mp 2]), (4, .cells 48 (WO x9))], [], 5, 88, []⟩) (fun (o12 : (Qh U3 Int)) => (some (.next ((QZ (s2.1 + 1)), o12))) = some oo2) ?_ ?_
  refine Qb h2 (fun o13 hl3 h2 => ?_)
  refine QH (m12o_l0 x11 s2) (fun s3 => ⟨[(0, .v (.one (.osl 0 0 nn nn))), (2, .v (.one (.ptr 1 0))), (4, .v (.one (.ptr 3 0))), (5, .v (.one (WL s2.1))), (20, .v (.one (.osl 0 0 nn nn))), (21, .v (.one (WL ((nn : Nat) : Int)))), (22, .v (.one (WL s2.1))), (28, .v (.one (WJ x11))), (29, .v (.one (WL (x11.length : Int)))), (30, .v (.one (WL s3.1)))], [(0, .cells 48 (Q9 a0)), (1, .cells 72 [WK, .d (.v (.map none))]), (2, .mp (QL s3.2.1) s3.2.2), (3, .cells 72 [WK, .mp 2]), (4, .cells 48 (WO x9))], [], 5, 88, []⟩) (0, s2.2) o13 (Qf (Wi rfl (Wi rfl (Wi rfl (Wi rfl (Wi rfl (Wi rfl (Wi rfl (Wi rfl (Wi rfl (Wi rfl Wh)))))))))) (WD rfl (WD rfl (WD rfl (WD rfl (WD rfl WC))))) Wy rfl (Nat.le_trans hv1 (Wx rfl)) rfl rfl rfl (WT rfl (WU rfl rfl (WS rfl (WU rfl rfl (WU rfl rfl WR))))) rfl rfl) hl3 (fun s3 n3 oo3 h3 ho3 => ?_)
  unfold m12o_l0 at h3
  refine Q2 <| Q0 <| Wm rfl rfl rfl (Q8 rfl rfl rfl) <| Q3 <| Q1 <| Q2 ?_
  refine Qe (b := (decide (s3.1 < (x11.length : Int)))) rfl (fun c14 => ?_) (fun c14 => ?_)
  replace h3 := Qq c14 h3
  refine Qi <| Q1 <| Q2 <| Qc <| Q2 <| Q0 ?_
  refine Qb h3 (fun x15 hx15 h3 => ?_)
  refine Wm rfl rfl rfl (Qm (α := U3) J1 rfl (.d _) rfl hx15) <| Wm rfl rfl rfl (QN JT rfl rfl) <| Wo rfl rfl rfl <| Q3 <| Q1 <| Q2 <| Q2 <| Q0 <| Wm rfl rfl rfl (Q6 JM rfl) <| Wm rfl rfl rfl (Q7 YD rfl rfl rfl) <| Wn rfl rfl rfl <| Wm rfl rfl rfl (Js (M := s3.2) (k := x15) YC Yg rfl rfl rfl) <| Wn rfl rfl rfl <| Wm rfl rfl rfl (Qg rfl rfl) ?_
  refine Wm rfl rfl rfl (Qg rfl rfl) <| Wo rfl rfl rfl <| Wo rfl rfl rfl <| Q3 <| Q1 <| Q2 <| Q0 <| Wn rfl rfl rfl <| Q3 <| Q1 ?_
  refine Qe (b := (Jt s3.2 x15)) rfl (fun c16 => ?_) (fun c16 => ?_)
  replace h3 := Qq c16 h3
  refine Q2 <| Q0 <| Wm rfl rfl rfl (Y5 Z5 rfl ) <| QJ rfl rfl (Ql J8 rfl rfl rfl rfl (Wx rfl) rfl) <| Wo rfl rfl rfl <| Q3 <| Q1 <| Qz ?_
  have e := Wk h3; subst e
  have e_ : _ = _ := ho3
  subst e_
  try dsimp only [Sum.elim_inl, Sum.elim_inr] at h2
  have e := Wk h2; subst e
  have e_ : _ = _ := ho2
  subst e_
  try dsimp only [Sum.elim_inl, Sum.elim_inr] at h1
  have e := Wk h1; subst e
  exact hQ1 _ _ _ (.inr rfl) rfl (show StLe _ _ ⟨[(2, .v (.one (.ptr 1 0))), (3, .v (.one (WL 8)))], [(0, .cells 48 (Q9 a0)), (1, .cells 72 [WK, .d (.v (.map none))])], [], 5, 88, []⟩ from (Qf (Wi rfl (Wi rfl Wh)) (WD rfl (WD rfl WC)) Wy rfl (Nat.le_trans hv1 (Wx rfl)) rfl rfl rfl (WT rfl (WU rfl rfl WR)) rfl rfl))
  replace h3 := Qr c16 h3
  refine Qi <| Q1 <| Q0 <| Wm rfl rfl rfl (Q6 JM rfl) <| Wm rfl rfl rfl (Q7 YD rfl rfl rfl) <| Wn rfl rfl rfl <| Wn rfl rfl rfl <| QJ rfl rfl (JL (M := s3.2) (k := x15) (v := s2.1) YC rfl rfl rfl rfl rfl) <| Q3 <| Qj <| Q1 <| Q0 <| Wm rfl rfl rfl (Q8 rfl rfl rfl) <| Wn rfl rfl rfl ?_
  refine Q3 ?_
  have e := Wk h3; subst e
  refine QD ((QZ (s3.1 + 1)), (JY s3.2 x15 s2.1)) (Qf (Wi rfl (Wi rfl (Wi rfl (Wi rfl (Wi rfl (Wi rfl (Wi rfl (Wi rfl (Wi rfl (Wi rfl Wh)))))))))) (WD rfl (WD rfl (WD rfl (WD rfl (WD rfl WC))))) Wy rfl (Nat.le_trans hv1 (Wx rfl)) rfl rfl rfl (WT rfl (WU rfl rfl (WS rfl (WU rfl rfl (WU rfl rfl WR))))) rfl rfl) ho3
  replace h3 := Qr c14 h3
  refine QM <| Qd <| Qd ?_
  have e := Wk h3; subst e
  have e_ : _ = _ := ho3
  subst e_
  exact QG s3.2 (Qf (Wi rfl (Wi rfl (Wi rfl (Wi rfl (Wi rfl (Wi rfl Wh)))))) (WD rfl (WD rfl (WD rfl (WD rfl (WD rfl WC))))) Wy rfl (Nat.le_trans hv1 (Wx rfl)) rfl rfl rfl (WT rfl (WU rfl rfl (WS rfl (WU rfl rfl (WU rfl rfl WR))))) rfl rfl) h2
  intro o12 h2
  refine QB <| Qj <| Q1 <| Q0 <| Wm rfl rfl rfl (Q8 rfl rfl rfl) <| Wn rfl rfl rfl <| Q3 ?_
  have e := Wk h2; subst e
  refine QD ((QZ (s2.1 + 1)), o12) (Qf (Wi rfl (Wi rfl (Wi rfl (Wi rfl (Wi rfl (Wi rfl Wh)))))) (WD rfl (WD rfl (WD rfl (WD rfl WC)))) Wy rfl (Nat.le_trans hv1 (Wx rfl)) rfl rfl rfl (WT rfl (WU rfl rfl (WS rfl (WU rfl rfl WR)))) rfl rfl) ho2
  replace h2 := Qr c8 h2
  refine QM <| Qd <| Qd ?_
  have e := Wk h2; subst e
  have e_ : _ = _ := ho2
  subst e_
  exact QG s2.2 (Qf (Wi rfl (Wi rfl (Wi rfl Wh))) (WD rfl (WD rfl (WD rfl (WD rfl WC)))) Wy rfl (Nat.le_trans hv1 (Wx rfl)) rfl rfl rfl (WT rfl (WU rfl rfl (WS rfl (WU rfl rfl WR)))) rfl rfl) h1
  intro o6 h1
  refine QB <| Q1 <| Q2 <| Q2 <| Q0 <| Wn rfl rfl rfl <| Wm rfl rfl rfl (Ya Jo rfl) <| Wn rfl rfl rfl <| Q3 <| Q1 <| Qc ?_
  refine QI 4 (fun (o17 : (List (List Int))) => ⟨[(2, .v (.one (.ptr 1 0))), (4, .v (.one (.ptr 3 0)))], [(0, .cells 48 (Q9 a0)), (1, .cells 72 [WK, .d (.v (.map none))]), (2, .mp (QL o6.1) o6.2), (3, .cells 72 [WN 4 o17, .mp 2])], [(4, some ⟨54, 1, (Enc.encL o17).length, []⟩)], 5, 88, []⟩) (fun (o17 : (List (List Int))) => (some (.inl (o17, o6))) = some y5) ?_ ?_
  refine YR (i := 3) (off := 0) 54 1 rfl rfl ?_
  refine Qb h1 (fun o18 hl2 h1 => ?_)
  refine QH (m12o_l3 nn a0 o6) (fun s2 => ⟨[(2, .v (.one (.ptr 1 0))), (4, .v (.one (.ptr 3 0))), (49, .v (.one (.osl 0 0 nn nn))), (50, .v (.one (WL ((nn : Nat) : Int)))), (51, .v (.one (WL s2.1)))], [(0, .cells 48 (Q9 a0)), (1, .cells 72 [WK, .d (.v (.map none))]), (2, .mp (QL o6.1) o6.2), (3, .cells 72 [WN 4 s2.2, .mp 2])], [(4, some ⟨54, 1, (Enc.encL s2.2).length, []⟩)], 5, 88, []⟩) (0, ([] : List (List Int))) o18 (Qf (Wi rfl (Wi rfl (Wi rfl (Wi rfl (Wi rfl Wh))))) (WD rfl (WD rfl (WD rfl (WD rfl WC)))) (Wz rfl Wy) rfl (Nat.le_trans hv1 (Wx rfl)) rfl rfl rfl (WT rfl (WU rfl rfl (WS rfl (WU rfl rfl WR)))) rfl rfl) hl2 (fun s2 n2 oo2 h2 ho2 => ?_)
  unfold m12o_l3 at h2
  refine Q2 <| Q0 <| Wm rfl rfl rfl (Q8 rfl rfl rfl) <| Q3 <| Q1 <| Q2 ?_
  refine Qe (b := (decide (s2.1 < ((nn : Nat) : Int)))) rfl (fun c19 => ?_) (fun c19 => ?_)
  replace h2 := Qq c19 h2
  refine Qi <| Q1 <| Q2 <| Qc <| Q2 <| Q0 ?_
  refine Qb h2 (fun x20 hx20 h2 => ?_)
  refine QS h2 (fun g21 h2 => ?_)
  refine Wm rfl rfl rfl (Jp (α := Dcl) Jo rfl rfl hx20 g21) <| Wm rfl rfl rfl (Yu (α := Dcl) (ys := [WL x20.kind, Z4 x20.name, WL x20.params, WL x20.ty.kind, WL x20.ty.index, Z4 x20.ty.name, WJ x20.ty.levels, WJ x20.ty.kids, WL x20.value.kind, WL x20.value.index, Z4 x20.value.name, WJ x20.value.levels, WJ x20.value.kids, WL x20.fixed, WJ x20.ctors, WL x20.rcr.params, WL x20.rcr.ty.kind, WL x20.rcr.ty.index, Z4 x20.rcr.ty.name, WJ x20.rcr.ty.levels, WJ x20.rcr.ty.kids, WJ x20.rcr.rules, WJ x20.funs]) Jg rfl rfl hx20 rfl) <| Qa rfl rfl (Wx rfl) (Qp ZU rfl) <| QJ rfl rfl (J6 (x20 : Dcl) Jg rfl rfl rfl rfl rfl) <| Q3 <| Q1 <| Q2 <| Q0 <| Wo rfl rfl rfl <| Q3 <| Q1 <| Q2 <| Q2 <| Q0 ?_
  refine Wm rfl rfl rfl (JA (x20 : Dcl) Jg rfl rfl) ?_
  refine Qb h2 (fun x22 hx22 h2 => ?_)
  refine Qa rfl rfl (Wx rfl) (Qn (GC x20 x22 hx22) rfl (.cons (.agg (.cons (.d _) (.cons (.d _) (.cons (.d _) (.cons (.d _) (.cons (.d _) (.cons (.d _) (.cons (.d _) (.cons (.d _) (.cons (.d _) (.cons (.d _) (.cons (.d _) (.cons (.d _) (.cons (.d _) (.cons (.d _) (.cons (.d _) (.cons (.d _) (.cons (.d _) (.cons (.d _) (.cons (.d _) (.cons (.d _) (.cons (.d _) (.cons (.d _) (.cons (.d _) .nil)))))))))))))))))))))))) .nil)) <| Wm rfl rfl rfl (QC (α := U3) J1 rfl (.d _)) <| Wn rfl rfl rfl <| Q3 <| Q1 <| Qc ?_
  refine QI 6 (fun (o23 : (List Int)) => ⟨[(2, .v (.one (.ptr 1 0))), (4, .v (.one (.ptr 3 0))), (13, .v (.one (.apv 6 1 ((Enc.encL o23).length) []))), (49, .v (.one (.osl 0 0 nn nn))), (50, .v (.one (WL ((nn : Nat) : Int)))), (51, .v (.one (WL s2.1)))], [(0, .cells 48 (Q9 a0)), (1, .cells 72 [WK, .d (.v (.map none))]), (2, .mp (QL o6.1) o6.2), (3, .cells 72 [WN 4 s2.2, .mp 2]), (5, .cells 48 (WO x20))], [(4, some ⟨54, 1, (Enc.encL s2.2).length, []⟩), (6, some ⟨3, 1, (Enc.encL o23).length, (Enc.encL o23).flatten⟩)], 7, 88, []⟩) (fun (o23 : (List Int)) => (Option.bind (Zf o23) fun (x24 : List Int) =>
    Option.bind (JS x24 ((Enc.encL o23).length)) fun (x25 : List Int) =>
    Qy (Nat.ble (s2.2.length + ([x25]).length) 1000000000)
    (some (.next ((QZ (s2.1 + 1)), (s2.2 ++ ([x25])))))) = some oo2) ?_ ?_
  refine JW (t := 13) 3 1 rfl <| Kd (α := Int) (t := 13) rfl rfl ?_
  refine Qb h2 (fun o24 hl3 h2 => ?_)
  refine QH (m12o_l2 x22 o6) (fun s3 => ⟨[(2, .v (.one (.ptr 1 0))), (4, .v (.one (.ptr 3 0))), (13, .v (.one (.apv 6 1 ((Enc.encL s3.1).length) []))), (49, .v (.one (.osl 0 0 nn nn))), (50, .v (.one (WL ((nn : Nat) : Int)))), (51, .v (.one (WL s2.1))), (56, .v (.one (WJ x22))), (57, .v (.one (WL (x22.length : Int)))), (58, .v (.one (WL s3.2)))], [(0, .cells 48 (Q9 a0)), (1, .cells 72 [WK, .d (.v (.map none))]), (2, .mp (QL o6.1) o6.2), (3, .cells 72 [WN 4 s2.2, .mp 2]), (5, .cells 48 (WO x20))], [(4, some ⟨54, 1, (Enc.encL s2.2).length, []⟩), (6, some ⟨3, 1, (Enc.encL s3.1).length, (Enc.encL s3.1).flatten⟩)], 7, 88, []⟩) (([] : List Int), 0) o24 (Qf (Wi rfl (Wi rfl (Wi rfl (Wi rfl (Wi rfl (Wi rfl (Wi rfl (Wi rfl (Wi rfl Wh))))))))) (WD rfl (WD rfl (WD rfl (WD rfl (WD rfl WC))))) (Wz rfl (Wz rfl Wy)) rfl (Nat.le_trans hv1 (Wx rfl)) rfl rfl rfl (WT rfl (WU rfl rfl (WS rfl (WU rfl rfl (WU rfl rfl WR))))) rfl rfl) hl3 (fun s3 n3 oo3 h3 ho3 => ?_)
  unfold m12o_l2 at h3
  refine Q2 <| Q0 <| Wm rfl rfl rfl (Q8 rfl rfl rfl) <| Q3 <| Q1 <| Q2 ?_
  refine Qe (b := (decide (s3.2 < (x22.length : Int)))) rfl (fun c25 => ?_) (fun c25 => ?_)
  replace h3 := Qq c25 h3
  refine Qi <| Q1 <| Q2 <| Qc <| Q2 <| Q0 ?_
  refine Qb h3 (fun x26 hx26 h3 => ?_)
  refine Wm rfl rfl rfl (Qm (α := U3) J1 rfl (.d _) rfl hx26) <| Wm rfl rfl rfl (QN JT rfl rfl) <| Wo rfl rfl rfl <| Q3 <| Q1 <| Q2 <| Q0 <| Wm rfl rfl rfl (Q6 JM rfl) <| Wm rfl rfl rfl (Q7 YD rfl rfl rfl) <| Wn rfl rfl rfl <| Wm rfl rfl rfl (Js (M := o6) (k := x26) YC Yg rfl rfl rfl) <| Wn rfl rfl rfl <| Wm rfl rfl rfl (Qg rfl rfl) <| Wm rfl rfl rfl (Qg rfl rfl) ?_
  refine Wo rfl rfl rfl <| Wo rfl rfl rfl <| Q3 <| Q1 <| Q2 <| Q2 <| Q0 <| Wn rfl rfl rfl <| Wm rfl rfl rfl (J9 rfl) <| Q3 <| Q1 ?_
  refine Qe (b := (!(Jt o6 x26))) rfl (fun c27 => ?_) (fun c27 => ?_)
  replace h3 := Qq c27 h3
  refine Q2 <| Q0 <| Wm rfl rfl rfl (Y5 Z5 rfl ) <| QJ rfl rfl (Ql J8 rfl rfl rfl rfl (Wx rfl) rfl) <| Wo rfl rfl rfl <| Q3 <| Q1 <| Qz ?_
  have e := Wk h3; subst e
  have e_ : _ = _ := ho3
  subst e_
  try dsimp only [Sum.elim_inl, Sum.elim_inr] at h2
  have e := Wk h2; subst e
  have e_ : _ = _ := ho2
  subst e_
  try dsimp only [Sum.elim_inl, Sum.elim_inr] at h1
  have e := Wk h1; subst e
  exact hQ1 _ _ _ (.inr rfl) rfl (show StLe _ _ ⟨[(2, .v (.one (.ptr 1 0))), (3, .v (.one (WL 9)))], [(0, .cells 48 (Q9 a0)), (1, .cells 72 [WK, .d (.v (.map none))])], [], 7, 88, []⟩ from (Qf (Wi rfl (Wi rfl Wh)) (WD rfl (WD rfl WC)) Wy rfl (Nat.le_trans hv1 (Wx rfl)) rfl rfl rfl (WT rfl (WU rfl rfl WR)) rfl rfl))
  replace h3 := Qr c27 h3
  refine Qi <| Q1 <| Q0 <| Wn rfl rfl rfl <| Wn rfl rfl rfl <| Qa rfl rfl (Wx rfl) (J3 (α := Int) ((Je o6 x26)) JU XE rfl rfl (Wx rfl) (Wx rfl) rfl rfl (.cons (.d _) .nil) rfl) ?_
  refine QS h3 (fun g28 h3 => ?_)
  refine Qa rfl rfl (Wx rfl) (Yv (α := Int) (l := s3.1) (l2 := ([(Je o6 x26)] : List Int)) JU Xn rfl rfl rfl rfl (.app _ _) rfl g28) <| Wo rfl rfl rfl <| Q3 <| Qj <| Q1 <| Q0 <| Wm rfl rfl rfl (Q8 rfl rfl rfl) <| Wn rfl rfl rfl <| Q3 ?_
  have e := Wk h3; subst e
  refine QD ((s3.1 ++ ([(Je o6 x26)])), (QZ (s3.2 + 1))) (Qf (Wi rfl (Wi rfl (Wi rfl (Wi rfl (Wi rfl (Wi rfl (Wi rfl (Wi rfl (Wi rfl Wh))))))))) (WD rfl (WD rfl (WD rfl (WD rfl (WD rfl WC))))) (Wz rfl (Wz rfl Wy)) rfl (Nat.le_trans hv1 (Wx rfl)) rfl rfl rfl (WT rfl (WU rfl rfl (WS rfl (WU rfl rfl (WU rfl rfl WR))))) rfl rfl) ho3
  replace h3 := Qr c25 h3
  refine QM <| Qd <| Qd ?_
  have e := Wk h3; subst e
  have e_ : _ = _ := ho3
  subst e_
  exact QG s3.1 (Qf (Wi rfl (Wi rfl (Wi rfl (Wi rfl (Wi rfl (Wi rfl Wh)))))) (WD rfl (WD rfl (WD rfl (WD rfl (WD rfl WC))))) (Wz rfl (Wz rfl Wy)) rfl (Nat.le_trans hv1 (Wx rfl)) rfl rfl rfl (WT rfl (WU rfl rfl (WS rfl (WU rfl rfl (WU rfl rfl WR))))) rfl rfl) h2
  intro o23 h2
  refine QB <| Q1 <| Q2 <| Q0 <| Wn rfl rfl rfl ?_
  refine Qb h2 (fun x29 hx29 h2 => ?_)
  refine Qa rfl rfl (Wx rfl) (J2 (hp1' := []) (tk1' := [(6, some ⟨3, 1, (Enc.encL o23).length, (Enc.encL x29).flatten⟩)]) (hpF := [(0, .cells 48 (Q9 a0)), (1, .cells 72 [WK, .d (.v (.map none))]), (2, .mp (QL o6.1) o6.2), (3, .cells 72 [WN 4 s2.2, .mp 2]), (5, .cells 48 (WO x20))]) (tkF := [(4, some ⟨54, 1, (Enc.encL s2.2).length, []⟩)]) (res2 := QA []) (nx2 := 7) [6] rfl rfl (K2 o23 x29 hx29) rfl rfl Wp rfl rfl WF (WB rfl WA) (WD rfl (WD rfl (WD rfl (WD rfl (WD rfl WC))))) (Wz rfl Wy) rfl rfl rfl rfl rfl WR rfl rfl rfl rfl) <| Q3 <| Q1 ?_
  refine JG [3, 5, 7] [(0, 1), (1, 1)] mixed (by kernel_rfl) (by kernel_rfl) (by kernel_rfl) ?_
  refine RunA.rd rfl rfl rfl (Q4 (Q6 JC rfl)) rfl <| RunA.rd rfl rfl rfl (Q4 (Q7 Y1 rfl rfl rfl)) rfl <| RunA.rd rfl rfl rfl (Q4 (QQ rfl)) rfl ?_
  refine Qb h2 (fun x30 hx30 h2 => ?_)
  refine RunA.eff rfl rfl rfl (J2 (hp1' := []) (tk1' := [(7, some ⟨3, 1, (Enc.encL x30).length, []⟩)]) (hpF := [(0, .cells 48 (Q9 a0)), (1, .cells 72 [WK, .d (.v (.map none))]), (2, .mp (QL o6.1) o6.2), (3, .cells 72 [WN 4 s2.2, .mp 2]), (5, .cells 48 (WO x20))]) (tkF := [(4, some ⟨54, 1, (Enc.encL s2.2).length, []⟩)]) (res2 := QA [.one (WN 7 x30)]) (nx2 := 8) [6] rfl rfl (YP x29 ((Enc.encL o23).length) x30 hx30) rfl rfl Wp rfl rfl WF (WB rfl WA) (WD rfl (WD rfl (WD rfl (WD rfl (WD rfl WC))))) (Wz rfl Wy) rfl rfl rfl rfl rfl WR rfl rfl rfl rfl) rfl <| RunA.rd rfl rfl rfl (Y3 (α := List Int) (x30) Y7 Xr rfl rfl (Wx rfl) rfl rfl (.cons (.app _ _ _) .nil) rfl) rfl ?_
  refine QS h2 (fun g31 h2 => ?_)
  refine RunA.eff rfl rfl rfl (QW (α := List Int) Y7 X7 rfl rfl rfl rfl rfl (.d _) g31) rfl <| RunA.rd rfl rfl rfl (Q4 (Q6 JC rfl)) rfl <| RunA.eff rfl rfl rfl (Ql Y1 rfl rfl rfl rfl (Wx rfl) rfl) rfl ?_
  refine RunA.nil ⟨?ex, _, _, rfl, ?_⟩
  case ex => exact ⟨⟨_, rfl, _, _, rfl, rfl, rfl, .inl ⟨rfl, _, Q4 (Q6 JC rfl), rfl⟩⟩, ⟨_, rfl, _, _, rfl, rfl, rfl, .inl ⟨rfl, _, Q4 (Q7 Y1 rfl rfl rfl), rfl⟩⟩, trivial⟩
  refine JK (st' := ⟨[(2, .v (.one (.ptr 1 0))), (4, .v (.one (.ptr 3 0))), (49, .v (.one (.osl 0 0 nn nn))), (50, .v (.one (WL ((nn : Nat) : Int)))), (51, .v (.one (WL s2.1)))], [(0, .cells 48 (Q9 a0)), (1, .cells 72 [WK, .d (.v (.map none))]), (2, .mp (QL o6.1) o6.2), (3, .cells 72 [WN 4 ((s2.2 ++ ([x30])) : List (List Int)), .mp 2]), (5, .cells 48 (WO x20))], [(4, some ⟨54, 1, (Enc.encL ((s2.2 ++ ([x30])) : List (List Int))).length, []⟩), (7, some ⟨3, 1, (Enc.encL x30).length, []⟩)], 8, 88, []⟩) (Qf (Wi rfl (Wi rfl (Wi rfl (Wi rfl (Wi rfl Wh))))) (WD rfl (WD rfl (WD rfl (WD rfl (WD rfl WC))))) (Wz rfl (Wz rfl Wy)) rfl (Nat.le_trans hv1 (Wx rfl)) rfl rfl rfl (WT rfl (WU rfl rfl (WS rfl (WU rfl rfl (WU rfl rfl WR))))) rfl rfl) <| Qj <| Q1 <| Q0 <| Wm rfl rfl rfl (Q8 rfl rfl rfl) <| Wn rfl rfl rfl <| Q3 ?_
  have e := Wk h2; subst e
  refine QD ((QZ (s2.1 + 1)), (s2.2 ++ ([x30]))) (Qf (Wi rfl (Wi rfl (Wi rfl (Wi rfl (Wi rfl Wh))))) (WD rfl (WD rfl (WD rfl (WD rfl WC)))) (Wz rfl Wy) rfl (Nat.le_trans hv1 (Wx rfl)) rfl rfl rfl (WT rfl (WU rfl rfl (WS rfl (WU rfl rfl WR)))) rfl rfl) ho2
  replace h2 := Qr c19 h2
  refine QM <| Qd <| Qd ?_
  have e := Wk h2; subst e
  have e_ : _ = _ := ho2
  subst e_
  exact QG s2.2 (Qf (Wi rfl (Wi rfl Wh)) (WD rfl (WD rfl (WD rfl (WD rfl WC)))) (Wz rfl Wy) rfl (Nat.le_trans hv1 (Wx rfl)) rfl rfl rfl (WT rfl (WU rfl rfl (WS rfl (WU rfl rfl WR)))) rfl rfl) h1
  intro o17 h1
  refine QB <| Q1 <| Q2 <| Q0 <| Wm rfl rfl rfl (Qu J8 rfl rfl rfl rfl) <| QJ rfl rfl (Ql J8 rfl rfl rfl rfl (Wx rfl) rfl) <| Wo rfl rfl rfl <| Q3 <| Q1 <| Qz ?_
  have e := Wk h1; subst e
  exact hQ1 _ _ _ (.inr rfl) rfl (show StLe _ _ ⟨[(2, .v (.one (.ptr 1 0))), (3, .v (.one (WL 0)))], [(0, .cells 48 (Q9 a0)), (1, .cells 72 [WN 4 o17, .mp 2]), (2, .mp (QL o6.1) o6.2)], [(4, some ⟨54, 1, (Enc.encL o17).length, []⟩)], 5, 88, []⟩ from (Qf (Wi rfl (Wi rfl Wh)) (WD rfl (WD rfl (WD rfl WC))) (Wz rfl Wy) rfl (Nat.le_trans hv1 (Wx rfl)) rfl rfl rfl (WT rfl (WU rfl rfl (WS rfl WR))) rfl rfl))
 refine KN (C := fun q_ => CallM Try.prog 34 [.one (.osl 0 0 nn nn)] ⟨[(0, .cells 48 (Q9 a0))], [], 1⟩ (QA (((Sum.elim (fun (y1 : (List (List Int)) × (Qh U3 Int)) => ([.agg [WN 4 y1.1, .mp 2], .one (WL 0)] : List AV)) (Sum.elim (fun (y2 : Unit) => ([.agg [WK, .d (.v (.map none))], .one (WL 8)] : List AV)) (fun (y3 : Unit) => ([.agg [WK, .d (.v (.map none))], .one (WL 9)] : List AV))))) q_)) ⟨(((Sum.elim (fun (y1 : (List (List Int)) × (Qh U3 Int)) => (⟨[(2, .v (.one (.ptr 1 0))), (3, .v (.one (WL 0)))], [(0, .cells 48 (Q9 a0)), (1, .cells 72 [WN 4 y1.1, .mp 2]), (2, .mp (QL y1.2.1) y1.2.2)], [(4, some ⟨54, 1, (Enc.encL y1.1).length, []⟩)], 5, 88, []⟩ : St)) (Sum.elim (fun (y2 : Unit) => (⟨[(2, .v (.one (.ptr 1 0))), (3, .v (.one (WL 8)))], [(0, .cells 48 (Q9 a0)), (1, .cells 72 [WK, .d (.v (.map none))])], [], 5, 88, []⟩ : St)) (fun (y3 : Unit) => (⟨[(2, .v (.one (.ptr 1 0))), (3, .v (.one (WL 9)))], [(0, .cells 48 (Q9 a0)), (1, .cells 72 [WK, .d (.v (.map none))])], [], 7, 88, []⟩ : St))))) q_).hp, (((Sum.elim (fun (y1 : (List (List Int)) × (Qh U3 Int)) => (⟨[(2, .v (.one (.ptr 1 0))), (3, .v (.one (WL 0)))], [(0, .cells 48 (Q9 a0)), (1, .cells 72 [WN 4 y1.1, .mp 2]), (2, .mp (QL y1.2.1) y1.2.2)], [(4, some ⟨54, 1, (Enc.encL y1.1).length, []⟩)], 5, 88, []⟩ : St)) (Sum.elim (fun (y2 : Unit) => (⟨[(2, .v (.one (.ptr 1 0))), (3, .v (.one (WL 8)))], [(0, .cells 48 (Q9 a0)), (1, .cells 72 [WK, .d (.v (.map none))])], [], 5, 88, []⟩ : St)) (fun (y3 : Unit) => (⟨[(2, .v (.one (.ptr 1 0))), (3, .v (.one (WL 9)))], [(0, .cells 48 (Q9 a0)), (1, .cells 72 [WK, .d (.v (.map none))])], [], 7, 88, []⟩ : St))))) q_).tk, (((Sum.elim (fun (y1 : (List (List Int)) × (Qh U3 Int)) => (⟨[(2, .v (.one (.ptr 1 0))), (3, .v (.one (WL 0)))], [(0, .cells 48 (Q9 a0)), (1, .cells 72 [WN 4 y1.1, .mp 2]), (2, .mp (QL y1.2.1) y1.2.2)], [(4, some ⟨54, 1, (Enc.encL y1.1).length, []⟩)], 5, 88, []⟩ : St)) (Sum.elim (fun (y2 : Unit) => (⟨[(2, .v (.one (.ptr 1 0))), (3, .v (.one (WL 8)))], [(0, .cells 48 (Q9 a0)), (1, .cells 72 [WK, .d (.v (.map none))])], [], 5, 88, []⟩ : St)) (fun (y3 : Unit) => (⟨[(2, .v (.one (.ptr 1 0))), (3, .v (.one (WL 9)))], [(0, .cells 48 (Q9 a0)), (1, .cells 72 [WK, .d (.v (.map none))])], [], 7, 88, []⟩ : St))))) q_).nx⟩) hc4 h0 (fun y1 hc4 h0 => ?_) (fun z_ hc4 h0 => KN (C := fun q_ => CallM Try.prog 34 [.one (.osl 0 0 nn nn)] ⟨[(0, .cells 48 (Q9 a0))], [], 1⟩ (QA (((Sum.elim (fun (y1 : (List (List Int)) × (Qh U3 Int)) => ([.agg [WN 4 y1.1, .mp 2], .one (WL 0)] : List AV)) (Sum.elim (fun (y2 : Unit) => ([.agg [WK, .d (.v (.map none))], .one (WL 8)] : List AV)) (fun (y3 : Unit) => ([.agg [WK, .d (.v (.map none))], .one (WL 9)] : List AV))))) (.inr q_))) ⟨(((Sum.elim (fun (y1 : (List (List Int)) × (Qh U3 Int)) => (⟨[(2, .v (.one (.ptr 1 0))), (3, .v (.one (WL 0)))], [(0, .cells 48 (Q9 a0)), (1, .cells 72 [WN 4 y1.1, .mp 2]), (2, .mp (QL y1.2.1) y1.2.2)], [(4, some ⟨54, 1, (Enc.encL y1.1).length, []⟩)], 5, 88, []⟩ : St)) (Sum.elim (fun (y2 : Unit) => (⟨[(2, .v (.one (.ptr 1 0))), (3, .v (.one (WL 8)))], [(0, .cells 48 (Q9 a0)), (1, .cells 72 [WK, .d (.v (.map none))])], [], 5, 88, []⟩ : St)) (fun (y3 : Unit) => (⟨[(2, .v (.one (.ptr 1 0))), (3, .v (.one (WL 9)))], [(0, .cells 48 (Q9 a0)), (1, .cells 72 [WK, .d (.v (.map none))])], [], 7, 88, []⟩ : St))))) (.inr q_)).hp, (((Sum.elim (fun (y1 : (List (List Int)) × (Qh U3 Int)) => (⟨[(2, .v (.one (.ptr 1 0))), (3, .v (.one (WL 0)))], [(0, .cells 48 (Q9 a0)), (1, .cells 72 [WN 4 y1.1, .mp 2]), (2, .mp (QL y1.2.1) y1.2.2)], [(4, some ⟨54, 1, (Enc.encL y1.1).length, []⟩)], 5, 88, []⟩ : St)) (Sum.elim (fun (y2 : Unit) => (⟨[(2, .v (.one (.ptr 1 0))), (3, .v (.one (WL 8)))], [(0, .cells 48 (Q9 a0)), (1, .cells 72 [WK, .d (.v (.map none))])], [], 5, 88, []⟩ : St)) (fun (y3 : Unit) => (⟨[(2, .v (.one (.ptr 1 0))), (3, .v (.one (WL 9)))], [(0, .cells 48 (Q9 a0)), (1, .cells 72 [WK, .d (.v (.map none))])], [], 7, 88, []⟩ : St))))) (.inr q_)).tk, (((Sum.elim (fun (y1 : (List (List Int)) × (Qh U3 Int)) => (⟨[(2, .v (.one (.ptr 1 0))), (3, .v (.one (WL 0)))], [(0, .cells 48 (Q9 a0)), (1, .cells 72 [WN 4 y1.1, .mp 2]), (2, .mp (QL y1.2.1) y1.2.2)], [(4, some ⟨54, 1, (Enc.encL y1.1).length, []⟩)], 5, 88, []⟩ : St)) (Sum.elim (fun (y2 : Unit) => (⟨[(2, .v (.one (.ptr 1 0))), (3, .v (.one (WL 8)))], [(0, .cells 48 (Q9 a0)), (1, .cells 72 [WK, .d (.v (.map none))])], [], 5, 88, []⟩ : St)) (fun (y3 : Unit) => (⟨[(2, .v (.one (.ptr 1 0))), (3, .v (.one (WL 9)))], [(0, .cells 48 (Q9 a0)), (1, .cells 72 [WK, .d (.v (.map none))])], [], 7, 88, []⟩ : St))))) (.inr q_)).nx⟩) hc4 h0 (fun y2 hc4 h0 => ?_) (fun y3 hc4 h0 => ?_))
 replace hc4 : CallM Try.prog 34 [.one (.osl 0 0 nn nn)] ⟨[(0, .cells 48 (Q9 a0))], [], 1⟩ (QA [.agg [WN 4 y1.1, .mp 2], .one (WL 0)]) ⟨[(0, .cells 48 (Q9 a0)), (1, .cells 72 [WN 4 y1.1, .mp 2]), (2, .mp (QL y1.2.1) y1.2.2)], [(4, some ⟨54, 1, (Enc.encL y1.1).length, []⟩)], 5⟩ := hc4
 refine Qa rfl rfl (Wx rfl) (QT rfl rfl rfl hc4 rfl (WD rfl WC) Wy) <| Wn rfl rfl rfl <| Wm rfl rfl rfl (Qg rfl rfl) <| Wm rfl rfl rfl (Qg rfl rfl) <| Qa rfl rfl (Wx rfl) (Qp YT rfl) <| QJ rfl rfl (Ql J8 rfl rfl rfl rfl (Wx rfl) rfl) <| Wo rfl rfl rfl <| Q3 <| Q1 <| Q2 <| Q2 <| Q0 <| Wn rfl rfl rfl <| Wm rfl rfl rfl (Q8 rfl rfl rfl) ?_
 refine Q3 <| Q1 ?_
 refine Qe rfl (fun h => nomatch h) (fun _ => ?_)
 refine Qi <| Q1 <| Q2 ?_
 refine JG [5] [] mixed (by kernel_rfl) (by kernel_rfl) (by kernel_rfl) ?_
 refine RunA.rd rfl rfl rfl (Q4 (Qu J8 rfl rfl rfl rfl)) rfl <| RunA.rd rfl rfl rfl (Q4 (Q6 JC rfl)) rfl <| RunA.rd rfl rfl rfl (Q4 (Q7 Y1 rfl rfl rfl)) rfl ?_
 refine Qb h0 (fun x32 hx32 h0 => ?_)
 refine RunA.rd rfl rfl rfl (Qn (m36_ok y1.1 x32 hx32) rfl (.cons (.one (.app _ _ _)) .nil)) rfl <| RunA.rd rfl rfl rfl (Q4 (QQ rfl)) rfl ?_
 refine Qb h0 (fun y36 h1 h0 => ?_)
 have hc35 : CallM Try.prog 35 [.agg [WN 4 y1.1, .mp 2], .one (WJ x32), .one (WJ a1)] ⟨[(0, .cells 48 (Q9 a0)), (1, .cells 72 [WN 4 y1.1, .mp 2]), (2, .mp (QL y1.2.1) y1.2.2), (5, .cells 72 [WN 4 y1.1, .mp 2])], [(4, some ⟨54, 1, (Enc.encL y1.1).length, []⟩)], 6⟩ (QA (((Sum.elim (fun (y33 : Unit) => ([.one (WK), .one (WL 9)] : List AV)) (fun (y34 : (List Bool)) => ([.one (.osl 8 0 ((x32.length : Int).toNat) ((x32.length : Int).toNat)), .one (WL 0)] : List AV)))) y36)) ⟨(((Sum.elim (fun (y33 : Unit) => (⟨[(6, .v (.one (WK))), (7, .v (.one (WL 9)))], [(0, .cells 48 (Q9 a0)), (1, .cells 72 [WN 4 y1.1, .mp 2]), (2, .mp (QL y1.2.1) y1.2.2), (5, .cells 72 [WN 4 y1.1, .mp 2])], [(4, some ⟨54, 1, (Enc.encL y1.1).length, []⟩)], 11, 38, []⟩ : St)) (fun (y34 : (List Bool)) => (⟨[(6, .v (.one (.osl 8 0 ((x32.length : Int).toNat) ((x32.length : Int).toNat)))), (7, .v (.one (WL 0)))], [(0, .cells 48 (Q9 a0)), (1, .cells 72 [WN 4 y1.1, .mp 2]), (2, .mp (QL y1.2.1) y1.2.2), (5, .cells 72 [WN 4 y1.1, .mp 2]), (8, .cells 4 (Q9 y34))], [(4, some ⟨54, 1, (Enc.encL y1.1).length, []⟩)], 11, 38, []⟩ : St)))) y36).hp, (((Sum.elim (fun (y33 : Unit) => (⟨[(6, .v (.one (WK))), (7, .v (.one (WL 9)))], [(0, .cells 48 (Q9 a0)), (1, .cells 72 [WN 4 y1.1, .mp 2]), (2, .mp (QL y1.2.1) y1.2.2), (5, .cells 72 [WN 4 y1.1, .mp 2])], [(4, some ⟨54, 1, (Enc.encL y1.1).length, []⟩)], 11, 38, []⟩ : St)) (fun (y34 : (List Bool)) => (⟨[(6, .v (.one (.osl 8 0 ((x32.length : Int).toNat) ((x32.length : Int).toNat)))), (7, .v (.one (WL 0)))], [(0, .cells 48 (Q9 a0)), (1, .cells 72 [WN 4 y1.1, .mp 2]), (2, .mp (QL y1.2.1) y1.2.2), (5, .cells 72 [WN 4 y1.1, .mp 2]), (8, .cells 4 (Q9 y34))], [(4, some ⟨54, 1, (Enc.encL y1.1).length, []⟩)], 11, 38, []⟩ : St)))) y36).tk, (((Sum.elim (fun (y33 : Unit) => (⟨[(6, .v (.one (WK))), (7, .v (.one (WL 9)))], [(0, .cells 48 (Q9 a0)), (1, .cells 72 [WN 4 y1.1, .mp 2]), (2, .mp (QL y1.2.1) y1.2.2), (5, .cells 72 [WN 4 y1.1, .mp 2])], [(4, some ⟨54, 1, (Enc.encL y1.1).length, []⟩)], 11, 38, []⟩ : St)) (fun (y34 : (List Bool)) => (⟨[(6, .v (.one (.osl 8 0 ((x32.length : Int).toNat) ((x32.length : Int).toNat)))), (7, .v (.one (WL 0)))], [(0, .cells 48 (Q9 a0)), (1, .cells 72 [WN 4 y1.1, .mp 2]), (2, .mp (QL y1.2.1) y1.2.2), (5, .cells 72 [WN 4 y1.1, .mp 2]), (8, .cells 4 (Q9 y34))], [(4, some ⟨54, 1, (Enc.encL y1.1).length, []⟩)], 11, 38, []⟩ : St)))) y36).nx⟩ := by
  refine JE y36 ((Sum.elim (fun (y33 : Unit) => (⟨[(6, .v (.one (WK))), (7, .v (.one (WL 9)))], [(0, .cells 48 (Q9 a0)), (1, .cells 72 [WN 4 y1.1, .mp 2]), (2, .mp (QL y1.2.1) y1.2.2), (5, .cells 72 [WN 4 y1.1, .mp 2])], [(4, some ⟨54, 1, (Enc.encL y1.1).length, []⟩)], 11, 38, []⟩ : St)) (fun (y34 : (List Bool)) => (⟨[(6, .v (.one (.osl 8 0 ((x32.length : Int).toNat) ((x32.length : Int).toNat)))), (7, .v (.one (WL 0)))], [(0, .cells 48 (Q9 a0)), (1, .cells 72 [WN 4 y1.1, .mp 2]), (2, .mp (QL y1.2.1) y1.2.2), (5, .cells 72 [WN 4 y1.1, .mp 2]), (8, .cells 4 (Q9 y34))], [(4, some ⟨54, 1, (Enc.encL y1.1).length, []⟩)], 11, 38, []⟩ : St)))) ((Sum.elim (fun (y33 : Unit) => ([.one (WK), .one (WL 9)] : List AV)) (fun (y34 : (List Bool)) => ([.one (.osl 8 0 ((x32.length : Int).toNat) ((x32.length : Int).toNat)), .one (WL 0)] : List AV)))) rfl rfl en_35 (Wx rfl) (fun z_ => by cases z_ <;> rfl) (fun z_ => by cases z_ with
    | inl _ => exact (Qo rfl (Qo rfl .nil))
    | inr _ => exact (Qo rfl (Qo rfl .nil))) (fun w0 M V0 Q hv1 hQ1 => ?_)
  simp only [Jb]
  refine Q2 <| Q0 <| Qa rfl rfl (Wx rfl) (Jc rfl) <| Qa rfl rfl (Wx rfl) (Jc rfl) <| Wo rfl rfl rfl <| Wo rfl rfl rfl <| Q3 <| Q1 <| Q2 <| Q0 <| Wm rfl rfl rfl (Q7 Y1 rfl rfl rfl) <| Wm rfl rfl rfl (QC (α := List Int) Y7 rfl (.d _)) ?_
  refine QS h1 (fun g37 h1 => ?_)
  refine Qa rfl rfl (Wx rfl) (ZP (α := Bool) (z := false) Zo Wb rfl rfl XV rfl rfl g37 rfl (by repeat (first | exact CLs.nil | refine CLs.cons (by first | exact .refl _ | exact .sub (.app _ _ _) | exact .sub (.nil _)) ?_))) ?_
  refine Qa rfl rfl (Wx rfl) (Qp XD rfl) <| QJ rfl rfl (Ql Zp rfl rfl rfl rfl (Wx rfl) rfl) <| Q3 <| Q1 <| Q2 <| Q0 <| Qa rfl rfl (Wx rfl) (Qp z_106 rfl) <| Q3 <| Q1 <| Q2 <| Q0 <| Wm rfl rfl rfl (Z1 rfl rfl rfl) <| QJ rfl rfl (Ql ZZ rfl rfl rfl rfl (Wx rfl) rfl) <| Q3 ?_
  refine Q1 <| Q2 <| Q2 <| Q0 <| Wn rfl rfl rfl <| Wm rfl rfl rfl (QC (α := U3) J1 rfl (.d _)) <| Wn rfl rfl rfl <| Q3 <| Q1 <| Qc ?_
  refine QI 0 (fun (o38 : (List Bool)) => ⟨[(8, .v (.one (.ptr 9 0)))], [(0, .cells 48 (Q9 a0)), (1, .cells 72 [WN 4 y1.1, .mp 2]), (2, .mp (QL y1.2.1) y1.2.2), (5, .cells 72 [WN 4 y1.1, .mp 2]), (6, .cells 72 [WN 4 y1.1, .mp 2]), (7, .cells 57 [WJ x32]), (8, .cells 4 (Q9 o38)), (9, .cells 75 [.osl 8 0 ((x32.length : Int).toNat) ((x32.length : Int).toNat)]), (10, .cells 106 [.fn 56 [(9, 0), (7, 0), (10, 0)]])], [(4, some ⟨54, 1, (Enc.encL y1.1).length, []⟩)], 11, 38, []⟩) (fun (o38 : (List Bool)) => (some (.inr o38)) = some y36) ?_ ?_
  refine Qb h1 (fun o39 hl2 h1 => ?_)
  refine QH (m12o_l4 a1 y1 x32) (fun s2 => ⟨[(3, .v (.one (.ptr 6 0))), (8, .v (.one (.ptr 9 0))), (9, .v (.one (.ptr 10 0))), (18, .v (.one (WJ a1))), (19, .v (.one (WL (a1.length : Int)))), (20, .v (.one (WL s2.1)))], [(0, .cells 48 (Q9 a0)), (1, .cells 72 [WN 4 y1.1, .mp 2]), (2, .mp (QL y1.2.1) y1.2.2), (5, .cells 72 [WN 4 y1.1, .mp 2]), (6, .cells 72 [WN 4 y1.1, .mp 2]), (7, .cells 57 [WJ x32]), (8, .cells 4 (Q9 s2.2)), (9, .cells 75 [.osl 8 0 ((x32.length : Int).toNat) ((x32.length : Int).toNat)]), (10, .cells 106 [.fn 56 [(9, 0), (7, 0), (10, 0)]])], [(4, some ⟨54, 1, (Enc.encL y1.1).length, []⟩)], 11, 38, []⟩) (0, (List.replicate (x32.length : Int).toNat false)) o39 (Qf (Wi rfl (Wi rfl (Wi rfl (Wi rfl (Wi rfl (Wi rfl Wh)))))) (WD rfl (WD rfl (WD rfl (WD rfl (WD rfl (WD rfl (WD rfl (WD rfl (WD rfl WC))))))))) (Wz rfl Wy) rfl (Nat.le_trans hv1 (Wx rfl)) rfl rfl rfl (WT rfl (WU rfl rfl (WS rfl (WU rfl rfl (WU rfl rfl (WU rfl rfl (WT rfl (WU rfl rfl (WU rfl rfl WR))))))))) rfl rfl) hl2 (fun s2 n2 oo2 h2 ho2 => ?_)
  unfold m12o_l4 at h2
  refine Q2 <| Q0 <| Wm rfl rfl rfl (Q8 rfl rfl rfl) <| Q3 <| Q1 <| Q2 ?_
  refine Qe (b := (decide (s2.1 < (a1.length : Int)))) rfl (fun c40 => ?_) (fun c40 => ?_)
  replace h2 := Qq c40 h2
  refine Qi <| Q1 <| Q2 <| Qc <| Q2 <| Q0 ?_
  refine Qb h2 (fun x41 hx41 h2 => ?_)
  refine Wm rfl rfl rfl (Qm (α := U3) J1 rfl (.d _) rfl hx41) <| Wm rfl rfl rfl (QN JT rfl rfl) <| Wo rfl rfl rfl <| Q3 <| Q1 <| Q2 <| Q0 <| Wm rfl rfl rfl (Q6 JM rfl) <| Wm rfl rfl rfl (Q7 YD rfl rfl rfl) <| Wn rfl rfl rfl <| Wm rfl rfl rfl (Js (M := y1.2) (k := x41) YC Yg rfl rfl rfl) <| Wn rfl rfl rfl <| Wm rfl rfl rfl (Qg rfl rfl) <| Wm rfl rfl rfl (Qg rfl rfl) ?_
  refine Wo rfl rfl rfl <| Wo rfl rfl rfl <| Q3 <| Q1 <| Q2 <| Q2 <| Q0 <| Wn rfl rfl rfl <| Wm rfl rfl rfl (J9 rfl) <| Q3 <| Q1 ?_
  refine Qe (b := (!(Jt y1.2 x41))) rfl (fun c42 => ?_) (fun c42 => ?_)
  replace h2 := Qq c42 h2
  refine Q2 <| Q0 <| Wo rfl rfl rfl <| Wo rfl rfl rfl <| Q3 <| Q1 <| Qz ?_
  have e := Wk h2; subst e
  have e_ : _ = _ := ho2
  subst e_
  try dsimp only [Sum.elim_inl, Sum.elim_inr] at h1
  have e := Wk h1; subst e
  exact hQ1 _ _ _ (.inr rfl) rfl (show StLe _ _ ⟨[(6, .v (.one (WK))), (7, .v (.one (WL 9)))], [(0, .cells 48 (Q9 a0)), (1, .cells 72 [WN 4 y1.1, .mp 2]), (2, .mp (QL y1.2.1) y1.2.2), (5, .cells 72 [WN 4 y1.1, .mp 2])], [(4, some ⟨54, 1, (Enc.encL y1.1).length, []⟩)], 11, 38, []⟩ from (Qf (Wi rfl (Wi rfl Wh)) (WD rfl (WD rfl (WD rfl (WD rfl WC)))) (Wz rfl Wy) rfl (Nat.le_trans hv1 (Wx rfl)) rfl rfl rfl (WT rfl (WU rfl rfl (WS rfl (WU rfl rfl WR)))) rfl rfl))
  replace h2 := Qr c42 h2
  refine Qi <| Q1 <| Q0 <| Wm rfl rfl rfl (Q7 ZZ rfl rfl rfl) <| Wn rfl rfl rfl ?_
  refine Qb h2 (fun x43 hx43 h2 => ?_)
  refine Qa rfl rfl (Wx rfl) (J2 (hp1' := [(9, .cells 75 [.osl 8 0 ((x32.length : Int).toNat) ((x32.length : Int).toNat)]), (8, .cells 4 (Q9 x43)), (7, .cells 57 [WJ x32]), (10, .cells 106 [.fn 56 [(9, 0), (7, 0), (10, 0)]])]) (tk1' := []) (hpF := [(0, .cells 48 (Q9 a0)), (1, .cells 72 [WN 4 y1.1, .mp 2]), (2, .mp (QL y1.2.1) y1.2.2), (5, .cells 72 [WN 4 y1.1, .mp 2]), (6, .cells 72 [WN 4 y1.1, .mp 2])]) (tkF := [(4, some ⟨54, 1, (Enc.encL y1.1).length, []⟩)]) (res2 := QA []) (nx2 := 11) [9, 8, 7, 10] rfl rfl (m56f12_ok (Je y1.2 x41) ((x32.length : Int).toNat) s2.2 x32 x43 hx43) rfl rfl (Ws rfl rfl (Wr rfl (Ws rfl rfl (Ws rfl rfl Wp)))) rfl rfl (WG rfl (WI rfl (WG rfl (WG rfl WF)))) WA (WD rfl (WD rfl (WD rfl (WD rfl (WD rfl WC))))) (Wz rfl Wy) rfl rfl rfl rfl rfl (WU rfl rfl (WT rfl (WU rfl rfl (WU rfl rfl WR)))) rfl rfl rfl rfl) <| Q3 <| Qj <| Q1 <| Q0 <| Wm rfl rfl rfl (Q8 rfl rfl rfl) <| Wn rfl rfl rfl <| Q3 ?_
  have e := Wk h2; subst e
  refine QD ((QZ (s2.1 + 1)), x43) (Qf (Wi rfl (Wi rfl (Wi rfl (Wi rfl (Wi rfl (Wi rfl Wh)))))) (WD rfl (WD rfl (WD rfl (WD rfl (WD rfl (WD rfl (WD rfl (WD rfl (WD rfl WC))))))))) (Wz rfl Wy) rfl (Nat.le_trans hv1 (Wx rfl)) rfl rfl rfl (WT rfl (WU rfl rfl (WS rfl (WU rfl rfl (WU rfl rfl (WU rfl rfl (WT rfl (WU rfl rfl (WU rfl rfl WR))))))))) rfl rfl) ho2
  replace h2 := Qr c40 h2
  refine QM <| Qd <| Qd ?_
  have e := Wk h2; subst e
  have e_ : _ = _ := ho2
  subst e_
  exact QG s2.2 (Qf (Wi rfl Wh) (WD rfl (WD rfl (WD rfl (WD rfl (WD rfl (WD rfl (WD rfl (WD rfl (WD rfl WC))))))))) (Wz rfl Wy) rfl (Nat.le_trans hv1 (Wx rfl)) rfl rfl rfl (WT rfl (WU rfl rfl (WS rfl (WU rfl rfl (WU rfl rfl (WU rfl rfl (WT rfl (WU rfl rfl (WU rfl rfl WR))))))))) rfl rfl) h1
  intro o38 h1
  refine QB <| Q1 <| Q2 <| Q0 <| Wm rfl rfl rfl (Q7 Zp rfl rfl rfl) <| Wo rfl rfl rfl <| Wo rfl rfl rfl <| Q3 <| Q1 <| Qz ?_
  have e := Wk h1; subst e
  exact hQ1 _ _ _ (.inr rfl) rfl (show StLe _ _ ⟨[(6, .v (.one (.osl 8 0 ((x32.length : Int).toNat) ((x32.length : Int).toNat)))), (7, .v (.one (WL 0)))], [(0, .cells 48 (Q9 a0)), (1, .cells 72 [WN 4 y1.1, .mp 2]), (2, .mp (QL y1.2.1) y1.2.2), (5, .cells 72 [WN 4 y1.1, .mp 2]), (8, .cells 4 (Q9 o38))], [(4, some ⟨54, 1, (Enc.encL y1.1).length, []⟩)], 11, 38, []⟩ from (Qf (Wi rfl (Wi rfl Wh)) (WD rfl (WD rfl (WD rfl (WD rfl (WD rfl WC))))) (Wz rfl Wy) rfl (Nat.le_trans hv1 (Wx rfl)) rfl rfl rfl (WT rfl (WU rfl rfl (WS rfl (WU rfl rfl (WT rfl WR))))) rfl rfl))
 refine KN (C := fun q_ => CallM Try.prog 35 [.agg [WN 4 y1.1, .mp 2], .one (WJ x32), .one (WJ a1)] ⟨[(0, .cells 48 (Q9 a0)), (1, .cells 72 [WN 4 y1.1, .mp 2]), (2, .mp (QL y1.2.1) y1.2.2), (5, .cells 72 [WN 4 y1.1, .mp 2])], [(4, some ⟨54, 1, (Enc.encL y1.1).length, []⟩)], 6⟩ (QA (((Sum.elim (fun (y33 : Unit) => ([.one (WK), .one (WL 9)] : List AV)) (fun (y34 : (List Bool)) => ([.one (.osl 8 0 ((x32.length : Int).toNat) ((x32.length : Int).toNat)), .one (WL 0)] : List AV)))) q_)) ⟨(((Sum.elim (fun (y33 : Unit) => (⟨[(6, .v (.one (WK))), (7, .v (.one (WL 9)))], [(0, .cells 48 (Q9 a0)), (1, .cells 72 [WN 4 y1.1, .mp 2]), (2, .mp (QL y1.2.1) y1.2.2), (5, .cells 72 [WN 4 y1.1, .mp 2])], [(4, some ⟨54, 1, (Enc.encL y1.1).length, []⟩)], 11, 38, []⟩ : St)) (fun (y34 : (List Bool)) => (⟨[(6, .v (.one (.osl 8 0 ((x32.length : Int).toNat) ((x32.length : Int).toNat)))), (7, .v (.one (WL 0)))], [(0, .cells 48 (Q9 a0)), (1, .cells 72 [WN 4 y1.1, .mp 2]), (2, .mp (QL y1.2.1) y1.2.2), (5, .cells 72 [WN 4 y1.1, .mp 2]), (8, .cells 4 (Q9 y34))], [(4, some ⟨54, 1, (Enc.encL y1.1).length, []⟩)], 11, 38, []⟩ : St)))) q_).hp, (((Sum.elim (fun (y33 : Unit) => (⟨[(6, .v (.one (WK))), (7, .v (.one (WL 9)))], [(0, .cells 48 (Q9 a0)), (1, .cells 72 [WN 4 y1.1, .mp 2]), (2, .mp (QL y1.2.1) y1.2.2), (5, .cells 72 [WN 4 y1.1, .mp 2])], [(4, some ⟨54, 1, (Enc.encL y1.1).length, []⟩)], 11, 38, []⟩ : St)) (fun (y34 : (List Bool)) => (⟨[(6, .v (.one (.osl 8 0 ((x32.length : Int).toNat) ((x32.length : Int).toNat)))), (7, .v (.one (WL 0)))], [(0, .cells 48 (Q9 a0)), (1, .cells 72 [WN 4 y1.1, .mp 2]), (2, .mp (QL y1.2.1) y1.2.2), (5, .cells 72 [WN 4 y1.1, .mp 2]), (8, .cells 4 (Q9 y34))], [(4, some ⟨54, 1, (Enc.encL y1.1).length, []⟩)], 11, 38, []⟩ : St)))) q_).tk, (((Sum.elim (fun (y33 : Unit) => (⟨[(6, .v (.one (WK))), (7, .v (.one (WL 9)))], [(0, .cells 48 (Q9 a0)), (1, .cells 72 [WN 4 y1.1, .mp 2]), (2, .mp (QL y1.2.1) y1.2.2), (5, .cells 72 [WN 4 y1.1, .mp 2])], [(4, some ⟨54, 1, (Enc.encL y1.1).length, []⟩)], 11, 38, []⟩ : St)) (fun (y34 : (List Bool)) => (⟨[(6, .v (.one (.osl 8 0 ((x32.length : Int).toNat) ((x32.length : Int).toNat)))), (7, .v (.one (WL 0)))], [(0, .cells 48 (Q9 a0)), (1, .cells 72 [WN 4 y1.1, .mp 2]), (2, .mp (QL y1.2.1) y1.2.2), (5, .cells 72 [WN 4 y1.1, .mp 2]), (8, .cells 4 (Q9 y34))], [(4, some ⟨54, 1, (Enc.encL y1.1).length, []⟩)], 11, 38, []⟩ : St)))) q_).nx⟩) hc35 h0 (fun y33 hc35 h0 => ?_) (fun y34 hc35 h0 => ?_)
 replace hc35 : CallM Try.prog 35 [.agg [WN 4 y1.1, .mp 2], .one (WJ x32), .one (WJ a1)] ⟨[(0, .cells 48 (Q9 a0)), (1, .cells 72 [WN 4 y1.1, .mp 2]), (2, .mp (QL y1.2.1) y1.2.2), (5, .cells 72 [WN 4 y1.1, .mp 2])], [(4, some ⟨54, 1, (Enc.encL y1.1).length, []⟩)], 6⟩ (QA [.one (WK), .one (WL 9)]) ⟨[(0, .cells 48 (Q9 a0)), (1, .cells 72 [WN 4 y1.1, .mp 2]), (2, .mp (QL y1.2.1) y1.2.2), (5, .cells 72 [WN 4 y1.1, .mp 2])], [(4, some ⟨54, 1, (Enc.encL y1.1).length, []⟩)], 11⟩ := hc35
 refine RunA.eff rfl rfl rfl (QT rfl rfl rfl hc35 rfl (WD rfl (WD rfl (WD rfl (WD rfl WC)))) (Wz rfl Wy)) rfl <| RunA.rd rfl rfl rfl (Q4 (QQ rfl)) rfl <| RunA.rd rfl rfl rfl (Q4 (Qg rfl rfl)) rfl <| RunA.rd rfl rfl rfl (Q4 (Qg rfl rfl)) rfl <| RunA.rd rfl rfl rfl (Q4 (YB rfl)) rfl <| RunA.rd rfl rfl rfl (Q4 (YB rfl)) rfl ?_
 refine RunA.nil ⟨?ex, _, _, rfl, ?_⟩
 case ex => exact trivial
 refine JK (st' := ⟨[(0, .v (.one (.osl 0 0 nn nn))), (7, .v (.one (WL 9))), (8, .v (.one (WK)))], [(0, .cells 48 (Q9 a0)), (1, .cells 72 [WN 4 y1.1, .mp 2]), (2, .mp (QL y1.2.1) y1.2.2), (5, .cells 72 [WN 4 y1.1, .mp 2])], [(4, some ⟨54, 1, (Enc.encL y1.1).length, []⟩)], 11, 49, []⟩) (Qf (Wi rfl (Wi rfl (Wi rfl Wh))) (WD rfl (WD rfl (WD rfl (WD rfl WC)))) (Wz rfl Wy) rfl (Nat.le_trans hv0 (Wx rfl)) rfl rfl rfl (WT rfl (WU rfl rfl (WS rfl (WU rfl rfl WR)))) rfl rfl) <| Q1 <| Q2 <| Q2 <| Q0 <| Wn rfl rfl rfl <| Wm rfl rfl rfl (Q8 rfl rfl rfl) <| Q3 <| Q1 ?_
 refine Qe rfl (fun _ => ?_) (fun h => nomatch h)
 refine Q2 <| Q0 <| Wn rfl rfl rfl <| Wo rfl rfl rfl <| Wo rfl rfl rfl <| Q3 <| Q1 <| Qz ?_
 have e := Wk h0; subst e
 exact hQ0 _ _ _ (.inr rfl) rfl (Qf (Wj rfl (.sub (.nil _)) (Wi rfl Wh)) (WD rfl WC) Wy rfl (Nat.le_trans hv0 (Wx rfl)) rfl rfl rfl (WT rfl WR) rfl rfl)
 replace hc35 : CallM Try.prog 35 [.agg [WN 4 y1.1, .mp 2], .one (WJ x32), .one (WJ a1)] ⟨[(0, .cells 48 (Q9 a0)), (1, .cells 72 [WN 4 y1.1, .mp 2]), (2, .mp (QL y1.2.1) y1.2.2), (5, .cells 72 [WN 4 y1.1, .mp 2])], [(4, some ⟨54, 1, (Enc.encL y1.1).length, []⟩)], 6⟩ (QA [.one (.osl 8 0 ((x32.length : Int).toNat) ((x32.length : Int).toNat)), .one (WL 0)]) ⟨[(0, .cells 48 (Q9 a0)), (1, .cells 72 [WN 4 y1.1, .mp 2]), (2, .mp (QL y1.2.1) y1.2.2), (5, .cells 72 [WN 4 y1.1, .mp 2]), (8, .cells 4 (Q9 y34))], [(4, some ⟨54, 1, (Enc.encL y1.1).length, []⟩)], 11⟩ := hc35
 refine RunA.eff rfl rfl rfl (QT rfl rfl rfl hc35 rfl (WD rfl (WD rfl (WD rfl (WD rfl WC)))) (Wz rfl Wy)) rfl <| RunA.rd rfl rfl rfl (Q4 (QQ rfl)) rfl <| RunA.rd rfl rfl rfl (Q4 (Qg rfl rfl)) rfl <| RunA.rd rfl rfl rfl (Q4 (Qg rfl rfl)) rfl <| RunA.rd rfl rfl rfl (Q4 (YB rfl)) rfl <| RunA.rd rfl rfl rfl (Q4 (YB rfl)) rfl ?_
 refine RunA.nil ⟨?ex, _, _, rfl, ?_⟩
 case ex => exact trivial
 refine JK (st' := ⟨[(0, .v (.one (.osl 0 0 nn nn))), (7, .v (.one (WL 0))), (8, .v (.one (.osl 8 0 ((x32.length : Int).toNat) ((x32.length : Int).toNat))))], [(0, .cells 48 (Q9 a0)), (1, .cells 72 [WN 4 y1.1, .mp 2]), (2, .mp (QL y1.2.1) y1.2.2), (5, .cells 72 [WN 4 y1.1, .mp 2]), (8, .cells 4 (Q9 y34))], [(4, some ⟨54, 1, (Enc.encL y1.1).length, []⟩)], 11, 49, []⟩) (Qf (Wi rfl (Wi rfl (Wi rfl Wh))) (WD rfl (WD rfl (WD rfl (WD rfl (WD rfl WC))))) (Wz rfl Wy) rfl (Nat.le_trans hv0 (Wx rfl)) rfl rfl rfl (WT rfl (WU rfl rfl (WS rfl (WU rfl rfl (WT rfl WR))))) rfl rfl) <| Q1 <| Q2 <| Q2 <| Q0 <| Wn rfl rfl rfl <| Wm rfl rfl rfl (Q8 rfl rfl rfl) <| Q3 <| Q1 ?_
 refine Qe rfl (fun h => nomatch h) (fun _ => ?_)
 refine Qi <| Q1 <| Q2 <| Q0 <| Wo rfl rfl rfl <| Q3 <| Q1 <| Q2 <| Q2 <| Q0 <| Wn rfl rfl rfl <| Wm rfl rfl rfl (Ya Jo rfl) <| Wn rfl rfl rfl <| Q3 ?_
 refine Q1 <| Qc ?_
 refine QI 0 (fun (o44 : (List U3)) => ⟨[(9, .v (.one (WN 11 o44)))], [(0, .cells 48 (Q9 a0)), (1, .cells 72 [WN 4 y1.1, .mp 2]), (2, .mp (QL y1.2.1) y1.2.2), (5, .cells 72 [WN 4 y1.1, .mp 2]), (8, .cells 4 (Q9 y34))], [(4, some ⟨54, 1, (Enc.encL y1.1).length, []⟩), (11, some ⟨9, 1, (Enc.encL o44).length, []⟩)], 12, 49, []⟩) (fun (o44 : (List U3)) => (some (o44, 0)) = some r) ?_ ?_
 refine JW (t := 9) 9 1 rfl ?_
 refine Qb h0 (fun o45 hl1 h0 => ?_)
 refine QH (m12o_l5 nn a0 y34 x32) (fun s1 => ⟨[(8, .v (.one (.osl 8 0 ((x32.length : Int).toNat) ((x32.length : Int).toNat)))), (9, .v (.one (WN 11 s1.1))), (32, .v (.one (.osl 0 0 nn nn))), (33, .v (.one (WL ((nn : Nat) : Int)))), (34, .v (.one (WL s1.2)))], [(0, .cells 48 (Q9 a0)), (1, .cells 72 [WN 4 y1.1, .mp 2]), (2, .mp (QL y1.2.1) y1.2.2), (5, .cells 72 [WN 4 y1.1, .mp 2]), (8, .cells 4 (Q9 y34))], [(4, some ⟨54, 1, (Enc.encL y1.1).length, []⟩), (11, some ⟨9, 1, (Enc.encL s1.1).length, []⟩)], 12, 49, []⟩) (([] : List U3), 0) o45 (Qf (Wi rfl (Wi rfl (Wi rfl (Wi rfl (Wi rfl Wh))))) (WD rfl (WD rfl (WD rfl (WD rfl (WD rfl WC))))) (Wz rfl (Wz rfl Wy)) rfl (Nat.le_trans hv0 (Wx rfl)) rfl rfl rfl (WT rfl (WU rfl rfl (WS rfl (WU rfl rfl (WT rfl WR))))) rfl rfl) hl1 (fun s1 n1 oo1 h1 ho1 => ?_)
 unfold m12o_l5 at h1
 refine Q2 <| Q0 <| Wm rfl rfl rfl (Q8 rfl rfl rfl) <| Q3 <| Q1 <| Q2 ?_
 refine Qe (b := (decide (s1.2 < ((nn : Nat) : Int)))) rfl (fun c46 => ?_) (fun c46 => ?_)
 replace h1 := Qq c46 h1
 refine Qi <| Q1 <| Q2 <| Qc <| Q2 <| Q0 <| Wn rfl rfl rfl ?_
 refine Qb h1 (fun x47 hx47 h1 => ?_)
 refine QS h1 (fun g48 h1 => ?_)
 refine Wm rfl rfl rfl (Jp (α := Dcl) Jo rfl rfl hx47 g48) <| Wm rfl rfl rfl (Yu (α := Dcl) (ys := [WL x47.kind, Z4 x47.name, WL x47.params, WL x47.ty.kind, WL x47.ty.index, Z4 x47.ty.name, WJ x47.ty.levels, WJ x47.ty.kids, WL x47.value.kind, WL x47.value.index, Z4 x47.value.name, WJ x47.value.levels, WJ x47.value.kids, WL x47.fixed, WJ x47.ctors, WL x47.rcr.params, WL x47.rcr.ty.kind, WL x47.rcr.ty.index, Z4 x47.rcr.ty.name, WJ x47.rcr.ty.levels, WJ x47.rcr.ty.kids, WJ x47.rcr.rules, WJ x47.funs]) Jg rfl rfl hx47 rfl) <| Qa rfl rfl (Wx rfl) (Qp ZU rfl) <| Wo rfl rfl rfl <| QJ rfl rfl (J6 (x47 : Dcl) Jg rfl rfl rfl rfl rfl) <| Q3 <| Q1 <| Q2 <| Q0 <| Wn rfl rfl rfl <| Wn rfl rfl rfl ?_
 refine Qb h1 (fun x49 hx49 h1 => ?_)
 refine QS h1 (fun g50 h1 => ?_)
 refine Wm rfl rfl rfl (Jp (α := Bool) Zo rfl rfl hx49 g50) <| Wm rfl rfl rfl (YS (α := Bool) (m := s1.2) (f := 0) Gt rfl rfl hx49 rfl) <| Q3 <| Q1 ?_
 refine Qe (b := x49) rfl (fun c51 => ?_) (fun c51 => ?_)
 replace h1 := Qq c51 h1
 refine Q0 <| Wn rfl rfl rfl <| Wm rfl rfl rfl (JA (x47 : Dcl) Jg rfl rfl) ?_
 refine Qb h1 (fun x52 hx52 h1 => ?_)
 refine Qa rfl rfl (Wx rfl) (Qn (Ki x47 x52 hx52) rfl (.cons (.agg (.cons (.d _) (.cons (.d _) (.cons (.d _) (.cons (.d _) (.cons (.d _) (.cons (.d _) (.cons (.d _) (.cons (.d _) (.cons (.d _) (.cons (.d _) (.cons (.d _) (.cons (.d _) (.cons (.d _) (.cons (.d _) (.cons (.d _) (.cons (.d _) (.cons (.d _) (.cons (.d _) (.cons (.d _) (.cons (.d _) (.cons (.d _) (.cons (.d _) (.cons (.d _) .nil)))))))))))))))))))))))) .nil)) ?_
 refine QS h1 (fun g53 h1 => ?_)
 refine Qa rfl rfl (Wx rfl) (QW (α := U3) J1 G7 rfl rfl rfl rfl rfl (.d _) g53) <| Wo rfl rfl rfl <| Q3 <| Qj <| Q1 <| Q0 <| Wm rfl rfl rfl (Q8 rfl rfl rfl) <| Wn rfl rfl rfl <| Q3 ?_
 have e := Wk h1; subst e
 refine QD ((s1.1 ++ x52), (QZ (s1.2 + 1))) (Qf (Wi rfl (Wi rfl (Wi rfl (Wi rfl (Wi rfl Wh))))) (WD rfl (WD rfl (WD rfl (WD rfl (WD rfl WC))))) (Wz rfl (Wz rfl Wy)) rfl (Nat.le_trans hv0 (Wx rfl)) rfl rfl rfl (WT rfl (WU rfl rfl (WS rfl (WU rfl rfl (WT rfl WR))))) rfl rfl) ho1
 replace h1 := Qr c51 h1
 refine Qi <| Qj <| Q1 <| Q0 <| Wm rfl rfl rfl (Q8 rfl rfl rfl) <| Wn rfl rfl rfl <| Q3 ?_
 have e := Wk h1; subst e
 refine QD (s1.1, (QZ (s1.2 + 1))) (Qf (Wi rfl (Wi rfl (Wi rfl (Wi rfl (Wi rfl Wh))))) (WD rfl (WD rfl (WD rfl (WD rfl (WD rfl WC))))) (Wz rfl (Wz rfl Wy)) rfl (Nat.le_trans hv0 (Wx rfl)) rfl rfl rfl (WT rfl (WU rfl rfl (WS rfl (WU rfl rfl (WT rfl WR))))) rfl rfl) ho1
 replace h1 := Qr c46 h1
 refine QM <| Qd <| Qd ?_
 have e := Wk h1; subst e
 have e_ : _ = _ := ho1
 subst e_
 exact QG s1.1 (Qf (Wi rfl Wh) (WD rfl (WD rfl (WD rfl (WD rfl (WD rfl WC))))) (Wz rfl (Wz rfl Wy)) rfl (Nat.le_trans hv0 (Wx rfl)) rfl rfl rfl (WT rfl (WU rfl rfl (WS rfl (WU rfl rfl (WT rfl WR))))) rfl rfl) h0
 intro o44 h0
 refine QB <| Q1 <| Q2 <| Q0 <| Wn rfl rfl rfl <| Wo rfl rfl rfl <| Wo rfl rfl rfl <| Q3 <| Q1 <| Qz ?_
 have e := Wk h0; subst e
 exact hQ0 _ _ _ (.inr rfl) rfl (Qf (Wj rfl (.sub (.app _ _ _)) (Wi rfl Wh)) (WD rfl WC) Wy rfl (Nat.le_trans hv0 (Wx rfl)) rfl rfl rfl (WT rfl WR) rfl rfl)
 replace hc4 : CallM Try.prog 34 [.one (.osl 0 0 nn nn)] ⟨[(0, .cells 48 (Q9 a0))], [], 1⟩ (QA [.agg [WK, .d (.v (.map none))], .one (WL 8)]) ⟨[(0, .cells 48 (Q9 a0)), (1, .cells 72 [WK, .d (.v (.map none))])], [], 5⟩ := hc4
 refine Qa rfl rfl (Wx rfl) (QT rfl rfl rfl hc4 rfl (WD rfl WC) Wy) <| Wn rfl rfl rfl <| Wm rfl rfl rfl (Qg rfl rfl) <| Wm rfl rfl rfl (Qg rfl rfl) <| Qa rfl rfl (Wx rfl) (Qp YT rfl) <| QJ rfl rfl (Ql J8 rfl rfl rfl rfl (Wx rfl) rfl) <| Wo rfl rfl rfl <| Q3 <| Q1 <| Q2 <| Q2 <| Q0 <| Wn rfl rfl rfl <| Wm rfl rfl rfl (Q8 rfl rfl rfl) ?_
 refine Q3 <| Q1 ?_
 refine Qe rfl (fun _ => ?_) (fun h => nomatch h)
 refine Q2 <| Q0 <| Wn rfl rfl rfl <| Wo rfl rfl rfl <| Wo rfl rfl rfl <| Q3 <| Q1 <| Qz ?_
 have e := Wk h0; subst e
 exact hQ0 _ _ _ (.inr rfl) rfl (Qf (Wj rfl (.sub (.nil _)) (Wi rfl Wh)) (WD rfl WC) Wy rfl (Nat.le_trans hv0 (Wx rfl)) rfl rfl rfl (WT rfl WR) rfl rfl)
 replace hc4 : CallM Try.prog 34 [.one (.osl 0 0 nn nn)] ⟨[(0, .cells 48 (Q9 a0))], [], 1⟩ (QA [.agg [WK, .d (.v (.map none))], .one (WL 9)]) ⟨[(0, .cells 48 (Q9 a0)), (1, .cells 72 [WK, .d (.v (.map none))])], [], 7⟩ := hc4
 refine Qa rfl rfl (Wx rfl) (QT rfl rfl rfl hc4 rfl (WD rfl WC) Wy) <| Wn rfl rfl rfl <| Wm rfl rfl rfl (Qg rfl rfl) <| Wm rfl rfl rfl (Qg rfl rfl) <| Qa rfl rfl (Wx rfl) (Qp YT rfl) <| QJ rfl rfl (Ql J8 rfl rfl rfl rfl (Wx rfl) rfl) <| Wo rfl rfl rfl <| Q3 <| Q1 <| Q2 <| Q2 <| Q0 <| Wn rfl rfl rfl <| Wm rfl rfl rfl (Q8 rfl rfl rfl) ?_
 refine Q3 <| Q1 ?_
 refine Qe rfl (fun _ => ?_) (fun h => nomatch h)
 refine Q2 <| Q0 <| Wn rfl rfl rfl <| Wo rfl rfl rfl <| Wo rfl rfl rfl <| Q3 <| Q1 <| Qz ?_
 have e := Wk h0; subst e
 exact hQ0 _ _ _ (.inr rfl) rfl (Qf (Wj rfl (.sub (.nil _)) (Wi rfl Wh)) (WD rfl WC) Wy rfl (Nat.le_trans hv0 (Wx rfl)) rfl rfl rfl (WT rfl WR) rfl rfl)
end Go.Proofs.Ytijcchddnnnmdaa
namespace Go.Proofs.Ytijcchddnnnmdaa
open Go.RowKit Go.Shelf
set_option linter.unusedSimpArgs false
set_option linter.unusedVariables false
theorem en_14 : J7 Try.prog 14 := enters_of Try.func14 (by kernel_rfl) rfl
def GH (a0 : List U3) (a1 : List U3) (s1 : Int) : Option (LO Int (Unit ⊕ Bool)) :=
 cond (decide (s1 < (a0.length : Int)))
   (Option.bind (Ja a0 s1) fun (x4 : U3) =>
 Option.bind (Ja a1 s1) fun (x5 : U3) =>
 cond (!(x4 == x5))
   (some (.done (.inr false)))
   (some (.next (QZ (s1 + 1)))))
   (some (.done (.inl ())))
def XS (a0 : List U3) (a1 : List U3) : Option Bool :=
 cond ((a0.length : Int) != (a1.length : Int))
   (some false)
   (Option.bind (Qw (GH a0 a1) QF 0) (Sum.elim (fun (o2 : Unit) => some true) (fun o => some o)))
set_option maxRecDepth 100000 in
set_option maxHeartbeats 2000000 in
theorem m14_ok (a0 : List U3) (a1 : List U3) (r : Bool) (h0 : XS a0 a1 = some r) : Fun Try.prog 14 [.one (WJ a0), .one (WJ a1)] (QA [.one (WM r)]) := by
 unfold XS at h0
 refine QU 9 26 Try.func14 rfl en_14 rfl (Wx rfl) (fun S w => ?_)
 simp only [Jb]
 refine Q2 <| Q0 <| Wo rfl rfl rfl <| Q3 <| Q1 <| Q2 <| Q2 <| Q0 <| Wn rfl rfl rfl <| Wm rfl rfl rfl (QC (α := U3) J1 rfl (.d _)) <| Wn rfl rfl rfl <| Wm rfl rfl rfl (QC (α := U3) J1 rfl (.d _)) <| Wm rfl rfl rfl (Q8 rfl rfl rfl) <| Q3 ?_
 refine Q1 ?_
 refine Qe (b := ((a0.length : Int) != (a1.length : Int))) rfl (fun c1 => ?_) (fun c1 => ?_)
 replace h0 := Qq c1 h0
 refine Q2 <| Q0 <| Wo rfl rfl rfl <| Q3 <| Q1 <| Qz ?_
 have e := Wk h0; subst e
 exact QO (fun _ _ h => h) rfl (Qo rfl .nil) (.cons (.one (.d _)) .nil)
 replace h0 := Qr c1 h0
 refine Qi <| Q1 <| Q2 <| Q2 <| Q0 <| Wn rfl rfl rfl <| Wm rfl rfl rfl (QC (α := U3) J1 rfl (.d _)) <| Wn rfl rfl rfl <| Q3 <| Q1 <| Qc ?_
 refine QI 0 (fun (o2 : Unit) => ⟨[], [], [], 0, 26, []⟩) (fun (o2 : Unit) => (some true) = some r) ?_ ?_
 refine Qb h0 (fun o3 hl1 h0 => ?_)
 refine QH (GH a0 a1) (fun s1 => ⟨[(0, .v (.one (WJ a0))), (1, .v (.one (WJ a1))), (12, .v (.one (WL (a0.length : Int)))), (13, .v (.one (WL s1)))], [], [], 0, 26, []⟩) 0 o3 (Qf (Wi rfl (Wi rfl (Wi rfl (Wi rfl Wh)))) WC Wy rfl (Nat.zero_le _) rfl rfl rfl WR rfl rfl) hl1 (fun s1 n1 oo1 h1 ho1 => ?_)
 unfold GH at h1
 refine Q2 <| Q0 <| Wm rfl rfl rfl (Q8 rfl rfl rfl) <| Q3 <| Q1 <| Q2 ?_
 refine Qe (b := (decide (s1 < (a0.length : Int)))) rfl (fun c4 => ?_) (fun c4 => ?_)
 replace h1 := Qq c4 h1
 refine Qi <| Q1 <| Q2 <| Qc <| Q2 <| Q0 <| Wn rfl rfl rfl <| Wo rfl rfl rfl <| Q3 <| Q1 <| Q2 ?_
 refine JG [] [] mixed (by kernel_rfl) (by kernel_rfl) (by kernel_rfl) ?_
 refine RunA.rd rfl rfl rfl (Q4 (QQ rfl)) rfl <| RunA.rd rfl rfl rfl (Q4 (QQ rfl)) rfl ?_
 refine Qb h1 (fun x5 hx5 h1 => ?_)
 refine RunA.rd rfl rfl rfl (Q4 (Qm (α := U3) J1 rfl (.d _) rfl hx5)) rfl <| RunA.rd rfl rfl rfl (Q4 (QN JT rfl rfl)) rfl <| RunA.rd rfl rfl rfl (Q4 (QQ rfl)) rfl <| RunA.rd rfl rfl rfl (Q4 (QQ rfl)) rfl ?_
 refine Qb h1 (fun x6 hx6 h1 => ?_)
 refine RunA.rd rfl rfl rfl (Q4 (Qm (α := U3) J1 rfl (.d _) rfl hx6)) rfl <| RunA.rd rfl rfl rfl (Q4 (QN JT rfl rfl)) rfl <| RunA.rd rfl rfl rfl (Q4 (GL rfl rfl)) rfl ?_
 refine RunA.nil ⟨?ex, _, _, rfl, ?_⟩
 case ex => exact trivial
 refine JK (st' := ⟨[(0, .v (.one (WJ a0))), (1, .v (.one (WJ a1))), (12, .v (.one (WL (a0.length : Int)))), (13, .v (.one (WL s1))), (24, .v (.one (WM (!(x5 == x6)))))], [], [], 0, 26, []⟩) (Qf (Wi rfl (Wi rfl (Wi rfl (Wi rfl (Wi rfl Wh))))) WC Wy rfl (Nat.zero_le _) rfl rfl rfl WR rfl rfl) <| Q1 ?_
 refine Qe (b := (!(x5 == x6))) rfl (fun c7 => ?_) (fun c7 => ?_)
 replace h1 := Qq c7 h1
 refine Q2 <| Q0 <| Wo rfl rfl rfl <| Q3 <| Q1 <| Qz ?_
 have e := Wk h1; subst e
 have e_ : _ = _ := ho1
 subst e_
 try dsimp only [Sum.elim_inl, Sum.elim_inr] at h0
 have e := Wk h0; subst e
 exact QO (fun _ _ h => h) rfl (Qo rfl .nil) (.cons (.one (.d _)) .nil)
 replace h1 := Qr c7 h1
 refine Qi <| Qj <| Q1 <| Q0 <| Wm rfl rfl rfl (Q8 rfl rfl rfl) <| Wn rfl rfl rfl <| Q3 ?_
 have e := Wk h1; subst e
 refine QD (QZ (s1 + 1)) (Qf (Wi rfl (Wi rfl (Wi rfl (Wi rfl Wh)))) WC Wy rfl (Nat.zero_le _) rfl rfl rfl WR rfl rfl) ho1
 replace h1 := Qr c4 h1
 refine QM <| Qd <| Qd ?_
 have e := Wk h1; subst e
 have e_ : _ = _ := ho1
 subst e_
 exact QG () (Qf Wh WC Wy rfl (Nat.zero_le _) rfl rfl rfl WR rfl rfl) h0
 intro o2 h0
 refine QB <| Q1 <| Q2 <| Q0 <| Wo rfl rfl rfl <| Q3 <| Q1 <| Qz ?_
 have e := Wk h0; subst e
 exact QO (fun _ _ h => h) rfl (Qo rfl .nil) (.cons (.one (.d _)) .nil)
end Go.Proofs.Ytijcchddnnnmdaa
namespace Go.Proofs.Ytijcchddnnnmdaa
open Go.RowKit
set_option linter.unusedSimpArgs false
set_option linter.unusedVariables false
set_option linter.unusedSectionVars false
section
variable {E : Env} {st : St} {d : Option Tmp} {ty : TypeId} {pos : String} {af : Array Edge} {g : Option (Nat × Bool)}
theorem OpOK.litO3 {α : Type} [Enc α] [EncLen α] (v1 v2 v3 : α) {t e : Nat} {zs : List Value} {o1 o2 o3 : Operand} {x1 x2 x3 : AV} {ys : List CA} (ht : J0 E.P t = some (e, Enc.sz α)) (hze : Jk E.P e = some zs) (hzl : zs.length = Enc.sz α) (hz : zs.all (·.oneCell') = true) (hlen : 3 * Enc.sz α ≤ 16777216)
    (h1 : ev st.tm o1 = some (.v x1)) (h2 : ev st.tm o2 = some (.v x2)) (h3 : ev st.tm o3 = some (.v x3)) (hf : YH (JD (Enc.sz α) 3) (Ji zs 3) [(0, x1), (1, x2), (2, x3)] = some ys) (hs : CLs ys (Q9 [v1, v2, v3])) :
    OpOK E ⟨d, .buildSlice t 3 #[(0, o1), (1, o2), (2, o3)], ty, pos, af, g⟩ st (.v (.one (.osl st.nx 0 3 3))) ⟨(st.nx, .cells e (Q9 [v1, v2, v3])) :: st.hp, st.tk, st.nx + 1⟩ := by
  have ok := OpOK.litOsl (E := E) (st := st) (dd := d) (ty := ty) (pos := pos) (af := af) (g := g) (len := 3) (avs := [(0, x1), (1, x2), (2, x3)]) (parts := #[(0, o1), (1, o2), (2, o3)]) ht hze hzl hz hlen rfl (fun j i x hx => by
    match j, hx with
    | 0, hx => cases hx; exact ⟨o1, rfl, h1⟩
    | 1, hx => cases hx; exact ⟨o2, rfl, h2⟩
    | 2, hx => cases hx; exact ⟨o3, rfl, h3⟩) hf
  intro V a w hr ro n K Q hK
  refine ok V a w hr ro n K Q (fun V' w' v H hnx L hx => ?_)
  exact hK V' w' v (H.swapLe (.cells hs)) hnx L hx
theorem OpOK.storeOP {α : Type} [Enc α] [EncLen α] (l' : List α) {t n i off : Nat} {ag : Bool} {T : TypeId} {o1 o2 : Operand} {y y' : AV} {l : List α} (ht : Jl E.P t = some (ag, n)) (h1 : ev st.tm o1 = some (.v (.one (.ptr i off)))) (h2 : ev st.tm o2 = some (.v y)) (hs : ASub y y') (hn : y'.cells.length = n)
    (hi : Ww st.hp i = some (.cells T (Q9 l))) (hoff : Nat.ble (off + n) (l.length * Enc.sz α) = true) (e : setL (Q9 l) off y'.cells = Q9 l') (hdd : d = none) :
    OpOK E ⟨d, .store t o1 o2, ty, pos, af, g⟩ st (.tup []) ⟨(i, .cells T (Q9 l')) :: Jy i st.hp, st.tk, st.nx⟩ := by
  have := OpOK.storeS (E := E) (st := st) (dd := d) (ty := ty) (pos := pos) (af := af) (g := g) ht h1 h2 hs hi hn (by rw [flatE_len]; exact Nat.le_of_ble_eq_true hoff) hdd
  rw [e] at this; exact this
theorem OpOK.data6E {α : Type} [Enc α] (v1 v2 v3 v4 v5 v6 : α) {t e : Nat} {zs : List Value} {o1 o2 o3 o4 o5 o6 : Operand} {x1 x2 x3 x4 x5 x6 : AV} {ys : List CA} (ht : J0 E.P t = some (e, Enc.sz α)) (hze : Jk E.P e = some zs) (hzl : zs.length = Enc.sz α) (hz : zs.all (·.oneCell') = true) (hlen : 6 * Enc.sz α ≤ 16777216)
    (h1 : ev st.tm o1 = some (.v x1)) (h2 : ev st.tm o2 = some (.v x2)) (h3 : ev st.tm o3 = some (.v x3)) (h4 : ev st.tm o4 = some (.v x4)) (h5 : ev st.tm o5 = some (.v x5)) (h6 : ev st.tm o6 = some (.v x6)) (hf : YH (JD (Enc.sz α) 6) (Ji zs 6) [(0, x1), (1, x2), (2, x3), (3, x4), (4, x5), (5, x6)] = some ys) (hs : CSubs ys (Enc.enc v1 ++ (Enc.enc v2 ++ (Enc.enc v3 ++ (Enc.enc v4 ++ (Enc.enc v5 ++ (Enc.enc v6))))))) (hel : (Enc.enc v1).length = Enc.sz α ∧ (Enc.enc v2).length = Enc.sz α ∧ (Enc.enc v3).length = Enc.sz α ∧ (Enc.enc v4).length = Enc.sz α ∧ (Enc.enc v5).length = Enc.sz α ∧ (Enc.enc v6).length = Enc.sz α) :
    OpOK E ⟨d, .buildSlice t 6 #[(0, o1), (1, o2), (2, o3), (3, o4), (4, o5), (5, o6)], ty, pos, af, g⟩ st (.v (.one (.d (.sl (Enc.sz α) (Enc.encL [v1, v2, v3, v4, v5, v6]))))) ⟨st.hp, st.tk, st.nx⟩ :=
  OpOK.litData (avs := [(0, x1), (1, x2), (2, x3), (3, x4), (4, x5), (5, x6)]) (Enc.encL [v1, v2, v3, v4, v5, v6]) ht hze hzl hz hlen rfl (fun j i x hx => by
    match j, hx with
    | 0, hx => cases hx; exact ⟨o1, rfl, h1⟩
    | 1, hx => cases hx; exact ⟨o2, rfl, h2⟩
    | 2, hx => cases hx; exact ⟨o3, rfl, h3⟩
    | 3, hx => cases hx; exact ⟨o4, rfl, h4⟩
    | 4, hx => cases hx; exact ⟨o5, rfl, h5⟩
    | 5, hx => cases hx; exact ⟨o6, rfl, h6⟩) hf (by rw [Enc.cons, Enc.cons, Enc.cons, Enc.cons, Enc.cons, Enc.one]; simpa using hs) (fun x hx => by
      rw [Enc.cons, Enc.cons, Enc.cons, Enc.cons, Enc.cons, Enc.one] at hx; simp at hx
      rcases hx with rfl | rfl | rfl | rfl | rfl | rfl
      · exact hel.1
      · exact hel.2.1
      · exact hel.2.2.1
      · exact hel.2.2.2.1
      · exact hel.2.2.2.2.1
      · exact hel.2.2.2.2.2) (by rw [Enc.len]; rfl)
end
end Go.Proofs.Ytijcchddnnnmdaa
namespace Go.Proofs.Ytijcchddnnnmdaa
open Go.RowKit Go.Shelf
set_option linter.unusedSimpArgs false
set_option linter.unusedVariables false
theorem Xc : J0 Try.prog 39 = some (102, 2) := by kernel_rfl
theorem z_102 : Jk Try.prog 102 = some [.int .i64 0, .slice none 0 0] := by kernel_rfl
theorem bd_42 : Yl Try.prog 42 [(0, 1), (1, 1), (2, 1), (3, 1), (4, 1)] [.int .i64 0, .int .i64 0, .string ByteArray.empty, .slice none 0 0, .slice none 0 0] := ⟨by kernel_rfl, by kernel_rfl⟩
theorem bd_48 : Yl Try.prog 48 [(0, 1), (1, 1), (2, 1), (3, 5), (8, 5), (13, 1), (14, 1), (15, 7), (22, 1)] [.int .i64 0, .string ByteArray.empty, .int .i64 0, .int .i64 0, .int .i64 0, .string ByteArray.empty, .slice none 0 0, .slice none 0 0, .int .i64 0, .int .i64 0, .string ByteArray.empty, .slice none 0 0, .slice none 0 0, .int .i64 0, .slice none 0 0, .int .i64 0, .int .i64 0, .int .i64 0, .string ByteArray.empty, .slice none 0 0, .slice none 0 0, .slice none 0 0, .slice none 0 0] := ⟨by kernel_rfl, by kernel_rfl⟩
theorem bd_84 : Yl Try.prog 84 [(0, 1), (1, 5)] [.string ByteArray.empty, .int .i64 0, .int .i64 0, .string ByteArray.empty, .slice none 0 0, .slice none 0 0] := ⟨by kernel_rfl, by kernel_rfl⟩
theorem bd_102 : Yl Try.prog 102 [(0, 1), (1, 1)] [.int .i64 0, .slice none 0 0] := ⟨by kernel_rfl, by kernel_rfl⟩
theorem en_11 : J7 Try.prog 11 := enters_of Try.func11 (by kernel_rfl) rfl
theorem en_33 : J7 Try.prog 33 := enters_of Try.func33 (by kernel_rfl) rfl
def X3  : Option Bool :=
 Option.bind (some ()) (fun (y1 : Unit) => Option.bind (m23o ([(⟨0, ([112, 108, 117, 115] : List UInt8), 0, (Tm.mk 3 0 ([78, 97, 116] : List UInt8) ([] : List Lvl) ([] : List Tm)), (Tm.mk 0 0 ([] : List UInt8) ([] : List Lvl) ([] : List Tm)), 0, ([] : List Ctr), (⟨0, (Tm.mk 0 0 ([] : List UInt8) ([] : List Lvl) ([] : List Tm)), ([] : List Tm)⟩ : Rcr), ([] : List Fn)⟩ : Dcl), (⟨3, ([78, 97, 116] : List UInt8), 0, (Tm.mk 2 0 ([] : List UInt8) [(⟨0, ([] : List U0)⟩ : Lvl)] ([] : List Tm)), (Tm.mk 0 0 ([] : List UInt8) ([] : List Lvl) ([] : List Tm)), 0, [(⟨([78, 97, 116, 46, 122, 101, 114, 111] : List UInt8), (Tm.mk 3 0 ([78, 97, 116] : List UInt8) ([] : List Lvl) ([] : List Tm))⟩ : Ctr), (⟨([78, 97, 116, 46, 115, 117, 99, 99] : List UInt8), (Tm.mk 3 0 ([78, 97, 116] : List UInt8) ([] : List Lvl) ([] : List Tm))⟩ : Ctr)], (⟨0, (Tm.mk 0 0 ([] : List UInt8) ([] : List Lvl) ([] : List Tm)), ([] : List Tm)⟩ : Rcr), ([] : List Fn)⟩ : Dcl), (⟨1, ([116, 119, 111] : List UInt8), 0, (Tm.mk 3 0 ([78, 97, 116] : List UInt8) ([] : List Lvl) ([] : List Tm)), (Tm.mk 3 0 ([78, 97, 116, 46, 122, 101, 114, 111] : List UInt8) ([] : List Lvl) ([] : List Tm)), 0, ([] : List Ctr), (⟨0, (Tm.mk 0 0 ([] : List UInt8) ([] : List Lvl) ([] : List Tm)), ([] : List Tm)⟩ : Rcr), ([] : List Fn)⟩ : Dcl)]) 3) fun (x3 : (List (List Int)) × Int) =>
 Option.bind (m22o ([(⟨0, ([112, 108, 117, 115] : List UInt8), 0, (Tm.mk 3 0 ([78, 97, 116] : List UInt8) ([] : List Lvl) ([] : List Tm)), (Tm.mk 0 0 ([] : List UInt8) ([] : List Lvl) ([] : List Tm)), 0, ([] : List Ctr), (⟨0, (Tm.mk 0 0 ([] : List UInt8) ([] : List Lvl) ([] : List Tm)), ([] : List Tm)⟩ : Rcr), ([] : List Fn)⟩ : Dcl), (⟨3, ([78, 97, 116] : List UInt8), 0, (Tm.mk 2 0 ([] : List UInt8) [(⟨0, ([] : List U0)⟩ : Lvl)] ([] : List Tm)), (Tm.mk 0 0 ([] : List UInt8) ([] : List Lvl) ([] : List Tm)), 0, [(⟨([78, 97, 116, 46, 122, 101, 114, 111] : List UInt8), (Tm.mk 3 0 ([78, 97, 116] : List UInt8) ([] : List Lvl) ([] : List Tm))⟩ : Ctr), (⟨([78, 97, 116, 46, 115, 117, 99, 99] : List UInt8), (Tm.mk 3 0 ([78, 97, 116] : List UInt8) ([] : List Lvl) ([] : List Tm))⟩ : Ctr)], (⟨0, (Tm.mk 0 0 ([] : List UInt8) ([] : List Lvl) ([] : List Tm)), ([] : List Tm)⟩ : Rcr), ([] : List Fn)⟩ : Dcl), (⟨1, ([116, 119, 111] : List UInt8), 0, (Tm.mk 3 0 ([78, 97, 116] : List UInt8) ([] : List Lvl) ([] : List Tm)), (Tm.mk 3 0 ([78, 97, 116, 46, 122, 101, 114, 111] : List UInt8) ([] : List Lvl) ([] : List Tm)), 0, ([] : List Ctr), (⟨0, (Tm.mk 0 0 ([] : List UInt8) ([] : List Lvl) ([] : List Tm)), ([] : List Tm)⟩ : Rcr), ([] : List Fn)⟩ : Dcl)]) 3) fun (x4 : (List Int) × Int) =>
 Option.bind (m12o ([(⟨0, ([112, 108, 117, 115] : List UInt8), 0, (Tm.mk 3 0 ([78, 97, 116] : List UInt8) ([] : List Lvl) ([] : List Tm)), (Tm.mk 0 0 ([] : List UInt8) ([] : List Lvl) ([] : List Tm)), 0, ([] : List Ctr), (⟨0, (Tm.mk 0 0 ([] : List UInt8) ([] : List Lvl) ([] : List Tm)), ([] : List Tm)⟩ : Rcr), ([] : List Fn)⟩ : Dcl), (⟨3, ([78, 97, 116] : List UInt8), 0, (Tm.mk 2 0 ([] : List UInt8) [(⟨0, ([] : List U0)⟩ : Lvl)] ([] : List Tm)), (Tm.mk 0 0 ([] : List UInt8) ([] : List Lvl) ([] : List Tm)), 0, [(⟨([78, 97, 116, 46, 122, 101, 114, 111] : List UInt8), (Tm.mk 3 0 ([78, 97, 116] : List UInt8) ([] : List Lvl) ([] : List Tm))⟩ : Ctr), (⟨([78, 97, 116, 46, 115, 117, 99, 99] : List UInt8), (Tm.mk 3 0 ([78, 97, 116] : List UInt8) ([] : List Lvl) ([] : List Tm))⟩ : Ctr)], (⟨0, (Tm.mk 0 0 ([] : List UInt8) ([] : List Lvl) ([] : List Tm)), ([] : List Tm)⟩ : Rcr), ([] : List Fn)⟩ : Dcl), (⟨1, ([116, 119, 111] : List UInt8), 0, (Tm.mk 3 0 ([78, 97, 116] : List UInt8) ([] : List Lvl) ([] : List Tm)), (Tm.mk 3 0 ([78, 97, 116, 46, 122, 101, 114, 111] : List UInt8) ([] : List Lvl) ([] : List Tm)), 0, ([] : List Ctr), (⟨0, (Tm.mk 0 0 ([] : List UInt8) ([] : List Lvl) ([] : List Tm)), ([] : List Tm)⟩ : Rcr), ([] : List Fn)⟩ : Dcl)]) ([([78, 97, 116] : List UInt8)]) 3) fun (x5 : (List U3) × Int) =>
 Option.bind (m15o ([(⟨0, ([112, 108, 117, 115] : List UInt8), 0, (Tm.mk 3 0 ([78, 97, 116] : List UInt8) ([] : List Lvl) ([] : List Tm)), (Tm.mk 0 0 ([] : List UInt8) ([] : List Lvl) ([] : List Tm)), 0, ([] : List Ctr), (⟨0, (Tm.mk 0 0 ([] : List UInt8) ([] : List Lvl) ([] : List Tm)), ([] : List Tm)⟩ : Rcr), ([] : List Fn)⟩ : Dcl), (⟨3, ([78, 97, 116] : List UInt8), 0, (Tm.mk 2 0 ([] : List UInt8) [(⟨0, ([] : List U0)⟩ : Lvl)] ([] : List Tm)), (Tm.mk 0 0 ([] : List UInt8) ([] : List Lvl) ([] : List Tm)), 0, [(⟨([78, 97, 116, 46, 122, 101, 114, 111] : List UInt8), (Tm.mk 3 0 ([78, 97, 116] : List UInt8) ([] : List Lvl) ([] : List Tm))⟩ : Ctr), (⟨([78, 97, 116, 46, 115, 117, 99, 99] : List UInt8), (Tm.mk 3 0 ([78, 97, 116] : List UInt8) ([] : List Lvl) ([] : List Tm))⟩ : Ctr)], (⟨0, (Tm.mk 0 0 ([] : List UInt8) ([] : List Lvl) ([] : List Tm)), ([] : List Tm)⟩ : Rcr), ([] : List Fn)⟩ : Dcl), (⟨1, ([116, 119, 111] : List UInt8), 0, (Tm.mk 3 0 ([78, 97, 116] : List UInt8) ([] : List Lvl) ([] : List Tm)), (Tm.mk 3 0 ([78, 97, 116, 46, 122, 101, 114, 111] : List UInt8) ([] : List Lvl) ([] : List Tm)), 0, ([] : List Ctr), (⟨0, (Tm.mk 0 0 ([] : List UInt8) ([] : List Lvl) ([] : List Tm)), ([] : List Tm)⟩ : Rcr), ([] : List Fn)⟩ : Dcl)]) ([([116, 119, 111] : List UInt8)]) 3) fun (x6 : (List Dcl) × Int) =>
 Option.bind (Ja ([(⟨0, ([112, 108, 117, 115] : List UInt8), 0, (Tm.mk 3 0 ([78, 97, 116] : List UInt8) ([] : List Lvl) ([] : List Tm)), (Tm.mk 0 0 ([] : List UInt8) ([] : List Lvl) ([] : List Tm)), 0, ([] : List Ctr), (⟨0, (Tm.mk 0 0 ([] : List UInt8) ([] : List Lvl) ([] : List Tm)), ([] : List Tm)⟩ : Rcr), ([] : List Fn)⟩ : Dcl), (⟨3, ([78, 97, 116] : List UInt8), 0, (Tm.mk 2 0 ([] : List UInt8) [(⟨0, ([] : List U0)⟩ : Lvl)] ([] : List Tm)), (Tm.mk 0 0 ([] : List UInt8) ([] : List Lvl) ([] : List Tm)), 0, [(⟨([78, 97, 116, 46, 122, 101, 114, 111] : List UInt8), (Tm.mk 3 0 ([78, 97, 116] : List UInt8) ([] : List Lvl) ([] : List Tm))⟩ : Ctr), (⟨([78, 97, 116, 46, 115, 117, 99, 99] : List UInt8), (Tm.mk 3 0 ([78, 97, 116] : List UInt8) ([] : List Lvl) ([] : List Tm))⟩ : Ctr)], (⟨0, (Tm.mk 0 0 ([] : List UInt8) ([] : List Lvl) ([] : List Tm)), ([] : List Tm)⟩ : Rcr), ([] : List Fn)⟩ : Dcl), (⟨1, ([116, 119, 111] : List UInt8), 0, (Tm.mk 3 0 ([78, 97, 116] : List UInt8) ([] : List Lvl) ([] : List Tm)), (Tm.mk 3 0 ([78, 97, 116, 46, 122, 101, 114, 111] : List UInt8) ([] : List Lvl) ([] : List Tm)), 0, ([] : List Ctr), (⟨0, (Tm.mk 0 0 ([] : List UInt8) ([] : List Lvl) ([] : List Tm)), ([] : List Tm)⟩ : Rcr), ([] : List Fn)⟩ : Dcl)]) 1) fun (x7 : Dcl) =>
 Qy (Nat.beq ([(⟨0, ([112, 108, 117, 115] : List UInt8), 0, (Tm.mk 3 0 ([78, 97, 116] : List UInt8) ([] : List Lvl) ([] : List Tm)), (Tm.mk 0 0 ([] : List UInt8) ([] : List Lvl) ([] : List Tm)), 0, ([] : List Ctr), (⟨0, (Tm.mk 0 0 ([] : List UInt8) ([] : List Lvl) ([] : List Tm)), ([] : List Tm)⟩ : Rcr), ([] : List Fn)⟩ : Dcl), (⟨3, ([78, 97, 116] : List UInt8), 0, (Tm.mk 2 0 ([] : List UInt8) [(⟨0, ([] : List U0)⟩ : Lvl)] ([] : List Tm)), (Tm.mk 0 0 ([] : List UInt8) ([] : List Lvl) ([] : List Tm)), 0, [(⟨([78, 97, 116, 46, 122, 101, 114, 111] : List UInt8), (Tm.mk 3 0 ([78, 97, 116] : List UInt8) ([] : List Lvl) ([] : List Tm))⟩ : Ctr), (⟨([78, 97, 116, 46, 115, 117, 99, 99] : List UInt8), (Tm.mk 3 0 ([78, 97, 116] : List UInt8) ([] : List Lvl) ([] : List Tm))⟩ : Ctr)], (⟨0, (Tm.mk 0 0 ([] : List UInt8) ([] : List Lvl) ([] : List Tm)), ([] : List Tm)⟩ : Rcr), ([] : List Fn)⟩ : Dcl), (⟨1, ([116, 119, 111] : List UInt8), 0, (Tm.mk 3 0 ([78, 97, 116] : List UInt8) ([] : List Lvl) ([] : List Tm)), (Tm.mk 3 0 ([78, 97, 116, 46, 122, 101, 114, 111] : List UInt8) ([] : List Lvl) ([] : List Tm)), 0, ([] : List Ctr), (⟨0, (Tm.mk 0 0 ([] : List UInt8) ([] : List Lvl) ([] : List Tm)), ([] : List Tm)⟩ : Rcr), ([] : List Fn)⟩ : Dcl)]).length 3)
 (Option.bind (m22o ([(⟨0, ([112, 108, 117, 115] : List UInt8), 0, (Tm.mk 3 0 ([78, 97, 116] : List UInt8) ([] : List Lvl) ([] : List Tm)), (Tm.mk 0 0 ([] : List UInt8) ([] : List Lvl) ([] : List Tm)), 0, ([] : List Ctr), (⟨0, (Tm.mk 0 0 ([] : List UInt8) ([] : List Lvl) ([] : List Tm)), ([] : List Tm)⟩ : Rcr), ([] : List Fn)⟩ : Dcl), (⟨3, ([78, 97, 116] : List UInt8), 0, (Tm.mk 2 0 ([] : List UInt8) [(⟨0, ([] : List U0)⟩ : Lvl)] ([] : List Tm)), (Tm.mk 3 0 ([116, 119, 111] : List UInt8) [] []), 0, [(⟨([78, 97, 116, 46, 122, 101, 114, 111] : List UInt8), (Tm.mk 3 0 ([78, 97, 116] : List UInt8) ([] : List Lvl) ([] : List Tm))⟩ : Ctr), (⟨([78, 97, 116, 46, 115, 117, 99, 99] : List UInt8), (Tm.mk 3 0 ([78, 97, 116] : List UInt8) ([] : List Lvl) ([] : List Tm))⟩ : Ctr)], (⟨0, (Tm.mk 0 0 ([] : List UInt8) ([] : List Lvl) ([] : List Tm)), ([] : List Tm)⟩ : Rcr), ([] : List Fn)⟩ : Dcl), (⟨1, ([116, 119, 111] : List UInt8), 0, (Tm.mk 3 0 ([78, 97, 116] : List UInt8) ([] : List Lvl) ([] : List Tm)), (Tm.mk 3 0 ([78, 97, 116, 46, 122, 101, 114, 111] : List UInt8) ([] : List Lvl) ([] : List Tm)), 0, ([] : List Ctr), (⟨0, (Tm.mk 0 0 ([] : List UInt8) ([] : List Lvl) ([] : List Tm)), ([] : List Tm)⟩ : Rcr), ([] : List Fn)⟩ : Dcl)]) 3) fun (x9 : (List Int) × Int) =>
 Option.bind (cond (x3.2 != 0)
   (some true)
   (cond (x4.2 != 0)
   (some true)
   (cond (x5.2 != 0)
   (some true)
   (cond (x6.2 != 0)
   (some true)
   (cond (x9.2 != 22)
   (some true)
   (cond ((x3.1.length : Int) != 3)
   (some true)
   (some ((x6.1.length : Int) != 2)))))))) (fun (v10 : Bool) => cond v10
   (some false)
   (Option.bind (Option.bind (Ja x3.1 0) fun (x13 : List Int) =>
 Option.bind (XY x13 ([1])) fun (x14 : Bool) =>
 cond x14
   (Option.bind (Ja x3.1 1) fun (x16 : List Int) =>
 cond ((x16.length : Int) == 0)
   (Option.bind (Ja x3.1 2) fun (x18 : List Int) =>
 Option.bind (XY x18 ([1])) fun (x19 : Bool) =>
 cond x19
   (Option.bind (XY x4.1 ([1, 0, 2])) fun (x21 : Bool) =>
 cond x21
   (Option.bind (XS x5.1 ([([112, 108, 117, 115] : List UInt8), ([78, 97, 116] : List UInt8), ([78, 97, 116, 46, 122, 101, 114, 111] : List UInt8), ([78, 97, 116, 46, 115, 117, 99, 99] : List UInt8), ([78, 97, 116, 46, 114, 101, 99] : List UInt8), ([116, 119, 111] : List UInt8)])) fun (x23 : Bool) =>
 cond x23
   (Option.bind (Ja x6.1 0) fun (x25 : Dcl) =>
 cond (x25.name == ([78, 97, 116] : List UInt8))
   (Option.bind (Ja x6.1 1) fun (x27 : Dcl) =>
 some (x27.name == ([116, 119, 111] : List UInt8)))
   (some false))
   (some false))
   (some false))
   (some false))
   (some false))
   (some false)) (fun (v12 : Bool) => some v12)))))
set_option maxRecDepth 100000 in
set_option maxHeartbeats 2000000 in
theorem m11_ok  (r : Bool) (h0 : X3  = some r) : Fun Try.prog 11 [] (QA [.one (WM r)]) := by
 unfold X3 at h0
 refine QU 9 115 Try.func11 rfl en_11 rfl (Wx rfl) (fun S w => ?_)
 simp only [Jb]
 refine Q2 <| Q0 <| Wo rfl rfl rfl <| Q3 <| Q1 <| Q2 <| Q0 ?_
 refine Qb h0 (fun y1 h1 h0 => ?_)
 have hc2 : CallM Try.prog 33 [] ⟨[], [], 0⟩ (QA [.one (.osl 5 0 3 3)]) ⟨[(5, .cells 48 (Q9 ([(⟨0, ([112, 108, 117, 115] : List UInt8), 0, (Tm.mk 3 0 ([78, 97, 116] : List UInt8) ([] : List Lvl) ([] : List Tm)), (Tm.mk 0 0 ([] : List UInt8) ([] : List Lvl) ([] : List Tm)), 0, ([] : List Ctr), (⟨0, (Tm.mk 0 0 ([] : List UInt8) ([] : List Lvl) ([] : List Tm)), ([] : List Tm)⟩ : Rcr), ([] : List Fn)⟩ : Dcl), (⟨3, ([78, 97, 116] : List UInt8), 0, (Tm.mk 2 0 ([] : List UInt8) [(⟨0, ([] : List U0)⟩ : Lvl)] ([] : List Tm)), (Tm.mk 0 0 ([] : List UInt8) ([] : List Lvl) ([] : List Tm)), 0, [(⟨([78, 97, 116, 46, 122, 101, 114, 111] : List UInt8), (Tm.mk 3 0 ([78, 97, 116] : List UInt8) ([] : List Lvl) ([] : List Tm))⟩ : Ctr), (⟨([78, 97, 116, 46, 115, 117, 99, 99] : List UInt8), (Tm.mk 3 0 ([78, 97, 116] : List UInt8) ([] : List Lvl) ([] : List Tm))⟩ : Ctr)], (⟨0, (Tm.mk 0 0 ([] : List UInt8) ([] : List Lvl) ([] : List Tm)), ([] : List Tm)⟩ : Rcr), ([] : List Fn)⟩ : Dcl), (⟨1, ([116, 119, 111] : List UInt8), 0, (Tm.mk 3 0 ([78, 97, 116] : List UInt8) ([] : List Lvl) ([] : List Tm)), (Tm.mk 3 0 ([78, 97, 116, 46, 122, 101, 114, 111] : List UInt8) ([] : List Lvl) ([] : List Tm)), 0, ([] : List Ctr), (⟨0, (Tm.mk 0 0 ([] : List UInt8) ([] : List Lvl) ([] : List Tm)), ([] : List Tm)⟩ : Rcr), ([] : List Fn)⟩ : Dcl)] : List Dcl)))], [], 6⟩ := by
  refine QR ⟨[(0, .v (.one (.osl 5 0 3 3)))], [(5, .cells 48 (Q9 ([(⟨0, ([112, 108, 117, 115] : List UInt8), 0, (Tm.mk 3 0 ([78, 97, 116] : List UInt8) ([] : List Lvl) ([] : List Tm)), (Tm.mk 0 0 ([] : List UInt8) ([] : List Lvl) ([] : List Tm)), 0, ([] : List Ctr), (⟨0, (Tm.mk 0 0 ([] : List UInt8) ([] : List Lvl) ([] : List Tm)), ([] : List Tm)⟩ : Rcr), ([] : List Fn)⟩ : Dcl), (⟨3, ([78, 97, 116] : List UInt8), 0, (Tm.mk 2 0 ([] : List UInt8) [(⟨0, ([] : List U0)⟩ : Lvl)] ([] : List Tm)), (Tm.mk 0 0 ([] : List UInt8) ([] : List Lvl) ([] : List Tm)), 0, [(⟨([78, 97, 116, 46, 122, 101, 114, 111] : List UInt8), (Tm.mk 3 0 ([78, 97, 116] : List UInt8) ([] : List Lvl) ([] : List Tm))⟩ : Ctr), (⟨([78, 97, 116, 46, 115, 117, 99, 99] : List UInt8), (Tm.mk 3 0 ([78, 97, 116] : List UInt8) ([] : List Lvl) ([] : List Tm))⟩ : Ctr)], (⟨0, (Tm.mk 0 0 ([] : List UInt8) ([] : List Lvl) ([] : List Tm)), ([] : List Tm)⟩ : Rcr), ([] : List Fn)⟩ : Dcl), (⟨1, ([116, 119, 111] : List UInt8), 0, (Tm.mk 3 0 ([78, 97, 116] : List UInt8) ([] : List Lvl) ([] : List Tm)), (Tm.mk 3 0 ([78, 97, 116, 46, 122, 101, 114, 111] : List UInt8) ([] : List Lvl) ([] : List Tm)), 0, ([] : List Ctr), (⟨0, (Tm.mk 0 0 ([] : List UInt8) ([] : List Lvl) ([] : List Tm)), ([] : List Tm)⟩ : Rcr), ([] : List Fn)⟩ : Dcl)] : List Dcl)))], [], 6, 22, []⟩ rfl rfl en_33 (Wx rfl) rfl (Qo rfl .nil) (fun w0 M V0 Q hv1 hQ1 => ?_)
  simp only [Jb]
  refine Q2 <| Q0 <| Wo rfl rfl rfl <| Q3 <| Q1 <| Q2 <| Q0 <| Wm rfl rfl rfl (JH bd_42 rfl rfl rfl rfl) <| Qa rfl rfl (Wx rfl) (Qp Xg rfl) <| QJ rfl rfl (Ql Jn rfl rfl rfl rfl (Wx rfl) rfl) <| Q3 <| Q1 <| Q2 <| Q0 ?_
  refine Wm rfl rfl rfl (Y5 bd_102 rfl ) <| Qa rfl rfl (Wx rfl) (J3 (α := Lvl) ((⟨0, ([] : List U0)⟩ : Lvl)) Xc z_102 rfl rfl (Wx rfl) (Wx rfl) rfl rfl (.cons (.d _) (.cons (.nil _) .nil)) rfl) <| Wm rfl rfl rfl (JH bd_42 rfl rfl rfl rfl) <| Qa rfl rfl (Wx rfl) (Qp Xg rfl) <| QJ rfl rfl (Ql Jn rfl rfl rfl rfl (Wx rfl) rfl) <| Q3 <| Q1 <| Q2 <| Q0 <| Wm rfl rfl rfl (Qu Jn rfl rfl rfl rfl) <| Wm rfl rfl rfl (Qu Jn rfl rfl rfl rfl) <| Wm rfl rfl rfl (JH bd_84 rfl rfl rfl rfl) <| Wm rfl rfl rfl (Qu Jn rfl rfl rfl rfl) <| Wm rfl rfl rfl (JH bd_84 rfl rfl rfl rfl) ?_
  refine Qa rfl rfl (Wx rfl) (OpOK.lit2E (α := Ctr) (⟨([78, 97, 116, 46, 122, 101, 114, 111] : List UInt8), (Tm.mk 3 0 ([78, 97, 116] : List UInt8) ([] : List Lvl) ([] : List Tm))⟩ : Ctr) (⟨([78, 97, 116, 46, 115, 117, 99, 99] : List UInt8), (Tm.mk 3 0 ([78, 97, 116] : List UInt8) ([] : List Lvl) ([] : List Tm))⟩ : Ctr) Z3 z_84 rfl rfl (Wx rfl) (Wx rfl) rfl rfl rfl (.cons (.d _) (.cons (.d _) (.cons (.d _) (.cons (.d _) (.cons (.nil _) (.cons (.nil _) (.cons (.d _) (.cons (.d _) (.cons (.d _) (.cons (.d _) (.cons (.nil _) (.cons (.nil _) .nil)))))))))))) ⟨rfl, rfl⟩) <| Wm rfl rfl rfl (RO.buildN bd_48 rfl (.cons rfl (.cons rfl (.cons rfl (.cons rfl .nil)))) rfl) <| Qa rfl rfl (Wx rfl) (Qp ZU rfl) <| QJ rfl rfl (Ql Jg rfl rfl rfl rfl (Wx rfl) rfl) <| Q3 <| Q1 <| Q2 <| Q0 <| Wm rfl rfl rfl (Qu Jn rfl rfl rfl rfl) <| Wm rfl rfl rfl (RO.build3 bd_48 rfl rfl rfl rfl rfl) <| Wm rfl rfl rfl (Qu Jg rfl rfl rfl rfl) <| Wm rfl rfl rfl (Qu Jn rfl rfl rfl rfl) <| Wm rfl rfl rfl (JH bd_42 rfl rfl rfl rfl) <| Wm rfl rfl rfl (RO.buildN bd_48 rfl (.cons rfl (.cons rfl (.cons rfl (.cons rfl .nil)))) rfl) ?_
  refine Qa rfl rfl (Wx rfl) (OpOK.litO3 (α := Dcl) (⟨0, ([112, 108, 117, 115] : List UInt8), 0, (Tm.mk 3 0 ([78, 97, 116] : List UInt8) ([] : List Lvl) ([] : List Tm)), (Tm.mk 0 0 ([] : List UInt8) ([] : List Lvl) ([] : List Tm)), 0, ([] : List Ctr), (⟨0, (Tm.mk 0 0 ([] : List UInt8) ([] : List Lvl) ([] : List Tm)), ([] : List Tm)⟩ : Rcr), ([] : List Fn)⟩ : Dcl) (⟨3, ([78, 97, 116] : List UInt8), 0, (Tm.mk 2 0 ([] : List UInt8) [(⟨0, ([] : List U0)⟩ : Lvl)] ([] : List Tm)), (Tm.mk 0 0 ([] : List UInt8) ([] : List Lvl) ([] : List Tm)), 0, [(⟨([78, 97, 116, 46, 122, 101, 114, 111] : List UInt8), (Tm.mk 3 0 ([78, 97, 116] : List UInt8) ([] : List Lvl) ([] : List Tm))⟩ : Ctr), (⟨([78, 97, 116, 46, 115, 117, 99, 99] : List UInt8), (Tm.mk 3 0 ([78, 97, 116] : List UInt8) ([] : List Lvl) ([] : List Tm))⟩ : Ctr)], (⟨0, (Tm.mk 0 0 ([] : List UInt8) ([] : List Lvl) ([] : List Tm)), ([] : List Tm)⟩ : Rcr), ([] : List Fn)⟩ : Dcl) (⟨1, ([116, 119, 111] : List UInt8), 0, (Tm.mk 3 0 ([78, 97, 116] : List UInt8) ([] : List Lvl) ([] : List Tm)), (Tm.mk 3 0 ([78, 97, 116, 46, 122, 101, 114, 111] : List UInt8) ([] : List Lvl) ([] : List Tm)), 0, ([] : List Ctr), (⟨0, (Tm.mk 0 0 ([] : List UInt8) ([] : List Lvl) ([] : List Tm)), ([] : List Tm)⟩ : Rcr), ([] : List Fn)⟩ : Dcl) Jo ZU rfl rfl (Wx rfl) rfl rfl rfl rfl (.cons (.refl _) (.cons (.refl _) (.cons (.refl _) (.cons (.refl _) (.cons (.refl _) (.cons (.refl _) (.cons (.sub (.nil _)) (.cons (.sub (.nil _)) (.cons (.refl _) (.cons (.refl _) (.cons (.refl _) (.cons (.sub (.nil _)) (.cons (.sub (.nil _)) (.cons (.refl _) (.cons (.sub (.nil _)) (.cons (.refl _) (.cons (.refl _) (.cons (.refl _) (.cons (.refl _) (.cons (.sub (.nil _)) (.cons (.sub (.nil _)) (.cons (.sub (.nil _)) (.cons (.sub (.nil _)) (.cons (.refl _) (.cons (.refl _) (.cons (.refl _) (.cons (.refl _) (.cons (.refl _) (.cons (.refl _) (.cons (.sub (.app _ _ _)) (.cons (.sub (.nil _)) (.cons (.refl _) (.cons (.refl _) (.cons (.refl _) (.cons (.sub (.nil _)) (.cons (.sub (.nil _)) (.cons (.refl _) (.cons (.sub (.app _ _ _)) (.cons (.refl _) (.cons (.refl _) (.cons (.refl _) (.cons (.refl _) (.cons (.sub (.nil _)) (.cons (.sub (.nil _)) (.cons (.sub (.nil _)) (.cons (.sub (.nil _)) (.cons (.refl _) (.cons (.refl _) (.cons (.refl _) (.cons (.refl _) (.cons (.refl _) (.cons (.refl _) (.cons (.sub (.nil _)) (.cons (.sub (.nil _)) (.cons (.refl _) (.cons (.refl _) (.cons (.refl _) (.cons (.sub (.nil _)) (.cons (.sub (.nil _)) (.cons (.refl _) (.cons (.sub (.nil _)) (.cons (.refl _) (.cons (.refl _) (.cons (.refl _) (.cons (.refl _) (.cons (.sub (.nil _)) (.cons (.sub (.nil _)) (.cons (.sub (.nil _)) (.cons (.sub (.nil _)) .nil)))))))))))))))))))))))))))))))))))))))))))))))))))))))))))))))))))))) <| Wo rfl rfl rfl <| Q3 <| Q1 <| Qz ?_
  have e := Wk h1; subst e
  exact hQ1 _ _ _ (.inr rfl) rfl (Qf (Wi rfl Wh) (WD rfl WC) Wy rfl (Nat.le_trans hv1 (Wx rfl)) rfl rfl rfl (WT rfl WR) rfl rfl)
 refine Qa rfl rfl (Wx rfl) (QT rfl rfl rfl hc2 rfl WC Wy) <| Wo rfl rfl rfl <| Q3 <| Q1 <| Q2 <| Q0 <| Wn rfl rfl rfl ?_
 refine Qb h0 (fun x3 hx3 h0 => ?_)
 refine Qa rfl rfl (Wx rfl) (ZQ (b := 5) (m23o_ok ([(⟨0, ([112, 108, 117, 115] : List UInt8), 0, (Tm.mk 3 0 ([78, 97, 116] : List UInt8) ([] : List Lvl) ([] : List Tm)), (Tm.mk 0 0 ([] : List UInt8) ([] : List Lvl) ([] : List Tm)), 0, ([] : List Ctr), (⟨0, (Tm.mk 0 0 ([] : List UInt8) ([] : List Lvl) ([] : List Tm)), ([] : List Tm)⟩ : Rcr), ([] : List Fn)⟩ : Dcl), (⟨3, ([78, 97, 116] : List UInt8), 0, (Tm.mk 2 0 ([] : List UInt8) [(⟨0, ([] : List U0)⟩ : Lvl)] ([] : List Tm)), (Tm.mk 0 0 ([] : List UInt8) ([] : List Lvl) ([] : List Tm)), 0, [(⟨([78, 97, 116, 46, 122, 101, 114, 111] : List UInt8), (Tm.mk 3 0 ([78, 97, 116] : List UInt8) ([] : List Lvl) ([] : List Tm))⟩ : Ctr), (⟨([78, 97, 116, 46, 115, 117, 99, 99] : List UInt8), (Tm.mk 3 0 ([78, 97, 116] : List UInt8) ([] : List Lvl) ([] : List Tm))⟩ : Ctr)], (⟨0, (Tm.mk 0 0 ([] : List UInt8) ([] : List Lvl) ([] : List Tm)), ([] : List Tm)⟩ : Rcr), ([] : List Fn)⟩ : Dcl), (⟨1, ([116, 119, 111] : List UInt8), 0, (Tm.mk 3 0 ([78, 97, 116] : List UInt8) ([] : List Lvl) ([] : List Tm)), (Tm.mk 3 0 ([78, 97, 116, 46, 122, 101, 114, 111] : List UInt8) ([] : List Lvl) ([] : List Tm)), 0, ([] : List Ctr), (⟨0, (Tm.mk 0 0 ([] : List UInt8) ([] : List Lvl) ([] : List Tm)), ([] : List Tm)⟩ : Rcr), ([] : List Fn)⟩ : Dcl)]) 3 x3 hx3) rfl (.osl .nil) rfl rfl rfl) <| Wn rfl rfl rfl <| Wm rfl rfl rfl (Qg rfl rfl) <| Wm rfl rfl rfl (Qg rfl rfl) <| Wo rfl rfl rfl <| Wo rfl rfl rfl <| Q3 <| Q1 <| Q2 <| Q0 <| Wn rfl rfl rfl ?_
 refine Qb h0 (fun x4 hx4 h0 => ?_)
 refine Qa rfl rfl (Wx rfl) (ZQ (b := 5) (m22o_ok ([(⟨0, ([112, 108, 117, 115] : List UInt8), 0, (Tm.mk 3 0 ([78, 97, 116] : List UInt8) ([] : List Lvl) ([] : List Tm)), (Tm.mk 0 0 ([] : List UInt8) ([] : List Lvl) ([] : List Tm)), 0, ([] : List Ctr), (⟨0, (Tm.mk 0 0 ([] : List UInt8) ([] : List Lvl) ([] : List Tm)), ([] : List Tm)⟩ : Rcr), ([] : List Fn)⟩ : Dcl), (⟨3, ([78, 97, 116] : List UInt8), 0, (Tm.mk 2 0 ([] : List UInt8) [(⟨0, ([] : List U0)⟩ : Lvl)] ([] : List Tm)), (Tm.mk 0 0 ([] : List UInt8) ([] : List Lvl) ([] : List Tm)), 0, [(⟨([78, 97, 116, 46, 122, 101, 114, 111] : List UInt8), (Tm.mk 3 0 ([78, 97, 116] : List UInt8) ([] : List Lvl) ([] : List Tm))⟩ : Ctr), (⟨([78, 97, 116, 46, 115, 117, 99, 99] : List UInt8), (Tm.mk 3 0 ([78, 97, 116] : List UInt8) ([] : List Lvl) ([] : List Tm))⟩ : Ctr)], (⟨0, (Tm.mk 0 0 ([] : List UInt8) ([] : List Lvl) ([] : List Tm)), ([] : List Tm)⟩ : Rcr), ([] : List Fn)⟩ : Dcl), (⟨1, ([116, 119, 111] : List UInt8), 0, (Tm.mk 3 0 ([78, 97, 116] : List UInt8) ([] : List Lvl) ([] : List Tm)), (Tm.mk 3 0 ([78, 97, 116, 46, 122, 101, 114, 111] : List UInt8) ([] : List Lvl) ([] : List Tm)), 0, ([] : List Ctr), (⟨0, (Tm.mk 0 0 ([] : List UInt8) ([] : List Lvl) ([] : List Tm)), ([] : List Tm)⟩ : Rcr), ([] : List Fn)⟩ : Dcl)]) 3 x4 hx4) rfl (.osl .nil) rfl rfl rfl) <| Wn rfl rfl rfl <| Wm rfl rfl rfl (Qg rfl rfl) <| Wm rfl rfl rfl (Qg rfl rfl) <| Wo rfl rfl rfl <| Wo rfl rfl rfl <| Q3 <| Q1 <| Q2 <| Q0 <| Wn rfl rfl rfl <| Qa rfl rfl (Wx rfl) (J3 (α := U3) (([78, 97, 116] : List UInt8)) J1 Xi rfl rfl (Wx rfl) (Wx rfl) rfl rfl (.cons (.d _) .nil) rfl) ?_
 refine Qb h0 (fun x5 hx5 h0 => ?_)
 refine Qa rfl rfl (Wx rfl) (ZQ (b := 5) (m12o_ok ([(⟨0, ([112, 108, 117, 115] : List UInt8), 0, (Tm.mk 3 0 ([78, 97, 116] : List UInt8) ([] : List Lvl) ([] : List Tm)), (Tm.mk 0 0 ([] : List UInt8) ([] : List Lvl) ([] : List Tm)), 0, ([] : List Ctr), (⟨0, (Tm.mk 0 0 ([] : List UInt8) ([] : List Lvl) ([] : List Tm)), ([] : List Tm)⟩ : Rcr), ([] : List Fn)⟩ : Dcl), (⟨3, ([78, 97, 116] : List UInt8), 0, (Tm.mk 2 0 ([] : List UInt8) [(⟨0, ([] : List U0)⟩ : Lvl)] ([] : List Tm)), (Tm.mk 0 0 ([] : List UInt8) ([] : List Lvl) ([] : List Tm)), 0, [(⟨([78, 97, 116, 46, 122, 101, 114, 111] : List UInt8), (Tm.mk 3 0 ([78, 97, 116] : List UInt8) ([] : List Lvl) ([] : List Tm))⟩ : Ctr), (⟨([78, 97, 116, 46, 115, 117, 99, 99] : List UInt8), (Tm.mk 3 0 ([78, 97, 116] : List UInt8) ([] : List Lvl) ([] : List Tm))⟩ : Ctr)], (⟨0, (Tm.mk 0 0 ([] : List UInt8) ([] : List Lvl) ([] : List Tm)), ([] : List Tm)⟩ : Rcr), ([] : List Fn)⟩ : Dcl), (⟨1, ([116, 119, 111] : List UInt8), 0, (Tm.mk 3 0 ([78, 97, 116] : List UInt8) ([] : List Lvl) ([] : List Tm)), (Tm.mk 3 0 ([78, 97, 116, 46, 122, 101, 114, 111] : List UInt8) ([] : List Lvl) ([] : List Tm)), 0, ([] : List Ctr), (⟨0, (Tm.mk 0 0 ([] : List UInt8) ([] : List Lvl) ([] : List Tm)), ([] : List Tm)⟩ : Rcr), ([] : List Fn)⟩ : Dcl)]) ([([78, 97, 116] : List UInt8)]) 3 x5 hx5) rfl (.osl (.one (.app _ _ _) .nil)) rfl rfl rfl) <| Wn rfl rfl rfl <| Wm rfl rfl rfl (Qg rfl rfl) <| Wm rfl rfl rfl (Qg rfl rfl) <| Wo rfl rfl rfl <| Wo rfl rfl rfl <| Q3 <| Q1 <| Q2 <| Q0 <| Wn rfl rfl rfl <| Qa rfl rfl (Wx rfl) (J3 (α := U3) (([116, 119, 111] : List UInt8)) J1 Xi rfl rfl (Wx rfl) (Wx rfl) rfl rfl (.cons (.d _) .nil) rfl) ?_
 refine Qb h0 (fun x6 hx6 h0 => ?_)
 refine Qa rfl rfl (Wx rfl) (ZQ (b := 5) (m15o_ok ([(⟨0, ([112, 108, 117, 115] : List UInt8), 0, (Tm.mk 3 0 ([78, 97, 116] : List UInt8) ([] : List Lvl) ([] : List Tm)), (Tm.mk 0 0 ([] : List UInt8) ([] : List Lvl) ([] : List Tm)), 0, ([] : List Ctr), (⟨0, (Tm.mk 0 0 ([] : List UInt8) ([] : List Lvl) ([] : List Tm)), ([] : List Tm)⟩ : Rcr), ([] : List Fn)⟩ : Dcl), (⟨3, ([78, 97, 116] : List UInt8), 0, (Tm.mk 2 0 ([] : List UInt8) [(⟨0, ([] : List U0)⟩ : Lvl)] ([] : List Tm)), (Tm.mk 0 0 ([] : List UInt8) ([] : List Lvl) ([] : List Tm)), 0, [(⟨([78, 97, 116, 46, 122, 101, 114, 111] : List UInt8), (Tm.mk 3 0 ([78, 97, 116] : List UInt8) ([] : List Lvl) ([] : List Tm))⟩ : Ctr), (⟨([78, 97, 116, 46, 115, 117, 99, 99] : List UInt8), (Tm.mk 3 0 ([78, 97, 116] : List UInt8) ([] : List Lvl) ([] : List Tm))⟩ : Ctr)], (⟨0, (Tm.mk 0 0 ([] : List UInt8) ([] : List Lvl) ([] : List Tm)), ([] : List Tm)⟩ : Rcr), ([] : List Fn)⟩ : Dcl), (⟨1, ([116, 119, 111] : List UInt8), 0, (Tm.mk 3 0 ([78, 97, 116] : List UInt8) ([] : List Lvl) ([] : List Tm)), (Tm.mk 3 0 ([78, 97, 116, 46, 122, 101, 114, 111] : List UInt8) ([] : List Lvl) ([] : List Tm)), 0, ([] : List Ctr), (⟨0, (Tm.mk 0 0 ([] : List UInt8) ([] : List Lvl) ([] : List Tm)), ([] : List Tm)⟩ : Rcr), ([] : List Fn)⟩ : Dcl)]) ([([116, 119, 111] : List UInt8)]) 3 x6 hx6) rfl (.osl (.one (.app _ _ _) .nil)) rfl rfl rfl) <| Wn rfl rfl rfl <| Wm rfl rfl rfl (Qg rfl rfl) <| Wm rfl rfl rfl (Qg rfl rfl) <| Wo rfl rfl rfl <| Wo rfl rfl rfl <| Q3 <| Q1 <| Q2 <| Q0 <| Wn rfl rfl rfl <| Wm rfl rfl rfl (JH bd_42 rfl rfl rfl rfl) ?_
 refine Qb h0 (fun x7 hx7 h0 => ?_)
 refine QS h0 (fun g8 h0 => ?_)
 refine Wm rfl rfl rfl (Jp (α := Dcl) Jo rfl rfl hx7 g8) <| Wm rfl rfl rfl (Q6 Gl rfl) ?_
 refine QJ rfl rfl (OpOK.storeOP (α := Dcl) (y' := .agg [WL 3, WL 0, Z4 ([116, 119, 111] : List UInt8), WJ ([] : List Lvl), WJ ([] : List Tm)]) [(⟨0, ([112, 108, 117, 115] : List UInt8), 0, (Tm.mk 3 0 ([78, 97, 116] : List UInt8) ([] : List Lvl) ([] : List Tm)), (Tm.mk 0 0 ([] : List UInt8) ([] : List Lvl) ([] : List Tm)), 0, ([] : List Ctr), (⟨0, (Tm.mk 0 0 ([] : List UInt8) ([] : List Lvl) ([] : List Tm)), ([] : List Tm)⟩ : Rcr), ([] : List Fn)⟩ : Dcl), (⟨3, ([78, 97, 116] : List UInt8), 0, (Tm.mk 2 0 ([] : List UInt8) [(⟨0, ([] : List U0)⟩ : Lvl)] ([] : List Tm)), (Tm.mk 3 0 ([116, 119, 111] : List UInt8) [] []), 0, [(⟨([78, 97, 116, 46, 122, 101, 114, 111] : List UInt8), (Tm.mk 3 0 ([78, 97, 116] : List UInt8) ([] : List Lvl) ([] : List Tm))⟩ : Ctr), (⟨([78, 97, 116, 46, 115, 117, 99, 99] : List UInt8), (Tm.mk 3 0 ([78, 97, 116] : List UInt8) ([] : List Lvl) ([] : List Tm))⟩ : Ctr)], (⟨0, (Tm.mk 0 0 ([] : List UInt8) ([] : List Lvl) ([] : List Tm)), ([] : List Tm)⟩ : Rcr), ([] : List Fn)⟩ : Dcl), (⟨1, ([116, 119, 111] : List UInt8), 0, (Tm.mk 3 0 ([78, 97, 116] : List UInt8) ([] : List Lvl) ([] : List Tm)), (Tm.mk 3 0 ([78, 97, 116, 46, 122, 101, 114, 111] : List UInt8) ([] : List Lvl) ([] : List Tm)), 0, ([] : List Ctr), (⟨0, (Tm.mk 0 0 ([] : List UInt8) ([] : List Lvl) ([] : List Tm)), ([] : List Tm)⟩ : Rcr), ([] : List Fn)⟩ : Dcl)] Jn rfl rfl (.agg (.cons (.d _) (.cons (.d _) (.cons (.d _) (.cons (.nil _) (.cons (.nil _) .nil)))))) rfl rfl rfl (by kernel_rfl) rfl) ?_
 refine Q3 <| Q1 <| Q2 <| Q0 <| Wn rfl rfl rfl ?_
 refine Qb h0 (fun x9 hx9 h0 => ?_)
 refine Qa rfl rfl (Wx rfl) (ZQ (b := 5) (m22o_ok ([(⟨0, ([112, 108, 117, 115] : List UInt8), 0, (Tm.mk 3 0 ([78, 97, 116] : List UInt8) ([] : List Lvl) ([] : List Tm)), (Tm.mk 0 0 ([] : List UInt8) ([] : List Lvl) ([] : List Tm)), 0, ([] : List Ctr), (⟨0, (Tm.mk 0 0 ([] : List UInt8) ([] : List Lvl) ([] : List Tm)), ([] : List Tm)⟩ : Rcr), ([] : List Fn)⟩ : Dcl), (⟨3, ([78, 97, 116] : List UInt8), 0, (Tm.mk 2 0 ([] : List UInt8) [(⟨0, ([] : List U0)⟩ : Lvl)] ([] : List Tm)), (Tm.mk 3 0 ([116, 119, 111] : List UInt8) [] []), 0, [(⟨([78, 97, 116, 46, 122, 101, 114, 111] : List UInt8), (Tm.mk 3 0 ([78, 97, 116] : List UInt8) ([] : List Lvl) ([] : List Tm))⟩ : Ctr), (⟨([78, 97, 116, 46, 115, 117, 99, 99] : List UInt8), (Tm.mk 3 0 ([78, 97, 116] : List UInt8) ([] : List Lvl) ([] : List Tm))⟩ : Ctr)], (⟨0, (Tm.mk 0 0 ([] : List UInt8) ([] : List Lvl) ([] : List Tm)), ([] : List Tm)⟩ : Rcr), ([] : List Fn)⟩ : Dcl), (⟨1, ([116, 119, 111] : List UInt8), 0, (Tm.mk 3 0 ([78, 97, 116] : List UInt8) ([] : List Lvl) ([] : List Tm)), (Tm.mk 3 0 ([78, 97, 116, 46, 122, 101, 114, 111] : List UInt8) ([] : List Lvl) ([] : List Tm)), 0, ([] : List Ctr), (⟨0, (Tm.mk 0 0 ([] : List UInt8) ([] : List Lvl) ([] : List Tm)), ([] : List Tm)⟩ : Rcr), ([] : List Fn)⟩ : Dcl)]) 3 x9 hx9) rfl (.osl .nil) rfl rfl rfl) <| Wn rfl rfl rfl <| Wm rfl rfl rfl (Qg rfl rfl) <| Wm rfl rfl rfl (Qg rfl rfl) <| Wo rfl rfl rfl <| Wo rfl rfl rfl <| Q3 <| Q1 <| Q2 <| Q2 ?_
 refine Jf (fun (v10 : Bool) => ⟨[(2, .v (.one (WJ x3.1))), (4, .v (.one (WJ x4.1))), (6, .v (.one (WJ x5.1))), (8, .v (.one (WJ x6.1))), (71, .v (.one (WM v10)))], [(5, .cells 48 (Q9 (([(⟨0, ([112, 108, 117, 115] : List UInt8), 0, (Tm.mk 3 0 ([78, 97, 116] : List UInt8) ([] : List Lvl) ([] : List Tm)), (Tm.mk 0 0 ([] : List UInt8) ([] : List Lvl) ([] : List Tm)), 0, ([] : List Ctr), (⟨0, (Tm.mk 0 0 ([] : List UInt8) ([] : List Lvl) ([] : List Tm)), ([] : List Tm)⟩ : Rcr), ([] : List Fn)⟩ : Dcl), (⟨3, ([78, 97, 116] : List UInt8), 0, (Tm.mk 2 0 ([] : List UInt8) [(⟨0, ([] : List U0)⟩ : Lvl)] ([] : List Tm)), (Tm.mk 3 0 ([116, 119, 111] : List UInt8) [] []), 0, [(⟨([78, 97, 116, 46, 122, 101, 114, 111] : List UInt8), (Tm.mk 3 0 ([78, 97, 116] : List UInt8) ([] : List Lvl) ([] : List Tm))⟩ : Ctr), (⟨([78, 97, 116, 46, 115, 117, 99, 99] : List UInt8), (Tm.mk 3 0 ([78, 97, 116] : List UInt8) ([] : List Lvl) ([] : List Tm))⟩ : Ctr)], (⟨0, (Tm.mk 0 0 ([] : List UInt8) ([] : List Lvl) ([] : List Tm)), ([] : List Tm)⟩ : Rcr), ([] : List Fn)⟩ : Dcl), (⟨1, ([116, 119, 111] : List UInt8), 0, (Tm.mk 3 0 ([78, 97, 116] : List UInt8) ([] : List Lvl) ([] : List Tm)), (Tm.mk 3 0 ([78, 97, 116, 46, 122, 101, 114, 111] : List UInt8) ([] : List Lvl) ([] : List Tm)), 0, ([] : List Ctr), (⟨0, (Tm.mk 0 0 ([] : List UInt8) ([] : List Lvl) ([] : List Tm)), ([] : List Tm)⟩ : Rcr), ([] : List Fn)⟩ : Dcl)]) : List Dcl)))], [(6, some ⟨9, 1, (Enc.encL ([([78, 97, 116] : List UInt8)] : List U3)).length, []⟩), (7, some ⟨9, 1, (Enc.encL ([([116, 119, 111] : List UInt8)] : List U3)).length, []⟩)], 8, 115, []⟩) (fun (v10 : Bool) => (cond v10
     (some false)
     (Option.bind (Option.bind (Ja x3.1 0) fun (x13 : List Int) =>
   Option.bind (XY x13 ([1])) fun (x14 : Bool) =>
   cond x14
     (Option.bind (Ja x3.1 1) fun (x16 : List Int) =>
   cond ((x16.length : Int) == 0)
     (Option.bind (Ja x3.1 2) fun (x18 : List Int) =>
   Option.bind (XY x18 ([1])) fun (x19 : Bool) =>
   cond x19
     (Option.bind (XY x4.1 ([1, 0, 2])) fun (x21 : Bool) =>
   cond x21
     (Option.bind (XS x5.1 ([([112, 108, 117, 115] : List UInt8), ([78, 97, 116] : List UInt8), ([78, 97, 116, 46, 122, 101, 114, 111] : List UInt8), ([78, 97, 116, 46, 115, 117, 99, 99] : List UInt8), ([78, 97, 116, 46, 114, 101, 99] : List UInt8), ([116, 119, 111] : List UInt8)])) fun (x23 : Bool) =>
   cond x23
     (Option.bind (Ja x6.1 0) fun (x25 : Dcl) =>
   cond (x25.name == ([78, 97, 116] : List UInt8))
     (Option.bind (Ja x6.1 1) fun (x27 : Dcl) =>
   some (x27.name == ([116, 119, 111] : List UInt8)))
     (some false))
     (some false))
     (some false))
     (some false))
     (some false))
     (some false)) (fun (v12 : Bool) => some v12))) = some r) ?_ ?_
 refine Qb h0 (fun w1_ h1 h0 => ?_)
 refine Q0 <| Wn rfl rfl rfl <| Wm rfl rfl rfl (Q8 rfl rfl rfl) <| Wn rfl rfl rfl ?_
 refine QP (d := 46) (c := (x3.2 != 0)) rfl (fun c11 => ?_) (fun c11 => ?_)
 replace h1 := Qq c11 h1
 refine Q5 rfl rfl <| Q5 rfl rfl <| Wm rfl rfl rfl (Qk rfl rfl) <| Wn rfl rfl rfl <| Q5 rfl rfl <| Q5 rfl rfl <| Wm rfl rfl rfl (Qk rfl rfl) <| Wn rfl rfl rfl <| Q5 rfl rfl <| Q5 rfl rfl <| Wm rfl rfl rfl (Qk rfl rfl) <| Wn rfl rfl rfl <| Q5 rfl rfl <| Q5 rfl rfl ?_
 refine Wm rfl rfl rfl (Qk rfl rfl) <| Wn rfl rfl rfl <| Q5 rfl rfl <| Q5 rfl rfl <| Q5 rfl rfl <| Wm rfl rfl rfl (Qk rfl rfl) <| Wn rfl rfl rfl <| Q5 rfl rfl <| Q5 rfl rfl <| Q5 rfl rfl <| Wm rfl rfl rfl (Qk rfl rfl) <| Q3 ?_
 have e := Wk h1; subst e
 exact Qt true (Qf (Wi rfl (Wi rfl (Wi rfl (Wi rfl (Wi rfl Wh))))) (WD rfl WC) (Wz rfl (Wz rfl Wy)) rfl (Nat.zero_le _) rfl rfl rfl (WT rfl WR) rfl rfl) h0
 replace h1 := Qr c11 h1
 refine Wn rfl rfl rfl <| Wm rfl rfl rfl (Q8 rfl rfl rfl) <| Wm rfl rfl rfl (Qx rfl rfl) <| Wn rfl rfl rfl ?_
 refine QP (d := 50) (c := (x4.2 != 0)) rfl (fun c12 => ?_) (fun c12 => ?_)
 replace h1 := Qq c12 h1
 refine Q5 rfl rfl <| Q5 rfl rfl <| Wm rfl rfl rfl (Qk rfl rfl) <| Wn rfl rfl rfl <| Q5 rfl rfl <| Q5 rfl rfl <| Wm rfl rfl rfl (Qk rfl rfl) <| Wn rfl rfl rfl <| Q5 rfl rfl <| Q5 rfl rfl <| Wm rfl rfl rfl (Qk rfl rfl) <| Wn rfl rfl rfl <| Q5 rfl rfl <| Q5 rfl rfl ?_
 refine Q5 rfl rfl <| Wm rfl rfl rfl (Qk rfl rfl) <| Wn rfl rfl rfl <| Q5 rfl rfl <| Q5 rfl rfl <| Q5 rfl rfl <| Wm rfl rfl rfl (Qk rfl rfl) <| Q3 ?_
 have e := Wk h1; subst e
 exact Qt true (Qf (Wi rfl (Wi rfl (Wi rfl (Wi rfl (Wi rfl Wh))))) (WD rfl WC) (Wz rfl (Wz rfl Wy)) rfl (Nat.zero_le _) rfl rfl rfl (WT rfl WR) rfl rfl) h0
 replace h1 := Qr c12 h1
 refine Wn rfl rfl rfl <| Wm rfl rfl rfl (Q8 rfl rfl rfl) <| Wm rfl rfl rfl (Qx rfl rfl) <| Wn rfl rfl rfl ?_
 refine QP (d := 54) (c := (x5.2 != 0)) rfl (fun c13 => ?_) (fun c13 => ?_)
 replace h1 := Qq c13 h1
 refine Q5 rfl rfl <| Q5 rfl rfl <| Wm rfl rfl rfl (Qk rfl rfl) <| Wn rfl rfl rfl <| Q5 rfl rfl <| Q5 rfl rfl <| Wm rfl rfl rfl (Qk rfl rfl) <| Wn rfl rfl rfl <| Q5 rfl rfl <| Q5 rfl rfl <| Q5 rfl rfl <| Wm rfl rfl rfl (Qk rfl rfl) <| Wn rfl rfl rfl <| Q5 rfl rfl ?_
 refine Q5 rfl rfl <| Q5 rfl rfl <| Wm rfl rfl rfl (Qk rfl rfl) <| Q3 ?_
 have e := Wk h1; subst e
 exact Qt true (Qf (Wi rfl (Wi rfl (Wi rfl (Wi rfl (Wi rfl Wh))))) (WD rfl WC) (Wz rfl (Wz rfl Wy)) rfl (Nat.zero_le _) rfl rfl rfl (WT rfl WR) rfl rfl) h0
 replace h1 := Qr c13 h1
 refine Wn rfl rfl rfl <| Wm rfl rfl rfl (Q8 rfl rfl rfl) <| Wm rfl rfl rfl (Qx rfl rfl) <| Wn rfl rfl rfl ?_
 refine QP (d := 58) (c := (x6.2 != 0)) rfl (fun c14 => ?_) (fun c14 => ?_)
 replace h1 := Qq c14 h1
 refine Q5 rfl rfl <| Q5 rfl rfl <| Wm rfl rfl rfl (Qk rfl rfl) <| Wn rfl rfl rfl <| Q5 rfl rfl <| Q5 rfl rfl <| Q5 rfl rfl <| Wm rfl rfl rfl (Qk rfl rfl) <| Wn rfl rfl rfl <| Q5 rfl rfl <| Q5 rfl rfl <| Q5 rfl rfl <| Wm rfl rfl rfl (Qk rfl rfl) <| Q3 ?_
 have e := Wk h1; subst e
 exact Qt true (Qf (Wi rfl (Wi rfl (Wi rfl (Wi rfl (Wi rfl Wh))))) (WD rfl WC) (Wz rfl (Wz rfl Wy)) rfl (Nat.zero_le _) rfl rfl rfl (WT rfl WR) rfl rfl) h0
 replace h1 := Qr c14 h1
 refine Wn rfl rfl rfl <| Wm rfl rfl rfl (Q8 rfl rfl rfl) <| Wm rfl rfl rfl (Qx rfl rfl) <| Wn rfl rfl rfl ?_
 refine QP (d := 62) (c := (x9.2 != 22)) rfl (fun c15 => ?_) (fun c15 => ?_)
 replace h1 := Qq c15 h1
 refine Q5 rfl rfl <| Q5 rfl rfl <| Q5 rfl rfl <| Wm rfl rfl rfl (Qk rfl rfl) <| Wn rfl rfl rfl <| Q5 rfl rfl <| Q5 rfl rfl <| Q5 rfl rfl <| Wm rfl rfl rfl (Qk rfl rfl) <| Q3 ?_
 have e := Wk h1; subst e
 exact Qt true (Qf (Wi rfl (Wi rfl (Wi rfl (Wi rfl (Wi rfl Wh))))) (WD rfl WC) (Wz rfl (Wz rfl Wy)) rfl (Nat.zero_le _) rfl rfl rfl (WT rfl WR) rfl rfl) h0
 replace h1 := Qr c15 h1
 refine Wn rfl rfl rfl <| Wm rfl rfl rfl (QC (α := List Int) Y7 rfl (.d _)) <| Wm rfl rfl rfl (Q8 rfl rfl rfl) <| Wm rfl rfl rfl (Qx rfl rfl) <| Wn rfl rfl rfl ?_
 refine QP (d := 67) (c := ((x3.1.length : Int) != 3)) rfl (fun c16 => ?_) (fun c16 => ?_)
 replace h1 := Qq c16 h1
 refine Q5 rfl rfl <| Q5 rfl rfl <| Q5 rfl rfl <| Wm rfl rfl rfl (Qk rfl rfl) <| Q3 ?_
 have e := Wk h1; subst e
 exact Qt true (Qf (Wi rfl (Wi rfl (Wi rfl (Wi rfl (Wi rfl Wh))))) (WD rfl WC) (Wz rfl (Wz rfl Wy)) rfl (Nat.zero_le _) rfl rfl rfl (WT rfl WR) rfl rfl) h0
 replace h1 := Qr c16 h1
 refine Wn rfl rfl rfl <| Wm rfl rfl rfl (QC (α := Dcl) Jo rfl (.d _)) <| Wm rfl rfl rfl (Q8 rfl rfl rfl) <| Wm rfl rfl rfl (Qx rfl rfl) <| Q3 ?_
 have e := Wk h1; subst e
 exact Qt ((x6.1.length : Int) != 2) (Qf (Wi rfl (Wi rfl (Wi rfl (Wi rfl (Wi rfl Wh))))) (WD rfl WC) (Wz rfl (Wz rfl Wy)) rfl (Nat.zero_le _) rfl rfl rfl (WT rfl WR) rfl rfl) h0
 intro v10 h0
 refine Q1 ?_
 refine Qe (b := v10) rfl (fun c17 => ?_) (fun c17 => ?_)
 replace h0 := Qq c17 h0
 refine Q2 <| Q0 <| Wo rfl rfl rfl <| Q3 <| Q1 <| Qz ?_
 have e := Wk h0; subst e
 exact QO (fun _ _ h => h) rfl (Qo rfl .nil) (.cons (.one (.d _)) .nil)
 replace h0 := Qr c17 h0
 refine Qi <| Q1 <| Q2 ?_
 refine Jf (fun (v18 : Bool) => ⟨[(0, .v (.one (WM v18)))], [(5, .cells 48 (Q9 (([(⟨0, ([112, 108, 117, 115] : List UInt8), 0, (Tm.mk 3 0 ([78, 97, 116] : List UInt8) ([] : List Lvl) ([] : List Tm)), (Tm.mk 0 0 ([] : List UInt8) ([] : List Lvl) ([] : List Tm)), 0, ([] : List Ctr), (⟨0, (Tm.mk 0 0 ([] : List UInt8) ([] : List Lvl) ([] : List Tm)), ([] : List Tm)⟩ : Rcr), ([] : List Fn)⟩ : Dcl), (⟨3, ([78, 97, 116] : List UInt8), 0, (Tm.mk 2 0 ([] : List UInt8) [(⟨0, ([] : List U0)⟩ : Lvl)] ([] : List Tm)), (Tm.mk 3 0 ([116, 119, 111] : List UInt8) [] []), 0, [(⟨([78, 97, 116, 46, 122, 101, 114, 111] : List UInt8), (Tm.mk 3 0 ([78, 97, 116] : List UInt8) ([] : List Lvl) ([] : List Tm))⟩ : Ctr), (⟨([78, 97, 116, 46, 115, 117, 99, 99] : List UInt8), (Tm.mk 3 0 ([78, 97, 116] : List UInt8) ([] : List Lvl) ([] : List Tm))⟩ : Ctr)], (⟨0, (Tm.mk 0 0 ([] : List UInt8) ([] : List Lvl) ([] : List Tm)), ([] : List Tm)⟩ : Rcr), ([] : List Fn)⟩ : Dcl), (⟨1, ([116, 119, 111] : List UInt8), 0, (Tm.mk 3 0 ([78, 97, 116] : List UInt8) ([] : List Lvl) ([] : List Tm)), (Tm.mk 3 0 ([78, 97, 116, 46, 122, 101, 114, 111] : List UInt8) ([] : List Lvl) ([] : List Tm)), 0, ([] : List Ctr), (⟨0, (Tm.mk 0 0 ([] : List UInt8) ([] : List Lvl) ([] : List Tm)), ([] : List Tm)⟩ : Rcr), ([] : List Fn)⟩ : Dcl)]) : List Dcl)))], [(6, some ⟨9, 1, (Enc.encL ([([78, 97, 116] : List UInt8)] : List U3)).length, []⟩), (7, some ⟨9, 1, (Enc.encL ([([116, 119, 111] : List UInt8)] : List U3)).length, []⟩), (8, some ⟨3, 1, (Enc.encL ([1] : List Int)).length, []⟩)], 9, 115, []⟩) (fun (v18 : Bool) => (some v18) = some r) ?_ ?_
 refine Qb h0 (fun w1_ h1 h0 => ?_)
 refine Q0 <| Wn rfl rfl rfl ?_
 refine Qb h1 (fun x19 hx19 h1 => ?_)
 refine Wm rfl rfl rfl (Qm (α := List Int) Y7 rfl (.d _) rfl hx19) <| Wm rfl rfl rfl (QN Gs rfl rfl) <| Qa rfl rfl (Wx rfl) (J3 (α := Int) (1) JU XE rfl rfl (Wx rfl) (Wx rfl) rfl rfl (.cons (.d _) .nil) rfl) ?_
 refine Qb h1 (fun x20 hx20 h1 => ?_)
 refine Qa rfl rfl (Wx rfl) (Qn (m29_ok x19 ([1]) x20 hx20) rfl (.cons (.one (.d _)) (.cons (.one (.app _ _ _)) .nil))) <| Wn rfl rfl rfl ?_
 refine QP (d := 77) (c := x20) rfl (fun c21 => ?_) (fun c21 => ?_)
 replace h1 := Qq c21 h1
 refine Wn rfl rfl rfl ?_
 refine Qb h1 (fun x22 hx22 h1 => ?_)
 refine Wm rfl rfl rfl (Qm (α := List Int) Y7 rfl (.d _) rfl hx22) <| Wm rfl rfl rfl (QN Gs rfl rfl) <| Wm rfl rfl rfl (QC (α := Int) JU rfl (.d _)) <| Wm rfl rfl rfl (Q8 rfl rfl rfl) <| Wm rfl rfl rfl (Qk rfl rfl) <| Wn rfl rfl rfl ?_
 refine QP (d := 84) (c := ((x22.length : Int) == 0)) rfl (fun c23 => ?_) (fun c23 => ?_)
 replace h1 := Qq c23 h1
 refine Wn rfl rfl rfl ?_
 refine Qb h1 (fun x24 hx24 h1 => ?_)
 refine Wm rfl rfl rfl (Qm (α := List Int) Y7 rfl (.d _) rfl hx24) <| Wm rfl rfl rfl (QN Gs rfl rfl) <| Qa rfl rfl (Wx rfl) (J3 (α := Int) (1) JU XE rfl rfl (Wx rfl) (Wx rfl) rfl rfl (.cons (.d _) .nil) rfl) ?_
 refine Qb h1 (fun x25 hx25 h1 => ?_)
 refine Qa rfl rfl (Wx rfl) (Qn (m29_ok x24 ([1]) x25 hx25) rfl (.cons (.one (.d _)) (.cons (.one (.app _ _ _)) .nil))) <| Wm rfl rfl rfl (Qk rfl rfl) <| Wn rfl rfl rfl ?_
 refine QP (d := 91) (c := x25) rfl (fun c26 => ?_) (fun c26 => ?_)
 replace h1 := Qq c26 h1
 refine Wn rfl rfl rfl <| Qa rfl rfl (Wx rfl) (OpOK.lit3E (α := Int) 1 0 2 JU XE rfl rfl (Wx rfl) (Wx rfl) rfl rfl rfl rfl (.cons (.d _) (.cons (.d _) (.cons (.d _) .nil))) ⟨rfl, rfl, rfl⟩) ?_
 refine Qb h1 (fun x27 hx27 h1 => ?_)
 refine Qa rfl rfl (Wx rfl) (Qn (m29_ok x4.1 ([1, 0, 2]) x27 hx27) rfl (.cons (.one (.d _)) (.cons (.one (.app _ _ _)) .nil))) <| Wm rfl rfl rfl (Qk rfl rfl) <| Wn rfl rfl rfl ?_
 refine QP (d := 96) (c := x27) rfl (fun c28 => ?_) (fun c28 => ?_)
 replace h1 := Qq c28 h1
 refine Wn rfl rfl rfl <| Qa rfl rfl (Wx rfl) (OpOK.data6E (α := U3) ([112, 108, 117, 115] : List UInt8) ([78, 97, 116] : List UInt8) ([78, 97, 116, 46, 122, 101, 114, 111] : List UInt8) ([78, 97, 116, 46, 115, 117, 99, 99] : List UInt8) ([78, 97, 116, 46, 114, 101, 99] : List UInt8) ([116, 119, 111] : List UInt8) J1 Xi rfl rfl (Wx rfl) rfl rfl rfl rfl rfl rfl rfl (.cons (.d _) (.cons (.d _) (.cons (.d _) (.cons (.d _) (.cons (.d _) (.cons (.d _) .nil)))))) ⟨rfl, rfl, rfl, rfl, rfl, rfl⟩) ?_
 refine Qb h1 (fun x29 hx29 h1 => ?_)
 refine Qa rfl rfl (Wx rfl) (Qn (m14_ok x5.1 ([([112, 108, 117, 115] : List UInt8), ([78, 97, 116] : List UInt8), ([78, 97, 116, 46, 122, 101, 114, 111] : List UInt8), ([78, 97, 116, 46, 115, 117, 99, 99] : List UInt8), ([78, 97, 116, 46, 114, 101, 99] : List UInt8), ([116, 119, 111] : List UInt8)]) x29 hx29) rfl (.cons (.one (.d _)) (.cons (.one (.d _)) .nil))) <| Wm rfl rfl rfl (Qk rfl rfl) <| Wn rfl rfl rfl ?_
 refine QP (d := 101) (c := x29) rfl (fun c30 => ?_) (fun c30 => ?_)
 replace h1 := Qq c30 h1
 refine Wn rfl rfl rfl ?_
 refine Qb h1 (fun x31 hx31 h1 => ?_)
 refine Wm rfl rfl rfl (Qm (α := Dcl) Jo rfl (.d _) rfl hx31) <| Wm rfl rfl rfl (Jz YX rfl) <| Wm rfl rfl rfl (QN JT rfl rfl) <| Wm rfl rfl rfl (RO.eqS rfl rfl) <| Wm rfl rfl rfl (Qk rfl rfl) <| Wn rfl rfl rfl ?_
 refine QP (d := 108) (c := (x31.name == ([78, 97, 116] : List UInt8))) rfl (fun c32 => ?_) (fun c32 => ?_)
 replace h1 := Qq c32 h1
 refine Wn rfl rfl rfl ?_
 refine Qb h1 (fun x33 hx33 h1 => ?_)
 refine Wm rfl rfl rfl (Qm (α := Dcl) Jo rfl (.d _) rfl hx33) <| Wm rfl rfl rfl (Jz YX rfl) <| Wm rfl rfl rfl (QN JT rfl rfl) <| Wm rfl rfl rfl (RO.eqS rfl rfl) <| Wm rfl rfl rfl (Qk rfl rfl) <| Wo rfl rfl rfl <| Q3 ?_
 have e := Wk h1; subst e
 exact Qt (x33.name == ([116, 119, 111] : List UInt8)) (Qf (Wi rfl Wh) (WD rfl WC) (Wz rfl (Wz rfl (Wz rfl Wy))) rfl (Nat.zero_le _) rfl rfl rfl (WT rfl WR) rfl rfl) h0
 replace h1 := Qr c32 h1
 refine Q5 rfl rfl <| Q5 rfl rfl <| Q5 rfl rfl <| Q5 rfl rfl <| Q5 rfl rfl <| Wm rfl rfl rfl (Qx rfl rfl) <| Wo rfl rfl rfl <| Q3 ?_
 have e := Wk h1; subst e
 exact Qt false (Qf (Wi rfl Wh) (WD rfl WC) (Wz rfl (Wz rfl (Wz rfl Wy))) rfl (Nat.zero_le _) rfl rfl rfl (WT rfl WR) rfl rfl) h0
 replace h1 := Qr c30 h1
 refine Q5 rfl rfl <| Q5 rfl rfl <| Q5 rfl rfl <| Q5 rfl rfl <| Q5 rfl rfl <| Wm rfl rfl rfl (Qx rfl rfl) <| Wn rfl rfl rfl <| Q5 rfl rfl <| Q5 rfl rfl <| Q5 rfl rfl <| Q5 rfl rfl <| Q5 rfl rfl <| Wm rfl rfl rfl (Qx rfl rfl) <| Wo rfl rfl rfl ?_
 refine Q3 ?_
 have e := Wk h1; subst e
 exact Qt false (Qf (Wi rfl Wh) (WD rfl WC) (Wz rfl (Wz rfl (Wz rfl Wy))) rfl (Nat.zero_le _) rfl rfl rfl (WT rfl WR) rfl rfl) h0
 replace h1 := Qr c28 h1
 refine Q5 rfl rfl <| Q5 rfl rfl <| Q5 rfl rfl <| Wm rfl rfl rfl (Qx rfl rfl) <| Wn rfl rfl rfl <| Q5 rfl rfl <| Q5 rfl rfl <| Q5 rfl rfl <| Q5 rfl rfl <| Q5 rfl rfl <| Wm rfl rfl rfl (Qx rfl rfl) <| Wn rfl rfl rfl <| Q5 rfl rfl <| Q5 rfl rfl ?_
 refine Q5 rfl rfl <| Q5 rfl rfl <| Q5 rfl rfl <| Wm rfl rfl rfl (Qx rfl rfl) <| Wo rfl rfl rfl <| Q3 ?_
 have e := Wk h1; subst e
 exact Qt false (Qf (Wi rfl Wh) (WD rfl WC) (Wz rfl (Wz rfl (Wz rfl Wy))) rfl (Nat.zero_le _) rfl rfl rfl (WT rfl WR) rfl rfl) h0
 replace h1 := Qr c26 h1
 refine Q5 rfl rfl <| Q5 rfl rfl <| Q5 rfl rfl <| Wm rfl rfl rfl (Qx rfl rfl) <| Wn rfl rfl rfl <| Q5 rfl rfl <| Q5 rfl rfl <| Q5 rfl rfl <| Wm rfl rfl rfl (Qx rfl rfl) <| Wn rfl rfl rfl <| Q5 rfl rfl <| Q5 rfl rfl <| Q5 rfl rfl <| Q5 rfl rfl ?_
 refine Q5 rfl rfl <| Wm rfl rfl rfl (Qx rfl rfl) <| Wn rfl rfl rfl <| Q5 rfl rfl <| Q5 rfl rfl <| Q5 rfl rfl <| Q5 rfl rfl <| Q5 rfl rfl <| Wm rfl rfl rfl (Qx rfl rfl) <| Wo rfl rfl rfl <| Q3 ?_
 have e := Wk h1; subst e
 exact Qt false (Qf (Wi rfl Wh) (WD rfl WC) (Wz rfl (Wz rfl (Wz rfl Wy))) rfl (Nat.zero_le _) rfl rfl rfl (WT rfl WR) rfl rfl) h0
 replace h1 := Qr c23 h1
 refine Q5 rfl rfl <| Q5 rfl rfl <| Q5 rfl rfl <| Q5 rfl rfl <| Q5 rfl rfl <| Wm rfl rfl rfl (Qx rfl rfl) <| Wn rfl rfl rfl <| Q5 rfl rfl <| Q5 rfl rfl <| Q5 rfl rfl <| Wm rfl rfl rfl (Qx rfl rfl) <| Wn rfl rfl rfl <| Q5 rfl rfl <| Q5 rfl rfl ?_
 refine Q5 rfl rfl <| Wm rfl rfl rfl (Qx rfl rfl) <| Wn rfl rfl rfl <| Q5 rfl rfl <| Q5 rfl rfl <| Q5 rfl rfl <| Q5 rfl rfl <| Q5 rfl rfl <| Wm rfl rfl rfl (Qx rfl rfl) <| Wn rfl rfl rfl <| Q5 rfl rfl <| Q5 rfl rfl <| Q5 rfl rfl <| Q5 rfl rfl ?_
 refine Q5 rfl rfl <| Wm rfl rfl rfl (Qx rfl rfl) <| Wo rfl rfl rfl <| Q3 ?_
 have e := Wk h1; subst e
 exact Qt false (Qf (Wi rfl Wh) (WD rfl WC) (Wz rfl (Wz rfl (Wz rfl Wy))) rfl (Nat.zero_le _) rfl rfl rfl (WT rfl WR) rfl rfl) h0
 replace h1 := Qr c21 h1
 refine Q5 rfl rfl <| Q5 rfl rfl <| Q5 rfl rfl <| Q5 rfl rfl <| Q5 rfl rfl <| Wm rfl rfl rfl (Qx rfl rfl) <| Wn rfl rfl rfl <| Q5 rfl rfl <| Q5 rfl rfl <| Q5 rfl rfl <| Q5 rfl rfl <| Q5 rfl rfl <| Wm rfl rfl rfl (Qx rfl rfl) <| Wn rfl rfl rfl ?_
 refine Q5 rfl rfl <| Q5 rfl rfl <| Q5 rfl rfl <| Wm rfl rfl rfl (Qx rfl rfl) <| Wn rfl rfl rfl <| Q5 rfl rfl <| Q5 rfl rfl <| Q5 rfl rfl <| Wm rfl rfl rfl (Qx rfl rfl) <| Wn rfl rfl rfl <| Q5 rfl rfl <| Q5 rfl rfl <| Q5 rfl rfl <| Q5 rfl rfl ?_
 refine Q5 rfl rfl <| Wm rfl rfl rfl (Qx rfl rfl) <| Wn rfl rfl rfl <| Q5 rfl rfl <| Q5 rfl rfl <| Q5 rfl rfl <| Q5 rfl rfl <| Q5 rfl rfl <| Wm rfl rfl rfl (Qx rfl rfl) <| Wo rfl rfl rfl <| Q3 ?_
 have e := Wk h1; subst e
 exact Qt false (Qf (Wi rfl Wh) (WD rfl WC) (Wz rfl (Wz rfl (Wz rfl Wy))) rfl (Nat.zero_le _) rfl rfl rfl (WT rfl WR) rfl rfl) h0
 intro v18 h0
 refine Q1 <| Qz ?_
 have e := Wk h0; subst e
 exact QO (fun _ _ h => h) rfl (Qo rfl .nil) (.cons (.one (.d _)) .nil)
theorem m11_true : X3 = some true := by kernel_rfl
end Go.Proofs.Ytijcchddnnnmdaa
namespace Go.Proofs.Ytijcchddnnnmdaa
open Go.RowKit Go.Shelf
set_option linter.unusedSimpArgs false
set_option linter.unusedVariables false
def m8_l0 (x4 : (List (List Int)) × Int) (x5 : (List (List Int)) × Int) (s3 : Int) : Option (LO Int (Unit ⊕ Bool)) :=
 cond (decide (s3 < (x4.1.length : Int)))
   (Option.bind (Ja x4.1 s3) fun (x15 : List Int) =>
 Option.bind (Ja x5.1 s3) fun (x16 : List Int) =>
 Option.bind (Option.bind (XY x15 x16) fun (x19 : Bool) =>
 some x19) (fun (y17 : Bool) => cond (!y17)
   (some (.done (.inr false)))
   (some (.next (QZ (s3 + 1))))))
   (some (.done (.inl ())))
def m8 (a0 : List Dcl) : Option Bool :=
 Option.bind (Wt a0) fun (x1 : Bool) =>
 cond (!x1)
   (Option.bind (X3 ) fun (x3 : Bool) =>
 some x3)
   (Option.bind (m23 a0) fun (x4 : (List (List Int)) × Int) =>
 Option.bind (m25 a0) fun (x5 : (List (List Int)) × Int) =>
 Option.bind (m22 a0) fun (x6 : (List Int) × Int) =>
 Option.bind (m26 a0) fun (x7 : (List Int) × Int) =>
 Option.bind (cond (x4.2 == x5.2)
   (Option.bind (cond ((x4.1.length : Int) != (x5.1.length : Int))
   (some false)
   (Option.bind (Qw (m8_l0 x4 x5) QF 0) (Sum.elim (fun (o13 : Unit) => some true) (fun o => some o)))) (fun (y10 : Bool) => cond y10
   (cond (x6.2 == x7.2)
   (Option.bind (XY x6.1 x7.1) fun (x24 : Bool) =>
 cond x24
   (Option.bind (X3 ) fun (x26 : Bool) =>
 some x26)
   (some false))
   (some false))
   (some false)))
   (some false)) (fun (v8 : Bool) => some v8))
end Go.Proofs.Ytijcchddnnnmdaa
namespace Go.Proofs.Ytijcchddnnnmdaa
open Go.RowKit Go.Shelf
set_option linter.unusedSimpArgs false
set_option linter.unusedVariables false
theorem en_10 : J7 Try.prog 10 := enters_of Try.func10 (by kernel_rfl) rfl
theorem en_32 : J7 Try.prog 32 := enters_of Try.func32 (by kernel_rfl) rfl
def G6 (a0 : List U3) (s4 : Int) : Option (LO Int (Unit ⊕ Int)) :=
 cond (decide (s4 < (a0.length : Int)))
   (Option.bind (Ja a0 s4) fun (x9 : U3) =>
 Option.bind (some ()) (fun (y10 : Unit) => cond (decide (100 < (x9.length : Int)))
   (some (.done (.inr s4)))
   (some (.next (QZ (s4 + 1))))))
   (some (.done (.inl ())))
def W1 (a0 : List U3) : Option Bool :=
 Option.bind (cond (decide ((a0.length : Int) ≤ 20))
   (Option.bind (Option.bind (Option.bind (Qw (G6 a0) QF 0) (Sum.elim (fun (o7 : Unit) => some (-1)) (fun o => some o))) (fun (y5 : Int) => some (decide (0 ≤ y5)))) (fun (y3 : Bool) => some (!y3)))
   (some false)) (fun (v1 : Bool) => some v1)
set_option maxRecDepth 100000 in
set_option maxHeartbeats 2000000 in
theorem m10_ok (a0 : List U3) (r : Bool) (h0 : W1 a0 = some r) : Fun Try.prog 10 [.one (WJ a0)] (QA [.one (WM r)]) := by
 unfold W1 at h0
 refine QU 9 11 Try.func10 rfl en_10 rfl (Wx rfl) (fun S w => ?_)
 simp only [Jb]
 refine Q2 <| Q0 <| Wo rfl rfl rfl <| Q3 <| Q1 <| Q2 ?_
 refine Jf (fun (v1 : Bool) => ⟨[(2, .v (.one (WM v1)))], [], [], 0, 11, []⟩) (fun (v1 : Bool) => (some v1) = some r) ?_ ?_
 refine Qb h0 (fun w1_ h1 h0 => ?_)
 refine Q0 <| Wn rfl rfl rfl <| Wm rfl rfl rfl (QC (α := U3) J1 rfl (.d _)) <| Wm rfl rfl rfl (Q8 rfl rfl rfl) <| Wn rfl rfl rfl ?_
 refine QP (d := 6) (c := (decide ((a0.length : Int) ≤ 20))) rfl (fun c2 => ?_) (fun c2 => ?_)
 replace h1 := Qq c2 h1
 refine Wn rfl rfl rfl ?_
 refine Qb h1 (fun y3 h2 h1 => ?_)
 have hc4 : CallM Try.prog 31 [.one (WJ a0), .one (.fn 32 [])] ⟨[], [], 0⟩ (QA [.one (WM y3)]) ⟨[], [], 0⟩ := by
  refine QR ⟨[(4, .v (.one (WM y3)))], [], [], 0, 9, []⟩ rfl rfl en_31 (Wx rfl) rfl (Qo rfl .nil) (fun w0 M V0 Q hv2 hQ2 => ?_)
  simp only [Jb]
  refine Q2 <| Q0 <| Wo rfl rfl rfl <| Q3 <| Q1 <| Q2 <| Q0 <| Wn rfl rfl rfl <| Wn rfl rfl rfl ?_
  refine Qb h2 (fun y5 h3 h2 => ?_)
  have hc6 : CallM Try.prog 52 [.one (WJ a0), .one (.fn 32 [])] ⟨[], [], 0⟩ (QA [.one (WL y5)]) ⟨[], [], 0⟩ := by
   refine QR ⟨[(4, .v (.one (WL y5)))], [], [], 0, 19, []⟩ rfl rfl en_52 (Wx rfl) rfl (Qo rfl .nil) (fun w0 M V0 Q hv3 hQ3 => ?_)
   simp only [Jb]
   refine Q2 <| Q0 <| Wo rfl rfl rfl <| Q3 <| Q1 <| Q2 <| Q2 <| Q0 <| Wn rfl rfl rfl <| Wm rfl rfl rfl (QC (α := U3) J1 rfl (.d _)) <| Wn rfl rfl rfl <| Q3 <| Q1 <| Qc ?_
   refine QI 0 (fun (o7 : Unit) => ⟨[], [], [], 0, 19, []⟩) (fun (o7 : Unit) => (some (-1)) = some y5) ?_ ?_
   refine Qb h3 (fun o8 hl4 h3 => ?_)
   refine QH (G6 a0) (fun s4 => ⟨[(0, .v (.one (WJ a0))), (1, .v (.one (.fn 32 []))), (7, .v (.one (WL (a0.length : Int)))), (8, .v (.one (WL s4)))], [], [], 0, 19, []⟩) 0 o8 (Qf (Wi rfl (Wi rfl (Wi rfl (Wi rfl Wh)))) WC Wy rfl (Nat.le_trans hv3 (Wx rfl)) rfl rfl rfl WR rfl rfl) hl4 (fun s4 n4 oo4 h4 ho4 => ?_)
   unfold G6 at h4
   refine Q2 <| Q0 <| Wm rfl rfl rfl (Q8 rfl rfl rfl) <| Q3 <| Q1 <| Q2 ?_
   refine Qe (b := (decide (s4 < (a0.length : Int)))) rfl (fun c9 => ?_) (fun c9 => ?_)
   replace h4 := Qq c9 h4
   refine Qi <| Q1 <| Q2 <| Qc <| Q2 <| Q0 <| Wn rfl rfl rfl <| Wo rfl rfl rfl <| Q3 <| Q1 <| Q2 <| Q0 <| Wn rfl rfl rfl <| Wn rfl rfl rfl ?_
   refine Wn rfl rfl rfl ?_
   refine Qb h4 (fun x10 hx10 h4 => ?_)
   refine Wm rfl rfl rfl (Qm (α := U3) J1 rfl (.d _) rfl hx10) <| Wm rfl rfl rfl (QN JT rfl rfl) ?_
   refine Qb h4 (fun y11 h5 h4 => ?_)
   have hc12 : CallM Try.prog 32 [.one (Z4 x10)] ⟨[], [], 0⟩ (QA [.one (WM (decide (100 < (x10.length : Int))))]) ⟨[], [], 0⟩ := by
    refine QR ⟨[(2, .v (.one (WM (decide (100 < (x10.length : Int))))))], [], [], 0, 6, []⟩ rfl rfl en_32 (Wx rfl) rfl (Qo rfl .nil) (fun w0 M V0 Q hv5 hQ5 => ?_)
    simp only [Jb]
    refine Q2 <| Q0 <| Wo rfl rfl rfl <| Q3 <| Q1 <| Q2 <| Q0 <| Wn rfl rfl rfl <| Wm rfl rfl rfl (Gu XG rfl) <| Wm rfl rfl rfl (Q8 rfl rfl rfl) <| Wo rfl rfl rfl <| Q3 <| Q1 <| Qz ?_
    have e := Wk h5; subst e
    exact hQ5 _ _ _ (.inr rfl) rfl (Qf (Wi rfl Wh) WC Wy rfl (Nat.le_trans hv5 (Wx rfl)) rfl rfl rfl WR rfl rfl)
   refine Qa rfl rfl (Wx rfl) (QT rfl rfl rfl hc12 rfl WC Wy) <| Q3 <| Q1 ?_
   refine Qe (b := (decide (100 < (x10.length : Int)))) rfl (fun c13 => ?_) (fun c13 => ?_)
   replace h4 := Qq c13 h4
   refine Q2 <| Q0 <| Wn rfl rfl rfl <| Wo rfl rfl rfl <| Q3 <| Q1 <| Qz ?_
   have e := Wk h4; subst e
   have e_ : _ = _ := ho4
   subst e_
   try dsimp only [Sum.elim_inl, Sum.elim_inr] at h3
   have e := Wk h3; subst e
   exact hQ3 _ _ _ (.inr rfl) rfl (Qf (Wi rfl Wh) WC Wy rfl (Nat.le_trans hv3 (Wx rfl)) rfl rfl rfl WR rfl rfl)
   replace h4 := Qr c13 h4
   refine Qi <| Qj <| Q1 <| Q0 <| Wm rfl rfl rfl (Q8 rfl rfl rfl) <| Wn rfl rfl rfl <| Q3 ?_
   have e := Wk h4; subst e
   refine QD (QZ (s4 + 1)) (Qf (Wi rfl (Wi rfl (Wi rfl (Wi rfl Wh)))) WC Wy rfl (Nat.le_trans hv3 (Wx rfl)) rfl rfl rfl WR rfl rfl) ho4
   replace h4 := Qr c9 h4
   refine QM <| Qd <| Qd ?_
   have e := Wk h4; subst e
   have e_ : _ = _ := ho4
   subst e_
   exact QG () (Qf Wh WC Wy rfl (Nat.le_trans hv3 (Wx rfl)) rfl rfl rfl WR rfl rfl) h3
   intro o7 h3
   refine QB <| Q1 <| Q2 <| Q0 <| Wo rfl rfl rfl <| Q3 <| Q1 <| Qz ?_
   have e := Wk h3; subst e
   exact hQ3 _ _ _ (.inr rfl) rfl (Qf (Wi rfl Wh) WC Wy rfl (Nat.le_trans hv3 (Wx rfl)) rfl rfl rfl WR rfl rfl)
  refine Qa rfl rfl (Wx rfl) (QT rfl rfl rfl hc6 rfl WC Wy) <| Wm rfl rfl rfl (Q8 rfl rfl rfl) <| Wo rfl rfl rfl <| Q3 <| Q1 <| Qz ?_
  have e := Wk h2; subst e
  exact hQ2 _ _ _ (.inr rfl) rfl (Qf (Wi rfl Wh) WC Wy rfl (Nat.le_trans hv2 (Wx rfl)) rfl rfl rfl WR rfl rfl)
 refine Qa rfl rfl (Wx rfl) (QT rfl rfl rfl hc4 rfl WC Wy) <| Wm rfl rfl rfl (J9 rfl) <| Wm rfl rfl rfl (Qk rfl rfl) <| Wo rfl rfl rfl <| Q3 ?_
 have e := Wk h1; subst e
 exact Qt (!y3) (Qf (Wi rfl Wh) WC Wy rfl (Nat.zero_le _) rfl rfl rfl WR rfl rfl) h0
 replace h1 := Qr c2 h1
 refine Q5 rfl rfl <| Q5 rfl rfl <| Q5 rfl rfl <| Wm rfl rfl rfl (Qx rfl rfl) <| Wo rfl rfl rfl <| Q3 ?_
 have e := Wk h1; subst e
 exact Qt false (Qf (Wi rfl Wh) WC Wy rfl (Nat.zero_le _) rfl rfl rfl WR rfl rfl) h0
 intro v1 h0
 refine Q1 <| Qz ?_
 have e := Wk h0; subst e
 exact QO (fun _ _ h => h) rfl (Qo rfl .nil) (.cons (.one (.d _)) .nil)
end Go.Proofs.Ytijcchddnnnmdaa
namespace Go.Proofs.Ytijcchddnnnmdaa
open Go.RowKit Go.Shelf
set_option linter.unusedSimpArgs false
set_option linter.unusedVariables false
def Wv (a0 : List Dcl) (a1 : List U3) : Option Bool :=
 Option.bind (Option.bind (Wt a0) fun (x2 : Bool) =>
 cond (!x2)
   (some true)
   (Option.bind (W1 a1) fun (x4 : Bool) =>
 some (!x4))) (fun (v1 : Bool) => cond v1
   (Option.bind (X3 ) fun (x3 : Bool) =>
 some x3)
   (Option.bind (XT a0 a1) fun (x4 : (List U3) × Int) =>
 Option.bind (m13 a0 a1) fun (x5 : (List U3) × Int) =>
 Option.bind (cond (x4.2 == x5.2)
   (Option.bind (XS x4.1 x5.1) fun (x8 : Bool) =>
 cond x8
   (Option.bind (X3 ) fun (x10 : Bool) =>
 some x10)
   (some false))
   (some false)) (fun (v6 : Bool) => some v6)))
end Go.Proofs.Ytijcchddnnnmdaa
namespace Go.Proofs.Ytijcchddnnnmdaa
open Go.RowKit Go.Lib
set_option linter.unusedSimpArgs false
set_option linter.unusedVariables false
set_option linter.unusedSectionVars false
def Ke (b : List Bool) : Nat → List Dcl → List Dcl
  | _, [] => []
  | i, d :: l => cond (b[i]? == some true) (d :: Ke b (i + 1) l) (Ke b (i + 1) l)
theorem sel_app (b : List Bool) (c : List Dcl) : ∀ (a : List Dcl) (i : Nat), Ke b i (a ++ c) = Ke b i a ++ Ke b (i + a.length) c
  | [], i => rfl
  | d :: a, i => by
    simp only [List.cons_append, Ke]
    rw [sel_app b c a (i + 1), show i + 1 + a.length = i + (d :: a).length by simp only [List.length_cons]; omega]
    cases (b[i]? == some true) <;> rfl
theorem Gc (b : List Bool) : ∀ (l : List Dcl) (i : Nat), (Ke b i l).Sublist l
  | [], i => List.Sublist.refl _
  | d :: l, i => by
    simp only [Ke]
    cases (b[i]? == some true) with
    | true => exact (Gc b l (i + 1)).cons_cons d
    | false => exact (Gc b l (i + 1)).cons d
theorem sel_flat {β : Type} (f : Dcl → List β) (b : List Bool) : ∀ (l : List Dcl) (i : Nat), (((Ke b i l).map f).flatten).length ≤ ((l.map f).flatten).length
  | [], i => Nat.le_refl _
  | d :: l, i => by
    have := sel_flat f b l (i + 1)
    simp only [Ke]
    cases (b[i]? == some true) <;> simp only [cond_true, cond_false, List.map_cons, List.flatten_cons, List.length_append] <;> omega
theorem sel_loop {β : Type} {step : List β × Int → Option (LO (List β × Int) (List β))} (b : List Bool) (f : Dcl → List β) (env : List Dcl) (hl : env.length ≤ 900000000) (hb : b.length = env.length)
    (hoff : ∀ a x c out, env = a ++ x :: c → Ja b (a.length : Int) = some false → step (out, (a.length : Int)) = some (.next (out, QZ ((a.length : Int) + 1))))
    (hon : ∀ a x c out, env = a ++ x :: c → Ja b (a.length : Int) = some true → out.length + (f x).length ≤ ((env.map f).flatten).length → step (out, (a.length : Int)) = some (.next (out ++ f x, QZ ((a.length : Int) + 1))))
    (hout : ∀ s, step (s, (env.length : Int)) = some (.done s)) : Qw step QF ([], 0) = some ((Ke b 0 env).map f).flatten := by
  obtain ⟨r, e, rfl⟩ := Jx (step := step) env (fun i s => (s, i)) (fun a s => s = ((Ke b 0 a).map f).flatten) (fun r => r = ((Ke b 0 env).map f).flatten) hl
    (fun a x c s e hs => by
      have hal := Z7 e
      have hab : a.length < b.length := by omega
      have h1 : b[a.length]? = some b[a.length] := List.getElem?_eq_getElem hab
      have hsl : Ke b 0 (a ++ [x]) = Ke b 0 a ++ cond (b[a.length]? == some true) [x] [] := by
        rw [sel_app, Nat.zero_add]
        rfl
      cases h2 : b[a.length] with
      | true =>
        rw [h2] at h1
        refine .inr ⟨s ++ f x, hon a x c s e h1 ?_, by rw [hs, hsl, h1]; simp⟩
        have h3 := sel_flat f b a 0
        rw [hs, e, List.map_append, List.flatten_append, List.length_append, List.map_cons, List.flatten_cons, List.length_append]
        omega
      | false =>
        rw [h2] at h1
        exact .inr ⟨s, hoff a x c s e h1, by rw [hs, hsl, h1]; simp⟩)
    (fun s hs => ⟨s, hout s, hs⟩) [] rfl
  exact e
inductive RSays {β : Type} (d : Bool) (f : Dcl → List β) (env : List Dcl) (nm : List U3) : List β × Int → Prop
  | twice (h : ¬ (QE env).Nodup) : RSays d f env nm ([], 8)
  | none (h : (QE env).Nodup) (h2 : ¬ JV env env) : RSays d f env nm ([], 9)
  | miss (h : (QE env).Nodup) (h2 : JV env env) (h3 : ¬ ∀ s ∈ nm, s ∈ QE env) : RSays d f env nm ([], 9)
  | ok (h : (QE env).Nodup) (h2 : JV env env) (h3 : ∀ s ∈ nm, s ∈ QE env) (b : List Bool) (hb : Least (U2 d (Yw env)) env.length (ZV env nm) b) : RSays d f env nm (((Ke b 0 env).map f).flatten, 0)
theorem Least.of_iff {E E' : Nat → Nat → Prop} {n : Nat} {S S' : Nat → Prop} {b : List Bool} (h : Least E n S b) (hE : ∀ i j, E i j ↔ E' i j) (hS : ∀ i, S i ↔ S' i) : Least E' n S' b :=
  ⟨h.len, fun i hi => h.start i ((hS i).2 hi), fun i j e => h.cl i j ((hE i j).2 e), fun C WE hE' => h.min C (fun i hi => WE i ((hS i).1 hi)) fun i j e => hE' i j ((hE i j).1 e)⟩
theorem m12_eq (env : List Dcl) (nm : List U3) (hl : YY env ≤ 100000000) (hn : env.length ≤ 1000) (hm : nm.length ≤ 900000000) : ∃ r, XT env nm = some r ∧ RSays true Ju env nm r := by
  have hel := ZT env
  unfold XT
  obtain ⟨r, e, hr⟩ := newGraph_eq (γ := Unit) env hl
  rw [show Qw (m12_l1 env) QF (0, gmNil) = Qw (Kl env) QF (0, gmNil) from rfl]
  rw [show (fun (o6 : WZ) => Option.bind (Qw (X2 env o6) QF (0, ([] : List (List Int)))) (Sum.elim (fun (o7 : List (List Int)) => some (Sum.inl (o7, o6) : (List (List Int) × WZ) ⊕ Unit ⊕ Unit)) (fun o => some o))) = (fun (o6 : WZ) => Option.bind (Qw (Kk env o6) QF (0, ([] : List (List Int)))) (Sum.elim (fun (o7 : List (List Int)) => some (.inl (o7, o6))) (fun o => some o))) from rfl]
  rw [e, Option.bind_some]
  rcases hr with ⟨h1, rfl⟩ | ⟨h1, h2, rfl⟩ | ⟨h1, h2, M, rfl, hM⟩
  · exact ⟨_, rfl, .twice h1⟩
  · exact ⟨_, rfl, .none h1 h2⟩
  · have hg := graph_gr h2
    obtain ⟨rv, e1, hrv, hE⟩ := m36_eq hg hn
    have hnn : env.length * env.length ≤ 1000 * 1000 := Nat.mul_le_mul hn hn
    obtain ⟨r, e2, hr⟩ := visits_eq (g := Yw env) (M := M) rfl hrv (by omega) (by omega) hM nm hm
    dsimp only [Sum.elim]
    rw [e1, Option.bind_some, hrv.1]
    simp only [Int.toNat_natCast]
    rw [show decide (0 ≤ (env.length : Int)) = true from by rw [decide_eq_true_eq]; omega]
    simp only [cond_true]
    rw [Jq (by omega), e2, Option.bind_some]
    rcases hr with ⟨h3, b, rfl, hb⟩ | ⟨h3, rfl⟩
    · simp only [Sum.elim_inl, Sum.elim_inr, Option.bind_some]
      rw [sel_loop b Ju env (by omega) hb.len]
      · exact ⟨_, rfl, .ok h1 h2 h3 b (hb.of_iff hE fun _ => Iff.rfl)⟩
      · intro a x c out e3 e4
        unfold GI
        dsimp only
        rw [e4, show decide ((a.length : Int) < (env.length : Int)) = true from by rw [e3, Jd], show Ja env (a.length : Int) = some x from by rw [e3, QY]]
        simp only [cond_true, Option.bind_some, Int.toNat_natCast]
        rw [hrv.1, YG hb.len]; rfl
      · intro a x c out e3 e4 h5
        have hx : x ∈ env := by rw [e3]; simp
        have hxs := KJ hx
        have hal := all_len env
        unfold QE at hal
        unfold GI
        dsimp only
        rw [e4, show decide ((a.length : Int) < (env.length : Int)) = true from by rw [e3, Jd], show Ja env (a.length : Int) = some x from by rw [e3, QY]]
        simp only [cond_true, Option.bind_some, Int.toNat_natCast]
        rw [hrv.1, YG hb.len, m37_eq x (by omega), Option.bind_some, Jq (by omega)]
      · intro s
        unfold GI
        dsimp only
        rw [Jm]; rfl
    · exact ⟨_, rfl, .miss h1 h2 h3⟩
theorem m10_some (nm : List U3) : ∃ b, W1 nm = some b ∧ (b = true → nm.length ≤ 20) := by
  unfold W1
  by_cases h : nm.length ≤ 20
  · obtain ⟨r, e⟩ : ∃ r, Qw (G6 nm) QF 0 = some r := by
      obtain ⟨r, e, -⟩ := Jx (step := G6 nm) nm (fun i (s : Unit) => i) (fun _ _ => True) (fun _ => True) (by omega)
        (fun a x c s e _ => by
          unfold G6
          rw [e, Jd, QY]
          simp only [cond_true, Option.bind_some]
          cases decide (100 < (x.length : Int)) with
          | true => exact .inl ⟨_, rfl, trivial⟩
          | false => exact .inr ⟨(), rfl, trivial⟩) (fun s _ => ⟨_, by unfold G6; rw [Jm]; rfl, trivial⟩) () trivial
      exact ⟨r, e⟩
    rw [e, show decide ((nm.length : Int) ≤ 20) = true from by rw [decide_eq_true_eq]; omega]
    cases r with
    | inl u => exact ⟨_, rfl, fun _ => h⟩
    | inr u => exact ⟨_, rfl, fun _ => h⟩
  · rw [show decide ((nm.length : Int) ≤ 20) = false from by rw [decide_eq_false_iff_not]; omega]
    exact ⟨false, rfl, fun h => by cases h⟩
theorem m14_self (l : List U3) (h : l.length ≤ 900000000) : XS l l = some true := by
  unfold XS
  rw [show ((l.length : Int) != (l.length : Int)) = false by simp]
  obtain ⟨r, e, rfl⟩ := Jx (step := GH l l) l (fun i (s : Unit) => i) (fun _ _ => True) (fun r => r = .inl ()) h
    (fun a x c s e _ => .inr ⟨(), by
      unfold GH
      rw [e, Jd, QY]
      simp [beqB], trivial⟩) (fun s _ => ⟨_, by unfold GH; rw [Jm]; rfl, rfl⟩) () trivial
  rw [e]; rfl
end Go.Proofs.Ytijcchddnnnmdaa
namespace Go.Proofs.Ytijcchddnnnmdaa
open Go.RowKit
set_option linter.unusedSimpArgs false
set_option linter.unusedVariables false
set_option linter.unusedSectionVars false
section
variable {E : Env} {V : Vu} {hp : List (Nat × HB)} {tk : List (Nat × Option Tok)} {w : World}
theorem grow_alloc (h : HRel E V hp tk w) (o : Obj) : K0 w (w.alloc o) ∧ V.Grow V w (w.alloc o) := by
  have hx : K0 w (w.alloc o) := ⟨rfl, rfl, rfl, by simp, fun k hk _ => Below.heap_alloc w o k hk⟩
  exact ⟨hx, Nat.le_refl _, fun _ _ => rfl, fun _ _ => rfl, fun _ _ _ _ => rfl, fun _ _ h => h, fun _ _ h => .inl h, fun b o' hs => Nat.lt_of_lt_of_le (h.sz b o' hs) hx.size⟩
theorem HRel.ownAt (h : HRel E V hp tk w) {i : Nat} (hi : i < V.nx) (hι : V.ι i = w.heap.size) (o : Obj) (B : HB) (hB : B.rel V (w.alloc o) o) : HRel E V ((i, B) :: hp) tk (w.alloc o) := by
  obtain ⟨hx, hg⟩ := grow_alloc h o
  have H := h.later hx hg
  have hsize : ∀ j A, Ww hp j = some A → V.ι j < w.heap.size := fun j A hj => by
    obtain ⟨-, o1, ho1, -⟩ := h.own j A hj
    exact Y6 ho1
  refine ⟨H.ext, H.le0, H.sz, H.sub, ?_, ?_, ?_, ?_, H.tki⟩
  · intro j A hj
    rw [Qv] at hj
    split at hj
    · rename_i e; subst e; cases hj
      exact ⟨hi, o, by rw [hι]; exact heap_alloc_new w o, hB⟩
    · exact H.own j A hj
  · intro j k A A' hj hk e
    rw [Qv] at hj hk
    split at hj
    · rename_i e1; subst e1
      split at hk
      · assumption
      · have := hsize k A' hk; omega
    · split at hk
      · rename_i e2; subst e2
        have := hsize j A hj; omega
      · exact H.inj j k A A' hj hk e
  · intro j A hj
    rw [Qv] at hj
    split at hj
    · rename_i e; subst e
      rw [hι]
      exact ⟨.inl h.ext.size, fun o' hs => by have := h.sz _ _ hs; omega⟩
    · exact H.new j A hj
  · intro j T hj
    obtain ⟨h1, hcu, xs, hown, hgg⟩ := H.tok j T hj
    refine ⟨h1, hcu, xs, hown, fun g hgb => ⟨(hgg g hgb).1, (hgg g hgb).2.1, fun k A hk => ?_⟩⟩
    rw [Qv] at hk
    split at hk
    · rename_i e; subst e
      obtain ⟨h1', hcu', xs', hown', -⟩ := h.tok j T hj
      have := (hown'.1.lt g hgb).2
      omega
    · exact (hgg g hgb).2.2 k A hk
theorem HRel.aside (h : HRel E V hp tk w) (o : Obj) (B : HB) (hB : ∀ V' : Vu, B.rel V' (w.alloc o) o) :
    HRel E ((V.add (w.heap.size + 1)).add w.heap.size) ((V.nx + 1, B) :: hp) tk (w.alloc o) ∧ V.Le ((V.add (w.heap.size + 1)).add w.heap.size) w (w.alloc o) ∧
    ((V.add (w.heap.size + 1)).add w.heap.size).ι V.nx = (w.alloc o).heap.size ∧ ((V.add (w.heap.size + 1)).add w.heap.size).ι (V.nx + 1) = w.heap.size := by
  have hx0 : K0 w w := ExtM.refl _ _
  have hg0 := V.add_grow (w.heap.size + 1) h.sz hx0
  have H0 := h.later hx0 hg0
  obtain ⟨hx, -⟩ := grow_alloc h o
  refine ⟨H0.addOwn o B (hB _), (h.le hx0 hg0).trans (H0.le hx ((V.add (w.heap.size + 1)).add_grow w.heap.size H0.sz hx)), ?_, (V.add (w.heap.size + 1)).add_at _⟩
  show (if V.nx = V.nx + 1 then w.heap.size else if V.nx = V.nx then w.heap.size + 1 else V.ι V.nx) = _
  rw [if_neg (by omega), if_pos rfl, World.size_alloc]
end
theorem wpIn_alloc {E : Env} {dd : Option Tmp} {ty : TypeId} {pos : String} {af : Array Edge} {g : Option (Nat × Bool)} {t : TypeId} {zs : List Value} (hz : Jk E.P t = some zs) {a : Act} {w : World} {ro : Option Nat} {n : Nat} {K : Act → World → Prop} {Q : Exit → Act → World → Prop}
    (hK : K (a.put dd (.pointer (some ⟨w.heap.size, 0, none⟩))) (w.alloc (.cells zs.toArray t))) : Oper.wpIn (U1 ro) n E.P (⟨dd, .alloc t, ty, pos, af, g⟩ : Oper) a w K Q := by
  refine ⟨fun _ _ => trivial, ?_⟩
  rw [Oper.semAt_eq _ _ _ (by intro c h; cases h)]
  obtain ⟨z, hz1, hz2⟩ := YL hz
  have hrun : (execOp a.eval ⟨dd, .alloc t, ty, pos, af, g⟩).run E.P w = .ok (.value (.pointer (some ⟨w.heap.size, 0, none⟩))) (w.alloc (.cells zs.toArray t)) := by
    simp [execOp, Instr.alloc, hz1, newVar, newRow, hz2]
  rw [hrun]
  exact hK
abbrev XF (t : TypeId) (zs : List Value) : HB := .cells t (zs.map fun z => .d (.v z))
def PairOK (E : Env) (ops : Array Oper) (st : St) (fx : List (Nat × TV)) (effs : List Nat) (dns : List (List Nat)) (ms : List Mem) (js p q : Nat) (m : Mem) : Prop :=
  ∃ (dp : Tmp) (tp typ : TypeId) (posp : String) (afp : Array Edge) (zp : List Value) (dq : Tmp) (tq tyq : TypeId) (posq : String) (afq : Array Edge) (zq : List Value) (j2 : Nat) (d2 : List Nat),
    ops[p]? = some ⟨some dp, .alloc tp, typ, posp, afp, none⟩ ∧ ops[q]? = some ⟨some dq, .alloc tq, tyq, posq, afq, none⟩ ∧
    Jk E.P tp = some zp ∧ zp.all (·.oneCell') = true ∧ Jk E.P tq = some zq ∧ zq.all (·.oneCell') = true ∧
    Ww fx p = some (.v (.one (.ptr st.nx 0))) ∧ Ww fx q = some (.v (.one (.ptr (st.nx + 1) 0))) ∧ Kq st (some dp) = true ∧ Kq st (some dq) = true ∧ effs.contains p = true ∧ effs.contains q = true ∧
    dns[js]? = some [q] ∧ ms[js]? = some m ∧ m = ⟨(st.nx + 1, XF tq zq) :: st.hp, st.tk, st.nx + 2⟩ ∧
    dns[j2]? = some d2 ∧ Gd d2 [q] p = true ∧ ms[j2]? = some ⟨(st.nx + 1, XF tq zq) :: (st.nx, XF tp zp) :: st.hp, st.tk, st.nx + 2⟩
def RdOp (E : Env) (ops : Array Oper) (st : St) (fx : List (Nat × TV)) (i : Nat) (m : Mem) : Prop :=
  ∃ o x, ops[i]? = some o ∧ Ww fx i = some x ∧ Kq st o.dst = true ∧
    ((JO ops (JR ops st fx i m).tm o = some true ∧ RO E o (JR ops st fx i m) x) ∨ (JO ops (JR ops st fx i m).tm o = some false ∧ x = .tup []))
section
variable {E : Env} {ops : Array Oper} {st : St} {fx : List (Nat × TV)} {effs : List Nat} {dns : List (List Nat)} {ms : List Mem} {listed : Array Bool} {a : Act} {w : World} {V : Vu} {j : Nat} {d : List Nat} {m : Mem}
theorem XC.pairOrder {ro : Option Nat} {n : Nat} {Q : Exit → Act → World → Prop} {id : Nat} {ops : Array Oper} {st : St} (fx : List (Nat × TV)) (effs : List Nat) (dns : List (List Nat)) (ms : List Mem) (jE : Nat) {mE : Mem} (js p q : Nat) {mS : Mem} (hm : E.P.follows .mixedOrders = true) (hB : XX ops effs = true) (h0 : ms[0]? = some st.mem) (hd0 : dns[0]? = some []) (hE : ms[jE]? = some mE)
    (hfin : ∀ (j : Nat) (d : List Nat), dns[j]? = some d → (∀ e ∈ effs, e ∈ d) → j = jE)
    (hops : ∀ (i j : Nat) (d : List Nat) (m : Mem), i < ops.size → dns[j]? = some d → ms[j]? = some m → X9 ops effs d i = true → d ≠ [q] → ¬ (d = [] ∧ i = q) → SwOp E ops st fx effs dns ms i d m)
    (hP : PairOK E ops st fx effs dns ms js p q mS) (h0u : ∀ j, dns[j]? = some [] → j = 0) (hsu : ∀ j, dns[j]? = some [q] → j = js)
    (hrd : ∀ i, i < ops.size → X9 ops effs [q] i = true → i ≠ p → effs.contains i = false ∧ RdOp E ops st fx i mS)
    (k : XQ E Q .normal (Gn ops st fx mE)) : XC E ro n Q (.region id ops true) st := by
  intro V a w hr
  obtain ⟨dp, tp, typ, posp, afp, zp, dq, tq, tyq, posq, afq, zq, j2, d2, hop, hoq, hzp, hzp1, hzq, hzq1, hfp, hfq, hdp, hdq, hcp, hcq, hds, hms, hmS, hd2, hs2, hm2⟩ := hP
  subst hmS
  have hjs0 : js ≠ 0 := fun e => by rw [e, hd0] at hds; cases hds
  refine wpIn_region_any hm ?_
  have hr' := hr.drew
  have hB' := hB
  simp only [XX, Bool.and_eq_true, decide_eq_true_eq] at hB'
  obtain ⟨⟨hdag, -⟩, heff⟩ := hB'
  have hrdy : ∀ listed : Array Bool, listed.size = ops.size → Region.ready .any ops listed = [] → ∀ i, i < ops.size → listed.getD i false = true := by
    intro listed hsz hrd i
    induction i using Nat.strongRecOn with
    | ind i ih =>
      intro hi
      cases hc : listed.getD i false with
      | true => rfl
      | false =>
        exfalso
        have hnm : i ∉ Region.ready .any ops listed := by rw [hrd]; exact List.not_mem_nil
        refine hnm (mem_ready.2 ?_)
        obtain ⟨o, ho⟩ : ∃ o, ops[i]? = some o := ⟨_, Array.getElem?_eq_getElem hi⟩
        refine ⟨getD_in (by rw [hsz]; exact hi) hc, o, ho, fun e he hb => ?_⟩
        have hem : e.on ∈ Jv ops i := (Zx ho).2 ⟨e, he, hb, rfl⟩
        have hlt := List.all_eq_true.1 (List.all_eq_true.1 hdag i (by simpa using hi)) _ hem
        have hlt' : e.on < i := by simpa using hlt
        exact ih e.on hlt' (by omega)
  have fin : ∀ (listed : Array Bool) (a : Act) (w : World) (V : Vu) (j : Nat) (d : List Nat) (m : Mem), SwInv E ops st fx effs dns ms listed a w V j d m → (∀ i, i < ops.size → listed.getD i false = true) → Q .normal a w := by
    intro listed a w V j d m hI hall
    have hjk : j = jE := hfin j d hI.stage fun e he => by
      by_cases hed : e ∈ d
      · exact hed
      · exfalso
        have h2 := hI.todo e he hed
        have h3 := hall e (by simpa using List.all_eq_true.1 heff e he)
        rw [h2] at h3; cases h3
    subst hjk
    have e1 : m = mE := Option.some.inj (hI.mem.symm.trans hE)
    subst e1
    refine k V a w ⟨hI.rel.h, hI.rel.nx, hI.rel.nt, hI.rel.df, fun t x hx => ?_⟩
    simp only [Gn, YO] at hx
    split at hx
    · rename_i y hy; cases hx
      obtain ⟨i, h1, h2, h3⟩ := ZI _ t x hy
      exact hI.fact i (hall i (by simpa using h1)) t x h2 h3
    · exact hI.rel.tm t x hx
  have main : ∀ (fuel : Nat) (listed : Array Bool) (a : Act) (w : World) (V : Vu) (j : Nat) (d : List Nat) (m : Mem), SwInv E ops st fx effs dns ms listed a w V j d m →
      (j = js → V.ι st.nx = w.heap.size) →
      ops.size ≤ fuel + ((List.range ops.size).filter fun i => listed.getD i false).length → wpAnyIn (U1 ro) n E.P .any ops Q fuel listed a w := by
    intro fuel
    induction fuel with
    | zero =>
      intro listed a w V j d m hI _ hc
      have hall : ∀ i, i < ops.size → listed.getD i false = true := by
        intro i hi
        have h1 : ((List.range ops.size).filter fun i => listed.getD i false).length = (List.range ops.size).length := by
          have := List.length_filter_le (fun i => listed.getD i false) (List.range ops.size)
          simp only [List.length_range] at this ⊢; omega
        exact List.length_filter_eq_length_iff.1 h1 i (by simpa using hi)
      refine ⟨?_, fin listed a w V j d m hI hall⟩
      unfold Region.ready
      rw [List.filter_eq_nil_iff]
      intro i hi
      have hi' : i < ops.size := by simpa using hi
      have : listed.getD i true = true := by
        have h1 := hall i hi'
        have : i < listed.size := by rw [hI.size]; exact hi'
        simp [this] at h1 ⊢; exact h1
      rw [this]; simp
    | succ fuel ih =>
      intro listed a w V j d m hI hS hc
      refine ⟨fun hrd => fin listed a w V j d m hI (hrdy listed hI.size hrd), fun i hi => ?_⟩
      obtain ⟨hun, o, ho, hdeps⟩ := mem_ready.1 hi
      have hlt : i < ops.size := (Array.getElem?_eq_some_iff.1 ho).1
      have hno : listed.getD i false = false := by
        have : i < listed.size := by rw [hI.size]; exact hlt
        simp [this] at hun ⊢; exact hun
      have hd : ∀ k ∈ Jv ops i, listed.getD k false = true := fun k hk => by
        obtain ⟨e, he, hb, rfl⟩ := (Zx ho).1 hk
        exact hdeps e he hb
      have hmay := hI.may hlt hno hd
      have hrel := hI.depsRel hno hd
      have hcnt : ops.size ≤ fuel + ((List.range ops.size).filter fun i' => (listed.setIfInBounds i true).getD i' false).length := by
        have h1 : ((List.range ops.size).filter fun i => listed.getD i false).length < ((List.range ops.size).filter fun i' => (listed.setIfInBounds i true).getD i' false).length := by
          have key : ∀ (l : List Nat), l.Nodup → i ∈ l → (l.filter fun i => listed.getD i false).length < (l.filter fun i' => (listed.setIfInBounds i true).getD i' false).length := by
            have hget : ∀ k, (listed.setIfInBounds i true).getD k false = if k = i then true else listed.getD k false := fun k => by
              by_cases hk : k = i
              · subst hk
                have : k < listed.size := by rw [hI.size]; exact hlt
                simp [this]
              · rw [if_neg hk, getD_set_ne false (fun e => hk e.symm)]
            have hle : ∀ (l : List Nat), (l.filter fun i => listed.getD i false).length ≤ (l.filter fun i' => (listed.setIfInBounds i true).getD i' false).length := by
              intro l
              induction l with
              | nil => exact Nat.le_refl _
              | cons p l ih =>
                rw [List.filter_cons, List.filter_cons, hget]
                by_cases hp : p = i
                · subst hp; rw [hno]; simp only [if_true]; rw [List.length_cons]; simp only [Bool.false_eq_true, if_false]; omega
                · rw [if_neg hp]; split <;> (try rw [List.length_cons, List.length_cons]) <;> omega
            intro l
            induction l with
            | nil => intro _ h; cases h
            | cons p l ih =>
              intro hnd' hi'
              rw [List.nodup_cons] at hnd'
              rw [List.filter_cons, List.filter_cons, hget]
              rcases List.mem_cons.1 hi' with rfl | hi'
              · rw [hno]; simp only [if_true, Bool.false_eq_true, if_false]; rw [List.length_cons]; have := hle l; omega
              · have := ih hnd'.2 hi'
                have hp : p ≠ i := fun e => hnd'.1 (by rw [e]; exact hi')
                rw [if_neg hp]; split <;> (try rw [List.length_cons, List.length_cons]) <;> omega
          exact key _ List.nodup_range (by simpa using hlt)
        omega
      unfold wpOpIn
      simp only [ho]
      by_cases hjs : j = js
      · subst hjs
        have ed : d = [q] := Option.some.inj (hI.stage.symm.trans hds)
        subst ed
        have em : m = _ := Option.some.inj (hI.mem.symm.trans hms)
        subst em
        have hι := hS rfl
        by_cases hip : i = p
        · subst hip
          rw [hop] at ho; cases ho
          rw [if_pos (Y4 (b := true) hrel rfl)]
          refine wpIn_alloc hzp ?_
          have hqp : st.nx < V.nx := by rw [hI.rel.nx]; show st.nx < st.nx + 2; omega
          have H := hI.rel.h.ownAt hqp hι (.cells zp.toArray tp) (XF tp zp) ⟨_, rfl, Zu hzp1⟩
          obtain ⟨hxa, hga⟩ := grow_alloc hI.rel.h (.cells zp.toArray tp)
          have hj2 : j2 ≠ j := fun e => by
            subst e
            rw [hds] at hd2
            cases hd2
            simp only [X9, Bool.and_eq_true, Bool.not_eq_true'] at hmay
            simp only [Gd, Bool.and_eq_true] at hs2
            rw [hs2.2] at hmay
            exact absurd hmay.2 Bool.noConfusion
          refine ih _ _ _ V j2 d2 _ (hI.step hB hlt hno hop hfp hdp (.inl ⟨hcp, hs2⟩) hd2 hm2 (H.congr (fun t => ?_) (fun _ => rfl)) hI.rel.nx (hI.rel.h.le hxa hga) ⟨hqp, by rw [hι]⟩ hd) (fun e => absurd e hj2) hcnt
          simp only [Qv]
          by_cases h1 : st.nx = t
          · have h2 : ¬ st.nx + 1 = t := by omega
            repeat (first | rw [if_pos h1] | rw [if_neg h2])
          · simp only [h1, if_false]
        · obtain ⟨hce, o', x, ho', hx, hdst, hcase⟩ := hrd i hlt hmay hip
          rw [ho] at ho'; cases ho'
          rcases hcase with ⟨hw, hro⟩ | ⟨hw, rfl⟩
          · rw [if_pos (Y4 hrel hw)]
            exact wpIn_of_ro hro hrel fun v hxv => ih _ _ _ V j _ _ (hI.step hB hlt hno ho hx hdst (.inr ⟨hce, rfl⟩) hI.stage hI.mem hI.rel.h hI.rel.nx (Vu.Le.refl _ _) hxv hd) (fun _ => hι) hcnt
          · rw [if_neg (by rw [Y4 hrel hw]; exact Bool.false_ne_true)]
            exact ⟨fun _ _ => trivial, ih _ _ _ V j _ _ (hI.step hB hlt hno ho hx hdst (.inr ⟨hce, rfl⟩) hI.stage hI.mem hI.rel.h hI.rel.nx (Vu.Le.refl _ _) Zr hd) (fun _ => hι) hcnt⟩
      · by_cases hfst : d = [] ∧ i = q
        · obtain ⟨ed, ei⟩ := hfst
          subst ed; subst ei
          have ej : j = 0 := h0u j hI.stage
          subst ej
          have em : m = st.mem := Option.some.inj (hI.mem.symm.trans h0)
          subst em
          rw [hoq] at ho; cases ho
          rw [if_pos (Y4 (b := true) hrel rfl)]
          refine wpIn_alloc hzq ?_
          obtain ⟨H, L, e1, e2⟩ := hI.rel.h.aside (.cells zq.toArray tq) (XF tq zq) (fun V' => ⟨_, rfl, Zu hzq1⟩)
          have hnx : V.nx = st.nx := hI.rel.nx
          rw [hnx] at H e1 e2
          refine ih _ _ _ _ js [i] _ (hI.step hB hlt hno hoq hfq hdq (.inl ⟨hcq, by simp [Gd]⟩) hds hms H (by show V.nx + 1 + 1 = st.nx + 2; omega) L ⟨by show st.nx + 1 < V.nx + 1 + 1; omega, by rw [e2]⟩ hd) (fun _ => e1) hcnt
        · have hdq' : d ≠ [q] := fun e => hjs (hsu j (by rw [← e]; exact hI.stage))
          obtain ⟨o', x, ho', hx, hdst, hcase⟩ := hops i j d m hlt hI.stage hI.mem hmay hdq' hfst
          rw [ho] at ho'; cases ho'
          rcases hcase with ⟨hw, m', hok, hm'⟩ | ⟨hw, rfl, hc'⟩
          · rw [if_pos (Y4 hrel hw)]
            refine hok V a w hrel ro n _ Q (fun V' w' v H hn L hxv => ?_)
            rcases hm' with ⟨hce, j', d', hs1, hs2', hm'⟩ | ⟨hce, hm'⟩
            · refine ih _ _ _ V' j' d' m' (hI.step hB hlt hno ho hx hdst (.inl ⟨hce, hs2'⟩) hs1 hm' H hn L hxv hd) (fun e => ?_) hcnt
              exfalso
              subst e
              rw [hds] at hs1; cases hs1
              simp only [Gd, Bool.and_eq_true, List.contains_eq_mem, List.all_eq_true, decide_eq_true_eq, List.mem_singleton] at hs2'
              simp only [X9, Bool.and_eq_true, Bool.not_eq_true', List.contains_eq_mem, decide_eq_false_iff_not] at hmay
              refine hfst ⟨?_, hs2'.2⟩
              cases d with
              | nil => rfl
              | cons y r =>
                exfalso
                have h1 := hs2'.1.2 y (by simp)
                exact hmay.2 (by rw [hs2'.2, ← h1]; simp)
            · subst hm'
              exact ih _ _ _ V' j d m' (hI.step hB hlt hno ho hx hdst (.inr ⟨hce, rfl⟩) hI.stage hI.mem H hn L hxv hd) (fun e => absurd e hjs) hcnt
          · rw [if_neg (by rw [Y4 hrel hw]; exact Bool.false_ne_true)]
            exact ⟨fun _ _ => trivial, ih _ _ _ V j d m (hI.step hB hlt hno ho hx hdst (.inr ⟨hc', rfl⟩) hI.stage hI.mem hI.rel.h hI.rel.nx (Vu.Le.refl _ _) Zr hd) (fun e => absurd e hjs) hcnt⟩
  refine main ops.size _ a _ V 0 [] st.mem ⟨by simp, fun i hi => ?_, hd0, fun e he => by simp at he, fun e _ _ => getD_replicate_false _ _, h0, ⟨hr'.h, hr'.nx, hr'.nt, hr'.df, fun t y hy => hr'.tm t y (Km _ _ _ hy).1⟩, fun i hi => ?_, fun t y hy _ => hr'.tm t y hy⟩ (fun e => absurd e.symm hjs0) (by omega)
  · rw [getD_replicate_false] at hi; cases hi
  · rw [getD_replicate_false] at hi; cases hi
end
section
variable {E : Env} {ops : Array Oper} {st : St} {effs : List Nat} {dns : List (List Nat)}
def AllRd (E : Env) (ops : Array Oper) (st : St) (fx : List (Nat × TV)) (m : Mem) : List Nat → Prop
  | [] => True
  | i :: r => RdOp E ops st fx i m ∧ AllRd E ops st fx m r
theorem AllRd.get {fx : List (Nat × TV)} {m : Mem} : ∀ {l : List Nat} {i : Nat}, AllRd E ops st fx m l → l.contains i = true → RdOp E ops st fx i m
  | [], i, _, h => by cases h
  | a :: r, i, ha, h => by
    simp only [List.contains_cons, Bool.or_eq_true, beq_iff_eq] at h
    rcases h with h | h
    · cases h; exact ha.1
    · exact AllRd.get ha.2 h
def exP (ops : Array Oper) (effs : List Nat) (dns : List (List Nat)) (ex : List (Nat × Nat)) (js q : Nat) : Bool :=
  (List.range ops.size).all fun i => (List.range dns.length).all fun j => !(X9 ops effs (dns.getD j []) i) || (j == js || (j == 0 && i == q) || j == K8 effs i || ex.contains (i, j))
def rdP (ops : Array Oper) (effs : List Nat) (p q : Nat) (rd : List Nat) : Bool :=
  (List.range ops.size).all fun i => !(X9 ops effs [q] i) || (i == p || (rd.contains i && !(effs.contains i)))
def onlyP (dns : List (List Nat)) (js q : Nat) : Bool := (List.range dns.length).all fun j => (j == 0 || !((dns.getD j []).isEmpty)) && (j == js || !(dns.getD j [] == [q]))
theorem XC.pairRun {ro : Option Nat} {n id : Nat} {Q : Exit → Act → World → Prop} (effs : List Nat) (dns : List (List Nat)) (ex : List (Nat × Nat)) (js p q : Nat) (rd : List Nat) (hm : E.P.follows .mixedOrders = true) (hB : XX ops effs = true) (hex : exP ops effs dns ex js q = true) (hrp : rdP ops effs p q rd = true) (hop : onlyP dns js q = true) (hho : homeS ops effs dns = true) (hfi : finS effs dns = true) (hd0 : dns[0]? = some []) (hlen : ((List.range' 0 ops.size).filter effs.contains).length = effs.length)
    (h : RunA E ops st effs (fun fx ms => ∃ xm : List Mem, AllSw E ops st effs dns fx (ms.reverse ++ xm) ex ∧ (∃ mS, PairOK E ops st fx effs dns (ms.reverse ++ xm) js p q mS ∧ AllRd E ops st fx mS rd) ∧ ∃ mE r, ms = mE :: r ∧ XQ E Q .normal (Gn ops st fx mE)) (List.range' 0 ops.size) [] [st.mem]) : XC E ro n Q (.region id ops true) st := by
  have hB' := hB
  simp only [XX, Bool.and_eq_true] at hB'
  obtain ⟨⟨hdag, -⟩, -⟩ := hB'
  have hdag' : ∀ i, i < ops.size → ∀ k ∈ Jv ops i, k < i := fun i hi k hk => by
    have := List.all_eq_true.1 (List.all_eq_true.1 hdag i (by simpa using hi)) k hk
    simpa using this
  obtain ⟨fx', ms', ⟨xm, hall, ⟨mS, hpair, hard⟩, mE, r, hmE, hQ⟩, -, hms, hrun⟩ := run_home hdag' _ 0 [] st.mem [] h (fun p hp => by cases hp) (by rw [Nat.sub_zero]) (Nat.zero_le _)
  rw [List.append_nil] at hall hpair hard hQ
  rw [hlen] at hms
  have hl : ((ms' ++ [st.mem]).reverse).length = effs.length + 1 := by simp [hms]
  have hin : ∀ {q : Nat} {m : Mem}, (ms' ++ [st.mem]).reverse[q]? = some m → ((ms' ++ [st.mem]).reverse ++ xm)[q]? = some m := fun {q m} hq => by
    rw [List.getElem?_append_left (List.getElem?_eq_some_iff.1 hq).1]; exact hq
  refine XC.pairOrder fx' effs dns ((ms' ++ [st.mem]).reverse ++ xm) effs.length (mE := mE) js p q (mS := mS) hm hB (hin (by simp)) hd0 ?_ (fun j d hj hall => ?_) (fun i j d m hi hj hmj hmay hnq hn0 => ?_) hpair (fun j hj => ?_) (fun j hj => ?_) (fun i hi hmay hip => ?_) hQ
  · refine hin ?_
    rw [hmE]
    have : r.length = effs.length := by have := congrArg List.length hmE; simp at this; omega
    rw [List.reverse_cons, List.getElem?_append_right (by simp; omega)]; simp [this]
  · have hlt := (List.getElem?_eq_some_iff.1 hj).1
    have h1 := List.all_eq_true.1 hfi j (by simpa using hlt)
    have hd : dns.getD j [] = d := by rw [List.getD_eq_getElem?_getD, hj]; rfl
    rw [hd] at h1
    have h2 : (effs.all fun e => d.contains e) = true := List.all_eq_true.2 fun e he => by simpa using hall e he
    rw [h2] at h1
    simpa using h1
  · have hlt := (List.getElem?_eq_some_iff.1 hj).1
    have hd : dns.getD j [] = d := by rw [List.getD_eq_getElem?_getD, hj]; rfl
    have h1 := List.all_eq_true.1 (List.all_eq_true.1 hex i (by simpa using hi)) j (by simpa using hlt)
    rw [hd, hmay] at h1
    have hjn : j ≠ js := fun e => by
      subst e
      obtain ⟨_, _, _, _, _, _, _, _, _, _, _, _, _, _, -, -, -, -, -, -, -, -, -, -, -, -, h9, -⟩ := hpair
      rw [hj] at h9
      exact hnq (Option.some.inj h9)
    have hjz : ¬ (j = 0 ∧ i = q) := fun e => by
      obtain ⟨rfl, rfl⟩ := e
      rw [hd0] at hj
      exact hn0 ⟨(Option.some.inj hj).symm, rfl⟩
    simp only [Bool.not_true, Bool.false_or, Bool.or_eq_true, Bool.and_eq_true, beq_iff_eq] at h1
    replace h1 : j = K8 effs i ∨ ex.contains (i, j) = true := by
      rcases h1 with ((h1 | h1) | h1) | h1
      · exact absurd h1 hjn
      · exact absurd h1 hjz
      · exact .inl h1
      · exact .inr h1
    rcases h1 with h1 | h1
    · obtain ⟨mi, h2, o, x, h3, h4, h5, h6⟩ := hrun i (List.mem_range'_1.2 ⟨Nat.zero_le _, by omega⟩)
      rw [List.append_nil] at h4 h6
      simp only [List.length_nil, Nat.zero_add, Nat.sub_zero] at h2 h6
      subst h1
      have e1 : mi = m := by
        have := hin h2
        unfold K8 at hmj
        rw [hmj] at this
        exact (Option.some.inj this).symm
      subst e1
      refine ⟨o, x, h3, h4, h5, ?_⟩
      rcases h6 with ⟨h6, m', h7, h8⟩ | h6
      · refine .inl ⟨h6, m', h7, ?_⟩
        cases hc : effs.contains i with
        | false => rw [hc] at h8; exact .inr ⟨rfl, by simpa using h8⟩
        | true =>
          rw [hc] at h8
          have h9 := List.all_eq_true.1 hho i (by simpa using hi)
          rw [hc, hj] at h9
          simp only [Bool.not_true, Bool.false_or] at h9
          split at h9
          · rename_i d1 d2 e2 e3
            cases e2
            exact .inl ⟨rfl, K8 effs i + 1, d2, e3, h9, hin (by simpa [K8] using h8)⟩
          · cases h9
      · exact .inr h6
    · obtain ⟨d', m', h2, h3, h4⟩ := hall.get h1
      rw [hj] at h2; cases h2
      rw [hmj] at h3; cases h3
      exact h4
  · have hlt := (List.getElem?_eq_some_iff.1 hj).1
    have h1 := List.all_eq_true.1 hop j (by simpa using hlt)
    rw [List.getD_eq_getElem?_getD, hj] at h1
    simp only [Option.getD_some, Bool.and_eq_true, Bool.or_eq_true, beq_iff_eq] at h1
    rcases h1.1 with h2 | h2
    · exact h2
    · simp at h2
  · have hlt := (List.getElem?_eq_some_iff.1 hj).1
    have h1 := List.all_eq_true.1 hop j (by simpa using hlt)
    rw [List.getD_eq_getElem?_getD, hj] at h1
    simp only [Option.getD_some, Bool.and_eq_true, Bool.or_eq_true, beq_iff_eq] at h1
    rcases h1.2 with h2 | h2
    · exact h2
    · simp at h2
  · have h1 := List.all_eq_true.1 hrp i (by simpa using hi)
    rw [hmay] at h1
    simp only [Bool.not_true, Bool.false_or, Bool.or_eq_true, Bool.and_eq_true, beq_iff_eq, Bool.not_eq_true'] at h1
    rcases h1 with h1 | ⟨h1, h2⟩
    · exact absurd h1 hip
    · exact ⟨h2, AllRd.get hard h1⟩
end
end Go.Proofs.Ytijcchddnnnmdaa
namespace Go.Proofs.Ytijcchddnnnmdaa
open Go.RowKit Go.Shelf
set_option linter.unusedSimpArgs false
set_option linter.unusedVariables false
theorem fo_42_1 : QX Try.prog 42 1 = some 1 := by kernel_rfl
theorem fo_42_3 : QX Try.prog 42 3 = some 3 := by kernel_rfl
theorem fo_45_0 : QX Try.prog 45 0 = some 0 := by kernel_rfl
theorem fo_48_2 : QX Try.prog 48 2 = some 2 := by kernel_rfl
theorem fo_48_5 : QX Try.prog 48 5 = some 13 := by kernel_rfl
theorem fo_87_2 : QX Try.prog 87 2 = some 6 := by kernel_rfl
theorem fo_89_2 : QX Try.prog 89 2 = some 6 := by kernel_rfl
theorem fo_102_0 : QX Try.prog 102 0 = some 0 := by kernel_rfl
theorem KB : QX Try.prog 102 1 = some 1 := by kernel_rfl
theorem ag_39 : Jl Try.prog 39 = some (false, 1) := by kernel_rfl
theorem ag_45 : Jl Try.prog 45 = some (true, 7) := by kernel_rfl
theorem X8 : Jl Try.prog 100 = some (false, 1) := by kernel_rfl
theorem ag_102 : Jl Try.prog 102 = some (true, 2) := by kernel_rfl
theorem ag_149 : Jl Try.prog 149 = some (true, 2) := by kernel_rfl
theorem GQ : J0 Try.prog 100 = some (149, 2) := by kernel_rfl
theorem ib_4 : KA Try.prog 4 = true := by kernel_rfl
theorem ip_149 : Kz Try.prog 149 = true := by kernel_rfl
theorem en_17 : J7 Try.prog 17 := enters_of Try.func17 (by kernel_rfl) rfl
theorem en_40 : J7 Try.prog 40 := enters_of Try.func40 (by kernel_rfl) rfl
theorem en_57 : J7 Try.prog 57 := enters_of Try.func57 (by kernel_rfl) rfl
theorem en_58 : J7 Try.prog 58 := enters_of Try.func58 (by kernel_rfl) rfl
theorem en_59 : J7 Try.prog 59 := enters_of Try.func59 (by kernel_rfl) rfl
theorem en_70 : J7 Try.prog 70 := enters_of Try.func70 (by kernel_rfl) rfl
theorem en_71 : J7 Try.prog 71 := enters_of Try.func71 (by kernel_rfl) rfl
theorem en_87 : J7 Try.prog 87 := enters_of Try.func87 (by kernel_rfl) rfl
def Gx (a0 : Lvl) (a1 : Lvl) (s1 : Int) : Option (LO Int (Unit ⊕ Bool)) :=
 cond (decide (s1 < (a0.vs.length : Int)))
   (Option.bind (Ja a0.vs s1) fun (x5 : U0) =>
 Option.bind (Ja a1.vs s1) fun (x6 : U0) =>
 cond (!((x5.1 == x6.1) && (x5.2 == x6.2)))
   (some (.done (.inr false)))
   (some (.next (QZ (s1 + 1)))))
   (some (.done (.inl ())))
def Wc (a0 : Lvl) (a1 : Lvl) : Option Bool :=
 Option.bind (cond (a0.c != a1.c)
   (some true)
   (some ((a0.vs.length : Int) != (a1.vs.length : Int)))) (fun (v1 : Bool) => cond v1
   (some false)
   (Option.bind (Qw (Gx a0 a1) QF 0) (Sum.elim (fun (o3 : Unit) => some true) (fun o => some o))))
set_option maxRecDepth 100000 in
set_option maxHeartbeats 2000000 in
theorem m87_ok (a0 : Lvl) (a1 : Lvl) (r : Bool) (h0 : Wc a0 a1 = some r) : Fun Try.prog 87 [.agg (WO a0), .agg (WO a1)] (QA [.one (WM r)]) := by
 unfold Wc at h0
 refine QU 9 38 Try.func87 rfl en_87 rfl (Wx rfl) (fun S w => ?_)
 simp only [Jb]
 refine Q2 <| Q0 <| Qa rfl rfl (Wx rfl) (Jc rfl) <| Qa rfl rfl (Wx rfl) (Jc rfl) <| Wo rfl rfl rfl <| Q3 <| Q1 <| Q2 <| Q2 ?_
 refine Jf (fun (v1 : Bool) => ⟨[(2, .v (.one (.ptr 0 0))), (3, .v (.one (.ptr 1 0))), (19, .v (.one (WM v1)))], [(0, .cells 102 (WO a0)), (1, .cells 102 (WO a1))], [], 2, 38, []⟩) (fun (v1 : Bool) => (cond v1
     (some false)
     (Option.bind (Qw (Gx a0 a1) QF 0) (Sum.elim (fun (o3 : Unit) => some true) (fun o => some o)))) = some r) ?_ ?_
 refine Qb h0 (fun w1_ h1 h0 => ?_)
 refine Q0 <| Wm rfl rfl rfl (Q6 fo_102_0 rfl) <| Wm rfl rfl rfl (Q7 YA rfl rfl rfl) <| Wm rfl rfl rfl (Q6 fo_102_0 rfl) <| Wm rfl rfl rfl (Q7 YA rfl rfl rfl) <| Wm rfl rfl rfl (Q8 rfl rfl rfl) <| Wn rfl rfl rfl ?_
 refine QP (d := 11) (c := (a0.c != a1.c)) rfl (fun c2 => ?_) (fun c2 => ?_)
 replace h1 := Qq c2 h1
 refine Q5 rfl rfl <| Q5 rfl rfl <| Q5 rfl rfl <| Q5 rfl rfl <| Q5 rfl rfl <| Q5 rfl rfl <| Q5 rfl rfl <| Wm rfl rfl rfl (Qk rfl rfl) <| Q3 ?_
 have e := Wk h1; subst e
 exact Qt true (Qf (Wi rfl (Wi rfl (Wi rfl Wh))) (WD rfl (WD rfl WC)) Wy rfl (Nat.zero_le _) rfl rfl rfl (WU rfl rfl (WU rfl rfl WR)) rfl rfl) h0
 replace h1 := Qr c2 h1
 refine Wm rfl rfl rfl (Q6 KB rfl) <| Wm rfl rfl rfl (Q7 X8 rfl rfl rfl) <| Wm rfl rfl rfl (QC (α := U0) GQ rfl (.d _)) <| Wm rfl rfl rfl (Q6 KB rfl) <| Wm rfl rfl rfl (Q7 X8 rfl rfl rfl) <| Wm rfl rfl rfl (QC (α := U0) GQ rfl (.d _)) <| Wm rfl rfl rfl (Q8 rfl rfl rfl) <| Wm rfl rfl rfl (Qx rfl rfl) <| Q3 ?_
 have e := Wk h1; subst e
 exact Qt ((a0.vs.length : Int) != (a1.vs.length : Int)) (Qf (Wi rfl (Wi rfl (Wi rfl Wh))) (WD rfl (WD rfl WC)) Wy rfl (Nat.zero_le _) rfl rfl rfl (WU rfl rfl (WU rfl rfl WR)) rfl rfl) h0
 intro v1 h0
 refine Q1 ?_
 refine Qe (b := v1) rfl (fun c3 => ?_) (fun c3 => ?_)
 replace h0 := Qq c3 h0
 refine Q2 <| Q0 <| Wo rfl rfl rfl <| Q3 <| Q1 <| Qz ?_
 have e := Wk h0; subst e
 exact QO (fun _ _ h => h) rfl (Qo rfl .nil) (.cons (.one (.d _)) .nil)
 replace h0 := Qr c3 h0
 refine Qi <| Q1 <| Q2 <| Q2 <| Q0 <| Wo rfl rfl rfl <| Q3 <| Q1 <| Qc ?_
 refine QI 0 (fun (o4 : Unit) => ⟨[], [(0, .cells 102 (WO a0)), (1, .cells 102 (WO a1))], [], 2, 38, []⟩) (fun (o4 : Unit) => (some true) = some r) ?_ ?_
 refine Qb h0 (fun o5 hl1 h0 => ?_)
 refine QH (Gx a0 a1) (fun s1 => ⟨[(2, .v (.one (.ptr 0 0))), (3, .v (.one (.ptr 1 0))), (5, .v (.one (WL s1)))], [(0, .cells 102 (WO a0)), (1, .cells 102 (WO a1))], [], 2, 38, []⟩) 0 o5 (Qf (Wi rfl (Wi rfl (Wi rfl Wh))) (WD rfl (WD rfl WC)) Wy rfl (Nat.zero_le _) rfl rfl rfl (WU rfl rfl (WU rfl rfl WR)) rfl rfl) hl1 (fun s1 n1 oo1 h1 ho1 => ?_)
 unfold Gx at h1
 refine Q2 <| Q2 <| Q0 <| Wn rfl rfl rfl <| Wm rfl rfl rfl (Q6 KB rfl) <| Wm rfl rfl rfl (Q7 X8 rfl rfl rfl) <| Wm rfl rfl rfl (QC (α := U0) GQ rfl (.d _)) <| Wm rfl rfl rfl (Q8 rfl rfl rfl) <| Q3 <| Q1 ?_
 refine Qe (b := (decide (s1 < (a0.vs.length : Int)))) rfl (fun c6 => ?_) (fun c6 => ?_)
 replace h1 := Qq c6 h1
 refine Qi <| Q1 <| Q2 <| Qc <| Q2 ?_
 refine JG [] [] mixed (by kernel_rfl) (by kernel_rfl) (by kernel_rfl) ?_
 refine RunA.rd rfl rfl rfl (Q4 (Q6 KB rfl)) rfl <| RunA.rd rfl rfl rfl (Q4 (Q7 X8 rfl rfl rfl)) rfl <| RunA.rd rfl rfl rfl (Q4 (QQ rfl)) rfl ?_
 refine Qb h1 (fun x7 hx7 h1 => ?_)
 refine RunA.rd rfl rfl rfl (Q4 (Qm (α := U0) GQ rfl (.d _) rfl hx7)) rfl <| RunA.rd rfl rfl rfl (Q4 (QK (x7 : U0) ag_149 rfl)) rfl <| RunA.rd rfl rfl rfl (Q4 (Q6 KB rfl)) rfl <| RunA.rd rfl rfl rfl (Q4 (Q7 X8 rfl rfl rfl)) rfl <| RunA.rd rfl rfl rfl (Q4 (QQ rfl)) rfl ?_
 refine Qb h1 (fun x8 hx8 h1 => ?_)
 refine RunA.rd rfl rfl rfl (Q4 (Qm (α := U0) GQ rfl (.d _) rfl hx8)) rfl <| RunA.rd rfl rfl rfl (Q4 (QK (x8 : U0) ag_149 rfl)) rfl <| RunA.rd rfl rfl rfl (Q4 (RO.neqPair ip_149 rfl rfl)) rfl ?_
 refine RunA.nil ⟨?ex, _, _, rfl, ?_⟩
 case ex => exact trivial
 refine JK (st' := ⟨[(2, .v (.one (.ptr 0 0))), (3, .v (.one (.ptr 1 0))), (5, .v (.one (WL s1))), (37, .v (.one (WM (!((x7.1 == x8.1) && (x7.2 == x8.2))))))], [(0, .cells 102 (WO a0)), (1, .cells 102 (WO a1))], [], 2, 38, []⟩) (Qf (Wi rfl (Wi rfl (Wi rfl (Wi rfl Wh)))) (WD rfl (WD rfl WC)) Wy rfl (Nat.zero_le _) rfl rfl rfl (WU rfl rfl (WU rfl rfl WR)) rfl rfl) <| Q1 ?_
 refine Qe (b := (!((x7.1 == x8.1) && (x7.2 == x8.2)))) rfl (fun c9 => ?_) (fun c9 => ?_)
 replace h1 := Qq c9 h1
 refine Q2 <| Q0 <| Wo rfl rfl rfl <| Q3 <| Q1 <| Qz ?_
 have e := Wk h1; subst e
 have e_ : _ = _ := ho1
 subst e_
 try dsimp only [Sum.elim_inl, Sum.elim_inr] at h0
 have e := Wk h0; subst e
 exact QO (fun _ _ h => h) rfl (Qo rfl .nil) (.cons (.one (.d _)) .nil)
 replace h1 := Qr c9 h1
 refine Qi <| Qj <| Q1 <| Q0 <| Wn rfl rfl rfl <| Wm rfl rfl rfl (Q8 rfl rfl rfl) <| Wo rfl rfl rfl <| Q3 ?_
 have e := Wk h1; subst e
 refine QD (QZ (s1 + 1)) (Qf (Wi rfl (Wi rfl (Wi rfl Wh))) (WD rfl (WD rfl WC)) Wy rfl (Nat.zero_le _) rfl rfl rfl (WU rfl rfl (WU rfl rfl WR)) rfl rfl) ho1
 replace h1 := Qr c6 h1
 refine QM <| Qd <| Qd ?_
 have e := Wk h1; subst e
 have e_ : _ = _ := ho1
 subst e_
 exact QG () (Qf Wh (WD rfl (WD rfl WC)) Wy rfl (Nat.zero_le _) rfl rfl rfl (WU rfl rfl (WU rfl rfl WR)) rfl rfl) h0
 intro o4 h0
 refine QB <| Q1 <| Q2 <| Q0 <| Wo rfl rfl rfl <| Q3 <| Q1 <| Qz ?_
 have e := Wk h0; subst e
 exact QO (fun _ _ h => h) rfl (Qo rfl .nil) (.cons (.one (.d _)) .nil)
def GW (a0 : List Lvl) (a1 : List Lvl) (s1 : Int) : Option (LO Int (Unit ⊕ Bool)) :=
 cond (decide (s1 < (a0.length : Int)))
   (Option.bind (Ja a0 s1) fun (x4 : Lvl) =>
 Option.bind (Ja a1 s1) fun (x5 : Lvl) =>
 Option.bind (Wc x4 x5) fun (x6 : Bool) =>
 cond (!x6)
   (some (.done (.inr false)))
   (some (.next (QZ (s1 + 1)))))
   (some (.done (.inl ())))
def We (a0 : List Lvl) (a1 : List Lvl) : Option Bool :=
 cond ((a0.length : Int) != (a1.length : Int))
   (some false)
   (Option.bind (Qw (GW a0 a1) QF 0) (Sum.elim (fun (o2 : Unit) => some true) (fun o => some o)))
set_option maxRecDepth 100000 in
set_option maxHeartbeats 2000000 in
theorem m70_ok (a0 : List Lvl) (a1 : List Lvl) (r : Bool) (h0 : We a0 a1 = some r) : Fun Try.prog 70 [.one (WJ a0), .one (WJ a1)] (QA [.one (WM r)]) := by
 unfold We at h0
 refine QU 9 27 Try.func70 rfl en_70 rfl (Wx rfl) (fun S w => ?_)
 simp only [Jb]
 refine Q2 <| Q0 <| Wo rfl rfl rfl <| Q3 <| Q1 <| Q2 <| Q2 <| Q0 <| Wn rfl rfl rfl <| Wm rfl rfl rfl (QC (α := Lvl) Xc rfl (.d _)) <| Wn rfl rfl rfl <| Wm rfl rfl rfl (QC (α := Lvl) Xc rfl (.d _)) <| Wm rfl rfl rfl (Q8 rfl rfl rfl) <| Q3 ?_
 refine Q1 ?_
 refine Qe (b := ((a0.length : Int) != (a1.length : Int))) rfl (fun c1 => ?_) (fun c1 => ?_)
 replace h0 := Qq c1 h0
 refine Q2 <| Q0 <| Wo rfl rfl rfl <| Q3 <| Q1 <| Qz ?_
 have e := Wk h0; subst e
 exact QO (fun _ _ h => h) rfl (Qo rfl .nil) (.cons (.one (.d _)) .nil)
 replace h0 := Qr c1 h0
 refine Qi <| Q1 <| Q2 <| Q2 <| Q0 <| Wo rfl rfl rfl <| Q3 <| Q1 <| Qc ?_
 refine QI 0 (fun (o2 : Unit) => ⟨[], [], [], 0, 27, []⟩) (fun (o2 : Unit) => (some true) = some r) ?_ ?_
 refine Qb h0 (fun o3 hl1 h0 => ?_)
 refine QH (GW a0 a1) (fun s1 => ⟨[(0, .v (.one (WJ a0))), (1, .v (.one (WJ a1))), (5, .v (.one (WL s1)))], [], [], 0, 27, []⟩) 0 o3 (Qf (Wi rfl (Wi rfl (Wi rfl Wh))) WC Wy rfl (Nat.zero_le _) rfl rfl rfl WR rfl rfl) hl1 (fun s1 n1 oo1 h1 ho1 => ?_)
 unfold GW at h1
 refine Q2 <| Q2 <| Q0 <| Wn rfl rfl rfl <| Wn rfl rfl rfl <| Wm rfl rfl rfl (QC (α := Lvl) Xc rfl (.d _)) <| Wm rfl rfl rfl (Q8 rfl rfl rfl) <| Q3 <| Q1 ?_
 refine Qe (b := (decide (s1 < (a0.length : Int)))) rfl (fun c4 => ?_) (fun c4 => ?_)
 replace h1 := Qq c4 h1
 refine Qi <| Q1 <| Q2 <| Qc <| Q2 ?_
 refine JG [] [] mixed (by kernel_rfl) (by kernel_rfl) (by kernel_rfl) ?_
 refine RunA.rd rfl rfl rfl (Q4 (QQ rfl)) rfl <| RunA.rd rfl rfl rfl (Q4 (QQ rfl)) rfl ?_
 refine Qb h1 (fun x5 hx5 h1 => ?_)
 refine RunA.rd rfl rfl rfl (Q4 (Qm (α := Lvl) Xc rfl (.d _) rfl hx5)) rfl <| RunA.rd rfl rfl rfl (Q4 (QK (x5 : Lvl) ag_102 rfl)) rfl <| RunA.rd rfl rfl rfl (Q4 (QQ rfl)) rfl <| RunA.rd rfl rfl rfl (Q4 (QQ rfl)) rfl ?_
 refine Qb h1 (fun x6 hx6 h1 => ?_)
 refine RunA.rd rfl rfl rfl (Q4 (Qm (α := Lvl) Xc rfl (.d _) rfl hx6)) rfl <| RunA.rd rfl rfl rfl (Q4 (QK (x6 : Lvl) ag_102 rfl)) rfl ?_
 refine Qb h1 (fun x7 hx7 h1 => ?_)
 refine RunA.rd rfl rfl rfl (Qn (m87_ok x5 x6 x7 hx7) rfl (.cons (.agg (.cons (.d _) (.cons (.d _) .nil))) (.cons (.agg (.cons (.d _) (.cons (.d _) .nil))) .nil))) rfl <| RunA.rd rfl rfl rfl (Q4 (J9 rfl)) rfl ?_
 refine RunA.nil ⟨?ex, _, _, rfl, ?_⟩
 case ex => exact trivial
 refine JK (st' := ⟨[(0, .v (.one (WJ a0))), (1, .v (.one (WJ a1))), (5, .v (.one (WL s1))), (26, .v (.one (WM (!x7))))], [], [], 0, 27, []⟩) (Qf (Wi rfl (Wi rfl (Wi rfl (Wi rfl Wh)))) WC Wy rfl (Nat.zero_le _) rfl rfl rfl WR rfl rfl) <| Q1 ?_
 refine Qe (b := (!x7)) rfl (fun c8 => ?_) (fun c8 => ?_)
 replace h1 := Qq c8 h1
 refine Q2 <| Q0 <| Wo rfl rfl rfl <| Q3 <| Q1 <| Qz ?_
 have e := Wk h1; subst e
 have e_ : _ = _ := ho1
 subst e_
 try dsimp only [Sum.elim_inl, Sum.elim_inr] at h0
 have e := Wk h0; subst e
 exact QO (fun _ _ h => h) rfl (Qo rfl .nil) (.cons (.one (.d _)) .nil)
 replace h1 := Qr c8 h1
 refine Qi <| Qj <| Q1 <| Q0 <| Wn rfl rfl rfl <| Wm rfl rfl rfl (Q8 rfl rfl rfl) <| Wo rfl rfl rfl <| Q3 ?_
 have e := Wk h1; subst e
 refine QD (QZ (s1 + 1)) (Qf (Wi rfl (Wi rfl (Wi rfl Wh))) WC Wy rfl (Nat.zero_le _) rfl rfl rfl WR rfl rfl) ho1
 replace h1 := Qr c4 h1
 refine QM <| Qd <| Qd ?_
 have e := Wk h1; subst e
 have e_ : _ = _ := ho1
 subst e_
 exact QG () (Qf Wh WC Wy rfl (Nat.zero_le _) rfl rfl rfl WR rfl rfl) h0
 intro o2 h0
 refine QB <| Q1 <| Q2 <| Q0 <| Wo rfl rfl rfl <| Q3 <| Q1 <| Qz ?_
 have e := Wk h0; subst e
 exact QO (fun _ _ h => h) rfl (Qo rfl .nil) (.cons (.one (.d _)) .nil)
def GB (a0 : Tm) (a1 : Tm) (rc : Tm × Tm → Option Bool) (s1 : Int) : Option (LO Int (Unit ⊕ Bool)) :=
 cond (decide (s1 < (a0.kids.length : Int)))
   (Option.bind (Ja a0.kids s1) fun (x5 : Tm) =>
 Option.bind (Ja a1.kids s1) fun (x6 : Tm) =>
 Option.bind (rc (x5, x6)) fun (x7 : Bool) =>
 cond (!x7)
   (some (.done (.inr false)))
   (some (.next (QZ (s1 + 1)))))
   (some (.done (.inl ())))
def XN (rc : Tm × Tm → Option Bool) (a0 : Tm) (a1 : Tm) : Option Bool :=
 Option.bind (cond (a0.kind != a1.kind)
   (some true)
   (cond (a0.index != a1.index)
   (some true)
   (cond (!(a0.name == a1.name))
   (some true)
   (Option.bind (We a0.levels a1.levels) fun (x5 : Bool) =>
 cond (!x5)
   (some true)
   (some ((a0.kids.length : Int) != (a1.kids.length : Int))))))) (fun (v1 : Bool) => cond v1
   (some false)
   (Option.bind (Qw (GB a0 a1 rc) QF 0) (Sum.elim (fun (o3 : Unit) => some true) (fun o => some o))))
def m57F (rc : Tm × Tm → Option Bool) (u : Tm × Tm) : Option Bool := XN rc u.1 u.2
def XZ (a0 : Tm) (a1 : Tm) : Option Bool := Yb m57F QF (a0, a1)
set_option maxRecDepth 100000 in
set_option maxHeartbeats 2000000 in
theorem m57s_ok (rc : Tm × Tm → Option Bool) (H : ∀ (a0 : Tm) (a1 : Tm) (r : Bool), rc (a0, a1) = some r → Fun Try.prog 57 [.agg (WO a0), .agg (WO a1)] (QA [.one (WM r)])) (a0 : Tm) (a1 : Tm) (r : Bool) (h0 : XN rc a0 a1 = some r) : Fun Try.prog 57 [.agg (WO a0), .agg (WO a1)] (QA [.one (WM r)]) := by
 unfold XN at h0
 refine QU 9 61 Try.func57 rfl en_57 rfl (Wx rfl) (fun S w => ?_)
 simp only [Jb]
 refine Q2 <| Q0 <| Qa rfl rfl (Wx rfl) (Jc rfl) <| Qa rfl rfl (Wx rfl) (Jc rfl) <| Wo rfl rfl rfl <| Q3 <| Q1 <| Q2 <| Q2 ?_
 refine Jf (fun (v1 : Bool) => ⟨[(2, .v (.one (.ptr 0 0))), (3, .v (.one (.ptr 1 0))), (41, .v (.one (WM v1)))], [(0, .cells 42 (WO a0)), (1, .cells 42 (WO a1))], [], 2, 61, []⟩) (fun (v1 : Bool) => (cond v1
     (some false)
     (Option.bind (Qw (GB a0 a1 rc) QF 0) (Sum.elim (fun (o3 : Unit) => some true) (fun o => some o)))) = some r) ?_ ?_
 refine Qb h0 (fun w1_ h1 h0 => ?_)
 refine Q0 <| Wm rfl rfl rfl (Q6 KL rfl) <| Wm rfl rfl rfl (Q7 YA rfl rfl rfl) <| Wm rfl rfl rfl (Q6 KL rfl) <| Wm rfl rfl rfl (Q7 YA rfl rfl rfl) <| Wm rfl rfl rfl (Q8 rfl rfl rfl) <| Wn rfl rfl rfl ?_
 refine QP (d := 11) (c := (a0.kind != a1.kind)) rfl (fun c2 => ?_) (fun c2 => ?_)
 replace h1 := Qq c2 h1
 refine Q5 rfl rfl <| Q5 rfl rfl <| Q5 rfl rfl <| Q5 rfl rfl <| Q5 rfl rfl <| Wm rfl rfl rfl (Qk rfl rfl) <| Wn rfl rfl rfl <| Q5 rfl rfl <| Q5 rfl rfl <| Q5 rfl rfl <| Q5 rfl rfl <| Q5 rfl rfl <| Wm rfl rfl rfl (Qk rfl rfl) <| Wn rfl rfl rfl ?_
 refine Q5 rfl rfl <| Q5 rfl rfl <| Q5 rfl rfl <| Q5 rfl rfl <| Q5 rfl rfl <| Q5 rfl rfl <| Wm rfl rfl rfl (Qk rfl rfl) <| Wn rfl rfl rfl <| Q5 rfl rfl <| Q5 rfl rfl <| Q5 rfl rfl <| Q5 rfl rfl <| Q5 rfl rfl <| Q5 rfl rfl ?_
 refine Q5 rfl rfl <| Wm rfl rfl rfl (Qk rfl rfl) <| Q3 ?_
 have e := Wk h1; subst e
 exact Qt true (Qf (Wi rfl (Wi rfl (Wi rfl Wh))) (WD rfl (WD rfl WC)) Wy rfl (Nat.zero_le _) rfl rfl rfl (WU rfl rfl (WU rfl rfl WR)) rfl rfl) h0
 replace h1 := Qr c2 h1
 refine Wm rfl rfl rfl (Q6 fo_42_1 rfl) <| Wm rfl rfl rfl (Q7 YA rfl rfl rfl) <| Wm rfl rfl rfl (Q6 fo_42_1 rfl) <| Wm rfl rfl rfl (Q7 YA rfl rfl rfl) <| Wm rfl rfl rfl (Q8 rfl rfl rfl) <| Wm rfl rfl rfl (Qx rfl rfl) <| Wn rfl rfl rfl ?_
 refine QP (d := 18) (c := (a0.index != a1.index)) rfl (fun c3 => ?_) (fun c3 => ?_)
 replace h1 := Qq c3 h1
 refine Q5 rfl rfl <| Q5 rfl rfl <| Q5 rfl rfl <| Q5 rfl rfl <| Q5 rfl rfl <| Wm rfl rfl rfl (Qk rfl rfl) <| Wn rfl rfl rfl <| Q5 rfl rfl <| Q5 rfl rfl <| Q5 rfl rfl <| Q5 rfl rfl <| Q5 rfl rfl <| Q5 rfl rfl <| Wm rfl rfl rfl (Qk rfl rfl) ?_
 refine Wn rfl rfl rfl <| Q5 rfl rfl <| Q5 rfl rfl <| Q5 rfl rfl <| Q5 rfl rfl <| Q5 rfl rfl <| Q5 rfl rfl <| Q5 rfl rfl <| Wm rfl rfl rfl (Qk rfl rfl) <| Q3 ?_
 have e := Wk h1; subst e
 exact Qt true (Qf (Wi rfl (Wi rfl (Wi rfl Wh))) (WD rfl (WD rfl WC)) Wy rfl (Nat.zero_le _) rfl rfl rfl (WU rfl rfl (WU rfl rfl WR)) rfl rfl) h0
 replace h1 := Qr c3 h1
 refine Wm rfl rfl rfl (Q6 Gm rfl) <| Wm rfl rfl rfl (Q7 JT rfl rfl rfl) <| Wm rfl rfl rfl (Q6 Gm rfl) <| Wm rfl rfl rfl (Q7 JT rfl rfl rfl) <| Wm rfl rfl rfl (GL rfl rfl) <| Wm rfl rfl rfl (Qx rfl rfl) <| Wn rfl rfl rfl ?_
 refine QP (d := 25) (c := (!(a0.name == a1.name))) rfl (fun c4 => ?_) (fun c4 => ?_)
 replace h1 := Qq c4 h1
 refine Q5 rfl rfl <| Q5 rfl rfl <| Q5 rfl rfl <| Q5 rfl rfl <| Q5 rfl rfl <| Q5 rfl rfl <| Wm rfl rfl rfl (Qk rfl rfl) <| Wn rfl rfl rfl <| Q5 rfl rfl <| Q5 rfl rfl <| Q5 rfl rfl <| Q5 rfl rfl <| Q5 rfl rfl <| Q5 rfl rfl ?_
 refine Q5 rfl rfl <| Wm rfl rfl rfl (Qk rfl rfl) <| Q3 ?_
 have e := Wk h1; subst e
 exact Qt true (Qf (Wi rfl (Wi rfl (Wi rfl Wh))) (WD rfl (WD rfl WC)) Wy rfl (Nat.zero_le _) rfl rfl rfl (WU rfl rfl (WU rfl rfl WR)) rfl rfl) h0
 replace h1 := Qr c4 h1
 refine Wm rfl rfl rfl (Q6 fo_42_3 rfl) <| Wm rfl rfl rfl (Q7 ag_39 rfl rfl rfl) <| Wm rfl rfl rfl (Q6 fo_42_3 rfl) <| Wm rfl rfl rfl (Q7 ag_39 rfl rfl rfl) ?_
 refine Qb h1 (fun x5 hx5 h1 => ?_)
 refine Qa rfl rfl (Wx rfl) (Qn (m70_ok a0.levels a1.levels x5 hx5) rfl (.cons (.one (.d _)) (.cons (.one (.d _)) .nil))) <| Wm rfl rfl rfl (J9 rfl) <| Wm rfl rfl rfl (Qx rfl rfl) <| Wn rfl rfl rfl ?_
 refine QP (d := 33) (c := (!x5)) rfl (fun c6 => ?_) (fun c6 => ?_)
 replace h1 := Qq c6 h1
 refine Q5 rfl rfl <| Q5 rfl rfl <| Q5 rfl rfl <| Q5 rfl rfl <| Q5 rfl rfl <| Q5 rfl rfl <| Q5 rfl rfl <| Wm rfl rfl rfl (Qk rfl rfl) <| Q3 ?_
 have e := Wk h1; subst e
 exact Qt true (Qf (Wi rfl (Wi rfl (Wi rfl Wh))) (WD rfl (WD rfl WC)) Wy rfl (Nat.zero_le _) rfl rfl rfl (WU rfl rfl (WU rfl rfl WR)) rfl rfl) h0
 replace h1 := Qr c6 h1
 refine Wm rfl rfl rfl (Q6 Ze rfl) <| Wm rfl rfl rfl (Q7 Yk rfl rfl rfl) <| Wm rfl rfl rfl (QC (α := Tm) JQ rfl (.d _)) <| Wm rfl rfl rfl (Q6 Ze rfl) <| Wm rfl rfl rfl (Q7 Yk rfl rfl rfl) <| Wm rfl rfl rfl (QC (α := Tm) JQ rfl (.d _)) <| Wm rfl rfl rfl (Q8 rfl rfl rfl) <| Wm rfl rfl rfl (Qx rfl rfl) <| Q3 ?_
 have e := Wk h1; subst e
 exact Qt ((a0.kids.length : Int) != (a1.kids.length : Int)) (Qf (Wi rfl (Wi rfl (Wi rfl Wh))) (WD rfl (WD rfl WC)) Wy rfl (Nat.zero_le _) rfl rfl rfl (WU rfl rfl (WU rfl rfl WR)) rfl rfl) h0
 intro v1 h0
 refine Q1 ?_
 refine Qe (b := v1) rfl (fun c7 => ?_) (fun c7 => ?_)
 replace h0 := Qq c7 h0
 refine Q2 <| Q0 <| Wo rfl rfl rfl <| Q3 <| Q1 <| Qz ?_
 have e := Wk h0; subst e
 exact QO (fun _ _ h => h) rfl (Qo rfl .nil) (.cons (.one (.d _)) .nil)
 replace h0 := Qr c7 h0
 refine Qi <| Q1 <| Q2 <| Q2 <| Q0 <| Wo rfl rfl rfl <| Q3 <| Q1 <| Qc ?_
 refine QI 0 (fun (o8 : Unit) => ⟨[], [(0, .cells 42 (WO a0)), (1, .cells 42 (WO a1))], [], 2, 61, []⟩) (fun (o8 : Unit) => (some true) = some r) ?_ ?_
 refine Qb h0 (fun o9 hl1 h0 => ?_)
 refine QH (GB a0 a1 rc) (fun s1 => ⟨[(2, .v (.one (.ptr 0 0))), (3, .v (.one (.ptr 1 0))), (5, .v (.one (WL s1)))], [(0, .cells 42 (WO a0)), (1, .cells 42 (WO a1))], [], 2, 61, []⟩) 0 o9 (Qf (Wi rfl (Wi rfl (Wi rfl Wh))) (WD rfl (WD rfl WC)) Wy rfl (Nat.zero_le _) rfl rfl rfl (WU rfl rfl (WU rfl rfl WR)) rfl rfl) hl1 (fun s1 n1 oo1 h1 ho1 => ?_)
 unfold GB at h1
 refine Q2 <| Q2 <| Q0 <| Wn rfl rfl rfl <| Wm rfl rfl rfl (Q6 Ze rfl) <| Wm rfl rfl rfl (Q7 Yk rfl rfl rfl) <| Wm rfl rfl rfl (QC (α := Tm) JQ rfl (.d _)) <| Wm rfl rfl rfl (Q8 rfl rfl rfl) <| Q3 <| Q1 ?_
 refine Qe (b := (decide (s1 < (a0.kids.length : Int)))) rfl (fun c10 => ?_) (fun c10 => ?_)
 replace h1 := Qq c10 h1
 refine Qi <| Q1 <| Q2 <| Qc <| Q2 ?_
 refine JG [] [] mixed (by kernel_rfl) (by kernel_rfl) (by kernel_rfl) ?_
 refine RunA.rd rfl rfl rfl (Q4 (Q6 Ze rfl)) rfl <| RunA.rd rfl rfl rfl (Q4 (Q7 Yk rfl rfl rfl)) rfl <| RunA.rd rfl rfl rfl (Q4 (QQ rfl)) rfl ?_
 refine Qb h1 (fun x11 hx11 h1 => ?_)
 refine RunA.rd rfl rfl rfl (Q4 (Qm (α := Tm) JQ rfl (.d _) rfl hx11)) rfl <| RunA.rd rfl rfl rfl (Q4 (QK (x11 : Tm) Jn rfl)) rfl <| RunA.rd rfl rfl rfl (Q4 (Q6 Ze rfl)) rfl <| RunA.rd rfl rfl rfl (Q4 (Q7 Yk rfl rfl rfl)) rfl <| RunA.rd rfl rfl rfl (Q4 (QQ rfl)) rfl ?_
 refine Qb h1 (fun x12 hx12 h1 => ?_)
 refine RunA.rd rfl rfl rfl (Q4 (Qm (α := Tm) JQ rfl (.d _) rfl hx12)) rfl <| RunA.rd rfl rfl rfl (Q4 (QK (x12 : Tm) Jn rfl)) rfl ?_
 refine Qb h1 (fun x13 hx13 h1 => ?_)
 refine RunA.rd rfl rfl rfl (Qn (H x11 x12 x13 hx13) rfl (.cons (.agg (.cons (.d _) (.cons (.d _) (.cons (.d _) (.cons (.d _) (.cons (.d _) .nil)))))) (.cons (.agg (.cons (.d _) (.cons (.d _) (.cons (.d _) (.cons (.d _) (.cons (.d _) .nil)))))) .nil))) rfl <| RunA.rd rfl rfl rfl (Q4 (J9 rfl)) rfl ?_
 refine RunA.nil ⟨?ex, _, _, rfl, ?_⟩
 case ex => exact trivial
 refine JK (st' := ⟨[(2, .v (.one (.ptr 0 0))), (3, .v (.one (.ptr 1 0))), (5, .v (.one (WL s1))), (60, .v (.one (WM (!x13))))], [(0, .cells 42 (WO a0)), (1, .cells 42 (WO a1))], [], 2, 61, []⟩) (Qf (Wi rfl (Wi rfl (Wi rfl (Wi rfl Wh)))) (WD rfl (WD rfl WC)) Wy rfl (Nat.zero_le _) rfl rfl rfl (WU rfl rfl (WU rfl rfl WR)) rfl rfl) <| Q1 ?_
 refine Qe (b := (!x13)) rfl (fun c14 => ?_) (fun c14 => ?_)
 replace h1 := Qq c14 h1
 refine Q2 <| Q0 <| Wo rfl rfl rfl <| Q3 <| Q1 <| Qz ?_
 have e := Wk h1; subst e
 have e_ : _ = _ := ho1
 subst e_
 try dsimp only [Sum.elim_inl, Sum.elim_inr] at h0
 have e := Wk h0; subst e
 exact QO (fun _ _ h => h) rfl (Qo rfl .nil) (.cons (.one (.d _)) .nil)
 replace h1 := Qr c14 h1
 refine Qi <| Qj <| Q1 <| Q0 <| Wn rfl rfl rfl <| Wm rfl rfl rfl (Q8 rfl rfl rfl) <| Wo rfl rfl rfl <| Q3 ?_
 have e := Wk h1; subst e
 refine QD (QZ (s1 + 1)) (Qf (Wi rfl (Wi rfl (Wi rfl Wh))) (WD rfl (WD rfl WC)) Wy rfl (Nat.zero_le _) rfl rfl rfl (WU rfl rfl (WU rfl rfl WR)) rfl rfl) ho1
 replace h1 := Qr c10 h1
 refine QM <| Qd <| Qd ?_
 have e := Wk h1; subst e
 have e_ : _ = _ := ho1
 subst e_
 exact QG () (Qf Wh (WD rfl (WD rfl WC)) Wy rfl (Nat.zero_le _) rfl rfl rfl (WU rfl rfl (WU rfl rfl WR)) rfl rfl) h0
 intro o8 h0
 refine QB <| Q1 <| Q2 <| Q0 <| Wo rfl rfl rfl <| Q3 <| Q1 <| Qz ?_
 have e := Wk h0; subst e
 exact QO (fun _ _ h => h) rfl (Qo rfl .nil) (.cons (.one (.d _)) .nil)
theorem m57_all (n : Nat) (u : Tm × Tm) (r : Bool) (h0 : Yb m57F n u = some r) : Fun Try.prog 57 [.agg (WO u.1), .agg (WO u.2)] (QA [.one (WM r)]) :=
 YF (C := fun u r => Fun Try.prog 57 [.agg (WO u.1), .agg (WO u.2)] (QA [.one (WM r)])) (fun rc H u r h => m57s_ok rc (fun a0 a1 r h => H (a0, a1) r h) u.1 u.2 r h) n u r h0
theorem KU (a0 : Tm) (a1 : Tm) (r : Bool) (h0 : XZ a0 a1 = some r) : Fun Try.prog 57 [.agg (WO a0), .agg (WO a1)] (QA [.one (WM r)]) := m57_all QF (a0, a1) r h0
def GV (a0 : List Tm) (a1 : List Tm) (s1 : Int) : Option (LO Int (Unit ⊕ Bool)) :=
 cond (decide (s1 < (a0.length : Int)))
   (Option.bind (Ja a0 s1) fun (x4 : Tm) =>
 Option.bind (Ja a1 s1) fun (x5 : Tm) =>
 Option.bind (XZ x4 x5) fun (x6 : Bool) =>
 cond (!x6)
   (some (.done (.inr false)))
   (some (.next (QZ (s1 + 1)))))
   (some (.done (.inl ())))
def Wd (a0 : List Tm) (a1 : List Tm) : Option Bool :=
 cond ((a0.length : Int) != (a1.length : Int))
   (some false)
   (Option.bind (Qw (GV a0 a1) QF 0) (Sum.elim (fun (o2 : Unit) => some true) (fun o => some o)))
set_option maxRecDepth 100000 in
set_option maxHeartbeats 2000000 in
theorem m71_ok (a0 : List Tm) (a1 : List Tm) (r : Bool) (h0 : Wd a0 a1 = some r) : Fun Try.prog 71 [.one (WJ a0), .one (WJ a1)] (QA [.one (WM r)]) := by
 unfold Wd at h0
 refine QU 9 27 Try.func71 rfl en_71 rfl (Wx rfl) (fun S w => ?_)
 simp only [Jb]
 refine Q2 <| Q0 <| Wo rfl rfl rfl <| Q3 <| Q1 <| Q2 <| Q2 <| Q0 <| Wn rfl rfl rfl <| Wm rfl rfl rfl (QC (α := Tm) JQ rfl (.d _)) <| Wn rfl rfl rfl <| Wm rfl rfl rfl (QC (α := Tm) JQ rfl (.d _)) <| Wm rfl rfl rfl (Q8 rfl rfl rfl) <| Q3 ?_
 refine Q1 ?_
 refine Qe (b := ((a0.length : Int) != (a1.length : Int))) rfl (fun c1 => ?_) (fun c1 => ?_)
 replace h0 := Qq c1 h0
 refine Q2 <| Q0 <| Wo rfl rfl rfl <| Q3 <| Q1 <| Qz ?_
 have e := Wk h0; subst e
 exact QO (fun _ _ h => h) rfl (Qo rfl .nil) (.cons (.one (.d _)) .nil)
 replace h0 := Qr c1 h0
 refine Qi <| Q1 <| Q2 <| Q2 <| Q0 <| Wo rfl rfl rfl <| Q3 <| Q1 <| Qc ?_
 refine QI 0 (fun (o2 : Unit) => ⟨[], [], [], 0, 27, []⟩) (fun (o2 : Unit) => (some true) = some r) ?_ ?_
 refine Qb h0 (fun o3 hl1 h0 => ?_)
 refine QH (GV a0 a1) (fun s1 => ⟨[(0, .v (.one (WJ a0))), (1, .v (.one (WJ a1))), (5, .v (.one (WL s1)))], [], [], 0, 27, []⟩) 0 o3 (Qf (Wi rfl (Wi rfl (Wi rfl Wh))) WC Wy rfl (Nat.zero_le _) rfl rfl rfl WR rfl rfl) hl1 (fun s1 n1 oo1 h1 ho1 => ?_)
 unfold GV at h1
 refine Q2 <| Q2 <| Q0 <| Wn rfl rfl rfl <| Wn rfl rfl rfl <| Wm rfl rfl rfl (QC (α := Tm) JQ rfl (.d _)) <| Wm rfl rfl rfl (Q8 rfl rfl rfl) <| Q3 <| Q1 ?_
 refine Qe (b := (decide (s1 < (a0.length : Int)))) rfl (fun c4 => ?_) (fun c4 => ?_)
 replace h1 := Qq c4 h1
 refine Qi <| Q1 <| Q2 <| Qc <| Q2 ?_
 refine JG [] [] mixed (by kernel_rfl) (by kernel_rfl) (by kernel_rfl) ?_
 refine RunA.rd rfl rfl rfl (Q4 (QQ rfl)) rfl <| RunA.rd rfl rfl rfl (Q4 (QQ rfl)) rfl ?_
 refine Qb h1 (fun x5 hx5 h1 => ?_)
 refine RunA.rd rfl rfl rfl (Q4 (Qm (α := Tm) JQ rfl (.d _) rfl hx5)) rfl <| RunA.rd rfl rfl rfl (Q4 (QK (x5 : Tm) Jn rfl)) rfl <| RunA.rd rfl rfl rfl (Q4 (QQ rfl)) rfl <| RunA.rd rfl rfl rfl (Q4 (QQ rfl)) rfl ?_
 refine Qb h1 (fun x6 hx6 h1 => ?_)
 refine RunA.rd rfl rfl rfl (Q4 (Qm (α := Tm) JQ rfl (.d _) rfl hx6)) rfl <| RunA.rd rfl rfl rfl (Q4 (QK (x6 : Tm) Jn rfl)) rfl ?_
 refine Qb h1 (fun x7 hx7 h1 => ?_)
 refine RunA.rd rfl rfl rfl (Qn (KU x5 x6 x7 hx7) rfl (.cons (.agg (.cons (.d _) (.cons (.d _) (.cons (.d _) (.cons (.d _) (.cons (.d _) .nil)))))) (.cons (.agg (.cons (.d _) (.cons (.d _) (.cons (.d _) (.cons (.d _) (.cons (.d _) .nil)))))) .nil))) rfl <| RunA.rd rfl rfl rfl (Q4 (J9 rfl)) rfl ?_
 refine RunA.nil ⟨?ex, _, _, rfl, ?_⟩
 case ex => exact trivial
 refine JK (st' := ⟨[(0, .v (.one (WJ a0))), (1, .v (.one (WJ a1))), (5, .v (.one (WL s1))), (26, .v (.one (WM (!x7))))], [], [], 0, 27, []⟩) (Qf (Wi rfl (Wi rfl (Wi rfl (Wi rfl Wh)))) WC Wy rfl (Nat.zero_le _) rfl rfl rfl WR rfl rfl) <| Q1 ?_
 refine Qe (b := (!x7)) rfl (fun c8 => ?_) (fun c8 => ?_)
 replace h1 := Qq c8 h1
 refine Q2 <| Q0 <| Wo rfl rfl rfl <| Q3 <| Q1 <| Qz ?_
 have e := Wk h1; subst e
 have e_ : _ = _ := ho1
 subst e_
 try dsimp only [Sum.elim_inl, Sum.elim_inr] at h0
 have e := Wk h0; subst e
 exact QO (fun _ _ h => h) rfl (Qo rfl .nil) (.cons (.one (.d _)) .nil)
 replace h1 := Qr c8 h1
 refine Qi <| Qj <| Q1 <| Q0 <| Wn rfl rfl rfl <| Wm rfl rfl rfl (Q8 rfl rfl rfl) <| Wo rfl rfl rfl <| Q3 ?_
 have e := Wk h1; subst e
 refine QD (QZ (s1 + 1)) (Qf (Wi rfl (Wi rfl (Wi rfl Wh))) WC Wy rfl (Nat.zero_le _) rfl rfl rfl WR rfl rfl) ho1
 replace h1 := Qr c4 h1
 refine QM <| Qd <| Qd ?_
 have e := Wk h1; subst e
 have e_ : _ = _ := ho1
 subst e_
 exact QG () (Qf Wh WC Wy rfl (Nat.zero_le _) rfl rfl rfl WR rfl rfl) h0
 intro o2 h0
 refine QB <| Q1 <| Q2 <| Q0 <| Wo rfl rfl rfl <| Q3 <| Q1 <| Qz ?_
 have e := Wk h0; subst e
 exact QO (fun _ _ h => h) rfl (Qo rfl .nil) (.cons (.one (.d _)) .nil)
def W6 (a0 : Rcr) (a1 : Rcr) : Option Bool :=
 Option.bind (cond (a0.params == a1.params)
   (Option.bind (XZ a0.ty a1.ty) fun (x3 : Bool) =>
 cond x3
   (Option.bind (Wd a0.rules a1.rules) fun (x5 : Bool) =>
 some x5)
   (some false))
   (some false)) (fun (v1 : Bool) => some v1)
set_option maxRecDepth 100000 in
set_option maxHeartbeats 2000000 in
theorem m58_ok (a0 : Rcr) (a1 : Rcr) (r : Bool) (h0 : W6 a0 a1 = some r) : Fun Try.prog 58 [.agg (WO a0), .agg (WO a1)] (QA [.one (WM r)]) := by
 unfold W6 at h0
 refine QU 9 24 Try.func58 rfl en_58 rfl (Wx rfl) (fun S w => ?_)
 simp only [Jb]
 refine Q2 <| Q0 <| Qa rfl rfl (Wx rfl) (Jc rfl) <| Qa rfl rfl (Wx rfl) (Jc rfl) <| Wo rfl rfl rfl <| Q3 <| Q1 <| Q2 ?_
 refine Jf (fun (v1 : Bool) => ⟨[(4, .v (.one (WM v1)))], [(0, .cells 45 (WO a0)), (1, .cells 45 (WO a1))], [], 2, 24, []⟩) (fun (v1 : Bool) => (some v1) = some r) ?_ ?_
 refine Qb h0 (fun w1_ h1 h0 => ?_)
 refine Q0 <| Wm rfl rfl rfl (Q6 fo_45_0 rfl) <| Wm rfl rfl rfl (Q7 YA rfl rfl rfl) <| Wm rfl rfl rfl (Q6 fo_45_0 rfl) <| Wm rfl rfl rfl (Q7 YA rfl rfl rfl) <| Wm rfl rfl rfl (Q8 rfl rfl rfl) <| Wn rfl rfl rfl ?_
 refine QP (d := 10) (c := (a0.params == a1.params)) rfl (fun c2 => ?_) (fun c2 => ?_)
 replace h1 := Qq c2 h1
 refine Wm rfl rfl rfl (Q6 fo_45_1 rfl) <| Wm rfl rfl rfl (Qu Jn rfl rfl rfl rfl) <| Wm rfl rfl rfl (Q6 fo_45_1 rfl) <| Wm rfl rfl rfl (Qu Jn rfl rfl rfl rfl) ?_
 refine Qb h1 (fun x3 hx3 h1 => ?_)
 refine Qa rfl rfl (Wx rfl) (Qn (KU a0.ty a1.ty x3 hx3) rfl (.cons (.agg (.cons (.d _) (.cons (.d _) (.cons (.d _) (.cons (.d _) (.cons (.d _) .nil)))))) (.cons (.agg (.cons (.d _) (.cons (.d _) (.cons (.d _) (.cons (.d _) (.cons (.d _) .nil)))))) .nil))) <| Wm rfl rfl rfl (Qk rfl rfl) <| Wn rfl rfl rfl ?_
 refine QP (d := 17) (c := x3) rfl (fun c4 => ?_) (fun c4 => ?_)
 replace h1 := Qq c4 h1
 refine Wm rfl rfl rfl (Q6 Ko rfl) <| Wm rfl rfl rfl (Q7 Yk rfl rfl rfl) <| Wm rfl rfl rfl (Q6 Ko rfl) <| Wm rfl rfl rfl (Q7 Yk rfl rfl rfl) ?_
 refine Qb h1 (fun x5 hx5 h1 => ?_)
 refine Qa rfl rfl (Wx rfl) (Qn (m71_ok a0.rules a1.rules x5 hx5) rfl (.cons (.one (.d _)) (.cons (.one (.d _)) .nil))) <| Wm rfl rfl rfl (Qk rfl rfl) <| Wo rfl rfl rfl <| Q3 ?_
 have e := Wk h1; subst e
 exact Qt x5 (Qf (Wi rfl Wh) (WD rfl (WD rfl WC)) Wy rfl (Nat.zero_le _) rfl rfl rfl (WU rfl rfl (WU rfl rfl WR)) rfl rfl) h0
 replace h1 := Qr c4 h1
 refine Q5 rfl rfl <| Q5 rfl rfl <| Q5 rfl rfl <| Q5 rfl rfl <| Q5 rfl rfl <| Wm rfl rfl rfl (Qx rfl rfl) <| Wo rfl rfl rfl <| Q3 ?_
 have e := Wk h1; subst e
 exact Qt false (Qf (Wi rfl Wh) (WD rfl (WD rfl WC)) Wy rfl (Nat.zero_le _) rfl rfl rfl (WU rfl rfl (WU rfl rfl WR)) rfl rfl) h0
 replace h1 := Qr c2 h1
 refine Q5 rfl rfl <| Q5 rfl rfl <| Q5 rfl rfl <| Q5 rfl rfl <| Q5 rfl rfl <| Wm rfl rfl rfl (Qx rfl rfl) <| Wn rfl rfl rfl <| Q5 rfl rfl <| Q5 rfl rfl <| Q5 rfl rfl <| Q5 rfl rfl <| Q5 rfl rfl <| Wm rfl rfl rfl (Qx rfl rfl) <| Wo rfl rfl rfl ?_
 refine Q3 ?_
 have e := Wk h1; subst e
 exact Qt false (Qf (Wi rfl Wh) (WD rfl (WD rfl WC)) Wy rfl (Nat.zero_le _) rfl rfl rfl (WU rfl rfl (WU rfl rfl WR)) rfl rfl) h0
 intro v1 h0
 refine Q1 <| Qz ?_
 have e := Wk h0; subst e
 exact QO (fun _ _ h => h) rfl (Qo rfl .nil) (.cons (.one (.d _)) .nil)
def GA (a0 : Tr) (a1 : Tr) (rc : Tr × Tr → Option Bool) (s1 : Int) : Option (LO Int (Unit ⊕ Bool)) :=
 cond (decide (s1 < (a0.branches.length : Int)))
   (Option.bind (Ja a0.branches s1) fun (x5 : U4) =>
 Option.bind (Ja a1.branches s1) fun (x6 : U4) =>
 Option.bind (cond (!(x5.ctor == x6.ctor))
   (some true)
   (cond (!(x5.absurd == x6.absurd))
   (some true)
   (Option.bind (rc (x5.tree, x6.tree)) fun (x10 : Bool) =>
 some (!x10)))) (fun (v7 : Bool) => cond v7
   (some (.done (.inr false)))
   (some (.next (QZ (s1 + 1))))))
   (some (.done (.inl ())))
def XM (rc : Tr × Tr → Option Bool) (a0 : Tr) (a1 : Tr) : Option Bool :=
 Option.bind (cond (a0.kind != a1.kind)
   (some true)
   (cond (a0.var != a1.var)
   (some true)
   (Option.bind (XZ a0.body a1.body) fun (x4 : Bool) =>
 cond (!x4)
   (some true)
   (some ((a0.branches.length : Int) != (a1.branches.length : Int)))))) (fun (v1 : Bool) => cond v1
   (some false)
   (Option.bind (Qw (GA a0 a1 rc) QF 0) (Sum.elim (fun (o3 : Unit) => some true) (fun o => some o))))
def m59F (rc : Tr × Tr → Option Bool) (u : Tr × Tr) : Option Bool := XM rc u.1 u.2
def m59 (a0 : Tr) (a1 : Tr) : Option Bool := Yb m59F QF (a0, a1)
set_option maxRecDepth 100000 in
set_option maxHeartbeats 2000000 in
theorem m59s_ok (rc : Tr × Tr → Option Bool) (H : ∀ (a0 : Tr) (a1 : Tr) (r : Bool), rc (a0, a1) = some r → Fun Try.prog 59 [.agg (WO a0), .agg (WO a1)] (QA [.one (WM r)])) (a0 : Tr) (a1 : Tr) (r : Bool) (h0 : XM rc a0 a1 = some r) : Fun Try.prog 59 [.agg (WO a0), .agg (WO a1)] (QA [.one (WM r)]) := by
 unfold XM at h0
 refine QU 9 74 Try.func59 rfl en_59 rfl (Wx rfl) (fun S w => ?_)
 simp only [Jb]
 refine Q2 <| Q0 <| Qa rfl rfl (Wx rfl) (Jc rfl) <| Qa rfl rfl (Wx rfl) (Jc rfl) <| Wo rfl rfl rfl <| Q3 <| Q1 <| Q2 <| Q2 ?_
 refine Jf (fun (v1 : Bool) => ⟨[(2, .v (.one (.ptr 0 0))), (3, .v (.one (.ptr 1 0))), (36, .v (.one (WM v1)))], [(0, .cells 87 (WO a0)), (1, .cells 87 (WO a1))], [], 2, 74, []⟩) (fun (v1 : Bool) => (cond v1
     (some false)
     (Option.bind (Qw (GA a0 a1 rc) QF 0) (Sum.elim (fun (o3 : Unit) => some true) (fun o => some o)))) = some r) ?_ ?_
 refine Qb h0 (fun w1_ h1 h0 => ?_)
 refine Q0 <| Wm rfl rfl rfl (Q6 fo_87_0 rfl) <| Wm rfl rfl rfl (Q7 YA rfl rfl rfl) <| Wm rfl rfl rfl (Q6 fo_87_0 rfl) <| Wm rfl rfl rfl (Q7 YA rfl rfl rfl) <| Wm rfl rfl rfl (Q8 rfl rfl rfl) <| Wn rfl rfl rfl ?_
 refine QP (d := 13) (c := (a0.kind != a1.kind)) rfl (fun c2 => ?_) (fun c2 => ?_)
 replace h1 := Qq c2 h1
 refine Q5 rfl rfl <| Q5 rfl rfl <| Q5 rfl rfl <| Q5 rfl rfl <| Q5 rfl rfl <| Wm rfl rfl rfl (Qk rfl rfl) <| Wn rfl rfl rfl <| Q5 rfl rfl <| Q5 rfl rfl <| Q5 rfl rfl <| Q5 rfl rfl <| Q5 rfl rfl <| Q5 rfl rfl <| Wm rfl rfl rfl (Qk rfl rfl) ?_
 refine Wn rfl rfl rfl <| Q5 rfl rfl <| Q5 rfl rfl <| Q5 rfl rfl <| Q5 rfl rfl <| Q5 rfl rfl <| Q5 rfl rfl <| Q5 rfl rfl <| Wm rfl rfl rfl (Qk rfl rfl) <| Q3 ?_
 have e := Wk h1; subst e
 exact Qt true (Qf (Wi rfl (Wi rfl (Wi rfl Wh))) (WD rfl (WD rfl WC)) Wy rfl (Nat.zero_le _) rfl rfl rfl (WU rfl rfl (WU rfl rfl WR)) rfl rfl) h0
 replace h1 := Qr c2 h1
 refine Wm rfl rfl rfl (Q6 fo_87_2 rfl) <| Wm rfl rfl rfl (Q7 YA rfl rfl rfl) <| Wm rfl rfl rfl (Q6 fo_87_2 rfl) <| Wm rfl rfl rfl (Q7 YA rfl rfl rfl) <| Wm rfl rfl rfl (Q8 rfl rfl rfl) <| Wm rfl rfl rfl (Qx rfl rfl) <| Wn rfl rfl rfl ?_
 refine QP (d := 20) (c := (a0.var != a1.var)) rfl (fun c3 => ?_) (fun c3 => ?_)
 replace h1 := Qq c3 h1
 refine Q5 rfl rfl <| Q5 rfl rfl <| Q5 rfl rfl <| Q5 rfl rfl <| Q5 rfl rfl <| Q5 rfl rfl <| Wm rfl rfl rfl (Qk rfl rfl) <| Wn rfl rfl rfl <| Q5 rfl rfl <| Q5 rfl rfl <| Q5 rfl rfl <| Q5 rfl rfl <| Q5 rfl rfl <| Q5 rfl rfl ?_
 refine Q5 rfl rfl <| Wm rfl rfl rfl (Qk rfl rfl) <| Q3 ?_
 have e := Wk h1; subst e
 exact Qt true (Qf (Wi rfl (Wi rfl (Wi rfl Wh))) (WD rfl (WD rfl WC)) Wy rfl (Nat.zero_le _) rfl rfl rfl (WU rfl rfl (WU rfl rfl WR)) rfl rfl) h0
 replace h1 := Qr c3 h1
 refine Wm rfl rfl rfl (Q6 fo_87_1 rfl) <| Wm rfl rfl rfl (Qu Jn rfl rfl rfl rfl) <| Wm rfl rfl rfl (Q6 fo_87_1 rfl) <| Wm rfl rfl rfl (Qu Jn rfl rfl rfl rfl) ?_
 refine Qb h1 (fun x4 hx4 h1 => ?_)
 refine Qa rfl rfl (Wx rfl) (Qn (KU a0.body a1.body x4 hx4) rfl (.cons (.agg (.cons (.d _) (.cons (.d _) (.cons (.d _) (.cons (.d _) (.cons (.d _) .nil)))))) (.cons (.agg (.cons (.d _) (.cons (.d _) (.cons (.d _) (.cons (.d _) (.cons (.d _) .nil)))))) .nil))) <| Wm rfl rfl rfl (J9 rfl) <| Wm rfl rfl rfl (Qx rfl rfl) <| Wn rfl rfl rfl ?_
 refine QP (d := 28) (c := (!x4)) rfl (fun c5 => ?_) (fun c5 => ?_)
 replace h1 := Qq c5 h1
 refine Q5 rfl rfl <| Q5 rfl rfl <| Q5 rfl rfl <| Q5 rfl rfl <| Q5 rfl rfl <| Q5 rfl rfl <| Q5 rfl rfl <| Wm rfl rfl rfl (Qk rfl rfl) <| Q3 ?_
 have e := Wk h1; subst e
 exact Qt true (Qf (Wi rfl (Wi rfl (Wi rfl Wh))) (WD rfl (WD rfl WC)) Wy rfl (Nat.zero_le _) rfl rfl rfl (WU rfl rfl (WU rfl rfl WR)) rfl rfl) h0
 replace h1 := Qr c5 h1
 refine Wm rfl rfl rfl (Q6 Yd rfl) <| Wm rfl rfl rfl (Q7 Zl rfl rfl rfl) <| Wm rfl rfl rfl (QC (α := U4) Z2 rfl (.d _)) <| Wm rfl rfl rfl (Q6 Yd rfl) <| Wm rfl rfl rfl (Q7 Zl rfl rfl rfl) <| Wm rfl rfl rfl (QC (α := U4) Z2 rfl (.d _)) <| Wm rfl rfl rfl (Q8 rfl rfl rfl) <| Wm rfl rfl rfl (Qx rfl rfl) <| Q3 ?_
 have e := Wk h1; subst e
 exact Qt ((a0.branches.length : Int) != (a1.branches.length : Int)) (Qf (Wi rfl (Wi rfl (Wi rfl Wh))) (WD rfl (WD rfl WC)) Wy rfl (Nat.zero_le _) rfl rfl rfl (WU rfl rfl (WU rfl rfl WR)) rfl rfl) h0
 intro v1 h0
 refine Q1 ?_
 refine Qe (b := v1) rfl (fun c6 => ?_) (fun c6 => ?_)
 replace h0 := Qq c6 h0
 refine Q2 <| Q0 <| Wo rfl rfl rfl <| Q3 <| Q1 <| Qz ?_
 have e := Wk h0; subst e
 exact QO (fun _ _ h => h) rfl (Qo rfl .nil) (.cons (.one (.d _)) .nil)
 replace h0 := Qr c6 h0
 refine Qi <| Q1 <| Q2 <| Q2 <| Q0 <| Wo rfl rfl rfl <| Q3 <| Q1 <| Qc ?_
 refine QI 0 (fun (o7 : Unit) => ⟨[], [(0, .cells 87 (WO a0)), (1, .cells 87 (WO a1))], [], 2, 74, []⟩) (fun (o7 : Unit) => (some true) = some r) ?_ ?_
 refine Qb h0 (fun o8 hl1 h0 => ?_)
 refine QH (GA a0 a1 rc) (fun s1 => ⟨[(2, .v (.one (.ptr 0 0))), (3, .v (.one (.ptr 1 0))), (5, .v (.one (WL s1)))], [(0, .cells 87 (WO a0)), (1, .cells 87 (WO a1))], [], 2, 74, []⟩) 0 o8 (Qf (Wi rfl (Wi rfl (Wi rfl Wh))) (WD rfl (WD rfl WC)) Wy rfl (Nat.zero_le _) rfl rfl rfl (WU rfl rfl (WU rfl rfl WR)) rfl rfl) hl1 (fun s1 n1 oo1 h1 ho1 => ?_)
 unfold GA at h1
 refine Q2 <| Q2 <| Q0 <| Wn rfl rfl rfl <| Wm rfl rfl rfl (Q6 Yd rfl) <| Wm rfl rfl rfl (Q7 Zl rfl rfl rfl) <| Wm rfl rfl rfl (QC (α := U4) Z2 rfl (.d _)) <| Wm rfl rfl rfl (Q8 rfl rfl rfl) <| Q3 <| Q1 ?_
 refine Qe (b := (decide (s1 < (a0.branches.length : Int)))) rfl (fun c9 => ?_) (fun c9 => ?_)
 replace h1 := Qq c9 h1
 refine Qi <| Q1 <| Q2 <| Qc <| Q2 ?_
 refine XC.pairRun [10, 11, 12, 13] [[], [10], [10, 11], [10, 11, 12], [10, 11, 12, 13], [11]] [(0, 1), (0, 2), (1, 1), (1, 2), (2, 1), (2, 2), (3, 1), (3, 2), (4, 1), (4, 2), (5, 1), (5, 2), (5, 3), (6, 1), (6, 2), (6, 3), (7, 1), (7, 2), (7, 3), (8, 1), (8, 2), (8, 3), (9, 1), (9, 2), (9, 3)] 5 10 11 [0, 1, 2, 3, 4, 5, 6, 7, 8, 9] mixed (by kernel_rfl) (by kernel_rfl) (by kernel_rfl) (by kernel_rfl) (by kernel_rfl) (by kernel_rfl) rfl (by kernel_rfl) ?_
 refine RunA.rd rfl rfl rfl (Q4 (Q6 Yd rfl)) rfl <| RunA.rd rfl rfl rfl (Q4 (Q7 Zl rfl rfl rfl)) rfl <| RunA.rd rfl rfl rfl (Q4 (QQ rfl)) rfl ?_
 refine Qb h1 (fun x10 hx10 h1 => ?_)
 refine RunA.rd rfl rfl rfl (Q4 (Qm (α := U4) Z2 rfl (.d _) rfl hx10)) rfl <| RunA.rd rfl rfl rfl (Q4 (QK (x10 : U4) Zb rfl)) rfl <| RunA.rd rfl rfl rfl (Q4 (Q6 Yd rfl)) rfl <| RunA.rd rfl rfl rfl (Q4 (Q7 Zl rfl rfl rfl)) rfl <| RunA.rd rfl rfl rfl (Q4 (QQ rfl)) rfl ?_
 refine Qb h1 (fun x11 hx11 h1 => ?_)
 refine RunA.rd rfl rfl rfl (Q4 (Qm (α := U4) Z2 rfl (.d _) rfl hx11)) rfl <| RunA.rd rfl rfl rfl (Q4 (QK (x11 : U4) Zb rfl)) rfl <| RunA.eff rfl rfl rfl (Qp Xj rfl) rfl <| RunA.eff rfl rfl rfl (Qp Xj rfl) rfl <| RunA.eff rfl rfl rfl (J6 (x10 : U4) Zb rfl rfl rfl rfl rfl) rfl <| RunA.eff rfl rfl rfl (J6 (x11 : U4) Zb rfl rfl rfl rfl rfl) rfl ?_
 refine RunA.nil ⟨[_], ⟨⟨_, _, rfl, rfl, _, _, rfl, rfl, rfl, .inl ⟨rfl, _, (Q4 (Q6 Yd rfl)), .inr ⟨rfl, rfl⟩⟩⟩, ⟨⟨_, _, rfl, rfl, _, _, rfl, rfl, rfl, .inl ⟨rfl, _, (Q4 (Q6 Yd rfl)), .inr ⟨rfl, rfl⟩⟩⟩, ⟨⟨_, _, rfl, rfl, _, _, rfl, rfl, rfl, .inl ⟨rfl, _, (Q4 (Q7 Zl rfl rfl rfl)), .inr ⟨rfl, rfl⟩⟩⟩, ⟨⟨_, _, rfl, rfl, _, _, rfl, rfl, rfl, .inl ⟨rfl, _, (Q4 (Q7 Zl rfl rfl rfl)), .inr ⟨rfl, rfl⟩⟩⟩, ⟨⟨_, _, rfl, rfl, _, _, rfl, rfl, rfl, .inl ⟨rfl, _, (Q4 (QQ rfl)), .inr ⟨rfl, rfl⟩⟩⟩, ⟨⟨_, _, rfl, rfl, _, _, rfl, rfl, rfl, .inl ⟨rfl, _, (Q4 (QQ rfl)), .inr ⟨rfl, rfl⟩⟩⟩, ⟨⟨_, _, rfl, rfl, _, _, rfl, rfl, rfl, .inl ⟨rfl, _, (Q4 (Qm (α := U4) Z2 rfl (.d _) rfl hx10)), .inr ⟨rfl, rfl⟩⟩⟩, ⟨⟨_, _, rfl, rfl, _, _, rfl, rfl, rfl, .inl ⟨rfl, _, (Q4 (Qm (α := U4) Z2 rfl (.d _) rfl hx10)), .inr ⟨rfl, rfl⟩⟩⟩, ⟨⟨_, _, rfl, rfl, _, _, rfl, rfl, rfl, .inl ⟨rfl, _, (Q4 (QK (x10 : U4) Zb rfl)), .inr ⟨rfl, rfl⟩⟩⟩, ⟨⟨_, _, rfl, rfl, _, _, rfl, rfl, rfl, .inl ⟨rfl, _, (Q4 (QK (x10 : U4) Zb rfl)), .inr ⟨rfl, rfl⟩⟩⟩, ⟨⟨_, _, rfl, rfl, _, _, rfl, rfl, rfl, .inl ⟨rfl, _, (Q4 (Q6 Yd rfl)), .inr ⟨rfl, rfl⟩⟩⟩, ⟨⟨_, _, rfl, rfl, _, _, rfl, rfl, rfl, .inl ⟨rfl, _, (Q4 (Q6 Yd rfl)), .inr ⟨rfl, rfl⟩⟩⟩, ⟨⟨_, _, rfl, rfl, _, _, rfl, rfl, rfl, .inl ⟨rfl, _, (Q4 (Q6 Yd rfl)), .inr ⟨rfl, rfl⟩⟩⟩, ⟨⟨_, _, rfl, rfl, _, _, rfl, rfl, rfl, .inl ⟨rfl, _, (Q4 (Q7 Zl rfl rfl rfl)), .inr ⟨rfl, rfl⟩⟩⟩, ⟨⟨_, _, rfl, rfl, _, _, rfl, rfl, rfl, .inl ⟨rfl, _, (Q4 (Q7 Zl rfl rfl rfl)), .inr ⟨rfl, rfl⟩⟩⟩, ⟨⟨_, _, rfl, rfl, _, _, rfl, rfl, rfl, .inl ⟨rfl, _, (Q4 (Q7 Zl rfl rfl rfl)), .inr ⟨rfl, rfl⟩⟩⟩, ⟨⟨_, _, rfl, rfl, _, _, rfl, rfl, rfl, .inl ⟨rfl, _, (Q4 (QQ rfl)), .inr ⟨rfl, rfl⟩⟩⟩, ⟨⟨_, _, rfl, rfl, _, _, rfl, rfl, rfl, .inl ⟨rfl, _, (Q4 (QQ rfl)), .inr ⟨rfl, rfl⟩⟩⟩, ⟨⟨_, _, rfl, rfl, _, _, rfl, rfl, rfl, .inl ⟨rfl, _, (Q4 (QQ rfl)), .inr ⟨rfl, rfl⟩⟩⟩, ⟨⟨_, _, rfl, rfl, _, _, rfl, rfl, rfl, .inl ⟨rfl, _, (Q4 (Qm (α := U4) Z2 rfl (.d _) rfl hx11)), .inr ⟨rfl, rfl⟩⟩⟩, ⟨⟨_, _, rfl, rfl, _, _, rfl, rfl, rfl, .inl ⟨rfl, _, (Q4 (Qm (α := U4) Z2 rfl (.d _) rfl hx11)), .inr ⟨rfl, rfl⟩⟩⟩, ⟨⟨_, _, rfl, rfl, _, _, rfl, rfl, rfl, .inl ⟨rfl, _, (Q4 (Qm (α := U4) Z2 rfl (.d _) rfl hx11)), .inr ⟨rfl, rfl⟩⟩⟩, ⟨⟨_, _, rfl, rfl, _, _, rfl, rfl, rfl, .inl ⟨rfl, _, (Q4 (QK (x11 : U4) Zb rfl)), .inr ⟨rfl, rfl⟩⟩⟩, ⟨⟨_, _, rfl, rfl, _, _, rfl, rfl, rfl, .inl ⟨rfl, _, (Q4 (QK (x11 : U4) Zb rfl)), .inr ⟨rfl, rfl⟩⟩⟩, ⟨⟨_, _, rfl, rfl, _, _, rfl, rfl, rfl, .inl ⟨rfl, _, (Q4 (QK (x11 : U4) Zb rfl)), .inr ⟨rfl, rfl⟩⟩⟩, trivial⟩⟩⟩⟩⟩⟩⟩⟩⟩⟩⟩⟩⟩⟩⟩⟩⟩⟩⟩⟩⟩⟩⟩⟩⟩, ⟨_, ⟨_, _, _, _, _, _, _, _, _, _, _, _, 2, _, rfl, rfl, Xj, rfl, Xj, rfl, rfl, rfl, rfl, rfl, rfl, rfl, rfl, rfl, rfl, rfl, rfl, rfl⟩, ⟨⟨_, _, rfl, rfl, rfl, .inl ⟨rfl, Q6 Yd rfl⟩⟩, ⟨⟨_, _, rfl, rfl, rfl, .inl ⟨rfl, Q7 Zl rfl rfl rfl⟩⟩, ⟨⟨_, _, rfl, rfl, rfl, .inl ⟨rfl, QQ rfl⟩⟩, ⟨⟨_, _, rfl, rfl, rfl, .inl ⟨rfl, Qm (α := U4) Z2 rfl (.d _) rfl hx10⟩⟩, ⟨⟨_, _, rfl, rfl, rfl, .inl ⟨rfl, QK (x10 : U4) Zb rfl⟩⟩, ⟨⟨_, _, rfl, rfl, rfl, .inl ⟨rfl, Q6 Yd rfl⟩⟩, ⟨⟨_, _, rfl, rfl, rfl, .inl ⟨rfl, Q7 Zl rfl rfl rfl⟩⟩, ⟨⟨_, _, rfl, rfl, rfl, .inl ⟨rfl, QQ rfl⟩⟩, ⟨⟨_, _, rfl, rfl, rfl, .inl ⟨rfl, Qm (α := U4) Z2 rfl (.d _) rfl hx11⟩⟩, ⟨⟨_, _, rfl, rfl, rfl, .inl ⟨rfl, QK (x11 : U4) Zb rfl⟩⟩, trivial⟩⟩⟩⟩⟩⟩⟩⟩⟩⟩⟩, _, _, rfl, ?_⟩
 refine JK (st' := ⟨[(2, .v (.one (.ptr 0 0))), (3, .v (.one (.ptr 1 0))), (5, .v (.one (WL s1))), (6, .v (.one (.ptr 2 0))), (7, .v (.one (.ptr 3 0)))], [(0, .cells 87 (WO a0)), (1, .cells 87 (WO a1)), (2, .cells 115 (WO x10)), (3, .cells 115 (WO x11))], [], 4, 74, []⟩) (Qf (Wi rfl (Wi rfl (Wi rfl (Wi rfl (Wi rfl Wh))))) (WD rfl (WD rfl (WD rfl (WD rfl WC)))) Wy rfl (Nat.zero_le _) rfl rfl rfl (WU rfl rfl (WU rfl rfl (WU rfl rfl (WU rfl rfl WR)))) rfl rfl) <| Q1 <| Q2 ?_
 refine Jf (fun (v12 : Bool) => ⟨[(2, .v (.one (.ptr 0 0))), (3, .v (.one (.ptr 1 0))), (5, .v (.one (WL s1))), (73, .v (.one (WM v12)))], [(0, .cells 87 (WO a0)), (1, .cells 87 (WO a1)), (2, .cells 115 (WO x10)), (3, .cells 115 (WO x11))], [], 4, 74, []⟩) (fun (v12 : Bool) => (cond v12
     (some (.done (.inr false)))
     (some (.next (QZ (s1 + 1))))) = some oo1) ?_ ?_
 refine Qb h1 (fun w2_ h2 h1 => ?_)
 refine Q0 <| Wm rfl rfl rfl (Q6 fo_115_0 rfl) <| Wm rfl rfl rfl (Q7 JT rfl rfl rfl) <| Wm rfl rfl rfl (Q6 fo_115_0 rfl) <| Wm rfl rfl rfl (Q7 JT rfl rfl rfl) <| Wm rfl rfl rfl (GL rfl rfl) <| Wn rfl rfl rfl ?_
 refine QP (d := 59) (c := (!(x10.ctor == x11.ctor))) rfl (fun c13 => ?_) (fun c13 => ?_)
 replace h2 := Qq c13 h2
 refine Q5 rfl rfl <| Q5 rfl rfl <| Q5 rfl rfl <| Q5 rfl rfl <| Q5 rfl rfl <| Wm rfl rfl rfl (Qk rfl rfl) <| Wn rfl rfl rfl <| Q5 rfl rfl <| Q5 rfl rfl <| Q5 rfl rfl <| Q5 rfl rfl <| Q5 rfl rfl <| Q5 rfl rfl <| Wm rfl rfl rfl (Qk rfl rfl) ?_
 refine Q3 ?_
 have e := Wk h2; subst e
 exact Qt true (Qf (Wi rfl (Wi rfl (Wi rfl (Wi rfl Wh)))) (WD rfl (WD rfl (WD rfl (WD rfl WC)))) Wy rfl (Nat.zero_le _) rfl rfl rfl (WU rfl rfl (WU rfl rfl (WU rfl rfl (WU rfl rfl WR)))) rfl rfl) h1
 replace h2 := Qr c13 h2
 refine Wm rfl rfl rfl (Q6 fo_115_1 rfl) <| Wm rfl rfl rfl (Q7 Gt rfl rfl rfl) <| Wm rfl rfl rfl (Q6 fo_115_1 rfl) <| Wm rfl rfl rfl (Q7 Gt rfl rfl rfl) <| Wm rfl rfl rfl (RO.neqBool ib_4 rfl rfl) <| Wm rfl rfl rfl (Qx rfl rfl) <| Wn rfl rfl rfl ?_
 refine QP (d := 66) (c := (!(x10.absurd == x11.absurd))) rfl (fun c14 => ?_) (fun c14 => ?_)
 replace h2 := Qq c14 h2
 refine Q5 rfl rfl <| Q5 rfl rfl <| Q5 rfl rfl <| Q5 rfl rfl <| Q5 rfl rfl <| Q5 rfl rfl <| Wm rfl rfl rfl (Qk rfl rfl) <| Q3 ?_
 have e := Wk h2; subst e
 exact Qt true (Qf (Wi rfl (Wi rfl (Wi rfl (Wi rfl Wh)))) (WD rfl (WD rfl (WD rfl (WD rfl WC)))) Wy rfl (Nat.zero_le _) rfl rfl rfl (WU rfl rfl (WU rfl rfl (WU rfl rfl (WU rfl rfl WR)))) rfl rfl) h1
 replace h2 := Qr c14 h2
 refine Wm rfl rfl rfl (Q6 fo_115_2 rfl) <| Wm rfl rfl rfl (Qu GN rfl rfl rfl rfl) <| Wm rfl rfl rfl (Q6 fo_115_2 rfl) <| Wm rfl rfl rfl (Qu GN rfl rfl rfl rfl) ?_
 refine Qb h2 (fun x15 hx15 h2 => ?_)
 refine Qa rfl rfl (Wx rfl) (Qn (H x10.tree x11.tree x15 hx15) rfl (.cons (.agg (.cons (.d _) (.cons (.d _) (.cons (.d _) (.cons (.d _) (.cons (.d _) (.cons (.d _) (.cons (.d _) (.cons (.d _) .nil))))))))) (.cons (.agg (.cons (.d _) (.cons (.d _) (.cons (.d _) (.cons (.d _) (.cons (.d _) (.cons (.d _) (.cons (.d _) (.cons (.d _) .nil))))))))) .nil))) <| Wm rfl rfl rfl (J9 rfl) <| Wm rfl rfl rfl (Qx rfl rfl) <| Q3 ?_
 have e := Wk h2; subst e
 exact Qt (!x15) (Qf (Wi rfl (Wi rfl (Wi rfl (Wi rfl Wh)))) (WD rfl (WD rfl (WD rfl (WD rfl WC)))) Wy rfl (Nat.zero_le _) rfl rfl rfl (WU rfl rfl (WU rfl rfl (WU rfl rfl (WU rfl rfl WR)))) rfl rfl) h1
 intro v12 h1
 refine Q1 ?_
 refine Qe (b := v12) rfl (fun c16 => ?_) (fun c16 => ?_)
 replace h1 := Qq c16 h1
 refine Q2 <| Q0 <| Wo rfl rfl rfl <| Q3 <| Q1 <| Qz ?_
 have e := Wk h1; subst e
 have e_ : _ = _ := ho1
 subst e_
 try dsimp only [Sum.elim_inl, Sum.elim_inr] at h0
 have e := Wk h0; subst e
 exact QO (fun _ _ h => h) rfl (Qo rfl .nil) (.cons (.one (.d _)) .nil)
 replace h1 := Qr c16 h1
 refine Qi <| Qj <| Q1 <| Q0 <| Wn rfl rfl rfl <| Wm rfl rfl rfl (Q8 rfl rfl rfl) <| Wo rfl rfl rfl <| Q3 ?_
 have e := Wk h1; subst e
 refine QD (QZ (s1 + 1)) (Qf (Wi rfl (Wi rfl (Wi rfl Wh))) (WD rfl (WD rfl WC)) Wy rfl (Nat.zero_le _) rfl rfl rfl (WU rfl rfl (WU rfl rfl WR)) rfl rfl) ho1
 replace h1 := Qr c9 h1
 refine QM <| Qd <| Qd ?_
 have e := Wk h1; subst e
 have e_ : _ = _ := ho1
 subst e_
 exact QG () (Qf Wh (WD rfl (WD rfl WC)) Wy rfl (Nat.zero_le _) rfl rfl rfl (WU rfl rfl (WU rfl rfl WR)) rfl rfl) h0
 intro o7 h0
 refine QB <| Q1 <| Q2 <| Q0 <| Wo rfl rfl rfl <| Q3 <| Q1 <| Qz ?_
 have e := Wk h0; subst e
 exact QO (fun _ _ h => h) rfl (Qo rfl .nil) (.cons (.one (.d _)) .nil)
theorem m59_all (n : Nat) (u : Tr × Tr) (r : Bool) (h0 : Yb m59F n u = some r) : Fun Try.prog 59 [.agg (WO u.1), .agg (WO u.2)] (QA [.one (WM r)]) :=
 YF (C := fun u r => Fun Try.prog 59 [.agg (WO u.1), .agg (WO u.2)] (QA [.one (WM r)])) (fun rc H u r h => m59s_ok rc (fun a0 a1 r h => H (a0, a1) r h) u.1 u.2 r h) n u r h0
theorem m59_ok (a0 : Tr) (a1 : Tr) (r : Bool) (h0 : m59 a0 a1 = some r) : Fun Try.prog 59 [.agg (WO a0), .agg (WO a1)] (QA [.one (WM r)]) := m59_all QF (a0, a1) r h0
def G0 (a0 : Dcl) (a1 : Dcl) (s1 : Int) : Option (LO Int (Unit ⊕ Bool)) :=
 cond (decide (s1 < (a0.ctors.length : Int)))
   (Option.bind (Option.bind (Ja a0.ctors s1) fun (x8 : Ctr) =>
 Option.bind (Ja a1.ctors s1) fun (x9 : Ctr) =>
 cond (!(x8.name == x9.name))
   (some true)
   (Option.bind (Ja a0.ctors s1) fun (x11 : Ctr) =>
 Option.bind (Ja a1.ctors s1) fun (x12 : Ctr) =>
 Option.bind (XZ x11.ty x12.ty) fun (x13 : Bool) =>
 some (!x13))) (fun (v7 : Bool) => cond v7
   (some (.done (.inr false)))
   (some (.next (QZ (s1 + 1))))))
   (some (.done (.inl ())))
def Kx (a0 : Dcl) (a1 : Dcl) (s1 : Int) : Option (LO Int (Unit ⊕ Bool)) :=
 cond (decide (s1 < (a0.funs.length : Int)))
   (Option.bind (Ja a0.funs s1) fun (x8 : Fn) =>
 Option.bind (Ja a1.funs s1) fun (x9 : Fn) =>
 Option.bind (cond (!(x8.name == x9.name))
   (some true)
   (cond (x8.arity != x9.arity)
   (some true)
   (Option.bind (XZ x8.ty x9.ty) fun (x13 : Bool) =>
 cond (!x13)
   (some true)
   (Option.bind (m59 x8.tree x9.tree) fun (x15 : Bool) =>
 some (!x15))))) (fun (v10 : Bool) => cond v10
   (some (.done (.inr false)))
   (some (.next (QZ (s1 + 1))))))
   (some (.done (.inl ())))
def Wg (a0 : Dcl) (a1 : Dcl) : Option Bool :=
 Option.bind (cond (a0.kind != a1.kind)
   (some true)
   (cond (!(a0.name == a1.name))
   (some true)
   (cond (a0.params != a1.params)
   (some true)
   (cond (a0.fixed != a1.fixed)
   (some true)
   (Option.bind (XZ a0.ty a1.ty) fun (x6 : Bool) =>
 cond (!x6)
   (some true)
   (Option.bind (XZ a0.value a1.value) fun (x8 : Bool) =>
 some (!x8))))))) (fun (v1 : Bool) => cond v1
   (some false)
   (Option.bind (cond ((a0.ctors.length : Int) != (a1.ctors.length : Int))
   (some true)
   (cond ((a0.funs.length : Int) != (a1.funs.length : Int))
   (some true)
   (Option.bind (W6 a0.rcr a1.rcr) fun (x6 : Bool) =>
 some (!x6)))) (fun (v3 : Bool) => cond v3
   (some false)
   (Option.bind (Qw (G0 a0 a1) QF 0) (Sum.elim (fun (o5 : Unit) => Option.bind (Qw (Kx a0 a1) QF 0) (Sum.elim (fun (o6 : Unit) => some true) (fun o => some o))) (fun o => some o))))))
set_option maxRecDepth 100000 in
set_option maxHeartbeats 2000000 in
theorem m40_ok (a0 : Dcl) (a1 : Dcl) (r : Bool) (h0 : Wg a0 a1 = some r) : Fun Try.prog 40 [.agg (WO a0), .agg (WO a1)] (QA [.one (WM r)]) := by
 unfold Wg at h0
 refine QU 9 156 Try.func40 rfl en_40 rfl (Wx rfl) (fun S w => ?_)
 simp only [Jb]
 refine Q2 <| Q0 <| Qa rfl rfl (Wx rfl) (Jc rfl) <| Qa rfl rfl (Wx rfl) (Jc rfl) <| Wo rfl rfl rfl <| Q3 <| Q1 <| Q2 <| Q2 ?_
 refine Jf (fun (v1 : Bool) => ⟨[(2, .v (.one (.ptr 0 0))), (3, .v (.one (.ptr 1 0))), (50, .v (.one (WM v1)))], [(0, .cells 48 (WO a0)), (1, .cells 48 (WO a1))], [], 2, 156, []⟩) (fun (v1 : Bool) => (cond v1
     (some false)
     (Option.bind (cond ((a0.ctors.length : Int) != (a1.ctors.length : Int))
     (some true)
     (cond ((a0.funs.length : Int) != (a1.funs.length : Int))
     (some true)
     (Option.bind (W6 a0.rcr a1.rcr) fun (x6 : Bool) =>
   some (!x6)))) (fun (v3 : Bool) => cond v3
     (some false)
     (Option.bind (Qw (G0 a0 a1) QF 0) (Sum.elim (fun (o5 : Unit) => Option.bind (Qw (Kx a0 a1) QF 0) (Sum.elim (fun (o6 : Unit) => some true) (fun o => some o))) (fun o => some o)))))) = some r) ?_ ?_
 refine Qb h0 (fun w1_ h1 h0 => ?_)
 refine Q0 <| Wm rfl rfl rfl (Q6 fo_48_0 rfl) <| Wm rfl rfl rfl (Q7 YA rfl rfl rfl) <| Wm rfl rfl rfl (Q6 fo_48_0 rfl) <| Wm rfl rfl rfl (Q7 YA rfl rfl rfl) <| Wm rfl rfl rfl (Q8 rfl rfl rfl) <| Wn rfl rfl rfl ?_
 refine QP (d := 14) (c := (a0.kind != a1.kind)) rfl (fun c2 => ?_) (fun c2 => ?_)
 replace h1 := Qq c2 h1
 refine Q5 rfl rfl <| Q5 rfl rfl <| Q5 rfl rfl <| Q5 rfl rfl <| Q5 rfl rfl <| Wm rfl rfl rfl (Qk rfl rfl) <| Wn rfl rfl rfl <| Q5 rfl rfl <| Q5 rfl rfl <| Q5 rfl rfl <| Q5 rfl rfl <| Q5 rfl rfl <| Wm rfl rfl rfl (Qk rfl rfl) <| Wn rfl rfl rfl ?_
 refine Q5 rfl rfl <| Q5 rfl rfl <| Q5 rfl rfl <| Q5 rfl rfl <| Q5 rfl rfl <| Wm rfl rfl rfl (Qk rfl rfl) <| Wn rfl rfl rfl <| Q5 rfl rfl <| Q5 rfl rfl <| Q5 rfl rfl <| Q5 rfl rfl <| Q5 rfl rfl <| Q5 rfl rfl <| Wm rfl rfl rfl (Qk rfl rfl) ?_
 refine Wn rfl rfl rfl <| Q5 rfl rfl <| Q5 rfl rfl <| Q5 rfl rfl <| Q5 rfl rfl <| Q5 rfl rfl <| Q5 rfl rfl <| Wm rfl rfl rfl (Qk rfl rfl) <| Q3 ?_
 have e := Wk h1; subst e
 exact Qt true (Qf (Wi rfl (Wi rfl (Wi rfl Wh))) (WD rfl (WD rfl WC)) Wy rfl (Nat.zero_le _) rfl rfl rfl (WU rfl rfl (WU rfl rfl WR)) rfl rfl) h0
 replace h1 := Qr c2 h1
 refine Wm rfl rfl rfl (Q6 YX rfl) <| Wm rfl rfl rfl (Q7 JT rfl rfl rfl) <| Wm rfl rfl rfl (Q6 YX rfl) <| Wm rfl rfl rfl (Q7 JT rfl rfl rfl) <| Wm rfl rfl rfl (GL rfl rfl) <| Wm rfl rfl rfl (Qx rfl rfl) <| Wn rfl rfl rfl ?_
 refine QP (d := 21) (c := (!(a0.name == a1.name))) rfl (fun c3 => ?_) (fun c3 => ?_)
 replace h1 := Qq c3 h1
 refine Q5 rfl rfl <| Q5 rfl rfl <| Q5 rfl rfl <| Q5 rfl rfl <| Q5 rfl rfl <| Wm rfl rfl rfl (Qk rfl rfl) <| Wn rfl rfl rfl <| Q5 rfl rfl <| Q5 rfl rfl <| Q5 rfl rfl <| Q5 rfl rfl <| Q5 rfl rfl <| Wm rfl rfl rfl (Qk rfl rfl) <| Wn rfl rfl rfl ?_
 refine Q5 rfl rfl <| Q5 rfl rfl <| Q5 rfl rfl <| Q5 rfl rfl <| Q5 rfl rfl <| Q5 rfl rfl <| Wm rfl rfl rfl (Qk rfl rfl) <| Wn rfl rfl rfl <| Q5 rfl rfl <| Q5 rfl rfl <| Q5 rfl rfl <| Q5 rfl rfl <| Q5 rfl rfl <| Q5 rfl rfl ?_
 refine Wm rfl rfl rfl (Qk rfl rfl) <| Q3 ?_
 have e := Wk h1; subst e
 exact Qt true (Qf (Wi rfl (Wi rfl (Wi rfl Wh))) (WD rfl (WD rfl WC)) Wy rfl (Nat.zero_le _) rfl rfl rfl (WU rfl rfl (WU rfl rfl WR)) rfl rfl) h0
 replace h1 := Qr c3 h1
 refine Wm rfl rfl rfl (Q6 fo_48_2 rfl) <| Wm rfl rfl rfl (Q7 YA rfl rfl rfl) <| Wm rfl rfl rfl (Q6 fo_48_2 rfl) <| Wm rfl rfl rfl (Q7 YA rfl rfl rfl) <| Wm rfl rfl rfl (Q8 rfl rfl rfl) <| Wm rfl rfl rfl (Qx rfl rfl) <| Wn rfl rfl rfl ?_
 refine QP (d := 28) (c := (a0.params != a1.params)) rfl (fun c4 => ?_) (fun c4 => ?_)
 replace h1 := Qq c4 h1
 refine Q5 rfl rfl <| Q5 rfl rfl <| Q5 rfl rfl <| Q5 rfl rfl <| Q5 rfl rfl <| Wm rfl rfl rfl (Qk rfl rfl) <| Wn rfl rfl rfl <| Q5 rfl rfl <| Q5 rfl rfl <| Q5 rfl rfl <| Q5 rfl rfl <| Q5 rfl rfl <| Q5 rfl rfl <| Wm rfl rfl rfl (Qk rfl rfl) ?_
 refine Wn rfl rfl rfl <| Q5 rfl rfl <| Q5 rfl rfl <| Q5 rfl rfl <| Q5 rfl rfl <| Q5 rfl rfl <| Q5 rfl rfl <| Wm rfl rfl rfl (Qk rfl rfl) <| Q3 ?_
 have e := Wk h1; subst e
 exact Qt true (Qf (Wi rfl (Wi rfl (Wi rfl Wh))) (WD rfl (WD rfl WC)) Wy rfl (Nat.zero_le _) rfl rfl rfl (WU rfl rfl (WU rfl rfl WR)) rfl rfl) h0
 replace h1 := Qr c4 h1
 refine Wm rfl rfl rfl (Q6 fo_48_5 rfl) <| Wm rfl rfl rfl (Q7 YA rfl rfl rfl) <| Wm rfl rfl rfl (Q6 fo_48_5 rfl) <| Wm rfl rfl rfl (Q7 YA rfl rfl rfl) <| Wm rfl rfl rfl (Q8 rfl rfl rfl) <| Wm rfl rfl rfl (Qx rfl rfl) <| Wn rfl rfl rfl ?_
 refine QP (d := 35) (c := (a0.fixed != a1.fixed)) rfl (fun c5 => ?_) (fun c5 => ?_)
 replace h1 := Qq c5 h1
 refine Q5 rfl rfl <| Q5 rfl rfl <| Q5 rfl rfl <| Q5 rfl rfl <| Q5 rfl rfl <| Q5 rfl rfl <| Wm rfl rfl rfl (Qk rfl rfl) <| Wn rfl rfl rfl <| Q5 rfl rfl <| Q5 rfl rfl <| Q5 rfl rfl <| Q5 rfl rfl <| Q5 rfl rfl <| Q5 rfl rfl ?_
 refine Wm rfl rfl rfl (Qk rfl rfl) <| Q3 ?_
 have e := Wk h1; subst e
 exact Qt true (Qf (Wi rfl (Wi rfl (Wi rfl Wh))) (WD rfl (WD rfl WC)) Wy rfl (Nat.zero_le _) rfl rfl rfl (WU rfl rfl (WU rfl rfl WR)) rfl rfl) h0
 replace h1 := Qr c5 h1
 refine Wm rfl rfl rfl (Q6 fo_48_3 rfl) <| Wm rfl rfl rfl (Qu Jn rfl rfl rfl rfl) <| Wm rfl rfl rfl (Q6 fo_48_3 rfl) <| Wm rfl rfl rfl (Qu Jn rfl rfl rfl rfl) ?_
 refine Qb h1 (fun x6 hx6 h1 => ?_)
 refine Qa rfl rfl (Wx rfl) (Qn (KU a0.ty a1.ty x6 hx6) rfl (.cons (.agg (.cons (.d _) (.cons (.d _) (.cons (.d _) (.cons (.d _) (.cons (.d _) .nil)))))) (.cons (.agg (.cons (.d _) (.cons (.d _) (.cons (.d _) (.cons (.d _) (.cons (.d _) .nil)))))) .nil))) <| Wm rfl rfl rfl (J9 rfl) <| Wm rfl rfl rfl (Qx rfl rfl) <| Wn rfl rfl rfl ?_
 refine QP (d := 43) (c := (!x6)) rfl (fun c7 => ?_) (fun c7 => ?_)
 replace h1 := Qq c7 h1
 refine Q5 rfl rfl <| Q5 rfl rfl <| Q5 rfl rfl <| Q5 rfl rfl <| Q5 rfl rfl <| Q5 rfl rfl <| Wm rfl rfl rfl (Qk rfl rfl) <| Q3 ?_
 have e := Wk h1; subst e
 exact Qt true (Qf (Wi rfl (Wi rfl (Wi rfl Wh))) (WD rfl (WD rfl WC)) Wy rfl (Nat.zero_le _) rfl rfl rfl (WU rfl rfl (WU rfl rfl WR)) rfl rfl) h0
 replace h1 := Qr c7 h1
 refine Wm rfl rfl rfl (Q6 Gl rfl) <| Wm rfl rfl rfl (Qu Jn rfl rfl rfl rfl) <| Wm rfl rfl rfl (Q6 Gl rfl) <| Wm rfl rfl rfl (Qu Jn rfl rfl rfl rfl) ?_
 refine Qb h1 (fun x8 hx8 h1 => ?_)
 refine Qa rfl rfl (Wx rfl) (Qn (KU a0.value a1.value x8 hx8) rfl (.cons (.agg (.cons (.d _) (.cons (.d _) (.cons (.d _) (.cons (.d _) (.cons (.d _) .nil)))))) (.cons (.agg (.cons (.d _) (.cons (.d _) (.cons (.d _) (.cons (.d _) (.cons (.d _) .nil)))))) .nil))) <| Wm rfl rfl rfl (J9 rfl) <| Wm rfl rfl rfl (Qx rfl rfl) <| Q3 ?_
 have e := Wk h1; subst e
 exact Qt (!x8) (Qf (Wi rfl (Wi rfl (Wi rfl Wh))) (WD rfl (WD rfl WC)) Wy rfl (Nat.zero_le _) rfl rfl rfl (WU rfl rfl (WU rfl rfl WR)) rfl rfl) h0
 intro v1 h0
 refine Q1 ?_
 refine Qe (b := v1) rfl (fun c9 => ?_) (fun c9 => ?_)
 replace h0 := Qq c9 h0
 refine Q2 <| Q0 <| Wo rfl rfl rfl <| Q3 <| Q1 <| Qz ?_
 have e := Wk h0; subst e
 exact QO (fun _ _ h => h) rfl (Qo rfl .nil) (.cons (.one (.d _)) .nil)
 replace h0 := Qr c9 h0
 refine Qi <| Q1 <| Q2 <| Q2 ?_
 refine Jf (fun (v10 : Bool) => ⟨[(2, .v (.one (.ptr 0 0))), (3, .v (.one (.ptr 1 0))), (74, .v (.one (WM v10)))], [(0, .cells 48 (WO a0)), (1, .cells 48 (WO a1))], [], 2, 156, []⟩) (fun (v10 : Bool) => (cond v10
     (some false)
     (Option.bind (Qw (G0 a0 a1) QF 0) (Sum.elim (fun (o12 : Unit) => Option.bind (Qw (Kx a0 a1) QF 0) (Sum.elim (fun (o13 : Unit) => some true) (fun o => some o))) (fun o => some o)))) = some r) ?_ ?_
 refine Qb h0 (fun w1_ h1 h0 => ?_)
 refine Q0 <| Wm rfl rfl rfl (Q6 Yp rfl) <| Wm rfl rfl rfl (Q7 ZN rfl rfl rfl) <| Wm rfl rfl rfl (QC (α := Ctr) Z3 rfl (.d _)) <| Wm rfl rfl rfl (Q6 Yp rfl) <| Wm rfl rfl rfl (Q7 ZN rfl rfl rfl) <| Wm rfl rfl rfl (QC (α := Ctr) Z3 rfl (.d _)) <| Wm rfl rfl rfl (Q8 rfl rfl rfl) <| Wn rfl rfl rfl ?_
 refine QP (d := 58) (c := ((a0.ctors.length : Int) != (a1.ctors.length : Int))) rfl (fun c11 => ?_) (fun c11 => ?_)
 replace h1 := Qq c11 h1
 refine Q5 rfl rfl <| Q5 rfl rfl <| Q5 rfl rfl <| Q5 rfl rfl <| Q5 rfl rfl <| Q5 rfl rfl <| Q5 rfl rfl <| Wm rfl rfl rfl (Qk rfl rfl) <| Wn rfl rfl rfl <| Q5 rfl rfl <| Q5 rfl rfl <| Q5 rfl rfl <| Q5 rfl rfl <| Q5 rfl rfl ?_
 refine Q5 rfl rfl <| Wm rfl rfl rfl (Qk rfl rfl) <| Q3 ?_
 have e := Wk h1; subst e
 exact Qt true (Qf (Wi rfl (Wi rfl (Wi rfl Wh))) (WD rfl (WD rfl WC)) Wy rfl (Nat.zero_le _) rfl rfl rfl (WU rfl rfl (WU rfl rfl WR)) rfl rfl) h0
 replace h1 := Qr c11 h1
 refine Wm rfl rfl rfl (Q6 JN rfl) <| Wm rfl rfl rfl (Q7 YE rfl rfl rfl) <| Wm rfl rfl rfl (QC (α := Fn) Yr rfl (.d _)) <| Wm rfl rfl rfl (Q6 JN rfl) <| Wm rfl rfl rfl (Q7 YE rfl rfl rfl) <| Wm rfl rfl rfl (QC (α := Fn) Yr rfl (.d _)) <| Wm rfl rfl rfl (Q8 rfl rfl rfl) <| Wm rfl rfl rfl (Qx rfl rfl) <| Wn rfl rfl rfl ?_
 refine QP (d := 67) (c := ((a0.funs.length : Int) != (a1.funs.length : Int))) rfl (fun c12 => ?_) (fun c12 => ?_)
 replace h1 := Qq c12 h1
 refine Q5 rfl rfl <| Q5 rfl rfl <| Q5 rfl rfl <| Q5 rfl rfl <| Q5 rfl rfl <| Q5 rfl rfl <| Wm rfl rfl rfl (Qk rfl rfl) <| Q3 ?_
 have e := Wk h1; subst e
 exact Qt true (Qf (Wi rfl (Wi rfl (Wi rfl Wh))) (WD rfl (WD rfl WC)) Wy rfl (Nat.zero_le _) rfl rfl rfl (WU rfl rfl (WU rfl rfl WR)) rfl rfl) h0
 replace h1 := Qr c12 h1
 refine Wm rfl rfl rfl (Q6 Zs rfl) <| Wm rfl rfl rfl (Qu ag_45 rfl rfl rfl rfl) <| Wm rfl rfl rfl (Q6 Zs rfl) <| Wm rfl rfl rfl (Qu ag_45 rfl rfl rfl rfl) ?_
 refine Qb h1 (fun x13 hx13 h1 => ?_)
 refine Qa rfl rfl (Wx rfl) (Qn (m58_ok a0.rcr a1.rcr x13 hx13) rfl (.cons (.agg (.cons (.d _) (.cons (.d _) (.cons (.d _) (.cons (.d _) (.cons (.d _) (.cons (.d _) (.cons (.d _) .nil)))))))) (.cons (.agg (.cons (.d _) (.cons (.d _) (.cons (.d _) (.cons (.d _) (.cons (.d _) (.cons (.d _) (.cons (.d _) .nil)))))))) .nil))) <| Wm rfl rfl rfl (J9 rfl) <| Wm rfl rfl rfl (Qx rfl rfl) <| Q3 ?_
 have e := Wk h1; subst e
 exact Qt (!x13) (Qf (Wi rfl (Wi rfl (Wi rfl Wh))) (WD rfl (WD rfl WC)) Wy rfl (Nat.zero_le _) rfl rfl rfl (WU rfl rfl (WU rfl rfl WR)) rfl rfl) h0
 intro v10 h0
 refine Q1 ?_
 refine Qe (b := v10) rfl (fun c14 => ?_) (fun c14 => ?_)
 replace h0 := Qq c14 h0
 refine Q2 <| Q0 <| Wo rfl rfl rfl <| Q3 <| Q1 <| Qz ?_
 have e := Wk h0; subst e
 exact QO (fun _ _ h => h) rfl (Qo rfl .nil) (.cons (.one (.d _)) .nil)
 replace h0 := Qr c14 h0
 refine Qi <| Q1 <| Q2 <| Q2 <| Q0 <| Wo rfl rfl rfl <| Q3 <| Q1 <| Qc ?_
 refine QI 0 (fun (o15 : Unit) => ⟨[(2, .v (.one (.ptr 0 0))), (3, .v (.one (.ptr 1 0)))], [(0, .cells 48 (WO a0)), (1, .cells 48 (WO a1))], [], 2, 156, []⟩) (fun (o15 : Unit) => (Option.bind (Qw (Kx a0 a1) QF 0) (Sum.elim (fun (o16 : Unit) => some true) (fun o => some o))) = some r) ?_ ?_
 refine Qb h0 (fun o16 hl1 h0 => ?_)
 refine QH (G0 a0 a1) (fun s1 => ⟨[(2, .v (.one (.ptr 0 0))), (3, .v (.one (.ptr 1 0))), (5, .v (.one (WL s1)))], [(0, .cells 48 (WO a0)), (1, .cells 48 (WO a1))], [], 2, 156, []⟩) 0 o16 (Qf (Wi rfl (Wi rfl (Wi rfl Wh))) (WD rfl (WD rfl WC)) Wy rfl (Nat.zero_le _) rfl rfl rfl (WU rfl rfl (WU rfl rfl WR)) rfl rfl) hl1 (fun s1 n1 oo1 h1 ho1 => ?_)
 unfold G0 at h1
 refine Q2 <| Q2 <| Q0 <| Wn rfl rfl rfl <| Wm rfl rfl rfl (Q6 Yp rfl) <| Wm rfl rfl rfl (Q7 ZN rfl rfl rfl) <| Wm rfl rfl rfl (QC (α := Ctr) Z3 rfl (.d _)) <| Wm rfl rfl rfl (Q8 rfl rfl rfl) <| Q3 <| Q1 ?_
 refine Qe (b := (decide (s1 < (a0.ctors.length : Int)))) rfl (fun c17 => ?_) (fun c17 => ?_)
 replace h1 := Qq c17 h1
 refine Qi <| Q1 <| Q2 <| Qc <| Q2 ?_
 refine Jf (fun (v18 : Bool) => ⟨[(2, .v (.one (.ptr 0 0))), (3, .v (.one (.ptr 1 0))), (5, .v (.one (WL s1))), (110, .v (.one (WM v18)))], [(0, .cells 48 (WO a0)), (1, .cells 48 (WO a1))], [], 2, 156, []⟩) (fun (v18 : Bool) => (cond v18
     (some (.done (.inr false)))
     (some (.next (QZ (s1 + 1))))) = some oo1) ?_ ?_
 refine Qb h1 (fun w2_ h2 h1 => ?_)
 refine JG [] [] mixed (by kernel_rfl) (by kernel_rfl) (by kernel_rfl) ?_
 refine RunA.rd rfl rfl rfl (Q4 (Q6 Yp rfl)) rfl <| RunA.rd rfl rfl rfl (Q4 (Q7 ZN rfl rfl rfl)) rfl <| RunA.rd rfl rfl rfl (Q4 (QQ rfl)) rfl ?_
 refine Qb h2 (fun x19 hx19 h2 => ?_)
 refine RunA.rd rfl rfl rfl (Q4 (Qm (α := Ctr) Z3 rfl (.d _) rfl hx19)) rfl <| RunA.rd rfl rfl rfl (Q4 (Jz Gk rfl)) rfl <| RunA.rd rfl rfl rfl (Q4 (QN JT rfl rfl)) rfl <| RunA.rd rfl rfl rfl (Q4 (Q6 Yp rfl)) rfl <| RunA.rd rfl rfl rfl (Q4 (Q7 ZN rfl rfl rfl)) rfl <| RunA.rd rfl rfl rfl (Q4 (QQ rfl)) rfl ?_
 refine Qb h2 (fun x20 hx20 h2 => ?_)
 refine RunA.rd rfl rfl rfl (Q4 (Qm (α := Ctr) Z3 rfl (.d _) rfl hx20)) rfl <| RunA.rd rfl rfl rfl (Q4 (Jz Gk rfl)) rfl <| RunA.rd rfl rfl rfl (Q4 (QN JT rfl rfl)) rfl <| RunA.rd rfl rfl rfl (Q4 (GL rfl rfl)) rfl ?_
 refine RunA.case (c := (!(x19.name == x20.name))) rfl rfl rfl (Q4 (QQ rfl)) rfl (fun c21 => ?_) (fun c21 => ?_)
 replace h2 := Qq c21 h2
 refine RunA.no rfl rfl rfl rfl <| RunA.no rfl rfl rfl rfl <| RunA.no rfl rfl rfl rfl <| RunA.no rfl rfl rfl rfl <| RunA.no rfl rfl rfl rfl <| RunA.no rfl rfl rfl rfl <| RunA.no rfl rfl rfl rfl <| RunA.no rfl rfl rfl rfl <| RunA.no rfl rfl rfl rfl <| RunA.no rfl rfl rfl rfl <| RunA.no rfl rfl rfl rfl <| RunA.no rfl rfl rfl rfl <| RunA.no rfl rfl rfl rfl <| RunA.no rfl rfl rfl rfl ?_
 refine RunA.rd rfl rfl rfl (Q4 (Qk rfl rfl)) rfl ?_
 refine RunA.nil ⟨?ex, _, _, rfl, ?_⟩
 case ex => exact trivial
 have e := Wk h2; subst e
 exact Qt true (Qf (Wi rfl (Wi rfl (Wi rfl (Wi rfl Wh)))) (WD rfl (WD rfl WC)) Wy rfl (Nat.zero_le _) rfl rfl rfl (WU rfl rfl (WU rfl rfl WR)) rfl rfl) h1
 replace h2 := Qr c21 h2
 refine RunA.rd rfl rfl rfl (Q4 (Q6 Yp rfl)) rfl <| RunA.rd rfl rfl rfl (Q4 (Q7 ZN rfl rfl rfl)) rfl <| RunA.rd rfl rfl rfl (Q4 (QQ rfl)) rfl ?_
 refine Qb h2 (fun x22 hx22 h2 => ?_)
 refine RunA.rd rfl rfl rfl (Q4 (Qm (α := Ctr) Z3 rfl (.d _) rfl hx22)) rfl <| RunA.rd rfl rfl rfl (Q4 (Jz fo_84_1 rfl)) rfl <| RunA.rd rfl rfl rfl (Q4 (Jh Jn rfl rfl rfl)) rfl <| RunA.rd rfl rfl rfl (Q4 (Q6 Yp rfl)) rfl <| RunA.rd rfl rfl rfl (Q4 (Q7 ZN rfl rfl rfl)) rfl <| RunA.rd rfl rfl rfl (Q4 (QQ rfl)) rfl ?_
 refine Qb h2 (fun x23 hx23 h2 => ?_)
 refine RunA.rd rfl rfl rfl (Q4 (Qm (α := Ctr) Z3 rfl (.d _) rfl hx23)) rfl <| RunA.rd rfl rfl rfl (Q4 (Jz fo_84_1 rfl)) rfl <| RunA.rd rfl rfl rfl (Q4 (Jh Jn rfl rfl rfl)) rfl ?_
 refine Qb h2 (fun x24 hx24 h2 => ?_)
 refine RunA.rd rfl rfl rfl (Qn (KU x22.ty x23.ty x24 hx24) rfl (.cons (.agg (.cons (.d _) (.cons (.d _) (.cons (.d _) (.cons (.d _) (.cons (.d _) .nil)))))) (.cons (.agg (.cons (.d _) (.cons (.d _) (.cons (.d _) (.cons (.d _) (.cons (.d _) .nil)))))) .nil))) rfl <| RunA.rd rfl rfl rfl (Q4 (J9 rfl)) rfl <| RunA.rd rfl rfl rfl (Q4 (Qx rfl rfl)) rfl ?_
 refine RunA.nil ⟨?ex, _, _, rfl, ?_⟩
 case ex => exact trivial
 have e := Wk h2; subst e
 exact Qt (!x24) (Qf (Wi rfl (Wi rfl (Wi rfl (Wi rfl Wh)))) (WD rfl (WD rfl WC)) Wy rfl (Nat.zero_le _) rfl rfl rfl (WU rfl rfl (WU rfl rfl WR)) rfl rfl) h1
 intro v18 h1
 refine Q1 ?_
 refine Qe (b := v18) rfl (fun c25 => ?_) (fun c25 => ?_)
 replace h1 := Qq c25 h1
 refine Q2 <| Q0 <| Wo rfl rfl rfl <| Q3 <| Q1 <| Qz ?_
 have e := Wk h1; subst e
 have e_ : _ = _ := ho1
 subst e_
 try dsimp only [Sum.elim_inl, Sum.elim_inr] at h0
 have e := Wk h0; subst e
 exact QO (fun _ _ h => h) rfl (Qo rfl .nil) (.cons (.one (.d _)) .nil)
 replace h1 := Qr c25 h1
 refine Qi <| Qj <| Q1 <| Q0 <| Wn rfl rfl rfl <| Wm rfl rfl rfl (Q8 rfl rfl rfl) <| Wo rfl rfl rfl <| Q3 ?_
 have e := Wk h1; subst e
 refine QD (QZ (s1 + 1)) (Qf (Wi rfl (Wi rfl (Wi rfl Wh))) (WD rfl (WD rfl WC)) Wy rfl (Nat.zero_le _) rfl rfl rfl (WU rfl rfl (WU rfl rfl WR)) rfl rfl) ho1
 replace h1 := Qr c17 h1
 refine QM <| Qd <| Qd ?_
 have e := Wk h1; subst e
 have e_ : _ = _ := ho1
 subst e_
 exact QG () (Qf (Wi rfl (Wi rfl Wh)) (WD rfl (WD rfl WC)) Wy rfl (Nat.zero_le _) rfl rfl rfl (WU rfl rfl (WU rfl rfl WR)) rfl rfl) h0
 intro o15 h0
 refine QB <| Q1 <| Q2 <| Q2 <| Q0 <| Wo rfl rfl rfl <| Q3 <| Q1 <| Qc ?_
 refine QI 2 (fun (o26 : Unit) => ⟨[], [(0, .cells 48 (WO a0)), (1, .cells 48 (WO a1))], [], 2, 156, []⟩) (fun (o26 : Unit) => (some true) = some r) ?_ ?_
 refine Qb h0 (fun o27 hl1 h0 => ?_)
 refine QH (Kx a0 a1) (fun s1 => ⟨[(2, .v (.one (.ptr 0 0))), (3, .v (.one (.ptr 1 0))), (6, .v (.one (WL s1)))], [(0, .cells 48 (WO a0)), (1, .cells 48 (WO a1))], [], 2, 156, []⟩) 0 o27 (Qf (Wi rfl (Wi rfl (Wi rfl Wh))) (WD rfl (WD rfl WC)) Wy rfl (Nat.zero_le _) rfl rfl rfl (WU rfl rfl (WU rfl rfl WR)) rfl rfl) hl1 (fun s1 n1 oo1 h1 ho1 => ?_)
 unfold Kx at h1
 refine Q2 <| Q2 <| Q0 <| Wn rfl rfl rfl <| Wm rfl rfl rfl (Q6 JN rfl) <| Wm rfl rfl rfl (Q7 YE rfl rfl rfl) <| Wm rfl rfl rfl (QC (α := Fn) Yr rfl (.d _)) <| Wm rfl rfl rfl (Q8 rfl rfl rfl) <| Q3 <| Q1 ?_
 refine Qe (b := (decide (s1 < (a0.funs.length : Int)))) rfl (fun c28 => ?_) (fun c28 => ?_)
 replace h1 := Qq c28 h1
 refine Qi <| Q1 <| Q2 <| Qc <| Q2 ?_
 refine XC.pairRun [10, 11, 12, 13] [[], [10], [10, 11], [10, 11, 12], [10, 11, 12, 13], [11]] [(0, 1), (0, 2), (1, 1), (1, 2), (2, 1), (2, 2), (3, 1), (3, 2), (4, 1), (4, 2), (5, 1), (5, 2), (5, 3), (6, 1), (6, 2), (6, 3), (7, 1), (7, 2), (7, 3), (8, 1), (8, 2), (8, 3), (9, 1), (9, 2), (9, 3)] 5 10 11 [0, 1, 2, 3, 4, 5, 6, 7, 8, 9] mixed (by kernel_rfl) (by kernel_rfl) (by kernel_rfl) (by kernel_rfl) (by kernel_rfl) (by kernel_rfl) rfl (by kernel_rfl) ?_
 refine RunA.rd rfl rfl rfl (Q4 (Q6 JN rfl)) rfl <| RunA.rd rfl rfl rfl (Q4 (Q7 YE rfl rfl rfl)) rfl <| RunA.rd rfl rfl rfl (Q4 (QQ rfl)) rfl ?_
 refine Qb h1 (fun x29 hx29 h1 => ?_)
 refine RunA.rd rfl rfl rfl (Q4 (Qm (α := Fn) Yr rfl (.d _) rfl hx29)) rfl <| RunA.rd rfl rfl rfl (Q4 (QK (x29 : Fn) Zk rfl)) rfl <| RunA.rd rfl rfl rfl (Q4 (Q6 JN rfl)) rfl <| RunA.rd rfl rfl rfl (Q4 (Q7 YE rfl rfl rfl)) rfl <| RunA.rd rfl rfl rfl (Q4 (QQ rfl)) rfl ?_
 refine Qb h1 (fun x30 hx30 h1 => ?_)
 refine RunA.rd rfl rfl rfl (Q4 (Qm (α := Fn) Yr rfl (.d _) rfl hx30)) rfl <| RunA.rd rfl rfl rfl (Q4 (QK (x30 : Fn) Zk rfl)) rfl <| RunA.eff rfl rfl rfl (Qp Xq rfl) rfl <| RunA.eff rfl rfl rfl (Qp Xq rfl) rfl <| RunA.eff rfl rfl rfl (J6 (x29 : Fn) Zk rfl rfl rfl rfl rfl) rfl <| RunA.eff rfl rfl rfl (J6 (x30 : Fn) Zk rfl rfl rfl rfl rfl) rfl ?_
 refine RunA.nil ⟨[_], ⟨⟨_, _, rfl, rfl, _, _, rfl, rfl, rfl, .inl ⟨rfl, _, (Q4 (Q6 JN rfl)), .inr ⟨rfl, rfl⟩⟩⟩, ⟨⟨_, _, rfl, rfl, _, _, rfl, rfl, rfl, .inl ⟨rfl, _, (Q4 (Q6 JN rfl)), .inr ⟨rfl, rfl⟩⟩⟩, ⟨⟨_, _, rfl, rfl, _, _, rfl, rfl, rfl, .inl ⟨rfl, _, (Q4 (Q7 YE rfl rfl rfl)), .inr ⟨rfl, rfl⟩⟩⟩, ⟨⟨_, _, rfl, rfl, _, _, rfl, rfl, rfl, .inl ⟨rfl, _, (Q4 (Q7 YE rfl rfl rfl)), .inr ⟨rfl, rfl⟩⟩⟩, ⟨⟨_, _, rfl, rfl, _, _, rfl, rfl, rfl, .inl ⟨rfl, _, (Q4 (QQ rfl)), .inr ⟨rfl, rfl⟩⟩⟩, ⟨⟨_, _, rfl, rfl, _, _, rfl, rfl, rfl, .inl ⟨rfl, _, (Q4 (QQ rfl)), .inr ⟨rfl, rfl⟩⟩⟩, ⟨⟨_, _, rfl, rfl, _, _, rfl, rfl, rfl, .inl ⟨rfl, _, (Q4 (Qm (α := Fn) Yr rfl (.d _) rfl hx29)), .inr ⟨rfl, rfl⟩⟩⟩, ⟨⟨_, _, rfl, rfl, _, _, rfl, rfl, rfl, .inl ⟨rfl, _, (Q4 (Qm (α := Fn) Yr rfl (.d _) rfl hx29)), .inr ⟨rfl, rfl⟩⟩⟩, ⟨⟨_, _, rfl, rfl, _, _, rfl, rfl, rfl, .inl ⟨rfl, _, (Q4 (QK (x29 : Fn) Zk rfl)), .inr ⟨rfl, rfl⟩⟩⟩, ⟨⟨_, _, rfl, rfl, _, _, rfl, rfl, rfl, .inl ⟨rfl, _, (Q4 (QK (x29 : Fn) Zk rfl)), .inr ⟨rfl, rfl⟩⟩⟩, ⟨⟨_, _, rfl, rfl, _, _, rfl, rfl, rfl, .inl ⟨rfl, _, (Q4 (Q6 JN rfl)), .inr ⟨rfl, rfl⟩⟩⟩, ⟨⟨_, _, rfl, rfl, _, _, rfl, rfl, rfl, .inl ⟨rfl, _, (Q4 (Q6 JN rfl)), .inr ⟨rfl, rfl⟩⟩⟩, ⟨⟨_, _, rfl, rfl, _, _, rfl, rfl, rfl, .inl ⟨rfl, _, (Q4 (Q6 JN rfl)), .inr ⟨rfl, rfl⟩⟩⟩, ⟨⟨_, _, rfl, rfl, _, _, rfl, rfl, rfl, .inl ⟨rfl, _, (Q4 (Q7 YE rfl rfl rfl)), .inr ⟨rfl, rfl⟩⟩⟩, ⟨⟨_, _, rfl, rfl, _, _, rfl, rfl, rfl, .inl ⟨rfl, _, (Q4 (Q7 YE rfl rfl rfl)), .inr ⟨rfl, rfl⟩⟩⟩, ⟨⟨_, _, rfl, rfl, _, _, rfl, rfl, rfl, .inl ⟨rfl, _, (Q4 (Q7 YE rfl rfl rfl)), .inr ⟨rfl, rfl⟩⟩⟩, ⟨⟨_, _, rfl, rfl, _, _, rfl, rfl, rfl, .inl ⟨rfl, _, (Q4 (QQ rfl)), .inr ⟨rfl, rfl⟩⟩⟩, ⟨⟨_, _, rfl, rfl, _, _, rfl, rfl, rfl, .inl ⟨rfl, _, (Q4 (QQ rfl)), .inr ⟨rfl, rfl⟩⟩⟩, ⟨⟨_, _, rfl, rfl, _, _, rfl, rfl, rfl, .inl ⟨rfl, _, (Q4 (QQ rfl)), .inr ⟨rfl, rfl⟩⟩⟩, ⟨⟨_, _, rfl, rfl, _, _, rfl, rfl, rfl, .inl ⟨rfl, _, (Q4 (Qm (α := Fn) Yr rfl (.d _) rfl hx30)), .inr ⟨rfl, rfl⟩⟩⟩, ⟨⟨_, _, rfl, rfl, _, _, rfl, rfl, rfl, .inl ⟨rfl, _, (Q4 (Qm (α := Fn) Yr rfl (.d _) rfl hx30)), .inr ⟨rfl, rfl⟩⟩⟩, ⟨⟨_, _, rfl, rfl, _, _, rfl, rfl, rfl, .inl ⟨rfl, _, (Q4 (Qm (α := Fn) Yr rfl (.d _) rfl hx30)), .inr ⟨rfl, rfl⟩⟩⟩, ⟨⟨_, _, rfl, rfl, _, _, rfl, rfl, rfl, .inl ⟨rfl, _, (Q4 (QK (x30 : Fn) Zk rfl)), .inr ⟨rfl, rfl⟩⟩⟩, ⟨⟨_, _, rfl, rfl, _, _, rfl, rfl, rfl, .inl ⟨rfl, _, (Q4 (QK (x30 : Fn) Zk rfl)), .inr ⟨rfl, rfl⟩⟩⟩, ⟨⟨_, _, rfl, rfl, _, _, rfl, rfl, rfl, .inl ⟨rfl, _, (Q4 (QK (x30 : Fn) Zk rfl)), .inr ⟨rfl, rfl⟩⟩⟩, trivial⟩⟩⟩⟩⟩⟩⟩⟩⟩⟩⟩⟩⟩⟩⟩⟩⟩⟩⟩⟩⟩⟩⟩⟩⟩, ⟨_, ⟨_, _, _, _, _, _, _, _, _, _, _, _, 2, _, rfl, rfl, Xq, rfl, Xq, rfl, rfl, rfl, rfl, rfl, rfl, rfl, rfl, rfl, rfl, rfl, rfl, rfl⟩, ⟨⟨_, _, rfl, rfl, rfl, .inl ⟨rfl, Q6 JN rfl⟩⟩, ⟨⟨_, _, rfl, rfl, rfl, .inl ⟨rfl, Q7 YE rfl rfl rfl⟩⟩, ⟨⟨_, _, rfl, rfl, rfl, .inl ⟨rfl, QQ rfl⟩⟩, ⟨⟨_, _, rfl, rfl, rfl, .inl ⟨rfl, Qm (α := Fn) Yr rfl (.d _) rfl hx29⟩⟩, ⟨⟨_, _, rfl, rfl, rfl, .inl ⟨rfl, QK (x29 : Fn) Zk rfl⟩⟩, ⟨⟨_, _, rfl, rfl, rfl, .inl ⟨rfl, Q6 JN rfl⟩⟩, ⟨⟨_, _, rfl, rfl, rfl, .inl ⟨rfl, Q7 YE rfl rfl rfl⟩⟩, ⟨⟨_, _, rfl, rfl, rfl, .inl ⟨rfl, QQ rfl⟩⟩, ⟨⟨_, _, rfl, rfl, rfl, .inl ⟨rfl, Qm (α := Fn) Yr rfl (.d _) rfl hx30⟩⟩, ⟨⟨_, _, rfl, rfl, rfl, .inl ⟨rfl, QK (x30 : Fn) Zk rfl⟩⟩, trivial⟩⟩⟩⟩⟩⟩⟩⟩⟩⟩⟩, _, _, rfl, ?_⟩
 refine JK (st' := ⟨[(2, .v (.one (.ptr 0 0))), (3, .v (.one (.ptr 1 0))), (6, .v (.one (WL s1))), (7, .v (.one (.ptr 2 0))), (8, .v (.one (.ptr 3 0)))], [(0, .cells 48 (WO a0)), (1, .cells 48 (WO a1)), (2, .cells 89 (WO x29)), (3, .cells 89 (WO x30))], [], 4, 156, []⟩) (Qf (Wi rfl (Wi rfl (Wi rfl (Wi rfl (Wi rfl Wh))))) (WD rfl (WD rfl (WD rfl (WD rfl WC)))) Wy rfl (Nat.zero_le _) rfl rfl rfl (WU rfl rfl (WU rfl rfl (WU rfl rfl (WU rfl rfl WR)))) rfl rfl) <| Q1 <| Q2 ?_
 refine Jf (fun (v31 : Bool) => ⟨[(2, .v (.one (.ptr 0 0))), (3, .v (.one (.ptr 1 0))), (6, .v (.one (WL s1))), (155, .v (.one (WM v31)))], [(0, .cells 48 (WO a0)), (1, .cells 48 (WO a1)), (2, .cells 89 (WO x29)), (3, .cells 89 (WO x30))], [], 4, 156, []⟩) (fun (v31 : Bool) => (cond v31
     (some (.done (.inr false)))
     (some (.next (QZ (s1 + 1))))) = some oo1) ?_ ?_
 refine Qb h1 (fun w2_ h2 h1 => ?_)
 refine Q0 <| Wm rfl rfl rfl (Q6 Gj rfl) <| Wm rfl rfl rfl (Q7 JT rfl rfl rfl) <| Wm rfl rfl rfl (Q6 Gj rfl) <| Wm rfl rfl rfl (Q7 JT rfl rfl rfl) <| Wm rfl rfl rfl (GL rfl rfl) <| Wn rfl rfl rfl ?_
 refine QP (d := 133) (c := (!(x29.name == x30.name))) rfl (fun c32 => ?_) (fun c32 => ?_)
 replace h2 := Qq c32 h2
 refine Q5 rfl rfl <| Q5 rfl rfl <| Q5 rfl rfl <| Q5 rfl rfl <| Q5 rfl rfl <| Wm rfl rfl rfl (Qk rfl rfl) <| Wn rfl rfl rfl <| Q5 rfl rfl <| Q5 rfl rfl <| Q5 rfl rfl <| Q5 rfl rfl <| Q5 rfl rfl <| Q5 rfl rfl <| Wm rfl rfl rfl (Qk rfl rfl) ?_
 refine Wn rfl rfl rfl <| Q5 rfl rfl <| Q5 rfl rfl <| Q5 rfl rfl <| Q5 rfl rfl <| Q5 rfl rfl <| Q5 rfl rfl <| Wm rfl rfl rfl (Qk rfl rfl) <| Q3 ?_
 have e := Wk h2; subst e
 exact Qt true (Qf (Wi rfl (Wi rfl (Wi rfl (Wi rfl Wh)))) (WD rfl (WD rfl (WD rfl (WD rfl WC)))) Wy rfl (Nat.zero_le _) rfl rfl rfl (WU rfl rfl (WU rfl rfl (WU rfl rfl (WU rfl rfl WR)))) rfl rfl) h1
 replace h2 := Qr c32 h2
 refine Wm rfl rfl rfl (Q6 fo_89_2 rfl) <| Wm rfl rfl rfl (Q7 YA rfl rfl rfl) <| Wm rfl rfl rfl (Q6 fo_89_2 rfl) <| Wm rfl rfl rfl (Q7 YA rfl rfl rfl) <| Wm rfl rfl rfl (Q8 rfl rfl rfl) <| Wm rfl rfl rfl (Qx rfl rfl) <| Wn rfl rfl rfl ?_
 refine QP (d := 140) (c := (x29.arity != x30.arity)) rfl (fun c33 => ?_) (fun c33 => ?_)
 replace h2 := Qq c33 h2
 refine Q5 rfl rfl <| Q5 rfl rfl <| Q5 rfl rfl <| Q5 rfl rfl <| Q5 rfl rfl <| Q5 rfl rfl <| Wm rfl rfl rfl (Qk rfl rfl) <| Wn rfl rfl rfl <| Q5 rfl rfl <| Q5 rfl rfl <| Q5 rfl rfl <| Q5 rfl rfl <| Q5 rfl rfl <| Q5 rfl rfl ?_
 refine Wm rfl rfl rfl (Qk rfl rfl) <| Q3 ?_
 have e := Wk h2; subst e
 exact Qt true (Qf (Wi rfl (Wi rfl (Wi rfl (Wi rfl Wh)))) (WD rfl (WD rfl (WD rfl (WD rfl WC)))) Wy rfl (Nat.zero_le _) rfl rfl rfl (WU rfl rfl (WU rfl rfl (WU rfl rfl (WU rfl rfl WR)))) rfl rfl) h1
 replace h2 := Qr c33 h2
 refine Wm rfl rfl rfl (Q6 fo_89_1 rfl) <| Wm rfl rfl rfl (Qu Jn rfl rfl rfl rfl) <| Wm rfl rfl rfl (Q6 fo_89_1 rfl) <| Wm rfl rfl rfl (Qu Jn rfl rfl rfl rfl) ?_
 refine Qb h2 (fun x34 hx34 h2 => ?_)
 refine Qa rfl rfl (Wx rfl) (Qn (KU x29.ty x30.ty x34 hx34) rfl (.cons (.agg (.cons (.d _) (.cons (.d _) (.cons (.d _) (.cons (.d _) (.cons (.d _) .nil)))))) (.cons (.agg (.cons (.d _) (.cons (.d _) (.cons (.d _) (.cons (.d _) (.cons (.d _) .nil)))))) .nil))) <| Wm rfl rfl rfl (J9 rfl) <| Wm rfl rfl rfl (Qx rfl rfl) <| Wn rfl rfl rfl ?_
 refine QP (d := 148) (c := (!x34)) rfl (fun c35 => ?_) (fun c35 => ?_)
 replace h2 := Qq c35 h2
 refine Q5 rfl rfl <| Q5 rfl rfl <| Q5 rfl rfl <| Q5 rfl rfl <| Q5 rfl rfl <| Q5 rfl rfl <| Wm rfl rfl rfl (Qk rfl rfl) <| Q3 ?_
 have e := Wk h2; subst e
 exact Qt true (Qf (Wi rfl (Wi rfl (Wi rfl (Wi rfl Wh)))) (WD rfl (WD rfl (WD rfl (WD rfl WC)))) Wy rfl (Nat.zero_le _) rfl rfl rfl (WU rfl rfl (WU rfl rfl (WU rfl rfl (WU rfl rfl WR)))) rfl rfl) h1
 replace h2 := Qr c35 h2
 refine Wm rfl rfl rfl (Q6 fo_89_3 rfl) <| Wm rfl rfl rfl (Qu GN rfl rfl rfl rfl) <| Wm rfl rfl rfl (Q6 fo_89_3 rfl) <| Wm rfl rfl rfl (Qu GN rfl rfl rfl rfl) ?_
 refine Qb h2 (fun x36 hx36 h2 => ?_)
 refine Qa rfl rfl (Wx rfl) (Qn (m59_ok x29.tree x30.tree x36 hx36) rfl (.cons (.agg (.cons (.d _) (.cons (.d _) (.cons (.d _) (.cons (.d _) (.cons (.d _) (.cons (.d _) (.cons (.d _) (.cons (.d _) .nil))))))))) (.cons (.agg (.cons (.d _) (.cons (.d _) (.cons (.d _) (.cons (.d _) (.cons (.d _) (.cons (.d _) (.cons (.d _) (.cons (.d _) .nil))))))))) .nil))) <| Wm rfl rfl rfl (J9 rfl) <| Wm rfl rfl rfl (Qx rfl rfl) <| Q3 ?_
 have e := Wk h2; subst e
 exact Qt (!x36) (Qf (Wi rfl (Wi rfl (Wi rfl (Wi rfl Wh)))) (WD rfl (WD rfl (WD rfl (WD rfl WC)))) Wy rfl (Nat.zero_le _) rfl rfl rfl (WU rfl rfl (WU rfl rfl (WU rfl rfl (WU rfl rfl WR)))) rfl rfl) h1
 intro v31 h1
 refine Q1 ?_
 refine Qe (b := v31) rfl (fun c37 => ?_) (fun c37 => ?_)
 replace h1 := Qq c37 h1
 refine Q2 <| Q0 <| Wo rfl rfl rfl <| Q3 <| Q1 <| Qz ?_
 have e := Wk h1; subst e
 have e_ : _ = _ := ho1
 subst e_
 try dsimp only [Sum.elim_inl, Sum.elim_inr] at h0
 have e := Wk h0; subst e
 exact QO (fun _ _ h => h) rfl (Qo rfl .nil) (.cons (.one (.d _)) .nil)
 replace h1 := Qr c37 h1
 refine Qi <| Qj <| Q1 <| Q0 <| Wn rfl rfl rfl <| Wm rfl rfl rfl (Q8 rfl rfl rfl) <| Wo rfl rfl rfl <| Q3 ?_
 have e := Wk h1; subst e
 refine QD (QZ (s1 + 1)) (Qf (Wi rfl (Wi rfl (Wi rfl Wh))) (WD rfl (WD rfl WC)) Wy rfl (Nat.zero_le _) rfl rfl rfl (WU rfl rfl (WU rfl rfl WR)) rfl rfl) ho1
 replace h1 := Qr c28 h1
 refine QM <| Qd <| Qd ?_
 have e := Wk h1; subst e
 have e_ : _ = _ := ho1
 subst e_
 exact QG () (Qf Wh (WD rfl (WD rfl WC)) Wy rfl (Nat.zero_le _) rfl rfl rfl (WU rfl rfl (WU rfl rfl WR)) rfl rfl) h0
 intro o26 h0
 refine QB <| Q1 <| Q2 <| Q0 <| Wo rfl rfl rfl <| Q3 <| Q1 <| Qz ?_
 have e := Wk h0; subst e
 exact QO (fun _ _ h => h) rfl (Qo rfl .nil) (.cons (.one (.d _)) .nil)
def GZ (a0 : List Dcl) (a1 : List Dcl) (s1 : Int) : Option (LO Int (Unit ⊕ Bool)) :=
 cond (decide (s1 < (a0.length : Int)))
   (Option.bind (Ja a0 s1) fun (x4 : Dcl) =>
 Option.bind (Ja a1 s1) fun (x5 : Dcl) =>
 Option.bind (Wg x4 x5) fun (x6 : Bool) =>
 cond (!x6)
   (some (.done (.inr false)))
   (some (.next (QZ (s1 + 1)))))
   (some (.done (.inl ())))
def Xw (a0 : List Dcl) (a1 : List Dcl) : Option Bool :=
 cond ((a0.length : Int) != (a1.length : Int))
   (some false)
   (Option.bind (Qw (GZ a0 a1) QF 0) (Sum.elim (fun (o2 : Unit) => some true) (fun o => some o)))
set_option maxRecDepth 100000 in
set_option maxHeartbeats 2000000 in
theorem m17_ok (a0 : List Dcl) (a1 : List Dcl) (r : Bool) (h0 : Xw a0 a1 = some r) : Fun Try.prog 17 [.one (WJ a0), .one (WJ a1)] (QA [.one (WM r)]) := by
 unfold Xw at h0
 refine QU 9 27 Try.func17 rfl en_17 rfl (Wx rfl) (fun S w => ?_)
 simp only [Jb]
 refine Q2 <| Q0 <| Wo rfl rfl rfl <| Q3 <| Q1 <| Q2 <| Q2 <| Q0 <| Wn rfl rfl rfl <| Wm rfl rfl rfl (QC (α := Dcl) Jo rfl (.d _)) <| Wn rfl rfl rfl <| Wm rfl rfl rfl (QC (α := Dcl) Jo rfl (.d _)) <| Wm rfl rfl rfl (Q8 rfl rfl rfl) <| Q3 ?_
 refine Q1 ?_
 refine Qe (b := ((a0.length : Int) != (a1.length : Int))) rfl (fun c1 => ?_) (fun c1 => ?_)
 replace h0 := Qq c1 h0
 refine Q2 <| Q0 <| Wo rfl rfl rfl <| Q3 <| Q1 <| Qz ?_
 have e := Wk h0; subst e
 exact QO (fun _ _ h => h) rfl (Qo rfl .nil) (.cons (.one (.d _)) .nil)
 replace h0 := Qr c1 h0
 refine Qi <| Q1 <| Q2 <| Q2 <| Q0 <| Wo rfl rfl rfl <| Q3 <| Q1 <| Qc ?_
 refine QI 0 (fun (o2 : Unit) => ⟨[], [], [], 0, 27, []⟩) (fun (o2 : Unit) => (some true) = some r) ?_ ?_
 refine Qb h0 (fun o3 hl1 h0 => ?_)
 refine QH (GZ a0 a1) (fun s1 => ⟨[(0, .v (.one (WJ a0))), (1, .v (.one (WJ a1))), (5, .v (.one (WL s1)))], [], [], 0, 27, []⟩) 0 o3 (Qf (Wi rfl (Wi rfl (Wi rfl Wh))) WC Wy rfl (Nat.zero_le _) rfl rfl rfl WR rfl rfl) hl1 (fun s1 n1 oo1 h1 ho1 => ?_)
 unfold GZ at h1
 refine Q2 <| Q2 <| Q0 <| Wn rfl rfl rfl <| Wn rfl rfl rfl <| Wm rfl rfl rfl (QC (α := Dcl) Jo rfl (.d _)) <| Wm rfl rfl rfl (Q8 rfl rfl rfl) <| Q3 <| Q1 ?_
 refine Qe (b := (decide (s1 < (a0.length : Int)))) rfl (fun c4 => ?_) (fun c4 => ?_)
 replace h1 := Qq c4 h1
 refine Qi <| Q1 <| Q2 <| Qc <| Q2 ?_
 refine JG [] [] mixed (by kernel_rfl) (by kernel_rfl) (by kernel_rfl) ?_
 refine RunA.rd rfl rfl rfl (Q4 (QQ rfl)) rfl <| RunA.rd rfl rfl rfl (Q4 (QQ rfl)) rfl ?_
 refine Qb h1 (fun x5 hx5 h1 => ?_)
 refine RunA.rd rfl rfl rfl (Q4 (Qm (α := Dcl) Jo rfl (.d _) rfl hx5)) rfl <| RunA.rd rfl rfl rfl (Q4 (QK (x5 : Dcl) Jg rfl)) rfl <| RunA.rd rfl rfl rfl (Q4 (QQ rfl)) rfl <| RunA.rd rfl rfl rfl (Q4 (QQ rfl)) rfl ?_
 refine Qb h1 (fun x6 hx6 h1 => ?_)
 refine RunA.rd rfl rfl rfl (Q4 (Qm (α := Dcl) Jo rfl (.d _) rfl hx6)) rfl <| RunA.rd rfl rfl rfl (Q4 (QK (x6 : Dcl) Jg rfl)) rfl ?_
 refine Qb h1 (fun x7 hx7 h1 => ?_)
 refine RunA.rd rfl rfl rfl (Qn (m40_ok x5 x6 x7 hx7) rfl (.cons (.agg (.cons (.d _) (.cons (.d _) (.cons (.d _) (.cons (.d _) (.cons (.d _) (.cons (.d _) (.cons (.d _) (.cons (.d _) (.cons (.d _) (.cons (.d _) (.cons (.d _) (.cons (.d _) (.cons (.d _) (.cons (.d _) (.cons (.d _) (.cons (.d _) (.cons (.d _) (.cons (.d _) (.cons (.d _) (.cons (.d _) (.cons (.d _) (.cons (.d _) (.cons (.d _) .nil)))))))))))))))))))))))) (.cons (.agg (.cons (.d _) (.cons (.d _) (.cons (.d _) (.cons (.d _) (.cons (.d _) (.cons (.d _) (.cons (.d _) (.cons (.d _) (.cons (.d _) (.cons (.d _) (.cons (.d _) (.cons (.d _) (.cons (.d _) (.cons (.d _) (.cons (.d _) (.cons (.d _) (.cons (.d _) (.cons (.d _) (.cons (.d _) (.cons (.d _) (.cons (.d _) (.cons (.d _) (.cons (.d _) .nil)))))))))))))))))))))))) .nil))) rfl <| RunA.rd rfl rfl rfl (Q4 (J9 rfl)) rfl ?_
 refine RunA.nil ⟨?ex, _, _, rfl, ?_⟩
 case ex => exact trivial
 refine JK (st' := ⟨[(0, .v (.one (WJ a0))), (1, .v (.one (WJ a1))), (5, .v (.one (WL s1))), (26, .v (.one (WM (!x7))))], [], [], 0, 27, []⟩) (Qf (Wi rfl (Wi rfl (Wi rfl (Wi rfl Wh)))) WC Wy rfl (Nat.zero_le _) rfl rfl rfl WR rfl rfl) <| Q1 ?_
 refine Qe (b := (!x7)) rfl (fun c8 => ?_) (fun c8 => ?_)
 replace h1 := Qq c8 h1
 refine Q2 <| Q0 <| Wo rfl rfl rfl <| Q3 <| Q1 <| Qz ?_
 have e := Wk h1; subst e
 have e_ : _ = _ := ho1
 subst e_
 try dsimp only [Sum.elim_inl, Sum.elim_inr] at h0
 have e := Wk h0; subst e
 exact QO (fun _ _ h => h) rfl (Qo rfl .nil) (.cons (.one (.d _)) .nil)
 replace h1 := Qr c8 h1
 refine Qi <| Qj <| Q1 <| Q0 <| Wn rfl rfl rfl <| Wm rfl rfl rfl (Q8 rfl rfl rfl) <| Wo rfl rfl rfl <| Q3 ?_
 have e := Wk h1; subst e
 refine QD (QZ (s1 + 1)) (Qf (Wi rfl (Wi rfl (Wi rfl Wh))) WC Wy rfl (Nat.zero_le _) rfl rfl rfl WR rfl rfl) ho1
 replace h1 := Qr c4 h1
 refine QM <| Qd <| Qd ?_
 have e := Wk h1; subst e
 have e_ : _ = _ := ho1
 subst e_
 exact QG () (Qf Wh WC Wy rfl (Nat.zero_le _) rfl rfl rfl WR rfl rfl) h0
 intro o2 h0
 refine QB <| Q1 <| Q2 <| Q0 <| Wo rfl rfl rfl <| Q3 <| Q1 <| Qz ?_
 have e := Wk h0; subst e
 exact QO (fun _ _ h => h) rfl (Qo rfl .nil) (.cons (.one (.d _)) .nil)
end Go.Proofs.Ytijcchddnnnmdaa
namespace Go.Proofs.Ytijcchddnnnmdaa
open Go.RowKit Go.Lib
set_option linter.unusedSimpArgs false
set_option linter.unusedVariables false
set_option linter.unusedSectionVars false
theorem YM {α : Type} {step : Int → Option (LO Int (Unit ⊕ Bool))} (l : List α) (h : l.length ≤ 900000000)
    (hin : ∀ (a : List α) (x : α) (c : List α), l = a ++ x :: c → step (a.length : Int) = some (.next (QZ ((a.length : Int) + 1)))) (hout : step (l.length : Int) = some (.done (.inl ()))) : Qw step QF 0 = some (.inl ()) := by
  obtain ⟨r, e, rfl⟩ := Jx (step := step) l (fun i (s : Unit) => i) (fun _ _ => True) (fun r => r = .inl ()) h
    (fun a x c s e _ => .inr ⟨(), hin a x c e, trivial⟩) (fun s _ => ⟨_, hout, rfl⟩) () trivial
  exact e
theorem Yy (a : Int) : (a != a) = false := by simp
theorem eq_selfI (a : Int) : (a == a) = true := by simp
theorem KE (a : U3) : (a == a) = true := by simp
theorem eq_selfb (a : Bool) : (a == a) = true := by simp
theorem m87_self (l : Lvl) (h : lvz l ≤ 900000000) : Wc l l = some true := by
  have hl := Zd (fun _ : U0 => 1) (fun _ => Nat.le_refl _) l.vs
  unfold lvz at h
  unfold Wc
  rw [Yy, Yy]
  simp only [cond_false, Option.bind_some]
  rw [YM l.vs (by omega)]
  · rfl
  · intro a x c e
    unfold Gx
    rw [e, Jd, QY]
    simp only [cond_true, Option.bind_some, eq_selfI, Bool.and_self, Bool.not_true, cond_false]
  · unfold Gx; rw [Jm]; rfl
theorem m70_self (ls : List Lvl) (h : (ls.map lvz).sum ≤ 900000000) : We ls ls = some true := by
  have hl := Zd lvz (fun _ => by unfold lvz; omega) ls
  unfold We
  rw [Yy]
  simp only [cond_false]
  rw [YM ls (by omega)]
  · rfl
  · intro a x c e
    have hx := YU lvz (show x ∈ ls by rw [e]; simp)
    unfold GW
    rw [e, Jd, QY]
    simp only [cond_true, Option.bind_some]
    rw [m87_self x (by omega)]
    rfl
  · unfold GW; rw [Jm]; rfl
theorem m57_selfN : ∀ (n : Nat) (t : Tm), t.size ≤ n → t.size ≤ 900000000 → Yb m57F n (t, t) = some true
  | 0, t, h, _ => by rw [t.size_eq] at h; omega
  | n + 1, t, h, hs => by
    have hl := kids_len t
    have he := t.size_eq
    show XN (Yb m57F n) t t = some true
    unfold XN
    rw [Yy, Yy, Yy, KE, m70_self t.levels (by omega)]
    simp only [cond_false, Option.bind_some, Bool.not_true]
    rw [YM t.kids (by omega)]
    · rfl
    · intro a x c e
      have hx := Zm (t := t) (k := x) (by rw [e]; simp)
      unfold GB
      rw [show Ja t.kids (a.length : Int) = some x from by rw [e, QY], show decide ((a.length : Int) < (t.kids.length : Int)) = true from by rw [e, Jd]]
      simp only [cond_true, Option.bind_some]
      rw [m57_selfN n x (by omega) (by omega)]
      rfl
    · unfold GB; rw [Jm]; rfl
theorem ZG (t : Tm) (h : t.size ≤ 900000000) : XZ t t = some true := m57_selfN QF t (by unfold QF; omega) h
theorem m71_self (l : List Tm) (h : (l.map Tm.size).sum ≤ 900000000) : Wd l l = some true := by
  have hl := Zd Tm.size (fun t => by rw [t.size_eq]; omega) l
  unfold Wd
  rw [Yy]
  simp only [cond_false]
  rw [YM l (by omega)]
  · rfl
  · intro a x c e
    have hx := YU Tm.size (show x ∈ l by rw [e]; simp)
    unfold GV
    rw [e, Jd, QY]
    simp only [cond_true, Option.bind_some]
    rw [ZG x (by omega)]
    rfl
  · unfold GV; rw [Jm]; rfl
theorem m58_self (r : Rcr) (h1 : r.ty.size ≤ 900000000) (h2 : (r.rules.map Tm.size).sum ≤ 900000000) : W6 r r = some true := by
  unfold W6
  rw [eq_selfI, ZG r.ty h1, m71_self r.rules h2]
  rfl
theorem m59_selfN : ∀ (n : Nat) (t : Tr), t.size ≤ n → t.size ≤ 900000000 → Yb m59F n (t, t) = some true
  | 0, t, h, _ => by rw [t.size_eq] at h; omega
  | n + 1, t, h, hs => by
    have hl := branches_len t
    have he := t.size_eq
    show XM (Yb m59F n) t t = some true
    unfold XM
    rw [Yy, Yy, Yy, ZG t.body (by omega)]
    simp only [cond_false, Option.bind_some, Bool.not_true]
    rw [YM t.branches (by omega)]
    · rfl
    · intro a x c e
      have hx := Tr.kid_size (t := t) (b := x) (by rw [e]; simp)
      unfold GA
      rw [show Ja t.branches (a.length : Int) = some x from by rw [e, QY], show decide ((a.length : Int) < (t.branches.length : Int)) = true from by rw [e, Jd]]
      simp only [cond_true, Option.bind_some, KE, eq_selfb, Bool.not_true, cond_false]
      rw [m59_selfN n x.tree (by omega) (by omega)]
      rfl
    · unfold GA; rw [Jm]; rfl
theorem m59_self (t : Tr) (h : t.size ≤ 900000000) : m59 t t = some true := m59_selfN QF t (by unfold QF; omega) h
theorem m40_self (d : Dcl) (h : d.size ≤ 900000000) : Wg d d = some true := by
  have hc := ZA d
  have hf := ZJ d
  have hs : d.size = 1 + d.name.length + d.ty.size + d.value.size + (d.ctors.map csz).sum + d.rcr.ty.size + (d.rcr.rules.map Tm.size).sum + (d.funs.map fsz).sum := rfl
  unfold Wg
  simp only [Yy, KE, Bool.not_true, cond_false]
  rw [ZG d.ty (by omega), ZG d.value (by omega), m58_self d.rcr (by omega) (by omega)]
  simp only [Option.bind_some, Bool.not_true, cond_false]
  rw [YM d.ctors (by omega), YM d.funs (by omega)]
  · rfl
  · intro a x c e
    have hx := YU fsz (show x ∈ d.funs by rw [e]; simp)
    have hx2 : fsz x = 1 + x.name.length + x.ty.size + x.tree.size := rfl
    unfold Kx
    rw [show Ja d.funs (a.length : Int) = some x from by rw [e, QY], show decide ((a.length : Int) < (d.funs.length : Int)) = true from by rw [e, Jd]]
    simp only [cond_true, Option.bind_some, KE, Yy, Bool.not_true, cond_false]
    rw [ZG x.ty (by omega), m59_self x.tree (by omega)]
    rfl
  · unfold Kx; rw [Jm]; rfl
  · intro a x c e
    have hx := YU csz (show x ∈ d.ctors by rw [e]; simp)
    have hx2 : csz x = 1 + x.name.length + x.ty.size := rfl
    unfold G0
    rw [show Ja d.ctors (a.length : Int) = some x from by rw [e, QY], show decide ((a.length : Int) < (d.ctors.length : Int)) = true from by rw [e, Jd]]
    simp only [cond_true, Option.bind_some, KE, Bool.not_true, cond_false]
    rw [ZG x.ty (by omega)]
    rfl
  · unfold G0; rw [Jm]; rfl
theorem m17_self (l : List Dcl) (hl : l.length ≤ 900000000) (h : ∀ d ∈ l, d.size ≤ 900000000) : Xw l l = some true := by
  unfold Xw
  rw [Yy]
  simp only [cond_false]
  rw [YM l hl]
  · rfl
  · intro a x c e
    have hx := h x (by rw [e]; simp)
    unfold GZ
    rw [e, Jd, QY]
    simp only [cond_true, Option.bind_some]
    rw [m40_self x hx]
    rfl
  · unfold GZ; rw [Jm]; rfl
end Go.Proofs.Ytijcchddnnnmdaa
namespace Go.Proofs.Ytijcchddnnnmdaa
open Go.RowKit Go.Shelf
set_option linter.unusedSimpArgs false
set_option linter.unusedVariables false
def m4 (a0 : List Dcl) (a1 : List U3) : Option Bool :=
 Option.bind (Option.bind (Wt a0) fun (x2 : Bool) =>
 cond (!x2)
   (some true)
   (Option.bind (W1 a1) fun (x4 : Bool) =>
 some (!x4))) (fun (v1 : Bool) => cond v1
   (Option.bind (X3 ) fun (x3 : Bool) =>
 some x3)
   (Option.bind (Xu a0 a1) fun (x4 : (List Dcl) × Int) =>
 Option.bind (m16 a0 a1) fun (x5 : (List Dcl) × Int) =>
 Option.bind (cond (x4.2 == x5.2)
   (Option.bind (Xw x4.1 x5.1) fun (x8 : Bool) =>
 cond x8
   (Option.bind (X3 ) fun (x10 : Bool) =>
 some x10)
   (some false))
   (some false)) (fun (v6 : Bool) => some v6)))
end Go.Proofs.Ytijcchddnnnmdaa
namespace Go.Proofs.Ytijcchddnnnmdaa
open Go.RowKit Go.Lib
set_option linter.unusedSimpArgs false
set_option linter.unusedVariables false
set_option linter.unusedSectionVars false
def one (d : Dcl) : List Dcl := [d]
theorem Ku : ∀ l : List Dcl, (l.map one).flatten = l
  | [] => rfl
  | d :: l => by rw [List.map_cons, List.flatten_cons, Ku l]; rfl
theorem f11_f12 : m56f11F = m56f12F := rfl
theorem m56_11 : GY = m56f12 := by
  funext a b c d
  unfold GY m56f12
  rw [f11_f12]
theorem l4_eq (a : List U3) (y : List (List Int) × WZ) : X0 a y = ZX a y y.1 := by
  funext s
  unfold X0 ZX
  rw [m56_11]
theorem m15_eq (env : List Dcl) (nm : List U3) (hl : YY env ≤ 100000000) (hm : nm.length ≤ 900000000) : ∃ r, Xu env nm = some r ∧ RSays false one env nm r := by
  have hel := ZT env
  unfold Xu
  obtain ⟨r, e, hr⟩ := newGraph_eq (γ := Unit) env hl
  rw [show Qw (m15_l1 env) QF (0, gmNil) = Qw (Kl env) QF (0, gmNil) from rfl]
  rw [show (fun (o6 : WZ) => Option.bind (Qw (X1 env o6) QF (0, ([] : List (List Int)))) (Sum.elim (fun (o7 : List (List Int)) => some (Sum.inl (o7, o6) : (List (List Int) × WZ) ⊕ Unit ⊕ Unit)) (fun o => some o))) = (fun (o6 : WZ) => Option.bind (Qw (Kk env o6) QF (0, ([] : List (List Int)))) (Sum.elim (fun (o7 : List (List Int)) => some (.inl (o7, o6))) (fun o => some o))) from rfl]
  rw [e, Option.bind_some]
  rcases hr with ⟨h1, rfl⟩ | ⟨h1, h2, rfl⟩ | ⟨h1, h2, M, rfl, hM⟩
  · exact ⟨_, rfl, .twice h1⟩
  · exact ⟨_, rfl, .none h1 h2⟩
  · have hg := graph_gr h2
    obtain ⟨r, e2, hr⟩ := visits_eq (g := Yw env) (M := M) rfl hg (by omega) (by omega) hM nm hm
    dsimp only [Sum.elim]
    rw [hg.1]
    simp only [Int.toNat_natCast]
    rw [show decide (0 ≤ (env.length : Int)) = true from by rw [decide_eq_true_eq]; omega]
    simp only [cond_true]
    rw [Jq (by omega), l4_eq, e2, Option.bind_some]
    rcases hr with ⟨h3, b, rfl, hb⟩ | ⟨h3, rfl⟩
    · simp only [Sum.elim_inl, Sum.elim_inr, Option.bind_some]
      rw [sel_loop b one env (by omega) hb.len]
      · exact ⟨_, rfl, .ok h1 h2 h3 b hb⟩
      · intro a x c out e3 e4
        unfold GG
        dsimp only
        rw [e4, show decide ((a.length : Int) < (env.length : Int)) = true from by rw [e3, Jd], show Ja env (a.length : Int) = some x from by rw [e3, QY]]
        simp only [cond_true, Option.bind_some, Int.toNat_natCast]
        rw [hg.1, YG hb.len]; rfl
      · intro a x c out e3 e4 h5
        rw [Ku] at h5
        unfold GG
        dsimp only
        rw [e4, show decide ((a.length : Int) < (env.length : Int)) = true from by rw [e3, Jd], show Ja env (a.length : Int) = some x from by rw [e3, QY]]
        simp only [cond_true, Option.bind_some, Int.toNat_natCast]
        rw [hg.1, YG hb.len]
        exact Jq (Nat.le_trans h5 (by omega))
      · intro s
        unfold GG
        dsimp only
        rw [Jm]; rfl
    · exact ⟨_, rfl, .miss h1 h2 h3⟩
theorem m17_sub {env l : List Dcl} (h : l.Sublist env) (hl : YY env ≤ 100000000) : Xw l l = some true :=
  m17_self l (by have := h.length_le; have := ZT env; omega) fun d hd => by have := KJ (h.subset hd); omega
end Go.Proofs.Ytijcchddnnnmdaa
namespace Go.Proofs.Ytijcchddnnnmdaa
open Go.RowKit Go.Shelf
set_option linter.unusedSimpArgs false
set_option linter.unusedVariables false
def m45f18_l0 (a0 : List Int) (a1 : Int) (s1 : Int) : Option (LO Int (Unit ⊕ Int)) :=
 cond (decide (s1 < (a0.length : Int)))
   (Option.bind (Ja a0 s1) fun (x3 : Int) =>
 cond (a1 == x3)
   (some (.done (.inr s1)))
   (some (.next (QZ (s1 + 1)))))
   (some (.done (.inl ())))
def m45f18 (a0 : List Int) (a1 : Int) : Option Int :=
 Option.bind (Qw (m45f18_l0 a0 a1) QF 0) (Sum.elim (fun (o1 : Unit) => some (-1)) (fun o => some o))
def m24f17 (a0 : List Int) (a1 : Int) : Option Bool :=
 Option.bind (m45f18 a0 a1) fun (x1 : Int) =>
 some (decide (0 ≤ x1))
def m7_l0 (x24 : List Int) (s1 : (List Int) × (List Dcl) × Int) (s2 : Int) : Option (LO Int (Unit ⊕ Bool)) :=
 cond (decide (s2 < (x24.length : Int)))
   (Option.bind (Ja x24 s2) fun (x27 : Int) =>
 Option.bind (m24f17 s1.1 x27) fun (x28 : Bool) =>
 cond (!x28)
   (some (.done (.inr false)))
   (some (.next (QZ (s2 + 1)))))
   (some (.done (.inl ())))
def m7_l1 (x4 : (List Int) × Int) (a0 : List Dcl) (x5 : (List (List Int)) × Int) (s1 : (List Int) × (List Dcl) × Int) : Option (LO ((List Int) × (List Dcl) × Int) (((List Dcl)) ⊕ Bool)) :=
 cond (decide (s1.2.2 < (x4.1.length : Int)))
   (Option.bind (Ja x4.1 s1.2.2) fun (x21 : Int) =>
 Option.bind (cond (decide (x21 < 0))
   (some true)
   (cond (decide ((a0.length : Int) ≤ x21))
   (some true)
   (Option.bind (m24f17 s1.1 x21) fun (x25 : Bool) =>
 some x25))) (fun (v22 : Bool) => cond v22
   (some (.done (.inr false)))
   (Option.bind (Ja x5.1 x21) fun (x24 : List Int) =>
 Option.bind (Qw (m7_l0 x24 s1) QF 0) (Sum.elim (fun (o25 : Unit) => Qy (Nat.ble (s1.1.length + ([x21]).length) 1000000000)
 (Option.bind (Ja a0 x21) fun (x27 : Dcl) =>
 Qy (Nat.ble (s1.2.1.length + ([x27]).length) 1000000000)
 (some (.next ((s1.1 ++ ([x21])), (s1.2.1 ++ ([x27])), (QZ (s1.2.2 + 1))))))) (fun o => some (.done (.inr o)))))))
   (some (.done (.inl s1.2.1)))
def m7_l2 (x20 : (List Int) × Int) (s1 : Int) : Option (LO Int (Unit ⊕ Bool)) :=
 cond (decide (s1 < (x20.1.length : Int)))
   (Option.bind (Ja x20.1 s1) fun (x23 : Int) =>
 cond (x23 != s1)
   (some (.done (.inr false)))
   (some (.next (QZ (s1 + 1)))))
   (some (.done (.inl ())))
def m7 (a0 : List Dcl) : Option Bool :=
 Option.bind (Wt a0) fun (x1 : Bool) =>
 cond (!x1)
   (Option.bind (X3 ) fun (x3 : Bool) =>
 some x3)
   (Option.bind (m22 a0) fun (x4 : (List Int) × Int) =>
 Option.bind (m23 a0) fun (x5 : (List (List Int)) × Int) =>
 Option.bind (cond (x4.2 != 0)
   (some true)
   (some (x5.2 != 0))) (fun (v6 : Bool) => cond v6
   (Option.bind (cond ((x4.1.length : Int) == 0)
   (cond (x5.2 == 0)
   (cond (x4.2 == 22)
   (Option.bind (X3 ) fun (x12 : Bool) =>
 some x12)
   (cond (x4.2 == x5.2)
   (Option.bind (X3 ) fun (x14 : Bool) =>
 some x14)
   (some false)))
   (cond (x4.2 == x5.2)
   (Option.bind (X3 ) fun (x16 : Bool) =>
 some x16)
   (some false)))
   (some false)) (fun (v8 : Bool) => some v8))
   (Option.bind (cond ((x4.1.length : Int) != (a0.length : Int))
   (some true)
   (some ((x5.1.length : Int) != (a0.length : Int)))) (fun (v17 : Bool) => cond v17
   (some false)
   (Option.bind (Qw (m7_l1 x4 a0 x5) QF (([] : List Int), ([] : List Dcl), 0)) (Sum.elim (fun (o19 : (List Dcl)) => Option.bind (m22 o19) fun (x20 : (List Int) × Int) =>
 Option.bind (Qw (m7_l2 x20) QF 0) (Sum.elim (fun (o21 : Unit) => Option.bind (cond (x20.2 == 0)
   (cond ((x20.1.length : Int) == (a0.length : Int))
   (Option.bind (X3 ) fun (x25 : Bool) =>
 some x25)
   (some false))
   (some false)) (fun (v22 : Bool) => some v22)) (fun o => some o))) (fun o => some o)))))))
end Go.Proofs.Ytijcchddnnnmdaa
namespace Go.Proofs.Ytijcchddnnnmdaa
open Go.RowKit Go.Lib
set_option linter.unusedSimpArgs false
set_option linter.unusedVariables false
set_option linter.unusedSectionVars false
theorem ownO_le (s : U3) : ∀ (l : List Dcl) (i : Int) (p : Nat) (d : Dcl), l[p]? = some d → s ∈ Ju d → ∃ q : Nat, q ≤ p ∧ Zg i l s = some (i + q)
  | [], i, p, d, h, _ => by cases h
  | e :: l, i, p, d, h, hs => by
    simp only [Zg]
    split
    · exact ⟨0, Nat.zero_le _, by simp⟩
    · cases p with
      | zero => cases h; contradiction
      | succ p =>
        obtain ⟨q, h1, h2⟩ := ownO_le s l (i + 1) p d h hs
        exact ⟨q + 1, by omega, by rw [h2]; congr 1; omega⟩
theorem ZR {env : List Dcl} {s : U3} : s ∈ QE env ↔ ∃ d ∈ env, s ∈ Ju d := by
  unfold QE
  rw [List.mem_flatten]
  constructor
  · rintro ⟨l, hl, hs⟩
    obtain ⟨d, hd, rfl⟩ := List.mem_map.1 hl
    exact ⟨d, hd, hs⟩
  · rintro ⟨d, hd, hs⟩
    exact ⟨_, List.mem_map.2 ⟨d, hd, rfl⟩, hs⟩
end Go.Proofs.Ytijcchddnnnmdaa
namespace Go.Proofs.Ytijcchddnnnmdaa
open Go.RowKit Go.Shelf
set_option linter.unusedSimpArgs false
set_option linter.unusedVariables false
theorem en_5 : J7 Try.prog 5 := enters_of Try.func5 (by kernel_rfl) rfl
def Gg (x4 : (List Dcl) × Int) (s1 : (List U3) × Int) : Option (LO ((List U3) × Int) (((List U3)))) :=
 cond (decide (s1.2 < (x4.1.length : Int)))
   (Option.bind (Ja x4.1 s1.2) fun (x13 : Dcl) =>
 Option.bind (W0 x13) fun (x14 : (List U3)) =>
 Qy (Nat.ble (s1.1.length + x14.length) 1000000000)
 (some (.next ((s1.1 ++ x14), (QZ (s1.2 + 1))))))
   (some (.done s1.1))
def Wu (a0 : List Dcl) (a1 : List U3) : Option Bool :=
 Option.bind (Option.bind (Wt a0) fun (x2 : Bool) =>
 cond (!x2)
   (some true)
   (Option.bind (W1 a1) fun (x4 : Bool) =>
 some (!x4))) (fun (v1 : Bool) => cond v1
   (Option.bind (X3 ) fun (x3 : Bool) =>
 some x3)
   (Option.bind (Xu a0 a1) fun (x4 : (List Dcl) × Int) =>
 Option.bind (XT a0 a1) fun (x5 : (List U3) × Int) =>
 Option.bind (cond (x4.2 != 0)
   (some true)
   (some (x5.2 != 0))) (fun (v6 : Bool) => cond v6
   (Option.bind (cond (x4.2 == x5.2)
   (Option.bind (X3 ) fun (x10 : Bool) =>
 some x10)
   (some false)) (fun (v8 : Bool) => some v8))
   (Option.bind (Qw (Gg x4) QF (([] : List U3), 0)) (fun (o11 : (List U3)) => Option.bind (Xu a0 o11) fun (x12 : (List Dcl) × Int) =>
 Option.bind (XT a0 x5.1) fun (x13 : (List U3) × Int) =>
 Option.bind (Xu x4.1 a1) fun (x14 : (List Dcl) × Int) =>
 Option.bind (cond (x12.2 == 0)
   (cond (x13.2 == 0)
   (cond (x14.2 == 0)
   (Option.bind (Xw x4.1 x12.1) fun (x19 : Bool) =>
 cond x19
   (Option.bind (XS x5.1 x13.1) fun (x21 : Bool) =>
 cond x21
   (Option.bind (Xw x4.1 x14.1) fun (x23 : Bool) =>
 cond x23
   (Option.bind (X3 ) fun (x25 : Bool) =>
 some x25)
   (some false))
   (some false))
   (some false))
   (some false))
   (some false))
   (some false)) (fun (v15 : Bool) => some v15))))))
set_option maxRecDepth 100000 in
set_option maxHeartbeats 2000000 in
theorem m5_ok (a0 : List Dcl) (a1 : List U3) (r : Bool) (h0 : Wu a0 a1 = some r) : Fun Try.prog 5 [.one (WJ a0), .one (WJ a1)] (QA [.one (WM r)]) := by
 unfold Wu at h0
 refine QU 9 108 Try.func5 rfl en_5 rfl (Wx rfl) (fun S w => ?_)
 simp only [Jb]
 refine Q2 <| Q0 <| Wo rfl rfl rfl <| Q3 <| Q1 <| Q2 <| Q2 ?_
 refine Jf (fun (v1 : Bool) => ⟨[(0, .v (.one (WJ a0))), (1, .v (.one (WJ a1))), (25, .v (.one (WM v1)))], [], [], 0, 108, []⟩) (fun (v1 : Bool) => (cond v1
     (Option.bind (X3 ) fun (x3 : Bool) =>
   some x3)
     (Option.bind (Xu a0 a1) fun (x4 : (List Dcl) × Int) =>
   Option.bind (XT a0 a1) fun (x5 : (List U3) × Int) =>
   Option.bind (cond (x4.2 != 0)
     (some true)
     (some (x5.2 != 0))) (fun (v6 : Bool) => cond v6
     (Option.bind (cond (x4.2 == x5.2)
     (Option.bind (X3 ) fun (x10 : Bool) =>
   some x10)
     (some false)) (fun (v8 : Bool) => some v8))
     (Option.bind (Qw (Gg x4) QF (([] : List U3), 0)) (fun (o11 : (List U3)) => Option.bind (Xu a0 o11) fun (x12 : (List Dcl) × Int) =>
   Option.bind (XT a0 x5.1) fun (x13 : (List U3) × Int) =>
   Option.bind (Xu x4.1 a1) fun (x14 : (List Dcl) × Int) =>
   Option.bind (cond (x12.2 == 0)
     (cond (x13.2 == 0)
     (cond (x14.2 == 0)
     (Option.bind (Xw x4.1 x12.1) fun (x19 : Bool) =>
   cond x19
     (Option.bind (XS x5.1 x13.1) fun (x21 : Bool) =>
   cond x21
     (Option.bind (Xw x4.1 x14.1) fun (x23 : Bool) =>
   cond x23
     (Option.bind (X3 ) fun (x25 : Bool) =>
   some x25)
     (some false))
     (some false))
     (some false))
     (some false))
     (some false))
     (some false)) (fun (v15 : Bool) => some v15)))))) = some r) ?_ ?_
 refine Qb h0 (fun w1_ h1 h0 => ?_)
 refine Q0 <| Wn rfl rfl rfl ?_
 refine Qb h1 (fun x2 hx2 h1 => ?_)
 refine Qa rfl rfl (Wx rfl) (Qn (m9_ok a0 x2 hx2) rfl (.cons (.one (.d _)) .nil)) <| Wm rfl rfl rfl (J9 rfl) <| Wn rfl rfl rfl ?_
 refine QP (d := 21) (c := (!x2)) rfl (fun c3 => ?_) (fun c3 => ?_)
 replace h1 := Qq c3 h1
 refine Q5 rfl rfl <| Q5 rfl rfl <| Q5 rfl rfl <| Wm rfl rfl rfl (Qk rfl rfl) <| Q3 ?_
 have e := Wk h1; subst e
 exact Qt true (Qf (Wi rfl (Wi rfl (Wi rfl Wh))) WC Wy rfl (Nat.zero_le _) rfl rfl rfl WR rfl rfl) h0
 replace h1 := Qr c3 h1
 refine Wn rfl rfl rfl ?_
 refine Qb h1 (fun x4 hx4 h1 => ?_)
 refine Qa rfl rfl (Wx rfl) (Qn (m10_ok a1 x4 hx4) rfl (.cons (.one (.d _)) .nil)) <| Wm rfl rfl rfl (J9 rfl) <| Wm rfl rfl rfl (Qx rfl rfl) <| Q3 ?_
 have e := Wk h1; subst e
 exact Qt (!x4) (Qf (Wi rfl (Wi rfl (Wi rfl Wh))) WC Wy rfl (Nat.zero_le _) rfl rfl rfl WR rfl rfl) h0
 intro v1 h0
 refine Q1 ?_
 refine Qe (b := v1) rfl (fun c5 => ?_) (fun c5 => ?_)
 replace h0 := Qq c5 h0
 refine Q2 <| Q0 ?_
 refine Qb h0 (fun x6 hx6 h0 => ?_)
 refine Qa rfl rfl (Wx rfl) (Qn (m11_ok  x6 hx6) rfl .nil) <| Wo rfl rfl rfl <| Q3 <| Q1 <| Qz ?_
 have e := Wk h0; subst e
 exact QO (fun _ _ h => h) rfl (Qo rfl .nil) (.cons (.one (.d _)) .nil)
 replace h0 := Qr c5 h0
 refine Qi <| Q1 <| Q2 <| Q0 <| Wn rfl rfl rfl <| Wn rfl rfl rfl ?_
 refine Qb h0 (fun x7 hx7 h0 => ?_)
 refine Qa rfl rfl (Wx rfl) (Qn (m15_ok a0 a1 x7 hx7) rfl (.cons (.one (.d _)) (.cons (.one (.d _)) .nil))) <| Wn rfl rfl rfl <| Wm rfl rfl rfl (Qg rfl rfl) <| Wm rfl rfl rfl (Qg rfl rfl) <| Wo rfl rfl rfl <| Wo rfl rfl rfl <| Q3 <| Q1 <| Q2 <| Q0 <| Wn rfl rfl rfl <| Wn rfl rfl rfl ?_
 refine Qb h0 (fun x8 hx8 h0 => ?_)
 refine Qa rfl rfl (Wx rfl) (Qn (m12_ok a0 a1 x8 hx8) rfl (.cons (.one (.d _)) (.cons (.one (.d _)) .nil))) <| Wn rfl rfl rfl <| Wm rfl rfl rfl (Qg rfl rfl) <| Wm rfl rfl rfl (Qg rfl rfl) <| Wo rfl rfl rfl <| Wo rfl rfl rfl <| Q3 <| Q1 <| Q2 <| Q2 ?_
 refine Jf (fun (v9 : Bool) => ⟨[(0, .v (.one (WJ a0))), (1, .v (.one (WJ a1))), (5, .v (.one (WJ x7.1))), (6, .v (.one (WL x7.2))), (7, .v (.one (WJ x8.1))), (8, .v (.one (WL x8.2))), (44, .v (.one (WM v9)))], [], [], 0, 108, []⟩) (fun (v9 : Bool) => (cond v9
     (Option.bind (cond (x7.2 == x8.2)
     (Option.bind (X3 ) fun (x13 : Bool) =>
   some x13)
     (some false)) (fun (v11 : Bool) => some v11))
     (Option.bind (Qw (Gg x7) QF (([] : List U3), 0)) (fun (o14 : (List U3)) => Option.bind (Xu a0 o14) fun (x15 : (List Dcl) × Int) =>
   Option.bind (XT a0 x8.1) fun (x16 : (List U3) × Int) =>
   Option.bind (Xu x7.1 a1) fun (x17 : (List Dcl) × Int) =>
   Option.bind (cond (x15.2 == 0)
     (cond (x16.2 == 0)
     (cond (x17.2 == 0)
     (Option.bind (Xw x7.1 x15.1) fun (x22 : Bool) =>
   cond x22
     (Option.bind (XS x8.1 x16.1) fun (x24 : Bool) =>
   cond x24
     (Option.bind (Xw x7.1 x17.1) fun (x26 : Bool) =>
   cond x26
     (Option.bind (X3 ) fun (x28 : Bool) =>
   some x28)
     (some false))
     (some false))
     (some false))
     (some false))
     (some false))
     (some false)) (fun (v18 : Bool) => some v18)))) = some r) ?_ ?_
 refine Qb h0 (fun w1_ h1 h0 => ?_)
 refine Q0 <| Wn rfl rfl rfl <| Wm rfl rfl rfl (Q8 rfl rfl rfl) <| Wn rfl rfl rfl ?_
 refine QP (d := 41) (c := (x7.2 != 0)) rfl (fun c10 => ?_) (fun c10 => ?_)
 replace h1 := Qq c10 h1
 refine Q5 rfl rfl <| Q5 rfl rfl <| Wm rfl rfl rfl (Qk rfl rfl) <| Q3 ?_
 have e := Wk h1; subst e
 exact Qt true (Qf (Wi rfl (Wi rfl (Wi rfl (Wi rfl (Wi rfl (Wi rfl (Wi rfl Wh))))))) WC Wy rfl (Nat.zero_le _) rfl rfl rfl WR rfl rfl) h0
 replace h1 := Qr c10 h1
 refine Wn rfl rfl rfl <| Wm rfl rfl rfl (Q8 rfl rfl rfl) <| Wm rfl rfl rfl (Qx rfl rfl) <| Q3 ?_
 have e := Wk h1; subst e
 exact Qt (x8.2 != 0) (Qf (Wi rfl (Wi rfl (Wi rfl (Wi rfl (Wi rfl (Wi rfl (Wi rfl Wh))))))) WC Wy rfl (Nat.zero_le _) rfl rfl rfl WR rfl rfl) h0
 intro v9 h0
 refine Q1 ?_
 refine Qe (b := v9) rfl (fun c11 => ?_) (fun c11 => ?_)
 replace h0 := Qq c11 h0
 refine Q2 ?_
 refine Jf (fun (v12 : Bool) => ⟨[(4, .v (.one (WM v12)))], [], [], 0, 108, []⟩) (fun (v12 : Bool) => (some v12) = some r) ?_ ?_
 refine Qb h0 (fun w1_ h1 h0 => ?_)
 refine Q0 <| Wn rfl rfl rfl <| Wn rfl rfl rfl <| Wm rfl rfl rfl (Q8 rfl rfl rfl) <| Wn rfl rfl rfl ?_
 refine QP (d := 48) (c := (x7.2 == x8.2)) rfl (fun c13 => ?_) (fun c13 => ?_)
 replace h1 := Qq c13 h1
 refine Qb h1 (fun x14 hx14 h1 => ?_)
 refine Qa rfl rfl (Wx rfl) (Qn (m11_ok  x14 hx14) rfl .nil) <| Wm rfl rfl rfl (Qk rfl rfl) <| Wo rfl rfl rfl <| Q3 ?_
 have e := Wk h1; subst e
 exact Qt x14 (Qf (Wi rfl Wh) WC Wy rfl (Nat.zero_le _) rfl rfl rfl WR rfl rfl) h0
 replace h1 := Qr c13 h1
 refine Q5 rfl rfl <| Wm rfl rfl rfl (Qx rfl rfl) <| Wo rfl rfl rfl <| Q3 ?_
 have e := Wk h1; subst e
 exact Qt false (Qf (Wi rfl Wh) WC Wy rfl (Nat.zero_le _) rfl rfl rfl WR rfl rfl) h0
 intro v12 h0
 refine Q1 <| Qz ?_
 have e := Wk h0; subst e
 exact QO (fun _ _ h => h) rfl (Qo rfl .nil) (.cons (.one (.d _)) .nil)
 replace h0 := Qr c11 h0
 refine Qi <| Q1 <| Q2 <| Q0 <| Wo rfl rfl rfl <| Q3 <| Q1 <| Q2 <| Q2 <| Q0 <| Wn rfl rfl rfl <| Wm rfl rfl rfl (QC (α := Dcl) Jo rfl (.d _)) <| Wn rfl rfl rfl <| Q3 ?_
 refine Q1 <| Qc ?_
 refine QI 0 (fun (o15 : (List U3)) => ⟨[(0, .v (.one (WJ a0))), (1, .v (.one (WJ a1))), (5, .v (.one (WJ x7.1))), (7, .v (.one (WJ x8.1))), (9, .v (.one (WN 0 o15)))], [], [(0, some ⟨9, 1, (Enc.encL o15).length, []⟩)], 1, 108, []⟩) (fun (o15 : (List U3)) => (Option.bind (Xu a0 o15) fun (x16 : (List Dcl) × Int) =>
   Option.bind (XT a0 x8.1) fun (x17 : (List U3) × Int) =>
   Option.bind (Xu x7.1 a1) fun (x18 : (List Dcl) × Int) =>
   Option.bind (cond (x16.2 == 0)
     (cond (x17.2 == 0)
     (cond (x18.2 == 0)
     (Option.bind (Xw x7.1 x16.1) fun (x23 : Bool) =>
   cond x23
     (Option.bind (XS x8.1 x17.1) fun (x25 : Bool) =>
   cond x25
     (Option.bind (Xw x7.1 x18.1) fun (x27 : Bool) =>
   cond x27
     (Option.bind (X3 ) fun (x29 : Bool) =>
   some x29)
     (some false))
     (some false))
     (some false))
     (some false))
     (some false))
     (some false)) (fun (v19 : Bool) => some v19)) = some r) ?_ ?_
 refine JW (t := 9) 9 1 rfl ?_
 refine Qb h0 (fun o16 hl1 h0 => ?_)
 refine QH (Gg x7) (fun s1 => ⟨[(0, .v (.one (WJ a0))), (1, .v (.one (WJ a1))), (5, .v (.one (WJ x7.1))), (7, .v (.one (WJ x8.1))), (9, .v (.one (WN 0 s1.1))), (51, .v (.one (WJ x7.1))), (52, .v (.one (WL (x7.1.length : Int)))), (53, .v (.one (WL s1.2)))], [], [(0, some ⟨9, 1, (Enc.encL s1.1).length, []⟩)], 1, 108, []⟩) (([] : List U3), 0) o16 (Qf (Wi rfl (Wi rfl (Wi rfl (Wi rfl (Wi rfl (Wi rfl (Wi rfl (Wi rfl Wh)))))))) WC (Wz rfl Wy) rfl (Nat.zero_le _) rfl rfl rfl WR rfl rfl) hl1 (fun s1 n1 oo1 h1 ho1 => ?_)
 unfold Gg at h1
 refine Q2 <| Q0 <| Wm rfl rfl rfl (Q8 rfl rfl rfl) <| Q3 <| Q1 <| Q2 ?_
 refine Qe (b := (decide (s1.2 < (x7.1.length : Int)))) rfl (fun c17 => ?_) (fun c17 => ?_)
 replace h1 := Qq c17 h1
 refine Qi <| Q1 <| Q2 <| Qc <| Q2 <| Q0 ?_
 refine Qb h1 (fun x18 hx18 h1 => ?_)
 refine Wm rfl rfl rfl (Qm (α := Dcl) Jo rfl (.d _) rfl hx18) <| Wm rfl rfl rfl (QK (x18 : Dcl) Jg rfl) <| Qa rfl rfl (Wx rfl) (Qp ZU rfl) <| QJ rfl rfl (J6 (x18 : Dcl) Jg rfl rfl rfl rfl rfl) <| Q3 <| Q1 <| Q0 <| Wn rfl rfl rfl <| Wm rfl rfl rfl (JA (x18 : Dcl) Jg rfl rfl) ?_
 refine Qb h1 (fun x19 hx19 h1 => ?_)
 refine Qa rfl rfl (Wx rfl) (Qn (m18_ok x18 x19 hx19) rfl (.cons (.agg (.cons (.d _) (.cons (.d _) (.cons (.d _) (.cons (.d _) (.cons (.d _) (.cons (.d _) (.cons (.d _) (.cons (.d _) (.cons (.d _) (.cons (.d _) (.cons (.d _) (.cons (.d _) (.cons (.d _) (.cons (.d _) (.cons (.d _) (.cons (.d _) (.cons (.d _) (.cons (.d _) (.cons (.d _) (.cons (.d _) (.cons (.d _) (.cons (.d _) (.cons (.d _) .nil)))))))))))))))))))))))) .nil)) ?_
 refine QS h1 (fun g20 h1 => ?_)
 refine Qa rfl rfl (Wx rfl) (QW (α := U3) J1 G7 rfl rfl rfl rfl rfl (.d _) g20) <| Wo rfl rfl rfl <| Q3 <| Qj <| Q1 <| Q0 <| Wm rfl rfl rfl (Q8 rfl rfl rfl) <| Wn rfl rfl rfl <| Q3 ?_
 have e := Wk h1; subst e
 refine QD ((s1.1 ++ x19), (QZ (s1.2 + 1))) (Qf (Wi rfl (Wi rfl (Wi rfl (Wi rfl (Wi rfl (Wi rfl (Wi rfl (Wi rfl Wh)))))))) WC (Wz rfl Wy) rfl (Nat.zero_le _) rfl rfl rfl WR rfl rfl) ho1
 replace h1 := Qr c17 h1
 refine QM <| Qd <| Qd ?_
 have e := Wk h1; subst e
 have e_ : _ = _ := ho1
 subst e_
 exact QG s1.1 (Qf (Wi rfl (Wi rfl (Wi rfl (Wi rfl (Wi rfl Wh))))) WC (Wz rfl Wy) rfl (Nat.zero_le _) rfl rfl rfl WR rfl rfl) h0
 intro o15 h0
 refine QB <| Q1 <| Q2 <| Q0 <| Wn rfl rfl rfl <| Wn rfl rfl rfl ?_
 refine Qb h0 (fun x21 hx21 h0 => ?_)
 refine Qa rfl rfl (Wx rfl) (Qn (m15_ok a0 o15 x21 hx21) rfl (.cons (.one (.d _)) (.cons (.one (.app _ _ _)) .nil))) <| Wn rfl rfl rfl <| Wm rfl rfl rfl (Qg rfl rfl) <| Wm rfl rfl rfl (Qg rfl rfl) <| Wo rfl rfl rfl <| Wo rfl rfl rfl <| Q3 <| Q1 <| Q2 <| Q0 <| Wn rfl rfl rfl <| Wn rfl rfl rfl ?_
 refine Qb h0 (fun x22 hx22 h0 => ?_)
 refine Qa rfl rfl (Wx rfl) (Qn (m12_ok a0 x8.1 x22 hx22) rfl (.cons (.one (.d _)) (.cons (.one (.d _)) .nil))) <| Wn rfl rfl rfl <| Wm rfl rfl rfl (Qg rfl rfl) <| Wm rfl rfl rfl (Qg rfl rfl) <| Wo rfl rfl rfl <| Wo rfl rfl rfl <| Q3 <| Q1 <| Q2 <| Q0 <| Wn rfl rfl rfl <| Wn rfl rfl rfl ?_
 refine Qb h0 (fun x23 hx23 h0 => ?_)
 refine Qa rfl rfl (Wx rfl) (Qn (m15_ok x7.1 a1 x23 hx23) rfl (.cons (.one (.d _)) (.cons (.one (.d _)) .nil))) <| Wn rfl rfl rfl <| Wm rfl rfl rfl (Qg rfl rfl) <| Wm rfl rfl rfl (Qg rfl rfl) <| Wo rfl rfl rfl <| Wo rfl rfl rfl <| Q3 <| Q1 <| Q2 ?_
 refine Jf (fun (v24 : Bool) => ⟨[(4, .v (.one (WM v24)))], [], [(0, some ⟨9, 1, (Enc.encL o15).length, []⟩)], 1, 108, []⟩) (fun (v24 : Bool) => (some v24) = some r) ?_ ?_
 refine Qb h0 (fun w1_ h1 h0 => ?_)
 refine Q0 <| Wn rfl rfl rfl <| Wm rfl rfl rfl (Q8 rfl rfl rfl) <| Wn rfl rfl rfl ?_
 refine QP (d := 82) (c := (x21.2 == 0)) rfl (fun c25 => ?_) (fun c25 => ?_)
 replace h1 := Qq c25 h1
 refine Wn rfl rfl rfl <| Wm rfl rfl rfl (Q8 rfl rfl rfl) <| Wm rfl rfl rfl (Qk rfl rfl) <| Wn rfl rfl rfl ?_
 refine QP (d := 86) (c := (x22.2 == 0)) rfl (fun c26 => ?_) (fun c26 => ?_)
 replace h1 := Qq c26 h1
 refine Wn rfl rfl rfl <| Wm rfl rfl rfl (Q8 rfl rfl rfl) <| Wm rfl rfl rfl (Qk rfl rfl) <| Wn rfl rfl rfl ?_
 refine QP (d := 90) (c := (x23.2 == 0)) rfl (fun c27 => ?_) (fun c27 => ?_)
 replace h1 := Qq c27 h1
 refine Wn rfl rfl rfl <| Wn rfl rfl rfl ?_
 refine Qb h1 (fun x28 hx28 h1 => ?_)
 refine Qa rfl rfl (Wx rfl) (Qn (m17_ok x7.1 x21.1 x28 hx28) rfl (.cons (.one (.d _)) (.cons (.one (.d _)) .nil))) <| Wm rfl rfl rfl (Qk rfl rfl) <| Wn rfl rfl rfl ?_
 refine QP (d := 95) (c := x28) rfl (fun c29 => ?_) (fun c29 => ?_)
 replace h1 := Qq c29 h1
 refine Wn rfl rfl rfl <| Wn rfl rfl rfl ?_
 refine Qb h1 (fun x30 hx30 h1 => ?_)
 refine Qa rfl rfl (Wx rfl) (Qn (m14_ok x8.1 x22.1 x30 hx30) rfl (.cons (.one (.d _)) (.cons (.one (.d _)) .nil))) <| Wm rfl rfl rfl (Qk rfl rfl) <| Wn rfl rfl rfl ?_
 refine QP (d := 100) (c := x30) rfl (fun c31 => ?_) (fun c31 => ?_)
 replace h1 := Qq c31 h1
 refine Wn rfl rfl rfl <| Wn rfl rfl rfl ?_
 refine Qb h1 (fun x32 hx32 h1 => ?_)
 refine Qa rfl rfl (Wx rfl) (Qn (m17_ok x7.1 x23.1 x32 hx32) rfl (.cons (.one (.d _)) (.cons (.one (.d _)) .nil))) <| Wm rfl rfl rfl (Qk rfl rfl) <| Wn rfl rfl rfl ?_
 refine QP (d := 105) (c := x32) rfl (fun c33 => ?_) (fun c33 => ?_)
 replace h1 := Qq c33 h1
 refine Qb h1 (fun x34 hx34 h1 => ?_)
 refine Qa rfl rfl (Wx rfl) (Qn (m11_ok  x34 hx34) rfl .nil) <| Wm rfl rfl rfl (Qk rfl rfl) <| Wo rfl rfl rfl <| Q3 ?_
 have e := Wk h1; subst e
 exact Qt x34 (Qf (Wi rfl Wh) WC (Wz rfl Wy) rfl (Nat.zero_le _) rfl rfl rfl WR rfl rfl) h0
 replace h1 := Qr c33 h1
 refine Q5 rfl rfl <| Wm rfl rfl rfl (Qx rfl rfl) <| Wo rfl rfl rfl <| Q3 ?_
 have e := Wk h1; subst e
 exact Qt false (Qf (Wi rfl Wh) WC (Wz rfl Wy) rfl (Nat.zero_le _) rfl rfl rfl WR rfl rfl) h0
 replace h1 := Qr c31 h1
 refine Q5 rfl rfl <| Q5 rfl rfl <| Q5 rfl rfl <| Wm rfl rfl rfl (Qx rfl rfl) <| Wn rfl rfl rfl <| Q5 rfl rfl <| Wm rfl rfl rfl (Qx rfl rfl) <| Wo rfl rfl rfl <| Q3 ?_
 have e := Wk h1; subst e
 exact Qt false (Qf (Wi rfl Wh) WC (Wz rfl Wy) rfl (Nat.zero_le _) rfl rfl rfl WR rfl rfl) h0
 replace h1 := Qr c29 h1
 refine Q5 rfl rfl <| Q5 rfl rfl <| Q5 rfl rfl <| Wm rfl rfl rfl (Qx rfl rfl) <| Wn rfl rfl rfl <| Q5 rfl rfl <| Q5 rfl rfl <| Q5 rfl rfl <| Wm rfl rfl rfl (Qx rfl rfl) <| Wn rfl rfl rfl <| Q5 rfl rfl <| Wm rfl rfl rfl (Qx rfl rfl) <| Wo rfl rfl rfl <| Q3 ?_
 have e := Wk h1; subst e
 exact Qt false (Qf (Wi rfl Wh) WC (Wz rfl Wy) rfl (Nat.zero_le _) rfl rfl rfl WR rfl rfl) h0
 replace h1 := Qr c27 h1
 refine Q5 rfl rfl <| Q5 rfl rfl <| Q5 rfl rfl <| Wm rfl rfl rfl (Qx rfl rfl) <| Wn rfl rfl rfl <| Q5 rfl rfl <| Q5 rfl rfl <| Q5 rfl rfl <| Wm rfl rfl rfl (Qx rfl rfl) <| Wn rfl rfl rfl <| Q5 rfl rfl <| Q5 rfl rfl <| Q5 rfl rfl <| Wm rfl rfl rfl (Qx rfl rfl) ?_
 refine Wn rfl rfl rfl <| Q5 rfl rfl <| Wm rfl rfl rfl (Qx rfl rfl) <| Wo rfl rfl rfl <| Q3 ?_
 have e := Wk h1; subst e
 exact Qt false (Qf (Wi rfl Wh) WC (Wz rfl Wy) rfl (Nat.zero_le _) rfl rfl rfl WR rfl rfl) h0
 replace h1 := Qr c26 h1
 refine Q5 rfl rfl <| Q5 rfl rfl <| Wm rfl rfl rfl (Qx rfl rfl) <| Wn rfl rfl rfl <| Q5 rfl rfl <| Q5 rfl rfl <| Q5 rfl rfl <| Wm rfl rfl rfl (Qx rfl rfl) <| Wn rfl rfl rfl <| Q5 rfl rfl <| Q5 rfl rfl <| Q5 rfl rfl <| Wm rfl rfl rfl (Qx rfl rfl) <| Wn rfl rfl rfl ?_
 refine Q5 rfl rfl <| Q5 rfl rfl <| Q5 rfl rfl <| Wm rfl rfl rfl (Qx rfl rfl) <| Wn rfl rfl rfl <| Q5 rfl rfl <| Wm rfl rfl rfl (Qx rfl rfl) <| Wo rfl rfl rfl <| Q3 ?_
 have e := Wk h1; subst e
 exact Qt false (Qf (Wi rfl Wh) WC (Wz rfl Wy) rfl (Nat.zero_le _) rfl rfl rfl WR rfl rfl) h0
 replace h1 := Qr c25 h1
 refine Q5 rfl rfl <| Q5 rfl rfl <| Wm rfl rfl rfl (Qx rfl rfl) <| Wn rfl rfl rfl <| Q5 rfl rfl <| Q5 rfl rfl <| Wm rfl rfl rfl (Qx rfl rfl) <| Wn rfl rfl rfl <| Q5 rfl rfl <| Q5 rfl rfl <| Q5 rfl rfl <| Wm rfl rfl rfl (Qx rfl rfl) <| Wn rfl rfl rfl <| Q5 rfl rfl ?_
 refine Q5 rfl rfl <| Q5 rfl rfl <| Wm rfl rfl rfl (Qx rfl rfl) <| Wn rfl rfl rfl <| Q5 rfl rfl <| Q5 rfl rfl <| Q5 rfl rfl <| Wm rfl rfl rfl (Qx rfl rfl) <| Wn rfl rfl rfl <| Q5 rfl rfl <| Wm rfl rfl rfl (Qx rfl rfl) <| Wo rfl rfl rfl <| Q3 ?_
 have e := Wk h1; subst e
 exact Qt false (Qf (Wi rfl Wh) WC (Wz rfl Wy) rfl (Nat.zero_le _) rfl rfl rfl WR rfl rfl) h0
 intro v24 h0
 refine Q1 <| Qz ?_
 have e := Wk h0; subst e
 exact QO (fun _ _ h => h) rfl (Qo rfl .nil) (.cons (.one (.d _)) .nil)
end Go.Proofs.Ytijcchddnnnmdaa
