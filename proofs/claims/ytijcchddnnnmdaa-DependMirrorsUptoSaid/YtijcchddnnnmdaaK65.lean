/- The statement DependMirrorsUpto is proved here: for every list of declarations and every two bytes the law returns true, and the arguments read behind the call as they did before; condition: the arguments are of bulk at most 1048576 (the second form). -/
import Derived.Test.YtijcchddnnnmdaaK64
import Derived.Deep.Slices
import Derived.ChangeSame
import Derived.Test.YtijcchddnnnmdaaRows
import Derived.Test.YtijcchddnnnmdaaProg
import Derived.Test.YtijcchddnnnmdaaChecked
import Derived.ProofKit
import Derived.Carry
import Derived.JoinedCond
namespace Go.Proofs.Ytijcchddnnnmdaa
open Go.RowKit Go.Shelf
set_option linter.unusedSimpArgs false
set_option linter.unusedVariables false
def m12o_l0 (x10 : (List Wy)) (s2 : Int × (Qc Wy Int)) (s3 : Int × (Qc Wy Int)) : Option (LO (Int × (Qc Wy Int)) (((Qc Wy Int)) ⊕ (((List (List Int)) × (Qc Wy Int)) ⊕ Unit ⊕ Unit))) :=
 cond (decide (s3.1 < (x10.length : Int)))
   (Option.bind (J1 x10 s3.1) fun (x13 : Wy) =>
 cond (Jr s3.2 x13)
   (some (.done (.inr (.inr (.inl ())))))
   (some (.next ((QW (s3.1 + 1)), (JR s3.2 x13 s2.1)))))
   (some (.done (.inl s3.2)))
def m12o_l1 (nn : Nat) (a0 : List Dcl) (s2 : Int × (Qc Wy Int)) : Option (LO (Int × (Qc Wy Int)) (((Qc Wy Int)) ⊕ (((List (List Int)) × (Qc Wy Int)) ⊕ Unit ⊕ Unit))) :=
 cond (decide (s2.1 < ((nn : Nat) : Int)))
   (Option.bind (J1 a0 s2.1) fun (x8 : Dcl) =>
 Qm (Nat.beq a0.length nn)
 (Option.bind (X8 x8) fun (x10 : (List Wy)) =>
 Option.bind (Qo (m12o_l0 x10 s2) QB (0, s2.2)) (Sum.elim (fun (o11 : (Qc Wy Int)) => some (.next ((QW (s2.1 + 1)), o11))) (fun o => some (.done (.inr o))))))
   (some (.done (.inl s2.2)))
def m12o_l2 (x11 : (List Wy)) (o6 : (Qc Wy Int)) (s3 : (List Int) × Int) : Option (LO ((List Int) × Int) (((List Int)) ⊕ (((List (List Int)) × (Qc Wy Int)) ⊕ Unit ⊕ Unit))) :=
 cond (decide (s3.2 < (x11.length : Int)))
   (Option.bind (J1 x11 s3.2) fun (x14 : Wy) =>
 cond (!(Jr o6 x14))
   (some (.done (.inr (.inr (.inr ())))))
   (Qm (Nat.ble (s3.1.length + ([(J7 o6 x14)]).length) 1000000000)
 (some (.next ((s3.1 ++ ([(J7 o6 x14)])), (QW (s3.2 + 1)))))))
   (some (.done (.inl s3.1)))
def m12o_l3 (nn : Nat) (a0 : List Dcl) (o6 : (Qc Wy Int)) (s2 : Int × (List (List Int))) : Option (LO (Int × (List (List Int))) (((List (List Int))) ⊕ (((List (List Int)) × (Qc Wy Int)) ⊕ Unit ⊕ Unit))) :=
 cond (decide (s2.1 < ((nn : Nat) : Int)))
   (Option.bind (J1 a0 s2.1) fun (x9 : Dcl) =>
 Qm (Nat.beq a0.length nn)
 (Option.bind (Xe x9) fun (x11 : (List Wy)) =>
 Option.bind (Qo (m12o_l2 x11 o6) QB (([] : List Int), 0)) (Sum.elim (fun (o12 : (List Int)) => Option.bind (YZ o12) fun (x13 : List Int) =>
 Option.bind (JM x13 ((Enc.encL o12).length)) fun (x14 : List Int) =>
 Qm (Nat.ble (s2.2.length + ([x14]).length) 1000000000)
 (some (.next ((QW (s2.1 + 1)), (s2.2 ++ ([x14])))))) (fun o => some (.done (.inr o))))))
   (some (.done (.inl s2.2)))
def m12o_l4 (a1 : List Wy) (y1 : (List (List Int)) × (Qc Wy Int)) (x32 : (List (List Int))) (s2 : Int × (List Bool)) : Option (LO (Int × (List Bool)) (((List Bool)) ⊕ (Unit ⊕ ((List Bool))))) :=
 cond (decide (s2.1 < (a1.length : Int)))
   (Option.bind (J1 a1 s2.1) fun (x40 : Wy) =>
 cond (!(Jr y1.2 x40))
   (some (.done (.inr (.inl ()))))
   (Option.bind (m56f12 (J7 y1.2 x40) ((x32.length : Int).toNat) s2.2 x32) fun (x42 : (List Bool)) =>
 some (.next ((QW (s2.1 + 1)), x42))))
   (some (.done (.inl s2.2)))
def m12o_l5 (nn : Nat) (a0 : List Dcl) (y34 : (List Bool)) (x32 : (List (List Int))) (s1 : (List Wy) × Int) : Option (LO ((List Wy) × Int) (((List Wy)))) :=
 cond (decide (s1.2 < ((nn : Nat) : Int)))
   (Option.bind (J1 a0 s1.2) fun (x46 : Dcl) =>
 Qm (Nat.beq a0.length nn)
 (Option.bind (J1 y34 s1.2) fun (x48 : Bool) =>
 Qm (Nat.beq y34.length ((x32.length : Int).toNat))
 (cond x48
   (Option.bind (X8 x46) fun (x51 : (List Wy)) =>
 Qm (Nat.ble (s1.1.length + x51.length) 1000000000)
 (some (.next ((s1.1 ++ x51), (QW (s1.2 + 1))))))
   (some (.next (s1.1, (QW (s1.2 + 1))))))))
   (some (.done s1.1))
def m12o (a0 : List Dcl) (a1 : List Wy) (nn : Nat) : Option ((List Wy) × Int) :=
 Option.bind (Option.bind (Qo (m12o_l1 nn a0) QB (0, gmNil)) (Sum.elim (fun (o6 : (Qc Wy Int)) => Option.bind (Qo (m12o_l3 nn a0 o6) QB (0, ([] : List (List Int)))) (Sum.elim (fun (o7 : (List (List Int))) => some (.inl (o7, o6))) (fun o => some o))) (fun o => some o))) (Sum.elim (fun (y1 : (List (List Int)) × (Qc Wy Int)) => Option.bind (XB y1.1) fun (x32 : (List (List Int))) =>
 Option.bind (Qm (cond (decide (0 ≤ (x32.length : Int))) (Nat.ble (1 * (x32.length : Int).toNat) 281474976710656) false)
 (Option.bind (Qo (m12o_l4 a1 y1 x32) QB (0, (List.replicate (x32.length : Int).toNat false))) (Sum.elim (fun (o38 : (List Bool)) => some (.inr o38)) (fun o => some o)))) (Sum.elim (fun (y33 : Unit) => some (([] : List Wy), 9)) (fun (y34 : (List Bool)) => Option.bind (Qo (m12o_l5 nn a0 y34 x32) QB (([] : List Wy), 0)) (fun (o44 : (List Wy)) => some (o44, 0))))) (Sum.elim (fun (y2 : Unit) => some (([] : List Wy), 8)) (fun (y3 : Unit) => some (([] : List Wy), 9))))
set_option maxRecDepth 100000 in
set_option maxHeartbeats 2000000 in
theorem m12o_ok (a0 : List Dcl) (a1 : List Wy) (nn : Nat) (r : (List Wy) × Int) (h0 : m12o a0 a1 nn = some r) : CallM Try.prog 12 [.one (.osl 0 0 nn nn), .one (We a1)] ⟨[(0, .cells 48 (Q6 a0))], [], 1⟩ (Qr [.one (We r.1), .one (Wg r.2)]) ⟨[(0, .cells 48 (Q6 a0))], [], 6⟩ := by
 unfold m12o at h0
 refine QM ⟨[(4, .v (.one (We r.1))), (5, .v (.one (Wg r.2)))], [(0, .cells 48 (Q6 a0))], [], 6, 49, []⟩ rfl rfl en_12 (W1 rfl) rfl (Qp rfl (Qp rfl .nil)) (fun w0 M V0 Q hv0 hQ0 => ?_)
 simp only [Jc]
 refine Q2 <| Q0 <| XS rfl rfl rfl <| XS rfl rfl rfl <| Q3 <| Q1 <| Q2 <| Q0 <| XR rfl rfl rfl ?_
 refine Qb h0 (fun y5 h1 h0 => ?_)
 have hc4 : CallM Try.prog 34 [.one (.osl 0 0 nn nn)] ⟨[(0, .cells 48 (Q6 a0))], [], 1⟩ (Qr (((Sum.elim (fun (y1 : (List (List Int)) × (Qc Wy Int)) => ([.agg [Wi 4 y1.1, .mp 2], .one (Wg 0)] : List AV)) (Sum.elim (fun (y2 : Unit) => ([.agg [Wf, .d (.v (.map none))], .one (Wg 8)] : List AV)) (fun (y3 : Unit) => ([.agg [Wf, .d (.v (.map none))], .one (Wg 9)] : List AV))))) y5)) ⟨(((Sum.elim (fun (y1 : (List (List Int)) × (Qc Wy Int)) => (⟨[(2, .v (.one (.ptr 1 0))), (3, .v (.one (Wg 0)))], [(0, .cells 48 (Q6 a0)), (1, .cells 72 [Wi 4 y1.1, .mp 2]), (2, .mp (QJ y1.2.1) y1.2.2)], [(4, some ⟨54, 1, (Enc.encL y1.1).length, []⟩)], 5, 88, []⟩ : St)) (Sum.elim (fun (y2 : Unit) => (⟨[(2, .v (.one (.ptr 1 0))), (3, .v (.one (Wg 8)))], [(0, .cells 48 (Q6 a0)), (1, .cells 72 [Wf, .d (.v (.map none))])], [], 5, 88, []⟩ : St)) (fun (y3 : Unit) => (⟨[(2, .v (.one (.ptr 1 0))), (3, .v (.one (Wg 9)))], [(0, .cells 48 (Q6 a0)), (1, .cells 72 [Wf, .d (.v (.map none))])], [], 7, 88, []⟩ : St))))) y5).hp, (((Sum.elim (fun (y1 : (List (List Int)) × (Qc Wy Int)) => (⟨[(2, .v (.one (.ptr 1 0))), (3, .v (.one (Wg 0)))], [(0, .cells 48 (Q6 a0)), (1, .cells 72 [Wi 4 y1.1, .mp 2]), (2, .mp (QJ y1.2.1) y1.2.2)], [(4, some ⟨54, 1, (Enc.encL y1.1).length, []⟩)], 5, 88, []⟩ : St)) (Sum.elim (fun (y2 : Unit) => (⟨[(2, .v (.one (.ptr 1 0))), (3, .v (.one (Wg 8)))], [(0, .cells 48 (Q6 a0)), (1, .cells 72 [Wf, .d (.v (.map none))])], [], 5, 88, []⟩ : St)) (fun (y3 : Unit) => (⟨[(2, .v (.one (.ptr 1 0))), (3, .v (.one (Wg 9)))], [(0, .cells 48 (Q6 a0)), (1, .cells 72 [Wf, .d (.v (.map none))])], [], 7, 88, []⟩ : St))))) y5).tk, (((Sum.elim (fun (y1 : (List (List Int)) × (Qc Wy Int)) => (⟨[(2, .v (.one (.ptr 1 0))), (3, .v (.one (Wg 0)))], [(0, .cells 48 (Q6 a0)), (1, .cells 72 [Wi 4 y1.1, .mp 2]), (2, .mp (QJ y1.2.1) y1.2.2)], [(4, some ⟨54, 1, (Enc.encL y1.1).length, []⟩)], 5, 88, []⟩ : St)) (Sum.elim (fun (y2 : Unit) => (⟨[(2, .v (.one (.ptr 1 0))), (3, .v (.one (Wg 8)))], [(0, .cells 48 (Q6 a0)), (1, .cells 72 [Wf, .d (.v (.map none))])], [], 5, 88, []⟩ : St)) (fun (y3 : Unit) => (⟨[(2, .v (.one (.ptr 1 0))), (3, .v (.one (Wg 9)))], [(0, .cells 48 (Q6 a0)), (1, .cells 72 [Wf, .d (.v (.map none))])], [], 7, 88, []⟩ : St))))) y5).nx⟩ := by
  refine JC y5 ((Sum.elim (fun (y1 : (List (List Int)) × (Qc Wy Int)) => (⟨[(2, .v (.one (.ptr 1 0))), (3, .v (.one (Wg 0)))], [(0, .cells 48 (Q6 a0)), (1, .cells 72 [Wi 4 y1.1, .mp 2]), (2, .mp (QJ y1.2.1) y1.2.2)], [(4, some ⟨54, 1, (Enc.encL y1.1).length, []⟩)], 5, 88, []⟩ : St)) (Sum.elim (fun (y2 : Unit) => (⟨[(2, .v (.one (.ptr 1 0))), (3, .v (.one (Wg 8)))], [(0, .cells 48 (Q6 a0)), (1, .cells 72 [Wf, .d (.v (.map none))])], [], 5, 88, []⟩ : St)) (fun (y3 : Unit) => (⟨[(2, .v (.one (.ptr 1 0))), (3, .v (.one (Wg 9)))], [(0, .cells 48 (Q6 a0)), (1, .cells 72 [Wf, .d (.v (.map none))])], [], 7, 88, []⟩ : St))))) ((Sum.elim (fun (y1 : (List (List Int)) × (Qc Wy Int)) => ([.agg [Wi 4 y1.1, .mp 2], .one (Wg 0)] : List AV)) (Sum.elim (fun (y2 : Unit) => ([.agg [Wf, .d (.v (.map none))], .one (Wg 8)] : List AV)) (fun (y3 : Unit) => ([.agg [Wf, .d (.v (.map none))], .one (Wg 9)] : List AV))))) rfl rfl GR (W1 rfl) (fun z_ => by cases z_ with
    | inl _ => rfl
    | inr z_ => exact (by cases z_ <;> rfl)) (fun z_ => by cases z_ with
    | inl _ => exact (JU J2 rfl rfl rfl rfl (Qp rfl .nil))
    | inr z_ => exact (by cases z_ with
    | inl _ => exact (JU J2 rfl rfl rfl rfl (Qp rfl .nil))
    | inr _ => exact (JU J2 rfl rfl rfl rfl (Qp rfl .nil)))) (fun w0 M V0 Q hv1 hQ1 => ?_)
  simp only [Jc]
  refine Q2 <| Q0 <| Q9 rfl rfl (W1 rfl) (Ql YJ rfl) <| XS rfl rfl rfl <| Q3 <| Q1 <| Q2 <| Q0 <| Q9 rfl rfl (W1 rfl) (JW Wy Int) <| XP rfl rfl rfl (YX YR rfl rfl rfl) <| Q9 rfl rfl (W1 rfl) (Ql YJ rfl) <| QA rfl rfl (Qi J2 rfl rfl rfl rfl (W1 rfl) rfl) <| Q3 <| Q1 ?_
  refine Q2 <| Q2 <| Q0 <| XR rfl rfl rfl <| XP rfl rfl rfl (Y7 J5 rfl) <| XR rfl rfl rfl <| Q3 <| Q1 <| Qd ?_
  refine QI 0 (fun (o6 : (Qc Wy Int)) => ⟨[(0, .v (.one (.osl 0 0 nn nn))), (2, .v (.one (.ptr 1 0))), (4, .v (.one (.ptr 3 0)))], [(0, .cells 48 (Q6 a0)), (1, .cells 72 [Wf, .d (.v (.map none))]), (2, .mp (QJ o6.1) o6.2), (3, .cells 72 [Wf, .mp 2])], [], 4, 88, []⟩) (fun (o6 : (Qc Wy Int)) => (Option.bind (Qo (m12o_l3 nn a0 o6) QB (0, ([] : List (List Int)))) (Sum.elim (fun (o7 : (List (List Int))) => some (.inl (o7, o6))) (fun o => some o))) = some y5) ?_ ?_
  refine Qb h1 (fun o7 hl2 h1 => ?_)
  refine QH (m12o_l1 nn a0) (fun s2 => ⟨[(0, .v (.one (.osl 0 0 nn nn))), (2, .v (.one (.ptr 1 0))), (4, .v (.one (.ptr 3 0))), (20, .v (.one (.osl 0 0 nn nn))), (21, .v (.one (Wg ((nn : Nat) : Int)))), (22, .v (.one (Wg s2.1)))], [(0, .cells 48 (Q6 a0)), (1, .cells 72 [Wf, .d (.v (.map none))]), (2, .mp (QJ s2.2.1) s2.2.2), (3, .cells 72 [Wf, .mp 2])], [], 4, 88, []⟩) (0, gmNil) o7 (Qh (XK rfl (XK rfl (XK rfl (XK rfl (XK rfl (XK rfl XJ)))))) (W8 rfl (W8 rfl (W8 rfl (W8 rfl W7)))) W3 rfl (Nat.le_trans hv1 (W1 rfl)) rfl rfl rfl (Wo rfl (Wp rfl rfl (Wn rfl (Wp rfl rfl Wm)))) rfl rfl) hl2 (fun s2 n2 oo2 h2 ho2 => ?_)
  unfold m12o_l1 at h2
  refine Q2 <| Q0 <| XP rfl rfl rfl (Q4 rfl rfl rfl) <| Q3 <| Q1 <| Q2 ?_
  refine Qg (b := (decide (s2.1 < ((nn : Nat) : Int)))) rfl (fun c8 => ?_) (fun c8 => ?_)
  replace h2 := Qu c8 h2
  refine Qj <| Q1 <| Q2 <| Qd <| Q2 <| Q0 <| XR rfl rfl rfl ?_
  refine Qb h2 (fun x9 hx9 h2 => ?_)
  refine QO h2 (fun g10 h2 => ?_)
  refine XP rfl rfl rfl (Jk (α := Dcl) J5 rfl rfl hx9 g10) <| XP rfl rfl rfl (Yq (α := Dcl) (ys := [Wg x9.kind, YK x9.name, Wg x9.params, Wg x9.ty.kind, Wg x9.ty.index, YK x9.ty.name, We x9.ty.levels, We x9.ty.kids, Wg x9.value.kind, Wg x9.value.index, YK x9.value.name, We x9.value.levels, We x9.value.kids, Wg x9.fixed, We x9.ctors, Wg x9.rcr.params, Wg x9.rcr.ty.kind, Wg x9.rcr.ty.index, YK x9.rcr.ty.name, We x9.rcr.ty.levels, We x9.rcr.ty.kids, We x9.rcr.rules, We x9.funs]) J3 rfl rfl hx9 rfl) <| Q9 rfl rfl (W1 rfl) (Ql Z8 rfl) <| XS rfl rfl rfl <| QA rfl rfl (Jb (x9 : Dcl) J3 rfl rfl rfl rfl rfl) <| Q3 <| Q1 <| Q2 <| Q0 <| XP rfl rfl rfl (Jj (x9 : Dcl) J3 rfl rfl) ?_
  refine Qb h2 (fun x11 hx11 h2 => ?_)
  refine Q9 rfl rfl (W1 rfl) (Qt (K5 x9 x11 hx11) rfl (.cons (.agg (.cons (.d _) (.cons (.d _) (.cons (.d _) (.cons (.d _) (.cons (.d _) (.cons (.d _) (.cons (.d _) (.cons (.d _) (.cons (.d _) (.cons (.d _) (.cons (.d _) (.cons (.d _) (.cons (.d _) (.cons (.d _) (.cons (.d _) (.cons (.d _) (.cons (.d _) (.cons (.d _) (.cons (.d _) (.cons (.d _) (.cons (.d _) (.cons (.d _) (.cons (.d _) .nil)))))))))))))))))))))))) .nil)) <| XP rfl rfl rfl (Qy (α := Wy) QQ rfl (.d _)) <| XR rfl rfl rfl <| Q3 <| Q1 <| Qd ?_
  refine QI 2 (fun (o12 : (Qc Wy Int)) => ⟨[(0, .v (.one (.osl 0 0 nn nn))), (2, .v (.one (.ptr 1 0))), (4, .v (.one (.ptr 3 0))), (20, .v (.one (.osl 0 0 nn nn))), (21, .v (.one (Wg ((nn : Nat) : Int)))), (22, .v (.one (Wg s2.1)))], [(0, .cells 48 (Q6 a0)), (1, .cells 72 [Wf, .d (.v (.map none))]), (2, .mp (QJ o12.1) o12.2), (3, .cells 72 [Wf, .mp 2]), (4, .cells 48 (Wj x9))], [], 5, 88, []⟩) (fun (o12 : (Qc Wy Int)) => (some (.next ((QW (s2.1 + 1)), o12))) = some oo2) ?_ ?_
  refine Qb h2 (fun o13 hl3 h2 => ?_)
  refine QH (m12o_l0 x11 s2) (fun s3 => ⟨[(0, .v (.one (.osl 0 0 nn nn))), (2, .v (.one (.ptr 1 0))), (4, .v (.one (.ptr 3 0))), (5, .v (.one (Wg s2.1))), (20, .v (.one (.osl 0 0 nn nn))), (21, .v (.one (Wg ((nn : Nat) : Int)))), (22, .v (.one (Wg s2.1))), (28, .v (.one (We x11))), (29, .v (.one (Wg (x11.length : Int)))), (30, .v (.one (Wg s3.1)))], [(0, .cells 48 (Q6 a0)), (1, .cells 72 [Wf, .d (.v (.map none))]), (2, .mp (QJ s3.2.1) s3.2.2), (3, .cells 72 [Wf, .mp 2]), (4, .cells 48 (Wj x9))], [], 5, 88, []⟩) (0, s2.2) o13 (Qh (XK rfl (XK rfl (XK rfl (XK rfl (XK rfl (XK rfl (XK rfl (XK rfl (XK rfl (XK rfl XJ)))))))))) (W8 rfl (W8 rfl (W8 rfl (W8 rfl (W8 rfl W7))))) W3 rfl (Nat.le_trans hv1 (W1 rfl)) rfl rfl rfl (Wo rfl (Wp rfl rfl (Wn rfl (Wp rfl rfl (Wp rfl rfl Wm))))) rfl rfl) hl3 (fun s3 n3 oo3 h3 ho3 => ?_)
  unfold m12o_l0 at h3
  refine Q2 <| Q0 <| XP rfl rfl rfl (Q4 rfl rfl rfl) <| Q3 <| Q1 <| Q2 ?_
  refine Qg (b := (decide (s3.1 < (x11.length : Int)))) rfl (fun c14 => ?_) (fun c14 => ?_)
  replace h3 := Qu c14 h3
  refine Qj <| Q1 <| Q2 <| Qd <| Q2 <| Q0 ?_
  refine Qb h3 (fun x15 hx15 h3 => ?_)
  refine XP rfl rfl rfl (Qq (α := Wy) QQ rfl (.d _) rfl hx15) <| XP rfl rfl rfl (QK Y6 rfl rfl) <| XS rfl rfl rfl <| Q3 <| Q1 <| Q2 <| Q2 <| Q0 <| XP rfl rfl rfl (Q8 JJ rfl) <| XP rfl rfl rfl (Q7 Yw rfl rfl rfl) <| XR rfl rfl rfl <| XP rfl rfl rfl (Jo (M := s3.2) (k := x15) Yv Yb rfl rfl rfl) <| XR rfl rfl rfl <| XP rfl rfl rfl (Qe rfl rfl) ?_
  refine XP rfl rfl rfl (Qe rfl rfl) <| XS rfl rfl rfl <| XS rfl rfl rfl <| Q3 <| Q1 <| Q2 <| Q0 <| XR rfl rfl rfl <| Q3 <| Q1 ?_
  refine Qg (b := (Jr s3.2 x15)) rfl (fun c16 => ?_) (fun c16 => ?_)
  replace h3 := Qu c16 h3
  refine Q2 <| Q0 <| XP rfl rfl rfl (Y1 YR rfl ) <| QA rfl rfl (Qi J2 rfl rfl rfl rfl (W1 rfl) rfl) <| XS rfl rfl rfl <| Q3 <| Q1 <| Qw ?_
  have e := XN h3; subst e
  have e_ : _ = _ := ho3
  subst e_
  try dsimp only [Sum.elim_inl, Sum.elim_inr] at h2
  have e := XN h2; subst e
  have e_ : _ = _ := ho2
  subst e_
  try dsimp only [Sum.elim_inl, Sum.elim_inr] at h1
  have e := XN h1; subst e
  exact hQ1 _ _ _ (.inr rfl) rfl (show StLe _ _ ⟨[(2, .v (.one (.ptr 1 0))), (3, .v (.one (Wg 8)))], [(0, .cells 48 (Q6 a0)), (1, .cells 72 [Wf, .d (.v (.map none))])], [], 5, 88, []⟩ from (Qh (XK rfl (XK rfl XJ)) (W8 rfl (W8 rfl W7)) W3 rfl (Nat.le_trans hv1 (W1 rfl)) rfl rfl rfl (Wo rfl (Wp rfl rfl Wm)) rfl rfl))
  replace h3 := Qv c16 h3
  refine Qj <| Q1 <| Q0 <| XP rfl rfl rfl (Q8 JJ rfl) <| XP rfl rfl rfl (Q7 Yw rfl rfl rfl) <| XR rfl rfl rfl <| XR rfl rfl rfl <| QA rfl rfl (JI (M := s3.2) (k := x15) (v := s2.1) Yv rfl rfl rfl rfl rfl) <| Q3 <| Qk <| Q1 <| Q0 <| XP rfl rfl rfl (Q4 rfl rfl rfl) <| XR rfl rfl rfl ?_
  refine Q3 ?_
  have e := XN h3; subst e
  refine QD ((QW (s3.1 + 1)), (JR s3.2 x15 s2.1)) (Qh (XK rfl (XK rfl (XK rfl (XK rfl (XK rfl (XK rfl (XK rfl (XK rfl (XK rfl (XK rfl XJ)))))))))) (W8 rfl (W8 rfl (W8 rfl (W8 rfl (W8 rfl W7))))) W3 rfl (Nat.le_trans hv1 (W1 rfl)) rfl rfl rfl (Wo rfl (Wp rfl rfl (Wn rfl (Wp rfl rfl (Wp rfl rfl Wm))))) rfl rfl) ho3
  replace h3 := Qv c14 h3
  refine QN <| Qf <| Qf ?_
  have e := XN h3; subst e
  have e_ : _ = _ := ho3
  subst e_
  exact QF s3.2 (Qh (XK rfl (XK rfl (XK rfl (XK rfl (XK rfl (XK rfl XJ)))))) (W8 rfl (W8 rfl (W8 rfl (W8 rfl (W8 rfl W7))))) W3 rfl (Nat.le_trans hv1 (W1 rfl)) rfl rfl rfl (Wo rfl (Wp rfl rfl (Wn rfl (Wp rfl rfl (Wp rfl rfl Wm))))) rfl rfl) h2
  intro o12 h2
  refine Qx <| Qk <| Q1 <| Q0 <| XP rfl rfl rfl (Q4 rfl rfl rfl) <| XR rfl rfl rfl <| Q3 ?_
  have e := XN h2; subst e
  refine QD ((QW (s2.1 + 1)), o12) (Qh (XK rfl (XK rfl (XK rfl (XK rfl (XK rfl (XK rfl XJ)))))) (W8 rfl (W8 rfl (W8 rfl (W8 rfl W7)))) W3 rfl (Nat.le_trans hv1 (W1 rfl)) rfl rfl rfl (Wo rfl (Wp rfl rfl (Wn rfl (Wp rfl rfl Wm)))) rfl rfl) ho2
  replace h2 := Qv c8 h2
  refine QN <| Qf <| Qf ?_
  have e := XN h2; subst e
  have e_ : _ = _ := ho2
  subst e_
  exact QF s2.2 (Qh (XK rfl (XK rfl (XK rfl XJ))) (W8 rfl (W8 rfl (W8 rfl (W8 rfl W7)))) W3 rfl (Nat.le_trans hv1 (W1 rfl)) rfl rfl rfl (Wo rfl (Wp rfl rfl (Wn rfl (Wp rfl rfl Wm)))) rfl rfl) h1
  intro o6 h1
  refine Qx <| Q1 <| Q2 <| Q2 <| Q0 <| XR rfl rfl rfl <| XP rfl rfl rfl (Y7 J5 rfl) <| XR rfl rfl rfl <| Q3 <| Q1 <| Qd ?_
  refine QI 4 (fun (o17 : (List (List Int))) => ⟨[(2, .v (.one (.ptr 1 0))), (4, .v (.one (.ptr 3 0)))], [(0, .cells 48 (Q6 a0)), (1, .cells 72 [Wf, .d (.v (.map none))]), (2, .mp (QJ o6.1) o6.2), (3, .cells 72 [Wi 4 o17, .mp 2])], [(4, some ⟨54, 1, (Enc.encL o17).length, []⟩)], 5, 88, []⟩) (fun (o17 : (List (List Int))) => (some (.inl (o17, o6))) = some y5) ?_ ?_
  refine YH (i := 3) (off := 0) 54 1 rfl rfl ?_
  refine Qb h1 (fun o18 hl2 h1 => ?_)
  refine QH (m12o_l3 nn a0 o6) (fun s2 => ⟨[(2, .v (.one (.ptr 1 0))), (4, .v (.one (.ptr 3 0))), (49, .v (.one (.osl 0 0 nn nn))), (50, .v (.one (Wg ((nn : Nat) : Int)))), (51, .v (.one (Wg s2.1)))], [(0, .cells 48 (Q6 a0)), (1, .cells 72 [Wf, .d (.v (.map none))]), (2, .mp (QJ o6.1) o6.2), (3, .cells 72 [Wi 4 s2.2, .mp 2])], [(4, some ⟨54, 1, (Enc.encL s2.2).length, []⟩)], 5, 88, []⟩) (0, ([] : List (List Int))) o18 (Qh (XK rfl (XK rfl (XK rfl (XK rfl (XK rfl XJ))))) (W8 rfl (W8 rfl (W8 rfl (W8 rfl W7)))) (W4 rfl W3) rfl (Nat.le_trans hv1 (W1 rfl)) rfl rfl rfl (Wo rfl (Wp rfl rfl (Wn rfl (Wp rfl rfl Wm)))) rfl rfl) hl2 (fun s2 n2 oo2 h2 ho2 => ?_)
  unfold m12o_l3 at h2
  refine Q2 <| Q0 <| XP rfl rfl rfl (Q4 rfl rfl rfl) <| Q3 <| Q1 <| Q2 ?_
  refine Qg (b := (decide (s2.1 < ((nn : Nat) : Int)))) rfl (fun c19 => ?_) (fun c19 => ?_)
  replace h2 := Qu c19 h2
  refine Qj <| Q1 <| Q2 <| Qd <| Q2 <| Q0 ?_
  refine Qb h2 (fun x20 hx20 h2 => ?_)
  refine QO h2 (fun g21 h2 => ?_)
  refine XP rfl rfl rfl (Jk (α := Dcl) J5 rfl rfl hx20 g21) <| XP rfl rfl rfl (Yq (α := Dcl) (ys := [Wg x20.kind, YK x20.name, Wg x20.params, Wg x20.ty.kind, Wg x20.ty.index, YK x20.ty.name, We x20.ty.levels, We x20.ty.kids, Wg x20.value.kind, Wg x20.value.index, YK x20.value.name, We x20.value.levels, We x20.value.kids, Wg x20.fixed, We x20.ctors, Wg x20.rcr.params, Wg x20.rcr.ty.kind, Wg x20.rcr.ty.index, YK x20.rcr.ty.name, We x20.rcr.ty.levels, We x20.rcr.ty.kids, We x20.rcr.rules, We x20.funs]) J3 rfl rfl hx20 rfl) <| Q9 rfl rfl (W1 rfl) (Ql Z8 rfl) <| QA rfl rfl (Jb (x20 : Dcl) J3 rfl rfl rfl rfl rfl) <| Q3 <| Q1 <| Q2 <| Q0 <| XS rfl rfl rfl <| Q3 <| Q1 <| Q2 <| Q2 <| Q0 ?_
  refine XP rfl rfl rfl (Jj (x20 : Dcl) J3 rfl rfl) ?_
  refine Qb h2 (fun x22 hx22 h2 => ?_)
  refine Q9 rfl rfl (W1 rfl) (Qt (Gh x20 x22 hx22) rfl (.cons (.agg (.cons (.d _) (.cons (.d _) (.cons (.d _) (.cons (.d _) (.cons (.d _) (.cons (.d _) (.cons (.d _) (.cons (.d _) (.cons (.d _) (.cons (.d _) (.cons (.d _) (.cons (.d _) (.cons (.d _) (.cons (.d _) (.cons (.d _) (.cons (.d _) (.cons (.d _) (.cons (.d _) (.cons (.d _) (.cons (.d _) (.cons (.d _) (.cons (.d _) (.cons (.d _) .nil)))))))))))))))))))))))) .nil)) <| XP rfl rfl rfl (Qy (α := Wy) QQ rfl (.d _)) <| XR rfl rfl rfl <| Q3 <| Q1 <| Qd ?_
  refine QI 6 (fun (o23 : (List Int)) => ⟨[(2, .v (.one (.ptr 1 0))), (4, .v (.one (.ptr 3 0))), (13, .v (.one (.apv 6 1 ((Enc.encL o23).length) []))), (49, .v (.one (.osl 0 0 nn nn))), (50, .v (.one (Wg ((nn : Nat) : Int)))), (51, .v (.one (Wg s2.1)))], [(0, .cells 48 (Q6 a0)), (1, .cells 72 [Wf, .d (.v (.map none))]), (2, .mp (QJ o6.1) o6.2), (3, .cells 72 [Wi 4 s2.2, .mp 2]), (5, .cells 48 (Wj x20))], [(4, some ⟨54, 1, (Enc.encL s2.2).length, []⟩), (6, some ⟨3, 1, (Enc.encL o23).length, (Enc.encL o23).flatten⟩)], 7, 88, []⟩) (fun (o23 : (List Int)) => (Option.bind (YZ o23) fun (x24 : List Int) =>
    Option.bind (JM x24 ((Enc.encL o23).length)) fun (x25 : List Int) =>
    Qm (Nat.ble (s2.2.length + ([x25]).length) 1000000000)
    (some (.next ((QW (s2.1 + 1)), (s2.2 ++ ([x25])))))) = some oo2) ?_ ?_
  refine Y0 (t := 13) 3 1 rfl <| ZY (α := Int) (t := 13) rfl rfl ?_
  refine Qb h2 (fun o24 hl3 h2 => ?_)
  refine QH (m12o_l2 x22 o6) (fun s3 => ⟨[(2, .v (.one (.ptr 1 0))), (4, .v (.one (.ptr 3 0))), (13, .v (.one (.apv 6 1 ((Enc.encL s3.1).length) []))), (49, .v (.one (.osl 0 0 nn nn))), (50, .v (.one (Wg ((nn : Nat) : Int)))), (51, .v (.one (Wg s2.1))), (56, .v (.one (We x22))), (57, .v (.one (Wg (x22.length : Int)))), (58, .v (.one (Wg s3.2)))], [(0, .cells 48 (Q6 a0)), (1, .cells 72 [Wf, .d (.v (.map none))]), (2, .mp (QJ o6.1) o6.2), (3, .cells 72 [Wi 4 s2.2, .mp 2]), (5, .cells 48 (Wj x20))], [(4, some ⟨54, 1, (Enc.encL s2.2).length, []⟩), (6, some ⟨3, 1, (Enc.encL s3.1).length, (Enc.encL s3.1).flatten⟩)], 7, 88, []⟩) (([] : List Int), 0) o24 (Qh (XK rfl (XK rfl (XK rfl (XK rfl (XK rfl (XK rfl (XK rfl (XK rfl (XK rfl XJ))))))))) (W8 rfl (W8 rfl (W8 rfl (W8 rfl (W8 rfl W7))))) (W4 rfl (W4 rfl W3)) rfl (Nat.le_trans hv1 (W1 rfl)) rfl rfl rfl (Wo rfl (Wp rfl rfl (Wn rfl (Wp rfl rfl (Wp rfl rfl Wm))))) rfl rfl) hl3 (fun s3 n3 oo3 h3 ho3 => ?_)
  unfold m12o_l2 at h3
  refine Q2 <| Q0 <| XP rfl rfl rfl (Q4 rfl rfl rfl) <| Q3 <| Q1 <| Q2 ?_
  refine Qg (b := (decide (s3.2 < (x22.length : Int)))) rfl (fun c25 => ?_) (fun c25 => ?_)
  replace h3 := Qu c25 h3
  refine Qj <| Q1 <| Q2 <| Qd <| Q2 <| Q0 ?_
  refine Qb h3 (fun x26 hx26 h3 => ?_)
  refine XP rfl rfl rfl (Qq (α := Wy) QQ rfl (.d _) rfl hx26) <| XP rfl rfl rfl (QK Y6 rfl rfl) <| XS rfl rfl rfl <| Q3 <| Q1 <| Q2 <| Q0 <| XP rfl rfl rfl (Q8 JJ rfl) <| XP rfl rfl rfl (Q7 Yw rfl rfl rfl) <| XR rfl rfl rfl <| XP rfl rfl rfl (Jo (M := o6) (k := x26) Yv Yb rfl rfl rfl) <| XR rfl rfl rfl <| XP rfl rfl rfl (Qe rfl rfl) <| XP rfl rfl rfl (Qe rfl rfl) ?_
  refine XS rfl rfl rfl <| XS rfl rfl rfl <| Q3 <| Q1 <| Q2 <| Q2 <| Q0 <| XR rfl rfl rfl <| XP rfl rfl rfl (Jp rfl) <| Q3 <| Q1 ?_
  refine Qg (b := (!(Jr o6 x26))) rfl (fun c27 => ?_) (fun c27 => ?_)
  replace h3 := Qu c27 h3
  refine Q2 <| Q0 <| XP rfl rfl rfl (Y1 YR rfl ) <| QA rfl rfl (Qi J2 rfl rfl rfl rfl (W1 rfl) rfl) <| XS rfl rfl rfl <| Q3 <| Q1 <| Qw ?_
  have e := XN h3; subst e
  have e_ : _ = _ := ho3
  subst e_
  try dsimp only [Sum.elim_inl, Sum.elim_inr] at h2
  have e := XN h2; subst e
  have e_ : _ = _ := ho2
  subst e_
  try dsimp only [Sum.elim_inl, Sum.elim_inr] at h1
  have e := XN h1; subst e
  exact hQ1 _ _ _ (.inr rfl) rfl (show StLe _ _ ⟨[(2, .v (.one (.ptr 1 0))), (3, .v (.one (Wg 9)))], [(0, .cells 48 (Q6 a0)), (1, .cells 72 [Wf, .d (.v (.map none))])], [], 7, 88, []⟩ from (Qh (XK rfl (XK rfl XJ)) (W8 rfl (W8 rfl W7)) W3 rfl (Nat.le_trans hv1 (W1 rfl)) rfl rfl rfl (Wo rfl (Wp rfl rfl Wm)) rfl rfl))
  replace h3 := Qv c27 h3
  refine Qj <| Q1 <| Q0 <| XR rfl rfl rfl <| XR rfl rfl rfl <| Q9 rfl rfl (W1 rfl) (QY (α := Int) ((J7 o6 x26)) JP Xh rfl rfl (W1 rfl) (W1 rfl) rfl rfl (.cons (.d _) .nil) rfl) ?_
  refine QO h3 (fun g28 h3 => ?_)
  refine Q9 rfl rfl (W1 rfl) (Yr (α := Int) (l := s3.1) (l2 := ([(J7 o6 x26)] : List Int)) JP X2 rfl rfl rfl rfl (.app _ _) rfl g28) <| XS rfl rfl rfl <| Q3 <| Qk <| Q1 <| Q0 <| XP rfl rfl rfl (Q4 rfl rfl rfl) <| XR rfl rfl rfl <| Q3 ?_
  have e := XN h3; subst e
  refine QD ((s3.1 ++ ([(J7 o6 x26)])), (QW (s3.2 + 1))) (Qh (XK rfl (XK rfl (XK rfl (XK rfl (XK rfl (XK rfl (XK rfl (XK rfl (XK rfl XJ))))))))) (W8 rfl (W8 rfl (W8 rfl (W8 rfl (W8 rfl W7))))) (W4 rfl (W4 rfl W3)) rfl (Nat.le_trans hv1 (W1 rfl)) rfl rfl rfl (Wo rfl (Wp rfl rfl (Wn rfl (Wp rfl rfl (Wp rfl rfl Wm))))) rfl rfl) ho3
  replace h3 := Qv c25 h3
  refine QN <| Qf <| Qf ?_
  have e := XN h3; subst e
  have e_ : _ = _ := ho3
  subst e_
  exact QF s3.1 (Qh (XK rfl (XK rfl (XK rfl (XK rfl (XK rfl (XK rfl XJ)))))) (W8 rfl (W8 rfl (W8 rfl (W8 rfl (W8 rfl W7))))) (W4 rfl (W4 rfl W3)) rfl (Nat.le_trans hv1 (W1 rfl)) rfl rfl rfl (Wo rfl (Wp rfl rfl (Wn rfl (Wp rfl rfl (Wp rfl rfl Wm))))) rfl rfl) h2
  intro o23 h2
  refine Qx <| Q1 <| Q2 <| Q0 <| XR rfl rfl rfl ?_
  refine Qb h2 (fun x29 hx29 h2 => ?_)
  refine Q9 rfl rfl (W1 rfl) (QS (hp1' := []) (tk1' := [(6, some ⟨3, 1, (Enc.encL o23).length, (Enc.encL x29).flatten⟩)]) (hpF := [(0, .cells 48 (Q6 a0)), (1, .cells 72 [Wf, .d (.v (.map none))]), (2, .mp (QJ o6.1) o6.2), (3, .cells 72 [Wi 4 s2.2, .mp 2]), (5, .cells 48 (Wj x20))]) (tkF := [(4, some ⟨54, 1, (Enc.encL s2.2).length, []⟩)]) (res2 := Qr []) (nx2 := 7) [6] rfl rfl (ZJ o23 x29 hx29) rfl rfl XT rfl rfl Wa (W6 rfl W5) (W8 rfl (W8 rfl (W8 rfl (W8 rfl (W8 rfl W7))))) (W4 rfl W3) rfl rfl rfl rfl rfl Wm rfl rfl rfl rfl) <| Q3 <| Q1 ?_
  refine JZ [3, 5, 7] [(0, 1), (1, 1)] mixed (by kernel_rfl) (by kernel_rfl) (by kernel_rfl) ?_
  refine RunA.rd rfl rfl rfl (Q5 (Q8 JA rfl)) rfl <| RunA.rd rfl rfl rfl (Q5 (Q7 JV rfl rfl rfl)) rfl <| RunA.rd rfl rfl rfl (Q5 (QV rfl)) rfl ?_
  refine Qb h2 (fun x30 hx30 h2 => ?_)
  refine RunA.eff rfl rfl rfl (QS (hp1' := []) (tk1' := [(7, some ⟨3, 1, (Enc.encL x30).length, []⟩)]) (hpF := [(0, .cells 48 (Q6 a0)), (1, .cells 72 [Wf, .d (.v (.map none))]), (2, .mp (QJ o6.1) o6.2), (3, .cells 72 [Wi 4 s2.2, .mp 2]), (5, .cells 48 (Wj x20))]) (tkF := [(4, some ⟨54, 1, (Enc.encL s2.2).length, []⟩)]) (res2 := Qr [.one (Wi 7 x30)]) (nx2 := 8) [6] rfl rfl (YE x29 ((Enc.encL o23).length) x30 hx30) rfl rfl XT rfl rfl Wa (W6 rfl W5) (W8 rfl (W8 rfl (W8 rfl (W8 rfl (W8 rfl W7))))) (W4 rfl W3) rfl rfl rfl rfl rfl Wm rfl rfl rfl rfl) rfl <| RunA.rd rfl rfl rfl (JX (α := List Int) (x30) Y3 X6 rfl rfl (W1 rfl) rfl rfl (.cons (.app _ _ _) .nil) rfl) rfl ?_
  refine QO h2 (fun g31 h2 => ?_)
  refine RunA.eff rfl rfl rfl (QU (α := List Int) Y3 GL rfl rfl rfl rfl rfl (.d _) g31) rfl <| RunA.rd rfl rfl rfl (Q5 (Q8 JA rfl)) rfl <| RunA.eff rfl rfl rfl (Qi JV rfl rfl rfl rfl (W1 rfl) rfl) rfl ?_
  refine RunA.nil ⟨?ex, _, _, rfl, ?_⟩
  case ex => exact ⟨⟨_, rfl, _, _, rfl, rfl, rfl, .inl ⟨rfl, _, Q5 (Q8 JA rfl), rfl⟩⟩, ⟨_, rfl, _, _, rfl, rfl, rfl, .inl ⟨rfl, _, Q5 (Q7 JV rfl rfl rfl), rfl⟩⟩, trivial⟩
  refine JT (st' := ⟨[(2, .v (.one (.ptr 1 0))), (4, .v (.one (.ptr 3 0))), (49, .v (.one (.osl 0 0 nn nn))), (50, .v (.one (Wg ((nn : Nat) : Int)))), (51, .v (.one (Wg s2.1)))], [(0, .cells 48 (Q6 a0)), (1, .cells 72 [Wf, .d (.v (.map none))]), (2, .mp (QJ o6.1) o6.2), (3, .cells 72 [Wi 4 ((s2.2 ++ ([x30])) : List (List Int)), .mp 2]), (5, .cells 48 (Wj x20))], [(4, some ⟨54, 1, (Enc.encL ((s2.2 ++ ([x30])) : List (List Int))).length, []⟩), (7, some ⟨3, 1, (Enc.encL x30).length, []⟩)], 8, 88, []⟩) (Qh (XK rfl (XK rfl (XK rfl (XK rfl (XK rfl XJ))))) (W8 rfl (W8 rfl (W8 rfl (W8 rfl (W8 rfl W7))))) (W4 rfl (W4 rfl W3)) rfl (Nat.le_trans hv1 (W1 rfl)) rfl rfl rfl (Wo rfl (Wp rfl rfl (Wn rfl (Wp rfl rfl (Wp rfl rfl Wm))))) rfl rfl) <| Qk <| Q1 <| Q0 <| XP rfl rfl rfl (Q4 rfl rfl rfl) <| XR rfl rfl rfl <| Q3 ?_
  have e := XN h2; subst e
  refine QD ((QW (s2.1 + 1)), (s2.2 ++ ([x30]))) (Qh (XK rfl (XK rfl (XK rfl (XK rfl (XK rfl XJ))))) (W8 rfl (W8 rfl (W8 rfl (W8 rfl W7)))) (W4 rfl W3) rfl (Nat.le_trans hv1 (W1 rfl)) rfl rfl rfl (Wo rfl (Wp rfl rfl (Wn rfl (Wp rfl rfl Wm)))) rfl rfl) ho2
  replace h2 := Qv c19 h2
  refine QN <| Qf <| Qf ?_
  have e := XN h2; subst e
  have e_ : _ = _ := ho2
  subst e_
  exact QF s2.2 (Qh (XK rfl (XK rfl XJ)) (W8 rfl (W8 rfl (W8 rfl (W8 rfl W7)))) (W4 rfl W3) rfl (Nat.le_trans hv1 (W1 rfl)) rfl rfl rfl (Wo rfl (Wp rfl rfl (Wn rfl (Wp rfl rfl Wm)))) rfl rfl) h1
  intro o17 h1
  refine Qx <| Q1 <| Q2 <| Q0 <| XP rfl rfl rfl (Qz J2 rfl rfl rfl rfl) <| QA rfl rfl (Qi J2 rfl rfl rfl rfl (W1 rfl) rfl) <| XS rfl rfl rfl <| Q3 <| Q1 <| Qw ?_
  have e := XN h1; subst e
  exact hQ1 _ _ _ (.inr rfl) rfl (show StLe _ _ ⟨[(2, .v (.one (.ptr 1 0))), (3, .v (.one (Wg 0)))], [(0, .cells 48 (Q6 a0)), (1, .cells 72 [Wi 4 o17, .mp 2]), (2, .mp (QJ o6.1) o6.2)], [(4, some ⟨54, 1, (Enc.encL o17).length, []⟩)], 5, 88, []⟩ from (Qh (XK rfl (XK rfl XJ)) (W8 rfl (W8 rfl (W8 rfl W7))) (W4 rfl W3) rfl (Nat.le_trans hv1 (W1 rfl)) rfl rfl rfl (Wo rfl (Wp rfl rfl (Wn rfl Wm))) rfl rfl))
 refine KA (C := fun q_ => CallM Try.prog 34 [.one (.osl 0 0 nn nn)] ⟨[(0, .cells 48 (Q6 a0))], [], 1⟩ (Qr (((Sum.elim (fun (y1 : (List (List Int)) × (Qc Wy Int)) => ([.agg [Wi 4 y1.1, .mp 2], .one (Wg 0)] : List AV)) (Sum.elim (fun (y2 : Unit) => ([.agg [Wf, .d (.v (.map none))], .one (Wg 8)] : List AV)) (fun (y3 : Unit) => ([.agg [Wf, .d (.v (.map none))], .one (Wg 9)] : List AV))))) q_)) ⟨(((Sum.elim (fun (y1 : (List (List Int)) × (Qc Wy Int)) => (⟨[(2, .v (.one (.ptr 1 0))), (3, .v (.one (Wg 0)))], [(0, .cells 48 (Q6 a0)), (1, .cells 72 [Wi 4 y1.1, .mp 2]), (2, .mp (QJ y1.2.1) y1.2.2)], [(4, some ⟨54, 1, (Enc.encL y1.1).length, []⟩)], 5, 88, []⟩ : St)) (Sum.elim (fun (y2 : Unit) => (⟨[(2, .v (.one (.ptr 1 0))), (3, .v (.one (Wg 8)))], [(0, .cells 48 (Q6 a0)), (1, .cells 72 [Wf, .d (.v (.map none))])], [], 5, 88, []⟩ : St)) (fun (y3 : Unit) => (⟨[(2, .v (.one (.ptr 1 0))), (3, .v (.one (Wg 9)))], [(0, .cells 48 (Q6 a0)), (1, .cells 72 [Wf, .d (.v (.map none))])], [], 7, 88, []⟩ : St))))) q_).hp, (((Sum.elim (fun (y1 : (List (List Int)) × (Qc Wy Int)) => (⟨[(2, .v (.one (.ptr 1 0))), (3, .v (.one (Wg 0)))], [(0, .cells 48 (Q6 a0)), (1, .cells 72 [Wi 4 y1.1, .mp 2]), (2, .mp (QJ y1.2.1) y1.2.2)], [(4, some ⟨54, 1, (Enc.encL y1.1).length, []⟩)], 5, 88, []⟩ : St)) (Sum.elim (fun (y2 : Unit) => (⟨[(2, .v (.one (.ptr 1 0))), (3, .v (.one (Wg 8)))], [(0, .cells 48 (Q6 a0)), (1, .cells 72 [Wf, .d (.v (.map none))])], [], 5, 88, []⟩ : St)) (fun (y3 : Unit) => (⟨[(2, .v (.one (.ptr 1 0))), (3, .v (.one (Wg 9)))], [(0, .cells 48 (Q6 a0)), (1, .cells 72 [Wf, .d (.v (.map none))])], [], 7, 88, []⟩ : St))))) q_).tk, (((Sum.elim (fun (y1 : (List (List Int)) × (Qc Wy Int)) => (⟨[(2, .v (.one (.ptr 1 0))), (3, .v (.one (Wg 0)))], [(0, .cells 48 (Q6 a0)), (1, .cells 72 [Wi 4 y1.1, .mp 2]), (2, .mp (QJ y1.2.1) y1.2.2)], [(4, some ⟨54, 1, (Enc.encL y1.1).length, []⟩)], 5, 88, []⟩ : St)) (Sum.elim (fun (y2 : Unit) => (⟨[(2, .v (.one (.ptr 1 0))), (3, .v (.one (Wg 8)))], [(0, .cells 48 (Q6 a0)), (1, .cells 72 [Wf, .d (.v (.map none))])], [], 5, 88, []⟩ : St)) (fun (y3 : Unit) => (⟨[(2, .v (.one (.ptr 1 0))), (3, .v (.one (Wg 9)))], [(0, .cells 48 (Q6 a0)), (1, .cells 72 [Wf, .d (.v (.map none))])], [], 7, 88, []⟩ : St))))) q_).nx⟩) hc4 h0 (fun y1 hc4 h0 => ?_) (fun z_ hc4 h0 => KA (C := fun q_ => CallM Try.prog 34 [.one (.osl 0 0 nn nn)] ⟨[(0, .cells 48 (Q6 a0))], [], 1⟩ (Qr (((Sum.elim (fun (y1 : (List (List Int)) × (Qc Wy Int)) => ([.agg [Wi 4 y1.1, .mp 2], .one (Wg 0)] : List AV)) (Sum.elim (fun (y2 : Unit) => ([.agg [Wf, .d (.v (.map none))], .one (Wg 8)] : List AV)) (fun (y3 : Unit) => ([.agg [Wf, .d (.v (.map none))], .one (Wg 9)] : List AV))))) (.inr q_))) ⟨(((Sum.elim (fun (y1 : (List (List Int)) × (Qc Wy Int)) => (⟨[(2, .v (.one (.ptr 1 0))), (3, .v (.one (Wg 0)))], [(0, .cells 48 (Q6 a0)), (1, .cells 72 [Wi 4 y1.1, .mp 2]), (2, .mp (QJ y1.2.1) y1.2.2)], [(4, some ⟨54, 1, (Enc.encL y1.1).length, []⟩)], 5, 88, []⟩ : St)) (Sum.elim (fun (y2 : Unit) => (⟨[(2, .v (.one (.ptr 1 0))), (3, .v (.one (Wg 8)))], [(0, .cells 48 (Q6 a0)), (1, .cells 72 [Wf, .d (.v (.map none))])], [], 5, 88, []⟩ : St)) (fun (y3 : Unit) => (⟨[(2, .v (.one (.ptr 1 0))), (3, .v (.one (Wg 9)))], [(0, .cells 48 (Q6 a0)), (1, .cells 72 [Wf, .d (.v (.map none))])], [], 7, 88, []⟩ : St))))) (.inr q_)).hp, (((Sum.elim (fun (y1 : (List (List Int)) × (Qc Wy Int)) => (⟨[(2, .v (.one (.ptr 1 0))), (3, .v (.one (Wg 0)))], [(0, .cells 48 (Q6 a0)), (1, .cells 72 [Wi 4 y1.1, .mp 2]), (2, .mp (QJ y1.2.1) y1.2.2)], [(4, some ⟨54, 1, (Enc.encL y1.1).length, []⟩)], 5, 88, []⟩ : St)) (Sum.elim (fun (y2 : Unit) => (⟨[(2, .v (.one (.ptr 1 0))), (3, .v (.one (Wg 8)))], [(0, .cells 48 (Q6 a0)), (1, .cells 72 [Wf, .d (.v (.map none))])], [], 5, 88, []⟩ : St)) (fun (y3 : Unit) => (⟨[(2, .v (.one (.ptr 1 0))), (3, .v (.one (Wg 9)))], [(0, .cells 48 (Q6 a0)), (1, .cells 72 [Wf, .d (.v (.map none))])], [], 7, 88, []⟩ : St))))) (.inr q_)).tk, (((Sum.elim (fun (y1 : (List (List Int)) × (Qc Wy Int)) => (⟨[(2, .v (.one (.ptr 1 0))), (3, .v (.one (Wg 0)))], [(0, .cells 48 (Q6 a0)), (1, .cells 72 [Wi 4 y1.1, .mp 2]), (2, .mp (QJ y1.2.1) y1.2.2)], [(4, some ⟨54, 1, (Enc.encL y1.1).length, []⟩)], 5, 88, []⟩ : St)) (Sum.elim (fun (y2 : Unit) => (⟨[(2, .v (.one (.ptr 1 0))), (3, .v (.one (Wg 8)))], [(0, .cells 48 (Q6 a0)), (1, .cells 72 [Wf, .d (.v (.map none))])], [], 5, 88, []⟩ : St)) (fun (y3 : Unit) => (⟨[(2, .v (.one (.ptr 1 0))), (3, .v (.one (Wg 9)))], [(0, .cells 48 (Q6 a0)), (1, .cells 72 [Wf, .d (.v (.map none))])], [], 7, 88, []⟩ : St))))) (.inr q_)).nx⟩) hc4 h0 (fun y2 hc4 h0 => ?_) (fun y3 hc4 h0 => ?_))
 replace hc4 : CallM Try.prog 34 [.one (.osl 0 0 nn nn)] ⟨[(0, .cells 48 (Q6 a0))], [], 1⟩ (Qr [.agg [Wi 4 y1.1, .mp 2], .one (Wg 0)]) ⟨[(0, .cells 48 (Q6 a0)), (1, .cells 72 [Wi 4 y1.1, .mp 2]), (2, .mp (QJ y1.2.1) y1.2.2)], [(4, some ⟨54, 1, (Enc.encL y1.1).length, []⟩)], 5⟩ := hc4
 refine Q9 rfl rfl (W1 rfl) (QP rfl rfl rfl hc4 rfl (W8 rfl W7) W3) <| XR rfl rfl rfl <| XP rfl rfl rfl (Qe rfl rfl) <| XP rfl rfl rfl (Qe rfl rfl) <| Q9 rfl rfl (W1 rfl) (Ql YJ rfl) <| QA rfl rfl (Qi J2 rfl rfl rfl rfl (W1 rfl) rfl) <| XS rfl rfl rfl <| Q3 <| Q1 <| Q2 <| Q2 <| Q0 <| XR rfl rfl rfl <| XP rfl rfl rfl (Q4 rfl rfl rfl) ?_
 refine Q3 <| Q1 ?_
 refine Qg rfl (fun h => nomatch h) (fun _ => ?_)
 refine Qj <| Q1 <| Q2 ?_
 refine JZ [5] [] mixed (by kernel_rfl) (by kernel_rfl) (by kernel_rfl) ?_
 refine RunA.rd rfl rfl rfl (Q5 (Qz J2 rfl rfl rfl rfl)) rfl <| RunA.rd rfl rfl rfl (Q5 (Q8 JA rfl)) rfl <| RunA.rd rfl rfl rfl (Q5 (Q7 JV rfl rfl rfl)) rfl ?_
 refine Qb h0 (fun x32 hx32 h0 => ?_)
 refine RunA.rd rfl rfl rfl (Qt (m36_ok y1.1 x32 hx32) rfl (.cons (.one (.app _ _ _)) .nil)) rfl <| RunA.rd rfl rfl rfl (Q5 (QV rfl)) rfl ?_
 refine Qb h0 (fun y36 h1 h0 => ?_)
 have hc35 : CallM Try.prog 35 [.agg [Wi 4 y1.1, .mp 2], .one (We x32), .one (We a1)] ⟨[(0, .cells 48 (Q6 a0)), (1, .cells 72 [Wi 4 y1.1, .mp 2]), (2, .mp (QJ y1.2.1) y1.2.2), (5, .cells 72 [Wi 4 y1.1, .mp 2])], [(4, some ⟨54, 1, (Enc.encL y1.1).length, []⟩)], 6⟩ (Qr (((Sum.elim (fun (y33 : Unit) => ([.one (Wf), .one (Wg 9)] : List AV)) (fun (y34 : (List Bool)) => ([.one (.osl 8 0 ((x32.length : Int).toNat) ((x32.length : Int).toNat)), .one (Wg 0)] : List AV)))) y36)) ⟨(((Sum.elim (fun (y33 : Unit) => (⟨[(6, .v (.one (Wf))), (7, .v (.one (Wg 9)))], [(0, .cells 48 (Q6 a0)), (1, .cells 72 [Wi 4 y1.1, .mp 2]), (2, .mp (QJ y1.2.1) y1.2.2), (5, .cells 72 [Wi 4 y1.1, .mp 2])], [(4, some ⟨54, 1, (Enc.encL y1.1).length, []⟩)], 11, 38, []⟩ : St)) (fun (y34 : (List Bool)) => (⟨[(6, .v (.one (.osl 8 0 ((x32.length : Int).toNat) ((x32.length : Int).toNat)))), (7, .v (.one (Wg 0)))], [(0, .cells 48 (Q6 a0)), (1, .cells 72 [Wi 4 y1.1, .mp 2]), (2, .mp (QJ y1.2.1) y1.2.2), (5, .cells 72 [Wi 4 y1.1, .mp 2]), (8, .cells 4 (Q6 y34))], [(4, some ⟨54, 1, (Enc.encL y1.1).length, []⟩)], 11, 38, []⟩ : St)))) y36).hp, (((Sum.elim (fun (y33 : Unit) => (⟨[(6, .v (.one (Wf))), (7, .v (.one (Wg 9)))], [(0, .cells 48 (Q6 a0)), (1, .cells 72 [Wi 4 y1.1, .mp 2]), (2, .mp (QJ y1.2.1) y1.2.2), (5, .cells 72 [Wi 4 y1.1, .mp 2])], [(4, some ⟨54, 1, (Enc.encL y1.1).length, []⟩)], 11, 38, []⟩ : St)) (fun (y34 : (List Bool)) => (⟨[(6, .v (.one (.osl 8 0 ((x32.length : Int).toNat) ((x32.length : Int).toNat)))), (7, .v (.one (Wg 0)))], [(0, .cells 48 (Q6 a0)), (1, .cells 72 [Wi 4 y1.1, .mp 2]), (2, .mp (QJ y1.2.1) y1.2.2), (5, .cells 72 [Wi 4 y1.1, .mp 2]), (8, .cells 4 (Q6 y34))], [(4, some ⟨54, 1, (Enc.encL y1.1).length, []⟩)], 11, 38, []⟩ : St)))) y36).tk, (((Sum.elim (fun (y33 : Unit) => (⟨[(6, .v (.one (Wf))), (7, .v (.one (Wg 9)))], [(0, .cells 48 (Q6 a0)), (1, .cells 72 [Wi 4 y1.1, .mp 2]), (2, .mp (QJ y1.2.1) y1.2.2), (5, .cells 72 [Wi 4 y1.1, .mp 2])], [(4, some ⟨54, 1, (Enc.encL y1.1).length, []⟩)], 11, 38, []⟩ : St)) (fun (y34 : (List Bool)) => (⟨[(6, .v (.one (.osl 8 0 ((x32.length : Int).toNat) ((x32.length : Int).toNat)))), (7, .v (.one (Wg 0)))], [(0, .cells 48 (Q6 a0)), (1, .cells 72 [Wi 4 y1.1, .mp 2]), (2, .mp (QJ y1.2.1) y1.2.2), (5, .cells 72 [Wi 4 y1.1, .mp 2]), (8, .cells 4 (Q6 y34))], [(4, some ⟨54, 1, (Enc.encL y1.1).length, []⟩)], 11, 38, []⟩ : St)))) y36).nx⟩ := by
  refine JC y36 ((Sum.elim (fun (y33 : Unit) => (⟨[(6, .v (.one (Wf))), (7, .v (.one (Wg 9)))], [(0, .cells 48 (Q6 a0)), (1, .cells 72 [Wi 4 y1.1, .mp 2]), (2, .mp (QJ y1.2.1) y1.2.2), (5, .cells 72 [Wi 4 y1.1, .mp 2])], [(4, some ⟨54, 1, (Enc.encL y1.1).length, []⟩)], 11, 38, []⟩ : St)) (fun (y34 : (List Bool)) => (⟨[(6, .v (.one (.osl 8 0 ((x32.length : Int).toNat) ((x32.length : Int).toNat)))), (7, .v (.one (Wg 0)))], [(0, .cells 48 (Q6 a0)), (1, .cells 72 [Wi 4 y1.1, .mp 2]), (2, .mp (QJ y1.2.1) y1.2.2), (5, .cells 72 [Wi 4 y1.1, .mp 2]), (8, .cells 4 (Q6 y34))], [(4, some ⟨54, 1, (Enc.encL y1.1).length, []⟩)], 11, 38, []⟩ : St)))) ((Sum.elim (fun (y33 : Unit) => ([.one (Wf), .one (Wg 9)] : List AV)) (fun (y34 : (List Bool)) => ([.one (.osl 8 0 ((x32.length : Int).toNat) ((x32.length : Int).toNat)), .one (Wg 0)] : List AV)))) rfl rfl en_35 (W1 rfl) (fun z_ => by cases z_ <;> rfl) (fun z_ => by cases z_ with
    | inl _ => exact (Qp rfl (Qp rfl .nil))
    | inr _ => exact (Qp rfl (Qp rfl .nil))) (fun w0 M V0 Q hv1 hQ1 => ?_)
  simp only [Jc]
  refine Q2 <| Q0 <| Q9 rfl rfl (W1 rfl) (Js rfl) <| Q9 rfl rfl (W1 rfl) (Js rfl) <| XS rfl rfl rfl <| XS rfl rfl rfl <| Q3 <| Q1 <| Q2 <| Q0 <| XP rfl rfl rfl (Q7 JV rfl rfl rfl) <| XP rfl rfl rfl (Qy (α := List Int) Y3 rfl (.d _)) ?_
  refine QO h1 (fun g37 h1 => ?_)
  refine Q9 rfl rfl (W1 rfl) (Zx (α := Bool) (z := false) Z6 XH rfl rfl Xs rfl rfl g37 rfl (by repeat (first | exact CLs.nil | refine CLs.cons (by first | exact .refl _ | exact .sub (.app _ _ _) | exact .sub (.nil _)) ?_))) ?_
  refine Q9 rfl rfl (W1 rfl) (Ql Xg rfl) <| QA rfl rfl (Qi Z7 rfl rfl rfl rfl (W1 rfl) rfl) <| Q3 <| Q1 <| Q2 <| Q0 <| Q9 rfl rfl (W1 rfl) (Ql z_106 rfl) <| Q3 <| Q1 <| Q2 <| Q0 <| XP rfl rfl rfl (YP rfl rfl rfl) <| QA rfl rfl (Qi ZG rfl rfl rfl rfl (W1 rfl) rfl) <| Q3 ?_
  refine Q1 <| Q2 <| Q2 <| Q0 <| XR rfl rfl rfl <| XP rfl rfl rfl (Qy (α := Wy) QQ rfl (.d _)) <| XR rfl rfl rfl <| Q3 <| Q1 <| Qd ?_
  refine QI 0 (fun (o38 : (List Bool)) => ⟨[(8, .v (.one (.ptr 9 0)))], [(0, .cells 48 (Q6 a0)), (1, .cells 72 [Wi 4 y1.1, .mp 2]), (2, .mp (QJ y1.2.1) y1.2.2), (5, .cells 72 [Wi 4 y1.1, .mp 2]), (6, .cells 72 [Wi 4 y1.1, .mp 2]), (7, .cells 57 [We x32]), (8, .cells 4 (Q6 o38)), (9, .cells 75 [.osl 8 0 ((x32.length : Int).toNat) ((x32.length : Int).toNat)]), (10, .cells 106 [.fn 56 [(9, 0), (7, 0), (10, 0)]])], [(4, some ⟨54, 1, (Enc.encL y1.1).length, []⟩)], 11, 38, []⟩) (fun (o38 : (List Bool)) => (some (.inr o38)) = some y36) ?_ ?_
  refine Qb h1 (fun o39 hl2 h1 => ?_)
  refine QH (m12o_l4 a1 y1 x32) (fun s2 => ⟨[(3, .v (.one (.ptr 6 0))), (8, .v (.one (.ptr 9 0))), (9, .v (.one (.ptr 10 0))), (18, .v (.one (We a1))), (19, .v (.one (Wg (a1.length : Int)))), (20, .v (.one (Wg s2.1)))], [(0, .cells 48 (Q6 a0)), (1, .cells 72 [Wi 4 y1.1, .mp 2]), (2, .mp (QJ y1.2.1) y1.2.2), (5, .cells 72 [Wi 4 y1.1, .mp 2]), (6, .cells 72 [Wi 4 y1.1, .mp 2]), (7, .cells 57 [We x32]), (8, .cells 4 (Q6 s2.2)), (9, .cells 75 [.osl 8 0 ((x32.length : Int).toNat) ((x32.length : Int).toNat)]), (10, .cells 106 [.fn 56 [(9, 0), (7, 0), (10, 0)]])], [(4, some ⟨54, 1, (Enc.encL y1.1).length, []⟩)], 11, 38, []⟩) (0, (List.replicate (x32.length : Int).toNat false)) o39 (Qh (XK rfl (XK rfl (XK rfl (XK rfl (XK rfl (XK rfl XJ)))))) (W8 rfl (W8 rfl (W8 rfl (W8 rfl (W8 rfl (W8 rfl (W8 rfl (W8 rfl (W8 rfl W7))))))))) (W4 rfl W3) rfl (Nat.le_trans hv1 (W1 rfl)) rfl rfl rfl (Wo rfl (Wp rfl rfl (Wn rfl (Wp rfl rfl (Wp rfl rfl (Wp rfl rfl (Wo rfl (Wp rfl rfl (Wp rfl rfl Wm))))))))) rfl rfl) hl2 (fun s2 n2 oo2 h2 ho2 => ?_)
  unfold m12o_l4 at h2
  refine Q2 <| Q0 <| XP rfl rfl rfl (Q4 rfl rfl rfl) <| Q3 <| Q1 <| Q2 ?_
  refine Qg (b := (decide (s2.1 < (a1.length : Int)))) rfl (fun c40 => ?_) (fun c40 => ?_)
  replace h2 := Qu c40 h2
  refine Qj <| Q1 <| Q2 <| Qd <| Q2 <| Q0 ?_
  refine Qb h2 (fun x41 hx41 h2 => ?_)
  refine XP rfl rfl rfl (Qq (α := Wy) QQ rfl (.d _) rfl hx41) <| XP rfl rfl rfl (QK Y6 rfl rfl) <| XS rfl rfl rfl <| Q3 <| Q1 <| Q2 <| Q0 <| XP rfl rfl rfl (Q8 JJ rfl) <| XP rfl rfl rfl (Q7 Yw rfl rfl rfl) <| XR rfl rfl rfl <| XP rfl rfl rfl (Jo (M := y1.2) (k := x41) Yv Yb rfl rfl rfl) <| XR rfl rfl rfl <| XP rfl rfl rfl (Qe rfl rfl) <| XP rfl rfl rfl (Qe rfl rfl) ?_
  refine XS rfl rfl rfl <| XS rfl rfl rfl <| Q3 <| Q1 <| Q2 <| Q2 <| Q0 <| XR rfl rfl rfl <| XP rfl rfl rfl (Jp rfl) <| Q3 <| Q1 ?_
  refine Qg (b := (!(Jr y1.2 x41))) rfl (fun c42 => ?_) (fun c42 => ?_)
  replace h2 := Qu c42 h2
  refine Q2 <| Q0 <| XS rfl rfl rfl <| XS rfl rfl rfl <| Q3 <| Q1 <| Qw ?_
  have e := XN h2; subst e
  have e_ : _ = _ := ho2
  subst e_
  try dsimp only [Sum.elim_inl, Sum.elim_inr] at h1
  have e := XN h1; subst e
  exact hQ1 _ _ _ (.inr rfl) rfl (show StLe _ _ ⟨[(6, .v (.one (Wf))), (7, .v (.one (Wg 9)))], [(0, .cells 48 (Q6 a0)), (1, .cells 72 [Wi 4 y1.1, .mp 2]), (2, .mp (QJ y1.2.1) y1.2.2), (5, .cells 72 [Wi 4 y1.1, .mp 2])], [(4, some ⟨54, 1, (Enc.encL y1.1).length, []⟩)], 11, 38, []⟩ from (Qh (XK rfl (XK rfl XJ)) (W8 rfl (W8 rfl (W8 rfl (W8 rfl W7)))) (W4 rfl W3) rfl (Nat.le_trans hv1 (W1 rfl)) rfl rfl rfl (Wo rfl (Wp rfl rfl (Wn rfl (Wp rfl rfl Wm)))) rfl rfl))
  replace h2 := Qv c42 h2
  refine Qj <| Q1 <| Q0 <| XP rfl rfl rfl (Q7 ZG rfl rfl rfl) <| XR rfl rfl rfl ?_
  refine Qb h2 (fun x43 hx43 h2 => ?_)
  refine Q9 rfl rfl (W1 rfl) (QS (hp1' := [(9, .cells 75 [.osl 8 0 ((x32.length : Int).toNat) ((x32.length : Int).toNat)]), (8, .cells 4 (Q6 x43)), (7, .cells 57 [We x32]), (10, .cells 106 [.fn 56 [(9, 0), (7, 0), (10, 0)]])]) (tk1' := []) (hpF := [(0, .cells 48 (Q6 a0)), (1, .cells 72 [Wi 4 y1.1, .mp 2]), (2, .mp (QJ y1.2.1) y1.2.2), (5, .cells 72 [Wi 4 y1.1, .mp 2]), (6, .cells 72 [Wi 4 y1.1, .mp 2])]) (tkF := [(4, some ⟨54, 1, (Enc.encL y1.1).length, []⟩)]) (res2 := Qr []) (nx2 := 11) [9, 8, 7, 10] rfl rfl (m56f12_ok (J7 y1.2 x41) ((x32.length : Int).toNat) s2.2 x32 x43 hx43) rfl rfl (XW rfl rfl (XV rfl (XW rfl rfl (XW rfl rfl XT)))) rfl rfl (Wb rfl (Wd rfl (Wb rfl (Wb rfl Wa)))) W5 (W8 rfl (W8 rfl (W8 rfl (W8 rfl (W8 rfl W7))))) (W4 rfl W3) rfl rfl rfl rfl rfl (Wp rfl rfl (Wo rfl (Wp rfl rfl (Wp rfl rfl Wm)))) rfl rfl rfl rfl) <| Q3 <| Qk <| Q1 <| Q0 <| XP rfl rfl rfl (Q4 rfl rfl rfl) <| XR rfl rfl rfl <| Q3 ?_
  have e := XN h2; subst e
  refine QD ((QW (s2.1 + 1)), x43) (Qh (XK rfl (XK rfl (XK rfl (XK rfl (XK rfl (XK rfl XJ)))))) (W8 rfl (W8 rfl (W8 rfl (W8 rfl (W8 rfl (W8 rfl (W8 rfl (W8 rfl (W8 rfl W7))))))))) (W4 rfl W3) rfl (Nat.le_trans hv1 (W1 rfl)) rfl rfl rfl (Wo rfl (Wp rfl rfl (Wn rfl (Wp rfl rfl (Wp rfl rfl (Wp rfl rfl (Wo rfl (Wp rfl rfl (Wp rfl rfl Wm))))))))) rfl rfl) ho2
  replace h2 := Qv c40 h2
  refine QN <| Qf <| Qf ?_
  have e := XN h2; subst e
  have e_ : _ = _ := ho2
  subst e_
  exact QF s2.2 (Qh (XK rfl XJ) (W8 rfl (W8 rfl (W8 rfl (W8 rfl (W8 rfl (W8 rfl (W8 rfl (W8 rfl (W8 rfl W7))))))))) (W4 rfl W3) rfl (Nat.le_trans hv1 (W1 rfl)) rfl rfl rfl (Wo rfl (Wp rfl rfl (Wn rfl (Wp rfl rfl (Wp rfl rfl (Wp rfl rfl (Wo rfl (Wp rfl rfl (Wp rfl rfl Wm))))))))) rfl rfl) h1
  intro o38 h1
  refine Qx <| Q1 <| Q2 <| Q0 <| XP rfl rfl rfl (Q7 Z7 rfl rfl rfl) <| XS rfl rfl rfl <| XS rfl rfl rfl <| Q3 <| Q1 <| Qw ?_
  have e := XN h1; subst e
  exact hQ1 _ _ _ (.inr rfl) rfl (show StLe _ _ ⟨[(6, .v (.one (.osl 8 0 ((x32.length : Int).toNat) ((x32.length : Int).toNat)))), (7, .v (.one (Wg 0)))], [(0, .cells 48 (Q6 a0)), (1, .cells 72 [Wi 4 y1.1, .mp 2]), (2, .mp (QJ y1.2.1) y1.2.2), (5, .cells 72 [Wi 4 y1.1, .mp 2]), (8, .cells 4 (Q6 o38))], [(4, some ⟨54, 1, (Enc.encL y1.1).length, []⟩)], 11, 38, []⟩ from (Qh (XK rfl (XK rfl XJ)) (W8 rfl (W8 rfl (W8 rfl (W8 rfl (W8 rfl W7))))) (W4 rfl W3) rfl (Nat.le_trans hv1 (W1 rfl)) rfl rfl rfl (Wo rfl (Wp rfl rfl (Wn rfl (Wp rfl rfl (Wo rfl Wm))))) rfl rfl))
 refine KA (C := fun q_ => CallM Try.prog 35 [.agg [Wi 4 y1.1, .mp 2], .one (We x32), .one (We a1)] ⟨[(0, .cells 48 (Q6 a0)), (1, .cells 72 [Wi 4 y1.1, .mp 2]), (2, .mp (QJ y1.2.1) y1.2.2), (5, .cells 72 [Wi 4 y1.1, .mp 2])], [(4, some ⟨54, 1, (Enc.encL y1.1).length, []⟩)], 6⟩ (Qr (((Sum.elim (fun (y33 : Unit) => ([.one (Wf), .one (Wg 9)] : List AV)) (fun (y34 : (List Bool)) => ([.one (.osl 8 0 ((x32.length : Int).toNat) ((x32.length : Int).toNat)), .one (Wg 0)] : List AV)))) q_)) ⟨(((Sum.elim (fun (y33 : Unit) => (⟨[(6, .v (.one (Wf))), (7, .v (.one (Wg 9)))], [(0, .cells 48 (Q6 a0)), (1, .cells 72 [Wi 4 y1.1, .mp 2]), (2, .mp (QJ y1.2.1) y1.2.2), (5, .cells 72 [Wi 4 y1.1, .mp 2])], [(4, some ⟨54, 1, (Enc.encL y1.1).length, []⟩)], 11, 38, []⟩ : St)) (fun (y34 : (List Bool)) => (⟨[(6, .v (.one (.osl 8 0 ((x32.length : Int).toNat) ((x32.length : Int).toNat)))), (7, .v (.one (Wg 0)))], [(0, .cells 48 (Q6 a0)), (1, .cells 72 [Wi 4 y1.1, .mp 2]), (2, .mp (QJ y1.2.1) y1.2.2), (5, .cells 72 [Wi 4 y1.1, .mp 2]), (8, .cells 4 (Q6 y34))], [(4, some ⟨54, 1, (Enc.encL y1.1).length, []⟩)], 11, 38, []⟩ : St)))) q_).hp, (((Sum.elim (fun (y33 : Unit) => (⟨[(6, .v (.one (Wf))), (7, .v (.one (Wg 9)))], [(0, .cells 48 (Q6 a0)), (1, .cells 72 [Wi 4 y1.1, .mp 2]), (2, .mp (QJ y1.2.1) y1.2.2), (5, .cells 72 [Wi 4 y1.1, .mp 2])], [(4, some ⟨54, 1, (Enc.encL y1.1).length, []⟩)], 11, 38, []⟩ : St)) (fun (y34 : (List Bool)) => (⟨[(6, .v (.one (.osl 8 0 ((x32.length : Int).toNat) ((x32.length : Int).toNat)))), (7, .v (.one (Wg 0)))], [(0, .cells 48 (Q6 a0)), (1, .cells 72 [Wi 4 y1.1, .mp 2]), (2, .mp (QJ y1.2.1) y1.2.2), (5, .cells 72 [Wi 4 y1.1, .mp 2]), (8, .cells 4 (Q6 y34))], [(4, some ⟨54, 1, (Enc.encL y1.1).length, []⟩)], 11, 38, []⟩ : St)))) q_).tk, (((Sum.elim (fun (y33 : Unit) => (⟨[(6, .v (.one (Wf))), (7, .v (.one (Wg 9)))], [(0, .cells 48 (Q6 a0)), (1, .cells 72 [Wi 4 y1.1, .mp 2]), (2, .mp (QJ y1.2.1) y1.2.2), (5, .cells 72 [Wi 4 y1.1, .mp 2])], [(4, some ⟨54, 1, (Enc.encL y1.1).length, []⟩)], 11, 38, []⟩ : St)) (fun (y34 : (List Bool)) => (⟨[(6, .v (.one (.osl 8 0 ((x32.length : Int).toNat) ((x32.length : Int).toNat)))), (7, .v (.one (Wg 0)))], [(0, .cells 48 (Q6 a0)), (1, .cells 72 [Wi 4 y1.1, .mp 2]), (2, .mp (QJ y1.2.1) y1.2.2), (5, .cells 72 [Wi 4 y1.1, .mp 2]), (8, .cells 4 (Q6 y34))], [(4, some ⟨54, 1, (Enc.encL y1.1).length, []⟩)], 11, 38, []⟩ : St)))) q_).nx⟩) hc35 h0 (fun y33 hc35 h0 => ?_) (fun y34 hc35 h0 => ?_)
 replace hc35 : CallM Try.prog 35 [.agg [Wi 4 y1.1, .mp 2], .one (We x32), .one (We a1)] ⟨[(0, .cells 48 (Q6 a0)), (1, .cells 72 [Wi 4 y1.1, .mp 2]), (2, .mp (QJ y1.2.1) y1.2.2), (5, .cells 72 [Wi 4 y1.1, .mp 2])], [(4, some ⟨54, 1, (Enc.encL y1.1).length, []⟩)], 6⟩ (Qr [.one (Wf), .one (Wg 9)]) ⟨[(0, .cells 48 (Q6 a0)), (1, .cells 72 [Wi 4 y1.1, .mp 2]), (2, .mp (QJ y1.2.1) y1.2.2), (5, .cells 72 [Wi 4 y1.1, .mp 2])], [(4, some ⟨54, 1, (Enc.encL y1.1).length, []⟩)], 11⟩ := hc35
 refine RunA.eff rfl rfl rfl (QP rfl rfl rfl hc35 rfl (W8 rfl (W8 rfl (W8 rfl (W8 rfl W7)))) (W4 rfl W3)) rfl <| RunA.rd rfl rfl rfl (Q5 (QV rfl)) rfl <| RunA.rd rfl rfl rfl (Q5 (Qe rfl rfl)) rfl <| RunA.rd rfl rfl rfl (Q5 (Qe rfl rfl)) rfl <| RunA.rd rfl rfl rfl (Q5 (Yg rfl)) rfl <| RunA.rd rfl rfl rfl (Q5 (Yg rfl)) rfl ?_
 refine RunA.nil ⟨?ex, _, _, rfl, ?_⟩
 case ex => exact trivial
 refine JT (st' := ⟨[(0, .v (.one (.osl 0 0 nn nn))), (7, .v (.one (Wg 9))), (8, .v (.one (Wf)))], [(0, .cells 48 (Q6 a0)), (1, .cells 72 [Wi 4 y1.1, .mp 2]), (2, .mp (QJ y1.2.1) y1.2.2), (5, .cells 72 [Wi 4 y1.1, .mp 2])], [(4, some ⟨54, 1, (Enc.encL y1.1).length, []⟩)], 11, 49, []⟩) (Qh (XK rfl (XK rfl (XK rfl XJ))) (W8 rfl (W8 rfl (W8 rfl (W8 rfl W7)))) (W4 rfl W3) rfl (Nat.le_trans hv0 (W1 rfl)) rfl rfl rfl (Wo rfl (Wp rfl rfl (Wn rfl (Wp rfl rfl Wm)))) rfl rfl) <| Q1 <| Q2 <| Q2 <| Q0 <| XR rfl rfl rfl <| XP rfl rfl rfl (Q4 rfl rfl rfl) <| Q3 <| Q1 ?_
 refine Qg rfl (fun _ => ?_) (fun h => nomatch h)
 refine Q2 <| Q0 <| XR rfl rfl rfl <| XS rfl rfl rfl <| XS rfl rfl rfl <| Q3 <| Q1 <| Qw ?_
 have e := XN h0; subst e
 exact hQ0 _ _ _ (.inr rfl) rfl (Qh (XM rfl (.sub (.nil _)) (XK rfl XJ)) (W8 rfl W7) W3 rfl (Nat.le_trans hv0 (W1 rfl)) rfl rfl rfl (Wo rfl Wm) rfl rfl)
 replace hc35 : CallM Try.prog 35 [.agg [Wi 4 y1.1, .mp 2], .one (We x32), .one (We a1)] ⟨[(0, .cells 48 (Q6 a0)), (1, .cells 72 [Wi 4 y1.1, .mp 2]), (2, .mp (QJ y1.2.1) y1.2.2), (5, .cells 72 [Wi 4 y1.1, .mp 2])], [(4, some ⟨54, 1, (Enc.encL y1.1).length, []⟩)], 6⟩ (Qr [.one (.osl 8 0 ((x32.length : Int).toNat) ((x32.length : Int).toNat)), .one (Wg 0)]) ⟨[(0, .cells 48 (Q6 a0)), (1, .cells 72 [Wi 4 y1.1, .mp 2]), (2, .mp (QJ y1.2.1) y1.2.2), (5, .cells 72 [Wi 4 y1.1, .mp 2]), (8, .cells 4 (Q6 y34))], [(4, some ⟨54, 1, (Enc.encL y1.1).length, []⟩)], 11⟩ := hc35
 refine RunA.eff rfl rfl rfl (QP rfl rfl rfl hc35 rfl (W8 rfl (W8 rfl (W8 rfl (W8 rfl W7)))) (W4 rfl W3)) rfl <| RunA.rd rfl rfl rfl (Q5 (QV rfl)) rfl <| RunA.rd rfl rfl rfl (Q5 (Qe rfl rfl)) rfl <| RunA.rd rfl rfl rfl (Q5 (Qe rfl rfl)) rfl <| RunA.rd rfl rfl rfl (Q5 (Yg rfl)) rfl <| RunA.rd rfl rfl rfl (Q5 (Yg rfl)) rfl ?_
 refine RunA.nil ⟨?ex, _, _, rfl, ?_⟩
 case ex => exact trivial
 refine JT (st' := ⟨[(0, .v (.one (.osl 0 0 nn nn))), (7, .v (.one (Wg 0))), (8, .v (.one (.osl 8 0 ((x32.length : Int).toNat) ((x32.length : Int).toNat))))], [(0, .cells 48 (Q6 a0)), (1, .cells 72 [Wi 4 y1.1, .mp 2]), (2, .mp (QJ y1.2.1) y1.2.2), (5, .cells 72 [Wi 4 y1.1, .mp 2]), (8, .cells 4 (Q6 y34))], [(4, some ⟨54, 1, (Enc.encL y1.1).length, []⟩)], 11, 49, []⟩) (Qh (XK rfl (XK rfl (XK rfl XJ))) (W8 rfl (W8 rfl (W8 rfl (W8 rfl (W8 rfl W7))))) (W4 rfl W3) rfl (Nat.le_trans hv0 (W1 rfl)) rfl rfl rfl (Wo rfl (Wp rfl rfl (Wn rfl (Wp rfl rfl (Wo rfl Wm))))) rfl rfl) <| Q1 <| Q2 <| Q2 <| Q0 <| XR rfl rfl rfl <| XP rfl rfl rfl (Q4 rfl rfl rfl) <| Q3 <| Q1 ?_
 refine Qg rfl (fun h => nomatch h) (fun _ => ?_)
 refine Qj <| Q1 <| Q2 <| Q0 <| XS rfl rfl rfl <| Q3 <| Q1 <| Q2 <| Q2 <| Q0 <| XR rfl rfl rfl <| XP rfl rfl rfl (Y7 J5 rfl) <| XR rfl rfl rfl <| Q3 ?_
 refine Q1 <| Qd ?_
 refine QI 0 (fun (o44 : (List Wy)) => ⟨[(9, .v (.one (Wi 11 o44)))], [(0, .cells 48 (Q6 a0)), (1, .cells 72 [Wi 4 y1.1, .mp 2]), (2, .mp (QJ y1.2.1) y1.2.2), (5, .cells 72 [Wi 4 y1.1, .mp 2]), (8, .cells 4 (Q6 y34))], [(4, some ⟨54, 1, (Enc.encL y1.1).length, []⟩), (11, some ⟨9, 1, (Enc.encL o44).length, []⟩)], 12, 49, []⟩) (fun (o44 : (List Wy)) => (some (o44, 0)) = some r) ?_ ?_
 refine Y0 (t := 9) 9 1 rfl ?_
 refine Qb h0 (fun o45 hl1 h0 => ?_)
 refine QH (m12o_l5 nn a0 y34 x32) (fun s1 => ⟨[(8, .v (.one (.osl 8 0 ((x32.length : Int).toNat) ((x32.length : Int).toNat)))), (9, .v (.one (Wi 11 s1.1))), (32, .v (.one (.osl 0 0 nn nn))), (33, .v (.one (Wg ((nn : Nat) : Int)))), (34, .v (.one (Wg s1.2)))], [(0, .cells 48 (Q6 a0)), (1, .cells 72 [Wi 4 y1.1, .mp 2]), (2, .mp (QJ y1.2.1) y1.2.2), (5, .cells 72 [Wi 4 y1.1, .mp 2]), (8, .cells 4 (Q6 y34))], [(4, some ⟨54, 1, (Enc.encL y1.1).length, []⟩), (11, some ⟨9, 1, (Enc.encL s1.1).length, []⟩)], 12, 49, []⟩) (([] : List Wy), 0) o45 (Qh (XK rfl (XK rfl (XK rfl (XK rfl (XK rfl XJ))))) (W8 rfl (W8 rfl (W8 rfl (W8 rfl (W8 rfl W7))))) (W4 rfl (W4 rfl W3)) rfl (Nat.le_trans hv0 (W1 rfl)) rfl rfl rfl (Wo rfl (Wp rfl rfl (Wn rfl (Wp rfl rfl (Wo rfl Wm))))) rfl rfl) hl1 (fun s1 n1 oo1 h1 ho1 => ?_)
 unfold m12o_l5 at h1
 refine Q2 <| Q0 <| XP rfl rfl rfl (Q4 rfl rfl rfl) <| Q3 <| Q1 <| Q2 ?_
 refine Qg (b := (decide (s1.2 < ((nn : Nat) : Int)))) rfl (fun c46 => ?_) (fun c46 => ?_)
 replace h1 := Qu c46 h1
 refine Qj <| Q1 <| Q2 <| Qd <| Q2 <| Q0 <| XR rfl rfl rfl ?_
 refine Qb h1 (fun x47 hx47 h1 => ?_)
 refine QO h1 (fun g48 h1 => ?_)
 refine XP rfl rfl rfl (Jk (α := Dcl) J5 rfl rfl hx47 g48) <| XP rfl rfl rfl (Yq (α := Dcl) (ys := [Wg x47.kind, YK x47.name, Wg x47.params, Wg x47.ty.kind, Wg x47.ty.index, YK x47.ty.name, We x47.ty.levels, We x47.ty.kids, Wg x47.value.kind, Wg x47.value.index, YK x47.value.name, We x47.value.levels, We x47.value.kids, Wg x47.fixed, We x47.ctors, Wg x47.rcr.params, Wg x47.rcr.ty.kind, Wg x47.rcr.ty.index, YK x47.rcr.ty.name, We x47.rcr.ty.levels, We x47.rcr.ty.kids, We x47.rcr.rules, We x47.funs]) J3 rfl rfl hx47 rfl) <| Q9 rfl rfl (W1 rfl) (Ql Z8 rfl) <| XS rfl rfl rfl <| QA rfl rfl (Jb (x47 : Dcl) J3 rfl rfl rfl rfl rfl) <| Q3 <| Q1 <| Q2 <| Q0 <| XR rfl rfl rfl <| XR rfl rfl rfl ?_
 refine Qb h1 (fun x49 hx49 h1 => ?_)
 refine QO h1 (fun g50 h1 => ?_)
 refine XP rfl rfl rfl (Jk (α := Bool) Z6 rfl rfl hx49 g50) <| XP rfl rfl rfl (YI (α := Bool) (m := s1.2) (f := 0) Gv rfl rfl hx49 rfl) <| Q3 <| Q1 ?_
 refine Qg (b := x49) rfl (fun c51 => ?_) (fun c51 => ?_)
 replace h1 := Qu c51 h1
 refine Q0 <| XR rfl rfl rfl <| XP rfl rfl rfl (Jj (x47 : Dcl) J3 rfl rfl) ?_
 refine Qb h1 (fun x52 hx52 h1 => ?_)
 refine Q9 rfl rfl (W1 rfl) (Qt (K5 x47 x52 hx52) rfl (.cons (.agg (.cons (.d _) (.cons (.d _) (.cons (.d _) (.cons (.d _) (.cons (.d _) (.cons (.d _) (.cons (.d _) (.cons (.d _) (.cons (.d _) (.cons (.d _) (.cons (.d _) (.cons (.d _) (.cons (.d _) (.cons (.d _) (.cons (.d _) (.cons (.d _) (.cons (.d _) (.cons (.d _) (.cons (.d _) (.cons (.d _) (.cons (.d _) (.cons (.d _) (.cons (.d _) .nil)))))))))))))))))))))))) .nil)) ?_
 refine QO h1 (fun g53 h1 => ?_)
 refine Q9 rfl rfl (W1 rfl) (QU (α := Wy) QQ G7 rfl rfl rfl rfl rfl (.d _) g53) <| XS rfl rfl rfl <| Q3 <| Qk <| Q1 <| Q0 <| XP rfl rfl rfl (Q4 rfl rfl rfl) <| XR rfl rfl rfl <| Q3 ?_
 have e := XN h1; subst e
 refine QD ((s1.1 ++ x52), (QW (s1.2 + 1))) (Qh (XK rfl (XK rfl (XK rfl (XK rfl (XK rfl XJ))))) (W8 rfl (W8 rfl (W8 rfl (W8 rfl (W8 rfl W7))))) (W4 rfl (W4 rfl W3)) rfl (Nat.le_trans hv0 (W1 rfl)) rfl rfl rfl (Wo rfl (Wp rfl rfl (Wn rfl (Wp rfl rfl (Wo rfl Wm))))) rfl rfl) ho1
 replace h1 := Qv c51 h1
 refine Qj <| Qk <| Q1 <| Q0 <| XP rfl rfl rfl (Q4 rfl rfl rfl) <| XR rfl rfl rfl <| Q3 ?_
 have e := XN h1; subst e
 refine QD (s1.1, (QW (s1.2 + 1))) (Qh (XK rfl (XK rfl (XK rfl (XK rfl (XK rfl XJ))))) (W8 rfl (W8 rfl (W8 rfl (W8 rfl (W8 rfl W7))))) (W4 rfl (W4 rfl W3)) rfl (Nat.le_trans hv0 (W1 rfl)) rfl rfl rfl (Wo rfl (Wp rfl rfl (Wn rfl (Wp rfl rfl (Wo rfl Wm))))) rfl rfl) ho1
 replace h1 := Qv c46 h1
 refine QN <| Qf <| Qf ?_
 have e := XN h1; subst e
 have e_ : _ = _ := ho1
 subst e_
 exact QF s1.1 (Qh (XK rfl XJ) (W8 rfl (W8 rfl (W8 rfl (W8 rfl (W8 rfl W7))))) (W4 rfl (W4 rfl W3)) rfl (Nat.le_trans hv0 (W1 rfl)) rfl rfl rfl (Wo rfl (Wp rfl rfl (Wn rfl (Wp rfl rfl (Wo rfl Wm))))) rfl rfl) h0
 intro o44 h0
 refine Qx <| Q1 <| Q2 <| Q0 <| XR rfl rfl rfl <| XS rfl rfl rfl <| XS rfl rfl rfl <| Q3 <| Q1 <| Qw ?_
 have e := XN h0; subst e
 exact hQ0 _ _ _ (.inr rfl) rfl (Qh (XM rfl (.sub (.app _ _ _)) (XK rfl XJ)) (W8 rfl W7) W3 rfl (Nat.le_trans hv0 (W1 rfl)) rfl rfl rfl (Wo rfl Wm) rfl rfl)
 replace hc4 : CallM Try.prog 34 [.one (.osl 0 0 nn nn)] ⟨[(0, .cells 48 (Q6 a0))], [], 1⟩ (Qr [.agg [Wf, .d (.v (.map none))], .one (Wg 8)]) ⟨[(0, .cells 48 (Q6 a0)), (1, .cells 72 [Wf, .d (.v (.map none))])], [], 5⟩ := hc4
 refine Q9 rfl rfl (W1 rfl) (QP rfl rfl rfl hc4 rfl (W8 rfl W7) W3) <| XR rfl rfl rfl <| XP rfl rfl rfl (Qe rfl rfl) <| XP rfl rfl rfl (Qe rfl rfl) <| Q9 rfl rfl (W1 rfl) (Ql YJ rfl) <| QA rfl rfl (Qi J2 rfl rfl rfl rfl (W1 rfl) rfl) <| XS rfl rfl rfl <| Q3 <| Q1 <| Q2 <| Q2 <| Q0 <| XR rfl rfl rfl <| XP rfl rfl rfl (Q4 rfl rfl rfl) ?_
 refine Q3 <| Q1 ?_
 refine Qg rfl (fun _ => ?_) (fun h => nomatch h)
 refine Q2 <| Q0 <| XR rfl rfl rfl <| XS rfl rfl rfl <| XS rfl rfl rfl <| Q3 <| Q1 <| Qw ?_
 have e := XN h0; subst e
 exact hQ0 _ _ _ (.inr rfl) rfl (Qh (XM rfl (.sub (.nil _)) (XK rfl XJ)) (W8 rfl W7) W3 rfl (Nat.le_trans hv0 (W1 rfl)) rfl rfl rfl (Wo rfl Wm) rfl rfl)
 replace hc4 : CallM Try.prog 34 [.one (.osl 0 0 nn nn)] ⟨[(0, .cells 48 (Q6 a0))], [], 1⟩ (Qr [.agg [Wf, .d (.v (.map none))], .one (Wg 9)]) ⟨[(0, .cells 48 (Q6 a0)), (1, .cells 72 [Wf, .d (.v (.map none))])], [], 7⟩ := hc4
 refine Q9 rfl rfl (W1 rfl) (QP rfl rfl rfl hc4 rfl (W8 rfl W7) W3) <| XR rfl rfl rfl <| XP rfl rfl rfl (Qe rfl rfl) <| XP rfl rfl rfl (Qe rfl rfl) <| Q9 rfl rfl (W1 rfl) (Ql YJ rfl) <| QA rfl rfl (Qi J2 rfl rfl rfl rfl (W1 rfl) rfl) <| XS rfl rfl rfl <| Q3 <| Q1 <| Q2 <| Q2 <| Q0 <| XR rfl rfl rfl <| XP rfl rfl rfl (Q4 rfl rfl rfl) ?_
 refine Q3 <| Q1 ?_
 refine Qg rfl (fun _ => ?_) (fun h => nomatch h)
 refine Q2 <| Q0 <| XR rfl rfl rfl <| XS rfl rfl rfl <| XS rfl rfl rfl <| Q3 <| Q1 <| Qw ?_
 have e := XN h0; subst e
 exact hQ0 _ _ _ (.inr rfl) rfl (Qh (XM rfl (.sub (.nil _)) (XK rfl XJ)) (W8 rfl W7) W3 rfl (Nat.le_trans hv0 (W1 rfl)) rfl rfl rfl (Wo rfl Wm) rfl rfl)
end Go.Proofs.Ytijcchddnnnmdaa
namespace Go.Proofs.Ytijcchddnnnmdaa
open Go.RowKit Go.Shelf
set_option linter.unusedSimpArgs false
set_option linter.unusedVariables false
theorem en_14 : J9 Try.prog 14 := enters_of Try.func14 (by kernel_rfl) rfl
def m14_l0 (a0 : List Wy) (a1 : List Wy) (s1 : Int) : Option (LO Int (Unit ⊕ Bool)) :=
 cond (decide (s1 < (a0.length : Int)))
   (Option.bind (J1 a0 s1) fun (x4 : Wy) =>
 Option.bind (J1 a1 s1) fun (x5 : Wy) =>
 cond (!(x4 == x5))
   (some (.done (.inr false)))
   (some (.next (QW (s1 + 1)))))
   (some (.done (.inl ())))
def XE (a0 : List Wy) (a1 : List Wy) : Option Bool :=
 cond ((a0.length : Int) != (a1.length : Int))
   (some false)
   (Option.bind (Qo (m14_l0 a0 a1) QB 0) (Sum.elim (fun (o2 : Unit) => some true) (fun o => some o)))
set_option maxRecDepth 100000 in
set_option maxHeartbeats 2000000 in
theorem m14_ok (a0 : List Wy) (a1 : List Wy) (r : Bool) (h0 : XE a0 a1 = some r) : Fun Try.prog 14 [.one (We a0), .one (We a1)] (Qr [.one (Wh r)]) := by
 unfold XE at h0
 refine Jd 9 26 Try.func14 rfl en_14 rfl (W1 rfl) (fun S w => ?_)
 simp only [Jc]
 refine Q2 <| Q0 <| XS rfl rfl rfl <| Q3 <| Q1 <| Q2 <| Q2 <| Q0 <| XR rfl rfl rfl <| XP rfl rfl rfl (Qy (α := Wy) QQ rfl (.d _)) <| XR rfl rfl rfl <| XP rfl rfl rfl (Qy (α := Wy) QQ rfl (.d _)) <| XP rfl rfl rfl (Q4 rfl rfl rfl) <| Q3 ?_
 refine Q1 ?_
 refine Qg (b := ((a0.length : Int) != (a1.length : Int))) rfl (fun c1 => ?_) (fun c1 => ?_)
 replace h0 := Qu c1 h0
 refine Q2 <| Q0 <| XS rfl rfl rfl <| Q3 <| Q1 <| Qw ?_
 have e := XN h0; subst e
 exact QX (fun _ _ h => h) rfl (Qp rfl .nil) (.cons (.one (.d _)) .nil)
 replace h0 := Qv c1 h0
 refine Qj <| Q1 <| Q2 <| Q2 <| Q0 <| XR rfl rfl rfl <| XP rfl rfl rfl (Qy (α := Wy) QQ rfl (.d _)) <| XR rfl rfl rfl <| Q3 <| Q1 <| Qd ?_
 refine QI 0 (fun (o2 : Unit) => ⟨[], [], [], 0, 26, []⟩) (fun (o2 : Unit) => (some true) = some r) ?_ ?_
 refine Qb h0 (fun o3 hl1 h0 => ?_)
 refine QH (m14_l0 a0 a1) (fun s1 => ⟨[(0, .v (.one (We a0))), (1, .v (.one (We a1))), (12, .v (.one (Wg (a0.length : Int)))), (13, .v (.one (Wg s1)))], [], [], 0, 26, []⟩) 0 o3 (Qh (XK rfl (XK rfl (XK rfl (XK rfl XJ)))) W7 W3 rfl (Nat.zero_le _) rfl rfl rfl Wm rfl rfl) hl1 (fun s1 n1 oo1 h1 ho1 => ?_)
 unfold m14_l0 at h1
 refine Q2 <| Q0 <| XP rfl rfl rfl (Q4 rfl rfl rfl) <| Q3 <| Q1 <| Q2 ?_
 refine Qg (b := (decide (s1 < (a0.length : Int)))) rfl (fun c4 => ?_) (fun c4 => ?_)
 replace h1 := Qu c4 h1
 refine Qj <| Q1 <| Q2 <| Qd <| Q2 <| Q0 <| XR rfl rfl rfl <| XS rfl rfl rfl <| Q3 <| Q1 <| Q2 ?_
 refine JZ [] [] mixed (by kernel_rfl) (by kernel_rfl) (by kernel_rfl) ?_
 refine RunA.rd rfl rfl rfl (Q5 (QV rfl)) rfl <| RunA.rd rfl rfl rfl (Q5 (QV rfl)) rfl ?_
 refine Qb h1 (fun x5 hx5 h1 => ?_)
 refine RunA.rd rfl rfl rfl (Q5 (Qq (α := Wy) QQ rfl (.d _) rfl hx5)) rfl <| RunA.rd rfl rfl rfl (Q5 (QK Y6 rfl rfl)) rfl <| RunA.rd rfl rfl rfl (Q5 (QV rfl)) rfl <| RunA.rd rfl rfl rfl (Q5 (QV rfl)) rfl ?_
 refine Qb h1 (fun x6 hx6 h1 => ?_)
 refine RunA.rd rfl rfl rfl (Q5 (Qq (α := Wy) QQ rfl (.d _) rfl hx6)) rfl <| RunA.rd rfl rfl rfl (Q5 (QK Y6 rfl rfl)) rfl <| RunA.rd rfl rfl rfl (Q5 (RO.neS rfl rfl)) rfl ?_
 refine RunA.nil ⟨?ex, _, _, rfl, ?_⟩
 case ex => exact trivial
 refine JT (st' := ⟨[(0, .v (.one (We a0))), (1, .v (.one (We a1))), (12, .v (.one (Wg (a0.length : Int)))), (13, .v (.one (Wg s1))), (24, .v (.one (Wh (!(x5 == x6)))))], [], [], 0, 26, []⟩) (Qh (XK rfl (XK rfl (XK rfl (XK rfl (XK rfl XJ))))) W7 W3 rfl (Nat.zero_le _) rfl rfl rfl Wm rfl rfl) <| Q1 ?_
 refine Qg (b := (!(x5 == x6))) rfl (fun c7 => ?_) (fun c7 => ?_)
 replace h1 := Qu c7 h1
 refine Q2 <| Q0 <| XS rfl rfl rfl <| Q3 <| Q1 <| Qw ?_
 have e := XN h1; subst e
 have e_ : _ = _ := ho1
 subst e_
 try dsimp only [Sum.elim_inl, Sum.elim_inr] at h0
 have e := XN h0; subst e
 exact QX (fun _ _ h => h) rfl (Qp rfl .nil) (.cons (.one (.d _)) .nil)
 replace h1 := Qv c7 h1
 refine Qj <| Qk <| Q1 <| Q0 <| XP rfl rfl rfl (Q4 rfl rfl rfl) <| XR rfl rfl rfl <| Q3 ?_
 have e := XN h1; subst e
 refine QD (QW (s1 + 1)) (Qh (XK rfl (XK rfl (XK rfl (XK rfl XJ)))) W7 W3 rfl (Nat.zero_le _) rfl rfl rfl Wm rfl rfl) ho1
 replace h1 := Qv c4 h1
 refine QN <| Qf <| Qf ?_
 have e := XN h1; subst e
 have e_ : _ = _ := ho1
 subst e_
 exact QF () (Qh XJ W7 W3 rfl (Nat.zero_le _) rfl rfl rfl Wm rfl rfl) h0
 intro o2 h0
 refine Qx <| Q1 <| Q2 <| Q0 <| XS rfl rfl rfl <| Q3 <| Q1 <| Qw ?_
 have e := XN h0; subst e
 exact QX (fun _ _ h => h) rfl (Qp rfl .nil) (.cons (.one (.d _)) .nil)
end Go.Proofs.Ytijcchddnnnmdaa
namespace Go.Proofs.Ytijcchddnnnmdaa
open Go.RowKit
set_option linter.unusedSimpArgs false
set_option linter.unusedVariables false
set_option linter.unusedSectionVars false
section
variable {E : Env} {st : St} {d : Option Tmp} {ty : TypeId} {pos : String} {af : Array Edge} {g : Option (Nat × Bool)}
theorem OpOK.litO3 {α : Type} [Enc α] [EncLen α] (v1 v2 v3 : α) {t e : Nat} {zs : List Value} {o1 o2 o3 : Operand} {x1 x2 x3 : AV} {ys : List CA} (ht : QT E.P t = some (e, Enc.sz α)) (hze : Jg E.P e = some zs) (hzl : zs.length = Enc.sz α) (hz : zs.all (·.oneCell') = true) (hlen : 3 * Enc.sz α ≤ 16777216)
    (h1 : ev st.tm o1 = some (.v x1)) (h2 : ev st.tm o2 = some (.v x2)) (h3 : ev st.tm o3 = some (.v x3)) (hf : Yy (JB (Enc.sz α) 3) (Je zs 3) [(0, x1), (1, x2), (2, x3)] = some ys) (hs : CLs ys (Q6 [v1, v2, v3])) :
    OpOK E ⟨d, .buildSlice t 3 #[(0, o1), (1, o2), (2, o3)], ty, pos, af, g⟩ st (.v (.one (.osl st.nx 0 3 3))) ⟨(st.nx, .cells e (Q6 [v1, v2, v3])) :: st.hp, st.tk, st.nx + 1⟩ := by
  have ok := OpOK.litOsl (E := E) (st := st) (dd := d) (ty := ty) (pos := pos) (af := af) (g := g) (len := 3) (avs := [(0, x1), (1, x2), (2, x3)]) (parts := #[(0, o1), (1, o2), (2, o3)]) ht hze hzl hz hlen rfl (fun j i x hx => by
    match j, hx with
    | 0, hx => cases hx; exact ⟨o1, rfl, h1⟩
    | 1, hx => cases hx; exact ⟨o2, rfl, h2⟩
    | 2, hx => cases hx; exact ⟨o3, rfl, h3⟩) hf
  intro V a w hr ro n K Q hK
  refine ok V a w hr ro n K Q (fun V' w' v H hnx L hx => ?_)
  exact hK V' w' v (H.swapLe (.cells hs)) hnx L hx
theorem OpOK.storeOP {α : Type} [Enc α] [EncLen α] (l' : List α) {t n i off : Nat} {ag : Bool} {T : TypeId} {o1 o2 : Operand} {y y' : AV} {l : List α} (ht : Jn E.P t = some (ag, n)) (h1 : ev st.tm o1 = some (.v (.one (.ptr i off)))) (h2 : ev st.tm o2 = some (.v y)) (hs : ASub y y') (hn : y'.cells.length = n)
    (hi : W0 st.hp i = some (.cells T (Q6 l))) (hoff : Nat.ble (off + n) (l.length * Enc.sz α) = true) (e : setL (Q6 l) off y'.cells = Q6 l') (hdd : d = none) :
    OpOK E ⟨d, .store t o1 o2, ty, pos, af, g⟩ st (.tup []) ⟨(i, .cells T (Q6 l')) :: Jv i st.hp, st.tk, st.nx⟩ := by
  have := OpOK.storeS (E := E) (st := st) (dd := d) (ty := ty) (pos := pos) (af := af) (g := g) ht h1 h2 hs hi hn (by rw [flatE_len]; exact Nat.le_of_ble_eq_true hoff) hdd
  rw [e] at this; exact this
theorem OpOK.data6E {α : Type} [Enc α] (v1 v2 v3 v4 v5 v6 : α) {t e : Nat} {zs : List Value} {o1 o2 o3 o4 o5 o6 : Operand} {x1 x2 x3 x4 x5 x6 : AV} {ys : List CA} (ht : QT E.P t = some (e, Enc.sz α)) (hze : Jg E.P e = some zs) (hzl : zs.length = Enc.sz α) (hz : zs.all (·.oneCell') = true) (hlen : 6 * Enc.sz α ≤ 16777216)
    (h1 : ev st.tm o1 = some (.v x1)) (h2 : ev st.tm o2 = some (.v x2)) (h3 : ev st.tm o3 = some (.v x3)) (h4 : ev st.tm o4 = some (.v x4)) (h5 : ev st.tm o5 = some (.v x5)) (h6 : ev st.tm o6 = some (.v x6)) (hf : Yy (JB (Enc.sz α) 6) (Je zs 6) [(0, x1), (1, x2), (2, x3), (3, x4), (4, x5), (5, x6)] = some ys) (hs : CSubs ys (Enc.enc v1 ++ (Enc.enc v2 ++ (Enc.enc v3 ++ (Enc.enc v4 ++ (Enc.enc v5 ++ (Enc.enc v6))))))) (hel : (Enc.enc v1).length = Enc.sz α ∧ (Enc.enc v2).length = Enc.sz α ∧ (Enc.enc v3).length = Enc.sz α ∧ (Enc.enc v4).length = Enc.sz α ∧ (Enc.enc v5).length = Enc.sz α ∧ (Enc.enc v6).length = Enc.sz α) :
    OpOK E ⟨d, .buildSlice t 6 #[(0, o1), (1, o2), (2, o3), (3, o4), (4, o5), (5, o6)], ty, pos, af, g⟩ st (.v (.one (.d (.sl (Enc.sz α) (Enc.encL [v1, v2, v3, v4, v5, v6]))))) ⟨st.hp, st.tk, st.nx⟩ :=
  OpOK.litData (avs := [(0, x1), (1, x2), (2, x3), (3, x4), (4, x5), (5, x6)]) (Enc.encL [v1, v2, v3, v4, v5, v6]) ht hze hzl hz hlen rfl (fun j i x hx => by
    match j, hx with
    | 0, hx => cases hx; exact ⟨o1, rfl, h1⟩
    | 1, hx => cases hx; exact ⟨o2, rfl, h2⟩
    | 2, hx => cases hx; exact ⟨o3, rfl, h3⟩
    | 3, hx => cases hx; exact ⟨o4, rfl, h4⟩
    | 4, hx => cases hx; exact ⟨o5, rfl, h5⟩
    | 5, hx => cases hx; exact ⟨o6, rfl, h6⟩) hf (by rw [Enc.cons, Enc.cons, Enc.cons, Enc.cons, Enc.cons, Enc.one]; simpa using hs) (fun x hx => by
      rw [Enc.cons, Enc.cons, Enc.cons, Enc.cons, Enc.cons, Enc.one] at hx; simp at hx
      rcases hx with rfl | rfl | rfl | rfl | rfl | rfl
      · exact hel.1
      · exact hel.2.1
      · exact hel.2.2.1
      · exact hel.2.2.2.1
      · exact hel.2.2.2.2.1
      · exact hel.2.2.2.2.2) (by rw [Enc.len]; rfl)
end
end Go.Proofs.Ytijcchddnnnmdaa
namespace Go.Proofs.Ytijcchddnnnmdaa
open Go.RowKit Go.Shelf
set_option linter.unusedSimpArgs false
set_option linter.unusedVariables false
theorem sl_39 : QT Try.prog 39 = some (102, 2) := by kernel_rfl
theorem z_102 : Jg Try.prog 102 = some [.int .i64 0, .slice none 0 0] := by kernel_rfl
theorem bd_42 : Yh Try.prog 42 [(0, 1), (1, 1), (2, 1), (3, 1), (4, 1)] [.int .i64 0, .int .i64 0, .string ByteArray.empty, .slice none 0 0, .slice none 0 0] := ⟨by kernel_rfl, by kernel_rfl⟩
theorem bd_48 : Yh Try.prog 48 [(0, 1), (1, 1), (2, 1), (3, 5), (8, 5), (13, 1), (14, 1), (15, 7), (22, 1)] [.int .i64 0, .string ByteArray.empty, .int .i64 0, .int .i64 0, .int .i64 0, .string ByteArray.empty, .slice none 0 0, .slice none 0 0, .int .i64 0, .int .i64 0, .string ByteArray.empty, .slice none 0 0, .slice none 0 0, .int .i64 0, .slice none 0 0, .int .i64 0, .int .i64 0, .int .i64 0, .string ByteArray.empty, .slice none 0 0, .slice none 0 0, .slice none 0 0, .slice none 0 0] := ⟨by kernel_rfl, by kernel_rfl⟩
theorem bd_84 : Yh Try.prog 84 [(0, 1), (1, 5)] [.string ByteArray.empty, .int .i64 0, .int .i64 0, .string ByteArray.empty, .slice none 0 0, .slice none 0 0] := ⟨by kernel_rfl, by kernel_rfl⟩
theorem bd_102 : Yh Try.prog 102 [(0, 1), (1, 1)] [.int .i64 0, .slice none 0 0] := ⟨by kernel_rfl, by kernel_rfl⟩
theorem en_11 : J9 Try.prog 11 := enters_of Try.func11 (by kernel_rfl) rfl
theorem en_33 : J9 Try.prog 33 := enters_of Try.func33 (by kernel_rfl) rfl
def KU  : Option Bool :=
 Option.bind (some ()) (fun (y1 : Unit) => Option.bind (m23o ([(⟨0, ([112, 108, 117, 115] : List UInt8), 0, (Tm.mk 3 0 ([78, 97, 116] : List UInt8) ([] : List Lvl) ([] : List Tm)), (Tm.mk 0 0 ([] : List UInt8) ([] : List Lvl) ([] : List Tm)), 0, ([] : List Ctr), (⟨0, (Tm.mk 0 0 ([] : List UInt8) ([] : List Lvl) ([] : List Tm)), ([] : List Tm)⟩ : Rcr), ([] : List Fn)⟩ : Dcl), (⟨3, ([78, 97, 116] : List UInt8), 0, (Tm.mk 2 0 ([] : List UInt8) [(⟨0, ([] : List Wv)⟩ : Lvl)] ([] : List Tm)), (Tm.mk 0 0 ([] : List UInt8) ([] : List Lvl) ([] : List Tm)), 0, [(⟨([78, 97, 116, 46, 122, 101, 114, 111] : List UInt8), (Tm.mk 3 0 ([78, 97, 116] : List UInt8) ([] : List Lvl) ([] : List Tm))⟩ : Ctr), (⟨([78, 97, 116, 46, 115, 117, 99, 99] : List UInt8), (Tm.mk 3 0 ([78, 97, 116] : List UInt8) ([] : List Lvl) ([] : List Tm))⟩ : Ctr)], (⟨0, (Tm.mk 0 0 ([] : List UInt8) ([] : List Lvl) ([] : List Tm)), ([] : List Tm)⟩ : Rcr), ([] : List Fn)⟩ : Dcl), (⟨1, ([116, 119, 111] : List UInt8), 0, (Tm.mk 3 0 ([78, 97, 116] : List UInt8) ([] : List Lvl) ([] : List Tm)), (Tm.mk 3 0 ([78, 97, 116, 46, 122, 101, 114, 111] : List UInt8) ([] : List Lvl) ([] : List Tm)), 0, ([] : List Ctr), (⟨0, (Tm.mk 0 0 ([] : List UInt8) ([] : List Lvl) ([] : List Tm)), ([] : List Tm)⟩ : Rcr), ([] : List Fn)⟩ : Dcl)]) 3) fun (x3 : (List (List Int)) × Int) =>
 Option.bind (m22o ([(⟨0, ([112, 108, 117, 115] : List UInt8), 0, (Tm.mk 3 0 ([78, 97, 116] : List UInt8) ([] : List Lvl) ([] : List Tm)), (Tm.mk 0 0 ([] : List UInt8) ([] : List Lvl) ([] : List Tm)), 0, ([] : List Ctr), (⟨0, (Tm.mk 0 0 ([] : List UInt8) ([] : List Lvl) ([] : List Tm)), ([] : List Tm)⟩ : Rcr), ([] : List Fn)⟩ : Dcl), (⟨3, ([78, 97, 116] : List UInt8), 0, (Tm.mk 2 0 ([] : List UInt8) [(⟨0, ([] : List Wv)⟩ : Lvl)] ([] : List Tm)), (Tm.mk 0 0 ([] : List UInt8) ([] : List Lvl) ([] : List Tm)), 0, [(⟨([78, 97, 116, 46, 122, 101, 114, 111] : List UInt8), (Tm.mk 3 0 ([78, 97, 116] : List UInt8) ([] : List Lvl) ([] : List Tm))⟩ : Ctr), (⟨([78, 97, 116, 46, 115, 117, 99, 99] : List UInt8), (Tm.mk 3 0 ([78, 97, 116] : List UInt8) ([] : List Lvl) ([] : List Tm))⟩ : Ctr)], (⟨0, (Tm.mk 0 0 ([] : List UInt8) ([] : List Lvl) ([] : List Tm)), ([] : List Tm)⟩ : Rcr), ([] : List Fn)⟩ : Dcl), (⟨1, ([116, 119, 111] : List UInt8), 0, (Tm.mk 3 0 ([78, 97, 116] : List UInt8) ([] : List Lvl) ([] : List Tm)), (Tm.mk 3 0 ([78, 97, 116, 46, 122, 101, 114, 111] : List UInt8) ([] : List Lvl) ([] : List Tm)), 0, ([] : List Ctr), (⟨0, (Tm.mk 0 0 ([] : List UInt8) ([] : List Lvl) ([] : List Tm)), ([] : List Tm)⟩ : Rcr), ([] : List Fn)⟩ : Dcl)]) 3) fun (x4 : (List Int) × Int) =>
 Option.bind (m12o ([(⟨0, ([112, 108, 117, 115] : List UInt8), 0, (Tm.mk 3 0 ([78, 97, 116] : List UInt8) ([] : List Lvl) ([] : List Tm)), (Tm.mk 0 0 ([] : List UInt8) ([] : List Lvl) ([] : List Tm)), 0, ([] : List Ctr), (⟨0, (Tm.mk 0 0 ([] : List UInt8) ([] : List Lvl) ([] : List Tm)), ([] : List Tm)⟩ : Rcr), ([] : List Fn)⟩ : Dcl), (⟨3, ([78, 97, 116] : List UInt8), 0, (Tm.mk 2 0 ([] : List UInt8) [(⟨0, ([] : List Wv)⟩ : Lvl)] ([] : List Tm)), (Tm.mk 0 0 ([] : List UInt8) ([] : List Lvl) ([] : List Tm)), 0, [(⟨([78, 97, 116, 46, 122, 101, 114, 111] : List UInt8), (Tm.mk 3 0 ([78, 97, 116] : List UInt8) ([] : List Lvl) ([] : List Tm))⟩ : Ctr), (⟨([78, 97, 116, 46, 115, 117, 99, 99] : List UInt8), (Tm.mk 3 0 ([78, 97, 116] : List UInt8) ([] : List Lvl) ([] : List Tm))⟩ : Ctr)], (⟨0, (Tm.mk 0 0 ([] : List UInt8) ([] : List Lvl) ([] : List Tm)), ([] : List Tm)⟩ : Rcr), ([] : List Fn)⟩ : Dcl), (⟨1, ([116, 119, 111] : List UInt8), 0, (Tm.mk 3 0 ([78, 97, 116] : List UInt8) ([] : List Lvl) ([] : List Tm)), (Tm.mk 3 0 ([78, 97, 116, 46, 122, 101, 114, 111] : List UInt8) ([] : List Lvl) ([] : List Tm)), 0, ([] : List Ctr), (⟨0, (Tm.mk 0 0 ([] : List UInt8) ([] : List Lvl) ([] : List Tm)), ([] : List Tm)⟩ : Rcr), ([] : List Fn)⟩ : Dcl)]) ([([78, 97, 116] : List UInt8)]) 3) fun (x5 : (List Wy) × Int) =>
 Option.bind (m15o ([(⟨0, ([112, 108, 117, 115] : List UInt8), 0, (Tm.mk 3 0 ([78, 97, 116] : List UInt8) ([] : List Lvl) ([] : List Tm)), (Tm.mk 0 0 ([] : List UInt8) ([] : List Lvl) ([] : List Tm)), 0, ([] : List Ctr), (⟨0, (Tm.mk 0 0 ([] : List UInt8) ([] : List Lvl) ([] : List Tm)), ([] : List Tm)⟩ : Rcr), ([] : List Fn)⟩ : Dcl), (⟨3, ([78, 97, 116] : List UInt8), 0, (Tm.mk 2 0 ([] : List UInt8) [(⟨0, ([] : List Wv)⟩ : Lvl)] ([] : List Tm)), (Tm.mk 0 0 ([] : List UInt8) ([] : List Lvl) ([] : List Tm)), 0, [(⟨([78, 97, 116, 46, 122, 101, 114, 111] : List UInt8), (Tm.mk 3 0 ([78, 97, 116] : List UInt8) ([] : List Lvl) ([] : List Tm))⟩ : Ctr), (⟨([78, 97, 116, 46, 115, 117, 99, 99] : List UInt8), (Tm.mk 3 0 ([78, 97, 116] : List UInt8) ([] : List Lvl) ([] : List Tm))⟩ : Ctr)], (⟨0, (Tm.mk 0 0 ([] : List UInt8) ([] : List Lvl) ([] : List Tm)), ([] : List Tm)⟩ : Rcr), ([] : List Fn)⟩ : Dcl), (⟨1, ([116, 119, 111] : List UInt8), 0, (Tm.mk 3 0 ([78, 97, 116] : List UInt8) ([] : List Lvl) ([] : List Tm)), (Tm.mk 3 0 ([78, 97, 116, 46, 122, 101, 114, 111] : List UInt8) ([] : List Lvl) ([] : List Tm)), 0, ([] : List Ctr), (⟨0, (Tm.mk 0 0 ([] : List UInt8) ([] : List Lvl) ([] : List Tm)), ([] : List Tm)⟩ : Rcr), ([] : List Fn)⟩ : Dcl)]) ([([116, 119, 111] : List UInt8)]) 3) fun (x6 : (List Dcl) × Int) =>
 Option.bind (J1 ([(⟨0, ([112, 108, 117, 115] : List UInt8), 0, (Tm.mk 3 0 ([78, 97, 116] : List UInt8) ([] : List Lvl) ([] : List Tm)), (Tm.mk 0 0 ([] : List UInt8) ([] : List Lvl) ([] : List Tm)), 0, ([] : List Ctr), (⟨0, (Tm.mk 0 0 ([] : List UInt8) ([] : List Lvl) ([] : List Tm)), ([] : List Tm)⟩ : Rcr), ([] : List Fn)⟩ : Dcl), (⟨3, ([78, 97, 116] : List UInt8), 0, (Tm.mk 2 0 ([] : List UInt8) [(⟨0, ([] : List Wv)⟩ : Lvl)] ([] : List Tm)), (Tm.mk 0 0 ([] : List UInt8) ([] : List Lvl) ([] : List Tm)), 0, [(⟨([78, 97, 116, 46, 122, 101, 114, 111] : List UInt8), (Tm.mk 3 0 ([78, 97, 116] : List UInt8) ([] : List Lvl) ([] : List Tm))⟩ : Ctr), (⟨([78, 97, 116, 46, 115, 117, 99, 99] : List UInt8), (Tm.mk 3 0 ([78, 97, 116] : List UInt8) ([] : List Lvl) ([] : List Tm))⟩ : Ctr)], (⟨0, (Tm.mk 0 0 ([] : List UInt8) ([] : List Lvl) ([] : List Tm)), ([] : List Tm)⟩ : Rcr), ([] : List Fn)⟩ : Dcl), (⟨1, ([116, 119, 111] : List UInt8), 0, (Tm.mk 3 0 ([78, 97, 116] : List UInt8) ([] : List Lvl) ([] : List Tm)), (Tm.mk 3 0 ([78, 97, 116, 46, 122, 101, 114, 111] : List UInt8) ([] : List Lvl) ([] : List Tm)), 0, ([] : List Ctr), (⟨0, (Tm.mk 0 0 ([] : List UInt8) ([] : List Lvl) ([] : List Tm)), ([] : List Tm)⟩ : Rcr), ([] : List Fn)⟩ : Dcl)]) 1) fun (x7 : Dcl) =>
 Qm (Nat.beq ([(⟨0, ([112, 108, 117, 115] : List UInt8), 0, (Tm.mk 3 0 ([78, 97, 116] : List UInt8) ([] : List Lvl) ([] : List Tm)), (Tm.mk 0 0 ([] : List UInt8) ([] : List Lvl) ([] : List Tm)), 0, ([] : List Ctr), (⟨0, (Tm.mk 0 0 ([] : List UInt8) ([] : List Lvl) ([] : List Tm)), ([] : List Tm)⟩ : Rcr), ([] : List Fn)⟩ : Dcl), (⟨3, ([78, 97, 116] : List UInt8), 0, (Tm.mk 2 0 ([] : List UInt8) [(⟨0, ([] : List Wv)⟩ : Lvl)] ([] : List Tm)), (Tm.mk 0 0 ([] : List UInt8) ([] : List Lvl) ([] : List Tm)), 0, [(⟨([78, 97, 116, 46, 122, 101, 114, 111] : List UInt8), (Tm.mk 3 0 ([78, 97, 116] : List UInt8) ([] : List Lvl) ([] : List Tm))⟩ : Ctr), (⟨([78, 97, 116, 46, 115, 117, 99, 99] : List UInt8), (Tm.mk 3 0 ([78, 97, 116] : List UInt8) ([] : List Lvl) ([] : List Tm))⟩ : Ctr)], (⟨0, (Tm.mk 0 0 ([] : List UInt8) ([] : List Lvl) ([] : List Tm)), ([] : List Tm)⟩ : Rcr), ([] : List Fn)⟩ : Dcl), (⟨1, ([116, 119, 111] : List UInt8), 0, (Tm.mk 3 0 ([78, 97, 116] : List UInt8) ([] : List Lvl) ([] : List Tm)), (Tm.mk 3 0 ([78, 97, 116, 46, 122, 101, 114, 111] : List UInt8) ([] : List Lvl) ([] : List Tm)), 0, ([] : List Ctr), (⟨0, (Tm.mk 0 0 ([] : List UInt8) ([] : List Lvl) ([] : List Tm)), ([] : List Tm)⟩ : Rcr), ([] : List Fn)⟩ : Dcl)]).length 3)
 (Option.bind (m22o ([(⟨0, ([112, 108, 117, 115] : List UInt8), 0, (Tm.mk 3 0 ([78, 97, 116] : List UInt8) ([] : List Lvl) ([] : List Tm)), (Tm.mk 0 0 ([] : List UInt8) ([] : List Lvl) ([] : List Tm)), 0, ([] : List Ctr), (⟨0, (Tm.mk 0 0 ([] : List UInt8) ([] : List Lvl) ([] : List Tm)), ([] : List Tm)⟩ : Rcr), ([] : List Fn)⟩ : Dcl), (⟨3, ([78, 97, 116] : List UInt8), 0, (Tm.mk 2 0 ([] : List UInt8) [(⟨0, ([] : List Wv)⟩ : Lvl)] ([] : List Tm)), (Tm.mk 3 0 ([116, 119, 111] : List UInt8) [] []), 0, [(⟨([78, 97, 116, 46, 122, 101, 114, 111] : List UInt8), (Tm.mk 3 0 ([78, 97, 116] : List UInt8) ([] : List Lvl) ([] : List Tm))⟩ : Ctr), (⟨([78, 97, 116, 46, 115, 117, 99, 99] : List UInt8), (Tm.mk 3 0 ([78, 97, 116] : List UInt8) ([] : List Lvl) ([] : List Tm))⟩ : Ctr)], (⟨0, (Tm.mk 0 0 ([] : List UInt8) ([] : List Lvl) ([] : List Tm)), ([] : List Tm)⟩ : Rcr), ([] : List Fn)⟩ : Dcl), (⟨1, ([116, 119, 111] : List UInt8), 0, (Tm.mk 3 0 ([78, 97, 116] : List UInt8) ([] : List Lvl) ([] : List Tm)), (Tm.mk 3 0 ([78, 97, 116, 46, 122, 101, 114, 111] : List UInt8) ([] : List Lvl) ([] : List Tm)), 0, ([] : List Ctr), (⟨0, (Tm.mk 0 0 ([] : List UInt8) ([] : List Lvl) ([] : List Tm)), ([] : List Tm)⟩ : Rcr), ([] : List Fn)⟩ : Dcl)]) 3) fun (x9 : (List Int) × Int) =>
 Option.bind (cond (x3.2 != 0)
   (some true)
   (cond (x4.2 != 0)
   (some true)
   (cond (x5.2 != 0)
   (some true)
   (cond (x6.2 != 0)
   (some true)
   (cond (x9.2 != 22)
   (some true)
   (cond ((x3.1.length : Int) != 3)
   (some true)
   (some ((x6.1.length : Int) != 2)))))))) (fun (v10 : Bool) => cond v10
   (some false)
   (Option.bind (Option.bind (J1 x3.1 0) fun (x13 : List Int) =>
 Option.bind (Xv x13 ([1])) fun (x14 : Bool) =>
 cond x14
   (Option.bind (J1 x3.1 1) fun (x16 : List Int) =>
 cond ((x16.length : Int) == 0)
   (Option.bind (J1 x3.1 2) fun (x18 : List Int) =>
 Option.bind (Xv x18 ([1])) fun (x19 : Bool) =>
 cond x19
   (Option.bind (Xv x4.1 ([1, 0, 2])) fun (x21 : Bool) =>
 cond x21
   (Option.bind (XE x5.1 ([([112, 108, 117, 115] : List UInt8), ([78, 97, 116] : List UInt8), ([78, 97, 116, 46, 122, 101, 114, 111] : List UInt8), ([78, 97, 116, 46, 115, 117, 99, 99] : List UInt8), ([78, 97, 116, 46, 114, 101, 99] : List UInt8), ([116, 119, 111] : List UInt8)])) fun (x23 : Bool) =>
 cond x23
   (Option.bind (J1 x6.1 0) fun (x25 : Dcl) =>
 cond (x25.name == ([78, 97, 116] : List UInt8))
   (Option.bind (J1 x6.1 1) fun (x27 : Dcl) =>
 some (x27.name == ([116, 119, 111] : List UInt8)))
   (some false))
   (some false))
   (some false))
   (some false))
   (some false))
   (some false)) (fun (v12 : Bool) => some v12)))))
set_option maxRecDepth 100000 in
set_option maxHeartbeats 2000000 in
theorem m11_ok  (r : Bool) (h0 : KU  = some r) : Fun Try.prog 11 [] (Qr [.one (Wh r)]) := by
 unfold KU at h0
 refine Jd 9 115 Try.func11 rfl en_11 rfl (W1 rfl) (fun S w => ?_)
 simp only [Jc]
 refine Q2 <| Q0 <| XS rfl rfl rfl <| Q3 <| Q1 <| Q2 <| Q0 ?_
 refine Qb h0 (fun y1 h1 h0 => ?_)
 have hc2 : CallM Try.prog 33 [] ⟨[], [], 0⟩ (Qr [.one (.osl 5 0 3 3)]) ⟨[(5, .cells 48 (Q6 ([(⟨0, ([112, 108, 117, 115] : List UInt8), 0, (Tm.mk 3 0 ([78, 97, 116] : List UInt8) ([] : List Lvl) ([] : List Tm)), (Tm.mk 0 0 ([] : List UInt8) ([] : List Lvl) ([] : List Tm)), 0, ([] : List Ctr), (⟨0, (Tm.mk 0 0 ([] : List UInt8) ([] : List Lvl) ([] : List Tm)), ([] : List Tm)⟩ : Rcr), ([] : List Fn)⟩ : Dcl), (⟨3, ([78, 97, 116] : List UInt8), 0, (Tm.mk 2 0 ([] : List UInt8) [(⟨0, ([] : List Wv)⟩ : Lvl)] ([] : List Tm)), (Tm.mk 0 0 ([] : List UInt8) ([] : List Lvl) ([] : List Tm)), 0, [(⟨([78, 97, 116, 46, 122, 101, 114, 111] : List UInt8), (Tm.mk 3 0 ([78, 97, 116] : List UInt8) ([] : List Lvl) ([] : List Tm))⟩ : Ctr), (⟨([78, 97, 116, 46, 115, 117, 99, 99] : List UInt8), (Tm.mk 3 0 ([78, 97, 116] : List UInt8) ([] : List Lvl) ([] : List Tm))⟩ : Ctr)], (⟨0, (Tm.mk 0 0 ([] : List UInt8) ([] : List Lvl) ([] : List Tm)), ([] : List Tm)⟩ : Rcr), ([] : List Fn)⟩ : Dcl), (⟨1, ([116, 119, 111] : List UInt8), 0, (Tm.mk 3 0 ([78, 97, 116] : List UInt8) ([] : List Lvl) ([] : List Tm)), (Tm.mk 3 0 ([78, 97, 116, 46, 122, 101, 114, 111] : List UInt8) ([] : List Lvl) ([] : List Tm)), 0, ([] : List Ctr), (⟨0, (Tm.mk 0 0 ([] : List UInt8) ([] : List Lvl) ([] : List Tm)), ([] : List Tm)⟩ : Rcr), ([] : List Fn)⟩ : Dcl)] : List Dcl)))], [], 6⟩ := by
  refine QM ⟨[(0, .v (.one (.osl 5 0 3 3)))], [(5, .cells 48 (Q6 ([(⟨0, ([112, 108, 117, 115] : List UInt8), 0, (Tm.mk 3 0 ([78, 97, 116] : List UInt8) ([] : List Lvl) ([] : List Tm)), (Tm.mk 0 0 ([] : List UInt8) ([] : List Lvl) ([] : List Tm)), 0, ([] : List Ctr), (⟨0, (Tm.mk 0 0 ([] : List UInt8) ([] : List Lvl) ([] : List Tm)), ([] : List Tm)⟩ : Rcr), ([] : List Fn)⟩ : Dcl), (⟨3, ([78, 97, 116] : List UInt8), 0, (Tm.mk 2 0 ([] : List UInt8) [(⟨0, ([] : List Wv)⟩ : Lvl)] ([] : List Tm)), (Tm.mk 0 0 ([] : List UInt8) ([] : List Lvl) ([] : List Tm)), 0, [(⟨([78, 97, 116, 46, 122, 101, 114, 111] : List UInt8), (Tm.mk 3 0 ([78, 97, 116] : List UInt8) ([] : List Lvl) ([] : List Tm))⟩ : Ctr), (⟨([78, 97, 116, 46, 115, 117, 99, 99] : List UInt8), (Tm.mk 3 0 ([78, 97, 116] : List UInt8) ([] : List Lvl) ([] : List Tm))⟩ : Ctr)], (⟨0, (Tm.mk 0 0 ([] : List UInt8) ([] : List Lvl) ([] : List Tm)), ([] : List Tm)⟩ : Rcr), ([] : List Fn)⟩ : Dcl), (⟨1, ([116, 119, 111] : List UInt8), 0, (Tm.mk 3 0 ([78, 97, 116] : List UInt8) ([] : List Lvl) ([] : List Tm)), (Tm.mk 3 0 ([78, 97, 116, 46, 122, 101, 114, 111] : List UInt8) ([] : List Lvl) ([] : List Tm)), 0, ([] : List Ctr), (⟨0, (Tm.mk 0 0 ([] : List UInt8) ([] : List Lvl) ([] : List Tm)), ([] : List Tm)⟩ : Rcr), ([] : List Fn)⟩ : Dcl)] : List Dcl)))], [], 6, 22, []⟩ rfl rfl en_33 (W1 rfl) rfl (Qp rfl .nil) (fun w0 M V0 Q hv1 hQ1 => ?_)
  simp only [Jc]
  refine Q2 <| Q0 <| XS rfl rfl rfl <| Q3 <| Q1 <| Q2 <| Q0 <| XP rfl rfl rfl (JE bd_42 rfl rfl rfl rfl) <| Q9 rfl rfl (W1 rfl) (Ql GT rfl) <| QA rfl rfl (Qi JH rfl rfl rfl rfl (W1 rfl) rfl) <| Q3 <| Q1 <| Q2 <| Q0 ?_
  refine XP rfl rfl rfl (Y1 bd_102 rfl ) <| Q9 rfl rfl (W1 rfl) (QY (α := Lvl) ((⟨0, ([] : List Wv)⟩ : Lvl)) sl_39 z_102 rfl rfl (W1 rfl) (W1 rfl) rfl rfl (.cons (.d _) (.cons (.nil _) .nil)) rfl) <| XP rfl rfl rfl (JE bd_42 rfl rfl rfl rfl) <| Q9 rfl rfl (W1 rfl) (Ql GT rfl) <| QA rfl rfl (Qi JH rfl rfl rfl rfl (W1 rfl) rfl) <| Q3 <| Q1 <| Q2 <| Q0 <| XP rfl rfl rfl (Qz JH rfl rfl rfl rfl) <| XP rfl rfl rfl (Qz JH rfl rfl rfl rfl) <| XP rfl rfl rfl (JE bd_84 rfl rfl rfl rfl) <| XP rfl rfl rfl (Qz JH rfl rfl rfl rfl) <| XP rfl rfl rfl (JE bd_84 rfl rfl rfl rfl) ?_
  refine Q9 rfl rfl (W1 rfl) (OpOK.lit2E (α := Ctr) (⟨([78, 97, 116, 46, 122, 101, 114, 111] : List UInt8), (Tm.mk 3 0 ([78, 97, 116] : List UInt8) ([] : List Lvl) ([] : List Tm))⟩ : Ctr) (⟨([78, 97, 116, 46, 115, 117, 99, 99] : List UInt8), (Tm.mk 3 0 ([78, 97, 116] : List UInt8) ([] : List Lvl) ([] : List Tm))⟩ : Ctr) Kh z_84 rfl rfl (W1 rfl) (W1 rfl) rfl rfl rfl (.cons (.d _) (.cons (.d _) (.cons (.d _) (.cons (.d _) (.cons (.nil _) (.cons (.nil _) (.cons (.d _) (.cons (.d _) (.cons (.d _) (.cons (.d _) (.cons (.nil _) (.cons (.nil _) .nil)))))))))))) ⟨rfl, rfl⟩) <| XP rfl rfl rfl (RO.buildN bd_48 rfl (.cons rfl (.cons rfl (.cons rfl (.cons rfl .nil)))) rfl) <| Q9 rfl rfl (W1 rfl) (Ql Z8 rfl) <| QA rfl rfl (Qi J3 rfl rfl rfl rfl (W1 rfl) rfl) <| Q3 <| Q1 <| Q2 <| Q0 <| XP rfl rfl rfl (Qz JH rfl rfl rfl rfl) <| XP rfl rfl rfl (RO.build3 bd_48 rfl rfl rfl rfl rfl) <| XP rfl rfl rfl (Qz J3 rfl rfl rfl rfl) <| XP rfl rfl rfl (Qz JH rfl rfl rfl rfl) <| XP rfl rfl rfl (JE bd_42 rfl rfl rfl rfl) <| XP rfl rfl rfl (RO.buildN bd_48 rfl (.cons rfl (.cons rfl (.cons rfl (.cons rfl .nil)))) rfl) ?_
  refine Q9 rfl rfl (W1 rfl) (OpOK.litO3 (α := Dcl) (⟨0, ([112, 108, 117, 115] : List UInt8), 0, (Tm.mk 3 0 ([78, 97, 116] : List UInt8) ([] : List Lvl) ([] : List Tm)), (Tm.mk 0 0 ([] : List UInt8) ([] : List Lvl) ([] : List Tm)), 0, ([] : List Ctr), (⟨0, (Tm.mk 0 0 ([] : List UInt8) ([] : List Lvl) ([] : List Tm)), ([] : List Tm)⟩ : Rcr), ([] : List Fn)⟩ : Dcl) (⟨3, ([78, 97, 116] : List UInt8), 0, (Tm.mk 2 0 ([] : List UInt8) [(⟨0, ([] : List Wv)⟩ : Lvl)] ([] : List Tm)), (Tm.mk 0 0 ([] : List UInt8) ([] : List Lvl) ([] : List Tm)), 0, [(⟨([78, 97, 116, 46, 122, 101, 114, 111] : List UInt8), (Tm.mk 3 0 ([78, 97, 116] : List UInt8) ([] : List Lvl) ([] : List Tm))⟩ : Ctr), (⟨([78, 97, 116, 46, 115, 117, 99, 99] : List UInt8), (Tm.mk 3 0 ([78, 97, 116] : List UInt8) ([] : List Lvl) ([] : List Tm))⟩ : Ctr)], (⟨0, (Tm.mk 0 0 ([] : List UInt8) ([] : List Lvl) ([] : List Tm)), ([] : List Tm)⟩ : Rcr), ([] : List Fn)⟩ : Dcl) (⟨1, ([116, 119, 111] : List UInt8), 0, (Tm.mk 3 0 ([78, 97, 116] : List UInt8) ([] : List Lvl) ([] : List Tm)), (Tm.mk 3 0 ([78, 97, 116, 46, 122, 101, 114, 111] : List UInt8) ([] : List Lvl) ([] : List Tm)), 0, ([] : List Ctr), (⟨0, (Tm.mk 0 0 ([] : List UInt8) ([] : List Lvl) ([] : List Tm)), ([] : List Tm)⟩ : Rcr), ([] : List Fn)⟩ : Dcl) J5 Z8 rfl rfl (W1 rfl) rfl rfl rfl rfl (.cons (.refl _) (.cons (.refl _) (.cons (.refl _) (.cons (.refl _) (.cons (.refl _) (.cons (.refl _) (.cons (.sub (.nil _)) (.cons (.sub (.nil _)) (.cons (.refl _) (.cons (.refl _) (.cons (.refl _) (.cons (.sub (.nil _)) (.cons (.sub (.nil _)) (.cons (.refl _) (.cons (.sub (.nil _)) (.cons (.refl _) (.cons (.refl _) (.cons (.refl _) (.cons (.refl _) (.cons (.sub (.nil _)) (.cons (.sub (.nil _)) (.cons (.sub (.nil _)) (.cons (.sub (.nil _)) (.cons (.refl _) (.cons (.refl _) (.cons (.refl _) (.cons (.refl _) (.cons (.refl _) (.cons (.refl _) (.cons (.sub (.app _ _ _)) (.cons (.sub (.nil _)) (.cons (.refl _) (.cons (.refl _) (.cons (.refl _) (.cons (.sub (.nil _)) (.cons (.sub (.nil _)) (.cons (.refl _) (.cons (.sub (.app _ _ _)) (.cons (.refl _) (.cons (.refl _) (.cons (.refl _) (.cons (.refl _) (.cons (.sub (.nil _)) (.cons (.sub (.nil _)) (.cons (.sub (.nil _)) (.cons (.sub (.nil _)) (.cons (.refl _) (.cons (.refl _) (.cons (.refl _) (.cons (.refl _) (.cons (.refl _) (.cons (.refl _) (.cons (.sub (.nil _)) (.cons (.sub (.nil _)) (.cons (.refl _) (.cons (.refl _) (.cons (.refl _) (.cons (.sub (.nil _)) (.cons (.sub (.nil _)) (.cons (.refl _) (.cons (.sub (.nil _)) (.cons (.refl _) (.cons (.refl _) (.cons (.refl _) (.cons (.refl _) (.cons (.sub (.nil _)) (.cons (.sub (.nil _)) (.cons (.sub (.nil _)) (.cons (.sub (.nil _)) .nil)))))))))))))))))))))))))))))))))))))))))))))))))))))))))))))))))))))) <| XS rfl rfl rfl <| Q3 <| Q1 <| Qw ?_
  have e := XN h1; subst e
  exact hQ1 _ _ _ (.inr rfl) rfl (Qh (XK rfl XJ) (W8 rfl W7) W3 rfl (Nat.le_trans hv1 (W1 rfl)) rfl rfl rfl (Wo rfl Wm) rfl rfl)
 refine Q9 rfl rfl (W1 rfl) (QP rfl rfl rfl hc2 rfl W7 W3) <| XS rfl rfl rfl <| Q3 <| Q1 <| Q2 <| Q0 <| XR rfl rfl rfl ?_
 refine Qb h0 (fun x3 hx3 h0 => ?_)
 refine Q9 rfl rfl (W1 rfl) (Zy (b := 5) (m23o_ok ([(⟨0, ([112, 108, 117, 115] : List UInt8), 0, (Tm.mk 3 0 ([78, 97, 116] : List UInt8) ([] : List Lvl) ([] : List Tm)), (Tm.mk 0 0 ([] : List UInt8) ([] : List Lvl) ([] : List Tm)), 0, ([] : List Ctr), (⟨0, (Tm.mk 0 0 ([] : List UInt8) ([] : List Lvl) ([] : List Tm)), ([] : List Tm)⟩ : Rcr), ([] : List Fn)⟩ : Dcl), (⟨3, ([78, 97, 116] : List UInt8), 0, (Tm.mk 2 0 ([] : List UInt8) [(⟨0, ([] : List Wv)⟩ : Lvl)] ([] : List Tm)), (Tm.mk 0 0 ([] : List UInt8) ([] : List Lvl) ([] : List Tm)), 0, [(⟨([78, 97, 116, 46, 122, 101, 114, 111] : List UInt8), (Tm.mk 3 0 ([78, 97, 116] : List UInt8) ([] : List Lvl) ([] : List Tm))⟩ : Ctr), (⟨([78, 97, 116, 46, 115, 117, 99, 99] : List UInt8), (Tm.mk 3 0 ([78, 97, 116] : List UInt8) ([] : List Lvl) ([] : List Tm))⟩ : Ctr)], (⟨0, (Tm.mk 0 0 ([] : List UInt8) ([] : List Lvl) ([] : List Tm)), ([] : List Tm)⟩ : Rcr), ([] : List Fn)⟩ : Dcl), (⟨1, ([116, 119, 111] : List UInt8), 0, (Tm.mk 3 0 ([78, 97, 116] : List UInt8) ([] : List Lvl) ([] : List Tm)), (Tm.mk 3 0 ([78, 97, 116, 46, 122, 101, 114, 111] : List UInt8) ([] : List Lvl) ([] : List Tm)), 0, ([] : List Ctr), (⟨0, (Tm.mk 0 0 ([] : List UInt8) ([] : List Lvl) ([] : List Tm)), ([] : List Tm)⟩ : Rcr), ([] : List Fn)⟩ : Dcl)]) 3 x3 hx3) rfl (.osl .nil) rfl rfl rfl) <| XR rfl rfl rfl <| XP rfl rfl rfl (Qe rfl rfl) <| XP rfl rfl rfl (Qe rfl rfl) <| XS rfl rfl rfl <| XS rfl rfl rfl <| Q3 <| Q1 <| Q2 <| Q0 <| XR rfl rfl rfl ?_
 refine Qb h0 (fun x4 hx4 h0 => ?_)
 refine Q9 rfl rfl (W1 rfl) (Zy (b := 5) (m22o_ok ([(⟨0, ([112, 108, 117, 115] : List UInt8), 0, (Tm.mk 3 0 ([78, 97, 116] : List UInt8) ([] : List Lvl) ([] : List Tm)), (Tm.mk 0 0 ([] : List UInt8) ([] : List Lvl) ([] : List Tm)), 0, ([] : List Ctr), (⟨0, (Tm.mk 0 0 ([] : List UInt8) ([] : List Lvl) ([] : List Tm)), ([] : List Tm)⟩ : Rcr), ([] : List Fn)⟩ : Dcl), (⟨3, ([78, 97, 116] : List UInt8), 0, (Tm.mk 2 0 ([] : List UInt8) [(⟨0, ([] : List Wv)⟩ : Lvl)] ([] : List Tm)), (Tm.mk 0 0 ([] : List UInt8) ([] : List Lvl) ([] : List Tm)), 0, [(⟨([78, 97, 116, 46, 122, 101, 114, 111] : List UInt8), (Tm.mk 3 0 ([78, 97, 116] : List UInt8) ([] : List Lvl) ([] : List Tm))⟩ : Ctr), (⟨([78, 97, 116, 46, 115, 117, 99, 99] : List UInt8), (Tm.mk 3 0 ([78, 97, 116] : List UInt8) ([] : List Lvl) ([] : List Tm))⟩ : Ctr)], (⟨0, (Tm.mk 0 0 ([] : List UInt8) ([] : List Lvl) ([] : List Tm)), ([] : List Tm)⟩ : Rcr), ([] : List Fn)⟩ : Dcl), (⟨1, ([116, 119, 111] : List UInt8), 0, (Tm.mk 3 0 ([78, 97, 116] : List UInt8) ([] : List Lvl) ([] : List Tm)), (Tm.mk 3 0 ([78, 97, 116, 46, 122, 101, 114, 111] : List UInt8) ([] : List Lvl) ([] : List Tm)), 0, ([] : List Ctr), (⟨0, (Tm.mk 0 0 ([] : List UInt8) ([] : List Lvl) ([] : List Tm)), ([] : List Tm)⟩ : Rcr), ([] : List Fn)⟩ : Dcl)]) 3 x4 hx4) rfl (.osl .nil) rfl rfl rfl) <| XR rfl rfl rfl <| XP rfl rfl rfl (Qe rfl rfl) <| XP rfl rfl rfl (Qe rfl rfl) <| XS rfl rfl rfl <| XS rfl rfl rfl <| Q3 <| Q1 <| Q2 <| Q0 <| XR rfl rfl rfl <| Q9 rfl rfl (W1 rfl) (QY (α := Wy) (([78, 97, 116] : List UInt8)) QQ GY rfl rfl (W1 rfl) (W1 rfl) rfl rfl (.cons (.d _) .nil) rfl) ?_
 refine Qb h0 (fun x5 hx5 h0 => ?_)
 refine Q9 rfl rfl (W1 rfl) (Zy (b := 5) (m12o_ok ([(⟨0, ([112, 108, 117, 115] : List UInt8), 0, (Tm.mk 3 0 ([78, 97, 116] : List UInt8) ([] : List Lvl) ([] : List Tm)), (Tm.mk 0 0 ([] : List UInt8) ([] : List Lvl) ([] : List Tm)), 0, ([] : List Ctr), (⟨0, (Tm.mk 0 0 ([] : List UInt8) ([] : List Lvl) ([] : List Tm)), ([] : List Tm)⟩ : Rcr), ([] : List Fn)⟩ : Dcl), (⟨3, ([78, 97, 116] : List UInt8), 0, (Tm.mk 2 0 ([] : List UInt8) [(⟨0, ([] : List Wv)⟩ : Lvl)] ([] : List Tm)), (Tm.mk 0 0 ([] : List UInt8) ([] : List Lvl) ([] : List Tm)), 0, [(⟨([78, 97, 116, 46, 122, 101, 114, 111] : List UInt8), (Tm.mk 3 0 ([78, 97, 116] : List UInt8) ([] : List Lvl) ([] : List Tm))⟩ : Ctr), (⟨([78, 97, 116, 46, 115, 117, 99, 99] : List UInt8), (Tm.mk 3 0 ([78, 97, 116] : List UInt8) ([] : List Lvl) ([] : List Tm))⟩ : Ctr)], (⟨0, (Tm.mk 0 0 ([] : List UInt8) ([] : List Lvl) ([] : List Tm)), ([] : List Tm)⟩ : Rcr), ([] : List Fn)⟩ : Dcl), (⟨1, ([116, 119, 111] : List UInt8), 0, (Tm.mk 3 0 ([78, 97, 116] : List UInt8) ([] : List Lvl) ([] : List Tm)), (Tm.mk 3 0 ([78, 97, 116, 46, 122, 101, 114, 111] : List UInt8) ([] : List Lvl) ([] : List Tm)), 0, ([] : List Ctr), (⟨0, (Tm.mk 0 0 ([] : List UInt8) ([] : List Lvl) ([] : List Tm)), ([] : List Tm)⟩ : Rcr), ([] : List Fn)⟩ : Dcl)]) ([([78, 97, 116] : List UInt8)]) 3 x5 hx5) rfl (.osl (.one (.app _ _ _) .nil)) rfl rfl rfl) <| XR rfl rfl rfl <| XP rfl rfl rfl (Qe rfl rfl) <| XP rfl rfl rfl (Qe rfl rfl) <| XS rfl rfl rfl <| XS rfl rfl rfl <| Q3 <| Q1 <| Q2 <| Q0 <| XR rfl rfl rfl <| Q9 rfl rfl (W1 rfl) (QY (α := Wy) (([116, 119, 111] : List UInt8)) QQ GY rfl rfl (W1 rfl) (W1 rfl) rfl rfl (.cons (.d _) .nil) rfl) ?_
 refine Qb h0 (fun x6 hx6 h0 => ?_)
 refine Q9 rfl rfl (W1 rfl) (Zy (b := 5) (m15o_ok ([(⟨0, ([112, 108, 117, 115] : List UInt8), 0, (Tm.mk 3 0 ([78, 97, 116] : List UInt8) ([] : List Lvl) ([] : List Tm)), (Tm.mk 0 0 ([] : List UInt8) ([] : List Lvl) ([] : List Tm)), 0, ([] : List Ctr), (⟨0, (Tm.mk 0 0 ([] : List UInt8) ([] : List Lvl) ([] : List Tm)), ([] : List Tm)⟩ : Rcr), ([] : List Fn)⟩ : Dcl), (⟨3, ([78, 97, 116] : List UInt8), 0, (Tm.mk 2 0 ([] : List UInt8) [(⟨0, ([] : List Wv)⟩ : Lvl)] ([] : List Tm)), (Tm.mk 0 0 ([] : List UInt8) ([] : List Lvl) ([] : List Tm)), 0, [(⟨([78, 97, 116, 46, 122, 101, 114, 111] : List UInt8), (Tm.mk 3 0 ([78, 97, 116] : List UInt8) ([] : List Lvl) ([] : List Tm))⟩ : Ctr), (⟨([78, 97, 116, 46, 115, 117, 99, 99] : List UInt8), (Tm.mk 3 0 ([78, 97, 116] : List UInt8) ([] : List Lvl) ([] : List Tm))⟩ : Ctr)], (⟨0, (Tm.mk 0 0 ([] : List UInt8) ([] : List Lvl) ([] : List Tm)), ([] : List Tm)⟩ : Rcr), ([] : List Fn)⟩ : Dcl), (⟨1, ([116, 119, 111] : List UInt8), 0, (Tm.mk 3 0 ([78, 97, 116] : List UInt8) ([] : List Lvl) ([] : List Tm)), (Tm.mk 3 0 ([78, 97, 116, 46, 122, 101, 114, 111] : List UInt8) ([] : List Lvl) ([] : List Tm)), 0, ([] : List Ctr), (⟨0, (Tm.mk 0 0 ([] : List UInt8) ([] : List Lvl) ([] : List Tm)), ([] : List Tm)⟩ : Rcr), ([] : List Fn)⟩ : Dcl)]) ([([116, 119, 111] : List UInt8)]) 3 x6 hx6) rfl (.osl (.one (.app _ _ _) .nil)) rfl rfl rfl) <| XR rfl rfl rfl <| XP rfl rfl rfl (Qe rfl rfl) <| XP rfl rfl rfl (Qe rfl rfl) <| XS rfl rfl rfl <| XS rfl rfl rfl <| Q3 <| Q1 <| Q2 <| Q0 <| XR rfl rfl rfl <| XP rfl rfl rfl (JE bd_42 rfl rfl rfl rfl) ?_
 refine Qb h0 (fun x7 hx7 h0 => ?_)
 refine QO h0 (fun g8 h0 => ?_)
 refine XP rfl rfl rfl (Jk (α := Dcl) J5 rfl rfl hx7 g8) <| XP rfl rfl rfl (Q8 fo_48_4 rfl) ?_
 refine QA rfl rfl (OpOK.storeOP (α := Dcl) (y' := .agg [Wg 3, Wg 0, YK ([116, 119, 111] : List UInt8), We ([] : List Lvl), We ([] : List Tm)]) [(⟨0, ([112, 108, 117, 115] : List UInt8), 0, (Tm.mk 3 0 ([78, 97, 116] : List UInt8) ([] : List Lvl) ([] : List Tm)), (Tm.mk 0 0 ([] : List UInt8) ([] : List Lvl) ([] : List Tm)), 0, ([] : List Ctr), (⟨0, (Tm.mk 0 0 ([] : List UInt8) ([] : List Lvl) ([] : List Tm)), ([] : List Tm)⟩ : Rcr), ([] : List Fn)⟩ : Dcl), (⟨3, ([78, 97, 116] : List UInt8), 0, (Tm.mk 2 0 ([] : List UInt8) [(⟨0, ([] : List Wv)⟩ : Lvl)] ([] : List Tm)), (Tm.mk 3 0 ([116, 119, 111] : List UInt8) [] []), 0, [(⟨([78, 97, 116, 46, 122, 101, 114, 111] : List UInt8), (Tm.mk 3 0 ([78, 97, 116] : List UInt8) ([] : List Lvl) ([] : List Tm))⟩ : Ctr), (⟨([78, 97, 116, 46, 115, 117, 99, 99] : List UInt8), (Tm.mk 3 0 ([78, 97, 116] : List UInt8) ([] : List Lvl) ([] : List Tm))⟩ : Ctr)], (⟨0, (Tm.mk 0 0 ([] : List UInt8) ([] : List Lvl) ([] : List Tm)), ([] : List Tm)⟩ : Rcr), ([] : List Fn)⟩ : Dcl), (⟨1, ([116, 119, 111] : List UInt8), 0, (Tm.mk 3 0 ([78, 97, 116] : List UInt8) ([] : List Lvl) ([] : List Tm)), (Tm.mk 3 0 ([78, 97, 116, 46, 122, 101, 114, 111] : List UInt8) ([] : List Lvl) ([] : List Tm)), 0, ([] : List Ctr), (⟨0, (Tm.mk 0 0 ([] : List UInt8) ([] : List Lvl) ([] : List Tm)), ([] : List Tm)⟩ : Rcr), ([] : List Fn)⟩ : Dcl)] JH rfl rfl (.agg (.cons (.d _) (.cons (.d _) (.cons (.d _) (.cons (.nil _) (.cons (.nil _) .nil)))))) rfl rfl rfl (by kernel_rfl) rfl) ?_
 refine Q3 <| Q1 <| Q2 <| Q0 <| XR rfl rfl rfl ?_
 refine Qb h0 (fun x9 hx9 h0 => ?_)
 refine Q9 rfl rfl (W1 rfl) (Zy (b := 5) (m22o_ok ([(⟨0, ([112, 108, 117, 115] : List UInt8), 0, (Tm.mk 3 0 ([78, 97, 116] : List UInt8) ([] : List Lvl) ([] : List Tm)), (Tm.mk 0 0 ([] : List UInt8) ([] : List Lvl) ([] : List Tm)), 0, ([] : List Ctr), (⟨0, (Tm.mk 0 0 ([] : List UInt8) ([] : List Lvl) ([] : List Tm)), ([] : List Tm)⟩ : Rcr), ([] : List Fn)⟩ : Dcl), (⟨3, ([78, 97, 116] : List UInt8), 0, (Tm.mk 2 0 ([] : List UInt8) [(⟨0, ([] : List Wv)⟩ : Lvl)] ([] : List Tm)), (Tm.mk 3 0 ([116, 119, 111] : List UInt8) [] []), 0, [(⟨([78, 97, 116, 46, 122, 101, 114, 111] : List UInt8), (Tm.mk 3 0 ([78, 97, 116] : List UInt8) ([] : List Lvl) ([] : List Tm))⟩ : Ctr), (⟨([78, 97, 116, 46, 115, 117, 99, 99] : List UInt8), (Tm.mk 3 0 ([78, 97, 116] : List UInt8) ([] : List Lvl) ([] : List Tm))⟩ : Ctr)], (⟨0, (Tm.mk 0 0 ([] : List UInt8) ([] : List Lvl) ([] : List Tm)), ([] : List Tm)⟩ : Rcr), ([] : List Fn)⟩ : Dcl), (⟨1, ([116, 119, 111] : List UInt8), 0, (Tm.mk 3 0 ([78, 97, 116] : List UInt8) ([] : List Lvl) ([] : List Tm)), (Tm.mk 3 0 ([78, 97, 116, 46, 122, 101, 114, 111] : List UInt8) ([] : List Lvl) ([] : List Tm)), 0, ([] : List Ctr), (⟨0, (Tm.mk 0 0 ([] : List UInt8) ([] : List Lvl) ([] : List Tm)), ([] : List Tm)⟩ : Rcr), ([] : List Fn)⟩ : Dcl)]) 3 x9 hx9) rfl (.osl .nil) rfl rfl rfl) <| XR rfl rfl rfl <| XP rfl rfl rfl (Qe rfl rfl) <| XP rfl rfl rfl (Qe rfl rfl) <| XS rfl rfl rfl <| XS rfl rfl rfl <| Q3 <| Q1 <| Q2 <| Q2 ?_
 refine Jy (fun (v10 : Bool) => ⟨[(2, .v (.one (We x3.1))), (4, .v (.one (We x4.1))), (6, .v (.one (We x5.1))), (8, .v (.one (We x6.1))), (71, .v (.one (Wh v10)))], [(5, .cells 48 (Q6 (([(⟨0, ([112, 108, 117, 115] : List UInt8), 0, (Tm.mk 3 0 ([78, 97, 116] : List UInt8) ([] : List Lvl) ([] : List Tm)), (Tm.mk 0 0 ([] : List UInt8) ([] : List Lvl) ([] : List Tm)), 0, ([] : List Ctr), (⟨0, (Tm.mk 0 0 ([] : List UInt8) ([] : List Lvl) ([] : List Tm)), ([] : List Tm)⟩ : Rcr), ([] : List Fn)⟩ : Dcl), (⟨3, ([78, 97, 116] : List UInt8), 0, (Tm.mk 2 0 ([] : List UInt8) [(⟨0, ([] : List Wv)⟩ : Lvl)] ([] : List Tm)), (Tm.mk 3 0 ([116, 119, 111] : List UInt8) [] []), 0, [(⟨([78, 97, 116, 46, 122, 101, 114, 111] : List UInt8), (Tm.mk 3 0 ([78, 97, 116] : List UInt8) ([] : List Lvl) ([] : List Tm))⟩ : Ctr), (⟨([78, 97, 116, 46, 115, 117, 99, 99] : List UInt8), (Tm.mk 3 0 ([78, 97, 116] : List UInt8) ([] : List Lvl) ([] : List Tm))⟩ : Ctr)], (⟨0, (Tm.mk 0 0 ([] : List UInt8) ([] : List Lvl) ([] : List Tm)), ([] : List Tm)⟩ : Rcr), ([] : List Fn)⟩ : Dcl), (⟨1, ([116, 119, 111] : List UInt8), 0, (Tm.mk 3 0 ([78, 97, 116] : List UInt8) ([] : List Lvl) ([] : List Tm)), (Tm.mk 3 0 ([78, 97, 116, 46, 122, 101, 114, 111] : List UInt8) ([] : List Lvl) ([] : List Tm)), 0, ([] : List Ctr), (⟨0, (Tm.mk 0 0 ([] : List UInt8) ([] : List Lvl) ([] : List Tm)), ([] : List Tm)⟩ : Rcr), ([] : List Fn)⟩ : Dcl)]) : List Dcl)))], [(6, some ⟨9, 1, (Enc.encL ([([78, 97, 116] : List UInt8)] : List Wy)).length, []⟩), (7, some ⟨9, 1, (Enc.encL ([([116, 119, 111] : List UInt8)] : List Wy)).length, []⟩)], 8, 115, []⟩) (fun (v10 : Bool) => (cond v10
     (some false)
     (Option.bind (Option.bind (J1 x3.1 0) fun (x13 : List Int) =>
   Option.bind (Xv x13 ([1])) fun (x14 : Bool) =>
   cond x14
     (Option.bind (J1 x3.1 1) fun (x16 : List Int) =>
   cond ((x16.length : Int) == 0)
     (Option.bind (J1 x3.1 2) fun (x18 : List Int) =>
   Option.bind (Xv x18 ([1])) fun (x19 : Bool) =>
   cond x19
     (Option.bind (Xv x4.1 ([1, 0, 2])) fun (x21 : Bool) =>
   cond x21
     (Option.bind (XE x5.1 ([([112, 108, 117, 115] : List UInt8), ([78, 97, 116] : List UInt8), ([78, 97, 116, 46, 122, 101, 114, 111] : List UInt8), ([78, 97, 116, 46, 115, 117, 99, 99] : List UInt8), ([78, 97, 116, 46, 114, 101, 99] : List UInt8), ([116, 119, 111] : List UInt8)])) fun (x23 : Bool) =>
   cond x23
     (Option.bind (J1 x6.1 0) fun (x25 : Dcl) =>
   cond (x25.name == ([78, 97, 116] : List UInt8))
     (Option.bind (J1 x6.1 1) fun (x27 : Dcl) =>
   some (x27.name == ([116, 119, 111] : List UInt8)))
     (some false))
     (some false))
     (some false))
     (some false))
     (some false))
     (some false)) (fun (v12 : Bool) => some v12))) = some r) ?_ ?_
 refine Qb h0 (fun w1_ h1 h0 => ?_)
 refine Q0 <| XR rfl rfl rfl <| XP rfl rfl rfl (Q4 rfl rfl rfl) <| XR rfl rfl rfl ?_
 refine Ja (d := 46) (c := (x3.2 != 0)) rfl (fun c11 => ?_) (fun c11 => ?_)
 replace h1 := Qu c11 h1
 refine Qa rfl rfl <| Qa rfl rfl <| XP rfl rfl rfl (QC rfl rfl) <| XR rfl rfl rfl <| Qa rfl rfl <| Qa rfl rfl <| XP rfl rfl rfl (QC rfl rfl) <| XR rfl rfl rfl <| Qa rfl rfl <| Qa rfl rfl <| XP rfl rfl rfl (QC rfl rfl) <| XR rfl rfl rfl <| Qa rfl rfl <| Qa rfl rfl ?_
 refine XP rfl rfl rfl (QC rfl rfl) <| XR rfl rfl rfl <| Qa rfl rfl <| Qa rfl rfl <| Qa rfl rfl <| XP rfl rfl rfl (QC rfl rfl) <| XR rfl rfl rfl <| Qa rfl rfl <| Qa rfl rfl <| Qa rfl rfl <| XP rfl rfl rfl (QC rfl rfl) <| Q3 ?_
 have e := XN h1; subst e
 exact QG true (Qh (XK rfl (XK rfl (XK rfl (XK rfl (XK rfl XJ))))) (W8 rfl W7) (W4 rfl (W4 rfl W3)) rfl (Nat.zero_le _) rfl rfl rfl (Wo rfl Wm) rfl rfl) h0
 replace h1 := Qv c11 h1
 refine XR rfl rfl rfl <| XP rfl rfl rfl (Q4 rfl rfl rfl) <| XP rfl rfl rfl (QL rfl rfl) <| XR rfl rfl rfl ?_
 refine Ja (d := 50) (c := (x4.2 != 0)) rfl (fun c12 => ?_) (fun c12 => ?_)
 replace h1 := Qu c12 h1
 refine Qa rfl rfl <| Qa rfl rfl <| XP rfl rfl rfl (QC rfl rfl) <| XR rfl rfl rfl <| Qa rfl rfl <| Qa rfl rfl <| XP rfl rfl rfl (QC rfl rfl) <| XR rfl rfl rfl <| Qa rfl rfl <| Qa rfl rfl <| XP rfl rfl rfl (QC rfl rfl) <| XR rfl rfl rfl <| Qa rfl rfl <| Qa rfl rfl ?_
 refine Qa rfl rfl <| XP rfl rfl rfl (QC rfl rfl) <| XR rfl rfl rfl <| Qa rfl rfl <| Qa rfl rfl <| Qa rfl rfl <| XP rfl rfl rfl (QC rfl rfl) <| Q3 ?_
 have e := XN h1; subst e
 exact QG true (Qh (XK rfl (XK rfl (XK rfl (XK rfl (XK rfl XJ))))) (W8 rfl W7) (W4 rfl (W4 rfl W3)) rfl (Nat.zero_le _) rfl rfl rfl (Wo rfl Wm) rfl rfl) h0
 replace h1 := Qv c12 h1
 refine XR rfl rfl rfl <| XP rfl rfl rfl (Q4 rfl rfl rfl) <| XP rfl rfl rfl (QL rfl rfl) <| XR rfl rfl rfl ?_
 refine Ja (d := 54) (c := (x5.2 != 0)) rfl (fun c13 => ?_) (fun c13 => ?_)
 replace h1 := Qu c13 h1
 refine Qa rfl rfl <| Qa rfl rfl <| XP rfl rfl rfl (QC rfl rfl) <| XR rfl rfl rfl <| Qa rfl rfl <| Qa rfl rfl <| XP rfl rfl rfl (QC rfl rfl) <| XR rfl rfl rfl <| Qa rfl rfl <| Qa rfl rfl <| Qa rfl rfl <| XP rfl rfl rfl (QC rfl rfl) <| XR rfl rfl rfl <| Qa rfl rfl ?_
 refine Qa rfl rfl <| Qa rfl rfl <| XP rfl rfl rfl (QC rfl rfl) <| Q3 ?_
 have e := XN h1; subst e
 exact QG true (Qh (XK rfl (XK rfl (XK rfl (XK rfl (XK rfl XJ))))) (W8 rfl W7) (W4 rfl (W4 rfl W3)) rfl (Nat.zero_le _) rfl rfl rfl (Wo rfl Wm) rfl rfl) h0
 replace h1 := Qv c13 h1
 refine XR rfl rfl rfl <| XP rfl rfl rfl (Q4 rfl rfl rfl) <| XP rfl rfl rfl (QL rfl rfl) <| XR rfl rfl rfl ?_
 refine Ja (d := 58) (c := (x6.2 != 0)) rfl (fun c14 => ?_) (fun c14 => ?_)
 replace h1 := Qu c14 h1
 refine Qa rfl rfl <| Qa rfl rfl <| XP rfl rfl rfl (QC rfl rfl) <| XR rfl rfl rfl <| Qa rfl rfl <| Qa rfl rfl <| Qa rfl rfl <| XP rfl rfl rfl (QC rfl rfl) <| XR rfl rfl rfl <| Qa rfl rfl <| Qa rfl rfl <| Qa rfl rfl <| XP rfl rfl rfl (QC rfl rfl) <| Q3 ?_
 have e := XN h1; subst e
 exact QG true (Qh (XK rfl (XK rfl (XK rfl (XK rfl (XK rfl XJ))))) (W8 rfl W7) (W4 rfl (W4 rfl W3)) rfl (Nat.zero_le _) rfl rfl rfl (Wo rfl Wm) rfl rfl) h0
 replace h1 := Qv c14 h1
 refine XR rfl rfl rfl <| XP rfl rfl rfl (Q4 rfl rfl rfl) <| XP rfl rfl rfl (QL rfl rfl) <| XR rfl rfl rfl ?_
 refine Ja (d := 62) (c := (x9.2 != 22)) rfl (fun c15 => ?_) (fun c15 => ?_)
 replace h1 := Qu c15 h1
 refine Qa rfl rfl <| Qa rfl rfl <| Qa rfl rfl <| XP rfl rfl rfl (QC rfl rfl) <| XR rfl rfl rfl <| Qa rfl rfl <| Qa rfl rfl <| Qa rfl rfl <| XP rfl rfl rfl (QC rfl rfl) <| Q3 ?_
 have e := XN h1; subst e
 exact QG true (Qh (XK rfl (XK rfl (XK rfl (XK rfl (XK rfl XJ))))) (W8 rfl W7) (W4 rfl (W4 rfl W3)) rfl (Nat.zero_le _) rfl rfl rfl (Wo rfl Wm) rfl rfl) h0
 replace h1 := Qv c15 h1
 refine XR rfl rfl rfl <| XP rfl rfl rfl (Qy (α := List Int) Y3 rfl (.d _)) <| XP rfl rfl rfl (Q4 rfl rfl rfl) <| XP rfl rfl rfl (QL rfl rfl) <| XR rfl rfl rfl ?_
 refine Ja (d := 67) (c := ((x3.1.length : Int) != 3)) rfl (fun c16 => ?_) (fun c16 => ?_)
 replace h1 := Qu c16 h1
 refine Qa rfl rfl <| Qa rfl rfl <| Qa rfl rfl <| XP rfl rfl rfl (QC rfl rfl) <| Q3 ?_
 have e := XN h1; subst e
 exact QG true (Qh (XK rfl (XK rfl (XK rfl (XK rfl (XK rfl XJ))))) (W8 rfl W7) (W4 rfl (W4 rfl W3)) rfl (Nat.zero_le _) rfl rfl rfl (Wo rfl Wm) rfl rfl) h0
 replace h1 := Qv c16 h1
 refine XR rfl rfl rfl <| XP rfl rfl rfl (Qy (α := Dcl) J5 rfl (.d _)) <| XP rfl rfl rfl (Q4 rfl rfl rfl) <| XP rfl rfl rfl (QL rfl rfl) <| Q3 ?_
 have e := XN h1; subst e
 exact QG ((x6.1.length : Int) != 2) (Qh (XK rfl (XK rfl (XK rfl (XK rfl (XK rfl XJ))))) (W8 rfl W7) (W4 rfl (W4 rfl W3)) rfl (Nat.zero_le _) rfl rfl rfl (Wo rfl Wm) rfl rfl) h0
 intro v10 h0
 refine Q1 ?_
 refine Qg (b := v10) rfl (fun c17 => ?_) (fun c17 => ?_)
 replace h0 := Qu c17 h0
 refine Q2 <| Q0 <| XS rfl rfl rfl <| Q3 <| Q1 <| Qw ?_
 have e := XN h0; subst e
 exact QX (fun _ _ h => h) rfl (Qp rfl .nil) (.cons (.one (.d _)) .nil)
 replace h0 := Qv c17 h0
 refine Qj <| Q1 <| Q2 ?_
 refine Jy (fun (v18 : Bool) => ⟨[(0, .v (.one (Wh v18)))], [(5, .cells 48 (Q6 (([(⟨0, ([112, 108, 117, 115] : List UInt8), 0, (Tm.mk 3 0 ([78, 97, 116] : List UInt8) ([] : List Lvl) ([] : List Tm)), (Tm.mk 0 0 ([] : List UInt8) ([] : List Lvl) ([] : List Tm)), 0, ([] : List Ctr), (⟨0, (Tm.mk 0 0 ([] : List UInt8) ([] : List Lvl) ([] : List Tm)), ([] : List Tm)⟩ : Rcr), ([] : List Fn)⟩ : Dcl), (⟨3, ([78, 97, 116] : List UInt8), 0, (Tm.mk 2 0 ([] : List UInt8) [(⟨0, ([] : List Wv)⟩ : Lvl)] ([] : List Tm)), (Tm.mk 3 0 ([116, 119, 111] : List UInt8) [] []), 0, [(⟨([78, 97, 116, 46, 122, 101, 114, 111] : List UInt8), (Tm.mk 3 0 ([78, 97, 116] : List UInt8) ([] : List Lvl) ([] : List Tm))⟩ : Ctr), (⟨([78, 97, 116, 46, 115, 117, 99, 99] : List UInt8), (Tm.mk 3 0 ([78, 97, 116] : List UInt8) ([] : List Lvl) ([] : List Tm))⟩ : Ctr)], (⟨0, (Tm.mk 0 0 ([] : List UInt8) ([] : List Lvl) ([] : List Tm)), ([] : List Tm)⟩ : Rcr), ([] : List Fn)⟩ : Dcl), (⟨1, ([116, 119, 111] : List UInt8), 0, (Tm.mk 3 0 ([78, 97, 116] : List UInt8) ([] : List Lvl) ([] : List Tm)), (Tm.mk 3 0 ([78, 97, 116, 46, 122, 101, 114, 111] : List UInt8) ([] : List Lvl) ([] : List Tm)), 0, ([] : List Ctr), (⟨0, (Tm.mk 0 0 ([] : List UInt8) ([] : List Lvl) ([] : List Tm)), ([] : List Tm)⟩ : Rcr), ([] : List Fn)⟩ : Dcl)]) : List Dcl)))], [(6, some ⟨9, 1, (Enc.encL ([([78, 97, 116] : List UInt8)] : List Wy)).length, []⟩), (7, some ⟨9, 1, (Enc.encL ([([116, 119, 111] : List UInt8)] : List Wy)).length, []⟩), (8, some ⟨3, 1, (Enc.encL ([1] : List Int)).length, []⟩)], 9, 115, []⟩) (fun (v18 : Bool) => (some v18) = some r) ?_ ?_
 refine Qb h0 (fun w1_ h1 h0 => ?_)
 refine Q0 <| XR rfl rfl rfl ?_
 refine Qb h1 (fun x19 hx19 h1 => ?_)
 refine XP rfl rfl rfl (Qq (α := List Int) Y3 rfl (.d _) rfl hx19) <| XP rfl rfl rfl (QK Ga rfl rfl) <| Q9 rfl rfl (W1 rfl) (QY (α := Int) (1) JP Xh rfl rfl (W1 rfl) (W1 rfl) rfl rfl (.cons (.d _) .nil) rfl) ?_
 refine Qb h1 (fun x20 hx20 h1 => ?_)
 refine Q9 rfl rfl (W1 rfl) (Qt (m29_ok x19 ([1]) x20 hx20) rfl (.cons (.one (.d _)) (.cons (.one (.app _ _ _)) .nil))) <| XR rfl rfl rfl ?_
 refine Ja (d := 77) (c := x20) rfl (fun c21 => ?_) (fun c21 => ?_)
 replace h1 := Qu c21 h1
 refine XR rfl rfl rfl ?_
 refine Qb h1 (fun x22 hx22 h1 => ?_)
 refine XP rfl rfl rfl (Qq (α := List Int) Y3 rfl (.d _) rfl hx22) <| XP rfl rfl rfl (QK Ga rfl rfl) <| XP rfl rfl rfl (Qy (α := Int) JP rfl (.d _)) <| XP rfl rfl rfl (Q4 rfl rfl rfl) <| XP rfl rfl rfl (QC rfl rfl) <| XR rfl rfl rfl ?_
 refine Ja (d := 84) (c := ((x22.length : Int) == 0)) rfl (fun c23 => ?_) (fun c23 => ?_)
 replace h1 := Qu c23 h1
 refine XR rfl rfl rfl ?_
 refine Qb h1 (fun x24 hx24 h1 => ?_)
 refine XP rfl rfl rfl (Qq (α := List Int) Y3 rfl (.d _) rfl hx24) <| XP rfl rfl rfl (QK Ga rfl rfl) <| Q9 rfl rfl (W1 rfl) (QY (α := Int) (1) JP Xh rfl rfl (W1 rfl) (W1 rfl) rfl rfl (.cons (.d _) .nil) rfl) ?_
 refine Qb h1 (fun x25 hx25 h1 => ?_)
 refine Q9 rfl rfl (W1 rfl) (Qt (m29_ok x24 ([1]) x25 hx25) rfl (.cons (.one (.d _)) (.cons (.one (.app _ _ _)) .nil))) <| XP rfl rfl rfl (QC rfl rfl) <| XR rfl rfl rfl ?_
 refine Ja (d := 91) (c := x25) rfl (fun c26 => ?_) (fun c26 => ?_)
 replace h1 := Qu c26 h1
 refine XR rfl rfl rfl <| Q9 rfl rfl (W1 rfl) (OpOK.lit3E (α := Int) 1 0 2 JP Xh rfl rfl (W1 rfl) (W1 rfl) rfl rfl rfl rfl (.cons (.d _) (.cons (.d _) (.cons (.d _) .nil))) ⟨rfl, rfl, rfl⟩) ?_
 refine Qb h1 (fun x27 hx27 h1 => ?_)
 refine Q9 rfl rfl (W1 rfl) (Qt (m29_ok x4.1 ([1, 0, 2]) x27 hx27) rfl (.cons (.one (.d _)) (.cons (.one (.app _ _ _)) .nil))) <| XP rfl rfl rfl (QC rfl rfl) <| XR rfl rfl rfl ?_
 refine Ja (d := 96) (c := x27) rfl (fun c28 => ?_) (fun c28 => ?_)
 replace h1 := Qu c28 h1
 refine XR rfl rfl rfl <| Q9 rfl rfl (W1 rfl) (OpOK.data6E (α := Wy) ([112, 108, 117, 115] : List UInt8) ([78, 97, 116] : List UInt8) ([78, 97, 116, 46, 122, 101, 114, 111] : List UInt8) ([78, 97, 116, 46, 115, 117, 99, 99] : List UInt8) ([78, 97, 116, 46, 114, 101, 99] : List UInt8) ([116, 119, 111] : List UInt8) QQ GY rfl rfl (W1 rfl) rfl rfl rfl rfl rfl rfl rfl (.cons (.d _) (.cons (.d _) (.cons (.d _) (.cons (.d _) (.cons (.d _) (.cons (.d _) .nil)))))) ⟨rfl, rfl, rfl, rfl, rfl, rfl⟩) ?_
 refine Qb h1 (fun x29 hx29 h1 => ?_)
 refine Q9 rfl rfl (W1 rfl) (Qt (m14_ok x5.1 ([([112, 108, 117, 115] : List UInt8), ([78, 97, 116] : List UInt8), ([78, 97, 116, 46, 122, 101, 114, 111] : List UInt8), ([78, 97, 116, 46, 115, 117, 99, 99] : List UInt8), ([78, 97, 116, 46, 114, 101, 99] : List UInt8), ([116, 119, 111] : List UInt8)]) x29 hx29) rfl (.cons (.one (.d _)) (.cons (.one (.d _)) .nil))) <| XP rfl rfl rfl (QC rfl rfl) <| XR rfl rfl rfl ?_
 refine Ja (d := 101) (c := x29) rfl (fun c30 => ?_) (fun c30 => ?_)
 replace h1 := Qu c30 h1
 refine XR rfl rfl rfl ?_
 refine Qb h1 (fun x31 hx31 h1 => ?_)
 refine XP rfl rfl rfl (Qq (α := Dcl) J5 rfl (.d _) rfl hx31) <| XP rfl rfl rfl (JN Za rfl) <| XP rfl rfl rfl (QK Y6 rfl rfl) <| XP rfl rfl rfl (RO.eqS rfl rfl) <| XP rfl rfl rfl (QC rfl rfl) <| XR rfl rfl rfl ?_
 refine Ja (d := 108) (c := (x31.name == ([78, 97, 116] : List UInt8))) rfl (fun c32 => ?_) (fun c32 => ?_)
 replace h1 := Qu c32 h1
 refine XR rfl rfl rfl ?_
 refine Qb h1 (fun x33 hx33 h1 => ?_)
 refine XP rfl rfl rfl (Qq (α := Dcl) J5 rfl (.d _) rfl hx33) <| XP rfl rfl rfl (JN Za rfl) <| XP rfl rfl rfl (QK Y6 rfl rfl) <| XP rfl rfl rfl (RO.eqS rfl rfl) <| XP rfl rfl rfl (QC rfl rfl) <| XS rfl rfl rfl <| Q3 ?_
 have e := XN h1; subst e
 exact QG (x33.name == ([116, 119, 111] : List UInt8)) (Qh (XK rfl XJ) (W8 rfl W7) (W4 rfl (W4 rfl (W4 rfl W3))) rfl (Nat.zero_le _) rfl rfl rfl (Wo rfl Wm) rfl rfl) h0
 replace h1 := Qv c32 h1
 refine Qa rfl rfl <| Qa rfl rfl <| Qa rfl rfl <| Qa rfl rfl <| Qa rfl rfl <| XP rfl rfl rfl (QL rfl rfl) <| XS rfl rfl rfl <| Q3 ?_
 have e := XN h1; subst e
 exact QG false (Qh (XK rfl XJ) (W8 rfl W7) (W4 rfl (W4 rfl (W4 rfl W3))) rfl (Nat.zero_le _) rfl rfl rfl (Wo rfl Wm) rfl rfl) h0
 replace h1 := Qv c30 h1
 refine Qa rfl rfl <| Qa rfl rfl <| Qa rfl rfl <| Qa rfl rfl <| Qa rfl rfl <| XP rfl rfl rfl (QL rfl rfl) <| XR rfl rfl rfl <| Qa rfl rfl <| Qa rfl rfl <| Qa rfl rfl <| Qa rfl rfl <| Qa rfl rfl <| XP rfl rfl rfl (QL rfl rfl) <| XS rfl rfl rfl ?_
 refine Q3 ?_
 have e := XN h1; subst e
 exact QG false (Qh (XK rfl XJ) (W8 rfl W7) (W4 rfl (W4 rfl (W4 rfl W3))) rfl (Nat.zero_le _) rfl rfl rfl (Wo rfl Wm) rfl rfl) h0
 replace h1 := Qv c28 h1
 refine Qa rfl rfl <| Qa rfl rfl <| Qa rfl rfl <| XP rfl rfl rfl (QL rfl rfl) <| XR rfl rfl rfl <| Qa rfl rfl <| Qa rfl rfl <| Qa rfl rfl <| Qa rfl rfl <| Qa rfl rfl <| XP rfl rfl rfl (QL rfl rfl) <| XR rfl rfl rfl <| Qa rfl rfl <| Qa rfl rfl ?_
 refine Qa rfl rfl <| Qa rfl rfl <| Qa rfl rfl <| XP rfl rfl rfl (QL rfl rfl) <| XS rfl rfl rfl <| Q3 ?_
 have e := XN h1; subst e
 exact QG false (Qh (XK rfl XJ) (W8 rfl W7) (W4 rfl (W4 rfl (W4 rfl W3))) rfl (Nat.zero_le _) rfl rfl rfl (Wo rfl Wm) rfl rfl) h0
 replace h1 := Qv c26 h1
 refine Qa rfl rfl <| Qa rfl rfl <| Qa rfl rfl <| XP rfl rfl rfl (QL rfl rfl) <| XR rfl rfl rfl <| Qa rfl rfl <| Qa rfl rfl <| Qa rfl rfl <| XP rfl rfl rfl (QL rfl rfl) <| XR rfl rfl rfl <| Qa rfl rfl <| Qa rfl rfl <| Qa rfl rfl <| Qa rfl rfl ?_
 refine Qa rfl rfl <| XP rfl rfl rfl (QL rfl rfl) <| XR rfl rfl rfl <| Qa rfl rfl <| Qa rfl rfl <| Qa rfl rfl <| Qa rfl rfl <| Qa rfl rfl <| XP rfl rfl rfl (QL rfl rfl) <| XS rfl rfl rfl <| Q3 ?_
 have e := XN h1; subst e
 exact QG false (Qh (XK rfl XJ) (W8 rfl W7) (W4 rfl (W4 rfl (W4 rfl W3))) rfl (Nat.zero_le _) rfl rfl rfl (Wo rfl Wm) rfl rfl) h0
 replace h1 := Qv c23 h1
 refine Qa rfl rfl <| Qa rfl rfl <| Qa rfl rfl <| Qa rfl rfl <| Qa rfl rfl <| XP rfl rfl rfl (QL rfl rfl) <| XR rfl rfl rfl <| Qa rfl rfl <| Qa rfl rfl <| Qa rfl rfl <| XP rfl rfl rfl (QL rfl rfl) <| XR rfl rfl rfl <| Qa rfl rfl <| Qa rfl rfl ?_
 refine Qa rfl rfl <| XP rfl rfl rfl (QL rfl rfl) <| XR rfl rfl rfl <| Qa rfl rfl <| Qa rfl rfl <| Qa rfl rfl <| Qa rfl rfl <| Qa rfl rfl <| XP rfl rfl rfl (QL rfl rfl) <| XR rfl rfl rfl <| Qa rfl rfl <| Qa rfl rfl <| Qa rfl rfl <| Qa rfl rfl ?_
 refine Qa rfl rfl <| XP rfl rfl rfl (QL rfl rfl) <| XS rfl rfl rfl <| Q3 ?_
 have e := XN h1; subst e
 exact QG false (Qh (XK rfl XJ) (W8 rfl W7) (W4 rfl (W4 rfl (W4 rfl W3))) rfl (Nat.zero_le _) rfl rfl rfl (Wo rfl Wm) rfl rfl) h0
 replace h1 := Qv c21 h1
 refine Qa rfl rfl <| Qa rfl rfl <| Qa rfl rfl <| Qa rfl rfl <| Qa rfl rfl <| XP rfl rfl rfl (QL rfl rfl) <| XR rfl rfl rfl <| Qa rfl rfl <| Qa rfl rfl <| Qa rfl rfl <| Qa rfl rfl <| Qa rfl rfl <| XP rfl rfl rfl (QL rfl rfl) <| XR rfl rfl rfl ?_
 refine Qa rfl rfl <| Qa rfl rfl <| Qa rfl rfl <| XP rfl rfl rfl (QL rfl rfl) <| XR rfl rfl rfl <| Qa rfl rfl <| Qa rfl rfl <| Qa rfl rfl <| XP rfl rfl rfl (QL rfl rfl) <| XR rfl rfl rfl <| Qa rfl rfl <| Qa rfl rfl <| Qa rfl rfl <| Qa rfl rfl ?_
 refine Qa rfl rfl <| XP rfl rfl rfl (QL rfl rfl) <| XR rfl rfl rfl <| Qa rfl rfl <| Qa rfl rfl <| Qa rfl rfl <| Qa rfl rfl <| Qa rfl rfl <| XP rfl rfl rfl (QL rfl rfl) <| XS rfl rfl rfl <| Q3 ?_
 have e := XN h1; subst e
 exact QG false (Qh (XK rfl XJ) (W8 rfl W7) (W4 rfl (W4 rfl (W4 rfl W3))) rfl (Nat.zero_le _) rfl rfl rfl (Wo rfl Wm) rfl rfl) h0
 intro v18 h0
 refine Q1 <| Qw ?_
 have e := XN h0; subst e
 exact QX (fun _ _ h => h) rfl (Qp rfl .nil) (.cons (.one (.d _)) .nil)
theorem m11_true : KU = some true := by kernel_rfl
end Go.Proofs.Ytijcchddnnnmdaa
namespace Go.Proofs.Ytijcchddnnnmdaa
open Go.RowKit Go.Shelf
set_option linter.unusedSimpArgs false
set_option linter.unusedVariables false
def m8_l0 (x4 : (List (List Int)) × Int) (x5 : (List (List Int)) × Int) (s3 : Int) : Option (LO Int (Unit ⊕ Bool)) :=
 cond (decide (s3 < (x4.1.length : Int)))
   (Option.bind (J1 x4.1 s3) fun (x15 : List Int) =>
 Option.bind (J1 x5.1 s3) fun (x16 : List Int) =>
 Option.bind (Option.bind (Xv x15 x16) fun (x19 : Bool) =>
 some x19) (fun (y17 : Bool) => cond (!y17)
   (some (.done (.inr false)))
   (some (.next (QW (s3 + 1))))))
   (some (.done (.inl ())))
def m8 (a0 : List Dcl) : Option Bool :=
 Option.bind (XX a0) fun (x1 : Bool) =>
 cond (!x1)
   (Option.bind (KU ) fun (x3 : Bool) =>
 some x3)
   (Option.bind (m23 a0) fun (x4 : (List (List Int)) × Int) =>
 Option.bind (m25 a0) fun (x5 : (List (List Int)) × Int) =>
 Option.bind (m22 a0) fun (x6 : (List Int) × Int) =>
 Option.bind (m26 a0) fun (x7 : (List Int) × Int) =>
 Option.bind (cond (x4.2 == x5.2)
   (Option.bind (cond ((x4.1.length : Int) != (x5.1.length : Int))
   (some false)
   (Option.bind (Qo (m8_l0 x4 x5) QB 0) (Sum.elim (fun (o13 : Unit) => some true) (fun o => some o)))) (fun (y10 : Bool) => cond y10
   (cond (x6.2 == x7.2)
   (Option.bind (Xv x6.1 x7.1) fun (x24 : Bool) =>
 cond x24
   (Option.bind (KU ) fun (x26 : Bool) =>
 some x26)
   (some false))
   (some false))
   (some false)))
   (some false)) (fun (v8 : Bool) => some v8))
end Go.Proofs.Ytijcchddnnnmdaa
namespace Go.Proofs.Ytijcchddnnnmdaa
open Go.RowKit Go.Shelf
set_option linter.unusedSimpArgs false
set_option linter.unusedVariables false
def m10_l0 (a0 : List Wy) (s4 : Int) : Option (LO Int (Unit ⊕ Int)) :=
 cond (decide (s4 < (a0.length : Int)))
   (Option.bind (J1 a0 s4) fun (x9 : Wy) =>
 Option.bind (some ()) (fun (y10 : Unit) => cond (decide (100 < (x9.length : Int)))
   (some (.done (.inr s4)))
   (some (.next (QW (s4 + 1))))))
   (some (.done (.inl ())))
def m10 (a0 : List Wy) : Option Bool :=
 Option.bind (cond (decide ((a0.length : Int) ≤ 20))
   (Option.bind (Option.bind (Option.bind (Qo (m10_l0 a0) QB 0) (Sum.elim (fun (o7 : Unit) => some (-1)) (fun o => some o))) (fun (y5 : Int) => some (decide (0 ≤ y5)))) (fun (y3 : Bool) => some (!y3)))
   (some false)) (fun (v1 : Bool) => some v1)
end Go.Proofs.Ytijcchddnnnmdaa
namespace Go.Proofs.Ytijcchddnnnmdaa
open Go.RowKit Go.Shelf
set_option linter.unusedSimpArgs false
set_option linter.unusedVariables false
def XZ (a0 : List Dcl) (a1 : List Wy) : Option Bool :=
 Option.bind (Option.bind (XX a0) fun (x2 : Bool) =>
 cond (!x2)
   (some true)
   (Option.bind (m10 a1) fun (x4 : Bool) =>
 some (!x4))) (fun (v1 : Bool) => cond v1
   (Option.bind (KU ) fun (x3 : Bool) =>
 some x3)
   (Option.bind (Xw a0 a1) fun (x4 : (List Wy) × Int) =>
 Option.bind (m13 a0 a1) fun (x5 : (List Wy) × Int) =>
 Option.bind (cond (x4.2 == x5.2)
   (Option.bind (XE x4.1 x5.1) fun (x8 : Bool) =>
 cond x8
   (Option.bind (KU ) fun (x10 : Bool) =>
 some x10)
   (some false))
   (some false)) (fun (v6 : Bool) => some v6)))
end Go.Proofs.Ytijcchddnnnmdaa
namespace Go.Proofs.Ytijcchddnnnmdaa
open Go.RowKit Go.Lib
set_option linter.unusedSimpArgs false
set_option linter.unusedVariables false
set_option linter.unusedSectionVars false
def Gt (b : List Bool) : Nat → List Dcl → List Dcl
  | _, [] => []
  | i, d :: l => cond (b[i]? == some true) (d :: Gt b (i + 1) l) (Gt b (i + 1) l)
theorem sel_app (b : List Bool) (c : List Dcl) : ∀ (a : List Dcl) (i : Nat), Gt b i (a ++ c) = Gt b i a ++ Gt b (i + a.length) c
  | [], i => rfl
  | d :: a, i => by
    simp only [List.cons_append, Gt]
    rw [sel_app b c a (i + 1), show i + 1 + a.length = i + (d :: a).length by simp only [List.length_cons]; omega]
    cases (b[i]? == some true) <;> rfl
theorem sel_sub (b : List Bool) : ∀ (l : List Dcl) (i : Nat), (Gt b i l).Sublist l
  | [], i => List.Sublist.refl _
  | d :: l, i => by
    simp only [Gt]
    cases (b[i]? == some true) with
    | true => exact (sel_sub b l (i + 1)).cons_cons d
    | false => exact (sel_sub b l (i + 1)).cons d
theorem sel_flat {β : Type} (f : Dcl → List β) (b : List Bool) : ∀ (l : List Dcl) (i : Nat), (((Gt b i l).map f).flatten).length ≤ ((l.map f).flatten).length
  | [], i => Nat.le_refl _
  | d :: l, i => by
    have := sel_flat f b l (i + 1)
    simp only [Gt]
    cases (b[i]? == some true) <;> simp only [cond_true, cond_false, List.map_cons, List.flatten_cons, List.length_append] <;> omega
theorem sel_loop {β : Type} {step : List β × Int → Option (LO (List β × Int) (List β))} (b : List Bool) (f : Dcl → List β) (env : List Dcl) (hl : env.length ≤ 900000000) (hb : b.length = env.length)
    (hoff : ∀ a x c out, env = a ++ x :: c → J1 b (a.length : Int) = some false → step (out, (a.length : Int)) = some (.next (out, QW ((a.length : Int) + 1))))
    (hon : ∀ a x c out, env = a ++ x :: c → J1 b (a.length : Int) = some true → out.length + (f x).length ≤ ((env.map f).flatten).length → step (out, (a.length : Int)) = some (.next (out ++ f x, QW ((a.length : Int) + 1))))
    (hout : ∀ s, step (s, (env.length : Int)) = some (.done s)) : Qo step QB ([], 0) = some ((Gt b 0 env).map f).flatten := by
  obtain ⟨r, e, rfl⟩ := JD (step := step) env (fun i s => (s, i)) (fun a s => s = ((Gt b 0 a).map f).flatten) (fun r => r = ((Gt b 0 env).map f).flatten) hl
    (fun a x c s e hs => by
      have hal := YS e
      have hab : a.length < b.length := by omega
      have h1 : b[a.length]? = some b[a.length] := List.getElem?_eq_getElem hab
      have hsl : Gt b 0 (a ++ [x]) = Gt b 0 a ++ cond (b[a.length]? == some true) [x] [] := by
        rw [sel_app, Nat.zero_add]
        rfl
      cases h2 : b[a.length] with
      | true =>
        rw [h2] at h1
        refine .inr ⟨s ++ f x, hon a x c s e h1 ?_, by rw [hs, hsl, h1]; simp⟩
        have h3 := sel_flat f b a 0
        rw [hs, e, List.map_append, List.flatten_append, List.length_append, List.map_cons, List.flatten_cons, List.length_append]
        omega
      | false =>
        rw [h2] at h1
        exact .inr ⟨s, hoff a x c s e h1, by rw [hs, hsl, h1]; simp⟩)
    (fun s hs => ⟨s, hout s, hs⟩) [] rfl
  exact e
inductive RSays {β : Type} (d : Bool) (f : Dcl → List β) (env : List Dcl) (nm : List Wy) : List β × Int → Prop
  | twice (h : ¬ (QE env).Nodup) : RSays d f env nm ([], 8)
  | none (h : (QE env).Nodup) (h2 : ¬ Ye env env) : RSays d f env nm ([], 9)
  | miss (h : (QE env).Nodup) (h2 : Ye env env) (h3 : ¬ ∀ s ∈ nm, s ∈ QE env) : RSays d f env nm ([], 9)
  | ok (h : (QE env).Nodup) (h2 : Ye env env) (h3 : ∀ s ∈ nm, s ∈ QE env) (b : List Bool) (hb : Least (Wx d (YT env)) env.length (K0 env nm) b) : RSays d f env nm (((Gt b 0 env).map f).flatten, 0)
theorem Least.of_iff {E E' : Nat → Nat → Prop} {n : Nat} {S S' : Nat → Prop} {b : List Bool} (h : Least E n S b) (hE : ∀ i j, E i j ↔ E' i j) (hS : ∀ i, S i ↔ S' i) : Least E' n S' b :=
  ⟨h.len, fun i hi => h.start i ((hS i).2 hi), fun i j e => h.cl i j ((hE i j).2 e), fun C W9 hE' => h.min C (fun i hi => W9 i ((hS i).1 hi)) fun i j e => hE' i j ((hE i j).1 e)⟩
theorem m12_eq (env : List Dcl) (nm : List Wy) (hl : Ke env ≤ 100000000) (hn : env.length ≤ 1000) (hm : nm.length ≤ 900000000) : ∃ r, Xw env nm = some r ∧ RSays true Jh env nm r := by
  have hel := Ky env
  unfold Xw
  obtain ⟨r, e, hr⟩ := newGraph_eq (γ := Unit) env hl
  rw [show Qo (m12_l1 env) QB (0, gmNil) = Qo (K8 env) QB (0, gmNil) from rfl]
  rw [show (fun (o6 : Wu) => Option.bind (Qo (GI env o6) QB (0, ([] : List (List Int)))) (Sum.elim (fun (o7 : List (List Int)) => some (Sum.inl (o7, o6) : (List (List Int) × Wu) ⊕ Unit ⊕ Unit)) (fun o => some o))) = (fun (o6 : Wu) => Option.bind (Qo (K7 env o6) QB (0, ([] : List (List Int)))) (Sum.elim (fun (o7 : List (List Int)) => some (.inl (o7, o6))) (fun o => some o))) from rfl]
  rw [e, Option.bind_some]
  rcases hr with ⟨h1, rfl⟩ | ⟨h1, h2, rfl⟩ | ⟨h1, h2, M, rfl, hM⟩
  · exact ⟨_, rfl, .twice h1⟩
  · exact ⟨_, rfl, .none h1 h2⟩
  · have hg := graph_gr h2
    obtain ⟨rv, e1, hrv, hE⟩ := m36_eq hg hn
    have hnn : env.length * env.length ≤ 1000 * 1000 := Nat.mul_le_mul hn hn
    obtain ⟨r, e2, hr⟩ := visits_eq (g := YT env) (M := M) rfl hrv (by omega) (by omega) hM nm hm
    dsimp only [Sum.elim]
    rw [e1, Option.bind_some, hrv.1]
    simp only [Int.toNat_natCast]
    rw [show decide (0 ≤ (env.length : Int)) = true from by rw [decide_eq_true_eq]; omega]
    simp only [cond_true]
    rw [Jq (by omega), e2, Option.bind_some]
    rcases hr with ⟨h3, b, rfl, hb⟩ | ⟨h3, rfl⟩
    · simp only [Sum.elim_inl, Sum.elim_inr, Option.bind_some]
      rw [sel_loop b Jh env (by omega) hb.len]
      · exact ⟨_, rfl, .ok h1 h2 h3 b (hb.of_iff hE fun _ => Iff.rfl)⟩
      · intro a x c out e3 e4
        unfold Gm
        dsimp only
        rw [e4, show decide ((a.length : Int) < (env.length : Int)) = true from by rw [e3, Ji], show J1 env (a.length : Int) = some x from by rw [e3, J6]]
        simp only [cond_true, Option.bind_some, Int.toNat_natCast]
        rw [hrv.1, Yx hb.len]; rfl
      · intro a x c out e3 e4 h5
        have hx : x ∈ env := by rw [e3]; simp
        have hxs := K1 hx
        have hal := all_len env
        unfold QE at hal
        unfold Gm
        dsimp only
        rw [e4, show decide ((a.length : Int) < (env.length : Int)) = true from by rw [e3, Ji], show J1 env (a.length : Int) = some x from by rw [e3, J6]]
        simp only [cond_true, Option.bind_some, Int.toNat_natCast]
        rw [hrv.1, Yx hb.len, m37_eq x (by omega), Option.bind_some, Jq (by omega)]
      · intro s
        unfold Gm
        dsimp only
        rw [Jz]; rfl
    · exact ⟨_, rfl, .miss h1 h2 h3⟩
end Go.Proofs.Ytijcchddnnnmdaa
namespace Go.Proofs.Ytijcchddnnnmdaa
open Go.RowKit
set_option linter.unusedSimpArgs false
set_option linter.unusedVariables false
set_option linter.unusedSectionVars false
section
variable {E : Env} {V : Vu} {hp : List (Nat × HB)} {tk : List (Nat × Option Tok)} {w : World}
theorem grow_alloc (h : HRel E V hp tk w) (o : Obj) : ZH w (w.alloc o) ∧ V.Grow V w (w.alloc o) := by
  have hx : ZH w (w.alloc o) := ⟨rfl, rfl, rfl, by simp, fun k hk _ => Below.heap_alloc w o k hk⟩
  exact ⟨hx, Nat.le_refl _, fun _ _ => rfl, fun _ _ => rfl, fun _ _ _ _ => rfl, fun _ _ h => h, fun _ _ h => .inl h, fun b o' hs => Nat.lt_of_lt_of_le (h.sz b o' hs) hx.size⟩
theorem HRel.ownAt (h : HRel E V hp tk w) {i : Nat} (hi : i < V.nx) (hι : V.ι i = w.heap.size) (o : Obj) (B : HB) (hB : B.rel V (w.alloc o) o) : HRel E V ((i, B) :: hp) tk (w.alloc o) := by
  obtain ⟨hx, hg⟩ := grow_alloc h o
  have H := h.later hx hg
  have hsize : ∀ j A, W0 hp j = some A → V.ι j < w.heap.size := fun j A hj => by
    obtain ⟨-, o1, ho1, -⟩ := h.own j A hj
    exact Y2 ho1
  refine ⟨H.ext, H.le0, H.sz, H.sub, ?_, ?_, ?_, ?_, H.tki⟩
  · intro j A hj
    rw [Qn] at hj
    split at hj
    · rename_i e; subst e; cases hj
      exact ⟨hi, o, by rw [hι]; exact heap_alloc_new w o, hB⟩
    · exact H.own j A hj
  · intro j k A A' hj hk e
    rw [Qn] at hj hk
    split at hj
    · rename_i e1; subst e1
      split at hk
      · assumption
      · have := hsize k A' hk; omega
    · split at hk
      · rename_i e2; subst e2
        have := hsize j A hj; omega
      · exact H.inj j k A A' hj hk e
  · intro j A hj
    rw [Qn] at hj
    split at hj
    · rename_i e; subst e
      rw [hι]
      exact ⟨.inl h.ext.size, fun o' hs => by have := h.sz _ _ hs; omega⟩
    · exact H.new j A hj
  · intro j T hj
    obtain ⟨h1, hcu, xs, hown, hgg⟩ := H.tok j T hj
    refine ⟨h1, hcu, xs, hown, fun g hgb => ⟨(hgg g hgb).1, (hgg g hgb).2.1, fun k A hk => ?_⟩⟩
    rw [Qn] at hk
    split at hk
    · rename_i e; subst e
      obtain ⟨h1', hcu', xs', hown', -⟩ := h.tok j T hj
      have := (hown'.1.lt g hgb).2
      omega
    · exact (hgg g hgb).2.2 k A hk
theorem HRel.aside (h : HRel E V hp tk w) (o : Obj) (B : HB) (hB : ∀ V' : Vu, B.rel V' (w.alloc o) o) :
    HRel E ((V.add (w.heap.size + 1)).add w.heap.size) ((V.nx + 1, B) :: hp) tk (w.alloc o) ∧ V.Le ((V.add (w.heap.size + 1)).add w.heap.size) w (w.alloc o) ∧
    ((V.add (w.heap.size + 1)).add w.heap.size).ι V.nx = (w.alloc o).heap.size ∧ ((V.add (w.heap.size + 1)).add w.heap.size).ι (V.nx + 1) = w.heap.size := by
  have hx0 : ZH w w := ExtM.refl _ _
  have hg0 := V.add_grow (w.heap.size + 1) h.sz hx0
  have H0 := h.later hx0 hg0
  obtain ⟨hx, -⟩ := grow_alloc h o
  refine ⟨H0.addOwn o B (hB _), (h.le hx0 hg0).trans (H0.le hx ((V.add (w.heap.size + 1)).add_grow w.heap.size H0.sz hx)), ?_, (V.add (w.heap.size + 1)).add_at _⟩
  show (if V.nx = V.nx + 1 then w.heap.size else if V.nx = V.nx then w.heap.size + 1 else V.ι V.nx) = _
  rw [if_neg (by omega), if_pos rfl, World.size_alloc]
end
theorem wpIn_alloc {E : Env} {dd : Option Tmp} {ty : TypeId} {pos : String} {af : Array Edge} {g : Option (Nat × Bool)} {t : TypeId} {zs : List Value} (hz : Jg E.P t = some zs) {a : Act} {w : World} {ro : Option Nat} {n : Nat} {K : Act → World → Prop} {Q : Exit → Act → World → Prop}
    (hK : K (a.put dd (.pointer (some ⟨w.heap.size, 0, none⟩))) (w.alloc (.cells zs.toArray t))) : Oper.wpIn (Ww ro) n E.P (⟨dd, .alloc t, ty, pos, af, g⟩ : Oper) a w K Q := by
  refine ⟨fun _ _ => trivial, ?_⟩
  rw [Oper.semAt_eq _ _ _ (by intro c h; cases h)]
  obtain ⟨z, hz1, hz2⟩ := YB hz
  have hrun : (execOp a.eval ⟨dd, .alloc t, ty, pos, af, g⟩).run E.P w = .ok (.value (.pointer (some ⟨w.heap.size, 0, none⟩))) (w.alloc (.cells zs.toArray t)) := by
    simp [execOp, Instr.alloc, hz1, newVar, newRow, hz2]
  rw [hrun]
  exact hK
abbrev Xi (t : TypeId) (zs : List Value) : HB := .cells t (zs.map fun z => .d (.v z))
def PairOK (E : Env) (ops : Array Oper) (st : St) (fx : List (Nat × TV)) (effs : List Nat) (dns : List (List Nat)) (ms : List Mem) (js p q : Nat) (m : Mem) : Prop :=
  ∃ (dp : Tmp) (tp typ : TypeId) (posp : String) (afp : Array Edge) (zp : List Value) (dq : Tmp) (tq tyq : TypeId) (posq : String) (afq : Array Edge) (zq : List Value) (j2 : Nat) (d2 : List Nat),
    ops[p]? = some ⟨some dp, .alloc tp, typ, posp, afp, none⟩ ∧ ops[q]? = some ⟨some dq, .alloc tq, tyq, posq, afq, none⟩ ∧
    Jg E.P tp = some zp ∧ zp.all (·.oneCell') = true ∧ Jg E.P tq = some zq ∧ zq.all (·.oneCell') = true ∧
    W0 fx p = some (.v (.one (.ptr st.nx 0))) ∧ W0 fx q = some (.v (.one (.ptr (st.nx + 1) 0))) ∧ Kp st (some dp) = true ∧ Kp st (some dq) = true ∧ effs.contains p = true ∧ effs.contains q = true ∧
    dns[js]? = some [q] ∧ ms[js]? = some m ∧ m = ⟨(st.nx + 1, Xi tq zq) :: st.hp, st.tk, st.nx + 2⟩ ∧
    dns[j2]? = some d2 ∧ KW d2 [q] p = true ∧ ms[j2]? = some ⟨(st.nx + 1, Xi tq zq) :: (st.nx, Xi tp zp) :: st.hp, st.tk, st.nx + 2⟩
def RdOp (E : Env) (ops : Array Oper) (st : St) (fx : List (Nat × TV)) (i : Nat) (m : Mem) : Prop :=
  ∃ o x, ops[i]? = some o ∧ W0 fx i = some x ∧ Kp st o.dst = true ∧
    ((JO ops (JS ops st fx i m).tm o = some true ∧ RO E o (JS ops st fx i m) x) ∨ (JO ops (JS ops st fx i m).tm o = some false ∧ x = .tup []))
section
variable {E : Env} {ops : Array Oper} {st : St} {fx : List (Nat × TV)} {effs : List Nat} {dns : List (List Nat)} {ms : List Mem} {listed : Array Bool} {a : Act} {w : World} {V : Vu} {j : Nat} {d : List Nat} {m : Mem}
theorem XC.pairOrder {ro : Option Nat} {n : Nat} {Q : Exit → Act → World → Prop} {id : Nat} {ops : Array Oper} {st : St} (fx : List (Nat × TV)) (effs : List Nat) (dns : List (List Nat)) (ms : List Mem) (jE : Nat) {mE : Mem} (js p q : Nat) {mS : Mem} (hm : E.P.follows .mixedOrders = true) (hB : Xu ops effs = true) (h0 : ms[0]? = some st.mem) (hd0 : dns[0]? = some []) (hE : ms[jE]? = some mE)
    (hfin : ∀ (j : Nat) (d : List Nat), dns[j]? = some d → (∀ e ∈ effs, e ∈ d) → j = jE)
    (hops : ∀ (i j : Nat) (d : List Nat) (m : Mem), i < ops.size → dns[j]? = some d → ms[j]? = some m → GM ops effs d i = true → d ≠ [q] → ¬ (d = [] ∧ i = q) → SwOp E ops st fx effs dns ms i d m)
    (hP : PairOK E ops st fx effs dns ms js p q mS) (h0u : ∀ j, dns[j]? = some [] → j = 0) (hsu : ∀ j, dns[j]? = some [q] → j = js)
    (hrd : ∀ i, i < ops.size → GM ops effs [q] i = true → i ≠ p → effs.contains i = false ∧ RdOp E ops st fx i mS)
    (k : XQ E Q .normal (G6 ops st fx mE)) : XC E ro n Q (.region id ops true) st := by
  intro V a w hr
  obtain ⟨dp, tp, typ, posp, afp, zp, dq, tq, tyq, posq, afq, zq, j2, d2, hop, hoq, hzp, hzp1, hzq, hzq1, hfp, hfq, hdp, hdq, hcp, hcq, hds, hms, hmS, hd2, hs2, hm2⟩ := hP
  subst hmS
  have hjs0 : js ≠ 0 := fun e => by rw [e, hd0] at hds; cases hds
  refine wpIn_region_any hm ?_
  have hr' := hr.drew
  have hB' := hB
  simp only [Xu, Bool.and_eq_true, decide_eq_true_eq] at hB'
  obtain ⟨⟨hdag, -⟩, heff⟩ := hB'
  have hrdy : ∀ listed : Array Bool, listed.size = ops.size → Region.ready .any ops listed = [] → ∀ i, i < ops.size → listed.getD i false = true := by
    intro listed hsz hrd i
    induction i using Nat.strongRecOn with
    | ind i ih =>
      intro hi
      cases hc : listed.getD i false with
      | true => rfl
      | false =>
        exfalso
        have hnm : i ∉ Region.ready .any ops listed := by rw [hrd]; exact List.not_mem_nil
        refine hnm (mem_ready.2 ?_)
        obtain ⟨o, ho⟩ : ∃ o, ops[i]? = some o := ⟨_, Array.getElem?_eq_getElem hi⟩
        refine ⟨getD_in (by rw [hsz]; exact hi) hc, o, ho, fun e he hb => ?_⟩
        have hem : e.on ∈ Jt ops i := (Zg ho).2 ⟨e, he, hb, rfl⟩
        have hlt := List.all_eq_true.1 (List.all_eq_true.1 hdag i (by simpa using hi)) _ hem
        have hlt' : e.on < i := by simpa using hlt
        exact ih e.on hlt' (by omega)
  have fin : ∀ (listed : Array Bool) (a : Act) (w : World) (V : Vu) (j : Nat) (d : List Nat) (m : Mem), SwInv E ops st fx effs dns ms listed a w V j d m → (∀ i, i < ops.size → listed.getD i false = true) → Q .normal a w := by
    intro listed a w V j d m hI hall
    have hjk : j = jE := hfin j d hI.stage fun e he => by
      by_cases hed : e ∈ d
      · exact hed
      · exfalso
        have h2 := hI.todo e he hed
        have h3 := hall e (by simpa using List.all_eq_true.1 heff e he)
        rw [h2] at h3; cases h3
    subst hjk
    have e1 : m = mE := Option.some.inj (hI.mem.symm.trans hE)
    subst e1
    refine k V a w ⟨hI.rel.h, hI.rel.nx, hI.rel.nt, hI.rel.df, fun t x hx => ?_⟩
    simp only [G6, YD] at hx
    split at hx
    · rename_i y hy; cases hx
      obtain ⟨i, h1, h2, h3⟩ := Zr _ t x hy
      exact hI.fact i (hall i (by simpa using h1)) t x h2 h3
    · exact hI.rel.tm t x hx
  have main : ∀ (fuel : Nat) (listed : Array Bool) (a : Act) (w : World) (V : Vu) (j : Nat) (d : List Nat) (m : Mem), SwInv E ops st fx effs dns ms listed a w V j d m →
      (j = js → V.ι st.nx = w.heap.size) →
      ops.size ≤ fuel + ((List.range ops.size).filter fun i => listed.getD i false).length → wpAnyIn (Ww ro) n E.P .any ops Q fuel listed a w := by
    intro fuel
    induction fuel with
    | zero =>
      intro listed a w V j d m hI _ hc
      have hall : ∀ i, i < ops.size → listed.getD i false = true := by
        intro i hi
        have h1 : ((List.range ops.size).filter fun i => listed.getD i false).length = (List.range ops.size).length := by
          have := List.length_filter_le (fun i => listed.getD i false) (List.range ops.size)
          simp only [List.length_range] at this ⊢; omega
        exact List.length_filter_eq_length_iff.1 h1 i (by simpa using hi)
      refine ⟨?_, fin listed a w V j d m hI hall⟩
      unfold Region.ready
      rw [List.filter_eq_nil_iff]
      intro i hi
      have hi' : i < ops.size := by simpa using hi
      have : listed.getD i true = true := by
        have h1 := hall i hi'
        have : i < listed.size := by rw [hI.size]; exact hi'
        simp [this] at h1 ⊢; exact h1
      rw [this]; simp
    | succ fuel ih =>
      intro listed a w V j d m hI hS hc
      refine ⟨fun hrd => fin listed a w V j d m hI (hrdy listed hI.size hrd), fun i hi => ?_⟩
      obtain ⟨hun, o, ho, hdeps⟩ := mem_ready.1 hi
      have hlt : i < ops.size := (Array.getElem?_eq_some_iff.1 ho).1
      have hno : listed.getD i false = false := by
        have : i < listed.size := by rw [hI.size]; exact hlt
        simp [this] at hun ⊢; exact hun
      have hd : ∀ k ∈ Jt ops i, listed.getD k false = true := fun k hk => by
        obtain ⟨e, he, hb, rfl⟩ := (Zg ho).1 hk
        exact hdeps e he hb
      have hmay := hI.may hlt hno hd
      have hrel := hI.depsRel hno hd
      have hcnt : ops.size ≤ fuel + ((List.range ops.size).filter fun i' => (listed.setIfInBounds i true).getD i' false).length := by
        have h1 : ((List.range ops.size).filter fun i => listed.getD i false).length < ((List.range ops.size).filter fun i' => (listed.setIfInBounds i true).getD i' false).length := by
          have key : ∀ (l : List Nat), l.Nodup → i ∈ l → (l.filter fun i => listed.getD i false).length < (l.filter fun i' => (listed.setIfInBounds i true).getD i' false).length := by
            have hget : ∀ k, (listed.setIfInBounds i true).getD k false = if k = i then true else listed.getD k false := fun k => by
              by_cases hk : k = i
              · subst hk
                have : k < listed.size := by rw [hI.size]; exact hlt
                simp [this]
              · rw [if_neg hk, getD_set_ne false (fun e => hk e.symm)]
            have hle : ∀ (l : List Nat), (l.filter fun i => listed.getD i false).length ≤ (l.filter fun i' => (listed.setIfInBounds i true).getD i' false).length := by
              intro l
              induction l with
              | nil => exact Nat.le_refl _
              | cons p l ih =>
                rw [List.filter_cons, List.filter_cons, hget]
                by_cases hp : p = i
                · subst hp; rw [hno]; simp only [if_true]; rw [List.length_cons]; simp only [Bool.false_eq_true, if_false]; omega
                · rw [if_neg hp]; split <;> (try rw [List.length_cons, List.length_cons]) <;> omega
            intro l
            induction l with
            | nil => intro _ h; cases h
            | cons p l ih =>
              intro hnd' hi'
              rw [List.nodup_cons] at hnd'
              rw [List.filter_cons, List.filter_cons, hget]
              rcases List.mem_cons.1 hi' with rfl | hi'
              · rw [hno]; simp only [if_true, Bool.false_eq_true, if_false]; rw [List.length_cons]; have := hle l; omega
              · have := ih hnd'.2 hi'
                have hp : p ≠ i := fun e => hnd'.1 (by rw [e]; exact hi')
                rw [if_neg hp]; split <;> (try rw [List.length_cons, List.length_cons]) <;> omega
          exact key _ List.nodup_range (by simpa using hlt)
        omega
      unfold wpOpIn
      simp only [ho]
      by_cases hjs : j = js
      · subst hjs
        have ed : d = [q] := Option.some.inj (hI.stage.symm.trans hds)
        subst ed
        have em : m = _ := Option.some.inj (hI.mem.symm.trans hms)
        subst em
        have hι := hS rfl
        by_cases hip : i = p
        · subst hip
          rw [hop] at ho; cases ho
          rw [if_pos (JY (b := true) hrel rfl)]
          refine wpIn_alloc hzp ?_
          have hqp : st.nx < V.nx := by rw [hI.rel.nx]; show st.nx < st.nx + 2; omega
          have H := hI.rel.h.ownAt hqp hι (.cells zp.toArray tp) (Xi tp zp) ⟨_, rfl, Zd hzp1⟩
          obtain ⟨hxa, hga⟩ := grow_alloc hI.rel.h (.cells zp.toArray tp)
          have hj2 : j2 ≠ j := fun e => by
            subst e
            rw [hds] at hd2
            cases hd2
            simp only [GM, Bool.and_eq_true, Bool.not_eq_true'] at hmay
            simp only [KW, Bool.and_eq_true] at hs2
            rw [hs2.2] at hmay
            exact absurd hmay.2 Bool.noConfusion
          refine ih _ _ _ V j2 d2 _ (hI.step hB hlt hno hop hfp hdp (.inl ⟨hcp, hs2⟩) hd2 hm2 (H.congr (fun t => ?_) (fun _ => rfl)) hI.rel.nx (hI.rel.h.le hxa hga) ⟨hqp, by rw [hι]⟩ hd) (fun e => absurd e hj2) hcnt
          simp only [Qn]
          by_cases h1 : st.nx = t
          · have h2 : ¬ st.nx + 1 = t := by omega
            repeat (first | rw [if_pos h1] | rw [if_neg h2])
          · simp only [h1, if_false]
        · obtain ⟨hce, o', x, ho', hx, hdst, hcase⟩ := hrd i hlt hmay hip
          rw [ho] at ho'; cases ho'
          rcases hcase with ⟨hw, hro⟩ | ⟨hw, rfl⟩
          · rw [if_pos (JY hrel hw)]
            exact wpIn_of_ro hro hrel fun v hxv => ih _ _ _ V j _ _ (hI.step hB hlt hno ho hx hdst (.inr ⟨hce, rfl⟩) hI.stage hI.mem hI.rel.h hI.rel.nx (Vu.Le.refl _ _) hxv hd) (fun _ => hι) hcnt
          · rw [if_neg (by rw [JY hrel hw]; exact Bool.false_ne_true)]
            exact ⟨fun _ _ => trivial, ih _ _ _ V j _ _ (hI.step hB hlt hno ho hx hdst (.inr ⟨hce, rfl⟩) hI.stage hI.mem hI.rel.h hI.rel.nx (Vu.Le.refl _ _) Z9 hd) (fun _ => hι) hcnt⟩
      · by_cases hfst : d = [] ∧ i = q
        · obtain ⟨ed, ei⟩ := hfst
          subst ed; subst ei
          have ej : j = 0 := h0u j hI.stage
          subst ej
          have em : m = st.mem := Option.some.inj (hI.mem.symm.trans h0)
          subst em
          rw [hoq] at ho; cases ho
          rw [if_pos (JY (b := true) hrel rfl)]
          refine wpIn_alloc hzq ?_
          obtain ⟨H, L, e1, e2⟩ := hI.rel.h.aside (.cells zq.toArray tq) (Xi tq zq) (fun V' => ⟨_, rfl, Zd hzq1⟩)
          have hnx : V.nx = st.nx := hI.rel.nx
          rw [hnx] at H e1 e2
          refine ih _ _ _ _ js [i] _ (hI.step hB hlt hno hoq hfq hdq (.inl ⟨hcq, by simp [KW]⟩) hds hms H (by show V.nx + 1 + 1 = st.nx + 2; omega) L ⟨by show st.nx + 1 < V.nx + 1 + 1; omega, by rw [e2]⟩ hd) (fun _ => e1) hcnt
        · have hdq' : d ≠ [q] := fun e => hjs (hsu j (by rw [← e]; exact hI.stage))
          obtain ⟨o', x, ho', hx, hdst, hcase⟩ := hops i j d m hlt hI.stage hI.mem hmay hdq' hfst
          rw [ho] at ho'; cases ho'
          rcases hcase with ⟨hw, m', hok, hm'⟩ | ⟨hw, rfl, hc'⟩
          · rw [if_pos (JY hrel hw)]
            refine hok V a w hrel ro n _ Q (fun V' w' v H hn L hxv => ?_)
            rcases hm' with ⟨hce, j', d', hs1, hs2', hm'⟩ | ⟨hce, hm'⟩
            · refine ih _ _ _ V' j' d' m' (hI.step hB hlt hno ho hx hdst (.inl ⟨hce, hs2'⟩) hs1 hm' H hn L hxv hd) (fun e => ?_) hcnt
              exfalso
              subst e
              rw [hds] at hs1; cases hs1
              simp only [KW, Bool.and_eq_true, List.contains_eq_mem, List.all_eq_true, decide_eq_true_eq, List.mem_singleton] at hs2'
              simp only [GM, Bool.and_eq_true, Bool.not_eq_true', List.contains_eq_mem, decide_eq_false_iff_not] at hmay
              refine hfst ⟨?_, hs2'.2⟩
              cases d with
              | nil => rfl
              | cons y r =>
                exfalso
                have h1 := hs2'.1.2 y (by simp)
                exact hmay.2 (by rw [hs2'.2, ← h1]; simp)
            · subst hm'
              exact ih _ _ _ V' j d m' (hI.step hB hlt hno ho hx hdst (.inr ⟨hce, rfl⟩) hI.stage hI.mem H hn L hxv hd) (fun e => absurd e hjs) hcnt
          · rw [if_neg (by rw [JY hrel hw]; exact Bool.false_ne_true)]
            exact ⟨fun _ _ => trivial, ih _ _ _ V j d m (hI.step hB hlt hno ho hx hdst (.inr ⟨hc', rfl⟩) hI.stage hI.mem hI.rel.h hI.rel.nx (Vu.Le.refl _ _) Z9 hd) (fun e => absurd e hjs) hcnt⟩
  refine main ops.size _ a _ V 0 [] st.mem ⟨by simp, fun i hi => ?_, hd0, fun e he => by simp at he, fun e _ _ => getD_replicate_false _ _, h0, ⟨hr'.h, hr'.nx, hr'.nt, hr'.df, fun t y hy => hr'.tm t y (K9 _ _ _ hy).1⟩, fun i hi => ?_, fun t y hy _ => hr'.tm t y hy⟩ (fun e => absurd e.symm hjs0) (by omega)
  · rw [getD_replicate_false] at hi; cases hi
  · rw [getD_replicate_false] at hi; cases hi
end
section
variable {E : Env} {ops : Array Oper} {st : St} {effs : List Nat} {dns : List (List Nat)}
def AllRd (E : Env) (ops : Array Oper) (st : St) (fx : List (Nat × TV)) (m : Mem) : List Nat → Prop
  | [] => True
  | i :: r => RdOp E ops st fx i m ∧ AllRd E ops st fx m r
theorem AllRd.get {fx : List (Nat × TV)} {m : Mem} : ∀ {l : List Nat} {i : Nat}, AllRd E ops st fx m l → l.contains i = true → RdOp E ops st fx i m
  | [], i, _, h => by cases h
  | a :: r, i, ha, h => by
    simp only [List.contains_cons, Bool.or_eq_true, beq_iff_eq] at h
    rcases h with h | h
    · cases h; exact ha.1
    · exact AllRd.get ha.2 h
def exP (ops : Array Oper) (effs : List Nat) (dns : List (List Nat)) (ex : List (Nat × Nat)) (js q : Nat) : Bool :=
  (List.range ops.size).all fun i => (List.range dns.length).all fun j => !(GM ops effs (dns.getD j []) i) || (j == js || (j == 0 && i == q) || j == ZQ effs i || ex.contains (i, j))
def rdP (ops : Array Oper) (effs : List Nat) (p q : Nat) (rd : List Nat) : Bool :=
  (List.range ops.size).all fun i => !(GM ops effs [q] i) || (i == p || (rd.contains i && !(effs.contains i)))
def onlyP (dns : List (List Nat)) (js q : Nat) : Bool := (List.range dns.length).all fun j => (j == 0 || !((dns.getD j []).isEmpty)) && (j == js || !(dns.getD j [] == [q]))
theorem XC.pairRun {ro : Option Nat} {n id : Nat} {Q : Exit → Act → World → Prop} (effs : List Nat) (dns : List (List Nat)) (ex : List (Nat × Nat)) (js p q : Nat) (rd : List Nat) (hm : E.P.follows .mixedOrders = true) (hB : Xu ops effs = true) (hex : exP ops effs dns ex js q = true) (hrp : rdP ops effs p q rd = true) (hop : onlyP dns js q = true) (hho : homeS ops effs dns = true) (hfi : finS effs dns = true) (hd0 : dns[0]? = some []) (hlen : ((List.range' 0 ops.size).filter effs.contains).length = effs.length)
    (h : RunA E ops st effs (fun fx ms => ∃ xm : List Mem, AllSw E ops st effs dns fx (ms.reverse ++ xm) ex ∧ (∃ mS, PairOK E ops st fx effs dns (ms.reverse ++ xm) js p q mS ∧ AllRd E ops st fx mS rd) ∧ ∃ mE r, ms = mE :: r ∧ XQ E Q .normal (G6 ops st fx mE)) (List.range' 0 ops.size) [] [st.mem]) : XC E ro n Q (.region id ops true) st := by
  have hB' := hB
  simp only [Xu, Bool.and_eq_true] at hB'
  obtain ⟨⟨hdag, -⟩, -⟩ := hB'
  have hdag' : ∀ i, i < ops.size → ∀ k ∈ Jt ops i, k < i := fun i hi k hk => by
    have := List.all_eq_true.1 (List.all_eq_true.1 hdag i (by simpa using hi)) k hk
    simpa using this
  obtain ⟨fx', ms', ⟨xm, hall, ⟨mS, hpair, hard⟩, mE, r, hmE, hQ⟩, -, hms, hrun⟩ := run_home hdag' _ 0 [] st.mem [] h (fun p hp => by cases hp) (by rw [Nat.sub_zero]) (Nat.zero_le _)
  rw [List.append_nil] at hall hpair hard hQ
  rw [hlen] at hms
  have hl : ((ms' ++ [st.mem]).reverse).length = effs.length + 1 := by simp [hms]
  have hin : ∀ {q : Nat} {m : Mem}, (ms' ++ [st.mem]).reverse[q]? = some m → ((ms' ++ [st.mem]).reverse ++ xm)[q]? = some m := fun {q m} hq => by
    rw [List.getElem?_append_left (List.getElem?_eq_some_iff.1 hq).1]; exact hq
  refine XC.pairOrder fx' effs dns ((ms' ++ [st.mem]).reverse ++ xm) effs.length (mE := mE) js p q (mS := mS) hm hB (hin (by simp)) hd0 ?_ (fun j d hj hall => ?_) (fun i j d m hi hj hmj hmay hnq hn0 => ?_) hpair (fun j hj => ?_) (fun j hj => ?_) (fun i hi hmay hip => ?_) hQ
  · refine hin ?_
    rw [hmE]
    have : r.length = effs.length := by have := congrArg List.length hmE; simp at this; omega
    rw [List.reverse_cons, List.getElem?_append_right (by simp; omega)]; simp [this]
  · have hlt := (List.getElem?_eq_some_iff.1 hj).1
    have h1 := List.all_eq_true.1 hfi j (by simpa using hlt)
    have hd : dns.getD j [] = d := by rw [List.getD_eq_getElem?_getD, hj]; rfl
    rw [hd] at h1
    have h2 : (effs.all fun e => d.contains e) = true := List.all_eq_true.2 fun e he => by simpa using hall e he
    rw [h2] at h1
    simpa using h1
  · have hlt := (List.getElem?_eq_some_iff.1 hj).1
    have hd : dns.getD j [] = d := by rw [List.getD_eq_getElem?_getD, hj]; rfl
    have h1 := List.all_eq_true.1 (List.all_eq_true.1 hex i (by simpa using hi)) j (by simpa using hlt)
    rw [hd, hmay] at h1
    have hjn : j ≠ js := fun e => by
      subst e
      obtain ⟨_, _, _, _, _, _, _, _, _, _, _, _, _, _, -, -, -, -, -, -, -, -, -, -, -, -, h9, -⟩ := hpair
      rw [hj] at h9
      exact hnq (Option.some.inj h9)
    have hjz : ¬ (j = 0 ∧ i = q) := fun e => by
      obtain ⟨rfl, rfl⟩ := e
      rw [hd0] at hj
      exact hn0 ⟨(Option.some.inj hj).symm, rfl⟩
    simp only [Bool.not_true, Bool.false_or, Bool.or_eq_true, Bool.and_eq_true, beq_iff_eq] at h1
    replace h1 : j = ZQ effs i ∨ ex.contains (i, j) = true := by
      rcases h1 with ((h1 | h1) | h1) | h1
      · exact absurd h1 hjn
      · exact absurd h1 hjz
      · exact .inl h1
      · exact .inr h1
    rcases h1 with h1 | h1
    · obtain ⟨mi, h2, o, x, h3, h4, h5, h6⟩ := hrun i (List.mem_range'_1.2 ⟨Nat.zero_le _, by omega⟩)
      rw [List.append_nil] at h4 h6
      simp only [List.length_nil, Nat.zero_add, Nat.sub_zero] at h2 h6
      subst h1
      have e1 : mi = m := by
        have := hin h2
        unfold ZQ at hmj
        rw [hmj] at this
        exact (Option.some.inj this).symm
      subst e1
      refine ⟨o, x, h3, h4, h5, ?_⟩
      rcases h6 with ⟨h6, m', h7, h8⟩ | h6
      · refine .inl ⟨h6, m', h7, ?_⟩
        cases hc : effs.contains i with
        | false => rw [hc] at h8; exact .inr ⟨rfl, by simpa using h8⟩
        | true =>
          rw [hc] at h8
          have h9 := List.all_eq_true.1 hho i (by simpa using hi)
          rw [hc, hj] at h9
          simp only [Bool.not_true, Bool.false_or] at h9
          split at h9
          · rename_i d1 d2 e2 e3
            cases e2
            exact .inl ⟨rfl, ZQ effs i + 1, d2, e3, h9, hin (by simpa [ZQ] using h8)⟩
          · cases h9
      · exact .inr h6
    · obtain ⟨d', m', h2, h3, h4⟩ := hall.get h1
      rw [hj] at h2; cases h2
      rw [hmj] at h3; cases h3
      exact h4
  · have hlt := (List.getElem?_eq_some_iff.1 hj).1
    have h1 := List.all_eq_true.1 hop j (by simpa using hlt)
    rw [List.getD_eq_getElem?_getD, hj] at h1
    simp only [Option.getD_some, Bool.and_eq_true, Bool.or_eq_true, beq_iff_eq] at h1
    rcases h1.1 with h2 | h2
    · exact h2
    · simp at h2
  · have hlt := (List.getElem?_eq_some_iff.1 hj).1
    have h1 := List.all_eq_true.1 hop j (by simpa using hlt)
    rw [List.getD_eq_getElem?_getD, hj] at h1
    simp only [Option.getD_some, Bool.and_eq_true, Bool.or_eq_true, beq_iff_eq] at h1
    rcases h1.2 with h2 | h2
    · exact h2
    · simp at h2
  · have h1 := List.all_eq_true.1 hrp i (by simpa using hi)
    rw [hmay] at h1
    simp only [Bool.not_true, Bool.false_or, Bool.or_eq_true, Bool.and_eq_true, beq_iff_eq, Bool.not_eq_true'] at h1
    rcases h1 with h1 | ⟨h1, h2⟩
    · exact absurd h1 hip
    · exact ⟨h2, AllRd.get hard h1⟩
end
end Go.Proofs.Ytijcchddnnnmdaa
namespace Go.Proofs.Ytijcchddnnnmdaa
open Go.RowKit Go.Shelf
set_option linter.unusedSimpArgs false
set_option linter.unusedVariables false
theorem ib_4 : Km Try.prog 4 = true := by kernel_rfl
def m87_l0 (a0 : Lvl) (a1 : Lvl) (s1 : Int) : Option (LO Int (Unit ⊕ Bool)) :=
 cond (decide (s1 < (a0.vs.length : Int)))
   (Option.bind (J1 a0.vs s1) fun (x5 : Wv) =>
 Option.bind (J1 a1.vs s1) fun (x6 : Wv) =>
 cond (!((x5.1 == x6.1) && (x5.2 == x6.2)))
   (some (.done (.inr false)))
   (some (.next (QW (s1 + 1)))))
   (some (.done (.inl ())))
def m87 (a0 : Lvl) (a1 : Lvl) : Option Bool :=
 Option.bind (cond (a0.c != a1.c)
   (some true)
   (some ((a0.vs.length : Int) != (a1.vs.length : Int)))) (fun (v1 : Bool) => cond v1
   (some false)
   (Option.bind (Qo (m87_l0 a0 a1) QB 0) (Sum.elim (fun (o3 : Unit) => some true) (fun o => some o))))
def m70_l0 (a0 : List Lvl) (a1 : List Lvl) (s1 : Int) : Option (LO Int (Unit ⊕ Bool)) :=
 cond (decide (s1 < (a0.length : Int)))
   (Option.bind (J1 a0 s1) fun (x4 : Lvl) =>
 Option.bind (J1 a1 s1) fun (x5 : Lvl) =>
 Option.bind (m87 x4 x5) fun (x6 : Bool) =>
 cond (!x6)
   (some (.done (.inr false)))
   (some (.next (QW (s1 + 1)))))
   (some (.done (.inl ())))
def m70 (a0 : List Lvl) (a1 : List Lvl) : Option Bool :=
 cond ((a0.length : Int) != (a1.length : Int))
   (some false)
   (Option.bind (Qo (m70_l0 a0 a1) QB 0) (Sum.elim (fun (o2 : Unit) => some true) (fun o => some o)))
def m57_l0 (a0 : Tm) (a1 : Tm) (rc : Tm × Tm → Option Bool) (s1 : Int) : Option (LO Int (Unit ⊕ Bool)) :=
 cond (decide (s1 < (a0.kids.length : Int)))
   (Option.bind (J1 a0.kids s1) fun (x5 : Tm) =>
 Option.bind (J1 a1.kids s1) fun (x6 : Tm) =>
 Option.bind (rc (x5, x6)) fun (x7 : Bool) =>
 cond (!x7)
   (some (.done (.inr false)))
   (some (.next (QW (s1 + 1)))))
   (some (.done (.inl ())))
def m57s (rc : Tm × Tm → Option Bool) (a0 : Tm) (a1 : Tm) : Option Bool :=
 Option.bind (cond (a0.kind != a1.kind)
   (some true)
   (cond (a0.index != a1.index)
   (some true)
   (cond (!(a0.name == a1.name))
   (some true)
   (Option.bind (m70 a0.levels a1.levels) fun (x5 : Bool) =>
 cond (!x5)
   (some true)
   (some ((a0.kids.length : Int) != (a1.kids.length : Int))))))) (fun (v1 : Bool) => cond v1
   (some false)
   (Option.bind (Qo (m57_l0 a0 a1 rc) QB 0) (Sum.elim (fun (o3 : Unit) => some true) (fun o => some o))))
def m57F (rc : Tm × Tm → Option Bool) (u : Tm × Tm) : Option Bool := m57s rc u.1 u.2
def Xx (a0 : Tm) (a1 : Tm) : Option Bool := Yn m57F QB (a0, a1)
def m71_l0 (a0 : List Tm) (a1 : List Tm) (s1 : Int) : Option (LO Int (Unit ⊕ Bool)) :=
 cond (decide (s1 < (a0.length : Int)))
   (Option.bind (J1 a0 s1) fun (x4 : Tm) =>
 Option.bind (J1 a1 s1) fun (x5 : Tm) =>
 Option.bind (Xx x4 x5) fun (x6 : Bool) =>
 cond (!x6)
   (some (.done (.inr false)))
   (some (.next (QW (s1 + 1)))))
   (some (.done (.inl ())))
def m71 (a0 : List Tm) (a1 : List Tm) : Option Bool :=
 cond ((a0.length : Int) != (a1.length : Int))
   (some false)
   (Option.bind (Qo (m71_l0 a0 a1) QB 0) (Sum.elim (fun (o2 : Unit) => some true) (fun o => some o)))
def m58 (a0 : Rcr) (a1 : Rcr) : Option Bool :=
 Option.bind (cond (a0.params == a1.params)
   (Option.bind (Xx a0.ty a1.ty) fun (x3 : Bool) =>
 cond x3
   (Option.bind (m71 a0.rules a1.rules) fun (x5 : Bool) =>
 some x5)
   (some false))
   (some false)) (fun (v1 : Bool) => some v1)
def m59_l0 (a0 : Tr) (a1 : Tr) (rc : Tr × Tr → Option Bool) (s1 : Int) : Option (LO Int (Unit ⊕ Bool)) :=
 cond (decide (s1 < (a0.branches.length : Int)))
   (Option.bind (J1 a0.branches s1) fun (x5 : Wz) =>
 Option.bind (J1 a1.branches s1) fun (x6 : Wz) =>
 Option.bind (cond (!(x5.ctor == x6.ctor))
   (some true)
   (cond (!(x5.absurd == x6.absurd))
   (some true)
   (Option.bind (rc (x5.tree, x6.tree)) fun (x10 : Bool) =>
 some (!x10)))) (fun (v7 : Bool) => cond v7
   (some (.done (.inr false)))
   (some (.next (QW (s1 + 1))))))
   (some (.done (.inl ())))
def m59s (rc : Tr × Tr → Option Bool) (a0 : Tr) (a1 : Tr) : Option Bool :=
 Option.bind (cond (a0.kind != a1.kind)
   (some true)
   (cond (a0.var != a1.var)
   (some true)
   (Option.bind (Xx a0.body a1.body) fun (x4 : Bool) =>
 cond (!x4)
   (some true)
   (some ((a0.branches.length : Int) != (a1.branches.length : Int)))))) (fun (v1 : Bool) => cond v1
   (some false)
   (Option.bind (Qo (m59_l0 a0 a1 rc) QB 0) (Sum.elim (fun (o3 : Unit) => some true) (fun o => some o))))
def m59F (rc : Tr × Tr → Option Bool) (u : Tr × Tr) : Option Bool := m59s rc u.1 u.2
def m59 (a0 : Tr) (a1 : Tr) : Option Bool := Yn m59F QB (a0, a1)
def m40_l0 (a0 : Dcl) (a1 : Dcl) (s1 : Int) : Option (LO Int (Unit ⊕ Bool)) :=
 cond (decide (s1 < (a0.ctors.length : Int)))
   (Option.bind (Option.bind (J1 a0.ctors s1) fun (x8 : Ctr) =>
 Option.bind (J1 a1.ctors s1) fun (x9 : Ctr) =>
 cond (!(x8.name == x9.name))
   (some true)
   (Option.bind (J1 a0.ctors s1) fun (x11 : Ctr) =>
 Option.bind (J1 a1.ctors s1) fun (x12 : Ctr) =>
 Option.bind (Xx x11.ty x12.ty) fun (x13 : Bool) =>
 some (!x13))) (fun (v7 : Bool) => cond v7
   (some (.done (.inr false)))
   (some (.next (QW (s1 + 1))))))
   (some (.done (.inl ())))
def m40_l1 (a0 : Dcl) (a1 : Dcl) (s1 : Int) : Option (LO Int (Unit ⊕ Bool)) :=
 cond (decide (s1 < (a0.funs.length : Int)))
   (Option.bind (J1 a0.funs s1) fun (x8 : Fn) =>
 Option.bind (J1 a1.funs s1) fun (x9 : Fn) =>
 Option.bind (cond (!(x8.name == x9.name))
   (some true)
   (cond (x8.arity != x9.arity)
   (some true)
   (Option.bind (Xx x8.ty x9.ty) fun (x13 : Bool) =>
 cond (!x13)
   (some true)
   (Option.bind (m59 x8.tree x9.tree) fun (x15 : Bool) =>
 some (!x15))))) (fun (v10 : Bool) => cond v10
   (some (.done (.inr false)))
   (some (.next (QW (s1 + 1))))))
   (some (.done (.inl ())))
def m40 (a0 : Dcl) (a1 : Dcl) : Option Bool :=
 Option.bind (cond (a0.kind != a1.kind)
   (some true)
   (cond (!(a0.name == a1.name))
   (some true)
   (cond (a0.params != a1.params)
   (some true)
   (cond (a0.fixed != a1.fixed)
   (some true)
   (Option.bind (Xx a0.ty a1.ty) fun (x6 : Bool) =>
 cond (!x6)
   (some true)
   (Option.bind (Xx a0.value a1.value) fun (x8 : Bool) =>
 some (!x8))))))) (fun (v1 : Bool) => cond v1
   (some false)
   (Option.bind (cond ((a0.ctors.length : Int) != (a1.ctors.length : Int))
   (some true)
   (cond ((a0.funs.length : Int) != (a1.funs.length : Int))
   (some true)
   (Option.bind (m58 a0.rcr a1.rcr) fun (x6 : Bool) =>
 some (!x6)))) (fun (v3 : Bool) => cond v3
   (some false)
   (Option.bind (Qo (m40_l0 a0 a1) QB 0) (Sum.elim (fun (o5 : Unit) => Option.bind (Qo (m40_l1 a0 a1) QB 0) (Sum.elim (fun (o6 : Unit) => some true) (fun o => some o))) (fun o => some o))))))
def m17_l0 (a0 : List Dcl) (a1 : List Dcl) (s1 : Int) : Option (LO Int (Unit ⊕ Bool)) :=
 cond (decide (s1 < (a0.length : Int)))
   (Option.bind (J1 a0 s1) fun (x4 : Dcl) =>
 Option.bind (J1 a1 s1) fun (x5 : Dcl) =>
 Option.bind (m40 x4 x5) fun (x6 : Bool) =>
 cond (!x6)
   (some (.done (.inr false)))
   (some (.next (QW (s1 + 1)))))
   (some (.done (.inl ())))
def m17 (a0 : List Dcl) (a1 : List Dcl) : Option Bool :=
 cond ((a0.length : Int) != (a1.length : Int))
   (some false)
   (Option.bind (Qo (m17_l0 a0 a1) QB 0) (Sum.elim (fun (o2 : Unit) => some true) (fun o => some o)))
end Go.Proofs.Ytijcchddnnnmdaa
namespace Go.Proofs.Ytijcchddnnnmdaa
open Go.RowKit Go.Lib
set_option linter.unusedSimpArgs false
set_option linter.unusedVariables false
set_option linter.unusedSectionVars false
theorem eq_selfI (a : Int) : (a == a) = true := by simp
end Go.Proofs.Ytijcchddnnnmdaa
namespace Go.Proofs.Ytijcchddnnnmdaa
open Go.RowKit Go.Shelf
set_option linter.unusedSimpArgs false
set_option linter.unusedVariables false
def m4 (a0 : List Dcl) (a1 : List Wy) : Option Bool :=
 Option.bind (Option.bind (XX a0) fun (x2 : Bool) =>
 cond (!x2)
   (some true)
   (Option.bind (m10 a1) fun (x4 : Bool) =>
 some (!x4))) (fun (v1 : Bool) => cond v1
   (Option.bind (KU ) fun (x3 : Bool) =>
 some x3)
   (Option.bind (Xq a0 a1) fun (x4 : (List Dcl) × Int) =>
 Option.bind (m16 a0 a1) fun (x5 : (List Dcl) × Int) =>
 Option.bind (cond (x4.2 == x5.2)
   (Option.bind (m17 x4.1 x5.1) fun (x8 : Bool) =>
 cond x8
   (Option.bind (KU ) fun (x10 : Bool) =>
 some x10)
   (some false))
   (some false)) (fun (v6 : Bool) => some v6)))
end Go.Proofs.Ytijcchddnnnmdaa
namespace Go.Proofs.Ytijcchddnnnmdaa
open Go.RowKit Go.Lib
set_option linter.unusedSimpArgs false
set_option linter.unusedVariables false
set_option linter.unusedSectionVars false
def one (d : Dcl) : List Dcl := [d]
theorem one_flat : ∀ l : List Dcl, (l.map one).flatten = l
  | [] => rfl
  | d :: l => by rw [List.map_cons, List.flatten_cons, one_flat l]; rfl
theorem f11_f12 : m56f11F = m56f12F := rfl
theorem m56_11 : GD = m56f12 := by
  funext a b c d
  unfold GD m56f12
  rw [f11_f12]
theorem l4_eq (a : List Wy) (y : List (List Int) × Wu) : GG a y = ZE a y y.1 := by
  funext s
  unfold GG ZE
  rw [m56_11]
theorem m15_eq (env : List Dcl) (nm : List Wy) (hl : Ke env ≤ 100000000) (hm : nm.length ≤ 900000000) : ∃ r, Xq env nm = some r ∧ RSays false one env nm r := by
  have hel := Ky env
  unfold Xq
  obtain ⟨r, e, hr⟩ := newGraph_eq (γ := Unit) env hl
  rw [show Qo (m15_l1 env) QB (0, gmNil) = Qo (K8 env) QB (0, gmNil) from rfl]
  rw [show (fun (o6 : Wu) => Option.bind (Qo (GH env o6) QB (0, ([] : List (List Int)))) (Sum.elim (fun (o7 : List (List Int)) => some (Sum.inl (o7, o6) : (List (List Int) × Wu) ⊕ Unit ⊕ Unit)) (fun o => some o))) = (fun (o6 : Wu) => Option.bind (Qo (K7 env o6) QB (0, ([] : List (List Int)))) (Sum.elim (fun (o7 : List (List Int)) => some (.inl (o7, o6))) (fun o => some o))) from rfl]
  rw [e, Option.bind_some]
  rcases hr with ⟨h1, rfl⟩ | ⟨h1, h2, rfl⟩ | ⟨h1, h2, M, rfl, hM⟩
  · exact ⟨_, rfl, .twice h1⟩
  · exact ⟨_, rfl, .none h1 h2⟩
  · have hg := graph_gr h2
    obtain ⟨r, e2, hr⟩ := visits_eq (g := YT env) (M := M) rfl hg (by omega) (by omega) hM nm hm
    dsimp only [Sum.elim]
    rw [hg.1]
    simp only [Int.toNat_natCast]
    rw [show decide (0 ≤ (env.length : Int)) = true from by rw [decide_eq_true_eq]; omega]
    simp only [cond_true]
    rw [Jq (by omega), l4_eq, e2, Option.bind_some]
    rcases hr with ⟨h3, b, rfl, hb⟩ | ⟨h3, rfl⟩
    · simp only [Sum.elim_inl, Sum.elim_inr, Option.bind_some]
      rw [sel_loop b one env (by omega) hb.len]
      · exact ⟨_, rfl, .ok h1 h2 h3 b hb⟩
      · intro a x c out e3 e4
        unfold Gl
        dsimp only
        rw [e4, show decide ((a.length : Int) < (env.length : Int)) = true from by rw [e3, Ji], show J1 env (a.length : Int) = some x from by rw [e3, J6]]
        simp only [cond_true, Option.bind_some, Int.toNat_natCast]
        rw [hg.1, Yx hb.len]; rfl
      · intro a x c out e3 e4 h5
        rw [one_flat] at h5
        unfold Gl
        dsimp only
        rw [e4, show decide ((a.length : Int) < (env.length : Int)) = true from by rw [e3, Ji], show J1 env (a.length : Int) = some x from by rw [e3, J6]]
        simp only [cond_true, Option.bind_some, Int.toNat_natCast]
        rw [hg.1, Yx hb.len]
        exact Jq (Nat.le_trans h5 (by omega))
      · intro s
        unfold Gl
        dsimp only
        rw [Jz]; rfl
    · exact ⟨_, rfl, .miss h1 h2 h3⟩
end Go.Proofs.Ytijcchddnnnmdaa
namespace Go.Proofs.Ytijcchddnnnmdaa
open Go.RowKit Go.Shelf
set_option linter.unusedSimpArgs false
set_option linter.unusedVariables false
def m45f18_l0 (a0 : List Int) (a1 : Int) (s1 : Int) : Option (LO Int (Unit ⊕ Int)) :=
 cond (decide (s1 < (a0.length : Int)))
   (Option.bind (J1 a0 s1) fun (x3 : Int) =>
 cond (a1 == x3)
   (some (.done (.inr s1)))
   (some (.next (QW (s1 + 1)))))
   (some (.done (.inl ())))
def m45f18 (a0 : List Int) (a1 : Int) : Option Int :=
 Option.bind (Qo (m45f18_l0 a0 a1) QB 0) (Sum.elim (fun (o1 : Unit) => some (-1)) (fun o => some o))
def m24f17 (a0 : List Int) (a1 : Int) : Option Bool :=
 Option.bind (m45f18 a0 a1) fun (x1 : Int) =>
 some (decide (0 ≤ x1))
def m7_l0 (x24 : List Int) (s1 : (List Int) × (List Dcl) × Int) (s2 : Int) : Option (LO Int (Unit ⊕ Bool)) :=
 cond (decide (s2 < (x24.length : Int)))
   (Option.bind (J1 x24 s2) fun (x27 : Int) =>
 Option.bind (m24f17 s1.1 x27) fun (x28 : Bool) =>
 cond (!x28)
   (some (.done (.inr false)))
   (some (.next (QW (s2 + 1)))))
   (some (.done (.inl ())))
def m7_l1 (x4 : (List Int) × Int) (a0 : List Dcl) (x5 : (List (List Int)) × Int) (s1 : (List Int) × (List Dcl) × Int) : Option (LO ((List Int) × (List Dcl) × Int) (((List Dcl)) ⊕ Bool)) :=
 cond (decide (s1.2.2 < (x4.1.length : Int)))
   (Option.bind (J1 x4.1 s1.2.2) fun (x21 : Int) =>
 Option.bind (cond (decide (x21 < 0))
   (some true)
   (cond (decide ((a0.length : Int) ≤ x21))
   (some true)
   (Option.bind (m24f17 s1.1 x21) fun (x25 : Bool) =>
 some x25))) (fun (v22 : Bool) => cond v22
   (some (.done (.inr false)))
   (Option.bind (J1 x5.1 x21) fun (x24 : List Int) =>
 Option.bind (Qo (m7_l0 x24 s1) QB 0) (Sum.elim (fun (o25 : Unit) => Qm (Nat.ble (s1.1.length + ([x21]).length) 1000000000)
 (Option.bind (J1 a0 x21) fun (x27 : Dcl) =>
 Qm (Nat.ble (s1.2.1.length + ([x27]).length) 1000000000)
 (some (.next ((s1.1 ++ ([x21])), (s1.2.1 ++ ([x27])), (QW (s1.2.2 + 1))))))) (fun o => some (.done (.inr o)))))))
   (some (.done (.inl s1.2.1)))
def m7_l2 (x20 : (List Int) × Int) (s1 : Int) : Option (LO Int (Unit ⊕ Bool)) :=
 cond (decide (s1 < (x20.1.length : Int)))
   (Option.bind (J1 x20.1 s1) fun (x23 : Int) =>
 cond (x23 != s1)
   (some (.done (.inr false)))
   (some (.next (QW (s1 + 1)))))
   (some (.done (.inl ())))
def m7 (a0 : List Dcl) : Option Bool :=
 Option.bind (XX a0) fun (x1 : Bool) =>
 cond (!x1)
   (Option.bind (KU ) fun (x3 : Bool) =>
 some x3)
   (Option.bind (m22 a0) fun (x4 : (List Int) × Int) =>
 Option.bind (m23 a0) fun (x5 : (List (List Int)) × Int) =>
 Option.bind (cond (x4.2 != 0)
   (some true)
   (some (x5.2 != 0))) (fun (v6 : Bool) => cond v6
   (Option.bind (cond ((x4.1.length : Int) == 0)
   (cond (x5.2 == 0)
   (cond (x4.2 == 22)
   (Option.bind (KU ) fun (x12 : Bool) =>
 some x12)
   (cond (x4.2 == x5.2)
   (Option.bind (KU ) fun (x14 : Bool) =>
 some x14)
   (some false)))
   (cond (x4.2 == x5.2)
   (Option.bind (KU ) fun (x16 : Bool) =>
 some x16)
   (some false)))
   (some false)) (fun (v8 : Bool) => some v8))
   (Option.bind (cond ((x4.1.length : Int) != (a0.length : Int))
   (some true)
   (some ((x5.1.length : Int) != (a0.length : Int)))) (fun (v17 : Bool) => cond v17
   (some false)
   (Option.bind (Qo (m7_l1 x4 a0 x5) QB (([] : List Int), ([] : List Dcl), 0)) (Sum.elim (fun (o19 : (List Dcl)) => Option.bind (m22 o19) fun (x20 : (List Int) × Int) =>
 Option.bind (Qo (m7_l2 x20) QB 0) (Sum.elim (fun (o21 : Unit) => Option.bind (cond (x20.2 == 0)
   (cond ((x20.1.length : Int) == (a0.length : Int))
   (Option.bind (KU ) fun (x25 : Bool) =>
 some x25)
   (some false))
   (some false)) (fun (v22 : Bool) => some v22)) (fun o => some o))) (fun o => some o)))))))
end Go.Proofs.Ytijcchddnnnmdaa
namespace Go.Proofs.Ytijcchddnnnmdaa
open Go.RowKit Go.Lib
set_option linter.unusedSimpArgs false
set_option linter.unusedVariables false
set_option linter.unusedSectionVars false
theorem ownO_le (s : Wy) : ∀ (l : List Dcl) (i : Int) (p : Nat) (d : Dcl), l[p]? = some d → s ∈ Jh d → ∃ q : Nat, q ≤ p ∧ Z1 i l s = some (i + q)
  | [], i, p, d, h, _ => by cases h
  | e :: l, i, p, d, h, hs => by
    simp only [Z1]
    split
    · exact ⟨0, Nat.zero_le _, by simp⟩
    · cases p with
      | zero => cases h; contradiction
      | succ p =>
        obtain ⟨q, h1, h2⟩ := ownO_le s l (i + 1) p d h hs
        exact ⟨q + 1, by omega, by rw [h2]; congr 1; omega⟩
theorem KZ {env : List Dcl} {s : Wy} : s ∈ QE env ↔ ∃ d ∈ env, s ∈ Jh d := by
  unfold QE
  rw [List.mem_flatten]
  constructor
  · rintro ⟨l, hl, hs⟩
    obtain ⟨d, hd, rfl⟩ := List.mem_map.1 hl
    exact ⟨d, hd, hs⟩
  · rintro ⟨d, hd, hs⟩
    exact ⟨_, List.mem_map.2 ⟨d, hd, rfl⟩, hs⟩
end Go.Proofs.Ytijcchddnnnmdaa
namespace Go.Proofs.Ytijcchddnnnmdaa
open Go.RowKit Go.Shelf
set_option linter.unusedSimpArgs false
set_option linter.unusedVariables false
def m5_l0 (x4 : (List Dcl) × Int) (s1 : (List Wy) × Int) : Option (LO ((List Wy) × Int) (((List Wy)))) :=
 cond (decide (s1.2 < (x4.1.length : Int)))
   (Option.bind (J1 x4.1 s1.2) fun (x13 : Dcl) =>
 Option.bind (X9 x13) fun (x14 : (List Wy)) =>
 Qm (Nat.ble (s1.1.length + x14.length) 1000000000)
 (some (.next ((s1.1 ++ x14), (QW (s1.2 + 1))))))
   (some (.done s1.1))
def m5 (a0 : List Dcl) (a1 : List Wy) : Option Bool :=
 Option.bind (Option.bind (XX a0) fun (x2 : Bool) =>
 cond (!x2)
   (some true)
   (Option.bind (m10 a1) fun (x4 : Bool) =>
 some (!x4))) (fun (v1 : Bool) => cond v1
   (Option.bind (KU ) fun (x3 : Bool) =>
 some x3)
   (Option.bind (Xq a0 a1) fun (x4 : (List Dcl) × Int) =>
 Option.bind (Xw a0 a1) fun (x5 : (List Wy) × Int) =>
 Option.bind (cond (x4.2 != 0)
   (some true)
   (some (x5.2 != 0))) (fun (v6 : Bool) => cond v6
   (Option.bind (cond (x4.2 == x5.2)
   (Option.bind (KU ) fun (x10 : Bool) =>
 some x10)
   (some false)) (fun (v8 : Bool) => some v8))
   (Option.bind (Qo (m5_l0 x4) QB (([] : List Wy), 0)) (fun (o11 : (List Wy)) => Option.bind (Xq a0 o11) fun (x12 : (List Dcl) × Int) =>
 Option.bind (Xw a0 x5.1) fun (x13 : (List Wy) × Int) =>
 Option.bind (Xq x4.1 a1) fun (x14 : (List Dcl) × Int) =>
 Option.bind (cond (x12.2 == 0)
   (cond (x13.2 == 0)
   (cond (x14.2 == 0)
   (Option.bind (m17 x4.1 x12.1) fun (x19 : Bool) =>
 cond x19
   (Option.bind (XE x5.1 x13.1) fun (x21 : Bool) =>
 cond x21
   (Option.bind (m17 x4.1 x14.1) fun (x23 : Bool) =>
 cond x23
   (Option.bind (KU ) fun (x25 : Bool) =>
 some x25)
   (some false))
   (some false))
   (some false))
   (some false))
   (some false))
   (some false)) (fun (v15 : Bool) => some v15))))))
end Go.Proofs.Ytijcchddnnnmdaa
namespace Go.Proofs.Ytijcchddnnnmdaa
open Go.RowKit Go.Lib
set_option linter.unusedSimpArgs false
set_option linter.unusedVariables false
set_option linter.unusedSectionVars false
theorem all_cons (d : Dcl) (l : List Dcl) : QE (d :: l) = Jh d ++ QE l := by unfold QE; simp
theorem pos_inj {s : Wy} : ∀ {l : List Dcl} {p q : Nat} {d e : Dcl}, (QE l).Nodup → l[p]? = some d → l[q]? = some e → s ∈ Jh d → s ∈ Jh e → p = q
  | [], p, q, d, e, _, h, _, _, _ => by cases h
  | x :: l, 0, 0, d, e, _, _, _, _, _ => rfl
  | x :: l, 0, q + 1, d, e, hn, h1, h2, h3, h4 => by
    rw [all_cons] at hn
    cases h1
    exact absurd rfl ((List.nodup_append.1 hn).2.2 s h3 s (KZ.2 ⟨e, List.mem_of_getElem? h2, h4⟩))
  | x :: l, p + 1, 0, d, e, hn, h1, h2, h3, h4 => by
    rw [all_cons] at hn
    cases h2
    exact absurd rfl ((List.nodup_append.1 hn).2.2 s h4 s (KZ.2 ⟨d, List.mem_of_getElem? h1, h3⟩))
  | x :: l, p + 1, q + 1, d, e, hn, h1, h2, h3, h4 => by
    rw [all_cons] at hn
    rw [pos_inj (List.nodup_append.1 hn).2.1 h1 h2 h3 h4]
theorem own_iff {env : List Dcl} (hn : (QE env).Nodup) {s : Wy} {i : Nat} : Z1 0 env s = some (i : Int) ↔ ∃ d, env[i]? = some d ∧ s ∈ Jh d := by
  constructor
  · intro h
    obtain ⟨k, d, h1, h2, h3⟩ := ownO_some s env 0 i h
    obtain rfl : i = k := by omega
    exact ⟨d, h2, h3⟩
  · rintro ⟨d, h1, h2⟩
    obtain ⟨q, h3, h4⟩ := ownO_le s env 0 i d h1 h2
    obtain ⟨k, e, h5, h6, h7⟩ := ownO_some s env 0 _ h4
    have := pos_inj hn h1 h6 h2 h7
    rw [h4]
    congr 1
    omega
theorem starts_iff {env : List Dcl} (hn : (QE env).Nodup) {nm : List Wy} {i : Nat} : K0 env nm i ↔ ∃ d s, env[i]? = some d ∧ s ∈ nm ∧ s ∈ Jh d := by
  unfold K0
  constructor
  · rintro ⟨s, hs, h⟩
    obtain ⟨d, h1, h2⟩ := (own_iff hn).1 h
    exact ⟨d, s, h1, hs, h2⟩
  · rintro ⟨d, s, h1, h2, h3⟩
    exact ⟨s, h2, (own_iff hn).2 ⟨d, h1, h3⟩⟩
theorem mem_sel {b : List Bool} {d : Dcl} : ∀ {l : List Dcl} {i : Nat}, d ∈ Gt b i l ↔ ∃ k : Nat, l[k]? = some d ∧ Wt b (i + k)
  | [], i => by simp [Gt]
  | x :: l, i => by
    have ih := mem_sel (b := b) (d := d) (l := l) (i := i + 1)
    simp only [Gt]
    constructor
    · intro h
      by_cases hx : b[i]? = some true
      · rw [show (b[i]? == some true) = true from by rw [hx]; rfl] at h
        rcases List.mem_cons.1 h with rfl | h
        · exact ⟨0, rfl, hx⟩
        · obtain ⟨k, h1, h2⟩ := ih.1 h
          exact ⟨k + 1, h1, by rw [show i + (k + 1) = i + 1 + k by omega]; exact h2⟩
      · rw [show (b[i]? == some true) = false from by rw [Bool.eq_false_iff]; exact fun h' => hx (beq_iff_eq.1 h')] at h
        obtain ⟨k, h1, h2⟩ := ih.1 h
        exact ⟨k + 1, h1, by rw [show i + (k + 1) = i + 1 + k by omega]; exact h2⟩
    · rintro ⟨k, h1, h2⟩
      cases k with
      | zero =>
        cases h1
        rw [show (b[i]? == some true) = true from by rw [show b[i]? = some true from h2]; rfl]
        simp
      | succ k =>
        have h3 := ih.2 ⟨k, h1, by rw [show i + 1 + k = i + (k + 1) by omega]; exact h2⟩
        cases (b[i]? == some true) with
        | true => exact List.mem_cons_of_mem _ h3
        | false => exact h3
theorem sub_names {l env : List Dcl} (h : l.Sublist env) : (QE l).Sublist (QE env) := by
  induction h with
  | slnil => exact List.Sublist.refl _
  | cons x _ ih => rw [all_cons]; exact ih.trans (List.sublist_append_right _ _)
  | cons_cons x _ ih => rw [all_cons, all_cons]; exact (List.Sublist.refl _).append ih
end Go.Proofs.Ytijcchddnnnmdaa
namespace Go.Proofs.Ytijcchddnnnmdaa
open Go.RowKit Go.Shelf
set_option linter.unusedSimpArgs false
set_option linter.unusedVariables false
theorem GV : Gs Try.prog 3 = some .i64 := by kernel_rfl
theorem GU : Gs Try.prog 5 = some .u8 := by kernel_rfl
theorem en_6 : J9 Try.prog 6 := enters_of Try.func6 (by kernel_rfl) rfl
theorem en_19 : J9 Try.prog 19 := enters_of Try.func19 (by kernel_rfl) rfl
theorem en_20 : J9 Try.prog 20 := enters_of Try.func20 (by kernel_rfl) rfl
theorem en_21 : J9 Try.prog 21 := enters_of Try.func21 (by kernel_rfl) rfl
theorem en_41 : J9 Try.prog 41 := enters_of Try.func41 (by kernel_rfl) rfl
theorem en_42 : J9 Try.prog 42 := enters_of Try.func42 (by kernel_rfl) rfl
def Zj (x1 : (List Wy)) (x2 : Wy) (s3 : Int) : Option (LO Int (Unit ⊕ Int)) :=
 cond (decide (s3 < (x1.length : Int)))
   (Option.bind (J1 x1 s3) fun (x9 : Wy) =>
 cond (x2 == x9)
   (some (.done (.inr s3)))
   (some (.next (QW (s3 + 1)))))
   (some (.done (.inl ())))
def GE (a0 : Dcl) (a1 : List Wy) : Option Bool :=
 Option.bind (X9 a0) fun (x1 : (List Wy)) =>
 Option.bind (J1 a1 0) fun (x2 : Wy) =>
 Option.bind (Option.bind (Option.bind (Qo (Zj x1 x2) QB 0) (Sum.elim (fun (o7 : Unit) => some (-1)) (fun o => some o))) (fun (y5 : Int) => some (decide (0 ≤ y5)))) (fun (y3 : Bool) => some y3)
set_option maxRecDepth 100000 in
set_option maxHeartbeats 2000000 in
theorem m20f16_ok (a0 : Dcl) (a1 : List Wy) (r : Bool) (h0 : GE a0 a1 = some r) : CallM Try.prog 20 [.agg (Wj a0), .one (.ptr 0 0)] ⟨[(0, .cells 23 [We a1])], [], 1⟩ (Qr [.one (Wh r)]) ⟨[(0, .cells 23 [We a1])], [], 2⟩ := by
 unfold GE at h0
 refine QM ⟨[(3, .v (.one (Wh r)))], [(0, .cells 23 [We a1])], [], 2, 10, []⟩ rfl rfl en_20 (W1 rfl) rfl (Qp rfl .nil) (fun w0 M V0 Q hv0 hQ0 => ?_)
 simp only [Jc]
 refine Q2 <| Q0 <| Q9 rfl rfl (W1 rfl) (Js rfl) <| XS rfl rfl rfl <| Q3 <| Q1 <| Q2 ?_
 refine JZ [5] [] mixed (by kernel_rfl) (by kernel_rfl) (by kernel_rfl) ?_
 refine RunA.rd rfl rfl rfl (Q5 (Jj (a0 : Dcl) J3 rfl rfl)) rfl ?_
 refine Qb h0 (fun x1 hx1 h0 => ?_)
 refine RunA.rd rfl rfl rfl (Qt (GF a0 x1 hx1) rfl (.cons (.agg (.cons (.d _) (.cons (.d _) (.cons (.d _) (.cons (.d _) (.cons (.d _) (.cons (.d _) (.cons (.d _) (.cons (.d _) (.cons (.d _) (.cons (.d _) (.cons (.d _) (.cons (.d _) (.cons (.d _) (.cons (.d _) (.cons (.d _) (.cons (.d _) (.cons (.d _) (.cons (.d _) (.cons (.d _) (.cons (.d _) (.cons (.d _) (.cons (.d _) (.cons (.d _) .nil)))))))))))))))))))))))) .nil)) rfl <| RunA.rd rfl rfl rfl (Q5 (Q7 ZC rfl rfl rfl)) rfl ?_
 refine Qb h0 (fun x2 hx2 h0 => ?_)
 refine RunA.rd rfl rfl rfl (Q5 (Qq (α := Wy) QQ rfl (.d _) rfl hx2)) rfl <| RunA.rd rfl rfl rfl (Q5 (QK Y6 rfl rfl)) rfl ?_
 refine Qb h0 (fun y3 h1 h0 => ?_)
 have hc4 : CallM Try.prog 21 [.one (We x1), .one (YK x2)] ⟨[(0, .cells 23 [We a1]), (1, .cells 48 (Wj a0))], [], 2⟩ (Qr [.one (Wh y3)]) ⟨[(0, .cells 23 [We a1]), (1, .cells 48 (Wj a0))], [], 2⟩ := by
  refine QM ⟨[(4, .v (.one (Wh y3)))], [(0, .cells 23 [We a1]), (1, .cells 48 (Wj a0))], [], 2, 9, []⟩ rfl rfl en_21 (W1 rfl) rfl (Qp rfl .nil) (fun w0 M V0 Q hv1 hQ1 => ?_)
  simp only [Jc]
  refine Q2 <| Q0 <| XS rfl rfl rfl <| Q3 <| Q1 <| Q2 <| Q0 <| XR rfl rfl rfl <| XR rfl rfl rfl ?_
  refine Qb h1 (fun y5 h2 h1 => ?_)
  have hc6 : CallM Try.prog 42 [.one (We x1), .one (YK x2)] ⟨[(0, .cells 23 [We a1]), (1, .cells 48 (Wj a0))], [], 2⟩ (Qr [.one (Wg y5)]) ⟨[(0, .cells 23 [We a1]), (1, .cells 48 (Wj a0))], [], 2⟩ := by
   refine QM ⟨[(4, .v (.one (Wg y5)))], [(0, .cells 23 [We a1]), (1, .cells 48 (Wj a0))], [], 2, 19, []⟩ rfl rfl en_42 (W1 rfl) rfl (Qp rfl .nil) (fun w0 M V0 Q hv2 hQ2 => ?_)
   simp only [Jc]
   refine Q2 <| Q0 <| XS rfl rfl rfl <| Q3 <| Q1 <| Q2 <| Q2 <| Q0 <| XR rfl rfl rfl <| XP rfl rfl rfl (Qy (α := Wy) QQ rfl (.d _)) <| XR rfl rfl rfl <| Q3 <| Q1 <| Qd ?_
   refine QI 0 (fun (o7 : Unit) => ⟨[], [(0, .cells 23 [We a1]), (1, .cells 48 (Wj a0))], [], 2, 19, []⟩) (fun (o7 : Unit) => (some (-1)) = some y5) ?_ ?_
   refine Qb h2 (fun o8 hl3 h2 => ?_)
   refine QH (Zj x1 x2) (fun s3 => ⟨[(0, .v (.one (We x1))), (1, .v (.one (YK x2))), (7, .v (.one (Wg (x1.length : Int)))), (8, .v (.one (Wg s3)))], [(0, .cells 23 [We a1]), (1, .cells 48 (Wj a0))], [], 2, 19, []⟩) 0 o8 (Qh (XK rfl (XK rfl (XK rfl (XK rfl XJ)))) (W8 rfl (W8 rfl W7)) W3 rfl (Nat.le_trans hv2 (W1 rfl)) rfl rfl rfl (Wp rfl rfl (Wp rfl rfl Wm)) rfl rfl) hl3 (fun s3 n3 oo3 h3 ho3 => ?_)
   unfold Zj at h3
   refine Q2 <| Q0 <| XP rfl rfl rfl (Q4 rfl rfl rfl) <| Q3 <| Q1 <| Q2 ?_
   refine Qg (b := (decide (s3 < (x1.length : Int)))) rfl (fun c9 => ?_) (fun c9 => ?_)
   replace h3 := Qu c9 h3
   refine Qj <| Q1 <| Q2 <| Qd <| Q2 <| Q0 <| XR rfl rfl rfl <| XS rfl rfl rfl <| Q3 <| Q1 <| Q2 <| Q0 <| XR rfl rfl rfl <| XR rfl rfl rfl ?_
   refine XR rfl rfl rfl ?_
   refine Qb h3 (fun x10 hx10 h3 => ?_)
   refine XP rfl rfl rfl (Qq (α := Wy) QQ rfl (.d _) rfl hx10) <| XP rfl rfl rfl (QK Y6 rfl rfl) <| XP rfl rfl rfl (RO.eqS rfl rfl) <| Q3 <| Q1 ?_
   refine Qg (b := (x2 == x10)) rfl (fun c11 => ?_) (fun c11 => ?_)
   replace h3 := Qu c11 h3
   refine Q2 <| Q0 <| XR rfl rfl rfl <| XS rfl rfl rfl <| Q3 <| Q1 <| Qw ?_
   have e := XN h3; subst e
   have e_ : _ = _ := ho3
   subst e_
   try dsimp only [Sum.elim_inl, Sum.elim_inr] at h2
   have e := XN h2; subst e
   exact hQ2 _ _ _ (.inr rfl) rfl (Qh (XK rfl XJ) (W8 rfl (W8 rfl W7)) W3 rfl (Nat.le_trans hv2 (W1 rfl)) rfl rfl rfl (Wp rfl rfl (Wp rfl rfl Wm)) rfl rfl)
   replace h3 := Qv c11 h3
   refine Qj <| Qk <| Q1 <| Q0 <| XP rfl rfl rfl (Q4 rfl rfl rfl) <| XR rfl rfl rfl <| Q3 ?_
   have e := XN h3; subst e
   refine QD (QW (s3 + 1)) (Qh (XK rfl (XK rfl (XK rfl (XK rfl XJ)))) (W8 rfl (W8 rfl W7)) W3 rfl (Nat.le_trans hv2 (W1 rfl)) rfl rfl rfl (Wp rfl rfl (Wp rfl rfl Wm)) rfl rfl) ho3
   replace h3 := Qv c9 h3
   refine QN <| Qf <| Qf ?_
   have e := XN h3; subst e
   have e_ : _ = _ := ho3
   subst e_
   exact QF () (Qh XJ (W8 rfl (W8 rfl W7)) W3 rfl (Nat.le_trans hv2 (W1 rfl)) rfl rfl rfl (Wp rfl rfl (Wp rfl rfl Wm)) rfl rfl) h2
   intro o7 h2
   refine Qx <| Q1 <| Q2 <| Q0 <| XS rfl rfl rfl <| Q3 <| Q1 <| Qw ?_
   have e := XN h2; subst e
   exact hQ2 _ _ _ (.inr rfl) rfl (Qh (XK rfl XJ) (W8 rfl (W8 rfl W7)) W3 rfl (Nat.le_trans hv2 (W1 rfl)) rfl rfl rfl (Wp rfl rfl (Wp rfl rfl Wm)) rfl rfl)
  refine Q9 rfl rfl (W1 rfl) (QP rfl rfl rfl hc6 rfl (W8 rfl (W8 rfl W7)) W3) <| XP rfl rfl rfl (Q4 rfl rfl rfl) <| XS rfl rfl rfl <| Q3 <| Q1 <| Qw ?_
  have e := XN h1; subst e
  exact hQ1 _ _ _ (.inr rfl) rfl (Qh (XK rfl XJ) (W8 rfl (W8 rfl W7)) W3 rfl (Nat.le_trans hv1 (W1 rfl)) rfl rfl rfl (Wp rfl rfl (Wp rfl rfl Wm)) rfl rfl)
 refine RunA.eff rfl rfl rfl (QP rfl rfl rfl hc4 rfl (W8 rfl (W8 rfl W7)) W3) rfl <| RunA.rd rfl rfl rfl (Q5 (Yg rfl)) rfl ?_
 refine RunA.nil ⟨?ex, _, _, rfl, ?_⟩
 case ex => exact trivial
 refine JT (st' := ⟨[(3, .v (.one (Wh y3)))], [(0, .cells 23 [We a1]), (1, .cells 48 (Wj a0))], [], 2, 10, []⟩) (Qh (XK rfl XJ) (W8 rfl (W8 rfl W7)) W3 rfl (Nat.le_trans hv0 (W1 rfl)) rfl rfl rfl (Wp rfl rfl (Wp rfl rfl Wm)) rfl rfl) <| Q1 <| Qw ?_
 have e := XN h0; subst e
 exact hQ0 _ _ _ (.inr rfl) rfl (Qh (XK rfl XJ) (W8 rfl W7) W3 rfl (Nat.le_trans hv0 (W1 rfl)) rfl rfl rfl (Wp rfl rfl Wm) rfl rfl)
def Zi (a0 : List Dcl) (a1 : List Wy) (s1 : Int) : Option (LO Int (Unit ⊕ Int)) :=
 cond (decide (s1 < (a0.length : Int)))
   (Option.bind (J1 a0 s1) fun (x3 : Dcl) =>
 Option.bind (GE x3 a1) fun (x4 : Bool) =>
 cond x4
   (some (.done (.inr s1)))
   (some (.next (QW (s1 + 1)))))
   (some (.done (.inl ())))
def m41f15 (a0 : List Dcl) (a1 : List Wy) : Option Int :=
 Option.bind (Qo (Zi a0 a1) QB 0) (Sum.elim (fun (o1 : Unit) => some (-1)) (fun o => some o))
set_option maxRecDepth 100000 in
set_option maxHeartbeats 2000000 in
theorem m41f15_ok (a0 : List Dcl) (a1 : List Wy) (r : Int) (h0 : m41f15 a0 a1 = some r) : CallM Try.prog 41 [.one (We a0), .one (.fn 20 [(0, 0)])] ⟨[(0, .cells 23 [We a1])], [], 1⟩ (Qr [.one (Wg r)]) ⟨[(0, .cells 23 [We a1])], [], 1⟩ := by
 unfold m41f15 at h0
 refine QM ⟨[(4, .v (.one (Wg r)))], [(0, .cells 23 [We a1])], [], 1, 19, []⟩ rfl rfl en_41 (W1 rfl) rfl (Qp rfl .nil) (fun w0 M V0 Q hv0 hQ0 => ?_)
 simp only [Jc]
 refine Q2 <| Q0 <| XS rfl rfl rfl <| Q3 <| Q1 <| Q2 <| Q2 <| Q0 <| XR rfl rfl rfl <| XP rfl rfl rfl (Qy (α := Dcl) J5 rfl (.d _)) <| XR rfl rfl rfl <| Q3 <| Q1 <| Qd ?_
 refine QI 0 (fun (o1 : Unit) => ⟨[], [(0, .cells 23 [We a1])], [], 1, 19, []⟩) (fun (o1 : Unit) => (some (-1)) = some r) ?_ ?_
 refine Qb h0 (fun o2 hl1 h0 => ?_)
 refine QH (Zi a0 a1) (fun s1 => ⟨[(0, .v (.one (We a0))), (1, .v (.one (.fn 20 [(0, 0)]))), (7, .v (.one (Wg (a0.length : Int)))), (8, .v (.one (Wg s1)))], [(0, .cells 23 [We a1])], [], 1, 19, []⟩) 0 o2 (Qh (XK rfl (XK rfl (XK rfl (XK rfl XJ)))) (W8 rfl W7) W3 rfl (Nat.le_trans hv0 (W1 rfl)) rfl rfl rfl (Wp rfl rfl Wm) rfl rfl) hl1 (fun s1 n1 oo1 h1 ho1 => ?_)
 unfold Zi at h1
 refine Q2 <| Q0 <| XP rfl rfl rfl (Q4 rfl rfl rfl) <| Q3 <| Q1 <| Q2 ?_
 refine Qg (b := (decide (s1 < (a0.length : Int)))) rfl (fun c3 => ?_) (fun c3 => ?_)
 replace h1 := Qu c3 h1
 refine Qj <| Q1 <| Q2 <| Qd <| Q2 <| Q0 <| XR rfl rfl rfl <| XS rfl rfl rfl <| Q3 <| Q1 <| Q2 <| Q0 <| XR rfl rfl rfl <| XR rfl rfl rfl ?_
 refine XR rfl rfl rfl ?_
 refine Qb h1 (fun x4 hx4 h1 => ?_)
 refine XP rfl rfl rfl (Qq (α := Dcl) J5 rfl (.d _) rfl hx4) <| XP rfl rfl rfl (J4 (x4 : Dcl) J3 rfl) ?_
 refine Qb h1 (fun x5 hx5 h1 => ?_)
 refine Q9 rfl rfl (W1 rfl) (QS (hp1' := [(0, .cells 23 [We a1])]) (tk1' := []) (hpF := []) (tkF := []) (res2 := Qr [.one (Wh x5)]) (nx2 := 2) [0] rfl rfl (m20f16_ok x4 a1 x5 hx5) rfl rfl (XW rfl rfl XT) rfl rfl (Wb rfl Wa) W5 W7 W3 rfl rfl rfl rfl rfl (Wp rfl rfl Wm) rfl rfl rfl rfl) <| Q3 <| Q1 ?_
 refine Qg (b := x5) rfl (fun c6 => ?_) (fun c6 => ?_)
 replace h1 := Qu c6 h1
 refine Q2 <| Q0 <| XR rfl rfl rfl <| XS rfl rfl rfl <| Q3 <| Q1 <| Qw ?_
 have e := XN h1; subst e
 have e_ : _ = _ := ho1
 subst e_
 try dsimp only [Sum.elim_inl, Sum.elim_inr] at h0
 have e := XN h0; subst e
 exact hQ0 _ _ _ (.inr rfl) rfl (Qh (XK rfl XJ) (W8 rfl W7) W3 rfl (Nat.le_trans hv0 (W1 rfl)) rfl rfl rfl (Wp rfl rfl Wm) rfl rfl)
 replace h1 := Qv c6 h1
 refine Qj <| Qk <| Q1 <| Q0 <| XP rfl rfl rfl (Q4 rfl rfl rfl) <| XR rfl rfl rfl <| Q3 ?_
 have e := XN h1; subst e
 refine QD (QW (s1 + 1)) (Qh (XK rfl (XK rfl (XK rfl (XK rfl XJ)))) (W8 rfl W7) W3 rfl (Nat.le_trans hv0 (W1 rfl)) rfl rfl rfl (Wp rfl rfl Wm) rfl rfl) ho1
 replace h1 := Qv c3 h1
 refine QN <| Qf <| Qf ?_
 have e := XN h1; subst e
 have e_ : _ = _ := ho1
 subst e_
 exact QF () (Qh XJ (W8 rfl W7) W3 rfl (Nat.le_trans hv0 (W1 rfl)) rfl rfl rfl (Wp rfl rfl Wm) rfl rfl) h0
 intro o1 h0
 refine Qx <| Q1 <| Q2 <| Q0 <| XS rfl rfl rfl <| Q3 <| Q1 <| Qw ?_
 have e := XN h0; subst e
 exact hQ0 _ _ _ (.inr rfl) rfl (Qh (XK rfl XJ) (W8 rfl W7) W3 rfl (Nat.le_trans hv0 (W1 rfl)) rfl rfl rfl (Wp rfl rfl Wm) rfl rfl)
def Kl (a0 : List Dcl) (a1 : List Wy) : Option Bool :=
 Option.bind (m41f15 a0 a1) fun (x1 : Int) =>
 some (decide (0 ≤ x1))
set_option maxRecDepth 100000 in
set_option maxHeartbeats 2000000 in
theorem m19f14_ok (a0 : List Dcl) (a1 : List Wy) (r : Bool) (h0 : Kl a0 a1 = some r) : CallM Try.prog 19 [.one (We a0), .one (.fn 20 [(0, 0)])] ⟨[(0, .cells 23 [We a1])], [], 1⟩ (Qr [.one (Wh r)]) ⟨[(0, .cells 23 [We a1])], [], 1⟩ := by
 unfold Kl at h0
 refine QM ⟨[(4, .v (.one (Wh r)))], [(0, .cells 23 [We a1])], [], 1, 9, []⟩ rfl rfl en_19 (W1 rfl) rfl (Qp rfl .nil) (fun w0 M V0 Q hv0 hQ0 => ?_)
 simp only [Jc]
 refine Q2 <| Q0 <| XS rfl rfl rfl <| Q3 <| Q1 <| Q2 <| Q0 <| XR rfl rfl rfl <| XR rfl rfl rfl ?_
 refine Qb h0 (fun x1 hx1 h0 => ?_)
 refine Q9 rfl rfl (W1 rfl) (QS (hp1' := [(0, .cells 23 [We a1])]) (tk1' := []) (hpF := []) (tkF := []) (res2 := Qr [.one (Wg x1)]) (nx2 := 1) [0] rfl rfl (m41f15_ok a0 a1 x1 hx1) rfl rfl (XW rfl rfl XT) rfl rfl (Wb rfl Wa) W5 W7 W3 rfl rfl rfl rfl rfl (Wp rfl rfl Wm) rfl rfl rfl rfl) <| XP rfl rfl rfl (Q4 rfl rfl rfl) <| XS rfl rfl rfl <| Q3 <| Q1 <| Qw ?_
 have e := XN h0; subst e
 exact hQ0 _ _ _ (.inr rfl) rfl (Qh (XK rfl XJ) (W8 rfl W7) W3 rfl (Nat.le_trans hv0 (W1 rfl)) rfl rfl rfl (Wp rfl rfl Wm) rfl rfl)
def G0 (x14 : (List Wy) × Int) (x26 : Wy) (s4 : Int) : Option (LO Int (Unit ⊕ Int)) :=
 cond (decide (s4 < (x14.1.length : Int)))
   (Option.bind (J1 x14.1 s4) fun (x33 : Wy) =>
 cond (x26 == x33)
   (some (.done (.inr s4)))
   (some (.next (QW (s4 + 1)))))
   (some (.done (.inl ())))
def XY (a0 : List Dcl) (a1 : Byt) (a2 : Byt) : Option Bool :=
 Option.bind (Option.bind (XX a0) fun (x2 : Bool) =>
 cond (!x2)
   (some true)
   (some ((a0.length : Int) == 0))) (fun (v1 : Bool) => cond v1
   (Option.bind (KU ) fun (x3 : Bool) =>
 some x3)
   (Qm ((!((a0.length : Int) == 0)))
 (Option.bind (J1 a0 (Int.tmod (QW a1.n) (a0.length : Int))) fun (x5 : Dcl) =>
 Qm ((!((a0.length : Int) == 0)))
 (Option.bind (J1 a0 (Int.tmod (QW a2.n) (a0.length : Int))) fun (x7 : Dcl) =>
 Option.bind (X9 x5) fun (x8 : (List Wy)) =>
 Option.bind (X9 x7) fun (x9 : (List Wy)) =>
 Option.bind (cond ((x8.length : Int) == 0)
   (some true)
   (some ((x9.length : Int) == 0))) (fun (v10 : Bool) => cond v10
   (Option.bind (KU ) fun (x12 : Bool) =>
 some x12)
   (Qm (cond (decide (0 ≤ (1 : Int))) (Nat.ble (1 : Int).toNat x8.length) false)
 (Option.bind (Xw a0 (x8.take (1 : Int).toNat)) fun (x14 : (List Wy) × Int) =>
 Qm (cond (decide (0 ≤ (1 : Int))) (Nat.ble (1 : Int).toNat x9.length) false)
 (Option.bind (Xq a0 (x9.take (1 : Int).toNat)) fun (x16 : (List Dcl) × Int) =>
 Option.bind (cond (x14.2 != 0)
   (some true)
   (some (x16.2 != 0))) (fun (v17 : Bool) => cond v17
   (Option.bind (cond (x14.2 == x16.2)
   (cond ((x14.1.length : Int) == 0)
   (cond ((x16.1.length : Int) == 0)
   (Option.bind (KU ) fun (x23 : Bool) =>
 some x23)
   (some false))
   (some false))
   (some false)) (fun (v19 : Bool) => some v19))
   (Option.bind (Kl x16.1 x8) fun (x24 : Bool) =>
 Option.bind (Option.bind (J1 x9 0) fun (x26 : Wy) =>
 Option.bind (Option.bind (Option.bind (Qo (G0 x14 x26) QB 0) (Sum.elim (fun (o31 : Unit) => some (-1)) (fun o => some o))) (fun (y29 : Int) => some (decide (0 ≤ y29)))) (fun (y27 : Bool) => cond (y27 == x24)
   (Option.bind (KU ) fun (x37 : Bool) =>
 some x37)
   (some false))) (fun (v25 : Bool) => some v25)))))))))))
set_option maxRecDepth 100000 in
set_option maxHeartbeats 2000000 in
theorem m6_ok (a0 : List Dcl) (a1 : Byt) (a2 : Byt) (r : Bool) (h0 : XY a0 a1 a2 = some r) : Fun Try.prog 6 [.one (We a0), .one (.d (.v (.int .u8 a1.n))), .one (.d (.v (.int .u8 a2.n)))] (Qr [.one (Wh r)]) := by
 unfold XY at h0
 refine Jd 9 103 Try.func6 rfl en_6 rfl (W1 rfl) (fun S w => ?_)
 simp only [Jc]
 refine Q2 <| Q0 <| XS rfl rfl rfl <| Q3 <| Q1 <| Q2 <| Q2 ?_
 refine Jy (fun (v1 : Bool) => ⟨[(0, .v (.one (We a0))), (1, .v (.one (.d (.v (.int .u8 a1.n))))), (2, .v (.one (.d (.v (.int .u8 a2.n))))), (23, .v (.one (Wh v1)))], [], [], 0, 103, []⟩) (fun (v1 : Bool) => (cond v1
     (Option.bind (KU ) fun (x3 : Bool) =>
   some x3)
     (Qm ((!((a0.length : Int) == 0)))
   (Option.bind (J1 a0 (Int.tmod (QW a1.n) (a0.length : Int))) fun (x5 : Dcl) =>
   Qm ((!((a0.length : Int) == 0)))
   (Option.bind (J1 a0 (Int.tmod (QW a2.n) (a0.length : Int))) fun (x7 : Dcl) =>
   Option.bind (X9 x5) fun (x8 : (List Wy)) =>
   Option.bind (X9 x7) fun (x9 : (List Wy)) =>
   Option.bind (cond ((x8.length : Int) == 0)
     (some true)
     (some ((x9.length : Int) == 0))) (fun (v10 : Bool) => cond v10
     (Option.bind (KU ) fun (x12 : Bool) =>
   some x12)
     (Qm (cond (decide (0 ≤ (1 : Int))) (Nat.ble (1 : Int).toNat x8.length) false)
   (Option.bind (Xw a0 (x8.take (1 : Int).toNat)) fun (x14 : (List Wy) × Int) =>
   Qm (cond (decide (0 ≤ (1 : Int))) (Nat.ble (1 : Int).toNat x9.length) false)
   (Option.bind (Xq a0 (x9.take (1 : Int).toNat)) fun (x16 : (List Dcl) × Int) =>
   Option.bind (cond (x14.2 != 0)
     (some true)
     (some (x16.2 != 0))) (fun (v17 : Bool) => cond v17
     (Option.bind (cond (x14.2 == x16.2)
     (cond ((x14.1.length : Int) == 0)
     (cond ((x16.1.length : Int) == 0)
     (Option.bind (KU ) fun (x23 : Bool) =>
   some x23)
     (some false))
     (some false))
     (some false)) (fun (v19 : Bool) => some v19))
     (Option.bind (Kl x16.1 x8) fun (x24 : Bool) =>
   Option.bind (Option.bind (J1 x9 0) fun (x26 : Wy) =>
   Option.bind (Option.bind (Option.bind (Qo (G0 x14 x26) QB 0) (Sum.elim (fun (o31 : Unit) => some (-1)) (fun o => some o))) (fun (y29 : Int) => some (decide (0 ≤ y29)))) (fun (y27 : Bool) => cond (y27 == x24)
     (Option.bind (KU ) fun (x37 : Bool) =>
   some x37)
     (some false))) (fun (v25 : Bool) => some v25))))))))))) = some r) ?_ ?_
 refine Qb h0 (fun w1_ h1 h0 => ?_)
 refine Q0 <| XR rfl rfl rfl ?_
 refine Qb h1 (fun x2 hx2 h1 => ?_)
 refine Q9 rfl rfl (W1 rfl) (Qt (m9_ok a0 x2 hx2) rfl (.cons (.one (.d _)) .nil)) <| XP rfl rfl rfl (Jp rfl) <| XR rfl rfl rfl ?_
 refine Ja (d := 19) (c := (!x2)) rfl (fun c3 => ?_) (fun c3 => ?_)
 replace h1 := Qu c3 h1
 refine Qa rfl rfl <| Qa rfl rfl <| Qa rfl rfl <| XP rfl rfl rfl (QC rfl rfl) <| Q3 ?_
 have e := XN h1; subst e
 exact QG true (Qh (XK rfl (XK rfl (XK rfl (XK rfl XJ)))) W7 W3 rfl (Nat.zero_le _) rfl rfl rfl Wm rfl rfl) h0
 replace h1 := Qv c3 h1
 refine XR rfl rfl rfl <| XP rfl rfl rfl (Qy (α := Dcl) J5 rfl (.d _)) <| XP rfl rfl rfl (Q4 rfl rfl rfl) <| XP rfl rfl rfl (QL rfl rfl) <| Q3 ?_
 have e := XN h1; subst e
 exact QG ((a0.length : Int) == 0) (Qh (XK rfl (XK rfl (XK rfl (XK rfl XJ)))) W7 W3 rfl (Nat.zero_le _) rfl rfl rfl Wm rfl rfl) h0
 intro v1 h0
 refine Q1 ?_
 refine Qg (b := v1) rfl (fun c4 => ?_) (fun c4 => ?_)
 replace h0 := Qu c4 h0
 refine Q2 <| Q0 ?_
 refine Qb h0 (fun x5 hx5 h0 => ?_)
 refine Q9 rfl rfl (W1 rfl) (Qt (m11_ok  x5 hx5) rfl .nil) <| XS rfl rfl rfl <| Q3 <| Q1 <| Qw ?_
 have e := XN h0; subst e
 exact QX (fun _ _ h => h) rfl (Qp rfl .nil) (.cons (.one (.d _)) .nil)
 replace h0 := Qv c4 h0
 refine Qj <| Q1 <| Q2 ?_
 refine XC.pairRun [16, 17, 18, 19] [[], [16], [16, 17], [16, 17, 18], [16, 17, 18, 19], [17]] [(0, 1), (0, 2), (1, 1), (1, 2), (2, 1), (2, 2), (3, 1), (3, 2), (4, 1), (4, 2), (5, 1), (5, 2), (6, 1), (6, 2), (7, 1), (7, 2), (8, 1), (8, 2), (8, 3), (9, 1), (9, 2), (9, 3), (10, 1), (10, 2), (10, 3), (11, 1), (11, 2), (11, 3), (12, 1), (12, 2), (12, 3), (13, 1), (13, 2), (13, 3), (14, 1), (14, 2), (14, 3), (15, 1), (15, 2), (15, 3)] 5 16 17 [0, 1, 2, 3, 4, 5, 6, 7, 8, 9, 10, 11, 12, 13, 14, 15] mixed (by kernel_rfl) (by kernel_rfl) (by kernel_rfl) (by kernel_rfl) (by kernel_rfl) (by kernel_rfl) rfl (by kernel_rfl) ?_
 refine RunA.rd rfl rfl rfl (Q5 (QV rfl)) rfl <| RunA.rd rfl rfl rfl (Q5 (QV rfl)) rfl <| RunA.rd rfl rfl rfl (Q5 (YQ GU GV rfl)) rfl <| RunA.rd rfl rfl rfl (Q5 (QV rfl)) rfl <| RunA.rd rfl rfl rfl (Q5 (Qy (α := Dcl) J5 rfl (.d _))) rfl ?_
 refine QO h0 (fun g6 h0 => ?_)
 refine RunA.rd rfl rfl rfl (Q5 (Zc rfl rfl g6)) rfl ?_
 refine Qb h0 (fun x7 hx7 h0 => ?_)
 refine RunA.rd rfl rfl rfl (Q5 (Qq (α := Dcl) J5 rfl (.d _) rfl hx7)) rfl <| RunA.rd rfl rfl rfl (Q5 (J4 (x7 : Dcl) J3 rfl)) rfl <| RunA.rd rfl rfl rfl (Q5 (QV rfl)) rfl <| RunA.rd rfl rfl rfl (Q5 (QV rfl)) rfl <| RunA.rd rfl rfl rfl (Q5 (YQ GU GV rfl)) rfl <| RunA.rd rfl rfl rfl (Q5 (QV rfl)) rfl <| RunA.rd rfl rfl rfl (Q5 (Qy (α := Dcl) J5 rfl (.d _))) rfl ?_
 refine QO h0 (fun g8 h0 => ?_)
 refine RunA.rd rfl rfl rfl (Q5 (Zc rfl rfl g8)) rfl ?_
 refine Qb h0 (fun x9 hx9 h0 => ?_)
 refine RunA.rd rfl rfl rfl (Q5 (Qq (α := Dcl) J5 rfl (.d _) rfl hx9)) rfl <| RunA.rd rfl rfl rfl (Q5 (J4 (x9 : Dcl) J3 rfl)) rfl <| RunA.eff rfl rfl rfl (Ql Z8 rfl) rfl <| RunA.eff rfl rfl rfl (Ql Z8 rfl) rfl <| RunA.eff rfl rfl rfl (Jb (x7 : Dcl) J3 rfl rfl rfl rfl rfl) rfl <| RunA.eff rfl rfl rfl (Jb (x9 : Dcl) J3 rfl rfl rfl rfl rfl) rfl ?_
 refine RunA.nil ⟨[_], ⟨⟨_, _, rfl, rfl, _, _, rfl, rfl, rfl, .inl ⟨rfl, _, (Q5 (QV rfl)), .inr ⟨rfl, rfl⟩⟩⟩, ⟨⟨_, _, rfl, rfl, _, _, rfl, rfl, rfl, .inl ⟨rfl, _, (Q5 (QV rfl)), .inr ⟨rfl, rfl⟩⟩⟩, ⟨⟨_, _, rfl, rfl, _, _, rfl, rfl, rfl, .inl ⟨rfl, _, (Q5 (QV rfl)), .inr ⟨rfl, rfl⟩⟩⟩, ⟨⟨_, _, rfl, rfl, _, _, rfl, rfl, rfl, .inl ⟨rfl, _, (Q5 (QV rfl)), .inr ⟨rfl, rfl⟩⟩⟩, ⟨⟨_, _, rfl, rfl, _, _, rfl, rfl, rfl, .inl ⟨rfl, _, (Q5 (YQ GU GV rfl)), .inr ⟨rfl, rfl⟩⟩⟩, ⟨⟨_, _, rfl, rfl, _, _, rfl, rfl, rfl, .inl ⟨rfl, _, (Q5 (YQ GU GV rfl)), .inr ⟨rfl, rfl⟩⟩⟩, ⟨⟨_, _, rfl, rfl, _, _, rfl, rfl, rfl, .inl ⟨rfl, _, (Q5 (QV rfl)), .inr ⟨rfl, rfl⟩⟩⟩, ⟨⟨_, _, rfl, rfl, _, _, rfl, rfl, rfl, .inl ⟨rfl, _, (Q5 (QV rfl)), .inr ⟨rfl, rfl⟩⟩⟩, ⟨⟨_, _, rfl, rfl, _, _, rfl, rfl, rfl, .inl ⟨rfl, _, (Q5 (Qy (α := Dcl) J5 rfl (.d _))), .inr ⟨rfl, rfl⟩⟩⟩, ⟨⟨_, _, rfl, rfl, _, _, rfl, rfl, rfl, .inl ⟨rfl, _, (Q5 (Qy (α := Dcl) J5 rfl (.d _))), .inr ⟨rfl, rfl⟩⟩⟩, ⟨⟨_, _, rfl, rfl, _, _, rfl, rfl, rfl, .inl ⟨rfl, _, (Q5 (Zc rfl rfl g6)), .inr ⟨rfl, rfl⟩⟩⟩, ⟨⟨_, _, rfl, rfl, _, _, rfl, rfl, rfl, .inl ⟨rfl, _, (Q5 (Zc rfl rfl g6)), .inr ⟨rfl, rfl⟩⟩⟩, ⟨⟨_, _, rfl, rfl, _, _, rfl, rfl, rfl, .inl ⟨rfl, _, (Q5 (Qq (α := Dcl) J5 rfl (.d _) rfl hx7)), .inr ⟨rfl, rfl⟩⟩⟩, ⟨⟨_, _, rfl, rfl, _, _, rfl, rfl, rfl, .inl ⟨rfl, _, (Q5 (Qq (α := Dcl) J5 rfl (.d _) rfl hx7)), .inr ⟨rfl, rfl⟩⟩⟩, ⟨⟨_, _, rfl, rfl, _, _, rfl, rfl, rfl, .inl ⟨rfl, _, (Q5 (J4 (x7 : Dcl) J3 rfl)), .inr ⟨rfl, rfl⟩⟩⟩, ⟨⟨_, _, rfl, rfl, _, _, rfl, rfl, rfl, .inl ⟨rfl, _, (Q5 (J4 (x7 : Dcl) J3 rfl)), .inr ⟨rfl, rfl⟩⟩⟩, ⟨⟨_, _, rfl, rfl, _, _, rfl, rfl, rfl, .inl ⟨rfl, _, (Q5 (QV rfl)), .inr ⟨rfl, rfl⟩⟩⟩, ⟨⟨_, _, rfl, rfl, _, _, rfl, rfl, rfl, .inl ⟨rfl, _, (Q5 (QV rfl)), .inr ⟨rfl, rfl⟩⟩⟩, ⟨⟨_, _, rfl, rfl, _, _, rfl, rfl, rfl, .inl ⟨rfl, _, (Q5 (QV rfl)), .inr ⟨rfl, rfl⟩⟩⟩, ⟨⟨_, _, rfl, rfl, _, _, rfl, rfl, rfl, .inl ⟨rfl, _, (Q5 (QV rfl)), .inr ⟨rfl, rfl⟩⟩⟩, ⟨⟨_, _, rfl, rfl, _, _, rfl, rfl, rfl, .inl ⟨rfl, _, (Q5 (QV rfl)), .inr ⟨rfl, rfl⟩⟩⟩, ⟨⟨_, _, rfl, rfl, _, _, rfl, rfl, rfl, .inl ⟨rfl, _, (Q5 (QV rfl)), .inr ⟨rfl, rfl⟩⟩⟩, ⟨⟨_, _, rfl, rfl, _, _, rfl, rfl, rfl, .inl ⟨rfl, _, (Q5 (YQ GU GV rfl)), .inr ⟨rfl, rfl⟩⟩⟩, ⟨⟨_, _, rfl, rfl, _, _, rfl, rfl, rfl, .inl ⟨rfl, _, (Q5 (YQ GU GV rfl)), .inr ⟨rfl, rfl⟩⟩⟩, ⟨⟨_, _, rfl, rfl, _, _, rfl, rfl, rfl, .inl ⟨rfl, _, (Q5 (YQ GU GV rfl)), .inr ⟨rfl, rfl⟩⟩⟩, ⟨⟨_, _, rfl, rfl, _, _, rfl, rfl, rfl, .inl ⟨rfl, _, (Q5 (QV rfl)), .inr ⟨rfl, rfl⟩⟩⟩, ⟨⟨_, _, rfl, rfl, _, _, rfl, rfl, rfl, .inl ⟨rfl, _, (Q5 (QV rfl)), .inr ⟨rfl, rfl⟩⟩⟩, ⟨⟨_, _, rfl, rfl, _, _, rfl, rfl, rfl, .inl ⟨rfl, _, (Q5 (QV rfl)), .inr ⟨rfl, rfl⟩⟩⟩, ⟨⟨_, _, rfl, rfl, _, _, rfl, rfl, rfl, .inl ⟨rfl, _, (Q5 (Qy (α := Dcl) J5 rfl (.d _))), .inr ⟨rfl, rfl⟩⟩⟩, ⟨⟨_, _, rfl, rfl, _, _, rfl, rfl, rfl, .inl ⟨rfl, _, (Q5 (Qy (α := Dcl) J5 rfl (.d _))), .inr ⟨rfl, rfl⟩⟩⟩, ⟨⟨_, _, rfl, rfl, _, _, rfl, rfl, rfl, .inl ⟨rfl, _, (Q5 (Qy (α := Dcl) J5 rfl (.d _))), .inr ⟨rfl, rfl⟩⟩⟩, ⟨⟨_, _, rfl, rfl, _, _, rfl, rfl, rfl, .inl ⟨rfl, _, (Q5 (Zc rfl rfl g8)), .inr ⟨rfl, rfl⟩⟩⟩, ⟨⟨_, _, rfl, rfl, _, _, rfl, rfl, rfl, .inl ⟨rfl, _, (Q5 (Zc rfl rfl g8)), .inr ⟨rfl, rfl⟩⟩⟩, ⟨⟨_, _, rfl, rfl, _, _, rfl, rfl, rfl, .inl ⟨rfl, _, (Q5 (Zc rfl rfl g8)), .inr ⟨rfl, rfl⟩⟩⟩, ⟨⟨_, _, rfl, rfl, _, _, rfl, rfl, rfl, .inl ⟨rfl, _, (Q5 (Qq (α := Dcl) J5 rfl (.d _) rfl hx9)), .inr ⟨rfl, rfl⟩⟩⟩, ⟨⟨_, _, rfl, rfl, _, _, rfl, rfl, rfl, .inl ⟨rfl, _, (Q5 (Qq (α := Dcl) J5 rfl (.d _) rfl hx9)), .inr ⟨rfl, rfl⟩⟩⟩, ⟨⟨_, _, rfl, rfl, _, _, rfl, rfl, rfl, .inl ⟨rfl, _, (Q5 (Qq (α := Dcl) J5 rfl (.d _) rfl hx9)), .inr ⟨rfl, rfl⟩⟩⟩, ⟨⟨_, _, rfl, rfl, _, _, rfl, rfl, rfl, .inl ⟨rfl, _, (Q5 (J4 (x9 : Dcl) J3 rfl)), .inr ⟨rfl, rfl⟩⟩⟩, ⟨⟨_, _, rfl, rfl, _, _, rfl, rfl, rfl, .inl ⟨rfl, _, (Q5 (J4 (x9 : Dcl) J3 rfl)), .inr ⟨rfl, rfl⟩⟩⟩, ⟨⟨_, _, rfl, rfl, _, _, rfl, rfl, rfl, .inl ⟨rfl, _, (Q5 (J4 (x9 : Dcl) J3 rfl)), .inr ⟨rfl, rfl⟩⟩⟩, trivial⟩⟩⟩⟩⟩⟩⟩⟩⟩⟩⟩⟩⟩⟩⟩⟩⟩⟩⟩⟩⟩⟩⟩⟩⟩⟩⟩⟩⟩⟩⟩⟩⟩⟩⟩⟩⟩⟩⟩⟩, ⟨_, ⟨_, _, _, _, _, _, _, _, _, _, _, _, 2, _, rfl, rfl, Z8, rfl, Z8, rfl, rfl, rfl, rfl, rfl, rfl, rfl, rfl, rfl, rfl, rfl, rfl, rfl⟩, ⟨⟨_, _, rfl, rfl, rfl, .inl ⟨rfl, QV rfl⟩⟩, ⟨⟨_, _, rfl, rfl, rfl, .inl ⟨rfl, QV rfl⟩⟩, ⟨⟨_, _, rfl, rfl, rfl, .inl ⟨rfl, YQ GU GV rfl⟩⟩, ⟨⟨_, _, rfl, rfl, rfl, .inl ⟨rfl, QV rfl⟩⟩, ⟨⟨_, _, rfl, rfl, rfl, .inl ⟨rfl, Qy (α := Dcl) J5 rfl (.d _)⟩⟩, ⟨⟨_, _, rfl, rfl, rfl, .inl ⟨rfl, Zc rfl rfl g6⟩⟩, ⟨⟨_, _, rfl, rfl, rfl, .inl ⟨rfl, Qq (α := Dcl) J5 rfl (.d _) rfl hx7⟩⟩, ⟨⟨_, _, rfl, rfl, rfl, .inl ⟨rfl, J4 (x7 : Dcl) J3 rfl⟩⟩, ⟨⟨_, _, rfl, rfl, rfl, .inl ⟨rfl, QV rfl⟩⟩, ⟨⟨_, _, rfl, rfl, rfl, .inl ⟨rfl, QV rfl⟩⟩, ⟨⟨_, _, rfl, rfl, rfl, .inl ⟨rfl, YQ GU GV rfl⟩⟩, ⟨⟨_, _, rfl, rfl, rfl, .inl ⟨rfl, QV rfl⟩⟩, ⟨⟨_, _, rfl, rfl, rfl, .inl ⟨rfl, Qy (α := Dcl) J5 rfl (.d _)⟩⟩, ⟨⟨_, _, rfl, rfl, rfl, .inl ⟨rfl, Zc rfl rfl g8⟩⟩, ⟨⟨_, _, rfl, rfl, rfl, .inl ⟨rfl, Qq (α := Dcl) J5 rfl (.d _) rfl hx9⟩⟩, ⟨⟨_, _, rfl, rfl, rfl, .inl ⟨rfl, J4 (x9 : Dcl) J3 rfl⟩⟩, trivial⟩⟩⟩⟩⟩⟩⟩⟩⟩⟩⟩⟩⟩⟩⟩⟩⟩, _, _, rfl, ?_⟩
 refine JT (st' := ⟨[(0, .v (.one (We a0))), (7, .v (.one (.ptr 0 0))), (8, .v (.one (.ptr 1 0)))], [(0, .cells 48 (Wj x7)), (1, .cells 48 (Wj x9))], [], 2, 103, []⟩) (Qh (XK rfl (XK rfl (XK rfl XJ))) (W8 rfl (W8 rfl W7)) W3 rfl (Nat.zero_le _) rfl rfl rfl (Wp rfl rfl (Wp rfl rfl Wm)) rfl rfl) <| Q1 <| Q2 ?_
 refine JZ [4, 5] [(0, 1), (1, 1), (2, 1), (3, 1)] mixed (by kernel_rfl) (by kernel_rfl) (by kernel_rfl) ?_
 refine RunA.rd rfl rfl rfl (Q5 (Jj (x7 : Dcl) J3 rfl rfl)) rfl ?_
 refine Qb h0 (fun x10 hx10 h0 => ?_)
 refine RunA.rd rfl rfl rfl (Qt (GF x7 x10 hx10) rfl (.cons (.agg (.cons (.d _) (.cons (.d _) (.cons (.d _) (.cons (.d _) (.cons (.d _) (.cons (.d _) (.cons (.d _) (.cons (.d _) (.cons (.d _) (.cons (.d _) (.cons (.d _) (.cons (.d _) (.cons (.d _) (.cons (.d _) (.cons (.d _) (.cons (.d _) (.cons (.d _) (.cons (.d _) (.cons (.d _) (.cons (.d _) (.cons (.d _) (.cons (.d _) (.cons (.d _) .nil)))))))))))))))))))))))) .nil)) rfl <| RunA.rd rfl rfl rfl (Q5 (Jj (x9 : Dcl) J3 rfl rfl)) rfl ?_
 refine Qb h0 (fun x11 hx11 h0 => ?_)
 refine RunA.rd rfl rfl rfl (Qt (GF x9 x11 hx11) rfl (.cons (.agg (.cons (.d _) (.cons (.d _) (.cons (.d _) (.cons (.d _) (.cons (.d _) (.cons (.d _) (.cons (.d _) (.cons (.d _) (.cons (.d _) (.cons (.d _) (.cons (.d _) (.cons (.d _) (.cons (.d _) (.cons (.d _) (.cons (.d _) (.cons (.d _) (.cons (.d _) (.cons (.d _) (.cons (.d _) (.cons (.d _) (.cons (.d _) (.cons (.d _) (.cons (.d _) .nil)))))))))))))))))))))))) .nil)) rfl <| RunA.eff rfl rfl rfl (Ql z_23 rfl) rfl <| RunA.eff rfl rfl rfl (Qi ZC rfl rfl rfl rfl (W1 rfl) rfl) rfl <| RunA.rd rfl rfl rfl (Q5 (Yg rfl)) rfl ?_
 refine RunA.nil ⟨?ex, _, _, rfl, ?_⟩
 case ex => exact ⟨⟨_, rfl, _, _, rfl, rfl, rfl, .inl ⟨rfl, _, Q5 (Jj (x7 : Dcl) J3 rfl rfl), rfl⟩⟩, ⟨_, rfl, _, _, rfl, rfl, rfl, .inl ⟨rfl, _, Qt (GF x7 x10 hx10) rfl (.cons (.agg (.cons (.d _) (.cons (.d _) (.cons (.d _) (.cons (.d _) (.cons (.d _) (.cons (.d _) (.cons (.d _) (.cons (.d _) (.cons (.d _) (.cons (.d _) (.cons (.d _) (.cons (.d _) (.cons (.d _) (.cons (.d _) (.cons (.d _) (.cons (.d _) (.cons (.d _) (.cons (.d _) (.cons (.d _) (.cons (.d _) (.cons (.d _) (.cons (.d _) (.cons (.d _) .nil)))))))))))))))))))))))) .nil), rfl⟩⟩, ⟨_, rfl, _, _, rfl, rfl, rfl, .inl ⟨rfl, _, Q5 (Jj (x9 : Dcl) J3 rfl rfl), rfl⟩⟩, ⟨_, rfl, _, _, rfl, rfl, rfl, .inl ⟨rfl, _, Qt (GF x9 x11 hx11) rfl (.cons (.agg (.cons (.d _) (.cons (.d _) (.cons (.d _) (.cons (.d _) (.cons (.d _) (.cons (.d _) (.cons (.d _) (.cons (.d _) (.cons (.d _) (.cons (.d _) (.cons (.d _) (.cons (.d _) (.cons (.d _) (.cons (.d _) (.cons (.d _) (.cons (.d _) (.cons (.d _) (.cons (.d _) (.cons (.d _) (.cons (.d _) (.cons (.d _) (.cons (.d _) (.cons (.d _) .nil)))))))))))))))))))))))) .nil), rfl⟩⟩, trivial⟩
 refine JT (st' := ⟨[(0, .v (.one (We a0))), (9, .v (.one (.ptr 2 0))), (10, .v (.one (We x11)))], [(0, .cells 48 (Wj x7)), (1, .cells 48 (Wj x9)), (2, .cells 23 [We x10])], [], 3, 103, []⟩) (Qh (XK rfl (XK rfl (XK rfl XJ))) (W8 rfl (W8 rfl (W8 rfl W7))) W3 rfl (Nat.zero_le _) rfl rfl rfl (Wp rfl rfl (Wp rfl rfl (Wp rfl rfl Wm))) rfl rfl) <| Q1 <| Q2 <| Q2 ?_
 refine Jy (fun (v12 : Bool) => ⟨[(0, .v (.one (We a0))), (9, .v (.one (.ptr 2 0))), (10, .v (.one (We x11))), (52, .v (.one (Wh v12)))], [(0, .cells 48 (Wj x7)), (1, .cells 48 (Wj x9)), (2, .cells 23 [We x10])], [], 3, 103, []⟩) (fun (v12 : Bool) => (cond v12
     (Option.bind (KU ) fun (x14 : Bool) =>
   some x14)
     (Qm (cond (decide (0 ≤ (1 : Int))) (Nat.ble (1 : Int).toNat x10.length) false)
   (Option.bind (Xw a0 (x10.take (1 : Int).toNat)) fun (x16 : (List Wy) × Int) =>
   Qm (cond (decide (0 ≤ (1 : Int))) (Nat.ble (1 : Int).toNat x11.length) false)
   (Option.bind (Xq a0 (x11.take (1 : Int).toNat)) fun (x18 : (List Dcl) × Int) =>
   Option.bind (cond (x16.2 != 0)
     (some true)
     (some (x18.2 != 0))) (fun (v19 : Bool) => cond v19
     (Option.bind (cond (x16.2 == x18.2)
     (cond ((x16.1.length : Int) == 0)
     (cond ((x18.1.length : Int) == 0)
     (Option.bind (KU ) fun (x25 : Bool) =>
   some x25)
     (some false))
     (some false))
     (some false)) (fun (v21 : Bool) => some v21))
     (Option.bind (Kl x18.1 x10) fun (x26 : Bool) =>
   Option.bind (Option.bind (J1 x11 0) fun (x28 : Wy) =>
   Option.bind (Option.bind (Option.bind (Qo (G0 x16 x28) QB 0) (Sum.elim (fun (o33 : Unit) => some (-1)) (fun o => some o))) (fun (y31 : Int) => some (decide (0 ≤ y31)))) (fun (y29 : Bool) => cond (y29 == x26)
     (Option.bind (KU ) fun (x39 : Bool) =>
   some x39)
     (some false))) (fun (v27 : Bool) => some v27))))))) = some r) ?_ ?_
 refine Qb h0 (fun w1_ h1 h0 => ?_)
 refine Q0 <| XP rfl rfl rfl (Q7 ZC rfl rfl rfl) <| XP rfl rfl rfl (Qy (α := Wy) QQ rfl (.d _)) <| XP rfl rfl rfl (Q4 rfl rfl rfl) <| XR rfl rfl rfl ?_
 refine Ja (d := 48) (c := ((x10.length : Int) == 0)) rfl (fun c13 => ?_) (fun c13 => ?_)
 replace h1 := Qu c13 h1
 refine Qa rfl rfl <| Qa rfl rfl <| Qa rfl rfl <| XP rfl rfl rfl (QC rfl rfl) <| Q3 ?_
 have e := XN h1; subst e
 exact QG true (Qh (XK rfl (XK rfl (XK rfl (XK rfl XJ)))) (W8 rfl (W8 rfl (W8 rfl W7))) W3 rfl (Nat.zero_le _) rfl rfl rfl (Wp rfl rfl (Wp rfl rfl (Wp rfl rfl Wm))) rfl rfl) h0
 replace h1 := Qv c13 h1
 refine XR rfl rfl rfl <| XP rfl rfl rfl (Qy (α := Wy) QQ rfl (.d _)) <| XP rfl rfl rfl (Q4 rfl rfl rfl) <| XP rfl rfl rfl (QL rfl rfl) <| Q3 ?_
 have e := XN h1; subst e
 exact QG ((x11.length : Int) == 0) (Qh (XK rfl (XK rfl (XK rfl (XK rfl XJ)))) (W8 rfl (W8 rfl (W8 rfl W7))) W3 rfl (Nat.zero_le _) rfl rfl rfl (Wp rfl rfl (Wp rfl rfl (Wp rfl rfl Wm))) rfl rfl) h0
 intro v12 h0
 refine Q1 ?_
 refine Qg (b := v12) rfl (fun c14 => ?_) (fun c14 => ?_)
 replace h0 := Qu c14 h0
 refine Q2 <| Q0 ?_
 refine Qb h0 (fun x15 hx15 h0 => ?_)
 refine Q9 rfl rfl (W1 rfl) (Qt (m11_ok  x15 hx15) rfl .nil) <| XS rfl rfl rfl <| Q3 <| Q1 <| Qw ?_
 have e := XN h0; subst e
 exact QX (fun _ _ h => h) rfl (Qp rfl .nil) (.cons (.one (.d _)) .nil)
 replace h0 := Qv c14 h0
 refine Qj <| Q1 <| Q2 <| Q0 <| XR rfl rfl rfl <| XP rfl rfl rfl (Q7 ZC rfl rfl rfl) ?_
 refine QO h0 (fun g16 h0 => ?_)
 refine XP rfl rfl rfl (RO.sliceTo (α := Wy) QQ rfl (.d _) rfl g16) ?_
 refine Qb h0 (fun x17 hx17 h0 => ?_)
 refine Q9 rfl rfl (W1 rfl) (Qt (m12_ok a0 (x10.take (1 : Int).toNat) x17 hx17) rfl (.cons (.one (.d _)) (.cons (.one (.d _)) .nil))) <| XR rfl rfl rfl <| XP rfl rfl rfl (Qe rfl rfl) <| XP rfl rfl rfl (Qe rfl rfl) <| XS rfl rfl rfl <| XS rfl rfl rfl <| Q3 <| Q1 <| Q2 <| Q0 <| XR rfl rfl rfl <| XR rfl rfl rfl ?_
 refine QO h0 (fun g18 h0 => ?_)
 refine XP rfl rfl rfl (RO.sliceTo (α := Wy) QQ rfl (.d _) rfl g18) ?_
 refine Qb h0 (fun x19 hx19 h0 => ?_)
 refine Q9 rfl rfl (W1 rfl) (Qt (m15_ok a0 (x11.take (1 : Int).toNat) x19 hx19) rfl (.cons (.one (.d _)) (.cons (.one (.d _)) .nil))) <| XR rfl rfl rfl <| XP rfl rfl rfl (Qe rfl rfl) <| XP rfl rfl rfl (Qe rfl rfl) <| XS rfl rfl rfl <| XS rfl rfl rfl <| Q3 <| Q1 <| Q2 <| Q2 ?_
 refine Jy (fun (v20 : Bool) => ⟨[(9, .v (.one (.ptr 2 0))), (10, .v (.one (We x11))), (11, .v (.one (We x17.1))), (12, .v (.one (Wg x17.2))), (13, .v (.one (We x19.1))), (14, .v (.one (Wg x19.2))), (73, .v (.one (Wh v20)))], [(0, .cells 48 (Wj x7)), (1, .cells 48 (Wj x9)), (2, .cells 23 [We x10])], [], 3, 103, []⟩) (fun (v20 : Bool) => (cond v20
     (Option.bind (cond (x17.2 == x19.2)
     (cond ((x17.1.length : Int) == 0)
     (cond ((x19.1.length : Int) == 0)
     (Option.bind (KU ) fun (x26 : Bool) =>
   some x26)
     (some false))
     (some false))
     (some false)) (fun (v22 : Bool) => some v22))
     (Option.bind (Kl x19.1 x10) fun (x27 : Bool) =>
   Option.bind (Option.bind (J1 x11 0) fun (x29 : Wy) =>
   Option.bind (Option.bind (Option.bind (Qo (G0 x17 x29) QB 0) (Sum.elim (fun (o34 : Unit) => some (-1)) (fun o => some o))) (fun (y32 : Int) => some (decide (0 ≤ y32)))) (fun (y30 : Bool) => cond (y30 == x27)
     (Option.bind (KU ) fun (x40 : Bool) =>
   some x40)
     (some false))) (fun (v28 : Bool) => some v28))) = some r) ?_ ?_
 refine Qb h0 (fun w1_ h1 h0 => ?_)
 refine Q0 <| XR rfl rfl rfl <| XP rfl rfl rfl (Q4 rfl rfl rfl) <| XR rfl rfl rfl ?_
 refine Ja (d := 70) (c := (x17.2 != 0)) rfl (fun c21 => ?_) (fun c21 => ?_)
 replace h1 := Qu c21 h1
 refine Qa rfl rfl <| Qa rfl rfl <| XP rfl rfl rfl (QC rfl rfl) <| Q3 ?_
 have e := XN h1; subst e
 exact QG true (Qh (XK rfl (XK rfl (XK rfl (XK rfl (XK rfl (XK rfl (XK rfl XJ))))))) (W8 rfl (W8 rfl (W8 rfl W7))) W3 rfl (Nat.zero_le _) rfl rfl rfl (Wp rfl rfl (Wp rfl rfl (Wp rfl rfl Wm))) rfl rfl) h0
 replace h1 := Qv c21 h1
 refine XR rfl rfl rfl <| XP rfl rfl rfl (Q4 rfl rfl rfl) <| XP rfl rfl rfl (QL rfl rfl) <| Q3 ?_
 have e := XN h1; subst e
 exact QG (x19.2 != 0) (Qh (XK rfl (XK rfl (XK rfl (XK rfl (XK rfl (XK rfl (XK rfl XJ))))))) (W8 rfl (W8 rfl (W8 rfl W7))) W3 rfl (Nat.zero_le _) rfl rfl rfl (Wp rfl rfl (Wp rfl rfl (Wp rfl rfl Wm))) rfl rfl) h0
 intro v20 h0
 refine Q1 ?_
 refine Qg (b := v20) rfl (fun c22 => ?_) (fun c22 => ?_)
 replace h0 := Qu c22 h0
 refine Q2 ?_
 refine Jy (fun (v23 : Bool) => ⟨[(6, .v (.one (Wh v23)))], [(0, .cells 48 (Wj x7)), (1, .cells 48 (Wj x9)), (2, .cells 23 [We x10])], [], 3, 103, []⟩) (fun (v23 : Bool) => (some v23) = some r) ?_ ?_
 refine Qb h0 (fun w1_ h1 h0 => ?_)
 refine Q0 <| XR rfl rfl rfl <| XR rfl rfl rfl <| XP rfl rfl rfl (Q4 rfl rfl rfl) <| XR rfl rfl rfl ?_
 refine Ja (d := 77) (c := (x17.2 == x19.2)) rfl (fun c24 => ?_) (fun c24 => ?_)
 replace h1 := Qu c24 h1
 refine XR rfl rfl rfl <| XP rfl rfl rfl (Qy (α := Wy) QQ rfl (.d _)) <| XP rfl rfl rfl (Q4 rfl rfl rfl) <| XP rfl rfl rfl (QC rfl rfl) <| XR rfl rfl rfl ?_
 refine Ja (d := 82) (c := ((x17.1.length : Int) == 0)) rfl (fun c25 => ?_) (fun c25 => ?_)
 replace h1 := Qu c25 h1
 refine XR rfl rfl rfl <| XP rfl rfl rfl (Qy (α := Dcl) J5 rfl (.d _)) <| XP rfl rfl rfl (Q4 rfl rfl rfl) <| XP rfl rfl rfl (QC rfl rfl) <| XR rfl rfl rfl ?_
 refine Ja (d := 87) (c := ((x19.1.length : Int) == 0)) rfl (fun c26 => ?_) (fun c26 => ?_)
 replace h1 := Qu c26 h1
 refine Qb h1 (fun x27 hx27 h1 => ?_)
 refine Q9 rfl rfl (W1 rfl) (Qt (m11_ok  x27 hx27) rfl .nil) <| XP rfl rfl rfl (QC rfl rfl) <| XS rfl rfl rfl <| Q3 ?_
 have e := XN h1; subst e
 exact QG x27 (Qh (XK rfl XJ) (W8 rfl (W8 rfl (W8 rfl W7))) W3 rfl (Nat.zero_le _) rfl rfl rfl (Wp rfl rfl (Wp rfl rfl (Wp rfl rfl Wm))) rfl rfl) h0
 replace h1 := Qv c26 h1
 refine Qa rfl rfl <| XP rfl rfl rfl (QL rfl rfl) <| XS rfl rfl rfl <| Q3 ?_
 have e := XN h1; subst e
 exact QG false (Qh (XK rfl XJ) (W8 rfl (W8 rfl (W8 rfl W7))) W3 rfl (Nat.zero_le _) rfl rfl rfl (Wp rfl rfl (Wp rfl rfl (Wp rfl rfl Wm))) rfl rfl) h0
 replace h1 := Qv c25 h1
 refine Qa rfl rfl <| Qa rfl rfl <| Qa rfl rfl <| XP rfl rfl rfl (QL rfl rfl) <| XR rfl rfl rfl <| Qa rfl rfl <| XP rfl rfl rfl (QL rfl rfl) <| XS rfl rfl rfl <| Q3 ?_
 have e := XN h1; subst e
 exact QG false (Qh (XK rfl XJ) (W8 rfl (W8 rfl (W8 rfl W7))) W3 rfl (Nat.zero_le _) rfl rfl rfl (Wp rfl rfl (Wp rfl rfl (Wp rfl rfl Wm))) rfl rfl) h0
 replace h1 := Qv c24 h1
 refine Qa rfl rfl <| Qa rfl rfl <| Qa rfl rfl <| XP rfl rfl rfl (QL rfl rfl) <| XR rfl rfl rfl <| Qa rfl rfl <| Qa rfl rfl <| Qa rfl rfl <| XP rfl rfl rfl (QL rfl rfl) <| XR rfl rfl rfl <| Qa rfl rfl <| XP rfl rfl rfl (QL rfl rfl) <| XS rfl rfl rfl <| Q3 ?_
 have e := XN h1; subst e
 exact QG false (Qh (XK rfl XJ) (W8 rfl (W8 rfl (W8 rfl W7))) W3 rfl (Nat.zero_le _) rfl rfl rfl (Wp rfl rfl (Wp rfl rfl (Wp rfl rfl Wm))) rfl rfl) h0
 intro v23 h0
 refine Q1 <| Qw ?_
 have e := XN h0; subst e
 exact QX (fun _ _ h => h) rfl (Qp rfl .nil) (.cons (.one (.d _)) .nil)
 replace h0 := Qv c22 h0
 refine Qj <| Q1 <| Q2 <| Q0 <| XR rfl rfl rfl <| XP rfl rfl rfl (RO.makeFunc1 rfl) ?_
 refine Qb h0 (fun x28 hx28 h0 => ?_)
 refine Q9 rfl rfl (W1 rfl) (QS (hp1' := [(2, .cells 23 [We x10])]) (tk1' := []) (hpF := [(0, .cells 48 (Wj x7)), (1, .cells 48 (Wj x9))]) (tkF := []) (res2 := Qr [.one (Wh x28)]) (nx2 := 3) [2] rfl rfl (m19f14_ok x19.1 x10 x28 hx28) rfl rfl (XW rfl rfl XT) rfl rfl (Wb rfl Wa) W5 (W8 rfl (W8 rfl W7)) W3 rfl rfl rfl rfl rfl (Wp rfl rfl Wm) rfl rfl rfl rfl) <| XS rfl rfl rfl <| Q3 <| Q1 <| Q2 ?_
 refine Jy (fun (v29 : Bool) => ⟨[(6, .v (.one (Wh v29)))], [(0, .cells 48 (Wj x7)), (1, .cells 48 (Wj x9)), (2, .cells 23 [We x10])], [], 3, 103, []⟩) (fun (v29 : Bool) => (some v29) = some r) ?_ ?_
 refine Qb h0 (fun w1_ h1 h0 => ?_)
 refine Q0 <| XR rfl rfl rfl <| XR rfl rfl rfl ?_
 refine Qb h1 (fun x30 hx30 h1 => ?_)
 refine XP rfl rfl rfl (Qq (α := Wy) QQ rfl (.d _) rfl hx30) <| XP rfl rfl rfl (QK Y6 rfl rfl) ?_
 refine Qb h1 (fun y31 h2 h1 => ?_)
 have hc32 : CallM Try.prog 21 [.one (We x17.1), .one (YK x30)] ⟨[(0, .cells 48 (Wj x7)), (1, .cells 48 (Wj x9)), (2, .cells 23 [We x10])], [], 3⟩ (Qr [.one (Wh y31)]) ⟨[(0, .cells 48 (Wj x7)), (1, .cells 48 (Wj x9)), (2, .cells 23 [We x10])], [], 3⟩ := by
  refine QM ⟨[(4, .v (.one (Wh y31)))], [(0, .cells 48 (Wj x7)), (1, .cells 48 (Wj x9)), (2, .cells 23 [We x10])], [], 3, 9, []⟩ rfl rfl en_21 (W1 rfl) rfl (Qp rfl .nil) (fun w0 M V0 Q hv2 hQ2 => ?_)
  simp only [Jc]
  refine Q2 <| Q0 <| XS rfl rfl rfl <| Q3 <| Q1 <| Q2 <| Q0 <| XR rfl rfl rfl <| XR rfl rfl rfl ?_
  refine Qb h2 (fun y33 h3 h2 => ?_)
  have hc34 : CallM Try.prog 42 [.one (We x17.1), .one (YK x30)] ⟨[(0, .cells 48 (Wj x7)), (1, .cells 48 (Wj x9)), (2, .cells 23 [We x10])], [], 3⟩ (Qr [.one (Wg y33)]) ⟨[(0, .cells 48 (Wj x7)), (1, .cells 48 (Wj x9)), (2, .cells 23 [We x10])], [], 3⟩ := by
   refine QM ⟨[(4, .v (.one (Wg y33)))], [(0, .cells 48 (Wj x7)), (1, .cells 48 (Wj x9)), (2, .cells 23 [We x10])], [], 3, 19, []⟩ rfl rfl en_42 (W1 rfl) rfl (Qp rfl .nil) (fun w0 M V0 Q hv3 hQ3 => ?_)
   simp only [Jc]
   refine Q2 <| Q0 <| XS rfl rfl rfl <| Q3 <| Q1 <| Q2 <| Q2 <| Q0 <| XR rfl rfl rfl <| XP rfl rfl rfl (Qy (α := Wy) QQ rfl (.d _)) <| XR rfl rfl rfl <| Q3 <| Q1 <| Qd ?_
   refine QI 0 (fun (o35 : Unit) => ⟨[], [(0, .cells 48 (Wj x7)), (1, .cells 48 (Wj x9)), (2, .cells 23 [We x10])], [], 3, 19, []⟩) (fun (o35 : Unit) => (some (-1)) = some y33) ?_ ?_
   refine Qb h3 (fun o36 hl4 h3 => ?_)
   refine QH (G0 x17 x30) (fun s4 => ⟨[(0, .v (.one (We x17.1))), (1, .v (.one (YK x30))), (7, .v (.one (Wg (x17.1.length : Int)))), (8, .v (.one (Wg s4)))], [(0, .cells 48 (Wj x7)), (1, .cells 48 (Wj x9)), (2, .cells 23 [We x10])], [], 3, 19, []⟩) 0 o36 (Qh (XK rfl (XK rfl (XK rfl (XK rfl XJ)))) (W8 rfl (W8 rfl (W8 rfl W7))) W3 rfl (Nat.le_trans hv3 (W1 rfl)) rfl rfl rfl (Wp rfl rfl (Wp rfl rfl (Wp rfl rfl Wm))) rfl rfl) hl4 (fun s4 n4 oo4 h4 ho4 => ?_)
   unfold G0 at h4
   refine Q2 <| Q0 <| XP rfl rfl rfl (Q4 rfl rfl rfl) <| Q3 <| Q1 <| Q2 ?_
   refine Qg (b := (decide (s4 < (x17.1.length : Int)))) rfl (fun c37 => ?_) (fun c37 => ?_)
   replace h4 := Qu c37 h4
   refine Qj <| Q1 <| Q2 <| Qd <| Q2 <| Q0 <| XR rfl rfl rfl <| XS rfl rfl rfl <| Q3 <| Q1 <| Q2 <| Q0 <| XR rfl rfl rfl <| XR rfl rfl rfl ?_
   refine XR rfl rfl rfl ?_
   refine Qb h4 (fun x38 hx38 h4 => ?_)
   refine XP rfl rfl rfl (Qq (α := Wy) QQ rfl (.d _) rfl hx38) <| XP rfl rfl rfl (QK Y6 rfl rfl) <| XP rfl rfl rfl (RO.eqS rfl rfl) <| Q3 <| Q1 ?_
   refine Qg (b := (x30 == x38)) rfl (fun c39 => ?_) (fun c39 => ?_)
   replace h4 := Qu c39 h4
   refine Q2 <| Q0 <| XR rfl rfl rfl <| XS rfl rfl rfl <| Q3 <| Q1 <| Qw ?_
   have e := XN h4; subst e
   have e_ : _ = _ := ho4
   subst e_
   try dsimp only [Sum.elim_inl, Sum.elim_inr] at h3
   have e := XN h3; subst e
   exact hQ3 _ _ _ (.inr rfl) rfl (Qh (XK rfl XJ) (W8 rfl (W8 rfl (W8 rfl W7))) W3 rfl (Nat.le_trans hv3 (W1 rfl)) rfl rfl rfl (Wp rfl rfl (Wp rfl rfl (Wp rfl rfl Wm))) rfl rfl)
   replace h4 := Qv c39 h4
   refine Qj <| Qk <| Q1 <| Q0 <| XP rfl rfl rfl (Q4 rfl rfl rfl) <| XR rfl rfl rfl <| Q3 ?_
   have e := XN h4; subst e
   refine QD (QW (s4 + 1)) (Qh (XK rfl (XK rfl (XK rfl (XK rfl XJ)))) (W8 rfl (W8 rfl (W8 rfl W7))) W3 rfl (Nat.le_trans hv3 (W1 rfl)) rfl rfl rfl (Wp rfl rfl (Wp rfl rfl (Wp rfl rfl Wm))) rfl rfl) ho4
   replace h4 := Qv c37 h4
   refine QN <| Qf <| Qf ?_
   have e := XN h4; subst e
   have e_ : _ = _ := ho4
   subst e_
   exact QF () (Qh XJ (W8 rfl (W8 rfl (W8 rfl W7))) W3 rfl (Nat.le_trans hv3 (W1 rfl)) rfl rfl rfl (Wp rfl rfl (Wp rfl rfl (Wp rfl rfl Wm))) rfl rfl) h3
   intro o35 h3
   refine Qx <| Q1 <| Q2 <| Q0 <| XS rfl rfl rfl <| Q3 <| Q1 <| Qw ?_
   have e := XN h3; subst e
   exact hQ3 _ _ _ (.inr rfl) rfl (Qh (XK rfl XJ) (W8 rfl (W8 rfl (W8 rfl W7))) W3 rfl (Nat.le_trans hv3 (W1 rfl)) rfl rfl rfl (Wp rfl rfl (Wp rfl rfl (Wp rfl rfl Wm))) rfl rfl)
  refine Q9 rfl rfl (W1 rfl) (QP rfl rfl rfl hc34 rfl (W8 rfl (W8 rfl (W8 rfl W7))) W3) <| XP rfl rfl rfl (Q4 rfl rfl rfl) <| XS rfl rfl rfl <| Q3 <| Q1 <| Qw ?_
  have e := XN h2; subst e
  exact hQ2 _ _ _ (.inr rfl) rfl (Qh (XK rfl XJ) (W8 rfl (W8 rfl (W8 rfl W7))) W3 rfl (Nat.le_trans hv2 (W1 rfl)) rfl rfl rfl (Wp rfl rfl (Wp rfl rfl (Wp rfl rfl Wm))) rfl rfl)
 refine Q9 rfl rfl (W1 rfl) (QP rfl rfl rfl hc32 rfl (W8 rfl (W8 rfl (W8 rfl W7))) W3) <| XR rfl rfl rfl <| XP rfl rfl rfl (RO.eqBool ib_4 rfl rfl) <| XR rfl rfl rfl ?_
 refine Ja (d := 100) (c := (y31 == x28)) rfl (fun c40 => ?_) (fun c40 => ?_)
 replace h1 := Qu c40 h1
 refine Qb h1 (fun x41 hx41 h1 => ?_)
 refine Q9 rfl rfl (W1 rfl) (Qt (m11_ok  x41 hx41) rfl .nil) <| XP rfl rfl rfl (QC rfl rfl) <| XS rfl rfl rfl <| Q3 ?_
 have e := XN h1; subst e
 exact QG x41 (Qh (XK rfl XJ) (W8 rfl (W8 rfl (W8 rfl W7))) W3 rfl (Nat.zero_le _) rfl rfl rfl (Wp rfl rfl (Wp rfl rfl (Wp rfl rfl Wm))) rfl rfl) h0
 replace h1 := Qv c40 h1
 refine Qa rfl rfl <| XP rfl rfl rfl (QL rfl rfl) <| XS rfl rfl rfl <| Q3 ?_
 have e := XN h1; subst e
 exact QG false (Qh (XK rfl XJ) (W8 rfl (W8 rfl (W8 rfl W7))) W3 rfl (Nat.zero_le _) rfl rfl rfl (Wp rfl rfl (Wp rfl rfl (Wp rfl rfl Wm))) rfl rfl) h0
 intro v29 h0
 refine Q1 <| Qw ?_
 have e := XN h0; subst e
 exact QX (fun _ _ h => h) rfl (Qp rfl .nil) (.cons (.one (.d _)) .nil)
end Go.Proofs.Ytijcchddnnnmdaa
namespace Go.Proofs.Ytijcchddnnnmdaa
open Go.RowKit Go.Lib
set_option linter.unusedSimpArgs false
set_option linter.unusedVariables false
set_option linter.unusedSectionVars false
theorem find_loop {α : Type} {step : Int → Option (LO Int (Unit ⊕ Int))} (l : List α) (p : α → Prop) (h : l.length ≤ 900000000)
    (hin : ∀ (a : List α) (x : α) (c : List α), l = a ++ x :: c → (p x ∧ step (a.length : Int) = some (.done (.inr (a.length : Int)))) ∨ (¬ p x ∧ step (a.length : Int) = some (.next (QW ((a.length : Int) + 1)))))
    (hout : step (l.length : Int) = some (.done (.inl ()))) :
    ∃ r, Qo step QB 0 = some r ∧ (((∃ x ∈ l, p x) ∧ ∃ k : Nat, r = .inr (k : Int)) ∨ (¬ (∃ x ∈ l, p x) ∧ r = .inl ())) :=
  JD (step := step) l (fun i (s : Unit) => i) (fun a _ => ∀ x ∈ a, ¬ p x) _ h
    (fun a x c s e hs => (hin a x c e).elim (fun h => .inl ⟨_, h.2, .inl ⟨⟨x, by rw [e]; simp, h.1⟩, _, rfl⟩⟩) fun h => .inr ⟨(), h.2, fun y hy => (List.mem_append.1 hy).elim (hs y) fun hy => by rw [List.mem_singleton.1 hy]; exact h.1⟩)
    (fun s hs => ⟨_, hout, .inr ⟨fun ⟨x, hx, hp⟩ => hs x hx hp, rfl⟩⟩) () (fun x hx => by cases hx)
theorem beqB_cases (a b : Wy) : (a = b ∧ (a == b) = true) ∨ (a ≠ b ∧ (a == b) = false) := by
  by_cases h : a = b
  · exact .inl ⟨h, beq_iff_eq.2 h⟩
  · exact .inr ⟨h, by rw [Bool.eq_false_iff]; exact fun h' => h (beq_iff_eq.1 h')⟩
theorem m20_eq (d : Dcl) (s : Wy) (t : List Wy) (h : d.size ≤ 100000000) : GE d (s :: t) = some (decide (s ∈ Jh d)) := by
  have hl := names_len d
  unfold GE
  obtain ⟨r, e, hr⟩ := find_loop (step := Zj (Jh d) s) (Jh d) (fun x => s = x) (by omega)
    (fun a x c e => by
      unfold Zj
      rw [e, Ji, J6]
      simp only [cond_true, Option.bind_some]
      rcases beqB_cases s x with ⟨h1, h2⟩ | ⟨h1, h2⟩
      · rw [h2]; exact .inl ⟨h1, rfl⟩
      · rw [h2]; exact .inr ⟨h1, rfl⟩)
    (by unfold Zj; rw [Jz]; rfl)
  rw [m18_eq d (by omega), show J1 (s :: t) 0 = some s from rfl]
  simp only [Option.bind_some]
  rw [e]
  rcases hr with ⟨⟨x, hx, rfl⟩, k, rfl⟩ | ⟨h1, rfl⟩
  · simp only [Option.bind_some, Sum.elim_inr]
    rw [decide_eq_true (by omega : (0 : Int) ≤ (k : Int)), decide_eq_true hx]
  · simp only [Option.bind_some, Sum.elim_inl]
    rw [decide_eq_false (fun h2 => h1 ⟨s, h2, rfl⟩ : ¬ s ∈ Jh d)]
    rfl
theorem m19_eq (L : List Dcl) (s : Wy) (t : List Wy) (hl : L.length ≤ 900000000) (h : ∀ d ∈ L, d.size ≤ 100000000) : ∃ b, Kl L (s :: t) = some b ∧ (b = true ↔ ∃ d ∈ L, s ∈ Jh d) := by
  unfold Kl m41f15
  obtain ⟨r, e, hr⟩ := find_loop (step := Zi L (s :: t)) L (fun x => s ∈ Jh x) hl
    (fun a x c e => by
      have hx := h x (by rw [e]; simp)
      unfold Zi
      rw [e, Ji, J6]
      simp only [cond_true, Option.bind_some]
      rw [m20_eq x s t hx]
      by_cases h1 : s ∈ Jh x
      · rw [decide_eq_true h1]; exact .inl ⟨h1, rfl⟩
      · rw [decide_eq_false h1]; exact .inr ⟨h1, rfl⟩)
    (by unfold Zi; rw [Jz]; rfl)
  rw [e]
  rcases hr with ⟨h1, k, rfl⟩ | ⟨h1, rfl⟩
  · exact ⟨_, rfl, fun _ => h1, fun _ => by simp⟩
  · exact ⟨_, rfl, fun h2 => by simp at h2, fun h2 => absurd h2 h1⟩
theorem dual {g : List (List Int)} {n i j : Nat} {S T : Nat → Prop} {b c : List Bool} (hb : Least (Wx true g) n S b) (hc : Least (Wx false g) n T c) (hS : ∀ k, S k ↔ k = i) (hT : ∀ k, T k ↔ k = j) : Wt b j ↔ Wt c i := by
  constructor
  · intro h
    refine hb.min (fun k => ∀ D : Nat → Prop, Gp (Wx false g) D → D k → D i) (fun k hk D hD hk2 => by rw [← (hS k).1 hk]; exact hk2) (fun k l e hk D hD hl => hk D hD (hD l k e hl)) j h (Wt c) hc.cl (hc.start j ((hT j).2 rfl))
  · intro h
    refine hc.min (fun k => ∀ D : Nat → Prop, Gp (Wx true g) D → D k → D j) (fun k hk D hD hk2 => by rw [← (hT k).1 hk]; exact hk2) (fun k l e hk D hD hl => hk D hD (hD l k e hl)) i h (Wt b) hb.cl (hb.start i ((hS i).2 rfl))
theorem start_one {env : List Dcl} (h1 : (QE env).Nodup) {i : Nat} {d : Dcl} {s : Wy} (hd : env[i]? = some d) (hs : s ∈ Jh d) (k : Nat) : K0 env [s] k ↔ k = i := by
  rw [starts_iff h1]
  constructor
  · rintro ⟨e, t, h2, h3, h4⟩
    rw [List.mem_singleton.1 h3] at h4
    exact pos_inj h1 h2 hd h4 hs
  · rintro rfl
    exact ⟨d, s, hd, by simp, hs⟩
theorem own_on {env : List Dcl} (h1 : (QE env).Nodup) {i : Nat} {d : Dcl} {s : Wy} (hd : env[i]? = some d) (hs : s ∈ Jh d) (b : List Bool) : (∃ x ∈ Gt b 0 env, s ∈ Jh x) ↔ Wt b i := by
  constructor
  · rintro ⟨x, hx, h2⟩
    obtain ⟨k, h3, h4⟩ := mem_sel.1 hx
    rw [Nat.zero_add] at h4
    rw [pos_inj h1 hd h3 hs h2]
    exact h4
  · intro h
    exact ⟨d, mem_sel.2 ⟨i, hd, by rw [Nat.zero_add]; exact h⟩, hs⟩
theorem RSays.code2 {β γ : Type} {d d' : Bool} {f : Dcl → List β} {f' : Dcl → List γ} {env : List Dcl} {nm nm' : List Wy} {r : List β × Int} {s : List γ × Int} (h1 : RSays d f env nm r) (h2 : RSays d' f' env nm' s) (k1 : ∀ x ∈ nm, x ∈ QE env) (k2 : ∀ x ∈ nm', x ∈ QE env) :
    (r.1 = [] ∧ s.1 = [] ∧ r.2 ≠ 0 ∧ s.2 = r.2) ∨ ((QE env).Nodup ∧ Ye env env ∧ (∃ b, Least (Wx d (YT env)) env.length (K0 env nm) b ∧ r = (((Gt b 0 env).map f).flatten, 0)) ∧ ∃ b, Least (Wx d' (YT env)) env.length (K0 env nm') b ∧ s = (((Gt b 0 env).map f').flatten, 0)) := by
  cases h1 with
  | twice h => cases h2 <;> first | exact .inl ⟨rfl, rfl, show (8 : Int) ≠ 0 by decide, rfl⟩ | contradiction
  | none h h' => cases h2 <;> first | exact .inl ⟨rfl, rfl, show (9 : Int) ≠ 0 by decide, rfl⟩ | contradiction
  | miss h h' h'' => exact absurd k1 h''
  | ok h h' h'' b hb =>
    cases h2 with
    | twice g => contradiction
    | none g g' => contradiction
    | miss g g' g'' => exact absurd k2 g''
    | ok g g' g'' c hc => exact .inr ⟨h, h', ⟨b, hb, rfl⟩, ⟨c, hc, rfl⟩⟩
theorem modN {n : Nat} (k : Nat) (h : k < 256) : Int.tmod (QW (k : Int)) (n : Int) = ((k % n : Nat) : Int) := by
  rw [w64_id (by omega) (by omega)]; exact (Int.ofNat_tmod k n).symm
theorem len_zero {α : Type} (l : List α) : ((l.length : Int) == 0) = decide (l = []) := by
  cases l with
  | nil => rfl
  | cons x l => rw [beqI]; simp; omega
theorem m6_true (env : List Dcl) (k1 k2 : Nat) (hk1 : k1 < 256) (hk2 : k2 < 256) (h : Ke env ≤ 100000000) : XY env ⟨(k1 : Int)⟩ ⟨(k2 : Int)⟩ = some true := by
  have hal := all_len env
  have hel := Ky env
  unfold XY
  obtain ⟨b, hb, hb70⟩ := m9_some env (by omega)
  rw [hb, m11_true]
  cases b with
  | false => rfl
  | true =>
    have h70 := hb70 rfl
    by_cases h0 : env = []
    · subst h0; rfl
    · have hpos : 0 < env.length := by cases env with | nil => exact absurd rfl h0 | cons x l => simp
      have e0 : ((env.length : Int) == 0) = false := by rw [len_zero, decide_eq_false h0]
      simp only [Option.bind_some, Bool.not_true, cond_false, e0, Bool.not_false]
      rw [modN k1 hk1, modN k2 hk2]
      have hi := Nat.mod_lt k1 hpos
      have hj := Nat.mod_lt k2 hpos
      generalize k1 % env.length = i at hi ⊢
      generalize k2 % env.length = j at hj ⊢
      have ei : env[i]? = some env[i] := List.getElem?_eq_getElem hi
      have ej : env[j]? = some env[j] := List.getElem?_eq_getElem hj
      generalize env[i] = d at ei
      generalize env[j] = e at ej
      have hd := K1 (List.mem_of_getElem? ei)
      have he := K1 (List.mem_of_getElem? ej)
      rw [KQ ei, KQ ej]
      simp only [Option.bind_some, Qm]
      rw [m18_eq d (by omega), m18_eq e (by omega)]
      simp only [Option.bind_some]
      cases hnd : Jh d with
      | nil => rfl
      | cons s t =>
        cases hne : Jh e with
        | nil => rw [len_zero]; rfl
        | cons s2 t2 =>
          have hsd : s ∈ Jh d := by rw [hnd]; simp
          have hse : s2 ∈ Jh e := by rw [hne]; simp
          rw [len_zero, len_zero, show (s :: t).take (1 : Int).toNat = [s] from rfl, show (s2 :: t2).take (1 : Int).toNat = [s2] from rfl]
          obtain ⟨r1, e1, h1⟩ := m12_eq env [s] h (by omega) (by simp)
          obtain ⟨r2, e2, h2⟩ := m15_eq env [s2] h (by simp)
          rw [e1, e2]
          rw [show decide ((s :: t : List Wy) = []) = false from decide_eq_false (by simp), show decide ((s2 :: t2 : List Wy) = []) = false from decide_eq_false (by simp), show Nat.ble (1 : Int).toNat (s :: t).length = true from rfl, show Nat.ble (1 : Int).toNat (s2 :: t2).length = true from rfl, show decide ((0 : Int) ≤ 1) = true from rfl]
          simp only [cond_true, cond_false, Option.bind_some]
          rcases h1.code2 h2 (fun x hx => by rw [List.mem_singleton.1 hx]; exact KZ.2 ⟨d, List.mem_of_getElem? ei, hsd⟩) (fun x hx => by rw [List.mem_singleton.1 hx]; exact KZ.2 ⟨e, List.mem_of_getElem? ej, hse⟩) with ⟨g1, g2, g3, g4⟩ | ⟨g1, g2, ⟨p, hp, rfl⟩, q, hq, rfl⟩
          · rw [show (r1.2 != 0) = true from by simpa using g3, g4, g1, g2]
            simp only [cond_true, Option.bind_some, eq_selfI]
            rfl
          · rw [one_flat]
            dsimp only
            rw [show ((0 : Int) != 0) = false from rfl]
            simp only [cond_false, Option.bind_some]
            have hqs := sel_sub q env 0
            have hps := sel_sub p env 0
            have hl1 := (sub_names hps).length_le
            obtain ⟨b1, e3, h3⟩ := m19_eq (Gt q 0 env) s t (by have := hqs.length_le; omega) fun x hx => by have := K1 (hqs.subset hx); omega
            obtain ⟨r, e4, hr⟩ := find_loop (step := G0 (((Gt p 0 env).map Jh).flatten, 0) s2) (QE (Gt p 0 env)) (fun x => s2 = x) (by omega)
              (fun a x c e => by
                unfold QE at e
                unfold G0
                dsimp only
                rw [e, Ji, J6]
                simp only [cond_true, Option.bind_some]
                rcases beqB_cases s2 x with ⟨h1, h2⟩ | ⟨h1, h2⟩
                · rw [h2]; exact .inl ⟨h1, rfl⟩
                · rw [h2]; exact .inr ⟨h1, rfl⟩)
              (by unfold G0 QE; dsimp only; rw [Jz]; rfl)
            have hdual := dual hp hq (start_one g1 ei hsd) (start_one g1 ej hse)
            have hq1 := own_on g1 ei hsd q
            have hp1 := own_on g1 ej hse p
            have hall : (∃ x ∈ QE (Gt p 0 env), s2 = x) ↔ b1 = true := by
              rw [h3, hq1, ← hdual, ← hp1, ← KZ]
              exact ⟨fun ⟨x, hx, e⟩ => by rw [e]; exact hx, fun hx => ⟨_, hx, rfl⟩⟩
            rw [e3, show J1 (s2 :: t2) 0 = some s2 from rfl]
            simp only [Option.bind_some]
            rw [e4]
            rcases hr with ⟨h4, k, rfl⟩ | ⟨h4, rfl⟩
            · rw [hall.1 h4]
              simp only [Option.bind_some, Sum.elim_inr]
              rw [decide_eq_true (by omega : (0 : Int) ≤ (k : Int))]
              rfl
            · rw [show b1 = false from by cases b1 with | false => rfl | true => exact absurd (hall.2 rfl) h4]
              rfl
end Go.Proofs.Ytijcchddnnnmdaa
namespace Go.Proofs.Ytijcchddnnnmdaa
open Go.RowKit Go.ChangeShapes Go.WideShapes
set_option linter.unusedSimpArgs false
set_option linter.unusedVariables false
set_option linter.unusedSectionVars false
def Xd (w : World) : Nat → Nat → Prop := fun b _ => b < w.heap.size
def RC (w : World) (e : List C) (cs : List Value) : Prop := cs.length = e.length ∧ ∀ (j : Nat) (c : C), e[j]? = some c → ∃ u, cs[j]? = some u ∧ Reads (Xd w) w c u
theorem RC.app {w : World} {e0 e1 : List C} {cs : List Value} (h0 : RC w e0 (cs.take e0.length)) (h1 : RC w e1 (cs.drop e0.length)) (hl : cs.length = e0.length + e1.length) : RC w (e0 ++ e1) cs := by
  refine ⟨by rw [hl, List.length_append], fun j c hj => ?_⟩
  rcases Nat.lt_or_ge j e0.length with h | h
  · rw [List.getElem?_append_left h] at hj
    obtain ⟨u, h2, h3⟩ := h0.2 j c hj
    rw [List.getElem?_take, if_pos h] at h2
    exact ⟨u, h2, h3⟩
  · rw [List.getElem?_append_right h] at hj
    obtain ⟨u, h2, h3⟩ := h1.2 _ c hj
    rw [List.getElem?_drop, show e0.length + (j - e0.length) = j by omega] at h2
    exact ⟨u, h2, h3⟩
section
variable {H : Type} (enc : TypeId × Value → H) (P : Program) (w : World)
end
section
variable {H : Type} {enc : TypeId × Value → H} {P : Program} {w : World}
end
end Go.Proofs.Ytijcchddnnnmdaa
namespace Go.Proofs.Ytijcchddnnnmdaa
open Go.RowKit Go.ChangeShapes Go.WideShapes
set_option linter.unusedSimpArgs false
set_option linter.unusedVariables false
set_option linter.unusedSectionVars false
theorem Kq {H : Type} (d : DataW H) : 1 ≤ Rows.uptoBulk d := by
  cases d with
  | lit l => cases l <;> simp [Rows.uptoBulk]
  | nil => simp [Rows.uptoBulk]
  | ptr d => simp [Rows.uptoBulk]
  | slice elems spare => simp [Rows.uptoBulk]
  | agg parts => simp [Rows.uptoBulk]
  | iface t d => simp [Rows.uptoBulk]
  | map entries => simp [Rows.uptoBulk]
  | held h => simp [Rows.uptoBulk]
theorem bulk_all {H : Type} : ∀ l : List (DataW H), Rows.uptoBulkAll l = (l.map Rows.uptoBulk).sum
  | [] => by simp [Rows.uptoBulkAll]
  | x :: l => by simp only [Rows.uptoBulkAll, List.map_cons, List.sum_cons, bulk_all l]
theorem RC.nil {w : World} {cs : List Value} : RC w [] (cs.take 0) := ⟨by simp, fun j c h => by cases h⟩
theorem RC.snoc {w : World} {e0 e1 : List C} {cs : List Value} {m k : Nat} (h0 : RC w e0 (cs.take m)) (h1 : RC w e1 ((cs.drop m).take k)) (hm : e0.length = m) : RC w (e0 ++ e1) (cs.take (m + k)) := by
  have h2 := h0.1
  have h3 := h1.1
  refine RC.app ?_ ?_ ?_
  · rw [List.take_take, hm, Nat.min_eq_left (by omega)]; exact h0
  · rw [hm, List.drop_take, Nat.add_sub_cancel_left]; exact h1
  · rw [← h3, hm]
    simp only [List.length_take, List.length_drop] at h2 ⊢
    omega
section
variable {H : Type} (enc : TypeId × Value → H) (P : Program) (w : World)
def QR (N : Nat) (t : TypeId) (α : Type) [Enc α] (μ : α → Nat) : Prop := ∀ (fuel : Nat) (cs : List Value) (x : DataW H × List MemPlace), DataW.trod enc P w 0 (fun _ => true) true fuel t cs = some x → Rows.uptoBulk x.1 ≤ N → ∃ v : α, RC w (Enc.enc v) cs ∧ μ v ≤ Rows.uptoBulk x.1
end
section
variable {H : Type} {enc : TypeId × Value → H} {P : Program} {w : World} {N : Nat}
theorem Kd {t : TypeId} (ht : P.underlying t = some (.int .i64)) : QR enc P w N t Int (fun _ => 1) := by
  intro fuel cs x h hb
  obtain ⟨n, rfl, rfl, -⟩ := DataW.trod_int ht h
  refine ⟨n, ⟨rfl, fun j c hj => ?_⟩, Kq _⟩
  cases j with
  | zero => cases hj; exact ⟨_, rfl, Reads.v _ rfl⟩
  | succ j => cases hj
theorem z_bool {t : TypeId} (ht : P.underlying t = some .bool) : QR enc P w N t Bool (fun _ => 1) := by
  intro fuel cs x h hb
  obtain ⟨n, rfl, rfl⟩ := DataW.trod_bool ht h
  refine ⟨n, ⟨rfl, fun j c hj => ?_⟩, Kq _⟩
  cases j with
  | zero => cases hj; exact ⟨_, rfl, Reads.v _ rfl⟩
  | succ j => cases hj
theorem GX {t : TypeId} (ht : P.underlying t = some .string) : QR enc P w N t Wy (fun s => 1 + s.length) := by
  intro fuel cs x h hb
  obtain ⟨s, rfl, rfl, -⟩ := DataW.trod_string ht h
  refine ⟨s.data.toList, ⟨rfl, fun j c hj => ?_⟩, by simp [Rows.uptoBulk]; omega⟩
  cases j with
  | zero => cases hj; exact ⟨_, rfl, by rw [show XO s.data.toList = s from rfl]; exact Reads.v _ rfl⟩
  | succ j => cases hj
theorem Zz {α : Type} [Enc α] [EncLen α] {μ : α → Nat} {t e : TypeId} (ht : P.underlying t = some (.slice e)) (hc : P.cellsOf e = Enc.sz α) (ho : QR enc P w N e α μ) : QR enc P w N t (List α) (fun l => 1 + (l.map μ).sum) := by
  intro fuel cs x h hb
  rcases Deep.open_slice ht h with ⟨rfl, rfl⟩ | ⟨a, len, cap, m, n, D, Pl, rfl, -, hlc, -, hm, rfl, hel⟩
  · refine ⟨[], ⟨rfl, fun j c hj => ?_⟩, by simp [Rows.uptoBulk]⟩
    cases j with
    | zero =>
      cases hj
      refine ⟨_, rfl, ?_⟩
      rw [Enc.nil]
      exact .sl _ [] none 0 0 0 (fun _ _ => undef) (Nat.le_refl _) (fun h => absurd rfl h) (fun i e h => by simp at h) (fun i e j c h => by simp at h) (fun i e j c h => by simp at h) (fun i e j c h => by simp at h)
    | succ j => cases hj
  · have hm' : m = cap := by rw [hm]; rfl
    have hbk : ((List.range len).map fun i => Rows.uptoBulk (D i)).sum + 1 ≤ Rows.uptoBulk (DataW.slice (H := H) ((List.range len).map D) ((List.range (m - len)).map fun j => D (len + j))) := by
      simp only [Rows.uptoBulk, bulk_all, List.map_map]
      have : (List.map (Rows.uptoBulk ∘ D) (List.range len)).sum = ((List.range len).map fun i => Rows.uptoBulk (D i)).sum := rfl
      omega
    dsimp only at hb
    have hD : ∀ k, k < len → Rows.uptoBulk (D k) ≤ N := fun k hk => by
      have := ZZ (fun i => Rows.uptoBulk (D i)) (List.mem_range.2 hk)
      omega
    have hall : ∀ k, k ≤ len → ∃ l : List α, l.length = k ∧ (l.map μ).sum ≤ ((List.range k).map fun i => Rows.uptoBulk (D i)).sum ∧ ∀ (i : Nat) (v : α), l[i]? = some v → ∃ cs', w.cells? 0 (a.add (i * Enc.sz α)) (Enc.sz α) = some cs' ∧ RC w (Enc.enc v) cs' := by
      intro k
      induction k with
      | zero => intro _; exact ⟨[], rfl, Nat.le_refl _, fun i v h => by simp at h⟩
      | succ k ih =>
        intro hk
        obtain ⟨l, h1, hsum, h2⟩ := ih (by omega)
        obtain ⟨cs', h3, h4⟩ := hel k (by omega)
        rw [hc] at h3
        obtain ⟨v, hv, hμ⟩ := ho _ _ _ h4 (hD k (by omega))
        refine ⟨l ++ [v], by simp [h1], ?_, fun i v' hi => ?_⟩
        · rw [List.range_succ]
          simp only [List.map_append, List.map_cons, List.map_nil, List.sum_append, List.sum_cons, List.sum_nil]
          dsimp only at hμ
          omega
        rcases Nat.lt_or_ge i l.length with h | h
        · rw [List.getElem?_append_left h] at hi; exact h2 i v' hi
        · rw [List.getElem?_append_right h] at hi
          have hi0 : i - l.length = 0 := by
            rcases Nat.eq_zero_or_pos (i - l.length) with h0 | h0
            · exact h0
            · rw [List.getElem?_eq_none (by simp only [List.length_singleton]; omega)] at hi; cases hi
          have hik : i = k := by omega
          rw [hi0] at hi; cases hi
          rw [hik]; exact ⟨cs', h3, hv⟩
    obtain ⟨l, hl, hsum, hcells⟩ := hall len (Nat.le_refl _)
    have hpos : 0 < Enc.sz α := EncLen.pos
    have hspot : l ≠ [] → a.spot = none ∧ a.block < w.heap.size := by
      intro hne
      obtain ⟨v, r, rfl⟩ := List.exists_cons_of_ne_nil hne
      obtain ⟨cs', h1, h2⟩ := hcells 0 v rfl
      obtain ⟨-, h3, h4⟩ := World.cells?_some h1
      have h5 := h4 0 hpos
      rw [Nat.zero_mul, Deep.add_add, Nat.zero_add] at h5
      have h6 : (cs'[0]?).isSome := by rw [List.getElem?_eq_getElem (by omega)]; rfl
      rw [← h5] at h6
      have h7 : (a.add 0) = a := by simp [Addr.add]
      rw [h7] at h6
      unfold World.cell? at h6
      split at h6
      · rename_i c _ _ hb
        refine ⟨?_, (Array.getElem?_eq_some_iff.1 hb).1⟩
        split at h6
        · cases h6
        · rename_i hs
          cases hsp : a.spot with
          | none => rfl
          | some q => rw [hsp] at hs; exact absurd rfl hs
      · cases h6
    have hadd : l ≠ [] → ∀ k, a.add k = ⟨a.block, a.off + k, none⟩ := by
      intro hne k
      have h1 := (hspot hne).1
      unfold Addr.add
      split
      · rename_i h0; subst h0
        obtain ⟨b, o, sp⟩ := a
        simp only at h1; subst h1; rfl
      · rfl
    have hcell : ∀ (i : Nat) (e' : List C) (j : Nat) (c : C), (Enc.encL l)[i]? = some e' → e'[j]? = some c → ∃ u, w.cell? ⟨a.block, a.off + i * Enc.sz α + j, none⟩ = some u ∧ Reads (Xd w) w c u := by
      intro i e' j c hi hj
      rw [Enc.map, List.getElem?_map] at hi
      cases hx : l[i]? with
      | none => rw [hx] at hi; cases hi
      | some v =>
        rw [hx] at hi; cases hi
        have hne : l ≠ [] := by intro h0; rw [h0] at hx; simp at hx
        obtain ⟨cs', h1, h2⟩ := hcells i v hx
        obtain ⟨u, h3, h4⟩ := h2.2 j c hj
        obtain ⟨-, h5, h6⟩ := World.cells?_some h1
        have hjl : j < Enc.sz α := by have := (List.getElem?_eq_some_iff.1 h3).1; omega
        have h7 := h6 j hjl
        rw [Deep.add_add, hadd hne, h3, ← Nat.add_assoc] at h7
        exact ⟨u, h7, h4⟩
    refine ⟨l, ⟨rfl, fun j c hj => ?_⟩, by dsimp only; omega⟩
    cases j with
    | succ j => cases hj
    | zero =>
      cases hj
      refine ⟨_, rfl, ?_⟩
      have W8 := Reads.sl (S := Xd w) (w := w) (Enc.sz α) (Enc.encL l) (some a) cap a.block a.off (fun i j => (w.cell? ⟨a.block, a.off + i * Enc.sz α + j, none⟩).getD undef) (by rw [Enc.len, hl]; exact hlc)
        (fun hne => by
          have hne' : l ≠ [] := by intro h0; rw [h0, Enc.nil] at hne; exact hne rfl
          have h7 : (a.add 0) = a := by simp [Addr.add]
          rw [← h7, hadd hne'])
        (fun i e' hi => YU l e' (List.mem_of_getElem? hi))
        (fun i e' j c hi hj => by obtain ⟨u, h1, -⟩ := hcell i e' j c hi hj; rw [h1]; rfl)
        (fun i e' j c hi hj => by
          have hne : l ≠ [] := by intro h0; rw [h0, Enc.nil] at hi; simp at hi
          exact (hspot hne).2)
        (fun i e' j c hi hj => by obtain ⟨u, h1, h2⟩ := hcell i e' j c hi hj; rw [h1]; exact h2)
      rw [Enc.len, hl] at W8
      exact W8
theorem Gq {α : Type} [Enc α] {μ : α → Nat} {t : TypeId} (h : ∀ N, QR enc P w N t α μ → QR enc P w (N + 1) t α μ) : ∀ N, QR enc P w N t α μ
  | 0 => fun fuel cs x _ hb => by have := Kq x.1; omega
  | N + 1 => h N (Gq h N)
end
section
variable {H : Type} {enc : TypeId × Value → H} {w : World} {N : Nat}
theorem YA : Try.prog.cellsOf 3 = 1 := by kernel_rfl
theorem cells_4 : Try.prog.cellsOf 4 = 1 := by kernel_rfl
theorem G8 : Try.prog.cellsOf 9 = 1 := by kernel_rfl
theorem cells_39 : Try.prog.cellsOf 39 = 1 := by kernel_rfl
theorem cells_40 : Try.prog.cellsOf 40 = 1 := by kernel_rfl
theorem Zu : Try.prog.cellsOf 42 = 5 := by kernel_rfl
theorem cells_43 : Try.prog.cellsOf 43 = 1 := by kernel_rfl
theorem cells_45 : Try.prog.cellsOf 45 = 7 := by kernel_rfl
theorem cells_46 : Try.prog.cellsOf 46 = 1 := by kernel_rfl
theorem cells_48 : Try.prog.cellsOf 48 = 23 := by kernel_rfl
theorem cells_84 : Try.prog.cellsOf 84 = 6 := by kernel_rfl
theorem cells_85 : Try.prog.cellsOf 85 = 1 := by kernel_rfl
theorem cells_87 : Try.prog.cellsOf 87 = 8 := by kernel_rfl
theorem cells_89 : Try.prog.cellsOf 89 = 15 := by kernel_rfl
theorem cells_100 : Try.prog.cellsOf 100 = 1 := by kernel_rfl
theorem cells_102 : Try.prog.cellsOf 102 = 2 := by kernel_rfl
theorem cells_115 : Try.prog.cellsOf 115 = 10 := by kernel_rfl
theorem cells_149 : Try.prog.cellsOf 149 = 2 := by kernel_rfl
theorem z_lv : QR enc Try.prog w (N + 1) 149 Wv (fun _ => 1) := by
  intro fuel cs x h hb
  obtain ⟨xs, n, _, rfl, hl, hlen, hf⟩ := DataW.trod_struct Try.underlying149 h
  match xs, hlen with
  | [y0, y1], _ =>
    have hb' : Rows.uptoBulk y0.1 + Rows.uptoBulk y1.1 + 1 ≤ Rows.uptoBulk (DataW.agg (H := H) [y0.1, y1.1]) := by simp only [Rows.uptoBulk, Rows.uptoBulkAll]; omega
    have hb2 : Rows.uptoBulk (DataW.agg (H := H) [y0.1, y1.1]) ≤ N + 1 := hb
    obtain ⟨v0, r0, m0⟩ := (Kd Try.underlying3 : QR enc Try.prog w N _ _ _) n _ _ (hf 0 _ rfl) (by omega)
    change RC w (Enc.enc v0) ((cs.drop 0).take (Try.prog.cellsOf 3)) at r0
    rw [YA] at r0
    obtain ⟨v1, r1, m1⟩ := (Kd Try.underlying3 : QR enc Try.prog w N _ _ _) n _ _ (hf 1 _ rfl) (by omega)
    change RC w (Enc.enc v1) ((cs.drop 1).take (Try.prog.cellsOf 3)) at r1
    rw [YA] at r1
    have hcs : cs.take 2 = cs := List.take_of_length_le (by rw [hl]; exact Nat.le_of_eq cells_149)
    have W8 := ((((RC.nil).snoc (k := 1) r0 rfl)).snoc (k := 1) r1 rfl)
    refine ⟨(v0, v1), by rw [← hcs]; exact W8, Nat.le_trans ?_ hb'⟩
    show 1 ≤ _
    omega
theorem z_lv' : QR enc Try.prog w N 149 Wv (fun _ => 1) := Gq (fun _ _ => z_lv) N
theorem z_lvl : QR enc Try.prog w (N + 1) 102 Lvl lvz := by
  intro fuel cs x h hb
  obtain ⟨xs, n, _, rfl, hl, hlen, hf⟩ := DataW.trod_struct Try.underlying102 h
  match xs, hlen with
  | [y0, y1], _ =>
    have hb' : Rows.uptoBulk y0.1 + Rows.uptoBulk y1.1 + 1 ≤ Rows.uptoBulk (DataW.agg (H := H) [y0.1, y1.1]) := by simp only [Rows.uptoBulk, Rows.uptoBulkAll]; omega
    have hb2 : Rows.uptoBulk (DataW.agg (H := H) [y0.1, y1.1]) ≤ N + 1 := hb
    obtain ⟨v0, r0, m0⟩ := (Kd Try.underlying3 : QR enc Try.prog w N _ _ _) n _ _ (hf 0 _ rfl) (by omega)
    change RC w (Enc.enc v0) ((cs.drop 0).take (Try.prog.cellsOf 3)) at r0
    rw [YA] at r0
    obtain ⟨v1, r1, m1⟩ := (Zz Try.underlying100 (by kernel_rfl) z_lv' : QR enc Try.prog w N _ _ _) n _ _ (hf 1 _ rfl) (by omega)
    change RC w (Enc.enc v1) ((cs.drop 1).take (Try.prog.cellsOf 100)) at r1
    rw [cells_100] at r1
    have hcs : cs.take 2 = cs := List.take_of_length_le (by rw [hl]; exact Nat.le_of_eq cells_102)
    have W8 := ((((RC.nil).snoc (k := 1) r0 rfl)).snoc (k := 1) r1 rfl)
    refine ⟨⟨v0, v1⟩, by rw [← hcs]; exact W8, Nat.le_trans ?_ hb'⟩
    show lvz ⟨v0, v1⟩ ≤ _
    unfold lvz
    dsimp only at m0 m1 ⊢
    omega
theorem z_lvl' : QR enc Try.prog w N 102 Lvl lvz := Gq (fun _ _ => z_lvl) N
theorem z_tm (hk : QR enc Try.prog w N 42 Tm Tm.size) : QR enc Try.prog w (N + 1) 42 Tm Tm.size := by
  intro fuel cs x h hb
  obtain ⟨xs, n, _, rfl, hl, hlen, hf⟩ := DataW.trod_struct Try.underlying42 h
  match xs, hlen with
  | [y0, y1, y2, y3, y4], _ =>
    have hb' : Rows.uptoBulk y0.1 + Rows.uptoBulk y1.1 + Rows.uptoBulk y2.1 + Rows.uptoBulk y3.1 + Rows.uptoBulk y4.1 + 1 ≤ Rows.uptoBulk (DataW.agg (H := H) [y0.1, y1.1, y2.1, y3.1, y4.1]) := by simp only [Rows.uptoBulk, Rows.uptoBulkAll]; omega
    have hb2 : Rows.uptoBulk (DataW.agg (H := H) [y0.1, y1.1, y2.1, y3.1, y4.1]) ≤ N + 1 := hb
    obtain ⟨v0, r0, m0⟩ := (Kd Try.underlying3 : QR enc Try.prog w N _ _ _) n _ _ (hf 0 _ rfl) (by omega)
    change RC w (Enc.enc v0) ((cs.drop 0).take (Try.prog.cellsOf 3)) at r0
    rw [YA] at r0
    obtain ⟨v1, r1, m1⟩ := (Kd Try.underlying3 : QR enc Try.prog w N _ _ _) n _ _ (hf 1 _ rfl) (by omega)
    change RC w (Enc.enc v1) ((cs.drop 1).take (Try.prog.cellsOf 3)) at r1
    rw [YA] at r1
    obtain ⟨v2, r2, m2⟩ := (GX Try.underlying9 : QR enc Try.prog w N _ _ _) n _ _ (hf 2 _ rfl) (by omega)
    change RC w (Enc.enc v2) ((cs.drop 2).take (Try.prog.cellsOf 9)) at r2
    rw [G8] at r2
    obtain ⟨v3, r3, XZ⟩ := (Zz Try.underlying39 (by kernel_rfl) z_lvl' : QR enc Try.prog w N _ _ _) n _ _ (hf 3 _ rfl) (by omega)
    change RC w (Enc.enc v3) ((cs.drop 3).take (Try.prog.cellsOf 39)) at r3
    rw [cells_39] at r3
    obtain ⟨v4, r4, m4⟩ := (Zz Try.underlying40 (by kernel_rfl) hk : QR enc Try.prog w N _ _ _) n _ _ (hf 4 _ rfl) (by omega)
    change RC w (Enc.enc v4) ((cs.drop 4).take (Try.prog.cellsOf 40)) at r4
    rw [cells_40] at r4
    have hcs : cs.take 5 = cs := List.take_of_length_le (by rw [hl]; exact Nat.le_of_eq Zu)
    have W8 := ((((((((((RC.nil).snoc (k := 1) r0 rfl)).snoc (k := 1) r1 rfl)).snoc (k := 1) r2 rfl)).snoc (k := 1) r3 rfl)).snoc (k := 1) r4 rfl)
    refine ⟨Tm.mk v0 v1 v2 v3 v4, by rw [← hcs]; exact W8, Nat.le_trans ?_ hb'⟩
    rw [Tm.size_eq]
    simp only [Tm.name, Tm.kids, Tm.levels]
    dsimp only at m0 m1 m2 XZ m4 ⊢
    omega
theorem Gw : QR enc Try.prog w N 42 Tm Tm.size := Gq (fun _ h => z_tm h) N
theorem z_ctr : QR enc Try.prog w (N + 1) 84 Ctr csz := by
  intro fuel cs x h hb
  obtain ⟨xs, n, _, rfl, hl, hlen, hf⟩ := DataW.trod_struct Try.underlying84 h
  match xs, hlen with
  | [y0, y1], _ =>
    have hb' : Rows.uptoBulk y0.1 + Rows.uptoBulk y1.1 + 1 ≤ Rows.uptoBulk (DataW.agg (H := H) [y0.1, y1.1]) := by simp only [Rows.uptoBulk, Rows.uptoBulkAll]; omega
    have hb2 : Rows.uptoBulk (DataW.agg (H := H) [y0.1, y1.1]) ≤ N + 1 := hb
    obtain ⟨v0, r0, m0⟩ := (GX Try.underlying9 : QR enc Try.prog w N _ _ _) n _ _ (hf 0 _ rfl) (by omega)
    change RC w (Enc.enc v0) ((cs.drop 0).take (Try.prog.cellsOf 9)) at r0
    rw [G8] at r0
    obtain ⟨v1, r1, m1⟩ := (Gw : QR enc Try.prog w N _ _ _) n _ _ (hf 1 _ rfl) (by omega)
    change RC w (Enc.enc v1) ((cs.drop 1).take (Try.prog.cellsOf 42)) at r1
    rw [Zu] at r1
    have hcs : cs.take 6 = cs := List.take_of_length_le (by rw [hl]; exact Nat.le_of_eq cells_84)
    have W8 := ((((RC.nil).snoc (k := 1) r0 rfl)).snoc (k := 5) r1 rfl)
    refine ⟨⟨v0, v1⟩, by rw [← hcs]; exact W8, Nat.le_trans ?_ hb'⟩
    show csz ⟨v0, v1⟩ ≤ _
    unfold csz
    dsimp only at m0 m1 ⊢
    omega
theorem z_ctr' : QR enc Try.prog w N 84 Ctr csz := Gq (fun _ _ => z_ctr) N
theorem z_rcr : QR enc Try.prog w (N + 1) 45 Rcr (fun r => r.ty.size + (r.rules.map Tm.size).sum) := by
  intro fuel cs x h hb
  obtain ⟨xs, n, _, rfl, hl, hlen, hf⟩ := DataW.trod_struct Try.underlying45 h
  match xs, hlen with
  | [y0, y1, y2], _ =>
    have hb' : Rows.uptoBulk y0.1 + Rows.uptoBulk y1.1 + Rows.uptoBulk y2.1 + 1 ≤ Rows.uptoBulk (DataW.agg (H := H) [y0.1, y1.1, y2.1]) := by simp only [Rows.uptoBulk, Rows.uptoBulkAll]; omega
    have hb2 : Rows.uptoBulk (DataW.agg (H := H) [y0.1, y1.1, y2.1]) ≤ N + 1 := hb
    obtain ⟨v0, r0, m0⟩ := (Kd Try.underlying3 : QR enc Try.prog w N _ _ _) n _ _ (hf 0 _ rfl) (by omega)
    change RC w (Enc.enc v0) ((cs.drop 0).take (Try.prog.cellsOf 3)) at r0
    rw [YA] at r0
    obtain ⟨v1, r1, m1⟩ := (Gw : QR enc Try.prog w N _ _ _) n _ _ (hf 1 _ rfl) (by omega)
    change RC w (Enc.enc v1) ((cs.drop 1).take (Try.prog.cellsOf 42)) at r1
    rw [Zu] at r1
    obtain ⟨v2, r2, m2⟩ := (Zz Try.underlying40 (by kernel_rfl) Gw : QR enc Try.prog w N _ _ _) n _ _ (hf 2 _ rfl) (by omega)
    change RC w (Enc.enc v2) ((cs.drop 6).take (Try.prog.cellsOf 40)) at r2
    rw [cells_40] at r2
    have hcs : cs.take 7 = cs := List.take_of_length_le (by rw [hl]; exact Nat.le_of_eq cells_45)
    have W8 := ((((((RC.nil).snoc (k := 1) r0 rfl)).snoc (k := 5) r1 rfl)).snoc (k := 1) r2 rfl)
    refine ⟨⟨v0, v1, v2⟩, by rw [← hcs]; exact W8, Nat.le_trans ?_ hb'⟩
    dsimp only at m0 m1 m2 ⊢
    omega
theorem z_rcr' : QR enc Try.prog w N 45 Rcr (fun r => r.ty.size + (r.rules.map Tm.size).sum) := Gq (fun _ _ => z_rcr) N
theorem z_tr (hk : QR enc Try.prog w N 115 Wz bsz) : QR enc Try.prog w (N + 1) 87 Tr Tr.size := by
  intro fuel cs x h hb
  obtain ⟨xs, n, _, rfl, hl, hlen, hf⟩ := DataW.trod_struct Try.underlying87 h
  match xs, hlen with
  | [y0, y1, y2, y3], _ =>
    have hb' : Rows.uptoBulk y0.1 + Rows.uptoBulk y1.1 + Rows.uptoBulk y2.1 + Rows.uptoBulk y3.1 + 1 ≤ Rows.uptoBulk (DataW.agg (H := H) [y0.1, y1.1, y2.1, y3.1]) := by simp only [Rows.uptoBulk, Rows.uptoBulkAll]; omega
    have hb2 : Rows.uptoBulk (DataW.agg (H := H) [y0.1, y1.1, y2.1, y3.1]) ≤ N + 1 := hb
    obtain ⟨v0, r0, m0⟩ := (Kd Try.underlying3 : QR enc Try.prog w N _ _ _) n _ _ (hf 0 _ rfl) (by omega)
    change RC w (Enc.enc v0) ((cs.drop 0).take (Try.prog.cellsOf 3)) at r0
    rw [YA] at r0
    obtain ⟨v1, r1, m1⟩ := (Gw : QR enc Try.prog w N _ _ _) n _ _ (hf 1 _ rfl) (by omega)
    change RC w (Enc.enc v1) ((cs.drop 1).take (Try.prog.cellsOf 42)) at r1
    rw [Zu] at r1
    obtain ⟨v2, r2, m2⟩ := (Kd Try.underlying3 : QR enc Try.prog w N _ _ _) n _ _ (hf 2 _ rfl) (by omega)
    change RC w (Enc.enc v2) ((cs.drop 6).take (Try.prog.cellsOf 3)) at r2
    rw [YA] at r2
    obtain ⟨v3, r3, XZ⟩ := (Zz Try.underlying85 (by kernel_rfl) hk : QR enc Try.prog w N _ _ _) n _ _ (hf 3 _ rfl) (by omega)
    change RC w (Enc.enc v3) ((cs.drop 7).take (Try.prog.cellsOf 85)) at r3
    rw [cells_85] at r3
    have hcs : cs.take 8 = cs := List.take_of_length_le (by rw [hl]; exact Nat.le_of_eq cells_87)
    have W8 := ((((((((RC.nil).snoc (k := 1) r0 rfl)).snoc (k := 5) r1 rfl)).snoc (k := 1) r2 rfl)).snoc (k := 1) r3 rfl)
    refine ⟨Tr.mk v0 v1 v2 v3, by rw [← hcs]; exact W8, Nat.le_trans ?_ hb'⟩
    rw [Tr.size_eq]
    simp only [Tr.body, Tr.branches]
    dsimp only at m0 m1 m2 XZ ⊢
    omega
theorem z_br (hk : QR enc Try.prog w N 87 Tr Tr.size) : QR enc Try.prog w (N + 1) 115 Wz bsz := by
  intro fuel cs x h hb
  obtain ⟨xs, n, _, rfl, hl, hlen, hf⟩ := DataW.trod_struct Try.underlying115 h
  match xs, hlen with
  | [y0, y1, y2], _ =>
    have hb' : Rows.uptoBulk y0.1 + Rows.uptoBulk y1.1 + Rows.uptoBulk y2.1 + 1 ≤ Rows.uptoBulk (DataW.agg (H := H) [y0.1, y1.1, y2.1]) := by simp only [Rows.uptoBulk, Rows.uptoBulkAll]; omega
    have hb2 : Rows.uptoBulk (DataW.agg (H := H) [y0.1, y1.1, y2.1]) ≤ N + 1 := hb
    obtain ⟨v0, r0, m0⟩ := (GX Try.underlying9 : QR enc Try.prog w N _ _ _) n _ _ (hf 0 _ rfl) (by omega)
    change RC w (Enc.enc v0) ((cs.drop 0).take (Try.prog.cellsOf 9)) at r0
    rw [G8] at r0
    obtain ⟨v1, r1, m1⟩ := (z_bool Try.underlying4 : QR enc Try.prog w N _ _ _) n _ _ (hf 1 _ rfl) (by omega)
    change RC w (Enc.enc v1) ((cs.drop 1).take (Try.prog.cellsOf 4)) at r1
    rw [cells_4] at r1
    obtain ⟨v2, r2, m2⟩ := hk n _ _ (hf 2 _ rfl) (by omega)
    change RC w (Enc.enc v2) ((cs.drop 2).take (Try.prog.cellsOf 87)) at r2
    rw [cells_87] at r2
    have hcs : cs.take 10 = cs := List.take_of_length_le (by rw [hl]; exact Nat.le_of_eq cells_115)
    have W8 := ((((((RC.nil).snoc (k := 1) r0 rfl)).snoc (k := 1) r1 rfl)).snoc (k := 8) r2 rfl)
    refine ⟨⟨v0, v1, v2⟩, by rw [← hcs]; exact W8, Nat.le_trans ?_ hb'⟩
    show bsz ⟨v0, v1, v2⟩ ≤ _
    unfold bsz
    dsimp only at m0 m1 m2 ⊢
    omega
theorem z_trbr : ∀ N, QR enc Try.prog w N 87 Tr Tr.size ∧ QR enc Try.prog w N 115 Wz bsz
  | 0 => ⟨fun fuel cs x _ hb => by have := Kq x.1; omega, fun fuel cs x _ hb => by have := Kq x.1; omega⟩
  | N + 1 => ⟨z_tr (z_trbr N).2, z_br (z_trbr N).1⟩
theorem z_fn : QR enc Try.prog w (N + 1) 89 Fn fsz := by
  intro fuel cs x h hb
  obtain ⟨xs, n, _, rfl, hl, hlen, hf⟩ := DataW.trod_struct Try.underlying89 h
  match xs, hlen with
  | [y0, y1, y2, y3], _ =>
    have hb' : Rows.uptoBulk y0.1 + Rows.uptoBulk y1.1 + Rows.uptoBulk y2.1 + Rows.uptoBulk y3.1 + 1 ≤ Rows.uptoBulk (DataW.agg (H := H) [y0.1, y1.1, y2.1, y3.1]) := by simp only [Rows.uptoBulk, Rows.uptoBulkAll]; omega
    have hb2 : Rows.uptoBulk (DataW.agg (H := H) [y0.1, y1.1, y2.1, y3.1]) ≤ N + 1 := hb
    obtain ⟨v0, r0, m0⟩ := (GX Try.underlying9 : QR enc Try.prog w N _ _ _) n _ _ (hf 0 _ rfl) (by omega)
    change RC w (Enc.enc v0) ((cs.drop 0).take (Try.prog.cellsOf 9)) at r0
    rw [G8] at r0
    obtain ⟨v1, r1, m1⟩ := (Gw : QR enc Try.prog w N _ _ _) n _ _ (hf 1 _ rfl) (by omega)
    change RC w (Enc.enc v1) ((cs.drop 1).take (Try.prog.cellsOf 42)) at r1
    rw [Zu] at r1
    obtain ⟨v2, r2, m2⟩ := (Kd Try.underlying3 : QR enc Try.prog w N _ _ _) n _ _ (hf 2 _ rfl) (by omega)
    change RC w (Enc.enc v2) ((cs.drop 6).take (Try.prog.cellsOf 3)) at r2
    rw [YA] at r2
    obtain ⟨v3, r3, XZ⟩ := (z_trbr N).1 n _ _ (hf 3 _ rfl) (by omega)
    change RC w (Enc.enc v3) ((cs.drop 7).take (Try.prog.cellsOf 87)) at r3
    rw [cells_87] at r3
    have hcs : cs.take 15 = cs := List.take_of_length_le (by rw [hl]; exact Nat.le_of_eq cells_89)
    have W8 := ((((((((RC.nil).snoc (k := 1) r0 rfl)).snoc (k := 5) r1 rfl)).snoc (k := 1) r2 rfl)).snoc (k := 8) r3 rfl)
    refine ⟨⟨v0, v1, v2, v3⟩, by rw [← hcs]; exact W8, Nat.le_trans ?_ hb'⟩
    show fsz ⟨v0, v1, v2, v3⟩ ≤ _
    unfold fsz
    dsimp only at m0 m1 m2 XZ ⊢
    omega
theorem z_fn' : QR enc Try.prog w N 89 Fn fsz := Gq (fun _ _ => z_fn) N
theorem z_dcl : QR enc Try.prog w (N + 1) 48 Dcl Dcl.size := by
  intro fuel cs x h hb
  obtain ⟨xs, n, _, rfl, hl, hlen, hf⟩ := DataW.trod_struct Try.underlying48 h
  match xs, hlen with
  | [y0, y1, y2, y3, y4, y5, y6, y7, y8], _ =>
    have hb' : Rows.uptoBulk y0.1 + Rows.uptoBulk y1.1 + Rows.uptoBulk y2.1 + Rows.uptoBulk y3.1 + Rows.uptoBulk y4.1 + Rows.uptoBulk y5.1 + Rows.uptoBulk y6.1 + Rows.uptoBulk y7.1 + Rows.uptoBulk y8.1 + 1 ≤ Rows.uptoBulk (DataW.agg (H := H) [y0.1, y1.1, y2.1, y3.1, y4.1, y5.1, y6.1, y7.1, y8.1]) := by simp only [Rows.uptoBulk, Rows.uptoBulkAll]; omega
    have hb2 : Rows.uptoBulk (DataW.agg (H := H) [y0.1, y1.1, y2.1, y3.1, y4.1, y5.1, y6.1, y7.1, y8.1]) ≤ N + 1 := hb
    obtain ⟨v0, r0, m0⟩ := (Kd Try.underlying3 : QR enc Try.prog w N _ _ _) n _ _ (hf 0 _ rfl) (by omega)
    change RC w (Enc.enc v0) ((cs.drop 0).take (Try.prog.cellsOf 3)) at r0
    rw [YA] at r0
    obtain ⟨v1, r1, m1⟩ := (GX Try.underlying9 : QR enc Try.prog w N _ _ _) n _ _ (hf 1 _ rfl) (by omega)
    change RC w (Enc.enc v1) ((cs.drop 1).take (Try.prog.cellsOf 9)) at r1
    rw [G8] at r1
    obtain ⟨v2, r2, m2⟩ := (Kd Try.underlying3 : QR enc Try.prog w N _ _ _) n _ _ (hf 2 _ rfl) (by omega)
    change RC w (Enc.enc v2) ((cs.drop 2).take (Try.prog.cellsOf 3)) at r2
    rw [YA] at r2
    obtain ⟨v3, r3, XZ⟩ := (Gw : QR enc Try.prog w N _ _ _) n _ _ (hf 3 _ rfl) (by omega)
    change RC w (Enc.enc v3) ((cs.drop 3).take (Try.prog.cellsOf 42)) at r3
    rw [Zu] at r3
    obtain ⟨v4, r4, m4⟩ := (Gw : QR enc Try.prog w N _ _ _) n _ _ (hf 4 _ rfl) (by omega)
    change RC w (Enc.enc v4) ((cs.drop 8).take (Try.prog.cellsOf 42)) at r4
    rw [Zu] at r4
    obtain ⟨v5, r5, m5⟩ := (Kd Try.underlying3 : QR enc Try.prog w N _ _ _) n _ _ (hf 5 _ rfl) (by omega)
    change RC w (Enc.enc v5) ((cs.drop 13).take (Try.prog.cellsOf 3)) at r5
    rw [YA] at r5
    obtain ⟨v6, r6, XY⟩ := (Zz Try.underlying43 (by kernel_rfl) z_ctr' : QR enc Try.prog w N _ _ _) n _ _ (hf 6 _ rfl) (by omega)
    change RC w (Enc.enc v6) ((cs.drop 14).take (Try.prog.cellsOf 43)) at r6
    rw [cells_43] at r6
    obtain ⟨v7, r7, m7⟩ := (z_rcr' : QR enc Try.prog w N _ _ _) n _ _ (hf 7 _ rfl) (by omega)
    change RC w (Enc.enc v7) ((cs.drop 15).take (Try.prog.cellsOf 45)) at r7
    rw [cells_45] at r7
    obtain ⟨v8, r8, m8⟩ := (Zz Try.underlying46 (by kernel_rfl) z_fn' : QR enc Try.prog w N _ _ _) n _ _ (hf 8 _ rfl) (by omega)
    change RC w (Enc.enc v8) ((cs.drop 22).take (Try.prog.cellsOf 46)) at r8
    rw [cells_46] at r8
    have hcs : cs.take 23 = cs := List.take_of_length_le (by rw [hl]; exact Nat.le_of_eq cells_48)
    have W8 := ((((((((((((((((((RC.nil).snoc (k := 1) r0 rfl)).snoc (k := 1) r1 rfl)).snoc (k := 1) r2 rfl)).snoc (k := 5) r3 rfl)).snoc (k := 5) r4 rfl)).snoc (k := 1) r5 rfl)).snoc (k := 1) r6 rfl)).snoc (k := 7) r7 rfl)).snoc (k := 1) r8 rfl)
    refine ⟨⟨v0, v1, v2, v3, v4, v5, v6, v7, v8⟩, by rw [← hcs]; exact W8, Nat.le_trans ?_ hb'⟩
    show Dcl.size ⟨v0, v1, v2, v3, v4, v5, v6, v7, v8⟩ ≤ _
    unfold Dcl.size
    dsimp only at m0 m1 m2 XZ m4 m5 XY m7 m8 ⊢
    omega
theorem z_dcl' : QR enc Try.prog w N 48 Dcl Dcl.size := Gq (fun _ _ => z_dcl) N
theorem z_env : QR enc Try.prog w N 22 (List Dcl) (fun l => 1 + Ke l) := Zz Try.underlying22 (by kernel_rfl) z_dcl'
end
end Go.Proofs.Ytijcchddnnnmdaa
namespace Go.Proofs.Ytijcchddnnnmdaa
open Go.ChangeShapes Go.WideShapes Go.ChangeAt Go.RowKit Go.WideElems
set_option linter.unusedSimpArgs false
set_option linter.unusedVariables false
set_option linter.unusedSectionVars false
theorem own : ownKnob Try.prog.godebug = none := by kernel_rfl
theorem laidOut : laidOutB Try.prog = true := by kernel_rfl
set_option maxRecDepth 100000 in
theorem slice_readsZ {H : Type} {enc : TypeId × Value → H} {α : Type} [Enc α] [EncLen α] {μ : List α → Nat} {W : World} {base : Nat} {t e : TypeId} {v : Value} {d : DataW H} {p : List MemPlace} (ht : Try.prog.underlying t = some (.slice e)) (ho : ∀ N, QR enc Try.prog W N t (List α) μ)
    (hval : Value.okWide Try.prog W .any base t v) (h : DataW.Trod enc Try.prog W 0 (fun _ => true) true t v d p) : ∃ l : List α, Reads (Xd W) W (.sl (Enc.sz α) (Enc.encL l)) v ∧ μ l ≤ Rows.uptoBulk d := by
  obtain ⟨fuel, hf⟩ := h
  obtain ⟨l, hl, hμ⟩ := ho _ _ _ _ hf (Nat.le_refl _)
  refine ⟨l, ?_, hμ⟩
  obtain ⟨u, h2, h3⟩ := hl.2 0 _ rfl
  have h4 : v.cells = #[v] := by
    have h5 := hl.1
    cases v with
    | agg cs =>
      exfalso
      obtain ⟨s, n, c, h7⟩ := okWide_slice ht hval
      cases h7
    | _ => rfl
  rw [h4] at h2
  cases h2
  exact h3
end Go.Proofs.Ytijcchddnnnmdaa
namespace Go.Proofs.Ytijcchddnnnmdaa
open Go.ChangeShapes Go.WideShapes Go.ChangeAt Go.RowKit Go.WideElems
set_option linter.unusedSimpArgs false
set_option linter.unusedVariables false
set_option linter.unusedSectionVars false
theorem u8_nat {n : Int} (h : (Lit.int .u8 n).wf = true) : ∃ m : Nat, n = (m : Int) ∧ m < 256 := by
  simp only [Lit.wf, IntKind.min, IntKind.max, IntKind.signed, IntKind.bits, Bool.and_eq_true, decide_eq_true_eq, Bool.false_eq_true, if_false] at h
  exact ⟨n.toNat, by omega, by omega⟩
theorem law6 {W : World} (a0 : List Dcl) (k1 k2 : Nat) (hb1 : k1 < 256) (hb2 : k2 < 256) (hs : Ke a0 ≤ 100000000) {v0 : Value} (hv0 : Reads (Xd W) W (.sl 23 (Enc.encL a0)) v0) : Calls Try.prog 6 #[v0, .int .u8 k1, .int .u8 k2] W fun e W' => e = .returned (.bool true) ∧ Below W.heap.size W W' := by
  have hF := m6_ok a0 ⟨(k1 : Int)⟩ ⟨(k2 : Int)⟩ true (m6_true a0 k1 k2 hb1 hb2 hs)
  refine Calls.mono (hF.2 (Xd W) W #[v0, .int .u8 k1, .int .u8 k2] (fun b o h => h) ⟨rfl, fun i y hy => ?_⟩) ?_
  · match i, hy with
    | 0, hy => cases hy; exact ⟨_, rfl, hv0⟩
    | 1, hy => cases hy; exact ⟨_, rfl, Reads.v _ rfl⟩
    | 2, hy => cases hy; exact ⟨_, rfl, Reads.v _ rfl⟩
  · rintro e W' ⟨u, S', rfl, hx, -, -, hu⟩
    have e1 : u = .bool true := by cases hu; rfl
    rw [e1]
    exact ⟨rfl, hx.os, hx.tape, hx.output, hx.size, fun k hk => hx.block k hk (fun h => h)⟩
set_option maxRecDepth 100000 in
theorem contract (H : Type) (enc : TypeId × Value → H) (W : World) (base : Nat) (args : Array Value) (ds gs : List (DataW H)) (before : List MemPlace) (hk : Rows.uptoSmall H (ds ++ gs) = true)
    (hval0 : ∀ (j : Nat) t v, Try.f6.params[j]? = some t → args[j]? = some v → Value.okWide Try.prog W .any base t v)
    (hW : DataW.Whole enc Try.prog Try.f6.params.toList Rows.dependMirrorsSpec.vars false W args.toList ds gs before) :
    Calls Try.prog 6 args W fun e W' => ∃ v, e = .returned v ∧ Rows.dependMirrorsSpec.post enc Try.prog Try.f6 false true false false W args v W' := by
  have hval : ∀ (j : Nat) t v, Try.f6.params[j]? = some t → args[j]? = some v → Value.okWide Try.prog W .any base t v := hval0
  have hW' := hW
  obtain ⟨p, q, hA0, hV, rfl, hfz, hnd⟩ := hW
  have hA : DataW.TrodAll enc Try.prog W 0 (fun _ => true) true Try.f6.params.toList args.toList ds p := hA0
  rw [Try.params6] at hA hval
  obtain ⟨v0, v1, v2, d0, d1, d2, p0, p1, p2, rfl, rfl, rfl, h0, h1, h2⟩ := trodAll_three hA
  obtain ⟨rfl, rfl⟩ := trodVars_none hV
  have h0k := h0
  have h1k := h1
  have h2k := h2
  obtain ⟨a0, hv0, hz⟩ := slice_readsZ Try.underlying22 (fun N => z_env) (hval 0 22 v0 rfl rfl) h0
  obtain ⟨n1, rfl, -, -, hw1⟩ := open_int Try.underlying5 (hval 1 5 v1 rfl rfl) h1
  obtain ⟨a1, rfl, hb1⟩ := u8_nat hw1
  obtain ⟨n2, rfl, -, -, hw2⟩ := open_int Try.underlying5 (hval 2 5 v2 rfl rfl) h2
  obtain ⟨a2, rfl, hb2⟩ := u8_nat hw2
  have hbk : Rows.uptoBulkAll ([d0, d1, d2] ++ ([] : List (DataW H))) ≤ 1048576 := of_decide_eq_true hk
  simp only [List.append_nil, Rows.uptoBulkAll] at hbk
  clear hA0 hval0
  simp only [List.append_nil, List.append_assoc] at hW'
  have hlt : ∀ x ∈ p0 ++ (p1 ++ p2), x.block < W.heap.size := fun x hx => by simpa using hW'.lt x hx
  refine (law6 a0 a1 a2 hb1 hb2 (by omega) hv0).mono fun e W' ⟨he, hb⟩ => ?_
  subst he
  have hargs : ∀ sp : Nat → Bool, (∀ x ∈ p0 ++ (p1 ++ p2), sp x.block = true) → DataW.TrodAll enc Try.prog W' 0 sp true [22, 5, 5] [v0, .int .u8 a1, .int .u8 a2] [d0, d1, d2] (p0 ++ (p1 ++ p2)) := fun sp hsp =>
    trodAll_mk3 (WideElems.Trod_stays laidOut (by kernel_rfl) (of_decide_eq_true (by kernel_rfl)) h0k (fun x hx => hb.same (hlt x (by simp [hx]))) (fun x hx => hsp x (by simp [hx]))) (WideElems.Trod_stays laidOut (by kernel_rfl) (of_decide_eq_true (by kernel_rfl)) h1k (fun x hx => hb.same (hlt x (by simp [hx]))) (fun x hx => hsp x (by simp [hx]))) (WideElems.Trod_stays laidOut (by kernel_rfl) (of_decide_eq_true (by kernel_rfl)) h2k (fun x hx => hb.same (hlt x (by simp [hx]))) (fun x hx => hsp x (by simp [hx])))
  exact ⟨_, rfl, _, _, _, [], p0 ++ (p1 ++ p2), [], hW', trodAll_mk1 (shut_bool Try.underlying4 true), hargs _ (fun x hx => by simpa using hlt x hx), rfl, hb.frame _, fun h => by cases h⟩
set_option maxRecDepth 100000 in
theorem lifted (os : Os) (started : os.Started) (H : Type) (enc : TypeId × Value → H) (F : Stop.Interp) :
    ReturnsInHanded {} Try.checked os 6 .any ((Rows.OpenSpec.upto Rows.dependMirrorsSpec).pre6 enc Try.prog Try.f6 Rows.dependMirrorsUptoRow.domain false) (((Rows.OpenSpec.upto Rows.dependMirrorsSpec).at F).post enc Try.prog Try.f6 false true false false) := by
  refine returnsInHanded_of_cond (C := Try.checked) (s := Rows.OpenSpec.upto Rows.dependMirrorsSpec) (k := Rows.uptoSmall) rfl own started (by kernel_rfl) Try.func6
    (OpenSpec.witness (enc := enc) (C := Try.checked) (s := Rows.OpenSpec.upto Rows.dependMirrorsSpec) (k := Rows.uptoSmall) rfl false ⟨#[], #[.slice none 0 0, .int .u8 0, .int .u8 0], []⟩ 8 (by kernel_rfl) (by kernel_rfl) (by kernel_rfl)
      (x := ([.nil, .lit (.int .u8 0), .lit (.int .u8 0)], [], [])) (by kernel_rfl) rfl (by kernel_rfl)) ?_
  intro W base args ds gs before hval hW _ hk _
  exact contract H enc W base args ds gs before hk hval hW
theorem over : Rows.dependMirrorsUptoRow.holds Try.pinned (Rows.OpenSpec.upto Rows.dependMirrorsSpec) :=
  OpenClaim.holds_of_cond 6 Try.f6 rfl rfl rfl rfl rfl rfl rfl ⟨rfl, rfl, rfl, rfl, rfl⟩ rfl rfl rfl rfl rfl (by kernel_rfl) Try.func6 (by kernel_rfl)
    (of_decide_eq_true (by kernel_rfl)) (by unfold Func.isWrapper; first | (rw [if_pos (by decide +kernel)]; kernel_rfl) | (rw [if_neg (by decide +kernel)]; exact ⟨rfl, rfl⟩))
    (fun os started H enc _ F => lifted os started H enc F)
theorem dependMirrorsUpto : Rows.DependMirrorsUptoSaid := over
#print axioms dependMirrorsUpto
end Go.Proofs.Ytijcchddnnnmdaa
