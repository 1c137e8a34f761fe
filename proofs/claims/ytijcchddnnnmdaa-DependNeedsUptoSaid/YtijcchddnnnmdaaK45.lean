/- Part 5 of the proof: rules, mirrors and plain laws. The statement DependNeedsUpto is proved here: for every list of declarations and every list of names the law returns true, and the arguments read behind the call as they did before; condition: the arguments are of bulk at most 1048576 (the second form). -/
import Derived.Test.YtijcchddnnnmdaaK44
namespace Go.Proofs.Ytijcchddnnnmdaa
open Go.RowKit Go.Shelf
set_option linter.unusedSimpArgs false
set_option linter.unusedVariables false
def m22o_l0 (x10 : (List UN)) (s2 : Int × (Qj UN Int)) (s3 : Int × (Qj UN Int)) : Option (LO (Int × (Qj UN Int)) (((Qj UN Int)) ⊕ (((List (List Int)) × (Qj UN Int)) ⊕ Unit ⊕ Unit))) :=
 cond (decide (s3.1 < (x10.length : Int)))
   (Option.bind (Jg x10 s3.1) fun (x13 : UN) =>
 cond (Jz s3.2 x13)
   (some (.done (.inr (.inr (.inl ())))))
   (some (.next ((J1 (s3.1 + 1)), (Y5 s3.2 x13 s2.1)))))
   (some (.done (.inl s3.2)))
def m22o_l1 (nn : Nat) (a0 : List Dcl) (s2 : Int × (Qj UN Int)) : Option (LO (Int × (Qj UN Int)) (((Qj UN Int)) ⊕ (((List (List Int)) × (Qj UN Int)) ⊕ Unit ⊕ Unit))) :=
 cond (decide (s2.1 < ((nn : Nat) : Int)))
   (Option.bind (Jg a0 s2.1) fun (x8 : Dcl) =>
 Qt (Nat.beq a0.length nn)
 (Option.bind (Wc x8) fun (x10 : (List UN)) =>
 Option.bind (Qv (m22o_l0 x10 s2) QH (0, s2.2)) (Sum.elim (fun (o11 : (Qj UN Int)) => some (.next ((J1 (s2.1 + 1)), o11))) (fun o => some (.done (.inr o))))))
   (some (.done (.inl s2.2)))
def m22o_l2 (x11 : (List UN)) (o6 : (Qj UN Int)) (s3 : (List Int) × Int) : Option (LO ((List Int) × Int) (((List Int)) ⊕ (((List (List Int)) × (Qj UN Int)) ⊕ Unit ⊕ Unit))) :=
 cond (decide (s3.2 < (x11.length : Int)))
   (Option.bind (Jg x11 s3.2) fun (x14 : UN) =>
 cond (!(Jz o6 x14))
   (some (.done (.inr (.inr (.inr ())))))
   (Qt (Nat.ble (s3.1.length + ([(Jl o6 x14)]).length) 1000000000)
 (some (.next ((s3.1 ++ ([(Jl o6 x14)])), (J1 (s3.2 + 1)))))))
   (some (.done (.inl s3.1)))
def m22o_l3 (nn : Nat) (a0 : List Dcl) (o6 : (Qj UN Int)) (s2 : Int × (List (List Int))) : Option (LO (Int × (List (List Int))) (((List (List Int))) ⊕ (((List (List Int)) × (Qj UN Int)) ⊕ Unit ⊕ Unit))) :=
 cond (decide (s2.1 < ((nn : Nat) : Int)))
   (Option.bind (Jg a0 s2.1) fun (x9 : Dcl) =>
 Qt (Nat.beq a0.length nn)
 (Option.bind (Wh x9) fun (x11 : (List UN)) =>
 Option.bind (Qv (m22o_l2 x11 o6) QH (([] : List Int), 0)) (Sum.elim (fun (o12 : (List Int)) => Option.bind (ZA o12) fun (x13 : List Int) =>
 Option.bind (Y2 x13 ((Enc.encL o12).length)) fun (x14 : List Int) =>
 Qt (Nat.ble (s2.2.length + ([x14]).length) 1000000000)
 (some (.next ((J1 (s2.1 + 1)), (s2.2 ++ ([x14])))))) (fun o => some (.done (.inr o))))))
   (some (.done (.inl s2.2)))
def m22o_l4 (y1 : (List (List Int)) × (Qj UN Int)) (s1 : (List Int) × (List Bool)) (nn : Nat) (s2 : Int) : Option (LO Int Int) :=
 cond (decide (s2 < (y1.1.length : Int)))
   (Option.bind (Jg y1.1 s2) fun (x37 : List Int) =>
 Option.bind (Option.bind (Jg s1.2 s2) fun (x39 : Bool) =>
 Qt (Nat.beq s1.2.length (((nn : Nat) : Int).toNat))
 (cond (!x39)
   (Option.bind (m43f5 x37 (((nn : Nat) : Int).toNat) s1.2) fun (x42 : Bool) =>
 some (!x42))
   (some false))) (fun (v38 : Bool) => cond v38
   (some (.done s2))
   (some (.next (J1 (s2 + 1))))))
   (some (.done (-1)))
def m22o_l5 (nn : Nat) (y1 : (List (List Int)) × (Qj UN Int)) (s1 : (List Int) × (List Bool)) : Option (LO ((List Int) × (List Bool)) (((List Int) × (List Bool)) ⊕ (((List Int) × Int)))) :=
 cond (decide ((s1.1.length : Int) < ((nn : Nat) : Int)))
   (Option.bind (Qv (m22o_l4 y1 s1 nn) QH 0) (fun (o35 : Int) => cond (decide (o35 < 0))
   (some (.done (.inr (([] : List Int), 22))))
   (Option.bind (Jg s1.2 o35) fun (x37 : Bool) =>
 Qt (Nat.beq s1.2.length (((nn : Nat) : Int).toNat))
 (Qt (Nat.ble (s1.1.length + ([o35]).length) 1000000000)
 (some (.next ((s1.1 ++ ([o35])), (s1.2.set o35.toNat true))))))))
   (some (.done (.inl (s1.1, s1.2))))
def m22o (a0 : List Dcl) (nn : Nat) : Option ((List Int) × Int) :=
 Option.bind (Option.bind (Qv (m22o_l1 nn a0) QH (0, gmNil)) (Sum.elim (fun (o6 : (Qj UN Int)) => Option.bind (Qv (m22o_l3 nn a0 o6) QH (0, ([] : List (List Int)))) (Sum.elim (fun (o7 : (List (List Int))) => some (.inl (o7, o6))) (fun o => some o))) (fun o => some o))) (Sum.elim (fun (y1 : (List (List Int)) × (Qj UN Int)) => Qt (cond (decide (0 ≤ ((nn : Nat) : Int))) (Nat.ble (1 * ((nn : Nat) : Int).toNat) 281474976710656) false)
 (Option.bind (Qv (m22o_l5 nn y1) QH (([] : List Int), (List.replicate ((nn : Nat) : Int).toNat false))) (Sum.elim (fun (o33 : (List Int) × (List Bool)) => some (o33.1, 0)) (fun o => some o)))) (Sum.elim (fun (y2 : Unit) => some (([] : List Int), 8)) (fun (y3 : Unit) => some (([] : List Int), 9))))
set_option maxRecDepth 100000 in
set_option maxHeartbeats 2000000 in
theorem m22o_ok (a0 : List Dcl) (nn : Nat) (r : (List Int) × Int) (h0 : m22o a0 nn = some r) : CallM Try.prog 22 [.one (.osl 0 0 nn nn)] ⟨[(0, .cells 48 (Qa a0))], [], 1⟩ (Qy [.one (Ut r.1), .one (Uv r.2)]) ⟨[(0, .cells 48 (Qa a0))], [], 6⟩ := by
 unfold m22o at h0
 refine QP ⟨[(2, .v (.one (Ut r.1))), (3, .v (.one (Uv r.2)))], [(0, .cells 48 (Qa a0))], [], 6, 58, []⟩ rfl rfl en_22 (Ug rfl) rfl (Qk rfl (Qk rfl .nil)) (fun w0 M V0 Q hv0 hQ0 => ?_)
 simp only [J8]
 refine Q2 <| Q0 <| U7 rfl rfl rfl <| U7 rfl rfl rfl <| Q3 <| Q1 <| Q2 <| Q0 <| U6 rfl rfl rfl ?_
 refine Qb h0 (fun y5 h1 h0 => ?_)
 have hc4 : CallM Try.prog 34 [.one (.osl 0 0 nn nn)] ⟨[(0, .cells 48 (Qa a0))], [], 1⟩ (Qy (((Sum.elim (fun (y1 : (List (List Int)) × (Qj UN Int)) => ([.agg [Ux 4 y1.1, .mp 2], .one (Uv 0)] : List AV)) (Sum.elim (fun (y2 : Unit) => ([.agg [Uu, .d (.v (.map none))], .one (Uv 8)] : List AV)) (fun (y3 : Unit) => ([.agg [Uu, .d (.v (.map none))], .one (Uv 9)] : List AV))))) y5)) ⟨(((Sum.elim (fun (y1 : (List (List Int)) × (Qj UN Int)) => (⟨[(2, .v (.one (.ptr 1 0))), (3, .v (.one (Uv 0)))], [(0, .cells 48 (Qa a0)), (1, .cells 72 [Ux 4 y1.1, .mp 2]), (2, .mp (QT y1.2.1) y1.2.2)], [(4, some ⟨54, 1, (Enc.encL y1.1).length, []⟩)], 5, 88, []⟩ : St)) (Sum.elim (fun (y2 : Unit) => (⟨[(2, .v (.one (.ptr 1 0))), (3, .v (.one (Uv 8)))], [(0, .cells 48 (Qa a0)), (1, .cells 72 [Uu, .d (.v (.map none))])], [], 5, 88, []⟩ : St)) (fun (y3 : Unit) => (⟨[(2, .v (.one (.ptr 1 0))), (3, .v (.one (Uv 9)))], [(0, .cells 48 (Qa a0)), (1, .cells 72 [Uu, .d (.v (.map none))])], [], 7, 88, []⟩ : St))))) y5).hp, (((Sum.elim (fun (y1 : (List (List Int)) × (Qj UN Int)) => (⟨[(2, .v (.one (.ptr 1 0))), (3, .v (.one (Uv 0)))], [(0, .cells 48 (Qa a0)), (1, .cells 72 [Ux 4 y1.1, .mp 2]), (2, .mp (QT y1.2.1) y1.2.2)], [(4, some ⟨54, 1, (Enc.encL y1.1).length, []⟩)], 5, 88, []⟩ : St)) (Sum.elim (fun (y2 : Unit) => (⟨[(2, .v (.one (.ptr 1 0))), (3, .v (.one (Uv 8)))], [(0, .cells 48 (Qa a0)), (1, .cells 72 [Uu, .d (.v (.map none))])], [], 5, 88, []⟩ : St)) (fun (y3 : Unit) => (⟨[(2, .v (.one (.ptr 1 0))), (3, .v (.one (Uv 9)))], [(0, .cells 48 (Qa a0)), (1, .cells 72 [Uu, .d (.v (.map none))])], [], 7, 88, []⟩ : St))))) y5).tk, (((Sum.elim (fun (y1 : (List (List Int)) × (Qj UN Int)) => (⟨[(2, .v (.one (.ptr 1 0))), (3, .v (.one (Uv 0)))], [(0, .cells 48 (Qa a0)), (1, .cells 72 [Ux 4 y1.1, .mp 2]), (2, .mp (QT y1.2.1) y1.2.2)], [(4, some ⟨54, 1, (Enc.encL y1.1).length, []⟩)], 5, 88, []⟩ : St)) (Sum.elim (fun (y2 : Unit) => (⟨[(2, .v (.one (.ptr 1 0))), (3, .v (.one (Uv 8)))], [(0, .cells 48 (Qa a0)), (1, .cells 72 [Uu, .d (.v (.map none))])], [], 5, 88, []⟩ : St)) (fun (y3 : Unit) => (⟨[(2, .v (.one (.ptr 1 0))), (3, .v (.one (Uv 9)))], [(0, .cells 48 (Qa a0)), (1, .cells 72 [Uu, .d (.v (.map none))])], [], 7, 88, []⟩ : St))))) y5).nx⟩ := by
  refine JN y5 ((Sum.elim (fun (y1 : (List (List Int)) × (Qj UN Int)) => (⟨[(2, .v (.one (.ptr 1 0))), (3, .v (.one (Uv 0)))], [(0, .cells 48 (Qa a0)), (1, .cells 72 [Ux 4 y1.1, .mp 2]), (2, .mp (QT y1.2.1) y1.2.2)], [(4, some ⟨54, 1, (Enc.encL y1.1).length, []⟩)], 5, 88, []⟩ : St)) (Sum.elim (fun (y2 : Unit) => (⟨[(2, .v (.one (.ptr 1 0))), (3, .v (.one (Uv 8)))], [(0, .cells 48 (Qa a0)), (1, .cells 72 [Uu, .d (.v (.map none))])], [], 5, 88, []⟩ : St)) (fun (y3 : Unit) => (⟨[(2, .v (.one (.ptr 1 0))), (3, .v (.one (Uv 9)))], [(0, .cells 48 (Qa a0)), (1, .cells 72 [Uu, .d (.v (.map none))])], [], 7, 88, []⟩ : St))))) ((Sum.elim (fun (y1 : (List (List Int)) × (Qj UN Int)) => ([.agg [Ux 4 y1.1, .mp 2], .one (Uv 0)] : List AV)) (Sum.elim (fun (y2 : Unit) => ([.agg [Uu, .d (.v (.map none))], .one (Uv 8)] : List AV)) (fun (y3 : Unit) => ([.agg [Uu, .d (.v (.map none))], .one (Uv 9)] : List AV))))) rfl rfl W5 (Ug rfl) (fun z_ => by cases z_ with
    | inl _ => rfl
    | inr z_ => exact (by cases z_ <;> rfl)) (fun z_ => by cases z_ with
    | inl _ => exact (Yo Jq rfl rfl rfl rfl (Qk rfl .nil))
    | inr z_ => exact (by cases z_ with
    | inl _ => exact (Yo Jq rfl rfl rfl rfl (Qk rfl .nil))
    | inr _ => exact (Yo Jq rfl rfl rfl rfl (Qk rfl .nil)))) (fun w0 M V0 Q hv1 hQ1 => ?_)
  simp only [J8]
  refine Q2 <| Q0 <| Q9 rfl rfl (Ug rfl) (QC Zw rfl) <| U7 rfl rfl rfl <| Q3 <| Q1 <| Q2 <| Q0 <| Q9 rfl rfl (Ug rfl) (Yl UN Int) <| U5 rfl rfl rfl (ZQ K5 rfl rfl rfl) <| Q9 rfl rfl (Ug rfl) (QC Zw rfl) <| QL rfl rfl (Qw Jq rfl rfl rfl rfl (Ug rfl) rfl) <| Q3 <| Q1 ?_
  refine Q2 <| Q2 <| Q0 <| U6 rfl rfl rfl <| U5 rfl rfl rfl (Yc Jm rfl) <| U6 rfl rfl rfl <| Q3 <| Q1 <| Qc ?_
  refine QF 0 (fun (o6 : (Qj UN Int)) => ⟨[(0, .v (.one (.osl 0 0 nn nn))), (2, .v (.one (.ptr 1 0))), (4, .v (.one (.ptr 3 0)))], [(0, .cells 48 (Qa a0)), (1, .cells 72 [Uu, .d (.v (.map none))]), (2, .mp (QT o6.1) o6.2), (3, .cells 72 [Uu, .mp 2])], [], 4, 88, []⟩) (fun (o6 : (Qj UN Int)) => (Option.bind (Qv (m22o_l3 nn a0 o6) QH (0, ([] : List (List Int)))) (Sum.elim (fun (o7 : (List (List Int))) => some (.inl (o7, o6))) (fun o => some o))) = some y5) ?_ ?_
  refine Qb h1 (fun o7 hl2 h1 => ?_)
  refine QE (m22o_l1 nn a0) (fun s2 => ⟨[(0, .v (.one (.osl 0 0 nn nn))), (2, .v (.one (.ptr 1 0))), (4, .v (.one (.ptr 3 0))), (20, .v (.one (.osl 0 0 nn nn))), (21, .v (.one (Uv ((nn : Nat) : Int)))), (22, .v (.one (Uv s2.1)))], [(0, .cells 48 (Qa a0)), (1, .cells 72 [Uu, .d (.v (.map none))]), (2, .mp (QT s2.2.1) s2.2.2), (3, .cells 72 [Uu, .mp 2])], [], 4, 88, []⟩) (0, gmNil) o7 (Qf (U1 rfl (U1 rfl (U1 rfl (U1 rfl (U1 rfl (U1 rfl U0)))))) (Um rfl (Um rfl (Um rfl (Um rfl Ul)))) Uh rfl (Nat.le_trans hv1 (Ug rfl)) rfl rfl rfl (UD rfl (UE rfl rfl (UC rfl (UE rfl rfl UB)))) rfl rfl) hl2 (fun s2 n2 oo2 h2 ho2 => ?_)
  unfold m22o_l1 at h2
  refine Q2 <| Q0 <| U5 rfl rfl rfl (Q5 rfl rfl rfl) <| Q3 <| Q1 <| Q2 ?_
  refine Qe (b := (decide (s2.1 < ((nn : Nat) : Int)))) rfl (fun c8 => ?_) (fun c8 => ?_)
  replace h2 := Qm c8 h2
  refine Qg <| Q1 <| Q2 <| Qc <| Q2 <| Q0 <| U6 rfl rfl rfl ?_
  refine Qb h2 (fun x9 hx9 h2 => ?_)
  refine QQ h2 (fun g10 h2 => ?_)
  refine U5 rfl rfl rfl (Ju (α := Dcl) Jm rfl rfl hx9 g10) <| U5 rfl rfl rfl (YB (α := Dcl) (ys := [Uv x9.kind, YZ x9.name, Uv x9.params, Uv x9.ty.kind, Uv x9.ty.index, YZ x9.ty.name, Ut x9.ty.levels, Ut x9.ty.kids, Uv x9.value.kind, Uv x9.value.index, YZ x9.value.name, Ut x9.value.levels, Ut x9.value.kids, Uv x9.fixed, Ut x9.ctors, Uv x9.rcr.params, Uv x9.rcr.ty.kind, Uv x9.rcr.ty.index, YZ x9.rcr.ty.name, Ut x9.rcr.ty.levels, Ut x9.rcr.ty.kids, Ut x9.rcr.rules, Ut x9.funs]) Jt rfl rfl hx9 rfl) <| Q9 rfl rfl (Ug rfl) (QC KJ rfl) <| U7 rfl rfl rfl <| QL rfl rfl (Jo (x9 : Dcl) Jt rfl rfl rfl rfl rfl) <| Q3 <| Q1 <| Q2 <| Q0 <| U5 rfl rfl rfl (JQ (x9 : Dcl) Jt rfl rfl) ?_
  refine Qb h2 (fun x11 hx11 h2 => ?_)
  refine Q9 rfl rfl (Ug rfl) (Ql (Gx x9 x11 hx11) rfl (.cons (.agg (.cons (.d _) (.cons (.d _) (.cons (.d _) (.cons (.d _) (.cons (.d _) (.cons (.d _) (.cons (.d _) (.cons (.d _) (.cons (.d _) (.cons (.d _) (.cons (.d _) (.cons (.d _) (.cons (.d _) (.cons (.d _) (.cons (.d _) (.cons (.d _) (.cons (.d _) (.cons (.d _) (.cons (.d _) (.cons (.d _) (.cons (.d _) (.cons (.d _) (.cons (.d _) .nil)))))))))))))))))))))))) .nil)) <| U5 rfl rfl rfl (QB (α := UN) QU rfl (.d _)) <| U6 rfl rfl rfl <| Q3 <| Q1 <| Qc ?_
  refine QF 2 (fun (o12 : (Qj UN Int)) => ⟨[(0, .v (.one (.osl 0 0 nn nn))), (2, .v (.one (.ptr 1 0))), (4, .v (.one (.ptr 3 0))), (20, .v (.one (.osl 0 0 nn nn))), (21, .v (.one (Uv ((nn : Nat) : Int)))), (22, .v (.one (Uv s2.1)))], [(0, .cells 48 (Qa a0)), (1, .cells 72 [Uu, .d (.v (.map none))]), (2, .mp (QT o12.1) o12.2), (3, .cells 72 [Uu, .mp 2]), (4, .cells 48 (Uy x9))], [], 5, 88, []⟩) (fun (o12 : (Qj UN Int)) => (some (.next ((J1 (s2.1 + 1)), o12))) = some oo2) ?_ ?_
  refine Qb h2 (fun o13 hl3 h2 => ?_)
  refine QE (m22o_l0 x11 s2) (fun s3 => ⟨[(0, .v (.one (.osl 0 0 nn nn))), (2, .v (.one (.ptr 1 0))), (4, .v (.one (.ptr 3 0))), (5, .v (.one (Uv s2.1))), (20, .v (.one (.osl 0 0 nn nn))), (21, .v (.one (Uv ((nn : Nat) : Int)))), (22, .v (.one (Uv s2.1))), (28, .v (.one (Ut x11))), (29, .v (.one (Uv (x11.length : Int)))), (30, .v (.one (Uv s3.1)))], [(0, .cells 48 (Qa a0)), (1, .cells 72 [Uu, .d (.v (.map none))]), (2, .mp (QT s3.2.1) s3.2.2), (3, .cells 72 [Uu, .mp 2]), (4, .cells 48 (Uy x9))], [], 5, 88, []⟩) (0, s2.2) o13 (Qf (U1 rfl (U1 rfl (U1 rfl (U1 rfl (U1 rfl (U1 rfl (U1 rfl (U1 rfl (U1 rfl (U1 rfl U0)))))))))) (Um rfl (Um rfl (Um rfl (Um rfl (Um rfl Ul))))) Uh rfl (Nat.le_trans hv1 (Ug rfl)) rfl rfl rfl (UD rfl (UE rfl rfl (UC rfl (UE rfl rfl (UE rfl rfl UB))))) rfl rfl) hl3 (fun s3 n3 oo3 h3 ho3 => ?_)
  unfold m22o_l0 at h3
  refine Q2 <| Q0 <| U5 rfl rfl rfl (Q5 rfl rfl rfl) <| Q3 <| Q1 <| Q2 ?_
  refine Qe (b := (decide (s3.1 < (x11.length : Int)))) rfl (fun c14 => ?_) (fun c14 => ?_)
  replace h3 := Qm c14 h3
  refine Qg <| Q1 <| Q2 <| Qc <| Q2 <| Q0 ?_
  refine Qb h3 (fun x15 hx15 h3 => ?_)
  refine U5 rfl rfl rfl (Qi (α := UN) QU rfl (.d _) rfl hx15) <| U5 rfl rfl rfl (QI JG rfl rfl) <| U7 rfl rfl rfl <| Q3 <| Q1 <| Q2 <| Q2 <| Q0 <| U5 rfl rfl rfl (Q4 Y9 rfl) <| U5 rfl rfl rfl (Q7 Zc rfl rfl rfl) <| U6 rfl rfl rfl <| U5 rfl rfl rfl (JI (M := s3.2) (k := x15) Zb YG rfl rfl rfl) <| U6 rfl rfl rfl <| U5 rfl rfl rfl (Qp rfl rfl) ?_
  refine U5 rfl rfl rfl (Qp rfl rfl) <| U7 rfl rfl rfl <| U7 rfl rfl rfl <| Q3 <| Q1 <| Q2 <| Q0 <| U6 rfl rfl rfl <| Q3 <| Q1 ?_
  refine Qe (b := (Jz s3.2 x15)) rfl (fun c16 => ?_) (fun c16 => ?_)
  replace h3 := Qm c16 h3
  refine Q2 <| Q0 <| U5 rfl rfl rfl (Ys K5 rfl ) <| QL rfl rfl (Qw Jq rfl rfl rfl rfl (Ug rfl) rfl) <| U7 rfl rfl rfl <| Q3 <| Q1 <| Qz ?_
  have e := U3 h3; subst e
  have e_ : _ = _ := ho3
  subst e_
  try dsimp only [Sum.elim_inl, Sum.elim_inr] at h2
  have e := U3 h2; subst e
  have e_ : _ = _ := ho2
  subst e_
  try dsimp only [Sum.elim_inl, Sum.elim_inr] at h1
  have e := U3 h1; subst e
  exact hQ1 _ _ _ (.inr rfl) rfl (show StLe _ _ ⟨[(2, .v (.one (.ptr 1 0))), (3, .v (.one (Uv 8)))], [(0, .cells 48 (Qa a0)), (1, .cells 72 [Uu, .d (.v (.map none))])], [], 5, 88, []⟩ from (Qf (U1 rfl (U1 rfl U0)) (Um rfl (Um rfl Ul)) Uh rfl (Nat.le_trans hv1 (Ug rfl)) rfl rfl rfl (UD rfl (UE rfl rfl UB)) rfl rfl))
  replace h3 := Qn c16 h3
  refine Qg <| Q1 <| Q0 <| U5 rfl rfl rfl (Q4 Y9 rfl) <| U5 rfl rfl rfl (Q7 Zc rfl rfl rfl) <| U6 rfl rfl rfl <| U6 rfl rfl rfl <| QL rfl rfl (JW (M := s3.2) (k := x15) (v := s2.1) Zb rfl rfl rfl rfl rfl) <| Q3 <| Qh <| Q1 <| Q0 <| U5 rfl rfl rfl (Q5 rfl rfl rfl) <| U6 rfl rfl rfl ?_
  refine Q3 ?_
  have e := U3 h3; subst e
  refine QA ((J1 (s3.1 + 1)), (Y5 s3.2 x15 s2.1)) (Qf (U1 rfl (U1 rfl (U1 rfl (U1 rfl (U1 rfl (U1 rfl (U1 rfl (U1 rfl (U1 rfl (U1 rfl U0)))))))))) (Um rfl (Um rfl (Um rfl (Um rfl (Um rfl Ul))))) Uh rfl (Nat.le_trans hv1 (Ug rfl)) rfl rfl rfl (UD rfl (UE rfl rfl (UC rfl (UE rfl rfl (UE rfl rfl UB))))) rfl rfl) ho3
  replace h3 := Qn c14 h3
  refine QJ <| Qd <| Qd ?_
  have e := U3 h3; subst e
  have e_ : _ = _ := ho3
  subst e_
  exact QD s3.2 (Qf (U1 rfl (U1 rfl (U1 rfl (U1 rfl (U1 rfl (U1 rfl U0)))))) (Um rfl (Um rfl (Um rfl (Um rfl (Um rfl Ul))))) Uh rfl (Nat.le_trans hv1 (Ug rfl)) rfl rfl rfl (UD rfl (UE rfl rfl (UC rfl (UE rfl rfl (UE rfl rfl UB))))) rfl rfl) h2
  intro o12 h2
  refine Qu <| Qh <| Q1 <| Q0 <| U5 rfl rfl rfl (Q5 rfl rfl rfl) <| U6 rfl rfl rfl <| Q3 ?_
  have e := U3 h2; subst e
  refine QA ((J1 (s2.1 + 1)), o12) (Qf (U1 rfl (U1 rfl (U1 rfl (U1 rfl (U1 rfl (U1 rfl U0)))))) (Um rfl (Um rfl (Um rfl (Um rfl Ul)))) Uh rfl (Nat.le_trans hv1 (Ug rfl)) rfl rfl rfl (UD rfl (UE rfl rfl (UC rfl (UE rfl rfl UB)))) rfl rfl) ho2
  replace h2 := Qn c8 h2
  refine QJ <| Qd <| Qd ?_
  have e := U3 h2; subst e
  have e_ : _ = _ := ho2
  subst e_
  exact QD s2.2 (Qf (U1 rfl (U1 rfl (U1 rfl U0))) (Um rfl (Um rfl (Um rfl (Um rfl Ul)))) Uh rfl (Nat.le_trans hv1 (Ug rfl)) rfl rfl rfl (UD rfl (UE rfl rfl (UC rfl (UE rfl rfl UB)))) rfl rfl) h1
  intro o6 h1
  refine Qu <| Q1 <| Q2 <| Q2 <| Q0 <| U6 rfl rfl rfl <| U5 rfl rfl rfl (Yc Jm rfl) <| U6 rfl rfl rfl <| Q3 <| Q1 <| Qc ?_
  refine QF 4 (fun (o17 : (List (List Int))) => ⟨[(2, .v (.one (.ptr 1 0))), (4, .v (.one (.ptr 3 0)))], [(0, .cells 48 (Qa a0)), (1, .cells 72 [Uu, .d (.v (.map none))]), (2, .mp (QT o6.1) o6.2), (3, .cells 72 [Ux 4 o17, .mp 2])], [(4, some ⟨54, 1, (Enc.encL o17).length, []⟩)], 5, 88, []⟩) (fun (o17 : (List (List Int))) => (some (.inl (o17, o6))) = some y5) ?_ ?_
  refine Zj (i := 3) (off := 0) 54 1 rfl rfl ?_
  refine Qb h1 (fun o18 hl2 h1 => ?_)
  refine QE (m22o_l3 nn a0 o6) (fun s2 => ⟨[(2, .v (.one (.ptr 1 0))), (4, .v (.one (.ptr 3 0))), (49, .v (.one (.osl 0 0 nn nn))), (50, .v (.one (Uv ((nn : Nat) : Int)))), (51, .v (.one (Uv s2.1)))], [(0, .cells 48 (Qa a0)), (1, .cells 72 [Uu, .d (.v (.map none))]), (2, .mp (QT o6.1) o6.2), (3, .cells 72 [Ux 4 s2.2, .mp 2])], [(4, some ⟨54, 1, (Enc.encL s2.2).length, []⟩)], 5, 88, []⟩) (0, ([] : List (List Int))) o18 (Qf (U1 rfl (U1 rfl (U1 rfl (U1 rfl (U1 rfl U0))))) (Um rfl (Um rfl (Um rfl (Um rfl Ul)))) (Ui rfl Uh) rfl (Nat.le_trans hv1 (Ug rfl)) rfl rfl rfl (UD rfl (UE rfl rfl (UC rfl (UE rfl rfl UB)))) rfl rfl) hl2 (fun s2 n2 oo2 h2 ho2 => ?_)
  unfold m22o_l3 at h2
  refine Q2 <| Q0 <| U5 rfl rfl rfl (Q5 rfl rfl rfl) <| Q3 <| Q1 <| Q2 ?_
  refine Qe (b := (decide (s2.1 < ((nn : Nat) : Int)))) rfl (fun c19 => ?_) (fun c19 => ?_)
  replace h2 := Qm c19 h2
  refine Qg <| Q1 <| Q2 <| Qc <| Q2 <| Q0 ?_
  refine Qb h2 (fun x20 hx20 h2 => ?_)
  refine QQ h2 (fun g21 h2 => ?_)
  refine U5 rfl rfl rfl (Ju (α := Dcl) Jm rfl rfl hx20 g21) <| U5 rfl rfl rfl (YB (α := Dcl) (ys := [Uv x20.kind, YZ x20.name, Uv x20.params, Uv x20.ty.kind, Uv x20.ty.index, YZ x20.ty.name, Ut x20.ty.levels, Ut x20.ty.kids, Uv x20.value.kind, Uv x20.value.index, YZ x20.value.name, Ut x20.value.levels, Ut x20.value.kids, Uv x20.fixed, Ut x20.ctors, Uv x20.rcr.params, Uv x20.rcr.ty.kind, Uv x20.rcr.ty.index, YZ x20.rcr.ty.name, Ut x20.rcr.ty.levels, Ut x20.rcr.ty.kids, Ut x20.rcr.rules, Ut x20.funs]) Jt rfl rfl hx20 rfl) <| Q9 rfl rfl (Ug rfl) (QC KJ rfl) <| QL rfl rfl (Jo (x20 : Dcl) Jt rfl rfl rfl rfl rfl) <| Q3 <| Q1 <| Q2 <| Q0 <| U7 rfl rfl rfl <| Q3 <| Q1 <| Q2 <| Q2 <| Q0 ?_
  refine U5 rfl rfl rfl (JQ (x20 : Dcl) Jt rfl rfl) ?_
  refine Qb h2 (fun x22 hx22 h2 => ?_)
  refine Q9 rfl rfl (Ug rfl) (Ql (XD x20 x22 hx22) rfl (.cons (.agg (.cons (.d _) (.cons (.d _) (.cons (.d _) (.cons (.d _) (.cons (.d _) (.cons (.d _) (.cons (.d _) (.cons (.d _) (.cons (.d _) (.cons (.d _) (.cons (.d _) (.cons (.d _) (.cons (.d _) (.cons (.d _) (.cons (.d _) (.cons (.d _) (.cons (.d _) (.cons (.d _) (.cons (.d _) (.cons (.d _) (.cons (.d _) (.cons (.d _) (.cons (.d _) .nil)))))))))))))))))))))))) .nil)) <| U5 rfl rfl rfl (QB (α := UN) QU rfl (.d _)) <| U6 rfl rfl rfl <| Q3 <| Q1 <| Qc ?_
  refine QF 6 (fun (o23 : (List Int)) => ⟨[(2, .v (.one (.ptr 1 0))), (4, .v (.one (.ptr 3 0))), (13, .v (.one (.apv 6 1 ((Enc.encL o23).length) []))), (49, .v (.one (.osl 0 0 nn nn))), (50, .v (.one (Uv ((nn : Nat) : Int)))), (51, .v (.one (Uv s2.1)))], [(0, .cells 48 (Qa a0)), (1, .cells 72 [Uu, .d (.v (.map none))]), (2, .mp (QT o6.1) o6.2), (3, .cells 72 [Ux 4 s2.2, .mp 2]), (5, .cells 48 (Uy x20))], [(4, some ⟨54, 1, (Enc.encL s2.2).length, []⟩), (6, some ⟨3, 1, (Enc.encL o23).length, (Enc.encL o23).flatten⟩)], 7, 88, []⟩) (fun (o23 : (List Int)) => (Option.bind (ZA o23) fun (x24 : List Int) =>
    Option.bind (Y2 x24 ((Enc.encL o23).length)) fun (x25 : List Int) =>
    Qt (Nat.ble (s2.2.length + ([x25]).length) 1000000000)
    (some (.next ((J1 (s2.1 + 1)), (s2.2 ++ ([x25])))))) = some oo2) ?_ ?_
  refine JD (t := 13) 3 1 rfl <| Kt (α := Int) (t := 13) rfl rfl ?_
  refine Qb h2 (fun o24 hl3 h2 => ?_)
  refine QE (m22o_l2 x22 o6) (fun s3 => ⟨[(2, .v (.one (.ptr 1 0))), (4, .v (.one (.ptr 3 0))), (13, .v (.one (.apv 6 1 ((Enc.encL s3.1).length) []))), (49, .v (.one (.osl 0 0 nn nn))), (50, .v (.one (Uv ((nn : Nat) : Int)))), (51, .v (.one (Uv s2.1))), (56, .v (.one (Ut x22))), (57, .v (.one (Uv (x22.length : Int)))), (58, .v (.one (Uv s3.2)))], [(0, .cells 48 (Qa a0)), (1, .cells 72 [Uu, .d (.v (.map none))]), (2, .mp (QT o6.1) o6.2), (3, .cells 72 [Ux 4 s2.2, .mp 2]), (5, .cells 48 (Uy x20))], [(4, some ⟨54, 1, (Enc.encL s2.2).length, []⟩), (6, some ⟨3, 1, (Enc.encL s3.1).length, (Enc.encL s3.1).flatten⟩)], 7, 88, []⟩) (([] : List Int), 0) o24 (Qf (U1 rfl (U1 rfl (U1 rfl (U1 rfl (U1 rfl (U1 rfl (U1 rfl (U1 rfl (U1 rfl U0))))))))) (Um rfl (Um rfl (Um rfl (Um rfl (Um rfl Ul))))) (Ui rfl (Ui rfl Uh)) rfl (Nat.le_trans hv1 (Ug rfl)) rfl rfl rfl (UD rfl (UE rfl rfl (UC rfl (UE rfl rfl (UE rfl rfl UB))))) rfl rfl) hl3 (fun s3 n3 oo3 h3 ho3 => ?_)
  unfold m22o_l2 at h3
  refine Q2 <| Q0 <| U5 rfl rfl rfl (Q5 rfl rfl rfl) <| Q3 <| Q1 <| Q2 ?_
  refine Qe (b := (decide (s3.2 < (x22.length : Int)))) rfl (fun c25 => ?_) (fun c25 => ?_)
  replace h3 := Qm c25 h3
  refine Qg <| Q1 <| Q2 <| Qc <| Q2 <| Q0 ?_
  refine Qb h3 (fun x26 hx26 h3 => ?_)
  refine U5 rfl rfl rfl (Qi (α := UN) QU rfl (.d _) rfl hx26) <| U5 rfl rfl rfl (QI JG rfl rfl) <| U7 rfl rfl rfl <| Q3 <| Q1 <| Q2 <| Q0 <| U5 rfl rfl rfl (Q4 Y9 rfl) <| U5 rfl rfl rfl (Q7 Zc rfl rfl rfl) <| U6 rfl rfl rfl <| U5 rfl rfl rfl (JI (M := o6) (k := x26) Zb YG rfl rfl rfl) <| U6 rfl rfl rfl <| U5 rfl rfl rfl (Qp rfl rfl) <| U5 rfl rfl rfl (Qp rfl rfl) ?_
  refine U7 rfl rfl rfl <| U7 rfl rfl rfl <| Q3 <| Q1 <| Q2 <| Q2 <| Q0 <| U6 rfl rfl rfl <| U5 rfl rfl rfl (J9 rfl) <| Q3 <| Q1 ?_
  refine Qe (b := (!(Jz o6 x26))) rfl (fun c27 => ?_) (fun c27 => ?_)
  replace h3 := Qm c27 h3
  refine Q2 <| Q0 <| U5 rfl rfl rfl (Ys K5 rfl ) <| QL rfl rfl (Qw Jq rfl rfl rfl rfl (Ug rfl) rfl) <| U7 rfl rfl rfl <| Q3 <| Q1 <| Qz ?_
  have e := U3 h3; subst e
  have e_ : _ = _ := ho3
  subst e_
  try dsimp only [Sum.elim_inl, Sum.elim_inr] at h2
  have e := U3 h2; subst e
  have e_ : _ = _ := ho2
  subst e_
  try dsimp only [Sum.elim_inl, Sum.elim_inr] at h1
  have e := U3 h1; subst e
  exact hQ1 _ _ _ (.inr rfl) rfl (show StLe _ _ ⟨[(2, .v (.one (.ptr 1 0))), (3, .v (.one (Uv 9)))], [(0, .cells 48 (Qa a0)), (1, .cells 72 [Uu, .d (.v (.map none))])], [], 7, 88, []⟩ from (Qf (U1 rfl (U1 rfl U0)) (Um rfl (Um rfl Ul)) Uh rfl (Nat.le_trans hv1 (Ug rfl)) rfl rfl rfl (UD rfl (UE rfl rfl UB)) rfl rfl))
  replace h3 := Qn c27 h3
  refine Qg <| Q1 <| Q0 <| U6 rfl rfl rfl <| U6 rfl rfl rfl <| Q9 rfl rfl (Ug rfl) (QZ (α := Int) ((Jl o6 x26)) JM Wg rfl rfl (Ug rfl) (Ug rfl) rfl rfl (.cons (.d _) .nil) rfl) ?_
  refine QQ h3 (fun g28 h3 => ?_)
  refine Q9 rfl rfl (Ug rfl) (YC (α := Int) (l := s3.1) (l2 := ([(Jl o6 x26)] : List Int)) JM XY rfl rfl rfl rfl (.app _ _) rfl g28) <| U7 rfl rfl rfl <| Q3 <| Qh <| Q1 <| Q0 <| U5 rfl rfl rfl (Q5 rfl rfl rfl) <| U6 rfl rfl rfl <| Q3 ?_
  have e := U3 h3; subst e
  refine QA ((s3.1 ++ ([(Jl o6 x26)])), (J1 (s3.2 + 1))) (Qf (U1 rfl (U1 rfl (U1 rfl (U1 rfl (U1 rfl (U1 rfl (U1 rfl (U1 rfl (U1 rfl U0))))))))) (Um rfl (Um rfl (Um rfl (Um rfl (Um rfl Ul))))) (Ui rfl (Ui rfl Uh)) rfl (Nat.le_trans hv1 (Ug rfl)) rfl rfl rfl (UD rfl (UE rfl rfl (UC rfl (UE rfl rfl (UE rfl rfl UB))))) rfl rfl) ho3
  replace h3 := Qn c25 h3
  refine QJ <| Qd <| Qd ?_
  have e := U3 h3; subst e
  have e_ : _ = _ := ho3
  subst e_
  exact QD s3.1 (Qf (U1 rfl (U1 rfl (U1 rfl (U1 rfl (U1 rfl (U1 rfl U0)))))) (Um rfl (Um rfl (Um rfl (Um rfl (Um rfl Ul))))) (Ui rfl (Ui rfl Uh)) rfl (Nat.le_trans hv1 (Ug rfl)) rfl rfl rfl (UD rfl (UE rfl rfl (UC rfl (UE rfl rfl (UE rfl rfl UB))))) rfl rfl) h2
  intro o23 h2
  refine Qu <| Q1 <| Q2 <| Q0 <| U6 rfl rfl rfl ?_
  refine Qb h2 (fun x29 hx29 h2 => ?_)
  refine Q9 rfl rfl (Ug rfl) (QW (hp1' := []) (tk1' := [(6, some ⟨3, 1, (Enc.encL o23).length, (Enc.encL x29).flatten⟩)]) (hpF := [(0, .cells 48 (Qa a0)), (1, .cells 72 [Uu, .d (.v (.map none))]), (2, .mp (QT o6.1) o6.2), (3, .cells 72 [Ux 4 s2.2, .mp 2]), (5, .cells 48 (Uy x20))]) (tkF := [(4, some ⟨54, 1, (Enc.encL s2.2).length, []⟩)]) (res2 := Qy []) (nx2 := 7) [6] rfl rfl (KL o23 x29 hx29) rfl rfl U8 rfl rfl Uo (Uk rfl Uj) (Um rfl (Um rfl (Um rfl (Um rfl (Um rfl Ul))))) (Ui rfl Uh) rfl rfl rfl rfl rfl UB rfl rfl rfl rfl) <| Q3 <| Q1 ?_
  refine JO [3, 5, 7] [(0, 1), (1, 1)] mixed (by kernel_rfl) (by kernel_rfl) (by kernel_rfl) ?_
  refine RunA.rd rfl rfl rfl (Q6 (Q4 JP rfl)) rfl <| RunA.rd rfl rfl rfl (Q6 (Q7 Yr rfl rfl rfl)) rfl <| RunA.rd rfl rfl rfl (Q6 (J0 rfl)) rfl ?_
  refine Qb h2 (fun x30 hx30 h2 => ?_)
  refine RunA.eff rfl rfl rfl (QW (hp1' := []) (tk1' := [(7, some ⟨3, 1, (Enc.encL x30).length, []⟩)]) (hpF := [(0, .cells 48 (Qa a0)), (1, .cells 72 [Uu, .d (.v (.map none))]), (2, .mp (QT o6.1) o6.2), (3, .cells 72 [Ux 4 s2.2, .mp 2]), (5, .cells 48 (Uy x20))]) (tkF := [(4, some ⟨54, 1, (Enc.encL s2.2).length, []⟩)]) (res2 := Qy [.one (Ux 7 x30)]) (nx2 := 8) [6] rfl rfl (Zs x29 ((Enc.encL o23).length) x30 hx30) rfl rfl U8 rfl rfl Uo (Uk rfl Uj) (Um rfl (Um rfl (Um rfl (Um rfl (Um rfl Ul))))) (Ui rfl Uh) rfl rfl rfl rfl rfl UB rfl rfl rfl rfl) rfl <| RunA.rd rfl rfl rfl (Yi (α := List Int) (x30) Y1 Wa rfl rfl (Ug rfl) rfl rfl (.cons (.app _ _ _) .nil) rfl) rfl ?_
  refine QQ h2 (fun g31 h2 => ?_)
  refine RunA.eff rfl rfl rfl (QO (α := List Int) Y1 XM rfl rfl rfl rfl rfl (.d _) g31) rfl <| RunA.rd rfl rfl rfl (Q6 (Q4 JP rfl)) rfl <| RunA.eff rfl rfl rfl (Qw Yr rfl rfl rfl rfl (Ug rfl) rfl) rfl ?_
  refine RunA.nil ⟨?ex, _, _, rfl, ?_⟩
  case ex => exact ⟨⟨_, rfl, _, _, rfl, rfl, rfl, .inl ⟨rfl, _, Q6 (Q4 JP rfl), rfl⟩⟩, ⟨_, rfl, _, _, rfl, rfl, rfl, .inl ⟨rfl, _, Q6 (Q7 Yr rfl rfl rfl), rfl⟩⟩, trivial⟩
  refine JV (st' := ⟨[(2, .v (.one (.ptr 1 0))), (4, .v (.one (.ptr 3 0))), (49, .v (.one (.osl 0 0 nn nn))), (50, .v (.one (Uv ((nn : Nat) : Int)))), (51, .v (.one (Uv s2.1)))], [(0, .cells 48 (Qa a0)), (1, .cells 72 [Uu, .d (.v (.map none))]), (2, .mp (QT o6.1) o6.2), (3, .cells 72 [Ux 4 ((s2.2 ++ ([x30])) : List (List Int)), .mp 2]), (5, .cells 48 (Uy x20))], [(4, some ⟨54, 1, (Enc.encL ((s2.2 ++ ([x30])) : List (List Int))).length, []⟩), (7, some ⟨3, 1, (Enc.encL x30).length, []⟩)], 8, 88, []⟩) (Qf (U1 rfl (U1 rfl (U1 rfl (U1 rfl (U1 rfl U0))))) (Um rfl (Um rfl (Um rfl (Um rfl (Um rfl Ul))))) (Ui rfl (Ui rfl Uh)) rfl (Nat.le_trans hv1 (Ug rfl)) rfl rfl rfl (UD rfl (UE rfl rfl (UC rfl (UE rfl rfl (UE rfl rfl UB))))) rfl rfl) <| Qh <| Q1 <| Q0 <| U5 rfl rfl rfl (Q5 rfl rfl rfl) <| U6 rfl rfl rfl <| Q3 ?_
  have e := U3 h2; subst e
  refine QA ((J1 (s2.1 + 1)), (s2.2 ++ ([x30]))) (Qf (U1 rfl (U1 rfl (U1 rfl (U1 rfl (U1 rfl U0))))) (Um rfl (Um rfl (Um rfl (Um rfl Ul)))) (Ui rfl Uh) rfl (Nat.le_trans hv1 (Ug rfl)) rfl rfl rfl (UD rfl (UE rfl rfl (UC rfl (UE rfl rfl UB)))) rfl rfl) ho2
  replace h2 := Qn c19 h2
  refine QJ <| Qd <| Qd ?_
  have e := U3 h2; subst e
  have e_ : _ = _ := ho2
  subst e_
  exact QD s2.2 (Qf (U1 rfl (U1 rfl U0)) (Um rfl (Um rfl (Um rfl (Um rfl Ul)))) (Ui rfl Uh) rfl (Nat.le_trans hv1 (Ug rfl)) rfl rfl rfl (UD rfl (UE rfl rfl (UC rfl (UE rfl rfl UB)))) rfl rfl) h1
  intro o17 h1
  refine Qu <| Q1 <| Q2 <| Q0 <| U5 rfl rfl rfl (Qq Jq rfl rfl rfl rfl) <| QL rfl rfl (Qw Jq rfl rfl rfl rfl (Ug rfl) rfl) <| U7 rfl rfl rfl <| Q3 <| Q1 <| Qz ?_
  have e := U3 h1; subst e
  exact hQ1 _ _ _ (.inr rfl) rfl (show StLe _ _ ⟨[(2, .v (.one (.ptr 1 0))), (3, .v (.one (Uv 0)))], [(0, .cells 48 (Qa a0)), (1, .cells 72 [Ux 4 o17, .mp 2]), (2, .mp (QT o6.1) o6.2)], [(4, some ⟨54, 1, (Enc.encL o17).length, []⟩)], 5, 88, []⟩ from (Qf (U1 rfl (U1 rfl U0)) (Um rfl (Um rfl (Um rfl Ul))) (Ui rfl Uh) rfl (Nat.le_trans hv1 (Ug rfl)) rfl rfl rfl (UD rfl (UE rfl rfl (UC rfl UB))) rfl rfl))
 refine GK (C := fun q_ => CallM Try.prog 34 [.one (.osl 0 0 nn nn)] ⟨[(0, .cells 48 (Qa a0))], [], 1⟩ (Qy (((Sum.elim (fun (y1 : (List (List Int)) × (Qj UN Int)) => ([.agg [Ux 4 y1.1, .mp 2], .one (Uv 0)] : List AV)) (Sum.elim (fun (y2 : Unit) => ([.agg [Uu, .d (.v (.map none))], .one (Uv 8)] : List AV)) (fun (y3 : Unit) => ([.agg [Uu, .d (.v (.map none))], .one (Uv 9)] : List AV))))) q_)) ⟨(((Sum.elim (fun (y1 : (List (List Int)) × (Qj UN Int)) => (⟨[(2, .v (.one (.ptr 1 0))), (3, .v (.one (Uv 0)))], [(0, .cells 48 (Qa a0)), (1, .cells 72 [Ux 4 y1.1, .mp 2]), (2, .mp (QT y1.2.1) y1.2.2)], [(4, some ⟨54, 1, (Enc.encL y1.1).length, []⟩)], 5, 88, []⟩ : St)) (Sum.elim (fun (y2 : Unit) => (⟨[(2, .v (.one (.ptr 1 0))), (3, .v (.one (Uv 8)))], [(0, .cells 48 (Qa a0)), (1, .cells 72 [Uu, .d (.v (.map none))])], [], 5, 88, []⟩ : St)) (fun (y3 : Unit) => (⟨[(2, .v (.one (.ptr 1 0))), (3, .v (.one (Uv 9)))], [(0, .cells 48 (Qa a0)), (1, .cells 72 [Uu, .d (.v (.map none))])], [], 7, 88, []⟩ : St))))) q_).hp, (((Sum.elim (fun (y1 : (List (List Int)) × (Qj UN Int)) => (⟨[(2, .v (.one (.ptr 1 0))), (3, .v (.one (Uv 0)))], [(0, .cells 48 (Qa a0)), (1, .cells 72 [Ux 4 y1.1, .mp 2]), (2, .mp (QT y1.2.1) y1.2.2)], [(4, some ⟨54, 1, (Enc.encL y1.1).length, []⟩)], 5, 88, []⟩ : St)) (Sum.elim (fun (y2 : Unit) => (⟨[(2, .v (.one (.ptr 1 0))), (3, .v (.one (Uv 8)))], [(0, .cells 48 (Qa a0)), (1, .cells 72 [Uu, .d (.v (.map none))])], [], 5, 88, []⟩ : St)) (fun (y3 : Unit) => (⟨[(2, .v (.one (.ptr 1 0))), (3, .v (.one (Uv 9)))], [(0, .cells 48 (Qa a0)), (1, .cells 72 [Uu, .d (.v (.map none))])], [], 7, 88, []⟩ : St))))) q_).tk, (((Sum.elim (fun (y1 : (List (List Int)) × (Qj UN Int)) => (⟨[(2, .v (.one (.ptr 1 0))), (3, .v (.one (Uv 0)))], [(0, .cells 48 (Qa a0)), (1, .cells 72 [Ux 4 y1.1, .mp 2]), (2, .mp (QT y1.2.1) y1.2.2)], [(4, some ⟨54, 1, (Enc.encL y1.1).length, []⟩)], 5, 88, []⟩ : St)) (Sum.elim (fun (y2 : Unit) => (⟨[(2, .v (.one (.ptr 1 0))), (3, .v (.one (Uv 8)))], [(0, .cells 48 (Qa a0)), (1, .cells 72 [Uu, .d (.v (.map none))])], [], 5, 88, []⟩ : St)) (fun (y3 : Unit) => (⟨[(2, .v (.one (.ptr 1 0))), (3, .v (.one (Uv 9)))], [(0, .cells 48 (Qa a0)), (1, .cells 72 [Uu, .d (.v (.map none))])], [], 7, 88, []⟩ : St))))) q_).nx⟩) hc4 h0 (fun y1 hc4 h0 => ?_) (fun z_ hc4 h0 => GK (C := fun q_ => CallM Try.prog 34 [.one (.osl 0 0 nn nn)] ⟨[(0, .cells 48 (Qa a0))], [], 1⟩ (Qy (((Sum.elim (fun (y1 : (List (List Int)) × (Qj UN Int)) => ([.agg [Ux 4 y1.1, .mp 2], .one (Uv 0)] : List AV)) (Sum.elim (fun (y2 : Unit) => ([.agg [Uu, .d (.v (.map none))], .one (Uv 8)] : List AV)) (fun (y3 : Unit) => ([.agg [Uu, .d (.v (.map none))], .one (Uv 9)] : List AV))))) (.inr q_))) ⟨(((Sum.elim (fun (y1 : (List (List Int)) × (Qj UN Int)) => (⟨[(2, .v (.one (.ptr 1 0))), (3, .v (.one (Uv 0)))], [(0, .cells 48 (Qa a0)), (1, .cells 72 [Ux 4 y1.1, .mp 2]), (2, .mp (QT y1.2.1) y1.2.2)], [(4, some ⟨54, 1, (Enc.encL y1.1).length, []⟩)], 5, 88, []⟩ : St)) (Sum.elim (fun (y2 : Unit) => (⟨[(2, .v (.one (.ptr 1 0))), (3, .v (.one (Uv 8)))], [(0, .cells 48 (Qa a0)), (1, .cells 72 [Uu, .d (.v (.map none))])], [], 5, 88, []⟩ : St)) (fun (y3 : Unit) => (⟨[(2, .v (.one (.ptr 1 0))), (3, .v (.one (Uv 9)))], [(0, .cells 48 (Qa a0)), (1, .cells 72 [Uu, .d (.v (.map none))])], [], 7, 88, []⟩ : St))))) (.inr q_)).hp, (((Sum.elim (fun (y1 : (List (List Int)) × (Qj UN Int)) => (⟨[(2, .v (.one (.ptr 1 0))), (3, .v (.one (Uv 0)))], [(0, .cells 48 (Qa a0)), (1, .cells 72 [Ux 4 y1.1, .mp 2]), (2, .mp (QT y1.2.1) y1.2.2)], [(4, some ⟨54, 1, (Enc.encL y1.1).length, []⟩)], 5, 88, []⟩ : St)) (Sum.elim (fun (y2 : Unit) => (⟨[(2, .v (.one (.ptr 1 0))), (3, .v (.one (Uv 8)))], [(0, .cells 48 (Qa a0)), (1, .cells 72 [Uu, .d (.v (.map none))])], [], 5, 88, []⟩ : St)) (fun (y3 : Unit) => (⟨[(2, .v (.one (.ptr 1 0))), (3, .v (.one (Uv 9)))], [(0, .cells 48 (Qa a0)), (1, .cells 72 [Uu, .d (.v (.map none))])], [], 7, 88, []⟩ : St))))) (.inr q_)).tk, (((Sum.elim (fun (y1 : (List (List Int)) × (Qj UN Int)) => (⟨[(2, .v (.one (.ptr 1 0))), (3, .v (.one (Uv 0)))], [(0, .cells 48 (Qa a0)), (1, .cells 72 [Ux 4 y1.1, .mp 2]), (2, .mp (QT y1.2.1) y1.2.2)], [(4, some ⟨54, 1, (Enc.encL y1.1).length, []⟩)], 5, 88, []⟩ : St)) (Sum.elim (fun (y2 : Unit) => (⟨[(2, .v (.one (.ptr 1 0))), (3, .v (.one (Uv 8)))], [(0, .cells 48 (Qa a0)), (1, .cells 72 [Uu, .d (.v (.map none))])], [], 5, 88, []⟩ : St)) (fun (y3 : Unit) => (⟨[(2, .v (.one (.ptr 1 0))), (3, .v (.one (Uv 9)))], [(0, .cells 48 (Qa a0)), (1, .cells 72 [Uu, .d (.v (.map none))])], [], 7, 88, []⟩ : St))))) (.inr q_)).nx⟩) hc4 h0 (fun y2 hc4 h0 => ?_) (fun y3 hc4 h0 => ?_))
 replace hc4 : CallM Try.prog 34 [.one (.osl 0 0 nn nn)] ⟨[(0, .cells 48 (Qa a0))], [], 1⟩ (Qy [.agg [Ux 4 y1.1, .mp 2], .one (Uv 0)]) ⟨[(0, .cells 48 (Qa a0)), (1, .cells 72 [Ux 4 y1.1, .mp 2]), (2, .mp (QT y1.2.1) y1.2.2)], [(4, some ⟨54, 1, (Enc.encL y1.1).length, []⟩)], 5⟩ := hc4
 refine Q9 rfl rfl (Ug rfl) (J4 rfl rfl rfl hc4 rfl (Um rfl Ul) Uh) <| U6 rfl rfl rfl <| U5 rfl rfl rfl (Qp rfl rfl) <| U5 rfl rfl rfl (Qp rfl rfl) <| Q9 rfl rfl (Ug rfl) (QC Zw rfl) <| QL rfl rfl (Qw Jq rfl rfl rfl rfl (Ug rfl) rfl) <| U7 rfl rfl rfl <| Q3 <| Q1 <| Q2 <| Q2 <| Q0 <| U6 rfl rfl rfl <| U5 rfl rfl rfl (Q5 rfl rfl rfl) ?_
 refine Q3 <| Q1 ?_
 refine Qe rfl (fun h => nomatch h) (fun _ => ?_)
 refine Qg <| Q1 <| Q2 <| Q0 <| U7 rfl rfl rfl <| Q3 <| Q1 <| Q2 <| Q0 <| U6 rfl rfl rfl <| U5 rfl rfl rfl (Yc Jm rfl) ?_
 refine QQ h0 (fun g32 h0 => ?_)
 refine Q9 rfl rfl (Ug rfl) (OpOK.makeO (α := Bool) (z := false) YM WS rfl rfl Wx rfl rfl g32 rfl (by repeat (first | exact CLs.nil | refine CLs.cons (by first | exact .refl _ | exact .sub (.app _ _ _) | exact .sub (.nil _)) ?_))) ?_
 refine Q9 rfl rfl (Ug rfl) (QC z_75 rfl) <| QL rfl rfl (Qw Kc rfl rfl rfl rfl (Ug rfl) rfl) <| Q3 <| Q1 <| Q2 <| Qc ?_
 refine QF 0 (fun (o33 : (List Int) × (List Bool)) => ⟨[(6, .v (.one (Ux 8 o33.1)))], [(0, .cells 48 (Qa a0)), (1, .cells 72 [Ux 4 y1.1, .mp 2]), (2, .mp (QT y1.2.1) y1.2.2), (5, .cells 72 [Ux 4 y1.1, .mp 2]), (6, .cells 4 (Qa o33.2)), (7, .cells 75 [.osl 6 0 (((nn : Nat) : Int).toNat) (((nn : Nat) : Int).toNat)])], [(4, some ⟨54, 1, (Enc.encL y1.1).length, []⟩), (8, some ⟨3, 1, (Enc.encL o33.1).length, []⟩)], 9, 58, []⟩) (fun (o33 : (List Int) × (List Bool)) => (some (o33.1, 0)) = some r) ?_ ?_
 refine JD (t := 6) 3 1 rfl ?_
 refine Qb h0 (fun o34 hl1 h0 => ?_)
 refine QE (m22o_l5 nn y1) (fun s1 => ⟨[(0, .v (.one (.osl 0 0 nn nn))), (4, .v (.one (.ptr 5 0))), (6, .v (.one (Ux 8 s1.1))), (7, .v (.one (.ptr 7 0)))], [(0, .cells 48 (Qa a0)), (1, .cells 72 [Ux 4 y1.1, .mp 2]), (2, .mp (QT y1.2.1) y1.2.2), (5, .cells 72 [Ux 4 y1.1, .mp 2]), (6, .cells 4 (Qa s1.2)), (7, .cells 75 [.osl 6 0 (((nn : Nat) : Int).toNat) (((nn : Nat) : Int).toNat)])], [(4, some ⟨54, 1, (Enc.encL y1.1).length, []⟩), (8, some ⟨3, 1, (Enc.encL s1.1).length, []⟩)], 9, 58, []⟩) (([] : List Int), (List.replicate ((nn : Nat) : Int).toNat false)) o34 (Qf (U1 rfl (U1 rfl (U1 rfl (U1 rfl U0)))) (Um rfl (Um rfl (Um rfl (Um rfl (Um rfl (Um rfl Ul)))))) (Ui rfl (Ui rfl Uh)) rfl (Nat.le_trans hv0 (Ug rfl)) rfl rfl rfl (UD rfl (UE rfl rfl (UC rfl (UE rfl rfl (UD rfl (UE rfl rfl UB)))))) rfl rfl) hl1 (fun s1 n1 oo1 h1 ho1 => ?_)
 unfold m22o_l5 at h1
 refine Q2 <| Q2 <| Q0 <| U6 rfl rfl rfl <| U5 rfl rfl rfl (QB (α := Int) JM rfl (.app _ _)) <| U6 rfl rfl rfl <| U5 rfl rfl rfl (Yc Jm rfl) <| U5 rfl rfl rfl (Q5 rfl rfl rfl) <| Q3 <| Q1 ?_
 refine Qe (b := (decide ((s1.1.length : Int) < ((nn : Nat) : Int)))) rfl (fun c35 => ?_) (fun c35 => ?_)
 replace h1 := Qm c35 h1
 refine Qg <| Q1 <| Qc <| Q2 <| Q0 <| U7 rfl rfl rfl <| Q3 <| Q1 <| Q2 <| Q2 <| Q0 <| U5 rfl rfl rfl (Q4 JP rfl) <| U5 rfl rfl rfl (Q7 Yr rfl rfl rfl) <| U5 rfl rfl rfl (QB (α := List Int) Y1 rfl (.app _ _)) ?_
 refine U6 rfl rfl rfl <| Q3 <| Q1 <| Qc ?_
 refine QF 2 (fun (o36 : Int) => ⟨[(0, .v (.one (.osl 0 0 nn nn))), (4, .v (.one (.ptr 5 0))), (6, .v (.one (Ux 8 s1.1))), (7, .v (.one (.ptr 7 0))), (8, .v (.one (Uv o36)))], [(0, .cells 48 (Qa a0)), (1, .cells 72 [Ux 4 y1.1, .mp 2]), (2, .mp (QT y1.2.1) y1.2.2), (5, .cells 72 [Ux 4 y1.1, .mp 2]), (6, .cells 4 (Qa s1.2)), (7, .cells 75 [.osl 6 0 (((nn : Nat) : Int).toNat) (((nn : Nat) : Int).toNat)])], [(4, some ⟨54, 1, (Enc.encL y1.1).length, []⟩), (8, some ⟨3, 1, (Enc.encL s1.1).length, []⟩)], 9, 58, []⟩) (fun (o36 : Int) => (cond (decide (o36 < 0))
     (some (.done (.inr (([] : List Int), 22))))
     (Option.bind (Jg s1.2 o36) fun (x38 : Bool) =>
   Qt (Nat.beq s1.2.length (((nn : Nat) : Int).toNat))
   (Qt (Nat.ble (s1.1.length + ([o36]).length) 1000000000)
   (some (.next ((s1.1 ++ ([o36])), (s1.2.set o36.toNat true))))))) = some oo1) ?_ ?_
 refine Qb h1 (fun o37 hl2 h1 => ?_)
 refine QE (m22o_l4 y1 s1 nn) (fun s2 => ⟨[(0, .v (.one (.osl 0 0 nn nn))), (4, .v (.one (.ptr 5 0))), (6, .v (.one (Ux 8 s1.1))), (7, .v (.one (.ptr 7 0))), (8, .v (.one (Uv (-1)))), (28, .v (.one (Ux 4 y1.1))), (29, .v (.one (Uv (y1.1.length : Int)))), (30, .v (.one (Uv s2)))], [(0, .cells 48 (Qa a0)), (1, .cells 72 [Ux 4 y1.1, .mp 2]), (2, .mp (QT y1.2.1) y1.2.2), (5, .cells 72 [Ux 4 y1.1, .mp 2]), (6, .cells 4 (Qa s1.2)), (7, .cells 75 [.osl 6 0 (((nn : Nat) : Int).toNat) (((nn : Nat) : Int).toNat)])], [(4, some ⟨54, 1, (Enc.encL y1.1).length, []⟩), (8, some ⟨3, 1, (Enc.encL s1.1).length, []⟩)], 9, 58, []⟩) 0 o37 (Qf (U1 rfl (U1 rfl (U1 rfl (U1 rfl (U1 rfl (U1 rfl (U1 rfl (U1 rfl U0)))))))) (Um rfl (Um rfl (Um rfl (Um rfl (Um rfl (Um rfl Ul)))))) (Ui rfl (Ui rfl Uh)) rfl (Nat.le_trans hv0 (Ug rfl)) rfl rfl rfl (UD rfl (UE rfl rfl (UC rfl (UE rfl rfl (UD rfl (UE rfl rfl UB)))))) rfl rfl) hl2 (fun s2 n2 oo2 h2 ho2 => ?_)
 unfold m22o_l4 at h2
 refine Q2 <| Q0 <| U5 rfl rfl rfl (Q5 rfl rfl rfl) <| Q3 <| Q1 <| Q2 ?_
 refine Qe (b := (decide (s2 < (y1.1.length : Int)))) rfl (fun c38 => ?_) (fun c38 => ?_)
 replace h2 := Qm c38 h2
 refine Qg <| Q1 <| Q2 <| Qc <| Q2 <| Q0 <| U6 rfl rfl rfl ?_
 refine Qb h2 (fun x39 hx39 h2 => ?_)
 refine U5 rfl rfl rfl (Qi (α := List Int) Y1 rfl (.app _ _) rfl hx39) <| U5 rfl rfl rfl (QI G8 rfl rfl) <| U7 rfl rfl rfl <| U7 rfl rfl rfl <| Q3 <| Q1 <| Q2 ?_
 refine Ja (fun (v40 : Bool) => ⟨[(0, .v (.one (.osl 0 0 nn nn))), (4, .v (.one (.ptr 5 0))), (6, .v (.one (Ux 8 s1.1))), (7, .v (.one (.ptr 7 0))), (8, .v (.one (Uv (-1)))), (9, .v (.one (Uv s2))), (28, .v (.one (Ux 4 y1.1))), (29, .v (.one (Uv (y1.1.length : Int)))), (30, .v (.one (Uv s2))), (45, .v (.one (Uw v40)))], [(0, .cells 48 (Qa a0)), (1, .cells 72 [Ux 4 y1.1, .mp 2]), (2, .mp (QT y1.2.1) y1.2.2), (5, .cells 72 [Ux 4 y1.1, .mp 2]), (6, .cells 4 (Qa s1.2)), (7, .cells 75 [.osl 6 0 (((nn : Nat) : Int).toNat) (((nn : Nat) : Int).toNat)])], [(4, some ⟨54, 1, (Enc.encL y1.1).length, []⟩), (8, some ⟨3, 1, (Enc.encL s1.1).length, []⟩)], 9, 58, []⟩) (fun (v40 : Bool) => (cond v40
     (some (.done s2))
     (some (.next (J1 (s2 + 1))))) = some oo2) ?_ ?_
 refine Qb h2 (fun w3_ h3 h2 => ?_)
 refine Q0 <| U5 rfl rfl rfl (Q7 Kc rfl rfl rfl) <| U6 rfl rfl rfl ?_
 refine Qb h3 (fun x41 hx41 h3 => ?_)
 refine QQ h3 (fun g42 h3 => ?_)
 refine U5 rfl rfl rfl (Ju (α := Bool) YM rfl rfl hx41 g42) <| U5 rfl rfl rfl (Zk (α := Bool) (m := s2) (f := 0) Kr rfl rfl hx41 rfl) <| U5 rfl rfl rfl (J9 rfl) <| U6 rfl rfl rfl ?_
 refine QV (d := 40) (c := (!x41)) rfl (fun c43 => ?_) (fun c43 => ?_)
 replace h3 := Qm c43 h3
 refine U6 rfl rfl rfl <| U5 rfl rfl rfl (RO.makeFunc1 rfl) ?_
 refine Qb h3 (fun x44 hx44 h3 => ?_)
 refine Q9 rfl rfl (Ug rfl) (QW (hp1' := [(7, .cells 75 [.osl 6 0 (((nn : Nat) : Int).toNat) (((nn : Nat) : Int).toNat)]), (6, .cells 4 (Qa s1.2))]) (tk1' := []) (hpF := [(0, .cells 48 (Qa a0)), (1, .cells 72 [Ux 4 y1.1, .mp 2]), (2, .mp (QT y1.2.1) y1.2.2), (5, .cells 72 [Ux 4 y1.1, .mp 2])]) (tkF := [(4, some ⟨54, 1, (Enc.encL y1.1).length, []⟩), (8, some ⟨3, 1, (Enc.encL s1.1).length, []⟩)]) (res2 := Qy [.one (Uw x44)]) (nx2 := 9) [7, 6] rfl rfl (m43f5_ok x39 (((nn : Nat) : Int).toNat) s1.2 x44 hx44) rfl rfl (Ub rfl rfl (Ua rfl U8)) rfl rfl (Uq rfl (Us rfl Uo)) Uj (Um rfl (Um rfl (Um rfl (Um rfl Ul)))) (Ui rfl (Ui rfl Uh)) rfl rfl rfl rfl rfl (UE rfl rfl (UD rfl UB)) rfl rfl rfl rfl) <| U5 rfl rfl rfl (J9 rfl) <| U5 rfl rfl rfl (Qo rfl rfl) <| Q3 ?_
 have e := U3 h3; subst e
 exact Qr (!x44) (Qf (U1 rfl (U1 rfl (U1 rfl (U1 rfl (U1 rfl (U1 rfl (U1 rfl (U1 rfl (U1 rfl (U1 rfl U0)))))))))) (Um rfl (Um rfl (Um rfl (Um rfl (Um rfl (Um rfl Ul)))))) (Ui rfl (Ui rfl Uh)) rfl (Nat.le_trans hv0 (Ug rfl)) rfl rfl rfl (UD rfl (UE rfl rfl (UC rfl (UE rfl rfl (UD rfl (UE rfl rfl UB)))))) rfl rfl) h2
 replace h3 := Qn c43 h3
 refine Q8 rfl rfl <| Q8 rfl rfl <| Q8 rfl rfl <| Q8 rfl rfl <| U5 rfl rfl rfl (QG rfl rfl) <| Q3 ?_
 have e := U3 h3; subst e
 exact Qr false (Qf (U1 rfl (U1 rfl (U1 rfl (U1 rfl (U1 rfl (U1 rfl (U1 rfl (U1 rfl (U1 rfl (U1 rfl U0)))))))))) (Um rfl (Um rfl (Um rfl (Um rfl (Um rfl (Um rfl Ul)))))) (Ui rfl (Ui rfl Uh)) rfl (Nat.le_trans hv0 (Ug rfl)) rfl rfl rfl (UD rfl (UE rfl rfl (UC rfl (UE rfl rfl (UD rfl (UE rfl rfl UB)))))) rfl rfl) h2
 intro v40 h2
 refine Q1 ?_
 refine Qe (b := v40) rfl (fun c45 => ?_) (fun c45 => ?_)
 replace h2 := Qm c45 h2
 refine Q2 <| Q0 <| U6 rfl rfl rfl <| U7 rfl rfl rfl <| Q3 <| Q1 <| QJ ?_
 refine XQ.blockE (by decide) ?_
 refine Qd <| Qd ?_
 have e := U3 h2; subst e
 have e_ : _ = _ := ho2
 subst e_
 exact QD s2 (Qf (U1 rfl (U1 rfl (U1 rfl (U1 rfl (U1 rfl U0))))) (Um rfl (Um rfl (Um rfl (Um rfl (Um rfl (Um rfl Ul)))))) (Ui rfl (Ui rfl Uh)) rfl (Nat.le_trans hv0 (Ug rfl)) rfl rfl rfl (UD rfl (UE rfl rfl (UC rfl (UE rfl rfl (UD rfl (UE rfl rfl UB)))))) rfl rfl) h1
 replace h2 := Qn c45 h2
 refine Qg <| Qh <| Q1 <| Q0 <| U5 rfl rfl rfl (Q5 rfl rfl rfl) <| U6 rfl rfl rfl <| Q3 ?_
 have e := U3 h2; subst e
 refine QA (J1 (s2 + 1)) (Qf (U1 rfl (U1 rfl (U1 rfl (U1 rfl (U1 rfl (U1 rfl (U1 rfl (U1 rfl U0)))))))) (Um rfl (Um rfl (Um rfl (Um rfl (Um rfl (Um rfl Ul)))))) (Ui rfl (Ui rfl Uh)) rfl (Nat.le_trans hv0 (Ug rfl)) rfl rfl rfl (UD rfl (UE rfl rfl (UC rfl (UE rfl rfl (UD rfl (UE rfl rfl UB)))))) rfl rfl) ho2
 replace h2 := Qn c38 h2
 refine QJ <| Qd <| Qd ?_
 have e := U3 h2; subst e
 have e_ : _ = _ := ho2
 subst e_
 exact QD (-1) (Qf (U1 rfl (U1 rfl (U1 rfl (U1 rfl (U1 rfl U0))))) (Um rfl (Um rfl (Um rfl (Um rfl (Um rfl (Um rfl Ul)))))) (Ui rfl (Ui rfl Uh)) rfl (Nat.le_trans hv0 (Ug rfl)) rfl rfl rfl (UD rfl (UE rfl rfl (UC rfl (UE rfl rfl (UD rfl (UE rfl rfl UB)))))) rfl rfl) h1
 intro o36 h1
 refine Qu <| Q1 <| Q2 <| Q2 <| Q0 <| U6 rfl rfl rfl <| U5 rfl rfl rfl (Q5 rfl rfl rfl) <| Q3 <| Q1 ?_
 refine Qe (b := (decide (o36 < 0))) rfl (fun c46 => ?_) (fun c46 => ?_)
 replace h1 := Qm c46 h1
 refine Q2 <| Q0 <| U7 rfl rfl rfl <| U7 rfl rfl rfl <| Q3 <| Q1 <| Qz ?_
 have e := U3 h1; subst e
 have e_ : _ = _ := ho1
 subst e_
 try dsimp only [Sum.elim_inl, Sum.elim_inr] at h0
 have e := U3 h0; subst e
 exact hQ0 _ _ _ (.inr rfl) rfl (Qf (U2 rfl (.sub (.nil _)) (U1 rfl U0)) (Um rfl Ul) Uh rfl (Nat.le_trans hv0 (Ug rfl)) rfl rfl rfl (UD rfl UB) rfl rfl)
 replace h1 := Qn c46 h1
 refine Qg <| Q1 <| Q2 <| Q0 <| U5 rfl rfl rfl (Q7 Kc rfl rfl rfl) <| U6 rfl rfl rfl ?_
 refine Qb h1 (fun x47 hx47 h1 => ?_)
 refine QQ h1 (fun g48 h1 => ?_)
 refine U5 rfl rfl rfl (Ju (α := Bool) YM rfl rfl hx47 g48) <| QL rfl rfl (OpOK.storeOE (α := Bool) (y' := .one (Uw true)) (v := true) Kr rfl rfl (.one (.d _)) rfl rfl hx47 rfl) <| Q3 <| Q1 <| Q0 <| U6 rfl rfl rfl <| U6 rfl rfl rfl <| Q9 rfl rfl (Ug rfl) (QZ (α := Int) (o36) JM Wg rfl rfl (Ug rfl) (Ug rfl) rfl rfl (.cons (.d _) .nil) rfl) ?_
 refine QQ h1 (fun g49 h1 => ?_)
 refine Q9 rfl rfl (Ug rfl) (QO (α := Int) JM XY rfl rfl rfl rfl rfl (.app _ _) g49) <| U7 rfl rfl rfl <| Q3 <| Qh ?_
 have e := U3 h1; subst e
 refine QA ((s1.1 ++ ([o36])), (s1.2.set o36.toNat true)) (Qf (U1 rfl (U1 rfl (U1 rfl (U1 rfl U0)))) (Um rfl (Um rfl (Um rfl (Um rfl (Um rfl (Um rfl Ul)))))) (Ui rfl (Ui rfl Uh)) rfl (Nat.le_trans hv0 (Ug rfl)) rfl rfl rfl (UD rfl (UE rfl rfl (UC rfl (UE rfl rfl (UD rfl (UE rfl rfl UB)))))) rfl rfl) ho1
 replace h1 := Qn c35 h1
 refine QJ <| Qd <| Qd ?_
 have e := U3 h1; subst e
 have e_ : _ = _ := ho1
 subst e_
 exact QD (s1.1, s1.2) (Qf (U1 rfl U0) (Um rfl (Um rfl (Um rfl (Um rfl (Um rfl (Um rfl Ul)))))) (Ui rfl (Ui rfl Uh)) rfl (Nat.le_trans hv0 (Ug rfl)) rfl rfl rfl (UD rfl (UE rfl rfl (UC rfl (UE rfl rfl (UD rfl (UE rfl rfl UB)))))) rfl rfl) h0
 intro o33 h0
 refine Qu <| Q1 <| Q2 <| Q0 <| U6 rfl rfl rfl <| U7 rfl rfl rfl <| U7 rfl rfl rfl <| Q3 <| Q1 <| Qz ?_
 have e := U3 h0; subst e
 exact hQ0 _ _ _ (.inr rfl) rfl (Qf (U2 rfl (.sub (.app _ _ _)) (U1 rfl U0)) (Um rfl Ul) Uh rfl (Nat.le_trans hv0 (Ug rfl)) rfl rfl rfl (UD rfl UB) rfl rfl)
 replace hc4 : CallM Try.prog 34 [.one (.osl 0 0 nn nn)] ⟨[(0, .cells 48 (Qa a0))], [], 1⟩ (Qy [.agg [Uu, .d (.v (.map none))], .one (Uv 8)]) ⟨[(0, .cells 48 (Qa a0)), (1, .cells 72 [Uu, .d (.v (.map none))])], [], 5⟩ := hc4
 refine Q9 rfl rfl (Ug rfl) (J4 rfl rfl rfl hc4 rfl (Um rfl Ul) Uh) <| U6 rfl rfl rfl <| U5 rfl rfl rfl (Qp rfl rfl) <| U5 rfl rfl rfl (Qp rfl rfl) <| Q9 rfl rfl (Ug rfl) (QC Zw rfl) <| QL rfl rfl (Qw Jq rfl rfl rfl rfl (Ug rfl) rfl) <| U7 rfl rfl rfl <| Q3 <| Q1 <| Q2 <| Q2 <| Q0 <| U6 rfl rfl rfl <| U5 rfl rfl rfl (Q5 rfl rfl rfl) ?_
 refine Q3 <| Q1 ?_
 refine Qe rfl (fun _ => ?_) (fun h => nomatch h)
 refine Q2 <| Q0 <| U6 rfl rfl rfl <| U7 rfl rfl rfl <| U7 rfl rfl rfl <| Q3 <| Q1 <| Qz ?_
 have e := U3 h0; subst e
 exact hQ0 _ _ _ (.inr rfl) rfl (Qf (U2 rfl (.sub (.nil _)) (U1 rfl U0)) (Um rfl Ul) Uh rfl (Nat.le_trans hv0 (Ug rfl)) rfl rfl rfl (UD rfl UB) rfl rfl)
 replace hc4 : CallM Try.prog 34 [.one (.osl 0 0 nn nn)] ⟨[(0, .cells 48 (Qa a0))], [], 1⟩ (Qy [.agg [Uu, .d (.v (.map none))], .one (Uv 9)]) ⟨[(0, .cells 48 (Qa a0)), (1, .cells 72 [Uu, .d (.v (.map none))])], [], 7⟩ := hc4
 refine Q9 rfl rfl (Ug rfl) (J4 rfl rfl rfl hc4 rfl (Um rfl Ul) Uh) <| U6 rfl rfl rfl <| U5 rfl rfl rfl (Qp rfl rfl) <| U5 rfl rfl rfl (Qp rfl rfl) <| Q9 rfl rfl (Ug rfl) (QC Zw rfl) <| QL rfl rfl (Qw Jq rfl rfl rfl rfl (Ug rfl) rfl) <| U7 rfl rfl rfl <| Q3 <| Q1 <| Q2 <| Q2 <| Q0 <| U6 rfl rfl rfl <| U5 rfl rfl rfl (Q5 rfl rfl rfl) ?_
 refine Q3 <| Q1 ?_
 refine Qe rfl (fun _ => ?_) (fun h => nomatch h)
 refine Q2 <| Q0 <| U6 rfl rfl rfl <| U7 rfl rfl rfl <| U7 rfl rfl rfl <| Q3 <| Q1 <| Qz ?_
 have e := U3 h0; subst e
 exact hQ0 _ _ _ (.inr rfl) rfl (Qf (U2 rfl (.sub (.nil _)) (U1 rfl U0)) (Um rfl Ul) Uh rfl (Nat.le_trans hv0 (Ug rfl)) rfl rfl rfl (UD rfl UB) rfl rfl)
end Go.Proofs.Ytijcchddnnnmdaa
namespace Go.Proofs.Ytijcchddnnnmdaa
open Go.RowKit Go.Shelf
set_option linter.unusedSimpArgs false
set_option linter.unusedVariables false
theorem en_15 : J2 Try.prog 15 := enters_of Try.func15 (by kernel_rfl) rfl
def m56f11_l0 (x6 : List Int) (rc : Int × Nat × (List Bool) × (List (List Int)) → Option ((List Bool))) (a1 : Nat) (a3 : List (List Int)) (s1 : Int × (List Bool)) : Option (LO (Int × (List Bool)) (((List Bool)))) :=
 cond (decide (s1.1 < (x6.length : Int)))
   (Option.bind (Jg x6 s1.1) fun (x9 : Int) =>
 Option.bind (rc (x9, a1, s1.2, a3)) fun (x10 : (List Bool)) =>
 some (.next ((J1 (s1.1 + 1)), x10)))
   (some (.done s1.2))
def m56f11s (rc : Int × Nat × (List Bool) × (List (List Int)) → Option ((List Bool))) (a0 : Int) (a1 : Nat) (a2 : List Bool) (a3 : List (List Int)) : Option ((List Bool)) :=
 Option.bind (Jg a2 a0) fun (x1 : Bool) =>
 Qt (Nat.beq a2.length a1)
 (cond x1
   (some a2)
   (Option.bind (Jg a2 a0) fun (x4 : Bool) =>
 Qt (Nat.beq a2.length a1)
 (Option.bind (Jg a3 a0) fun (x6 : List Int) =>
 Option.bind (Qv (m56f11_l0 x6 rc a1 a3) QH (0, (a2.set a0.toNat true))) (fun (o7 : (List Bool)) => some o7))))
def m56f11F (rc : Int × Nat × (List Bool) × (List (List Int)) → Option ((List Bool))) (u : Int × Nat × (List Bool) × (List (List Int))) : Option ((List Bool)) := m56f11s rc u.1 u.2.1 u.2.2.1 u.2.2.2
def XB (a0 : Int) (a1 : Nat) (a2 : List Bool) (a3 : List (List Int)) : Option ((List Bool)) := JY m56f11F QH (a0, a1, a2, a3)
set_option maxRecDepth 100000 in
set_option maxHeartbeats 2000000 in
theorem m56f11s_ok (rc : Int × Nat × (List Bool) × (List (List Int)) → Option ((List Bool))) (H : ∀ (a0 : Int) (a1 : Nat) (a2 : List Bool) (a3 : List (List Int)) (r : (List Bool)), rc (a0, a1, a2, a3) = some r → CallM Try.prog 56 [.one (Uv a0), .one (.ptr 0 0), .one (.ptr 2 0), .one (.ptr 4 0)] ⟨[(0, .cells 75 [.osl 1 0 a1 a1]), (1, .cells 4 (Qa a2)), (2, .cells 57 [Ux 3 a3]), (4, .cells 106 [.fn 56 [(0, 0), (2, 0), (4, 0)]])], [(3, some ⟨54, 1, (Enc.encL a3).length, []⟩)], 5⟩ (Qy []) ⟨[(0, .cells 75 [.osl 1 0 a1 a1]), (1, .cells 4 (Qa r)), (2, .cells 57 [Ux 3 a3]), (4, .cells 106 [.fn 56 [(0, 0), (2, 0), (4, 0)]])], [(3, some ⟨54, 1, (Enc.encL a3).length, []⟩)], 5⟩) (a0 : Int) (a1 : Nat) (a2 : List Bool) (a3 : List (List Int)) (r : (List Bool)) (h0 : m56f11s rc a0 a1 a2 a3 = some r) : CallM Try.prog 56 [.one (Uv a0), .one (.ptr 0 0), .one (.ptr 2 0), .one (.ptr 4 0)] ⟨[(0, .cells 75 [.osl 1 0 a1 a1]), (1, .cells 4 (Qa a2)), (2, .cells 57 [Ux 3 a3]), (4, .cells 106 [.fn 56 [(0, 0), (2, 0), (4, 0)]])], [(3, some ⟨54, 1, (Enc.encL a3).length, []⟩)], 5⟩ (Qy []) ⟨[(0, .cells 75 [.osl 1 0 a1 a1]), (1, .cells 4 (Qa r)), (2, .cells 57 [Ux 3 a3]), (4, .cells 106 [.fn 56 [(0, 0), (2, 0), (4, 0)]])], [(3, some ⟨54, 1, (Enc.encL a3).length, []⟩)], 5⟩ := by
 unfold m56f11s at h0
 refine QP ⟨[], [(0, .cells 75 [.osl 1 0 a1 a1]), (1, .cells 4 (Qa r)), (2, .cells 57 [Ux 3 a3]), (4, .cells 106 [.fn 56 [(0, 0), (2, 0), (4, 0)]])], [(3, some ⟨54, 1, (Enc.encL a3).length, []⟩)], 5, 27, []⟩ rfl rfl en_56 (Ug rfl) rfl .nil (fun w0 M V0 Q hv0 hQ0 => ?_)
 simp only [J8]
 refine Q2 <| Q2 <| Q0 <| U5 rfl rfl rfl (Q7 Kc rfl rfl rfl) <| U6 rfl rfl rfl ?_
 refine Qb h0 (fun x1 hx1 h0 => ?_)
 refine QQ h0 (fun g2 h0 => ?_)
 refine U5 rfl rfl rfl (Ju (α := Bool) YM rfl rfl hx1 g2) <| U5 rfl rfl rfl (Zk (α := Bool) (m := a0) (f := 0) Kr rfl rfl hx1 rfl) <| Q3 <| Q1 ?_
 refine Qe (b := x1) rfl (fun c3 => ?_) (fun c3 => ?_)
 replace h0 := Qm c3 h0
 refine Qz ?_
 have e := U3 h0; subst e
 exact hQ0 _ _ _ (.inr rfl) rfl (Qf U0 (Um rfl (Um rfl (Um rfl (Um rfl Ul)))) (Ui rfl Uh) rfl (Nat.le_trans hv0 (Ug rfl)) rfl rfl rfl (UE rfl rfl (UD rfl (UE rfl rfl (UE rfl rfl UB)))) rfl rfl)
 replace h0 := Qn c3 h0
 refine Qg <| Q1 <| Q2 <| Q0 <| U5 rfl rfl rfl (Q7 Kc rfl rfl rfl) <| U6 rfl rfl rfl ?_
 refine Qb h0 (fun x4 hx4 h0 => ?_)
 refine QQ h0 (fun g5 h0 => ?_)
 refine U5 rfl rfl rfl (Ju (α := Bool) YM rfl rfl hx4 g5) <| QL rfl rfl (OpOK.storeOE (α := Bool) (y' := .one (Uw true)) (v := true) Kr rfl rfl (.one (.d _)) rfl rfl hx4 rfl) <| Q3 <| Q1 <| Q2 <| Q0 <| U5 rfl rfl rfl (Q7 Yr rfl rfl rfl) <| U6 rfl rfl rfl ?_
 refine Qb h0 (fun x6 hx6 h0 => ?_)
 refine U5 rfl rfl rfl (Qi (α := List Int) Y1 rfl (.app _ _) rfl hx6) <| U5 rfl rfl rfl (QI G8 rfl rfl) <| U5 rfl rfl rfl (QB (α := Int) JM rfl (.d _)) <| U6 rfl rfl rfl <| Q3 <| Q1 <| Qc ?_
 refine QF 0 (fun (o7 : (List Bool)) => ⟨[], [(0, .cells 75 [.osl 1 0 a1 a1]), (1, .cells 4 (Qa o7)), (2, .cells 57 [Ux 3 a3]), (4, .cells 106 [.fn 56 [(0, 0), (2, 0), (4, 0)]])], [(3, some ⟨54, 1, (Enc.encL a3).length, []⟩)], 5, 27, []⟩) (fun (o7 : (List Bool)) => (some o7) = some r) ?_ ?_
 refine Qb h0 (fun o8 hl1 h0 => ?_)
 refine QE (m56f11_l0 x6 rc a1 a3) (fun s1 => ⟨[(3, .v (.one (.ptr 4 0))), (17, .v (.one (Ut x6))), (18, .v (.one (Uv (x6.length : Int)))), (19, .v (.one (Uv s1.1)))], [(0, .cells 75 [.osl 1 0 a1 a1]), (1, .cells 4 (Qa s1.2)), (2, .cells 57 [Ux 3 a3]), (4, .cells 106 [.fn 56 [(0, 0), (2, 0), (4, 0)]])], [(3, some ⟨54, 1, (Enc.encL a3).length, []⟩)], 5, 27, []⟩) (0, (a2.set a0.toNat true)) o8 (Qf (U1 rfl (U1 rfl (U1 rfl (U1 rfl U0)))) (Um rfl (Um rfl (Um rfl (Um rfl Ul)))) (Ui rfl Uh) rfl (Nat.le_trans hv0 (Ug rfl)) rfl rfl rfl (UE rfl rfl (UD rfl (UE rfl rfl (UE rfl rfl UB)))) rfl rfl) hl1 (fun s1 n1 oo1 h1 ho1 => ?_)
 unfold m56f11_l0 at h1
 refine Q2 <| Q0 <| U5 rfl rfl rfl (Q5 rfl rfl rfl) <| Q3 <| Q1 <| Q2 ?_
 refine Qe (b := (decide (s1.1 < (x6.length : Int)))) rfl (fun c9 => ?_) (fun c9 => ?_)
 replace h1 := Qm c9 h1
 refine Qg <| Q1 <| Q2 <| Qc <| Q2 <| Q0 ?_
 refine Qb h1 (fun x10 hx10 h1 => ?_)
 refine U5 rfl rfl rfl (Qi (α := Int) JM rfl (.d _) rfl hx10) <| U5 rfl rfl rfl (QI Yx rfl rfl) <| U7 rfl rfl rfl <| Q3 <| Q1 <| Q0 <| U5 rfl rfl rfl (Q7 G9 rfl rfl rfl) <| U6 rfl rfl rfl ?_
 refine Qb h1 (fun x11 hx11 h1 => ?_)
 refine Q9 rfl rfl (Ug rfl) (QW (hp1' := [(0, .cells 75 [.osl 1 0 a1 a1]), (1, .cells 4 (Qa x11)), (2, .cells 57 [Ux 3 a3]), (4, .cells 106 [.fn 56 [(0, 0), (2, 0), (4, 0)]])]) (tk1' := [(3, some ⟨54, 1, (Enc.encL a3).length, []⟩)]) (hpF := []) (tkF := []) (res2 := Qy []) (nx2 := 5) [0, 1, 2, 3, 4] rfl rfl (H x10 a1 s1.2 a3 x11 hx11) rfl rfl (Ub rfl rfl (Ua rfl (Ub rfl rfl (Ub rfl rfl U8)))) rfl rfl (Uq rfl (Us rfl (Uq rfl (Uq rfl Uo)))) (Uk rfl Uj) Ul Uh rfl rfl rfl rfl rfl (UE rfl rfl (UD rfl (UE rfl rfl (UE rfl rfl UB)))) rfl rfl rfl rfl) <| Q3 <| Qh <| Q1 <| Q0 <| U5 rfl rfl rfl (Q5 rfl rfl rfl) <| U6 rfl rfl rfl <| Q3 ?_
 have e := U3 h1; subst e
 refine QA ((J1 (s1.1 + 1)), x11) (Qf (U1 rfl (U1 rfl (U1 rfl (U1 rfl U0)))) (Um rfl (Um rfl (Um rfl (Um rfl Ul)))) (Ui rfl Uh) rfl (Nat.le_trans hv0 (Ug rfl)) rfl rfl rfl (UE rfl rfl (UD rfl (UE rfl rfl (UE rfl rfl UB)))) rfl rfl) ho1
 replace h1 := Qn c9 h1
 refine QJ <| Qd <| Qd ?_
 have e := U3 h1; subst e
 have e_ : _ = _ := ho1
 subst e_
 exact QD s1.2 (Qf U0 (Um rfl (Um rfl (Um rfl (Um rfl Ul)))) (Ui rfl Uh) rfl (Nat.le_trans hv0 (Ug rfl)) rfl rfl rfl (UE rfl rfl (UD rfl (UE rfl rfl (UE rfl rfl UB)))) rfl rfl) h0
 intro o7 h0
 refine Qu ?_
 have e := U3 h0; subst e
 exact hQ0 _ _ _ (.inl rfl) rfl (Qf U0 (Um rfl (Um rfl (Um rfl (Um rfl Ul)))) (Ui rfl Uh) rfl (Nat.le_trans hv0 (Ug rfl)) rfl rfl rfl (UE rfl rfl (UD rfl (UE rfl rfl (UE rfl rfl UB)))) rfl rfl)
theorem m56f11_all (n : Nat) (u : Int × Nat × (List Bool) × (List (List Int))) (r : (List Bool)) (h0 : JY m56f11F n u = some r) : CallM Try.prog 56 [.one (Uv u.1), .one (.ptr 0 0), .one (.ptr 2 0), .one (.ptr 4 0)] ⟨[(0, .cells 75 [.osl 1 0 u.2.1 u.2.1]), (1, .cells 4 (Qa u.2.2.1)), (2, .cells 57 [Ux 3 u.2.2.2]), (4, .cells 106 [.fn 56 [(0, 0), (2, 0), (4, 0)]])], [(3, some ⟨54, 1, (Enc.encL u.2.2.2).length, []⟩)], 5⟩ (Qy []) ⟨[(0, .cells 75 [.osl 1 0 u.2.1 u.2.1]), (1, .cells 4 (Qa r)), (2, .cells 57 [Ux 3 u.2.2.2]), (4, .cells 106 [.fn 56 [(0, 0), (2, 0), (4, 0)]])], [(3, some ⟨54, 1, (Enc.encL u.2.2.2).length, []⟩)], 5⟩ :=
 Yy (C := fun u r => CallM Try.prog 56 [.one (Uv u.1), .one (.ptr 0 0), .one (.ptr 2 0), .one (.ptr 4 0)] ⟨[(0, .cells 75 [.osl 1 0 u.2.1 u.2.1]), (1, .cells 4 (Qa u.2.2.1)), (2, .cells 57 [Ux 3 u.2.2.2]), (4, .cells 106 [.fn 56 [(0, 0), (2, 0), (4, 0)]])], [(3, some ⟨54, 1, (Enc.encL u.2.2.2).length, []⟩)], 5⟩ (Qy []) ⟨[(0, .cells 75 [.osl 1 0 u.2.1 u.2.1]), (1, .cells 4 (Qa r)), (2, .cells 57 [Ux 3 u.2.2.2]), (4, .cells 106 [.fn 56 [(0, 0), (2, 0), (4, 0)]])], [(3, some ⟨54, 1, (Enc.encL u.2.2.2).length, []⟩)], 5⟩) (fun rc H u r h => m56f11s_ok rc (fun a0 a1 a2 a3 r h => H (a0, a1, a2, a3) r h) u.1 u.2.1 u.2.2.1 u.2.2.2 r h) n u r h0
theorem m56f11_ok (a0 : Int) (a1 : Nat) (a2 : List Bool) (a3 : List (List Int)) (r : (List Bool)) (h0 : XB a0 a1 a2 a3 = some r) : CallM Try.prog 56 [.one (Uv a0), .one (.ptr 0 0), .one (.ptr 2 0), .one (.ptr 4 0)] ⟨[(0, .cells 75 [.osl 1 0 a1 a1]), (1, .cells 4 (Qa a2)), (2, .cells 57 [Ux 3 a3]), (4, .cells 106 [.fn 56 [(0, 0), (2, 0), (4, 0)]])], [(3, some ⟨54, 1, (Enc.encL a3).length, []⟩)], 5⟩ (Qy []) ⟨[(0, .cells 75 [.osl 1 0 a1 a1]), (1, .cells 4 (Qa r)), (2, .cells 57 [Ux 3 a3]), (4, .cells 106 [.fn 56 [(0, 0), (2, 0), (4, 0)]])], [(3, some ⟨54, 1, (Enc.encL a3).length, []⟩)], 5⟩ := m56f11_all QH (a0, a1, a2, a3) r h0
def m15_l0 (x9 : (List UN)) (s2 : Int × (Qj UN Int)) (s3 : Int × (Qj UN Int)) : Option (LO (Int × (Qj UN Int)) (((Qj UN Int)) ⊕ (((List (List Int)) × (Qj UN Int)) ⊕ Unit ⊕ Unit))) :=
 cond (decide (s3.1 < (x9.length : Int)))
   (Option.bind (Jg x9 s3.1) fun (x12 : UN) =>
 cond (Jz s3.2 x12)
   (some (.done (.inr (.inr (.inl ())))))
   (some (.next ((J1 (s3.1 + 1)), (Y5 s3.2 x12 s2.1)))))
   (some (.done (.inl s3.2)))
def m15_l1 (a0 : List Dcl) (s2 : Int × (Qj UN Int)) : Option (LO (Int × (Qj UN Int)) (((Qj UN Int)) ⊕ (((List (List Int)) × (Qj UN Int)) ⊕ Unit ⊕ Unit))) :=
 cond (decide (s2.1 < (a0.length : Int)))
   (Option.bind (Jg a0 s2.1) fun (x8 : Dcl) =>
 Option.bind (Wc x8) fun (x9 : (List UN)) =>
 Option.bind (Qv (m15_l0 x9 s2) QH (0, s2.2)) (Sum.elim (fun (o10 : (Qj UN Int)) => some (.next ((J1 (s2.1 + 1)), o10))) (fun o => some (.done (.inr o)))))
   (some (.done (.inl s2.2)))
def m15_l2 (x10 : (List UN)) (o6 : (Qj UN Int)) (s3 : (List Int) × Int) : Option (LO ((List Int) × Int) (((List Int)) ⊕ (((List (List Int)) × (Qj UN Int)) ⊕ Unit ⊕ Unit))) :=
 cond (decide (s3.2 < (x10.length : Int)))
   (Option.bind (Jg x10 s3.2) fun (x13 : UN) =>
 cond (!(Jz o6 x13))
   (some (.done (.inr (.inr (.inr ())))))
   (Qt (Nat.ble (s3.1.length + ([(Jl o6 x13)]).length) 1000000000)
 (some (.next ((s3.1 ++ ([(Jl o6 x13)])), (J1 (s3.2 + 1)))))))
   (some (.done (.inl s3.1)))
def XI (a0 : List Dcl) (o6 : (Qj UN Int)) (s2 : Int × (List (List Int))) : Option (LO (Int × (List (List Int))) (((List (List Int))) ⊕ (((List (List Int)) × (Qj UN Int)) ⊕ Unit ⊕ Unit))) :=
 cond (decide (s2.1 < (a0.length : Int)))
   (Option.bind (Jg a0 s2.1) fun (x9 : Dcl) =>
 Option.bind (Wh x9) fun (x10 : (List UN)) =>
 Option.bind (Qv (m15_l2 x10 o6) QH (([] : List Int), 0)) (Sum.elim (fun (o11 : (List Int)) => Option.bind (ZA o11) fun (x12 : List Int) =>
 Option.bind (Y2 x12 ((Enc.encL o11).length)) fun (x13 : List Int) =>
 Qt (Nat.ble (s2.2.length + ([x13]).length) 1000000000)
 (some (.next ((J1 (s2.1 + 1)), (s2.2 ++ ([x13])))))) (fun o => some (.done (.inr o)))))
   (some (.done (.inl s2.2)))
def XH (a1 : List UN) (y1 : (List (List Int)) × (Qj UN Int)) (s2 : Int × (List Bool)) : Option (LO (Int × (List Bool)) (((List Bool)) ⊕ (Unit ⊕ ((List Bool))))) :=
 cond (decide (s2.1 < (a1.length : Int)))
   (Option.bind (Jg a1 s2.1) fun (x37 : UN) =>
 cond (!(Jz y1.2 x37))
   (some (.done (.inr (.inl ()))))
   (Option.bind (XB (Jl y1.2 x37) ((y1.1.length : Int).toNat) s2.2 y1.1) fun (x39 : (List Bool)) =>
 some (.next ((J1 (s2.1 + 1)), x39))))
   (some (.done (.inl s2.2)))
def Xj (a0 : List Dcl) (y31 : (List Bool)) (y1 : (List (List Int)) × (Qj UN Int)) (s1 : (List Dcl) × Int) : Option (LO ((List Dcl) × Int) (((List Dcl)))) :=
 cond (decide (s1.2 < (a0.length : Int)))
   (Option.bind (Jg a0 s1.2) fun (x43 : Dcl) =>
 Option.bind (Jg y31 s1.2) fun (x44 : Bool) =>
 Qt (Nat.beq y31.length ((y1.1.length : Int).toNat))
 (cond x44
   (Qt (Nat.ble (s1.1.length + ([x43]).length) 1000000000)
 (some (.next ((s1.1 ++ ([x43])), (J1 (s1.2 + 1))))))
   (some (.next (s1.1, (J1 (s1.2 + 1)))))))
   (some (.done s1.1))
def WN (a0 : List Dcl) (a1 : List UN) : Option ((List Dcl) × Int) :=
 Option.bind (Option.bind (Qv (m15_l1 a0) QH (0, gmNil)) (Sum.elim (fun (o6 : (Qj UN Int)) => Option.bind (Qv (XI a0 o6) QH (0, ([] : List (List Int)))) (Sum.elim (fun (o7 : (List (List Int))) => some (.inl (o7, o6))) (fun o => some o))) (fun o => some o))) (Sum.elim (fun (y1 : (List (List Int)) × (Qj UN Int)) => Option.bind (Qt (cond (decide (0 ≤ (y1.1.length : Int))) (Nat.ble (1 * (y1.1.length : Int).toNat) 281474976710656) false)
 (Option.bind (Qv (XH a1 y1) QH (0, (List.replicate (y1.1.length : Int).toNat false))) (Sum.elim (fun (o35 : (List Bool)) => some (.inr o35)) (fun o => some o)))) (Sum.elim (fun (y30 : Unit) => some (([] : List Dcl), 9)) (fun (y31 : (List Bool)) => Option.bind (Qv (Xj a0 y31 y1) QH (([] : List Dcl), 0)) (fun (o41 : (List Dcl)) => some (o41, 0))))) (Sum.elim (fun (y2 : Unit) => some (([] : List Dcl), 8)) (fun (y3 : Unit) => some (([] : List Dcl), 9))))
set_option maxRecDepth 100000 in
set_option maxHeartbeats 2000000 in
theorem m15_ok (a0 : List Dcl) (a1 : List UN) (r : (List Dcl) × Int) (h0 : WN a0 a1 = some r) : Fun Try.prog 15 [.one (Ut a0), .one (Ut a1)] (Qy [.one (Ut r.1), .one (Uv r.2)]) := by
 unfold WN at h0
 refine QS 9 48 Try.func15 rfl en_15 rfl (Ug rfl) (fun S w => ?_)
 simp only [J8]
 refine Q2 <| Q0 <| U7 rfl rfl rfl <| U7 rfl rfl rfl <| Q3 <| Q1 <| Q2 <| Q0 <| U6 rfl rfl rfl ?_
 refine Qb h0 (fun y5 h1 h0 => ?_)
 have hc4 : CallM Try.prog 34 [.one (Ut a0)] ⟨[], [], 0⟩ (Qy (((Sum.elim (fun (y1 : (List (List Int)) × (Qj UN Int)) => ([.agg [Ux 3 y1.1, .mp 1], .one (Uv 0)] : List AV)) (Sum.elim (fun (y2 : Unit) => ([.agg [Uu, .d (.v (.map none))], .one (Uv 8)] : List AV)) (fun (y3 : Unit) => ([.agg [Uu, .d (.v (.map none))], .one (Uv 9)] : List AV))))) y5)) ⟨(((Sum.elim (fun (y1 : (List (List Int)) × (Qj UN Int)) => (⟨[(2, .v (.one (.ptr 0 0))), (3, .v (.one (Uv 0)))], [(0, .cells 72 [Ux 3 y1.1, .mp 1]), (1, .mp (QT y1.2.1) y1.2.2)], [(3, some ⟨54, 1, (Enc.encL y1.1).length, []⟩)], 4, 88, []⟩ : St)) (Sum.elim (fun (y2 : Unit) => (⟨[(2, .v (.one (.ptr 0 0))), (3, .v (.one (Uv 8)))], [(0, .cells 72 [Uu, .d (.v (.map none))])], [], 4, 88, []⟩ : St)) (fun (y3 : Unit) => (⟨[(2, .v (.one (.ptr 0 0))), (3, .v (.one (Uv 9)))], [(0, .cells 72 [Uu, .d (.v (.map none))])], [], 6, 88, []⟩ : St))))) y5).hp, (((Sum.elim (fun (y1 : (List (List Int)) × (Qj UN Int)) => (⟨[(2, .v (.one (.ptr 0 0))), (3, .v (.one (Uv 0)))], [(0, .cells 72 [Ux 3 y1.1, .mp 1]), (1, .mp (QT y1.2.1) y1.2.2)], [(3, some ⟨54, 1, (Enc.encL y1.1).length, []⟩)], 4, 88, []⟩ : St)) (Sum.elim (fun (y2 : Unit) => (⟨[(2, .v (.one (.ptr 0 0))), (3, .v (.one (Uv 8)))], [(0, .cells 72 [Uu, .d (.v (.map none))])], [], 4, 88, []⟩ : St)) (fun (y3 : Unit) => (⟨[(2, .v (.one (.ptr 0 0))), (3, .v (.one (Uv 9)))], [(0, .cells 72 [Uu, .d (.v (.map none))])], [], 6, 88, []⟩ : St))))) y5).tk, (((Sum.elim (fun (y1 : (List (List Int)) × (Qj UN Int)) => (⟨[(2, .v (.one (.ptr 0 0))), (3, .v (.one (Uv 0)))], [(0, .cells 72 [Ux 3 y1.1, .mp 1]), (1, .mp (QT y1.2.1) y1.2.2)], [(3, some ⟨54, 1, (Enc.encL y1.1).length, []⟩)], 4, 88, []⟩ : St)) (Sum.elim (fun (y2 : Unit) => (⟨[(2, .v (.one (.ptr 0 0))), (3, .v (.one (Uv 8)))], [(0, .cells 72 [Uu, .d (.v (.map none))])], [], 4, 88, []⟩ : St)) (fun (y3 : Unit) => (⟨[(2, .v (.one (.ptr 0 0))), (3, .v (.one (Uv 9)))], [(0, .cells 72 [Uu, .d (.v (.map none))])], [], 6, 88, []⟩ : St))))) y5).nx⟩ := by
  refine JN y5 ((Sum.elim (fun (y1 : (List (List Int)) × (Qj UN Int)) => (⟨[(2, .v (.one (.ptr 0 0))), (3, .v (.one (Uv 0)))], [(0, .cells 72 [Ux 3 y1.1, .mp 1]), (1, .mp (QT y1.2.1) y1.2.2)], [(3, some ⟨54, 1, (Enc.encL y1.1).length, []⟩)], 4, 88, []⟩ : St)) (Sum.elim (fun (y2 : Unit) => (⟨[(2, .v (.one (.ptr 0 0))), (3, .v (.one (Uv 8)))], [(0, .cells 72 [Uu, .d (.v (.map none))])], [], 4, 88, []⟩ : St)) (fun (y3 : Unit) => (⟨[(2, .v (.one (.ptr 0 0))), (3, .v (.one (Uv 9)))], [(0, .cells 72 [Uu, .d (.v (.map none))])], [], 6, 88, []⟩ : St))))) ((Sum.elim (fun (y1 : (List (List Int)) × (Qj UN Int)) => ([.agg [Ux 3 y1.1, .mp 1], .one (Uv 0)] : List AV)) (Sum.elim (fun (y2 : Unit) => ([.agg [Uu, .d (.v (.map none))], .one (Uv 8)] : List AV)) (fun (y3 : Unit) => ([.agg [Uu, .d (.v (.map none))], .one (Uv 9)] : List AV))))) rfl rfl W5 (Ug rfl) (fun z_ => by cases z_ with
    | inl _ => rfl
    | inr z_ => exact (by cases z_ <;> rfl)) (fun z_ => by cases z_ with
    | inl _ => exact (Yo Jq rfl rfl rfl rfl (Qk rfl .nil))
    | inr z_ => exact (by cases z_ with
    | inl _ => exact (Yo Jq rfl rfl rfl rfl (Qk rfl .nil))
    | inr _ => exact (Yo Jq rfl rfl rfl rfl (Qk rfl .nil)))) (fun w0 M V0 Q hv1 hQ1 => ?_)
  simp only [J8]
  refine Q2 <| Q0 <| Q9 rfl rfl (Ug rfl) (QC Zw rfl) <| U7 rfl rfl rfl <| Q3 <| Q1 <| Q2 <| Q0 <| Q9 rfl rfl (Ug rfl) (Yl UN Int) <| U5 rfl rfl rfl (ZQ K5 rfl rfl rfl) <| Q9 rfl rfl (Ug rfl) (QC Zw rfl) <| QL rfl rfl (Qw Jq rfl rfl rfl rfl (Ug rfl) rfl) <| Q3 <| Q1 ?_
  refine Q2 <| Q2 <| Q0 <| U6 rfl rfl rfl <| U5 rfl rfl rfl (QB (α := Dcl) Jm rfl (.d _)) <| U6 rfl rfl rfl <| Q3 <| Q1 <| Qc ?_
  refine QF 0 (fun (o6 : (Qj UN Int)) => ⟨[(0, .v (.one (Ut a0))), (2, .v (.one (.ptr 0 0))), (4, .v (.one (.ptr 2 0)))], [(0, .cells 72 [Uu, .d (.v (.map none))]), (1, .mp (QT o6.1) o6.2), (2, .cells 72 [Uu, .mp 1])], [], 3, 88, []⟩) (fun (o6 : (Qj UN Int)) => (Option.bind (Qv (XI a0 o6) QH (0, ([] : List (List Int)))) (Sum.elim (fun (o7 : (List (List Int))) => some (.inl (o7, o6))) (fun o => some o))) = some y5) ?_ ?_
  refine Qb h1 (fun o7 hl2 h1 => ?_)
  refine QE (m15_l1 a0) (fun s2 => ⟨[(0, .v (.one (Ut a0))), (2, .v (.one (.ptr 0 0))), (4, .v (.one (.ptr 2 0))), (20, .v (.one (Ut a0))), (21, .v (.one (Uv (a0.length : Int)))), (22, .v (.one (Uv s2.1)))], [(0, .cells 72 [Uu, .d (.v (.map none))]), (1, .mp (QT s2.2.1) s2.2.2), (2, .cells 72 [Uu, .mp 1])], [], 3, 88, []⟩) (0, gmNil) o7 (Qf (U1 rfl (U1 rfl (U1 rfl (U1 rfl (U1 rfl (U1 rfl U0)))))) (Um rfl (Um rfl (Um rfl Ul))) Uh rfl (Nat.le_trans hv1 (Ug rfl)) rfl rfl rfl (UE rfl rfl (UC rfl (UE rfl rfl UB))) rfl rfl) hl2 (fun s2 n2 oo2 h2 ho2 => ?_)
  unfold m15_l1 at h2
  refine Q2 <| Q0 <| U5 rfl rfl rfl (Q5 rfl rfl rfl) <| Q3 <| Q1 <| Q2 ?_
  refine Qe (b := (decide (s2.1 < (a0.length : Int)))) rfl (fun c8 => ?_) (fun c8 => ?_)
  replace h2 := Qm c8 h2
  refine Qg <| Q1 <| Q2 <| Qc <| Q2 <| Q0 <| U6 rfl rfl rfl ?_
  refine Qb h2 (fun x9 hx9 h2 => ?_)
  refine U5 rfl rfl rfl (Qi (α := Dcl) Jm rfl (.d _) rfl hx9) <| U5 rfl rfl rfl (QN (x9 : Dcl) Jt rfl) <| Q9 rfl rfl (Ug rfl) (QC KJ rfl) <| U7 rfl rfl rfl <| QL rfl rfl (Jo (x9 : Dcl) Jt rfl rfl rfl rfl rfl) <| Q3 <| Q1 <| Q2 <| Q0 <| U5 rfl rfl rfl (JQ (x9 : Dcl) Jt rfl rfl) ?_
  refine Qb h2 (fun x10 hx10 h2 => ?_)
  refine Q9 rfl rfl (Ug rfl) (Ql (Gx x9 x10 hx10) rfl (.cons (.agg (.cons (.d _) (.cons (.d _) (.cons (.d _) (.cons (.d _) (.cons (.d _) (.cons (.d _) (.cons (.d _) (.cons (.d _) (.cons (.d _) (.cons (.d _) (.cons (.d _) (.cons (.d _) (.cons (.d _) (.cons (.d _) (.cons (.d _) (.cons (.d _) (.cons (.d _) (.cons (.d _) (.cons (.d _) (.cons (.d _) (.cons (.d _) (.cons (.d _) (.cons (.d _) .nil)))))))))))))))))))))))) .nil)) <| U5 rfl rfl rfl (QB (α := UN) QU rfl (.d _)) <| U6 rfl rfl rfl <| Q3 <| Q1 <| Qc ?_
  refine QF 2 (fun (o11 : (Qj UN Int)) => ⟨[(0, .v (.one (Ut a0))), (2, .v (.one (.ptr 0 0))), (4, .v (.one (.ptr 2 0))), (20, .v (.one (Ut a0))), (21, .v (.one (Uv (a0.length : Int)))), (22, .v (.one (Uv s2.1)))], [(0, .cells 72 [Uu, .d (.v (.map none))]), (1, .mp (QT o11.1) o11.2), (2, .cells 72 [Uu, .mp 1]), (3, .cells 48 (Uy x9))], [], 4, 88, []⟩) (fun (o11 : (Qj UN Int)) => (some (.next ((J1 (s2.1 + 1)), o11))) = some oo2) ?_ ?_
  refine Qb h2 (fun o12 hl3 h2 => ?_)
  refine QE (m15_l0 x10 s2) (fun s3 => ⟨[(0, .v (.one (Ut a0))), (2, .v (.one (.ptr 0 0))), (4, .v (.one (.ptr 2 0))), (5, .v (.one (Uv s2.1))), (20, .v (.one (Ut a0))), (21, .v (.one (Uv (a0.length : Int)))), (22, .v (.one (Uv s2.1))), (28, .v (.one (Ut x10))), (29, .v (.one (Uv (x10.length : Int)))), (30, .v (.one (Uv s3.1)))], [(0, .cells 72 [Uu, .d (.v (.map none))]), (1, .mp (QT s3.2.1) s3.2.2), (2, .cells 72 [Uu, .mp 1]), (3, .cells 48 (Uy x9))], [], 4, 88, []⟩) (0, s2.2) o12 (Qf (U1 rfl (U1 rfl (U1 rfl (U1 rfl (U1 rfl (U1 rfl (U1 rfl (U1 rfl (U1 rfl (U1 rfl U0)))))))))) (Um rfl (Um rfl (Um rfl (Um rfl Ul)))) Uh rfl (Nat.le_trans hv1 (Ug rfl)) rfl rfl rfl (UE rfl rfl (UC rfl (UE rfl rfl (UE rfl rfl UB)))) rfl rfl) hl3 (fun s3 n3 oo3 h3 ho3 => ?_)
  unfold m15_l0 at h3
  refine Q2 <| Q0 <| U5 rfl rfl rfl (Q5 rfl rfl rfl) <| Q3 <| Q1 <| Q2 ?_
  refine Qe (b := (decide (s3.1 < (x10.length : Int)))) rfl (fun c13 => ?_) (fun c13 => ?_)
  replace h3 := Qm c13 h3
  refine Qg <| Q1 <| Q2 <| Qc <| Q2 <| Q0 ?_
  refine Qb h3 (fun x14 hx14 h3 => ?_)
  refine U5 rfl rfl rfl (Qi (α := UN) QU rfl (.d _) rfl hx14) <| U5 rfl rfl rfl (QI JG rfl rfl) <| U7 rfl rfl rfl <| Q3 <| Q1 <| Q2 <| Q2 <| Q0 <| U5 rfl rfl rfl (Q4 Y9 rfl) <| U5 rfl rfl rfl (Q7 Zc rfl rfl rfl) <| U6 rfl rfl rfl <| U5 rfl rfl rfl (JI (M := s3.2) (k := x14) Zb YG rfl rfl rfl) <| U6 rfl rfl rfl <| U5 rfl rfl rfl (Qp rfl rfl) ?_
  refine U5 rfl rfl rfl (Qp rfl rfl) <| U7 rfl rfl rfl <| U7 rfl rfl rfl <| Q3 <| Q1 <| Q2 <| Q0 <| U6 rfl rfl rfl <| Q3 <| Q1 ?_
  refine Qe (b := (Jz s3.2 x14)) rfl (fun c15 => ?_) (fun c15 => ?_)
  replace h3 := Qm c15 h3
  refine Q2 <| Q0 <| U5 rfl rfl rfl (Ys K5 rfl ) <| QL rfl rfl (Qw Jq rfl rfl rfl rfl (Ug rfl) rfl) <| U7 rfl rfl rfl <| Q3 <| Q1 <| Qz ?_
  have e := U3 h3; subst e
  have e_ : _ = _ := ho3
  subst e_
  try dsimp only [Sum.elim_inl, Sum.elim_inr] at h2
  have e := U3 h2; subst e
  have e_ : _ = _ := ho2
  subst e_
  try dsimp only [Sum.elim_inl, Sum.elim_inr] at h1
  have e := U3 h1; subst e
  exact hQ1 _ _ _ (.inr rfl) rfl (show StLe _ _ ⟨[(2, .v (.one (.ptr 0 0))), (3, .v (.one (Uv 8)))], [(0, .cells 72 [Uu, .d (.v (.map none))])], [], 4, 88, []⟩ from (Qf (U1 rfl (U1 rfl U0)) (Um rfl Ul) Uh rfl (Nat.le_trans hv1 (Ug rfl)) rfl rfl rfl (UE rfl rfl UB) rfl rfl))
  replace h3 := Qn c15 h3
  refine Qg <| Q1 <| Q0 <| U5 rfl rfl rfl (Q4 Y9 rfl) <| U5 rfl rfl rfl (Q7 Zc rfl rfl rfl) <| U6 rfl rfl rfl <| U6 rfl rfl rfl <| QL rfl rfl (JW (M := s3.2) (k := x14) (v := s2.1) Zb rfl rfl rfl rfl rfl) <| Q3 <| Qh <| Q1 <| Q0 <| U5 rfl rfl rfl (Q5 rfl rfl rfl) <| U6 rfl rfl rfl ?_
  refine Q3 ?_
  have e := U3 h3; subst e
  refine QA ((J1 (s3.1 + 1)), (Y5 s3.2 x14 s2.1)) (Qf (U1 rfl (U1 rfl (U1 rfl (U1 rfl (U1 rfl (U1 rfl (U1 rfl (U1 rfl (U1 rfl (U1 rfl U0)))))))))) (Um rfl (Um rfl (Um rfl (Um rfl Ul)))) Uh rfl (Nat.le_trans hv1 (Ug rfl)) rfl rfl rfl (UE rfl rfl (UC rfl (UE rfl rfl (UE rfl rfl UB)))) rfl rfl) ho3
  replace h3 := Qn c13 h3
  refine QJ <| Qd <| Qd ?_
  have e := U3 h3; subst e
  have e_ : _ = _ := ho3
  subst e_
  exact QD s3.2 (Qf (U1 rfl (U1 rfl (U1 rfl (U1 rfl (U1 rfl (U1 rfl U0)))))) (Um rfl (Um rfl (Um rfl (Um rfl Ul)))) Uh rfl (Nat.le_trans hv1 (Ug rfl)) rfl rfl rfl (UE rfl rfl (UC rfl (UE rfl rfl (UE rfl rfl UB)))) rfl rfl) h2
  intro o11 h2
  refine Qu <| Qh <| Q1 <| Q0 <| U5 rfl rfl rfl (Q5 rfl rfl rfl) <| U6 rfl rfl rfl <| Q3 ?_
  have e := U3 h2; subst e
  refine QA ((J1 (s2.1 + 1)), o11) (Qf (U1 rfl (U1 rfl (U1 rfl (U1 rfl (U1 rfl (U1 rfl U0)))))) (Um rfl (Um rfl (Um rfl Ul))) Uh rfl (Nat.le_trans hv1 (Ug rfl)) rfl rfl rfl (UE rfl rfl (UC rfl (UE rfl rfl UB))) rfl rfl) ho2
  replace h2 := Qn c8 h2
  refine QJ <| Qd <| Qd ?_
  have e := U3 h2; subst e
  have e_ : _ = _ := ho2
  subst e_
  exact QD s2.2 (Qf (U1 rfl (U1 rfl (U1 rfl U0))) (Um rfl (Um rfl (Um rfl Ul))) Uh rfl (Nat.le_trans hv1 (Ug rfl)) rfl rfl rfl (UE rfl rfl (UC rfl (UE rfl rfl UB))) rfl rfl) h1
  intro o6 h1
  refine Qu <| Q1 <| Q2 <| Q2 <| Q0 <| U6 rfl rfl rfl <| U5 rfl rfl rfl (QB (α := Dcl) Jm rfl (.d _)) <| U6 rfl rfl rfl <| Q3 <| Q1 <| Qc ?_
  refine QF 4 (fun (o16 : (List (List Int))) => ⟨[(2, .v (.one (.ptr 0 0))), (4, .v (.one (.ptr 2 0)))], [(0, .cells 72 [Uu, .d (.v (.map none))]), (1, .mp (QT o6.1) o6.2), (2, .cells 72 [Ux 3 o16, .mp 1])], [(3, some ⟨54, 1, (Enc.encL o16).length, []⟩)], 4, 88, []⟩) (fun (o16 : (List (List Int))) => (some (.inl (o16, o6))) = some y5) ?_ ?_
  refine Zj (i := 2) (off := 0) 54 1 rfl rfl ?_
  refine Qb h1 (fun o17 hl2 h1 => ?_)
  refine QE (XI a0 o6) (fun s2 => ⟨[(2, .v (.one (.ptr 0 0))), (4, .v (.one (.ptr 2 0))), (49, .v (.one (Ut a0))), (50, .v (.one (Uv (a0.length : Int)))), (51, .v (.one (Uv s2.1)))], [(0, .cells 72 [Uu, .d (.v (.map none))]), (1, .mp (QT o6.1) o6.2), (2, .cells 72 [Ux 3 s2.2, .mp 1])], [(3, some ⟨54, 1, (Enc.encL s2.2).length, []⟩)], 4, 88, []⟩) (0, ([] : List (List Int))) o17 (Qf (U1 rfl (U1 rfl (U1 rfl (U1 rfl (U1 rfl U0))))) (Um rfl (Um rfl (Um rfl Ul))) (Ui rfl Uh) rfl (Nat.le_trans hv1 (Ug rfl)) rfl rfl rfl (UE rfl rfl (UC rfl (UE rfl rfl UB))) rfl rfl) hl2 (fun s2 n2 oo2 h2 ho2 => ?_)
  unfold XI at h2
  refine Q2 <| Q0 <| U5 rfl rfl rfl (Q5 rfl rfl rfl) <| Q3 <| Q1 <| Q2 ?_
  refine Qe (b := (decide (s2.1 < (a0.length : Int)))) rfl (fun c18 => ?_) (fun c18 => ?_)
  replace h2 := Qm c18 h2
  refine Qg <| Q1 <| Q2 <| Qc <| Q2 <| Q0 ?_
  refine Qb h2 (fun x19 hx19 h2 => ?_)
  refine U5 rfl rfl rfl (Qi (α := Dcl) Jm rfl (.d _) rfl hx19) <| U5 rfl rfl rfl (QN (x19 : Dcl) Jt rfl) <| Q9 rfl rfl (Ug rfl) (QC KJ rfl) <| QL rfl rfl (Jo (x19 : Dcl) Jt rfl rfl rfl rfl rfl) <| Q3 <| Q1 <| Q2 <| Q0 <| U7 rfl rfl rfl <| Q3 <| Q1 <| Q2 <| Q2 <| Q0 ?_
  refine U5 rfl rfl rfl (JQ (x19 : Dcl) Jt rfl rfl) ?_
  refine Qb h2 (fun x20 hx20 h2 => ?_)
  refine Q9 rfl rfl (Ug rfl) (Ql (XD x19 x20 hx20) rfl (.cons (.agg (.cons (.d _) (.cons (.d _) (.cons (.d _) (.cons (.d _) (.cons (.d _) (.cons (.d _) (.cons (.d _) (.cons (.d _) (.cons (.d _) (.cons (.d _) (.cons (.d _) (.cons (.d _) (.cons (.d _) (.cons (.d _) (.cons (.d _) (.cons (.d _) (.cons (.d _) (.cons (.d _) (.cons (.d _) (.cons (.d _) (.cons (.d _) (.cons (.d _) (.cons (.d _) .nil)))))))))))))))))))))))) .nil)) <| U5 rfl rfl rfl (QB (α := UN) QU rfl (.d _)) <| U6 rfl rfl rfl <| Q3 <| Q1 <| Qc ?_
  refine QF 6 (fun (o21 : (List Int)) => ⟨[(2, .v (.one (.ptr 0 0))), (4, .v (.one (.ptr 2 0))), (13, .v (.one (.apv 5 1 ((Enc.encL o21).length) []))), (49, .v (.one (Ut a0))), (50, .v (.one (Uv (a0.length : Int)))), (51, .v (.one (Uv s2.1)))], [(0, .cells 72 [Uu, .d (.v (.map none))]), (1, .mp (QT o6.1) o6.2), (2, .cells 72 [Ux 3 s2.2, .mp 1]), (4, .cells 48 (Uy x19))], [(3, some ⟨54, 1, (Enc.encL s2.2).length, []⟩), (5, some ⟨3, 1, (Enc.encL o21).length, (Enc.encL o21).flatten⟩)], 6, 88, []⟩) (fun (o21 : (List Int)) => (Option.bind (ZA o21) fun (x22 : List Int) =>
    Option.bind (Y2 x22 ((Enc.encL o21).length)) fun (x23 : List Int) =>
    Qt (Nat.ble (s2.2.length + ([x23]).length) 1000000000)
    (some (.next ((J1 (s2.1 + 1)), (s2.2 ++ ([x23])))))) = some oo2) ?_ ?_
  refine JD (t := 13) 3 1 rfl <| Kt (α := Int) (t := 13) rfl rfl ?_
  refine Qb h2 (fun o22 hl3 h2 => ?_)
  refine QE (m15_l2 x20 o6) (fun s3 => ⟨[(2, .v (.one (.ptr 0 0))), (4, .v (.one (.ptr 2 0))), (13, .v (.one (.apv 5 1 ((Enc.encL s3.1).length) []))), (49, .v (.one (Ut a0))), (50, .v (.one (Uv (a0.length : Int)))), (51, .v (.one (Uv s2.1))), (56, .v (.one (Ut x20))), (57, .v (.one (Uv (x20.length : Int)))), (58, .v (.one (Uv s3.2)))], [(0, .cells 72 [Uu, .d (.v (.map none))]), (1, .mp (QT o6.1) o6.2), (2, .cells 72 [Ux 3 s2.2, .mp 1]), (4, .cells 48 (Uy x19))], [(3, some ⟨54, 1, (Enc.encL s2.2).length, []⟩), (5, some ⟨3, 1, (Enc.encL s3.1).length, (Enc.encL s3.1).flatten⟩)], 6, 88, []⟩) (([] : List Int), 0) o22 (Qf (U1 rfl (U1 rfl (U1 rfl (U1 rfl (U1 rfl (U1 rfl (U1 rfl (U1 rfl (U1 rfl U0))))))))) (Um rfl (Um rfl (Um rfl (Um rfl Ul)))) (Ui rfl (Ui rfl Uh)) rfl (Nat.le_trans hv1 (Ug rfl)) rfl rfl rfl (UE rfl rfl (UC rfl (UE rfl rfl (UE rfl rfl UB)))) rfl rfl) hl3 (fun s3 n3 oo3 h3 ho3 => ?_)
  unfold m15_l2 at h3
  refine Q2 <| Q0 <| U5 rfl rfl rfl (Q5 rfl rfl rfl) <| Q3 <| Q1 <| Q2 ?_
  refine Qe (b := (decide (s3.2 < (x20.length : Int)))) rfl (fun c23 => ?_) (fun c23 => ?_)
  replace h3 := Qm c23 h3
  refine Qg <| Q1 <| Q2 <| Qc <| Q2 <| Q0 ?_
  refine Qb h3 (fun x24 hx24 h3 => ?_)
  refine U5 rfl rfl rfl (Qi (α := UN) QU rfl (.d _) rfl hx24) <| U5 rfl rfl rfl (QI JG rfl rfl) <| U7 rfl rfl rfl <| Q3 <| Q1 <| Q2 <| Q0 <| U5 rfl rfl rfl (Q4 Y9 rfl) <| U5 rfl rfl rfl (Q7 Zc rfl rfl rfl) <| U6 rfl rfl rfl <| U5 rfl rfl rfl (JI (M := o6) (k := x24) Zb YG rfl rfl rfl) <| U6 rfl rfl rfl <| U5 rfl rfl rfl (Qp rfl rfl) <| U5 rfl rfl rfl (Qp rfl rfl) ?_
  refine U7 rfl rfl rfl <| U7 rfl rfl rfl <| Q3 <| Q1 <| Q2 <| Q2 <| Q0 <| U6 rfl rfl rfl <| U5 rfl rfl rfl (J9 rfl) <| Q3 <| Q1 ?_
  refine Qe (b := (!(Jz o6 x24))) rfl (fun c25 => ?_) (fun c25 => ?_)
  replace h3 := Qm c25 h3
  refine Q2 <| Q0 <| U5 rfl rfl rfl (Ys K5 rfl ) <| QL rfl rfl (Qw Jq rfl rfl rfl rfl (Ug rfl) rfl) <| U7 rfl rfl rfl <| Q3 <| Q1 <| Qz ?_
  have e := U3 h3; subst e
  have e_ : _ = _ := ho3
  subst e_
  try dsimp only [Sum.elim_inl, Sum.elim_inr] at h2
  have e := U3 h2; subst e
  have e_ : _ = _ := ho2
  subst e_
  try dsimp only [Sum.elim_inl, Sum.elim_inr] at h1
  have e := U3 h1; subst e
  exact hQ1 _ _ _ (.inr rfl) rfl (show StLe _ _ ⟨[(2, .v (.one (.ptr 0 0))), (3, .v (.one (Uv 9)))], [(0, .cells 72 [Uu, .d (.v (.map none))])], [], 6, 88, []⟩ from (Qf (U1 rfl (U1 rfl U0)) (Um rfl Ul) Uh rfl (Nat.le_trans hv1 (Ug rfl)) rfl rfl rfl (UE rfl rfl UB) rfl rfl))
  replace h3 := Qn c25 h3
  refine Qg <| Q1 <| Q0 <| U6 rfl rfl rfl <| U6 rfl rfl rfl <| Q9 rfl rfl (Ug rfl) (QZ (α := Int) ((Jl o6 x24)) JM Wg rfl rfl (Ug rfl) (Ug rfl) rfl rfl (.cons (.d _) .nil) rfl) ?_
  refine QQ h3 (fun g26 h3 => ?_)
  refine Q9 rfl rfl (Ug rfl) (YC (α := Int) (l := s3.1) (l2 := ([(Jl o6 x24)] : List Int)) JM XY rfl rfl rfl rfl (.app _ _) rfl g26) <| U7 rfl rfl rfl <| Q3 <| Qh <| Q1 <| Q0 <| U5 rfl rfl rfl (Q5 rfl rfl rfl) <| U6 rfl rfl rfl <| Q3 ?_
  have e := U3 h3; subst e
  refine QA ((s3.1 ++ ([(Jl o6 x24)])), (J1 (s3.2 + 1))) (Qf (U1 rfl (U1 rfl (U1 rfl (U1 rfl (U1 rfl (U1 rfl (U1 rfl (U1 rfl (U1 rfl U0))))))))) (Um rfl (Um rfl (Um rfl (Um rfl Ul)))) (Ui rfl (Ui rfl Uh)) rfl (Nat.le_trans hv1 (Ug rfl)) rfl rfl rfl (UE rfl rfl (UC rfl (UE rfl rfl (UE rfl rfl UB)))) rfl rfl) ho3
  replace h3 := Qn c23 h3
  refine QJ <| Qd <| Qd ?_
  have e := U3 h3; subst e
  have e_ : _ = _ := ho3
  subst e_
  exact QD s3.1 (Qf (U1 rfl (U1 rfl (U1 rfl (U1 rfl (U1 rfl (U1 rfl U0)))))) (Um rfl (Um rfl (Um rfl (Um rfl Ul)))) (Ui rfl (Ui rfl Uh)) rfl (Nat.le_trans hv1 (Ug rfl)) rfl rfl rfl (UE rfl rfl (UC rfl (UE rfl rfl (UE rfl rfl UB)))) rfl rfl) h2
  intro o21 h2
  refine Qu <| Q1 <| Q2 <| Q0 <| U6 rfl rfl rfl ?_
  refine Qb h2 (fun x27 hx27 h2 => ?_)
  refine Q9 rfl rfl (Ug rfl) (QW (hp1' := []) (tk1' := [(5, some ⟨3, 1, (Enc.encL o21).length, (Enc.encL x27).flatten⟩)]) (hpF := [(0, .cells 72 [Uu, .d (.v (.map none))]), (1, .mp (QT o6.1) o6.2), (2, .cells 72 [Ux 3 s2.2, .mp 1]), (4, .cells 48 (Uy x19))]) (tkF := [(3, some ⟨54, 1, (Enc.encL s2.2).length, []⟩)]) (res2 := Qy []) (nx2 := 6) [5] rfl rfl (KL o21 x27 hx27) rfl rfl U8 rfl rfl Uo (Uk rfl Uj) (Um rfl (Um rfl (Um rfl (Um rfl Ul)))) (Ui rfl Uh) rfl rfl rfl rfl rfl UB rfl rfl rfl rfl) <| Q3 <| Q1 ?_
  refine JO [3, 5, 7] [(0, 1), (1, 1)] mixed (by kernel_rfl) (by kernel_rfl) (by kernel_rfl) ?_
  refine RunA.rd rfl rfl rfl (Q6 (Q4 JP rfl)) rfl <| RunA.rd rfl rfl rfl (Q6 (Q7 Yr rfl rfl rfl)) rfl <| RunA.rd rfl rfl rfl (Q6 (J0 rfl)) rfl ?_
  refine Qb h2 (fun x28 hx28 h2 => ?_)
  refine RunA.eff rfl rfl rfl (QW (hp1' := []) (tk1' := [(6, some ⟨3, 1, (Enc.encL x28).length, []⟩)]) (hpF := [(0, .cells 72 [Uu, .d (.v (.map none))]), (1, .mp (QT o6.1) o6.2), (2, .cells 72 [Ux 3 s2.2, .mp 1]), (4, .cells 48 (Uy x19))]) (tkF := [(3, some ⟨54, 1, (Enc.encL s2.2).length, []⟩)]) (res2 := Qy [.one (Ux 6 x28)]) (nx2 := 7) [5] rfl rfl (Zs x27 ((Enc.encL o21).length) x28 hx28) rfl rfl U8 rfl rfl Uo (Uk rfl Uj) (Um rfl (Um rfl (Um rfl (Um rfl Ul)))) (Ui rfl Uh) rfl rfl rfl rfl rfl UB rfl rfl rfl rfl) rfl <| RunA.rd rfl rfl rfl (Yi (α := List Int) (x28) Y1 Wa rfl rfl (Ug rfl) rfl rfl (.cons (.app _ _ _) .nil) rfl) rfl ?_
  refine QQ h2 (fun g29 h2 => ?_)
  refine RunA.eff rfl rfl rfl (QO (α := List Int) Y1 XM rfl rfl rfl rfl rfl (.d _) g29) rfl <| RunA.rd rfl rfl rfl (Q6 (Q4 JP rfl)) rfl <| RunA.eff rfl rfl rfl (Qw Yr rfl rfl rfl rfl (Ug rfl) rfl) rfl ?_
  refine RunA.nil ⟨?ex, _, _, rfl, ?_⟩
  case ex => exact ⟨⟨_, rfl, _, _, rfl, rfl, rfl, .inl ⟨rfl, _, Q6 (Q4 JP rfl), rfl⟩⟩, ⟨_, rfl, _, _, rfl, rfl, rfl, .inl ⟨rfl, _, Q6 (Q7 Yr rfl rfl rfl), rfl⟩⟩, trivial⟩
  refine JV (st' := ⟨[(2, .v (.one (.ptr 0 0))), (4, .v (.one (.ptr 2 0))), (49, .v (.one (Ut a0))), (50, .v (.one (Uv (a0.length : Int)))), (51, .v (.one (Uv s2.1)))], [(0, .cells 72 [Uu, .d (.v (.map none))]), (1, .mp (QT o6.1) o6.2), (2, .cells 72 [Ux 3 ((s2.2 ++ ([x28])) : List (List Int)), .mp 1]), (4, .cells 48 (Uy x19))], [(3, some ⟨54, 1, (Enc.encL ((s2.2 ++ ([x28])) : List (List Int))).length, []⟩), (6, some ⟨3, 1, (Enc.encL x28).length, []⟩)], 7, 88, []⟩) (Qf (U1 rfl (U1 rfl (U1 rfl (U1 rfl (U1 rfl U0))))) (Um rfl (Um rfl (Um rfl (Um rfl Ul)))) (Ui rfl (Ui rfl Uh)) rfl (Nat.le_trans hv1 (Ug rfl)) rfl rfl rfl (UE rfl rfl (UC rfl (UE rfl rfl (UE rfl rfl UB)))) rfl rfl) <| Qh <| Q1 <| Q0 <| U5 rfl rfl rfl (Q5 rfl rfl rfl) <| U6 rfl rfl rfl <| Q3 ?_
  have e := U3 h2; subst e
  refine QA ((J1 (s2.1 + 1)), (s2.2 ++ ([x28]))) (Qf (U1 rfl (U1 rfl (U1 rfl (U1 rfl (U1 rfl U0))))) (Um rfl (Um rfl (Um rfl Ul))) (Ui rfl Uh) rfl (Nat.le_trans hv1 (Ug rfl)) rfl rfl rfl (UE rfl rfl (UC rfl (UE rfl rfl UB))) rfl rfl) ho2
  replace h2 := Qn c18 h2
  refine QJ <| Qd <| Qd ?_
  have e := U3 h2; subst e
  have e_ : _ = _ := ho2
  subst e_
  exact QD s2.2 (Qf (U1 rfl (U1 rfl U0)) (Um rfl (Um rfl (Um rfl Ul))) (Ui rfl Uh) rfl (Nat.le_trans hv1 (Ug rfl)) rfl rfl rfl (UE rfl rfl (UC rfl (UE rfl rfl UB))) rfl rfl) h1
  intro o16 h1
  refine Qu <| Q1 <| Q2 <| Q0 <| U5 rfl rfl rfl (Qq Jq rfl rfl rfl rfl) <| QL rfl rfl (Qw Jq rfl rfl rfl rfl (Ug rfl) rfl) <| U7 rfl rfl rfl <| Q3 <| Q1 <| Qz ?_
  have e := U3 h1; subst e
  exact hQ1 _ _ _ (.inr rfl) rfl (show StLe _ _ ⟨[(2, .v (.one (.ptr 0 0))), (3, .v (.one (Uv 0)))], [(0, .cells 72 [Ux 3 o16, .mp 1]), (1, .mp (QT o6.1) o6.2)], [(3, some ⟨54, 1, (Enc.encL o16).length, []⟩)], 4, 88, []⟩ from (Qf (U1 rfl (U1 rfl U0)) (Um rfl (Um rfl Ul)) (Ui rfl Uh) rfl (Nat.le_trans hv1 (Ug rfl)) rfl rfl rfl (UE rfl rfl (UC rfl UB)) rfl rfl))
 refine GK (C := fun q_ => CallM Try.prog 34 [.one (Ut a0)] ⟨[], [], 0⟩ (Qy (((Sum.elim (fun (y1 : (List (List Int)) × (Qj UN Int)) => ([.agg [Ux 3 y1.1, .mp 1], .one (Uv 0)] : List AV)) (Sum.elim (fun (y2 : Unit) => ([.agg [Uu, .d (.v (.map none))], .one (Uv 8)] : List AV)) (fun (y3 : Unit) => ([.agg [Uu, .d (.v (.map none))], .one (Uv 9)] : List AV))))) q_)) ⟨(((Sum.elim (fun (y1 : (List (List Int)) × (Qj UN Int)) => (⟨[(2, .v (.one (.ptr 0 0))), (3, .v (.one (Uv 0)))], [(0, .cells 72 [Ux 3 y1.1, .mp 1]), (1, .mp (QT y1.2.1) y1.2.2)], [(3, some ⟨54, 1, (Enc.encL y1.1).length, []⟩)], 4, 88, []⟩ : St)) (Sum.elim (fun (y2 : Unit) => (⟨[(2, .v (.one (.ptr 0 0))), (3, .v (.one (Uv 8)))], [(0, .cells 72 [Uu, .d (.v (.map none))])], [], 4, 88, []⟩ : St)) (fun (y3 : Unit) => (⟨[(2, .v (.one (.ptr 0 0))), (3, .v (.one (Uv 9)))], [(0, .cells 72 [Uu, .d (.v (.map none))])], [], 6, 88, []⟩ : St))))) q_).hp, (((Sum.elim (fun (y1 : (List (List Int)) × (Qj UN Int)) => (⟨[(2, .v (.one (.ptr 0 0))), (3, .v (.one (Uv 0)))], [(0, .cells 72 [Ux 3 y1.1, .mp 1]), (1, .mp (QT y1.2.1) y1.2.2)], [(3, some ⟨54, 1, (Enc.encL y1.1).length, []⟩)], 4, 88, []⟩ : St)) (Sum.elim (fun (y2 : Unit) => (⟨[(2, .v (.one (.ptr 0 0))), (3, .v (.one (Uv 8)))], [(0, .cells 72 [Uu, .d (.v (.map none))])], [], 4, 88, []⟩ : St)) (fun (y3 : Unit) => (⟨[(2, .v (.one (.ptr 0 0))), (3, .v (.one (Uv 9)))], [(0, .cells 72 [Uu, .d (.v (.map none))])], [], 6, 88, []⟩ : St))))) q_).tk, (((Sum.elim (fun (y1 : (List (List Int)) × (Qj UN Int)) => (⟨[(2, .v (.one (.ptr 0 0))), (3, .v (.one (Uv 0)))], [(0, .cells 72 [Ux 3 y1.1, .mp 1]), (1, .mp (QT y1.2.1) y1.2.2)], [(3, some ⟨54, 1, (Enc.encL y1.1).length, []⟩)], 4, 88, []⟩ : St)) (Sum.elim (fun (y2 : Unit) => (⟨[(2, .v (.one (.ptr 0 0))), (3, .v (.one (Uv 8)))], [(0, .cells 72 [Uu, .d (.v (.map none))])], [], 4, 88, []⟩ : St)) (fun (y3 : Unit) => (⟨[(2, .v (.one (.ptr 0 0))), (3, .v (.one (Uv 9)))], [(0, .cells 72 [Uu, .d (.v (.map none))])], [], 6, 88, []⟩ : St))))) q_).nx⟩) hc4 h0 (fun y1 hc4 h0 => ?_) (fun z_ hc4 h0 => GK (C := fun q_ => CallM Try.prog 34 [.one (Ut a0)] ⟨[], [], 0⟩ (Qy (((Sum.elim (fun (y1 : (List (List Int)) × (Qj UN Int)) => ([.agg [Ux 3 y1.1, .mp 1], .one (Uv 0)] : List AV)) (Sum.elim (fun (y2 : Unit) => ([.agg [Uu, .d (.v (.map none))], .one (Uv 8)] : List AV)) (fun (y3 : Unit) => ([.agg [Uu, .d (.v (.map none))], .one (Uv 9)] : List AV))))) (.inr q_))) ⟨(((Sum.elim (fun (y1 : (List (List Int)) × (Qj UN Int)) => (⟨[(2, .v (.one (.ptr 0 0))), (3, .v (.one (Uv 0)))], [(0, .cells 72 [Ux 3 y1.1, .mp 1]), (1, .mp (QT y1.2.1) y1.2.2)], [(3, some ⟨54, 1, (Enc.encL y1.1).length, []⟩)], 4, 88, []⟩ : St)) (Sum.elim (fun (y2 : Unit) => (⟨[(2, .v (.one (.ptr 0 0))), (3, .v (.one (Uv 8)))], [(0, .cells 72 [Uu, .d (.v (.map none))])], [], 4, 88, []⟩ : St)) (fun (y3 : Unit) => (⟨[(2, .v (.one (.ptr 0 0))), (3, .v (.one (Uv 9)))], [(0, .cells 72 [Uu, .d (.v (.map none))])], [], 6, 88, []⟩ : St))))) (.inr q_)).hp, (((Sum.elim (fun (y1 : (List (List Int)) × (Qj UN Int)) => (⟨[(2, .v (.one (.ptr 0 0))), (3, .v (.one (Uv 0)))], [(0, .cells 72 [Ux 3 y1.1, .mp 1]), (1, .mp (QT y1.2.1) y1.2.2)], [(3, some ⟨54, 1, (Enc.encL y1.1).length, []⟩)], 4, 88, []⟩ : St)) (Sum.elim (fun (y2 : Unit) => (⟨[(2, .v (.one (.ptr 0 0))), (3, .v (.one (Uv 8)))], [(0, .cells 72 [Uu, .d (.v (.map none))])], [], 4, 88, []⟩ : St)) (fun (y3 : Unit) => (⟨[(2, .v (.one (.ptr 0 0))), (3, .v (.one (Uv 9)))], [(0, .cells 72 [Uu, .d (.v (.map none))])], [], 6, 88, []⟩ : St))))) (.inr q_)).tk, (((Sum.elim (fun (y1 : (List (List Int)) × (Qj UN Int)) => (⟨[(2, .v (.one (.ptr 0 0))), (3, .v (.one (Uv 0)))], [(0, .cells 72 [Ux 3 y1.1, .mp 1]), (1, .mp (QT y1.2.1) y1.2.2)], [(3, some ⟨54, 1, (Enc.encL y1.1).length, []⟩)], 4, 88, []⟩ : St)) (Sum.elim (fun (y2 : Unit) => (⟨[(2, .v (.one (.ptr 0 0))), (3, .v (.one (Uv 8)))], [(0, .cells 72 [Uu, .d (.v (.map none))])], [], 4, 88, []⟩ : St)) (fun (y3 : Unit) => (⟨[(2, .v (.one (.ptr 0 0))), (3, .v (.one (Uv 9)))], [(0, .cells 72 [Uu, .d (.v (.map none))])], [], 6, 88, []⟩ : St))))) (.inr q_)).nx⟩) hc4 h0 (fun y2 hc4 h0 => ?_) (fun y3 hc4 h0 => ?_))
 replace hc4 : CallM Try.prog 34 [.one (Ut a0)] ⟨[], [], 0⟩ (Qy [.agg [Ux 3 y1.1, .mp 1], .one (Uv 0)]) ⟨[(0, .cells 72 [Ux 3 y1.1, .mp 1]), (1, .mp (QT y1.2.1) y1.2.2)], [(3, some ⟨54, 1, (Enc.encL y1.1).length, []⟩)], 4⟩ := hc4
 refine Q9 rfl rfl (Ug rfl) (J4 rfl rfl rfl hc4 rfl Ul Uh) <| U6 rfl rfl rfl <| U5 rfl rfl rfl (Qp rfl rfl) <| U5 rfl rfl rfl (Qp rfl rfl) <| Q9 rfl rfl (Ug rfl) (QC Zw rfl) <| QL rfl rfl (Qw Jq rfl rfl rfl rfl (Ug rfl) rfl) <| U7 rfl rfl rfl <| Q3 <| Q1 <| Q2 <| Q2 <| Q0 <| U6 rfl rfl rfl <| U5 rfl rfl rfl (Q5 rfl rfl rfl) ?_
 refine Q3 <| Q1 ?_
 refine Qe rfl (fun h => nomatch h) (fun _ => ?_)
 refine Qg <| Q1 <| Q2 <| Q0 <| U5 rfl rfl rfl (Qq Jq rfl rfl rfl rfl) <| U5 rfl rfl rfl (Q4 JP rfl) <| U5 rfl rfl rfl (Q7 Yr rfl rfl rfl) <| U6 rfl rfl rfl ?_
 refine Qb h0 (fun y33 h1 h0 => ?_)
 have hc32 : CallM Try.prog 35 [.agg [Ux 3 y1.1, .mp 1], .one (Ux 3 y1.1), .one (Ut a1)] ⟨[(0, .cells 72 [Ux 3 y1.1, .mp 1]), (1, .mp (QT y1.2.1) y1.2.2), (4, .cells 72 [Ux 3 y1.1, .mp 1])], [(3, some ⟨54, 1, (Enc.encL y1.1).length, []⟩)], 5⟩ (Qy (((Sum.elim (fun (y30 : Unit) => ([.one (Uu), .one (Uv 9)] : List AV)) (fun (y31 : (List Bool)) => ([.one (.osl 7 0 ((y1.1.length : Int).toNat) ((y1.1.length : Int).toNat)), .one (Uv 0)] : List AV)))) y33)) ⟨(((Sum.elim (fun (y30 : Unit) => (⟨[(6, .v (.one (Uu))), (7, .v (.one (Uv 9)))], [(0, .cells 72 [Ux 3 y1.1, .mp 1]), (1, .mp (QT y1.2.1) y1.2.2), (4, .cells 72 [Ux 3 y1.1, .mp 1])], [(3, some ⟨54, 1, (Enc.encL y1.1).length, []⟩)], 10, 38, []⟩ : St)) (fun (y31 : (List Bool)) => (⟨[(6, .v (.one (.osl 7 0 ((y1.1.length : Int).toNat) ((y1.1.length : Int).toNat)))), (7, .v (.one (Uv 0)))], [(0, .cells 72 [Ux 3 y1.1, .mp 1]), (1, .mp (QT y1.2.1) y1.2.2), (4, .cells 72 [Ux 3 y1.1, .mp 1]), (7, .cells 4 (Qa y31))], [(3, some ⟨54, 1, (Enc.encL y1.1).length, []⟩)], 10, 38, []⟩ : St)))) y33).hp, (((Sum.elim (fun (y30 : Unit) => (⟨[(6, .v (.one (Uu))), (7, .v (.one (Uv 9)))], [(0, .cells 72 [Ux 3 y1.1, .mp 1]), (1, .mp (QT y1.2.1) y1.2.2), (4, .cells 72 [Ux 3 y1.1, .mp 1])], [(3, some ⟨54, 1, (Enc.encL y1.1).length, []⟩)], 10, 38, []⟩ : St)) (fun (y31 : (List Bool)) => (⟨[(6, .v (.one (.osl 7 0 ((y1.1.length : Int).toNat) ((y1.1.length : Int).toNat)))), (7, .v (.one (Uv 0)))], [(0, .cells 72 [Ux 3 y1.1, .mp 1]), (1, .mp (QT y1.2.1) y1.2.2), (4, .cells 72 [Ux 3 y1.1, .mp 1]), (7, .cells 4 (Qa y31))], [(3, some ⟨54, 1, (Enc.encL y1.1).length, []⟩)], 10, 38, []⟩ : St)))) y33).tk, (((Sum.elim (fun (y30 : Unit) => (⟨[(6, .v (.one (Uu))), (7, .v (.one (Uv 9)))], [(0, .cells 72 [Ux 3 y1.1, .mp 1]), (1, .mp (QT y1.2.1) y1.2.2), (4, .cells 72 [Ux 3 y1.1, .mp 1])], [(3, some ⟨54, 1, (Enc.encL y1.1).length, []⟩)], 10, 38, []⟩ : St)) (fun (y31 : (List Bool)) => (⟨[(6, .v (.one (.osl 7 0 ((y1.1.length : Int).toNat) ((y1.1.length : Int).toNat)))), (7, .v (.one (Uv 0)))], [(0, .cells 72 [Ux 3 y1.1, .mp 1]), (1, .mp (QT y1.2.1) y1.2.2), (4, .cells 72 [Ux 3 y1.1, .mp 1]), (7, .cells 4 (Qa y31))], [(3, some ⟨54, 1, (Enc.encL y1.1).length, []⟩)], 10, 38, []⟩ : St)))) y33).nx⟩ := by
  refine JN y33 ((Sum.elim (fun (y30 : Unit) => (⟨[(6, .v (.one (Uu))), (7, .v (.one (Uv 9)))], [(0, .cells 72 [Ux 3 y1.1, .mp 1]), (1, .mp (QT y1.2.1) y1.2.2), (4, .cells 72 [Ux 3 y1.1, .mp 1])], [(3, some ⟨54, 1, (Enc.encL y1.1).length, []⟩)], 10, 38, []⟩ : St)) (fun (y31 : (List Bool)) => (⟨[(6, .v (.one (.osl 7 0 ((y1.1.length : Int).toNat) ((y1.1.length : Int).toNat)))), (7, .v (.one (Uv 0)))], [(0, .cells 72 [Ux 3 y1.1, .mp 1]), (1, .mp (QT y1.2.1) y1.2.2), (4, .cells 72 [Ux 3 y1.1, .mp 1]), (7, .cells 4 (Qa y31))], [(3, some ⟨54, 1, (Enc.encL y1.1).length, []⟩)], 10, 38, []⟩ : St)))) ((Sum.elim (fun (y30 : Unit) => ([.one (Uu), .one (Uv 9)] : List AV)) (fun (y31 : (List Bool)) => ([.one (.osl 7 0 ((y1.1.length : Int).toNat) ((y1.1.length : Int).toNat)), .one (Uv 0)] : List AV)))) rfl rfl en_35 (Ug rfl) (fun z_ => by cases z_ <;> rfl) (fun z_ => by cases z_ with
    | inl _ => exact (Qk rfl (Qk rfl .nil))
    | inr _ => exact (Qk rfl (Qk rfl .nil))) (fun w0 M V0 Q hv1 hQ1 => ?_)
  simp only [J8]
  refine Q2 <| Q0 <| Q9 rfl rfl (Ug rfl) (Jc rfl) <| Q9 rfl rfl (Ug rfl) (Jc rfl) <| U7 rfl rfl rfl <| U7 rfl rfl rfl <| Q3 <| Q1 <| Q2 <| Q0 <| U5 rfl rfl rfl (Q7 Yr rfl rfl rfl) <| U5 rfl rfl rfl (QB (α := List Int) Y1 rfl (.app _ _)) ?_
  refine QQ h1 (fun g34 h1 => ?_)
  refine Q9 rfl rfl (Ug rfl) (OpOK.makeO (α := Bool) (z := false) YM WS rfl rfl Wx rfl rfl g34 rfl (by repeat (first | exact CLs.nil | refine CLs.cons (by first | exact .refl _ | exact .sub (.app _ _ _) | exact .sub (.nil _)) ?_))) ?_
  refine Q9 rfl rfl (Ug rfl) (QC z_75 rfl) <| QL rfl rfl (Qw Kc rfl rfl rfl rfl (Ug rfl) rfl) <| Q3 <| Q1 <| Q2 <| Q0 <| Q9 rfl rfl (Ug rfl) (QC z_106 rfl) <| Q3 <| Q1 <| Q2 <| Q0 <| U5 rfl rfl rfl (RO.makeFunc3 rfl rfl rfl) <| QL rfl rfl (Qw G9 rfl rfl rfl rfl (Ug rfl) rfl) <| Q3 ?_
  refine Q1 <| Q2 <| Q2 <| Q0 <| U6 rfl rfl rfl <| U5 rfl rfl rfl (QB (α := UN) QU rfl (.d _)) <| U6 rfl rfl rfl <| Q3 <| Q1 <| Qc ?_
  refine QF 0 (fun (o35 : (List Bool)) => ⟨[(8, .v (.one (.ptr 8 0)))], [(0, .cells 72 [Ux 3 y1.1, .mp 1]), (1, .mp (QT y1.2.1) y1.2.2), (4, .cells 72 [Ux 3 y1.1, .mp 1]), (5, .cells 72 [Ux 3 y1.1, .mp 1]), (6, .cells 57 [Ux 3 y1.1]), (7, .cells 4 (Qa o35)), (8, .cells 75 [.osl 7 0 ((y1.1.length : Int).toNat) ((y1.1.length : Int).toNat)]), (9, .cells 106 [.fn 56 [(8, 0), (6, 0), (9, 0)]])], [(3, some ⟨54, 1, (Enc.encL y1.1).length, []⟩)], 10, 38, []⟩) (fun (o35 : (List Bool)) => (some (.inr o35)) = some y33) ?_ ?_
  refine Qb h1 (fun o36 hl2 h1 => ?_)
  refine QE (XH a1 y1) (fun s2 => ⟨[(3, .v (.one (.ptr 5 0))), (8, .v (.one (.ptr 8 0))), (9, .v (.one (.ptr 9 0))), (18, .v (.one (Ut a1))), (19, .v (.one (Uv (a1.length : Int)))), (20, .v (.one (Uv s2.1)))], [(0, .cells 72 [Ux 3 y1.1, .mp 1]), (1, .mp (QT y1.2.1) y1.2.2), (4, .cells 72 [Ux 3 y1.1, .mp 1]), (5, .cells 72 [Ux 3 y1.1, .mp 1]), (6, .cells 57 [Ux 3 y1.1]), (7, .cells 4 (Qa s2.2)), (8, .cells 75 [.osl 7 0 ((y1.1.length : Int).toNat) ((y1.1.length : Int).toNat)]), (9, .cells 106 [.fn 56 [(8, 0), (6, 0), (9, 0)]])], [(3, some ⟨54, 1, (Enc.encL y1.1).length, []⟩)], 10, 38, []⟩) (0, (List.replicate (y1.1.length : Int).toNat false)) o36 (Qf (U1 rfl (U1 rfl (U1 rfl (U1 rfl (U1 rfl (U1 rfl U0)))))) (Um rfl (Um rfl (Um rfl (Um rfl (Um rfl (Um rfl (Um rfl (Um rfl Ul)))))))) (Ui rfl Uh) rfl (Nat.le_trans hv1 (Ug rfl)) rfl rfl rfl (UE rfl rfl (UC rfl (UE rfl rfl (UE rfl rfl (UE rfl rfl (UD rfl (UE rfl rfl (UE rfl rfl UB)))))))) rfl rfl) hl2 (fun s2 n2 oo2 h2 ho2 => ?_)
  unfold XH at h2
  refine Q2 <| Q0 <| U5 rfl rfl rfl (Q5 rfl rfl rfl) <| Q3 <| Q1 <| Q2 ?_
  refine Qe (b := (decide (s2.1 < (a1.length : Int)))) rfl (fun c37 => ?_) (fun c37 => ?_)
  replace h2 := Qm c37 h2
  refine Qg <| Q1 <| Q2 <| Qc <| Q2 <| Q0 ?_
  refine Qb h2 (fun x38 hx38 h2 => ?_)
  refine U5 rfl rfl rfl (Qi (α := UN) QU rfl (.d _) rfl hx38) <| U5 rfl rfl rfl (QI JG rfl rfl) <| U7 rfl rfl rfl <| Q3 <| Q1 <| Q2 <| Q0 <| U5 rfl rfl rfl (Q4 Y9 rfl) <| U5 rfl rfl rfl (Q7 Zc rfl rfl rfl) <| U6 rfl rfl rfl <| U5 rfl rfl rfl (JI (M := y1.2) (k := x38) Zb YG rfl rfl rfl) <| U6 rfl rfl rfl <| U5 rfl rfl rfl (Qp rfl rfl) <| U5 rfl rfl rfl (Qp rfl rfl) ?_
  refine U7 rfl rfl rfl <| U7 rfl rfl rfl <| Q3 <| Q1 <| Q2 <| Q2 <| Q0 <| U6 rfl rfl rfl <| U5 rfl rfl rfl (J9 rfl) <| Q3 <| Q1 ?_
  refine Qe (b := (!(Jz y1.2 x38))) rfl (fun c39 => ?_) (fun c39 => ?_)
  replace h2 := Qm c39 h2
  refine Q2 <| Q0 <| U7 rfl rfl rfl <| U7 rfl rfl rfl <| Q3 <| Q1 <| Qz ?_
  have e := U3 h2; subst e
  have e_ : _ = _ := ho2
  subst e_
  try dsimp only [Sum.elim_inl, Sum.elim_inr] at h1
  have e := U3 h1; subst e
  exact hQ1 _ _ _ (.inr rfl) rfl (show StLe _ _ ⟨[(6, .v (.one (Uu))), (7, .v (.one (Uv 9)))], [(0, .cells 72 [Ux 3 y1.1, .mp 1]), (1, .mp (QT y1.2.1) y1.2.2), (4, .cells 72 [Ux 3 y1.1, .mp 1])], [(3, some ⟨54, 1, (Enc.encL y1.1).length, []⟩)], 10, 38, []⟩ from (Qf (U1 rfl (U1 rfl U0)) (Um rfl (Um rfl (Um rfl Ul))) (Ui rfl Uh) rfl (Nat.le_trans hv1 (Ug rfl)) rfl rfl rfl (UE rfl rfl (UC rfl (UE rfl rfl UB))) rfl rfl))
  replace h2 := Qn c39 h2
  refine Qg <| Q1 <| Q0 <| U5 rfl rfl rfl (Q7 G9 rfl rfl rfl) <| U6 rfl rfl rfl ?_
  refine Qb h2 (fun x40 hx40 h2 => ?_)
  refine Q9 rfl rfl (Ug rfl) (QW (hp1' := [(8, .cells 75 [.osl 7 0 ((y1.1.length : Int).toNat) ((y1.1.length : Int).toNat)]), (7, .cells 4 (Qa x40)), (6, .cells 57 [Ux 3 y1.1]), (9, .cells 106 [.fn 56 [(8, 0), (6, 0), (9, 0)]])]) (tk1' := [(3, some ⟨54, 1, (Enc.encL y1.1).length, []⟩)]) (hpF := [(0, .cells 72 [Ux 3 y1.1, .mp 1]), (1, .mp (QT y1.2.1) y1.2.2), (4, .cells 72 [Ux 3 y1.1, .mp 1]), (5, .cells 72 [Ux 3 y1.1, .mp 1])]) (tkF := []) (res2 := Qy []) (nx2 := 10) [8, 7, 6, 3, 9] rfl rfl (m56f11_ok (Jl y1.2 x38) ((y1.1.length : Int).toNat) s2.2 y1.1 x40 hx40) rfl rfl (Ub rfl rfl (Ua rfl (Ub rfl rfl (Ub rfl rfl U8)))) rfl rfl (Uq rfl (Us rfl (Uq rfl (Uq rfl Uo)))) (Uk rfl Uj) (Um rfl (Um rfl (Um rfl (Um rfl Ul)))) Uh rfl rfl rfl rfl rfl (UE rfl rfl (UD rfl (UE rfl rfl (UE rfl rfl UB)))) rfl rfl rfl rfl) <| Q3 <| Qh <| Q1 <| Q0 <| U5 rfl rfl rfl (Q5 rfl rfl rfl) <| U6 rfl rfl rfl <| Q3 ?_
  have e := U3 h2; subst e
  refine QA ((J1 (s2.1 + 1)), x40) (Qf (U1 rfl (U1 rfl (U1 rfl (U1 rfl (U1 rfl (U1 rfl U0)))))) (Um rfl (Um rfl (Um rfl (Um rfl (Um rfl (Um rfl (Um rfl (Um rfl Ul)))))))) (Ui rfl Uh) rfl (Nat.le_trans hv1 (Ug rfl)) rfl rfl rfl (UE rfl rfl (UC rfl (UE rfl rfl (UE rfl rfl (UE rfl rfl (UD rfl (UE rfl rfl (UE rfl rfl UB)))))))) rfl rfl) ho2
  replace h2 := Qn c37 h2
  refine QJ <| Qd <| Qd ?_
  have e := U3 h2; subst e
  have e_ : _ = _ := ho2
  subst e_
  exact QD s2.2 (Qf (U1 rfl U0) (Um rfl (Um rfl (Um rfl (Um rfl (Um rfl (Um rfl (Um rfl (Um rfl Ul)))))))) (Ui rfl Uh) rfl (Nat.le_trans hv1 (Ug rfl)) rfl rfl rfl (UE rfl rfl (UC rfl (UE rfl rfl (UE rfl rfl (UE rfl rfl (UD rfl (UE rfl rfl (UE rfl rfl UB)))))))) rfl rfl) h1
  intro o35 h1
  refine Qu <| Q1 <| Q2 <| Q0 <| U5 rfl rfl rfl (Q7 Kc rfl rfl rfl) <| U7 rfl rfl rfl <| U7 rfl rfl rfl <| Q3 <| Q1 <| Qz ?_
  have e := U3 h1; subst e
  exact hQ1 _ _ _ (.inr rfl) rfl (show StLe _ _ ⟨[(6, .v (.one (.osl 7 0 ((y1.1.length : Int).toNat) ((y1.1.length : Int).toNat)))), (7, .v (.one (Uv 0)))], [(0, .cells 72 [Ux 3 y1.1, .mp 1]), (1, .mp (QT y1.2.1) y1.2.2), (4, .cells 72 [Ux 3 y1.1, .mp 1]), (7, .cells 4 (Qa o35))], [(3, some ⟨54, 1, (Enc.encL y1.1).length, []⟩)], 10, 38, []⟩ from (Qf (U1 rfl (U1 rfl U0)) (Um rfl (Um rfl (Um rfl (Um rfl Ul)))) (Ui rfl Uh) rfl (Nat.le_trans hv1 (Ug rfl)) rfl rfl rfl (UE rfl rfl (UC rfl (UE rfl rfl (UD rfl UB)))) rfl rfl))
 refine GK (C := fun q_ => CallM Try.prog 35 [.agg [Ux 3 y1.1, .mp 1], .one (Ux 3 y1.1), .one (Ut a1)] ⟨[(0, .cells 72 [Ux 3 y1.1, .mp 1]), (1, .mp (QT y1.2.1) y1.2.2), (4, .cells 72 [Ux 3 y1.1, .mp 1])], [(3, some ⟨54, 1, (Enc.encL y1.1).length, []⟩)], 5⟩ (Qy (((Sum.elim (fun (y30 : Unit) => ([.one (Uu), .one (Uv 9)] : List AV)) (fun (y31 : (List Bool)) => ([.one (.osl 7 0 ((y1.1.length : Int).toNat) ((y1.1.length : Int).toNat)), .one (Uv 0)] : List AV)))) q_)) ⟨(((Sum.elim (fun (y30 : Unit) => (⟨[(6, .v (.one (Uu))), (7, .v (.one (Uv 9)))], [(0, .cells 72 [Ux 3 y1.1, .mp 1]), (1, .mp (QT y1.2.1) y1.2.2), (4, .cells 72 [Ux 3 y1.1, .mp 1])], [(3, some ⟨54, 1, (Enc.encL y1.1).length, []⟩)], 10, 38, []⟩ : St)) (fun (y31 : (List Bool)) => (⟨[(6, .v (.one (.osl 7 0 ((y1.1.length : Int).toNat) ((y1.1.length : Int).toNat)))), (7, .v (.one (Uv 0)))], [(0, .cells 72 [Ux 3 y1.1, .mp 1]), (1, .mp (QT y1.2.1) y1.2.2), (4, .cells 72 [Ux 3 y1.1, .mp 1]), (7, .cells 4 (Qa y31))], [(3, some ⟨54, 1, (Enc.encL y1.1).length, []⟩)], 10, 38, []⟩ : St)))) q_).hp, (((Sum.elim (fun (y30 : Unit) => (⟨[(6, .v (.one (Uu))), (7, .v (.one (Uv 9)))], [(0, .cells 72 [Ux 3 y1.1, .mp 1]), (1, .mp (QT y1.2.1) y1.2.2), (4, .cells 72 [Ux 3 y1.1, .mp 1])], [(3, some ⟨54, 1, (Enc.encL y1.1).length, []⟩)], 10, 38, []⟩ : St)) (fun (y31 : (List Bool)) => (⟨[(6, .v (.one (.osl 7 0 ((y1.1.length : Int).toNat) ((y1.1.length : Int).toNat)))), (7, .v (.one (Uv 0)))], [(0, .cells 72 [Ux 3 y1.1, .mp 1]), (1, .mp (QT y1.2.1) y1.2.2), (4, .cells 72 [Ux 3 y1.1, .mp 1]), (7, .cells 4 (Qa y31))], [(3, some ⟨54, 1, (Enc.encL y1.1).length, []⟩)], 10, 38, []⟩ : St)))) q_).tk, (((Sum.elim (fun (y30 : Unit) => (⟨[(6, .v (.one (Uu))), (7, .v (.one (Uv 9)))], [(0, .cells 72 [Ux 3 y1.1, .mp 1]), (1, .mp (QT y1.2.1) y1.2.2), (4, .cells 72 [Ux 3 y1.1, .mp 1])], [(3, some ⟨54, 1, (Enc.encL y1.1).length, []⟩)], 10, 38, []⟩ : St)) (fun (y31 : (List Bool)) => (⟨[(6, .v (.one (.osl 7 0 ((y1.1.length : Int).toNat) ((y1.1.length : Int).toNat)))), (7, .v (.one (Uv 0)))], [(0, .cells 72 [Ux 3 y1.1, .mp 1]), (1, .mp (QT y1.2.1) y1.2.2), (4, .cells 72 [Ux 3 y1.1, .mp 1]), (7, .cells 4 (Qa y31))], [(3, some ⟨54, 1, (Enc.encL y1.1).length, []⟩)], 10, 38, []⟩ : St)))) q_).nx⟩) hc32 h0 (fun y30 hc32 h0 => ?_) (fun y31 hc32 h0 => ?_)
 replace hc32 : CallM Try.prog 35 [.agg [Ux 3 y1.1, .mp 1], .one (Ux 3 y1.1), .one (Ut a1)] ⟨[(0, .cells 72 [Ux 3 y1.1, .mp 1]), (1, .mp (QT y1.2.1) y1.2.2), (4, .cells 72 [Ux 3 y1.1, .mp 1])], [(3, some ⟨54, 1, (Enc.encL y1.1).length, []⟩)], 5⟩ (Qy [.one (Uu), .one (Uv 9)]) ⟨[(0, .cells 72 [Ux 3 y1.1, .mp 1]), (1, .mp (QT y1.2.1) y1.2.2), (4, .cells 72 [Ux 3 y1.1, .mp 1])], [(3, some ⟨54, 1, (Enc.encL y1.1).length, []⟩)], 10⟩ := hc32
 refine Q9 rfl rfl (Ug rfl) (J4 rfl rfl rfl hc32 rfl (Um rfl (Um rfl (Um rfl Ul))) (Ui rfl Uh)) <| U6 rfl rfl rfl <| U5 rfl rfl rfl (Qp rfl rfl) <| U5 rfl rfl rfl (Qp rfl rfl) <| U7 rfl rfl rfl <| U7 rfl rfl rfl <| Q3 <| Q1 <| Q2 <| Q2 <| Q0 <| U6 rfl rfl rfl <| U5 rfl rfl rfl (Q5 rfl rfl rfl) <| Q3 ?_
 refine Q1 ?_
 refine Qe rfl (fun _ => ?_) (fun h => nomatch h)
 refine Q2 <| Q0 <| U6 rfl rfl rfl <| U7 rfl rfl rfl <| U7 rfl rfl rfl <| Q3 <| Q1 <| Qz ?_
 have e := U3 h0; subst e
 exact QK (fun _ _ h => h) rfl (Qk rfl (Qk rfl .nil)) (.cons (.one (.nil _)) (.cons (.one (.d _)) .nil))
 replace hc32 : CallM Try.prog 35 [.agg [Ux 3 y1.1, .mp 1], .one (Ux 3 y1.1), .one (Ut a1)] ⟨[(0, .cells 72 [Ux 3 y1.1, .mp 1]), (1, .mp (QT y1.2.1) y1.2.2), (4, .cells 72 [Ux 3 y1.1, .mp 1])], [(3, some ⟨54, 1, (Enc.encL y1.1).length, []⟩)], 5⟩ (Qy [.one (.osl 7 0 ((y1.1.length : Int).toNat) ((y1.1.length : Int).toNat)), .one (Uv 0)]) ⟨[(0, .cells 72 [Ux 3 y1.1, .mp 1]), (1, .mp (QT y1.2.1) y1.2.2), (4, .cells 72 [Ux 3 y1.1, .mp 1]), (7, .cells 4 (Qa y31))], [(3, some ⟨54, 1, (Enc.encL y1.1).length, []⟩)], 10⟩ := hc32
 refine Q9 rfl rfl (Ug rfl) (J4 rfl rfl rfl hc32 rfl (Um rfl (Um rfl (Um rfl Ul))) (Ui rfl Uh)) <| U6 rfl rfl rfl <| U5 rfl rfl rfl (Qp rfl rfl) <| U5 rfl rfl rfl (Qp rfl rfl) <| U7 rfl rfl rfl <| U7 rfl rfl rfl <| Q3 <| Q1 <| Q2 <| Q2 <| Q0 <| U6 rfl rfl rfl <| U5 rfl rfl rfl (Q5 rfl rfl rfl) <| Q3 ?_
 refine Q1 ?_
 refine Qe rfl (fun h => nomatch h) (fun _ => ?_)
 refine Qg <| Q1 <| Q2 <| Q0 <| U7 rfl rfl rfl <| Q3 <| Q1 <| Q2 <| Q2 <| Q0 <| U6 rfl rfl rfl <| U5 rfl rfl rfl (QB (α := Dcl) Jm rfl (.d _)) <| U6 rfl rfl rfl <| Q3 ?_
 refine Q1 <| Qc ?_
 refine QF 0 (fun (o41 : (List Dcl)) => ⟨[(9, .v (.one (Ux 10 o41)))], [(0, .cells 72 [Ux 3 y1.1, .mp 1]), (1, .mp (QT y1.2.1) y1.2.2), (4, .cells 72 [Ux 3 y1.1, .mp 1]), (7, .cells 4 (Qa y31))], [(3, some ⟨54, 1, (Enc.encL y1.1).length, []⟩), (10, some ⟨48, 23, (Enc.encL o41).length, []⟩)], 11, 48, []⟩) (fun (o41 : (List Dcl)) => (some (o41, 0)) = some r) ?_ ?_
 refine JD (t := 9) 48 23 rfl ?_
 refine Qb h0 (fun o42 hl1 h0 => ?_)
 refine QE (Xj a0 y31 y1) (fun s1 => ⟨[(8, .v (.one (.osl 7 0 ((y1.1.length : Int).toNat) ((y1.1.length : Int).toNat)))), (9, .v (.one (Ux 10 s1.1))), (31, .v (.one (Ut a0))), (32, .v (.one (Uv (a0.length : Int)))), (33, .v (.one (Uv s1.2)))], [(0, .cells 72 [Ux 3 y1.1, .mp 1]), (1, .mp (QT y1.2.1) y1.2.2), (4, .cells 72 [Ux 3 y1.1, .mp 1]), (7, .cells 4 (Qa y31))], [(3, some ⟨54, 1, (Enc.encL y1.1).length, []⟩), (10, some ⟨48, 23, (Enc.encL s1.1).length, []⟩)], 11, 48, []⟩) (([] : List Dcl), 0) o42 (Qf (U1 rfl (U1 rfl (U1 rfl (U1 rfl (U1 rfl U0))))) (Um rfl (Um rfl (Um rfl (Um rfl Ul)))) (Ui rfl (Ui rfl Uh)) rfl (Nat.zero_le _) rfl rfl rfl (UE rfl rfl (UC rfl (UE rfl rfl (UD rfl UB)))) rfl rfl) hl1 (fun s1 n1 oo1 h1 ho1 => ?_)
 unfold Xj at h1
 refine Q2 <| Q0 <| U5 rfl rfl rfl (Q5 rfl rfl rfl) <| Q3 <| Q1 <| Q2 ?_
 refine Qe (b := (decide (s1.2 < (a0.length : Int)))) rfl (fun c43 => ?_) (fun c43 => ?_)
 replace h1 := Qm c43 h1
 refine Qg <| Q1 <| Q2 <| Qc <| Q2 <| Q0 <| U6 rfl rfl rfl ?_
 refine Qb h1 (fun x44 hx44 h1 => ?_)
 refine U5 rfl rfl rfl (Qi (α := Dcl) Jm rfl (.d _) rfl hx44) <| U5 rfl rfl rfl (QN (x44 : Dcl) Jt rfl) <| Q9 rfl rfl (Ug rfl) (QC KJ rfl) <| U7 rfl rfl rfl <| QL rfl rfl (Jo (x44 : Dcl) Jt rfl rfl rfl rfl rfl) <| Q3 <| Q1 <| Q2 <| Q0 <| U6 rfl rfl rfl <| U6 rfl rfl rfl ?_
 refine Qb h1 (fun x45 hx45 h1 => ?_)
 refine QQ h1 (fun g46 h1 => ?_)
 refine U5 rfl rfl rfl (Ju (α := Bool) YM rfl rfl hx45 g46) <| U5 rfl rfl rfl (Zk (α := Bool) (m := s1.2) (f := 0) Kr rfl rfl hx45 rfl) <| Q3 <| Q1 ?_
 refine Qe (b := x45) rfl (fun c47 => ?_) (fun c47 => ?_)
 replace h1 := Qm c47 h1
 refine Q0 <| U6 rfl rfl rfl <| U5 rfl rfl rfl (JQ (x44 : Dcl) Jt rfl rfl) <| Q9 rfl rfl (Ug rfl) (OpOK.lit1CE (x44 : Dcl) Jm KJ rfl rfl (Ug rfl) rfl) ?_
 refine QQ h1 (fun g48 h1 => ?_)
 refine Q9 rfl rfl (Ug rfl) (QO (α := Dcl) Jm el_48 rfl rfl rfl rfl rfl (.app _ _) g48) <| U7 rfl rfl rfl <| Q3 <| Qh <| Q1 <| Q0 <| U5 rfl rfl rfl (Q5 rfl rfl rfl) <| U6 rfl rfl rfl <| Q3 ?_
 have e := U3 h1; subst e
 refine QA ((s1.1 ++ ([x44])), (J1 (s1.2 + 1))) (Qf (U1 rfl (U1 rfl (U1 rfl (U1 rfl (U1 rfl U0))))) (Um rfl (Um rfl (Um rfl (Um rfl Ul)))) (Ui rfl (Ui rfl Uh)) rfl (Nat.zero_le _) rfl rfl rfl (UE rfl rfl (UC rfl (UE rfl rfl (UD rfl UB)))) rfl rfl) ho1
 replace h1 := Qn c47 h1
 refine Qg <| Qh <| Q1 <| Q0 <| U5 rfl rfl rfl (Q5 rfl rfl rfl) <| U6 rfl rfl rfl <| Q3 ?_
 have e := U3 h1; subst e
 refine QA (s1.1, (J1 (s1.2 + 1))) (Qf (U1 rfl (U1 rfl (U1 rfl (U1 rfl (U1 rfl U0))))) (Um rfl (Um rfl (Um rfl (Um rfl Ul)))) (Ui rfl (Ui rfl Uh)) rfl (Nat.zero_le _) rfl rfl rfl (UE rfl rfl (UC rfl (UE rfl rfl (UD rfl UB)))) rfl rfl) ho1
 replace h1 := Qn c43 h1
 refine QJ <| Qd <| Qd ?_
 have e := U3 h1; subst e
 have e_ : _ = _ := ho1
 subst e_
 exact QD s1.1 (Qf (U1 rfl U0) (Um rfl (Um rfl (Um rfl (Um rfl Ul)))) (Ui rfl (Ui rfl Uh)) rfl (Nat.zero_le _) rfl rfl rfl (UE rfl rfl (UC rfl (UE rfl rfl (UD rfl UB)))) rfl rfl) h0
 intro o41 h0
 refine Qu <| Q1 <| Q2 <| Q0 <| U6 rfl rfl rfl <| U7 rfl rfl rfl <| U7 rfl rfl rfl <| Q3 <| Q1 <| Qz ?_
 have e := U3 h0; subst e
 exact QK (fun _ _ h => h) rfl (Qk rfl (Qk rfl .nil)) (.cons (.one (.app _ _ _)) (.cons (.one (.d _)) .nil))
 replace hc4 : CallM Try.prog 34 [.one (Ut a0)] ⟨[], [], 0⟩ (Qy [.agg [Uu, .d (.v (.map none))], .one (Uv 8)]) ⟨[(0, .cells 72 [Uu, .d (.v (.map none))])], [], 4⟩ := hc4
 refine Q9 rfl rfl (Ug rfl) (J4 rfl rfl rfl hc4 rfl Ul Uh) <| U6 rfl rfl rfl <| U5 rfl rfl rfl (Qp rfl rfl) <| U5 rfl rfl rfl (Qp rfl rfl) <| Q9 rfl rfl (Ug rfl) (QC Zw rfl) <| QL rfl rfl (Qw Jq rfl rfl rfl rfl (Ug rfl) rfl) <| U7 rfl rfl rfl <| Q3 <| Q1 <| Q2 <| Q2 <| Q0 <| U6 rfl rfl rfl <| U5 rfl rfl rfl (Q5 rfl rfl rfl) ?_
 refine Q3 <| Q1 ?_
 refine Qe rfl (fun _ => ?_) (fun h => nomatch h)
 refine Q2 <| Q0 <| U6 rfl rfl rfl <| U7 rfl rfl rfl <| U7 rfl rfl rfl <| Q3 <| Q1 <| Qz ?_
 have e := U3 h0; subst e
 exact QK (fun _ _ h => h) rfl (Qk rfl (Qk rfl .nil)) (.cons (.one (.nil _)) (.cons (.one (.d _)) .nil))
 replace hc4 : CallM Try.prog 34 [.one (Ut a0)] ⟨[], [], 0⟩ (Qy [.agg [Uu, .d (.v (.map none))], .one (Uv 9)]) ⟨[(0, .cells 72 [Uu, .d (.v (.map none))])], [], 6⟩ := hc4
 refine Q9 rfl rfl (Ug rfl) (J4 rfl rfl rfl hc4 rfl Ul Uh) <| U6 rfl rfl rfl <| U5 rfl rfl rfl (Qp rfl rfl) <| U5 rfl rfl rfl (Qp rfl rfl) <| Q9 rfl rfl (Ug rfl) (QC Zw rfl) <| QL rfl rfl (Qw Jq rfl rfl rfl rfl (Ug rfl) rfl) <| U7 rfl rfl rfl <| Q3 <| Q1 <| Q2 <| Q2 <| Q0 <| U6 rfl rfl rfl <| U5 rfl rfl rfl (Q5 rfl rfl rfl) ?_
 refine Q3 <| Q1 ?_
 refine Qe rfl (fun _ => ?_) (fun h => nomatch h)
 refine Q2 <| Q0 <| U6 rfl rfl rfl <| U7 rfl rfl rfl <| U7 rfl rfl rfl <| Q3 <| Q1 <| Qz ?_
 have e := U3 h0; subst e
 exact QK (fun _ _ h => h) rfl (Qk rfl (Qk rfl .nil)) (.cons (.one (.nil _)) (.cons (.one (.d _)) .nil))
end Go.Proofs.Ytijcchddnnnmdaa
namespace Go.Proofs.Ytijcchddnnnmdaa
open Go.RowKit Go.Shelf
set_option linter.unusedSimpArgs false
set_option linter.unusedVariables false
def m15o_l0 (x10 : (List UN)) (s2 : Int × (Qj UN Int)) (s3 : Int × (Qj UN Int)) : Option (LO (Int × (Qj UN Int)) (((Qj UN Int)) ⊕ (((List (List Int)) × (Qj UN Int)) ⊕ Unit ⊕ Unit))) :=
 cond (decide (s3.1 < (x10.length : Int)))
   (Option.bind (Jg x10 s3.1) fun (x13 : UN) =>
 cond (Jz s3.2 x13)
   (some (.done (.inr (.inr (.inl ())))))
   (some (.next ((J1 (s3.1 + 1)), (Y5 s3.2 x13 s2.1)))))
   (some (.done (.inl s3.2)))
def m15o_l1 (nn : Nat) (a0 : List Dcl) (s2 : Int × (Qj UN Int)) : Option (LO (Int × (Qj UN Int)) (((Qj UN Int)) ⊕ (((List (List Int)) × (Qj UN Int)) ⊕ Unit ⊕ Unit))) :=
 cond (decide (s2.1 < ((nn : Nat) : Int)))
   (Option.bind (Jg a0 s2.1) fun (x8 : Dcl) =>
 Qt (Nat.beq a0.length nn)
 (Option.bind (Wc x8) fun (x10 : (List UN)) =>
 Option.bind (Qv (m15o_l0 x10 s2) QH (0, s2.2)) (Sum.elim (fun (o11 : (Qj UN Int)) => some (.next ((J1 (s2.1 + 1)), o11))) (fun o => some (.done (.inr o))))))
   (some (.done (.inl s2.2)))
def m15o_l2 (x11 : (List UN)) (o6 : (Qj UN Int)) (s3 : (List Int) × Int) : Option (LO ((List Int) × Int) (((List Int)) ⊕ (((List (List Int)) × (Qj UN Int)) ⊕ Unit ⊕ Unit))) :=
 cond (decide (s3.2 < (x11.length : Int)))
   (Option.bind (Jg x11 s3.2) fun (x14 : UN) =>
 cond (!(Jz o6 x14))
   (some (.done (.inr (.inr (.inr ())))))
   (Qt (Nat.ble (s3.1.length + ([(Jl o6 x14)]).length) 1000000000)
 (some (.next ((s3.1 ++ ([(Jl o6 x14)])), (J1 (s3.2 + 1)))))))
   (some (.done (.inl s3.1)))
def m15o_l3 (nn : Nat) (a0 : List Dcl) (o6 : (Qj UN Int)) (s2 : Int × (List (List Int))) : Option (LO (Int × (List (List Int))) (((List (List Int))) ⊕ (((List (List Int)) × (Qj UN Int)) ⊕ Unit ⊕ Unit))) :=
 cond (decide (s2.1 < ((nn : Nat) : Int)))
   (Option.bind (Jg a0 s2.1) fun (x9 : Dcl) =>
 Qt (Nat.beq a0.length nn)
 (Option.bind (Wh x9) fun (x11 : (List UN)) =>
 Option.bind (Qv (m15o_l2 x11 o6) QH (([] : List Int), 0)) (Sum.elim (fun (o12 : (List Int)) => Option.bind (ZA o12) fun (x13 : List Int) =>
 Option.bind (Y2 x13 ((Enc.encL o12).length)) fun (x14 : List Int) =>
 Qt (Nat.ble (s2.2.length + ([x14]).length) 1000000000)
 (some (.next ((J1 (s2.1 + 1)), (s2.2 ++ ([x14])))))) (fun o => some (.done (.inr o))))))
   (some (.done (.inl s2.2)))
def m15o_l4 (a1 : List UN) (y1 : (List (List Int)) × (Qj UN Int)) (s2 : Int × (List Bool)) : Option (LO (Int × (List Bool)) (((List Bool)) ⊕ (Unit ⊕ ((List Bool))))) :=
 cond (decide (s2.1 < (a1.length : Int)))
   (Option.bind (Jg a1 s2.1) fun (x39 : UN) =>
 cond (!(Jz y1.2 x39))
   (some (.done (.inr (.inl ()))))
   (Option.bind (XB (Jl y1.2 x39) ((y1.1.length : Int).toNat) s2.2 y1.1) fun (x41 : (List Bool)) =>
 some (.next ((J1 (s2.1 + 1)), x41))))
   (some (.done (.inl s2.2)))
def m15o_l5 (nn : Nat) (a0 : List Dcl) (y33 : (List Bool)) (y1 : (List (List Int)) × (Qj UN Int)) (s1 : (List Dcl) × Int) : Option (LO ((List Dcl) × Int) (((List Dcl)))) :=
 cond (decide (s1.2 < ((nn : Nat) : Int)))
   (Option.bind (Jg a0 s1.2) fun (x45 : Dcl) =>
 Qt (Nat.beq a0.length nn)
 (Option.bind (Jg y33 s1.2) fun (x47 : Bool) =>
 Qt (Nat.beq y33.length ((y1.1.length : Int).toNat))
 (cond x47
   (Qt (Nat.ble (s1.1.length + ([x45]).length) 1000000000)
 (some (.next ((s1.1 ++ ([x45])), (J1 (s1.2 + 1))))))
   (some (.next (s1.1, (J1 (s1.2 + 1))))))))
   (some (.done s1.1))
def m15o (a0 : List Dcl) (a1 : List UN) (nn : Nat) : Option ((List Dcl) × Int) :=
 Option.bind (Option.bind (Qv (m15o_l1 nn a0) QH (0, gmNil)) (Sum.elim (fun (o6 : (Qj UN Int)) => Option.bind (Qv (m15o_l3 nn a0 o6) QH (0, ([] : List (List Int)))) (Sum.elim (fun (o7 : (List (List Int))) => some (.inl (o7, o6))) (fun o => some o))) (fun o => some o))) (Sum.elim (fun (y1 : (List (List Int)) × (Qj UN Int)) => Option.bind (Qt (cond (decide (0 ≤ (y1.1.length : Int))) (Nat.ble (1 * (y1.1.length : Int).toNat) 281474976710656) false)
 (Option.bind (Qv (m15o_l4 a1 y1) QH (0, (List.replicate (y1.1.length : Int).toNat false))) (Sum.elim (fun (o37 : (List Bool)) => some (.inr o37)) (fun o => some o)))) (Sum.elim (fun (y32 : Unit) => some (([] : List Dcl), 9)) (fun (y33 : (List Bool)) => Option.bind (Qv (m15o_l5 nn a0 y33 y1) QH (([] : List Dcl), 0)) (fun (o43 : (List Dcl)) => some (o43, 0))))) (Sum.elim (fun (y2 : Unit) => some (([] : List Dcl), 8)) (fun (y3 : Unit) => some (([] : List Dcl), 9))))
set_option maxRecDepth 100000 in
set_option maxHeartbeats 2000000 in
theorem m15o_ok (a0 : List Dcl) (a1 : List UN) (nn : Nat) (r : (List Dcl) × Int) (h0 : m15o a0 a1 nn = some r) : CallM Try.prog 15 [.one (.osl 0 0 nn nn), .one (Ut a1)] ⟨[(0, .cells 48 (Qa a0))], [], 1⟩ (Qy [.one (Ut r.1), .one (Uv r.2)]) ⟨[(0, .cells 48 (Qa a0))], [], 6⟩ := by
 unfold m15o at h0
 refine QP ⟨[(4, .v (.one (Ut r.1))), (5, .v (.one (Uv r.2)))], [(0, .cells 48 (Qa a0))], [], 6, 48, []⟩ rfl rfl en_15 (Ug rfl) rfl (Qk rfl (Qk rfl .nil)) (fun w0 M V0 Q hv0 hQ0 => ?_)
 simp only [J8]
 refine Q2 <| Q0 <| U7 rfl rfl rfl <| U7 rfl rfl rfl <| Q3 <| Q1 <| Q2 <| Q0 <| U6 rfl rfl rfl ?_
 refine Qb h0 (fun y5 h1 h0 => ?_)
 have hc4 : CallM Try.prog 34 [.one (.osl 0 0 nn nn)] ⟨[(0, .cells 48 (Qa a0))], [], 1⟩ (Qy (((Sum.elim (fun (y1 : (List (List Int)) × (Qj UN Int)) => ([.agg [Ux 4 y1.1, .mp 2], .one (Uv 0)] : List AV)) (Sum.elim (fun (y2 : Unit) => ([.agg [Uu, .d (.v (.map none))], .one (Uv 8)] : List AV)) (fun (y3 : Unit) => ([.agg [Uu, .d (.v (.map none))], .one (Uv 9)] : List AV))))) y5)) ⟨(((Sum.elim (fun (y1 : (List (List Int)) × (Qj UN Int)) => (⟨[(2, .v (.one (.ptr 1 0))), (3, .v (.one (Uv 0)))], [(0, .cells 48 (Qa a0)), (1, .cells 72 [Ux 4 y1.1, .mp 2]), (2, .mp (QT y1.2.1) y1.2.2)], [(4, some ⟨54, 1, (Enc.encL y1.1).length, []⟩)], 5, 88, []⟩ : St)) (Sum.elim (fun (y2 : Unit) => (⟨[(2, .v (.one (.ptr 1 0))), (3, .v (.one (Uv 8)))], [(0, .cells 48 (Qa a0)), (1, .cells 72 [Uu, .d (.v (.map none))])], [], 5, 88, []⟩ : St)) (fun (y3 : Unit) => (⟨[(2, .v (.one (.ptr 1 0))), (3, .v (.one (Uv 9)))], [(0, .cells 48 (Qa a0)), (1, .cells 72 [Uu, .d (.v (.map none))])], [], 7, 88, []⟩ : St))))) y5).hp, (((Sum.elim (fun (y1 : (List (List Int)) × (Qj UN Int)) => (⟨[(2, .v (.one (.ptr 1 0))), (3, .v (.one (Uv 0)))], [(0, .cells 48 (Qa a0)), (1, .cells 72 [Ux 4 y1.1, .mp 2]), (2, .mp (QT y1.2.1) y1.2.2)], [(4, some ⟨54, 1, (Enc.encL y1.1).length, []⟩)], 5, 88, []⟩ : St)) (Sum.elim (fun (y2 : Unit) => (⟨[(2, .v (.one (.ptr 1 0))), (3, .v (.one (Uv 8)))], [(0, .cells 48 (Qa a0)), (1, .cells 72 [Uu, .d (.v (.map none))])], [], 5, 88, []⟩ : St)) (fun (y3 : Unit) => (⟨[(2, .v (.one (.ptr 1 0))), (3, .v (.one (Uv 9)))], [(0, .cells 48 (Qa a0)), (1, .cells 72 [Uu, .d (.v (.map none))])], [], 7, 88, []⟩ : St))))) y5).tk, (((Sum.elim (fun (y1 : (List (List Int)) × (Qj UN Int)) => (⟨[(2, .v (.one (.ptr 1 0))), (3, .v (.one (Uv 0)))], [(0, .cells 48 (Qa a0)), (1, .cells 72 [Ux 4 y1.1, .mp 2]), (2, .mp (QT y1.2.1) y1.2.2)], [(4, some ⟨54, 1, (Enc.encL y1.1).length, []⟩)], 5, 88, []⟩ : St)) (Sum.elim (fun (y2 : Unit) => (⟨[(2, .v (.one (.ptr 1 0))), (3, .v (.one (Uv 8)))], [(0, .cells 48 (Qa a0)), (1, .cells 72 [Uu, .d (.v (.map none))])], [], 5, 88, []⟩ : St)) (fun (y3 : Unit) => (⟨[(2, .v (.one (.ptr 1 0))), (3, .v (.one (Uv 9)))], [(0, .cells 48 (Qa a0)), (1, .cells 72 [Uu, .d (.v (.map none))])], [], 7, 88, []⟩ : St))))) y5).nx⟩ := by
  refine JN y5 ((Sum.elim (fun (y1 : (List (List Int)) × (Qj UN Int)) => (⟨[(2, .v (.one (.ptr 1 0))), (3, .v (.one (Uv 0)))], [(0, .cells 48 (Qa a0)), (1, .cells 72 [Ux 4 y1.1, .mp 2]), (2, .mp (QT y1.2.1) y1.2.2)], [(4, some ⟨54, 1, (Enc.encL y1.1).length, []⟩)], 5, 88, []⟩ : St)) (Sum.elim (fun (y2 : Unit) => (⟨[(2, .v (.one (.ptr 1 0))), (3, .v (.one (Uv 8)))], [(0, .cells 48 (Qa a0)), (1, .cells 72 [Uu, .d (.v (.map none))])], [], 5, 88, []⟩ : St)) (fun (y3 : Unit) => (⟨[(2, .v (.one (.ptr 1 0))), (3, .v (.one (Uv 9)))], [(0, .cells 48 (Qa a0)), (1, .cells 72 [Uu, .d (.v (.map none))])], [], 7, 88, []⟩ : St))))) ((Sum.elim (fun (y1 : (List (List Int)) × (Qj UN Int)) => ([.agg [Ux 4 y1.1, .mp 2], .one (Uv 0)] : List AV)) (Sum.elim (fun (y2 : Unit) => ([.agg [Uu, .d (.v (.map none))], .one (Uv 8)] : List AV)) (fun (y3 : Unit) => ([.agg [Uu, .d (.v (.map none))], .one (Uv 9)] : List AV))))) rfl rfl W5 (Ug rfl) (fun z_ => by cases z_ with
    | inl _ => rfl
    | inr z_ => exact (by cases z_ <;> rfl)) (fun z_ => by cases z_ with
    | inl _ => exact (Yo Jq rfl rfl rfl rfl (Qk rfl .nil))
    | inr z_ => exact (by cases z_ with
    | inl _ => exact (Yo Jq rfl rfl rfl rfl (Qk rfl .nil))
    | inr _ => exact (Yo Jq rfl rfl rfl rfl (Qk rfl .nil)))) (fun w0 M V0 Q hv1 hQ1 => ?_)
  simp only [J8]
  refine Q2 <| Q0 <| Q9 rfl rfl (Ug rfl) (QC Zw rfl) <| U7 rfl rfl rfl <| Q3 <| Q1 <| Q2 <| Q0 <| Q9 rfl rfl (Ug rfl) (Yl UN Int) <| U5 rfl rfl rfl (ZQ K5 rfl rfl rfl) <| Q9 rfl rfl (Ug rfl) (QC Zw rfl) <| QL rfl rfl (Qw Jq rfl rfl rfl rfl (Ug rfl) rfl) <| Q3 <| Q1 ?_
  refine Q2 <| Q2 <| Q0 <| U6 rfl rfl rfl <| U5 rfl rfl rfl (Yc Jm rfl) <| U6 rfl rfl rfl <| Q3 <| Q1 <| Qc ?_
  refine QF 0 (fun (o6 : (Qj UN Int)) => ⟨[(0, .v (.one (.osl 0 0 nn nn))), (2, .v (.one (.ptr 1 0))), (4, .v (.one (.ptr 3 0)))], [(0, .cells 48 (Qa a0)), (1, .cells 72 [Uu, .d (.v (.map none))]), (2, .mp (QT o6.1) o6.2), (3, .cells 72 [Uu, .mp 2])], [], 4, 88, []⟩) (fun (o6 : (Qj UN Int)) => (Option.bind (Qv (m15o_l3 nn a0 o6) QH (0, ([] : List (List Int)))) (Sum.elim (fun (o7 : (List (List Int))) => some (.inl (o7, o6))) (fun o => some o))) = some y5) ?_ ?_
  refine Qb h1 (fun o7 hl2 h1 => ?_)
  refine QE (m15o_l1 nn a0) (fun s2 => ⟨[(0, .v (.one (.osl 0 0 nn nn))), (2, .v (.one (.ptr 1 0))), (4, .v (.one (.ptr 3 0))), (20, .v (.one (.osl 0 0 nn nn))), (21, .v (.one (Uv ((nn : Nat) : Int)))), (22, .v (.one (Uv s2.1)))], [(0, .cells 48 (Qa a0)), (1, .cells 72 [Uu, .d (.v (.map none))]), (2, .mp (QT s2.2.1) s2.2.2), (3, .cells 72 [Uu, .mp 2])], [], 4, 88, []⟩) (0, gmNil) o7 (Qf (U1 rfl (U1 rfl (U1 rfl (U1 rfl (U1 rfl (U1 rfl U0)))))) (Um rfl (Um rfl (Um rfl (Um rfl Ul)))) Uh rfl (Nat.le_trans hv1 (Ug rfl)) rfl rfl rfl (UD rfl (UE rfl rfl (UC rfl (UE rfl rfl UB)))) rfl rfl) hl2 (fun s2 n2 oo2 h2 ho2 => ?_)
  unfold m15o_l1 at h2
  refine Q2 <| Q0 <| U5 rfl rfl rfl (Q5 rfl rfl rfl) <| Q3 <| Q1 <| Q2 ?_
  refine Qe (b := (decide (s2.1 < ((nn : Nat) : Int)))) rfl (fun c8 => ?_) (fun c8 => ?_)
  replace h2 := Qm c8 h2
  refine Qg <| Q1 <| Q2 <| Qc <| Q2 <| Q0 <| U6 rfl rfl rfl ?_
  refine Qb h2 (fun x9 hx9 h2 => ?_)
  refine QQ h2 (fun g10 h2 => ?_)
  refine U5 rfl rfl rfl (Ju (α := Dcl) Jm rfl rfl hx9 g10) <| U5 rfl rfl rfl (YB (α := Dcl) (ys := [Uv x9.kind, YZ x9.name, Uv x9.params, Uv x9.ty.kind, Uv x9.ty.index, YZ x9.ty.name, Ut x9.ty.levels, Ut x9.ty.kids, Uv x9.value.kind, Uv x9.value.index, YZ x9.value.name, Ut x9.value.levels, Ut x9.value.kids, Uv x9.fixed, Ut x9.ctors, Uv x9.rcr.params, Uv x9.rcr.ty.kind, Uv x9.rcr.ty.index, YZ x9.rcr.ty.name, Ut x9.rcr.ty.levels, Ut x9.rcr.ty.kids, Ut x9.rcr.rules, Ut x9.funs]) Jt rfl rfl hx9 rfl) <| Q9 rfl rfl (Ug rfl) (QC KJ rfl) <| U7 rfl rfl rfl <| QL rfl rfl (Jo (x9 : Dcl) Jt rfl rfl rfl rfl rfl) <| Q3 <| Q1 <| Q2 <| Q0 <| U5 rfl rfl rfl (JQ (x9 : Dcl) Jt rfl rfl) ?_
  refine Qb h2 (fun x11 hx11 h2 => ?_)
  refine Q9 rfl rfl (Ug rfl) (Ql (Gx x9 x11 hx11) rfl (.cons (.agg (.cons (.d _) (.cons (.d _) (.cons (.d _) (.cons (.d _) (.cons (.d _) (.cons (.d _) (.cons (.d _) (.cons (.d _) (.cons (.d _) (.cons (.d _) (.cons (.d _) (.cons (.d _) (.cons (.d _) (.cons (.d _) (.cons (.d _) (.cons (.d _) (.cons (.d _) (.cons (.d _) (.cons (.d _) (.cons (.d _) (.cons (.d _) (.cons (.d _) (.cons (.d _) .nil)))))))))))))))))))))))) .nil)) <| U5 rfl rfl rfl (QB (α := UN) QU rfl (.d _)) <| U6 rfl rfl rfl <| Q3 <| Q1 <| Qc ?_
  refine QF 2 (fun (o12 : (Qj UN Int)) => ⟨[(0, .v (.one (.osl 0 0 nn nn))), (2, .v (.one (.ptr 1 0))), (4, .v (.one (.ptr 3 0))), (20, .v (.one (.osl 0 0 nn nn))), (21, .v (.one (Uv ((nn : Nat) : Int)))), (22, .v (.one (Uv s2.1)))], [(0, .cells 48 (Qa a0)), (1, .cells 72 [Uu, .d (.v (.map none))]), (2, .mp (QT o12.1) o12.2), (3, .cells 72 [Uu, .mp 2]), (4, .cells 48 (Uy x9))], [], 5, 88, []⟩) (fun (o12 : (Qj UN Int)) => (some (.next ((J1 (s2.1 + 1)), o12))) = some oo2) ?_ ?_
  refine Qb h2 (fun o13 hl3 h2 => ?_)
  refine QE (m15o_l0 x11 s2) (fun s3 => ⟨[(0, .v (.one (.osl 0 0 nn nn))), (2, .v (.one (.ptr 1 0))), (4, .v (.one (.ptr 3 0))), (5, .v (.one (Uv s2.1))), (20, .v (.one (.osl 0 0 nn nn))), (21, .v (.one (Uv ((nn : Nat) : Int)))), (22, .v (.one (Uv s2.1))), (28, .v (.one (Ut x11))), (29, .v (.one (Uv (x11.length : Int)))), (30, .v (.one (Uv s3.1)))], [(0, .cells 48 (Qa a0)), (1, .cells 72 [Uu, .d (.v (.map none))]), (2, .mp (QT s3.2.1) s3.2.2), (3, .cells 72 [Uu, .mp 2]), (4, .cells 48 (Uy x9))], [], 5, 88, []⟩) (0, s2.2) o13 (Qf (U1 rfl (U1 rfl (U1 rfl (U1 rfl (U1 rfl (U1 rfl (U1 rfl (U1 rfl (U1 rfl (U1 rfl U0)))))))))) (Um rfl (Um rfl (Um rfl (Um rfl (Um rfl Ul))))) Uh rfl (Nat.le_trans hv1 (Ug rfl)) rfl rfl rfl (UD rfl (UE rfl rfl (UC rfl (UE rfl rfl (UE rfl rfl UB))))) rfl rfl) hl3 (fun s3 n3 oo3 h3 ho3 => ?_)
  unfold m15o_l0 at h3
  refine Q2 <| Q0 <| U5 rfl rfl rfl (Q5 rfl rfl rfl) <| Q3 <| Q1 <| Q2 ?_
  refine Qe (b := (decide (s3.1 < (x11.length : Int)))) rfl (fun c14 => ?_) (fun c14 => ?_)
  replace h3 := Qm c14 h3
  refine Qg <| Q1 <| Q2 <| Qc <| Q2 <| Q0 ?_
  refine Qb h3 (fun x15 hx15 h3 => ?_)
  refine U5 rfl rfl rfl (Qi (α := UN) QU rfl (.d _) rfl hx15) <| U5 rfl rfl rfl (QI JG rfl rfl) <| U7 rfl rfl rfl <| Q3 <| Q1 <| Q2 <| Q2 <| Q0 <| U5 rfl rfl rfl (Q4 Y9 rfl) <| U5 rfl rfl rfl (Q7 Zc rfl rfl rfl) <| U6 rfl rfl rfl <| U5 rfl rfl rfl (JI (M := s3.2) (k := x15) Zb YG rfl rfl rfl) <| U6 rfl rfl rfl <| U5 rfl rfl rfl (Qp rfl rfl) ?_
  refine U5 rfl rfl rfl (Qp rfl rfl) <| U7 rfl rfl rfl <| U7 rfl rfl rfl <| Q3 <| Q1 <| Q2 <| Q0 <| U6 rfl rfl rfl <| Q3 <| Q1 ?_
  refine Qe (b := (Jz s3.2 x15)) rfl (fun c16 => ?_) (fun c16 => ?_)
  replace h3 := Qm c16 h3
  refine Q2 <| Q0 <| U5 rfl rfl rfl (Ys K5 rfl ) <| QL rfl rfl (Qw Jq rfl rfl rfl rfl (Ug rfl) rfl) <| U7 rfl rfl rfl <| Q3 <| Q1 <| Qz ?_
  have e := U3 h3; subst e
  have e_ : _ = _ := ho3
  subst e_
  try dsimp only [Sum.elim_inl, Sum.elim_inr] at h2
  have e := U3 h2; subst e
  have e_ : _ = _ := ho2
  subst e_
  try dsimp only [Sum.elim_inl, Sum.elim_inr] at h1
  have e := U3 h1; subst e
  exact hQ1 _ _ _ (.inr rfl) rfl (show StLe _ _ ⟨[(2, .v (.one (.ptr 1 0))), (3, .v (.one (Uv 8)))], [(0, .cells 48 (Qa a0)), (1, .cells 72 [Uu, .d (.v (.map none))])], [], 5, 88, []⟩ from (Qf (U1 rfl (U1 rfl U0)) (Um rfl (Um rfl Ul)) Uh rfl (Nat.le_trans hv1 (Ug rfl)) rfl rfl rfl (UD rfl (UE rfl rfl UB)) rfl rfl))
  replace h3 := Qn c16 h3
  refine Qg <| Q1 <| Q0 <| U5 rfl rfl rfl (Q4 Y9 rfl) <| U5 rfl rfl rfl (Q7 Zc rfl rfl rfl) <| U6 rfl rfl rfl <| U6 rfl rfl rfl <| QL rfl rfl (JW (M := s3.2) (k := x15) (v := s2.1) Zb rfl rfl rfl rfl rfl) <| Q3 <| Qh <| Q1 <| Q0 <| U5 rfl rfl rfl (Q5 rfl rfl rfl) <| U6 rfl rfl rfl ?_
  refine Q3 ?_
  have e := U3 h3; subst e
  refine QA ((J1 (s3.1 + 1)), (Y5 s3.2 x15 s2.1)) (Qf (U1 rfl (U1 rfl (U1 rfl (U1 rfl (U1 rfl (U1 rfl (U1 rfl (U1 rfl (U1 rfl (U1 rfl U0)))))))))) (Um rfl (Um rfl (Um rfl (Um rfl (Um rfl Ul))))) Uh rfl (Nat.le_trans hv1 (Ug rfl)) rfl rfl rfl (UD rfl (UE rfl rfl (UC rfl (UE rfl rfl (UE rfl rfl UB))))) rfl rfl) ho3
  replace h3 := Qn c14 h3
  refine QJ <| Qd <| Qd ?_
  have e := U3 h3; subst e
  have e_ : _ = _ := ho3
  subst e_
  exact QD s3.2 (Qf (U1 rfl (U1 rfl (U1 rfl (U1 rfl (U1 rfl (U1 rfl U0)))))) (Um rfl (Um rfl (Um rfl (Um rfl (Um rfl Ul))))) Uh rfl (Nat.le_trans hv1 (Ug rfl)) rfl rfl rfl (UD rfl (UE rfl rfl (UC rfl (UE rfl rfl (UE rfl rfl UB))))) rfl rfl) h2
  intro o12 h2
  refine Qu <| Qh <| Q1 <| Q0 <| U5 rfl rfl rfl (Q5 rfl rfl rfl) <| U6 rfl rfl rfl <| Q3 ?_
  have e := U3 h2; subst e
  refine QA ((J1 (s2.1 + 1)), o12) (Qf (U1 rfl (U1 rfl (U1 rfl (U1 rfl (U1 rfl (U1 rfl U0)))))) (Um rfl (Um rfl (Um rfl (Um rfl Ul)))) Uh rfl (Nat.le_trans hv1 (Ug rfl)) rfl rfl rfl (UD rfl (UE rfl rfl (UC rfl (UE rfl rfl UB)))) rfl rfl) ho2
  replace h2 := Qn c8 h2
  refine QJ <| Qd <| Qd ?_
  have e := U3 h2; subst e
  have e_ : _ = _ := ho2
  subst e_
  exact QD s2.2 (Qf (U1 rfl (U1 rfl (U1 rfl U0))) (Um rfl (Um rfl (Um rfl (Um rfl Ul)))) Uh rfl (Nat.le_trans hv1 (Ug rfl)) rfl rfl rfl (UD rfl (UE rfl rfl (UC rfl (UE rfl rfl UB)))) rfl rfl) h1
  intro o6 h1
  refine Qu <| Q1 <| Q2 <| Q2 <| Q0 <| U6 rfl rfl rfl <| U5 rfl rfl rfl (Yc Jm rfl) <| U6 rfl rfl rfl <| Q3 <| Q1 <| Qc ?_
  refine QF 4 (fun (o17 : (List (List Int))) => ⟨[(2, .v (.one (.ptr 1 0))), (4, .v (.one (.ptr 3 0)))], [(0, .cells 48 (Qa a0)), (1, .cells 72 [Uu, .d (.v (.map none))]), (2, .mp (QT o6.1) o6.2), (3, .cells 72 [Ux 4 o17, .mp 2])], [(4, some ⟨54, 1, (Enc.encL o17).length, []⟩)], 5, 88, []⟩) (fun (o17 : (List (List Int))) => (some (.inl (o17, o6))) = some y5) ?_ ?_
  refine Zj (i := 3) (off := 0) 54 1 rfl rfl ?_
  refine Qb h1 (fun o18 hl2 h1 => ?_)
  refine QE (m15o_l3 nn a0 o6) (fun s2 => ⟨[(2, .v (.one (.ptr 1 0))), (4, .v (.one (.ptr 3 0))), (49, .v (.one (.osl 0 0 nn nn))), (50, .v (.one (Uv ((nn : Nat) : Int)))), (51, .v (.one (Uv s2.1)))], [(0, .cells 48 (Qa a0)), (1, .cells 72 [Uu, .d (.v (.map none))]), (2, .mp (QT o6.1) o6.2), (3, .cells 72 [Ux 4 s2.2, .mp 2])], [(4, some ⟨54, 1, (Enc.encL s2.2).length, []⟩)], 5, 88, []⟩) (0, ([] : List (List Int))) o18 (Qf (U1 rfl (U1 rfl (U1 rfl (U1 rfl (U1 rfl U0))))) (Um rfl (Um rfl (Um rfl (Um rfl Ul)))) (Ui rfl Uh) rfl (Nat.le_trans hv1 (Ug rfl)) rfl rfl rfl (UD rfl (UE rfl rfl (UC rfl (UE rfl rfl UB)))) rfl rfl) hl2 (fun s2 n2 oo2 h2 ho2 => ?_)
  unfold m15o_l3 at h2
  refine Q2 <| Q0 <| U5 rfl rfl rfl (Q5 rfl rfl rfl) <| Q3 <| Q1 <| Q2 ?_
  refine Qe (b := (decide (s2.1 < ((nn : Nat) : Int)))) rfl (fun c19 => ?_) (fun c19 => ?_)
  replace h2 := Qm c19 h2
  refine Qg <| Q1 <| Q2 <| Qc <| Q2 <| Q0 ?_
  refine Qb h2 (fun x20 hx20 h2 => ?_)
  refine QQ h2 (fun g21 h2 => ?_)
  refine U5 rfl rfl rfl (Ju (α := Dcl) Jm rfl rfl hx20 g21) <| U5 rfl rfl rfl (YB (α := Dcl) (ys := [Uv x20.kind, YZ x20.name, Uv x20.params, Uv x20.ty.kind, Uv x20.ty.index, YZ x20.ty.name, Ut x20.ty.levels, Ut x20.ty.kids, Uv x20.value.kind, Uv x20.value.index, YZ x20.value.name, Ut x20.value.levels, Ut x20.value.kids, Uv x20.fixed, Ut x20.ctors, Uv x20.rcr.params, Uv x20.rcr.ty.kind, Uv x20.rcr.ty.index, YZ x20.rcr.ty.name, Ut x20.rcr.ty.levels, Ut x20.rcr.ty.kids, Ut x20.rcr.rules, Ut x20.funs]) Jt rfl rfl hx20 rfl) <| Q9 rfl rfl (Ug rfl) (QC KJ rfl) <| QL rfl rfl (Jo (x20 : Dcl) Jt rfl rfl rfl rfl rfl) <| Q3 <| Q1 <| Q2 <| Q0 <| U7 rfl rfl rfl <| Q3 <| Q1 <| Q2 <| Q2 <| Q0 ?_
  refine U5 rfl rfl rfl (JQ (x20 : Dcl) Jt rfl rfl) ?_
  refine Qb h2 (fun x22 hx22 h2 => ?_)
  refine Q9 rfl rfl (Ug rfl) (Ql (XD x20 x22 hx22) rfl (.cons (.agg (.cons (.d _) (.cons (.d _) (.cons (.d _) (.cons (.d _) (.cons (.d _) (.cons (.d _) (.cons (.d _) (.cons (.d _) (.cons (.d _) (.cons (.d _) (.cons (.d _) (.cons (.d _) (.cons (.d _) (.cons (.d _) (.cons (.d _) (.cons (.d _) (.cons (.d _) (.cons (.d _) (.cons (.d _) (.cons (.d _) (.cons (.d _) (.cons (.d _) (.cons (.d _) .nil)))))))))))))))))))))))) .nil)) <| U5 rfl rfl rfl (QB (α := UN) QU rfl (.d _)) <| U6 rfl rfl rfl <| Q3 <| Q1 <| Qc ?_
  refine QF 6 (fun (o23 : (List Int)) => ⟨[(2, .v (.one (.ptr 1 0))), (4, .v (.one (.ptr 3 0))), (13, .v (.one (.apv 6 1 ((Enc.encL o23).length) []))), (49, .v (.one (.osl 0 0 nn nn))), (50, .v (.one (Uv ((nn : Nat) : Int)))), (51, .v (.one (Uv s2.1)))], [(0, .cells 48 (Qa a0)), (1, .cells 72 [Uu, .d (.v (.map none))]), (2, .mp (QT o6.1) o6.2), (3, .cells 72 [Ux 4 s2.2, .mp 2]), (5, .cells 48 (Uy x20))], [(4, some ⟨54, 1, (Enc.encL s2.2).length, []⟩), (6, some ⟨3, 1, (Enc.encL o23).length, (Enc.encL o23).flatten⟩)], 7, 88, []⟩) (fun (o23 : (List Int)) => (Option.bind (ZA o23) fun (x24 : List Int) =>
    Option.bind (Y2 x24 ((Enc.encL o23).length)) fun (x25 : List Int) =>
    Qt (Nat.ble (s2.2.length + ([x25]).length) 1000000000)
    (some (.next ((J1 (s2.1 + 1)), (s2.2 ++ ([x25])))))) = some oo2) ?_ ?_
  refine JD (t := 13) 3 1 rfl <| Kt (α := Int) (t := 13) rfl rfl ?_
  refine Qb h2 (fun o24 hl3 h2 => ?_)
  refine QE (m15o_l2 x22 o6) (fun s3 => ⟨[(2, .v (.one (.ptr 1 0))), (4, .v (.one (.ptr 3 0))), (13, .v (.one (.apv 6 1 ((Enc.encL s3.1).length) []))), (49, .v (.one (.osl 0 0 nn nn))), (50, .v (.one (Uv ((nn : Nat) : Int)))), (51, .v (.one (Uv s2.1))), (56, .v (.one (Ut x22))), (57, .v (.one (Uv (x22.length : Int)))), (58, .v (.one (Uv s3.2)))], [(0, .cells 48 (Qa a0)), (1, .cells 72 [Uu, .d (.v (.map none))]), (2, .mp (QT o6.1) o6.2), (3, .cells 72 [Ux 4 s2.2, .mp 2]), (5, .cells 48 (Uy x20))], [(4, some ⟨54, 1, (Enc.encL s2.2).length, []⟩), (6, some ⟨3, 1, (Enc.encL s3.1).length, (Enc.encL s3.1).flatten⟩)], 7, 88, []⟩) (([] : List Int), 0) o24 (Qf (U1 rfl (U1 rfl (U1 rfl (U1 rfl (U1 rfl (U1 rfl (U1 rfl (U1 rfl (U1 rfl U0))))))))) (Um rfl (Um rfl (Um rfl (Um rfl (Um rfl Ul))))) (Ui rfl (Ui rfl Uh)) rfl (Nat.le_trans hv1 (Ug rfl)) rfl rfl rfl (UD rfl (UE rfl rfl (UC rfl (UE rfl rfl (UE rfl rfl UB))))) rfl rfl) hl3 (fun s3 n3 oo3 h3 ho3 => ?_)
  unfold m15o_l2 at h3
  refine Q2 <| Q0 <| U5 rfl rfl rfl (Q5 rfl rfl rfl) <| Q3 <| Q1 <| Q2 ?_
  refine Qe (b := (decide (s3.2 < (x22.length : Int)))) rfl (fun c25 => ?_) (fun c25 => ?_)
  replace h3 := Qm c25 h3
  refine Qg <| Q1 <| Q2 <| Qc <| Q2 <| Q0 ?_
  refine Qb h3 (fun x26 hx26 h3 => ?_)
  refine U5 rfl rfl rfl (Qi (α := UN) QU rfl (.d _) rfl hx26) <| U5 rfl rfl rfl (QI JG rfl rfl) <| U7 rfl rfl rfl <| Q3 <| Q1 <| Q2 <| Q0 <| U5 rfl rfl rfl (Q4 Y9 rfl) <| U5 rfl rfl rfl (Q7 Zc rfl rfl rfl) <| U6 rfl rfl rfl <| U5 rfl rfl rfl (JI (M := o6) (k := x26) Zb YG rfl rfl rfl) <| U6 rfl rfl rfl <| U5 rfl rfl rfl (Qp rfl rfl) <| U5 rfl rfl rfl (Qp rfl rfl) ?_
  refine U7 rfl rfl rfl <| U7 rfl rfl rfl <| Q3 <| Q1 <| Q2 <| Q2 <| Q0 <| U6 rfl rfl rfl <| U5 rfl rfl rfl (J9 rfl) <| Q3 <| Q1 ?_
  refine Qe (b := (!(Jz o6 x26))) rfl (fun c27 => ?_) (fun c27 => ?_)
  replace h3 := Qm c27 h3
  refine Q2 <| Q0 <| U5 rfl rfl rfl (Ys K5 rfl ) <| QL rfl rfl (Qw Jq rfl rfl rfl rfl (Ug rfl) rfl) <| U7 rfl rfl rfl <| Q3 <| Q1 <| Qz ?_
  have e := U3 h3; subst e
  have e_ : _ = _ := ho3
  subst e_
  try dsimp only [Sum.elim_inl, Sum.elim_inr] at h2
  have e := U3 h2; subst e
  have e_ : _ = _ := ho2
  subst e_
  try dsimp only [Sum.elim_inl, Sum.elim_inr] at h1
  have e := U3 h1; subst e
  exact hQ1 _ _ _ (.inr rfl) rfl (show StLe _ _ ⟨[(2, .v (.one (.ptr 1 0))), (3, .v (.one (Uv 9)))], [(0, .cells 48 (Qa a0)), (1, .cells 72 [Uu, .d (.v (.map none))])], [], 7, 88, []⟩ from (Qf (U1 rfl (U1 rfl U0)) (Um rfl (Um rfl Ul)) Uh rfl (Nat.le_trans hv1 (Ug rfl)) rfl rfl rfl (UD rfl (UE rfl rfl UB)) rfl rfl))
  replace h3 := Qn c27 h3
  refine Qg <| Q1 <| Q0 <| U6 rfl rfl rfl <| U6 rfl rfl rfl <| Q9 rfl rfl (Ug rfl) (QZ (α := Int) ((Jl o6 x26)) JM Wg rfl rfl (Ug rfl) (Ug rfl) rfl rfl (.cons (.d _) .nil) rfl) ?_
  refine QQ h3 (fun g28 h3 => ?_)
  refine Q9 rfl rfl (Ug rfl) (YC (α := Int) (l := s3.1) (l2 := ([(Jl o6 x26)] : List Int)) JM XY rfl rfl rfl rfl (.app _ _) rfl g28) <| U7 rfl rfl rfl <| Q3 <| Qh <| Q1 <| Q0 <| U5 rfl rfl rfl (Q5 rfl rfl rfl) <| U6 rfl rfl rfl <| Q3 ?_
  have e := U3 h3; subst e
  refine QA ((s3.1 ++ ([(Jl o6 x26)])), (J1 (s3.2 + 1))) (Qf (U1 rfl (U1 rfl (U1 rfl (U1 rfl (U1 rfl (U1 rfl (U1 rfl (U1 rfl (U1 rfl U0))))))))) (Um rfl (Um rfl (Um rfl (Um rfl (Um rfl Ul))))) (Ui rfl (Ui rfl Uh)) rfl (Nat.le_trans hv1 (Ug rfl)) rfl rfl rfl (UD rfl (UE rfl rfl (UC rfl (UE rfl rfl (UE rfl rfl UB))))) rfl rfl) ho3
  replace h3 := Qn c25 h3
  refine QJ <| Qd <| Qd ?_
  have e := U3 h3; subst e
  have e_ : _ = _ := ho3
  subst e_
  exact QD s3.1 (Qf (U1 rfl (U1 rfl (U1 rfl (U1 rfl (U1 rfl (U1 rfl U0)))))) (Um rfl (Um rfl (Um rfl (Um rfl (Um rfl Ul))))) (Ui rfl (Ui rfl Uh)) rfl (Nat.le_trans hv1 (Ug rfl)) rfl rfl rfl (UD rfl (UE rfl rfl (UC rfl (UE rfl rfl (UE rfl rfl UB))))) rfl rfl) h2
  intro o23 h2
  refine Qu <| Q1 <| Q2 <| Q0 <| U6 rfl rfl rfl ?_
  refine Qb h2 (fun x29 hx29 h2 => ?_)
  refine Q9 rfl rfl (Ug rfl) (QW (hp1' := []) (tk1' := [(6, some ⟨3, 1, (Enc.encL o23).length, (Enc.encL x29).flatten⟩)]) (hpF := [(0, .cells 48 (Qa a0)), (1, .cells 72 [Uu, .d (.v (.map none))]), (2, .mp (QT o6.1) o6.2), (3, .cells 72 [Ux 4 s2.2, .mp 2]), (5, .cells 48 (Uy x20))]) (tkF := [(4, some ⟨54, 1, (Enc.encL s2.2).length, []⟩)]) (res2 := Qy []) (nx2 := 7) [6] rfl rfl (KL o23 x29 hx29) rfl rfl U8 rfl rfl Uo (Uk rfl Uj) (Um rfl (Um rfl (Um rfl (Um rfl (Um rfl Ul))))) (Ui rfl Uh) rfl rfl rfl rfl rfl UB rfl rfl rfl rfl) <| Q3 <| Q1 ?_
  refine JO [3, 5, 7] [(0, 1), (1, 1)] mixed (by kernel_rfl) (by kernel_rfl) (by kernel_rfl) ?_
  refine RunA.rd rfl rfl rfl (Q6 (Q4 JP rfl)) rfl <| RunA.rd rfl rfl rfl (Q6 (Q7 Yr rfl rfl rfl)) rfl <| RunA.rd rfl rfl rfl (Q6 (J0 rfl)) rfl ?_
  refine Qb h2 (fun x30 hx30 h2 => ?_)
  refine RunA.eff rfl rfl rfl (QW (hp1' := []) (tk1' := [(7, some ⟨3, 1, (Enc.encL x30).length, []⟩)]) (hpF := [(0, .cells 48 (Qa a0)), (1, .cells 72 [Uu, .d (.v (.map none))]), (2, .mp (QT o6.1) o6.2), (3, .cells 72 [Ux 4 s2.2, .mp 2]), (5, .cells 48 (Uy x20))]) (tkF := [(4, some ⟨54, 1, (Enc.encL s2.2).length, []⟩)]) (res2 := Qy [.one (Ux 7 x30)]) (nx2 := 8) [6] rfl rfl (Zs x29 ((Enc.encL o23).length) x30 hx30) rfl rfl U8 rfl rfl Uo (Uk rfl Uj) (Um rfl (Um rfl (Um rfl (Um rfl (Um rfl Ul))))) (Ui rfl Uh) rfl rfl rfl rfl rfl UB rfl rfl rfl rfl) rfl <| RunA.rd rfl rfl rfl (Yi (α := List Int) (x30) Y1 Wa rfl rfl (Ug rfl) rfl rfl (.cons (.app _ _ _) .nil) rfl) rfl ?_
  refine QQ h2 (fun g31 h2 => ?_)
  refine RunA.eff rfl rfl rfl (QO (α := List Int) Y1 XM rfl rfl rfl rfl rfl (.d _) g31) rfl <| RunA.rd rfl rfl rfl (Q6 (Q4 JP rfl)) rfl <| RunA.eff rfl rfl rfl (Qw Yr rfl rfl rfl rfl (Ug rfl) rfl) rfl ?_
  refine RunA.nil ⟨?ex, _, _, rfl, ?_⟩
  case ex => exact ⟨⟨_, rfl, _, _, rfl, rfl, rfl, .inl ⟨rfl, _, Q6 (Q4 JP rfl), rfl⟩⟩, ⟨_, rfl, _, _, rfl, rfl, rfl, .inl ⟨rfl, _, Q6 (Q7 Yr rfl rfl rfl), rfl⟩⟩, trivial⟩
  refine JV (st' := ⟨[(2, .v (.one (.ptr 1 0))), (4, .v (.one (.ptr 3 0))), (49, .v (.one (.osl 0 0 nn nn))), (50, .v (.one (Uv ((nn : Nat) : Int)))), (51, .v (.one (Uv s2.1)))], [(0, .cells 48 (Qa a0)), (1, .cells 72 [Uu, .d (.v (.map none))]), (2, .mp (QT o6.1) o6.2), (3, .cells 72 [Ux 4 ((s2.2 ++ ([x30])) : List (List Int)), .mp 2]), (5, .cells 48 (Uy x20))], [(4, some ⟨54, 1, (Enc.encL ((s2.2 ++ ([x30])) : List (List Int))).length, []⟩), (7, some ⟨3, 1, (Enc.encL x30).length, []⟩)], 8, 88, []⟩) (Qf (U1 rfl (U1 rfl (U1 rfl (U1 rfl (U1 rfl U0))))) (Um rfl (Um rfl (Um rfl (Um rfl (Um rfl Ul))))) (Ui rfl (Ui rfl Uh)) rfl (Nat.le_trans hv1 (Ug rfl)) rfl rfl rfl (UD rfl (UE rfl rfl (UC rfl (UE rfl rfl (UE rfl rfl UB))))) rfl rfl) <| Qh <| Q1 <| Q0 <| U5 rfl rfl rfl (Q5 rfl rfl rfl) <| U6 rfl rfl rfl <| Q3 ?_
  have e := U3 h2; subst e
  refine QA ((J1 (s2.1 + 1)), (s2.2 ++ ([x30]))) (Qf (U1 rfl (U1 rfl (U1 rfl (U1 rfl (U1 rfl U0))))) (Um rfl (Um rfl (Um rfl (Um rfl Ul)))) (Ui rfl Uh) rfl (Nat.le_trans hv1 (Ug rfl)) rfl rfl rfl (UD rfl (UE rfl rfl (UC rfl (UE rfl rfl UB)))) rfl rfl) ho2
  replace h2 := Qn c19 h2
  refine QJ <| Qd <| Qd ?_
  have e := U3 h2; subst e
  have e_ : _ = _ := ho2
  subst e_
  exact QD s2.2 (Qf (U1 rfl (U1 rfl U0)) (Um rfl (Um rfl (Um rfl (Um rfl Ul)))) (Ui rfl Uh) rfl (Nat.le_trans hv1 (Ug rfl)) rfl rfl rfl (UD rfl (UE rfl rfl (UC rfl (UE rfl rfl UB)))) rfl rfl) h1
  intro o17 h1
  refine Qu <| Q1 <| Q2 <| Q0 <| U5 rfl rfl rfl (Qq Jq rfl rfl rfl rfl) <| QL rfl rfl (Qw Jq rfl rfl rfl rfl (Ug rfl) rfl) <| U7 rfl rfl rfl <| Q3 <| Q1 <| Qz ?_
  have e := U3 h1; subst e
  exact hQ1 _ _ _ (.inr rfl) rfl (show StLe _ _ ⟨[(2, .v (.one (.ptr 1 0))), (3, .v (.one (Uv 0)))], [(0, .cells 48 (Qa a0)), (1, .cells 72 [Ux 4 o17, .mp 2]), (2, .mp (QT o6.1) o6.2)], [(4, some ⟨54, 1, (Enc.encL o17).length, []⟩)], 5, 88, []⟩ from (Qf (U1 rfl (U1 rfl U0)) (Um rfl (Um rfl (Um rfl Ul))) (Ui rfl Uh) rfl (Nat.le_trans hv1 (Ug rfl)) rfl rfl rfl (UD rfl (UE rfl rfl (UC rfl UB))) rfl rfl))
 refine GK (C := fun q_ => CallM Try.prog 34 [.one (.osl 0 0 nn nn)] ⟨[(0, .cells 48 (Qa a0))], [], 1⟩ (Qy (((Sum.elim (fun (y1 : (List (List Int)) × (Qj UN Int)) => ([.agg [Ux 4 y1.1, .mp 2], .one (Uv 0)] : List AV)) (Sum.elim (fun (y2 : Unit) => ([.agg [Uu, .d (.v (.map none))], .one (Uv 8)] : List AV)) (fun (y3 : Unit) => ([.agg [Uu, .d (.v (.map none))], .one (Uv 9)] : List AV))))) q_)) ⟨(((Sum.elim (fun (y1 : (List (List Int)) × (Qj UN Int)) => (⟨[(2, .v (.one (.ptr 1 0))), (3, .v (.one (Uv 0)))], [(0, .cells 48 (Qa a0)), (1, .cells 72 [Ux 4 y1.1, .mp 2]), (2, .mp (QT y1.2.1) y1.2.2)], [(4, some ⟨54, 1, (Enc.encL y1.1).length, []⟩)], 5, 88, []⟩ : St)) (Sum.elim (fun (y2 : Unit) => (⟨[(2, .v (.one (.ptr 1 0))), (3, .v (.one (Uv 8)))], [(0, .cells 48 (Qa a0)), (1, .cells 72 [Uu, .d (.v (.map none))])], [], 5, 88, []⟩ : St)) (fun (y3 : Unit) => (⟨[(2, .v (.one (.ptr 1 0))), (3, .v (.one (Uv 9)))], [(0, .cells 48 (Qa a0)), (1, .cells 72 [Uu, .d (.v (.map none))])], [], 7, 88, []⟩ : St))))) q_).hp, (((Sum.elim (fun (y1 : (List (List Int)) × (Qj UN Int)) => (⟨[(2, .v (.one (.ptr 1 0))), (3, .v (.one (Uv 0)))], [(0, .cells 48 (Qa a0)), (1, .cells 72 [Ux 4 y1.1, .mp 2]), (2, .mp (QT y1.2.1) y1.2.2)], [(4, some ⟨54, 1, (Enc.encL y1.1).length, []⟩)], 5, 88, []⟩ : St)) (Sum.elim (fun (y2 : Unit) => (⟨[(2, .v (.one (.ptr 1 0))), (3, .v (.one (Uv 8)))], [(0, .cells 48 (Qa a0)), (1, .cells 72 [Uu, .d (.v (.map none))])], [], 5, 88, []⟩ : St)) (fun (y3 : Unit) => (⟨[(2, .v (.one (.ptr 1 0))), (3, .v (.one (Uv 9)))], [(0, .cells 48 (Qa a0)), (1, .cells 72 [Uu, .d (.v (.map none))])], [], 7, 88, []⟩ : St))))) q_).tk, (((Sum.elim (fun (y1 : (List (List Int)) × (Qj UN Int)) => (⟨[(2, .v (.one (.ptr 1 0))), (3, .v (.one (Uv 0)))], [(0, .cells 48 (Qa a0)), (1, .cells 72 [Ux 4 y1.1, .mp 2]), (2, .mp (QT y1.2.1) y1.2.2)], [(4, some ⟨54, 1, (Enc.encL y1.1).length, []⟩)], 5, 88, []⟩ : St)) (Sum.elim (fun (y2 : Unit) => (⟨[(2, .v (.one (.ptr 1 0))), (3, .v (.one (Uv 8)))], [(0, .cells 48 (Qa a0)), (1, .cells 72 [Uu, .d (.v (.map none))])], [], 5, 88, []⟩ : St)) (fun (y3 : Unit) => (⟨[(2, .v (.one (.ptr 1 0))), (3, .v (.one (Uv 9)))], [(0, .cells 48 (Qa a0)), (1, .cells 72 [Uu, .d (.v (.map none))])], [], 7, 88, []⟩ : St))))) q_).nx⟩) hc4 h0 (fun y1 hc4 h0 => ?_) (fun z_ hc4 h0 => GK (C := fun q_ => CallM Try.prog 34 [.one (.osl 0 0 nn nn)] ⟨[(0, .cells 48 (Qa a0))], [], 1⟩ (Qy (((Sum.elim (fun (y1 : (List (List Int)) × (Qj UN Int)) => ([.agg [Ux 4 y1.1, .mp 2], .one (Uv 0)] : List AV)) (Sum.elim (fun (y2 : Unit) => ([.agg [Uu, .d (.v (.map none))], .one (Uv 8)] : List AV)) (fun (y3 : Unit) => ([.agg [Uu, .d (.v (.map none))], .one (Uv 9)] : List AV))))) (.inr q_))) ⟨(((Sum.elim (fun (y1 : (List (List Int)) × (Qj UN Int)) => (⟨[(2, .v (.one (.ptr 1 0))), (3, .v (.one (Uv 0)))], [(0, .cells 48 (Qa a0)), (1, .cells 72 [Ux 4 y1.1, .mp 2]), (2, .mp (QT y1.2.1) y1.2.2)], [(4, some ⟨54, 1, (Enc.encL y1.1).length, []⟩)], 5, 88, []⟩ : St)) (Sum.elim (fun (y2 : Unit) => (⟨[(2, .v (.one (.ptr 1 0))), (3, .v (.one (Uv 8)))], [(0, .cells 48 (Qa a0)), (1, .cells 72 [Uu, .d (.v (.map none))])], [], 5, 88, []⟩ : St)) (fun (y3 : Unit) => (⟨[(2, .v (.one (.ptr 1 0))), (3, .v (.one (Uv 9)))], [(0, .cells 48 (Qa a0)), (1, .cells 72 [Uu, .d (.v (.map none))])], [], 7, 88, []⟩ : St))))) (.inr q_)).hp, (((Sum.elim (fun (y1 : (List (List Int)) × (Qj UN Int)) => (⟨[(2, .v (.one (.ptr 1 0))), (3, .v (.one (Uv 0)))], [(0, .cells 48 (Qa a0)), (1, .cells 72 [Ux 4 y1.1, .mp 2]), (2, .mp (QT y1.2.1) y1.2.2)], [(4, some ⟨54, 1, (Enc.encL y1.1).length, []⟩)], 5, 88, []⟩ : St)) (Sum.elim (fun (y2 : Unit) => (⟨[(2, .v (.one (.ptr 1 0))), (3, .v (.one (Uv 8)))], [(0, .cells 48 (Qa a0)), (1, .cells 72 [Uu, .d (.v (.map none))])], [], 5, 88, []⟩ : St)) (fun (y3 : Unit) => (⟨[(2, .v (.one (.ptr 1 0))), (3, .v (.one (Uv 9)))], [(0, .cells 48 (Qa a0)), (1, .cells 72 [Uu, .d (.v (.map none))])], [], 7, 88, []⟩ : St))))) (.inr q_)).tk, (((Sum.elim (fun (y1 : (List (List Int)) × (Qj UN Int)) => (⟨[(2, .v (.one (.ptr 1 0))), (3, .v (.one (Uv 0)))], [(0, .cells 48 (Qa a0)), (1, .cells 72 [Ux 4 y1.1, .mp 2]), (2, .mp (QT y1.2.1) y1.2.2)], [(4, some ⟨54, 1, (Enc.encL y1.1).length, []⟩)], 5, 88, []⟩ : St)) (Sum.elim (fun (y2 : Unit) => (⟨[(2, .v (.one (.ptr 1 0))), (3, .v (.one (Uv 8)))], [(0, .cells 48 (Qa a0)), (1, .cells 72 [Uu, .d (.v (.map none))])], [], 5, 88, []⟩ : St)) (fun (y3 : Unit) => (⟨[(2, .v (.one (.ptr 1 0))), (3, .v (.one (Uv 9)))], [(0, .cells 48 (Qa a0)), (1, .cells 72 [Uu, .d (.v (.map none))])], [], 7, 88, []⟩ : St))))) (.inr q_)).nx⟩) hc4 h0 (fun y2 hc4 h0 => ?_) (fun y3 hc4 h0 => ?_))
 replace hc4 : CallM Try.prog 34 [.one (.osl 0 0 nn nn)] ⟨[(0, .cells 48 (Qa a0))], [], 1⟩ (Qy [.agg [Ux 4 y1.1, .mp 2], .one (Uv 0)]) ⟨[(0, .cells 48 (Qa a0)), (1, .cells 72 [Ux 4 y1.1, .mp 2]), (2, .mp (QT y1.2.1) y1.2.2)], [(4, some ⟨54, 1, (Enc.encL y1.1).length, []⟩)], 5⟩ := hc4
 refine Q9 rfl rfl (Ug rfl) (J4 rfl rfl rfl hc4 rfl (Um rfl Ul) Uh) <| U6 rfl rfl rfl <| U5 rfl rfl rfl (Qp rfl rfl) <| U5 rfl rfl rfl (Qp rfl rfl) <| Q9 rfl rfl (Ug rfl) (QC Zw rfl) <| QL rfl rfl (Qw Jq rfl rfl rfl rfl (Ug rfl) rfl) <| U7 rfl rfl rfl <| Q3 <| Q1 <| Q2 <| Q2 <| Q0 <| U6 rfl rfl rfl <| U5 rfl rfl rfl (Q5 rfl rfl rfl) ?_
 refine Q3 <| Q1 ?_
 refine Qe rfl (fun h => nomatch h) (fun _ => ?_)
 refine Qg <| Q1 <| Q2 <| Q0 <| U5 rfl rfl rfl (Qq Jq rfl rfl rfl rfl) <| U5 rfl rfl rfl (Q4 JP rfl) <| U5 rfl rfl rfl (Q7 Yr rfl rfl rfl) <| U6 rfl rfl rfl ?_
 refine Qb h0 (fun y35 h1 h0 => ?_)
 have hc34 : CallM Try.prog 35 [.agg [Ux 4 y1.1, .mp 2], .one (Ux 4 y1.1), .one (Ut a1)] ⟨[(0, .cells 48 (Qa a0)), (1, .cells 72 [Ux 4 y1.1, .mp 2]), (2, .mp (QT y1.2.1) y1.2.2), (5, .cells 72 [Ux 4 y1.1, .mp 2])], [(4, some ⟨54, 1, (Enc.encL y1.1).length, []⟩)], 6⟩ (Qy (((Sum.elim (fun (y32 : Unit) => ([.one (Uu), .one (Uv 9)] : List AV)) (fun (y33 : (List Bool)) => ([.one (.osl 8 0 ((y1.1.length : Int).toNat) ((y1.1.length : Int).toNat)), .one (Uv 0)] : List AV)))) y35)) ⟨(((Sum.elim (fun (y32 : Unit) => (⟨[(6, .v (.one (Uu))), (7, .v (.one (Uv 9)))], [(0, .cells 48 (Qa a0)), (1, .cells 72 [Ux 4 y1.1, .mp 2]), (2, .mp (QT y1.2.1) y1.2.2), (5, .cells 72 [Ux 4 y1.1, .mp 2])], [(4, some ⟨54, 1, (Enc.encL y1.1).length, []⟩)], 11, 38, []⟩ : St)) (fun (y33 : (List Bool)) => (⟨[(6, .v (.one (.osl 8 0 ((y1.1.length : Int).toNat) ((y1.1.length : Int).toNat)))), (7, .v (.one (Uv 0)))], [(0, .cells 48 (Qa a0)), (1, .cells 72 [Ux 4 y1.1, .mp 2]), (2, .mp (QT y1.2.1) y1.2.2), (5, .cells 72 [Ux 4 y1.1, .mp 2]), (8, .cells 4 (Qa y33))], [(4, some ⟨54, 1, (Enc.encL y1.1).length, []⟩)], 11, 38, []⟩ : St)))) y35).hp, (((Sum.elim (fun (y32 : Unit) => (⟨[(6, .v (.one (Uu))), (7, .v (.one (Uv 9)))], [(0, .cells 48 (Qa a0)), (1, .cells 72 [Ux 4 y1.1, .mp 2]), (2, .mp (QT y1.2.1) y1.2.2), (5, .cells 72 [Ux 4 y1.1, .mp 2])], [(4, some ⟨54, 1, (Enc.encL y1.1).length, []⟩)], 11, 38, []⟩ : St)) (fun (y33 : (List Bool)) => (⟨[(6, .v (.one (.osl 8 0 ((y1.1.length : Int).toNat) ((y1.1.length : Int).toNat)))), (7, .v (.one (Uv 0)))], [(0, .cells 48 (Qa a0)), (1, .cells 72 [Ux 4 y1.1, .mp 2]), (2, .mp (QT y1.2.1) y1.2.2), (5, .cells 72 [Ux 4 y1.1, .mp 2]), (8, .cells 4 (Qa y33))], [(4, some ⟨54, 1, (Enc.encL y1.1).length, []⟩)], 11, 38, []⟩ : St)))) y35).tk, (((Sum.elim (fun (y32 : Unit) => (⟨[(6, .v (.one (Uu))), (7, .v (.one (Uv 9)))], [(0, .cells 48 (Qa a0)), (1, .cells 72 [Ux 4 y1.1, .mp 2]), (2, .mp (QT y1.2.1) y1.2.2), (5, .cells 72 [Ux 4 y1.1, .mp 2])], [(4, some ⟨54, 1, (Enc.encL y1.1).length, []⟩)], 11, 38, []⟩ : St)) (fun (y33 : (List Bool)) => (⟨[(6, .v (.one (.osl 8 0 ((y1.1.length : Int).toNat) ((y1.1.length : Int).toNat)))), (7, .v (.one (Uv 0)))], [(0, .cells 48 (Qa a0)), (1, .cells 72 [Ux 4 y1.1, .mp 2]), (2, .mp (QT y1.2.1) y1.2.2), (5, .cells 72 [Ux 4 y1.1, .mp 2]), (8, .cells 4 (Qa y33))], [(4, some ⟨54, 1, (Enc.encL y1.1).length, []⟩)], 11, 38, []⟩ : St)))) y35).nx⟩ := by
  refine JN y35 ((Sum.elim (fun (y32 : Unit) => (⟨[(6, .v (.one (Uu))), (7, .v (.one (Uv 9)))], [(0, .cells 48 (Qa a0)), (1, .cells 72 [Ux 4 y1.1, .mp 2]), (2, .mp (QT y1.2.1) y1.2.2), (5, .cells 72 [Ux 4 y1.1, .mp 2])], [(4, some ⟨54, 1, (Enc.encL y1.1).length, []⟩)], 11, 38, []⟩ : St)) (fun (y33 : (List Bool)) => (⟨[(6, .v (.one (.osl 8 0 ((y1.1.length : Int).toNat) ((y1.1.length : Int).toNat)))), (7, .v (.one (Uv 0)))], [(0, .cells 48 (Qa a0)), (1, .cells 72 [Ux 4 y1.1, .mp 2]), (2, .mp (QT y1.2.1) y1.2.2), (5, .cells 72 [Ux 4 y1.1, .mp 2]), (8, .cells 4 (Qa y33))], [(4, some ⟨54, 1, (Enc.encL y1.1).length, []⟩)], 11, 38, []⟩ : St)))) ((Sum.elim (fun (y32 : Unit) => ([.one (Uu), .one (Uv 9)] : List AV)) (fun (y33 : (List Bool)) => ([.one (.osl 8 0 ((y1.1.length : Int).toNat) ((y1.1.length : Int).toNat)), .one (Uv 0)] : List AV)))) rfl rfl en_35 (Ug rfl) (fun z_ => by cases z_ <;> rfl) (fun z_ => by cases z_ with
    | inl _ => exact (Qk rfl (Qk rfl .nil))
    | inr _ => exact (Qk rfl (Qk rfl .nil))) (fun w0 M V0 Q hv1 hQ1 => ?_)
  simp only [J8]
  refine Q2 <| Q0 <| Q9 rfl rfl (Ug rfl) (Jc rfl) <| Q9 rfl rfl (Ug rfl) (Jc rfl) <| U7 rfl rfl rfl <| U7 rfl rfl rfl <| Q3 <| Q1 <| Q2 <| Q0 <| U5 rfl rfl rfl (Q7 Yr rfl rfl rfl) <| U5 rfl rfl rfl (QB (α := List Int) Y1 rfl (.app _ _)) ?_
  refine QQ h1 (fun g36 h1 => ?_)
  refine Q9 rfl rfl (Ug rfl) (OpOK.makeO (α := Bool) (z := false) YM WS rfl rfl Wx rfl rfl g36 rfl (by repeat (first | exact CLs.nil | refine CLs.cons (by first | exact .refl _ | exact .sub (.app _ _ _) | exact .sub (.nil _)) ?_))) ?_
  refine Q9 rfl rfl (Ug rfl) (QC z_75 rfl) <| QL rfl rfl (Qw Kc rfl rfl rfl rfl (Ug rfl) rfl) <| Q3 <| Q1 <| Q2 <| Q0 <| Q9 rfl rfl (Ug rfl) (QC z_106 rfl) <| Q3 <| Q1 <| Q2 <| Q0 <| U5 rfl rfl rfl (RO.makeFunc3 rfl rfl rfl) <| QL rfl rfl (Qw G9 rfl rfl rfl rfl (Ug rfl) rfl) <| Q3 ?_
  refine Q1 <| Q2 <| Q2 <| Q0 <| U6 rfl rfl rfl <| U5 rfl rfl rfl (QB (α := UN) QU rfl (.d _)) <| U6 rfl rfl rfl <| Q3 <| Q1 <| Qc ?_
  refine QF 0 (fun (o37 : (List Bool)) => ⟨[(8, .v (.one (.ptr 9 0)))], [(0, .cells 48 (Qa a0)), (1, .cells 72 [Ux 4 y1.1, .mp 2]), (2, .mp (QT y1.2.1) y1.2.2), (5, .cells 72 [Ux 4 y1.1, .mp 2]), (6, .cells 72 [Ux 4 y1.1, .mp 2]), (7, .cells 57 [Ux 4 y1.1]), (8, .cells 4 (Qa o37)), (9, .cells 75 [.osl 8 0 ((y1.1.length : Int).toNat) ((y1.1.length : Int).toNat)]), (10, .cells 106 [.fn 56 [(9, 0), (7, 0), (10, 0)]])], [(4, some ⟨54, 1, (Enc.encL y1.1).length, []⟩)], 11, 38, []⟩) (fun (o37 : (List Bool)) => (some (.inr o37)) = some y35) ?_ ?_
  refine Qb h1 (fun o38 hl2 h1 => ?_)
  refine QE (m15o_l4 a1 y1) (fun s2 => ⟨[(3, .v (.one (.ptr 6 0))), (8, .v (.one (.ptr 9 0))), (9, .v (.one (.ptr 10 0))), (18, .v (.one (Ut a1))), (19, .v (.one (Uv (a1.length : Int)))), (20, .v (.one (Uv s2.1)))], [(0, .cells 48 (Qa a0)), (1, .cells 72 [Ux 4 y1.1, .mp 2]), (2, .mp (QT y1.2.1) y1.2.2), (5, .cells 72 [Ux 4 y1.1, .mp 2]), (6, .cells 72 [Ux 4 y1.1, .mp 2]), (7, .cells 57 [Ux 4 y1.1]), (8, .cells 4 (Qa s2.2)), (9, .cells 75 [.osl 8 0 ((y1.1.length : Int).toNat) ((y1.1.length : Int).toNat)]), (10, .cells 106 [.fn 56 [(9, 0), (7, 0), (10, 0)]])], [(4, some ⟨54, 1, (Enc.encL y1.1).length, []⟩)], 11, 38, []⟩) (0, (List.replicate (y1.1.length : Int).toNat false)) o38 (Qf (U1 rfl (U1 rfl (U1 rfl (U1 rfl (U1 rfl (U1 rfl U0)))))) (Um rfl (Um rfl (Um rfl (Um rfl (Um rfl (Um rfl (Um rfl (Um rfl (Um rfl Ul))))))))) (Ui rfl Uh) rfl (Nat.le_trans hv1 (Ug rfl)) rfl rfl rfl (UD rfl (UE rfl rfl (UC rfl (UE rfl rfl (UE rfl rfl (UE rfl rfl (UD rfl (UE rfl rfl (UE rfl rfl UB))))))))) rfl rfl) hl2 (fun s2 n2 oo2 h2 ho2 => ?_)
  unfold m15o_l4 at h2
  refine Q2 <| Q0 <| U5 rfl rfl rfl (Q5 rfl rfl rfl) <| Q3 <| Q1 <| Q2 ?_
  refine Qe (b := (decide (s2.1 < (a1.length : Int)))) rfl (fun c39 => ?_) (fun c39 => ?_)
  replace h2 := Qm c39 h2
  refine Qg <| Q1 <| Q2 <| Qc <| Q2 <| Q0 ?_
  refine Qb h2 (fun x40 hx40 h2 => ?_)
  refine U5 rfl rfl rfl (Qi (α := UN) QU rfl (.d _) rfl hx40) <| U5 rfl rfl rfl (QI JG rfl rfl) <| U7 rfl rfl rfl <| Q3 <| Q1 <| Q2 <| Q0 <| U5 rfl rfl rfl (Q4 Y9 rfl) <| U5 rfl rfl rfl (Q7 Zc rfl rfl rfl) <| U6 rfl rfl rfl <| U5 rfl rfl rfl (JI (M := y1.2) (k := x40) Zb YG rfl rfl rfl) <| U6 rfl rfl rfl <| U5 rfl rfl rfl (Qp rfl rfl) <| U5 rfl rfl rfl (Qp rfl rfl) ?_
  refine U7 rfl rfl rfl <| U7 rfl rfl rfl <| Q3 <| Q1 <| Q2 <| Q2 <| Q0 <| U6 rfl rfl rfl <| U5 rfl rfl rfl (J9 rfl) <| Q3 <| Q1 ?_
  refine Qe (b := (!(Jz y1.2 x40))) rfl (fun c41 => ?_) (fun c41 => ?_)
  replace h2 := Qm c41 h2
  refine Q2 <| Q0 <| U7 rfl rfl rfl <| U7 rfl rfl rfl <| Q3 <| Q1 <| Qz ?_
  have e := U3 h2; subst e
  have e_ : _ = _ := ho2
  subst e_
  try dsimp only [Sum.elim_inl, Sum.elim_inr] at h1
  have e := U3 h1; subst e
  exact hQ1 _ _ _ (.inr rfl) rfl (show StLe _ _ ⟨[(6, .v (.one (Uu))), (7, .v (.one (Uv 9)))], [(0, .cells 48 (Qa a0)), (1, .cells 72 [Ux 4 y1.1, .mp 2]), (2, .mp (QT y1.2.1) y1.2.2), (5, .cells 72 [Ux 4 y1.1, .mp 2])], [(4, some ⟨54, 1, (Enc.encL y1.1).length, []⟩)], 11, 38, []⟩ from (Qf (U1 rfl (U1 rfl U0)) (Um rfl (Um rfl (Um rfl (Um rfl Ul)))) (Ui rfl Uh) rfl (Nat.le_trans hv1 (Ug rfl)) rfl rfl rfl (UD rfl (UE rfl rfl (UC rfl (UE rfl rfl UB)))) rfl rfl))
  replace h2 := Qn c41 h2
  refine Qg <| Q1 <| Q0 <| U5 rfl rfl rfl (Q7 G9 rfl rfl rfl) <| U6 rfl rfl rfl ?_
  refine Qb h2 (fun x42 hx42 h2 => ?_)
  refine Q9 rfl rfl (Ug rfl) (QW (hp1' := [(9, .cells 75 [.osl 8 0 ((y1.1.length : Int).toNat) ((y1.1.length : Int).toNat)]), (8, .cells 4 (Qa x42)), (7, .cells 57 [Ux 4 y1.1]), (10, .cells 106 [.fn 56 [(9, 0), (7, 0), (10, 0)]])]) (tk1' := [(4, some ⟨54, 1, (Enc.encL y1.1).length, []⟩)]) (hpF := [(0, .cells 48 (Qa a0)), (1, .cells 72 [Ux 4 y1.1, .mp 2]), (2, .mp (QT y1.2.1) y1.2.2), (5, .cells 72 [Ux 4 y1.1, .mp 2]), (6, .cells 72 [Ux 4 y1.1, .mp 2])]) (tkF := []) (res2 := Qy []) (nx2 := 11) [9, 8, 7, 4, 10] rfl rfl (m56f11_ok (Jl y1.2 x40) ((y1.1.length : Int).toNat) s2.2 y1.1 x42 hx42) rfl rfl (Ub rfl rfl (Ua rfl (Ub rfl rfl (Ub rfl rfl U8)))) rfl rfl (Uq rfl (Us rfl (Uq rfl (Uq rfl Uo)))) (Uk rfl Uj) (Um rfl (Um rfl (Um rfl (Um rfl (Um rfl Ul))))) Uh rfl rfl rfl rfl rfl (UE rfl rfl (UD rfl (UE rfl rfl (UE rfl rfl UB)))) rfl rfl rfl rfl) <| Q3 <| Qh <| Q1 <| Q0 <| U5 rfl rfl rfl (Q5 rfl rfl rfl) <| U6 rfl rfl rfl <| Q3 ?_
  have e := U3 h2; subst e
  refine QA ((J1 (s2.1 + 1)), x42) (Qf (U1 rfl (U1 rfl (U1 rfl (U1 rfl (U1 rfl (U1 rfl U0)))))) (Um rfl (Um rfl (Um rfl (Um rfl (Um rfl (Um rfl (Um rfl (Um rfl (Um rfl Ul))))))))) (Ui rfl Uh) rfl (Nat.le_trans hv1 (Ug rfl)) rfl rfl rfl (UD rfl (UE rfl rfl (UC rfl (UE rfl rfl (UE rfl rfl (UE rfl rfl (UD rfl (UE rfl rfl (UE rfl rfl UB))))))))) rfl rfl) ho2
  replace h2 := Qn c39 h2
  refine QJ <| Qd <| Qd ?_
  have e := U3 h2; subst e
  have e_ : _ = _ := ho2
  subst e_
  exact QD s2.2 (Qf (U1 rfl U0) (Um rfl (Um rfl (Um rfl (Um rfl (Um rfl (Um rfl (Um rfl (Um rfl (Um rfl Ul))))))))) (Ui rfl Uh) rfl (Nat.le_trans hv1 (Ug rfl)) rfl rfl rfl (UD rfl (UE rfl rfl (UC rfl (UE rfl rfl (UE rfl rfl (UE rfl rfl (UD rfl (UE rfl rfl (UE rfl rfl UB))))))))) rfl rfl) h1
  intro o37 h1
  refine Qu <| Q1 <| Q2 <| Q0 <| U5 rfl rfl rfl (Q7 Kc rfl rfl rfl) <| U7 rfl rfl rfl <| U7 rfl rfl rfl <| Q3 <| Q1 <| Qz ?_
  have e := U3 h1; subst e
  exact hQ1 _ _ _ (.inr rfl) rfl (show StLe _ _ ⟨[(6, .v (.one (.osl 8 0 ((y1.1.length : Int).toNat) ((y1.1.length : Int).toNat)))), (7, .v (.one (Uv 0)))], [(0, .cells 48 (Qa a0)), (1, .cells 72 [Ux 4 y1.1, .mp 2]), (2, .mp (QT y1.2.1) y1.2.2), (5, .cells 72 [Ux 4 y1.1, .mp 2]), (8, .cells 4 (Qa o37))], [(4, some ⟨54, 1, (Enc.encL y1.1).length, []⟩)], 11, 38, []⟩ from (Qf (U1 rfl (U1 rfl U0)) (Um rfl (Um rfl (Um rfl (Um rfl (Um rfl Ul))))) (Ui rfl Uh) rfl (Nat.le_trans hv1 (Ug rfl)) rfl rfl rfl (UD rfl (UE rfl rfl (UC rfl (UE rfl rfl (UD rfl UB))))) rfl rfl))
 refine GK (C := fun q_ => CallM Try.prog 35 [.agg [Ux 4 y1.1, .mp 2], .one (Ux 4 y1.1), .one (Ut a1)] ⟨[(0, .cells 48 (Qa a0)), (1, .cells 72 [Ux 4 y1.1, .mp 2]), (2, .mp (QT y1.2.1) y1.2.2), (5, .cells 72 [Ux 4 y1.1, .mp 2])], [(4, some ⟨54, 1, (Enc.encL y1.1).length, []⟩)], 6⟩ (Qy (((Sum.elim (fun (y32 : Unit) => ([.one (Uu), .one (Uv 9)] : List AV)) (fun (y33 : (List Bool)) => ([.one (.osl 8 0 ((y1.1.length : Int).toNat) ((y1.1.length : Int).toNat)), .one (Uv 0)] : List AV)))) q_)) ⟨(((Sum.elim (fun (y32 : Unit) => (⟨[(6, .v (.one (Uu))), (7, .v (.one (Uv 9)))], [(0, .cells 48 (Qa a0)), (1, .cells 72 [Ux 4 y1.1, .mp 2]), (2, .mp (QT y1.2.1) y1.2.2), (5, .cells 72 [Ux 4 y1.1, .mp 2])], [(4, some ⟨54, 1, (Enc.encL y1.1).length, []⟩)], 11, 38, []⟩ : St)) (fun (y33 : (List Bool)) => (⟨[(6, .v (.one (.osl 8 0 ((y1.1.length : Int).toNat) ((y1.1.length : Int).toNat)))), (7, .v (.one (Uv 0)))], [(0, .cells 48 (Qa a0)), (1, .cells 72 [Ux 4 y1.1, .mp 2]), (2, .mp (QT y1.2.1) y1.2.2), (5, .cells 72 [Ux 4 y1.1, .mp 2]), (8, .cells 4 (Qa y33))], [(4, some ⟨54, 1, (Enc.encL y1.1).length, []⟩)], 11, 38, []⟩ : St)))) q_).hp, (((Sum.elim (fun (y32 : Unit) => (⟨[(6, .v (.one (Uu))), (7, .v (.one (Uv 9)))], [(0, .cells 48 (Qa a0)), (1, .cells 72 [Ux 4 y1.1, .mp 2]), (2, .mp (QT y1.2.1) y1.2.2), (5, .cells 72 [Ux 4 y1.1, .mp 2])], [(4, some ⟨54, 1, (Enc.encL y1.1).length, []⟩)], 11, 38, []⟩ : St)) (fun (y33 : (List Bool)) => (⟨[(6, .v (.one (.osl 8 0 ((y1.1.length : Int).toNat) ((y1.1.length : Int).toNat)))), (7, .v (.one (Uv 0)))], [(0, .cells 48 (Qa a0)), (1, .cells 72 [Ux 4 y1.1, .mp 2]), (2, .mp (QT y1.2.1) y1.2.2), (5, .cells 72 [Ux 4 y1.1, .mp 2]), (8, .cells 4 (Qa y33))], [(4, some ⟨54, 1, (Enc.encL y1.1).length, []⟩)], 11, 38, []⟩ : St)))) q_).tk, (((Sum.elim (fun (y32 : Unit) => (⟨[(6, .v (.one (Uu))), (7, .v (.one (Uv 9)))], [(0, .cells 48 (Qa a0)), (1, .cells 72 [Ux 4 y1.1, .mp 2]), (2, .mp (QT y1.2.1) y1.2.2), (5, .cells 72 [Ux 4 y1.1, .mp 2])], [(4, some ⟨54, 1, (Enc.encL y1.1).length, []⟩)], 11, 38, []⟩ : St)) (fun (y33 : (List Bool)) => (⟨[(6, .v (.one (.osl 8 0 ((y1.1.length : Int).toNat) ((y1.1.length : Int).toNat)))), (7, .v (.one (Uv 0)))], [(0, .cells 48 (Qa a0)), (1, .cells 72 [Ux 4 y1.1, .mp 2]), (2, .mp (QT y1.2.1) y1.2.2), (5, .cells 72 [Ux 4 y1.1, .mp 2]), (8, .cells 4 (Qa y33))], [(4, some ⟨54, 1, (Enc.encL y1.1).length, []⟩)], 11, 38, []⟩ : St)))) q_).nx⟩) hc34 h0 (fun y32 hc34 h0 => ?_) (fun y33 hc34 h0 => ?_)
 replace hc34 : CallM Try.prog 35 [.agg [Ux 4 y1.1, .mp 2], .one (Ux 4 y1.1), .one (Ut a1)] ⟨[(0, .cells 48 (Qa a0)), (1, .cells 72 [Ux 4 y1.1, .mp 2]), (2, .mp (QT y1.2.1) y1.2.2), (5, .cells 72 [Ux 4 y1.1, .mp 2])], [(4, some ⟨54, 1, (Enc.encL y1.1).length, []⟩)], 6⟩ (Qy [.one (Uu), .one (Uv 9)]) ⟨[(0, .cells 48 (Qa a0)), (1, .cells 72 [Ux 4 y1.1, .mp 2]), (2, .mp (QT y1.2.1) y1.2.2), (5, .cells 72 [Ux 4 y1.1, .mp 2])], [(4, some ⟨54, 1, (Enc.encL y1.1).length, []⟩)], 11⟩ := hc34
 refine Q9 rfl rfl (Ug rfl) (J4 rfl rfl rfl hc34 rfl (Um rfl (Um rfl (Um rfl (Um rfl Ul)))) (Ui rfl Uh)) <| U6 rfl rfl rfl <| U5 rfl rfl rfl (Qp rfl rfl) <| U5 rfl rfl rfl (Qp rfl rfl) <| U7 rfl rfl rfl <| U7 rfl rfl rfl <| Q3 <| Q1 <| Q2 <| Q2 <| Q0 <| U6 rfl rfl rfl <| U5 rfl rfl rfl (Q5 rfl rfl rfl) <| Q3 ?_
 refine Q1 ?_
 refine Qe rfl (fun _ => ?_) (fun h => nomatch h)
 refine Q2 <| Q0 <| U6 rfl rfl rfl <| U7 rfl rfl rfl <| U7 rfl rfl rfl <| Q3 <| Q1 <| Qz ?_
 have e := U3 h0; subst e
 exact hQ0 _ _ _ (.inr rfl) rfl (Qf (U2 rfl (.sub (.nil _)) (U1 rfl U0)) (Um rfl Ul) Uh rfl (Nat.le_trans hv0 (Ug rfl)) rfl rfl rfl (UD rfl UB) rfl rfl)
 replace hc34 : CallM Try.prog 35 [.agg [Ux 4 y1.1, .mp 2], .one (Ux 4 y1.1), .one (Ut a1)] ⟨[(0, .cells 48 (Qa a0)), (1, .cells 72 [Ux 4 y1.1, .mp 2]), (2, .mp (QT y1.2.1) y1.2.2), (5, .cells 72 [Ux 4 y1.1, .mp 2])], [(4, some ⟨54, 1, (Enc.encL y1.1).length, []⟩)], 6⟩ (Qy [.one (.osl 8 0 ((y1.1.length : Int).toNat) ((y1.1.length : Int).toNat)), .one (Uv 0)]) ⟨[(0, .cells 48 (Qa a0)), (1, .cells 72 [Ux 4 y1.1, .mp 2]), (2, .mp (QT y1.2.1) y1.2.2), (5, .cells 72 [Ux 4 y1.1, .mp 2]), (8, .cells 4 (Qa y33))], [(4, some ⟨54, 1, (Enc.encL y1.1).length, []⟩)], 11⟩ := hc34
 refine Q9 rfl rfl (Ug rfl) (J4 rfl rfl rfl hc34 rfl (Um rfl (Um rfl (Um rfl (Um rfl Ul)))) (Ui rfl Uh)) <| U6 rfl rfl rfl <| U5 rfl rfl rfl (Qp rfl rfl) <| U5 rfl rfl rfl (Qp rfl rfl) <| U7 rfl rfl rfl <| U7 rfl rfl rfl <| Q3 <| Q1 <| Q2 <| Q2 <| Q0 <| U6 rfl rfl rfl <| U5 rfl rfl rfl (Q5 rfl rfl rfl) <| Q3 ?_
 refine Q1 ?_
 refine Qe rfl (fun h => nomatch h) (fun _ => ?_)
 refine Qg <| Q1 <| Q2 <| Q0 <| U7 rfl rfl rfl <| Q3 <| Q1 <| Q2 <| Q2 <| Q0 <| U6 rfl rfl rfl <| U5 rfl rfl rfl (Yc Jm rfl) <| U6 rfl rfl rfl <| Q3 ?_
 refine Q1 <| Qc ?_
 refine QF 0 (fun (o43 : (List Dcl)) => ⟨[(9, .v (.one (Ux 11 o43)))], [(0, .cells 48 (Qa a0)), (1, .cells 72 [Ux 4 y1.1, .mp 2]), (2, .mp (QT y1.2.1) y1.2.2), (5, .cells 72 [Ux 4 y1.1, .mp 2]), (8, .cells 4 (Qa y33))], [(4, some ⟨54, 1, (Enc.encL y1.1).length, []⟩), (11, some ⟨48, 23, (Enc.encL o43).length, []⟩)], 12, 48, []⟩) (fun (o43 : (List Dcl)) => (some (o43, 0)) = some r) ?_ ?_
 refine JD (t := 9) 48 23 rfl ?_
 refine Qb h0 (fun o44 hl1 h0 => ?_)
 refine QE (m15o_l5 nn a0 y33 y1) (fun s1 => ⟨[(8, .v (.one (.osl 8 0 ((y1.1.length : Int).toNat) ((y1.1.length : Int).toNat)))), (9, .v (.one (Ux 11 s1.1))), (31, .v (.one (.osl 0 0 nn nn))), (32, .v (.one (Uv ((nn : Nat) : Int)))), (33, .v (.one (Uv s1.2)))], [(0, .cells 48 (Qa a0)), (1, .cells 72 [Ux 4 y1.1, .mp 2]), (2, .mp (QT y1.2.1) y1.2.2), (5, .cells 72 [Ux 4 y1.1, .mp 2]), (8, .cells 4 (Qa y33))], [(4, some ⟨54, 1, (Enc.encL y1.1).length, []⟩), (11, some ⟨48, 23, (Enc.encL s1.1).length, []⟩)], 12, 48, []⟩) (([] : List Dcl), 0) o44 (Qf (U1 rfl (U1 rfl (U1 rfl (U1 rfl (U1 rfl U0))))) (Um rfl (Um rfl (Um rfl (Um rfl (Um rfl Ul))))) (Ui rfl (Ui rfl Uh)) rfl (Nat.le_trans hv0 (Ug rfl)) rfl rfl rfl (UD rfl (UE rfl rfl (UC rfl (UE rfl rfl (UD rfl UB))))) rfl rfl) hl1 (fun s1 n1 oo1 h1 ho1 => ?_)
 unfold m15o_l5 at h1
 refine Q2 <| Q0 <| U5 rfl rfl rfl (Q5 rfl rfl rfl) <| Q3 <| Q1 <| Q2 ?_
 refine Qe (b := (decide (s1.2 < ((nn : Nat) : Int)))) rfl (fun c45 => ?_) (fun c45 => ?_)
 replace h1 := Qm c45 h1
 refine Qg <| Q1 <| Q2 <| Qc <| Q2 <| Q0 <| U6 rfl rfl rfl ?_
 refine Qb h1 (fun x46 hx46 h1 => ?_)
 refine QQ h1 (fun g47 h1 => ?_)
 refine U5 rfl rfl rfl (Ju (α := Dcl) Jm rfl rfl hx46 g47) <| U5 rfl rfl rfl (YB (α := Dcl) (ys := [Uv x46.kind, YZ x46.name, Uv x46.params, Uv x46.ty.kind, Uv x46.ty.index, YZ x46.ty.name, Ut x46.ty.levels, Ut x46.ty.kids, Uv x46.value.kind, Uv x46.value.index, YZ x46.value.name, Ut x46.value.levels, Ut x46.value.kids, Uv x46.fixed, Ut x46.ctors, Uv x46.rcr.params, Uv x46.rcr.ty.kind, Uv x46.rcr.ty.index, YZ x46.rcr.ty.name, Ut x46.rcr.ty.levels, Ut x46.rcr.ty.kids, Ut x46.rcr.rules, Ut x46.funs]) Jt rfl rfl hx46 rfl) <| Q9 rfl rfl (Ug rfl) (QC KJ rfl) <| U7 rfl rfl rfl <| QL rfl rfl (Jo (x46 : Dcl) Jt rfl rfl rfl rfl rfl) <| Q3 <| Q1 <| Q2 <| Q0 <| U6 rfl rfl rfl <| U6 rfl rfl rfl ?_
 refine Qb h1 (fun x48 hx48 h1 => ?_)
 refine QQ h1 (fun g49 h1 => ?_)
 refine U5 rfl rfl rfl (Ju (α := Bool) YM rfl rfl hx48 g49) <| U5 rfl rfl rfl (Zk (α := Bool) (m := s1.2) (f := 0) Kr rfl rfl hx48 rfl) <| Q3 <| Q1 ?_
 refine Qe (b := x48) rfl (fun c50 => ?_) (fun c50 => ?_)
 replace h1 := Qm c50 h1
 refine Q0 <| U6 rfl rfl rfl <| U5 rfl rfl rfl (JQ (x46 : Dcl) Jt rfl rfl) <| Q9 rfl rfl (Ug rfl) (OpOK.lit1CE (x46 : Dcl) Jm KJ rfl rfl (Ug rfl) rfl) ?_
 refine QQ h1 (fun g51 h1 => ?_)
 refine Q9 rfl rfl (Ug rfl) (QO (α := Dcl) Jm el_48 rfl rfl rfl rfl rfl (.app _ _) g51) <| U7 rfl rfl rfl <| Q3 <| Qh <| Q1 <| Q0 <| U5 rfl rfl rfl (Q5 rfl rfl rfl) <| U6 rfl rfl rfl <| Q3 ?_
 have e := U3 h1; subst e
 refine QA ((s1.1 ++ ([x46])), (J1 (s1.2 + 1))) (Qf (U1 rfl (U1 rfl (U1 rfl (U1 rfl (U1 rfl U0))))) (Um rfl (Um rfl (Um rfl (Um rfl (Um rfl Ul))))) (Ui rfl (Ui rfl Uh)) rfl (Nat.le_trans hv0 (Ug rfl)) rfl rfl rfl (UD rfl (UE rfl rfl (UC rfl (UE rfl rfl (UD rfl UB))))) rfl rfl) ho1
 replace h1 := Qn c50 h1
 refine Qg <| Qh <| Q1 <| Q0 <| U5 rfl rfl rfl (Q5 rfl rfl rfl) <| U6 rfl rfl rfl <| Q3 ?_
 have e := U3 h1; subst e
 refine QA (s1.1, (J1 (s1.2 + 1))) (Qf (U1 rfl (U1 rfl (U1 rfl (U1 rfl (U1 rfl U0))))) (Um rfl (Um rfl (Um rfl (Um rfl (Um rfl Ul))))) (Ui rfl (Ui rfl Uh)) rfl (Nat.le_trans hv0 (Ug rfl)) rfl rfl rfl (UD rfl (UE rfl rfl (UC rfl (UE rfl rfl (UD rfl UB))))) rfl rfl) ho1
 replace h1 := Qn c45 h1
 refine QJ <| Qd <| Qd ?_
 have e := U3 h1; subst e
 have e_ : _ = _ := ho1
 subst e_
 exact QD s1.1 (Qf (U1 rfl U0) (Um rfl (Um rfl (Um rfl (Um rfl (Um rfl Ul))))) (Ui rfl (Ui rfl Uh)) rfl (Nat.le_trans hv0 (Ug rfl)) rfl rfl rfl (UD rfl (UE rfl rfl (UC rfl (UE rfl rfl (UD rfl UB))))) rfl rfl) h0
 intro o43 h0
 refine Qu <| Q1 <| Q2 <| Q0 <| U6 rfl rfl rfl <| U7 rfl rfl rfl <| U7 rfl rfl rfl <| Q3 <| Q1 <| Qz ?_
 have e := U3 h0; subst e
 exact hQ0 _ _ _ (.inr rfl) rfl (Qf (U2 rfl (.sub (.app _ _ _)) (U1 rfl U0)) (Um rfl Ul) Uh rfl (Nat.le_trans hv0 (Ug rfl)) rfl rfl rfl (UD rfl UB) rfl rfl)
 replace hc4 : CallM Try.prog 34 [.one (.osl 0 0 nn nn)] ⟨[(0, .cells 48 (Qa a0))], [], 1⟩ (Qy [.agg [Uu, .d (.v (.map none))], .one (Uv 8)]) ⟨[(0, .cells 48 (Qa a0)), (1, .cells 72 [Uu, .d (.v (.map none))])], [], 5⟩ := hc4
 refine Q9 rfl rfl (Ug rfl) (J4 rfl rfl rfl hc4 rfl (Um rfl Ul) Uh) <| U6 rfl rfl rfl <| U5 rfl rfl rfl (Qp rfl rfl) <| U5 rfl rfl rfl (Qp rfl rfl) <| Q9 rfl rfl (Ug rfl) (QC Zw rfl) <| QL rfl rfl (Qw Jq rfl rfl rfl rfl (Ug rfl) rfl) <| U7 rfl rfl rfl <| Q3 <| Q1 <| Q2 <| Q2 <| Q0 <| U6 rfl rfl rfl <| U5 rfl rfl rfl (Q5 rfl rfl rfl) ?_
 refine Q3 <| Q1 ?_
 refine Qe rfl (fun _ => ?_) (fun h => nomatch h)
 refine Q2 <| Q0 <| U6 rfl rfl rfl <| U7 rfl rfl rfl <| U7 rfl rfl rfl <| Q3 <| Q1 <| Qz ?_
 have e := U3 h0; subst e
 exact hQ0 _ _ _ (.inr rfl) rfl (Qf (U2 rfl (.sub (.nil _)) (U1 rfl U0)) (Um rfl Ul) Uh rfl (Nat.le_trans hv0 (Ug rfl)) rfl rfl rfl (UD rfl UB) rfl rfl)
 replace hc4 : CallM Try.prog 34 [.one (.osl 0 0 nn nn)] ⟨[(0, .cells 48 (Qa a0))], [], 1⟩ (Qy [.agg [Uu, .d (.v (.map none))], .one (Uv 9)]) ⟨[(0, .cells 48 (Qa a0)), (1, .cells 72 [Uu, .d (.v (.map none))])], [], 7⟩ := hc4
 refine Q9 rfl rfl (Ug rfl) (J4 rfl rfl rfl hc4 rfl (Um rfl Ul) Uh) <| U6 rfl rfl rfl <| U5 rfl rfl rfl (Qp rfl rfl) <| U5 rfl rfl rfl (Qp rfl rfl) <| Q9 rfl rfl (Ug rfl) (QC Zw rfl) <| QL rfl rfl (Qw Jq rfl rfl rfl rfl (Ug rfl) rfl) <| U7 rfl rfl rfl <| Q3 <| Q1 <| Q2 <| Q2 <| Q0 <| U6 rfl rfl rfl <| U5 rfl rfl rfl (Q5 rfl rfl rfl) ?_
 refine Q3 <| Q1 ?_
 refine Qe rfl (fun _ => ?_) (fun h => nomatch h)
 refine Q2 <| Q0 <| U6 rfl rfl rfl <| U7 rfl rfl rfl <| U7 rfl rfl rfl <| Q3 <| Q1 <| Qz ?_
 have e := U3 h0; subst e
 exact hQ0 _ _ _ (.inr rfl) rfl (Qf (U2 rfl (.sub (.nil _)) (U1 rfl U0)) (Um rfl Ul) Uh rfl (Nat.le_trans hv0 (Ug rfl)) rfl rfl rfl (UD rfl UB) rfl rfl)
end Go.Proofs.Ytijcchddnnnmdaa
namespace Go.Proofs.Ytijcchddnnnmdaa
open Go.RowKit Go.Shelf
set_option linter.unusedSimpArgs false
set_option linter.unusedVariables false
def m12o_l0 (x10 : (List UN)) (s2 : Int × (Qj UN Int)) (s3 : Int × (Qj UN Int)) : Option (LO (Int × (Qj UN Int)) (((Qj UN Int)) ⊕ (((List (List Int)) × (Qj UN Int)) ⊕ Unit ⊕ Unit))) :=
 cond (decide (s3.1 < (x10.length : Int)))
   (Option.bind (Jg x10 s3.1) fun (x13 : UN) =>
 cond (Jz s3.2 x13)
   (some (.done (.inr (.inr (.inl ())))))
   (some (.next ((J1 (s3.1 + 1)), (Y5 s3.2 x13 s2.1)))))
   (some (.done (.inl s3.2)))
def m12o_l1 (nn : Nat) (a0 : List Dcl) (s2 : Int × (Qj UN Int)) : Option (LO (Int × (Qj UN Int)) (((Qj UN Int)) ⊕ (((List (List Int)) × (Qj UN Int)) ⊕ Unit ⊕ Unit))) :=
 cond (decide (s2.1 < ((nn : Nat) : Int)))
   (Option.bind (Jg a0 s2.1) fun (x8 : Dcl) =>
 Qt (Nat.beq a0.length nn)
 (Option.bind (Wc x8) fun (x10 : (List UN)) =>
 Option.bind (Qv (m12o_l0 x10 s2) QH (0, s2.2)) (Sum.elim (fun (o11 : (Qj UN Int)) => some (.next ((J1 (s2.1 + 1)), o11))) (fun o => some (.done (.inr o))))))
   (some (.done (.inl s2.2)))
def m12o_l2 (x11 : (List UN)) (o6 : (Qj UN Int)) (s3 : (List Int) × Int) : Option (LO ((List Int) × Int) (((List Int)) ⊕ (((List (List Int)) × (Qj UN Int)) ⊕ Unit ⊕ Unit))) :=
 cond (decide (s3.2 < (x11.length : Int)))
   (Option.bind (Jg x11 s3.2) fun (x14 : UN) =>
 cond (!(Jz o6 x14))
   (some (.done (.inr (.inr (.inr ())))))
   (Qt (Nat.ble (s3.1.length + ([(Jl o6 x14)]).length) 1000000000)
 (some (.next ((s3.1 ++ ([(Jl o6 x14)])), (J1 (s3.2 + 1)))))))
   (some (.done (.inl s3.1)))
def m12o_l3 (nn : Nat) (a0 : List Dcl) (o6 : (Qj UN Int)) (s2 : Int × (List (List Int))) : Option (LO (Int × (List (List Int))) (((List (List Int))) ⊕ (((List (List Int)) × (Qj UN Int)) ⊕ Unit ⊕ Unit))) :=
 cond (decide (s2.1 < ((nn : Nat) : Int)))
   (Option.bind (Jg a0 s2.1) fun (x9 : Dcl) =>
 Qt (Nat.beq a0.length nn)
 (Option.bind (Wh x9) fun (x11 : (List UN)) =>
 Option.bind (Qv (m12o_l2 x11 o6) QH (([] : List Int), 0)) (Sum.elim (fun (o12 : (List Int)) => Option.bind (ZA o12) fun (x13 : List Int) =>
 Option.bind (Y2 x13 ((Enc.encL o12).length)) fun (x14 : List Int) =>
 Qt (Nat.ble (s2.2.length + ([x14]).length) 1000000000)
 (some (.next ((J1 (s2.1 + 1)), (s2.2 ++ ([x14])))))) (fun o => some (.done (.inr o))))))
   (some (.done (.inl s2.2)))
def m12o_l4 (a1 : List UN) (y1 : (List (List Int)) × (Qj UN Int)) (x32 : (List (List Int))) (s2 : Int × (List Bool)) : Option (LO (Int × (List Bool)) (((List Bool)) ⊕ (Unit ⊕ ((List Bool))))) :=
 cond (decide (s2.1 < (a1.length : Int)))
   (Option.bind (Jg a1 s2.1) fun (x40 : UN) =>
 cond (!(Jz y1.2 x40))
   (some (.done (.inr (.inl ()))))
   (Option.bind (m56f12 (Jl y1.2 x40) ((x32.length : Int).toNat) s2.2 x32) fun (x42 : (List Bool)) =>
 some (.next ((J1 (s2.1 + 1)), x42))))
   (some (.done (.inl s2.2)))
def m12o_l5 (nn : Nat) (a0 : List Dcl) (y34 : (List Bool)) (x32 : (List (List Int))) (s1 : (List UN) × Int) : Option (LO ((List UN) × Int) (((List UN)))) :=
 cond (decide (s1.2 < ((nn : Nat) : Int)))
   (Option.bind (Jg a0 s1.2) fun (x46 : Dcl) =>
 Qt (Nat.beq a0.length nn)
 (Option.bind (Jg y34 s1.2) fun (x48 : Bool) =>
 Qt (Nat.beq y34.length ((x32.length : Int).toNat))
 (cond x48
   (Option.bind (Wc x46) fun (x51 : (List UN)) =>
 Qt (Nat.ble (s1.1.length + x51.length) 1000000000)
 (some (.next ((s1.1 ++ x51), (J1 (s1.2 + 1))))))
   (some (.next (s1.1, (J1 (s1.2 + 1))))))))
   (some (.done s1.1))
def m12o (a0 : List Dcl) (a1 : List UN) (nn : Nat) : Option ((List UN) × Int) :=
 Option.bind (Option.bind (Qv (m12o_l1 nn a0) QH (0, gmNil)) (Sum.elim (fun (o6 : (Qj UN Int)) => Option.bind (Qv (m12o_l3 nn a0 o6) QH (0, ([] : List (List Int)))) (Sum.elim (fun (o7 : (List (List Int))) => some (.inl (o7, o6))) (fun o => some o))) (fun o => some o))) (Sum.elim (fun (y1 : (List (List Int)) × (Qj UN Int)) => Option.bind (m36 y1.1) fun (x32 : (List (List Int))) =>
 Option.bind (Qt (cond (decide (0 ≤ (x32.length : Int))) (Nat.ble (1 * (x32.length : Int).toNat) 281474976710656) false)
 (Option.bind (Qv (m12o_l4 a1 y1 x32) QH (0, (List.replicate (x32.length : Int).toNat false))) (Sum.elim (fun (o38 : (List Bool)) => some (.inr o38)) (fun o => some o)))) (Sum.elim (fun (y33 : Unit) => some (([] : List UN), 9)) (fun (y34 : (List Bool)) => Option.bind (Qv (m12o_l5 nn a0 y34 x32) QH (([] : List UN), 0)) (fun (o44 : (List UN)) => some (o44, 0))))) (Sum.elim (fun (y2 : Unit) => some (([] : List UN), 8)) (fun (y3 : Unit) => some (([] : List UN), 9))))
set_option maxRecDepth 100000 in
set_option maxHeartbeats 2000000 in
theorem m12o_ok (a0 : List Dcl) (a1 : List UN) (nn : Nat) (r : (List UN) × Int) (h0 : m12o a0 a1 nn = some r) : CallM Try.prog 12 [.one (.osl 0 0 nn nn), .one (Ut a1)] ⟨[(0, .cells 48 (Qa a0))], [], 1⟩ (Qy [.one (Ut r.1), .one (Uv r.2)]) ⟨[(0, .cells 48 (Qa a0))], [], 6⟩ := by
 unfold m12o at h0
 refine QP ⟨[(4, .v (.one (Ut r.1))), (5, .v (.one (Uv r.2)))], [(0, .cells 48 (Qa a0))], [], 6, 49, []⟩ rfl rfl en_12 (Ug rfl) rfl (Qk rfl (Qk rfl .nil)) (fun w0 M V0 Q hv0 hQ0 => ?_)
 simp only [J8]
 refine Q2 <| Q0 <| U7 rfl rfl rfl <| U7 rfl rfl rfl <| Q3 <| Q1 <| Q2 <| Q0 <| U6 rfl rfl rfl ?_
 refine Qb h0 (fun y5 h1 h0 => ?_)
 have hc4 : CallM Try.prog 34 [.one (.osl 0 0 nn nn)] ⟨[(0, .cells 48 (Qa a0))], [], 1⟩ (Qy (((Sum.elim (fun (y1 : (List (List Int)) × (Qj UN Int)) => ([.agg [Ux 4 y1.1, .mp 2], .one (Uv 0)] : List AV)) (Sum.elim (fun (y2 : Unit) => ([.agg [Uu, .d (.v (.map none))], .one (Uv 8)] : List AV)) (fun (y3 : Unit) => ([.agg [Uu, .d (.v (.map none))], .one (Uv 9)] : List AV))))) y5)) ⟨(((Sum.elim (fun (y1 : (List (List Int)) × (Qj UN Int)) => (⟨[(2, .v (.one (.ptr 1 0))), (3, .v (.one (Uv 0)))], [(0, .cells 48 (Qa a0)), (1, .cells 72 [Ux 4 y1.1, .mp 2]), (2, .mp (QT y1.2.1) y1.2.2)], [(4, some ⟨54, 1, (Enc.encL y1.1).length, []⟩)], 5, 88, []⟩ : St)) (Sum.elim (fun (y2 : Unit) => (⟨[(2, .v (.one (.ptr 1 0))), (3, .v (.one (Uv 8)))], [(0, .cells 48 (Qa a0)), (1, .cells 72 [Uu, .d (.v (.map none))])], [], 5, 88, []⟩ : St)) (fun (y3 : Unit) => (⟨[(2, .v (.one (.ptr 1 0))), (3, .v (.one (Uv 9)))], [(0, .cells 48 (Qa a0)), (1, .cells 72 [Uu, .d (.v (.map none))])], [], 7, 88, []⟩ : St))))) y5).hp, (((Sum.elim (fun (y1 : (List (List Int)) × (Qj UN Int)) => (⟨[(2, .v (.one (.ptr 1 0))), (3, .v (.one (Uv 0)))], [(0, .cells 48 (Qa a0)), (1, .cells 72 [Ux 4 y1.1, .mp 2]), (2, .mp (QT y1.2.1) y1.2.2)], [(4, some ⟨54, 1, (Enc.encL y1.1).length, []⟩)], 5, 88, []⟩ : St)) (Sum.elim (fun (y2 : Unit) => (⟨[(2, .v (.one (.ptr 1 0))), (3, .v (.one (Uv 8)))], [(0, .cells 48 (Qa a0)), (1, .cells 72 [Uu, .d (.v (.map none))])], [], 5, 88, []⟩ : St)) (fun (y3 : Unit) => (⟨[(2, .v (.one (.ptr 1 0))), (3, .v (.one (Uv 9)))], [(0, .cells 48 (Qa a0)), (1, .cells 72 [Uu, .d (.v (.map none))])], [], 7, 88, []⟩ : St))))) y5).tk, (((Sum.elim (fun (y1 : (List (List Int)) × (Qj UN Int)) => (⟨[(2, .v (.one (.ptr 1 0))), (3, .v (.one (Uv 0)))], [(0, .cells 48 (Qa a0)), (1, .cells 72 [Ux 4 y1.1, .mp 2]), (2, .mp (QT y1.2.1) y1.2.2)], [(4, some ⟨54, 1, (Enc.encL y1.1).length, []⟩)], 5, 88, []⟩ : St)) (Sum.elim (fun (y2 : Unit) => (⟨[(2, .v (.one (.ptr 1 0))), (3, .v (.one (Uv 8)))], [(0, .cells 48 (Qa a0)), (1, .cells 72 [Uu, .d (.v (.map none))])], [], 5, 88, []⟩ : St)) (fun (y3 : Unit) => (⟨[(2, .v (.one (.ptr 1 0))), (3, .v (.one (Uv 9)))], [(0, .cells 48 (Qa a0)), (1, .cells 72 [Uu, .d (.v (.map none))])], [], 7, 88, []⟩ : St))))) y5).nx⟩ := by
  refine JN y5 ((Sum.elim (fun (y1 : (List (List Int)) × (Qj UN Int)) => (⟨[(2, .v (.one (.ptr 1 0))), (3, .v (.one (Uv 0)))], [(0, .cells 48 (Qa a0)), (1, .cells 72 [Ux 4 y1.1, .mp 2]), (2, .mp (QT y1.2.1) y1.2.2)], [(4, some ⟨54, 1, (Enc.encL y1.1).length, []⟩)], 5, 88, []⟩ : St)) (Sum.elim (fun (y2 : Unit) => (⟨[(2, .v (.one (.ptr 1 0))), (3, .v (.one (Uv 8)))], [(0, .cells 48 (Qa a0)), (1, .cells 72 [Uu, .d (.v (.map none))])], [], 5, 88, []⟩ : St)) (fun (y3 : Unit) => (⟨[(2, .v (.one (.ptr 1 0))), (3, .v (.one (Uv 9)))], [(0, .cells 48 (Qa a0)), (1, .cells 72 [Uu, .d (.v (.map none))])], [], 7, 88, []⟩ : St))))) ((Sum.elim (fun (y1 : (List (List Int)) × (Qj UN Int)) => ([.agg [Ux 4 y1.1, .mp 2], .one (Uv 0)] : List AV)) (Sum.elim (fun (y2 : Unit) => ([.agg [Uu, .d (.v (.map none))], .one (Uv 8)] : List AV)) (fun (y3 : Unit) => ([.agg [Uu, .d (.v (.map none))], .one (Uv 9)] : List AV))))) rfl rfl W5 (Ug rfl) (fun z_ => by cases z_ with
    | inl _ => rfl
    | inr z_ => exact (by cases z_ <;> rfl)) (fun z_ => by cases z_ with
    | inl _ => exact (Yo Jq rfl rfl rfl rfl (Qk rfl .nil))
    | inr z_ => exact (by cases z_ with
    | inl _ => exact (Yo Jq rfl rfl rfl rfl (Qk rfl .nil))
    | inr _ => exact (Yo Jq rfl rfl rfl rfl (Qk rfl .nil)))) (fun w0 M V0 Q hv1 hQ1 => ?_)
  simp only [J8]
  refine Q2 <| Q0 <| Q9 rfl rfl (Ug rfl) (QC Zw rfl) <| U7 rfl rfl rfl <| Q3 <| Q1 <| Q2 <| Q0 <| Q9 rfl rfl (Ug rfl) (Yl UN Int) <| U5 rfl rfl rfl (ZQ K5 rfl rfl rfl) <| Q9 rfl rfl (Ug rfl) (QC Zw rfl) <| QL rfl rfl (Qw Jq rfl rfl rfl rfl (Ug rfl) rfl) <| Q3 <| Q1 ?_
  refine Q2 <| Q2 <| Q0 <| U6 rfl rfl rfl <| U5 rfl rfl rfl (Yc Jm rfl) <| U6 rfl rfl rfl <| Q3 <| Q1 <| Qc ?_
  refine QF 0 (fun (o6 : (Qj UN Int)) => ⟨[(0, .v (.one (.osl 0 0 nn nn))), (2, .v (.one (.ptr 1 0))), (4, .v (.one (.ptr 3 0)))], [(0, .cells 48 (Qa a0)), (1, .cells 72 [Uu, .d (.v (.map none))]), (2, .mp (QT o6.1) o6.2), (3, .cells 72 [Uu, .mp 2])], [], 4, 88, []⟩) (fun (o6 : (Qj UN Int)) => (Option.bind (Qv (m12o_l3 nn a0 o6) QH (0, ([] : List (List Int)))) (Sum.elim (fun (o7 : (List (List Int))) => some (.inl (o7, o6))) (fun o => some o))) = some y5) ?_ ?_
  refine Qb h1 (fun o7 hl2 h1 => ?_)
  refine QE (m12o_l1 nn a0) (fun s2 => ⟨[(0, .v (.one (.osl 0 0 nn nn))), (2, .v (.one (.ptr 1 0))), (4, .v (.one (.ptr 3 0))), (20, .v (.one (.osl 0 0 nn nn))), (21, .v (.one (Uv ((nn : Nat) : Int)))), (22, .v (.one (Uv s2.1)))], [(0, .cells 48 (Qa a0)), (1, .cells 72 [Uu, .d (.v (.map none))]), (2, .mp (QT s2.2.1) s2.2.2), (3, .cells 72 [Uu, .mp 2])], [], 4, 88, []⟩) (0, gmNil) o7 (Qf (U1 rfl (U1 rfl (U1 rfl (U1 rfl (U1 rfl (U1 rfl U0)))))) (Um rfl (Um rfl (Um rfl (Um rfl Ul)))) Uh rfl (Nat.le_trans hv1 (Ug rfl)) rfl rfl rfl (UD rfl (UE rfl rfl (UC rfl (UE rfl rfl UB)))) rfl rfl) hl2 (fun s2 n2 oo2 h2 ho2 => ?_)
  unfold m12o_l1 at h2
  refine Q2 <| Q0 <| U5 rfl rfl rfl (Q5 rfl rfl rfl) <| Q3 <| Q1 <| Q2 ?_
  refine Qe (b := (decide (s2.1 < ((nn : Nat) : Int)))) rfl (fun c8 => ?_) (fun c8 => ?_)
  replace h2 := Qm c8 h2
  refine Qg <| Q1 <| Q2 <| Qc <| Q2 <| Q0 <| U6 rfl rfl rfl ?_
  refine Qb h2 (fun x9 hx9 h2 => ?_)
  refine QQ h2 (fun g10 h2 => ?_)
  refine U5 rfl rfl rfl (Ju (α := Dcl) Jm rfl rfl hx9 g10) <| U5 rfl rfl rfl (YB (α := Dcl) (ys := [Uv x9.kind, YZ x9.name, Uv x9.params, Uv x9.ty.kind, Uv x9.ty.index, YZ x9.ty.name, Ut x9.ty.levels, Ut x9.ty.kids, Uv x9.value.kind, Uv x9.value.index, YZ x9.value.name, Ut x9.value.levels, Ut x9.value.kids, Uv x9.fixed, Ut x9.ctors, Uv x9.rcr.params, Uv x9.rcr.ty.kind, Uv x9.rcr.ty.index, YZ x9.rcr.ty.name, Ut x9.rcr.ty.levels, Ut x9.rcr.ty.kids, Ut x9.rcr.rules, Ut x9.funs]) Jt rfl rfl hx9 rfl) <| Q9 rfl rfl (Ug rfl) (QC KJ rfl) <| U7 rfl rfl rfl <| QL rfl rfl (Jo (x9 : Dcl) Jt rfl rfl rfl rfl rfl) <| Q3 <| Q1 <| Q2 <| Q0 <| U5 rfl rfl rfl (JQ (x9 : Dcl) Jt rfl rfl) ?_
  refine Qb h2 (fun x11 hx11 h2 => ?_)
  refine Q9 rfl rfl (Ug rfl) (Ql (Gx x9 x11 hx11) rfl (.cons (.agg (.cons (.d _) (.cons (.d _) (.cons (.d _) (.cons (.d _) (.cons (.d _) (.cons (.d _) (.cons (.d _) (.cons (.d _) (.cons (.d _) (.cons (.d _) (.cons (.d _) (.cons (.d _) (.cons (.d _) (.cons (.d _) (.cons (.d _) (.cons (.d _) (.cons (.d _) (.cons (.d _) (.cons (.d _) (.cons (.d _) (.cons (.d _) (.cons (.d _) (.cons (.d _) .nil)))))))))))))))))))))))) .nil)) <| U5 rfl rfl rfl (QB (α := UN) QU rfl (.d _)) <| U6 rfl rfl rfl <| Q3 <| Q1 <| Qc ?_
  refine QF 2 (fun (o12 : (Qj UN Int)) => ⟨[(0, .v (.one (.osl 0 0 nn nn))), (2, .v (.one (.ptr 1 0))), (4, .v (.one (.ptr 3 0))), (20, .v (.one (.osl 0 0 nn nn))), (21, .v (.one (Uv ((nn : Nat) : Int)))), (22, .v (.one (Uv s2.1)))], [(0, .cells 48 (Qa a0)), (1, .cells 72 [Uu, .d (.v (.map none))]), (2, .mp (QT o12.1) o12.2), (3, .cells 72 [Uu, .mp 2]), (4, .cells 48 (Uy x9))], [], 5, 88, []⟩) (fun (o12 : (Qj UN Int)) => (some (.next ((J1 (s2.1 + 1)), o12))) = some oo2) ?_ ?_
  refine Qb h2 (fun o13 hl3 h2 => ?_)
  refine QE (m12o_l0 x11 s2) (fun s3 => ⟨[(0, .v (.one (.osl 0 0 nn nn))), (2, .v (.one (.ptr 1 0))), (4, .v (.one (.ptr 3 0))), (5, .v (.one (Uv s2.1))), (20, .v (.one (.osl 0 0 nn nn))), (21, .v (.one (Uv ((nn : Nat) : Int)))), (22, .v (.one (Uv s2.1))), (28, .v (.one (Ut x11))), (29, .v (.one (Uv (x11.length : Int)))), (30, .v (.one (Uv s3.1)))], [(0, .cells 48 (Qa a0)), (1, .cells 72 [Uu, .d (.v (.map none))]), (2, .mp (QT s3.2.1) s3.2.2), (3, .cells 72 [Uu, .mp 2]), (4, .cells 48 (Uy x9))], [], 5, 88, []⟩) (0, s2.2) o13 (Qf (U1 rfl (U1 rfl (U1 rfl (U1 rfl (U1 rfl (U1 rfl (U1 rfl (U1 rfl (U1 rfl (U1 rfl U0)))))))))) (Um rfl (Um rfl (Um rfl (Um rfl (Um rfl Ul))))) Uh rfl (Nat.le_trans hv1 (Ug rfl)) rfl rfl rfl (UD rfl (UE rfl rfl (UC rfl (UE rfl rfl (UE rfl rfl UB))))) rfl rfl) hl3 (fun s3 n3 oo3 h3 ho3 => ?_)
  unfold m12o_l0 at h3
  refine Q2 <| Q0 <| U5 rfl rfl rfl (Q5 rfl rfl rfl) <| Q3 <| Q1 <| Q2 ?_
  refine Qe (b := (decide (s3.1 < (x11.length : Int)))) rfl (fun c14 => ?_) (fun c14 => ?_)
  replace h3 := Qm c14 h3
  refine Qg <| Q1 <| Q2 <| Qc <| Q2 <| Q0 ?_
  refine Qb h3 (fun x15 hx15 h3 => ?_)
  refine U5 rfl rfl rfl (Qi (α := UN) QU rfl (.d _) rfl hx15) <| U5 rfl rfl rfl (QI JG rfl rfl) <| U7 rfl rfl rfl <| Q3 <| Q1 <| Q2 <| Q2 <| Q0 <| U5 rfl rfl rfl (Q4 Y9 rfl) <| U5 rfl rfl rfl (Q7 Zc rfl rfl rfl) <| U6 rfl rfl rfl <| U5 rfl rfl rfl (JI (M := s3.2) (k := x15) Zb YG rfl rfl rfl) <| U6 rfl rfl rfl <| U5 rfl rfl rfl (Qp rfl rfl) ?_
  refine U5 rfl rfl rfl (Qp rfl rfl) <| U7 rfl rfl rfl <| U7 rfl rfl rfl <| Q3 <| Q1 <| Q2 <| Q0 <| U6 rfl rfl rfl <| Q3 <| Q1 ?_
  refine Qe (b := (Jz s3.2 x15)) rfl (fun c16 => ?_) (fun c16 => ?_)
  replace h3 := Qm c16 h3
  refine Q2 <| Q0 <| U5 rfl rfl rfl (Ys K5 rfl ) <| QL rfl rfl (Qw Jq rfl rfl rfl rfl (Ug rfl) rfl) <| U7 rfl rfl rfl <| Q3 <| Q1 <| Qz ?_
  have e := U3 h3; subst e
  have e_ : _ = _ := ho3
  subst e_
  try dsimp only [Sum.elim_inl, Sum.elim_inr] at h2
  have e := U3 h2; subst e
  have e_ : _ = _ := ho2
  subst e_
  try dsimp only [Sum.elim_inl, Sum.elim_inr] at h1
  have e := U3 h1; subst e
  exact hQ1 _ _ _ (.inr rfl) rfl (show StLe _ _ ⟨[(2, .v (.one (.ptr 1 0))), (3, .v (.one (Uv 8)))], [(0, .cells 48 (Qa a0)), (1, .cells 72 [Uu, .d (.v (.map none))])], [], 5, 88, []⟩ from (Qf (U1 rfl (U1 rfl U0)) (Um rfl (Um rfl Ul)) Uh rfl (Nat.le_trans hv1 (Ug rfl)) rfl rfl rfl (UD rfl (UE rfl rfl UB)) rfl rfl))
  replace h3 := Qn c16 h3
  refine Qg <| Q1 <| Q0 <| U5 rfl rfl rfl (Q4 Y9 rfl) <| U5 rfl rfl rfl (Q7 Zc rfl rfl rfl) <| U6 rfl rfl rfl <| U6 rfl rfl rfl <| QL rfl rfl (JW (M := s3.2) (k := x15) (v := s2.1) Zb rfl rfl rfl rfl rfl) <| Q3 <| Qh <| Q1 <| Q0 <| U5 rfl rfl rfl (Q5 rfl rfl rfl) <| U6 rfl rfl rfl ?_
  refine Q3 ?_
  have e := U3 h3; subst e
  refine QA ((J1 (s3.1 + 1)), (Y5 s3.2 x15 s2.1)) (Qf (U1 rfl (U1 rfl (U1 rfl (U1 rfl (U1 rfl (U1 rfl (U1 rfl (U1 rfl (U1 rfl (U1 rfl U0)))))))))) (Um rfl (Um rfl (Um rfl (Um rfl (Um rfl Ul))))) Uh rfl (Nat.le_trans hv1 (Ug rfl)) rfl rfl rfl (UD rfl (UE rfl rfl (UC rfl (UE rfl rfl (UE rfl rfl UB))))) rfl rfl) ho3
  replace h3 := Qn c14 h3
  refine QJ <| Qd <| Qd ?_
  have e := U3 h3; subst e
  have e_ : _ = _ := ho3
  subst e_
  exact QD s3.2 (Qf (U1 rfl (U1 rfl (U1 rfl (U1 rfl (U1 rfl (U1 rfl U0)))))) (Um rfl (Um rfl (Um rfl (Um rfl (Um rfl Ul))))) Uh rfl (Nat.le_trans hv1 (Ug rfl)) rfl rfl rfl (UD rfl (UE rfl rfl (UC rfl (UE rfl rfl (UE rfl rfl UB))))) rfl rfl) h2
  intro o12 h2
  refine Qu <| Qh <| Q1 <| Q0 <| U5 rfl rfl rfl (Q5 rfl rfl rfl) <| U6 rfl rfl rfl <| Q3 ?_
  have e := U3 h2; subst e
  refine QA ((J1 (s2.1 + 1)), o12) (Qf (U1 rfl (U1 rfl (U1 rfl (U1 rfl (U1 rfl (U1 rfl U0)))))) (Um rfl (Um rfl (Um rfl (Um rfl Ul)))) Uh rfl (Nat.le_trans hv1 (Ug rfl)) rfl rfl rfl (UD rfl (UE rfl rfl (UC rfl (UE rfl rfl UB)))) rfl rfl) ho2
  replace h2 := Qn c8 h2
  refine QJ <| Qd <| Qd ?_
  have e := U3 h2; subst e
  have e_ : _ = _ := ho2
  subst e_
  exact QD s2.2 (Qf (U1 rfl (U1 rfl (U1 rfl U0))) (Um rfl (Um rfl (Um rfl (Um rfl Ul)))) Uh rfl (Nat.le_trans hv1 (Ug rfl)) rfl rfl rfl (UD rfl (UE rfl rfl (UC rfl (UE rfl rfl UB)))) rfl rfl) h1
  intro o6 h1
  refine Qu <| Q1 <| Q2 <| Q2 <| Q0 <| U6 rfl rfl rfl <| U5 rfl rfl rfl (Yc Jm rfl) <| U6 rfl rfl rfl <| Q3 <| Q1 <| Qc ?_
  refine QF 4 (fun (o17 : (List (List Int))) => ⟨[(2, .v (.one (.ptr 1 0))), (4, .v (.one (.ptr 3 0)))], [(0, .cells 48 (Qa a0)), (1, .cells 72 [Uu, .d (.v (.map none))]), (2, .mp (QT o6.1) o6.2), (3, .cells 72 [Ux 4 o17, .mp 2])], [(4, some ⟨54, 1, (Enc.encL o17).length, []⟩)], 5, 88, []⟩) (fun (o17 : (List (List Int))) => (some (.inl (o17, o6))) = some y5) ?_ ?_
  refine Zj (i := 3) (off := 0) 54 1 rfl rfl ?_
  refine Qb h1 (fun o18 hl2 h1 => ?_)
  refine QE (m12o_l3 nn a0 o6) (fun s2 => ⟨[(2, .v (.one (.ptr 1 0))), (4, .v (.one (.ptr 3 0))), (49, .v (.one (.osl 0 0 nn nn))), (50, .v (.one (Uv ((nn : Nat) : Int)))), (51, .v (.one (Uv s2.1)))], [(0, .cells 48 (Qa a0)), (1, .cells 72 [Uu, .d (.v (.map none))]), (2, .mp (QT o6.1) o6.2), (3, .cells 72 [Ux 4 s2.2, .mp 2])], [(4, some ⟨54, 1, (Enc.encL s2.2).length, []⟩)], 5, 88, []⟩) (0, ([] : List (List Int))) o18 (Qf (U1 rfl (U1 rfl (U1 rfl (U1 rfl (U1 rfl U0))))) (Um rfl (Um rfl (Um rfl (Um rfl Ul)))) (Ui rfl Uh) rfl (Nat.le_trans hv1 (Ug rfl)) rfl rfl rfl (UD rfl (UE rfl rfl (UC rfl (UE rfl rfl UB)))) rfl rfl) hl2 (fun s2 n2 oo2 h2 ho2 => ?_)
  unfold m12o_l3 at h2
  refine Q2 <| Q0 <| U5 rfl rfl rfl (Q5 rfl rfl rfl) <| Q3 <| Q1 <| Q2 ?_
  refine Qe (b := (decide (s2.1 < ((nn : Nat) : Int)))) rfl (fun c19 => ?_) (fun c19 => ?_)
  replace h2 := Qm c19 h2
  refine Qg <| Q1 <| Q2 <| Qc <| Q2 <| Q0 ?_
  refine Qb h2 (fun x20 hx20 h2 => ?_)
  refine QQ h2 (fun g21 h2 => ?_)
  refine U5 rfl rfl rfl (Ju (α := Dcl) Jm rfl rfl hx20 g21) <| U5 rfl rfl rfl (YB (α := Dcl) (ys := [Uv x20.kind, YZ x20.name, Uv x20.params, Uv x20.ty.kind, Uv x20.ty.index, YZ x20.ty.name, Ut x20.ty.levels, Ut x20.ty.kids, Uv x20.value.kind, Uv x20.value.index, YZ x20.value.name, Ut x20.value.levels, Ut x20.value.kids, Uv x20.fixed, Ut x20.ctors, Uv x20.rcr.params, Uv x20.rcr.ty.kind, Uv x20.rcr.ty.index, YZ x20.rcr.ty.name, Ut x20.rcr.ty.levels, Ut x20.rcr.ty.kids, Ut x20.rcr.rules, Ut x20.funs]) Jt rfl rfl hx20 rfl) <| Q9 rfl rfl (Ug rfl) (QC KJ rfl) <| QL rfl rfl (Jo (x20 : Dcl) Jt rfl rfl rfl rfl rfl) <| Q3 <| Q1 <| Q2 <| Q0 <| U7 rfl rfl rfl <| Q3 <| Q1 <| Q2 <| Q2 <| Q0 ?_
  refine U5 rfl rfl rfl (JQ (x20 : Dcl) Jt rfl rfl) ?_
  refine Qb h2 (fun x22 hx22 h2 => ?_)
  refine Q9 rfl rfl (Ug rfl) (Ql (XD x20 x22 hx22) rfl (.cons (.agg (.cons (.d _) (.cons (.d _) (.cons (.d _) (.cons (.d _) (.cons (.d _) (.cons (.d _) (.cons (.d _) (.cons (.d _) (.cons (.d _) (.cons (.d _) (.cons (.d _) (.cons (.d _) (.cons (.d _) (.cons (.d _) (.cons (.d _) (.cons (.d _) (.cons (.d _) (.cons (.d _) (.cons (.d _) (.cons (.d _) (.cons (.d _) (.cons (.d _) (.cons (.d _) .nil)))))))))))))))))))))))) .nil)) <| U5 rfl rfl rfl (QB (α := UN) QU rfl (.d _)) <| U6 rfl rfl rfl <| Q3 <| Q1 <| Qc ?_
  refine QF 6 (fun (o23 : (List Int)) => ⟨[(2, .v (.one (.ptr 1 0))), (4, .v (.one (.ptr 3 0))), (13, .v (.one (.apv 6 1 ((Enc.encL o23).length) []))), (49, .v (.one (.osl 0 0 nn nn))), (50, .v (.one (Uv ((nn : Nat) : Int)))), (51, .v (.one (Uv s2.1)))], [(0, .cells 48 (Qa a0)), (1, .cells 72 [Uu, .d (.v (.map none))]), (2, .mp (QT o6.1) o6.2), (3, .cells 72 [Ux 4 s2.2, .mp 2]), (5, .cells 48 (Uy x20))], [(4, some ⟨54, 1, (Enc.encL s2.2).length, []⟩), (6, some ⟨3, 1, (Enc.encL o23).length, (Enc.encL o23).flatten⟩)], 7, 88, []⟩) (fun (o23 : (List Int)) => (Option.bind (ZA o23) fun (x24 : List Int) =>
    Option.bind (Y2 x24 ((Enc.encL o23).length)) fun (x25 : List Int) =>
    Qt (Nat.ble (s2.2.length + ([x25]).length) 1000000000)
    (some (.next ((J1 (s2.1 + 1)), (s2.2 ++ ([x25])))))) = some oo2) ?_ ?_
  refine JD (t := 13) 3 1 rfl <| Kt (α := Int) (t := 13) rfl rfl ?_
  refine Qb h2 (fun o24 hl3 h2 => ?_)
  refine QE (m12o_l2 x22 o6) (fun s3 => ⟨[(2, .v (.one (.ptr 1 0))), (4, .v (.one (.ptr 3 0))), (13, .v (.one (.apv 6 1 ((Enc.encL s3.1).length) []))), (49, .v (.one (.osl 0 0 nn nn))), (50, .v (.one (Uv ((nn : Nat) : Int)))), (51, .v (.one (Uv s2.1))), (56, .v (.one (Ut x22))), (57, .v (.one (Uv (x22.length : Int)))), (58, .v (.one (Uv s3.2)))], [(0, .cells 48 (Qa a0)), (1, .cells 72 [Uu, .d (.v (.map none))]), (2, .mp (QT o6.1) o6.2), (3, .cells 72 [Ux 4 s2.2, .mp 2]), (5, .cells 48 (Uy x20))], [(4, some ⟨54, 1, (Enc.encL s2.2).length, []⟩), (6, some ⟨3, 1, (Enc.encL s3.1).length, (Enc.encL s3.1).flatten⟩)], 7, 88, []⟩) (([] : List Int), 0) o24 (Qf (U1 rfl (U1 rfl (U1 rfl (U1 rfl (U1 rfl (U1 rfl (U1 rfl (U1 rfl (U1 rfl U0))))))))) (Um rfl (Um rfl (Um rfl (Um rfl (Um rfl Ul))))) (Ui rfl (Ui rfl Uh)) rfl (Nat.le_trans hv1 (Ug rfl)) rfl rfl rfl (UD rfl (UE rfl rfl (UC rfl (UE rfl rfl (UE rfl rfl UB))))) rfl rfl) hl3 (fun s3 n3 oo3 h3 ho3 => ?_)
  unfold m12o_l2 at h3
  refine Q2 <| Q0 <| U5 rfl rfl rfl (Q5 rfl rfl rfl) <| Q3 <| Q1 <| Q2 ?_
  refine Qe (b := (decide (s3.2 < (x22.length : Int)))) rfl (fun c25 => ?_) (fun c25 => ?_)
  replace h3 := Qm c25 h3
  refine Qg <| Q1 <| Q2 <| Qc <| Q2 <| Q0 ?_
  refine Qb h3 (fun x26 hx26 h3 => ?_)
  refine U5 rfl rfl rfl (Qi (α := UN) QU rfl (.d _) rfl hx26) <| U5 rfl rfl rfl (QI JG rfl rfl) <| U7 rfl rfl rfl <| Q3 <| Q1 <| Q2 <| Q0 <| U5 rfl rfl rfl (Q4 Y9 rfl) <| U5 rfl rfl rfl (Q7 Zc rfl rfl rfl) <| U6 rfl rfl rfl <| U5 rfl rfl rfl (JI (M := o6) (k := x26) Zb YG rfl rfl rfl) <| U6 rfl rfl rfl <| U5 rfl rfl rfl (Qp rfl rfl) <| U5 rfl rfl rfl (Qp rfl rfl) ?_
  refine U7 rfl rfl rfl <| U7 rfl rfl rfl <| Q3 <| Q1 <| Q2 <| Q2 <| Q0 <| U6 rfl rfl rfl <| U5 rfl rfl rfl (J9 rfl) <| Q3 <| Q1 ?_
  refine Qe (b := (!(Jz o6 x26))) rfl (fun c27 => ?_) (fun c27 => ?_)
  replace h3 := Qm c27 h3
  refine Q2 <| Q0 <| U5 rfl rfl rfl (Ys K5 rfl ) <| QL rfl rfl (Qw Jq rfl rfl rfl rfl (Ug rfl) rfl) <| U7 rfl rfl rfl <| Q3 <| Q1 <| Qz ?_
  have e := U3 h3; subst e
  have e_ : _ = _ := ho3
  subst e_
  try dsimp only [Sum.elim_inl, Sum.elim_inr] at h2
  have e := U3 h2; subst e
  have e_ : _ = _ := ho2
  subst e_
  try dsimp only [Sum.elim_inl, Sum.elim_inr] at h1
  have e := U3 h1; subst e
  exact hQ1 _ _ _ (.inr rfl) rfl (show StLe _ _ ⟨[(2, .v (.one (.ptr 1 0))), (3, .v (.one (Uv 9)))], [(0, .cells 48 (Qa a0)), (1, .cells 72 [Uu, .d (.v (.map none))])], [], 7, 88, []⟩ from (Qf (U1 rfl (U1 rfl U0)) (Um rfl (Um rfl Ul)) Uh rfl (Nat.le_trans hv1 (Ug rfl)) rfl rfl rfl (UD rfl (UE rfl rfl UB)) rfl rfl))
  replace h3 := Qn c27 h3
  refine Qg <| Q1 <| Q0 <| U6 rfl rfl rfl <| U6 rfl rfl rfl <| Q9 rfl rfl (Ug rfl) (QZ (α := Int) ((Jl o6 x26)) JM Wg rfl rfl (Ug rfl) (Ug rfl) rfl rfl (.cons (.d _) .nil) rfl) ?_
  refine QQ h3 (fun g28 h3 => ?_)
  refine Q9 rfl rfl (Ug rfl) (YC (α := Int) (l := s3.1) (l2 := ([(Jl o6 x26)] : List Int)) JM XY rfl rfl rfl rfl (.app _ _) rfl g28) <| U7 rfl rfl rfl <| Q3 <| Qh <| Q1 <| Q0 <| U5 rfl rfl rfl (Q5 rfl rfl rfl) <| U6 rfl rfl rfl <| Q3 ?_
  have e := U3 h3; subst e
  refine QA ((s3.1 ++ ([(Jl o6 x26)])), (J1 (s3.2 + 1))) (Qf (U1 rfl (U1 rfl (U1 rfl (U1 rfl (U1 rfl (U1 rfl (U1 rfl (U1 rfl (U1 rfl U0))))))))) (Um rfl (Um rfl (Um rfl (Um rfl (Um rfl Ul))))) (Ui rfl (Ui rfl Uh)) rfl (Nat.le_trans hv1 (Ug rfl)) rfl rfl rfl (UD rfl (UE rfl rfl (UC rfl (UE rfl rfl (UE rfl rfl UB))))) rfl rfl) ho3
  replace h3 := Qn c25 h3
  refine QJ <| Qd <| Qd ?_
  have e := U3 h3; subst e
  have e_ : _ = _ := ho3
  subst e_
  exact QD s3.1 (Qf (U1 rfl (U1 rfl (U1 rfl (U1 rfl (U1 rfl (U1 rfl U0)))))) (Um rfl (Um rfl (Um rfl (Um rfl (Um rfl Ul))))) (Ui rfl (Ui rfl Uh)) rfl (Nat.le_trans hv1 (Ug rfl)) rfl rfl rfl (UD rfl (UE rfl rfl (UC rfl (UE rfl rfl (UE rfl rfl UB))))) rfl rfl) h2
  intro o23 h2
  refine Qu <| Q1 <| Q2 <| Q0 <| U6 rfl rfl rfl ?_
  refine Qb h2 (fun x29 hx29 h2 => ?_)
  refine Q9 rfl rfl (Ug rfl) (QW (hp1' := []) (tk1' := [(6, some ⟨3, 1, (Enc.encL o23).length, (Enc.encL x29).flatten⟩)]) (hpF := [(0, .cells 48 (Qa a0)), (1, .cells 72 [Uu, .d (.v (.map none))]), (2, .mp (QT o6.1) o6.2), (3, .cells 72 [Ux 4 s2.2, .mp 2]), (5, .cells 48 (Uy x20))]) (tkF := [(4, some ⟨54, 1, (Enc.encL s2.2).length, []⟩)]) (res2 := Qy []) (nx2 := 7) [6] rfl rfl (KL o23 x29 hx29) rfl rfl U8 rfl rfl Uo (Uk rfl Uj) (Um rfl (Um rfl (Um rfl (Um rfl (Um rfl Ul))))) (Ui rfl Uh) rfl rfl rfl rfl rfl UB rfl rfl rfl rfl) <| Q3 <| Q1 ?_
  refine JO [3, 5, 7] [(0, 1), (1, 1)] mixed (by kernel_rfl) (by kernel_rfl) (by kernel_rfl) ?_
  refine RunA.rd rfl rfl rfl (Q6 (Q4 JP rfl)) rfl <| RunA.rd rfl rfl rfl (Q6 (Q7 Yr rfl rfl rfl)) rfl <| RunA.rd rfl rfl rfl (Q6 (J0 rfl)) rfl ?_
  refine Qb h2 (fun x30 hx30 h2 => ?_)
  refine RunA.eff rfl rfl rfl (QW (hp1' := []) (tk1' := [(7, some ⟨3, 1, (Enc.encL x30).length, []⟩)]) (hpF := [(0, .cells 48 (Qa a0)), (1, .cells 72 [Uu, .d (.v (.map none))]), (2, .mp (QT o6.1) o6.2), (3, .cells 72 [Ux 4 s2.2, .mp 2]), (5, .cells 48 (Uy x20))]) (tkF := [(4, some ⟨54, 1, (Enc.encL s2.2).length, []⟩)]) (res2 := Qy [.one (Ux 7 x30)]) (nx2 := 8) [6] rfl rfl (Zs x29 ((Enc.encL o23).length) x30 hx30) rfl rfl U8 rfl rfl Uo (Uk rfl Uj) (Um rfl (Um rfl (Um rfl (Um rfl (Um rfl Ul))))) (Ui rfl Uh) rfl rfl rfl rfl rfl UB rfl rfl rfl rfl) rfl <| RunA.rd rfl rfl rfl (Yi (α := List Int) (x30) Y1 Wa rfl rfl (Ug rfl) rfl rfl (.cons (.app _ _ _) .nil) rfl) rfl ?_
  refine QQ h2 (fun g31 h2 => ?_)
  refine RunA.eff rfl rfl rfl (QO (α := List Int) Y1 XM rfl rfl rfl rfl rfl (.d _) g31) rfl <| RunA.rd rfl rfl rfl (Q6 (Q4 JP rfl)) rfl <| RunA.eff rfl rfl rfl (Qw Yr rfl rfl rfl rfl (Ug rfl) rfl) rfl ?_
  refine RunA.nil ⟨?ex, _, _, rfl, ?_⟩
  case ex => exact ⟨⟨_, rfl, _, _, rfl, rfl, rfl, .inl ⟨rfl, _, Q6 (Q4 JP rfl), rfl⟩⟩, ⟨_, rfl, _, _, rfl, rfl, rfl, .inl ⟨rfl, _, Q6 (Q7 Yr rfl rfl rfl), rfl⟩⟩, trivial⟩
  refine JV (st' := ⟨[(2, .v (.one (.ptr 1 0))), (4, .v (.one (.ptr 3 0))), (49, .v (.one (.osl 0 0 nn nn))), (50, .v (.one (Uv ((nn : Nat) : Int)))), (51, .v (.one (Uv s2.1)))], [(0, .cells 48 (Qa a0)), (1, .cells 72 [Uu, .d (.v (.map none))]), (2, .mp (QT o6.1) o6.2), (3, .cells 72 [Ux 4 ((s2.2 ++ ([x30])) : List (List Int)), .mp 2]), (5, .cells 48 (Uy x20))], [(4, some ⟨54, 1, (Enc.encL ((s2.2 ++ ([x30])) : List (List Int))).length, []⟩), (7, some ⟨3, 1, (Enc.encL x30).length, []⟩)], 8, 88, []⟩) (Qf (U1 rfl (U1 rfl (U1 rfl (U1 rfl (U1 rfl U0))))) (Um rfl (Um rfl (Um rfl (Um rfl (Um rfl Ul))))) (Ui rfl (Ui rfl Uh)) rfl (Nat.le_trans hv1 (Ug rfl)) rfl rfl rfl (UD rfl (UE rfl rfl (UC rfl (UE rfl rfl (UE rfl rfl UB))))) rfl rfl) <| Qh <| Q1 <| Q0 <| U5 rfl rfl rfl (Q5 rfl rfl rfl) <| U6 rfl rfl rfl <| Q3 ?_
  have e := U3 h2; subst e
  refine QA ((J1 (s2.1 + 1)), (s2.2 ++ ([x30]))) (Qf (U1 rfl (U1 rfl (U1 rfl (U1 rfl (U1 rfl U0))))) (Um rfl (Um rfl (Um rfl (Um rfl Ul)))) (Ui rfl Uh) rfl (Nat.le_trans hv1 (Ug rfl)) rfl rfl rfl (UD rfl (UE rfl rfl (UC rfl (UE rfl rfl UB)))) rfl rfl) ho2
  replace h2 := Qn c19 h2
  refine QJ <| Qd <| Qd ?_
  have e := U3 h2; subst e
  have e_ : _ = _ := ho2
  subst e_
  exact QD s2.2 (Qf (U1 rfl (U1 rfl U0)) (Um rfl (Um rfl (Um rfl (Um rfl Ul)))) (Ui rfl Uh) rfl (Nat.le_trans hv1 (Ug rfl)) rfl rfl rfl (UD rfl (UE rfl rfl (UC rfl (UE rfl rfl UB)))) rfl rfl) h1
  intro o17 h1
  refine Qu <| Q1 <| Q2 <| Q0 <| U5 rfl rfl rfl (Qq Jq rfl rfl rfl rfl) <| QL rfl rfl (Qw Jq rfl rfl rfl rfl (Ug rfl) rfl) <| U7 rfl rfl rfl <| Q3 <| Q1 <| Qz ?_
  have e := U3 h1; subst e
  exact hQ1 _ _ _ (.inr rfl) rfl (show StLe _ _ ⟨[(2, .v (.one (.ptr 1 0))), (3, .v (.one (Uv 0)))], [(0, .cells 48 (Qa a0)), (1, .cells 72 [Ux 4 o17, .mp 2]), (2, .mp (QT o6.1) o6.2)], [(4, some ⟨54, 1, (Enc.encL o17).length, []⟩)], 5, 88, []⟩ from (Qf (U1 rfl (U1 rfl U0)) (Um rfl (Um rfl (Um rfl Ul))) (Ui rfl Uh) rfl (Nat.le_trans hv1 (Ug rfl)) rfl rfl rfl (UD rfl (UE rfl rfl (UC rfl UB))) rfl rfl))
 refine GK (C := fun q_ => CallM Try.prog 34 [.one (.osl 0 0 nn nn)] ⟨[(0, .cells 48 (Qa a0))], [], 1⟩ (Qy (((Sum.elim (fun (y1 : (List (List Int)) × (Qj UN Int)) => ([.agg [Ux 4 y1.1, .mp 2], .one (Uv 0)] : List AV)) (Sum.elim (fun (y2 : Unit) => ([.agg [Uu, .d (.v (.map none))], .one (Uv 8)] : List AV)) (fun (y3 : Unit) => ([.agg [Uu, .d (.v (.map none))], .one (Uv 9)] : List AV))))) q_)) ⟨(((Sum.elim (fun (y1 : (List (List Int)) × (Qj UN Int)) => (⟨[(2, .v (.one (.ptr 1 0))), (3, .v (.one (Uv 0)))], [(0, .cells 48 (Qa a0)), (1, .cells 72 [Ux 4 y1.1, .mp 2]), (2, .mp (QT y1.2.1) y1.2.2)], [(4, some ⟨54, 1, (Enc.encL y1.1).length, []⟩)], 5, 88, []⟩ : St)) (Sum.elim (fun (y2 : Unit) => (⟨[(2, .v (.one (.ptr 1 0))), (3, .v (.one (Uv 8)))], [(0, .cells 48 (Qa a0)), (1, .cells 72 [Uu, .d (.v (.map none))])], [], 5, 88, []⟩ : St)) (fun (y3 : Unit) => (⟨[(2, .v (.one (.ptr 1 0))), (3, .v (.one (Uv 9)))], [(0, .cells 48 (Qa a0)), (1, .cells 72 [Uu, .d (.v (.map none))])], [], 7, 88, []⟩ : St))))) q_).hp, (((Sum.elim (fun (y1 : (List (List Int)) × (Qj UN Int)) => (⟨[(2, .v (.one (.ptr 1 0))), (3, .v (.one (Uv 0)))], [(0, .cells 48 (Qa a0)), (1, .cells 72 [Ux 4 y1.1, .mp 2]), (2, .mp (QT y1.2.1) y1.2.2)], [(4, some ⟨54, 1, (Enc.encL y1.1).length, []⟩)], 5, 88, []⟩ : St)) (Sum.elim (fun (y2 : Unit) => (⟨[(2, .v (.one (.ptr 1 0))), (3, .v (.one (Uv 8)))], [(0, .cells 48 (Qa a0)), (1, .cells 72 [Uu, .d (.v (.map none))])], [], 5, 88, []⟩ : St)) (fun (y3 : Unit) => (⟨[(2, .v (.one (.ptr 1 0))), (3, .v (.one (Uv 9)))], [(0, .cells 48 (Qa a0)), (1, .cells 72 [Uu, .d (.v (.map none))])], [], 7, 88, []⟩ : St))))) q_).tk, (((Sum.elim (fun (y1 : (List (List Int)) × (Qj UN Int)) => (⟨[(2, .v (.one (.ptr 1 0))), (3, .v (.one (Uv 0)))], [(0, .cells 48 (Qa a0)), (1, .cells 72 [Ux 4 y1.1, .mp 2]), (2, .mp (QT y1.2.1) y1.2.2)], [(4, some ⟨54, 1, (Enc.encL y1.1).length, []⟩)], 5, 88, []⟩ : St)) (Sum.elim (fun (y2 : Unit) => (⟨[(2, .v (.one (.ptr 1 0))), (3, .v (.one (Uv 8)))], [(0, .cells 48 (Qa a0)), (1, .cells 72 [Uu, .d (.v (.map none))])], [], 5, 88, []⟩ : St)) (fun (y3 : Unit) => (⟨[(2, .v (.one (.ptr 1 0))), (3, .v (.one (Uv 9)))], [(0, .cells 48 (Qa a0)), (1, .cells 72 [Uu, .d (.v (.map none))])], [], 7, 88, []⟩ : St))))) q_).nx⟩) hc4 h0 (fun y1 hc4 h0 => ?_) (fun z_ hc4 h0 => GK (C := fun q_ => CallM Try.prog 34 [.one (.osl 0 0 nn nn)] ⟨[(0, .cells 48 (Qa a0))], [], 1⟩ (Qy (((Sum.elim (fun (y1 : (List (List Int)) × (Qj UN Int)) => ([.agg [Ux 4 y1.1, .mp 2], .one (Uv 0)] : List AV)) (Sum.elim (fun (y2 : Unit) => ([.agg [Uu, .d (.v (.map none))], .one (Uv 8)] : List AV)) (fun (y3 : Unit) => ([.agg [Uu, .d (.v (.map none))], .one (Uv 9)] : List AV))))) (.inr q_))) ⟨(((Sum.elim (fun (y1 : (List (List Int)) × (Qj UN Int)) => (⟨[(2, .v (.one (.ptr 1 0))), (3, .v (.one (Uv 0)))], [(0, .cells 48 (Qa a0)), (1, .cells 72 [Ux 4 y1.1, .mp 2]), (2, .mp (QT y1.2.1) y1.2.2)], [(4, some ⟨54, 1, (Enc.encL y1.1).length, []⟩)], 5, 88, []⟩ : St)) (Sum.elim (fun (y2 : Unit) => (⟨[(2, .v (.one (.ptr 1 0))), (3, .v (.one (Uv 8)))], [(0, .cells 48 (Qa a0)), (1, .cells 72 [Uu, .d (.v (.map none))])], [], 5, 88, []⟩ : St)) (fun (y3 : Unit) => (⟨[(2, .v (.one (.ptr 1 0))), (3, .v (.one (Uv 9)))], [(0, .cells 48 (Qa a0)), (1, .cells 72 [Uu, .d (.v (.map none))])], [], 7, 88, []⟩ : St))))) (.inr q_)).hp, (((Sum.elim (fun (y1 : (List (List Int)) × (Qj UN Int)) => (⟨[(2, .v (.one (.ptr 1 0))), (3, .v (.one (Uv 0)))], [(0, .cells 48 (Qa a0)), (1, .cells 72 [Ux 4 y1.1, .mp 2]), (2, .mp (QT y1.2.1) y1.2.2)], [(4, some ⟨54, 1, (Enc.encL y1.1).length, []⟩)], 5, 88, []⟩ : St)) (Sum.elim (fun (y2 : Unit) => (⟨[(2, .v (.one (.ptr 1 0))), (3, .v (.one (Uv 8)))], [(0, .cells 48 (Qa a0)), (1, .cells 72 [Uu, .d (.v (.map none))])], [], 5, 88, []⟩ : St)) (fun (y3 : Unit) => (⟨[(2, .v (.one (.ptr 1 0))), (3, .v (.one (Uv 9)))], [(0, .cells 48 (Qa a0)), (1, .cells 72 [Uu, .d (.v (.map none))])], [], 7, 88, []⟩ : St))))) (.inr q_)).tk, (((Sum.elim (fun (y1 : (List (List Int)) × (Qj UN Int)) => (⟨[(2, .v (.one (.ptr 1 0))), (3, .v (.one (Uv 0)))], [(0, .cells 48 (Qa a0)), (1, .cells 72 [Ux 4 y1.1, .mp 2]), (2, .mp (QT y1.2.1) y1.2.2)], [(4, some ⟨54, 1, (Enc.encL y1.1).length, []⟩)], 5, 88, []⟩ : St)) (Sum.elim (fun (y2 : Unit) => (⟨[(2, .v (.one (.ptr 1 0))), (3, .v (.one (Uv 8)))], [(0, .cells 48 (Qa a0)), (1, .cells 72 [Uu, .d (.v (.map none))])], [], 5, 88, []⟩ : St)) (fun (y3 : Unit) => (⟨[(2, .v (.one (.ptr 1 0))), (3, .v (.one (Uv 9)))], [(0, .cells 48 (Qa a0)), (1, .cells 72 [Uu, .d (.v (.map none))])], [], 7, 88, []⟩ : St))))) (.inr q_)).nx⟩) hc4 h0 (fun y2 hc4 h0 => ?_) (fun y3 hc4 h0 => ?_))
 replace hc4 : CallM Try.prog 34 [.one (.osl 0 0 nn nn)] ⟨[(0, .cells 48 (Qa a0))], [], 1⟩ (Qy [.agg [Ux 4 y1.1, .mp 2], .one (Uv 0)]) ⟨[(0, .cells 48 (Qa a0)), (1, .cells 72 [Ux 4 y1.1, .mp 2]), (2, .mp (QT y1.2.1) y1.2.2)], [(4, some ⟨54, 1, (Enc.encL y1.1).length, []⟩)], 5⟩ := hc4
 refine Q9 rfl rfl (Ug rfl) (J4 rfl rfl rfl hc4 rfl (Um rfl Ul) Uh) <| U6 rfl rfl rfl <| U5 rfl rfl rfl (Qp rfl rfl) <| U5 rfl rfl rfl (Qp rfl rfl) <| Q9 rfl rfl (Ug rfl) (QC Zw rfl) <| QL rfl rfl (Qw Jq rfl rfl rfl rfl (Ug rfl) rfl) <| U7 rfl rfl rfl <| Q3 <| Q1 <| Q2 <| Q2 <| Q0 <| U6 rfl rfl rfl <| U5 rfl rfl rfl (Q5 rfl rfl rfl) ?_
 refine Q3 <| Q1 ?_
 refine Qe rfl (fun h => nomatch h) (fun _ => ?_)
 refine Qg <| Q1 <| Q2 ?_
 refine JO [5] [] mixed (by kernel_rfl) (by kernel_rfl) (by kernel_rfl) ?_
 refine RunA.rd rfl rfl rfl (Q6 (Qq Jq rfl rfl rfl rfl)) rfl <| RunA.rd rfl rfl rfl (Q6 (Q4 JP rfl)) rfl <| RunA.rd rfl rfl rfl (Q6 (Q7 Yr rfl rfl rfl)) rfl ?_
 refine Qb h0 (fun x32 hx32 h0 => ?_)
 refine RunA.rd rfl rfl rfl (Ql (m36_ok y1.1 x32 hx32) rfl (.cons (.one (.app _ _ _)) .nil)) rfl <| RunA.rd rfl rfl rfl (Q6 (J0 rfl)) rfl ?_
 refine Qb h0 (fun y36 h1 h0 => ?_)
 have hc35 : CallM Try.prog 35 [.agg [Ux 4 y1.1, .mp 2], .one (Ut x32), .one (Ut a1)] ⟨[(0, .cells 48 (Qa a0)), (1, .cells 72 [Ux 4 y1.1, .mp 2]), (2, .mp (QT y1.2.1) y1.2.2), (5, .cells 72 [Ux 4 y1.1, .mp 2])], [(4, some ⟨54, 1, (Enc.encL y1.1).length, []⟩)], 6⟩ (Qy (((Sum.elim (fun (y33 : Unit) => ([.one (Uu), .one (Uv 9)] : List AV)) (fun (y34 : (List Bool)) => ([.one (.osl 8 0 ((x32.length : Int).toNat) ((x32.length : Int).toNat)), .one (Uv 0)] : List AV)))) y36)) ⟨(((Sum.elim (fun (y33 : Unit) => (⟨[(6, .v (.one (Uu))), (7, .v (.one (Uv 9)))], [(0, .cells 48 (Qa a0)), (1, .cells 72 [Ux 4 y1.1, .mp 2]), (2, .mp (QT y1.2.1) y1.2.2), (5, .cells 72 [Ux 4 y1.1, .mp 2])], [(4, some ⟨54, 1, (Enc.encL y1.1).length, []⟩)], 11, 38, []⟩ : St)) (fun (y34 : (List Bool)) => (⟨[(6, .v (.one (.osl 8 0 ((x32.length : Int).toNat) ((x32.length : Int).toNat)))), (7, .v (.one (Uv 0)))], [(0, .cells 48 (Qa a0)), (1, .cells 72 [Ux 4 y1.1, .mp 2]), (2, .mp (QT y1.2.1) y1.2.2), (5, .cells 72 [Ux 4 y1.1, .mp 2]), (8, .cells 4 (Qa y34))], [(4, some ⟨54, 1, (Enc.encL y1.1).length, []⟩)], 11, 38, []⟩ : St)))) y36).hp, (((Sum.elim (fun (y33 : Unit) => (⟨[(6, .v (.one (Uu))), (7, .v (.one (Uv 9)))], [(0, .cells 48 (Qa a0)), (1, .cells 72 [Ux 4 y1.1, .mp 2]), (2, .mp (QT y1.2.1) y1.2.2), (5, .cells 72 [Ux 4 y1.1, .mp 2])], [(4, some ⟨54, 1, (Enc.encL y1.1).length, []⟩)], 11, 38, []⟩ : St)) (fun (y34 : (List Bool)) => (⟨[(6, .v (.one (.osl 8 0 ((x32.length : Int).toNat) ((x32.length : Int).toNat)))), (7, .v (.one (Uv 0)))], [(0, .cells 48 (Qa a0)), (1, .cells 72 [Ux 4 y1.1, .mp 2]), (2, .mp (QT y1.2.1) y1.2.2), (5, .cells 72 [Ux 4 y1.1, .mp 2]), (8, .cells 4 (Qa y34))], [(4, some ⟨54, 1, (Enc.encL y1.1).length, []⟩)], 11, 38, []⟩ : St)))) y36).tk, (((Sum.elim (fun (y33 : Unit) => (⟨[(6, .v (.one (Uu))), (7, .v (.one (Uv 9)))], [(0, .cells 48 (Qa a0)), (1, .cells 72 [Ux 4 y1.1, .mp 2]), (2, .mp (QT y1.2.1) y1.2.2), (5, .cells 72 [Ux 4 y1.1, .mp 2])], [(4, some ⟨54, 1, (Enc.encL y1.1).length, []⟩)], 11, 38, []⟩ : St)) (fun (y34 : (List Bool)) => (⟨[(6, .v (.one (.osl 8 0 ((x32.length : Int).toNat) ((x32.length : Int).toNat)))), (7, .v (.one (Uv 0)))], [(0, .cells 48 (Qa a0)), (1, .cells 72 [Ux 4 y1.1, .mp 2]), (2, .mp (QT y1.2.1) y1.2.2), (5, .cells 72 [Ux 4 y1.1, .mp 2]), (8, .cells 4 (Qa y34))], [(4, some ⟨54, 1, (Enc.encL y1.1).length, []⟩)], 11, 38, []⟩ : St)))) y36).nx⟩ := by
  refine JN y36 ((Sum.elim (fun (y33 : Unit) => (⟨[(6, .v (.one (Uu))), (7, .v (.one (Uv 9)))], [(0, .cells 48 (Qa a0)), (1, .cells 72 [Ux 4 y1.1, .mp 2]), (2, .mp (QT y1.2.1) y1.2.2), (5, .cells 72 [Ux 4 y1.1, .mp 2])], [(4, some ⟨54, 1, (Enc.encL y1.1).length, []⟩)], 11, 38, []⟩ : St)) (fun (y34 : (List Bool)) => (⟨[(6, .v (.one (.osl 8 0 ((x32.length : Int).toNat) ((x32.length : Int).toNat)))), (7, .v (.one (Uv 0)))], [(0, .cells 48 (Qa a0)), (1, .cells 72 [Ux 4 y1.1, .mp 2]), (2, .mp (QT y1.2.1) y1.2.2), (5, .cells 72 [Ux 4 y1.1, .mp 2]), (8, .cells 4 (Qa y34))], [(4, some ⟨54, 1, (Enc.encL y1.1).length, []⟩)], 11, 38, []⟩ : St)))) ((Sum.elim (fun (y33 : Unit) => ([.one (Uu), .one (Uv 9)] : List AV)) (fun (y34 : (List Bool)) => ([.one (.osl 8 0 ((x32.length : Int).toNat) ((x32.length : Int).toNat)), .one (Uv 0)] : List AV)))) rfl rfl en_35 (Ug rfl) (fun z_ => by cases z_ <;> rfl) (fun z_ => by cases z_ with
    | inl _ => exact (Qk rfl (Qk rfl .nil))
    | inr _ => exact (Qk rfl (Qk rfl .nil))) (fun w0 M V0 Q hv1 hQ1 => ?_)
  simp only [J8]
  refine Q2 <| Q0 <| Q9 rfl rfl (Ug rfl) (Jc rfl) <| Q9 rfl rfl (Ug rfl) (Jc rfl) <| U7 rfl rfl rfl <| U7 rfl rfl rfl <| Q3 <| Q1 <| Q2 <| Q0 <| U5 rfl rfl rfl (Q7 Yr rfl rfl rfl) <| U5 rfl rfl rfl (QB (α := List Int) Y1 rfl (.d _)) ?_
  refine QQ h1 (fun g37 h1 => ?_)
  refine Q9 rfl rfl (Ug rfl) (OpOK.makeO (α := Bool) (z := false) YM WS rfl rfl Wx rfl rfl g37 rfl (by repeat (first | exact CLs.nil | refine CLs.cons (by first | exact .refl _ | exact .sub (.app _ _ _) | exact .sub (.nil _)) ?_))) ?_
  refine Q9 rfl rfl (Ug rfl) (QC z_75 rfl) <| QL rfl rfl (Qw Kc rfl rfl rfl rfl (Ug rfl) rfl) <| Q3 <| Q1 <| Q2 <| Q0 <| Q9 rfl rfl (Ug rfl) (QC z_106 rfl) <| Q3 <| Q1 <| Q2 <| Q0 <| U5 rfl rfl rfl (RO.makeFunc3 rfl rfl rfl) <| QL rfl rfl (Qw G9 rfl rfl rfl rfl (Ug rfl) rfl) <| Q3 ?_
  refine Q1 <| Q2 <| Q2 <| Q0 <| U6 rfl rfl rfl <| U5 rfl rfl rfl (QB (α := UN) QU rfl (.d _)) <| U6 rfl rfl rfl <| Q3 <| Q1 <| Qc ?_
  refine QF 0 (fun (o38 : (List Bool)) => ⟨[(8, .v (.one (.ptr 9 0)))], [(0, .cells 48 (Qa a0)), (1, .cells 72 [Ux 4 y1.1, .mp 2]), (2, .mp (QT y1.2.1) y1.2.2), (5, .cells 72 [Ux 4 y1.1, .mp 2]), (6, .cells 72 [Ux 4 y1.1, .mp 2]), (7, .cells 57 [Ut x32]), (8, .cells 4 (Qa o38)), (9, .cells 75 [.osl 8 0 ((x32.length : Int).toNat) ((x32.length : Int).toNat)]), (10, .cells 106 [.fn 56 [(9, 0), (7, 0), (10, 0)]])], [(4, some ⟨54, 1, (Enc.encL y1.1).length, []⟩)], 11, 38, []⟩) (fun (o38 : (List Bool)) => (some (.inr o38)) = some y36) ?_ ?_
  refine Qb h1 (fun o39 hl2 h1 => ?_)
  refine QE (m12o_l4 a1 y1 x32) (fun s2 => ⟨[(3, .v (.one (.ptr 6 0))), (8, .v (.one (.ptr 9 0))), (9, .v (.one (.ptr 10 0))), (18, .v (.one (Ut a1))), (19, .v (.one (Uv (a1.length : Int)))), (20, .v (.one (Uv s2.1)))], [(0, .cells 48 (Qa a0)), (1, .cells 72 [Ux 4 y1.1, .mp 2]), (2, .mp (QT y1.2.1) y1.2.2), (5, .cells 72 [Ux 4 y1.1, .mp 2]), (6, .cells 72 [Ux 4 y1.1, .mp 2]), (7, .cells 57 [Ut x32]), (8, .cells 4 (Qa s2.2)), (9, .cells 75 [.osl 8 0 ((x32.length : Int).toNat) ((x32.length : Int).toNat)]), (10, .cells 106 [.fn 56 [(9, 0), (7, 0), (10, 0)]])], [(4, some ⟨54, 1, (Enc.encL y1.1).length, []⟩)], 11, 38, []⟩) (0, (List.replicate (x32.length : Int).toNat false)) o39 (Qf (U1 rfl (U1 rfl (U1 rfl (U1 rfl (U1 rfl (U1 rfl U0)))))) (Um rfl (Um rfl (Um rfl (Um rfl (Um rfl (Um rfl (Um rfl (Um rfl (Um rfl Ul))))))))) (Ui rfl Uh) rfl (Nat.le_trans hv1 (Ug rfl)) rfl rfl rfl (UD rfl (UE rfl rfl (UC rfl (UE rfl rfl (UE rfl rfl (UE rfl rfl (UD rfl (UE rfl rfl (UE rfl rfl UB))))))))) rfl rfl) hl2 (fun s2 n2 oo2 h2 ho2 => ?_)
  unfold m12o_l4 at h2
  refine Q2 <| Q0 <| U5 rfl rfl rfl (Q5 rfl rfl rfl) <| Q3 <| Q1 <| Q2 ?_
  refine Qe (b := (decide (s2.1 < (a1.length : Int)))) rfl (fun c40 => ?_) (fun c40 => ?_)
  replace h2 := Qm c40 h2
  refine Qg <| Q1 <| Q2 <| Qc <| Q2 <| Q0 ?_
  refine Qb h2 (fun x41 hx41 h2 => ?_)
  refine U5 rfl rfl rfl (Qi (α := UN) QU rfl (.d _) rfl hx41) <| U5 rfl rfl rfl (QI JG rfl rfl) <| U7 rfl rfl rfl <| Q3 <| Q1 <| Q2 <| Q0 <| U5 rfl rfl rfl (Q4 Y9 rfl) <| U5 rfl rfl rfl (Q7 Zc rfl rfl rfl) <| U6 rfl rfl rfl <| U5 rfl rfl rfl (JI (M := y1.2) (k := x41) Zb YG rfl rfl rfl) <| U6 rfl rfl rfl <| U5 rfl rfl rfl (Qp rfl rfl) <| U5 rfl rfl rfl (Qp rfl rfl) ?_
  refine U7 rfl rfl rfl <| U7 rfl rfl rfl <| Q3 <| Q1 <| Q2 <| Q2 <| Q0 <| U6 rfl rfl rfl <| U5 rfl rfl rfl (J9 rfl) <| Q3 <| Q1 ?_
  refine Qe (b := (!(Jz y1.2 x41))) rfl (fun c42 => ?_) (fun c42 => ?_)
  replace h2 := Qm c42 h2
  refine Q2 <| Q0 <| U7 rfl rfl rfl <| U7 rfl rfl rfl <| Q3 <| Q1 <| Qz ?_
  have e := U3 h2; subst e
  have e_ : _ = _ := ho2
  subst e_
  try dsimp only [Sum.elim_inl, Sum.elim_inr] at h1
  have e := U3 h1; subst e
  exact hQ1 _ _ _ (.inr rfl) rfl (show StLe _ _ ⟨[(6, .v (.one (Uu))), (7, .v (.one (Uv 9)))], [(0, .cells 48 (Qa a0)), (1, .cells 72 [Ux 4 y1.1, .mp 2]), (2, .mp (QT y1.2.1) y1.2.2), (5, .cells 72 [Ux 4 y1.1, .mp 2])], [(4, some ⟨54, 1, (Enc.encL y1.1).length, []⟩)], 11, 38, []⟩ from (Qf (U1 rfl (U1 rfl U0)) (Um rfl (Um rfl (Um rfl (Um rfl Ul)))) (Ui rfl Uh) rfl (Nat.le_trans hv1 (Ug rfl)) rfl rfl rfl (UD rfl (UE rfl rfl (UC rfl (UE rfl rfl UB)))) rfl rfl))
  replace h2 := Qn c42 h2
  refine Qg <| Q1 <| Q0 <| U5 rfl rfl rfl (Q7 G9 rfl rfl rfl) <| U6 rfl rfl rfl ?_
  refine Qb h2 (fun x43 hx43 h2 => ?_)
  refine Q9 rfl rfl (Ug rfl) (QW (hp1' := [(9, .cells 75 [.osl 8 0 ((x32.length : Int).toNat) ((x32.length : Int).toNat)]), (8, .cells 4 (Qa x43)), (7, .cells 57 [Ut x32]), (10, .cells 106 [.fn 56 [(9, 0), (7, 0), (10, 0)]])]) (tk1' := []) (hpF := [(0, .cells 48 (Qa a0)), (1, .cells 72 [Ux 4 y1.1, .mp 2]), (2, .mp (QT y1.2.1) y1.2.2), (5, .cells 72 [Ux 4 y1.1, .mp 2]), (6, .cells 72 [Ux 4 y1.1, .mp 2])]) (tkF := [(4, some ⟨54, 1, (Enc.encL y1.1).length, []⟩)]) (res2 := Qy []) (nx2 := 11) [9, 8, 7, 10] rfl rfl (m56f12_ok (Jl y1.2 x41) ((x32.length : Int).toNat) s2.2 x32 x43 hx43) rfl rfl (Ub rfl rfl (Ua rfl (Ub rfl rfl (Ub rfl rfl U8)))) rfl rfl (Uq rfl (Us rfl (Uq rfl (Uq rfl Uo)))) Uj (Um rfl (Um rfl (Um rfl (Um rfl (Um rfl Ul))))) (Ui rfl Uh) rfl rfl rfl rfl rfl (UE rfl rfl (UD rfl (UE rfl rfl (UE rfl rfl UB)))) rfl rfl rfl rfl) <| Q3 <| Qh <| Q1 <| Q0 <| U5 rfl rfl rfl (Q5 rfl rfl rfl) <| U6 rfl rfl rfl <| Q3 ?_
  have e := U3 h2; subst e
  refine QA ((J1 (s2.1 + 1)), x43) (Qf (U1 rfl (U1 rfl (U1 rfl (U1 rfl (U1 rfl (U1 rfl U0)))))) (Um rfl (Um rfl (Um rfl (Um rfl (Um rfl (Um rfl (Um rfl (Um rfl (Um rfl Ul))))))))) (Ui rfl Uh) rfl (Nat.le_trans hv1 (Ug rfl)) rfl rfl rfl (UD rfl (UE rfl rfl (UC rfl (UE rfl rfl (UE rfl rfl (UE rfl rfl (UD rfl (UE rfl rfl (UE rfl rfl UB))))))))) rfl rfl) ho2
  replace h2 := Qn c40 h2
  refine QJ <| Qd <| Qd ?_
  have e := U3 h2; subst e
  have e_ : _ = _ := ho2
  subst e_
  exact QD s2.2 (Qf (U1 rfl U0) (Um rfl (Um rfl (Um rfl (Um rfl (Um rfl (Um rfl (Um rfl (Um rfl (Um rfl Ul))))))))) (Ui rfl Uh) rfl (Nat.le_trans hv1 (Ug rfl)) rfl rfl rfl (UD rfl (UE rfl rfl (UC rfl (UE rfl rfl (UE rfl rfl (UE rfl rfl (UD rfl (UE rfl rfl (UE rfl rfl UB))))))))) rfl rfl) h1
  intro o38 h1
  refine Qu <| Q1 <| Q2 <| Q0 <| U5 rfl rfl rfl (Q7 Kc rfl rfl rfl) <| U7 rfl rfl rfl <| U7 rfl rfl rfl <| Q3 <| Q1 <| Qz ?_
  have e := U3 h1; subst e
  exact hQ1 _ _ _ (.inr rfl) rfl (show StLe _ _ ⟨[(6, .v (.one (.osl 8 0 ((x32.length : Int).toNat) ((x32.length : Int).toNat)))), (7, .v (.one (Uv 0)))], [(0, .cells 48 (Qa a0)), (1, .cells 72 [Ux 4 y1.1, .mp 2]), (2, .mp (QT y1.2.1) y1.2.2), (5, .cells 72 [Ux 4 y1.1, .mp 2]), (8, .cells 4 (Qa o38))], [(4, some ⟨54, 1, (Enc.encL y1.1).length, []⟩)], 11, 38, []⟩ from (Qf (U1 rfl (U1 rfl U0)) (Um rfl (Um rfl (Um rfl (Um rfl (Um rfl Ul))))) (Ui rfl Uh) rfl (Nat.le_trans hv1 (Ug rfl)) rfl rfl rfl (UD rfl (UE rfl rfl (UC rfl (UE rfl rfl (UD rfl UB))))) rfl rfl))
 refine GK (C := fun q_ => CallM Try.prog 35 [.agg [Ux 4 y1.1, .mp 2], .one (Ut x32), .one (Ut a1)] ⟨[(0, .cells 48 (Qa a0)), (1, .cells 72 [Ux 4 y1.1, .mp 2]), (2, .mp (QT y1.2.1) y1.2.2), (5, .cells 72 [Ux 4 y1.1, .mp 2])], [(4, some ⟨54, 1, (Enc.encL y1.1).length, []⟩)], 6⟩ (Qy (((Sum.elim (fun (y33 : Unit) => ([.one (Uu), .one (Uv 9)] : List AV)) (fun (y34 : (List Bool)) => ([.one (.osl 8 0 ((x32.length : Int).toNat) ((x32.length : Int).toNat)), .one (Uv 0)] : List AV)))) q_)) ⟨(((Sum.elim (fun (y33 : Unit) => (⟨[(6, .v (.one (Uu))), (7, .v (.one (Uv 9)))], [(0, .cells 48 (Qa a0)), (1, .cells 72 [Ux 4 y1.1, .mp 2]), (2, .mp (QT y1.2.1) y1.2.2), (5, .cells 72 [Ux 4 y1.1, .mp 2])], [(4, some ⟨54, 1, (Enc.encL y1.1).length, []⟩)], 11, 38, []⟩ : St)) (fun (y34 : (List Bool)) => (⟨[(6, .v (.one (.osl 8 0 ((x32.length : Int).toNat) ((x32.length : Int).toNat)))), (7, .v (.one (Uv 0)))], [(0, .cells 48 (Qa a0)), (1, .cells 72 [Ux 4 y1.1, .mp 2]), (2, .mp (QT y1.2.1) y1.2.2), (5, .cells 72 [Ux 4 y1.1, .mp 2]), (8, .cells 4 (Qa y34))], [(4, some ⟨54, 1, (Enc.encL y1.1).length, []⟩)], 11, 38, []⟩ : St)))) q_).hp, (((Sum.elim (fun (y33 : Unit) => (⟨[(6, .v (.one (Uu))), (7, .v (.one (Uv 9)))], [(0, .cells 48 (Qa a0)), (1, .cells 72 [Ux 4 y1.1, .mp 2]), (2, .mp (QT y1.2.1) y1.2.2), (5, .cells 72 [Ux 4 y1.1, .mp 2])], [(4, some ⟨54, 1, (Enc.encL y1.1).length, []⟩)], 11, 38, []⟩ : St)) (fun (y34 : (List Bool)) => (⟨[(6, .v (.one (.osl 8 0 ((x32.length : Int).toNat) ((x32.length : Int).toNat)))), (7, .v (.one (Uv 0)))], [(0, .cells 48 (Qa a0)), (1, .cells 72 [Ux 4 y1.1, .mp 2]), (2, .mp (QT y1.2.1) y1.2.2), (5, .cells 72 [Ux 4 y1.1, .mp 2]), (8, .cells 4 (Qa y34))], [(4, some ⟨54, 1, (Enc.encL y1.1).length, []⟩)], 11, 38, []⟩ : St)))) q_).tk, (((Sum.elim (fun (y33 : Unit) => (⟨[(6, .v (.one (Uu))), (7, .v (.one (Uv 9)))], [(0, .cells 48 (Qa a0)), (1, .cells 72 [Ux 4 y1.1, .mp 2]), (2, .mp (QT y1.2.1) y1.2.2), (5, .cells 72 [Ux 4 y1.1, .mp 2])], [(4, some ⟨54, 1, (Enc.encL y1.1).length, []⟩)], 11, 38, []⟩ : St)) (fun (y34 : (List Bool)) => (⟨[(6, .v (.one (.osl 8 0 ((x32.length : Int).toNat) ((x32.length : Int).toNat)))), (7, .v (.one (Uv 0)))], [(0, .cells 48 (Qa a0)), (1, .cells 72 [Ux 4 y1.1, .mp 2]), (2, .mp (QT y1.2.1) y1.2.2), (5, .cells 72 [Ux 4 y1.1, .mp 2]), (8, .cells 4 (Qa y34))], [(4, some ⟨54, 1, (Enc.encL y1.1).length, []⟩)], 11, 38, []⟩ : St)))) q_).nx⟩) hc35 h0 (fun y33 hc35 h0 => ?_) (fun y34 hc35 h0 => ?_)
 replace hc35 : CallM Try.prog 35 [.agg [Ux 4 y1.1, .mp 2], .one (Ut x32), .one (Ut a1)] ⟨[(0, .cells 48 (Qa a0)), (1, .cells 72 [Ux 4 y1.1, .mp 2]), (2, .mp (QT y1.2.1) y1.2.2), (5, .cells 72 [Ux 4 y1.1, .mp 2])], [(4, some ⟨54, 1, (Enc.encL y1.1).length, []⟩)], 6⟩ (Qy [.one (Uu), .one (Uv 9)]) ⟨[(0, .cells 48 (Qa a0)), (1, .cells 72 [Ux 4 y1.1, .mp 2]), (2, .mp (QT y1.2.1) y1.2.2), (5, .cells 72 [Ux 4 y1.1, .mp 2])], [(4, some ⟨54, 1, (Enc.encL y1.1).length, []⟩)], 11⟩ := hc35
 refine RunA.eff rfl rfl rfl (J4 rfl rfl rfl hc35 rfl (Um rfl (Um rfl (Um rfl (Um rfl Ul)))) (Ui rfl Uh)) rfl <| RunA.rd rfl rfl rfl (Q6 (J0 rfl)) rfl <| RunA.rd rfl rfl rfl (Q6 (Qp rfl rfl)) rfl <| RunA.rd rfl rfl rfl (Q6 (Qp rfl rfl)) rfl <| RunA.rd rfl rfl rfl (Q6 (ZR rfl)) rfl <| RunA.rd rfl rfl rfl (Q6 (ZR rfl)) rfl ?_
 refine RunA.nil ⟨?ex, _, _, rfl, ?_⟩
 case ex => exact trivial
 refine JV (st' := ⟨[(0, .v (.one (.osl 0 0 nn nn))), (7, .v (.one (Uv 9))), (8, .v (.one (Uu)))], [(0, .cells 48 (Qa a0)), (1, .cells 72 [Ux 4 y1.1, .mp 2]), (2, .mp (QT y1.2.1) y1.2.2), (5, .cells 72 [Ux 4 y1.1, .mp 2])], [(4, some ⟨54, 1, (Enc.encL y1.1).length, []⟩)], 11, 49, []⟩) (Qf (U1 rfl (U1 rfl (U1 rfl U0))) (Um rfl (Um rfl (Um rfl (Um rfl Ul)))) (Ui rfl Uh) rfl (Nat.le_trans hv0 (Ug rfl)) rfl rfl rfl (UD rfl (UE rfl rfl (UC rfl (UE rfl rfl UB)))) rfl rfl) <| Q1 <| Q2 <| Q2 <| Q0 <| U6 rfl rfl rfl <| U5 rfl rfl rfl (Q5 rfl rfl rfl) <| Q3 <| Q1 ?_
 refine Qe rfl (fun _ => ?_) (fun h => nomatch h)
 refine Q2 <| Q0 <| U6 rfl rfl rfl <| U7 rfl rfl rfl <| U7 rfl rfl rfl <| Q3 <| Q1 <| Qz ?_
 have e := U3 h0; subst e
 exact hQ0 _ _ _ (.inr rfl) rfl (Qf (U2 rfl (.sub (.nil _)) (U1 rfl U0)) (Um rfl Ul) Uh rfl (Nat.le_trans hv0 (Ug rfl)) rfl rfl rfl (UD rfl UB) rfl rfl)
 replace hc35 : CallM Try.prog 35 [.agg [Ux 4 y1.1, .mp 2], .one (Ut x32), .one (Ut a1)] ⟨[(0, .cells 48 (Qa a0)), (1, .cells 72 [Ux 4 y1.1, .mp 2]), (2, .mp (QT y1.2.1) y1.2.2), (5, .cells 72 [Ux 4 y1.1, .mp 2])], [(4, some ⟨54, 1, (Enc.encL y1.1).length, []⟩)], 6⟩ (Qy [.one (.osl 8 0 ((x32.length : Int).toNat) ((x32.length : Int).toNat)), .one (Uv 0)]) ⟨[(0, .cells 48 (Qa a0)), (1, .cells 72 [Ux 4 y1.1, .mp 2]), (2, .mp (QT y1.2.1) y1.2.2), (5, .cells 72 [Ux 4 y1.1, .mp 2]), (8, .cells 4 (Qa y34))], [(4, some ⟨54, 1, (Enc.encL y1.1).length, []⟩)], 11⟩ := hc35
 refine RunA.eff rfl rfl rfl (J4 rfl rfl rfl hc35 rfl (Um rfl (Um rfl (Um rfl (Um rfl Ul)))) (Ui rfl Uh)) rfl <| RunA.rd rfl rfl rfl (Q6 (J0 rfl)) rfl <| RunA.rd rfl rfl rfl (Q6 (Qp rfl rfl)) rfl <| RunA.rd rfl rfl rfl (Q6 (Qp rfl rfl)) rfl <| RunA.rd rfl rfl rfl (Q6 (ZR rfl)) rfl <| RunA.rd rfl rfl rfl (Q6 (ZR rfl)) rfl ?_
 refine RunA.nil ⟨?ex, _, _, rfl, ?_⟩
 case ex => exact trivial
 refine JV (st' := ⟨[(0, .v (.one (.osl 0 0 nn nn))), (7, .v (.one (Uv 0))), (8, .v (.one (.osl 8 0 ((x32.length : Int).toNat) ((x32.length : Int).toNat))))], [(0, .cells 48 (Qa a0)), (1, .cells 72 [Ux 4 y1.1, .mp 2]), (2, .mp (QT y1.2.1) y1.2.2), (5, .cells 72 [Ux 4 y1.1, .mp 2]), (8, .cells 4 (Qa y34))], [(4, some ⟨54, 1, (Enc.encL y1.1).length, []⟩)], 11, 49, []⟩) (Qf (U1 rfl (U1 rfl (U1 rfl U0))) (Um rfl (Um rfl (Um rfl (Um rfl (Um rfl Ul))))) (Ui rfl Uh) rfl (Nat.le_trans hv0 (Ug rfl)) rfl rfl rfl (UD rfl (UE rfl rfl (UC rfl (UE rfl rfl (UD rfl UB))))) rfl rfl) <| Q1 <| Q2 <| Q2 <| Q0 <| U6 rfl rfl rfl <| U5 rfl rfl rfl (Q5 rfl rfl rfl) <| Q3 <| Q1 ?_
 refine Qe rfl (fun h => nomatch h) (fun _ => ?_)
 refine Qg <| Q1 <| Q2 <| Q0 <| U7 rfl rfl rfl <| Q3 <| Q1 <| Q2 <| Q2 <| Q0 <| U6 rfl rfl rfl <| U5 rfl rfl rfl (Yc Jm rfl) <| U6 rfl rfl rfl <| Q3 ?_
 refine Q1 <| Qc ?_
 refine QF 0 (fun (o44 : (List UN)) => ⟨[(9, .v (.one (Ux 11 o44)))], [(0, .cells 48 (Qa a0)), (1, .cells 72 [Ux 4 y1.1, .mp 2]), (2, .mp (QT y1.2.1) y1.2.2), (5, .cells 72 [Ux 4 y1.1, .mp 2]), (8, .cells 4 (Qa y34))], [(4, some ⟨54, 1, (Enc.encL y1.1).length, []⟩), (11, some ⟨9, 1, (Enc.encL o44).length, []⟩)], 12, 49, []⟩) (fun (o44 : (List UN)) => (some (o44, 0)) = some r) ?_ ?_
 refine JD (t := 9) 9 1 rfl ?_
 refine Qb h0 (fun o45 hl1 h0 => ?_)
 refine QE (m12o_l5 nn a0 y34 x32) (fun s1 => ⟨[(8, .v (.one (.osl 8 0 ((x32.length : Int).toNat) ((x32.length : Int).toNat)))), (9, .v (.one (Ux 11 s1.1))), (32, .v (.one (.osl 0 0 nn nn))), (33, .v (.one (Uv ((nn : Nat) : Int)))), (34, .v (.one (Uv s1.2)))], [(0, .cells 48 (Qa a0)), (1, .cells 72 [Ux 4 y1.1, .mp 2]), (2, .mp (QT y1.2.1) y1.2.2), (5, .cells 72 [Ux 4 y1.1, .mp 2]), (8, .cells 4 (Qa y34))], [(4, some ⟨54, 1, (Enc.encL y1.1).length, []⟩), (11, some ⟨9, 1, (Enc.encL s1.1).length, []⟩)], 12, 49, []⟩) (([] : List UN), 0) o45 (Qf (U1 rfl (U1 rfl (U1 rfl (U1 rfl (U1 rfl U0))))) (Um rfl (Um rfl (Um rfl (Um rfl (Um rfl Ul))))) (Ui rfl (Ui rfl Uh)) rfl (Nat.le_trans hv0 (Ug rfl)) rfl rfl rfl (UD rfl (UE rfl rfl (UC rfl (UE rfl rfl (UD rfl UB))))) rfl rfl) hl1 (fun s1 n1 oo1 h1 ho1 => ?_)
 unfold m12o_l5 at h1
 refine Q2 <| Q0 <| U5 rfl rfl rfl (Q5 rfl rfl rfl) <| Q3 <| Q1 <| Q2 ?_
 refine Qe (b := (decide (s1.2 < ((nn : Nat) : Int)))) rfl (fun c46 => ?_) (fun c46 => ?_)
 replace h1 := Qm c46 h1
 refine Qg <| Q1 <| Q2 <| Qc <| Q2 <| Q0 <| U6 rfl rfl rfl ?_
 refine Qb h1 (fun x47 hx47 h1 => ?_)
 refine QQ h1 (fun g48 h1 => ?_)
 refine U5 rfl rfl rfl (Ju (α := Dcl) Jm rfl rfl hx47 g48) <| U5 rfl rfl rfl (YB (α := Dcl) (ys := [Uv x47.kind, YZ x47.name, Uv x47.params, Uv x47.ty.kind, Uv x47.ty.index, YZ x47.ty.name, Ut x47.ty.levels, Ut x47.ty.kids, Uv x47.value.kind, Uv x47.value.index, YZ x47.value.name, Ut x47.value.levels, Ut x47.value.kids, Uv x47.fixed, Ut x47.ctors, Uv x47.rcr.params, Uv x47.rcr.ty.kind, Uv x47.rcr.ty.index, YZ x47.rcr.ty.name, Ut x47.rcr.ty.levels, Ut x47.rcr.ty.kids, Ut x47.rcr.rules, Ut x47.funs]) Jt rfl rfl hx47 rfl) <| Q9 rfl rfl (Ug rfl) (QC KJ rfl) <| U7 rfl rfl rfl <| QL rfl rfl (Jo (x47 : Dcl) Jt rfl rfl rfl rfl rfl) <| Q3 <| Q1 <| Q2 <| Q0 <| U6 rfl rfl rfl <| U6 rfl rfl rfl ?_
 refine Qb h1 (fun x49 hx49 h1 => ?_)
 refine QQ h1 (fun g50 h1 => ?_)
 refine U5 rfl rfl rfl (Ju (α := Bool) YM rfl rfl hx49 g50) <| U5 rfl rfl rfl (Zk (α := Bool) (m := s1.2) (f := 0) Kr rfl rfl hx49 rfl) <| Q3 <| Q1 ?_
 refine Qe (b := x49) rfl (fun c51 => ?_) (fun c51 => ?_)
 replace h1 := Qm c51 h1
 refine Q0 <| U6 rfl rfl rfl <| U5 rfl rfl rfl (JQ (x47 : Dcl) Jt rfl rfl) ?_
 refine Qb h1 (fun x52 hx52 h1 => ?_)
 refine Q9 rfl rfl (Ug rfl) (Ql (Gx x47 x52 hx52) rfl (.cons (.agg (.cons (.d _) (.cons (.d _) (.cons (.d _) (.cons (.d _) (.cons (.d _) (.cons (.d _) (.cons (.d _) (.cons (.d _) (.cons (.d _) (.cons (.d _) (.cons (.d _) (.cons (.d _) (.cons (.d _) (.cons (.d _) (.cons (.d _) (.cons (.d _) (.cons (.d _) (.cons (.d _) (.cons (.d _) (.cons (.d _) (.cons (.d _) (.cons (.d _) (.cons (.d _) .nil)))))))))))))))))))))))) .nil)) ?_
 refine QQ h1 (fun g53 h1 => ?_)
 refine Q9 rfl rfl (Ug rfl) (QO (α := UN) QU ZF rfl rfl rfl rfl rfl (.d _) g53) <| U7 rfl rfl rfl <| Q3 <| Qh <| Q1 <| Q0 <| U5 rfl rfl rfl (Q5 rfl rfl rfl) <| U6 rfl rfl rfl <| Q3 ?_
 have e := U3 h1; subst e
 refine QA ((s1.1 ++ x52), (J1 (s1.2 + 1))) (Qf (U1 rfl (U1 rfl (U1 rfl (U1 rfl (U1 rfl U0))))) (Um rfl (Um rfl (Um rfl (Um rfl (Um rfl Ul))))) (Ui rfl (Ui rfl Uh)) rfl (Nat.le_trans hv0 (Ug rfl)) rfl rfl rfl (UD rfl (UE rfl rfl (UC rfl (UE rfl rfl (UD rfl UB))))) rfl rfl) ho1
 replace h1 := Qn c51 h1
 refine Qg <| Qh <| Q1 <| Q0 <| U5 rfl rfl rfl (Q5 rfl rfl rfl) <| U6 rfl rfl rfl <| Q3 ?_
 have e := U3 h1; subst e
 refine QA (s1.1, (J1 (s1.2 + 1))) (Qf (U1 rfl (U1 rfl (U1 rfl (U1 rfl (U1 rfl U0))))) (Um rfl (Um rfl (Um rfl (Um rfl (Um rfl Ul))))) (Ui rfl (Ui rfl Uh)) rfl (Nat.le_trans hv0 (Ug rfl)) rfl rfl rfl (UD rfl (UE rfl rfl (UC rfl (UE rfl rfl (UD rfl UB))))) rfl rfl) ho1
 replace h1 := Qn c46 h1
 refine QJ <| Qd <| Qd ?_
 have e := U3 h1; subst e
 have e_ : _ = _ := ho1
 subst e_
 exact QD s1.1 (Qf (U1 rfl U0) (Um rfl (Um rfl (Um rfl (Um rfl (Um rfl Ul))))) (Ui rfl (Ui rfl Uh)) rfl (Nat.le_trans hv0 (Ug rfl)) rfl rfl rfl (UD rfl (UE rfl rfl (UC rfl (UE rfl rfl (UD rfl UB))))) rfl rfl) h0
 intro o44 h0
 refine Qu <| Q1 <| Q2 <| Q0 <| U6 rfl rfl rfl <| U7 rfl rfl rfl <| U7 rfl rfl rfl <| Q3 <| Q1 <| Qz ?_
 have e := U3 h0; subst e
 exact hQ0 _ _ _ (.inr rfl) rfl (Qf (U2 rfl (.sub (.app _ _ _)) (U1 rfl U0)) (Um rfl Ul) Uh rfl (Nat.le_trans hv0 (Ug rfl)) rfl rfl rfl (UD rfl UB) rfl rfl)
 replace hc4 : CallM Try.prog 34 [.one (.osl 0 0 nn nn)] ⟨[(0, .cells 48 (Qa a0))], [], 1⟩ (Qy [.agg [Uu, .d (.v (.map none))], .one (Uv 8)]) ⟨[(0, .cells 48 (Qa a0)), (1, .cells 72 [Uu, .d (.v (.map none))])], [], 5⟩ := hc4
 refine Q9 rfl rfl (Ug rfl) (J4 rfl rfl rfl hc4 rfl (Um rfl Ul) Uh) <| U6 rfl rfl rfl <| U5 rfl rfl rfl (Qp rfl rfl) <| U5 rfl rfl rfl (Qp rfl rfl) <| Q9 rfl rfl (Ug rfl) (QC Zw rfl) <| QL rfl rfl (Qw Jq rfl rfl rfl rfl (Ug rfl) rfl) <| U7 rfl rfl rfl <| Q3 <| Q1 <| Q2 <| Q2 <| Q0 <| U6 rfl rfl rfl <| U5 rfl rfl rfl (Q5 rfl rfl rfl) ?_
 refine Q3 <| Q1 ?_
 refine Qe rfl (fun _ => ?_) (fun h => nomatch h)
 refine Q2 <| Q0 <| U6 rfl rfl rfl <| U7 rfl rfl rfl <| U7 rfl rfl rfl <| Q3 <| Q1 <| Qz ?_
 have e := U3 h0; subst e
 exact hQ0 _ _ _ (.inr rfl) rfl (Qf (U2 rfl (.sub (.nil _)) (U1 rfl U0)) (Um rfl Ul) Uh rfl (Nat.le_trans hv0 (Ug rfl)) rfl rfl rfl (UD rfl UB) rfl rfl)
 replace hc4 : CallM Try.prog 34 [.one (.osl 0 0 nn nn)] ⟨[(0, .cells 48 (Qa a0))], [], 1⟩ (Qy [.agg [Uu, .d (.v (.map none))], .one (Uv 9)]) ⟨[(0, .cells 48 (Qa a0)), (1, .cells 72 [Uu, .d (.v (.map none))])], [], 7⟩ := hc4
 refine Q9 rfl rfl (Ug rfl) (J4 rfl rfl rfl hc4 rfl (Um rfl Ul) Uh) <| U6 rfl rfl rfl <| U5 rfl rfl rfl (Qp rfl rfl) <| U5 rfl rfl rfl (Qp rfl rfl) <| Q9 rfl rfl (Ug rfl) (QC Zw rfl) <| QL rfl rfl (Qw Jq rfl rfl rfl rfl (Ug rfl) rfl) <| U7 rfl rfl rfl <| Q3 <| Q1 <| Q2 <| Q2 <| Q0 <| U6 rfl rfl rfl <| U5 rfl rfl rfl (Q5 rfl rfl rfl) ?_
 refine Q3 <| Q1 ?_
 refine Qe rfl (fun _ => ?_) (fun h => nomatch h)
 refine Q2 <| Q0 <| U6 rfl rfl rfl <| U7 rfl rfl rfl <| U7 rfl rfl rfl <| Q3 <| Q1 <| Qz ?_
 have e := U3 h0; subst e
 exact hQ0 _ _ _ (.inr rfl) rfl (Qf (U2 rfl (.sub (.nil _)) (U1 rfl U0)) (Um rfl Ul) Uh rfl (Nat.le_trans hv0 (Ug rfl)) rfl rfl rfl (UD rfl UB) rfl rfl)
end Go.Proofs.Ytijcchddnnnmdaa
namespace Go.Proofs.Ytijcchddnnnmdaa
open Go.RowKit Go.Shelf
set_option linter.unusedSimpArgs false
set_option linter.unusedVariables false
theorem en_14 : J2 Try.prog 14 := enters_of Try.func14 (by kernel_rfl) rfl
def m14_l0 (a0 : List UN) (a1 : List UN) (s1 : Int) : Option (LO Int (Unit ⊕ Bool)) :=
 cond (decide (s1 < (a0.length : Int)))
   (Option.bind (Jg a0 s1) fun (x4 : UN) =>
 Option.bind (Jg a1 s1) fun (x5 : UN) =>
 cond (!(x4 == x5))
   (some (.done (.inr false)))
   (some (.next (J1 (s1 + 1)))))
   (some (.done (.inl ())))
def WZ (a0 : List UN) (a1 : List UN) : Option Bool :=
 cond ((a0.length : Int) != (a1.length : Int))
   (some false)
   (Option.bind (Qv (m14_l0 a0 a1) QH 0) (Sum.elim (fun (o2 : Unit) => some true) (fun o => some o)))
set_option maxRecDepth 100000 in
set_option maxHeartbeats 2000000 in
theorem m14_ok (a0 : List UN) (a1 : List UN) (r : Bool) (h0 : WZ a0 a1 = some r) : Fun Try.prog 14 [.one (Ut a0), .one (Ut a1)] (Qy [.one (Uw r)]) := by
 unfold WZ at h0
 refine QS 9 26 Try.func14 rfl en_14 rfl (Ug rfl) (fun S w => ?_)
 simp only [J8]
 refine Q2 <| Q0 <| U7 rfl rfl rfl <| Q3 <| Q1 <| Q2 <| Q2 <| Q0 <| U6 rfl rfl rfl <| U5 rfl rfl rfl (QB (α := UN) QU rfl (.d _)) <| U6 rfl rfl rfl <| U5 rfl rfl rfl (QB (α := UN) QU rfl (.d _)) <| U5 rfl rfl rfl (Q5 rfl rfl rfl) <| Q3 ?_
 refine Q1 ?_
 refine Qe (b := ((a0.length : Int) != (a1.length : Int))) rfl (fun c1 => ?_) (fun c1 => ?_)
 replace h0 := Qm c1 h0
 refine Q2 <| Q0 <| U7 rfl rfl rfl <| Q3 <| Q1 <| Qz ?_
 have e := U3 h0; subst e
 exact QK (fun _ _ h => h) rfl (Qk rfl .nil) (.cons (.one (.d _)) .nil)
 replace h0 := Qn c1 h0
 refine Qg <| Q1 <| Q2 <| Q2 <| Q0 <| U6 rfl rfl rfl <| U5 rfl rfl rfl (QB (α := UN) QU rfl (.d _)) <| U6 rfl rfl rfl <| Q3 <| Q1 <| Qc ?_
 refine QF 0 (fun (o2 : Unit) => ⟨[], [], [], 0, 26, []⟩) (fun (o2 : Unit) => (some true) = some r) ?_ ?_
 refine Qb h0 (fun o3 hl1 h0 => ?_)
 refine QE (m14_l0 a0 a1) (fun s1 => ⟨[(0, .v (.one (Ut a0))), (1, .v (.one (Ut a1))), (12, .v (.one (Uv (a0.length : Int)))), (13, .v (.one (Uv s1)))], [], [], 0, 26, []⟩) 0 o3 (Qf (U1 rfl (U1 rfl (U1 rfl (U1 rfl U0)))) Ul Uh rfl (Nat.zero_le _) rfl rfl rfl UB rfl rfl) hl1 (fun s1 n1 oo1 h1 ho1 => ?_)
 unfold m14_l0 at h1
 refine Q2 <| Q0 <| U5 rfl rfl rfl (Q5 rfl rfl rfl) <| Q3 <| Q1 <| Q2 ?_
 refine Qe (b := (decide (s1 < (a0.length : Int)))) rfl (fun c4 => ?_) (fun c4 => ?_)
 replace h1 := Qm c4 h1
 refine Qg <| Q1 <| Q2 <| Qc <| Q2 <| Q0 <| U6 rfl rfl rfl <| U7 rfl rfl rfl <| Q3 <| Q1 <| Q2 ?_
 refine JO [] [] mixed (by kernel_rfl) (by kernel_rfl) (by kernel_rfl) ?_
 refine RunA.rd rfl rfl rfl (Q6 (J0 rfl)) rfl <| RunA.rd rfl rfl rfl (Q6 (J0 rfl)) rfl ?_
 refine Qb h1 (fun x5 hx5 h1 => ?_)
 refine RunA.rd rfl rfl rfl (Q6 (Qi (α := UN) QU rfl (.d _) rfl hx5)) rfl <| RunA.rd rfl rfl rfl (Q6 (QI JG rfl rfl)) rfl <| RunA.rd rfl rfl rfl (Q6 (J0 rfl)) rfl <| RunA.rd rfl rfl rfl (Q6 (J0 rfl)) rfl ?_
 refine Qb h1 (fun x6 hx6 h1 => ?_)
 refine RunA.rd rfl rfl rfl (Q6 (Qi (α := UN) QU rfl (.d _) rfl hx6)) rfl <| RunA.rd rfl rfl rfl (Q6 (QI JG rfl rfl)) rfl <| RunA.rd rfl rfl rfl (Q6 (Xm rfl rfl)) rfl ?_
 refine RunA.nil ⟨?ex, _, _, rfl, ?_⟩
 case ex => exact trivial
 refine JV (st' := ⟨[(0, .v (.one (Ut a0))), (1, .v (.one (Ut a1))), (12, .v (.one (Uv (a0.length : Int)))), (13, .v (.one (Uv s1))), (24, .v (.one (Uw (!(x5 == x6)))))], [], [], 0, 26, []⟩) (Qf (U1 rfl (U1 rfl (U1 rfl (U1 rfl (U1 rfl U0))))) Ul Uh rfl (Nat.zero_le _) rfl rfl rfl UB rfl rfl) <| Q1 ?_
 refine Qe (b := (!(x5 == x6))) rfl (fun c7 => ?_) (fun c7 => ?_)
 replace h1 := Qm c7 h1
 refine Q2 <| Q0 <| U7 rfl rfl rfl <| Q3 <| Q1 <| Qz ?_
 have e := U3 h1; subst e
 have e_ : _ = _ := ho1
 subst e_
 try dsimp only [Sum.elim_inl, Sum.elim_inr] at h0
 have e := U3 h0; subst e
 exact QK (fun _ _ h => h) rfl (Qk rfl .nil) (.cons (.one (.d _)) .nil)
 replace h1 := Qn c7 h1
 refine Qg <| Qh <| Q1 <| Q0 <| U5 rfl rfl rfl (Q5 rfl rfl rfl) <| U6 rfl rfl rfl <| Q3 ?_
 have e := U3 h1; subst e
 refine QA (J1 (s1 + 1)) (Qf (U1 rfl (U1 rfl (U1 rfl (U1 rfl U0)))) Ul Uh rfl (Nat.zero_le _) rfl rfl rfl UB rfl rfl) ho1
 replace h1 := Qn c4 h1
 refine QJ <| Qd <| Qd ?_
 have e := U3 h1; subst e
 have e_ : _ = _ := ho1
 subst e_
 exact QD () (Qf U0 Ul Uh rfl (Nat.zero_le _) rfl rfl rfl UB rfl rfl) h0
 intro o2 h0
 refine Qu <| Q1 <| Q2 <| Q0 <| U7 rfl rfl rfl <| Q3 <| Q1 <| Qz ?_
 have e := U3 h0; subst e
 exact QK (fun _ _ h => h) rfl (Qk rfl .nil) (.cons (.one (.d _)) .nil)
end Go.Proofs.Ytijcchddnnnmdaa
namespace Go.Proofs.Ytijcchddnnnmdaa
open Go.RowKit
set_option linter.unusedSimpArgs false
set_option linter.unusedVariables false
set_option linter.unusedSectionVars false
section
variable {E : Env} {st : St} {d : Option Tmp} {ty : TypeId} {pos : String} {af : Array Edge} {g : Option (Nat × Bool)}
theorem OpOK.litO3 {α : Type} [Enc α] [EncLen α] (v1 v2 v3 : α) {t e : Nat} {zs : List Value} {o1 o2 o3 : Operand} {x1 x2 x3 : AV} {ys : List CA} (ht : J6 E.P t = some (e, Enc.sz α)) (hze : Js E.P e = some zs) (hzl : zs.length = Enc.sz α) (hz : zs.all (·.oneCell') = true) (hlen : 3 * Enc.sz α ≤ 16777216)
    (h1 : ev st.tm o1 = some (.v x1)) (h2 : ev st.tm o2 = some (.v x2)) (h3 : ev st.tm o3 = some (.v x3)) (hf : YN (JC (Enc.sz α) 3) (Jr zs 3) [(0, x1), (1, x2), (2, x3)] = some ys) (hs : CLs ys (Qa [v1, v2, v3])) :
    OpOK E ⟨d, .buildSlice t 3 #[(0, o1), (1, o2), (2, o3)], ty, pos, af, g⟩ st (.v (.one (.osl st.nx 0 3 3))) ⟨(st.nx, .cells e (Qa [v1, v2, v3])) :: st.hp, st.tk, st.nx + 1⟩ := by
  have ok := OpOK.litOsl (E := E) (st := st) (dd := d) (ty := ty) (pos := pos) (af := af) (g := g) (len := 3) (avs := [(0, x1), (1, x2), (2, x3)]) (parts := #[(0, o1), (1, o2), (2, o3)]) ht hze hzl hz hlen rfl (fun j i x hx => by
    match j, hx with
    | 0, hx => cases hx; exact ⟨o1, rfl, h1⟩
    | 1, hx => cases hx; exact ⟨o2, rfl, h2⟩
    | 2, hx => cases hx; exact ⟨o3, rfl, h3⟩) hf
  intro V a w hr ro n K Q hK
  refine ok V a w hr ro n K Q (fun V' w' v H hnx L hx => ?_)
  exact hK V' w' v (H.swapLe (.cells hs)) hnx L hx
theorem OpOK.storeOP {α : Type} [Enc α] [EncLen α] (l' : List α) {t n i off : Nat} {ag : Bool} {T : TypeId} {o1 o2 : Operand} {y y' : AV} {l : List α} (ht : Jp E.P t = some (ag, n)) (h1 : ev st.tm o1 = some (.v (.one (.ptr i off)))) (h2 : ev st.tm o2 = some (.v y)) (hs : ASub y y') (hn : y'.cells.length = n)
    (hi : Uf st.hp i = some (.cells T (Qa l))) (hoff : Nat.ble (off + n) (l.length * Enc.sz α) = true) (e : setL (Qa l) off y'.cells = Qa l') (hdd : d = none) :
    OpOK E ⟨d, .store t o1 o2, ty, pos, af, g⟩ st (.tup []) ⟨(i, .cells T (Qa l')) :: Jv i st.hp, st.tk, st.nx⟩ := by
  have := OpOK.storeS (E := E) (st := st) (dd := d) (ty := ty) (pos := pos) (af := af) (g := g) ht h1 h2 hs hi hn (by rw [flatE_len]; exact Nat.le_of_ble_eq_true hoff) hdd
  rw [e] at this; exact this
theorem OpOK.data6E {α : Type} [Enc α] (v1 v2 v3 v4 v5 v6 : α) {t e : Nat} {zs : List Value} {o1 o2 o3 o4 o5 o6 : Operand} {x1 x2 x3 x4 x5 x6 : AV} {ys : List CA} (ht : J6 E.P t = some (e, Enc.sz α)) (hze : Js E.P e = some zs) (hzl : zs.length = Enc.sz α) (hz : zs.all (·.oneCell') = true) (hlen : 6 * Enc.sz α ≤ 16777216)
    (h1 : ev st.tm o1 = some (.v x1)) (h2 : ev st.tm o2 = some (.v x2)) (h3 : ev st.tm o3 = some (.v x3)) (h4 : ev st.tm o4 = some (.v x4)) (h5 : ev st.tm o5 = some (.v x5)) (h6 : ev st.tm o6 = some (.v x6)) (hf : YN (JC (Enc.sz α) 6) (Jr zs 6) [(0, x1), (1, x2), (2, x3), (3, x4), (4, x5), (5, x6)] = some ys) (hs : CSubs ys (Enc.enc v1 ++ (Enc.enc v2 ++ (Enc.enc v3 ++ (Enc.enc v4 ++ (Enc.enc v5 ++ (Enc.enc v6))))))) (hel : (Enc.enc v1).length = Enc.sz α ∧ (Enc.enc v2).length = Enc.sz α ∧ (Enc.enc v3).length = Enc.sz α ∧ (Enc.enc v4).length = Enc.sz α ∧ (Enc.enc v5).length = Enc.sz α ∧ (Enc.enc v6).length = Enc.sz α) :
    OpOK E ⟨d, .buildSlice t 6 #[(0, o1), (1, o2), (2, o3), (3, o4), (4, o5), (5, o6)], ty, pos, af, g⟩ st (.v (.one (.d (.sl (Enc.sz α) (Enc.encL [v1, v2, v3, v4, v5, v6]))))) ⟨st.hp, st.tk, st.nx⟩ :=
  OpOK.litData (avs := [(0, x1), (1, x2), (2, x3), (3, x4), (4, x5), (5, x6)]) (Enc.encL [v1, v2, v3, v4, v5, v6]) ht hze hzl hz hlen rfl (fun j i x hx => by
    match j, hx with
    | 0, hx => cases hx; exact ⟨o1, rfl, h1⟩
    | 1, hx => cases hx; exact ⟨o2, rfl, h2⟩
    | 2, hx => cases hx; exact ⟨o3, rfl, h3⟩
    | 3, hx => cases hx; exact ⟨o4, rfl, h4⟩
    | 4, hx => cases hx; exact ⟨o5, rfl, h5⟩
    | 5, hx => cases hx; exact ⟨o6, rfl, h6⟩) hf (by rw [Enc.cons, Enc.cons, Enc.cons, Enc.cons, Enc.cons, Enc.one]; simpa using hs) (fun x hx => by
      rw [Enc.cons, Enc.cons, Enc.cons, Enc.cons, Enc.cons, Enc.one] at hx; simp at hx
      rcases hx with rfl | rfl | rfl | rfl | rfl | rfl
      · exact hel.1
      · exact hel.2.1
      · exact hel.2.2.1
      · exact hel.2.2.2.1
      · exact hel.2.2.2.2.1
      · exact hel.2.2.2.2.2) (by rw [Enc.len]; rfl)
end
end Go.Proofs.Ytijcchddnnnmdaa
namespace Go.Proofs.Ytijcchddnnnmdaa
open Go.RowKit Go.Shelf
set_option linter.unusedSimpArgs false
set_option linter.unusedVariables false
theorem XT : J6 Try.prog 39 = some (102, 2) := by kernel_rfl
theorem z_102 : Js Try.prog 102 = some [.int .i64 0, .slice none 0 0] := by kernel_rfl
theorem bd_42 : Yt Try.prog 42 [(0, 1), (1, 1), (2, 1), (3, 1), (4, 1)] [.int .i64 0, .int .i64 0, .string ByteArray.empty, .slice none 0 0, .slice none 0 0] := ⟨by kernel_rfl, by kernel_rfl⟩
theorem bd_48 : Yt Try.prog 48 [(0, 1), (1, 1), (2, 1), (3, 5), (8, 5), (13, 1), (14, 1), (15, 7), (22, 1)] [.int .i64 0, .string ByteArray.empty, .int .i64 0, .int .i64 0, .int .i64 0, .string ByteArray.empty, .slice none 0 0, .slice none 0 0, .int .i64 0, .int .i64 0, .string ByteArray.empty, .slice none 0 0, .slice none 0 0, .int .i64 0, .slice none 0 0, .int .i64 0, .int .i64 0, .int .i64 0, .string ByteArray.empty, .slice none 0 0, .slice none 0 0, .slice none 0 0, .slice none 0 0] := ⟨by kernel_rfl, by kernel_rfl⟩
theorem bd_84 : Yt Try.prog 84 [(0, 1), (1, 5)] [.string ByteArray.empty, .int .i64 0, .int .i64 0, .string ByteArray.empty, .slice none 0 0, .slice none 0 0] := ⟨by kernel_rfl, by kernel_rfl⟩
theorem bd_102 : Yt Try.prog 102 [(0, 1), (1, 1)] [.int .i64 0, .slice none 0 0] := ⟨by kernel_rfl, by kernel_rfl⟩
theorem en_11 : J2 Try.prog 11 := enters_of Try.func11 (by kernel_rfl) rfl
theorem en_33 : J2 Try.prog 33 := enters_of Try.func33 (by kernel_rfl) rfl
def Wv  : Option Bool :=
 Option.bind (some ()) (fun (y1 : Unit) => Option.bind (m23o ([(⟨0, ([112, 108, 117, 115] : List UInt8), 0, (Tm.mk 3 0 ([78, 97, 116] : List UInt8) ([] : List Lvl) ([] : List Tm)), (Tm.mk 0 0 ([] : List UInt8) ([] : List Lvl) ([] : List Tm)), 0, ([] : List Ctr), (⟨0, (Tm.mk 0 0 ([] : List UInt8) ([] : List Lvl) ([] : List Tm)), ([] : List Tm)⟩ : Rcr), ([] : List Fn)⟩ : Dcl), (⟨3, ([78, 97, 116] : List UInt8), 0, (Tm.mk 2 0 ([] : List UInt8) [(⟨0, ([] : List UK)⟩ : Lvl)] ([] : List Tm)), (Tm.mk 0 0 ([] : List UInt8) ([] : List Lvl) ([] : List Tm)), 0, [(⟨([78, 97, 116, 46, 122, 101, 114, 111] : List UInt8), (Tm.mk 3 0 ([78, 97, 116] : List UInt8) ([] : List Lvl) ([] : List Tm))⟩ : Ctr), (⟨([78, 97, 116, 46, 115, 117, 99, 99] : List UInt8), (Tm.mk 3 0 ([78, 97, 116] : List UInt8) ([] : List Lvl) ([] : List Tm))⟩ : Ctr)], (⟨0, (Tm.mk 0 0 ([] : List UInt8) ([] : List Lvl) ([] : List Tm)), ([] : List Tm)⟩ : Rcr), ([] : List Fn)⟩ : Dcl), (⟨1, ([116, 119, 111] : List UInt8), 0, (Tm.mk 3 0 ([78, 97, 116] : List UInt8) ([] : List Lvl) ([] : List Tm)), (Tm.mk 3 0 ([78, 97, 116, 46, 122, 101, 114, 111] : List UInt8) ([] : List Lvl) ([] : List Tm)), 0, ([] : List Ctr), (⟨0, (Tm.mk 0 0 ([] : List UInt8) ([] : List Lvl) ([] : List Tm)), ([] : List Tm)⟩ : Rcr), ([] : List Fn)⟩ : Dcl)]) 3) fun (x3 : (List (List Int)) × Int) =>
 Option.bind (m22o ([(⟨0, ([112, 108, 117, 115] : List UInt8), 0, (Tm.mk 3 0 ([78, 97, 116] : List UInt8) ([] : List Lvl) ([] : List Tm)), (Tm.mk 0 0 ([] : List UInt8) ([] : List Lvl) ([] : List Tm)), 0, ([] : List Ctr), (⟨0, (Tm.mk 0 0 ([] : List UInt8) ([] : List Lvl) ([] : List Tm)), ([] : List Tm)⟩ : Rcr), ([] : List Fn)⟩ : Dcl), (⟨3, ([78, 97, 116] : List UInt8), 0, (Tm.mk 2 0 ([] : List UInt8) [(⟨0, ([] : List UK)⟩ : Lvl)] ([] : List Tm)), (Tm.mk 0 0 ([] : List UInt8) ([] : List Lvl) ([] : List Tm)), 0, [(⟨([78, 97, 116, 46, 122, 101, 114, 111] : List UInt8), (Tm.mk 3 0 ([78, 97, 116] : List UInt8) ([] : List Lvl) ([] : List Tm))⟩ : Ctr), (⟨([78, 97, 116, 46, 115, 117, 99, 99] : List UInt8), (Tm.mk 3 0 ([78, 97, 116] : List UInt8) ([] : List Lvl) ([] : List Tm))⟩ : Ctr)], (⟨0, (Tm.mk 0 0 ([] : List UInt8) ([] : List Lvl) ([] : List Tm)), ([] : List Tm)⟩ : Rcr), ([] : List Fn)⟩ : Dcl), (⟨1, ([116, 119, 111] : List UInt8), 0, (Tm.mk 3 0 ([78, 97, 116] : List UInt8) ([] : List Lvl) ([] : List Tm)), (Tm.mk 3 0 ([78, 97, 116, 46, 122, 101, 114, 111] : List UInt8) ([] : List Lvl) ([] : List Tm)), 0, ([] : List Ctr), (⟨0, (Tm.mk 0 0 ([] : List UInt8) ([] : List Lvl) ([] : List Tm)), ([] : List Tm)⟩ : Rcr), ([] : List Fn)⟩ : Dcl)]) 3) fun (x4 : (List Int) × Int) =>
 Option.bind (m12o ([(⟨0, ([112, 108, 117, 115] : List UInt8), 0, (Tm.mk 3 0 ([78, 97, 116] : List UInt8) ([] : List Lvl) ([] : List Tm)), (Tm.mk 0 0 ([] : List UInt8) ([] : List Lvl) ([] : List Tm)), 0, ([] : List Ctr), (⟨0, (Tm.mk 0 0 ([] : List UInt8) ([] : List Lvl) ([] : List Tm)), ([] : List Tm)⟩ : Rcr), ([] : List Fn)⟩ : Dcl), (⟨3, ([78, 97, 116] : List UInt8), 0, (Tm.mk 2 0 ([] : List UInt8) [(⟨0, ([] : List UK)⟩ : Lvl)] ([] : List Tm)), (Tm.mk 0 0 ([] : List UInt8) ([] : List Lvl) ([] : List Tm)), 0, [(⟨([78, 97, 116, 46, 122, 101, 114, 111] : List UInt8), (Tm.mk 3 0 ([78, 97, 116] : List UInt8) ([] : List Lvl) ([] : List Tm))⟩ : Ctr), (⟨([78, 97, 116, 46, 115, 117, 99, 99] : List UInt8), (Tm.mk 3 0 ([78, 97, 116] : List UInt8) ([] : List Lvl) ([] : List Tm))⟩ : Ctr)], (⟨0, (Tm.mk 0 0 ([] : List UInt8) ([] : List Lvl) ([] : List Tm)), ([] : List Tm)⟩ : Rcr), ([] : List Fn)⟩ : Dcl), (⟨1, ([116, 119, 111] : List UInt8), 0, (Tm.mk 3 0 ([78, 97, 116] : List UInt8) ([] : List Lvl) ([] : List Tm)), (Tm.mk 3 0 ([78, 97, 116, 46, 122, 101, 114, 111] : List UInt8) ([] : List Lvl) ([] : List Tm)), 0, ([] : List Ctr), (⟨0, (Tm.mk 0 0 ([] : List UInt8) ([] : List Lvl) ([] : List Tm)), ([] : List Tm)⟩ : Rcr), ([] : List Fn)⟩ : Dcl)]) ([([78, 97, 116] : List UInt8)]) 3) fun (x5 : (List UN) × Int) =>
 Option.bind (m15o ([(⟨0, ([112, 108, 117, 115] : List UInt8), 0, (Tm.mk 3 0 ([78, 97, 116] : List UInt8) ([] : List Lvl) ([] : List Tm)), (Tm.mk 0 0 ([] : List UInt8) ([] : List Lvl) ([] : List Tm)), 0, ([] : List Ctr), (⟨0, (Tm.mk 0 0 ([] : List UInt8) ([] : List Lvl) ([] : List Tm)), ([] : List Tm)⟩ : Rcr), ([] : List Fn)⟩ : Dcl), (⟨3, ([78, 97, 116] : List UInt8), 0, (Tm.mk 2 0 ([] : List UInt8) [(⟨0, ([] : List UK)⟩ : Lvl)] ([] : List Tm)), (Tm.mk 0 0 ([] : List UInt8) ([] : List Lvl) ([] : List Tm)), 0, [(⟨([78, 97, 116, 46, 122, 101, 114, 111] : List UInt8), (Tm.mk 3 0 ([78, 97, 116] : List UInt8) ([] : List Lvl) ([] : List Tm))⟩ : Ctr), (⟨([78, 97, 116, 46, 115, 117, 99, 99] : List UInt8), (Tm.mk 3 0 ([78, 97, 116] : List UInt8) ([] : List Lvl) ([] : List Tm))⟩ : Ctr)], (⟨0, (Tm.mk 0 0 ([] : List UInt8) ([] : List Lvl) ([] : List Tm)), ([] : List Tm)⟩ : Rcr), ([] : List Fn)⟩ : Dcl), (⟨1, ([116, 119, 111] : List UInt8), 0, (Tm.mk 3 0 ([78, 97, 116] : List UInt8) ([] : List Lvl) ([] : List Tm)), (Tm.mk 3 0 ([78, 97, 116, 46, 122, 101, 114, 111] : List UInt8) ([] : List Lvl) ([] : List Tm)), 0, ([] : List Ctr), (⟨0, (Tm.mk 0 0 ([] : List UInt8) ([] : List Lvl) ([] : List Tm)), ([] : List Tm)⟩ : Rcr), ([] : List Fn)⟩ : Dcl)]) ([([116, 119, 111] : List UInt8)]) 3) fun (x6 : (List Dcl) × Int) =>
 Option.bind (Jg ([(⟨0, ([112, 108, 117, 115] : List UInt8), 0, (Tm.mk 3 0 ([78, 97, 116] : List UInt8) ([] : List Lvl) ([] : List Tm)), (Tm.mk 0 0 ([] : List UInt8) ([] : List Lvl) ([] : List Tm)), 0, ([] : List Ctr), (⟨0, (Tm.mk 0 0 ([] : List UInt8) ([] : List Lvl) ([] : List Tm)), ([] : List Tm)⟩ : Rcr), ([] : List Fn)⟩ : Dcl), (⟨3, ([78, 97, 116] : List UInt8), 0, (Tm.mk 2 0 ([] : List UInt8) [(⟨0, ([] : List UK)⟩ : Lvl)] ([] : List Tm)), (Tm.mk 0 0 ([] : List UInt8) ([] : List Lvl) ([] : List Tm)), 0, [(⟨([78, 97, 116, 46, 122, 101, 114, 111] : List UInt8), (Tm.mk 3 0 ([78, 97, 116] : List UInt8) ([] : List Lvl) ([] : List Tm))⟩ : Ctr), (⟨([78, 97, 116, 46, 115, 117, 99, 99] : List UInt8), (Tm.mk 3 0 ([78, 97, 116] : List UInt8) ([] : List Lvl) ([] : List Tm))⟩ : Ctr)], (⟨0, (Tm.mk 0 0 ([] : List UInt8) ([] : List Lvl) ([] : List Tm)), ([] : List Tm)⟩ : Rcr), ([] : List Fn)⟩ : Dcl), (⟨1, ([116, 119, 111] : List UInt8), 0, (Tm.mk 3 0 ([78, 97, 116] : List UInt8) ([] : List Lvl) ([] : List Tm)), (Tm.mk 3 0 ([78, 97, 116, 46, 122, 101, 114, 111] : List UInt8) ([] : List Lvl) ([] : List Tm)), 0, ([] : List Ctr), (⟨0, (Tm.mk 0 0 ([] : List UInt8) ([] : List Lvl) ([] : List Tm)), ([] : List Tm)⟩ : Rcr), ([] : List Fn)⟩ : Dcl)]) 1) fun (x7 : Dcl) =>
 Qt (Nat.beq ([(⟨0, ([112, 108, 117, 115] : List UInt8), 0, (Tm.mk 3 0 ([78, 97, 116] : List UInt8) ([] : List Lvl) ([] : List Tm)), (Tm.mk 0 0 ([] : List UInt8) ([] : List Lvl) ([] : List Tm)), 0, ([] : List Ctr), (⟨0, (Tm.mk 0 0 ([] : List UInt8) ([] : List Lvl) ([] : List Tm)), ([] : List Tm)⟩ : Rcr), ([] : List Fn)⟩ : Dcl), (⟨3, ([78, 97, 116] : List UInt8), 0, (Tm.mk 2 0 ([] : List UInt8) [(⟨0, ([] : List UK)⟩ : Lvl)] ([] : List Tm)), (Tm.mk 0 0 ([] : List UInt8) ([] : List Lvl) ([] : List Tm)), 0, [(⟨([78, 97, 116, 46, 122, 101, 114, 111] : List UInt8), (Tm.mk 3 0 ([78, 97, 116] : List UInt8) ([] : List Lvl) ([] : List Tm))⟩ : Ctr), (⟨([78, 97, 116, 46, 115, 117, 99, 99] : List UInt8), (Tm.mk 3 0 ([78, 97, 116] : List UInt8) ([] : List Lvl) ([] : List Tm))⟩ : Ctr)], (⟨0, (Tm.mk 0 0 ([] : List UInt8) ([] : List Lvl) ([] : List Tm)), ([] : List Tm)⟩ : Rcr), ([] : List Fn)⟩ : Dcl), (⟨1, ([116, 119, 111] : List UInt8), 0, (Tm.mk 3 0 ([78, 97, 116] : List UInt8) ([] : List Lvl) ([] : List Tm)), (Tm.mk 3 0 ([78, 97, 116, 46, 122, 101, 114, 111] : List UInt8) ([] : List Lvl) ([] : List Tm)), 0, ([] : List Ctr), (⟨0, (Tm.mk 0 0 ([] : List UInt8) ([] : List Lvl) ([] : List Tm)), ([] : List Tm)⟩ : Rcr), ([] : List Fn)⟩ : Dcl)]).length 3)
 (Option.bind (m22o ([(⟨0, ([112, 108, 117, 115] : List UInt8), 0, (Tm.mk 3 0 ([78, 97, 116] : List UInt8) ([] : List Lvl) ([] : List Tm)), (Tm.mk 0 0 ([] : List UInt8) ([] : List Lvl) ([] : List Tm)), 0, ([] : List Ctr), (⟨0, (Tm.mk 0 0 ([] : List UInt8) ([] : List Lvl) ([] : List Tm)), ([] : List Tm)⟩ : Rcr), ([] : List Fn)⟩ : Dcl), (⟨3, ([78, 97, 116] : List UInt8), 0, (Tm.mk 2 0 ([] : List UInt8) [(⟨0, ([] : List UK)⟩ : Lvl)] ([] : List Tm)), (Tm.mk 3 0 ([116, 119, 111] : List UInt8) [] []), 0, [(⟨([78, 97, 116, 46, 122, 101, 114, 111] : List UInt8), (Tm.mk 3 0 ([78, 97, 116] : List UInt8) ([] : List Lvl) ([] : List Tm))⟩ : Ctr), (⟨([78, 97, 116, 46, 115, 117, 99, 99] : List UInt8), (Tm.mk 3 0 ([78, 97, 116] : List UInt8) ([] : List Lvl) ([] : List Tm))⟩ : Ctr)], (⟨0, (Tm.mk 0 0 ([] : List UInt8) ([] : List Lvl) ([] : List Tm)), ([] : List Tm)⟩ : Rcr), ([] : List Fn)⟩ : Dcl), (⟨1, ([116, 119, 111] : List UInt8), 0, (Tm.mk 3 0 ([78, 97, 116] : List UInt8) ([] : List Lvl) ([] : List Tm)), (Tm.mk 3 0 ([78, 97, 116, 46, 122, 101, 114, 111] : List UInt8) ([] : List Lvl) ([] : List Tm)), 0, ([] : List Ctr), (⟨0, (Tm.mk 0 0 ([] : List UInt8) ([] : List Lvl) ([] : List Tm)), ([] : List Tm)⟩ : Rcr), ([] : List Fn)⟩ : Dcl)]) 3) fun (x9 : (List Int) × Int) =>
 Option.bind (cond (x3.2 != 0)
   (some true)
   (cond (x4.2 != 0)
   (some true)
   (cond (x5.2 != 0)
   (some true)
   (cond (x6.2 != 0)
   (some true)
   (cond (x9.2 != 22)
   (some true)
   (cond ((x3.1.length : Int) != 3)
   (some true)
   (some ((x6.1.length : Int) != 2)))))))) (fun (v10 : Bool) => cond v10
   (some false)
   (Option.bind (Option.bind (Jg x3.1 0) fun (x13 : List Int) =>
 Option.bind (WA x13 ([1])) fun (x14 : Bool) =>
 cond x14
   (Option.bind (Jg x3.1 1) fun (x16 : List Int) =>
 cond ((x16.length : Int) == 0)
   (Option.bind (Jg x3.1 2) fun (x18 : List Int) =>
 Option.bind (WA x18 ([1])) fun (x19 : Bool) =>
 cond x19
   (Option.bind (WA x4.1 ([1, 0, 2])) fun (x21 : Bool) =>
 cond x21
   (Option.bind (WZ x5.1 ([([112, 108, 117, 115] : List UInt8), ([78, 97, 116] : List UInt8), ([78, 97, 116, 46, 122, 101, 114, 111] : List UInt8), ([78, 97, 116, 46, 115, 117, 99, 99] : List UInt8), ([78, 97, 116, 46, 114, 101, 99] : List UInt8), ([116, 119, 111] : List UInt8)])) fun (x23 : Bool) =>
 cond x23
   (Option.bind (Jg x6.1 0) fun (x25 : Dcl) =>
 cond (x25.name == ([78, 97, 116] : List UInt8))
   (Option.bind (Jg x6.1 1) fun (x27 : Dcl) =>
 some (x27.name == ([116, 119, 111] : List UInt8)))
   (some false))
   (some false))
   (some false))
   (some false))
   (some false))
   (some false)) (fun (v12 : Bool) => some v12)))))
set_option maxRecDepth 100000 in
set_option maxHeartbeats 2000000 in
theorem m11_ok  (r : Bool) (h0 : Wv  = some r) : Fun Try.prog 11 [] (Qy [.one (Uw r)]) := by
 unfold Wv at h0
 refine QS 9 115 Try.func11 rfl en_11 rfl (Ug rfl) (fun S w => ?_)
 simp only [J8]
 refine Q2 <| Q0 <| U7 rfl rfl rfl <| Q3 <| Q1 <| Q2 <| Q0 ?_
 refine Qb h0 (fun y1 h1 h0 => ?_)
 have hc2 : CallM Try.prog 33 [] ⟨[], [], 0⟩ (Qy [.one (.osl 5 0 3 3)]) ⟨[(5, .cells 48 (Qa ([(⟨0, ([112, 108, 117, 115] : List UInt8), 0, (Tm.mk 3 0 ([78, 97, 116] : List UInt8) ([] : List Lvl) ([] : List Tm)), (Tm.mk 0 0 ([] : List UInt8) ([] : List Lvl) ([] : List Tm)), 0, ([] : List Ctr), (⟨0, (Tm.mk 0 0 ([] : List UInt8) ([] : List Lvl) ([] : List Tm)), ([] : List Tm)⟩ : Rcr), ([] : List Fn)⟩ : Dcl), (⟨3, ([78, 97, 116] : List UInt8), 0, (Tm.mk 2 0 ([] : List UInt8) [(⟨0, ([] : List UK)⟩ : Lvl)] ([] : List Tm)), (Tm.mk 0 0 ([] : List UInt8) ([] : List Lvl) ([] : List Tm)), 0, [(⟨([78, 97, 116, 46, 122, 101, 114, 111] : List UInt8), (Tm.mk 3 0 ([78, 97, 116] : List UInt8) ([] : List Lvl) ([] : List Tm))⟩ : Ctr), (⟨([78, 97, 116, 46, 115, 117, 99, 99] : List UInt8), (Tm.mk 3 0 ([78, 97, 116] : List UInt8) ([] : List Lvl) ([] : List Tm))⟩ : Ctr)], (⟨0, (Tm.mk 0 0 ([] : List UInt8) ([] : List Lvl) ([] : List Tm)), ([] : List Tm)⟩ : Rcr), ([] : List Fn)⟩ : Dcl), (⟨1, ([116, 119, 111] : List UInt8), 0, (Tm.mk 3 0 ([78, 97, 116] : List UInt8) ([] : List Lvl) ([] : List Tm)), (Tm.mk 3 0 ([78, 97, 116, 46, 122, 101, 114, 111] : List UInt8) ([] : List Lvl) ([] : List Tm)), 0, ([] : List Ctr), (⟨0, (Tm.mk 0 0 ([] : List UInt8) ([] : List Lvl) ([] : List Tm)), ([] : List Tm)⟩ : Rcr), ([] : List Fn)⟩ : Dcl)] : List Dcl)))], [], 6⟩ := by
  refine QP ⟨[(0, .v (.one (.osl 5 0 3 3)))], [(5, .cells 48 (Qa ([(⟨0, ([112, 108, 117, 115] : List UInt8), 0, (Tm.mk 3 0 ([78, 97, 116] : List UInt8) ([] : List Lvl) ([] : List Tm)), (Tm.mk 0 0 ([] : List UInt8) ([] : List Lvl) ([] : List Tm)), 0, ([] : List Ctr), (⟨0, (Tm.mk 0 0 ([] : List UInt8) ([] : List Lvl) ([] : List Tm)), ([] : List Tm)⟩ : Rcr), ([] : List Fn)⟩ : Dcl), (⟨3, ([78, 97, 116] : List UInt8), 0, (Tm.mk 2 0 ([] : List UInt8) [(⟨0, ([] : List UK)⟩ : Lvl)] ([] : List Tm)), (Tm.mk 0 0 ([] : List UInt8) ([] : List Lvl) ([] : List Tm)), 0, [(⟨([78, 97, 116, 46, 122, 101, 114, 111] : List UInt8), (Tm.mk 3 0 ([78, 97, 116] : List UInt8) ([] : List Lvl) ([] : List Tm))⟩ : Ctr), (⟨([78, 97, 116, 46, 115, 117, 99, 99] : List UInt8), (Tm.mk 3 0 ([78, 97, 116] : List UInt8) ([] : List Lvl) ([] : List Tm))⟩ : Ctr)], (⟨0, (Tm.mk 0 0 ([] : List UInt8) ([] : List Lvl) ([] : List Tm)), ([] : List Tm)⟩ : Rcr), ([] : List Fn)⟩ : Dcl), (⟨1, ([116, 119, 111] : List UInt8), 0, (Tm.mk 3 0 ([78, 97, 116] : List UInt8) ([] : List Lvl) ([] : List Tm)), (Tm.mk 3 0 ([78, 97, 116, 46, 122, 101, 114, 111] : List UInt8) ([] : List Lvl) ([] : List Tm)), 0, ([] : List Ctr), (⟨0, (Tm.mk 0 0 ([] : List UInt8) ([] : List Lvl) ([] : List Tm)), ([] : List Tm)⟩ : Rcr), ([] : List Fn)⟩ : Dcl)] : List Dcl)))], [], 6, 22, []⟩ rfl rfl en_33 (Ug rfl) rfl (Qk rfl .nil) (fun w0 M V0 Q hv1 hQ1 => ?_)
  simp only [J8]
  refine Q2 <| Q0 <| U7 rfl rfl rfl <| Q3 <| Q1 <| Q2 <| Q0 <| U5 rfl rfl rfl (JJ bd_42 rfl rfl rfl rfl) <| Q9 rfl rfl (Ug rfl) (QC XW rfl) <| QL rfl rfl (Qw Jh rfl rfl rfl rfl (Ug rfl) rfl) <| Q3 <| Q1 <| Q2 <| Q0 ?_
  refine U5 rfl rfl rfl (Ys bd_102 rfl ) <| Q9 rfl rfl (Ug rfl) (QZ (α := Lvl) ((⟨0, ([] : List UK)⟩ : Lvl)) XT z_102 rfl rfl (Ug rfl) (Ug rfl) rfl rfl (.cons (.d _) (.cons (.nil _) .nil)) rfl) <| U5 rfl rfl rfl (JJ bd_42 rfl rfl rfl rfl) <| Q9 rfl rfl (Ug rfl) (QC XW rfl) <| QL rfl rfl (Qw Jh rfl rfl rfl rfl (Ug rfl) rfl) <| Q3 <| Q1 <| Q2 <| Q0 <| U5 rfl rfl rfl (Qq Jh rfl rfl rfl rfl) <| U5 rfl rfl rfl (Qq Jh rfl rfl rfl rfl) <| U5 rfl rfl rfl (JJ bd_84 rfl rfl rfl rfl) <| U5 rfl rfl rfl (Qq Jh rfl rfl rfl rfl) <| U5 rfl rfl rfl (JJ bd_84 rfl rfl rfl rfl) ?_
  refine Q9 rfl rfl (Ug rfl) (OpOK.lit2E (α := Ctr) (⟨([78, 97, 116, 46, 122, 101, 114, 111] : List UInt8), (Tm.mk 3 0 ([78, 97, 116] : List UInt8) ([] : List Lvl) ([] : List Tm))⟩ : Ctr) (⟨([78, 97, 116, 46, 115, 117, 99, 99] : List UInt8), (Tm.mk 3 0 ([78, 97, 116] : List UInt8) ([] : List Lvl) ([] : List Tm))⟩ : Ctr) YU z_84 rfl rfl (Ug rfl) (Ug rfl) rfl rfl rfl (.cons (.d _) (.cons (.d _) (.cons (.d _) (.cons (.d _) (.cons (.nil _) (.cons (.nil _) (.cons (.d _) (.cons (.d _) (.cons (.d _) (.cons (.d _) (.cons (.nil _) (.cons (.nil _) .nil)))))))))))) ⟨rfl, rfl⟩) <| U5 rfl rfl rfl (RO.buildN bd_48 rfl (.cons rfl (.cons rfl (.cons rfl (.cons rfl .nil)))) rfl) <| Q9 rfl rfl (Ug rfl) (QC KJ rfl) <| QL rfl rfl (Qw Jt rfl rfl rfl rfl (Ug rfl) rfl) <| Q3 <| Q1 <| Q2 <| Q0 <| U5 rfl rfl rfl (Qq Jh rfl rfl rfl rfl) <| U5 rfl rfl rfl (RO.build3 bd_48 rfl rfl rfl rfl rfl) <| U5 rfl rfl rfl (Qq Jt rfl rfl rfl rfl) <| U5 rfl rfl rfl (Qq Jh rfl rfl rfl rfl) <| U5 rfl rfl rfl (JJ bd_42 rfl rfl rfl rfl) <| U5 rfl rfl rfl (RO.buildN bd_48 rfl (.cons rfl (.cons rfl (.cons rfl (.cons rfl .nil)))) rfl) ?_
  refine Q9 rfl rfl (Ug rfl) (OpOK.litO3 (α := Dcl) (⟨0, ([112, 108, 117, 115] : List UInt8), 0, (Tm.mk 3 0 ([78, 97, 116] : List UInt8) ([] : List Lvl) ([] : List Tm)), (Tm.mk 0 0 ([] : List UInt8) ([] : List Lvl) ([] : List Tm)), 0, ([] : List Ctr), (⟨0, (Tm.mk 0 0 ([] : List UInt8) ([] : List Lvl) ([] : List Tm)), ([] : List Tm)⟩ : Rcr), ([] : List Fn)⟩ : Dcl) (⟨3, ([78, 97, 116] : List UInt8), 0, (Tm.mk 2 0 ([] : List UInt8) [(⟨0, ([] : List UK)⟩ : Lvl)] ([] : List Tm)), (Tm.mk 0 0 ([] : List UInt8) ([] : List Lvl) ([] : List Tm)), 0, [(⟨([78, 97, 116, 46, 122, 101, 114, 111] : List UInt8), (Tm.mk 3 0 ([78, 97, 116] : List UInt8) ([] : List Lvl) ([] : List Tm))⟩ : Ctr), (⟨([78, 97, 116, 46, 115, 117, 99, 99] : List UInt8), (Tm.mk 3 0 ([78, 97, 116] : List UInt8) ([] : List Lvl) ([] : List Tm))⟩ : Ctr)], (⟨0, (Tm.mk 0 0 ([] : List UInt8) ([] : List Lvl) ([] : List Tm)), ([] : List Tm)⟩ : Rcr), ([] : List Fn)⟩ : Dcl) (⟨1, ([116, 119, 111] : List UInt8), 0, (Tm.mk 3 0 ([78, 97, 116] : List UInt8) ([] : List Lvl) ([] : List Tm)), (Tm.mk 3 0 ([78, 97, 116, 46, 122, 101, 114, 111] : List UInt8) ([] : List Lvl) ([] : List Tm)), 0, ([] : List Ctr), (⟨0, (Tm.mk 0 0 ([] : List UInt8) ([] : List Lvl) ([] : List Tm)), ([] : List Tm)⟩ : Rcr), ([] : List Fn)⟩ : Dcl) Jm KJ rfl rfl (Ug rfl) rfl rfl rfl rfl (.cons (.refl _) (.cons (.refl _) (.cons (.refl _) (.cons (.refl _) (.cons (.refl _) (.cons (.refl _) (.cons (.sub (.nil _)) (.cons (.sub (.nil _)) (.cons (.refl _) (.cons (.refl _) (.cons (.refl _) (.cons (.sub (.nil _)) (.cons (.sub (.nil _)) (.cons (.refl _) (.cons (.sub (.nil _)) (.cons (.refl _) (.cons (.refl _) (.cons (.refl _) (.cons (.refl _) (.cons (.sub (.nil _)) (.cons (.sub (.nil _)) (.cons (.sub (.nil _)) (.cons (.sub (.nil _)) (.cons (.refl _) (.cons (.refl _) (.cons (.refl _) (.cons (.refl _) (.cons (.refl _) (.cons (.refl _) (.cons (.sub (.app _ _ _)) (.cons (.sub (.nil _)) (.cons (.refl _) (.cons (.refl _) (.cons (.refl _) (.cons (.sub (.nil _)) (.cons (.sub (.nil _)) (.cons (.refl _) (.cons (.sub (.app _ _ _)) (.cons (.refl _) (.cons (.refl _) (.cons (.refl _) (.cons (.refl _) (.cons (.sub (.nil _)) (.cons (.sub (.nil _)) (.cons (.sub (.nil _)) (.cons (.sub (.nil _)) (.cons (.refl _) (.cons (.refl _) (.cons (.refl _) (.cons (.refl _) (.cons (.refl _) (.cons (.refl _) (.cons (.sub (.nil _)) (.cons (.sub (.nil _)) (.cons (.refl _) (.cons (.refl _) (.cons (.refl _) (.cons (.sub (.nil _)) (.cons (.sub (.nil _)) (.cons (.refl _) (.cons (.sub (.nil _)) (.cons (.refl _) (.cons (.refl _) (.cons (.refl _) (.cons (.refl _) (.cons (.sub (.nil _)) (.cons (.sub (.nil _)) (.cons (.sub (.nil _)) (.cons (.sub (.nil _)) .nil)))))))))))))))))))))))))))))))))))))))))))))))))))))))))))))))))))))) <| U7 rfl rfl rfl <| Q3 <| Q1 <| Qz ?_
  have e := U3 h1; subst e
  exact hQ1 _ _ _ (.inr rfl) rfl (Qf (U1 rfl U0) (Um rfl Ul) Uh rfl (Nat.le_trans hv1 (Ug rfl)) rfl rfl rfl (UD rfl UB) rfl rfl)
 refine Q9 rfl rfl (Ug rfl) (J4 rfl rfl rfl hc2 rfl Ul Uh) <| U7 rfl rfl rfl <| Q3 <| Q1 <| Q2 <| Q0 <| U6 rfl rfl rfl ?_
 refine Qb h0 (fun x3 hx3 h0 => ?_)
 refine Q9 rfl rfl (Ug rfl) (K8 (b := 5) (m23o_ok ([(⟨0, ([112, 108, 117, 115] : List UInt8), 0, (Tm.mk 3 0 ([78, 97, 116] : List UInt8) ([] : List Lvl) ([] : List Tm)), (Tm.mk 0 0 ([] : List UInt8) ([] : List Lvl) ([] : List Tm)), 0, ([] : List Ctr), (⟨0, (Tm.mk 0 0 ([] : List UInt8) ([] : List Lvl) ([] : List Tm)), ([] : List Tm)⟩ : Rcr), ([] : List Fn)⟩ : Dcl), (⟨3, ([78, 97, 116] : List UInt8), 0, (Tm.mk 2 0 ([] : List UInt8) [(⟨0, ([] : List UK)⟩ : Lvl)] ([] : List Tm)), (Tm.mk 0 0 ([] : List UInt8) ([] : List Lvl) ([] : List Tm)), 0, [(⟨([78, 97, 116, 46, 122, 101, 114, 111] : List UInt8), (Tm.mk 3 0 ([78, 97, 116] : List UInt8) ([] : List Lvl) ([] : List Tm))⟩ : Ctr), (⟨([78, 97, 116, 46, 115, 117, 99, 99] : List UInt8), (Tm.mk 3 0 ([78, 97, 116] : List UInt8) ([] : List Lvl) ([] : List Tm))⟩ : Ctr)], (⟨0, (Tm.mk 0 0 ([] : List UInt8) ([] : List Lvl) ([] : List Tm)), ([] : List Tm)⟩ : Rcr), ([] : List Fn)⟩ : Dcl), (⟨1, ([116, 119, 111] : List UInt8), 0, (Tm.mk 3 0 ([78, 97, 116] : List UInt8) ([] : List Lvl) ([] : List Tm)), (Tm.mk 3 0 ([78, 97, 116, 46, 122, 101, 114, 111] : List UInt8) ([] : List Lvl) ([] : List Tm)), 0, ([] : List Ctr), (⟨0, (Tm.mk 0 0 ([] : List UInt8) ([] : List Lvl) ([] : List Tm)), ([] : List Tm)⟩ : Rcr), ([] : List Fn)⟩ : Dcl)]) 3 x3 hx3) rfl (.osl .nil) rfl rfl rfl) <| U6 rfl rfl rfl <| U5 rfl rfl rfl (Qp rfl rfl) <| U5 rfl rfl rfl (Qp rfl rfl) <| U7 rfl rfl rfl <| U7 rfl rfl rfl <| Q3 <| Q1 <| Q2 <| Q0 <| U6 rfl rfl rfl ?_
 refine Qb h0 (fun x4 hx4 h0 => ?_)
 refine Q9 rfl rfl (Ug rfl) (K8 (b := 5) (m22o_ok ([(⟨0, ([112, 108, 117, 115] : List UInt8), 0, (Tm.mk 3 0 ([78, 97, 116] : List UInt8) ([] : List Lvl) ([] : List Tm)), (Tm.mk 0 0 ([] : List UInt8) ([] : List Lvl) ([] : List Tm)), 0, ([] : List Ctr), (⟨0, (Tm.mk 0 0 ([] : List UInt8) ([] : List Lvl) ([] : List Tm)), ([] : List Tm)⟩ : Rcr), ([] : List Fn)⟩ : Dcl), (⟨3, ([78, 97, 116] : List UInt8), 0, (Tm.mk 2 0 ([] : List UInt8) [(⟨0, ([] : List UK)⟩ : Lvl)] ([] : List Tm)), (Tm.mk 0 0 ([] : List UInt8) ([] : List Lvl) ([] : List Tm)), 0, [(⟨([78, 97, 116, 46, 122, 101, 114, 111] : List UInt8), (Tm.mk 3 0 ([78, 97, 116] : List UInt8) ([] : List Lvl) ([] : List Tm))⟩ : Ctr), (⟨([78, 97, 116, 46, 115, 117, 99, 99] : List UInt8), (Tm.mk 3 0 ([78, 97, 116] : List UInt8) ([] : List Lvl) ([] : List Tm))⟩ : Ctr)], (⟨0, (Tm.mk 0 0 ([] : List UInt8) ([] : List Lvl) ([] : List Tm)), ([] : List Tm)⟩ : Rcr), ([] : List Fn)⟩ : Dcl), (⟨1, ([116, 119, 111] : List UInt8), 0, (Tm.mk 3 0 ([78, 97, 116] : List UInt8) ([] : List Lvl) ([] : List Tm)), (Tm.mk 3 0 ([78, 97, 116, 46, 122, 101, 114, 111] : List UInt8) ([] : List Lvl) ([] : List Tm)), 0, ([] : List Ctr), (⟨0, (Tm.mk 0 0 ([] : List UInt8) ([] : List Lvl) ([] : List Tm)), ([] : List Tm)⟩ : Rcr), ([] : List Fn)⟩ : Dcl)]) 3 x4 hx4) rfl (.osl .nil) rfl rfl rfl) <| U6 rfl rfl rfl <| U5 rfl rfl rfl (Qp rfl rfl) <| U5 rfl rfl rfl (Qp rfl rfl) <| U7 rfl rfl rfl <| U7 rfl rfl rfl <| Q3 <| Q1 <| Q2 <| Q0 <| U6 rfl rfl rfl <| Q9 rfl rfl (Ug rfl) (QZ (α := UN) (([78, 97, 116] : List UInt8)) QU XO rfl rfl (Ug rfl) (Ug rfl) rfl rfl (.cons (.d _) .nil) rfl) ?_
 refine Qb h0 (fun x5 hx5 h0 => ?_)
 refine Q9 rfl rfl (Ug rfl) (K8 (b := 5) (m12o_ok ([(⟨0, ([112, 108, 117, 115] : List UInt8), 0, (Tm.mk 3 0 ([78, 97, 116] : List UInt8) ([] : List Lvl) ([] : List Tm)), (Tm.mk 0 0 ([] : List UInt8) ([] : List Lvl) ([] : List Tm)), 0, ([] : List Ctr), (⟨0, (Tm.mk 0 0 ([] : List UInt8) ([] : List Lvl) ([] : List Tm)), ([] : List Tm)⟩ : Rcr), ([] : List Fn)⟩ : Dcl), (⟨3, ([78, 97, 116] : List UInt8), 0, (Tm.mk 2 0 ([] : List UInt8) [(⟨0, ([] : List UK)⟩ : Lvl)] ([] : List Tm)), (Tm.mk 0 0 ([] : List UInt8) ([] : List Lvl) ([] : List Tm)), 0, [(⟨([78, 97, 116, 46, 122, 101, 114, 111] : List UInt8), (Tm.mk 3 0 ([78, 97, 116] : List UInt8) ([] : List Lvl) ([] : List Tm))⟩ : Ctr), (⟨([78, 97, 116, 46, 115, 117, 99, 99] : List UInt8), (Tm.mk 3 0 ([78, 97, 116] : List UInt8) ([] : List Lvl) ([] : List Tm))⟩ : Ctr)], (⟨0, (Tm.mk 0 0 ([] : List UInt8) ([] : List Lvl) ([] : List Tm)), ([] : List Tm)⟩ : Rcr), ([] : List Fn)⟩ : Dcl), (⟨1, ([116, 119, 111] : List UInt8), 0, (Tm.mk 3 0 ([78, 97, 116] : List UInt8) ([] : List Lvl) ([] : List Tm)), (Tm.mk 3 0 ([78, 97, 116, 46, 122, 101, 114, 111] : List UInt8) ([] : List Lvl) ([] : List Tm)), 0, ([] : List Ctr), (⟨0, (Tm.mk 0 0 ([] : List UInt8) ([] : List Lvl) ([] : List Tm)), ([] : List Tm)⟩ : Rcr), ([] : List Fn)⟩ : Dcl)]) ([([78, 97, 116] : List UInt8)]) 3 x5 hx5) rfl (.osl (.one (.app _ _ _) .nil)) rfl rfl rfl) <| U6 rfl rfl rfl <| U5 rfl rfl rfl (Qp rfl rfl) <| U5 rfl rfl rfl (Qp rfl rfl) <| U7 rfl rfl rfl <| U7 rfl rfl rfl <| Q3 <| Q1 <| Q2 <| Q0 <| U6 rfl rfl rfl <| Q9 rfl rfl (Ug rfl) (QZ (α := UN) (([116, 119, 111] : List UInt8)) QU XO rfl rfl (Ug rfl) (Ug rfl) rfl rfl (.cons (.d _) .nil) rfl) ?_
 refine Qb h0 (fun x6 hx6 h0 => ?_)
 refine Q9 rfl rfl (Ug rfl) (K8 (b := 5) (m15o_ok ([(⟨0, ([112, 108, 117, 115] : List UInt8), 0, (Tm.mk 3 0 ([78, 97, 116] : List UInt8) ([] : List Lvl) ([] : List Tm)), (Tm.mk 0 0 ([] : List UInt8) ([] : List Lvl) ([] : List Tm)), 0, ([] : List Ctr), (⟨0, (Tm.mk 0 0 ([] : List UInt8) ([] : List Lvl) ([] : List Tm)), ([] : List Tm)⟩ : Rcr), ([] : List Fn)⟩ : Dcl), (⟨3, ([78, 97, 116] : List UInt8), 0, (Tm.mk 2 0 ([] : List UInt8) [(⟨0, ([] : List UK)⟩ : Lvl)] ([] : List Tm)), (Tm.mk 0 0 ([] : List UInt8) ([] : List Lvl) ([] : List Tm)), 0, [(⟨([78, 97, 116, 46, 122, 101, 114, 111] : List UInt8), (Tm.mk 3 0 ([78, 97, 116] : List UInt8) ([] : List Lvl) ([] : List Tm))⟩ : Ctr), (⟨([78, 97, 116, 46, 115, 117, 99, 99] : List UInt8), (Tm.mk 3 0 ([78, 97, 116] : List UInt8) ([] : List Lvl) ([] : List Tm))⟩ : Ctr)], (⟨0, (Tm.mk 0 0 ([] : List UInt8) ([] : List Lvl) ([] : List Tm)), ([] : List Tm)⟩ : Rcr), ([] : List Fn)⟩ : Dcl), (⟨1, ([116, 119, 111] : List UInt8), 0, (Tm.mk 3 0 ([78, 97, 116] : List UInt8) ([] : List Lvl) ([] : List Tm)), (Tm.mk 3 0 ([78, 97, 116, 46, 122, 101, 114, 111] : List UInt8) ([] : List Lvl) ([] : List Tm)), 0, ([] : List Ctr), (⟨0, (Tm.mk 0 0 ([] : List UInt8) ([] : List Lvl) ([] : List Tm)), ([] : List Tm)⟩ : Rcr), ([] : List Fn)⟩ : Dcl)]) ([([116, 119, 111] : List UInt8)]) 3 x6 hx6) rfl (.osl (.one (.app _ _ _) .nil)) rfl rfl rfl) <| U6 rfl rfl rfl <| U5 rfl rfl rfl (Qp rfl rfl) <| U5 rfl rfl rfl (Qp rfl rfl) <| U7 rfl rfl rfl <| U7 rfl rfl rfl <| Q3 <| Q1 <| Q2 <| Q0 <| U6 rfl rfl rfl <| U5 rfl rfl rfl (JJ bd_42 rfl rfl rfl rfl) ?_
 refine Qb h0 (fun x7 hx7 h0 => ?_)
 refine QQ h0 (fun g8 h0 => ?_)
 refine U5 rfl rfl rfl (Ju (α := Dcl) Jm rfl rfl hx7 g8) <| U5 rfl rfl rfl (Q4 KD rfl) ?_
 refine QL rfl rfl (OpOK.storeOP (α := Dcl) (y' := .agg [Uv 3, Uv 0, YZ ([116, 119, 111] : List UInt8), Ut ([] : List Lvl), Ut ([] : List Tm)]) [(⟨0, ([112, 108, 117, 115] : List UInt8), 0, (Tm.mk 3 0 ([78, 97, 116] : List UInt8) ([] : List Lvl) ([] : List Tm)), (Tm.mk 0 0 ([] : List UInt8) ([] : List Lvl) ([] : List Tm)), 0, ([] : List Ctr), (⟨0, (Tm.mk 0 0 ([] : List UInt8) ([] : List Lvl) ([] : List Tm)), ([] : List Tm)⟩ : Rcr), ([] : List Fn)⟩ : Dcl), (⟨3, ([78, 97, 116] : List UInt8), 0, (Tm.mk 2 0 ([] : List UInt8) [(⟨0, ([] : List UK)⟩ : Lvl)] ([] : List Tm)), (Tm.mk 3 0 ([116, 119, 111] : List UInt8) [] []), 0, [(⟨([78, 97, 116, 46, 122, 101, 114, 111] : List UInt8), (Tm.mk 3 0 ([78, 97, 116] : List UInt8) ([] : List Lvl) ([] : List Tm))⟩ : Ctr), (⟨([78, 97, 116, 46, 115, 117, 99, 99] : List UInt8), (Tm.mk 3 0 ([78, 97, 116] : List UInt8) ([] : List Lvl) ([] : List Tm))⟩ : Ctr)], (⟨0, (Tm.mk 0 0 ([] : List UInt8) ([] : List Lvl) ([] : List Tm)), ([] : List Tm)⟩ : Rcr), ([] : List Fn)⟩ : Dcl), (⟨1, ([116, 119, 111] : List UInt8), 0, (Tm.mk 3 0 ([78, 97, 116] : List UInt8) ([] : List Lvl) ([] : List Tm)), (Tm.mk 3 0 ([78, 97, 116, 46, 122, 101, 114, 111] : List UInt8) ([] : List Lvl) ([] : List Tm)), 0, ([] : List Ctr), (⟨0, (Tm.mk 0 0 ([] : List UInt8) ([] : List Lvl) ([] : List Tm)), ([] : List Tm)⟩ : Rcr), ([] : List Fn)⟩ : Dcl)] Jh rfl rfl (.agg (.cons (.d _) (.cons (.d _) (.cons (.d _) (.cons (.nil _) (.cons (.nil _) .nil)))))) rfl rfl rfl (by kernel_rfl) rfl) ?_
 refine Q3 <| Q1 <| Q2 <| Q0 <| U6 rfl rfl rfl ?_
 refine Qb h0 (fun x9 hx9 h0 => ?_)
 refine Q9 rfl rfl (Ug rfl) (K8 (b := 5) (m22o_ok ([(⟨0, ([112, 108, 117, 115] : List UInt8), 0, (Tm.mk 3 0 ([78, 97, 116] : List UInt8) ([] : List Lvl) ([] : List Tm)), (Tm.mk 0 0 ([] : List UInt8) ([] : List Lvl) ([] : List Tm)), 0, ([] : List Ctr), (⟨0, (Tm.mk 0 0 ([] : List UInt8) ([] : List Lvl) ([] : List Tm)), ([] : List Tm)⟩ : Rcr), ([] : List Fn)⟩ : Dcl), (⟨3, ([78, 97, 116] : List UInt8), 0, (Tm.mk 2 0 ([] : List UInt8) [(⟨0, ([] : List UK)⟩ : Lvl)] ([] : List Tm)), (Tm.mk 3 0 ([116, 119, 111] : List UInt8) [] []), 0, [(⟨([78, 97, 116, 46, 122, 101, 114, 111] : List UInt8), (Tm.mk 3 0 ([78, 97, 116] : List UInt8) ([] : List Lvl) ([] : List Tm))⟩ : Ctr), (⟨([78, 97, 116, 46, 115, 117, 99, 99] : List UInt8), (Tm.mk 3 0 ([78, 97, 116] : List UInt8) ([] : List Lvl) ([] : List Tm))⟩ : Ctr)], (⟨0, (Tm.mk 0 0 ([] : List UInt8) ([] : List Lvl) ([] : List Tm)), ([] : List Tm)⟩ : Rcr), ([] : List Fn)⟩ : Dcl), (⟨1, ([116, 119, 111] : List UInt8), 0, (Tm.mk 3 0 ([78, 97, 116] : List UInt8) ([] : List Lvl) ([] : List Tm)), (Tm.mk 3 0 ([78, 97, 116, 46, 122, 101, 114, 111] : List UInt8) ([] : List Lvl) ([] : List Tm)), 0, ([] : List Ctr), (⟨0, (Tm.mk 0 0 ([] : List UInt8) ([] : List Lvl) ([] : List Tm)), ([] : List Tm)⟩ : Rcr), ([] : List Fn)⟩ : Dcl)]) 3 x9 hx9) rfl (.osl .nil) rfl rfl rfl) <| U6 rfl rfl rfl <| U5 rfl rfl rfl (Qp rfl rfl) <| U5 rfl rfl rfl (Qp rfl rfl) <| U7 rfl rfl rfl <| U7 rfl rfl rfl <| Q3 <| Q1 <| Q2 <| Q2 ?_
 refine Ja (fun (v10 : Bool) => ⟨[(2, .v (.one (Ut x3.1))), (4, .v (.one (Ut x4.1))), (6, .v (.one (Ut x5.1))), (8, .v (.one (Ut x6.1))), (71, .v (.one (Uw v10)))], [(5, .cells 48 (Qa (([(⟨0, ([112, 108, 117, 115] : List UInt8), 0, (Tm.mk 3 0 ([78, 97, 116] : List UInt8) ([] : List Lvl) ([] : List Tm)), (Tm.mk 0 0 ([] : List UInt8) ([] : List Lvl) ([] : List Tm)), 0, ([] : List Ctr), (⟨0, (Tm.mk 0 0 ([] : List UInt8) ([] : List Lvl) ([] : List Tm)), ([] : List Tm)⟩ : Rcr), ([] : List Fn)⟩ : Dcl), (⟨3, ([78, 97, 116] : List UInt8), 0, (Tm.mk 2 0 ([] : List UInt8) [(⟨0, ([] : List UK)⟩ : Lvl)] ([] : List Tm)), (Tm.mk 3 0 ([116, 119, 111] : List UInt8) [] []), 0, [(⟨([78, 97, 116, 46, 122, 101, 114, 111] : List UInt8), (Tm.mk 3 0 ([78, 97, 116] : List UInt8) ([] : List Lvl) ([] : List Tm))⟩ : Ctr), (⟨([78, 97, 116, 46, 115, 117, 99, 99] : List UInt8), (Tm.mk 3 0 ([78, 97, 116] : List UInt8) ([] : List Lvl) ([] : List Tm))⟩ : Ctr)], (⟨0, (Tm.mk 0 0 ([] : List UInt8) ([] : List Lvl) ([] : List Tm)), ([] : List Tm)⟩ : Rcr), ([] : List Fn)⟩ : Dcl), (⟨1, ([116, 119, 111] : List UInt8), 0, (Tm.mk 3 0 ([78, 97, 116] : List UInt8) ([] : List Lvl) ([] : List Tm)), (Tm.mk 3 0 ([78, 97, 116, 46, 122, 101, 114, 111] : List UInt8) ([] : List Lvl) ([] : List Tm)), 0, ([] : List Ctr), (⟨0, (Tm.mk 0 0 ([] : List UInt8) ([] : List Lvl) ([] : List Tm)), ([] : List Tm)⟩ : Rcr), ([] : List Fn)⟩ : Dcl)]) : List Dcl)))], [(6, some ⟨9, 1, (Enc.encL ([([78, 97, 116] : List UInt8)] : List UN)).length, []⟩), (7, some ⟨9, 1, (Enc.encL ([([116, 119, 111] : List UInt8)] : List UN)).length, []⟩)], 8, 115, []⟩) (fun (v10 : Bool) => (cond v10
     (some false)
     (Option.bind (Option.bind (Jg x3.1 0) fun (x13 : List Int) =>
   Option.bind (WA x13 ([1])) fun (x14 : Bool) =>
   cond x14
     (Option.bind (Jg x3.1 1) fun (x16 : List Int) =>
   cond ((x16.length : Int) == 0)
     (Option.bind (Jg x3.1 2) fun (x18 : List Int) =>
   Option.bind (WA x18 ([1])) fun (x19 : Bool) =>
   cond x19
     (Option.bind (WA x4.1 ([1, 0, 2])) fun (x21 : Bool) =>
   cond x21
     (Option.bind (WZ x5.1 ([([112, 108, 117, 115] : List UInt8), ([78, 97, 116] : List UInt8), ([78, 97, 116, 46, 122, 101, 114, 111] : List UInt8), ([78, 97, 116, 46, 115, 117, 99, 99] : List UInt8), ([78, 97, 116, 46, 114, 101, 99] : List UInt8), ([116, 119, 111] : List UInt8)])) fun (x23 : Bool) =>
   cond x23
     (Option.bind (Jg x6.1 0) fun (x25 : Dcl) =>
   cond (x25.name == ([78, 97, 116] : List UInt8))
     (Option.bind (Jg x6.1 1) fun (x27 : Dcl) =>
   some (x27.name == ([116, 119, 111] : List UInt8)))
     (some false))
     (some false))
     (some false))
     (some false))
     (some false))
     (some false)) (fun (v12 : Bool) => some v12))) = some r) ?_ ?_
 refine Qb h0 (fun w1_ h1 h0 => ?_)
 refine Q0 <| U6 rfl rfl rfl <| U5 rfl rfl rfl (Q5 rfl rfl rfl) <| U6 rfl rfl rfl ?_
 refine QV (d := 46) (c := (x3.2 != 0)) rfl (fun c11 => ?_) (fun c11 => ?_)
 replace h1 := Qm c11 h1
 refine Q8 rfl rfl <| Q8 rfl rfl <| U5 rfl rfl rfl (Qo rfl rfl) <| U6 rfl rfl rfl <| Q8 rfl rfl <| Q8 rfl rfl <| U5 rfl rfl rfl (Qo rfl rfl) <| U6 rfl rfl rfl <| Q8 rfl rfl <| Q8 rfl rfl <| U5 rfl rfl rfl (Qo rfl rfl) <| U6 rfl rfl rfl <| Q8 rfl rfl <| Q8 rfl rfl ?_
 refine U5 rfl rfl rfl (Qo rfl rfl) <| U6 rfl rfl rfl <| Q8 rfl rfl <| Q8 rfl rfl <| Q8 rfl rfl <| U5 rfl rfl rfl (Qo rfl rfl) <| U6 rfl rfl rfl <| Q8 rfl rfl <| Q8 rfl rfl <| Q8 rfl rfl <| U5 rfl rfl rfl (Qo rfl rfl) <| Q3 ?_
 have e := U3 h1; subst e
 exact Qr true (Qf (U1 rfl (U1 rfl (U1 rfl (U1 rfl (U1 rfl U0))))) (Um rfl Ul) (Ui rfl (Ui rfl Uh)) rfl (Nat.zero_le _) rfl rfl rfl (UD rfl UB) rfl rfl) h0
 replace h1 := Qn c11 h1
 refine U6 rfl rfl rfl <| U5 rfl rfl rfl (Q5 rfl rfl rfl) <| U5 rfl rfl rfl (QG rfl rfl) <| U6 rfl rfl rfl ?_
 refine QV (d := 50) (c := (x4.2 != 0)) rfl (fun c12 => ?_) (fun c12 => ?_)
 replace h1 := Qm c12 h1
 refine Q8 rfl rfl <| Q8 rfl rfl <| U5 rfl rfl rfl (Qo rfl rfl) <| U6 rfl rfl rfl <| Q8 rfl rfl <| Q8 rfl rfl <| U5 rfl rfl rfl (Qo rfl rfl) <| U6 rfl rfl rfl <| Q8 rfl rfl <| Q8 rfl rfl <| U5 rfl rfl rfl (Qo rfl rfl) <| U6 rfl rfl rfl <| Q8 rfl rfl <| Q8 rfl rfl ?_
 refine Q8 rfl rfl <| U5 rfl rfl rfl (Qo rfl rfl) <| U6 rfl rfl rfl <| Q8 rfl rfl <| Q8 rfl rfl <| Q8 rfl rfl <| U5 rfl rfl rfl (Qo rfl rfl) <| Q3 ?_
 have e := U3 h1; subst e
 exact Qr true (Qf (U1 rfl (U1 rfl (U1 rfl (U1 rfl (U1 rfl U0))))) (Um rfl Ul) (Ui rfl (Ui rfl Uh)) rfl (Nat.zero_le _) rfl rfl rfl (UD rfl UB) rfl rfl) h0
 replace h1 := Qn c12 h1
 refine U6 rfl rfl rfl <| U5 rfl rfl rfl (Q5 rfl rfl rfl) <| U5 rfl rfl rfl (QG rfl rfl) <| U6 rfl rfl rfl ?_
 refine QV (d := 54) (c := (x5.2 != 0)) rfl (fun c13 => ?_) (fun c13 => ?_)
 replace h1 := Qm c13 h1
 refine Q8 rfl rfl <| Q8 rfl rfl <| U5 rfl rfl rfl (Qo rfl rfl) <| U6 rfl rfl rfl <| Q8 rfl rfl <| Q8 rfl rfl <| U5 rfl rfl rfl (Qo rfl rfl) <| U6 rfl rfl rfl <| Q8 rfl rfl <| Q8 rfl rfl <| Q8 rfl rfl <| U5 rfl rfl rfl (Qo rfl rfl) <| U6 rfl rfl rfl <| Q8 rfl rfl ?_
 refine Q8 rfl rfl <| Q8 rfl rfl <| U5 rfl rfl rfl (Qo rfl rfl) <| Q3 ?_
 have e := U3 h1; subst e
 exact Qr true (Qf (U1 rfl (U1 rfl (U1 rfl (U1 rfl (U1 rfl U0))))) (Um rfl Ul) (Ui rfl (Ui rfl Uh)) rfl (Nat.zero_le _) rfl rfl rfl (UD rfl UB) rfl rfl) h0
 replace h1 := Qn c13 h1
 refine U6 rfl rfl rfl <| U5 rfl rfl rfl (Q5 rfl rfl rfl) <| U5 rfl rfl rfl (QG rfl rfl) <| U6 rfl rfl rfl ?_
 refine QV (d := 58) (c := (x6.2 != 0)) rfl (fun c14 => ?_) (fun c14 => ?_)
 replace h1 := Qm c14 h1
 refine Q8 rfl rfl <| Q8 rfl rfl <| U5 rfl rfl rfl (Qo rfl rfl) <| U6 rfl rfl rfl <| Q8 rfl rfl <| Q8 rfl rfl <| Q8 rfl rfl <| U5 rfl rfl rfl (Qo rfl rfl) <| U6 rfl rfl rfl <| Q8 rfl rfl <| Q8 rfl rfl <| Q8 rfl rfl <| U5 rfl rfl rfl (Qo rfl rfl) <| Q3 ?_
 have e := U3 h1; subst e
 exact Qr true (Qf (U1 rfl (U1 rfl (U1 rfl (U1 rfl (U1 rfl U0))))) (Um rfl Ul) (Ui rfl (Ui rfl Uh)) rfl (Nat.zero_le _) rfl rfl rfl (UD rfl UB) rfl rfl) h0
 replace h1 := Qn c14 h1
 refine U6 rfl rfl rfl <| U5 rfl rfl rfl (Q5 rfl rfl rfl) <| U5 rfl rfl rfl (QG rfl rfl) <| U6 rfl rfl rfl ?_
 refine QV (d := 62) (c := (x9.2 != 22)) rfl (fun c15 => ?_) (fun c15 => ?_)
 replace h1 := Qm c15 h1
 refine Q8 rfl rfl <| Q8 rfl rfl <| Q8 rfl rfl <| U5 rfl rfl rfl (Qo rfl rfl) <| U6 rfl rfl rfl <| Q8 rfl rfl <| Q8 rfl rfl <| Q8 rfl rfl <| U5 rfl rfl rfl (Qo rfl rfl) <| Q3 ?_
 have e := U3 h1; subst e
 exact Qr true (Qf (U1 rfl (U1 rfl (U1 rfl (U1 rfl (U1 rfl U0))))) (Um rfl Ul) (Ui rfl (Ui rfl Uh)) rfl (Nat.zero_le _) rfl rfl rfl (UD rfl UB) rfl rfl) h0
 replace h1 := Qn c15 h1
 refine U6 rfl rfl rfl <| U5 rfl rfl rfl (QB (α := List Int) Y1 rfl (.d _)) <| U5 rfl rfl rfl (Q5 rfl rfl rfl) <| U5 rfl rfl rfl (QG rfl rfl) <| U6 rfl rfl rfl ?_
 refine QV (d := 67) (c := ((x3.1.length : Int) != 3)) rfl (fun c16 => ?_) (fun c16 => ?_)
 replace h1 := Qm c16 h1
 refine Q8 rfl rfl <| Q8 rfl rfl <| Q8 rfl rfl <| U5 rfl rfl rfl (Qo rfl rfl) <| Q3 ?_
 have e := U3 h1; subst e
 exact Qr true (Qf (U1 rfl (U1 rfl (U1 rfl (U1 rfl (U1 rfl U0))))) (Um rfl Ul) (Ui rfl (Ui rfl Uh)) rfl (Nat.zero_le _) rfl rfl rfl (UD rfl UB) rfl rfl) h0
 replace h1 := Qn c16 h1
 refine U6 rfl rfl rfl <| U5 rfl rfl rfl (QB (α := Dcl) Jm rfl (.d _)) <| U5 rfl rfl rfl (Q5 rfl rfl rfl) <| U5 rfl rfl rfl (QG rfl rfl) <| Q3 ?_
 have e := U3 h1; subst e
 exact Qr ((x6.1.length : Int) != 2) (Qf (U1 rfl (U1 rfl (U1 rfl (U1 rfl (U1 rfl U0))))) (Um rfl Ul) (Ui rfl (Ui rfl Uh)) rfl (Nat.zero_le _) rfl rfl rfl (UD rfl UB) rfl rfl) h0
 intro v10 h0
 refine Q1 ?_
 refine Qe (b := v10) rfl (fun c17 => ?_) (fun c17 => ?_)
 replace h0 := Qm c17 h0
 refine Q2 <| Q0 <| U7 rfl rfl rfl <| Q3 <| Q1 <| Qz ?_
 have e := U3 h0; subst e
 exact QK (fun _ _ h => h) rfl (Qk rfl .nil) (.cons (.one (.d _)) .nil)
 replace h0 := Qn c17 h0
 refine Qg <| Q1 <| Q2 ?_
 refine Ja (fun (v18 : Bool) => ⟨[(0, .v (.one (Uw v18)))], [(5, .cells 48 (Qa (([(⟨0, ([112, 108, 117, 115] : List UInt8), 0, (Tm.mk 3 0 ([78, 97, 116] : List UInt8) ([] : List Lvl) ([] : List Tm)), (Tm.mk 0 0 ([] : List UInt8) ([] : List Lvl) ([] : List Tm)), 0, ([] : List Ctr), (⟨0, (Tm.mk 0 0 ([] : List UInt8) ([] : List Lvl) ([] : List Tm)), ([] : List Tm)⟩ : Rcr), ([] : List Fn)⟩ : Dcl), (⟨3, ([78, 97, 116] : List UInt8), 0, (Tm.mk 2 0 ([] : List UInt8) [(⟨0, ([] : List UK)⟩ : Lvl)] ([] : List Tm)), (Tm.mk 3 0 ([116, 119, 111] : List UInt8) [] []), 0, [(⟨([78, 97, 116, 46, 122, 101, 114, 111] : List UInt8), (Tm.mk 3 0 ([78, 97, 116] : List UInt8) ([] : List Lvl) ([] : List Tm))⟩ : Ctr), (⟨([78, 97, 116, 46, 115, 117, 99, 99] : List UInt8), (Tm.mk 3 0 ([78, 97, 116] : List UInt8) ([] : List Lvl) ([] : List Tm))⟩ : Ctr)], (⟨0, (Tm.mk 0 0 ([] : List UInt8) ([] : List Lvl) ([] : List Tm)), ([] : List Tm)⟩ : Rcr), ([] : List Fn)⟩ : Dcl), (⟨1, ([116, 119, 111] : List UInt8), 0, (Tm.mk 3 0 ([78, 97, 116] : List UInt8) ([] : List Lvl) ([] : List Tm)), (Tm.mk 3 0 ([78, 97, 116, 46, 122, 101, 114, 111] : List UInt8) ([] : List Lvl) ([] : List Tm)), 0, ([] : List Ctr), (⟨0, (Tm.mk 0 0 ([] : List UInt8) ([] : List Lvl) ([] : List Tm)), ([] : List Tm)⟩ : Rcr), ([] : List Fn)⟩ : Dcl)]) : List Dcl)))], [(6, some ⟨9, 1, (Enc.encL ([([78, 97, 116] : List UInt8)] : List UN)).length, []⟩), (7, some ⟨9, 1, (Enc.encL ([([116, 119, 111] : List UInt8)] : List UN)).length, []⟩), (8, some ⟨3, 1, (Enc.encL ([1] : List Int)).length, []⟩)], 9, 115, []⟩) (fun (v18 : Bool) => (some v18) = some r) ?_ ?_
 refine Qb h0 (fun w1_ h1 h0 => ?_)
 refine Q0 <| U6 rfl rfl rfl ?_
 refine Qb h1 (fun x19 hx19 h1 => ?_)
 refine U5 rfl rfl rfl (Qi (α := List Int) Y1 rfl (.d _) rfl hx19) <| U5 rfl rfl rfl (QI G8 rfl rfl) <| Q9 rfl rfl (Ug rfl) (QZ (α := Int) (1) JM Wg rfl rfl (Ug rfl) (Ug rfl) rfl rfl (.cons (.d _) .nil) rfl) ?_
 refine Qb h1 (fun x20 hx20 h1 => ?_)
 refine Q9 rfl rfl (Ug rfl) (Ql (m29_ok x19 ([1]) x20 hx20) rfl (.cons (.one (.d _)) (.cons (.one (.app _ _ _)) .nil))) <| U6 rfl rfl rfl ?_
 refine QV (d := 77) (c := x20) rfl (fun c21 => ?_) (fun c21 => ?_)
 replace h1 := Qm c21 h1
 refine U6 rfl rfl rfl ?_
 refine Qb h1 (fun x22 hx22 h1 => ?_)
 refine U5 rfl rfl rfl (Qi (α := List Int) Y1 rfl (.d _) rfl hx22) <| U5 rfl rfl rfl (QI G8 rfl rfl) <| U5 rfl rfl rfl (QB (α := Int) JM rfl (.d _)) <| U5 rfl rfl rfl (Q5 rfl rfl rfl) <| U5 rfl rfl rfl (Qo rfl rfl) <| U6 rfl rfl rfl ?_
 refine QV (d := 84) (c := ((x22.length : Int) == 0)) rfl (fun c23 => ?_) (fun c23 => ?_)
 replace h1 := Qm c23 h1
 refine U6 rfl rfl rfl ?_
 refine Qb h1 (fun x24 hx24 h1 => ?_)
 refine U5 rfl rfl rfl (Qi (α := List Int) Y1 rfl (.d _) rfl hx24) <| U5 rfl rfl rfl (QI G8 rfl rfl) <| Q9 rfl rfl (Ug rfl) (QZ (α := Int) (1) JM Wg rfl rfl (Ug rfl) (Ug rfl) rfl rfl (.cons (.d _) .nil) rfl) ?_
 refine Qb h1 (fun x25 hx25 h1 => ?_)
 refine Q9 rfl rfl (Ug rfl) (Ql (m29_ok x24 ([1]) x25 hx25) rfl (.cons (.one (.d _)) (.cons (.one (.app _ _ _)) .nil))) <| U5 rfl rfl rfl (Qo rfl rfl) <| U6 rfl rfl rfl ?_
 refine QV (d := 91) (c := x25) rfl (fun c26 => ?_) (fun c26 => ?_)
 replace h1 := Qm c26 h1
 refine U6 rfl rfl rfl <| Q9 rfl rfl (Ug rfl) (OpOK.lit3E (α := Int) 1 0 2 JM Wg rfl rfl (Ug rfl) (Ug rfl) rfl rfl rfl rfl (.cons (.d _) (.cons (.d _) (.cons (.d _) .nil))) ⟨rfl, rfl, rfl⟩) ?_
 refine Qb h1 (fun x27 hx27 h1 => ?_)
 refine Q9 rfl rfl (Ug rfl) (Ql (m29_ok x4.1 ([1, 0, 2]) x27 hx27) rfl (.cons (.one (.d _)) (.cons (.one (.app _ _ _)) .nil))) <| U5 rfl rfl rfl (Qo rfl rfl) <| U6 rfl rfl rfl ?_
 refine QV (d := 96) (c := x27) rfl (fun c28 => ?_) (fun c28 => ?_)
 replace h1 := Qm c28 h1
 refine U6 rfl rfl rfl <| Q9 rfl rfl (Ug rfl) (OpOK.data6E (α := UN) ([112, 108, 117, 115] : List UInt8) ([78, 97, 116] : List UInt8) ([78, 97, 116, 46, 122, 101, 114, 111] : List UInt8) ([78, 97, 116, 46, 115, 117, 99, 99] : List UInt8) ([78, 97, 116, 46, 114, 101, 99] : List UInt8) ([116, 119, 111] : List UInt8) QU XO rfl rfl (Ug rfl) rfl rfl rfl rfl rfl rfl rfl (.cons (.d _) (.cons (.d _) (.cons (.d _) (.cons (.d _) (.cons (.d _) (.cons (.d _) .nil)))))) ⟨rfl, rfl, rfl, rfl, rfl, rfl⟩) ?_
 refine Qb h1 (fun x29 hx29 h1 => ?_)
 refine Q9 rfl rfl (Ug rfl) (Ql (m14_ok x5.1 ([([112, 108, 117, 115] : List UInt8), ([78, 97, 116] : List UInt8), ([78, 97, 116, 46, 122, 101, 114, 111] : List UInt8), ([78, 97, 116, 46, 115, 117, 99, 99] : List UInt8), ([78, 97, 116, 46, 114, 101, 99] : List UInt8), ([116, 119, 111] : List UInt8)]) x29 hx29) rfl (.cons (.one (.d _)) (.cons (.one (.d _)) .nil))) <| U5 rfl rfl rfl (Qo rfl rfl) <| U6 rfl rfl rfl ?_
 refine QV (d := 101) (c := x29) rfl (fun c30 => ?_) (fun c30 => ?_)
 replace h1 := Qm c30 h1
 refine U6 rfl rfl rfl ?_
 refine Qb h1 (fun x31 hx31 h1 => ?_)
 refine U5 rfl rfl rfl (Qi (α := Dcl) Jm rfl (.d _) rfl hx31) <| U5 rfl rfl rfl (Jj Z6 rfl) <| U5 rfl rfl rfl (QI JG rfl rfl) <| U5 rfl rfl rfl (RO.eqS rfl rfl) <| U5 rfl rfl rfl (Qo rfl rfl) <| U6 rfl rfl rfl ?_
 refine QV (d := 108) (c := (x31.name == ([78, 97, 116] : List UInt8))) rfl (fun c32 => ?_) (fun c32 => ?_)
 replace h1 := Qm c32 h1
 refine U6 rfl rfl rfl ?_
 refine Qb h1 (fun x33 hx33 h1 => ?_)
 refine U5 rfl rfl rfl (Qi (α := Dcl) Jm rfl (.d _) rfl hx33) <| U5 rfl rfl rfl (Jj Z6 rfl) <| U5 rfl rfl rfl (QI JG rfl rfl) <| U5 rfl rfl rfl (RO.eqS rfl rfl) <| U5 rfl rfl rfl (Qo rfl rfl) <| U7 rfl rfl rfl <| Q3 ?_
 have e := U3 h1; subst e
 exact Qr (x33.name == ([116, 119, 111] : List UInt8)) (Qf (U1 rfl U0) (Um rfl Ul) (Ui rfl (Ui rfl (Ui rfl Uh))) rfl (Nat.zero_le _) rfl rfl rfl (UD rfl UB) rfl rfl) h0
 replace h1 := Qn c32 h1
 refine Q8 rfl rfl <| Q8 rfl rfl <| Q8 rfl rfl <| Q8 rfl rfl <| Q8 rfl rfl <| U5 rfl rfl rfl (QG rfl rfl) <| U7 rfl rfl rfl <| Q3 ?_
 have e := U3 h1; subst e
 exact Qr false (Qf (U1 rfl U0) (Um rfl Ul) (Ui rfl (Ui rfl (Ui rfl Uh))) rfl (Nat.zero_le _) rfl rfl rfl (UD rfl UB) rfl rfl) h0
 replace h1 := Qn c30 h1
 refine Q8 rfl rfl <| Q8 rfl rfl <| Q8 rfl rfl <| Q8 rfl rfl <| Q8 rfl rfl <| U5 rfl rfl rfl (QG rfl rfl) <| U6 rfl rfl rfl <| Q8 rfl rfl <| Q8 rfl rfl <| Q8 rfl rfl <| Q8 rfl rfl <| Q8 rfl rfl <| U5 rfl rfl rfl (QG rfl rfl) <| U7 rfl rfl rfl ?_
 refine Q3 ?_
 have e := U3 h1; subst e
 exact Qr false (Qf (U1 rfl U0) (Um rfl Ul) (Ui rfl (Ui rfl (Ui rfl Uh))) rfl (Nat.zero_le _) rfl rfl rfl (UD rfl UB) rfl rfl) h0
 replace h1 := Qn c28 h1
 refine Q8 rfl rfl <| Q8 rfl rfl <| Q8 rfl rfl <| U5 rfl rfl rfl (QG rfl rfl) <| U6 rfl rfl rfl <| Q8 rfl rfl <| Q8 rfl rfl <| Q8 rfl rfl <| Q8 rfl rfl <| Q8 rfl rfl <| U5 rfl rfl rfl (QG rfl rfl) <| U6 rfl rfl rfl <| Q8 rfl rfl <| Q8 rfl rfl ?_
 refine Q8 rfl rfl <| Q8 rfl rfl <| Q8 rfl rfl <| U5 rfl rfl rfl (QG rfl rfl) <| U7 rfl rfl rfl <| Q3 ?_
 have e := U3 h1; subst e
 exact Qr false (Qf (U1 rfl U0) (Um rfl Ul) (Ui rfl (Ui rfl (Ui rfl Uh))) rfl (Nat.zero_le _) rfl rfl rfl (UD rfl UB) rfl rfl) h0
 replace h1 := Qn c26 h1
 refine Q8 rfl rfl <| Q8 rfl rfl <| Q8 rfl rfl <| U5 rfl rfl rfl (QG rfl rfl) <| U6 rfl rfl rfl <| Q8 rfl rfl <| Q8 rfl rfl <| Q8 rfl rfl <| U5 rfl rfl rfl (QG rfl rfl) <| U6 rfl rfl rfl <| Q8 rfl rfl <| Q8 rfl rfl <| Q8 rfl rfl <| Q8 rfl rfl ?_
 refine Q8 rfl rfl <| U5 rfl rfl rfl (QG rfl rfl) <| U6 rfl rfl rfl <| Q8 rfl rfl <| Q8 rfl rfl <| Q8 rfl rfl <| Q8 rfl rfl <| Q8 rfl rfl <| U5 rfl rfl rfl (QG rfl rfl) <| U7 rfl rfl rfl <| Q3 ?_
 have e := U3 h1; subst e
 exact Qr false (Qf (U1 rfl U0) (Um rfl Ul) (Ui rfl (Ui rfl (Ui rfl Uh))) rfl (Nat.zero_le _) rfl rfl rfl (UD rfl UB) rfl rfl) h0
 replace h1 := Qn c23 h1
 refine Q8 rfl rfl <| Q8 rfl rfl <| Q8 rfl rfl <| Q8 rfl rfl <| Q8 rfl rfl <| U5 rfl rfl rfl (QG rfl rfl) <| U6 rfl rfl rfl <| Q8 rfl rfl <| Q8 rfl rfl <| Q8 rfl rfl <| U5 rfl rfl rfl (QG rfl rfl) <| U6 rfl rfl rfl <| Q8 rfl rfl <| Q8 rfl rfl ?_
 refine Q8 rfl rfl <| U5 rfl rfl rfl (QG rfl rfl) <| U6 rfl rfl rfl <| Q8 rfl rfl <| Q8 rfl rfl <| Q8 rfl rfl <| Q8 rfl rfl <| Q8 rfl rfl <| U5 rfl rfl rfl (QG rfl rfl) <| U6 rfl rfl rfl <| Q8 rfl rfl <| Q8 rfl rfl <| Q8 rfl rfl <| Q8 rfl rfl ?_
 refine Q8 rfl rfl <| U5 rfl rfl rfl (QG rfl rfl) <| U7 rfl rfl rfl <| Q3 ?_
 have e := U3 h1; subst e
 exact Qr false (Qf (U1 rfl U0) (Um rfl Ul) (Ui rfl (Ui rfl (Ui rfl Uh))) rfl (Nat.zero_le _) rfl rfl rfl (UD rfl UB) rfl rfl) h0
 replace h1 := Qn c21 h1
 refine Q8 rfl rfl <| Q8 rfl rfl <| Q8 rfl rfl <| Q8 rfl rfl <| Q8 rfl rfl <| U5 rfl rfl rfl (QG rfl rfl) <| U6 rfl rfl rfl <| Q8 rfl rfl <| Q8 rfl rfl <| Q8 rfl rfl <| Q8 rfl rfl <| Q8 rfl rfl <| U5 rfl rfl rfl (QG rfl rfl) <| U6 rfl rfl rfl ?_
 refine Q8 rfl rfl <| Q8 rfl rfl <| Q8 rfl rfl <| U5 rfl rfl rfl (QG rfl rfl) <| U6 rfl rfl rfl <| Q8 rfl rfl <| Q8 rfl rfl <| Q8 rfl rfl <| U5 rfl rfl rfl (QG rfl rfl) <| U6 rfl rfl rfl <| Q8 rfl rfl <| Q8 rfl rfl <| Q8 rfl rfl <| Q8 rfl rfl ?_
 refine Q8 rfl rfl <| U5 rfl rfl rfl (QG rfl rfl) <| U6 rfl rfl rfl <| Q8 rfl rfl <| Q8 rfl rfl <| Q8 rfl rfl <| Q8 rfl rfl <| Q8 rfl rfl <| U5 rfl rfl rfl (QG rfl rfl) <| U7 rfl rfl rfl <| Q3 ?_
 have e := U3 h1; subst e
 exact Qr false (Qf (U1 rfl U0) (Um rfl Ul) (Ui rfl (Ui rfl (Ui rfl Uh))) rfl (Nat.zero_le _) rfl rfl rfl (UD rfl UB) rfl rfl) h0
 intro v18 h0
 refine Q1 <| Qz ?_
 have e := U3 h0; subst e
 exact QK (fun _ _ h => h) rfl (Qk rfl .nil) (.cons (.one (.d _)) .nil)
theorem m11_true : Wv = some true := by kernel_rfl
end Go.Proofs.Ytijcchddnnnmdaa
namespace Go.Proofs.Ytijcchddnnnmdaa
open Go.RowKit Go.Shelf
set_option linter.unusedSimpArgs false
set_option linter.unusedVariables false
def m8_l0 (x4 : (List (List Int)) × Int) (x5 : (List (List Int)) × Int) (s3 : Int) : Option (LO Int (Unit ⊕ Bool)) :=
 cond (decide (s3 < (x4.1.length : Int)))
   (Option.bind (Jg x4.1 s3) fun (x15 : List Int) =>
 Option.bind (Jg x5.1 s3) fun (x16 : List Int) =>
 Option.bind (Option.bind (WA x15 x16) fun (x19 : Bool) =>
 some x19) (fun (y17 : Bool) => cond (!y17)
   (some (.done (.inr false)))
   (some (.next (J1 (s3 + 1))))))
   (some (.done (.inl ())))
def m8 (a0 : List Dcl) : Option Bool :=
 Option.bind (Uc a0) fun (x1 : Bool) =>
 cond (!x1)
   (Option.bind (Wv ) fun (x3 : Bool) =>
 some x3)
   (Option.bind (m23 a0) fun (x4 : (List (List Int)) × Int) =>
 Option.bind (WC a0) fun (x5 : (List (List Int)) × Int) =>
 Option.bind (m22 a0) fun (x6 : (List Int) × Int) =>
 Option.bind (m26 a0) fun (x7 : (List Int) × Int) =>
 Option.bind (cond (x4.2 == x5.2)
   (Option.bind (cond ((x4.1.length : Int) != (x5.1.length : Int))
   (some false)
   (Option.bind (Qv (m8_l0 x4 x5) QH 0) (Sum.elim (fun (o13 : Unit) => some true) (fun o => some o)))) (fun (y10 : Bool) => cond y10
   (cond (x6.2 == x7.2)
   (Option.bind (WA x6.1 x7.1) fun (x24 : Bool) =>
 cond x24
   (Option.bind (Wv ) fun (x26 : Bool) =>
 some x26)
   (some false))
   (some false))
   (some false)))
   (some false)) (fun (v8 : Bool) => some v8))
end Go.Proofs.Ytijcchddnnnmdaa
