/- Part 4 of the proof: rules, mirrors and plain laws. The statement DependNeedsUpto is proved here: for every list of declarations and every list of names the law returns true, and the arguments read behind the call as they did before; condition: the arguments are of bulk at most 1048576 (the second form). -/
import Derived.Test.YtijcchddnnnmdaaK43
namespace Go.Proofs.Ytijcchddnnnmdaa
open Go.RowKit Go.Shelf
set_option linter.unusedSimpArgs false
set_option linter.unusedVariables false
theorem en_25 : J2 Try.prog 25 := enters_of Try.func25 (by kernel_rfl) rfl
theorem en_46 : J2 Try.prog 46 := enters_of Try.func46 (by kernel_rfl) rfl
theorem en_48 : J2 Try.prog 48 := enters_of Try.func48 (by kernel_rfl) rfl
theorem en_49 : J2 Try.prog 49 := enters_of Try.func49 (by kernel_rfl) rfl
def Gt (a0 : List Dcl) (a1 : UN) (s1 : Int) : Option (LO Int (Unit ⊕ Int)) :=
 cond (decide (s1 < (a0.length : Int)))
   (Option.bind (Jg a0 s1) fun (x3 : Dcl) =>
 Option.bind (Wi x3) fun (x4 : (List UN)) =>
 Option.bind (Wp x4 a1) fun (x5 : Bool) =>
 cond x5
   (some (.done (.inr s1)))
   (some (.next (J1 (s1 + 1)))))
   (some (.done (.inl ())))
def WE (a0 : List Dcl) (a1 : UN) : Option Int :=
 Option.bind (Qv (Gt a0 a1) QH 0) (Sum.elim (fun (o1 : Unit) => some (-1)) (fun o => some o))
set_option maxRecDepth 100000 in
set_option maxHeartbeats 8000000 in
theorem m48_ok (a0 : List Dcl) (a1 : UN) (r : Int) (h0 : WE a0 a1 = some r) : Fun Try.prog 48 [.one (Ut a0), .one (YZ a1)] (Qy [.one (Uv r)]) := by
 unfold WE at h0
 refine QS 9 20 Try.func48 rfl en_48 rfl (Ug rfl) (fun S w => ?_)
 simp only [J8]
 refine Q2 <| Q0 <| U7 rfl rfl rfl <| Q3 <| Q1 <| Q2 <| Q2 <| Q0 <| U7 rfl rfl rfl <| Q3 <| Q1 <| Qc ?_
 refine QF 0 (fun (o1 : Unit) => ⟨[], [], [], 0, 20, []⟩) (fun (o1 : Unit) => (some (-1)) = some r) ?_ ?_
 refine Qb h0 (fun o2 hl1 h0 => ?_)
 refine QE (Gt a0 a1) (fun s1 => ⟨[(0, .v (.one (Ut a0))), (1, .v (.one (YZ a1))), (5, .v (.one (Uv s1)))], [], [], 0, 20, []⟩) 0 o2 (Qf (U1 rfl (U1 rfl (U1 rfl U0))) Ul Uh rfl (Nat.zero_le _) rfl rfl rfl UB rfl rfl) hl1 (fun s1 n1 oo1 h1 ho1 => ?_)
 unfold Gt at h1
 refine Q2 <| Q2 <| Q0 <| U6 rfl rfl rfl <| U6 rfl rfl rfl <| U5 rfl rfl rfl (QB (α := Dcl) Jm rfl (.d _)) <| U5 rfl rfl rfl (Q5 rfl rfl rfl) <| Q3 <| Q1 ?_
 refine Qe (b := (decide (s1 < (a0.length : Int)))) rfl (fun c3 => ?_) (fun c3 => ?_)
 replace h1 := Qm c3 h1
 refine Qg <| Q1 <| Q2 <| Qc <| Q2 <| Q0 <| U6 rfl rfl rfl <| U6 rfl rfl rfl ?_
 refine Qb h1 (fun x4 hx4 h1 => ?_)
 refine U5 rfl rfl rfl (Qi (α := Dcl) Jm rfl (.d _) rfl hx4) <| U5 rfl rfl rfl (QY Jt rfl rfl rfl) ?_
 refine Qb h1 (fun x5 hx5 h1 => ?_)
 refine Q9 rfl rfl (Ug rfl) (Ql (m18_ok x4 x5 hx5) rfl (.cons (.agg (.cons (.d _) (.cons (.d _) (.cons (.d _) (.cons (.d _) (.cons (.d _) (.cons (.d _) (.cons (.d _) (.cons (.d _) (.cons (.d _) (.cons (.d _) (.cons (.d _) (.cons (.d _) (.cons (.d _) (.cons (.d _) (.cons (.d _) (.cons (.d _) (.cons (.d _) (.cons (.d _) (.cons (.d _) (.cons (.d _) (.cons (.d _) (.cons (.d _) (.cons (.d _) .nil)))))))))))))))))))))))) .nil)) <| U6 rfl rfl rfl ?_
 refine Qb h1 (fun x6 hx6 h1 => ?_)
 refine Q9 rfl rfl (Ug rfl) (Ql (XA x5 a1 x6 hx6) rfl (.cons (.one (.d _)) (.cons (.one (.d _)) .nil))) <| Q3 <| Q1 ?_
 refine Qe (b := x6) rfl (fun c7 => ?_) (fun c7 => ?_)
 replace h1 := Qm c7 h1
 refine Q2 <| Q0 <| U6 rfl rfl rfl <| U7 rfl rfl rfl <| Q3 <| Q1 <| Qz ?_
 have e := U3 h1; subst e
 have e_ : _ = _ := ho1
 subst e_
 try dsimp only [Sum.elim_inl, Sum.elim_inr] at h0
 have e := U3 h0; subst e
 exact QK (fun _ _ h => h) rfl (Qk rfl .nil) (.cons (.one (.d _)) .nil)
 replace h1 := Qn c7 h1
 refine Qg <| Qh <| Q1 <| Q0 <| U6 rfl rfl rfl <| U5 rfl rfl rfl (Q5 rfl rfl rfl) <| U7 rfl rfl rfl <| Q3 ?_
 have e := U3 h1; subst e
 refine QA (J1 (s1 + 1)) (Qf (U1 rfl (U1 rfl (U1 rfl U0))) Ul Uh rfl (Nat.zero_le _) rfl rfl rfl UB rfl rfl) ho1
 replace h1 := Qn c3 h1
 refine QJ <| Qd <| Qd ?_
 have e := U3 h1; subst e
 have e_ : _ = _ := ho1
 subst e_
 exact QD () (Qf U0 Ul Uh rfl (Nat.zero_le _) rfl rfl rfl UB rfl rfl) h0
 intro o1 h0
 refine Qu <| Q1 <| Q2 <| Q0 <| U7 rfl rfl rfl <| Q3 <| Q1 <| Qz ?_
 have e := U3 h0; subst e
 exact QK (fun _ _ h => h) rfl (Qk rfl .nil) (.cons (.one (.d _)) .nil)
def KS (x4 : (List UN)) (s2 : (List UN) × Int) : Option (LO ((List UN) × Int) (((List UN)) ⊕ Int)) :=
 cond (decide (s2.2 < (x4.length : Int)))
   (Option.bind (Jg x4 s2.2) fun (x7 : UN) =>
 Option.bind (Wp s2.1 x7) fun (x8 : Bool) =>
 cond x8
   (some (.done (.inr 8)))
   (Option.bind (Jg x4 s2.2) fun (x10 : UN) =>
 Qt (Nat.ble (s2.1.length + ([x10]).length) 1000000000)
 (some (.next ((s2.1 ++ ([x10])), (J1 (s2.2 + 1)))))))
   (some (.done (.inl s2.1)))
def Gv (a0 : List Dcl) (s1 : (List UN) × Int) : Option (LO ((List UN) × Int) (((List UN)) ⊕ Int)) :=
 cond (decide (s1.2 < (a0.length : Int)))
   (Option.bind (Jg a0 s1.2) fun (x3 : Dcl) =>
 Option.bind (Wi x3) fun (x4 : (List UN)) =>
 Option.bind (Qv (KS x4) QH (s1.1, 0)) (Sum.elim (fun (o5 : (List UN)) => some (.next (o5, (J1 (s1.2 + 1))))) (fun o => some (.done (.inr o)))))
   (some (.done (.inl s1.1)))
def KR (x5 : (List UN)) (o1 : (List UN)) (s2 : Int) : Option (LO Int (Unit ⊕ Int)) :=
 cond (decide (s2 < (x5.length : Int)))
   (Option.bind (Jg x5 s2) fun (x8 : UN) =>
 Option.bind (Wp o1 x8) fun (x9 : Bool) =>
 cond (!x9)
   (some (.done (.inr 9)))
   (some (.next (J1 (s2 + 1)))))
   (some (.done (.inl ())))
def KQ (a0 : List Dcl) (o1 : (List UN)) (s1 : Int) : Option (LO Int (Unit ⊕ Int)) :=
 cond (decide (s1 < (a0.length : Int)))
   (Option.bind (Jg a0 s1) fun (x4 : Dcl) =>
 Option.bind (WK x4) fun (x5 : (List UN)) =>
 Option.bind (Qv (KR x5 o1) QH 0) (Sum.elim (fun (o6 : Unit) => some (.next (J1 (s1 + 1)))) (fun o => some (.done (.inr o)))))
   (some (.done (.inl ())))
def WX (a0 : List Dcl) : Option Int :=
 Option.bind (Qv (Gv a0) QH (([] : List UN), 0)) (Sum.elim (fun (o1 : (List UN)) => Option.bind (Qv (KQ a0 o1) QH 0) (Sum.elim (fun (o2 : Unit) => some 0) (fun o => some o))) (fun o => some o))
set_option maxRecDepth 100000 in
set_option maxHeartbeats 8000000 in
theorem m46_ok (a0 : List Dcl) (r : Int) (h0 : WX a0 = some r) : Fun Try.prog 46 [.one (Ut a0)] (Qy [.one (Uv r)]) := by
 unfold WX at h0
 refine QS 9 64 Try.func46 rfl en_46 rfl (Ug rfl) (fun S w => ?_)
 simp only [J8]
 refine Q2 <| Q0 <| U7 rfl rfl rfl <| Q3 <| Q1 <| Q2 <| Q0 <| U7 rfl rfl rfl <| Q3 <| Q1 <| Q2 <| Q2 <| Q0 <| U7 rfl rfl rfl ?_
 refine Q3 <| Q1 <| Qc ?_
 refine QF 0 (fun (o1 : (List UN)) => ⟨[(0, .v (.one (Ut a0))), (3, .v (.one (Ux 0 o1)))], [], [(0, some ⟨9, 1, (Enc.encL o1).length, []⟩)], 1, 64, []⟩) (fun (o1 : (List UN)) => (Option.bind (Qv (KQ a0 o1) QH 0) (Sum.elim (fun (o2 : Unit) => some 0) (fun o => some o))) = some r) ?_ ?_
 refine JD (t := 3) 9 1 rfl ?_
 refine Qb h0 (fun o2 hl1 h0 => ?_)
 refine QE (Gv a0) (fun s1 => ⟨[(0, .v (.one (Ut a0))), (3, .v (.one (Ux 0 s1.1))), (4, .v (.one (Uv s1.2)))], [], [(0, some ⟨9, 1, (Enc.encL s1.1).length, []⟩)], 1, 64, []⟩) (([] : List UN), 0) o2 (Qf (U1 rfl (U1 rfl (U1 rfl U0))) Ul (Ui rfl Uh) rfl (Nat.zero_le _) rfl rfl rfl UB rfl rfl) hl1 (fun s1 n1 oo1 h1 ho1 => ?_)
 unfold Gv at h1
 refine Q2 <| Q2 <| Q0 <| U6 rfl rfl rfl <| U6 rfl rfl rfl <| U5 rfl rfl rfl (QB (α := Dcl) Jm rfl (.d _)) <| U5 rfl rfl rfl (Q5 rfl rfl rfl) <| Q3 <| Q1 ?_
 refine Qe (b := (decide (s1.2 < (a0.length : Int)))) rfl (fun c3 => ?_) (fun c3 => ?_)
 replace h1 := Qm c3 h1
 refine Qg <| Q1 <| Q2 <| Qc <| Q2 <| Q0 <| U6 rfl rfl rfl <| U6 rfl rfl rfl ?_
 refine Qb h1 (fun x4 hx4 h1 => ?_)
 refine U5 rfl rfl rfl (Qi (α := Dcl) Jm rfl (.d _) rfl hx4) <| U5 rfl rfl rfl (QY Jt rfl rfl rfl) ?_
 refine Qb h1 (fun x5 hx5 h1 => ?_)
 refine Q9 rfl rfl (Ug rfl) (Ql (m18_ok x4 x5 hx5) rfl (.cons (.agg (.cons (.d _) (.cons (.d _) (.cons (.d _) (.cons (.d _) (.cons (.d _) (.cons (.d _) (.cons (.d _) (.cons (.d _) (.cons (.d _) (.cons (.d _) (.cons (.d _) (.cons (.d _) (.cons (.d _) (.cons (.d _) (.cons (.d _) (.cons (.d _) (.cons (.d _) (.cons (.d _) (.cons (.d _) (.cons (.d _) (.cons (.d _) (.cons (.d _) (.cons (.d _) .nil)))))))))))))))))))))))) .nil)) <| U7 rfl rfl rfl <| Q3 <| Q1 <| Q2 <| Q0 <| U7 rfl rfl rfl <| Q3 <| Q1 <| Qc ?_
 refine QF 2 (fun (o6 : (List UN)) => ⟨[(0, .v (.one (Ut a0))), (3, .v (.one (Ux 0 o6))), (4, .v (.one (Uv s1.2)))], [], [(0, some ⟨9, 1, (Enc.encL o6).length, []⟩)], 1, 64, []⟩) (fun (o6 : (List UN)) => (some (.next (o6, (J1 (s1.2 + 1))))) = some oo1) ?_ ?_
 refine Qb h1 (fun o7 hl2 h1 => ?_)
 refine QE (KS x5) (fun s2 => ⟨[(0, .v (.one (Ut a0))), (3, .v (.one (Ux 0 s2.1))), (4, .v (.one (Uv s1.2))), (5, .v (.one (Ut x5))), (6, .v (.one (Uv s2.2)))], [], [(0, some ⟨9, 1, (Enc.encL s2.1).length, []⟩)], 1, 64, []⟩) (s1.1, 0) o7 (Qf (U1 rfl (U1 rfl (U1 rfl (U1 rfl (U1 rfl U0))))) Ul (Ui rfl Uh) rfl (Nat.zero_le _) rfl rfl rfl UB rfl rfl) hl2 (fun s2 n2 oo2 h2 ho2 => ?_)
 unfold KS at h2
 refine Q2 <| Q2 <| Q0 <| U6 rfl rfl rfl <| U6 rfl rfl rfl <| U5 rfl rfl rfl (QB (α := UN) QU rfl (.d _)) <| U5 rfl rfl rfl (Q5 rfl rfl rfl) <| Q3 <| Q1 ?_
 refine Qe (b := (decide (s2.2 < (x5.length : Int)))) rfl (fun c8 => ?_) (fun c8 => ?_)
 replace h2 := Qm c8 h2
 refine Qg <| Q1 <| Q2 <| Qc <| Q2 <| Q2 <| Q0 <| U6 rfl rfl rfl <| U6 rfl rfl rfl <| U6 rfl rfl rfl ?_
 refine Qb h2 (fun x9 hx9 h2 => ?_)
 refine U5 rfl rfl rfl (Qi (α := UN) QU rfl (.d _) rfl hx9) <| U5 rfl rfl rfl (QI JG rfl rfl) ?_
 refine Qb h2 (fun x10 hx10 h2 => ?_)
 refine Q9 rfl rfl (Ug rfl) (Ql (XA s2.1 x9 x10 hx10) rfl (.cons (.one (.app _ _ _)) (.cons (.one (.d _)) .nil))) <| Q3 <| Q1 ?_
 refine Qe (b := x10) rfl (fun c11 => ?_) (fun c11 => ?_)
 replace h2 := Qm c11 h2
 refine Q2 <| Q0 <| U7 rfl rfl rfl <| Q3 <| Q1 <| Qz ?_
 have e := U3 h2; subst e
 have e_ : _ = _ := ho2
 subst e_
 try dsimp only [Sum.elim_inl, Sum.elim_inr] at h1
 have e := U3 h1; subst e
 have e_ : _ = _ := ho1
 subst e_
 try dsimp only [Sum.elim_inl, Sum.elim_inr] at h0
 have e := U3 h0; subst e
 exact QK (fun _ _ h => h) rfl (Qk rfl .nil) (.cons (.one (.d _)) .nil)
 replace h2 := Qn c11 h2
 refine Qg <| Q1 <| Q0 <| U6 rfl rfl rfl <| U6 rfl rfl rfl <| U6 rfl rfl rfl ?_
 refine Qb h2 (fun x12 hx12 h2 => ?_)
 refine U5 rfl rfl rfl (Qi (α := UN) QU rfl (.d _) rfl hx12) <| U5 rfl rfl rfl (QI JG rfl rfl) <| Q9 rfl rfl (Ug rfl) (QZ (α := UN) (x12) QU XO rfl rfl (Ug rfl) (Ug rfl) rfl rfl (.cons (.d _) .nil) rfl) ?_
 refine QQ h2 (fun g13 h2 => ?_)
 refine Q9 rfl rfl (Ug rfl) (QO (α := UN) QU ZF rfl rfl rfl rfl rfl (.app _ _) g13) <| U7 rfl rfl rfl <| Q3 <| Qh <| Q1 <| Q0 <| U6 rfl rfl rfl <| U5 rfl rfl rfl (Q5 rfl rfl rfl) <| U7 rfl rfl rfl <| Q3 ?_
 have e := U3 h2; subst e
 refine QA ((s2.1 ++ ([x12])), (J1 (s2.2 + 1))) (Qf (U1 rfl (U1 rfl (U1 rfl (U1 rfl (U1 rfl U0))))) Ul (Ui rfl Uh) rfl (Nat.zero_le _) rfl rfl rfl UB rfl rfl) ho2
 replace h2 := Qn c8 h2
 refine QJ <| Qd <| Qd ?_
 have e := U3 h2; subst e
 have e_ : _ = _ := ho2
 subst e_
 exact QD s2.1 (Qf (U1 rfl (U1 rfl (U1 rfl U0))) Ul (Ui rfl Uh) rfl (Nat.zero_le _) rfl rfl rfl UB rfl rfl) h1
 intro o6 h1
 refine Qu <| Qh <| Q1 <| Q0 <| U6 rfl rfl rfl <| U5 rfl rfl rfl (Q5 rfl rfl rfl) <| U7 rfl rfl rfl <| Q3 ?_
 have e := U3 h1; subst e
 refine QA (o6, (J1 (s1.2 + 1))) (Qf (U1 rfl (U1 rfl (U1 rfl U0))) Ul (Ui rfl Uh) rfl (Nat.zero_le _) rfl rfl rfl UB rfl rfl) ho1
 replace h1 := Qn c3 h1
 refine QJ <| Qd <| Qd ?_
 have e := U3 h1; subst e
 have e_ : _ = _ := ho1
 subst e_
 exact QD s1.1 (Qf (U1 rfl (U1 rfl U0)) Ul (Ui rfl Uh) rfl (Nat.zero_le _) rfl rfl rfl UB rfl rfl) h0
 intro o1 h0
 refine Qu <| Q1 <| Q2 <| Q2 <| Q0 <| U7 rfl rfl rfl <| Q3 <| Q1 <| Qc ?_
 refine QF 4 (fun (o14 : Unit) => ⟨[], [], [(0, some ⟨9, 1, (Enc.encL o1).length, []⟩)], 1, 64, []⟩) (fun (o14 : Unit) => (some 0) = some r) ?_ ?_
 refine Qb h0 (fun o15 hl1 h0 => ?_)
 refine QE (KQ a0 o1) (fun s1 => ⟨[(0, .v (.one (Ut a0))), (3, .v (.one (Ux 0 o1))), (7, .v (.one (Uv s1)))], [], [(0, some ⟨9, 1, (Enc.encL o1).length, []⟩)], 1, 64, []⟩) 0 o15 (Qf (U1 rfl (U1 rfl (U1 rfl U0))) Ul (Ui rfl Uh) rfl (Nat.zero_le _) rfl rfl rfl UB rfl rfl) hl1 (fun s1 n1 oo1 h1 ho1 => ?_)
 unfold KQ at h1
 refine Q2 <| Q2 <| Q0 <| U6 rfl rfl rfl <| U6 rfl rfl rfl <| U5 rfl rfl rfl (QB (α := Dcl) Jm rfl (.d _)) <| U5 rfl rfl rfl (Q5 rfl rfl rfl) <| Q3 <| Q1 ?_
 refine Qe (b := (decide (s1 < (a0.length : Int)))) rfl (fun c16 => ?_) (fun c16 => ?_)
 replace h1 := Qm c16 h1
 refine Qg <| Q1 <| Q2 <| Qc <| Q2 <| Q0 <| U6 rfl rfl rfl <| U6 rfl rfl rfl ?_
 refine Qb h1 (fun x17 hx17 h1 => ?_)
 refine U5 rfl rfl rfl (Qi (α := Dcl) Jm rfl (.d _) rfl hx17) <| U5 rfl rfl rfl (QY Jt rfl rfl rfl) ?_
 refine Qb h1 (fun x18 hx18 h1 => ?_)
 refine Q9 rfl rfl (Ug rfl) (Ql (m47_ok x17 x18 hx18) rfl (.cons (.agg (.cons (.d _) (.cons (.d _) (.cons (.d _) (.cons (.d _) (.cons (.d _) (.cons (.d _) (.cons (.d _) (.cons (.d _) (.cons (.d _) (.cons (.d _) (.cons (.d _) (.cons (.d _) (.cons (.d _) (.cons (.d _) (.cons (.d _) (.cons (.d _) (.cons (.d _) (.cons (.d _) (.cons (.d _) (.cons (.d _) (.cons (.d _) (.cons (.d _) (.cons (.d _) .nil)))))))))))))))))))))))) .nil)) <| U7 rfl rfl rfl <| Q3 <| Q1 <| Q2 <| Q0 <| U7 rfl rfl rfl <| Q3 <| Q1 <| Qc ?_
 refine QF 6 (fun (o19 : Unit) => ⟨[(0, .v (.one (Ut a0))), (3, .v (.one (Ux 0 o1))), (7, .v (.one (Uv s1)))], [], [(0, some ⟨9, 1, (Enc.encL o1).length, []⟩)], 1, 64, []⟩) (fun (o19 : Unit) => (some (.next (J1 (s1 + 1)))) = some oo1) ?_ ?_
 refine Qb h1 (fun o20 hl2 h1 => ?_)
 refine QE (KR x18 o1) (fun s2 => ⟨[(0, .v (.one (Ut a0))), (3, .v (.one (Ux 0 o1))), (7, .v (.one (Uv s1))), (8, .v (.one (Ut x18))), (9, .v (.one (Uv s2)))], [], [(0, some ⟨9, 1, (Enc.encL o1).length, []⟩)], 1, 64, []⟩) 0 o20 (Qf (U1 rfl (U1 rfl (U1 rfl (U1 rfl (U1 rfl U0))))) Ul (Ui rfl Uh) rfl (Nat.zero_le _) rfl rfl rfl UB rfl rfl) hl2 (fun s2 n2 oo2 h2 ho2 => ?_)
 unfold KR at h2
 refine Q2 <| Q2 <| Q0 <| U6 rfl rfl rfl <| U6 rfl rfl rfl <| U5 rfl rfl rfl (QB (α := UN) QU rfl (.d _)) <| U5 rfl rfl rfl (Q5 rfl rfl rfl) <| Q3 <| Q1 ?_
 refine Qe (b := (decide (s2 < (x18.length : Int)))) rfl (fun c21 => ?_) (fun c21 => ?_)
 replace h2 := Qm c21 h2
 refine Qg <| Q1 <| Q2 <| Qc <| Q2 <| Q0 <| U6 rfl rfl rfl <| U6 rfl rfl rfl <| U6 rfl rfl rfl ?_
 refine Qb h2 (fun x22 hx22 h2 => ?_)
 refine U5 rfl rfl rfl (Qi (α := UN) QU rfl (.d _) rfl hx22) <| U5 rfl rfl rfl (QI JG rfl rfl) ?_
 refine Qb h2 (fun x23 hx23 h2 => ?_)
 refine Q9 rfl rfl (Ug rfl) (Ql (XA o1 x22 x23 hx23) rfl (.cons (.one (.app _ _ _)) (.cons (.one (.d _)) .nil))) <| U5 rfl rfl rfl (J9 rfl) <| Q3 <| Q1 ?_
 refine Qe (b := (!x23)) rfl (fun c24 => ?_) (fun c24 => ?_)
 replace h2 := Qm c24 h2
 refine Q2 <| Q0 <| U7 rfl rfl rfl <| Q3 <| Q1 <| Qz ?_
 have e := U3 h2; subst e
 have e_ : _ = _ := ho2
 subst e_
 try dsimp only [Sum.elim_inl, Sum.elim_inr] at h1
 have e := U3 h1; subst e
 have e_ : _ = _ := ho1
 subst e_
 try dsimp only [Sum.elim_inl, Sum.elim_inr] at h0
 have e := U3 h0; subst e
 exact QK (fun _ _ h => h) rfl (Qk rfl .nil) (.cons (.one (.d _)) .nil)
 replace h2 := Qn c24 h2
 refine Qg <| Qh <| Q1 <| Q0 <| U6 rfl rfl rfl <| U5 rfl rfl rfl (Q5 rfl rfl rfl) <| U7 rfl rfl rfl <| Q3 ?_
 have e := U3 h2; subst e
 refine QA (J1 (s2 + 1)) (Qf (U1 rfl (U1 rfl (U1 rfl (U1 rfl (U1 rfl U0))))) Ul (Ui rfl Uh) rfl (Nat.zero_le _) rfl rfl rfl UB rfl rfl) ho2
 replace h2 := Qn c21 h2
 refine QJ <| Qd <| Qd ?_
 have e := U3 h2; subst e
 have e_ : _ = _ := ho2
 subst e_
 exact QD () (Qf (U1 rfl (U1 rfl (U1 rfl U0))) Ul (Ui rfl Uh) rfl (Nat.zero_le _) rfl rfl rfl UB rfl rfl) h1
 intro o19 h1
 refine Qu <| Qh <| Q1 <| Q0 <| U6 rfl rfl rfl <| U5 rfl rfl rfl (Q5 rfl rfl rfl) <| U7 rfl rfl rfl <| Q3 ?_
 have e := U3 h1; subst e
 refine QA (J1 (s1 + 1)) (Qf (U1 rfl (U1 rfl (U1 rfl U0))) Ul (Ui rfl Uh) rfl (Nat.zero_le _) rfl rfl rfl UB rfl rfl) ho1
 replace h1 := Qn c16 h1
 refine QJ <| Qd <| Qd ?_
 have e := U3 h1; subst e
 have e_ : _ = _ := ho1
 subst e_
 exact QD () (Qf U0 Ul (Ui rfl Uh) rfl (Nat.zero_le _) rfl rfl rfl UB rfl rfl) h0
 intro o14 h0
 refine Qu <| Q1 <| Q2 <| Q0 <| U7 rfl rfl rfl <| Q3 <| Q1 <| Qz ?_
 have e := U3 h0; subst e
 exact QK (fun _ _ h => h) rfl (Qk rfl .nil) (.cons (.one (.d _)) .nil)
def Xd (a0 : List Int) (a1 : Int) (s1 : Int) : Option (LO Int (Unit ⊕ Bool)) :=
 cond (decide (s1 < (a0.length : Int)))
   (Option.bind (Jg a0 s1) fun (x3 : Int) =>
 cond (x3 == a1)
   (some (.done (.inr true)))
   (some (.next (J1 (s1 + 1)))))
   (some (.done (.inl ())))
def WD (a0 : List Int) (a1 : Int) : Option Bool :=
 Option.bind (Qv (Xd a0 a1) QH 0) (Sum.elim (fun (o1 : Unit) => some false) (fun o => some o))
set_option maxRecDepth 100000 in
set_option maxHeartbeats 8000000 in
theorem m49_ok (a0 : List Int) (a1 : Int) (r : Bool) (h0 : WD a0 a1 = some r) : Fun Try.prog 49 [.one (Ut a0), .one (Uv a1)] (Qy [.one (Uw r)]) := by
 unfold WD at h0
 refine QS 9 18 Try.func49 rfl en_49 rfl (Ug rfl) (fun S w => ?_)
 simp only [J8]
 refine Q2 <| Q0 <| U7 rfl rfl rfl <| Q3 <| Q1 <| Q2 <| Q2 <| Q0 <| U7 rfl rfl rfl <| Q3 <| Q1 <| Qc ?_
 refine QF 0 (fun (o1 : Unit) => ⟨[], [], [], 0, 18, []⟩) (fun (o1 : Unit) => (some false) = some r) ?_ ?_
 refine Qb h0 (fun o2 hl1 h0 => ?_)
 refine QE (Xd a0 a1) (fun s1 => ⟨[(0, .v (.one (Ut a0))), (1, .v (.one (Uv a1))), (5, .v (.one (Uv s1)))], [], [], 0, 18, []⟩) 0 o2 (Qf (U1 rfl (U1 rfl (U1 rfl U0))) Ul Uh rfl (Nat.zero_le _) rfl rfl rfl UB rfl rfl) hl1 (fun s1 n1 oo1 h1 ho1 => ?_)
 unfold Xd at h1
 refine Q2 <| Q2 <| Q0 <| U6 rfl rfl rfl <| U6 rfl rfl rfl <| U5 rfl rfl rfl (QB (α := Int) JM rfl (.d _)) <| U5 rfl rfl rfl (Q5 rfl rfl rfl) <| Q3 <| Q1 ?_
 refine Qe (b := (decide (s1 < (a0.length : Int)))) rfl (fun c3 => ?_) (fun c3 => ?_)
 replace h1 := Qm c3 h1
 refine Qg <| Q1 <| Q2 <| Qc <| Q2 <| Q0 <| U6 rfl rfl rfl <| U6 rfl rfl rfl ?_
 refine Qb h1 (fun x4 hx4 h1 => ?_)
 refine U5 rfl rfl rfl (Qi (α := Int) JM rfl (.d _) rfl hx4) <| U5 rfl rfl rfl (QI Yx rfl rfl) <| U6 rfl rfl rfl <| U5 rfl rfl rfl (Q5 rfl rfl rfl) <| Q3 <| Q1 ?_
 refine Qe (b := (x4 == a1)) rfl (fun c5 => ?_) (fun c5 => ?_)
 replace h1 := Qm c5 h1
 refine Q2 <| Q0 <| U7 rfl rfl rfl <| Q3 <| Q1 <| Qz ?_
 have e := U3 h1; subst e
 have e_ : _ = _ := ho1
 subst e_
 try dsimp only [Sum.elim_inl, Sum.elim_inr] at h0
 have e := U3 h0; subst e
 exact QK (fun _ _ h => h) rfl (Qk rfl .nil) (.cons (.one (.d _)) .nil)
 replace h1 := Qn c5 h1
 refine Qg <| Qh <| Q1 <| Q0 <| U6 rfl rfl rfl <| U5 rfl rfl rfl (Q5 rfl rfl rfl) <| U7 rfl rfl rfl <| Q3 ?_
 have e := U3 h1; subst e
 refine QA (J1 (s1 + 1)) (Qf (U1 rfl (U1 rfl (U1 rfl U0))) Ul Uh rfl (Nat.zero_le _) rfl rfl rfl UB rfl rfl) ho1
 replace h1 := Qn c3 h1
 refine QJ <| Qd <| Qd ?_
 have e := U3 h1; subst e
 have e_ : _ = _ := ho1
 subst e_
 exact QD () (Qf U0 Ul Uh rfl (Nat.zero_le _) rfl rfl rfl UB rfl rfl) h0
 intro o1 h0
 refine Qu <| Q1 <| Q2 <| Q0 <| U7 rfl rfl rfl <| Q3 <| Q1 <| Qz ?_
 have e := U3 h0; subst e
 exact QK (fun _ _ h => h) rfl (Qk rfl .nil) (.cons (.one (.d _)) .nil)
def GB (x6 : (List UN)) (a0 : List Dcl) (s2 : (List Int) × Int) : Option (LO ((List Int) × Int) (((List Int)))) :=
 cond (decide (s2.2 < (x6.length : Int)))
   (Option.bind (Jg x6 s2.2) fun (x9 : UN) =>
 Option.bind (WE a0 x9) fun (x10 : Int) =>
 Qt (Nat.ble (s2.1.length + ([x10]).length) 1000000000)
 (some (.next ((s2.1 ++ ([x10])), (J1 (s2.2 + 1))))))
   (some (.done s2.1))
def KV (a0 : List Dcl) (o7 : (List Int)) (s2 : (List Int) × Int) : Option (LO ((List Int) × Int) (((List Int)))) :=
 cond (decide (s2.2 < (a0.length : Int)))
   (Option.bind (WD o7 s2.2) fun (x10 : Bool) =>
 cond x10
   (Qt (Nat.ble (s2.1.length + ([s2.2]).length) 1000000000)
 (some (.next ((s2.1 ++ ([s2.2])), (J1 (s2.2 + 1))))))
   (some (.next (s2.1, (J1 (s2.2 + 1))))))
   (some (.done s2.1))
def GA (a0 : List Dcl) (s1 : (List (List Int)) × Int) : Option (LO ((List (List Int)) × Int) (((List (List Int))))) :=
 cond (decide (s1.2 < (a0.length : Int)))
   (Option.bind (Jg a0 s1.2) fun (x5 : Dcl) =>
 Option.bind (WK x5) fun (x6 : (List UN)) =>
 Option.bind (Qv (GB x6 a0) QH (([] : List Int), 0)) (fun (o7 : (List Int)) => Option.bind (Qv (KV a0 o7) QH (([] : List Int), 0)) (fun (o8 : (List Int)) => Qt (Nat.ble (s1.1.length + ([o8]).length) 1000000000)
 (some (.next ((s1.1 ++ ([o8])), (J1 (s1.2 + 1))))))))
   (some (.done s1.1))
def WC (a0 : List Dcl) : Option ((List (List Int)) × Int) :=
 Option.bind (WX a0) fun (x1 : Int) =>
 cond (x1 != 0)
   (some (([] : List (List Int)), x1))
   (Option.bind (Qv (GA a0) QH (([] : List (List Int)), 0)) (fun (o3 : (List (List Int))) => some (o3, 0)))
set_option maxRecDepth 100000 in
set_option maxHeartbeats 8000000 in
theorem m25_ok (a0 : List Dcl) (r : (List (List Int)) × Int) (h0 : WC a0 = some r) : Fun Try.prog 25 [.one (Ut a0)] (Qy [.one (Ut r.1), .one (Uv r.2)]) := by
 unfold WC at h0
 refine QS 9 61 Try.func25 rfl en_25 rfl (Ug rfl) (fun S w => ?_)
 simp only [J8]
 refine Q2 <| Q0 <| U7 rfl rfl rfl <| U7 rfl rfl rfl <| Q3 <| Q1 <| Q2 <| Q2 <| Q0 <| U6 rfl rfl rfl ?_
 refine Qb h0 (fun x1 hx1 h0 => ?_)
 refine Q9 rfl rfl (Ug rfl) (Ql (m46_ok a0 x1 hx1) rfl (.cons (.one (.d _)) .nil)) <| U7 rfl rfl rfl <| Q3 <| Q1 <| Q2 <| Q0 <| U6 rfl rfl rfl <| U5 rfl rfl rfl (Q5 rfl rfl rfl) <| Q3 <| Q1 ?_
 refine Qe (b := (x1 != 0)) rfl (fun c2 => ?_) (fun c2 => ?_)
 replace h0 := Qm c2 h0
 refine Q2 <| Q0 <| U6 rfl rfl rfl <| U7 rfl rfl rfl <| U7 rfl rfl rfl <| Q3 <| Q1 <| Qz ?_
 have e := U3 h0; subst e
 exact QK (fun _ _ h => h) rfl (Qk rfl (Qk rfl .nil)) (.cons (.one (.nil _)) (.cons (.one (.d _)) .nil))
 replace h0 := Qn c2 h0
 refine Qg <| Q1 <| Q2 <| Q0 <| U7 rfl rfl rfl <| Q3 <| Q1 <| Q2 <| Q2 <| Q0 <| U7 rfl rfl rfl <| Q3 <| Q1 <| Qc ?_
 refine QF 0 (fun (o3 : (List (List Int))) => ⟨[(5, .v (.one (Ux 0 o3)))], [], [(0, some ⟨54, 1, (Enc.encL o3).length, []⟩)], 1, 61, []⟩) (fun (o3 : (List (List Int))) => (some (o3, 0)) = some r) ?_ ?_
 refine JD (t := 5) 54 1 rfl ?_
 refine Qb h0 (fun o4 hl1 h0 => ?_)
 refine QE (GA a0) (fun s1 => ⟨[(0, .v (.one (Ut a0))), (5, .v (.one (Ux 0 s1.1))), (6, .v (.one (Uv s1.2)))], [], [(0, some ⟨54, 1, (Enc.encL s1.1).length, []⟩)], 1, 61, []⟩) (([] : List (List Int)), 0) o4 (Qf (U1 rfl (U1 rfl (U1 rfl U0))) Ul (Ui rfl Uh) rfl (Nat.zero_le _) rfl rfl rfl UB rfl rfl) hl1 (fun s1 n1 oo1 h1 ho1 => ?_)
 unfold GA at h1
 refine Q2 <| Q2 <| Q0 <| U6 rfl rfl rfl <| U6 rfl rfl rfl <| U5 rfl rfl rfl (QB (α := Dcl) Jm rfl (.d _)) <| U5 rfl rfl rfl (Q5 rfl rfl rfl) <| Q3 <| Q1 ?_
 refine Qe (b := (decide (s1.2 < (a0.length : Int)))) rfl (fun c5 => ?_) (fun c5 => ?_)
 replace h1 := Qm c5 h1
 refine Qg <| Q1 <| Q2 <| Qc <| Q2 <| Q0 <| U6 rfl rfl rfl <| U6 rfl rfl rfl ?_
 refine Qb h1 (fun x6 hx6 h1 => ?_)
 refine U5 rfl rfl rfl (Qi (α := Dcl) Jm rfl (.d _) rfl hx6) <| U5 rfl rfl rfl (QY Jt rfl rfl rfl) ?_
 refine Qb h1 (fun x7 hx7 h1 => ?_)
 refine Q9 rfl rfl (Ug rfl) (Ql (m47_ok x6 x7 hx7) rfl (.cons (.agg (.cons (.d _) (.cons (.d _) (.cons (.d _) (.cons (.d _) (.cons (.d _) (.cons (.d _) (.cons (.d _) (.cons (.d _) (.cons (.d _) (.cons (.d _) (.cons (.d _) (.cons (.d _) (.cons (.d _) (.cons (.d _) (.cons (.d _) (.cons (.d _) (.cons (.d _) (.cons (.d _) (.cons (.d _) (.cons (.d _) (.cons (.d _) (.cons (.d _) (.cons (.d _) .nil)))))))))))))))))))))))) .nil)) <| U7 rfl rfl rfl <| Q3 <| Q1 <| Q2 <| Q0 <| U7 rfl rfl rfl <| U7 rfl rfl rfl <| Q3 <| Q1 <| Q2 <| Q2 <| Q0 <| U7 rfl rfl rfl ?_
 refine Q3 <| Q1 <| Qc ?_
 refine QF 2 (fun (o8 : (List Int)) => ⟨[(0, .v (.one (Ut a0))), (5, .v (.one (Ux 0 s1.1))), (6, .v (.one (Uv s1.2))), (8, .v (.one (Ux 1 o8))), (9, .v (.one (Uu)))], [], [(0, some ⟨54, 1, (Enc.encL s1.1).length, []⟩), (1, some ⟨3, 1, (Enc.encL o8).length, []⟩)], 2, 61, []⟩) (fun (o8 : (List Int)) => (Option.bind (Qv (KV a0 o8) QH (([] : List Int), 0)) (fun (o9 : (List Int)) => Qt (Nat.ble (s1.1.length + ([o9]).length) 1000000000)
   (some (.next ((s1.1 ++ ([o9])), (J1 (s1.2 + 1))))))) = some oo1) ?_ ?_
 refine JD (t := 8) 3 1 rfl ?_
 refine Qb h1 (fun o9 hl2 h1 => ?_)
 refine QE (GB x7 a0) (fun s2 => ⟨[(0, .v (.one (Ut a0))), (5, .v (.one (Ux 0 s1.1))), (6, .v (.one (Uv s1.2))), (7, .v (.one (Ut x7))), (8, .v (.one (Ux 1 s2.1))), (9, .v (.one (Uu))), (10, .v (.one (Uv s2.2)))], [], [(0, some ⟨54, 1, (Enc.encL s1.1).length, []⟩), (1, some ⟨3, 1, (Enc.encL s2.1).length, []⟩)], 2, 61, []⟩) (([] : List Int), 0) o9 (Qf (U1 rfl (U1 rfl (U1 rfl (U1 rfl (U1 rfl (U1 rfl (U1 rfl U0))))))) Ul (Ui rfl (Ui rfl Uh)) rfl (Nat.zero_le _) rfl rfl rfl UB rfl rfl) hl2 (fun s2 n2 oo2 h2 ho2 => ?_)
 unfold GB at h2
 refine Q2 <| Q2 <| Q0 <| U6 rfl rfl rfl <| U6 rfl rfl rfl <| U5 rfl rfl rfl (QB (α := UN) QU rfl (.d _)) <| U5 rfl rfl rfl (Q5 rfl rfl rfl) <| Q3 <| Q1 ?_
 refine Qe (b := (decide (s2.2 < (x7.length : Int)))) rfl (fun c10 => ?_) (fun c10 => ?_)
 replace h2 := Qm c10 h2
 refine Qg <| Q1 <| Q2 <| Qc <| Q0 <| U6 rfl rfl rfl <| U6 rfl rfl rfl <| U6 rfl rfl rfl <| U6 rfl rfl rfl ?_
 refine Qb h2 (fun x11 hx11 h2 => ?_)
 refine U5 rfl rfl rfl (Qi (α := UN) QU rfl (.d _) rfl hx11) <| U5 rfl rfl rfl (QI JG rfl rfl) ?_
 refine Qb h2 (fun x12 hx12 h2 => ?_)
 refine Q9 rfl rfl (Ug rfl) (Ql (m48_ok a0 x11 x12 hx12) rfl (.cons (.one (.d _)) (.cons (.one (.d _)) .nil))) <| Q9 rfl rfl (Ug rfl) (QZ (α := Int) (x12) JM Wg rfl rfl (Ug rfl) (Ug rfl) rfl rfl (.cons (.d _) .nil) rfl) ?_
 refine QQ h2 (fun g13 h2 => ?_)
 refine Q9 rfl rfl (Ug rfl) (QO (α := Int) JM XY rfl rfl rfl rfl rfl (.app _ _) g13) <| U7 rfl rfl rfl <| Q3 <| Qh <| Q1 <| Q0 <| U6 rfl rfl rfl <| U5 rfl rfl rfl (Q5 rfl rfl rfl) <| U7 rfl rfl rfl <| Q3 ?_
 have e := U3 h2; subst e
 refine QA ((s2.1 ++ ([x12])), (J1 (s2.2 + 1))) (Qf (U1 rfl (U1 rfl (U1 rfl (U1 rfl (U1 rfl (U1 rfl (U1 rfl U0))))))) Ul (Ui rfl (Ui rfl Uh)) rfl (Nat.zero_le _) rfl rfl rfl UB rfl rfl) ho2
 replace h2 := Qn c10 h2
 refine QJ <| Qd <| Qd ?_
 have e := U3 h2; subst e
 have e_ : _ = _ := ho2
 subst e_
 exact QD s2.1 (Qf (U1 rfl (U1 rfl (U1 rfl (U1 rfl (U1 rfl U0))))) Ul (Ui rfl (Ui rfl Uh)) rfl (Nat.zero_le _) rfl rfl rfl UB rfl rfl) h1
 intro o8 h1
 refine Qu <| Q1 <| Q2 <| Q2 <| Q0 <| U7 rfl rfl rfl <| Q3 <| Q1 <| Qc ?_
 refine QF 4 (fun (o14 : (List Int)) => ⟨[(0, .v (.one (Ut a0))), (5, .v (.one (Ux 0 s1.1))), (6, .v (.one (Uv s1.2))), (9, .v (.one (Ux 2 o14)))], [], [(0, some ⟨54, 1, (Enc.encL s1.1).length, []⟩), (1, some ⟨3, 1, (Enc.encL o8).length, []⟩), (2, some ⟨3, 1, (Enc.encL o14).length, []⟩)], 3, 61, []⟩) (fun (o14 : (List Int)) => (Qt (Nat.ble (s1.1.length + ([o14]).length) 1000000000)
   (some (.next ((s1.1 ++ ([o14])), (J1 (s1.2 + 1)))))) = some oo1) ?_ ?_
 refine JD (t := 9) 3 1 rfl ?_
 refine Qb h1 (fun o15 hl2 h1 => ?_)
 refine QE (KV a0 o8) (fun s2 => ⟨[(0, .v (.one (Ut a0))), (5, .v (.one (Ux 0 s1.1))), (6, .v (.one (Uv s1.2))), (8, .v (.one (Ux 1 o8))), (9, .v (.one (Ux 2 s2.1))), (11, .v (.one (Uv s2.2)))], [], [(0, some ⟨54, 1, (Enc.encL s1.1).length, []⟩), (1, some ⟨3, 1, (Enc.encL o8).length, []⟩), (2, some ⟨3, 1, (Enc.encL s2.1).length, []⟩)], 3, 61, []⟩) (([] : List Int), 0) o15 (Qf (U1 rfl (U1 rfl (U1 rfl (U1 rfl (U1 rfl (U1 rfl U0)))))) Ul (Ui rfl (Ui rfl (Ui rfl Uh))) rfl (Nat.zero_le _) rfl rfl rfl UB rfl rfl) hl2 (fun s2 n2 oo2 h2 ho2 => ?_)
 unfold KV at h2
 refine Q2 <| Q2 <| Q0 <| U6 rfl rfl rfl <| U6 rfl rfl rfl <| U5 rfl rfl rfl (QB (α := Dcl) Jm rfl (.d _)) <| U5 rfl rfl rfl (Q5 rfl rfl rfl) <| Q3 <| Q1 ?_
 refine Qe (b := (decide (s2.2 < (a0.length : Int)))) rfl (fun c16 => ?_) (fun c16 => ?_)
 replace h2 := Qm c16 h2
 refine Qg <| Q1 <| Q2 <| Qc <| Q2 <| Q0 <| U6 rfl rfl rfl <| U6 rfl rfl rfl ?_
 refine Qb h2 (fun x17 hx17 h2 => ?_)
 refine Q9 rfl rfl (Ug rfl) (Ql (m49_ok o8 s2.2 x17 hx17) rfl (.cons (.one (.app _ _ _)) (.cons (.one (.d _)) .nil))) <| Q3 <| Q1 ?_
 refine Qe (b := x17) rfl (fun c18 => ?_) (fun c18 => ?_)
 replace h2 := Qm c18 h2
 refine Q0 <| U6 rfl rfl rfl <| U6 rfl rfl rfl <| Q9 rfl rfl (Ug rfl) (QZ (α := Int) (s2.2) JM Wg rfl rfl (Ug rfl) (Ug rfl) rfl rfl (.cons (.d _) .nil) rfl) ?_
 refine QQ h2 (fun g19 h2 => ?_)
 refine Q9 rfl rfl (Ug rfl) (QO (α := Int) JM XY rfl rfl rfl rfl rfl (.app _ _) g19) <| U7 rfl rfl rfl <| Q3 <| Qh <| Q1 <| Q0 <| U6 rfl rfl rfl <| U5 rfl rfl rfl (Q5 rfl rfl rfl) <| U7 rfl rfl rfl <| Q3 ?_
 have e := U3 h2; subst e
 refine QA ((s2.1 ++ ([s2.2])), (J1 (s2.2 + 1))) (Qf (U1 rfl (U1 rfl (U1 rfl (U1 rfl (U1 rfl (U1 rfl U0)))))) Ul (Ui rfl (Ui rfl (Ui rfl Uh))) rfl (Nat.zero_le _) rfl rfl rfl UB rfl rfl) ho2
 replace h2 := Qn c18 h2
 refine Qg <| Qh <| Q1 <| Q0 <| U6 rfl rfl rfl <| U5 rfl rfl rfl (Q5 rfl rfl rfl) <| U7 rfl rfl rfl <| Q3 ?_
 have e := U3 h2; subst e
 refine QA (s2.1, (J1 (s2.2 + 1))) (Qf (U1 rfl (U1 rfl (U1 rfl (U1 rfl (U1 rfl (U1 rfl U0)))))) Ul (Ui rfl (Ui rfl (Ui rfl Uh))) rfl (Nat.zero_le _) rfl rfl rfl UB rfl rfl) ho2
 replace h2 := Qn c16 h2
 refine QJ <| Qd <| Qd ?_
 have e := U3 h2; subst e
 have e_ : _ = _ := ho2
 subst e_
 exact QD s2.1 (Qf (U1 rfl (U1 rfl (U1 rfl (U1 rfl U0)))) Ul (Ui rfl (Ui rfl (Ui rfl Uh))) rfl (Nat.zero_le _) rfl rfl rfl UB rfl rfl) h1
 intro o14 h1
 refine Qu <| Q1 <| Q0 <| U6 rfl rfl rfl <| U6 rfl rfl rfl <| Q9 rfl rfl (Ug rfl) (QZ (α := List Int) (o14) Y1 Wa rfl rfl (Ug rfl) (Ug rfl) rfl rfl (.cons (.app _ _ _) .nil) rfl) ?_
 refine QQ h1 (fun g20 h1 => ?_)
 refine Q9 rfl rfl (Ug rfl) (QO (α := List Int) Y1 XM rfl rfl rfl rfl rfl (.app _ _) g20) <| U7 rfl rfl rfl <| Q3 <| Qh <| Q1 <| Q0 <| U6 rfl rfl rfl <| U5 rfl rfl rfl (Q5 rfl rfl rfl) <| U7 rfl rfl rfl <| Q3 ?_
 have e := U3 h1; subst e
 refine QA ((s1.1 ++ ([o14])), (J1 (s1.2 + 1))) (Qf (U1 rfl (U1 rfl (U1 rfl U0))) Ul (Ui rfl Uh) rfl (Nat.zero_le _) rfl rfl rfl UB rfl rfl) ho1
 replace h1 := Qn c5 h1
 refine QJ <| Qd <| Qd ?_
 have e := U3 h1; subst e
 have e_ : _ = _ := ho1
 subst e_
 exact QD s1.1 (Qf (U1 rfl U0) Ul (Ui rfl Uh) rfl (Nat.zero_le _) rfl rfl rfl UB rfl rfl) h0
 intro o3 h0
 refine Qu <| Q1 <| Q2 <| Q0 <| U6 rfl rfl rfl <| U7 rfl rfl rfl <| U7 rfl rfl rfl <| Q3 <| Q1 <| Qz ?_
 have e := U3 h0; subst e
 exact QK (fun _ _ h => h) rfl (Qk rfl (Qk rfl .nil)) (.cons (.one (.app _ _ _)) (.cons (.one (.d _)) .nil))
end Go.Proofs.Ytijcchddnnnmdaa
namespace Go.Proofs.Ytijcchddnnnmdaa
open Go.RowKit Go.Lib
set_option linter.unusedSimpArgs false
set_option linter.unusedVariables false
set_option linter.unusedSectionVars false
theorem pair_lt_eq : ∀ {l m : List Int}, l.Pairwise (· < ·) → m.Pairwise (· < ·) → (∀ x, x ∈ l ↔ x ∈ m) → l = m
  | [], [], _, _, _ => rfl
  | [], y :: m, _, _, h => absurd ((h y).2 List.mem_cons_self) (by simp)
  | x :: l, [], _, _, h => absurd ((h x).1 List.mem_cons_self) (by simp)
  | x :: l, y :: m, hl, hm, h => by
    have hx := List.pairwise_cons.1 hl
    have hy := List.pairwise_cons.1 hm
    have hxy : x = y := by
      have h1 : x ∈ y :: m := (h x).1 List.mem_cons_self
      have h2 : y ∈ x :: l := (h y).2 List.mem_cons_self
      rcases List.mem_cons.1 h1 with e | h1
      · exact e
      rcases List.mem_cons.1 h2 with e | h2
      · exact e.symm
      have := hx.1 y h2
      have := hy.1 x h1
      omega
    subst hxy
    congr 1
    refine pair_lt_eq hx.2 hy.2 fun z => ?_
    have hz := h z
    simp only [List.mem_cons] at hz
    constructor
    · intro h1
      rcases hz.1 (.inr h1) with e | h2
      · have := hx.1 z h1; omega
      · exact h2
    · intro h1
      rcases hz.2 (.inr h1) with e | h2
      · have := hy.1 z h1; omega
      · exact h2
theorem ZG (zs : List Int) {j : Nat} (h : j < zs.length) : zs.toArray[j]! = zs[j] := by
  rw [getElem!_pos zs.toArray j (by simpa using h)]; rfl
theorem compact_sorted {zs : List Int} (h : zs.Pairwise (· ≤ ·)) : (Lib.compact zs).Pairwise (· < ·) ∧ ∀ x, x ∈ Lib.compact zs ↔ x ∈ zs := by
  have hle : ∀ i j, (hi : i < zs.length) → (hj : j < zs.length) → i ≤ j → zs[i] ≤ zs[j] := fun i j hi hj hij => by
    rcases Nat.lt_or_ge i j with h1 | h1
    · exact List.pairwise_iff_getElem.1 h i j hi hj h1
    · obtain rfl : i = j := by omega
      exact Int.le_refl _
  unfold Lib.compact compactUpTo
  constructor
  · rw [List.pairwise_map]
    have hr : ((List.range zs.length).filter (keeps zs.toArray)).Pairwise (fun a b => a < b ∧ a < zs.length ∧ b < zs.length ∧ keeps zs.toArray b = true) := by
      have h1 : ((List.range zs.length).filter (keeps zs.toArray)).Pairwise (· < ·) := List.Pairwise.filter _ List.pairwise_lt_range
      refine List.Pairwise.imp_of_mem (fun ha hb hab => ⟨hab, ?_, ?_, ?_⟩) h1
      · exact List.mem_range.1 (List.mem_filter.1 ha).1
      · exact List.mem_range.1 (List.mem_filter.1 hb).1
      · exact (List.mem_filter.1 hb).2
    refine List.Pairwise.imp (fun {a b} hab => ?_) hr
    obtain ⟨h1, h2, h3, h4⟩ := hab
    have hb0 : b ≠ 0 := by omega
    have hne : zs.toArray[b]! ≠ zs.toArray[b - 1]! := fun e => by rw [keeps_neg (by omega) e] at h4; cases h4
    rw [ZG zs h3, ZG zs (by omega)] at hne
    rw [ZG zs h2, ZG zs h3]
    have h5 := hle a (b - 1) h2 (by omega) (by omega)
    have h6 := hle (b - 1) b (by omega) h3 (by omega)
    omega
  · intro x
    rw [List.mem_map]
    constructor
    · rintro ⟨j, hj, rfl⟩
      have := List.mem_range.1 (List.mem_filter.1 hj).1
      rw [ZG zs this]; exact List.getElem_mem this
    · intro hx
      obtain ⟨j, hj, hjx⟩ := List.mem_iff_getElem.1 hx
      have key : ∀ j, (hj : j < zs.length) → zs[j] = x → ∃ k, k ∈ (List.range zs.length).filter (keeps zs.toArray) ∧ zs.toArray[k]! = x := by
        intro j
        induction j with
        | zero =>
          intro hj hjx
          exact ⟨0, List.mem_filter.2 ⟨List.mem_range.2 hj, keeps_lt_one _ 0 (by omega)⟩, by rw [ZG zs hj, hjx]⟩
        | succ j ih =>
          intro hj hjx
          by_cases e : zs[j] = x
          · exact ih (by omega) e
          · refine ⟨j + 1, List.mem_filter.2 ⟨List.mem_range.2 hj, keeps_pos ?_⟩, by rw [ZG zs hj, hjx]⟩
            rw [ZG zs hj, Nat.add_sub_cancel, ZG zs (by omega), hjx]
            exact fun e' => e e'.symm
      exact key j hj hjx
theorem sortI_mem (l : List Int) (x : Int) : x ∈ Gf l ↔ x ∈ l := (ZT l).mem_iff
theorem sortI_len (l : List Int) : (Gf l).length = l.length := (ZT l).length_eq
def QM (l : List Dcl) : List UN := (l.map JA).flatten
def Z5 (i : Int) : List Dcl → UN → Option Int
  | [], _ => none
  | d :: l, s => if s ∈ JA d then some i else Z5 (i + 1) l s
theorem ownO_app (s : UN) (b : List Dcl) : ∀ (a : List Dcl) (i : Int), Z5 i (a ++ b) s = (Z5 i a s).or (Z5 (i + a.length) b s)
  | [], i => by simp [Z5]
  | d :: a, i => by
    simp only [List.cons_append, Z5]
    split
    · rfl
    · rw [ownO_app s b a (i + 1), show i + 1 + (a.length : Int) = i + ((d :: a).length : Int) by simp only [List.length_cons]; omega]
theorem ownO_some (s : UN) : ∀ (l : List Dcl) (i j : Int), Z5 i l s = some j → ∃ k : Nat, ∃ d, j = i + k ∧ l[k]? = some d ∧ s ∈ JA d
  | [], i, j, h => by cases h
  | d :: l, i, j, h => by
    simp only [Z5] at h
    split at h
    · cases h; exact ⟨0, d, by simp, rfl, ‹_›⟩
    · obtain ⟨k, d', h1, h2, h3⟩ := ownO_some s l (i + 1) j h
      exact ⟨k + 1, d', by omega, h2, h3⟩
theorem Ze (s : UN) : ∀ (l : List Dcl) (i : Int), Z5 i l s = none ↔ s ∉ QM l
  | [], i => by simp [Z5, QM]
  | d :: l, i => by
    simp only [Z5]
    have ih := Ze s l (i + 1)
    unfold QM at ih ⊢
    simp only [List.map_cons, List.flatten_cons, List.mem_append, not_or]
    split
    · simp [*]
    · rw [ih]; simp [*]
def KK (env : List Dcl) (s : UN) : Int := (Z5 0 env s).getD 0
def Yg (env : List Dcl) : Nat := (env.map Dcl.size).sum
theorem K9 {env : List Dcl} {d : Dcl} (h : d ∈ env) : d.size ≤ Yg env := Z2 Dcl.size h
theorem Z8 (env : List Dcl) : env.length ≤ Yg env := Zm Dcl.size (fun d => by unfold Dcl.size; omega) env
theorem all_len (env : List Dcl) : (QM env).length ≤ Yg env + env.length := by
  have := Gd JA (fun d => d.size + 1) ZK env
  have h2 : ∀ l : List Dcl, (l.map (fun d => d.size + 1)).sum = (l.map Dcl.size).sum + l.length := by
    intro l
    induction l with
    | nil => rfl
    | cons x l ih => simp only [List.map_cons, List.sum_cons, List.length_cons, ih]; omega
  rw [h2] at this
  exact this
theorem size_app (a b : List Dcl) : Yg (a ++ b) = Yg a + Yg b := by unfold Yg; simp
theorem size_cons (x : Dcl) (b : List Dcl) : Yg (x :: b) = x.size + Yg b := by unfold Yg; simp
theorem all_snoc (a : List Dcl) (x : Dcl) : QM (a ++ [x]) = QM a ++ JA x := by unfold QM; simp
theorem all_nodup {a b : List Dcl} (h : (QM (a ++ b)).Nodup) : (QM a).Nodup := by
  unfold QM at h ⊢
  rw [List.map_append, List.flatten_append] at h
  exact (List.nodup_append.1 h).1
def JU (env : List Dcl) (l : List Dcl) : Prop := ∀ d ∈ l, ∀ s ∈ Kg d, s ∈ QM env
def row (env : List Dcl) (d : Dcl) : List Int := ((List.range env.length).map fun (k : Nat) => (k : Int)).filter fun j => decide (j ∈ (Kg d).map (KK env))
def Zz (env : List Dcl) : List (List Int) := env.map (row env)
inductive Says (env : List Dcl) : List (List Int) × Int → Prop
  | twice (h : ¬ (QM env).Nodup) : Says env ([], 8)
  | none (h : (QM env).Nodup) (h2 : ¬ JU env env) : Says env ([], 9)
  | ok (h : (QM env).Nodup) (h2 : JU env env) : Says env (Zz env, 0)
theorem ZU {env : List Dcl} {s : UN} (h : s ∈ QM env) : ∃ k : Nat, k < env.length ∧ Z5 0 env s = some (k : Int) := by
  cases h1 : Z5 0 env s with
  | none => exact absurd h ((Ze s env 0).1 h1)
  | some j =>
    obtain ⟨k, d, h2, h3, h4⟩ := ownO_some s env 0 j h1
    exact ⟨k, (List.getElem?_eq_some_iff.1 h3).1, by rw [h2, Int.zero_add]⟩
theorem row_pair (env : List Dcl) (d : Dcl) : (row env d).Pairwise (· < ·) := by
  refine List.Pairwise.filter _ ?_
  rw [List.pairwise_map]
  exact List.pairwise_lt_range.imp fun h => by omega
theorem row_mem {env : List Dcl} {d : Dcl} (h : ∀ s ∈ Kg d, s ∈ QM env) (x : Int) : x ∈ row env d ↔ x ∈ (Kg d).map (KK env) := by
  unfold row
  rw [List.mem_filter, decide_eq_true_eq]
  refine ⟨fun h => h.2, fun hx => ⟨?_, hx⟩⟩
  obtain ⟨s, hs, rfl⟩ := List.mem_map.1 hx
  obtain ⟨k, hk, e⟩ := ZU (h s hs)
  unfold KK
  rw [e]
  exact List.mem_map.2 ⟨k, List.mem_range.2 hk, rfl⟩
theorem row_sort {env : List Dcl} {d : Dcl} (h : ∀ s ∈ Kg d, s ∈ QM env) : Lib.compact (Gf ((Kg d).map (KK env))) = row env d := by
  obtain ⟨h1, h2⟩ := compact_sorted (sortI_pair ((Kg d).map (KK env)))
  refine pair_lt_eq h1 (row_pair env d) fun x => ?_
  rw [h2, sortI_mem, row_mem h]
abbrev UJ := Qj UN Int
theorem m23_l0_eq (i : Int) (M0 : UJ) (f : UN → Option Int) (nx : List UN) (hM : ∀ s, Zq M0 s = f s) (hl : nx.length ≤ 900000000) : ∃ r, Qv (Xh nx (i, M0)) QH (0, M0) = some r ∧
    ((nx.Nodup ∧ (∀ s ∈ nx, f s = none) ∧ ∃ M', r = .inl M' ∧ ∀ s, Zq M' s = (f s).or (if s ∈ nx then some i else none)) ∨ (¬ (nx.Nodup ∧ ∀ s ∈ nx, f s = none) ∧ r = .inr (.inr (.inl ())))) := by
  refine Jb (step := Xh nx (i, M0)) nx (fun k (s : UJ) => (k, s)) (fun c M => c.Nodup ∧ (∀ s ∈ c, f s = none) ∧ ∀ s, Zq M s = (f s).or (if s ∈ c then some i else none)) _ hl ?_ ?_ M0 ⟨List.nodup_nil, by simp, fun s => by rw [hM s]; simp⟩
  · intro a x b M e hI
    obtain ⟨h1, h2, h3⟩ := hI
    cases hx : Jz M x with
    | true =>
      refine .inl ⟨.inr (.inr (.inl ())), ?_, .inr ⟨?_, rfl⟩⟩
      · unfold Xh
        dsimp only
        rw [e, QX, QR]
        simp only [cond_true, Option.bind_some]
        rw [hx]; rfl
      · rintro ⟨h4, h5⟩
        have h6 := h5 x (by rw [e]; simp)
        unfold Jz at hx
        rw [h3, h6] at hx
        by_cases hxa : x ∈ a
        · rw [e, List.nodup_append] at h4
          exact h4.2.2 x hxa x List.mem_cons_self rfl
        · simp [hxa] at hx
    | false =>
      refine .inr ⟨Y5 M x i, ?_, ?_, ?_, ?_⟩
      · unfold Xh
        dsimp only
        rw [e, QX, QR]
        simp only [cond_true, Option.bind_some]
        rw [hx]; rfl
      · unfold Jz at hx
        rw [h3] at hx
        rw [List.nodup_append]
        refine ⟨h1, by simp, fun y hy z hz => ?_⟩
        rw [List.mem_singleton] at hz
        subst hz
        intro e2
        subst e2
        cases hf : f y with
        | some j => rw [hf] at hx; cases hx
        | none => rw [hf] at hx; simp [hy] at hx
      · intro s hs
        rcases List.mem_append.1 hs with hs | hs
        · exact h2 s hs
        · rw [List.mem_singleton] at hs
          subst hs
          unfold Jz at hx
          rw [h3] at hx
          cases hf : f s with
          | some j => rw [hf] at hx; cases hx
          | none => rfl
      · intro s
        rw [gmGet_set, h3]
        by_cases es : s = x
        · subst es
          unfold Jz at hx
          rw [h3] at hx
          cases hf : f s with
          | some j => rw [hf] at hx; cases hx
          | none => simp
        · rw [if_neg es]
          have : s ∈ a ++ [x] ↔ s ∈ a := by simp [es]
          simp only [this]
  · intro M hI
    refine ⟨.inl M, ?_, .inl ⟨hI.1, hI.2.1, M, rfl, hI.2.2⟩⟩
    unfold Xh
    dsimp only
    rw [J7]; rfl
theorem nodup_snoc {a : List Dcl} {x : Dcl} (h : (QM a).Nodup) : (QM (a ++ [x])).Nodup ↔ ((JA x).Nodup ∧ ∀ s ∈ JA x, Z5 0 a s = none) := by
  rw [all_snoc, List.nodup_append]
  constructor
  · rintro ⟨-, h1, h2⟩
    exact ⟨h1, fun s hs => (Ze s a 0).2 fun h3 => h2 s h3 s hs rfl⟩
  · rintro ⟨h1, h2⟩
    exact ⟨h, h1, fun s hs t ht e => by subst e; exact (Ze s a 0).1 (h2 s ht) hs⟩
theorem m23_l1_eq (env : List Dcl) (hl : Yg env ≤ 100000000) : ∃ r, Qv (KX env) QH (0, gmNil) = some r ∧
    (((QM env).Nodup ∧ ∃ M, r = .inl M ∧ ∀ s, Zq M s = Z5 0 env s) ∨ (¬ (QM env).Nodup ∧ r = .inr (.inr (.inl ())))) := by
  have hel := Z8 env
  refine Jb (step := KX env) env (fun k (s : UJ) => (k, s)) (fun a M => (QM a).Nodup ∧ ∀ s, Zq M s = Z5 0 a s) _ (by omega) ?_ ?_ gmNil ⟨List.nodup_nil, fun s => rfl⟩
  · intro a x b M e hI
    have hx : x ∈ env := by rw [e]; simp
    have hxs := K9 hx
    have hnl := ZK x
    obtain ⟨h1, h2⟩ := hI
    obtain ⟨r, e1, hr⟩ := m23_l0_eq (a.length : Int) M (Z5 0 a) (JA x) h2 (by omega)
    rcases hr with ⟨h3, h4, M', rfl, h5⟩ | ⟨h3, rfl⟩
    · refine .inr ⟨M', ?_, ?_, fun s => ?_⟩
      · unfold KX
        dsimp only
        rw [e, QX, QR]
        simp only [cond_true, Option.bind_some]
        rw [m37_eq x (by omega), Option.bind_some, e1]; rfl
      · exact (nodup_snoc h1).2 ⟨h3, h4⟩
      · rw [h5, ownO_app, Int.zero_add]; rfl
    · refine .inl ⟨.inr (.inr (.inl ())), ?_, .inr ⟨?_, rfl⟩⟩
      · unfold KX
        dsimp only
        rw [e, QX, QR]
        simp only [cond_true, Option.bind_some]
        rw [m37_eq x (by omega), Option.bind_some, e1]; rfl
      · intro h6
        rw [e, show a ++ x :: b = (a ++ [x]) ++ b by simp] at h6
        exact h3 ((nodup_snoc h1).1 (all_nodup h6))
  · intro M hI
    refine ⟨.inl M, ?_, .inl ⟨hI.1, M, rfl, hI.2⟩⟩
    unfold KX
    dsimp only
    rw [J7]; rfl
theorem m23_l2_eq (env : List Dcl) (M : UJ) (hM : ∀ s, Zq M s = Z5 0 env s) (u : List UN) (hl : u.length ≤ 900000000) : ∃ r, Qv (Xg u M) QH ([], 0) = some r ∧
    (((∀ s ∈ u, s ∈ QM env) ∧ r = .inl (u.map (KK env))) ∨ (¬ (∀ s ∈ u, s ∈ QM env) ∧ r = .inr (.inr (.inr ())))) := by
  have hv : ∀ s, Jl M s = KK env s := fun s => by unfold Jl KK; rw [hM]; rfl
  have hh : ∀ s, Jz M s = decide (s ∈ QM env) := fun s => by
    unfold Jz
    rw [hM]
    by_cases h : s ∈ QM env
    · obtain ⟨k, -, e⟩ := ZU h
      rw [e]; simp [h]
    · rw [(Ze s env 0).2 h]; simp [h]
  refine Jb (step := Xg u M) u (fun k (s : List Int) => (s, k)) (fun a s => (∀ x ∈ a, x ∈ QM env) ∧ s = a.map (KK env)) _ hl ?_ ?_ [] ⟨by simp, rfl⟩
  · intro a x b s e hI
    obtain ⟨h1, h2⟩ := hI
    have hal : a.length < u.length := YD e
    by_cases hx : x ∈ QM env
    · refine .inr ⟨s ++ [KK env x], ?_, fun y hy => ?_, by rw [h2]; simp⟩
      · unfold Xg
        dsimp only
        rw [e, QX, QR]
        simp only [cond_true, Option.bind_some]
        rw [hh, hv, Jf (by rw [h2]; simp; omega)]
        simp [hx]
      · rcases List.mem_append.1 hy with hy | hy
        · exact h1 y hy
        · rw [List.mem_singleton] at hy; subst hy; exact hx
    · refine .inl ⟨.inr (.inr (.inr ())), ?_, .inr ⟨fun h => hx (h x (by rw [e]; simp)), rfl⟩⟩
      unfold Xg
      dsimp only
      rw [e, QX, QR]
      simp only [cond_true, Option.bind_some]
      rw [hh]
      simp [hx]
  · intro s hI
    refine ⟨.inl s, ?_, .inl ⟨hI.1, by rw [hI.2]⟩⟩
    unfold Xg
    dsimp only
    rw [J7]; rfl
theorem m23_l3_eq (env : List Dcl) (M : UJ) (hM : ∀ s, Zq M s = Z5 0 env s) (hl : Yg env ≤ 100000000) : ∃ r, Qv (KW env M) QH (0, []) = some r ∧
    ((JU env env ∧ r = .inl (Zz env)) ∨ (¬ JU env env ∧ r = .inr (.inr (.inr ())))) := by
  have hel := Z8 env
  refine Jb (step := KW env M) env (fun k (s : List (List Int)) => (k, s)) (fun a s => JU env a ∧ s = a.map (row env)) _ (by omega) ?_ ?_ [] ⟨by simp [JU], rfl⟩
  · intro a x b s e hI
    obtain ⟨h1, h2⟩ := hI
    have hx : x ∈ env := by rw [e]; simp
    have hxs := K9 hx
    have hul := uses_len x
    have hal : a.length < env.length := YD e
    obtain ⟨r, e1, hr⟩ := m23_l2_eq env M hM (Kg x) (by omega)
    rcases hr with ⟨h3, rfl⟩ | ⟨h3, rfl⟩
    · refine .inr ⟨s ++ [row env x], ?_, fun d hd => ?_, by rw [h2]; simp⟩
      · unfold KW
        dsimp only
        rw [e, QX, QR]
        simp only [cond_true, Option.bind_some]
        rw [m53_eq x (by omega), Option.bind_some, e1, Option.bind_some]
        dsimp only [Sum.elim]
        unfold ZA Y2
        rw [← e, Nat.ble_eq_true_of_le (show ((Kg x).map (KK env)).length ≤ 1000000000 by simp; omega), cond_true, Option.bind_some]
        rw [show Nat.beq (Enc.encL (Gf ((Kg x).map (KK env)))).length (Enc.encL ((Kg x).map (KK env))).length = true from by rw [Enc.len, Enc.len, sortI_len, Nat.beq_refl]]
        rw [cond_true, Option.bind_some, row_sort h3, Jf (by rw [h2]; simp; omega)]
      · rcases List.mem_append.1 hd with hd | hd
        · exact h1 d hd
        · rw [List.mem_singleton] at hd; subst hd; exact h3
    · refine .inl ⟨.inr (.inr (.inr ())), ?_, .inr ⟨fun h => h3 (h x hx), rfl⟩⟩
      unfold KW
      dsimp only
      rw [e, QX, QR]
      simp only [cond_true, Option.bind_some]
      rw [m53_eq x (by omega), Option.bind_some, e1]; rfl
  · intro s hI
    refine ⟨.inl s, ?_, .inl ⟨hI.1, by rw [hI.2]; rfl⟩⟩
    unfold KW
    dsimp only
    rw [J7]; rfl
theorem newGraph_eq {γ : Type} (env : List Dcl) (hl : Yg env ≤ 100000000) : ∃ r, (Option.bind (Qv (KX env) QH (0, gmNil)) (Sum.elim (fun (o6 : UJ) => Option.bind (Qv (KW env o6) QH (0, ([] : List (List Int)))) (Sum.elim (fun (o7 : List (List Int)) => some (.inl (o7, o6))) (fun o => some o))) (fun o => some o))) = some r ∧
    ((¬ (QM env).Nodup ∧ r = .inr (.inl ())) ∨ ((QM env).Nodup ∧ ¬ JU env env ∧ r = .inr (.inr ())) ∨ ((QM env).Nodup ∧ JU env env ∧ ∃ M, r = .inl (Zz env, M) ∧ ∀ s, Zq M s = Z5 0 env s)) := by
  obtain ⟨r, e1, hr⟩ := m23_l1_eq env hl
  rw [e1, Option.bind_some]
  rcases hr with ⟨h1, M, rfl, hM⟩ | ⟨h1, rfl⟩
  · obtain ⟨r, e2, hr⟩ := m23_l3_eq env M hM hl
    dsimp only [Sum.elim]
    rw [e2, Option.bind_some]
    rcases hr with ⟨h2, rfl⟩ | ⟨h2, rfl⟩
    · exact ⟨_, rfl, .inr (.inr ⟨h1, h2, M, rfl, hM⟩)⟩
    · exact ⟨_, rfl, .inr (.inl ⟨h1, h2, rfl⟩)⟩
  · exact ⟨_, rfl, .inl ⟨h1, rfl⟩⟩
theorem m48_eq (env : List Dcl) (s : UN) (hl : Yg env ≤ 100000000) : WE env s = some ((Z5 0 env s).getD (-1)) := by
  have hel := Z8 env
  unfold WE
  obtain ⟨r, e, hr⟩ := Jb (step := Gt env s) env (fun k (_ : Unit) => k) (fun a _ => Z5 0 a s = none) (fun r => r = match Z5 0 env s with
      | some j => .inr j
      | none => .inl ()) (by omega)
    (fun a x b _ e hI => by
      have hx : x ∈ env := by rw [e]; simp
      have hxs := K9 hx
      have hnl := ZK x
      by_cases hm : s ∈ JA x
      · refine .inl ⟨.inr (a.length : Int), ?_, ?_⟩
        · unfold Gt
          rw [e, QX, QR]
          simp only [cond_true, Option.bind_some]
          rw [XE x (by omega), Option.bind_some, Kx _ _ (by omega)]
          simp [hm]
        · rw [e, ownO_app, hI]
          simp [Z5, hm]
      · refine .inr ⟨(), ?_, ?_⟩
        · unfold Gt
          rw [e, QX, QR]
          simp only [cond_true, Option.bind_some]
          rw [XE x (by omega), Option.bind_some, Kx _ _ (by omega)]
          simp [hm]
        · rw [ownO_app, hI]
          simp [Z5, hm])
    (fun _ hI => ⟨.inl (), by unfold Gt; rw [J7]; rfl, by rw [hI]⟩) () rfl
  rw [e, Option.bind_some, hr]
  cases Z5 0 env s <;> rfl
theorem m49_eq (l : List Int) (s : Int) (h : l.length ≤ 900000000) : WD l s = some (decide (s ∈ l)) := by
  unfold WD
  obtain ⟨r, e, h2⟩ := Jb (step := Xd l s) l (fun i (_ : Unit) => i) (fun a _ => s ∉ a) (fun r => (r = .inl () ∧ s ∉ l) ∨ (r = .inr true ∧ s ∈ l)) h
    (fun a x b _ hl hs => by
      unfold Xd
      rw [hl, QX, QR]
      simp only [cond_true, Option.bind_some, beqI]
      by_cases e : x = s
      · subst e
        exact .inl ⟨.inr true, by simp, .inr ⟨rfl, by simp⟩⟩
      · refine .inr ⟨(), by simp [e], ?_⟩
        intro h'
        rcases List.mem_append.1 h' with h' | h'
        · exact hs h'
        · exact e (List.mem_singleton.1 h').symm)
    (fun _ hs => ⟨.inl (), by unfold Xd; rw [J7]; rfl, .inl ⟨rfl, hs⟩⟩) () (by simp)
  rw [e]
  rcases h2 with ⟨rfl, h2⟩ | ⟨rfl, h2⟩
  · simp [h2]
  · simp [h2]
theorem m46_l0_eq (all nx : List UN) (ha : all.Nodup) (hl : all.length + nx.length ≤ 900000000) : ∃ r, Qv (KS nx) QH (all, 0) = some r ∧ (((all ++ nx).Nodup ∧ r = .inl (all ++ nx)) ∨ (¬ (all ++ nx).Nodup ∧ r = .inr 8)) := by
  refine Jb (step := KS nx) nx (fun k (s : List UN) => (s, k)) (fun a s => (all ++ a).Nodup ∧ s = all ++ a) _ (by omega) ?_ ?_ all ⟨by simpa using ha, by simp⟩
  · intro a x b s e hI
    obtain ⟨h1, h2⟩ := hI
    have hal : a.length < nx.length := YD e
    by_cases hx : x ∈ all ++ a
    · refine .inl ⟨.inr 8, ?_, .inr ⟨fun h3 => ?_, rfl⟩⟩
      · unfold KS
        dsimp only
        rw [e, QX, QR]
        simp only [cond_true, Option.bind_some]
        rw [h2, Kx _ _ (by simp; omega), decide_eq_true hx]; rfl
      · rw [e, ← List.append_assoc, List.nodup_append] at h3
        exact h3.2.2 x hx x List.mem_cons_self rfl
    · refine .inr ⟨s ++ [x], ?_, ?_, by rw [h2, List.append_assoc]⟩
      · unfold KS
        dsimp only
        rw [e, QX, QR]
        simp only [cond_true, Option.bind_some]
        rw [h2, Kx _ _ (by simp; omega), decide_eq_false hx]
        simp only [Option.bind_some, cond_false]
        rw [Jf (by simp; omega)]
      · rw [← List.append_assoc, List.nodup_append]
        refine ⟨h1, by simp, fun y hy z hz e2 => ?_⟩
        rw [List.mem_singleton] at hz
        subst hz e2
        exact hx hy
  · intro s hI
    refine ⟨.inl s, ?_, .inl ⟨hI.1, by rw [hI.2]⟩⟩
    unfold KS
    dsimp only
    rw [J7]; rfl
theorem m46_l2_eq (all u : List UN) (hl : all.length ≤ 900000000) (hu : u.length ≤ 900000000) : ∃ r, Qv (KR u all) QH 0 = some r ∧ (((∀ s ∈ u, s ∈ all) ∧ r = .inl ()) ∨ (¬ (∀ s ∈ u, s ∈ all) ∧ r = .inr 9)) := by
  refine Jb (step := KR u all) u (fun k (_ : Unit) => k) (fun a _ => ∀ s ∈ a, s ∈ all) _ hu ?_ ?_ () (by simp)
  · intro a x b _ e hI
    by_cases hx : x ∈ all
    · refine .inr ⟨(), ?_, fun y hy => ?_⟩
      · unfold KR
        rw [e, QX, QR]
        simp only [cond_true, Option.bind_some]
        rw [Kx _ _ hl, decide_eq_true hx]; rfl
      · rcases List.mem_append.1 hy with hy | hy
        · exact hI y hy
        · rw [List.mem_singleton] at hy; subst hy; exact hx
    · refine .inl ⟨.inr 9, ?_, .inr ⟨fun h => hx (h x (by rw [e]; simp)), rfl⟩⟩
      unfold KR
      rw [e, QX, QR]
      simp only [cond_true, Option.bind_some]
      rw [Kx _ _ hl, decide_eq_false hx]; rfl
  · intro _ hI
    refine ⟨.inl (), ?_, .inl ⟨hI, rfl⟩⟩
    unfold KR
    rw [J7]; rfl
theorem m46_eq (env : List Dcl) (hl : Yg env ≤ 100000000) : ∃ r, WX env = some r ∧ ((¬ (QM env).Nodup ∧ r = 8) ∨ ((QM env).Nodup ∧ ¬ JU env env ∧ r = 9) ∨ ((QM env).Nodup ∧ JU env env ∧ r = 0)) := by
  have hel := Z8 env
  have hal := all_len env
  unfold WX
  obtain ⟨r, e, hr⟩ := Jb (step := Gv env) env (fun k (s : List UN) => (s, k)) (fun a s => (QM a).Nodup ∧ s = QM a) (fun r => ((QM env).Nodup ∧ r = .inl (QM env)) ∨ (¬ (QM env).Nodup ∧ r = .inr 8)) (by omega)
    (fun a x b s e hI => by
      obtain ⟨h1, h2⟩ := hI
      have hx : x ∈ env := by rw [e]; simp
      have hxs := K9 hx
      have hnl := ZK x
      have haa := all_len a
      have hsz : Yg env = Yg a + (x.size + Yg b) := by rw [e, size_app, size_cons]
      have hll : env.length = a.length + (b.length + 1) := by rw [e]; simp
      obtain ⟨r, e1, hr⟩ := m46_l0_eq (QM a) (JA x) h1 (by omega)
      rcases hr with ⟨h3, rfl⟩ | ⟨h3, rfl⟩
      · refine .inr ⟨QM a ++ JA x, ?_, ?_, ?_⟩
        · unfold Gv
          dsimp only
          rw [e, QX, QR]
          simp only [cond_true, Option.bind_some]
          rw [XE x (by omega), Option.bind_some, h2, e1]; rfl
        · rw [all_snoc]; exact h3
        · rw [all_snoc]
      · refine .inl ⟨.inr 8, ?_, .inr ⟨fun h4 => ?_, rfl⟩⟩
        · unfold Gv
          dsimp only
          rw [e, QX, QR]
          simp only [cond_true, Option.bind_some]
          rw [XE x (by omega), Option.bind_some, h2, e1]; rfl
        · rw [e, show a ++ x :: b = (a ++ [x]) ++ b by simp] at h4
          have := all_nodup h4
          rw [all_snoc] at this
          exact h3 this)
    (fun s hI => ⟨.inl s, by unfold Gv; dsimp only; rw [J7]; rfl, .inl ⟨hI.1, by rw [hI.2]⟩⟩) [] ⟨List.nodup_nil, rfl⟩
  rw [e, Option.bind_some]
  rcases hr with ⟨h1, rfl⟩ | ⟨h1, rfl⟩
  · dsimp only [Sum.elim]
    obtain ⟨r, e, hr⟩ := Jb (step := KQ env (QM env)) env (fun k (_ : Unit) => k) (fun a _ => JU env a) (fun r => (JU env env ∧ r = .inl ()) ∨ (¬ JU env env ∧ r = .inr 9)) (by omega)
      (fun a x b _ e hI => by
        have hx : x ∈ env := by rw [e]; simp
        have hxs := K9 hx
        have hul := uses_len x
        obtain ⟨r, e1, hr⟩ := m46_l2_eq (QM env) (Kg x) (by omega) (by omega)
        rcases hr with ⟨h3, rfl⟩ | ⟨h3, rfl⟩
        · refine .inr ⟨(), ?_, fun d hd => ?_⟩
          · unfold KQ
            rw [e, QX, QR]
            simp only [cond_true, Option.bind_some]
            rw [m47_eq x (by omega), Option.bind_some, ← e, e1]; rfl
          · rcases List.mem_append.1 hd with hd | hd
            · exact hI d hd
            · rw [List.mem_singleton] at hd; subst hd; exact h3
        · refine .inl ⟨.inr 9, ?_, .inr ⟨fun h => h3 (h x hx), rfl⟩⟩
          unfold KQ
          rw [e, QX, QR]
          simp only [cond_true, Option.bind_some]
          rw [m47_eq x (by omega), Option.bind_some, ← e, e1]; rfl)
      (fun _ hI => ⟨.inl (), by unfold KQ; rw [J7]; rfl, .inl ⟨hI, rfl⟩⟩) () (by simp [JU])
    rw [e, Option.bind_some]
    rcases hr with ⟨h2, rfl⟩ | ⟨h2, rfl⟩
    · exact ⟨0, rfl, .inr (.inr ⟨h1, h2, rfl⟩)⟩
    · exact ⟨9, rfl, .inr (.inl ⟨h1, h2, rfl⟩)⟩
  · exact ⟨8, rfl, .inl ⟨h1, rfl⟩⟩
theorem m25_l0_eq (env : List Dcl) (hl : Yg env ≤ 100000000) (u : List UN) (hu : u.length ≤ 900000000) (h : ∀ s ∈ u, s ∈ QM env) : Qv (GB u env) QH ([], 0) = some (u.map (KK env)) := by
  obtain ⟨r, e, rfl⟩ := Jb (step := GB u env) u (fun k (s : List Int) => (s, k)) (fun a s => s = a.map (KK env)) (fun r => r = u.map (KK env)) hu
    (fun a x b s e hI => .inr ⟨s ++ [KK env x], by
      have hal : a.length < u.length := YD e
      unfold GB
      dsimp only
      obtain ⟨k, hk, e2⟩ := ZU (h x (by rw [e]; simp))
      rw [e, QX, QR]
      simp only [cond_true, Option.bind_some]
      rw [m48_eq env x hl, Option.bind_some, Jf (by rw [hI]; simp; omega)]
      unfold KK
      rw [e2]; rfl, by rw [hI]; simp⟩)
    (fun s hI => ⟨s, by unfold GB; dsimp only; rw [J7]; rfl, hI⟩) [] rfl
  exact e
theorem m25_l1_eq (env : List Dcl) (hl : Yg env ≤ 100000000) (o : List Int) (ho : o.length ≤ 900000000) : Qv (KV env o) QH ([], 0) = some (((List.range env.length).map fun (k : Nat) => (k : Int)).filter fun j => decide (j ∈ o)) := by
  have hel := Z8 env
  obtain ⟨r, e, rfl⟩ := Jb (step := KV env o) env (fun k (s : List Int) => (s, k)) (fun a s => s = ((List.range a.length).map fun (k : Nat) => (k : Int)).filter fun j => decide (j ∈ o)) (fun r => r = ((List.range env.length).map fun (k : Nat) => (k : Int)).filter fun j => decide (j ∈ o)) (by omega)
    (fun a x b s e hI => .inr ⟨s ++ (if (a.length : Int) ∈ o then [(a.length : Int)] else []), by
      have hal : a.length < env.length := YD e
      have hsl : s.length ≤ a.length := by
        rw [hI]
        refine Nat.le_trans (List.length_filter_le _ _) ?_
        simp
      unfold KV
      dsimp only
      rw [e, QX]
      simp only [cond_true]
      rw [m49_eq o _ ho, Option.bind_some]
      by_cases hm : (a.length : Int) ∈ o
      · rw [decide_eq_true hm, if_pos hm, cond_true, Jf (by simp; omega)]
      · rw [decide_eq_false hm, if_neg hm, cond_false, List.append_nil], by
      rw [hI]
      simp only [List.length_append, List.length_cons, List.length_nil]
      rw [show a.length + (0 + 1) = a.length + 1 from rfl, List.range_succ, List.map_append, List.filter_append]
      congr 1
      simp only [List.map_cons, List.map_nil, List.filter_cons, List.filter_nil, decide_eq_true_eq]⟩)
    (fun s hI => ⟨s, by unfold KV; dsimp only; rw [J7]; rfl, hI⟩) [] rfl
  exact e
theorem m25_eq (env : List Dcl) (hl : Yg env ≤ 100000000) : ∃ r, WC env = some r ∧ Says env r := by
  have hel := Z8 env
  unfold WC
  obtain ⟨r, e, hr⟩ := m46_eq env hl
  rw [e, Option.bind_some]
  rcases hr with ⟨h1, rfl⟩ | ⟨h1, h2, rfl⟩ | ⟨h1, h2, rfl⟩
  · exact ⟨([], 8), rfl, .twice h1⟩
  · exact ⟨([], 9), rfl, .none h1 h2⟩
  · refine ⟨(Zz env, 0), ?_, .ok h1 h2⟩
    show Option.bind (Qv (GA env) QH (([] : List (List Int)), 0)) _ = _
    obtain ⟨r, e, rfl⟩ := Jb (step := GA env) env (fun k (s : List (List Int)) => (s, k)) (fun a s => s = a.map (row env)) (fun r => r = Zz env) (by omega)
      (fun a x b s e hI => .inr ⟨s ++ [row env x], by
        have hx : x ∈ env := by rw [e]; simp
        have hxs := K9 hx
        have hul := uses_len x
        have hal : a.length < env.length := YD e
        unfold GA
        dsimp only
        rw [e, QX, QR]
        simp only [cond_true, Option.bind_some]
        rw [m47_eq x (by omega), Option.bind_some, ← e, m25_l0_eq env hl (Kg x) (by omega) (h2 x hx), Option.bind_some, m25_l1_eq env hl _ (by simp; omega), Option.bind_some, Jf (by rw [hI]; simp; omega)]
        rfl, by rw [hI]; simp⟩)
      (fun s hI => ⟨s, by unfold GA; dsimp only; rw [J7]; rfl, hI⟩) [] rfl
    rw [e]; rfl
end Go.Proofs.Ytijcchddnnnmdaa
namespace Go.Proofs.Ytijcchddnnnmdaa
open Go.RowKit Go.Shelf
set_option linter.unusedSimpArgs false
set_option linter.unusedVariables false
theorem G8 : Jp Try.prog 54 = some (false, 1) := by kernel_rfl
theorem Kc : Jp Try.prog 75 = some (false, 1) := by kernel_rfl
theorem YM : J6 Try.prog 75 = some (4, 1) := by kernel_rfl
theorem WS : Js Try.prog 4 = some [.bool false] := by kernel_rfl
theorem z_75 : Js Try.prog 75 = some [.slice none 0 0] := by kernel_rfl
theorem Wx : Yj Try.prog 4 = some (1, 1) := by kernel_rfl
theorem en_22 : J2 Try.prog 22 := enters_of Try.func22 (by kernel_rfl) rfl
theorem en_43 : J2 Try.prog 43 := enters_of Try.func43 (by kernel_rfl) rfl
theorem en_44 : J2 Try.prog 44 := enters_of Try.func44 (by kernel_rfl) rfl
theorem en_60 : J2 Try.prog 60 := enters_of Try.func60 (by kernel_rfl) rfl
def m44f7 (a0 : Int) (a1 : Nat) (a2 : List Bool) : Option Bool :=
 Option.bind (Jg a2 a0) fun (x1 : Bool) =>
 Qt (Nat.beq a2.length a1)
 (some (!x1))
set_option maxRecDepth 100000 in
set_option maxHeartbeats 2000000 in
theorem m44f7_ok (a0 : Int) (a1 : Nat) (a2 : List Bool) (r : Bool) (h0 : m44f7 a0 a1 a2 = some r) : CallM Try.prog 44 [.one (Uv a0), .one (.ptr 0 0)] ⟨[(0, .cells 75 [.osl 1 0 a1 a1]), (1, .cells 4 (Qa a2))], [], 2⟩ (Qy [.one (Uw r)]) ⟨[(0, .cells 75 [.osl 1 0 a1 a1]), (1, .cells 4 (Qa a2))], [], 2⟩ := by
 unfold m44f7 at h0
 refine QP ⟨[(3, .v (.one (Uw r)))], [(0, .cells 75 [.osl 1 0 a1 a1]), (1, .cells 4 (Qa a2))], [], 2, 9, []⟩ rfl rfl en_44 (Ug rfl) rfl (Qk rfl .nil) (fun w0 M V0 Q hv0 hQ0 => ?_)
 simp only [J8]
 refine Q2 <| Q0 <| U7 rfl rfl rfl <| Q3 <| Q1 <| Q2 <| Q0 <| U5 rfl rfl rfl (Q7 Kc rfl rfl rfl) <| U6 rfl rfl rfl ?_
 refine Qb h0 (fun x1 hx1 h0 => ?_)
 refine QQ h0 (fun g2 h0 => ?_)
 refine U5 rfl rfl rfl (Ju (α := Bool) YM rfl rfl hx1 g2) <| U5 rfl rfl rfl (Zk (α := Bool) (m := a0) (f := 0) Kr rfl rfl hx1 rfl) <| U5 rfl rfl rfl (J9 rfl) <| U7 rfl rfl rfl <| Q3 <| Q1 <| Qz ?_
 have e := U3 h0; subst e
 exact hQ0 _ _ _ (.inr rfl) rfl (Qf (U1 rfl U0) (Um rfl (Um rfl Ul)) Uh rfl (Nat.le_trans hv0 (Ug rfl)) rfl rfl rfl (UE rfl rfl (UD rfl UB)) rfl rfl)
def m60f6_l0 (a0 : List Int) (a1 : Nat) (a2 : List Bool) (s1 : Int) : Option (LO Int (Unit ⊕ Int)) :=
 cond (decide (s1 < (a0.length : Int)))
   (Option.bind (Jg a0 s1) fun (x3 : Int) =>
 Option.bind (m44f7 x3 a1 a2) fun (x4 : Bool) =>
 cond x4
   (some (.done (.inr s1)))
   (some (.next (J1 (s1 + 1)))))
   (some (.done (.inl ())))
def m60f6 (a0 : List Int) (a1 : Nat) (a2 : List Bool) : Option Int :=
 Option.bind (Qv (m60f6_l0 a0 a1 a2) QH 0) (Sum.elim (fun (o1 : Unit) => some (-1)) (fun o => some o))
set_option maxRecDepth 100000 in
set_option maxHeartbeats 2000000 in
theorem m60f6_ok (a0 : List Int) (a1 : Nat) (a2 : List Bool) (r : Int) (h0 : m60f6 a0 a1 a2 = some r) : CallM Try.prog 60 [.one (Ut a0), .one (.fn 44 [(0, 0)])] ⟨[(0, .cells 75 [.osl 1 0 a1 a1]), (1, .cells 4 (Qa a2))], [], 2⟩ (Qy [.one (Uv r)]) ⟨[(0, .cells 75 [.osl 1 0 a1 a1]), (1, .cells 4 (Qa a2))], [], 2⟩ := by
 unfold m60f6 at h0
 refine QP ⟨[(4, .v (.one (Uv r)))], [(0, .cells 75 [.osl 1 0 a1 a1]), (1, .cells 4 (Qa a2))], [], 2, 19, []⟩ rfl rfl en_60 (Ug rfl) rfl (Qk rfl .nil) (fun w0 M V0 Q hv0 hQ0 => ?_)
 simp only [J8]
 refine Q2 <| Q0 <| U7 rfl rfl rfl <| Q3 <| Q1 <| Q2 <| Q2 <| Q0 <| U6 rfl rfl rfl <| U5 rfl rfl rfl (QB (α := Int) JM rfl (.d _)) <| U6 rfl rfl rfl <| Q3 <| Q1 <| Qc ?_
 refine QF 0 (fun (o1 : Unit) => ⟨[], [(0, .cells 75 [.osl 1 0 a1 a1]), (1, .cells 4 (Qa a2))], [], 2, 19, []⟩) (fun (o1 : Unit) => (some (-1)) = some r) ?_ ?_
 refine Qb h0 (fun o2 hl1 h0 => ?_)
 refine QE (m60f6_l0 a0 a1 a2) (fun s1 => ⟨[(0, .v (.one (Ut a0))), (1, .v (.one (.fn 44 [(0, 0)]))), (7, .v (.one (Uv (a0.length : Int)))), (8, .v (.one (Uv s1)))], [(0, .cells 75 [.osl 1 0 a1 a1]), (1, .cells 4 (Qa a2))], [], 2, 19, []⟩) 0 o2 (Qf (U1 rfl (U1 rfl (U1 rfl (U1 rfl U0)))) (Um rfl (Um rfl Ul)) Uh rfl (Nat.le_trans hv0 (Ug rfl)) rfl rfl rfl (UE rfl rfl (UD rfl UB)) rfl rfl) hl1 (fun s1 n1 oo1 h1 ho1 => ?_)
 unfold m60f6_l0 at h1
 refine Q2 <| Q0 <| U5 rfl rfl rfl (Q5 rfl rfl rfl) <| Q3 <| Q1 <| Q2 ?_
 refine Qe (b := (decide (s1 < (a0.length : Int)))) rfl (fun c3 => ?_) (fun c3 => ?_)
 replace h1 := Qm c3 h1
 refine Qg <| Q1 <| Q2 <| Qc <| Q2 <| Q0 <| U6 rfl rfl rfl <| U7 rfl rfl rfl <| Q3 <| Q1 <| Q2 <| Q0 <| U6 rfl rfl rfl <| U6 rfl rfl rfl ?_
 refine U6 rfl rfl rfl ?_
 refine Qb h1 (fun x4 hx4 h1 => ?_)
 refine U5 rfl rfl rfl (Qi (α := Int) JM rfl (.d _) rfl hx4) <| U5 rfl rfl rfl (QI Yx rfl rfl) ?_
 refine Qb h1 (fun x5 hx5 h1 => ?_)
 refine Q9 rfl rfl (Ug rfl) (QW (hp1' := [(0, .cells 75 [.osl 1 0 a1 a1]), (1, .cells 4 (Qa a2))]) (tk1' := []) (hpF := []) (tkF := []) (res2 := Qy [.one (Uw x5)]) (nx2 := 2) [0, 1] rfl rfl (m44f7_ok x4 a1 a2 x5 hx5) rfl rfl (Ub rfl rfl (Ua rfl U8)) rfl rfl (Uq rfl (Us rfl Uo)) Uj Ul Uh rfl rfl rfl rfl rfl (UE rfl rfl (UD rfl UB)) rfl rfl rfl rfl) <| Q3 <| Q1 ?_
 refine Qe (b := x5) rfl (fun c6 => ?_) (fun c6 => ?_)
 replace h1 := Qm c6 h1
 refine Q2 <| Q0 <| U6 rfl rfl rfl <| U7 rfl rfl rfl <| Q3 <| Q1 <| Qz ?_
 have e := U3 h1; subst e
 have e_ : _ = _ := ho1
 subst e_
 try dsimp only [Sum.elim_inl, Sum.elim_inr] at h0
 have e := U3 h0; subst e
 exact hQ0 _ _ _ (.inr rfl) rfl (Qf (U1 rfl U0) (Um rfl (Um rfl Ul)) Uh rfl (Nat.le_trans hv0 (Ug rfl)) rfl rfl rfl (UE rfl rfl (UD rfl UB)) rfl rfl)
 replace h1 := Qn c6 h1
 refine Qg <| Qh <| Q1 <| Q0 <| U5 rfl rfl rfl (Q5 rfl rfl rfl) <| U6 rfl rfl rfl <| Q3 ?_
 have e := U3 h1; subst e
 refine QA (J1 (s1 + 1)) (Qf (U1 rfl (U1 rfl (U1 rfl (U1 rfl U0)))) (Um rfl (Um rfl Ul)) Uh rfl (Nat.le_trans hv0 (Ug rfl)) rfl rfl rfl (UE rfl rfl (UD rfl UB)) rfl rfl) ho1
 replace h1 := Qn c3 h1
 refine QJ <| Qd <| Qd ?_
 have e := U3 h1; subst e
 have e_ : _ = _ := ho1
 subst e_
 exact QD () (Qf U0 (Um rfl (Um rfl Ul)) Uh rfl (Nat.le_trans hv0 (Ug rfl)) rfl rfl rfl (UE rfl rfl (UD rfl UB)) rfl rfl) h0
 intro o1 h0
 refine Qu <| Q1 <| Q2 <| Q0 <| U7 rfl rfl rfl <| Q3 <| Q1 <| Qz ?_
 have e := U3 h0; subst e
 exact hQ0 _ _ _ (.inr rfl) rfl (Qf (U1 rfl U0) (Um rfl (Um rfl Ul)) Uh rfl (Nat.le_trans hv0 (Ug rfl)) rfl rfl rfl (UE rfl rfl (UD rfl UB)) rfl rfl)
def m43f5 (a0 : List Int) (a1 : Nat) (a2 : List Bool) : Option Bool :=
 Option.bind (m60f6 a0 a1 a2) fun (x1 : Int) =>
 some (decide (0 ≤ x1))
set_option maxRecDepth 100000 in
set_option maxHeartbeats 2000000 in
theorem m43f5_ok (a0 : List Int) (a1 : Nat) (a2 : List Bool) (r : Bool) (h0 : m43f5 a0 a1 a2 = some r) : CallM Try.prog 43 [.one (Ut a0), .one (.fn 44 [(0, 0)])] ⟨[(0, .cells 75 [.osl 1 0 a1 a1]), (1, .cells 4 (Qa a2))], [], 2⟩ (Qy [.one (Uw r)]) ⟨[(0, .cells 75 [.osl 1 0 a1 a1]), (1, .cells 4 (Qa a2))], [], 2⟩ := by
 unfold m43f5 at h0
 refine QP ⟨[(4, .v (.one (Uw r)))], [(0, .cells 75 [.osl 1 0 a1 a1]), (1, .cells 4 (Qa a2))], [], 2, 9, []⟩ rfl rfl en_43 (Ug rfl) rfl (Qk rfl .nil) (fun w0 M V0 Q hv0 hQ0 => ?_)
 simp only [J8]
 refine Q2 <| Q0 <| U7 rfl rfl rfl <| Q3 <| Q1 <| Q2 <| Q0 <| U6 rfl rfl rfl <| U6 rfl rfl rfl ?_
 refine Qb h0 (fun x1 hx1 h0 => ?_)
 refine Q9 rfl rfl (Ug rfl) (QW (hp1' := [(0, .cells 75 [.osl 1 0 a1 a1]), (1, .cells 4 (Qa a2))]) (tk1' := []) (hpF := []) (tkF := []) (res2 := Qy [.one (Uv x1)]) (nx2 := 2) [0, 1] rfl rfl (m60f6_ok a0 a1 a2 x1 hx1) rfl rfl (Ub rfl rfl (Ua rfl U8)) rfl rfl (Uq rfl (Us rfl Uo)) Uj Ul Uh rfl rfl rfl rfl rfl (UE rfl rfl (UD rfl UB)) rfl rfl rfl rfl) <| U5 rfl rfl rfl (Q5 rfl rfl rfl) <| U7 rfl rfl rfl <| Q3 <| Q1 <| Qz ?_
 have e := U3 h0; subst e
 exact hQ0 _ _ _ (.inr rfl) rfl (Qf (U1 rfl U0) (Um rfl (Um rfl Ul)) Uh rfl (Nat.le_trans hv0 (Ug rfl)) rfl rfl rfl (UE rfl rfl (UD rfl UB)) rfl rfl)
def m22_l0 (x9 : (List UN)) (s2 : Int × (Qj UN Int)) (s3 : Int × (Qj UN Int)) : Option (LO (Int × (Qj UN Int)) (((Qj UN Int)) ⊕ (((List (List Int)) × (Qj UN Int)) ⊕ Unit ⊕ Unit))) :=
 cond (decide (s3.1 < (x9.length : Int)))
   (Option.bind (Jg x9 s3.1) fun (x12 : UN) =>
 cond (Jz s3.2 x12)
   (some (.done (.inr (.inr (.inl ())))))
   (some (.next ((J1 (s3.1 + 1)), (Y5 s3.2 x12 s2.1)))))
   (some (.done (.inl s3.2)))
def m22_l1 (a0 : List Dcl) (s2 : Int × (Qj UN Int)) : Option (LO (Int × (Qj UN Int)) (((Qj UN Int)) ⊕ (((List (List Int)) × (Qj UN Int)) ⊕ Unit ⊕ Unit))) :=
 cond (decide (s2.1 < (a0.length : Int)))
   (Option.bind (Jg a0 s2.1) fun (x8 : Dcl) =>
 Option.bind (Wc x8) fun (x9 : (List UN)) =>
 Option.bind (Qv (m22_l0 x9 s2) QH (0, s2.2)) (Sum.elim (fun (o10 : (Qj UN Int)) => some (.next ((J1 (s2.1 + 1)), o10))) (fun o => some (.done (.inr o)))))
   (some (.done (.inl s2.2)))
def m22_l2 (x10 : (List UN)) (o6 : (Qj UN Int)) (s3 : (List Int) × Int) : Option (LO ((List Int) × Int) (((List Int)) ⊕ (((List (List Int)) × (Qj UN Int)) ⊕ Unit ⊕ Unit))) :=
 cond (decide (s3.2 < (x10.length : Int)))
   (Option.bind (Jg x10 s3.2) fun (x13 : UN) =>
 cond (!(Jz o6 x13))
   (some (.done (.inr (.inr (.inr ())))))
   (Qt (Nat.ble (s3.1.length + ([(Jl o6 x13)]).length) 1000000000)
 (some (.next ((s3.1 ++ ([(Jl o6 x13)])), (J1 (s3.2 + 1)))))))
   (some (.done (.inl s3.1)))
def m22_l3 (a0 : List Dcl) (o6 : (Qj UN Int)) (s2 : Int × (List (List Int))) : Option (LO (Int × (List (List Int))) (((List (List Int))) ⊕ (((List (List Int)) × (Qj UN Int)) ⊕ Unit ⊕ Unit))) :=
 cond (decide (s2.1 < (a0.length : Int)))
   (Option.bind (Jg a0 s2.1) fun (x9 : Dcl) =>
 Option.bind (Wh x9) fun (x10 : (List UN)) =>
 Option.bind (Qv (m22_l2 x10 o6) QH (([] : List Int), 0)) (Sum.elim (fun (o11 : (List Int)) => Option.bind (ZA o11) fun (x12 : List Int) =>
 Option.bind (Y2 x12 ((Enc.encL o11).length)) fun (x13 : List Int) =>
 Qt (Nat.ble (s2.2.length + ([x13]).length) 1000000000)
 (some (.next ((J1 (s2.1 + 1)), (s2.2 ++ ([x13])))))) (fun o => some (.done (.inr o)))))
   (some (.done (.inl s2.2)))
def m22_l4 (y1 : (List (List Int)) × (Qj UN Int)) (s1 : (List Int) × (List Bool)) (a0 : List Dcl) (s2 : Int) : Option (LO Int Int) :=
 cond (decide (s2 < (y1.1.length : Int)))
   (Option.bind (Jg y1.1 s2) fun (x35 : List Int) =>
 Option.bind (Option.bind (Jg s1.2 s2) fun (x37 : Bool) =>
 Qt (Nat.beq s1.2.length ((a0.length : Int).toNat))
 (cond (!x37)
   (Option.bind (m43f5 x35 ((a0.length : Int).toNat) s1.2) fun (x40 : Bool) =>
 some (!x40))
   (some false))) (fun (v36 : Bool) => cond v36
   (some (.done s2))
   (some (.next (J1 (s2 + 1))))))
   (some (.done (-1)))
def m22_l5 (a0 : List Dcl) (y1 : (List (List Int)) × (Qj UN Int)) (s1 : (List Int) × (List Bool)) : Option (LO ((List Int) × (List Bool)) (((List Int) × (List Bool)) ⊕ ((List Int) × Int))) :=
 cond (decide ((s1.1.length : Int) < (a0.length : Int)))
   (Option.bind (Qv (m22_l4 y1 s1 a0) QH 0) (fun (o33 : Int) => cond (decide (o33 < 0))
   (some (.done (.inr (([] : List Int), 22))))
   (Option.bind (Jg s1.2 o33) fun (x35 : Bool) =>
 Qt (Nat.beq s1.2.length ((a0.length : Int).toNat))
 (Qt (Nat.ble (s1.1.length + ([o33]).length) 1000000000)
 (some (.next ((s1.1 ++ ([o33])), (s1.2.set o33.toNat true))))))))
   (some (.done (.inl (s1.1, s1.2))))
def m22 (a0 : List Dcl) : Option ((List Int) × Int) :=
 Option.bind (Option.bind (Qv (m22_l1 a0) QH (0, gmNil)) (Sum.elim (fun (o6 : (Qj UN Int)) => Option.bind (Qv (m22_l3 a0 o6) QH (0, ([] : List (List Int)))) (Sum.elim (fun (o7 : (List (List Int))) => some (.inl (o7, o6))) (fun o => some o))) (fun o => some o))) (Sum.elim (fun (y1 : (List (List Int)) × (Qj UN Int)) => Qt (cond (decide (0 ≤ (a0.length : Int))) (Nat.ble (1 * (a0.length : Int).toNat) 281474976710656) false)
 (Option.bind (Qv (m22_l5 a0 y1) QH (([] : List Int), (List.replicate (a0.length : Int).toNat false))) (Sum.elim (fun (o31 : (List Int) × (List Bool)) => some (o31.1, 0)) (fun o => some o)))) (Sum.elim (fun (y2 : Unit) => some (([] : List Int), 8)) (fun (y3 : Unit) => some (([] : List Int), 9))))
end Go.Proofs.Ytijcchddnnnmdaa
namespace Go.Proofs.Ytijcchddnnnmdaa
open Go.RowKit Go.Shelf
set_option linter.unusedSimpArgs false
set_option linter.unusedVariables false
def m26_l0 (x1 : (List (List Int)) × Int) (s2 : Int × Int) (s1 : (List Int)) (s3 : Bool × Int) : Option (LO (Bool × Int) Bool) :=
 Option.bind (Jg x1.1 s2.2) fun (x10 : List Int) =>
 cond (decide (s3.2 < (x10.length : Int)))
   (Option.bind (cond s3.1
   (Option.bind (Jg x1.1 s2.2) fun (x14 : List Int) =>
 Option.bind (Jg x14 s3.2) fun (x15 : Int) =>
 Option.bind (WD s1 x15) fun (x16 : Bool) =>
 some x16)
   (some false)) (fun (v12 : Bool) => some (.next (v12, (J1 (s3.2 + 1))))))
   (some (.done s3.1))
def m26_l1 (a0 : List Dcl) (s1 : (List Int)) (x1 : (List (List Int)) × Int) (s2 : Int × Int) : Option (LO (Int × Int) Int) :=
 Option.bind (cond (decide (s2.2 < (a0.length : Int)))
   (some (decide (s2.1 < 0)))
   (some false)) (fun (v6 : Bool) => cond v6
   (Option.bind (WD s1 s2.2) fun (x8 : Bool) =>
 Option.bind (Qv (m26_l0 x1 s2 s1) QH ((!x8), 0)) (fun (o9 : Bool) => cond o9
   (some (.next (s2.2, (J1 (s2.2 + 1)))))
   (some (.next (s2.1, (J1 (s2.2 + 1)))))))
   (some (.done s2.1)))
def m26_l2 (a0 : List Dcl) (x1 : (List (List Int)) × Int) (s1 : (List Int)) : Option (LO ((List Int)) (((List Int)) ⊕ ((List Int) × Int))) :=
 cond (decide ((s1.length : Int) < (a0.length : Int)))
   (Option.bind (Qv (m26_l1 a0 s1 x1) QH ((-1), 0)) (fun (o5 : Int) => cond (decide (o5 < 0))
   (some (.done (.inr (([] : List Int), 22))))
   (Qt (Nat.ble (s1.length + ([o5]).length) 1000000000)
 (some (.next (s1 ++ ([o5])))))))
   (some (.done (.inl s1)))
def m26 (a0 : List Dcl) : Option ((List Int) × Int) :=
 Option.bind (WC a0) fun (x1 : (List (List Int)) × Int) =>
 cond (x1.2 != 0)
   (some (([] : List Int), x1.2))
   (Option.bind (Qv (m26_l2 a0 x1) QH ([] : List Int)) (Sum.elim (fun (o3 : (List Int)) => some (o3, 0)) (fun o => some o)))
end Go.Proofs.Ytijcchddnnnmdaa
namespace Go.Proofs.Ytijcchddnnnmdaa
open Go.RowKit Go.Lib
set_option linter.unusedSimpArgs false
set_option linter.unusedVariables false
set_option linter.unusedSectionVars false
def Gr (g : List (List Int)) (n : Nat) : Prop := g.length = n ∧ ∀ l ∈ g, l.length ≤ n ∧ ∀ j ∈ l, ∃ k : Nat, k < n ∧ j = (k : Int)
theorem graph_gr {env : List Dcl} (h : JU env env) : Gr (Zz env) env.length := by
  refine ⟨by unfold Zz; simp, fun l hl => ?_⟩
  unfold Zz at hl
  obtain ⟨d, hd, rfl⟩ := List.mem_map.1 hl
  refine ⟨?_, fun j hj => ?_⟩
  · unfold row
    refine Nat.le_trans (List.length_filter_le _ _) ?_
    simp
  · unfold row at hj
    obtain ⟨k, hk, rfl⟩ := List.mem_map.1 (List.mem_filter.1 hj).1
    exact ⟨k, List.mem_range.1 hk, rfl⟩
def readyL (out : List Int) (i : Nat) (l : List Int) : Bool := decide ((i : Int) ∉ out) && l.all fun j => decide (j ∈ out)
def pickF (out : List Int) : Nat → List (List Int) → Option Nat
  | _, [] => none
  | i, l :: g => if readyL out i l then some i else pickF out (i + 1) g
def orderG (g : List (List Int)) : Nat → List Int → List Int ⊕ Unit
  | 0, out => .inl out
  | k + 1, out => match pickF out 0 g with
    | none => .inr ()
    | some i => orderG g k (out ++ [(i : Int)])
inductive OSays (env : List Dcl) : List Int × Int → Prop
  | twice (h : ¬ (QM env).Nodup) : OSays env ([], 8)
  | none (h : (QM env).Nodup) (h2 : ¬ JU env env) : OSays env ([], 9)
  | loop (h : (QM env).Nodup) (h2 : JU env env) (h3 : orderG (Zz env) env.length [] = .inr ()) : OSays env ([], 22)
  | ok (h : (QM env).Nodup) (h2 : JU env env) (o : List Int) (h3 : orderG (Zz env) env.length [] = .inl o) : OSays env (o, 0)
end Go.Proofs.Ytijcchddnnnmdaa
namespace Go.Proofs.Ytijcchddnnnmdaa
open Go.RowKit
set_option linter.unusedSimpArgs false
set_option linter.unusedVariables false
set_option linter.unusedSectionVars false
def rowCell (base : Nat) (es : List (List Int)) (k : Nat) : CA := .app (base + k % 1000) 1 (Enc.encL (es.getD k []))
def Jx (base : Nat) (es : List (List Int)) : List CA := (List.range es.length).map (rowCell base es)
def Yn (base : Nat) (es : List (List Int)) : List (Nat × Option Tok) := (List.range (min es.length 1000)).map fun k => (base + k % 1000, some ⟨3, 1, (Enc.encL (es.getD k [])).length, []⟩)
theorem rowCells_get {base : Nat} {es : List (List Int)} {k : Nat} {row : List Int} (h : es[k]? = some row) : (Jx base es)[k]? = some (.app (base + k % 1000) 1 (Enc.encL row)) := by
  have hlt := (List.getElem?_eq_some_iff.1 h).1
  have e1 : es.getD k [] = row := by rw [List.getD_eq_getElem?_getD, h]; rfl
  simp only [Jx, rowCell, List.getElem?_map, List.getElem?_range hlt, Option.map_some, e1]
theorem Z3 (base : Nat) (es : List (List Int)) : (Jx base es).length = es.length := by simp [Jx]
theorem rowCells_set {base : Nat} {es : List (List Int)} {k : Nat} {row : List Int} (hk : k < es.length) : (Jx base es).set k (.app (base + k % 1000) 1 (Enc.encL row)) = Jx base (es.set k row) := by
  apply List.ext_getElem?
  intro j
  rw [List.getElem?_set, Z3]
  by_cases hj : k = j
  · subst hj
    rw [if_pos rfl, if_pos hk, rowCells_get (row := row) (by rw [List.getElem?_set, if_pos rfl, if_pos hk])]
  · rw [if_neg hj]
    cases h : es[j]? with
    | none =>
      have h1 : es.length ≤ j := List.getElem?_eq_none_iff.1 h
      rw [List.getElem?_eq_none (by rw [Z3]; exact h1), List.getElem?_eq_none (by rw [Z3, List.length_set]; exact h1)]
    | some r => rw [rowCells_get h, rowCells_get (row := r) (by rw [List.getElem?_set, if_neg hj]; exact h)]
theorem lk_rangeMap {α : Type} (f : Nat → Nat) (v : Nat → α) : ∀ (l : List Nat) (k : Nat), k ∈ l → (∀ a ∈ l, f a = f k → a = k) → Uf (l.map fun a => (f a, v a)) (f k) = some (v k)
  | a :: l, k, hk, hi => by
    rw [List.map_cons, Qx]
    by_cases h : f a = f k
    · rw [if_pos h, hi a List.mem_cons_self h]
    · rw [if_neg h]
      have : k ∈ l := (List.mem_cons.1 hk).resolve_left fun e => h (by rw [e])
      exact lk_rangeMap f v l k this fun b hb => hi b (List.mem_cons_of_mem _ hb)
theorem rowToks_get {base : Nat} {es : List (List Int)} {k : Nat} {row : List Int} (h : es[k]? = some row) (hl : es.length ≤ 1000) : Uf (Yn base es) (base + k % 1000) = some (some ⟨3, 1, (Enc.encL row).length, []⟩) := by
  have hlt := (List.getElem?_eq_some_iff.1 h).1
  have e1 : es.getD k [] = row := by rw [List.getD_eq_getElem?_getD, h]; rfl
  have := lk_rangeMap (fun a => base + a % 1000) (fun a => (some ⟨3, 1, (Enc.encL (es.getD a [])).length, []⟩ : Option Tok)) (List.range (min es.length 1000)) k (List.mem_range.2 (by omega)) (fun a ha e => by
    have := List.mem_range.1 ha
    rw [Nat.mod_eq_of_lt (by omega), Nat.mod_eq_of_lt (by omega)] at e
    omega)
  rw [e1] at this
  exact this
theorem YW (base nx : Nat) (es : List (List Int)) (h : Nat.ble (base + 1000) nx = true) : ((Yn base es).all fun p => Nat.blt p.1 nx) = true := by
  have h1 := Nat.le_of_ble_eq_true h
  refine List.all_eq_true.2 fun p hp => ?_
  obtain ⟨k, -, rfl⟩ := List.mem_map.1 hp
  have : k % 1000 < 1000 := Nat.mod_lt _ (by decide)
  exact Nat.ble_eq_true_of_le (by dsimp only; omega)
theorem rowCells_below (base nx : Nat) (es : List (List Int)) (h : Nat.ble (base + 1000) nx = true) : ∀ x ∈ Jx base es, x.below nx := fun x hx => by
  have h1 := Nat.le_of_ble_eq_true h
  obtain ⟨k, -, rfl⟩ := List.mem_map.1 hx
  have : k % 1000 < 1000 := Nat.mod_lt _ (by decide)
  show base + k % 1000 < nx
  omega
abbrev nilC : CA := .d (.v (.slice none 0 0))
theorem Kn {α : Type} (n k : Nat) : (List.replicate n ([] : List α)).getD k [] = [] := by
  rw [List.getD_eq_getElem?_getD, List.getElem?_replicate]
  split <;> rfl
theorem rowCells_rep (base n : Nat) : Jx base (List.replicate (n + 1) []) = Jx base (List.replicate n []) ++ [.app (base + n % 1000) 1 []] := by
  unfold Jx rowCell
  rw [List.length_replicate, List.length_replicate, List.range_succ, List.map_append]
  congr 1
  · exact List.map_congr_left fun k hk => by rw [Kn, Kn]
  · rw [List.map_singleton, Kn]; rfl
theorem rowToks_rep (base n : Nat) (hn : n < 1000) : Yn base (List.replicate (n + 1) []) = Yn base (List.replicate n []) ++ [(base + n % 1000, some ⟨3, 1, 0, []⟩)] := by
  unfold Yn
  rw [List.length_replicate, List.length_replicate, Nat.min_eq_left (by omega), Nat.min_eq_left (by omega), List.range_succ, List.map_append]
  congr 1
  · exact List.map_congr_left fun k hk => by rw [Kn, Kn]
  · rw [List.map_singleton, Kn]; rfl
theorem HRel.adoptRows {E : Env} {V : Vu} {hp : List (Nat × HB)} {tk : List (Nat × Option Tok)} {w : World} (H : HRel E V hp tk w) {i : Nat} {T : TypeId} (n : Nat) (hn : n ≤ 1000) (hi : Uf hp i = some (.cells T (List.replicate n nilC))) :
    ∀ k, k ≤ n → ∃ V', HRel E V' ((i, .cells T (Jx V.nx (List.replicate k []) ++ List.replicate (n - k) nilC)) :: hp) (Yn V.nx (List.replicate k [])) w ∧ V.Le V' w w ∧ V'.nx = V.nx + k := by
  intro k
  induction k with
  | zero =>
    intro _
    refine ⟨V, H.forget (fun j B hj => ?_) (fun j T hj => ?_), Vu.Le.refl V w, rfl⟩
    · rw [Qx] at hj
      split at hj
      · rename_i e1; subst e1; rw [hi]; rw [← hj]; rfl
      · exact hj
    · cases hj
  | succ k ih =>
    intro hk
    obtain ⟨V', H1, L1, hn1⟩ := ih (by omega)
    have hl : (Jx V.nx (List.replicate k [])).length = k := by rw [Z3, List.length_replicate]
    obtain ⟨H2, L2⟩ := H1.adoptC (i := i) (off := k) (T := T) 3 1 (by rw [Qx, if_pos rfl]) (by rw [List.getElem?_append_right (by omega), hl, Nat.sub_self, List.getElem?_replicate, if_pos (by omega)])
    refine ⟨_, H2.forget (fun j B hj => ?_) (fun j T' hj => ?_), L1.trans L2, ?_⟩
    · rw [Qx] at hj ⊢
      split at hj
      · rename_i e1
        rw [if_pos e1, ← hj]
        congr 2
        rw [rowCells_rep, List.set_append_right _ _ (by omega), hl, Nat.sub_self, show n - k = (n - (k + 1)) + 1 by omega, List.replicate_succ, List.set_cons_zero, hn1, Nat.mod_eq_of_lt (by omega)]
        simp
      · rename_i e1
        rw [if_neg e1, Qx, if_neg e1]; exact hj
    · rw [rowToks_rep _ _ (by omega), lk_app] at hj
      rw [Qx, hn1]
      split at hj
      · rename_i x hx
        have : j < V.nx + k := by
          obtain ⟨q, hq, e1⟩ := List.mem_map.1 (GR hx)
          have hq2 := List.mem_range.1 hq
          rw [List.length_replicate, Nat.min_eq_left (by omega)] at hq2
          have e2 := (Prod.mk.inj e1).1
          rw [Nat.mod_eq_of_lt (by omega)] at e2
          omega
        rw [if_neg (by omega)]
        rw [← hj]; exact hx
      · rw [Qx] at hj
        split at hj
        · rename_i e1
          rw [Nat.mod_eq_of_lt (by omega)] at e1
          rw [if_pos e1]; exact hj
        · cases hj
    · show max V'.nx (V'.nx + 1) = _
      omega
section
variable {E : Env} {st : St} {dd : Option Tmp} {ty : TypeId} {pos : String} {af : Array Edge} {g : Option (Nat × Bool)}
theorem zeroRow_nil (n : Nat) : Jr [.slice none 0 0] n = List.replicate n nilC := by
  apply List.ext_getElem?
  intro k
  simp only [Jr, List.getElem?_map, List.getElem?_replicate, List.length_singleton, Nat.mul_one]
  by_cases hk : k < n
  · rw [List.getElem?_range hk, if_pos hk]
    simp [Nat.mod_one]
  · rw [List.getElem?_eq_none (by simpa using hk), if_neg hk]; rfl
theorem OpOK.makeRows {t e by_ : Nat} {o1 o2 : Operand} {m : Int} (ht : J6 E.P t = some (e, 1)) (hze : Js E.P e = some [.slice none 0 0]) (hel : Yj E.P e = some (1, by_)) (hb : Nat.ble by_ 1000000 = true)
    (h1 : ev st.tm o1 = some (UG m)) (h2 : ev st.tm o2 = some (UG m)) (hm : (cond (decide (0 ≤ m)) (Nat.ble m.toNat 1000) false) = true) :
    OpOK E ⟨dd, .makeSlice t o1 o2, ty, pos, af, g⟩ st (.v (.one (.osl st.nx 0 m.toNat m.toNat))) ⟨(st.nx, .cells e (Jx (st.nx + 1) (List.replicate m.toNat []))) :: st.hp, Yn (st.nx + 1) (List.replicate m.toNat []), st.nx + 1001⟩ := by
  have h0 : 0 ≤ m := of_decide_eq_true (cond_left hm)
  have hn : m.toNat ≤ 1000 := Nat.le_of_ble_eq_true (cond_right hm)
  have hb' := Nat.le_of_ble_eq_true hb
  have hmm : (m.toNat : Int) = m := Int.toNat_of_nonneg h0
  have hbb : by_ * m.toNat ≤ 1000000 * 1000 := Nat.mul_le_mul hb' hn
  have ok := OpOK.makeSlice (E := E) (st := st) (dd := dd) (ty := ty) (pos := pos) (af := af) (g := g) (l := m.toNat) (c := m.toNat) ht hze rfl rfl hel (by rw [hmm]; exact h1) (by rw [hmm]; exact h2) (Nat.le_refl _) (by omega) (by omega)
  rw [zeroRow_nil] at ok
  intro V a w hr ro n K Q hK
  refine ok V a w hr ro n K Q (fun V' w' v H hnx L hx => ?_)
  obtain ⟨V2, H2, L2, hn2⟩ := H.adoptRows (i := st.nx) (T := e) m.toNat hn (by rw [Qx, if_pos rfl]) m.toNat (Nat.le_refl _)
  rw [Nat.sub_self, List.replicate_zero, List.append_nil] at H2
  rw [hnx] at H2 hn2
  dsimp only at H2 hn2
  obtain ⟨H3, L3⟩ := H2.skip (st.nx + 1001) (by rw [hn2]; omega)
  refine hK _ w' v (H3.forget (fun j B hj => ?_) (fun j T hj => hj)) rfl (L.trans (L2.trans L3)) (hx.mono (L2.trans L3))
  rw [Qx] at hj ⊢
  split at hj
  · rename_i e1; rw [if_pos e1]; exact hj
  · rename_i e1; rw [if_neg e1, Qx, if_neg e1]; exact hj
end
theorem tkLe.of {tk : List (Nat × Option Tok)} : ∀ {r : List (Nat × Option Tok)}, (∀ p ∈ r, ∀ T, p.2 = some T → Uf tk p.1 = some (some T)) → tkLe tk r
  | [], _ => trivial
  | (t, y) :: r, h => ⟨fun T e => h (t, y) List.mem_cons_self T e, tkLe.of fun p hp => h p (List.mem_cons_of_mem _ hp)⟩
theorem We {base : Nat} {es : List (List Int)} : tkLe (Yn base es) (Yn base es) := tkLe.of fun p hp T e => by
  obtain ⟨k, hk, rfl⟩ := List.mem_map.1 hp
  have hk' := List.mem_range.1 hk
  cases e
  refine lk_rangeMap (fun a => base + a % 1000) (fun a => (some ⟨3, 1, (Enc.encL (es.getD a [])).length, []⟩ : Option Tok)) (List.range (min es.length 1000)) k hk (fun a ha e => ?_)
  have := List.mem_range.1 ha
  rw [Nat.mod_eq_of_lt (by omega), Nat.mod_eq_of_lt (by omega)] at e
  omega
theorem WQ {m i : Nat} {T : TypeId} {base : Nat} {es : List (List Int)} {r : List (Nat × HB)} (h : Nat.blt i m = true) (hb : Nat.ble (base + 1000) m = true) (l : hpBelow m r) : hpBelow m ((i, .cells T (Jx base es)) :: r) := ⟨Kp h, rowCells_below base m es hb, l⟩
theorem rowsCLs (base : Nat) (es : List (List Int)) : CLs (Jx base es) (Qa es) := by
  have : ∀ (l : List Nat), CLs (l.map (rowCell base es)) (l.map fun k => .d (.sl 1 (Enc.encL (es.getD k [])))) := by
    intro l
    induction l with
    | nil => exact .nil
    | cons x l ih => exact .cons (.sub (.app _ _ _)) ih
  have h1 := this (List.range es.length)
  have e : Qa es = (List.range es.length).map fun k => CA.d (.sl 1 (Enc.encL (es.getD k []))) := by
    apply List.ext_getElem?
    intro k
    unfold Qa
    rw [Enc.map]
    have hsz : ∀ l : List (List Int), (l.map Enc.enc).flatten = l.map fun r => C.sl 1 (Enc.encL r) := by
      intro l
      induction l with
      | nil => rfl
      | cons x l ih => rw [List.map_cons, List.flatten_cons, ih]; rfl
    rw [hsz, List.map_map, List.getElem?_map, List.getElem?_map]
    by_cases hk : k < es.length
    · rw [List.getElem?_range hk, List.getElem?_eq_getElem hk]
      simp [List.getD_eq_getElem?_getD, List.getElem?_eq_getElem hk]
    · rw [List.getElem?_eq_none (by omega), List.getElem?_eq_none (by simpa using hk)]; rfl
  rw [e]; exact h1
theorem XQ.rows {E : Env} {Q : Exit → Act → World → Prop} {st : St} {e : Exit} {i base : Nat} {T : TypeId} {es : List (List Int)} (hi : Uf st.hp i = some (.cells T (Jx base es)))
    (k : XQ E Q e ⟨st.tm, [(i, .cells T (Qa es))], [], st.nx, st.nt, st.df⟩) : XQ E Q e st := fun V a w hr =>
  k V a w ⟨hr.h.forgetLe (Un hi (rowsCLs base es) Ul) Uh, hr.nx, hr.nt, hr.df, hr.tm⟩
section
variable {E : Env} {st : St} {dd : Option Tmp} {ty : TypeId} {pos : String} {af : Array Edge} {g : Option (Nat × Bool)}
theorem RO.indexRow {t e i n base : Nat} {T : TypeId} {x y : Operand} {m : Int} {es : List (List Int)} {row : List Int} (ht : J6 E.P t = some (e, 1)) (hx : ev st.tm x = some (.v (.one (.osl i 0 n n)))) (hy : ev st.tm y = some (UG m)) (hv : Jg es m = some row) (hn : Nat.beq es.length n = true) :
    RO E ⟨dd, .indexAddr t x y, ty, pos, af, g⟩ st (.v (.one (.ptr i m.toNat))) := by
  obtain ⟨k, rfl, hk⟩ := Xl hv
  have hl : es.length = n := Nat.eq_of_beq_eq_true hn
  have := RO.indexOsl (E := E) (st := st) (d := dd) (ty := ty) (pos := pos) (af := af) (g := g) (k := k) ht hx hy rfl (by rw [← hl]; exact (List.getElem?_eq_some_iff.1 hk).1)
  rw [Nat.zero_add, Nat.mul_one] at this; exact this
theorem RO.loadRow {t i base : Nat} {T : TypeId} {x : Operand} {m : Int} {es : List (List Int)} {row : List Int} (ht : Jp E.P t = some (false, 1)) (hx : ev st.tm x = some (.v (.one (.ptr i m.toNat)))) (hi : Uf st.hp i = some (.cells T (Jx base es))) (hv : Jg es m = some row) :
    RO E ⟨dd, .load t x, ty, pos, af, g⟩ st (.v (.one (.app (base + m.toNat % 1000) 1 (Enc.encL row)))) := by
  obtain ⟨k, rfl, hk⟩ := Xl hv
  exact Q7 ht hx hi (rowCells_get hk)
theorem rowTok {base : Nat} {es : List (List Int)} {m : Int} {row : List Int} (hv : Jg es m = some row) (hl : Nat.ble es.length 1000 = true) : Uf (Yn base es) (base + m.toNat % 1000) = some (some ⟨3, 1, (Enc.encL row).length, []⟩) := by
  obtain ⟨k, rfl, hk⟩ := Xl hv
  exact rowToks_get hk (Nat.le_of_ble_eq_true hl)
theorem OpOK.storeRow {t i base : Nat} {T : TypeId} {o1 o2 : Operand} {m : Int} {es : List (List Int)} {row row2 : List Int} (ht : Jp E.P t = some (false, 1)) (h1 : ev st.tm o1 = some (.v (.one (.ptr i m.toNat)))) (h2 : ev st.tm o2 = some (.v (.one (.app (base + m.toNat % 1000) 1 (Enc.encL row2)))))
    (hi : Uf st.hp i = some (.cells T (Jx base es))) (hv : Jg es m = some row) (hl : Nat.ble es.length 1000 = true) (htk : st.tk = (base + m.toNat % 1000, some ⟨3, 1, (Enc.encL row2).length, []⟩) :: Jv (base + m.toNat % 1000) (Yn base es)) (hdd : dd = none) :
    OpOK E ⟨dd, .store t o1 o2, ty, pos, af, g⟩ st (.tup []) ⟨(i, .cells T (Jx base (es.set m.toNat row2))) :: Jv i st.hp, Yn base (es.set m.toNat row2), st.nx⟩ := by
  obtain ⟨k, rfl, hk⟩ := Xl hv
  have hlt := (List.getElem?_eq_some_iff.1 hk).1
  rw [Int.toNat_natCast] at h1 h2 htk
  rw [Int.toNat_natCast]
  have hl' := Nat.le_of_ble_eq_true hl
  have ok := Qw (E := E) (st := st) (dd := dd) (ty := ty) (pos := pos) (af := af) (g := g) ht h1 h2 hi rfl (by rw [Z3]; exact hlt) hdd
  intro V a w hr ro n K Q hK
  refine ok V a w hr ro n K Q (fun V' w' v H hnx L hx => ?_)
  refine hK V' w' v (H.forget (fun j B hj => ?_) (fun j T' hj => ?_)) hnx L hx
  · rw [Qx] at hj ⊢
    split at hj
    · rename_i e1
      rw [if_pos e1, ← hj]
      congr 2
      exact (rowCells_set hlt).symm ▸ rfl
    · rename_i e1; rw [if_neg e1]; exact hj
  · rw [htk, Yk, Qx]
    have hlen : (es.set k row2).length = es.length := by simp
    obtain ⟨q, hq, e1⟩ := List.mem_map.1 (GR hj)
    have hq2 := List.mem_range.1 hq
    rw [hlen] at hq2
    have e2 := (Prod.mk.inj e1).1
    have e3 := (Prod.mk.inj e1).2
    have hkm : k % 1000 = k := Nat.mod_eq_of_lt (by omega)
    rw [Nat.mod_eq_of_lt (by omega)] at e2
    rw [hkm]
    rw [← e3, ← e2]
    by_cases hqk : q = k
    · subst hqk
      rw [if_pos rfl]
      congr 2
      show _ = Tok.mk 3 1 (Enc.encL ((es.set q row2).getD q [])).length []
      rw [List.getD_eq_getElem?_getD, List.getElem?_set, if_pos rfl, if_pos hlt]; rfl
    · rw [if_neg (by omega)]
      have h5 : es[q]? = some (es.getD q []) := by
        rw [List.getD_eq_getElem?_getD, List.getElem?_eq_getElem (by omega)]; rfl
      have h6 := rowToks_get (base := base) h5 hl'
      rw [Nat.mod_eq_of_lt (by omega)] at h6
      rw [h6]
      congr 2
      show _ = Tok.mk 3 1 (Enc.encL ((es.set k row2).getD q [])).length []
      rw [List.getD_eq_getElem?_getD, List.getD_eq_getElem?_getD, List.getElem?_set, if_neg (fun e => hqk e.symm)]
end
end Go.Proofs.Ytijcchddnnnmdaa
namespace Go.Proofs.Ytijcchddnnnmdaa
open Go.RowKit Go.Shelf
set_option linter.unusedSimpArgs false
set_option linter.unusedVariables false
theorem en_36 : J2 Try.prog 36 := enters_of Try.func36 (by kernel_rfl) rfl
def m36_l0 (x4 : List Int) (a0 : List (List Int)) (s1 : Int × (List (List Int))) (s2 : Int × (List (List Int))) : Option (LO (Int × (List (List Int))) (((List (List Int))))) :=
 cond (decide (s2.1 < (x4.length : Int)))
   (Option.bind (Jg x4 s2.1) fun (x7 : Int) =>
 Option.bind (Jg s2.2 x7) fun (x8 : List Int) =>
 Qt (Nat.beq s2.2.length ((a0.length : Int).toNat))
 (Qt (Nat.ble s2.2.length 1000)
 (Qt (Nat.ble (x8.length + ([s1.1]).length) 1000000000)
 (Option.bind (Jg s2.2 x7) fun (x12 : List Int) =>
 Qt (Nat.beq s2.2.length ((a0.length : Int).toNat))
 (Qt (Nat.ble s2.2.length 1000)
 (some (.next ((J1 (s2.1 + 1)), (s2.2.set x7.toNat (x8 ++ ([s1.1])))))))))))
   (some (.done s2.2))
def m36_l1 (a0 : List (List Int)) (s1 : Int × (List (List Int))) : Option (LO (Int × (List (List Int))) (((List (List Int))))) :=
 cond (decide (s1.1 < (a0.length : Int)))
   (Option.bind (Jg a0 s1.1) fun (x4 : List Int) =>
 Option.bind (Qv (m36_l0 x4 a0 s1) QH (0, s1.2)) (fun (o5 : (List (List Int))) => some (.next ((J1 (s1.1 + 1)), o5))))
   (some (.done s1.2))
def m36 (a0 : List (List Int)) : Option ((List (List Int))) :=
 Qt (cond (decide (0 ≤ (a0.length : Int))) (Nat.ble (a0.length : Int).toNat 1000) false)
 (Option.bind (Qv (m36_l1 a0) QH (0, (List.replicate (a0.length : Int).toNat ([] : List Int)))) (fun (o2 : (List (List Int))) => Qt (Nat.beq o2.length ((a0.length : Int).toNat))
 (some o2)))
set_option maxRecDepth 100000 in
set_option maxHeartbeats 2000000 in
theorem m36_ok (a0 : List (List Int)) (r : (List (List Int))) (h0 : m36 a0 = some r) : Fun Try.prog 36 [.one (Ut a0)] (Qy [.one (Ut r)]) := by
 unfold m36 at h0
 refine QS 9 37 Try.func36 rfl en_36 rfl (Ug rfl) (fun S w => ?_)
 simp only [J8]
 refine Q2 <| Q0 <| U7 rfl rfl rfl <| Q3 <| Q1 <| Q2 <| Q0 <| U6 rfl rfl rfl <| U5 rfl rfl rfl (QB (α := List Int) Y1 rfl (.d _)) ?_
 refine QQ h0 (fun g1 h0 => ?_)
 refine Q9 rfl rfl (Ug rfl) (OpOK.makeRows Y1 Wa XM rfl rfl rfl g1) <| U7 rfl rfl rfl <| Q3 <| Q1 <| Q2 <| Q2 <| Q0 <| U6 rfl rfl rfl <| U5 rfl rfl rfl (QB (α := List Int) Y1 rfl (.d _)) <| U6 rfl rfl rfl <| Q3 <| Q1 <| Qc ?_
 refine QF 0 (fun (o2 : (List (List Int))) => ⟨[(3, .v (.one (.osl 0 0 ((a0.length : Int).toNat) ((a0.length : Int).toNat))))], [(0, .cells 54 (Jx 1 o2))], (Yn 1 o2), 1001, 37, []⟩) (fun (o2 : (List (List Int))) => (Qt (Nat.beq o2.length ((a0.length : Int).toNat))
   (some o2)) = some r) ?_ ?_
 refine Qb h0 (fun o3 hl1 h0 => ?_)
 refine QE (m36_l1 a0) (fun s1 => ⟨[(3, .v (.one (.osl 0 0 ((a0.length : Int).toNat) ((a0.length : Int).toNat)))), (11, .v (.one (Ut a0))), (12, .v (.one (Uv (a0.length : Int)))), (13, .v (.one (Uv s1.1)))], [(0, .cells 54 (Jx 1 s1.2))], (Yn 1 s1.2), 1001, 37, []⟩) (0, (List.replicate (a0.length : Int).toNat ([] : List Int))) o3 (Qf (U1 rfl (U1 rfl (U1 rfl (U1 rfl U0)))) (Um rfl Ul) We rfl (Nat.zero_le _) rfl rfl rfl (WQ rfl rfl UB) (YW _ _ _ rfl) rfl) hl1 (fun s1 n1 oo1 h1 ho1 => ?_)
 unfold m36_l1 at h1
 refine Q2 <| Q0 <| U5 rfl rfl rfl (Q5 rfl rfl rfl) <| Q3 <| Q1 <| Q2 ?_
 refine Qe (b := (decide (s1.1 < (a0.length : Int)))) rfl (fun c4 => ?_) (fun c4 => ?_)
 replace h1 := Qm c4 h1
 refine Qg <| Q1 <| Q2 <| Qc <| Q2 <| Q0 <| U6 rfl rfl rfl ?_
 refine Qb h1 (fun x5 hx5 h1 => ?_)
 refine U5 rfl rfl rfl (Qi (α := List Int) Y1 rfl (.d _) rfl hx5) <| U5 rfl rfl rfl (QI G8 rfl rfl) <| U7 rfl rfl rfl <| U7 rfl rfl rfl <| Q3 <| Q1 <| Q2 <| Q0 <| U6 rfl rfl rfl <| U5 rfl rfl rfl (QB (α := Int) JM rfl (.d _)) <| U6 rfl rfl rfl <| Q3 <| Q1 <| Qc ?_
 refine QF 2 (fun (o6 : (List (List Int))) => ⟨[(3, .v (.one (.osl 0 0 ((a0.length : Int).toNat) ((a0.length : Int).toNat)))), (11, .v (.one (Ut a0))), (12, .v (.one (Uv (a0.length : Int)))), (13, .v (.one (Uv s1.1)))], [(0, .cells 54 (Jx 1 o6))], (Yn 1 o6), 1001, 37, []⟩) (fun (o6 : (List (List Int))) => (some (.next ((J1 (s1.1 + 1)), o6))) = some oo1) ?_ ?_
 refine Qb h1 (fun o7 hl2 h1 => ?_)
 refine QE (m36_l0 x5 a0 s1) (fun s2 => ⟨[(3, .v (.one (.osl 0 0 ((a0.length : Int).toNat) ((a0.length : Int).toNat)))), (4, .v (.one (Uv s1.1))), (11, .v (.one (Ut a0))), (12, .v (.one (Uv (a0.length : Int)))), (13, .v (.one (Uv s1.1))), (18, .v (.one (Ut x5))), (19, .v (.one (Uv (x5.length : Int)))), (20, .v (.one (Uv s2.1)))], [(0, .cells 54 (Jx 1 s2.2))], (Yn 1 s2.2), 1001, 37, []⟩) (0, s1.2) o7 (Qf (U1 rfl (U1 rfl (U1 rfl (U1 rfl (U1 rfl (U1 rfl (U1 rfl (U1 rfl U0)))))))) (Um rfl Ul) We rfl (Nat.zero_le _) rfl rfl rfl (WQ rfl rfl UB) (YW _ _ _ rfl) rfl) hl2 (fun s2 n2 oo2 h2 ho2 => ?_)
 unfold m36_l0 at h2
 refine Q2 <| Q0 <| U5 rfl rfl rfl (Q5 rfl rfl rfl) <| Q3 <| Q1 <| Q2 ?_
 refine Qe (b := (decide (s2.1 < (x5.length : Int)))) rfl (fun c8 => ?_) (fun c8 => ?_)
 replace h2 := Qm c8 h2
 refine Qg <| Q1 <| Q2 <| Qc <| Q2 <| Q0 ?_
 refine Qb h2 (fun x9 hx9 h2 => ?_)
 refine U5 rfl rfl rfl (Qi (α := Int) JM rfl (.d _) rfl hx9) <| U5 rfl rfl rfl (QI Yx rfl rfl) <| U7 rfl rfl rfl <| Q3 <| Q1 <| Q0 <| U6 rfl rfl rfl <| U6 rfl rfl rfl <| U6 rfl rfl rfl <| U6 rfl rfl rfl ?_
 refine Qb h2 (fun x10 hx10 h2 => ?_)
 refine QQ h2 (fun g11 h2 => ?_)
 refine U5 rfl rfl rfl (RO.indexRow (base := 1) (T := 54) Y1 rfl rfl hx10 g11) <| U5 rfl rfl rfl (RO.loadRow G8 rfl rfl hx10) <| U6 rfl rfl rfl <| Q9 rfl rfl (Ug rfl) (Yi (α := Int) (s1.1) JM Wg rfl rfl (Ug rfl) rfl rfl (.cons (.d _) .nil) rfl) ?_
 refine QQ h2 (fun g12 h2 => ?_)
 refine QQ h2 (fun g13 h2 => ?_)
 refine Q9 rfl rfl (Ug rfl) (QO (α := Int) JM XY rfl rfl (rowTok hx10 g12) rfl rfl (.d _) g13) ?_
 refine Qb h2 (fun x14 hx14 h2 => ?_)
 refine QQ h2 (fun g15 h2 => ?_)
 refine U5 rfl rfl rfl (RO.indexRow (base := 1) (T := 54) Y1 rfl rfl hx14 g15) ?_
 refine QQ h2 (fun g16 h2 => ?_)
 refine QL rfl rfl (OpOK.storeRow G8 rfl rfl rfl hx14 g16 rfl rfl) <| Q3 <| Qh <| Q1 <| Q0 <| U5 rfl rfl rfl (Q5 rfl rfl rfl) <| U6 rfl rfl rfl <| Q3 ?_
 have e := U3 h2; subst e
 refine QA ((J1 (s2.1 + 1)), (s2.2.set x9.toNat (x10 ++ ([s1.1])))) (Qf (U1 rfl (U1 rfl (U1 rfl (U1 rfl (U1 rfl (U1 rfl (U1 rfl (U1 rfl U0)))))))) (Um rfl Ul) We rfl (Nat.zero_le _) rfl rfl rfl (WQ rfl rfl UB) (YW _ _ _ rfl) rfl) ho2
 replace h2 := Qn c8 h2
 refine QJ <| Qd <| Qd ?_
 have e := U3 h2; subst e
 have e_ : _ = _ := ho2
 subst e_
 exact QD s2.2 (Qf (U1 rfl (U1 rfl (U1 rfl (U1 rfl U0)))) (Um rfl Ul) We rfl (Nat.zero_le _) rfl rfl rfl (WQ rfl rfl UB) (YW _ _ _ rfl) rfl) h1
 intro o6 h1
 refine Qu <| Qh <| Q1 <| Q0 <| U5 rfl rfl rfl (Q5 rfl rfl rfl) <| U6 rfl rfl rfl <| Q3 ?_
 have e := U3 h1; subst e
 refine QA ((J1 (s1.1 + 1)), o6) (Qf (U1 rfl (U1 rfl (U1 rfl (U1 rfl U0)))) (Um rfl Ul) We rfl (Nat.zero_le _) rfl rfl rfl (WQ rfl rfl UB) (YW _ _ _ rfl) rfl) ho1
 replace h1 := Qn c4 h1
 refine QJ <| Qd <| Qd ?_
 have e := U3 h1; subst e
 have e_ : _ = _ := ho1
 subst e_
 exact QD s1.2 (Qf (U1 rfl U0) (Um rfl Ul) We rfl (Nat.zero_le _) rfl rfl rfl (WQ rfl rfl UB) (YW _ _ _ rfl) rfl) h0
 intro o2 h0
 refine Qu <| Q1 <| Q2 <| Q0 <| U6 rfl rfl rfl <| U7 rfl rfl rfl <| Q3 <| Q1 <| Qz ?_
 refine QQ h0 (fun g17 h0 => ?_)
 have e := U3 h0; subst e
 refine XQ.rows (i := 0) rfl <| XQ.freezeT (α := List Int) (t := 2) rfl rfl g17 ?_
 exact QK (fun _ _ h => h) rfl (Qk rfl .nil) (.cons (.one (.d _)) .nil)
end Go.Proofs.Ytijcchddnnnmdaa
namespace Go.Proofs.Ytijcchddnnnmdaa
open Go.RowKit Go.Shelf
set_option linter.unusedSimpArgs false
set_option linter.unusedVariables false
theorem G9 : Jp Try.prog 106 = some (false, 1) := by kernel_rfl
theorem z_106 : Js Try.prog 106 = some [.nilFunc] := by kernel_rfl
theorem en_12 : J2 Try.prog 12 := enters_of Try.func12 (by kernel_rfl) rfl
theorem en_35 : J2 Try.prog 35 := enters_of Try.func35 (by kernel_rfl) rfl
theorem en_56 : J2 Try.prog 56 := enters_of Try.func56 (by kernel_rfl) rfl
def ZN (x6 : List Int) (rc : Int × Nat × (List Bool) × (List (List Int)) → Option ((List Bool))) (a1 : Nat) (a3 : List (List Int)) (s1 : Int × (List Bool)) : Option (LO (Int × (List Bool)) (((List Bool)))) :=
 cond (decide (s1.1 < (x6.length : Int)))
   (Option.bind (Jg x6 s1.1) fun (x9 : Int) =>
 Option.bind (rc (x9, a1, s1.2, a3)) fun (x10 : (List Bool)) =>
 some (.next ((J1 (s1.1 + 1)), x10)))
   (some (.done s1.2))
def GQ (rc : Int × Nat × (List Bool) × (List (List Int)) → Option ((List Bool))) (a0 : Int) (a1 : Nat) (a2 : List Bool) (a3 : List (List Int)) : Option ((List Bool)) :=
 Option.bind (Jg a2 a0) fun (x1 : Bool) =>
 Qt (Nat.beq a2.length a1)
 (cond x1
   (some a2)
   (Option.bind (Jg a2 a0) fun (x4 : Bool) =>
 Qt (Nat.beq a2.length a1)
 (Option.bind (Jg a3 a0) fun (x6 : List Int) =>
 Option.bind (Qv (ZN x6 rc a1 a3) QH (0, (a2.set a0.toNat true))) (fun (o7 : (List Bool)) => some o7))))
def m56f12F (rc : Int × Nat × (List Bool) × (List (List Int)) → Option ((List Bool))) (u : Int × Nat × (List Bool) × (List (List Int))) : Option ((List Bool)) := GQ rc u.1 u.2.1 u.2.2.1 u.2.2.2
def m56f12 (a0 : Int) (a1 : Nat) (a2 : List Bool) (a3 : List (List Int)) : Option ((List Bool)) := JY m56f12F QH (a0, a1, a2, a3)
set_option maxRecDepth 100000 in
set_option maxHeartbeats 2000000 in
theorem m56f12s_ok (rc : Int × Nat × (List Bool) × (List (List Int)) → Option ((List Bool))) (H : ∀ (a0 : Int) (a1 : Nat) (a2 : List Bool) (a3 : List (List Int)) (r : (List Bool)), rc (a0, a1, a2, a3) = some r → CallM Try.prog 56 [.one (Uv a0), .one (.ptr 0 0), .one (.ptr 2 0), .one (.ptr 3 0)] ⟨[(0, .cells 75 [.osl 1 0 a1 a1]), (1, .cells 4 (Qa a2)), (2, .cells 57 [Ut a3]), (3, .cells 106 [.fn 56 [(0, 0), (2, 0), (3, 0)]])], [], 4⟩ (Qy []) ⟨[(0, .cells 75 [.osl 1 0 a1 a1]), (1, .cells 4 (Qa r)), (2, .cells 57 [Ut a3]), (3, .cells 106 [.fn 56 [(0, 0), (2, 0), (3, 0)]])], [], 4⟩) (a0 : Int) (a1 : Nat) (a2 : List Bool) (a3 : List (List Int)) (r : (List Bool)) (h0 : GQ rc a0 a1 a2 a3 = some r) : CallM Try.prog 56 [.one (Uv a0), .one (.ptr 0 0), .one (.ptr 2 0), .one (.ptr 3 0)] ⟨[(0, .cells 75 [.osl 1 0 a1 a1]), (1, .cells 4 (Qa a2)), (2, .cells 57 [Ut a3]), (3, .cells 106 [.fn 56 [(0, 0), (2, 0), (3, 0)]])], [], 4⟩ (Qy []) ⟨[(0, .cells 75 [.osl 1 0 a1 a1]), (1, .cells 4 (Qa r)), (2, .cells 57 [Ut a3]), (3, .cells 106 [.fn 56 [(0, 0), (2, 0), (3, 0)]])], [], 4⟩ := by
 unfold GQ at h0
 refine QP ⟨[], [(0, .cells 75 [.osl 1 0 a1 a1]), (1, .cells 4 (Qa r)), (2, .cells 57 [Ut a3]), (3, .cells 106 [.fn 56 [(0, 0), (2, 0), (3, 0)]])], [], 4, 27, []⟩ rfl rfl en_56 (Ug rfl) rfl .nil (fun w0 M V0 Q hv0 hQ0 => ?_)
 simp only [J8]
 refine Q2 <| Q2 <| Q0 <| U5 rfl rfl rfl (Q7 Kc rfl rfl rfl) <| U6 rfl rfl rfl ?_
 refine Qb h0 (fun x1 hx1 h0 => ?_)
 refine QQ h0 (fun g2 h0 => ?_)
 refine U5 rfl rfl rfl (Ju (α := Bool) YM rfl rfl hx1 g2) <| U5 rfl rfl rfl (Zk (α := Bool) (m := a0) (f := 0) Kr rfl rfl hx1 rfl) <| Q3 <| Q1 ?_
 refine Qe (b := x1) rfl (fun c3 => ?_) (fun c3 => ?_)
 replace h0 := Qm c3 h0
 refine Qz ?_
 have e := U3 h0; subst e
 exact hQ0 _ _ _ (.inr rfl) rfl (Qf U0 (Um rfl (Um rfl (Um rfl (Um rfl Ul)))) Uh rfl (Nat.le_trans hv0 (Ug rfl)) rfl rfl rfl (UE rfl rfl (UD rfl (UE rfl rfl (UE rfl rfl UB)))) rfl rfl)
 replace h0 := Qn c3 h0
 refine Qg <| Q1 <| Q2 <| Q0 <| U5 rfl rfl rfl (Q7 Kc rfl rfl rfl) <| U6 rfl rfl rfl ?_
 refine Qb h0 (fun x4 hx4 h0 => ?_)
 refine QQ h0 (fun g5 h0 => ?_)
 refine U5 rfl rfl rfl (Ju (α := Bool) YM rfl rfl hx4 g5) <| QL rfl rfl (OpOK.storeOE (α := Bool) (y' := .one (Uw true)) (v := true) Kr rfl rfl (.one (.d _)) rfl rfl hx4 rfl) <| Q3 <| Q1 <| Q2 <| Q0 <| U5 rfl rfl rfl (Q7 Yr rfl rfl rfl) <| U6 rfl rfl rfl ?_
 refine Qb h0 (fun x6 hx6 h0 => ?_)
 refine U5 rfl rfl rfl (Qi (α := List Int) Y1 rfl (.d _) rfl hx6) <| U5 rfl rfl rfl (QI G8 rfl rfl) <| U5 rfl rfl rfl (QB (α := Int) JM rfl (.d _)) <| U6 rfl rfl rfl <| Q3 <| Q1 <| Qc ?_
 refine QF 0 (fun (o7 : (List Bool)) => ⟨[], [(0, .cells 75 [.osl 1 0 a1 a1]), (1, .cells 4 (Qa o7)), (2, .cells 57 [Ut a3]), (3, .cells 106 [.fn 56 [(0, 0), (2, 0), (3, 0)]])], [], 4, 27, []⟩) (fun (o7 : (List Bool)) => (some o7) = some r) ?_ ?_
 refine Qb h0 (fun o8 hl1 h0 => ?_)
 refine QE (ZN x6 rc a1 a3) (fun s1 => ⟨[(3, .v (.one (.ptr 3 0))), (17, .v (.one (Ut x6))), (18, .v (.one (Uv (x6.length : Int)))), (19, .v (.one (Uv s1.1)))], [(0, .cells 75 [.osl 1 0 a1 a1]), (1, .cells 4 (Qa s1.2)), (2, .cells 57 [Ut a3]), (3, .cells 106 [.fn 56 [(0, 0), (2, 0), (3, 0)]])], [], 4, 27, []⟩) (0, (a2.set a0.toNat true)) o8 (Qf (U1 rfl (U1 rfl (U1 rfl (U1 rfl U0)))) (Um rfl (Um rfl (Um rfl (Um rfl Ul)))) Uh rfl (Nat.le_trans hv0 (Ug rfl)) rfl rfl rfl (UE rfl rfl (UD rfl (UE rfl rfl (UE rfl rfl UB)))) rfl rfl) hl1 (fun s1 n1 oo1 h1 ho1 => ?_)
 unfold ZN at h1
 refine Q2 <| Q0 <| U5 rfl rfl rfl (Q5 rfl rfl rfl) <| Q3 <| Q1 <| Q2 ?_
 refine Qe (b := (decide (s1.1 < (x6.length : Int)))) rfl (fun c9 => ?_) (fun c9 => ?_)
 replace h1 := Qm c9 h1
 refine Qg <| Q1 <| Q2 <| Qc <| Q2 <| Q0 ?_
 refine Qb h1 (fun x10 hx10 h1 => ?_)
 refine U5 rfl rfl rfl (Qi (α := Int) JM rfl (.d _) rfl hx10) <| U5 rfl rfl rfl (QI Yx rfl rfl) <| U7 rfl rfl rfl <| Q3 <| Q1 <| Q0 <| U5 rfl rfl rfl (Q7 G9 rfl rfl rfl) <| U6 rfl rfl rfl ?_
 refine Qb h1 (fun x11 hx11 h1 => ?_)
 refine Q9 rfl rfl (Ug rfl) (QW (hp1' := [(0, .cells 75 [.osl 1 0 a1 a1]), (1, .cells 4 (Qa x11)), (2, .cells 57 [Ut a3]), (3, .cells 106 [.fn 56 [(0, 0), (2, 0), (3, 0)]])]) (tk1' := []) (hpF := []) (tkF := []) (res2 := Qy []) (nx2 := 4) [0, 1, 2, 3] rfl rfl (H x10 a1 s1.2 a3 x11 hx11) rfl rfl (Ub rfl rfl (Ua rfl (Ub rfl rfl (Ub rfl rfl U8)))) rfl rfl (Uq rfl (Us rfl (Uq rfl (Uq rfl Uo)))) Uj Ul Uh rfl rfl rfl rfl rfl (UE rfl rfl (UD rfl (UE rfl rfl (UE rfl rfl UB)))) rfl rfl rfl rfl) <| Q3 <| Qh <| Q1 <| Q0 <| U5 rfl rfl rfl (Q5 rfl rfl rfl) <| U6 rfl rfl rfl <| Q3 ?_
 have e := U3 h1; subst e
 refine QA ((J1 (s1.1 + 1)), x11) (Qf (U1 rfl (U1 rfl (U1 rfl (U1 rfl U0)))) (Um rfl (Um rfl (Um rfl (Um rfl Ul)))) Uh rfl (Nat.le_trans hv0 (Ug rfl)) rfl rfl rfl (UE rfl rfl (UD rfl (UE rfl rfl (UE rfl rfl UB)))) rfl rfl) ho1
 replace h1 := Qn c9 h1
 refine QJ <| Qd <| Qd ?_
 have e := U3 h1; subst e
 have e_ : _ = _ := ho1
 subst e_
 exact QD s1.2 (Qf U0 (Um rfl (Um rfl (Um rfl (Um rfl Ul)))) Uh rfl (Nat.le_trans hv0 (Ug rfl)) rfl rfl rfl (UE rfl rfl (UD rfl (UE rfl rfl (UE rfl rfl UB)))) rfl rfl) h0
 intro o7 h0
 refine Qu ?_
 have e := U3 h0; subst e
 exact hQ0 _ _ _ (.inl rfl) rfl (Qf U0 (Um rfl (Um rfl (Um rfl (Um rfl Ul)))) Uh rfl (Nat.le_trans hv0 (Ug rfl)) rfl rfl rfl (UE rfl rfl (UD rfl (UE rfl rfl (UE rfl rfl UB)))) rfl rfl)
theorem m56f12_all (n : Nat) (u : Int × Nat × (List Bool) × (List (List Int))) (r : (List Bool)) (h0 : JY m56f12F n u = some r) : CallM Try.prog 56 [.one (Uv u.1), .one (.ptr 0 0), .one (.ptr 2 0), .one (.ptr 3 0)] ⟨[(0, .cells 75 [.osl 1 0 u.2.1 u.2.1]), (1, .cells 4 (Qa u.2.2.1)), (2, .cells 57 [Ut u.2.2.2]), (3, .cells 106 [.fn 56 [(0, 0), (2, 0), (3, 0)]])], [], 4⟩ (Qy []) ⟨[(0, .cells 75 [.osl 1 0 u.2.1 u.2.1]), (1, .cells 4 (Qa r)), (2, .cells 57 [Ut u.2.2.2]), (3, .cells 106 [.fn 56 [(0, 0), (2, 0), (3, 0)]])], [], 4⟩ :=
 Yy (C := fun u r => CallM Try.prog 56 [.one (Uv u.1), .one (.ptr 0 0), .one (.ptr 2 0), .one (.ptr 3 0)] ⟨[(0, .cells 75 [.osl 1 0 u.2.1 u.2.1]), (1, .cells 4 (Qa u.2.2.1)), (2, .cells 57 [Ut u.2.2.2]), (3, .cells 106 [.fn 56 [(0, 0), (2, 0), (3, 0)]])], [], 4⟩ (Qy []) ⟨[(0, .cells 75 [.osl 1 0 u.2.1 u.2.1]), (1, .cells 4 (Qa r)), (2, .cells 57 [Ut u.2.2.2]), (3, .cells 106 [.fn 56 [(0, 0), (2, 0), (3, 0)]])], [], 4⟩) (fun rc H u r h => m56f12s_ok rc (fun a0 a1 a2 a3 r h => H (a0, a1, a2, a3) r h) u.1 u.2.1 u.2.2.1 u.2.2.2 r h) n u r h0
theorem m56f12_ok (a0 : Int) (a1 : Nat) (a2 : List Bool) (a3 : List (List Int)) (r : (List Bool)) (h0 : m56f12 a0 a1 a2 a3 = some r) : CallM Try.prog 56 [.one (Uv a0), .one (.ptr 0 0), .one (.ptr 2 0), .one (.ptr 3 0)] ⟨[(0, .cells 75 [.osl 1 0 a1 a1]), (1, .cells 4 (Qa a2)), (2, .cells 57 [Ut a3]), (3, .cells 106 [.fn 56 [(0, 0), (2, 0), (3, 0)]])], [], 4⟩ (Qy []) ⟨[(0, .cells 75 [.osl 1 0 a1 a1]), (1, .cells 4 (Qa r)), (2, .cells 57 [Ut a3]), (3, .cells 106 [.fn 56 [(0, 0), (2, 0), (3, 0)]])], [], 4⟩ := m56f12_all QH (a0, a1, a2, a3) r h0
def m12_l0 (x9 : (List UN)) (s2 : Int × (Qj UN Int)) (s3 : Int × (Qj UN Int)) : Option (LO (Int × (Qj UN Int)) (((Qj UN Int)) ⊕ (((List (List Int)) × (Qj UN Int)) ⊕ Unit ⊕ Unit))) :=
 cond (decide (s3.1 < (x9.length : Int)))
   (Option.bind (Jg x9 s3.1) fun (x12 : UN) =>
 cond (Jz s3.2 x12)
   (some (.done (.inr (.inr (.inl ())))))
   (some (.next ((J1 (s3.1 + 1)), (Y5 s3.2 x12 s2.1)))))
   (some (.done (.inl s3.2)))
def m12_l1 (a0 : List Dcl) (s2 : Int × (Qj UN Int)) : Option (LO (Int × (Qj UN Int)) (((Qj UN Int)) ⊕ (((List (List Int)) × (Qj UN Int)) ⊕ Unit ⊕ Unit))) :=
 cond (decide (s2.1 < (a0.length : Int)))
   (Option.bind (Jg a0 s2.1) fun (x8 : Dcl) =>
 Option.bind (Wc x8) fun (x9 : (List UN)) =>
 Option.bind (Qv (m12_l0 x9 s2) QH (0, s2.2)) (Sum.elim (fun (o10 : (Qj UN Int)) => some (.next ((J1 (s2.1 + 1)), o10))) (fun o => some (.done (.inr o)))))
   (some (.done (.inl s2.2)))
def m12_l2 (x10 : (List UN)) (o6 : (Qj UN Int)) (s3 : (List Int) × Int) : Option (LO ((List Int) × Int) (((List Int)) ⊕ (((List (List Int)) × (Qj UN Int)) ⊕ Unit ⊕ Unit))) :=
 cond (decide (s3.2 < (x10.length : Int)))
   (Option.bind (Jg x10 s3.2) fun (x13 : UN) =>
 cond (!(Jz o6 x13))
   (some (.done (.inr (.inr (.inr ())))))
   (Qt (Nat.ble (s3.1.length + ([(Jl o6 x13)]).length) 1000000000)
 (some (.next ((s3.1 ++ ([(Jl o6 x13)])), (J1 (s3.2 + 1)))))))
   (some (.done (.inl s3.1)))
def m12_l3 (a0 : List Dcl) (o6 : (Qj UN Int)) (s2 : Int × (List (List Int))) : Option (LO (Int × (List (List Int))) (((List (List Int))) ⊕ (((List (List Int)) × (Qj UN Int)) ⊕ Unit ⊕ Unit))) :=
 cond (decide (s2.1 < (a0.length : Int)))
   (Option.bind (Jg a0 s2.1) fun (x9 : Dcl) =>
 Option.bind (Wh x9) fun (x10 : (List UN)) =>
 Option.bind (Qv (m12_l2 x10 o6) QH (([] : List Int), 0)) (Sum.elim (fun (o11 : (List Int)) => Option.bind (ZA o11) fun (x12 : List Int) =>
 Option.bind (Y2 x12 ((Enc.encL o11).length)) fun (x13 : List Int) =>
 Qt (Nat.ble (s2.2.length + ([x13]).length) 1000000000)
 (some (.next ((J1 (s2.1 + 1)), (s2.2 ++ ([x13])))))) (fun o => some (.done (.inr o)))))
   (some (.done (.inl s2.2)))
def KY (a1 : List UN) (y1 : (List (List Int)) × (Qj UN Int)) (x30 : (List (List Int))) (s2 : Int × (List Bool)) : Option (LO (Int × (List Bool)) (((List Bool)) ⊕ (Unit ⊕ ((List Bool))))) :=
 cond (decide (s2.1 < (a1.length : Int)))
   (Option.bind (Jg a1 s2.1) fun (x38 : UN) =>
 cond (!(Jz y1.2 x38))
   (some (.done (.inr (.inl ()))))
   (Option.bind (m56f12 (Jl y1.2 x38) ((x30.length : Int).toNat) s2.2 x30) fun (x40 : (List Bool)) =>
 some (.next ((J1 (s2.1 + 1)), x40))))
   (some (.done (.inl s2.2)))
def m12_l5 (a0 : List Dcl) (y32 : (List Bool)) (x30 : (List (List Int))) (s1 : (List UN) × Int) : Option (LO ((List UN) × Int) (((List UN)))) :=
 cond (decide (s1.2 < (a0.length : Int)))
   (Option.bind (Jg a0 s1.2) fun (x44 : Dcl) =>
 Option.bind (Jg y32 s1.2) fun (x45 : Bool) =>
 Qt (Nat.beq y32.length ((x30.length : Int).toNat))
 (cond x45
   (Option.bind (Wc x44) fun (x48 : (List UN)) =>
 Qt (Nat.ble (s1.1.length + x48.length) 1000000000)
 (some (.next ((s1.1 ++ x48), (J1 (s1.2 + 1))))))
   (some (.next (s1.1, (J1 (s1.2 + 1)))))))
   (some (.done s1.1))
def m12 (a0 : List Dcl) (a1 : List UN) : Option ((List UN) × Int) :=
 Option.bind (Option.bind (Qv (m12_l1 a0) QH (0, gmNil)) (Sum.elim (fun (o6 : (Qj UN Int)) => Option.bind (Qv (m12_l3 a0 o6) QH (0, ([] : List (List Int)))) (Sum.elim (fun (o7 : (List (List Int))) => some (.inl (o7, o6))) (fun o => some o))) (fun o => some o))) (Sum.elim (fun (y1 : (List (List Int)) × (Qj UN Int)) => Option.bind (m36 y1.1) fun (x30 : (List (List Int))) =>
 Option.bind (Qt (cond (decide (0 ≤ (x30.length : Int))) (Nat.ble (1 * (x30.length : Int).toNat) 281474976710656) false)
 (Option.bind (Qv (KY a1 y1 x30) QH (0, (List.replicate (x30.length : Int).toNat false))) (Sum.elim (fun (o36 : (List Bool)) => some (.inr o36)) (fun o => some o)))) (Sum.elim (fun (y31 : Unit) => some (([] : List UN), 9)) (fun (y32 : (List Bool)) => Option.bind (Qv (m12_l5 a0 y32 x30) QH (([] : List UN), 0)) (fun (o42 : (List UN)) => some (o42, 0))))) (Sum.elim (fun (y2 : Unit) => some (([] : List UN), 8)) (fun (y3 : Unit) => some (([] : List UN), 9))))
end Go.Proofs.Ytijcchddnnnmdaa
namespace Go.Proofs.Ytijcchddnnnmdaa
open Go.RowKit Go.Shelf
set_option linter.unusedSimpArgs false
set_option linter.unusedVariables false
theorem el_48 : Yj Try.prog 48 = some (23, 360) := by kernel_rfl
theorem en_16 : J2 Try.prog 16 := enters_of Try.func16 (by kernel_rfl) rfl
theorem en_38 : J2 Try.prog 38 := enters_of Try.func38 (by kernel_rfl) rfl
theorem en_39 : J2 Try.prog 39 := enters_of Try.func39 (by kernel_rfl) rfl
def YX (a0 : List (List Int)) (s2 : (List Bool) × Int) (a2 : Bool) (a1 : List Bool) (s3 : (List Bool) × Int) : Option (LO ((List Bool) × Int) (((List Bool)))) :=
 Option.bind (Jg a0 s2.2) fun (x6 : List Int) =>
 cond (decide (s3.2 < (x6.length : Int)))
   (Option.bind (Jg a0 s2.2) fun (x8 : List Int) =>
 Option.bind (Jg x8 s3.2) fun (x9 : Int) =>
 Option.bind (cond a2
   (Option.bind (Jg s3.1 x9) fun (x12 : Bool) =>
 Qt (Nat.beq (Enc.encL s3.1).length ((Enc.encL a1).length))
 (some x12))
   (some false)) (fun (v10 : Bool) => Option.bind (cond v10
   (Option.bind (Jg s3.1 s2.2) fun (x13 : Bool) =>
 Qt (Nat.beq (Enc.encL s3.1).length ((Enc.encL a1).length))
 (some (s3.1.set s2.2.toNat true)))
   (some s3.1)) (fun (v11 : (List Bool)) => Option.bind (cond (!a2)
   (Option.bind (Jg v11 s2.2) fun (x14 : Bool) =>
 Qt (Nat.beq (Enc.encL v11).length ((Enc.encL a1).length))
 (some x14))
   (some false)) (fun (v12 : Bool) => cond v12
   (Option.bind (Jg v11 x9) fun (x14 : Bool) =>
 Qt (Nat.beq (Enc.encL v11).length ((Enc.encL a1).length))
 (some (.next ((v11.set x9.toNat true), (J1 (s3.2 + 1))))))
   (some (.next (v11, (J1 (s3.2 + 1)))))))))
   (some (.done s3.1))
def Zf (a0 : List (List Int)) (a2 : Bool) (a1 : List Bool) (s2 : (List Bool) × Int) : Option (LO ((List Bool) × Int) (((List Bool)))) :=
 cond (decide (s2.2 < (a0.length : Int)))
   (Option.bind (Qv (YX a0 s2 a2 a1) QH (s2.1, 0)) (fun (o5 : (List Bool)) => some (.next (o5, (J1 (s2.2 + 1))))))
   (some (.done s2.1))
def ZO (a0 : List (List Int)) (a2 : Bool) (a1 : List Bool) (s1 : (List Bool) × Int) : Option (LO ((List Bool) × Int) (((List Bool)))) :=
 cond (decide (s1.2 < (a0.length : Int)))
   (Option.bind (Qv (Zf a0 a2 a1) QH (s1.1, 0)) (fun (o3 : (List Bool)) => some (.next (o3, (J1 (s1.2 + 1))))))
   (some (.done s1.1))
def Xf (a0 : List (List Int)) (a1 : List Bool) (a2 : Bool) : Option ((List Bool)) :=
 Option.bind (Qv (ZO a0 a2 a1) QH (a1, 0)) (fun (o1 : (List Bool)) => Qt (Nat.beq (Enc.encL o1).length ((Enc.encL a1).length))
 (some o1))
set_option maxRecDepth 100000 in
set_option maxHeartbeats 2000000 in
theorem m39f13_ok (a0 : List (List Int)) (a1 : List Bool) (a2 : Bool) (r : (List Bool)) (h0 : Xf a0 a1 a2 = some r) : CallM Try.prog 39 [.one (Ut a0), .one (.apv 0 1 ((Enc.encL a1).length) []), .one (Uw a2)] ⟨[], [(0, some ⟨4, 1, (Enc.encL a1).length, (Enc.encL a1).flatten⟩)], 1⟩ (Qy [.one (.apv 0 1 ((Enc.encL r).length) [])]) ⟨[], [(0, some ⟨4, 1, (Enc.encL r).length, (Enc.encL r).flatten⟩)], 1⟩ := by
 unfold Xf at h0
 refine QP ⟨[(6, .v (.one (.apv 0 1 ((Enc.encL r).length) [])))], [], [(0, some ⟨4, 1, (Enc.encL r).length, (Enc.encL r).flatten⟩)], 1, 59, []⟩ rfl rfl en_39 (Ug rfl) rfl (Qk rfl .nil) (fun w0 M V0 Q hv0 hQ0 => ?_)
 simp only [J8]
 refine Q2 <| Q0 <| U7 rfl rfl rfl <| Q3 <| Q1 <| Q2 <| Q2 <| Q0 <| U6 rfl rfl rfl <| U5 rfl rfl rfl (QB (α := List Int) Y1 rfl (.d _)) <| U6 rfl rfl rfl <| Q3 <| Q1 <| Qc ?_
 refine QF 0 (fun (o1 : (List Bool)) => ⟨[(1, .v (.one (.apv 0 1 ((Enc.encL a1).length) [])))], [], [(0, some ⟨4, 1, (Enc.encL a1).length, (Enc.encL o1).flatten⟩)], 1, 59, []⟩) (fun (o1 : (List Bool)) => (Qt (Nat.beq (Enc.encL o1).length ((Enc.encL a1).length))
   (some o1)) = some r) ?_ ?_
 refine Qb h0 (fun o2 hl1 h0 => ?_)
 refine QE (ZO a0 a2 a1) (fun s1 => ⟨[(0, .v (.one (Ut a0))), (1, .v (.one (.apv 0 1 ((Enc.encL a1).length) []))), (2, .v (.one (Uw a2))), (11, .v (.one (Uv (a0.length : Int)))), (12, .v (.one (Uv s1.2)))], [], [(0, some ⟨4, 1, (Enc.encL a1).length, (Enc.encL s1.1).flatten⟩)], 1, 59, []⟩) (a1, 0) o2 (Qf (U1 rfl (U1 rfl (U1 rfl (U1 rfl (U1 rfl U0))))) Ul (Ui rfl Uh) rfl (Nat.le_trans hv0 (Ug rfl)) rfl rfl rfl UB rfl rfl) hl1 (fun s1 n1 oo1 h1 ho1 => ?_)
 unfold ZO at h1
 refine Q2 <| Q0 <| U5 rfl rfl rfl (Q5 rfl rfl rfl) <| Q3 <| Q1 <| Q2 ?_
 refine Qe (b := (decide (s1.2 < (a0.length : Int)))) rfl (fun c3 => ?_) (fun c3 => ?_)
 replace h1 := Qm c3 h1
 refine Qg <| Q1 <| Q2 <| Qc <| Q2 <| Q0 <| U7 rfl rfl rfl <| Q3 <| Q1 <| Qc ?_
 refine QF 2 (fun (o4 : (List Bool)) => ⟨[(0, .v (.one (Ut a0))), (1, .v (.one (.apv 0 1 ((Enc.encL a1).length) []))), (2, .v (.one (Uw a2))), (11, .v (.one (Uv (a0.length : Int)))), (12, .v (.one (Uv s1.2)))], [], [(0, some ⟨4, 1, (Enc.encL a1).length, (Enc.encL o4).flatten⟩)], 1, 59, []⟩) (fun (o4 : (List Bool)) => (some (.next (o4, (J1 (s1.2 + 1))))) = some oo1) ?_ ?_
 refine Qb h1 (fun o5 hl2 h1 => ?_)
 refine QE (Zf a0 a2 a1) (fun s2 => ⟨[(0, .v (.one (Ut a0))), (1, .v (.one (.apv 0 1 ((Enc.encL a1).length) []))), (2, .v (.one (Uw a2))), (7, .v (.one (Uv s2.2))), (11, .v (.one (Uv (a0.length : Int)))), (12, .v (.one (Uv s1.2)))], [], [(0, some ⟨4, 1, (Enc.encL a1).length, (Enc.encL s2.1).flatten⟩)], 1, 59, []⟩) (s1.1, 0) o5 (Qf (U1 rfl (U1 rfl (U1 rfl (U1 rfl (U1 rfl (U1 rfl U0)))))) Ul (Ui rfl Uh) rfl (Nat.le_trans hv0 (Ug rfl)) rfl rfl rfl UB rfl rfl) hl2 (fun s2 n2 oo2 h2 ho2 => ?_)
 unfold Zf at h2
 refine Q2 <| Q2 <| Q0 <| U6 rfl rfl rfl <| U6 rfl rfl rfl <| U5 rfl rfl rfl (QB (α := List Int) Y1 rfl (.d _)) <| U5 rfl rfl rfl (Q5 rfl rfl rfl) <| Q3 <| Q1 ?_
 refine Qe (b := (decide (s2.2 < (a0.length : Int)))) rfl (fun c6 => ?_) (fun c6 => ?_)
 replace h2 := Qm c6 h2
 refine Qg <| Q1 <| Q2 <| Qc <| Q2 <| Q0 <| U7 rfl rfl rfl <| Q3 <| Q1 <| Qc ?_
 refine QF 4 (fun (o7 : (List Bool)) => ⟨[(0, .v (.one (Ut a0))), (1, .v (.one (.apv 0 1 ((Enc.encL a1).length) []))), (2, .v (.one (Uw a2))), (7, .v (.one (Uv s2.2))), (11, .v (.one (Uv (a0.length : Int)))), (12, .v (.one (Uv s1.2)))], [], [(0, some ⟨4, 1, (Enc.encL a1).length, (Enc.encL o7).flatten⟩)], 1, 59, []⟩) (fun (o7 : (List Bool)) => (some (.next (o7, (J1 (s2.2 + 1))))) = some oo2) ?_ ?_
 refine Qb h2 (fun o8 hl3 h2 => ?_)
 refine QE (YX a0 s2 a2 a1) (fun s3 => ⟨[(0, .v (.one (Ut a0))), (1, .v (.one (.apv 0 1 ((Enc.encL a1).length) []))), (2, .v (.one (Uw a2))), (7, .v (.one (Uv s2.2))), (8, .v (.one (Uv s3.2))), (11, .v (.one (Uv (a0.length : Int)))), (12, .v (.one (Uv s1.2)))], [], [(0, some ⟨4, 1, (Enc.encL a1).length, (Enc.encL s3.1).flatten⟩)], 1, 59, []⟩) (s2.1, 0) o8 (Qf (U1 rfl (U1 rfl (U1 rfl (U1 rfl (U1 rfl (U1 rfl (U1 rfl U0))))))) Ul (Ui rfl Uh) rfl (Nat.le_trans hv0 (Ug rfl)) rfl rfl rfl UB rfl rfl) hl3 (fun s3 n3 oo3 h3 ho3 => ?_)
 unfold YX at h3
 refine Q2 <| Q2 <| Q0 <| U6 rfl rfl rfl <| U6 rfl rfl rfl <| U6 rfl rfl rfl ?_
 refine Qb h3 (fun x9 hx9 h3 => ?_)
 refine U5 rfl rfl rfl (Qi (α := List Int) Y1 rfl (.d _) rfl hx9) <| U5 rfl rfl rfl (QI G8 rfl rfl) <| U5 rfl rfl rfl (QB (α := Int) JM rfl (.d _)) <| U5 rfl rfl rfl (Q5 rfl rfl rfl) <| Q3 <| Q1 ?_
 refine Qe (b := (decide (s3.2 < (x9.length : Int)))) rfl (fun c10 => ?_) (fun c10 => ?_)
 replace h3 := Qm c10 h3
 refine Qg <| Q1 <| Q2 <| Qc <| Q2 <| Q0 <| U6 rfl rfl rfl <| U6 rfl rfl rfl ?_
 refine Qb h3 (fun x11 hx11 h3 => ?_)
 refine U5 rfl rfl rfl (Qi (α := List Int) Y1 rfl (.d _) rfl hx11) <| U5 rfl rfl rfl (QI G8 rfl rfl) <| U6 rfl rfl rfl ?_
 refine Qb h3 (fun x12 hx12 h3 => ?_)
 refine U5 rfl rfl rfl (Qi (α := Int) JM rfl (.d _) rfl hx12) <| U5 rfl rfl rfl (QI Yx rfl rfl) <| U7 rfl rfl rfl <| Q3 <| Q1 <| Q2 <| Q2 ?_
 refine Ja (fun (v13 : Bool) => ⟨[(0, .v (.one (Ut a0))), (1, .v (.one (.apv 0 1 ((Enc.encL a1).length) []))), (2, .v (.one (Uw a2))), (7, .v (.one (Uv s2.2))), (8, .v (.one (Uv s3.2))), (9, .v (.one (Uv x12))), (11, .v (.one (Uv (a0.length : Int)))), (12, .v (.one (Uv s1.2))), (42, .v (.one (Uw v13)))], [], [(0, some ⟨4, 1, (Enc.encL a1).length, (Enc.encL s3.1).flatten⟩)], 1, 59, []⟩) (fun (v13 : Bool) => (Option.bind (cond v13
     (Option.bind (Jg s3.1 s2.2) fun (x16 : Bool) =>
   Qt (Nat.beq (Enc.encL s3.1).length ((Enc.encL a1).length))
   (some (s3.1.set s2.2.toNat true)))
     (some s3.1)) (fun (v14 : (List Bool)) => Option.bind (cond (!a2)
     (Option.bind (Jg v14 s2.2) fun (x17 : Bool) =>
   Qt (Nat.beq (Enc.encL v14).length ((Enc.encL a1).length))
   (some x17))
     (some false)) (fun (v15 : Bool) => cond v15
     (Option.bind (Jg v14 x12) fun (x17 : Bool) =>
   Qt (Nat.beq (Enc.encL v14).length ((Enc.encL a1).length))
   (some (.next ((v14.set x12.toNat true), (J1 (s3.2 + 1))))))
     (some (.next (v14, (J1 (s3.2 + 1)))))))) = some oo3) ?_ ?_
 refine Qb h3 (fun w4_ h4 h3 => ?_)
 refine Q0 <| U6 rfl rfl rfl <| U6 rfl rfl rfl ?_
 refine QV (d := 37) (c := a2) rfl (fun c14 => ?_) (fun c14 => ?_)
 replace h4 := Qm c14 h4
 refine U6 rfl rfl rfl <| U6 rfl rfl rfl ?_
 refine Qb h4 (fun x15 hx15 h4 => ?_)
 refine QQ h4 (fun g16 h4 => ?_)
 refine U5 rfl rfl rfl (Zl (α := Bool) (l := s3.1) YM rfl rfl rfl hx15 g16) <| U5 rfl rfl rfl (RO.loadPv (α := Bool) (l := s3.1) (v := x15) Kr rfl rfl hx15 g16 rfl) <| U5 rfl rfl rfl (Qo rfl rfl) <| Q3 ?_
 have e := U3 h4; subst e
 exact Qr x15 (Qf (U1 rfl (U1 rfl (U1 rfl (U1 rfl (U1 rfl (U1 rfl (U1 rfl (U1 rfl (U1 rfl U0))))))))) Ul (Ui rfl Uh) rfl (Nat.le_trans hv0 (Ug rfl)) rfl rfl rfl UB rfl rfl) h3
 replace h4 := Qn c14 h4
 refine Q8 rfl rfl <| Q8 rfl rfl <| Q8 rfl rfl <| Q8 rfl rfl <| U5 rfl rfl rfl (QG rfl rfl) <| Q3 ?_
 have e := U3 h4; subst e
 exact Qr false (Qf (U1 rfl (U1 rfl (U1 rfl (U1 rfl (U1 rfl (U1 rfl (U1 rfl (U1 rfl (U1 rfl U0))))))))) Ul (Ui rfl Uh) rfl (Nat.le_trans hv0 (Ug rfl)) rfl rfl rfl UB rfl rfl) h3
 intro v13 h3
 refine Q1 ?_
 refine Ja (fun (v17 : (List Bool)) => ⟨[(0, .v (.one (Ut a0))), (1, .v (.one (.apv 0 1 ((Enc.encL a1).length) []))), (2, .v (.one (Uw a2))), (7, .v (.one (Uv s2.2))), (8, .v (.one (Uv s3.2))), (9, .v (.one (Uv x12))), (11, .v (.one (Uv (a0.length : Int)))), (12, .v (.one (Uv s1.2)))], [], [(0, some ⟨4, 1, (Enc.encL a1).length, (Enc.encL v17).flatten⟩)], 1, 59, []⟩) (fun (v17 : (List Bool)) => (Option.bind (cond (!a2)
     (Option.bind (Jg v17 s2.2) fun (x20 : Bool) =>
   Qt (Nat.beq (Enc.encL v17).length ((Enc.encL a1).length))
   (some x20))
     (some false)) (fun (v18 : Bool) => cond v18
     (Option.bind (Jg v17 x12) fun (x20 : Bool) =>
   Qt (Nat.beq (Enc.encL v17).length ((Enc.encL a1).length))
   (some (.next ((v17.set x12.toNat true), (J1 (s3.2 + 1))))))
     (some (.next (v17, (J1 (s3.2 + 1))))))) = some oo3) ?_ ?_
 refine Qb h3 (fun w4_ h4 h3 => ?_)
 refine Qe (b := v13) rfl (fun c18 => ?_) (fun c18 => ?_)
 replace h4 := Qm c18 h4
 refine Q0 <| U6 rfl rfl rfl <| U6 rfl rfl rfl ?_
 refine Qb h4 (fun x19 hx19 h4 => ?_)
 refine QQ h4 (fun g20 h4 => ?_)
 refine U5 rfl rfl rfl (Zl (α := Bool) (l := s3.1) YM rfl rfl rfl hx19 g20) <| QL rfl rfl (OpOK.storePv (α := Bool) (l := s3.1) (y' := .one (Uw true)) true Kr rfl rfl (.one (.d _)) rfl rfl hx19 g20 rfl) <| Q3 ?_
 have e := U3 h4; subst e
 exact Qr (s3.1.set s2.2.toNat true) (Qf (U1 rfl (U1 rfl (U1 rfl (U1 rfl (U1 rfl (U1 rfl (U1 rfl (U1 rfl U0)))))))) Ul (Ui rfl Uh) rfl (Nat.le_trans hv0 (Ug rfl)) rfl rfl rfl UB rfl rfl) h3
 replace h4 := Qn c18 h4
 refine Qg ?_
 have e := U3 h4; subst e
 exact Qr s3.1 (Qf (U1 rfl (U1 rfl (U1 rfl (U1 rfl (U1 rfl (U1 rfl (U1 rfl (U1 rfl U0)))))))) Ul (Ui rfl Uh) rfl (Nat.le_trans hv0 (Ug rfl)) rfl rfl rfl UB rfl rfl) h3
 intro v17 h3
 refine Q1 <| Q2 ?_
 refine Ja (fun (v21 : Bool) => ⟨[(0, .v (.one (Ut a0))), (1, .v (.one (.apv 0 1 ((Enc.encL a1).length) []))), (2, .v (.one (Uw a2))), (7, .v (.one (Uv s2.2))), (8, .v (.one (Uv s3.2))), (9, .v (.one (Uv x12))), (11, .v (.one (Uv (a0.length : Int)))), (12, .v (.one (Uv s1.2))), (53, .v (.one (Uw v21)))], [], [(0, some ⟨4, 1, (Enc.encL a1).length, (Enc.encL v17).flatten⟩)], 1, 59, []⟩) (fun (v21 : Bool) => (cond v21
     (Option.bind (Jg v17 x12) fun (x23 : Bool) =>
   Qt (Nat.beq (Enc.encL v17).length ((Enc.encL a1).length))
   (some (.next ((v17.set x12.toNat true), (J1 (s3.2 + 1))))))
     (some (.next (v17, (J1 (s3.2 + 1)))))) = some oo3) ?_ ?_
 refine Qb h3 (fun w4_ h4 h3 => ?_)
 refine Q0 <| U6 rfl rfl rfl <| U5 rfl rfl rfl (J9 rfl) <| U6 rfl rfl rfl ?_
 refine QV (d := 48) (c := (!a2)) rfl (fun c22 => ?_) (fun c22 => ?_)
 replace h4 := Qm c22 h4
 refine U6 rfl rfl rfl <| U6 rfl rfl rfl ?_
 refine Qb h4 (fun x23 hx23 h4 => ?_)
 refine QQ h4 (fun g24 h4 => ?_)
 refine U5 rfl rfl rfl (Zl (α := Bool) (l := v17) YM rfl rfl rfl hx23 g24) <| U5 rfl rfl rfl (RO.loadPv (α := Bool) (l := v17) (v := x23) Kr rfl rfl hx23 g24 rfl) <| U5 rfl rfl rfl (Qo rfl rfl) <| Q3 ?_
 have e := U3 h4; subst e
 exact Qr x23 (Qf (U1 rfl (U1 rfl (U1 rfl (U1 rfl (U1 rfl (U1 rfl (U1 rfl (U1 rfl (U1 rfl U0))))))))) Ul (Ui rfl Uh) rfl (Nat.le_trans hv0 (Ug rfl)) rfl rfl rfl UB rfl rfl) h3
 replace h4 := Qn c22 h4
 refine Q8 rfl rfl <| Q8 rfl rfl <| Q8 rfl rfl <| Q8 rfl rfl <| U5 rfl rfl rfl (QG rfl rfl) <| Q3 ?_
 have e := U3 h4; subst e
 exact Qr false (Qf (U1 rfl (U1 rfl (U1 rfl (U1 rfl (U1 rfl (U1 rfl (U1 rfl (U1 rfl (U1 rfl U0))))))))) Ul (Ui rfl Uh) rfl (Nat.le_trans hv0 (Ug rfl)) rfl rfl rfl UB rfl rfl) h3
 intro v21 h3
 refine Q1 ?_
 refine Qe (b := v21) rfl (fun c25 => ?_) (fun c25 => ?_)
 replace h3 := Qm c25 h3
 refine Q0 <| U6 rfl rfl rfl <| U6 rfl rfl rfl ?_
 refine Qb h3 (fun x26 hx26 h3 => ?_)
 refine QQ h3 (fun g27 h3 => ?_)
 refine U5 rfl rfl rfl (Zl (α := Bool) (l := v17) YM rfl rfl rfl hx26 g27) <| QL rfl rfl (OpOK.storePv (α := Bool) (l := v17) (y' := .one (Uw true)) true Kr rfl rfl (.one (.d _)) rfl rfl hx26 g27 rfl) <| Q3 <| Qh <| Q1 <| Q0 <| U6 rfl rfl rfl <| U5 rfl rfl rfl (Q5 rfl rfl rfl) <| U7 rfl rfl rfl <| Q3 ?_
 have e := U3 h3; subst e
 refine QA ((v17.set x12.toNat true), (J1 (s3.2 + 1))) (Qf (U1 rfl (U1 rfl (U1 rfl (U1 rfl (U1 rfl (U1 rfl (U1 rfl U0))))))) Ul (Ui rfl Uh) rfl (Nat.le_trans hv0 (Ug rfl)) rfl rfl rfl UB rfl rfl) ho3
 replace h3 := Qn c25 h3
 refine Qg <| Qh <| Q1 <| Q0 <| U6 rfl rfl rfl <| U5 rfl rfl rfl (Q5 rfl rfl rfl) <| U7 rfl rfl rfl <| Q3 ?_
 have e := U3 h3; subst e
 refine QA (v17, (J1 (s3.2 + 1))) (Qf (U1 rfl (U1 rfl (U1 rfl (U1 rfl (U1 rfl (U1 rfl (U1 rfl U0))))))) Ul (Ui rfl Uh) rfl (Nat.le_trans hv0 (Ug rfl)) rfl rfl rfl UB rfl rfl) ho3
 replace h3 := Qn c10 h3
 refine QJ <| Qd <| Qd ?_
 have e := U3 h3; subst e
 have e_ : _ = _ := ho3
 subst e_
 exact QD s3.1 (Qf (U1 rfl (U1 rfl (U1 rfl (U1 rfl (U1 rfl (U1 rfl U0)))))) Ul (Ui rfl Uh) rfl (Nat.le_trans hv0 (Ug rfl)) rfl rfl rfl UB rfl rfl) h2
 intro o7 h2
 refine Qu <| Qh <| Q1 <| Q0 <| U6 rfl rfl rfl <| U5 rfl rfl rfl (Q5 rfl rfl rfl) <| U7 rfl rfl rfl <| Q3 ?_
 have e := U3 h2; subst e
 refine QA (o7, (J1 (s2.2 + 1))) (Qf (U1 rfl (U1 rfl (U1 rfl (U1 rfl (U1 rfl (U1 rfl U0)))))) Ul (Ui rfl Uh) rfl (Nat.le_trans hv0 (Ug rfl)) rfl rfl rfl UB rfl rfl) ho2
 replace h2 := Qn c6 h2
 refine QJ <| Qd <| Qd ?_
 have e := U3 h2; subst e
 have e_ : _ = _ := ho2
 subst e_
 exact QD s2.1 (Qf (U1 rfl (U1 rfl (U1 rfl (U1 rfl (U1 rfl U0))))) Ul (Ui rfl Uh) rfl (Nat.le_trans hv0 (Ug rfl)) rfl rfl rfl UB rfl rfl) h1
 intro o4 h1
 refine Qu <| Qh <| Q1 <| Q0 <| U5 rfl rfl rfl (Q5 rfl rfl rfl) <| U6 rfl rfl rfl <| Q3 ?_
 have e := U3 h1; subst e
 refine QA (o4, (J1 (s1.2 + 1))) (Qf (U1 rfl (U1 rfl (U1 rfl (U1 rfl (U1 rfl U0))))) Ul (Ui rfl Uh) rfl (Nat.le_trans hv0 (Ug rfl)) rfl rfl rfl UB rfl rfl) ho1
 replace h1 := Qn c3 h1
 refine QJ <| Qd <| Qd ?_
 have e := U3 h1; subst e
 have e_ : _ = _ := ho1
 subst e_
 exact QD s1.1 (Qf (U1 rfl U0) Ul (Ui rfl Uh) rfl (Nat.le_trans hv0 (Ug rfl)) rfl rfl rfl UB rfl rfl) h0
 intro o1 h0
 refine Qu <| Q1 <| Q2 <| Q0 <| U6 rfl rfl rfl <| U7 rfl rfl rfl <| Q3 <| Q1 <| Qz ?_
 refine QQ h0 (fun g28 h0 => ?_)
 have e := U3 h0; subst e
 refine XQ.retieT (α := Bool) (t := 6) (l := o1) rfl rfl g28 ?_
 exact hQ0 _ _ _ (.inr rfl) rfl (Qf (U1 rfl U0) Ul (Ui rfl Uh) rfl (Nat.le_trans hv0 (Ug rfl)) rfl rfl rfl UB rfl rfl)
def m16_l0 (a0 : List Dcl) (s2 : (List Bool) × Int) : Option (LO ((List Bool) × Int) (((List Bool)))) :=
 cond (decide (s2.2 < (a0.length : Int)))
   (Qt (Nat.ble (s2.1.length + ([false]).length) 1000000000)
 (some (.next ((s2.1 ++ ([false])), (J1 (s2.2 + 1))))))
   (some (.done s2.1))
def XG (a1 : List UN) (a0 : List Dcl) (o7 : (List Bool)) (s2 : (List Bool) × Int) : Option (LO ((List Bool) × Int) (((List Bool)) ⊕ (Unit ⊕ ((List Bool))))) :=
 cond (decide (s2.2 < (a1.length : Int)))
   (Option.bind (Jg a1 s2.2) fun (x10 : UN) =>
 Option.bind (WE a0 x10) fun (x11 : Int) =>
 cond (decide (x11 < 0))
   (some (.done (.inr (.inl ()))))
   (Option.bind (Jg s2.1 x11) fun (x13 : Bool) =>
 Qt (Nat.beq (Enc.encL s2.1).length ((Enc.encL o7).length))
 (some (.next ((s2.1.set x11.toNat true), (J1 (s2.2 + 1)))))))
   (some (.done (.inl s2.1)))
def Xi (a0 : List Dcl) (x20 : (List Bool)) (s1 : (List Dcl) × Int) : Option (LO ((List Dcl) × Int) (((List Dcl)))) :=
 cond (decide (s1.2 < (a0.length : Int)))
   (Option.bind (Jg x20 s1.2) fun (x23 : Bool) =>
 cond x23
   (Option.bind (Jg a0 s1.2) fun (x25 : Dcl) =>
 Qt (Nat.ble (s1.1.length + ([x25]).length) 1000000000)
 (some (.next ((s1.1 ++ ([x25])), (J1 (s1.2 + 1))))))
   (some (.next (s1.1, (J1 (s1.2 + 1))))))
   (some (.done s1.1))
def WM (a0 : List Dcl) (a1 : List UN) : Option ((List Dcl) × Int) :=
 Option.bind (WC a0) fun (x1 : (List (List Int)) × Int) =>
 cond (x1.2 != 0)
   (some (([] : List Dcl), x1.2))
   (Option.bind (Option.bind (Qv (m16_l0 a0) QH (([] : List Bool), 0)) (fun (o7 : (List Bool)) => Option.bind (Qv (XG a1 a0 o7) QH (o7, 0)) (Sum.elim (fun (o8 : (List Bool)) => Qt (Nat.beq (Enc.encL o8).length ((Enc.encL o7).length))
 (some (.inr o8))) (fun o => some o)))) (Sum.elim (fun (y3 : Unit) => some (([] : List Dcl), 9)) (fun (y4 : (List Bool)) => Option.bind (Xf x1.1 y4 false) fun (x20 : (List Bool)) =>
 Option.bind (Qv (Xi a0 x20) QH (([] : List Dcl), 0)) (fun (o21 : (List Dcl)) => some (o21, 0)))))
set_option maxRecDepth 100000 in
set_option maxHeartbeats 2000000 in
theorem m16_ok (a0 : List Dcl) (a1 : List UN) (r : (List Dcl) × Int) (h0 : WM a0 a1 = some r) : Fun Try.prog 16 [.one (Ut a0), .one (Ut a1)] (Qy [.one (Ut r.1), .one (Uv r.2)]) := by
 unfold WM at h0
 refine QS 9 49 Try.func16 rfl en_16 rfl (Ug rfl) (fun S w => ?_)
 simp only [J8]
 refine Q2 <| Q0 <| U7 rfl rfl rfl <| U7 rfl rfl rfl <| Q3 <| Q1 <| Q2 <| Q0 <| U6 rfl rfl rfl ?_
 refine Qb h0 (fun x1 hx1 h0 => ?_)
 refine Q9 rfl rfl (Ug rfl) (Ql (m25_ok a0 x1 hx1) rfl (.cons (.one (.d _)) .nil)) <| U6 rfl rfl rfl <| U5 rfl rfl rfl (Qp rfl rfl) <| U5 rfl rfl rfl (Qp rfl rfl) <| U7 rfl rfl rfl <| U7 rfl rfl rfl <| Q3 <| Q1 <| Q2 <| Q2 <| Q0 <| U6 rfl rfl rfl <| U5 rfl rfl rfl (Q5 rfl rfl rfl) <| Q3 ?_
 refine Q1 ?_
 refine Qe (b := (x1.2 != 0)) rfl (fun c2 => ?_) (fun c2 => ?_)
 replace h0 := Qm c2 h0
 refine Q2 <| Q0 <| U6 rfl rfl rfl <| U7 rfl rfl rfl <| U7 rfl rfl rfl <| Q3 <| Q1 <| Qz ?_
 have e := U3 h0; subst e
 exact QK (fun _ _ h => h) rfl (Qk rfl (Qk rfl .nil)) (.cons (.one (.nil _)) (.cons (.one (.d _)) .nil))
 replace h0 := Qn c2 h0
 refine Qg <| Q1 <| Q2 <| Q0 <| U6 rfl rfl rfl <| U6 rfl rfl rfl ?_
 refine Qb h0 (fun y6 h1 h0 => ?_)
 have hc5 : CallM Try.prog 38 [.one (Ut a0), .one (Ut a1)] ⟨[], [], 0⟩ (Qy (((Sum.elim (fun (y3 : Unit) => ([.one (Uu), .one (Uv 9)] : List AV)) (fun (y4 : (List Bool)) => ([.one (.apv 0 1 ((Enc.encL y4).length) []), .one (Uv 0)] : List AV)))) y6)) ⟨(((Sum.elim (fun (y3 : Unit) => (⟨[(4, .v (.one (Uu))), (5, .v (.one (Uv 9)))], [], [], 1, 35, []⟩ : St)) (fun (y4 : (List Bool)) => (⟨[(4, .v (.one (.apv 0 1 ((Enc.encL y4).length) []))), (5, .v (.one (Uv 0)))], [], [(0, some ⟨4, 1, (Enc.encL y4).length, (Enc.encL y4).flatten⟩)], 1, 35, []⟩ : St)))) y6).hp, (((Sum.elim (fun (y3 : Unit) => (⟨[(4, .v (.one (Uu))), (5, .v (.one (Uv 9)))], [], [], 1, 35, []⟩ : St)) (fun (y4 : (List Bool)) => (⟨[(4, .v (.one (.apv 0 1 ((Enc.encL y4).length) []))), (5, .v (.one (Uv 0)))], [], [(0, some ⟨4, 1, (Enc.encL y4).length, (Enc.encL y4).flatten⟩)], 1, 35, []⟩ : St)))) y6).tk, (((Sum.elim (fun (y3 : Unit) => (⟨[(4, .v (.one (Uu))), (5, .v (.one (Uv 9)))], [], [], 1, 35, []⟩ : St)) (fun (y4 : (List Bool)) => (⟨[(4, .v (.one (.apv 0 1 ((Enc.encL y4).length) []))), (5, .v (.one (Uv 0)))], [], [(0, some ⟨4, 1, (Enc.encL y4).length, (Enc.encL y4).flatten⟩)], 1, 35, []⟩ : St)))) y6).nx⟩ := by
  refine JN y6 ((Sum.elim (fun (y3 : Unit) => (⟨[(4, .v (.one (Uu))), (5, .v (.one (Uv 9)))], [], [], 1, 35, []⟩ : St)) (fun (y4 : (List Bool)) => (⟨[(4, .v (.one (.apv 0 1 ((Enc.encL y4).length) []))), (5, .v (.one (Uv 0)))], [], [(0, some ⟨4, 1, (Enc.encL y4).length, (Enc.encL y4).flatten⟩)], 1, 35, []⟩ : St)))) ((Sum.elim (fun (y3 : Unit) => ([.one (Uu), .one (Uv 9)] : List AV)) (fun (y4 : (List Bool)) => ([.one (.apv 0 1 ((Enc.encL y4).length) []), .one (Uv 0)] : List AV)))) rfl rfl en_38 (Ug rfl) (fun z_ => by cases z_ <;> rfl) (fun z_ => by cases z_ with
    | inl _ => exact (Qk rfl (Qk rfl .nil))
    | inr _ => exact (Qk rfl (Qk rfl .nil))) (fun w0 M V0 Q hv1 hQ1 => ?_)
  simp only [J8]
  refine Q2 <| Q0 <| U7 rfl rfl rfl <| U7 rfl rfl rfl <| Q3 <| Q1 <| Q2 <| Q0 <| U7 rfl rfl rfl <| Q3 <| Q1 <| Q2 <| Q2 <| Q0 ?_
  refine U6 rfl rfl rfl <| U5 rfl rfl rfl (QB (α := Dcl) Jm rfl (.d _)) <| U6 rfl rfl rfl <| Q3 <| Q1 <| Qc ?_
  refine QF 0 (fun (o7 : (List Bool)) => ⟨[(0, .v (.one (Ut a0))), (1, .v (.one (Ut a1))), (6, .v (.one (.apv 0 1 ((Enc.encL o7).length) [])))], [], [(0, some ⟨4, 1, (Enc.encL o7).length, (Enc.encL o7).flatten⟩)], 1, 35, []⟩) (fun (o7 : (List Bool)) => (Option.bind (Qv (XG a1 a0 o7) QH (o7, 0)) (Sum.elim (fun (o8 : (List Bool)) => Qt (Nat.beq (Enc.encL o8).length ((Enc.encL o7).length))
    (some (.inr o8))) (fun o => some o))) = some y6) ?_ ?_
  refine JD (t := 6) 4 1 rfl <| Kt (α := Bool) (t := 6) rfl rfl ?_
  refine Qb h1 (fun o8 hl2 h1 => ?_)
  refine QE (m16_l0 a0) (fun s2 => ⟨[(0, .v (.one (Ut a0))), (1, .v (.one (Ut a1))), (6, .v (.one (.apv 0 1 ((Enc.encL s2.1).length) []))), (10, .v (.one (Uv (a0.length : Int)))), (11, .v (.one (Uv s2.2)))], [], [(0, some ⟨4, 1, (Enc.encL s2.1).length, (Enc.encL s2.1).flatten⟩)], 1, 35, []⟩) (([] : List Bool), 0) o8 (Qf (U1 rfl (U1 rfl (U1 rfl (U1 rfl (U1 rfl U0))))) Ul (Ui rfl Uh) rfl (Nat.le_trans hv1 (Ug rfl)) rfl rfl rfl UB rfl rfl) hl2 (fun s2 n2 oo2 h2 ho2 => ?_)
  unfold m16_l0 at h2
  refine Q2 <| Q0 <| U5 rfl rfl rfl (Q5 rfl rfl rfl) <| Q3 <| Q1 <| Q2 ?_
  refine Qe (b := (decide (s2.2 < (a0.length : Int)))) rfl (fun c9 => ?_) (fun c9 => ?_)
  replace h2 := Qm c9 h2
  refine Qg <| Q1 <| Q2 <| Qc <| Q0 <| U6 rfl rfl rfl <| Q9 rfl rfl (Ug rfl) (QZ (α := Bool) (false) YM WS rfl rfl (Ug rfl) (Ug rfl) rfl rfl (.cons (.d _) .nil) rfl) ?_
  refine QQ h2 (fun g10 h2 => ?_)
  refine Q9 rfl rfl (Ug rfl) (YC (α := Bool) (l := s2.1) (l2 := ([false] : List Bool)) YM Wx rfl rfl rfl rfl (.app _ _) rfl g10) <| U7 rfl rfl rfl <| Q3 <| Qh <| Q1 <| Q0 <| U5 rfl rfl rfl (Q5 rfl rfl rfl) <| U6 rfl rfl rfl <| Q3 ?_
  have e := U3 h2; subst e
  refine QA ((s2.1 ++ ([false])), (J1 (s2.2 + 1))) (Qf (U1 rfl (U1 rfl (U1 rfl (U1 rfl (U1 rfl U0))))) Ul (Ui rfl Uh) rfl (Nat.le_trans hv1 (Ug rfl)) rfl rfl rfl UB rfl rfl) ho2
  replace h2 := Qn c9 h2
  refine QJ <| Qd <| Qd ?_
  have e := U3 h2; subst e
  have e_ : _ = _ := ho2
  subst e_
  exact QD s2.1 (Qf (U1 rfl (U1 rfl (U1 rfl U0))) Ul (Ui rfl Uh) rfl (Nat.le_trans hv1 (Ug rfl)) rfl rfl rfl UB rfl rfl) h1
  intro o7 h1
  refine Qu <| Q1 <| Q2 <| Q2 <| Q0 <| U7 rfl rfl rfl <| Q3 <| Q1 <| Qc ?_
  refine QF 2 (fun (o11 : (List Bool)) => ⟨[(6, .v (.one (.apv 0 1 ((Enc.encL o7).length) [])))], [], [(0, some ⟨4, 1, (Enc.encL o7).length, (Enc.encL o11).flatten⟩)], 1, 35, []⟩) (fun (o11 : (List Bool)) => (Qt (Nat.beq (Enc.encL o11).length ((Enc.encL o7).length))
    (some (.inr o11))) = some y6) ?_ ?_
  refine Qb h1 (fun o12 hl2 h1 => ?_)
  refine QE (XG a1 a0 o7) (fun s2 => ⟨[(0, .v (.one (Ut a0))), (1, .v (.one (Ut a1))), (6, .v (.one (.apv 0 1 ((Enc.encL o7).length) []))), (7, .v (.one (Uv s2.2)))], [], [(0, some ⟨4, 1, (Enc.encL o7).length, (Enc.encL s2.1).flatten⟩)], 1, 35, []⟩) (o7, 0) o12 (Qf (U1 rfl (U1 rfl (U1 rfl (U1 rfl U0)))) Ul (Ui rfl Uh) rfl (Nat.le_trans hv1 (Ug rfl)) rfl rfl rfl UB rfl rfl) hl2 (fun s2 n2 oo2 h2 ho2 => ?_)
  unfold XG at h2
  refine Q2 <| Q2 <| Q0 <| U6 rfl rfl rfl <| U6 rfl rfl rfl <| U5 rfl rfl rfl (QB (α := UN) QU rfl (.d _)) <| U5 rfl rfl rfl (Q5 rfl rfl rfl) <| Q3 <| Q1 ?_
  refine Qe (b := (decide (s2.2 < (a1.length : Int)))) rfl (fun c13 => ?_) (fun c13 => ?_)
  replace h2 := Qm c13 h2
  refine Qg <| Q1 <| Q2 <| Qc <| Q2 <| Q0 <| U6 rfl rfl rfl <| U6 rfl rfl rfl <| U6 rfl rfl rfl ?_
  refine Qb h2 (fun x14 hx14 h2 => ?_)
  refine U5 rfl rfl rfl (Qi (α := UN) QU rfl (.d _) rfl hx14) <| U5 rfl rfl rfl (QI JG rfl rfl) ?_
  refine Qb h2 (fun x15 hx15 h2 => ?_)
  refine Q9 rfl rfl (Ug rfl) (Ql (m48_ok a0 x14 x15 hx15) rfl (.cons (.one (.d _)) (.cons (.one (.d _)) .nil))) <| U7 rfl rfl rfl <| Q3 <| Q1 <| Q2 <| Q2 <| Q0 <| U6 rfl rfl rfl <| U5 rfl rfl rfl (Q5 rfl rfl rfl) <| Q3 <| Q1 ?_
  refine Qe (b := (decide (x15 < 0))) rfl (fun c16 => ?_) (fun c16 => ?_)
  replace h2 := Qm c16 h2
  refine Q2 <| Q0 <| U7 rfl rfl rfl <| U7 rfl rfl rfl <| Q3 <| Q1 <| Qz ?_
  have e := U3 h2; subst e
  have e_ : _ = _ := ho2
  subst e_
  try dsimp only [Sum.elim_inl, Sum.elim_inr] at h1
  have e := U3 h1; subst e
  exact hQ1 _ _ _ (.inr rfl) rfl (show StLe _ _ ⟨[(4, .v (.one (Uu))), (5, .v (.one (Uv 9)))], [], [], 1, 35, []⟩ from (Qf (U1 rfl (U1 rfl U0)) Ul Uh rfl (Nat.le_trans hv1 (Ug rfl)) rfl rfl rfl UB rfl rfl))
  replace h2 := Qn c16 h2
  refine Qg <| Q1 <| Q0 <| U6 rfl rfl rfl <| U6 rfl rfl rfl ?_
  refine Qb h2 (fun x17 hx17 h2 => ?_)
  refine QQ h2 (fun g18 h2 => ?_)
  refine U5 rfl rfl rfl (Zl (α := Bool) (l := s2.1) YM rfl rfl rfl hx17 g18) <| QL rfl rfl (OpOK.storePv (α := Bool) (l := s2.1) (y' := .one (Uw true)) true Kr rfl rfl (.one (.d _)) rfl rfl hx17 g18 rfl) <| Q3 <| Qh <| Q1 <| Q0 <| U6 rfl rfl rfl <| U5 rfl rfl rfl (Q5 rfl rfl rfl) <| U7 rfl rfl rfl <| Q3 ?_
  have e := U3 h2; subst e
  refine QA ((s2.1.set x15.toNat true), (J1 (s2.2 + 1))) (Qf (U1 rfl (U1 rfl (U1 rfl (U1 rfl U0)))) Ul (Ui rfl Uh) rfl (Nat.le_trans hv1 (Ug rfl)) rfl rfl rfl UB rfl rfl) ho2
  replace h2 := Qn c13 h2
  refine QJ <| Qd <| Qd ?_
  have e := U3 h2; subst e
  have e_ : _ = _ := ho2
  subst e_
  exact QD s2.1 (Qf (U1 rfl U0) Ul (Ui rfl Uh) rfl (Nat.le_trans hv1 (Ug rfl)) rfl rfl rfl UB rfl rfl) h1
  intro o11 h1
  refine Qu <| Q1 <| Q2 <| Q0 <| U6 rfl rfl rfl <| U7 rfl rfl rfl <| U7 rfl rfl rfl <| Q3 <| Q1 <| Qz ?_
  refine QQ h1 (fun g19 h1 => ?_)
  have e := U3 h1; subst e
  refine XQ.retieT (α := Bool) (t := 4) (l := o11) rfl rfl g19 ?_
  exact hQ1 _ _ _ (.inr rfl) rfl (show StLe _ _ ⟨[(4, .v (.one (.apv 0 1 ((Enc.encL o11).length) []))), (5, .v (.one (Uv 0)))], [], [(0, some ⟨4, 1, (Enc.encL o11).length, (Enc.encL o11).flatten⟩)], 1, 35, []⟩ from (Qf (U1 rfl (U1 rfl U0)) Ul (Ui rfl Uh) rfl (Nat.le_trans hv1 (Ug rfl)) rfl rfl rfl UB rfl rfl))
 refine GK (C := fun q_ => CallM Try.prog 38 [.one (Ut a0), .one (Ut a1)] ⟨[], [], 0⟩ (Qy (((Sum.elim (fun (y3 : Unit) => ([.one (Uu), .one (Uv 9)] : List AV)) (fun (y4 : (List Bool)) => ([.one (.apv 0 1 ((Enc.encL y4).length) []), .one (Uv 0)] : List AV)))) q_)) ⟨(((Sum.elim (fun (y3 : Unit) => (⟨[(4, .v (.one (Uu))), (5, .v (.one (Uv 9)))], [], [], 1, 35, []⟩ : St)) (fun (y4 : (List Bool)) => (⟨[(4, .v (.one (.apv 0 1 ((Enc.encL y4).length) []))), (5, .v (.one (Uv 0)))], [], [(0, some ⟨4, 1, (Enc.encL y4).length, (Enc.encL y4).flatten⟩)], 1, 35, []⟩ : St)))) q_).hp, (((Sum.elim (fun (y3 : Unit) => (⟨[(4, .v (.one (Uu))), (5, .v (.one (Uv 9)))], [], [], 1, 35, []⟩ : St)) (fun (y4 : (List Bool)) => (⟨[(4, .v (.one (.apv 0 1 ((Enc.encL y4).length) []))), (5, .v (.one (Uv 0)))], [], [(0, some ⟨4, 1, (Enc.encL y4).length, (Enc.encL y4).flatten⟩)], 1, 35, []⟩ : St)))) q_).tk, (((Sum.elim (fun (y3 : Unit) => (⟨[(4, .v (.one (Uu))), (5, .v (.one (Uv 9)))], [], [], 1, 35, []⟩ : St)) (fun (y4 : (List Bool)) => (⟨[(4, .v (.one (.apv 0 1 ((Enc.encL y4).length) []))), (5, .v (.one (Uv 0)))], [], [(0, some ⟨4, 1, (Enc.encL y4).length, (Enc.encL y4).flatten⟩)], 1, 35, []⟩ : St)))) q_).nx⟩) hc5 h0 (fun y3 hc5 h0 => ?_) (fun y4 hc5 h0 => ?_)
 replace hc5 : CallM Try.prog 38 [.one (Ut a0), .one (Ut a1)] ⟨[], [], 0⟩ (Qy [.one (Uu), .one (Uv 9)]) ⟨[], [], 1⟩ := hc5
 refine Q9 rfl rfl (Ug rfl) (J4 rfl rfl rfl hc5 rfl Ul Uh) <| U6 rfl rfl rfl <| U5 rfl rfl rfl (Qp rfl rfl) <| U5 rfl rfl rfl (Qp rfl rfl) <| U7 rfl rfl rfl <| U7 rfl rfl rfl <| Q3 <| Q1 <| Q2 <| Q2 <| Q0 <| U6 rfl rfl rfl <| U5 rfl rfl rfl (Q5 rfl rfl rfl) <| Q3 ?_
 refine Q1 ?_
 refine Qe rfl (fun _ => ?_) (fun h => nomatch h)
 refine Q2 <| Q0 <| U6 rfl rfl rfl <| U7 rfl rfl rfl <| U7 rfl rfl rfl <| Q3 <| Q1 <| Qz ?_
 have e := U3 h0; subst e
 exact QK (fun _ _ h => h) rfl (Qk rfl (Qk rfl .nil)) (.cons (.one (.nil _)) (.cons (.one (.d _)) .nil))
 replace hc5 : CallM Try.prog 38 [.one (Ut a0), .one (Ut a1)] ⟨[], [], 0⟩ (Qy [.one (.apv 0 1 ((Enc.encL y4).length) []), .one (Uv 0)]) ⟨[], [(0, some ⟨4, 1, (Enc.encL y4).length, (Enc.encL y4).flatten⟩)], 1⟩ := hc5
 refine Q9 rfl rfl (Ug rfl) (J4 rfl rfl rfl hc5 rfl Ul Uh) <| U6 rfl rfl rfl <| U5 rfl rfl rfl (Qp rfl rfl) <| U5 rfl rfl rfl (Qp rfl rfl) <| U7 rfl rfl rfl <| U7 rfl rfl rfl <| Q3 <| Q1 <| Q2 <| Q2 <| Q0 <| U6 rfl rfl rfl <| U5 rfl rfl rfl (Q5 rfl rfl rfl) <| Q3 ?_
 refine Q1 ?_
 refine Qe rfl (fun h => nomatch h) (fun _ => ?_)
 refine Qg <| Q1 <| Q2 <| Q0 <| U6 rfl rfl rfl <| U6 rfl rfl rfl ?_
 refine Qb h0 (fun x20 hx20 h0 => ?_)
 refine Q9 rfl rfl (Ug rfl) (QW (hp1' := []) (tk1' := [(0, some ⟨4, 1, (Enc.encL x20).length, (Enc.encL x20).flatten⟩)]) (hpF := []) (tkF := []) (res2 := Qy [.one (.apv 0 1 ((Enc.encL x20).length) [])]) (nx2 := 1) [0] rfl rfl (m39f13_ok x1.1 y4 false x20 hx20) rfl rfl U8 rfl rfl Uo (Uk rfl Uj) Ul Uh rfl rfl rfl rfl rfl UB rfl rfl rfl rfl) <| U7 rfl rfl rfl <| Q3 <| Q1 <| Q2 <| Q0 <| U7 rfl rfl rfl <| Q3 <| Q1 <| Q2 <| Q2 <| Q0 <| U7 rfl rfl rfl <| Q3 ?_
 refine Q1 <| Qc ?_
 refine QF 0 (fun (o21 : (List Dcl)) => ⟨[(9, .v (.one (Ux 1 o21)))], [], [(0, some ⟨4, 1, (Enc.encL x20).length, (Enc.encL x20).flatten⟩), (1, some ⟨48, 23, (Enc.encL o21).length, []⟩)], 2, 49, []⟩) (fun (o21 : (List Dcl)) => (some (o21, 0)) = some r) ?_ ?_
 refine JD (t := 9) 48 23 rfl ?_
 refine Qb h0 (fun o22 hl1 h0 => ?_)
 refine QE (Xi a0 x20) (fun s1 => ⟨[(0, .v (.one (Ut a0))), (8, .v (.one (.apv 0 1 ((Enc.encL x20).length) []))), (9, .v (.one (Ux 1 s1.1))), (10, .v (.one (Uv s1.2)))], [], [(0, some ⟨4, 1, (Enc.encL x20).length, (Enc.encL x20).flatten⟩), (1, some ⟨48, 23, (Enc.encL s1.1).length, []⟩)], 2, 49, []⟩) (([] : List Dcl), 0) o22 (Qf (U1 rfl (U1 rfl (U1 rfl (U1 rfl U0)))) Ul (Ui rfl (Ui rfl Uh)) rfl (Nat.zero_le _) rfl rfl rfl UB rfl rfl) hl1 (fun s1 n1 oo1 h1 ho1 => ?_)
 unfold Xi at h1
 refine Q2 <| Q2 <| Q0 <| U6 rfl rfl rfl <| U6 rfl rfl rfl <| U5 rfl rfl rfl (QB (α := Dcl) Jm rfl (.d _)) <| U5 rfl rfl rfl (Q5 rfl rfl rfl) <| Q3 <| Q1 ?_
 refine Qe (b := (decide (s1.2 < (a0.length : Int)))) rfl (fun c23 => ?_) (fun c23 => ?_)
 replace h1 := Qm c23 h1
 refine Qg <| Q1 <| Q2 <| Qc <| Q2 <| Q0 <| U6 rfl rfl rfl <| U6 rfl rfl rfl ?_
 refine Qb h1 (fun x24 hx24 h1 => ?_)
 refine U5 rfl rfl rfl (Zl (α := Bool) (l := x20) YM rfl rfl rfl hx24 (by simp)) ?_
 refine U5 rfl rfl rfl (RO.loadPv (α := Bool) (l := x20) (v := x24) Kr rfl rfl hx24 (by simp) rfl) ?_
 refine Q3 <| Q1 ?_
 refine Qe (b := x24) rfl (fun c25 => ?_) (fun c25 => ?_)
 replace h1 := Qm c25 h1
 refine Q0 <| U6 rfl rfl rfl <| U6 rfl rfl rfl <| U6 rfl rfl rfl ?_
 refine Qb h1 (fun x26 hx26 h1 => ?_)
 refine U5 rfl rfl rfl (Qi (α := Dcl) Jm rfl (.d _) rfl hx26) <| U5 rfl rfl rfl (QN (x26 : Dcl) Jt rfl) <| Q9 rfl rfl (Ug rfl) (OpOK.lit1CE (x26 : Dcl) Jm KJ rfl rfl (Ug rfl) rfl) ?_
 refine QQ h1 (fun g27 h1 => ?_)
 refine Q9 rfl rfl (Ug rfl) (QO (α := Dcl) Jm el_48 rfl rfl rfl rfl rfl (.app _ _) g27) <| U7 rfl rfl rfl <| Q3 <| Qh <| Q1 <| Q0 <| U6 rfl rfl rfl <| U5 rfl rfl rfl (Q5 rfl rfl rfl) <| U7 rfl rfl rfl <| Q3 ?_
 have e := U3 h1; subst e
 refine QA ((s1.1 ++ ([x26])), (J1 (s1.2 + 1))) (Qf (U1 rfl (U1 rfl (U1 rfl (U1 rfl U0)))) Ul (Ui rfl (Ui rfl Uh)) rfl (Nat.zero_le _) rfl rfl rfl UB rfl rfl) ho1
 replace h1 := Qn c25 h1
 refine Qg <| Qh <| Q1 <| Q0 <| U6 rfl rfl rfl <| U5 rfl rfl rfl (Q5 rfl rfl rfl) <| U7 rfl rfl rfl <| Q3 ?_
 have e := U3 h1; subst e
 refine QA (s1.1, (J1 (s1.2 + 1))) (Qf (U1 rfl (U1 rfl (U1 rfl (U1 rfl U0)))) Ul (Ui rfl (Ui rfl Uh)) rfl (Nat.zero_le _) rfl rfl rfl UB rfl rfl) ho1
 replace h1 := Qn c23 h1
 refine QJ <| Qd <| Qd ?_
 have e := U3 h1; subst e
 have e_ : _ = _ := ho1
 subst e_
 exact QD s1.1 (Qf (U1 rfl U0) Ul (Ui rfl (Ui rfl Uh)) rfl (Nat.zero_le _) rfl rfl rfl UB rfl rfl) h0
 intro o21 h0
 refine Qu <| Q1 <| Q2 <| Q0 <| U6 rfl rfl rfl <| U7 rfl rfl rfl <| U7 rfl rfl rfl <| Q3 <| Q1 <| Qz ?_
 have e := U3 h0; subst e
 exact QK (fun _ _ h => h) rfl (Qk rfl (Qk rfl .nil)) (.cons (.one (.app _ _ _)) (.cons (.one (.d _)) .nil))
def Xk (a0 : List Dcl) (s2 : (List Bool) × Int) : Option (LO ((List Bool) × Int) (((List Bool)))) :=
 cond (decide (s2.2 < (a0.length : Int)))
   (Qt (Nat.ble (s2.1.length + ([false]).length) 1000000000)
 (some (.next ((s2.1 ++ ([false])), (J1 (s2.2 + 1))))))
   (some (.done s2.1))
def GE (a1 : List UN) (a0 : List Dcl) (o7 : (List Bool)) (s2 : (List Bool) × Int) : Option (LO ((List Bool) × Int) (((List Bool)) ⊕ (Unit ⊕ ((List Bool))))) :=
 cond (decide (s2.2 < (a1.length : Int)))
   (Option.bind (Jg a1 s2.2) fun (x10 : UN) =>
 Option.bind (WE a0 x10) fun (x11 : Int) =>
 cond (decide (x11 < 0))
   (some (.done (.inr (.inl ()))))
   (Option.bind (Jg s2.1 x11) fun (x13 : Bool) =>
 Qt (Nat.beq (Enc.encL s2.1).length ((Enc.encL o7).length))
 (some (.next ((s2.1.set x11.toNat true), (J1 (s2.2 + 1)))))))
   (some (.done (.inl s2.1)))
def m13_l2 (a0 : List Dcl) (x20 : (List Bool)) (s1 : (List UN) × Int) : Option (LO ((List UN) × Int) (((List UN)))) :=
 cond (decide (s1.2 < (a0.length : Int)))
   (Option.bind (Jg x20 s1.2) fun (x23 : Bool) =>
 cond x23
   (Option.bind (Jg a0 s1.2) fun (x25 : Dcl) =>
 Option.bind (Wi x25) fun (x26 : (List UN)) =>
 Qt (Nat.ble (s1.1.length + x26.length) 1000000000)
 (some (.next ((s1.1 ++ x26), (J1 (s1.2 + 1))))))
   (some (.next (s1.1, (J1 (s1.2 + 1))))))
   (some (.done s1.1))
def m13 (a0 : List Dcl) (a1 : List UN) : Option ((List UN) × Int) :=
 Option.bind (WC a0) fun (x1 : (List (List Int)) × Int) =>
 cond (x1.2 != 0)
   (some (([] : List UN), x1.2))
   (Option.bind (Option.bind (Qv (Xk a0) QH (([] : List Bool), 0)) (fun (o7 : (List Bool)) => Option.bind (Qv (GE a1 a0 o7) QH (o7, 0)) (Sum.elim (fun (o8 : (List Bool)) => Qt (Nat.beq (Enc.encL o8).length ((Enc.encL o7).length))
 (some (.inr o8))) (fun o => some o)))) (Sum.elim (fun (y3 : Unit) => some (([] : List UN), 9)) (fun (y4 : (List Bool)) => Option.bind (Xf x1.1 y4 true) fun (x20 : (List Bool)) =>
 Option.bind (Qv (m13_l2 a0 x20) QH (([] : List UN), 0)) (fun (o21 : (List UN)) => some (o21, 0)))))
end Go.Proofs.Ytijcchddnnnmdaa
namespace Go.Proofs.Ytijcchddnnnmdaa
open Go.RowKit Go.Lib
set_option linter.unusedSimpArgs false
set_option linter.unusedVariables false
set_option linter.unusedSectionVars false
def UI (b : List Bool) (i : Nat) : Prop := b[i]? = some true
def Xn (E : Nat → Nat → Prop) (C : Nat → Prop) : Prop := ∀ i j, E i j → C i → C j
structure Least (E : Nat → Nat → Prop) (n : Nat) (S : Nat → Prop) (b : List Bool) : Prop where
  len : b.length = n
  start : ∀ i, S i → UI b i
  cl : Xn E (UI b)
  min : ∀ C : Nat → Prop, (∀ i, S i → C i) → Xn E C → ∀ i, UI b i → C i
theorem KM {b : List Bool} {i : Nat} (hi : i < b.length) (k : Nat) : UI (b.set i true) k ↔ k = i ∨ UI b k := by
  unfold UI
  rw [List.getElem?_set]
  by_cases e : i = k
  · subst e; rw [if_pos rfl, if_pos hi]; simp
  · rw [if_neg e]; exact ⟨.inr, fun h => h.elim (fun h => absurd h.symm e) id⟩
theorem on_ext {a b : List Bool} (hl : a.length = b.length) (h : ∀ i, UI a i ↔ UI b i) : a = b := by
  refine List.ext_getElem? fun i => ?_
  by_cases hi : i < a.length
  · have e1 : a[i]? = some a[i] := List.getElem?_eq_getElem hi
    have e2 : b[i]? = some b[i] := List.getElem?_eq_getElem (by omega)
    have := h i
    unfold UI at this
    rw [e1, e2] at this ⊢
    cases ha : a[i] <;> cases hb : b[i] <;> simp [ha, hb] at this ⊢
  · rw [List.getElem?_eq_none (by omega), List.getElem?_eq_none (by omega)]
theorem on_cases {b : List Bool} {i : Nat} (hi : i < b.length) : (b[i]? = some true ∧ UI b i) ∨ (b[i]? = some false ∧ ¬ UI b i) := by
  have e1 : b[i]? = some b[i] := List.getElem?_eq_getElem hi
  unfold UI
  rw [e1]
  cases b[i] <;> simp
theorem Least.uniq {E E' : Nat → Nat → Prop} {n : Nat} {S S' : Nat → Prop} {b b' : List Bool} (h : Least E n S b) (h' : Least E' n S' b') (hE : ∀ i j, E i j ↔ E' i j) (hS : ∀ i, S i ↔ S' i) : b = b' :=
  on_ext (by rw [h.len, h'.len]) fun i =>
    ⟨h.min (UI b') (fun k hk => h'.start k ((hS k).1 hk)) (fun k j e hk => h'.cl k j ((hE k j).1 e) hk) i,
     h'.min (UI b) (fun k hk => h.start k ((hS k).2 hk)) (fun k j e hk => h.cl k j ((hE k j).2 e) hk) i⟩
theorem off_on (n i : Nat) : ¬ UI (List.replicate n false) i := by
  unfold UI
  rw [List.getElem?_replicate]
  split <;> simp
def XP : List Bool → Nat
  | [] => 0
  | true :: b => XP b
  | false :: b => XP b + 1
theorem cnt_le : ∀ b : List Bool, XP b ≤ b.length
  | [] => Nat.le_refl _
  | true :: b => by have := cnt_le b; simp only [XP, List.length_cons]; omega
  | false :: b => by have := cnt_le b; simp only [XP, List.length_cons]; omega
theorem cnt_mono : ∀ (a b : List Bool), a.length = b.length → (∀ i, UI a i → UI b i) → XP b ≤ XP a
  | [], [], _, _ => Nat.le_refl _
  | [], _ :: _, h, _ => by cases h
  | _ :: _, [], h, _ => by cases h
  | x :: a, y :: b, hl, h => by
    have ih := cnt_mono a b (by simpa using hl) fun i hi => h (i + 1) hi
    cases x <;> cases y <;> simp only [XP] <;> try omega
    have := h 0 rfl
    cases this
theorem cnt_eq : ∀ (a b : List Bool), a.length = b.length → (∀ i, UI a i → UI b i) → XP b = XP a → a = b
  | [], [], _, _, _ => rfl
  | [], _ :: _, h, _, _ => by cases h
  | _ :: _, [], h, _, _ => by cases h
  | x :: a, y :: b, hl, h, hc => by
    have h' : ∀ i, UI a i → UI b i := fun i hi => h (i + 1) hi
    have hl' : a.length = b.length := by simpa using hl
    have ih := cnt_mono a b hl' h'
    cases x <;> cases y <;> simp only [XP] at hc
    · rw [cnt_eq a b hl' h' (by omega)]
    · omega
    · have := h 0 rfl
      cases this
    · rw [cnt_eq a b hl' h' (by omega)]
theorem cnt_zero : ∀ (b : List Bool), XP b = 0 → ∀ i, i < b.length → UI b i
  | [], _, i, hi => by cases hi
  | true :: b, h, 0, _ => rfl
  | true :: b, h, i + 1, hi => cnt_zero b h i (by simpa using hi)
  | false :: b, h, _, _ => by simp only [XP] at h; omega
theorem cnt_set : ∀ (b : List Bool) (i : Nat), b[i]? = some false → XP (b.set i true) < XP b
  | [], i, h => by cases h
  | x :: b, 0, h => by cases h; simp only [List.set_cons_zero, XP]; omega
  | x :: b, i + 1, h => by
    have := cnt_set b i h
    cases x <;> simp only [List.set_cons_succ, XP] <;> omega
def Ed (g : List (List Int)) (i j : Nat) : Prop := ∃ l, g[i]? = some l ∧ (j : Int) ∈ l
def WR (g : List (List Int)) (n B : Nat) : Prop := g.length = n ∧ ∀ l ∈ g, l.length ≤ B ∧ ∀ j ∈ l, ∃ k : Nat, k < n ∧ j = (k : Int)
theorem Ed.lt {g : List (List Int)} {n B i j : Nat} (hg : WR g n B) (h : Ed g i j) : i < n ∧ j < n := by
  obtain ⟨l, h1, h2⟩ := h
  obtain ⟨h3, h4⟩ := List.getElem?_eq_some_iff.1 h1
  obtain ⟨k, h5, h6⟩ := (hg.2 l (List.mem_of_getElem? h1)).2 _ h2
  exact ⟨by rw [← hg.1]; exact h3, by omega⟩
structure Vis (E : Nat → Nat → Prop) (b b' : List Bool) (T : Nat → Prop) : Prop where
  len : b'.length = b.length
  mono : ∀ k, UI b k → UI b' k
  tgt : ∀ i, T i → UI b' i
  cl : ∀ k j, UI b' k → ¬ UI b k → E k j → UI b' j
  min : ∀ C : Nat → Prop, Xn E C → (∀ i, T i → C i) → ∀ k, UI b' k → UI b k ∨ C k
theorem Vis.refl {E : Nat → Nat → Prop} {b : List Bool} {T : Nat → Prop} (h : ∀ i, T i → UI b i) : Vis E b b T :=
  ⟨rfl, fun _ h => h, h, fun k j h1 h2 _ => absurd h1 h2, fun _ _ _ _ h => .inl h⟩
theorem Vis.trans {E : Nat → Nat → Prop} {b b' b'' : List Bool} {T T' T'' : Nat → Prop} (h : Vis E b b' T) (h' : Vis E b' b'' T') (hT : ∀ i, T'' i ↔ T i ∨ T' i) : Vis E b b'' T'' where
  len := by rw [h'.len, h.len]
  mono k hk := h'.mono k (h.mono k hk)
  tgt i hi := ((hT i).1 hi).elim (fun e => h'.mono i (h.tgt i e)) (h'.tgt i)
  cl k j h1 h2 e := by
    by_cases h3 : UI b' k
    · exact h'.mono j (h.cl k j h3 h2 e)
    · exact h'.cl k j h1 h3 e
  min C Un hT' k hk := (h'.min C Un (fun i hi => hT' i ((hT i).2 (.inr hi))) k hk).elim (h.min C Un (fun i hi => hT' i ((hT i).2 (.inl hi))) k) .inr
theorem Vis.enter {E : Nat → Nat → Prop} {b b' : List Bool} {i : Nat} (hi : i < b.length) (h : Vis E (b.set i true) b' (E i)) : Vis E b b' (fun k => k = i) where
  len := by rw [h.len, List.length_set]
  mono k hk := h.mono k ((KM hi k).2 (.inr hk))
  tgt k hk := h.mono k ((KM hi k).2 (.inl hk))
  cl k j h1 h2 e := by
    by_cases h3 : k = i
    · subst h3; exact h.tgt j e
    · exact h.cl k j h1 (fun h4 => ((KM hi k).1 h4).elim h3 h2) e
  min C Un hT k hk := (h.min C Un (fun j hj => Un i j hj (hT i rfl)) k hk).elim (fun h4 => ((KM hi k).1 h4).elim (fun e => .inr (by rw [e]; exact hT i rfl)) .inl) .inr
theorem Vis.least {E : Nat → Nat → Prop} {n : Nat} {T : Nat → Prop} {b : List Bool} (h : Vis E (List.replicate n false) b T) : Least E n T b where
  len := by rw [h.len, List.length_replicate]
  start := h.tgt
  cl i j e hi := h.cl i j hi (off_on n i) e
  min C hT Un i hi := (h.min C Un hT i hi).elim (fun h => absurd h (off_on n i)) id
theorem dfs {g : List (List Int)} {n B : Nat} (hg : WR g n B) (hB : B ≤ 900000000) : ∀ (fuel i : Nat) (b : List Bool), i < n → b.length = n → XP b < fuel →
    ∃ b', JY m56f12F fuel ((i : Int), n, b, g) = some b' ∧ Vis (Ed g) b b' (fun k => k = i) := by
  intro fuel
  induction fuel with
  | zero => intro i b _ _ h; omega
  | succ fuel ih =>
    intro i b hi hb hc
    show ∃ b', GQ (JY m56f12F fuel) (i : Int) n b g = some b' ∧ _
    unfold GQ
    rcases on_cases (b := b) (i := i) (by omega) with ⟨e, ho⟩ | ⟨e, ho⟩
    · rw [Zy e]
      simp only [Option.bind_some]
      rw [K2 hb]
      exact ⟨b, rfl, .refl fun k hk => by rw [hk]; exact ho⟩
    · rw [Zy e]
      simp only [Option.bind_some]
      rw [K2 hb]
      simp only [cond_false]
      rw [K2 hb]
      have hil : i < g.length := by rw [hg.1]; exact hi
      have el : g[i]? = some g[i] := List.getElem?_eq_getElem hil
      obtain ⟨hl1, hl2⟩ := hg.2 g[i] (List.getElem_mem hil)
      rw [Zy el]
      simp only [Option.bind_some, Int.toNat_natCast]
      obtain ⟨b', e1, h1⟩ := Jb (step := ZN g[i] (JY m56f12F fuel) n g) g[i] (fun k s => (k, s))
        (fun a s => Vis (Ed g) (b.set i true) s (fun k => (k : Int) ∈ a)) (fun r => Vis (Ed g) (b.set i true) r (fun k => (k : Int) ∈ g[i])) (by omega)
        (fun a x c s e2 hI => by
          obtain ⟨k, hk, rfl⟩ := hl2 x (by rw [e2]; simp)
          have hcs := cnt_set b i e
          have hcm := cnt_mono (b.set i true) s hI.len.symm hI.mono
          obtain ⟨s', e3, h3⟩ := ih k s hk (by rw [hI.len, List.length_set]; exact hb) (by omega)
          refine .inr ⟨s', ?_, hI.trans h3 fun j => ?_⟩
          · unfold ZN
            dsimp only
            rw [e2, QX, QR]
            simp only [cond_true, Option.bind_some]
            rw [e3]; rfl
          · rw [List.mem_append, List.mem_singleton]
            exact ⟨fun h => h.elim .inl fun h => .inr (by omega), fun h => h.elim .inl fun h => .inr (by omega)⟩)
        (fun s hI => ⟨s, by unfold ZN; dsimp only; rw [J7]; rfl, hI⟩) (b.set i true) (.refl fun k hk => by cases hk)
      rw [e1]
      refine ⟨b', rfl, Vis.enter (by omega) ⟨h1.len, h1.mono, fun k hk => h1.tgt k ?_, h1.cl, fun C Un hT k hk => h1.min C Un (fun j hj => hT j ⟨g[i], el, hj⟩) k hk⟩⟩
      obtain ⟨l, h2, h3⟩ := hk
      rw [el] at h2
      cases h2
      exact h3
def Gk (env : List Dcl) (a : List UN) (i : Nat) : Prop := ∃ s ∈ a, Z5 0 env s = some (i : Int)
theorem visits_eq {env : List Dcl} {g rv : List (List Int)} {M : UJ} {n B : Nat} (hn : env.length = n) (hg : WR rv n B) (hB : B ≤ 900000000) (hN : n ≤ 900000000) (hM : ∀ s, Zq M s = Z5 0 env s) (a : List UN) (ha : a.length ≤ 900000000) :
    ∃ r, Qv (KY a (g, M) rv) QH (0, List.replicate n false) = some r ∧
      (((∀ s ∈ a, s ∈ QM env) ∧ ∃ b, r = .inl b ∧ Least (Ed rv) n (Gk env a) b) ∨ (¬ (∀ s ∈ a, s ∈ QM env) ∧ r = .inr (.inl ()))) := by
  refine Jb (step := KY a (g, M) rv) a (fun k s => (k, s)) (fun p s => (∀ x ∈ p, x ∈ QM env) ∧ Vis (Ed rv) (List.replicate n false) s (Gk env p)) _ ha ?_ ?_ _ ⟨fun x hx => (by cases hx), .refl fun i hi => (by obtain ⟨s, hs, -⟩ := hi; cases hs)⟩
  · rintro p x c s e ⟨hp, hI⟩
    by_cases hx : x ∈ QM env
    · obtain ⟨k, hk, e1⟩ := ZU hx
      have hb : s.length = n := by rw [hI.len, List.length_replicate]
      have hcs := cnt_le s
      obtain ⟨s', e2, h2⟩ := dfs hg hB QH k s (by omega) hb (by unfold QH; omega)
      refine .inr ⟨s', ?_, fun y hy => (List.mem_append.1 hy).elim (hp y) (fun h => by rw [List.mem_singleton.1 h]; exact hx), hI.trans h2 fun i => ?_⟩
      · unfold KY
        dsimp only
        have e3 : Jz M x = true := by unfold Jz; rw [hM, e1]; rfl
        have e4 : Jl M x = (k : Int) := by unfold Jl; rw [hM, e1]; rfl
        rw [e, QX, QR]
        simp only [cond_true, Option.bind_some]
        rw [e3, e4, hg.1]
        simp only [Bool.not_true, cond_false, Int.toNat_natCast]
        unfold m56f12
        rw [e2]; rfl
      · unfold Gk
        constructor
        · rintro ⟨y, hy, e3⟩
          rcases List.mem_append.1 hy with h | h
          · exact .inl ⟨y, h, e3⟩
          · rw [List.mem_singleton.1 h, e1] at e3
            exact .inr (by injection e3; omega)
        · rintro (⟨y, hy, e3⟩ | rfl)
          · exact ⟨y, List.mem_append_left _ hy, e3⟩
          · exact ⟨x, by simp, e1⟩
    · refine .inl ⟨_, ?_, .inr ⟨fun h => hx (h x (by rw [e]; simp)), rfl⟩⟩
      unfold KY
      dsimp only
      have e3 : Jz M x = false := by unfold Jz; rw [hM, (Ze x env 0).2 hx]; rfl
      rw [e, QX, QR]
      simp only [cond_true, Option.bind_some]
      rw [e3]; rfl
  · rintro s ⟨hp, hI⟩
    refine ⟨.inl s, ?_, .inl ⟨hp, s, rfl, hI.least⟩⟩
    unfold KY
    dsimp only
    rw [J7]; rfl
end Go.Proofs.Ytijcchddnnnmdaa
namespace Go.Proofs.Ytijcchddnnnmdaa
open Go.RowKit Go.Lib
set_option linter.unusedSimpArgs false
set_option linter.unusedVariables false
set_option linter.unusedSectionVars false
structure Up (E : Nat → Nat → Prop) (b b' : List Bool) (T : Nat → Nat → Prop) : Prop where
  len : b'.length = b.length
  mono : ∀ k, UI b k → UI b' k
  stp : ∀ s t, T s t → UI b s → UI b' t
  min : ∀ C : Nat → Prop, Xn E C → (∀ k, UI b k → C k) → ∀ k, UI b' k → C k
theorem Up.refl {E T : Nat → Nat → Prop} {b : List Bool} (h : ∀ s t, T s t → UI b s → UI b t) : Up E b b T := ⟨rfl, fun _ h => h, h, fun _ _ h => h⟩
theorem Up.trans {E T T' T'' : Nat → Nat → Prop} {b b' b'' : List Bool} (h : Up E b b' T) (h' : Up E b' b'' T') (hT : ∀ s t, T'' s t → T s t ∨ T' s t) : Up E b b'' T'' where
  len := by rw [h'.len, h.len]
  mono k hk := h'.mono k (h.mono k hk)
  stp s t e hs := (hT s t e).elim (fun e => h'.mono t (h.stp s t e hs)) (fun e => h'.stp s t e (h.mono s hs))
  min C Un hb := h'.min C Un (h.min C Un hb)
theorem Up.set {E : Nat → Nat → Prop} {b : List Bool} {s t : Nat} (ht : t < b.length) (e : E s t) (hs : UI b s) : Up E b (b.set t true) (fun x y => x = s ∧ y = t) where
  len := List.length_set
  mono k hk := (KM ht k).2 (.inr hk)
  stp x y h _ := (KM ht y).2 (.inl h.2)
  min C Un hb k hk := ((KM ht k).1 hk).elim (fun h => by rw [h]; exact Un s t e (hb s hs)) (hb k)
def UM (d : Bool) (g : List (List Int)) (i j : Nat) : Prop := cond d (Ed g j i) (Ed g i j)
theorem row_pass {g : List (List Int)} {n B : Nat} (hg : WR g n B) (hB : B ≤ 900000000) (d : Bool) (z : List Bool) (hz : z.length = n) (e0 : Int) (v : List Bool) (hv : v.length = n) (i : Nat) (hi : i < n) (v0 : List Bool) :
    ∃ r, Qv (YX g (v0, (i : Int)) d z) QH (v, 0) = some r ∧ Up (UM d g) v r (fun s t => cond d (t = i ∧ Ed g i s) (s = i ∧ Ed g i t)) := by
  have hil : i < g.length := by rw [hg.1]; exact hi
  have el : g[i]? = some g[i] := List.getElem?_eq_getElem hil
  obtain ⟨hl1, hl2⟩ := hg.2 g[i] (List.getElem_mem hil)
  obtain ⟨r, e1, h1⟩ := Jb (step := YX g (v0, (i : Int)) d z) g[i] (fun k s => (s, k))
    (fun a s => Up (UM d g) v s (fun s t => cond d (t = i ∧ (s : Int) ∈ a) (s = i ∧ (t : Int) ∈ a))) (fun r => Up (UM d g) v r (fun s t => cond d (t = i ∧ (s : Int) ∈ g[i]) (s = i ∧ (t : Int) ∈ g[i]))) (by omega)
    (fun a x c s e hI => by
      obtain ⟨k, hk, rfl⟩ := hl2 x (by rw [e]; simp)
      have hs : s.length = n := by rw [hI.len]; exact hv
      have hed : Ed g i k := ⟨g[i], el, by rw [e]; simp⟩
      have hgd : Nat.beq (Enc.encL s).length (Enc.encL z).length = true := by rw [Enc.len, Enc.len, hs, hz, Nat.beq_refl]
      have key : ∃ s', YX g (v0, (i : Int)) d z (s, (a.length : Int)) = some (.next (s', J1 ((a.length : Int) + 1))) ∧ Up (UM d g) s s' (fun s t => cond d (t = i ∧ s = k) (s = i ∧ t = k)) := by
        unfold YX
        dsimp only
        rw [Zy el]
        simp only [Option.bind_some]
        rw [show Jg g[i] (a.length : Int) = some ((k : Nat) : Int) from by rw [e, QR], show decide ((a.length : Int) < (g[i].length : Int)) = true from by rw [e, QX]]
        cases d with
        | true =>
          rcases on_cases (b := s) (i := k) (by omega) with ⟨e2, ho⟩ | ⟨e2, ho⟩
          · obtain ⟨y, e3⟩ : ∃ y, s[i]? = some y := ⟨_, List.getElem?_eq_getElem (by omega)⟩
            simp only [cond_true, Option.bind_some, Zy e2, Zy e3, hgd, Qt, Bool.not_true, cond_false, Int.toNat_natCast]
            exact ⟨_, rfl, (Up.set (E := UM true g) (s := k) (t := i) (by omega) hed ho).trans (.refl (T := fun _ _ => False) fun _ _ h => h.elim) fun s t h => .inl ⟨h.2, h.1⟩⟩
          · simp only [cond_true, Option.bind_some, Zy e2, hgd, Qt, Bool.not_true, cond_false]
            exact ⟨_, rfl, .refl fun s t h hs => absurd (h.2 ▸ hs) ho⟩
        | false =>
          rcases on_cases (b := s) (i := i) (by omega) with ⟨e2, ho⟩ | ⟨e2, ho⟩
          · obtain ⟨y, e3⟩ : ∃ y, s[k]? = some y := ⟨_, List.getElem?_eq_getElem (by omega)⟩
            simp only [cond_true, Option.bind_some, Zy e2, Zy e3, hgd, Qt, Bool.not_false, cond_false, Int.toNat_natCast]
            exact ⟨_, rfl, (Up.set (E := UM false g) (s := i) (t := k) (by omega) hed ho).trans (.refl (T := fun _ _ => False) fun _ _ h => h.elim) fun s t h => .inl h⟩
          · simp only [cond_true, Option.bind_some, Zy e2, hgd, Qt, Bool.not_false, cond_false]
            exact ⟨_, rfl, .refl fun s t h hs => absurd (h.1 ▸ hs) ho⟩
      obtain ⟨s', e2, h2⟩ := key
      refine .inr ⟨s', e2, hI.trans h2 fun x y h => ?_⟩
      cases d with
      | true =>
        obtain ⟨h3, h4⟩ := h
        rcases List.mem_append.1 h4 with h4 | h4
        · exact .inl ⟨h3, h4⟩
        · have := List.mem_singleton.1 h4
          exact .inr ⟨h3, by omega⟩
      | false =>
        obtain ⟨h3, h4⟩ := h
        rcases List.mem_append.1 h4 with h4 | h4
        · exact .inl ⟨h3, h4⟩
        · have := List.mem_singleton.1 h4
          exact .inr ⟨h3, by omega⟩)
    (fun s hI => ⟨s, by unfold YX; dsimp only; rw [Zy el]; simp only [Option.bind_some]; rw [J7]; rfl, hI⟩) v
    (.refl fun s t h _ => by cases d <;> exact absurd h.2 (by simp))
  refine ⟨r, e1, h1.trans (.refl (T := fun _ _ => False) fun _ _ h => h.elim) fun s t h => .inl ?_⟩
  cases d with
  | true =>
    obtain ⟨h3, l, h4, h5⟩ := h
    rw [el] at h4; cases h4
    exact ⟨h3, h5⟩
  | false =>
    obtain ⟨h3, l, h4, h5⟩ := h
    rw [el] at h4; cases h4
    exact ⟨h3, h5⟩
theorem pass {g : List (List Int)} {n B : Nat} (hg : WR g n B) (hB : B ≤ 900000000) (hn : n ≤ 900000000) (d : Bool) (z : List Bool) (hz : z.length = n) (v : List Bool) (hv : v.length = n) :
    ∃ r, Qv (Zf g d z) QH (v, 0) = some r ∧ Up (UM d g) v r (UM d g) := by
  obtain ⟨r, e1, h1⟩ := Jb (step := Zf g d z) g (fun k s => (s, k))
    (fun a s => Up (UM d g) v s (fun s t => cond d (t < a.length ∧ Ed g t s) (s < a.length ∧ Ed g s t))) (fun r => Up (UM d g) v r (fun s t => cond d (t < g.length ∧ Ed g t s) (s < g.length ∧ Ed g s t))) (by rw [hg.1]; exact hn)
    (fun a x c s e hI => by
      have hal : a.length < n := by rw [← hg.1]; exact YD e
      obtain ⟨s', e2, h2⟩ := row_pass hg hB d z hz 0 s (by rw [hI.len]; exact hv) a.length hal s
      refine .inr ⟨s', ?_, hI.trans h2 fun x y h => ?_⟩
      · unfold Zf
        dsimp only
        rw [show decide ((a.length : Int) < (g.length : Int)) = true from by rw [e, QX]]
        simp only [cond_true]
        rw [e2]; rfl
      · simp only [List.length_append, List.length_singleton] at h
        cases d with
        | true =>
          obtain ⟨h3, h4⟩ := h
          by_cases h5 : y = a.length
          · exact .inr ⟨h5, h5 ▸ h4⟩
          · exact .inl ⟨by omega, h4⟩
        | false =>
          obtain ⟨h3, h4⟩ := h
          by_cases h5 : x = a.length
          · exact .inr ⟨h5, h5 ▸ h4⟩
          · exact .inl ⟨by omega, h4⟩)
    (fun s hI => ⟨s, by unfold Zf; dsimp only; rw [J7]; rfl, hI⟩) v (.refl fun s t h _ => by cases d <;> exact absurd h.1 (Nat.not_lt_zero _))
  refine ⟨r, e1, h1.trans (.refl (T := fun _ _ => False) fun _ _ h => h.elim) fun s t h => .inl ?_⟩
  cases d with
  | true => exact ⟨by rw [hg.1]; exact (h.lt hg).1, h⟩
  | false => exact ⟨by rw [hg.1]; exact (h.lt hg).1, h⟩
theorem spread_eq {g : List (List Int)} {n B : Nat} (hg : WR g n B) (hB : B ≤ 900000000) (hn : n ≤ 900000000) (d : Bool) (z : List Bool) (hz : z.length = n) :
    ∃ b, Xf g z d = some b ∧ Least (UM d g) n (UI z) b := by
  have hlt : ∀ {s t}, UM d g s t → t < n := fun {s t} h => by
    cases d with
    | true => exact (Ed.lt hg h).1
    | false => exact (Ed.lt hg h).2
  unfold Xf
  obtain ⟨r, e1, h1, h2⟩ := Jb (step := ZO g d z) g (fun k s => (s, k))
    (fun a s => Up (UM d g) z s (fun _ _ => False) ∧ (Xn (UM d g) (UI s) ∨ XP s + a.length ≤ n)) (fun r => Up (UM d g) z r (fun _ _ => False) ∧ (Xn (UM d g) (UI r) ∨ XP r + g.length ≤ n)) (by rw [hg.1]; exact hn)
    (fun a x c s e hI => by
      obtain ⟨hI, hc⟩ := hI
      have hsn : s.length = n := by rw [hI.len]; exact hz
      obtain ⟨s', e2, h2⟩ := pass hg hB hn d z hz s hsn
      refine .inr ⟨s', ?_, hI.trans h2 fun x y h => h.elim, ?_⟩
      · unfold ZO
        dsimp only
        rw [show decide ((a.length : Int) < (g.length : Int)) = true from by rw [e, QX]]
        simp only [cond_true]
        rw [e2]; rfl
      · have hm := cnt_mono s s' h2.len.symm h2.mono
        by_cases hq : XP s' = XP s
        · have := cnt_eq s s' h2.len.symm h2.mono hq
          subst this
          exact .inl fun i j e hi => h2.stp i j e hi
        · rcases hc with hc | hc
          · refine .inl fun i j e hi => h2.mono j (hc i j e (h2.min (UI s) hc (fun _ h => h) i hi))
          · refine .inr ?_
            rw [List.length_append, List.length_singleton]; omega)
    (fun s hI => ⟨s, by unfold ZO; dsimp only; rw [J7]; rfl, hI⟩) z ⟨.refl fun _ _ h => h.elim, .inr (by have := cnt_le z; simp only [List.length_nil]; omega)⟩
  rw [e1]
  simp only [Option.bind_some]
  rw [show Nat.beq (Enc.encL r).length (Enc.encL z).length = true from by rw [Enc.len, Enc.len, h1.len, Nat.beq_refl]]
  refine ⟨r, rfl, ⟨by rw [h1.len]; exact hz, h1.mono, ?_, fun C hS Un => h1.min C Un hS⟩⟩
  rcases h2 with h2 | h2
  · exact h2
  · intro i j e hi
    have := hg.1
    exact cnt_zero r (by omega) j (by rw [h1.len, hz]; exact hlt e)
end Go.Proofs.Ytijcchddnnnmdaa
namespace Go.Proofs.Ytijcchddnnnmdaa
open Go.RowKit Go.Shelf
set_option linter.unusedSimpArgs false
set_option linter.unusedVariables false
theorem Wk : Gc Try.prog 9 = true := by kernel_rfl
theorem en_9 : J2 Try.prog 9 := enters_of Try.func9 (by kernel_rfl) rfl
theorem en_30 : J2 Try.prog 30 := enters_of Try.func30 (by kernel_rfl) rfl
theorem en_50 : J2 Try.prog 50 := enters_of Try.func50 (by kernel_rfl) rfl
theorem en_51 : J2 Try.prog 51 := enters_of Try.func51 (by kernel_rfl) rfl
theorem en_65 : J2 Try.prog 65 := enters_of Try.func65 (by kernel_rfl) rfl
theorem en_66 : J2 Try.prog 66 := enters_of Try.func66 (by kernel_rfl) rfl
def X9 (a0 : Tm) (rc : Tm → Option Int) (s1 : Int × Int) : Option (LO (Int × Int) Int) :=
 cond (decide (s1.2 < (a0.kids.length : Int)))
   (Option.bind (Jg a0.kids s1.2) fun (x3 : Tm) =>
 Option.bind (rc x3) fun (x4 : Int) =>
 some (.next ((J1 (s1.1 + x4)), (J1 (s1.2 + 1)))))
   (some (.done s1.1))
def Wn (rc : Tm → Option Int) (a0 : Tm) : Option Int :=
 Option.bind (Qv (X9 a0 rc) QH (1, 0)) (fun (o1 : Int) => some o1)
def Wo (rc : Tm → Option Int) (u : Tm) : Option Int := Wn rc u
def m65 (a0 : Tm) : Option Int := JY Wo QH a0
set_option maxRecDepth 100000 in
set_option maxHeartbeats 2000000 in
theorem m65s_ok (rc : Tm → Option Int) (H : ∀ (a0 : Tm) (r : Int), rc a0 = some r → Fun Try.prog 65 [.agg (Uy a0)] (Qy [.one (Uv r)])) (a0 : Tm) (r : Int) (h0 : Wn rc a0 = some r) : Fun Try.prog 65 [.agg (Uy a0)] (Qy [.one (Uv r)]) := by
 unfold Wn at h0
 refine QS 9 21 Try.func65 rfl en_65 rfl (Ug rfl) (fun S w => ?_)
 simp only [J8]
 refine Q2 <| Q0 <| Q9 rfl rfl (Ug rfl) (Jc rfl) <| U7 rfl rfl rfl <| Q3 <| Q1 <| Q2 <| Q0 <| U7 rfl rfl rfl <| Q3 <| Q1 <| Q2 <| Q2 <| Q0 ?_
 refine U7 rfl rfl rfl <| Q3 <| Q1 <| Qc ?_
 refine QF 0 (fun (o1 : Int) => ⟨[(3, .v (.one (Uv o1)))], [(0, .cells 42 (Uy a0))], [], 1, 21, []⟩) (fun (o1 : Int) => (some o1) = some r) ?_ ?_
 refine Qb h0 (fun o2 hl1 h0 => ?_)
 refine QE (X9 a0 rc) (fun s1 => ⟨[(1, .v (.one (.ptr 0 0))), (3, .v (.one (Uv s1.1))), (4, .v (.one (Uv s1.2)))], [(0, .cells 42 (Uy a0))], [], 1, 21, []⟩) (1, 0) o2 (Qf (U1 rfl (U1 rfl (U1 rfl U0))) (Um rfl Ul) Uh rfl (Nat.zero_le _) rfl rfl rfl (UE rfl rfl UB) rfl rfl) hl1 (fun s1 n1 oo1 h1 ho1 => ?_)
 unfold X9 at h1
 refine Q2 <| Q2 <| Q0 <| U6 rfl rfl rfl <| U5 rfl rfl rfl (Q4 YE rfl) <| U5 rfl rfl rfl (Q7 Y3 rfl rfl rfl) <| U5 rfl rfl rfl (QB (α := Tm) JH rfl (.d _)) <| U5 rfl rfl rfl (Q5 rfl rfl rfl) <| Q3 <| Q1 ?_
 refine Qe (b := (decide (s1.2 < (a0.kids.length : Int)))) rfl (fun c3 => ?_) (fun c3 => ?_)
 replace h1 := Qm c3 h1
 refine Qg <| Q1 <| Q2 <| Qc <| Q0 <| U6 rfl rfl rfl <| U5 rfl rfl rfl (Q4 YE rfl) <| U5 rfl rfl rfl (Q7 Y3 rfl rfl rfl) <| U6 rfl rfl rfl ?_
 refine Qb h1 (fun x4 hx4 h1 => ?_)
 refine U5 rfl rfl rfl (Qi (α := Tm) JH rfl (.d _) rfl hx4) <| U5 rfl rfl rfl (QN (x4 : Tm) Jh rfl) ?_
 refine Qb h1 (fun x5 hx5 h1 => ?_)
 refine Q9 rfl rfl (Ug rfl) (Ql (H x4 x5 hx5) rfl (.cons (.agg (.cons (.d _) (.cons (.d _) (.cons (.d _) (.cons (.d _) (.cons (.d _) .nil)))))) .nil)) <| U5 rfl rfl rfl (Q5 rfl rfl rfl) <| U7 rfl rfl rfl <| Q3 <| Qh <| Q1 <| Q0 <| U6 rfl rfl rfl <| U5 rfl rfl rfl (Q5 rfl rfl rfl) <| U7 rfl rfl rfl <| Q3 ?_
 have e := U3 h1; subst e
 refine QA ((J1 (s1.1 + x5)), (J1 (s1.2 + 1))) (Qf (U1 rfl (U1 rfl (U1 rfl U0))) (Um rfl Ul) Uh rfl (Nat.zero_le _) rfl rfl rfl (UE rfl rfl UB) rfl rfl) ho1
 replace h1 := Qn c3 h1
 refine QJ <| Qd <| Qd ?_
 have e := U3 h1; subst e
 have e_ : _ = _ := ho1
 subst e_
 exact QD s1.1 (Qf (U1 rfl U0) (Um rfl Ul) Uh rfl (Nat.zero_le _) rfl rfl rfl (UE rfl rfl UB) rfl rfl) h0
 intro o1 h0
 refine Qu <| Q1 <| Q2 <| Q0 <| U6 rfl rfl rfl <| U7 rfl rfl rfl <| Q3 <| Q1 <| Qz ?_
 have e := U3 h0; subst e
 exact QK (fun _ _ h => h) rfl (Qk rfl .nil) (.cons (.one (.d _)) .nil)
theorem m65_all (n : Nat) (u : Tm) (r : Int) (h0 : JY Wo n u = some r) : Fun Try.prog 65 [.agg (Uy u)] (Qy [.one (Uv r)]) :=
 Yy (C := fun u r => Fun Try.prog 65 [.agg (Uy u)] (Qy [.one (Uv r)])) (fun rc H u r h => m65s_ok rc (fun a0 r h => H a0 r h) u r h) n u r h0
theorem m65_ok (a0 : Tm) (r : Int) (h0 : m65 a0 = some r) : Fun Try.prog 65 [.agg (Uy a0)] (Qy [.one (Uv r)]) := m65_all QH a0 r h0
def X8 (a0 : Tm) (rc : Tm → Option Int) (s1 : Int × Int) : Option (LO (Int × Int) Int) :=
 cond (decide (s1.2 < (a0.kids.length : Int)))
   (Option.bind (Jg a0.kids s1.2) fun (x3 : Tm) =>
 Option.bind (rc x3) fun (x4 : Int) =>
 some (.next ((max s1.1 x4), (J1 (s1.2 + 1)))))
   (some (.done s1.1))
def Wl (rc : Tm → Option Int) (a0 : Tm) : Option Int :=
 Option.bind (Qv (X8 a0 rc) QH (0, 0)) (fun (o1 : Int) => some (J1 (o1 + 1)))
def Wm (rc : Tm → Option Int) (u : Tm) : Option Int := Wl rc u
def m66 (a0 : Tm) : Option Int := JY Wm QH a0
set_option maxRecDepth 100000 in
set_option maxHeartbeats 2000000 in
theorem m66s_ok (rc : Tm → Option Int) (H : ∀ (a0 : Tm) (r : Int), rc a0 = some r → Fun Try.prog 66 [.agg (Uy a0)] (Qy [.one (Uv r)])) (a0 : Tm) (r : Int) (h0 : Wl rc a0 = some r) : Fun Try.prog 66 [.agg (Uy a0)] (Qy [.one (Uv r)]) := by
 unfold Wl at h0
 refine QS 9 22 Try.func66 rfl en_66 rfl (Ug rfl) (fun S w => ?_)
 simp only [J8]
 refine Q2 <| Q0 <| Q9 rfl rfl (Ug rfl) (Jc rfl) <| U7 rfl rfl rfl <| Q3 <| Q1 <| Q2 <| Q0 <| U7 rfl rfl rfl <| Q3 <| Q1 <| Q2 <| Q2 <| Q0 ?_
 refine U7 rfl rfl rfl <| Q3 <| Q1 <| Qc ?_
 refine QF 0 (fun (o1 : Int) => ⟨[(3, .v (.one (Uv o1)))], [(0, .cells 42 (Uy a0))], [], 1, 22, []⟩) (fun (o1 : Int) => (some (J1 (o1 + 1))) = some r) ?_ ?_
 refine Qb h0 (fun o2 hl1 h0 => ?_)
 refine QE (X8 a0 rc) (fun s1 => ⟨[(1, .v (.one (.ptr 0 0))), (3, .v (.one (Uv s1.1))), (4, .v (.one (Uv s1.2)))], [(0, .cells 42 (Uy a0))], [], 1, 22, []⟩) (0, 0) o2 (Qf (U1 rfl (U1 rfl (U1 rfl U0))) (Um rfl Ul) Uh rfl (Nat.zero_le _) rfl rfl rfl (UE rfl rfl UB) rfl rfl) hl1 (fun s1 n1 oo1 h1 ho1 => ?_)
 unfold X8 at h1
 refine Q2 <| Q2 <| Q0 <| U6 rfl rfl rfl <| U5 rfl rfl rfl (Q4 YE rfl) <| U5 rfl rfl rfl (Q7 Y3 rfl rfl rfl) <| U5 rfl rfl rfl (QB (α := Tm) JH rfl (.d _)) <| U5 rfl rfl rfl (Q5 rfl rfl rfl) <| Q3 <| Q1 ?_
 refine Qe (b := (decide (s1.2 < (a0.kids.length : Int)))) rfl (fun c3 => ?_) (fun c3 => ?_)
 replace h1 := Qm c3 h1
 refine Qg <| Q1 <| Q2 <| Qc <| Q0 <| U6 rfl rfl rfl <| U5 rfl rfl rfl (Q4 YE rfl) <| U5 rfl rfl rfl (Q7 Y3 rfl rfl rfl) <| U6 rfl rfl rfl ?_
 refine Qb h1 (fun x4 hx4 h1 => ?_)
 refine U5 rfl rfl rfl (Qi (α := Tm) JH rfl (.d _) rfl hx4) <| U5 rfl rfl rfl (QN (x4 : Tm) Jh rfl) ?_
 refine Qb h1 (fun x5 hx5 h1 => ?_)
 refine Q9 rfl rfl (Ug rfl) (Ql (H x4 x5 hx5) rfl (.cons (.agg (.cons (.d _) (.cons (.d _) (.cons (.d _) (.cons (.d _) (.cons (.d _) .nil)))))) .nil)) <| U5 rfl rfl rfl (RO.max2 rfl rfl) <| U7 rfl rfl rfl <| Q3 <| Qh <| Q1 <| Q0 <| U6 rfl rfl rfl <| U5 rfl rfl rfl (Q5 rfl rfl rfl) <| U7 rfl rfl rfl <| Q3 ?_
 have e := U3 h1; subst e
 refine QA ((max s1.1 x5), (J1 (s1.2 + 1))) (Qf (U1 rfl (U1 rfl (U1 rfl U0))) (Um rfl Ul) Uh rfl (Nat.zero_le _) rfl rfl rfl (UE rfl rfl UB) rfl rfl) ho1
 replace h1 := Qn c3 h1
 refine QJ <| Qd <| Qd ?_
 have e := U3 h1; subst e
 have e_ : _ = _ := ho1
 subst e_
 exact QD s1.1 (Qf (U1 rfl U0) (Um rfl Ul) Uh rfl (Nat.zero_le _) rfl rfl rfl (UE rfl rfl UB) rfl rfl) h0
 intro o1 h0
 refine Qu <| Q1 <| Q2 <| Q0 <| U6 rfl rfl rfl <| U5 rfl rfl rfl (Q5 rfl rfl rfl) <| U7 rfl rfl rfl <| Q3 <| Q1 <| Qz ?_
 have e := U3 h0; subst e
 exact QK (fun _ _ h => h) rfl (Qk rfl .nil) (.cons (.one (.d _)) .nil)
theorem m66_all (n : Nat) (u : Tm) (r : Int) (h0 : JY Wm n u = some r) : Fun Try.prog 66 [.agg (Uy u)] (Qy [.one (Uv r)]) :=
 Yy (C := fun u r => Fun Try.prog 66 [.agg (Uy u)] (Qy [.one (Uv r)])) (fun rc H u r h => m66s_ok rc (fun a0 r h => H a0 r h) u r h) n u r h0
theorem m66_ok (a0 : Tm) (r : Int) (h0 : m66 a0 = some r) : Fun Try.prog 66 [.agg (Uy a0)] (Qy [.one (Uv r)]) := m66_all QH a0 r h0
def Wu (a0 : Tm) : Option Bool :=
 Option.bind (Option.bind (m65 a0) fun (x2 : Int) =>
 cond (decide (x2 ≤ 400))
   (Option.bind (m66 a0) fun (x4 : Int) =>
 some (decide (x4 ≤ 150)))
   (some false)) (fun (v1 : Bool) => some v1)
set_option maxRecDepth 100000 in
set_option maxHeartbeats 2000000 in
theorem Gs (a0 : Tm) (r : Bool) (h0 : Wu a0 = some r) : Fun Try.prog 50 [.agg (Uy a0)] (Qy [.one (Uw r)]) := by
 unfold Wu at h0
 refine QS 9 11 Try.func50 rfl en_50 rfl (Ug rfl) (fun S w => ?_)
 simp only [J8]
 refine Q2 <| Q0 <| Q9 rfl rfl (Ug rfl) (Jc rfl) <| U7 rfl rfl rfl <| Q3 <| Q1 <| Q2 ?_
 refine Ja (fun (v1 : Bool) => ⟨[(2, .v (.one (Uw v1)))], [(0, .cells 42 (Uy a0))], [], 1, 11, []⟩) (fun (v1 : Bool) => (some v1) = some r) ?_ ?_
 refine Qb h0 (fun w1_ h1 h0 => ?_)
 refine Q0 <| U5 rfl rfl rfl (JQ (a0 : Tm) Jh rfl rfl) ?_
 refine Qb h1 (fun x2 hx2 h1 => ?_)
 refine Q9 rfl rfl (Ug rfl) (Ql (m65_ok a0 x2 hx2) rfl (.cons (.agg (.cons (.d _) (.cons (.d _) (.cons (.d _) (.cons (.d _) (.cons (.d _) .nil)))))) .nil)) <| U5 rfl rfl rfl (Q5 rfl rfl rfl) <| U6 rfl rfl rfl ?_
 refine QV (d := 6) (c := (decide (x2 ≤ 400))) rfl (fun c3 => ?_) (fun c3 => ?_)
 replace h1 := Qm c3 h1
 refine U5 rfl rfl rfl (JQ (a0 : Tm) Jh rfl rfl) ?_
 refine Qb h1 (fun x4 hx4 h1 => ?_)
 refine Q9 rfl rfl (Ug rfl) (Ql (m66_ok a0 x4 hx4) rfl (.cons (.agg (.cons (.d _) (.cons (.d _) (.cons (.d _) (.cons (.d _) (.cons (.d _) .nil)))))) .nil)) <| U5 rfl rfl rfl (Q5 rfl rfl rfl) <| U5 rfl rfl rfl (Qo rfl rfl) <| U7 rfl rfl rfl <| Q3 ?_
 have e := U3 h1; subst e
 exact Qr (decide (x4 ≤ 150)) (Qf (U1 rfl U0) (Um rfl Ul) Uh rfl (Nat.zero_le _) rfl rfl rfl (UE rfl rfl UB) rfl rfl) h0
 replace h1 := Qn c3 h1
 refine Q8 rfl rfl <| Q8 rfl rfl <| Q8 rfl rfl <| U5 rfl rfl rfl (QG rfl rfl) <| U7 rfl rfl rfl <| Q3 ?_
 have e := U3 h1; subst e
 exact Qr false (Qf (U1 rfl U0) (Um rfl Ul) Uh rfl (Nat.zero_le _) rfl rfl rfl (UE rfl rfl UB) rfl rfl) h0
 intro v1 h0
 refine Q1 <| Qz ?_
 have e := U3 h0; subst e
 exact QK (fun _ _ h => h) rfl (Qk rfl .nil) (.cons (.one (.d _)) .nil)
def Gq (a0 : Tr) (rc : Tr × Int → Option Bool) (a1 : Int) (s1 : Int) : Option (LO Int (Unit ⊕ Bool)) :=
 cond (decide (s1 < (a0.branches.length : Int)))
   (Option.bind (Option.bind (Jg a0.branches s1) fun (x6 : UO) =>
 Option.bind (rc (x6.tree, (J1 (a1 + 1)))) fun (x7 : Bool) =>
 cond (!x7)
   (some true)
   (Option.bind (Jg a0.branches s1) fun (x9 : UO) =>
 some (decide (200 < (x9.ctor.length : Int))))) (fun (v5 : Bool) => cond v5
   (some (.done (.inr false)))
   (some (.next (J1 (s1 + 1))))))
   (some (.done (.inl ())))
def Ws (rc : Tr × Int → Option Bool) (a0 : Tr) (a1 : Int) : Option Bool :=
 Option.bind (cond (decide (40 < a1))
   (some true)
   (cond (decide (40 < (a0.branches.length : Int)))
   (some true)
   (Option.bind (Wu a0.body) fun (x4 : Bool) =>
 some (!x4)))) (fun (v1 : Bool) => cond v1
   (some false)
   (Option.bind (Qv (Gq a0 rc a1) QH 0) (Sum.elim (fun (o3 : Unit) => some true) (fun o => some o))))
def Wt (rc : Tr × Int → Option Bool) (u : Tr × Int) : Option Bool := Ws rc u.1 u.2
def m51 (a0 : Tr) (a1 : Int) : Option Bool := JY Wt QH (a0, a1)
set_option maxRecDepth 100000 in
set_option maxHeartbeats 2000000 in
theorem m51s_ok (rc : Tr × Int → Option Bool) (H : ∀ (a0 : Tr) (a1 : Int) (r : Bool), rc (a0, a1) = some r → Fun Try.prog 51 [.agg (Uy a0), .one (Uv a1)] (Qy [.one (Uw r)])) (a0 : Tr) (a1 : Int) (r : Bool) (h0 : Ws rc a0 a1 = some r) : Fun Try.prog 51 [.agg (Uy a0), .one (Uv a1)] (Qy [.one (Uw r)]) := by
 unfold Ws at h0
 refine QS 9 47 Try.func51 rfl en_51 rfl (Ug rfl) (fun S w => ?_)
 simp only [J8]
 refine Q2 <| Q0 <| Q9 rfl rfl (Ug rfl) (Jc rfl) <| U7 rfl rfl rfl <| Q3 <| Q1 <| Q2 <| Q2 ?_
 refine Ja (fun (v1 : Bool) => ⟨[(1, .v (.one (Uv a1))), (2, .v (.one (.ptr 0 0))), (19, .v (.one (Uw v1)))], [(0, .cells 87 (Uy a0))], [], 1, 47, []⟩) (fun (v1 : Bool) => (cond v1
     (some false)
     (Option.bind (Qv (Gq a0 rc a1) QH 0) (Sum.elim (fun (o3 : Unit) => some true) (fun o => some o)))) = some r) ?_ ?_
 refine Qb h0 (fun w1_ h1 h0 => ?_)
 refine Q0 <| U6 rfl rfl rfl <| U5 rfl rfl rfl (Q5 rfl rfl rfl) <| U6 rfl rfl rfl ?_
 refine QV (d := 8) (c := (decide (40 < a1))) rfl (fun c2 => ?_) (fun c2 => ?_)
 replace h1 := Qm c2 h1
 refine Q8 rfl rfl <| Q8 rfl rfl <| Q8 rfl rfl <| Q8 rfl rfl <| U5 rfl rfl rfl (Qo rfl rfl) <| U6 rfl rfl rfl <| Q8 rfl rfl <| Q8 rfl rfl <| Q8 rfl rfl <| Q8 rfl rfl <| U5 rfl rfl rfl (Qo rfl rfl) <| Q3 ?_
 have e := U3 h1; subst e
 exact Qr true (Qf (U1 rfl (U1 rfl (U1 rfl U0))) (Um rfl Ul) Uh rfl (Nat.zero_le _) rfl rfl rfl (UE rfl rfl UB) rfl rfl) h0
 replace h1 := Qn c2 h1
 refine U5 rfl rfl rfl (Q4 JS rfl) <| U5 rfl rfl rfl (Q7 YO rfl rfl rfl) <| U5 rfl rfl rfl (QB (α := UO) YL rfl (.d _)) <| U5 rfl rfl rfl (Q5 rfl rfl rfl) <| U5 rfl rfl rfl (QG rfl rfl) <| U6 rfl rfl rfl ?_
 refine QV (d := 14) (c := (decide (40 < (a0.branches.length : Int)))) rfl (fun c3 => ?_) (fun c3 => ?_)
 replace h1 := Qm c3 h1
 refine Q8 rfl rfl <| Q8 rfl rfl <| Q8 rfl rfl <| Q8 rfl rfl <| U5 rfl rfl rfl (Qo rfl rfl) <| Q3 ?_
 have e := U3 h1; subst e
 exact Qr true (Qf (U1 rfl (U1 rfl (U1 rfl U0))) (Um rfl Ul) Uh rfl (Nat.zero_le _) rfl rfl rfl (UE rfl rfl UB) rfl rfl) h0
 replace h1 := Qn c3 h1
 refine U5 rfl rfl rfl (Q4 GV rfl) <| U5 rfl rfl rfl (Qq Jh rfl rfl rfl rfl) ?_
 refine Qb h1 (fun x4 hx4 h1 => ?_)
 refine Q9 rfl rfl (Ug rfl) (Ql (Gs a0.body x4 hx4) rfl (.cons (.agg (.cons (.d _) (.cons (.d _) (.cons (.d _) (.cons (.d _) (.cons (.d _) .nil)))))) .nil)) <| U5 rfl rfl rfl (J9 rfl) <| U5 rfl rfl rfl (QG rfl rfl) <| Q3 ?_
 have e := U3 h1; subst e
 exact Qr (!x4) (Qf (U1 rfl (U1 rfl (U1 rfl U0))) (Um rfl Ul) Uh rfl (Nat.zero_le _) rfl rfl rfl (UE rfl rfl UB) rfl rfl) h0
 intro v1 h0
 refine Q1 ?_
 refine Qe (b := v1) rfl (fun c5 => ?_) (fun c5 => ?_)
 replace h0 := Qm c5 h0
 refine Q2 <| Q0 <| U7 rfl rfl rfl <| Q3 <| Q1 <| Qz ?_
 have e := U3 h0; subst e
 exact QK (fun _ _ h => h) rfl (Qk rfl .nil) (.cons (.one (.d _)) .nil)
 replace h0 := Qn c5 h0
 refine Qg <| Q1 <| Q2 <| Q2 <| Q0 <| U7 rfl rfl rfl <| Q3 <| Q1 <| Qc ?_
 refine QF 0 (fun (o6 : Unit) => ⟨[], [(0, .cells 87 (Uy a0))], [], 1, 47, []⟩) (fun (o6 : Unit) => (some true) = some r) ?_ ?_
 refine Qb h0 (fun o7 hl1 h0 => ?_)
 refine QE (Gq a0 rc a1) (fun s1 => ⟨[(1, .v (.one (Uv a1))), (2, .v (.one (.ptr 0 0))), (5, .v (.one (Uv s1)))], [(0, .cells 87 (Uy a0))], [], 1, 47, []⟩) 0 o7 (Qf (U1 rfl (U1 rfl (U1 rfl U0))) (Um rfl Ul) Uh rfl (Nat.zero_le _) rfl rfl rfl (UE rfl rfl UB) rfl rfl) hl1 (fun s1 n1 oo1 h1 ho1 => ?_)
 unfold Gq at h1
 refine Q2 <| Q2 <| Q0 <| U6 rfl rfl rfl <| U5 rfl rfl rfl (Q4 JS rfl) <| U5 rfl rfl rfl (Q7 YO rfl rfl rfl) <| U5 rfl rfl rfl (QB (α := UO) YL rfl (.d _)) <| U5 rfl rfl rfl (Q5 rfl rfl rfl) <| Q3 <| Q1 ?_
 refine Qe (b := (decide (s1 < (a0.branches.length : Int)))) rfl (fun c8 => ?_) (fun c8 => ?_)
 replace h1 := Qm c8 h1
 refine Qg <| Q1 <| Q2 <| Qc <| Q2 ?_
 refine Ja (fun (v9 : Bool) => ⟨[(1, .v (.one (Uv a1))), (2, .v (.one (.ptr 0 0))), (5, .v (.one (Uv s1))), (46, .v (.one (Uw v9)))], [(0, .cells 87 (Uy a0))], [], 1, 47, []⟩) (fun (v9 : Bool) => (cond v9
     (some (.done (.inr false)))
     (some (.next (J1 (s1 + 1))))) = some oo1) ?_ ?_
 refine Qb h1 (fun w2_ h2 h1 => ?_)
 refine Q0 <| U5 rfl rfl rfl (Q4 JS rfl) <| U5 rfl rfl rfl (Q7 YO rfl rfl rfl) <| U6 rfl rfl rfl ?_
 refine Qb h2 (fun x10 hx10 h2 => ?_)
 refine U5 rfl rfl rfl (Qi (α := UO) YL rfl (.d _) rfl hx10) <| U5 rfl rfl rfl (Jj G1 rfl) <| U5 rfl rfl rfl (QY Gh rfl rfl rfl) <| U6 rfl rfl rfl <| U5 rfl rfl rfl (Q5 rfl rfl rfl) ?_
 refine Qb h2 (fun x11 hx11 h2 => ?_)
 refine Q9 rfl rfl (Ug rfl) (Ql (H x10.tree (J1 (a1 + 1)) x11 hx11) rfl (.cons (.agg (.cons (.d _) (.cons (.d _) (.cons (.d _) (.cons (.d _) (.cons (.d _) (.cons (.d _) (.cons (.d _) (.cons (.d _) .nil))))))))) (.cons (.one (.d _)) .nil))) <| U5 rfl rfl rfl (J9 rfl) <| U6 rfl rfl rfl ?_
 refine QV (d := 37) (c := (!x11)) rfl (fun c12 => ?_) (fun c12 => ?_)
 replace h2 := Qm c12 h2
 refine Q8 rfl rfl <| Q8 rfl rfl <| Q8 rfl rfl <| Q8 rfl rfl <| Q8 rfl rfl <| Q8 rfl rfl <| Q8 rfl rfl <| Q8 rfl rfl <| U5 rfl rfl rfl (Qo rfl rfl) <| Q3 ?_
 have e := U3 h2; subst e
 exact Qr true (Qf (U1 rfl (U1 rfl (U1 rfl (U1 rfl U0)))) (Um rfl Ul) Uh rfl (Nat.zero_le _) rfl rfl rfl (UE rfl rfl UB) rfl rfl) h1
 replace h2 := Qn c12 h2
 refine U5 rfl rfl rfl (Q4 JS rfl) <| U5 rfl rfl rfl (Q7 YO rfl rfl rfl) <| U6 rfl rfl rfl ?_
 refine Qb h2 (fun x13 hx13 h2 => ?_)
 refine U5 rfl rfl rfl (Qi (α := UO) YL rfl (.d _) rfl hx13) <| U5 rfl rfl rfl (Jj G2 rfl) <| U5 rfl rfl rfl (QI JG rfl rfl) <| U5 rfl rfl rfl (X3 Wk rfl) <| U5 rfl rfl rfl (Q5 rfl rfl rfl) <| U5 rfl rfl rfl (QG rfl rfl) <| Q3 ?_
 have e := U3 h2; subst e
 exact Qr (decide (200 < (x13.ctor.length : Int))) (Qf (U1 rfl (U1 rfl (U1 rfl (U1 rfl U0)))) (Um rfl Ul) Uh rfl (Nat.zero_le _) rfl rfl rfl (UE rfl rfl UB) rfl rfl) h1
 intro v9 h1
 refine Q1 ?_
 refine Qe (b := v9) rfl (fun c14 => ?_) (fun c14 => ?_)
 replace h1 := Qm c14 h1
 refine Q2 <| Q0 <| U7 rfl rfl rfl <| Q3 <| Q1 <| Qz ?_
 have e := U3 h1; subst e
 have e_ : _ = _ := ho1
 subst e_
 try dsimp only [Sum.elim_inl, Sum.elim_inr] at h0
 have e := U3 h0; subst e
 exact QK (fun _ _ h => h) rfl (Qk rfl .nil) (.cons (.one (.d _)) .nil)
 replace h1 := Qn c14 h1
 refine Qg <| Qh <| Q1 <| Q0 <| U6 rfl rfl rfl <| U5 rfl rfl rfl (Q5 rfl rfl rfl) <| U7 rfl rfl rfl <| Q3 ?_
 have e := U3 h1; subst e
 refine QA (J1 (s1 + 1)) (Qf (U1 rfl (U1 rfl (U1 rfl U0))) (Um rfl Ul) Uh rfl (Nat.zero_le _) rfl rfl rfl (UE rfl rfl UB) rfl rfl) ho1
 replace h1 := Qn c8 h1
 refine QJ <| Qd <| Qd ?_
 have e := U3 h1; subst e
 have e_ : _ = _ := ho1
 subst e_
 exact QD () (Qf U0 (Um rfl Ul) Uh rfl (Nat.zero_le _) rfl rfl rfl (UE rfl rfl UB) rfl rfl) h0
 intro o6 h0
 refine Qu <| Q1 <| Q2 <| Q0 <| U7 rfl rfl rfl <| Q3 <| Q1 <| Qz ?_
 have e := U3 h0; subst e
 exact QK (fun _ _ h => h) rfl (Qk rfl .nil) (.cons (.one (.d _)) .nil)
theorem m51_all (n : Nat) (u : Tr × Int) (r : Bool) (h0 : JY Wt n u = some r) : Fun Try.prog 51 [.agg (Uy u.1), .one (Uv u.2)] (Qy [.one (Uw r)]) :=
 Yy (C := fun u r => Fun Try.prog 51 [.agg (Uy u.1), .one (Uv u.2)] (Qy [.one (Uw r)])) (fun rc H u r h => m51s_ok rc (fun a0 a1 r h => H (a0, a1) r h) u.1 u.2 r h) n u r h0
theorem m51_ok (a0 : Tr) (a1 : Int) (r : Bool) (h0 : m51 a0 a1 = some r) : Fun Try.prog 51 [.agg (Uy a0), .one (Uv a1)] (Qy [.one (Uw r)]) := m51_all QH (a0, a1) r h0
def KU (a0 : Dcl) (s1 : Int) : Option (LO Int (Unit ⊕ Bool)) :=
 cond (decide (s1 < (a0.ctors.length : Int)))
   (Option.bind (Option.bind (Jg a0.ctors s1) fun (x6 : Ctr) =>
 cond (decide (200 < (x6.name.length : Int)))
   (some true)
   (Option.bind (Jg a0.ctors s1) fun (x8 : Ctr) =>
 Option.bind (Wu x8.ty) fun (x9 : Bool) =>
 some (!x9))) (fun (v5 : Bool) => cond v5
   (some (.done (.inr false)))
   (some (.next (J1 (s1 + 1))))))
   (some (.done (.inl ())))
def KA (a0 : Dcl) (s1 : Int) : Option (LO Int (Unit ⊕ Bool)) :=
 cond (decide (s1 < (a0.rcr.rules.length : Int)))
   (Option.bind (Jg a0.rcr.rules s1) fun (x6 : Tm) =>
 Option.bind (Wu x6) fun (x7 : Bool) =>
 cond (!x7)
   (some (.done (.inr false)))
   (some (.next (J1 (s1 + 1)))))
   (some (.done (.inl ())))
def Kd (a0 : Dcl) (s1 : Int) : Option (LO Int (Unit ⊕ Bool)) :=
 cond (decide (s1 < (a0.funs.length : Int)))
   (Option.bind (Option.bind (Jg a0.funs s1) fun (x8 : Fn) =>
 cond (decide (200 < (x8.name.length : Int)))
   (some true)
   (Option.bind (Jg a0.funs s1) fun (x10 : Fn) =>
 Option.bind (Wu x10.ty) fun (x11 : Bool) =>
 cond (!x11)
   (some true)
   (Option.bind (Jg a0.funs s1) fun (x13 : Fn) =>
 Option.bind (m51 x13.tree 0) fun (x14 : Bool) =>
 some (!x14)))) (fun (v7 : Bool) => cond v7
   (some (.done (.inr false)))
   (some (.next (J1 (s1 + 1))))))
   (some (.done (.inl ())))
def WL (a0 : Dcl) : Option Bool :=
 Option.bind (cond (decide (200 < (a0.name.length : Int)))
   (some true)
   (Option.bind (Wu a0.ty) fun (x3 : Bool) =>
 cond (!x3)
   (some true)
   (Option.bind (Wu a0.value) fun (x5 : Bool) =>
 cond (!x5)
   (some true)
   (cond (decide (40 < (a0.ctors.length : Int)))
   (some true)
   (cond (decide (12 < (a0.funs.length : Int)))
   (some true)
   (Option.bind (Wu a0.rcr.ty) fun (x9 : Bool) =>
 cond (!x9)
   (some true)
   (some (decide (40 < (a0.rcr.rules.length : Int)))))))))) (fun (v1 : Bool) => cond v1
   (some false)
   (Option.bind (Qv (KU a0) QH 0) (Sum.elim (fun (o3 : Unit) => Option.bind (Qv (KA a0) QH 0) (Sum.elim (fun (o4 : Unit) => Option.bind (Qv (Kd a0) QH 0) (Sum.elim (fun (o5 : Unit) => some true) (fun o => some o))) (fun o => some o))) (fun o => some o))))
set_option maxRecDepth 100000 in
set_option maxHeartbeats 2000000 in
theorem m30_ok (a0 : Dcl) (r : Bool) (h0 : WL a0 = some r) : Fun Try.prog 30 [.agg (Uy a0)] (Qy [.one (Uw r)]) := by
 unfold WL at h0
 refine QS 9 124 Try.func30 rfl en_30 rfl (Ug rfl) (fun S w => ?_)
 simp only [J8]
 refine Q2 <| Q0 <| Q9 rfl rfl (Ug rfl) (Jc rfl) <| U7 rfl rfl rfl <| Q3 <| Q1 <| Q2 <| Q2 ?_
 refine Ja (fun (v1 : Bool) => ⟨[(1, .v (.one (.ptr 0 0))), (47, .v (.one (Uw v1)))], [(0, .cells 48 (Uy a0))], [], 1, 124, []⟩) (fun (v1 : Bool) => (cond v1
     (some false)
     (Option.bind (Qv (KU a0) QH 0) (Sum.elim (fun (o3 : Unit) => Option.bind (Qv (KA a0) QH 0) (Sum.elim (fun (o4 : Unit) => Option.bind (Qv (Kd a0) QH 0) (Sum.elim (fun (o5 : Unit) => some true) (fun o => some o))) (fun o => some o))) (fun o => some o)))) = some r) ?_ ?_
 refine Qb h0 (fun w1_ h1 h0 => ?_)
 refine Q0 <| U5 rfl rfl rfl (Q4 Z6 rfl) <| U5 rfl rfl rfl (Q7 JG rfl rfl rfl) <| U5 rfl rfl rfl (X3 Wk rfl) <| U5 rfl rfl rfl (Q5 rfl rfl rfl) <| U6 rfl rfl rfl ?_
 refine QV (d := 10) (c := (decide (200 < (a0.name.length : Int)))) rfl (fun c2 => ?_) (fun c2 => ?_)
 replace h1 := Qm c2 h1
 refine Q8 rfl rfl <| Q8 rfl rfl <| Q8 rfl rfl <| Q8 rfl rfl <| U5 rfl rfl rfl (Qo rfl rfl) <| U6 rfl rfl rfl <| Q8 rfl rfl <| Q8 rfl rfl <| Q8 rfl rfl <| Q8 rfl rfl <| U5 rfl rfl rfl (Qo rfl rfl) <| U6 rfl rfl rfl <| Q8 rfl rfl <| Q8 rfl rfl ?_
 refine Q8 rfl rfl <| Q8 rfl rfl <| U5 rfl rfl rfl (Qo rfl rfl) <| U6 rfl rfl rfl <| Q8 rfl rfl <| Q8 rfl rfl <| Q8 rfl rfl <| Q8 rfl rfl <| U5 rfl rfl rfl (Qo rfl rfl) <| U6 rfl rfl rfl <| Q8 rfl rfl <| Q8 rfl rfl <| Q8 rfl rfl <| Q8 rfl rfl ?_
 refine Q8 rfl rfl <| U5 rfl rfl rfl (Qo rfl rfl) <| U6 rfl rfl rfl <| Q8 rfl rfl <| Q8 rfl rfl <| Q8 rfl rfl <| Q8 rfl rfl <| Q8 rfl rfl <| U5 rfl rfl rfl (Qo rfl rfl) <| Q3 ?_
 have e := U3 h1; subst e
 exact Qr true (Qf (U1 rfl (U1 rfl U0)) (Um rfl Ul) Uh rfl (Nat.zero_le _) rfl rfl rfl (UE rfl rfl UB) rfl rfl) h0
 replace h1 := Qn c2 h1
 refine U5 rfl rfl rfl (Q4 GY rfl) <| U5 rfl rfl rfl (Qq Jh rfl rfl rfl rfl) ?_
 refine Qb h1 (fun x3 hx3 h1 => ?_)
 refine Q9 rfl rfl (Ug rfl) (Ql (Gs a0.ty x3 hx3) rfl (.cons (.agg (.cons (.d _) (.cons (.d _) (.cons (.d _) (.cons (.d _) (.cons (.d _) .nil)))))) .nil)) <| U5 rfl rfl rfl (J9 rfl) <| U5 rfl rfl rfl (QG rfl rfl) <| U6 rfl rfl rfl ?_
 refine QV (d := 16) (c := (!x3)) rfl (fun c4 => ?_) (fun c4 => ?_)
 replace h1 := Qm c4 h1
 refine Q8 rfl rfl <| Q8 rfl rfl <| Q8 rfl rfl <| Q8 rfl rfl <| U5 rfl rfl rfl (Qo rfl rfl) <| U6 rfl rfl rfl <| Q8 rfl rfl <| Q8 rfl rfl <| Q8 rfl rfl <| Q8 rfl rfl <| U5 rfl rfl rfl (Qo rfl rfl) <| U6 rfl rfl rfl <| Q8 rfl rfl <| Q8 rfl rfl ?_
 refine Q8 rfl rfl <| Q8 rfl rfl <| U5 rfl rfl rfl (Qo rfl rfl) <| U6 rfl rfl rfl <| Q8 rfl rfl <| Q8 rfl rfl <| Q8 rfl rfl <| Q8 rfl rfl <| Q8 rfl rfl <| U5 rfl rfl rfl (Qo rfl rfl) <| U6 rfl rfl rfl <| Q8 rfl rfl <| Q8 rfl rfl <| Q8 rfl rfl ?_
 refine Q8 rfl rfl <| Q8 rfl rfl <| U5 rfl rfl rfl (Qo rfl rfl) <| Q3 ?_
 have e := U3 h1; subst e
 exact Qr true (Qf (U1 rfl (U1 rfl U0)) (Um rfl Ul) Uh rfl (Nat.zero_le _) rfl rfl rfl (UE rfl rfl UB) rfl rfl) h0
 replace h1 := Qn c4 h1
 refine U5 rfl rfl rfl (Q4 KD rfl) <| U5 rfl rfl rfl (Qq Jh rfl rfl rfl rfl) ?_
 refine Qb h1 (fun x5 hx5 h1 => ?_)
 refine Q9 rfl rfl (Ug rfl) (Ql (Gs a0.value x5 hx5) rfl (.cons (.agg (.cons (.d _) (.cons (.d _) (.cons (.d _) (.cons (.d _) (.cons (.d _) .nil)))))) .nil)) <| U5 rfl rfl rfl (J9 rfl) <| U5 rfl rfl rfl (QG rfl rfl) <| U6 rfl rfl rfl ?_
 refine QV (d := 22) (c := (!x5)) rfl (fun c6 => ?_) (fun c6 => ?_)
 replace h1 := Qm c6 h1
 refine Q8 rfl rfl <| Q8 rfl rfl <| Q8 rfl rfl <| Q8 rfl rfl <| U5 rfl rfl rfl (Qo rfl rfl) <| U6 rfl rfl rfl <| Q8 rfl rfl <| Q8 rfl rfl <| Q8 rfl rfl <| Q8 rfl rfl <| U5 rfl rfl rfl (Qo rfl rfl) <| U6 rfl rfl rfl <| Q8 rfl rfl <| Q8 rfl rfl ?_
 refine Q8 rfl rfl <| Q8 rfl rfl <| Q8 rfl rfl <| U5 rfl rfl rfl (Qo rfl rfl) <| U6 rfl rfl rfl <| Q8 rfl rfl <| Q8 rfl rfl <| Q8 rfl rfl <| Q8 rfl rfl <| Q8 rfl rfl <| U5 rfl rfl rfl (Qo rfl rfl) <| Q3 ?_
 have e := U3 h1; subst e
 exact Qr true (Qf (U1 rfl (U1 rfl U0)) (Um rfl Ul) Uh rfl (Nat.zero_le _) rfl rfl rfl (UE rfl rfl UB) rfl rfl) h0
 replace h1 := Qn c6 h1
 refine U5 rfl rfl rfl (Q4 Yf rfl) <| U5 rfl rfl rfl (Q7 Zu rfl rfl rfl) <| U5 rfl rfl rfl (QB (α := Ctr) YU rfl (.d _)) <| U5 rfl rfl rfl (Q5 rfl rfl rfl) <| U5 rfl rfl rfl (QG rfl rfl) <| U6 rfl rfl rfl ?_
 refine QV (d := 28) (c := (decide (40 < (a0.ctors.length : Int)))) rfl (fun c7 => ?_) (fun c7 => ?_)
 replace h1 := Qm c7 h1
 refine Q8 rfl rfl <| Q8 rfl rfl <| Q8 rfl rfl <| Q8 rfl rfl <| U5 rfl rfl rfl (Qo rfl rfl) <| U6 rfl rfl rfl <| Q8 rfl rfl <| Q8 rfl rfl <| Q8 rfl rfl <| Q8 rfl rfl <| Q8 rfl rfl <| U5 rfl rfl rfl (Qo rfl rfl) <| U6 rfl rfl rfl <| Q8 rfl rfl ?_
 refine Q8 rfl rfl <| Q8 rfl rfl <| Q8 rfl rfl <| Q8 rfl rfl <| U5 rfl rfl rfl (Qo rfl rfl) <| Q3 ?_
 have e := U3 h1; subst e
 exact Qr true (Qf (U1 rfl (U1 rfl U0)) (Um rfl Ul) Uh rfl (Nat.zero_le _) rfl rfl rfl (UE rfl rfl UB) rfl rfl) h0
 replace h1 := Qn c7 h1
 refine U5 rfl rfl rfl (Q4 JB rfl) <| U5 rfl rfl rfl (Q7 Yu rfl rfl rfl) <| U5 rfl rfl rfl (QB (α := Fn) Yd rfl (.d _)) <| U5 rfl rfl rfl (Q5 rfl rfl rfl) <| U5 rfl rfl rfl (QG rfl rfl) <| U6 rfl rfl rfl ?_
 refine QV (d := 34) (c := (decide (12 < (a0.funs.length : Int)))) rfl (fun c8 => ?_) (fun c8 => ?_)
 replace h1 := Qm c8 h1
 refine Q8 rfl rfl <| Q8 rfl rfl <| Q8 rfl rfl <| Q8 rfl rfl <| Q8 rfl rfl <| U5 rfl rfl rfl (Qo rfl rfl) <| U6 rfl rfl rfl <| Q8 rfl rfl <| Q8 rfl rfl <| Q8 rfl rfl <| Q8 rfl rfl <| Q8 rfl rfl <| U5 rfl rfl rfl (Qo rfl rfl) <| Q3 ?_
 have e := U3 h1; subst e
 exact Qr true (Qf (U1 rfl (U1 rfl U0)) (Um rfl Ul) Uh rfl (Nat.zero_le _) rfl rfl rfl (UE rfl rfl UB) rfl rfl) h0
 replace h1 := Qn c8 h1
 refine U5 rfl rfl rfl (Q4 YQ rfl) <| U5 rfl rfl rfl (Q4 GZ rfl) <| U5 rfl rfl rfl (Qq Jh rfl rfl rfl rfl) ?_
 refine Qb h1 (fun x9 hx9 h1 => ?_)
 refine Q9 rfl rfl (Ug rfl) (Ql (Gs a0.rcr.ty x9 hx9) rfl (.cons (.agg (.cons (.d _) (.cons (.d _) (.cons (.d _) (.cons (.d _) (.cons (.d _) .nil)))))) .nil)) <| U5 rfl rfl rfl (J9 rfl) <| U5 rfl rfl rfl (QG rfl rfl) <| U6 rfl rfl rfl ?_
 refine QV (d := 41) (c := (!x9)) rfl (fun c10 => ?_) (fun c10 => ?_)
 replace h1 := Qm c10 h1
 refine Q8 rfl rfl <| Q8 rfl rfl <| Q8 rfl rfl <| Q8 rfl rfl <| Q8 rfl rfl <| U5 rfl rfl rfl (Qo rfl rfl) <| Q3 ?_
 have e := U3 h1; subst e
 exact Qr true (Qf (U1 rfl (U1 rfl U0)) (Um rfl Ul) Uh rfl (Nat.zero_le _) rfl rfl rfl (UE rfl rfl UB) rfl rfl) h0
 replace h1 := Qn c10 h1
 refine U5 rfl rfl rfl (Q4 YQ rfl) <| U5 rfl rfl rfl (Q4 ZD rfl) <| U5 rfl rfl rfl (Q7 Y3 rfl rfl rfl) <| U5 rfl rfl rfl (QB (α := Tm) JH rfl (.d _)) <| U5 rfl rfl rfl (Q5 rfl rfl rfl) <| U5 rfl rfl rfl (QG rfl rfl) <| Q3 ?_
 have e := U3 h1; subst e
 exact Qr (decide (40 < (a0.rcr.rules.length : Int))) (Qf (U1 rfl (U1 rfl U0)) (Um rfl Ul) Uh rfl (Nat.zero_le _) rfl rfl rfl (UE rfl rfl UB) rfl rfl) h0
 intro v1 h0
 refine Q1 ?_
 refine Qe (b := v1) rfl (fun c11 => ?_) (fun c11 => ?_)
 replace h0 := Qm c11 h0
 refine Q2 <| Q0 <| U7 rfl rfl rfl <| Q3 <| Q1 <| Qz ?_
 have e := U3 h0; subst e
 exact QK (fun _ _ h => h) rfl (Qk rfl .nil) (.cons (.one (.d _)) .nil)
 replace h0 := Qn c11 h0
 refine Qg <| Q1 <| Q2 <| Q2 <| Q0 <| U7 rfl rfl rfl <| Q3 <| Q1 <| Qc ?_
 refine QF 0 (fun (o12 : Unit) => ⟨[(1, .v (.one (.ptr 0 0)))], [(0, .cells 48 (Uy a0))], [], 1, 124, []⟩) (fun (o12 : Unit) => (Option.bind (Qv (KA a0) QH 0) (Sum.elim (fun (o13 : Unit) => Option.bind (Qv (Kd a0) QH 0) (Sum.elim (fun (o14 : Unit) => some true) (fun o => some o))) (fun o => some o))) = some r) ?_ ?_
 refine Qb h0 (fun o13 hl1 h0 => ?_)
 refine QE (KU a0) (fun s1 => ⟨[(1, .v (.one (.ptr 0 0))), (3, .v (.one (Uv s1)))], [(0, .cells 48 (Uy a0))], [], 1, 124, []⟩) 0 o13 (Qf (U1 rfl (U1 rfl U0)) (Um rfl Ul) Uh rfl (Nat.zero_le _) rfl rfl rfl (UE rfl rfl UB) rfl rfl) hl1 (fun s1 n1 oo1 h1 ho1 => ?_)
 unfold KU at h1
 refine Q2 <| Q2 <| Q0 <| U6 rfl rfl rfl <| U5 rfl rfl rfl (Q4 Yf rfl) <| U5 rfl rfl rfl (Q7 Zu rfl rfl rfl) <| U5 rfl rfl rfl (QB (α := Ctr) YU rfl (.d _)) <| U5 rfl rfl rfl (Q5 rfl rfl rfl) <| Q3 <| Q1 ?_
 refine Qe (b := (decide (s1 < (a0.ctors.length : Int)))) rfl (fun c14 => ?_) (fun c14 => ?_)
 replace h1 := Qm c14 h1
 refine Qg <| Q1 <| Q2 <| Qc <| Q2 ?_
 refine Ja (fun (v15 : Bool) => ⟨[(1, .v (.one (.ptr 0 0))), (3, .v (.one (Uv s1))), (72, .v (.one (Uw v15)))], [(0, .cells 48 (Uy a0))], [], 1, 124, []⟩) (fun (v15 : Bool) => (cond v15
     (some (.done (.inr false)))
     (some (.next (J1 (s1 + 1))))) = some oo1) ?_ ?_
 refine Qb h1 (fun w2_ h2 h1 => ?_)
 refine Q0 <| U5 rfl rfl rfl (Q4 Yf rfl) <| U5 rfl rfl rfl (Q7 Zu rfl rfl rfl) <| U6 rfl rfl rfl ?_
 refine Qb h2 (fun x16 hx16 h2 => ?_)
 refine U5 rfl rfl rfl (Qi (α := Ctr) YU rfl (.d _) rfl hx16) <| U5 rfl rfl rfl (Jj GX rfl) <| U5 rfl rfl rfl (QI JG rfl rfl) <| U5 rfl rfl rfl (X3 Wk rfl) <| U5 rfl rfl rfl (Q5 rfl rfl rfl) <| U6 rfl rfl rfl ?_
 refine QV (d := 63) (c := (decide (200 < (x16.name.length : Int)))) rfl (fun c17 => ?_) (fun c17 => ?_)
 replace h2 := Qm c17 h2
 refine Q8 rfl rfl <| Q8 rfl rfl <| Q8 rfl rfl <| Q8 rfl rfl <| Q8 rfl rfl <| Q8 rfl rfl <| Q8 rfl rfl <| Q8 rfl rfl <| U5 rfl rfl rfl (Qo rfl rfl) <| Q3 ?_
 have e := U3 h2; subst e
 exact Qr true (Qf (U1 rfl (U1 rfl (U1 rfl U0))) (Um rfl Ul) Uh rfl (Nat.zero_le _) rfl rfl rfl (UE rfl rfl UB) rfl rfl) h1
 replace h2 := Qn c17 h2
 refine U5 rfl rfl rfl (Q4 Yf rfl) <| U5 rfl rfl rfl (Q7 Zu rfl rfl rfl) <| U6 rfl rfl rfl ?_
 refine Qb h2 (fun x18 hx18 h2 => ?_)
 refine U5 rfl rfl rfl (Qi (α := Ctr) YU rfl (.d _) rfl hx18) <| U5 rfl rfl rfl (Jj GW rfl) <| U5 rfl rfl rfl (QY Jh rfl rfl rfl) ?_
 refine Qb h2 (fun x19 hx19 h2 => ?_)
 refine Q9 rfl rfl (Ug rfl) (Ql (Gs x18.ty x19 hx19) rfl (.cons (.agg (.cons (.d _) (.cons (.d _) (.cons (.d _) (.cons (.d _) (.cons (.d _) .nil)))))) .nil)) <| U5 rfl rfl rfl (J9 rfl) <| U5 rfl rfl rfl (QG rfl rfl) <| Q3 ?_
 have e := U3 h2; subst e
 exact Qr (!x19) (Qf (U1 rfl (U1 rfl (U1 rfl U0))) (Um rfl Ul) Uh rfl (Nat.zero_le _) rfl rfl rfl (UE rfl rfl UB) rfl rfl) h1
 intro v15 h1
 refine Q1 ?_
 refine Qe (b := v15) rfl (fun c20 => ?_) (fun c20 => ?_)
 replace h1 := Qm c20 h1
 refine Q2 <| Q0 <| U7 rfl rfl rfl <| Q3 <| Q1 <| Qz ?_
 have e := U3 h1; subst e
 have e_ : _ = _ := ho1
 subst e_
 try dsimp only [Sum.elim_inl, Sum.elim_inr] at h0
 have e := U3 h0; subst e
 exact QK (fun _ _ h => h) rfl (Qk rfl .nil) (.cons (.one (.d _)) .nil)
 replace h1 := Qn c20 h1
 refine Qg <| Qh <| Q1 <| Q0 <| U6 rfl rfl rfl <| U5 rfl rfl rfl (Q5 rfl rfl rfl) <| U7 rfl rfl rfl <| Q3 ?_
 have e := U3 h1; subst e
 refine QA (J1 (s1 + 1)) (Qf (U1 rfl (U1 rfl U0)) (Um rfl Ul) Uh rfl (Nat.zero_le _) rfl rfl rfl (UE rfl rfl UB) rfl rfl) ho1
 replace h1 := Qn c14 h1
 refine QJ <| Qd <| Qd ?_
 have e := U3 h1; subst e
 have e_ : _ = _ := ho1
 subst e_
 exact QD () (Qf (U1 rfl U0) (Um rfl Ul) Uh rfl (Nat.zero_le _) rfl rfl rfl (UE rfl rfl UB) rfl rfl) h0
 intro o12 h0
 refine Qu <| Q1 <| Q2 <| Q2 <| Q0 <| U7 rfl rfl rfl <| Q3 <| Q1 <| Qc ?_
 refine QF 2 (fun (o21 : Unit) => ⟨[(1, .v (.one (.ptr 0 0)))], [(0, .cells 48 (Uy a0))], [], 1, 124, []⟩) (fun (o21 : Unit) => (Option.bind (Qv (Kd a0) QH 0) (Sum.elim (fun (o22 : Unit) => some true) (fun o => some o))) = some r) ?_ ?_
 refine Qb h0 (fun o22 hl1 h0 => ?_)
 refine QE (KA a0) (fun s1 => ⟨[(1, .v (.one (.ptr 0 0))), (4, .v (.one (Uv s1)))], [(0, .cells 48 (Uy a0))], [], 1, 124, []⟩) 0 o22 (Qf (U1 rfl (U1 rfl U0)) (Um rfl Ul) Uh rfl (Nat.zero_le _) rfl rfl rfl (UE rfl rfl UB) rfl rfl) hl1 (fun s1 n1 oo1 h1 ho1 => ?_)
 unfold KA at h1
 refine Q2 <| Q2 <| Q0 <| U6 rfl rfl rfl <| U5 rfl rfl rfl (Q4 YQ rfl) <| U5 rfl rfl rfl (Q4 ZD rfl) <| U5 rfl rfl rfl (Q7 Y3 rfl rfl rfl) <| U5 rfl rfl rfl (QB (α := Tm) JH rfl (.d _)) <| U5 rfl rfl rfl (Q5 rfl rfl rfl) <| Q3 <| Q1 ?_
 refine Qe (b := (decide (s1 < (a0.rcr.rules.length : Int)))) rfl (fun c23 => ?_) (fun c23 => ?_)
 replace h1 := Qm c23 h1
 refine Qg <| Q1 <| Q2 <| Qc <| Q2 <| Q0 <| U5 rfl rfl rfl (Q4 YQ rfl) <| U5 rfl rfl rfl (Q4 ZD rfl) <| U5 rfl rfl rfl (Q7 Y3 rfl rfl rfl) <| U6 rfl rfl rfl ?_
 refine Qb h1 (fun x24 hx24 h1 => ?_)
 refine U5 rfl rfl rfl (Qi (α := Tm) JH rfl (.d _) rfl hx24) <| U5 rfl rfl rfl (QN (x24 : Tm) Jh rfl) ?_
 refine Qb h1 (fun x25 hx25 h1 => ?_)
 refine Q9 rfl rfl (Ug rfl) (Ql (Gs x24 x25 hx25) rfl (.cons (.agg (.cons (.d _) (.cons (.d _) (.cons (.d _) (.cons (.d _) (.cons (.d _) .nil)))))) .nil)) <| U5 rfl rfl rfl (J9 rfl) <| Q3 <| Q1 ?_
 refine Qe (b := (!x25)) rfl (fun c26 => ?_) (fun c26 => ?_)
 replace h1 := Qm c26 h1
 refine Q2 <| Q0 <| U7 rfl rfl rfl <| Q3 <| Q1 <| Qz ?_
 have e := U3 h1; subst e
 have e_ : _ = _ := ho1
 subst e_
 try dsimp only [Sum.elim_inl, Sum.elim_inr] at h0
 have e := U3 h0; subst e
 exact QK (fun _ _ h => h) rfl (Qk rfl .nil) (.cons (.one (.d _)) .nil)
 replace h1 := Qn c26 h1
 refine Qg <| Qh <| Q1 <| Q0 <| U6 rfl rfl rfl <| U5 rfl rfl rfl (Q5 rfl rfl rfl) <| U7 rfl rfl rfl <| Q3 ?_
 have e := U3 h1; subst e
 refine QA (J1 (s1 + 1)) (Qf (U1 rfl (U1 rfl U0)) (Um rfl Ul) Uh rfl (Nat.zero_le _) rfl rfl rfl (UE rfl rfl UB) rfl rfl) ho1
 replace h1 := Qn c23 h1
 refine QJ <| Qd <| Qd ?_
 have e := U3 h1; subst e
 have e_ : _ = _ := ho1
 subst e_
 exact QD () (Qf (U1 rfl U0) (Um rfl Ul) Uh rfl (Nat.zero_le _) rfl rfl rfl (UE rfl rfl UB) rfl rfl) h0
 intro o21 h0
 refine Qu <| Q1 <| Q2 <| Q2 <| Q0 <| U7 rfl rfl rfl <| Q3 <| Q1 <| Qc ?_
 refine QF 4 (fun (o27 : Unit) => ⟨[], [(0, .cells 48 (Uy a0))], [], 1, 124, []⟩) (fun (o27 : Unit) => (some true) = some r) ?_ ?_
 refine Qb h0 (fun o28 hl1 h0 => ?_)
 refine QE (Kd a0) (fun s1 => ⟨[(1, .v (.one (.ptr 0 0))), (5, .v (.one (Uv s1)))], [(0, .cells 48 (Uy a0))], [], 1, 124, []⟩) 0 o28 (Qf (U1 rfl (U1 rfl U0)) (Um rfl Ul) Uh rfl (Nat.zero_le _) rfl rfl rfl (UE rfl rfl UB) rfl rfl) hl1 (fun s1 n1 oo1 h1 ho1 => ?_)
 unfold Kd at h1
 refine Q2 <| Q2 <| Q0 <| U6 rfl rfl rfl <| U5 rfl rfl rfl (Q4 JB rfl) <| U5 rfl rfl rfl (Q7 Yu rfl rfl rfl) <| U5 rfl rfl rfl (QB (α := Fn) Yd rfl (.d _)) <| U5 rfl rfl rfl (Q5 rfl rfl rfl) <| Q3 <| Q1 ?_
 refine Qe (b := (decide (s1 < (a0.funs.length : Int)))) rfl (fun c29 => ?_) (fun c29 => ?_)
 replace h1 := Qm c29 h1
 refine Qg <| Q1 <| Q2 <| Qc <| Q2 ?_
 refine Ja (fun (v30 : Bool) => ⟨[(1, .v (.one (.ptr 0 0))), (5, .v (.one (Uv s1))), (123, .v (.one (Uw v30)))], [(0, .cells 48 (Uy a0))], [], 1, 124, []⟩) (fun (v30 : Bool) => (cond v30
     (some (.done (.inr false)))
     (some (.next (J1 (s1 + 1))))) = some oo1) ?_ ?_
 refine Qb h1 (fun w2_ h2 h1 => ?_)
 refine Q0 <| U5 rfl rfl rfl (Q4 JB rfl) <| U5 rfl rfl rfl (Q7 Yu rfl rfl rfl) <| U6 rfl rfl rfl ?_
 refine Qb h2 (fun x31 hx31 h2 => ?_)
 refine U5 rfl rfl rfl (Qi (α := Fn) Yd rfl (.d _) rfl hx31) <| U5 rfl rfl rfl (Jj GU rfl) <| U5 rfl rfl rfl (QI JG rfl rfl) <| U5 rfl rfl rfl (X3 Wk rfl) <| U5 rfl rfl rfl (Q5 rfl rfl rfl) <| U6 rfl rfl rfl ?_
 refine QV (d := 104) (c := (decide (200 < (x31.name.length : Int)))) rfl (fun c32 => ?_) (fun c32 => ?_)
 replace h2 := Qm c32 h2
 refine Q8 rfl rfl <| Q8 rfl rfl <| Q8 rfl rfl <| Q8 rfl rfl <| Q8 rfl rfl <| Q8 rfl rfl <| Q8 rfl rfl <| Q8 rfl rfl <| U5 rfl rfl rfl (Qo rfl rfl) <| U6 rfl rfl rfl <| Q8 rfl rfl <| Q8 rfl rfl <| Q8 rfl rfl <| Q8 rfl rfl ?_
 refine Q8 rfl rfl <| Q8 rfl rfl <| Q8 rfl rfl <| Q8 rfl rfl <| U5 rfl rfl rfl (Qo rfl rfl) <| Q3 ?_
 have e := U3 h2; subst e
 exact Qr true (Qf (U1 rfl (U1 rfl (U1 rfl U0))) (Um rfl Ul) Uh rfl (Nat.zero_le _) rfl rfl rfl (UE rfl rfl UB) rfl rfl) h1
 replace h2 := Qn c32 h2
 refine U5 rfl rfl rfl (Q4 JB rfl) <| U5 rfl rfl rfl (Q7 Yu rfl rfl rfl) <| U6 rfl rfl rfl ?_
 refine Qb h2 (fun x33 hx33 h2 => ?_)
 refine U5 rfl rfl rfl (Qi (α := Fn) Yd rfl (.d _) rfl hx33) <| U5 rfl rfl rfl (Jj GT rfl) <| U5 rfl rfl rfl (QY Jh rfl rfl rfl) ?_
 refine Qb h2 (fun x34 hx34 h2 => ?_)
 refine Q9 rfl rfl (Ug rfl) (Ql (Gs x33.ty x34 hx34) rfl (.cons (.agg (.cons (.d _) (.cons (.d _) (.cons (.d _) (.cons (.d _) (.cons (.d _) .nil)))))) .nil)) <| U5 rfl rfl rfl (J9 rfl) <| U5 rfl rfl rfl (QG rfl rfl) <| U6 rfl rfl rfl ?_
 refine QV (d := 114) (c := (!x34)) rfl (fun c35 => ?_) (fun c35 => ?_)
 replace h2 := Qm c35 h2
 refine Q8 rfl rfl <| Q8 rfl rfl <| Q8 rfl rfl <| Q8 rfl rfl <| Q8 rfl rfl <| Q8 rfl rfl <| Q8 rfl rfl <| Q8 rfl rfl <| U5 rfl rfl rfl (Qo rfl rfl) <| Q3 ?_
 have e := U3 h2; subst e
 exact Qr true (Qf (U1 rfl (U1 rfl (U1 rfl U0))) (Um rfl Ul) Uh rfl (Nat.zero_le _) rfl rfl rfl (UE rfl rfl UB) rfl rfl) h1
 replace h2 := Qn c35 h2
 refine U5 rfl rfl rfl (Q4 JB rfl) <| U5 rfl rfl rfl (Q7 Yu rfl rfl rfl) <| U6 rfl rfl rfl ?_
 refine Qb h2 (fun x36 hx36 h2 => ?_)
 refine U5 rfl rfl rfl (Qi (α := Fn) Yd rfl (.d _) rfl hx36) <| U5 rfl rfl rfl (Jj GS rfl) <| U5 rfl rfl rfl (QY Gh rfl rfl rfl) ?_
 refine Qb h2 (fun x37 hx37 h2 => ?_)
 refine Q9 rfl rfl (Ug rfl) (Ql (m51_ok x36.tree 0 x37 hx37) rfl (.cons (.agg (.cons (.d _) (.cons (.d _) (.cons (.d _) (.cons (.d _) (.cons (.d _) (.cons (.d _) (.cons (.d _) (.cons (.d _) .nil))))))))) (.cons (.one (.d _)) .nil))) <| U5 rfl rfl rfl (J9 rfl) <| U5 rfl rfl rfl (QG rfl rfl) <| Q3 ?_
 have e := U3 h2; subst e
 exact Qr (!x37) (Qf (U1 rfl (U1 rfl (U1 rfl U0))) (Um rfl Ul) Uh rfl (Nat.zero_le _) rfl rfl rfl (UE rfl rfl UB) rfl rfl) h1
 intro v30 h1
 refine Q1 ?_
 refine Qe (b := v30) rfl (fun c38 => ?_) (fun c38 => ?_)
 replace h1 := Qm c38 h1
 refine Q2 <| Q0 <| U7 rfl rfl rfl <| Q3 <| Q1 <| Qz ?_
 have e := U3 h1; subst e
 have e_ : _ = _ := ho1
 subst e_
 try dsimp only [Sum.elim_inl, Sum.elim_inr] at h0
 have e := U3 h0; subst e
 exact QK (fun _ _ h => h) rfl (Qk rfl .nil) (.cons (.one (.d _)) .nil)
 replace h1 := Qn c38 h1
 refine Qg <| Qh <| Q1 <| Q0 <| U6 rfl rfl rfl <| U5 rfl rfl rfl (Q5 rfl rfl rfl) <| U7 rfl rfl rfl <| Q3 ?_
 have e := U3 h1; subst e
 refine QA (J1 (s1 + 1)) (Qf (U1 rfl (U1 rfl U0)) (Um rfl Ul) Uh rfl (Nat.zero_le _) rfl rfl rfl (UE rfl rfl UB) rfl rfl) ho1
 replace h1 := Qn c29 h1
 refine QJ <| Qd <| Qd ?_
 have e := U3 h1; subst e
 have e_ : _ = _ := ho1
 subst e_
 exact QD () (Qf U0 (Um rfl Ul) Uh rfl (Nat.zero_le _) rfl rfl rfl (UE rfl rfl UB) rfl rfl) h0
 intro o27 h0
 refine Qu <| Q1 <| Q2 <| Q0 <| U7 rfl rfl rfl <| Q3 <| Q1 <| Qz ?_
 have e := U3 h0; subst e
 exact QK (fun _ _ h => h) rfl (Qk rfl .nil) (.cons (.one (.d _)) .nil)
def XU (a0 : List Dcl) (s1 : Int) : Option (LO Int (Unit ⊕ Bool)) :=
 Option.bind (cond (decide (s1 < (a0.length : Int)))
   (some (decide (s1 < 80)))
   (some false)) (fun (v2 : Bool) => cond v2
   (Option.bind (Jg a0 s1) fun (x4 : Dcl) =>
 Option.bind (WL x4) fun (x5 : Bool) =>
 cond (!x5)
   (some (.done (.inr false)))
   (some (.next (J1 (s1 + 1)))))
   (some (.done (.inl ()))))
def Uc (a0 : List Dcl) : Option Bool :=
 Option.bind (Qv (XU a0) QH 0) (Sum.elim (fun (o1 : Unit) => some (decide ((a0.length : Int) ≤ 70))) (fun o => some o))
set_option maxRecDepth 100000 in
set_option maxHeartbeats 2000000 in
theorem m9_ok (a0 : List Dcl) (r : Bool) (h0 : Uc a0 = some r) : Fun Try.prog 9 [.one (Ut a0)] (Qy [.one (Uw r)]) := by
 unfold Uc at h0
 refine QS 9 23 Try.func9 rfl en_9 rfl (Ug rfl) (fun S w => ?_)
 simp only [J8]
 refine Q2 <| Q0 <| U7 rfl rfl rfl <| Q3 <| Q1 <| Q2 <| Q2 <| Q0 <| U7 rfl rfl rfl <| Q3 <| Q1 <| Qc ?_
 refine QF 0 (fun (o1 : Unit) => ⟨[(0, .v (.one (Ut a0)))], [], [], 0, 23, []⟩) (fun (o1 : Unit) => (some (decide ((a0.length : Int) ≤ 70))) = some r) ?_ ?_
 refine Qb h0 (fun o2 hl1 h0 => ?_)
 refine QE (XU a0) (fun s1 => ⟨[(0, .v (.one (Ut a0))), (3, .v (.one (Uv s1)))], [], [], 0, 23, []⟩) 0 o2 (Qf (U1 rfl (U1 rfl U0)) Ul Uh rfl (Nat.zero_le _) rfl rfl rfl UB rfl rfl) hl1 (fun s1 n1 oo1 h1 ho1 => ?_)
 unfold XU at h1
 refine Q2 <| Q2 ?_
 refine Ja (fun (v3 : Bool) => ⟨[(0, .v (.one (Ut a0))), (3, .v (.one (Uv s1))), (11, .v (.one (Uw v3)))], [], [], 0, 23, []⟩) (fun (v3 : Bool) => (cond v3
     (Option.bind (Jg a0 s1) fun (x5 : Dcl) =>
   Option.bind (WL x5) fun (x6 : Bool) =>
   cond (!x6)
     (some (.done (.inr false)))
     (some (.next (J1 (s1 + 1)))))
     (some (.done (.inl ())))) = some oo1) ?_ ?_
 refine Qb h1 (fun w2_ h2 h1 => ?_)
 refine Q0 <| U6 rfl rfl rfl <| U6 rfl rfl rfl <| U5 rfl rfl rfl (QB (α := Dcl) Jm rfl (.d _)) <| U5 rfl rfl rfl (Q5 rfl rfl rfl) <| U6 rfl rfl rfl ?_
 refine QV (d := 8) (c := (decide (s1 < (a0.length : Int)))) rfl (fun c4 => ?_) (fun c4 => ?_)
 replace h2 := Qm c4 h2
 refine U6 rfl rfl rfl <| U5 rfl rfl rfl (Q5 rfl rfl rfl) <| U5 rfl rfl rfl (Qo rfl rfl) <| Q3 ?_
 have e := U3 h2; subst e
 exact Qr (decide (s1 < 80)) (Qf (U1 rfl (U1 rfl (U1 rfl U0))) Ul Uh rfl (Nat.zero_le _) rfl rfl rfl UB rfl rfl) h1
 replace h2 := Qn c4 h2
 refine Q8 rfl rfl <| Q8 rfl rfl <| U5 rfl rfl rfl (QG rfl rfl) <| Q3 ?_
 have e := U3 h2; subst e
 exact Qr false (Qf (U1 rfl (U1 rfl (U1 rfl U0))) Ul Uh rfl (Nat.zero_le _) rfl rfl rfl UB rfl rfl) h1
 intro v3 h1
 refine Q1 ?_
 refine Qe (b := v3) rfl (fun c5 => ?_) (fun c5 => ?_)
 replace h1 := Qm c5 h1
 refine Qg <| Q1 <| Q2 <| Qc <| Q2 <| Q0 <| U6 rfl rfl rfl <| U6 rfl rfl rfl ?_
 refine Qb h1 (fun x6 hx6 h1 => ?_)
 refine U5 rfl rfl rfl (Qi (α := Dcl) Jm rfl (.d _) rfl hx6) <| U5 rfl rfl rfl (QN (x6 : Dcl) Jt rfl) ?_
 refine Qb h1 (fun x7 hx7 h1 => ?_)
 refine Q9 rfl rfl (Ug rfl) (Ql (m30_ok x6 x7 hx7) rfl (.cons (.agg (.cons (.d _) (.cons (.d _) (.cons (.d _) (.cons (.d _) (.cons (.d _) (.cons (.d _) (.cons (.d _) (.cons (.d _) (.cons (.d _) (.cons (.d _) (.cons (.d _) (.cons (.d _) (.cons (.d _) (.cons (.d _) (.cons (.d _) (.cons (.d _) (.cons (.d _) (.cons (.d _) (.cons (.d _) (.cons (.d _) (.cons (.d _) (.cons (.d _) (.cons (.d _) .nil)))))))))))))))))))))))) .nil)) <| U5 rfl rfl rfl (J9 rfl) <| Q3 <| Q1 ?_
 refine Qe (b := (!x7)) rfl (fun c8 => ?_) (fun c8 => ?_)
 replace h1 := Qm c8 h1
 refine Q2 <| Q0 <| U7 rfl rfl rfl <| Q3 <| Q1 <| Qz ?_
 have e := U3 h1; subst e
 have e_ : _ = _ := ho1
 subst e_
 try dsimp only [Sum.elim_inl, Sum.elim_inr] at h0
 have e := U3 h0; subst e
 exact QK (fun _ _ h => h) rfl (Qk rfl .nil) (.cons (.one (.d _)) .nil)
 replace h1 := Qn c8 h1
 refine Qg <| Qh <| Q1 <| Q0 <| U6 rfl rfl rfl <| U5 rfl rfl rfl (Q5 rfl rfl rfl) <| U7 rfl rfl rfl <| Q3 ?_
 have e := U3 h1; subst e
 refine QA (J1 (s1 + 1)) (Qf (U1 rfl (U1 rfl U0)) Ul Uh rfl (Nat.zero_le _) rfl rfl rfl UB rfl rfl) ho1
 replace h1 := Qn c5 h1
 refine QJ <| Qd <| Qd ?_
 have e := U3 h1; subst e
 have e_ : _ = _ := ho1
 subst e_
 exact QD () (Qf (U1 rfl U0) Ul Uh rfl (Nat.zero_le _) rfl rfl rfl UB rfl rfl) h0
 intro o1 h0
 refine Qu <| Q1 <| Q2 <| Q0 <| U6 rfl rfl rfl <| U5 rfl rfl rfl (QB (α := Dcl) Jm rfl (.d _)) <| U5 rfl rfl rfl (Q5 rfl rfl rfl) <| U7 rfl rfl rfl <| Q3 <| Q1 <| Qz ?_
 have e := U3 h0; subst e
 exact QK (fun _ _ h => h) rfl (Qk rfl .nil) (.cons (.one (.d _)) .nil)
end Go.Proofs.Ytijcchddnnnmdaa
namespace Go.Proofs.Ytijcchddnnnmdaa
open Go.RowKit Go.Shelf
set_option linter.unusedSimpArgs false
set_option linter.unusedVariables false
theorem en_29 : J2 Try.prog 29 := enters_of Try.func29 (by kernel_rfl) rfl
def m29_l0 (a0 : List Int) (a1 : List Int) (s1 : Int) : Option (LO Int (Unit ⊕ Bool)) :=
 cond (decide (s1 < (a0.length : Int)))
   (Option.bind (Jg a0 s1) fun (x4 : Int) =>
 Option.bind (Jg a1 s1) fun (x5 : Int) =>
 cond (x4 != x5)
   (some (.done (.inr false)))
   (some (.next (J1 (s1 + 1)))))
   (some (.done (.inl ())))
def WA (a0 : List Int) (a1 : List Int) : Option Bool :=
 cond ((a0.length : Int) != (a1.length : Int))
   (some false)
   (Option.bind (Qv (m29_l0 a0 a1) QH 0) (Sum.elim (fun (o2 : Unit) => some true) (fun o => some o)))
set_option maxRecDepth 100000 in
set_option maxHeartbeats 2000000 in
theorem m29_ok (a0 : List Int) (a1 : List Int) (r : Bool) (h0 : WA a0 a1 = some r) : Fun Try.prog 29 [.one (Ut a0), .one (Ut a1)] (Qy [.one (Uw r)]) := by
 unfold WA at h0
 refine QS 9 26 Try.func29 rfl en_29 rfl (Ug rfl) (fun S w => ?_)
 simp only [J8]
 refine Q2 <| Q0 <| U7 rfl rfl rfl <| Q3 <| Q1 <| Q2 <| Q2 <| Q0 <| U6 rfl rfl rfl <| U5 rfl rfl rfl (QB (α := Int) JM rfl (.d _)) <| U6 rfl rfl rfl <| U5 rfl rfl rfl (QB (α := Int) JM rfl (.d _)) <| U5 rfl rfl rfl (Q5 rfl rfl rfl) <| Q3 ?_
 refine Q1 ?_
 refine Qe (b := ((a0.length : Int) != (a1.length : Int))) rfl (fun c1 => ?_) (fun c1 => ?_)
 replace h0 := Qm c1 h0
 refine Q2 <| Q0 <| U7 rfl rfl rfl <| Q3 <| Q1 <| Qz ?_
 have e := U3 h0; subst e
 exact QK (fun _ _ h => h) rfl (Qk rfl .nil) (.cons (.one (.d _)) .nil)
 replace h0 := Qn c1 h0
 refine Qg <| Q1 <| Q2 <| Q2 <| Q0 <| U6 rfl rfl rfl <| U5 rfl rfl rfl (QB (α := Int) JM rfl (.d _)) <| U6 rfl rfl rfl <| Q3 <| Q1 <| Qc ?_
 refine QF 0 (fun (o2 : Unit) => ⟨[], [], [], 0, 26, []⟩) (fun (o2 : Unit) => (some true) = some r) ?_ ?_
 refine Qb h0 (fun o3 hl1 h0 => ?_)
 refine QE (m29_l0 a0 a1) (fun s1 => ⟨[(0, .v (.one (Ut a0))), (1, .v (.one (Ut a1))), (12, .v (.one (Uv (a0.length : Int)))), (13, .v (.one (Uv s1)))], [], [], 0, 26, []⟩) 0 o3 (Qf (U1 rfl (U1 rfl (U1 rfl (U1 rfl U0)))) Ul Uh rfl (Nat.zero_le _) rfl rfl rfl UB rfl rfl) hl1 (fun s1 n1 oo1 h1 ho1 => ?_)
 unfold m29_l0 at h1
 refine Q2 <| Q0 <| U5 rfl rfl rfl (Q5 rfl rfl rfl) <| Q3 <| Q1 <| Q2 ?_
 refine Qe (b := (decide (s1 < (a0.length : Int)))) rfl (fun c4 => ?_) (fun c4 => ?_)
 replace h1 := Qm c4 h1
 refine Qg <| Q1 <| Q2 <| Qc <| Q2 <| Q0 <| U6 rfl rfl rfl <| U7 rfl rfl rfl <| Q3 <| Q1 <| Q2 ?_
 refine JO [] [] mixed (by kernel_rfl) (by kernel_rfl) (by kernel_rfl) ?_
 refine RunA.rd rfl rfl rfl (Q6 (J0 rfl)) rfl <| RunA.rd rfl rfl rfl (Q6 (J0 rfl)) rfl ?_
 refine Qb h1 (fun x5 hx5 h1 => ?_)
 refine RunA.rd rfl rfl rfl (Q6 (Qi (α := Int) JM rfl (.d _) rfl hx5)) rfl <| RunA.rd rfl rfl rfl (Q6 (QI Yx rfl rfl)) rfl <| RunA.rd rfl rfl rfl (Q6 (J0 rfl)) rfl <| RunA.rd rfl rfl rfl (Q6 (J0 rfl)) rfl ?_
 refine Qb h1 (fun x6 hx6 h1 => ?_)
 refine RunA.rd rfl rfl rfl (Q6 (Qi (α := Int) JM rfl (.d _) rfl hx6)) rfl <| RunA.rd rfl rfl rfl (Q6 (QI Yx rfl rfl)) rfl <| RunA.rd rfl rfl rfl (Q6 (Q5 rfl rfl rfl)) rfl ?_
 refine RunA.nil ⟨?ex, _, _, rfl, ?_⟩
 case ex => exact trivial
 refine JV (st' := ⟨[(0, .v (.one (Ut a0))), (1, .v (.one (Ut a1))), (12, .v (.one (Uv (a0.length : Int)))), (13, .v (.one (Uv s1))), (24, .v (.one (Uw (x5 != x6))))], [], [], 0, 26, []⟩) (Qf (U1 rfl (U1 rfl (U1 rfl (U1 rfl (U1 rfl U0))))) Ul Uh rfl (Nat.zero_le _) rfl rfl rfl UB rfl rfl) <| Q1 ?_
 refine Qe (b := (x5 != x6)) rfl (fun c7 => ?_) (fun c7 => ?_)
 replace h1 := Qm c7 h1
 refine Q2 <| Q0 <| U7 rfl rfl rfl <| Q3 <| Q1 <| Qz ?_
 have e := U3 h1; subst e
 have e_ : _ = _ := ho1
 subst e_
 try dsimp only [Sum.elim_inl, Sum.elim_inr] at h0
 have e := U3 h0; subst e
 exact QK (fun _ _ h => h) rfl (Qk rfl .nil) (.cons (.one (.d _)) .nil)
 replace h1 := Qn c7 h1
 refine Qg <| Qh <| Q1 <| Q0 <| U5 rfl rfl rfl (Q5 rfl rfl rfl) <| U6 rfl rfl rfl <| Q3 ?_
 have e := U3 h1; subst e
 refine QA (J1 (s1 + 1)) (Qf (U1 rfl (U1 rfl (U1 rfl (U1 rfl U0)))) Ul Uh rfl (Nat.zero_le _) rfl rfl rfl UB rfl rfl) ho1
 replace h1 := Qn c4 h1
 refine QJ <| Qd <| Qd ?_
 have e := U3 h1; subst e
 have e_ : _ = _ := ho1
 subst e_
 exact QD () (Qf U0 Ul Uh rfl (Nat.zero_le _) rfl rfl rfl UB rfl rfl) h0
 intro o2 h0
 refine Qu <| Q1 <| Q2 <| Q0 <| U7 rfl rfl rfl <| Q3 <| Q1 <| Qz ?_
 have e := U3 h0; subst e
 exact QK (fun _ _ h => h) rfl (Qk rfl .nil) (.cons (.one (.d _)) .nil)
end Go.Proofs.Ytijcchddnnnmdaa
namespace Go.Proofs.Ytijcchddnnnmdaa
open Go.RowKit Go.Lib
set_option linter.unusedSimpArgs false
set_option linter.unusedVariables false
set_option linter.unusedSectionVars false
theorem Ki {α σ τ β : Type} {step : τ → Option (LO τ β)} (l : List α) (mk : Int → σ → τ) (hlen : l.length ≤ 900000000)
    (hin : ∀ (a : List α) (x : α) (b : List α) (s : σ), l = a ++ x :: b → (∃ r, step (mk (a.length : Int) s) = some (.done r)) ∨ ∃ s', step (mk (a.length : Int) s) = some (.next (mk (J1 ((a.length : Int) + 1)) s')))
    (hout : ∀ s, ∃ r, step (mk (l.length : Int) s) = some (.done r)) (s0 : σ) : ∃ r, Qv step QH (mk 0 s0) = some r := by
  obtain ⟨r, h, -⟩ := Jb l mk (fun _ _ => True) (fun _ => True) hlen (fun a x b s e _ => (hin a x b s e).elim (fun ⟨r, h⟩ => .inl ⟨r, h, trivial⟩) (fun ⟨s', h⟩ => .inr ⟨s', h, trivial⟩)) (fun s _ => let ⟨r, h⟩ := hout s; ⟨r, h, trivial⟩) s0 trivial
  exact ⟨r, h⟩
theorem size_some : ∀ (n : Nat) (t : Tm), t.size ≤ n → t.size ≤ 900000000 → ∃ r, JY Wo n t = some r
  | 0, t, h, _ => by rw [t.size_eq] at h; omega
  | n + 1, t, h, h2 => by
    show ∃ r, Wn (JY Wo n) t = some r
    unfold Wn
    have hl := Kk t
    obtain ⟨r, e⟩ := Ki (step := X9 t (JY Wo n)) t.kids (fun i (s : Int) => (s, i)) (by omega)
      (fun a x b s e => by
        have hx := YF (t := t) (k := x) (by rw [e]; simp)
        obtain ⟨r, hr⟩ := size_some n x (by omega) (by omega)
        refine .inr ⟨J1 (s + r), ?_⟩
        unfold X9
        dsimp only
        rw [e, QX, QR]
        simp only [cond_true, Option.bind_some]
        rw [hr]; rfl) (fun s => ⟨s, by unfold X9; dsimp only; rw [J7]; rfl⟩) 1
    rw [e]; exact ⟨r, rfl⟩
theorem depth_some : ∀ (n : Nat) (t : Tm), t.size ≤ n → t.size ≤ 900000000 → ∃ r, JY Wm n t = some r
  | 0, t, h, _ => by rw [t.size_eq] at h; omega
  | n + 1, t, h, h2 => by
    show ∃ r, Wl (JY Wm n) t = some r
    unfold Wl
    have hl := Kk t
    obtain ⟨r, e⟩ := Ki (step := X8 t (JY Wm n)) t.kids (fun i (s : Int) => (s, i)) (by omega)
      (fun a x b s e => by
        have hx := YF (t := t) (k := x) (by rw [e]; simp)
        obtain ⟨r, hr⟩ := depth_some n x (by omega) (by omega)
        refine .inr ⟨max s r, ?_⟩
        unfold X8
        dsimp only
        rw [e, QX, QR]
        simp only [cond_true, Option.bind_some]
        rw [hr]; rfl) (fun s => ⟨s, by unfold X8; dsimp only; rw [J7]; rfl⟩) 0
    rw [e]; exact ⟨_, rfl⟩
theorem ZZ (t : Tm) (h : t.size ≤ 900000000) : ∃ b, Wu t = some b := by
  unfold Wu
  obtain ⟨r, e⟩ := size_some QH t (by unfold QH; omega) h
  obtain ⟨r2, e2⟩ := depth_some QH t (by unfold QH; omega) h
  unfold m65 m66
  rw [e, e2]
  simp only [Option.bind_some]
  cases decide (r ≤ 400) <;> exact ⟨_, rfl⟩
theorem tree_some : ∀ (n : Nat) (t : Tr) (d : Int), t.size ≤ n → t.size ≤ 900000000 → ∃ r, JY Wt n (t, d) = some r
  | 0, t, d, h, _ => by rw [t.size_eq] at h; omega
  | n + 1, t, d, h, h2 => by
    show ∃ r, Ws (JY Wt n) t d = some r
    unfold Ws
    have hl := branches_len t
    have hsz := t.size_eq
    obtain ⟨b, hb⟩ := ZZ t.body (by omega)
    obtain ⟨r, e⟩ := Ki (step := Gq t (JY Wt n) d) t.branches (fun i (s : Unit) => i) (by omega)
      (fun a x c s e => by
        have hx := Zv (t := t) (b := x) (by rw [e]; simp)
        obtain ⟨r, hr⟩ := tree_some n x.tree (J1 (d + 1)) (by omega) (by omega)
        unfold Gq
        rw [e, QX, QR]
        simp only [cond_true, Option.bind_some]
        rw [hr]
        cases r with
        | false => exact .inl ⟨_, rfl⟩
        | true =>
          simp only [Option.bind_some, Bool.not_true, cond_false]
          cases decide (200 < (x.ctor.length : Int)) with
          | true => exact .inl ⟨_, rfl⟩
          | false => exact .inr ⟨(), rfl⟩) (fun s => ⟨_, by unfold Gq; rw [J7]; rfl⟩) ()
    rw [e, hb]
    cases decide (40 < d) with
    | true => exact ⟨_, rfl⟩
    | false =>
      cases decide (40 < (t.branches.length : Int)) with
      | true => exact ⟨_, rfl⟩
      | false =>
        cases b with
        | false => exact ⟨_, rfl⟩
        | true =>
          cases r with
          | inl u => exact ⟨_, rfl⟩
          | inr u => exact ⟨_, rfl⟩
theorem m30_some (d : Dcl) (h : d.size ≤ 900000000) : ∃ b, WL d = some b := by
  have h1 := Zg d
  have h2 := Zr d
  have h3 := rules_len d
  have hty := Yp (d := d) (t := d.ty) (by unfold Jk; simp)
  have hval := Yp (d := d) (t := d.value) (by unfold Jk; simp)
  have hrt := Yp (d := d) (t := d.rcr.ty) (by unfold Jk; simp)
  obtain ⟨b1, e1⟩ := ZZ d.ty (by omega)
  obtain ⟨b2, e2⟩ := ZZ d.value (by omega)
  obtain ⟨b3, e3⟩ := ZZ d.rcr.ty (by omega)
  obtain ⟨r1, l1⟩ := Ki (step := KU d) d.ctors (fun i (s : Unit) => i) (by omega)
    (fun a x c s e => by
      have hx := Yp (d := d) (t := x.ty) (by unfold Jk; rw [e]; simp)
      obtain ⟨r, hr⟩ := ZZ x.ty (by omega)
      unfold KU
      rw [e, QX, QR]
      simp only [cond_true, Option.bind_some]
      cases decide (200 < (x.name.length : Int)) with
      | true => exact .inl ⟨_, rfl⟩
      | false =>
        simp only [cond_false]
        rw [hr]
        cases r with
        | false => exact .inl ⟨_, rfl⟩
        | true => exact .inr ⟨(), rfl⟩) (fun s => ⟨_, by unfold KU; rw [J7]; rfl⟩) ()
  obtain ⟨r2, l2⟩ := Ki (step := KA d) d.rcr.rules (fun i (s : Unit) => i) (by omega)
    (fun a x c s e => by
      have hx := Yp (d := d) (t := x) (by unfold Jk; rw [e]; simp)
      obtain ⟨r, hr⟩ := ZZ x (by omega)
      unfold KA
      rw [e, QX, QR]
      simp only [cond_true, Option.bind_some]
      rw [hr]
      cases r with
      | false => exact .inl ⟨_, rfl⟩
      | true => exact .inr ⟨(), rfl⟩) (fun s => ⟨_, by unfold KA; rw [J7]; rfl⟩) ()
  obtain ⟨r3, l3⟩ := Ki (step := Kd d) d.funs (fun i (s : Unit) => i) (by omega)
    (fun a x c s e => by
      have hx := Yp (d := d) (t := x.ty) (by unfold Jk; rw [e]; simp)
      have hf := fun_mem (d := d) (f := x) (by rw [e]; simp)
      obtain ⟨r, hr⟩ := ZZ x.ty (by omega)
      obtain ⟨q, hq⟩ := tree_some QH x.tree 0 (by unfold QH; omega) (by omega)
      unfold Kd
      rw [e, QX, QR]
      simp only [cond_true, Option.bind_some]
      cases decide (200 < (x.name.length : Int)) with
      | true => exact .inl ⟨_, rfl⟩
      | false =>
        simp only [cond_false]
        rw [hr]
        cases r with
        | false => exact .inl ⟨_, rfl⟩
        | true =>
          simp only [Option.bind_some, Bool.not_true, cond_false]
          unfold m51
          rw [hq]
          cases q with
          | false => exact .inl ⟨_, rfl⟩
          | true => exact .inr ⟨(), rfl⟩) (fun s => ⟨_, by unfold Kd; rw [J7]; rfl⟩) ()
  have tail : ∃ b, Option.bind (Qv (KU d) QH 0) (Sum.elim (fun (o3 : Unit) => Option.bind (Qv (KA d) QH 0) (Sum.elim (fun (o4 : Unit) => Option.bind (Qv (Kd d) QH 0) (Sum.elim (fun (o5 : Unit) => some true) (fun o => some o))) (fun o => some o))) (fun o => some o)) = some b := by
    rw [l1, l2, l3]
    cases r1 with
    | inr u => exact ⟨_, rfl⟩
    | inl u =>
      cases r2 with
      | inr u => exact ⟨_, rfl⟩
      | inl u =>
        cases r3 with
        | inr u => exact ⟨_, rfl⟩
        | inl u => exact ⟨_, rfl⟩
  obtain ⟨bt, ht⟩ := tail
  unfold WL
  rw [e1, e2, e3, ht]
  cases decide (200 < (d.name.length : Int)) with
  | true => exact ⟨_, rfl⟩
  | false =>
    cases b1 with
    | false => exact ⟨_, rfl⟩
    | true =>
      cases b2 with
      | false => exact ⟨_, rfl⟩
      | true =>
        cases decide (40 < (d.ctors.length : Int)) with
        | true => exact ⟨_, rfl⟩
        | false =>
          cases decide (12 < (d.funs.length : Int)) with
          | true => exact ⟨_, rfl⟩
          | false =>
            cases b3 with
            | false => exact ⟨_, rfl⟩
            | true =>
              cases h7 : decide (40 < (d.rcr.rules.length : Int)) with
              | true => exact ⟨false, by simp [h7]⟩
              | false => exact ⟨bt, by simp [h7]⟩
theorem m9_some (env : List Dcl) (h : Yg env ≤ 900000000) : ∃ b, Uc env = some b ∧ (b = true → env.length ≤ 70) := by
  have hel := Z8 env
  obtain ⟨r, e, hr⟩ := Jb (step := XU env) env (fun i (s : Unit) => i) (fun _ _ => True) (fun r => r = .inl () ∨ r = .inr false) (by omega)
    (fun a x c s e _ => by
      have hx := K9 (env := env) (d := x) (by rw [e]; simp)
      obtain ⟨r, hr⟩ := m30_some x (by omega)
      unfold XU
      rw [e, QX, QR]
      simp only [cond_true, Option.bind_some]
      cases decide ((a.length : Int) < 80) with
      | false => exact .inl ⟨_, rfl, .inl rfl⟩
      | true =>
        simp only [cond_true]
        rw [hr]
        cases r with
        | false => exact .inl ⟨_, rfl, .inr rfl⟩
        | true => exact .inr ⟨(), rfl, trivial⟩) (fun s _ => ⟨_, by unfold XU; rw [J7]; rfl, .inl rfl⟩) () trivial
  unfold Uc
  rw [e]
  rcases hr with rfl | rfl
  · exact ⟨_, rfl, fun hb => by have := of_decide_eq_true hb; omega⟩
  · exact ⟨false, rfl, fun hb => by cases hb⟩
end Go.Proofs.Ytijcchddnnnmdaa
namespace Go.Proofs.Ytijcchddnnnmdaa
open Go.RowKit Go.Shelf
set_option linter.unusedSimpArgs false
set_option linter.unusedVariables false
def m23o_l0 (x10 : (List UN)) (s2 : Int × (Qj UN Int)) (s3 : Int × (Qj UN Int)) : Option (LO (Int × (Qj UN Int)) (((Qj UN Int)) ⊕ (((List (List Int)) × (Qj UN Int)) ⊕ Unit ⊕ Unit))) :=
 cond (decide (s3.1 < (x10.length : Int)))
   (Option.bind (Jg x10 s3.1) fun (x13 : UN) =>
 cond (Jz s3.2 x13)
   (some (.done (.inr (.inr (.inl ())))))
   (some (.next ((J1 (s3.1 + 1)), (Y5 s3.2 x13 s2.1)))))
   (some (.done (.inl s3.2)))
def m23o_l1 (nn : Nat) (a0 : List Dcl) (s2 : Int × (Qj UN Int)) : Option (LO (Int × (Qj UN Int)) (((Qj UN Int)) ⊕ (((List (List Int)) × (Qj UN Int)) ⊕ Unit ⊕ Unit))) :=
 cond (decide (s2.1 < ((nn : Nat) : Int)))
   (Option.bind (Jg a0 s2.1) fun (x8 : Dcl) =>
 Qt (Nat.beq a0.length nn)
 (Option.bind (Wc x8) fun (x10 : (List UN)) =>
 Option.bind (Qv (m23o_l0 x10 s2) QH (0, s2.2)) (Sum.elim (fun (o11 : (Qj UN Int)) => some (.next ((J1 (s2.1 + 1)), o11))) (fun o => some (.done (.inr o))))))
   (some (.done (.inl s2.2)))
def m23o_l2 (x11 : (List UN)) (o6 : (Qj UN Int)) (s3 : (List Int) × Int) : Option (LO ((List Int) × Int) (((List Int)) ⊕ (((List (List Int)) × (Qj UN Int)) ⊕ Unit ⊕ Unit))) :=
 cond (decide (s3.2 < (x11.length : Int)))
   (Option.bind (Jg x11 s3.2) fun (x14 : UN) =>
 cond (!(Jz o6 x14))
   (some (.done (.inr (.inr (.inr ())))))
   (Qt (Nat.ble (s3.1.length + ([(Jl o6 x14)]).length) 1000000000)
 (some (.next ((s3.1 ++ ([(Jl o6 x14)])), (J1 (s3.2 + 1)))))))
   (some (.done (.inl s3.1)))
def m23o_l3 (nn : Nat) (a0 : List Dcl) (o6 : (Qj UN Int)) (s2 : Int × (List (List Int))) : Option (LO (Int × (List (List Int))) (((List (List Int))) ⊕ (((List (List Int)) × (Qj UN Int)) ⊕ Unit ⊕ Unit))) :=
 cond (decide (s2.1 < ((nn : Nat) : Int)))
   (Option.bind (Jg a0 s2.1) fun (x9 : Dcl) =>
 Qt (Nat.beq a0.length nn)
 (Option.bind (Wh x9) fun (x11 : (List UN)) =>
 Option.bind (Qv (m23o_l2 x11 o6) QH (([] : List Int), 0)) (Sum.elim (fun (o12 : (List Int)) => Option.bind (ZA o12) fun (x13 : List Int) =>
 Option.bind (Y2 x13 ((Enc.encL o12).length)) fun (x14 : List Int) =>
 Qt (Nat.ble (s2.2.length + ([x14]).length) 1000000000)
 (some (.next ((J1 (s2.1 + 1)), (s2.2 ++ ([x14])))))) (fun o => some (.done (.inr o))))))
   (some (.done (.inl s2.2)))
def m23o (a0 : List Dcl) (nn : Nat) : Option ((List (List Int)) × Int) :=
 Option.bind (Option.bind (Qv (m23o_l1 nn a0) QH (0, gmNil)) (Sum.elim (fun (o6 : (Qj UN Int)) => Option.bind (Qv (m23o_l3 nn a0 o6) QH (0, ([] : List (List Int)))) (Sum.elim (fun (o7 : (List (List Int))) => some (.inl (o7, o6))) (fun o => some o))) (fun o => some o))) (Sum.elim (fun (y1 : (List (List Int)) × (Qj UN Int)) => some (y1.1, 0)) (Sum.elim (fun (y2 : Unit) => some (([] : List (List Int)), 8)) (fun (y3 : Unit) => some (([] : List (List Int)), 9))))
set_option maxRecDepth 100000 in
set_option maxHeartbeats 2000000 in
theorem m23o_ok (a0 : List Dcl) (nn : Nat) (r : (List (List Int)) × Int) (h0 : m23o a0 nn = some r) : CallM Try.prog 23 [.one (.osl 0 0 nn nn)] ⟨[(0, .cells 48 (Qa a0))], [], 1⟩ (Qy [.one (Ut r.1), .one (Uv r.2)]) ⟨[(0, .cells 48 (Qa a0))], [], 6⟩ := by
 unfold m23o at h0
 refine QP ⟨[(2, .v (.one (Ut r.1))), (3, .v (.one (Uv r.2)))], [(0, .cells 48 (Qa a0))], [], 6, 14, []⟩ rfl rfl en_23 (Ug rfl) rfl (Qk rfl (Qk rfl .nil)) (fun w0 M V0 Q hv0 hQ0 => ?_)
 simp only [J8]
 refine Q2 <| Q0 <| U7 rfl rfl rfl <| U7 rfl rfl rfl <| Q3 <| Q1 <| Q2 <| Q0 <| U6 rfl rfl rfl ?_
 refine Qb h0 (fun y5 h1 h0 => ?_)
 have hc4 : CallM Try.prog 34 [.one (.osl 0 0 nn nn)] ⟨[(0, .cells 48 (Qa a0))], [], 1⟩ (Qy (((Sum.elim (fun (y1 : (List (List Int)) × (Qj UN Int)) => ([.agg [Ux 4 y1.1, .mp 2], .one (Uv 0)] : List AV)) (Sum.elim (fun (y2 : Unit) => ([.agg [Uu, .d (.v (.map none))], .one (Uv 8)] : List AV)) (fun (y3 : Unit) => ([.agg [Uu, .d (.v (.map none))], .one (Uv 9)] : List AV))))) y5)) ⟨(((Sum.elim (fun (y1 : (List (List Int)) × (Qj UN Int)) => (⟨[(2, .v (.one (.ptr 1 0))), (3, .v (.one (Uv 0)))], [(0, .cells 48 (Qa a0)), (1, .cells 72 [Ux 4 y1.1, .mp 2]), (2, .mp (QT y1.2.1) y1.2.2)], [(4, some ⟨54, 1, (Enc.encL y1.1).length, []⟩)], 5, 88, []⟩ : St)) (Sum.elim (fun (y2 : Unit) => (⟨[(2, .v (.one (.ptr 1 0))), (3, .v (.one (Uv 8)))], [(0, .cells 48 (Qa a0)), (1, .cells 72 [Uu, .d (.v (.map none))])], [], 5, 88, []⟩ : St)) (fun (y3 : Unit) => (⟨[(2, .v (.one (.ptr 1 0))), (3, .v (.one (Uv 9)))], [(0, .cells 48 (Qa a0)), (1, .cells 72 [Uu, .d (.v (.map none))])], [], 7, 88, []⟩ : St))))) y5).hp, (((Sum.elim (fun (y1 : (List (List Int)) × (Qj UN Int)) => (⟨[(2, .v (.one (.ptr 1 0))), (3, .v (.one (Uv 0)))], [(0, .cells 48 (Qa a0)), (1, .cells 72 [Ux 4 y1.1, .mp 2]), (2, .mp (QT y1.2.1) y1.2.2)], [(4, some ⟨54, 1, (Enc.encL y1.1).length, []⟩)], 5, 88, []⟩ : St)) (Sum.elim (fun (y2 : Unit) => (⟨[(2, .v (.one (.ptr 1 0))), (3, .v (.one (Uv 8)))], [(0, .cells 48 (Qa a0)), (1, .cells 72 [Uu, .d (.v (.map none))])], [], 5, 88, []⟩ : St)) (fun (y3 : Unit) => (⟨[(2, .v (.one (.ptr 1 0))), (3, .v (.one (Uv 9)))], [(0, .cells 48 (Qa a0)), (1, .cells 72 [Uu, .d (.v (.map none))])], [], 7, 88, []⟩ : St))))) y5).tk, (((Sum.elim (fun (y1 : (List (List Int)) × (Qj UN Int)) => (⟨[(2, .v (.one (.ptr 1 0))), (3, .v (.one (Uv 0)))], [(0, .cells 48 (Qa a0)), (1, .cells 72 [Ux 4 y1.1, .mp 2]), (2, .mp (QT y1.2.1) y1.2.2)], [(4, some ⟨54, 1, (Enc.encL y1.1).length, []⟩)], 5, 88, []⟩ : St)) (Sum.elim (fun (y2 : Unit) => (⟨[(2, .v (.one (.ptr 1 0))), (3, .v (.one (Uv 8)))], [(0, .cells 48 (Qa a0)), (1, .cells 72 [Uu, .d (.v (.map none))])], [], 5, 88, []⟩ : St)) (fun (y3 : Unit) => (⟨[(2, .v (.one (.ptr 1 0))), (3, .v (.one (Uv 9)))], [(0, .cells 48 (Qa a0)), (1, .cells 72 [Uu, .d (.v (.map none))])], [], 7, 88, []⟩ : St))))) y5).nx⟩ := by
  refine JN y5 ((Sum.elim (fun (y1 : (List (List Int)) × (Qj UN Int)) => (⟨[(2, .v (.one (.ptr 1 0))), (3, .v (.one (Uv 0)))], [(0, .cells 48 (Qa a0)), (1, .cells 72 [Ux 4 y1.1, .mp 2]), (2, .mp (QT y1.2.1) y1.2.2)], [(4, some ⟨54, 1, (Enc.encL y1.1).length, []⟩)], 5, 88, []⟩ : St)) (Sum.elim (fun (y2 : Unit) => (⟨[(2, .v (.one (.ptr 1 0))), (3, .v (.one (Uv 8)))], [(0, .cells 48 (Qa a0)), (1, .cells 72 [Uu, .d (.v (.map none))])], [], 5, 88, []⟩ : St)) (fun (y3 : Unit) => (⟨[(2, .v (.one (.ptr 1 0))), (3, .v (.one (Uv 9)))], [(0, .cells 48 (Qa a0)), (1, .cells 72 [Uu, .d (.v (.map none))])], [], 7, 88, []⟩ : St))))) ((Sum.elim (fun (y1 : (List (List Int)) × (Qj UN Int)) => ([.agg [Ux 4 y1.1, .mp 2], .one (Uv 0)] : List AV)) (Sum.elim (fun (y2 : Unit) => ([.agg [Uu, .d (.v (.map none))], .one (Uv 8)] : List AV)) (fun (y3 : Unit) => ([.agg [Uu, .d (.v (.map none))], .one (Uv 9)] : List AV))))) rfl rfl W5 (Ug rfl) (fun z_ => by cases z_ with
    | inl _ => rfl
    | inr z_ => exact (by cases z_ <;> rfl)) (fun z_ => by cases z_ with
    | inl _ => exact (Yo Jq rfl rfl rfl rfl (Qk rfl .nil))
    | inr z_ => exact (by cases z_ with
    | inl _ => exact (Yo Jq rfl rfl rfl rfl (Qk rfl .nil))
    | inr _ => exact (Yo Jq rfl rfl rfl rfl (Qk rfl .nil)))) (fun w0 M V0 Q hv1 hQ1 => ?_)
  simp only [J8]
  refine Q2 <| Q0 <| Q9 rfl rfl (Ug rfl) (QC Zw rfl) <| U7 rfl rfl rfl <| Q3 <| Q1 <| Q2 <| Q0 <| Q9 rfl rfl (Ug rfl) (Yl UN Int) <| U5 rfl rfl rfl (ZQ K5 rfl rfl rfl) <| Q9 rfl rfl (Ug rfl) (QC Zw rfl) <| QL rfl rfl (Qw Jq rfl rfl rfl rfl (Ug rfl) rfl) <| Q3 <| Q1 ?_
  refine Q2 <| Q2 <| Q0 <| U6 rfl rfl rfl <| U5 rfl rfl rfl (Yc Jm rfl) <| U6 rfl rfl rfl <| Q3 <| Q1 <| Qc ?_
  refine QF 0 (fun (o6 : (Qj UN Int)) => ⟨[(0, .v (.one (.osl 0 0 nn nn))), (2, .v (.one (.ptr 1 0))), (4, .v (.one (.ptr 3 0)))], [(0, .cells 48 (Qa a0)), (1, .cells 72 [Uu, .d (.v (.map none))]), (2, .mp (QT o6.1) o6.2), (3, .cells 72 [Uu, .mp 2])], [], 4, 88, []⟩) (fun (o6 : (Qj UN Int)) => (Option.bind (Qv (m23o_l3 nn a0 o6) QH (0, ([] : List (List Int)))) (Sum.elim (fun (o7 : (List (List Int))) => some (.inl (o7, o6))) (fun o => some o))) = some y5) ?_ ?_
  refine Qb h1 (fun o7 hl2 h1 => ?_)
  refine QE (m23o_l1 nn a0) (fun s2 => ⟨[(0, .v (.one (.osl 0 0 nn nn))), (2, .v (.one (.ptr 1 0))), (4, .v (.one (.ptr 3 0))), (20, .v (.one (.osl 0 0 nn nn))), (21, .v (.one (Uv ((nn : Nat) : Int)))), (22, .v (.one (Uv s2.1)))], [(0, .cells 48 (Qa a0)), (1, .cells 72 [Uu, .d (.v (.map none))]), (2, .mp (QT s2.2.1) s2.2.2), (3, .cells 72 [Uu, .mp 2])], [], 4, 88, []⟩) (0, gmNil) o7 (Qf (U1 rfl (U1 rfl (U1 rfl (U1 rfl (U1 rfl (U1 rfl U0)))))) (Um rfl (Um rfl (Um rfl (Um rfl Ul)))) Uh rfl (Nat.le_trans hv1 (Ug rfl)) rfl rfl rfl (UD rfl (UE rfl rfl (UC rfl (UE rfl rfl UB)))) rfl rfl) hl2 (fun s2 n2 oo2 h2 ho2 => ?_)
  unfold m23o_l1 at h2
  refine Q2 <| Q0 <| U5 rfl rfl rfl (Q5 rfl rfl rfl) <| Q3 <| Q1 <| Q2 ?_
  refine Qe (b := (decide (s2.1 < ((nn : Nat) : Int)))) rfl (fun c8 => ?_) (fun c8 => ?_)
  replace h2 := Qm c8 h2
  refine Qg <| Q1 <| Q2 <| Qc <| Q2 <| Q0 <| U6 rfl rfl rfl ?_
  refine Qb h2 (fun x9 hx9 h2 => ?_)
  refine QQ h2 (fun g10 h2 => ?_)
  refine U5 rfl rfl rfl (Ju (α := Dcl) Jm rfl rfl hx9 g10) <| U5 rfl rfl rfl (YB (α := Dcl) (ys := [Uv x9.kind, YZ x9.name, Uv x9.params, Uv x9.ty.kind, Uv x9.ty.index, YZ x9.ty.name, Ut x9.ty.levels, Ut x9.ty.kids, Uv x9.value.kind, Uv x9.value.index, YZ x9.value.name, Ut x9.value.levels, Ut x9.value.kids, Uv x9.fixed, Ut x9.ctors, Uv x9.rcr.params, Uv x9.rcr.ty.kind, Uv x9.rcr.ty.index, YZ x9.rcr.ty.name, Ut x9.rcr.ty.levels, Ut x9.rcr.ty.kids, Ut x9.rcr.rules, Ut x9.funs]) Jt rfl rfl hx9 rfl) <| Q9 rfl rfl (Ug rfl) (QC KJ rfl) <| U7 rfl rfl rfl <| QL rfl rfl (Jo (x9 : Dcl) Jt rfl rfl rfl rfl rfl) <| Q3 <| Q1 <| Q2 <| Q0 <| U5 rfl rfl rfl (JQ (x9 : Dcl) Jt rfl rfl) ?_
  refine Qb h2 (fun x11 hx11 h2 => ?_)
  refine Q9 rfl rfl (Ug rfl) (Ql (Gx x9 x11 hx11) rfl (.cons (.agg (.cons (.d _) (.cons (.d _) (.cons (.d _) (.cons (.d _) (.cons (.d _) (.cons (.d _) (.cons (.d _) (.cons (.d _) (.cons (.d _) (.cons (.d _) (.cons (.d _) (.cons (.d _) (.cons (.d _) (.cons (.d _) (.cons (.d _) (.cons (.d _) (.cons (.d _) (.cons (.d _) (.cons (.d _) (.cons (.d _) (.cons (.d _) (.cons (.d _) (.cons (.d _) .nil)))))))))))))))))))))))) .nil)) <| U5 rfl rfl rfl (QB (α := UN) QU rfl (.d _)) <| U6 rfl rfl rfl <| Q3 <| Q1 <| Qc ?_
  refine QF 2 (fun (o12 : (Qj UN Int)) => ⟨[(0, .v (.one (.osl 0 0 nn nn))), (2, .v (.one (.ptr 1 0))), (4, .v (.one (.ptr 3 0))), (20, .v (.one (.osl 0 0 nn nn))), (21, .v (.one (Uv ((nn : Nat) : Int)))), (22, .v (.one (Uv s2.1)))], [(0, .cells 48 (Qa a0)), (1, .cells 72 [Uu, .d (.v (.map none))]), (2, .mp (QT o12.1) o12.2), (3, .cells 72 [Uu, .mp 2]), (4, .cells 48 (Uy x9))], [], 5, 88, []⟩) (fun (o12 : (Qj UN Int)) => (some (.next ((J1 (s2.1 + 1)), o12))) = some oo2) ?_ ?_
  refine Qb h2 (fun o13 hl3 h2 => ?_)
  refine QE (m23o_l0 x11 s2) (fun s3 => ⟨[(0, .v (.one (.osl 0 0 nn nn))), (2, .v (.one (.ptr 1 0))), (4, .v (.one (.ptr 3 0))), (5, .v (.one (Uv s2.1))), (20, .v (.one (.osl 0 0 nn nn))), (21, .v (.one (Uv ((nn : Nat) : Int)))), (22, .v (.one (Uv s2.1))), (28, .v (.one (Ut x11))), (29, .v (.one (Uv (x11.length : Int)))), (30, .v (.one (Uv s3.1)))], [(0, .cells 48 (Qa a0)), (1, .cells 72 [Uu, .d (.v (.map none))]), (2, .mp (QT s3.2.1) s3.2.2), (3, .cells 72 [Uu, .mp 2]), (4, .cells 48 (Uy x9))], [], 5, 88, []⟩) (0, s2.2) o13 (Qf (U1 rfl (U1 rfl (U1 rfl (U1 rfl (U1 rfl (U1 rfl (U1 rfl (U1 rfl (U1 rfl (U1 rfl U0)))))))))) (Um rfl (Um rfl (Um rfl (Um rfl (Um rfl Ul))))) Uh rfl (Nat.le_trans hv1 (Ug rfl)) rfl rfl rfl (UD rfl (UE rfl rfl (UC rfl (UE rfl rfl (UE rfl rfl UB))))) rfl rfl) hl3 (fun s3 n3 oo3 h3 ho3 => ?_)
  unfold m23o_l0 at h3
  refine Q2 <| Q0 <| U5 rfl rfl rfl (Q5 rfl rfl rfl) <| Q3 <| Q1 <| Q2 ?_
  refine Qe (b := (decide (s3.1 < (x11.length : Int)))) rfl (fun c14 => ?_) (fun c14 => ?_)
  replace h3 := Qm c14 h3
  refine Qg <| Q1 <| Q2 <| Qc <| Q2 <| Q0 ?_
  refine Qb h3 (fun x15 hx15 h3 => ?_)
  refine U5 rfl rfl rfl (Qi (α := UN) QU rfl (.d _) rfl hx15) <| U5 rfl rfl rfl (QI JG rfl rfl) <| U7 rfl rfl rfl <| Q3 <| Q1 <| Q2 <| Q2 <| Q0 <| U5 rfl rfl rfl (Q4 Y9 rfl) <| U5 rfl rfl rfl (Q7 Zc rfl rfl rfl) <| U6 rfl rfl rfl <| U5 rfl rfl rfl (JI (M := s3.2) (k := x15) Zb YG rfl rfl rfl) <| U6 rfl rfl rfl <| U5 rfl rfl rfl (Qp rfl rfl) ?_
  refine U5 rfl rfl rfl (Qp rfl rfl) <| U7 rfl rfl rfl <| U7 rfl rfl rfl <| Q3 <| Q1 <| Q2 <| Q0 <| U6 rfl rfl rfl <| Q3 <| Q1 ?_
  refine Qe (b := (Jz s3.2 x15)) rfl (fun c16 => ?_) (fun c16 => ?_)
  replace h3 := Qm c16 h3
  refine Q2 <| Q0 <| U5 rfl rfl rfl (Ys K5 rfl ) <| QL rfl rfl (Qw Jq rfl rfl rfl rfl (Ug rfl) rfl) <| U7 rfl rfl rfl <| Q3 <| Q1 <| Qz ?_
  have e := U3 h3; subst e
  have e_ : _ = _ := ho3
  subst e_
  try dsimp only [Sum.elim_inl, Sum.elim_inr] at h2
  have e := U3 h2; subst e
  have e_ : _ = _ := ho2
  subst e_
  try dsimp only [Sum.elim_inl, Sum.elim_inr] at h1
  have e := U3 h1; subst e
  exact hQ1 _ _ _ (.inr rfl) rfl (show StLe _ _ ⟨[(2, .v (.one (.ptr 1 0))), (3, .v (.one (Uv 8)))], [(0, .cells 48 (Qa a0)), (1, .cells 72 [Uu, .d (.v (.map none))])], [], 5, 88, []⟩ from (Qf (U1 rfl (U1 rfl U0)) (Um rfl (Um rfl Ul)) Uh rfl (Nat.le_trans hv1 (Ug rfl)) rfl rfl rfl (UD rfl (UE rfl rfl UB)) rfl rfl))
  replace h3 := Qn c16 h3
  refine Qg <| Q1 <| Q0 <| U5 rfl rfl rfl (Q4 Y9 rfl) <| U5 rfl rfl rfl (Q7 Zc rfl rfl rfl) <| U6 rfl rfl rfl <| U6 rfl rfl rfl <| QL rfl rfl (JW (M := s3.2) (k := x15) (v := s2.1) Zb rfl rfl rfl rfl rfl) <| Q3 <| Qh <| Q1 <| Q0 <| U5 rfl rfl rfl (Q5 rfl rfl rfl) <| U6 rfl rfl rfl ?_
  refine Q3 ?_
  have e := U3 h3; subst e
  refine QA ((J1 (s3.1 + 1)), (Y5 s3.2 x15 s2.1)) (Qf (U1 rfl (U1 rfl (U1 rfl (U1 rfl (U1 rfl (U1 rfl (U1 rfl (U1 rfl (U1 rfl (U1 rfl U0)))))))))) (Um rfl (Um rfl (Um rfl (Um rfl (Um rfl Ul))))) Uh rfl (Nat.le_trans hv1 (Ug rfl)) rfl rfl rfl (UD rfl (UE rfl rfl (UC rfl (UE rfl rfl (UE rfl rfl UB))))) rfl rfl) ho3
  replace h3 := Qn c14 h3
  refine QJ <| Qd <| Qd ?_
  have e := U3 h3; subst e
  have e_ : _ = _ := ho3
  subst e_
  exact QD s3.2 (Qf (U1 rfl (U1 rfl (U1 rfl (U1 rfl (U1 rfl (U1 rfl U0)))))) (Um rfl (Um rfl (Um rfl (Um rfl (Um rfl Ul))))) Uh rfl (Nat.le_trans hv1 (Ug rfl)) rfl rfl rfl (UD rfl (UE rfl rfl (UC rfl (UE rfl rfl (UE rfl rfl UB))))) rfl rfl) h2
  intro o12 h2
  refine Qu <| Qh <| Q1 <| Q0 <| U5 rfl rfl rfl (Q5 rfl rfl rfl) <| U6 rfl rfl rfl <| Q3 ?_
  have e := U3 h2; subst e
  refine QA ((J1 (s2.1 + 1)), o12) (Qf (U1 rfl (U1 rfl (U1 rfl (U1 rfl (U1 rfl (U1 rfl U0)))))) (Um rfl (Um rfl (Um rfl (Um rfl Ul)))) Uh rfl (Nat.le_trans hv1 (Ug rfl)) rfl rfl rfl (UD rfl (UE rfl rfl (UC rfl (UE rfl rfl UB)))) rfl rfl) ho2
  replace h2 := Qn c8 h2
  refine QJ <| Qd <| Qd ?_
  have e := U3 h2; subst e
  have e_ : _ = _ := ho2
  subst e_
  exact QD s2.2 (Qf (U1 rfl (U1 rfl (U1 rfl U0))) (Um rfl (Um rfl (Um rfl (Um rfl Ul)))) Uh rfl (Nat.le_trans hv1 (Ug rfl)) rfl rfl rfl (UD rfl (UE rfl rfl (UC rfl (UE rfl rfl UB)))) rfl rfl) h1
  intro o6 h1
  refine Qu <| Q1 <| Q2 <| Q2 <| Q0 <| U6 rfl rfl rfl <| U5 rfl rfl rfl (Yc Jm rfl) <| U6 rfl rfl rfl <| Q3 <| Q1 <| Qc ?_
  refine QF 4 (fun (o17 : (List (List Int))) => ⟨[(2, .v (.one (.ptr 1 0))), (4, .v (.one (.ptr 3 0)))], [(0, .cells 48 (Qa a0)), (1, .cells 72 [Uu, .d (.v (.map none))]), (2, .mp (QT o6.1) o6.2), (3, .cells 72 [Ux 4 o17, .mp 2])], [(4, some ⟨54, 1, (Enc.encL o17).length, []⟩)], 5, 88, []⟩) (fun (o17 : (List (List Int))) => (some (.inl (o17, o6))) = some y5) ?_ ?_
  refine Zj (i := 3) (off := 0) 54 1 rfl rfl ?_
  refine Qb h1 (fun o18 hl2 h1 => ?_)
  refine QE (m23o_l3 nn a0 o6) (fun s2 => ⟨[(2, .v (.one (.ptr 1 0))), (4, .v (.one (.ptr 3 0))), (49, .v (.one (.osl 0 0 nn nn))), (50, .v (.one (Uv ((nn : Nat) : Int)))), (51, .v (.one (Uv s2.1)))], [(0, .cells 48 (Qa a0)), (1, .cells 72 [Uu, .d (.v (.map none))]), (2, .mp (QT o6.1) o6.2), (3, .cells 72 [Ux 4 s2.2, .mp 2])], [(4, some ⟨54, 1, (Enc.encL s2.2).length, []⟩)], 5, 88, []⟩) (0, ([] : List (List Int))) o18 (Qf (U1 rfl (U1 rfl (U1 rfl (U1 rfl (U1 rfl U0))))) (Um rfl (Um rfl (Um rfl (Um rfl Ul)))) (Ui rfl Uh) rfl (Nat.le_trans hv1 (Ug rfl)) rfl rfl rfl (UD rfl (UE rfl rfl (UC rfl (UE rfl rfl UB)))) rfl rfl) hl2 (fun s2 n2 oo2 h2 ho2 => ?_)
  unfold m23o_l3 at h2
  refine Q2 <| Q0 <| U5 rfl rfl rfl (Q5 rfl rfl rfl) <| Q3 <| Q1 <| Q2 ?_
  refine Qe (b := (decide (s2.1 < ((nn : Nat) : Int)))) rfl (fun c19 => ?_) (fun c19 => ?_)
  replace h2 := Qm c19 h2
  refine Qg <| Q1 <| Q2 <| Qc <| Q2 <| Q0 ?_
  refine Qb h2 (fun x20 hx20 h2 => ?_)
  refine QQ h2 (fun g21 h2 => ?_)
  refine U5 rfl rfl rfl (Ju (α := Dcl) Jm rfl rfl hx20 g21) <| U5 rfl rfl rfl (YB (α := Dcl) (ys := [Uv x20.kind, YZ x20.name, Uv x20.params, Uv x20.ty.kind, Uv x20.ty.index, YZ x20.ty.name, Ut x20.ty.levels, Ut x20.ty.kids, Uv x20.value.kind, Uv x20.value.index, YZ x20.value.name, Ut x20.value.levels, Ut x20.value.kids, Uv x20.fixed, Ut x20.ctors, Uv x20.rcr.params, Uv x20.rcr.ty.kind, Uv x20.rcr.ty.index, YZ x20.rcr.ty.name, Ut x20.rcr.ty.levels, Ut x20.rcr.ty.kids, Ut x20.rcr.rules, Ut x20.funs]) Jt rfl rfl hx20 rfl) <| Q9 rfl rfl (Ug rfl) (QC KJ rfl) <| QL rfl rfl (Jo (x20 : Dcl) Jt rfl rfl rfl rfl rfl) <| Q3 <| Q1 <| Q2 <| Q0 <| U7 rfl rfl rfl <| Q3 <| Q1 <| Q2 <| Q2 <| Q0 ?_
  refine U5 rfl rfl rfl (JQ (x20 : Dcl) Jt rfl rfl) ?_
  refine Qb h2 (fun x22 hx22 h2 => ?_)
  refine Q9 rfl rfl (Ug rfl) (Ql (XD x20 x22 hx22) rfl (.cons (.agg (.cons (.d _) (.cons (.d _) (.cons (.d _) (.cons (.d _) (.cons (.d _) (.cons (.d _) (.cons (.d _) (.cons (.d _) (.cons (.d _) (.cons (.d _) (.cons (.d _) (.cons (.d _) (.cons (.d _) (.cons (.d _) (.cons (.d _) (.cons (.d _) (.cons (.d _) (.cons (.d _) (.cons (.d _) (.cons (.d _) (.cons (.d _) (.cons (.d _) (.cons (.d _) .nil)))))))))))))))))))))))) .nil)) <| U5 rfl rfl rfl (QB (α := UN) QU rfl (.d _)) <| U6 rfl rfl rfl <| Q3 <| Q1 <| Qc ?_
  refine QF 6 (fun (o23 : (List Int)) => ⟨[(2, .v (.one (.ptr 1 0))), (4, .v (.one (.ptr 3 0))), (13, .v (.one (.apv 6 1 ((Enc.encL o23).length) []))), (49, .v (.one (.osl 0 0 nn nn))), (50, .v (.one (Uv ((nn : Nat) : Int)))), (51, .v (.one (Uv s2.1)))], [(0, .cells 48 (Qa a0)), (1, .cells 72 [Uu, .d (.v (.map none))]), (2, .mp (QT o6.1) o6.2), (3, .cells 72 [Ux 4 s2.2, .mp 2]), (5, .cells 48 (Uy x20))], [(4, some ⟨54, 1, (Enc.encL s2.2).length, []⟩), (6, some ⟨3, 1, (Enc.encL o23).length, (Enc.encL o23).flatten⟩)], 7, 88, []⟩) (fun (o23 : (List Int)) => (Option.bind (ZA o23) fun (x24 : List Int) =>
    Option.bind (Y2 x24 ((Enc.encL o23).length)) fun (x25 : List Int) =>
    Qt (Nat.ble (s2.2.length + ([x25]).length) 1000000000)
    (some (.next ((J1 (s2.1 + 1)), (s2.2 ++ ([x25])))))) = some oo2) ?_ ?_
  refine JD (t := 13) 3 1 rfl <| Kt (α := Int) (t := 13) rfl rfl ?_
  refine Qb h2 (fun o24 hl3 h2 => ?_)
  refine QE (m23o_l2 x22 o6) (fun s3 => ⟨[(2, .v (.one (.ptr 1 0))), (4, .v (.one (.ptr 3 0))), (13, .v (.one (.apv 6 1 ((Enc.encL s3.1).length) []))), (49, .v (.one (.osl 0 0 nn nn))), (50, .v (.one (Uv ((nn : Nat) : Int)))), (51, .v (.one (Uv s2.1))), (56, .v (.one (Ut x22))), (57, .v (.one (Uv (x22.length : Int)))), (58, .v (.one (Uv s3.2)))], [(0, .cells 48 (Qa a0)), (1, .cells 72 [Uu, .d (.v (.map none))]), (2, .mp (QT o6.1) o6.2), (3, .cells 72 [Ux 4 s2.2, .mp 2]), (5, .cells 48 (Uy x20))], [(4, some ⟨54, 1, (Enc.encL s2.2).length, []⟩), (6, some ⟨3, 1, (Enc.encL s3.1).length, (Enc.encL s3.1).flatten⟩)], 7, 88, []⟩) (([] : List Int), 0) o24 (Qf (U1 rfl (U1 rfl (U1 rfl (U1 rfl (U1 rfl (U1 rfl (U1 rfl (U1 rfl (U1 rfl U0))))))))) (Um rfl (Um rfl (Um rfl (Um rfl (Um rfl Ul))))) (Ui rfl (Ui rfl Uh)) rfl (Nat.le_trans hv1 (Ug rfl)) rfl rfl rfl (UD rfl (UE rfl rfl (UC rfl (UE rfl rfl (UE rfl rfl UB))))) rfl rfl) hl3 (fun s3 n3 oo3 h3 ho3 => ?_)
  unfold m23o_l2 at h3
  refine Q2 <| Q0 <| U5 rfl rfl rfl (Q5 rfl rfl rfl) <| Q3 <| Q1 <| Q2 ?_
  refine Qe (b := (decide (s3.2 < (x22.length : Int)))) rfl (fun c25 => ?_) (fun c25 => ?_)
  replace h3 := Qm c25 h3
  refine Qg <| Q1 <| Q2 <| Qc <| Q2 <| Q0 ?_
  refine Qb h3 (fun x26 hx26 h3 => ?_)
  refine U5 rfl rfl rfl (Qi (α := UN) QU rfl (.d _) rfl hx26) <| U5 rfl rfl rfl (QI JG rfl rfl) <| U7 rfl rfl rfl <| Q3 <| Q1 <| Q2 <| Q0 <| U5 rfl rfl rfl (Q4 Y9 rfl) <| U5 rfl rfl rfl (Q7 Zc rfl rfl rfl) <| U6 rfl rfl rfl <| U5 rfl rfl rfl (JI (M := o6) (k := x26) Zb YG rfl rfl rfl) <| U6 rfl rfl rfl <| U5 rfl rfl rfl (Qp rfl rfl) <| U5 rfl rfl rfl (Qp rfl rfl) ?_
  refine U7 rfl rfl rfl <| U7 rfl rfl rfl <| Q3 <| Q1 <| Q2 <| Q2 <| Q0 <| U6 rfl rfl rfl <| U5 rfl rfl rfl (J9 rfl) <| Q3 <| Q1 ?_
  refine Qe (b := (!(Jz o6 x26))) rfl (fun c27 => ?_) (fun c27 => ?_)
  replace h3 := Qm c27 h3
  refine Q2 <| Q0 <| U5 rfl rfl rfl (Ys K5 rfl ) <| QL rfl rfl (Qw Jq rfl rfl rfl rfl (Ug rfl) rfl) <| U7 rfl rfl rfl <| Q3 <| Q1 <| Qz ?_
  have e := U3 h3; subst e
  have e_ : _ = _ := ho3
  subst e_
  try dsimp only [Sum.elim_inl, Sum.elim_inr] at h2
  have e := U3 h2; subst e
  have e_ : _ = _ := ho2
  subst e_
  try dsimp only [Sum.elim_inl, Sum.elim_inr] at h1
  have e := U3 h1; subst e
  exact hQ1 _ _ _ (.inr rfl) rfl (show StLe _ _ ⟨[(2, .v (.one (.ptr 1 0))), (3, .v (.one (Uv 9)))], [(0, .cells 48 (Qa a0)), (1, .cells 72 [Uu, .d (.v (.map none))])], [], 7, 88, []⟩ from (Qf (U1 rfl (U1 rfl U0)) (Um rfl (Um rfl Ul)) Uh rfl (Nat.le_trans hv1 (Ug rfl)) rfl rfl rfl (UD rfl (UE rfl rfl UB)) rfl rfl))
  replace h3 := Qn c27 h3
  refine Qg <| Q1 <| Q0 <| U6 rfl rfl rfl <| U6 rfl rfl rfl <| Q9 rfl rfl (Ug rfl) (QZ (α := Int) ((Jl o6 x26)) JM Wg rfl rfl (Ug rfl) (Ug rfl) rfl rfl (.cons (.d _) .nil) rfl) ?_
  refine QQ h3 (fun g28 h3 => ?_)
  refine Q9 rfl rfl (Ug rfl) (YC (α := Int) (l := s3.1) (l2 := ([(Jl o6 x26)] : List Int)) JM XY rfl rfl rfl rfl (.app _ _) rfl g28) <| U7 rfl rfl rfl <| Q3 <| Qh <| Q1 <| Q0 <| U5 rfl rfl rfl (Q5 rfl rfl rfl) <| U6 rfl rfl rfl <| Q3 ?_
  have e := U3 h3; subst e
  refine QA ((s3.1 ++ ([(Jl o6 x26)])), (J1 (s3.2 + 1))) (Qf (U1 rfl (U1 rfl (U1 rfl (U1 rfl (U1 rfl (U1 rfl (U1 rfl (U1 rfl (U1 rfl U0))))))))) (Um rfl (Um rfl (Um rfl (Um rfl (Um rfl Ul))))) (Ui rfl (Ui rfl Uh)) rfl (Nat.le_trans hv1 (Ug rfl)) rfl rfl rfl (UD rfl (UE rfl rfl (UC rfl (UE rfl rfl (UE rfl rfl UB))))) rfl rfl) ho3
  replace h3 := Qn c25 h3
  refine QJ <| Qd <| Qd ?_
  have e := U3 h3; subst e
  have e_ : _ = _ := ho3
  subst e_
  exact QD s3.1 (Qf (U1 rfl (U1 rfl (U1 rfl (U1 rfl (U1 rfl (U1 rfl U0)))))) (Um rfl (Um rfl (Um rfl (Um rfl (Um rfl Ul))))) (Ui rfl (Ui rfl Uh)) rfl (Nat.le_trans hv1 (Ug rfl)) rfl rfl rfl (UD rfl (UE rfl rfl (UC rfl (UE rfl rfl (UE rfl rfl UB))))) rfl rfl) h2
  intro o23 h2
  refine Qu <| Q1 <| Q2 <| Q0 <| U6 rfl rfl rfl ?_
  refine Qb h2 (fun x29 hx29 h2 => ?_)
  refine Q9 rfl rfl (Ug rfl) (QW (hp1' := []) (tk1' := [(6, some ⟨3, 1, (Enc.encL o23).length, (Enc.encL x29).flatten⟩)]) (hpF := [(0, .cells 48 (Qa a0)), (1, .cells 72 [Uu, .d (.v (.map none))]), (2, .mp (QT o6.1) o6.2), (3, .cells 72 [Ux 4 s2.2, .mp 2]), (5, .cells 48 (Uy x20))]) (tkF := [(4, some ⟨54, 1, (Enc.encL s2.2).length, []⟩)]) (res2 := Qy []) (nx2 := 7) [6] rfl rfl (KL o23 x29 hx29) rfl rfl U8 rfl rfl Uo (Uk rfl Uj) (Um rfl (Um rfl (Um rfl (Um rfl (Um rfl Ul))))) (Ui rfl Uh) rfl rfl rfl rfl rfl UB rfl rfl rfl rfl) <| Q3 <| Q1 ?_
  refine JO [3, 5, 7] [(0, 1), (1, 1)] mixed (by kernel_rfl) (by kernel_rfl) (by kernel_rfl) ?_
  refine RunA.rd rfl rfl rfl (Q6 (Q4 JP rfl)) rfl <| RunA.rd rfl rfl rfl (Q6 (Q7 Yr rfl rfl rfl)) rfl <| RunA.rd rfl rfl rfl (Q6 (J0 rfl)) rfl ?_
  refine Qb h2 (fun x30 hx30 h2 => ?_)
  refine RunA.eff rfl rfl rfl (QW (hp1' := []) (tk1' := [(7, some ⟨3, 1, (Enc.encL x30).length, []⟩)]) (hpF := [(0, .cells 48 (Qa a0)), (1, .cells 72 [Uu, .d (.v (.map none))]), (2, .mp (QT o6.1) o6.2), (3, .cells 72 [Ux 4 s2.2, .mp 2]), (5, .cells 48 (Uy x20))]) (tkF := [(4, some ⟨54, 1, (Enc.encL s2.2).length, []⟩)]) (res2 := Qy [.one (Ux 7 x30)]) (nx2 := 8) [6] rfl rfl (Zs x29 ((Enc.encL o23).length) x30 hx30) rfl rfl U8 rfl rfl Uo (Uk rfl Uj) (Um rfl (Um rfl (Um rfl (Um rfl (Um rfl Ul))))) (Ui rfl Uh) rfl rfl rfl rfl rfl UB rfl rfl rfl rfl) rfl <| RunA.rd rfl rfl rfl (Yi (α := List Int) (x30) Y1 Wa rfl rfl (Ug rfl) rfl rfl (.cons (.app _ _ _) .nil) rfl) rfl ?_
  refine QQ h2 (fun g31 h2 => ?_)
  refine RunA.eff rfl rfl rfl (QO (α := List Int) Y1 XM rfl rfl rfl rfl rfl (.d _) g31) rfl <| RunA.rd rfl rfl rfl (Q6 (Q4 JP rfl)) rfl <| RunA.eff rfl rfl rfl (Qw Yr rfl rfl rfl rfl (Ug rfl) rfl) rfl ?_
  refine RunA.nil ⟨?ex, _, _, rfl, ?_⟩
  case ex => exact ⟨⟨_, rfl, _, _, rfl, rfl, rfl, .inl ⟨rfl, _, Q6 (Q4 JP rfl), rfl⟩⟩, ⟨_, rfl, _, _, rfl, rfl, rfl, .inl ⟨rfl, _, Q6 (Q7 Yr rfl rfl rfl), rfl⟩⟩, trivial⟩
  refine JV (st' := ⟨[(2, .v (.one (.ptr 1 0))), (4, .v (.one (.ptr 3 0))), (49, .v (.one (.osl 0 0 nn nn))), (50, .v (.one (Uv ((nn : Nat) : Int)))), (51, .v (.one (Uv s2.1)))], [(0, .cells 48 (Qa a0)), (1, .cells 72 [Uu, .d (.v (.map none))]), (2, .mp (QT o6.1) o6.2), (3, .cells 72 [Ux 4 ((s2.2 ++ ([x30])) : List (List Int)), .mp 2]), (5, .cells 48 (Uy x20))], [(4, some ⟨54, 1, (Enc.encL ((s2.2 ++ ([x30])) : List (List Int))).length, []⟩), (7, some ⟨3, 1, (Enc.encL x30).length, []⟩)], 8, 88, []⟩) (Qf (U1 rfl (U1 rfl (U1 rfl (U1 rfl (U1 rfl U0))))) (Um rfl (Um rfl (Um rfl (Um rfl (Um rfl Ul))))) (Ui rfl (Ui rfl Uh)) rfl (Nat.le_trans hv1 (Ug rfl)) rfl rfl rfl (UD rfl (UE rfl rfl (UC rfl (UE rfl rfl (UE rfl rfl UB))))) rfl rfl) <| Qh <| Q1 <| Q0 <| U5 rfl rfl rfl (Q5 rfl rfl rfl) <| U6 rfl rfl rfl <| Q3 ?_
  have e := U3 h2; subst e
  refine QA ((J1 (s2.1 + 1)), (s2.2 ++ ([x30]))) (Qf (U1 rfl (U1 rfl (U1 rfl (U1 rfl (U1 rfl U0))))) (Um rfl (Um rfl (Um rfl (Um rfl Ul)))) (Ui rfl Uh) rfl (Nat.le_trans hv1 (Ug rfl)) rfl rfl rfl (UD rfl (UE rfl rfl (UC rfl (UE rfl rfl UB)))) rfl rfl) ho2
  replace h2 := Qn c19 h2
  refine QJ <| Qd <| Qd ?_
  have e := U3 h2; subst e
  have e_ : _ = _ := ho2
  subst e_
  exact QD s2.2 (Qf (U1 rfl (U1 rfl U0)) (Um rfl (Um rfl (Um rfl (Um rfl Ul)))) (Ui rfl Uh) rfl (Nat.le_trans hv1 (Ug rfl)) rfl rfl rfl (UD rfl (UE rfl rfl (UC rfl (UE rfl rfl UB)))) rfl rfl) h1
  intro o17 h1
  refine Qu <| Q1 <| Q2 <| Q0 <| U5 rfl rfl rfl (Qq Jq rfl rfl rfl rfl) <| QL rfl rfl (Qw Jq rfl rfl rfl rfl (Ug rfl) rfl) <| U7 rfl rfl rfl <| Q3 <| Q1 <| Qz ?_
  have e := U3 h1; subst e
  exact hQ1 _ _ _ (.inr rfl) rfl (show StLe _ _ ⟨[(2, .v (.one (.ptr 1 0))), (3, .v (.one (Uv 0)))], [(0, .cells 48 (Qa a0)), (1, .cells 72 [Ux 4 o17, .mp 2]), (2, .mp (QT o6.1) o6.2)], [(4, some ⟨54, 1, (Enc.encL o17).length, []⟩)], 5, 88, []⟩ from (Qf (U1 rfl (U1 rfl U0)) (Um rfl (Um rfl (Um rfl Ul))) (Ui rfl Uh) rfl (Nat.le_trans hv1 (Ug rfl)) rfl rfl rfl (UD rfl (UE rfl rfl (UC rfl UB))) rfl rfl))
 refine GK (C := fun q_ => CallM Try.prog 34 [.one (.osl 0 0 nn nn)] ⟨[(0, .cells 48 (Qa a0))], [], 1⟩ (Qy (((Sum.elim (fun (y1 : (List (List Int)) × (Qj UN Int)) => ([.agg [Ux 4 y1.1, .mp 2], .one (Uv 0)] : List AV)) (Sum.elim (fun (y2 : Unit) => ([.agg [Uu, .d (.v (.map none))], .one (Uv 8)] : List AV)) (fun (y3 : Unit) => ([.agg [Uu, .d (.v (.map none))], .one (Uv 9)] : List AV))))) q_)) ⟨(((Sum.elim (fun (y1 : (List (List Int)) × (Qj UN Int)) => (⟨[(2, .v (.one (.ptr 1 0))), (3, .v (.one (Uv 0)))], [(0, .cells 48 (Qa a0)), (1, .cells 72 [Ux 4 y1.1, .mp 2]), (2, .mp (QT y1.2.1) y1.2.2)], [(4, some ⟨54, 1, (Enc.encL y1.1).length, []⟩)], 5, 88, []⟩ : St)) (Sum.elim (fun (y2 : Unit) => (⟨[(2, .v (.one (.ptr 1 0))), (3, .v (.one (Uv 8)))], [(0, .cells 48 (Qa a0)), (1, .cells 72 [Uu, .d (.v (.map none))])], [], 5, 88, []⟩ : St)) (fun (y3 : Unit) => (⟨[(2, .v (.one (.ptr 1 0))), (3, .v (.one (Uv 9)))], [(0, .cells 48 (Qa a0)), (1, .cells 72 [Uu, .d (.v (.map none))])], [], 7, 88, []⟩ : St))))) q_).hp, (((Sum.elim (fun (y1 : (List (List Int)) × (Qj UN Int)) => (⟨[(2, .v (.one (.ptr 1 0))), (3, .v (.one (Uv 0)))], [(0, .cells 48 (Qa a0)), (1, .cells 72 [Ux 4 y1.1, .mp 2]), (2, .mp (QT y1.2.1) y1.2.2)], [(4, some ⟨54, 1, (Enc.encL y1.1).length, []⟩)], 5, 88, []⟩ : St)) (Sum.elim (fun (y2 : Unit) => (⟨[(2, .v (.one (.ptr 1 0))), (3, .v (.one (Uv 8)))], [(0, .cells 48 (Qa a0)), (1, .cells 72 [Uu, .d (.v (.map none))])], [], 5, 88, []⟩ : St)) (fun (y3 : Unit) => (⟨[(2, .v (.one (.ptr 1 0))), (3, .v (.one (Uv 9)))], [(0, .cells 48 (Qa a0)), (1, .cells 72 [Uu, .d (.v (.map none))])], [], 7, 88, []⟩ : St))))) q_).tk, (((Sum.elim (fun (y1 : (List (List Int)) × (Qj UN Int)) => (⟨[(2, .v (.one (.ptr 1 0))), (3, .v (.one (Uv 0)))], [(0, .cells 48 (Qa a0)), (1, .cells 72 [Ux 4 y1.1, .mp 2]), (2, .mp (QT y1.2.1) y1.2.2)], [(4, some ⟨54, 1, (Enc.encL y1.1).length, []⟩)], 5, 88, []⟩ : St)) (Sum.elim (fun (y2 : Unit) => (⟨[(2, .v (.one (.ptr 1 0))), (3, .v (.one (Uv 8)))], [(0, .cells 48 (Qa a0)), (1, .cells 72 [Uu, .d (.v (.map none))])], [], 5, 88, []⟩ : St)) (fun (y3 : Unit) => (⟨[(2, .v (.one (.ptr 1 0))), (3, .v (.one (Uv 9)))], [(0, .cells 48 (Qa a0)), (1, .cells 72 [Uu, .d (.v (.map none))])], [], 7, 88, []⟩ : St))))) q_).nx⟩) hc4 h0 (fun y1 hc4 h0 => ?_) (fun z_ hc4 h0 => GK (C := fun q_ => CallM Try.prog 34 [.one (.osl 0 0 nn nn)] ⟨[(0, .cells 48 (Qa a0))], [], 1⟩ (Qy (((Sum.elim (fun (y1 : (List (List Int)) × (Qj UN Int)) => ([.agg [Ux 4 y1.1, .mp 2], .one (Uv 0)] : List AV)) (Sum.elim (fun (y2 : Unit) => ([.agg [Uu, .d (.v (.map none))], .one (Uv 8)] : List AV)) (fun (y3 : Unit) => ([.agg [Uu, .d (.v (.map none))], .one (Uv 9)] : List AV))))) (.inr q_))) ⟨(((Sum.elim (fun (y1 : (List (List Int)) × (Qj UN Int)) => (⟨[(2, .v (.one (.ptr 1 0))), (3, .v (.one (Uv 0)))], [(0, .cells 48 (Qa a0)), (1, .cells 72 [Ux 4 y1.1, .mp 2]), (2, .mp (QT y1.2.1) y1.2.2)], [(4, some ⟨54, 1, (Enc.encL y1.1).length, []⟩)], 5, 88, []⟩ : St)) (Sum.elim (fun (y2 : Unit) => (⟨[(2, .v (.one (.ptr 1 0))), (3, .v (.one (Uv 8)))], [(0, .cells 48 (Qa a0)), (1, .cells 72 [Uu, .d (.v (.map none))])], [], 5, 88, []⟩ : St)) (fun (y3 : Unit) => (⟨[(2, .v (.one (.ptr 1 0))), (3, .v (.one (Uv 9)))], [(0, .cells 48 (Qa a0)), (1, .cells 72 [Uu, .d (.v (.map none))])], [], 7, 88, []⟩ : St))))) (.inr q_)).hp, (((Sum.elim (fun (y1 : (List (List Int)) × (Qj UN Int)) => (⟨[(2, .v (.one (.ptr 1 0))), (3, .v (.one (Uv 0)))], [(0, .cells 48 (Qa a0)), (1, .cells 72 [Ux 4 y1.1, .mp 2]), (2, .mp (QT y1.2.1) y1.2.2)], [(4, some ⟨54, 1, (Enc.encL y1.1).length, []⟩)], 5, 88, []⟩ : St)) (Sum.elim (fun (y2 : Unit) => (⟨[(2, .v (.one (.ptr 1 0))), (3, .v (.one (Uv 8)))], [(0, .cells 48 (Qa a0)), (1, .cells 72 [Uu, .d (.v (.map none))])], [], 5, 88, []⟩ : St)) (fun (y3 : Unit) => (⟨[(2, .v (.one (.ptr 1 0))), (3, .v (.one (Uv 9)))], [(0, .cells 48 (Qa a0)), (1, .cells 72 [Uu, .d (.v (.map none))])], [], 7, 88, []⟩ : St))))) (.inr q_)).tk, (((Sum.elim (fun (y1 : (List (List Int)) × (Qj UN Int)) => (⟨[(2, .v (.one (.ptr 1 0))), (3, .v (.one (Uv 0)))], [(0, .cells 48 (Qa a0)), (1, .cells 72 [Ux 4 y1.1, .mp 2]), (2, .mp (QT y1.2.1) y1.2.2)], [(4, some ⟨54, 1, (Enc.encL y1.1).length, []⟩)], 5, 88, []⟩ : St)) (Sum.elim (fun (y2 : Unit) => (⟨[(2, .v (.one (.ptr 1 0))), (3, .v (.one (Uv 8)))], [(0, .cells 48 (Qa a0)), (1, .cells 72 [Uu, .d (.v (.map none))])], [], 5, 88, []⟩ : St)) (fun (y3 : Unit) => (⟨[(2, .v (.one (.ptr 1 0))), (3, .v (.one (Uv 9)))], [(0, .cells 48 (Qa a0)), (1, .cells 72 [Uu, .d (.v (.map none))])], [], 7, 88, []⟩ : St))))) (.inr q_)).nx⟩) hc4 h0 (fun y2 hc4 h0 => ?_) (fun y3 hc4 h0 => ?_))
 replace hc4 : CallM Try.prog 34 [.one (.osl 0 0 nn nn)] ⟨[(0, .cells 48 (Qa a0))], [], 1⟩ (Qy [.agg [Ux 4 y1.1, .mp 2], .one (Uv 0)]) ⟨[(0, .cells 48 (Qa a0)), (1, .cells 72 [Ux 4 y1.1, .mp 2]), (2, .mp (QT y1.2.1) y1.2.2)], [(4, some ⟨54, 1, (Enc.encL y1.1).length, []⟩)], 5⟩ := hc4
 refine Q9 rfl rfl (Ug rfl) (J4 rfl rfl rfl hc4 rfl (Um rfl Ul) Uh) <| U6 rfl rfl rfl <| U5 rfl rfl rfl (Qp rfl rfl) <| U5 rfl rfl rfl (Qp rfl rfl) <| Q9 rfl rfl (Ug rfl) (QC Zw rfl) <| QL rfl rfl (Qw Jq rfl rfl rfl rfl (Ug rfl) rfl) <| U7 rfl rfl rfl <| Q3 <| Q1 <| Q2 <| Q0 <| U5 rfl rfl rfl (Q4 JP rfl) <| U5 rfl rfl rfl (Q7 Yr rfl rfl rfl) <| U6 rfl rfl rfl ?_
 refine U7 rfl rfl rfl <| U7 rfl rfl rfl <| Q3 <| Q1 <| Qz ?_
 have e := U3 h0; subst e
 exact hQ0 _ _ _ (.inr rfl) rfl (Qf (U2 rfl (.sub (.app _ _ _)) (U1 rfl U0)) (Um rfl Ul) Uh rfl (Nat.le_trans hv0 (Ug rfl)) rfl rfl rfl (UD rfl UB) rfl rfl)
 replace hc4 : CallM Try.prog 34 [.one (.osl 0 0 nn nn)] ⟨[(0, .cells 48 (Qa a0))], [], 1⟩ (Qy [.agg [Uu, .d (.v (.map none))], .one (Uv 8)]) ⟨[(0, .cells 48 (Qa a0)), (1, .cells 72 [Uu, .d (.v (.map none))])], [], 5⟩ := hc4
 refine Q9 rfl rfl (Ug rfl) (J4 rfl rfl rfl hc4 rfl (Um rfl Ul) Uh) <| U6 rfl rfl rfl <| U5 rfl rfl rfl (Qp rfl rfl) <| U5 rfl rfl rfl (Qp rfl rfl) <| Q9 rfl rfl (Ug rfl) (QC Zw rfl) <| QL rfl rfl (Qw Jq rfl rfl rfl rfl (Ug rfl) rfl) <| U7 rfl rfl rfl <| Q3 <| Q1 <| Q2 <| Q0 <| U5 rfl rfl rfl (Q4 JP rfl) <| U5 rfl rfl rfl (Q7 Yr rfl rfl rfl) <| U6 rfl rfl rfl ?_
 refine U7 rfl rfl rfl <| U7 rfl rfl rfl <| Q3 <| Q1 <| Qz ?_
 have e := U3 h0; subst e
 exact hQ0 _ _ _ (.inr rfl) rfl (Qf (U2 rfl (.sub (.nil _)) (U1 rfl U0)) (Um rfl Ul) Uh rfl (Nat.le_trans hv0 (Ug rfl)) rfl rfl rfl (UD rfl UB) rfl rfl)
 replace hc4 : CallM Try.prog 34 [.one (.osl 0 0 nn nn)] ⟨[(0, .cells 48 (Qa a0))], [], 1⟩ (Qy [.agg [Uu, .d (.v (.map none))], .one (Uv 9)]) ⟨[(0, .cells 48 (Qa a0)), (1, .cells 72 [Uu, .d (.v (.map none))])], [], 7⟩ := hc4
 refine Q9 rfl rfl (Ug rfl) (J4 rfl rfl rfl hc4 rfl (Um rfl Ul) Uh) <| U6 rfl rfl rfl <| U5 rfl rfl rfl (Qp rfl rfl) <| U5 rfl rfl rfl (Qp rfl rfl) <| Q9 rfl rfl (Ug rfl) (QC Zw rfl) <| QL rfl rfl (Qw Jq rfl rfl rfl rfl (Ug rfl) rfl) <| U7 rfl rfl rfl <| Q3 <| Q1 <| Q2 <| Q0 <| U5 rfl rfl rfl (Q4 JP rfl) <| U5 rfl rfl rfl (Q7 Yr rfl rfl rfl) <| U6 rfl rfl rfl ?_
 refine U7 rfl rfl rfl <| U7 rfl rfl rfl <| Q3 <| Q1 <| Qz ?_
 have e := U3 h0; subst e
 exact hQ0 _ _ _ (.inr rfl) rfl (Qf (U2 rfl (.sub (.nil _)) (U1 rfl U0)) (Um rfl Ul) Uh rfl (Nat.le_trans hv0 (Ug rfl)) rfl rfl rfl (UD rfl UB) rfl rfl)
end Go.Proofs.Ytijcchddnnnmdaa
