/- Part 3 of the proof: rules, mirrors and plain laws. The statement DependRepeatsUpto is proved here: for every list of declarations and every list of names the law returns true, and the arguments read behind the call as they did before; condition: the arguments are of bulk at most 1048576 (the second form). -/
import Derived.Test.YtijcchddnnnmdaaK52
namespace Go.Proofs.Ytijcchddnnnmdaa
open Go.RowKit Go.Shelf
set_option linter.unusedSimpArgs false
set_option linter.unusedVariables false
theorem fo_45_1 : QX Try.prog 45 1 = some 1 := by kernel_rfl
theorem Ko : QX Try.prog 45 2 = some 6 := by kernel_rfl
theorem fo_48_0 : QX Try.prog 48 0 = some 0 := by kernel_rfl
theorem YX : QX Try.prog 48 1 = some 1 := by kernel_rfl
theorem fo_48_3 : QX Try.prog 48 3 = some 3 := by kernel_rfl
theorem Gl : QX Try.prog 48 4 = some 8 := by kernel_rfl
theorem Yp : QX Try.prog 48 6 = some 14 := by kernel_rfl
theorem Zs : QX Try.prog 48 7 = some 15 := by kernel_rfl
theorem JN : QX Try.prog 48 8 = some 22 := by kernel_rfl
theorem Gk : QX Try.prog 84 0 = some 0 := by kernel_rfl
theorem fo_84_1 : QX Try.prog 84 1 = some 1 := by kernel_rfl
theorem fo_87_0 : QX Try.prog 87 0 = some 0 := by kernel_rfl
theorem fo_87_1 : QX Try.prog 87 1 = some 1 := by kernel_rfl
theorem Yd : QX Try.prog 87 3 = some 7 := by kernel_rfl
theorem Gj : QX Try.prog 89 0 = some 0 := by kernel_rfl
theorem fo_89_1 : QX Try.prog 89 1 = some 1 := by kernel_rfl
theorem fo_89_3 : QX Try.prog 89 3 = some 7 := by kernel_rfl
theorem fo_115_0 : QX Try.prog 115 0 = some 0 := by kernel_rfl
theorem fo_115_1 : QX Try.prog 115 1 = some 1 := by kernel_rfl
theorem fo_115_2 : QX Try.prog 115 2 = some 2 := by kernel_rfl
theorem Gt : Jl Try.prog 4 = some (false, 1) := by kernel_rfl
theorem ZN : Jl Try.prog 43 = some (false, 1) := by kernel_rfl
theorem YE : Jl Try.prog 46 = some (false, 1) := by kernel_rfl
theorem Jg : Jl Try.prog 48 = some (true, 23) := by kernel_rfl
theorem ag_68 : Jl Try.prog 68 = some (false, 1) := by kernel_rfl
theorem ag_84 : Jl Try.prog 84 = some (true, 6) := by kernel_rfl
theorem Zl : Jl Try.prog 85 = some (false, 1) := by kernel_rfl
theorem GN : Jl Try.prog 87 = some (true, 8) := by kernel_rfl
theorem Zk : Jl Try.prog 89 = some (true, 15) := by kernel_rfl
theorem Zb : Jl Try.prog 115 = some (true, 10) := by kernel_rfl
theorem Z3 : J0 Try.prog 43 = some (84, 6) := by kernel_rfl
theorem Yr : J0 Try.prog 46 = some (89, 15) := by kernel_rfl
theorem Z2 : J0 Try.prog 85 = some (115, 10) := by kernel_rfl
theorem z_40 : Jk Try.prog 40 = some [.slice none 0 0] := by kernel_rfl
theorem z_84 : Jk Try.prog 84 = some [.string ByteArray.empty, .int .i64 0, .int .i64 0, .string ByteArray.empty, .slice none 0 0, .slice none 0 0] := by kernel_rfl
theorem Xq : Jk Try.prog 89 = some [.string ByteArray.empty, .int .i64 0, .int .i64 0, .string ByteArray.empty, .slice none 0 0, .slice none 0 0, .int .i64 0, .int .i64 0, .int .i64 0, .int .i64 0, .string ByteArray.empty, .slice none 0 0, .slice none 0 0, .int .i64 0, .slice none 0 0] := by kernel_rfl
theorem Xj : Jk Try.prog 115 = some [.string ByteArray.empty, .bool false, .int .i64 0, .int .i64 0, .int .i64 0, .string ByteArray.empty, .slice none 0 0, .slice none 0 0, .int .i64 0, .slice none 0 0] := by kernel_rfl
theorem el_42 : Yf Try.prog 42 = some (5, 80) := by kernel_rfl
theorem en_31 : J7 Try.prog 31 := enters_of Try.func31 (by kernel_rfl) rfl
theorem en_37 : J7 Try.prog 37 := enters_of Try.func37 (by kernel_rfl) rfl
theorem en_52 : J7 Try.prog 52 := enters_of Try.func52 (by kernel_rfl) rfl
theorem en_53 : J7 Try.prog 53 := enters_of Try.func53 (by kernel_rfl) rfl
theorem en_67 : J7 Try.prog 67 := enters_of Try.func67 (by kernel_rfl) rfl
theorem en_73 : J7 Try.prog 73 := enters_of Try.func73 (by kernel_rfl) rfl
theorem en_75 : J7 Try.prog 75 := enters_of Try.func75 (by kernel_rfl) rfl
theorem en_89 : J7 Try.prog 89 := enters_of Try.func89 (by kernel_rfl) rfl
theorem mixed : Try.prog.follows .mixedOrders = true := by kernel_rfl
noncomputable def J5 : Code := (WQ (WQ (WP (WQ (WP (WP (WP (WP (bodyC Try.f53)))))))))
noncomputable def J4 : Code := (WP (WQ (WP (WQ (WP (WP (WP (WP (bodyC Try.f53)))))))))
def G2 (a0 : Dcl) (s1 : (List U3) × Int) : Option (LO ((List U3) × Int) (((List U3)))) :=
 cond (decide (s1.2 < (a0.ctors.length : Int)))
   (Option.bind (Ja a0.ctors s1.2) fun (x8 : Ctr) =>
 Qy (Nat.ble (s1.1.length + ([x8.name]).length) 1000000000)
 (some (.next ((s1.1 ++ ([x8.name])), (QZ (s1.2 + 1))))))
   (some (.done s1.1))
def G1 (a0 : Dcl) (s1 : (List U3) × Int) : Option (LO ((List U3) × Int) (((List U3)))) :=
 cond (decide (s1.2 < (a0.funs.length : Int)))
   (Option.bind (Ja a0.funs s1.2) fun (x16 : Fn) =>
 Qy (Nat.ble (s1.1.length + ([x16.name]).length) 1000000000)
 (some (.next ((s1.1 ++ ([x16.name])), (QZ (s1.2 + 1))))))
   (some (.done s1.1))
def Xt (a0 : Dcl) : Option ((List U3)) :=
 Option.bind (cond (a0.kind == 0)
   (some (a0.kind == 0))
   (cond (a0.kind == 1)
   (some (a0.kind == 1))
   (some (a0.kind == 2)))) (fun (v1 : Bool) => cond v1
   (Qy (Nat.ble ([a0.name]).length 1000000000)
 (some ([a0.name])))
   (cond (a0.kind == 3)
   (Qy (Nat.ble ([a0.name]).length 1000000000)
 (Option.bind (Qw (G2 a0) QF ([a0.name], 0)) (fun (o6 : (List U3)) => Qy (Nat.ble (a0.name.length + ([46, 114, 101, 99] : List UInt8).length) 1000000000)
 (Qy (Nat.ble (o6.length + ([(a0.name ++ ([46, 114, 101, 99] : List UInt8))]).length) 1000000000)
 (some (o6 ++ ([(a0.name ++ ([46, 114, 101, 99] : List UInt8))])))))))
   (cond (a0.kind == 4)
   (Option.bind (Qw (G1 a0) QF (([] : List U3), 0)) (fun (o14 : (List U3)) => some o14))
   (some ([] : List U3)))))
set_option maxRecDepth 100000 in
set_option maxHeartbeats 8000000 in
theorem Ki (a0 : Dcl) (r : (List U3)) (h0 : Xt a0 = some r) : Fun Try.prog 37 [.agg (WO a0)] (QA [.one (WJ r)]) := by
 unfold Xt at h0
 refine QU 9 61 Try.func37 rfl en_37 rfl (Wx rfl) (fun S w => ?_)
 simp only [Jb]
 refine Q2 <| Q0 <| Qa rfl rfl (Wx rfl) (Jc rfl) <| Wo rfl rfl rfl <| Q3 <| Q1 <| Q2 <| Q0 <| Wo rfl rfl rfl <| Q3 <| Q1 <| Q2 <| Q2 <| Q0 ?_
 refine Wm rfl rfl rfl (Q6 fo_48_0 rfl) <| Wm rfl rfl rfl (Q7 YA rfl rfl rfl) <| Q3 <| Q1 <| Qc <| Q2 <| Q2 <| Q0 <| Wm rfl rfl rfl (Q8 rfl rfl rfl) <| Wo rfl rfl rfl <| Q3 <| Q1 ?_
 refine Jf (fun (v1 : Bool) => ⟨[(1, .v (.one (.ptr 0 0))), (3, .v (.one (WK))), (9, .v (.one (WL a0.kind))), (10, .v (.one (WM v1)))], [(0, .cells 48 (WO a0))], [], 1, 61, []⟩) (fun (v1 : Bool) => (cond v1
     (Qy (Nat.ble ([a0.name]).length 1000000000)
   (some ([a0.name])))
     (cond (a0.kind == 3)
     (Qy (Nat.ble ([a0.name]).length 1000000000)
   (Option.bind (Qw (G2 a0) QF ([a0.name], 0)) (fun (o6 : (List U3)) => Qy (Nat.ble (a0.name.length + ([46, 114, 101, 99] : List UInt8).length) 1000000000)
   (Qy (Nat.ble (o6.length + ([(a0.name ++ ([46, 114, 101, 99] : List UInt8))]).length) 1000000000)
   (some (o6 ++ ([(a0.name ++ ([46, 114, 101, 99] : List UInt8))])))))))
     (cond (a0.kind == 4)
     (Option.bind (Qw (G1 a0) QF (([] : List U3), 0)) (fun (o14 : (List U3)) => some o14))
     (some ([] : List U3))))) = some r) ?_ ?_
 refine Qb h0 (fun w1_ h1 h0 => ?_)
 refine Qe (b := (a0.kind == 0)) rfl (fun c2 => ?_) (fun c2 => ?_)
 replace h1 := Qq c2 h1
 refine Qi ?_
 have e := Wk h1; subst e
 exact Qt (a0.kind == 0) (Qf (Wi rfl (Wi rfl (Wi rfl (Wi rfl Wh)))) (WD rfl WC) Wy rfl (Nat.zero_le _) rfl rfl rfl (WU rfl rfl WR) rfl rfl) h0
 replace h1 := Qr c2 h1
 refine Q2 <| Q0 <| Wm rfl rfl rfl (Q8 rfl rfl rfl) <| Wo rfl rfl rfl <| Q3 <| Q1 ?_
 refine Qe (b := (a0.kind == 1)) rfl (fun c3 => ?_) (fun c3 => ?_)
 replace h1 := Qq c3 h1
 refine Qi ?_
 have e := Wk h1; subst e
 exact Qt (a0.kind == 1) (Qf (Wi rfl (Wi rfl (Wi rfl (Wi rfl Wh)))) (WD rfl WC) Wy rfl (Nat.zero_le _) rfl rfl rfl (WU rfl rfl WR) rfl rfl) h0
 replace h1 := Qr c3 h1
 refine Q0 <| Wm rfl rfl rfl (Q8 rfl rfl rfl) <| Wo rfl rfl rfl <| Q3 ?_
 have e := Wk h1; subst e
 exact Qt (a0.kind == 2) (Qf (Wi rfl (Wi rfl (Wi rfl (Wi rfl Wh)))) (WD rfl WC) Wy rfl (Nat.zero_le _) rfl rfl rfl (WU rfl rfl WR) rfl rfl) h0
 intro v1 h0
 refine Q1 ?_
 refine Qe (b := v1) rfl (fun c4 => ?_) (fun c4 => ?_)
 replace h0 := Qq c4 h0
 refine Q0 <| Wn rfl rfl rfl <| Wm rfl rfl rfl (Q6 YX rfl) <| Wm rfl rfl rfl (Q7 JT rfl rfl rfl) <| Qa rfl rfl (Wx rfl) (J3 (α := U3) (a0.name) J1 Xi rfl rfl (Wx rfl) (Wx rfl) rfl rfl (.cons (.d _) .nil) rfl) ?_
 refine QS h0 (fun g5 h0 => ?_)
 refine Qa rfl rfl (Wx rfl) (OpOK.appendNilE (α := U3) J1 G7 rfl rfl rfl (.app _ _) g5) <| Wo rfl rfl rfl <| Q3 <| Qj <| Q1 <| Q2 <| Q0 <| Wn rfl rfl rfl <| Wo rfl rfl rfl <| Q3 <| Q1 <| Qz ?_
 have e := Wk h0; subst e
 exact QO (fun _ _ h => h) rfl (Qo rfl .nil) (.cons (.one (.app _ _ _)) .nil)
 replace h0 := Qr c4 h0
 refine Q2 <| Q0 <| Wm rfl rfl rfl (Q8 rfl rfl rfl) <| Wo rfl rfl rfl <| Q3 <| Q1 ?_
 refine Qe (b := (a0.kind == 3)) rfl (fun c6 => ?_) (fun c6 => ?_)
 replace h0 := Qq c6 h0
 refine Q2 <| Q0 <| Wn rfl rfl rfl <| Wm rfl rfl rfl (Q6 YX rfl) <| Wm rfl rfl rfl (Q7 JT rfl rfl rfl) <| Qa rfl rfl (Wx rfl) (J3 (α := U3) (a0.name) J1 Xi rfl rfl (Wx rfl) (Wx rfl) rfl rfl (.cons (.d _) .nil) rfl) ?_
 refine QS h0 (fun g7 h0 => ?_)
 refine Qa rfl rfl (Wx rfl) (OpOK.appendNilE (α := U3) J1 G7 rfl rfl rfl (.app _ _) g7) <| Wo rfl rfl rfl <| Q3 <| Q1 <| Q2 <| Q2 <| Q0 <| Wm rfl rfl rfl (Q6 Yp rfl) <| Wm rfl rfl rfl (Q7 ZN rfl rfl rfl) <| Wm rfl rfl rfl (QC (α := Ctr) Z3 rfl (.d _)) <| Wn rfl rfl rfl <| Q3 <| Q1 <| Qc ?_
 refine QI 1 (fun (o8 : (List U3)) => ⟨[(1, .v (.one (.ptr 0 0))), (3, .v (.one (WN 2 o8)))], [(0, .cells 48 (WO a0))], [(1, some ⟨9, 1, (Enc.encL ([a0.name] : List U3)).length, []⟩), (2, some ⟨9, 1, (Enc.encL o8).length, []⟩)], 3, 61, []⟩) (fun (o8 : (List U3)) => (Qy (Nat.ble (a0.name.length + ([46, 114, 101, 99] : List UInt8).length) 1000000000)
   (Qy (Nat.ble (o8.length + ([(a0.name ++ ([46, 114, 101, 99] : List UInt8))]).length) 1000000000)
   (some (o8 ++ ([(a0.name ++ ([46, 114, 101, 99] : List UInt8))]))))) = some r) ?_ ?_
 refine Qb h0 (fun o9 hl1 h0 => ?_)
 refine QH (G2 a0) (fun s1 => ⟨[(1, .v (.one (.ptr 0 0))), (3, .v (.one (WN 2 s1.1))), (27, .v (.one (WJ a0.ctors))), (28, .v (.one (WL (a0.ctors.length : Int)))), (29, .v (.one (WL s1.2)))], [(0, .cells 48 (WO a0))], [(1, some ⟨9, 1, (Enc.encL ([a0.name] : List U3)).length, []⟩), (2, some ⟨9, 1, (Enc.encL s1.1).length, []⟩)], 3, 61, []⟩) ([a0.name], 0) o9 (Qf (Wi rfl (Wi rfl (Wi rfl (Wi rfl (Wi rfl Wh))))) (WD rfl WC) (Wz rfl (Wz rfl Wy)) rfl (Nat.zero_le _) rfl rfl rfl (WU rfl rfl WR) rfl rfl) hl1 (fun s1 n1 oo1 h1 ho1 => ?_)
 unfold G2 at h1
 refine Q2 <| Q0 <| Wm rfl rfl rfl (Q8 rfl rfl rfl) <| Q3 <| Q1 <| Q2 ?_
 refine Qe (b := (decide (s1.2 < (a0.ctors.length : Int)))) rfl (fun c10 => ?_) (fun c10 => ?_)
 replace h1 := Qq c10 h1
 refine Qi <| Q1 <| Q2 <| Qc <| Q2 <| Q0 ?_
 refine Qb h1 (fun x11 hx11 h1 => ?_)
 refine Wm rfl rfl rfl (Qm (α := Ctr) Z3 rfl (.d _) rfl hx11) <| Wm rfl rfl rfl (Jh ag_84 rfl rfl rfl) <| Qa rfl rfl (Wx rfl) (Qp z_84 rfl) <| QJ rfl rfl (Ql ag_84 rfl rfl rfl rfl (Wx rfl) rfl) <| Q3 <| Q1 <| Q0 <| Wn rfl rfl rfl <| Wm rfl rfl rfl (Q6 Gk rfl) <| Wm rfl rfl rfl (Q7 JT rfl rfl rfl) <| Qa rfl rfl (Wx rfl) (J3 (α := U3) (x11.name) J1 Xi rfl rfl (Wx rfl) (Wx rfl) rfl rfl (.cons (.d _) .nil) rfl) ?_
 refine QS h1 (fun g12 h1 => ?_)
 refine Qa rfl rfl (Wx rfl) (QW (α := U3) J1 G7 rfl rfl rfl rfl rfl (.app _ _) g12) <| Wo rfl rfl rfl <| Q3 <| Qj <| Q1 <| Q0 <| Wm rfl rfl rfl (Q8 rfl rfl rfl) <| Wn rfl rfl rfl <| Q3 ?_
 have e := Wk h1; subst e
 refine QD ((s1.1 ++ ([x11.name])), (QZ (s1.2 + 1))) (Qf (Wi rfl (Wi rfl (Wi rfl (Wi rfl (Wi rfl Wh))))) (WD rfl WC) (Wz rfl (Wz rfl Wy)) rfl (Nat.zero_le _) rfl rfl rfl (WU rfl rfl WR) rfl rfl) ho1
 replace h1 := Qr c10 h1
 refine QM <| Qd <| Qd ?_
 have e := Wk h1; subst e
 have e_ : _ = _ := ho1
 subst e_
 exact QG s1.1 (Qf (Wi rfl (Wi rfl Wh)) (WD rfl WC) (Wz rfl (Wz rfl Wy)) rfl (Nat.zero_le _) rfl rfl rfl (WU rfl rfl WR) rfl rfl) h0
 intro o8 h0
 refine QB <| Q1 <| Q0 <| Wn rfl rfl rfl <| Wm rfl rfl rfl (Q6 YX rfl) <| Wm rfl rfl rfl (Q7 JT rfl rfl rfl) ?_
 refine QS h0 (fun g13 h0 => ?_)
 refine Wm rfl rfl rfl (RO.addS rfl rfl g13) <| Qa rfl rfl (Wx rfl) (J3 (α := U3) ((a0.name ++ ([46, 114, 101, 99] : List UInt8))) J1 Xi rfl rfl (Wx rfl) (Wx rfl) rfl rfl (.cons (.d _) .nil) rfl) ?_
 refine QS h0 (fun g14 h0 => ?_)
 refine Qa rfl rfl (Wx rfl) (QW (α := U3) J1 G7 rfl rfl rfl rfl rfl (.app _ _) g14) <| Wo rfl rfl rfl <| Q3 <| Qj <| Q1 <| Q2 <| Q0 <| Wn rfl rfl rfl <| Wo rfl rfl rfl <| Q3 <| Q1 <| Qz ?_
 have e := Wk h0; subst e
 exact QO (fun _ _ h => h) rfl (Qo rfl .nil) (.cons (.one (.app _ _ _)) .nil)
 replace h0 := Qr c6 h0
 refine Q2 <| Q0 <| Wm rfl rfl rfl (Q8 rfl rfl rfl) <| Wo rfl rfl rfl <| Q3 <| Q1 ?_
 refine Qe (b := (a0.kind == 4)) rfl (fun c15 => ?_) (fun c15 => ?_)
 replace h0 := Qq c15 h0
 refine Q2 <| Q0 <| Wm rfl rfl rfl (Q6 JN rfl) <| Wm rfl rfl rfl (Q7 YE rfl rfl rfl) <| Wm rfl rfl rfl (QC (α := Fn) Yr rfl (.d _)) <| Wn rfl rfl rfl <| Q3 <| Q1 <| Qc ?_
 refine QI 3 (fun (o16 : (List U3)) => ⟨[(3, .v (.one (WN 1 o16)))], [(0, .cells 48 (WO a0))], [(1, some ⟨9, 1, (Enc.encL o16).length, []⟩)], 2, 61, []⟩) (fun (o16 : (List U3)) => (some o16) = some r) ?_ ?_
 refine JW (t := 3) 9 1 rfl ?_
 refine Qb h0 (fun o17 hl1 h0 => ?_)
 refine QH (G1 a0) (fun s1 => ⟨[(3, .v (.one (WN 1 s1.1))), (48, .v (.one (WJ a0.funs))), (49, .v (.one (WL (a0.funs.length : Int)))), (50, .v (.one (WL s1.2)))], [(0, .cells 48 (WO a0))], [(1, some ⟨9, 1, (Enc.encL s1.1).length, []⟩)], 2, 61, []⟩) (([] : List U3), 0) o17 (Qf (Wi rfl (Wi rfl (Wi rfl (Wi rfl Wh)))) (WD rfl WC) (Wz rfl Wy) rfl (Nat.zero_le _) rfl rfl rfl (WU rfl rfl WR) rfl rfl) hl1 (fun s1 n1 oo1 h1 ho1 => ?_)
 unfold G1 at h1
 refine Q2 <| Q0 <| Wm rfl rfl rfl (Q8 rfl rfl rfl) <| Q3 <| Q1 <| Q2 ?_
 refine Qe (b := (decide (s1.2 < (a0.funs.length : Int)))) rfl (fun c18 => ?_) (fun c18 => ?_)
 replace h1 := Qq c18 h1
 refine Qi <| Q1 <| Q2 <| Qc <| Q2 <| Q0 ?_
 refine Qb h1 (fun x19 hx19 h1 => ?_)
 refine Wm rfl rfl rfl (Qm (α := Fn) Yr rfl (.d _) rfl hx19) <| Wm rfl rfl rfl (Jh Zk rfl rfl rfl) <| Qa rfl rfl (Wx rfl) (Qp Xq rfl) <| QJ rfl rfl (Ql Zk rfl rfl rfl rfl (Wx rfl) rfl) <| Q3 <| Q1 <| Q0 <| Wn rfl rfl rfl <| Wm rfl rfl rfl (Q6 Gj rfl) <| Wm rfl rfl rfl (Q7 JT rfl rfl rfl) <| Qa rfl rfl (Wx rfl) (J3 (α := U3) (x19.name) J1 Xi rfl rfl (Wx rfl) (Wx rfl) rfl rfl (.cons (.d _) .nil) rfl) ?_
 refine QS h1 (fun g20 h1 => ?_)
 refine Qa rfl rfl (Wx rfl) (QW (α := U3) J1 G7 rfl rfl rfl rfl rfl (.app _ _) g20) <| Wo rfl rfl rfl <| Q3 <| Qj <| Q1 <| Q0 <| Wm rfl rfl rfl (Q8 rfl rfl rfl) <| Wn rfl rfl rfl <| Q3 ?_
 have e := Wk h1; subst e
 refine QD ((s1.1 ++ ([x19.name])), (QZ (s1.2 + 1))) (Qf (Wi rfl (Wi rfl (Wi rfl (Wi rfl Wh)))) (WD rfl WC) (Wz rfl Wy) rfl (Nat.zero_le _) rfl rfl rfl (WU rfl rfl WR) rfl rfl) ho1
 replace h1 := Qr c18 h1
 refine QM <| Qd <| Qd ?_
 have e := Wk h1; subst e
 have e_ : _ = _ := ho1
 subst e_
 exact QG s1.1 (Qf (Wi rfl Wh) (WD rfl WC) (Wz rfl Wy) rfl (Nat.zero_le _) rfl rfl rfl (WU rfl rfl WR) rfl rfl) h0
 intro o16 h0
 refine QB <| Qj <| Q1 <| Q2 <| Q0 <| Wn rfl rfl rfl <| Wo rfl rfl rfl <| Q3 <| Q1 <| Qz ?_
 have e := Wk h0; subst e
 exact QO (fun _ _ h => h) rfl (Qo rfl .nil) (.cons (.one (.app _ _ _)) .nil)
 replace h0 := Qr c15 h0
 refine Qi <| Qj <| Q1 <| Q2 <| Q0 <| Wn rfl rfl rfl <| Wo rfl rfl rfl <| Q3 <| Q1 <| Qz ?_
 have e := Wk h0; subst e
 exact QO (fun _ _ h => h) rfl (Qo rfl .nil) (.cons (.one (.nil _)) .nil)
def m89f4 (a0 : U3) (a1 : Qh U3 Bool) (a2 : List U3) (a3 : List Tm) (a4 : Dcl) : Option ((Qh U3 Bool) × (List U3)) :=
 Option.bind (cond (!(Je a1 a0))
   (Qy (Nat.ble (a2.length + ([a0]).length) 1000000000)
 (some ((JY a1 a0 true), (a2 ++ ([a0])))))
   (some (a1, a2))) (fun (y1 : (Qh U3 Bool) × (List U3)) => some (y1.1, y1.2))
set_option maxRecDepth 100000 in
set_option maxHeartbeats 8000000 in
theorem m89f4_ok (a0 : U3) (a1 : Qh U3 Bool) (a2 : List U3) (a3 : List Tm) (a4 : Dcl) (r : (Qh U3 Bool) × (List U3)) (h0 : m89f4 a0 a1 a2 a3 a4 = some r) : CallM Try.prog 89 [.one (Z4 a0), .one (.ptr 0 0)] ⟨[(0, .cells 68 [.yld 1]), (1, .loop .ready none [(3, .v (.one (.ptr 3 0))), (6, .v (.one (.ptr 5 0))), (20, .v (.one (.fn 73 [(7, 0), (9, 0)])))] 33 #[21] J5 J4 2), (2, .obj (.deferred (some []))), (3, .cells 116 [.mp 4]), (4, .mp (QL a1.1) a1.2), (5, .cells 23 [WN 6 a2]), (7, .cells 40 [WN 8 a3]), (9, .cells 48 (WO a4))], [(6, some ⟨9, 1, (Enc.encL a2).length, []⟩), (8, some ⟨42, 5, (Enc.encL a3).length, []⟩)], 10⟩ (QA [.one (WM false)]) ⟨[(0, .cells 68 [.yld 1]), (1, .loop .ready none [(3, .v (.one (.ptr 3 0))), (6, .v (.one (.ptr 5 0))), (20, .v (.one (.fn 73 [(7, 0), (9, 0)])))] 33 #[21] J5 J4 2), (2, .obj (.deferred (some []))), (3, .cells 116 [.mp 4]), (4, .mp (QL r.1.1) r.1.2), (5, .cells 23 [WN 6 r.2]), (7, .cells 40 [WN 8 a3]), (9, .cells 48 (WO a4))], [(6, some ⟨9, 1, (Enc.encL r.2).length, []⟩), (8, some ⟨42, 5, (Enc.encL a3).length, []⟩)], 10⟩ := by
 unfold m89f4 at h0
 refine QR ⟨[(3, .v (.one (WM false)))], [(0, .cells 68 [.yld 1]), (1, .loop .ready none [(3, .v (.one (.ptr 3 0))), (6, .v (.one (.ptr 5 0))), (20, .v (.one (.fn 73 [(7, 0), (9, 0)])))] 33 #[21] J5 J4 2), (2, .obj (.deferred (some []))), (3, .cells 116 [.mp 4]), (4, .mp (QL r.1.1) r.1.2), (5, .cells 23 [WN 6 r.2]), (7, .cells 40 [WN 8 a3]), (9, .cells 48 (WO a4))], [(6, some ⟨9, 1, (Enc.encL r.2).length, []⟩), (8, some ⟨42, 5, (Enc.encL a3).length, []⟩)], 10, 8, []⟩ rfl rfl en_89 (Wx rfl) rfl (Qo rfl .nil) (fun w0 M V0 Q hv0 hQ0 => ?_)
 simp only [Jb]
 refine Q2 <| Q0 <| Wo rfl rfl rfl <| Q3 <| Q1 <| Q2 <| Q0 <| Wm rfl rfl rfl (Q7 ag_68 rfl rfl rfl) <| Wn rfl rfl rfl ?_
 refine Qb h0 (fun y1 h1 h0 => ?_)
 have ha2 : ExecOK Try.prog (some 1) J5 ⟨[(3, .v (.one (.ptr 3 0))), (6, .v (.one (.ptr 5 0))), (20, .v (.one (.fn 73 [(7, 0), (9, 0)]))), (21, .v (.one (Z4 a0)))], [(0, .cells 68 [.yld 1]), (1, .loop .ready none [(3, .v (.one (.ptr 3 0))), (6, .v (.one (.ptr 5 0))), (20, .v (.one (.fn 73 [(7, 0), (9, 0)])))] 33 #[21] J5 J4 2), (2, .obj (.deferred (some []))), (3, .cells 116 [.mp 4]), (4, .mp (QL a1.1) a1.2), (5, .cells 23 [WN 6 a2]), (7, .cells 40 [WN 8 a3]), (9, .cells 48 (WO a4))], [(6, some ⟨9, 1, (Enc.encL a2).length, []⟩), (8, some ⟨42, 5, (Enc.encL a3).length, []⟩)], 10, 33, []⟩ .normal ⟨[(3, .v (.one (.ptr 3 0))), (6, .v (.one (.ptr 5 0))), (7, .v (.one (Z4 a0)))], [(0, .cells 68 [.yld 1]), (1, .loop .ready none [(3, .v (.one (.ptr 3 0))), (6, .v (.one (.ptr 5 0))), (20, .v (.one (.fn 73 [(7, 0), (9, 0)])))] 33 #[21] J5 J4 2), (2, .obj (.deferred (some []))), (3, .cells 116 [.mp 4]), (4, .mp (QL a1.1) a1.2), (5, .cells 23 [WN 6 a2]), (7, .cells 40 [WN 8 a3]), (9, .cells 48 (WO a4))], [(6, some ⟨9, 1, (Enc.encL a2).length, []⟩), (8, some ⟨42, 5, (Enc.encL a3).length, []⟩)], 10, 33, []⟩ := by
  refine Ym (fun w0 M V0 ro n Q hv1 hro1 hQn1 => ?_)
  refine Q0 <| Wo rfl rfl rfl <| Q3 ?_
  exact Kr hQn1 (Qf (Wi rfl (Wi rfl (Wi rfl Wh))) (WD rfl (WD rfl (WD rfl (WD rfl (WD rfl (WD rfl (WD rfl (WD rfl WC)))))))) (Wz rfl (Wz rfl Wy)) rfl (Nat.le_trans hv1 (Wx rfl)) rfl rfl rfl (WU rfl rfl (WU rfl rfl (WU rfl rfl (WU rfl rfl (WS rfl (WU rfl rfl (WU rfl rfl (WU rfl rfl WR)))))))) rfl rfl)
 have hb3 : ExecOK Try.prog (some 1) J4 ⟨[(3, .v (.one (.ptr 3 0))), (6, .v (.one (.ptr 5 0))), (7, .v (.one (Z4 a0)))], [(0, .cells 68 [.yld 1]), (1, .loop .busy none [(3, .v (.one (.ptr 3 0))), (6, .v (.one (.ptr 5 0))), (20, .v (.one (.fn 73 [(7, 0), (9, 0)])))] 33 #[21] J5 J4 2), (2, .obj (.deferred (some []))), (3, .cells 116 [.mp 4]), (4, .mp (QL a1.1) a1.2), (5, .cells 23 [WN 6 a2]), (7, .cells 40 [WN 8 a3]), (9, .cells 48 (WO a4))], [(6, some ⟨9, 1, (Enc.encL a2).length, []⟩), (8, some ⟨42, 5, (Enc.encL a3).length, []⟩)], 10, 33, []⟩ .normal ⟨[], [(0, .cells 68 [.yld 1]), (1, .loop .busy none [(3, .v (.one (.ptr 3 0))), (6, .v (.one (.ptr 5 0))), (20, .v (.one (.fn 73 [(7, 0), (9, 0)])))] 33 #[21] J5 J4 2), (2, .obj (.deferred (some []))), (3, .cells 116 [.mp 4]), (4, .mp (QL y1.1.1) y1.1.2), (5, .cells 23 [WN 6 y1.2]), (7, .cells 40 [WN 8 a3]), (9, .cells 48 (WO a4))], [(6, some ⟨9, 1, (Enc.encL y1.2).length, []⟩), (8, some ⟨42, 5, (Enc.encL a3).length, []⟩)], 10, 33, []⟩ := by
  refine Ym (fun w0 M V0 ro n Q hv1 hro1 hQn1 => ?_)
  refine Qc <| Q2 <| Q0 <| Wm rfl rfl rfl (Q7 ZO rfl rfl rfl) <| Wn rfl rfl rfl <| Wm rfl rfl rfl (RO.lookupGF (M := a1) (k := a0) Kg zok_bool rfl rfl rfl) <| Wm rfl rfl rfl (J9 rfl) <| Q3 <| Q1 ?_
  refine Qe (b := (!(Je a1 a0))) rfl (fun c4 => ?_) (fun c4 => ?_)
  replace h1 := Qq c4 h1
  refine Q2 <| Q0 <| Wm rfl rfl rfl (Q7 ZO rfl rfl rfl) <| Wn rfl rfl rfl <| QJ rfl rfl (JL (M := a1) (k := a0) (v := true) Kg rfl rfl rfl rfl rfl) <| Q3 <| Q1 <| Q0 <| Wm rfl rfl rfl (Q7 KR rfl rfl rfl) <| Wn rfl rfl rfl <| Qa rfl rfl (Wx rfl) (J3 (α := U3) (a0) J1 Xi rfl rfl (Wx rfl) (Wx rfl) rfl rfl (.cons (.d _) .nil) rfl) ?_
  refine QS h1 (fun g5 h1 => ?_)
  refine Qa rfl rfl (Wx rfl) (QW (α := U3) J1 G7 rfl rfl rfl rfl rfl (.app _ _) g5) <| QJ rfl rfl (Ql KR rfl rfl rfl rfl (Wx rfl) rfl) <| Q3 <| Qj ?_
  have e := Wk h1; subst e
  exact Kr hQn1 (Qf Wh (WD rfl (WD rfl (WD rfl (WD rfl (WD rfl (WD rfl (WD rfl (WD rfl WC)))))))) (Wz rfl (Wz rfl Wy)) rfl (Nat.le_trans hv1 (Wx rfl)) rfl rfl rfl (WU rfl rfl (WU rfl rfl (WU rfl rfl (WU rfl rfl (WS rfl (WU rfl rfl (WU rfl rfl (WU rfl rfl WR)))))))) rfl rfl)
  replace h1 := Qr c4 h1
  refine Qi <| Qj ?_
  have e := Wk h1; subst e
  exact Kr hQn1 (Qf Wh (WD rfl (WD rfl (WD rfl (WD rfl (WD rfl (WD rfl (WD rfl (WD rfl WC)))))))) (Wz rfl (Wz rfl Wy)) rfl (Nat.le_trans hv1 (Wx rfl)) rfl rfl rfl (WU rfl rfl (WU rfl rfl (WU rfl rfl (WU rfl rfl (WS rfl (WU rfl rfl (WU rfl rfl (WU rfl rfl WR)))))))) rfl rfl)
 refine Qa rfl rfl (Wx rfl) (OpOK.yield (jump := none) rfl rfl rfl rfl rfl (Yn ha2 (fun E hv => (Qf (Wi rfl (Wi rfl (Wi rfl (Wi rfl Wh)))) (WD rfl (WD rfl (WD rfl (WD rfl (WD rfl (WD rfl (WD rfl (WD rfl WC)))))))) (Wz rfl (Wz rfl Wy)) rfl (Nat.le_trans hv (Wx rfl)) rfl rfl rfl (WU rfl rfl (WU rfl rfl (WU rfl rfl (WU rfl rfl (WS rfl (WU rfl rfl (WU rfl rfl (WU rfl rfl WR)))))))) rfl rfl))) rfl (Yn hb3 (fun E hv => (Qf (Wi rfl (Wi rfl (Wi rfl Wh))) (WD rfl (WD rfl (WD rfl (WD rfl (WD rfl (WD rfl (WD rfl (WD rfl WC)))))))) (Wz rfl (Wz rfl Wy)) rfl (Nat.le_trans hv (Wx rfl)) rfl rfl rfl (WU rfl rfl (WU rfl rfl (WU rfl rfl (WU rfl rfl (WS rfl (WU rfl rfl (WU rfl rfl (WU rfl rfl WR)))))))) rfl rfl))) rfl rfl) ?_
 refine Wm rfl rfl rfl (J9 rfl) <| Wo rfl rfl rfl <| Q3 <| Q1 <| Qz ?_
 have e := Wk h0; subst e
 exact hQ0 _ _ _ (.inr rfl) rfl (Qf (Wi rfl Wh) (WD rfl (WD rfl (WD rfl (WD rfl (WD rfl (WD rfl (WD rfl (WD rfl WC)))))))) (Wz rfl (Wz rfl Wy)) rfl (Nat.le_trans hv0 (Wx rfl)) rfl rfl rfl (WU rfl rfl (WU rfl rfl (WU rfl rfl (WU rfl rfl (WS rfl (WU rfl rfl (WU rfl rfl (WU rfl rfl WR)))))))) rfl rfl)
def K4 (a0 : List U3) (a3 : List Tm) (a4 : Dcl) (s1 : Int × (Qh U3 Bool) × (List U3)) : Option (LO (Int × (Qh U3 Bool) × (List U3)) (((Qh U3 Bool) × (List U3)))) :=
 cond (decide (s1.1 < (a0.length : Int)))
   (Option.bind (Ja a0 s1.1) fun (x3 : U3) =>
 Option.bind (m89f4 x3 s1.2.1 s1.2.2 a3 a4) fun (x4 : (Qh U3 Bool) × (List U3)) =>
 some (.next ((QZ (s1.1 + 1)), x4.1, x4.2)))
   (some (.done (s1.2.1, s1.2.2)))
def Xm (a0 : List U3) (a1 : Qh U3 Bool) (a2 : List U3) (a3 : List Tm) (a4 : Dcl) : Option ((Qh U3 Bool) × (List U3)) :=
 Option.bind (Qw (K4 a0 a3 a4) QF (0, a1, a2)) (fun (o1 : (Qh U3 Bool) × (List U3)) => some (o1.1, o1.2))
set_option maxRecDepth 100000 in
set_option maxHeartbeats 8000000 in
theorem m52f3_ok (a0 : List U3) (a1 : Qh U3 Bool) (a2 : List U3) (a3 : List Tm) (a4 : Dcl) (r : (Qh U3 Bool) × (List U3)) (h0 : Xm a0 a1 a2 a3 a4 = some r) : CallM Try.prog 52 [.one (WJ a0), .one (.fn 89 [(0, 0)])] ⟨[(0, .cells 68 [.yld 1]), (1, .loop .ready none [(3, .v (.one (.ptr 3 0))), (6, .v (.one (.ptr 5 0))), (20, .v (.one (.fn 73 [(7, 0), (9, 0)])))] 33 #[21] J5 J4 2), (2, .obj (.deferred (some []))), (3, .cells 116 [.mp 4]), (4, .mp (QL a1.1) a1.2), (5, .cells 23 [WN 6 a2]), (7, .cells 40 [WN 8 a3]), (9, .cells 48 (WO a4))], [(6, some ⟨9, 1, (Enc.encL a2).length, []⟩), (8, some ⟨42, 5, (Enc.encL a3).length, []⟩)], 10⟩ (QA [.one (WL (-1))]) ⟨[(0, .cells 68 [.yld 1]), (1, .loop .ready none [(3, .v (.one (.ptr 3 0))), (6, .v (.one (.ptr 5 0))), (20, .v (.one (.fn 73 [(7, 0), (9, 0)])))] 33 #[21] J5 J4 2), (2, .obj (.deferred (some []))), (3, .cells 116 [.mp 4]), (4, .mp (QL r.1.1) r.1.2), (5, .cells 23 [WN 6 r.2]), (7, .cells 40 [WN 8 a3]), (9, .cells 48 (WO a4))], [(6, some ⟨9, 1, (Enc.encL r.2).length, []⟩), (8, some ⟨42, 5, (Enc.encL a3).length, []⟩)], 10⟩ := by
 unfold Xm at h0
 refine QR ⟨[(4, .v (.one (WL (-1))))], [(0, .cells 68 [.yld 1]), (1, .loop .ready none [(3, .v (.one (.ptr 3 0))), (6, .v (.one (.ptr 5 0))), (20, .v (.one (.fn 73 [(7, 0), (9, 0)])))] 33 #[21] J5 J4 2), (2, .obj (.deferred (some []))), (3, .cells 116 [.mp 4]), (4, .mp (QL r.1.1) r.1.2), (5, .cells 23 [WN 6 r.2]), (7, .cells 40 [WN 8 a3]), (9, .cells 48 (WO a4))], [(6, some ⟨9, 1, (Enc.encL r.2).length, []⟩), (8, some ⟨42, 5, (Enc.encL a3).length, []⟩)], 10, 19, []⟩ rfl rfl en_52 (Wx rfl) rfl (Qo rfl .nil) (fun w0 M V0 Q hv0 hQ0 => ?_)
 simp only [Jb]
 refine Q2 <| Q0 <| Wo rfl rfl rfl <| Q3 <| Q1 <| Q2 <| Q2 <| Q0 <| Wn rfl rfl rfl <| Wm rfl rfl rfl (QC (α := U3) J1 rfl (.d _)) <| Wn rfl rfl rfl <| Q3 <| Q1 <| Qc ?_
 refine QI 0 (fun (o1 : (Qh U3 Bool) × (List U3)) => ⟨[], [(0, .cells 68 [.yld 1]), (1, .loop .ready none [(3, .v (.one (.ptr 3 0))), (6, .v (.one (.ptr 5 0))), (20, .v (.one (.fn 73 [(7, 0), (9, 0)])))] 33 #[21] J5 J4 2), (2, .obj (.deferred (some []))), (3, .cells 116 [.mp 4]), (4, .mp (QL o1.1.1) o1.1.2), (5, .cells 23 [WN 6 o1.2]), (7, .cells 40 [WN 8 a3]), (9, .cells 48 (WO a4))], [(6, some ⟨9, 1, (Enc.encL o1.2).length, []⟩), (8, some ⟨42, 5, (Enc.encL a3).length, []⟩)], 10, 19, []⟩) (fun (o1 : (Qh U3 Bool) × (List U3)) => (some (o1.1, o1.2)) = some r) ?_ ?_
 refine Qb h0 (fun o2 hl1 h0 => ?_)
 refine QH (K4 a0 a3 a4) (fun s1 => ⟨[(0, .v (.one (WJ a0))), (1, .v (.one (.fn 89 [(0, 0)]))), (7, .v (.one (WL (a0.length : Int)))), (8, .v (.one (WL s1.1)))], [(0, .cells 68 [.yld 1]), (1, .loop .ready none [(3, .v (.one (.ptr 3 0))), (6, .v (.one (.ptr 5 0))), (20, .v (.one (.fn 73 [(7, 0), (9, 0)])))] 33 #[21] J5 J4 2), (2, .obj (.deferred (some []))), (3, .cells 116 [.mp 4]), (4, .mp (QL s1.2.1.1) s1.2.1.2), (5, .cells 23 [WN 6 s1.2.2]), (7, .cells 40 [WN 8 a3]), (9, .cells 48 (WO a4))], [(6, some ⟨9, 1, (Enc.encL s1.2.2).length, []⟩), (8, some ⟨42, 5, (Enc.encL a3).length, []⟩)], 10, 19, []⟩) (0, a1, a2) o2 (Qf (Wi rfl (Wi rfl (Wi rfl (Wi rfl Wh)))) (WD rfl (WD rfl (WD rfl (WD rfl (WD rfl (WD rfl (WD rfl (WD rfl WC)))))))) (Wz rfl (Wz rfl Wy)) rfl (Nat.le_trans hv0 (Wx rfl)) rfl rfl rfl (WU rfl rfl (WU rfl rfl (WU rfl rfl (WU rfl rfl (WS rfl (WU rfl rfl (WU rfl rfl (WU rfl rfl WR)))))))) rfl rfl) hl1 (fun s1 n1 oo1 h1 ho1 => ?_)
 unfold K4 at h1
 refine Q2 <| Q0 <| Wm rfl rfl rfl (Q8 rfl rfl rfl) <| Q3 <| Q1 <| Q2 ?_
 refine Qe (b := (decide (s1.1 < (a0.length : Int)))) rfl (fun c3 => ?_) (fun c3 => ?_)
 replace h1 := Qq c3 h1
 refine Qi <| Q1 <| Q2 <| Qc <| Q2 <| Q0 <| Wn rfl rfl rfl <| Wo rfl rfl rfl <| Q3 <| Q1 <| Q2 <| Q0 <| Wn rfl rfl rfl <| Wn rfl rfl rfl ?_
 refine Wn rfl rfl rfl ?_
 refine Qb h1 (fun x4 hx4 h1 => ?_)
 refine Wm rfl rfl rfl (Qm (α := U3) J1 rfl (.d _) rfl hx4) <| Wm rfl rfl rfl (QN JT rfl rfl) ?_
 refine Qb h1 (fun x5 hx5 h1 => ?_)
 refine Qa rfl rfl (Wx rfl) (J2 (hp1' := [(0, .cells 68 [.yld 1]), (1, .loop .ready none [(3, .v (.one (.ptr 3 0))), (6, .v (.one (.ptr 5 0))), (20, .v (.one (.fn 73 [(7, 0), (9, 0)])))] 33 #[21] J5 J4 2), (2, .obj (.deferred (some []))), (3, .cells 116 [.mp 4]), (4, .mp (QL x5.1.1) x5.1.2), (5, .cells 23 [WN 6 x5.2]), (7, .cells 40 [WN 8 a3]), (9, .cells 48 (WO a4))]) (tk1' := [(6, some ⟨9, 1, (Enc.encL x5.2).length, []⟩), (8, some ⟨42, 5, (Enc.encL a3).length, []⟩)]) (hpF := []) (tkF := []) (res2 := QA [.one (WM false)]) (nx2 := 10) [0, 1, 2, 3, 4, 5, 6, 7, 8, 9] rfl rfl (m89f4_ok x4 s1.2.1 s1.2.2 a3 a4 x5 hx5) rfl rfl (Ws rfl rfl (Ws rfl rfl (Ws rfl rfl (Ws rfl rfl (Wq rfl (Ws rfl rfl (Ws rfl rfl (Ws rfl rfl Wp)))))))) rfl rfl (WG rfl (WG rfl (WG rfl (WG rfl (WH rfl (WG rfl (WG rfl (WG rfl WF)))))))) (WB rfl (WB rfl WA)) WC Wy rfl rfl rfl rfl rfl (WU rfl rfl (WU rfl rfl (WU rfl rfl (WU rfl rfl (WS rfl (WU rfl rfl (WU rfl rfl (WU rfl rfl WR)))))))) rfl rfl rfl rfl) <| Q3 <| Q1 ?_
 refine Qe rfl (fun h => nomatch h) (fun _ => ?_)
 refine Qi <| Qj <| Q1 <| Q0 <| Wm rfl rfl rfl (Q8 rfl rfl rfl) <| Wn rfl rfl rfl <| Q3 ?_
 have e := Wk h1; subst e
 refine QD ((QZ (s1.1 + 1)), x5.1, x5.2) (Qf (Wi rfl (Wi rfl (Wi rfl (Wi rfl Wh)))) (WD rfl (WD rfl (WD rfl (WD rfl (WD rfl (WD rfl (WD rfl (WD rfl WC)))))))) (Wz rfl (Wz rfl Wy)) rfl (Nat.le_trans hv0 (Wx rfl)) rfl rfl rfl (WU rfl rfl (WU rfl rfl (WU rfl rfl (WU rfl rfl (WS rfl (WU rfl rfl (WU rfl rfl (WU rfl rfl WR)))))))) rfl rfl) ho1
 replace h1 := Qr c3 h1
 refine QM <| Qd <| Qd ?_
 have e := Wk h1; subst e
 have e_ : _ = _ := ho1
 subst e_
 exact QG (s1.2.1, s1.2.2) (Qf Wh (WD rfl (WD rfl (WD rfl (WD rfl (WD rfl (WD rfl (WD rfl (WD rfl WC)))))))) (Wz rfl (Wz rfl Wy)) rfl (Nat.le_trans hv0 (Wx rfl)) rfl rfl rfl (WU rfl rfl (WU rfl rfl (WU rfl rfl (WU rfl rfl (WS rfl (WU rfl rfl (WU rfl rfl (WU rfl rfl WR)))))))) rfl rfl) h0
 intro o1 h0
 refine QB <| Q1 <| Q2 <| Q0 <| Wo rfl rfl rfl <| Q3 <| Q1 <| Qz ?_
 have e := Wk h0; subst e
 exact hQ0 _ _ _ (.inr rfl) rfl (Qf (Wi rfl Wh) (WD rfl (WD rfl (WD rfl (WD rfl (WD rfl (WD rfl (WD rfl (WD rfl WC)))))))) (Wz rfl (Wz rfl Wy)) rfl (Nat.le_trans hv0 (Wx rfl)) rfl rfl rfl (WU rfl rfl (WU rfl rfl (WU rfl rfl (WU rfl rfl (WS rfl (WU rfl rfl (WU rfl rfl (WU rfl rfl WR)))))))) rfl rfl)
def m31f2 (a0 : List U3) (a1 : Qh U3 Bool) (a2 : List U3) (a3 : List Tm) (a4 : Dcl) : Option ((Qh U3 Bool) × (List U3)) :=
 Option.bind (Xm a0 a1 a2 a3 a4) fun (x1 : (Qh U3 Bool) × (List U3)) =>
 some (x1.1, x1.2)
set_option maxRecDepth 100000 in
set_option maxHeartbeats 8000000 in
theorem m31f2_ok (a0 : List U3) (a1 : Qh U3 Bool) (a2 : List U3) (a3 : List Tm) (a4 : Dcl) (r : (Qh U3 Bool) × (List U3)) (h0 : m31f2 a0 a1 a2 a3 a4 = some r) : CallM Try.prog 31 [.one (WJ a0), .one (.fn 89 [(0, 0)])] ⟨[(0, .cells 68 [.yld 1]), (1, .loop .ready none [(3, .v (.one (.ptr 3 0))), (6, .v (.one (.ptr 5 0))), (20, .v (.one (.fn 73 [(7, 0), (9, 0)])))] 33 #[21] J5 J4 2), (2, .obj (.deferred (some []))), (3, .cells 116 [.mp 4]), (4, .mp (QL a1.1) a1.2), (5, .cells 23 [WN 6 a2]), (7, .cells 40 [WN 8 a3]), (9, .cells 48 (WO a4))], [(6, some ⟨9, 1, (Enc.encL a2).length, []⟩), (8, some ⟨42, 5, (Enc.encL a3).length, []⟩)], 10⟩ (QA [.one (WM false)]) ⟨[(0, .cells 68 [.yld 1]), (1, .loop .ready none [(3, .v (.one (.ptr 3 0))), (6, .v (.one (.ptr 5 0))), (20, .v (.one (.fn 73 [(7, 0), (9, 0)])))] 33 #[21] J5 J4 2), (2, .obj (.deferred (some []))), (3, .cells 116 [.mp 4]), (4, .mp (QL r.1.1) r.1.2), (5, .cells 23 [WN 6 r.2]), (7, .cells 40 [WN 8 a3]), (9, .cells 48 (WO a4))], [(6, some ⟨9, 1, (Enc.encL r.2).length, []⟩), (8, some ⟨42, 5, (Enc.encL a3).length, []⟩)], 10⟩ := by
 unfold m31f2 at h0
 refine QR ⟨[(4, .v (.one (WM false)))], [(0, .cells 68 [.yld 1]), (1, .loop .ready none [(3, .v (.one (.ptr 3 0))), (6, .v (.one (.ptr 5 0))), (20, .v (.one (.fn 73 [(7, 0), (9, 0)])))] 33 #[21] J5 J4 2), (2, .obj (.deferred (some []))), (3, .cells 116 [.mp 4]), (4, .mp (QL r.1.1) r.1.2), (5, .cells 23 [WN 6 r.2]), (7, .cells 40 [WN 8 a3]), (9, .cells 48 (WO a4))], [(6, some ⟨9, 1, (Enc.encL r.2).length, []⟩), (8, some ⟨42, 5, (Enc.encL a3).length, []⟩)], 10, 9, []⟩ rfl rfl en_31 (Wx rfl) rfl (Qo rfl .nil) (fun w0 M V0 Q hv0 hQ0 => ?_)
 simp only [Jb]
 refine Q2 <| Q0 <| Wo rfl rfl rfl <| Q3 <| Q1 <| Q2 <| Q0 <| Wn rfl rfl rfl <| Wn rfl rfl rfl ?_
 refine Qb h0 (fun x1 hx1 h0 => ?_)
 refine Qa rfl rfl (Wx rfl) (J2 (hp1' := [(0, .cells 68 [.yld 1]), (1, .loop .ready none [(3, .v (.one (.ptr 3 0))), (6, .v (.one (.ptr 5 0))), (20, .v (.one (.fn 73 [(7, 0), (9, 0)])))] 33 #[21] J5 J4 2), (2, .obj (.deferred (some []))), (3, .cells 116 [.mp 4]), (4, .mp (QL x1.1.1) x1.1.2), (5, .cells 23 [WN 6 x1.2]), (7, .cells 40 [WN 8 a3]), (9, .cells 48 (WO a4))]) (tk1' := [(6, some ⟨9, 1, (Enc.encL x1.2).length, []⟩), (8, some ⟨42, 5, (Enc.encL a3).length, []⟩)]) (hpF := []) (tkF := []) (res2 := QA [.one (WL (-1))]) (nx2 := 10) [0, 1, 2, 3, 4, 5, 6, 7, 8, 9] rfl rfl (m52f3_ok a0 a1 a2 a3 a4 x1 hx1) rfl rfl (Ws rfl rfl (Ws rfl rfl (Ws rfl rfl (Ws rfl rfl (Wq rfl (Ws rfl rfl (Ws rfl rfl (Ws rfl rfl Wp)))))))) rfl rfl (WG rfl (WG rfl (WG rfl (WG rfl (WH rfl (WG rfl (WG rfl (WG rfl WF)))))))) (WB rfl (WB rfl WA)) WC Wy rfl rfl rfl rfl rfl (WU rfl rfl (WU rfl rfl (WU rfl rfl (WU rfl rfl (WS rfl (WU rfl rfl (WU rfl rfl (WU rfl rfl WR)))))))) rfl rfl rfl rfl) <| Wm rfl rfl rfl (Q8 rfl rfl rfl) <| Wo rfl rfl rfl <| Q3 <| Q1 <| Qz ?_
 have e := Wk h0; subst e
 exact hQ0 _ _ _ (.inr rfl) rfl (Qf (Wi rfl Wh) (WD rfl (WD rfl (WD rfl (WD rfl (WD rfl (WD rfl (WD rfl (WD rfl WC)))))))) (Wz rfl (Wz rfl Wy)) rfl (Nat.le_trans hv0 (Wx rfl)) rfl rfl rfl (WU rfl rfl (WU rfl rfl (WU rfl rfl (WU rfl rfl (WS rfl (WU rfl rfl (WU rfl rfl (WU rfl rfl WR)))))))) rfl rfl)
def ZF (a0 : Tr) (rc : Tr × (Qh U3 Bool) × (List U3) × (List Tm) × Dcl → Option (Bool × (Qh U3 Bool) × (List U3))) (a3 : List Tm) (a4 : Dcl) (s1 : Int × (Qh U3 Bool) × (List U3)) : Option (LO (Int × (Qh U3 Bool) × (List U3)) (((Qh U3 Bool) × (List U3)) ⊕ ((Bool × (Qh U3 Bool) × (List U3))))) :=
 cond (decide (s1.1 < (a0.branches.length : Int)))
   (Option.bind (Ja a0.branches s1.1) fun (x6 : U4) =>
 Option.bind (Option.bind (cond (!(Je s1.2.1 x6.ctor))
   (Qy (Nat.ble (s1.2.2.length + ([x6.ctor]).length) 1000000000)
 (some ((JY s1.2.1 x6.ctor true), (s1.2.2 ++ ([x6.ctor])))))
   (some (s1.2.1, s1.2.2))) (fun (y8 : (Qh U3 Bool) × (List U3)) => cond (!x6.absurd)
   (Option.bind (rc (x6.tree, y8.1, y8.2, a3, a4)) fun (x14 : Bool × (Qh U3 Bool) × (List U3)) =>
 some (true, (!x14.1), (!x14.1), x14.2.1, x14.2.2))
   (some (false, false, false, y8.1, y8.2)))) (fun (v7 : Bool × Bool × Bool × (Qh U3 Bool) × (List U3)) => cond v7.2.2.1
   (some (.done (.inr (false, v7.2.2.2.1, v7.2.2.2.2))))
   (some (.next ((QZ (s1.1 + 1)), v7.2.2.2.1, v7.2.2.2.2)))))
   (some (.done (.inl (s1.2.1, s1.2.2))))
def GT (rc : Tr × (Qh U3 Bool) × (List U3) × (List Tm) × Dcl → Option (Bool × (Qh U3 Bool) × (List U3))) (a0 : Tr) (a1 : Qh U3 Bool) (a2 : List U3) (a3 : List Tm) (a4 : Dcl) : Option (Bool × (Qh U3 Bool) × (List U3)) :=
 cond (a0.kind == 0)
   (Option.bind (W5 a0.body) fun (x2 : (List U3)) =>
 Option.bind (m31f2 x2 a1 a2 a3 a4) fun (x3 : (Qh U3 Bool) × (List U3)) =>
 some (true, x3.1, x3.2))
   (Option.bind (Qw (ZF a0 rc a3 a4) QF (0, a1, a2)) (Sum.elim (fun (o4 : (Qh U3 Bool) × (List U3)) => some (true, o4.1, o4.2)) (fun o => some o)))
def GU (rc : Tr × (Qh U3 Bool) × (List U3) × (List Tm) × Dcl → Option (Bool × (Qh U3 Bool) × (List U3))) (u : Tr × (Qh U3 Bool) × (List U3) × (List Tm) × Dcl) : Option (Bool × (Qh U3 Bool) × (List U3)) := GT rc u.1 u.2.1 u.2.2.1 u.2.2.2.1 u.2.2.2.2
def m75f1 (a0 : Tr) (a1 : Qh U3 Bool) (a2 : List U3) (a3 : List Tm) (a4 : Dcl) : Option (Bool × (Qh U3 Bool) × (List U3)) := Yb GU QF (a0, a1, a2, a3, a4)
set_option maxRecDepth 100000 in
set_option maxHeartbeats 8000000 in
theorem m75f1s_ok (rc : Tr × (Qh U3 Bool) × (List U3) × (List Tm) × Dcl → Option (Bool × (Qh U3 Bool) × (List U3))) (H : ∀ (a0 : Tr) (a1 : Qh U3 Bool) (a2 : List U3) (a3 : List Tm) (a4 : Dcl) (r : Bool × (Qh U3 Bool) × (List U3)), rc (a0, a1, a2, a3, a4) = some r → CallM Try.prog 75 [.agg (WO a0), .one (.yld 0)] ⟨[(0, .loop .ready none [(3, .v (.one (.ptr 2 0))), (6, .v (.one (.ptr 4 0))), (20, .v (.one (.fn 73 [(6, 0), (8, 0)])))] 33 #[21] J5 J4 1), (1, .obj (.deferred (some []))), (2, .cells 116 [.mp 3]), (3, .mp (QL a1.1) a1.2), (4, .cells 23 [WN 5 a2]), (6, .cells 40 [WN 7 a3]), (8, .cells 48 (WO a4))], [(5, some ⟨9, 1, (Enc.encL a2).length, []⟩), (7, some ⟨42, 5, (Enc.encL a3).length, []⟩)], 9⟩ (QA [.one (WM r.1)]) ⟨[(0, .loop .ready none [(3, .v (.one (.ptr 2 0))), (6, .v (.one (.ptr 4 0))), (20, .v (.one (.fn 73 [(6, 0), (8, 0)])))] 33 #[21] J5 J4 1), (1, .obj (.deferred (some []))), (2, .cells 116 [.mp 3]), (3, .mp (QL r.2.1.1) r.2.1.2), (4, .cells 23 [WN 5 r.2.2]), (6, .cells 40 [WN 7 a3]), (8, .cells 48 (WO a4))], [(5, some ⟨9, 1, (Enc.encL r.2.2).length, []⟩), (7, some ⟨42, 5, (Enc.encL a3).length, []⟩)], 11⟩) (a0 : Tr) (a1 : Qh U3 Bool) (a2 : List U3) (a3 : List Tm) (a4 : Dcl) (r : Bool × (Qh U3 Bool) × (List U3)) (h0 : GT rc a0 a1 a2 a3 a4 = some r) : CallM Try.prog 75 [.agg (WO a0), .one (.yld 0)] ⟨[(0, .loop .ready none [(3, .v (.one (.ptr 2 0))), (6, .v (.one (.ptr 4 0))), (20, .v (.one (.fn 73 [(6, 0), (8, 0)])))] 33 #[21] J5 J4 1), (1, .obj (.deferred (some []))), (2, .cells 116 [.mp 3]), (3, .mp (QL a1.1) a1.2), (4, .cells 23 [WN 5 a2]), (6, .cells 40 [WN 7 a3]), (8, .cells 48 (WO a4))], [(5, some ⟨9, 1, (Enc.encL a2).length, []⟩), (7, some ⟨42, 5, (Enc.encL a3).length, []⟩)], 9⟩ (QA [.one (WM r.1)]) ⟨[(0, .loop .ready none [(3, .v (.one (.ptr 2 0))), (6, .v (.one (.ptr 4 0))), (20, .v (.one (.fn 73 [(6, 0), (8, 0)])))] 33 #[21] J5 J4 1), (1, .obj (.deferred (some []))), (2, .cells 116 [.mp 3]), (3, .mp (QL r.2.1.1) r.2.1.2), (4, .cells 23 [WN 5 r.2.2]), (6, .cells 40 [WN 7 a3]), (8, .cells 48 (WO a4))], [(5, some ⟨9, 1, (Enc.encL r.2.2).length, []⟩), (7, some ⟨42, 5, (Enc.encL a3).length, []⟩)], 11⟩ := by
 unfold GT at h0
 refine QR ⟨[(4, .v (.one (WM r.1)))], [(0, .loop .ready none [(3, .v (.one (.ptr 2 0))), (6, .v (.one (.ptr 4 0))), (20, .v (.one (.fn 73 [(6, 0), (8, 0)])))] 33 #[21] J5 J4 1), (1, .obj (.deferred (some []))), (2, .cells 116 [.mp 3]), (3, .mp (QL r.2.1.1) r.2.1.2), (4, .cells 23 [WN 5 r.2.2]), (6, .cells 40 [WN 7 a3]), (8, .cells 48 (WO a4))], [(5, some ⟨9, 1, (Enc.encL r.2.2).length, []⟩), (7, some ⟨42, 5, (Enc.encL a3).length, []⟩)], 11, 41, []⟩ rfl rfl en_75 (Wx rfl) rfl (Qo rfl .nil) (fun w0 M V0 Q hv0 hQ0 => ?_)
 simp only [Jb]
 refine Q2 <| Q0 <| Qa rfl rfl (Wx rfl) (Jc rfl) <| Qa rfl rfl (Wx rfl) (Jc rfl) <| Wo rfl rfl rfl <| Q3 <| Q1 <| Q2 <| Q2 <| Q0 <| Wm rfl rfl rfl (Q6 fo_87_0 rfl) <| Wm rfl rfl rfl (Q7 YA rfl rfl rfl) <| Wm rfl rfl rfl (Q8 rfl rfl rfl) <| Q3 ?_
 refine Q1 ?_
 refine Qe (b := (a0.kind == 0)) rfl (fun c1 => ?_) (fun c1 => ?_)
 replace h0 := Qq c1 h0
 refine Q2 <| Q0 <| Wm rfl rfl rfl (Q6 fo_87_1 rfl) <| Wm rfl rfl rfl (Qu Jn rfl rfl rfl rfl) ?_
 refine Qb h0 (fun x2 hx2 h0 => ?_)
 refine Qa rfl rfl (Wx rfl) (Qn (m74_ok a0.body x2 hx2) rfl (.cons (.agg (.cons (.d _) (.cons (.d _) (.cons (.d _) (.cons (.d _) (.cons (.d _) .nil)))))) .nil)) <| Wm rfl rfl rfl (RO.makeFunc1 rfl) ?_
 refine Qb h0 (fun x3 hx3 h0 => ?_)
 refine Qa rfl rfl (Wx rfl) (J2 (hp1' := [(10, .cells 68 [.yld 0]), (0, .loop .ready none [(3, .v (.one (.ptr 2 0))), (6, .v (.one (.ptr 4 0))), (20, .v (.one (.fn 73 [(6, 0), (8, 0)])))] 33 #[21] J5 J4 1), (1, .obj (.deferred (some []))), (2, .cells 116 [.mp 3]), (3, .mp (QL x3.1.1) x3.1.2), (4, .cells 23 [WN 5 x3.2]), (6, .cells 40 [WN 7 a3]), (8, .cells 48 (WO a4))]) (tk1' := [(5, some ⟨9, 1, (Enc.encL x3.2).length, []⟩), (7, some ⟨42, 5, (Enc.encL a3).length, []⟩)]) (hpF := [(9, .cells 87 (WO a0))]) (tkF := []) (res2 := QA [.one (WM false)]) (nx2 := 11) [10, 0, 1, 2, 3, 4, 5, 6, 7, 8] rfl rfl (m31f2_ok x2 a1 a2 a3 a4 x3 hx3) rfl rfl (Ws rfl rfl (Ws rfl rfl (Ws rfl rfl (Ws rfl rfl (Wq rfl (Ws rfl rfl (Ws rfl rfl (Ws rfl rfl Wp)))))))) rfl rfl (WG rfl (WG rfl (WG rfl (WG rfl (WH rfl (WG rfl (WG rfl (WG rfl WF)))))))) (WB rfl (WB rfl WA)) (WD rfl WC) Wy rfl rfl rfl rfl rfl (WU rfl rfl (WU rfl rfl (WU rfl rfl (WU rfl rfl (WS rfl (WU rfl rfl (WU rfl rfl (WU rfl rfl WR)))))))) rfl rfl rfl rfl) <| Wm rfl rfl rfl (J9 rfl) <| Wo rfl rfl rfl <| Q3 <| Q1 <| Qz ?_
 have e := Wk h0; subst e
 exact hQ0 _ _ _ (.inr rfl) rfl (Qf (Wi rfl Wh) (WD rfl (WD rfl (WD rfl (WD rfl (WD rfl (WD rfl (WD rfl WC))))))) (Wz rfl (Wz rfl Wy)) rfl (Nat.le_trans hv0 (Wx rfl)) rfl rfl rfl (WU rfl rfl (WU rfl rfl (WU rfl rfl (WS rfl (WU rfl rfl (WU rfl rfl (WU rfl rfl WR))))))) rfl rfl)
 replace h0 := Qr c1 h0
 refine Qi <| Q1 <| Q2 <| Q2 <| Q0 <| Wm rfl rfl rfl (Q6 Yd rfl) <| Wm rfl rfl rfl (Q7 Zl rfl rfl rfl) <| Wm rfl rfl rfl (QC (α := U4) Z2 rfl (.d _)) <| Wn rfl rfl rfl <| Q3 <| Q1 <| Qc ?_
 refine QI 0 (fun (o4 : (Qh U3 Bool) × (List U3)) => ⟨[], [(0, .loop .ready none [(3, .v (.one (.ptr 2 0))), (6, .v (.one (.ptr 4 0))), (20, .v (.one (.fn 73 [(6, 0), (8, 0)])))] 33 #[21] J5 J4 1), (1, .obj (.deferred (some []))), (2, .cells 116 [.mp 3]), (3, .mp (QL o4.1.1) o4.1.2), (4, .cells 23 [WN 5 o4.2]), (6, .cells 40 [WN 7 a3]), (8, .cells 48 (WO a4)), (9, .cells 87 (WO a0)), (10, .cells 68 [.yld 0])], [(5, some ⟨9, 1, (Enc.encL o4.2).length, []⟩), (7, some ⟨42, 5, (Enc.encL a3).length, []⟩)], 11, 41, []⟩) (fun (o4 : (Qh U3 Bool) × (List U3)) => (some (true, o4.1, o4.2)) = some r) ?_ ?_
 refine Qb h0 (fun o5 hl1 h0 => ?_)
 refine QH (ZF a0 rc a3 a4) (fun s1 => ⟨[(3, .v (.one (.ptr 10 0))), (17, .v (.one (WJ a0.branches))), (18, .v (.one (WL (a0.branches.length : Int)))), (19, .v (.one (WL s1.1)))], [(0, .loop .ready none [(3, .v (.one (.ptr 2 0))), (6, .v (.one (.ptr 4 0))), (20, .v (.one (.fn 73 [(6, 0), (8, 0)])))] 33 #[21] J5 J4 1), (1, .obj (.deferred (some []))), (2, .cells 116 [.mp 3]), (3, .mp (QL s1.2.1.1) s1.2.1.2), (4, .cells 23 [WN 5 s1.2.2]), (6, .cells 40 [WN 7 a3]), (8, .cells 48 (WO a4)), (9, .cells 87 (WO a0)), (10, .cells 68 [.yld 0])], [(5, some ⟨9, 1, (Enc.encL s1.2.2).length, []⟩), (7, some ⟨42, 5, (Enc.encL a3).length, []⟩)], 11, 41, []⟩) (0, a1, a2) o5 (Qf (Wi rfl (Wi rfl (Wi rfl (Wi rfl Wh)))) (WD rfl (WD rfl (WD rfl (WD rfl (WD rfl (WD rfl (WD rfl (WD rfl (WD rfl WC))))))))) (Wz rfl (Wz rfl Wy)) rfl (Nat.le_trans hv0 (Wx rfl)) rfl rfl rfl (WU rfl rfl (WU rfl rfl (WU rfl rfl (WS rfl (WU rfl rfl (WU rfl rfl (WU rfl rfl (WU rfl rfl (WU rfl rfl WR))))))))) rfl rfl) hl1 (fun s1 n1 oo1 h1 ho1 => ?_)
 unfold ZF at h1
 refine Q2 <| Q0 <| Wm rfl rfl rfl (Q8 rfl rfl rfl) <| Q3 <| Q1 <| Q2 ?_
 refine Qe (b := (decide (s1.1 < (a0.branches.length : Int)))) rfl (fun c6 => ?_) (fun c6 => ?_)
 replace h1 := Qq c6 h1
 refine Qi <| Q1 <| Q2 <| Qc <| Q2 <| Q0 ?_
 refine Qb h1 (fun x7 hx7 h1 => ?_)
 refine Wm rfl rfl rfl (Qm (α := U4) Z2 rfl (.d _) rfl hx7) <| Wm rfl rfl rfl (Jh Zb rfl rfl rfl) <| Qa rfl rfl (Wx rfl) (Qp Xj rfl) <| QJ rfl rfl (Ql Zb rfl rfl rfl rfl (Wx rfl) rfl) <| Q3 <| Q1 <| Q2 ?_
 refine Jf (fun (v8 : Bool × Bool × Bool × (Qh U3 Bool) × (List U3)) => ⟨[(3, .v (.one (.ptr 10 0))), (17, .v (.one (WJ a0.branches))), (18, .v (.one (WL (a0.branches.length : Int)))), (19, .v (.one (WL s1.1))), (29, .v (.one (.ptr 11 1))), (30, .v (.one (WM x7.absurd))), (31, .v (.one (WM (!x7.absurd)))), (32, .v (.one (WM v8.1))), (38, .v (.one (WM v8.2.1))), (39, .v (.one (WM v8.2.2.1)))], [(0, .loop .ready none [(3, .v (.one (.ptr 2 0))), (6, .v (.one (.ptr 4 0))), (20, .v (.one (.fn 73 [(6, 0), (8, 0)])))] 33 #[21] J5 J4 1), (1, .obj (.deferred (some []))), (2, .cells 116 [.mp 3]), (3, .mp (QL v8.2.2.2.1.1) v8.2.2.2.1.2), (4, .cells 23 [WN 5 v8.2.2.2.2]), (6, .cells 40 [WN 7 a3]), (8, .cells 48 (WO a4)), (9, .cells 87 (WO a0)), (10, .cells 68 [.yld 0]), (11, .cells 115 (WO x7))], [(5, some ⟨9, 1, (Enc.encL v8.2.2.2.2).length, []⟩), (7, some ⟨42, 5, (Enc.encL a3).length, []⟩)], 12, 41, []⟩) (fun (v8 : Bool × Bool × Bool × (Qh U3 Bool) × (List U3)) => (cond v8.2.2.1
     (some (.done (.inr (false, v8.2.2.2.1, v8.2.2.2.2))))
     (some (.next ((QZ (s1.1 + 1)), v8.2.2.2.1, v8.2.2.2.2)))) = some oo1) ?_ ?_
 refine Qb h1 (fun w2_ h2 h1 => ?_)
 refine Q0 <| Wm rfl rfl rfl (Q7 ag_68 rfl rfl rfl) <| Wm rfl rfl rfl (Q6 fo_115_0 rfl) <| Wm rfl rfl rfl (Q7 JT rfl rfl rfl) ?_
 refine Qb h2 (fun y9 h3 h2 => ?_)
 have ha10 : ExecOK Try.prog (some 0) J5 ⟨[(3, .v (.one (.ptr 2 0))), (6, .v (.one (.ptr 4 0))), (20, .v (.one (.fn 73 [(6, 0), (8, 0)]))), (21, .v (.one (Z4 x7.ctor)))], [(0, .loop .ready none [(3, .v (.one (.ptr 2 0))), (6, .v (.one (.ptr 4 0))), (20, .v (.one (.fn 73 [(6, 0), (8, 0)])))] 33 #[21] J5 J4 1), (1, .obj (.deferred (some []))), (2, .cells 116 [.mp 3]), (3, .mp (QL s1.2.1.1) s1.2.1.2), (4, .cells 23 [WN 5 s1.2.2]), (6, .cells 40 [WN 7 a3]), (8, .cells 48 (WO a4)), (9, .cells 87 (WO a0)), (10, .cells 68 [.yld 0]), (11, .cells 115 (WO x7))], [(5, some ⟨9, 1, (Enc.encL s1.2.2).length, []⟩), (7, some ⟨42, 5, (Enc.encL a3).length, []⟩)], 12, 33, []⟩ .normal ⟨[(3, .v (.one (.ptr 2 0))), (6, .v (.one (.ptr 4 0))), (7, .v (.one (Z4 x7.ctor)))], [(0, .loop .ready none [(3, .v (.one (.ptr 2 0))), (6, .v (.one (.ptr 4 0))), (20, .v (.one (.fn 73 [(6, 0), (8, 0)])))] 33 #[21] J5 J4 1), (1, .obj (.deferred (some []))), (2, .cells 116 [.mp 3]), (3, .mp (QL s1.2.1.1) s1.2.1.2), (4, .cells 23 [WN 5 s1.2.2]), (6, .cells 40 [WN 7 a3]), (8, .cells 48 (WO a4)), (9, .cells 87 (WO a0)), (10, .cells 68 [.yld 0]), (11, .cells 115 (WO x7))], [(5, some ⟨9, 1, (Enc.encL s1.2.2).length, []⟩), (7, some ⟨42, 5, (Enc.encL a3).length, []⟩)], 12, 33, []⟩ := by
  refine Ym (fun w0 M V0 ro n Q hv3 hro3 hQn3 => ?_)
  refine Q0 <| Wo rfl rfl rfl <| Q3 ?_
  exact Kr hQn3 (Qf (Wi rfl (Wi rfl (Wi rfl Wh))) (WD rfl (WD rfl (WD rfl (WD rfl (WD rfl (WD rfl (WD rfl (WD rfl (WD rfl (WD rfl WC)))))))))) (Wz rfl (Wz rfl Wy)) rfl (Nat.le_trans hv3 (Wx rfl)) rfl rfl rfl (WU rfl rfl (WU rfl rfl (WU rfl rfl (WS rfl (WU rfl rfl (WU rfl rfl (WU rfl rfl (WU rfl rfl (WU rfl rfl (WU rfl rfl WR)))))))))) rfl rfl)
 have hb11 : ExecOK Try.prog (some 0) J4 ⟨[(3, .v (.one (.ptr 2 0))), (6, .v (.one (.ptr 4 0))), (7, .v (.one (Z4 x7.ctor)))], [(0, .loop .busy none [(3, .v (.one (.ptr 2 0))), (6, .v (.one (.ptr 4 0))), (20, .v (.one (.fn 73 [(6, 0), (8, 0)])))] 33 #[21] J5 J4 1), (1, .obj (.deferred (some []))), (2, .cells 116 [.mp 3]), (3, .mp (QL s1.2.1.1) s1.2.1.2), (4, .cells 23 [WN 5 s1.2.2]), (6, .cells 40 [WN 7 a3]), (8, .cells 48 (WO a4)), (9, .cells 87 (WO a0)), (10, .cells 68 [.yld 0]), (11, .cells 115 (WO x7))], [(5, some ⟨9, 1, (Enc.encL s1.2.2).length, []⟩), (7, some ⟨42, 5, (Enc.encL a3).length, []⟩)], 12, 33, []⟩ .normal ⟨[], [(0, .loop .busy none [(3, .v (.one (.ptr 2 0))), (6, .v (.one (.ptr 4 0))), (20, .v (.one (.fn 73 [(6, 0), (8, 0)])))] 33 #[21] J5 J4 1), (1, .obj (.deferred (some []))), (2, .cells 116 [.mp 3]), (3, .mp (QL y9.1.1) y9.1.2), (4, .cells 23 [WN 5 y9.2]), (6, .cells 40 [WN 7 a3]), (8, .cells 48 (WO a4)), (9, .cells 87 (WO a0)), (10, .cells 68 [.yld 0]), (11, .cells 115 (WO x7))], [(5, some ⟨9, 1, (Enc.encL y9.2).length, []⟩), (7, some ⟨42, 5, (Enc.encL a3).length, []⟩)], 12, 33, []⟩ := by
  refine Ym (fun w0 M V0 ro n Q hv3 hro3 hQn3 => ?_)
  refine Qc <| Q2 <| Q0 <| Wm rfl rfl rfl (Q7 ZO rfl rfl rfl) <| Wn rfl rfl rfl <| Wm rfl rfl rfl (RO.lookupGF (M := s1.2.1) (k := x7.ctor) Kg zok_bool rfl rfl rfl) <| Wm rfl rfl rfl (J9 rfl) <| Q3 <| Q1 ?_
  refine Qe (b := (!(Je s1.2.1 x7.ctor))) rfl (fun c12 => ?_) (fun c12 => ?_)
  replace h3 := Qq c12 h3
  refine Q2 <| Q0 <| Wm rfl rfl rfl (Q7 ZO rfl rfl rfl) <| Wn rfl rfl rfl <| QJ rfl rfl (JL (M := s1.2.1) (k := x7.ctor) (v := true) Kg rfl rfl rfl rfl rfl) <| Q3 <| Q1 <| Q0 <| Wm rfl rfl rfl (Q7 KR rfl rfl rfl) <| Wn rfl rfl rfl <| Qa rfl rfl (Wx rfl) (J3 (α := U3) (x7.ctor) J1 Xi rfl rfl (Wx rfl) (Wx rfl) rfl rfl (.cons (.d _) .nil) rfl) ?_
  refine QS h3 (fun g13 h3 => ?_)
  refine Qa rfl rfl (Wx rfl) (QW (α := U3) J1 G7 rfl rfl rfl rfl rfl (.app _ _) g13) <| QJ rfl rfl (Ql KR rfl rfl rfl rfl (Wx rfl) rfl) <| Q3 <| Qj ?_
  have e := Wk h3; subst e
  exact Kr hQn3 (Qf Wh (WD rfl (WD rfl (WD rfl (WD rfl (WD rfl (WD rfl (WD rfl (WD rfl (WD rfl (WD rfl WC)))))))))) (Wz rfl (Wz rfl Wy)) rfl (Nat.le_trans hv3 (Wx rfl)) rfl rfl rfl (WU rfl rfl (WU rfl rfl (WU rfl rfl (WS rfl (WU rfl rfl (WU rfl rfl (WU rfl rfl (WU rfl rfl (WU rfl rfl (WU rfl rfl WR)))))))))) rfl rfl)
  replace h3 := Qr c12 h3
  refine Qi <| Qj ?_
  have e := Wk h3; subst e
  exact Kr hQn3 (Qf Wh (WD rfl (WD rfl (WD rfl (WD rfl (WD rfl (WD rfl (WD rfl (WD rfl (WD rfl (WD rfl WC)))))))))) (Wz rfl (Wz rfl Wy)) rfl (Nat.le_trans hv3 (Wx rfl)) rfl rfl rfl (WU rfl rfl (WU rfl rfl (WU rfl rfl (WS rfl (WU rfl rfl (WU rfl rfl (WU rfl rfl (WU rfl rfl (WU rfl rfl (WU rfl rfl WR)))))))))) rfl rfl)
 refine Qa rfl rfl (Wx rfl) (OpOK.yield (jump := none) rfl rfl rfl rfl rfl (Yn ha10 (fun E hv => (Qf (Wi rfl (Wi rfl (Wi rfl (Wi rfl Wh)))) (WD rfl (WD rfl (WD rfl (WD rfl (WD rfl (WD rfl (WD rfl (WD rfl (WD rfl (WD rfl WC)))))))))) (Wz rfl (Wz rfl Wy)) rfl (Nat.le_trans hv (Wx rfl)) rfl rfl rfl (WU rfl rfl (WU rfl rfl (WU rfl rfl (WS rfl (WU rfl rfl (WU rfl rfl (WU rfl rfl (WU rfl rfl (WU rfl rfl (WU rfl rfl WR)))))))))) rfl rfl))) rfl (Yn hb11 (fun E hv => (Qf (Wi rfl (Wi rfl (Wi rfl Wh))) (WD rfl (WD rfl (WD rfl (WD rfl (WD rfl (WD rfl (WD rfl (WD rfl (WD rfl (WD rfl WC)))))))))) (Wz rfl (Wz rfl Wy)) rfl (Nat.le_trans hv (Wx rfl)) rfl rfl rfl (WU rfl rfl (WU rfl rfl (WU rfl rfl (WS rfl (WU rfl rfl (WU rfl rfl (WU rfl rfl (WU rfl rfl (WU rfl rfl (WU rfl rfl WR)))))))))) rfl rfl))) rfl rfl) ?_
 refine Wm rfl rfl rfl (J9 rfl) <| Wn rfl rfl rfl <| Wm rfl rfl rfl (Q6 fo_115_1 rfl) <| Wm rfl rfl rfl (Q7 Gt rfl rfl rfl) <| Wm rfl rfl rfl (J9 rfl) <| Wn rfl rfl rfl ?_
 refine QP (d := 32) (c := (!x7.absurd)) rfl (fun c14 => ?_) (fun c14 => ?_)
 replace h2 := Qq c14 h2
 refine Wm rfl rfl rfl (Q6 fo_115_2 rfl) <| Wm rfl rfl rfl (Qu GN rfl rfl rfl rfl) <| Wm rfl rfl rfl (Q7 ag_68 rfl rfl rfl) ?_
 refine Qb h2 (fun x15 hx15 h2 => ?_)
 refine Qa rfl rfl (Wx rfl) (J2 (hp1' := [(0, .loop .ready none [(3, .v (.one (.ptr 2 0))), (6, .v (.one (.ptr 4 0))), (20, .v (.one (.fn 73 [(6, 0), (8, 0)])))] 33 #[21] J5 J4 1), (1, .obj (.deferred (some []))), (2, .cells 116 [.mp 3]), (3, .mp (QL x15.2.1.1) x15.2.1.2), (4, .cells 23 [WN 5 x15.2.2]), (6, .cells 40 [WN 7 a3]), (8, .cells 48 (WO a4))]) (tk1' := [(5, some ⟨9, 1, (Enc.encL x15.2.2).length, []⟩), (7, some ⟨42, 5, (Enc.encL a3).length, []⟩)]) (hpF := [(9, .cells 87 (WO a0)), (10, .cells 68 [.yld 0]), (11, .cells 115 (WO x7))]) (tkF := []) (res2 := QA [.one (WM x15.1)]) (nx2 := 14) [0, 1, 2, 3, 4, 5, 6, 7, 8] rfl rfl (H x7.tree y9.1 y9.2 a3 a4 x15 hx15) rfl rfl (Ws rfl rfl (Ws rfl rfl (Ws rfl rfl (Wq rfl (Ws rfl rfl (Ws rfl rfl (Ws rfl rfl Wp))))))) rfl rfl (WG rfl (WG rfl (WG rfl (WH rfl (WG rfl (WG rfl (WG rfl WF))))))) (WB rfl (WB rfl WA)) (WD rfl (WD rfl (WD rfl WC))) Wy rfl rfl rfl rfl rfl (WU rfl rfl (WU rfl rfl (WU rfl rfl (WS rfl (WU rfl rfl (WU rfl rfl (WU rfl rfl WR))))))) rfl rfl rfl rfl) <| Wm rfl rfl rfl (J9 rfl) <| Wm rfl rfl rfl (Qk rfl rfl) <| Wm rfl rfl rfl (Qx rfl rfl) <| Q3 ?_
 have e := Wk h2; subst e
 exact Qt (true, (!x15.1), (!x15.1), x15.2.1, x15.2.2) (Qf (Wi rfl (Wi rfl (Wi rfl (Wi rfl (Wi rfl (Wi rfl (Wi rfl (Wi rfl (Wi rfl (Wi rfl Wh)))))))))) (WD rfl (WD rfl (WD rfl (WD rfl (WD rfl (WD rfl (WD rfl (WD rfl (WD rfl (WD rfl WC)))))))))) (Wz rfl (Wz rfl Wy)) rfl (Nat.le_trans hv0 (Wx rfl)) rfl rfl rfl (WU rfl rfl (WU rfl rfl (WU rfl rfl (WS rfl (WU rfl rfl (WU rfl rfl (WU rfl rfl (WU rfl rfl (WU rfl rfl (WU rfl rfl WR)))))))))) rfl rfl) h1
 replace h2 := Qr c14 h2
 refine Q5 rfl rfl <| Q5 rfl rfl <| Q5 rfl rfl <| Q5 rfl rfl <| Q5 rfl rfl <| Wm rfl rfl rfl (Qx rfl rfl) <| Wm rfl rfl rfl (Qx rfl rfl) <| Q3 ?_
 have e := Wk h2; subst e
 exact Qt (false, false, false, y9.1, y9.2) (Qf (Wi rfl (Wi rfl (Wi rfl (Wi rfl (Wi rfl (Wi rfl (Wi rfl (Wi rfl (Wi rfl (Wi rfl Wh)))))))))) (WD rfl (WD rfl (WD rfl (WD rfl (WD rfl (WD rfl (WD rfl (WD rfl (WD rfl (WD rfl WC)))))))))) (Wz rfl (Wz rfl Wy)) rfl (Nat.le_trans hv0 (Wx rfl)) rfl rfl rfl (WU rfl rfl (WU rfl rfl (WU rfl rfl (WS rfl (WU rfl rfl (WU rfl rfl (WU rfl rfl (WU rfl rfl (WU rfl rfl (WU rfl rfl WR)))))))))) rfl rfl) h1
 intro v8 h1
 refine Q1 ?_
 refine Qe (b := v8.2.2.1) rfl (fun c16 => ?_) (fun c16 => ?_)
 replace h1 := Qq c16 h1
 refine Q2 <| Q0 <| Wo rfl rfl rfl <| Q3 <| Q1 <| Qz ?_
 have e := Wk h1; subst e
 have e_ : _ = _ := ho1
 subst e_
 try dsimp only [Sum.elim_inl, Sum.elim_inr] at h0
 have e := Wk h0; subst e
 exact hQ0 _ _ _ (.inr rfl) rfl (Qf (Wi rfl Wh) (WD rfl (WD rfl (WD rfl (WD rfl (WD rfl (WD rfl (WD rfl WC))))))) (Wz rfl (Wz rfl Wy)) rfl (Nat.le_trans hv0 (Wx rfl)) rfl rfl rfl (WU rfl rfl (WU rfl rfl (WU rfl rfl (WS rfl (WU rfl rfl (WU rfl rfl (WU rfl rfl WR))))))) rfl rfl)
 replace h1 := Qr c16 h1
 refine Qi <| Qj <| Q1 <| Q0 <| Wm rfl rfl rfl (Q8 rfl rfl rfl) <| Wn rfl rfl rfl <| Q3 ?_
 have e := Wk h1; subst e
 refine QD ((QZ (s1.1 + 1)), v8.2.2.2.1, v8.2.2.2.2) (Qf (Wi rfl (Wi rfl (Wi rfl (Wi rfl Wh)))) (WD rfl (WD rfl (WD rfl (WD rfl (WD rfl (WD rfl (WD rfl (WD rfl (WD rfl WC))))))))) (Wz rfl (Wz rfl Wy)) rfl (Nat.le_trans hv0 (Wx rfl)) rfl rfl rfl (WU rfl rfl (WU rfl rfl (WU rfl rfl (WS rfl (WU rfl rfl (WU rfl rfl (WU rfl rfl (WU rfl rfl (WU rfl rfl WR))))))))) rfl rfl) ho1
 replace h1 := Qr c6 h1
 refine QM <| Qd <| Qd ?_
 have e := Wk h1; subst e
 have e_ : _ = _ := ho1
 subst e_
 exact QG (s1.2.1, s1.2.2) (Qf Wh (WD rfl (WD rfl (WD rfl (WD rfl (WD rfl (WD rfl (WD rfl (WD rfl (WD rfl WC))))))))) (Wz rfl (Wz rfl Wy)) rfl (Nat.le_trans hv0 (Wx rfl)) rfl rfl rfl (WU rfl rfl (WU rfl rfl (WU rfl rfl (WS rfl (WU rfl rfl (WU rfl rfl (WU rfl rfl (WU rfl rfl (WU rfl rfl WR))))))))) rfl rfl) h0
 intro o4 h0
 refine QB <| Q1 <| Q2 <| Q0 <| Wo rfl rfl rfl <| Q3 <| Q1 <| Qz ?_
 have e := Wk h0; subst e
 exact hQ0 _ _ _ (.inr rfl) rfl (Qf (Wi rfl Wh) (WD rfl (WD rfl (WD rfl (WD rfl (WD rfl (WD rfl (WD rfl WC))))))) (Wz rfl (Wz rfl Wy)) rfl (Nat.le_trans hv0 (Wx rfl)) rfl rfl rfl (WU rfl rfl (WU rfl rfl (WU rfl rfl (WS rfl (WU rfl rfl (WU rfl rfl (WU rfl rfl WR))))))) rfl rfl)
theorem m75f1_all (n : Nat) (u : Tr × (Qh U3 Bool) × (List U3) × (List Tm) × Dcl) (r : Bool × (Qh U3 Bool) × (List U3)) (h0 : Yb GU n u = some r) : CallM Try.prog 75 [.agg (WO u.1), .one (.yld 0)] ⟨[(0, .loop .ready none [(3, .v (.one (.ptr 2 0))), (6, .v (.one (.ptr 4 0))), (20, .v (.one (.fn 73 [(6, 0), (8, 0)])))] 33 #[21] J5 J4 1), (1, .obj (.deferred (some []))), (2, .cells 116 [.mp 3]), (3, .mp (QL u.2.1.1) u.2.1.2), (4, .cells 23 [WN 5 u.2.2.1]), (6, .cells 40 [WN 7 u.2.2.2.1]), (8, .cells 48 (WO u.2.2.2.2))], [(5, some ⟨9, 1, (Enc.encL u.2.2.1).length, []⟩), (7, some ⟨42, 5, (Enc.encL u.2.2.2.1).length, []⟩)], 9⟩ (QA [.one (WM r.1)]) ⟨[(0, .loop .ready none [(3, .v (.one (.ptr 2 0))), (6, .v (.one (.ptr 4 0))), (20, .v (.one (.fn 73 [(6, 0), (8, 0)])))] 33 #[21] J5 J4 1), (1, .obj (.deferred (some []))), (2, .cells 116 [.mp 3]), (3, .mp (QL r.2.1.1) r.2.1.2), (4, .cells 23 [WN 5 r.2.2]), (6, .cells 40 [WN 7 u.2.2.2.1]), (8, .cells 48 (WO u.2.2.2.2))], [(5, some ⟨9, 1, (Enc.encL r.2.2).length, []⟩), (7, some ⟨42, 5, (Enc.encL u.2.2.2.1).length, []⟩)], 11⟩ :=
 YF (C := fun u r => CallM Try.prog 75 [.agg (WO u.1), .one (.yld 0)] ⟨[(0, .loop .ready none [(3, .v (.one (.ptr 2 0))), (6, .v (.one (.ptr 4 0))), (20, .v (.one (.fn 73 [(6, 0), (8, 0)])))] 33 #[21] J5 J4 1), (1, .obj (.deferred (some []))), (2, .cells 116 [.mp 3]), (3, .mp (QL u.2.1.1) u.2.1.2), (4, .cells 23 [WN 5 u.2.2.1]), (6, .cells 40 [WN 7 u.2.2.2.1]), (8, .cells 48 (WO u.2.2.2.2))], [(5, some ⟨9, 1, (Enc.encL u.2.2.1).length, []⟩), (7, some ⟨42, 5, (Enc.encL u.2.2.2.1).length, []⟩)], 9⟩ (QA [.one (WM r.1)]) ⟨[(0, .loop .ready none [(3, .v (.one (.ptr 2 0))), (6, .v (.one (.ptr 4 0))), (20, .v (.one (.fn 73 [(6, 0), (8, 0)])))] 33 #[21] J5 J4 1), (1, .obj (.deferred (some []))), (2, .cells 116 [.mp 3]), (3, .mp (QL r.2.1.1) r.2.1.2), (4, .cells 23 [WN 5 r.2.2]), (6, .cells 40 [WN 7 u.2.2.2.1]), (8, .cells 48 (WO u.2.2.2.2))], [(5, some ⟨9, 1, (Enc.encL r.2.2).length, []⟩), (7, some ⟨42, 5, (Enc.encL u.2.2.2.1).length, []⟩)], 11⟩) (fun rc H u r h => m75f1s_ok rc (fun a0 a1 a2 a3 a4 r h => H (a0, a1, a2, a3, a4) r h) u.1 u.2.1 u.2.2.1 u.2.2.2.1 u.2.2.2.2 r h) n u r h0
theorem m75f1_ok (a0 : Tr) (a1 : Qh U3 Bool) (a2 : List U3) (a3 : List Tm) (a4 : Dcl) (r : Bool × (Qh U3 Bool) × (List U3)) (h0 : m75f1 a0 a1 a2 a3 a4 = some r) : CallM Try.prog 75 [.agg (WO a0), .one (.yld 0)] ⟨[(0, .loop .ready none [(3, .v (.one (.ptr 2 0))), (6, .v (.one (.ptr 4 0))), (20, .v (.one (.fn 73 [(6, 0), (8, 0)])))] 33 #[21] J5 J4 1), (1, .obj (.deferred (some []))), (2, .cells 116 [.mp 3]), (3, .mp (QL a1.1) a1.2), (4, .cells 23 [WN 5 a2]), (6, .cells 40 [WN 7 a3]), (8, .cells 48 (WO a4))], [(5, some ⟨9, 1, (Enc.encL a2).length, []⟩), (7, some ⟨42, 5, (Enc.encL a3).length, []⟩)], 9⟩ (QA [.one (WM r.1)]) ⟨[(0, .loop .ready none [(3, .v (.one (.ptr 2 0))), (6, .v (.one (.ptr 4 0))), (20, .v (.one (.fn 73 [(6, 0), (8, 0)])))] 33 #[21] J5 J4 1), (1, .obj (.deferred (some []))), (2, .cells 116 [.mp 3]), (3, .mp (QL r.2.1.1) r.2.1.2), (4, .cells 23 [WN 5 r.2.2]), (6, .cells 40 [WN 7 a3]), (8, .cells 48 (WO a4))], [(5, some ⟨9, 1, (Enc.encL r.2.2).length, []⟩), (7, some ⟨42, 5, (Enc.encL a3).length, []⟩)], 11⟩ := m75f1_all QF (a0, a1, a2, a3, a4) r h0
def KX (x1 : (List U3)) (s1 : Int × (Qh U3 Bool)) : Option (LO (Int × (Qh U3 Bool)) (((Qh U3 Bool)))) :=
 cond (decide (s1.1 < (x1.length : Int)))
   (Option.bind (Ja x1 s1.1) fun (x4 : U3) =>
 some (.next ((QZ (s1.1 + 1)), (JY s1.2 x4 true))))
   (some (.done s1.2))
def Kw (a0 : Dcl) (s2 : Int × (List Tm)) : Option (LO (Int × (List Tm)) (((List Tm)))) :=
 cond (decide (s2.1 < (a0.ctors.length : Int)))
   (Option.bind (Ja a0.ctors s2.1) fun (x7 : Ctr) =>
 Qy (Nat.ble (s2.2.length + 1) 1000000000)
 (some (.next ((QZ (s2.1 + 1)), (s2.2 ++ [x7.ty])))))
   (some (.done s2.2))
def Kh (a0 : Dcl) (s2 : Int × (List Tm)) : Option (LO (Int × (List Tm)) (((List Tm)))) :=
 cond (decide (s2.1 < (a0.funs.length : Int)))
   (Option.bind (Ja a0.funs s2.1) fun (x10 : Fn) =>
 Qy (Nat.ble (s2.2.length + 1) 1000000000)
 (some (.next ((QZ (s2.1 + 1)), (s2.2 ++ [x10.ty])))))
   (some (.done s2.2))
def KW (x22 : (List U3)) (s3 : Int × (Qh U3 Bool) × (List U3)) : Option (LO (Int × (Qh U3 Bool) × (List U3)) (((Qh U3 Bool) × (List U3)))) :=
 cond (decide (s3.1 < (x22.length : Int)))
   (Option.bind (Ja x22 s3.1) fun (x25 : U3) =>
 Option.bind (cond (!(Je s3.2.1 x25))
   (Qy (Nat.ble (s3.2.2.length + ([x25]).length) 1000000000)
 (some ((JY s3.2.1 x25 true), (s3.2.2 ++ ([x25])))))
   (some (s3.2.1, s3.2.2))) (fun (y26 : (Qh U3 Bool) × (List U3)) => some (.next ((QZ (s3.1 + 1)), y26.1, y26.2))))
   (some (.done (s3.2.1, s3.2.2)))
def KV (y3 : (List Tm)) (s2 : Int × (Qh U3 Bool) × (List U3)) : Option (LO (Int × (Qh U3 Bool) × (List U3)) (((Qh U3 Bool) × (List U3)))) :=
 cond (decide (s2.1 < (y3.length : Int)))
   (Option.bind (Ja y3 s2.1) fun (x21 : Tm) =>
 Option.bind (W5 x21) fun (x22 : (List U3)) =>
 Option.bind (Qw (KW x22) QF (0, s2.2.1, s2.2.2)) (fun (o23 : (Qh U3 Bool) × (List U3)) => some (.next ((QZ (s2.1 + 1)), o23.1, o23.2))))
   (some (.done (s2.2.1, s2.2.2)))
def Kv (a0 : Dcl) (y3 : (List Tm)) (s2 : Int × (Qh U3 Bool) × (List U3)) : Option (LO (Int × (Qh U3 Bool) × (List U3)) (((Qh U3 Bool) × (List U3)) ⊕ (((Qh U3 Bool) × (List U3))))) :=
 cond (decide (s2.1 < (a0.funs.length : Int)))
   (Option.bind (Ja a0.funs s2.1) fun (x22 : Fn) =>
 Option.bind (m75f1 x22.tree s2.2.1 s2.2.2 y3 a0) fun (x23 : Bool × (Qh U3 Bool) × (List U3)) =>
 cond (!x23.1)
   (some (.done (.inr (x23.2.1, x23.2.2))))
   (some (.next ((QZ (s2.1 + 1)), x23.2.1, x23.2.2))))
   (some (.done (.inl (s2.2.1, s2.2.2))))
def XA (a0 : Dcl) : Option ((List U3)) :=
 Option.bind (Xt a0) fun (x1 : (List U3)) =>
 Option.bind (Qw (KX x1) QF (0, gmNil)) (fun (o2 : (Qh U3 Bool)) => Option.bind (Option.bind (Qw (Kw a0) QF (0, [a0.ty, a0.value])) (fun (o5 : (List Tm)) => Qy (Nat.ble (o5.length + ([a0.rcr.ty]).length) 1000000000)
 (Qy (Nat.ble ((o5 ++ ([a0.rcr.ty])).length + a0.rcr.rules.length) 1000000000)
 (Option.bind (Qw (Kh a0) QF (0, ((o5 ++ ([a0.rcr.ty])) ++ a0.rcr.rules))) (fun (o8 : (List Tm)) => some o8))))) (fun (y3 : (List Tm)) => Option.bind (Option.bind (Qw (KV y3) QF (0, o2, [])) (fun (o19 : (Qh U3 Bool) × (List U3)) => Option.bind (Qw (Kv a0 y3) QF (0, o19.1, o19.2)) (Sum.elim (fun (o20 : (Qh U3 Bool) × (List U3)) => some (o20.1, o20.2)) (fun o => some o)))) (fun (y17 : (Qh U3 Bool) × (List U3)) => some y17.2)))
set_option maxRecDepth 100000 in
set_option maxHeartbeats 8000000 in
theorem GC (a0 : Dcl) (r : (List U3)) (h0 : XA a0 = some r) : Fun Try.prog 53 [.agg (WO a0)] (QA [.one (WJ r)]) := by
 unfold XA at h0
 refine QU 9 33 Try.func53 rfl en_53 rfl (Wx rfl) (fun S w => ?_)
 simp only [Jb]
 refine Q2 <| Q0 <| Qa rfl rfl (Wx rfl) (Jc rfl) <| Wo rfl rfl rfl <| Q3 <| Q1 <| Q2 <| Q0 <| Qa rfl rfl (Wx rfl) (Y2 U3 Bool) <| Qa rfl rfl (Wx rfl) (Qp z_116 rfl) <| QJ rfl rfl (Ql ZO rfl rfl rfl rfl (Wx rfl) rfl) <| Q3 <| Q1 <| Q2 ?_
 refine Q2 <| Q0 <| Wm rfl rfl rfl (Qu Jg rfl rfl rfl rfl) ?_
 refine Qb h0 (fun x1 hx1 h0 => ?_)
 refine Qa rfl rfl (Wx rfl) (Qn (Ki a0 x1 hx1) rfl (.cons (.agg (.cons (.d _) (.cons (.d _) (.cons (.d _) (.cons (.d _) (.cons (.d _) (.cons (.d _) (.cons (.d _) (.cons (.d _) (.cons (.d _) (.cons (.d _) (.cons (.d _) (.cons (.d _) (.cons (.d _) (.cons (.d _) (.cons (.d _) (.cons (.d _) (.cons (.d _) (.cons (.d _) (.cons (.d _) (.cons (.d _) (.cons (.d _) (.cons (.d _) (.cons (.d _) .nil)))))))))))))))))))))))) .nil)) <| Wm rfl rfl rfl (QC (α := U3) J1 rfl (.d _)) <| Wn rfl rfl rfl <| Q3 <| Q1 <| Qc ?_
 refine QI 0 (fun (o2 : (Qh U3 Bool)) => ⟨[(1, .v (.one (.ptr 0 0))), (3, .v (.one (.ptr 2 0)))], [(0, .cells 48 (WO a0)), (1, .mp (QL o2.1) o2.2), (2, .cells 116 [.mp 1])], [], 3, 33, []⟩) (fun (o2 : (Qh U3 Bool)) => (Option.bind (Option.bind (Qw (Kw a0) QF (0, [a0.ty, a0.value])) (fun (o5 : (List Tm)) => Qy (Nat.ble (o5.length + ([a0.rcr.ty]).length) 1000000000)
   (Qy (Nat.ble ((o5 ++ ([a0.rcr.ty])).length + a0.rcr.rules.length) 1000000000)
   (Option.bind (Qw (Kh a0) QF (0, ((o5 ++ ([a0.rcr.ty])) ++ a0.rcr.rules))) (fun (o8 : (List Tm)) => some o8))))) (fun (y3 : (List Tm)) => Option.bind (Option.bind (Qw (KV y3) QF (0, o2, [])) (fun (o19 : (Qh U3 Bool) × (List U3)) => Option.bind (Qw (Kv a0 y3) QF (0, o19.1, o19.2)) (Sum.elim (fun (o20 : (Qh U3 Bool) × (List U3)) => some (o20.1, o20.2)) (fun o => some o)))) (fun (y17 : (Qh U3 Bool) × (List U3)) => some y17.2))) = some r) ?_ ?_
 refine Qb h0 (fun o3 hl1 h0 => ?_)
 refine QH (KX x1) (fun s1 => ⟨[(1, .v (.one (.ptr 0 0))), (3, .v (.one (.ptr 2 0))), (10, .v (.one (WJ x1))), (11, .v (.one (WL (x1.length : Int)))), (12, .v (.one (WL s1.1)))], [(0, .cells 48 (WO a0)), (1, .mp (QL s1.2.1) s1.2.2), (2, .cells 116 [.mp 1])], [], 3, 33, []⟩) (0, gmNil) o3 (Qf (Wi rfl (Wi rfl (Wi rfl (Wi rfl (Wi rfl Wh))))) (WD rfl (WD rfl (WD rfl WC))) Wy rfl (Nat.zero_le _) rfl rfl rfl (WU rfl rfl (WS rfl (WU rfl rfl WR))) rfl rfl) hl1 (fun s1 n1 oo1 h1 ho1 => ?_)
 unfold KX at h1
 refine Q2 <| Q0 <| Wm rfl rfl rfl (Q8 rfl rfl rfl) <| Q3 <| Q1 <| Q2 ?_
 refine Qe (b := (decide (s1.1 < (x1.length : Int)))) rfl (fun c4 => ?_) (fun c4 => ?_)
 replace h1 := Qq c4 h1
 refine Qi <| Q1 <| Q2 <| Qc <| Q2 <| Q0 ?_
 refine Qb h1 (fun x5 hx5 h1 => ?_)
 refine Wm rfl rfl rfl (Qm (α := U3) J1 rfl (.d _) rfl hx5) <| Wm rfl rfl rfl (QN JT rfl rfl) <| Wo rfl rfl rfl <| Q3 <| Q1 <| Q0 <| Wm rfl rfl rfl (Q7 ZO rfl rfl rfl) <| Wn rfl rfl rfl <| QJ rfl rfl (JL (M := s1.2) (k := x5) (v := true) Kg rfl rfl rfl rfl rfl) <| Q3 <| Qj <| Q1 <| Q0 <| Wm rfl rfl rfl (Q8 rfl rfl rfl) ?_
 refine Wn rfl rfl rfl <| Q3 ?_
 have e := Wk h1; subst e
 refine QD ((QZ (s1.1 + 1)), (JY s1.2 x5 true)) (Qf (Wi rfl (Wi rfl (Wi rfl (Wi rfl (Wi rfl Wh))))) (WD rfl (WD rfl (WD rfl WC))) Wy rfl (Nat.zero_le _) rfl rfl rfl (WU rfl rfl (WS rfl (WU rfl rfl WR))) rfl rfl) ho1
 replace h1 := Qr c4 h1
 refine QM <| Qd <| Qd ?_
 have e := Wk h1; subst e
 have e_ : _ = _ := ho1
 subst e_
 exact QG s1.2 (Qf (Wi rfl (Wi rfl Wh)) (WD rfl (WD rfl (WD rfl WC))) Wy rfl (Nat.zero_le _) rfl rfl rfl (WU rfl rfl (WS rfl (WU rfl rfl WR))) rfl rfl) h0
 intro o2 h0
 refine QB <| Q1 <| Q2 <| Q0 <| Qa rfl rfl (Wx rfl) (Qp z_23 rfl) <| Q3 <| Q1 <| Q2 <| Q2 <| Q0 <| Wm rfl rfl rfl (Qu Jg rfl rfl rfl rfl) ?_
 refine Qb h0 (fun y6 h1 h0 => ?_)
 have hc7 : CallM Try.prog 67 [.agg (WO a0)] ⟨[(0, .cells 48 (WO a0)), (1, .mp (QL o2.1) o2.2), (2, .cells 116 [.mp 1]), (3, .cells 23 [WK])], [], 4⟩ (QA [.one (.fn 73 [(6, 0), (4, 0)])]) ⟨[(0, .cells 48 (WO a0)), (1, .mp (QL o2.1) o2.2), (2, .cells 116 [.mp 1]), (3, .cells 23 [WK]), (4, .cells 48 (WO a0)), (6, .cells 40 [WN 5 y6])], [(5, some ⟨42, 5, (Enc.encL y6).length, []⟩)], 7⟩ := by
  refine QR ⟨[(2, .v (.one (.fn 73 [(6, 0), (4, 0)])))], [(0, .cells 48 (WO a0)), (1, .mp (QL o2.1) o2.2), (2, .cells 116 [.mp 1]), (3, .cells 23 [WK]), (4, .cells 48 (WO a0)), (6, .cells 40 [WN 5 y6])], [(5, some ⟨42, 5, (Enc.encL y6).length, []⟩)], 7, 54, []⟩ rfl rfl en_67 (Wx rfl) rfl (Qo rfl .nil) (fun w0 M V0 Q hv1 hQ1 => ?_)
  simp only [Jb]
  refine Q2 <| Q0 <| Qa rfl rfl (Wx rfl) (Jc rfl) <| Wo rfl rfl rfl <| Q3 <| Q1 <| Q2 <| Q0 <| Wm rfl rfl rfl (Q6 fo_48_3 rfl) <| Wm rfl rfl rfl (Qu Jn rfl rfl rfl rfl) <| Wm rfl rfl rfl (Q6 Gl rfl) <| Wm rfl rfl rfl (Qu Jn rfl rfl rfl rfl) <| Qa rfl rfl (Wx rfl) (OpOK.lit2E (α := Tm) a0.ty a0.value JQ Xg rfl rfl (Wx rfl) (Wx rfl) rfl rfl rfl (.cons (.d _) (.cons (.d _) (.cons (.d _) (.cons (.d _) (.cons (.d _) (.cons (.d _) (.cons (.d _) (.cons (.d _) (.cons (.d _) (.cons (.d _) .nil)))))))))) ⟨rfl, rfl⟩) <| Qa rfl rfl (Wx rfl) (Qp z_40 rfl) ?_
  refine QJ rfl rfl (Ql Yk rfl rfl rfl rfl (Wx rfl) rfl) <| Q3 <| Q1 <| Q2 <| Q2 <| Q0 <| Wm rfl rfl rfl (Q6 Yp rfl) <| Wm rfl rfl rfl (Q7 ZN rfl rfl rfl) <| Wm rfl rfl rfl (QC (α := Ctr) Z3 rfl (.d _)) <| Wn rfl rfl rfl <| Q3 <| Q1 <| Qc ?_
  refine QI 0 (fun (o8 : (List Tm)) => ⟨[(1, .v (.one (.ptr 4 0))), (3, .v (.one (.ptr 6 0)))], [(0, .cells 48 (WO a0)), (1, .mp (QL o2.1) o2.2), (2, .cells 116 [.mp 1]), (3, .cells 23 [WK]), (4, .cells 48 (WO a0)), (6, .cells 40 [WN 5 o8])], [(5, some ⟨42, 5, (Enc.encL o8).length, []⟩)], 7, 54, []⟩) (fun (o8 : (List Tm)) => (Qy (Nat.ble (o8.length + ([a0.rcr.ty]).length) 1000000000)
    (Qy (Nat.ble ((o8 ++ ([a0.rcr.ty])).length + a0.rcr.rules.length) 1000000000)
    (Option.bind (Qw (Kh a0) QF (0, ((o8 ++ ([a0.rcr.ty])) ++ a0.rcr.rules))) (fun (o11 : (List Tm)) => some o11)))) = some y6) ?_ ?_
  refine Qb h1 (fun o9 hl2 h1 => ?_)
  refine QH (Kw a0) (fun s2 => ⟨[(1, .v (.one (.ptr 4 0))), (3, .v (.one (.ptr 6 0))), (14, .v (.one (WJ a0.ctors))), (15, .v (.one (WL (a0.ctors.length : Int)))), (16, .v (.one (WL s2.1)))], [(0, .cells 48 (WO a0)), (1, .mp (QL o2.1) o2.2), (2, .cells 116 [.mp 1]), (3, .cells 23 [WK]), (4, .cells 48 (WO a0)), (6, .cells 40 [WN 5 s2.2])], [(5, some ⟨42, 5, (Enc.encL s2.2).length, []⟩)], 7, 54, []⟩) (0, [a0.ty, a0.value]) o9 (Qf (Wi rfl (Wi rfl (Wi rfl (Wi rfl (Wi rfl Wh))))) (WD rfl (WD rfl (WD rfl (WD rfl (WD rfl (WD rfl WC)))))) (Wz rfl Wy) rfl (Nat.le_trans hv1 (Wx rfl)) rfl rfl rfl (WU rfl rfl (WS rfl (WU rfl rfl (WU rfl rfl (WU rfl rfl (WU rfl rfl WR)))))) rfl rfl) hl2 (fun s2 n2 oo2 h2 ho2 => ?_)
  unfold Kw at h2
  refine Q2 <| Q0 <| Wm rfl rfl rfl (Q8 rfl rfl rfl) <| Q3 <| Q1 <| Q2 ?_
  refine Qe (b := (decide (s2.1 < (a0.ctors.length : Int)))) rfl (fun c10 => ?_) (fun c10 => ?_)
  replace h2 := Qq c10 h2
  refine Qi <| Q1 <| Q2 <| Qc <| Q2 <| Q0 ?_
  refine Qb h2 (fun x11 hx11 h2 => ?_)
  refine Wm rfl rfl rfl (Qm (α := Ctr) Z3 rfl (.d _) rfl hx11) <| Wm rfl rfl rfl (Jh ag_84 rfl rfl rfl) <| Qa rfl rfl (Wx rfl) (Qp z_84 rfl) <| QJ rfl rfl (Ql ag_84 rfl rfl rfl rfl (Wx rfl) rfl) <| Q3 <| Q1 ?_
  refine XC.swRun [5, 7, 8] [[], [5], [5, 7], [5, 7, 8], [5, 8]] [(8, 1), (6, 4), (7, 4)] mixed (by kernel_rfl) (by kernel_rfl) (by kernel_rfl) (by kernel_rfl) rfl (by kernel_rfl) ?_
  refine RunA.rd rfl rfl rfl (Q4 (Q7 Yk rfl rfl rfl)) rfl <| RunA.rd rfl rfl rfl (Q4 (Q6 fo_84_1 rfl)) rfl <| RunA.rd rfl rfl rfl (Q4 (Qu Jn rfl rfl rfl rfl)) rfl <| RunA.rd rfl rfl rfl (Q4 (QC (α := Tm) JQ rfl (.app _ _))) rfl <| RunA.rd rfl rfl rfl (Y3 (α := Tm) ((Tm.mk 0 0 ([] : List UInt8) ([] : List Lvl) ([] : List Tm))) JQ Xg rfl rfl (Wx rfl) rfl rfl (.cons (.d _) (.cons (.d _) (.cons (.d _) (.cons (.nil _) (.cons (.nil _) .nil))))) rfl) rfl ?_
  refine QS h2 (fun g12 h2 => ?_)
  refine RunA.eff rfl rfl rfl (OpOK.appendH (α := Tm) (l := s2.2) (z := (Tm.mk 0 0 ([] : List UInt8) ([] : List Lvl) ([] : List Tm))) JQ el_42 rfl rfl rfl rfl (.d _) g12) rfl <| RunA.rd rfl rfl rfl (Q4 (RO.indexP JQ rfl rfl rfl (lt_H (α := Tm) s2.2))) rfl <| RunA.eff rfl rfl rfl (OpOK.storeH (α := Tm) (l := s2.2) (y' := .agg [WL x11.ty.kind, WL x11.ty.index, Z4 x11.ty.name, WJ x11.ty.levels, WJ x11.ty.kids]) x11.ty Jn rfl rfl (.agg (.cons (.d _) (.cons (.d _) (.cons (.d _) (.cons (.d _) (.cons (.d _) .nil)))))) rfl rfl rfl) rfl <| RunA.eff rfl rfl rfl (Ql Yk rfl rfl rfl rfl (Wx rfl) rfl) rfl ?_
  refine RunA.nil ⟨[_], ⟨⟨_, _, rfl, rfl, _, _, rfl, rfl, rfl, .inl ⟨rfl, _, (Ql Yk rfl rfl rfl rfl (Wx rfl) rfl), .inl ⟨rfl, 4, _, rfl, rfl, rfl⟩⟩⟩, ⟨⟨_, _, rfl, rfl, _, _, rfl, rfl, rfl, .inl ⟨rfl, _, (Q4 (RO.indexP JQ rfl rfl rfl (lt_H (α := Tm) s2.2))), .inr ⟨rfl, rfl⟩⟩⟩, ⟨⟨_, _, rfl, rfl, _, _, rfl, rfl, rfl, .inl ⟨rfl, _, (OpOK.storeH (α := Tm) (l := s2.2) (y' := .agg [WL x11.ty.kind, WL x11.ty.index, Z4 x11.ty.name, WJ x11.ty.levels, WJ x11.ty.kids]) x11.ty Jn rfl rfl (.agg (.cons (.d _) (.cons (.d _) (.cons (.d _) (.cons (.d _) (.cons (.d _) .nil)))))) rfl rfl rfl), .inl ⟨rfl, 3, _, rfl, rfl, rfl⟩⟩⟩, trivial⟩⟩⟩, _, _, rfl, ?_⟩
  refine JK (st' := ⟨[(1, .v (.one (.ptr 4 0))), (3, .v (.one (.ptr 6 0))), (14, .v (.one (WJ a0.ctors))), (15, .v (.one (WL (a0.ctors.length : Int)))), (16, .v (.one (WL s2.1)))], [(0, .cells 48 (WO a0)), (1, .mp (QL o2.1) o2.2), (2, .cells 116 [.mp 1]), (3, .cells 23 [WK]), (4, .cells 48 (WO a0)), (6, .cells 40 [.apv 5 5 ((Enc.encL s2.2).length + 1) (Enc.encL s2.2)]), (7, .cells 84 (WO x11))], [(5, some ⟨42, 5, (Enc.encL s2.2).length + 1, (Enc.encL ([x11.ty] : List Tm)).flatten⟩)], 8, 54, []⟩) (Qf (Wi rfl (Wi rfl (Wi rfl (Wi rfl (Wi rfl Wh))))) (WD rfl (WD rfl (WD rfl (WD rfl (WD rfl (WD rfl (WD rfl WC))))))) (Wz rfl Wy) rfl (Nat.le_trans hv1 (Wx rfl)) rfl rfl rfl (WU rfl rfl (WS rfl (WU rfl rfl (WU rfl rfl (WU rfl rfl (WU rfl rfl (WU rfl rfl WR))))))) rfl rfl) <| XQ.settleC (α := Tm) (b := 6) (off := 0) (l := s2.2) (l2 := [x11.ty]) rfl rfl rfl (n_H _ _) <| Qj <| Q1 <| Q0 <| Wm rfl rfl rfl (Q8 rfl rfl rfl) <| Wn rfl rfl rfl <| Q3 ?_
  have e := Wk h2; subst e
  refine QD ((QZ (s2.1 + 1)), (s2.2 ++ [x11.ty])) (Qf (Wi rfl (Wi rfl (Wi rfl (Wi rfl (Wi rfl Wh))))) (WD rfl (WD rfl (WD rfl (WD rfl (WD rfl (WD rfl WC)))))) (Wz rfl Wy) rfl (Nat.le_trans hv1 (Wx rfl)) rfl rfl rfl (WU rfl rfl (WS rfl (WU rfl rfl (WU rfl rfl (WU rfl rfl (WU rfl rfl WR)))))) rfl rfl) ho2
  replace h2 := Qr c10 h2
  refine QM <| Qd <| Qd ?_
  have e := Wk h2; subst e
  have e_ : _ = _ := ho2
  subst e_
  exact QG s2.2 (Qf (Wi rfl (Wi rfl Wh)) (WD rfl (WD rfl (WD rfl (WD rfl (WD rfl (WD rfl WC)))))) (Wz rfl Wy) rfl (Nat.le_trans hv1 (Wx rfl)) rfl rfl rfl (WU rfl rfl (WS rfl (WU rfl rfl (WU rfl rfl (WU rfl rfl (WU rfl rfl WR)))))) rfl rfl) h1
  intro o8 h1
  refine QB <| Q1 <| Q2 ?_
  refine JG [5, 9, 10] [(6, 0), (7, 0), (8, 0)] mixed (by kernel_rfl) (by kernel_rfl) (by kernel_rfl) ?_
  refine RunA.rd rfl rfl rfl (Q4 (Q7 Yk rfl rfl rfl)) rfl <| RunA.rd rfl rfl rfl (Q4 (Q6 Zs rfl)) rfl <| RunA.rd rfl rfl rfl (Q4 (Q6 fo_45_1 rfl)) rfl <| RunA.rd rfl rfl rfl (Q4 (Qu Jn rfl rfl rfl rfl)) rfl <| RunA.rd rfl rfl rfl (Y3 (α := Tm) (a0.rcr.ty) JQ Xg rfl rfl (Wx rfl) rfl rfl (.cons (.d _) (.cons (.d _) (.cons (.d _) (.cons (.d _) (.cons (.d _) .nil))))) rfl) rfl ?_
  refine QS h1 (fun g13 h1 => ?_)
  refine RunA.eff rfl rfl rfl (QW (α := Tm) JQ el_42 rfl rfl rfl rfl rfl (.d _) g13) rfl <| RunA.rd rfl rfl rfl (Q4 (Q6 Zs rfl)) rfl <| RunA.rd rfl rfl rfl (Q4 (Q6 Ko rfl)) rfl <| RunA.rd rfl rfl rfl (Q4 (Q7 Yk rfl rfl rfl)) rfl ?_
  refine QS h1 (fun g14 h1 => ?_)
  refine RunA.eff rfl rfl rfl (QW (α := Tm) JQ el_42 rfl rfl rfl rfl rfl (.d _) g14) rfl <| RunA.eff rfl rfl rfl (Ql Yk rfl rfl rfl rfl (Wx rfl) rfl) rfl ?_
  refine RunA.nil ⟨?ex, _, _, rfl, ?_⟩
  case ex => exact ⟨⟨_, rfl, _, _, rfl, rfl, rfl, .inl ⟨rfl, _, Q4 (Q6 Zs rfl), rfl⟩⟩, ⟨_, rfl, _, _, rfl, rfl, rfl, .inl ⟨rfl, _, Q4 (Q6 Ko rfl), rfl⟩⟩, ⟨_, rfl, _, _, rfl, rfl, rfl, .inl ⟨rfl, _, Q4 (Q7 Yk rfl rfl rfl), rfl⟩⟩, trivial⟩
  refine JK (st' := ⟨[(1, .v (.one (.ptr 4 0))), (3, .v (.one (.ptr 6 0)))], [(0, .cells 48 (WO a0)), (1, .mp (QL o2.1) o2.2), (2, .cells 116 [.mp 1]), (3, .cells 23 [WK]), (4, .cells 48 (WO a0)), (6, .cells 40 [WN 5 (((o8 ++ ([a0.rcr.ty])) ++ a0.rcr.rules) : List Tm)])], [(5, some ⟨42, 5, (Enc.encL (((o8 ++ ([a0.rcr.ty])) ++ a0.rcr.rules) : List Tm)).length, []⟩)], 7, 54, []⟩) (Qf (Wi rfl (Wi rfl Wh)) (WD rfl (WD rfl (WD rfl (WD rfl (WD rfl (WD rfl WC)))))) (Wz rfl Wy) rfl (Nat.le_trans hv1 (Wx rfl)) rfl rfl rfl (WU rfl rfl (WS rfl (WU rfl rfl (WU rfl rfl (WU rfl rfl (WU rfl rfl WR)))))) rfl rfl) <| Q1 <| Q2 <| Q2 <| Q0 <| Wm rfl rfl rfl (Q6 JN rfl) <| Wm rfl rfl rfl (Q7 YE rfl rfl rfl) <| Wm rfl rfl rfl (QC (α := Fn) Yr rfl (.d _)) <| Wn rfl rfl rfl <| Q3 <| Q1 <| Qc ?_
  refine QI 2 (fun (o15 : (List Tm)) => ⟨[(1, .v (.one (.ptr 4 0))), (3, .v (.one (.ptr 6 0)))], [(0, .cells 48 (WO a0)), (1, .mp (QL o2.1) o2.2), (2, .cells 116 [.mp 1]), (3, .cells 23 [WK]), (4, .cells 48 (WO a0)), (6, .cells 40 [WN 5 o15])], [(5, some ⟨42, 5, (Enc.encL o15).length, []⟩)], 7, 54, []⟩) (fun (o15 : (List Tm)) => (some o15) = some y6) ?_ ?_
  refine Qb h1 (fun o16 hl2 h1 => ?_)
  refine QH (Kh a0) (fun s2 => ⟨[(1, .v (.one (.ptr 4 0))), (3, .v (.one (.ptr 6 0))), (39, .v (.one (WJ a0.funs))), (40, .v (.one (WL (a0.funs.length : Int)))), (41, .v (.one (WL s2.1)))], [(0, .cells 48 (WO a0)), (1, .mp (QL o2.1) o2.2), (2, .cells 116 [.mp 1]), (3, .cells 23 [WK]), (4, .cells 48 (WO a0)), (6, .cells 40 [WN 5 s2.2])], [(5, some ⟨42, 5, (Enc.encL s2.2).length, []⟩)], 7, 54, []⟩) (0, ((o8 ++ ([a0.rcr.ty])) ++ a0.rcr.rules)) o16 (Qf (Wi rfl (Wi rfl (Wi rfl (Wi rfl (Wi rfl Wh))))) (WD rfl (WD rfl (WD rfl (WD rfl (WD rfl (WD rfl WC)))))) (Wz rfl Wy) rfl (Nat.le_trans hv1 (Wx rfl)) rfl rfl rfl (WU rfl rfl (WS rfl (WU rfl rfl (WU rfl rfl (WU rfl rfl (WU rfl rfl WR)))))) rfl rfl) hl2 (fun s2 n2 oo2 h2 ho2 => ?_)
  unfold Kh at h2
  refine Q2 <| Q0 <| Wm rfl rfl rfl (Q8 rfl rfl rfl) <| Q3 <| Q1 <| Q2 ?_
  refine Qe (b := (decide (s2.1 < (a0.funs.length : Int)))) rfl (fun c17 => ?_) (fun c17 => ?_)
  replace h2 := Qq c17 h2
  refine Qi <| Q1 <| Q2 <| Qc <| Q2 <| Q0 ?_
  refine Qb h2 (fun x18 hx18 h2 => ?_)
  refine Wm rfl rfl rfl (Qm (α := Fn) Yr rfl (.d _) rfl hx18) <| Wm rfl rfl rfl (Jh Zk rfl rfl rfl) <| Qa rfl rfl (Wx rfl) (Qp Xq rfl) <| QJ rfl rfl (Ql Zk rfl rfl rfl rfl (Wx rfl) rfl) <| Q3 <| Q1 ?_
  refine XC.swRun [5, 7, 8] [[], [5], [5, 7], [5, 7, 8], [5, 8]] [(8, 1), (6, 4), (7, 4)] mixed (by kernel_rfl) (by kernel_rfl) (by kernel_rfl) (by kernel_rfl) rfl (by kernel_rfl) ?_
  refine RunA.rd rfl rfl rfl (Q4 (Q7 Yk rfl rfl rfl)) rfl <| RunA.rd rfl rfl rfl (Q4 (Q6 fo_89_1 rfl)) rfl <| RunA.rd rfl rfl rfl (Q4 (Qu Jn rfl rfl rfl rfl)) rfl <| RunA.rd rfl rfl rfl (Q4 (QC (α := Tm) JQ rfl (.app _ _))) rfl <| RunA.rd rfl rfl rfl (Y3 (α := Tm) ((Tm.mk 0 0 ([] : List UInt8) ([] : List Lvl) ([] : List Tm))) JQ Xg rfl rfl (Wx rfl) rfl rfl (.cons (.d _) (.cons (.d _) (.cons (.d _) (.cons (.nil _) (.cons (.nil _) .nil))))) rfl) rfl ?_
  refine QS h2 (fun g19 h2 => ?_)
  refine RunA.eff rfl rfl rfl (OpOK.appendH (α := Tm) (l := s2.2) (z := (Tm.mk 0 0 ([] : List UInt8) ([] : List Lvl) ([] : List Tm))) JQ el_42 rfl rfl rfl rfl (.d _) g19) rfl <| RunA.rd rfl rfl rfl (Q4 (RO.indexP JQ rfl rfl rfl (lt_H (α := Tm) s2.2))) rfl <| RunA.eff rfl rfl rfl (OpOK.storeH (α := Tm) (l := s2.2) (y' := .agg [WL x18.ty.kind, WL x18.ty.index, Z4 x18.ty.name, WJ x18.ty.levels, WJ x18.ty.kids]) x18.ty Jn rfl rfl (.agg (.cons (.d _) (.cons (.d _) (.cons (.d _) (.cons (.d _) (.cons (.d _) .nil)))))) rfl rfl rfl) rfl <| RunA.eff rfl rfl rfl (Ql Yk rfl rfl rfl rfl (Wx rfl) rfl) rfl ?_
  refine RunA.nil ⟨[_], ⟨⟨_, _, rfl, rfl, _, _, rfl, rfl, rfl, .inl ⟨rfl, _, (Ql Yk rfl rfl rfl rfl (Wx rfl) rfl), .inl ⟨rfl, 4, _, rfl, rfl, rfl⟩⟩⟩, ⟨⟨_, _, rfl, rfl, _, _, rfl, rfl, rfl, .inl ⟨rfl, _, (Q4 (RO.indexP JQ rfl rfl rfl (lt_H (α := Tm) s2.2))), .inr ⟨rfl, rfl⟩⟩⟩, ⟨⟨_, _, rfl, rfl, _, _, rfl, rfl, rfl, .inl ⟨rfl, _, (OpOK.storeH (α := Tm) (l := s2.2) (y' := .agg [WL x18.ty.kind, WL x18.ty.index, Z4 x18.ty.name, WJ x18.ty.levels, WJ x18.ty.kids]) x18.ty Jn rfl rfl (.agg (.cons (.d _) (.cons (.d _) (.cons (.d _) (.cons (.d _) (.cons (.d _) .nil)))))) rfl rfl rfl), .inl ⟨rfl, 3, _, rfl, rfl, rfl⟩⟩⟩, trivial⟩⟩⟩, _, _, rfl, ?_⟩
  refine JK (st' := ⟨[(1, .v (.one (.ptr 4 0))), (3, .v (.one (.ptr 6 0))), (39, .v (.one (WJ a0.funs))), (40, .v (.one (WL (a0.funs.length : Int)))), (41, .v (.one (WL s2.1)))], [(0, .cells 48 (WO a0)), (1, .mp (QL o2.1) o2.2), (2, .cells 116 [.mp 1]), (3, .cells 23 [WK]), (4, .cells 48 (WO a0)), (6, .cells 40 [.apv 5 5 ((Enc.encL s2.2).length + 1) (Enc.encL s2.2)]), (7, .cells 89 (WO x18))], [(5, some ⟨42, 5, (Enc.encL s2.2).length + 1, (Enc.encL ([x18.ty] : List Tm)).flatten⟩)], 8, 54, []⟩) (Qf (Wi rfl (Wi rfl (Wi rfl (Wi rfl (Wi rfl Wh))))) (WD rfl (WD rfl (WD rfl (WD rfl (WD rfl (WD rfl (WD rfl WC))))))) (Wz rfl Wy) rfl (Nat.le_trans hv1 (Wx rfl)) rfl rfl rfl (WU rfl rfl (WS rfl (WU rfl rfl (WU rfl rfl (WU rfl rfl (WU rfl rfl (WU rfl rfl WR))))))) rfl rfl) <| XQ.settleC (α := Tm) (b := 6) (off := 0) (l := s2.2) (l2 := [x18.ty]) rfl rfl rfl (n_H _ _) <| Qj <| Q1 <| Q0 <| Wm rfl rfl rfl (Q8 rfl rfl rfl) <| Wn rfl rfl rfl <| Q3 ?_
  have e := Wk h2; subst e
  refine QD ((QZ (s2.1 + 1)), (s2.2 ++ [x18.ty])) (Qf (Wi rfl (Wi rfl (Wi rfl (Wi rfl (Wi rfl Wh))))) (WD rfl (WD rfl (WD rfl (WD rfl (WD rfl (WD rfl WC)))))) (Wz rfl Wy) rfl (Nat.le_trans hv1 (Wx rfl)) rfl rfl rfl (WU rfl rfl (WS rfl (WU rfl rfl (WU rfl rfl (WU rfl rfl (WU rfl rfl WR)))))) rfl rfl) ho2
  replace h2 := Qr c17 h2
  refine QM <| Qd <| Qd ?_
  have e := Wk h2; subst e
  have e_ : _ = _ := ho2
  subst e_
  exact QG s2.2 (Qf (Wi rfl (Wi rfl Wh)) (WD rfl (WD rfl (WD rfl (WD rfl (WD rfl (WD rfl WC)))))) (Wz rfl Wy) rfl (Nat.le_trans hv1 (Wx rfl)) rfl rfl rfl (WU rfl rfl (WS rfl (WU rfl rfl (WU rfl rfl (WU rfl rfl (WU rfl rfl WR)))))) rfl rfl) h1
  intro o15 h1
  refine QB <| Q1 <| Q2 <| Q0 <| Wm rfl rfl rfl (RO.makeFunc2 rfl rfl) <| Wo rfl rfl rfl <| Q3 <| Q1 <| Qz ?_
  have e := Wk h1; subst e
  exact hQ1 _ _ _ (.inr rfl) rfl (Qf (Wi rfl Wh) (WD rfl (WD rfl (WD rfl (WD rfl (WD rfl (WD rfl WC)))))) (Wz rfl Wy) rfl (Nat.le_trans hv1 (Wx rfl)) rfl rfl rfl (WU rfl rfl (WS rfl (WU rfl rfl (WU rfl rfl (WU rfl rfl (WU rfl rfl WR)))))) rfl rfl)
 refine Qa rfl rfl (Wx rfl) (QT rfl rfl rfl hc7 rfl (WD rfl (WD rfl (WD rfl (WD rfl WC)))) Wy) <| Q3 <| Q1 <| Qc <| YR (i := 3) (off := 0) 9 1 rfl rfl <| XC.less (st' := ⟨[(3, .v (.one (.ptr 2 0))), (6, .v (.one (.ptr 3 0))), (20, .v (.one (.fn 73 [(6, 0), (4, 0)])))], [(0, .cells 48 (WO a0)), (1, .mp (QL o2.1) o2.2), (2, .cells 116 [.mp 1]), (3, .cells 23 [WN 7 ([] : List U3)]), (4, .cells 48 (WO a0)), (6, .cells 40 [WN 5 y6])], [(5, some ⟨42, 5, (Enc.encL y6).length, []⟩), (7, some ⟨9, 1, (Enc.encL ([] : List U3)).length, []⟩)], 8, 33, []⟩) (Qf (Wi rfl (Wi rfl (Wi rfl Wh))) (WD rfl (WD rfl (WD rfl (WD rfl (WD rfl (WD rfl WC)))))) (Wz rfl (Wz rfl Wy)) rfl (Nat.zero_le _) rfl rfl rfl (WU rfl rfl (WS rfl (WU rfl rfl (WU rfl rfl (WU rfl rfl (WU rfl rfl WR)))))) rfl rfl) ?_
 refine Qb h0 (fun y20 h1 h0 => ?_)
 have hc21 : CallM Try.prog 73 [.one (.yld 9), .one (.ptr 6 0), .one (.ptr 4 0)] ⟨[(9, .loop .ready none [(3, .v (.one (.ptr 2 0))), (6, .v (.one (.ptr 3 0))), (20, .v (.one (.fn 73 [(6, 0), (4, 0)])))] 33 #[21] J5 J4 8), (8, .obj (.deferred (some []))), (0, .cells 48 (WO a0)), (1, .mp (QL o2.1) o2.2), (2, .cells 116 [.mp 1]), (3, .cells 23 [WN 7 ([] : List U3)]), (4, .cells 48 (WO a0)), (6, .cells 40 [WN 5 y6])], [(5, some ⟨42, 5, (Enc.encL y6).length, []⟩), (7, some ⟨9, 1, (Enc.encL ([] : List U3)).length, []⟩)], 10⟩ (QA []) ⟨[(0, .cells 48 (WO a0)), (1, .mp (QL y20.1.1) y20.1.2), (2, .cells 116 [.mp 1]), (3, .cells 23 [WN 7 y20.2]), (4, .cells 48 (WO a0)), (6, .cells 40 [WN 5 y6]), (8, .obj (.deferred (some []))), (9, .loop .ready none [(3, .v (.one (.ptr 2 0))), (6, .v (.one (.ptr 3 0))), (20, .v (.one (.fn 73 [(6, 0), (4, 0)])))] 33 #[21] J5 J4 8)], [(5, some ⟨42, 5, (Enc.encL y6).length, []⟩), (7, some ⟨9, 1, (Enc.encL y20.2).length, []⟩)], 10⟩ := by
  refine QR ⟨[], [(0, .cells 48 (WO a0)), (1, .mp (QL y20.1.1) y20.1.2), (2, .cells 116 [.mp 1]), (3, .cells 23 [WN 7 y20.2]), (4, .cells 48 (WO a0)), (6, .cells 40 [WN 5 y6]), (8, .obj (.deferred (some []))), (9, .loop .ready none [(3, .v (.one (.ptr 2 0))), (6, .v (.one (.ptr 3 0))), (20, .v (.one (.fn 73 [(6, 0), (4, 0)])))] 33 #[21] J5 J4 8)], [(5, some ⟨42, 5, (Enc.encL y6).length, []⟩), (7, some ⟨9, 1, (Enc.encL y20.2).length, []⟩)], 10, 42, []⟩ rfl rfl en_73 (Wx rfl) rfl .nil (fun w0 M V0 Q hv1 hQ1 => ?_)
  simp only [Jb]
  refine Q2 <| Q2 <| Q0 <| Wm rfl rfl rfl (Q7 Yk rfl rfl rfl) <| Wm rfl rfl rfl (QC (α := Tm) JQ rfl (.app _ _)) <| Wn rfl rfl rfl <| Q3 <| Q1 <| Qc ?_
  refine QI 0 (fun (o22 : (Qh U3 Bool) × (List U3)) => ⟨[(0, .v (.one (.yld 9))), (2, .v (.one (.ptr 4 0)))], [(0, .cells 48 (WO a0)), (1, .mp (QL o22.1.1) o22.1.2), (2, .cells 116 [.mp 1]), (3, .cells 23 [WN 7 o22.2]), (4, .cells 48 (WO a0)), (6, .cells 40 [WN 5 y6]), (8, .obj (.deferred (some []))), (9, .loop .ready none [(3, .v (.one (.ptr 2 0))), (6, .v (.one (.ptr 3 0))), (20, .v (.one (.fn 73 [(6, 0), (4, 0)])))] 33 #[21] J5 J4 8)], [(5, some ⟨42, 5, (Enc.encL y6).length, []⟩), (7, some ⟨9, 1, (Enc.encL o22.2).length, []⟩)], 10, 42, []⟩) (fun (o22 : (Qh U3 Bool) × (List U3)) => (Option.bind (Qw (Kv a0 y6) QF (0, o22.1, o22.2)) (Sum.elim (fun (o23 : (Qh U3 Bool) × (List U3)) => some (o23.1, o23.2)) (fun o => some o))) = some y20) ?_ ?_
  refine Qb h1 (fun o23 hl2 h1 => ?_)
  refine QH (KV y6) (fun s2 => ⟨[(0, .v (.one (.yld 9))), (2, .v (.one (.ptr 4 0))), (10, .v (.one (WN 5 y6))), (11, .v (.one (WL (y6.length : Int)))), (12, .v (.one (WL s2.1)))], [(0, .cells 48 (WO a0)), (1, .mp (QL s2.2.1.1) s2.2.1.2), (2, .cells 116 [.mp 1]), (3, .cells 23 [WN 7 s2.2.2]), (4, .cells 48 (WO a0)), (6, .cells 40 [WN 5 y6]), (8, .obj (.deferred (some []))), (9, .loop .ready none [(3, .v (.one (.ptr 2 0))), (6, .v (.one (.ptr 3 0))), (20, .v (.one (.fn 73 [(6, 0), (4, 0)])))] 33 #[21] J5 J4 8)], [(5, some ⟨42, 5, (Enc.encL y6).length, []⟩), (7, some ⟨9, 1, (Enc.encL s2.2.2).length, []⟩)], 10, 42, []⟩) (0, o2, []) o23 (Qf (Wi rfl (Wi rfl (Wi rfl (Wi rfl (Wi rfl Wh))))) (WD rfl (WD rfl (WD rfl (WD rfl (WD rfl (WD rfl (WD rfl (WD rfl WC)))))))) (Wz rfl (Wz rfl Wy)) rfl (Nat.le_trans hv1 (Wx rfl)) rfl rfl rfl (WU rfl rfl (WS rfl (WU rfl rfl (WU rfl rfl (WU rfl rfl (WU rfl rfl (WU rfl rfl (WU rfl rfl WR)))))))) rfl rfl) hl2 (fun s2 n2 oo2 h2 ho2 => ?_)
  unfold KV at h2
  refine Q2 <| Q0 <| Wm rfl rfl rfl (Q8 rfl rfl rfl) <| Q3 <| Q1 <| Q2 ?_
  refine Qe (b := (decide (s2.1 < (y6.length : Int)))) rfl (fun c24 => ?_) (fun c24 => ?_)
  replace h2 := Qq c24 h2
  refine Qi <| Q1 <| Q2 <| Qc <| Q2 <| Q0 ?_
  refine Qb h2 (fun x25 hx25 h2 => ?_)
  refine Wm rfl rfl rfl (Qm (α := Tm) JQ rfl (.app _ _) rfl hx25) <| Wm rfl rfl rfl (Jh Jn rfl rfl rfl) <| Qa rfl rfl (Wx rfl) (Qp Xg rfl) <| QJ rfl rfl (Ql Jn rfl rfl rfl rfl (Wx rfl) rfl) <| Q3 <| Q1 <| Q2 <| Q0 <| Wm rfl rfl rfl (Qu Jn rfl rfl rfl rfl) ?_
  refine Qb h2 (fun x26 hx26 h2 => ?_)
  refine Qa rfl rfl (Wx rfl) (Qn (m74_ok x25 x26 hx26) rfl (.cons (.agg (.cons (.d _) (.cons (.d _) (.cons (.d _) (.cons (.d _) (.cons (.d _) .nil)))))) .nil)) <| Wm rfl rfl rfl (QC (α := U3) J1 rfl (.d _)) <| Wn rfl rfl rfl <| Q3 <| Q1 <| Qc ?_
  refine QI 2 (fun (o27 : (Qh U3 Bool) × (List U3)) => ⟨[(0, .v (.one (.yld 9))), (2, .v (.one (.ptr 4 0))), (10, .v (.one (WN 5 y6))), (11, .v (.one (WL (y6.length : Int)))), (12, .v (.one (WL s2.1)))], [(0, .cells 48 (WO a0)), (1, .mp (QL o27.1.1) o27.1.2), (2, .cells 116 [.mp 1]), (3, .cells 23 [WN 7 o27.2]), (4, .cells 48 (WO a0)), (6, .cells 40 [WN 5 y6]), (8, .obj (.deferred (some []))), (9, .loop .ready none [(3, .v (.one (.ptr 2 0))), (6, .v (.one (.ptr 3 0))), (20, .v (.one (.fn 73 [(6, 0), (4, 0)])))] 33 #[21] J5 J4 8), (10, .cells 42 (WO x25))], [(5, some ⟨42, 5, (Enc.encL y6).length, []⟩), (7, some ⟨9, 1, (Enc.encL o27.2).length, []⟩)], 11, 42, []⟩) (fun (o27 : (Qh U3 Bool) × (List U3)) => (some (.next ((QZ (s2.1 + 1)), o27.1, o27.2))) = some oo2) ?_ ?_
  refine Qb h2 (fun o28 hl3 h2 => ?_)
  refine QH (KW x26) (fun s3 => ⟨[(0, .v (.one (.yld 9))), (2, .v (.one (.ptr 4 0))), (10, .v (.one (WN 5 y6))), (11, .v (.one (WL (y6.length : Int)))), (12, .v (.one (WL s2.1))), (17, .v (.one (WJ x26))), (18, .v (.one (WL (x26.length : Int)))), (19, .v (.one (WL s3.1)))], [(0, .cells 48 (WO a0)), (1, .mp (QL s3.2.1.1) s3.2.1.2), (2, .cells 116 [.mp 1]), (3, .cells 23 [WN 7 s3.2.2]), (4, .cells 48 (WO a0)), (6, .cells 40 [WN 5 y6]), (8, .obj (.deferred (some []))), (9, .loop .ready none [(3, .v (.one (.ptr 2 0))), (6, .v (.one (.ptr 3 0))), (20, .v (.one (.fn 73 [(6, 0), (4, 0)])))] 33 #[21] J5 J4 8), (10, .cells 42 (WO x25))], [(5, some ⟨42, 5, (Enc.encL y6).length, []⟩), (7, some ⟨9, 1, (Enc.encL s3.2.2).length, []⟩)], 11, 42, []⟩) (0, s2.2.1, s2.2.2) o28 (Qf (Wi rfl (Wi rfl (Wi rfl (Wi rfl (Wi rfl (Wi rfl (Wi rfl (Wi rfl Wh)))))))) (WD rfl (WD rfl (WD rfl (WD rfl (WD rfl (WD rfl (WD rfl (WD rfl (WD rfl WC))))))))) (Wz rfl (Wz rfl Wy)) rfl (Nat.le_trans hv1 (Wx rfl)) rfl rfl rfl (WU rfl rfl (WS rfl (WU rfl rfl (WU rfl rfl (WU rfl rfl (WU rfl rfl (WU rfl rfl (WU rfl rfl (WU rfl rfl WR))))))))) rfl rfl) hl3 (fun s3 n3 oo3 h3 ho3 => ?_)
  unfold KW at h3
  refine Q2 <| Q0 <| Wm rfl rfl rfl (Q8 rfl rfl rfl) <| Q3 <| Q1 <| Q2 ?_
  refine Qe (b := (decide (s3.1 < (x26.length : Int)))) rfl (fun c29 => ?_) (fun c29 => ?_)
  replace h3 := Qq c29 h3
  refine Qi <| Q1 <| Q2 <| Qc <| Q2 <| Q0 ?_
  refine Qb h3 (fun x30 hx30 h3 => ?_)
  refine Wm rfl rfl rfl (Qm (α := U3) J1 rfl (.d _) rfl hx30) <| Wm rfl rfl rfl (QN JT rfl rfl) <| Wo rfl rfl rfl <| Q3 <| Q1 <| Q2 <| Q0 <| Wn rfl rfl rfl <| Wn rfl rfl rfl ?_
  refine Qb h3 (fun y31 h4 h3 => ?_)
  have ha32 : ExecOK Try.prog (some 9) J5 ⟨[(3, .v (.one (.ptr 2 0))), (6, .v (.one (.ptr 3 0))), (20, .v (.one (.fn 73 [(6, 0), (4, 0)]))), (21, .v (.one (Z4 x30)))], [(0, .cells 48 (WO a0)), (1, .mp (QL s3.2.1.1) s3.2.1.2), (2, .cells 116 [.mp 1]), (3, .cells 23 [WN 7 s3.2.2]), (4, .cells 48 (WO a0)), (6, .cells 40 [WN 5 y6]), (8, .obj (.deferred (some []))), (9, .loop .ready none [(3, .v (.one (.ptr 2 0))), (6, .v (.one (.ptr 3 0))), (20, .v (.one (.fn 73 [(6, 0), (4, 0)])))] 33 #[21] J5 J4 8), (10, .cells 42 (WO x25))], [(5, some ⟨42, 5, (Enc.encL y6).length, []⟩), (7, some ⟨9, 1, (Enc.encL s3.2.2).length, []⟩)], 11, 33, []⟩ .normal ⟨[(3, .v (.one (.ptr 2 0))), (6, .v (.one (.ptr 3 0))), (7, .v (.one (Z4 x30)))], [(0, .cells 48 (WO a0)), (1, .mp (QL s3.2.1.1) s3.2.1.2), (2, .cells 116 [.mp 1]), (3, .cells 23 [WN 7 s3.2.2]), (4, .cells 48 (WO a0)), (6, .cells 40 [WN 5 y6]), (8, .obj (.deferred (some []))), (9, .loop .ready none [(3, .v (.one (.ptr 2 0))), (6, .v (.one (.ptr 3 0))), (20, .v (.one (.fn 73 [(6, 0), (4, 0)])))] 33 #[21] J5 J4 8), (10, .cells 42 (WO x25))], [(5, some ⟨42, 5, (Enc.encL y6).length, []⟩), (7, some ⟨9, 1, (Enc.encL s3.2.2).length, []⟩)], 11, 33, []⟩ := by
   refine Ym (fun w0 M V0 ro n Q hv4 hro4 hQn4 => ?_)
   refine Q0 <| Wo rfl rfl rfl <| Q3 ?_
   exact Kr hQn4 (Qf (Wi rfl (Wi rfl (Wi rfl Wh))) (WD rfl (WD rfl (WD rfl (WD rfl (WD rfl (WD rfl (WD rfl (WD rfl (WD rfl WC))))))))) (Wz rfl (Wz rfl Wy)) rfl (Nat.le_trans hv4 (Wx rfl)) rfl rfl rfl (WU rfl rfl (WS rfl (WU rfl rfl (WU rfl rfl (WU rfl rfl (WU rfl rfl (WU rfl rfl (WU rfl rfl (WU rfl rfl WR))))))))) rfl rfl)
  have hb33 : ExecOK Try.prog (some 9) J4 ⟨[(3, .v (.one (.ptr 2 0))), (6, .v (.one (.ptr 3 0))), (7, .v (.one (Z4 x30)))], [(0, .cells 48 (WO a0)), (1, .mp (QL s3.2.1.1) s3.2.1.2), (2, .cells 116 [.mp 1]), (3, .cells 23 [WN 7 s3.2.2]), (4, .cells 48 (WO a0)), (6, .cells 40 [WN 5 y6]), (8, .obj (.deferred (some []))), (9, .loop .busy none [(3, .v (.one (.ptr 2 0))), (6, .v (.one (.ptr 3 0))), (20, .v (.one (.fn 73 [(6, 0), (4, 0)])))] 33 #[21] J5 J4 8), (10, .cells 42 (WO x25))], [(5, some ⟨42, 5, (Enc.encL y6).length, []⟩), (7, some ⟨9, 1, (Enc.encL s3.2.2).length, []⟩)], 11, 33, []⟩ .normal ⟨[], [(0, .cells 48 (WO a0)), (1, .mp (QL y31.1.1) y31.1.2), (2, .cells 116 [.mp 1]), (3, .cells 23 [WN 7 y31.2]), (4, .cells 48 (WO a0)), (6, .cells 40 [WN 5 y6]), (8, .obj (.deferred (some []))), (9, .loop .busy none [(3, .v (.one (.ptr 2 0))), (6, .v (.one (.ptr 3 0))), (20, .v (.one (.fn 73 [(6, 0), (4, 0)])))] 33 #[21] J5 J4 8), (10, .cells 42 (WO x25))], [(5, some ⟨42, 5, (Enc.encL y6).length, []⟩), (7, some ⟨9, 1, (Enc.encL y31.2).length, []⟩)], 11, 33, []⟩ := by
   refine Ym (fun w0 M V0 ro n Q hv4 hro4 hQn4 => ?_)
   refine Qc <| Q2 <| Q0 <| Wm rfl rfl rfl (Q7 ZO rfl rfl rfl) <| Wn rfl rfl rfl <| Wm rfl rfl rfl (RO.lookupGF (M := s3.2.1) (k := x30) Kg zok_bool rfl rfl rfl) <| Wm rfl rfl rfl (J9 rfl) <| Q3 <| Q1 ?_
   refine Qe (b := (!(Je s3.2.1 x30))) rfl (fun c34 => ?_) (fun c34 => ?_)
   replace h4 := Qq c34 h4
   refine Q2 <| Q0 <| Wm rfl rfl rfl (Q7 ZO rfl rfl rfl) <| Wn rfl rfl rfl <| QJ rfl rfl (JL (M := s3.2.1) (k := x30) (v := true) Kg rfl rfl rfl rfl rfl) <| Q3 <| Q1 <| Q0 <| Wm rfl rfl rfl (Q7 KR rfl rfl rfl) <| Wn rfl rfl rfl <| Qa rfl rfl (Wx rfl) (J3 (α := U3) (x30) J1 Xi rfl rfl (Wx rfl) (Wx rfl) rfl rfl (.cons (.d _) .nil) rfl) ?_
   refine QS h4 (fun g35 h4 => ?_)
   refine Qa rfl rfl (Wx rfl) (QW (α := U3) J1 G7 rfl rfl rfl rfl rfl (.app _ _) g35) <| QJ rfl rfl (Ql KR rfl rfl rfl rfl (Wx rfl) rfl) <| Q3 <| Qj ?_
   have e := Wk h4; subst e
   exact Kr hQn4 (Qf Wh (WD rfl (WD rfl (WD rfl (WD rfl (WD rfl (WD rfl (WD rfl (WD rfl (WD rfl WC))))))))) (Wz rfl (Wz rfl Wy)) rfl (Nat.le_trans hv4 (Wx rfl)) rfl rfl rfl (WU rfl rfl (WS rfl (WU rfl rfl (WU rfl rfl (WU rfl rfl (WU rfl rfl (WU rfl rfl (WU rfl rfl (WU rfl rfl WR))))))))) rfl rfl)
   replace h4 := Qr c34 h4
   refine Qi <| Qj ?_
   have e := Wk h4; subst e
   exact Kr hQn4 (Qf Wh (WD rfl (WD rfl (WD rfl (WD rfl (WD rfl (WD rfl (WD rfl (WD rfl (WD rfl WC))))))))) (Wz rfl (Wz rfl Wy)) rfl (Nat.le_trans hv4 (Wx rfl)) rfl rfl rfl (WU rfl rfl (WS rfl (WU rfl rfl (WU rfl rfl (WU rfl rfl (WU rfl rfl (WU rfl rfl (WU rfl rfl (WU rfl rfl WR))))))))) rfl rfl)
  refine Qa rfl rfl (Wx rfl) (OpOK.yield (jump := none) rfl rfl rfl rfl rfl (Yn ha32 (fun E hv => (Qf (Wi rfl (Wi rfl (Wi rfl (Wi rfl Wh)))) (WD rfl (WD rfl (WD rfl (WD rfl (WD rfl (WD rfl (WD rfl (WD rfl (WD rfl WC))))))))) (Wz rfl (Wz rfl Wy)) rfl (Nat.le_trans hv (Wx rfl)) rfl rfl rfl (WU rfl rfl (WS rfl (WU rfl rfl (WU rfl rfl (WU rfl rfl (WU rfl rfl (WU rfl rfl (WU rfl rfl (WU rfl rfl WR))))))))) rfl rfl))) rfl (Yn hb33 (fun E hv => (Qf (Wi rfl (Wi rfl (Wi rfl Wh))) (WD rfl (WD rfl (WD rfl (WD rfl (WD rfl (WD rfl (WD rfl (WD rfl (WD rfl WC))))))))) (Wz rfl (Wz rfl Wy)) rfl (Nat.le_trans hv (Wx rfl)) rfl rfl rfl (WU rfl rfl (WS rfl (WU rfl rfl (WU rfl rfl (WU rfl rfl (WU rfl rfl (WU rfl rfl (WU rfl rfl (WU rfl rfl WR))))))))) rfl rfl))) rfl rfl) ?_
  refine Wm rfl rfl rfl (J9 rfl) <| Q3 <| Q1 ?_
  refine Qe rfl (fun h => nomatch h) (fun _ => ?_)
  refine Qi <| Qj <| Q1 <| Q0 <| Wm rfl rfl rfl (Q8 rfl rfl rfl) <| Wn rfl rfl rfl <| Q3 ?_
  have e := Wk h3; subst e
  refine QD ((QZ (s3.1 + 1)), y31.1, y31.2) (Qf (Wi rfl (Wi rfl (Wi rfl (Wi rfl (Wi rfl (Wi rfl (Wi rfl (Wi rfl Wh)))))))) (WD rfl (WD rfl (WD rfl (WD rfl (WD rfl (WD rfl (WD rfl (WD rfl (WD rfl WC))))))))) (Wz rfl (Wz rfl Wy)) rfl (Nat.le_trans hv1 (Wx rfl)) rfl rfl rfl (WU rfl rfl (WS rfl (WU rfl rfl (WU rfl rfl (WU rfl rfl (WU rfl rfl (WU rfl rfl (WU rfl rfl (WU rfl rfl WR))))))))) rfl rfl) ho3
  replace h3 := Qr c29 h3
  refine QM <| Qd <| Qd ?_
  have e := Wk h3; subst e
  have e_ : _ = _ := ho3
  subst e_
  exact QG (s3.2.1, s3.2.2) (Qf (Wi rfl (Wi rfl (Wi rfl (Wi rfl (Wi rfl Wh))))) (WD rfl (WD rfl (WD rfl (WD rfl (WD rfl (WD rfl (WD rfl (WD rfl (WD rfl WC))))))))) (Wz rfl (Wz rfl Wy)) rfl (Nat.le_trans hv1 (Wx rfl)) rfl rfl rfl (WU rfl rfl (WS rfl (WU rfl rfl (WU rfl rfl (WU rfl rfl (WU rfl rfl (WU rfl rfl (WU rfl rfl (WU rfl rfl WR))))))))) rfl rfl) h2
  intro o27 h2
  refine QB <| Qj <| Q1 <| Q0 <| Wm rfl rfl rfl (Q8 rfl rfl rfl) <| Wn rfl rfl rfl <| Q3 ?_
  have e := Wk h2; subst e
  refine QD ((QZ (s2.1 + 1)), o27.1, o27.2) (Qf (Wi rfl (Wi rfl (Wi rfl (Wi rfl (Wi rfl Wh))))) (WD rfl (WD rfl (WD rfl (WD rfl (WD rfl (WD rfl (WD rfl (WD rfl WC)))))))) (Wz rfl (Wz rfl Wy)) rfl (Nat.le_trans hv1 (Wx rfl)) rfl rfl rfl (WU rfl rfl (WS rfl (WU rfl rfl (WU rfl rfl (WU rfl rfl (WU rfl rfl (WU rfl rfl (WU rfl rfl WR)))))))) rfl rfl) ho2
  replace h2 := Qr c24 h2
  refine QM <| Qd <| Qd ?_
  have e := Wk h2; subst e
  have e_ : _ = _ := ho2
  subst e_
  exact QG (s2.2.1, s2.2.2) (Qf (Wi rfl (Wi rfl Wh)) (WD rfl (WD rfl (WD rfl (WD rfl (WD rfl (WD rfl (WD rfl (WD rfl WC)))))))) (Wz rfl (Wz rfl Wy)) rfl (Nat.le_trans hv1 (Wx rfl)) rfl rfl rfl (WU rfl rfl (WS rfl (WU rfl rfl (WU rfl rfl (WU rfl rfl (WU rfl rfl (WU rfl rfl (WU rfl rfl WR)))))))) rfl rfl) h1
  intro o22 h1
  refine QB <| Q1 <| Q2 <| Q0 <| Wm rfl rfl rfl (Q6 JN rfl) <| Wm rfl rfl rfl (Q7 YE rfl rfl rfl) <| Wm rfl rfl rfl (QC (α := Fn) Yr rfl (.d _)) <| Wn rfl rfl rfl <| Q3 <| Q1 <| Qc ?_
  refine QI 4 (fun (o36 : (Qh U3 Bool) × (List U3)) => ⟨[], [(0, .cells 48 (WO a0)), (1, .mp (QL o36.1.1) o36.1.2), (2, .cells 116 [.mp 1]), (3, .cells 23 [WN 7 o36.2]), (4, .cells 48 (WO a0)), (6, .cells 40 [WN 5 y6]), (8, .obj (.deferred (some []))), (9, .loop .ready none [(3, .v (.one (.ptr 2 0))), (6, .v (.one (.ptr 3 0))), (20, .v (.one (.fn 73 [(6, 0), (4, 0)])))] 33 #[21] J5 J4 8)], [(5, some ⟨42, 5, (Enc.encL y6).length, []⟩), (7, some ⟨9, 1, (Enc.encL o36.2).length, []⟩)], 10, 42, []⟩) (fun (o36 : (Qh U3 Bool) × (List U3)) => (some (o36.1, o36.2)) = some y20) ?_ ?_
  refine Qb h1 (fun o37 hl2 h1 => ?_)
  refine QH (Kv a0 y6) (fun s2 => ⟨[(0, .v (.one (.yld 9))), (30, .v (.one (WJ a0.funs))), (31, .v (.one (WL (a0.funs.length : Int)))), (32, .v (.one (WL s2.1)))], [(0, .cells 48 (WO a0)), (1, .mp (QL s2.2.1.1) s2.2.1.2), (2, .cells 116 [.mp 1]), (3, .cells 23 [WN 7 s2.2.2]), (4, .cells 48 (WO a0)), (6, .cells 40 [WN 5 y6]), (8, .obj (.deferred (some []))), (9, .loop .ready none [(3, .v (.one (.ptr 2 0))), (6, .v (.one (.ptr 3 0))), (20, .v (.one (.fn 73 [(6, 0), (4, 0)])))] 33 #[21] J5 J4 8)], [(5, some ⟨42, 5, (Enc.encL y6).length, []⟩), (7, some ⟨9, 1, (Enc.encL s2.2.2).length, []⟩)], 10, 42, []⟩) (0, o22.1, o22.2) o37 (Qf (Wi rfl (Wi rfl (Wi rfl (Wi rfl Wh)))) (WD rfl (WD rfl (WD rfl (WD rfl (WD rfl (WD rfl (WD rfl (WD rfl WC)))))))) (Wz rfl (Wz rfl Wy)) rfl (Nat.le_trans hv1 (Wx rfl)) rfl rfl rfl (WU rfl rfl (WS rfl (WU rfl rfl (WU rfl rfl (WU rfl rfl (WU rfl rfl (WU rfl rfl (WU rfl rfl WR)))))))) rfl rfl) hl2 (fun s2 n2 oo2 h2 ho2 => ?_)
  unfold Kv at h2
  refine Q2 <| Q0 <| Wm rfl rfl rfl (Q8 rfl rfl rfl) <| Q3 <| Q1 <| Q2 ?_
  refine Qe (b := (decide (s2.1 < (a0.funs.length : Int)))) rfl (fun c38 => ?_) (fun c38 => ?_)
  replace h2 := Qq c38 h2
  refine Qi <| Q1 <| Q2 <| Qc <| Q2 <| Q0 ?_
  refine Qb h2 (fun x39 hx39 h2 => ?_)
  refine Wm rfl rfl rfl (Qm (α := Fn) Yr rfl (.d _) rfl hx39) <| Wm rfl rfl rfl (Jh Zk rfl rfl rfl) <| Qa rfl rfl (Wx rfl) (Qp Xq rfl) <| QJ rfl rfl (Ql Zk rfl rfl rfl rfl (Wx rfl) rfl) <| Q3 <| Q1 <| Q2 <| Q0 <| Wm rfl rfl rfl (Q6 fo_89_3 rfl) <| Wm rfl rfl rfl (Qu GN rfl rfl rfl rfl) <| Wn rfl rfl rfl ?_
  refine Qb h2 (fun x40 hx40 h2 => ?_)
  refine Qa rfl rfl (Wx rfl) (J2 (hp1' := [(9, .loop .ready none [(3, .v (.one (.ptr 2 0))), (6, .v (.one (.ptr 3 0))), (20, .v (.one (.fn 73 [(6, 0), (4, 0)])))] 33 #[21] J5 J4 8), (8, .obj (.deferred (some []))), (2, .cells 116 [.mp 1]), (1, .mp (QL x40.2.1.1) x40.2.1.2), (3, .cells 23 [WN 7 x40.2.2]), (6, .cells 40 [WN 5 y6]), (4, .cells 48 (WO a0))]) (tk1' := [(7, some ⟨9, 1, (Enc.encL x40.2.2).length, []⟩), (5, some ⟨42, 5, (Enc.encL y6).length, []⟩)]) (hpF := [(0, .cells 48 (WO a0)), (10, .cells 89 (WO x39))]) (tkF := []) (res2 := QA [.one (WM x40.1)]) (nx2 := 13) [9, 8, 2, 1, 3, 7, 6, 5, 4] rfl rfl (m75f1_ok x39.tree s2.2.1 s2.2.2 y6 a0 x40 hx40) rfl rfl (Ws rfl rfl (Ws rfl rfl (Ws rfl rfl (Wq rfl (Ws rfl rfl (Ws rfl rfl (Ws rfl rfl Wp))))))) rfl rfl (WG rfl (WG rfl (WG rfl (WH rfl (WG rfl (WG rfl (WG rfl WF))))))) (WB rfl (WB rfl WA)) (WD rfl (WD rfl WC)) Wy rfl rfl rfl rfl rfl (WU rfl rfl (WU rfl rfl (WU rfl rfl (WS rfl (WU rfl rfl (WU rfl rfl (WU rfl rfl WR))))))) rfl rfl rfl rfl) <| Wm rfl rfl rfl (J9 rfl) <| Q3 <| Q1 ?_
  refine Qe (b := (!x40.1)) rfl (fun c41 => ?_) (fun c41 => ?_)
  replace h2 := Qq c41 h2
  refine Qz ?_
  have e := Wk h2; subst e
  have e_ : _ = _ := ho2
  subst e_
  try dsimp only [Sum.elim_inl, Sum.elim_inr] at h1
  have e := Wk h1; subst e
  exact hQ1 _ _ _ (.inr rfl) rfl (Qf Wh (WD rfl (WD rfl (WD rfl (WD rfl (WD rfl (WD rfl (WD rfl (WD rfl WC)))))))) (Wz rfl (Wz rfl Wy)) rfl (Nat.le_trans hv1 (Wx rfl)) rfl rfl rfl (WU rfl rfl (WS rfl (WU rfl rfl (WU rfl rfl (WU rfl rfl (WU rfl rfl (WU rfl rfl (WU rfl rfl WR)))))))) rfl rfl)
  replace h2 := Qr c41 h2
  refine Qi <| Qj <| Q1 <| Q0 <| Wm rfl rfl rfl (Q8 rfl rfl rfl) <| Wn rfl rfl rfl <| Q3 ?_
  have e := Wk h2; subst e
  refine QD ((QZ (s2.1 + 1)), x40.2.1, x40.2.2) (Qf (Wi rfl (Wi rfl (Wi rfl (Wi rfl Wh)))) (WD rfl (WD rfl (WD rfl (WD rfl (WD rfl (WD rfl (WD rfl (WD rfl WC)))))))) (Wz rfl (Wz rfl Wy)) rfl (Nat.le_trans hv1 (Wx rfl)) rfl rfl rfl (WU rfl rfl (WS rfl (WU rfl rfl (WU rfl rfl (WU rfl rfl (WU rfl rfl (WU rfl rfl (WU rfl rfl WR)))))))) rfl rfl) ho2
  replace h2 := Qr c38 h2
  refine QM <| Qd <| Qd ?_
  have e := Wk h2; subst e
  have e_ : _ = _ := ho2
  subst e_
  exact QG (s2.2.1, s2.2.2) (Qf Wh (WD rfl (WD rfl (WD rfl (WD rfl (WD rfl (WD rfl (WD rfl (WD rfl WC)))))))) (Wz rfl (Wz rfl Wy)) rfl (Nat.le_trans hv1 (Wx rfl)) rfl rfl rfl (WU rfl rfl (WS rfl (WU rfl rfl (WU rfl rfl (WU rfl rfl (WU rfl rfl (WU rfl rfl (WU rfl rfl WR)))))))) rfl rfl) h1
  intro o36 h1
  refine QB ?_
  have e := Wk h1; subst e
  exact hQ1 _ _ _ (.inl rfl) rfl (Qf Wh (WD rfl (WD rfl (WD rfl (WD rfl (WD rfl (WD rfl (WD rfl (WD rfl WC)))))))) (Wz rfl (Wz rfl Wy)) rfl (Nat.le_trans hv1 (Wx rfl)) rfl rfl rfl (WU rfl rfl (WS rfl (WU rfl rfl (WU rfl rfl (WU rfl rfl (WU rfl rfl (WU rfl rfl (WU rfl rfl WR)))))))) rfl rfl)
 refine XC.exec (rangeFunc_out (e := .normal) rfl hc21 rfl rfl (by intro h; cases h) rfl) rfl ?_
 refine Qj <| Q1 <| Q2 <| Q0 <| Wm rfl rfl rfl (Q7 KR rfl rfl rfl) <| Wo rfl rfl rfl <| Q3 <| Q1 <| Qz ?_
 have e := Wk h0; subst e
 exact QO (fun _ _ h => h) rfl (Qo rfl .nil) (.cons (.one (.app _ _ _)) .nil)
end Go.Proofs.Ytijcchddnnnmdaa
namespace Go.Proofs.Ytijcchddnnnmdaa
open Go.RowKit Go.Shelf
set_option linter.unusedSimpArgs false
set_option linter.unusedVariables false
theorem en_18 : J7 Try.prog 18 := enters_of Try.func18 (by kernel_rfl) rfl
def m61_l0 (a0 : List U3) (a1 : U3) (s1 : Int) : Option (LO Int (Unit ⊕ Bool)) :=
 cond (decide (s1 < (a0.length : Int)))
   (Option.bind (Ja a0 s1) fun (x3 : U3) =>
 cond (x3 == a1)
   (some (.done (.inr true)))
   (some (.next (QZ (s1 + 1)))))
   (some (.done (.inl ())))
def Wf (a0 : List U3) (a1 : U3) : Option Bool :=
 Option.bind (Qw (m61_l0 a0 a1) QF 0) (Sum.elim (fun (o1 : Unit) => some false) (fun o => some o))
def m64_l0 (a0 : List U3) (a1 : U3) (s1 : Int) : Option (LO Int (Unit ⊕ Bool)) :=
 cond (decide (s1 < (a0.length : Int)))
   (Option.bind (Ja a0 s1) fun (x3 : U3) =>
 cond (x3 == a1)
   (some (.done (.inr true)))
   (some (.next (QZ (s1 + 1)))))
   (some (.done (.inl ())))
def m64 (a0 : List U3) (a1 : U3) : Option Bool :=
 Option.bind (Qw (m64_l0 a0 a1) QF 0) (Sum.elim (fun (o1 : Unit) => some false) (fun o => some o))
def G5 (a0 : Dcl) (s1 : (List U3) × Int) : Option (LO ((List U3) × Int) (((List U3)))) :=
 cond (decide (s1.2 < (a0.ctors.length : Int)))
   (Option.bind (Ja a0.ctors s1.2) fun (x6 : Ctr) =>
 Qy (Nat.ble (s1.1.length + ([x6.name]).length) 1000000000)
 (some (.next ((s1.1 ++ ([x6.name])), (QZ (s1.2 + 1))))))
   (some (.done s1.1))
def G4 (a0 : Dcl) (s1 : (List U3) × Int) : Option (LO ((List U3) × Int) (((List U3)))) :=
 cond (decide (s1.2 < (a0.funs.length : Int)))
   (Option.bind (Ja a0.funs s1.2) fun (x14 : Fn) =>
 Qy (Nat.ble (s1.1.length + ([x14.name]).length) 1000000000)
 (some (.next ((s1.1 ++ ([x14.name])), (QZ (s1.2 + 1))))))
   (some (.done s1.1))
def W0 (a0 : Dcl) : Option ((List U3)) :=
 Option.bind (cond (a0.kind == 0)
   (some (a0.kind == 0))
   (cond (a0.kind == 1)
   (some (a0.kind == 1))
   (some (a0.kind == 2)))) (fun (v1 : Bool) => cond v1
   (some ([a0.name]))
   (cond (a0.kind == 3)
   (Option.bind (Qw (G5 a0) QF ([a0.name], 0)) (fun (o4 : (List U3)) => Qy (Nat.ble (a0.name.length + ([46, 114, 101, 99] : List UInt8).length) 1000000000)
 (Qy (Nat.ble (o4.length + ([(a0.name ++ ([46, 114, 101, 99] : List UInt8))]).length) 1000000000)
 (some (o4 ++ ([(a0.name ++ ([46, 114, 101, 99] : List UInt8))]))))))
   (cond (a0.kind == 4)
   (Option.bind (Qw (G4 a0) QF (([] : List U3), 0)) (fun (o12 : (List U3)) => some o12))
   (some ([] : List U3)))))
set_option maxRecDepth 100000 in
set_option maxHeartbeats 8000000 in
theorem m18_ok (a0 : Dcl) (r : (List U3)) (h0 : W0 a0 = some r) : Fun Try.prog 18 [.agg (WO a0)] (QA [.one (WJ r)]) := by
 unfold W0 at h0
 refine QU 9 62 Try.func18 rfl en_18 rfl (Wx rfl) (fun S w => ?_)
 simp only [Jb]
 refine Q2 <| Q0 <| Qa rfl rfl (Wx rfl) (Jc rfl) <| Wo rfl rfl rfl <| Q3 <| Q1 <| Q2 <| Q2 <| Q0 <| Wm rfl rfl rfl (Q6 fo_48_0 rfl) <| Wm rfl rfl rfl (Q7 YA rfl rfl rfl) <| Q3 <| Q1 <| Qc ?_
 refine Q2 <| Q2 <| Q0 <| Wm rfl rfl rfl (Q8 rfl rfl rfl) <| Wo rfl rfl rfl <| Q3 <| Q1 ?_
 refine Jf (fun (v1 : Bool) => ⟨[(1, .v (.one (.ptr 0 0))), (8, .v (.one (WL a0.kind))), (9, .v (.one (WM v1)))], [(0, .cells 48 (WO a0))], [], 1, 62, []⟩) (fun (v1 : Bool) => (cond v1
     (some ([a0.name]))
     (cond (a0.kind == 3)
     (Option.bind (Qw (G5 a0) QF ([a0.name], 0)) (fun (o4 : (List U3)) => Qy (Nat.ble (a0.name.length + ([46, 114, 101, 99] : List UInt8).length) 1000000000)
   (Qy (Nat.ble (o4.length + ([(a0.name ++ ([46, 114, 101, 99] : List UInt8))]).length) 1000000000)
   (some (o4 ++ ([(a0.name ++ ([46, 114, 101, 99] : List UInt8))]))))))
     (cond (a0.kind == 4)
     (Option.bind (Qw (G4 a0) QF (([] : List U3), 0)) (fun (o12 : (List U3)) => some o12))
     (some ([] : List U3))))) = some r) ?_ ?_
 refine Qb h0 (fun w1_ h1 h0 => ?_)
 refine Qe (b := (a0.kind == 0)) rfl (fun c2 => ?_) (fun c2 => ?_)
 replace h1 := Qq c2 h1
 refine Qi ?_
 have e := Wk h1; subst e
 exact Qt (a0.kind == 0) (Qf (Wi rfl (Wi rfl (Wi rfl Wh))) (WD rfl WC) Wy rfl (Nat.zero_le _) rfl rfl rfl (WU rfl rfl WR) rfl rfl) h0
 replace h1 := Qr c2 h1
 refine Q2 <| Q0 <| Wm rfl rfl rfl (Q8 rfl rfl rfl) <| Wo rfl rfl rfl <| Q3 <| Q1 ?_
 refine Qe (b := (a0.kind == 1)) rfl (fun c3 => ?_) (fun c3 => ?_)
 replace h1 := Qq c3 h1
 refine Qi ?_
 have e := Wk h1; subst e
 exact Qt (a0.kind == 1) (Qf (Wi rfl (Wi rfl (Wi rfl Wh))) (WD rfl WC) Wy rfl (Nat.zero_le _) rfl rfl rfl (WU rfl rfl WR) rfl rfl) h0
 replace h1 := Qr c3 h1
 refine Q0 <| Wm rfl rfl rfl (Q8 rfl rfl rfl) <| Wo rfl rfl rfl <| Q3 ?_
 have e := Wk h1; subst e
 exact Qt (a0.kind == 2) (Qf (Wi rfl (Wi rfl (Wi rfl Wh))) (WD rfl WC) Wy rfl (Nat.zero_le _) rfl rfl rfl (WU rfl rfl WR) rfl rfl) h0
 intro v1 h0
 refine Q1 ?_
 refine Qe (b := v1) rfl (fun c4 => ?_) (fun c4 => ?_)
 replace h0 := Qq c4 h0
 refine Q2 <| Q0 <| Wm rfl rfl rfl (Q6 YX rfl) <| Wm rfl rfl rfl (Q7 JT rfl rfl rfl) <| Qa rfl rfl (Wx rfl) (J3 (α := U3) (a0.name) J1 Xi rfl rfl (Wx rfl) (Wx rfl) rfl rfl (.cons (.d _) .nil) rfl) <| Wo rfl rfl rfl <| Q3 <| Q1 <| Qz ?_
 have e := Wk h0; subst e
 exact QO (fun _ _ h => h) rfl (Qo rfl .nil) (.cons (.one (.app _ _ _)) .nil)
 replace h0 := Qr c4 h0
 refine Q2 <| Q0 <| Wm rfl rfl rfl (Q8 rfl rfl rfl) <| Wo rfl rfl rfl <| Q3 <| Q1 ?_
 refine Qe (b := (a0.kind == 3)) rfl (fun c5 => ?_) (fun c5 => ?_)
 replace h0 := Qq c5 h0
 refine Q2 <| Q0 <| Wm rfl rfl rfl (Q6 YX rfl) <| Wm rfl rfl rfl (Q7 JT rfl rfl rfl) <| Qa rfl rfl (Wx rfl) (J3 (α := U3) (a0.name) J1 Xi rfl rfl (Wx rfl) (Wx rfl) rfl rfl (.cons (.d _) .nil) rfl) <| Wo rfl rfl rfl <| Q3 <| Q1 <| Q2 <| Q2 <| Q0 <| Wo rfl rfl rfl <| Q3 <| Q1 ?_
 refine Qc ?_
 refine QI 1 (fun (o6 : (List U3)) => ⟨[(1, .v (.one (.ptr 0 0))), (3, .v (.one (WN 1 o6)))], [(0, .cells 48 (WO a0))], [(1, some ⟨9, 1, (Enc.encL o6).length, []⟩)], 2, 62, []⟩) (fun (o6 : (List U3)) => (Qy (Nat.ble (a0.name.length + ([46, 114, 101, 99] : List UInt8).length) 1000000000)
   (Qy (Nat.ble (o6.length + ([(a0.name ++ ([46, 114, 101, 99] : List UInt8))]).length) 1000000000)
   (some (o6 ++ ([(a0.name ++ ([46, 114, 101, 99] : List UInt8))]))))) = some r) ?_ ?_
 refine Qb h0 (fun o7 hl1 h0 => ?_)
 refine QH (G5 a0) (fun s1 => ⟨[(1, .v (.one (.ptr 0 0))), (3, .v (.one (WN 1 s1.1))), (4, .v (.one (WL s1.2)))], [(0, .cells 48 (WO a0))], [(1, some ⟨9, 1, (Enc.encL s1.1).length, []⟩)], 2, 62, []⟩) ([a0.name], 0) o7 (Qf (Wi rfl (Wi rfl (Wi rfl Wh))) (WD rfl WC) (Wz rfl Wy) rfl (Nat.zero_le _) rfl rfl rfl (WU rfl rfl WR) rfl rfl) hl1 (fun s1 n1 oo1 h1 ho1 => ?_)
 unfold G5 at h1
 refine Q2 <| Q2 <| Q0 <| Wn rfl rfl rfl <| Wm rfl rfl rfl (Q6 Yp rfl) <| Wm rfl rfl rfl (Q7 ZN rfl rfl rfl) <| Wm rfl rfl rfl (QC (α := Ctr) Z3 rfl (.d _)) <| Wm rfl rfl rfl (Q8 rfl rfl rfl) <| Q3 <| Q1 ?_
 refine Qe (b := (decide (s1.2 < (a0.ctors.length : Int)))) rfl (fun c8 => ?_) (fun c8 => ?_)
 replace h1 := Qq c8 h1
 refine Qi <| Q1 <| Q2 <| Qc <| Q0 <| Wn rfl rfl rfl <| Wm rfl rfl rfl (Q6 Yp rfl) <| Wm rfl rfl rfl (Q7 ZN rfl rfl rfl) <| Wn rfl rfl rfl ?_
 refine Qb h1 (fun x9 hx9 h1 => ?_)
 refine Wm rfl rfl rfl (Qm (α := Ctr) Z3 rfl (.d _) rfl hx9) <| Wm rfl rfl rfl (Jz Gk rfl) <| Wm rfl rfl rfl (QN JT rfl rfl) <| Qa rfl rfl (Wx rfl) (J3 (α := U3) (x9.name) J1 Xi rfl rfl (Wx rfl) (Wx rfl) rfl rfl (.cons (.d _) .nil) rfl) ?_
 refine QS h1 (fun g10 h1 => ?_)
 refine Qa rfl rfl (Wx rfl) (QW (α := U3) J1 G7 rfl rfl rfl rfl rfl (.app _ _) g10) <| Wo rfl rfl rfl <| Q3 <| Qj <| Q1 <| Q0 <| Wn rfl rfl rfl <| Wm rfl rfl rfl (Q8 rfl rfl rfl) <| Wo rfl rfl rfl <| Q3 ?_
 have e := Wk h1; subst e
 refine QD ((s1.1 ++ ([x9.name])), (QZ (s1.2 + 1))) (Qf (Wi rfl (Wi rfl (Wi rfl Wh))) (WD rfl WC) (Wz rfl Wy) rfl (Nat.zero_le _) rfl rfl rfl (WU rfl rfl WR) rfl rfl) ho1
 replace h1 := Qr c8 h1
 refine QM <| Qd <| Qd ?_
 have e := Wk h1; subst e
 have e_ : _ = _ := ho1
 subst e_
 exact QG s1.1 (Qf (Wi rfl (Wi rfl Wh)) (WD rfl WC) (Wz rfl Wy) rfl (Nat.zero_le _) rfl rfl rfl (WU rfl rfl WR) rfl rfl) h0
 intro o6 h0
 refine QB <| Q1 <| Q2 <| Q0 <| Wn rfl rfl rfl <| Wm rfl rfl rfl (Q6 YX rfl) <| Wm rfl rfl rfl (Q7 JT rfl rfl rfl) ?_
 refine QS h0 (fun g11 h0 => ?_)
 refine Wm rfl rfl rfl (RO.addS rfl rfl g11) <| Qa rfl rfl (Wx rfl) (J3 (α := U3) ((a0.name ++ ([46, 114, 101, 99] : List UInt8))) J1 Xi rfl rfl (Wx rfl) (Wx rfl) rfl rfl (.cons (.d _) .nil) rfl) ?_
 refine QS h0 (fun g12 h0 => ?_)
 refine Qa rfl rfl (Wx rfl) (QW (α := U3) J1 G7 rfl rfl rfl rfl rfl (.app _ _) g12) <| Wo rfl rfl rfl <| Q3 <| Q1 <| Qz ?_
 have e := Wk h0; subst e
 exact QO (fun _ _ h => h) rfl (Qo rfl .nil) (.cons (.one (.app _ _ _)) .nil)
 replace h0 := Qr c5 h0
 refine Q2 <| Q0 <| Wm rfl rfl rfl (Q8 rfl rfl rfl) <| Wo rfl rfl rfl <| Q3 <| Q1 ?_
 refine Qe (b := (a0.kind == 4)) rfl (fun c13 => ?_) (fun c13 => ?_)
 replace h0 := Qq c13 h0
 refine Q2 <| Q0 <| Wo rfl rfl rfl <| Q3 <| Q1 <| Q2 <| Q2 <| Q0 <| Wo rfl rfl rfl <| Q3 <| Q1 <| Qc ?_
 refine QI 3 (fun (o14 : (List U3)) => ⟨[(5, .v (.one (WN 1 o14)))], [(0, .cells 48 (WO a0))], [(1, some ⟨9, 1, (Enc.encL o14).length, []⟩)], 2, 62, []⟩) (fun (o14 : (List U3)) => (some o14) = some r) ?_ ?_
 refine JW (t := 5) 9 1 rfl ?_
 refine Qb h0 (fun o15 hl1 h0 => ?_)
 refine QH (G4 a0) (fun s1 => ⟨[(1, .v (.one (.ptr 0 0))), (5, .v (.one (WN 1 s1.1))), (6, .v (.one (WL s1.2)))], [(0, .cells 48 (WO a0))], [(1, some ⟨9, 1, (Enc.encL s1.1).length, []⟩)], 2, 62, []⟩) (([] : List U3), 0) o15 (Qf (Wi rfl (Wi rfl (Wi rfl Wh))) (WD rfl WC) (Wz rfl Wy) rfl (Nat.zero_le _) rfl rfl rfl (WU rfl rfl WR) rfl rfl) hl1 (fun s1 n1 oo1 h1 ho1 => ?_)
 unfold G4 at h1
 refine Q2 <| Q2 <| Q0 <| Wn rfl rfl rfl <| Wm rfl rfl rfl (Q6 JN rfl) <| Wm rfl rfl rfl (Q7 YE rfl rfl rfl) <| Wm rfl rfl rfl (QC (α := Fn) Yr rfl (.d _)) <| Wm rfl rfl rfl (Q8 rfl rfl rfl) <| Q3 <| Q1 ?_
 refine Qe (b := (decide (s1.2 < (a0.funs.length : Int)))) rfl (fun c16 => ?_) (fun c16 => ?_)
 replace h1 := Qq c16 h1
 refine Qi <| Q1 <| Q2 <| Qc <| Q0 <| Wn rfl rfl rfl <| Wm rfl rfl rfl (Q6 JN rfl) <| Wm rfl rfl rfl (Q7 YE rfl rfl rfl) <| Wn rfl rfl rfl ?_
 refine Qb h1 (fun x17 hx17 h1 => ?_)
 refine Wm rfl rfl rfl (Qm (α := Fn) Yr rfl (.d _) rfl hx17) <| Wm rfl rfl rfl (Jz Gj rfl) <| Wm rfl rfl rfl (QN JT rfl rfl) <| Qa rfl rfl (Wx rfl) (J3 (α := U3) (x17.name) J1 Xi rfl rfl (Wx rfl) (Wx rfl) rfl rfl (.cons (.d _) .nil) rfl) ?_
 refine QS h1 (fun g18 h1 => ?_)
 refine Qa rfl rfl (Wx rfl) (QW (α := U3) J1 G7 rfl rfl rfl rfl rfl (.app _ _) g18) <| Wo rfl rfl rfl <| Q3 <| Qj <| Q1 <| Q0 <| Wn rfl rfl rfl <| Wm rfl rfl rfl (Q8 rfl rfl rfl) <| Wo rfl rfl rfl <| Q3 ?_
 have e := Wk h1; subst e
 refine QD ((s1.1 ++ ([x17.name])), (QZ (s1.2 + 1))) (Qf (Wi rfl (Wi rfl (Wi rfl Wh))) (WD rfl WC) (Wz rfl Wy) rfl (Nat.zero_le _) rfl rfl rfl (WU rfl rfl WR) rfl rfl) ho1
 replace h1 := Qr c16 h1
 refine QM <| Qd <| Qd ?_
 have e := Wk h1; subst e
 have e_ : _ = _ := ho1
 subst e_
 exact QG s1.1 (Qf (Wi rfl Wh) (WD rfl WC) (Wz rfl Wy) rfl (Nat.zero_le _) rfl rfl rfl (WU rfl rfl WR) rfl rfl) h0
 intro o14 h0
 refine QB <| Q1 <| Q2 <| Q0 <| Wn rfl rfl rfl <| Wo rfl rfl rfl <| Q3 <| Q1 <| Qz ?_
 have e := Wk h0; subst e
 exact QO (fun _ _ h => h) rfl (Qo rfl .nil) (.cons (.one (.app _ _ _)) .nil)
 replace h0 := Qr c13 h0
 refine Qi <| Qj <| Q1 <| Q2 <| Q0 <| Wo rfl rfl rfl <| Q3 <| Q1 <| Qz ?_
 have e := Wk h0; subst e
 exact QO (fun _ _ h => h) rfl (Qo rfl .nil) (.cons (.one (.nil _)) .nil)
def m72f9_l0 (a1 : Tm) (rc : (List U3) × Tm → Option ((List U3))) (s1 : (List U3) × Int) : Option (LO ((List U3) × Int) (((List U3)))) :=
 cond (decide (s1.2 < (a1.kids.length : Int)))
   (Option.bind (Ja a1.kids s1.2) fun (x5 : Tm) =>
 Option.bind (rc (s1.1, x5)) fun (x6 : (List U3)) =>
 some (.next (x6, (QZ (s1.2 + 1)))))
   (some (.done s1.1))
def m72f9s (rc : (List U3) × Tm → Option ((List U3))) (a0 : List U3) (a1 : Tm) : Option ((List U3)) :=
 Option.bind (cond (a1.kind == 3)
   (Option.bind (Wf a0 a1.name) fun (x3 : Bool) =>
 some (!x3))
   (some false)) (fun (v1 : Bool) => Option.bind (cond v1
   (Qy (Nat.ble (a0.length + ([a1.name]).length) 1000000000)
 (some (a0 ++ ([a1.name]))))
   (some a0)) (fun (v2 : (List U3)) => Option.bind (Qw (m72f9_l0 a1 rc) QF (v2, 0)) (fun (o3 : (List U3)) => some o3)))
def m72f9F (rc : (List U3) × Tm → Option ((List U3))) (u : (List U3) × Tm) : Option ((List U3)) := m72f9s rc u.1 u.2
def m72f9 (a0 : List U3) (a1 : Tm) : Option ((List U3)) := Yb m72f9F QF (a0, a1)
def m62f8_l0 (a0 : Tm) (s2 : (List U3) × Int) : Option (LO ((List U3) × Int) (((List U3)))) :=
 cond (decide (s2.2 < (a0.kids.length : Int)))
   (Option.bind (Ja a0.kids s2.2) fun (x7 : Tm) =>
 Option.bind (m72f9 s2.1 x7) fun (x8 : (List U3)) =>
 some (.next (x8, (QZ (s2.2 + 1)))))
   (some (.done s2.1))
def GX (a0 : Tm) : Option ((List U3)) :=
 Option.bind (Option.bind (cond (a0.kind == 3)
   (Option.bind (Wf ([] : List U3) a0.name) fun (x5 : Bool) =>
 some (!x5))
   (some false)) (fun (v3 : Bool) => Option.bind (cond v3
   (Qy (Nat.ble ([a0.name]).length 1000000000)
 (some ([a0.name])))
   (some ([] : List U3))) (fun (v4 : (List U3)) => Option.bind (Qw (m62f8_l0 a0) QF (v4, 0)) (fun (o5 : (List U3)) => some o5)))) (fun (y1 : (List U3)) => some y1)
def m63f10_l0 (a0 : Tr) (rc : Tr × (List U3) → Option ((List U3))) (s1 : (List U3) × Int) : Option (LO ((List U3) × Int) (((List U3)))) :=
 cond (decide (s1.2 < (a0.branches.length : Int)))
   (Option.bind (Ja a0.branches s1.2) fun (x6 : U4) =>
 Qy (Nat.ble (s1.1.length + ([x6.ctor]).length) 1000000000)
 (Option.bind (Ja a0.branches s1.2) fun (x8 : U4) =>
 cond (!x8.absurd)
   (Option.bind (Ja a0.branches s1.2) fun (x10 : U4) =>
 Option.bind (rc (x10.tree, (s1.1 ++ ([x6.ctor])))) fun (x11 : (List U3)) =>
 some (.next (x11, (QZ (s1.2 + 1)))))
   (some (.next ((s1.1 ++ ([x6.ctor])), (QZ (s1.2 + 1)))))))
   (some (.done s1.1))
def m63f10s (rc : Tr × (List U3) → Option ((List U3))) (a0 : Tr) (a1 : List U3) : Option ((List U3)) :=
 cond (a0.kind == 0)
   (Option.bind (GX a0.body) fun (x2 : (List U3)) =>
 Qy (Nat.ble (a1.length + x2.length) 1000000000)
 (some (a1 ++ x2)))
   (Option.bind (Qw (m63f10_l0 a0 rc) QF (a1, 0)) (fun (o4 : (List U3)) => some o4))
def m63f10F (rc : Tr × (List U3) → Option ((List U3))) (u : Tr × (List U3)) : Option ((List U3)) := m63f10s rc u.1 u.2
def m63f10 (a0 : Tr) (a1 : List U3) : Option ((List U3)) := Yb m63f10F QF (a0, a1)
def m47_l0 (a0 : Dcl) (s1 : (List U3) × Int) : Option (LO ((List U3) × Int) (((List U3)))) :=
 cond (decide (s1.2 < (a0.ctors.length : Int)))
   (Option.bind (Ja a0.ctors s1.2) fun (x6 : Ctr) =>
 Option.bind (GX x6.ty) fun (x7 : (List U3)) =>
 Qy (Nat.ble (s1.1.length + x7.length) 1000000000)
 (some (.next ((s1.1 ++ x7), (QZ (s1.2 + 1))))))
   (some (.done s1.1))
def m47_l1 (a0 : Dcl) (s1 : (List U3) × Int) : Option (LO ((List U3) × Int) (((List U3)))) :=
 cond (decide (s1.2 < (a0.rcr.rules.length : Int)))
   (Option.bind (Ja a0.rcr.rules s1.2) fun (x9 : Tm) =>
 Option.bind (GX x9) fun (x10 : (List U3)) =>
 Qy (Nat.ble (s1.1.length + x10.length) 1000000000)
 (some (.next ((s1.1 ++ x10), (QZ (s1.2 + 1))))))
   (some (.done s1.1))
def m47_l2 (a0 : Dcl) (s1 : (List U3) × Int) : Option (LO ((List U3) × Int) (((List U3)))) :=
 cond (decide (s1.2 < (a0.funs.length : Int)))
   (Option.bind (Ja a0.funs s1.2) fun (x10 : Fn) =>
 Option.bind (GX x10.ty) fun (x11 : (List U3)) =>
 Qy (Nat.ble (s1.1.length + x11.length) 1000000000)
 (some (.next ((s1.1 ++ x11), (QZ (s1.2 + 1))))))
   (some (.done s1.1))
def m47_l3 (a0 : Dcl) (s1 : (List U3) × Int) : Option (LO ((List U3) × Int) (((List U3)))) :=
 cond (decide (s1.2 < (a0.funs.length : Int)))
   (Option.bind (Ja a0.funs s1.2) fun (x11 : Fn) =>
 Option.bind (m63f10 x11.tree s1.1) fun (x12 : (List U3)) =>
 some (.next (x12, (QZ (s1.2 + 1)))))
   (some (.done s1.1))
def m47_l4 (o9 : (List U3)) (x10 : (List U3)) (s1 : (List U3) × Int) : Option (LO ((List U3) × Int) (((List U3)))) :=
 cond (decide (s1.2 < (o9.length : Int)))
   (Option.bind (Option.bind (Ja o9 s1.2) fun (x14 : U3) =>
 Option.bind (m64 x10 x14) fun (x15 : Bool) =>
 cond (!x15)
   (Option.bind (Ja o9 s1.2) fun (x17 : U3) =>
 Option.bind (m64 s1.1 x17) fun (x18 : Bool) =>
 some (!x18))
   (some false)) (fun (v13 : Bool) => cond v13
   (Option.bind (Ja o9 s1.2) fun (x15 : U3) =>
 Qy (Nat.ble (s1.1.length + ([x15]).length) 1000000000)
 (some (.next ((s1.1 ++ ([x15])), (QZ (s1.2 + 1))))))
   (some (.next (s1.1, (QZ (s1.2 + 1)))))))
   (some (.done s1.1))
def m47 (a0 : Dcl) : Option ((List U3)) :=
 Option.bind (GX a0.ty) fun (x1 : (List U3)) =>
 Option.bind (GX a0.value) fun (x2 : (List U3)) =>
 Qy (Nat.ble (x1.length + x2.length) 1000000000)
 (Option.bind (Qw (m47_l0 a0) QF ((x1 ++ x2), 0)) (fun (o4 : (List U3)) => Option.bind (GX a0.rcr.ty) fun (x5 : (List U3)) =>
 Qy (Nat.ble (o4.length + x5.length) 1000000000)
 (Option.bind (Qw (m47_l1 a0) QF ((o4 ++ x5), 0)) (fun (o7 : (List U3)) => Option.bind (Qw (m47_l2 a0) QF (o7, 0)) (fun (o8 : (List U3)) => Option.bind (Qw (m47_l3 a0) QF (o8, 0)) (fun (o9 : (List U3)) => Option.bind (W0 a0) fun (x10 : (List U3)) =>
 Option.bind (Qw (m47_l4 o9 x10) QF (([] : List U3), 0)) (fun (o11 : (List U3)) => some o11)))))))
end Go.Proofs.Ytijcchddnnnmdaa
namespace Go.Proofs.Ytijcchddnnnmdaa
open Go.RowKit
set_option linter.unusedSimpArgs false
set_option linter.unusedVariables false
set_option linter.unusedSectionVars false
theorem w64_id {n : Int} (h1 : -9223372036854775808 ≤ n) (h2 : n ≤ 9223372036854775807) : QZ n = n := IntWalk.i64_in n ⟨h1, h2⟩
theorem w64_nx {k : Nat} (h : k ≤ 1000000000) : QZ ((k : Int) + 1) = ((k + 1 : Nat) : Int) := by rw [w64_id (by omega) (by omega)]; rfl
theorem X4 {α : Type} {l : List α} {k : Nat} {x : α} (h : l[k]? = some x) : Ja l (k : Int) = some x := h
theorem QY {α : Type} (a : List α) (x : α) (b : List α) : Ja (a ++ x :: b) (a.length : Int) = some x := by
  show (a ++ x :: b)[a.length]? = some x
  simp
theorem Jd {α : Type} (a : List α) (x : α) (b : List α) : decide ((a.length : Int) < ((a ++ x :: b).length : Int)) = true := by
  rw [decide_eq_true_eq, List.length_append, List.length_cons]; omega
theorem Z7 {α : Type} {l a b : List α} {x : α} (h : l = a ++ x :: b) : a.length < l.length := by rw [h, List.length_append, List.length_cons]; omega
theorem beqI (a b : Int) : (a == b) = decide (a = b) := by
  by_cases h : a = b
  · rw [decide_eq_true h]; exact beq_iff_eq.2 h
  · rw [decide_eq_false h, Bool.eq_false_iff]; exact fun h' => h (beq_iff_eq.1 h')
theorem Jm {α : Type} (a : List α) : decide ((a.length : Int) < (a.length : Int)) = false := by simp
theorem Jq {α : Type} {a b : Nat} {x : Option α} (h : a ≤ b) : Qy (Nat.ble a b) x = x := by
  rw [Nat.ble_eq_true_of_le h]; rfl
theorem YG {α : Type} {a b : Nat} {x : Option α} (h : a = b) : Qy (Nat.beq a b) x = x := by
  subst h; rw [Nat.beq_refl]; rfl
theorem Jx {α σ τ β : Type} {step : τ → Option (LO τ β)} (l : List α) (mk : Int → σ → τ) (I : List α → σ → Prop) (Q : β → Prop) (hlen : l.length ≤ 900000000)
    (hin : ∀ (a : List α) (x : α) (b : List α) (s : σ), l = a ++ x :: b → I a s →
      (∃ r, step (mk (a.length : Int) s) = some (.done r) ∧ Q r) ∨ ∃ s', step (mk (a.length : Int) s) = some (.next (mk (QZ ((a.length : Int) + 1)) s')) ∧ I (a ++ [x]) s')
    (hout : ∀ s, I l s → ∃ r, step (mk (l.length : Int) s) = some (.done r) ∧ Q r) (s0 : σ) (h0 : I [] s0) : ∃ r, Qw step QF (mk 0 s0) = some r ∧ Q r := by
  have key : ∀ (b a : List α) (s : σ) (n : Nat), l = a ++ b → b.length < n → I a s → ∃ r, Qw step n (mk (a.length : Int) s) = some r ∧ Q r := by
    intro b
    induction b with
    | nil =>
      intro a s n hl hn hI
      rw [List.append_nil] at hl
      subst hl
      obtain ⟨r, h1, h2⟩ := hout s hI
      cases n with
      | zero => omega
      | succ n => exact ⟨r, by simp only [Qw, h1], h2⟩
    | cons x b ih =>
      intro a s n hl hn hI
      cases n with
      | zero => omega
      | succ n =>
        rcases hin a x b s hl hI with ⟨r, h1, h2⟩ | ⟨s', h1, h2⟩
        · exact ⟨r, by simp only [Qw, h1], h2⟩
        · have hal : a.length ≤ 900000000 := by rw [hl, List.length_append] at hlen; omega
          rw [w64_nx (by omega)] at h1
          obtain ⟨r, h3, h4⟩ := ih (a ++ [x]) s' n (by rw [hl, List.append_assoc]; rfl) (by simp only [List.length_cons] at hn; omega) h2
          refine ⟨r, ?_, h4⟩
          simp only [Qw, h1]
          rw [List.length_append] at h3
          exact h3
  exact key l [] s0 QF rfl (by unfold QF; omega) h0
theorem Zz {α σ τ β : Type} {step : τ → Option (LO τ β)} (l : List α) (mk : Int → σ → τ) (f : σ → α → σ) (s0 : σ) (fin : β) (hlen : l.length ≤ 900000000)
    (hin : ∀ (a : List α) (x : α) (b : List α), l = a ++ x :: b → step (mk (a.length : Int) (a.foldl f s0)) = some (.next (mk (QZ ((a.length : Int) + 1)) (f (a.foldl f s0) x))))
    (hout : step (mk (l.length : Int) (l.foldl f s0)) = some (.done fin)) : Qw step QF (mk 0 s0) = some fin := by
  obtain ⟨r, h1, h2⟩ := Jx (step := step) l mk (fun a s => s = a.foldl f s0) (fun r => r = fin) hlen (fun a x b s hl hs => .inr ⟨f (a.foldl f s0) x, by rw [hs]; exact hin a x b hl, by rw [List.foldl_append]; rfl⟩)
    (fun s hs => ⟨fin, by rw [hs]; exact hout, rfl⟩) s0 rfl
  rw [h1, h2]
section
variable {κ β : Type} [MK κ] [MV β]
theorem gmFind_shift (k : κ) : ∀ (l : List (κ × β × Nat)) (i : Nat), (JX k l i).map (·.2) = (JX k l 0).map (·.2)
  | [], i => rfl
  | e :: l, i => by
    simp only [JX]
    cases (k == e.1) with
    | true => rfl
    | false => simp only [cond_false]; rw [gmFind_shift k l (i + 1), gmFind_shift k l (0 + 1)]
theorem gmFind_idx (k : κ) : ∀ (l : List (κ × β × Nat)) (i : Nat), ∀ j v, JX k l i = some (j, v) → ∃ n e, j = i + n ∧ l[n]? = some e ∧ (k == e.1) = true ∧ e.2.1 = v
  | [], i, j, v, h => by cases h
  | e :: l, i, j, v, h => by
    simp only [JX] at h
    cases hk : (k == e.1) with
    | true => rw [hk] at h; cases h; exact ⟨0, e, rfl, rfl, hk, rfl⟩
    | false =>
      rw [hk] at h
      obtain ⟨n, e', h1, h2, h3, h4⟩ := gmFind_idx k l (i + 1) j v h
      exact ⟨n + 1, e', by omega, h2, h3, h4⟩
theorem gmGet_nil (k : κ) : Zi (gmNil : Qh κ β) k = none := rfl
end
section
variable {β : Type} [MV β]
theorem Kn (k : U3) (e : U3 × β × Nat) (l : List (U3 × β × Nat)) (i : Nat) : (JX k (e :: l) i).map (·.2) = if k = e.1 then some e.2.1 else (JX k l 0).map (·.2) := by
  simp only [JX]
  by_cases h : k = e.1
  · rw [if_pos h, show (k == e.1) = true from beq_iff_eq.2 h]; rfl
  · rw [if_neg h, show (k == e.1) = false from by rw [Bool.eq_false_iff]; exact fun h' => h (beq_iff_eq.1 h')]
    simp only [cond_false]; exact gmFind_shift k l (i + 1)
theorem gf_app (k : U3) (x : U3 × β × Nat) : ∀ (l : List (U3 × β × Nat)) (i : Nat), (JX k (l ++ [x]) i).map (·.2) = match (JX k l 0).map (·.2) with
    | some v => some v
    | none => if k = x.1 then some x.2.1 else none
  | [], i => by rw [List.nil_append, Kn]; rfl
  | e :: l, i => by
    rw [List.cons_append, Kn, Kn]
    by_cases h : k = e.1
    · rw [if_pos h, if_pos h]
    · rw [if_neg h, if_neg h]; exact gf_app k x l 0
theorem gf_mod (k k' : U3) (v : β) : ∀ (l : List (U3 × β × Nat)) (i j : Nat) (u : β), JX k l i = some (i + j, u) → (JX k' (l.modify j fun e => (k, v, e.2.2)) 0).map (·.2) = if k' = k then some v else (JX k' l 0).map (·.2)
  | [], i, j, u, h => by cases h
  | e :: l, i, j, u, h => by
    simp only [JX] at h
    by_cases hk : k = e.1
    · rw [show (k == e.1) = true from beq_iff_eq.2 hk] at h
      simp only [cond_true, Option.some.injEq, Prod.mk.injEq] at h
      obtain rfl : j = 0 := by omega
      rw [show (e :: l).modify 0 (fun e => (k, v, e.2.2)) = (k, v, e.2.2) :: l from rfl, Kn, Kn, ← hk]
      by_cases h2 : k' = k <;> simp [h2]
    · rw [show (k == e.1) = false from by rw [Bool.eq_false_iff]; exact fun h' => hk (beq_iff_eq.1 h')] at h
      simp only [cond_false] at h
      cases j with
      | zero =>
        obtain ⟨n, e', h1, -⟩ := gmFind_idx k l (i + 1) _ u h
        omega
      | succ j =>
        have ih := gf_mod k k' v l (i + 1) j u (by rw [h]; congr 2; omega)
        rw [show (e :: l).modify (j + 1) (fun e => (k, v, e.2.2)) = e :: l.modify j (fun e => (k, v, e.2.2)) from rfl, Kn, Kn, ih]
        by_cases h2 : k' = k
        · rw [if_pos h2, if_pos h2, if_neg (fun h3 => hk (h2 ▸ h3))]
        · rw [if_neg h2, if_neg h2]
theorem gmGet_set (M : Qh U3 β) (k k' : U3) (v : β) : Zi (JY M k v) k' = if k' = k then some v else Zi M k' := by
  unfold JY
  split
  · rename_i j u h
    exact gf_mod k k' v M.1 0 j u (by rw [h, Nat.zero_add])
  · rename_i h
    show (JX k' (M.1 ++ [(k, v, M.2)]) 0).map (·.2) = _
    rw [gf_app]
    by_cases h2 : k' = k
    · subst h2; rw [h]; simp
    · rw [if_neg h2, if_neg h2, show Zi M k' = (JX k' M.1 0).map (·.2) from rfl]
      cases (JX k' M.1 0).map (·.2) with
      | none => rfl
      | some v => rfl
end
def GJ (own out : List U3) (s : U3) : List U3 := if s ∈ own ∨ s ∈ out then out else out ++ [s]
def Ye (own out l : List U3) : List U3 := l.foldl (GJ own) out
theorem addN_len (own out : List U3) (s : U3) : (GJ own out s).length ≤ out.length + 1 := by
  unfold GJ; split
  · omega
  · simp
theorem YJ (own out a b : List U3) : Ye own out (a ++ b) = Ye own (Ye own out a) b := by unfold Ye; rw [List.foldl_append]
theorem Yx (own : List U3) : ∀ (l out : List U3), (Ye own out l).length ≤ out.length + l.length
  | [], out => Nat.le_refl _
  | s :: l, out => by
    have h1 := addN_len own out s
    have h2 := Yx own l (GJ own out s)
    show (Ye own (GJ own out s) l).length ≤ _
    simp only [List.length_cons]; omega
def Met (own out : List U3) (M : Qh U3 Bool) : Prop := ∀ s, Je M s = decide (s ∈ own ∨ s ∈ out)
theorem gmVal_set {β : Type} [MV β] (M : Qh U3 β) (k k' : U3) (v : β) : Je (JY M k v) k' = if k' = k then v else Je M k' := by
  unfold Je
  rw [gmGet_set]
  by_cases h : k' = k <;> simp [h]
theorem Met.nil : Met [] [] gmNil := fun s => by simp [Je, gmGet_nil, MV.z]
theorem Met.set {own out : List U3} {M : Qh U3 Bool} (h : Met own out M) (s : U3) (hs : ¬ (s ∈ own ∨ s ∈ out)) : Met own (out ++ [s]) (JY M s true) := fun x => by
  rw [gmVal_set, h x]
  by_cases e : x = s
  · subst e; simp
  · simp [e]
theorem add_step {own out : List U3} {M : Qh U3 Bool} (h : Met own out M) (s : U3) (hl : out.length < 1000000000) : ∃ M', (cond (!(Je M s)) (Qy (Nat.ble (out.length + ([s]).length) 1000000000) (some ((JY M s true), (out ++ ([s]))))) (some (M, out))) = some (M', GJ own out s) ∧ Met own (GJ own out s) M' := by
  rw [h s]
  unfold GJ
  by_cases e : s ∈ own ∨ s ∈ out
  · refine ⟨M, ?_, ?_⟩
    · rw [decide_eq_true e, if_pos e]; rfl
    · rw [if_pos e]; exact h
  · refine ⟨JY M s true, ?_, ?_⟩
    · rw [decide_eq_false e, if_neg e, Jq (by show out.length + 1 ≤ _; omega)]; rfl
    · rw [if_neg e]; exact h.set s e
theorem YU {α : Type} (f : α → Nat) {x : α} : ∀ {l : List α}, x ∈ l → f x ≤ (l.map f).sum
  | y :: l, h => by
    rw [List.map_cons, List.sum_cons]
    rcases List.mem_cons.1 h with rfl | h
    · omega
    · have := YU f h; omega
def lvz (l : Lvl) : Nat := 1 + (l.vs.map fun _ => 1).sum
def Tm.size : Tm → Nat
  | .mk _ _ n ls ks => 1 + n.length + (ls.map lvz).sum + (ks.attach.map fun k => Tm.size k.1).sum
termination_by t => SizeOf.sizeOf t
decreasing_by
  have := List.sizeOf_lt_of_mem k.2
  simp only [Tm.mk.sizeOf_spec]; omega
theorem Tm.size_eq (t : Tm) : t.size = 1 + t.name.length + (t.levels.map lvz).sum + (t.kids.map Tm.size).sum := by
  cases t
  rw [Tm.size, List.attach_map_val]; rfl
def Tm.cn : Tm → List U3
  | .mk k _ n _ ks => (if k = 3 then [n] else []) ++ (ks.attach.map fun k => Tm.cn k.1).flatten
termination_by t => SizeOf.sizeOf t
decreasing_by
  have := List.sizeOf_lt_of_mem k.2
  simp only [Tm.mk.sizeOf_spec]; omega
theorem Tm.cn_eq (t : Tm) : t.cn = (if t.kind = 3 then [t.name] else []) ++ (t.kids.map Tm.cn).flatten := by
  cases t
  rw [Tm.cn, List.attach_map_val]; rfl
theorem Zm {t k : Tm} (h : k ∈ t.kids) : k.size < t.size := by
  have := YU Tm.size h
  rw [t.size_eq]; omega
theorem Tm.ind {C : Tm → Prop} (h : ∀ t : Tm, (∀ k ∈ t.kids, C k) → C t) (t : Tm) : C t := by
  have : ∀ n (t : Tm), t.size ≤ n → C t := by
    intro n
    induction n with
    | zero => intro t ht; rw [t.size_eq] at ht; omega
    | succ n ih => exact fun t ht => h t fun k hk => ih k (by have := Zm hk; omega)
  exact this _ t (Nat.le_refl _)
theorem Ka {α : Type} (f : α → List U3) (g : α → Nat) : ∀ l : List α, (∀ x ∈ l, (f x).length ≤ g x) → (l.map f).flatten.length ≤ (l.map g).sum
  | [], _ => Nat.le_refl _
  | x :: l, h => by
    simp only [List.map_cons, List.flatten_cons, List.length_append, List.sum_cons]
    have h1 := h x List.mem_cons_self
    have h2 := Ka f g l fun y hy => h y (List.mem_cons_of_mem _ hy)
    omega
theorem Tm.cn_len (t : Tm) : t.cn.length ≤ t.size := by
  induction t using Tm.ind with
  | h t ih =>
    rw [t.cn_eq, t.size_eq, List.length_append]
    have := Ka Tm.cn Tm.size t.kids ih
    have h0 : (if t.kind = 3 then [t.name] else []).length ≤ 1 := by split <;> simp
    omega
theorem kids_len (t : Tm) : t.kids.length < t.size := by
  rw [t.size_eq]
  have : ∀ l : List Tm, l.length ≤ (l.map Tm.size).sum := by
    intro l
    induction l with
    | nil => exact Nat.le_refl _
    | cons x l ih =>
      rw [List.map_cons, List.sum_cons, List.length_cons]
      have := x.size_eq
      omega
  have := this t.kids
  omega
theorem sum_split {α : Type} (f : α → Nat) (a : List α) (x : α) (b : List α) : ((a ++ x :: b).map f).sum = (a.map f).sum + f x + (b.map f).sum := by simp; omega
theorem visit_ok (root : Tm) : ∀ (n : Nat) (t : Tm) (d : Int) (own out : List U3) (M : Qh U3 Bool), t.size ≤ n → Met own out M → out.length + t.size ≤ 900000000 →
    ∃ M', Yb GS n (t, d, M, out, root) = some (true, M', Ye own out t.cn) ∧ Met own (Ye own out t.cn) M'
  | 0, t, d, own, out, M, h, _, _ => by rw [t.size_eq] at h; omega
  | n + 1, t, d, own, out, M, h, hM, hb => by
    show ∃ M', GR (Yb GS n) t d M out root = _ ∧ _
    unfold GR
    have hsz := t.size_eq
    have h1 : ∃ M1, (Option.bind (cond (t.kind == 3) (some (!(Je M t.name))) (some false)) (fun (v4 : Bool) => cond v4
        (Qy (Nat.ble (out.length + ([t.name]).length) 1000000000) (some ((JY M t.name true), (out ++ ([t.name])))))
        (some (M, out)))) = some (M1, Ye own out (if t.kind = 3 then [t.name] else [])) ∧ Met own (Ye own out (if t.kind = 3 then [t.name] else [])) M1 := by
      by_cases hk : t.kind = 3
      · rw [if_pos hk, hk]
        exact add_step hM t.name (by omega)
      · rw [if_neg hk, show (t.kind == 3) = false from beq_eq_false_iff_ne.2 hk]
        exact ⟨M, rfl, hM⟩
    obtain ⟨M1, e1, hM1⟩ := h1
    rw [e1, Option.bind_some]
    have h2 : ∃ v9 : Int, ∀ f : Int → Option (Bool × Qh U3 Bool × List U3), (Option.bind (cond (decide (0 ≤ t.kind)) (some (decide (t.kind < 13))) (some false)) (fun (v8 : Bool) => Option.bind (cond v8
        (Qy (cond (decide (0 ≤ t.kind)) (Nat.blt t.kind.toNat 13) false)
        (Option.bind (Ja ([(-1), (-1), (-1), (-1), (-1), 1, 1, 1, (-1), (-1), (-1), 2, (-1)] : List Int) t.kind) fun (x12 : Int) => some x12))
        (some (-1))) f)) = f v9 := by
      by_cases ha : 0 ≤ t.kind
      · by_cases hb : t.kind < 13
        · obtain ⟨k, hk⟩ := Int.eq_ofNat_of_zero_le ha
          have hk13 : k < 13 := by omega
          obtain ⟨y, hy⟩ : ∃ y, Ja ([(-1), (-1), (-1), (-1), (-1), 1, 1, 1, (-1), (-1), (-1), 2, (-1)] : List Int) t.kind = some y := by
            rw [hk]; exact ⟨_, List.getElem?_eq_getElem (by simpa using hk13)⟩
          refine ⟨y, fun f => ?_⟩
          rw [decide_eq_true ha, decide_eq_true hb, hy]
          simp only [cond_true, Option.bind_some]
          rw [show Nat.blt t.kind.toNat 13 = true from by rw [Nat.blt_eq]; omega]
          rfl
        · refine ⟨-1, fun f => ?_⟩
          rw [decide_eq_true ha, decide_eq_false hb]; rfl
      · refine ⟨-1, fun f => ?_⟩
        rw [decide_eq_false ha]; rfl
    obtain ⟨v9, e2⟩ := h2
    dsimp only
    rw [e2]
    have hlen := kids_len t
    have hl1 : (Ye own out (if t.kind = 3 then [t.name] else [])).length ≤ out.length + 1 := by
      refine Nat.le_trans (Yx own _ out) ?_
      split <;> simp
    have := Jx (step := Zh t v9 d (Yb GS n) root) t.kids (fun i (s : Qh U3 Bool × List U3) => (i, s.1, s.2))
      (fun a s => Met own s.2 s.1 ∧ s.2 = Ye own (Ye own out (if t.kind = 3 then [t.name] else [])) (a.map Tm.cn).flatten)
      (fun r => ∃ M', r = .inl (M', Ye own out t.cn) ∧ Met own (Ye own out t.cn) M') (by omega)
      (fun a x b s hl hs => .inr (by
        obtain ⟨Ms, os⟩ := s
        obtain ⟨hs1, hs2⟩ := hs
        dsimp only at hs1 hs2
        have hx : x ∈ t.kids := by rw [hl]; simp
        have hxs := Zm hx
        have hol : os.length ≤ out.length + 1 + (a.map Tm.size).sum := by
          rw [hs2]
          refine Nat.le_trans (Yx own _ _) ?_
          have := Ka Tm.cn Tm.size a fun y _ => y.cn_len
          omega
        have htot : (t.kids.map Tm.size).sum = (a.map Tm.size).sum + x.size + (b.map Tm.size).sum := by rw [hl, sum_split]
        have hdd : ∃ v13 : Int, ∀ f : Int → Option (LO (Int × (Qh U3 Bool) × (List U3)) (((Qh U3 Bool) × (List U3)) ⊕ ((Bool × (Qh U3 Bool) × (List U3))))), Option.bind (cond ((a.length : Int) == v9) (some (QZ (d + 1))) (some d)) f = f v13 := by
          cases ((a.length : Int) == v9) with
          | true => exact ⟨_, fun f => rfl⟩
          | false => exact ⟨_, fun f => rfl⟩
        obtain ⟨v13, hv13⟩ := hdd
        obtain ⟨M2, e3, hM2⟩ := visit_ok root n x v13 own os Ms (by omega) hs1 (by omega)
        refine ⟨(M2, Ye own os x.cn), ?_, hM2, ?_⟩
        · unfold Zh
          dsimp only
          rw [hl, Jd, QY]
          simp only [cond_true, Option.bind_some]
          rw [hv13, e3]
          rfl
        · rw [hs2, ← YJ]; simp))
      (fun s hs => ⟨.inl (s.1, s.2), by
        unfold Zh
        dsimp only
        rw [Jm]; rfl, s.1, by rw [hs.2, ← YJ, ← t.cn_eq], by rw [t.cn_eq, YJ, ← hs.2]; exact hs.1⟩) (M1, Ye own out (if t.kind = 3 then [t.name] else [])) ⟨hM1, rfl⟩
    obtain ⟨r, e4, M', rfl, hM'⟩ := this
    refine ⟨M', ?_, hM'⟩
    rw [e4]; rfl
def Yq (t : Tm) : List U3 := Ye [] [] t.cn
theorem Z9 (t : Tm) : (Yq t).length ≤ t.size := by
  have h1 := Yx [] t.cn []
  have h2 := t.cn_len
  unfold Yq
  simp only [List.length_nil] at h1
  omega
theorem m74_eq (t : Tm) (h : t.size ≤ 900000000) : W5 t = some (Yq t) := by
  unfold W5
  obtain ⟨M', e, -⟩ := visit_ok t QF t 0 [] [] gmNil (by unfold QF; omega) Met.nil (by simpa using h)
  unfold m98f0
  simp only [Option.bind_some]
  rw [e]; rfl
theorem beqB (a b : U3) : (a == b) = decide (a = b) := by
  by_cases h : a = b
  · rw [decide_eq_true h]; exact beq_iff_eq.2 h
  · rw [decide_eq_false h, Bool.eq_false_iff]; exact fun h' => h (beq_iff_eq.1 h')
end Go.Proofs.Ytijcchddnnnmdaa
namespace Go.Proofs.Ytijcchddnnnmdaa
open Go.RowKit
set_option linter.unusedSimpArgs false
set_option linter.unusedVariables false
set_option linter.unusedSectionVars false
def Tr.size : Tr → Nat
  | .mk _ b _ brs => 1 + b.size + (brs.attach.map fun x => 1 + x.1.ctor.length + Tr.size x.1.tree).sum
termination_by t => SizeOf.sizeOf t
decreasing_by
  have h1 := List.sizeOf_lt_of_mem x.2
  have h2 := BrF.tree_lt x.1
  simp only [Tr.mk.sizeOf_spec]; omega
def Tr.cn : Tr → List U3
  | .mk k b _ brs => if k = 0 then Yq b else (brs.attach.map fun x => x.1.ctor :: (if x.1.absurd then [] else Tr.cn x.1.tree)).flatten
termination_by t => SizeOf.sizeOf t
decreasing_by
  have h1 := List.sizeOf_lt_of_mem x.2
  have h2 := BrF.tree_lt x.1
  simp only [Tr.mk.sizeOf_spec]; omega
def bsz (b : U4) : Nat := 1 + b.ctor.length + b.tree.size
def XB (b : U4) : List U3 := b.ctor :: (if b.absurd then [] else b.tree.cn)
theorem Tr.size_eq (t : Tr) : t.size = 1 + t.body.size + (t.branches.map bsz).sum := by
  cases t with
  | mk k b v brs =>
    rw [Tr.size]
    show _ = 1 + b.size + (brs.map bsz).sum
    rw [← List.attach_map_val (l := brs) (f := bsz)]; rfl
theorem Tr.cn_eq (t : Tr) : t.cn = if t.kind = 0 then Yq t.body else (t.branches.map XB).flatten := by
  cases t with
  | mk k b v brs =>
    rw [Tr.cn]
    show _ = if k = 0 then Yq b else (brs.map XB).flatten
    rw [← List.attach_map_val (l := brs) (f := XB)]; rfl
theorem Tr.kid_size {t : Tr} {b : U4} (h : b ∈ t.branches) : b.tree.size < t.size := by
  have := YU bsz h
  have e : bsz b = 1 + b.ctor.length + b.tree.size := rfl
  rw [t.size_eq]; omega
theorem Tr.ind {C : Tr → Prop} (h : ∀ t : Tr, (∀ b ∈ t.branches, C b.tree) → C t) (t : Tr) : C t := by
  have : ∀ n (t : Tr), t.size ≤ n → C t := by
    intro n
    induction n with
    | zero => intro t ht; rw [t.size_eq] at ht; omega
    | succ n ih => exact fun t ht => h t fun k hk => ih k.tree (by have := Tr.kid_size hk; omega)
  exact this _ t (Nat.le_refl _)
theorem Tr.cn_len (t : Tr) : t.cn.length ≤ t.size := by
  induction t using Tr.ind with
  | h t ih =>
    rw [t.cn_eq, t.size_eq]
    split
    · have := Z9 t.body; omega
    · have := Ka XB bsz t.branches fun b hb => by
        have := ih b hb
        unfold XB bsz
        rw [List.length_cons]
        split
        · simp; omega
        · omega
      omega
theorem Zd {α : Type} (g : α → Nat) (hg : ∀ x, 1 ≤ g x) : ∀ l : List α, l.length ≤ (l.map g).sum
  | [] => Nat.le_refl _
  | x :: l => by
    rw [List.map_cons, List.sum_cons, List.length_cons]
    have := hg x
    have := Zd g hg l
    omega
theorem branches_len (t : Tr) : t.branches.length < t.size := by
  have := Zd bsz (fun b => by unfold bsz; omega) t.branches
  rw [t.size_eq]; omega
def csz (c : Ctr) : Nat := 1 + c.name.length + c.ty.size
def fsz (f : Fn) : Nat := 1 + f.name.length + f.ty.size + f.tree.size
def Dcl.size (d : Dcl) : Nat := 1 + d.name.length + d.ty.size + d.value.size + (d.ctors.map csz).sum + d.rcr.ty.size + (d.rcr.rules.map Tm.size).sum + (d.funs.map fsz).sum
theorem ZA (d : Dcl) : d.ctors.length < d.size := by
  have := Zd csz (fun b => by unfold csz; omega) d.ctors
  unfold Dcl.size; omega
theorem ZJ (d : Dcl) : d.funs.length < d.size := by
  have := Zd fsz (fun b => by unfold fsz; omega) d.funs
  unfold Dcl.size; omega
theorem rules_len (d : Dcl) : d.rcr.rules.length < d.size := by
  have := Zd Tm.size (fun b => by rw [b.size_eq]; omega) d.rcr.rules
  unfold Dcl.size; omega
def Ju (d : Dcl) : List U3 :=
  if d.kind = 0 ∨ d.kind = 1 ∨ d.kind = 2 then [d.name] else
  if d.kind = 3 then (d.name :: d.ctors.map (·.name)) ++ [d.name ++ [46, 114, 101, 99]] else
  if d.kind = 4 then d.funs.map (·.name) else []
theorem names_len (d : Dcl) : (Ju d).length ≤ d.size + 1 := by
  have h1 := ZA d
  have h2 := ZJ d
  unfold Ju
  split
  · simp
  · split
    · simp; omega
    · split
      · simp; omega
      · simp
theorem Yz {α : Type} (f : α → U3) : ∀ (l : List α) (s : List U3), l.foldl (fun s x => s ++ [f x]) s = s ++ l.map f
  | [], s => by simp
  | x :: l, s => by rw [List.foldl_cons, Yz f l]; simp
theorem kinds_eq (k : Int) : (cond (k == 0) (some (k == 0)) (cond (k == 1) (some (k == 1)) (some (k == 2)))) = some (decide (k = 0 ∨ k = 1 ∨ k = 2)) := by
  by_cases h0 : k = 0
  · subst h0; rfl
  · by_cases h1 : k = 1
    · subst h1; rfl
    · by_cases h2 : k = 2
      · subst h2; rfl
      · simp [beqI, h0, h1, h2]
theorem m37_eq (d : Dcl) (h : d.size ≤ 900000000) : Xt d = some (Ju d) := by
  have h1 := ZA d
  have h2 := ZJ d
  have hn : d.name.length < d.size := by unfold Dcl.size; omega
  unfold Xt
  rw [kinds_eq, Option.bind_some]
  unfold Ju
  by_cases hk : d.kind = 0 ∨ d.kind = 1 ∨ d.kind = 2
  · rw [if_pos hk, decide_eq_true hk]; rfl
  rw [if_neg hk, decide_eq_false hk]
  by_cases h3 : d.kind = 3
  · rw [if_pos h3, h3, Zz (step := G2 d) d.ctors (fun i (s : List U3) => (s, i)) (fun s c => s ++ [c.name]) [d.name] ((d.name :: d.ctors.map (·.name))) (by omega)
      (fun a x b hl => by
        rw [Yz]
        unfold G2
        dsimp only
        have : a.length < d.ctors.length := Z7 hl
        rw [hl, Jd, QY]
        simp only [cond_true, Option.bind_some]
        rw [Jq (by simp; omega)])
      (by unfold G2; dsimp only; rw [Jm, Yz]; rfl)]
    simp only [cond_false, Option.bind_some, beq_self_eq_true, cond_true]
    rw [Jq (by simp), Jq (by simp; omega), Jq (by simp; omega)]
  rw [if_neg h3, show (d.kind == 3) = false from beq_eq_false_iff_ne.2 h3]
  by_cases h4 : d.kind = 4
  · rw [if_pos h4, h4, Zz (step := G1 d) d.funs (fun i (s : List U3) => (s, i)) (fun s c => s ++ [c.name]) [] (d.funs.map (·.name)) (by omega)
      (fun a x b hl => by
        rw [Yz]
        unfold G1
        dsimp only
        have : a.length < d.funs.length := Z7 hl
        rw [hl, Jd, QY]
        simp only [cond_true, Option.bind_some]
        rw [Jq (by simp; omega)])
      (by unfold G1; dsimp only; rw [Jm, Yz]; rfl)]
    rfl
  rw [if_neg h4, show (d.kind == 4) = false from beq_eq_false_iff_ne.2 h4]; rfl
theorem m18_eq (d : Dcl) (h : d.size ≤ 900000000) : W0 d = some (Ju d) := by
  have h1 := ZA d
  have h2 := ZJ d
  have hn : d.name.length < d.size := by unfold Dcl.size; omega
  unfold W0
  rw [kinds_eq, Option.bind_some]
  unfold Ju
  by_cases hk : d.kind = 0 ∨ d.kind = 1 ∨ d.kind = 2
  · rw [if_pos hk, decide_eq_true hk]; rfl
  rw [if_neg hk, decide_eq_false hk]
  by_cases h3 : d.kind = 3
  · rw [if_pos h3, h3, Zz (step := G5 d) d.ctors (fun i (s : List U3) => (s, i)) (fun s c => s ++ [c.name]) [d.name] ((d.name :: d.ctors.map (·.name))) (by omega)
      (fun a x b hl => by
        rw [Yz]
        unfold G5
        dsimp only
        have : a.length < d.ctors.length := Z7 hl
        rw [hl, Jd, QY]
        simp only [cond_true, Option.bind_some]
        rw [Jq (by simp; omega)])
      (by unfold G5; dsimp only; rw [Jm, Yz]; rfl)]
    simp only [cond_false, Option.bind_some, beq_self_eq_true, cond_true]
    rw [Jq (by simp; omega), Jq (by simp; omega)]
  rw [if_neg h3, show (d.kind == 3) = false from beq_eq_false_iff_ne.2 h3]
  by_cases h4 : d.kind = 4
  · rw [if_pos h4, h4, Zz (step := G4 d) d.funs (fun i (s : List U3) => (s, i)) (fun s c => s ++ [c.name]) [] (d.funs.map (·.name)) (by omega)
      (fun a x b hl => by
        rw [Yz]
        unfold G4
        dsimp only
        have : a.length < d.funs.length := Z7 hl
        rw [hl, Jd, QY]
        simp only [cond_true, Option.bind_some]
        rw [Jq (by simp; omega)])
      (by unfold G4; dsimp only; rw [Jm, Yz]; rfl)]
    rfl
  rw [if_neg h4, show (d.kind == 4) = false from beq_eq_false_iff_ne.2 h4]; rfl
theorem m52f3_eq (l own out : List U3) (M : Qh U3 Bool) (a3 : List Tm) (a4 : Dcl) (hM : Met own out M) (h : out.length + l.length ≤ 900000000) : ∃ M', Xm l M out a3 a4 = some (M', Ye own out l) ∧ Met own (Ye own out l) M' := by
  unfold Xm
  obtain ⟨r, e, M', rfl, hM'⟩ := Jx (step := K4 l a3 a4) l (fun i (s : Qh U3 Bool × List U3) => (i, s.1, s.2)) (fun a s => Met own s.2 s.1 ∧ s.2 = Ye own out a) (fun r => ∃ M', r = (M', Ye own out l) ∧ Met own (Ye own out l) M') (by omega)
    (fun a x b s hl hs => .inr (by
      obtain ⟨Ms, os⟩ := s
      obtain ⟨hs1, hs2⟩ := hs
      dsimp only at hs1 hs2
      have hol := Yx own a out
      rw [← hs2] at hol
      have : a.length < l.length := Z7 hl
      obtain ⟨M1, e1, hM1⟩ := add_step hs1 x (by omega)
      refine ⟨(M1, GJ own os x), ?_, hM1, ?_⟩
      · unfold K4
        dsimp only
        rw [hl, Jd, QY]
        simp only [cond_true, Option.bind_some]
        unfold m89f4
        rw [e1]; rfl
      · rw [YJ, ← hs2]; rfl))
    (fun s hs => ⟨(s.1, s.2), by unfold K4; dsimp only; rw [Jm]; rfl, s.1, by rw [hs.2], by rw [← hs.2]; exact hs.1⟩) (M, out) ⟨hM, rfl⟩
  rw [e]
  exact ⟨M', rfl, hM'⟩
theorem tvisit_ok (a3 : List Tm) (a4 : Dcl) : ∀ (n : Nat) (t : Tr) (own out : List U3) (M : Qh U3 Bool), t.size ≤ n → Met own out M → out.length + t.size ≤ 900000000 →
    ∃ M', Yb GU n (t, M, out, a3, a4) = some (true, M', Ye own out t.cn) ∧ Met own (Ye own out t.cn) M'
  | 0, t, own, out, M, h, _, _ => by rw [t.size_eq] at h; omega
  | n + 1, t, own, out, M, h, hM, hb => by
    show ∃ M', GT (Yb GU n) t M out a3 a4 = _ ∧ _
    unfold GT
    have hsz := t.size_eq
    have hlen := branches_len t
    rw [t.cn_eq]
    by_cases hk : t.kind = 0
    · rw [if_pos hk, hk]
      have := Z9 t.body
      rw [m74_eq _ (by omega)]
      obtain ⟨M', e, hM'⟩ := m52f3_eq (Yq t.body) own out M a3 a4 hM (by omega)
      refine ⟨M', ?_, hM'⟩
      simp only [Option.bind_some, beq_self_eq_true, cond_true]
      unfold m31f2
      rw [e]; rfl
    · rw [if_neg hk, show (t.kind == 0) = false from beq_eq_false_iff_ne.2 hk, cond_false]
      obtain ⟨r, e, M', rfl, hM'⟩ := Jx (step := ZF t (Yb GU n) a3 a4) t.branches (fun i (s : Qh U3 Bool × List U3) => (i, s.1, s.2)) (fun a s => Met own s.2 s.1 ∧ s.2 = Ye own out (a.map XB).flatten)
        (fun r => ∃ M', r = .inl (M', Ye own out (t.branches.map XB).flatten) ∧ Met own (Ye own out (t.branches.map XB).flatten) M') (by omega)
        (fun a x b s hl hs => .inr (by
          obtain ⟨Ms, os⟩ := s
          obtain ⟨hs1, hs2⟩ := hs
          dsimp only at hs1 hs2
          have hx : x ∈ t.branches := by rw [hl]; simp
          have hxs := Tr.kid_size hx
          have hol : os.length ≤ out.length + (a.map bsz).sum := by
            rw [hs2]
            refine Nat.le_trans (Yx own _ _) ?_
            have := Ka XB bsz a fun y _ => by
              have := y.tree.cn_len
              unfold XB bsz
              rw [List.length_cons]
              split
              · simp; omega
              · omega
            omega
          have htot : (t.branches.map bsz).sum = (a.map bsz).sum + bsz x + (b.map bsz).sum := by rw [hl, sum_split]
          have hbx : bsz x = 1 + x.ctor.length + x.tree.size := rfl
          obtain ⟨M1, e1, hM1⟩ := add_step hs1 x.ctor (by omega)
          have hadd := addN_len own os x.ctor
          cases ha : x.absurd with
          | true =>
            refine ⟨(M1, GJ own os x.ctor), ?_, hM1, ?_⟩
            · unfold ZF
              dsimp only
              rw [hl, Jd, QY]
              simp only [cond_true, Option.bind_some]
              rw [e1, ha]; rfl
            · rw [List.map_append, List.flatten_append, YJ, ← hs2]
              simp only [List.map_cons, List.map_nil, List.flatten_cons, List.flatten_nil, List.append_nil, XB, ha, if_true]; rfl
          | false =>
            obtain ⟨M2, e2, hM2⟩ := tvisit_ok a3 a4 n x.tree own (GJ own os x.ctor) M1 (by omega) hM1 (by omega)
            refine ⟨(M2, Ye own (GJ own os x.ctor) x.tree.cn), ?_, hM2, ?_⟩
            · unfold ZF
              dsimp only
              rw [hl, Jd, QY]
              simp only [cond_true, Option.bind_some]
              rw [e1, ha]
              simp only [Option.bind_some, Bool.not_false, cond_true]
              rw [e2]; rfl
            · rw [List.map_append, List.flatten_append, YJ, ← hs2]
              simp only [List.map_cons, List.map_nil, List.flatten_cons, List.flatten_nil, List.append_nil, XB, ha]; rfl))
        (fun s hs => ⟨.inl (s.1, s.2), by unfold ZF; dsimp only; rw [Jm]; rfl, s.1, by rw [hs.2], by rw [← hs.2]; exact hs.1⟩) (M, out) ⟨hM, rfl⟩
      rw [e]
      exact ⟨M', rfl, hM'⟩
def Jr (d : Dcl) : List Tm := [d.ty, d.value] ++ d.ctors.map (·.ty) ++ [d.rcr.ty] ++ d.rcr.rules ++ d.funs.map (·.ty)
def K3 (d : Dcl) : List U3 := ((Jr d).map Yq).flatten ++ (d.funs.map fun f => f.tree.cn).flatten
def Kt (d : Dcl) : List U3 := Ye (Ju d) [] (K3 d)
theorem KM {α : Type} (f : α → List U3) (g : α → Nat) (h : ∀ x, (f x).length ≤ g x) (l : List α) : (l.map f).flatten.length ≤ (l.map g).sum := Ka f g l fun x _ => h x
theorem sum_le {α : Type} (f g : α → Nat) (h : ∀ x, f x ≤ g x) : ∀ l : List α, (l.map f).sum ≤ (l.map g).sum
  | [] => Nat.le_refl _
  | x :: l => by
    simp only [List.map_cons, List.sum_cons]
    have := h x
    have := sum_le f g h l
    omega
theorem K1 (d : Dcl) : ((Jr d).map Tm.size).sum + (d.funs.map fun f => f.tree.size).sum < d.size := by
  unfold Jr Dcl.size
  simp only [List.map_append, List.map_cons, List.map_nil, List.sum_append, List.sum_cons, List.sum_nil, List.map_map]
  have h1 := sum_le (Tm.size ∘ fun c : Ctr => c.ty) csz (fun c => by show c.ty.size ≤ csz c; unfold csz; omega) d.ctors
  have h2 : (d.funs.map (Tm.size ∘ fun f : Fn => f.ty)).sum + (d.funs.map fun f => f.tree.size).sum ≤ (d.funs.map fsz).sum := by
    induction d.funs with
    | nil => exact Nat.le_refl _
    | cons f l ih =>
      simp only [List.map_cons, List.sum_cons]
      have : fsz f = 1 + f.name.length + f.ty.size + f.tree.size := rfl
      have : (Tm.size ∘ fun f : Fn => f.ty) f = f.ty.size := rfl
      omega
  omega
theorem terms_len (d : Dcl) : (Jr d).length < d.size := by
  have := K1 d
  have h1 := Zd Tm.size (fun b => by rw [b.size_eq]; omega) (Jr d)
  omega
theorem mentioned_len (d : Dcl) : (K3 d).length < d.size := by
  unfold K3
  rw [List.length_append]
  have h1 := KM Yq Tm.size Z9 (Jr d)
  have h2 := KM (fun f : Fn => f.tree.cn) (fun f => f.tree.size) (fun f => f.tree.cn_len) d.funs
  have := K1 d
  omega
theorem uses_len (d : Dcl) : (Kt d).length < d.size := by
  have := Yx (Ju d) (K3 d) []
  have := mentioned_len d
  unfold Kt
  simp only [List.length_nil] at *
  omega
theorem ZK {α : Type} (f : α → Tm) : ∀ (l : List α) (s : List Tm), l.foldl (fun s x => s ++ [f x]) s = s ++ l.map f
  | [], s => by simp
  | x :: l, s => by rw [List.foldl_cons, ZK f l]; simp
theorem ZD {d : Dcl} {t : Tm} (h : t ∈ Jr d) : t.size < d.size := by
  have := YU Tm.size h
  have := K1 d
  omega
theorem fun_mem {d : Dcl} {f : Fn} (h : f ∈ d.funs) : f.tree.size < d.size := by
  have := YU (fun f : Fn => f.tree.size) h
  have := K1 d
  omega
theorem terms_eq (d : Dcl) (h : d.size ≤ 900000000) : (Option.bind (Qw (Kw d) QF (0, [d.ty, d.value])) (fun (o5 : (List Tm)) => Qy (Nat.ble (o5.length + ([d.rcr.ty]).length) 1000000000)
  (Qy (Nat.ble ((o5 ++ ([d.rcr.ty])).length + d.rcr.rules.length) 1000000000)
  (Option.bind (Qw (Kh d) QF (0, ((o5 ++ ([d.rcr.ty])) ++ d.rcr.rules))) (fun (o8 : (List Tm)) => some o8))))) = some (Jr d) := by
  have h1 := ZA d
  have h2 := ZJ d
  have h3 := rules_len d
  have hsum : d.ctors.length + d.rcr.rules.length + d.funs.length + 3 ≤ d.size := by
    have := terms_len d
    unfold Jr at this
    simp at this
    omega
  rw [Zz (step := Kw d) d.ctors (fun i (s : List Tm) => (i, s)) (fun s c => s ++ [c.ty]) [d.ty, d.value] ([d.ty, d.value] ++ d.ctors.map (·.ty)) (by omega)
    (fun a x b hl => by
      rw [ZK]
      unfold Kw
      dsimp only
      have : a.length < d.ctors.length := Z7 hl
      rw [hl, Jd, QY]
      simp only [cond_true, Option.bind_some]
      rw [Jq (by simp; omega)])
    (by unfold Kw; dsimp only; rw [Jm, ZK]; rfl)]
  simp only [Option.bind_some]
  rw [Jq (by simp; omega), Jq (by simp; omega)]
  rw [Zz (step := Kh d) d.funs (fun i (s : List Tm) => (i, s)) (fun s c => s ++ [c.ty]) _ (Jr d) (by omega)
    (fun a x b hl => by
      rw [ZK]
      unfold Kh
      dsimp only
      have : a.length < d.funs.length := Z7 hl
      rw [hl, Jd, QY]
      simp only [cond_true, Option.bind_some]
      rw [Jq (by simp; omega)])
    (by unfold Kh; dsimp only; rw [Jm, ZK]; rfl)]
  rfl
theorem seen_eq (l : List U3) (h : l.length ≤ 900000000) : ∃ M, Qw (KX l) QF (0, gmNil) = some M ∧ Met l [] M := by
  refine Jx (step := KX l) l (fun i (s : Qh U3 Bool) => (i, s)) (fun a s => Met a [] s) (fun M => Met l [] M) h
    (fun a x b s hl hs => .inr ⟨JY s x true, ?_, fun y => ?_⟩) (fun s hs => ⟨s, by unfold KX; dsimp only; rw [Jm]; rfl, hs⟩) gmNil Met.nil
  · unfold KX
    dsimp only
    rw [hl, Jd, QY]; rfl
  · rw [gmVal_set, hs y]
    by_cases e : y = x
    · subst e; simp
    · simp [e]
theorem m53_l3_eq (l own out : List U3) (M : Qh U3 Bool) (hM : Met own out M) (h : out.length + l.length ≤ 900000000) : ∃ M', Qw (KW l) QF (0, M, out) = some (M', Ye own out l) ∧ Met own (Ye own out l) M' := by
  obtain ⟨r, e, M', rfl, hM'⟩ := Jx (step := KW l) l (fun i (s : Qh U3 Bool × List U3) => (i, s.1, s.2)) (fun a s => Met own s.2 s.1 ∧ s.2 = Ye own out a) (fun r => ∃ M', r = (M', Ye own out l) ∧ Met own (Ye own out l) M') (by omega)
    (fun a x b s hl hs => .inr (by
      obtain ⟨Ms, os⟩ := s
      obtain ⟨hs1, hs2⟩ := hs
      dsimp only at hs1 hs2
      have hol := Yx own a out
      rw [← hs2] at hol
      have : a.length < l.length := Z7 hl
      obtain ⟨M1, e1, hM1⟩ := add_step hs1 x (by omega)
      refine ⟨(M1, GJ own os x), ?_, hM1, ?_⟩
      · unfold KW
        dsimp only
        rw [hl, Jd, QY]
        simp only [cond_true, Option.bind_some]
        rw [e1]; rfl
      · rw [YJ, ← hs2]; rfl))
    (fun s hs => ⟨(s.1, s.2), by unfold KW; dsimp only; rw [Jm]; rfl, s.1, by rw [hs.2], by rw [← hs.2]; exact hs.1⟩) (M, out) ⟨hM, rfl⟩
  exact ⟨M', e, hM'⟩
theorem m53_eq (d : Dcl) (h : d.size ≤ 400000000) : XA d = some (Kt d) := by
  have hn := names_len d
  have hts := K1 d
  have htl := terms_len d
  have hfl := ZJ d
  unfold XA
  rw [m37_eq d (by omega), Option.bind_some]
  obtain ⟨M0, e0, hM0⟩ := seen_eq (Ju d) (by omega)
  rw [e0, Option.bind_some, terms_eq d (by omega), Option.bind_some]
  obtain ⟨r, e1, M1, rfl, hM1⟩ := Jx (step := KV (Jr d)) (Jr d) (fun i (s : Qh U3 Bool × List U3) => (i, s.1, s.2)) (fun a s => Met (Ju d) s.2 s.1 ∧ s.2 = Ye (Ju d) [] (a.map Yq).flatten)
    (fun r => ∃ M', r = (M', Ye (Ju d) [] ((Jr d).map Yq).flatten) ∧ Met (Ju d) (Ye (Ju d) [] ((Jr d).map Yq).flatten) M') (by omega)
    (fun a x b s hl hs => .inr (by
      obtain ⟨Ms, os⟩ := s
      obtain ⟨hs1, hs2⟩ := hs
      dsimp only at hs1 hs2
      have hx : x ∈ Jr d := by rw [hl]; simp
      have hxs := ZD hx
      have htot : ((Jr d).map Tm.size).sum = (a.map Tm.size).sum + x.size + (b.map Tm.size).sum := by rw [hl, sum_split]
      have hol : os.length ≤ (a.map Tm.size).sum := by
        rw [hs2]
        refine Nat.le_trans (Yx _ _ _) ?_
        have := KM Yq Tm.size Z9 a
        simp only [List.length_nil]; omega
      have hcl := Z9 x
      obtain ⟨M2, e2, hM2⟩ := m53_l3_eq (Yq x) (Ju d) os Ms hs1 (by omega)
      refine ⟨(M2, Ye (Ju d) os (Yq x)), ?_, hM2, ?_⟩
      · unfold KV
        dsimp only
        rw [hl, Jd, QY]
        simp only [cond_true, Option.bind_some]
        rw [m74_eq x (by omega), Option.bind_some, e2]; rfl
      · rw [hs2, ← YJ]; simp))
    (fun s hs => ⟨(s.1, s.2), by unfold KV; dsimp only; rw [Jm]; rfl, s.1, by rw [hs.2], by rw [← hs.2]; exact hs.1⟩) (M0, []) ⟨hM0, rfl⟩
  rw [e1, Option.bind_some]
  have hl1 : (Ye (Ju d) [] ((Jr d).map Yq).flatten).length ≤ ((Jr d).map Tm.size).sum := by
    refine Nat.le_trans (Yx _ _ _) ?_
    have := KM Yq Tm.size Z9 (Jr d)
    simp only [List.length_nil]; omega
  obtain ⟨r, e3, M3, rfl, hM3⟩ := Jx (step := Kv d (Jr d)) d.funs (fun i (s : Qh U3 Bool × List U3) => (i, s.1, s.2)) (fun a s => Met (Ju d) s.2 s.1 ∧ s.2 = Ye (Ju d) (Ye (Ju d) [] ((Jr d).map Yq).flatten) (a.map fun f => f.tree.cn).flatten)
    (fun r => ∃ M', r = .inl (M', Kt d)) (by omega)
    (fun a x b s hl hs => .inr (by
      obtain ⟨Ms, os⟩ := s
      obtain ⟨hs1, hs2⟩ := hs
      dsimp only at hs1 hs2
      have hx : x ∈ d.funs := by rw [hl]; simp
      have hxs := fun_mem hx
      have htot : (d.funs.map fun f => f.tree.size).sum = (a.map fun f => f.tree.size).sum + x.tree.size + (b.map fun f => f.tree.size).sum := by rw [hl, sum_split]
      have hol : os.length ≤ ((Jr d).map Tm.size).sum + (a.map fun f => f.tree.size).sum := by
        rw [hs2]
        refine Nat.le_trans (Yx _ _ _) ?_
        have := KM (fun f : Fn => f.tree.cn) (fun f => f.tree.size) (fun f => f.tree.cn_len) a
        omega
      obtain ⟨M2, e2, hM2⟩ := tvisit_ok (Jr d) d QF x.tree (Ju d) os Ms (by unfold QF; omega) hs1 (by omega)
      refine ⟨(M2, Ye (Ju d) os x.tree.cn), ?_, hM2, ?_⟩
      · unfold Kv
        dsimp only
        rw [hl, Jd, QY]
        simp only [cond_true, Option.bind_some]
        unfold m75f1
        rw [e2]; rfl
      · rw [hs2, ← YJ]; simp))
    (fun s hs => ⟨.inl (s.1, s.2), by unfold Kv; dsimp only; rw [Jm]; rfl, s.1, by
      obtain ⟨s1, s2⟩ := s
      have := hs.2
      dsimp only at this ⊢
      unfold Kt K3
      rw [YJ, ← this]⟩) (M1, Ye (Ju d) [] ((Jr d).map Yq).flatten) ⟨hM1, rfl⟩
  rw [e3]; rfl
end Go.Proofs.Ytijcchddnnnmdaa
namespace Go.Proofs.Ytijcchddnnnmdaa
open Go.RowKit Go.Shelf
set_option linter.unusedSimpArgs false
set_option linter.unusedVariables false
theorem JC : QX Try.prog 72 0 = some 0 := by kernel_rfl
theorem JM : QX Try.prog 72 1 = some 1 := by kernel_rfl
theorem Y1 : Jl Try.prog 57 = some (false, 1) := by kernel_rfl
theorem YD : Jl Try.prog 70 = some (false, 1) := by kernel_rfl
theorem J8 : Jl Try.prog 72 = some (true, 2) := by kernel_rfl
theorem Jo : J0 Try.prog 22 = some (48, 23) := by kernel_rfl
theorem JU : J0 Try.prog 54 = some (3, 1) := by kernel_rfl
theorem Y7 : J0 Try.prog 57 = some (54, 1) := by kernel_rfl
theorem XE : Jk Try.prog 3 = some [.int .i64 0] := by kernel_rfl
theorem ZU : Jk Try.prog 48 = some [.int .i64 0, .string ByteArray.empty, .int .i64 0, .int .i64 0, .int .i64 0, .string ByteArray.empty, .slice none 0 0, .slice none 0 0, .int .i64 0, .int .i64 0, .string ByteArray.empty, .slice none 0 0, .slice none 0 0, .int .i64 0, .slice none 0 0, .int .i64 0, .int .i64 0, .int .i64 0, .string ByteArray.empty, .slice none 0 0, .slice none 0 0, .slice none 0 0, .slice none 0 0] := by kernel_rfl
theorem Xr : Jk Try.prog 54 = some [.slice none 0 0] := by kernel_rfl
theorem YT : Jk Try.prog 72 = some [.slice none 0 0, .map none] := by kernel_rfl
theorem Z5 : Yl Try.prog 72 [(0, 1), (1, 1)] [.slice none 0 0, .map none] := ⟨by kernel_rfl, by kernel_rfl⟩
theorem Xn : Yf Try.prog 3 = some (1, 8) := by kernel_rfl
theorem X7 : Yf Try.prog 54 = some (1, 24) := by kernel_rfl
theorem YC : KO Try.prog 70 = some (false, .one (.d (.v (.int .i64 0)))) := by kernel_rfl
theorem en_23 : J7 Try.prog 23 := enters_of Try.func23 (by kernel_rfl) rfl
theorem Xf : J7 Try.prog 34 := enters_of Try.func34 (by kernel_rfl) rfl
def GF (x9 : (List U3)) (s2 : Int × (Qh U3 Int)) (s3 : Int × (Qh U3 Int)) : Option (LO (Int × (Qh U3 Int)) (((Qh U3 Int)) ⊕ (((List (List Int)) × (Qh U3 Int)) ⊕ Unit ⊕ Unit))) :=
 cond (decide (s3.1 < (x9.length : Int)))
   (Option.bind (Ja x9 s3.1) fun (x12 : U3) =>
 cond (Jt s3.2 x12)
   (some (.done (.inr (.inr (.inl ())))))
   (some (.next ((QZ (s3.1 + 1)), (JY s3.2 x12 s2.1)))))
   (some (.done (.inl s3.2)))
def Kl (a0 : List Dcl) (s2 : Int × (Qh U3 Int)) : Option (LO (Int × (Qh U3 Int)) (((Qh U3 Int)) ⊕ (((List (List Int)) × (Qh U3 Int)) ⊕ Unit ⊕ Unit))) :=
 cond (decide (s2.1 < (a0.length : Int)))
   (Option.bind (Ja a0 s2.1) fun (x8 : Dcl) =>
 Option.bind (Xt x8) fun (x9 : (List U3)) =>
 Option.bind (Qw (GF x9 s2) QF (0, s2.2)) (Sum.elim (fun (o10 : (Qh U3 Int)) => some (.next ((QZ (s2.1 + 1)), o10))) (fun o => some (.done (.inr o)))))
   (some (.done (.inl s2.2)))
def GE (x10 : (List U3)) (o6 : (Qh U3 Int)) (s3 : (List Int) × Int) : Option (LO ((List Int) × Int) (((List Int)) ⊕ (((List (List Int)) × (Qh U3 Int)) ⊕ Unit ⊕ Unit))) :=
 cond (decide (s3.2 < (x10.length : Int)))
   (Option.bind (Ja x10 s3.2) fun (x13 : U3) =>
 cond (!(Jt o6 x13))
   (some (.done (.inr (.inr (.inr ())))))
   (Qy (Nat.ble (s3.1.length + ([(Je o6 x13)]).length) 1000000000)
 (some (.next ((s3.1 ++ ([(Je o6 x13)])), (QZ (s3.2 + 1)))))))
   (some (.done (.inl s3.1)))
def Kk (a0 : List Dcl) (o6 : (Qh U3 Int)) (s2 : Int × (List (List Int))) : Option (LO (Int × (List (List Int))) (((List (List Int))) ⊕ (((List (List Int)) × (Qh U3 Int)) ⊕ Unit ⊕ Unit))) :=
 cond (decide (s2.1 < (a0.length : Int)))
   (Option.bind (Ja a0 s2.1) fun (x9 : Dcl) =>
 Option.bind (XA x9) fun (x10 : (List U3)) =>
 Option.bind (Qw (GE x10 o6) QF (([] : List Int), 0)) (Sum.elim (fun (o11 : (List Int)) => Option.bind (Zf o11) fun (x12 : List Int) =>
 Option.bind (JS x12 ((Enc.encL o11).length)) fun (x13 : List Int) =>
 Qy (Nat.ble (s2.2.length + ([x13]).length) 1000000000)
 (some (.next ((QZ (s2.1 + 1)), (s2.2 ++ ([x13])))))) (fun o => some (.done (.inr o)))))
   (some (.done (.inl s2.2)))
def m23 (a0 : List Dcl) : Option ((List (List Int)) × Int) :=
 Option.bind (Option.bind (Qw (Kl a0) QF (0, gmNil)) (Sum.elim (fun (o6 : (Qh U3 Int)) => Option.bind (Qw (Kk a0 o6) QF (0, ([] : List (List Int)))) (Sum.elim (fun (o7 : (List (List Int))) => some (.inl (o7, o6))) (fun o => some o))) (fun o => some o))) (Sum.elim (fun (y1 : (List (List Int)) × (Qh U3 Int)) => some (y1.1, 0)) (Sum.elim (fun (y2 : Unit) => some (([] : List (List Int)), 8)) (fun (y3 : Unit) => some (([] : List (List Int)), 9))))
end Go.Proofs.Ytijcchddnnnmdaa
namespace Go.Proofs.Ytijcchddnnnmdaa
open Go.RowKit Go.Shelf
set_option linter.unusedSimpArgs false
set_option linter.unusedVariables false
def m48_l0 (a0 : List Dcl) (a1 : U3) (s1 : Int) : Option (LO Int (Unit ⊕ Int)) :=
 cond (decide (s1 < (a0.length : Int)))
   (Option.bind (Ja a0 s1) fun (x3 : Dcl) =>
 Option.bind (W0 x3) fun (x4 : (List U3)) =>
 Option.bind (Wf x4 a1) fun (x5 : Bool) =>
 cond x5
   (some (.done (.inr s1)))
   (some (.next (QZ (s1 + 1)))))
   (some (.done (.inl ())))
def m48 (a0 : List Dcl) (a1 : U3) : Option Int :=
 Option.bind (Qw (m48_l0 a0 a1) QF 0) (Sum.elim (fun (o1 : Unit) => some (-1)) (fun o => some o))
def m46_l0 (x4 : (List U3)) (s2 : (List U3) × Int) : Option (LO ((List U3) × Int) (((List U3)) ⊕ Int)) :=
 cond (decide (s2.2 < (x4.length : Int)))
   (Option.bind (Ja x4 s2.2) fun (x7 : U3) =>
 Option.bind (Wf s2.1 x7) fun (x8 : Bool) =>
 cond x8
   (some (.done (.inr 8)))
   (Option.bind (Ja x4 s2.2) fun (x10 : U3) =>
 Qy (Nat.ble (s2.1.length + ([x10]).length) 1000000000)
 (some (.next ((s2.1 ++ ([x10])), (QZ (s2.2 + 1)))))))
   (some (.done (.inl s2.1)))
def m46_l1 (a0 : List Dcl) (s1 : (List U3) × Int) : Option (LO ((List U3) × Int) (((List U3)) ⊕ Int)) :=
 cond (decide (s1.2 < (a0.length : Int)))
   (Option.bind (Ja a0 s1.2) fun (x3 : Dcl) =>
 Option.bind (W0 x3) fun (x4 : (List U3)) =>
 Option.bind (Qw (m46_l0 x4) QF (s1.1, 0)) (Sum.elim (fun (o5 : (List U3)) => some (.next (o5, (QZ (s1.2 + 1))))) (fun o => some (.done (.inr o)))))
   (some (.done (.inl s1.1)))
def m46_l2 (x5 : (List U3)) (o1 : (List U3)) (s2 : Int) : Option (LO Int (Unit ⊕ Int)) :=
 cond (decide (s2 < (x5.length : Int)))
   (Option.bind (Ja x5 s2) fun (x8 : U3) =>
 Option.bind (Wf o1 x8) fun (x9 : Bool) =>
 cond (!x9)
   (some (.done (.inr 9)))
   (some (.next (QZ (s2 + 1)))))
   (some (.done (.inl ())))
def m46_l3 (a0 : List Dcl) (o1 : (List U3)) (s1 : Int) : Option (LO Int (Unit ⊕ Int)) :=
 cond (decide (s1 < (a0.length : Int)))
   (Option.bind (Ja a0 s1) fun (x4 : Dcl) =>
 Option.bind (m47 x4) fun (x5 : (List U3)) =>
 Option.bind (Qw (m46_l2 x5 o1) QF 0) (Sum.elim (fun (o6 : Unit) => some (.next (QZ (s1 + 1)))) (fun o => some (.done (.inr o)))))
   (some (.done (.inl ())))
def m46 (a0 : List Dcl) : Option Int :=
 Option.bind (Qw (m46_l1 a0) QF (([] : List U3), 0)) (Sum.elim (fun (o1 : (List U3)) => Option.bind (Qw (m46_l3 a0 o1) QF 0) (Sum.elim (fun (o2 : Unit) => some 0) (fun o => some o))) (fun o => some o))
def m49_l0 (a0 : List Int) (a1 : Int) (s1 : Int) : Option (LO Int (Unit ⊕ Bool)) :=
 cond (decide (s1 < (a0.length : Int)))
   (Option.bind (Ja a0 s1) fun (x3 : Int) =>
 cond (x3 == a1)
   (some (.done (.inr true)))
   (some (.next (QZ (s1 + 1)))))
   (some (.done (.inl ())))
def m49 (a0 : List Int) (a1 : Int) : Option Bool :=
 Option.bind (Qw (m49_l0 a0 a1) QF 0) (Sum.elim (fun (o1 : Unit) => some false) (fun o => some o))
def m25_l0 (x6 : (List U3)) (a0 : List Dcl) (s2 : (List Int) × Int) : Option (LO ((List Int) × Int) (((List Int)))) :=
 cond (decide (s2.2 < (x6.length : Int)))
   (Option.bind (Ja x6 s2.2) fun (x9 : U3) =>
 Option.bind (m48 a0 x9) fun (x10 : Int) =>
 Qy (Nat.ble (s2.1.length + ([x10]).length) 1000000000)
 (some (.next ((s2.1 ++ ([x10])), (QZ (s2.2 + 1))))))
   (some (.done s2.1))
def m25_l1 (a0 : List Dcl) (o7 : (List Int)) (s2 : (List Int) × Int) : Option (LO ((List Int) × Int) (((List Int)))) :=
 cond (decide (s2.2 < (a0.length : Int)))
   (Option.bind (m49 o7 s2.2) fun (x10 : Bool) =>
 cond x10
   (Qy (Nat.ble (s2.1.length + ([s2.2]).length) 1000000000)
 (some (.next ((s2.1 ++ ([s2.2])), (QZ (s2.2 + 1))))))
   (some (.next (s2.1, (QZ (s2.2 + 1))))))
   (some (.done s2.1))
def m25_l2 (a0 : List Dcl) (s1 : (List (List Int)) × Int) : Option (LO ((List (List Int)) × Int) (((List (List Int))))) :=
 cond (decide (s1.2 < (a0.length : Int)))
   (Option.bind (Ja a0 s1.2) fun (x5 : Dcl) =>
 Option.bind (m47 x5) fun (x6 : (List U3)) =>
 Option.bind (Qw (m25_l0 x6 a0) QF (([] : List Int), 0)) (fun (o7 : (List Int)) => Option.bind (Qw (m25_l1 a0 o7) QF (([] : List Int), 0)) (fun (o8 : (List Int)) => Qy (Nat.ble (s1.1.length + ([o8]).length) 1000000000)
 (some (.next ((s1.1 ++ ([o8])), (QZ (s1.2 + 1))))))))
   (some (.done s1.1))
def m25 (a0 : List Dcl) : Option ((List (List Int)) × Int) :=
 Option.bind (m46 a0) fun (x1 : Int) =>
 cond (x1 != 0)
   (some (([] : List (List Int)), x1))
   (Option.bind (Qw (m25_l2 a0) QF (([] : List (List Int)), 0)) (fun (o3 : (List (List Int))) => some (o3, 0)))
end Go.Proofs.Ytijcchddnnnmdaa
namespace Go.Proofs.Ytijcchddnnnmdaa
open Go.RowKit Go.Lib
set_option linter.unusedSimpArgs false
set_option linter.unusedVariables false
set_option linter.unusedSectionVars false
theorem pair_lt_eq : ∀ {l m : List Int}, l.Pairwise (· < ·) → m.Pairwise (· < ·) → (∀ x, x ∈ l ↔ x ∈ m) → l = m
  | [], [], _, _, _ => rfl
  | [], y :: m, _, _, h => absurd ((h y).2 List.mem_cons_self) (by simp)
  | x :: l, [], _, _, h => absurd ((h x).1 List.mem_cons_self) (by simp)
  | x :: l, y :: m, hl, hm, h => by
    have hx := List.pairwise_cons.1 hl
    have hy := List.pairwise_cons.1 hm
    have hxy : x = y := by
      have h1 : x ∈ y :: m := (h x).1 List.mem_cons_self
      have h2 : y ∈ x :: l := (h y).2 List.mem_cons_self
      rcases List.mem_cons.1 h1 with e | h1
      · exact e
      rcases List.mem_cons.1 h2 with e | h2
      · exact e.symm
      have := hx.1 y h2
      have := hy.1 x h1
      omega
    subst hxy
    congr 1
    refine pair_lt_eq hx.2 hy.2 fun z => ?_
    have hz := h z
    simp only [List.mem_cons] at hz
    constructor
    · intro h1
      rcases hz.1 (.inr h1) with e | h2
      · have := hx.1 z h1; omega
      · exact h2
    · intro h1
      rcases hz.2 (.inr h1) with e | h2
      · have := hy.1 z h1; omega
      · exact h2
theorem Zt (zs : List Int) {j : Nat} (h : j < zs.length) : zs.toArray[j]! = zs[j] := by
  rw [getElem!_pos zs.toArray j (by simpa using h)]; rfl
theorem compact_sorted {zs : List Int} (h : zs.Pairwise (· ≤ ·)) : (Lib.compact zs).Pairwise (· < ·) ∧ ∀ x, x ∈ Lib.compact zs ↔ x ∈ zs := by
  have hle : ∀ i j, (hi : i < zs.length) → (hj : j < zs.length) → i ≤ j → zs[i] ≤ zs[j] := fun i j hi hj hij => by
    rcases Nat.lt_or_ge i j with h1 | h1
    · exact List.pairwise_iff_getElem.1 h i j hi hj h1
    · obtain rfl : i = j := by omega
      exact Int.le_refl _
  unfold Lib.compact compactUpTo
  constructor
  · rw [List.pairwise_map]
    have hr : ((List.range zs.length).filter (keeps zs.toArray)).Pairwise (fun a b => a < b ∧ a < zs.length ∧ b < zs.length ∧ keeps zs.toArray b = true) := by
      have h1 : ((List.range zs.length).filter (keeps zs.toArray)).Pairwise (· < ·) := List.Pairwise.filter _ List.pairwise_lt_range
      refine List.Pairwise.imp_of_mem (fun ha hb hab => ⟨hab, ?_, ?_, ?_⟩) h1
      · exact List.mem_range.1 (List.mem_filter.1 ha).1
      · exact List.mem_range.1 (List.mem_filter.1 hb).1
      · exact (List.mem_filter.1 hb).2
    refine List.Pairwise.imp (fun {a b} hab => ?_) hr
    obtain ⟨h1, h2, h3, h4⟩ := hab
    have hb0 : b ≠ 0 := by omega
    have hne : zs.toArray[b]! ≠ zs.toArray[b - 1]! := fun e => by rw [keeps_neg (by omega) e] at h4; cases h4
    rw [Zt zs h3, Zt zs (by omega)] at hne
    rw [Zt zs h2, Zt zs h3]
    have h5 := hle a (b - 1) h2 (by omega) (by omega)
    have h6 := hle (b - 1) b (by omega) h3 (by omega)
    omega
  · intro x
    rw [List.mem_map]
    constructor
    · rintro ⟨j, hj, rfl⟩
      have := List.mem_range.1 (List.mem_filter.1 hj).1
      rw [Zt zs this]; exact List.getElem_mem this
    · intro hx
      obtain ⟨j, hj, hjx⟩ := List.mem_iff_getElem.1 hx
      have key : ∀ j, (hj : j < zs.length) → zs[j] = x → ∃ k, k ∈ (List.range zs.length).filter (keeps zs.toArray) ∧ zs.toArray[k]! = x := by
        intro j
        induction j with
        | zero =>
          intro hj hjx
          exact ⟨0, List.mem_filter.2 ⟨List.mem_range.2 hj, keeps_lt_one _ 0 (by omega)⟩, by rw [Zt zs hj, hjx]⟩
        | succ j ih =>
          intro hj hjx
          by_cases e : zs[j] = x
          · exact ih (by omega) e
          · refine ⟨j + 1, List.mem_filter.2 ⟨List.mem_range.2 hj, keeps_pos ?_⟩, by rw [Zt zs hj, hjx]⟩
            rw [Zt zs hj, Nat.add_sub_cancel, Zt zs (by omega), hjx]
            exact fun e' => e e'.symm
      exact key j hj hjx
theorem sortI_mem (l : List Int) (x : Int) : x ∈ KP l ↔ x ∈ l := (ZE l).mem_iff
theorem sortI_len (l : List Int) : (KP l).length = l.length := (ZE l).length_eq
def QE (l : List Dcl) : List U3 := (l.map Ju).flatten
def Zg (i : Int) : List Dcl → U3 → Option Int
  | [], _ => none
  | d :: l, s => if s ∈ Ju d then some i else Zg (i + 1) l s
theorem ownO_app (s : U3) (b : List Dcl) : ∀ (a : List Dcl) (i : Int), Zg i (a ++ b) s = (Zg i a s).or (Zg (i + a.length) b s)
  | [], i => by simp [Zg]
  | d :: a, i => by
    simp only [List.cons_append, Zg]
    split
    · rfl
    · rw [ownO_app s b a (i + 1), show i + 1 + (a.length : Int) = i + ((d :: a).length : Int) by simp only [List.length_cons]; omega]
theorem ownO_some (s : U3) : ∀ (l : List Dcl) (i j : Int), Zg i l s = some j → ∃ k : Nat, ∃ d, j = i + k ∧ l[k]? = some d ∧ s ∈ Ju d
  | [], i, j, h => by cases h
  | d :: l, i, j, h => by
    simp only [Zg] at h
    split at h
    · cases h; exact ⟨0, d, by simp, rfl, ‹_›⟩
    · obtain ⟨k, d', h1, h2, h3⟩ := ownO_some s l (i + 1) j h
      exact ⟨k + 1, d', by omega, h2, h3⟩
theorem Zw (s : U3) : ∀ (l : List Dcl) (i : Int), Zg i l s = none ↔ s ∉ QE l
  | [], i => by simp [Zg, QE]
  | d :: l, i => by
    simp only [Zg]
    have ih := Zw s l (i + 1)
    unfold QE at ih ⊢
    simp only [List.map_cons, List.flatten_cons, List.mem_append, not_or]
    split
    · simp [*]
    · rw [ih]; simp [*]
def KT (env : List Dcl) (s : U3) : Int := (Zg 0 env s).getD 0
def YY (env : List Dcl) : Nat := (env.map Dcl.size).sum
theorem KJ {env : List Dcl} {d : Dcl} (h : d ∈ env) : d.size ≤ YY env := YU Dcl.size h
theorem ZT (env : List Dcl) : env.length ≤ YY env := Zd Dcl.size (fun d => by unfold Dcl.size; omega) env
theorem all_len (env : List Dcl) : (QE env).length ≤ YY env + env.length := by
  have := KM Ju (fun d => d.size + 1) names_len env
  have h2 : ∀ l : List Dcl, (l.map (fun d => d.size + 1)).sum = (l.map Dcl.size).sum + l.length := by
    intro l
    induction l with
    | nil => rfl
    | cons x l ih => simp only [List.map_cons, List.sum_cons, List.length_cons, ih]; omega
  rw [h2] at this
  exact this
theorem size_cons (x : Dcl) (b : List Dcl) : YY (x :: b) = x.size + YY b := by unfold YY; simp
theorem all_snoc (a : List Dcl) (x : Dcl) : QE (a ++ [x]) = QE a ++ Ju x := by unfold QE; simp
theorem all_nodup {a b : List Dcl} (h : (QE (a ++ b)).Nodup) : (QE a).Nodup := by
  unfold QE at h ⊢
  rw [List.map_append, List.flatten_append] at h
  exact (List.nodup_append.1 h).1
def JV (env : List Dcl) (l : List Dcl) : Prop := ∀ d ∈ l, ∀ s ∈ Kt d, s ∈ QE env
def row (env : List Dcl) (d : Dcl) : List Int := ((List.range env.length).map fun (k : Nat) => (k : Int)).filter fun j => decide (j ∈ (Kt d).map (KT env))
def Yw (env : List Dcl) : List (List Int) := env.map (row env)
inductive Says (env : List Dcl) : List (List Int) × Int → Prop
  | twice (h : ¬ (QE env).Nodup) : Says env ([], 8)
  | none (h : (QE env).Nodup) (h2 : ¬ JV env env) : Says env ([], 9)
  | ok (h : (QE env).Nodup) (h2 : JV env env) : Says env (Yw env, 0)
theorem ownV_range {env : List Dcl} {s : U3} (h : s ∈ QE env) : ∃ k : Nat, k < env.length ∧ Zg 0 env s = some (k : Int) := by
  cases h1 : Zg 0 env s with
  | none => exact absurd h ((Zw s env 0).1 h1)
  | some j =>
    obtain ⟨k, d, h2, h3, h4⟩ := ownO_some s env 0 j h1
    exact ⟨k, (List.getElem?_eq_some_iff.1 h3).1, by rw [h2, Int.zero_add]⟩
theorem row_pair (env : List Dcl) (d : Dcl) : (row env d).Pairwise (· < ·) := by
  refine List.Pairwise.filter _ ?_
  rw [List.pairwise_map]
  exact List.pairwise_lt_range.imp fun h => by omega
theorem row_mem {env : List Dcl} {d : Dcl} (h : ∀ s ∈ Kt d, s ∈ QE env) (x : Int) : x ∈ row env d ↔ x ∈ (Kt d).map (KT env) := by
  unfold row
  rw [List.mem_filter, decide_eq_true_eq]
  refine ⟨fun h => h.2, fun hx => ⟨?_, hx⟩⟩
  obtain ⟨s, hs, rfl⟩ := List.mem_map.1 hx
  obtain ⟨k, hk, e⟩ := ownV_range (h s hs)
  unfold KT
  rw [e]
  exact List.mem_map.2 ⟨k, List.mem_range.2 hk, rfl⟩
theorem row_sort {env : List Dcl} {d : Dcl} (h : ∀ s ∈ Kt d, s ∈ QE env) : Lib.compact (KP ((Kt d).map (KT env))) = row env d := by
  obtain ⟨h1, h2⟩ := compact_sorted (sortI_pair ((Kt d).map (KT env)))
  refine pair_lt_eq h1 (row_pair env d) fun x => ?_
  rw [h2, sortI_mem, row_mem h]
abbrev WZ := Qh U3 Int
theorem m23_l0_eq (i : Int) (M0 : WZ) (f : U3 → Option Int) (nx : List U3) (hM : ∀ s, Zi M0 s = f s) (hl : nx.length ≤ 900000000) : ∃ r, Qw (GF nx (i, M0)) QF (0, M0) = some r ∧
    ((nx.Nodup ∧ (∀ s ∈ nx, f s = none) ∧ ∃ M', r = .inl M' ∧ ∀ s, Zi M' s = (f s).or (if s ∈ nx then some i else none)) ∨ (¬ (nx.Nodup ∧ ∀ s ∈ nx, f s = none) ∧ r = .inr (.inr (.inl ())))) := by
  refine Jx (step := GF nx (i, M0)) nx (fun k (s : WZ) => (k, s)) (fun c M => c.Nodup ∧ (∀ s ∈ c, f s = none) ∧ ∀ s, Zi M s = (f s).or (if s ∈ c then some i else none)) _ hl ?_ ?_ M0 ⟨List.nodup_nil, by simp, fun s => by rw [hM s]; simp⟩
  · intro a x b M e hI
    obtain ⟨h1, h2, h3⟩ := hI
    cases hx : Jt M x with
    | true =>
      refine .inl ⟨.inr (.inr (.inl ())), ?_, .inr ⟨?_, rfl⟩⟩
      · unfold GF
        dsimp only
        rw [e, Jd, QY]
        simp only [cond_true, Option.bind_some]
        rw [hx]; rfl
      · rintro ⟨h4, h5⟩
        have h6 := h5 x (by rw [e]; simp)
        unfold Jt at hx
        rw [h3, h6] at hx
        by_cases hxa : x ∈ a
        · rw [e, List.nodup_append] at h4
          exact h4.2.2 x hxa x List.mem_cons_self rfl
        · simp [hxa] at hx
    | false =>
      refine .inr ⟨JY M x i, ?_, ?_, ?_, ?_⟩
      · unfold GF
        dsimp only
        rw [e, Jd, QY]
        simp only [cond_true, Option.bind_some]
        rw [hx]; rfl
      · unfold Jt at hx
        rw [h3] at hx
        rw [List.nodup_append]
        refine ⟨h1, by simp, fun y hy z hz => ?_⟩
        rw [List.mem_singleton] at hz
        subst hz
        intro e2
        subst e2
        cases hf : f y with
        | some j => rw [hf] at hx; cases hx
        | none => rw [hf] at hx; simp [hy] at hx
      · intro s hs
        rcases List.mem_append.1 hs with hs | hs
        · exact h2 s hs
        · rw [List.mem_singleton] at hs
          subst hs
          unfold Jt at hx
          rw [h3] at hx
          cases hf : f s with
          | some j => rw [hf] at hx; cases hx
          | none => rfl
      · intro s
        rw [gmGet_set, h3]
        by_cases es : s = x
        · subst es
          unfold Jt at hx
          rw [h3] at hx
          cases hf : f s with
          | some j => rw [hf] at hx; cases hx
          | none => simp
        · rw [if_neg es]
          have : s ∈ a ++ [x] ↔ s ∈ a := by simp [es]
          simp only [this]
  · intro M hI
    refine ⟨.inl M, ?_, .inl ⟨hI.1, hI.2.1, M, rfl, hI.2.2⟩⟩
    unfold GF
    dsimp only
    rw [Jm]; rfl
theorem nodup_snoc {a : List Dcl} {x : Dcl} (h : (QE a).Nodup) : (QE (a ++ [x])).Nodup ↔ ((Ju x).Nodup ∧ ∀ s ∈ Ju x, Zg 0 a s = none) := by
  rw [all_snoc, List.nodup_append]
  constructor
  · rintro ⟨-, h1, h2⟩
    exact ⟨h1, fun s hs => (Zw s a 0).2 fun h3 => h2 s h3 s hs rfl⟩
  · rintro ⟨h1, h2⟩
    exact ⟨h, h1, fun s hs t ht e => by subst e; exact (Zw s a 0).1 (h2 s ht) hs⟩
theorem m23_l1_eq (env : List Dcl) (hl : YY env ≤ 100000000) : ∃ r, Qw (Kl env) QF (0, gmNil) = some r ∧
    (((QE env).Nodup ∧ ∃ M, r = .inl M ∧ ∀ s, Zi M s = Zg 0 env s) ∨ (¬ (QE env).Nodup ∧ r = .inr (.inr (.inl ())))) := by
  have hel := ZT env
  refine Jx (step := Kl env) env (fun k (s : WZ) => (k, s)) (fun a M => (QE a).Nodup ∧ ∀ s, Zi M s = Zg 0 a s) _ (by omega) ?_ ?_ gmNil ⟨List.nodup_nil, fun s => rfl⟩
  · intro a x b M e hI
    have hx : x ∈ env := by rw [e]; simp
    have hxs := KJ hx
    have hnl := names_len x
    obtain ⟨h1, h2⟩ := hI
    obtain ⟨r, e1, hr⟩ := m23_l0_eq (a.length : Int) M (Zg 0 a) (Ju x) h2 (by omega)
    rcases hr with ⟨h3, h4, M', rfl, h5⟩ | ⟨h3, rfl⟩
    · refine .inr ⟨M', ?_, ?_, fun s => ?_⟩
      · unfold Kl
        dsimp only
        rw [e, Jd, QY]
        simp only [cond_true, Option.bind_some]
        rw [m37_eq x (by omega), Option.bind_some, e1]; rfl
      · exact (nodup_snoc h1).2 ⟨h3, h4⟩
      · rw [h5, ownO_app, Int.zero_add]; rfl
    · refine .inl ⟨.inr (.inr (.inl ())), ?_, .inr ⟨?_, rfl⟩⟩
      · unfold Kl
        dsimp only
        rw [e, Jd, QY]
        simp only [cond_true, Option.bind_some]
        rw [m37_eq x (by omega), Option.bind_some, e1]; rfl
      · intro h6
        rw [e, show a ++ x :: b = (a ++ [x]) ++ b by simp] at h6
        exact h3 ((nodup_snoc h1).1 (all_nodup h6))
  · intro M hI
    refine ⟨.inl M, ?_, .inl ⟨hI.1, M, rfl, hI.2⟩⟩
    unfold Kl
    dsimp only
    rw [Jm]; rfl
theorem m23_l2_eq (env : List Dcl) (M : WZ) (hM : ∀ s, Zi M s = Zg 0 env s) (u : List U3) (hl : u.length ≤ 900000000) : ∃ r, Qw (GE u M) QF ([], 0) = some r ∧
    (((∀ s ∈ u, s ∈ QE env) ∧ r = .inl (u.map (KT env))) ∨ (¬ (∀ s ∈ u, s ∈ QE env) ∧ r = .inr (.inr (.inr ())))) := by
  have hv : ∀ s, Je M s = KT env s := fun s => by unfold Je KT; rw [hM]; rfl
  have hh : ∀ s, Jt M s = decide (s ∈ QE env) := fun s => by
    unfold Jt
    rw [hM]
    by_cases h : s ∈ QE env
    · obtain ⟨k, -, e⟩ := ownV_range h
      rw [e]; simp [h]
    · rw [(Zw s env 0).2 h]; simp [h]
  refine Jx (step := GE u M) u (fun k (s : List Int) => (s, k)) (fun a s => (∀ x ∈ a, x ∈ QE env) ∧ s = a.map (KT env)) _ hl ?_ ?_ [] ⟨by simp, rfl⟩
  · intro a x b s e hI
    obtain ⟨h1, h2⟩ := hI
    have hal : a.length < u.length := Z7 e
    by_cases hx : x ∈ QE env
    · refine .inr ⟨s ++ [KT env x], ?_, fun y hy => ?_, by rw [h2]; simp⟩
      · unfold GE
        dsimp only
        rw [e, Jd, QY]
        simp only [cond_true, Option.bind_some]
        rw [hh, hv, Jq (by rw [h2]; simp; omega)]
        simp [hx]
      · rcases List.mem_append.1 hy with hy | hy
        · exact h1 y hy
        · rw [List.mem_singleton] at hy; subst hy; exact hx
    · refine .inl ⟨.inr (.inr (.inr ())), ?_, .inr ⟨fun h => hx (h x (by rw [e]; simp)), rfl⟩⟩
      unfold GE
      dsimp only
      rw [e, Jd, QY]
      simp only [cond_true, Option.bind_some]
      rw [hh]
      simp [hx]
  · intro s hI
    refine ⟨.inl s, ?_, .inl ⟨hI.1, by rw [hI.2]⟩⟩
    unfold GE
    dsimp only
    rw [Jm]; rfl
theorem m23_l3_eq (env : List Dcl) (M : WZ) (hM : ∀ s, Zi M s = Zg 0 env s) (hl : YY env ≤ 100000000) : ∃ r, Qw (Kk env M) QF (0, []) = some r ∧
    ((JV env env ∧ r = .inl (Yw env)) ∨ (¬ JV env env ∧ r = .inr (.inr (.inr ())))) := by
  have hel := ZT env
  refine Jx (step := Kk env M) env (fun k (s : List (List Int)) => (k, s)) (fun a s => JV env a ∧ s = a.map (row env)) _ (by omega) ?_ ?_ [] ⟨by simp [JV], rfl⟩
  · intro a x b s e hI
    obtain ⟨h1, h2⟩ := hI
    have hx : x ∈ env := by rw [e]; simp
    have hxs := KJ hx
    have hul := uses_len x
    have hal : a.length < env.length := Z7 e
    obtain ⟨r, e1, hr⟩ := m23_l2_eq env M hM (Kt x) (by omega)
    rcases hr with ⟨h3, rfl⟩ | ⟨h3, rfl⟩
    · refine .inr ⟨s ++ [row env x], ?_, fun d hd => ?_, by rw [h2]; simp⟩
      · unfold Kk
        dsimp only
        rw [e, Jd, QY]
        simp only [cond_true, Option.bind_some]
        rw [m53_eq x (by omega), Option.bind_some, e1, Option.bind_some]
        dsimp only [Sum.elim]
        unfold Zf JS
        rw [← e, Nat.ble_eq_true_of_le (show ((Kt x).map (KT env)).length ≤ 1000000000 by simp; omega), cond_true, Option.bind_some]
        rw [show Nat.beq (Enc.encL (KP ((Kt x).map (KT env)))).length (Enc.encL ((Kt x).map (KT env))).length = true from by rw [Enc.len, Enc.len, sortI_len, Nat.beq_refl]]
        rw [cond_true, Option.bind_some, row_sort h3, Jq (by rw [h2]; simp; omega)]
      · rcases List.mem_append.1 hd with hd | hd
        · exact h1 d hd
        · rw [List.mem_singleton] at hd; subst hd; exact h3
    · refine .inl ⟨.inr (.inr (.inr ())), ?_, .inr ⟨fun h => h3 (h x hx), rfl⟩⟩
      unfold Kk
      dsimp only
      rw [e, Jd, QY]
      simp only [cond_true, Option.bind_some]
      rw [m53_eq x (by omega), Option.bind_some, e1]; rfl
  · intro s hI
    refine ⟨.inl s, ?_, .inl ⟨hI.1, by rw [hI.2]; rfl⟩⟩
    unfold Kk
    dsimp only
    rw [Jm]; rfl
theorem newGraph_eq {γ : Type} (env : List Dcl) (hl : YY env ≤ 100000000) : ∃ r, (Option.bind (Qw (Kl env) QF (0, gmNil)) (Sum.elim (fun (o6 : WZ) => Option.bind (Qw (Kk env o6) QF (0, ([] : List (List Int)))) (Sum.elim (fun (o7 : List (List Int)) => some (.inl (o7, o6))) (fun o => some o))) (fun o => some o))) = some r ∧
    ((¬ (QE env).Nodup ∧ r = .inr (.inl ())) ∨ ((QE env).Nodup ∧ ¬ JV env env ∧ r = .inr (.inr ())) ∨ ((QE env).Nodup ∧ JV env env ∧ ∃ M, r = .inl (Yw env, M) ∧ ∀ s, Zi M s = Zg 0 env s)) := by
  obtain ⟨r, e1, hr⟩ := m23_l1_eq env hl
  rw [e1, Option.bind_some]
  rcases hr with ⟨h1, M, rfl, hM⟩ | ⟨h1, rfl⟩
  · obtain ⟨r, e2, hr⟩ := m23_l3_eq env M hM hl
    dsimp only [Sum.elim]
    rw [e2, Option.bind_some]
    rcases hr with ⟨h2, rfl⟩ | ⟨h2, rfl⟩
    · exact ⟨_, rfl, .inr (.inr ⟨h1, h2, M, rfl, hM⟩)⟩
    · exact ⟨_, rfl, .inr (.inl ⟨h1, h2, rfl⟩)⟩
  · exact ⟨_, rfl, .inl ⟨h1, rfl⟩⟩
end Go.Proofs.Ytijcchddnnnmdaa
namespace Go.Proofs.Ytijcchddnnnmdaa
open Go.RowKit Go.Shelf
set_option linter.unusedSimpArgs false
set_option linter.unusedVariables false
theorem Gs : Jl Try.prog 54 = some (false, 1) := by kernel_rfl
theorem Zp : Jl Try.prog 75 = some (false, 1) := by kernel_rfl
theorem Zo : J0 Try.prog 75 = some (4, 1) := by kernel_rfl
theorem Wb : Jk Try.prog 4 = some [.bool false] := by kernel_rfl
theorem XD : Jk Try.prog 75 = some [.slice none 0 0] := by kernel_rfl
theorem XV : Yf Try.prog 4 = some (1, 1) := by kernel_rfl
theorem en_22 : J7 Try.prog 22 := enters_of Try.func22 (by kernel_rfl) rfl
theorem en_43 : J7 Try.prog 43 := enters_of Try.func43 (by kernel_rfl) rfl
theorem en_44 : J7 Try.prog 44 := enters_of Try.func44 (by kernel_rfl) rfl
theorem en_60 : J7 Try.prog 60 := enters_of Try.func60 (by kernel_rfl) rfl
def m44f7 (a0 : Int) (a1 : Nat) (a2 : List Bool) : Option Bool :=
 Option.bind (Ja a2 a0) fun (x1 : Bool) =>
 Qy (Nat.beq a2.length a1)
 (some (!x1))
set_option maxRecDepth 100000 in
set_option maxHeartbeats 2000000 in
theorem m44f7_ok (a0 : Int) (a1 : Nat) (a2 : List Bool) (r : Bool) (h0 : m44f7 a0 a1 a2 = some r) : CallM Try.prog 44 [.one (WL a0), .one (.ptr 0 0)] ⟨[(0, .cells 75 [.osl 1 0 a1 a1]), (1, .cells 4 (Q9 a2))], [], 2⟩ (QA [.one (WM r)]) ⟨[(0, .cells 75 [.osl 1 0 a1 a1]), (1, .cells 4 (Q9 a2))], [], 2⟩ := by
 unfold m44f7 at h0
 refine QR ⟨[(3, .v (.one (WM r)))], [(0, .cells 75 [.osl 1 0 a1 a1]), (1, .cells 4 (Q9 a2))], [], 2, 9, []⟩ rfl rfl en_44 (Wx rfl) rfl (Qo rfl .nil) (fun w0 M V0 Q hv0 hQ0 => ?_)
 simp only [Jb]
 refine Q2 <| Q0 <| Wo rfl rfl rfl <| Q3 <| Q1 <| Q2 <| Q0 <| Wm rfl rfl rfl (Q7 Zp rfl rfl rfl) <| Wn rfl rfl rfl ?_
 refine Qb h0 (fun x1 hx1 h0 => ?_)
 refine QS h0 (fun g2 h0 => ?_)
 refine Wm rfl rfl rfl (Jp (α := Bool) Zo rfl rfl hx1 g2) <| Wm rfl rfl rfl (YS (α := Bool) (m := a0) (f := 0) Gt rfl rfl hx1 rfl) <| Wm rfl rfl rfl (J9 rfl) <| Wo rfl rfl rfl <| Q3 <| Q1 <| Qz ?_
 have e := Wk h0; subst e
 exact hQ0 _ _ _ (.inr rfl) rfl (Qf (Wi rfl Wh) (WD rfl (WD rfl WC)) Wy rfl (Nat.le_trans hv0 (Wx rfl)) rfl rfl rfl (WU rfl rfl (WT rfl WR)) rfl rfl)
def m60f6_l0 (a0 : List Int) (a1 : Nat) (a2 : List Bool) (s1 : Int) : Option (LO Int (Unit ⊕ Int)) :=
 cond (decide (s1 < (a0.length : Int)))
   (Option.bind (Ja a0 s1) fun (x3 : Int) =>
 Option.bind (m44f7 x3 a1 a2) fun (x4 : Bool) =>
 cond x4
   (some (.done (.inr s1)))
   (some (.next (QZ (s1 + 1)))))
   (some (.done (.inl ())))
def m60f6 (a0 : List Int) (a1 : Nat) (a2 : List Bool) : Option Int :=
 Option.bind (Qw (m60f6_l0 a0 a1 a2) QF 0) (Sum.elim (fun (o1 : Unit) => some (-1)) (fun o => some o))
set_option maxRecDepth 100000 in
set_option maxHeartbeats 2000000 in
theorem m60f6_ok (a0 : List Int) (a1 : Nat) (a2 : List Bool) (r : Int) (h0 : m60f6 a0 a1 a2 = some r) : CallM Try.prog 60 [.one (WJ a0), .one (.fn 44 [(0, 0)])] ⟨[(0, .cells 75 [.osl 1 0 a1 a1]), (1, .cells 4 (Q9 a2))], [], 2⟩ (QA [.one (WL r)]) ⟨[(0, .cells 75 [.osl 1 0 a1 a1]), (1, .cells 4 (Q9 a2))], [], 2⟩ := by
 unfold m60f6 at h0
 refine QR ⟨[(4, .v (.one (WL r)))], [(0, .cells 75 [.osl 1 0 a1 a1]), (1, .cells 4 (Q9 a2))], [], 2, 19, []⟩ rfl rfl en_60 (Wx rfl) rfl (Qo rfl .nil) (fun w0 M V0 Q hv0 hQ0 => ?_)
 simp only [Jb]
 refine Q2 <| Q0 <| Wo rfl rfl rfl <| Q3 <| Q1 <| Q2 <| Q2 <| Q0 <| Wn rfl rfl rfl <| Wm rfl rfl rfl (QC (α := Int) JU rfl (.d _)) <| Wn rfl rfl rfl <| Q3 <| Q1 <| Qc ?_
 refine QI 0 (fun (o1 : Unit) => ⟨[], [(0, .cells 75 [.osl 1 0 a1 a1]), (1, .cells 4 (Q9 a2))], [], 2, 19, []⟩) (fun (o1 : Unit) => (some (-1)) = some r) ?_ ?_
 refine Qb h0 (fun o2 hl1 h0 => ?_)
 refine QH (m60f6_l0 a0 a1 a2) (fun s1 => ⟨[(0, .v (.one (WJ a0))), (1, .v (.one (.fn 44 [(0, 0)]))), (7, .v (.one (WL (a0.length : Int)))), (8, .v (.one (WL s1)))], [(0, .cells 75 [.osl 1 0 a1 a1]), (1, .cells 4 (Q9 a2))], [], 2, 19, []⟩) 0 o2 (Qf (Wi rfl (Wi rfl (Wi rfl (Wi rfl Wh)))) (WD rfl (WD rfl WC)) Wy rfl (Nat.le_trans hv0 (Wx rfl)) rfl rfl rfl (WU rfl rfl (WT rfl WR)) rfl rfl) hl1 (fun s1 n1 oo1 h1 ho1 => ?_)
 unfold m60f6_l0 at h1
 refine Q2 <| Q0 <| Wm rfl rfl rfl (Q8 rfl rfl rfl) <| Q3 <| Q1 <| Q2 ?_
 refine Qe (b := (decide (s1 < (a0.length : Int)))) rfl (fun c3 => ?_) (fun c3 => ?_)
 replace h1 := Qq c3 h1
 refine Qi <| Q1 <| Q2 <| Qc <| Q2 <| Q0 <| Wn rfl rfl rfl <| Wo rfl rfl rfl <| Q3 <| Q1 <| Q2 <| Q0 <| Wn rfl rfl rfl <| Wn rfl rfl rfl ?_
 refine Wn rfl rfl rfl ?_
 refine Qb h1 (fun x4 hx4 h1 => ?_)
 refine Wm rfl rfl rfl (Qm (α := Int) JU rfl (.d _) rfl hx4) <| Wm rfl rfl rfl (QN YA rfl rfl) ?_
 refine Qb h1 (fun x5 hx5 h1 => ?_)
 refine Qa rfl rfl (Wx rfl) (J2 (hp1' := [(0, .cells 75 [.osl 1 0 a1 a1]), (1, .cells 4 (Q9 a2))]) (tk1' := []) (hpF := []) (tkF := []) (res2 := QA [.one (WM x5)]) (nx2 := 2) [0, 1] rfl rfl (m44f7_ok x4 a1 a2 x5 hx5) rfl rfl (Ws rfl rfl (Wr rfl Wp)) rfl rfl (WG rfl (WI rfl WF)) WA WC Wy rfl rfl rfl rfl rfl (WU rfl rfl (WT rfl WR)) rfl rfl rfl rfl) <| Q3 <| Q1 ?_
 refine Qe (b := x5) rfl (fun c6 => ?_) (fun c6 => ?_)
 replace h1 := Qq c6 h1
 refine Q2 <| Q0 <| Wn rfl rfl rfl <| Wo rfl rfl rfl <| Q3 <| Q1 <| Qz ?_
 have e := Wk h1; subst e
 have e_ : _ = _ := ho1
 subst e_
 try dsimp only [Sum.elim_inl, Sum.elim_inr] at h0
 have e := Wk h0; subst e
 exact hQ0 _ _ _ (.inr rfl) rfl (Qf (Wi rfl Wh) (WD rfl (WD rfl WC)) Wy rfl (Nat.le_trans hv0 (Wx rfl)) rfl rfl rfl (WU rfl rfl (WT rfl WR)) rfl rfl)
 replace h1 := Qr c6 h1
 refine Qi <| Qj <| Q1 <| Q0 <| Wm rfl rfl rfl (Q8 rfl rfl rfl) <| Wn rfl rfl rfl <| Q3 ?_
 have e := Wk h1; subst e
 refine QD (QZ (s1 + 1)) (Qf (Wi rfl (Wi rfl (Wi rfl (Wi rfl Wh)))) (WD rfl (WD rfl WC)) Wy rfl (Nat.le_trans hv0 (Wx rfl)) rfl rfl rfl (WU rfl rfl (WT rfl WR)) rfl rfl) ho1
 replace h1 := Qr c3 h1
 refine QM <| Qd <| Qd ?_
 have e := Wk h1; subst e
 have e_ : _ = _ := ho1
 subst e_
 exact QG () (Qf Wh (WD rfl (WD rfl WC)) Wy rfl (Nat.le_trans hv0 (Wx rfl)) rfl rfl rfl (WU rfl rfl (WT rfl WR)) rfl rfl) h0
 intro o1 h0
 refine QB <| Q1 <| Q2 <| Q0 <| Wo rfl rfl rfl <| Q3 <| Q1 <| Qz ?_
 have e := Wk h0; subst e
 exact hQ0 _ _ _ (.inr rfl) rfl (Qf (Wi rfl Wh) (WD rfl (WD rfl WC)) Wy rfl (Nat.le_trans hv0 (Wx rfl)) rfl rfl rfl (WU rfl rfl (WT rfl WR)) rfl rfl)
def m43f5 (a0 : List Int) (a1 : Nat) (a2 : List Bool) : Option Bool :=
 Option.bind (m60f6 a0 a1 a2) fun (x1 : Int) =>
 some (decide (0 ≤ x1))
set_option maxRecDepth 100000 in
set_option maxHeartbeats 2000000 in
theorem m43f5_ok (a0 : List Int) (a1 : Nat) (a2 : List Bool) (r : Bool) (h0 : m43f5 a0 a1 a2 = some r) : CallM Try.prog 43 [.one (WJ a0), .one (.fn 44 [(0, 0)])] ⟨[(0, .cells 75 [.osl 1 0 a1 a1]), (1, .cells 4 (Q9 a2))], [], 2⟩ (QA [.one (WM r)]) ⟨[(0, .cells 75 [.osl 1 0 a1 a1]), (1, .cells 4 (Q9 a2))], [], 2⟩ := by
 unfold m43f5 at h0
 refine QR ⟨[(4, .v (.one (WM r)))], [(0, .cells 75 [.osl 1 0 a1 a1]), (1, .cells 4 (Q9 a2))], [], 2, 9, []⟩ rfl rfl en_43 (Wx rfl) rfl (Qo rfl .nil) (fun w0 M V0 Q hv0 hQ0 => ?_)
 simp only [Jb]
 refine Q2 <| Q0 <| Wo rfl rfl rfl <| Q3 <| Q1 <| Q2 <| Q0 <| Wn rfl rfl rfl <| Wn rfl rfl rfl ?_
 refine Qb h0 (fun x1 hx1 h0 => ?_)
 refine Qa rfl rfl (Wx rfl) (J2 (hp1' := [(0, .cells 75 [.osl 1 0 a1 a1]), (1, .cells 4 (Q9 a2))]) (tk1' := []) (hpF := []) (tkF := []) (res2 := QA [.one (WL x1)]) (nx2 := 2) [0, 1] rfl rfl (m60f6_ok a0 a1 a2 x1 hx1) rfl rfl (Ws rfl rfl (Wr rfl Wp)) rfl rfl (WG rfl (WI rfl WF)) WA WC Wy rfl rfl rfl rfl rfl (WU rfl rfl (WT rfl WR)) rfl rfl rfl rfl) <| Wm rfl rfl rfl (Q8 rfl rfl rfl) <| Wo rfl rfl rfl <| Q3 <| Q1 <| Qz ?_
 have e := Wk h0; subst e
 exact hQ0 _ _ _ (.inr rfl) rfl (Qf (Wi rfl Wh) (WD rfl (WD rfl WC)) Wy rfl (Nat.le_trans hv0 (Wx rfl)) rfl rfl rfl (WU rfl rfl (WT rfl WR)) rfl rfl)
def m22_l0 (x9 : (List U3)) (s2 : Int × (Qh U3 Int)) (s3 : Int × (Qh U3 Int)) : Option (LO (Int × (Qh U3 Int)) (((Qh U3 Int)) ⊕ (((List (List Int)) × (Qh U3 Int)) ⊕ Unit ⊕ Unit))) :=
 cond (decide (s3.1 < (x9.length : Int)))
   (Option.bind (Ja x9 s3.1) fun (x12 : U3) =>
 cond (Jt s3.2 x12)
   (some (.done (.inr (.inr (.inl ())))))
   (some (.next ((QZ (s3.1 + 1)), (JY s3.2 x12 s2.1)))))
   (some (.done (.inl s3.2)))
def m22_l1 (a0 : List Dcl) (s2 : Int × (Qh U3 Int)) : Option (LO (Int × (Qh U3 Int)) (((Qh U3 Int)) ⊕ (((List (List Int)) × (Qh U3 Int)) ⊕ Unit ⊕ Unit))) :=
 cond (decide (s2.1 < (a0.length : Int)))
   (Option.bind (Ja a0 s2.1) fun (x8 : Dcl) =>
 Option.bind (Xt x8) fun (x9 : (List U3)) =>
 Option.bind (Qw (m22_l0 x9 s2) QF (0, s2.2)) (Sum.elim (fun (o10 : (Qh U3 Int)) => some (.next ((QZ (s2.1 + 1)), o10))) (fun o => some (.done (.inr o)))))
   (some (.done (.inl s2.2)))
def m22_l2 (x10 : (List U3)) (o6 : (Qh U3 Int)) (s3 : (List Int) × Int) : Option (LO ((List Int) × Int) (((List Int)) ⊕ (((List (List Int)) × (Qh U3 Int)) ⊕ Unit ⊕ Unit))) :=
 cond (decide (s3.2 < (x10.length : Int)))
   (Option.bind (Ja x10 s3.2) fun (x13 : U3) =>
 cond (!(Jt o6 x13))
   (some (.done (.inr (.inr (.inr ())))))
   (Qy (Nat.ble (s3.1.length + ([(Je o6 x13)]).length) 1000000000)
 (some (.next ((s3.1 ++ ([(Je o6 x13)])), (QZ (s3.2 + 1)))))))
   (some (.done (.inl s3.1)))
def m22_l3 (a0 : List Dcl) (o6 : (Qh U3 Int)) (s2 : Int × (List (List Int))) : Option (LO (Int × (List (List Int))) (((List (List Int))) ⊕ (((List (List Int)) × (Qh U3 Int)) ⊕ Unit ⊕ Unit))) :=
 cond (decide (s2.1 < (a0.length : Int)))
   (Option.bind (Ja a0 s2.1) fun (x9 : Dcl) =>
 Option.bind (XA x9) fun (x10 : (List U3)) =>
 Option.bind (Qw (m22_l2 x10 o6) QF (([] : List Int), 0)) (Sum.elim (fun (o11 : (List Int)) => Option.bind (Zf o11) fun (x12 : List Int) =>
 Option.bind (JS x12 ((Enc.encL o11).length)) fun (x13 : List Int) =>
 Qy (Nat.ble (s2.2.length + ([x13]).length) 1000000000)
 (some (.next ((QZ (s2.1 + 1)), (s2.2 ++ ([x13])))))) (fun o => some (.done (.inr o)))))
   (some (.done (.inl s2.2)))
def m22_l4 (y1 : (List (List Int)) × (Qh U3 Int)) (s1 : (List Int) × (List Bool)) (a0 : List Dcl) (s2 : Int) : Option (LO Int Int) :=
 cond (decide (s2 < (y1.1.length : Int)))
   (Option.bind (Ja y1.1 s2) fun (x35 : List Int) =>
 Option.bind (Option.bind (Ja s1.2 s2) fun (x37 : Bool) =>
 Qy (Nat.beq s1.2.length ((a0.length : Int).toNat))
 (cond (!x37)
   (Option.bind (m43f5 x35 ((a0.length : Int).toNat) s1.2) fun (x40 : Bool) =>
 some (!x40))
   (some false))) (fun (v36 : Bool) => cond v36
   (some (.done s2))
   (some (.next (QZ (s2 + 1))))))
   (some (.done (-1)))
def m22_l5 (a0 : List Dcl) (y1 : (List (List Int)) × (Qh U3 Int)) (s1 : (List Int) × (List Bool)) : Option (LO ((List Int) × (List Bool)) (((List Int) × (List Bool)) ⊕ ((List Int) × Int))) :=
 cond (decide ((s1.1.length : Int) < (a0.length : Int)))
   (Option.bind (Qw (m22_l4 y1 s1 a0) QF 0) (fun (o33 : Int) => cond (decide (o33 < 0))
   (some (.done (.inr (([] : List Int), 22))))
   (Option.bind (Ja s1.2 o33) fun (x35 : Bool) =>
 Qy (Nat.beq s1.2.length ((a0.length : Int).toNat))
 (Qy (Nat.ble (s1.1.length + ([o33]).length) 1000000000)
 (some (.next ((s1.1 ++ ([o33])), (s1.2.set o33.toNat true))))))))
   (some (.done (.inl (s1.1, s1.2))))
def m22 (a0 : List Dcl) : Option ((List Int) × Int) :=
 Option.bind (Option.bind (Qw (m22_l1 a0) QF (0, gmNil)) (Sum.elim (fun (o6 : (Qh U3 Int)) => Option.bind (Qw (m22_l3 a0 o6) QF (0, ([] : List (List Int)))) (Sum.elim (fun (o7 : (List (List Int))) => some (.inl (o7, o6))) (fun o => some o))) (fun o => some o))) (Sum.elim (fun (y1 : (List (List Int)) × (Qh U3 Int)) => Qy (cond (decide (0 ≤ (a0.length : Int))) (Nat.ble (1 * (a0.length : Int).toNat) 281474976710656) false)
 (Option.bind (Qw (m22_l5 a0 y1) QF (([] : List Int), (List.replicate (a0.length : Int).toNat false))) (Sum.elim (fun (o31 : (List Int) × (List Bool)) => some (o31.1, 0)) (fun o => some o)))) (Sum.elim (fun (y2 : Unit) => some (([] : List Int), 8)) (fun (y3 : Unit) => some (([] : List Int), 9))))
end Go.Proofs.Ytijcchddnnnmdaa
namespace Go.Proofs.Ytijcchddnnnmdaa
open Go.RowKit Go.Shelf
set_option linter.unusedSimpArgs false
set_option linter.unusedVariables false
def m26_l0 (x1 : (List (List Int)) × Int) (s2 : Int × Int) (s1 : (List Int)) (s3 : Bool × Int) : Option (LO (Bool × Int) Bool) :=
 Option.bind (Ja x1.1 s2.2) fun (x10 : List Int) =>
 cond (decide (s3.2 < (x10.length : Int)))
   (Option.bind (cond s3.1
   (Option.bind (Ja x1.1 s2.2) fun (x14 : List Int) =>
 Option.bind (Ja x14 s3.2) fun (x15 : Int) =>
 Option.bind (m49 s1 x15) fun (x16 : Bool) =>
 some x16)
   (some false)) (fun (v12 : Bool) => some (.next (v12, (QZ (s3.2 + 1))))))
   (some (.done s3.1))
def m26_l1 (a0 : List Dcl) (s1 : (List Int)) (x1 : (List (List Int)) × Int) (s2 : Int × Int) : Option (LO (Int × Int) Int) :=
 Option.bind (cond (decide (s2.2 < (a0.length : Int)))
   (some (decide (s2.1 < 0)))
   (some false)) (fun (v6 : Bool) => cond v6
   (Option.bind (m49 s1 s2.2) fun (x8 : Bool) =>
 Option.bind (Qw (m26_l0 x1 s2 s1) QF ((!x8), 0)) (fun (o9 : Bool) => cond o9
   (some (.next (s2.2, (QZ (s2.2 + 1)))))
   (some (.next (s2.1, (QZ (s2.2 + 1)))))))
   (some (.done s2.1)))
def m26_l2 (a0 : List Dcl) (x1 : (List (List Int)) × Int) (s1 : (List Int)) : Option (LO ((List Int)) (((List Int)) ⊕ ((List Int) × Int))) :=
 cond (decide ((s1.length : Int) < (a0.length : Int)))
   (Option.bind (Qw (m26_l1 a0 s1 x1) QF ((-1), 0)) (fun (o5 : Int) => cond (decide (o5 < 0))
   (some (.done (.inr (([] : List Int), 22))))
   (Qy (Nat.ble (s1.length + ([o5]).length) 1000000000)
 (some (.next (s1 ++ ([o5])))))))
   (some (.done (.inl s1)))
def m26 (a0 : List Dcl) : Option ((List Int) × Int) :=
 Option.bind (m25 a0) fun (x1 : (List (List Int)) × Int) =>
 cond (x1.2 != 0)
   (some (([] : List Int), x1.2))
   (Option.bind (Qw (m26_l2 a0 x1) QF ([] : List Int)) (Sum.elim (fun (o3 : (List Int)) => some (o3, 0)) (fun o => some o)))
end Go.Proofs.Ytijcchddnnnmdaa
namespace Go.Proofs.Ytijcchddnnnmdaa
open Go.RowKit Go.Lib
set_option linter.unusedSimpArgs false
set_option linter.unusedVariables false
set_option linter.unusedSectionVars false
def Gr (g : List (List Int)) (n : Nat) : Prop := g.length = n ∧ ∀ l ∈ g, l.length ≤ n ∧ ∀ j ∈ l, ∃ k : Nat, k < n ∧ j = (k : Int)
theorem graph_gr {env : List Dcl} (h : JV env env) : Gr (Yw env) env.length := by
  refine ⟨by unfold Yw; simp, fun l hl => ?_⟩
  unfold Yw at hl
  obtain ⟨d, hd, rfl⟩ := List.mem_map.1 hl
  refine ⟨?_, fun j hj => ?_⟩
  · unfold row
    refine Nat.le_trans (List.length_filter_le _ _) ?_
    simp
  · unfold row at hj
    obtain ⟨k, hk, rfl⟩ := List.mem_map.1 (List.mem_filter.1 hj).1
    exact ⟨k, List.mem_range.1 hk, rfl⟩
def readyL (out : List Int) (i : Nat) (l : List Int) : Bool := decide ((i : Int) ∉ out) && l.all fun j => decide (j ∈ out)
def pickF (out : List Int) : Nat → List (List Int) → Option Nat
  | _, [] => none
  | i, l :: g => if readyL out i l then some i else pickF out (i + 1) g
def orderG (g : List (List Int)) : Nat → List Int → List Int ⊕ Unit
  | 0, out => .inl out
  | k + 1, out => match pickF out 0 g with
    | none => .inr ()
    | some i => orderG g k (out ++ [(i : Int)])
inductive OSays (env : List Dcl) : List Int × Int → Prop
  | twice (h : ¬ (QE env).Nodup) : OSays env ([], 8)
  | none (h : (QE env).Nodup) (h2 : ¬ JV env env) : OSays env ([], 9)
  | loop (h : (QE env).Nodup) (h2 : JV env env) (h3 : orderG (Yw env) env.length [] = .inr ()) : OSays env ([], 22)
  | ok (h : (QE env).Nodup) (h2 : JV env env) (o : List Int) (h3 : orderG (Yw env) env.length [] = .inl o) : OSays env (o, 0)
end Go.Proofs.Ytijcchddnnnmdaa
namespace Go.Proofs.Ytijcchddnnnmdaa
open Go.RowKit
set_option linter.unusedSimpArgs false
set_option linter.unusedVariables false
set_option linter.unusedSectionVars false
def rowCell (base : Nat) (es : List (List Int)) (k : Nat) : CA := .app (base + k % 1000) 1 (Enc.encL (es.getD k []))
def Jw (base : Nat) (es : List (List Int)) : List CA := (List.range es.length).map (rowCell base es)
def Yi (base : Nat) (es : List (List Int)) : List (Nat × Option Tok) := (List.range (min es.length 1000)).map fun k => (base + k % 1000, some ⟨3, 1, (Enc.encL (es.getD k [])).length, []⟩)
theorem rowCells_get {base : Nat} {es : List (List Int)} {k : Nat} {row : List Int} (h : es[k]? = some row) : (Jw base es)[k]? = some (.app (base + k % 1000) 1 (Enc.encL row)) := by
  have hlt := (List.getElem?_eq_some_iff.1 h).1
  have e1 : es.getD k [] = row := by rw [List.getD_eq_getElem?_getD, h]; rfl
  simp only [Jw, rowCell, List.getElem?_map, List.getElem?_range hlt, Option.map_some, e1]
theorem YV (base : Nat) (es : List (List Int)) : (Jw base es).length = es.length := by simp [Jw]
theorem rowCells_set {base : Nat} {es : List (List Int)} {k : Nat} {row : List Int} (hk : k < es.length) : (Jw base es).set k (.app (base + k % 1000) 1 (Enc.encL row)) = Jw base (es.set k row) := by
  apply List.ext_getElem?
  intro j
  rw [List.getElem?_set, YV]
  by_cases hj : k = j
  · subst hj
    rw [if_pos rfl, if_pos hk, rowCells_get (row := row) (by rw [List.getElem?_set, if_pos rfl, if_pos hk])]
  · rw [if_neg hj]
    cases h : es[j]? with
    | none =>
      have h1 : es.length ≤ j := List.getElem?_eq_none_iff.1 h
      rw [List.getElem?_eq_none (by rw [YV]; exact h1), List.getElem?_eq_none (by rw [YV, List.length_set]; exact h1)]
    | some r => rw [rowCells_get h, rowCells_get (row := r) (by rw [List.getElem?_set, if_neg hj]; exact h)]
theorem lk_rangeMap {α : Type} (f : Nat → Nat) (v : Nat → α) : ∀ (l : List Nat) (k : Nat), k ∈ l → (∀ a ∈ l, f a = f k → a = k) → Ww (l.map fun a => (f a, v a)) (f k) = some (v k)
  | a :: l, k, hk, hi => by
    rw [List.map_cons, Qv]
    by_cases h : f a = f k
    · rw [if_pos h, hi a List.mem_cons_self h]
    · rw [if_neg h]
      have : k ∈ l := (List.mem_cons.1 hk).resolve_left fun e => h (by rw [e])
      exact lk_rangeMap f v l k this fun b hb => hi b (List.mem_cons_of_mem _ hb)
theorem rowToks_get {base : Nat} {es : List (List Int)} {k : Nat} {row : List Int} (h : es[k]? = some row) (hl : es.length ≤ 1000) : Ww (Yi base es) (base + k % 1000) = some (some ⟨3, 1, (Enc.encL row).length, []⟩) := by
  have hlt := (List.getElem?_eq_some_iff.1 h).1
  have e1 : es.getD k [] = row := by rw [List.getD_eq_getElem?_getD, h]; rfl
  have := lk_rangeMap (fun a => base + a % 1000) (fun a => (some ⟨3, 1, (Enc.encL (es.getD a [])).length, []⟩ : Option Tok)) (List.range (min es.length 1000)) k (List.mem_range.2 (by omega)) (fun a ha e => by
    have := List.mem_range.1 ha
    rw [Nat.mod_eq_of_lt (by omega), Nat.mod_eq_of_lt (by omega)] at e
    omega)
  rw [e1] at this
  exact this
theorem YN (base nx : Nat) (es : List (List Int)) (h : Nat.ble (base + 1000) nx = true) : ((Yi base es).all fun p => Nat.blt p.1 nx) = true := by
  have h1 := Nat.le_of_ble_eq_true h
  refine List.all_eq_true.2 fun p hp => ?_
  obtain ⟨k, -, rfl⟩ := List.mem_map.1 hp
  have : k % 1000 < 1000 := Nat.mod_lt _ (by decide)
  exact Nat.ble_eq_true_of_le (by dsimp only; omega)
theorem rowCells_below (base nx : Nat) (es : List (List Int)) (h : Nat.ble (base + 1000) nx = true) : ∀ x ∈ Jw base es, x.below nx := fun x hx => by
  have h1 := Nat.le_of_ble_eq_true h
  obtain ⟨k, -, rfl⟩ := List.mem_map.1 hx
  have : k % 1000 < 1000 := Nat.mod_lt _ (by decide)
  show base + k % 1000 < nx
  omega
abbrev nilC : CA := .d (.v (.slice none 0 0))
theorem K9 {α : Type} (n k : Nat) : (List.replicate n ([] : List α)).getD k [] = [] := by
  rw [List.getD_eq_getElem?_getD, List.getElem?_replicate]
  split <;> rfl
theorem rowCells_rep (base n : Nat) : Jw base (List.replicate (n + 1) []) = Jw base (List.replicate n []) ++ [.app (base + n % 1000) 1 []] := by
  unfold Jw rowCell
  rw [List.length_replicate, List.length_replicate, List.range_succ, List.map_append]
  congr 1
  · exact List.map_congr_left fun k hk => by rw [K9, K9]
  · rw [List.map_singleton, K9]; rfl
theorem rowToks_rep (base n : Nat) (hn : n < 1000) : Yi base (List.replicate (n + 1) []) = Yi base (List.replicate n []) ++ [(base + n % 1000, some ⟨3, 1, 0, []⟩)] := by
  unfold Yi
  rw [List.length_replicate, List.length_replicate, Nat.min_eq_left (by omega), Nat.min_eq_left (by omega), List.range_succ, List.map_append]
  congr 1
  · exact List.map_congr_left fun k hk => by rw [K9, K9]
  · rw [List.map_singleton, K9]; rfl
theorem HRel.adoptRows {E : Env} {V : Vu} {hp : List (Nat × HB)} {tk : List (Nat × Option Tok)} {w : World} (H : HRel E V hp tk w) {i : Nat} {T : TypeId} (n : Nat) (hn : n ≤ 1000) (hi : Ww hp i = some (.cells T (List.replicate n nilC))) :
    ∀ k, k ≤ n → ∃ V', HRel E V' ((i, .cells T (Jw V.nx (List.replicate k []) ++ List.replicate (n - k) nilC)) :: hp) (Yi V.nx (List.replicate k [])) w ∧ V.Le V' w w ∧ V'.nx = V.nx + k := by
  intro k
  induction k with
  | zero =>
    intro _
    refine ⟨V, H.forget (fun j B hj => ?_) (fun j T hj => ?_), Vu.Le.refl V w, rfl⟩
    · rw [Qv] at hj
      split at hj
      · rename_i e1; subst e1; rw [hi]; rw [← hj]; rfl
      · exact hj
    · cases hj
  | succ k ih =>
    intro hk
    obtain ⟨V', H1, L1, hn1⟩ := ih (by omega)
    have hl : (Jw V.nx (List.replicate k [])).length = k := by rw [YV, List.length_replicate]
    obtain ⟨H2, L2⟩ := H1.adoptC (i := i) (off := k) (T := T) 3 1 (by rw [Qv, if_pos rfl]) (by rw [List.getElem?_append_right (by omega), hl, Nat.sub_self, List.getElem?_replicate, if_pos (by omega)])
    refine ⟨_, H2.forget (fun j B hj => ?_) (fun j T' hj => ?_), L1.trans L2, ?_⟩
    · rw [Qv] at hj ⊢
      split at hj
      · rename_i e1
        rw [if_pos e1, ← hj]
        congr 2
        rw [rowCells_rep, List.set_append_right _ _ (by omega), hl, Nat.sub_self, show n - k = (n - (k + 1)) + 1 by omega, List.replicate_succ, List.set_cons_zero, hn1, Nat.mod_eq_of_lt (by omega)]
        simp
      · rename_i e1
        rw [if_neg e1, Qv, if_neg e1]; exact hj
    · rw [rowToks_rep _ _ (by omega), lk_app] at hj
      rw [Qv, hn1]
      split at hj
      · rename_i x hx
        have : j < V.nx + k := by
          obtain ⟨q, hq, e1⟩ := List.mem_map.1 (Gi hx)
          have hq2 := List.mem_range.1 hq
          rw [List.length_replicate, Nat.min_eq_left (by omega)] at hq2
          have e2 := (Prod.mk.inj e1).1
          rw [Nat.mod_eq_of_lt (by omega)] at e2
          omega
        rw [if_neg (by omega)]
        rw [← hj]; exact hx
      · rw [Qv] at hj
        split at hj
        · rename_i e1
          rw [Nat.mod_eq_of_lt (by omega)] at e1
          rw [if_pos e1]; exact hj
        · cases hj
    · show max V'.nx (V'.nx + 1) = _
      omega
section
variable {E : Env} {st : St} {dd : Option Tmp} {ty : TypeId} {pos : String} {af : Array Edge} {g : Option (Nat × Bool)}
theorem zeroRow_nil (n : Nat) : Ji [.slice none 0 0] n = List.replicate n nilC := by
  apply List.ext_getElem?
  intro k
  simp only [Ji, List.getElem?_map, List.getElem?_replicate, List.length_singleton, Nat.mul_one]
  by_cases hk : k < n
  · rw [List.getElem?_range hk, if_pos hk]
    simp [Nat.mod_one]
  · rw [List.getElem?_eq_none (by simpa using hk), if_neg hk]; rfl
theorem OpOK.makeRows {t e by_ : Nat} {o1 o2 : Operand} {m : Int} (ht : J0 E.P t = some (e, 1)) (hze : Jk E.P e = some [.slice none 0 0]) (hel : Yf E.P e = some (1, by_)) (hb : Nat.ble by_ 1000000 = true)
    (h1 : ev st.tm o1 = some (WW m)) (h2 : ev st.tm o2 = some (WW m)) (hm : (cond (decide (0 ≤ m)) (Nat.ble m.toNat 1000) false) = true) :
    OpOK E ⟨dd, .makeSlice t o1 o2, ty, pos, af, g⟩ st (.v (.one (.osl st.nx 0 m.toNat m.toNat))) ⟨(st.nx, .cells e (Jw (st.nx + 1) (List.replicate m.toNat []))) :: st.hp, Yi (st.nx + 1) (List.replicate m.toNat []), st.nx + 1001⟩ := by
  have h0 : 0 ≤ m := of_decide_eq_true (cond_left hm)
  have hn : m.toNat ≤ 1000 := Nat.le_of_ble_eq_true (cond_right hm)
  have hb' := Nat.le_of_ble_eq_true hb
  have hmm : (m.toNat : Int) = m := Int.toNat_of_nonneg h0
  have hbb : by_ * m.toNat ≤ 1000000 * 1000 := Nat.mul_le_mul hb' hn
  have ok := OpOK.makeSlice (E := E) (st := st) (dd := dd) (ty := ty) (pos := pos) (af := af) (g := g) (l := m.toNat) (c := m.toNat) ht hze rfl rfl hel (by rw [hmm]; exact h1) (by rw [hmm]; exact h2) (Nat.le_refl _) (by omega) (by omega)
  rw [zeroRow_nil] at ok
  intro V a w hr ro n K Q hK
  refine ok V a w hr ro n K Q (fun V' w' v H hnx L hx => ?_)
  obtain ⟨V2, H2, L2, hn2⟩ := H.adoptRows (i := st.nx) (T := e) m.toNat hn (by rw [Qv, if_pos rfl]) m.toNat (Nat.le_refl _)
  rw [Nat.sub_self, List.replicate_zero, List.append_nil] at H2
  rw [hnx] at H2 hn2
  dsimp only at H2 hn2
  obtain ⟨H3, L3⟩ := H2.skip (st.nx + 1001) (by rw [hn2]; omega)
  refine hK _ w' v (H3.forget (fun j B hj => ?_) (fun j T hj => hj)) rfl (L.trans (L2.trans L3)) (hx.mono (L2.trans L3))
  rw [Qv] at hj ⊢
  split at hj
  · rename_i e1; rw [if_pos e1]; exact hj
  · rename_i e1; rw [if_neg e1, Qv, if_neg e1]; exact hj
end
theorem tkLe.of {tk : List (Nat × Option Tok)} : ∀ {r : List (Nat × Option Tok)}, (∀ p ∈ r, ∀ T, p.2 = some T → Ww tk p.1 = some (some T)) → tkLe tk r
  | [], _ => trivial
  | (t, y) :: r, h => ⟨fun T e => h (t, y) List.mem_cons_self T e, tkLe.of fun p hp => h p (List.mem_cons_of_mem _ hp)⟩
theorem Xx {base : Nat} {es : List (List Int)} : tkLe (Yi base es) (Yi base es) := tkLe.of fun p hp T e => by
  obtain ⟨k, hk, rfl⟩ := List.mem_map.1 hp
  have hk' := List.mem_range.1 hk
  cases e
  refine lk_rangeMap (fun a => base + a % 1000) (fun a => (some ⟨3, 1, (Enc.encL (es.getD a [])).length, []⟩ : Option Tok)) (List.range (min es.length 1000)) k hk (fun a ha e => ?_)
  have := List.mem_range.1 ha
  rw [Nat.mod_eq_of_lt (by omega), Nat.mod_eq_of_lt (by omega)] at e
  omega
theorem Wa {m i : Nat} {T : TypeId} {base : Nat} {es : List (List Int)} {r : List (Nat × HB)} (h : Nat.blt i m = true) (hb : Nat.ble (base + 1000) m = true) (l : hpBelow m r) : hpBelow m ((i, .cells T (Jw base es)) :: r) := ⟨Kb h, rowCells_below base m es hb, l⟩
theorem rowsCLs (base : Nat) (es : List (List Int)) : CLs (Jw base es) (Q9 es) := by
  have : ∀ (l : List Nat), CLs (l.map (rowCell base es)) (l.map fun k => .d (.sl 1 (Enc.encL (es.getD k [])))) := by
    intro l
    induction l with
    | nil => exact .nil
    | cons x l ih => exact .cons (.sub (.app _ _ _)) ih
  have h1 := this (List.range es.length)
  have e : Q9 es = (List.range es.length).map fun k => CA.d (.sl 1 (Enc.encL (es.getD k []))) := by
    apply List.ext_getElem?
    intro k
    unfold Q9
    rw [Enc.map]
    have hsz : ∀ l : List (List Int), (l.map Enc.enc).flatten = l.map fun r => C.sl 1 (Enc.encL r) := by
      intro l
      induction l with
      | nil => rfl
      | cons x l ih => rw [List.map_cons, List.flatten_cons, ih]; rfl
    rw [hsz, List.map_map, List.getElem?_map, List.getElem?_map]
    by_cases hk : k < es.length
    · rw [List.getElem?_range hk, List.getElem?_eq_getElem hk]
      simp [List.getD_eq_getElem?_getD, List.getElem?_eq_getElem hk]
    · rw [List.getElem?_eq_none (by omega), List.getElem?_eq_none (by simpa using hk)]; rfl
  rw [e]; exact h1
theorem XQ.rows {E : Env} {Q : Exit → Act → World → Prop} {st : St} {e : Exit} {i base : Nat} {T : TypeId} {es : List (List Int)} (hi : Ww st.hp i = some (.cells T (Jw base es)))
    (k : XQ E Q e ⟨st.tm, [(i, .cells T (Q9 es))], [], st.nx, st.nt, st.df⟩) : XQ E Q e st := fun V a w hr =>
  k V a w ⟨hr.h.forgetLe (WE hi (rowsCLs base es) WC) Wy, hr.nx, hr.nt, hr.df, hr.tm⟩
section
variable {E : Env} {st : St} {dd : Option Tmp} {ty : TypeId} {pos : String} {af : Array Edge} {g : Option (Nat × Bool)}
theorem RO.indexRow {t e i n base : Nat} {T : TypeId} {x y : Operand} {m : Int} {es : List (List Int)} {row : List Int} (ht : J0 E.P t = some (e, 1)) (hx : ev st.tm x = some (.v (.one (.osl i 0 n n)))) (hy : ev st.tm y = some (WW m)) (hv : Ja es m = some row) (hn : Nat.beq es.length n = true) :
    RO E ⟨dd, .indexAddr t x y, ty, pos, af, g⟩ st (.v (.one (.ptr i m.toNat))) := by
  obtain ⟨k, rfl, hk⟩ := Xa hv
  have hl : es.length = n := Nat.eq_of_beq_eq_true hn
  have := RO.indexOsl (E := E) (st := st) (d := dd) (ty := ty) (pos := pos) (af := af) (g := g) (k := k) ht hx hy rfl (by rw [← hl]; exact (List.getElem?_eq_some_iff.1 hk).1)
  rw [Nat.zero_add, Nat.mul_one] at this; exact this
theorem RO.loadRow {t i base : Nat} {T : TypeId} {x : Operand} {m : Int} {es : List (List Int)} {row : List Int} (ht : Jl E.P t = some (false, 1)) (hx : ev st.tm x = some (.v (.one (.ptr i m.toNat)))) (hi : Ww st.hp i = some (.cells T (Jw base es))) (hv : Ja es m = some row) :
    RO E ⟨dd, .load t x, ty, pos, af, g⟩ st (.v (.one (.app (base + m.toNat % 1000) 1 (Enc.encL row)))) := by
  obtain ⟨k, rfl, hk⟩ := Xa hv
  exact Q7 ht hx hi (rowCells_get hk)
theorem rowTok {base : Nat} {es : List (List Int)} {m : Int} {row : List Int} (hv : Ja es m = some row) (hl : Nat.ble es.length 1000 = true) : Ww (Yi base es) (base + m.toNat % 1000) = some (some ⟨3, 1, (Enc.encL row).length, []⟩) := by
  obtain ⟨k, rfl, hk⟩ := Xa hv
  exact rowToks_get hk (Nat.le_of_ble_eq_true hl)
theorem OpOK.storeRow {t i base : Nat} {T : TypeId} {o1 o2 : Operand} {m : Int} {es : List (List Int)} {row row2 : List Int} (ht : Jl E.P t = some (false, 1)) (h1 : ev st.tm o1 = some (.v (.one (.ptr i m.toNat)))) (h2 : ev st.tm o2 = some (.v (.one (.app (base + m.toNat % 1000) 1 (Enc.encL row2)))))
    (hi : Ww st.hp i = some (.cells T (Jw base es))) (hv : Ja es m = some row) (hl : Nat.ble es.length 1000 = true) (htk : st.tk = (base + m.toNat % 1000, some ⟨3, 1, (Enc.encL row2).length, []⟩) :: Jy (base + m.toNat % 1000) (Yi base es)) (hdd : dd = none) :
    OpOK E ⟨dd, .store t o1 o2, ty, pos, af, g⟩ st (.tup []) ⟨(i, .cells T (Jw base (es.set m.toNat row2))) :: Jy i st.hp, Yi base (es.set m.toNat row2), st.nx⟩ := by
  obtain ⟨k, rfl, hk⟩ := Xa hv
  have hlt := (List.getElem?_eq_some_iff.1 hk).1
  rw [Int.toNat_natCast] at h1 h2 htk
  rw [Int.toNat_natCast]
  have hl' := Nat.le_of_ble_eq_true hl
  have ok := Ql (E := E) (st := st) (dd := dd) (ty := ty) (pos := pos) (af := af) (g := g) ht h1 h2 hi rfl (by rw [YV]; exact hlt) hdd
  intro V a w hr ro n K Q hK
  refine ok V a w hr ro n K Q (fun V' w' v H hnx L hx => ?_)
  refine hK V' w' v (H.forget (fun j B hj => ?_) (fun j T' hj => ?_)) hnx L hx
  · rw [Qv] at hj ⊢
    split at hj
    · rename_i e1
      rw [if_pos e1, ← hj]
      congr 2
      exact (rowCells_set hlt).symm ▸ rfl
    · rename_i e1; rw [if_neg e1]; exact hj
  · rw [htk, Yo, Qv]
    have hlen : (es.set k row2).length = es.length := by simp
    obtain ⟨q, hq, e1⟩ := List.mem_map.1 (Gi hj)
    have hq2 := List.mem_range.1 hq
    rw [hlen] at hq2
    have e2 := (Prod.mk.inj e1).1
    have e3 := (Prod.mk.inj e1).2
    have hkm : k % 1000 = k := Nat.mod_eq_of_lt (by omega)
    rw [Nat.mod_eq_of_lt (by omega)] at e2
    rw [hkm]
    rw [← e3, ← e2]
    by_cases hqk : q = k
    · subst hqk
      rw [if_pos rfl]
      congr 2
      show _ = Tok.mk 3 1 (Enc.encL ((es.set q row2).getD q [])).length []
      rw [List.getD_eq_getElem?_getD, List.getElem?_set, if_pos rfl, if_pos hlt]; rfl
    · rw [if_neg (by omega)]
      have h5 : es[q]? = some (es.getD q []) := by
        rw [List.getD_eq_getElem?_getD, List.getElem?_eq_getElem (by omega)]; rfl
      have h6 := rowToks_get (base := base) h5 hl'
      rw [Nat.mod_eq_of_lt (by omega)] at h6
      rw [h6]
      congr 2
      show _ = Tok.mk 3 1 (Enc.encL ((es.set k row2).getD q [])).length []
      rw [List.getD_eq_getElem?_getD, List.getD_eq_getElem?_getD, List.getElem?_set, if_neg (fun e => hqk e.symm)]
end
end Go.Proofs.Ytijcchddnnnmdaa
namespace Go.Proofs.Ytijcchddnnnmdaa
open Go.RowKit Go.Shelf
set_option linter.unusedSimpArgs false
set_option linter.unusedVariables false
theorem en_36 : J7 Try.prog 36 := enters_of Try.func36 (by kernel_rfl) rfl
def G3 (x4 : List Int) (a0 : List (List Int)) (s1 : Int × (List (List Int))) (s2 : Int × (List (List Int))) : Option (LO (Int × (List (List Int))) (((List (List Int))))) :=
 cond (decide (s2.1 < (x4.length : Int)))
   (Option.bind (Ja x4 s2.1) fun (x7 : Int) =>
 Option.bind (Ja s2.2 x7) fun (x8 : List Int) =>
 Qy (Nat.beq s2.2.length ((a0.length : Int).toNat))
 (Qy (Nat.ble s2.2.length 1000)
 (Qy (Nat.ble (x8.length + ([s1.1]).length) 1000000000)
 (Option.bind (Ja s2.2 x7) fun (x12 : List Int) =>
 Qy (Nat.beq s2.2.length ((a0.length : Int).toNat))
 (Qy (Nat.ble s2.2.length 1000)
 (some (.next ((QZ (s2.1 + 1)), (s2.2.set x7.toNat (x8 ++ ([s1.1])))))))))))
   (some (.done s2.2))
def GD (a0 : List (List Int)) (s1 : Int × (List (List Int))) : Option (LO (Int × (List (List Int))) (((List (List Int))))) :=
 cond (decide (s1.1 < (a0.length : Int)))
   (Option.bind (Ja a0 s1.1) fun (x4 : List Int) =>
 Option.bind (Qw (G3 x4 a0 s1) QF (0, s1.2)) (fun (o5 : (List (List Int))) => some (.next ((QZ (s1.1 + 1)), o5))))
   (some (.done s1.2))
def W7 (a0 : List (List Int)) : Option ((List (List Int))) :=
 Qy (cond (decide (0 ≤ (a0.length : Int))) (Nat.ble (a0.length : Int).toNat 1000) false)
 (Option.bind (Qw (GD a0) QF (0, (List.replicate (a0.length : Int).toNat ([] : List Int)))) (fun (o2 : (List (List Int))) => Qy (Nat.beq o2.length ((a0.length : Int).toNat))
 (some o2)))
set_option maxRecDepth 100000 in
set_option maxHeartbeats 2000000 in
theorem m36_ok (a0 : List (List Int)) (r : (List (List Int))) (h0 : W7 a0 = some r) : Fun Try.prog 36 [.one (WJ a0)] (QA [.one (WJ r)]) := by
 unfold W7 at h0
 refine QU 9 37 Try.func36 rfl en_36 rfl (Wx rfl) (fun S w => ?_)
 simp only [Jb]
 refine Q2 <| Q0 <| Wo rfl rfl rfl <| Q3 <| Q1 <| Q2 <| Q0 <| Wn rfl rfl rfl <| Wm rfl rfl rfl (QC (α := List Int) Y7 rfl (.d _)) ?_
 refine QS h0 (fun g1 h0 => ?_)
 refine Qa rfl rfl (Wx rfl) (OpOK.makeRows Y7 Xr X7 rfl rfl rfl g1) <| Wo rfl rfl rfl <| Q3 <| Q1 <| Q2 <| Q2 <| Q0 <| Wn rfl rfl rfl <| Wm rfl rfl rfl (QC (α := List Int) Y7 rfl (.d _)) <| Wn rfl rfl rfl <| Q3 <| Q1 <| Qc ?_
 refine QI 0 (fun (o2 : (List (List Int))) => ⟨[(3, .v (.one (.osl 0 0 ((a0.length : Int).toNat) ((a0.length : Int).toNat))))], [(0, .cells 54 (Jw 1 o2))], (Yi 1 o2), 1001, 37, []⟩) (fun (o2 : (List (List Int))) => (Qy (Nat.beq o2.length ((a0.length : Int).toNat))
   (some o2)) = some r) ?_ ?_
 refine Qb h0 (fun o3 hl1 h0 => ?_)
 refine QH (GD a0) (fun s1 => ⟨[(3, .v (.one (.osl 0 0 ((a0.length : Int).toNat) ((a0.length : Int).toNat)))), (11, .v (.one (WJ a0))), (12, .v (.one (WL (a0.length : Int)))), (13, .v (.one (WL s1.1)))], [(0, .cells 54 (Jw 1 s1.2))], (Yi 1 s1.2), 1001, 37, []⟩) (0, (List.replicate (a0.length : Int).toNat ([] : List Int))) o3 (Qf (Wi rfl (Wi rfl (Wi rfl (Wi rfl Wh)))) (WD rfl WC) Xx rfl (Nat.zero_le _) rfl rfl rfl (Wa rfl rfl WR) (YN _ _ _ rfl) rfl) hl1 (fun s1 n1 oo1 h1 ho1 => ?_)
 unfold GD at h1
 refine Q2 <| Q0 <| Wm rfl rfl rfl (Q8 rfl rfl rfl) <| Q3 <| Q1 <| Q2 ?_
 refine Qe (b := (decide (s1.1 < (a0.length : Int)))) rfl (fun c4 => ?_) (fun c4 => ?_)
 replace h1 := Qq c4 h1
 refine Qi <| Q1 <| Q2 <| Qc <| Q2 <| Q0 <| Wn rfl rfl rfl ?_
 refine Qb h1 (fun x5 hx5 h1 => ?_)
 refine Wm rfl rfl rfl (Qm (α := List Int) Y7 rfl (.d _) rfl hx5) <| Wm rfl rfl rfl (QN Gs rfl rfl) <| Wo rfl rfl rfl <| Wo rfl rfl rfl <| Q3 <| Q1 <| Q2 <| Q0 <| Wn rfl rfl rfl <| Wm rfl rfl rfl (QC (α := Int) JU rfl (.d _)) <| Wn rfl rfl rfl <| Q3 <| Q1 <| Qc ?_
 refine QI 2 (fun (o6 : (List (List Int))) => ⟨[(3, .v (.one (.osl 0 0 ((a0.length : Int).toNat) ((a0.length : Int).toNat)))), (11, .v (.one (WJ a0))), (12, .v (.one (WL (a0.length : Int)))), (13, .v (.one (WL s1.1)))], [(0, .cells 54 (Jw 1 o6))], (Yi 1 o6), 1001, 37, []⟩) (fun (o6 : (List (List Int))) => (some (.next ((QZ (s1.1 + 1)), o6))) = some oo1) ?_ ?_
 refine Qb h1 (fun o7 hl2 h1 => ?_)
 refine QH (G3 x5 a0 s1) (fun s2 => ⟨[(3, .v (.one (.osl 0 0 ((a0.length : Int).toNat) ((a0.length : Int).toNat)))), (4, .v (.one (WL s1.1))), (11, .v (.one (WJ a0))), (12, .v (.one (WL (a0.length : Int)))), (13, .v (.one (WL s1.1))), (18, .v (.one (WJ x5))), (19, .v (.one (WL (x5.length : Int)))), (20, .v (.one (WL s2.1)))], [(0, .cells 54 (Jw 1 s2.2))], (Yi 1 s2.2), 1001, 37, []⟩) (0, s1.2) o7 (Qf (Wi rfl (Wi rfl (Wi rfl (Wi rfl (Wi rfl (Wi rfl (Wi rfl (Wi rfl Wh)))))))) (WD rfl WC) Xx rfl (Nat.zero_le _) rfl rfl rfl (Wa rfl rfl WR) (YN _ _ _ rfl) rfl) hl2 (fun s2 n2 oo2 h2 ho2 => ?_)
 unfold G3 at h2
 refine Q2 <| Q0 <| Wm rfl rfl rfl (Q8 rfl rfl rfl) <| Q3 <| Q1 <| Q2 ?_
 refine Qe (b := (decide (s2.1 < (x5.length : Int)))) rfl (fun c8 => ?_) (fun c8 => ?_)
 replace h2 := Qq c8 h2
 refine Qi <| Q1 <| Q2 <| Qc <| Q2 <| Q0 ?_
 refine Qb h2 (fun x9 hx9 h2 => ?_)
 refine Wm rfl rfl rfl (Qm (α := Int) JU rfl (.d _) rfl hx9) <| Wm rfl rfl rfl (QN YA rfl rfl) <| Wo rfl rfl rfl <| Q3 <| Q1 <| Q0 <| Wn rfl rfl rfl <| Wn rfl rfl rfl <| Wn rfl rfl rfl <| Wn rfl rfl rfl ?_
 refine Qb h2 (fun x10 hx10 h2 => ?_)
 refine QS h2 (fun g11 h2 => ?_)
 refine Wm rfl rfl rfl (RO.indexRow (base := 1) (T := 54) Y7 rfl rfl hx10 g11) <| Wm rfl rfl rfl (RO.loadRow Gs rfl rfl hx10) <| Wn rfl rfl rfl <| Qa rfl rfl (Wx rfl) (Y3 (α := Int) (s1.1) JU XE rfl rfl (Wx rfl) rfl rfl (.cons (.d _) .nil) rfl) ?_
 refine QS h2 (fun g12 h2 => ?_)
 refine QS h2 (fun g13 h2 => ?_)
 refine Qa rfl rfl (Wx rfl) (QW (α := Int) JU Xn rfl rfl (rowTok hx10 g12) rfl rfl (.d _) g13) ?_
 refine Qb h2 (fun x14 hx14 h2 => ?_)
 refine QS h2 (fun g15 h2 => ?_)
 refine Wm rfl rfl rfl (RO.indexRow (base := 1) (T := 54) Y7 rfl rfl hx14 g15) ?_
 refine QS h2 (fun g16 h2 => ?_)
 refine QJ rfl rfl (OpOK.storeRow Gs rfl rfl rfl hx14 g16 rfl rfl) <| Q3 <| Qj <| Q1 <| Q0 <| Wm rfl rfl rfl (Q8 rfl rfl rfl) <| Wn rfl rfl rfl <| Q3 ?_
 have e := Wk h2; subst e
 refine QD ((QZ (s2.1 + 1)), (s2.2.set x9.toNat (x10 ++ ([s1.1])))) (Qf (Wi rfl (Wi rfl (Wi rfl (Wi rfl (Wi rfl (Wi rfl (Wi rfl (Wi rfl Wh)))))))) (WD rfl WC) Xx rfl (Nat.zero_le _) rfl rfl rfl (Wa rfl rfl WR) (YN _ _ _ rfl) rfl) ho2
 replace h2 := Qr c8 h2
 refine QM <| Qd <| Qd ?_
 have e := Wk h2; subst e
 have e_ : _ = _ := ho2
 subst e_
 exact QG s2.2 (Qf (Wi rfl (Wi rfl (Wi rfl (Wi rfl Wh)))) (WD rfl WC) Xx rfl (Nat.zero_le _) rfl rfl rfl (Wa rfl rfl WR) (YN _ _ _ rfl) rfl) h1
 intro o6 h1
 refine QB <| Qj <| Q1 <| Q0 <| Wm rfl rfl rfl (Q8 rfl rfl rfl) <| Wn rfl rfl rfl <| Q3 ?_
 have e := Wk h1; subst e
 refine QD ((QZ (s1.1 + 1)), o6) (Qf (Wi rfl (Wi rfl (Wi rfl (Wi rfl Wh)))) (WD rfl WC) Xx rfl (Nat.zero_le _) rfl rfl rfl (Wa rfl rfl WR) (YN _ _ _ rfl) rfl) ho1
 replace h1 := Qr c4 h1
 refine QM <| Qd <| Qd ?_
 have e := Wk h1; subst e
 have e_ : _ = _ := ho1
 subst e_
 exact QG s1.2 (Qf (Wi rfl Wh) (WD rfl WC) Xx rfl (Nat.zero_le _) rfl rfl rfl (Wa rfl rfl WR) (YN _ _ _ rfl) rfl) h0
 intro o2 h0
 refine QB <| Q1 <| Q2 <| Q0 <| Wn rfl rfl rfl <| Wo rfl rfl rfl <| Q3 <| Q1 <| Qz ?_
 refine QS h0 (fun g17 h0 => ?_)
 have e := Wk h0; subst e
 refine XQ.rows (i := 0) rfl <| XQ.freezeT (α := List Int) (t := 2) rfl rfl g17 ?_
 exact QO (fun _ _ h => h) rfl (Qo rfl .nil) (.cons (.one (.d _)) .nil)
end Go.Proofs.Ytijcchddnnnmdaa
namespace Go.Proofs.Ytijcchddnnnmdaa
open Go.RowKit Go.Shelf
set_option linter.unusedSimpArgs false
set_option linter.unusedVariables false
theorem ZZ : Jl Try.prog 106 = some (false, 1) := by kernel_rfl
theorem z_106 : Jk Try.prog 106 = some [.nilFunc] := by kernel_rfl
theorem en_12 : J7 Try.prog 12 := enters_of Try.func12 (by kernel_rfl) rfl
theorem en_35 : J7 Try.prog 35 := enters_of Try.func35 (by kernel_rfl) rfl
theorem en_56 : J7 Try.prog 56 := enters_of Try.func56 (by kernel_rfl) rfl
def Zy (x6 : List Int) (rc : Int × Nat × (List Bool) × (List (List Int)) → Option ((List Bool))) (a1 : Nat) (a3 : List (List Int)) (s1 : Int × (List Bool)) : Option (LO (Int × (List Bool)) (((List Bool)))) :=
 cond (decide (s1.1 < (x6.length : Int)))
   (Option.bind (Ja x6 s1.1) fun (x9 : Int) =>
 Option.bind (rc (x9, a1, s1.2, a3)) fun (x10 : (List Bool)) =>
 some (.next ((QZ (s1.1 + 1)), x10)))
   (some (.done s1.2))
def Gh (rc : Int × Nat × (List Bool) × (List (List Int)) → Option ((List Bool))) (a0 : Int) (a1 : Nat) (a2 : List Bool) (a3 : List (List Int)) : Option ((List Bool)) :=
 Option.bind (Ja a2 a0) fun (x1 : Bool) =>
 Qy (Nat.beq a2.length a1)
 (cond x1
   (some a2)
   (Option.bind (Ja a2 a0) fun (x4 : Bool) =>
 Qy (Nat.beq a2.length a1)
 (Option.bind (Ja a3 a0) fun (x6 : List Int) =>
 Option.bind (Qw (Zy x6 rc a1 a3) QF (0, (a2.set a0.toNat true))) (fun (o7 : (List Bool)) => some o7))))
def m56f12F (rc : Int × Nat × (List Bool) × (List (List Int)) → Option ((List Bool))) (u : Int × Nat × (List Bool) × (List (List Int))) : Option ((List Bool)) := Gh rc u.1 u.2.1 u.2.2.1 u.2.2.2
def m56f12 (a0 : Int) (a1 : Nat) (a2 : List Bool) (a3 : List (List Int)) : Option ((List Bool)) := Yb m56f12F QF (a0, a1, a2, a3)
set_option maxRecDepth 100000 in
set_option maxHeartbeats 2000000 in
theorem m56f12s_ok (rc : Int × Nat × (List Bool) × (List (List Int)) → Option ((List Bool))) (H : ∀ (a0 : Int) (a1 : Nat) (a2 : List Bool) (a3 : List (List Int)) (r : (List Bool)), rc (a0, a1, a2, a3) = some r → CallM Try.prog 56 [.one (WL a0), .one (.ptr 0 0), .one (.ptr 2 0), .one (.ptr 3 0)] ⟨[(0, .cells 75 [.osl 1 0 a1 a1]), (1, .cells 4 (Q9 a2)), (2, .cells 57 [WJ a3]), (3, .cells 106 [.fn 56 [(0, 0), (2, 0), (3, 0)]])], [], 4⟩ (QA []) ⟨[(0, .cells 75 [.osl 1 0 a1 a1]), (1, .cells 4 (Q9 r)), (2, .cells 57 [WJ a3]), (3, .cells 106 [.fn 56 [(0, 0), (2, 0), (3, 0)]])], [], 4⟩) (a0 : Int) (a1 : Nat) (a2 : List Bool) (a3 : List (List Int)) (r : (List Bool)) (h0 : Gh rc a0 a1 a2 a3 = some r) : CallM Try.prog 56 [.one (WL a0), .one (.ptr 0 0), .one (.ptr 2 0), .one (.ptr 3 0)] ⟨[(0, .cells 75 [.osl 1 0 a1 a1]), (1, .cells 4 (Q9 a2)), (2, .cells 57 [WJ a3]), (3, .cells 106 [.fn 56 [(0, 0), (2, 0), (3, 0)]])], [], 4⟩ (QA []) ⟨[(0, .cells 75 [.osl 1 0 a1 a1]), (1, .cells 4 (Q9 r)), (2, .cells 57 [WJ a3]), (3, .cells 106 [.fn 56 [(0, 0), (2, 0), (3, 0)]])], [], 4⟩ := by
 unfold Gh at h0
 refine QR ⟨[], [(0, .cells 75 [.osl 1 0 a1 a1]), (1, .cells 4 (Q9 r)), (2, .cells 57 [WJ a3]), (3, .cells 106 [.fn 56 [(0, 0), (2, 0), (3, 0)]])], [], 4, 27, []⟩ rfl rfl en_56 (Wx rfl) rfl .nil (fun w0 M V0 Q hv0 hQ0 => ?_)
 simp only [Jb]
 refine Q2 <| Q2 <| Q0 <| Wm rfl rfl rfl (Q7 Zp rfl rfl rfl) <| Wn rfl rfl rfl ?_
 refine Qb h0 (fun x1 hx1 h0 => ?_)
 refine QS h0 (fun g2 h0 => ?_)
 refine Wm rfl rfl rfl (Jp (α := Bool) Zo rfl rfl hx1 g2) <| Wm rfl rfl rfl (YS (α := Bool) (m := a0) (f := 0) Gt rfl rfl hx1 rfl) <| Q3 <| Q1 ?_
 refine Qe (b := x1) rfl (fun c3 => ?_) (fun c3 => ?_)
 replace h0 := Qq c3 h0
 refine Qz ?_
 have e := Wk h0; subst e
 exact hQ0 _ _ _ (.inr rfl) rfl (Qf Wh (WD rfl (WD rfl (WD rfl (WD rfl WC)))) Wy rfl (Nat.le_trans hv0 (Wx rfl)) rfl rfl rfl (WU rfl rfl (WT rfl (WU rfl rfl (WU rfl rfl WR)))) rfl rfl)
 replace h0 := Qr c3 h0
 refine Qi <| Q1 <| Q2 <| Q0 <| Wm rfl rfl rfl (Q7 Zp rfl rfl rfl) <| Wn rfl rfl rfl ?_
 refine Qb h0 (fun x4 hx4 h0 => ?_)
 refine QS h0 (fun g5 h0 => ?_)
 refine Wm rfl rfl rfl (Jp (α := Bool) Zo rfl rfl hx4 g5) <| QJ rfl rfl (OpOK.storeOE (α := Bool) (y' := .one (WM true)) (v := true) Gt rfl rfl (.one (.d _)) rfl rfl hx4 rfl) <| Q3 <| Q1 <| Q2 <| Q0 <| Wm rfl rfl rfl (Q7 Y1 rfl rfl rfl) <| Wn rfl rfl rfl ?_
 refine Qb h0 (fun x6 hx6 h0 => ?_)
 refine Wm rfl rfl rfl (Qm (α := List Int) Y7 rfl (.d _) rfl hx6) <| Wm rfl rfl rfl (QN Gs rfl rfl) <| Wm rfl rfl rfl (QC (α := Int) JU rfl (.d _)) <| Wn rfl rfl rfl <| Q3 <| Q1 <| Qc ?_
 refine QI 0 (fun (o7 : (List Bool)) => ⟨[], [(0, .cells 75 [.osl 1 0 a1 a1]), (1, .cells 4 (Q9 o7)), (2, .cells 57 [WJ a3]), (3, .cells 106 [.fn 56 [(0, 0), (2, 0), (3, 0)]])], [], 4, 27, []⟩) (fun (o7 : (List Bool)) => (some o7) = some r) ?_ ?_
 refine Qb h0 (fun o8 hl1 h0 => ?_)
 refine QH (Zy x6 rc a1 a3) (fun s1 => ⟨[(3, .v (.one (.ptr 3 0))), (17, .v (.one (WJ x6))), (18, .v (.one (WL (x6.length : Int)))), (19, .v (.one (WL s1.1)))], [(0, .cells 75 [.osl 1 0 a1 a1]), (1, .cells 4 (Q9 s1.2)), (2, .cells 57 [WJ a3]), (3, .cells 106 [.fn 56 [(0, 0), (2, 0), (3, 0)]])], [], 4, 27, []⟩) (0, (a2.set a0.toNat true)) o8 (Qf (Wi rfl (Wi rfl (Wi rfl (Wi rfl Wh)))) (WD rfl (WD rfl (WD rfl (WD rfl WC)))) Wy rfl (Nat.le_trans hv0 (Wx rfl)) rfl rfl rfl (WU rfl rfl (WT rfl (WU rfl rfl (WU rfl rfl WR)))) rfl rfl) hl1 (fun s1 n1 oo1 h1 ho1 => ?_)
 unfold Zy at h1
 refine Q2 <| Q0 <| Wm rfl rfl rfl (Q8 rfl rfl rfl) <| Q3 <| Q1 <| Q2 ?_
 refine Qe (b := (decide (s1.1 < (x6.length : Int)))) rfl (fun c9 => ?_) (fun c9 => ?_)
 replace h1 := Qq c9 h1
 refine Qi <| Q1 <| Q2 <| Qc <| Q2 <| Q0 ?_
 refine Qb h1 (fun x10 hx10 h1 => ?_)
 refine Wm rfl rfl rfl (Qm (α := Int) JU rfl (.d _) rfl hx10) <| Wm rfl rfl rfl (QN YA rfl rfl) <| Wo rfl rfl rfl <| Q3 <| Q1 <| Q0 <| Wm rfl rfl rfl (Q7 ZZ rfl rfl rfl) <| Wn rfl rfl rfl ?_
 refine Qb h1 (fun x11 hx11 h1 => ?_)
 refine Qa rfl rfl (Wx rfl) (J2 (hp1' := [(0, .cells 75 [.osl 1 0 a1 a1]), (1, .cells 4 (Q9 x11)), (2, .cells 57 [WJ a3]), (3, .cells 106 [.fn 56 [(0, 0), (2, 0), (3, 0)]])]) (tk1' := []) (hpF := []) (tkF := []) (res2 := QA []) (nx2 := 4) [0, 1, 2, 3] rfl rfl (H x10 a1 s1.2 a3 x11 hx11) rfl rfl (Ws rfl rfl (Wr rfl (Ws rfl rfl (Ws rfl rfl Wp)))) rfl rfl (WG rfl (WI rfl (WG rfl (WG rfl WF)))) WA WC Wy rfl rfl rfl rfl rfl (WU rfl rfl (WT rfl (WU rfl rfl (WU rfl rfl WR)))) rfl rfl rfl rfl) <| Q3 <| Qj <| Q1 <| Q0 <| Wm rfl rfl rfl (Q8 rfl rfl rfl) <| Wn rfl rfl rfl <| Q3 ?_
 have e := Wk h1; subst e
 refine QD ((QZ (s1.1 + 1)), x11) (Qf (Wi rfl (Wi rfl (Wi rfl (Wi rfl Wh)))) (WD rfl (WD rfl (WD rfl (WD rfl WC)))) Wy rfl (Nat.le_trans hv0 (Wx rfl)) rfl rfl rfl (WU rfl rfl (WT rfl (WU rfl rfl (WU rfl rfl WR)))) rfl rfl) ho1
 replace h1 := Qr c9 h1
 refine QM <| Qd <| Qd ?_
 have e := Wk h1; subst e
 have e_ : _ = _ := ho1
 subst e_
 exact QG s1.2 (Qf Wh (WD rfl (WD rfl (WD rfl (WD rfl WC)))) Wy rfl (Nat.le_trans hv0 (Wx rfl)) rfl rfl rfl (WU rfl rfl (WT rfl (WU rfl rfl (WU rfl rfl WR)))) rfl rfl) h0
 intro o7 h0
 refine QB ?_
 have e := Wk h0; subst e
 exact hQ0 _ _ _ (.inl rfl) rfl (Qf Wh (WD rfl (WD rfl (WD rfl (WD rfl WC)))) Wy rfl (Nat.le_trans hv0 (Wx rfl)) rfl rfl rfl (WU rfl rfl (WT rfl (WU rfl rfl (WU rfl rfl WR)))) rfl rfl)
theorem m56f12_all (n : Nat) (u : Int × Nat × (List Bool) × (List (List Int))) (r : (List Bool)) (h0 : Yb m56f12F n u = some r) : CallM Try.prog 56 [.one (WL u.1), .one (.ptr 0 0), .one (.ptr 2 0), .one (.ptr 3 0)] ⟨[(0, .cells 75 [.osl 1 0 u.2.1 u.2.1]), (1, .cells 4 (Q9 u.2.2.1)), (2, .cells 57 [WJ u.2.2.2]), (3, .cells 106 [.fn 56 [(0, 0), (2, 0), (3, 0)]])], [], 4⟩ (QA []) ⟨[(0, .cells 75 [.osl 1 0 u.2.1 u.2.1]), (1, .cells 4 (Q9 r)), (2, .cells 57 [WJ u.2.2.2]), (3, .cells 106 [.fn 56 [(0, 0), (2, 0), (3, 0)]])], [], 4⟩ :=
 YF (C := fun u r => CallM Try.prog 56 [.one (WL u.1), .one (.ptr 0 0), .one (.ptr 2 0), .one (.ptr 3 0)] ⟨[(0, .cells 75 [.osl 1 0 u.2.1 u.2.1]), (1, .cells 4 (Q9 u.2.2.1)), (2, .cells 57 [WJ u.2.2.2]), (3, .cells 106 [.fn 56 [(0, 0), (2, 0), (3, 0)]])], [], 4⟩ (QA []) ⟨[(0, .cells 75 [.osl 1 0 u.2.1 u.2.1]), (1, .cells 4 (Q9 r)), (2, .cells 57 [WJ u.2.2.2]), (3, .cells 106 [.fn 56 [(0, 0), (2, 0), (3, 0)]])], [], 4⟩) (fun rc H u r h => m56f12s_ok rc (fun a0 a1 a2 a3 r h => H (a0, a1, a2, a3) r h) u.1 u.2.1 u.2.2.1 u.2.2.2 r h) n u r h0
theorem m56f12_ok (a0 : Int) (a1 : Nat) (a2 : List Bool) (a3 : List (List Int)) (r : (List Bool)) (h0 : m56f12 a0 a1 a2 a3 = some r) : CallM Try.prog 56 [.one (WL a0), .one (.ptr 0 0), .one (.ptr 2 0), .one (.ptr 3 0)] ⟨[(0, .cells 75 [.osl 1 0 a1 a1]), (1, .cells 4 (Q9 a2)), (2, .cells 57 [WJ a3]), (3, .cells 106 [.fn 56 [(0, 0), (2, 0), (3, 0)]])], [], 4⟩ (QA []) ⟨[(0, .cells 75 [.osl 1 0 a1 a1]), (1, .cells 4 (Q9 r)), (2, .cells 57 [WJ a3]), (3, .cells 106 [.fn 56 [(0, 0), (2, 0), (3, 0)]])], [], 4⟩ := m56f12_all QF (a0, a1, a2, a3) r h0
def m12_l0 (x9 : (List U3)) (s2 : Int × (Qh U3 Int)) (s3 : Int × (Qh U3 Int)) : Option (LO (Int × (Qh U3 Int)) (((Qh U3 Int)) ⊕ (((List (List Int)) × (Qh U3 Int)) ⊕ Unit ⊕ Unit))) :=
 cond (decide (s3.1 < (x9.length : Int)))
   (Option.bind (Ja x9 s3.1) fun (x12 : U3) =>
 cond (Jt s3.2 x12)
   (some (.done (.inr (.inr (.inl ())))))
   (some (.next ((QZ (s3.1 + 1)), (JY s3.2 x12 s2.1)))))
   (some (.done (.inl s3.2)))
def m12_l1 (a0 : List Dcl) (s2 : Int × (Qh U3 Int)) : Option (LO (Int × (Qh U3 Int)) (((Qh U3 Int)) ⊕ (((List (List Int)) × (Qh U3 Int)) ⊕ Unit ⊕ Unit))) :=
 cond (decide (s2.1 < (a0.length : Int)))
   (Option.bind (Ja a0 s2.1) fun (x8 : Dcl) =>
 Option.bind (Xt x8) fun (x9 : (List U3)) =>
 Option.bind (Qw (m12_l0 x9 s2) QF (0, s2.2)) (Sum.elim (fun (o10 : (Qh U3 Int)) => some (.next ((QZ (s2.1 + 1)), o10))) (fun o => some (.done (.inr o)))))
   (some (.done (.inl s2.2)))
def m12_l2 (x10 : (List U3)) (o6 : (Qh U3 Int)) (s3 : (List Int) × Int) : Option (LO ((List Int) × Int) (((List Int)) ⊕ (((List (List Int)) × (Qh U3 Int)) ⊕ Unit ⊕ Unit))) :=
 cond (decide (s3.2 < (x10.length : Int)))
   (Option.bind (Ja x10 s3.2) fun (x13 : U3) =>
 cond (!(Jt o6 x13))
   (some (.done (.inr (.inr (.inr ())))))
   (Qy (Nat.ble (s3.1.length + ([(Je o6 x13)]).length) 1000000000)
 (some (.next ((s3.1 ++ ([(Je o6 x13)])), (QZ (s3.2 + 1)))))))
   (some (.done (.inl s3.1)))
def X2 (a0 : List Dcl) (o6 : (Qh U3 Int)) (s2 : Int × (List (List Int))) : Option (LO (Int × (List (List Int))) (((List (List Int))) ⊕ (((List (List Int)) × (Qh U3 Int)) ⊕ Unit ⊕ Unit))) :=
 cond (decide (s2.1 < (a0.length : Int)))
   (Option.bind (Ja a0 s2.1) fun (x9 : Dcl) =>
 Option.bind (XA x9) fun (x10 : (List U3)) =>
 Option.bind (Qw (m12_l2 x10 o6) QF (([] : List Int), 0)) (Sum.elim (fun (o11 : (List Int)) => Option.bind (Zf o11) fun (x12 : List Int) =>
 Option.bind (JS x12 ((Enc.encL o11).length)) fun (x13 : List Int) =>
 Qy (Nat.ble (s2.2.length + ([x13]).length) 1000000000)
 (some (.next ((QZ (s2.1 + 1)), (s2.2 ++ ([x13])))))) (fun o => some (.done (.inr o)))))
   (some (.done (.inl s2.2)))
def ZX (a1 : List U3) (y1 : (List (List Int)) × (Qh U3 Int)) (x30 : (List (List Int))) (s2 : Int × (List Bool)) : Option (LO (Int × (List Bool)) (((List Bool)) ⊕ (Unit ⊕ ((List Bool))))) :=
 cond (decide (s2.1 < (a1.length : Int)))
   (Option.bind (Ja a1 s2.1) fun (x38 : U3) =>
 cond (!(Jt y1.2 x38))
   (some (.done (.inr (.inl ()))))
   (Option.bind (m56f12 (Je y1.2 x38) ((x30.length : Int).toNat) s2.2 x30) fun (x40 : (List Bool)) =>
 some (.next ((QZ (s2.1 + 1)), x40))))
   (some (.done (.inl s2.2)))
def GI (a0 : List Dcl) (y32 : (List Bool)) (x30 : (List (List Int))) (s1 : (List U3) × Int) : Option (LO ((List U3) × Int) (((List U3)))) :=
 cond (decide (s1.2 < (a0.length : Int)))
   (Option.bind (Ja a0 s1.2) fun (x44 : Dcl) =>
 Option.bind (Ja y32 s1.2) fun (x45 : Bool) =>
 Qy (Nat.beq y32.length ((x30.length : Int).toNat))
 (cond x45
   (Option.bind (Xt x44) fun (x48 : (List U3)) =>
 Qy (Nat.ble (s1.1.length + x48.length) 1000000000)
 (some (.next ((s1.1 ++ x48), (QZ (s1.2 + 1))))))
   (some (.next (s1.1, (QZ (s1.2 + 1)))))))
   (some (.done s1.1))
def XT (a0 : List Dcl) (a1 : List U3) : Option ((List U3) × Int) :=
 Option.bind (Option.bind (Qw (m12_l1 a0) QF (0, gmNil)) (Sum.elim (fun (o6 : (Qh U3 Int)) => Option.bind (Qw (X2 a0 o6) QF (0, ([] : List (List Int)))) (Sum.elim (fun (o7 : (List (List Int))) => some (.inl (o7, o6))) (fun o => some o))) (fun o => some o))) (Sum.elim (fun (y1 : (List (List Int)) × (Qh U3 Int)) => Option.bind (W7 y1.1) fun (x30 : (List (List Int))) =>
 Option.bind (Qy (cond (decide (0 ≤ (x30.length : Int))) (Nat.ble (1 * (x30.length : Int).toNat) 281474976710656) false)
 (Option.bind (Qw (ZX a1 y1 x30) QF (0, (List.replicate (x30.length : Int).toNat false))) (Sum.elim (fun (o36 : (List Bool)) => some (.inr o36)) (fun o => some o)))) (Sum.elim (fun (y31 : Unit) => some (([] : List U3), 9)) (fun (y32 : (List Bool)) => Option.bind (Qw (GI a0 y32 x30) QF (([] : List U3), 0)) (fun (o42 : (List U3)) => some (o42, 0))))) (Sum.elim (fun (y2 : Unit) => some (([] : List U3), 8)) (fun (y3 : Unit) => some (([] : List U3), 9))))
set_option maxRecDepth 100000 in
set_option maxHeartbeats 2000000 in
theorem m12_ok (a0 : List Dcl) (a1 : List U3) (r : (List U3) × Int) (h0 : XT a0 a1 = some r) : Fun Try.prog 12 [.one (WJ a0), .one (WJ a1)] (QA [.one (WJ r.1), .one (WL r.2)]) := by
 unfold XT at h0
 refine QU 9 49 Try.func12 rfl en_12 rfl (Wx rfl) (fun S w => ?_)
 simp only [Jb]
 refine Q2 <| Q0 <| Wo rfl rfl rfl <| Wo rfl rfl rfl <| Q3 <| Q1 <| Q2 <| Q0 <| Wn rfl rfl rfl ?_
 refine Qb h0 (fun y5 h1 h0 => ?_)
 have hc4 : CallM Try.prog 34 [.one (WJ a0)] ⟨[], [], 0⟩ (QA (((Sum.elim (fun (y1 : (List (List Int)) × (Qh U3 Int)) => ([.agg [WN 3 y1.1, .mp 1], .one (WL 0)] : List AV)) (Sum.elim (fun (y2 : Unit) => ([.agg [WK, .d (.v (.map none))], .one (WL 8)] : List AV)) (fun (y3 : Unit) => ([.agg [WK, .d (.v (.map none))], .one (WL 9)] : List AV))))) y5)) ⟨(((Sum.elim (fun (y1 : (List (List Int)) × (Qh U3 Int)) => (⟨[(2, .v (.one (.ptr 0 0))), (3, .v (.one (WL 0)))], [(0, .cells 72 [WN 3 y1.1, .mp 1]), (1, .mp (QL y1.2.1) y1.2.2)], [(3, some ⟨54, 1, (Enc.encL y1.1).length, []⟩)], 4, 88, []⟩ : St)) (Sum.elim (fun (y2 : Unit) => (⟨[(2, .v (.one (.ptr 0 0))), (3, .v (.one (WL 8)))], [(0, .cells 72 [WK, .d (.v (.map none))])], [], 4, 88, []⟩ : St)) (fun (y3 : Unit) => (⟨[(2, .v (.one (.ptr 0 0))), (3, .v (.one (WL 9)))], [(0, .cells 72 [WK, .d (.v (.map none))])], [], 6, 88, []⟩ : St))))) y5).hp, (((Sum.elim (fun (y1 : (List (List Int)) × (Qh U3 Int)) => (⟨[(2, .v (.one (.ptr 0 0))), (3, .v (.one (WL 0)))], [(0, .cells 72 [WN 3 y1.1, .mp 1]), (1, .mp (QL y1.2.1) y1.2.2)], [(3, some ⟨54, 1, (Enc.encL y1.1).length, []⟩)], 4, 88, []⟩ : St)) (Sum.elim (fun (y2 : Unit) => (⟨[(2, .v (.one (.ptr 0 0))), (3, .v (.one (WL 8)))], [(0, .cells 72 [WK, .d (.v (.map none))])], [], 4, 88, []⟩ : St)) (fun (y3 : Unit) => (⟨[(2, .v (.one (.ptr 0 0))), (3, .v (.one (WL 9)))], [(0, .cells 72 [WK, .d (.v (.map none))])], [], 6, 88, []⟩ : St))))) y5).tk, (((Sum.elim (fun (y1 : (List (List Int)) × (Qh U3 Int)) => (⟨[(2, .v (.one (.ptr 0 0))), (3, .v (.one (WL 0)))], [(0, .cells 72 [WN 3 y1.1, .mp 1]), (1, .mp (QL y1.2.1) y1.2.2)], [(3, some ⟨54, 1, (Enc.encL y1.1).length, []⟩)], 4, 88, []⟩ : St)) (Sum.elim (fun (y2 : Unit) => (⟨[(2, .v (.one (.ptr 0 0))), (3, .v (.one (WL 8)))], [(0, .cells 72 [WK, .d (.v (.map none))])], [], 4, 88, []⟩ : St)) (fun (y3 : Unit) => (⟨[(2, .v (.one (.ptr 0 0))), (3, .v (.one (WL 9)))], [(0, .cells 72 [WK, .d (.v (.map none))])], [], 6, 88, []⟩ : St))))) y5).nx⟩ := by
  refine JE y5 ((Sum.elim (fun (y1 : (List (List Int)) × (Qh U3 Int)) => (⟨[(2, .v (.one (.ptr 0 0))), (3, .v (.one (WL 0)))], [(0, .cells 72 [WN 3 y1.1, .mp 1]), (1, .mp (QL y1.2.1) y1.2.2)], [(3, some ⟨54, 1, (Enc.encL y1.1).length, []⟩)], 4, 88, []⟩ : St)) (Sum.elim (fun (y2 : Unit) => (⟨[(2, .v (.one (.ptr 0 0))), (3, .v (.one (WL 8)))], [(0, .cells 72 [WK, .d (.v (.map none))])], [], 4, 88, []⟩ : St)) (fun (y3 : Unit) => (⟨[(2, .v (.one (.ptr 0 0))), (3, .v (.one (WL 9)))], [(0, .cells 72 [WK, .d (.v (.map none))])], [], 6, 88, []⟩ : St))))) ((Sum.elim (fun (y1 : (List (List Int)) × (Qh U3 Int)) => ([.agg [WN 3 y1.1, .mp 1], .one (WL 0)] : List AV)) (Sum.elim (fun (y2 : Unit) => ([.agg [WK, .d (.v (.map none))], .one (WL 8)] : List AV)) (fun (y3 : Unit) => ([.agg [WK, .d (.v (.map none))], .one (WL 9)] : List AV))))) rfl rfl Xf (Wx rfl) (fun z_ => by cases z_ with
    | inl _ => rfl
    | inr z_ => exact (by cases z_ <;> rfl)) (fun z_ => by cases z_ with
    | inl _ => exact (Y0 J8 rfl rfl rfl rfl (Qo rfl .nil))
    | inr z_ => exact (by cases z_ with
    | inl _ => exact (Y0 J8 rfl rfl rfl rfl (Qo rfl .nil))
    | inr _ => exact (Y0 J8 rfl rfl rfl rfl (Qo rfl .nil)))) (fun w0 M V0 Q hv1 hQ1 => ?_)
  simp only [Jb]
  refine Q2 <| Q0 <| Qa rfl rfl (Wx rfl) (Qp YT rfl) <| Wo rfl rfl rfl <| Q3 <| Q1 <| Q2 <| Q0 <| Qa rfl rfl (Wx rfl) (Y2 U3 Int) <| Wm rfl rfl rfl (Zc Z5 rfl rfl rfl) <| Qa rfl rfl (Wx rfl) (Qp YT rfl) <| QJ rfl rfl (Ql J8 rfl rfl rfl rfl (Wx rfl) rfl) <| Q3 <| Q1 ?_
  refine Q2 <| Q2 <| Q0 <| Wn rfl rfl rfl <| Wm rfl rfl rfl (QC (α := Dcl) Jo rfl (.d _)) <| Wn rfl rfl rfl <| Q3 <| Q1 <| Qc ?_
  refine QI 0 (fun (o6 : (Qh U3 Int)) => ⟨[(0, .v (.one (WJ a0))), (2, .v (.one (.ptr 0 0))), (4, .v (.one (.ptr 2 0)))], [(0, .cells 72 [WK, .d (.v (.map none))]), (1, .mp (QL o6.1) o6.2), (2, .cells 72 [WK, .mp 1])], [], 3, 88, []⟩) (fun (o6 : (Qh U3 Int)) => (Option.bind (Qw (X2 a0 o6) QF (0, ([] : List (List Int)))) (Sum.elim (fun (o7 : (List (List Int))) => some (.inl (o7, o6))) (fun o => some o))) = some y5) ?_ ?_
  refine Qb h1 (fun o7 hl2 h1 => ?_)
  refine QH (m12_l1 a0) (fun s2 => ⟨[(0, .v (.one (WJ a0))), (2, .v (.one (.ptr 0 0))), (4, .v (.one (.ptr 2 0))), (20, .v (.one (WJ a0))), (21, .v (.one (WL (a0.length : Int)))), (22, .v (.one (WL s2.1)))], [(0, .cells 72 [WK, .d (.v (.map none))]), (1, .mp (QL s2.2.1) s2.2.2), (2, .cells 72 [WK, .mp 1])], [], 3, 88, []⟩) (0, gmNil) o7 (Qf (Wi rfl (Wi rfl (Wi rfl (Wi rfl (Wi rfl (Wi rfl Wh)))))) (WD rfl (WD rfl (WD rfl WC))) Wy rfl (Nat.le_trans hv1 (Wx rfl)) rfl rfl rfl (WU rfl rfl (WS rfl (WU rfl rfl WR))) rfl rfl) hl2 (fun s2 n2 oo2 h2 ho2 => ?_)
  unfold m12_l1 at h2
  refine Q2 <| Q0 <| Wm rfl rfl rfl (Q8 rfl rfl rfl) <| Q3 <| Q1 <| Q2 ?_
  refine Qe (b := (decide (s2.1 < (a0.length : Int)))) rfl (fun c8 => ?_) (fun c8 => ?_)
  replace h2 := Qq c8 h2
  refine Qi <| Q1 <| Q2 <| Qc <| Q2 <| Q0 <| Wn rfl rfl rfl ?_
  refine Qb h2 (fun x9 hx9 h2 => ?_)
  refine Wm rfl rfl rfl (Qm (α := Dcl) Jo rfl (.d _) rfl hx9) <| Wm rfl rfl rfl (QK (x9 : Dcl) Jg rfl) <| Qa rfl rfl (Wx rfl) (Qp ZU rfl) <| Wo rfl rfl rfl <| QJ rfl rfl (J6 (x9 : Dcl) Jg rfl rfl rfl rfl rfl) <| Q3 <| Q1 <| Q2 <| Q0 <| Wm rfl rfl rfl (JA (x9 : Dcl) Jg rfl rfl) ?_
  refine Qb h2 (fun x10 hx10 h2 => ?_)
  refine Qa rfl rfl (Wx rfl) (Qn (Ki x9 x10 hx10) rfl (.cons (.agg (.cons (.d _) (.cons (.d _) (.cons (.d _) (.cons (.d _) (.cons (.d _) (.cons (.d _) (.cons (.d _) (.cons (.d _) (.cons (.d _) (.cons (.d _) (.cons (.d _) (.cons (.d _) (.cons (.d _) (.cons (.d _) (.cons (.d _) (.cons (.d _) (.cons (.d _) (.cons (.d _) (.cons (.d _) (.cons (.d _) (.cons (.d _) (.cons (.d _) (.cons (.d _) .nil)))))))))))))))))))))))) .nil)) <| Wm rfl rfl rfl (QC (α := U3) J1 rfl (.d _)) <| Wn rfl rfl rfl <| Q3 <| Q1 <| Qc ?_
  refine QI 2 (fun (o11 : (Qh U3 Int)) => ⟨[(0, .v (.one (WJ a0))), (2, .v (.one (.ptr 0 0))), (4, .v (.one (.ptr 2 0))), (20, .v (.one (WJ a0))), (21, .v (.one (WL (a0.length : Int)))), (22, .v (.one (WL s2.1)))], [(0, .cells 72 [WK, .d (.v (.map none))]), (1, .mp (QL o11.1) o11.2), (2, .cells 72 [WK, .mp 1]), (3, .cells 48 (WO x9))], [], 4, 88, []⟩) (fun (o11 : (Qh U3 Int)) => (some (.next ((QZ (s2.1 + 1)), o11))) = some oo2) ?_ ?_
  refine Qb h2 (fun o12 hl3 h2 => ?_)
  refine QH (m12_l0 x10 s2) (fun s3 => ⟨[(0, .v (.one (WJ a0))), (2, .v (.one (.ptr 0 0))), (4, .v (.one (.ptr 2 0))), (5, .v (.one (WL s2.1))), (20, .v (.one (WJ a0))), (21, .v (.one (WL (a0.length : Int)))), (22, .v (.one (WL s2.1))), (28, .v (.one (WJ x10))), (29, .v (.one (WL (x10.length : Int)))), (30, .v (.one (WL s3.1)))], [(0, .cells 72 [WK, .d (.v (.map none))]), (1, .mp (QL s3.2.1) s3.2.2), (2, .cells 72 [WK, .mp 1]), (3, .cells 48 (WO x9))], [], 4, 88, []⟩) (0, s2.2) o12 (Qf (Wi rfl (Wi rfl (Wi rfl (Wi rfl (Wi rfl (Wi rfl (Wi rfl (Wi rfl (Wi rfl (Wi rfl Wh)))))))))) (WD rfl (WD rfl (WD rfl (WD rfl WC)))) Wy rfl (Nat.le_trans hv1 (Wx rfl)) rfl rfl rfl (WU rfl rfl (WS rfl (WU rfl rfl (WU rfl rfl WR)))) rfl rfl) hl3 (fun s3 n3 oo3 h3 ho3 => ?_)
  unfold m12_l0 at h3
  refine Q2 <| Q0 <| Wm rfl rfl rfl (Q8 rfl rfl rfl) <| Q3 <| Q1 <| Q2 ?_
  refine Qe (b := (decide (s3.1 < (x10.length : Int)))) rfl (fun c13 => ?_) (fun c13 => ?_)
  replace h3 := Qq c13 h3
  refine Qi <| Q1 <| Q2 <| Qc <| Q2 <| Q0 ?_
  refine Qb h3 (fun x14 hx14 h3 => ?_)
  refine Wm rfl rfl rfl (Qm (α := U3) J1 rfl (.d _) rfl hx14) <| Wm rfl rfl rfl (QN JT rfl rfl) <| Wo rfl rfl rfl <| Q3 <| Q1 <| Q2 <| Q2 <| Q0 <| Wm rfl rfl rfl (Q6 JM rfl) <| Wm rfl rfl rfl (Q7 YD rfl rfl rfl) <| Wn rfl rfl rfl <| Wm rfl rfl rfl (Js (M := s3.2) (k := x14) YC Yg rfl rfl rfl) <| Wn rfl rfl rfl <| Wm rfl rfl rfl (Qg rfl rfl) ?_
  refine Wm rfl rfl rfl (Qg rfl rfl) <| Wo rfl rfl rfl <| Wo rfl rfl rfl <| Q3 <| Q1 <| Q2 <| Q0 <| Wn rfl rfl rfl <| Q3 <| Q1 ?_
  refine Qe (b := (Jt s3.2 x14)) rfl (fun c15 => ?_) (fun c15 => ?_)
  replace h3 := Qq c15 h3
  refine Q2 <| Q0 <| Wm rfl rfl rfl (Y5 Z5 rfl ) <| QJ rfl rfl (Ql J8 rfl rfl rfl rfl (Wx rfl) rfl) <| Wo rfl rfl rfl <| Q3 <| Q1 <| Qz ?_
  have e := Wk h3; subst e
  have e_ : _ = _ := ho3
  subst e_
  try dsimp only [Sum.elim_inl, Sum.elim_inr] at h2
  have e := Wk h2; subst e
  have e_ : _ = _ := ho2
  subst e_
  try dsimp only [Sum.elim_inl, Sum.elim_inr] at h1
  have e := Wk h1; subst e
  exact hQ1 _ _ _ (.inr rfl) rfl (show StLe _ _ ⟨[(2, .v (.one (.ptr 0 0))), (3, .v (.one (WL 8)))], [(0, .cells 72 [WK, .d (.v (.map none))])], [], 4, 88, []⟩ from (Qf (Wi rfl (Wi rfl Wh)) (WD rfl WC) Wy rfl (Nat.le_trans hv1 (Wx rfl)) rfl rfl rfl (WU rfl rfl WR) rfl rfl))
  replace h3 := Qr c15 h3
  refine Qi <| Q1 <| Q0 <| Wm rfl rfl rfl (Q6 JM rfl) <| Wm rfl rfl rfl (Q7 YD rfl rfl rfl) <| Wn rfl rfl rfl <| Wn rfl rfl rfl <| QJ rfl rfl (JL (M := s3.2) (k := x14) (v := s2.1) YC rfl rfl rfl rfl rfl) <| Q3 <| Qj <| Q1 <| Q0 <| Wm rfl rfl rfl (Q8 rfl rfl rfl) <| Wn rfl rfl rfl ?_
  refine Q3 ?_
  have e := Wk h3; subst e
  refine QD ((QZ (s3.1 + 1)), (JY s3.2 x14 s2.1)) (Qf (Wi rfl (Wi rfl (Wi rfl (Wi rfl (Wi rfl (Wi rfl (Wi rfl (Wi rfl (Wi rfl (Wi rfl Wh)))))))))) (WD rfl (WD rfl (WD rfl (WD rfl WC)))) Wy rfl (Nat.le_trans hv1 (Wx rfl)) rfl rfl rfl (WU rfl rfl (WS rfl (WU rfl rfl (WU rfl rfl WR)))) rfl rfl) ho3
  replace h3 := Qr c13 h3
  refine QM <| Qd <| Qd ?_
  have e := Wk h3; subst e
  have e_ : _ = _ := ho3
  subst e_
  exact QG s3.2 (Qf (Wi rfl (Wi rfl (Wi rfl (Wi rfl (Wi rfl (Wi rfl Wh)))))) (WD rfl (WD rfl (WD rfl (WD rfl WC)))) Wy rfl (Nat.le_trans hv1 (Wx rfl)) rfl rfl rfl (WU rfl rfl (WS rfl (WU rfl rfl (WU rfl rfl WR)))) rfl rfl) h2
  intro o11 h2
  refine QB <| Qj <| Q1 <| Q0 <| Wm rfl rfl rfl (Q8 rfl rfl rfl) <| Wn rfl rfl rfl <| Q3 ?_
  have e := Wk h2; subst e
  refine QD ((QZ (s2.1 + 1)), o11) (Qf (Wi rfl (Wi rfl (Wi rfl (Wi rfl (Wi rfl (Wi rfl Wh)))))) (WD rfl (WD rfl (WD rfl WC))) Wy rfl (Nat.le_trans hv1 (Wx rfl)) rfl rfl rfl (WU rfl rfl (WS rfl (WU rfl rfl WR))) rfl rfl) ho2
  replace h2 := Qr c8 h2
  refine QM <| Qd <| Qd ?_
  have e := Wk h2; subst e
  have e_ : _ = _ := ho2
  subst e_
  exact QG s2.2 (Qf (Wi rfl (Wi rfl (Wi rfl Wh))) (WD rfl (WD rfl (WD rfl WC))) Wy rfl (Nat.le_trans hv1 (Wx rfl)) rfl rfl rfl (WU rfl rfl (WS rfl (WU rfl rfl WR))) rfl rfl) h1
  intro o6 h1
  refine QB <| Q1 <| Q2 <| Q2 <| Q0 <| Wn rfl rfl rfl <| Wm rfl rfl rfl (QC (α := Dcl) Jo rfl (.d _)) <| Wn rfl rfl rfl <| Q3 <| Q1 <| Qc ?_
  refine QI 4 (fun (o16 : (List (List Int))) => ⟨[(2, .v (.one (.ptr 0 0))), (4, .v (.one (.ptr 2 0)))], [(0, .cells 72 [WK, .d (.v (.map none))]), (1, .mp (QL o6.1) o6.2), (2, .cells 72 [WN 3 o16, .mp 1])], [(3, some ⟨54, 1, (Enc.encL o16).length, []⟩)], 4, 88, []⟩) (fun (o16 : (List (List Int))) => (some (.inl (o16, o6))) = some y5) ?_ ?_
  refine YR (i := 2) (off := 0) 54 1 rfl rfl ?_
  refine Qb h1 (fun o17 hl2 h1 => ?_)
  refine QH (X2 a0 o6) (fun s2 => ⟨[(2, .v (.one (.ptr 0 0))), (4, .v (.one (.ptr 2 0))), (49, .v (.one (WJ a0))), (50, .v (.one (WL (a0.length : Int)))), (51, .v (.one (WL s2.1)))], [(0, .cells 72 [WK, .d (.v (.map none))]), (1, .mp (QL o6.1) o6.2), (2, .cells 72 [WN 3 s2.2, .mp 1])], [(3, some ⟨54, 1, (Enc.encL s2.2).length, []⟩)], 4, 88, []⟩) (0, ([] : List (List Int))) o17 (Qf (Wi rfl (Wi rfl (Wi rfl (Wi rfl (Wi rfl Wh))))) (WD rfl (WD rfl (WD rfl WC))) (Wz rfl Wy) rfl (Nat.le_trans hv1 (Wx rfl)) rfl rfl rfl (WU rfl rfl (WS rfl (WU rfl rfl WR))) rfl rfl) hl2 (fun s2 n2 oo2 h2 ho2 => ?_)
  unfold X2 at h2
  refine Q2 <| Q0 <| Wm rfl rfl rfl (Q8 rfl rfl rfl) <| Q3 <| Q1 <| Q2 ?_
  refine Qe (b := (decide (s2.1 < (a0.length : Int)))) rfl (fun c18 => ?_) (fun c18 => ?_)
  replace h2 := Qq c18 h2
  refine Qi <| Q1 <| Q2 <| Qc <| Q2 <| Q0 ?_
  refine Qb h2 (fun x19 hx19 h2 => ?_)
  refine Wm rfl rfl rfl (Qm (α := Dcl) Jo rfl (.d _) rfl hx19) <| Wm rfl rfl rfl (QK (x19 : Dcl) Jg rfl) <| Qa rfl rfl (Wx rfl) (Qp ZU rfl) <| QJ rfl rfl (J6 (x19 : Dcl) Jg rfl rfl rfl rfl rfl) <| Q3 <| Q1 <| Q2 <| Q0 <| Wo rfl rfl rfl <| Q3 <| Q1 <| Q2 <| Q2 <| Q0 ?_
  refine Wm rfl rfl rfl (JA (x19 : Dcl) Jg rfl rfl) ?_
  refine Qb h2 (fun x20 hx20 h2 => ?_)
  refine Qa rfl rfl (Wx rfl) (Qn (GC x19 x20 hx20) rfl (.cons (.agg (.cons (.d _) (.cons (.d _) (.cons (.d _) (.cons (.d _) (.cons (.d _) (.cons (.d _) (.cons (.d _) (.cons (.d _) (.cons (.d _) (.cons (.d _) (.cons (.d _) (.cons (.d _) (.cons (.d _) (.cons (.d _) (.cons (.d _) (.cons (.d _) (.cons (.d _) (.cons (.d _) (.cons (.d _) (.cons (.d _) (.cons (.d _) (.cons (.d _) (.cons (.d _) .nil)))))))))))))))))))))))) .nil)) <| Wm rfl rfl rfl (QC (α := U3) J1 rfl (.d _)) <| Wn rfl rfl rfl <| Q3 <| Q1 <| Qc ?_
  refine QI 6 (fun (o21 : (List Int)) => ⟨[(2, .v (.one (.ptr 0 0))), (4, .v (.one (.ptr 2 0))), (13, .v (.one (.apv 5 1 ((Enc.encL o21).length) []))), (49, .v (.one (WJ a0))), (50, .v (.one (WL (a0.length : Int)))), (51, .v (.one (WL s2.1)))], [(0, .cells 72 [WK, .d (.v (.map none))]), (1, .mp (QL o6.1) o6.2), (2, .cells 72 [WN 3 s2.2, .mp 1]), (4, .cells 48 (WO x19))], [(3, some ⟨54, 1, (Enc.encL s2.2).length, []⟩), (5, some ⟨3, 1, (Enc.encL o21).length, (Enc.encL o21).flatten⟩)], 6, 88, []⟩) (fun (o21 : (List Int)) => (Option.bind (Zf o21) fun (x22 : List Int) =>
    Option.bind (JS x22 ((Enc.encL o21).length)) fun (x23 : List Int) =>
    Qy (Nat.ble (s2.2.length + ([x23]).length) 1000000000)
    (some (.next ((QZ (s2.1 + 1)), (s2.2 ++ ([x23])))))) = some oo2) ?_ ?_
  refine JW (t := 13) 3 1 rfl <| Kd (α := Int) (t := 13) rfl rfl ?_
  refine Qb h2 (fun o22 hl3 h2 => ?_)
  refine QH (m12_l2 x20 o6) (fun s3 => ⟨[(2, .v (.one (.ptr 0 0))), (4, .v (.one (.ptr 2 0))), (13, .v (.one (.apv 5 1 ((Enc.encL s3.1).length) []))), (49, .v (.one (WJ a0))), (50, .v (.one (WL (a0.length : Int)))), (51, .v (.one (WL s2.1))), (56, .v (.one (WJ x20))), (57, .v (.one (WL (x20.length : Int)))), (58, .v (.one (WL s3.2)))], [(0, .cells 72 [WK, .d (.v (.map none))]), (1, .mp (QL o6.1) o6.2), (2, .cells 72 [WN 3 s2.2, .mp 1]), (4, .cells 48 (WO x19))], [(3, some ⟨54, 1, (Enc.encL s2.2).length, []⟩), (5, some ⟨3, 1, (Enc.encL s3.1).length, (Enc.encL s3.1).flatten⟩)], 6, 88, []⟩) (([] : List Int), 0) o22 (Qf (Wi rfl (Wi rfl (Wi rfl (Wi rfl (Wi rfl (Wi rfl (Wi rfl (Wi rfl (Wi rfl Wh))))))))) (WD rfl (WD rfl (WD rfl (WD rfl WC)))) (Wz rfl (Wz rfl Wy)) rfl (Nat.le_trans hv1 (Wx rfl)) rfl rfl rfl (WU rfl rfl (WS rfl (WU rfl rfl (WU rfl rfl WR)))) rfl rfl) hl3 (fun s3 n3 oo3 h3 ho3 => ?_)
  unfold m12_l2 at h3
  refine Q2 <| Q0 <| Wm rfl rfl rfl (Q8 rfl rfl rfl) <| Q3 <| Q1 <| Q2 ?_
  refine Qe (b := (decide (s3.2 < (x20.length : Int)))) rfl (fun c23 => ?_) (fun c23 => ?_)
  replace h3 := Qq c23 h3
  refine Qi <| Q1 <| Q2 <| Qc <| Q2 <| Q0 ?_
  refine Qb h3 (fun x24 hx24 h3 => ?_)
  refine Wm rfl rfl rfl (Qm (α := U3) J1 rfl (.d _) rfl hx24) <| Wm rfl rfl rfl (QN JT rfl rfl) <| Wo rfl rfl rfl <| Q3 <| Q1 <| Q2 <| Q0 <| Wm rfl rfl rfl (Q6 JM rfl) <| Wm rfl rfl rfl (Q7 YD rfl rfl rfl) <| Wn rfl rfl rfl <| Wm rfl rfl rfl (Js (M := o6) (k := x24) YC Yg rfl rfl rfl) <| Wn rfl rfl rfl <| Wm rfl rfl rfl (Qg rfl rfl) <| Wm rfl rfl rfl (Qg rfl rfl) ?_
  refine Wo rfl rfl rfl <| Wo rfl rfl rfl <| Q3 <| Q1 <| Q2 <| Q2 <| Q0 <| Wn rfl rfl rfl <| Wm rfl rfl rfl (J9 rfl) <| Q3 <| Q1 ?_
  refine Qe (b := (!(Jt o6 x24))) rfl (fun c25 => ?_) (fun c25 => ?_)
  replace h3 := Qq c25 h3
  refine Q2 <| Q0 <| Wm rfl rfl rfl (Y5 Z5 rfl ) <| QJ rfl rfl (Ql J8 rfl rfl rfl rfl (Wx rfl) rfl) <| Wo rfl rfl rfl <| Q3 <| Q1 <| Qz ?_
  have e := Wk h3; subst e
  have e_ : _ = _ := ho3
  subst e_
  try dsimp only [Sum.elim_inl, Sum.elim_inr] at h2
  have e := Wk h2; subst e
  have e_ : _ = _ := ho2
  subst e_
  try dsimp only [Sum.elim_inl, Sum.elim_inr] at h1
  have e := Wk h1; subst e
  exact hQ1 _ _ _ (.inr rfl) rfl (show StLe _ _ ⟨[(2, .v (.one (.ptr 0 0))), (3, .v (.one (WL 9)))], [(0, .cells 72 [WK, .d (.v (.map none))])], [], 6, 88, []⟩ from (Qf (Wi rfl (Wi rfl Wh)) (WD rfl WC) Wy rfl (Nat.le_trans hv1 (Wx rfl)) rfl rfl rfl (WU rfl rfl WR) rfl rfl))
  replace h3 := Qr c25 h3
  refine Qi <| Q1 <| Q0 <| Wn rfl rfl rfl <| Wn rfl rfl rfl <| Qa rfl rfl (Wx rfl) (J3 (α := Int) ((Je o6 x24)) JU XE rfl rfl (Wx rfl) (Wx rfl) rfl rfl (.cons (.d _) .nil) rfl) ?_
  refine QS h3 (fun g26 h3 => ?_)
  refine Qa rfl rfl (Wx rfl) (Yv (α := Int) (l := s3.1) (l2 := ([(Je o6 x24)] : List Int)) JU Xn rfl rfl rfl rfl (.app _ _) rfl g26) <| Wo rfl rfl rfl <| Q3 <| Qj <| Q1 <| Q0 <| Wm rfl rfl rfl (Q8 rfl rfl rfl) <| Wn rfl rfl rfl <| Q3 ?_
  have e := Wk h3; subst e
  refine QD ((s3.1 ++ ([(Je o6 x24)])), (QZ (s3.2 + 1))) (Qf (Wi rfl (Wi rfl (Wi rfl (Wi rfl (Wi rfl (Wi rfl (Wi rfl (Wi rfl (Wi rfl Wh))))))))) (WD rfl (WD rfl (WD rfl (WD rfl WC)))) (Wz rfl (Wz rfl Wy)) rfl (Nat.le_trans hv1 (Wx rfl)) rfl rfl rfl (WU rfl rfl (WS rfl (WU rfl rfl (WU rfl rfl WR)))) rfl rfl) ho3
  replace h3 := Qr c23 h3
  refine QM <| Qd <| Qd ?_
  have e := Wk h3; subst e
  have e_ : _ = _ := ho3
  subst e_
  exact QG s3.1 (Qf (Wi rfl (Wi rfl (Wi rfl (Wi rfl (Wi rfl (Wi rfl Wh)))))) (WD rfl (WD rfl (WD rfl (WD rfl WC)))) (Wz rfl (Wz rfl Wy)) rfl (Nat.le_trans hv1 (Wx rfl)) rfl rfl rfl (WU rfl rfl (WS rfl (WU rfl rfl (WU rfl rfl WR)))) rfl rfl) h2
  intro o21 h2
  refine QB <| Q1 <| Q2 <| Q0 <| Wn rfl rfl rfl ?_
  refine Qb h2 (fun x27 hx27 h2 => ?_)
  refine Qa rfl rfl (Wx rfl) (J2 (hp1' := []) (tk1' := [(5, some ⟨3, 1, (Enc.encL o21).length, (Enc.encL x27).flatten⟩)]) (hpF := [(0, .cells 72 [WK, .d (.v (.map none))]), (1, .mp (QL o6.1) o6.2), (2, .cells 72 [WN 3 s2.2, .mp 1]), (4, .cells 48 (WO x19))]) (tkF := [(3, some ⟨54, 1, (Enc.encL s2.2).length, []⟩)]) (res2 := QA []) (nx2 := 6) [5] rfl rfl (K2 o21 x27 hx27) rfl rfl Wp rfl rfl WF (WB rfl WA) (WD rfl (WD rfl (WD rfl (WD rfl WC)))) (Wz rfl Wy) rfl rfl rfl rfl rfl WR rfl rfl rfl rfl) <| Q3 <| Q1 ?_
  refine JG [3, 5, 7] [(0, 1), (1, 1)] mixed (by kernel_rfl) (by kernel_rfl) (by kernel_rfl) ?_
  refine RunA.rd rfl rfl rfl (Q4 (Q6 JC rfl)) rfl <| RunA.rd rfl rfl rfl (Q4 (Q7 Y1 rfl rfl rfl)) rfl <| RunA.rd rfl rfl rfl (Q4 (QQ rfl)) rfl ?_
  refine Qb h2 (fun x28 hx28 h2 => ?_)
  refine RunA.eff rfl rfl rfl (J2 (hp1' := []) (tk1' := [(6, some ⟨3, 1, (Enc.encL x28).length, []⟩)]) (hpF := [(0, .cells 72 [WK, .d (.v (.map none))]), (1, .mp (QL o6.1) o6.2), (2, .cells 72 [WN 3 s2.2, .mp 1]), (4, .cells 48 (WO x19))]) (tkF := [(3, some ⟨54, 1, (Enc.encL s2.2).length, []⟩)]) (res2 := QA [.one (WN 6 x28)]) (nx2 := 7) [5] rfl rfl (YP x27 ((Enc.encL o21).length) x28 hx28) rfl rfl Wp rfl rfl WF (WB rfl WA) (WD rfl (WD rfl (WD rfl (WD rfl WC)))) (Wz rfl Wy) rfl rfl rfl rfl rfl WR rfl rfl rfl rfl) rfl <| RunA.rd rfl rfl rfl (Y3 (α := List Int) (x28) Y7 Xr rfl rfl (Wx rfl) rfl rfl (.cons (.app _ _ _) .nil) rfl) rfl ?_
  refine QS h2 (fun g29 h2 => ?_)
  refine RunA.eff rfl rfl rfl (QW (α := List Int) Y7 X7 rfl rfl rfl rfl rfl (.d _) g29) rfl <| RunA.rd rfl rfl rfl (Q4 (Q6 JC rfl)) rfl <| RunA.eff rfl rfl rfl (Ql Y1 rfl rfl rfl rfl (Wx rfl) rfl) rfl ?_
  refine RunA.nil ⟨?ex, _, _, rfl, ?_⟩
  case ex => exact ⟨⟨_, rfl, _, _, rfl, rfl, rfl, .inl ⟨rfl, _, Q4 (Q6 JC rfl), rfl⟩⟩, ⟨_, rfl, _, _, rfl, rfl, rfl, .inl ⟨rfl, _, Q4 (Q7 Y1 rfl rfl rfl), rfl⟩⟩, trivial⟩
  refine JK (st' := ⟨[(2, .v (.one (.ptr 0 0))), (4, .v (.one (.ptr 2 0))), (49, .v (.one (WJ a0))), (50, .v (.one (WL (a0.length : Int)))), (51, .v (.one (WL s2.1)))], [(0, .cells 72 [WK, .d (.v (.map none))]), (1, .mp (QL o6.1) o6.2), (2, .cells 72 [WN 3 ((s2.2 ++ ([x28])) : List (List Int)), .mp 1]), (4, .cells 48 (WO x19))], [(3, some ⟨54, 1, (Enc.encL ((s2.2 ++ ([x28])) : List (List Int))).length, []⟩), (6, some ⟨3, 1, (Enc.encL x28).length, []⟩)], 7, 88, []⟩) (Qf (Wi rfl (Wi rfl (Wi rfl (Wi rfl (Wi rfl Wh))))) (WD rfl (WD rfl (WD rfl (WD rfl WC)))) (Wz rfl (Wz rfl Wy)) rfl (Nat.le_trans hv1 (Wx rfl)) rfl rfl rfl (WU rfl rfl (WS rfl (WU rfl rfl (WU rfl rfl WR)))) rfl rfl) <| Qj <| Q1 <| Q0 <| Wm rfl rfl rfl (Q8 rfl rfl rfl) <| Wn rfl rfl rfl <| Q3 ?_
  have e := Wk h2; subst e
  refine QD ((QZ (s2.1 + 1)), (s2.2 ++ ([x28]))) (Qf (Wi rfl (Wi rfl (Wi rfl (Wi rfl (Wi rfl Wh))))) (WD rfl (WD rfl (WD rfl WC))) (Wz rfl Wy) rfl (Nat.le_trans hv1 (Wx rfl)) rfl rfl rfl (WU rfl rfl (WS rfl (WU rfl rfl WR))) rfl rfl) ho2
  replace h2 := Qr c18 h2
  refine QM <| Qd <| Qd ?_
  have e := Wk h2; subst e
  have e_ : _ = _ := ho2
  subst e_
  exact QG s2.2 (Qf (Wi rfl (Wi rfl Wh)) (WD rfl (WD rfl (WD rfl WC))) (Wz rfl Wy) rfl (Nat.le_trans hv1 (Wx rfl)) rfl rfl rfl (WU rfl rfl (WS rfl (WU rfl rfl WR))) rfl rfl) h1
  intro o16 h1
  refine QB <| Q1 <| Q2 <| Q0 <| Wm rfl rfl rfl (Qu J8 rfl rfl rfl rfl) <| QJ rfl rfl (Ql J8 rfl rfl rfl rfl (Wx rfl) rfl) <| Wo rfl rfl rfl <| Q3 <| Q1 <| Qz ?_
  have e := Wk h1; subst e
  exact hQ1 _ _ _ (.inr rfl) rfl (show StLe _ _ ⟨[(2, .v (.one (.ptr 0 0))), (3, .v (.one (WL 0)))], [(0, .cells 72 [WN 3 o16, .mp 1]), (1, .mp (QL o6.1) o6.2)], [(3, some ⟨54, 1, (Enc.encL o16).length, []⟩)], 4, 88, []⟩ from (Qf (Wi rfl (Wi rfl Wh)) (WD rfl (WD rfl WC)) (Wz rfl Wy) rfl (Nat.le_trans hv1 (Wx rfl)) rfl rfl rfl (WU rfl rfl (WS rfl WR)) rfl rfl))
 refine KN (C := fun q_ => CallM Try.prog 34 [.one (WJ a0)] ⟨[], [], 0⟩ (QA (((Sum.elim (fun (y1 : (List (List Int)) × (Qh U3 Int)) => ([.agg [WN 3 y1.1, .mp 1], .one (WL 0)] : List AV)) (Sum.elim (fun (y2 : Unit) => ([.agg [WK, .d (.v (.map none))], .one (WL 8)] : List AV)) (fun (y3 : Unit) => ([.agg [WK, .d (.v (.map none))], .one (WL 9)] : List AV))))) q_)) ⟨(((Sum.elim (fun (y1 : (List (List Int)) × (Qh U3 Int)) => (⟨[(2, .v (.one (.ptr 0 0))), (3, .v (.one (WL 0)))], [(0, .cells 72 [WN 3 y1.1, .mp 1]), (1, .mp (QL y1.2.1) y1.2.2)], [(3, some ⟨54, 1, (Enc.encL y1.1).length, []⟩)], 4, 88, []⟩ : St)) (Sum.elim (fun (y2 : Unit) => (⟨[(2, .v (.one (.ptr 0 0))), (3, .v (.one (WL 8)))], [(0, .cells 72 [WK, .d (.v (.map none))])], [], 4, 88, []⟩ : St)) (fun (y3 : Unit) => (⟨[(2, .v (.one (.ptr 0 0))), (3, .v (.one (WL 9)))], [(0, .cells 72 [WK, .d (.v (.map none))])], [], 6, 88, []⟩ : St))))) q_).hp, (((Sum.elim (fun (y1 : (List (List Int)) × (Qh U3 Int)) => (⟨[(2, .v (.one (.ptr 0 0))), (3, .v (.one (WL 0)))], [(0, .cells 72 [WN 3 y1.1, .mp 1]), (1, .mp (QL y1.2.1) y1.2.2)], [(3, some ⟨54, 1, (Enc.encL y1.1).length, []⟩)], 4, 88, []⟩ : St)) (Sum.elim (fun (y2 : Unit) => (⟨[(2, .v (.one (.ptr 0 0))), (3, .v (.one (WL 8)))], [(0, .cells 72 [WK, .d (.v (.map none))])], [], 4, 88, []⟩ : St)) (fun (y3 : Unit) => (⟨[(2, .v (.one (.ptr 0 0))), (3, .v (.one (WL 9)))], [(0, .cells 72 [WK, .d (.v (.map none))])], [], 6, 88, []⟩ : St))))) q_).tk, (((Sum.elim (fun (y1 : (List (List Int)) × (Qh U3 Int)) => (⟨[(2, .v (.one (.ptr 0 0))), (3, .v (.one (WL 0)))], [(0, .cells 72 [WN 3 y1.1, .mp 1]), (1, .mp (QL y1.2.1) y1.2.2)], [(3, some ⟨54, 1, (Enc.encL y1.1).length, []⟩)], 4, 88, []⟩ : St)) (Sum.elim (fun (y2 : Unit) => (⟨[(2, .v (.one (.ptr 0 0))), (3, .v (.one (WL 8)))], [(0, .cells 72 [WK, .d (.v (.map none))])], [], 4, 88, []⟩ : St)) (fun (y3 : Unit) => (⟨[(2, .v (.one (.ptr 0 0))), (3, .v (.one (WL 9)))], [(0, .cells 72 [WK, .d (.v (.map none))])], [], 6, 88, []⟩ : St))))) q_).nx⟩) hc4 h0 (fun y1 hc4 h0 => ?_) (fun z_ hc4 h0 => KN (C := fun q_ => CallM Try.prog 34 [.one (WJ a0)] ⟨[], [], 0⟩ (QA (((Sum.elim (fun (y1 : (List (List Int)) × (Qh U3 Int)) => ([.agg [WN 3 y1.1, .mp 1], .one (WL 0)] : List AV)) (Sum.elim (fun (y2 : Unit) => ([.agg [WK, .d (.v (.map none))], .one (WL 8)] : List AV)) (fun (y3 : Unit) => ([.agg [WK, .d (.v (.map none))], .one (WL 9)] : List AV))))) (.inr q_))) ⟨(((Sum.elim (fun (y1 : (List (List Int)) × (Qh U3 Int)) => (⟨[(2, .v (.one (.ptr 0 0))), (3, .v (.one (WL 0)))], [(0, .cells 72 [WN 3 y1.1, .mp 1]), (1, .mp (QL y1.2.1) y1.2.2)], [(3, some ⟨54, 1, (Enc.encL y1.1).length, []⟩)], 4, 88, []⟩ : St)) (Sum.elim (fun (y2 : Unit) => (⟨[(2, .v (.one (.ptr 0 0))), (3, .v (.one (WL 8)))], [(0, .cells 72 [WK, .d (.v (.map none))])], [], 4, 88, []⟩ : St)) (fun (y3 : Unit) => (⟨[(2, .v (.one (.ptr 0 0))), (3, .v (.one (WL 9)))], [(0, .cells 72 [WK, .d (.v (.map none))])], [], 6, 88, []⟩ : St))))) (.inr q_)).hp, (((Sum.elim (fun (y1 : (List (List Int)) × (Qh U3 Int)) => (⟨[(2, .v (.one (.ptr 0 0))), (3, .v (.one (WL 0)))], [(0, .cells 72 [WN 3 y1.1, .mp 1]), (1, .mp (QL y1.2.1) y1.2.2)], [(3, some ⟨54, 1, (Enc.encL y1.1).length, []⟩)], 4, 88, []⟩ : St)) (Sum.elim (fun (y2 : Unit) => (⟨[(2, .v (.one (.ptr 0 0))), (3, .v (.one (WL 8)))], [(0, .cells 72 [WK, .d (.v (.map none))])], [], 4, 88, []⟩ : St)) (fun (y3 : Unit) => (⟨[(2, .v (.one (.ptr 0 0))), (3, .v (.one (WL 9)))], [(0, .cells 72 [WK, .d (.v (.map none))])], [], 6, 88, []⟩ : St))))) (.inr q_)).tk, (((Sum.elim (fun (y1 : (List (List Int)) × (Qh U3 Int)) => (⟨[(2, .v (.one (.ptr 0 0))), (3, .v (.one (WL 0)))], [(0, .cells 72 [WN 3 y1.1, .mp 1]), (1, .mp (QL y1.2.1) y1.2.2)], [(3, some ⟨54, 1, (Enc.encL y1.1).length, []⟩)], 4, 88, []⟩ : St)) (Sum.elim (fun (y2 : Unit) => (⟨[(2, .v (.one (.ptr 0 0))), (3, .v (.one (WL 8)))], [(0, .cells 72 [WK, .d (.v (.map none))])], [], 4, 88, []⟩ : St)) (fun (y3 : Unit) => (⟨[(2, .v (.one (.ptr 0 0))), (3, .v (.one (WL 9)))], [(0, .cells 72 [WK, .d (.v (.map none))])], [], 6, 88, []⟩ : St))))) (.inr q_)).nx⟩) hc4 h0 (fun y2 hc4 h0 => ?_) (fun y3 hc4 h0 => ?_))
 replace hc4 : CallM Try.prog 34 [.one (WJ a0)] ⟨[], [], 0⟩ (QA [.agg [WN 3 y1.1, .mp 1], .one (WL 0)]) ⟨[(0, .cells 72 [WN 3 y1.1, .mp 1]), (1, .mp (QL y1.2.1) y1.2.2)], [(3, some ⟨54, 1, (Enc.encL y1.1).length, []⟩)], 4⟩ := hc4
 refine Qa rfl rfl (Wx rfl) (QT rfl rfl rfl hc4 rfl WC Wy) <| Wn rfl rfl rfl <| Wm rfl rfl rfl (Qg rfl rfl) <| Wm rfl rfl rfl (Qg rfl rfl) <| Qa rfl rfl (Wx rfl) (Qp YT rfl) <| QJ rfl rfl (Ql J8 rfl rfl rfl rfl (Wx rfl) rfl) <| Wo rfl rfl rfl <| Q3 <| Q1 <| Q2 <| Q2 <| Q0 <| Wn rfl rfl rfl <| Wm rfl rfl rfl (Q8 rfl rfl rfl) ?_
 refine Q3 <| Q1 ?_
 refine Qe rfl (fun h => nomatch h) (fun _ => ?_)
 refine Qi <| Q1 <| Q2 ?_
 refine JG [5] [] mixed (by kernel_rfl) (by kernel_rfl) (by kernel_rfl) ?_
 refine RunA.rd rfl rfl rfl (Q4 (Qu J8 rfl rfl rfl rfl)) rfl <| RunA.rd rfl rfl rfl (Q4 (Q6 JC rfl)) rfl <| RunA.rd rfl rfl rfl (Q4 (Q7 Y1 rfl rfl rfl)) rfl ?_
 refine Qb h0 (fun x30 hx30 h0 => ?_)
 refine RunA.rd rfl rfl rfl (Qn (m36_ok y1.1 x30 hx30) rfl (.cons (.one (.app _ _ _)) .nil)) rfl <| RunA.rd rfl rfl rfl (Q4 (QQ rfl)) rfl ?_
 refine Qb h0 (fun y34 h1 h0 => ?_)
 have hc33 : CallM Try.prog 35 [.agg [WN 3 y1.1, .mp 1], .one (WJ x30), .one (WJ a1)] ⟨[(0, .cells 72 [WN 3 y1.1, .mp 1]), (1, .mp (QL y1.2.1) y1.2.2), (4, .cells 72 [WN 3 y1.1, .mp 1])], [(3, some ⟨54, 1, (Enc.encL y1.1).length, []⟩)], 5⟩ (QA (((Sum.elim (fun (y31 : Unit) => ([.one (WK), .one (WL 9)] : List AV)) (fun (y32 : (List Bool)) => ([.one (.osl 7 0 ((x30.length : Int).toNat) ((x30.length : Int).toNat)), .one (WL 0)] : List AV)))) y34)) ⟨(((Sum.elim (fun (y31 : Unit) => (⟨[(6, .v (.one (WK))), (7, .v (.one (WL 9)))], [(0, .cells 72 [WN 3 y1.1, .mp 1]), (1, .mp (QL y1.2.1) y1.2.2), (4, .cells 72 [WN 3 y1.1, .mp 1])], [(3, some ⟨54, 1, (Enc.encL y1.1).length, []⟩)], 10, 38, []⟩ : St)) (fun (y32 : (List Bool)) => (⟨[(6, .v (.one (.osl 7 0 ((x30.length : Int).toNat) ((x30.length : Int).toNat)))), (7, .v (.one (WL 0)))], [(0, .cells 72 [WN 3 y1.1, .mp 1]), (1, .mp (QL y1.2.1) y1.2.2), (4, .cells 72 [WN 3 y1.1, .mp 1]), (7, .cells 4 (Q9 y32))], [(3, some ⟨54, 1, (Enc.encL y1.1).length, []⟩)], 10, 38, []⟩ : St)))) y34).hp, (((Sum.elim (fun (y31 : Unit) => (⟨[(6, .v (.one (WK))), (7, .v (.one (WL 9)))], [(0, .cells 72 [WN 3 y1.1, .mp 1]), (1, .mp (QL y1.2.1) y1.2.2), (4, .cells 72 [WN 3 y1.1, .mp 1])], [(3, some ⟨54, 1, (Enc.encL y1.1).length, []⟩)], 10, 38, []⟩ : St)) (fun (y32 : (List Bool)) => (⟨[(6, .v (.one (.osl 7 0 ((x30.length : Int).toNat) ((x30.length : Int).toNat)))), (7, .v (.one (WL 0)))], [(0, .cells 72 [WN 3 y1.1, .mp 1]), (1, .mp (QL y1.2.1) y1.2.2), (4, .cells 72 [WN 3 y1.1, .mp 1]), (7, .cells 4 (Q9 y32))], [(3, some ⟨54, 1, (Enc.encL y1.1).length, []⟩)], 10, 38, []⟩ : St)))) y34).tk, (((Sum.elim (fun (y31 : Unit) => (⟨[(6, .v (.one (WK))), (7, .v (.one (WL 9)))], [(0, .cells 72 [WN 3 y1.1, .mp 1]), (1, .mp (QL y1.2.1) y1.2.2), (4, .cells 72 [WN 3 y1.1, .mp 1])], [(3, some ⟨54, 1, (Enc.encL y1.1).length, []⟩)], 10, 38, []⟩ : St)) (fun (y32 : (List Bool)) => (⟨[(6, .v (.one (.osl 7 0 ((x30.length : Int).toNat) ((x30.length : Int).toNat)))), (7, .v (.one (WL 0)))], [(0, .cells 72 [WN 3 y1.1, .mp 1]), (1, .mp (QL y1.2.1) y1.2.2), (4, .cells 72 [WN 3 y1.1, .mp 1]), (7, .cells 4 (Q9 y32))], [(3, some ⟨54, 1, (Enc.encL y1.1).length, []⟩)], 10, 38, []⟩ : St)))) y34).nx⟩ := by
  refine JE y34 ((Sum.elim (fun (y31 : Unit) => (⟨[(6, .v (.one (WK))), (7, .v (.one (WL 9)))], [(0, .cells 72 [WN 3 y1.1, .mp 1]), (1, .mp (QL y1.2.1) y1.2.2), (4, .cells 72 [WN 3 y1.1, .mp 1])], [(3, some ⟨54, 1, (Enc.encL y1.1).length, []⟩)], 10, 38, []⟩ : St)) (fun (y32 : (List Bool)) => (⟨[(6, .v (.one (.osl 7 0 ((x30.length : Int).toNat) ((x30.length : Int).toNat)))), (7, .v (.one (WL 0)))], [(0, .cells 72 [WN 3 y1.1, .mp 1]), (1, .mp (QL y1.2.1) y1.2.2), (4, .cells 72 [WN 3 y1.1, .mp 1]), (7, .cells 4 (Q9 y32))], [(3, some ⟨54, 1, (Enc.encL y1.1).length, []⟩)], 10, 38, []⟩ : St)))) ((Sum.elim (fun (y31 : Unit) => ([.one (WK), .one (WL 9)] : List AV)) (fun (y32 : (List Bool)) => ([.one (.osl 7 0 ((x30.length : Int).toNat) ((x30.length : Int).toNat)), .one (WL 0)] : List AV)))) rfl rfl en_35 (Wx rfl) (fun z_ => by cases z_ <;> rfl) (fun z_ => by cases z_ with
    | inl _ => exact (Qo rfl (Qo rfl .nil))
    | inr _ => exact (Qo rfl (Qo rfl .nil))) (fun w0 M V0 Q hv1 hQ1 => ?_)
  simp only [Jb]
  refine Q2 <| Q0 <| Qa rfl rfl (Wx rfl) (Jc rfl) <| Qa rfl rfl (Wx rfl) (Jc rfl) <| Wo rfl rfl rfl <| Wo rfl rfl rfl <| Q3 <| Q1 <| Q2 <| Q0 <| Wm rfl rfl rfl (Q7 Y1 rfl rfl rfl) <| Wm rfl rfl rfl (QC (α := List Int) Y7 rfl (.d _)) ?_
  refine QS h1 (fun g35 h1 => ?_)
  refine Qa rfl rfl (Wx rfl) (ZP (α := Bool) (z := false) Zo Wb rfl rfl XV rfl rfl g35 rfl (by repeat (first | exact CLs.nil | refine CLs.cons (by first | exact .refl _ | exact .sub (.app _ _ _) | exact .sub (.nil _)) ?_))) ?_
  refine Qa rfl rfl (Wx rfl) (Qp XD rfl) <| QJ rfl rfl (Ql Zp rfl rfl rfl rfl (Wx rfl) rfl) <| Q3 <| Q1 <| Q2 <| Q0 <| Qa rfl rfl (Wx rfl) (Qp z_106 rfl) <| Q3 <| Q1 <| Q2 <| Q0 <| Wm rfl rfl rfl (Z1 rfl rfl rfl) <| QJ rfl rfl (Ql ZZ rfl rfl rfl rfl (Wx rfl) rfl) <| Q3 ?_
  refine Q1 <| Q2 <| Q2 <| Q0 <| Wn rfl rfl rfl <| Wm rfl rfl rfl (QC (α := U3) J1 rfl (.d _)) <| Wn rfl rfl rfl <| Q3 <| Q1 <| Qc ?_
  refine QI 0 (fun (o36 : (List Bool)) => ⟨[(8, .v (.one (.ptr 8 0)))], [(0, .cells 72 [WN 3 y1.1, .mp 1]), (1, .mp (QL y1.2.1) y1.2.2), (4, .cells 72 [WN 3 y1.1, .mp 1]), (5, .cells 72 [WN 3 y1.1, .mp 1]), (6, .cells 57 [WJ x30]), (7, .cells 4 (Q9 o36)), (8, .cells 75 [.osl 7 0 ((x30.length : Int).toNat) ((x30.length : Int).toNat)]), (9, .cells 106 [.fn 56 [(8, 0), (6, 0), (9, 0)]])], [(3, some ⟨54, 1, (Enc.encL y1.1).length, []⟩)], 10, 38, []⟩) (fun (o36 : (List Bool)) => (some (.inr o36)) = some y34) ?_ ?_
  refine Qb h1 (fun o37 hl2 h1 => ?_)
  refine QH (ZX a1 y1 x30) (fun s2 => ⟨[(3, .v (.one (.ptr 5 0))), (8, .v (.one (.ptr 8 0))), (9, .v (.one (.ptr 9 0))), (18, .v (.one (WJ a1))), (19, .v (.one (WL (a1.length : Int)))), (20, .v (.one (WL s2.1)))], [(0, .cells 72 [WN 3 y1.1, .mp 1]), (1, .mp (QL y1.2.1) y1.2.2), (4, .cells 72 [WN 3 y1.1, .mp 1]), (5, .cells 72 [WN 3 y1.1, .mp 1]), (6, .cells 57 [WJ x30]), (7, .cells 4 (Q9 s2.2)), (8, .cells 75 [.osl 7 0 ((x30.length : Int).toNat) ((x30.length : Int).toNat)]), (9, .cells 106 [.fn 56 [(8, 0), (6, 0), (9, 0)]])], [(3, some ⟨54, 1, (Enc.encL y1.1).length, []⟩)], 10, 38, []⟩) (0, (List.replicate (x30.length : Int).toNat false)) o37 (Qf (Wi rfl (Wi rfl (Wi rfl (Wi rfl (Wi rfl (Wi rfl Wh)))))) (WD rfl (WD rfl (WD rfl (WD rfl (WD rfl (WD rfl (WD rfl (WD rfl WC)))))))) (Wz rfl Wy) rfl (Nat.le_trans hv1 (Wx rfl)) rfl rfl rfl (WU rfl rfl (WS rfl (WU rfl rfl (WU rfl rfl (WU rfl rfl (WT rfl (WU rfl rfl (WU rfl rfl WR)))))))) rfl rfl) hl2 (fun s2 n2 oo2 h2 ho2 => ?_)
  unfold ZX at h2
  refine Q2 <| Q0 <| Wm rfl rfl rfl (Q8 rfl rfl rfl) <| Q3 <| Q1 <| Q2 ?_
  refine Qe (b := (decide (s2.1 < (a1.length : Int)))) rfl (fun c38 => ?_) (fun c38 => ?_)
  replace h2 := Qq c38 h2
  refine Qi <| Q1 <| Q2 <| Qc <| Q2 <| Q0 ?_
  refine Qb h2 (fun x39 hx39 h2 => ?_)
  refine Wm rfl rfl rfl (Qm (α := U3) J1 rfl (.d _) rfl hx39) <| Wm rfl rfl rfl (QN JT rfl rfl) <| Wo rfl rfl rfl <| Q3 <| Q1 <| Q2 <| Q0 <| Wm rfl rfl rfl (Q6 JM rfl) <| Wm rfl rfl rfl (Q7 YD rfl rfl rfl) <| Wn rfl rfl rfl <| Wm rfl rfl rfl (Js (M := y1.2) (k := x39) YC Yg rfl rfl rfl) <| Wn rfl rfl rfl <| Wm rfl rfl rfl (Qg rfl rfl) <| Wm rfl rfl rfl (Qg rfl rfl) ?_
  refine Wo rfl rfl rfl <| Wo rfl rfl rfl <| Q3 <| Q1 <| Q2 <| Q2 <| Q0 <| Wn rfl rfl rfl <| Wm rfl rfl rfl (J9 rfl) <| Q3 <| Q1 ?_
  refine Qe (b := (!(Jt y1.2 x39))) rfl (fun c40 => ?_) (fun c40 => ?_)
  replace h2 := Qq c40 h2
  refine Q2 <| Q0 <| Wo rfl rfl rfl <| Wo rfl rfl rfl <| Q3 <| Q1 <| Qz ?_
  have e := Wk h2; subst e
  have e_ : _ = _ := ho2
  subst e_
  try dsimp only [Sum.elim_inl, Sum.elim_inr] at h1
  have e := Wk h1; subst e
  exact hQ1 _ _ _ (.inr rfl) rfl (show StLe _ _ ⟨[(6, .v (.one (WK))), (7, .v (.one (WL 9)))], [(0, .cells 72 [WN 3 y1.1, .mp 1]), (1, .mp (QL y1.2.1) y1.2.2), (4, .cells 72 [WN 3 y1.1, .mp 1])], [(3, some ⟨54, 1, (Enc.encL y1.1).length, []⟩)], 10, 38, []⟩ from (Qf (Wi rfl (Wi rfl Wh)) (WD rfl (WD rfl (WD rfl WC))) (Wz rfl Wy) rfl (Nat.le_trans hv1 (Wx rfl)) rfl rfl rfl (WU rfl rfl (WS rfl (WU rfl rfl WR))) rfl rfl))
  replace h2 := Qr c40 h2
  refine Qi <| Q1 <| Q0 <| Wm rfl rfl rfl (Q7 ZZ rfl rfl rfl) <| Wn rfl rfl rfl ?_
  refine Qb h2 (fun x41 hx41 h2 => ?_)
  refine Qa rfl rfl (Wx rfl) (J2 (hp1' := [(8, .cells 75 [.osl 7 0 ((x30.length : Int).toNat) ((x30.length : Int).toNat)]), (7, .cells 4 (Q9 x41)), (6, .cells 57 [WJ x30]), (9, .cells 106 [.fn 56 [(8, 0), (6, 0), (9, 0)]])]) (tk1' := []) (hpF := [(0, .cells 72 [WN 3 y1.1, .mp 1]), (1, .mp (QL y1.2.1) y1.2.2), (4, .cells 72 [WN 3 y1.1, .mp 1]), (5, .cells 72 [WN 3 y1.1, .mp 1])]) (tkF := [(3, some ⟨54, 1, (Enc.encL y1.1).length, []⟩)]) (res2 := QA []) (nx2 := 10) [8, 7, 6, 9] rfl rfl (m56f12_ok (Je y1.2 x39) ((x30.length : Int).toNat) s2.2 x30 x41 hx41) rfl rfl (Ws rfl rfl (Wr rfl (Ws rfl rfl (Ws rfl rfl Wp)))) rfl rfl (WG rfl (WI rfl (WG rfl (WG rfl WF)))) WA (WD rfl (WD rfl (WD rfl (WD rfl WC)))) (Wz rfl Wy) rfl rfl rfl rfl rfl (WU rfl rfl (WT rfl (WU rfl rfl (WU rfl rfl WR)))) rfl rfl rfl rfl) <| Q3 <| Qj <| Q1 <| Q0 <| Wm rfl rfl rfl (Q8 rfl rfl rfl) <| Wn rfl rfl rfl <| Q3 ?_
  have e := Wk h2; subst e
  refine QD ((QZ (s2.1 + 1)), x41) (Qf (Wi rfl (Wi rfl (Wi rfl (Wi rfl (Wi rfl (Wi rfl Wh)))))) (WD rfl (WD rfl (WD rfl (WD rfl (WD rfl (WD rfl (WD rfl (WD rfl WC)))))))) (Wz rfl Wy) rfl (Nat.le_trans hv1 (Wx rfl)) rfl rfl rfl (WU rfl rfl (WS rfl (WU rfl rfl (WU rfl rfl (WU rfl rfl (WT rfl (WU rfl rfl (WU rfl rfl WR)))))))) rfl rfl) ho2
  replace h2 := Qr c38 h2
  refine QM <| Qd <| Qd ?_
  have e := Wk h2; subst e
  have e_ : _ = _ := ho2
  subst e_
  exact QG s2.2 (Qf (Wi rfl Wh) (WD rfl (WD rfl (WD rfl (WD rfl (WD rfl (WD rfl (WD rfl (WD rfl WC)))))))) (Wz rfl Wy) rfl (Nat.le_trans hv1 (Wx rfl)) rfl rfl rfl (WU rfl rfl (WS rfl (WU rfl rfl (WU rfl rfl (WU rfl rfl (WT rfl (WU rfl rfl (WU rfl rfl WR)))))))) rfl rfl) h1
  intro o36 h1
  refine QB <| Q1 <| Q2 <| Q0 <| Wm rfl rfl rfl (Q7 Zp rfl rfl rfl) <| Wo rfl rfl rfl <| Wo rfl rfl rfl <| Q3 <| Q1 <| Qz ?_
  have e := Wk h1; subst e
  exact hQ1 _ _ _ (.inr rfl) rfl (show StLe _ _ ⟨[(6, .v (.one (.osl 7 0 ((x30.length : Int).toNat) ((x30.length : Int).toNat)))), (7, .v (.one (WL 0)))], [(0, .cells 72 [WN 3 y1.1, .mp 1]), (1, .mp (QL y1.2.1) y1.2.2), (4, .cells 72 [WN 3 y1.1, .mp 1]), (7, .cells 4 (Q9 o36))], [(3, some ⟨54, 1, (Enc.encL y1.1).length, []⟩)], 10, 38, []⟩ from (Qf (Wi rfl (Wi rfl Wh)) (WD rfl (WD rfl (WD rfl (WD rfl WC)))) (Wz rfl Wy) rfl (Nat.le_trans hv1 (Wx rfl)) rfl rfl rfl (WU rfl rfl (WS rfl (WU rfl rfl (WT rfl WR)))) rfl rfl))
 refine KN (C := fun q_ => CallM Try.prog 35 [.agg [WN 3 y1.1, .mp 1], .one (WJ x30), .one (WJ a1)] ⟨[(0, .cells 72 [WN 3 y1.1, .mp 1]), (1, .mp (QL y1.2.1) y1.2.2), (4, .cells 72 [WN 3 y1.1, .mp 1])], [(3, some ⟨54, 1, (Enc.encL y1.1).length, []⟩)], 5⟩ (QA (((Sum.elim (fun (y31 : Unit) => ([.one (WK), .one (WL 9)] : List AV)) (fun (y32 : (List Bool)) => ([.one (.osl 7 0 ((x30.length : Int).toNat) ((x30.length : Int).toNat)), .one (WL 0)] : List AV)))) q_)) ⟨(((Sum.elim (fun (y31 : Unit) => (⟨[(6, .v (.one (WK))), (7, .v (.one (WL 9)))], [(0, .cells 72 [WN 3 y1.1, .mp 1]), (1, .mp (QL y1.2.1) y1.2.2), (4, .cells 72 [WN 3 y1.1, .mp 1])], [(3, some ⟨54, 1, (Enc.encL y1.1).length, []⟩)], 10, 38, []⟩ : St)) (fun (y32 : (List Bool)) => (⟨[(6, .v (.one (.osl 7 0 ((x30.length : Int).toNat) ((x30.length : Int).toNat)))), (7, .v (.one (WL 0)))], [(0, .cells 72 [WN 3 y1.1, .mp 1]), (1, .mp (QL y1.2.1) y1.2.2), (4, .cells 72 [WN 3 y1.1, .mp 1]), (7, .cells 4 (Q9 y32))], [(3, some ⟨54, 1, (Enc.encL y1.1).length, []⟩)], 10, 38, []⟩ : St)))) q_).hp, (((Sum.elim (fun (y31 : Unit) => (⟨[(6, .v (.one (WK))), (7, .v (.one (WL 9)))], [(0, .cells 72 [WN 3 y1.1, .mp 1]), (1, .mp (QL y1.2.1) y1.2.2), (4, .cells 72 [WN 3 y1.1, .mp 1])], [(3, some ⟨54, 1, (Enc.encL y1.1).length, []⟩)], 10, 38, []⟩ : St)) (fun (y32 : (List Bool)) => (⟨[(6, .v (.one (.osl 7 0 ((x30.length : Int).toNat) ((x30.length : Int).toNat)))), (7, .v (.one (WL 0)))], [(0, .cells 72 [WN 3 y1.1, .mp 1]), (1, .mp (QL y1.2.1) y1.2.2), (4, .cells 72 [WN 3 y1.1, .mp 1]), (7, .cells 4 (Q9 y32))], [(3, some ⟨54, 1, (Enc.encL y1.1).length, []⟩)], 10, 38, []⟩ : St)))) q_).tk, (((Sum.elim (fun (y31 : Unit) => (⟨[(6, .v (.one (WK))), (7, .v (.one (WL 9)))], [(0, .cells 72 [WN 3 y1.1, .mp 1]), (1, .mp (QL y1.2.1) y1.2.2), (4, .cells 72 [WN 3 y1.1, .mp 1])], [(3, some ⟨54, 1, (Enc.encL y1.1).length, []⟩)], 10, 38, []⟩ : St)) (fun (y32 : (List Bool)) => (⟨[(6, .v (.one (.osl 7 0 ((x30.length : Int).toNat) ((x30.length : Int).toNat)))), (7, .v (.one (WL 0)))], [(0, .cells 72 [WN 3 y1.1, .mp 1]), (1, .mp (QL y1.2.1) y1.2.2), (4, .cells 72 [WN 3 y1.1, .mp 1]), (7, .cells 4 (Q9 y32))], [(3, some ⟨54, 1, (Enc.encL y1.1).length, []⟩)], 10, 38, []⟩ : St)))) q_).nx⟩) hc33 h0 (fun y31 hc33 h0 => ?_) (fun y32 hc33 h0 => ?_)
 replace hc33 : CallM Try.prog 35 [.agg [WN 3 y1.1, .mp 1], .one (WJ x30), .one (WJ a1)] ⟨[(0, .cells 72 [WN 3 y1.1, .mp 1]), (1, .mp (QL y1.2.1) y1.2.2), (4, .cells 72 [WN 3 y1.1, .mp 1])], [(3, some ⟨54, 1, (Enc.encL y1.1).length, []⟩)], 5⟩ (QA [.one (WK), .one (WL 9)]) ⟨[(0, .cells 72 [WN 3 y1.1, .mp 1]), (1, .mp (QL y1.2.1) y1.2.2), (4, .cells 72 [WN 3 y1.1, .mp 1])], [(3, some ⟨54, 1, (Enc.encL y1.1).length, []⟩)], 10⟩ := hc33
 refine RunA.eff rfl rfl rfl (QT rfl rfl rfl hc33 rfl (WD rfl (WD rfl (WD rfl WC))) (Wz rfl Wy)) rfl <| RunA.rd rfl rfl rfl (Q4 (QQ rfl)) rfl <| RunA.rd rfl rfl rfl (Q4 (Qg rfl rfl)) rfl <| RunA.rd rfl rfl rfl (Q4 (Qg rfl rfl)) rfl <| RunA.rd rfl rfl rfl (Q4 (YB rfl)) rfl <| RunA.rd rfl rfl rfl (Q4 (YB rfl)) rfl ?_
 refine RunA.nil ⟨?ex, _, _, rfl, ?_⟩
 case ex => exact trivial
 refine JK (st' := ⟨[(0, .v (.one (WJ a0))), (7, .v (.one (WL 9))), (8, .v (.one (WK)))], [(0, .cells 72 [WN 3 y1.1, .mp 1]), (1, .mp (QL y1.2.1) y1.2.2), (4, .cells 72 [WN 3 y1.1, .mp 1])], [(3, some ⟨54, 1, (Enc.encL y1.1).length, []⟩)], 10, 49, []⟩) (Qf (Wi rfl (Wi rfl (Wi rfl Wh))) (WD rfl (WD rfl (WD rfl WC))) (Wz rfl Wy) rfl (Nat.zero_le _) rfl rfl rfl (WU rfl rfl (WS rfl (WU rfl rfl WR))) rfl rfl) <| Q1 <| Q2 <| Q2 <| Q0 <| Wn rfl rfl rfl <| Wm rfl rfl rfl (Q8 rfl rfl rfl) <| Q3 <| Q1 ?_
 refine Qe rfl (fun _ => ?_) (fun h => nomatch h)
 refine Q2 <| Q0 <| Wn rfl rfl rfl <| Wo rfl rfl rfl <| Wo rfl rfl rfl <| Q3 <| Q1 <| Qz ?_
 have e := Wk h0; subst e
 exact QO (fun _ _ h => h) rfl (Qo rfl (Qo rfl .nil)) (.cons (.one (.nil _)) (.cons (.one (.d _)) .nil))
 replace hc33 : CallM Try.prog 35 [.agg [WN 3 y1.1, .mp 1], .one (WJ x30), .one (WJ a1)] ⟨[(0, .cells 72 [WN 3 y1.1, .mp 1]), (1, .mp (QL y1.2.1) y1.2.2), (4, .cells 72 [WN 3 y1.1, .mp 1])], [(3, some ⟨54, 1, (Enc.encL y1.1).length, []⟩)], 5⟩ (QA [.one (.osl 7 0 ((x30.length : Int).toNat) ((x30.length : Int).toNat)), .one (WL 0)]) ⟨[(0, .cells 72 [WN 3 y1.1, .mp 1]), (1, .mp (QL y1.2.1) y1.2.2), (4, .cells 72 [WN 3 y1.1, .mp 1]), (7, .cells 4 (Q9 y32))], [(3, some ⟨54, 1, (Enc.encL y1.1).length, []⟩)], 10⟩ := hc33
 refine RunA.eff rfl rfl rfl (QT rfl rfl rfl hc33 rfl (WD rfl (WD rfl (WD rfl WC))) (Wz rfl Wy)) rfl <| RunA.rd rfl rfl rfl (Q4 (QQ rfl)) rfl <| RunA.rd rfl rfl rfl (Q4 (Qg rfl rfl)) rfl <| RunA.rd rfl rfl rfl (Q4 (Qg rfl rfl)) rfl <| RunA.rd rfl rfl rfl (Q4 (YB rfl)) rfl <| RunA.rd rfl rfl rfl (Q4 (YB rfl)) rfl ?_
 refine RunA.nil ⟨?ex, _, _, rfl, ?_⟩
 case ex => exact trivial
 refine JK (st' := ⟨[(0, .v (.one (WJ a0))), (7, .v (.one (WL 0))), (8, .v (.one (.osl 7 0 ((x30.length : Int).toNat) ((x30.length : Int).toNat))))], [(0, .cells 72 [WN 3 y1.1, .mp 1]), (1, .mp (QL y1.2.1) y1.2.2), (4, .cells 72 [WN 3 y1.1, .mp 1]), (7, .cells 4 (Q9 y32))], [(3, some ⟨54, 1, (Enc.encL y1.1).length, []⟩)], 10, 49, []⟩) (Qf (Wi rfl (Wi rfl (Wi rfl Wh))) (WD rfl (WD rfl (WD rfl (WD rfl WC)))) (Wz rfl Wy) rfl (Nat.zero_le _) rfl rfl rfl (WU rfl rfl (WS rfl (WU rfl rfl (WT rfl WR)))) rfl rfl) <| Q1 <| Q2 <| Q2 <| Q0 <| Wn rfl rfl rfl <| Wm rfl rfl rfl (Q8 rfl rfl rfl) <| Q3 <| Q1 ?_
 refine Qe rfl (fun h => nomatch h) (fun _ => ?_)
 refine Qi <| Q1 <| Q2 <| Q0 <| Wo rfl rfl rfl <| Q3 <| Q1 <| Q2 <| Q2 <| Q0 <| Wn rfl rfl rfl <| Wm rfl rfl rfl (QC (α := Dcl) Jo rfl (.d _)) <| Wn rfl rfl rfl <| Q3 ?_
 refine Q1 <| Qc ?_
 refine QI 0 (fun (o42 : (List U3)) => ⟨[(9, .v (.one (WN 10 o42)))], [(0, .cells 72 [WN 3 y1.1, .mp 1]), (1, .mp (QL y1.2.1) y1.2.2), (4, .cells 72 [WN 3 y1.1, .mp 1]), (7, .cells 4 (Q9 y32))], [(3, some ⟨54, 1, (Enc.encL y1.1).length, []⟩), (10, some ⟨9, 1, (Enc.encL o42).length, []⟩)], 11, 49, []⟩) (fun (o42 : (List U3)) => (some (o42, 0)) = some r) ?_ ?_
 refine JW (t := 9) 9 1 rfl ?_
 refine Qb h0 (fun o43 hl1 h0 => ?_)
 refine QH (GI a0 y32 x30) (fun s1 => ⟨[(8, .v (.one (.osl 7 0 ((x30.length : Int).toNat) ((x30.length : Int).toNat)))), (9, .v (.one (WN 10 s1.1))), (32, .v (.one (WJ a0))), (33, .v (.one (WL (a0.length : Int)))), (34, .v (.one (WL s1.2)))], [(0, .cells 72 [WN 3 y1.1, .mp 1]), (1, .mp (QL y1.2.1) y1.2.2), (4, .cells 72 [WN 3 y1.1, .mp 1]), (7, .cells 4 (Q9 y32))], [(3, some ⟨54, 1, (Enc.encL y1.1).length, []⟩), (10, some ⟨9, 1, (Enc.encL s1.1).length, []⟩)], 11, 49, []⟩) (([] : List U3), 0) o43 (Qf (Wi rfl (Wi rfl (Wi rfl (Wi rfl (Wi rfl Wh))))) (WD rfl (WD rfl (WD rfl (WD rfl WC)))) (Wz rfl (Wz rfl Wy)) rfl (Nat.zero_le _) rfl rfl rfl (WU rfl rfl (WS rfl (WU rfl rfl (WT rfl WR)))) rfl rfl) hl1 (fun s1 n1 oo1 h1 ho1 => ?_)
 unfold GI at h1
 refine Q2 <| Q0 <| Wm rfl rfl rfl (Q8 rfl rfl rfl) <| Q3 <| Q1 <| Q2 ?_
 refine Qe (b := (decide (s1.2 < (a0.length : Int)))) rfl (fun c44 => ?_) (fun c44 => ?_)
 replace h1 := Qq c44 h1
 refine Qi <| Q1 <| Q2 <| Qc <| Q2 <| Q0 <| Wn rfl rfl rfl ?_
 refine Qb h1 (fun x45 hx45 h1 => ?_)
 refine Wm rfl rfl rfl (Qm (α := Dcl) Jo rfl (.d _) rfl hx45) <| Wm rfl rfl rfl (QK (x45 : Dcl) Jg rfl) <| Qa rfl rfl (Wx rfl) (Qp ZU rfl) <| Wo rfl rfl rfl <| QJ rfl rfl (J6 (x45 : Dcl) Jg rfl rfl rfl rfl rfl) <| Q3 <| Q1 <| Q2 <| Q0 <| Wn rfl rfl rfl <| Wn rfl rfl rfl ?_
 refine Qb h1 (fun x46 hx46 h1 => ?_)
 refine QS h1 (fun g47 h1 => ?_)
 refine Wm rfl rfl rfl (Jp (α := Bool) Zo rfl rfl hx46 g47) <| Wm rfl rfl rfl (YS (α := Bool) (m := s1.2) (f := 0) Gt rfl rfl hx46 rfl) <| Q3 <| Q1 ?_
 refine Qe (b := x46) rfl (fun c48 => ?_) (fun c48 => ?_)
 replace h1 := Qq c48 h1
 refine Q0 <| Wn rfl rfl rfl <| Wm rfl rfl rfl (JA (x45 : Dcl) Jg rfl rfl) ?_
 refine Qb h1 (fun x49 hx49 h1 => ?_)
 refine Qa rfl rfl (Wx rfl) (Qn (Ki x45 x49 hx49) rfl (.cons (.agg (.cons (.d _) (.cons (.d _) (.cons (.d _) (.cons (.d _) (.cons (.d _) (.cons (.d _) (.cons (.d _) (.cons (.d _) (.cons (.d _) (.cons (.d _) (.cons (.d _) (.cons (.d _) (.cons (.d _) (.cons (.d _) (.cons (.d _) (.cons (.d _) (.cons (.d _) (.cons (.d _) (.cons (.d _) (.cons (.d _) (.cons (.d _) (.cons (.d _) (.cons (.d _) .nil)))))))))))))))))))))))) .nil)) ?_
 refine QS h1 (fun g50 h1 => ?_)
 refine Qa rfl rfl (Wx rfl) (QW (α := U3) J1 G7 rfl rfl rfl rfl rfl (.d _) g50) <| Wo rfl rfl rfl <| Q3 <| Qj <| Q1 <| Q0 <| Wm rfl rfl rfl (Q8 rfl rfl rfl) <| Wn rfl rfl rfl <| Q3 ?_
 have e := Wk h1; subst e
 refine QD ((s1.1 ++ x49), (QZ (s1.2 + 1))) (Qf (Wi rfl (Wi rfl (Wi rfl (Wi rfl (Wi rfl Wh))))) (WD rfl (WD rfl (WD rfl (WD rfl WC)))) (Wz rfl (Wz rfl Wy)) rfl (Nat.zero_le _) rfl rfl rfl (WU rfl rfl (WS rfl (WU rfl rfl (WT rfl WR)))) rfl rfl) ho1
 replace h1 := Qr c48 h1
 refine Qi <| Qj <| Q1 <| Q0 <| Wm rfl rfl rfl (Q8 rfl rfl rfl) <| Wn rfl rfl rfl <| Q3 ?_
 have e := Wk h1; subst e
 refine QD (s1.1, (QZ (s1.2 + 1))) (Qf (Wi rfl (Wi rfl (Wi rfl (Wi rfl (Wi rfl Wh))))) (WD rfl (WD rfl (WD rfl (WD rfl WC)))) (Wz rfl (Wz rfl Wy)) rfl (Nat.zero_le _) rfl rfl rfl (WU rfl rfl (WS rfl (WU rfl rfl (WT rfl WR)))) rfl rfl) ho1
 replace h1 := Qr c44 h1
 refine QM <| Qd <| Qd ?_
 have e := Wk h1; subst e
 have e_ : _ = _ := ho1
 subst e_
 exact QG s1.1 (Qf (Wi rfl Wh) (WD rfl (WD rfl (WD rfl (WD rfl WC)))) (Wz rfl (Wz rfl Wy)) rfl (Nat.zero_le _) rfl rfl rfl (WU rfl rfl (WS rfl (WU rfl rfl (WT rfl WR)))) rfl rfl) h0
 intro o42 h0
 refine QB <| Q1 <| Q2 <| Q0 <| Wn rfl rfl rfl <| Wo rfl rfl rfl <| Wo rfl rfl rfl <| Q3 <| Q1 <| Qz ?_
 have e := Wk h0; subst e
 exact QO (fun _ _ h => h) rfl (Qo rfl (Qo rfl .nil)) (.cons (.one (.app _ _ _)) (.cons (.one (.d _)) .nil))
 replace hc4 : CallM Try.prog 34 [.one (WJ a0)] ⟨[], [], 0⟩ (QA [.agg [WK, .d (.v (.map none))], .one (WL 8)]) ⟨[(0, .cells 72 [WK, .d (.v (.map none))])], [], 4⟩ := hc4
 refine Qa rfl rfl (Wx rfl) (QT rfl rfl rfl hc4 rfl WC Wy) <| Wn rfl rfl rfl <| Wm rfl rfl rfl (Qg rfl rfl) <| Wm rfl rfl rfl (Qg rfl rfl) <| Qa rfl rfl (Wx rfl) (Qp YT rfl) <| QJ rfl rfl (Ql J8 rfl rfl rfl rfl (Wx rfl) rfl) <| Wo rfl rfl rfl <| Q3 <| Q1 <| Q2 <| Q2 <| Q0 <| Wn rfl rfl rfl <| Wm rfl rfl rfl (Q8 rfl rfl rfl) ?_
 refine Q3 <| Q1 ?_
 refine Qe rfl (fun _ => ?_) (fun h => nomatch h)
 refine Q2 <| Q0 <| Wn rfl rfl rfl <| Wo rfl rfl rfl <| Wo rfl rfl rfl <| Q3 <| Q1 <| Qz ?_
 have e := Wk h0; subst e
 exact QO (fun _ _ h => h) rfl (Qo rfl (Qo rfl .nil)) (.cons (.one (.nil _)) (.cons (.one (.d _)) .nil))
 replace hc4 : CallM Try.prog 34 [.one (WJ a0)] ⟨[], [], 0⟩ (QA [.agg [WK, .d (.v (.map none))], .one (WL 9)]) ⟨[(0, .cells 72 [WK, .d (.v (.map none))])], [], 6⟩ := hc4
 refine Qa rfl rfl (Wx rfl) (QT rfl rfl rfl hc4 rfl WC Wy) <| Wn rfl rfl rfl <| Wm rfl rfl rfl (Qg rfl rfl) <| Wm rfl rfl rfl (Qg rfl rfl) <| Qa rfl rfl (Wx rfl) (Qp YT rfl) <| QJ rfl rfl (Ql J8 rfl rfl rfl rfl (Wx rfl) rfl) <| Wo rfl rfl rfl <| Q3 <| Q1 <| Q2 <| Q2 <| Q0 <| Wn rfl rfl rfl <| Wm rfl rfl rfl (Q8 rfl rfl rfl) ?_
 refine Q3 <| Q1 ?_
 refine Qe rfl (fun _ => ?_) (fun h => nomatch h)
 refine Q2 <| Q0 <| Wn rfl rfl rfl <| Wo rfl rfl rfl <| Wo rfl rfl rfl <| Q3 <| Q1 <| Qz ?_
 have e := Wk h0; subst e
 exact QO (fun _ _ h => h) rfl (Qo rfl (Qo rfl .nil)) (.cons (.one (.nil _)) (.cons (.one (.d _)) .nil))
end Go.Proofs.Ytijcchddnnnmdaa
