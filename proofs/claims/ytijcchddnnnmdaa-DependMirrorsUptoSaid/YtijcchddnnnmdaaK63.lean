/- Part 3 of the proof: rules, mirrors and plain laws. The statement DependMirrorsUpto is proved here: for every list of declarations and every two bytes the law returns true, and the arguments read behind the call as they did before; condition: the arguments are of bulk at most 1048576 (the second form). -/
import Derived.Test.YtijcchddnnnmdaaK62
namespace Go.Proofs.Ytijcchddnnnmdaa
open Go.RowKit Go.Shelf
set_option linter.unusedSimpArgs false
set_option linter.unusedVariables false
theorem fo_45_1 : J8 Try.prog 45 1 = some 1 := by kernel_rfl
theorem G4 : J8 Try.prog 45 2 = some 6 := by kernel_rfl
theorem fo_48_0 : J8 Try.prog 48 0 = some 0 := by kernel_rfl
theorem Za : J8 Try.prog 48 1 = some 1 := by kernel_rfl
theorem fo_48_3 : J8 Try.prog 48 3 = some 3 := by kernel_rfl
theorem fo_48_4 : J8 Try.prog 48 4 = some 8 := by kernel_rfl
theorem ZA : J8 Try.prog 48 6 = some 14 := by kernel_rfl
theorem Kc : J8 Try.prog 48 7 = some 15 := by kernel_rfl
theorem YY : J8 Try.prog 48 8 = some 22 := by kernel_rfl
theorem fo_84_0 : J8 Try.prog 84 0 = some 0 := by kernel_rfl
theorem fo_84_1 : J8 Try.prog 84 1 = some 1 := by kernel_rfl
theorem fo_87_0 : J8 Try.prog 87 0 = some 0 := by kernel_rfl
theorem fo_87_1 : J8 Try.prog 87 1 = some 1 := by kernel_rfl
theorem G3 : J8 Try.prog 87 3 = some 7 := by kernel_rfl
theorem fo_89_0 : J8 Try.prog 89 0 = some 0 := by kernel_rfl
theorem fo_89_1 : J8 Try.prog 89 1 = some 1 := by kernel_rfl
theorem fo_89_3 : J8 Try.prog 89 3 = some 7 := by kernel_rfl
theorem fo_115_0 : J8 Try.prog 115 0 = some 0 := by kernel_rfl
theorem fo_115_1 : J8 Try.prog 115 1 = some 1 := by kernel_rfl
theorem fo_115_2 : J8 Try.prog 115 2 = some 2 := by kernel_rfl
theorem Gv : Jn Try.prog 4 = some (false, 1) := by kernel_rfl
theorem Gu : Jn Try.prog 43 = some (false, 1) := by kernel_rfl
theorem KE : Jn Try.prog 46 = some (false, 1) := by kernel_rfl
theorem J3 : Jn Try.prog 48 = some (true, 23) := by kernel_rfl
theorem ag_68 : Jn Try.prog 68 = some (false, 1) := by kernel_rfl
theorem ag_84 : Jn Try.prog 84 = some (true, 6) := by kernel_rfl
theorem X5 : Jn Try.prog 85 = some (false, 1) := by kernel_rfl
theorem ag_87 : Jn Try.prog 87 = some (true, 8) := by kernel_rfl
theorem GS : Jn Try.prog 89 = some (true, 15) := by kernel_rfl
theorem ag_115 : Jn Try.prog 115 = some (true, 10) := by kernel_rfl
theorem Kh : QT Try.prog 43 = some (84, 6) := by kernel_rfl
theorem ZK : QT Try.prog 46 = some (89, 15) := by kernel_rfl
theorem GO : QT Try.prog 85 = some (115, 10) := by kernel_rfl
theorem z_40 : Jg Try.prog 40 = some [.slice none 0 0] := by kernel_rfl
theorem z_84 : Jg Try.prog 84 = some [.string ByteArray.empty, .int .i64 0, .int .i64 0, .string ByteArray.empty, .slice none 0 0, .slice none 0 0] := by kernel_rfl
theorem z_89 : Jg Try.prog 89 = some [.string ByteArray.empty, .int .i64 0, .int .i64 0, .string ByteArray.empty, .slice none 0 0, .slice none 0 0, .int .i64 0, .int .i64 0, .int .i64 0, .int .i64 0, .string ByteArray.empty, .slice none 0 0, .slice none 0 0, .int .i64 0, .slice none 0 0] := by kernel_rfl
theorem z_115 : Jg Try.prog 115 = some [.string ByteArray.empty, .bool false, .int .i64 0, .int .i64 0, .int .i64 0, .string ByteArray.empty, .slice none 0 0, .slice none 0 0, .int .i64 0, .slice none 0 0] := by kernel_rfl
theorem el_42 : Ya Try.prog 42 = some (5, 80) := by kernel_rfl
theorem en_31 : J9 Try.prog 31 := enters_of Try.func31 (by kernel_rfl) rfl
theorem en_37 : J9 Try.prog 37 := enters_of Try.func37 (by kernel_rfl) rfl
theorem en_52 : J9 Try.prog 52 := enters_of Try.func52 (by kernel_rfl) rfl
theorem en_53 : J9 Try.prog 53 := enters_of Try.func53 (by kernel_rfl) rfl
theorem en_67 : J9 Try.prog 67 := enters_of Try.func67 (by kernel_rfl) rfl
theorem en_73 : J9 Try.prog 73 := enters_of Try.func73 (by kernel_rfl) rfl
theorem en_75 : J9 Try.prog 75 := enters_of Try.func75 (by kernel_rfl) rfl
theorem en_89 : J9 Try.prog 89 := enters_of Try.func89 (by kernel_rfl) rfl
theorem mixed : Try.prog.follows .mixedOrders = true := by kernel_rfl
noncomputable def J0 : Code := (Wl (Wl (Wk (Wl (Wk (Wk (Wk (Wk (bodyC Try.f53)))))))))
noncomputable def QZ : Code := (Wk (Wl (Wk (Wl (Wk (Wk (Wk (Wk (bodyC Try.f53)))))))))
def KM (a0 : Dcl) (s1 : (List Wy) × Int) : Option (LO ((List Wy) × Int) (((List Wy)))) :=
 cond (decide (s1.2 < (a0.ctors.length : Int)))
   (Option.bind (J1 a0.ctors s1.2) fun (x8 : Ctr) =>
 Qm (Nat.ble (s1.1.length + ([x8.name]).length) 1000000000)
 (some (.next ((s1.1 ++ ([x8.name])), (QW (s1.2 + 1))))))
   (some (.done s1.1))
def KL (a0 : Dcl) (s1 : (List Wy) × Int) : Option (LO ((List Wy) × Int) (((List Wy)))) :=
 cond (decide (s1.2 < (a0.funs.length : Int)))
   (Option.bind (J1 a0.funs s1.2) fun (x16 : Fn) =>
 Qm (Nat.ble (s1.1.length + ([x16.name]).length) 1000000000)
 (some (.next ((s1.1 ++ ([x16.name])), (QW (s1.2 + 1))))))
   (some (.done s1.1))
def X8 (a0 : Dcl) : Option ((List Wy)) :=
 Option.bind (cond (a0.kind == 0)
   (some (a0.kind == 0))
   (cond (a0.kind == 1)
   (some (a0.kind == 1))
   (some (a0.kind == 2)))) (fun (v1 : Bool) => cond v1
   (Qm (Nat.ble ([a0.name]).length 1000000000)
 (some ([a0.name])))
   (cond (a0.kind == 3)
   (Qm (Nat.ble ([a0.name]).length 1000000000)
 (Option.bind (Qo (KM a0) QB ([a0.name], 0)) (fun (o6 : (List Wy)) => Qm (Nat.ble (a0.name.length + ([46, 114, 101, 99] : List UInt8).length) 1000000000)
 (Qm (Nat.ble (o6.length + ([(a0.name ++ ([46, 114, 101, 99] : List UInt8))]).length) 1000000000)
 (some (o6 ++ ([(a0.name ++ ([46, 114, 101, 99] : List UInt8))])))))))
   (cond (a0.kind == 4)
   (Option.bind (Qo (KL a0) QB (([] : List Wy), 0)) (fun (o14 : (List Wy)) => some o14))
   (some ([] : List Wy)))))
set_option maxRecDepth 100000 in
set_option maxHeartbeats 8000000 in
theorem K5 (a0 : Dcl) (r : (List Wy)) (h0 : X8 a0 = some r) : Fun Try.prog 37 [.agg (Wj a0)] (Qr [.one (We r)]) := by
 unfold X8 at h0
 refine Jd 9 61 Try.func37 rfl en_37 rfl (W1 rfl) (fun S w => ?_)
 simp only [Jc]
 refine Q2 <| Q0 <| Q9 rfl rfl (W1 rfl) (Js rfl) <| XS rfl rfl rfl <| Q3 <| Q1 <| Q2 <| Q0 <| XS rfl rfl rfl <| Q3 <| Q1 <| Q2 <| Q2 <| Q0 ?_
 refine XP rfl rfl rfl (Q8 fo_48_0 rfl) <| XP rfl rfl rfl (Q7 Gb rfl rfl rfl) <| Q3 <| Q1 <| Qd <| Q2 <| Q2 <| Q0 <| XP rfl rfl rfl (Q4 rfl rfl rfl) <| XS rfl rfl rfl <| Q3 <| Q1 ?_
 refine Jy (fun (v1 : Bool) => ⟨[(1, .v (.one (.ptr 0 0))), (3, .v (.one (Wf))), (9, .v (.one (Wg a0.kind))), (10, .v (.one (Wh v1)))], [(0, .cells 48 (Wj a0))], [], 1, 61, []⟩) (fun (v1 : Bool) => (cond v1
     (Qm (Nat.ble ([a0.name]).length 1000000000)
   (some ([a0.name])))
     (cond (a0.kind == 3)
     (Qm (Nat.ble ([a0.name]).length 1000000000)
   (Option.bind (Qo (KM a0) QB ([a0.name], 0)) (fun (o6 : (List Wy)) => Qm (Nat.ble (a0.name.length + ([46, 114, 101, 99] : List UInt8).length) 1000000000)
   (Qm (Nat.ble (o6.length + ([(a0.name ++ ([46, 114, 101, 99] : List UInt8))]).length) 1000000000)
   (some (o6 ++ ([(a0.name ++ ([46, 114, 101, 99] : List UInt8))])))))))
     (cond (a0.kind == 4)
     (Option.bind (Qo (KL a0) QB (([] : List Wy), 0)) (fun (o14 : (List Wy)) => some o14))
     (some ([] : List Wy))))) = some r) ?_ ?_
 refine Qb h0 (fun w1_ h1 h0 => ?_)
 refine Qg (b := (a0.kind == 0)) rfl (fun c2 => ?_) (fun c2 => ?_)
 replace h1 := Qu c2 h1
 refine Qj ?_
 have e := XN h1; subst e
 exact QG (a0.kind == 0) (Qh (XK rfl (XK rfl (XK rfl (XK rfl XJ)))) (W8 rfl W7) W3 rfl (Nat.zero_le _) rfl rfl rfl (Wp rfl rfl Wm) rfl rfl) h0
 replace h1 := Qv c2 h1
 refine Q2 <| Q0 <| XP rfl rfl rfl (Q4 rfl rfl rfl) <| XS rfl rfl rfl <| Q3 <| Q1 ?_
 refine Qg (b := (a0.kind == 1)) rfl (fun c3 => ?_) (fun c3 => ?_)
 replace h1 := Qu c3 h1
 refine Qj ?_
 have e := XN h1; subst e
 exact QG (a0.kind == 1) (Qh (XK rfl (XK rfl (XK rfl (XK rfl XJ)))) (W8 rfl W7) W3 rfl (Nat.zero_le _) rfl rfl rfl (Wp rfl rfl Wm) rfl rfl) h0
 replace h1 := Qv c3 h1
 refine Q0 <| XP rfl rfl rfl (Q4 rfl rfl rfl) <| XS rfl rfl rfl <| Q3 ?_
 have e := XN h1; subst e
 exact QG (a0.kind == 2) (Qh (XK rfl (XK rfl (XK rfl (XK rfl XJ)))) (W8 rfl W7) W3 rfl (Nat.zero_le _) rfl rfl rfl (Wp rfl rfl Wm) rfl rfl) h0
 intro v1 h0
 refine Q1 ?_
 refine Qg (b := v1) rfl (fun c4 => ?_) (fun c4 => ?_)
 replace h0 := Qu c4 h0
 refine Q0 <| XR rfl rfl rfl <| XP rfl rfl rfl (Q8 Za rfl) <| XP rfl rfl rfl (Q7 Y6 rfl rfl rfl) <| Q9 rfl rfl (W1 rfl) (QY (α := Wy) (a0.name) QQ GY rfl rfl (W1 rfl) (W1 rfl) rfl rfl (.cons (.d _) .nil) rfl) ?_
 refine QO h0 (fun g5 h0 => ?_)
 refine Q9 rfl rfl (W1 rfl) (OpOK.appendNilE (α := Wy) QQ G7 rfl rfl rfl (.app _ _) g5) <| XS rfl rfl rfl <| Q3 <| Qk <| Q1 <| Q2 <| Q0 <| XR rfl rfl rfl <| XS rfl rfl rfl <| Q3 <| Q1 <| Qw ?_
 have e := XN h0; subst e
 exact QX (fun _ _ h => h) rfl (Qp rfl .nil) (.cons (.one (.app _ _ _)) .nil)
 replace h0 := Qv c4 h0
 refine Q2 <| Q0 <| XP rfl rfl rfl (Q4 rfl rfl rfl) <| XS rfl rfl rfl <| Q3 <| Q1 ?_
 refine Qg (b := (a0.kind == 3)) rfl (fun c6 => ?_) (fun c6 => ?_)
 replace h0 := Qu c6 h0
 refine Q2 <| Q0 <| XR rfl rfl rfl <| XP rfl rfl rfl (Q8 Za rfl) <| XP rfl rfl rfl (Q7 Y6 rfl rfl rfl) <| Q9 rfl rfl (W1 rfl) (QY (α := Wy) (a0.name) QQ GY rfl rfl (W1 rfl) (W1 rfl) rfl rfl (.cons (.d _) .nil) rfl) ?_
 refine QO h0 (fun g7 h0 => ?_)
 refine Q9 rfl rfl (W1 rfl) (OpOK.appendNilE (α := Wy) QQ G7 rfl rfl rfl (.app _ _) g7) <| XS rfl rfl rfl <| Q3 <| Q1 <| Q2 <| Q2 <| Q0 <| XP rfl rfl rfl (Q8 ZA rfl) <| XP rfl rfl rfl (Q7 Gu rfl rfl rfl) <| XP rfl rfl rfl (Qy (α := Ctr) Kh rfl (.d _)) <| XR rfl rfl rfl <| Q3 <| Q1 <| Qd ?_
 refine QI 1 (fun (o8 : (List Wy)) => ⟨[(1, .v (.one (.ptr 0 0))), (3, .v (.one (Wi 2 o8)))], [(0, .cells 48 (Wj a0))], [(1, some ⟨9, 1, (Enc.encL ([a0.name] : List Wy)).length, []⟩), (2, some ⟨9, 1, (Enc.encL o8).length, []⟩)], 3, 61, []⟩) (fun (o8 : (List Wy)) => (Qm (Nat.ble (a0.name.length + ([46, 114, 101, 99] : List UInt8).length) 1000000000)
   (Qm (Nat.ble (o8.length + ([(a0.name ++ ([46, 114, 101, 99] : List UInt8))]).length) 1000000000)
   (some (o8 ++ ([(a0.name ++ ([46, 114, 101, 99] : List UInt8))]))))) = some r) ?_ ?_
 refine Qb h0 (fun o9 hl1 h0 => ?_)
 refine QH (KM a0) (fun s1 => ⟨[(1, .v (.one (.ptr 0 0))), (3, .v (.one (Wi 2 s1.1))), (27, .v (.one (We a0.ctors))), (28, .v (.one (Wg (a0.ctors.length : Int)))), (29, .v (.one (Wg s1.2)))], [(0, .cells 48 (Wj a0))], [(1, some ⟨9, 1, (Enc.encL ([a0.name] : List Wy)).length, []⟩), (2, some ⟨9, 1, (Enc.encL s1.1).length, []⟩)], 3, 61, []⟩) ([a0.name], 0) o9 (Qh (XK rfl (XK rfl (XK rfl (XK rfl (XK rfl XJ))))) (W8 rfl W7) (W4 rfl (W4 rfl W3)) rfl (Nat.zero_le _) rfl rfl rfl (Wp rfl rfl Wm) rfl rfl) hl1 (fun s1 n1 oo1 h1 ho1 => ?_)
 unfold KM at h1
 refine Q2 <| Q0 <| XP rfl rfl rfl (Q4 rfl rfl rfl) <| Q3 <| Q1 <| Q2 ?_
 refine Qg (b := (decide (s1.2 < (a0.ctors.length : Int)))) rfl (fun c10 => ?_) (fun c10 => ?_)
 replace h1 := Qu c10 h1
 refine Qj <| Q1 <| Q2 <| Qd <| Q2 <| Q0 ?_
 refine Qb h1 (fun x11 hx11 h1 => ?_)
 refine XP rfl rfl rfl (Qq (α := Ctr) Kh rfl (.d _) rfl hx11) <| XP rfl rfl rfl (Jm ag_84 rfl rfl rfl) <| Q9 rfl rfl (W1 rfl) (Ql z_84 rfl) <| QA rfl rfl (Qi ag_84 rfl rfl rfl rfl (W1 rfl) rfl) <| Q3 <| Q1 <| Q0 <| XR rfl rfl rfl <| XP rfl rfl rfl (Q8 fo_84_0 rfl) <| XP rfl rfl rfl (Q7 Y6 rfl rfl rfl) <| Q9 rfl rfl (W1 rfl) (QY (α := Wy) (x11.name) QQ GY rfl rfl (W1 rfl) (W1 rfl) rfl rfl (.cons (.d _) .nil) rfl) ?_
 refine QO h1 (fun g12 h1 => ?_)
 refine Q9 rfl rfl (W1 rfl) (QU (α := Wy) QQ G7 rfl rfl rfl rfl rfl (.app _ _) g12) <| XS rfl rfl rfl <| Q3 <| Qk <| Q1 <| Q0 <| XP rfl rfl rfl (Q4 rfl rfl rfl) <| XR rfl rfl rfl <| Q3 ?_
 have e := XN h1; subst e
 refine QD ((s1.1 ++ ([x11.name])), (QW (s1.2 + 1))) (Qh (XK rfl (XK rfl (XK rfl (XK rfl (XK rfl XJ))))) (W8 rfl W7) (W4 rfl (W4 rfl W3)) rfl (Nat.zero_le _) rfl rfl rfl (Wp rfl rfl Wm) rfl rfl) ho1
 replace h1 := Qv c10 h1
 refine QN <| Qf <| Qf ?_
 have e := XN h1; subst e
 have e_ : _ = _ := ho1
 subst e_
 exact QF s1.1 (Qh (XK rfl (XK rfl XJ)) (W8 rfl W7) (W4 rfl (W4 rfl W3)) rfl (Nat.zero_le _) rfl rfl rfl (Wp rfl rfl Wm) rfl rfl) h0
 intro o8 h0
 refine Qx <| Q1 <| Q0 <| XR rfl rfl rfl <| XP rfl rfl rfl (Q8 Za rfl) <| XP rfl rfl rfl (Q7 Y6 rfl rfl rfl) ?_
 refine QO h0 (fun g13 h0 => ?_)
 refine XP rfl rfl rfl (RO.addS rfl rfl g13) <| Q9 rfl rfl (W1 rfl) (QY (α := Wy) ((a0.name ++ ([46, 114, 101, 99] : List UInt8))) QQ GY rfl rfl (W1 rfl) (W1 rfl) rfl rfl (.cons (.d _) .nil) rfl) ?_
 refine QO h0 (fun g14 h0 => ?_)
 refine Q9 rfl rfl (W1 rfl) (QU (α := Wy) QQ G7 rfl rfl rfl rfl rfl (.app _ _) g14) <| XS rfl rfl rfl <| Q3 <| Qk <| Q1 <| Q2 <| Q0 <| XR rfl rfl rfl <| XS rfl rfl rfl <| Q3 <| Q1 <| Qw ?_
 have e := XN h0; subst e
 exact QX (fun _ _ h => h) rfl (Qp rfl .nil) (.cons (.one (.app _ _ _)) .nil)
 replace h0 := Qv c6 h0
 refine Q2 <| Q0 <| XP rfl rfl rfl (Q4 rfl rfl rfl) <| XS rfl rfl rfl <| Q3 <| Q1 ?_
 refine Qg (b := (a0.kind == 4)) rfl (fun c15 => ?_) (fun c15 => ?_)
 replace h0 := Qu c15 h0
 refine Q2 <| Q0 <| XP rfl rfl rfl (Q8 YY rfl) <| XP rfl rfl rfl (Q7 KE rfl rfl rfl) <| XP rfl rfl rfl (Qy (α := Fn) ZK rfl (.d _)) <| XR rfl rfl rfl <| Q3 <| Q1 <| Qd ?_
 refine QI 3 (fun (o16 : (List Wy)) => ⟨[(3, .v (.one (Wi 1 o16)))], [(0, .cells 48 (Wj a0))], [(1, some ⟨9, 1, (Enc.encL o16).length, []⟩)], 2, 61, []⟩) (fun (o16 : (List Wy)) => (some o16) = some r) ?_ ?_
 refine Y0 (t := 3) 9 1 rfl ?_
 refine Qb h0 (fun o17 hl1 h0 => ?_)
 refine QH (KL a0) (fun s1 => ⟨[(3, .v (.one (Wi 1 s1.1))), (48, .v (.one (We a0.funs))), (49, .v (.one (Wg (a0.funs.length : Int)))), (50, .v (.one (Wg s1.2)))], [(0, .cells 48 (Wj a0))], [(1, some ⟨9, 1, (Enc.encL s1.1).length, []⟩)], 2, 61, []⟩) (([] : List Wy), 0) o17 (Qh (XK rfl (XK rfl (XK rfl (XK rfl XJ)))) (W8 rfl W7) (W4 rfl W3) rfl (Nat.zero_le _) rfl rfl rfl (Wp rfl rfl Wm) rfl rfl) hl1 (fun s1 n1 oo1 h1 ho1 => ?_)
 unfold KL at h1
 refine Q2 <| Q0 <| XP rfl rfl rfl (Q4 rfl rfl rfl) <| Q3 <| Q1 <| Q2 ?_
 refine Qg (b := (decide (s1.2 < (a0.funs.length : Int)))) rfl (fun c18 => ?_) (fun c18 => ?_)
 replace h1 := Qu c18 h1
 refine Qj <| Q1 <| Q2 <| Qd <| Q2 <| Q0 ?_
 refine Qb h1 (fun x19 hx19 h1 => ?_)
 refine XP rfl rfl rfl (Qq (α := Fn) ZK rfl (.d _) rfl hx19) <| XP rfl rfl rfl (Jm GS rfl rfl rfl) <| Q9 rfl rfl (W1 rfl) (Ql z_89 rfl) <| QA rfl rfl (Qi GS rfl rfl rfl rfl (W1 rfl) rfl) <| Q3 <| Q1 <| Q0 <| XR rfl rfl rfl <| XP rfl rfl rfl (Q8 fo_89_0 rfl) <| XP rfl rfl rfl (Q7 Y6 rfl rfl rfl) <| Q9 rfl rfl (W1 rfl) (QY (α := Wy) (x19.name) QQ GY rfl rfl (W1 rfl) (W1 rfl) rfl rfl (.cons (.d _) .nil) rfl) ?_
 refine QO h1 (fun g20 h1 => ?_)
 refine Q9 rfl rfl (W1 rfl) (QU (α := Wy) QQ G7 rfl rfl rfl rfl rfl (.app _ _) g20) <| XS rfl rfl rfl <| Q3 <| Qk <| Q1 <| Q0 <| XP rfl rfl rfl (Q4 rfl rfl rfl) <| XR rfl rfl rfl <| Q3 ?_
 have e := XN h1; subst e
 refine QD ((s1.1 ++ ([x19.name])), (QW (s1.2 + 1))) (Qh (XK rfl (XK rfl (XK rfl (XK rfl XJ)))) (W8 rfl W7) (W4 rfl W3) rfl (Nat.zero_le _) rfl rfl rfl (Wp rfl rfl Wm) rfl rfl) ho1
 replace h1 := Qv c18 h1
 refine QN <| Qf <| Qf ?_
 have e := XN h1; subst e
 have e_ : _ = _ := ho1
 subst e_
 exact QF s1.1 (Qh (XK rfl XJ) (W8 rfl W7) (W4 rfl W3) rfl (Nat.zero_le _) rfl rfl rfl (Wp rfl rfl Wm) rfl rfl) h0
 intro o16 h0
 refine Qx <| Qk <| Q1 <| Q2 <| Q0 <| XR rfl rfl rfl <| XS rfl rfl rfl <| Q3 <| Q1 <| Qw ?_
 have e := XN h0; subst e
 exact QX (fun _ _ h => h) rfl (Qp rfl .nil) (.cons (.one (.app _ _ _)) .nil)
 replace h0 := Qv c15 h0
 refine Qj <| Qk <| Q1 <| Q2 <| Q0 <| XR rfl rfl rfl <| XS rfl rfl rfl <| Q3 <| Q1 <| Qw ?_
 have e := XN h0; subst e
 exact QX (fun _ _ h => h) rfl (Qp rfl .nil) (.cons (.one (.nil _)) .nil)
def m89f4 (a0 : Wy) (a1 : Qc Wy Bool) (a2 : List Wy) (a3 : List Tm) (a4 : Dcl) : Option ((Qc Wy Bool) × (List Wy)) :=
 Option.bind (cond (!(J7 a1 a0))
   (Qm (Nat.ble (a2.length + ([a0]).length) 1000000000)
 (some ((JR a1 a0 true), (a2 ++ ([a0])))))
   (some (a1, a2))) (fun (y1 : (Qc Wy Bool) × (List Wy)) => some (y1.1, y1.2))
set_option maxRecDepth 100000 in
set_option maxHeartbeats 8000000 in
theorem m89f4_ok (a0 : Wy) (a1 : Qc Wy Bool) (a2 : List Wy) (a3 : List Tm) (a4 : Dcl) (r : (Qc Wy Bool) × (List Wy)) (h0 : m89f4 a0 a1 a2 a3 a4 = some r) : CallM Try.prog 89 [.one (YK a0), .one (.ptr 0 0)] ⟨[(0, .cells 68 [.yld 1]), (1, .loop .ready none [(3, .v (.one (.ptr 3 0))), (6, .v (.one (.ptr 5 0))), (20, .v (.one (.fn 73 [(7, 0), (9, 0)])))] 33 #[21] J0 QZ 2), (2, .obj (.deferred (some []))), (3, .cells 116 [.mp 4]), (4, .mp (QJ a1.1) a1.2), (5, .cells 23 [Wi 6 a2]), (7, .cells 40 [Wi 8 a3]), (9, .cells 48 (Wj a4))], [(6, some ⟨9, 1, (Enc.encL a2).length, []⟩), (8, some ⟨42, 5, (Enc.encL a3).length, []⟩)], 10⟩ (Qr [.one (Wh false)]) ⟨[(0, .cells 68 [.yld 1]), (1, .loop .ready none [(3, .v (.one (.ptr 3 0))), (6, .v (.one (.ptr 5 0))), (20, .v (.one (.fn 73 [(7, 0), (9, 0)])))] 33 #[21] J0 QZ 2), (2, .obj (.deferred (some []))), (3, .cells 116 [.mp 4]), (4, .mp (QJ r.1.1) r.1.2), (5, .cells 23 [Wi 6 r.2]), (7, .cells 40 [Wi 8 a3]), (9, .cells 48 (Wj a4))], [(6, some ⟨9, 1, (Enc.encL r.2).length, []⟩), (8, some ⟨42, 5, (Enc.encL a3).length, []⟩)], 10⟩ := by
 unfold m89f4 at h0
 refine QM ⟨[(3, .v (.one (Wh false)))], [(0, .cells 68 [.yld 1]), (1, .loop .ready none [(3, .v (.one (.ptr 3 0))), (6, .v (.one (.ptr 5 0))), (20, .v (.one (.fn 73 [(7, 0), (9, 0)])))] 33 #[21] J0 QZ 2), (2, .obj (.deferred (some []))), (3, .cells 116 [.mp 4]), (4, .mp (QJ r.1.1) r.1.2), (5, .cells 23 [Wi 6 r.2]), (7, .cells 40 [Wi 8 a3]), (9, .cells 48 (Wj a4))], [(6, some ⟨9, 1, (Enc.encL r.2).length, []⟩), (8, some ⟨42, 5, (Enc.encL a3).length, []⟩)], 10, 8, []⟩ rfl rfl en_89 (W1 rfl) rfl (Qp rfl .nil) (fun w0 M V0 Q hv0 hQ0 => ?_)
 simp only [Jc]
 refine Q2 <| Q0 <| XS rfl rfl rfl <| Q3 <| Q1 <| Q2 <| Q0 <| XP rfl rfl rfl (Q7 ag_68 rfl rfl rfl) <| XR rfl rfl rfl ?_
 refine Qb h0 (fun y1 h1 h0 => ?_)
 have ha2 : ExecOK Try.prog (some 1) J0 ⟨[(3, .v (.one (.ptr 3 0))), (6, .v (.one (.ptr 5 0))), (20, .v (.one (.fn 73 [(7, 0), (9, 0)]))), (21, .v (.one (YK a0)))], [(0, .cells 68 [.yld 1]), (1, .loop .ready none [(3, .v (.one (.ptr 3 0))), (6, .v (.one (.ptr 5 0))), (20, .v (.one (.fn 73 [(7, 0), (9, 0)])))] 33 #[21] J0 QZ 2), (2, .obj (.deferred (some []))), (3, .cells 116 [.mp 4]), (4, .mp (QJ a1.1) a1.2), (5, .cells 23 [Wi 6 a2]), (7, .cells 40 [Wi 8 a3]), (9, .cells 48 (Wj a4))], [(6, some ⟨9, 1, (Enc.encL a2).length, []⟩), (8, some ⟨42, 5, (Enc.encL a3).length, []⟩)], 10, 33, []⟩ .normal ⟨[(3, .v (.one (.ptr 3 0))), (6, .v (.one (.ptr 5 0))), (7, .v (.one (YK a0)))], [(0, .cells 68 [.yld 1]), (1, .loop .ready none [(3, .v (.one (.ptr 3 0))), (6, .v (.one (.ptr 5 0))), (20, .v (.one (.fn 73 [(7, 0), (9, 0)])))] 33 #[21] J0 QZ 2), (2, .obj (.deferred (some []))), (3, .cells 116 [.mp 4]), (4, .mp (QJ a1.1) a1.2), (5, .cells 23 [Wi 6 a2]), (7, .cells 40 [Wi 8 a3]), (9, .cells 48 (Wj a4))], [(6, some ⟨9, 1, (Enc.encL a2).length, []⟩), (8, some ⟨42, 5, (Enc.encL a3).length, []⟩)], 10, 33, []⟩ := by
  refine Yi (fun w0 M V0 ro n Q hv1 hro1 hQn1 => ?_)
  refine Q0 <| XS rfl rfl rfl <| Q3 ?_
  exact Kf hQn1 (Qh (XK rfl (XK rfl (XK rfl XJ))) (W8 rfl (W8 rfl (W8 rfl (W8 rfl (W8 rfl (W8 rfl (W8 rfl (W8 rfl W7)))))))) (W4 rfl (W4 rfl W3)) rfl (Nat.le_trans hv1 (W1 rfl)) rfl rfl rfl (Wp rfl rfl (Wp rfl rfl (Wp rfl rfl (Wp rfl rfl (Wn rfl (Wp rfl rfl (Wp rfl rfl (Wp rfl rfl Wm)))))))) rfl rfl)
 have hb3 : ExecOK Try.prog (some 1) QZ ⟨[(3, .v (.one (.ptr 3 0))), (6, .v (.one (.ptr 5 0))), (7, .v (.one (YK a0)))], [(0, .cells 68 [.yld 1]), (1, .loop .busy none [(3, .v (.one (.ptr 3 0))), (6, .v (.one (.ptr 5 0))), (20, .v (.one (.fn 73 [(7, 0), (9, 0)])))] 33 #[21] J0 QZ 2), (2, .obj (.deferred (some []))), (3, .cells 116 [.mp 4]), (4, .mp (QJ a1.1) a1.2), (5, .cells 23 [Wi 6 a2]), (7, .cells 40 [Wi 8 a3]), (9, .cells 48 (Wj a4))], [(6, some ⟨9, 1, (Enc.encL a2).length, []⟩), (8, some ⟨42, 5, (Enc.encL a3).length, []⟩)], 10, 33, []⟩ .normal ⟨[], [(0, .cells 68 [.yld 1]), (1, .loop .busy none [(3, .v (.one (.ptr 3 0))), (6, .v (.one (.ptr 5 0))), (20, .v (.one (.fn 73 [(7, 0), (9, 0)])))] 33 #[21] J0 QZ 2), (2, .obj (.deferred (some []))), (3, .cells 116 [.mp 4]), (4, .mp (QJ y1.1.1) y1.1.2), (5, .cells 23 [Wi 6 y1.2]), (7, .cells 40 [Wi 8 a3]), (9, .cells 48 (Wj a4))], [(6, some ⟨9, 1, (Enc.encL y1.2).length, []⟩), (8, some ⟨42, 5, (Enc.encL a3).length, []⟩)], 10, 33, []⟩ := by
  refine Yi (fun w0 M V0 ro n Q hv1 hro1 hQn1 => ?_)
  refine Qd <| Q2 <| Q0 <| XP rfl rfl rfl (Q7 Zw rfl rfl rfl) <| XR rfl rfl rfl <| XP rfl rfl rfl (RO.lookupGF (M := a1) (k := a0) K3 zok_bool rfl rfl rfl) <| XP rfl rfl rfl (Jp rfl) <| Q3 <| Q1 ?_
  refine Qg (b := (!(J7 a1 a0))) rfl (fun c4 => ?_) (fun c4 => ?_)
  replace h1 := Qu c4 h1
  refine Q2 <| Q0 <| XP rfl rfl rfl (Q7 Zw rfl rfl rfl) <| XR rfl rfl rfl <| QA rfl rfl (JI (M := a1) (k := a0) (v := true) K3 rfl rfl rfl rfl rfl) <| Q3 <| Q1 <| Q0 <| XP rfl rfl rfl (Q7 ZC rfl rfl rfl) <| XR rfl rfl rfl <| Q9 rfl rfl (W1 rfl) (QY (α := Wy) (a0) QQ GY rfl rfl (W1 rfl) (W1 rfl) rfl rfl (.cons (.d _) .nil) rfl) ?_
  refine QO h1 (fun g5 h1 => ?_)
  refine Q9 rfl rfl (W1 rfl) (QU (α := Wy) QQ G7 rfl rfl rfl rfl rfl (.app _ _) g5) <| QA rfl rfl (Qi ZC rfl rfl rfl rfl (W1 rfl) rfl) <| Q3 <| Qk ?_
  have e := XN h1; subst e
  exact Kf hQn1 (Qh XJ (W8 rfl (W8 rfl (W8 rfl (W8 rfl (W8 rfl (W8 rfl (W8 rfl (W8 rfl W7)))))))) (W4 rfl (W4 rfl W3)) rfl (Nat.le_trans hv1 (W1 rfl)) rfl rfl rfl (Wp rfl rfl (Wp rfl rfl (Wp rfl rfl (Wp rfl rfl (Wn rfl (Wp rfl rfl (Wp rfl rfl (Wp rfl rfl Wm)))))))) rfl rfl)
  replace h1 := Qv c4 h1
  refine Qj <| Qk ?_
  have e := XN h1; subst e
  exact Kf hQn1 (Qh XJ (W8 rfl (W8 rfl (W8 rfl (W8 rfl (W8 rfl (W8 rfl (W8 rfl (W8 rfl W7)))))))) (W4 rfl (W4 rfl W3)) rfl (Nat.le_trans hv1 (W1 rfl)) rfl rfl rfl (Wp rfl rfl (Wp rfl rfl (Wp rfl rfl (Wp rfl rfl (Wn rfl (Wp rfl rfl (Wp rfl rfl (Wp rfl rfl Wm)))))))) rfl rfl)
 refine Q9 rfl rfl (W1 rfl) (OpOK.yield (jump := none) rfl rfl rfl rfl rfl (Yj ha2 (fun E hv => (Qh (XK rfl (XK rfl (XK rfl (XK rfl XJ)))) (W8 rfl (W8 rfl (W8 rfl (W8 rfl (W8 rfl (W8 rfl (W8 rfl (W8 rfl W7)))))))) (W4 rfl (W4 rfl W3)) rfl (Nat.le_trans hv (W1 rfl)) rfl rfl rfl (Wp rfl rfl (Wp rfl rfl (Wp rfl rfl (Wp rfl rfl (Wn rfl (Wp rfl rfl (Wp rfl rfl (Wp rfl rfl Wm)))))))) rfl rfl))) rfl (Yj hb3 (fun E hv => (Qh (XK rfl (XK rfl (XK rfl XJ))) (W8 rfl (W8 rfl (W8 rfl (W8 rfl (W8 rfl (W8 rfl (W8 rfl (W8 rfl W7)))))))) (W4 rfl (W4 rfl W3)) rfl (Nat.le_trans hv (W1 rfl)) rfl rfl rfl (Wp rfl rfl (Wp rfl rfl (Wp rfl rfl (Wp rfl rfl (Wn rfl (Wp rfl rfl (Wp rfl rfl (Wp rfl rfl Wm)))))))) rfl rfl))) rfl rfl) ?_
 refine XP rfl rfl rfl (Jp rfl) <| XS rfl rfl rfl <| Q3 <| Q1 <| Qw ?_
 have e := XN h0; subst e
 exact hQ0 _ _ _ (.inr rfl) rfl (Qh (XK rfl XJ) (W8 rfl (W8 rfl (W8 rfl (W8 rfl (W8 rfl (W8 rfl (W8 rfl (W8 rfl W7)))))))) (W4 rfl (W4 rfl W3)) rfl (Nat.le_trans hv0 (W1 rfl)) rfl rfl rfl (Wp rfl rfl (Wp rfl rfl (Wp rfl rfl (Wp rfl rfl (Wn rfl (Wp rfl rfl (Wp rfl rfl (Wp rfl rfl Wm)))))))) rfl rfl)
def ZM (a0 : List Wy) (a3 : List Tm) (a4 : Dcl) (s1 : Int × (Qc Wy Bool) × (List Wy)) : Option (LO (Int × (Qc Wy Bool) × (List Wy)) (((Qc Wy Bool) × (List Wy)))) :=
 cond (decide (s1.1 < (a0.length : Int)))
   (Option.bind (J1 a0 s1.1) fun (x3 : Wy) =>
 Option.bind (m89f4 x3 s1.2.1 s1.2.2 a3 a4) fun (x4 : (Qc Wy Bool) × (List Wy)) =>
 some (.next ((QW (s1.1 + 1)), x4.1, x4.2)))
   (some (.done (s1.2.1, s1.2.2)))
def X1 (a0 : List Wy) (a1 : Qc Wy Bool) (a2 : List Wy) (a3 : List Tm) (a4 : Dcl) : Option ((Qc Wy Bool) × (List Wy)) :=
 Option.bind (Qo (ZM a0 a3 a4) QB (0, a1, a2)) (fun (o1 : (Qc Wy Bool) × (List Wy)) => some (o1.1, o1.2))
set_option maxRecDepth 100000 in
set_option maxHeartbeats 8000000 in
theorem m52f3_ok (a0 : List Wy) (a1 : Qc Wy Bool) (a2 : List Wy) (a3 : List Tm) (a4 : Dcl) (r : (Qc Wy Bool) × (List Wy)) (h0 : X1 a0 a1 a2 a3 a4 = some r) : CallM Try.prog 52 [.one (We a0), .one (.fn 89 [(0, 0)])] ⟨[(0, .cells 68 [.yld 1]), (1, .loop .ready none [(3, .v (.one (.ptr 3 0))), (6, .v (.one (.ptr 5 0))), (20, .v (.one (.fn 73 [(7, 0), (9, 0)])))] 33 #[21] J0 QZ 2), (2, .obj (.deferred (some []))), (3, .cells 116 [.mp 4]), (4, .mp (QJ a1.1) a1.2), (5, .cells 23 [Wi 6 a2]), (7, .cells 40 [Wi 8 a3]), (9, .cells 48 (Wj a4))], [(6, some ⟨9, 1, (Enc.encL a2).length, []⟩), (8, some ⟨42, 5, (Enc.encL a3).length, []⟩)], 10⟩ (Qr [.one (Wg (-1))]) ⟨[(0, .cells 68 [.yld 1]), (1, .loop .ready none [(3, .v (.one (.ptr 3 0))), (6, .v (.one (.ptr 5 0))), (20, .v (.one (.fn 73 [(7, 0), (9, 0)])))] 33 #[21] J0 QZ 2), (2, .obj (.deferred (some []))), (3, .cells 116 [.mp 4]), (4, .mp (QJ r.1.1) r.1.2), (5, .cells 23 [Wi 6 r.2]), (7, .cells 40 [Wi 8 a3]), (9, .cells 48 (Wj a4))], [(6, some ⟨9, 1, (Enc.encL r.2).length, []⟩), (8, some ⟨42, 5, (Enc.encL a3).length, []⟩)], 10⟩ := by
 unfold X1 at h0
 refine QM ⟨[(4, .v (.one (Wg (-1))))], [(0, .cells 68 [.yld 1]), (1, .loop .ready none [(3, .v (.one (.ptr 3 0))), (6, .v (.one (.ptr 5 0))), (20, .v (.one (.fn 73 [(7, 0), (9, 0)])))] 33 #[21] J0 QZ 2), (2, .obj (.deferred (some []))), (3, .cells 116 [.mp 4]), (4, .mp (QJ r.1.1) r.1.2), (5, .cells 23 [Wi 6 r.2]), (7, .cells 40 [Wi 8 a3]), (9, .cells 48 (Wj a4))], [(6, some ⟨9, 1, (Enc.encL r.2).length, []⟩), (8, some ⟨42, 5, (Enc.encL a3).length, []⟩)], 10, 19, []⟩ rfl rfl en_52 (W1 rfl) rfl (Qp rfl .nil) (fun w0 M V0 Q hv0 hQ0 => ?_)
 simp only [Jc]
 refine Q2 <| Q0 <| XS rfl rfl rfl <| Q3 <| Q1 <| Q2 <| Q2 <| Q0 <| XR rfl rfl rfl <| XP rfl rfl rfl (Qy (α := Wy) QQ rfl (.d _)) <| XR rfl rfl rfl <| Q3 <| Q1 <| Qd ?_
 refine QI 0 (fun (o1 : (Qc Wy Bool) × (List Wy)) => ⟨[], [(0, .cells 68 [.yld 1]), (1, .loop .ready none [(3, .v (.one (.ptr 3 0))), (6, .v (.one (.ptr 5 0))), (20, .v (.one (.fn 73 [(7, 0), (9, 0)])))] 33 #[21] J0 QZ 2), (2, .obj (.deferred (some []))), (3, .cells 116 [.mp 4]), (4, .mp (QJ o1.1.1) o1.1.2), (5, .cells 23 [Wi 6 o1.2]), (7, .cells 40 [Wi 8 a3]), (9, .cells 48 (Wj a4))], [(6, some ⟨9, 1, (Enc.encL o1.2).length, []⟩), (8, some ⟨42, 5, (Enc.encL a3).length, []⟩)], 10, 19, []⟩) (fun (o1 : (Qc Wy Bool) × (List Wy)) => (some (o1.1, o1.2)) = some r) ?_ ?_
 refine Qb h0 (fun o2 hl1 h0 => ?_)
 refine QH (ZM a0 a3 a4) (fun s1 => ⟨[(0, .v (.one (We a0))), (1, .v (.one (.fn 89 [(0, 0)]))), (7, .v (.one (Wg (a0.length : Int)))), (8, .v (.one (Wg s1.1)))], [(0, .cells 68 [.yld 1]), (1, .loop .ready none [(3, .v (.one (.ptr 3 0))), (6, .v (.one (.ptr 5 0))), (20, .v (.one (.fn 73 [(7, 0), (9, 0)])))] 33 #[21] J0 QZ 2), (2, .obj (.deferred (some []))), (3, .cells 116 [.mp 4]), (4, .mp (QJ s1.2.1.1) s1.2.1.2), (5, .cells 23 [Wi 6 s1.2.2]), (7, .cells 40 [Wi 8 a3]), (9, .cells 48 (Wj a4))], [(6, some ⟨9, 1, (Enc.encL s1.2.2).length, []⟩), (8, some ⟨42, 5, (Enc.encL a3).length, []⟩)], 10, 19, []⟩) (0, a1, a2) o2 (Qh (XK rfl (XK rfl (XK rfl (XK rfl XJ)))) (W8 rfl (W8 rfl (W8 rfl (W8 rfl (W8 rfl (W8 rfl (W8 rfl (W8 rfl W7)))))))) (W4 rfl (W4 rfl W3)) rfl (Nat.le_trans hv0 (W1 rfl)) rfl rfl rfl (Wp rfl rfl (Wp rfl rfl (Wp rfl rfl (Wp rfl rfl (Wn rfl (Wp rfl rfl (Wp rfl rfl (Wp rfl rfl Wm)))))))) rfl rfl) hl1 (fun s1 n1 oo1 h1 ho1 => ?_)
 unfold ZM at h1
 refine Q2 <| Q0 <| XP rfl rfl rfl (Q4 rfl rfl rfl) <| Q3 <| Q1 <| Q2 ?_
 refine Qg (b := (decide (s1.1 < (a0.length : Int)))) rfl (fun c3 => ?_) (fun c3 => ?_)
 replace h1 := Qu c3 h1
 refine Qj <| Q1 <| Q2 <| Qd <| Q2 <| Q0 <| XR rfl rfl rfl <| XS rfl rfl rfl <| Q3 <| Q1 <| Q2 <| Q0 <| XR rfl rfl rfl <| XR rfl rfl rfl ?_
 refine XR rfl rfl rfl ?_
 refine Qb h1 (fun x4 hx4 h1 => ?_)
 refine XP rfl rfl rfl (Qq (α := Wy) QQ rfl (.d _) rfl hx4) <| XP rfl rfl rfl (QK Y6 rfl rfl) ?_
 refine Qb h1 (fun x5 hx5 h1 => ?_)
 refine Q9 rfl rfl (W1 rfl) (QS (hp1' := [(0, .cells 68 [.yld 1]), (1, .loop .ready none [(3, .v (.one (.ptr 3 0))), (6, .v (.one (.ptr 5 0))), (20, .v (.one (.fn 73 [(7, 0), (9, 0)])))] 33 #[21] J0 QZ 2), (2, .obj (.deferred (some []))), (3, .cells 116 [.mp 4]), (4, .mp (QJ x5.1.1) x5.1.2), (5, .cells 23 [Wi 6 x5.2]), (7, .cells 40 [Wi 8 a3]), (9, .cells 48 (Wj a4))]) (tk1' := [(6, some ⟨9, 1, (Enc.encL x5.2).length, []⟩), (8, some ⟨42, 5, (Enc.encL a3).length, []⟩)]) (hpF := []) (tkF := []) (res2 := Qr [.one (Wh false)]) (nx2 := 10) [0, 1, 2, 3, 4, 5, 6, 7, 8, 9] rfl rfl (m89f4_ok x4 s1.2.1 s1.2.2 a3 a4 x5 hx5) rfl rfl (XW rfl rfl (XW rfl rfl (XW rfl rfl (XW rfl rfl (XU rfl (XW rfl rfl (XW rfl rfl (XW rfl rfl XT)))))))) rfl rfl (Wb rfl (Wb rfl (Wb rfl (Wb rfl (Wc rfl (Wb rfl (Wb rfl (Wb rfl Wa)))))))) (W6 rfl (W6 rfl W5)) W7 W3 rfl rfl rfl rfl rfl (Wp rfl rfl (Wp rfl rfl (Wp rfl rfl (Wp rfl rfl (Wn rfl (Wp rfl rfl (Wp rfl rfl (Wp rfl rfl Wm)))))))) rfl rfl rfl rfl) <| Q3 <| Q1 ?_
 refine Qg rfl (fun h => nomatch h) (fun _ => ?_)
 refine Qj <| Qk <| Q1 <| Q0 <| XP rfl rfl rfl (Q4 rfl rfl rfl) <| XR rfl rfl rfl <| Q3 ?_
 have e := XN h1; subst e
 refine QD ((QW (s1.1 + 1)), x5.1, x5.2) (Qh (XK rfl (XK rfl (XK rfl (XK rfl XJ)))) (W8 rfl (W8 rfl (W8 rfl (W8 rfl (W8 rfl (W8 rfl (W8 rfl (W8 rfl W7)))))))) (W4 rfl (W4 rfl W3)) rfl (Nat.le_trans hv0 (W1 rfl)) rfl rfl rfl (Wp rfl rfl (Wp rfl rfl (Wp rfl rfl (Wp rfl rfl (Wn rfl (Wp rfl rfl (Wp rfl rfl (Wp rfl rfl Wm)))))))) rfl rfl) ho1
 replace h1 := Qv c3 h1
 refine QN <| Qf <| Qf ?_
 have e := XN h1; subst e
 have e_ : _ = _ := ho1
 subst e_
 exact QF (s1.2.1, s1.2.2) (Qh XJ (W8 rfl (W8 rfl (W8 rfl (W8 rfl (W8 rfl (W8 rfl (W8 rfl (W8 rfl W7)))))))) (W4 rfl (W4 rfl W3)) rfl (Nat.le_trans hv0 (W1 rfl)) rfl rfl rfl (Wp rfl rfl (Wp rfl rfl (Wp rfl rfl (Wp rfl rfl (Wn rfl (Wp rfl rfl (Wp rfl rfl (Wp rfl rfl Wm)))))))) rfl rfl) h0
 intro o1 h0
 refine Qx <| Q1 <| Q2 <| Q0 <| XS rfl rfl rfl <| Q3 <| Q1 <| Qw ?_
 have e := XN h0; subst e
 exact hQ0 _ _ _ (.inr rfl) rfl (Qh (XK rfl XJ) (W8 rfl (W8 rfl (W8 rfl (W8 rfl (W8 rfl (W8 rfl (W8 rfl (W8 rfl W7)))))))) (W4 rfl (W4 rfl W3)) rfl (Nat.le_trans hv0 (W1 rfl)) rfl rfl rfl (Wp rfl rfl (Wp rfl rfl (Wp rfl rfl (Wp rfl rfl (Wn rfl (Wp rfl rfl (Wp rfl rfl (Wp rfl rfl Wm)))))))) rfl rfl)
def m31f2 (a0 : List Wy) (a1 : Qc Wy Bool) (a2 : List Wy) (a3 : List Tm) (a4 : Dcl) : Option ((Qc Wy Bool) × (List Wy)) :=
 Option.bind (X1 a0 a1 a2 a3 a4) fun (x1 : (Qc Wy Bool) × (List Wy)) =>
 some (x1.1, x1.2)
set_option maxRecDepth 100000 in
set_option maxHeartbeats 8000000 in
theorem m31f2_ok (a0 : List Wy) (a1 : Qc Wy Bool) (a2 : List Wy) (a3 : List Tm) (a4 : Dcl) (r : (Qc Wy Bool) × (List Wy)) (h0 : m31f2 a0 a1 a2 a3 a4 = some r) : CallM Try.prog 31 [.one (We a0), .one (.fn 89 [(0, 0)])] ⟨[(0, .cells 68 [.yld 1]), (1, .loop .ready none [(3, .v (.one (.ptr 3 0))), (6, .v (.one (.ptr 5 0))), (20, .v (.one (.fn 73 [(7, 0), (9, 0)])))] 33 #[21] J0 QZ 2), (2, .obj (.deferred (some []))), (3, .cells 116 [.mp 4]), (4, .mp (QJ a1.1) a1.2), (5, .cells 23 [Wi 6 a2]), (7, .cells 40 [Wi 8 a3]), (9, .cells 48 (Wj a4))], [(6, some ⟨9, 1, (Enc.encL a2).length, []⟩), (8, some ⟨42, 5, (Enc.encL a3).length, []⟩)], 10⟩ (Qr [.one (Wh false)]) ⟨[(0, .cells 68 [.yld 1]), (1, .loop .ready none [(3, .v (.one (.ptr 3 0))), (6, .v (.one (.ptr 5 0))), (20, .v (.one (.fn 73 [(7, 0), (9, 0)])))] 33 #[21] J0 QZ 2), (2, .obj (.deferred (some []))), (3, .cells 116 [.mp 4]), (4, .mp (QJ r.1.1) r.1.2), (5, .cells 23 [Wi 6 r.2]), (7, .cells 40 [Wi 8 a3]), (9, .cells 48 (Wj a4))], [(6, some ⟨9, 1, (Enc.encL r.2).length, []⟩), (8, some ⟨42, 5, (Enc.encL a3).length, []⟩)], 10⟩ := by
 unfold m31f2 at h0
 refine QM ⟨[(4, .v (.one (Wh false)))], [(0, .cells 68 [.yld 1]), (1, .loop .ready none [(3, .v (.one (.ptr 3 0))), (6, .v (.one (.ptr 5 0))), (20, .v (.one (.fn 73 [(7, 0), (9, 0)])))] 33 #[21] J0 QZ 2), (2, .obj (.deferred (some []))), (3, .cells 116 [.mp 4]), (4, .mp (QJ r.1.1) r.1.2), (5, .cells 23 [Wi 6 r.2]), (7, .cells 40 [Wi 8 a3]), (9, .cells 48 (Wj a4))], [(6, some ⟨9, 1, (Enc.encL r.2).length, []⟩), (8, some ⟨42, 5, (Enc.encL a3).length, []⟩)], 10, 9, []⟩ rfl rfl en_31 (W1 rfl) rfl (Qp rfl .nil) (fun w0 M V0 Q hv0 hQ0 => ?_)
 simp only [Jc]
 refine Q2 <| Q0 <| XS rfl rfl rfl <| Q3 <| Q1 <| Q2 <| Q0 <| XR rfl rfl rfl <| XR rfl rfl rfl ?_
 refine Qb h0 (fun x1 hx1 h0 => ?_)
 refine Q9 rfl rfl (W1 rfl) (QS (hp1' := [(0, .cells 68 [.yld 1]), (1, .loop .ready none [(3, .v (.one (.ptr 3 0))), (6, .v (.one (.ptr 5 0))), (20, .v (.one (.fn 73 [(7, 0), (9, 0)])))] 33 #[21] J0 QZ 2), (2, .obj (.deferred (some []))), (3, .cells 116 [.mp 4]), (4, .mp (QJ x1.1.1) x1.1.2), (5, .cells 23 [Wi 6 x1.2]), (7, .cells 40 [Wi 8 a3]), (9, .cells 48 (Wj a4))]) (tk1' := [(6, some ⟨9, 1, (Enc.encL x1.2).length, []⟩), (8, some ⟨42, 5, (Enc.encL a3).length, []⟩)]) (hpF := []) (tkF := []) (res2 := Qr [.one (Wg (-1))]) (nx2 := 10) [0, 1, 2, 3, 4, 5, 6, 7, 8, 9] rfl rfl (m52f3_ok a0 a1 a2 a3 a4 x1 hx1) rfl rfl (XW rfl rfl (XW rfl rfl (XW rfl rfl (XW rfl rfl (XU rfl (XW rfl rfl (XW rfl rfl (XW rfl rfl XT)))))))) rfl rfl (Wb rfl (Wb rfl (Wb rfl (Wb rfl (Wc rfl (Wb rfl (Wb rfl (Wb rfl Wa)))))))) (W6 rfl (W6 rfl W5)) W7 W3 rfl rfl rfl rfl rfl (Wp rfl rfl (Wp rfl rfl (Wp rfl rfl (Wp rfl rfl (Wn rfl (Wp rfl rfl (Wp rfl rfl (Wp rfl rfl Wm)))))))) rfl rfl rfl rfl) <| XP rfl rfl rfl (Q4 rfl rfl rfl) <| XS rfl rfl rfl <| Q3 <| Q1 <| Qw ?_
 have e := XN h0; subst e
 exact hQ0 _ _ _ (.inr rfl) rfl (Qh (XK rfl XJ) (W8 rfl (W8 rfl (W8 rfl (W8 rfl (W8 rfl (W8 rfl (W8 rfl (W8 rfl W7)))))))) (W4 rfl (W4 rfl W3)) rfl (Nat.le_trans hv0 (W1 rfl)) rfl rfl rfl (Wp rfl rfl (Wp rfl rfl (Wp rfl rfl (Wp rfl rfl (Wn rfl (Wp rfl rfl (Wp rfl rfl (Wp rfl rfl Wm)))))))) rfl rfl)
def Zp (a0 : Tr) (rc : Tr × (Qc Wy Bool) × (List Wy) × (List Tm) × Dcl → Option (Bool × (Qc Wy Bool) × (List Wy))) (a3 : List Tm) (a4 : Dcl) (s1 : Int × (Qc Wy Bool) × (List Wy)) : Option (LO (Int × (Qc Wy Bool) × (List Wy)) (((Qc Wy Bool) × (List Wy)) ⊕ ((Bool × (Qc Wy Bool) × (List Wy))))) :=
 cond (decide (s1.1 < (a0.branches.length : Int)))
   (Option.bind (J1 a0.branches s1.1) fun (x6 : Wz) =>
 Option.bind (Option.bind (cond (!(J7 s1.2.1 x6.ctor))
   (Qm (Nat.ble (s1.2.2.length + ([x6.ctor]).length) 1000000000)
 (some ((JR s1.2.1 x6.ctor true), (s1.2.2 ++ ([x6.ctor])))))
   (some (s1.2.1, s1.2.2))) (fun (y8 : (Qc Wy Bool) × (List Wy)) => cond (!x6.absurd)
   (Option.bind (rc (x6.tree, y8.1, y8.2, a3, a4)) fun (x14 : Bool × (Qc Wy Bool) × (List Wy)) =>
 some (true, (!x14.1), (!x14.1), x14.2.1, x14.2.2))
   (some (false, false, false, y8.1, y8.2)))) (fun (v7 : Bool × Bool × Bool × (Qc Wy Bool) × (List Wy)) => cond v7.2.2.1
   (some (.done (.inr (false, v7.2.2.2.1, v7.2.2.2.2))))
   (some (.next ((QW (s1.1 + 1)), v7.2.2.2.1, v7.2.2.2.2)))))
   (some (.done (.inl (s1.2.1, s1.2.2))))
def GA (rc : Tr × (Qc Wy Bool) × (List Wy) × (List Tm) × Dcl → Option (Bool × (Qc Wy Bool) × (List Wy))) (a0 : Tr) (a1 : Qc Wy Bool) (a2 : List Wy) (a3 : List Tm) (a4 : Dcl) : Option (Bool × (Qc Wy Bool) × (List Wy)) :=
 cond (a0.kind == 0)
   (Option.bind (XA a0.body) fun (x2 : (List Wy)) =>
 Option.bind (m31f2 x2 a1 a2 a3 a4) fun (x3 : (Qc Wy Bool) × (List Wy)) =>
 some (true, x3.1, x3.2))
   (Option.bind (Qo (Zp a0 rc a3 a4) QB (0, a1, a2)) (Sum.elim (fun (o4 : (Qc Wy Bool) × (List Wy)) => some (true, o4.1, o4.2)) (fun o => some o)))
def GB (rc : Tr × (Qc Wy Bool) × (List Wy) × (List Tm) × Dcl → Option (Bool × (Qc Wy Bool) × (List Wy))) (u : Tr × (Qc Wy Bool) × (List Wy) × (List Tm) × Dcl) : Option (Bool × (Qc Wy Bool) × (List Wy)) := GA rc u.1 u.2.1 u.2.2.1 u.2.2.2.1 u.2.2.2.2
def m75f1 (a0 : Tr) (a1 : Qc Wy Bool) (a2 : List Wy) (a3 : List Tm) (a4 : Dcl) : Option (Bool × (Qc Wy Bool) × (List Wy)) := Yn GB QB (a0, a1, a2, a3, a4)
set_option maxRecDepth 100000 in
set_option maxHeartbeats 8000000 in
theorem m75f1s_ok (rc : Tr × (Qc Wy Bool) × (List Wy) × (List Tm) × Dcl → Option (Bool × (Qc Wy Bool) × (List Wy))) (H : ∀ (a0 : Tr) (a1 : Qc Wy Bool) (a2 : List Wy) (a3 : List Tm) (a4 : Dcl) (r : Bool × (Qc Wy Bool) × (List Wy)), rc (a0, a1, a2, a3, a4) = some r → CallM Try.prog 75 [.agg (Wj a0), .one (.yld 0)] ⟨[(0, .loop .ready none [(3, .v (.one (.ptr 2 0))), (6, .v (.one (.ptr 4 0))), (20, .v (.one (.fn 73 [(6, 0), (8, 0)])))] 33 #[21] J0 QZ 1), (1, .obj (.deferred (some []))), (2, .cells 116 [.mp 3]), (3, .mp (QJ a1.1) a1.2), (4, .cells 23 [Wi 5 a2]), (6, .cells 40 [Wi 7 a3]), (8, .cells 48 (Wj a4))], [(5, some ⟨9, 1, (Enc.encL a2).length, []⟩), (7, some ⟨42, 5, (Enc.encL a3).length, []⟩)], 9⟩ (Qr [.one (Wh r.1)]) ⟨[(0, .loop .ready none [(3, .v (.one (.ptr 2 0))), (6, .v (.one (.ptr 4 0))), (20, .v (.one (.fn 73 [(6, 0), (8, 0)])))] 33 #[21] J0 QZ 1), (1, .obj (.deferred (some []))), (2, .cells 116 [.mp 3]), (3, .mp (QJ r.2.1.1) r.2.1.2), (4, .cells 23 [Wi 5 r.2.2]), (6, .cells 40 [Wi 7 a3]), (8, .cells 48 (Wj a4))], [(5, some ⟨9, 1, (Enc.encL r.2.2).length, []⟩), (7, some ⟨42, 5, (Enc.encL a3).length, []⟩)], 11⟩) (a0 : Tr) (a1 : Qc Wy Bool) (a2 : List Wy) (a3 : List Tm) (a4 : Dcl) (r : Bool × (Qc Wy Bool) × (List Wy)) (h0 : GA rc a0 a1 a2 a3 a4 = some r) : CallM Try.prog 75 [.agg (Wj a0), .one (.yld 0)] ⟨[(0, .loop .ready none [(3, .v (.one (.ptr 2 0))), (6, .v (.one (.ptr 4 0))), (20, .v (.one (.fn 73 [(6, 0), (8, 0)])))] 33 #[21] J0 QZ 1), (1, .obj (.deferred (some []))), (2, .cells 116 [.mp 3]), (3, .mp (QJ a1.1) a1.2), (4, .cells 23 [Wi 5 a2]), (6, .cells 40 [Wi 7 a3]), (8, .cells 48 (Wj a4))], [(5, some ⟨9, 1, (Enc.encL a2).length, []⟩), (7, some ⟨42, 5, (Enc.encL a3).length, []⟩)], 9⟩ (Qr [.one (Wh r.1)]) ⟨[(0, .loop .ready none [(3, .v (.one (.ptr 2 0))), (6, .v (.one (.ptr 4 0))), (20, .v (.one (.fn 73 [(6, 0), (8, 0)])))] 33 #[21] J0 QZ 1), (1, .obj (.deferred (some []))), (2, .cells 116 [.mp 3]), (3, .mp (QJ r.2.1.1) r.2.1.2), (4, .cells 23 [Wi 5 r.2.2]), (6, .cells 40 [Wi 7 a3]), (8, .cells 48 (Wj a4))], [(5, some ⟨9, 1, (Enc.encL r.2.2).length, []⟩), (7, some ⟨42, 5, (Enc.encL a3).length, []⟩)], 11⟩ := by
 unfold GA at h0
 refine QM ⟨[(4, .v (.one (Wh r.1)))], [(0, .loop .ready none [(3, .v (.one (.ptr 2 0))), (6, .v (.one (.ptr 4 0))), (20, .v (.one (.fn 73 [(6, 0), (8, 0)])))] 33 #[21] J0 QZ 1), (1, .obj (.deferred (some []))), (2, .cells 116 [.mp 3]), (3, .mp (QJ r.2.1.1) r.2.1.2), (4, .cells 23 [Wi 5 r.2.2]), (6, .cells 40 [Wi 7 a3]), (8, .cells 48 (Wj a4))], [(5, some ⟨9, 1, (Enc.encL r.2.2).length, []⟩), (7, some ⟨42, 5, (Enc.encL a3).length, []⟩)], 11, 41, []⟩ rfl rfl en_75 (W1 rfl) rfl (Qp rfl .nil) (fun w0 M V0 Q hv0 hQ0 => ?_)
 simp only [Jc]
 refine Q2 <| Q0 <| Q9 rfl rfl (W1 rfl) (Js rfl) <| Q9 rfl rfl (W1 rfl) (Js rfl) <| XS rfl rfl rfl <| Q3 <| Q1 <| Q2 <| Q2 <| Q0 <| XP rfl rfl rfl (Q8 fo_87_0 rfl) <| XP rfl rfl rfl (Q7 Gb rfl rfl rfl) <| XP rfl rfl rfl (Q4 rfl rfl rfl) <| Q3 ?_
 refine Q1 ?_
 refine Qg (b := (a0.kind == 0)) rfl (fun c1 => ?_) (fun c1 => ?_)
 replace h0 := Qu c1 h0
 refine Q2 <| Q0 <| XP rfl rfl rfl (Q8 fo_87_1 rfl) <| XP rfl rfl rfl (Qz JH rfl rfl rfl rfl) ?_
 refine Qb h0 (fun x2 hx2 h0 => ?_)
 refine Q9 rfl rfl (W1 rfl) (Qt (m74_ok a0.body x2 hx2) rfl (.cons (.agg (.cons (.d _) (.cons (.d _) (.cons (.d _) (.cons (.d _) (.cons (.d _) .nil)))))) .nil)) <| XP rfl rfl rfl (RO.makeFunc1 rfl) ?_
 refine Qb h0 (fun x3 hx3 h0 => ?_)
 refine Q9 rfl rfl (W1 rfl) (QS (hp1' := [(10, .cells 68 [.yld 0]), (0, .loop .ready none [(3, .v (.one (.ptr 2 0))), (6, .v (.one (.ptr 4 0))), (20, .v (.one (.fn 73 [(6, 0), (8, 0)])))] 33 #[21] J0 QZ 1), (1, .obj (.deferred (some []))), (2, .cells 116 [.mp 3]), (3, .mp (QJ x3.1.1) x3.1.2), (4, .cells 23 [Wi 5 x3.2]), (6, .cells 40 [Wi 7 a3]), (8, .cells 48 (Wj a4))]) (tk1' := [(5, some ⟨9, 1, (Enc.encL x3.2).length, []⟩), (7, some ⟨42, 5, (Enc.encL a3).length, []⟩)]) (hpF := [(9, .cells 87 (Wj a0))]) (tkF := []) (res2 := Qr [.one (Wh false)]) (nx2 := 11) [10, 0, 1, 2, 3, 4, 5, 6, 7, 8] rfl rfl (m31f2_ok x2 a1 a2 a3 a4 x3 hx3) rfl rfl (XW rfl rfl (XW rfl rfl (XW rfl rfl (XW rfl rfl (XU rfl (XW rfl rfl (XW rfl rfl (XW rfl rfl XT)))))))) rfl rfl (Wb rfl (Wb rfl (Wb rfl (Wb rfl (Wc rfl (Wb rfl (Wb rfl (Wb rfl Wa)))))))) (W6 rfl (W6 rfl W5)) (W8 rfl W7) W3 rfl rfl rfl rfl rfl (Wp rfl rfl (Wp rfl rfl (Wp rfl rfl (Wp rfl rfl (Wn rfl (Wp rfl rfl (Wp rfl rfl (Wp rfl rfl Wm)))))))) rfl rfl rfl rfl) <| XP rfl rfl rfl (Jp rfl) <| XS rfl rfl rfl <| Q3 <| Q1 <| Qw ?_
 have e := XN h0; subst e
 exact hQ0 _ _ _ (.inr rfl) rfl (Qh (XK rfl XJ) (W8 rfl (W8 rfl (W8 rfl (W8 rfl (W8 rfl (W8 rfl (W8 rfl W7))))))) (W4 rfl (W4 rfl W3)) rfl (Nat.le_trans hv0 (W1 rfl)) rfl rfl rfl (Wp rfl rfl (Wp rfl rfl (Wp rfl rfl (Wn rfl (Wp rfl rfl (Wp rfl rfl (Wp rfl rfl Wm))))))) rfl rfl)
 replace h0 := Qv c1 h0
 refine Qj <| Q1 <| Q2 <| Q2 <| Q0 <| XP rfl rfl rfl (Q8 G3 rfl) <| XP rfl rfl rfl (Q7 X5 rfl rfl rfl) <| XP rfl rfl rfl (Qy (α := Wz) GO rfl (.d _)) <| XR rfl rfl rfl <| Q3 <| Q1 <| Qd ?_
 refine QI 0 (fun (o4 : (Qc Wy Bool) × (List Wy)) => ⟨[], [(0, .loop .ready none [(3, .v (.one (.ptr 2 0))), (6, .v (.one (.ptr 4 0))), (20, .v (.one (.fn 73 [(6, 0), (8, 0)])))] 33 #[21] J0 QZ 1), (1, .obj (.deferred (some []))), (2, .cells 116 [.mp 3]), (3, .mp (QJ o4.1.1) o4.1.2), (4, .cells 23 [Wi 5 o4.2]), (6, .cells 40 [Wi 7 a3]), (8, .cells 48 (Wj a4)), (9, .cells 87 (Wj a0)), (10, .cells 68 [.yld 0])], [(5, some ⟨9, 1, (Enc.encL o4.2).length, []⟩), (7, some ⟨42, 5, (Enc.encL a3).length, []⟩)], 11, 41, []⟩) (fun (o4 : (Qc Wy Bool) × (List Wy)) => (some (true, o4.1, o4.2)) = some r) ?_ ?_
 refine Qb h0 (fun o5 hl1 h0 => ?_)
 refine QH (Zp a0 rc a3 a4) (fun s1 => ⟨[(3, .v (.one (.ptr 10 0))), (17, .v (.one (We a0.branches))), (18, .v (.one (Wg (a0.branches.length : Int)))), (19, .v (.one (Wg s1.1)))], [(0, .loop .ready none [(3, .v (.one (.ptr 2 0))), (6, .v (.one (.ptr 4 0))), (20, .v (.one (.fn 73 [(6, 0), (8, 0)])))] 33 #[21] J0 QZ 1), (1, .obj (.deferred (some []))), (2, .cells 116 [.mp 3]), (3, .mp (QJ s1.2.1.1) s1.2.1.2), (4, .cells 23 [Wi 5 s1.2.2]), (6, .cells 40 [Wi 7 a3]), (8, .cells 48 (Wj a4)), (9, .cells 87 (Wj a0)), (10, .cells 68 [.yld 0])], [(5, some ⟨9, 1, (Enc.encL s1.2.2).length, []⟩), (7, some ⟨42, 5, (Enc.encL a3).length, []⟩)], 11, 41, []⟩) (0, a1, a2) o5 (Qh (XK rfl (XK rfl (XK rfl (XK rfl XJ)))) (W8 rfl (W8 rfl (W8 rfl (W8 rfl (W8 rfl (W8 rfl (W8 rfl (W8 rfl (W8 rfl W7))))))))) (W4 rfl (W4 rfl W3)) rfl (Nat.le_trans hv0 (W1 rfl)) rfl rfl rfl (Wp rfl rfl (Wp rfl rfl (Wp rfl rfl (Wn rfl (Wp rfl rfl (Wp rfl rfl (Wp rfl rfl (Wp rfl rfl (Wp rfl rfl Wm))))))))) rfl rfl) hl1 (fun s1 n1 oo1 h1 ho1 => ?_)
 unfold Zp at h1
 refine Q2 <| Q0 <| XP rfl rfl rfl (Q4 rfl rfl rfl) <| Q3 <| Q1 <| Q2 ?_
 refine Qg (b := (decide (s1.1 < (a0.branches.length : Int)))) rfl (fun c6 => ?_) (fun c6 => ?_)
 replace h1 := Qu c6 h1
 refine Qj <| Q1 <| Q2 <| Qd <| Q2 <| Q0 ?_
 refine Qb h1 (fun x7 hx7 h1 => ?_)
 refine XP rfl rfl rfl (Qq (α := Wz) GO rfl (.d _) rfl hx7) <| XP rfl rfl rfl (Jm ag_115 rfl rfl rfl) <| Q9 rfl rfl (W1 rfl) (Ql z_115 rfl) <| QA rfl rfl (Qi ag_115 rfl rfl rfl rfl (W1 rfl) rfl) <| Q3 <| Q1 <| Q2 ?_
 refine Jy (fun (v8 : Bool × Bool × Bool × (Qc Wy Bool) × (List Wy)) => ⟨[(3, .v (.one (.ptr 10 0))), (17, .v (.one (We a0.branches))), (18, .v (.one (Wg (a0.branches.length : Int)))), (19, .v (.one (Wg s1.1))), (29, .v (.one (.ptr 11 1))), (30, .v (.one (Wh x7.absurd))), (31, .v (.one (Wh (!x7.absurd)))), (32, .v (.one (Wh v8.1))), (38, .v (.one (Wh v8.2.1))), (39, .v (.one (Wh v8.2.2.1)))], [(0, .loop .ready none [(3, .v (.one (.ptr 2 0))), (6, .v (.one (.ptr 4 0))), (20, .v (.one (.fn 73 [(6, 0), (8, 0)])))] 33 #[21] J0 QZ 1), (1, .obj (.deferred (some []))), (2, .cells 116 [.mp 3]), (3, .mp (QJ v8.2.2.2.1.1) v8.2.2.2.1.2), (4, .cells 23 [Wi 5 v8.2.2.2.2]), (6, .cells 40 [Wi 7 a3]), (8, .cells 48 (Wj a4)), (9, .cells 87 (Wj a0)), (10, .cells 68 [.yld 0]), (11, .cells 115 (Wj x7))], [(5, some ⟨9, 1, (Enc.encL v8.2.2.2.2).length, []⟩), (7, some ⟨42, 5, (Enc.encL a3).length, []⟩)], 12, 41, []⟩) (fun (v8 : Bool × Bool × Bool × (Qc Wy Bool) × (List Wy)) => (cond v8.2.2.1
     (some (.done (.inr (false, v8.2.2.2.1, v8.2.2.2.2))))
     (some (.next ((QW (s1.1 + 1)), v8.2.2.2.1, v8.2.2.2.2)))) = some oo1) ?_ ?_
 refine Qb h1 (fun w2_ h2 h1 => ?_)
 refine Q0 <| XP rfl rfl rfl (Q7 ag_68 rfl rfl rfl) <| XP rfl rfl rfl (Q8 fo_115_0 rfl) <| XP rfl rfl rfl (Q7 Y6 rfl rfl rfl) ?_
 refine Qb h2 (fun y9 h3 h2 => ?_)
 have ha10 : ExecOK Try.prog (some 0) J0 ⟨[(3, .v (.one (.ptr 2 0))), (6, .v (.one (.ptr 4 0))), (20, .v (.one (.fn 73 [(6, 0), (8, 0)]))), (21, .v (.one (YK x7.ctor)))], [(0, .loop .ready none [(3, .v (.one (.ptr 2 0))), (6, .v (.one (.ptr 4 0))), (20, .v (.one (.fn 73 [(6, 0), (8, 0)])))] 33 #[21] J0 QZ 1), (1, .obj (.deferred (some []))), (2, .cells 116 [.mp 3]), (3, .mp (QJ s1.2.1.1) s1.2.1.2), (4, .cells 23 [Wi 5 s1.2.2]), (6, .cells 40 [Wi 7 a3]), (8, .cells 48 (Wj a4)), (9, .cells 87 (Wj a0)), (10, .cells 68 [.yld 0]), (11, .cells 115 (Wj x7))], [(5, some ⟨9, 1, (Enc.encL s1.2.2).length, []⟩), (7, some ⟨42, 5, (Enc.encL a3).length, []⟩)], 12, 33, []⟩ .normal ⟨[(3, .v (.one (.ptr 2 0))), (6, .v (.one (.ptr 4 0))), (7, .v (.one (YK x7.ctor)))], [(0, .loop .ready none [(3, .v (.one (.ptr 2 0))), (6, .v (.one (.ptr 4 0))), (20, .v (.one (.fn 73 [(6, 0), (8, 0)])))] 33 #[21] J0 QZ 1), (1, .obj (.deferred (some []))), (2, .cells 116 [.mp 3]), (3, .mp (QJ s1.2.1.1) s1.2.1.2), (4, .cells 23 [Wi 5 s1.2.2]), (6, .cells 40 [Wi 7 a3]), (8, .cells 48 (Wj a4)), (9, .cells 87 (Wj a0)), (10, .cells 68 [.yld 0]), (11, .cells 115 (Wj x7))], [(5, some ⟨9, 1, (Enc.encL s1.2.2).length, []⟩), (7, some ⟨42, 5, (Enc.encL a3).length, []⟩)], 12, 33, []⟩ := by
  refine Yi (fun w0 M V0 ro n Q hv3 hro3 hQn3 => ?_)
  refine Q0 <| XS rfl rfl rfl <| Q3 ?_
  exact Kf hQn3 (Qh (XK rfl (XK rfl (XK rfl XJ))) (W8 rfl (W8 rfl (W8 rfl (W8 rfl (W8 rfl (W8 rfl (W8 rfl (W8 rfl (W8 rfl (W8 rfl W7)))))))))) (W4 rfl (W4 rfl W3)) rfl (Nat.le_trans hv3 (W1 rfl)) rfl rfl rfl (Wp rfl rfl (Wp rfl rfl (Wp rfl rfl (Wn rfl (Wp rfl rfl (Wp rfl rfl (Wp rfl rfl (Wp rfl rfl (Wp rfl rfl (Wp rfl rfl Wm)))))))))) rfl rfl)
 have hb11 : ExecOK Try.prog (some 0) QZ ⟨[(3, .v (.one (.ptr 2 0))), (6, .v (.one (.ptr 4 0))), (7, .v (.one (YK x7.ctor)))], [(0, .loop .busy none [(3, .v (.one (.ptr 2 0))), (6, .v (.one (.ptr 4 0))), (20, .v (.one (.fn 73 [(6, 0), (8, 0)])))] 33 #[21] J0 QZ 1), (1, .obj (.deferred (some []))), (2, .cells 116 [.mp 3]), (3, .mp (QJ s1.2.1.1) s1.2.1.2), (4, .cells 23 [Wi 5 s1.2.2]), (6, .cells 40 [Wi 7 a3]), (8, .cells 48 (Wj a4)), (9, .cells 87 (Wj a0)), (10, .cells 68 [.yld 0]), (11, .cells 115 (Wj x7))], [(5, some ⟨9, 1, (Enc.encL s1.2.2).length, []⟩), (7, some ⟨42, 5, (Enc.encL a3).length, []⟩)], 12, 33, []⟩ .normal ⟨[], [(0, .loop .busy none [(3, .v (.one (.ptr 2 0))), (6, .v (.one (.ptr 4 0))), (20, .v (.one (.fn 73 [(6, 0), (8, 0)])))] 33 #[21] J0 QZ 1), (1, .obj (.deferred (some []))), (2, .cells 116 [.mp 3]), (3, .mp (QJ y9.1.1) y9.1.2), (4, .cells 23 [Wi 5 y9.2]), (6, .cells 40 [Wi 7 a3]), (8, .cells 48 (Wj a4)), (9, .cells 87 (Wj a0)), (10, .cells 68 [.yld 0]), (11, .cells 115 (Wj x7))], [(5, some ⟨9, 1, (Enc.encL y9.2).length, []⟩), (7, some ⟨42, 5, (Enc.encL a3).length, []⟩)], 12, 33, []⟩ := by
  refine Yi (fun w0 M V0 ro n Q hv3 hro3 hQn3 => ?_)
  refine Qd <| Q2 <| Q0 <| XP rfl rfl rfl (Q7 Zw rfl rfl rfl) <| XR rfl rfl rfl <| XP rfl rfl rfl (RO.lookupGF (M := s1.2.1) (k := x7.ctor) K3 zok_bool rfl rfl rfl) <| XP rfl rfl rfl (Jp rfl) <| Q3 <| Q1 ?_
  refine Qg (b := (!(J7 s1.2.1 x7.ctor))) rfl (fun c12 => ?_) (fun c12 => ?_)
  replace h3 := Qu c12 h3
  refine Q2 <| Q0 <| XP rfl rfl rfl (Q7 Zw rfl rfl rfl) <| XR rfl rfl rfl <| QA rfl rfl (JI (M := s1.2.1) (k := x7.ctor) (v := true) K3 rfl rfl rfl rfl rfl) <| Q3 <| Q1 <| Q0 <| XP rfl rfl rfl (Q7 ZC rfl rfl rfl) <| XR rfl rfl rfl <| Q9 rfl rfl (W1 rfl) (QY (α := Wy) (x7.ctor) QQ GY rfl rfl (W1 rfl) (W1 rfl) rfl rfl (.cons (.d _) .nil) rfl) ?_
  refine QO h3 (fun g13 h3 => ?_)
  refine Q9 rfl rfl (W1 rfl) (QU (α := Wy) QQ G7 rfl rfl rfl rfl rfl (.app _ _) g13) <| QA rfl rfl (Qi ZC rfl rfl rfl rfl (W1 rfl) rfl) <| Q3 <| Qk ?_
  have e := XN h3; subst e
  exact Kf hQn3 (Qh XJ (W8 rfl (W8 rfl (W8 rfl (W8 rfl (W8 rfl (W8 rfl (W8 rfl (W8 rfl (W8 rfl (W8 rfl W7)))))))))) (W4 rfl (W4 rfl W3)) rfl (Nat.le_trans hv3 (W1 rfl)) rfl rfl rfl (Wp rfl rfl (Wp rfl rfl (Wp rfl rfl (Wn rfl (Wp rfl rfl (Wp rfl rfl (Wp rfl rfl (Wp rfl rfl (Wp rfl rfl (Wp rfl rfl Wm)))))))))) rfl rfl)
  replace h3 := Qv c12 h3
  refine Qj <| Qk ?_
  have e := XN h3; subst e
  exact Kf hQn3 (Qh XJ (W8 rfl (W8 rfl (W8 rfl (W8 rfl (W8 rfl (W8 rfl (W8 rfl (W8 rfl (W8 rfl (W8 rfl W7)))))))))) (W4 rfl (W4 rfl W3)) rfl (Nat.le_trans hv3 (W1 rfl)) rfl rfl rfl (Wp rfl rfl (Wp rfl rfl (Wp rfl rfl (Wn rfl (Wp rfl rfl (Wp rfl rfl (Wp rfl rfl (Wp rfl rfl (Wp rfl rfl (Wp rfl rfl Wm)))))))))) rfl rfl)
 refine Q9 rfl rfl (W1 rfl) (OpOK.yield (jump := none) rfl rfl rfl rfl rfl (Yj ha10 (fun E hv => (Qh (XK rfl (XK rfl (XK rfl (XK rfl XJ)))) (W8 rfl (W8 rfl (W8 rfl (W8 rfl (W8 rfl (W8 rfl (W8 rfl (W8 rfl (W8 rfl (W8 rfl W7)))))))))) (W4 rfl (W4 rfl W3)) rfl (Nat.le_trans hv (W1 rfl)) rfl rfl rfl (Wp rfl rfl (Wp rfl rfl (Wp rfl rfl (Wn rfl (Wp rfl rfl (Wp rfl rfl (Wp rfl rfl (Wp rfl rfl (Wp rfl rfl (Wp rfl rfl Wm)))))))))) rfl rfl))) rfl (Yj hb11 (fun E hv => (Qh (XK rfl (XK rfl (XK rfl XJ))) (W8 rfl (W8 rfl (W8 rfl (W8 rfl (W8 rfl (W8 rfl (W8 rfl (W8 rfl (W8 rfl (W8 rfl W7)))))))))) (W4 rfl (W4 rfl W3)) rfl (Nat.le_trans hv (W1 rfl)) rfl rfl rfl (Wp rfl rfl (Wp rfl rfl (Wp rfl rfl (Wn rfl (Wp rfl rfl (Wp rfl rfl (Wp rfl rfl (Wp rfl rfl (Wp rfl rfl (Wp rfl rfl Wm)))))))))) rfl rfl))) rfl rfl) ?_
 refine XP rfl rfl rfl (Jp rfl) <| XR rfl rfl rfl <| XP rfl rfl rfl (Q8 fo_115_1 rfl) <| XP rfl rfl rfl (Q7 Gv rfl rfl rfl) <| XP rfl rfl rfl (Jp rfl) <| XR rfl rfl rfl ?_
 refine Ja (d := 32) (c := (!x7.absurd)) rfl (fun c14 => ?_) (fun c14 => ?_)
 replace h2 := Qu c14 h2
 refine XP rfl rfl rfl (Q8 fo_115_2 rfl) <| XP rfl rfl rfl (Qz ag_87 rfl rfl rfl rfl) <| XP rfl rfl rfl (Q7 ag_68 rfl rfl rfl) ?_
 refine Qb h2 (fun x15 hx15 h2 => ?_)
 refine Q9 rfl rfl (W1 rfl) (QS (hp1' := [(0, .loop .ready none [(3, .v (.one (.ptr 2 0))), (6, .v (.one (.ptr 4 0))), (20, .v (.one (.fn 73 [(6, 0), (8, 0)])))] 33 #[21] J0 QZ 1), (1, .obj (.deferred (some []))), (2, .cells 116 [.mp 3]), (3, .mp (QJ x15.2.1.1) x15.2.1.2), (4, .cells 23 [Wi 5 x15.2.2]), (6, .cells 40 [Wi 7 a3]), (8, .cells 48 (Wj a4))]) (tk1' := [(5, some ⟨9, 1, (Enc.encL x15.2.2).length, []⟩), (7, some ⟨42, 5, (Enc.encL a3).length, []⟩)]) (hpF := [(9, .cells 87 (Wj a0)), (10, .cells 68 [.yld 0]), (11, .cells 115 (Wj x7))]) (tkF := []) (res2 := Qr [.one (Wh x15.1)]) (nx2 := 14) [0, 1, 2, 3, 4, 5, 6, 7, 8] rfl rfl (H x7.tree y9.1 y9.2 a3 a4 x15 hx15) rfl rfl (XW rfl rfl (XW rfl rfl (XW rfl rfl (XU rfl (XW rfl rfl (XW rfl rfl (XW rfl rfl XT))))))) rfl rfl (Wb rfl (Wb rfl (Wb rfl (Wc rfl (Wb rfl (Wb rfl (Wb rfl Wa))))))) (W6 rfl (W6 rfl W5)) (W8 rfl (W8 rfl (W8 rfl W7))) W3 rfl rfl rfl rfl rfl (Wp rfl rfl (Wp rfl rfl (Wp rfl rfl (Wn rfl (Wp rfl rfl (Wp rfl rfl (Wp rfl rfl Wm))))))) rfl rfl rfl rfl) <| XP rfl rfl rfl (Jp rfl) <| XP rfl rfl rfl (QC rfl rfl) <| XP rfl rfl rfl (QL rfl rfl) <| Q3 ?_
 have e := XN h2; subst e
 exact QG (true, (!x15.1), (!x15.1), x15.2.1, x15.2.2) (Qh (XK rfl (XK rfl (XK rfl (XK rfl (XK rfl (XK rfl (XK rfl (XK rfl (XK rfl (XK rfl XJ)))))))))) (W8 rfl (W8 rfl (W8 rfl (W8 rfl (W8 rfl (W8 rfl (W8 rfl (W8 rfl (W8 rfl (W8 rfl W7)))))))))) (W4 rfl (W4 rfl W3)) rfl (Nat.le_trans hv0 (W1 rfl)) rfl rfl rfl (Wp rfl rfl (Wp rfl rfl (Wp rfl rfl (Wn rfl (Wp rfl rfl (Wp rfl rfl (Wp rfl rfl (Wp rfl rfl (Wp rfl rfl (Wp rfl rfl Wm)))))))))) rfl rfl) h1
 replace h2 := Qv c14 h2
 refine Qa rfl rfl <| Qa rfl rfl <| Qa rfl rfl <| Qa rfl rfl <| Qa rfl rfl <| XP rfl rfl rfl (QL rfl rfl) <| XP rfl rfl rfl (QL rfl rfl) <| Q3 ?_
 have e := XN h2; subst e
 exact QG (false, false, false, y9.1, y9.2) (Qh (XK rfl (XK rfl (XK rfl (XK rfl (XK rfl (XK rfl (XK rfl (XK rfl (XK rfl (XK rfl XJ)))))))))) (W8 rfl (W8 rfl (W8 rfl (W8 rfl (W8 rfl (W8 rfl (W8 rfl (W8 rfl (W8 rfl (W8 rfl W7)))))))))) (W4 rfl (W4 rfl W3)) rfl (Nat.le_trans hv0 (W1 rfl)) rfl rfl rfl (Wp rfl rfl (Wp rfl rfl (Wp rfl rfl (Wn rfl (Wp rfl rfl (Wp rfl rfl (Wp rfl rfl (Wp rfl rfl (Wp rfl rfl (Wp rfl rfl Wm)))))))))) rfl rfl) h1
 intro v8 h1
 refine Q1 ?_
 refine Qg (b := v8.2.2.1) rfl (fun c16 => ?_) (fun c16 => ?_)
 replace h1 := Qu c16 h1
 refine Q2 <| Q0 <| XS rfl rfl rfl <| Q3 <| Q1 <| Qw ?_
 have e := XN h1; subst e
 have e_ : _ = _ := ho1
 subst e_
 try dsimp only [Sum.elim_inl, Sum.elim_inr] at h0
 have e := XN h0; subst e
 exact hQ0 _ _ _ (.inr rfl) rfl (Qh (XK rfl XJ) (W8 rfl (W8 rfl (W8 rfl (W8 rfl (W8 rfl (W8 rfl (W8 rfl W7))))))) (W4 rfl (W4 rfl W3)) rfl (Nat.le_trans hv0 (W1 rfl)) rfl rfl rfl (Wp rfl rfl (Wp rfl rfl (Wp rfl rfl (Wn rfl (Wp rfl rfl (Wp rfl rfl (Wp rfl rfl Wm))))))) rfl rfl)
 replace h1 := Qv c16 h1
 refine Qj <| Qk <| Q1 <| Q0 <| XP rfl rfl rfl (Q4 rfl rfl rfl) <| XR rfl rfl rfl <| Q3 ?_
 have e := XN h1; subst e
 refine QD ((QW (s1.1 + 1)), v8.2.2.2.1, v8.2.2.2.2) (Qh (XK rfl (XK rfl (XK rfl (XK rfl XJ)))) (W8 rfl (W8 rfl (W8 rfl (W8 rfl (W8 rfl (W8 rfl (W8 rfl (W8 rfl (W8 rfl W7))))))))) (W4 rfl (W4 rfl W3)) rfl (Nat.le_trans hv0 (W1 rfl)) rfl rfl rfl (Wp rfl rfl (Wp rfl rfl (Wp rfl rfl (Wn rfl (Wp rfl rfl (Wp rfl rfl (Wp rfl rfl (Wp rfl rfl (Wp rfl rfl Wm))))))))) rfl rfl) ho1
 replace h1 := Qv c6 h1
 refine QN <| Qf <| Qf ?_
 have e := XN h1; subst e
 have e_ : _ = _ := ho1
 subst e_
 exact QF (s1.2.1, s1.2.2) (Qh XJ (W8 rfl (W8 rfl (W8 rfl (W8 rfl (W8 rfl (W8 rfl (W8 rfl (W8 rfl (W8 rfl W7))))))))) (W4 rfl (W4 rfl W3)) rfl (Nat.le_trans hv0 (W1 rfl)) rfl rfl rfl (Wp rfl rfl (Wp rfl rfl (Wp rfl rfl (Wn rfl (Wp rfl rfl (Wp rfl rfl (Wp rfl rfl (Wp rfl rfl (Wp rfl rfl Wm))))))))) rfl rfl) h0
 intro o4 h0
 refine Qx <| Q1 <| Q2 <| Q0 <| XS rfl rfl rfl <| Q3 <| Q1 <| Qw ?_
 have e := XN h0; subst e
 exact hQ0 _ _ _ (.inr rfl) rfl (Qh (XK rfl XJ) (W8 rfl (W8 rfl (W8 rfl (W8 rfl (W8 rfl (W8 rfl (W8 rfl W7))))))) (W4 rfl (W4 rfl W3)) rfl (Nat.le_trans hv0 (W1 rfl)) rfl rfl rfl (Wp rfl rfl (Wp rfl rfl (Wp rfl rfl (Wn rfl (Wp rfl rfl (Wp rfl rfl (Wp rfl rfl Wm))))))) rfl rfl)
theorem m75f1_all (n : Nat) (u : Tr × (Qc Wy Bool) × (List Wy) × (List Tm) × Dcl) (r : Bool × (Qc Wy Bool) × (List Wy)) (h0 : Yn GB n u = some r) : CallM Try.prog 75 [.agg (Wj u.1), .one (.yld 0)] ⟨[(0, .loop .ready none [(3, .v (.one (.ptr 2 0))), (6, .v (.one (.ptr 4 0))), (20, .v (.one (.fn 73 [(6, 0), (8, 0)])))] 33 #[21] J0 QZ 1), (1, .obj (.deferred (some []))), (2, .cells 116 [.mp 3]), (3, .mp (QJ u.2.1.1) u.2.1.2), (4, .cells 23 [Wi 5 u.2.2.1]), (6, .cells 40 [Wi 7 u.2.2.2.1]), (8, .cells 48 (Wj u.2.2.2.2))], [(5, some ⟨9, 1, (Enc.encL u.2.2.1).length, []⟩), (7, some ⟨42, 5, (Enc.encL u.2.2.2.1).length, []⟩)], 9⟩ (Qr [.one (Wh r.1)]) ⟨[(0, .loop .ready none [(3, .v (.one (.ptr 2 0))), (6, .v (.one (.ptr 4 0))), (20, .v (.one (.fn 73 [(6, 0), (8, 0)])))] 33 #[21] J0 QZ 1), (1, .obj (.deferred (some []))), (2, .cells 116 [.mp 3]), (3, .mp (QJ r.2.1.1) r.2.1.2), (4, .cells 23 [Wi 5 r.2.2]), (6, .cells 40 [Wi 7 u.2.2.2.1]), (8, .cells 48 (Wj u.2.2.2.2))], [(5, some ⟨9, 1, (Enc.encL r.2.2).length, []⟩), (7, some ⟨42, 5, (Enc.encL u.2.2.2.1).length, []⟩)], 11⟩ :=
 Z0 (C := fun u r => CallM Try.prog 75 [.agg (Wj u.1), .one (.yld 0)] ⟨[(0, .loop .ready none [(3, .v (.one (.ptr 2 0))), (6, .v (.one (.ptr 4 0))), (20, .v (.one (.fn 73 [(6, 0), (8, 0)])))] 33 #[21] J0 QZ 1), (1, .obj (.deferred (some []))), (2, .cells 116 [.mp 3]), (3, .mp (QJ u.2.1.1) u.2.1.2), (4, .cells 23 [Wi 5 u.2.2.1]), (6, .cells 40 [Wi 7 u.2.2.2.1]), (8, .cells 48 (Wj u.2.2.2.2))], [(5, some ⟨9, 1, (Enc.encL u.2.2.1).length, []⟩), (7, some ⟨42, 5, (Enc.encL u.2.2.2.1).length, []⟩)], 9⟩ (Qr [.one (Wh r.1)]) ⟨[(0, .loop .ready none [(3, .v (.one (.ptr 2 0))), (6, .v (.one (.ptr 4 0))), (20, .v (.one (.fn 73 [(6, 0), (8, 0)])))] 33 #[21] J0 QZ 1), (1, .obj (.deferred (some []))), (2, .cells 116 [.mp 3]), (3, .mp (QJ r.2.1.1) r.2.1.2), (4, .cells 23 [Wi 5 r.2.2]), (6, .cells 40 [Wi 7 u.2.2.2.1]), (8, .cells 48 (Wj u.2.2.2.2))], [(5, some ⟨9, 1, (Enc.encL r.2.2).length, []⟩), (7, some ⟨42, 5, (Enc.encL u.2.2.2.1).length, []⟩)], 11⟩) (fun rc H u r h => m75f1s_ok rc (fun a0 a1 a2 a3 a4 r h => H (a0, a1, a2, a3, a4) r h) u.1 u.2.1 u.2.2.1 u.2.2.2.1 u.2.2.2.2 r h) n u r h0
theorem m75f1_ok (a0 : Tr) (a1 : Qc Wy Bool) (a2 : List Wy) (a3 : List Tm) (a4 : Dcl) (r : Bool × (Qc Wy Bool) × (List Wy)) (h0 : m75f1 a0 a1 a2 a3 a4 = some r) : CallM Try.prog 75 [.agg (Wj a0), .one (.yld 0)] ⟨[(0, .loop .ready none [(3, .v (.one (.ptr 2 0))), (6, .v (.one (.ptr 4 0))), (20, .v (.one (.fn 73 [(6, 0), (8, 0)])))] 33 #[21] J0 QZ 1), (1, .obj (.deferred (some []))), (2, .cells 116 [.mp 3]), (3, .mp (QJ a1.1) a1.2), (4, .cells 23 [Wi 5 a2]), (6, .cells 40 [Wi 7 a3]), (8, .cells 48 (Wj a4))], [(5, some ⟨9, 1, (Enc.encL a2).length, []⟩), (7, some ⟨42, 5, (Enc.encL a3).length, []⟩)], 9⟩ (Qr [.one (Wh r.1)]) ⟨[(0, .loop .ready none [(3, .v (.one (.ptr 2 0))), (6, .v (.one (.ptr 4 0))), (20, .v (.one (.fn 73 [(6, 0), (8, 0)])))] 33 #[21] J0 QZ 1), (1, .obj (.deferred (some []))), (2, .cells 116 [.mp 3]), (3, .mp (QJ r.2.1.1) r.2.1.2), (4, .cells 23 [Wi 5 r.2.2]), (6, .cells 40 [Wi 7 a3]), (8, .cells 48 (Wj a4))], [(5, some ⟨9, 1, (Enc.encL r.2.2).length, []⟩), (7, some ⟨42, 5, (Enc.encL a3).length, []⟩)], 11⟩ := m75f1_all QB (a0, a1, a2, a3, a4) r h0
def KI (x1 : (List Wy)) (s1 : Int × (Qc Wy Bool)) : Option (LO (Int × (Qc Wy Bool)) (((Qc Wy Bool)))) :=
 cond (decide (s1.1 < (x1.length : Int)))
   (Option.bind (J1 x1 s1.1) fun (x4 : Wy) =>
 some (.next ((QW (s1.1 + 1)), (JR s1.2 x4 true))))
   (some (.done s1.2))
def Kj (a0 : Dcl) (s2 : Int × (List Tm)) : Option (LO (Int × (List Tm)) (((List Tm)))) :=
 cond (decide (s2.1 < (a0.ctors.length : Int)))
   (Option.bind (J1 a0.ctors s2.1) fun (x7 : Ctr) =>
 Qm (Nat.ble (s2.2.length + 1) 1000000000)
 (some (.next ((QW (s2.1 + 1)), (s2.2 ++ [x7.ty])))))
   (some (.done s2.2))
def K4 (a0 : Dcl) (s2 : Int × (List Tm)) : Option (LO (Int × (List Tm)) (((List Tm)))) :=
 cond (decide (s2.1 < (a0.funs.length : Int)))
   (Option.bind (J1 a0.funs s2.1) fun (x10 : Fn) =>
 Qm (Nat.ble (s2.2.length + 1) 1000000000)
 (some (.next ((QW (s2.1 + 1)), (s2.2 ++ [x10.ty])))))
   (some (.done s2.2))
def KH (x22 : (List Wy)) (s3 : Int × (Qc Wy Bool) × (List Wy)) : Option (LO (Int × (Qc Wy Bool) × (List Wy)) (((Qc Wy Bool) × (List Wy)))) :=
 cond (decide (s3.1 < (x22.length : Int)))
   (Option.bind (J1 x22 s3.1) fun (x25 : Wy) =>
 Option.bind (cond (!(J7 s3.2.1 x25))
   (Qm (Nat.ble (s3.2.2.length + ([x25]).length) 1000000000)
 (some ((JR s3.2.1 x25 true), (s3.2.2 ++ ([x25])))))
   (some (s3.2.1, s3.2.2))) (fun (y26 : (Qc Wy Bool) × (List Wy)) => some (.next ((QW (s3.1 + 1)), y26.1, y26.2))))
   (some (.done (s3.2.1, s3.2.2)))
def KG (y3 : (List Tm)) (s2 : Int × (Qc Wy Bool) × (List Wy)) : Option (LO (Int × (Qc Wy Bool) × (List Wy)) (((Qc Wy Bool) × (List Wy)))) :=
 cond (decide (s2.1 < (y3.length : Int)))
   (Option.bind (J1 y3 s2.1) fun (x21 : Tm) =>
 Option.bind (XA x21) fun (x22 : (List Wy)) =>
 Option.bind (Qo (KH x22) QB (0, s2.2.1, s2.2.2)) (fun (o23 : (Qc Wy Bool) × (List Wy)) => some (.next ((QW (s2.1 + 1)), o23.1, o23.2))))
   (some (.done (s2.2.1, s2.2.2)))
def Ki (a0 : Dcl) (y3 : (List Tm)) (s2 : Int × (Qc Wy Bool) × (List Wy)) : Option (LO (Int × (Qc Wy Bool) × (List Wy)) (((Qc Wy Bool) × (List Wy)) ⊕ (((Qc Wy Bool) × (List Wy))))) :=
 cond (decide (s2.1 < (a0.funs.length : Int)))
   (Option.bind (J1 a0.funs s2.1) fun (x22 : Fn) =>
 Option.bind (m75f1 x22.tree s2.2.1 s2.2.2 y3 a0) fun (x23 : Bool × (Qc Wy Bool) × (List Wy)) =>
 cond (!x23.1)
   (some (.done (.inr (x23.2.1, x23.2.2))))
   (some (.next ((QW (s2.1 + 1)), x23.2.1, x23.2.2))))
   (some (.done (.inl (s2.2.1, s2.2.2))))
def Xe (a0 : Dcl) : Option ((List Wy)) :=
 Option.bind (X8 a0) fun (x1 : (List Wy)) =>
 Option.bind (Qo (KI x1) QB (0, gmNil)) (fun (o2 : (Qc Wy Bool)) => Option.bind (Option.bind (Qo (Kj a0) QB (0, [a0.ty, a0.value])) (fun (o5 : (List Tm)) => Qm (Nat.ble (o5.length + ([a0.rcr.ty]).length) 1000000000)
 (Qm (Nat.ble ((o5 ++ ([a0.rcr.ty])).length + a0.rcr.rules.length) 1000000000)
 (Option.bind (Qo (K4 a0) QB (0, ((o5 ++ ([a0.rcr.ty])) ++ a0.rcr.rules))) (fun (o8 : (List Tm)) => some o8))))) (fun (y3 : (List Tm)) => Option.bind (Option.bind (Qo (KG y3) QB (0, o2, [])) (fun (o19 : (Qc Wy Bool) × (List Wy)) => Option.bind (Qo (Ki a0 y3) QB (0, o19.1, o19.2)) (Sum.elim (fun (o20 : (Qc Wy Bool) × (List Wy)) => some (o20.1, o20.2)) (fun o => some o)))) (fun (y17 : (Qc Wy Bool) × (List Wy)) => some y17.2)))
set_option maxRecDepth 100000 in
set_option maxHeartbeats 8000000 in
theorem Gh (a0 : Dcl) (r : (List Wy)) (h0 : Xe a0 = some r) : Fun Try.prog 53 [.agg (Wj a0)] (Qr [.one (We r)]) := by
 unfold Xe at h0
 refine Jd 9 33 Try.func53 rfl en_53 rfl (W1 rfl) (fun S w => ?_)
 simp only [Jc]
 refine Q2 <| Q0 <| Q9 rfl rfl (W1 rfl) (Js rfl) <| XS rfl rfl rfl <| Q3 <| Q1 <| Q2 <| Q0 <| Q9 rfl rfl (W1 rfl) (JW Wy Bool) <| Q9 rfl rfl (W1 rfl) (Ql z_116 rfl) <| QA rfl rfl (Qi Zw rfl rfl rfl rfl (W1 rfl) rfl) <| Q3 <| Q1 <| Q2 ?_
 refine Q2 <| Q0 <| XP rfl rfl rfl (Qz J3 rfl rfl rfl rfl) ?_
 refine Qb h0 (fun x1 hx1 h0 => ?_)
 refine Q9 rfl rfl (W1 rfl) (Qt (K5 a0 x1 hx1) rfl (.cons (.agg (.cons (.d _) (.cons (.d _) (.cons (.d _) (.cons (.d _) (.cons (.d _) (.cons (.d _) (.cons (.d _) (.cons (.d _) (.cons (.d _) (.cons (.d _) (.cons (.d _) (.cons (.d _) (.cons (.d _) (.cons (.d _) (.cons (.d _) (.cons (.d _) (.cons (.d _) (.cons (.d _) (.cons (.d _) (.cons (.d _) (.cons (.d _) (.cons (.d _) (.cons (.d _) .nil)))))))))))))))))))))))) .nil)) <| XP rfl rfl rfl (Qy (α := Wy) QQ rfl (.d _)) <| XR rfl rfl rfl <| Q3 <| Q1 <| Qd ?_
 refine QI 0 (fun (o2 : (Qc Wy Bool)) => ⟨[(1, .v (.one (.ptr 0 0))), (3, .v (.one (.ptr 2 0)))], [(0, .cells 48 (Wj a0)), (1, .mp (QJ o2.1) o2.2), (2, .cells 116 [.mp 1])], [], 3, 33, []⟩) (fun (o2 : (Qc Wy Bool)) => (Option.bind (Option.bind (Qo (Kj a0) QB (0, [a0.ty, a0.value])) (fun (o5 : (List Tm)) => Qm (Nat.ble (o5.length + ([a0.rcr.ty]).length) 1000000000)
   (Qm (Nat.ble ((o5 ++ ([a0.rcr.ty])).length + a0.rcr.rules.length) 1000000000)
   (Option.bind (Qo (K4 a0) QB (0, ((o5 ++ ([a0.rcr.ty])) ++ a0.rcr.rules))) (fun (o8 : (List Tm)) => some o8))))) (fun (y3 : (List Tm)) => Option.bind (Option.bind (Qo (KG y3) QB (0, o2, [])) (fun (o19 : (Qc Wy Bool) × (List Wy)) => Option.bind (Qo (Ki a0 y3) QB (0, o19.1, o19.2)) (Sum.elim (fun (o20 : (Qc Wy Bool) × (List Wy)) => some (o20.1, o20.2)) (fun o => some o)))) (fun (y17 : (Qc Wy Bool) × (List Wy)) => some y17.2))) = some r) ?_ ?_
 refine Qb h0 (fun o3 hl1 h0 => ?_)
 refine QH (KI x1) (fun s1 => ⟨[(1, .v (.one (.ptr 0 0))), (3, .v (.one (.ptr 2 0))), (10, .v (.one (We x1))), (11, .v (.one (Wg (x1.length : Int)))), (12, .v (.one (Wg s1.1)))], [(0, .cells 48 (Wj a0)), (1, .mp (QJ s1.2.1) s1.2.2), (2, .cells 116 [.mp 1])], [], 3, 33, []⟩) (0, gmNil) o3 (Qh (XK rfl (XK rfl (XK rfl (XK rfl (XK rfl XJ))))) (W8 rfl (W8 rfl (W8 rfl W7))) W3 rfl (Nat.zero_le _) rfl rfl rfl (Wp rfl rfl (Wn rfl (Wp rfl rfl Wm))) rfl rfl) hl1 (fun s1 n1 oo1 h1 ho1 => ?_)
 unfold KI at h1
 refine Q2 <| Q0 <| XP rfl rfl rfl (Q4 rfl rfl rfl) <| Q3 <| Q1 <| Q2 ?_
 refine Qg (b := (decide (s1.1 < (x1.length : Int)))) rfl (fun c4 => ?_) (fun c4 => ?_)
 replace h1 := Qu c4 h1
 refine Qj <| Q1 <| Q2 <| Qd <| Q2 <| Q0 ?_
 refine Qb h1 (fun x5 hx5 h1 => ?_)
 refine XP rfl rfl rfl (Qq (α := Wy) QQ rfl (.d _) rfl hx5) <| XP rfl rfl rfl (QK Y6 rfl rfl) <| XS rfl rfl rfl <| Q3 <| Q1 <| Q0 <| XP rfl rfl rfl (Q7 Zw rfl rfl rfl) <| XR rfl rfl rfl <| QA rfl rfl (JI (M := s1.2) (k := x5) (v := true) K3 rfl rfl rfl rfl rfl) <| Q3 <| Qk <| Q1 <| Q0 <| XP rfl rfl rfl (Q4 rfl rfl rfl) ?_
 refine XR rfl rfl rfl <| Q3 ?_
 have e := XN h1; subst e
 refine QD ((QW (s1.1 + 1)), (JR s1.2 x5 true)) (Qh (XK rfl (XK rfl (XK rfl (XK rfl (XK rfl XJ))))) (W8 rfl (W8 rfl (W8 rfl W7))) W3 rfl (Nat.zero_le _) rfl rfl rfl (Wp rfl rfl (Wn rfl (Wp rfl rfl Wm))) rfl rfl) ho1
 replace h1 := Qv c4 h1
 refine QN <| Qf <| Qf ?_
 have e := XN h1; subst e
 have e_ : _ = _ := ho1
 subst e_
 exact QF s1.2 (Qh (XK rfl (XK rfl XJ)) (W8 rfl (W8 rfl (W8 rfl W7))) W3 rfl (Nat.zero_le _) rfl rfl rfl (Wp rfl rfl (Wn rfl (Wp rfl rfl Wm))) rfl rfl) h0
 intro o2 h0
 refine Qx <| Q1 <| Q2 <| Q0 <| Q9 rfl rfl (W1 rfl) (Ql z_23 rfl) <| Q3 <| Q1 <| Q2 <| Q2 <| Q0 <| XP rfl rfl rfl (Qz J3 rfl rfl rfl rfl) ?_
 refine Qb h0 (fun y6 h1 h0 => ?_)
 have hc7 : CallM Try.prog 67 [.agg (Wj a0)] ⟨[(0, .cells 48 (Wj a0)), (1, .mp (QJ o2.1) o2.2), (2, .cells 116 [.mp 1]), (3, .cells 23 [Wf])], [], 4⟩ (Qr [.one (.fn 73 [(6, 0), (4, 0)])]) ⟨[(0, .cells 48 (Wj a0)), (1, .mp (QJ o2.1) o2.2), (2, .cells 116 [.mp 1]), (3, .cells 23 [Wf]), (4, .cells 48 (Wj a0)), (6, .cells 40 [Wi 5 y6])], [(5, some ⟨42, 5, (Enc.encL y6).length, []⟩)], 7⟩ := by
  refine QM ⟨[(2, .v (.one (.fn 73 [(6, 0), (4, 0)])))], [(0, .cells 48 (Wj a0)), (1, .mp (QJ o2.1) o2.2), (2, .cells 116 [.mp 1]), (3, .cells 23 [Wf]), (4, .cells 48 (Wj a0)), (6, .cells 40 [Wi 5 y6])], [(5, some ⟨42, 5, (Enc.encL y6).length, []⟩)], 7, 54, []⟩ rfl rfl en_67 (W1 rfl) rfl (Qp rfl .nil) (fun w0 M V0 Q hv1 hQ1 => ?_)
  simp only [Jc]
  refine Q2 <| Q0 <| Q9 rfl rfl (W1 rfl) (Js rfl) <| XS rfl rfl rfl <| Q3 <| Q1 <| Q2 <| Q0 <| XP rfl rfl rfl (Q8 fo_48_3 rfl) <| XP rfl rfl rfl (Qz JH rfl rfl rfl rfl) <| XP rfl rfl rfl (Q8 fo_48_4 rfl) <| XP rfl rfl rfl (Qz JH rfl rfl rfl rfl) <| Q9 rfl rfl (W1 rfl) (OpOK.lit2E (α := Tm) a0.ty a0.value Ym GT rfl rfl (W1 rfl) (W1 rfl) rfl rfl rfl (.cons (.d _) (.cons (.d _) (.cons (.d _) (.cons (.d _) (.cons (.d _) (.cons (.d _) (.cons (.d _) (.cons (.d _) (.cons (.d _) (.cons (.d _) .nil)))))))))) ⟨rfl, rfl⟩) <| Q9 rfl rfl (W1 rfl) (Ql z_40 rfl) ?_
  refine QA rfl rfl (Qi YG rfl rfl rfl rfl (W1 rfl) rfl) <| Q3 <| Q1 <| Q2 <| Q2 <| Q0 <| XP rfl rfl rfl (Q8 ZA rfl) <| XP rfl rfl rfl (Q7 Gu rfl rfl rfl) <| XP rfl rfl rfl (Qy (α := Ctr) Kh rfl (.d _)) <| XR rfl rfl rfl <| Q3 <| Q1 <| Qd ?_
  refine QI 0 (fun (o8 : (List Tm)) => ⟨[(1, .v (.one (.ptr 4 0))), (3, .v (.one (.ptr 6 0)))], [(0, .cells 48 (Wj a0)), (1, .mp (QJ o2.1) o2.2), (2, .cells 116 [.mp 1]), (3, .cells 23 [Wf]), (4, .cells 48 (Wj a0)), (6, .cells 40 [Wi 5 o8])], [(5, some ⟨42, 5, (Enc.encL o8).length, []⟩)], 7, 54, []⟩) (fun (o8 : (List Tm)) => (Qm (Nat.ble (o8.length + ([a0.rcr.ty]).length) 1000000000)
    (Qm (Nat.ble ((o8 ++ ([a0.rcr.ty])).length + a0.rcr.rules.length) 1000000000)
    (Option.bind (Qo (K4 a0) QB (0, ((o8 ++ ([a0.rcr.ty])) ++ a0.rcr.rules))) (fun (o11 : (List Tm)) => some o11)))) = some y6) ?_ ?_
  refine Qb h1 (fun o9 hl2 h1 => ?_)
  refine QH (Kj a0) (fun s2 => ⟨[(1, .v (.one (.ptr 4 0))), (3, .v (.one (.ptr 6 0))), (14, .v (.one (We a0.ctors))), (15, .v (.one (Wg (a0.ctors.length : Int)))), (16, .v (.one (Wg s2.1)))], [(0, .cells 48 (Wj a0)), (1, .mp (QJ o2.1) o2.2), (2, .cells 116 [.mp 1]), (3, .cells 23 [Wf]), (4, .cells 48 (Wj a0)), (6, .cells 40 [Wi 5 s2.2])], [(5, some ⟨42, 5, (Enc.encL s2.2).length, []⟩)], 7, 54, []⟩) (0, [a0.ty, a0.value]) o9 (Qh (XK rfl (XK rfl (XK rfl (XK rfl (XK rfl XJ))))) (W8 rfl (W8 rfl (W8 rfl (W8 rfl (W8 rfl (W8 rfl W7)))))) (W4 rfl W3) rfl (Nat.le_trans hv1 (W1 rfl)) rfl rfl rfl (Wp rfl rfl (Wn rfl (Wp rfl rfl (Wp rfl rfl (Wp rfl rfl (Wp rfl rfl Wm)))))) rfl rfl) hl2 (fun s2 n2 oo2 h2 ho2 => ?_)
  unfold Kj at h2
  refine Q2 <| Q0 <| XP rfl rfl rfl (Q4 rfl rfl rfl) <| Q3 <| Q1 <| Q2 ?_
  refine Qg (b := (decide (s2.1 < (a0.ctors.length : Int)))) rfl (fun c10 => ?_) (fun c10 => ?_)
  replace h2 := Qu c10 h2
  refine Qj <| Q1 <| Q2 <| Qd <| Q2 <| Q0 ?_
  refine Qb h2 (fun x11 hx11 h2 => ?_)
  refine XP rfl rfl rfl (Qq (α := Ctr) Kh rfl (.d _) rfl hx11) <| XP rfl rfl rfl (Jm ag_84 rfl rfl rfl) <| Q9 rfl rfl (W1 rfl) (Ql z_84 rfl) <| QA rfl rfl (Qi ag_84 rfl rfl rfl rfl (W1 rfl) rfl) <| Q3 <| Q1 ?_
  refine XC.swRun [5, 7, 8] [[], [5], [5, 7], [5, 7, 8], [5, 8]] [(8, 1), (6, 4), (7, 4)] mixed (by kernel_rfl) (by kernel_rfl) (by kernel_rfl) (by kernel_rfl) rfl (by kernel_rfl) ?_
  refine RunA.rd rfl rfl rfl (Q5 (Q7 YG rfl rfl rfl)) rfl <| RunA.rd rfl rfl rfl (Q5 (Q8 fo_84_1 rfl)) rfl <| RunA.rd rfl rfl rfl (Q5 (Qz JH rfl rfl rfl rfl)) rfl <| RunA.rd rfl rfl rfl (Q5 (Qy (α := Tm) Ym rfl (.app _ _))) rfl <| RunA.rd rfl rfl rfl (JX (α := Tm) ((Tm.mk 0 0 ([] : List UInt8) ([] : List Lvl) ([] : List Tm))) Ym GT rfl rfl (W1 rfl) rfl rfl (.cons (.d _) (.cons (.d _) (.cons (.d _) (.cons (.nil _) (.cons (.nil _) .nil))))) rfl) rfl ?_
  refine QO h2 (fun g12 h2 => ?_)
  refine RunA.eff rfl rfl rfl (OpOK.appendH (α := Tm) (l := s2.2) (z := (Tm.mk 0 0 ([] : List UInt8) ([] : List Lvl) ([] : List Tm))) Ym el_42 rfl rfl rfl rfl (.d _) g12) rfl <| RunA.rd rfl rfl rfl (Q5 (RO.indexP Ym rfl rfl rfl (lt_H (α := Tm) s2.2))) rfl <| RunA.eff rfl rfl rfl (OpOK.storeH (α := Tm) (l := s2.2) (y' := .agg [Wg x11.ty.kind, Wg x11.ty.index, YK x11.ty.name, We x11.ty.levels, We x11.ty.kids]) x11.ty JH rfl rfl (.agg (.cons (.d _) (.cons (.d _) (.cons (.d _) (.cons (.d _) (.cons (.d _) .nil)))))) rfl rfl rfl) rfl <| RunA.eff rfl rfl rfl (Qi YG rfl rfl rfl rfl (W1 rfl) rfl) rfl ?_
  refine RunA.nil ⟨[_], ⟨⟨_, _, rfl, rfl, _, _, rfl, rfl, rfl, .inl ⟨rfl, _, (Qi YG rfl rfl rfl rfl (W1 rfl) rfl), .inl ⟨rfl, 4, _, rfl, rfl, rfl⟩⟩⟩, ⟨⟨_, _, rfl, rfl, _, _, rfl, rfl, rfl, .inl ⟨rfl, _, (Q5 (RO.indexP Ym rfl rfl rfl (lt_H (α := Tm) s2.2))), .inr ⟨rfl, rfl⟩⟩⟩, ⟨⟨_, _, rfl, rfl, _, _, rfl, rfl, rfl, .inl ⟨rfl, _, (OpOK.storeH (α := Tm) (l := s2.2) (y' := .agg [Wg x11.ty.kind, Wg x11.ty.index, YK x11.ty.name, We x11.ty.levels, We x11.ty.kids]) x11.ty JH rfl rfl (.agg (.cons (.d _) (.cons (.d _) (.cons (.d _) (.cons (.d _) (.cons (.d _) .nil)))))) rfl rfl rfl), .inl ⟨rfl, 3, _, rfl, rfl, rfl⟩⟩⟩, trivial⟩⟩⟩, _, _, rfl, ?_⟩
  refine JT (st' := ⟨[(1, .v (.one (.ptr 4 0))), (3, .v (.one (.ptr 6 0))), (14, .v (.one (We a0.ctors))), (15, .v (.one (Wg (a0.ctors.length : Int)))), (16, .v (.one (Wg s2.1)))], [(0, .cells 48 (Wj a0)), (1, .mp (QJ o2.1) o2.2), (2, .cells 116 [.mp 1]), (3, .cells 23 [Wf]), (4, .cells 48 (Wj a0)), (6, .cells 40 [.apv 5 5 ((Enc.encL s2.2).length + 1) (Enc.encL s2.2)]), (7, .cells 84 (Wj x11))], [(5, some ⟨42, 5, (Enc.encL s2.2).length + 1, (Enc.encL ([x11.ty] : List Tm)).flatten⟩)], 8, 54, []⟩) (Qh (XK rfl (XK rfl (XK rfl (XK rfl (XK rfl XJ))))) (W8 rfl (W8 rfl (W8 rfl (W8 rfl (W8 rfl (W8 rfl (W8 rfl W7))))))) (W4 rfl W3) rfl (Nat.le_trans hv1 (W1 rfl)) rfl rfl rfl (Wp rfl rfl (Wn rfl (Wp rfl rfl (Wp rfl rfl (Wp rfl rfl (Wp rfl rfl (Wp rfl rfl Wm))))))) rfl rfl) <| XQ.settleC (α := Tm) (b := 6) (off := 0) (l := s2.2) (l2 := [x11.ty]) rfl rfl rfl (n_H _ _) <| Qk <| Q1 <| Q0 <| XP rfl rfl rfl (Q4 rfl rfl rfl) <| XR rfl rfl rfl <| Q3 ?_
  have e := XN h2; subst e
  refine QD ((QW (s2.1 + 1)), (s2.2 ++ [x11.ty])) (Qh (XK rfl (XK rfl (XK rfl (XK rfl (XK rfl XJ))))) (W8 rfl (W8 rfl (W8 rfl (W8 rfl (W8 rfl (W8 rfl W7)))))) (W4 rfl W3) rfl (Nat.le_trans hv1 (W1 rfl)) rfl rfl rfl (Wp rfl rfl (Wn rfl (Wp rfl rfl (Wp rfl rfl (Wp rfl rfl (Wp rfl rfl Wm)))))) rfl rfl) ho2
  replace h2 := Qv c10 h2
  refine QN <| Qf <| Qf ?_
  have e := XN h2; subst e
  have e_ : _ = _ := ho2
  subst e_
  exact QF s2.2 (Qh (XK rfl (XK rfl XJ)) (W8 rfl (W8 rfl (W8 rfl (W8 rfl (W8 rfl (W8 rfl W7)))))) (W4 rfl W3) rfl (Nat.le_trans hv1 (W1 rfl)) rfl rfl rfl (Wp rfl rfl (Wn rfl (Wp rfl rfl (Wp rfl rfl (Wp rfl rfl (Wp rfl rfl Wm)))))) rfl rfl) h1
  intro o8 h1
  refine Qx <| Q1 <| Q2 ?_
  refine JZ [5, 9, 10] [(6, 0), (7, 0), (8, 0)] mixed (by kernel_rfl) (by kernel_rfl) (by kernel_rfl) ?_
  refine RunA.rd rfl rfl rfl (Q5 (Q7 YG rfl rfl rfl)) rfl <| RunA.rd rfl rfl rfl (Q5 (Q8 Kc rfl)) rfl <| RunA.rd rfl rfl rfl (Q5 (Q8 fo_45_1 rfl)) rfl <| RunA.rd rfl rfl rfl (Q5 (Qz JH rfl rfl rfl rfl)) rfl <| RunA.rd rfl rfl rfl (JX (α := Tm) (a0.rcr.ty) Ym GT rfl rfl (W1 rfl) rfl rfl (.cons (.d _) (.cons (.d _) (.cons (.d _) (.cons (.d _) (.cons (.d _) .nil))))) rfl) rfl ?_
  refine QO h1 (fun g13 h1 => ?_)
  refine RunA.eff rfl rfl rfl (QU (α := Tm) Ym el_42 rfl rfl rfl rfl rfl (.d _) g13) rfl <| RunA.rd rfl rfl rfl (Q5 (Q8 Kc rfl)) rfl <| RunA.rd rfl rfl rfl (Q5 (Q8 G4 rfl)) rfl <| RunA.rd rfl rfl rfl (Q5 (Q7 YG rfl rfl rfl)) rfl ?_
  refine QO h1 (fun g14 h1 => ?_)
  refine RunA.eff rfl rfl rfl (QU (α := Tm) Ym el_42 rfl rfl rfl rfl rfl (.d _) g14) rfl <| RunA.eff rfl rfl rfl (Qi YG rfl rfl rfl rfl (W1 rfl) rfl) rfl ?_
  refine RunA.nil ⟨?ex, _, _, rfl, ?_⟩
  case ex => exact ⟨⟨_, rfl, _, _, rfl, rfl, rfl, .inl ⟨rfl, _, Q5 (Q8 Kc rfl), rfl⟩⟩, ⟨_, rfl, _, _, rfl, rfl, rfl, .inl ⟨rfl, _, Q5 (Q8 G4 rfl), rfl⟩⟩, ⟨_, rfl, _, _, rfl, rfl, rfl, .inl ⟨rfl, _, Q5 (Q7 YG rfl rfl rfl), rfl⟩⟩, trivial⟩
  refine JT (st' := ⟨[(1, .v (.one (.ptr 4 0))), (3, .v (.one (.ptr 6 0)))], [(0, .cells 48 (Wj a0)), (1, .mp (QJ o2.1) o2.2), (2, .cells 116 [.mp 1]), (3, .cells 23 [Wf]), (4, .cells 48 (Wj a0)), (6, .cells 40 [Wi 5 (((o8 ++ ([a0.rcr.ty])) ++ a0.rcr.rules) : List Tm)])], [(5, some ⟨42, 5, (Enc.encL (((o8 ++ ([a0.rcr.ty])) ++ a0.rcr.rules) : List Tm)).length, []⟩)], 7, 54, []⟩) (Qh (XK rfl (XK rfl XJ)) (W8 rfl (W8 rfl (W8 rfl (W8 rfl (W8 rfl (W8 rfl W7)))))) (W4 rfl W3) rfl (Nat.le_trans hv1 (W1 rfl)) rfl rfl rfl (Wp rfl rfl (Wn rfl (Wp rfl rfl (Wp rfl rfl (Wp rfl rfl (Wp rfl rfl Wm)))))) rfl rfl) <| Q1 <| Q2 <| Q2 <| Q0 <| XP rfl rfl rfl (Q8 YY rfl) <| XP rfl rfl rfl (Q7 KE rfl rfl rfl) <| XP rfl rfl rfl (Qy (α := Fn) ZK rfl (.d _)) <| XR rfl rfl rfl <| Q3 <| Q1 <| Qd ?_
  refine QI 2 (fun (o15 : (List Tm)) => ⟨[(1, .v (.one (.ptr 4 0))), (3, .v (.one (.ptr 6 0)))], [(0, .cells 48 (Wj a0)), (1, .mp (QJ o2.1) o2.2), (2, .cells 116 [.mp 1]), (3, .cells 23 [Wf]), (4, .cells 48 (Wj a0)), (6, .cells 40 [Wi 5 o15])], [(5, some ⟨42, 5, (Enc.encL o15).length, []⟩)], 7, 54, []⟩) (fun (o15 : (List Tm)) => (some o15) = some y6) ?_ ?_
  refine Qb h1 (fun o16 hl2 h1 => ?_)
  refine QH (K4 a0) (fun s2 => ⟨[(1, .v (.one (.ptr 4 0))), (3, .v (.one (.ptr 6 0))), (39, .v (.one (We a0.funs))), (40, .v (.one (Wg (a0.funs.length : Int)))), (41, .v (.one (Wg s2.1)))], [(0, .cells 48 (Wj a0)), (1, .mp (QJ o2.1) o2.2), (2, .cells 116 [.mp 1]), (3, .cells 23 [Wf]), (4, .cells 48 (Wj a0)), (6, .cells 40 [Wi 5 s2.2])], [(5, some ⟨42, 5, (Enc.encL s2.2).length, []⟩)], 7, 54, []⟩) (0, ((o8 ++ ([a0.rcr.ty])) ++ a0.rcr.rules)) o16 (Qh (XK rfl (XK rfl (XK rfl (XK rfl (XK rfl XJ))))) (W8 rfl (W8 rfl (W8 rfl (W8 rfl (W8 rfl (W8 rfl W7)))))) (W4 rfl W3) rfl (Nat.le_trans hv1 (W1 rfl)) rfl rfl rfl (Wp rfl rfl (Wn rfl (Wp rfl rfl (Wp rfl rfl (Wp rfl rfl (Wp rfl rfl Wm)))))) rfl rfl) hl2 (fun s2 n2 oo2 h2 ho2 => ?_)
  unfold K4 at h2
  refine Q2 <| Q0 <| XP rfl rfl rfl (Q4 rfl rfl rfl) <| Q3 <| Q1 <| Q2 ?_
  refine Qg (b := (decide (s2.1 < (a0.funs.length : Int)))) rfl (fun c17 => ?_) (fun c17 => ?_)
  replace h2 := Qu c17 h2
  refine Qj <| Q1 <| Q2 <| Qd <| Q2 <| Q0 ?_
  refine Qb h2 (fun x18 hx18 h2 => ?_)
  refine XP rfl rfl rfl (Qq (α := Fn) ZK rfl (.d _) rfl hx18) <| XP rfl rfl rfl (Jm GS rfl rfl rfl) <| Q9 rfl rfl (W1 rfl) (Ql z_89 rfl) <| QA rfl rfl (Qi GS rfl rfl rfl rfl (W1 rfl) rfl) <| Q3 <| Q1 ?_
  refine XC.swRun [5, 7, 8] [[], [5], [5, 7], [5, 7, 8], [5, 8]] [(8, 1), (6, 4), (7, 4)] mixed (by kernel_rfl) (by kernel_rfl) (by kernel_rfl) (by kernel_rfl) rfl (by kernel_rfl) ?_
  refine RunA.rd rfl rfl rfl (Q5 (Q7 YG rfl rfl rfl)) rfl <| RunA.rd rfl rfl rfl (Q5 (Q8 fo_89_1 rfl)) rfl <| RunA.rd rfl rfl rfl (Q5 (Qz JH rfl rfl rfl rfl)) rfl <| RunA.rd rfl rfl rfl (Q5 (Qy (α := Tm) Ym rfl (.app _ _))) rfl <| RunA.rd rfl rfl rfl (JX (α := Tm) ((Tm.mk 0 0 ([] : List UInt8) ([] : List Lvl) ([] : List Tm))) Ym GT rfl rfl (W1 rfl) rfl rfl (.cons (.d _) (.cons (.d _) (.cons (.d _) (.cons (.nil _) (.cons (.nil _) .nil))))) rfl) rfl ?_
  refine QO h2 (fun g19 h2 => ?_)
  refine RunA.eff rfl rfl rfl (OpOK.appendH (α := Tm) (l := s2.2) (z := (Tm.mk 0 0 ([] : List UInt8) ([] : List Lvl) ([] : List Tm))) Ym el_42 rfl rfl rfl rfl (.d _) g19) rfl <| RunA.rd rfl rfl rfl (Q5 (RO.indexP Ym rfl rfl rfl (lt_H (α := Tm) s2.2))) rfl <| RunA.eff rfl rfl rfl (OpOK.storeH (α := Tm) (l := s2.2) (y' := .agg [Wg x18.ty.kind, Wg x18.ty.index, YK x18.ty.name, We x18.ty.levels, We x18.ty.kids]) x18.ty JH rfl rfl (.agg (.cons (.d _) (.cons (.d _) (.cons (.d _) (.cons (.d _) (.cons (.d _) .nil)))))) rfl rfl rfl) rfl <| RunA.eff rfl rfl rfl (Qi YG rfl rfl rfl rfl (W1 rfl) rfl) rfl ?_
  refine RunA.nil ⟨[_], ⟨⟨_, _, rfl, rfl, _, _, rfl, rfl, rfl, .inl ⟨rfl, _, (Qi YG rfl rfl rfl rfl (W1 rfl) rfl), .inl ⟨rfl, 4, _, rfl, rfl, rfl⟩⟩⟩, ⟨⟨_, _, rfl, rfl, _, _, rfl, rfl, rfl, .inl ⟨rfl, _, (Q5 (RO.indexP Ym rfl rfl rfl (lt_H (α := Tm) s2.2))), .inr ⟨rfl, rfl⟩⟩⟩, ⟨⟨_, _, rfl, rfl, _, _, rfl, rfl, rfl, .inl ⟨rfl, _, (OpOK.storeH (α := Tm) (l := s2.2) (y' := .agg [Wg x18.ty.kind, Wg x18.ty.index, YK x18.ty.name, We x18.ty.levels, We x18.ty.kids]) x18.ty JH rfl rfl (.agg (.cons (.d _) (.cons (.d _) (.cons (.d _) (.cons (.d _) (.cons (.d _) .nil)))))) rfl rfl rfl), .inl ⟨rfl, 3, _, rfl, rfl, rfl⟩⟩⟩, trivial⟩⟩⟩, _, _, rfl, ?_⟩
  refine JT (st' := ⟨[(1, .v (.one (.ptr 4 0))), (3, .v (.one (.ptr 6 0))), (39, .v (.one (We a0.funs))), (40, .v (.one (Wg (a0.funs.length : Int)))), (41, .v (.one (Wg s2.1)))], [(0, .cells 48 (Wj a0)), (1, .mp (QJ o2.1) o2.2), (2, .cells 116 [.mp 1]), (3, .cells 23 [Wf]), (4, .cells 48 (Wj a0)), (6, .cells 40 [.apv 5 5 ((Enc.encL s2.2).length + 1) (Enc.encL s2.2)]), (7, .cells 89 (Wj x18))], [(5, some ⟨42, 5, (Enc.encL s2.2).length + 1, (Enc.encL ([x18.ty] : List Tm)).flatten⟩)], 8, 54, []⟩) (Qh (XK rfl (XK rfl (XK rfl (XK rfl (XK rfl XJ))))) (W8 rfl (W8 rfl (W8 rfl (W8 rfl (W8 rfl (W8 rfl (W8 rfl W7))))))) (W4 rfl W3) rfl (Nat.le_trans hv1 (W1 rfl)) rfl rfl rfl (Wp rfl rfl (Wn rfl (Wp rfl rfl (Wp rfl rfl (Wp rfl rfl (Wp rfl rfl (Wp rfl rfl Wm))))))) rfl rfl) <| XQ.settleC (α := Tm) (b := 6) (off := 0) (l := s2.2) (l2 := [x18.ty]) rfl rfl rfl (n_H _ _) <| Qk <| Q1 <| Q0 <| XP rfl rfl rfl (Q4 rfl rfl rfl) <| XR rfl rfl rfl <| Q3 ?_
  have e := XN h2; subst e
  refine QD ((QW (s2.1 + 1)), (s2.2 ++ [x18.ty])) (Qh (XK rfl (XK rfl (XK rfl (XK rfl (XK rfl XJ))))) (W8 rfl (W8 rfl (W8 rfl (W8 rfl (W8 rfl (W8 rfl W7)))))) (W4 rfl W3) rfl (Nat.le_trans hv1 (W1 rfl)) rfl rfl rfl (Wp rfl rfl (Wn rfl (Wp rfl rfl (Wp rfl rfl (Wp rfl rfl (Wp rfl rfl Wm)))))) rfl rfl) ho2
  replace h2 := Qv c17 h2
  refine QN <| Qf <| Qf ?_
  have e := XN h2; subst e
  have e_ : _ = _ := ho2
  subst e_
  exact QF s2.2 (Qh (XK rfl (XK rfl XJ)) (W8 rfl (W8 rfl (W8 rfl (W8 rfl (W8 rfl (W8 rfl W7)))))) (W4 rfl W3) rfl (Nat.le_trans hv1 (W1 rfl)) rfl rfl rfl (Wp rfl rfl (Wn rfl (Wp rfl rfl (Wp rfl rfl (Wp rfl rfl (Wp rfl rfl Wm)))))) rfl rfl) h1
  intro o15 h1
  refine Qx <| Q1 <| Q2 <| Q0 <| XP rfl rfl rfl (RO.makeFunc2 rfl rfl) <| XS rfl rfl rfl <| Q3 <| Q1 <| Qw ?_
  have e := XN h1; subst e
  exact hQ1 _ _ _ (.inr rfl) rfl (Qh (XK rfl XJ) (W8 rfl (W8 rfl (W8 rfl (W8 rfl (W8 rfl (W8 rfl W7)))))) (W4 rfl W3) rfl (Nat.le_trans hv1 (W1 rfl)) rfl rfl rfl (Wp rfl rfl (Wn rfl (Wp rfl rfl (Wp rfl rfl (Wp rfl rfl (Wp rfl rfl Wm)))))) rfl rfl)
 refine Q9 rfl rfl (W1 rfl) (QP rfl rfl rfl hc7 rfl (W8 rfl (W8 rfl (W8 rfl (W8 rfl W7)))) W3) <| Q3 <| Q1 <| Qd <| YH (i := 3) (off := 0) 9 1 rfl rfl <| XC.less (st' := ⟨[(3, .v (.one (.ptr 2 0))), (6, .v (.one (.ptr 3 0))), (20, .v (.one (.fn 73 [(6, 0), (4, 0)])))], [(0, .cells 48 (Wj a0)), (1, .mp (QJ o2.1) o2.2), (2, .cells 116 [.mp 1]), (3, .cells 23 [Wi 7 ([] : List Wy)]), (4, .cells 48 (Wj a0)), (6, .cells 40 [Wi 5 y6])], [(5, some ⟨42, 5, (Enc.encL y6).length, []⟩), (7, some ⟨9, 1, (Enc.encL ([] : List Wy)).length, []⟩)], 8, 33, []⟩) (Qh (XK rfl (XK rfl (XK rfl XJ))) (W8 rfl (W8 rfl (W8 rfl (W8 rfl (W8 rfl (W8 rfl W7)))))) (W4 rfl (W4 rfl W3)) rfl (Nat.zero_le _) rfl rfl rfl (Wp rfl rfl (Wn rfl (Wp rfl rfl (Wp rfl rfl (Wp rfl rfl (Wp rfl rfl Wm)))))) rfl rfl) ?_
 refine Qb h0 (fun y20 h1 h0 => ?_)
 have hc21 : CallM Try.prog 73 [.one (.yld 9), .one (.ptr 6 0), .one (.ptr 4 0)] ⟨[(9, .loop .ready none [(3, .v (.one (.ptr 2 0))), (6, .v (.one (.ptr 3 0))), (20, .v (.one (.fn 73 [(6, 0), (4, 0)])))] 33 #[21] J0 QZ 8), (8, .obj (.deferred (some []))), (0, .cells 48 (Wj a0)), (1, .mp (QJ o2.1) o2.2), (2, .cells 116 [.mp 1]), (3, .cells 23 [Wi 7 ([] : List Wy)]), (4, .cells 48 (Wj a0)), (6, .cells 40 [Wi 5 y6])], [(5, some ⟨42, 5, (Enc.encL y6).length, []⟩), (7, some ⟨9, 1, (Enc.encL ([] : List Wy)).length, []⟩)], 10⟩ (Qr []) ⟨[(0, .cells 48 (Wj a0)), (1, .mp (QJ y20.1.1) y20.1.2), (2, .cells 116 [.mp 1]), (3, .cells 23 [Wi 7 y20.2]), (4, .cells 48 (Wj a0)), (6, .cells 40 [Wi 5 y6]), (8, .obj (.deferred (some []))), (9, .loop .ready none [(3, .v (.one (.ptr 2 0))), (6, .v (.one (.ptr 3 0))), (20, .v (.one (.fn 73 [(6, 0), (4, 0)])))] 33 #[21] J0 QZ 8)], [(5, some ⟨42, 5, (Enc.encL y6).length, []⟩), (7, some ⟨9, 1, (Enc.encL y20.2).length, []⟩)], 10⟩ := by
  refine QM ⟨[], [(0, .cells 48 (Wj a0)), (1, .mp (QJ y20.1.1) y20.1.2), (2, .cells 116 [.mp 1]), (3, .cells 23 [Wi 7 y20.2]), (4, .cells 48 (Wj a0)), (6, .cells 40 [Wi 5 y6]), (8, .obj (.deferred (some []))), (9, .loop .ready none [(3, .v (.one (.ptr 2 0))), (6, .v (.one (.ptr 3 0))), (20, .v (.one (.fn 73 [(6, 0), (4, 0)])))] 33 #[21] J0 QZ 8)], [(5, some ⟨42, 5, (Enc.encL y6).length, []⟩), (7, some ⟨9, 1, (Enc.encL y20.2).length, []⟩)], 10, 42, []⟩ rfl rfl en_73 (W1 rfl) rfl .nil (fun w0 M V0 Q hv1 hQ1 => ?_)
  simp only [Jc]
  refine Q2 <| Q2 <| Q0 <| XP rfl rfl rfl (Q7 YG rfl rfl rfl) <| XP rfl rfl rfl (Qy (α := Tm) Ym rfl (.app _ _)) <| XR rfl rfl rfl <| Q3 <| Q1 <| Qd ?_
  refine QI 0 (fun (o22 : (Qc Wy Bool) × (List Wy)) => ⟨[(0, .v (.one (.yld 9))), (2, .v (.one (.ptr 4 0)))], [(0, .cells 48 (Wj a0)), (1, .mp (QJ o22.1.1) o22.1.2), (2, .cells 116 [.mp 1]), (3, .cells 23 [Wi 7 o22.2]), (4, .cells 48 (Wj a0)), (6, .cells 40 [Wi 5 y6]), (8, .obj (.deferred (some []))), (9, .loop .ready none [(3, .v (.one (.ptr 2 0))), (6, .v (.one (.ptr 3 0))), (20, .v (.one (.fn 73 [(6, 0), (4, 0)])))] 33 #[21] J0 QZ 8)], [(5, some ⟨42, 5, (Enc.encL y6).length, []⟩), (7, some ⟨9, 1, (Enc.encL o22.2).length, []⟩)], 10, 42, []⟩) (fun (o22 : (Qc Wy Bool) × (List Wy)) => (Option.bind (Qo (Ki a0 y6) QB (0, o22.1, o22.2)) (Sum.elim (fun (o23 : (Qc Wy Bool) × (List Wy)) => some (o23.1, o23.2)) (fun o => some o))) = some y20) ?_ ?_
  refine Qb h1 (fun o23 hl2 h1 => ?_)
  refine QH (KG y6) (fun s2 => ⟨[(0, .v (.one (.yld 9))), (2, .v (.one (.ptr 4 0))), (10, .v (.one (Wi 5 y6))), (11, .v (.one (Wg (y6.length : Int)))), (12, .v (.one (Wg s2.1)))], [(0, .cells 48 (Wj a0)), (1, .mp (QJ s2.2.1.1) s2.2.1.2), (2, .cells 116 [.mp 1]), (3, .cells 23 [Wi 7 s2.2.2]), (4, .cells 48 (Wj a0)), (6, .cells 40 [Wi 5 y6]), (8, .obj (.deferred (some []))), (9, .loop .ready none [(3, .v (.one (.ptr 2 0))), (6, .v (.one (.ptr 3 0))), (20, .v (.one (.fn 73 [(6, 0), (4, 0)])))] 33 #[21] J0 QZ 8)], [(5, some ⟨42, 5, (Enc.encL y6).length, []⟩), (7, some ⟨9, 1, (Enc.encL s2.2.2).length, []⟩)], 10, 42, []⟩) (0, o2, []) o23 (Qh (XK rfl (XK rfl (XK rfl (XK rfl (XK rfl XJ))))) (W8 rfl (W8 rfl (W8 rfl (W8 rfl (W8 rfl (W8 rfl (W8 rfl (W8 rfl W7)))))))) (W4 rfl (W4 rfl W3)) rfl (Nat.le_trans hv1 (W1 rfl)) rfl rfl rfl (Wp rfl rfl (Wn rfl (Wp rfl rfl (Wp rfl rfl (Wp rfl rfl (Wp rfl rfl (Wp rfl rfl (Wp rfl rfl Wm)))))))) rfl rfl) hl2 (fun s2 n2 oo2 h2 ho2 => ?_)
  unfold KG at h2
  refine Q2 <| Q0 <| XP rfl rfl rfl (Q4 rfl rfl rfl) <| Q3 <| Q1 <| Q2 ?_
  refine Qg (b := (decide (s2.1 < (y6.length : Int)))) rfl (fun c24 => ?_) (fun c24 => ?_)
  replace h2 := Qu c24 h2
  refine Qj <| Q1 <| Q2 <| Qd <| Q2 <| Q0 ?_
  refine Qb h2 (fun x25 hx25 h2 => ?_)
  refine XP rfl rfl rfl (Qq (α := Tm) Ym rfl (.app _ _) rfl hx25) <| XP rfl rfl rfl (Jm JH rfl rfl rfl) <| Q9 rfl rfl (W1 rfl) (Ql GT rfl) <| QA rfl rfl (Qi JH rfl rfl rfl rfl (W1 rfl) rfl) <| Q3 <| Q1 <| Q2 <| Q0 <| XP rfl rfl rfl (Qz JH rfl rfl rfl rfl) ?_
  refine Qb h2 (fun x26 hx26 h2 => ?_)
  refine Q9 rfl rfl (W1 rfl) (Qt (m74_ok x25 x26 hx26) rfl (.cons (.agg (.cons (.d _) (.cons (.d _) (.cons (.d _) (.cons (.d _) (.cons (.d _) .nil)))))) .nil)) <| XP rfl rfl rfl (Qy (α := Wy) QQ rfl (.d _)) <| XR rfl rfl rfl <| Q3 <| Q1 <| Qd ?_
  refine QI 2 (fun (o27 : (Qc Wy Bool) × (List Wy)) => ⟨[(0, .v (.one (.yld 9))), (2, .v (.one (.ptr 4 0))), (10, .v (.one (Wi 5 y6))), (11, .v (.one (Wg (y6.length : Int)))), (12, .v (.one (Wg s2.1)))], [(0, .cells 48 (Wj a0)), (1, .mp (QJ o27.1.1) o27.1.2), (2, .cells 116 [.mp 1]), (3, .cells 23 [Wi 7 o27.2]), (4, .cells 48 (Wj a0)), (6, .cells 40 [Wi 5 y6]), (8, .obj (.deferred (some []))), (9, .loop .ready none [(3, .v (.one (.ptr 2 0))), (6, .v (.one (.ptr 3 0))), (20, .v (.one (.fn 73 [(6, 0), (4, 0)])))] 33 #[21] J0 QZ 8), (10, .cells 42 (Wj x25))], [(5, some ⟨42, 5, (Enc.encL y6).length, []⟩), (7, some ⟨9, 1, (Enc.encL o27.2).length, []⟩)], 11, 42, []⟩) (fun (o27 : (Qc Wy Bool) × (List Wy)) => (some (.next ((QW (s2.1 + 1)), o27.1, o27.2))) = some oo2) ?_ ?_
  refine Qb h2 (fun o28 hl3 h2 => ?_)
  refine QH (KH x26) (fun s3 => ⟨[(0, .v (.one (.yld 9))), (2, .v (.one (.ptr 4 0))), (10, .v (.one (Wi 5 y6))), (11, .v (.one (Wg (y6.length : Int)))), (12, .v (.one (Wg s2.1))), (17, .v (.one (We x26))), (18, .v (.one (Wg (x26.length : Int)))), (19, .v (.one (Wg s3.1)))], [(0, .cells 48 (Wj a0)), (1, .mp (QJ s3.2.1.1) s3.2.1.2), (2, .cells 116 [.mp 1]), (3, .cells 23 [Wi 7 s3.2.2]), (4, .cells 48 (Wj a0)), (6, .cells 40 [Wi 5 y6]), (8, .obj (.deferred (some []))), (9, .loop .ready none [(3, .v (.one (.ptr 2 0))), (6, .v (.one (.ptr 3 0))), (20, .v (.one (.fn 73 [(6, 0), (4, 0)])))] 33 #[21] J0 QZ 8), (10, .cells 42 (Wj x25))], [(5, some ⟨42, 5, (Enc.encL y6).length, []⟩), (7, some ⟨9, 1, (Enc.encL s3.2.2).length, []⟩)], 11, 42, []⟩) (0, s2.2.1, s2.2.2) o28 (Qh (XK rfl (XK rfl (XK rfl (XK rfl (XK rfl (XK rfl (XK rfl (XK rfl XJ)))))))) (W8 rfl (W8 rfl (W8 rfl (W8 rfl (W8 rfl (W8 rfl (W8 rfl (W8 rfl (W8 rfl W7))))))))) (W4 rfl (W4 rfl W3)) rfl (Nat.le_trans hv1 (W1 rfl)) rfl rfl rfl (Wp rfl rfl (Wn rfl (Wp rfl rfl (Wp rfl rfl (Wp rfl rfl (Wp rfl rfl (Wp rfl rfl (Wp rfl rfl (Wp rfl rfl Wm))))))))) rfl rfl) hl3 (fun s3 n3 oo3 h3 ho3 => ?_)
  unfold KH at h3
  refine Q2 <| Q0 <| XP rfl rfl rfl (Q4 rfl rfl rfl) <| Q3 <| Q1 <| Q2 ?_
  refine Qg (b := (decide (s3.1 < (x26.length : Int)))) rfl (fun c29 => ?_) (fun c29 => ?_)
  replace h3 := Qu c29 h3
  refine Qj <| Q1 <| Q2 <| Qd <| Q2 <| Q0 ?_
  refine Qb h3 (fun x30 hx30 h3 => ?_)
  refine XP rfl rfl rfl (Qq (α := Wy) QQ rfl (.d _) rfl hx30) <| XP rfl rfl rfl (QK Y6 rfl rfl) <| XS rfl rfl rfl <| Q3 <| Q1 <| Q2 <| Q0 <| XR rfl rfl rfl <| XR rfl rfl rfl ?_
  refine Qb h3 (fun y31 h4 h3 => ?_)
  have ha32 : ExecOK Try.prog (some 9) J0 ⟨[(3, .v (.one (.ptr 2 0))), (6, .v (.one (.ptr 3 0))), (20, .v (.one (.fn 73 [(6, 0), (4, 0)]))), (21, .v (.one (YK x30)))], [(0, .cells 48 (Wj a0)), (1, .mp (QJ s3.2.1.1) s3.2.1.2), (2, .cells 116 [.mp 1]), (3, .cells 23 [Wi 7 s3.2.2]), (4, .cells 48 (Wj a0)), (6, .cells 40 [Wi 5 y6]), (8, .obj (.deferred (some []))), (9, .loop .ready none [(3, .v (.one (.ptr 2 0))), (6, .v (.one (.ptr 3 0))), (20, .v (.one (.fn 73 [(6, 0), (4, 0)])))] 33 #[21] J0 QZ 8), (10, .cells 42 (Wj x25))], [(5, some ⟨42, 5, (Enc.encL y6).length, []⟩), (7, some ⟨9, 1, (Enc.encL s3.2.2).length, []⟩)], 11, 33, []⟩ .normal ⟨[(3, .v (.one (.ptr 2 0))), (6, .v (.one (.ptr 3 0))), (7, .v (.one (YK x30)))], [(0, .cells 48 (Wj a0)), (1, .mp (QJ s3.2.1.1) s3.2.1.2), (2, .cells 116 [.mp 1]), (3, .cells 23 [Wi 7 s3.2.2]), (4, .cells 48 (Wj a0)), (6, .cells 40 [Wi 5 y6]), (8, .obj (.deferred (some []))), (9, .loop .ready none [(3, .v (.one (.ptr 2 0))), (6, .v (.one (.ptr 3 0))), (20, .v (.one (.fn 73 [(6, 0), (4, 0)])))] 33 #[21] J0 QZ 8), (10, .cells 42 (Wj x25))], [(5, some ⟨42, 5, (Enc.encL y6).length, []⟩), (7, some ⟨9, 1, (Enc.encL s3.2.2).length, []⟩)], 11, 33, []⟩ := by
   refine Yi (fun w0 M V0 ro n Q hv4 hro4 hQn4 => ?_)
   refine Q0 <| XS rfl rfl rfl <| Q3 ?_
   exact Kf hQn4 (Qh (XK rfl (XK rfl (XK rfl XJ))) (W8 rfl (W8 rfl (W8 rfl (W8 rfl (W8 rfl (W8 rfl (W8 rfl (W8 rfl (W8 rfl W7))))))))) (W4 rfl (W4 rfl W3)) rfl (Nat.le_trans hv4 (W1 rfl)) rfl rfl rfl (Wp rfl rfl (Wn rfl (Wp rfl rfl (Wp rfl rfl (Wp rfl rfl (Wp rfl rfl (Wp rfl rfl (Wp rfl rfl (Wp rfl rfl Wm))))))))) rfl rfl)
  have hb33 : ExecOK Try.prog (some 9) QZ ⟨[(3, .v (.one (.ptr 2 0))), (6, .v (.one (.ptr 3 0))), (7, .v (.one (YK x30)))], [(0, .cells 48 (Wj a0)), (1, .mp (QJ s3.2.1.1) s3.2.1.2), (2, .cells 116 [.mp 1]), (3, .cells 23 [Wi 7 s3.2.2]), (4, .cells 48 (Wj a0)), (6, .cells 40 [Wi 5 y6]), (8, .obj (.deferred (some []))), (9, .loop .busy none [(3, .v (.one (.ptr 2 0))), (6, .v (.one (.ptr 3 0))), (20, .v (.one (.fn 73 [(6, 0), (4, 0)])))] 33 #[21] J0 QZ 8), (10, .cells 42 (Wj x25))], [(5, some ⟨42, 5, (Enc.encL y6).length, []⟩), (7, some ⟨9, 1, (Enc.encL s3.2.2).length, []⟩)], 11, 33, []⟩ .normal ⟨[], [(0, .cells 48 (Wj a0)), (1, .mp (QJ y31.1.1) y31.1.2), (2, .cells 116 [.mp 1]), (3, .cells 23 [Wi 7 y31.2]), (4, .cells 48 (Wj a0)), (6, .cells 40 [Wi 5 y6]), (8, .obj (.deferred (some []))), (9, .loop .busy none [(3, .v (.one (.ptr 2 0))), (6, .v (.one (.ptr 3 0))), (20, .v (.one (.fn 73 [(6, 0), (4, 0)])))] 33 #[21] J0 QZ 8), (10, .cells 42 (Wj x25))], [(5, some ⟨42, 5, (Enc.encL y6).length, []⟩), (7, some ⟨9, 1, (Enc.encL y31.2).length, []⟩)], 11, 33, []⟩ := by
   refine Yi (fun w0 M V0 ro n Q hv4 hro4 hQn4 => ?_)
   refine Qd <| Q2 <| Q0 <| XP rfl rfl rfl (Q7 Zw rfl rfl rfl) <| XR rfl rfl rfl <| XP rfl rfl rfl (RO.lookupGF (M := s3.2.1) (k := x30) K3 zok_bool rfl rfl rfl) <| XP rfl rfl rfl (Jp rfl) <| Q3 <| Q1 ?_
   refine Qg (b := (!(J7 s3.2.1 x30))) rfl (fun c34 => ?_) (fun c34 => ?_)
   replace h4 := Qu c34 h4
   refine Q2 <| Q0 <| XP rfl rfl rfl (Q7 Zw rfl rfl rfl) <| XR rfl rfl rfl <| QA rfl rfl (JI (M := s3.2.1) (k := x30) (v := true) K3 rfl rfl rfl rfl rfl) <| Q3 <| Q1 <| Q0 <| XP rfl rfl rfl (Q7 ZC rfl rfl rfl) <| XR rfl rfl rfl <| Q9 rfl rfl (W1 rfl) (QY (α := Wy) (x30) QQ GY rfl rfl (W1 rfl) (W1 rfl) rfl rfl (.cons (.d _) .nil) rfl) ?_
   refine QO h4 (fun g35 h4 => ?_)
   refine Q9 rfl rfl (W1 rfl) (QU (α := Wy) QQ G7 rfl rfl rfl rfl rfl (.app _ _) g35) <| QA rfl rfl (Qi ZC rfl rfl rfl rfl (W1 rfl) rfl) <| Q3 <| Qk ?_
   have e := XN h4; subst e
   exact Kf hQn4 (Qh XJ (W8 rfl (W8 rfl (W8 rfl (W8 rfl (W8 rfl (W8 rfl (W8 rfl (W8 rfl (W8 rfl W7))))))))) (W4 rfl (W4 rfl W3)) rfl (Nat.le_trans hv4 (W1 rfl)) rfl rfl rfl (Wp rfl rfl (Wn rfl (Wp rfl rfl (Wp rfl rfl (Wp rfl rfl (Wp rfl rfl (Wp rfl rfl (Wp rfl rfl (Wp rfl rfl Wm))))))))) rfl rfl)
   replace h4 := Qv c34 h4
   refine Qj <| Qk ?_
   have e := XN h4; subst e
   exact Kf hQn4 (Qh XJ (W8 rfl (W8 rfl (W8 rfl (W8 rfl (W8 rfl (W8 rfl (W8 rfl (W8 rfl (W8 rfl W7))))))))) (W4 rfl (W4 rfl W3)) rfl (Nat.le_trans hv4 (W1 rfl)) rfl rfl rfl (Wp rfl rfl (Wn rfl (Wp rfl rfl (Wp rfl rfl (Wp rfl rfl (Wp rfl rfl (Wp rfl rfl (Wp rfl rfl (Wp rfl rfl Wm))))))))) rfl rfl)
  refine Q9 rfl rfl (W1 rfl) (OpOK.yield (jump := none) rfl rfl rfl rfl rfl (Yj ha32 (fun E hv => (Qh (XK rfl (XK rfl (XK rfl (XK rfl XJ)))) (W8 rfl (W8 rfl (W8 rfl (W8 rfl (W8 rfl (W8 rfl (W8 rfl (W8 rfl (W8 rfl W7))))))))) (W4 rfl (W4 rfl W3)) rfl (Nat.le_trans hv (W1 rfl)) rfl rfl rfl (Wp rfl rfl (Wn rfl (Wp rfl rfl (Wp rfl rfl (Wp rfl rfl (Wp rfl rfl (Wp rfl rfl (Wp rfl rfl (Wp rfl rfl Wm))))))))) rfl rfl))) rfl (Yj hb33 (fun E hv => (Qh (XK rfl (XK rfl (XK rfl XJ))) (W8 rfl (W8 rfl (W8 rfl (W8 rfl (W8 rfl (W8 rfl (W8 rfl (W8 rfl (W8 rfl W7))))))))) (W4 rfl (W4 rfl W3)) rfl (Nat.le_trans hv (W1 rfl)) rfl rfl rfl (Wp rfl rfl (Wn rfl (Wp rfl rfl (Wp rfl rfl (Wp rfl rfl (Wp rfl rfl (Wp rfl rfl (Wp rfl rfl (Wp rfl rfl Wm))))))))) rfl rfl))) rfl rfl) ?_
  refine XP rfl rfl rfl (Jp rfl) <| Q3 <| Q1 ?_
  refine Qg rfl (fun h => nomatch h) (fun _ => ?_)
  refine Qj <| Qk <| Q1 <| Q0 <| XP rfl rfl rfl (Q4 rfl rfl rfl) <| XR rfl rfl rfl <| Q3 ?_
  have e := XN h3; subst e
  refine QD ((QW (s3.1 + 1)), y31.1, y31.2) (Qh (XK rfl (XK rfl (XK rfl (XK rfl (XK rfl (XK rfl (XK rfl (XK rfl XJ)))))))) (W8 rfl (W8 rfl (W8 rfl (W8 rfl (W8 rfl (W8 rfl (W8 rfl (W8 rfl (W8 rfl W7))))))))) (W4 rfl (W4 rfl W3)) rfl (Nat.le_trans hv1 (W1 rfl)) rfl rfl rfl (Wp rfl rfl (Wn rfl (Wp rfl rfl (Wp rfl rfl (Wp rfl rfl (Wp rfl rfl (Wp rfl rfl (Wp rfl rfl (Wp rfl rfl Wm))))))))) rfl rfl) ho3
  replace h3 := Qv c29 h3
  refine QN <| Qf <| Qf ?_
  have e := XN h3; subst e
  have e_ : _ = _ := ho3
  subst e_
  exact QF (s3.2.1, s3.2.2) (Qh (XK rfl (XK rfl (XK rfl (XK rfl (XK rfl XJ))))) (W8 rfl (W8 rfl (W8 rfl (W8 rfl (W8 rfl (W8 rfl (W8 rfl (W8 rfl (W8 rfl W7))))))))) (W4 rfl (W4 rfl W3)) rfl (Nat.le_trans hv1 (W1 rfl)) rfl rfl rfl (Wp rfl rfl (Wn rfl (Wp rfl rfl (Wp rfl rfl (Wp rfl rfl (Wp rfl rfl (Wp rfl rfl (Wp rfl rfl (Wp rfl rfl Wm))))))))) rfl rfl) h2
  intro o27 h2
  refine Qx <| Qk <| Q1 <| Q0 <| XP rfl rfl rfl (Q4 rfl rfl rfl) <| XR rfl rfl rfl <| Q3 ?_
  have e := XN h2; subst e
  refine QD ((QW (s2.1 + 1)), o27.1, o27.2) (Qh (XK rfl (XK rfl (XK rfl (XK rfl (XK rfl XJ))))) (W8 rfl (W8 rfl (W8 rfl (W8 rfl (W8 rfl (W8 rfl (W8 rfl (W8 rfl W7)))))))) (W4 rfl (W4 rfl W3)) rfl (Nat.le_trans hv1 (W1 rfl)) rfl rfl rfl (Wp rfl rfl (Wn rfl (Wp rfl rfl (Wp rfl rfl (Wp rfl rfl (Wp rfl rfl (Wp rfl rfl (Wp rfl rfl Wm)))))))) rfl rfl) ho2
  replace h2 := Qv c24 h2
  refine QN <| Qf <| Qf ?_
  have e := XN h2; subst e
  have e_ : _ = _ := ho2
  subst e_
  exact QF (s2.2.1, s2.2.2) (Qh (XK rfl (XK rfl XJ)) (W8 rfl (W8 rfl (W8 rfl (W8 rfl (W8 rfl (W8 rfl (W8 rfl (W8 rfl W7)))))))) (W4 rfl (W4 rfl W3)) rfl (Nat.le_trans hv1 (W1 rfl)) rfl rfl rfl (Wp rfl rfl (Wn rfl (Wp rfl rfl (Wp rfl rfl (Wp rfl rfl (Wp rfl rfl (Wp rfl rfl (Wp rfl rfl Wm)))))))) rfl rfl) h1
  intro o22 h1
  refine Qx <| Q1 <| Q2 <| Q0 <| XP rfl rfl rfl (Q8 YY rfl) <| XP rfl rfl rfl (Q7 KE rfl rfl rfl) <| XP rfl rfl rfl (Qy (α := Fn) ZK rfl (.d _)) <| XR rfl rfl rfl <| Q3 <| Q1 <| Qd ?_
  refine QI 4 (fun (o36 : (Qc Wy Bool) × (List Wy)) => ⟨[], [(0, .cells 48 (Wj a0)), (1, .mp (QJ o36.1.1) o36.1.2), (2, .cells 116 [.mp 1]), (3, .cells 23 [Wi 7 o36.2]), (4, .cells 48 (Wj a0)), (6, .cells 40 [Wi 5 y6]), (8, .obj (.deferred (some []))), (9, .loop .ready none [(3, .v (.one (.ptr 2 0))), (6, .v (.one (.ptr 3 0))), (20, .v (.one (.fn 73 [(6, 0), (4, 0)])))] 33 #[21] J0 QZ 8)], [(5, some ⟨42, 5, (Enc.encL y6).length, []⟩), (7, some ⟨9, 1, (Enc.encL o36.2).length, []⟩)], 10, 42, []⟩) (fun (o36 : (Qc Wy Bool) × (List Wy)) => (some (o36.1, o36.2)) = some y20) ?_ ?_
  refine Qb h1 (fun o37 hl2 h1 => ?_)
  refine QH (Ki a0 y6) (fun s2 => ⟨[(0, .v (.one (.yld 9))), (30, .v (.one (We a0.funs))), (31, .v (.one (Wg (a0.funs.length : Int)))), (32, .v (.one (Wg s2.1)))], [(0, .cells 48 (Wj a0)), (1, .mp (QJ s2.2.1.1) s2.2.1.2), (2, .cells 116 [.mp 1]), (3, .cells 23 [Wi 7 s2.2.2]), (4, .cells 48 (Wj a0)), (6, .cells 40 [Wi 5 y6]), (8, .obj (.deferred (some []))), (9, .loop .ready none [(3, .v (.one (.ptr 2 0))), (6, .v (.one (.ptr 3 0))), (20, .v (.one (.fn 73 [(6, 0), (4, 0)])))] 33 #[21] J0 QZ 8)], [(5, some ⟨42, 5, (Enc.encL y6).length, []⟩), (7, some ⟨9, 1, (Enc.encL s2.2.2).length, []⟩)], 10, 42, []⟩) (0, o22.1, o22.2) o37 (Qh (XK rfl (XK rfl (XK rfl (XK rfl XJ)))) (W8 rfl (W8 rfl (W8 rfl (W8 rfl (W8 rfl (W8 rfl (W8 rfl (W8 rfl W7)))))))) (W4 rfl (W4 rfl W3)) rfl (Nat.le_trans hv1 (W1 rfl)) rfl rfl rfl (Wp rfl rfl (Wn rfl (Wp rfl rfl (Wp rfl rfl (Wp rfl rfl (Wp rfl rfl (Wp rfl rfl (Wp rfl rfl Wm)))))))) rfl rfl) hl2 (fun s2 n2 oo2 h2 ho2 => ?_)
  unfold Ki at h2
  refine Q2 <| Q0 <| XP rfl rfl rfl (Q4 rfl rfl rfl) <| Q3 <| Q1 <| Q2 ?_
  refine Qg (b := (decide (s2.1 < (a0.funs.length : Int)))) rfl (fun c38 => ?_) (fun c38 => ?_)
  replace h2 := Qu c38 h2
  refine Qj <| Q1 <| Q2 <| Qd <| Q2 <| Q0 ?_
  refine Qb h2 (fun x39 hx39 h2 => ?_)
  refine XP rfl rfl rfl (Qq (α := Fn) ZK rfl (.d _) rfl hx39) <| XP rfl rfl rfl (Jm GS rfl rfl rfl) <| Q9 rfl rfl (W1 rfl) (Ql z_89 rfl) <| QA rfl rfl (Qi GS rfl rfl rfl rfl (W1 rfl) rfl) <| Q3 <| Q1 <| Q2 <| Q0 <| XP rfl rfl rfl (Q8 fo_89_3 rfl) <| XP rfl rfl rfl (Qz ag_87 rfl rfl rfl rfl) <| XR rfl rfl rfl ?_
  refine Qb h2 (fun x40 hx40 h2 => ?_)
  refine Q9 rfl rfl (W1 rfl) (QS (hp1' := [(9, .loop .ready none [(3, .v (.one (.ptr 2 0))), (6, .v (.one (.ptr 3 0))), (20, .v (.one (.fn 73 [(6, 0), (4, 0)])))] 33 #[21] J0 QZ 8), (8, .obj (.deferred (some []))), (2, .cells 116 [.mp 1]), (1, .mp (QJ x40.2.1.1) x40.2.1.2), (3, .cells 23 [Wi 7 x40.2.2]), (6, .cells 40 [Wi 5 y6]), (4, .cells 48 (Wj a0))]) (tk1' := [(7, some ⟨9, 1, (Enc.encL x40.2.2).length, []⟩), (5, some ⟨42, 5, (Enc.encL y6).length, []⟩)]) (hpF := [(0, .cells 48 (Wj a0)), (10, .cells 89 (Wj x39))]) (tkF := []) (res2 := Qr [.one (Wh x40.1)]) (nx2 := 13) [9, 8, 2, 1, 3, 7, 6, 5, 4] rfl rfl (m75f1_ok x39.tree s2.2.1 s2.2.2 y6 a0 x40 hx40) rfl rfl (XW rfl rfl (XW rfl rfl (XW rfl rfl (XU rfl (XW rfl rfl (XW rfl rfl (XW rfl rfl XT))))))) rfl rfl (Wb rfl (Wb rfl (Wb rfl (Wc rfl (Wb rfl (Wb rfl (Wb rfl Wa))))))) (W6 rfl (W6 rfl W5)) (W8 rfl (W8 rfl W7)) W3 rfl rfl rfl rfl rfl (Wp rfl rfl (Wp rfl rfl (Wp rfl rfl (Wn rfl (Wp rfl rfl (Wp rfl rfl (Wp rfl rfl Wm))))))) rfl rfl rfl rfl) <| XP rfl rfl rfl (Jp rfl) <| Q3 <| Q1 ?_
  refine Qg (b := (!x40.1)) rfl (fun c41 => ?_) (fun c41 => ?_)
  replace h2 := Qu c41 h2
  refine Qw ?_
  have e := XN h2; subst e
  have e_ : _ = _ := ho2
  subst e_
  try dsimp only [Sum.elim_inl, Sum.elim_inr] at h1
  have e := XN h1; subst e
  exact hQ1 _ _ _ (.inr rfl) rfl (Qh XJ (W8 rfl (W8 rfl (W8 rfl (W8 rfl (W8 rfl (W8 rfl (W8 rfl (W8 rfl W7)))))))) (W4 rfl (W4 rfl W3)) rfl (Nat.le_trans hv1 (W1 rfl)) rfl rfl rfl (Wp rfl rfl (Wn rfl (Wp rfl rfl (Wp rfl rfl (Wp rfl rfl (Wp rfl rfl (Wp rfl rfl (Wp rfl rfl Wm)))))))) rfl rfl)
  replace h2 := Qv c41 h2
  refine Qj <| Qk <| Q1 <| Q0 <| XP rfl rfl rfl (Q4 rfl rfl rfl) <| XR rfl rfl rfl <| Q3 ?_
  have e := XN h2; subst e
  refine QD ((QW (s2.1 + 1)), x40.2.1, x40.2.2) (Qh (XK rfl (XK rfl (XK rfl (XK rfl XJ)))) (W8 rfl (W8 rfl (W8 rfl (W8 rfl (W8 rfl (W8 rfl (W8 rfl (W8 rfl W7)))))))) (W4 rfl (W4 rfl W3)) rfl (Nat.le_trans hv1 (W1 rfl)) rfl rfl rfl (Wp rfl rfl (Wn rfl (Wp rfl rfl (Wp rfl rfl (Wp rfl rfl (Wp rfl rfl (Wp rfl rfl (Wp rfl rfl Wm)))))))) rfl rfl) ho2
  replace h2 := Qv c38 h2
  refine QN <| Qf <| Qf ?_
  have e := XN h2; subst e
  have e_ : _ = _ := ho2
  subst e_
  exact QF (s2.2.1, s2.2.2) (Qh XJ (W8 rfl (W8 rfl (W8 rfl (W8 rfl (W8 rfl (W8 rfl (W8 rfl (W8 rfl W7)))))))) (W4 rfl (W4 rfl W3)) rfl (Nat.le_trans hv1 (W1 rfl)) rfl rfl rfl (Wp rfl rfl (Wn rfl (Wp rfl rfl (Wp rfl rfl (Wp rfl rfl (Wp rfl rfl (Wp rfl rfl (Wp rfl rfl Wm)))))))) rfl rfl) h1
  intro o36 h1
  refine Qx ?_
  have e := XN h1; subst e
  exact hQ1 _ _ _ (.inl rfl) rfl (Qh XJ (W8 rfl (W8 rfl (W8 rfl (W8 rfl (W8 rfl (W8 rfl (W8 rfl (W8 rfl W7)))))))) (W4 rfl (W4 rfl W3)) rfl (Nat.le_trans hv1 (W1 rfl)) rfl rfl rfl (Wp rfl rfl (Wn rfl (Wp rfl rfl (Wp rfl rfl (Wp rfl rfl (Wp rfl rfl (Wp rfl rfl (Wp rfl rfl Wm)))))))) rfl rfl)
 refine XC.exec (rangeFunc_out (e := .normal) rfl hc21 rfl rfl (by intro h; cases h) rfl) rfl ?_
 refine Qk <| Q1 <| Q2 <| Q0 <| XP rfl rfl rfl (Q7 ZC rfl rfl rfl) <| XS rfl rfl rfl <| Q3 <| Q1 <| Qw ?_
 have e := XN h0; subst e
 exact QX (fun _ _ h => h) rfl (Qp rfl .nil) (.cons (.one (.app _ _ _)) .nil)
end Go.Proofs.Ytijcchddnnnmdaa
namespace Go.Proofs.Ytijcchddnnnmdaa
open Go.RowKit Go.Shelf
set_option linter.unusedSimpArgs false
set_option linter.unusedVariables false
theorem en_18 : J9 Try.prog 18 := enters_of Try.func18 (by kernel_rfl) rfl
def m61_l0 (a0 : List Wy) (a1 : Wy) (s1 : Int) : Option (LO Int (Unit ⊕ Bool)) :=
 cond (decide (s1 < (a0.length : Int)))
   (Option.bind (J1 a0 s1) fun (x3 : Wy) =>
 cond (x3 == a1)
   (some (.done (.inr true)))
   (some (.next (QW (s1 + 1)))))
   (some (.done (.inl ())))
def XI (a0 : List Wy) (a1 : Wy) : Option Bool :=
 Option.bind (Qo (m61_l0 a0 a1) QB 0) (Sum.elim (fun (o1 : Unit) => some false) (fun o => some o))
def m64_l0 (a0 : List Wy) (a1 : Wy) (s1 : Int) : Option (LO Int (Unit ⊕ Bool)) :=
 cond (decide (s1 < (a0.length : Int)))
   (Option.bind (J1 a0 s1) fun (x3 : Wy) =>
 cond (x3 == a1)
   (some (.done (.inr true)))
   (some (.next (QW (s1 + 1)))))
   (some (.done (.inl ())))
def m64 (a0 : List Wy) (a1 : Wy) : Option Bool :=
 Option.bind (Qo (m64_l0 a0 a1) QB 0) (Sum.elim (fun (o1 : Unit) => some false) (fun o => some o))
def KP (a0 : Dcl) (s1 : (List Wy) × Int) : Option (LO ((List Wy) × Int) (((List Wy)))) :=
 cond (decide (s1.2 < (a0.ctors.length : Int)))
   (Option.bind (J1 a0.ctors s1.2) fun (x6 : Ctr) =>
 Qm (Nat.ble (s1.1.length + ([x6.name]).length) 1000000000)
 (some (.next ((s1.1 ++ ([x6.name])), (QW (s1.2 + 1))))))
   (some (.done s1.1))
def KO (a0 : Dcl) (s1 : (List Wy) × Int) : Option (LO ((List Wy) × Int) (((List Wy)))) :=
 cond (decide (s1.2 < (a0.funs.length : Int)))
   (Option.bind (J1 a0.funs s1.2) fun (x14 : Fn) =>
 Qm (Nat.ble (s1.1.length + ([x14.name]).length) 1000000000)
 (some (.next ((s1.1 ++ ([x14.name])), (QW (s1.2 + 1))))))
   (some (.done s1.1))
def X9 (a0 : Dcl) : Option ((List Wy)) :=
 Option.bind (cond (a0.kind == 0)
   (some (a0.kind == 0))
   (cond (a0.kind == 1)
   (some (a0.kind == 1))
   (some (a0.kind == 2)))) (fun (v1 : Bool) => cond v1
   (some ([a0.name]))
   (cond (a0.kind == 3)
   (Option.bind (Qo (KP a0) QB ([a0.name], 0)) (fun (o4 : (List Wy)) => Qm (Nat.ble (a0.name.length + ([46, 114, 101, 99] : List UInt8).length) 1000000000)
 (Qm (Nat.ble (o4.length + ([(a0.name ++ ([46, 114, 101, 99] : List UInt8))]).length) 1000000000)
 (some (o4 ++ ([(a0.name ++ ([46, 114, 101, 99] : List UInt8))]))))))
   (cond (a0.kind == 4)
   (Option.bind (Qo (KO a0) QB (([] : List Wy), 0)) (fun (o12 : (List Wy)) => some o12))
   (some ([] : List Wy)))))
set_option maxRecDepth 100000 in
set_option maxHeartbeats 8000000 in
theorem GF (a0 : Dcl) (r : (List Wy)) (h0 : X9 a0 = some r) : Fun Try.prog 18 [.agg (Wj a0)] (Qr [.one (We r)]) := by
 unfold X9 at h0
 refine Jd 9 62 Try.func18 rfl en_18 rfl (W1 rfl) (fun S w => ?_)
 simp only [Jc]
 refine Q2 <| Q0 <| Q9 rfl rfl (W1 rfl) (Js rfl) <| XS rfl rfl rfl <| Q3 <| Q1 <| Q2 <| Q2 <| Q0 <| XP rfl rfl rfl (Q8 fo_48_0 rfl) <| XP rfl rfl rfl (Q7 Gb rfl rfl rfl) <| Q3 <| Q1 <| Qd ?_
 refine Q2 <| Q2 <| Q0 <| XP rfl rfl rfl (Q4 rfl rfl rfl) <| XS rfl rfl rfl <| Q3 <| Q1 ?_
 refine Jy (fun (v1 : Bool) => ⟨[(1, .v (.one (.ptr 0 0))), (8, .v (.one (Wg a0.kind))), (9, .v (.one (Wh v1)))], [(0, .cells 48 (Wj a0))], [], 1, 62, []⟩) (fun (v1 : Bool) => (cond v1
     (some ([a0.name]))
     (cond (a0.kind == 3)
     (Option.bind (Qo (KP a0) QB ([a0.name], 0)) (fun (o4 : (List Wy)) => Qm (Nat.ble (a0.name.length + ([46, 114, 101, 99] : List UInt8).length) 1000000000)
   (Qm (Nat.ble (o4.length + ([(a0.name ++ ([46, 114, 101, 99] : List UInt8))]).length) 1000000000)
   (some (o4 ++ ([(a0.name ++ ([46, 114, 101, 99] : List UInt8))]))))))
     (cond (a0.kind == 4)
     (Option.bind (Qo (KO a0) QB (([] : List Wy), 0)) (fun (o12 : (List Wy)) => some o12))
     (some ([] : List Wy))))) = some r) ?_ ?_
 refine Qb h0 (fun w1_ h1 h0 => ?_)
 refine Qg (b := (a0.kind == 0)) rfl (fun c2 => ?_) (fun c2 => ?_)
 replace h1 := Qu c2 h1
 refine Qj ?_
 have e := XN h1; subst e
 exact QG (a0.kind == 0) (Qh (XK rfl (XK rfl (XK rfl XJ))) (W8 rfl W7) W3 rfl (Nat.zero_le _) rfl rfl rfl (Wp rfl rfl Wm) rfl rfl) h0
 replace h1 := Qv c2 h1
 refine Q2 <| Q0 <| XP rfl rfl rfl (Q4 rfl rfl rfl) <| XS rfl rfl rfl <| Q3 <| Q1 ?_
 refine Qg (b := (a0.kind == 1)) rfl (fun c3 => ?_) (fun c3 => ?_)
 replace h1 := Qu c3 h1
 refine Qj ?_
 have e := XN h1; subst e
 exact QG (a0.kind == 1) (Qh (XK rfl (XK rfl (XK rfl XJ))) (W8 rfl W7) W3 rfl (Nat.zero_le _) rfl rfl rfl (Wp rfl rfl Wm) rfl rfl) h0
 replace h1 := Qv c3 h1
 refine Q0 <| XP rfl rfl rfl (Q4 rfl rfl rfl) <| XS rfl rfl rfl <| Q3 ?_
 have e := XN h1; subst e
 exact QG (a0.kind == 2) (Qh (XK rfl (XK rfl (XK rfl XJ))) (W8 rfl W7) W3 rfl (Nat.zero_le _) rfl rfl rfl (Wp rfl rfl Wm) rfl rfl) h0
 intro v1 h0
 refine Q1 ?_
 refine Qg (b := v1) rfl (fun c4 => ?_) (fun c4 => ?_)
 replace h0 := Qu c4 h0
 refine Q2 <| Q0 <| XP rfl rfl rfl (Q8 Za rfl) <| XP rfl rfl rfl (Q7 Y6 rfl rfl rfl) <| Q9 rfl rfl (W1 rfl) (QY (α := Wy) (a0.name) QQ GY rfl rfl (W1 rfl) (W1 rfl) rfl rfl (.cons (.d _) .nil) rfl) <| XS rfl rfl rfl <| Q3 <| Q1 <| Qw ?_
 have e := XN h0; subst e
 exact QX (fun _ _ h => h) rfl (Qp rfl .nil) (.cons (.one (.app _ _ _)) .nil)
 replace h0 := Qv c4 h0
 refine Q2 <| Q0 <| XP rfl rfl rfl (Q4 rfl rfl rfl) <| XS rfl rfl rfl <| Q3 <| Q1 ?_
 refine Qg (b := (a0.kind == 3)) rfl (fun c5 => ?_) (fun c5 => ?_)
 replace h0 := Qu c5 h0
 refine Q2 <| Q0 <| XP rfl rfl rfl (Q8 Za rfl) <| XP rfl rfl rfl (Q7 Y6 rfl rfl rfl) <| Q9 rfl rfl (W1 rfl) (QY (α := Wy) (a0.name) QQ GY rfl rfl (W1 rfl) (W1 rfl) rfl rfl (.cons (.d _) .nil) rfl) <| XS rfl rfl rfl <| Q3 <| Q1 <| Q2 <| Q2 <| Q0 <| XS rfl rfl rfl <| Q3 <| Q1 ?_
 refine Qd ?_
 refine QI 1 (fun (o6 : (List Wy)) => ⟨[(1, .v (.one (.ptr 0 0))), (3, .v (.one (Wi 1 o6)))], [(0, .cells 48 (Wj a0))], [(1, some ⟨9, 1, (Enc.encL o6).length, []⟩)], 2, 62, []⟩) (fun (o6 : (List Wy)) => (Qm (Nat.ble (a0.name.length + ([46, 114, 101, 99] : List UInt8).length) 1000000000)
   (Qm (Nat.ble (o6.length + ([(a0.name ++ ([46, 114, 101, 99] : List UInt8))]).length) 1000000000)
   (some (o6 ++ ([(a0.name ++ ([46, 114, 101, 99] : List UInt8))]))))) = some r) ?_ ?_
 refine Qb h0 (fun o7 hl1 h0 => ?_)
 refine QH (KP a0) (fun s1 => ⟨[(1, .v (.one (.ptr 0 0))), (3, .v (.one (Wi 1 s1.1))), (4, .v (.one (Wg s1.2)))], [(0, .cells 48 (Wj a0))], [(1, some ⟨9, 1, (Enc.encL s1.1).length, []⟩)], 2, 62, []⟩) ([a0.name], 0) o7 (Qh (XK rfl (XK rfl (XK rfl XJ))) (W8 rfl W7) (W4 rfl W3) rfl (Nat.zero_le _) rfl rfl rfl (Wp rfl rfl Wm) rfl rfl) hl1 (fun s1 n1 oo1 h1 ho1 => ?_)
 unfold KP at h1
 refine Q2 <| Q2 <| Q0 <| XR rfl rfl rfl <| XP rfl rfl rfl (Q8 ZA rfl) <| XP rfl rfl rfl (Q7 Gu rfl rfl rfl) <| XP rfl rfl rfl (Qy (α := Ctr) Kh rfl (.d _)) <| XP rfl rfl rfl (Q4 rfl rfl rfl) <| Q3 <| Q1 ?_
 refine Qg (b := (decide (s1.2 < (a0.ctors.length : Int)))) rfl (fun c8 => ?_) (fun c8 => ?_)
 replace h1 := Qu c8 h1
 refine Qj <| Q1 <| Q2 <| Qd <| Q0 <| XR rfl rfl rfl <| XP rfl rfl rfl (Q8 ZA rfl) <| XP rfl rfl rfl (Q7 Gu rfl rfl rfl) <| XR rfl rfl rfl ?_
 refine Qb h1 (fun x9 hx9 h1 => ?_)
 refine XP rfl rfl rfl (Qq (α := Ctr) Kh rfl (.d _) rfl hx9) <| XP rfl rfl rfl (JN fo_84_0 rfl) <| XP rfl rfl rfl (QK Y6 rfl rfl) <| Q9 rfl rfl (W1 rfl) (QY (α := Wy) (x9.name) QQ GY rfl rfl (W1 rfl) (W1 rfl) rfl rfl (.cons (.d _) .nil) rfl) ?_
 refine QO h1 (fun g10 h1 => ?_)
 refine Q9 rfl rfl (W1 rfl) (QU (α := Wy) QQ G7 rfl rfl rfl rfl rfl (.app _ _) g10) <| XS rfl rfl rfl <| Q3 <| Qk <| Q1 <| Q0 <| XR rfl rfl rfl <| XP rfl rfl rfl (Q4 rfl rfl rfl) <| XS rfl rfl rfl <| Q3 ?_
 have e := XN h1; subst e
 refine QD ((s1.1 ++ ([x9.name])), (QW (s1.2 + 1))) (Qh (XK rfl (XK rfl (XK rfl XJ))) (W8 rfl W7) (W4 rfl W3) rfl (Nat.zero_le _) rfl rfl rfl (Wp rfl rfl Wm) rfl rfl) ho1
 replace h1 := Qv c8 h1
 refine QN <| Qf <| Qf ?_
 have e := XN h1; subst e
 have e_ : _ = _ := ho1
 subst e_
 exact QF s1.1 (Qh (XK rfl (XK rfl XJ)) (W8 rfl W7) (W4 rfl W3) rfl (Nat.zero_le _) rfl rfl rfl (Wp rfl rfl Wm) rfl rfl) h0
 intro o6 h0
 refine Qx <| Q1 <| Q2 <| Q0 <| XR rfl rfl rfl <| XP rfl rfl rfl (Q8 Za rfl) <| XP rfl rfl rfl (Q7 Y6 rfl rfl rfl) ?_
 refine QO h0 (fun g11 h0 => ?_)
 refine XP rfl rfl rfl (RO.addS rfl rfl g11) <| Q9 rfl rfl (W1 rfl) (QY (α := Wy) ((a0.name ++ ([46, 114, 101, 99] : List UInt8))) QQ GY rfl rfl (W1 rfl) (W1 rfl) rfl rfl (.cons (.d _) .nil) rfl) ?_
 refine QO h0 (fun g12 h0 => ?_)
 refine Q9 rfl rfl (W1 rfl) (QU (α := Wy) QQ G7 rfl rfl rfl rfl rfl (.app _ _) g12) <| XS rfl rfl rfl <| Q3 <| Q1 <| Qw ?_
 have e := XN h0; subst e
 exact QX (fun _ _ h => h) rfl (Qp rfl .nil) (.cons (.one (.app _ _ _)) .nil)
 replace h0 := Qv c5 h0
 refine Q2 <| Q0 <| XP rfl rfl rfl (Q4 rfl rfl rfl) <| XS rfl rfl rfl <| Q3 <| Q1 ?_
 refine Qg (b := (a0.kind == 4)) rfl (fun c13 => ?_) (fun c13 => ?_)
 replace h0 := Qu c13 h0
 refine Q2 <| Q0 <| XS rfl rfl rfl <| Q3 <| Q1 <| Q2 <| Q2 <| Q0 <| XS rfl rfl rfl <| Q3 <| Q1 <| Qd ?_
 refine QI 3 (fun (o14 : (List Wy)) => ⟨[(5, .v (.one (Wi 1 o14)))], [(0, .cells 48 (Wj a0))], [(1, some ⟨9, 1, (Enc.encL o14).length, []⟩)], 2, 62, []⟩) (fun (o14 : (List Wy)) => (some o14) = some r) ?_ ?_
 refine Y0 (t := 5) 9 1 rfl ?_
 refine Qb h0 (fun o15 hl1 h0 => ?_)
 refine QH (KO a0) (fun s1 => ⟨[(1, .v (.one (.ptr 0 0))), (5, .v (.one (Wi 1 s1.1))), (6, .v (.one (Wg s1.2)))], [(0, .cells 48 (Wj a0))], [(1, some ⟨9, 1, (Enc.encL s1.1).length, []⟩)], 2, 62, []⟩) (([] : List Wy), 0) o15 (Qh (XK rfl (XK rfl (XK rfl XJ))) (W8 rfl W7) (W4 rfl W3) rfl (Nat.zero_le _) rfl rfl rfl (Wp rfl rfl Wm) rfl rfl) hl1 (fun s1 n1 oo1 h1 ho1 => ?_)
 unfold KO at h1
 refine Q2 <| Q2 <| Q0 <| XR rfl rfl rfl <| XP rfl rfl rfl (Q8 YY rfl) <| XP rfl rfl rfl (Q7 KE rfl rfl rfl) <| XP rfl rfl rfl (Qy (α := Fn) ZK rfl (.d _)) <| XP rfl rfl rfl (Q4 rfl rfl rfl) <| Q3 <| Q1 ?_
 refine Qg (b := (decide (s1.2 < (a0.funs.length : Int)))) rfl (fun c16 => ?_) (fun c16 => ?_)
 replace h1 := Qu c16 h1
 refine Qj <| Q1 <| Q2 <| Qd <| Q0 <| XR rfl rfl rfl <| XP rfl rfl rfl (Q8 YY rfl) <| XP rfl rfl rfl (Q7 KE rfl rfl rfl) <| XR rfl rfl rfl ?_
 refine Qb h1 (fun x17 hx17 h1 => ?_)
 refine XP rfl rfl rfl (Qq (α := Fn) ZK rfl (.d _) rfl hx17) <| XP rfl rfl rfl (JN fo_89_0 rfl) <| XP rfl rfl rfl (QK Y6 rfl rfl) <| Q9 rfl rfl (W1 rfl) (QY (α := Wy) (x17.name) QQ GY rfl rfl (W1 rfl) (W1 rfl) rfl rfl (.cons (.d _) .nil) rfl) ?_
 refine QO h1 (fun g18 h1 => ?_)
 refine Q9 rfl rfl (W1 rfl) (QU (α := Wy) QQ G7 rfl rfl rfl rfl rfl (.app _ _) g18) <| XS rfl rfl rfl <| Q3 <| Qk <| Q1 <| Q0 <| XR rfl rfl rfl <| XP rfl rfl rfl (Q4 rfl rfl rfl) <| XS rfl rfl rfl <| Q3 ?_
 have e := XN h1; subst e
 refine QD ((s1.1 ++ ([x17.name])), (QW (s1.2 + 1))) (Qh (XK rfl (XK rfl (XK rfl XJ))) (W8 rfl W7) (W4 rfl W3) rfl (Nat.zero_le _) rfl rfl rfl (Wp rfl rfl Wm) rfl rfl) ho1
 replace h1 := Qv c16 h1
 refine QN <| Qf <| Qf ?_
 have e := XN h1; subst e
 have e_ : _ = _ := ho1
 subst e_
 exact QF s1.1 (Qh (XK rfl XJ) (W8 rfl W7) (W4 rfl W3) rfl (Nat.zero_le _) rfl rfl rfl (Wp rfl rfl Wm) rfl rfl) h0
 intro o14 h0
 refine Qx <| Q1 <| Q2 <| Q0 <| XR rfl rfl rfl <| XS rfl rfl rfl <| Q3 <| Q1 <| Qw ?_
 have e := XN h0; subst e
 exact QX (fun _ _ h => h) rfl (Qp rfl .nil) (.cons (.one (.app _ _ _)) .nil)
 replace h0 := Qv c13 h0
 refine Qj <| Qk <| Q1 <| Q2 <| Q0 <| XS rfl rfl rfl <| Q3 <| Q1 <| Qw ?_
 have e := XN h0; subst e
 exact QX (fun _ _ h => h) rfl (Qp rfl .nil) (.cons (.one (.nil _)) .nil)
def m72f9_l0 (a1 : Tm) (rc : (List Wy) × Tm → Option ((List Wy))) (s1 : (List Wy) × Int) : Option (LO ((List Wy) × Int) (((List Wy)))) :=
 cond (decide (s1.2 < (a1.kids.length : Int)))
   (Option.bind (J1 a1.kids s1.2) fun (x5 : Tm) =>
 Option.bind (rc (s1.1, x5)) fun (x6 : (List Wy)) =>
 some (.next (x6, (QW (s1.2 + 1)))))
   (some (.done s1.1))
def m72f9s (rc : (List Wy) × Tm → Option ((List Wy))) (a0 : List Wy) (a1 : Tm) : Option ((List Wy)) :=
 Option.bind (cond (a1.kind == 3)
   (Option.bind (XI a0 a1.name) fun (x3 : Bool) =>
 some (!x3))
   (some false)) (fun (v1 : Bool) => Option.bind (cond v1
   (Qm (Nat.ble (a0.length + ([a1.name]).length) 1000000000)
 (some (a0 ++ ([a1.name]))))
   (some a0)) (fun (v2 : (List Wy)) => Option.bind (Qo (m72f9_l0 a1 rc) QB (v2, 0)) (fun (o3 : (List Wy)) => some o3)))
def m72f9F (rc : (List Wy) × Tm → Option ((List Wy))) (u : (List Wy) × Tm) : Option ((List Wy)) := m72f9s rc u.1 u.2
def m72f9 (a0 : List Wy) (a1 : Tm) : Option ((List Wy)) := Yn m72f9F QB (a0, a1)
def m62f8_l0 (a0 : Tm) (s2 : (List Wy) × Int) : Option (LO ((List Wy) × Int) (((List Wy)))) :=
 cond (decide (s2.2 < (a0.kids.length : Int)))
   (Option.bind (J1 a0.kids s2.2) fun (x7 : Tm) =>
 Option.bind (m72f9 s2.1 x7) fun (x8 : (List Wy)) =>
 some (.next (x8, (QW (s2.2 + 1)))))
   (some (.done s2.1))
def GC (a0 : Tm) : Option ((List Wy)) :=
 Option.bind (Option.bind (cond (a0.kind == 3)
   (Option.bind (XI ([] : List Wy) a0.name) fun (x5 : Bool) =>
 some (!x5))
   (some false)) (fun (v3 : Bool) => Option.bind (cond v3
   (Qm (Nat.ble ([a0.name]).length 1000000000)
 (some ([a0.name])))
   (some ([] : List Wy))) (fun (v4 : (List Wy)) => Option.bind (Qo (m62f8_l0 a0) QB (v4, 0)) (fun (o5 : (List Wy)) => some o5)))) (fun (y1 : (List Wy)) => some y1)
def m63f10_l0 (a0 : Tr) (rc : Tr × (List Wy) → Option ((List Wy))) (s1 : (List Wy) × Int) : Option (LO ((List Wy) × Int) (((List Wy)))) :=
 cond (decide (s1.2 < (a0.branches.length : Int)))
   (Option.bind (J1 a0.branches s1.2) fun (x6 : Wz) =>
 Qm (Nat.ble (s1.1.length + ([x6.ctor]).length) 1000000000)
 (Option.bind (J1 a0.branches s1.2) fun (x8 : Wz) =>
 cond (!x8.absurd)
   (Option.bind (J1 a0.branches s1.2) fun (x10 : Wz) =>
 Option.bind (rc (x10.tree, (s1.1 ++ ([x6.ctor])))) fun (x11 : (List Wy)) =>
 some (.next (x11, (QW (s1.2 + 1)))))
   (some (.next ((s1.1 ++ ([x6.ctor])), (QW (s1.2 + 1)))))))
   (some (.done s1.1))
def m63f10s (rc : Tr × (List Wy) → Option ((List Wy))) (a0 : Tr) (a1 : List Wy) : Option ((List Wy)) :=
 cond (a0.kind == 0)
   (Option.bind (GC a0.body) fun (x2 : (List Wy)) =>
 Qm (Nat.ble (a1.length + x2.length) 1000000000)
 (some (a1 ++ x2)))
   (Option.bind (Qo (m63f10_l0 a0 rc) QB (a1, 0)) (fun (o4 : (List Wy)) => some o4))
def m63f10F (rc : Tr × (List Wy) → Option ((List Wy))) (u : Tr × (List Wy)) : Option ((List Wy)) := m63f10s rc u.1 u.2
def m63f10 (a0 : Tr) (a1 : List Wy) : Option ((List Wy)) := Yn m63f10F QB (a0, a1)
def m47_l0 (a0 : Dcl) (s1 : (List Wy) × Int) : Option (LO ((List Wy) × Int) (((List Wy)))) :=
 cond (decide (s1.2 < (a0.ctors.length : Int)))
   (Option.bind (J1 a0.ctors s1.2) fun (x6 : Ctr) =>
 Option.bind (GC x6.ty) fun (x7 : (List Wy)) =>
 Qm (Nat.ble (s1.1.length + x7.length) 1000000000)
 (some (.next ((s1.1 ++ x7), (QW (s1.2 + 1))))))
   (some (.done s1.1))
def m47_l1 (a0 : Dcl) (s1 : (List Wy) × Int) : Option (LO ((List Wy) × Int) (((List Wy)))) :=
 cond (decide (s1.2 < (a0.rcr.rules.length : Int)))
   (Option.bind (J1 a0.rcr.rules s1.2) fun (x9 : Tm) =>
 Option.bind (GC x9) fun (x10 : (List Wy)) =>
 Qm (Nat.ble (s1.1.length + x10.length) 1000000000)
 (some (.next ((s1.1 ++ x10), (QW (s1.2 + 1))))))
   (some (.done s1.1))
def m47_l2 (a0 : Dcl) (s1 : (List Wy) × Int) : Option (LO ((List Wy) × Int) (((List Wy)))) :=
 cond (decide (s1.2 < (a0.funs.length : Int)))
   (Option.bind (J1 a0.funs s1.2) fun (x10 : Fn) =>
 Option.bind (GC x10.ty) fun (x11 : (List Wy)) =>
 Qm (Nat.ble (s1.1.length + x11.length) 1000000000)
 (some (.next ((s1.1 ++ x11), (QW (s1.2 + 1))))))
   (some (.done s1.1))
def m47_l3 (a0 : Dcl) (s1 : (List Wy) × Int) : Option (LO ((List Wy) × Int) (((List Wy)))) :=
 cond (decide (s1.2 < (a0.funs.length : Int)))
   (Option.bind (J1 a0.funs s1.2) fun (x11 : Fn) =>
 Option.bind (m63f10 x11.tree s1.1) fun (x12 : (List Wy)) =>
 some (.next (x12, (QW (s1.2 + 1)))))
   (some (.done s1.1))
def m47_l4 (o9 : (List Wy)) (x10 : (List Wy)) (s1 : (List Wy) × Int) : Option (LO ((List Wy) × Int) (((List Wy)))) :=
 cond (decide (s1.2 < (o9.length : Int)))
   (Option.bind (Option.bind (J1 o9 s1.2) fun (x14 : Wy) =>
 Option.bind (m64 x10 x14) fun (x15 : Bool) =>
 cond (!x15)
   (Option.bind (J1 o9 s1.2) fun (x17 : Wy) =>
 Option.bind (m64 s1.1 x17) fun (x18 : Bool) =>
 some (!x18))
   (some false)) (fun (v13 : Bool) => cond v13
   (Option.bind (J1 o9 s1.2) fun (x15 : Wy) =>
 Qm (Nat.ble (s1.1.length + ([x15]).length) 1000000000)
 (some (.next ((s1.1 ++ ([x15])), (QW (s1.2 + 1))))))
   (some (.next (s1.1, (QW (s1.2 + 1)))))))
   (some (.done s1.1))
def m47 (a0 : Dcl) : Option ((List Wy)) :=
 Option.bind (GC a0.ty) fun (x1 : (List Wy)) =>
 Option.bind (GC a0.value) fun (x2 : (List Wy)) =>
 Qm (Nat.ble (x1.length + x2.length) 1000000000)
 (Option.bind (Qo (m47_l0 a0) QB ((x1 ++ x2), 0)) (fun (o4 : (List Wy)) => Option.bind (GC a0.rcr.ty) fun (x5 : (List Wy)) =>
 Qm (Nat.ble (o4.length + x5.length) 1000000000)
 (Option.bind (Qo (m47_l1 a0) QB ((o4 ++ x5), 0)) (fun (o7 : (List Wy)) => Option.bind (Qo (m47_l2 a0) QB (o7, 0)) (fun (o8 : (List Wy)) => Option.bind (Qo (m47_l3 a0) QB (o8, 0)) (fun (o9 : (List Wy)) => Option.bind (X9 a0) fun (x10 : (List Wy)) =>
 Option.bind (Qo (m47_l4 o9 x10) QB (([] : List Wy), 0)) (fun (o11 : (List Wy)) => some o11)))))))
end Go.Proofs.Ytijcchddnnnmdaa
namespace Go.Proofs.Ytijcchddnnnmdaa
open Go.RowKit
set_option linter.unusedSimpArgs false
set_option linter.unusedVariables false
set_option linter.unusedSectionVars false
theorem w64_id {n : Int} (h1 : -9223372036854775808 ≤ n) (h2 : n ≤ 9223372036854775807) : QW n = n := IntWalk.i64_in n ⟨h1, h2⟩
theorem w64_nx {k : Nat} (h : k ≤ 1000000000) : QW ((k : Int) + 1) = ((k + 1 : Nat) : Int) := by rw [w64_id (by omega) (by omega)]; rfl
theorem KQ {α : Type} {l : List α} {k : Nat} {x : α} (h : l[k]? = some x) : J1 l (k : Int) = some x := h
theorem J6 {α : Type} (a : List α) (x : α) (b : List α) : J1 (a ++ x :: b) (a.length : Int) = some x := by
  show (a ++ x :: b)[a.length]? = some x
  simp
theorem Ji {α : Type} (a : List α) (x : α) (b : List α) : decide ((a.length : Int) < ((a ++ x :: b).length : Int)) = true := by
  rw [decide_eq_true_eq, List.length_append, List.length_cons]; omega
theorem YS {α : Type} {l a b : List α} {x : α} (h : l = a ++ x :: b) : a.length < l.length := by rw [h, List.length_append, List.length_cons]; omega
theorem beqI (a b : Int) : (a == b) = decide (a = b) := by
  by_cases h : a = b
  · rw [decide_eq_true h]; exact beq_iff_eq.2 h
  · rw [decide_eq_false h, Bool.eq_false_iff]; exact fun h' => h (beq_iff_eq.1 h')
theorem Jz {α : Type} (a : List α) : decide ((a.length : Int) < (a.length : Int)) = false := by simp
theorem Jq {α : Type} {a b : Nat} {x : Option α} (h : a ≤ b) : Qm (Nat.ble a b) x = x := by
  rw [Nat.ble_eq_true_of_le h]; rfl
theorem Yx {α : Type} {a b : Nat} {x : Option α} (h : a = b) : Qm (Nat.beq a b) x = x := by
  subst h; rw [Nat.beq_refl]; rfl
theorem JD {α σ τ β : Type} {step : τ → Option (LO τ β)} (l : List α) (mk : Int → σ → τ) (I : List α → σ → Prop) (Q : β → Prop) (hlen : l.length ≤ 900000000)
    (hin : ∀ (a : List α) (x : α) (b : List α) (s : σ), l = a ++ x :: b → I a s →
      (∃ r, step (mk (a.length : Int) s) = some (.done r) ∧ Q r) ∨ ∃ s', step (mk (a.length : Int) s) = some (.next (mk (QW ((a.length : Int) + 1)) s')) ∧ I (a ++ [x]) s')
    (hout : ∀ s, I l s → ∃ r, step (mk (l.length : Int) s) = some (.done r) ∧ Q r) (s0 : σ) (h0 : I [] s0) : ∃ r, Qo step QB (mk 0 s0) = some r ∧ Q r := by
  have key : ∀ (b a : List α) (s : σ) (n : Nat), l = a ++ b → b.length < n → I a s → ∃ r, Qo step n (mk (a.length : Int) s) = some r ∧ Q r := by
    intro b
    induction b with
    | nil =>
      intro a s n hl hn hI
      rw [List.append_nil] at hl
      subst hl
      obtain ⟨r, h1, h2⟩ := hout s hI
      cases n with
      | zero => omega
      | succ n => exact ⟨r, by simp only [Qo, h1], h2⟩
    | cons x b ih =>
      intro a s n hl hn hI
      cases n with
      | zero => omega
      | succ n =>
        rcases hin a x b s hl hI with ⟨r, h1, h2⟩ | ⟨s', h1, h2⟩
        · exact ⟨r, by simp only [Qo, h1], h2⟩
        · have hal : a.length ≤ 900000000 := by rw [hl, List.length_append] at hlen; omega
          rw [w64_nx (by omega)] at h1
          obtain ⟨r, h3, h4⟩ := ih (a ++ [x]) s' n (by rw [hl, List.append_assoc]; rfl) (by simp only [List.length_cons] at hn; omega) h2
          refine ⟨r, ?_, h4⟩
          simp only [Qo, h1]
          rw [List.length_append] at h3
          exact h3
  exact key l [] s0 QB rfl (by unfold QB; omega) h0
theorem Zk {α σ τ β : Type} {step : τ → Option (LO τ β)} (l : List α) (mk : Int → σ → τ) (f : σ → α → σ) (s0 : σ) (fin : β) (hlen : l.length ≤ 900000000)
    (hin : ∀ (a : List α) (x : α) (b : List α), l = a ++ x :: b → step (mk (a.length : Int) (a.foldl f s0)) = some (.next (mk (QW ((a.length : Int) + 1)) (f (a.foldl f s0) x))))
    (hout : step (mk (l.length : Int) (l.foldl f s0)) = some (.done fin)) : Qo step QB (mk 0 s0) = some fin := by
  obtain ⟨r, h1, h2⟩ := JD (step := step) l mk (fun a s => s = a.foldl f s0) (fun r => r = fin) hlen (fun a x b s hl hs => .inr ⟨f (a.foldl f s0) x, by rw [hs]; exact hin a x b hl, by rw [List.foldl_append]; rfl⟩)
    (fun s hs => ⟨fin, by rw [hs]; exact hout, rfl⟩) s0 rfl
  rw [h1, h2]
section
variable {κ β : Type} [MK κ] [MV β]
theorem gmFind_shift (k : κ) : ∀ (l : List (κ × β × Nat)) (i : Nat), (JQ k l i).map (·.2) = (JQ k l 0).map (·.2)
  | [], i => rfl
  | e :: l, i => by
    simp only [JQ]
    cases (k == e.1) with
    | true => rfl
    | false => simp only [cond_false]; rw [gmFind_shift k l (i + 1), gmFind_shift k l (0 + 1)]
theorem gmFind_idx (k : κ) : ∀ (l : List (κ × β × Nat)) (i : Nat), ∀ j v, JQ k l i = some (j, v) → ∃ n e, j = i + n ∧ l[n]? = some e ∧ (k == e.1) = true ∧ e.2.1 = v
  | [], i, j, v, h => by cases h
  | e :: l, i, j, v, h => by
    simp only [JQ] at h
    cases hk : (k == e.1) with
    | true => rw [hk] at h; cases h; exact ⟨0, e, rfl, rfl, hk, rfl⟩
    | false =>
      rw [hk] at h
      obtain ⟨n, e', h1, h2, h3, h4⟩ := gmFind_idx k l (i + 1) j v h
      exact ⟨n + 1, e', by omega, h2, h3, h4⟩
theorem gmGet_nil (k : κ) : Z3 (gmNil : Qc κ β) k = none := rfl
end
section
variable {β : Type} [MV β]
theorem Kb (k : Wy) (e : Wy × β × Nat) (l : List (Wy × β × Nat)) (i : Nat) : (JQ k (e :: l) i).map (·.2) = if k = e.1 then some e.2.1 else (JQ k l 0).map (·.2) := by
  simp only [JQ]
  by_cases h : k = e.1
  · rw [if_pos h, show (k == e.1) = true from beq_iff_eq.2 h]; rfl
  · rw [if_neg h, show (k == e.1) = false from by rw [Bool.eq_false_iff]; exact fun h' => h (beq_iff_eq.1 h')]
    simp only [cond_false]; exact gmFind_shift k l (i + 1)
theorem gf_app (k : Wy) (x : Wy × β × Nat) : ∀ (l : List (Wy × β × Nat)) (i : Nat), (JQ k (l ++ [x]) i).map (·.2) = match (JQ k l 0).map (·.2) with
    | some v => some v
    | none => if k = x.1 then some x.2.1 else none
  | [], i => by rw [List.nil_append, Kb]; rfl
  | e :: l, i => by
    rw [List.cons_append, Kb, Kb]
    by_cases h : k = e.1
    · rw [if_pos h, if_pos h]
    · rw [if_neg h, if_neg h]; exact gf_app k x l 0
theorem gf_mod (k k' : Wy) (v : β) : ∀ (l : List (Wy × β × Nat)) (i j : Nat) (u : β), JQ k l i = some (i + j, u) → (JQ k' (l.modify j fun e => (k, v, e.2.2)) 0).map (·.2) = if k' = k then some v else (JQ k' l 0).map (·.2)
  | [], i, j, u, h => by cases h
  | e :: l, i, j, u, h => by
    simp only [JQ] at h
    by_cases hk : k = e.1
    · rw [show (k == e.1) = true from beq_iff_eq.2 hk] at h
      simp only [cond_true, Option.some.injEq, Prod.mk.injEq] at h
      obtain rfl : j = 0 := by omega
      rw [show (e :: l).modify 0 (fun e => (k, v, e.2.2)) = (k, v, e.2.2) :: l from rfl, Kb, Kb, ← hk]
      by_cases h2 : k' = k <;> simp [h2]
    · rw [show (k == e.1) = false from by rw [Bool.eq_false_iff]; exact fun h' => hk (beq_iff_eq.1 h')] at h
      simp only [cond_false] at h
      cases j with
      | zero =>
        obtain ⟨n, e', h1, -⟩ := gmFind_idx k l (i + 1) _ u h
        omega
      | succ j =>
        have ih := gf_mod k k' v l (i + 1) j u (by rw [h]; congr 2; omega)
        rw [show (e :: l).modify (j + 1) (fun e => (k, v, e.2.2)) = e :: l.modify j (fun e => (k, v, e.2.2)) from rfl, Kb, Kb, ih]
        by_cases h2 : k' = k
        · rw [if_pos h2, if_pos h2, if_neg (fun h3 => hk (h2 ▸ h3))]
        · rw [if_neg h2, if_neg h2]
theorem gmGet_set (M : Qc Wy β) (k k' : Wy) (v : β) : Z3 (JR M k v) k' = if k' = k then some v else Z3 M k' := by
  unfold JR
  split
  · rename_i j u h
    exact gf_mod k k' v M.1 0 j u (by rw [h, Nat.zero_add])
  · rename_i h
    show (JQ k' (M.1 ++ [(k, v, M.2)]) 0).map (·.2) = _
    rw [gf_app]
    by_cases h2 : k' = k
    · subst h2; rw [h]; simp
    · rw [if_neg h2, if_neg h2, show Z3 M k' = (JQ k' M.1 0).map (·.2) from rfl]
      cases (JQ k' M.1 0).map (·.2) with
      | none => rfl
      | some v => rfl
end
def Gn (own out : List Wy) (s : Wy) : List Wy := if s ∈ own ∨ s ∈ out then out else out ++ [s]
def Y9 (own out l : List Wy) : List Wy := l.foldl (Gn own) out
theorem addN_len (own out : List Wy) (s : Wy) : (Gn own out s).length ≤ out.length + 1 := by
  unfold Gn; split
  · omega
  · simp
theorem Yz (own out a b : List Wy) : Y9 own out (a ++ b) = Y9 own (Y9 own out a) b := by unfold Y9; rw [List.foldl_append]
theorem Yt (own : List Wy) : ∀ (l out : List Wy), (Y9 own out l).length ≤ out.length + l.length
  | [], out => Nat.le_refl _
  | s :: l, out => by
    have h1 := addN_len own out s
    have h2 := Yt own l (Gn own out s)
    show (Y9 own (Gn own out s) l).length ≤ _
    simp only [List.length_cons]; omega
def Met (own out : List Wy) (M : Qc Wy Bool) : Prop := ∀ s, J7 M s = decide (s ∈ own ∨ s ∈ out)
theorem gmVal_set {β : Type} [MV β] (M : Qc Wy β) (k k' : Wy) (v : β) : J7 (JR M k v) k' = if k' = k then v else J7 M k' := by
  unfold J7
  rw [gmGet_set]
  by_cases h : k' = k <;> simp [h]
theorem Met.nil : Met [] [] gmNil := fun s => by simp [J7, gmGet_nil, MV.z]
theorem Met.set {own out : List Wy} {M : Qc Wy Bool} (h : Met own out M) (s : Wy) (hs : ¬ (s ∈ own ∨ s ∈ out)) : Met own (out ++ [s]) (JR M s true) := fun x => by
  rw [gmVal_set, h x]
  by_cases e : x = s
  · subst e; simp
  · simp [e]
theorem add_step {own out : List Wy} {M : Qc Wy Bool} (h : Met own out M) (s : Wy) (hl : out.length < 1000000000) : ∃ M', (cond (!(J7 M s)) (Qm (Nat.ble (out.length + ([s]).length) 1000000000) (some ((JR M s true), (out ++ ([s]))))) (some (M, out))) = some (M', Gn own out s) ∧ Met own (Gn own out s) M' := by
  rw [h s]
  unfold Gn
  by_cases e : s ∈ own ∨ s ∈ out
  · refine ⟨M, ?_, ?_⟩
    · rw [decide_eq_true e, if_pos e]; rfl
    · rw [if_pos e]; exact h
  · refine ⟨JR M s true, ?_, ?_⟩
    · rw [decide_eq_false e, if_neg e, Jq (by show out.length + 1 ≤ _; omega)]; rfl
    · rw [if_neg e]; exact h.set s e
theorem ZZ {α : Type} (f : α → Nat) {x : α} : ∀ {l : List α}, x ∈ l → f x ≤ (l.map f).sum
  | y :: l, h => by
    rw [List.map_cons, List.sum_cons]
    rcases List.mem_cons.1 h with rfl | h
    · omega
    · have := ZZ f h; omega
def lvz (l : Lvl) : Nat := 1 + (l.vs.map fun _ => 1).sum
def Tm.size : Tm → Nat
  | .mk _ _ n ls ks => 1 + n.length + (ls.map lvz).sum + (ks.attach.map fun k => Tm.size k.1).sum
termination_by t => SizeOf.sizeOf t
decreasing_by
  have := List.sizeOf_lt_of_mem k.2
  simp only [Tm.mk.sizeOf_spec]; omega
theorem Tm.size_eq (t : Tm) : t.size = 1 + t.name.length + (t.levels.map lvz).sum + (t.kids.map Tm.size).sum := by
  cases t
  rw [Tm.size, List.attach_map_val]; rfl
def Tm.cn : Tm → List Wy
  | .mk k _ n _ ks => (if k = 3 then [n] else []) ++ (ks.attach.map fun k => Tm.cn k.1).flatten
termination_by t => SizeOf.sizeOf t
decreasing_by
  have := List.sizeOf_lt_of_mem k.2
  simp only [Tm.mk.sizeOf_spec]; omega
theorem Tm.cn_eq (t : Tm) : t.cn = (if t.kind = 3 then [t.name] else []) ++ (t.kids.map Tm.cn).flatten := by
  cases t
  rw [Tm.cn, List.attach_map_val]; rfl
theorem Tm.kid_size {t k : Tm} (h : k ∈ t.kids) : k.size < t.size := by
  have := ZZ Tm.size h
  rw [t.size_eq]; omega
theorem Tm.ind {C : Tm → Prop} (h : ∀ t : Tm, (∀ k ∈ t.kids, C k) → C t) (t : Tm) : C t := by
  have : ∀ n (t : Tm), t.size ≤ n → C t := by
    intro n
    induction n with
    | zero => intro t ht; rw [t.size_eq] at ht; omega
    | succ n ih => exact fun t ht => h t fun k hk => ih k (by have := Tm.kid_size hk; omega)
  exact this _ t (Nat.le_refl _)
theorem ZT {α : Type} (f : α → List Wy) (g : α → Nat) : ∀ l : List α, (∀ x ∈ l, (f x).length ≤ g x) → (l.map f).flatten.length ≤ (l.map g).sum
  | [], _ => Nat.le_refl _
  | x :: l, h => by
    simp only [List.map_cons, List.flatten_cons, List.length_append, List.sum_cons]
    have h1 := h x List.mem_cons_self
    have h2 := ZT f g l fun y hy => h y (List.mem_cons_of_mem _ hy)
    omega
theorem Tm.cn_len (t : Tm) : t.cn.length ≤ t.size := by
  induction t using Tm.ind with
  | h t ih =>
    rw [t.cn_eq, t.size_eq, List.length_append]
    have := ZT Tm.cn Tm.size t.kids ih
    have h0 : (if t.kind = 3 then [t.name] else []).length ≤ 1 := by split <;> simp
    omega
theorem kids_len (t : Tm) : t.kids.length < t.size := by
  rw [t.size_eq]
  have : ∀ l : List Tm, l.length ≤ (l.map Tm.size).sum := by
    intro l
    induction l with
    | nil => exact Nat.le_refl _
    | cons x l ih =>
      rw [List.map_cons, List.sum_cons, List.length_cons]
      have := x.size_eq
      omega
  have := this t.kids
  omega
theorem sum_split {α : Type} (f : α → Nat) (a : List α) (x : α) (b : List α) : ((a ++ x :: b).map f).sum = (a.map f).sum + f x + (b.map f).sum := by simp; omega
theorem visit_ok (root : Tm) : ∀ (n : Nat) (t : Tm) (d : Int) (own out : List Wy) (M : Qc Wy Bool), t.size ≤ n → Met own out M → out.length + t.size ≤ 900000000 →
    ∃ M', Yn Gz n (t, d, M, out, root) = some (true, M', Y9 own out t.cn) ∧ Met own (Y9 own out t.cn) M'
  | 0, t, d, own, out, M, h, _, _ => by rw [t.size_eq] at h; omega
  | n + 1, t, d, own, out, M, h, hM, hb => by
    show ∃ M', Gy (Yn Gz n) t d M out root = _ ∧ _
    unfold Gy
    have hsz := t.size_eq
    have h1 : ∃ M1, (Option.bind (cond (t.kind == 3) (some (!(J7 M t.name))) (some false)) (fun (v4 : Bool) => cond v4
        (Qm (Nat.ble (out.length + ([t.name]).length) 1000000000) (some ((JR M t.name true), (out ++ ([t.name])))))
        (some (M, out)))) = some (M1, Y9 own out (if t.kind = 3 then [t.name] else [])) ∧ Met own (Y9 own out (if t.kind = 3 then [t.name] else [])) M1 := by
      by_cases hk : t.kind = 3
      · rw [if_pos hk, hk]
        exact add_step hM t.name (by omega)
      · rw [if_neg hk, show (t.kind == 3) = false from beq_eq_false_iff_ne.2 hk]
        exact ⟨M, rfl, hM⟩
    obtain ⟨M1, e1, hM1⟩ := h1
    rw [e1, Option.bind_some]
    have h2 : ∃ v9 : Int, ∀ f : Int → Option (Bool × Qc Wy Bool × List Wy), (Option.bind (cond (decide (0 ≤ t.kind)) (some (decide (t.kind < 13))) (some false)) (fun (v8 : Bool) => Option.bind (cond v8
        (Qm (cond (decide (0 ≤ t.kind)) (Nat.blt t.kind.toNat 13) false)
        (Option.bind (J1 ([(-1), (-1), (-1), (-1), (-1), 1, 1, 1, (-1), (-1), (-1), 2, (-1)] : List Int) t.kind) fun (x12 : Int) => some x12))
        (some (-1))) f)) = f v9 := by
      by_cases ha : 0 ≤ t.kind
      · by_cases hb : t.kind < 13
        · obtain ⟨k, hk⟩ := Int.eq_ofNat_of_zero_le ha
          have hk13 : k < 13 := by omega
          obtain ⟨y, hy⟩ : ∃ y, J1 ([(-1), (-1), (-1), (-1), (-1), 1, 1, 1, (-1), (-1), (-1), 2, (-1)] : List Int) t.kind = some y := by
            rw [hk]; exact ⟨_, List.getElem?_eq_getElem (by simpa using hk13)⟩
          refine ⟨y, fun f => ?_⟩
          rw [decide_eq_true ha, decide_eq_true hb, hy]
          simp only [cond_true, Option.bind_some]
          rw [show Nat.blt t.kind.toNat 13 = true from by rw [Nat.blt_eq]; omega]
          rfl
        · refine ⟨-1, fun f => ?_⟩
          rw [decide_eq_true ha, decide_eq_false hb]; rfl
      · refine ⟨-1, fun f => ?_⟩
        rw [decide_eq_false ha]; rfl
    obtain ⟨v9, e2⟩ := h2
    dsimp only
    rw [e2]
    have hlen := kids_len t
    have hl1 : (Y9 own out (if t.kind = 3 then [t.name] else [])).length ≤ out.length + 1 := by
      refine Nat.le_trans (Yt own _ out) ?_
      split <;> simp
    have := JD (step := Z2 t v9 d (Yn Gz n) root) t.kids (fun i (s : Qc Wy Bool × List Wy) => (i, s.1, s.2))
      (fun a s => Met own s.2 s.1 ∧ s.2 = Y9 own (Y9 own out (if t.kind = 3 then [t.name] else [])) (a.map Tm.cn).flatten)
      (fun r => ∃ M', r = .inl (M', Y9 own out t.cn) ∧ Met own (Y9 own out t.cn) M') (by omega)
      (fun a x b s hl hs => .inr (by
        obtain ⟨Ms, os⟩ := s
        obtain ⟨hs1, hs2⟩ := hs
        dsimp only at hs1 hs2
        have hx : x ∈ t.kids := by rw [hl]; simp
        have hxs := Tm.kid_size hx
        have hol : os.length ≤ out.length + 1 + (a.map Tm.size).sum := by
          rw [hs2]
          refine Nat.le_trans (Yt own _ _) ?_
          have := ZT Tm.cn Tm.size a fun y _ => y.cn_len
          omega
        have htot : (t.kids.map Tm.size).sum = (a.map Tm.size).sum + x.size + (b.map Tm.size).sum := by rw [hl, sum_split]
        have hdd : ∃ v13 : Int, ∀ f : Int → Option (LO (Int × (Qc Wy Bool) × (List Wy)) (((Qc Wy Bool) × (List Wy)) ⊕ ((Bool × (Qc Wy Bool) × (List Wy))))), Option.bind (cond ((a.length : Int) == v9) (some (QW (d + 1))) (some d)) f = f v13 := by
          cases ((a.length : Int) == v9) with
          | true => exact ⟨_, fun f => rfl⟩
          | false => exact ⟨_, fun f => rfl⟩
        obtain ⟨v13, hv13⟩ := hdd
        obtain ⟨M2, e3, hM2⟩ := visit_ok root n x v13 own os Ms (by omega) hs1 (by omega)
        refine ⟨(M2, Y9 own os x.cn), ?_, hM2, ?_⟩
        · unfold Z2
          dsimp only
          rw [hl, Ji, J6]
          simp only [cond_true, Option.bind_some]
          rw [hv13, e3]
          rfl
        · rw [hs2, ← Yz]; simp))
      (fun s hs => ⟨.inl (s.1, s.2), by
        unfold Z2
        dsimp only
        rw [Jz]; rfl, s.1, by rw [hs.2, ← Yz, ← t.cn_eq], by rw [t.cn_eq, Yz, ← hs.2]; exact hs.1⟩) (M1, Y9 own out (if t.kind = 3 then [t.name] else [])) ⟨hM1, rfl⟩
    obtain ⟨r, e4, M', rfl, hM'⟩ := this
    refine ⟨M', ?_, hM'⟩
    rw [e4]; rfl
def Yl (t : Tm) : List Wy := Y9 [] [] t.cn
theorem YV (t : Tm) : (Yl t).length ≤ t.size := by
  have h1 := Yt [] t.cn []
  have h2 := t.cn_len
  unfold Yl
  simp only [List.length_nil] at h1
  omega
theorem m74_eq (t : Tm) (h : t.size ≤ 900000000) : XA t = some (Yl t) := by
  unfold XA
  obtain ⟨M', e, -⟩ := visit_ok t QB t 0 [] [] gmNil (by unfold QB; omega) Met.nil (by simpa using h)
  unfold m98f0
  simp only [Option.bind_some]
  rw [e]; rfl
end Go.Proofs.Ytijcchddnnnmdaa
namespace Go.Proofs.Ytijcchddnnnmdaa
open Go.RowKit
set_option linter.unusedSimpArgs false
set_option linter.unusedVariables false
set_option linter.unusedSectionVars false
def Tr.size : Tr → Nat
  | .mk _ b _ brs => 1 + b.size + (brs.attach.map fun x => 1 + x.1.ctor.length + Tr.size x.1.tree).sum
termination_by t => SizeOf.sizeOf t
decreasing_by
  have h1 := List.sizeOf_lt_of_mem x.2
  have h2 := BrF.tree_lt x.1
  simp only [Tr.mk.sizeOf_spec]; omega
def Tr.cn : Tr → List Wy
  | .mk k b _ brs => if k = 0 then Yl b else (brs.attach.map fun x => x.1.ctor :: (if x.1.absurd then [] else Tr.cn x.1.tree)).flatten
termination_by t => SizeOf.sizeOf t
decreasing_by
  have h1 := List.sizeOf_lt_of_mem x.2
  have h2 := BrF.tree_lt x.1
  simp only [Tr.mk.sizeOf_spec]; omega
def bsz (b : Wz) : Nat := 1 + b.ctor.length + b.tree.size
def Xf (b : Wz) : List Wy := b.ctor :: (if b.absurd then [] else b.tree.cn)
theorem Tr.size_eq (t : Tr) : t.size = 1 + t.body.size + (t.branches.map bsz).sum := by
  cases t with
  | mk k b v brs =>
    rw [Tr.size]
    show _ = 1 + b.size + (brs.map bsz).sum
    rw [← List.attach_map_val (l := brs) (f := bsz)]; rfl
theorem Tr.cn_eq (t : Tr) : t.cn = if t.kind = 0 then Yl t.body else (t.branches.map Xf).flatten := by
  cases t with
  | mk k b v brs =>
    rw [Tr.cn]
    show _ = if k = 0 then Yl b else (brs.map Xf).flatten
    rw [← List.attach_map_val (l := brs) (f := Xf)]; rfl
theorem Tr.kid_size {t : Tr} {b : Wz} (h : b ∈ t.branches) : b.tree.size < t.size := by
  have := ZZ bsz h
  have e : bsz b = 1 + b.ctor.length + b.tree.size := rfl
  rw [t.size_eq]; omega
theorem Tr.ind {C : Tr → Prop} (h : ∀ t : Tr, (∀ b ∈ t.branches, C b.tree) → C t) (t : Tr) : C t := by
  have : ∀ n (t : Tr), t.size ≤ n → C t := by
    intro n
    induction n with
    | zero => intro t ht; rw [t.size_eq] at ht; omega
    | succ n ih => exact fun t ht => h t fun k hk => ih k.tree (by have := Tr.kid_size hk; omega)
  exact this _ t (Nat.le_refl _)
theorem Tr.cn_len (t : Tr) : t.cn.length ≤ t.size := by
  induction t using Tr.ind with
  | h t ih =>
    rw [t.cn_eq, t.size_eq]
    split
    · have := YV t.body; omega
    · have := ZT Xf bsz t.branches fun b hb => by
        have := ih b hb
        unfold Xf bsz
        rw [List.length_cons]
        split
        · simp; omega
        · omega
      omega
theorem Ka {α : Type} (g : α → Nat) (hg : ∀ x, 1 ≤ g x) : ∀ l : List α, l.length ≤ (l.map g).sum
  | [] => Nat.le_refl _
  | x :: l => by
    rw [List.map_cons, List.sum_cons, List.length_cons]
    have := hg x
    have := Ka g hg l
    omega
theorem branches_len (t : Tr) : t.branches.length < t.size := by
  have := Ka bsz (fun b => by unfold bsz; omega) t.branches
  rw [t.size_eq]; omega
def csz (c : Ctr) : Nat := 1 + c.name.length + c.ty.size
def fsz (f : Fn) : Nat := 1 + f.name.length + f.ty.size + f.tree.size
def Dcl.size (d : Dcl) : Nat := 1 + d.name.length + d.ty.size + d.value.size + (d.ctors.map csz).sum + d.rcr.ty.size + (d.rcr.rules.map Tm.size).sum + (d.funs.map fsz).sum
theorem ZU (d : Dcl) : d.ctors.length < d.size := by
  have := Ka csz (fun b => by unfold csz; omega) d.ctors
  unfold Dcl.size; omega
theorem ZS (d : Dcl) : d.funs.length < d.size := by
  have := Ka fsz (fun b => by unfold fsz; omega) d.funs
  unfold Dcl.size; omega
theorem rules_len (d : Dcl) : d.rcr.rules.length < d.size := by
  have := Ka Tm.size (fun b => by rw [b.size_eq]; omega) d.rcr.rules
  unfold Dcl.size; omega
def Jh (d : Dcl) : List Wy :=
  if d.kind = 0 ∨ d.kind = 1 ∨ d.kind = 2 then [d.name] else
  if d.kind = 3 then (d.name :: d.ctors.map (·.name)) ++ [d.name ++ [46, 114, 101, 99]] else
  if d.kind = 4 then d.funs.map (·.name) else []
theorem names_len (d : Dcl) : (Jh d).length ≤ d.size + 1 := by
  have h1 := ZU d
  have h2 := ZS d
  unfold Jh
  split
  · simp
  · split
    · simp; omega
    · split
      · simp; omega
      · simp
theorem Yu {α : Type} (f : α → Wy) : ∀ (l : List α) (s : List Wy), l.foldl (fun s x => s ++ [f x]) s = s ++ l.map f
  | [], s => by simp
  | x :: l, s => by rw [List.foldl_cons, Yu f l]; simp
theorem kinds_eq (k : Int) : (cond (k == 0) (some (k == 0)) (cond (k == 1) (some (k == 1)) (some (k == 2)))) = some (decide (k = 0 ∨ k = 1 ∨ k = 2)) := by
  by_cases h0 : k = 0
  · subst h0; rfl
  · by_cases h1 : k = 1
    · subst h1; rfl
    · by_cases h2 : k = 2
      · subst h2; rfl
      · simp [beqI, h0, h1, h2]
theorem m37_eq (d : Dcl) (h : d.size ≤ 900000000) : X8 d = some (Jh d) := by
  have h1 := ZU d
  have h2 := ZS d
  have hn : d.name.length < d.size := by unfold Dcl.size; omega
  unfold X8
  rw [kinds_eq, Option.bind_some]
  unfold Jh
  by_cases hk : d.kind = 0 ∨ d.kind = 1 ∨ d.kind = 2
  · rw [if_pos hk, decide_eq_true hk]; rfl
  rw [if_neg hk, decide_eq_false hk]
  by_cases h3 : d.kind = 3
  · rw [if_pos h3, h3, Zk (step := KM d) d.ctors (fun i (s : List Wy) => (s, i)) (fun s c => s ++ [c.name]) [d.name] ((d.name :: d.ctors.map (·.name))) (by omega)
      (fun a x b hl => by
        rw [Yu]
        unfold KM
        dsimp only
        have : a.length < d.ctors.length := YS hl
        rw [hl, Ji, J6]
        simp only [cond_true, Option.bind_some]
        rw [Jq (by simp; omega)])
      (by unfold KM; dsimp only; rw [Jz, Yu]; rfl)]
    simp only [cond_false, Option.bind_some, beq_self_eq_true, cond_true]
    rw [Jq (by simp), Jq (by simp; omega), Jq (by simp; omega)]
  rw [if_neg h3, show (d.kind == 3) = false from beq_eq_false_iff_ne.2 h3]
  by_cases h4 : d.kind = 4
  · rw [if_pos h4, h4, Zk (step := KL d) d.funs (fun i (s : List Wy) => (s, i)) (fun s c => s ++ [c.name]) [] (d.funs.map (·.name)) (by omega)
      (fun a x b hl => by
        rw [Yu]
        unfold KL
        dsimp only
        have : a.length < d.funs.length := YS hl
        rw [hl, Ji, J6]
        simp only [cond_true, Option.bind_some]
        rw [Jq (by simp; omega)])
      (by unfold KL; dsimp only; rw [Jz, Yu]; rfl)]
    rfl
  rw [if_neg h4, show (d.kind == 4) = false from beq_eq_false_iff_ne.2 h4]; rfl
theorem m18_eq (d : Dcl) (h : d.size ≤ 900000000) : X9 d = some (Jh d) := by
  have h1 := ZU d
  have h2 := ZS d
  have hn : d.name.length < d.size := by unfold Dcl.size; omega
  unfold X9
  rw [kinds_eq, Option.bind_some]
  unfold Jh
  by_cases hk : d.kind = 0 ∨ d.kind = 1 ∨ d.kind = 2
  · rw [if_pos hk, decide_eq_true hk]; rfl
  rw [if_neg hk, decide_eq_false hk]
  by_cases h3 : d.kind = 3
  · rw [if_pos h3, h3, Zk (step := KP d) d.ctors (fun i (s : List Wy) => (s, i)) (fun s c => s ++ [c.name]) [d.name] ((d.name :: d.ctors.map (·.name))) (by omega)
      (fun a x b hl => by
        rw [Yu]
        unfold KP
        dsimp only
        have : a.length < d.ctors.length := YS hl
        rw [hl, Ji, J6]
        simp only [cond_true, Option.bind_some]
        rw [Jq (by simp; omega)])
      (by unfold KP; dsimp only; rw [Jz, Yu]; rfl)]
    simp only [cond_false, Option.bind_some, beq_self_eq_true, cond_true]
    rw [Jq (by simp; omega), Jq (by simp; omega)]
  rw [if_neg h3, show (d.kind == 3) = false from beq_eq_false_iff_ne.2 h3]
  by_cases h4 : d.kind = 4
  · rw [if_pos h4, h4, Zk (step := KO d) d.funs (fun i (s : List Wy) => (s, i)) (fun s c => s ++ [c.name]) [] (d.funs.map (·.name)) (by omega)
      (fun a x b hl => by
        rw [Yu]
        unfold KO
        dsimp only
        have : a.length < d.funs.length := YS hl
        rw [hl, Ji, J6]
        simp only [cond_true, Option.bind_some]
        rw [Jq (by simp; omega)])
      (by unfold KO; dsimp only; rw [Jz, Yu]; rfl)]
    rfl
  rw [if_neg h4, show (d.kind == 4) = false from beq_eq_false_iff_ne.2 h4]; rfl
theorem m52f3_eq (l own out : List Wy) (M : Qc Wy Bool) (a3 : List Tm) (a4 : Dcl) (hM : Met own out M) (h : out.length + l.length ≤ 900000000) : ∃ M', X1 l M out a3 a4 = some (M', Y9 own out l) ∧ Met own (Y9 own out l) M' := by
  unfold X1
  obtain ⟨r, e, M', rfl, hM'⟩ := JD (step := ZM l a3 a4) l (fun i (s : Qc Wy Bool × List Wy) => (i, s.1, s.2)) (fun a s => Met own s.2 s.1 ∧ s.2 = Y9 own out a) (fun r => ∃ M', r = (M', Y9 own out l) ∧ Met own (Y9 own out l) M') (by omega)
    (fun a x b s hl hs => .inr (by
      obtain ⟨Ms, os⟩ := s
      obtain ⟨hs1, hs2⟩ := hs
      dsimp only at hs1 hs2
      have hol := Yt own a out
      rw [← hs2] at hol
      have : a.length < l.length := YS hl
      obtain ⟨M1, e1, hM1⟩ := add_step hs1 x (by omega)
      refine ⟨(M1, Gn own os x), ?_, hM1, ?_⟩
      · unfold ZM
        dsimp only
        rw [hl, Ji, J6]
        simp only [cond_true, Option.bind_some]
        unfold m89f4
        rw [e1]; rfl
      · rw [Yz, ← hs2]; rfl))
    (fun s hs => ⟨(s.1, s.2), by unfold ZM; dsimp only; rw [Jz]; rfl, s.1, by rw [hs.2], by rw [← hs.2]; exact hs.1⟩) (M, out) ⟨hM, rfl⟩
  rw [e]
  exact ⟨M', rfl, hM'⟩
theorem tvisit_ok (a3 : List Tm) (a4 : Dcl) : ∀ (n : Nat) (t : Tr) (own out : List Wy) (M : Qc Wy Bool), t.size ≤ n → Met own out M → out.length + t.size ≤ 900000000 →
    ∃ M', Yn GB n (t, M, out, a3, a4) = some (true, M', Y9 own out t.cn) ∧ Met own (Y9 own out t.cn) M'
  | 0, t, own, out, M, h, _, _ => by rw [t.size_eq] at h; omega
  | n + 1, t, own, out, M, h, hM, hb => by
    show ∃ M', GA (Yn GB n) t M out a3 a4 = _ ∧ _
    unfold GA
    have hsz := t.size_eq
    have hlen := branches_len t
    rw [t.cn_eq]
    by_cases hk : t.kind = 0
    · rw [if_pos hk, hk]
      have := YV t.body
      rw [m74_eq _ (by omega)]
      obtain ⟨M', e, hM'⟩ := m52f3_eq (Yl t.body) own out M a3 a4 hM (by omega)
      refine ⟨M', ?_, hM'⟩
      simp only [Option.bind_some, beq_self_eq_true, cond_true]
      unfold m31f2
      rw [e]; rfl
    · rw [if_neg hk, show (t.kind == 0) = false from beq_eq_false_iff_ne.2 hk, cond_false]
      obtain ⟨r, e, M', rfl, hM'⟩ := JD (step := Zp t (Yn GB n) a3 a4) t.branches (fun i (s : Qc Wy Bool × List Wy) => (i, s.1, s.2)) (fun a s => Met own s.2 s.1 ∧ s.2 = Y9 own out (a.map Xf).flatten)
        (fun r => ∃ M', r = .inl (M', Y9 own out (t.branches.map Xf).flatten) ∧ Met own (Y9 own out (t.branches.map Xf).flatten) M') (by omega)
        (fun a x b s hl hs => .inr (by
          obtain ⟨Ms, os⟩ := s
          obtain ⟨hs1, hs2⟩ := hs
          dsimp only at hs1 hs2
          have hx : x ∈ t.branches := by rw [hl]; simp
          have hxs := Tr.kid_size hx
          have hol : os.length ≤ out.length + (a.map bsz).sum := by
            rw [hs2]
            refine Nat.le_trans (Yt own _ _) ?_
            have := ZT Xf bsz a fun y _ => by
              have := y.tree.cn_len
              unfold Xf bsz
              rw [List.length_cons]
              split
              · simp; omega
              · omega
            omega
          have htot : (t.branches.map bsz).sum = (a.map bsz).sum + bsz x + (b.map bsz).sum := by rw [hl, sum_split]
          have hbx : bsz x = 1 + x.ctor.length + x.tree.size := rfl
          obtain ⟨M1, e1, hM1⟩ := add_step hs1 x.ctor (by omega)
          have hadd := addN_len own os x.ctor
          cases ha : x.absurd with
          | true =>
            refine ⟨(M1, Gn own os x.ctor), ?_, hM1, ?_⟩
            · unfold Zp
              dsimp only
              rw [hl, Ji, J6]
              simp only [cond_true, Option.bind_some]
              rw [e1, ha]; rfl
            · rw [List.map_append, List.flatten_append, Yz, ← hs2]
              simp only [List.map_cons, List.map_nil, List.flatten_cons, List.flatten_nil, List.append_nil, Xf, ha, if_true]; rfl
          | false =>
            obtain ⟨M2, e2, hM2⟩ := tvisit_ok a3 a4 n x.tree own (Gn own os x.ctor) M1 (by omega) hM1 (by omega)
            refine ⟨(M2, Y9 own (Gn own os x.ctor) x.tree.cn), ?_, hM2, ?_⟩
            · unfold Zp
              dsimp only
              rw [hl, Ji, J6]
              simp only [cond_true, Option.bind_some]
              rw [e1, ha]
              simp only [Option.bind_some, Bool.not_false, cond_true]
              rw [e2]; rfl
            · rw [List.map_append, List.flatten_append, Yz, ← hs2]
              simp only [List.map_cons, List.map_nil, List.flatten_cons, List.flatten_nil, List.append_nil, Xf, ha]; rfl))
        (fun s hs => ⟨.inl (s.1, s.2), by unfold Zp; dsimp only; rw [Jz]; rfl, s.1, by rw [hs.2], by rw [← hs.2]; exact hs.1⟩) (M, out) ⟨hM, rfl⟩
      rw [e]
      exact ⟨M', rfl, hM'⟩
def Jl (d : Dcl) : List Tm := [d.ty, d.value] ++ d.ctors.map (·.ty) ++ [d.rcr.ty] ++ d.rcr.rules ++ d.funs.map (·.ty)
def ZL (d : Dcl) : List Wy := ((Jl d).map Yl).flatten ++ (d.funs.map fun f => f.tree.cn).flatten
def Kz (d : Dcl) : List Wy := Y9 (Jh d) [] (ZL d)
theorem Kx {α : Type} (f : α → List Wy) (g : α → Nat) (h : ∀ x, (f x).length ≤ g x) (l : List α) : (l.map f).flatten.length ≤ (l.map g).sum := ZT f g l fun x _ => h x
theorem sum_le {α : Type} (f g : α → Nat) (h : ∀ x, f x ≤ g x) : ∀ l : List α, (l.map f).sum ≤ (l.map g).sum
  | [] => Nat.le_refl _
  | x :: l => by
    simp only [List.map_cons, List.sum_cons]
    have := h x
    have := sum_le f g h l
    omega
theorem ZI (d : Dcl) : ((Jl d).map Tm.size).sum + (d.funs.map fun f => f.tree.size).sum < d.size := by
  unfold Jl Dcl.size
  simp only [List.map_append, List.map_cons, List.map_nil, List.sum_append, List.sum_cons, List.sum_nil, List.map_map]
  have h1 := sum_le (Tm.size ∘ fun c : Ctr => c.ty) csz (fun c => by show c.ty.size ≤ csz c; unfold csz; omega) d.ctors
  have h2 : (d.funs.map (Tm.size ∘ fun f : Fn => f.ty)).sum + (d.funs.map fun f => f.tree.size).sum ≤ (d.funs.map fsz).sum := by
    induction d.funs with
    | nil => exact Nat.le_refl _
    | cons f l ih =>
      simp only [List.map_cons, List.sum_cons]
      have : fsz f = 1 + f.name.length + f.ty.size + f.tree.size := rfl
      have : (Tm.size ∘ fun f : Fn => f.ty) f = f.ty.size := rfl
      omega
  omega
theorem terms_len (d : Dcl) : (Jl d).length < d.size := by
  have := ZI d
  have h1 := Ka Tm.size (fun b => by rw [b.size_eq]; omega) (Jl d)
  omega
theorem mentioned_len (d : Dcl) : (ZL d).length < d.size := by
  unfold ZL
  rw [List.length_append]
  have h1 := Kx Yl Tm.size YV (Jl d)
  have h2 := Kx (fun f : Fn => f.tree.cn) (fun f => f.tree.size) (fun f => f.tree.cn_len) d.funs
  have := ZI d
  omega
theorem uses_len (d : Dcl) : (Kz d).length < d.size := by
  have := Yt (Jh d) (ZL d) []
  have := mentioned_len d
  unfold Kz
  simp only [List.length_nil] at *
  omega
theorem Zs {α : Type} (f : α → Tm) : ∀ (l : List α) (s : List Tm), l.foldl (fun s x => s ++ [f x]) s = s ++ l.map f
  | [], s => by simp
  | x :: l, s => by rw [List.foldl_cons, Zs f l]; simp
theorem Zn {d : Dcl} {t : Tm} (h : t ∈ Jl d) : t.size < d.size := by
  have := ZZ Tm.size h
  have := ZI d
  omega
theorem fun_mem {d : Dcl} {f : Fn} (h : f ∈ d.funs) : f.tree.size < d.size := by
  have := ZZ (fun f : Fn => f.tree.size) h
  have := ZI d
  omega
theorem terms_eq (d : Dcl) (h : d.size ≤ 900000000) : (Option.bind (Qo (Kj d) QB (0, [d.ty, d.value])) (fun (o5 : (List Tm)) => Qm (Nat.ble (o5.length + ([d.rcr.ty]).length) 1000000000)
  (Qm (Nat.ble ((o5 ++ ([d.rcr.ty])).length + d.rcr.rules.length) 1000000000)
  (Option.bind (Qo (K4 d) QB (0, ((o5 ++ ([d.rcr.ty])) ++ d.rcr.rules))) (fun (o8 : (List Tm)) => some o8))))) = some (Jl d) := by
  have h1 := ZU d
  have h2 := ZS d
  have h3 := rules_len d
  have hsum : d.ctors.length + d.rcr.rules.length + d.funs.length + 3 ≤ d.size := by
    have := terms_len d
    unfold Jl at this
    simp at this
    omega
  rw [Zk (step := Kj d) d.ctors (fun i (s : List Tm) => (i, s)) (fun s c => s ++ [c.ty]) [d.ty, d.value] ([d.ty, d.value] ++ d.ctors.map (·.ty)) (by omega)
    (fun a x b hl => by
      rw [Zs]
      unfold Kj
      dsimp only
      have : a.length < d.ctors.length := YS hl
      rw [hl, Ji, J6]
      simp only [cond_true, Option.bind_some]
      rw [Jq (by simp; omega)])
    (by unfold Kj; dsimp only; rw [Jz, Zs]; rfl)]
  simp only [Option.bind_some]
  rw [Jq (by simp; omega), Jq (by simp; omega)]
  rw [Zk (step := K4 d) d.funs (fun i (s : List Tm) => (i, s)) (fun s c => s ++ [c.ty]) _ (Jl d) (by omega)
    (fun a x b hl => by
      rw [Zs]
      unfold K4
      dsimp only
      have : a.length < d.funs.length := YS hl
      rw [hl, Ji, J6]
      simp only [cond_true, Option.bind_some]
      rw [Jq (by simp; omega)])
    (by unfold K4; dsimp only; rw [Jz, Zs]; rfl)]
  rfl
theorem seen_eq (l : List Wy) (h : l.length ≤ 900000000) : ∃ M, Qo (KI l) QB (0, gmNil) = some M ∧ Met l [] M := by
  refine JD (step := KI l) l (fun i (s : Qc Wy Bool) => (i, s)) (fun a s => Met a [] s) (fun M => Met l [] M) h
    (fun a x b s hl hs => .inr ⟨JR s x true, ?_, fun y => ?_⟩) (fun s hs => ⟨s, by unfold KI; dsimp only; rw [Jz]; rfl, hs⟩) gmNil Met.nil
  · unfold KI
    dsimp only
    rw [hl, Ji, J6]; rfl
  · rw [gmVal_set, hs y]
    by_cases e : y = x
    · subst e; simp
    · simp [e]
theorem m53_l3_eq (l own out : List Wy) (M : Qc Wy Bool) (hM : Met own out M) (h : out.length + l.length ≤ 900000000) : ∃ M', Qo (KH l) QB (0, M, out) = some (M', Y9 own out l) ∧ Met own (Y9 own out l) M' := by
  obtain ⟨r, e, M', rfl, hM'⟩ := JD (step := KH l) l (fun i (s : Qc Wy Bool × List Wy) => (i, s.1, s.2)) (fun a s => Met own s.2 s.1 ∧ s.2 = Y9 own out a) (fun r => ∃ M', r = (M', Y9 own out l) ∧ Met own (Y9 own out l) M') (by omega)
    (fun a x b s hl hs => .inr (by
      obtain ⟨Ms, os⟩ := s
      obtain ⟨hs1, hs2⟩ := hs
      dsimp only at hs1 hs2
      have hol := Yt own a out
      rw [← hs2] at hol
      have : a.length < l.length := YS hl
      obtain ⟨M1, e1, hM1⟩ := add_step hs1 x (by omega)
      refine ⟨(M1, Gn own os x), ?_, hM1, ?_⟩
      · unfold KH
        dsimp only
        rw [hl, Ji, J6]
        simp only [cond_true, Option.bind_some]
        rw [e1]; rfl
      · rw [Yz, ← hs2]; rfl))
    (fun s hs => ⟨(s.1, s.2), by unfold KH; dsimp only; rw [Jz]; rfl, s.1, by rw [hs.2], by rw [← hs.2]; exact hs.1⟩) (M, out) ⟨hM, rfl⟩
  exact ⟨M', e, hM'⟩
theorem m53_eq (d : Dcl) (h : d.size ≤ 400000000) : Xe d = some (Kz d) := by
  have hn := names_len d
  have hts := ZI d
  have htl := terms_len d
  have hfl := ZS d
  unfold Xe
  rw [m37_eq d (by omega), Option.bind_some]
  obtain ⟨M0, e0, hM0⟩ := seen_eq (Jh d) (by omega)
  rw [e0, Option.bind_some, terms_eq d (by omega), Option.bind_some]
  obtain ⟨r, e1, M1, rfl, hM1⟩ := JD (step := KG (Jl d)) (Jl d) (fun i (s : Qc Wy Bool × List Wy) => (i, s.1, s.2)) (fun a s => Met (Jh d) s.2 s.1 ∧ s.2 = Y9 (Jh d) [] (a.map Yl).flatten)
    (fun r => ∃ M', r = (M', Y9 (Jh d) [] ((Jl d).map Yl).flatten) ∧ Met (Jh d) (Y9 (Jh d) [] ((Jl d).map Yl).flatten) M') (by omega)
    (fun a x b s hl hs => .inr (by
      obtain ⟨Ms, os⟩ := s
      obtain ⟨hs1, hs2⟩ := hs
      dsimp only at hs1 hs2
      have hx : x ∈ Jl d := by rw [hl]; simp
      have hxs := Zn hx
      have htot : ((Jl d).map Tm.size).sum = (a.map Tm.size).sum + x.size + (b.map Tm.size).sum := by rw [hl, sum_split]
      have hol : os.length ≤ (a.map Tm.size).sum := by
        rw [hs2]
        refine Nat.le_trans (Yt _ _ _) ?_
        have := Kx Yl Tm.size YV a
        simp only [List.length_nil]; omega
      have hcl := YV x
      obtain ⟨M2, e2, hM2⟩ := m53_l3_eq (Yl x) (Jh d) os Ms hs1 (by omega)
      refine ⟨(M2, Y9 (Jh d) os (Yl x)), ?_, hM2, ?_⟩
      · unfold KG
        dsimp only
        rw [hl, Ji, J6]
        simp only [cond_true, Option.bind_some]
        rw [m74_eq x (by omega), Option.bind_some, e2]; rfl
      · rw [hs2, ← Yz]; simp))
    (fun s hs => ⟨(s.1, s.2), by unfold KG; dsimp only; rw [Jz]; rfl, s.1, by rw [hs.2], by rw [← hs.2]; exact hs.1⟩) (M0, []) ⟨hM0, rfl⟩
  rw [e1, Option.bind_some]
  have hl1 : (Y9 (Jh d) [] ((Jl d).map Yl).flatten).length ≤ ((Jl d).map Tm.size).sum := by
    refine Nat.le_trans (Yt _ _ _) ?_
    have := Kx Yl Tm.size YV (Jl d)
    simp only [List.length_nil]; omega
  obtain ⟨r, e3, M3, rfl, hM3⟩ := JD (step := Ki d (Jl d)) d.funs (fun i (s : Qc Wy Bool × List Wy) => (i, s.1, s.2)) (fun a s => Met (Jh d) s.2 s.1 ∧ s.2 = Y9 (Jh d) (Y9 (Jh d) [] ((Jl d).map Yl).flatten) (a.map fun f => f.tree.cn).flatten)
    (fun r => ∃ M', r = .inl (M', Kz d)) (by omega)
    (fun a x b s hl hs => .inr (by
      obtain ⟨Ms, os⟩ := s
      obtain ⟨hs1, hs2⟩ := hs
      dsimp only at hs1 hs2
      have hx : x ∈ d.funs := by rw [hl]; simp
      have hxs := fun_mem hx
      have htot : (d.funs.map fun f => f.tree.size).sum = (a.map fun f => f.tree.size).sum + x.tree.size + (b.map fun f => f.tree.size).sum := by rw [hl, sum_split]
      have hol : os.length ≤ ((Jl d).map Tm.size).sum + (a.map fun f => f.tree.size).sum := by
        rw [hs2]
        refine Nat.le_trans (Yt _ _ _) ?_
        have := Kx (fun f : Fn => f.tree.cn) (fun f => f.tree.size) (fun f => f.tree.cn_len) a
        omega
      obtain ⟨M2, e2, hM2⟩ := tvisit_ok (Jl d) d QB x.tree (Jh d) os Ms (by unfold QB; omega) hs1 (by omega)
      refine ⟨(M2, Y9 (Jh d) os x.tree.cn), ?_, hM2, ?_⟩
      · unfold Ki
        dsimp only
        rw [hl, Ji, J6]
        simp only [cond_true, Option.bind_some]
        unfold m75f1
        rw [e2]; rfl
      · rw [hs2, ← Yz]; simp))
    (fun s hs => ⟨.inl (s.1, s.2), by unfold Ki; dsimp only; rw [Jz]; rfl, s.1, by
      obtain ⟨s1, s2⟩ := s
      have := hs.2
      dsimp only at this ⊢
      unfold Kz ZL
      rw [Yz, ← this]⟩) (M1, Y9 (Jh d) [] ((Jl d).map Yl).flatten) ⟨hM1, rfl⟩
  rw [e3]; rfl
end Go.Proofs.Ytijcchddnnnmdaa
namespace Go.Proofs.Ytijcchddnnnmdaa
open Go.RowKit Go.Shelf
set_option linter.unusedSimpArgs false
set_option linter.unusedVariables false
theorem JA : J8 Try.prog 72 0 = some 0 := by kernel_rfl
theorem JJ : J8 Try.prog 72 1 = some 1 := by kernel_rfl
theorem JV : Jn Try.prog 57 = some (false, 1) := by kernel_rfl
theorem Yw : Jn Try.prog 70 = some (false, 1) := by kernel_rfl
theorem J2 : Jn Try.prog 72 = some (true, 2) := by kernel_rfl
theorem J5 : QT Try.prog 22 = some (48, 23) := by kernel_rfl
theorem JP : QT Try.prog 54 = some (3, 1) := by kernel_rfl
theorem Y3 : QT Try.prog 57 = some (54, 1) := by kernel_rfl
theorem Xh : Jg Try.prog 3 = some [.int .i64 0] := by kernel_rfl
theorem Z8 : Jg Try.prog 48 = some [.int .i64 0, .string ByteArray.empty, .int .i64 0, .int .i64 0, .int .i64 0, .string ByteArray.empty, .slice none 0 0, .slice none 0 0, .int .i64 0, .int .i64 0, .string ByteArray.empty, .slice none 0 0, .slice none 0 0, .int .i64 0, .slice none 0 0, .int .i64 0, .int .i64 0, .int .i64 0, .string ByteArray.empty, .slice none 0 0, .slice none 0 0, .slice none 0 0, .slice none 0 0] := by kernel_rfl
theorem X6 : Jg Try.prog 54 = some [.slice none 0 0] := by kernel_rfl
theorem YJ : Jg Try.prog 72 = some [.slice none 0 0, .map none] := by kernel_rfl
theorem YR : Yh Try.prog 72 [(0, 1), (1, 1)] [.slice none 0 0, .map none] := ⟨by kernel_rfl, by kernel_rfl⟩
theorem X2 : Ya Try.prog 3 = some (1, 8) := by kernel_rfl
theorem GL : Ya Try.prog 54 = some (1, 24) := by kernel_rfl
theorem Yv : KB Try.prog 70 = some (false, .one (.d (.v (.int .i64 0)))) := by kernel_rfl
theorem en_23 : J9 Try.prog 23 := enters_of Try.func23 (by kernel_rfl) rfl
theorem GR : J9 Try.prog 34 := enters_of Try.func34 (by kernel_rfl) rfl
def Gk (x9 : (List Wy)) (s2 : Int × (Qc Wy Int)) (s3 : Int × (Qc Wy Int)) : Option (LO (Int × (Qc Wy Int)) (((Qc Wy Int)) ⊕ (((List (List Int)) × (Qc Wy Int)) ⊕ Unit ⊕ Unit))) :=
 cond (decide (s3.1 < (x9.length : Int)))
   (Option.bind (J1 x9 s3.1) fun (x12 : Wy) =>
 cond (Jr s3.2 x12)
   (some (.done (.inr (.inr (.inl ())))))
   (some (.next ((QW (s3.1 + 1)), (JR s3.2 x12 s2.1)))))
   (some (.done (.inl s3.2)))
def K8 (a0 : List Dcl) (s2 : Int × (Qc Wy Int)) : Option (LO (Int × (Qc Wy Int)) (((Qc Wy Int)) ⊕ (((List (List Int)) × (Qc Wy Int)) ⊕ Unit ⊕ Unit))) :=
 cond (decide (s2.1 < (a0.length : Int)))
   (Option.bind (J1 a0 s2.1) fun (x8 : Dcl) =>
 Option.bind (X8 x8) fun (x9 : (List Wy)) =>
 Option.bind (Qo (Gk x9 s2) QB (0, s2.2)) (Sum.elim (fun (o10 : (Qc Wy Int)) => some (.next ((QW (s2.1 + 1)), o10))) (fun o => some (.done (.inr o)))))
   (some (.done (.inl s2.2)))
def Gj (x10 : (List Wy)) (o6 : (Qc Wy Int)) (s3 : (List Int) × Int) : Option (LO ((List Int) × Int) (((List Int)) ⊕ (((List (List Int)) × (Qc Wy Int)) ⊕ Unit ⊕ Unit))) :=
 cond (decide (s3.2 < (x10.length : Int)))
   (Option.bind (J1 x10 s3.2) fun (x13 : Wy) =>
 cond (!(Jr o6 x13))
   (some (.done (.inr (.inr (.inr ())))))
   (Qm (Nat.ble (s3.1.length + ([(J7 o6 x13)]).length) 1000000000)
 (some (.next ((s3.1 ++ ([(J7 o6 x13)])), (QW (s3.2 + 1)))))))
   (some (.done (.inl s3.1)))
def K7 (a0 : List Dcl) (o6 : (Qc Wy Int)) (s2 : Int × (List (List Int))) : Option (LO (Int × (List (List Int))) (((List (List Int))) ⊕ (((List (List Int)) × (Qc Wy Int)) ⊕ Unit ⊕ Unit))) :=
 cond (decide (s2.1 < (a0.length : Int)))
   (Option.bind (J1 a0 s2.1) fun (x9 : Dcl) =>
 Option.bind (Xe x9) fun (x10 : (List Wy)) =>
 Option.bind (Qo (Gj x10 o6) QB (([] : List Int), 0)) (Sum.elim (fun (o11 : (List Int)) => Option.bind (YZ o11) fun (x12 : List Int) =>
 Option.bind (JM x12 ((Enc.encL o11).length)) fun (x13 : List Int) =>
 Qm (Nat.ble (s2.2.length + ([x13]).length) 1000000000)
 (some (.next ((QW (s2.1 + 1)), (s2.2 ++ ([x13])))))) (fun o => some (.done (.inr o)))))
   (some (.done (.inl s2.2)))
def m23 (a0 : List Dcl) : Option ((List (List Int)) × Int) :=
 Option.bind (Option.bind (Qo (K8 a0) QB (0, gmNil)) (Sum.elim (fun (o6 : (Qc Wy Int)) => Option.bind (Qo (K7 a0 o6) QB (0, ([] : List (List Int)))) (Sum.elim (fun (o7 : (List (List Int))) => some (.inl (o7, o6))) (fun o => some o))) (fun o => some o))) (Sum.elim (fun (y1 : (List (List Int)) × (Qc Wy Int)) => some (y1.1, 0)) (Sum.elim (fun (y2 : Unit) => some (([] : List (List Int)), 8)) (fun (y3 : Unit) => some (([] : List (List Int)), 9))))
end Go.Proofs.Ytijcchddnnnmdaa
namespace Go.Proofs.Ytijcchddnnnmdaa
open Go.RowKit Go.Shelf
set_option linter.unusedSimpArgs false
set_option linter.unusedVariables false
def m48_l0 (a0 : List Dcl) (a1 : Wy) (s1 : Int) : Option (LO Int (Unit ⊕ Int)) :=
 cond (decide (s1 < (a0.length : Int)))
   (Option.bind (J1 a0 s1) fun (x3 : Dcl) =>
 Option.bind (X9 x3) fun (x4 : (List Wy)) =>
 Option.bind (XI x4 a1) fun (x5 : Bool) =>
 cond x5
   (some (.done (.inr s1)))
   (some (.next (QW (s1 + 1)))))
   (some (.done (.inl ())))
def m48 (a0 : List Dcl) (a1 : Wy) : Option Int :=
 Option.bind (Qo (m48_l0 a0 a1) QB 0) (Sum.elim (fun (o1 : Unit) => some (-1)) (fun o => some o))
def m46_l0 (x4 : (List Wy)) (s2 : (List Wy) × Int) : Option (LO ((List Wy) × Int) (((List Wy)) ⊕ Int)) :=
 cond (decide (s2.2 < (x4.length : Int)))
   (Option.bind (J1 x4 s2.2) fun (x7 : Wy) =>
 Option.bind (XI s2.1 x7) fun (x8 : Bool) =>
 cond x8
   (some (.done (.inr 8)))
   (Option.bind (J1 x4 s2.2) fun (x10 : Wy) =>
 Qm (Nat.ble (s2.1.length + ([x10]).length) 1000000000)
 (some (.next ((s2.1 ++ ([x10])), (QW (s2.2 + 1)))))))
   (some (.done (.inl s2.1)))
def m46_l1 (a0 : List Dcl) (s1 : (List Wy) × Int) : Option (LO ((List Wy) × Int) (((List Wy)) ⊕ Int)) :=
 cond (decide (s1.2 < (a0.length : Int)))
   (Option.bind (J1 a0 s1.2) fun (x3 : Dcl) =>
 Option.bind (X9 x3) fun (x4 : (List Wy)) =>
 Option.bind (Qo (m46_l0 x4) QB (s1.1, 0)) (Sum.elim (fun (o5 : (List Wy)) => some (.next (o5, (QW (s1.2 + 1))))) (fun o => some (.done (.inr o)))))
   (some (.done (.inl s1.1)))
def m46_l2 (x5 : (List Wy)) (o1 : (List Wy)) (s2 : Int) : Option (LO Int (Unit ⊕ Int)) :=
 cond (decide (s2 < (x5.length : Int)))
   (Option.bind (J1 x5 s2) fun (x8 : Wy) =>
 Option.bind (XI o1 x8) fun (x9 : Bool) =>
 cond (!x9)
   (some (.done (.inr 9)))
   (some (.next (QW (s2 + 1)))))
   (some (.done (.inl ())))
def m46_l3 (a0 : List Dcl) (o1 : (List Wy)) (s1 : Int) : Option (LO Int (Unit ⊕ Int)) :=
 cond (decide (s1 < (a0.length : Int)))
   (Option.bind (J1 a0 s1) fun (x4 : Dcl) =>
 Option.bind (m47 x4) fun (x5 : (List Wy)) =>
 Option.bind (Qo (m46_l2 x5 o1) QB 0) (Sum.elim (fun (o6 : Unit) => some (.next (QW (s1 + 1)))) (fun o => some (.done (.inr o)))))
   (some (.done (.inl ())))
def m46 (a0 : List Dcl) : Option Int :=
 Option.bind (Qo (m46_l1 a0) QB (([] : List Wy), 0)) (Sum.elim (fun (o1 : (List Wy)) => Option.bind (Qo (m46_l3 a0 o1) QB 0) (Sum.elim (fun (o2 : Unit) => some 0) (fun o => some o))) (fun o => some o))
def m49_l0 (a0 : List Int) (a1 : Int) (s1 : Int) : Option (LO Int (Unit ⊕ Bool)) :=
 cond (decide (s1 < (a0.length : Int)))
   (Option.bind (J1 a0 s1) fun (x3 : Int) =>
 cond (x3 == a1)
   (some (.done (.inr true)))
   (some (.next (QW (s1 + 1)))))
   (some (.done (.inl ())))
def m49 (a0 : List Int) (a1 : Int) : Option Bool :=
 Option.bind (Qo (m49_l0 a0 a1) QB 0) (Sum.elim (fun (o1 : Unit) => some false) (fun o => some o))
def m25_l0 (x6 : (List Wy)) (a0 : List Dcl) (s2 : (List Int) × Int) : Option (LO ((List Int) × Int) (((List Int)))) :=
 cond (decide (s2.2 < (x6.length : Int)))
   (Option.bind (J1 x6 s2.2) fun (x9 : Wy) =>
 Option.bind (m48 a0 x9) fun (x10 : Int) =>
 Qm (Nat.ble (s2.1.length + ([x10]).length) 1000000000)
 (some (.next ((s2.1 ++ ([x10])), (QW (s2.2 + 1))))))
   (some (.done s2.1))
def m25_l1 (a0 : List Dcl) (o7 : (List Int)) (s2 : (List Int) × Int) : Option (LO ((List Int) × Int) (((List Int)))) :=
 cond (decide (s2.2 < (a0.length : Int)))
   (Option.bind (m49 o7 s2.2) fun (x10 : Bool) =>
 cond x10
   (Qm (Nat.ble (s2.1.length + ([s2.2]).length) 1000000000)
 (some (.next ((s2.1 ++ ([s2.2])), (QW (s2.2 + 1))))))
   (some (.next (s2.1, (QW (s2.2 + 1))))))
   (some (.done s2.1))
def m25_l2 (a0 : List Dcl) (s1 : (List (List Int)) × Int) : Option (LO ((List (List Int)) × Int) (((List (List Int))))) :=
 cond (decide (s1.2 < (a0.length : Int)))
   (Option.bind (J1 a0 s1.2) fun (x5 : Dcl) =>
 Option.bind (m47 x5) fun (x6 : (List Wy)) =>
 Option.bind (Qo (m25_l0 x6 a0) QB (([] : List Int), 0)) (fun (o7 : (List Int)) => Option.bind (Qo (m25_l1 a0 o7) QB (([] : List Int), 0)) (fun (o8 : (List Int)) => Qm (Nat.ble (s1.1.length + ([o8]).length) 1000000000)
 (some (.next ((s1.1 ++ ([o8])), (QW (s1.2 + 1))))))))
   (some (.done s1.1))
def m25 (a0 : List Dcl) : Option ((List (List Int)) × Int) :=
 Option.bind (m46 a0) fun (x1 : Int) =>
 cond (x1 != 0)
   (some (([] : List (List Int)), x1))
   (Option.bind (Qo (m25_l2 a0) QB (([] : List (List Int)), 0)) (fun (o3 : (List (List Int))) => some (o3, 0)))
end Go.Proofs.Ytijcchddnnnmdaa
namespace Go.Proofs.Ytijcchddnnnmdaa
open Go.RowKit Go.Lib
set_option linter.unusedSimpArgs false
set_option linter.unusedVariables false
set_option linter.unusedSectionVars false
theorem pair_lt_eq : ∀ {l m : List Int}, l.Pairwise (· < ·) → m.Pairwise (· < ·) → (∀ x, x ∈ l ↔ x ∈ m) → l = m
  | [], [], _, _, _ => rfl
  | [], y :: m, _, _, h => absurd ((h y).2 List.mem_cons_self) (by simp)
  | x :: l, [], _, _, h => absurd ((h x).1 List.mem_cons_self) (by simp)
  | x :: l, y :: m, hl, hm, h => by
    have hx := List.pairwise_cons.1 hl
    have hy := List.pairwise_cons.1 hm
    have hxy : x = y := by
      have h1 : x ∈ y :: m := (h x).1 List.mem_cons_self
      have h2 : y ∈ x :: l := (h y).2 List.mem_cons_self
      rcases List.mem_cons.1 h1 with e | h1
      · exact e
      rcases List.mem_cons.1 h2 with e | h2
      · exact e.symm
      have := hx.1 y h2
      have := hy.1 x h1
      omega
    subst hxy
    congr 1
    refine pair_lt_eq hx.2 hy.2 fun z => ?_
    have hz := h z
    simp only [List.mem_cons] at hz
    constructor
    · intro h1
      rcases hz.1 (.inr h1) with e | h2
      · have := hx.1 z h1; omega
      · exact h2
    · intro h1
      rcases hz.2 (.inr h1) with e | h2
      · have := hy.1 z h1; omega
      · exact h2
theorem Zb (zs : List Int) {j : Nat} (h : j < zs.length) : zs.toArray[j]! = zs[j] := by
  rw [getElem!_pos zs.toArray j (by simpa using h)]; rfl
theorem compact_sorted {zs : List Int} (h : zs.Pairwise (· ≤ ·)) : (Lib.compact zs).Pairwise (· < ·) ∧ ∀ x, x ∈ Lib.compact zs ↔ x ∈ zs := by
  have hle : ∀ i j, (hi : i < zs.length) → (hj : j < zs.length) → i ≤ j → zs[i] ≤ zs[j] := fun i j hi hj hij => by
    rcases Nat.lt_or_ge i j with h1 | h1
    · exact List.pairwise_iff_getElem.1 h i j hi hj h1
    · obtain rfl : i = j := by omega
      exact Int.le_refl _
  unfold Lib.compact compactUpTo
  constructor
  · rw [List.pairwise_map]
    have hr : ((List.range zs.length).filter (keeps zs.toArray)).Pairwise (fun a b => a < b ∧ a < zs.length ∧ b < zs.length ∧ keeps zs.toArray b = true) := by
      have h1 : ((List.range zs.length).filter (keeps zs.toArray)).Pairwise (· < ·) := List.Pairwise.filter _ List.pairwise_lt_range
      refine List.Pairwise.imp_of_mem (fun ha hb hab => ⟨hab, ?_, ?_, ?_⟩) h1
      · exact List.mem_range.1 (List.mem_filter.1 ha).1
      · exact List.mem_range.1 (List.mem_filter.1 hb).1
      · exact (List.mem_filter.1 hb).2
    refine List.Pairwise.imp (fun {a b} hab => ?_) hr
    obtain ⟨h1, h2, h3, h4⟩ := hab
    have hb0 : b ≠ 0 := by omega
    have hne : zs.toArray[b]! ≠ zs.toArray[b - 1]! := fun e => by rw [keeps_neg (by omega) e] at h4; cases h4
    rw [Zb zs h3, Zb zs (by omega)] at hne
    rw [Zb zs h2, Zb zs h3]
    have h5 := hle a (b - 1) h2 (by omega) (by omega)
    have h6 := hle (b - 1) b (by omega) h3 (by omega)
    omega
  · intro x
    rw [List.mem_map]
    constructor
    · rintro ⟨j, hj, rfl⟩
      have := List.mem_range.1 (List.mem_filter.1 hj).1
      rw [Zb zs this]; exact List.getElem_mem this
    · intro hx
      obtain ⟨j, hj, hjx⟩ := List.mem_iff_getElem.1 hx
      have key : ∀ j, (hj : j < zs.length) → zs[j] = x → ∃ k, k ∈ (List.range zs.length).filter (keeps zs.toArray) ∧ zs.toArray[k]! = x := by
        intro j
        induction j with
        | zero =>
          intro hj hjx
          exact ⟨0, List.mem_filter.2 ⟨List.mem_range.2 hj, keeps_lt_one _ 0 (by omega)⟩, by rw [Zb zs hj, hjx]⟩
        | succ j ih =>
          intro hj hjx
          by_cases e : zs[j] = x
          · exact ih (by omega) e
          · refine ⟨j + 1, List.mem_filter.2 ⟨List.mem_range.2 hj, keeps_pos ?_⟩, by rw [Zb zs hj, hjx]⟩
            rw [Zb zs hj, Nat.add_sub_cancel, Zb zs (by omega), hjx]
            exact fun e' => e e'.symm
      exact key j hj hjx
theorem sortI_mem (l : List Int) (x : Int) : x ∈ KC l ↔ x ∈ l := (Zo l).mem_iff
theorem sortI_len (l : List Int) : (KC l).length = l.length := (Zo l).length_eq
def QE (l : List Dcl) : List Wy := (l.map Jh).flatten
def Z1 (i : Int) : List Dcl → Wy → Option Int
  | [], _ => none
  | d :: l, s => if s ∈ Jh d then some i else Z1 (i + 1) l s
theorem ownO_app (s : Wy) (b : List Dcl) : ∀ (a : List Dcl) (i : Int), Z1 i (a ++ b) s = (Z1 i a s).or (Z1 (i + a.length) b s)
  | [], i => by simp [Z1]
  | d :: a, i => by
    simp only [List.cons_append, Z1]
    split
    · rfl
    · rw [ownO_app s b a (i + 1), show i + 1 + (a.length : Int) = i + ((d :: a).length : Int) by simp only [List.length_cons]; omega]
theorem ownO_some (s : Wy) : ∀ (l : List Dcl) (i j : Int), Z1 i l s = some j → ∃ k : Nat, ∃ d, j = i + k ∧ l[k]? = some d ∧ s ∈ Jh d
  | [], i, j, h => by cases h
  | d :: l, i, j, h => by
    simp only [Z1] at h
    split at h
    · cases h; exact ⟨0, d, by simp, rfl, ‹_›⟩
    · obtain ⟨k, d', h1, h2, h3⟩ := ownO_some s l (i + 1) j h
      exact ⟨k + 1, d', by omega, h2, h3⟩
theorem Zf (s : Wy) : ∀ (l : List Dcl) (i : Int), Z1 i l s = none ↔ s ∉ QE l
  | [], i => by simp [Z1, QE]
  | d :: l, i => by
    simp only [Z1]
    have ih := Zf s l (i + 1)
    unfold QE at ih ⊢
    simp only [List.map_cons, List.flatten_cons, List.mem_append, not_or]
    split
    · simp [*]
    · rw [ih]; simp [*]
def Ge (env : List Dcl) (s : Wy) : Int := (Z1 0 env s).getD 0
def Ke (env : List Dcl) : Nat := (env.map Dcl.size).sum
theorem K1 {env : List Dcl} {d : Dcl} (h : d ∈ env) : d.size ≤ Ke env := ZZ Dcl.size h
theorem Ky (env : List Dcl) : env.length ≤ Ke env := Ka Dcl.size (fun d => by unfold Dcl.size; omega) env
theorem all_len (env : List Dcl) : (QE env).length ≤ Ke env + env.length := by
  have := Kx Jh (fun d => d.size + 1) names_len env
  have h2 : ∀ l : List Dcl, (l.map (fun d => d.size + 1)).sum = (l.map Dcl.size).sum + l.length := by
    intro l
    induction l with
    | nil => rfl
    | cons x l ih => simp only [List.map_cons, List.sum_cons, List.length_cons, ih]; omega
  rw [h2] at this
  exact this
theorem all_snoc (a : List Dcl) (x : Dcl) : QE (a ++ [x]) = QE a ++ Jh x := by unfold QE; simp
theorem all_nodup {a b : List Dcl} (h : (QE (a ++ b)).Nodup) : (QE a).Nodup := by
  unfold QE at h ⊢
  rw [List.map_append, List.flatten_append] at h
  exact (List.nodup_append.1 h).1
def Ye (env : List Dcl) (l : List Dcl) : Prop := ∀ d ∈ l, ∀ s ∈ Kz d, s ∈ QE env
def row (env : List Dcl) (d : Dcl) : List Int := ((List.range env.length).map fun (k : Nat) => (k : Int)).filter fun j => decide (j ∈ (Kz d).map (Ge env))
def YT (env : List Dcl) : List (List Int) := env.map (row env)
inductive Says (env : List Dcl) : List (List Int) × Int → Prop
  | twice (h : ¬ (QE env).Nodup) : Says env ([], 8)
  | none (h : (QE env).Nodup) (h2 : ¬ Ye env env) : Says env ([], 9)
  | ok (h : (QE env).Nodup) (h2 : Ye env env) : Says env (YT env, 0)
theorem ownV_range {env : List Dcl} {s : Wy} (h : s ∈ QE env) : ∃ k : Nat, k < env.length ∧ Z1 0 env s = some (k : Int) := by
  cases h1 : Z1 0 env s with
  | none => exact absurd h ((Zf s env 0).1 h1)
  | some j =>
    obtain ⟨k, d, h2, h3, h4⟩ := ownO_some s env 0 j h1
    exact ⟨k, (List.getElem?_eq_some_iff.1 h3).1, by rw [h2, Int.zero_add]⟩
theorem row_pair (env : List Dcl) (d : Dcl) : (row env d).Pairwise (· < ·) := by
  refine List.Pairwise.filter _ ?_
  rw [List.pairwise_map]
  exact List.pairwise_lt_range.imp fun h => by omega
theorem row_mem {env : List Dcl} {d : Dcl} (h : ∀ s ∈ Kz d, s ∈ QE env) (x : Int) : x ∈ row env d ↔ x ∈ (Kz d).map (Ge env) := by
  unfold row
  rw [List.mem_filter, decide_eq_true_eq]
  refine ⟨fun h => h.2, fun hx => ⟨?_, hx⟩⟩
  obtain ⟨s, hs, rfl⟩ := List.mem_map.1 hx
  obtain ⟨k, hk, e⟩ := ownV_range (h s hs)
  unfold Ge
  rw [e]
  exact List.mem_map.2 ⟨k, List.mem_range.2 hk, rfl⟩
theorem row_sort {env : List Dcl} {d : Dcl} (h : ∀ s ∈ Kz d, s ∈ QE env) : Lib.compact (KC ((Kz d).map (Ge env))) = row env d := by
  obtain ⟨h1, h2⟩ := compact_sorted (sortI_pair ((Kz d).map (Ge env)))
  refine pair_lt_eq h1 (row_pair env d) fun x => ?_
  rw [h2, sortI_mem, row_mem h]
abbrev Wu := Qc Wy Int
theorem m23_l0_eq (i : Int) (M0 : Wu) (f : Wy → Option Int) (nx : List Wy) (hM : ∀ s, Z3 M0 s = f s) (hl : nx.length ≤ 900000000) : ∃ r, Qo (Gk nx (i, M0)) QB (0, M0) = some r ∧
    ((nx.Nodup ∧ (∀ s ∈ nx, f s = none) ∧ ∃ M', r = .inl M' ∧ ∀ s, Z3 M' s = (f s).or (if s ∈ nx then some i else none)) ∨ (¬ (nx.Nodup ∧ ∀ s ∈ nx, f s = none) ∧ r = .inr (.inr (.inl ())))) := by
  refine JD (step := Gk nx (i, M0)) nx (fun k (s : Wu) => (k, s)) (fun c M => c.Nodup ∧ (∀ s ∈ c, f s = none) ∧ ∀ s, Z3 M s = (f s).or (if s ∈ c then some i else none)) _ hl ?_ ?_ M0 ⟨List.nodup_nil, by simp, fun s => by rw [hM s]; simp⟩
  · intro a x b M e hI
    obtain ⟨h1, h2, h3⟩ := hI
    cases hx : Jr M x with
    | true =>
      refine .inl ⟨.inr (.inr (.inl ())), ?_, .inr ⟨?_, rfl⟩⟩
      · unfold Gk
        dsimp only
        rw [e, Ji, J6]
        simp only [cond_true, Option.bind_some]
        rw [hx]; rfl
      · rintro ⟨h4, h5⟩
        have h6 := h5 x (by rw [e]; simp)
        unfold Jr at hx
        rw [h3, h6] at hx
        by_cases hxa : x ∈ a
        · rw [e, List.nodup_append] at h4
          exact h4.2.2 x hxa x List.mem_cons_self rfl
        · simp [hxa] at hx
    | false =>
      refine .inr ⟨JR M x i, ?_, ?_, ?_, ?_⟩
      · unfold Gk
        dsimp only
        rw [e, Ji, J6]
        simp only [cond_true, Option.bind_some]
        rw [hx]; rfl
      · unfold Jr at hx
        rw [h3] at hx
        rw [List.nodup_append]
        refine ⟨h1, by simp, fun y hy z hz => ?_⟩
        rw [List.mem_singleton] at hz
        subst hz
        intro e2
        subst e2
        cases hf : f y with
        | some j => rw [hf] at hx; cases hx
        | none => rw [hf] at hx; simp [hy] at hx
      · intro s hs
        rcases List.mem_append.1 hs with hs | hs
        · exact h2 s hs
        · rw [List.mem_singleton] at hs
          subst hs
          unfold Jr at hx
          rw [h3] at hx
          cases hf : f s with
          | some j => rw [hf] at hx; cases hx
          | none => rfl
      · intro s
        rw [gmGet_set, h3]
        by_cases es : s = x
        · subst es
          unfold Jr at hx
          rw [h3] at hx
          cases hf : f s with
          | some j => rw [hf] at hx; cases hx
          | none => simp
        · rw [if_neg es]
          have : s ∈ a ++ [x] ↔ s ∈ a := by simp [es]
          simp only [this]
  · intro M hI
    refine ⟨.inl M, ?_, .inl ⟨hI.1, hI.2.1, M, rfl, hI.2.2⟩⟩
    unfold Gk
    dsimp only
    rw [Jz]; rfl
theorem nodup_snoc {a : List Dcl} {x : Dcl} (h : (QE a).Nodup) : (QE (a ++ [x])).Nodup ↔ ((Jh x).Nodup ∧ ∀ s ∈ Jh x, Z1 0 a s = none) := by
  rw [all_snoc, List.nodup_append]
  constructor
  · rintro ⟨-, h1, h2⟩
    exact ⟨h1, fun s hs => (Zf s a 0).2 fun h3 => h2 s h3 s hs rfl⟩
  · rintro ⟨h1, h2⟩
    exact ⟨h, h1, fun s hs t ht e => by subst e; exact (Zf s a 0).1 (h2 s ht) hs⟩
theorem m23_l1_eq (env : List Dcl) (hl : Ke env ≤ 100000000) : ∃ r, Qo (K8 env) QB (0, gmNil) = some r ∧
    (((QE env).Nodup ∧ ∃ M, r = .inl M ∧ ∀ s, Z3 M s = Z1 0 env s) ∨ (¬ (QE env).Nodup ∧ r = .inr (.inr (.inl ())))) := by
  have hel := Ky env
  refine JD (step := K8 env) env (fun k (s : Wu) => (k, s)) (fun a M => (QE a).Nodup ∧ ∀ s, Z3 M s = Z1 0 a s) _ (by omega) ?_ ?_ gmNil ⟨List.nodup_nil, fun s => rfl⟩
  · intro a x b M e hI
    have hx : x ∈ env := by rw [e]; simp
    have hxs := K1 hx
    have hnl := names_len x
    obtain ⟨h1, h2⟩ := hI
    obtain ⟨r, e1, hr⟩ := m23_l0_eq (a.length : Int) M (Z1 0 a) (Jh x) h2 (by omega)
    rcases hr with ⟨h3, h4, M', rfl, h5⟩ | ⟨h3, rfl⟩
    · refine .inr ⟨M', ?_, ?_, fun s => ?_⟩
      · unfold K8
        dsimp only
        rw [e, Ji, J6]
        simp only [cond_true, Option.bind_some]
        rw [m37_eq x (by omega), Option.bind_some, e1]; rfl
      · exact (nodup_snoc h1).2 ⟨h3, h4⟩
      · rw [h5, ownO_app, Int.zero_add]; rfl
    · refine .inl ⟨.inr (.inr (.inl ())), ?_, .inr ⟨?_, rfl⟩⟩
      · unfold K8
        dsimp only
        rw [e, Ji, J6]
        simp only [cond_true, Option.bind_some]
        rw [m37_eq x (by omega), Option.bind_some, e1]; rfl
      · intro h6
        rw [e, show a ++ x :: b = (a ++ [x]) ++ b by simp] at h6
        exact h3 ((nodup_snoc h1).1 (all_nodup h6))
  · intro M hI
    refine ⟨.inl M, ?_, .inl ⟨hI.1, M, rfl, hI.2⟩⟩
    unfold K8
    dsimp only
    rw [Jz]; rfl
theorem m23_l2_eq (env : List Dcl) (M : Wu) (hM : ∀ s, Z3 M s = Z1 0 env s) (u : List Wy) (hl : u.length ≤ 900000000) : ∃ r, Qo (Gj u M) QB ([], 0) = some r ∧
    (((∀ s ∈ u, s ∈ QE env) ∧ r = .inl (u.map (Ge env))) ∨ (¬ (∀ s ∈ u, s ∈ QE env) ∧ r = .inr (.inr (.inr ())))) := by
  have hv : ∀ s, J7 M s = Ge env s := fun s => by unfold J7 Ge; rw [hM]; rfl
  have hh : ∀ s, Jr M s = decide (s ∈ QE env) := fun s => by
    unfold Jr
    rw [hM]
    by_cases h : s ∈ QE env
    · obtain ⟨k, -, e⟩ := ownV_range h
      rw [e]; simp [h]
    · rw [(Zf s env 0).2 h]; simp [h]
  refine JD (step := Gj u M) u (fun k (s : List Int) => (s, k)) (fun a s => (∀ x ∈ a, x ∈ QE env) ∧ s = a.map (Ge env)) _ hl ?_ ?_ [] ⟨by simp, rfl⟩
  · intro a x b s e hI
    obtain ⟨h1, h2⟩ := hI
    have hal : a.length < u.length := YS e
    by_cases hx : x ∈ QE env
    · refine .inr ⟨s ++ [Ge env x], ?_, fun y hy => ?_, by rw [h2]; simp⟩
      · unfold Gj
        dsimp only
        rw [e, Ji, J6]
        simp only [cond_true, Option.bind_some]
        rw [hh, hv, Jq (by rw [h2]; simp; omega)]
        simp [hx]
      · rcases List.mem_append.1 hy with hy | hy
        · exact h1 y hy
        · rw [List.mem_singleton] at hy; subst hy; exact hx
    · refine .inl ⟨.inr (.inr (.inr ())), ?_, .inr ⟨fun h => hx (h x (by rw [e]; simp)), rfl⟩⟩
      unfold Gj
      dsimp only
      rw [e, Ji, J6]
      simp only [cond_true, Option.bind_some]
      rw [hh]
      simp [hx]
  · intro s hI
    refine ⟨.inl s, ?_, .inl ⟨hI.1, by rw [hI.2]⟩⟩
    unfold Gj
    dsimp only
    rw [Jz]; rfl
theorem m23_l3_eq (env : List Dcl) (M : Wu) (hM : ∀ s, Z3 M s = Z1 0 env s) (hl : Ke env ≤ 100000000) : ∃ r, Qo (K7 env M) QB (0, []) = some r ∧
    ((Ye env env ∧ r = .inl (YT env)) ∨ (¬ Ye env env ∧ r = .inr (.inr (.inr ())))) := by
  have hel := Ky env
  refine JD (step := K7 env M) env (fun k (s : List (List Int)) => (k, s)) (fun a s => Ye env a ∧ s = a.map (row env)) _ (by omega) ?_ ?_ [] ⟨by simp [Ye], rfl⟩
  · intro a x b s e hI
    obtain ⟨h1, h2⟩ := hI
    have hx : x ∈ env := by rw [e]; simp
    have hxs := K1 hx
    have hul := uses_len x
    have hal : a.length < env.length := YS e
    obtain ⟨r, e1, hr⟩ := m23_l2_eq env M hM (Kz x) (by omega)
    rcases hr with ⟨h3, rfl⟩ | ⟨h3, rfl⟩
    · refine .inr ⟨s ++ [row env x], ?_, fun d hd => ?_, by rw [h2]; simp⟩
      · unfold K7
        dsimp only
        rw [e, Ji, J6]
        simp only [cond_true, Option.bind_some]
        rw [m53_eq x (by omega), Option.bind_some, e1, Option.bind_some]
        dsimp only [Sum.elim]
        unfold YZ JM
        rw [← e, Nat.ble_eq_true_of_le (show ((Kz x).map (Ge env)).length ≤ 1000000000 by simp; omega), cond_true, Option.bind_some]
        rw [show Nat.beq (Enc.encL (KC ((Kz x).map (Ge env)))).length (Enc.encL ((Kz x).map (Ge env))).length = true from by rw [Enc.len, Enc.len, sortI_len, Nat.beq_refl]]
        rw [cond_true, Option.bind_some, row_sort h3, Jq (by rw [h2]; simp; omega)]
      · rcases List.mem_append.1 hd with hd | hd
        · exact h1 d hd
        · rw [List.mem_singleton] at hd; subst hd; exact h3
    · refine .inl ⟨.inr (.inr (.inr ())), ?_, .inr ⟨fun h => h3 (h x hx), rfl⟩⟩
      unfold K7
      dsimp only
      rw [e, Ji, J6]
      simp only [cond_true, Option.bind_some]
      rw [m53_eq x (by omega), Option.bind_some, e1]; rfl
  · intro s hI
    refine ⟨.inl s, ?_, .inl ⟨hI.1, by rw [hI.2]; rfl⟩⟩
    unfold K7
    dsimp only
    rw [Jz]; rfl
theorem newGraph_eq {γ : Type} (env : List Dcl) (hl : Ke env ≤ 100000000) : ∃ r, (Option.bind (Qo (K8 env) QB (0, gmNil)) (Sum.elim (fun (o6 : Wu) => Option.bind (Qo (K7 env o6) QB (0, ([] : List (List Int)))) (Sum.elim (fun (o7 : List (List Int)) => some (.inl (o7, o6))) (fun o => some o))) (fun o => some o))) = some r ∧
    ((¬ (QE env).Nodup ∧ r = .inr (.inl ())) ∨ ((QE env).Nodup ∧ ¬ Ye env env ∧ r = .inr (.inr ())) ∨ ((QE env).Nodup ∧ Ye env env ∧ ∃ M, r = .inl (YT env, M) ∧ ∀ s, Z3 M s = Z1 0 env s)) := by
  obtain ⟨r, e1, hr⟩ := m23_l1_eq env hl
  rw [e1, Option.bind_some]
  rcases hr with ⟨h1, M, rfl, hM⟩ | ⟨h1, rfl⟩
  · obtain ⟨r, e2, hr⟩ := m23_l3_eq env M hM hl
    dsimp only [Sum.elim]
    rw [e2, Option.bind_some]
    rcases hr with ⟨h2, rfl⟩ | ⟨h2, rfl⟩
    · exact ⟨_, rfl, .inr (.inr ⟨h1, h2, M, rfl, hM⟩)⟩
    · exact ⟨_, rfl, .inr (.inl ⟨h1, h2, rfl⟩)⟩
  · exact ⟨_, rfl, .inl ⟨h1, rfl⟩⟩
end Go.Proofs.Ytijcchddnnnmdaa
namespace Go.Proofs.Ytijcchddnnnmdaa
open Go.RowKit Go.Shelf
set_option linter.unusedSimpArgs false
set_option linter.unusedVariables false
theorem Ga : Jn Try.prog 54 = some (false, 1) := by kernel_rfl
theorem Z7 : Jn Try.prog 75 = some (false, 1) := by kernel_rfl
theorem Z6 : QT Try.prog 75 = some (4, 1) := by kernel_rfl
theorem XH : Jg Try.prog 4 = some [.bool false] := by kernel_rfl
theorem Xg : Jg Try.prog 75 = some [.slice none 0 0] := by kernel_rfl
theorem Xs : Ya Try.prog 4 = some (1, 1) := by kernel_rfl
theorem en_22 : J9 Try.prog 22 := enters_of Try.func22 (by kernel_rfl) rfl
theorem en_43 : J9 Try.prog 43 := enters_of Try.func43 (by kernel_rfl) rfl
theorem en_44 : J9 Try.prog 44 := enters_of Try.func44 (by kernel_rfl) rfl
theorem en_60 : J9 Try.prog 60 := enters_of Try.func60 (by kernel_rfl) rfl
def m44f7 (a0 : Int) (a1 : Nat) (a2 : List Bool) : Option Bool :=
 Option.bind (J1 a2 a0) fun (x1 : Bool) =>
 Qm (Nat.beq a2.length a1)
 (some (!x1))
set_option maxRecDepth 100000 in
set_option maxHeartbeats 2000000 in
theorem m44f7_ok (a0 : Int) (a1 : Nat) (a2 : List Bool) (r : Bool) (h0 : m44f7 a0 a1 a2 = some r) : CallM Try.prog 44 [.one (Wg a0), .one (.ptr 0 0)] ⟨[(0, .cells 75 [.osl 1 0 a1 a1]), (1, .cells 4 (Q6 a2))], [], 2⟩ (Qr [.one (Wh r)]) ⟨[(0, .cells 75 [.osl 1 0 a1 a1]), (1, .cells 4 (Q6 a2))], [], 2⟩ := by
 unfold m44f7 at h0
 refine QM ⟨[(3, .v (.one (Wh r)))], [(0, .cells 75 [.osl 1 0 a1 a1]), (1, .cells 4 (Q6 a2))], [], 2, 9, []⟩ rfl rfl en_44 (W1 rfl) rfl (Qp rfl .nil) (fun w0 M V0 Q hv0 hQ0 => ?_)
 simp only [Jc]
 refine Q2 <| Q0 <| XS rfl rfl rfl <| Q3 <| Q1 <| Q2 <| Q0 <| XP rfl rfl rfl (Q7 Z7 rfl rfl rfl) <| XR rfl rfl rfl ?_
 refine Qb h0 (fun x1 hx1 h0 => ?_)
 refine QO h0 (fun g2 h0 => ?_)
 refine XP rfl rfl rfl (Jk (α := Bool) Z6 rfl rfl hx1 g2) <| XP rfl rfl rfl (YI (α := Bool) (m := a0) (f := 0) Gv rfl rfl hx1 rfl) <| XP rfl rfl rfl (Jp rfl) <| XS rfl rfl rfl <| Q3 <| Q1 <| Qw ?_
 have e := XN h0; subst e
 exact hQ0 _ _ _ (.inr rfl) rfl (Qh (XK rfl XJ) (W8 rfl (W8 rfl W7)) W3 rfl (Nat.le_trans hv0 (W1 rfl)) rfl rfl rfl (Wp rfl rfl (Wo rfl Wm)) rfl rfl)
def m60f6_l0 (a0 : List Int) (a1 : Nat) (a2 : List Bool) (s1 : Int) : Option (LO Int (Unit ⊕ Int)) :=
 cond (decide (s1 < (a0.length : Int)))
   (Option.bind (J1 a0 s1) fun (x3 : Int) =>
 Option.bind (m44f7 x3 a1 a2) fun (x4 : Bool) =>
 cond x4
   (some (.done (.inr s1)))
   (some (.next (QW (s1 + 1)))))
   (some (.done (.inl ())))
def m60f6 (a0 : List Int) (a1 : Nat) (a2 : List Bool) : Option Int :=
 Option.bind (Qo (m60f6_l0 a0 a1 a2) QB 0) (Sum.elim (fun (o1 : Unit) => some (-1)) (fun o => some o))
set_option maxRecDepth 100000 in
set_option maxHeartbeats 2000000 in
theorem m60f6_ok (a0 : List Int) (a1 : Nat) (a2 : List Bool) (r : Int) (h0 : m60f6 a0 a1 a2 = some r) : CallM Try.prog 60 [.one (We a0), .one (.fn 44 [(0, 0)])] ⟨[(0, .cells 75 [.osl 1 0 a1 a1]), (1, .cells 4 (Q6 a2))], [], 2⟩ (Qr [.one (Wg r)]) ⟨[(0, .cells 75 [.osl 1 0 a1 a1]), (1, .cells 4 (Q6 a2))], [], 2⟩ := by
 unfold m60f6 at h0
 refine QM ⟨[(4, .v (.one (Wg r)))], [(0, .cells 75 [.osl 1 0 a1 a1]), (1, .cells 4 (Q6 a2))], [], 2, 19, []⟩ rfl rfl en_60 (W1 rfl) rfl (Qp rfl .nil) (fun w0 M V0 Q hv0 hQ0 => ?_)
 simp only [Jc]
 refine Q2 <| Q0 <| XS rfl rfl rfl <| Q3 <| Q1 <| Q2 <| Q2 <| Q0 <| XR rfl rfl rfl <| XP rfl rfl rfl (Qy (α := Int) JP rfl (.d _)) <| XR rfl rfl rfl <| Q3 <| Q1 <| Qd ?_
 refine QI 0 (fun (o1 : Unit) => ⟨[], [(0, .cells 75 [.osl 1 0 a1 a1]), (1, .cells 4 (Q6 a2))], [], 2, 19, []⟩) (fun (o1 : Unit) => (some (-1)) = some r) ?_ ?_
 refine Qb h0 (fun o2 hl1 h0 => ?_)
 refine QH (m60f6_l0 a0 a1 a2) (fun s1 => ⟨[(0, .v (.one (We a0))), (1, .v (.one (.fn 44 [(0, 0)]))), (7, .v (.one (Wg (a0.length : Int)))), (8, .v (.one (Wg s1)))], [(0, .cells 75 [.osl 1 0 a1 a1]), (1, .cells 4 (Q6 a2))], [], 2, 19, []⟩) 0 o2 (Qh (XK rfl (XK rfl (XK rfl (XK rfl XJ)))) (W8 rfl (W8 rfl W7)) W3 rfl (Nat.le_trans hv0 (W1 rfl)) rfl rfl rfl (Wp rfl rfl (Wo rfl Wm)) rfl rfl) hl1 (fun s1 n1 oo1 h1 ho1 => ?_)
 unfold m60f6_l0 at h1
 refine Q2 <| Q0 <| XP rfl rfl rfl (Q4 rfl rfl rfl) <| Q3 <| Q1 <| Q2 ?_
 refine Qg (b := (decide (s1 < (a0.length : Int)))) rfl (fun c3 => ?_) (fun c3 => ?_)
 replace h1 := Qu c3 h1
 refine Qj <| Q1 <| Q2 <| Qd <| Q2 <| Q0 <| XR rfl rfl rfl <| XS rfl rfl rfl <| Q3 <| Q1 <| Q2 <| Q0 <| XR rfl rfl rfl <| XR rfl rfl rfl ?_
 refine XR rfl rfl rfl ?_
 refine Qb h1 (fun x4 hx4 h1 => ?_)
 refine XP rfl rfl rfl (Qq (α := Int) JP rfl (.d _) rfl hx4) <| XP rfl rfl rfl (QK Gb rfl rfl) ?_
 refine Qb h1 (fun x5 hx5 h1 => ?_)
 refine Q9 rfl rfl (W1 rfl) (QS (hp1' := [(0, .cells 75 [.osl 1 0 a1 a1]), (1, .cells 4 (Q6 a2))]) (tk1' := []) (hpF := []) (tkF := []) (res2 := Qr [.one (Wh x5)]) (nx2 := 2) [0, 1] rfl rfl (m44f7_ok x4 a1 a2 x5 hx5) rfl rfl (XW rfl rfl (XV rfl XT)) rfl rfl (Wb rfl (Wd rfl Wa)) W5 W7 W3 rfl rfl rfl rfl rfl (Wp rfl rfl (Wo rfl Wm)) rfl rfl rfl rfl) <| Q3 <| Q1 ?_
 refine Qg (b := x5) rfl (fun c6 => ?_) (fun c6 => ?_)
 replace h1 := Qu c6 h1
 refine Q2 <| Q0 <| XR rfl rfl rfl <| XS rfl rfl rfl <| Q3 <| Q1 <| Qw ?_
 have e := XN h1; subst e
 have e_ : _ = _ := ho1
 subst e_
 try dsimp only [Sum.elim_inl, Sum.elim_inr] at h0
 have e := XN h0; subst e
 exact hQ0 _ _ _ (.inr rfl) rfl (Qh (XK rfl XJ) (W8 rfl (W8 rfl W7)) W3 rfl (Nat.le_trans hv0 (W1 rfl)) rfl rfl rfl (Wp rfl rfl (Wo rfl Wm)) rfl rfl)
 replace h1 := Qv c6 h1
 refine Qj <| Qk <| Q1 <| Q0 <| XP rfl rfl rfl (Q4 rfl rfl rfl) <| XR rfl rfl rfl <| Q3 ?_
 have e := XN h1; subst e
 refine QD (QW (s1 + 1)) (Qh (XK rfl (XK rfl (XK rfl (XK rfl XJ)))) (W8 rfl (W8 rfl W7)) W3 rfl (Nat.le_trans hv0 (W1 rfl)) rfl rfl rfl (Wp rfl rfl (Wo rfl Wm)) rfl rfl) ho1
 replace h1 := Qv c3 h1
 refine QN <| Qf <| Qf ?_
 have e := XN h1; subst e
 have e_ : _ = _ := ho1
 subst e_
 exact QF () (Qh XJ (W8 rfl (W8 rfl W7)) W3 rfl (Nat.le_trans hv0 (W1 rfl)) rfl rfl rfl (Wp rfl rfl (Wo rfl Wm)) rfl rfl) h0
 intro o1 h0
 refine Qx <| Q1 <| Q2 <| Q0 <| XS rfl rfl rfl <| Q3 <| Q1 <| Qw ?_
 have e := XN h0; subst e
 exact hQ0 _ _ _ (.inr rfl) rfl (Qh (XK rfl XJ) (W8 rfl (W8 rfl W7)) W3 rfl (Nat.le_trans hv0 (W1 rfl)) rfl rfl rfl (Wp rfl rfl (Wo rfl Wm)) rfl rfl)
def m43f5 (a0 : List Int) (a1 : Nat) (a2 : List Bool) : Option Bool :=
 Option.bind (m60f6 a0 a1 a2) fun (x1 : Int) =>
 some (decide (0 ≤ x1))
set_option maxRecDepth 100000 in
set_option maxHeartbeats 2000000 in
theorem m43f5_ok (a0 : List Int) (a1 : Nat) (a2 : List Bool) (r : Bool) (h0 : m43f5 a0 a1 a2 = some r) : CallM Try.prog 43 [.one (We a0), .one (.fn 44 [(0, 0)])] ⟨[(0, .cells 75 [.osl 1 0 a1 a1]), (1, .cells 4 (Q6 a2))], [], 2⟩ (Qr [.one (Wh r)]) ⟨[(0, .cells 75 [.osl 1 0 a1 a1]), (1, .cells 4 (Q6 a2))], [], 2⟩ := by
 unfold m43f5 at h0
 refine QM ⟨[(4, .v (.one (Wh r)))], [(0, .cells 75 [.osl 1 0 a1 a1]), (1, .cells 4 (Q6 a2))], [], 2, 9, []⟩ rfl rfl en_43 (W1 rfl) rfl (Qp rfl .nil) (fun w0 M V0 Q hv0 hQ0 => ?_)
 simp only [Jc]
 refine Q2 <| Q0 <| XS rfl rfl rfl <| Q3 <| Q1 <| Q2 <| Q0 <| XR rfl rfl rfl <| XR rfl rfl rfl ?_
 refine Qb h0 (fun x1 hx1 h0 => ?_)
 refine Q9 rfl rfl (W1 rfl) (QS (hp1' := [(0, .cells 75 [.osl 1 0 a1 a1]), (1, .cells 4 (Q6 a2))]) (tk1' := []) (hpF := []) (tkF := []) (res2 := Qr [.one (Wg x1)]) (nx2 := 2) [0, 1] rfl rfl (m60f6_ok a0 a1 a2 x1 hx1) rfl rfl (XW rfl rfl (XV rfl XT)) rfl rfl (Wb rfl (Wd rfl Wa)) W5 W7 W3 rfl rfl rfl rfl rfl (Wp rfl rfl (Wo rfl Wm)) rfl rfl rfl rfl) <| XP rfl rfl rfl (Q4 rfl rfl rfl) <| XS rfl rfl rfl <| Q3 <| Q1 <| Qw ?_
 have e := XN h0; subst e
 exact hQ0 _ _ _ (.inr rfl) rfl (Qh (XK rfl XJ) (W8 rfl (W8 rfl W7)) W3 rfl (Nat.le_trans hv0 (W1 rfl)) rfl rfl rfl (Wp rfl rfl (Wo rfl Wm)) rfl rfl)
def m22_l0 (x9 : (List Wy)) (s2 : Int × (Qc Wy Int)) (s3 : Int × (Qc Wy Int)) : Option (LO (Int × (Qc Wy Int)) (((Qc Wy Int)) ⊕ (((List (List Int)) × (Qc Wy Int)) ⊕ Unit ⊕ Unit))) :=
 cond (decide (s3.1 < (x9.length : Int)))
   (Option.bind (J1 x9 s3.1) fun (x12 : Wy) =>
 cond (Jr s3.2 x12)
   (some (.done (.inr (.inr (.inl ())))))
   (some (.next ((QW (s3.1 + 1)), (JR s3.2 x12 s2.1)))))
   (some (.done (.inl s3.2)))
def m22_l1 (a0 : List Dcl) (s2 : Int × (Qc Wy Int)) : Option (LO (Int × (Qc Wy Int)) (((Qc Wy Int)) ⊕ (((List (List Int)) × (Qc Wy Int)) ⊕ Unit ⊕ Unit))) :=
 cond (decide (s2.1 < (a0.length : Int)))
   (Option.bind (J1 a0 s2.1) fun (x8 : Dcl) =>
 Option.bind (X8 x8) fun (x9 : (List Wy)) =>
 Option.bind (Qo (m22_l0 x9 s2) QB (0, s2.2)) (Sum.elim (fun (o10 : (Qc Wy Int)) => some (.next ((QW (s2.1 + 1)), o10))) (fun o => some (.done (.inr o)))))
   (some (.done (.inl s2.2)))
def m22_l2 (x10 : (List Wy)) (o6 : (Qc Wy Int)) (s3 : (List Int) × Int) : Option (LO ((List Int) × Int) (((List Int)) ⊕ (((List (List Int)) × (Qc Wy Int)) ⊕ Unit ⊕ Unit))) :=
 cond (decide (s3.2 < (x10.length : Int)))
   (Option.bind (J1 x10 s3.2) fun (x13 : Wy) =>
 cond (!(Jr o6 x13))
   (some (.done (.inr (.inr (.inr ())))))
   (Qm (Nat.ble (s3.1.length + ([(J7 o6 x13)]).length) 1000000000)
 (some (.next ((s3.1 ++ ([(J7 o6 x13)])), (QW (s3.2 + 1)))))))
   (some (.done (.inl s3.1)))
def m22_l3 (a0 : List Dcl) (o6 : (Qc Wy Int)) (s2 : Int × (List (List Int))) : Option (LO (Int × (List (List Int))) (((List (List Int))) ⊕ (((List (List Int)) × (Qc Wy Int)) ⊕ Unit ⊕ Unit))) :=
 cond (decide (s2.1 < (a0.length : Int)))
   (Option.bind (J1 a0 s2.1) fun (x9 : Dcl) =>
 Option.bind (Xe x9) fun (x10 : (List Wy)) =>
 Option.bind (Qo (m22_l2 x10 o6) QB (([] : List Int), 0)) (Sum.elim (fun (o11 : (List Int)) => Option.bind (YZ o11) fun (x12 : List Int) =>
 Option.bind (JM x12 ((Enc.encL o11).length)) fun (x13 : List Int) =>
 Qm (Nat.ble (s2.2.length + ([x13]).length) 1000000000)
 (some (.next ((QW (s2.1 + 1)), (s2.2 ++ ([x13])))))) (fun o => some (.done (.inr o)))))
   (some (.done (.inl s2.2)))
def m22_l4 (y1 : (List (List Int)) × (Qc Wy Int)) (s1 : (List Int) × (List Bool)) (a0 : List Dcl) (s2 : Int) : Option (LO Int Int) :=
 cond (decide (s2 < (y1.1.length : Int)))
   (Option.bind (J1 y1.1 s2) fun (x35 : List Int) =>
 Option.bind (Option.bind (J1 s1.2 s2) fun (x37 : Bool) =>
 Qm (Nat.beq s1.2.length ((a0.length : Int).toNat))
 (cond (!x37)
   (Option.bind (m43f5 x35 ((a0.length : Int).toNat) s1.2) fun (x40 : Bool) =>
 some (!x40))
   (some false))) (fun (v36 : Bool) => cond v36
   (some (.done s2))
   (some (.next (QW (s2 + 1))))))
   (some (.done (-1)))
def m22_l5 (a0 : List Dcl) (y1 : (List (List Int)) × (Qc Wy Int)) (s1 : (List Int) × (List Bool)) : Option (LO ((List Int) × (List Bool)) (((List Int) × (List Bool)) ⊕ ((List Int) × Int))) :=
 cond (decide ((s1.1.length : Int) < (a0.length : Int)))
   (Option.bind (Qo (m22_l4 y1 s1 a0) QB 0) (fun (o33 : Int) => cond (decide (o33 < 0))
   (some (.done (.inr (([] : List Int), 22))))
   (Option.bind (J1 s1.2 o33) fun (x35 : Bool) =>
 Qm (Nat.beq s1.2.length ((a0.length : Int).toNat))
 (Qm (Nat.ble (s1.1.length + ([o33]).length) 1000000000)
 (some (.next ((s1.1 ++ ([o33])), (s1.2.set o33.toNat true))))))))
   (some (.done (.inl (s1.1, s1.2))))
def m22 (a0 : List Dcl) : Option ((List Int) × Int) :=
 Option.bind (Option.bind (Qo (m22_l1 a0) QB (0, gmNil)) (Sum.elim (fun (o6 : (Qc Wy Int)) => Option.bind (Qo (m22_l3 a0 o6) QB (0, ([] : List (List Int)))) (Sum.elim (fun (o7 : (List (List Int))) => some (.inl (o7, o6))) (fun o => some o))) (fun o => some o))) (Sum.elim (fun (y1 : (List (List Int)) × (Qc Wy Int)) => Qm (cond (decide (0 ≤ (a0.length : Int))) (Nat.ble (1 * (a0.length : Int).toNat) 281474976710656) false)
 (Option.bind (Qo (m22_l5 a0 y1) QB (([] : List Int), (List.replicate (a0.length : Int).toNat false))) (Sum.elim (fun (o31 : (List Int) × (List Bool)) => some (o31.1, 0)) (fun o => some o)))) (Sum.elim (fun (y2 : Unit) => some (([] : List Int), 8)) (fun (y3 : Unit) => some (([] : List Int), 9))))
end Go.Proofs.Ytijcchddnnnmdaa
namespace Go.Proofs.Ytijcchddnnnmdaa
open Go.RowKit Go.Shelf
set_option linter.unusedSimpArgs false
set_option linter.unusedVariables false
def m26_l0 (x1 : (List (List Int)) × Int) (s2 : Int × Int) (s1 : (List Int)) (s3 : Bool × Int) : Option (LO (Bool × Int) Bool) :=
 Option.bind (J1 x1.1 s2.2) fun (x10 : List Int) =>
 cond (decide (s3.2 < (x10.length : Int)))
   (Option.bind (cond s3.1
   (Option.bind (J1 x1.1 s2.2) fun (x14 : List Int) =>
 Option.bind (J1 x14 s3.2) fun (x15 : Int) =>
 Option.bind (m49 s1 x15) fun (x16 : Bool) =>
 some x16)
   (some false)) (fun (v12 : Bool) => some (.next (v12, (QW (s3.2 + 1))))))
   (some (.done s3.1))
def m26_l1 (a0 : List Dcl) (s1 : (List Int)) (x1 : (List (List Int)) × Int) (s2 : Int × Int) : Option (LO (Int × Int) Int) :=
 Option.bind (cond (decide (s2.2 < (a0.length : Int)))
   (some (decide (s2.1 < 0)))
   (some false)) (fun (v6 : Bool) => cond v6
   (Option.bind (m49 s1 s2.2) fun (x8 : Bool) =>
 Option.bind (Qo (m26_l0 x1 s2 s1) QB ((!x8), 0)) (fun (o9 : Bool) => cond o9
   (some (.next (s2.2, (QW (s2.2 + 1)))))
   (some (.next (s2.1, (QW (s2.2 + 1)))))))
   (some (.done s2.1)))
def m26_l2 (a0 : List Dcl) (x1 : (List (List Int)) × Int) (s1 : (List Int)) : Option (LO ((List Int)) (((List Int)) ⊕ ((List Int) × Int))) :=
 cond (decide ((s1.length : Int) < (a0.length : Int)))
   (Option.bind (Qo (m26_l1 a0 s1 x1) QB ((-1), 0)) (fun (o5 : Int) => cond (decide (o5 < 0))
   (some (.done (.inr (([] : List Int), 22))))
   (Qm (Nat.ble (s1.length + ([o5]).length) 1000000000)
 (some (.next (s1 ++ ([o5])))))))
   (some (.done (.inl s1)))
def m26 (a0 : List Dcl) : Option ((List Int) × Int) :=
 Option.bind (m25 a0) fun (x1 : (List (List Int)) × Int) =>
 cond (x1.2 != 0)
   (some (([] : List Int), x1.2))
   (Option.bind (Qo (m26_l2 a0 x1) QB ([] : List Int)) (Sum.elim (fun (o3 : (List Int)) => some (o3, 0)) (fun o => some o)))
end Go.Proofs.Ytijcchddnnnmdaa
namespace Go.Proofs.Ytijcchddnnnmdaa
open Go.RowKit Go.Lib
set_option linter.unusedSimpArgs false
set_option linter.unusedVariables false
set_option linter.unusedSectionVars false
def Gr (g : List (List Int)) (n : Nat) : Prop := g.length = n ∧ ∀ l ∈ g, l.length ≤ n ∧ ∀ j ∈ l, ∃ k : Nat, k < n ∧ j = (k : Int)
theorem graph_gr {env : List Dcl} (h : Ye env env) : Gr (YT env) env.length := by
  refine ⟨by unfold YT; simp, fun l hl => ?_⟩
  unfold YT at hl
  obtain ⟨d, hd, rfl⟩ := List.mem_map.1 hl
  refine ⟨?_, fun j hj => ?_⟩
  · unfold row
    refine Nat.le_trans (List.length_filter_le _ _) ?_
    simp
  · unfold row at hj
    obtain ⟨k, hk, rfl⟩ := List.mem_map.1 (List.mem_filter.1 hj).1
    exact ⟨k, List.mem_range.1 hk, rfl⟩
def readyL (out : List Int) (i : Nat) (l : List Int) : Bool := decide ((i : Int) ∉ out) && l.all fun j => decide (j ∈ out)
def pickF (out : List Int) : Nat → List (List Int) → Option Nat
  | _, [] => none
  | i, l :: g => if readyL out i l then some i else pickF out (i + 1) g
def orderG (g : List (List Int)) : Nat → List Int → List Int ⊕ Unit
  | 0, out => .inl out
  | k + 1, out => match pickF out 0 g with
    | none => .inr ()
    | some i => orderG g k (out ++ [(i : Int)])
inductive OSays (env : List Dcl) : List Int × Int → Prop
  | twice (h : ¬ (QE env).Nodup) : OSays env ([], 8)
  | none (h : (QE env).Nodup) (h2 : ¬ Ye env env) : OSays env ([], 9)
  | loop (h : (QE env).Nodup) (h2 : Ye env env) (h3 : orderG (YT env) env.length [] = .inr ()) : OSays env ([], 22)
  | ok (h : (QE env).Nodup) (h2 : Ye env env) (o : List Int) (h3 : orderG (YT env) env.length [] = .inl o) : OSays env (o, 0)
end Go.Proofs.Ytijcchddnnnmdaa
namespace Go.Proofs.Ytijcchddnnnmdaa
open Go.RowKit
set_option linter.unusedSimpArgs false
set_option linter.unusedVariables false
set_option linter.unusedSectionVars false
def rowCell (base : Nat) (es : List (List Int)) (k : Nat) : CA := .app (base + k % 1000) 1 (Enc.encL (es.getD k []))
def Ju (base : Nat) (es : List (List Int)) : List CA := (List.range es.length).map (rowCell base es)
def Yd (base : Nat) (es : List (List Int)) : List (Nat × Option Tok) := (List.range (min es.length 1000)).map fun k => (base + k % 1000, some ⟨3, 1, (Enc.encL (es.getD k [])).length, []⟩)
theorem rowCells_get {base : Nat} {es : List (List Int)} {k : Nat} {row : List Int} (h : es[k]? = some row) : (Ju base es)[k]? = some (.app (base + k % 1000) 1 (Enc.encL row)) := by
  have hlt := (List.getElem?_eq_some_iff.1 h).1
  have e1 : es.getD k [] = row := by rw [List.getD_eq_getElem?_getD, h]; rfl
  simp only [Ju, rowCell, List.getElem?_map, List.getElem?_range hlt, Option.map_some, e1]
theorem YL (base : Nat) (es : List (List Int)) : (Ju base es).length = es.length := by simp [Ju]
theorem rowCells_set {base : Nat} {es : List (List Int)} {k : Nat} {row : List Int} (hk : k < es.length) : (Ju base es).set k (.app (base + k % 1000) 1 (Enc.encL row)) = Ju base (es.set k row) := by
  apply List.ext_getElem?
  intro j
  rw [List.getElem?_set, YL]
  by_cases hj : k = j
  · subst hj
    rw [if_pos rfl, if_pos hk, rowCells_get (row := row) (by rw [List.getElem?_set, if_pos rfl, if_pos hk])]
  · rw [if_neg hj]
    cases h : es[j]? with
    | none =>
      have h1 : es.length ≤ j := List.getElem?_eq_none_iff.1 h
      rw [List.getElem?_eq_none (by rw [YL]; exact h1), List.getElem?_eq_none (by rw [YL, List.length_set]; exact h1)]
    | some r => rw [rowCells_get h, rowCells_get (row := r) (by rw [List.getElem?_set, if_neg hj]; exact h)]
theorem lk_rangeMap {α : Type} (f : Nat → Nat) (v : Nat → α) : ∀ (l : List Nat) (k : Nat), k ∈ l → (∀ a ∈ l, f a = f k → a = k) → W0 (l.map fun a => (f a, v a)) (f k) = some (v k)
  | a :: l, k, hk, hi => by
    rw [List.map_cons, Qn]
    by_cases h : f a = f k
    · rw [if_pos h, hi a List.mem_cons_self h]
    · rw [if_neg h]
      have : k ∈ l := (List.mem_cons.1 hk).resolve_left fun e => h (by rw [e])
      exact lk_rangeMap f v l k this fun b hb => hi b (List.mem_cons_of_mem _ hb)
theorem rowToks_get {base : Nat} {es : List (List Int)} {k : Nat} {row : List Int} (h : es[k]? = some row) (hl : es.length ≤ 1000) : W0 (Yd base es) (base + k % 1000) = some (some ⟨3, 1, (Enc.encL row).length, []⟩) := by
  have hlt := (List.getElem?_eq_some_iff.1 h).1
  have e1 : es.getD k [] = row := by rw [List.getD_eq_getElem?_getD, h]; rfl
  have := lk_rangeMap (fun a => base + a % 1000) (fun a => (some ⟨3, 1, (Enc.encL (es.getD a [])).length, []⟩ : Option Tok)) (List.range (min es.length 1000)) k (List.mem_range.2 (by omega)) (fun a ha e => by
    have := List.mem_range.1 ha
    rw [Nat.mod_eq_of_lt (by omega), Nat.mod_eq_of_lt (by omega)] at e
    omega)
  rw [e1] at this
  exact this
theorem YC (base nx : Nat) (es : List (List Int)) (h : Nat.ble (base + 1000) nx = true) : ((Yd base es).all fun p => Nat.blt p.1 nx) = true := by
  have h1 := Nat.le_of_ble_eq_true h
  refine List.all_eq_true.2 fun p hp => ?_
  obtain ⟨k, -, rfl⟩ := List.mem_map.1 hp
  have : k % 1000 < 1000 := Nat.mod_lt _ (by decide)
  exact Nat.ble_eq_true_of_le (by dsimp only; omega)
theorem rowCells_below (base nx : Nat) (es : List (List Int)) (h : Nat.ble (base + 1000) nx = true) : ∀ x ∈ Ju base es, x.below nx := fun x hx => by
  have h1 := Nat.le_of_ble_eq_true h
  obtain ⟨k, -, rfl⟩ := List.mem_map.1 hx
  have : k % 1000 < 1000 := Nat.mod_lt _ (by decide)
  show base + k % 1000 < nx
  omega
abbrev nilC : CA := .d (.v (.slice none 0 0))
theorem ZR {α : Type} (n k : Nat) : (List.replicate n ([] : List α)).getD k [] = [] := by
  rw [List.getD_eq_getElem?_getD, List.getElem?_replicate]
  split <;> rfl
theorem rowCells_rep (base n : Nat) : Ju base (List.replicate (n + 1) []) = Ju base (List.replicate n []) ++ [.app (base + n % 1000) 1 []] := by
  unfold Ju rowCell
  rw [List.length_replicate, List.length_replicate, List.range_succ, List.map_append]
  congr 1
  · exact List.map_congr_left fun k hk => by rw [ZR, ZR]
  · rw [List.map_singleton, ZR]; rfl
theorem rowToks_rep (base n : Nat) (hn : n < 1000) : Yd base (List.replicate (n + 1) []) = Yd base (List.replicate n []) ++ [(base + n % 1000, some ⟨3, 1, 0, []⟩)] := by
  unfold Yd
  rw [List.length_replicate, List.length_replicate, Nat.min_eq_left (by omega), Nat.min_eq_left (by omega), List.range_succ, List.map_append]
  congr 1
  · exact List.map_congr_left fun k hk => by rw [ZR, ZR]
  · rw [List.map_singleton, ZR]; rfl
theorem HRel.adoptRows {E : Env} {V : Vu} {hp : List (Nat × HB)} {tk : List (Nat × Option Tok)} {w : World} (H : HRel E V hp tk w) {i : Nat} {T : TypeId} (n : Nat) (hn : n ≤ 1000) (hi : W0 hp i = some (.cells T (List.replicate n nilC))) :
    ∀ k, k ≤ n → ∃ V', HRel E V' ((i, .cells T (Ju V.nx (List.replicate k []) ++ List.replicate (n - k) nilC)) :: hp) (Yd V.nx (List.replicate k [])) w ∧ V.Le V' w w ∧ V'.nx = V.nx + k := by
  intro k
  induction k with
  | zero =>
    intro _
    refine ⟨V, H.forget (fun j B hj => ?_) (fun j T hj => ?_), Vu.Le.refl V w, rfl⟩
    · rw [Qn] at hj
      split at hj
      · rename_i e1; subst e1; rw [hi]; rw [← hj]; rfl
      · exact hj
    · cases hj
  | succ k ih =>
    intro hk
    obtain ⟨V', H1, L1, hn1⟩ := ih (by omega)
    have hl : (Ju V.nx (List.replicate k [])).length = k := by rw [YL, List.length_replicate]
    obtain ⟨H2, L2⟩ := H1.adoptC (i := i) (off := k) (T := T) 3 1 (by rw [Qn, if_pos rfl]) (by rw [List.getElem?_append_right (by omega), hl, Nat.sub_self, List.getElem?_replicate, if_pos (by omega)])
    refine ⟨_, H2.forget (fun j B hj => ?_) (fun j T' hj => ?_), L1.trans L2, ?_⟩
    · rw [Qn] at hj ⊢
      split at hj
      · rename_i e1
        rw [if_pos e1, ← hj]
        congr 2
        rw [rowCells_rep, List.set_append_right _ _ (by omega), hl, Nat.sub_self, show n - k = (n - (k + 1)) + 1 by omega, List.replicate_succ, List.set_cons_zero, hn1, Nat.mod_eq_of_lt (by omega)]
        simp
      · rename_i e1
        rw [if_neg e1, Qn, if_neg e1]; exact hj
    · rw [rowToks_rep _ _ (by omega), lk_app] at hj
      rw [Qn, hn1]
      split at hj
      · rename_i x hx
        have : j < V.nx + k := by
          obtain ⟨q, hq, e1⟩ := List.mem_map.1 (G2 hx)
          have hq2 := List.mem_range.1 hq
          rw [List.length_replicate, Nat.min_eq_left (by omega)] at hq2
          have e2 := (Prod.mk.inj e1).1
          rw [Nat.mod_eq_of_lt (by omega)] at e2
          omega
        rw [if_neg (by omega)]
        rw [← hj]; exact hx
      · rw [Qn] at hj
        split at hj
        · rename_i e1
          rw [Nat.mod_eq_of_lt (by omega)] at e1
          rw [if_pos e1]; exact hj
        · cases hj
    · show max V'.nx (V'.nx + 1) = _
      omega
section
variable {E : Env} {st : St} {dd : Option Tmp} {ty : TypeId} {pos : String} {af : Array Edge} {g : Option (Nat × Bool)}
theorem zeroRow_nil (n : Nat) : Je [.slice none 0 0] n = List.replicate n nilC := by
  apply List.ext_getElem?
  intro k
  simp only [Je, List.getElem?_map, List.getElem?_replicate, List.length_singleton, Nat.mul_one]
  by_cases hk : k < n
  · rw [List.getElem?_range hk, if_pos hk]
    simp [Nat.mod_one]
  · rw [List.getElem?_eq_none (by simpa using hk), if_neg hk]; rfl
theorem OpOK.makeRows {t e by_ : Nat} {o1 o2 : Operand} {m : Int} (ht : QT E.P t = some (e, 1)) (hze : Jg E.P e = some [.slice none 0 0]) (hel : Ya E.P e = some (1, by_)) (hb : Nat.ble by_ 1000000 = true)
    (h1 : ev st.tm o1 = some (Wr m)) (h2 : ev st.tm o2 = some (Wr m)) (hm : (cond (decide (0 ≤ m)) (Nat.ble m.toNat 1000) false) = true) :
    OpOK E ⟨dd, .makeSlice t o1 o2, ty, pos, af, g⟩ st (.v (.one (.osl st.nx 0 m.toNat m.toNat))) ⟨(st.nx, .cells e (Ju (st.nx + 1) (List.replicate m.toNat []))) :: st.hp, Yd (st.nx + 1) (List.replicate m.toNat []), st.nx + 1001⟩ := by
  have h0 : 0 ≤ m := of_decide_eq_true (ZV hm)
  have hn : m.toNat ≤ 1000 := Nat.le_of_ble_eq_true (Zt hm)
  have hb' := Nat.le_of_ble_eq_true hb
  have hmm : (m.toNat : Int) = m := Int.toNat_of_nonneg h0
  have hbb : by_ * m.toNat ≤ 1000000 * 1000 := Nat.mul_le_mul hb' hn
  have ok := OpOK.makeSlice (E := E) (st := st) (dd := dd) (ty := ty) (pos := pos) (af := af) (g := g) (l := m.toNat) (c := m.toNat) ht hze rfl rfl hel (by rw [hmm]; exact h1) (by rw [hmm]; exact h2) (Nat.le_refl _) (by omega) (by omega)
  rw [zeroRow_nil] at ok
  intro V a w hr ro n K Q hK
  refine ok V a w hr ro n K Q (fun V' w' v H hnx L hx => ?_)
  obtain ⟨V2, H2, L2, hn2⟩ := H.adoptRows (i := st.nx) (T := e) m.toNat hn (by rw [Qn, if_pos rfl]) m.toNat (Nat.le_refl _)
  rw [Nat.sub_self, List.replicate_zero, List.append_nil] at H2
  rw [hnx] at H2 hn2
  dsimp only at H2 hn2
  obtain ⟨H3, L3⟩ := H2.skip (st.nx + 1001) (by rw [hn2]; omega)
  refine hK _ w' v (H3.forget (fun j B hj => ?_) (fun j T hj => hj)) rfl (L.trans (L2.trans L3)) (hx.mono (L2.trans L3))
  rw [Qn] at hj ⊢
  split at hj
  · rename_i e1; rw [if_pos e1]; exact hj
  · rename_i e1; rw [if_neg e1, Qn, if_neg e1]; exact hj
end
theorem tkLe.of {tk : List (Nat × Option Tok)} : ∀ {r : List (Nat × Option Tok)}, (∀ p ∈ r, ∀ T, p.2 = some T → W0 tk p.1 = some (some T)) → tkLe tk r
  | [], _ => trivial
  | (t, y) :: r, h => ⟨fun T e => h (t, y) List.mem_cons_self T e, tkLe.of fun p hp => h p (List.mem_cons_of_mem _ hp)⟩
theorem Xa {base : Nat} {es : List (List Int)} : tkLe (Yd base es) (Yd base es) := tkLe.of fun p hp T e => by
  obtain ⟨k, hk, rfl⟩ := List.mem_map.1 hp
  have hk' := List.mem_range.1 hk
  cases e
  refine lk_rangeMap (fun a => base + a % 1000) (fun a => (some ⟨3, 1, (Enc.encL (es.getD a [])).length, []⟩ : Option Tok)) (List.range (min es.length 1000)) k hk (fun a ha e => ?_)
  have := List.mem_range.1 ha
  rw [Nat.mod_eq_of_lt (by omega), Nat.mod_eq_of_lt (by omega)] at e
  omega
theorem XG {m i : Nat} {T : TypeId} {base : Nat} {es : List (List Int)} {r : List (Nat × HB)} (h : Nat.blt i m = true) (hb : Nat.ble (base + 1000) m = true) (l : hpBelow m r) : hpBelow m ((i, .cells T (Ju base es)) :: r) := ⟨ZW h, rowCells_below base m es hb, l⟩
theorem rowsCLs (base : Nat) (es : List (List Int)) : CLs (Ju base es) (Q6 es) := by
  have : ∀ (l : List Nat), CLs (l.map (rowCell base es)) (l.map fun k => .d (.sl 1 (Enc.encL (es.getD k [])))) := by
    intro l
    induction l with
    | nil => exact .nil
    | cons x l ih => exact .cons (.sub (.app _ _ _)) ih
  have h1 := this (List.range es.length)
  have e : Q6 es = (List.range es.length).map fun k => CA.d (.sl 1 (Enc.encL (es.getD k []))) := by
    apply List.ext_getElem?
    intro k
    unfold Q6
    rw [Enc.map]
    have hsz : ∀ l : List (List Int), (l.map Enc.enc).flatten = l.map fun r => C.sl 1 (Enc.encL r) := by
      intro l
      induction l with
      | nil => rfl
      | cons x l ih => rw [List.map_cons, List.flatten_cons, ih]; rfl
    rw [hsz, List.map_map, List.getElem?_map, List.getElem?_map]
    by_cases hk : k < es.length
    · rw [List.getElem?_range hk, List.getElem?_eq_getElem hk]
      simp [List.getD_eq_getElem?_getD, List.getElem?_eq_getElem hk]
    · rw [List.getElem?_eq_none (by omega), List.getElem?_eq_none (by simpa using hk)]; rfl
  rw [e]; exact h1
theorem XQ.rows {E : Env} {Q : Exit → Act → World → Prop} {st : St} {e : Exit} {i base : Nat} {T : TypeId} {es : List (List Int)} (hi : W0 st.hp i = some (.cells T (Ju base es)))
    (k : XQ E Q e ⟨st.tm, [(i, .cells T (Q6 es))], [], st.nx, st.nt, st.df⟩) : XQ E Q e st := fun V a w hr =>
  k V a w ⟨hr.h.forgetLe (W9 hi (rowsCLs base es) W7) W3, hr.nx, hr.nt, hr.df, hr.tm⟩
section
variable {E : Env} {st : St} {dd : Option Tmp} {ty : TypeId} {pos : String} {af : Array Edge} {g : Option (Nat × Bool)}
theorem RO.indexRow {t e i n base : Nat} {T : TypeId} {x y : Operand} {m : Int} {es : List (List Int)} {row : List Int} (ht : QT E.P t = some (e, 1)) (hx : ev st.tm x = some (.v (.one (.osl i 0 n n)))) (hy : ev st.tm y = some (Wr m)) (hv : J1 es m = some row) (hn : Nat.beq es.length n = true) :
    RO E ⟨dd, .indexAddr t x y, ty, pos, af, g⟩ st (.v (.one (.ptr i m.toNat))) := by
  obtain ⟨k, rfl, hk⟩ := GN hv
  have hl : es.length = n := Nat.eq_of_beq_eq_true hn
  have := RO.indexOsl (E := E) (st := st) (d := dd) (ty := ty) (pos := pos) (af := af) (g := g) (k := k) ht hx hy rfl (by rw [← hl]; exact (List.getElem?_eq_some_iff.1 hk).1)
  rw [Nat.zero_add, Nat.mul_one] at this; exact this
theorem RO.loadRow {t i base : Nat} {T : TypeId} {x : Operand} {m : Int} {es : List (List Int)} {row : List Int} (ht : Jn E.P t = some (false, 1)) (hx : ev st.tm x = some (.v (.one (.ptr i m.toNat)))) (hi : W0 st.hp i = some (.cells T (Ju base es))) (hv : J1 es m = some row) :
    RO E ⟨dd, .load t x, ty, pos, af, g⟩ st (.v (.one (.app (base + m.toNat % 1000) 1 (Enc.encL row)))) := by
  obtain ⟨k, rfl, hk⟩ := GN hv
  exact Q7 ht hx hi (rowCells_get hk)
theorem rowTok {base : Nat} {es : List (List Int)} {m : Int} {row : List Int} (hv : J1 es m = some row) (hl : Nat.ble es.length 1000 = true) : W0 (Yd base es) (base + m.toNat % 1000) = some (some ⟨3, 1, (Enc.encL row).length, []⟩) := by
  obtain ⟨k, rfl, hk⟩ := GN hv
  exact rowToks_get hk (Nat.le_of_ble_eq_true hl)
theorem OpOK.storeRow {t i base : Nat} {T : TypeId} {o1 o2 : Operand} {m : Int} {es : List (List Int)} {row row2 : List Int} (ht : Jn E.P t = some (false, 1)) (h1 : ev st.tm o1 = some (.v (.one (.ptr i m.toNat)))) (h2 : ev st.tm o2 = some (.v (.one (.app (base + m.toNat % 1000) 1 (Enc.encL row2)))))
    (hi : W0 st.hp i = some (.cells T (Ju base es))) (hv : J1 es m = some row) (hl : Nat.ble es.length 1000 = true) (htk : st.tk = (base + m.toNat % 1000, some ⟨3, 1, (Enc.encL row2).length, []⟩) :: Jv (base + m.toNat % 1000) (Yd base es)) (hdd : dd = none) :
    OpOK E ⟨dd, .store t o1 o2, ty, pos, af, g⟩ st (.tup []) ⟨(i, .cells T (Ju base (es.set m.toNat row2))) :: Jv i st.hp, Yd base (es.set m.toNat row2), st.nx⟩ := by
  obtain ⟨k, rfl, hk⟩ := GN hv
  have hlt := (List.getElem?_eq_some_iff.1 hk).1
  rw [Int.toNat_natCast] at h1 h2 htk
  rw [Int.toNat_natCast]
  have hl' := Nat.le_of_ble_eq_true hl
  have ok := Qi (E := E) (st := st) (dd := dd) (ty := ty) (pos := pos) (af := af) (g := g) ht h1 h2 hi rfl (by rw [YL]; exact hlt) hdd
  intro V a w hr ro n K Q hK
  refine ok V a w hr ro n K Q (fun V' w' v H hnx L hx => ?_)
  refine hK V' w' v (H.forget (fun j B hj => ?_) (fun j T' hj => ?_)) hnx L hx
  · rw [Qn] at hj ⊢
    split at hj
    · rename_i e1
      rw [if_pos e1, ← hj]
      congr 2
      exact (rowCells_set hlt).symm ▸ rfl
    · rename_i e1; rw [if_neg e1]; exact hj
  · rw [htk, Yk, Qn]
    have hlen : (es.set k row2).length = es.length := by simp
    obtain ⟨q, hq, e1⟩ := List.mem_map.1 (G2 hj)
    have hq2 := List.mem_range.1 hq
    rw [hlen] at hq2
    have e2 := (Prod.mk.inj e1).1
    have e3 := (Prod.mk.inj e1).2
    have hkm : k % 1000 = k := Nat.mod_eq_of_lt (by omega)
    rw [Nat.mod_eq_of_lt (by omega)] at e2
    rw [hkm]
    rw [← e3, ← e2]
    by_cases hqk : q = k
    · subst hqk
      rw [if_pos rfl]
      congr 2
      show _ = Tok.mk 3 1 (Enc.encL ((es.set q row2).getD q [])).length []
      rw [List.getD_eq_getElem?_getD, List.getElem?_set, if_pos rfl, if_pos hlt]; rfl
    · rw [if_neg (by omega)]
      have h5 : es[q]? = some (es.getD q []) := by
        rw [List.getD_eq_getElem?_getD, List.getElem?_eq_getElem (by omega)]; rfl
      have h6 := rowToks_get (base := base) h5 hl'
      rw [Nat.mod_eq_of_lt (by omega)] at h6
      rw [h6]
      congr 2
      show _ = Tok.mk 3 1 (Enc.encL ((es.set k row2).getD q [])).length []
      rw [List.getD_eq_getElem?_getD, List.getD_eq_getElem?_getD, List.getElem?_set, if_neg (fun e => hqk e.symm)]
end
end Go.Proofs.Ytijcchddnnnmdaa
namespace Go.Proofs.Ytijcchddnnnmdaa
open Go.RowKit Go.Shelf
set_option linter.unusedSimpArgs false
set_option linter.unusedVariables false
theorem en_36 : J9 Try.prog 36 := enters_of Try.func36 (by kernel_rfl) rfl
def KN (x4 : List Int) (a0 : List (List Int)) (s1 : Int × (List (List Int))) (s2 : Int × (List (List Int))) : Option (LO (Int × (List (List Int))) (((List (List Int))))) :=
 cond (decide (s2.1 < (x4.length : Int)))
   (Option.bind (J1 x4 s2.1) fun (x7 : Int) =>
 Option.bind (J1 s2.2 x7) fun (x8 : List Int) =>
 Qm (Nat.beq s2.2.length ((a0.length : Int).toNat))
 (Qm (Nat.ble s2.2.length 1000)
 (Qm (Nat.ble (x8.length + ([s1.1]).length) 1000000000)
 (Option.bind (J1 s2.2 x7) fun (x12 : List Int) =>
 Qm (Nat.beq s2.2.length ((a0.length : Int).toNat))
 (Qm (Nat.ble s2.2.length 1000)
 (some (.next ((QW (s2.1 + 1)), (s2.2.set x7.toNat (x8 ++ ([s1.1])))))))))))
   (some (.done s2.2))
def Gi (a0 : List (List Int)) (s1 : Int × (List (List Int))) : Option (LO (Int × (List (List Int))) (((List (List Int))))) :=
 cond (decide (s1.1 < (a0.length : Int)))
   (Option.bind (J1 a0 s1.1) fun (x4 : List Int) =>
 Option.bind (Qo (KN x4 a0 s1) QB (0, s1.2)) (fun (o5 : (List (List Int))) => some (.next ((QW (s1.1 + 1)), o5))))
   (some (.done s1.2))
def XB (a0 : List (List Int)) : Option ((List (List Int))) :=
 Qm (cond (decide (0 ≤ (a0.length : Int))) (Nat.ble (a0.length : Int).toNat 1000) false)
 (Option.bind (Qo (Gi a0) QB (0, (List.replicate (a0.length : Int).toNat ([] : List Int)))) (fun (o2 : (List (List Int))) => Qm (Nat.beq o2.length ((a0.length : Int).toNat))
 (some o2)))
set_option maxRecDepth 100000 in
set_option maxHeartbeats 2000000 in
theorem m36_ok (a0 : List (List Int)) (r : (List (List Int))) (h0 : XB a0 = some r) : Fun Try.prog 36 [.one (We a0)] (Qr [.one (We r)]) := by
 unfold XB at h0
 refine Jd 9 37 Try.func36 rfl en_36 rfl (W1 rfl) (fun S w => ?_)
 simp only [Jc]
 refine Q2 <| Q0 <| XS rfl rfl rfl <| Q3 <| Q1 <| Q2 <| Q0 <| XR rfl rfl rfl <| XP rfl rfl rfl (Qy (α := List Int) Y3 rfl (.d _)) ?_
 refine QO h0 (fun g1 h0 => ?_)
 refine Q9 rfl rfl (W1 rfl) (OpOK.makeRows Y3 X6 GL rfl rfl rfl g1) <| XS rfl rfl rfl <| Q3 <| Q1 <| Q2 <| Q2 <| Q0 <| XR rfl rfl rfl <| XP rfl rfl rfl (Qy (α := List Int) Y3 rfl (.d _)) <| XR rfl rfl rfl <| Q3 <| Q1 <| Qd ?_
 refine QI 0 (fun (o2 : (List (List Int))) => ⟨[(3, .v (.one (.osl 0 0 ((a0.length : Int).toNat) ((a0.length : Int).toNat))))], [(0, .cells 54 (Ju 1 o2))], (Yd 1 o2), 1001, 37, []⟩) (fun (o2 : (List (List Int))) => (Qm (Nat.beq o2.length ((a0.length : Int).toNat))
   (some o2)) = some r) ?_ ?_
 refine Qb h0 (fun o3 hl1 h0 => ?_)
 refine QH (Gi a0) (fun s1 => ⟨[(3, .v (.one (.osl 0 0 ((a0.length : Int).toNat) ((a0.length : Int).toNat)))), (11, .v (.one (We a0))), (12, .v (.one (Wg (a0.length : Int)))), (13, .v (.one (Wg s1.1)))], [(0, .cells 54 (Ju 1 s1.2))], (Yd 1 s1.2), 1001, 37, []⟩) (0, (List.replicate (a0.length : Int).toNat ([] : List Int))) o3 (Qh (XK rfl (XK rfl (XK rfl (XK rfl XJ)))) (W8 rfl W7) Xa rfl (Nat.zero_le _) rfl rfl rfl (XG rfl rfl Wm) (YC _ _ _ rfl) rfl) hl1 (fun s1 n1 oo1 h1 ho1 => ?_)
 unfold Gi at h1
 refine Q2 <| Q0 <| XP rfl rfl rfl (Q4 rfl rfl rfl) <| Q3 <| Q1 <| Q2 ?_
 refine Qg (b := (decide (s1.1 < (a0.length : Int)))) rfl (fun c4 => ?_) (fun c4 => ?_)
 replace h1 := Qu c4 h1
 refine Qj <| Q1 <| Q2 <| Qd <| Q2 <| Q0 <| XR rfl rfl rfl ?_
 refine Qb h1 (fun x5 hx5 h1 => ?_)
 refine XP rfl rfl rfl (Qq (α := List Int) Y3 rfl (.d _) rfl hx5) <| XP rfl rfl rfl (QK Ga rfl rfl) <| XS rfl rfl rfl <| XS rfl rfl rfl <| Q3 <| Q1 <| Q2 <| Q0 <| XR rfl rfl rfl <| XP rfl rfl rfl (Qy (α := Int) JP rfl (.d _)) <| XR rfl rfl rfl <| Q3 <| Q1 <| Qd ?_
 refine QI 2 (fun (o6 : (List (List Int))) => ⟨[(3, .v (.one (.osl 0 0 ((a0.length : Int).toNat) ((a0.length : Int).toNat)))), (11, .v (.one (We a0))), (12, .v (.one (Wg (a0.length : Int)))), (13, .v (.one (Wg s1.1)))], [(0, .cells 54 (Ju 1 o6))], (Yd 1 o6), 1001, 37, []⟩) (fun (o6 : (List (List Int))) => (some (.next ((QW (s1.1 + 1)), o6))) = some oo1) ?_ ?_
 refine Qb h1 (fun o7 hl2 h1 => ?_)
 refine QH (KN x5 a0 s1) (fun s2 => ⟨[(3, .v (.one (.osl 0 0 ((a0.length : Int).toNat) ((a0.length : Int).toNat)))), (4, .v (.one (Wg s1.1))), (11, .v (.one (We a0))), (12, .v (.one (Wg (a0.length : Int)))), (13, .v (.one (Wg s1.1))), (18, .v (.one (We x5))), (19, .v (.one (Wg (x5.length : Int)))), (20, .v (.one (Wg s2.1)))], [(0, .cells 54 (Ju 1 s2.2))], (Yd 1 s2.2), 1001, 37, []⟩) (0, s1.2) o7 (Qh (XK rfl (XK rfl (XK rfl (XK rfl (XK rfl (XK rfl (XK rfl (XK rfl XJ)))))))) (W8 rfl W7) Xa rfl (Nat.zero_le _) rfl rfl rfl (XG rfl rfl Wm) (YC _ _ _ rfl) rfl) hl2 (fun s2 n2 oo2 h2 ho2 => ?_)
 unfold KN at h2
 refine Q2 <| Q0 <| XP rfl rfl rfl (Q4 rfl rfl rfl) <| Q3 <| Q1 <| Q2 ?_
 refine Qg (b := (decide (s2.1 < (x5.length : Int)))) rfl (fun c8 => ?_) (fun c8 => ?_)
 replace h2 := Qu c8 h2
 refine Qj <| Q1 <| Q2 <| Qd <| Q2 <| Q0 ?_
 refine Qb h2 (fun x9 hx9 h2 => ?_)
 refine XP rfl rfl rfl (Qq (α := Int) JP rfl (.d _) rfl hx9) <| XP rfl rfl rfl (QK Gb rfl rfl) <| XS rfl rfl rfl <| Q3 <| Q1 <| Q0 <| XR rfl rfl rfl <| XR rfl rfl rfl <| XR rfl rfl rfl <| XR rfl rfl rfl ?_
 refine Qb h2 (fun x10 hx10 h2 => ?_)
 refine QO h2 (fun g11 h2 => ?_)
 refine XP rfl rfl rfl (RO.indexRow (base := 1) (T := 54) Y3 rfl rfl hx10 g11) <| XP rfl rfl rfl (RO.loadRow Ga rfl rfl hx10) <| XR rfl rfl rfl <| Q9 rfl rfl (W1 rfl) (JX (α := Int) (s1.1) JP Xh rfl rfl (W1 rfl) rfl rfl (.cons (.d _) .nil) rfl) ?_
 refine QO h2 (fun g12 h2 => ?_)
 refine QO h2 (fun g13 h2 => ?_)
 refine Q9 rfl rfl (W1 rfl) (QU (α := Int) JP X2 rfl rfl (rowTok hx10 g12) rfl rfl (.d _) g13) ?_
 refine Qb h2 (fun x14 hx14 h2 => ?_)
 refine QO h2 (fun g15 h2 => ?_)
 refine XP rfl rfl rfl (RO.indexRow (base := 1) (T := 54) Y3 rfl rfl hx14 g15) ?_
 refine QO h2 (fun g16 h2 => ?_)
 refine QA rfl rfl (OpOK.storeRow Ga rfl rfl rfl hx14 g16 rfl rfl) <| Q3 <| Qk <| Q1 <| Q0 <| XP rfl rfl rfl (Q4 rfl rfl rfl) <| XR rfl rfl rfl <| Q3 ?_
 have e := XN h2; subst e
 refine QD ((QW (s2.1 + 1)), (s2.2.set x9.toNat (x10 ++ ([s1.1])))) (Qh (XK rfl (XK rfl (XK rfl (XK rfl (XK rfl (XK rfl (XK rfl (XK rfl XJ)))))))) (W8 rfl W7) Xa rfl (Nat.zero_le _) rfl rfl rfl (XG rfl rfl Wm) (YC _ _ _ rfl) rfl) ho2
 replace h2 := Qv c8 h2
 refine QN <| Qf <| Qf ?_
 have e := XN h2; subst e
 have e_ : _ = _ := ho2
 subst e_
 exact QF s2.2 (Qh (XK rfl (XK rfl (XK rfl (XK rfl XJ)))) (W8 rfl W7) Xa rfl (Nat.zero_le _) rfl rfl rfl (XG rfl rfl Wm) (YC _ _ _ rfl) rfl) h1
 intro o6 h1
 refine Qx <| Qk <| Q1 <| Q0 <| XP rfl rfl rfl (Q4 rfl rfl rfl) <| XR rfl rfl rfl <| Q3 ?_
 have e := XN h1; subst e
 refine QD ((QW (s1.1 + 1)), o6) (Qh (XK rfl (XK rfl (XK rfl (XK rfl XJ)))) (W8 rfl W7) Xa rfl (Nat.zero_le _) rfl rfl rfl (XG rfl rfl Wm) (YC _ _ _ rfl) rfl) ho1
 replace h1 := Qv c4 h1
 refine QN <| Qf <| Qf ?_
 have e := XN h1; subst e
 have e_ : _ = _ := ho1
 subst e_
 exact QF s1.2 (Qh (XK rfl XJ) (W8 rfl W7) Xa rfl (Nat.zero_le _) rfl rfl rfl (XG rfl rfl Wm) (YC _ _ _ rfl) rfl) h0
 intro o2 h0
 refine Qx <| Q1 <| Q2 <| Q0 <| XR rfl rfl rfl <| XS rfl rfl rfl <| Q3 <| Q1 <| Qw ?_
 refine QO h0 (fun g17 h0 => ?_)
 have e := XN h0; subst e
 refine XQ.rows (i := 0) rfl <| XQ.freezeT (α := List Int) (t := 2) rfl rfl g17 ?_
 exact QX (fun _ _ h => h) rfl (Qp rfl .nil) (.cons (.one (.d _)) .nil)
end Go.Proofs.Ytijcchddnnnmdaa
namespace Go.Proofs.Ytijcchddnnnmdaa
open Go.RowKit Go.Shelf
set_option linter.unusedSimpArgs false
set_option linter.unusedVariables false
theorem ZG : Jn Try.prog 106 = some (false, 1) := by kernel_rfl
theorem z_106 : Jg Try.prog 106 = some [.nilFunc] := by kernel_rfl
theorem en_12 : J9 Try.prog 12 := enters_of Try.func12 (by kernel_rfl) rfl
theorem en_35 : J9 Try.prog 35 := enters_of Try.func35 (by kernel_rfl) rfl
theorem en_56 : J9 Try.prog 56 := enters_of Try.func56 (by kernel_rfl) rfl
def Zh (x6 : List Int) (rc : Int × Nat × (List Bool) × (List (List Int)) → Option ((List Bool))) (a1 : Nat) (a3 : List (List Int)) (s1 : Int × (List Bool)) : Option (LO (Int × (List Bool)) (((List Bool)))) :=
 cond (decide (s1.1 < (x6.length : Int)))
   (Option.bind (J1 x6 s1.1) fun (x9 : Int) =>
 Option.bind (rc (x9, a1, s1.2, a3)) fun (x10 : (List Bool)) =>
 some (.next ((QW (s1.1 + 1)), x10)))
   (some (.done s1.2))
def G1 (rc : Int × Nat × (List Bool) × (List (List Int)) → Option ((List Bool))) (a0 : Int) (a1 : Nat) (a2 : List Bool) (a3 : List (List Int)) : Option ((List Bool)) :=
 Option.bind (J1 a2 a0) fun (x1 : Bool) =>
 Qm (Nat.beq a2.length a1)
 (cond x1
   (some a2)
   (Option.bind (J1 a2 a0) fun (x4 : Bool) =>
 Qm (Nat.beq a2.length a1)
 (Option.bind (J1 a3 a0) fun (x6 : List Int) =>
 Option.bind (Qo (Zh x6 rc a1 a3) QB (0, (a2.set a0.toNat true))) (fun (o7 : (List Bool)) => some o7))))
def m56f12F (rc : Int × Nat × (List Bool) × (List (List Int)) → Option ((List Bool))) (u : Int × Nat × (List Bool) × (List (List Int))) : Option ((List Bool)) := G1 rc u.1 u.2.1 u.2.2.1 u.2.2.2
def m56f12 (a0 : Int) (a1 : Nat) (a2 : List Bool) (a3 : List (List Int)) : Option ((List Bool)) := Yn m56f12F QB (a0, a1, a2, a3)
set_option maxRecDepth 100000 in
set_option maxHeartbeats 2000000 in
theorem m56f12s_ok (rc : Int × Nat × (List Bool) × (List (List Int)) → Option ((List Bool))) (H : ∀ (a0 : Int) (a1 : Nat) (a2 : List Bool) (a3 : List (List Int)) (r : (List Bool)), rc (a0, a1, a2, a3) = some r → CallM Try.prog 56 [.one (Wg a0), .one (.ptr 0 0), .one (.ptr 2 0), .one (.ptr 3 0)] ⟨[(0, .cells 75 [.osl 1 0 a1 a1]), (1, .cells 4 (Q6 a2)), (2, .cells 57 [We a3]), (3, .cells 106 [.fn 56 [(0, 0), (2, 0), (3, 0)]])], [], 4⟩ (Qr []) ⟨[(0, .cells 75 [.osl 1 0 a1 a1]), (1, .cells 4 (Q6 r)), (2, .cells 57 [We a3]), (3, .cells 106 [.fn 56 [(0, 0), (2, 0), (3, 0)]])], [], 4⟩) (a0 : Int) (a1 : Nat) (a2 : List Bool) (a3 : List (List Int)) (r : (List Bool)) (h0 : G1 rc a0 a1 a2 a3 = some r) : CallM Try.prog 56 [.one (Wg a0), .one (.ptr 0 0), .one (.ptr 2 0), .one (.ptr 3 0)] ⟨[(0, .cells 75 [.osl 1 0 a1 a1]), (1, .cells 4 (Q6 a2)), (2, .cells 57 [We a3]), (3, .cells 106 [.fn 56 [(0, 0), (2, 0), (3, 0)]])], [], 4⟩ (Qr []) ⟨[(0, .cells 75 [.osl 1 0 a1 a1]), (1, .cells 4 (Q6 r)), (2, .cells 57 [We a3]), (3, .cells 106 [.fn 56 [(0, 0), (2, 0), (3, 0)]])], [], 4⟩ := by
 unfold G1 at h0
 refine QM ⟨[], [(0, .cells 75 [.osl 1 0 a1 a1]), (1, .cells 4 (Q6 r)), (2, .cells 57 [We a3]), (3, .cells 106 [.fn 56 [(0, 0), (2, 0), (3, 0)]])], [], 4, 27, []⟩ rfl rfl en_56 (W1 rfl) rfl .nil (fun w0 M V0 Q hv0 hQ0 => ?_)
 simp only [Jc]
 refine Q2 <| Q2 <| Q0 <| XP rfl rfl rfl (Q7 Z7 rfl rfl rfl) <| XR rfl rfl rfl ?_
 refine Qb h0 (fun x1 hx1 h0 => ?_)
 refine QO h0 (fun g2 h0 => ?_)
 refine XP rfl rfl rfl (Jk (α := Bool) Z6 rfl rfl hx1 g2) <| XP rfl rfl rfl (YI (α := Bool) (m := a0) (f := 0) Gv rfl rfl hx1 rfl) <| Q3 <| Q1 ?_
 refine Qg (b := x1) rfl (fun c3 => ?_) (fun c3 => ?_)
 replace h0 := Qu c3 h0
 refine Qw ?_
 have e := XN h0; subst e
 exact hQ0 _ _ _ (.inr rfl) rfl (Qh XJ (W8 rfl (W8 rfl (W8 rfl (W8 rfl W7)))) W3 rfl (Nat.le_trans hv0 (W1 rfl)) rfl rfl rfl (Wp rfl rfl (Wo rfl (Wp rfl rfl (Wp rfl rfl Wm)))) rfl rfl)
 replace h0 := Qv c3 h0
 refine Qj <| Q1 <| Q2 <| Q0 <| XP rfl rfl rfl (Q7 Z7 rfl rfl rfl) <| XR rfl rfl rfl ?_
 refine Qb h0 (fun x4 hx4 h0 => ?_)
 refine QO h0 (fun g5 h0 => ?_)
 refine XP rfl rfl rfl (Jk (α := Bool) Z6 rfl rfl hx4 g5) <| QA rfl rfl (OpOK.storeOE (α := Bool) (y' := .one (Wh true)) (v := true) Gv rfl rfl (.one (.d _)) rfl rfl hx4 rfl) <| Q3 <| Q1 <| Q2 <| Q0 <| XP rfl rfl rfl (Q7 JV rfl rfl rfl) <| XR rfl rfl rfl ?_
 refine Qb h0 (fun x6 hx6 h0 => ?_)
 refine XP rfl rfl rfl (Qq (α := List Int) Y3 rfl (.d _) rfl hx6) <| XP rfl rfl rfl (QK Ga rfl rfl) <| XP rfl rfl rfl (Qy (α := Int) JP rfl (.d _)) <| XR rfl rfl rfl <| Q3 <| Q1 <| Qd ?_
 refine QI 0 (fun (o7 : (List Bool)) => ⟨[], [(0, .cells 75 [.osl 1 0 a1 a1]), (1, .cells 4 (Q6 o7)), (2, .cells 57 [We a3]), (3, .cells 106 [.fn 56 [(0, 0), (2, 0), (3, 0)]])], [], 4, 27, []⟩) (fun (o7 : (List Bool)) => (some o7) = some r) ?_ ?_
 refine Qb h0 (fun o8 hl1 h0 => ?_)
 refine QH (Zh x6 rc a1 a3) (fun s1 => ⟨[(3, .v (.one (.ptr 3 0))), (17, .v (.one (We x6))), (18, .v (.one (Wg (x6.length : Int)))), (19, .v (.one (Wg s1.1)))], [(0, .cells 75 [.osl 1 0 a1 a1]), (1, .cells 4 (Q6 s1.2)), (2, .cells 57 [We a3]), (3, .cells 106 [.fn 56 [(0, 0), (2, 0), (3, 0)]])], [], 4, 27, []⟩) (0, (a2.set a0.toNat true)) o8 (Qh (XK rfl (XK rfl (XK rfl (XK rfl XJ)))) (W8 rfl (W8 rfl (W8 rfl (W8 rfl W7)))) W3 rfl (Nat.le_trans hv0 (W1 rfl)) rfl rfl rfl (Wp rfl rfl (Wo rfl (Wp rfl rfl (Wp rfl rfl Wm)))) rfl rfl) hl1 (fun s1 n1 oo1 h1 ho1 => ?_)
 unfold Zh at h1
 refine Q2 <| Q0 <| XP rfl rfl rfl (Q4 rfl rfl rfl) <| Q3 <| Q1 <| Q2 ?_
 refine Qg (b := (decide (s1.1 < (x6.length : Int)))) rfl (fun c9 => ?_) (fun c9 => ?_)
 replace h1 := Qu c9 h1
 refine Qj <| Q1 <| Q2 <| Qd <| Q2 <| Q0 ?_
 refine Qb h1 (fun x10 hx10 h1 => ?_)
 refine XP rfl rfl rfl (Qq (α := Int) JP rfl (.d _) rfl hx10) <| XP rfl rfl rfl (QK Gb rfl rfl) <| XS rfl rfl rfl <| Q3 <| Q1 <| Q0 <| XP rfl rfl rfl (Q7 ZG rfl rfl rfl) <| XR rfl rfl rfl ?_
 refine Qb h1 (fun x11 hx11 h1 => ?_)
 refine Q9 rfl rfl (W1 rfl) (QS (hp1' := [(0, .cells 75 [.osl 1 0 a1 a1]), (1, .cells 4 (Q6 x11)), (2, .cells 57 [We a3]), (3, .cells 106 [.fn 56 [(0, 0), (2, 0), (3, 0)]])]) (tk1' := []) (hpF := []) (tkF := []) (res2 := Qr []) (nx2 := 4) [0, 1, 2, 3] rfl rfl (H x10 a1 s1.2 a3 x11 hx11) rfl rfl (XW rfl rfl (XV rfl (XW rfl rfl (XW rfl rfl XT)))) rfl rfl (Wb rfl (Wd rfl (Wb rfl (Wb rfl Wa)))) W5 W7 W3 rfl rfl rfl rfl rfl (Wp rfl rfl (Wo rfl (Wp rfl rfl (Wp rfl rfl Wm)))) rfl rfl rfl rfl) <| Q3 <| Qk <| Q1 <| Q0 <| XP rfl rfl rfl (Q4 rfl rfl rfl) <| XR rfl rfl rfl <| Q3 ?_
 have e := XN h1; subst e
 refine QD ((QW (s1.1 + 1)), x11) (Qh (XK rfl (XK rfl (XK rfl (XK rfl XJ)))) (W8 rfl (W8 rfl (W8 rfl (W8 rfl W7)))) W3 rfl (Nat.le_trans hv0 (W1 rfl)) rfl rfl rfl (Wp rfl rfl (Wo rfl (Wp rfl rfl (Wp rfl rfl Wm)))) rfl rfl) ho1
 replace h1 := Qv c9 h1
 refine QN <| Qf <| Qf ?_
 have e := XN h1; subst e
 have e_ : _ = _ := ho1
 subst e_
 exact QF s1.2 (Qh XJ (W8 rfl (W8 rfl (W8 rfl (W8 rfl W7)))) W3 rfl (Nat.le_trans hv0 (W1 rfl)) rfl rfl rfl (Wp rfl rfl (Wo rfl (Wp rfl rfl (Wp rfl rfl Wm)))) rfl rfl) h0
 intro o7 h0
 refine Qx ?_
 have e := XN h0; subst e
 exact hQ0 _ _ _ (.inl rfl) rfl (Qh XJ (W8 rfl (W8 rfl (W8 rfl (W8 rfl W7)))) W3 rfl (Nat.le_trans hv0 (W1 rfl)) rfl rfl rfl (Wp rfl rfl (Wo rfl (Wp rfl rfl (Wp rfl rfl Wm)))) rfl rfl)
theorem m56f12_all (n : Nat) (u : Int × Nat × (List Bool) × (List (List Int))) (r : (List Bool)) (h0 : Yn m56f12F n u = some r) : CallM Try.prog 56 [.one (Wg u.1), .one (.ptr 0 0), .one (.ptr 2 0), .one (.ptr 3 0)] ⟨[(0, .cells 75 [.osl 1 0 u.2.1 u.2.1]), (1, .cells 4 (Q6 u.2.2.1)), (2, .cells 57 [We u.2.2.2]), (3, .cells 106 [.fn 56 [(0, 0), (2, 0), (3, 0)]])], [], 4⟩ (Qr []) ⟨[(0, .cells 75 [.osl 1 0 u.2.1 u.2.1]), (1, .cells 4 (Q6 r)), (2, .cells 57 [We u.2.2.2]), (3, .cells 106 [.fn 56 [(0, 0), (2, 0), (3, 0)]])], [], 4⟩ :=
 Z0 (C := fun u r => CallM Try.prog 56 [.one (Wg u.1), .one (.ptr 0 0), .one (.ptr 2 0), .one (.ptr 3 0)] ⟨[(0, .cells 75 [.osl 1 0 u.2.1 u.2.1]), (1, .cells 4 (Q6 u.2.2.1)), (2, .cells 57 [We u.2.2.2]), (3, .cells 106 [.fn 56 [(0, 0), (2, 0), (3, 0)]])], [], 4⟩ (Qr []) ⟨[(0, .cells 75 [.osl 1 0 u.2.1 u.2.1]), (1, .cells 4 (Q6 r)), (2, .cells 57 [We u.2.2.2]), (3, .cells 106 [.fn 56 [(0, 0), (2, 0), (3, 0)]])], [], 4⟩) (fun rc H u r h => m56f12s_ok rc (fun a0 a1 a2 a3 r h => H (a0, a1, a2, a3) r h) u.1 u.2.1 u.2.2.1 u.2.2.2 r h) n u r h0
theorem m56f12_ok (a0 : Int) (a1 : Nat) (a2 : List Bool) (a3 : List (List Int)) (r : (List Bool)) (h0 : m56f12 a0 a1 a2 a3 = some r) : CallM Try.prog 56 [.one (Wg a0), .one (.ptr 0 0), .one (.ptr 2 0), .one (.ptr 3 0)] ⟨[(0, .cells 75 [.osl 1 0 a1 a1]), (1, .cells 4 (Q6 a2)), (2, .cells 57 [We a3]), (3, .cells 106 [.fn 56 [(0, 0), (2, 0), (3, 0)]])], [], 4⟩ (Qr []) ⟨[(0, .cells 75 [.osl 1 0 a1 a1]), (1, .cells 4 (Q6 r)), (2, .cells 57 [We a3]), (3, .cells 106 [.fn 56 [(0, 0), (2, 0), (3, 0)]])], [], 4⟩ := m56f12_all QB (a0, a1, a2, a3) r h0
def m12_l0 (x9 : (List Wy)) (s2 : Int × (Qc Wy Int)) (s3 : Int × (Qc Wy Int)) : Option (LO (Int × (Qc Wy Int)) (((Qc Wy Int)) ⊕ (((List (List Int)) × (Qc Wy Int)) ⊕ Unit ⊕ Unit))) :=
 cond (decide (s3.1 < (x9.length : Int)))
   (Option.bind (J1 x9 s3.1) fun (x12 : Wy) =>
 cond (Jr s3.2 x12)
   (some (.done (.inr (.inr (.inl ())))))
   (some (.next ((QW (s3.1 + 1)), (JR s3.2 x12 s2.1)))))
   (some (.done (.inl s3.2)))
def m12_l1 (a0 : List Dcl) (s2 : Int × (Qc Wy Int)) : Option (LO (Int × (Qc Wy Int)) (((Qc Wy Int)) ⊕ (((List (List Int)) × (Qc Wy Int)) ⊕ Unit ⊕ Unit))) :=
 cond (decide (s2.1 < (a0.length : Int)))
   (Option.bind (J1 a0 s2.1) fun (x8 : Dcl) =>
 Option.bind (X8 x8) fun (x9 : (List Wy)) =>
 Option.bind (Qo (m12_l0 x9 s2) QB (0, s2.2)) (Sum.elim (fun (o10 : (Qc Wy Int)) => some (.next ((QW (s2.1 + 1)), o10))) (fun o => some (.done (.inr o)))))
   (some (.done (.inl s2.2)))
def m12_l2 (x10 : (List Wy)) (o6 : (Qc Wy Int)) (s3 : (List Int) × Int) : Option (LO ((List Int) × Int) (((List Int)) ⊕ (((List (List Int)) × (Qc Wy Int)) ⊕ Unit ⊕ Unit))) :=
 cond (decide (s3.2 < (x10.length : Int)))
   (Option.bind (J1 x10 s3.2) fun (x13 : Wy) =>
 cond (!(Jr o6 x13))
   (some (.done (.inr (.inr (.inr ())))))
   (Qm (Nat.ble (s3.1.length + ([(J7 o6 x13)]).length) 1000000000)
 (some (.next ((s3.1 ++ ([(J7 o6 x13)])), (QW (s3.2 + 1)))))))
   (some (.done (.inl s3.1)))
def GI (a0 : List Dcl) (o6 : (Qc Wy Int)) (s2 : Int × (List (List Int))) : Option (LO (Int × (List (List Int))) (((List (List Int))) ⊕ (((List (List Int)) × (Qc Wy Int)) ⊕ Unit ⊕ Unit))) :=
 cond (decide (s2.1 < (a0.length : Int)))
   (Option.bind (J1 a0 s2.1) fun (x9 : Dcl) =>
 Option.bind (Xe x9) fun (x10 : (List Wy)) =>
 Option.bind (Qo (m12_l2 x10 o6) QB (([] : List Int), 0)) (Sum.elim (fun (o11 : (List Int)) => Option.bind (YZ o11) fun (x12 : List Int) =>
 Option.bind (JM x12 ((Enc.encL o11).length)) fun (x13 : List Int) =>
 Qm (Nat.ble (s2.2.length + ([x13]).length) 1000000000)
 (some (.next ((QW (s2.1 + 1)), (s2.2 ++ ([x13])))))) (fun o => some (.done (.inr o)))))
   (some (.done (.inl s2.2)))
def ZE (a1 : List Wy) (y1 : (List (List Int)) × (Qc Wy Int)) (x30 : (List (List Int))) (s2 : Int × (List Bool)) : Option (LO (Int × (List Bool)) (((List Bool)) ⊕ (Unit ⊕ ((List Bool))))) :=
 cond (decide (s2.1 < (a1.length : Int)))
   (Option.bind (J1 a1 s2.1) fun (x38 : Wy) =>
 cond (!(Jr y1.2 x38))
   (some (.done (.inr (.inl ()))))
   (Option.bind (m56f12 (J7 y1.2 x38) ((x30.length : Int).toNat) s2.2 x30) fun (x40 : (List Bool)) =>
 some (.next ((QW (s2.1 + 1)), x40))))
   (some (.done (.inl s2.2)))
def Gm (a0 : List Dcl) (y32 : (List Bool)) (x30 : (List (List Int))) (s1 : (List Wy) × Int) : Option (LO ((List Wy) × Int) (((List Wy)))) :=
 cond (decide (s1.2 < (a0.length : Int)))
   (Option.bind (J1 a0 s1.2) fun (x44 : Dcl) =>
 Option.bind (J1 y32 s1.2) fun (x45 : Bool) =>
 Qm (Nat.beq y32.length ((x30.length : Int).toNat))
 (cond x45
   (Option.bind (X8 x44) fun (x48 : (List Wy)) =>
 Qm (Nat.ble (s1.1.length + x48.length) 1000000000)
 (some (.next ((s1.1 ++ x48), (QW (s1.2 + 1))))))
   (some (.next (s1.1, (QW (s1.2 + 1)))))))
   (some (.done s1.1))
def Xw (a0 : List Dcl) (a1 : List Wy) : Option ((List Wy) × Int) :=
 Option.bind (Option.bind (Qo (m12_l1 a0) QB (0, gmNil)) (Sum.elim (fun (o6 : (Qc Wy Int)) => Option.bind (Qo (GI a0 o6) QB (0, ([] : List (List Int)))) (Sum.elim (fun (o7 : (List (List Int))) => some (.inl (o7, o6))) (fun o => some o))) (fun o => some o))) (Sum.elim (fun (y1 : (List (List Int)) × (Qc Wy Int)) => Option.bind (XB y1.1) fun (x30 : (List (List Int))) =>
 Option.bind (Qm (cond (decide (0 ≤ (x30.length : Int))) (Nat.ble (1 * (x30.length : Int).toNat) 281474976710656) false)
 (Option.bind (Qo (ZE a1 y1 x30) QB (0, (List.replicate (x30.length : Int).toNat false))) (Sum.elim (fun (o36 : (List Bool)) => some (.inr o36)) (fun o => some o)))) (Sum.elim (fun (y31 : Unit) => some (([] : List Wy), 9)) (fun (y32 : (List Bool)) => Option.bind (Qo (Gm a0 y32 x30) QB (([] : List Wy), 0)) (fun (o42 : (List Wy)) => some (o42, 0))))) (Sum.elim (fun (y2 : Unit) => some (([] : List Wy), 8)) (fun (y3 : Unit) => some (([] : List Wy), 9))))
set_option maxRecDepth 100000 in
set_option maxHeartbeats 2000000 in
theorem m12_ok (a0 : List Dcl) (a1 : List Wy) (r : (List Wy) × Int) (h0 : Xw a0 a1 = some r) : Fun Try.prog 12 [.one (We a0), .one (We a1)] (Qr [.one (We r.1), .one (Wg r.2)]) := by
 unfold Xw at h0
 refine Jd 9 49 Try.func12 rfl en_12 rfl (W1 rfl) (fun S w => ?_)
 simp only [Jc]
 refine Q2 <| Q0 <| XS rfl rfl rfl <| XS rfl rfl rfl <| Q3 <| Q1 <| Q2 <| Q0 <| XR rfl rfl rfl ?_
 refine Qb h0 (fun y5 h1 h0 => ?_)
 have hc4 : CallM Try.prog 34 [.one (We a0)] ⟨[], [], 0⟩ (Qr (((Sum.elim (fun (y1 : (List (List Int)) × (Qc Wy Int)) => ([.agg [Wi 3 y1.1, .mp 1], .one (Wg 0)] : List AV)) (Sum.elim (fun (y2 : Unit) => ([.agg [Wf, .d (.v (.map none))], .one (Wg 8)] : List AV)) (fun (y3 : Unit) => ([.agg [Wf, .d (.v (.map none))], .one (Wg 9)] : List AV))))) y5)) ⟨(((Sum.elim (fun (y1 : (List (List Int)) × (Qc Wy Int)) => (⟨[(2, .v (.one (.ptr 0 0))), (3, .v (.one (Wg 0)))], [(0, .cells 72 [Wi 3 y1.1, .mp 1]), (1, .mp (QJ y1.2.1) y1.2.2)], [(3, some ⟨54, 1, (Enc.encL y1.1).length, []⟩)], 4, 88, []⟩ : St)) (Sum.elim (fun (y2 : Unit) => (⟨[(2, .v (.one (.ptr 0 0))), (3, .v (.one (Wg 8)))], [(0, .cells 72 [Wf, .d (.v (.map none))])], [], 4, 88, []⟩ : St)) (fun (y3 : Unit) => (⟨[(2, .v (.one (.ptr 0 0))), (3, .v (.one (Wg 9)))], [(0, .cells 72 [Wf, .d (.v (.map none))])], [], 6, 88, []⟩ : St))))) y5).hp, (((Sum.elim (fun (y1 : (List (List Int)) × (Qc Wy Int)) => (⟨[(2, .v (.one (.ptr 0 0))), (3, .v (.one (Wg 0)))], [(0, .cells 72 [Wi 3 y1.1, .mp 1]), (1, .mp (QJ y1.2.1) y1.2.2)], [(3, some ⟨54, 1, (Enc.encL y1.1).length, []⟩)], 4, 88, []⟩ : St)) (Sum.elim (fun (y2 : Unit) => (⟨[(2, .v (.one (.ptr 0 0))), (3, .v (.one (Wg 8)))], [(0, .cells 72 [Wf, .d (.v (.map none))])], [], 4, 88, []⟩ : St)) (fun (y3 : Unit) => (⟨[(2, .v (.one (.ptr 0 0))), (3, .v (.one (Wg 9)))], [(0, .cells 72 [Wf, .d (.v (.map none))])], [], 6, 88, []⟩ : St))))) y5).tk, (((Sum.elim (fun (y1 : (List (List Int)) × (Qc Wy Int)) => (⟨[(2, .v (.one (.ptr 0 0))), (3, .v (.one (Wg 0)))], [(0, .cells 72 [Wi 3 y1.1, .mp 1]), (1, .mp (QJ y1.2.1) y1.2.2)], [(3, some ⟨54, 1, (Enc.encL y1.1).length, []⟩)], 4, 88, []⟩ : St)) (Sum.elim (fun (y2 : Unit) => (⟨[(2, .v (.one (.ptr 0 0))), (3, .v (.one (Wg 8)))], [(0, .cells 72 [Wf, .d (.v (.map none))])], [], 4, 88, []⟩ : St)) (fun (y3 : Unit) => (⟨[(2, .v (.one (.ptr 0 0))), (3, .v (.one (Wg 9)))], [(0, .cells 72 [Wf, .d (.v (.map none))])], [], 6, 88, []⟩ : St))))) y5).nx⟩ := by
  refine JC y5 ((Sum.elim (fun (y1 : (List (List Int)) × (Qc Wy Int)) => (⟨[(2, .v (.one (.ptr 0 0))), (3, .v (.one (Wg 0)))], [(0, .cells 72 [Wi 3 y1.1, .mp 1]), (1, .mp (QJ y1.2.1) y1.2.2)], [(3, some ⟨54, 1, (Enc.encL y1.1).length, []⟩)], 4, 88, []⟩ : St)) (Sum.elim (fun (y2 : Unit) => (⟨[(2, .v (.one (.ptr 0 0))), (3, .v (.one (Wg 8)))], [(0, .cells 72 [Wf, .d (.v (.map none))])], [], 4, 88, []⟩ : St)) (fun (y3 : Unit) => (⟨[(2, .v (.one (.ptr 0 0))), (3, .v (.one (Wg 9)))], [(0, .cells 72 [Wf, .d (.v (.map none))])], [], 6, 88, []⟩ : St))))) ((Sum.elim (fun (y1 : (List (List Int)) × (Qc Wy Int)) => ([.agg [Wi 3 y1.1, .mp 1], .one (Wg 0)] : List AV)) (Sum.elim (fun (y2 : Unit) => ([.agg [Wf, .d (.v (.map none))], .one (Wg 8)] : List AV)) (fun (y3 : Unit) => ([.agg [Wf, .d (.v (.map none))], .one (Wg 9)] : List AV))))) rfl rfl GR (W1 rfl) (fun z_ => by cases z_ with
    | inl _ => rfl
    | inr z_ => exact (by cases z_ <;> rfl)) (fun z_ => by cases z_ with
    | inl _ => exact (JU J2 rfl rfl rfl rfl (Qp rfl .nil))
    | inr z_ => exact (by cases z_ with
    | inl _ => exact (JU J2 rfl rfl rfl rfl (Qp rfl .nil))
    | inr _ => exact (JU J2 rfl rfl rfl rfl (Qp rfl .nil)))) (fun w0 M V0 Q hv1 hQ1 => ?_)
  simp only [Jc]
  refine Q2 <| Q0 <| Q9 rfl rfl (W1 rfl) (Ql YJ rfl) <| XS rfl rfl rfl <| Q3 <| Q1 <| Q2 <| Q0 <| Q9 rfl rfl (W1 rfl) (JW Wy Int) <| XP rfl rfl rfl (YX YR rfl rfl rfl) <| Q9 rfl rfl (W1 rfl) (Ql YJ rfl) <| QA rfl rfl (Qi J2 rfl rfl rfl rfl (W1 rfl) rfl) <| Q3 <| Q1 ?_
  refine Q2 <| Q2 <| Q0 <| XR rfl rfl rfl <| XP rfl rfl rfl (Qy (α := Dcl) J5 rfl (.d _)) <| XR rfl rfl rfl <| Q3 <| Q1 <| Qd ?_
  refine QI 0 (fun (o6 : (Qc Wy Int)) => ⟨[(0, .v (.one (We a0))), (2, .v (.one (.ptr 0 0))), (4, .v (.one (.ptr 2 0)))], [(0, .cells 72 [Wf, .d (.v (.map none))]), (1, .mp (QJ o6.1) o6.2), (2, .cells 72 [Wf, .mp 1])], [], 3, 88, []⟩) (fun (o6 : (Qc Wy Int)) => (Option.bind (Qo (GI a0 o6) QB (0, ([] : List (List Int)))) (Sum.elim (fun (o7 : (List (List Int))) => some (.inl (o7, o6))) (fun o => some o))) = some y5) ?_ ?_
  refine Qb h1 (fun o7 hl2 h1 => ?_)
  refine QH (m12_l1 a0) (fun s2 => ⟨[(0, .v (.one (We a0))), (2, .v (.one (.ptr 0 0))), (4, .v (.one (.ptr 2 0))), (20, .v (.one (We a0))), (21, .v (.one (Wg (a0.length : Int)))), (22, .v (.one (Wg s2.1)))], [(0, .cells 72 [Wf, .d (.v (.map none))]), (1, .mp (QJ s2.2.1) s2.2.2), (2, .cells 72 [Wf, .mp 1])], [], 3, 88, []⟩) (0, gmNil) o7 (Qh (XK rfl (XK rfl (XK rfl (XK rfl (XK rfl (XK rfl XJ)))))) (W8 rfl (W8 rfl (W8 rfl W7))) W3 rfl (Nat.le_trans hv1 (W1 rfl)) rfl rfl rfl (Wp rfl rfl (Wn rfl (Wp rfl rfl Wm))) rfl rfl) hl2 (fun s2 n2 oo2 h2 ho2 => ?_)
  unfold m12_l1 at h2
  refine Q2 <| Q0 <| XP rfl rfl rfl (Q4 rfl rfl rfl) <| Q3 <| Q1 <| Q2 ?_
  refine Qg (b := (decide (s2.1 < (a0.length : Int)))) rfl (fun c8 => ?_) (fun c8 => ?_)
  replace h2 := Qu c8 h2
  refine Qj <| Q1 <| Q2 <| Qd <| Q2 <| Q0 <| XR rfl rfl rfl ?_
  refine Qb h2 (fun x9 hx9 h2 => ?_)
  refine XP rfl rfl rfl (Qq (α := Dcl) J5 rfl (.d _) rfl hx9) <| XP rfl rfl rfl (J4 (x9 : Dcl) J3 rfl) <| Q9 rfl rfl (W1 rfl) (Ql Z8 rfl) <| XS rfl rfl rfl <| QA rfl rfl (Jb (x9 : Dcl) J3 rfl rfl rfl rfl rfl) <| Q3 <| Q1 <| Q2 <| Q0 <| XP rfl rfl rfl (Jj (x9 : Dcl) J3 rfl rfl) ?_
  refine Qb h2 (fun x10 hx10 h2 => ?_)
  refine Q9 rfl rfl (W1 rfl) (Qt (K5 x9 x10 hx10) rfl (.cons (.agg (.cons (.d _) (.cons (.d _) (.cons (.d _) (.cons (.d _) (.cons (.d _) (.cons (.d _) (.cons (.d _) (.cons (.d _) (.cons (.d _) (.cons (.d _) (.cons (.d _) (.cons (.d _) (.cons (.d _) (.cons (.d _) (.cons (.d _) (.cons (.d _) (.cons (.d _) (.cons (.d _) (.cons (.d _) (.cons (.d _) (.cons (.d _) (.cons (.d _) (.cons (.d _) .nil)))))))))))))))))))))))) .nil)) <| XP rfl rfl rfl (Qy (α := Wy) QQ rfl (.d _)) <| XR rfl rfl rfl <| Q3 <| Q1 <| Qd ?_
  refine QI 2 (fun (o11 : (Qc Wy Int)) => ⟨[(0, .v (.one (We a0))), (2, .v (.one (.ptr 0 0))), (4, .v (.one (.ptr 2 0))), (20, .v (.one (We a0))), (21, .v (.one (Wg (a0.length : Int)))), (22, .v (.one (Wg s2.1)))], [(0, .cells 72 [Wf, .d (.v (.map none))]), (1, .mp (QJ o11.1) o11.2), (2, .cells 72 [Wf, .mp 1]), (3, .cells 48 (Wj x9))], [], 4, 88, []⟩) (fun (o11 : (Qc Wy Int)) => (some (.next ((QW (s2.1 + 1)), o11))) = some oo2) ?_ ?_
  refine Qb h2 (fun o12 hl3 h2 => ?_)
  refine QH (m12_l0 x10 s2) (fun s3 => ⟨[(0, .v (.one (We a0))), (2, .v (.one (.ptr 0 0))), (4, .v (.one (.ptr 2 0))), (5, .v (.one (Wg s2.1))), (20, .v (.one (We a0))), (21, .v (.one (Wg (a0.length : Int)))), (22, .v (.one (Wg s2.1))), (28, .v (.one (We x10))), (29, .v (.one (Wg (x10.length : Int)))), (30, .v (.one (Wg s3.1)))], [(0, .cells 72 [Wf, .d (.v (.map none))]), (1, .mp (QJ s3.2.1) s3.2.2), (2, .cells 72 [Wf, .mp 1]), (3, .cells 48 (Wj x9))], [], 4, 88, []⟩) (0, s2.2) o12 (Qh (XK rfl (XK rfl (XK rfl (XK rfl (XK rfl (XK rfl (XK rfl (XK rfl (XK rfl (XK rfl XJ)))))))))) (W8 rfl (W8 rfl (W8 rfl (W8 rfl W7)))) W3 rfl (Nat.le_trans hv1 (W1 rfl)) rfl rfl rfl (Wp rfl rfl (Wn rfl (Wp rfl rfl (Wp rfl rfl Wm)))) rfl rfl) hl3 (fun s3 n3 oo3 h3 ho3 => ?_)
  unfold m12_l0 at h3
  refine Q2 <| Q0 <| XP rfl rfl rfl (Q4 rfl rfl rfl) <| Q3 <| Q1 <| Q2 ?_
  refine Qg (b := (decide (s3.1 < (x10.length : Int)))) rfl (fun c13 => ?_) (fun c13 => ?_)
  replace h3 := Qu c13 h3
  refine Qj <| Q1 <| Q2 <| Qd <| Q2 <| Q0 ?_
  refine Qb h3 (fun x14 hx14 h3 => ?_)
  refine XP rfl rfl rfl (Qq (α := Wy) QQ rfl (.d _) rfl hx14) <| XP rfl rfl rfl (QK Y6 rfl rfl) <| XS rfl rfl rfl <| Q3 <| Q1 <| Q2 <| Q2 <| Q0 <| XP rfl rfl rfl (Q8 JJ rfl) <| XP rfl rfl rfl (Q7 Yw rfl rfl rfl) <| XR rfl rfl rfl <| XP rfl rfl rfl (Jo (M := s3.2) (k := x14) Yv Yb rfl rfl rfl) <| XR rfl rfl rfl <| XP rfl rfl rfl (Qe rfl rfl) ?_
  refine XP rfl rfl rfl (Qe rfl rfl) <| XS rfl rfl rfl <| XS rfl rfl rfl <| Q3 <| Q1 <| Q2 <| Q0 <| XR rfl rfl rfl <| Q3 <| Q1 ?_
  refine Qg (b := (Jr s3.2 x14)) rfl (fun c15 => ?_) (fun c15 => ?_)
  replace h3 := Qu c15 h3
  refine Q2 <| Q0 <| XP rfl rfl rfl (Y1 YR rfl ) <| QA rfl rfl (Qi J2 rfl rfl rfl rfl (W1 rfl) rfl) <| XS rfl rfl rfl <| Q3 <| Q1 <| Qw ?_
  have e := XN h3; subst e
  have e_ : _ = _ := ho3
  subst e_
  try dsimp only [Sum.elim_inl, Sum.elim_inr] at h2
  have e := XN h2; subst e
  have e_ : _ = _ := ho2
  subst e_
  try dsimp only [Sum.elim_inl, Sum.elim_inr] at h1
  have e := XN h1; subst e
  exact hQ1 _ _ _ (.inr rfl) rfl (show StLe _ _ ⟨[(2, .v (.one (.ptr 0 0))), (3, .v (.one (Wg 8)))], [(0, .cells 72 [Wf, .d (.v (.map none))])], [], 4, 88, []⟩ from (Qh (XK rfl (XK rfl XJ)) (W8 rfl W7) W3 rfl (Nat.le_trans hv1 (W1 rfl)) rfl rfl rfl (Wp rfl rfl Wm) rfl rfl))
  replace h3 := Qv c15 h3
  refine Qj <| Q1 <| Q0 <| XP rfl rfl rfl (Q8 JJ rfl) <| XP rfl rfl rfl (Q7 Yw rfl rfl rfl) <| XR rfl rfl rfl <| XR rfl rfl rfl <| QA rfl rfl (JI (M := s3.2) (k := x14) (v := s2.1) Yv rfl rfl rfl rfl rfl) <| Q3 <| Qk <| Q1 <| Q0 <| XP rfl rfl rfl (Q4 rfl rfl rfl) <| XR rfl rfl rfl ?_
  refine Q3 ?_
  have e := XN h3; subst e
  refine QD ((QW (s3.1 + 1)), (JR s3.2 x14 s2.1)) (Qh (XK rfl (XK rfl (XK rfl (XK rfl (XK rfl (XK rfl (XK rfl (XK rfl (XK rfl (XK rfl XJ)))))))))) (W8 rfl (W8 rfl (W8 rfl (W8 rfl W7)))) W3 rfl (Nat.le_trans hv1 (W1 rfl)) rfl rfl rfl (Wp rfl rfl (Wn rfl (Wp rfl rfl (Wp rfl rfl Wm)))) rfl rfl) ho3
  replace h3 := Qv c13 h3
  refine QN <| Qf <| Qf ?_
  have e := XN h3; subst e
  have e_ : _ = _ := ho3
  subst e_
  exact QF s3.2 (Qh (XK rfl (XK rfl (XK rfl (XK rfl (XK rfl (XK rfl XJ)))))) (W8 rfl (W8 rfl (W8 rfl (W8 rfl W7)))) W3 rfl (Nat.le_trans hv1 (W1 rfl)) rfl rfl rfl (Wp rfl rfl (Wn rfl (Wp rfl rfl (Wp rfl rfl Wm)))) rfl rfl) h2
  intro o11 h2
  refine Qx <| Qk <| Q1 <| Q0 <| XP rfl rfl rfl (Q4 rfl rfl rfl) <| XR rfl rfl rfl <| Q3 ?_
  have e := XN h2; subst e
  refine QD ((QW (s2.1 + 1)), o11) (Qh (XK rfl (XK rfl (XK rfl (XK rfl (XK rfl (XK rfl XJ)))))) (W8 rfl (W8 rfl (W8 rfl W7))) W3 rfl (Nat.le_trans hv1 (W1 rfl)) rfl rfl rfl (Wp rfl rfl (Wn rfl (Wp rfl rfl Wm))) rfl rfl) ho2
  replace h2 := Qv c8 h2
  refine QN <| Qf <| Qf ?_
  have e := XN h2; subst e
  have e_ : _ = _ := ho2
  subst e_
  exact QF s2.2 (Qh (XK rfl (XK rfl (XK rfl XJ))) (W8 rfl (W8 rfl (W8 rfl W7))) W3 rfl (Nat.le_trans hv1 (W1 rfl)) rfl rfl rfl (Wp rfl rfl (Wn rfl (Wp rfl rfl Wm))) rfl rfl) h1
  intro o6 h1
  refine Qx <| Q1 <| Q2 <| Q2 <| Q0 <| XR rfl rfl rfl <| XP rfl rfl rfl (Qy (α := Dcl) J5 rfl (.d _)) <| XR rfl rfl rfl <| Q3 <| Q1 <| Qd ?_
  refine QI 4 (fun (o16 : (List (List Int))) => ⟨[(2, .v (.one (.ptr 0 0))), (4, .v (.one (.ptr 2 0)))], [(0, .cells 72 [Wf, .d (.v (.map none))]), (1, .mp (QJ o6.1) o6.2), (2, .cells 72 [Wi 3 o16, .mp 1])], [(3, some ⟨54, 1, (Enc.encL o16).length, []⟩)], 4, 88, []⟩) (fun (o16 : (List (List Int))) => (some (.inl (o16, o6))) = some y5) ?_ ?_
  refine YH (i := 2) (off := 0) 54 1 rfl rfl ?_
  refine Qb h1 (fun o17 hl2 h1 => ?_)
  refine QH (GI a0 o6) (fun s2 => ⟨[(2, .v (.one (.ptr 0 0))), (4, .v (.one (.ptr 2 0))), (49, .v (.one (We a0))), (50, .v (.one (Wg (a0.length : Int)))), (51, .v (.one (Wg s2.1)))], [(0, .cells 72 [Wf, .d (.v (.map none))]), (1, .mp (QJ o6.1) o6.2), (2, .cells 72 [Wi 3 s2.2, .mp 1])], [(3, some ⟨54, 1, (Enc.encL s2.2).length, []⟩)], 4, 88, []⟩) (0, ([] : List (List Int))) o17 (Qh (XK rfl (XK rfl (XK rfl (XK rfl (XK rfl XJ))))) (W8 rfl (W8 rfl (W8 rfl W7))) (W4 rfl W3) rfl (Nat.le_trans hv1 (W1 rfl)) rfl rfl rfl (Wp rfl rfl (Wn rfl (Wp rfl rfl Wm))) rfl rfl) hl2 (fun s2 n2 oo2 h2 ho2 => ?_)
  unfold GI at h2
  refine Q2 <| Q0 <| XP rfl rfl rfl (Q4 rfl rfl rfl) <| Q3 <| Q1 <| Q2 ?_
  refine Qg (b := (decide (s2.1 < (a0.length : Int)))) rfl (fun c18 => ?_) (fun c18 => ?_)
  replace h2 := Qu c18 h2
  refine Qj <| Q1 <| Q2 <| Qd <| Q2 <| Q0 ?_
  refine Qb h2 (fun x19 hx19 h2 => ?_)
  refine XP rfl rfl rfl (Qq (α := Dcl) J5 rfl (.d _) rfl hx19) <| XP rfl rfl rfl (J4 (x19 : Dcl) J3 rfl) <| Q9 rfl rfl (W1 rfl) (Ql Z8 rfl) <| QA rfl rfl (Jb (x19 : Dcl) J3 rfl rfl rfl rfl rfl) <| Q3 <| Q1 <| Q2 <| Q0 <| XS rfl rfl rfl <| Q3 <| Q1 <| Q2 <| Q2 <| Q0 ?_
  refine XP rfl rfl rfl (Jj (x19 : Dcl) J3 rfl rfl) ?_
  refine Qb h2 (fun x20 hx20 h2 => ?_)
  refine Q9 rfl rfl (W1 rfl) (Qt (Gh x19 x20 hx20) rfl (.cons (.agg (.cons (.d _) (.cons (.d _) (.cons (.d _) (.cons (.d _) (.cons (.d _) (.cons (.d _) (.cons (.d _) (.cons (.d _) (.cons (.d _) (.cons (.d _) (.cons (.d _) (.cons (.d _) (.cons (.d _) (.cons (.d _) (.cons (.d _) (.cons (.d _) (.cons (.d _) (.cons (.d _) (.cons (.d _) (.cons (.d _) (.cons (.d _) (.cons (.d _) (.cons (.d _) .nil)))))))))))))))))))))))) .nil)) <| XP rfl rfl rfl (Qy (α := Wy) QQ rfl (.d _)) <| XR rfl rfl rfl <| Q3 <| Q1 <| Qd ?_
  refine QI 6 (fun (o21 : (List Int)) => ⟨[(2, .v (.one (.ptr 0 0))), (4, .v (.one (.ptr 2 0))), (13, .v (.one (.apv 5 1 ((Enc.encL o21).length) []))), (49, .v (.one (We a0))), (50, .v (.one (Wg (a0.length : Int)))), (51, .v (.one (Wg s2.1)))], [(0, .cells 72 [Wf, .d (.v (.map none))]), (1, .mp (QJ o6.1) o6.2), (2, .cells 72 [Wi 3 s2.2, .mp 1]), (4, .cells 48 (Wj x19))], [(3, some ⟨54, 1, (Enc.encL s2.2).length, []⟩), (5, some ⟨3, 1, (Enc.encL o21).length, (Enc.encL o21).flatten⟩)], 6, 88, []⟩) (fun (o21 : (List Int)) => (Option.bind (YZ o21) fun (x22 : List Int) =>
    Option.bind (JM x22 ((Enc.encL o21).length)) fun (x23 : List Int) =>
    Qm (Nat.ble (s2.2.length + ([x23]).length) 1000000000)
    (some (.next ((QW (s2.1 + 1)), (s2.2 ++ ([x23])))))) = some oo2) ?_ ?_
  refine Y0 (t := 13) 3 1 rfl <| ZY (α := Int) (t := 13) rfl rfl ?_
  refine Qb h2 (fun o22 hl3 h2 => ?_)
  refine QH (m12_l2 x20 o6) (fun s3 => ⟨[(2, .v (.one (.ptr 0 0))), (4, .v (.one (.ptr 2 0))), (13, .v (.one (.apv 5 1 ((Enc.encL s3.1).length) []))), (49, .v (.one (We a0))), (50, .v (.one (Wg (a0.length : Int)))), (51, .v (.one (Wg s2.1))), (56, .v (.one (We x20))), (57, .v (.one (Wg (x20.length : Int)))), (58, .v (.one (Wg s3.2)))], [(0, .cells 72 [Wf, .d (.v (.map none))]), (1, .mp (QJ o6.1) o6.2), (2, .cells 72 [Wi 3 s2.2, .mp 1]), (4, .cells 48 (Wj x19))], [(3, some ⟨54, 1, (Enc.encL s2.2).length, []⟩), (5, some ⟨3, 1, (Enc.encL s3.1).length, (Enc.encL s3.1).flatten⟩)], 6, 88, []⟩) (([] : List Int), 0) o22 (Qh (XK rfl (XK rfl (XK rfl (XK rfl (XK rfl (XK rfl (XK rfl (XK rfl (XK rfl XJ))))))))) (W8 rfl (W8 rfl (W8 rfl (W8 rfl W7)))) (W4 rfl (W4 rfl W3)) rfl (Nat.le_trans hv1 (W1 rfl)) rfl rfl rfl (Wp rfl rfl (Wn rfl (Wp rfl rfl (Wp rfl rfl Wm)))) rfl rfl) hl3 (fun s3 n3 oo3 h3 ho3 => ?_)
  unfold m12_l2 at h3
  refine Q2 <| Q0 <| XP rfl rfl rfl (Q4 rfl rfl rfl) <| Q3 <| Q1 <| Q2 ?_
  refine Qg (b := (decide (s3.2 < (x20.length : Int)))) rfl (fun c23 => ?_) (fun c23 => ?_)
  replace h3 := Qu c23 h3
  refine Qj <| Q1 <| Q2 <| Qd <| Q2 <| Q0 ?_
  refine Qb h3 (fun x24 hx24 h3 => ?_)
  refine XP rfl rfl rfl (Qq (α := Wy) QQ rfl (.d _) rfl hx24) <| XP rfl rfl rfl (QK Y6 rfl rfl) <| XS rfl rfl rfl <| Q3 <| Q1 <| Q2 <| Q0 <| XP rfl rfl rfl (Q8 JJ rfl) <| XP rfl rfl rfl (Q7 Yw rfl rfl rfl) <| XR rfl rfl rfl <| XP rfl rfl rfl (Jo (M := o6) (k := x24) Yv Yb rfl rfl rfl) <| XR rfl rfl rfl <| XP rfl rfl rfl (Qe rfl rfl) <| XP rfl rfl rfl (Qe rfl rfl) ?_
  refine XS rfl rfl rfl <| XS rfl rfl rfl <| Q3 <| Q1 <| Q2 <| Q2 <| Q0 <| XR rfl rfl rfl <| XP rfl rfl rfl (Jp rfl) <| Q3 <| Q1 ?_
  refine Qg (b := (!(Jr o6 x24))) rfl (fun c25 => ?_) (fun c25 => ?_)
  replace h3 := Qu c25 h3
  refine Q2 <| Q0 <| XP rfl rfl rfl (Y1 YR rfl ) <| QA rfl rfl (Qi J2 rfl rfl rfl rfl (W1 rfl) rfl) <| XS rfl rfl rfl <| Q3 <| Q1 <| Qw ?_
  have e := XN h3; subst e
  have e_ : _ = _ := ho3
  subst e_
  try dsimp only [Sum.elim_inl, Sum.elim_inr] at h2
  have e := XN h2; subst e
  have e_ : _ = _ := ho2
  subst e_
  try dsimp only [Sum.elim_inl, Sum.elim_inr] at h1
  have e := XN h1; subst e
  exact hQ1 _ _ _ (.inr rfl) rfl (show StLe _ _ ⟨[(2, .v (.one (.ptr 0 0))), (3, .v (.one (Wg 9)))], [(0, .cells 72 [Wf, .d (.v (.map none))])], [], 6, 88, []⟩ from (Qh (XK rfl (XK rfl XJ)) (W8 rfl W7) W3 rfl (Nat.le_trans hv1 (W1 rfl)) rfl rfl rfl (Wp rfl rfl Wm) rfl rfl))
  replace h3 := Qv c25 h3
  refine Qj <| Q1 <| Q0 <| XR rfl rfl rfl <| XR rfl rfl rfl <| Q9 rfl rfl (W1 rfl) (QY (α := Int) ((J7 o6 x24)) JP Xh rfl rfl (W1 rfl) (W1 rfl) rfl rfl (.cons (.d _) .nil) rfl) ?_
  refine QO h3 (fun g26 h3 => ?_)
  refine Q9 rfl rfl (W1 rfl) (Yr (α := Int) (l := s3.1) (l2 := ([(J7 o6 x24)] : List Int)) JP X2 rfl rfl rfl rfl (.app _ _) rfl g26) <| XS rfl rfl rfl <| Q3 <| Qk <| Q1 <| Q0 <| XP rfl rfl rfl (Q4 rfl rfl rfl) <| XR rfl rfl rfl <| Q3 ?_
  have e := XN h3; subst e
  refine QD ((s3.1 ++ ([(J7 o6 x24)])), (QW (s3.2 + 1))) (Qh (XK rfl (XK rfl (XK rfl (XK rfl (XK rfl (XK rfl (XK rfl (XK rfl (XK rfl XJ))))))))) (W8 rfl (W8 rfl (W8 rfl (W8 rfl W7)))) (W4 rfl (W4 rfl W3)) rfl (Nat.le_trans hv1 (W1 rfl)) rfl rfl rfl (Wp rfl rfl (Wn rfl (Wp rfl rfl (Wp rfl rfl Wm)))) rfl rfl) ho3
  replace h3 := Qv c23 h3
  refine QN <| Qf <| Qf ?_
  have e := XN h3; subst e
  have e_ : _ = _ := ho3
  subst e_
  exact QF s3.1 (Qh (XK rfl (XK rfl (XK rfl (XK rfl (XK rfl (XK rfl XJ)))))) (W8 rfl (W8 rfl (W8 rfl (W8 rfl W7)))) (W4 rfl (W4 rfl W3)) rfl (Nat.le_trans hv1 (W1 rfl)) rfl rfl rfl (Wp rfl rfl (Wn rfl (Wp rfl rfl (Wp rfl rfl Wm)))) rfl rfl) h2
  intro o21 h2
  refine Qx <| Q1 <| Q2 <| Q0 <| XR rfl rfl rfl ?_
  refine Qb h2 (fun x27 hx27 h2 => ?_)
  refine Q9 rfl rfl (W1 rfl) (QS (hp1' := []) (tk1' := [(5, some ⟨3, 1, (Enc.encL o21).length, (Enc.encL x27).flatten⟩)]) (hpF := [(0, .cells 72 [Wf, .d (.v (.map none))]), (1, .mp (QJ o6.1) o6.2), (2, .cells 72 [Wi 3 s2.2, .mp 1]), (4, .cells 48 (Wj x19))]) (tkF := [(3, some ⟨54, 1, (Enc.encL s2.2).length, []⟩)]) (res2 := Qr []) (nx2 := 6) [5] rfl rfl (ZJ o21 x27 hx27) rfl rfl XT rfl rfl Wa (W6 rfl W5) (W8 rfl (W8 rfl (W8 rfl (W8 rfl W7)))) (W4 rfl W3) rfl rfl rfl rfl rfl Wm rfl rfl rfl rfl) <| Q3 <| Q1 ?_
  refine JZ [3, 5, 7] [(0, 1), (1, 1)] mixed (by kernel_rfl) (by kernel_rfl) (by kernel_rfl) ?_
  refine RunA.rd rfl rfl rfl (Q5 (Q8 JA rfl)) rfl <| RunA.rd rfl rfl rfl (Q5 (Q7 JV rfl rfl rfl)) rfl <| RunA.rd rfl rfl rfl (Q5 (QV rfl)) rfl ?_
  refine Qb h2 (fun x28 hx28 h2 => ?_)
  refine RunA.eff rfl rfl rfl (QS (hp1' := []) (tk1' := [(6, some ⟨3, 1, (Enc.encL x28).length, []⟩)]) (hpF := [(0, .cells 72 [Wf, .d (.v (.map none))]), (1, .mp (QJ o6.1) o6.2), (2, .cells 72 [Wi 3 s2.2, .mp 1]), (4, .cells 48 (Wj x19))]) (tkF := [(3, some ⟨54, 1, (Enc.encL s2.2).length, []⟩)]) (res2 := Qr [.one (Wi 6 x28)]) (nx2 := 7) [5] rfl rfl (YE x27 ((Enc.encL o21).length) x28 hx28) rfl rfl XT rfl rfl Wa (W6 rfl W5) (W8 rfl (W8 rfl (W8 rfl (W8 rfl W7)))) (W4 rfl W3) rfl rfl rfl rfl rfl Wm rfl rfl rfl rfl) rfl <| RunA.rd rfl rfl rfl (JX (α := List Int) (x28) Y3 X6 rfl rfl (W1 rfl) rfl rfl (.cons (.app _ _ _) .nil) rfl) rfl ?_
  refine QO h2 (fun g29 h2 => ?_)
  refine RunA.eff rfl rfl rfl (QU (α := List Int) Y3 GL rfl rfl rfl rfl rfl (.d _) g29) rfl <| RunA.rd rfl rfl rfl (Q5 (Q8 JA rfl)) rfl <| RunA.eff rfl rfl rfl (Qi JV rfl rfl rfl rfl (W1 rfl) rfl) rfl ?_
  refine RunA.nil ⟨?ex, _, _, rfl, ?_⟩
  case ex => exact ⟨⟨_, rfl, _, _, rfl, rfl, rfl, .inl ⟨rfl, _, Q5 (Q8 JA rfl), rfl⟩⟩, ⟨_, rfl, _, _, rfl, rfl, rfl, .inl ⟨rfl, _, Q5 (Q7 JV rfl rfl rfl), rfl⟩⟩, trivial⟩
  refine JT (st' := ⟨[(2, .v (.one (.ptr 0 0))), (4, .v (.one (.ptr 2 0))), (49, .v (.one (We a0))), (50, .v (.one (Wg (a0.length : Int)))), (51, .v (.one (Wg s2.1)))], [(0, .cells 72 [Wf, .d (.v (.map none))]), (1, .mp (QJ o6.1) o6.2), (2, .cells 72 [Wi 3 ((s2.2 ++ ([x28])) : List (List Int)), .mp 1]), (4, .cells 48 (Wj x19))], [(3, some ⟨54, 1, (Enc.encL ((s2.2 ++ ([x28])) : List (List Int))).length, []⟩), (6, some ⟨3, 1, (Enc.encL x28).length, []⟩)], 7, 88, []⟩) (Qh (XK rfl (XK rfl (XK rfl (XK rfl (XK rfl XJ))))) (W8 rfl (W8 rfl (W8 rfl (W8 rfl W7)))) (W4 rfl (W4 rfl W3)) rfl (Nat.le_trans hv1 (W1 rfl)) rfl rfl rfl (Wp rfl rfl (Wn rfl (Wp rfl rfl (Wp rfl rfl Wm)))) rfl rfl) <| Qk <| Q1 <| Q0 <| XP rfl rfl rfl (Q4 rfl rfl rfl) <| XR rfl rfl rfl <| Q3 ?_
  have e := XN h2; subst e
  refine QD ((QW (s2.1 + 1)), (s2.2 ++ ([x28]))) (Qh (XK rfl (XK rfl (XK rfl (XK rfl (XK rfl XJ))))) (W8 rfl (W8 rfl (W8 rfl W7))) (W4 rfl W3) rfl (Nat.le_trans hv1 (W1 rfl)) rfl rfl rfl (Wp rfl rfl (Wn rfl (Wp rfl rfl Wm))) rfl rfl) ho2
  replace h2 := Qv c18 h2
  refine QN <| Qf <| Qf ?_
  have e := XN h2; subst e
  have e_ : _ = _ := ho2
  subst e_
  exact QF s2.2 (Qh (XK rfl (XK rfl XJ)) (W8 rfl (W8 rfl (W8 rfl W7))) (W4 rfl W3) rfl (Nat.le_trans hv1 (W1 rfl)) rfl rfl rfl (Wp rfl rfl (Wn rfl (Wp rfl rfl Wm))) rfl rfl) h1
  intro o16 h1
  refine Qx <| Q1 <| Q2 <| Q0 <| XP rfl rfl rfl (Qz J2 rfl rfl rfl rfl) <| QA rfl rfl (Qi J2 rfl rfl rfl rfl (W1 rfl) rfl) <| XS rfl rfl rfl <| Q3 <| Q1 <| Qw ?_
  have e := XN h1; subst e
  exact hQ1 _ _ _ (.inr rfl) rfl (show StLe _ _ ⟨[(2, .v (.one (.ptr 0 0))), (3, .v (.one (Wg 0)))], [(0, .cells 72 [Wi 3 o16, .mp 1]), (1, .mp (QJ o6.1) o6.2)], [(3, some ⟨54, 1, (Enc.encL o16).length, []⟩)], 4, 88, []⟩ from (Qh (XK rfl (XK rfl XJ)) (W8 rfl (W8 rfl W7)) (W4 rfl W3) rfl (Nat.le_trans hv1 (W1 rfl)) rfl rfl rfl (Wp rfl rfl (Wn rfl Wm)) rfl rfl))
 refine KA (C := fun q_ => CallM Try.prog 34 [.one (We a0)] ⟨[], [], 0⟩ (Qr (((Sum.elim (fun (y1 : (List (List Int)) × (Qc Wy Int)) => ([.agg [Wi 3 y1.1, .mp 1], .one (Wg 0)] : List AV)) (Sum.elim (fun (y2 : Unit) => ([.agg [Wf, .d (.v (.map none))], .one (Wg 8)] : List AV)) (fun (y3 : Unit) => ([.agg [Wf, .d (.v (.map none))], .one (Wg 9)] : List AV))))) q_)) ⟨(((Sum.elim (fun (y1 : (List (List Int)) × (Qc Wy Int)) => (⟨[(2, .v (.one (.ptr 0 0))), (3, .v (.one (Wg 0)))], [(0, .cells 72 [Wi 3 y1.1, .mp 1]), (1, .mp (QJ y1.2.1) y1.2.2)], [(3, some ⟨54, 1, (Enc.encL y1.1).length, []⟩)], 4, 88, []⟩ : St)) (Sum.elim (fun (y2 : Unit) => (⟨[(2, .v (.one (.ptr 0 0))), (3, .v (.one (Wg 8)))], [(0, .cells 72 [Wf, .d (.v (.map none))])], [], 4, 88, []⟩ : St)) (fun (y3 : Unit) => (⟨[(2, .v (.one (.ptr 0 0))), (3, .v (.one (Wg 9)))], [(0, .cells 72 [Wf, .d (.v (.map none))])], [], 6, 88, []⟩ : St))))) q_).hp, (((Sum.elim (fun (y1 : (List (List Int)) × (Qc Wy Int)) => (⟨[(2, .v (.one (.ptr 0 0))), (3, .v (.one (Wg 0)))], [(0, .cells 72 [Wi 3 y1.1, .mp 1]), (1, .mp (QJ y1.2.1) y1.2.2)], [(3, some ⟨54, 1, (Enc.encL y1.1).length, []⟩)], 4, 88, []⟩ : St)) (Sum.elim (fun (y2 : Unit) => (⟨[(2, .v (.one (.ptr 0 0))), (3, .v (.one (Wg 8)))], [(0, .cells 72 [Wf, .d (.v (.map none))])], [], 4, 88, []⟩ : St)) (fun (y3 : Unit) => (⟨[(2, .v (.one (.ptr 0 0))), (3, .v (.one (Wg 9)))], [(0, .cells 72 [Wf, .d (.v (.map none))])], [], 6, 88, []⟩ : St))))) q_).tk, (((Sum.elim (fun (y1 : (List (List Int)) × (Qc Wy Int)) => (⟨[(2, .v (.one (.ptr 0 0))), (3, .v (.one (Wg 0)))], [(0, .cells 72 [Wi 3 y1.1, .mp 1]), (1, .mp (QJ y1.2.1) y1.2.2)], [(3, some ⟨54, 1, (Enc.encL y1.1).length, []⟩)], 4, 88, []⟩ : St)) (Sum.elim (fun (y2 : Unit) => (⟨[(2, .v (.one (.ptr 0 0))), (3, .v (.one (Wg 8)))], [(0, .cells 72 [Wf, .d (.v (.map none))])], [], 4, 88, []⟩ : St)) (fun (y3 : Unit) => (⟨[(2, .v (.one (.ptr 0 0))), (3, .v (.one (Wg 9)))], [(0, .cells 72 [Wf, .d (.v (.map none))])], [], 6, 88, []⟩ : St))))) q_).nx⟩) hc4 h0 (fun y1 hc4 h0 => ?_) (fun z_ hc4 h0 => KA (C := fun q_ => CallM Try.prog 34 [.one (We a0)] ⟨[], [], 0⟩ (Qr (((Sum.elim (fun (y1 : (List (List Int)) × (Qc Wy Int)) => ([.agg [Wi 3 y1.1, .mp 1], .one (Wg 0)] : List AV)) (Sum.elim (fun (y2 : Unit) => ([.agg [Wf, .d (.v (.map none))], .one (Wg 8)] : List AV)) (fun (y3 : Unit) => ([.agg [Wf, .d (.v (.map none))], .one (Wg 9)] : List AV))))) (.inr q_))) ⟨(((Sum.elim (fun (y1 : (List (List Int)) × (Qc Wy Int)) => (⟨[(2, .v (.one (.ptr 0 0))), (3, .v (.one (Wg 0)))], [(0, .cells 72 [Wi 3 y1.1, .mp 1]), (1, .mp (QJ y1.2.1) y1.2.2)], [(3, some ⟨54, 1, (Enc.encL y1.1).length, []⟩)], 4, 88, []⟩ : St)) (Sum.elim (fun (y2 : Unit) => (⟨[(2, .v (.one (.ptr 0 0))), (3, .v (.one (Wg 8)))], [(0, .cells 72 [Wf, .d (.v (.map none))])], [], 4, 88, []⟩ : St)) (fun (y3 : Unit) => (⟨[(2, .v (.one (.ptr 0 0))), (3, .v (.one (Wg 9)))], [(0, .cells 72 [Wf, .d (.v (.map none))])], [], 6, 88, []⟩ : St))))) (.inr q_)).hp, (((Sum.elim (fun (y1 : (List (List Int)) × (Qc Wy Int)) => (⟨[(2, .v (.one (.ptr 0 0))), (3, .v (.one (Wg 0)))], [(0, .cells 72 [Wi 3 y1.1, .mp 1]), (1, .mp (QJ y1.2.1) y1.2.2)], [(3, some ⟨54, 1, (Enc.encL y1.1).length, []⟩)], 4, 88, []⟩ : St)) (Sum.elim (fun (y2 : Unit) => (⟨[(2, .v (.one (.ptr 0 0))), (3, .v (.one (Wg 8)))], [(0, .cells 72 [Wf, .d (.v (.map none))])], [], 4, 88, []⟩ : St)) (fun (y3 : Unit) => (⟨[(2, .v (.one (.ptr 0 0))), (3, .v (.one (Wg 9)))], [(0, .cells 72 [Wf, .d (.v (.map none))])], [], 6, 88, []⟩ : St))))) (.inr q_)).tk, (((Sum.elim (fun (y1 : (List (List Int)) × (Qc Wy Int)) => (⟨[(2, .v (.one (.ptr 0 0))), (3, .v (.one (Wg 0)))], [(0, .cells 72 [Wi 3 y1.1, .mp 1]), (1, .mp (QJ y1.2.1) y1.2.2)], [(3, some ⟨54, 1, (Enc.encL y1.1).length, []⟩)], 4, 88, []⟩ : St)) (Sum.elim (fun (y2 : Unit) => (⟨[(2, .v (.one (.ptr 0 0))), (3, .v (.one (Wg 8)))], [(0, .cells 72 [Wf, .d (.v (.map none))])], [], 4, 88, []⟩ : St)) (fun (y3 : Unit) => (⟨[(2, .v (.one (.ptr 0 0))), (3, .v (.one (Wg 9)))], [(0, .cells 72 [Wf, .d (.v (.map none))])], [], 6, 88, []⟩ : St))))) (.inr q_)).nx⟩) hc4 h0 (fun y2 hc4 h0 => ?_) (fun y3 hc4 h0 => ?_))
 replace hc4 : CallM Try.prog 34 [.one (We a0)] ⟨[], [], 0⟩ (Qr [.agg [Wi 3 y1.1, .mp 1], .one (Wg 0)]) ⟨[(0, .cells 72 [Wi 3 y1.1, .mp 1]), (1, .mp (QJ y1.2.1) y1.2.2)], [(3, some ⟨54, 1, (Enc.encL y1.1).length, []⟩)], 4⟩ := hc4
 refine Q9 rfl rfl (W1 rfl) (QP rfl rfl rfl hc4 rfl W7 W3) <| XR rfl rfl rfl <| XP rfl rfl rfl (Qe rfl rfl) <| XP rfl rfl rfl (Qe rfl rfl) <| Q9 rfl rfl (W1 rfl) (Ql YJ rfl) <| QA rfl rfl (Qi J2 rfl rfl rfl rfl (W1 rfl) rfl) <| XS rfl rfl rfl <| Q3 <| Q1 <| Q2 <| Q2 <| Q0 <| XR rfl rfl rfl <| XP rfl rfl rfl (Q4 rfl rfl rfl) ?_
 refine Q3 <| Q1 ?_
 refine Qg rfl (fun h => nomatch h) (fun _ => ?_)
 refine Qj <| Q1 <| Q2 ?_
 refine JZ [5] [] mixed (by kernel_rfl) (by kernel_rfl) (by kernel_rfl) ?_
 refine RunA.rd rfl rfl rfl (Q5 (Qz J2 rfl rfl rfl rfl)) rfl <| RunA.rd rfl rfl rfl (Q5 (Q8 JA rfl)) rfl <| RunA.rd rfl rfl rfl (Q5 (Q7 JV rfl rfl rfl)) rfl ?_
 refine Qb h0 (fun x30 hx30 h0 => ?_)
 refine RunA.rd rfl rfl rfl (Qt (m36_ok y1.1 x30 hx30) rfl (.cons (.one (.app _ _ _)) .nil)) rfl <| RunA.rd rfl rfl rfl (Q5 (QV rfl)) rfl ?_
 refine Qb h0 (fun y34 h1 h0 => ?_)
 have hc33 : CallM Try.prog 35 [.agg [Wi 3 y1.1, .mp 1], .one (We x30), .one (We a1)] ⟨[(0, .cells 72 [Wi 3 y1.1, .mp 1]), (1, .mp (QJ y1.2.1) y1.2.2), (4, .cells 72 [Wi 3 y1.1, .mp 1])], [(3, some ⟨54, 1, (Enc.encL y1.1).length, []⟩)], 5⟩ (Qr (((Sum.elim (fun (y31 : Unit) => ([.one (Wf), .one (Wg 9)] : List AV)) (fun (y32 : (List Bool)) => ([.one (.osl 7 0 ((x30.length : Int).toNat) ((x30.length : Int).toNat)), .one (Wg 0)] : List AV)))) y34)) ⟨(((Sum.elim (fun (y31 : Unit) => (⟨[(6, .v (.one (Wf))), (7, .v (.one (Wg 9)))], [(0, .cells 72 [Wi 3 y1.1, .mp 1]), (1, .mp (QJ y1.2.1) y1.2.2), (4, .cells 72 [Wi 3 y1.1, .mp 1])], [(3, some ⟨54, 1, (Enc.encL y1.1).length, []⟩)], 10, 38, []⟩ : St)) (fun (y32 : (List Bool)) => (⟨[(6, .v (.one (.osl 7 0 ((x30.length : Int).toNat) ((x30.length : Int).toNat)))), (7, .v (.one (Wg 0)))], [(0, .cells 72 [Wi 3 y1.1, .mp 1]), (1, .mp (QJ y1.2.1) y1.2.2), (4, .cells 72 [Wi 3 y1.1, .mp 1]), (7, .cells 4 (Q6 y32))], [(3, some ⟨54, 1, (Enc.encL y1.1).length, []⟩)], 10, 38, []⟩ : St)))) y34).hp, (((Sum.elim (fun (y31 : Unit) => (⟨[(6, .v (.one (Wf))), (7, .v (.one (Wg 9)))], [(0, .cells 72 [Wi 3 y1.1, .mp 1]), (1, .mp (QJ y1.2.1) y1.2.2), (4, .cells 72 [Wi 3 y1.1, .mp 1])], [(3, some ⟨54, 1, (Enc.encL y1.1).length, []⟩)], 10, 38, []⟩ : St)) (fun (y32 : (List Bool)) => (⟨[(6, .v (.one (.osl 7 0 ((x30.length : Int).toNat) ((x30.length : Int).toNat)))), (7, .v (.one (Wg 0)))], [(0, .cells 72 [Wi 3 y1.1, .mp 1]), (1, .mp (QJ y1.2.1) y1.2.2), (4, .cells 72 [Wi 3 y1.1, .mp 1]), (7, .cells 4 (Q6 y32))], [(3, some ⟨54, 1, (Enc.encL y1.1).length, []⟩)], 10, 38, []⟩ : St)))) y34).tk, (((Sum.elim (fun (y31 : Unit) => (⟨[(6, .v (.one (Wf))), (7, .v (.one (Wg 9)))], [(0, .cells 72 [Wi 3 y1.1, .mp 1]), (1, .mp (QJ y1.2.1) y1.2.2), (4, .cells 72 [Wi 3 y1.1, .mp 1])], [(3, some ⟨54, 1, (Enc.encL y1.1).length, []⟩)], 10, 38, []⟩ : St)) (fun (y32 : (List Bool)) => (⟨[(6, .v (.one (.osl 7 0 ((x30.length : Int).toNat) ((x30.length : Int).toNat)))), (7, .v (.one (Wg 0)))], [(0, .cells 72 [Wi 3 y1.1, .mp 1]), (1, .mp (QJ y1.2.1) y1.2.2), (4, .cells 72 [Wi 3 y1.1, .mp 1]), (7, .cells 4 (Q6 y32))], [(3, some ⟨54, 1, (Enc.encL y1.1).length, []⟩)], 10, 38, []⟩ : St)))) y34).nx⟩ := by
  refine JC y34 ((Sum.elim (fun (y31 : Unit) => (⟨[(6, .v (.one (Wf))), (7, .v (.one (Wg 9)))], [(0, .cells 72 [Wi 3 y1.1, .mp 1]), (1, .mp (QJ y1.2.1) y1.2.2), (4, .cells 72 [Wi 3 y1.1, .mp 1])], [(3, some ⟨54, 1, (Enc.encL y1.1).length, []⟩)], 10, 38, []⟩ : St)) (fun (y32 : (List Bool)) => (⟨[(6, .v (.one (.osl 7 0 ((x30.length : Int).toNat) ((x30.length : Int).toNat)))), (7, .v (.one (Wg 0)))], [(0, .cells 72 [Wi 3 y1.1, .mp 1]), (1, .mp (QJ y1.2.1) y1.2.2), (4, .cells 72 [Wi 3 y1.1, .mp 1]), (7, .cells 4 (Q6 y32))], [(3, some ⟨54, 1, (Enc.encL y1.1).length, []⟩)], 10, 38, []⟩ : St)))) ((Sum.elim (fun (y31 : Unit) => ([.one (Wf), .one (Wg 9)] : List AV)) (fun (y32 : (List Bool)) => ([.one (.osl 7 0 ((x30.length : Int).toNat) ((x30.length : Int).toNat)), .one (Wg 0)] : List AV)))) rfl rfl en_35 (W1 rfl) (fun z_ => by cases z_ <;> rfl) (fun z_ => by cases z_ with
    | inl _ => exact (Qp rfl (Qp rfl .nil))
    | inr _ => exact (Qp rfl (Qp rfl .nil))) (fun w0 M V0 Q hv1 hQ1 => ?_)
  simp only [Jc]
  refine Q2 <| Q0 <| Q9 rfl rfl (W1 rfl) (Js rfl) <| Q9 rfl rfl (W1 rfl) (Js rfl) <| XS rfl rfl rfl <| XS rfl rfl rfl <| Q3 <| Q1 <| Q2 <| Q0 <| XP rfl rfl rfl (Q7 JV rfl rfl rfl) <| XP rfl rfl rfl (Qy (α := List Int) Y3 rfl (.d _)) ?_
  refine QO h1 (fun g35 h1 => ?_)
  refine Q9 rfl rfl (W1 rfl) (Zx (α := Bool) (z := false) Z6 XH rfl rfl Xs rfl rfl g35 rfl (by repeat (first | exact CLs.nil | refine CLs.cons (by first | exact .refl _ | exact .sub (.app _ _ _) | exact .sub (.nil _)) ?_))) ?_
  refine Q9 rfl rfl (W1 rfl) (Ql Xg rfl) <| QA rfl rfl (Qi Z7 rfl rfl rfl rfl (W1 rfl) rfl) <| Q3 <| Q1 <| Q2 <| Q0 <| Q9 rfl rfl (W1 rfl) (Ql z_106 rfl) <| Q3 <| Q1 <| Q2 <| Q0 <| XP rfl rfl rfl (YP rfl rfl rfl) <| QA rfl rfl (Qi ZG rfl rfl rfl rfl (W1 rfl) rfl) <| Q3 ?_
  refine Q1 <| Q2 <| Q2 <| Q0 <| XR rfl rfl rfl <| XP rfl rfl rfl (Qy (α := Wy) QQ rfl (.d _)) <| XR rfl rfl rfl <| Q3 <| Q1 <| Qd ?_
  refine QI 0 (fun (o36 : (List Bool)) => ⟨[(8, .v (.one (.ptr 8 0)))], [(0, .cells 72 [Wi 3 y1.1, .mp 1]), (1, .mp (QJ y1.2.1) y1.2.2), (4, .cells 72 [Wi 3 y1.1, .mp 1]), (5, .cells 72 [Wi 3 y1.1, .mp 1]), (6, .cells 57 [We x30]), (7, .cells 4 (Q6 o36)), (8, .cells 75 [.osl 7 0 ((x30.length : Int).toNat) ((x30.length : Int).toNat)]), (9, .cells 106 [.fn 56 [(8, 0), (6, 0), (9, 0)]])], [(3, some ⟨54, 1, (Enc.encL y1.1).length, []⟩)], 10, 38, []⟩) (fun (o36 : (List Bool)) => (some (.inr o36)) = some y34) ?_ ?_
  refine Qb h1 (fun o37 hl2 h1 => ?_)
  refine QH (ZE a1 y1 x30) (fun s2 => ⟨[(3, .v (.one (.ptr 5 0))), (8, .v (.one (.ptr 8 0))), (9, .v (.one (.ptr 9 0))), (18, .v (.one (We a1))), (19, .v (.one (Wg (a1.length : Int)))), (20, .v (.one (Wg s2.1)))], [(0, .cells 72 [Wi 3 y1.1, .mp 1]), (1, .mp (QJ y1.2.1) y1.2.2), (4, .cells 72 [Wi 3 y1.1, .mp 1]), (5, .cells 72 [Wi 3 y1.1, .mp 1]), (6, .cells 57 [We x30]), (7, .cells 4 (Q6 s2.2)), (8, .cells 75 [.osl 7 0 ((x30.length : Int).toNat) ((x30.length : Int).toNat)]), (9, .cells 106 [.fn 56 [(8, 0), (6, 0), (9, 0)]])], [(3, some ⟨54, 1, (Enc.encL y1.1).length, []⟩)], 10, 38, []⟩) (0, (List.replicate (x30.length : Int).toNat false)) o37 (Qh (XK rfl (XK rfl (XK rfl (XK rfl (XK rfl (XK rfl XJ)))))) (W8 rfl (W8 rfl (W8 rfl (W8 rfl (W8 rfl (W8 rfl (W8 rfl (W8 rfl W7)))))))) (W4 rfl W3) rfl (Nat.le_trans hv1 (W1 rfl)) rfl rfl rfl (Wp rfl rfl (Wn rfl (Wp rfl rfl (Wp rfl rfl (Wp rfl rfl (Wo rfl (Wp rfl rfl (Wp rfl rfl Wm)))))))) rfl rfl) hl2 (fun s2 n2 oo2 h2 ho2 => ?_)
  unfold ZE at h2
  refine Q2 <| Q0 <| XP rfl rfl rfl (Q4 rfl rfl rfl) <| Q3 <| Q1 <| Q2 ?_
  refine Qg (b := (decide (s2.1 < (a1.length : Int)))) rfl (fun c38 => ?_) (fun c38 => ?_)
  replace h2 := Qu c38 h2
  refine Qj <| Q1 <| Q2 <| Qd <| Q2 <| Q0 ?_
  refine Qb h2 (fun x39 hx39 h2 => ?_)
  refine XP rfl rfl rfl (Qq (α := Wy) QQ rfl (.d _) rfl hx39) <| XP rfl rfl rfl (QK Y6 rfl rfl) <| XS rfl rfl rfl <| Q3 <| Q1 <| Q2 <| Q0 <| XP rfl rfl rfl (Q8 JJ rfl) <| XP rfl rfl rfl (Q7 Yw rfl rfl rfl) <| XR rfl rfl rfl <| XP rfl rfl rfl (Jo (M := y1.2) (k := x39) Yv Yb rfl rfl rfl) <| XR rfl rfl rfl <| XP rfl rfl rfl (Qe rfl rfl) <| XP rfl rfl rfl (Qe rfl rfl) ?_
  refine XS rfl rfl rfl <| XS rfl rfl rfl <| Q3 <| Q1 <| Q2 <| Q2 <| Q0 <| XR rfl rfl rfl <| XP rfl rfl rfl (Jp rfl) <| Q3 <| Q1 ?_
  refine Qg (b := (!(Jr y1.2 x39))) rfl (fun c40 => ?_) (fun c40 => ?_)
  replace h2 := Qu c40 h2
  refine Q2 <| Q0 <| XS rfl rfl rfl <| XS rfl rfl rfl <| Q3 <| Q1 <| Qw ?_
  have e := XN h2; subst e
  have e_ : _ = _ := ho2
  subst e_
  try dsimp only [Sum.elim_inl, Sum.elim_inr] at h1
  have e := XN h1; subst e
  exact hQ1 _ _ _ (.inr rfl) rfl (show StLe _ _ ⟨[(6, .v (.one (Wf))), (7, .v (.one (Wg 9)))], [(0, .cells 72 [Wi 3 y1.1, .mp 1]), (1, .mp (QJ y1.2.1) y1.2.2), (4, .cells 72 [Wi 3 y1.1, .mp 1])], [(3, some ⟨54, 1, (Enc.encL y1.1).length, []⟩)], 10, 38, []⟩ from (Qh (XK rfl (XK rfl XJ)) (W8 rfl (W8 rfl (W8 rfl W7))) (W4 rfl W3) rfl (Nat.le_trans hv1 (W1 rfl)) rfl rfl rfl (Wp rfl rfl (Wn rfl (Wp rfl rfl Wm))) rfl rfl))
  replace h2 := Qv c40 h2
  refine Qj <| Q1 <| Q0 <| XP rfl rfl rfl (Q7 ZG rfl rfl rfl) <| XR rfl rfl rfl ?_
  refine Qb h2 (fun x41 hx41 h2 => ?_)
  refine Q9 rfl rfl (W1 rfl) (QS (hp1' := [(8, .cells 75 [.osl 7 0 ((x30.length : Int).toNat) ((x30.length : Int).toNat)]), (7, .cells 4 (Q6 x41)), (6, .cells 57 [We x30]), (9, .cells 106 [.fn 56 [(8, 0), (6, 0), (9, 0)]])]) (tk1' := []) (hpF := [(0, .cells 72 [Wi 3 y1.1, .mp 1]), (1, .mp (QJ y1.2.1) y1.2.2), (4, .cells 72 [Wi 3 y1.1, .mp 1]), (5, .cells 72 [Wi 3 y1.1, .mp 1])]) (tkF := [(3, some ⟨54, 1, (Enc.encL y1.1).length, []⟩)]) (res2 := Qr []) (nx2 := 10) [8, 7, 6, 9] rfl rfl (m56f12_ok (J7 y1.2 x39) ((x30.length : Int).toNat) s2.2 x30 x41 hx41) rfl rfl (XW rfl rfl (XV rfl (XW rfl rfl (XW rfl rfl XT)))) rfl rfl (Wb rfl (Wd rfl (Wb rfl (Wb rfl Wa)))) W5 (W8 rfl (W8 rfl (W8 rfl (W8 rfl W7)))) (W4 rfl W3) rfl rfl rfl rfl rfl (Wp rfl rfl (Wo rfl (Wp rfl rfl (Wp rfl rfl Wm)))) rfl rfl rfl rfl) <| Q3 <| Qk <| Q1 <| Q0 <| XP rfl rfl rfl (Q4 rfl rfl rfl) <| XR rfl rfl rfl <| Q3 ?_
  have e := XN h2; subst e
  refine QD ((QW (s2.1 + 1)), x41) (Qh (XK rfl (XK rfl (XK rfl (XK rfl (XK rfl (XK rfl XJ)))))) (W8 rfl (W8 rfl (W8 rfl (W8 rfl (W8 rfl (W8 rfl (W8 rfl (W8 rfl W7)))))))) (W4 rfl W3) rfl (Nat.le_trans hv1 (W1 rfl)) rfl rfl rfl (Wp rfl rfl (Wn rfl (Wp rfl rfl (Wp rfl rfl (Wp rfl rfl (Wo rfl (Wp rfl rfl (Wp rfl rfl Wm)))))))) rfl rfl) ho2
  replace h2 := Qv c38 h2
  refine QN <| Qf <| Qf ?_
  have e := XN h2; subst e
  have e_ : _ = _ := ho2
  subst e_
  exact QF s2.2 (Qh (XK rfl XJ) (W8 rfl (W8 rfl (W8 rfl (W8 rfl (W8 rfl (W8 rfl (W8 rfl (W8 rfl W7)))))))) (W4 rfl W3) rfl (Nat.le_trans hv1 (W1 rfl)) rfl rfl rfl (Wp rfl rfl (Wn rfl (Wp rfl rfl (Wp rfl rfl (Wp rfl rfl (Wo rfl (Wp rfl rfl (Wp rfl rfl Wm)))))))) rfl rfl) h1
  intro o36 h1
  refine Qx <| Q1 <| Q2 <| Q0 <| XP rfl rfl rfl (Q7 Z7 rfl rfl rfl) <| XS rfl rfl rfl <| XS rfl rfl rfl <| Q3 <| Q1 <| Qw ?_
  have e := XN h1; subst e
  exact hQ1 _ _ _ (.inr rfl) rfl (show StLe _ _ ⟨[(6, .v (.one (.osl 7 0 ((x30.length : Int).toNat) ((x30.length : Int).toNat)))), (7, .v (.one (Wg 0)))], [(0, .cells 72 [Wi 3 y1.1, .mp 1]), (1, .mp (QJ y1.2.1) y1.2.2), (4, .cells 72 [Wi 3 y1.1, .mp 1]), (7, .cells 4 (Q6 o36))], [(3, some ⟨54, 1, (Enc.encL y1.1).length, []⟩)], 10, 38, []⟩ from (Qh (XK rfl (XK rfl XJ)) (W8 rfl (W8 rfl (W8 rfl (W8 rfl W7)))) (W4 rfl W3) rfl (Nat.le_trans hv1 (W1 rfl)) rfl rfl rfl (Wp rfl rfl (Wn rfl (Wp rfl rfl (Wo rfl Wm)))) rfl rfl))
 refine KA (C := fun q_ => CallM Try.prog 35 [.agg [Wi 3 y1.1, .mp 1], .one (We x30), .one (We a1)] ⟨[(0, .cells 72 [Wi 3 y1.1, .mp 1]), (1, .mp (QJ y1.2.1) y1.2.2), (4, .cells 72 [Wi 3 y1.1, .mp 1])], [(3, some ⟨54, 1, (Enc.encL y1.1).length, []⟩)], 5⟩ (Qr (((Sum.elim (fun (y31 : Unit) => ([.one (Wf), .one (Wg 9)] : List AV)) (fun (y32 : (List Bool)) => ([.one (.osl 7 0 ((x30.length : Int).toNat) ((x30.length : Int).toNat)), .one (Wg 0)] : List AV)))) q_)) ⟨(((Sum.elim (fun (y31 : Unit) => (⟨[(6, .v (.one (Wf))), (7, .v (.one (Wg 9)))], [(0, .cells 72 [Wi 3 y1.1, .mp 1]), (1, .mp (QJ y1.2.1) y1.2.2), (4, .cells 72 [Wi 3 y1.1, .mp 1])], [(3, some ⟨54, 1, (Enc.encL y1.1).length, []⟩)], 10, 38, []⟩ : St)) (fun (y32 : (List Bool)) => (⟨[(6, .v (.one (.osl 7 0 ((x30.length : Int).toNat) ((x30.length : Int).toNat)))), (7, .v (.one (Wg 0)))], [(0, .cells 72 [Wi 3 y1.1, .mp 1]), (1, .mp (QJ y1.2.1) y1.2.2), (4, .cells 72 [Wi 3 y1.1, .mp 1]), (7, .cells 4 (Q6 y32))], [(3, some ⟨54, 1, (Enc.encL y1.1).length, []⟩)], 10, 38, []⟩ : St)))) q_).hp, (((Sum.elim (fun (y31 : Unit) => (⟨[(6, .v (.one (Wf))), (7, .v (.one (Wg 9)))], [(0, .cells 72 [Wi 3 y1.1, .mp 1]), (1, .mp (QJ y1.2.1) y1.2.2), (4, .cells 72 [Wi 3 y1.1, .mp 1])], [(3, some ⟨54, 1, (Enc.encL y1.1).length, []⟩)], 10, 38, []⟩ : St)) (fun (y32 : (List Bool)) => (⟨[(6, .v (.one (.osl 7 0 ((x30.length : Int).toNat) ((x30.length : Int).toNat)))), (7, .v (.one (Wg 0)))], [(0, .cells 72 [Wi 3 y1.1, .mp 1]), (1, .mp (QJ y1.2.1) y1.2.2), (4, .cells 72 [Wi 3 y1.1, .mp 1]), (7, .cells 4 (Q6 y32))], [(3, some ⟨54, 1, (Enc.encL y1.1).length, []⟩)], 10, 38, []⟩ : St)))) q_).tk, (((Sum.elim (fun (y31 : Unit) => (⟨[(6, .v (.one (Wf))), (7, .v (.one (Wg 9)))], [(0, .cells 72 [Wi 3 y1.1, .mp 1]), (1, .mp (QJ y1.2.1) y1.2.2), (4, .cells 72 [Wi 3 y1.1, .mp 1])], [(3, some ⟨54, 1, (Enc.encL y1.1).length, []⟩)], 10, 38, []⟩ : St)) (fun (y32 : (List Bool)) => (⟨[(6, .v (.one (.osl 7 0 ((x30.length : Int).toNat) ((x30.length : Int).toNat)))), (7, .v (.one (Wg 0)))], [(0, .cells 72 [Wi 3 y1.1, .mp 1]), (1, .mp (QJ y1.2.1) y1.2.2), (4, .cells 72 [Wi 3 y1.1, .mp 1]), (7, .cells 4 (Q6 y32))], [(3, some ⟨54, 1, (Enc.encL y1.1).length, []⟩)], 10, 38, []⟩ : St)))) q_).nx⟩) hc33 h0 (fun y31 hc33 h0 => ?_) (fun y32 hc33 h0 => ?_)
 replace hc33 : CallM Try.prog 35 [.agg [Wi 3 y1.1, .mp 1], .one (We x30), .one (We a1)] ⟨[(0, .cells 72 [Wi 3 y1.1, .mp 1]), (1, .mp (QJ y1.2.1) y1.2.2), (4, .cells 72 [Wi 3 y1.1, .mp 1])], [(3, some ⟨54, 1, (Enc.encL y1.1).length, []⟩)], 5⟩ (Qr [.one (Wf), .one (Wg 9)]) ⟨[(0, .cells 72 [Wi 3 y1.1, .mp 1]), (1, .mp (QJ y1.2.1) y1.2.2), (4, .cells 72 [Wi 3 y1.1, .mp 1])], [(3, some ⟨54, 1, (Enc.encL y1.1).length, []⟩)], 10⟩ := hc33
 refine RunA.eff rfl rfl rfl (QP rfl rfl rfl hc33 rfl (W8 rfl (W8 rfl (W8 rfl W7))) (W4 rfl W3)) rfl <| RunA.rd rfl rfl rfl (Q5 (QV rfl)) rfl <| RunA.rd rfl rfl rfl (Q5 (Qe rfl rfl)) rfl <| RunA.rd rfl rfl rfl (Q5 (Qe rfl rfl)) rfl <| RunA.rd rfl rfl rfl (Q5 (Yg rfl)) rfl <| RunA.rd rfl rfl rfl (Q5 (Yg rfl)) rfl ?_
 refine RunA.nil ⟨?ex, _, _, rfl, ?_⟩
 case ex => exact trivial
 refine JT (st' := ⟨[(0, .v (.one (We a0))), (7, .v (.one (Wg 9))), (8, .v (.one (Wf)))], [(0, .cells 72 [Wi 3 y1.1, .mp 1]), (1, .mp (QJ y1.2.1) y1.2.2), (4, .cells 72 [Wi 3 y1.1, .mp 1])], [(3, some ⟨54, 1, (Enc.encL y1.1).length, []⟩)], 10, 49, []⟩) (Qh (XK rfl (XK rfl (XK rfl XJ))) (W8 rfl (W8 rfl (W8 rfl W7))) (W4 rfl W3) rfl (Nat.zero_le _) rfl rfl rfl (Wp rfl rfl (Wn rfl (Wp rfl rfl Wm))) rfl rfl) <| Q1 <| Q2 <| Q2 <| Q0 <| XR rfl rfl rfl <| XP rfl rfl rfl (Q4 rfl rfl rfl) <| Q3 <| Q1 ?_
 refine Qg rfl (fun _ => ?_) (fun h => nomatch h)
 refine Q2 <| Q0 <| XR rfl rfl rfl <| XS rfl rfl rfl <| XS rfl rfl rfl <| Q3 <| Q1 <| Qw ?_
 have e := XN h0; subst e
 exact QX (fun _ _ h => h) rfl (Qp rfl (Qp rfl .nil)) (.cons (.one (.nil _)) (.cons (.one (.d _)) .nil))
 replace hc33 : CallM Try.prog 35 [.agg [Wi 3 y1.1, .mp 1], .one (We x30), .one (We a1)] ⟨[(0, .cells 72 [Wi 3 y1.1, .mp 1]), (1, .mp (QJ y1.2.1) y1.2.2), (4, .cells 72 [Wi 3 y1.1, .mp 1])], [(3, some ⟨54, 1, (Enc.encL y1.1).length, []⟩)], 5⟩ (Qr [.one (.osl 7 0 ((x30.length : Int).toNat) ((x30.length : Int).toNat)), .one (Wg 0)]) ⟨[(0, .cells 72 [Wi 3 y1.1, .mp 1]), (1, .mp (QJ y1.2.1) y1.2.2), (4, .cells 72 [Wi 3 y1.1, .mp 1]), (7, .cells 4 (Q6 y32))], [(3, some ⟨54, 1, (Enc.encL y1.1).length, []⟩)], 10⟩ := hc33
 refine RunA.eff rfl rfl rfl (QP rfl rfl rfl hc33 rfl (W8 rfl (W8 rfl (W8 rfl W7))) (W4 rfl W3)) rfl <| RunA.rd rfl rfl rfl (Q5 (QV rfl)) rfl <| RunA.rd rfl rfl rfl (Q5 (Qe rfl rfl)) rfl <| RunA.rd rfl rfl rfl (Q5 (Qe rfl rfl)) rfl <| RunA.rd rfl rfl rfl (Q5 (Yg rfl)) rfl <| RunA.rd rfl rfl rfl (Q5 (Yg rfl)) rfl ?_
 refine RunA.nil ⟨?ex, _, _, rfl, ?_⟩
 case ex => exact trivial
 refine JT (st' := ⟨[(0, .v (.one (We a0))), (7, .v (.one (Wg 0))), (8, .v (.one (.osl 7 0 ((x30.length : Int).toNat) ((x30.length : Int).toNat))))], [(0, .cells 72 [Wi 3 y1.1, .mp 1]), (1, .mp (QJ y1.2.1) y1.2.2), (4, .cells 72 [Wi 3 y1.1, .mp 1]), (7, .cells 4 (Q6 y32))], [(3, some ⟨54, 1, (Enc.encL y1.1).length, []⟩)], 10, 49, []⟩) (Qh (XK rfl (XK rfl (XK rfl XJ))) (W8 rfl (W8 rfl (W8 rfl (W8 rfl W7)))) (W4 rfl W3) rfl (Nat.zero_le _) rfl rfl rfl (Wp rfl rfl (Wn rfl (Wp rfl rfl (Wo rfl Wm)))) rfl rfl) <| Q1 <| Q2 <| Q2 <| Q0 <| XR rfl rfl rfl <| XP rfl rfl rfl (Q4 rfl rfl rfl) <| Q3 <| Q1 ?_
 refine Qg rfl (fun h => nomatch h) (fun _ => ?_)
 refine Qj <| Q1 <| Q2 <| Q0 <| XS rfl rfl rfl <| Q3 <| Q1 <| Q2 <| Q2 <| Q0 <| XR rfl rfl rfl <| XP rfl rfl rfl (Qy (α := Dcl) J5 rfl (.d _)) <| XR rfl rfl rfl <| Q3 ?_
 refine Q1 <| Qd ?_
 refine QI 0 (fun (o42 : (List Wy)) => ⟨[(9, .v (.one (Wi 10 o42)))], [(0, .cells 72 [Wi 3 y1.1, .mp 1]), (1, .mp (QJ y1.2.1) y1.2.2), (4, .cells 72 [Wi 3 y1.1, .mp 1]), (7, .cells 4 (Q6 y32))], [(3, some ⟨54, 1, (Enc.encL y1.1).length, []⟩), (10, some ⟨9, 1, (Enc.encL o42).length, []⟩)], 11, 49, []⟩) (fun (o42 : (List Wy)) => (some (o42, 0)) = some r) ?_ ?_
 refine Y0 (t := 9) 9 1 rfl ?_
 refine Qb h0 (fun o43 hl1 h0 => ?_)
 refine QH (Gm a0 y32 x30) (fun s1 => ⟨[(8, .v (.one (.osl 7 0 ((x30.length : Int).toNat) ((x30.length : Int).toNat)))), (9, .v (.one (Wi 10 s1.1))), (32, .v (.one (We a0))), (33, .v (.one (Wg (a0.length : Int)))), (34, .v (.one (Wg s1.2)))], [(0, .cells 72 [Wi 3 y1.1, .mp 1]), (1, .mp (QJ y1.2.1) y1.2.2), (4, .cells 72 [Wi 3 y1.1, .mp 1]), (7, .cells 4 (Q6 y32))], [(3, some ⟨54, 1, (Enc.encL y1.1).length, []⟩), (10, some ⟨9, 1, (Enc.encL s1.1).length, []⟩)], 11, 49, []⟩) (([] : List Wy), 0) o43 (Qh (XK rfl (XK rfl (XK rfl (XK rfl (XK rfl XJ))))) (W8 rfl (W8 rfl (W8 rfl (W8 rfl W7)))) (W4 rfl (W4 rfl W3)) rfl (Nat.zero_le _) rfl rfl rfl (Wp rfl rfl (Wn rfl (Wp rfl rfl (Wo rfl Wm)))) rfl rfl) hl1 (fun s1 n1 oo1 h1 ho1 => ?_)
 unfold Gm at h1
 refine Q2 <| Q0 <| XP rfl rfl rfl (Q4 rfl rfl rfl) <| Q3 <| Q1 <| Q2 ?_
 refine Qg (b := (decide (s1.2 < (a0.length : Int)))) rfl (fun c44 => ?_) (fun c44 => ?_)
 replace h1 := Qu c44 h1
 refine Qj <| Q1 <| Q2 <| Qd <| Q2 <| Q0 <| XR rfl rfl rfl ?_
 refine Qb h1 (fun x45 hx45 h1 => ?_)
 refine XP rfl rfl rfl (Qq (α := Dcl) J5 rfl (.d _) rfl hx45) <| XP rfl rfl rfl (J4 (x45 : Dcl) J3 rfl) <| Q9 rfl rfl (W1 rfl) (Ql Z8 rfl) <| XS rfl rfl rfl <| QA rfl rfl (Jb (x45 : Dcl) J3 rfl rfl rfl rfl rfl) <| Q3 <| Q1 <| Q2 <| Q0 <| XR rfl rfl rfl <| XR rfl rfl rfl ?_
 refine Qb h1 (fun x46 hx46 h1 => ?_)
 refine QO h1 (fun g47 h1 => ?_)
 refine XP rfl rfl rfl (Jk (α := Bool) Z6 rfl rfl hx46 g47) <| XP rfl rfl rfl (YI (α := Bool) (m := s1.2) (f := 0) Gv rfl rfl hx46 rfl) <| Q3 <| Q1 ?_
 refine Qg (b := x46) rfl (fun c48 => ?_) (fun c48 => ?_)
 replace h1 := Qu c48 h1
 refine Q0 <| XR rfl rfl rfl <| XP rfl rfl rfl (Jj (x45 : Dcl) J3 rfl rfl) ?_
 refine Qb h1 (fun x49 hx49 h1 => ?_)
 refine Q9 rfl rfl (W1 rfl) (Qt (K5 x45 x49 hx49) rfl (.cons (.agg (.cons (.d _) (.cons (.d _) (.cons (.d _) (.cons (.d _) (.cons (.d _) (.cons (.d _) (.cons (.d _) (.cons (.d _) (.cons (.d _) (.cons (.d _) (.cons (.d _) (.cons (.d _) (.cons (.d _) (.cons (.d _) (.cons (.d _) (.cons (.d _) (.cons (.d _) (.cons (.d _) (.cons (.d _) (.cons (.d _) (.cons (.d _) (.cons (.d _) (.cons (.d _) .nil)))))))))))))))))))))))) .nil)) ?_
 refine QO h1 (fun g50 h1 => ?_)
 refine Q9 rfl rfl (W1 rfl) (QU (α := Wy) QQ G7 rfl rfl rfl rfl rfl (.d _) g50) <| XS rfl rfl rfl <| Q3 <| Qk <| Q1 <| Q0 <| XP rfl rfl rfl (Q4 rfl rfl rfl) <| XR rfl rfl rfl <| Q3 ?_
 have e := XN h1; subst e
 refine QD ((s1.1 ++ x49), (QW (s1.2 + 1))) (Qh (XK rfl (XK rfl (XK rfl (XK rfl (XK rfl XJ))))) (W8 rfl (W8 rfl (W8 rfl (W8 rfl W7)))) (W4 rfl (W4 rfl W3)) rfl (Nat.zero_le _) rfl rfl rfl (Wp rfl rfl (Wn rfl (Wp rfl rfl (Wo rfl Wm)))) rfl rfl) ho1
 replace h1 := Qv c48 h1
 refine Qj <| Qk <| Q1 <| Q0 <| XP rfl rfl rfl (Q4 rfl rfl rfl) <| XR rfl rfl rfl <| Q3 ?_
 have e := XN h1; subst e
 refine QD (s1.1, (QW (s1.2 + 1))) (Qh (XK rfl (XK rfl (XK rfl (XK rfl (XK rfl XJ))))) (W8 rfl (W8 rfl (W8 rfl (W8 rfl W7)))) (W4 rfl (W4 rfl W3)) rfl (Nat.zero_le _) rfl rfl rfl (Wp rfl rfl (Wn rfl (Wp rfl rfl (Wo rfl Wm)))) rfl rfl) ho1
 replace h1 := Qv c44 h1
 refine QN <| Qf <| Qf ?_
 have e := XN h1; subst e
 have e_ : _ = _ := ho1
 subst e_
 exact QF s1.1 (Qh (XK rfl XJ) (W8 rfl (W8 rfl (W8 rfl (W8 rfl W7)))) (W4 rfl (W4 rfl W3)) rfl (Nat.zero_le _) rfl rfl rfl (Wp rfl rfl (Wn rfl (Wp rfl rfl (Wo rfl Wm)))) rfl rfl) h0
 intro o42 h0
 refine Qx <| Q1 <| Q2 <| Q0 <| XR rfl rfl rfl <| XS rfl rfl rfl <| XS rfl rfl rfl <| Q3 <| Q1 <| Qw ?_
 have e := XN h0; subst e
 exact QX (fun _ _ h => h) rfl (Qp rfl (Qp rfl .nil)) (.cons (.one (.app _ _ _)) (.cons (.one (.d _)) .nil))
 replace hc4 : CallM Try.prog 34 [.one (We a0)] ⟨[], [], 0⟩ (Qr [.agg [Wf, .d (.v (.map none))], .one (Wg 8)]) ⟨[(0, .cells 72 [Wf, .d (.v (.map none))])], [], 4⟩ := hc4
 refine Q9 rfl rfl (W1 rfl) (QP rfl rfl rfl hc4 rfl W7 W3) <| XR rfl rfl rfl <| XP rfl rfl rfl (Qe rfl rfl) <| XP rfl rfl rfl (Qe rfl rfl) <| Q9 rfl rfl (W1 rfl) (Ql YJ rfl) <| QA rfl rfl (Qi J2 rfl rfl rfl rfl (W1 rfl) rfl) <| XS rfl rfl rfl <| Q3 <| Q1 <| Q2 <| Q2 <| Q0 <| XR rfl rfl rfl <| XP rfl rfl rfl (Q4 rfl rfl rfl) ?_
 refine Q3 <| Q1 ?_
 refine Qg rfl (fun _ => ?_) (fun h => nomatch h)
 refine Q2 <| Q0 <| XR rfl rfl rfl <| XS rfl rfl rfl <| XS rfl rfl rfl <| Q3 <| Q1 <| Qw ?_
 have e := XN h0; subst e
 exact QX (fun _ _ h => h) rfl (Qp rfl (Qp rfl .nil)) (.cons (.one (.nil _)) (.cons (.one (.d _)) .nil))
 replace hc4 : CallM Try.prog 34 [.one (We a0)] ⟨[], [], 0⟩ (Qr [.agg [Wf, .d (.v (.map none))], .one (Wg 9)]) ⟨[(0, .cells 72 [Wf, .d (.v (.map none))])], [], 6⟩ := hc4
 refine Q9 rfl rfl (W1 rfl) (QP rfl rfl rfl hc4 rfl W7 W3) <| XR rfl rfl rfl <| XP rfl rfl rfl (Qe rfl rfl) <| XP rfl rfl rfl (Qe rfl rfl) <| Q9 rfl rfl (W1 rfl) (Ql YJ rfl) <| QA rfl rfl (Qi J2 rfl rfl rfl rfl (W1 rfl) rfl) <| XS rfl rfl rfl <| Q3 <| Q1 <| Q2 <| Q2 <| Q0 <| XR rfl rfl rfl <| XP rfl rfl rfl (Q4 rfl rfl rfl) ?_
 refine Q3 <| Q1 ?_
 refine Qg rfl (fun _ => ?_) (fun h => nomatch h)
 refine Q2 <| Q0 <| XR rfl rfl rfl <| XS rfl rfl rfl <| XS rfl rfl rfl <| Q3 <| Q1 <| Qw ?_
 have e := XN h0; subst e
 exact QX (fun _ _ h => h) rfl (Qp rfl (Qp rfl .nil)) (.cons (.one (.nil _)) (.cons (.one (.d _)) .nil))
end Go.Proofs.Ytijcchddnnnmdaa
