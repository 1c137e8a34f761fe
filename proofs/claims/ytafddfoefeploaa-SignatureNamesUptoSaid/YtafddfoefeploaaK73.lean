/- Part 3 of the proof: rules, mirrors and plain laws. The statement SignatureNamesUpto is proved here: for every declaration the law returns true, and the declaration reads behind the call as it did before; condition: it is of bulk at most 1048576 (the second form). -/
import Derived.Test.YtafddfoefeploaaK72
namespace Go.Proofs.Ytafddfoefeploaa
open Go.RowKit Go.Shelf
set_option linter.unusedSimpArgs false
set_option linter.unusedVariables false
theorem Yn : J0 Try.prog 45 0 = some 0 := by kernel_rfl
theorem Y8 : J0 Try.prog 45 1 = some 1 := by kernel_rfl
theorem fo_45_5 : J0 Try.prog 45 5 = some 13 := by kernel_rfl
theorem Yc : J0 Try.prog 45 6 = some 14 := by kernel_rfl
theorem Y2 : J0 Try.prog 45 8 = some 22 := by kernel_rfl
theorem Kk : J0 Try.prog 71 0 = some 0 := by kernel_rfl
theorem K2 : J0 Try.prog 71 1 = some 1 := by kernel_rfl
theorem Gp : J0 Try.prog 76 0 = some 0 := by kernel_rfl
theorem Zc : Jy Try.prog 40 = some (false, 1) := by kernel_rfl
theorem YZ : Jy Try.prog 43 = some (false, 1) := by kernel_rfl
theorem ZQ : Jy Try.prog 71 = some (true, 6) := by kernel_rfl
theorem Zx : Jy Try.prog 76 = some (true, 15) := by kernel_rfl
theorem Yv : Jo Try.prog 40 = some (71, 6) := by kernel_rfl
theorem Yk : Jo Try.prog 43 = some (76, 15) := by kernel_rfl
theorem Wj : JE Try.prog 71 = some [.string ByteArray.empty, .int .i64 0, .int .i64 0, .string ByteArray.empty, .slice none 0 0, .slice none 0 0] := by kernel_rfl
theorem Wi : JE Try.prog 76 = some [.string ByteArray.empty, .int .i64 0, .int .i64 0, .string ByteArray.empty, .slice none 0 0, .slice none 0 0, .int .i64 0, .int .i64 0, .int .i64 0, .int .i64 0, .string ByteArray.empty, .slice none 0 0, .slice none 0 0, .int .i64 0, .slice none 0 0] := by kernel_rfl
theorem Wm : ZT Try.prog 33 = some (5, 80) := by kernel_rfl
theorem en_20 : J3 Try.prog 20 := enters_of Try.func20 (by kernel_rfl) rfl
theorem en_64 : J3 Try.prog 64 := enters_of Try.func64 (by kernel_rfl) rfl
theorem en_68 : J3 Try.prog 68 := enters_of Try.func68 (by kernel_rfl) rfl
theorem YI : Try.prog.follows .mixedOrders = true := by kernel_rfl
def m64_l0  (s1 : (List Tm) × Int × Int × UN × (List Lvl) × (List Tm)) : Option (LO ((List Tm) × Int × Int × UN × (List Lvl) × (List Tm)) (((List Tm) × Int × Int × UN × (List Lvl) × (List Tm)))) :=
 Option.bind (cond (s1.2.1 == 6)
   (some ((s1.2.2.2.2.2.length : Int) == 2))
   (some false)) (fun (v2 : Bool) => cond v2
   (Option.bind (Yi s1.2.2.2.2.2 0) fun (x4 : Tm) =>
 J8 (Nat.ble (s1.1.length + ([x4]).length) 1000000000)
 (Option.bind (Yi s1.2.2.2.2.2 1) fun (x6 : Tm) =>
 some (.next ((s1.1 ++ ([x4])), x6.kind, x6.index, x6.name, x6.levels, x6.kids))))
   (some (.done (s1.1, s1.2.1, s1.2.2.1, s1.2.2.2.1, s1.2.2.2.2.1, s1.2.2.2.2.2))))
noncomputable abbrev m64_h0 (p0_ : (List Tm) × Int × Int × UN × (List Lvl) × (List Tm)) : HB :=
 .cells 33 [Ux p0_.2.1, Ux p0_.2.2.1, Jl p0_.2.2.2.1, Uv p0_.2.2.2.2.1, Uv p0_.2.2.2.2.2]
noncomputable abbrev m64_h1 (p0_ : (List Tm) × Int × Int × UN × (List Lvl) × (List Tm)) : List (Nat × HB) :=
 [(0, m64_h0 p0_), (1, .cells 33 [Ux 0, Ux 0, Jl ([] : List UInt8), Uw, Uw])]
def m64 (a0 : Tm) : Option ((List Tm) × Tm) :=
 Option.bind (QV (m64_l0) J2 (([] : List Tm), a0.kind, a0.index, a0.name, a0.levels, a0.kids)) (fun (o1 : (List Tm) × Int × Int × UN × (List Lvl) × (List Tm)) => some (o1.1, (Tm.mk o1.2.1 o1.2.2.1 o1.2.2.2.1 o1.2.2.2.2.1 o1.2.2.2.2.2)))
set_option maxRecDepth 100000 in
set_option maxHeartbeats 2000000 in
theorem m64_ok (a0 : Tm) (r : (List Tm) × Tm) (h0 : m64 a0 = some r) : Fun Try.prog 64 [.agg (UA a0)] (QD [.one (Uv r.1), .agg (UA r.2)]) := by
 unfold m64 at h0
 refine QY 9 27 Try.func64 rfl en_64 rfl (Um rfl) (fun S w => ?_)
 simp only [J7]
 refine Q5 <| Q0 <| Q9 rfl rfl (Um rfl) (QN rfl) <| Ug rfl rfl rfl <| Q9 rfl rfl (Um rfl) (Qm ZS rfl) <| Q4 <| Q3 <| Q5 <| Q0 <| Ug rfl rfl rfl <| Q4 <| Q3 <| Q5 <| Qf ?_
 refine QR 0 (fun (o1 : (List Tm) × Int × Int × UN × (List Lvl) × (List Tm)) => ⟨[(1, .v (.one (.ptr 0 0))), (3, .v (.one (.ptr 1 0))), (4, .v (.one (Uz 2 o1.1)))], [(0, .cells 33 [Ux o1.2.1, Ux o1.2.2.1, Jl o1.2.2.2.1, Uv o1.2.2.2.2.1, Uv o1.2.2.2.2.2]), (1, .cells 33 [Ux 0, Ux 0, Jl ([] : List UInt8), Uw, Uw])], [(2, some ⟨33, 5, (Enc.encL o1.1).length, []⟩)], 3, 27, []⟩) (fun (o1 : (List Tm) × Int × Int × UN × (List Lvl) × (List Tm)) => (some (o1.1, (Tm.mk o1.2.1 o1.2.2.1 o1.2.2.2.1 o1.2.2.2.2.1 o1.2.2.2.2.2))) = some r) ?_ ?_
 refine XC.adoptT (t := 4) 33 5 rfl ?_
 refine Qb h0 (fun o2 hl1 h0 => ?_)
 refine QQ (m64_l0) (fun s1 => ⟨[(1, .v (.one (.ptr 0 0))), (3, .v (.one (.ptr 1 0))), (4, .v (.one (Uz 2 s1.1)))], [(0, .cells 33 [Ux s1.2.1, Ux s1.2.2.1, Jl s1.2.2.2.1, Uv s1.2.2.2.2.1, Uv s1.2.2.2.2.2]), (1, .cells 33 [Ux 0, Ux 0, Jl ([] : List UInt8), Uw, Uw])], [(2, some ⟨33, 5, (Enc.encL s1.1).length, []⟩)], 3, 27, []⟩) (([] : List Tm), a0.kind, a0.index, a0.name, a0.levels, a0.kids) o2 (Ub (Nat.zero_le _) rfl rfl rfl rfl rfl) hl1 (fun s1 n1 oo1 h1 ho1 => ?_)
 unfold m64_l0 at h1
 refine Q5 <| Q5 ?_
 refine QS (fun (v3 : Bool) => ⟨[(1, .v (.one (.ptr 0 0))), (3, .v (.one (.ptr 1 0))), (4, .v (.one (Uz 2 s1.1))), (13, .v (.one (Uy v3)))], m64_h1 s1, [(2, some ⟨33, 5, (Enc.encL s1.1).length, []⟩)], 3, 27, []⟩) (fun (v3 : Bool) => (cond v3
     (Option.bind (Yi s1.2.2.2.2.2 0) fun (x5 : Tm) =>
   J8 (Nat.ble (s1.1.length + ([x5]).length) 1000000000)
   (Option.bind (Yi s1.2.2.2.2.2 1) fun (x7 : Tm) =>
   some (.next ((s1.1 ++ ([x5])), x7.kind, x7.index, x7.name, x7.levels, x7.kids))))
     (some (.done (s1.1, s1.2.1, s1.2.2.1, s1.2.2.2.1, s1.2.2.2.2.1, s1.2.2.2.2.2)))) = some oo1) ?_ ?_
 refine Qb h1 (fun w2_ h2 h1 => ?_)
 refine Q0 <| Ue rfl rfl rfl (Q1 Y3 rfl) <| Ue rfl rfl rfl (Q6 QZ rfl rfl rfl) <| Ue rfl rfl rfl (Q7 rfl rfl rfl) <| Uf rfl rfl rfl ?_
 refine QG (d := 8) (c := (s1.2.1 == 6)) rfl (fun c4 => ?_) (fun c4 => ?_)
 replace h2 := Qk c4 h2
 refine Ue rfl rfl rfl (Q1 JJ rfl) <| Ue rfl rfl rfl (Q6 JH rfl rfl rfl) <| Ue rfl rfl rfl (Qx (α := Tm) Ji rfl (.d _)) <| Ue rfl rfl rfl (Q7 rfl rfl rfl) <| Ue rfl rfl rfl (Qh rfl rfl) <| Q4 ?_
 have e := Uc h2; subst e
 exact Qc ((s1.2.2.2.2.2.length : Int) == 2) (Ub (Nat.zero_le _) rfl rfl rfl rfl rfl) h1
 replace h2 := Ql c4 h2
 refine Q8 rfl rfl <| Q8 rfl rfl <| Q8 rfl rfl <| Q8 rfl rfl <| Ue rfl rfl rfl (Qd rfl rfl) <| Q4 ?_
 have e := Uc h2; subst e
 exact Qc false (Ub (Nat.zero_le _) rfl rfl rfl rfl rfl) h1
 intro v3 h1
 refine Q3 ?_
 refine Qg (b := v3) rfl (fun c5 => ?_) (fun c5 => ?_)
 replace h1 := Qk c5 h1
 refine Qj <| Q3 <| Qf <| Q5 <| Q0 <| Uf rfl rfl rfl <| Ue rfl rfl rfl (Q1 JJ rfl) <| Ue rfl rfl rfl (Q6 JH rfl rfl rfl) ?_
 refine Qb h1 (fun x6 hx6 h1 => ?_)
 refine Ue rfl rfl rfl (Qq (α := Tm) Ji rfl (.d _) rfl hx6) <| Ue rfl rfl rfl (Qv (x6 : Tm) QW rfl) <| Q9 rfl rfl (Um rfl) (Jt (α := Tm) (x6) Ji ZS rfl rfl (Um rfl) (Um rfl) rfl rfl (.cons (.d _) (.cons (.d _) (.cons (.d _) (.cons (.d _) (.cons (.d _) .nil))))) rfl) ?_
 refine JC h1 (fun g7 h1 => ?_)
 refine Q9 rfl rfl (Um rfl) (Jh (α := Tm) Ji Wm rfl rfl rfl rfl rfl (.app _ _) g7) <| Ug rfl rfl rfl <| Q4 <| Q3 <| Q0 <| Ue rfl rfl rfl (Q1 JJ rfl) <| Ue rfl rfl rfl (Q6 JH rfl rfl rfl) ?_
 refine Qb h1 (fun x8 hx8 h1 => ?_)
 refine Ue rfl rfl rfl (Qq (α := Tm) Ji rfl (.d _) rfl hx8) <| Ue rfl rfl rfl (Qv (x8 : Tm) QW rfl) <| Qy rfl rfl (QC (x8 : Tm) QW rfl rfl rfl rfl rfl) <| Q4 <| Qe ?_
 have e := Uc h1; subst e
 refine QM ((s1.1 ++ ([x6])), x8.kind, x8.index, x8.name, x8.levels, x8.kids) (Ub (Nat.zero_le _) rfl rfl rfl rfl rfl) ho1
 replace h1 := Ql c5 h1
 refine J1 <| Qn <| Qn ?_
 have e := Uc h1; subst e
 have e_ : _ = _ := ho1
 subst e_
 exact QP (s1.1, s1.2.1, s1.2.2.1, s1.2.2.2.1, s1.2.2.2.2.1, s1.2.2.2.2.2) (Ub (Nat.zero_le _) rfl rfl rfl rfl rfl) h0
 intro o1 h0
 refine QF <| Q3 <| Q5 ?_
 refine Jv [3] [] YI (by kernel_rfl) (by kernel_rfl) (by kernel_rfl) ?_
 refine RunA.rd rfl rfl rfl (Q2 (Qt rfl)) rfl <| RunA.rd rfl rfl rfl (Q2 (Qi QW rfl rfl rfl rfl)) rfl <| RunA.rd rfl rfl rfl (Q2 (JK rfl)) rfl <| RunA.eff rfl rfl rfl (Qr QW rfl rfl rfl rfl (Um rfl) rfl) rfl ?_
 refine RunA.nil ⟨?ex, _, _, rfl, ?_⟩
 case ex => exact trivial
 refine JX (st' := ⟨[(2, .v (.one (Uz 2 o1.1))), (3, .v (.one (.ptr 1 0)))], [(0, m64_h0 o1), (1, m64_h0 o1)], [(2, some ⟨33, 5, (Enc.encL o1.1).length, []⟩)], 3, 27, []⟩) (Ub (Nat.zero_le _) rfl rfl rfl rfl rfl) <| Q3 <| QA ?_
 have e := Uc h0; subst e
 exact QL (fun _ _ h => h) rfl (Qz rfl (Z0 QW rfl rfl rfl rfl .nil)) (.cons (.one (.app _ _ _)) (.cons (.agg (.cons (.d _) (.cons (.d _) (.cons (.d _) (.cons (.d _) (.cons (.d _) .nil)))))) .nil))
def Xq (a0 : Dcl) (s1 : (List UN) × Int) : Option (LO ((List UN) × Int) (((List UN)))) :=
 cond (decide (s1.2 < (a0.ctors.length : Int)))
   (Option.bind (Yi a0.ctors s1.2) fun (x8 : Ctr) =>
 J8 (Nat.ble (s1.1.length + ([x8.name]).length) 1000000000)
 (some (.next ((s1.1 ++ ([x8.name])), (Jk (s1.2 + 1))))))
   (some (.done s1.1))
def Xp (a0 : Dcl) (s1 : (List UN) × Int) : Option (LO ((List UN) × Int) (((List UN)))) :=
 cond (decide (s1.2 < (a0.funs.length : Int)))
   (Option.bind (Yi a0.funs s1.2) fun (x16 : Fn) =>
 J8 (Nat.ble (s1.1.length + ([x16.name]).length) 1000000000)
 (some (.next ((s1.1 ++ ([x16.name])), (Jk (s1.2 + 1))))))
   (some (.done s1.1))
def WT (a0 : Dcl) : Option ((List UN)) :=
 Option.bind (cond (a0.kind == 0)
   (some (a0.kind == 0))
   (cond (a0.kind == 1)
   (some (a0.kind == 1))
   (some (a0.kind == 2)))) (fun (v1 : Bool) => cond v1
   (J8 (Nat.ble ([a0.name]).length 1000000000)
 (some ([a0.name])))
   (cond (a0.kind == 3)
   (J8 (Nat.ble ([a0.name]).length 1000000000)
 (Option.bind (QV (Xq a0) J2 ([a0.name], 0)) (fun (o6 : (List UN)) => J8 (Nat.ble (a0.name.length + ([46, 114, 101, 99] : List UInt8).length) 1000000000)
 (J8 (Nat.ble (o6.length + ([(a0.name ++ ([46, 114, 101, 99] : List UInt8))]).length) 1000000000)
 (some (o6 ++ ([(a0.name ++ ([46, 114, 101, 99] : List UInt8))])))))))
   (cond (a0.kind == 4)
   (Option.bind (QV (Xp a0) J2 (([] : List UN), 0)) (fun (o14 : (List UN)) => some o14))
   (some ([] : List UN)))))
set_option maxRecDepth 100000 in
set_option maxHeartbeats 2000000 in
theorem m20_ok (a0 : Dcl) (r : (List UN)) (h0 : WT a0 = some r) : Fun Try.prog 20 [.agg (UA a0)] (QD [.one (Uv r)]) := by
 unfold WT at h0
 refine QY 9 61 Try.func20 rfl en_20 rfl (Um rfl) (fun S w => ?_)
 simp only [J7]
 refine Q5 <| Q0 <| Q9 rfl rfl (Um rfl) (QN rfl) <| Ug rfl rfl rfl <| Q4 <| Q3 <| Q5 <| Q0 <| Ug rfl rfl rfl <| Q4 <| Q3 <| Q5 <| Q5 <| Q0 ?_
 refine Ue rfl rfl rfl (Q1 Yn rfl) <| Ue rfl rfl rfl (Q6 QZ rfl rfl rfl) <| Q4 <| Q3 <| Qf <| Q5 <| Q5 <| Q0 <| Ue rfl rfl rfl (Q7 rfl rfl rfl) <| Ug rfl rfl rfl <| Q4 <| Q3 ?_
 refine QS (fun (v1 : Bool) => ⟨[(1, .v (.one (.ptr 0 0))), (3, .v (.one (Uw))), (9, .v (.one (Ux a0.kind))), (10, .v (.one (Uy v1)))], [(0, .cells 45 (UA a0))], [], 1, 61, []⟩) (fun (v1 : Bool) => (cond v1
     (J8 (Nat.ble ([a0.name]).length 1000000000)
   (some ([a0.name])))
     (cond (a0.kind == 3)
     (J8 (Nat.ble ([a0.name]).length 1000000000)
   (Option.bind (QV (Xq a0) J2 ([a0.name], 0)) (fun (o6 : (List UN)) => J8 (Nat.ble (a0.name.length + ([46, 114, 101, 99] : List UInt8).length) 1000000000)
   (J8 (Nat.ble (o6.length + ([(a0.name ++ ([46, 114, 101, 99] : List UInt8))]).length) 1000000000)
   (some (o6 ++ ([(a0.name ++ ([46, 114, 101, 99] : List UInt8))])))))))
     (cond (a0.kind == 4)
     (Option.bind (QV (Xp a0) J2 (([] : List UN), 0)) (fun (o14 : (List UN)) => some o14))
     (some ([] : List UN))))) = some r) ?_ ?_
 refine Qb h0 (fun w1_ h1 h0 => ?_)
 refine Qg (b := (a0.kind == 0)) rfl (fun c2 => ?_) (fun c2 => ?_)
 replace h1 := Qk c2 h1
 refine Qj ?_
 have e := Uc h1; subst e
 exact Qc (a0.kind == 0) (Ub (Nat.zero_le _) rfl rfl rfl rfl rfl) h0
 replace h1 := Ql c2 h1
 refine Q5 <| Q0 <| Ue rfl rfl rfl (Q7 rfl rfl rfl) <| Ug rfl rfl rfl <| Q4 <| Q3 ?_
 refine Qg (b := (a0.kind == 1)) rfl (fun c3 => ?_) (fun c3 => ?_)
 replace h1 := Qk c3 h1
 refine Qj ?_
 have e := Uc h1; subst e
 exact Qc (a0.kind == 1) (Ub (Nat.zero_le _) rfl rfl rfl rfl rfl) h0
 replace h1 := Ql c3 h1
 refine Q0 <| Ue rfl rfl rfl (Q7 rfl rfl rfl) <| Ug rfl rfl rfl <| Q4 ?_
 have e := Uc h1; subst e
 exact Qc (a0.kind == 2) (Ub (Nat.zero_le _) rfl rfl rfl rfl rfl) h0
 intro v1 h0
 refine Q3 ?_
 refine Qg (b := v1) rfl (fun c4 => ?_) (fun c4 => ?_)
 replace h0 := Qk c4 h0
 refine Q0 <| Uf rfl rfl rfl <| Ue rfl rfl rfl (Q1 Y8 rfl) <| Ue rfl rfl rfl (Q6 JG rfl rfl rfl) <| Q9 rfl rfl (Um rfl) (Jt (α := UN) (a0.name) Ju Wo rfl rfl (Um rfl) (Um rfl) rfl rfl (.cons (.d _) .nil) rfl) ?_
 refine JC h0 (fun g5 h0 => ?_)
 refine Q9 rfl rfl (Um rfl) (OpOK.appendNilE (α := UN) Ju KN rfl rfl rfl (.app _ _) g5) <| Ug rfl rfl rfl <| Q4 <| Qe <| Q3 <| Q5 <| Q0 <| Uf rfl rfl rfl <| Ug rfl rfl rfl <| Q4 <| Q3 <| QA ?_
 have e := Uc h0; subst e
 exact QL (fun _ _ h => h) rfl (Qz rfl .nil) (.cons (.one (.app _ _ _)) .nil)
 replace h0 := Ql c4 h0
 refine Q5 <| Q0 <| Ue rfl rfl rfl (Q7 rfl rfl rfl) <| Ug rfl rfl rfl <| Q4 <| Q3 ?_
 refine Qg (b := (a0.kind == 3)) rfl (fun c6 => ?_) (fun c6 => ?_)
 replace h0 := Qk c6 h0
 refine Q5 <| Q0 <| Uf rfl rfl rfl <| Ue rfl rfl rfl (Q1 Y8 rfl) <| Ue rfl rfl rfl (Q6 JG rfl rfl rfl) <| Q9 rfl rfl (Um rfl) (Jt (α := UN) (a0.name) Ju Wo rfl rfl (Um rfl) (Um rfl) rfl rfl (.cons (.d _) .nil) rfl) ?_
 refine JC h0 (fun g7 h0 => ?_)
 refine Q9 rfl rfl (Um rfl) (OpOK.appendNilE (α := UN) Ju KN rfl rfl rfl (.app _ _) g7) <| Ug rfl rfl rfl <| Q4 <| Q3 <| Q5 <| Q5 <| Q0 <| Ue rfl rfl rfl (Q1 Yc rfl) <| Ue rfl rfl rfl (Q6 Zc rfl rfl rfl) <| Ue rfl rfl rfl (Qx (α := Ctr) Yv rfl (.d _)) <| Uf rfl rfl rfl <| Q4 <| Q3 <| Qf ?_
 refine QR 1 (fun (o8 : (List UN)) => ⟨[(1, .v (.one (.ptr 0 0))), (3, .v (.one (Uz 2 o8)))], [(0, .cells 45 (UA a0))], [(1, some ⟨9, 1, (Enc.encL ([a0.name] : List UN)).length, []⟩), (2, some ⟨9, 1, (Enc.encL o8).length, []⟩)], 3, 61, []⟩) (fun (o8 : (List UN)) => (J8 (Nat.ble (a0.name.length + ([46, 114, 101, 99] : List UInt8).length) 1000000000)
   (J8 (Nat.ble (o8.length + ([(a0.name ++ ([46, 114, 101, 99] : List UInt8))]).length) 1000000000)
   (some (o8 ++ ([(a0.name ++ ([46, 114, 101, 99] : List UInt8))]))))) = some r) ?_ ?_
 refine Qb h0 (fun o9 hl1 h0 => ?_)
 refine QQ (Xq a0) (fun s1 => ⟨[(1, .v (.one (.ptr 0 0))), (3, .v (.one (Uz 2 s1.1))), (27, .v (.one (Uv a0.ctors))), (28, .v (.one (Ux (a0.ctors.length : Int)))), (29, .v (.one (Ux s1.2)))], [(0, .cells 45 (UA a0))], [(1, some ⟨9, 1, (Enc.encL ([a0.name] : List UN)).length, []⟩), (2, some ⟨9, 1, (Enc.encL s1.1).length, []⟩)], 3, 61, []⟩) ([a0.name], 0) o9 (Ub (Nat.zero_le _) rfl rfl rfl rfl rfl) hl1 (fun s1 n1 oo1 h1 ho1 => ?_)
 unfold Xq at h1
 refine Q5 <| Q0 <| Ue rfl rfl rfl (Q7 rfl rfl rfl) <| Q4 <| Q3 <| Q5 ?_
 refine Qg (b := (decide (s1.2 < (a0.ctors.length : Int)))) rfl (fun c10 => ?_) (fun c10 => ?_)
 replace h1 := Qk c10 h1
 refine Qj <| Q3 <| Q5 <| Qf <| Q5 <| Q0 ?_
 refine Qb h1 (fun x11 hx11 h1 => ?_)
 refine Ue rfl rfl rfl (Qq (α := Ctr) Yv rfl (.d _) rfl hx11) <| Ue rfl rfl rfl (Qv (x11 : Ctr) ZQ rfl) <| Q9 rfl rfl (Um rfl) (Qm Wj rfl) <| Qy rfl rfl (QC (x11 : Ctr) ZQ rfl rfl rfl rfl rfl) <| Q4 <| Q3 <| Q0 <| Uf rfl rfl rfl <| Ue rfl rfl rfl (Q1 Kk rfl) <| Ue rfl rfl rfl (Q6 JG rfl rfl rfl) <| Q9 rfl rfl (Um rfl) (Jt (α := UN) (x11.name) Ju Wo rfl rfl (Um rfl) (Um rfl) rfl rfl (.cons (.d _) .nil) rfl) ?_
 refine JC h1 (fun g12 h1 => ?_)
 refine Q9 rfl rfl (Um rfl) (Jh (α := UN) Ju KN rfl rfl rfl rfl rfl (.app _ _) g12) <| Ug rfl rfl rfl <| Q4 <| Qe <| Q3 <| Q0 <| Ue rfl rfl rfl (Q7 rfl rfl rfl) <| Uf rfl rfl rfl <| Q4 ?_
 have e := Uc h1; subst e
 refine QM ((s1.1 ++ ([x11.name])), (Jk (s1.2 + 1))) (Ub (Nat.zero_le _) rfl rfl rfl rfl rfl) ho1
 replace h1 := Ql c10 h1
 refine J1 <| Qn <| Qn ?_
 have e := Uc h1; subst e
 have e_ : _ = _ := ho1
 subst e_
 exact QP s1.1 (Ub (Nat.zero_le _) rfl rfl rfl rfl rfl) h0
 intro o8 h0
 refine QF <| Q3 <| Q0 <| Uf rfl rfl rfl <| Ue rfl rfl rfl (Q1 Y8 rfl) <| Ue rfl rfl rfl (Q6 JG rfl rfl rfl) ?_
 refine JC h0 (fun g13 h0 => ?_)
 refine Ue rfl rfl rfl (Gr rfl rfl g13) <| Q9 rfl rfl (Um rfl) (Jt (α := UN) ((a0.name ++ ([46, 114, 101, 99] : List UInt8))) Ju Wo rfl rfl (Um rfl) (Um rfl) rfl rfl (.cons (.d _) .nil) rfl) ?_
 refine JC h0 (fun g14 h0 => ?_)
 refine Q9 rfl rfl (Um rfl) (Jh (α := UN) Ju KN rfl rfl rfl rfl rfl (.app _ _) g14) <| Ug rfl rfl rfl <| Q4 <| Qe <| Q3 <| Q5 <| Q0 <| Uf rfl rfl rfl <| Ug rfl rfl rfl <| Q4 <| Q3 <| QA ?_
 have e := Uc h0; subst e
 exact QL (fun _ _ h => h) rfl (Qz rfl .nil) (.cons (.one (.app _ _ _)) .nil)
 replace h0 := Ql c6 h0
 refine Q5 <| Q0 <| Ue rfl rfl rfl (Q7 rfl rfl rfl) <| Ug rfl rfl rfl <| Q4 <| Q3 ?_
 refine Qg (b := (a0.kind == 4)) rfl (fun c15 => ?_) (fun c15 => ?_)
 replace h0 := Qk c15 h0
 refine Q5 <| Q0 <| Ue rfl rfl rfl (Q1 Y2 rfl) <| Ue rfl rfl rfl (Q6 YZ rfl rfl rfl) <| Ue rfl rfl rfl (Qx (α := Fn) Yk rfl (.d _)) <| Uf rfl rfl rfl <| Q4 <| Q3 <| Qf ?_
 refine QR 3 (fun (o16 : (List UN)) => ⟨[(3, .v (.one (Uz 1 o16)))], [(0, .cells 45 (UA a0))], [(1, some ⟨9, 1, (Enc.encL o16).length, []⟩)], 2, 61, []⟩) (fun (o16 : (List UN)) => (some o16) = some r) ?_ ?_
 refine XC.adoptT (t := 3) 9 1 rfl ?_
 refine Qb h0 (fun o17 hl1 h0 => ?_)
 refine QQ (Xp a0) (fun s1 => ⟨[(3, .v (.one (Uz 1 s1.1))), (48, .v (.one (Uv a0.funs))), (49, .v (.one (Ux (a0.funs.length : Int)))), (50, .v (.one (Ux s1.2)))], [(0, .cells 45 (UA a0))], [(1, some ⟨9, 1, (Enc.encL s1.1).length, []⟩)], 2, 61, []⟩) (([] : List UN), 0) o17 (Ub (Nat.zero_le _) rfl rfl rfl rfl rfl) hl1 (fun s1 n1 oo1 h1 ho1 => ?_)
 unfold Xp at h1
 refine Q5 <| Q0 <| Ue rfl rfl rfl (Q7 rfl rfl rfl) <| Q4 <| Q3 <| Q5 ?_
 refine Qg (b := (decide (s1.2 < (a0.funs.length : Int)))) rfl (fun c18 => ?_) (fun c18 => ?_)
 replace h1 := Qk c18 h1
 refine Qj <| Q3 <| Q5 <| Qf <| Q5 <| Q0 ?_
 refine Qb h1 (fun x19 hx19 h1 => ?_)
 refine Ue rfl rfl rfl (Qq (α := Fn) Yk rfl (.d _) rfl hx19) <| Ue rfl rfl rfl (Qv (x19 : Fn) Zx rfl) <| Q9 rfl rfl (Um rfl) (Qm Wi rfl) <| Qy rfl rfl (QC (x19 : Fn) Zx rfl rfl rfl rfl rfl) <| Q4 <| Q3 <| Q0 <| Uf rfl rfl rfl <| Ue rfl rfl rfl (Q1 Gp rfl) <| Ue rfl rfl rfl (Q6 JG rfl rfl rfl) <| Q9 rfl rfl (Um rfl) (Jt (α := UN) (x19.name) Ju Wo rfl rfl (Um rfl) (Um rfl) rfl rfl (.cons (.d _) .nil) rfl) ?_
 refine JC h1 (fun g20 h1 => ?_)
 refine Q9 rfl rfl (Um rfl) (Jh (α := UN) Ju KN rfl rfl rfl rfl rfl (.app _ _) g20) <| Ug rfl rfl rfl <| Q4 <| Qe <| Q3 <| Q0 <| Ue rfl rfl rfl (Q7 rfl rfl rfl) <| Uf rfl rfl rfl <| Q4 ?_
 have e := Uc h1; subst e
 refine QM ((s1.1 ++ ([x19.name])), (Jk (s1.2 + 1))) (Ub (Nat.zero_le _) rfl rfl rfl rfl rfl) ho1
 replace h1 := Ql c18 h1
 refine J1 <| Qn <| Qn ?_
 have e := Uc h1; subst e
 have e_ : _ = _ := ho1
 subst e_
 exact QP s1.1 (Ub (Nat.zero_le _) rfl rfl rfl rfl rfl) h0
 intro o16 h0
 refine QF <| Qe <| Q3 <| Q5 <| Q0 <| Uf rfl rfl rfl <| Ug rfl rfl rfl <| Q4 <| Q3 <| QA ?_
 have e := Uc h0; subst e
 exact QL (fun _ _ h => h) rfl (Qz rfl .nil) (.cons (.one (.app _ _ _)) .nil)
 replace h0 := Ql c15 h0
 refine Qj <| Qe <| Q3 <| Q5 <| Q0 <| Uf rfl rfl rfl <| Ug rfl rfl rfl <| Q4 <| Q3 <| QA ?_
 have e := Uc h0; subst e
 exact QL (fun _ _ h => h) rfl (Qz rfl .nil) (.cons (.one (.nil _)) .nil)
def m68 (a0 : Dcl) (a1 : Int) : Option Int :=
 Option.bind (Yi a0.ctors a1) fun (x1 : Ctr) =>
 Option.bind (m64 x1.ty) fun (x2 : (List Tm) × Tm) =>
 some (max 0 (Jk ((x2.1.length : Int) - a0.fixed)))
set_option maxRecDepth 100000 in
set_option maxHeartbeats 2000000 in
theorem m68_ok (a0 : Dcl) (a1 : Int) (r : Int) (h0 : m68 a0 a1 = some r) : Fun Try.prog 68 [.agg (UA a0), .one (Ux a1)] (QD [.one (Ux r)]) := by
 unfold m68 at h0
 refine QY 9 23 Try.func68 rfl en_68 rfl (Um rfl) (fun S w => ?_)
 simp only [J7]
 refine Q5 <| Q0 <| Q9 rfl rfl (Um rfl) (QN rfl) <| Ug rfl rfl rfl <| Q4 <| Q3 <| Q5 <| Q0 <| Ue rfl rfl rfl (Q1 Yc rfl) <| Ue rfl rfl rfl (Q6 Zc rfl rfl rfl) <| Uf rfl rfl rfl ?_
 refine Qb h0 (fun x1 hx1 h0 => ?_)
 refine Ue rfl rfl rfl (Qq (α := Ctr) Yv rfl (.d _) rfl hx1) <| Ue rfl rfl rfl (JA K2 rfl) <| Ue rfl rfl rfl (Y6 QW rfl rfl rfl) ?_
 refine Qb h0 (fun x2 hx2 h0 => ?_)
 refine Q9 rfl rfl (Um rfl) (Qo (m64_ok x1.ty x2 hx2) rfl (.cons (.agg (.cons (.d _) (.cons (.d _) (.cons (.d _) (.cons (.d _) (.cons (.d _) .nil)))))) .nil)) <| Uf rfl rfl rfl <| Ue rfl rfl rfl (Jg rfl rfl) <| Ue rfl rfl rfl (Jg rfl rfl) <| Q9 rfl rfl (Um rfl) (Qm ZS rfl) <| Ug rfl rfl rfl <| Qy rfl rfl (QC (x2.2 : Tm) QW rfl rfl rfl rfl rfl) <| Q4 <| Q3 <| Q5 <| Q0 <| Uf rfl rfl rfl <| Ue rfl rfl rfl (Qx (α := Tm) Ji rfl (.d _)) <| Ue rfl rfl rfl (Q1 fo_45_5 rfl) ?_
 refine Ue rfl rfl rfl (Q6 QZ rfl rfl rfl) <| Ue rfl rfl rfl (Q7 rfl rfl rfl) <| Ue rfl rfl rfl (Gq rfl rfl) <| Ug rfl rfl rfl <| Q4 <| Q3 <| QA ?_
 have e := Uc h0; subst e
 exact QL (fun _ _ h => h) rfl (Qz rfl .nil) (.cons (.one (.d _)) .nil)
end Go.Proofs.Ytafddfoefeploaa
namespace Go.Proofs.Ytafddfoefeploaa
open Go.RowKit Go.Shelf
set_option linter.unusedSimpArgs false
set_option linter.unusedVariables false
theorem Kl : J0 Try.prog 42 1 = some 1 := by kernel_rfl
theorem ZG : J0 Try.prog 42 2 = some 6 := by kernel_rfl
theorem K4 : J0 Try.prog 45 3 = some 3 := by kernel_rfl
theorem X1 : J0 Try.prog 45 4 = some 8 := by kernel_rfl
theorem JO : J0 Try.prog 45 7 = some 15 := by kernel_rfl
theorem XG : J0 Try.prog 74 0 = some 0 := by kernel_rfl
theorem X0 : J0 Try.prog 74 1 = some 1 := by kernel_rfl
theorem Za : J0 Try.prog 74 3 = some 7 := by kernel_rfl
theorem KT : J0 Try.prog 76 1 = some 1 := by kernel_rfl
theorem fo_76_3 : J0 Try.prog 76 3 = some 7 := by kernel_rfl
theorem GQ : J0 Try.prog 101 0 = some 0 := by kernel_rfl
theorem fo_101_1 : J0 Try.prog 101 1 = some 1 := by kernel_rfl
theorem GP : J0 Try.prog 101 2 = some 2 := by kernel_rfl
theorem WC : Jy Try.prog 4 = some (false, 1) := by kernel_rfl
theorem JS : Jy Try.prog 45 = some (true, 23) := by kernel_rfl
theorem Gd : Jy Try.prog 72 = some (false, 1) := by kernel_rfl
theorem X9 : Jy Try.prog 74 = some (true, 8) := by kernel_rfl
theorem ag_101 : Jy Try.prog 101 = some (true, 10) := by kernel_rfl
theorem ag_103 : Jy Try.prog 103 = some (false, 1) := by kernel_rfl
theorem Kx : Jo Try.prog 72 = some (101, 10) := by kernel_rfl
theorem z_31 : JE Try.prog 31 = some [.slice none 0 0] := by kernel_rfl
theorem z_101 : JE Try.prog 101 = some [.string ByteArray.empty, .bool false, .int .i64 0, .int .i64 0, .int .i64 0, .string ByteArray.empty, .slice none 0 0, .slice none 0 0, .int .i64 0, .slice none 0 0] := by kernel_rfl
theorem en_24 : J3 Try.prog 24 := enters_of Try.func24 (by kernel_rfl) rfl
theorem en_39 : J3 Try.prog 39 := enters_of Try.func39 (by kernel_rfl) rfl
theorem en_57 : J3 Try.prog 57 := enters_of Try.func57 (by kernel_rfl) rfl
theorem en_59 : J3 Try.prog 59 := enters_of Try.func59 (by kernel_rfl) rfl
theorem en_75 : J3 Try.prog 75 := enters_of Try.func75 (by kernel_rfl) rfl
theorem en_76 : J3 Try.prog 76 := enters_of Try.func76 (by kernel_rfl) rfl
theorem en_92 : J3 Try.prog 92 := enters_of Try.func92 (by kernel_rfl) rfl
noncomputable def Z4 : Code := (UC (UC (UB (UC (UB (UB (UB (UB (Kf Try.f24)))))))))
noncomputable def Z3 : Code := (UB (UC (UB (UC (UB (UB (UB (UB (Kf Try.f24)))))))))
noncomputable abbrev m76f16_h0  : HB :=
 .loop .ready none [(3, .v (.one (.ptr 3 0))), (6, .v (.one (.ptr 5 0))), (20, .v (.one (.fn 57 [(7, 0), (9, 0)])))] 33 #[21] Z4 Z3 2
noncomputable abbrev m76f16_h1 (p0_ : Qa UN Bool) (p1_ : List UN) (p2_ : List Tm) (p3_ : Dcl) : List (Nat × HB) :=
 [(0, .cells 103 [.yld 1]), (1, m76f16_h0), (2, .obj (.deferred (some []))), (3, .cells 80 [.mp 4]), (4, .mp (QO p0_.1) p0_.2), (5, .cells 51 [Uz 6 p1_]), (7, .cells 31 [Uz 8 p2_]), (9, .cells 45 (UA p3_))]
noncomputable abbrev m76f16_h2  : HB :=
 .loop .busy none [(3, .v (.one (.ptr 3 0))), (6, .v (.one (.ptr 5 0))), (20, .v (.one (.fn 57 [(7, 0), (9, 0)])))] 33 #[21] Z4 Z3 2
noncomputable abbrev m76f16_h3 (p0_ : Qa UN Bool) (p1_ : List UN) (p2_ : List Tm) (p3_ : Dcl) : List (Nat × HB) :=
 [(0, .cells 103 [.yld 1]), (1, m76f16_h2), (2, .obj (.deferred (some []))), (3, .cells 80 [.mp 4]), (4, .mp (QO p0_.1) p0_.2), (5, .cells 51 [Uz 6 p1_]), (7, .cells 31 [Uz 8 p2_]), (9, .cells 45 (UA p3_))]
noncomputable abbrev m76f16_h4 (p0_ : (Qa UN Bool) × (List UN)) (p1_ : List Tm) (p2_ : Dcl) : List (Nat × HB) :=
 [(0, .cells 103 [.yld 1]), (1, m76f16_h2), (2, .obj (.deferred (some []))), (3, .cells 80 [.mp 4]), (4, .mp (QO p0_.1.1) p0_.1.2), (5, .cells 51 [Uz 6 p0_.2]), (7, .cells 31 [Uz 8 p1_]), (9, .cells 45 (UA p2_))]
noncomputable abbrev m76f16_h5 (p0_ : ((Qa UN Bool) × (List UN))) (p1_ : List Tm) (p2_ : Dcl) : List (Nat × HB) :=
 [(0, .cells 103 [.yld 1]), (1, m76f16_h0), (2, .obj (.deferred (some []))), (3, .cells 80 [.mp 4]), (4, .mp (QO p0_.1.1) p0_.1.2), (5, .cells 51 [Uz 6 p0_.2]), (7, .cells 31 [Uz 8 p1_]), (9, .cells 45 (UA p2_))]
def m76f16 (a0 : UN) (a1 : Qa UN Bool) (a2 : List UN) (a3 : List Tm) (a4 : Dcl) : Option (((Qa UN Bool) × (List UN))) :=
 Option.bind (cond (!(Qp a1 a0))
   (J8 (Nat.ble (a2.length + ([a0]).length) 1000000000)
 (some ((J5 a1 a0 true), (a2 ++ ([a0])))))
   (some (a1, a2))) (fun (y1 : (Qa UN Bool) × (List UN)) => some (y1.1, y1.2))
set_option maxRecDepth 100000 in
set_option maxHeartbeats 2000000 in
theorem m76f16_ok (a0 : UN) (a1 : Qa UN Bool) (a2 : List UN) (a3 : List Tm) (a4 : Dcl) (r : ((Qa UN Bool) × (List UN))) (h0 : m76f16 a0 a1 a2 a3 a4 = some r) : CallM Try.prog 76 [.one (Jl a0), .one (.ptr 0 0)] ⟨m76f16_h1 a1 a2 a3 a4, [(6, some ⟨9, 1, (Enc.encL a2).length, []⟩), (8, some ⟨33, 5, (Enc.encL a3).length, []⟩)], 10⟩ (QD [.one (Uy false)]) ⟨m76f16_h5 r a3 a4, [(6, some ⟨9, 1, (Enc.encL r.2).length, []⟩), (8, some ⟨33, 5, (Enc.encL a3).length, []⟩)], 10⟩ := by
 unfold m76f16 at h0
 refine QT ⟨[(3, .v (.one (Uy false)))], m76f16_h5 r a3 a4, [(6, some ⟨9, 1, (Enc.encL r.2).length, []⟩), (8, some ⟨33, 5, (Enc.encL a3).length, []⟩)], 10, 8, []⟩ rfl rfl en_76 (Um rfl) rfl (Qz rfl .nil) (fun w0 M V0 Q hv0 hQ0 => ?_)
 simp only [J7]
 refine Q5 <| Q0 <| Ug rfl rfl rfl <| Q4 <| Q3 <| Q5 <| Q0 <| Ue rfl rfl rfl (Q6 ag_103 rfl rfl rfl) <| Uf rfl rfl rfl ?_
 refine Qb h0 (fun y1 h1 h0 => ?_)
 have ha2 : ExecOK Try.prog (some 1) Z4 ⟨[(3, .v (.one (.ptr 3 0))), (6, .v (.one (.ptr 5 0))), (20, .v (.one (.fn 57 [(7, 0), (9, 0)]))), (21, .v (.one (Jl a0)))], m76f16_h1 a1 a2 a3 a4, [(6, some ⟨9, 1, (Enc.encL a2).length, []⟩), (8, some ⟨33, 5, (Enc.encL a3).length, []⟩)], 10, 33, []⟩ .normal ⟨[(3, .v (.one (.ptr 3 0))), (6, .v (.one (.ptr 5 0))), (7, .v (.one (Jl a0)))], m76f16_h1 a1 a2 a3 a4, [(6, some ⟨9, 1, (Enc.encL a2).length, []⟩), (8, some ⟨33, 5, (Enc.encL a3).length, []⟩)], 10, 33, []⟩ := by
  refine QI (fun w0 M V0 ro n Q hv1 hro1 hQn1 => ?_)
  refine Q0 <| Ug rfl rfl rfl <| Q4 ?_
  exact Jr hQn1 (Qu (Ua rfl) (hA rfl) (Uo rfl) rfl (Nat.le_trans hv1 (Um rfl)) rfl rfl rfl (UF rfl rfl (UF rfl rfl (UF rfl rfl (UF rfl rfl (UE rfl (UG rfl)))))) rfl rfl)
 have hb3 : ExecOK Try.prog (some 1) Z3 ⟨[(3, .v (.one (.ptr 3 0))), (6, .v (.one (.ptr 5 0))), (7, .v (.one (Jl a0)))], m76f16_h3 a1 a2 a3 a4, [(6, some ⟨9, 1, (Enc.encL a2).length, []⟩), (8, some ⟨33, 5, (Enc.encL a3).length, []⟩)], 10, 33, []⟩ .normal ⟨[], m76f16_h4 y1 a3 a4, [(6, some ⟨9, 1, (Enc.encL y1.2).length, []⟩), (8, some ⟨33, 5, (Enc.encL a3).length, []⟩)], 10, 33, []⟩ := by
  refine QI (fun w0 M V0 ro n Q hv1 hro1 hQn1 => ?_)
  refine Qf <| Q5 <| Q0 <| Ue rfl rfl rfl (Q6 GT rfl rfl rfl) <| Uf rfl rfl rfl <| Ue rfl rfl rfl (YP (M := a1) (k := a0) Gy Gw rfl rfl rfl) <| Ue rfl rfl rfl (Jb rfl) <| Q4 <| Q3 ?_
  refine Qg (b := (!(Qp a1 a0))) rfl (fun c4 => ?_) (fun c4 => ?_)
  replace h1 := Qk c4 h1
  refine Q5 <| Q0 <| Ue rfl rfl rfl (Q6 GT rfl rfl rfl) <| Uf rfl rfl rfl <| Qy rfl rfl (Je (M := a1) (k := a0) (v := true) Gy rfl rfl rfl rfl rfl) <| Q4 <| Q3 <| Q0 <| Ue rfl rfl rfl (Q6 Xb rfl rfl rfl) <| Uf rfl rfl rfl <| Q9 rfl rfl (Um rfl) (Jt (α := UN) (a0) Ju Wo rfl rfl (Um rfl) (Um rfl) rfl rfl (.cons (.d _) .nil) rfl) ?_
  refine JC h1 (fun g5 h1 => ?_)
  refine Q9 rfl rfl (Um rfl) (Jh (α := UN) Ju KN rfl rfl rfl rfl rfl (.app _ _) g5) <| Qy rfl rfl (Qr Xb rfl rfl rfl rfl (Um rfl) rfl) <| Q4 <| Qe ?_
  have e := Uc h1; subst e
  exact Jr hQn1 (Qu U9 (hA rfl) (Uo rfl) rfl (Nat.le_trans hv1 (Um rfl)) rfl rfl rfl (UF rfl rfl (UF rfl rfl (UF rfl rfl (UF rfl rfl (UE rfl (UG rfl)))))) rfl rfl)
  replace h1 := Ql c4 h1
  refine Qj <| Qe ?_
  have e := Uc h1; subst e
  exact Jr hQn1 (Qu U9 (hA rfl) (Uo rfl) rfl (Nat.le_trans hv1 (Um rfl)) rfl rfl rfl (UF rfl rfl (UF rfl rfl (UF rfl rfl (UF rfl rfl (UE rfl (UG rfl)))))) rfl rfl)
 refine Q9 rfl rfl (Um rfl) (Jc (jump := none) rfl rfl rfl rfl rfl (Qw ha2 (fun E hv => (Qu (Ua rfl) (hA rfl) (Uo rfl) rfl (Nat.le_trans hv (Um rfl)) rfl rfl rfl (UF rfl rfl (UF rfl rfl (UF rfl rfl (UF rfl rfl (UE rfl (UG rfl)))))) rfl rfl))) rfl (Qw hb3 (fun E hv => (Qu (Ua rfl) (hA rfl) (Uo rfl) rfl (Nat.le_trans hv (Um rfl)) rfl rfl rfl (UF rfl rfl (UF rfl rfl (UF rfl rfl (UF rfl rfl (UE rfl (UG rfl)))))) rfl rfl))) rfl rfl) ?_
 refine Ue rfl rfl rfl (Jb rfl) <| Ug rfl rfl rfl <| Q4 <| Q3 <| QA ?_
 have e := Uc h0; subst e
 exact hQ0 _ _ _ (.inr rfl) rfl (Qu (Ua rfl) (hA rfl) (Uo rfl) rfl (Nat.le_trans hv0 (Um rfl)) rfl rfl rfl (UF rfl rfl (UF rfl rfl (UF rfl rfl (UF rfl rfl (UE rfl (UG rfl)))))) rfl rfl)
def Ko (a0 : List UN) (a3 : List Tm) (a4 : Dcl) (s1 : Int × (Qa UN Bool) × (List UN)) : Option (LO (Int × (Qa UN Bool) × (List UN)) (((Qa UN Bool) × (List UN)))) :=
 cond (decide (s1.1 < (a0.length : Int)))
   (Option.bind (Yi a0 s1.1) fun (x3 : UN) =>
 Option.bind (m76f16 x3 s1.2.1 s1.2.2 a3 a4) fun (x4 : ((Qa UN Bool) × (List UN))) =>
 some (.next ((Jk (s1.1 + 1)), x4.1, x4.2)))
   (some (.done (s1.2.1, s1.2.2)))
noncomputable abbrev m92f15_h0  : HB :=
 .loop .ready none [(3, .v (.one (.ptr 3 0))), (6, .v (.one (.ptr 5 0))), (20, .v (.one (.fn 57 [(7, 0), (9, 0)])))] 33 #[21] Z4 Z3 2
noncomputable abbrev m92f15_h1 (p0_ : Qa UN Bool) (p1_ : List UN) (p2_ : List Tm) (p3_ : Dcl) : List (Nat × HB) :=
 [(0, .cells 103 [.yld 1]), (1, m92f15_h0), (2, .obj (.deferred (some []))), (3, .cells 80 [.mp 4]), (4, .mp (QO p0_.1) p0_.2), (5, .cells 51 [Uz 6 p1_]), (7, .cells 31 [Uz 8 p2_]), (9, .cells 45 (UA p3_))]
noncomputable abbrev m92f15_h2 (p0_ : ((Qa UN Bool) × (List UN))) (p1_ : List Tm) (p2_ : Dcl) : List (Nat × HB) :=
 [(0, .cells 103 [.yld 1]), (1, m92f15_h0), (2, .obj (.deferred (some []))), (3, .cells 80 [.mp 4]), (4, .mp (QO p0_.1.1) p0_.1.2), (5, .cells 51 [Uz 6 p0_.2]), (7, .cells 31 [Uz 8 p1_]), (9, .cells 45 (UA p2_))]
def Wb (a0 : List UN) (a1 : Qa UN Bool) (a2 : List UN) (a3 : List Tm) (a4 : Dcl) : Option (((Qa UN Bool) × (List UN))) :=
 Option.bind (QV (Ko a0 a3 a4) J2 (0, a1, a2)) (fun (o1 : (Qa UN Bool) × (List UN)) => some (o1.1, o1.2))
set_option maxRecDepth 100000 in
set_option maxHeartbeats 2000000 in
theorem m92f15_ok (a0 : List UN) (a1 : Qa UN Bool) (a2 : List UN) (a3 : List Tm) (a4 : Dcl) (r : ((Qa UN Bool) × (List UN))) (h0 : Wb a0 a1 a2 a3 a4 = some r) : CallM Try.prog 92 [.one (Uv a0), .one (.fn 76 [(0, 0)])] ⟨m92f15_h1 a1 a2 a3 a4, [(6, some ⟨9, 1, (Enc.encL a2).length, []⟩), (8, some ⟨33, 5, (Enc.encL a3).length, []⟩)], 10⟩ (QD [.one (Ux (-1))]) ⟨m92f15_h2 r a3 a4, [(6, some ⟨9, 1, (Enc.encL r.2).length, []⟩), (8, some ⟨33, 5, (Enc.encL a3).length, []⟩)], 10⟩ := by
 unfold Wb at h0
 refine QT ⟨[(4, .v (.one (Ux (-1))))], m92f15_h2 r a3 a4, [(6, some ⟨9, 1, (Enc.encL r.2).length, []⟩), (8, some ⟨33, 5, (Enc.encL a3).length, []⟩)], 10, 19, []⟩ rfl rfl en_92 (Um rfl) rfl (Qz rfl .nil) (fun w0 M V0 Q hv0 hQ0 => ?_)
 simp only [J7]
 refine Q5 <| Q0 <| Ug rfl rfl rfl <| Q4 <| Q3 <| Q5 <| Q5 <| Q0 <| Uf rfl rfl rfl <| Ue rfl rfl rfl (Qx (α := UN) Ju rfl (.d _)) <| Uf rfl rfl rfl <| Q4 <| Q3 <| Qf ?_
 refine QR 0 (fun (o1 : (Qa UN Bool) × (List UN)) => ⟨[], [(0, .cells 103 [.yld 1]), (1, m92f15_h0), (2, .obj (.deferred (some []))), (3, .cells 80 [.mp 4]), (4, .mp (QO o1.1.1) o1.1.2), (5, .cells 51 [Uz 6 o1.2]), (7, .cells 31 [Uz 8 a3]), (9, .cells 45 (UA a4))], [(6, some ⟨9, 1, (Enc.encL o1.2).length, []⟩), (8, some ⟨33, 5, (Enc.encL a3).length, []⟩)], 10, 19, []⟩) (fun (o1 : (Qa UN Bool) × (List UN)) => (some (o1.1, o1.2)) = some r) ?_ ?_
 refine Qb h0 (fun o2 hl1 h0 => ?_)
 refine QQ (Ko a0 a3 a4) (fun s1 => ⟨[(0, .v (.one (Uv a0))), (1, .v (.one (.fn 76 [(0, 0)]))), (7, .v (.one (Ux (a0.length : Int)))), (8, .v (.one (Ux s1.1)))], [(0, .cells 103 [.yld 1]), (1, m92f15_h0), (2, .obj (.deferred (some []))), (3, .cells 80 [.mp 4]), (4, .mp (QO s1.2.1.1) s1.2.1.2), (5, .cells 51 [Uz 6 s1.2.2]), (7, .cells 31 [Uz 8 a3]), (9, .cells 45 (UA a4))], [(6, some ⟨9, 1, (Enc.encL s1.2.2).length, []⟩), (8, some ⟨33, 5, (Enc.encL a3).length, []⟩)], 10, 19, []⟩) (0, a1, a2) o2 (Qu (Ua rfl) (hA rfl) (Uo rfl) rfl (Nat.le_trans hv0 (Um rfl)) rfl rfl rfl (UF rfl rfl (UF rfl rfl (UF rfl rfl (UF rfl rfl (UE rfl (UG rfl)))))) rfl rfl) hl1 (fun s1 n1 oo1 h1 ho1 => ?_)
 unfold Ko at h1
 refine Q5 <| Q0 <| Ue rfl rfl rfl (Q7 rfl rfl rfl) <| Q4 <| Q3 <| Q5 ?_
 refine Qg (b := (decide (s1.1 < (a0.length : Int)))) rfl (fun c3 => ?_) (fun c3 => ?_)
 replace h1 := Qk c3 h1
 refine Qj <| Q3 <| Q5 <| Qf <| Q5 <| Q0 <| Uf rfl rfl rfl <| Ug rfl rfl rfl <| Q4 <| Q3 <| Q5 <| Q0 <| Uf rfl rfl rfl <| Uf rfl rfl rfl ?_
 refine Uf rfl rfl rfl ?_
 refine Qb h1 (fun x4 hx4 h1 => ?_)
 refine Ue rfl rfl rfl (Qq (α := UN) Ju rfl (.d _) rfl hx4) <| Ue rfl rfl rfl (Js JG rfl rfl) ?_
 refine Qb h1 (fun x5 hx5 h1 => ?_)
 refine Q9 rfl rfl (Um rfl) (J4 (hp1' := [(0, .cells 103 [.yld 1]), (1, .loop .ready none [(3, .v (.one (.ptr 3 0))), (6, .v (.one (.ptr 5 0))), (20, .v (.one (.fn 57 [(7, 0), (9, 0)])))] 33 #[21] Z4 Z3 2), (2, .obj (.deferred (some []))), (3, .cells 80 [.mp 4]), (4, .mp (QO x5.1.1) x5.1.2), (5, .cells 51 [Uz 6 x5.2]), (7, .cells 31 [Uz 8 a3]), (9, .cells 45 (UA a4))]) (tk1' := [(6, some ⟨9, 1, (Enc.encL x5.2).length, []⟩), (8, some ⟨33, 5, (Enc.encL a3).length, []⟩)]) (hpF := []) (tkF := []) (res2 := QD [.one (Uy false)]) (nx2 := 10) [0, 1, 2, 3, 4, 5, 6, 7, 8, 9] rfl rfl (m76f16_ok x4 s1.2.1 s1.2.2 a3 a4 x5 hx5) rfl rfl (Uj rfl rfl (Uj rfl rfl (Uj rfl rfl (Uj rfl rfl (Ui rfl (Uj rfl rfl (Uj rfl rfl (Uj rfl rfl Uh)))))))) rfl rfl (Ut rfl (Ut rfl (Ut rfl (Ut rfl (Uu rfl (Ut rfl (Ut rfl (Ut rfl Us)))))))) (Uq rfl (Uq rfl Up)) hZ Un rfl rfl rfl rfl rfl (UF rfl rfl (UF rfl rfl (UF rfl rfl (UF rfl rfl (UE rfl (UG rfl)))))) rfl rfl rfl rfl) <| Q4 <| Q3 ?_
 refine Qg rfl (fun h => nomatch h) (fun _ => ?_)
 refine Qj <| Qe <| Q3 <| Q0 <| Ue rfl rfl rfl (Q7 rfl rfl rfl) <| Uf rfl rfl rfl <| Q4 ?_
 have e := Uc h1; subst e
 refine QM ((Jk (s1.1 + 1)), x5.1, x5.2) (Qu (Ua rfl) (hA rfl) (Uo rfl) rfl (Nat.le_trans hv0 (Um rfl)) rfl rfl rfl (UF rfl rfl (UF rfl rfl (UF rfl rfl (UF rfl rfl (UE rfl (UG rfl)))))) rfl rfl) ho1
 replace h1 := Ql c3 h1
 refine J1 <| Qn <| Qn ?_
 have e := Uc h1; subst e
 have e_ : _ = _ := ho1
 subst e_
 exact QP (s1.2.1, s1.2.2) (Qu U9 (hA rfl) (Uo rfl) rfl (Nat.le_trans hv0 (Um rfl)) rfl rfl rfl (UF rfl rfl (UF rfl rfl (UF rfl rfl (UF rfl rfl (UE rfl (UG rfl)))))) rfl rfl) h0
 intro o1 h0
 refine QF <| Q3 <| Q5 <| Q0 <| Ug rfl rfl rfl <| Q4 <| Q3 <| QA ?_
 have e := Uc h0; subst e
 exact hQ0 _ _ _ (.inr rfl) rfl (Qu (Ua rfl) (hA rfl) (Uo rfl) rfl (Nat.le_trans hv0 (Um rfl)) rfl rfl rfl (UF rfl rfl (UF rfl rfl (UF rfl rfl (UF rfl rfl (UE rfl (UG rfl)))))) rfl rfl)
noncomputable abbrev m75f14_h0  : HB :=
 .loop .ready none [(3, .v (.one (.ptr 3 0))), (6, .v (.one (.ptr 5 0))), (20, .v (.one (.fn 57 [(7, 0), (9, 0)])))] 33 #[21] Z4 Z3 2
noncomputable abbrev m75f14_h1 (p0_ : Qa UN Bool) (p1_ : List UN) (p2_ : List Tm) (p3_ : Dcl) : List (Nat × HB) :=
 [(0, .cells 103 [.yld 1]), (1, m75f14_h0), (2, .obj (.deferred (some []))), (3, .cells 80 [.mp 4]), (4, .mp (QO p0_.1) p0_.2), (5, .cells 51 [Uz 6 p1_]), (7, .cells 31 [Uz 8 p2_]), (9, .cells 45 (UA p3_))]
noncomputable abbrev m75f14_h2 (p0_ : ((Qa UN Bool) × (List UN))) (p1_ : List Tm) (p2_ : Dcl) : List (Nat × HB) :=
 [(0, .cells 103 [.yld 1]), (1, m75f14_h0), (2, .obj (.deferred (some []))), (3, .cells 80 [.mp 4]), (4, .mp (QO p0_.1.1) p0_.1.2), (5, .cells 51 [Uz 6 p0_.2]), (7, .cells 31 [Uz 8 p1_]), (9, .cells 45 (UA p2_))]
def m75f14 (a0 : List UN) (a1 : Qa UN Bool) (a2 : List UN) (a3 : List Tm) (a4 : Dcl) : Option (((Qa UN Bool) × (List UN))) :=
 Option.bind (Wb a0 a1 a2 a3 a4) fun (x1 : ((Qa UN Bool) × (List UN))) =>
 some (x1.1, x1.2)
set_option maxRecDepth 100000 in
set_option maxHeartbeats 2000000 in
theorem m75f14_ok (a0 : List UN) (a1 : Qa UN Bool) (a2 : List UN) (a3 : List Tm) (a4 : Dcl) (r : ((Qa UN Bool) × (List UN))) (h0 : m75f14 a0 a1 a2 a3 a4 = some r) : CallM Try.prog 75 [.one (Uv a0), .one (.fn 76 [(0, 0)])] ⟨m75f14_h1 a1 a2 a3 a4, [(6, some ⟨9, 1, (Enc.encL a2).length, []⟩), (8, some ⟨33, 5, (Enc.encL a3).length, []⟩)], 10⟩ (QD [.one (Uy false)]) ⟨m75f14_h2 r a3 a4, [(6, some ⟨9, 1, (Enc.encL r.2).length, []⟩), (8, some ⟨33, 5, (Enc.encL a3).length, []⟩)], 10⟩ := by
 unfold m75f14 at h0
 refine QT ⟨[(4, .v (.one (Uy false)))], m75f14_h2 r a3 a4, [(6, some ⟨9, 1, (Enc.encL r.2).length, []⟩), (8, some ⟨33, 5, (Enc.encL a3).length, []⟩)], 10, 9, []⟩ rfl rfl en_75 (Um rfl) rfl (Qz rfl .nil) (fun w0 M V0 Q hv0 hQ0 => ?_)
 simp only [J7]
 refine Q5 <| Q0 <| Ug rfl rfl rfl <| Q4 <| Q3 <| Q5 <| Q0 <| Uf rfl rfl rfl <| Uf rfl rfl rfl ?_
 refine Qb h0 (fun x1 hx1 h0 => ?_)
 refine Q9 rfl rfl (Um rfl) (J4 (hp1' := [(0, .cells 103 [.yld 1]), (1, .loop .ready none [(3, .v (.one (.ptr 3 0))), (6, .v (.one (.ptr 5 0))), (20, .v (.one (.fn 57 [(7, 0), (9, 0)])))] 33 #[21] Z4 Z3 2), (2, .obj (.deferred (some []))), (3, .cells 80 [.mp 4]), (4, .mp (QO x1.1.1) x1.1.2), (5, .cells 51 [Uz 6 x1.2]), (7, .cells 31 [Uz 8 a3]), (9, .cells 45 (UA a4))]) (tk1' := [(6, some ⟨9, 1, (Enc.encL x1.2).length, []⟩), (8, some ⟨33, 5, (Enc.encL a3).length, []⟩)]) (hpF := []) (tkF := []) (res2 := QD [.one (Ux (-1))]) (nx2 := 10) [0, 1, 2, 3, 4, 5, 6, 7, 8, 9] rfl rfl (m92f15_ok a0 a1 a2 a3 a4 x1 hx1) rfl rfl (Uj rfl rfl (Uj rfl rfl (Uj rfl rfl (Uj rfl rfl (Ui rfl (Uj rfl rfl (Uj rfl rfl (Uj rfl rfl Uh)))))))) rfl rfl (Ut rfl (Ut rfl (Ut rfl (Ut rfl (Uu rfl (Ut rfl (Ut rfl (Ut rfl Us)))))))) (Uq rfl (Uq rfl Up)) hZ Un rfl rfl rfl rfl rfl (UF rfl rfl (UF rfl rfl (UF rfl rfl (UF rfl rfl (UE rfl (UG rfl)))))) rfl rfl rfl rfl) <| Ue rfl rfl rfl (Q7 rfl rfl rfl) <| Ug rfl rfl rfl <| Q4 <| Q3 <| QA ?_
 have e := Uc h0; subst e
 exact hQ0 _ _ _ (.inr rfl) rfl (Qu (Ua rfl) (hA rfl) (Uo rfl) rfl (Nat.le_trans hv0 (Um rfl)) rfl rfl rfl (UF rfl rfl (UF rfl rfl (UF rfl rfl (UF rfl rfl (UE rfl (UG rfl)))))) rfl rfl)
def ZX (a0 : Tr) (rc : Tr × (Qa UN Bool) × (List UN) × (List Tm) × Dcl → Option ((Bool × (Qa UN Bool) × (List UN)))) (a3 : List Tm) (a4 : Dcl) (s1 : Int × (Qa UN Bool) × (List UN)) : Option (LO (Int × (Qa UN Bool) × (List UN)) (((Qa UN Bool) × (List UN)) ⊕ ((Bool × (Qa UN Bool) × (List UN))))) :=
 cond (decide (s1.1 < (a0.branches.length : Int)))
   (Option.bind (Yi a0.branches s1.1) fun (x6 : UO) =>
 Option.bind (Option.bind (cond (!(Qp s1.2.1 x6.ctor))
   (J8 (Nat.ble (s1.2.2.length + ([x6.ctor]).length) 1000000000)
 (some ((J5 s1.2.1 x6.ctor true), (s1.2.2 ++ ([x6.ctor])))))
   (some (s1.2.1, s1.2.2))) (fun (y8 : (Qa UN Bool) × (List UN)) => cond (!x6.absurd)
   (Option.bind (rc (x6.tree, y8.1, y8.2, a3, a4)) fun (x14 : (Bool × (Qa UN Bool) × (List UN))) =>
 some (true, (!x14.1), (!x14.1), x14.2.1, x14.2.2))
   (some (false, false, false, y8.1, y8.2)))) (fun (v7 : Bool × Bool × Bool × (Qa UN Bool) × (List UN)) => cond v7.2.2.1
   (some (.done (.inr (false, v7.2.2.2.1, v7.2.2.2.2))))
   (some (.next ((Jk (s1.1 + 1)), v7.2.2.2.1, v7.2.2.2.2)))))
   (some (.done (.inl (s1.2.1, s1.2.2))))
noncomputable abbrev Kr  : HB :=
 .loop .ready none [(3, .v (.one (.ptr 2 0))), (6, .v (.one (.ptr 4 0))), (20, .v (.one (.fn 57 [(6, 0), (8, 0)])))] 33 #[21] Z4 Z3 1
noncomputable abbrev m59f13_h1 (p0_ : Int × (Qa UN Bool) × (List UN)) (p1_ : List Tm) (p2_ : Dcl) (p3_ : Tr) (p4_ : UO) : List (Nat × HB) :=
 [(0, Kr), (1, .obj (.deferred (some []))), (2, .cells 80 [.mp 3]), (3, .mp (QO p0_.2.1.1) p0_.2.1.2), (4, .cells 51 [Uz 5 p0_.2.2]), (6, .cells 31 [Uz 7 p1_]), (8, .cells 45 (UA p2_)), (9, .cells 74 (UA p3_)), (10, .cells 103 [.yld 0]), (11, .cells 101 (UA p4_))]
noncomputable abbrev m59f13_h2  : HB :=
 .loop .busy none [(3, .v (.one (.ptr 2 0))), (6, .v (.one (.ptr 4 0))), (20, .v (.one (.fn 57 [(6, 0), (8, 0)])))] 33 #[21] Z4 Z3 1
noncomputable abbrev m59f13_h3 (p0_ : Int × (Qa UN Bool) × (List UN)) (p1_ : List Tm) (p2_ : Dcl) (p3_ : Tr) (p4_ : UO) : List (Nat × HB) :=
 [(0, m59f13_h2), (1, .obj (.deferred (some []))), (2, .cells 80 [.mp 3]), (3, .mp (QO p0_.2.1.1) p0_.2.1.2), (4, .cells 51 [Uz 5 p0_.2.2]), (6, .cells 31 [Uz 7 p1_]), (8, .cells 45 (UA p2_)), (9, .cells 74 (UA p3_)), (10, .cells 103 [.yld 0]), (11, .cells 101 (UA p4_))]
noncomputable abbrev m59f13_h4 (p0_ : (Qa UN Bool) × (List UN)) (p1_ : List Tm) (p2_ : Dcl) (p3_ : Tr) (p4_ : UO) : List (Nat × HB) :=
 [(0, m59f13_h2), (1, .obj (.deferred (some []))), (2, .cells 80 [.mp 3]), (3, .mp (QO p0_.1.1) p0_.1.2), (4, .cells 51 [Uz 5 p0_.2]), (6, .cells 31 [Uz 7 p1_]), (8, .cells 45 (UA p2_)), (9, .cells 74 (UA p3_)), (10, .cells 103 [.yld 0]), (11, .cells 101 (UA p4_))]
noncomputable abbrev m59f13_h5 (p0_ : Tr) (p1_ : UO) : List (Nat × HB) :=
 [(9, .cells 74 (UA p0_)), (10, .cells 103 [.yld 0]), (11, .cells 101 (UA p1_))]
noncomputable abbrev G3 (p0_ : Qa UN Bool) (p1_ : List UN) (p2_ : List Tm) (p3_ : Dcl) : List (Nat × HB) :=
 [(0, Kr), (1, .obj (.deferred (some []))), (2, .cells 80 [.mp 3]), (3, .mp (QO p0_.1) p0_.2), (4, .cells 51 [Uz 5 p1_]), (6, .cells 31 [Uz 7 p2_]), (8, .cells 45 (UA p3_))]
noncomputable abbrev Kq (p0_ : (Bool × (Qa UN Bool) × (List UN))) (p1_ : List Tm) (p2_ : Dcl) : List (Nat × HB) :=
 [(0, Kr), (1, .obj (.deferred (some []))), (2, .cells 80 [.mp 3]), (3, .mp (QO p0_.2.1.1) p0_.2.1.2), (4, .cells 51 [Uz 5 p0_.2.2]), (6, .cells 31 [Uz 7 p1_]), (8, .cells 45 (UA p2_))]
def XB (rc : Tr × (Qa UN Bool) × (List UN) × (List Tm) × Dcl → Option ((Bool × (Qa UN Bool) × (List UN)))) (a0 : Tr) (a1 : Qa UN Bool) (a2 : List UN) (a3 : List Tm) (a4 : Dcl) : Option ((Bool × (Qa UN Bool) × (List UN))) :=
 cond (a0.kind == 0)
   (Option.bind (U0 a0.body) fun (x2 : (List UN)) =>
 Option.bind (m75f14 x2 a1 a2 a3 a4) fun (x3 : ((Qa UN Bool) × (List UN))) =>
 some (true, x3.1, x3.2))
   (Option.bind (QV (ZX a0 rc a3 a4) J2 (0, a1, a2)) (Sum.elim (fun (o4 : (Qa UN Bool) × (List UN)) => some (true, o4.1, o4.2)) (fun o => some o)))
def XD (rc : Tr × (Qa UN Bool) × (List UN) × (List Tm) × Dcl → Option ((Bool × (Qa UN Bool) × (List UN)))) (u : Tr × (Qa UN Bool) × (List UN) × (List Tm) × Dcl) : Option ((Bool × (Qa UN Bool) × (List UN))) := XB rc u.1 u.2.1 u.2.2.1 u.2.2.2.1 u.2.2.2.2
def m59f13 (a0 : Tr) (a1 : Qa UN Bool) (a2 : List UN) (a3 : List Tm) (a4 : Dcl) : Option ((Bool × (Qa UN Bool) × (List UN))) := Yt XD J2 (a0, a1, a2, a3, a4)
set_option maxRecDepth 100000 in
set_option maxHeartbeats 2000000 in
theorem m59f13s_ok (rc : Tr × (Qa UN Bool) × (List UN) × (List Tm) × Dcl → Option ((Bool × (Qa UN Bool) × (List UN)))) (H : ∀ (a0 : Tr) (a1 : Qa UN Bool) (a2 : List UN) (a3 : List Tm) (a4 : Dcl) (r : (Bool × (Qa UN Bool) × (List UN))), rc (a0, a1, a2, a3, a4) = some r → CallM Try.prog 59 [.agg (UA a0), .one (.yld 0)] ⟨G3 a1 a2 a3 a4, [(5, some ⟨9, 1, (Enc.encL a2).length, []⟩), (7, some ⟨33, 5, (Enc.encL a3).length, []⟩)], 9⟩ (QD [.one (Uy r.1)]) ⟨Kq r a3 a4, [(5, some ⟨9, 1, (Enc.encL r.2.2).length, []⟩), (7, some ⟨33, 5, (Enc.encL a3).length, []⟩)], 11⟩) (a0 : Tr) (a1 : Qa UN Bool) (a2 : List UN) (a3 : List Tm) (a4 : Dcl) (r : (Bool × (Qa UN Bool) × (List UN))) (h0 : XB rc a0 a1 a2 a3 a4 = some r) : CallM Try.prog 59 [.agg (UA a0), .one (.yld 0)] ⟨G3 a1 a2 a3 a4, [(5, some ⟨9, 1, (Enc.encL a2).length, []⟩), (7, some ⟨33, 5, (Enc.encL a3).length, []⟩)], 9⟩ (QD [.one (Uy r.1)]) ⟨Kq r a3 a4, [(5, some ⟨9, 1, (Enc.encL r.2.2).length, []⟩), (7, some ⟨33, 5, (Enc.encL a3).length, []⟩)], 11⟩ := by
 unfold XB at h0
 refine QT ⟨[(4, .v (.one (Uy r.1)))], Kq r a3 a4, [(5, some ⟨9, 1, (Enc.encL r.2.2).length, []⟩), (7, some ⟨33, 5, (Enc.encL a3).length, []⟩)], 11, 41, []⟩ rfl rfl en_59 (Um rfl) rfl (Qz rfl .nil) (fun w0 M V0 Q hv0 hQ0 => ?_)
 simp only [J7]
 refine Q5 <| Q0 <| Q9 rfl rfl (Um rfl) (QN rfl) <| Q9 rfl rfl (Um rfl) (QN rfl) <| Ug rfl rfl rfl <| Q4 <| Q3 <| Q5 <| Q5 <| Q0 <| Ue rfl rfl rfl (Q1 XG rfl) <| Ue rfl rfl rfl (Q6 QZ rfl rfl rfl) <| Ue rfl rfl rfl (Q7 rfl rfl rfl) <| Q4 ?_
 refine Q3 ?_
 refine Qg (b := (a0.kind == 0)) rfl (fun c1 => ?_) (fun c1 => ?_)
 replace h0 := Qk c1 h0
 refine Q5 <| Q0 <| Ue rfl rfl rfl (Q1 X0 rfl) <| Ue rfl rfl rfl (Qi QW rfl rfl rfl rfl) ?_
 refine Qb h0 (fun x2 hx2 h0 => ?_)
 refine Q9 rfl rfl (Um rfl) (Qo (m58_ok a0.body x2 hx2) rfl (.cons (.agg (.cons (.d _) (.cons (.d _) (.cons (.d _) (.cons (.d _) (.cons (.d _) .nil)))))) .nil)) <| Ue rfl rfl rfl (YQ rfl) ?_
 refine Qb h0 (fun x3 hx3 h0 => ?_)
 refine Q9 rfl rfl (Um rfl) (J4 (hp1' := [(10, .cells 103 [.yld 0]), (0, .loop .ready none [(3, .v (.one (.ptr 2 0))), (6, .v (.one (.ptr 4 0))), (20, .v (.one (.fn 57 [(6, 0), (8, 0)])))] 33 #[21] Z4 Z3 1), (1, .obj (.deferred (some []))), (2, .cells 80 [.mp 3]), (3, .mp (QO x3.1.1) x3.1.2), (4, .cells 51 [Uz 5 x3.2]), (6, .cells 31 [Uz 7 a3]), (8, .cells 45 (UA a4))]) (tk1' := [(5, some ⟨9, 1, (Enc.encL x3.2).length, []⟩), (7, some ⟨33, 5, (Enc.encL a3).length, []⟩)]) (hpF := [(9, .cells 74 (UA a0))]) (tkF := []) (res2 := QD [.one (Uy false)]) (nx2 := 11) [10, 0, 1, 2, 3, 4, 5, 6, 7, 8] rfl rfl (m75f14_ok x2 a1 a2 a3 a4 x3 hx3) rfl rfl (Uj rfl rfl (Uj rfl rfl (Uj rfl rfl (Uj rfl rfl (Ui rfl (Uj rfl rfl (Uj rfl rfl (Uj rfl rfl Uh)))))))) rfl rfl (Ut rfl (Ut rfl (Ut rfl (Ut rfl (Uu rfl (Ut rfl (Ut rfl (Ut rfl Us)))))))) (Uq rfl (Uq rfl Up)) (hA rfl) Un rfl rfl rfl rfl rfl (UF rfl rfl (UF rfl rfl (UF rfl rfl (UF rfl rfl (UE rfl (UG rfl)))))) rfl rfl rfl rfl) <| Ue rfl rfl rfl (Jb rfl) <| Ug rfl rfl rfl <| Q4 <| Q3 <| QA ?_
 have e := Uc h0; subst e
 exact hQ0 _ _ _ (.inr rfl) rfl (Qu (Ua rfl) (hA rfl) (Uo rfl) rfl (Nat.le_trans hv0 (Um rfl)) rfl rfl rfl (UF rfl rfl (UF rfl rfl (UF rfl rfl (UE rfl (UG rfl))))) rfl rfl)
 replace h0 := Ql c1 h0
 refine Qj <| Q3 <| Q5 <| Q5 <| Q0 <| Ue rfl rfl rfl (Q1 Za rfl) <| Ue rfl rfl rfl (Q6 Gd rfl rfl rfl) <| Ue rfl rfl rfl (Qx (α := UO) Kx rfl (.d _)) <| Uf rfl rfl rfl <| Q4 <| Q3 <| Qf ?_
 refine QR 0 (fun (o4 : (Qa UN Bool) × (List UN)) => ⟨[], [(0, Kr), (1, .obj (.deferred (some []))), (2, .cells 80 [.mp 3]), (3, .mp (QO o4.1.1) o4.1.2), (4, .cells 51 [Uz 5 o4.2]), (6, .cells 31 [Uz 7 a3]), (8, .cells 45 (UA a4)), (9, .cells 74 (UA a0)), (10, .cells 103 [.yld 0])], [(5, some ⟨9, 1, (Enc.encL o4.2).length, []⟩), (7, some ⟨33, 5, (Enc.encL a3).length, []⟩)], 11, 41, []⟩) (fun (o4 : (Qa UN Bool) × (List UN)) => (some (true, o4.1, o4.2)) = some r) ?_ ?_
 refine Qb h0 (fun o5 hl1 h0 => ?_)
 refine QQ (ZX a0 rc a3 a4) (fun s1 => ⟨[(3, .v (.one (.ptr 10 0))), (17, .v (.one (Uv a0.branches))), (18, .v (.one (Ux (a0.branches.length : Int)))), (19, .v (.one (Ux s1.1)))], [(0, Kr), (1, .obj (.deferred (some []))), (2, .cells 80 [.mp 3]), (3, .mp (QO s1.2.1.1) s1.2.1.2), (4, .cells 51 [Uz 5 s1.2.2]), (6, .cells 31 [Uz 7 a3]), (8, .cells 45 (UA a4)), (9, .cells 74 (UA a0)), (10, .cells 103 [.yld 0])], [(5, some ⟨9, 1, (Enc.encL s1.2.2).length, []⟩), (7, some ⟨33, 5, (Enc.encL a3).length, []⟩)], 11, 41, []⟩) (0, a1, a2) o5 (Qu (Ua rfl) (hA rfl) (Uo rfl) rfl (Nat.le_trans hv0 (Um rfl)) rfl rfl rfl (UF rfl rfl (UF rfl rfl (UF rfl rfl (UE rfl (UG rfl))))) rfl rfl) hl1 (fun s1 n1 oo1 h1 ho1 => ?_)
 unfold ZX at h1
 refine Q5 <| Q0 <| Ue rfl rfl rfl (Q7 rfl rfl rfl) <| Q4 <| Q3 <| Q5 ?_
 refine Qg (b := (decide (s1.1 < (a0.branches.length : Int)))) rfl (fun c6 => ?_) (fun c6 => ?_)
 replace h1 := Qk c6 h1
 refine Qj <| Q3 <| Q5 <| Qf <| Q5 <| Q0 ?_
 refine Qb h1 (fun x7 hx7 h1 => ?_)
 refine Ue rfl rfl rfl (Qq (α := UO) Kx rfl (.d _) rfl hx7) <| Ue rfl rfl rfl (Qv (x7 : UO) ag_101 rfl) <| Q9 rfl rfl (Um rfl) (Qm z_101 rfl) <| Qy rfl rfl (QC (x7 : UO) ag_101 rfl rfl rfl rfl rfl) <| Q4 <| Q3 <| Q5 ?_
 refine QS (fun (v8 : Bool × Bool × Bool × (Qa UN Bool) × (List UN)) => ⟨[(3, .v (.one (.ptr 10 0))), (17, .v (.one (Uv a0.branches))), (18, .v (.one (Ux (a0.branches.length : Int)))), (19, .v (.one (Ux s1.1))), (29, .v (.one (.ptr 11 1))), (30, .v (.one (Uy x7.absurd))), (31, .v (.one (Uy (!x7.absurd)))), (32, .v (.one (Uy v8.1))), (38, .v (.one (Uy v8.2.1))), (39, .v (.one (Uy v8.2.2.1)))], [(0, Kr), (1, .obj (.deferred (some []))), (2, .cells 80 [.mp 3]), (3, .mp (QO v8.2.2.2.1.1) v8.2.2.2.1.2), (4, .cells 51 [Uz 5 v8.2.2.2.2]), (6, .cells 31 [Uz 7 a3]), (8, .cells 45 (UA a4)), (9, .cells 74 (UA a0)), (10, .cells 103 [.yld 0]), (11, .cells 101 (UA x7))], [(5, some ⟨9, 1, (Enc.encL v8.2.2.2.2).length, []⟩), (7, some ⟨33, 5, (Enc.encL a3).length, []⟩)], 12, 41, []⟩) (fun (v8 : Bool × Bool × Bool × (Qa UN Bool) × (List UN)) => (cond v8.2.2.1
     (some (.done (.inr (false, v8.2.2.2.1, v8.2.2.2.2))))
     (some (.next ((Jk (s1.1 + 1)), v8.2.2.2.1, v8.2.2.2.2)))) = some oo1) ?_ ?_
 refine Qb h1 (fun w2_ h2 h1 => ?_)
 refine Q0 <| Ue rfl rfl rfl (Q6 ag_103 rfl rfl rfl) <| Ue rfl rfl rfl (Q1 GQ rfl) <| Ue rfl rfl rfl (Q6 JG rfl rfl rfl) ?_
 refine Qb h2 (fun y9 h3 h2 => ?_)
 have ha10 : ExecOK Try.prog (some 0) Z4 ⟨[(3, .v (.one (.ptr 2 0))), (6, .v (.one (.ptr 4 0))), (20, .v (.one (.fn 57 [(6, 0), (8, 0)]))), (21, .v (.one (Jl x7.ctor)))], m59f13_h1 s1 a3 a4 a0 x7, [(5, some ⟨9, 1, (Enc.encL s1.2.2).length, []⟩), (7, some ⟨33, 5, (Enc.encL a3).length, []⟩)], 12, 33, []⟩ .normal ⟨[(3, .v (.one (.ptr 2 0))), (6, .v (.one (.ptr 4 0))), (7, .v (.one (Jl x7.ctor)))], m59f13_h1 s1 a3 a4 a0 x7, [(5, some ⟨9, 1, (Enc.encL s1.2.2).length, []⟩), (7, some ⟨33, 5, (Enc.encL a3).length, []⟩)], 12, 33, []⟩ := by
  refine QI (fun w0 M V0 ro n Q hv3 hro3 hQn3 => ?_)
  refine Q0 <| Ug rfl rfl rfl <| Q4 ?_
  exact Jr hQn3 (Qu (Ua rfl) (hA rfl) (Uo rfl) rfl (Nat.le_trans hv3 (Um rfl)) rfl rfl rfl (UF rfl rfl (UF rfl rfl (UF rfl rfl (UE rfl (UG rfl))))) rfl rfl)
 have hb11 : ExecOK Try.prog (some 0) Z3 ⟨[(3, .v (.one (.ptr 2 0))), (6, .v (.one (.ptr 4 0))), (7, .v (.one (Jl x7.ctor)))], m59f13_h3 s1 a3 a4 a0 x7, [(5, some ⟨9, 1, (Enc.encL s1.2.2).length, []⟩), (7, some ⟨33, 5, (Enc.encL a3).length, []⟩)], 12, 33, []⟩ .normal ⟨[], m59f13_h4 y9 a3 a4 a0 x7, [(5, some ⟨9, 1, (Enc.encL y9.2).length, []⟩), (7, some ⟨33, 5, (Enc.encL a3).length, []⟩)], 12, 33, []⟩ := by
  refine QI (fun w0 M V0 ro n Q hv3 hro3 hQn3 => ?_)
  refine Qf <| Q5 <| Q0 <| Ue rfl rfl rfl (Q6 GT rfl rfl rfl) <| Uf rfl rfl rfl <| Ue rfl rfl rfl (YP (M := s1.2.1) (k := x7.ctor) Gy Gw rfl rfl rfl) <| Ue rfl rfl rfl (Jb rfl) <| Q4 <| Q3 ?_
  refine Qg (b := (!(Qp s1.2.1 x7.ctor))) rfl (fun c12 => ?_) (fun c12 => ?_)
  replace h3 := Qk c12 h3
  refine Q5 <| Q0 <| Ue rfl rfl rfl (Q6 GT rfl rfl rfl) <| Uf rfl rfl rfl <| Qy rfl rfl (Je (M := s1.2.1) (k := x7.ctor) (v := true) Gy rfl rfl rfl rfl rfl) <| Q4 <| Q3 <| Q0 <| Ue rfl rfl rfl (Q6 Xb rfl rfl rfl) <| Uf rfl rfl rfl <| Q9 rfl rfl (Um rfl) (Jt (α := UN) (x7.ctor) Ju Wo rfl rfl (Um rfl) (Um rfl) rfl rfl (.cons (.d _) .nil) rfl) ?_
  refine JC h3 (fun g13 h3 => ?_)
  refine Q9 rfl rfl (Um rfl) (Jh (α := UN) Ju KN rfl rfl rfl rfl rfl (.app _ _) g13) <| Qy rfl rfl (Qr Xb rfl rfl rfl rfl (Um rfl) rfl) <| Q4 <| Qe ?_
  have e := Uc h3; subst e
  exact Jr hQn3 (Qu U9 (hA rfl) (Uo rfl) rfl (Nat.le_trans hv3 (Um rfl)) rfl rfl rfl (UF rfl rfl (UF rfl rfl (UF rfl rfl (UE rfl (UG rfl))))) rfl rfl)
  replace h3 := Ql c12 h3
  refine Qj <| Qe ?_
  have e := Uc h3; subst e
  exact Jr hQn3 (Qu U9 (hA rfl) (Uo rfl) rfl (Nat.le_trans hv3 (Um rfl)) rfl rfl rfl (UF rfl rfl (UF rfl rfl (UF rfl rfl (UE rfl (UG rfl))))) rfl rfl)
 refine Q9 rfl rfl (Um rfl) (Jc (jump := none) rfl rfl rfl rfl rfl (Qw ha10 (fun E hv => (Qu (Ua rfl) (hA rfl) (Uo rfl) rfl (Nat.le_trans hv (Um rfl)) rfl rfl rfl (UF rfl rfl (UF rfl rfl (UF rfl rfl (UE rfl (UG rfl))))) rfl rfl))) rfl (Qw hb11 (fun E hv => (Qu (Ua rfl) (hA rfl) (Uo rfl) rfl (Nat.le_trans hv (Um rfl)) rfl rfl rfl (UF rfl rfl (UF rfl rfl (UF rfl rfl (UE rfl (UG rfl))))) rfl rfl))) rfl rfl) ?_
 refine Ue rfl rfl rfl (Jb rfl) <| Uf rfl rfl rfl <| Ue rfl rfl rfl (Q1 fo_101_1 rfl) <| Ue rfl rfl rfl (Q6 WC rfl rfl rfl) <| Ue rfl rfl rfl (Jb rfl) <| Uf rfl rfl rfl ?_
 refine QG (d := 32) (c := (!x7.absurd)) rfl (fun c14 => ?_) (fun c14 => ?_)
 replace h2 := Qk c14 h2
 refine Ue rfl rfl rfl (Q1 GP rfl) <| Ue rfl rfl rfl (Qi X9 rfl rfl rfl rfl) <| Ue rfl rfl rfl (Q6 ag_103 rfl rfl rfl) ?_
 refine Qb h2 (fun x15 hx15 h2 => ?_)
 refine Q9 rfl rfl (Um rfl) (J4 (hp1' := [(0, .loop .ready none [(3, .v (.one (.ptr 2 0))), (6, .v (.one (.ptr 4 0))), (20, .v (.one (.fn 57 [(6, 0), (8, 0)])))] 33 #[21] Z4 Z3 1), (1, .obj (.deferred (some []))), (2, .cells 80 [.mp 3]), (3, .mp (QO x15.2.1.1) x15.2.1.2), (4, .cells 51 [Uz 5 x15.2.2]), (6, .cells 31 [Uz 7 a3]), (8, .cells 45 (UA a4))]) (tk1' := [(5, some ⟨9, 1, (Enc.encL x15.2.2).length, []⟩), (7, some ⟨33, 5, (Enc.encL a3).length, []⟩)]) (hpF := m59f13_h5 a0 x7) (tkF := []) (res2 := QD [.one (Uy x15.1)]) (nx2 := 14) [0, 1, 2, 3, 4, 5, 6, 7, 8] rfl rfl (H x7.tree y9.1 y9.2 a3 a4 x15 hx15) rfl rfl (Uj rfl rfl (Uj rfl rfl (Uj rfl rfl (Ui rfl (Uj rfl rfl (Uj rfl rfl (Uj rfl rfl Uh))))))) rfl rfl (Ut rfl (Ut rfl (Ut rfl (Uu rfl (Ut rfl (Ut rfl (Ut rfl Us))))))) (Uq rfl (Uq rfl Up)) (hA rfl) Un rfl rfl rfl rfl rfl (UF rfl rfl (UF rfl rfl (UF rfl rfl (UE rfl (UG rfl))))) rfl rfl rfl rfl) <| Ue rfl rfl rfl (Jb rfl) <| Ue rfl rfl rfl (Qh rfl rfl) <| Ue rfl rfl rfl (Qd rfl rfl) <| Q4 ?_
 have e := Uc h2; subst e
 exact Qc (true, (!x15.1), (!x15.1), x15.2.1, x15.2.2) (Qu (Ua rfl) (hA rfl) (Uo rfl) rfl (Nat.le_trans hv0 (Um rfl)) rfl rfl rfl (UF rfl rfl (UF rfl rfl (UF rfl rfl (UE rfl (UG rfl))))) rfl rfl) h1
 replace h2 := Ql c14 h2
 refine Q8 rfl rfl <| Q8 rfl rfl <| Q8 rfl rfl <| Q8 rfl rfl <| Q8 rfl rfl <| Ue rfl rfl rfl (Qd rfl rfl) <| Ue rfl rfl rfl (Qd rfl rfl) <| Q4 ?_
 have e := Uc h2; subst e
 exact Qc (false, false, false, y9.1, y9.2) (Qu (Ua rfl) (hA rfl) (Uo rfl) rfl (Nat.le_trans hv0 (Um rfl)) rfl rfl rfl (UF rfl rfl (UF rfl rfl (UF rfl rfl (UE rfl (UG rfl))))) rfl rfl) h1
 intro v8 h1
 refine Q3 ?_
 refine Qg (b := v8.2.2.1) rfl (fun c16 => ?_) (fun c16 => ?_)
 replace h1 := Qk c16 h1
 refine Q5 <| Q0 <| Ug rfl rfl rfl <| Q4 <| Q3 <| QA ?_
 have e := Uc h1; subst e
 have e_ : _ = _ := ho1
 subst e_
 try dsimp only [Sum.elim_inl, Sum.elim_inr] at h0
 have e := Uc h0; subst e
 exact hQ0 _ _ _ (.inr rfl) rfl (Qu (Ua rfl) (hA rfl) (Uo rfl) rfl (Nat.le_trans hv0 (Um rfl)) rfl rfl rfl (UF rfl rfl (UF rfl rfl (UF rfl rfl (UE rfl (UG rfl))))) rfl rfl)
 replace h1 := Ql c16 h1
 refine Qj <| Qe <| Q3 <| Q0 <| Ue rfl rfl rfl (Q7 rfl rfl rfl) <| Uf rfl rfl rfl <| Q4 ?_
 have e := Uc h1; subst e
 refine QM ((Jk (s1.1 + 1)), v8.2.2.2.1, v8.2.2.2.2) (Qu (Ua rfl) (hA rfl) (Uo rfl) rfl (Nat.le_trans hv0 (Um rfl)) rfl rfl rfl (UF rfl rfl (UF rfl rfl (UF rfl rfl (UE rfl (UG rfl))))) rfl rfl) ho1
 replace h1 := Ql c6 h1
 refine J1 <| Qn <| Qn ?_
 have e := Uc h1; subst e
 have e_ : _ = _ := ho1
 subst e_
 exact QP (s1.2.1, s1.2.2) (Qu U9 (hA rfl) (Uo rfl) rfl (Nat.le_trans hv0 (Um rfl)) rfl rfl rfl (UF rfl rfl (UF rfl rfl (UF rfl rfl (UE rfl (UG rfl))))) rfl rfl) h0
 intro o4 h0
 refine QF <| Q3 <| Q5 <| Q0 <| Ug rfl rfl rfl <| Q4 <| Q3 <| QA ?_
 have e := Uc h0; subst e
 exact hQ0 _ _ _ (.inr rfl) rfl (Qu (Ua rfl) (hA rfl) (Uo rfl) rfl (Nat.le_trans hv0 (Um rfl)) rfl rfl rfl (UF rfl rfl (UF rfl rfl (UF rfl rfl (UE rfl (UG rfl))))) rfl rfl)
theorem m59f13_all (n : Nat) (u : Tr × (Qa UN Bool) × (List UN) × (List Tm) × Dcl) (r : (Bool × (Qa UN Bool) × (List UN))) (h0 : Yt XD n u = some r) : CallM Try.prog 59 [.agg (UA u.1), .one (.yld 0)] ⟨G3 u.2.1 u.2.2.1 u.2.2.2.1 u.2.2.2.2, [(5, some ⟨9, 1, (Enc.encL u.2.2.1).length, []⟩), (7, some ⟨33, 5, (Enc.encL u.2.2.2.1).length, []⟩)], 9⟩ (QD [.one (Uy r.1)]) ⟨Kq r u.2.2.2.1 u.2.2.2.2, [(5, some ⟨9, 1, (Enc.encL r.2.2).length, []⟩), (7, some ⟨33, 5, (Enc.encL u.2.2.2.1).length, []⟩)], 11⟩ :=
 YB (C := fun u r => CallM Try.prog 59 [.agg (UA u.1), .one (.yld 0)] ⟨G3 u.2.1 u.2.2.1 u.2.2.2.1 u.2.2.2.2, [(5, some ⟨9, 1, (Enc.encL u.2.2.1).length, []⟩), (7, some ⟨33, 5, (Enc.encL u.2.2.2.1).length, []⟩)], 9⟩ (QD [.one (Uy r.1)]) ⟨Kq r u.2.2.2.1 u.2.2.2.2, [(5, some ⟨9, 1, (Enc.encL r.2.2).length, []⟩), (7, some ⟨33, 5, (Enc.encL u.2.2.2.1).length, []⟩)], 11⟩) (fun rc H u r h => m59f13s_ok rc (fun a0 a1 a2 a3 a4 r h => H (a0, a1, a2, a3, a4) r h) u.1 u.2.1 u.2.2.1 u.2.2.2.1 u.2.2.2.2 r h) n u r h0
theorem m59f13_ok (a0 : Tr) (a1 : Qa UN Bool) (a2 : List UN) (a3 : List Tm) (a4 : Dcl) (r : (Bool × (Qa UN Bool) × (List UN))) (h0 : m59f13 a0 a1 a2 a3 a4 = some r) : CallM Try.prog 59 [.agg (UA a0), .one (.yld 0)] ⟨G3 a1 a2 a3 a4, [(5, some ⟨9, 1, (Enc.encL a2).length, []⟩), (7, some ⟨33, 5, (Enc.encL a3).length, []⟩)], 9⟩ (QD [.one (Uy r.1)]) ⟨Kq r a3 a4, [(5, some ⟨9, 1, (Enc.encL r.2.2).length, []⟩), (7, some ⟨33, 5, (Enc.encL a3).length, []⟩)], 11⟩ := m59f13_all J2 (a0, a1, a2, a3, a4) r h0
def Xm (x1 : (List UN)) (s1 : Int × (Qa UN Bool)) : Option (LO (Int × (Qa UN Bool)) (((Qa UN Bool)))) :=
 cond (decide (s1.1 < (x1.length : Int)))
   (Option.bind (Yi x1 s1.1) fun (x4 : UN) =>
 some (.next ((Jk (s1.1 + 1)), (J5 s1.2 x4 true))))
   (some (.done s1.2))
def GE (a0 : Dcl) (s2 : Int × (List Tm)) : Option (LO (Int × (List Tm)) (((List Tm)))) :=
 cond (decide (s2.1 < (a0.ctors.length : Int)))
   (Option.bind (Yi a0.ctors s2.1) fun (x7 : Ctr) =>
 J8 (Nat.ble (s2.2.length + 1) 1000000000)
 (some (.next ((Jk (s2.1 + 1)), (s2.2 ++ [x7.ty])))))
   (some (.done s2.2))
def Gl (a0 : Dcl) (s2 : Int × (List Tm)) : Option (LO (Int × (List Tm)) (((List Tm)))) :=
 cond (decide (s2.1 < (a0.funs.length : Int)))
   (Option.bind (Yi a0.funs s2.1) fun (x10 : Fn) =>
 J8 (Nat.ble (s2.2.length + 1) 1000000000)
 (some (.next ((Jk (s2.1 + 1)), (s2.2 ++ [x10.ty])))))
   (some (.done s2.2))
def Xl (x22 : (List UN)) (s3 : Int × (Qa UN Bool) × (List UN)) : Option (LO (Int × (Qa UN Bool) × (List UN)) (((Qa UN Bool) × (List UN)))) :=
 cond (decide (s3.1 < (x22.length : Int)))
   (Option.bind (Yi x22 s3.1) fun (x25 : UN) =>
 Option.bind (cond (!(Qp s3.2.1 x25))
   (J8 (Nat.ble (s3.2.2.length + ([x25]).length) 1000000000)
 (some ((J5 s3.2.1 x25 true), (s3.2.2 ++ ([x25])))))
   (some (s3.2.1, s3.2.2))) (fun (y26 : (Qa UN Bool) × (List UN)) => some (.next ((Jk (s3.1 + 1)), y26.1, y26.2))))
   (some (.done (s3.2.1, s3.2.2)))
def Xk (y3 : (List Tm)) (s2 : Int × (Qa UN Bool) × (List UN)) : Option (LO (Int × (Qa UN Bool) × (List UN)) (((Qa UN Bool) × (List UN)))) :=
 cond (decide (s2.1 < (y3.length : Int)))
   (Option.bind (Yi y3 s2.1) fun (x21 : Tm) =>
 Option.bind (U0 x21) fun (x22 : (List UN)) =>
 Option.bind (QV (Xl x22) J2 (0, s2.2.1, s2.2.2)) (fun (o23 : (Qa UN Bool) × (List UN)) => some (.next ((Jk (s2.1 + 1)), o23.1, o23.2))))
   (some (.done (s2.2.1, s2.2.2)))
def GD (a0 : Dcl) (y3 : (List Tm)) (s2 : Int × (Qa UN Bool) × (List UN)) : Option (LO (Int × (Qa UN Bool) × (List UN)) (((Qa UN Bool) × (List UN)) ⊕ (((Qa UN Bool) × (List UN))))) :=
 cond (decide (s2.1 < (a0.funs.length : Int)))
   (Option.bind (Yi a0.funs s2.1) fun (x22 : Fn) =>
 Option.bind (m59f13 x22.tree s2.2.1 s2.2.2 y3 a0) fun (x23 : (Bool × (Qa UN Bool) × (List UN))) =>
 cond (!x23.1)
   (some (.done (.inr (x23.2.1, x23.2.2))))
   (some (.next ((Jk (s2.1 + 1)), x23.2.1, x23.2.2))))
   (some (.done (.inl (s2.2.1, s2.2.2))))
noncomputable abbrev m24_h0 (p0_ : Dcl) (p1_ : (Qa UN Bool)) : List (Nat × HB) :=
 [(0, .cells 45 (UA p0_)), (1, .mp (QO p1_.1) p1_.2), (2, .cells 80 [.mp 1]), (3, .cells 51 [Uw])]
noncomputable abbrev m24_h1 (p0_ : Dcl) (p1_ : (Qa UN Bool)) (p2_ : (List Tm)) : List (Nat × HB) :=
 [(0, .cells 45 (UA p0_)), (1, .mp (QO p1_.1) p1_.2), (2, .cells 80 [.mp 1]), (3, .cells 51 [Uw]), (4, .cells 45 (UA p0_)), (6, .cells 31 [Uz 5 p2_])]
noncomputable abbrev m24_h2 (p0_ : Int × (List Tm)) : HB :=
 .cells 31 [.apv 5 5 ((Enc.encL p0_.2).length + 1) (Enc.encL p0_.2)]
noncomputable abbrev m24_h3 (p0_ : Dcl) (p1_ : (Qa UN Bool)) (p2_ : Int × (List Tm)) (p3_ : Ctr) : List (Nat × HB) :=
 [(0, .cells 45 (UA p0_)), (1, .mp (QO p1_.1) p1_.2), (2, .cells 80 [.mp 1]), (3, .cells 51 [Uw]), (4, .cells 45 (UA p0_)), (6, m24_h2 p2_), (7, .cells 71 (UA p3_))]
noncomputable abbrev m24_h4 (p0_ : (List Tm)) (p1_ : Dcl) : HB :=
 .cells 31 [Uz 5 (((p0_ ++ ([p1_.rcr.ty])) ++ p1_.rcr.rules) : List Tm)]
noncomputable abbrev m24_h5 (p0_ : Dcl) (p1_ : (Qa UN Bool)) (p2_ : (List Tm)) : List (Nat × HB) :=
 [(0, .cells 45 (UA p0_)), (1, .mp (QO p1_.1) p1_.2), (2, .cells 80 [.mp 1]), (3, .cells 51 [Uw]), (4, .cells 45 (UA p0_)), (6, m24_h4 p2_ p0_)]
noncomputable abbrev m24_h6 (p0_ : Dcl) (p1_ : (Qa UN Bool)) (p2_ : Int × (List Tm)) (p3_ : Fn) : List (Nat × HB) :=
 [(0, .cells 45 (UA p0_)), (1, .mp (QO p1_.1) p1_.2), (2, .cells 80 [.mp 1]), (3, .cells 51 [Uw]), (4, .cells 45 (UA p0_)), (6, m24_h2 p2_), (7, .cells 76 (UA p3_))]
noncomputable abbrev m24_h7 (p0_ : Dcl) (p1_ : (Qa UN Bool)) (p2_ : (List Tm)) : List (Nat × HB) :=
 [(0, .cells 45 (UA p0_)), (1, .mp (QO p1_.1) p1_.2), (2, .cells 80 [.mp 1]), (3, .cells 51 [Uz 7 ([] : List UN)]), (4, .cells 45 (UA p0_)), (6, .cells 31 [Uz 5 p2_])]
noncomputable abbrev GF  : HB :=
 .loop .ready none [(3, .v (.one (.ptr 2 0))), (6, .v (.one (.ptr 3 0))), (20, .v (.one (.fn 57 [(6, 0), (4, 0)])))] 33 #[21] Z4 Z3 8
noncomputable abbrev m24_h9 (p0_ : Dcl) (p1_ : (Qa UN Bool) × (List UN)) (p2_ : (List Tm)) : List (Nat × HB) :=
 [(0, .cells 45 (UA p0_)), (1, .mp (QO p1_.1.1) p1_.1.2), (2, .cells 80 [.mp 1]), (3, .cells 51 [Uz 7 p1_.2]), (4, .cells 45 (UA p0_)), (6, .cells 31 [Uz 5 p2_]), (8, .obj (.deferred (some []))), (9, GF)]
noncomputable abbrev m24_h10 (p0_ : Dcl) (p1_ : Int × (Qa UN Bool) × (List UN)) (p2_ : (List Tm)) (p3_ : Tm) : List (Nat × HB) :=
 [(0, .cells 45 (UA p0_)), (1, .mp (QO p1_.2.1.1) p1_.2.1.2), (2, .cells 80 [.mp 1]), (3, .cells 51 [Uz 7 p1_.2.2]), (4, .cells 45 (UA p0_)), (6, .cells 31 [Uz 5 p2_]), (8, .obj (.deferred (some []))), (9, GF), (10, .cells 33 (UA p3_))]
noncomputable abbrev m24_h11  : HB :=
 .loop .busy none [(3, .v (.one (.ptr 2 0))), (6, .v (.one (.ptr 3 0))), (20, .v (.one (.fn 57 [(6, 0), (4, 0)])))] 33 #[21] Z4 Z3 8
noncomputable abbrev m24_h12 (p0_ : Dcl) (p1_ : Int × (Qa UN Bool) × (List UN)) (p2_ : (List Tm)) (p3_ : Tm) : List (Nat × HB) :=
 [(0, .cells 45 (UA p0_)), (1, .mp (QO p1_.2.1.1) p1_.2.1.2), (2, .cells 80 [.mp 1]), (3, .cells 51 [Uz 7 p1_.2.2]), (4, .cells 45 (UA p0_)), (6, .cells 31 [Uz 5 p2_]), (8, .obj (.deferred (some []))), (9, m24_h11), (10, .cells 33 (UA p3_))]
noncomputable abbrev m24_h13 (p0_ : Dcl) (p1_ : (Qa UN Bool) × (List UN)) (p2_ : (List Tm)) (p3_ : Tm) : List (Nat × HB) :=
 [(0, .cells 45 (UA p0_)), (1, .mp (QO p1_.1.1) p1_.1.2), (2, .cells 80 [.mp 1]), (3, .cells 51 [Uz 7 p1_.2]), (4, .cells 45 (UA p0_)), (6, .cells 31 [Uz 5 p2_]), (8, .obj (.deferred (some []))), (9, m24_h11), (10, .cells 33 (UA p3_))]
def U2 (a0 : Dcl) : Option ((List UN)) :=
 Option.bind (WT a0) fun (x1 : (List UN)) =>
 Option.bind (QV (Xm x1) J2 (0, gmNil)) (fun (o2 : (Qa UN Bool)) => Option.bind (Option.bind (QV (GE a0) J2 (0, [a0.ty, a0.value])) (fun (o5 : (List Tm)) => J8 (Nat.ble (o5.length + ([a0.rcr.ty]).length) 1000000000)
 (J8 (Nat.ble ((o5 ++ ([a0.rcr.ty])).length + a0.rcr.rules.length) 1000000000)
 (Option.bind (QV (Gl a0) J2 (0, ((o5 ++ ([a0.rcr.ty])) ++ a0.rcr.rules))) (fun (o8 : (List Tm)) => some o8))))) (fun (y3 : (List Tm)) => Option.bind (Option.bind (QV (Xk y3) J2 (0, o2, [])) (fun (o19 : (Qa UN Bool) × (List UN)) => Option.bind (QV (GD a0 y3) J2 (0, o19.1, o19.2)) (Sum.elim (fun (o20 : (Qa UN Bool) × (List UN)) => some (o20.1, o20.2)) (fun o => some o)))) (fun (y17 : (Qa UN Bool) × (List UN)) => some y17.2)))
set_option maxRecDepth 100000 in
set_option maxHeartbeats 2000000 in
theorem m24_ok (a0 : Dcl) (r : (List UN)) (h0 : U2 a0 = some r) : Fun Try.prog 24 [.agg (UA a0)] (QD [.one (Uv r)]) := by
 unfold U2 at h0
 refine QY 9 33 Try.func24 rfl en_24 rfl (Um rfl) (fun S w => ?_)
 simp only [J7]
 refine Q5 <| Q0 <| Q9 rfl rfl (Um rfl) (QN rfl) <| Ug rfl rfl rfl <| Q4 <| Q3 <| Q5 <| Q0 <| Q9 rfl rfl (Um rfl) (YX UN Bool) <| Q9 rfl rfl (Um rfl) (Qm z_80 rfl) <| Qy rfl rfl (Qr GT rfl rfl rfl rfl (Um rfl) rfl) <| Q4 <| Q3 <| Q5 ?_
 refine Q5 <| Q0 <| Ue rfl rfl rfl (QK (a0 : Dcl) JS rfl rfl) ?_
 refine Qb h0 (fun x1 hx1 h0 => ?_)
 refine Q9 rfl rfl (Um rfl) (Qo (m20_ok a0 x1 hx1) rfl (.cons (.agg (.cons (.d _) (.cons (.d _) (.cons (.d _) (.cons (.d _) (.cons (.d _) (.cons (.d _) (.cons (.d _) (.cons (.d _) (.cons (.d _) (.cons (.d _) (.cons (.d _) (.cons (.d _) (.cons (.d _) (.cons (.d _) (.cons (.d _) (.cons (.d _) (.cons (.d _) (.cons (.d _) (.cons (.d _) (.cons (.d _) (.cons (.d _) (.cons (.d _) (.cons (.d _) .nil)))))))))))))))))))))))) .nil)) <| Ue rfl rfl rfl (Qx (α := UN) Ju rfl (.d _)) <| Uf rfl rfl rfl <| Q4 <| Q3 <| Qf ?_
 refine QR 0 (fun (o2 : (Qa UN Bool)) => ⟨[(1, .v (.one (.ptr 0 0))), (3, .v (.one (.ptr 2 0)))], [(0, .cells 45 (UA a0)), (1, .mp (QO o2.1) o2.2), (2, .cells 80 [.mp 1])], [], 3, 33, []⟩) (fun (o2 : (Qa UN Bool)) => (Option.bind (Option.bind (QV (GE a0) J2 (0, [a0.ty, a0.value])) (fun (o5 : (List Tm)) => J8 (Nat.ble (o5.length + ([a0.rcr.ty]).length) 1000000000)
   (J8 (Nat.ble ((o5 ++ ([a0.rcr.ty])).length + a0.rcr.rules.length) 1000000000)
   (Option.bind (QV (Gl a0) J2 (0, ((o5 ++ ([a0.rcr.ty])) ++ a0.rcr.rules))) (fun (o8 : (List Tm)) => some o8))))) (fun (y3 : (List Tm)) => Option.bind (Option.bind (QV (Xk y3) J2 (0, o2, [])) (fun (o19 : (Qa UN Bool) × (List UN)) => Option.bind (QV (GD a0 y3) J2 (0, o19.1, o19.2)) (Sum.elim (fun (o20 : (Qa UN Bool) × (List UN)) => some (o20.1, o20.2)) (fun o => some o)))) (fun (y17 : (Qa UN Bool) × (List UN)) => some y17.2))) = some r) ?_ ?_
 refine Qb h0 (fun o3 hl1 h0 => ?_)
 refine QQ (Xm x1) (fun s1 => ⟨[(1, .v (.one (.ptr 0 0))), (3, .v (.one (.ptr 2 0))), (10, .v (.one (Uv x1))), (11, .v (.one (Ux (x1.length : Int)))), (12, .v (.one (Ux s1.1)))], [(0, .cells 45 (UA a0)), (1, .mp (QO s1.2.1) s1.2.2), (2, .cells 80 [.mp 1])], [], 3, 33, []⟩) (0, gmNil) o3 (Qu (Ua rfl) (hA rfl) Un rfl (Nat.zero_le _) rfl rfl rfl (UF rfl rfl (UE rfl (UG rfl))) rfl rfl) hl1 (fun s1 n1 oo1 h1 ho1 => ?_)
 unfold Xm at h1
 refine Q5 <| Q0 <| Ue rfl rfl rfl (Q7 rfl rfl rfl) <| Q4 <| Q3 <| Q5 ?_
 refine Qg (b := (decide (s1.1 < (x1.length : Int)))) rfl (fun c4 => ?_) (fun c4 => ?_)
 replace h1 := Qk c4 h1
 refine Qj <| Q3 <| Q5 <| Qf <| Q5 <| Q0 ?_
 refine Qb h1 (fun x5 hx5 h1 => ?_)
 refine Ue rfl rfl rfl (Qq (α := UN) Ju rfl (.d _) rfl hx5) <| Ue rfl rfl rfl (Js JG rfl rfl) <| Ug rfl rfl rfl <| Q4 <| Q3 <| Q0 <| Ue rfl rfl rfl (Q6 GT rfl rfl rfl) <| Uf rfl rfl rfl <| Qy rfl rfl (Je (M := s1.2) (k := x5) (v := true) Gy rfl rfl rfl rfl rfl) <| Q4 <| Qe <| Q3 <| Q0 <| Ue rfl rfl rfl (Q7 rfl rfl rfl) ?_
 refine Uf rfl rfl rfl <| Q4 ?_
 have e := Uc h1; subst e
 refine QM ((Jk (s1.1 + 1)), (J5 s1.2 x5 true)) (Qu (Ua rfl) (hA rfl) Un rfl (Nat.zero_le _) rfl rfl rfl (UF rfl rfl (UE rfl (UG rfl))) rfl rfl) ho1
 replace h1 := Ql c4 h1
 refine J1 <| Qn <| Qn ?_
 have e := Uc h1; subst e
 have e_ : _ = _ := ho1
 subst e_
 exact QP s1.2 (Qu (Ua rfl) (hA rfl) Un rfl (Nat.zero_le _) rfl rfl rfl (UF rfl rfl (UE rfl (UG rfl))) rfl rfl) h0
 intro o2 h0
 refine QF <| Q3 <| Q5 <| Q0 <| Q9 rfl rfl (Um rfl) (Qm z_51 rfl) <| Q4 <| Q3 <| Q5 <| Q5 <| Q0 <| Ue rfl rfl rfl (QK (a0 : Dcl) JS rfl rfl) ?_
 refine Qb h0 (fun y6 h1 h0 => ?_)
 have hc7 : CallM Try.prog 39 [.agg (UA a0)] ⟨m24_h0 a0 o2, [], 4⟩ (QD [.one (.fn 57 [(6, 0), (4, 0)])]) ⟨m24_h1 a0 o2 y6, [(5, some ⟨33, 5, (Enc.encL y6).length, []⟩)], 7⟩ := by
  refine QT ⟨[(2, .v (.one (.fn 57 [(6, 0), (4, 0)])))], m24_h1 a0 o2 y6, [(5, some ⟨33, 5, (Enc.encL y6).length, []⟩)], 7, 54, []⟩ rfl rfl en_39 (Um rfl) rfl (Qz rfl .nil) (fun w0 M V0 Q hv1 hQ1 => ?_)
  simp only [J7]
  refine Q5 <| Q0 <| Q9 rfl rfl (Um rfl) (QN rfl) <| Ug rfl rfl rfl <| Q4 <| Q3 <| Q5 <| Q0 <| Ue rfl rfl rfl (Q1 K4 rfl) <| Ue rfl rfl rfl (Qi QW rfl rfl rfl rfl) <| Ue rfl rfl rfl (Q1 X1 rfl) <| Ue rfl rfl rfl (Qi QW rfl rfl rfl rfl) <| Q9 rfl rfl (Um rfl) (OpOK.lit2E (α := Tm) a0.ty a0.value Ji ZS rfl rfl (Um rfl) (Um rfl) rfl rfl rfl (.cons (.d _) (.cons (.d _) (.cons (.d _) (.cons (.d _) (.cons (.d _) (.cons (.d _) (.cons (.d _) (.cons (.d _) (.cons (.d _) (.cons (.d _) .nil)))))))))) ⟨rfl, rfl⟩) <| Q9 rfl rfl (Um rfl) (Qm z_31 rfl) ?_
  refine Qy rfl rfl (Qr JH rfl rfl rfl rfl (Um rfl) rfl) <| Q4 <| Q3 <| Q5 <| Q5 <| Q0 <| Ue rfl rfl rfl (Q1 Yc rfl) <| Ue rfl rfl rfl (Q6 Zc rfl rfl rfl) <| Ue rfl rfl rfl (Qx (α := Ctr) Yv rfl (.d _)) <| Uf rfl rfl rfl <| Q4 <| Q3 <| Qf ?_
  refine QR 0 (fun (o8 : (List Tm)) => ⟨[(1, .v (.one (.ptr 4 0))), (3, .v (.one (.ptr 6 0)))], [(0, .cells 45 (UA a0)), (1, .mp (QO o2.1) o2.2), (2, .cells 80 [.mp 1]), (3, .cells 51 [Uw]), (4, .cells 45 (UA a0)), (6, .cells 31 [Uz 5 o8])], [(5, some ⟨33, 5, (Enc.encL o8).length, []⟩)], 7, 54, []⟩) (fun (o8 : (List Tm)) => (J8 (Nat.ble (o8.length + ([a0.rcr.ty]).length) 1000000000)
    (J8 (Nat.ble ((o8 ++ ([a0.rcr.ty])).length + a0.rcr.rules.length) 1000000000)
    (Option.bind (QV (Gl a0) J2 (0, ((o8 ++ ([a0.rcr.ty])) ++ a0.rcr.rules))) (fun (o11 : (List Tm)) => some o11)))) = some y6) ?_ ?_
  refine Qb h1 (fun o9 hl2 h1 => ?_)
  refine QQ (GE a0) (fun s2 => ⟨[(1, .v (.one (.ptr 4 0))), (3, .v (.one (.ptr 6 0))), (14, .v (.one (Uv a0.ctors))), (15, .v (.one (Ux (a0.ctors.length : Int)))), (16, .v (.one (Ux s2.1)))], [(0, .cells 45 (UA a0)), (1, .mp (QO o2.1) o2.2), (2, .cells 80 [.mp 1]), (3, .cells 51 [Uw]), (4, .cells 45 (UA a0)), (6, .cells 31 [Uz 5 s2.2])], [(5, some ⟨33, 5, (Enc.encL s2.2).length, []⟩)], 7, 54, []⟩) (0, [a0.ty, a0.value]) o9 (Qu (Ua rfl) (hA rfl) (Uo rfl) rfl (Nat.le_trans hv1 (Um rfl)) rfl rfl rfl (UF rfl rfl (UE rfl (UG rfl))) rfl rfl) hl2 (fun s2 n2 oo2 h2 ho2 => ?_)
  unfold GE at h2
  refine Q5 <| Q0 <| Ue rfl rfl rfl (Q7 rfl rfl rfl) <| Q4 <| Q3 <| Q5 ?_
  refine Qg (b := (decide (s2.1 < (a0.ctors.length : Int)))) rfl (fun c10 => ?_) (fun c10 => ?_)
  replace h2 := Qk c10 h2
  refine Qj <| Q3 <| Q5 <| Qf <| Q5 <| Q0 ?_
  refine Qb h2 (fun x11 hx11 h2 => ?_)
  refine Ue rfl rfl rfl (Qq (α := Ctr) Yv rfl (.d _) rfl hx11) <| Ue rfl rfl rfl (Qv (x11 : Ctr) ZQ rfl) <| Q9 rfl rfl (Um rfl) (Qm Wj rfl) <| Qy rfl rfl (QC (x11 : Ctr) ZQ rfl rfl rfl rfl rfl) <| Q4 <| Q3 ?_
  refine XC.swRun [5, 7, 8] [[], [5], [5, 7], [5, 7, 8], [5, 8]] [(8, 1), (6, 4), (7, 4)] YI (by kernel_rfl) (by kernel_rfl) (by kernel_rfl) (by kernel_rfl) rfl (by kernel_rfl) ?_
  refine RunA.rd rfl rfl rfl (Q2 (Q6 JH rfl rfl rfl)) rfl <| RunA.rd rfl rfl rfl (Q2 (Q1 K2 rfl)) rfl <| RunA.rd rfl rfl rfl (Q2 (Qi QW rfl rfl rfl rfl)) rfl <| RunA.rd rfl rfl rfl (Q2 (Qx (α := Tm) Ji rfl (.app _ _))) rfl <| RunA.rd rfl rfl rfl (OpOK.data1E (α := Tm) ((Tm.mk 0 0 ([] : List UInt8) ([] : List Lvl) ([] : List Tm))) Ji ZS rfl rfl (Um rfl) rfl rfl (.cons (.d _) (.cons (.d _) (.cons (.d _) (.cons (.nil _) (.cons (.nil _) .nil))))) rfl) rfl ?_
  refine JC h2 (fun g12 h2 => ?_)
  refine RunA.eff rfl rfl rfl (OpOK.appendH (α := Tm) (l := s2.2) (z := (Tm.mk 0 0 ([] : List UInt8) ([] : List Lvl) ([] : List Tm))) Ji Wm rfl rfl rfl rfl (.d _) g12) rfl <| RunA.rd rfl rfl rfl (Q2 (RO.indexP Ji rfl rfl rfl (lt_H (α := Tm) s2.2))) rfl <| RunA.eff rfl rfl rfl (OpOK.storeH (α := Tm) (l := s2.2) (y' := .agg [Ux x11.ty.kind, Ux x11.ty.index, Jl x11.ty.name, Uv x11.ty.levels, Uv x11.ty.kids]) x11.ty QW rfl rfl (.agg (.cons (.d _) (.cons (.d _) (.cons (.d _) (.cons (.d _) (.cons (.d _) .nil)))))) rfl rfl rfl) rfl <| RunA.eff rfl rfl rfl (Qr JH rfl rfl rfl rfl (Um rfl) rfl) rfl ?_
  refine RunA.nil ⟨[_], ⟨⟨_, _, rfl, rfl, _, _, rfl, rfl, rfl, .inl ⟨rfl, _, (Qr JH rfl rfl rfl rfl (Um rfl) rfl), .inl ⟨rfl, 4, _, rfl, rfl, rfl⟩⟩⟩, ⟨⟨_, _, rfl, rfl, _, _, rfl, rfl, rfl, .inl ⟨rfl, _, (Q2 (RO.indexP Ji rfl rfl rfl (lt_H (α := Tm) s2.2))), .inr ⟨rfl, rfl⟩⟩⟩, ⟨⟨_, _, rfl, rfl, _, _, rfl, rfl, rfl, .inl ⟨rfl, _, (OpOK.storeH (α := Tm) (l := s2.2) (y' := .agg [Ux x11.ty.kind, Ux x11.ty.index, Jl x11.ty.name, Uv x11.ty.levels, Uv x11.ty.kids]) x11.ty QW rfl rfl (.agg (.cons (.d _) (.cons (.d _) (.cons (.d _) (.cons (.d _) (.cons (.d _) .nil)))))) rfl rfl rfl), .inl ⟨rfl, 3, _, rfl, rfl, rfl⟩⟩⟩, trivial⟩⟩⟩, _, _, rfl, ?_⟩
  refine JX (st' := ⟨[(1, .v (.one (.ptr 4 0))), (3, .v (.one (.ptr 6 0))), (14, .v (.one (Uv a0.ctors))), (15, .v (.one (Ux (a0.ctors.length : Int)))), (16, .v (.one (Ux s2.1)))], m24_h3 a0 o2 s2 x11, [(5, some ⟨33, 5, (Enc.encL s2.2).length + 1, (Enc.encL ([x11.ty] : List Tm)).flatten⟩)], 8, 54, []⟩) (Qu (Ua rfl) (hA rfl) (Uo rfl) rfl (Nat.le_trans hv1 (Um rfl)) rfl rfl rfl (UF rfl rfl (UE rfl (UG rfl))) rfl rfl) <| XQ.settleC (α := Tm) (b := 6) (off := 0) (l := s2.2) (l2 := [x11.ty]) rfl rfl rfl (n_H _ _) <| Qe <| Q3 <| Q0 <| Ue rfl rfl rfl (Q7 rfl rfl rfl) <| Uf rfl rfl rfl <| Q4 ?_
  have e := Uc h2; subst e
  refine QM ((Jk (s2.1 + 1)), (s2.2 ++ [x11.ty])) (Qu (Ua rfl) (hA rfl) (Uo rfl) rfl (Nat.le_trans hv1 (Um rfl)) rfl rfl rfl (UF rfl rfl (UE rfl (UG rfl))) rfl rfl) ho2
  replace h2 := Ql c10 h2
  refine J1 <| Qn <| Qn ?_
  have e := Uc h2; subst e
  have e_ : _ = _ := ho2
  subst e_
  exact QP s2.2 (Qu (Ua rfl) (hA rfl) (Uo rfl) rfl (Nat.le_trans hv1 (Um rfl)) rfl rfl rfl (UF rfl rfl (UE rfl (UG rfl))) rfl rfl) h1
  intro o8 h1
  refine QF <| Q3 <| Q5 ?_
  refine Jv [5, 9, 10] [(6, 0), (7, 0), (8, 0)] YI (by kernel_rfl) (by kernel_rfl) (by kernel_rfl) ?_
  refine RunA.rd rfl rfl rfl (Q2 (Q6 JH rfl rfl rfl)) rfl <| RunA.rd rfl rfl rfl (Q2 (Q1 JO rfl)) rfl <| RunA.rd rfl rfl rfl (Q2 (Q1 Kl rfl)) rfl <| RunA.rd rfl rfl rfl (Q2 (Qi QW rfl rfl rfl rfl)) rfl <| RunA.rd rfl rfl rfl (OpOK.data1E (α := Tm) (a0.rcr.ty) Ji ZS rfl rfl (Um rfl) rfl rfl (.cons (.d _) (.cons (.d _) (.cons (.d _) (.cons (.d _) (.cons (.d _) .nil))))) rfl) rfl ?_
  refine JC h1 (fun g13 h1 => ?_)
  refine RunA.eff rfl rfl rfl (Jh (α := Tm) Ji Wm rfl rfl rfl rfl rfl (.d _) g13) rfl <| RunA.rd rfl rfl rfl (Q2 (Q1 JO rfl)) rfl <| RunA.rd rfl rfl rfl (Q2 (Q1 ZG rfl)) rfl <| RunA.rd rfl rfl rfl (Q2 (Q6 JH rfl rfl rfl)) rfl ?_
  refine JC h1 (fun g14 h1 => ?_)
  refine RunA.eff rfl rfl rfl (Jh (α := Tm) Ji Wm rfl rfl rfl rfl rfl (.d _) g14) rfl <| RunA.eff rfl rfl rfl (Qr JH rfl rfl rfl rfl (Um rfl) rfl) rfl ?_
  refine RunA.nil ⟨?ex, _, _, rfl, ?_⟩
  case ex => exact ⟨⟨_, rfl, _, _, rfl, rfl, rfl, .inl ⟨rfl, _, Q2 (Q1 JO rfl), rfl⟩⟩, ⟨_, rfl, _, _, rfl, rfl, rfl, .inl ⟨rfl, _, Q2 (Q1 ZG rfl), rfl⟩⟩, ⟨_, rfl, _, _, rfl, rfl, rfl, .inl ⟨rfl, _, Q2 (Q6 JH rfl rfl rfl), rfl⟩⟩, trivial⟩
  refine JX (st' := ⟨[(1, .v (.one (.ptr 4 0))), (3, .v (.one (.ptr 6 0)))], m24_h5 a0 o2 o8, [(5, some ⟨33, 5, (Enc.encL (((o8 ++ ([a0.rcr.ty])) ++ a0.rcr.rules) : List Tm)).length, []⟩)], 7, 54, []⟩) (Qu (Ua rfl) (hA rfl) (Uo rfl) rfl (Nat.le_trans hv1 (Um rfl)) rfl rfl rfl (UF rfl rfl (UE rfl (UG rfl))) rfl rfl) <| Q3 <| Q5 <| Q5 <| Q0 <| Ue rfl rfl rfl (Q1 Y2 rfl) <| Ue rfl rfl rfl (Q6 YZ rfl rfl rfl) <| Ue rfl rfl rfl (Qx (α := Fn) Yk rfl (.d _)) <| Uf rfl rfl rfl <| Q4 <| Q3 <| Qf ?_
  refine QR 2 (fun (o15 : (List Tm)) => ⟨[(1, .v (.one (.ptr 4 0))), (3, .v (.one (.ptr 6 0)))], [(0, .cells 45 (UA a0)), (1, .mp (QO o2.1) o2.2), (2, .cells 80 [.mp 1]), (3, .cells 51 [Uw]), (4, .cells 45 (UA a0)), (6, .cells 31 [Uz 5 o15])], [(5, some ⟨33, 5, (Enc.encL o15).length, []⟩)], 7, 54, []⟩) (fun (o15 : (List Tm)) => (some o15) = some y6) ?_ ?_
  refine Qb h1 (fun o16 hl2 h1 => ?_)
  refine QQ (Gl a0) (fun s2 => ⟨[(1, .v (.one (.ptr 4 0))), (3, .v (.one (.ptr 6 0))), (39, .v (.one (Uv a0.funs))), (40, .v (.one (Ux (a0.funs.length : Int)))), (41, .v (.one (Ux s2.1)))], [(0, .cells 45 (UA a0)), (1, .mp (QO o2.1) o2.2), (2, .cells 80 [.mp 1]), (3, .cells 51 [Uw]), (4, .cells 45 (UA a0)), (6, .cells 31 [Uz 5 s2.2])], [(5, some ⟨33, 5, (Enc.encL s2.2).length, []⟩)], 7, 54, []⟩) (0, ((o8 ++ ([a0.rcr.ty])) ++ a0.rcr.rules)) o16 (Qu (Ua rfl) (hA rfl) (Uo rfl) rfl (Nat.le_trans hv1 (Um rfl)) rfl rfl rfl (UF rfl rfl (UE rfl (UG rfl))) rfl rfl) hl2 (fun s2 n2 oo2 h2 ho2 => ?_)
  unfold Gl at h2
  refine Q5 <| Q0 <| Ue rfl rfl rfl (Q7 rfl rfl rfl) <| Q4 <| Q3 <| Q5 ?_
  refine Qg (b := (decide (s2.1 < (a0.funs.length : Int)))) rfl (fun c17 => ?_) (fun c17 => ?_)
  replace h2 := Qk c17 h2
  refine Qj <| Q3 <| Q5 <| Qf <| Q5 <| Q0 ?_
  refine Qb h2 (fun x18 hx18 h2 => ?_)
  refine Ue rfl rfl rfl (Qq (α := Fn) Yk rfl (.d _) rfl hx18) <| Ue rfl rfl rfl (Qv (x18 : Fn) Zx rfl) <| Q9 rfl rfl (Um rfl) (Qm Wi rfl) <| Qy rfl rfl (QC (x18 : Fn) Zx rfl rfl rfl rfl rfl) <| Q4 <| Q3 ?_
  refine XC.swRun [5, 7, 8] [[], [5], [5, 7], [5, 7, 8], [5, 8]] [(8, 1), (6, 4), (7, 4)] YI (by kernel_rfl) (by kernel_rfl) (by kernel_rfl) (by kernel_rfl) rfl (by kernel_rfl) ?_
  refine RunA.rd rfl rfl rfl (Q2 (Q6 JH rfl rfl rfl)) rfl <| RunA.rd rfl rfl rfl (Q2 (Q1 KT rfl)) rfl <| RunA.rd rfl rfl rfl (Q2 (Qi QW rfl rfl rfl rfl)) rfl <| RunA.rd rfl rfl rfl (Q2 (Qx (α := Tm) Ji rfl (.app _ _))) rfl <| RunA.rd rfl rfl rfl (OpOK.data1E (α := Tm) ((Tm.mk 0 0 ([] : List UInt8) ([] : List Lvl) ([] : List Tm))) Ji ZS rfl rfl (Um rfl) rfl rfl (.cons (.d _) (.cons (.d _) (.cons (.d _) (.cons (.nil _) (.cons (.nil _) .nil))))) rfl) rfl ?_
  refine JC h2 (fun g19 h2 => ?_)
  refine RunA.eff rfl rfl rfl (OpOK.appendH (α := Tm) (l := s2.2) (z := (Tm.mk 0 0 ([] : List UInt8) ([] : List Lvl) ([] : List Tm))) Ji Wm rfl rfl rfl rfl (.d _) g19) rfl <| RunA.rd rfl rfl rfl (Q2 (RO.indexP Ji rfl rfl rfl (lt_H (α := Tm) s2.2))) rfl <| RunA.eff rfl rfl rfl (OpOK.storeH (α := Tm) (l := s2.2) (y' := .agg [Ux x18.ty.kind, Ux x18.ty.index, Jl x18.ty.name, Uv x18.ty.levels, Uv x18.ty.kids]) x18.ty QW rfl rfl (.agg (.cons (.d _) (.cons (.d _) (.cons (.d _) (.cons (.d _) (.cons (.d _) .nil)))))) rfl rfl rfl) rfl <| RunA.eff rfl rfl rfl (Qr JH rfl rfl rfl rfl (Um rfl) rfl) rfl ?_
  refine RunA.nil ⟨[_], ⟨⟨_, _, rfl, rfl, _, _, rfl, rfl, rfl, .inl ⟨rfl, _, (Qr JH rfl rfl rfl rfl (Um rfl) rfl), .inl ⟨rfl, 4, _, rfl, rfl, rfl⟩⟩⟩, ⟨⟨_, _, rfl, rfl, _, _, rfl, rfl, rfl, .inl ⟨rfl, _, (Q2 (RO.indexP Ji rfl rfl rfl (lt_H (α := Tm) s2.2))), .inr ⟨rfl, rfl⟩⟩⟩, ⟨⟨_, _, rfl, rfl, _, _, rfl, rfl, rfl, .inl ⟨rfl, _, (OpOK.storeH (α := Tm) (l := s2.2) (y' := .agg [Ux x18.ty.kind, Ux x18.ty.index, Jl x18.ty.name, Uv x18.ty.levels, Uv x18.ty.kids]) x18.ty QW rfl rfl (.agg (.cons (.d _) (.cons (.d _) (.cons (.d _) (.cons (.d _) (.cons (.d _) .nil)))))) rfl rfl rfl), .inl ⟨rfl, 3, _, rfl, rfl, rfl⟩⟩⟩, trivial⟩⟩⟩, _, _, rfl, ?_⟩
  refine JX (st' := ⟨[(1, .v (.one (.ptr 4 0))), (3, .v (.one (.ptr 6 0))), (39, .v (.one (Uv a0.funs))), (40, .v (.one (Ux (a0.funs.length : Int)))), (41, .v (.one (Ux s2.1)))], m24_h6 a0 o2 s2 x18, [(5, some ⟨33, 5, (Enc.encL s2.2).length + 1, (Enc.encL ([x18.ty] : List Tm)).flatten⟩)], 8, 54, []⟩) (Qu (Ua rfl) (hA rfl) (Uo rfl) rfl (Nat.le_trans hv1 (Um rfl)) rfl rfl rfl (UF rfl rfl (UE rfl (UG rfl))) rfl rfl) <| XQ.settleC (α := Tm) (b := 6) (off := 0) (l := s2.2) (l2 := [x18.ty]) rfl rfl rfl (n_H _ _) <| Qe <| Q3 <| Q0 <| Ue rfl rfl rfl (Q7 rfl rfl rfl) <| Uf rfl rfl rfl <| Q4 ?_
  have e := Uc h2; subst e
  refine QM ((Jk (s2.1 + 1)), (s2.2 ++ [x18.ty])) (Qu (Ua rfl) (hA rfl) (Uo rfl) rfl (Nat.le_trans hv1 (Um rfl)) rfl rfl rfl (UF rfl rfl (UE rfl (UG rfl))) rfl rfl) ho2
  replace h2 := Ql c17 h2
  refine J1 <| Qn <| Qn ?_
  have e := Uc h2; subst e
  have e_ : _ = _ := ho2
  subst e_
  exact QP s2.2 (Qu (Ua rfl) (hA rfl) (Uo rfl) rfl (Nat.le_trans hv1 (Um rfl)) rfl rfl rfl (UF rfl rfl (UE rfl (UG rfl))) rfl rfl) h1
  intro o15 h1
  refine QF <| Q3 <| Q5 <| Q0 <| Ue rfl rfl rfl (ZN rfl rfl) <| Ug rfl rfl rfl <| Q4 <| Q3 <| QA ?_
  have e := Uc h1; subst e
  exact hQ1 _ _ _ (.inr rfl) rfl (Qu (Ua rfl) (hA rfl) (Uo rfl) rfl (Nat.le_trans hv1 (Um rfl)) rfl rfl rfl (UF rfl rfl (UE rfl (UG rfl))) rfl rfl)
 refine Q9 rfl rfl (Um rfl) (JM rfl rfl rfl hc7 rfl (hA rfl) Un) <| Q4 <| Q3 <| Qf <| XC.adoptC (i := 3) (off := 0) 9 1 rfl rfl <| Km (st' := ⟨[(3, .v (.one (.ptr 2 0))), (6, .v (.one (.ptr 3 0))), (20, .v (.one (.fn 57 [(6, 0), (4, 0)])))], m24_h7 a0 o2 y6, [(5, some ⟨33, 5, (Enc.encL y6).length, []⟩), (7, some ⟨9, 1, (Enc.encL ([] : List UN)).length, []⟩)], 8, 33, []⟩) (Qu (Ua rfl) (hA rfl) (Uo rfl) rfl (Nat.zero_le _) rfl rfl rfl (UF rfl rfl (UE rfl (UG rfl))) rfl rfl) ?_
 refine Qb h0 (fun y20 h1 h0 => ?_)
 have hc21 : CallM Try.prog 57 [.one (.yld 9), .one (.ptr 6 0), .one (.ptr 4 0)] ⟨[(9, .loop .ready none [(3, .v (.one (.ptr 2 0))), (6, .v (.one (.ptr 3 0))), (20, .v (.one (.fn 57 [(6, 0), (4, 0)])))] 33 #[21] Z4 Z3 8), (8, .obj (.deferred (some []))), (0, .cells 45 (UA a0)), (1, .mp (QO o2.1) o2.2), (2, .cells 80 [.mp 1]), (3, .cells 51 [Uz 7 ([] : List UN)]), (4, .cells 45 (UA a0)), (6, .cells 31 [Uz 5 y6])], [(5, some ⟨33, 5, (Enc.encL y6).length, []⟩), (7, some ⟨9, 1, (Enc.encL ([] : List UN)).length, []⟩)], 10⟩ (QD []) ⟨m24_h9 a0 y20 y6, [(5, some ⟨33, 5, (Enc.encL y6).length, []⟩), (7, some ⟨9, 1, (Enc.encL y20.2).length, []⟩)], 10⟩ := by
  refine QT ⟨[], m24_h9 a0 y20 y6, [(5, some ⟨33, 5, (Enc.encL y6).length, []⟩), (7, some ⟨9, 1, (Enc.encL y20.2).length, []⟩)], 10, 42, []⟩ rfl rfl en_57 (Um rfl) rfl .nil (fun w0 M V0 Q hv1 hQ1 => ?_)
  simp only [J7]
  refine Q5 <| Q5 <| Q0 <| Ue rfl rfl rfl (Q6 JH rfl rfl rfl) <| Ue rfl rfl rfl (Qx (α := Tm) Ji rfl (.app _ _)) <| Uf rfl rfl rfl <| Q4 <| Q3 <| Qf ?_
  refine QR 0 (fun (o22 : (Qa UN Bool) × (List UN)) => ⟨[(0, .v (.one (.yld 9))), (2, .v (.one (.ptr 4 0)))], [(0, .cells 45 (UA a0)), (1, .mp (QO o22.1.1) o22.1.2), (2, .cells 80 [.mp 1]), (3, .cells 51 [Uz 7 o22.2]), (4, .cells 45 (UA a0)), (6, .cells 31 [Uz 5 y6]), (8, .obj (.deferred (some []))), (9, GF)], [(5, some ⟨33, 5, (Enc.encL y6).length, []⟩), (7, some ⟨9, 1, (Enc.encL o22.2).length, []⟩)], 10, 42, []⟩) (fun (o22 : (Qa UN Bool) × (List UN)) => (Option.bind (QV (GD a0 y6) J2 (0, o22.1, o22.2)) (Sum.elim (fun (o23 : (Qa UN Bool) × (List UN)) => some (o23.1, o23.2)) (fun o => some o))) = some y20) ?_ ?_
  refine Qb h1 (fun o23 hl2 h1 => ?_)
  refine QQ (Xk y6) (fun s2 => ⟨[(0, .v (.one (.yld 9))), (2, .v (.one (.ptr 4 0))), (10, .v (.one (Uz 5 y6))), (11, .v (.one (Ux (y6.length : Int)))), (12, .v (.one (Ux s2.1)))], [(0, .cells 45 (UA a0)), (1, .mp (QO s2.2.1.1) s2.2.1.2), (2, .cells 80 [.mp 1]), (3, .cells 51 [Uz 7 s2.2.2]), (4, .cells 45 (UA a0)), (6, .cells 31 [Uz 5 y6]), (8, .obj (.deferred (some []))), (9, GF)], [(5, some ⟨33, 5, (Enc.encL y6).length, []⟩), (7, some ⟨9, 1, (Enc.encL s2.2.2).length, []⟩)], 10, 42, []⟩) (0, o2, []) o23 (Qu (Ua rfl) (hA rfl) (Uo rfl) rfl (Nat.le_trans hv1 (Um rfl)) rfl rfl rfl (UF rfl rfl (UE rfl (UG rfl))) rfl rfl) hl2 (fun s2 n2 oo2 h2 ho2 => ?_)
  unfold Xk at h2
  refine Q5 <| Q0 <| Ue rfl rfl rfl (Q7 rfl rfl rfl) <| Q4 <| Q3 <| Q5 ?_
  refine Qg (b := (decide (s2.1 < (y6.length : Int)))) rfl (fun c24 => ?_) (fun c24 => ?_)
  replace h2 := Qk c24 h2
  refine Qj <| Q3 <| Q5 <| Qf <| Q5 <| Q0 ?_
  refine Qb h2 (fun x25 hx25 h2 => ?_)
  refine Ue rfl rfl rfl (Qq (α := Tm) Ji rfl (.app _ _) rfl hx25) <| Ue rfl rfl rfl (Qv (x25 : Tm) QW rfl) <| Q9 rfl rfl (Um rfl) (Qm ZS rfl) <| Qy rfl rfl (QC (x25 : Tm) QW rfl rfl rfl rfl rfl) <| Q4 <| Q3 <| Q5 <| Q0 <| Ue rfl rfl rfl (QK (x25 : Tm) QW rfl rfl) ?_
  refine Qb h2 (fun x26 hx26 h2 => ?_)
  refine Q9 rfl rfl (Um rfl) (Qo (m58_ok x25 x26 hx26) rfl (.cons (.agg (.cons (.d _) (.cons (.d _) (.cons (.d _) (.cons (.d _) (.cons (.d _) .nil)))))) .nil)) <| Ue rfl rfl rfl (Qx (α := UN) Ju rfl (.d _)) <| Uf rfl rfl rfl <| Q4 <| Q3 <| Qf ?_
  refine QR 2 (fun (o27 : (Qa UN Bool) × (List UN)) => ⟨[(0, .v (.one (.yld 9))), (2, .v (.one (.ptr 4 0))), (10, .v (.one (Uz 5 y6))), (11, .v (.one (Ux (y6.length : Int)))), (12, .v (.one (Ux s2.1)))], [(0, .cells 45 (UA a0)), (1, .mp (QO o27.1.1) o27.1.2), (2, .cells 80 [.mp 1]), (3, .cells 51 [Uz 7 o27.2]), (4, .cells 45 (UA a0)), (6, .cells 31 [Uz 5 y6]), (8, .obj (.deferred (some []))), (9, GF), (10, .cells 33 (UA x25))], [(5, some ⟨33, 5, (Enc.encL y6).length, []⟩), (7, some ⟨9, 1, (Enc.encL o27.2).length, []⟩)], 11, 42, []⟩) (fun (o27 : (Qa UN Bool) × (List UN)) => (some (.next ((Jk (s2.1 + 1)), o27.1, o27.2))) = some oo2) ?_ ?_
  refine Qb h2 (fun o28 hl3 h2 => ?_)
  refine QQ (Xl x26) (fun s3 => ⟨[(0, .v (.one (.yld 9))), (2, .v (.one (.ptr 4 0))), (10, .v (.one (Uz 5 y6))), (11, .v (.one (Ux (y6.length : Int)))), (12, .v (.one (Ux s2.1))), (17, .v (.one (Uv x26))), (18, .v (.one (Ux (x26.length : Int)))), (19, .v (.one (Ux s3.1)))], [(0, .cells 45 (UA a0)), (1, .mp (QO s3.2.1.1) s3.2.1.2), (2, .cells 80 [.mp 1]), (3, .cells 51 [Uz 7 s3.2.2]), (4, .cells 45 (UA a0)), (6, .cells 31 [Uz 5 y6]), (8, .obj (.deferred (some []))), (9, GF), (10, .cells 33 (UA x25))], [(5, some ⟨33, 5, (Enc.encL y6).length, []⟩), (7, some ⟨9, 1, (Enc.encL s3.2.2).length, []⟩)], 11, 42, []⟩) (0, s2.2.1, s2.2.2) o28 (Qu (Ua rfl) (hA rfl) (Uo rfl) rfl (Nat.le_trans hv1 (Um rfl)) rfl rfl rfl (UF rfl rfl (UE rfl (UG rfl))) rfl rfl) hl3 (fun s3 n3 oo3 h3 ho3 => ?_)
  unfold Xl at h3
  refine Q5 <| Q0 <| Ue rfl rfl rfl (Q7 rfl rfl rfl) <| Q4 <| Q3 <| Q5 ?_
  refine Qg (b := (decide (s3.1 < (x26.length : Int)))) rfl (fun c29 => ?_) (fun c29 => ?_)
  replace h3 := Qk c29 h3
  refine Qj <| Q3 <| Q5 <| Qf <| Q5 <| Q0 ?_
  refine Qb h3 (fun x30 hx30 h3 => ?_)
  refine Ue rfl rfl rfl (Qq (α := UN) Ju rfl (.d _) rfl hx30) <| Ue rfl rfl rfl (Js JG rfl rfl) <| Ug rfl rfl rfl <| Q4 <| Q3 <| Q5 <| Q0 <| Uf rfl rfl rfl <| Uf rfl rfl rfl ?_
  refine Qb h3 (fun y31 h4 h3 => ?_)
  have ha32 : ExecOK Try.prog (some 9) Z4 ⟨[(3, .v (.one (.ptr 2 0))), (6, .v (.one (.ptr 3 0))), (20, .v (.one (.fn 57 [(6, 0), (4, 0)]))), (21, .v (.one (Jl x30)))], m24_h10 a0 s3 y6 x25, [(5, some ⟨33, 5, (Enc.encL y6).length, []⟩), (7, some ⟨9, 1, (Enc.encL s3.2.2).length, []⟩)], 11, 33, []⟩ .normal ⟨[(3, .v (.one (.ptr 2 0))), (6, .v (.one (.ptr 3 0))), (7, .v (.one (Jl x30)))], m24_h10 a0 s3 y6 x25, [(5, some ⟨33, 5, (Enc.encL y6).length, []⟩), (7, some ⟨9, 1, (Enc.encL s3.2.2).length, []⟩)], 11, 33, []⟩ := by
   refine QI (fun w0 M V0 ro n Q hv4 hro4 hQn4 => ?_)
   refine Q0 <| Ug rfl rfl rfl <| Q4 ?_
   exact Jr hQn4 (Qu (Ua rfl) (hA rfl) (Uo rfl) rfl (Nat.le_trans hv4 (Um rfl)) rfl rfl rfl (UF rfl rfl (UE rfl (UG rfl))) rfl rfl)
  have hb33 : ExecOK Try.prog (some 9) Z3 ⟨[(3, .v (.one (.ptr 2 0))), (6, .v (.one (.ptr 3 0))), (7, .v (.one (Jl x30)))], m24_h12 a0 s3 y6 x25, [(5, some ⟨33, 5, (Enc.encL y6).length, []⟩), (7, some ⟨9, 1, (Enc.encL s3.2.2).length, []⟩)], 11, 33, []⟩ .normal ⟨[], m24_h13 a0 y31 y6 x25, [(5, some ⟨33, 5, (Enc.encL y6).length, []⟩), (7, some ⟨9, 1, (Enc.encL y31.2).length, []⟩)], 11, 33, []⟩ := by
   refine QI (fun w0 M V0 ro n Q hv4 hro4 hQn4 => ?_)
   refine Qf <| Q5 <| Q0 <| Ue rfl rfl rfl (Q6 GT rfl rfl rfl) <| Uf rfl rfl rfl <| Ue rfl rfl rfl (YP (M := s3.2.1) (k := x30) Gy Gw rfl rfl rfl) <| Ue rfl rfl rfl (Jb rfl) <| Q4 <| Q3 ?_
   refine Qg (b := (!(Qp s3.2.1 x30))) rfl (fun c34 => ?_) (fun c34 => ?_)
   replace h4 := Qk c34 h4
   refine Q5 <| Q0 <| Ue rfl rfl rfl (Q6 GT rfl rfl rfl) <| Uf rfl rfl rfl <| Qy rfl rfl (Je (M := s3.2.1) (k := x30) (v := true) Gy rfl rfl rfl rfl rfl) <| Q4 <| Q3 <| Q0 <| Ue rfl rfl rfl (Q6 Xb rfl rfl rfl) <| Uf rfl rfl rfl <| Q9 rfl rfl (Um rfl) (Jt (α := UN) (x30) Ju Wo rfl rfl (Um rfl) (Um rfl) rfl rfl (.cons (.d _) .nil) rfl) ?_
   refine JC h4 (fun g35 h4 => ?_)
   refine Q9 rfl rfl (Um rfl) (Jh (α := UN) Ju KN rfl rfl rfl rfl rfl (.app _ _) g35) <| Qy rfl rfl (Qr Xb rfl rfl rfl rfl (Um rfl) rfl) <| Q4 <| Qe ?_
   have e := Uc h4; subst e
   exact Jr hQn4 (Qu U9 (hA rfl) (Uo rfl) rfl (Nat.le_trans hv4 (Um rfl)) rfl rfl rfl (UF rfl rfl (UE rfl (UG rfl))) rfl rfl)
   replace h4 := Ql c34 h4
   refine Qj <| Qe ?_
   have e := Uc h4; subst e
   exact Jr hQn4 (Qu U9 (hA rfl) (Uo rfl) rfl (Nat.le_trans hv4 (Um rfl)) rfl rfl rfl (UF rfl rfl (UE rfl (UG rfl))) rfl rfl)
  refine Q9 rfl rfl (Um rfl) (Jc (jump := none) rfl rfl rfl rfl rfl (Qw ha32 (fun E hv => (Qu (Ua rfl) (hA rfl) (Uo rfl) rfl (Nat.le_trans hv (Um rfl)) rfl rfl rfl (UF rfl rfl (UE rfl (UG rfl))) rfl rfl))) rfl (Qw hb33 (fun E hv => (Qu (Ua rfl) (hA rfl) (Uo rfl) rfl (Nat.le_trans hv (Um rfl)) rfl rfl rfl (UF rfl rfl (UE rfl (UG rfl))) rfl rfl))) rfl rfl) ?_
  refine Ue rfl rfl rfl (Jb rfl) <| Q4 <| Q3 ?_
  refine Qg rfl (fun h => nomatch h) (fun _ => ?_)
  refine Qj <| Qe <| Q3 <| Q0 <| Ue rfl rfl rfl (Q7 rfl rfl rfl) <| Uf rfl rfl rfl <| Q4 ?_
  have e := Uc h3; subst e
  refine QM ((Jk (s3.1 + 1)), y31.1, y31.2) (Qu (Ua rfl) (hA rfl) (Uo rfl) rfl (Nat.le_trans hv1 (Um rfl)) rfl rfl rfl (UF rfl rfl (UE rfl (UG rfl))) rfl rfl) ho3
  replace h3 := Ql c29 h3
  refine J1 <| Qn <| Qn ?_
  have e := Uc h3; subst e
  have e_ : _ = _ := ho3
  subst e_
  exact QP (s3.2.1, s3.2.2) (Qu (Ua rfl) (hA rfl) (Uo rfl) rfl (Nat.le_trans hv1 (Um rfl)) rfl rfl rfl (UF rfl rfl (UE rfl (UG rfl))) rfl rfl) h2
  intro o27 h2
  refine QF <| Qe <| Q3 <| Q0 <| Ue rfl rfl rfl (Q7 rfl rfl rfl) <| Uf rfl rfl rfl <| Q4 ?_
  have e := Uc h2; subst e
  refine QM ((Jk (s2.1 + 1)), o27.1, o27.2) (Qu (Ua rfl) (hA rfl) (Uo rfl) rfl (Nat.le_trans hv1 (Um rfl)) rfl rfl rfl (UF rfl rfl (UE rfl (UG rfl))) rfl rfl) ho2
  replace h2 := Ql c24 h2
  refine J1 <| Qn <| Qn ?_
  have e := Uc h2; subst e
  have e_ : _ = _ := ho2
  subst e_
  exact QP (s2.2.1, s2.2.2) (Qu (Ua rfl) (hA rfl) (Uo rfl) rfl (Nat.le_trans hv1 (Um rfl)) rfl rfl rfl (UF rfl rfl (UE rfl (UG rfl))) rfl rfl) h1
  intro o22 h1
  refine QF <| Q3 <| Q5 <| Q0 <| Ue rfl rfl rfl (Q1 Y2 rfl) <| Ue rfl rfl rfl (Q6 YZ rfl rfl rfl) <| Ue rfl rfl rfl (Qx (α := Fn) Yk rfl (.d _)) <| Uf rfl rfl rfl <| Q4 <| Q3 <| Qf ?_
  refine QR 4 (fun (o36 : (Qa UN Bool) × (List UN)) => ⟨[], [(0, .cells 45 (UA a0)), (1, .mp (QO o36.1.1) o36.1.2), (2, .cells 80 [.mp 1]), (3, .cells 51 [Uz 7 o36.2]), (4, .cells 45 (UA a0)), (6, .cells 31 [Uz 5 y6]), (8, .obj (.deferred (some []))), (9, GF)], [(5, some ⟨33, 5, (Enc.encL y6).length, []⟩), (7, some ⟨9, 1, (Enc.encL o36.2).length, []⟩)], 10, 42, []⟩) (fun (o36 : (Qa UN Bool) × (List UN)) => (some (o36.1, o36.2)) = some y20) ?_ ?_
  refine Qb h1 (fun o37 hl2 h1 => ?_)
  refine QQ (GD a0 y6) (fun s2 => ⟨[(0, .v (.one (.yld 9))), (30, .v (.one (Uv a0.funs))), (31, .v (.one (Ux (a0.funs.length : Int)))), (32, .v (.one (Ux s2.1)))], [(0, .cells 45 (UA a0)), (1, .mp (QO s2.2.1.1) s2.2.1.2), (2, .cells 80 [.mp 1]), (3, .cells 51 [Uz 7 s2.2.2]), (4, .cells 45 (UA a0)), (6, .cells 31 [Uz 5 y6]), (8, .obj (.deferred (some []))), (9, GF)], [(5, some ⟨33, 5, (Enc.encL y6).length, []⟩), (7, some ⟨9, 1, (Enc.encL s2.2.2).length, []⟩)], 10, 42, []⟩) (0, o22.1, o22.2) o37 (Qu (Ua rfl) (hA rfl) (Uo rfl) rfl (Nat.le_trans hv1 (Um rfl)) rfl rfl rfl (UF rfl rfl (UE rfl (UG rfl))) rfl rfl) hl2 (fun s2 n2 oo2 h2 ho2 => ?_)
  unfold GD at h2
  refine Q5 <| Q0 <| Ue rfl rfl rfl (Q7 rfl rfl rfl) <| Q4 <| Q3 <| Q5 ?_
  refine Qg (b := (decide (s2.1 < (a0.funs.length : Int)))) rfl (fun c38 => ?_) (fun c38 => ?_)
  replace h2 := Qk c38 h2
  refine Qj <| Q3 <| Q5 <| Qf <| Q5 <| Q0 ?_
  refine Qb h2 (fun x39 hx39 h2 => ?_)
  refine Ue rfl rfl rfl (Qq (α := Fn) Yk rfl (.d _) rfl hx39) <| Ue rfl rfl rfl (Qv (x39 : Fn) Zx rfl) <| Q9 rfl rfl (Um rfl) (Qm Wi rfl) <| Qy rfl rfl (QC (x39 : Fn) Zx rfl rfl rfl rfl rfl) <| Q4 <| Q3 <| Q5 <| Q0 <| Ue rfl rfl rfl (Q1 fo_76_3 rfl) <| Ue rfl rfl rfl (Qi X9 rfl rfl rfl rfl) <| Uf rfl rfl rfl ?_
  refine Qb h2 (fun x40 hx40 h2 => ?_)
  refine Q9 rfl rfl (Um rfl) (J4 (hp1' := [(9, .loop .ready none [(3, .v (.one (.ptr 2 0))), (6, .v (.one (.ptr 3 0))), (20, .v (.one (.fn 57 [(6, 0), (4, 0)])))] 33 #[21] Z4 Z3 8), (8, .obj (.deferred (some []))), (2, .cells 80 [.mp 1]), (1, .mp (QO x40.2.1.1) x40.2.1.2), (3, .cells 51 [Uz 7 x40.2.2]), (6, .cells 31 [Uz 5 y6]), (4, .cells 45 (UA a0))]) (tk1' := [(7, some ⟨9, 1, (Enc.encL x40.2.2).length, []⟩), (5, some ⟨33, 5, (Enc.encL y6).length, []⟩)]) (hpF := [(0, .cells 45 (UA a0)), (10, .cells 76 (UA x39))]) (tkF := []) (res2 := QD [.one (Uy x40.1)]) (nx2 := 13) [9, 8, 2, 1, 3, 7, 6, 5, 4] rfl rfl (m59f13_ok x39.tree s2.2.1 s2.2.2 y6 a0 x40 hx40) rfl rfl (Uj rfl rfl (Uj rfl rfl (Uj rfl rfl (Ui rfl (Uj rfl rfl (Uj rfl rfl (Uj rfl rfl Uh))))))) rfl rfl (Ut rfl (Ut rfl (Ut rfl (Uu rfl (Ut rfl (Ut rfl (Ut rfl Us))))))) (Uq rfl (Uq rfl Up)) (hA rfl) Un rfl rfl rfl rfl rfl (UF rfl rfl (UF rfl rfl (UF rfl rfl (UE rfl (UG rfl))))) rfl rfl rfl rfl) <| Ue rfl rfl rfl (Jb rfl) <| Q4 <| Q3 ?_
  refine Qg (b := (!x40.1)) rfl (fun c41 => ?_) (fun c41 => ?_)
  replace h2 := Qk c41 h2
  refine QA ?_
  have e := Uc h2; subst e
  have e_ : _ = _ := ho2
  subst e_
  try dsimp only [Sum.elim_inl, Sum.elim_inr] at h1
  have e := Uc h1; subst e
  exact hQ1 _ _ _ (.inr rfl) rfl (Qu U9 (hA rfl) (Uo rfl) rfl (Nat.le_trans hv1 (Um rfl)) rfl rfl rfl (UF rfl rfl (UE rfl (UG rfl))) rfl rfl)
  replace h2 := Ql c41 h2
  refine Qj <| Qe <| Q3 <| Q0 <| Ue rfl rfl rfl (Q7 rfl rfl rfl) <| Uf rfl rfl rfl <| Q4 ?_
  have e := Uc h2; subst e
  refine QM ((Jk (s2.1 + 1)), x40.2.1, x40.2.2) (Qu (Ua rfl) (hA rfl) (Uo rfl) rfl (Nat.le_trans hv1 (Um rfl)) rfl rfl rfl (UF rfl rfl (UE rfl (UG rfl))) rfl rfl) ho2
  replace h2 := Ql c38 h2
  refine J1 <| Qn <| Qn ?_
  have e := Uc h2; subst e
  have e_ : _ = _ := ho2
  subst e_
  exact QP (s2.2.1, s2.2.2) (Qu U9 (hA rfl) (Uo rfl) rfl (Nat.le_trans hv1 (Um rfl)) rfl rfl rfl (UF rfl rfl (UE rfl (UG rfl))) rfl rfl) h1
  intro o36 h1
  refine QF ?_
  have e := Uc h1; subst e
  exact hQ1 _ _ _ (.inl rfl) rfl (Qu U9 (hA rfl) (Uo rfl) rfl (Nat.le_trans hv1 (Um rfl)) rfl rfl rfl (UF rfl rfl (UE rfl (UG rfl))) rfl rfl)
 refine ZK (Y5 (e := .normal) rfl hc21 rfl rfl (by intro h; cases h) rfl) rfl ?_
 refine Qe <| Q3 <| Q5 <| Q0 <| Ue rfl rfl rfl (Q6 Xb rfl rfl rfl) <| Ug rfl rfl rfl <| Q4 <| Q3 <| QA ?_
 have e := Uc h0; subst e
 exact QL (fun _ _ h => h) rfl (Qz rfl .nil) (.cons (.one (.app _ _ _)) .nil)
end Go.Proofs.Ytafddfoefeploaa
namespace Go.Proofs.Ytafddfoefeploaa
open Go.RowKit Go.Shelf
set_option linter.unusedSimpArgs false
set_option linter.unusedVariables false
theorem en_23 : J3 Try.prog 23 := enters_of Try.func23 (by kernel_rfl) rfl
theorem en_25 : J3 Try.prog 25 := enters_of Try.func25 (by kernel_rfl) rfl
theorem en_33 : J3 Try.prog 33 := enters_of Try.func33 (by kernel_rfl) rfl
theorem en_40 : J3 Try.prog 40 := enters_of Try.func40 (by kernel_rfl) rfl
theorem en_41 : J3 Try.prog 41 := enters_of Try.func41 (by kernel_rfl) rfl
theorem en_60 : J3 Try.prog 60 := enters_of Try.func60 (by kernel_rfl) rfl
theorem en_77 : J3 Try.prog 77 := enters_of Try.func77 (by kernel_rfl) rfl
def XR (a0 : List UN) (a1 : UN) (s1 : Int) : Option (LO Int (Unit ⊕ Bool)) :=
 cond (decide (s1 < (a0.length : Int)))
   (Option.bind (Yi a0 s1) fun (x3 : UN) =>
 cond (x3 == a1)
   (some (.done (.inr true)))
   (some (.next (Jk (s1 + 1)))))
   (some (.done (.inl ())))
def WU (a0 : List UN) (a1 : UN) : Option Bool :=
 Option.bind (QV (XR a0 a1) J2 0) (Sum.elim (fun (o1 : Unit) => some false) (fun o => some o))
set_option maxRecDepth 100000 in
set_option maxHeartbeats 2000000 in
theorem m77_ok (a0 : List UN) (a1 : UN) (r : Bool) (h0 : WU a0 a1 = some r) : Fun Try.prog 77 [.one (Uv a0), .one (Jl a1)] (QD [.one (Uy r)]) := by
 unfold WU at h0
 refine QY 9 18 Try.func77 rfl en_77 rfl (Um rfl) (fun S w => ?_)
 simp only [J7]
 refine Q5 <| Q0 <| Ug rfl rfl rfl <| Q4 <| Q3 <| Q5 <| Q5 <| Q0 <| Ug rfl rfl rfl <| Q4 <| Q3 <| Qf ?_
 refine QR 0 (fun (o1 : Unit) => ⟨[], [], [], 0, 18, []⟩) (fun (o1 : Unit) => (some false) = some r) ?_ ?_
 refine Qb h0 (fun o2 hl1 h0 => ?_)
 refine QQ (XR a0 a1) (fun s1 => ⟨[(0, .v (.one (Uv a0))), (1, .v (.one (Jl a1))), (5, .v (.one (Ux s1)))], [], [], 0, 18, []⟩) 0 o2 (Ub (Nat.zero_le _) rfl rfl rfl rfl rfl) hl1 (fun s1 n1 oo1 h1 ho1 => ?_)
 unfold XR at h1
 refine Q5 <| Q5 <| Q0 <| Uf rfl rfl rfl <| Uf rfl rfl rfl <| Ue rfl rfl rfl (Qx (α := UN) Ju rfl (.d _)) <| Ue rfl rfl rfl (Q7 rfl rfl rfl) <| Q4 <| Q3 ?_
 refine Qg (b := (decide (s1 < (a0.length : Int)))) rfl (fun c3 => ?_) (fun c3 => ?_)
 replace h1 := Qk c3 h1
 refine Qj <| Q3 <| Q5 <| Qf <| Q5 <| Q0 <| Uf rfl rfl rfl <| Uf rfl rfl rfl ?_
 refine Qb h1 (fun x4 hx4 h1 => ?_)
 refine Ue rfl rfl rfl (Qq (α := UN) Ju rfl (.d _) rfl hx4) <| Ue rfl rfl rfl (Js JG rfl rfl) <| Uf rfl rfl rfl <| Ue rfl rfl rfl (KL rfl rfl) <| Q4 <| Q3 ?_
 refine Qg (b := (x4 == a1)) rfl (fun c5 => ?_) (fun c5 => ?_)
 replace h1 := Qk c5 h1
 refine Q5 <| Q0 <| Ug rfl rfl rfl <| Q4 <| Q3 <| QA ?_
 have e := Uc h1; subst e
 have e_ : _ = _ := ho1
 subst e_
 try dsimp only [Sum.elim_inl, Sum.elim_inr] at h0
 have e := Uc h0; subst e
 exact QL (fun _ _ h => h) rfl (Qz rfl .nil) (.cons (.one (.d _)) .nil)
 replace h1 := Ql c5 h1
 refine Qj <| Qe <| Q3 <| Q0 <| Uf rfl rfl rfl <| Ue rfl rfl rfl (Q7 rfl rfl rfl) <| Ug rfl rfl rfl <| Q4 ?_
 have e := Uc h1; subst e
 refine QM (Jk (s1 + 1)) (Ub (Nat.zero_le _) rfl rfl rfl rfl rfl) ho1
 replace h1 := Ql c3 h1
 refine J1 <| Qn <| Qn ?_
 have e := Uc h1; subst e
 have e_ : _ = _ := ho1
 subst e_
 exact QP () (Ub (Nat.zero_le _) rfl rfl rfl rfl rfl) h0
 intro o1 h0
 refine QF <| Q3 <| Q5 <| Q0 <| Ug rfl rfl rfl <| Q4 <| Q3 <| QA ?_
 have e := Uc h0; subst e
 exact QL (fun _ _ h => h) rfl (Qz rfl .nil) (.cons (.one (.d _)) .nil)
def m33_l0 (a0 : List UN) (a1 : UN) (s1 : Int) : Option (LO Int (Unit ⊕ Bool)) :=
 cond (decide (s1 < (a0.length : Int)))
   (Option.bind (Yi a0 s1) fun (x3 : UN) =>
 cond (x3 == a1)
   (some (.done (.inr true)))
   (some (.next (Jk (s1 + 1)))))
   (some (.done (.inl ())))
def U5 (a0 : List UN) (a1 : UN) : Option Bool :=
 Option.bind (QV (m33_l0 a0 a1) J2 0) (Sum.elim (fun (o1 : Unit) => some false) (fun o => some o))
set_option maxRecDepth 100000 in
set_option maxHeartbeats 2000000 in
theorem m33_ok (a0 : List UN) (a1 : UN) (r : Bool) (h0 : U5 a0 a1 = some r) : Fun Try.prog 33 [.one (Uv a0), .one (Jl a1)] (QD [.one (Uy r)]) := by
 unfold U5 at h0
 refine QY 9 18 Try.func33 rfl en_33 rfl (Um rfl) (fun S w => ?_)
 simp only [J7]
 refine Q5 <| Q0 <| Ug rfl rfl rfl <| Q4 <| Q3 <| Q5 <| Q5 <| Q0 <| Ug rfl rfl rfl <| Q4 <| Q3 <| Qf ?_
 refine QR 0 (fun (o1 : Unit) => ⟨[], [], [], 0, 18, []⟩) (fun (o1 : Unit) => (some false) = some r) ?_ ?_
 refine Qb h0 (fun o2 hl1 h0 => ?_)
 refine QQ (m33_l0 a0 a1) (fun s1 => ⟨[(0, .v (.one (Uv a0))), (1, .v (.one (Jl a1))), (5, .v (.one (Ux s1)))], [], [], 0, 18, []⟩) 0 o2 (Ub (Nat.zero_le _) rfl rfl rfl rfl rfl) hl1 (fun s1 n1 oo1 h1 ho1 => ?_)
 unfold m33_l0 at h1
 refine Q5 <| Q5 <| Q0 <| Uf rfl rfl rfl <| Uf rfl rfl rfl <| Ue rfl rfl rfl (Qx (α := UN) Ju rfl (.d _)) <| Ue rfl rfl rfl (Q7 rfl rfl rfl) <| Q4 <| Q3 ?_
 refine Qg (b := (decide (s1 < (a0.length : Int)))) rfl (fun c3 => ?_) (fun c3 => ?_)
 replace h1 := Qk c3 h1
 refine Qj <| Q3 <| Q5 <| Qf <| Q5 <| Q0 <| Uf rfl rfl rfl <| Uf rfl rfl rfl ?_
 refine Qb h1 (fun x4 hx4 h1 => ?_)
 refine Ue rfl rfl rfl (Qq (α := UN) Ju rfl (.d _) rfl hx4) <| Ue rfl rfl rfl (Js JG rfl rfl) <| Uf rfl rfl rfl <| Ue rfl rfl rfl (KL rfl rfl) <| Q4 <| Q3 ?_
 refine Qg (b := (x4 == a1)) rfl (fun c5 => ?_) (fun c5 => ?_)
 replace h1 := Qk c5 h1
 refine Q5 <| Q0 <| Ug rfl rfl rfl <| Q4 <| Q3 <| QA ?_
 have e := Uc h1; subst e
 have e_ : _ = _ := ho1
 subst e_
 try dsimp only [Sum.elim_inl, Sum.elim_inr] at h0
 have e := Uc h0; subst e
 exact QL (fun _ _ h => h) rfl (Qz rfl .nil) (.cons (.one (.d _)) .nil)
 replace h1 := Ql c5 h1
 refine Qj <| Qe <| Q3 <| Q0 <| Uf rfl rfl rfl <| Ue rfl rfl rfl (Q7 rfl rfl rfl) <| Ug rfl rfl rfl <| Q4 ?_
 have e := Uc h1; subst e
 refine QM (Jk (s1 + 1)) (Ub (Nat.zero_le _) rfl rfl rfl rfl rfl) ho1
 replace h1 := Ql c3 h1
 refine J1 <| Qn <| Qn ?_
 have e := Uc h1; subst e
 have e_ : _ = _ := ho1
 subst e_
 exact QP () (Ub (Nat.zero_le _) rfl rfl rfl rfl rfl) h0
 intro o1 h0
 refine QF <| Q3 <| Q5 <| Q0 <| Ug rfl rfl rfl <| Q4 <| Q3 <| QA ?_
 have e := Uc h0; subst e
 exact QL (fun _ _ h => h) rfl (Qz rfl .nil) (.cons (.one (.d _)) .nil)
def Xo (a0 : Dcl) (s1 : (List UN) × Int) : Option (LO ((List UN) × Int) (((List UN)))) :=
 cond (decide (s1.2 < (a0.ctors.length : Int)))
   (Option.bind (Yi a0.ctors s1.2) fun (x6 : Ctr) =>
 J8 (Nat.ble (s1.1.length + ([x6.name]).length) 1000000000)
 (some (.next ((s1.1 ++ ([x6.name])), (Jk (s1.2 + 1))))))
   (some (.done s1.1))
def Xn (a0 : Dcl) (s1 : (List UN) × Int) : Option (LO ((List UN) × Int) (((List UN)))) :=
 cond (decide (s1.2 < (a0.funs.length : Int)))
   (Option.bind (Yi a0.funs s1.2) fun (x14 : Fn) =>
 J8 (Nat.ble (s1.1.length + ([x14.name]).length) 1000000000)
 (some (.next ((s1.1 ++ ([x14.name])), (Jk (s1.2 + 1))))))
   (some (.done s1.1))
def WO (a0 : Dcl) : Option ((List UN)) :=
 Option.bind (cond (a0.kind == 0)
   (some (a0.kind == 0))
   (cond (a0.kind == 1)
   (some (a0.kind == 1))
   (some (a0.kind == 2)))) (fun (v1 : Bool) => cond v1
   (some ([a0.name]))
   (cond (a0.kind == 3)
   (Option.bind (QV (Xo a0) J2 ([a0.name], 0)) (fun (o4 : (List UN)) => J8 (Nat.ble (a0.name.length + ([46, 114, 101, 99] : List UInt8).length) 1000000000)
 (J8 (Nat.ble (o4.length + ([(a0.name ++ ([46, 114, 101, 99] : List UInt8))]).length) 1000000000)
 (some (o4 ++ ([(a0.name ++ ([46, 114, 101, 99] : List UInt8))]))))))
   (cond (a0.kind == 4)
   (Option.bind (QV (Xn a0) J2 (([] : List UN), 0)) (fun (o12 : (List UN)) => some o12))
   (some ([] : List UN)))))
set_option maxRecDepth 100000 in
set_option maxHeartbeats 2000000 in
theorem m23_ok (a0 : Dcl) (r : (List UN)) (h0 : WO a0 = some r) : Fun Try.prog 23 [.agg (UA a0)] (QD [.one (Uv r)]) := by
 unfold WO at h0
 refine QY 9 62 Try.func23 rfl en_23 rfl (Um rfl) (fun S w => ?_)
 simp only [J7]
 refine Q5 <| Q0 <| Q9 rfl rfl (Um rfl) (QN rfl) <| Ug rfl rfl rfl <| Q4 <| Q3 <| Q5 <| Q5 <| Q0 <| Ue rfl rfl rfl (Q1 Yn rfl) <| Ue rfl rfl rfl (Q6 QZ rfl rfl rfl) <| Q4 <| Q3 <| Qf ?_
 refine Q5 <| Q5 <| Q0 <| Ue rfl rfl rfl (Q7 rfl rfl rfl) <| Ug rfl rfl rfl <| Q4 <| Q3 ?_
 refine QS (fun (v1 : Bool) => ⟨[(1, .v (.one (.ptr 0 0))), (8, .v (.one (Ux a0.kind))), (9, .v (.one (Uy v1)))], [(0, .cells 45 (UA a0))], [], 1, 62, []⟩) (fun (v1 : Bool) => (cond v1
     (some ([a0.name]))
     (cond (a0.kind == 3)
     (Option.bind (QV (Xo a0) J2 ([a0.name], 0)) (fun (o4 : (List UN)) => J8 (Nat.ble (a0.name.length + ([46, 114, 101, 99] : List UInt8).length) 1000000000)
   (J8 (Nat.ble (o4.length + ([(a0.name ++ ([46, 114, 101, 99] : List UInt8))]).length) 1000000000)
   (some (o4 ++ ([(a0.name ++ ([46, 114, 101, 99] : List UInt8))]))))))
     (cond (a0.kind == 4)
     (Option.bind (QV (Xn a0) J2 (([] : List UN), 0)) (fun (o12 : (List UN)) => some o12))
     (some ([] : List UN))))) = some r) ?_ ?_
 refine Qb h0 (fun w1_ h1 h0 => ?_)
 refine Qg (b := (a0.kind == 0)) rfl (fun c2 => ?_) (fun c2 => ?_)
 replace h1 := Qk c2 h1
 refine Qj ?_
 have e := Uc h1; subst e
 exact Qc (a0.kind == 0) (Ub (Nat.zero_le _) rfl rfl rfl rfl rfl) h0
 replace h1 := Ql c2 h1
 refine Q5 <| Q0 <| Ue rfl rfl rfl (Q7 rfl rfl rfl) <| Ug rfl rfl rfl <| Q4 <| Q3 ?_
 refine Qg (b := (a0.kind == 1)) rfl (fun c3 => ?_) (fun c3 => ?_)
 replace h1 := Qk c3 h1
 refine Qj ?_
 have e := Uc h1; subst e
 exact Qc (a0.kind == 1) (Ub (Nat.zero_le _) rfl rfl rfl rfl rfl) h0
 replace h1 := Ql c3 h1
 refine Q0 <| Ue rfl rfl rfl (Q7 rfl rfl rfl) <| Ug rfl rfl rfl <| Q4 ?_
 have e := Uc h1; subst e
 exact Qc (a0.kind == 2) (Ub (Nat.zero_le _) rfl rfl rfl rfl rfl) h0
 intro v1 h0
 refine Q3 ?_
 refine Qg (b := v1) rfl (fun c4 => ?_) (fun c4 => ?_)
 replace h0 := Qk c4 h0
 refine Q5 <| Q0 <| Ue rfl rfl rfl (Q1 Y8 rfl) <| Ue rfl rfl rfl (Q6 JG rfl rfl rfl) <| Q9 rfl rfl (Um rfl) (Jt (α := UN) (a0.name) Ju Wo rfl rfl (Um rfl) (Um rfl) rfl rfl (.cons (.d _) .nil) rfl) <| Ug rfl rfl rfl <| Q4 <| Q3 <| QA ?_
 have e := Uc h0; subst e
 exact QL (fun _ _ h => h) rfl (Qz rfl .nil) (.cons (.one (.app _ _ _)) .nil)
 replace h0 := Ql c4 h0
 refine Q5 <| Q0 <| Ue rfl rfl rfl (Q7 rfl rfl rfl) <| Ug rfl rfl rfl <| Q4 <| Q3 ?_
 refine Qg (b := (a0.kind == 3)) rfl (fun c5 => ?_) (fun c5 => ?_)
 replace h0 := Qk c5 h0
 refine Q5 <| Q0 <| Ue rfl rfl rfl (Q1 Y8 rfl) <| Ue rfl rfl rfl (Q6 JG rfl rfl rfl) <| Q9 rfl rfl (Um rfl) (Jt (α := UN) (a0.name) Ju Wo rfl rfl (Um rfl) (Um rfl) rfl rfl (.cons (.d _) .nil) rfl) <| Ug rfl rfl rfl <| Q4 <| Q3 <| Q5 <| Q5 <| Q0 <| Ug rfl rfl rfl <| Q4 <| Q3 ?_
 refine Qf ?_
 refine QR 1 (fun (o6 : (List UN)) => ⟨[(1, .v (.one (.ptr 0 0))), (3, .v (.one (Uz 1 o6)))], [(0, .cells 45 (UA a0))], [(1, some ⟨9, 1, (Enc.encL o6).length, []⟩)], 2, 62, []⟩) (fun (o6 : (List UN)) => (J8 (Nat.ble (a0.name.length + ([46, 114, 101, 99] : List UInt8).length) 1000000000)
   (J8 (Nat.ble (o6.length + ([(a0.name ++ ([46, 114, 101, 99] : List UInt8))]).length) 1000000000)
   (some (o6 ++ ([(a0.name ++ ([46, 114, 101, 99] : List UInt8))]))))) = some r) ?_ ?_
 refine Qb h0 (fun o7 hl1 h0 => ?_)
 refine QQ (Xo a0) (fun s1 => ⟨[(1, .v (.one (.ptr 0 0))), (3, .v (.one (Uz 1 s1.1))), (4, .v (.one (Ux s1.2)))], [(0, .cells 45 (UA a0))], [(1, some ⟨9, 1, (Enc.encL s1.1).length, []⟩)], 2, 62, []⟩) ([a0.name], 0) o7 (Ub (Nat.zero_le _) rfl rfl rfl rfl rfl) hl1 (fun s1 n1 oo1 h1 ho1 => ?_)
 unfold Xo at h1
 refine Q5 <| Q5 <| Q0 <| Uf rfl rfl rfl <| Ue rfl rfl rfl (Q1 Yc rfl) <| Ue rfl rfl rfl (Q6 Zc rfl rfl rfl) <| Ue rfl rfl rfl (Qx (α := Ctr) Yv rfl (.d _)) <| Ue rfl rfl rfl (Q7 rfl rfl rfl) <| Q4 <| Q3 ?_
 refine Qg (b := (decide (s1.2 < (a0.ctors.length : Int)))) rfl (fun c8 => ?_) (fun c8 => ?_)
 replace h1 := Qk c8 h1
 refine Qj <| Q3 <| Q5 <| Qf <| Q0 <| Uf rfl rfl rfl <| Ue rfl rfl rfl (Q1 Yc rfl) <| Ue rfl rfl rfl (Q6 Zc rfl rfl rfl) <| Uf rfl rfl rfl ?_
 refine Qb h1 (fun x9 hx9 h1 => ?_)
 refine Ue rfl rfl rfl (Qq (α := Ctr) Yv rfl (.d _) rfl hx9) <| Ue rfl rfl rfl (JA Kk rfl) <| Ue rfl rfl rfl (Js JG rfl rfl) <| Q9 rfl rfl (Um rfl) (Jt (α := UN) (x9.name) Ju Wo rfl rfl (Um rfl) (Um rfl) rfl rfl (.cons (.d _) .nil) rfl) ?_
 refine JC h1 (fun g10 h1 => ?_)
 refine Q9 rfl rfl (Um rfl) (Jh (α := UN) Ju KN rfl rfl rfl rfl rfl (.app _ _) g10) <| Ug rfl rfl rfl <| Q4 <| Qe <| Q3 <| Q0 <| Uf rfl rfl rfl <| Ue rfl rfl rfl (Q7 rfl rfl rfl) <| Ug rfl rfl rfl <| Q4 ?_
 have e := Uc h1; subst e
 refine QM ((s1.1 ++ ([x9.name])), (Jk (s1.2 + 1))) (Ub (Nat.zero_le _) rfl rfl rfl rfl rfl) ho1
 replace h1 := Ql c8 h1
 refine J1 <| Qn <| Qn ?_
 have e := Uc h1; subst e
 have e_ : _ = _ := ho1
 subst e_
 exact QP s1.1 (Ub (Nat.zero_le _) rfl rfl rfl rfl rfl) h0
 intro o6 h0
 refine QF <| Q3 <| Q5 <| Q0 <| Uf rfl rfl rfl <| Ue rfl rfl rfl (Q1 Y8 rfl) <| Ue rfl rfl rfl (Q6 JG rfl rfl rfl) ?_
 refine JC h0 (fun g11 h0 => ?_)
 refine Ue rfl rfl rfl (Gr rfl rfl g11) <| Q9 rfl rfl (Um rfl) (Jt (α := UN) ((a0.name ++ ([46, 114, 101, 99] : List UInt8))) Ju Wo rfl rfl (Um rfl) (Um rfl) rfl rfl (.cons (.d _) .nil) rfl) ?_
 refine JC h0 (fun g12 h0 => ?_)
 refine Q9 rfl rfl (Um rfl) (Jh (α := UN) Ju KN rfl rfl rfl rfl rfl (.app _ _) g12) <| Ug rfl rfl rfl <| Q4 <| Q3 <| QA ?_
 have e := Uc h0; subst e
 exact QL (fun _ _ h => h) rfl (Qz rfl .nil) (.cons (.one (.app _ _ _)) .nil)
 replace h0 := Ql c5 h0
 refine Q5 <| Q0 <| Ue rfl rfl rfl (Q7 rfl rfl rfl) <| Ug rfl rfl rfl <| Q4 <| Q3 ?_
 refine Qg (b := (a0.kind == 4)) rfl (fun c13 => ?_) (fun c13 => ?_)
 replace h0 := Qk c13 h0
 refine Q5 <| Q0 <| Ug rfl rfl rfl <| Q4 <| Q3 <| Q5 <| Q5 <| Q0 <| Ug rfl rfl rfl <| Q4 <| Q3 <| Qf ?_
 refine QR 3 (fun (o14 : (List UN)) => ⟨[(5, .v (.one (Uz 1 o14)))], [(0, .cells 45 (UA a0))], [(1, some ⟨9, 1, (Enc.encL o14).length, []⟩)], 2, 62, []⟩) (fun (o14 : (List UN)) => (some o14) = some r) ?_ ?_
 refine XC.adoptT (t := 5) 9 1 rfl ?_
 refine Qb h0 (fun o15 hl1 h0 => ?_)
 refine QQ (Xn a0) (fun s1 => ⟨[(1, .v (.one (.ptr 0 0))), (5, .v (.one (Uz 1 s1.1))), (6, .v (.one (Ux s1.2)))], [(0, .cells 45 (UA a0))], [(1, some ⟨9, 1, (Enc.encL s1.1).length, []⟩)], 2, 62, []⟩) (([] : List UN), 0) o15 (Ub (Nat.zero_le _) rfl rfl rfl rfl rfl) hl1 (fun s1 n1 oo1 h1 ho1 => ?_)
 unfold Xn at h1
 refine Q5 <| Q5 <| Q0 <| Uf rfl rfl rfl <| Ue rfl rfl rfl (Q1 Y2 rfl) <| Ue rfl rfl rfl (Q6 YZ rfl rfl rfl) <| Ue rfl rfl rfl (Qx (α := Fn) Yk rfl (.d _)) <| Ue rfl rfl rfl (Q7 rfl rfl rfl) <| Q4 <| Q3 ?_
 refine Qg (b := (decide (s1.2 < (a0.funs.length : Int)))) rfl (fun c16 => ?_) (fun c16 => ?_)
 replace h1 := Qk c16 h1
 refine Qj <| Q3 <| Q5 <| Qf <| Q0 <| Uf rfl rfl rfl <| Ue rfl rfl rfl (Q1 Y2 rfl) <| Ue rfl rfl rfl (Q6 YZ rfl rfl rfl) <| Uf rfl rfl rfl ?_
 refine Qb h1 (fun x17 hx17 h1 => ?_)
 refine Ue rfl rfl rfl (Qq (α := Fn) Yk rfl (.d _) rfl hx17) <| Ue rfl rfl rfl (JA Gp rfl) <| Ue rfl rfl rfl (Js JG rfl rfl) <| Q9 rfl rfl (Um rfl) (Jt (α := UN) (x17.name) Ju Wo rfl rfl (Um rfl) (Um rfl) rfl rfl (.cons (.d _) .nil) rfl) ?_
 refine JC h1 (fun g18 h1 => ?_)
 refine Q9 rfl rfl (Um rfl) (Jh (α := UN) Ju KN rfl rfl rfl rfl rfl (.app _ _) g18) <| Ug rfl rfl rfl <| Q4 <| Qe <| Q3 <| Q0 <| Uf rfl rfl rfl <| Ue rfl rfl rfl (Q7 rfl rfl rfl) <| Ug rfl rfl rfl <| Q4 ?_
 have e := Uc h1; subst e
 refine QM ((s1.1 ++ ([x17.name])), (Jk (s1.2 + 1))) (Ub (Nat.zero_le _) rfl rfl rfl rfl rfl) ho1
 replace h1 := Ql c16 h1
 refine J1 <| Qn <| Qn ?_
 have e := Uc h1; subst e
 have e_ : _ = _ := ho1
 subst e_
 exact QP s1.1 (Ub (Nat.zero_le _) rfl rfl rfl rfl rfl) h0
 intro o14 h0
 refine QF <| Q3 <| Q5 <| Q0 <| Uf rfl rfl rfl <| Ug rfl rfl rfl <| Q4 <| Q3 <| QA ?_
 have e := Uc h0; subst e
 exact QL (fun _ _ h => h) rfl (Qz rfl .nil) (.cons (.one (.app _ _ _)) .nil)
 replace h0 := Ql c13 h0
 refine Qj <| Qe <| Q3 <| Q5 <| Q0 <| Ug rfl rfl rfl <| Q4 <| Q3 <| QA ?_
 have e := Uc h0; subst e
 exact QL (fun _ _ h => h) rfl (Qz rfl .nil) (.cons (.one (.nil _)) .nil)
def Zs (a1 : Tm) (rc : (List UN) × Tm → Option (((List UN)))) (s1 : (List UN) × Int) : Option (LO ((List UN) × Int) (((List UN)))) :=
 cond (decide (s1.2 < (a1.kids.length : Int)))
   (Option.bind (Yi a1.kids s1.2) fun (x5 : Tm) =>
 Option.bind (rc (s1.1, x5)) fun (x6 : ((List UN))) =>
 some (.next (x6, (Jk (s1.2 + 1)))))
   (some (.done s1.1))
def Xz (rc : (List UN) × Tm → Option (((List UN)))) (a0 : List UN) (a1 : Tm) : Option (((List UN))) :=
 Option.bind (cond (a1.kind == 3)
   (Option.bind (WU a0 a1.name) fun (x3 : Bool) =>
 some (!x3))
   (some false)) (fun (v1 : Bool) => Option.bind (cond v1
   (J8 (Nat.ble (a0.length + ([a1.name]).length) 1000000000)
 (some (a0 ++ ([a1.name]))))
   (some a0)) (fun (v2 : (List UN)) => Option.bind (QV (Zs a1 rc) J2 (v2, 0)) (fun (o3 : (List UN)) => some o3)))
def XA (rc : (List UN) × Tm → Option (((List UN)))) (u : (List UN) × Tm) : Option (((List UN))) := Xz rc u.1 u.2
def m60f18 (a0 : List UN) (a1 : Tm) : Option (((List UN))) := Yt XA J2 (a0, a1)
set_option maxRecDepth 100000 in
set_option maxHeartbeats 2000000 in
theorem m60f18s_ok (rc : (List UN) × Tm → Option (((List UN)))) (H : ∀ (a0 : List UN) (a1 : Tm) (r : ((List UN))), rc (a0, a1) = some r → CallM Try.prog 60 [.one (Uz 0 a0), .agg (UA a1)] ⟨[], [(0, some ⟨9, 1, (Enc.encL a0).length, []⟩)], 1⟩ (QD [.one (Uz 0 r)]) ⟨[], [(0, some ⟨9, 1, (Enc.encL r).length, []⟩)], 2⟩) (a0 : List UN) (a1 : Tm) (r : ((List UN))) (h0 : Xz rc a0 a1 = some r) : CallM Try.prog 60 [.one (Uz 0 a0), .agg (UA a1)] ⟨[], [(0, some ⟨9, 1, (Enc.encL a0).length, []⟩)], 1⟩ (QD [.one (Uz 0 r)]) ⟨[], [(0, some ⟨9, 1, (Enc.encL r).length, []⟩)], 2⟩ := by
 unfold Xz at h0
 refine QT ⟨[(4, .v (.one (Uz 0 r)))], [], [(0, some ⟨9, 1, (Enc.encL r).length, []⟩)], 2, 36, []⟩ rfl rfl en_60 (Um rfl) rfl (Qz rfl .nil) (fun w0 M V0 Q hv0 hQ0 => ?_)
 simp only [J7]
 refine Q5 <| Q0 <| Q9 rfl rfl (Um rfl) (QN rfl) <| Ug rfl rfl rfl <| Q4 <| Q3 <| Q5 <| Q5 ?_
 refine QS (fun (v1 : Bool) => ⟨[(0, .v (.one (Uz 0 a0))), (3, .v (.one (.ptr 1 0))), (15, .v (.one (Uy v1)))], [(1, .cells 33 (UA a1))], [(0, some ⟨9, 1, (Enc.encL a0).length, []⟩)], 2, 36, []⟩) (fun (v1 : Bool) => (Option.bind (cond v1
     (J8 (Nat.ble (a0.length + ([a1.name]).length) 1000000000)
   (some (a0 ++ ([a1.name]))))
     (some a0)) (fun (v2 : (List UN)) => Option.bind (QV (Zs a1 rc) J2 (v2, 0)) (fun (o3 : (List UN)) => some o3))) = some r) ?_ ?_
 refine Qb h0 (fun w1_ h1 h0 => ?_)
 refine Q0 <| Ue rfl rfl rfl (Q1 Y3 rfl) <| Ue rfl rfl rfl (Q6 QZ rfl rfl rfl) <| Ue rfl rfl rfl (Q7 rfl rfl rfl) <| Uf rfl rfl rfl ?_
 refine QG (d := 9) (c := (a1.kind == 3)) rfl (fun c2 => ?_) (fun c2 => ?_)
 replace h1 := Qk c2 h1
 refine Uf rfl rfl rfl <| Ue rfl rfl rfl (Q1 YF rfl) <| Ue rfl rfl rfl (Q6 JG rfl rfl rfl) ?_
 refine Qb h1 (fun x3 hx3 h1 => ?_)
 refine Q9 rfl rfl (Um rfl) (Qo (m77_ok a0 a1.name x3 hx3) rfl (.cons (.one (.app _ _ _)) (.cons (.one (.d _)) .nil))) <| Ue rfl rfl rfl (Jb rfl) <| Ue rfl rfl rfl (Qh rfl rfl) <| Q4 ?_
 have e := Uc h1; subst e
 exact Qc (!x3) (Ub (Nat.le_trans hv0 (Um rfl)) rfl rfl rfl rfl rfl) h0
 replace h1 := Ql c2 h1
 refine Q8 rfl rfl <| Q8 rfl rfl <| Q8 rfl rfl <| Q8 rfl rfl <| Q8 rfl rfl <| Ue rfl rfl rfl (Qd rfl rfl) <| Q4 ?_
 have e := Uc h1; subst e
 exact Qc false (Ub (Nat.le_trans hv0 (Um rfl)) rfl rfl rfl rfl rfl) h0
 intro v1 h0
 refine Q3 ?_
 refine QS (fun (v4 : (List UN)) => ⟨[(0, .v (.one (Uz 0 v4))), (3, .v (.one (.ptr 1 0)))], [(1, .cells 33 (UA a1))], [(0, some ⟨9, 1, (Enc.encL v4).length, []⟩)], 2, 36, []⟩) (fun (v4 : (List UN)) => (Option.bind (QV (Zs a1 rc) J2 (v4, 0)) (fun (o5 : (List UN)) => some o5)) = some r) ?_ ?_
 refine Qb h0 (fun w1_ h1 h0 => ?_)
 refine Qg (b := v1) rfl (fun c5 => ?_) (fun c5 => ?_)
 replace h1 := Qk c5 h1
 refine Q0 <| Uf rfl rfl rfl <| Ue rfl rfl rfl (Q1 YF rfl) <| Ue rfl rfl rfl (Q6 JG rfl rfl rfl) <| Q9 rfl rfl (Um rfl) (Jt (α := UN) (a1.name) Ju Wo rfl rfl (Um rfl) (Um rfl) rfl rfl (.cons (.d _) .nil) rfl) ?_
 refine JC h1 (fun g6 h1 => ?_)
 refine Q9 rfl rfl (Um rfl) (Jh (α := UN) Ju KN rfl rfl rfl rfl rfl (.app _ _) g6) <| Ug rfl rfl rfl <| Q4 ?_
 have e := Uc h1; subst e
 exact Qc (a0 ++ ([a1.name])) (Ub (Nat.le_trans hv0 (Um rfl)) rfl rfl rfl rfl rfl) h0
 replace h1 := Ql c5 h1
 refine Qj ?_
 have e := Uc h1; subst e
 exact Qc a0 (Ub (Nat.le_trans hv0 (Um rfl)) rfl rfl rfl rfl rfl) h0
 intro v4 h0
 refine Q3 <| Q5 <| Q5 <| Q0 <| Ug rfl rfl rfl <| Q4 <| Q3 <| Qf ?_
 refine QR 0 (fun (o7 : (List UN)) => ⟨[(0, .v (.one (Uz 0 o7)))], [(1, .cells 33 (UA a1))], [(0, some ⟨9, 1, (Enc.encL o7).length, []⟩)], 2, 36, []⟩) (fun (o7 : (List UN)) => (some o7) = some r) ?_ ?_
 refine Qb h0 (fun o8 hl1 h0 => ?_)
 refine QQ (Zs a1 rc) (fun s1 => ⟨[(0, .v (.one (Uz 0 s1.1))), (3, .v (.one (.ptr 1 0))), (5, .v (.one (Ux s1.2)))], [(1, .cells 33 (UA a1))], [(0, some ⟨9, 1, (Enc.encL s1.1).length, []⟩)], 2, 36, []⟩) (v4, 0) o8 (Ub (Nat.le_trans hv0 (Um rfl)) rfl rfl rfl rfl rfl) hl1 (fun s1 n1 oo1 h1 ho1 => ?_)
 unfold Zs at h1
 refine Q5 <| Q5 <| Q0 <| Uf rfl rfl rfl <| Ue rfl rfl rfl (Q1 JJ rfl) <| Ue rfl rfl rfl (Q6 JH rfl rfl rfl) <| Ue rfl rfl rfl (Qx (α := Tm) Ji rfl (.d _)) <| Ue rfl rfl rfl (Q7 rfl rfl rfl) <| Q4 <| Q3 ?_
 refine Qg (b := (decide (s1.2 < (a1.kids.length : Int)))) rfl (fun c9 => ?_) (fun c9 => ?_)
 replace h1 := Qk c9 h1
 refine Qj <| Q3 <| Q5 <| Qf <| Q0 <| Uf rfl rfl rfl <| Ue rfl rfl rfl (Q1 JJ rfl) <| Ue rfl rfl rfl (Q6 JH rfl rfl rfl) <| Uf rfl rfl rfl ?_
 refine Qb h1 (fun x10 hx10 h1 => ?_)
 refine Ue rfl rfl rfl (Qq (α := Tm) Ji rfl (.d _) rfl hx10) <| Ue rfl rfl rfl (Qv (x10 : Tm) QW rfl) ?_
 refine Qb h1 (fun x11 hx11 h1 => ?_)
 refine Q9 rfl rfl (Um rfl) (J4 (hp1' := []) (tk1' := [(0, some ⟨9, 1, (Enc.encL x11).length, []⟩)]) (hpF := [(1, .cells 33 (UA a1))]) (tkF := []) (res2 := QD [.one (Uz 0 x11)]) (nx2 := 3) [0] rfl rfl (H s1.1 x10 x11 hx11) rfl rfl Uh rfl rfl Us (Uq rfl Up) (hA rfl) Un rfl rfl rfl rfl rfl UD rfl rfl rfl rfl) <| Ug rfl rfl rfl <| Q4 <| Qe <| Q3 <| Q0 <| Uf rfl rfl rfl <| Ue rfl rfl rfl (Q7 rfl rfl rfl) <| Ug rfl rfl rfl <| Q4 ?_
 have e := Uc h1; subst e
 refine QM (x11, (Jk (s1.2 + 1))) (Ub (Nat.le_trans hv0 (Um rfl)) rfl rfl rfl rfl rfl) ho1
 replace h1 := Ql c9 h1
 refine J1 <| Qn <| Qn ?_
 have e := Uc h1; subst e
 have e_ : _ = _ := ho1
 subst e_
 exact QP s1.1 (Ub (Nat.le_trans hv0 (Um rfl)) rfl rfl rfl rfl rfl) h0
 intro o7 h0
 refine QF <| Q3 <| Q5 <| Q0 <| Uf rfl rfl rfl <| Ug rfl rfl rfl <| Q4 <| Q3 <| QA ?_
 have e := Uc h0; subst e
 exact hQ0 _ _ _ (.inr rfl) rfl (Ub (Nat.le_trans hv0 (Um rfl)) rfl rfl rfl rfl rfl)
theorem m60f18_all (n : Nat) (u : (List UN) × Tm) (r : ((List UN))) (h0 : Yt XA n u = some r) : CallM Try.prog 60 [.one (Uz 0 u.1), .agg (UA u.2)] ⟨[], [(0, some ⟨9, 1, (Enc.encL u.1).length, []⟩)], 1⟩ (QD [.one (Uz 0 r)]) ⟨[], [(0, some ⟨9, 1, (Enc.encL r).length, []⟩)], 2⟩ :=
 YB (C := fun u r => CallM Try.prog 60 [.one (Uz 0 u.1), .agg (UA u.2)] ⟨[], [(0, some ⟨9, 1, (Enc.encL u.1).length, []⟩)], 1⟩ (QD [.one (Uz 0 r)]) ⟨[], [(0, some ⟨9, 1, (Enc.encL r).length, []⟩)], 2⟩) (fun rc H u r h => m60f18s_ok rc (fun a0 a1 r h => H (a0, a1) r h) u.1 u.2 r h) n u r h0
theorem m60f18_ok (a0 : List UN) (a1 : Tm) (r : ((List UN))) (h0 : m60f18 a0 a1 = some r) : CallM Try.prog 60 [.one (Uz 0 a0), .agg (UA a1)] ⟨[], [(0, some ⟨9, 1, (Enc.encL a0).length, []⟩)], 1⟩ (QD [.one (Uz 0 r)]) ⟨[], [(0, some ⟨9, 1, (Enc.encL r).length, []⟩)], 2⟩ := m60f18_all J2 (a0, a1) r h0
def Zv (a0 : Tm) (s2 : (List UN) × Int) : Option (LO ((List UN) × Int) (((List UN)))) :=
 cond (decide (s2.2 < (a0.kids.length : Int)))
   (Option.bind (Yi a0.kids s2.2) fun (x7 : Tm) =>
 Option.bind (m60f18 s2.1 x7) fun (x8 : ((List UN))) =>
 some (.next (x8, (Jk (s2.2 + 1)))))
   (some (.done s2.1))
def Kb (a0 : Tm) : Option (((List UN))) :=
 Option.bind (Option.bind (cond (a0.kind == 3)
   (Option.bind (WU ([] : List UN) a0.name) fun (x5 : Bool) =>
 some (!x5))
   (some false)) (fun (v3 : Bool) => Option.bind (cond v3
   (J8 (Nat.ble ([a0.name]).length 1000000000)
 (some ([a0.name])))
   (some ([] : List UN))) (fun (v4 : (List UN)) => Option.bind (QV (Zv a0) J2 (v4, 0)) (fun (o5 : (List UN)) => some o5)))) (fun (y1 : (List UN)) => some y1)
set_option maxRecDepth 100000 in
set_option maxHeartbeats 2000000 in
theorem ZZ (a0 : Tm) (r : ((List UN))) (h0 : Kb a0 = some r) : CallM Try.prog 40 [.agg (UA a0)] ⟨[], [], 0⟩ (QD [.one (Uz 3 r)]) ⟨[], [(3, some ⟨9, 1, (Enc.encL r).length, []⟩)], 4⟩ := by
 unfold Kb at h0
 refine QT ⟨[(2, .v (.one (Uz 3 r)))], [], [(3, some ⟨9, 1, (Enc.encL r).length, []⟩)], 4, 5, []⟩ rfl rfl en_40 (Um rfl) rfl (Qz rfl .nil) (fun w0 M V0 Q hv0 hQ0 => ?_)
 simp only [J7]
 refine Q5 <| Q0 <| Q9 rfl rfl (Um rfl) (QN rfl) <| Ug rfl rfl rfl <| Q4 <| Q3 <| Q5 <| Q0 <| Ue rfl rfl rfl (QK (a0 : Tm) QW rfl rfl) ?_
 refine Qb h0 (fun y1 h1 h0 => ?_)
 have hc2 : CallM Try.prog 60 [.one (Uw), .agg (UA a0)] ⟨[(0, .cells 33 (UA a0))], [], 1⟩ (QD [.one (Uz 3 y1)]) ⟨[(0, .cells 33 (UA a0))], [(3, some ⟨9, 1, (Enc.encL y1).length, []⟩)], 4⟩ := by
  refine QT ⟨[(4, .v (.one (Uz 3 y1)))], [(0, .cells 33 (UA a0))], [(3, some ⟨9, 1, (Enc.encL y1).length, []⟩)], 4, 36, []⟩ rfl rfl en_60 (Um rfl) rfl (Qz rfl .nil) (fun w0 M V0 Q hv1 hQ1 => ?_)
  simp only [J7]
  refine Q5 <| Q0 <| Q9 rfl rfl (Um rfl) (QN rfl) <| Ug rfl rfl rfl <| Q4 <| Q3 <| Q5 <| Q5 ?_
  refine QS (fun (v3 : Bool) => ⟨[(0, .v (.one (Uw))), (3, .v (.one (.ptr 1 0))), (15, .v (.one (Uy v3)))], [(0, .cells 33 (UA a0)), (1, .cells 33 (UA a0))], [], 2, 36, []⟩) (fun (v3 : Bool) => (Option.bind (cond v3
      (J8 (Nat.ble ([a0.name]).length 1000000000)
    (some ([a0.name])))
      (some ([] : List UN))) (fun (v4 : (List UN)) => Option.bind (QV (Zv a0) J2 (v4, 0)) (fun (o5 : (List UN)) => some o5))) = some y1) ?_ ?_
  refine Qb h1 (fun w2_ h2 h1 => ?_)
  refine Q0 <| Ue rfl rfl rfl (Q1 Y3 rfl) <| Ue rfl rfl rfl (Q6 QZ rfl rfl rfl) <| Ue rfl rfl rfl (Q7 rfl rfl rfl) <| Uf rfl rfl rfl ?_
  refine QG (d := 9) (c := (a0.kind == 3)) rfl (fun c4 => ?_) (fun c4 => ?_)
  replace h2 := Qk c4 h2
  refine Uf rfl rfl rfl <| Ue rfl rfl rfl (Q1 YF rfl) <| Ue rfl rfl rfl (Q6 JG rfl rfl rfl) ?_
  refine Qb h2 (fun x5 hx5 h2 => ?_)
  refine Q9 rfl rfl (Um rfl) (Qo (m77_ok ([] : List UN) a0.name x5 hx5) rfl (.cons (.one (.nil _)) (.cons (.one (.d _)) .nil))) <| Ue rfl rfl rfl (Jb rfl) <| Ue rfl rfl rfl (Qh rfl rfl) <| Q4 ?_
  have e := Uc h2; subst e
  exact Qc (!x5) (Ub (Nat.le_trans hv1 (Um rfl)) rfl rfl rfl rfl rfl) h1
  replace h2 := Ql c4 h2
  refine Q8 rfl rfl <| Q8 rfl rfl <| Q8 rfl rfl <| Q8 rfl rfl <| Q8 rfl rfl <| Ue rfl rfl rfl (Qd rfl rfl) <| Q4 ?_
  have e := Uc h2; subst e
  exact Qc false (Ub (Nat.le_trans hv1 (Um rfl)) rfl rfl rfl rfl rfl) h1
  intro v3 h1
  refine Q3 ?_
  refine QS (fun (v6 : (List UN)) => ⟨[(0, .v (.one (Uz 3 v6))), (3, .v (.one (.ptr 1 0)))], [(0, .cells 33 (UA a0)), (1, .cells 33 (UA a0))], [(3, some ⟨9, 1, (Enc.encL v6).length, []⟩)], 4, 36, []⟩) (fun (v6 : (List UN)) => (Option.bind (QV (Zv a0) J2 (v6, 0)) (fun (o7 : (List UN)) => some o7)) = some y1) ?_ ?_
  refine Qb h1 (fun w2_ h2 h1 => ?_)
  refine Qg (b := v3) rfl (fun c7 => ?_) (fun c7 => ?_)
  replace h2 := Qk c7 h2
  refine Q0 <| Uf rfl rfl rfl <| Ue rfl rfl rfl (Q1 YF rfl) <| Ue rfl rfl rfl (Q6 JG rfl rfl rfl) <| Q9 rfl rfl (Um rfl) (Jt (α := UN) (a0.name) Ju Wo rfl rfl (Um rfl) (Um rfl) rfl rfl (.cons (.d _) .nil) rfl) ?_
  refine JC h2 (fun g8 h2 => ?_)
  refine Q9 rfl rfl (Um rfl) (OpOK.appendNilE (α := UN) Ju KN rfl rfl rfl (.app _ _) g8) <| Ug rfl rfl rfl <| Q4 ?_
  have e := Uc h2; subst e
  exact Qc ([a0.name]) (Ub (Nat.le_trans hv1 (Um rfl)) rfl rfl rfl rfl rfl) h1
  replace h2 := Ql c7 h2
  refine Qj ?_
  have e := Uc h2; subst e
  refine XQ.skipTo 3 (Um rfl) <| XQ.adoptT (t := 0) 9 1 rfl ?_
  exact Qc ([] : List UN) (Ub (Nat.le_trans hv1 (Um rfl)) rfl rfl rfl rfl rfl) h1
  intro v6 h1
  refine Q3 <| Q5 <| Q5 <| Q0 <| Ug rfl rfl rfl <| Q4 <| Q3 <| Qf ?_
  refine QR 0 (fun (o9 : (List UN)) => ⟨[(0, .v (.one (Uz 3 o9)))], [(0, .cells 33 (UA a0)), (1, .cells 33 (UA a0))], [(3, some ⟨9, 1, (Enc.encL o9).length, []⟩)], 4, 36, []⟩) (fun (o9 : (List UN)) => (some o9) = some y1) ?_ ?_
  refine Qb h1 (fun o10 hl2 h1 => ?_)
  refine QQ (Zv a0) (fun s2 => ⟨[(0, .v (.one (Uz 3 s2.1))), (3, .v (.one (.ptr 1 0))), (5, .v (.one (Ux s2.2)))], [(0, .cells 33 (UA a0)), (1, .cells 33 (UA a0))], [(3, some ⟨9, 1, (Enc.encL s2.1).length, []⟩)], 4, 36, []⟩) (v6, 0) o10 (Ub (Nat.le_trans hv1 (Um rfl)) rfl rfl rfl rfl rfl) hl2 (fun s2 n2 oo2 h2 ho2 => ?_)
  unfold Zv at h2
  refine Q5 <| Q5 <| Q0 <| Uf rfl rfl rfl <| Ue rfl rfl rfl (Q1 JJ rfl) <| Ue rfl rfl rfl (Q6 JH rfl rfl rfl) <| Ue rfl rfl rfl (Qx (α := Tm) Ji rfl (.d _)) <| Ue rfl rfl rfl (Q7 rfl rfl rfl) <| Q4 <| Q3 ?_
  refine Qg (b := (decide (s2.2 < (a0.kids.length : Int)))) rfl (fun c11 => ?_) (fun c11 => ?_)
  replace h2 := Qk c11 h2
  refine Qj <| Q3 <| Q5 <| Qf <| Q0 <| Uf rfl rfl rfl <| Ue rfl rfl rfl (Q1 JJ rfl) <| Ue rfl rfl rfl (Q6 JH rfl rfl rfl) <| Uf rfl rfl rfl ?_
  refine Qb h2 (fun x12 hx12 h2 => ?_)
  refine Ue rfl rfl rfl (Qq (α := Tm) Ji rfl (.d _) rfl hx12) <| Ue rfl rfl rfl (Qv (x12 : Tm) QW rfl) ?_
  refine Qb h2 (fun x13 hx13 h2 => ?_)
  refine Q9 rfl rfl (Um rfl) (J4 (hp1' := []) (tk1' := [(3, some ⟨9, 1, (Enc.encL x13).length, []⟩)]) (hpF := [(0, .cells 33 (UA a0)), (1, .cells 33 (UA a0))]) (tkF := []) (res2 := QD [.one (Uz 3 x13)]) (nx2 := 5) [3] rfl rfl (m60f18_ok s2.1 x12 x13 hx13) rfl rfl Uh rfl rfl Us (Uq rfl Up) (hA rfl) Un rfl rfl rfl rfl rfl UD rfl rfl rfl rfl) <| Ug rfl rfl rfl <| Q4 <| Qe <| Q3 <| Q0 <| Uf rfl rfl rfl <| Ue rfl rfl rfl (Q7 rfl rfl rfl) <| Ug rfl rfl rfl <| Q4 ?_
  have e := Uc h2; subst e
  refine QM (x13, (Jk (s2.2 + 1))) (Ub (Nat.le_trans hv1 (Um rfl)) rfl rfl rfl rfl rfl) ho2
  replace h2 := Ql c11 h2
  refine J1 <| Qn <| Qn ?_
  have e := Uc h2; subst e
  have e_ : _ = _ := ho2
  subst e_
  exact QP s2.1 (Ub (Nat.le_trans hv1 (Um rfl)) rfl rfl rfl rfl rfl) h1
  intro o9 h1
  refine QF <| Q3 <| Q5 <| Q0 <| Uf rfl rfl rfl <| Ug rfl rfl rfl <| Q4 <| Q3 <| QA ?_
  have e := Uc h1; subst e
  exact hQ1 _ _ _ (.inr rfl) rfl (Ub (Nat.le_trans hv1 (Um rfl)) rfl rfl rfl rfl rfl)
 refine Q9 rfl rfl (Um rfl) (JM rfl rfl rfl hc2 rfl (hA rfl) Un) <| Ug rfl rfl rfl <| Q4 <| Q3 <| QA ?_
 have e := Uc h0; subst e
 exact hQ0 _ _ _ (.inr rfl) rfl (Ub (Nat.le_trans hv0 (Um rfl)) rfl rfl rfl rfl rfl)
def Kt (a0 : Tr) (rc : Tr × (List UN) → Option (((List UN)))) (s1 : (List UN) × Int) : Option (LO ((List UN) × Int) (((List UN)))) :=
 cond (decide (s1.2 < (a0.branches.length : Int)))
   (Option.bind (Yi a0.branches s1.2) fun (x6 : UO) =>
 J8 (Nat.ble (s1.1.length + ([x6.ctor]).length) 1000000000)
 (Option.bind (Yi a0.branches s1.2) fun (x8 : UO) =>
 cond (!x8.absurd)
   (Option.bind (Yi a0.branches s1.2) fun (x10 : UO) =>
 Option.bind (rc (x10.tree, (s1.1 ++ ([x6.ctor])))) fun (x11 : ((List UN))) =>
 some (.next (x11, (Jk (s1.2 + 1)))))
   (some (.next ((s1.1 ++ ([x6.ctor])), (Jk (s1.2 + 1)))))))
   (some (.done s1.1))
def XE (rc : Tr × (List UN) → Option (((List UN)))) (a0 : Tr) (a1 : List UN) : Option (((List UN))) :=
 cond (a0.kind == 0)
   (Option.bind (Kb a0.body) fun (x2 : ((List UN))) =>
 J8 (Nat.ble (a1.length + x2.length) 1000000000)
 (some (a1 ++ x2)))
   (Option.bind (QV (Kt a0 rc) J2 (a1, 0)) (fun (o4 : (List UN)) => some o4))
def XF (rc : Tr × (List UN) → Option (((List UN)))) (u : Tr × (List UN)) : Option (((List UN))) := XE rc u.1 u.2
def m41f19 (a0 : Tr) (a1 : List UN) : Option (((List UN))) := Yt XF J2 (a0, a1)
set_option maxRecDepth 100000 in
set_option maxHeartbeats 2000000 in
theorem m41f19s_ok (rc : Tr × (List UN) → Option (((List UN)))) (H : ∀ (a0 : Tr) (a1 : List UN) (r : ((List UN))), rc (a0, a1) = some r → CallM Try.prog 41 [.agg (UA a0), .one (Uz 0 a1)] ⟨[], [(0, some ⟨9, 1, (Enc.encL a1).length, []⟩)], 1⟩ (QD [.one (Uz 0 r)]) ⟨[], [(0, some ⟨9, 1, (Enc.encL r).length, []⟩)], 2⟩) (a0 : Tr) (a1 : List UN) (r : ((List UN))) (h0 : XE rc a0 a1 = some r) : CallM Try.prog 41 [.agg (UA a0), .one (Uz 0 a1)] ⟨[], [(0, some ⟨9, 1, (Enc.encL a1).length, []⟩)], 1⟩ (QD [.one (Uz 0 r)]) ⟨[], [(0, some ⟨9, 1, (Enc.encL r).length, []⟩)], 2⟩ := by
 unfold XE at h0
 refine QT ⟨[(4, .v (.one (Uz 0 r)))], [], [(0, some ⟨9, 1, (Enc.encL r).length, []⟩)], 2, 46, []⟩ rfl rfl en_41 (Um rfl) rfl (Qz rfl .nil) (fun w0 M V0 Q hv0 hQ0 => ?_)
 simp only [J7]
 refine Q5 <| Q0 <| Q9 rfl rfl (Um rfl) (QN rfl) <| Ug rfl rfl rfl <| Q4 <| Q3 <| Q5 <| Q5 <| Q0 <| Ue rfl rfl rfl (Q1 XG rfl) <| Ue rfl rfl rfl (Q6 QZ rfl rfl rfl) <| Ue rfl rfl rfl (Q7 rfl rfl rfl) <| Q4 <| Q3 ?_
 refine Qg (b := (a0.kind == 0)) rfl (fun c1 => ?_) (fun c1 => ?_)
 replace h0 := Qk c1 h0
 refine Q5 <| Q0 <| Uf rfl rfl rfl <| Ue rfl rfl rfl (Q1 X0 rfl) <| Ue rfl rfl rfl (Qi QW rfl rfl rfl rfl) ?_
 refine Qb h0 (fun x2 hx2 h0 => ?_)
 refine Q9 rfl rfl (Um rfl) (J4 (hp1' := []) (tk1' := [(5, some ⟨9, 1, (Enc.encL x2).length, []⟩)]) (hpF := [(1, .cells 74 (UA a0))]) (tkF := [(0, some ⟨9, 1, (Enc.encL a1).length, []⟩)]) (res2 := QD [.one (Uz 5 x2)]) (nx2 := 6) [] rfl rfl (ZZ a0.body x2 hx2) rfl rfl Uh rfl rfl Us Up (hA rfl) (Uo rfl) rfl rfl rfl rfl rfl UD rfl rfl rfl rfl) ?_
 refine JC h0 (fun g3 h0 => ?_)
 refine Q9 rfl rfl (Um rfl) (Jh (α := UN) Ju KN rfl rfl rfl rfl rfl (.app _ _) g3) <| Ug rfl rfl rfl <| Q4 <| Q3 <| QA ?_
 have e := Uc h0; subst e
 exact hQ0 _ _ _ (.inr rfl) rfl (Ub (Nat.le_trans hv0 (Um rfl)) rfl rfl rfl rfl rfl)
 replace h0 := Ql c1 h0
 refine Qj <| Q3 <| Q5 <| Q5 <| Q0 <| Ug rfl rfl rfl <| Q4 <| Q3 <| Qf ?_
 refine QR 0 (fun (o4 : (List UN)) => ⟨[(1, .v (.one (Uz 0 o4)))], [(1, .cells 74 (UA a0))], [(0, some ⟨9, 1, (Enc.encL o4).length, []⟩)], 2, 46, []⟩) (fun (o4 : (List UN)) => (some o4) = some r) ?_ ?_
 refine Qb h0 (fun o5 hl1 h0 => ?_)
 refine QQ (Kt a0 rc) (fun s1 => ⟨[(1, .v (.one (Uz 0 s1.1))), (2, .v (.one (.ptr 1 0))), (5, .v (.one (Ux s1.2)))], [(1, .cells 74 (UA a0))], [(0, some ⟨9, 1, (Enc.encL s1.1).length, []⟩)], 2, 46, []⟩) (a1, 0) o5 (Ub (Nat.le_trans hv0 (Um rfl)) rfl rfl rfl rfl rfl) hl1 (fun s1 n1 oo1 h1 ho1 => ?_)
 unfold Kt at h1
 refine Q5 <| Q5 <| Q0 <| Uf rfl rfl rfl <| Ue rfl rfl rfl (Q1 Za rfl) <| Ue rfl rfl rfl (Q6 Gd rfl rfl rfl) <| Ue rfl rfl rfl (Qx (α := UO) Kx rfl (.d _)) <| Ue rfl rfl rfl (Q7 rfl rfl rfl) <| Q4 <| Q3 ?_
 refine Qg (b := (decide (s1.2 < (a0.branches.length : Int)))) rfl (fun c6 => ?_) (fun c6 => ?_)
 replace h1 := Qk c6 h1
 refine Qj <| Q3 <| Q5 <| Qf <| Q5 <| Q0 <| Uf rfl rfl rfl <| Ue rfl rfl rfl (Q1 Za rfl) <| Ue rfl rfl rfl (Q6 Gd rfl rfl rfl) <| Uf rfl rfl rfl ?_
 refine Qb h1 (fun x7 hx7 h1 => ?_)
 refine Ue rfl rfl rfl (Qq (α := UO) Kx rfl (.d _) rfl hx7) <| Ue rfl rfl rfl (JA GQ rfl) <| Ue rfl rfl rfl (Js JG rfl rfl) <| Q9 rfl rfl (Um rfl) (Jt (α := UN) (x7.ctor) Ju Wo rfl rfl (Um rfl) (Um rfl) rfl rfl (.cons (.d _) .nil) rfl) ?_
 refine JC h1 (fun g8 h1 => ?_)
 refine Q9 rfl rfl (Um rfl) (Jh (α := UN) Ju KN rfl rfl rfl rfl rfl (.app _ _) g8) <| Ug rfl rfl rfl <| Q4 <| Q3 <| Q5 <| Q0 <| Ue rfl rfl rfl (Q1 Za rfl) <| Ue rfl rfl rfl (Q6 Gd rfl rfl rfl) <| Uf rfl rfl rfl ?_
 refine Qb h1 (fun x9 hx9 h1 => ?_)
 refine Ue rfl rfl rfl (Qq (α := UO) Kx rfl (.d _) rfl hx9) <| Ue rfl rfl rfl (JA fo_101_1 rfl) <| Ue rfl rfl rfl (Js WC rfl rfl) <| Ue rfl rfl rfl (Jb rfl) <| Q4 <| Q3 ?_
 refine Qg (b := (!x9.absurd)) rfl (fun c10 => ?_) (fun c10 => ?_)
 replace h1 := Qk c10 h1
 refine Q0 <| Ue rfl rfl rfl (Q1 Za rfl) <| Ue rfl rfl rfl (Q6 Gd rfl rfl rfl) <| Uf rfl rfl rfl ?_
 refine Qb h1 (fun x11 hx11 h1 => ?_)
 refine Ue rfl rfl rfl (Qq (α := UO) Kx rfl (.d _) rfl hx11) <| Ue rfl rfl rfl (JA GP rfl) <| Ue rfl rfl rfl (Y6 X9 rfl rfl rfl) <| Uf rfl rfl rfl ?_
 refine Qb h1 (fun x12 hx12 h1 => ?_)
 refine Q9 rfl rfl (Um rfl) (J4 (hp1' := []) (tk1' := [(0, some ⟨9, 1, (Enc.encL x12).length, []⟩)]) (hpF := [(1, .cells 74 (UA a0))]) (tkF := [(2, some ⟨9, 1, (Enc.encL ([x7.ctor] : List UN)).length, []⟩)]) (res2 := QD [.one (Uz 0 x12)]) (nx2 := 4) [0] rfl rfl (H x11.tree (s1.1 ++ ([x7.ctor])) x12 hx12) rfl rfl Uh rfl rfl Us (Uq rfl Up) (hA rfl) (Uo rfl) rfl rfl rfl rfl rfl UD rfl rfl rfl rfl) <| Ug rfl rfl rfl <| Q4 <| Qe <| Q3 <| Q0 <| Uf rfl rfl rfl <| Ue rfl rfl rfl (Q7 rfl rfl rfl) <| Ug rfl rfl rfl <| Q4 ?_
 have e := Uc h1; subst e
 refine QM (x12, (Jk (s1.2 + 1))) (Ub (Nat.le_trans hv0 (Um rfl)) rfl rfl rfl rfl rfl) ho1
 replace h1 := Ql c10 h1
 refine Qj <| Qe <| Q3 <| Q0 <| Uf rfl rfl rfl <| Ue rfl rfl rfl (Q7 rfl rfl rfl) <| Ug rfl rfl rfl <| Q4 ?_
 have e := Uc h1; subst e
 refine QM ((s1.1 ++ ([x7.ctor])), (Jk (s1.2 + 1))) (Ub (Nat.le_trans hv0 (Um rfl)) rfl rfl rfl rfl rfl) ho1
 replace h1 := Ql c6 h1
 refine J1 <| Qn <| Qn ?_
 have e := Uc h1; subst e
 have e_ : _ = _ := ho1
 subst e_
 exact QP s1.1 (Ub (Nat.le_trans hv0 (Um rfl)) rfl rfl rfl rfl rfl) h0
 intro o4 h0
 refine QF <| Q3 <| Q5 <| Q0 <| Uf rfl rfl rfl <| Ug rfl rfl rfl <| Q4 <| Q3 <| QA ?_
 have e := Uc h0; subst e
 exact hQ0 _ _ _ (.inr rfl) rfl (Ub (Nat.le_trans hv0 (Um rfl)) rfl rfl rfl rfl rfl)
theorem m41f19_all (n : Nat) (u : Tr × (List UN)) (r : ((List UN))) (h0 : Yt XF n u = some r) : CallM Try.prog 41 [.agg (UA u.1), .one (Uz 0 u.2)] ⟨[], [(0, some ⟨9, 1, (Enc.encL u.2).length, []⟩)], 1⟩ (QD [.one (Uz 0 r)]) ⟨[], [(0, some ⟨9, 1, (Enc.encL r).length, []⟩)], 2⟩ :=
 YB (C := fun u r => CallM Try.prog 41 [.agg (UA u.1), .one (Uz 0 u.2)] ⟨[], [(0, some ⟨9, 1, (Enc.encL u.2).length, []⟩)], 1⟩ (QD [.one (Uz 0 r)]) ⟨[], [(0, some ⟨9, 1, (Enc.encL r).length, []⟩)], 2⟩) (fun rc H u r h => m41f19s_ok rc (fun a0 a1 r h => H (a0, a1) r h) u.1 u.2 r h) n u r h0
theorem m41f19_ok (a0 : Tr) (a1 : List UN) (r : ((List UN))) (h0 : m41f19 a0 a1 = some r) : CallM Try.prog 41 [.agg (UA a0), .one (Uz 0 a1)] ⟨[], [(0, some ⟨9, 1, (Enc.encL a1).length, []⟩)], 1⟩ (QD [.one (Uz 0 r)]) ⟨[], [(0, some ⟨9, 1, (Enc.encL r).length, []⟩)], 2⟩ := m41f19_all J2 (a0, a1) r h0
def XU (a0 : Dcl) (s1 : (List UN) × Int) : Option (LO ((List UN) × Int) (((List UN)))) :=
 cond (decide (s1.2 < (a0.ctors.length : Int)))
   (Option.bind (Yi a0.ctors s1.2) fun (x6 : Ctr) =>
 Option.bind (Kb x6.ty) fun (x7 : ((List UN))) =>
 J8 (Nat.ble (s1.1.length + x7.length) 1000000000)
 (some (.next ((s1.1 ++ x7), (Jk (s1.2 + 1))))))
   (some (.done s1.1))
def Xj (a0 : Dcl) (s1 : (List UN) × Int) : Option (LO ((List UN) × Int) (((List UN)))) :=
 cond (decide (s1.2 < (a0.rcr.rules.length : Int)))
   (Option.bind (Yi a0.rcr.rules s1.2) fun (x9 : Tm) =>
 Option.bind (Kb x9) fun (x10 : ((List UN))) =>
 J8 (Nat.ble (s1.1.length + x10.length) 1000000000)
 (some (.next ((s1.1 ++ x10), (Jk (s1.2 + 1))))))
   (some (.done s1.1))
def GC (a0 : Dcl) (s1 : (List UN) × Int) : Option (LO ((List UN) × Int) (((List UN)))) :=
 cond (decide (s1.2 < (a0.funs.length : Int)))
   (Option.bind (Yi a0.funs s1.2) fun (x10 : Fn) =>
 Option.bind (Kb x10.ty) fun (x11 : ((List UN))) =>
 J8 (Nat.ble (s1.1.length + x11.length) 1000000000)
 (some (.next ((s1.1 ++ x11), (Jk (s1.2 + 1))))))
   (some (.done s1.1))
def Gk (a0 : Dcl) (s1 : (List UN) × Int) : Option (LO ((List UN) × Int) (((List UN)))) :=
 cond (decide (s1.2 < (a0.funs.length : Int)))
   (Option.bind (Yi a0.funs s1.2) fun (x11 : Fn) =>
 Option.bind (m41f19 x11.tree s1.1) fun (x12 : ((List UN))) =>
 some (.next (x12, (Jk (s1.2 + 1)))))
   (some (.done s1.1))
def KC (o9 : (List UN)) (x10 : (List UN)) (s1 : (List UN) × Int) : Option (LO ((List UN) × Int) (((List UN)))) :=
 cond (decide (s1.2 < (o9.length : Int)))
   (Option.bind (Option.bind (Yi o9 s1.2) fun (x14 : UN) =>
 Option.bind (U5 x10 x14) fun (x15 : Bool) =>
 cond (!x15)
   (Option.bind (Yi o9 s1.2) fun (x17 : UN) =>
 Option.bind (U5 s1.1 x17) fun (x18 : Bool) =>
 some (!x18))
   (some false)) (fun (v13 : Bool) => cond v13
   (Option.bind (Yi o9 s1.2) fun (x15 : UN) =>
 J8 (Nat.ble (s1.1.length + ([x15]).length) 1000000000)
 (some (.next ((s1.1 ++ ([x15])), (Jk (s1.2 + 1))))))
   (some (.next (s1.1, (Jk (s1.2 + 1)))))))
   (some (.done s1.1))
def U1 (a0 : Dcl) : Option ((List UN)) :=
 Option.bind (Kb a0.ty) fun (x1 : ((List UN))) =>
 Option.bind (Kb a0.value) fun (x2 : ((List UN))) =>
 J8 (Nat.ble (x1.length + x2.length) 1000000000)
 (Option.bind (QV (XU a0) J2 ((x1 ++ x2), 0)) (fun (o4 : (List UN)) => Option.bind (Kb a0.rcr.ty) fun (x5 : ((List UN))) =>
 J8 (Nat.ble (o4.length + x5.length) 1000000000)
 (Option.bind (QV (Xj a0) J2 ((o4 ++ x5), 0)) (fun (o7 : (List UN)) => Option.bind (QV (GC a0) J2 (o7, 0)) (fun (o8 : (List UN)) => Option.bind (QV (Gk a0) J2 (o8, 0)) (fun (o9 : (List UN)) => Option.bind (WO a0) fun (x10 : (List UN)) =>
 Option.bind (QV (KC o9 x10) J2 (([] : List UN), 0)) (fun (o11 : (List UN)) => some o11)))))))
set_option maxRecDepth 100000 in
set_option maxHeartbeats 2000000 in
theorem m25_ok (a0 : Dcl) (r : (List UN)) (h0 : U1 a0 = some r) : Fun Try.prog 25 [.agg (UA a0)] (QD [.one (Uv r)]) := by
 unfold U1 at h0
 refine QY 9 120 Try.func25 rfl en_25 rfl (Um rfl) (fun S w => ?_)
 simp only [J7]
 refine Q5 <| Q0 <| Q9 rfl rfl (Um rfl) (QN rfl) <| Ug rfl rfl rfl <| Q4 <| Q3 <| Q5 ?_
 refine Jv [2, 5, 6] [(3, 0), (4, 0)] YI (by kernel_rfl) (by kernel_rfl) (by kernel_rfl) ?_
 refine RunA.rd rfl rfl rfl (Q2 (Q1 K4 rfl)) rfl <| RunA.rd rfl rfl rfl (Q2 (Qi QW rfl rfl rfl rfl)) rfl ?_
 refine Qb h0 (fun x1 hx1 h0 => ?_)
 refine RunA.eff rfl rfl rfl (J4 (hp1' := []) (tk1' := [(4, some ⟨9, 1, (Enc.encL x1).length, []⟩)]) (hpF := [(0, .cells 45 (UA a0))]) (tkF := []) (res2 := QD [.one (Uz 4 x1)]) (nx2 := 5) [] rfl rfl (ZZ a0.ty x1 hx1) rfl rfl Uh rfl rfl Us Up (hA rfl) Un rfl rfl rfl rfl rfl UD rfl rfl rfl rfl) rfl <| RunA.rd rfl rfl rfl (Q2 (Q1 X1 rfl)) rfl <| RunA.rd rfl rfl rfl (Q2 (Qi QW rfl rfl rfl rfl)) rfl ?_
 refine Qb h0 (fun x2 hx2 h0 => ?_)
 refine RunA.eff rfl rfl rfl (J4 (hp1' := []) (tk1' := [(8, some ⟨9, 1, (Enc.encL x2).length, []⟩)]) (hpF := [(0, .cells 45 (UA a0))]) (tkF := [(4, some ⟨9, 1, (Enc.encL x1).length, []⟩)]) (res2 := QD [.one (Uz 8 x2)]) (nx2 := 9) [] rfl rfl (ZZ a0.value x2 hx2) rfl rfl Uh rfl rfl Us Up (hA rfl) (Uo rfl) rfl rfl rfl rfl rfl UD rfl rfl rfl rfl) rfl ?_
 refine JC h0 (fun g3 h0 => ?_)
 refine RunA.eff rfl rfl rfl (Jh (α := UN) Ju KN rfl rfl rfl rfl rfl (.app _ _) g3) rfl <| RunA.rd rfl rfl rfl (Q2 (JK rfl)) rfl ?_
 refine RunA.nil ⟨?ex, _, _, rfl, ?_⟩
 case ex => exact ⟨⟨_, rfl, _, _, rfl, rfl, rfl, .inl ⟨rfl, _, Q2 (Q1 X1 rfl), rfl⟩⟩, ⟨_, rfl, _, _, rfl, rfl, rfl, .inl ⟨rfl, _, Q2 (Qi QW rfl rfl rfl rfl), rfl⟩⟩, trivial⟩
 refine JX (st' := ⟨[(1, .v (.one (.ptr 0 0))), (3, .v (.one (Uz 4 ((x1 ++ x2) : List UN))))], [(0, .cells 45 (UA a0))], [(4, some ⟨9, 1, (Enc.encL ((x1 ++ x2) : List UN)).length, []⟩), (8, some ⟨9, 1, (Enc.encL x2).length, []⟩)], 9, 120, []⟩) (Ub (Nat.zero_le _) rfl rfl rfl rfl rfl) <| Q3 <| Q5 <| Q5 <| Q0 <| Ug rfl rfl rfl <| Q4 <| Q3 <| Qf ?_
 refine QR 0 (fun (o4 : (List UN)) => ⟨[(1, .v (.one (.ptr 0 0))), (3, .v (.one (Uz 4 o4)))], [(0, .cells 45 (UA a0))], [(4, some ⟨9, 1, (Enc.encL o4).length, []⟩), (8, some ⟨9, 1, (Enc.encL x2).length, []⟩)], 9, 120, []⟩) (fun (o4 : (List UN)) => (Option.bind (Kb a0.rcr.ty) fun (x5 : ((List UN))) =>
   J8 (Nat.ble (o4.length + x5.length) 1000000000)
   (Option.bind (QV (Xj a0) J2 ((o4 ++ x5), 0)) (fun (o7 : (List UN)) => Option.bind (QV (GC a0) J2 (o7, 0)) (fun (o8 : (List UN)) => Option.bind (QV (Gk a0) J2 (o8, 0)) (fun (o9 : (List UN)) => Option.bind (WO a0) fun (x10 : (List UN)) =>
   Option.bind (QV (KC o9 x10) J2 (([] : List UN), 0)) (fun (o11 : (List UN)) => some o11)))))) = some r) ?_ ?_
 refine Qb h0 (fun o5 hl1 h0 => ?_)
 refine QQ (XU a0) (fun s1 => ⟨[(1, .v (.one (.ptr 0 0))), (3, .v (.one (Uz 4 s1.1))), (4, .v (.one (Ux s1.2)))], [(0, .cells 45 (UA a0))], [(4, some ⟨9, 1, (Enc.encL s1.1).length, []⟩), (8, some ⟨9, 1, (Enc.encL x2).length, []⟩)], 9, 120, []⟩) ((x1 ++ x2), 0) o5 (Ub (Nat.zero_le _) rfl rfl rfl rfl rfl) hl1 (fun s1 n1 oo1 h1 ho1 => ?_)
 unfold XU at h1
 refine Q5 <| Q5 <| Q0 <| Uf rfl rfl rfl <| Ue rfl rfl rfl (Q1 Yc rfl) <| Ue rfl rfl rfl (Q6 Zc rfl rfl rfl) <| Ue rfl rfl rfl (Qx (α := Ctr) Yv rfl (.d _)) <| Ue rfl rfl rfl (Q7 rfl rfl rfl) <| Q4 <| Q3 ?_
 refine Qg (b := (decide (s1.2 < (a0.ctors.length : Int)))) rfl (fun c6 => ?_) (fun c6 => ?_)
 replace h1 := Qk c6 h1
 refine Qj <| Q3 <| Q5 <| Qf <| Q0 <| Uf rfl rfl rfl <| Ue rfl rfl rfl (Q1 Yc rfl) <| Ue rfl rfl rfl (Q6 Zc rfl rfl rfl) <| Uf rfl rfl rfl ?_
 refine Qb h1 (fun x7 hx7 h1 => ?_)
 refine Ue rfl rfl rfl (Qq (α := Ctr) Yv rfl (.d _) rfl hx7) <| Ue rfl rfl rfl (JA K2 rfl) <| Ue rfl rfl rfl (Y6 QW rfl rfl rfl) ?_
 refine Qb h1 (fun x8 hx8 h1 => ?_)
 refine Q9 rfl rfl (Um rfl) (J4 (hp1' := []) (tk1' := [(12, some ⟨9, 1, (Enc.encL x8).length, []⟩)]) (hpF := [(0, .cells 45 (UA a0))]) (tkF := [(4, some ⟨9, 1, (Enc.encL s1.1).length, []⟩), (8, some ⟨9, 1, (Enc.encL x2).length, []⟩)]) (res2 := QD [.one (Uz 12 x8)]) (nx2 := 13) [] rfl rfl (ZZ x7.ty x8 hx8) rfl rfl Uh rfl rfl Us Up (hA rfl) (Uo rfl) rfl rfl rfl rfl rfl UD rfl rfl rfl rfl) ?_
 refine JC h1 (fun g9 h1 => ?_)
 refine Q9 rfl rfl (Um rfl) (Jh (α := UN) Ju KN rfl rfl rfl rfl rfl (.app _ _) g9) <| Ug rfl rfl rfl <| Q4 <| Qe <| Q3 <| Q0 <| Uf rfl rfl rfl <| Ue rfl rfl rfl (Q7 rfl rfl rfl) <| Ug rfl rfl rfl <| Q4 ?_
 have e := Uc h1; subst e
 refine QM ((s1.1 ++ x8), (Jk (s1.2 + 1))) (Ub (Nat.zero_le _) rfl rfl rfl rfl rfl) ho1
 replace h1 := Ql c6 h1
 refine J1 <| Qn <| Qn ?_
 have e := Uc h1; subst e
 have e_ : _ = _ := ho1
 subst e_
 exact QP s1.1 (Ub (Nat.zero_le _) rfl rfl rfl rfl rfl) h0
 intro o4 h0
 refine QF <| Q3 <| Q5 <| Q0 <| Uf rfl rfl rfl <| Ue rfl rfl rfl (Q1 JO rfl) <| Ue rfl rfl rfl (Q1 Kl rfl) <| Ue rfl rfl rfl (Qi QW rfl rfl rfl rfl) ?_
 refine Qb h0 (fun x10 hx10 h0 => ?_)
 refine Q9 rfl rfl (Um rfl) (J4 (hp1' := []) (tk1' := [(12, some ⟨9, 1, (Enc.encL x10).length, []⟩)]) (hpF := [(0, .cells 45 (UA a0))]) (tkF := [(4, some ⟨9, 1, (Enc.encL o4).length, []⟩), (8, some ⟨9, 1, (Enc.encL x2).length, []⟩)]) (res2 := QD [.one (Uz 12 x10)]) (nx2 := 13) [] rfl rfl (ZZ a0.rcr.ty x10 hx10) rfl rfl Uh rfl rfl Us Up (hA rfl) (Uo rfl) rfl rfl rfl rfl rfl UD rfl rfl rfl rfl) ?_
 refine JC h0 (fun g11 h0 => ?_)
 refine Q9 rfl rfl (Um rfl) (Jh (α := UN) Ju KN rfl rfl rfl rfl rfl (.app _ _) g11) <| Ug rfl rfl rfl <| Q4 <| Q3 <| Q5 <| Q5 <| Q0 <| Ug rfl rfl rfl <| Q4 <| Q3 <| Qf ?_
 refine QR 2 (fun (o12 : (List UN)) => ⟨[(1, .v (.one (.ptr 0 0))), (3, .v (.one (Uz 4 o12)))], [(0, .cells 45 (UA a0))], [(4, some ⟨9, 1, (Enc.encL o12).length, []⟩), (8, some ⟨9, 1, (Enc.encL x2).length, []⟩), (12, some ⟨9, 1, (Enc.encL x10).length, []⟩)], 13, 120, []⟩) (fun (o12 : (List UN)) => (Option.bind (QV (GC a0) J2 (o12, 0)) (fun (o13 : (List UN)) => Option.bind (QV (Gk a0) J2 (o13, 0)) (fun (o14 : (List UN)) => Option.bind (WO a0) fun (x15 : (List UN)) =>
   Option.bind (QV (KC o14 x15) J2 (([] : List UN), 0)) (fun (o16 : (List UN)) => some o16)))) = some r) ?_ ?_
 refine Qb h0 (fun o13 hl1 h0 => ?_)
 refine QQ (Xj a0) (fun s1 => ⟨[(1, .v (.one (.ptr 0 0))), (3, .v (.one (Uz 4 s1.1))), (5, .v (.one (Ux s1.2)))], [(0, .cells 45 (UA a0))], [(4, some ⟨9, 1, (Enc.encL s1.1).length, []⟩), (8, some ⟨9, 1, (Enc.encL x2).length, []⟩), (12, some ⟨9, 1, (Enc.encL x10).length, []⟩)], 13, 120, []⟩) ((o4 ++ x10), 0) o13 (Ub (Nat.zero_le _) rfl rfl rfl rfl rfl) hl1 (fun s1 n1 oo1 h1 ho1 => ?_)
 unfold Xj at h1
 refine Q5 <| Q5 <| Q0 <| Uf rfl rfl rfl <| Ue rfl rfl rfl (Q1 JO rfl) <| Ue rfl rfl rfl (Q1 ZG rfl) <| Ue rfl rfl rfl (Q6 JH rfl rfl rfl) <| Ue rfl rfl rfl (Qx (α := Tm) Ji rfl (.d _)) <| Ue rfl rfl rfl (Q7 rfl rfl rfl) <| Q4 <| Q3 ?_
 refine Qg (b := (decide (s1.2 < (a0.rcr.rules.length : Int)))) rfl (fun c14 => ?_) (fun c14 => ?_)
 replace h1 := Qk c14 h1
 refine Qj <| Q3 <| Q5 <| Qf <| Q0 <| Uf rfl rfl rfl <| Ue rfl rfl rfl (Q1 JO rfl) <| Ue rfl rfl rfl (Q1 ZG rfl) <| Ue rfl rfl rfl (Q6 JH rfl rfl rfl) <| Uf rfl rfl rfl ?_
 refine Qb h1 (fun x15 hx15 h1 => ?_)
 refine Ue rfl rfl rfl (Qq (α := Tm) Ji rfl (.d _) rfl hx15) <| Ue rfl rfl rfl (Qv (x15 : Tm) QW rfl) ?_
 refine Qb h1 (fun x16 hx16 h1 => ?_)
 refine Q9 rfl rfl (Um rfl) (J4 (hp1' := []) (tk1' := [(16, some ⟨9, 1, (Enc.encL x16).length, []⟩)]) (hpF := [(0, .cells 45 (UA a0))]) (tkF := [(4, some ⟨9, 1, (Enc.encL s1.1).length, []⟩), (8, some ⟨9, 1, (Enc.encL x2).length, []⟩), (12, some ⟨9, 1, (Enc.encL x10).length, []⟩)]) (res2 := QD [.one (Uz 16 x16)]) (nx2 := 17) [] rfl rfl (ZZ x15 x16 hx16) rfl rfl Uh rfl rfl Us Up (hA rfl) (Uo rfl) rfl rfl rfl rfl rfl UD rfl rfl rfl rfl) ?_
 refine JC h1 (fun g17 h1 => ?_)
 refine Q9 rfl rfl (Um rfl) (Jh (α := UN) Ju KN rfl rfl rfl rfl rfl (.app _ _) g17) <| Ug rfl rfl rfl <| Q4 <| Qe <| Q3 <| Q0 <| Uf rfl rfl rfl <| Ue rfl rfl rfl (Q7 rfl rfl rfl) <| Ug rfl rfl rfl <| Q4 ?_
 have e := Uc h1; subst e
 refine QM ((s1.1 ++ x16), (Jk (s1.2 + 1))) (Ub (Nat.zero_le _) rfl rfl rfl rfl rfl) ho1
 replace h1 := Ql c14 h1
 refine J1 <| Qn <| Qn ?_
 have e := Uc h1; subst e
 have e_ : _ = _ := ho1
 subst e_
 exact QP s1.1 (Ub (Nat.zero_le _) rfl rfl rfl rfl rfl) h0
 intro o12 h0
 refine QF <| Q3 <| Q5 <| Q5 <| Q0 <| Ug rfl rfl rfl <| Q4 <| Q3 <| Qf ?_
 refine QR 4 (fun (o18 : (List UN)) => ⟨[(1, .v (.one (.ptr 0 0))), (3, .v (.one (Uz 4 o18)))], [(0, .cells 45 (UA a0))], [(4, some ⟨9, 1, (Enc.encL o18).length, []⟩), (8, some ⟨9, 1, (Enc.encL x2).length, []⟩), (12, some ⟨9, 1, (Enc.encL x10).length, []⟩)], 13, 120, []⟩) (fun (o18 : (List UN)) => (Option.bind (QV (Gk a0) J2 (o18, 0)) (fun (o19 : (List UN)) => Option.bind (WO a0) fun (x20 : (List UN)) =>
   Option.bind (QV (KC o19 x20) J2 (([] : List UN), 0)) (fun (o21 : (List UN)) => some o21))) = some r) ?_ ?_
 refine Qb h0 (fun o19 hl1 h0 => ?_)
 refine QQ (GC a0) (fun s1 => ⟨[(1, .v (.one (.ptr 0 0))), (3, .v (.one (Uz 4 s1.1))), (6, .v (.one (Ux s1.2)))], [(0, .cells 45 (UA a0))], [(4, some ⟨9, 1, (Enc.encL s1.1).length, []⟩), (8, some ⟨9, 1, (Enc.encL x2).length, []⟩), (12, some ⟨9, 1, (Enc.encL x10).length, []⟩)], 13, 120, []⟩) (o12, 0) o19 (Ub (Nat.zero_le _) rfl rfl rfl rfl rfl) hl1 (fun s1 n1 oo1 h1 ho1 => ?_)
 unfold GC at h1
 refine Q5 <| Q5 <| Q0 <| Uf rfl rfl rfl <| Ue rfl rfl rfl (Q1 Y2 rfl) <| Ue rfl rfl rfl (Q6 YZ rfl rfl rfl) <| Ue rfl rfl rfl (Qx (α := Fn) Yk rfl (.d _)) <| Ue rfl rfl rfl (Q7 rfl rfl rfl) <| Q4 <| Q3 ?_
 refine Qg (b := (decide (s1.2 < (a0.funs.length : Int)))) rfl (fun c20 => ?_) (fun c20 => ?_)
 replace h1 := Qk c20 h1
 refine Qj <| Q3 <| Q5 <| Qf <| Q0 <| Uf rfl rfl rfl <| Ue rfl rfl rfl (Q1 Y2 rfl) <| Ue rfl rfl rfl (Q6 YZ rfl rfl rfl) <| Uf rfl rfl rfl ?_
 refine Qb h1 (fun x21 hx21 h1 => ?_)
 refine Ue rfl rfl rfl (Qq (α := Fn) Yk rfl (.d _) rfl hx21) <| Ue rfl rfl rfl (JA KT rfl) <| Ue rfl rfl rfl (Y6 QW rfl rfl rfl) ?_
 refine Qb h1 (fun x22 hx22 h1 => ?_)
 refine Q9 rfl rfl (Um rfl) (J4 (hp1' := []) (tk1' := [(16, some ⟨9, 1, (Enc.encL x22).length, []⟩)]) (hpF := [(0, .cells 45 (UA a0))]) (tkF := [(4, some ⟨9, 1, (Enc.encL s1.1).length, []⟩), (8, some ⟨9, 1, (Enc.encL x2).length, []⟩), (12, some ⟨9, 1, (Enc.encL x10).length, []⟩)]) (res2 := QD [.one (Uz 16 x22)]) (nx2 := 17) [] rfl rfl (ZZ x21.ty x22 hx22) rfl rfl Uh rfl rfl Us Up (hA rfl) (Uo rfl) rfl rfl rfl rfl rfl UD rfl rfl rfl rfl) ?_
 refine JC h1 (fun g23 h1 => ?_)
 refine Q9 rfl rfl (Um rfl) (Jh (α := UN) Ju KN rfl rfl rfl rfl rfl (.app _ _) g23) <| Ug rfl rfl rfl <| Q4 <| Qe <| Q3 <| Q0 <| Uf rfl rfl rfl <| Ue rfl rfl rfl (Q7 rfl rfl rfl) <| Ug rfl rfl rfl <| Q4 ?_
 have e := Uc h1; subst e
 refine QM ((s1.1 ++ x22), (Jk (s1.2 + 1))) (Ub (Nat.zero_le _) rfl rfl rfl rfl rfl) ho1
 replace h1 := Ql c20 h1
 refine J1 <| Qn <| Qn ?_
 have e := Uc h1; subst e
 have e_ : _ = _ := ho1
 subst e_
 exact QP s1.1 (Ub (Nat.zero_le _) rfl rfl rfl rfl rfl) h0
 intro o18 h0
 refine QF <| Q3 <| Q5 <| Q5 <| Q0 <| Ug rfl rfl rfl <| Q4 <| Q3 <| Qf ?_
 refine QR 6 (fun (o24 : (List UN)) => ⟨[(1, .v (.one (.ptr 0 0))), (3, .v (.one (Uz 4 o24)))], [(0, .cells 45 (UA a0))], [(4, some ⟨9, 1, (Enc.encL o24).length, []⟩), (8, some ⟨9, 1, (Enc.encL x2).length, []⟩), (12, some ⟨9, 1, (Enc.encL x10).length, []⟩)], 13, 120, []⟩) (fun (o24 : (List UN)) => (Option.bind (WO a0) fun (x25 : (List UN)) =>
   Option.bind (QV (KC o24 x25) J2 (([] : List UN), 0)) (fun (o26 : (List UN)) => some o26)) = some r) ?_ ?_
 refine Qb h0 (fun o25 hl1 h0 => ?_)
 refine QQ (Gk a0) (fun s1 => ⟨[(1, .v (.one (.ptr 0 0))), (3, .v (.one (Uz 4 s1.1))), (7, .v (.one (Ux s1.2)))], [(0, .cells 45 (UA a0))], [(4, some ⟨9, 1, (Enc.encL s1.1).length, []⟩), (8, some ⟨9, 1, (Enc.encL x2).length, []⟩), (12, some ⟨9, 1, (Enc.encL x10).length, []⟩)], 13, 120, []⟩) (o18, 0) o25 (Ub (Nat.zero_le _) rfl rfl rfl rfl rfl) hl1 (fun s1 n1 oo1 h1 ho1 => ?_)
 unfold Gk at h1
 refine Q5 <| Q5 <| Q0 <| Uf rfl rfl rfl <| Ue rfl rfl rfl (Q1 Y2 rfl) <| Ue rfl rfl rfl (Q6 YZ rfl rfl rfl) <| Ue rfl rfl rfl (Qx (α := Fn) Yk rfl (.d _)) <| Ue rfl rfl rfl (Q7 rfl rfl rfl) <| Q4 <| Q3 ?_
 refine Qg (b := (decide (s1.2 < (a0.funs.length : Int)))) rfl (fun c26 => ?_) (fun c26 => ?_)
 replace h1 := Qk c26 h1
 refine Qj <| Q3 <| Q5 <| Qf <| Q0 <| Ue rfl rfl rfl (Q1 Y2 rfl) <| Ue rfl rfl rfl (Q6 YZ rfl rfl rfl) <| Uf rfl rfl rfl ?_
 refine Qb h1 (fun x27 hx27 h1 => ?_)
 refine Ue rfl rfl rfl (Qq (α := Fn) Yk rfl (.d _) rfl hx27) <| Ue rfl rfl rfl (JA fo_76_3 rfl) <| Ue rfl rfl rfl (Y6 X9 rfl rfl rfl) <| Uf rfl rfl rfl ?_
 refine Qb h1 (fun x28 hx28 h1 => ?_)
 refine Q9 rfl rfl (Um rfl) (J4 (hp1' := []) (tk1' := [(4, some ⟨9, 1, (Enc.encL x28).length, []⟩)]) (hpF := [(0, .cells 45 (UA a0))]) (tkF := [(8, some ⟨9, 1, (Enc.encL x2).length, []⟩), (12, some ⟨9, 1, (Enc.encL x10).length, []⟩)]) (res2 := QD [.one (Uz 4 x28)]) (nx2 := 14) [4] rfl rfl (m41f19_ok x27.tree s1.1 x28 hx28) rfl rfl Uh rfl rfl Us (Uq rfl Up) (hA rfl) (Uo rfl) rfl rfl rfl rfl rfl UD rfl rfl rfl rfl) <| Ug rfl rfl rfl <| Q4 <| Qe <| Q3 <| Q0 <| Uf rfl rfl rfl <| Ue rfl rfl rfl (Q7 rfl rfl rfl) <| Ug rfl rfl rfl <| Q4 ?_
 have e := Uc h1; subst e
 refine QM (x28, (Jk (s1.2 + 1))) (Ub (Nat.zero_le _) rfl rfl rfl rfl rfl) ho1
 replace h1 := Ql c26 h1
 refine J1 <| Qn <| Qn ?_
 have e := Uc h1; subst e
 have e_ : _ = _ := ho1
 subst e_
 exact QP s1.1 (Ub (Nat.zero_le _) rfl rfl rfl rfl rfl) h0
 intro o24 h0
 refine QF <| Q3 <| Q5 <| Q0 <| Ue rfl rfl rfl (QK (a0 : Dcl) JS rfl rfl) ?_
 refine Qb h0 (fun x29 hx29 h0 => ?_)
 refine Q9 rfl rfl (Um rfl) (Qo (m23_ok a0 x29 hx29) rfl (.cons (.agg (.cons (.d _) (.cons (.d _) (.cons (.d _) (.cons (.d _) (.cons (.d _) (.cons (.d _) (.cons (.d _) (.cons (.d _) (.cons (.d _) (.cons (.d _) (.cons (.d _) (.cons (.d _) (.cons (.d _) (.cons (.d _) (.cons (.d _) (.cons (.d _) (.cons (.d _) (.cons (.d _) (.cons (.d _) (.cons (.d _) (.cons (.d _) (.cons (.d _) (.cons (.d _) .nil)))))))))))))))))))))))) .nil)) <| Ug rfl rfl rfl <| Q4 <| Q3 <| Q5 <| Q0 <| Ug rfl rfl rfl <| Q4 <| Q3 <| Q5 <| Q5 <| Q0 <| Ug rfl rfl rfl <| Q4 ?_
 refine Q3 <| Qf ?_
 refine QR 8 (fun (o30 : (List UN)) => ⟨[(9, .v (.one (Uz 13 o30)))], [(0, .cells 45 (UA a0))], [(4, some ⟨9, 1, (Enc.encL o24).length, []⟩), (8, some ⟨9, 1, (Enc.encL x2).length, []⟩), (12, some ⟨9, 1, (Enc.encL x10).length, []⟩), (13, some ⟨9, 1, (Enc.encL o30).length, []⟩)], 14, 120, []⟩) (fun (o30 : (List UN)) => (some o30) = some r) ?_ ?_
 refine XC.adoptT (t := 9) 9 1 rfl ?_
 refine Qb h0 (fun o31 hl1 h0 => ?_)
 refine QQ (KC o24 x29) (fun s1 => ⟨[(3, .v (.one (Uz 4 o24))), (8, .v (.one (Uv x29))), (9, .v (.one (Uz 13 s1.1))), (10, .v (.one (Ux s1.2)))], [(0, .cells 45 (UA a0))], [(4, some ⟨9, 1, (Enc.encL o24).length, []⟩), (8, some ⟨9, 1, (Enc.encL x2).length, []⟩), (12, some ⟨9, 1, (Enc.encL x10).length, []⟩), (13, some ⟨9, 1, (Enc.encL s1.1).length, []⟩)], 14, 120, []⟩) (([] : List UN), 0) o31 (Ub (Nat.zero_le _) rfl rfl rfl rfl rfl) hl1 (fun s1 n1 oo1 h1 ho1 => ?_)
 unfold KC at h1
 refine Q5 <| Q5 <| Q0 <| Uf rfl rfl rfl <| Uf rfl rfl rfl <| Ue rfl rfl rfl (Qx (α := UN) Ju rfl (.app _ _)) <| Ue rfl rfl rfl (Q7 rfl rfl rfl) <| Q4 <| Q3 ?_
 refine Qg (b := (decide (s1.2 < (o24.length : Int)))) rfl (fun c32 => ?_) (fun c32 => ?_)
 replace h1 := Qk c32 h1
 refine Qj <| Q3 <| Q5 <| Qf <| Q5 ?_
 refine QS (fun (v33 : Bool) => ⟨[(3, .v (.one (Uz 4 o24))), (8, .v (.one (Uv x29))), (9, .v (.one (Uz 13 s1.1))), (10, .v (.one (Ux s1.2))), (111, .v (.one (Uy v33)))], [(0, .cells 45 (UA a0))], [(4, some ⟨9, 1, (Enc.encL o24).length, []⟩), (8, some ⟨9, 1, (Enc.encL x2).length, []⟩), (12, some ⟨9, 1, (Enc.encL x10).length, []⟩), (13, some ⟨9, 1, (Enc.encL s1.1).length, []⟩)], 14, 120, []⟩) (fun (v33 : Bool) => (cond v33
     (Option.bind (Yi o24 s1.2) fun (x35 : UN) =>
   J8 (Nat.ble (s1.1.length + ([x35]).length) 1000000000)
   (some (.next ((s1.1 ++ ([x35])), (Jk (s1.2 + 1))))))
     (some (.next (s1.1, (Jk (s1.2 + 1)))))) = some oo1) ?_ ?_
 refine Qb h1 (fun w2_ h2 h1 => ?_)
 refine Q0 <| Uf rfl rfl rfl <| Uf rfl rfl rfl <| Uf rfl rfl rfl ?_
 refine Qb h2 (fun x34 hx34 h2 => ?_)
 refine Ue rfl rfl rfl (Qq (α := UN) Ju rfl (.app _ _) rfl hx34) <| Ue rfl rfl rfl (Js JG rfl rfl) ?_
 refine Qb h2 (fun x35 hx35 h2 => ?_)
 refine Q9 rfl rfl (Um rfl) (Qo (m33_ok x29 x34 x35 hx35) rfl (.cons (.one (.d _)) (.cons (.one (.d _)) .nil))) <| Ue rfl rfl rfl (Jb rfl) <| Uf rfl rfl rfl ?_
 refine QG (d := 103) (c := (!x35)) rfl (fun c36 => ?_) (fun c36 => ?_)
 replace h2 := Qk c36 h2
 refine Uf rfl rfl rfl <| Uf rfl rfl rfl <| Uf rfl rfl rfl ?_
 refine Qb h2 (fun x37 hx37 h2 => ?_)
 refine Ue rfl rfl rfl (Qq (α := UN) Ju rfl (.app _ _) rfl hx37) <| Ue rfl rfl rfl (Js JG rfl rfl) ?_
 refine Qb h2 (fun x38 hx38 h2 => ?_)
 refine Q9 rfl rfl (Um rfl) (Qo (m33_ok s1.1 x37 x38 hx38) rfl (.cons (.one (.app _ _ _)) (.cons (.one (.d _)) .nil))) <| Ue rfl rfl rfl (Jb rfl) <| Ue rfl rfl rfl (Qh rfl rfl) <| Q4 ?_
 have e := Uc h2; subst e
 exact Qc (!x38) (Ub (Nat.zero_le _) rfl rfl rfl rfl rfl) h1
 replace h2 := Ql c36 h2
 refine Q8 rfl rfl <| Q8 rfl rfl <| Q8 rfl rfl <| Q8 rfl rfl <| Q8 rfl rfl <| Q8 rfl rfl <| Q8 rfl rfl <| Ue rfl rfl rfl (Qd rfl rfl) <| Q4 ?_
 have e := Uc h2; subst e
 exact Qc false (Ub (Nat.zero_le _) rfl rfl rfl rfl rfl) h1
 intro v33 h1
 refine Q3 ?_
 refine Qg (b := v33) rfl (fun c39 => ?_) (fun c39 => ?_)
 replace h1 := Qk c39 h1
 refine Q0 <| Uf rfl rfl rfl <| Uf rfl rfl rfl <| Uf rfl rfl rfl ?_
 refine Qb h1 (fun x40 hx40 h1 => ?_)
 refine Ue rfl rfl rfl (Qq (α := UN) Ju rfl (.app _ _) rfl hx40) <| Ue rfl rfl rfl (Js JG rfl rfl) <| Q9 rfl rfl (Um rfl) (Jt (α := UN) (x40) Ju Wo rfl rfl (Um rfl) (Um rfl) rfl rfl (.cons (.d _) .nil) rfl) ?_
 refine JC h1 (fun g41 h1 => ?_)
 refine Q9 rfl rfl (Um rfl) (Jh (α := UN) Ju KN rfl rfl rfl rfl rfl (.app _ _) g41) <| Ug rfl rfl rfl <| Q4 <| Qe <| Q3 <| Q0 <| Uf rfl rfl rfl <| Ue rfl rfl rfl (Q7 rfl rfl rfl) <| Ug rfl rfl rfl <| Q4 ?_
 have e := Uc h1; subst e
 refine QM ((s1.1 ++ ([x40])), (Jk (s1.2 + 1))) (Ub (Nat.zero_le _) rfl rfl rfl rfl rfl) ho1
 replace h1 := Ql c39 h1
 refine Qj <| Qe <| Q3 <| Q0 <| Uf rfl rfl rfl <| Ue rfl rfl rfl (Q7 rfl rfl rfl) <| Ug rfl rfl rfl <| Q4 ?_
 have e := Uc h1; subst e
 refine QM (s1.1, (Jk (s1.2 + 1))) (Ub (Nat.zero_le _) rfl rfl rfl rfl rfl) ho1
 replace h1 := Ql c32 h1
 refine J1 <| Qn <| Qn ?_
 have e := Uc h1; subst e
 have e_ : _ = _ := ho1
 subst e_
 exact QP s1.1 (Ub (Nat.zero_le _) rfl rfl rfl rfl rfl) h0
 intro o30 h0
 refine QF <| Q3 <| Q5 <| Q0 <| Uf rfl rfl rfl <| Ug rfl rfl rfl <| Q4 <| Q3 <| QA ?_
 have e := Uc h0; subst e
 exact QL (fun _ _ h => h) rfl (Qz rfl .nil) (.cons (.one (.app _ _ _)) .nil)
end Go.Proofs.Ytafddfoefeploaa
namespace Go.Proofs.Ytafddfoefeploaa
open Go.RowKit
set_option linter.unusedSimpArgs false
set_option linter.unusedVariables false
set_option linter.unusedSectionVars false
theorem w64_id {n : Int} (h1 : -9223372036854775808 ≤ n) (h2 : n ≤ 9223372036854775807) : Jk n = n := IntWalk.i64_in n ⟨h1, h2⟩
theorem w64_nx {k : Nat} (h : k ≤ 1000000000) : Jk ((k : Int) + 1) = ((k + 1 : Nat) : Int) := by rw [w64_id (by omega) (by omega)]; rfl
theorem JI {α : Type} (a : List α) (x : α) (b : List α) : Yi (a ++ x :: b) (a.length : Int) = some x := by
  show (a ++ x :: b)[a.length]? = some x
  simp
theorem Y4 {α : Type} (a : List α) (x : α) (b : List α) : decide ((a.length : Int) < ((a ++ x :: b).length : Int)) = true := by
  rw [decide_eq_true_eq, List.length_append, List.length_cons]; omega
theorem Gi {α : Type} {l a b : List α} {x : α} (h : l = a ++ x :: b) : a.length < l.length := by rw [h, List.length_append, List.length_cons]; omega
theorem beqI (a b : Int) : (a == b) = decide (a = b) := by
  by_cases h : a = b
  · rw [decide_eq_true h]; exact beq_iff_eq.2 h
  · rw [decide_eq_false h, Bool.eq_false_iff]; exact fun h' => h (beq_iff_eq.1 h')
theorem Y7 {α : Type} (a : List α) : decide ((a.length : Int) < (a.length : Int)) = false := by simp
theorem JN {α : Type} {a b : Nat} {x : Option α} (h : a ≤ b) : J8 (Nat.ble a b) x = x := by
  rw [Nat.ble_eq_true_of_le h]; rfl
theorem YN {α σ τ β : Type} {step : τ → Option (LO τ β)} (l : List α) (mk : Int → σ → τ) (I : List α → σ → Prop) (Q : β → Prop) (hlen : l.length ≤ 900000000)
    (hin : ∀ (a : List α) (x : α) (b : List α) (s : σ), l = a ++ x :: b → I a s →
      (∃ r, step (mk (a.length : Int) s) = some (.done r) ∧ Q r) ∨ ∃ s', step (mk (a.length : Int) s) = some (.next (mk (Jk ((a.length : Int) + 1)) s')) ∧ I (a ++ [x]) s')
    (hout : ∀ s, I l s → ∃ r, step (mk (l.length : Int) s) = some (.done r) ∧ Q r) (s0 : σ) (h0 : I [] s0) : ∃ r, QV step J2 (mk 0 s0) = some r ∧ Q r := by
  have key : ∀ (b a : List α) (s : σ) (n : Nat), l = a ++ b → b.length < n → I a s → ∃ r, QV step n (mk (a.length : Int) s) = some r ∧ Q r := by
    intro b
    induction b with
    | nil =>
      intro a s n hl hn hI
      rw [List.append_nil] at hl
      subst hl
      obtain ⟨r, h1, h2⟩ := hout s hI
      cases n with
      | zero => omega
      | succ n => exact ⟨r, by simp only [QV, h1], h2⟩
    | cons x b ih =>
      intro a s n hl hn hI
      cases n with
      | zero => omega
      | succ n =>
        rcases hin a x b s hl hI with ⟨r, h1, h2⟩ | ⟨s', h1, h2⟩
        · exact ⟨r, by simp only [QV, h1], h2⟩
        · have hal : a.length ≤ 900000000 := by rw [hl, List.length_append] at hlen; omega
          rw [w64_nx (by omega)] at h1
          obtain ⟨r, h3, h4⟩ := ih (a ++ [x]) s' n (by rw [hl, List.append_assoc]; rfl) (by simp only [List.length_cons] at hn; omega) h2
          refine ⟨r, ?_, h4⟩
          simp only [QV, h1]
          rw [List.length_append] at h3
          exact h3
  exact key l [] s0 J2 rfl (by unfold J2; omega) h0
theorem Z7 {α σ τ β : Type} {step : τ → Option (LO τ β)} (l : List α) (mk : Int → σ → τ) (f : σ → α → σ) (s0 : σ) (fin : β) (hlen : l.length ≤ 900000000)
    (hin : ∀ (a : List α) (x : α) (b : List α), l = a ++ x :: b → step (mk (a.length : Int) (a.foldl f s0)) = some (.next (mk (Jk ((a.length : Int) + 1)) (f (a.foldl f s0) x))))
    (hout : step (mk (l.length : Int) (l.foldl f s0)) = some (.done fin)) : QV step J2 (mk 0 s0) = some fin := by
  obtain ⟨r, h1, h2⟩ := YN (step := step) l mk (fun a s => s = a.foldl f s0) (fun r => r = fin) hlen (fun a x b s hl hs => .inr ⟨f (a.foldl f s0) x, by rw [hs]; exact hin a x b hl, by rw [List.foldl_append]; rfl⟩)
    (fun s hs => ⟨fin, by rw [hs]; exact hout, rfl⟩) s0 rfl
  rw [h1, h2]
section
variable {κ β : Type} [MK κ] [MV β]
theorem gmFind_shift (k : κ) : ∀ (l : List (κ × β × Nat)) (i : Nat), (Yp k l i).map (·.2) = (Yp k l 0).map (·.2)
  | [], i => rfl
  | e :: l, i => by
    simp only [Yp]
    cases (k == e.1) with
    | true => rfl
    | false => simp only [cond_false]; rw [gmFind_shift k l (i + 1), gmFind_shift k l (0 + 1)]
theorem gmFind_idx (k : κ) : ∀ (l : List (κ × β × Nat)) (i : Nat), ∀ j v, Yp k l i = some (j, v) → ∃ n e, j = i + n ∧ l[n]? = some e ∧ (k == e.1) = true ∧ e.2.1 = v
  | [], i, j, v, h => by cases h
  | e :: l, i, j, v, h => by
    simp only [Yp] at h
    cases hk : (k == e.1) with
    | true => rw [hk] at h; cases h; exact ⟨0, e, rfl, rfl, hk, rfl⟩
    | false =>
      rw [hk] at h
      obtain ⟨n, e', h1, h2, h3, h4⟩ := gmFind_idx k l (i + 1) j v h
      exact ⟨n + 1, e', by omega, h2, h3, h4⟩
theorem gmGet_nil (k : κ) : W5 (gmNil : Qa κ β) k = none := rfl
end
section
variable {β : Type} [MV β]
theorem Gn (k : UN) (e : UN × β × Nat) (l : List (UN × β × Nat)) (i : Nat) : (Yp k (e :: l) i).map (·.2) = if k = e.1 then some e.2.1 else (Yp k l 0).map (·.2) := by
  simp only [Yp]
  by_cases h : k = e.1
  · rw [if_pos h, show (k == e.1) = true from beq_iff_eq.2 h]; rfl
  · rw [if_neg h, show (k == e.1) = false from by rw [Bool.eq_false_iff]; exact fun h' => h (beq_iff_eq.1 h')]
    simp only [cond_false]; exact gmFind_shift k l (i + 1)
theorem gf_app (k : UN) (x : UN × β × Nat) : ∀ (l : List (UN × β × Nat)) (i : Nat), (Yp k (l ++ [x]) i).map (·.2) = match (Yp k l 0).map (·.2) with
    | some v => some v
    | none => if k = x.1 then some x.2.1 else none
  | [], i => by rw [List.nil_append, Gn]; rfl
  | e :: l, i => by
    rw [List.cons_append, Gn, Gn]
    by_cases h : k = e.1
    · rw [if_pos h, if_pos h]
    · rw [if_neg h, if_neg h]; exact gf_app k x l 0
theorem gf_mod (k k' : UN) (v : β) : ∀ (l : List (UN × β × Nat)) (i j : Nat) (u : β), Yp k l i = some (i + j, u) → (Yp k' (l.modify j fun e => (k, v, e.2.2)) 0).map (·.2) = if k' = k then some v else (Yp k' l 0).map (·.2)
  | [], i, j, u, h => by cases h
  | e :: l, i, j, u, h => by
    simp only [Yp] at h
    by_cases hk : k = e.1
    · rw [show (k == e.1) = true from beq_iff_eq.2 hk] at h
      simp only [cond_true, Option.some.injEq, Prod.mk.injEq] at h
      obtain rfl : j = 0 := by omega
      rw [show (e :: l).modify 0 (fun e => (k, v, e.2.2)) = (k, v, e.2.2) :: l from rfl, Gn, Gn, ← hk]
      by_cases h2 : k' = k <;> simp [h2]
    · rw [show (k == e.1) = false from by rw [Bool.eq_false_iff]; exact fun h' => hk (beq_iff_eq.1 h')] at h
      simp only [cond_false] at h
      cases j with
      | zero =>
        obtain ⟨n, e', h1, -⟩ := gmFind_idx k l (i + 1) _ u h
        omega
      | succ j =>
        have ih := gf_mod k k' v l (i + 1) j u (by rw [h]; congr 2; omega)
        rw [show (e :: l).modify (j + 1) (fun e => (k, v, e.2.2)) = e :: l.modify j (fun e => (k, v, e.2.2)) from rfl, Gn, Gn, ih]
        by_cases h2 : k' = k
        · rw [if_pos h2, if_pos h2, if_neg (fun h3 => hk (h2 ▸ h3))]
        · rw [if_neg h2, if_neg h2]
theorem gmGet_set (M : Qa UN β) (k k' : UN) (v : β) : W5 (J5 M k v) k' = if k' = k then some v else W5 M k' := by
  unfold J5
  split
  · rename_i j u h
    exact gf_mod k k' v M.1 0 j u (by rw [h, Nat.zero_add])
  · rename_i h
    show (Yp k' (M.1 ++ [(k, v, M.2)]) 0).map (·.2) = _
    rw [gf_app]
    by_cases h2 : k' = k
    · subst h2; rw [h]; simp
    · rw [if_neg h2, if_neg h2, show W5 M k' = (Yp k' M.1 0).map (·.2) from rfl]
      cases (Yp k' M.1 0).map (·.2) with
      | none => rfl
      | some v => rfl
end
def Ge (own out : List UN) (s : UN) : List UN := if s ∈ own ∨ s ∈ out then out else out ++ [s]
def JU (own out l : List UN) : List UN := l.foldl (Ge own) out
theorem addN_len (own out : List UN) (s : UN) : (Ge own out s).length ≤ out.length + 1 := by
  unfold Ge; split
  · omega
  · simp
theorem YG (own out a b : List UN) : JU own out (a ++ b) = JU own (JU own out a) b := by unfold JU; rw [List.foldl_append]
theorem Yr (own : List UN) : ∀ (l out : List UN), (JU own out l).length ≤ out.length + l.length
  | [], out => Nat.le_refl _
  | s :: l, out => by
    have h1 := addN_len own out s
    have h2 := Yr own l (Ge own out s)
    show (JU own (Ge own out s) l).length ≤ _
    simp only [List.length_cons]; omega
def Met (own out : List UN) (M : Qa UN Bool) : Prop := ∀ s, Qp M s = decide (s ∈ own ∨ s ∈ out)
theorem gmVal_set {β : Type} [MV β] (M : Qa UN β) (k k' : UN) (v : β) : Qp (J5 M k v) k' = if k' = k then v else Qp M k' := by
  unfold Qp
  rw [gmGet_set]
  by_cases h : k' = k <;> simp [h]
theorem Met.nil : Met [] [] gmNil := fun s => by simp [Qp, gmGet_nil, MV.z]
theorem Met.set {own out : List UN} {M : Qa UN Bool} (h : Met own out M) (s : UN) (hs : ¬ (s ∈ own ∨ s ∈ out)) : Met own (out ++ [s]) (J5 M s true) := fun x => by
  rw [gmVal_set, h x]
  by_cases e : x = s
  · subst e; simp
  · simp [e]
theorem add_step {own out : List UN} {M : Qa UN Bool} (h : Met own out M) (s : UN) (hl : out.length < 1000000000) : ∃ M', (cond (!(Qp M s)) (J8 (Nat.ble (out.length + ([s]).length) 1000000000) (some ((J5 M s true), (out ++ ([s]))))) (some (M, out))) = some (M', Ge own out s) ∧ Met own (Ge own out s) M' := by
  rw [h s]
  unfold Ge
  by_cases e : s ∈ own ∨ s ∈ out
  · refine ⟨M, ?_, ?_⟩
    · rw [decide_eq_true e, if_pos e]; rfl
    · rw [if_pos e]; exact h
  · refine ⟨J5 M s true, ?_, ?_⟩
    · rw [decide_eq_false e, if_neg e, JN (by show out.length + 1 ≤ _; omega)]; rfl
    · rw [if_neg e]; exact h.set s e
theorem GX {α : Type} (f : α → Nat) {x : α} : ∀ {l : List α}, x ∈ l → f x ≤ (l.map f).sum
  | y :: l, h => by
    rw [List.map_cons, List.sum_cons]
    rcases List.mem_cons.1 h with rfl | h
    · omega
    · have := GX f h; omega
def lvz (l : Lvl) : Nat := 1 + (l.vs.map fun _ => 1).sum
def Tm.size : Tm → Nat
  | .mk _ _ n ls ks => 1 + n.length + (ls.map lvz).sum + (ks.attach.map fun k => Tm.size k.1).sum
termination_by t => SizeOf.sizeOf t
decreasing_by
  have := List.sizeOf_lt_of_mem k.2
  simp only [Tm.mk.sizeOf_spec]; omega
theorem Tm.size_eq (t : Tm) : t.size = 1 + t.name.length + (t.levels.map lvz).sum + (t.kids.map Tm.size).sum := by
  cases t
  rw [Tm.size, List.attach_map_val]; rfl
def Tm.cn : Tm → List UN
  | .mk k _ n _ ks => (if k = 3 then [n] else []) ++ (ks.attach.map fun k => Tm.cn k.1).flatten
termination_by t => SizeOf.sizeOf t
decreasing_by
  have := List.sizeOf_lt_of_mem k.2
  simp only [Tm.mk.sizeOf_spec]; omega
theorem Tm.cn_eq (t : Tm) : t.cn = (if t.kind = 3 then [t.name] else []) ++ (t.kids.map Tm.cn).flatten := by
  cases t
  rw [Tm.cn, List.attach_map_val]; rfl
theorem Zy {t k : Tm} (h : k ∈ t.kids) : k.size < t.size := by
  have := GX Tm.size h
  rw [t.size_eq]; omega
theorem Tm.ind {C : Tm → Prop} (h : ∀ t : Tm, (∀ k ∈ t.kids, C k) → C t) (t : Tm) : C t := by
  have : ∀ n (t : Tm), t.size ≤ n → C t := by
    intro n
    induction n with
    | zero => intro t ht; rw [t.size_eq] at ht; omega
    | succ n ih => exact fun t ht => h t fun k hk => ih k (by have := Zy hk; omega)
  exact this _ t (Nat.le_refl _)
theorem ZI {α : Type} (f : α → List UN) (g : α → Nat) : ∀ l : List α, (∀ x ∈ l, (f x).length ≤ g x) → (l.map f).flatten.length ≤ (l.map g).sum
  | [], _ => Nat.le_refl _
  | x :: l, h => by
    simp only [List.map_cons, List.flatten_cons, List.length_append, List.sum_cons]
    have h1 := h x List.mem_cons_self
    have h2 := ZI f g l fun y hy => h y (List.mem_cons_of_mem _ hy)
    omega
theorem Tm.cn_len (t : Tm) : t.cn.length ≤ t.size := by
  induction t using Tm.ind with
  | h t ih =>
    rw [t.cn_eq, t.size_eq, List.length_append]
    have := ZI Tm.cn Tm.size t.kids ih
    have h0 : (if t.kind = 3 then [t.name] else []).length ≤ 1 := by split <;> simp
    omega
theorem GN (t : Tm) : t.kids.length < t.size := by
  rw [t.size_eq]
  have : ∀ l : List Tm, l.length ≤ (l.map Tm.size).sum := by
    intro l
    induction l with
    | nil => exact Nat.le_refl _
    | cons x l ih =>
      rw [List.map_cons, List.sum_cons, List.length_cons]
      have := x.size_eq
      omega
  have := this t.kids
  omega
theorem ZV {α : Type} (f : α → Nat) (a : List α) (x : α) (b : List α) : ((a ++ x :: b).map f).sum = (a.map f).sum + f x + (b.map f).sum := by simp; omega
theorem visit_ok (root : Tm) : ∀ (n : Nat) (t : Tm) (d : Int) (own out : List UN) (M : Qa UN Bool), t.size ≤ n → Met own out M → out.length + t.size ≤ 900000000 →
    ∃ M', Yt Xy n (t, d, M, out, root) = some (true, M', JU own out t.cn) ∧ Met own (JU own out t.cn) M'
  | 0, t, d, own, out, M, h, _, _ => by rw [t.size_eq] at h; omega
  | n + 1, t, d, own, out, M, h, hM, hb => by
    show ∃ M', Xx (Yt Xy n) t d M out root = _ ∧ _
    unfold Xx
    have hsz := t.size_eq
    have h1 : ∃ M1, (Option.bind (cond (t.kind == 3) (some (!(Qp M t.name))) (some false)) (fun (v4 : Bool) => cond v4
        (J8 (Nat.ble (out.length + ([t.name]).length) 1000000000) (some ((J5 M t.name true), (out ++ ([t.name])))))
        (some (M, out)))) = some (M1, JU own out (if t.kind = 3 then [t.name] else [])) ∧ Met own (JU own out (if t.kind = 3 then [t.name] else [])) M1 := by
      by_cases hk : t.kind = 3
      · rw [if_pos hk, hk]
        exact add_step hM t.name (by omega)
      · rw [if_neg hk, show (t.kind == 3) = false from beq_eq_false_iff_ne.2 hk]
        exact ⟨M, rfl, hM⟩
    obtain ⟨M1, e1, hM1⟩ := h1
    rw [e1, Option.bind_some]
    have h2 : ∃ v9 : Int, ∀ f : Int → Option (Bool × Qa UN Bool × List UN), (Option.bind (cond (decide (0 ≤ t.kind)) (some (decide (t.kind < 13))) (some false)) (fun (v8 : Bool) => Option.bind (cond v8
        (J8 (cond (decide (0 ≤ t.kind)) (Nat.blt t.kind.toNat 13) false)
        (Option.bind (Yi ([(-1), (-1), (-1), (-1), (-1), 1, 1, 1, (-1), (-1), (-1), 2, (-1)] : List Int) t.kind) fun (x12 : Int) => some x12))
        (some (-1))) f)) = f v9 := by
      by_cases ha : 0 ≤ t.kind
      · by_cases hb : t.kind < 13
        · obtain ⟨k, hk⟩ := Int.eq_ofNat_of_zero_le ha
          have hk13 : k < 13 := by omega
          obtain ⟨y, hy⟩ : ∃ y, Yi ([(-1), (-1), (-1), (-1), (-1), 1, 1, 1, (-1), (-1), (-1), 2, (-1)] : List Int) t.kind = some y := by
            rw [hk]; exact ⟨_, List.getElem?_eq_getElem (by simpa using hk13)⟩
          refine ⟨y, fun f => ?_⟩
          rw [decide_eq_true ha, decide_eq_true hb, hy]
          simp only [cond_true, Option.bind_some]
          rw [show Nat.blt t.kind.toNat 13 = true from by rw [Nat.blt_eq]; omega]
          rfl
        · refine ⟨-1, fun f => ?_⟩
          rw [decide_eq_true ha, decide_eq_false hb]; rfl
      · refine ⟨-1, fun f => ?_⟩
        rw [decide_eq_false ha]; rfl
    obtain ⟨v9, e2⟩ := h2
    dsimp only
    rw [e2]
    have hlen := GN t
    have hl1 : (JU own out (if t.kind = 3 then [t.name] else [])).length ≤ out.length + 1 := by
      refine Nat.le_trans (Yr own _ out) ?_
      split <;> simp
    have := YN (step := Zq t v9 d (Yt Xy n) root) t.kids (fun i (s : Qa UN Bool × List UN) => (i, s.1, s.2))
      (fun a s => Met own s.2 s.1 ∧ s.2 = JU own (JU own out (if t.kind = 3 then [t.name] else [])) (a.map Tm.cn).flatten)
      (fun r => ∃ M', r = .inl (M', JU own out t.cn) ∧ Met own (JU own out t.cn) M') (by omega)
      (fun a x b s hl hs => .inr (by
        obtain ⟨Ms, os⟩ := s
        obtain ⟨hs1, hs2⟩ := hs
        dsimp only at hs1 hs2
        have hx : x ∈ t.kids := by rw [hl]; simp
        have hxs := Zy hx
        have hol : os.length ≤ out.length + 1 + (a.map Tm.size).sum := by
          rw [hs2]
          refine Nat.le_trans (Yr own _ _) ?_
          have := ZI Tm.cn Tm.size a fun y _ => y.cn_len
          omega
        have htot : (t.kids.map Tm.size).sum = (a.map Tm.size).sum + x.size + (b.map Tm.size).sum := by rw [hl, ZV]
        have hdd : ∃ v13 : Int, ∀ f : Int → Option (LO (Int × (Qa UN Bool) × (List UN)) (((Qa UN Bool) × (List UN)) ⊕ ((Bool × (Qa UN Bool) × (List UN))))), Option.bind (cond ((a.length : Int) == v9) (some (Jk (d + 1))) (some d)) f = f v13 := by
          cases ((a.length : Int) == v9) with
          | true => exact ⟨_, fun f => rfl⟩
          | false => exact ⟨_, fun f => rfl⟩
        obtain ⟨v13, hv13⟩ := hdd
        obtain ⟨M2, e3, hM2⟩ := visit_ok root n x v13 own os Ms (by omega) hs1 (by omega)
        refine ⟨(M2, JU own os x.cn), ?_, hM2, ?_⟩
        · unfold Zq
          dsimp only
          rw [hl, Y4, JI]
          simp only [cond_true, Option.bind_some]
          rw [hv13, e3]
          rfl
        · rw [hs2, ← YG]; simp))
      (fun s hs => ⟨.inl (s.1, s.2), by
        unfold Zq
        dsimp only
        rw [Y7]; rfl, s.1, by rw [hs.2, ← YG, ← t.cn_eq], by rw [t.cn_eq, YG, ← hs.2]; exact hs.1⟩) (M1, JU own out (if t.kind = 3 then [t.name] else [])) ⟨hM1, rfl⟩
    obtain ⟨r, e4, M', rfl, hM'⟩ := this
    refine ⟨M', ?_, hM'⟩
    rw [e4]; rfl
def Jp (t : Tm) : List UN := JU [] [] t.cn
theorem Zp (t : Tm) : (Jp t).length ≤ t.size := by
  have h1 := Yr [] t.cn []
  have h2 := t.cn_len
  unfold Jp
  simp only [List.length_nil] at h1
  omega
theorem m58_eq (t : Tm) (h : t.size ≤ 900000000) : U0 t = some (Jp t) := by
  unfold U0
  obtain ⟨M', e, -⟩ := visit_ok t J2 t 0 [] [] gmNil (by unfold J2; omega) Met.nil (by simpa using h)
  unfold m91f12
  simp only [Option.bind_some]
  rw [e]; rfl
theorem beqB (a b : UN) : (a == b) = decide (a = b) := by
  by_cases h : a = b
  · rw [decide_eq_true h]; exact beq_iff_eq.2 h
  · rw [decide_eq_false h, Bool.eq_false_iff]; exact fun h' => h (beq_iff_eq.1 h')
theorem m77_eq (l : List UN) (s : UN) (h : l.length ≤ 900000000) : WU l s = some (decide (s ∈ l)) := by
  unfold WU
  obtain ⟨r, e, h2⟩ := YN (step := XR l s) l (fun i (_ : Unit) => i) (fun a _ => s ∉ a) (fun r => (r = .inl () ∧ s ∉ l) ∨ (r = .inr true ∧ s ∈ l)) h
    (fun a x b _ hl hs => by
      unfold XR
      rw [hl, Y4, JI]
      simp only [cond_true, Option.bind_some, beqB]
      by_cases e : x = s
      · subst e
        exact .inl ⟨.inr true, by simp, .inr ⟨rfl, by simp⟩⟩
      · refine .inr ⟨(), by simp [e], ?_⟩
        intro h'
        rcases List.mem_append.1 h' with h' | h'
        · exact hs h'
        · exact e (List.mem_singleton.1 h').symm)
    (fun _ hs => ⟨.inl (), by unfold XR; rw [Y7]; rfl, .inl ⟨rfl, hs⟩⟩) () (by simp)
  rw [e]
  rcases h2 with ⟨rfl, h2⟩ | ⟨rfl, h2⟩
  · simp [h2]
  · simp [h2]
theorem m33_eq (l : List UN) (s : UN) (h : l.length ≤ 900000000) : U5 l s = some (decide (s ∈ l)) := m77_eq l s h
theorem addN_nil (out : List UN) (s : UN) : Ge [] out s = if s ∈ out then out else out ++ [s] := by unfold Ge; simp
theorem rvisit_ok : ∀ (n : Nat) (t : Tm) (out : List UN), t.size ≤ n → out.length + t.size ≤ 900000000 → Yt XA n (out, t) = some (JU [] out t.cn)
  | 0, t, out, h, _ => by rw [t.size_eq] at h; omega
  | n + 1, t, out, h, hb => by
    show Xz (Yt XA n) out t = _
    unfold Xz
    have hsz := t.size_eq
    have h1 : ∀ f : List UN → Option (List UN), Option.bind (cond (t.kind == 3) (Option.bind (WU out t.name) fun (x3 : Bool) => some (!x3)) (some false)) (fun (v1 : Bool) => Option.bind (cond v1
        (J8 (Nat.ble (out.length + ([t.name]).length) 1000000000) (some (out ++ ([t.name])))) (some out)) f) = f (JU [] out (if t.kind = 3 then [t.name] else [])) := by
      intro f
      by_cases hk : t.kind = 3
      · rw [if_pos hk, hk, m77_eq _ _ (by omega)]
        show _ = f (Ge [] out t.name)
        rw [addN_nil]
        by_cases hm : t.name ∈ out
        · simp [hm]
        · rw [JN (by show out.length + 1 ≤ _; omega)]
          simp [hm]
      · rw [if_neg hk, show (t.kind == 3) = false from beq_eq_false_iff_ne.2 hk]; rfl
    rw [h1]
    have hlen := GN t
    have hl1 : (JU [] out (if t.kind = 3 then [t.name] else [])).length ≤ out.length + 1 := by
      refine Nat.le_trans (Yr [] _ out) ?_
      split <;> simp
    have hfold : ∀ (a : List Tm) (s : List UN), a.foldl (fun s x => JU [] s x.cn) s = JU [] s (a.map Tm.cn).flatten := by
      intro a
      induction a with
      | nil => intro s; rfl
      | cons x a ih => intro s; simp only [List.foldl_cons, List.map_cons, List.flatten_cons]; rw [ih, YG]
    rw [Z7 (step := Zs t (Yt XA n)) t.kids (fun i (s : List UN) => (s, i)) (fun s x => JU [] s x.cn) (JU [] out (if t.kind = 3 then [t.name] else [])) (JU [] out t.cn) (by omega)
      (fun a x b hl => by
        have hx : x ∈ t.kids := by rw [hl]; simp
        have hxs := Zy hx
        have htot : (t.kids.map Tm.size).sum = (a.map Tm.size).sum + x.size + (b.map Tm.size).sum := by rw [hl, ZV]
        rw [hfold]
        have hol := Yr [] (a.map Tm.cn).flatten (JU [] out (if t.kind = 3 then [t.name] else []))
        have := ZI Tm.cn Tm.size a fun y _ => y.cn_len
        unfold Zs
        dsimp only
        rw [hl, Y4, JI]
        simp only [cond_true, Option.bind_some]
        rw [rvisit_ok n x _ (by omega) (by omega)]
        rfl)
      (by unfold Zs; dsimp only; rw [Y7, hfold, ← YG, ← t.cn_eq]; rfl)]
    rfl
theorem K0 (t : Tm) (h : t.size ≤ 900000000) : Kb t = some (Jp t) := by
  have := rvisit_ok (t.size + 1) t [] (by omega) (by simpa using h)
  have hsz := t.size_eq
  unfold Kb
  have h1 : ∀ f : List UN → Option (List UN), Option.bind (cond (t.kind == 3) (Option.bind (WU ([] : List UN) t.name) fun (x5 : Bool) => some (!x5)) (some false)) (fun (v3 : Bool) => Option.bind (cond v3
      (J8 (Nat.ble ([t.name]).length 1000000000) (some ([t.name]))) (some ([] : List UN))) f) = f (JU [] [] (if t.kind = 3 then [t.name] else [])) := by
    intro f
    by_cases hk : t.kind = 3
    · rw [if_pos hk, hk, m77_eq _ _ (by simp), JN (by simp)]
      simp [JU, Ge]
    · rw [if_neg hk, show (t.kind == 3) = false from beq_eq_false_iff_ne.2 hk]; rfl
  rw [h1]
  have hlen := GN t
  have hl1 : (JU [] [] (if t.kind = 3 then [t.name] else [])).length ≤ 1 := by
    refine Nat.le_trans (Yr [] _ []) ?_
    split <;> simp
  have hfold : ∀ (a : List Tm) (s : List UN), a.foldl (fun s x => JU [] s x.cn) s = JU [] s (a.map Tm.cn).flatten := by
    intro a
    induction a with
    | nil => intro s; rfl
    | cons x a ih => intro s; simp only [List.foldl_cons, List.map_cons, List.flatten_cons]; rw [ih, YG]
  rw [Z7 (step := Zv t) t.kids (fun i (s : List UN) => (s, i)) (fun s x => JU [] s x.cn) (JU [] [] (if t.kind = 3 then [t.name] else [])) (Jp t) (by omega)
    (fun a x b hl => by
      have hx : x ∈ t.kids := by rw [hl]; simp
      have hxs := Zy hx
      have htot : (t.kids.map Tm.size).sum = (a.map Tm.size).sum + x.size + (b.map Tm.size).sum := by rw [hl, ZV]
      rw [hfold]
      have hol := Yr [] (a.map Tm.cn).flatten (JU [] [] (if t.kind = 3 then [t.name] else []))
      have := ZI Tm.cn Tm.size a fun y _ => y.cn_len
      unfold Zv
      dsimp only
      rw [hl, Y4, JI]
      simp only [cond_true, Option.bind_some]
      unfold m60f18
      rw [rvisit_ok J2 x _ (by unfold J2; omega) (by omega)]
      rfl)
    (by unfold Zv; dsimp only; rw [Y7, hfold, ← YG, ← t.cn_eq]; rfl)]
  rfl
end Go.Proofs.Ytafddfoefeploaa
namespace Go.Proofs.Ytafddfoefeploaa
open Go.RowKit
set_option linter.unusedSimpArgs false
set_option linter.unusedVariables false
set_option linter.unusedSectionVars false
def Tr.size : Tr → Nat
  | .mk _ b _ brs => 1 + b.size + (brs.attach.map fun x => 1 + x.1.ctor.length + Tr.size x.1.tree).sum
termination_by t => SizeOf.sizeOf t
decreasing_by
  have h1 := List.sizeOf_lt_of_mem x.2
  have h2 := BrF.tree_lt x.1
  simp only [Tr.mk.sizeOf_spec]; omega
def Tr.cn : Tr → List UN
  | .mk k b _ brs => if k = 0 then Jp b else (brs.attach.map fun x => x.1.ctor :: (if x.1.absurd then [] else Tr.cn x.1.tree)).flatten
termination_by t => SizeOf.sizeOf t
decreasing_by
  have h1 := List.sizeOf_lt_of_mem x.2
  have h2 := BrF.tree_lt x.1
  simp only [Tr.mk.sizeOf_spec]; omega
def bsz (b : UO) : Nat := 1 + b.ctor.length + b.tree.size
def Wq (b : UO) : List UN := b.ctor :: (if b.absurd then [] else b.tree.cn)
theorem Tr.size_eq (t : Tr) : t.size = 1 + t.body.size + (t.branches.map bsz).sum := by
  cases t with
  | mk k b v brs =>
    rw [Tr.size]
    show _ = 1 + b.size + (brs.map bsz).sum
    rw [← List.attach_map_val (l := brs) (f := bsz)]; rfl
theorem Tr.cn_eq (t : Tr) : t.cn = if t.kind = 0 then Jp t.body else (t.branches.map Wq).flatten := by
  cases t with
  | mk k b v brs =>
    rw [Tr.cn]
    show _ = if k = 0 then Jp b else (brs.map Wq).flatten
    rw [← List.attach_map_val (l := brs) (f := Wq)]; rfl
theorem Tr.kid_size {t : Tr} {b : UO} (h : b ∈ t.branches) : b.tree.size < t.size := by
  have := GX bsz h
  have e : bsz b = 1 + b.ctor.length + b.tree.size := rfl
  rw [t.size_eq]; omega
theorem Tr.ind {C : Tr → Prop} (h : ∀ t : Tr, (∀ b ∈ t.branches, C b.tree) → C t) (t : Tr) : C t := by
  have : ∀ n (t : Tr), t.size ≤ n → C t := by
    intro n
    induction n with
    | zero => intro t ht; rw [t.size_eq] at ht; omega
    | succ n ih => exact fun t ht => h t fun k hk => ih k.tree (by have := Tr.kid_size hk; omega)
  exact this _ t (Nat.le_refl _)
theorem Tr.cn_len (t : Tr) : t.cn.length ≤ t.size := by
  induction t using Tr.ind with
  | h t ih =>
    rw [t.cn_eq, t.size_eq]
    split
    · have := Zp t.body; omega
    · have := ZI Wq bsz t.branches fun b hb => by
        have := ih b hb
        unfold Wq bsz
        rw [List.length_cons]
        split
        · simp; omega
        · omega
      omega
theorem GZ {α : Type} (g : α → Nat) (hg : ∀ x, 1 ≤ g x) : ∀ l : List α, l.length ≤ (l.map g).sum
  | [] => Nat.le_refl _
  | x :: l => by
    rw [List.map_cons, List.sum_cons, List.length_cons]
    have := hg x
    have := GZ g hg l
    omega
theorem branches_len (t : Tr) : t.branches.length < t.size := by
  have := GZ bsz (fun b => by unfold bsz; omega) t.branches
  rw [t.size_eq]; omega
def csz (c : Ctr) : Nat := 1 + c.name.length + c.ty.size
def fsz (f : Fn) : Nat := 1 + f.name.length + f.ty.size + f.tree.size
def Dcl.size (d : Dcl) : Nat := 1 + d.name.length + d.ty.size + d.value.size + (d.ctors.map csz).sum + d.rcr.ty.size + (d.rcr.rules.map Tm.size).sum + (d.funs.map fsz).sum
theorem Kv (d : Dcl) : d.ctors.length < d.size := by
  have := GZ csz (fun b => by unfold csz; omega) d.ctors
  unfold Dcl.size; omega
theorem KF (d : Dcl) : d.funs.length < d.size := by
  have := GZ fsz (fun b => by unfold fsz; omega) d.funs
  unfold Dcl.size; omega
theorem rules_len (d : Dcl) : d.rcr.rules.length < d.size := by
  have := GZ Tm.size (fun b => by rw [b.size_eq]; omega) d.rcr.rules
  unfold Dcl.size; omega
def Yh (d : Dcl) : List UN :=
  if d.kind = 0 ∨ d.kind = 1 ∨ d.kind = 2 then [d.name] else
  if d.kind = 3 then (d.name :: d.ctors.map (·.name)) ++ [d.name ++ [46, 114, 101, 99]] else
  if d.kind = 4 then d.funs.map (·.name) else []
theorem names_len (d : Dcl) : (Yh d).length ≤ d.size + 1 := by
  have h1 := Kv d
  have h2 := KF d
  unfold Yh
  split
  · simp
  · split
    · simp; omega
    · split
      · simp; omega
      · simp
theorem Z9 {α : Type} (f : α → UN) : ∀ (l : List α) (s : List UN), l.foldl (fun s x => s ++ [f x]) s = s ++ l.map f
  | [], s => by simp
  | x :: l, s => by rw [List.foldl_cons, Z9 f l]; simp
theorem kinds_eq (k : Int) : (cond (k == 0) (some (k == 0)) (cond (k == 1) (some (k == 1)) (some (k == 2)))) = some (decide (k = 0 ∨ k = 1 ∨ k = 2)) := by
  by_cases h0 : k = 0
  · subst h0; rfl
  · by_cases h1 : k = 1
    · subst h1; rfl
    · by_cases h2 : k = 2
      · subst h2; rfl
      · simp [beqI, h0, h1, h2]
theorem m20_eq (d : Dcl) (h : d.size ≤ 900000000) : WT d = some (Yh d) := by
  have h1 := Kv d
  have h2 := KF d
  have hn : d.name.length < d.size := by unfold Dcl.size; omega
  unfold WT
  rw [kinds_eq, Option.bind_some]
  unfold Yh
  by_cases hk : d.kind = 0 ∨ d.kind = 1 ∨ d.kind = 2
  · rw [if_pos hk, decide_eq_true hk]; rfl
  rw [if_neg hk, decide_eq_false hk]
  by_cases h3 : d.kind = 3
  · rw [if_pos h3, h3, Z7 (step := Xq d) d.ctors (fun i (s : List UN) => (s, i)) (fun s c => s ++ [c.name]) [d.name] ((d.name :: d.ctors.map (·.name))) (by omega)
      (fun a x b hl => by
        rw [Z9]
        unfold Xq
        dsimp only
        have : a.length < d.ctors.length := Gi hl
        rw [hl, Y4, JI]
        simp only [cond_true, Option.bind_some]
        rw [JN (by simp; omega)])
      (by unfold Xq; dsimp only; rw [Y7, Z9]; rfl)]
    simp only [cond_false, Option.bind_some, beq_self_eq_true, cond_true]
    rw [JN (by simp), JN (by simp; omega), JN (by simp; omega)]
  rw [if_neg h3, show (d.kind == 3) = false from beq_eq_false_iff_ne.2 h3]
  by_cases h4 : d.kind = 4
  · rw [if_pos h4, h4, Z7 (step := Xp d) d.funs (fun i (s : List UN) => (s, i)) (fun s c => s ++ [c.name]) [] (d.funs.map (·.name)) (by omega)
      (fun a x b hl => by
        rw [Z9]
        unfold Xp
        dsimp only
        have : a.length < d.funs.length := Gi hl
        rw [hl, Y4, JI]
        simp only [cond_true, Option.bind_some]
        rw [JN (by simp; omega)])
      (by unfold Xp; dsimp only; rw [Y7, Z9]; rfl)]
    rfl
  rw [if_neg h4, show (d.kind == 4) = false from beq_eq_false_iff_ne.2 h4]; rfl
theorem m23_eq (d : Dcl) (h : d.size ≤ 900000000) : WO d = some (Yh d) := by
  have h1 := Kv d
  have h2 := KF d
  have hn : d.name.length < d.size := by unfold Dcl.size; omega
  unfold WO
  rw [kinds_eq, Option.bind_some]
  unfold Yh
  by_cases hk : d.kind = 0 ∨ d.kind = 1 ∨ d.kind = 2
  · rw [if_pos hk, decide_eq_true hk]; rfl
  rw [if_neg hk, decide_eq_false hk]
  by_cases h3 : d.kind = 3
  · rw [if_pos h3, h3, Z7 (step := Xo d) d.ctors (fun i (s : List UN) => (s, i)) (fun s c => s ++ [c.name]) [d.name] ((d.name :: d.ctors.map (·.name))) (by omega)
      (fun a x b hl => by
        rw [Z9]
        unfold Xo
        dsimp only
        have : a.length < d.ctors.length := Gi hl
        rw [hl, Y4, JI]
        simp only [cond_true, Option.bind_some]
        rw [JN (by simp; omega)])
      (by unfold Xo; dsimp only; rw [Y7, Z9]; rfl)]
    simp only [cond_false, Option.bind_some, beq_self_eq_true, cond_true]
    rw [JN (by simp; omega), JN (by simp; omega)]
  rw [if_neg h3, show (d.kind == 3) = false from beq_eq_false_iff_ne.2 h3]
  by_cases h4 : d.kind = 4
  · rw [if_pos h4, h4, Z7 (step := Xn d) d.funs (fun i (s : List UN) => (s, i)) (fun s c => s ++ [c.name]) [] (d.funs.map (·.name)) (by omega)
      (fun a x b hl => by
        rw [Z9]
        unfold Xn
        dsimp only
        have : a.length < d.funs.length := Gi hl
        rw [hl, Y4, JI]
        simp only [cond_true, Option.bind_some]
        rw [JN (by simp; omega)])
      (by unfold Xn; dsimp only; rw [Y7, Z9]; rfl)]
    rfl
  rw [if_neg h4, show (d.kind == 4) = false from beq_eq_false_iff_ne.2 h4]; rfl
theorem m92f15_eq (l own out : List UN) (M : Qa UN Bool) (a3 : List Tm) (a4 : Dcl) (hM : Met own out M) (h : out.length + l.length ≤ 900000000) : ∃ M', Wb l M out a3 a4 = some (M', JU own out l) ∧ Met own (JU own out l) M' := by
  unfold Wb
  obtain ⟨r, e, M', rfl, hM'⟩ := YN (step := Ko l a3 a4) l (fun i (s : Qa UN Bool × List UN) => (i, s.1, s.2)) (fun a s => Met own s.2 s.1 ∧ s.2 = JU own out a) (fun r => ∃ M', r = (M', JU own out l) ∧ Met own (JU own out l) M') (by omega)
    (fun a x b s hl hs => .inr (by
      obtain ⟨Ms, os⟩ := s
      obtain ⟨hs1, hs2⟩ := hs
      dsimp only at hs1 hs2
      have hol := Yr own a out
      rw [← hs2] at hol
      have : a.length < l.length := Gi hl
      obtain ⟨M1, e1, hM1⟩ := add_step hs1 x (by omega)
      refine ⟨(M1, Ge own os x), ?_, hM1, ?_⟩
      · unfold Ko
        dsimp only
        rw [hl, Y4, JI]
        simp only [cond_true, Option.bind_some]
        unfold m76f16
        rw [e1]; rfl
      · rw [YG, ← hs2]; rfl))
    (fun s hs => ⟨(s.1, s.2), by unfold Ko; dsimp only; rw [Y7]; rfl, s.1, by rw [hs.2], by rw [← hs.2]; exact hs.1⟩) (M, out) ⟨hM, rfl⟩
  rw [e]
  exact ⟨M', rfl, hM'⟩
theorem tvisit_ok (a3 : List Tm) (a4 : Dcl) : ∀ (n : Nat) (t : Tr) (own out : List UN) (M : Qa UN Bool), t.size ≤ n → Met own out M → out.length + t.size ≤ 900000000 →
    ∃ M', Yt XD n (t, M, out, a3, a4) = some (true, M', JU own out t.cn) ∧ Met own (JU own out t.cn) M'
  | 0, t, own, out, M, h, _, _ => by rw [t.size_eq] at h; omega
  | n + 1, t, own, out, M, h, hM, hb => by
    show ∃ M', XB (Yt XD n) t M out a3 a4 = _ ∧ _
    unfold XB
    have hsz := t.size_eq
    have hlen := branches_len t
    rw [t.cn_eq]
    by_cases hk : t.kind = 0
    · rw [if_pos hk, hk]
      have := Zp t.body
      rw [m58_eq _ (by omega)]
      obtain ⟨M', e, hM'⟩ := m92f15_eq (Jp t.body) own out M a3 a4 hM (by omega)
      refine ⟨M', ?_, hM'⟩
      simp only [Option.bind_some, beq_self_eq_true, cond_true]
      unfold m75f14
      rw [e]; rfl
    · rw [if_neg hk, show (t.kind == 0) = false from beq_eq_false_iff_ne.2 hk, cond_false]
      obtain ⟨r, e, M', rfl, hM'⟩ := YN (step := ZX t (Yt XD n) a3 a4) t.branches (fun i (s : Qa UN Bool × List UN) => (i, s.1, s.2)) (fun a s => Met own s.2 s.1 ∧ s.2 = JU own out (a.map Wq).flatten)
        (fun r => ∃ M', r = .inl (M', JU own out (t.branches.map Wq).flatten) ∧ Met own (JU own out (t.branches.map Wq).flatten) M') (by omega)
        (fun a x b s hl hs => .inr (by
          obtain ⟨Ms, os⟩ := s
          obtain ⟨hs1, hs2⟩ := hs
          dsimp only at hs1 hs2
          have hx : x ∈ t.branches := by rw [hl]; simp
          have hxs := Tr.kid_size hx
          have hol : os.length ≤ out.length + (a.map bsz).sum := by
            rw [hs2]
            refine Nat.le_trans (Yr own _ _) ?_
            have := ZI Wq bsz a fun y _ => by
              have := y.tree.cn_len
              unfold Wq bsz
              rw [List.length_cons]
              split
              · simp; omega
              · omega
            omega
          have htot : (t.branches.map bsz).sum = (a.map bsz).sum + bsz x + (b.map bsz).sum := by rw [hl, ZV]
          have hbx : bsz x = 1 + x.ctor.length + x.tree.size := rfl
          obtain ⟨M1, e1, hM1⟩ := add_step hs1 x.ctor (by omega)
          have hadd := addN_len own os x.ctor
          cases ha : x.absurd with
          | true =>
            refine ⟨(M1, Ge own os x.ctor), ?_, hM1, ?_⟩
            · unfold ZX
              dsimp only
              rw [hl, Y4, JI]
              simp only [cond_true, Option.bind_some]
              rw [e1, ha]; rfl
            · rw [List.map_append, List.flatten_append, YG, ← hs2]
              simp only [List.map_cons, List.map_nil, List.flatten_cons, List.flatten_nil, List.append_nil, Wq, ha, if_true]; rfl
          | false =>
            obtain ⟨M2, e2, hM2⟩ := tvisit_ok a3 a4 n x.tree own (Ge own os x.ctor) M1 (by omega) hM1 (by omega)
            refine ⟨(M2, JU own (Ge own os x.ctor) x.tree.cn), ?_, hM2, ?_⟩
            · unfold ZX
              dsimp only
              rw [hl, Y4, JI]
              simp only [cond_true, Option.bind_some]
              rw [e1, ha]
              simp only [Option.bind_some, Bool.not_false, cond_true]
              rw [e2]; rfl
            · rw [List.map_append, List.flatten_append, YG, ← hs2]
              simp only [List.map_cons, List.map_nil, List.flatten_cons, List.flatten_nil, List.append_nil, Wq, ha]; rfl))
        (fun s hs => ⟨.inl (s.1, s.2), by unfold ZX; dsimp only; rw [Y7]; rfl, s.1, by rw [hs.2], by rw [← hs.2]; exact hs.1⟩) (M, out) ⟨hM, rfl⟩
      rw [e]
      exact ⟨M', rfl, hM'⟩
def Jq (d : Dcl) : List Tm := [d.ty, d.value] ++ d.ctors.map (·.ty) ++ [d.rcr.ty] ++ d.rcr.rules ++ d.funs.map (·.ty)
def Yx (d : Dcl) : List UN := ((Jq d).map Jp).flatten ++ (d.funs.map fun f => f.tree.cn).flatten
def Wp (d : Dcl) : List UN := JU (Yh d) [] (Yx d)
theorem XI {α : Type} (f : α → List UN) (g : α → Nat) (h : ∀ x, (f x).length ≤ g x) (l : List α) : (l.map f).flatten.length ≤ (l.map g).sum := ZI f g l fun x _ => h x
theorem sum_le {α : Type} (f g : α → Nat) (h : ∀ x, f x ≤ g x) : ∀ l : List α, (l.map f).sum ≤ (l.map g).sum
  | [] => Nat.le_refl _
  | x :: l => by
    simp only [List.map_cons, List.sum_cons]
    have := h x
    have := sum_le f g h l
    omega
theorem Kn (d : Dcl) : ((Jq d).map Tm.size).sum + (d.funs.map fun f => f.tree.size).sum < d.size := by
  unfold Jq Dcl.size
  simp only [List.map_append, List.map_cons, List.map_nil, List.sum_append, List.sum_cons, List.sum_nil, List.map_map]
  have h1 := sum_le (Tm.size ∘ fun c : Ctr => c.ty) csz (fun c => by show c.ty.size ≤ csz c; unfold csz; omega) d.ctors
  have h2 : (d.funs.map (Tm.size ∘ fun f : Fn => f.ty)).sum + (d.funs.map fun f => f.tree.size).sum ≤ (d.funs.map fsz).sum := by
    induction d.funs with
    | nil => exact Nat.le_refl _
    | cons f l ih =>
      simp only [List.map_cons, List.sum_cons]
      have : fsz f = 1 + f.name.length + f.ty.size + f.tree.size := rfl
      have : (Tm.size ∘ fun f : Fn => f.ty) f = f.ty.size := rfl
      omega
  omega
theorem terms_len (d : Dcl) : (Jq d).length < d.size := by
  have := Kn d
  have h1 := GZ Tm.size (fun b => by rw [b.size_eq]; omega) (Jq d)
  omega
theorem mentioned_len (d : Dcl) : (Yx d).length < d.size := by
  unfold Yx
  rw [List.length_append]
  have h1 := XI Jp Tm.size Zp (Jq d)
  have h2 := XI (fun f : Fn => f.tree.cn) (fun f => f.tree.size) (fun f => f.tree.cn_len) d.funs
  have := Kn d
  omega
theorem uses_len (d : Dcl) : (Wp d).length < d.size := by
  have := Yr (Yh d) (Yx d) []
  have := mentioned_len d
  unfold Wp
  simp only [List.length_nil] at *
  omega
theorem KG {α : Type} (f : α → Tm) : ∀ (l : List α) (s : List Tm), l.foldl (fun s x => s ++ [f x]) s = s ++ l.map f
  | [], s => by simp
  | x :: l, s => by rw [List.foldl_cons, KG f l]; simp
theorem YK {d : Dcl} {t : Tm} (h : t ∈ Jq d) : t.size < d.size := by
  have := GX Tm.size h
  have := Kn d
  omega
theorem fun_mem {d : Dcl} {f : Fn} (h : f ∈ d.funs) : f.tree.size < d.size := by
  have := GX (fun f : Fn => f.tree.size) h
  have := Kn d
  omega
theorem terms_eq (d : Dcl) (h : d.size ≤ 900000000) : (Option.bind (QV (GE d) J2 (0, [d.ty, d.value])) (fun (o5 : (List Tm)) => J8 (Nat.ble (o5.length + ([d.rcr.ty]).length) 1000000000)
  (J8 (Nat.ble ((o5 ++ ([d.rcr.ty])).length + d.rcr.rules.length) 1000000000)
  (Option.bind (QV (Gl d) J2 (0, ((o5 ++ ([d.rcr.ty])) ++ d.rcr.rules))) (fun (o8 : (List Tm)) => some o8))))) = some (Jq d) := by
  have h1 := Kv d
  have h2 := KF d
  have h3 := rules_len d
  have hsum : d.ctors.length + d.rcr.rules.length + d.funs.length + 3 ≤ d.size := by
    have := terms_len d
    unfold Jq at this
    simp at this
    omega
  rw [Z7 (step := GE d) d.ctors (fun i (s : List Tm) => (i, s)) (fun s c => s ++ [c.ty]) [d.ty, d.value] ([d.ty, d.value] ++ d.ctors.map (·.ty)) (by omega)
    (fun a x b hl => by
      rw [KG]
      unfold GE
      dsimp only
      have : a.length < d.ctors.length := Gi hl
      rw [hl, Y4, JI]
      simp only [cond_true, Option.bind_some]
      rw [JN (by simp; omega)])
    (by unfold GE; dsimp only; rw [Y7, KG]; rfl)]
  simp only [Option.bind_some]
  rw [JN (by simp; omega), JN (by simp; omega)]
  rw [Z7 (step := Gl d) d.funs (fun i (s : List Tm) => (i, s)) (fun s c => s ++ [c.ty]) _ (Jq d) (by omega)
    (fun a x b hl => by
      rw [KG]
      unfold Gl
      dsimp only
      have : a.length < d.funs.length := Gi hl
      rw [hl, Y4, JI]
      simp only [cond_true, Option.bind_some]
      rw [JN (by simp; omega)])
    (by unfold Gl; dsimp only; rw [Y7, KG]; rfl)]
  rfl
theorem seen_eq (l : List UN) (h : l.length ≤ 900000000) : ∃ M, QV (Xm l) J2 (0, gmNil) = some M ∧ Met l [] M := by
  refine YN (step := Xm l) l (fun i (s : Qa UN Bool) => (i, s)) (fun a s => Met a [] s) (fun M => Met l [] M) h
    (fun a x b s hl hs => .inr ⟨J5 s x true, ?_, fun y => ?_⟩) (fun s hs => ⟨s, by unfold Xm; dsimp only; rw [Y7]; rfl, hs⟩) gmNil Met.nil
  · unfold Xm
    dsimp only
    rw [hl, Y4, JI]; rfl
  · rw [gmVal_set, hs y]
    by_cases e : y = x
    · subst e; simp
    · simp [e]
theorem m24_l3_eq (l own out : List UN) (M : Qa UN Bool) (hM : Met own out M) (h : out.length + l.length ≤ 900000000) : ∃ M', QV (Xl l) J2 (0, M, out) = some (M', JU own out l) ∧ Met own (JU own out l) M' := by
  obtain ⟨r, e, M', rfl, hM'⟩ := YN (step := Xl l) l (fun i (s : Qa UN Bool × List UN) => (i, s.1, s.2)) (fun a s => Met own s.2 s.1 ∧ s.2 = JU own out a) (fun r => ∃ M', r = (M', JU own out l) ∧ Met own (JU own out l) M') (by omega)
    (fun a x b s hl hs => .inr (by
      obtain ⟨Ms, os⟩ := s
      obtain ⟨hs1, hs2⟩ := hs
      dsimp only at hs1 hs2
      have hol := Yr own a out
      rw [← hs2] at hol
      have : a.length < l.length := Gi hl
      obtain ⟨M1, e1, hM1⟩ := add_step hs1 x (by omega)
      refine ⟨(M1, Ge own os x), ?_, hM1, ?_⟩
      · unfold Xl
        dsimp only
        rw [hl, Y4, JI]
        simp only [cond_true, Option.bind_some]
        rw [e1]; rfl
      · rw [YG, ← hs2]; rfl))
    (fun s hs => ⟨(s.1, s.2), by unfold Xl; dsimp only; rw [Y7]; rfl, s.1, by rw [hs.2], by rw [← hs.2]; exact hs.1⟩) (M, out) ⟨hM, rfl⟩
  exact ⟨M', e, hM'⟩
theorem m24_eq (d : Dcl) (h : d.size ≤ 400000000) : U2 d = some (Wp d) := by
  have hn := names_len d
  have hts := Kn d
  have htl := terms_len d
  have hfl := KF d
  unfold U2
  rw [m20_eq d (by omega), Option.bind_some]
  obtain ⟨M0, e0, hM0⟩ := seen_eq (Yh d) (by omega)
  rw [e0, Option.bind_some, terms_eq d (by omega), Option.bind_some]
  obtain ⟨r, e1, M1, rfl, hM1⟩ := YN (step := Xk (Jq d)) (Jq d) (fun i (s : Qa UN Bool × List UN) => (i, s.1, s.2)) (fun a s => Met (Yh d) s.2 s.1 ∧ s.2 = JU (Yh d) [] (a.map Jp).flatten)
    (fun r => ∃ M', r = (M', JU (Yh d) [] ((Jq d).map Jp).flatten) ∧ Met (Yh d) (JU (Yh d) [] ((Jq d).map Jp).flatten) M') (by omega)
    (fun a x b s hl hs => .inr (by
      obtain ⟨Ms, os⟩ := s
      obtain ⟨hs1, hs2⟩ := hs
      dsimp only at hs1 hs2
      have hx : x ∈ Jq d := by rw [hl]; simp
      have hxs := YK hx
      have htot : ((Jq d).map Tm.size).sum = (a.map Tm.size).sum + x.size + (b.map Tm.size).sum := by rw [hl, ZV]
      have hol : os.length ≤ (a.map Tm.size).sum := by
        rw [hs2]
        refine Nat.le_trans (Yr _ _ _) ?_
        have := XI Jp Tm.size Zp a
        simp only [List.length_nil]; omega
      have hcl := Zp x
      obtain ⟨M2, e2, hM2⟩ := m24_l3_eq (Jp x) (Yh d) os Ms hs1 (by omega)
      refine ⟨(M2, JU (Yh d) os (Jp x)), ?_, hM2, ?_⟩
      · unfold Xk
        dsimp only
        rw [hl, Y4, JI]
        simp only [cond_true, Option.bind_some]
        rw [m58_eq x (by omega), Option.bind_some, e2]; rfl
      · rw [hs2, ← YG]; simp))
    (fun s hs => ⟨(s.1, s.2), by unfold Xk; dsimp only; rw [Y7]; rfl, s.1, by rw [hs.2], by rw [← hs.2]; exact hs.1⟩) (M0, []) ⟨hM0, rfl⟩
  rw [e1, Option.bind_some]
  have hl1 : (JU (Yh d) [] ((Jq d).map Jp).flatten).length ≤ ((Jq d).map Tm.size).sum := by
    refine Nat.le_trans (Yr _ _ _) ?_
    have := XI Jp Tm.size Zp (Jq d)
    simp only [List.length_nil]; omega
  obtain ⟨r, e3, M3, rfl, hM3⟩ := YN (step := GD d (Jq d)) d.funs (fun i (s : Qa UN Bool × List UN) => (i, s.1, s.2)) (fun a s => Met (Yh d) s.2 s.1 ∧ s.2 = JU (Yh d) (JU (Yh d) [] ((Jq d).map Jp).flatten) (a.map fun f => f.tree.cn).flatten)
    (fun r => ∃ M', r = .inl (M', Wp d)) (by omega)
    (fun a x b s hl hs => .inr (by
      obtain ⟨Ms, os⟩ := s
      obtain ⟨hs1, hs2⟩ := hs
      dsimp only at hs1 hs2
      have hx : x ∈ d.funs := by rw [hl]; simp
      have hxs := fun_mem hx
      have htot : (d.funs.map fun f => f.tree.size).sum = (a.map fun f => f.tree.size).sum + x.tree.size + (b.map fun f => f.tree.size).sum := by rw [hl, ZV]
      have hol : os.length ≤ ((Jq d).map Tm.size).sum + (a.map fun f => f.tree.size).sum := by
        rw [hs2]
        refine Nat.le_trans (Yr _ _ _) ?_
        have := XI (fun f : Fn => f.tree.cn) (fun f => f.tree.size) (fun f => f.tree.cn_len) a
        omega
      obtain ⟨M2, e2, hM2⟩ := tvisit_ok (Jq d) d J2 x.tree (Yh d) os Ms (by unfold J2; omega) hs1 (by omega)
      refine ⟨(M2, JU (Yh d) os x.tree.cn), ?_, hM2, ?_⟩
      · unfold GD
        dsimp only
        rw [hl, Y4, JI]
        simp only [cond_true, Option.bind_some]
        unfold m59f13
        rw [e2]; rfl
      · rw [hs2, ← YG]; simp))
    (fun s hs => ⟨.inl (s.1, s.2), by unfold GD; dsimp only; rw [Y7]; rfl, s.1, by
      obtain ⟨s1, s2⟩ := s
      have := hs.2
      dsimp only at this ⊢
      unfold Wp Yx
      rw [YG, ← this]⟩) (M1, JU (Yh d) [] ((Jq d).map Jp).flatten) ⟨hM1, rfl⟩
  rw [e3]; rfl
theorem rtree_ok : ∀ (n : Nat) (t : Tr) (out : List UN), t.size ≤ n → out.length + t.size ≤ 900000000 → Yt XF n (t, out) = some (out ++ t.cn)
  | 0, t, out, h, _ => by rw [t.size_eq] at h; omega
  | n + 1, t, out, h, hb => by
    show XE (Yt XF n) t out = _
    unfold XE
    have hsz := t.size_eq
    have hlen := branches_len t
    rw [t.cn_eq]
    by_cases hk : t.kind = 0
    · rw [if_pos hk, hk]
      have := Zp t.body
      rw [K0 _ (by omega)]
      simp only [Option.bind_some, beq_self_eq_true, cond_true]
      rw [JN (by omega)]
    · rw [if_neg hk, show (t.kind == 0) = false from beq_eq_false_iff_ne.2 hk, cond_false]
      obtain ⟨r, e, rfl⟩ := YN (step := Kt t (Yt XF n)) t.branches (fun i (s : List UN) => (s, i)) (fun a s => s = out ++ (a.map Wq).flatten)
        (fun r => r = out ++ (t.branches.map Wq).flatten) (by omega)
        (fun a x b s hl hs => .inr (by
          have hx : x ∈ t.branches := by rw [hl]; simp
          have hxs := Tr.kid_size hx
          have hol : s.length ≤ out.length + (a.map bsz).sum := by
            rw [hs, List.length_append]
            have := ZI Wq bsz a fun y _ => by
              have := y.tree.cn_len
              unfold Wq bsz
              rw [List.length_cons]
              split
              · simp; omega
              · omega
            omega
          have htot : (t.branches.map bsz).sum = (a.map bsz).sum + bsz x + (b.map bsz).sum := by rw [hl, ZV]
          have hbx : bsz x = 1 + x.ctor.length + x.tree.size := rfl
          refine ⟨s ++ Wq x, ?_, by rw [hs]; simp⟩
          unfold Kt
          dsimp only
          rw [hl, Y4, JI]
          simp only [cond_true, Option.bind_some]
          rw [JN (by show s.length + 1 ≤ _; omega)]
          cases ha : x.absurd with
          | true => simp [Wq, ha]
          | false =>
            simp only [Bool.not_false, cond_true]
            rw [rtree_ok n x.tree _ (by omega) (by simp; omega)]
            simp [Wq, ha]))
        (fun s hs => ⟨s, by unfold Kt; dsimp only; rw [Y7]; rfl, hs⟩) out (by simp)
      rw [e]; rfl
theorem acc_loop {α : Type} {step : List UN × Int → Option (LO (List UN × Int) (List UN))} (l : List α) (f : α → List UN) (s0 : List UN) (hlen : l.length ≤ 900000000)
    (hin : ∀ a x b, l = a ++ x :: b → step (s0 ++ (a.map f).flatten, (a.length : Int)) = some (.next ((s0 ++ (a.map f).flatten) ++ f x, Jk ((a.length : Int) + 1))))
    (hout : ∀ s, step (s, (l.length : Int)) = some (.done s)) : QV step J2 (s0, 0) = some (s0 ++ (l.map f).flatten) := by
  obtain ⟨r, e, rfl⟩ := YN (step := step) l (fun i (s : List UN) => (s, i)) (fun a s => s = s0 ++ (a.map f).flatten) (fun r => r = s0 ++ (l.map f).flatten) hlen
    (fun a x b s hl hs => .inr ⟨s ++ f x, by rw [hs]; exact hin a x b hl, by rw [hs]; simp⟩) (fun s hs => ⟨s, hout s, hs⟩) s0 (by simp)
  exact e
theorem m25_eq (d : Dcl) (h : d.size ≤ 400000000) : U1 d = some (Wp d) := by
  have hn := names_len d
  have hts := Kn d
  have htl := terms_len d
  have hfl := KF d
  have hcl := Kv d
  have hrl := rules_len d
  have hml := mentioned_len d
  have hmX1 := YK (d := d) (t := d.ty) (by unfold Jq; simp)
  have hmX2 := YK (d := d) (t := d.value) (by unfold Jq; simp)
  have hmX3 := YK (d := d) (t := d.rcr.ty) (by unfold Jq; simp)
  have hml' : (Jp d.ty).length + (Jp d.value).length + ((d.ctors.map fun c => Jp c.ty).flatten).length + (Jp d.rcr.ty).length + ((d.rcr.rules.map Jp).flatten).length + ((d.funs.map fun f => Jp f.ty).flatten).length + ((d.funs.map fun f => f.tree.cn).flatten).length = (Yx d).length := by
    unfold Yx Jq
    simp only [List.map_append, List.map_cons, List.map_nil, List.flatten_append, List.flatten_cons, List.flatten_nil, List.append_nil, List.length_append, List.map_map, Function.comp_def]
  unfold U1
  rw [K0 _ (by omega), Option.bind_some, K0 _ (by omega), Option.bind_some, JN (by omega)]
  rw [acc_loop (step := XU d) d.ctors (fun c => Jp c.ty) _ (by omega) (fun a x b hl => by
      have hx := YK (d := d) (t := x.ty) (by unfold Jq; rw [hl]; simp)
      have : (d.ctors.map fun c => Jp c.ty).flatten.length = (a.map fun c => Jp c.ty).flatten.length + (Jp x.ty).length + (b.map fun c => Jp c.ty).flatten.length := by rw [hl]; simp; omega
      unfold XU
      dsimp only
      rw [hl, Y4, JI]
      simp only [cond_true, Option.bind_some]
      rw [K0 _ (by omega), Option.bind_some, JN (by simp only [List.length_append]; omega)]) (fun s => by unfold XU; dsimp only; rw [Y7]; rfl), Option.bind_some]
  rw [K0 _ (by omega), Option.bind_some, JN (by simp only [List.length_append]; omega)]
  rw [acc_loop (step := Xj d) d.rcr.rules Jp _ (by omega) (fun a x b hl => by
      have hx := YK (d := d) (t := x) (by unfold Jq; rw [hl]; simp)
      have : (d.rcr.rules.map Jp).flatten.length = (a.map Jp).flatten.length + (Jp x).length + (b.map Jp).flatten.length := by rw [hl]; simp; omega
      unfold Xj
      dsimp only
      rw [hl, Y4, JI]
      simp only [cond_true, Option.bind_some]
      rw [K0 _ (by omega), Option.bind_some, JN (by simp only [List.length_append]; omega)]) (fun s => by unfold Xj; dsimp only; rw [Y7]; rfl), Option.bind_some]
  rw [acc_loop (step := GC d) d.funs (fun f => Jp f.ty) _ (by omega) (fun a x b hl => by
      have hx := YK (d := d) (t := x.ty) (by unfold Jq; rw [hl]; simp)
      have : (d.funs.map fun c => Jp c.ty).flatten.length = (a.map fun c => Jp c.ty).flatten.length + (Jp x.ty).length + (b.map fun c => Jp c.ty).flatten.length := by rw [hl]; simp; omega
      unfold GC
      dsimp only
      rw [hl, Y4, JI]
      simp only [cond_true, Option.bind_some]
      rw [K0 _ (by omega), Option.bind_some, JN (by simp only [List.length_append]; omega)]) (fun s => by unfold GC; dsimp only; rw [Y7]; rfl), Option.bind_some]
  rw [acc_loop (step := Gk d) d.funs (fun f => f.tree.cn) _ (by omega) (fun a x b hl => by
      have hx := fun_mem (d := d) (f := x) (by rw [hl]; simp)
      have h0 := congrArg (fun l : List Fn => (l.map fun f => Jp f.ty).flatten.length) hl
      have h1 : (d.funs.map fun f => f.tree.cn).flatten.length = (a.map fun f => f.tree.cn).flatten.length + x.tree.cn.length + (b.map fun f => f.tree.cn).flatten.length := by rw [hl]; simp; omega
      unfold Gk
      dsimp only
      rw [hl, Y4, JI]
      simp only [cond_true, Option.bind_some]
      unfold m41f19
      rw [rtree_ok J2 x.tree _ (by unfold J2; omega) (by simp only [List.length_append]; omega)]; rfl) (fun s => by unfold Gk; dsimp only; rw [Y7]; rfl), Option.bind_some]
  rw [m23_eq d (by omega), Option.bind_some]
  have e : ((((((Jp d.ty ++ Jp d.value) ++ (d.ctors.map fun c => Jp c.ty).flatten) ++ Jp d.rcr.ty) ++ (d.rcr.rules.map Jp).flatten) ++ (d.funs.map fun f => Jp f.ty).flatten) ++ (d.funs.map fun f => f.tree.cn).flatten) = Yx d := by
    unfold Yx Jq
    simp only [List.map_append, List.map_cons, List.map_nil, List.flatten_append, List.flatten_cons, List.flatten_nil, List.append_nil, List.map_map, Function.comp_def, List.append_assoc]
  rw [e]
  rw [Z7 (step := KC (Yx d) (Yh d)) (Yx d) (fun i (s : List UN) => (s, i)) (Ge (Yh d)) [] (Wp d) (by omega)
    (fun a x b hl => by
      have hol := Yr (Yh d) a []
      have hal : a.length < (Yx d).length := Gi hl
      change (JU (Yh d) [] a).length ≤ _ at hol
      simp only [List.length_nil] at hol
      show KC (Yx d) (Yh d) (JU (Yh d) [] a, (a.length : Int)) = _
      unfold KC
      dsimp only
      rw [hl, Y4, JI]
      simp only [cond_true, Option.bind_some]
      rw [m33_eq _ _ (by omega), m33_eq _ _ (by omega)]
      show _ = some (LO.next (Ge (Yh d) (JU (Yh d) [] a) x, _))
      unfold Ge
      by_cases h1 : x ∈ Yh d
      · simp [h1]
      · by_cases h2 : x ∈ JU (Yh d) [] a
        · simp [h1, h2]
        · rw [JN (by show _ + 1 ≤ _; omega)]
          simp [h1, h2])
    (by unfold KC; dsimp only; rw [Y7]; rfl)]
  rfl
end Go.Proofs.Ytafddfoefeploaa
namespace Go.Proofs.Ytafddfoefeploaa
open Go.RowKit Go.Shelf
set_option linter.unusedSimpArgs false
set_option linter.unusedVariables false
theorem Ke : Jo Try.prog 22 = some (45, 23) := by kernel_rfl
theorem Wy : KQ Try.prog 9 = true := by kernel_rfl
theorem en_21 : J3 Try.prog 21 := enters_of Try.func21 (by kernel_rfl) rfl
theorem en_37 : J3 Try.prog 37 := enters_of Try.func37 (by kernel_rfl) rfl
theorem en_38 : J3 Try.prog 38 := enters_of Try.func38 (by kernel_rfl) rfl
theorem en_55 : J3 Try.prog 55 := enters_of Try.func55 (by kernel_rfl) rfl
theorem en_56 : J3 Try.prog 56 := enters_of Try.func56 (by kernel_rfl) rfl
def XT (a0 : Tm) (rc : Tm → Option Int) (s1 : Int × Int) : Option (LO (Int × Int) Int) :=
 cond (decide (s1.2 < (a0.kids.length : Int)))
   (Option.bind (Yi a0.kids s1.2) fun (x3 : Tm) =>
 Option.bind (rc x3) fun (x4 : Int) =>
 some (.next ((Jk (s1.1 + x4)), (Jk (s1.2 + 1)))))
   (some (.done s1.1))
def WJ (rc : Tm → Option Int) (a0 : Tm) : Option Int :=
 Option.bind (QV (XT a0 rc) J2 (1, 0)) (fun (o1 : Int) => some o1)
def WK (rc : Tm → Option Int) (u : Tm) : Option Int := WJ rc u
def m55 (a0 : Tm) : Option Int := Yt WK J2 a0
set_option maxRecDepth 100000 in
set_option maxHeartbeats 2000000 in
theorem m55s_ok (rc : Tm → Option Int) (H : ∀ (a0 : Tm) (r : Int), rc a0 = some r → Fun Try.prog 55 [.agg (UA a0)] (QD [.one (Ux r)])) (a0 : Tm) (r : Int) (h0 : WJ rc a0 = some r) : Fun Try.prog 55 [.agg (UA a0)] (QD [.one (Ux r)]) := by
 unfold WJ at h0
 refine QY 9 21 Try.func55 rfl en_55 rfl (Um rfl) (fun S w => ?_)
 simp only [J7]
 refine Q5 <| Q0 <| Q9 rfl rfl (Um rfl) (QN rfl) <| Ug rfl rfl rfl <| Q4 <| Q3 <| Q5 <| Q0 <| Ug rfl rfl rfl <| Q4 <| Q3 <| Q5 <| Q5 <| Q0 ?_
 refine Ug rfl rfl rfl <| Q4 <| Q3 <| Qf ?_
 refine QR 0 (fun (o1 : Int) => ⟨[(3, .v (.one (Ux o1)))], [(0, .cells 33 (UA a0))], [], 1, 21, []⟩) (fun (o1 : Int) => (some o1) = some r) ?_ ?_
 refine Qb h0 (fun o2 hl1 h0 => ?_)
 refine QQ (XT a0 rc) (fun s1 => ⟨[(1, .v (.one (.ptr 0 0))), (3, .v (.one (Ux s1.1))), (4, .v (.one (Ux s1.2)))], [(0, .cells 33 (UA a0))], [], 1, 21, []⟩) (1, 0) o2 (Ub (Nat.zero_le _) rfl rfl rfl rfl rfl) hl1 (fun s1 n1 oo1 h1 ho1 => ?_)
 unfold XT at h1
 refine Q5 <| Q5 <| Q0 <| Uf rfl rfl rfl <| Ue rfl rfl rfl (Q1 JJ rfl) <| Ue rfl rfl rfl (Q6 JH rfl rfl rfl) <| Ue rfl rfl rfl (Qx (α := Tm) Ji rfl (.d _)) <| Ue rfl rfl rfl (Q7 rfl rfl rfl) <| Q4 <| Q3 ?_
 refine Qg (b := (decide (s1.2 < (a0.kids.length : Int)))) rfl (fun c3 => ?_) (fun c3 => ?_)
 replace h1 := Qk c3 h1
 refine Qj <| Q3 <| Q5 <| Qf <| Q0 <| Uf rfl rfl rfl <| Ue rfl rfl rfl (Q1 JJ rfl) <| Ue rfl rfl rfl (Q6 JH rfl rfl rfl) <| Uf rfl rfl rfl ?_
 refine Qb h1 (fun x4 hx4 h1 => ?_)
 refine Ue rfl rfl rfl (Qq (α := Tm) Ji rfl (.d _) rfl hx4) <| Ue rfl rfl rfl (Qv (x4 : Tm) QW rfl) ?_
 refine Qb h1 (fun x5 hx5 h1 => ?_)
 refine Q9 rfl rfl (Um rfl) (Qo (H x4 x5 hx5) rfl (.cons (.agg (.cons (.d _) (.cons (.d _) (.cons (.d _) (.cons (.d _) (.cons (.d _) .nil)))))) .nil)) <| Ue rfl rfl rfl (Q7 rfl rfl rfl) <| Ug rfl rfl rfl <| Q4 <| Qe <| Q3 <| Q0 <| Uf rfl rfl rfl <| Ue rfl rfl rfl (Q7 rfl rfl rfl) <| Ug rfl rfl rfl <| Q4 ?_
 have e := Uc h1; subst e
 refine QM ((Jk (s1.1 + x5)), (Jk (s1.2 + 1))) (Ub (Nat.zero_le _) rfl rfl rfl rfl rfl) ho1
 replace h1 := Ql c3 h1
 refine J1 <| Qn <| Qn ?_
 have e := Uc h1; subst e
 have e_ : _ = _ := ho1
 subst e_
 exact QP s1.1 (Ub (Nat.zero_le _) rfl rfl rfl rfl rfl) h0
 intro o1 h0
 refine QF <| Q3 <| Q5 <| Q0 <| Uf rfl rfl rfl <| Ug rfl rfl rfl <| Q4 <| Q3 <| QA ?_
 have e := Uc h0; subst e
 exact QL (fun _ _ h => h) rfl (Qz rfl .nil) (.cons (.one (.d _)) .nil)
theorem m55_all (n : Nat) (u : Tm) (r : Int) (h0 : Yt WK n u = some r) : Fun Try.prog 55 [.agg (UA u)] (QD [.one (Ux r)]) :=
 YB (C := fun u r => Fun Try.prog 55 [.agg (UA u)] (QD [.one (Ux r)])) (fun rc H u r h => m55s_ok rc (fun a0 r h => H a0 r h) u r h) n u r h0
theorem m55_ok (a0 : Tm) (r : Int) (h0 : m55 a0 = some r) : Fun Try.prog 55 [.agg (UA a0)] (QD [.one (Ux r)]) := m55_all J2 a0 r h0
def XS (a0 : Tm) (rc : Tm → Option Int) (s1 : Int × Int) : Option (LO (Int × Int) Int) :=
 cond (decide (s1.2 < (a0.kids.length : Int)))
   (Option.bind (Yi a0.kids s1.2) fun (x3 : Tm) =>
 Option.bind (rc x3) fun (x4 : Int) =>
 some (.next ((max s1.1 x4), (Jk (s1.2 + 1)))))
   (some (.done s1.1))
def WH (rc : Tm → Option Int) (a0 : Tm) : Option Int :=
 Option.bind (QV (XS a0 rc) J2 (0, 0)) (fun (o1 : Int) => some (Jk (o1 + 1)))
def WI (rc : Tm → Option Int) (u : Tm) : Option Int := WH rc u
def m56 (a0 : Tm) : Option Int := Yt WI J2 a0
set_option maxRecDepth 100000 in
set_option maxHeartbeats 2000000 in
theorem m56s_ok (rc : Tm → Option Int) (H : ∀ (a0 : Tm) (r : Int), rc a0 = some r → Fun Try.prog 56 [.agg (UA a0)] (QD [.one (Ux r)])) (a0 : Tm) (r : Int) (h0 : WH rc a0 = some r) : Fun Try.prog 56 [.agg (UA a0)] (QD [.one (Ux r)]) := by
 unfold WH at h0
 refine QY 9 22 Try.func56 rfl en_56 rfl (Um rfl) (fun S w => ?_)
 simp only [J7]
 refine Q5 <| Q0 <| Q9 rfl rfl (Um rfl) (QN rfl) <| Ug rfl rfl rfl <| Q4 <| Q3 <| Q5 <| Q0 <| Ug rfl rfl rfl <| Q4 <| Q3 <| Q5 <| Q5 <| Q0 ?_
 refine Ug rfl rfl rfl <| Q4 <| Q3 <| Qf ?_
 refine QR 0 (fun (o1 : Int) => ⟨[(3, .v (.one (Ux o1)))], [(0, .cells 33 (UA a0))], [], 1, 22, []⟩) (fun (o1 : Int) => (some (Jk (o1 + 1))) = some r) ?_ ?_
 refine Qb h0 (fun o2 hl1 h0 => ?_)
 refine QQ (XS a0 rc) (fun s1 => ⟨[(1, .v (.one (.ptr 0 0))), (3, .v (.one (Ux s1.1))), (4, .v (.one (Ux s1.2)))], [(0, .cells 33 (UA a0))], [], 1, 22, []⟩) (0, 0) o2 (Ub (Nat.zero_le _) rfl rfl rfl rfl rfl) hl1 (fun s1 n1 oo1 h1 ho1 => ?_)
 unfold XS at h1
 refine Q5 <| Q5 <| Q0 <| Uf rfl rfl rfl <| Ue rfl rfl rfl (Q1 JJ rfl) <| Ue rfl rfl rfl (Q6 JH rfl rfl rfl) <| Ue rfl rfl rfl (Qx (α := Tm) Ji rfl (.d _)) <| Ue rfl rfl rfl (Q7 rfl rfl rfl) <| Q4 <| Q3 ?_
 refine Qg (b := (decide (s1.2 < (a0.kids.length : Int)))) rfl (fun c3 => ?_) (fun c3 => ?_)
 replace h1 := Qk c3 h1
 refine Qj <| Q3 <| Q5 <| Qf <| Q0 <| Uf rfl rfl rfl <| Ue rfl rfl rfl (Q1 JJ rfl) <| Ue rfl rfl rfl (Q6 JH rfl rfl rfl) <| Uf rfl rfl rfl ?_
 refine Qb h1 (fun x4 hx4 h1 => ?_)
 refine Ue rfl rfl rfl (Qq (α := Tm) Ji rfl (.d _) rfl hx4) <| Ue rfl rfl rfl (Qv (x4 : Tm) QW rfl) ?_
 refine Qb h1 (fun x5 hx5 h1 => ?_)
 refine Q9 rfl rfl (Um rfl) (Qo (H x4 x5 hx5) rfl (.cons (.agg (.cons (.d _) (.cons (.d _) (.cons (.d _) (.cons (.d _) (.cons (.d _) .nil)))))) .nil)) <| Ue rfl rfl rfl (Gq rfl rfl) <| Ug rfl rfl rfl <| Q4 <| Qe <| Q3 <| Q0 <| Uf rfl rfl rfl <| Ue rfl rfl rfl (Q7 rfl rfl rfl) <| Ug rfl rfl rfl <| Q4 ?_
 have e := Uc h1; subst e
 refine QM ((max s1.1 x5), (Jk (s1.2 + 1))) (Ub (Nat.zero_le _) rfl rfl rfl rfl rfl) ho1
 replace h1 := Ql c3 h1
 refine J1 <| Qn <| Qn ?_
 have e := Uc h1; subst e
 have e_ : _ = _ := ho1
 subst e_
 exact QP s1.1 (Ub (Nat.zero_le _) rfl rfl rfl rfl rfl) h0
 intro o1 h0
 refine QF <| Q3 <| Q5 <| Q0 <| Uf rfl rfl rfl <| Ue rfl rfl rfl (Q7 rfl rfl rfl) <| Ug rfl rfl rfl <| Q4 <| Q3 <| QA ?_
 have e := Uc h0; subst e
 exact QL (fun _ _ h => h) rfl (Qz rfl .nil) (.cons (.one (.d _)) .nil)
theorem m56_all (n : Nat) (u : Tm) (r : Int) (h0 : Yt WI n u = some r) : Fun Try.prog 56 [.agg (UA u)] (QD [.one (Ux r)]) :=
 YB (C := fun u r => Fun Try.prog 56 [.agg (UA u)] (QD [.one (Ux r)])) (fun rc H u r h => m56s_ok rc (fun a0 r h => H a0 r h) u r h) n u r h0
theorem m56_ok (a0 : Tm) (r : Int) (h0 : m56 a0 = some r) : Fun Try.prog 56 [.agg (UA a0)] (QD [.one (Ux r)]) := m56_all J2 a0 r h0
def WN (a0 : Tm) : Option Bool :=
 Option.bind (Option.bind (m55 a0) fun (x2 : Int) =>
 cond (decide (x2 ≤ 400))
   (Option.bind (m56 a0) fun (x4 : Int) =>
 some (decide (x4 ≤ 150)))
   (some false)) (fun (v1 : Bool) => some v1)
set_option maxRecDepth 100000 in
set_option maxHeartbeats 2000000 in
theorem Xi (a0 : Tm) (r : Bool) (h0 : WN a0 = some r) : Fun Try.prog 37 [.agg (UA a0)] (QD [.one (Uy r)]) := by
 unfold WN at h0
 refine QY 9 11 Try.func37 rfl en_37 rfl (Um rfl) (fun S w => ?_)
 simp only [J7]
 refine Q5 <| Q0 <| Q9 rfl rfl (Um rfl) (QN rfl) <| Ug rfl rfl rfl <| Q4 <| Q3 <| Q5 ?_
 refine QS (fun (v1 : Bool) => ⟨[(2, .v (.one (Uy v1)))], [(0, .cells 33 (UA a0))], [], 1, 11, []⟩) (fun (v1 : Bool) => (some v1) = some r) ?_ ?_
 refine Qb h0 (fun w1_ h1 h0 => ?_)
 refine Q0 <| Ue rfl rfl rfl (QK (a0 : Tm) QW rfl rfl) ?_
 refine Qb h1 (fun x2 hx2 h1 => ?_)
 refine Q9 rfl rfl (Um rfl) (Qo (m55_ok a0 x2 hx2) rfl (.cons (.agg (.cons (.d _) (.cons (.d _) (.cons (.d _) (.cons (.d _) (.cons (.d _) .nil)))))) .nil)) <| Ue rfl rfl rfl (Q7 rfl rfl rfl) <| Uf rfl rfl rfl ?_
 refine QG (d := 6) (c := (decide (x2 ≤ 400))) rfl (fun c3 => ?_) (fun c3 => ?_)
 replace h1 := Qk c3 h1
 refine Ue rfl rfl rfl (QK (a0 : Tm) QW rfl rfl) ?_
 refine Qb h1 (fun x4 hx4 h1 => ?_)
 refine Q9 rfl rfl (Um rfl) (Qo (m56_ok a0 x4 hx4) rfl (.cons (.agg (.cons (.d _) (.cons (.d _) (.cons (.d _) (.cons (.d _) (.cons (.d _) .nil)))))) .nil)) <| Ue rfl rfl rfl (Q7 rfl rfl rfl) <| Ue rfl rfl rfl (Qh rfl rfl) <| Ug rfl rfl rfl <| Q4 ?_
 have e := Uc h1; subst e
 exact Qc (decide (x4 ≤ 150)) (Ub (Nat.zero_le _) rfl rfl rfl rfl rfl) h0
 replace h1 := Ql c3 h1
 refine Q8 rfl rfl <| Q8 rfl rfl <| Q8 rfl rfl <| Ue rfl rfl rfl (Qd rfl rfl) <| Ug rfl rfl rfl <| Q4 ?_
 have e := Uc h1; subst e
 exact Qc false (Ub (Nat.zero_le _) rfl rfl rfl rfl rfl) h0
 intro v1 h0
 refine Q3 <| QA ?_
 have e := Uc h0; subst e
 exact QL (fun _ _ h => h) rfl (Qz rfl .nil) (.cons (.one (.d _)) .nil)
def Xh (a0 : Tr) (rc : Tr × Int → Option Bool) (a1 : Int) (s1 : Int) : Option (LO Int (Unit ⊕ Bool)) :=
 cond (decide (s1 < (a0.branches.length : Int)))
   (Option.bind (Option.bind (Yi a0.branches s1) fun (x6 : UO) =>
 Option.bind (rc (x6.tree, (Jk (a1 + 1)))) fun (x7 : Bool) =>
 cond (!x7)
   (some true)
   (Option.bind (Yi a0.branches s1) fun (x9 : UO) =>
 some (decide (200 < (x9.ctor.length : Int))))) (fun (v5 : Bool) => cond v5
   (some (.done (.inr false)))
   (some (.next (Jk (s1 + 1))))))
   (some (.done (.inl ())))
def WL (rc : Tr × Int → Option Bool) (a0 : Tr) (a1 : Int) : Option Bool :=
 Option.bind (cond (decide (40 < a1))
   (some true)
   (cond (decide (40 < (a0.branches.length : Int)))
   (some true)
   (Option.bind (WN a0.body) fun (x4 : Bool) =>
 some (!x4)))) (fun (v1 : Bool) => cond v1
   (some false)
   (Option.bind (QV (Xh a0 rc a1) J2 0) (Sum.elim (fun (o3 : Unit) => some true) (fun o => some o))))
def WM (rc : Tr × Int → Option Bool) (u : Tr × Int) : Option Bool := WL rc u.1 u.2
def m38 (a0 : Tr) (a1 : Int) : Option Bool := Yt WM J2 (a0, a1)
set_option maxRecDepth 100000 in
set_option maxHeartbeats 2000000 in
theorem m38s_ok (rc : Tr × Int → Option Bool) (H : ∀ (a0 : Tr) (a1 : Int) (r : Bool), rc (a0, a1) = some r → Fun Try.prog 38 [.agg (UA a0), .one (Ux a1)] (QD [.one (Uy r)])) (a0 : Tr) (a1 : Int) (r : Bool) (h0 : WL rc a0 a1 = some r) : Fun Try.prog 38 [.agg (UA a0), .one (Ux a1)] (QD [.one (Uy r)]) := by
 unfold WL at h0
 refine QY 9 47 Try.func38 rfl en_38 rfl (Um rfl) (fun S w => ?_)
 simp only [J7]
 refine Q5 <| Q0 <| Q9 rfl rfl (Um rfl) (QN rfl) <| Ug rfl rfl rfl <| Q4 <| Q3 <| Q5 <| Q5 ?_
 refine QS (fun (v1 : Bool) => ⟨[(1, .v (.one (Ux a1))), (2, .v (.one (.ptr 0 0))), (19, .v (.one (Uy v1)))], [(0, .cells 74 (UA a0))], [], 1, 47, []⟩) (fun (v1 : Bool) => (cond v1
     (some false)
     (Option.bind (QV (Xh a0 rc a1) J2 0) (Sum.elim (fun (o3 : Unit) => some true) (fun o => some o)))) = some r) ?_ ?_
 refine Qb h0 (fun w1_ h1 h0 => ?_)
 refine Q0 <| Uf rfl rfl rfl <| Ue rfl rfl rfl (Q7 rfl rfl rfl) <| Uf rfl rfl rfl ?_
 refine QG (d := 8) (c := (decide (40 < a1))) rfl (fun c2 => ?_) (fun c2 => ?_)
 replace h1 := Qk c2 h1
 refine Q8 rfl rfl <| Q8 rfl rfl <| Q8 rfl rfl <| Q8 rfl rfl <| Ue rfl rfl rfl (Qh rfl rfl) <| Uf rfl rfl rfl <| Q8 rfl rfl <| Q8 rfl rfl <| Q8 rfl rfl <| Q8 rfl rfl <| Ue rfl rfl rfl (Qh rfl rfl) <| Q4 ?_
 have e := Uc h1; subst e
 exact Qc true (Ub (Nat.zero_le _) rfl rfl rfl rfl rfl) h0
 replace h1 := Ql c2 h1
 refine Ue rfl rfl rfl (Q1 Za rfl) <| Ue rfl rfl rfl (Q6 Gd rfl rfl rfl) <| Ue rfl rfl rfl (Qx (α := UO) Kx rfl (.d _)) <| Ue rfl rfl rfl (Q7 rfl rfl rfl) <| Ue rfl rfl rfl (Qd rfl rfl) <| Uf rfl rfl rfl ?_
 refine QG (d := 14) (c := (decide (40 < (a0.branches.length : Int)))) rfl (fun c3 => ?_) (fun c3 => ?_)
 replace h1 := Qk c3 h1
 refine Q8 rfl rfl <| Q8 rfl rfl <| Q8 rfl rfl <| Q8 rfl rfl <| Ue rfl rfl rfl (Qh rfl rfl) <| Q4 ?_
 have e := Uc h1; subst e
 exact Qc true (Ub (Nat.zero_le _) rfl rfl rfl rfl rfl) h0
 replace h1 := Ql c3 h1
 refine Ue rfl rfl rfl (Q1 X0 rfl) <| Ue rfl rfl rfl (Qi QW rfl rfl rfl rfl) ?_
 refine Qb h1 (fun x4 hx4 h1 => ?_)
 refine Q9 rfl rfl (Um rfl) (Qo (Xi a0.body x4 hx4) rfl (.cons (.agg (.cons (.d _) (.cons (.d _) (.cons (.d _) (.cons (.d _) (.cons (.d _) .nil)))))) .nil)) <| Ue rfl rfl rfl (Jb rfl) <| Ue rfl rfl rfl (Qd rfl rfl) <| Q4 ?_
 have e := Uc h1; subst e
 exact Qc (!x4) (Ub (Nat.zero_le _) rfl rfl rfl rfl rfl) h0
 intro v1 h0
 refine Q3 ?_
 refine Qg (b := v1) rfl (fun c5 => ?_) (fun c5 => ?_)
 replace h0 := Qk c5 h0
 refine Q5 <| Q0 <| Ug rfl rfl rfl <| Q4 <| Q3 <| QA ?_
 have e := Uc h0; subst e
 exact QL (fun _ _ h => h) rfl (Qz rfl .nil) (.cons (.one (.d _)) .nil)
 replace h0 := Ql c5 h0
 refine Qj <| Q3 <| Q5 <| Q5 <| Q0 <| Ug rfl rfl rfl <| Q4 <| Q3 <| Qf ?_
 refine QR 0 (fun (o6 : Unit) => ⟨[], [(0, .cells 74 (UA a0))], [], 1, 47, []⟩) (fun (o6 : Unit) => (some true) = some r) ?_ ?_
 refine Qb h0 (fun o7 hl1 h0 => ?_)
 refine QQ (Xh a0 rc a1) (fun s1 => ⟨[(1, .v (.one (Ux a1))), (2, .v (.one (.ptr 0 0))), (5, .v (.one (Ux s1)))], [(0, .cells 74 (UA a0))], [], 1, 47, []⟩) 0 o7 (Ub (Nat.zero_le _) rfl rfl rfl rfl rfl) hl1 (fun s1 n1 oo1 h1 ho1 => ?_)
 unfold Xh at h1
 refine Q5 <| Q5 <| Q0 <| Uf rfl rfl rfl <| Ue rfl rfl rfl (Q1 Za rfl) <| Ue rfl rfl rfl (Q6 Gd rfl rfl rfl) <| Ue rfl rfl rfl (Qx (α := UO) Kx rfl (.d _)) <| Ue rfl rfl rfl (Q7 rfl rfl rfl) <| Q4 <| Q3 ?_
 refine Qg (b := (decide (s1 < (a0.branches.length : Int)))) rfl (fun c8 => ?_) (fun c8 => ?_)
 replace h1 := Qk c8 h1
 refine Qj <| Q3 <| Q5 <| Qf <| Q5 ?_
 refine QS (fun (v9 : Bool) => ⟨[(1, .v (.one (Ux a1))), (2, .v (.one (.ptr 0 0))), (5, .v (.one (Ux s1))), (46, .v (.one (Uy v9)))], [(0, .cells 74 (UA a0))], [], 1, 47, []⟩) (fun (v9 : Bool) => (cond v9
     (some (.done (.inr false)))
     (some (.next (Jk (s1 + 1))))) = some oo1) ?_ ?_
 refine Qb h1 (fun w2_ h2 h1 => ?_)
 refine Q0 <| Ue rfl rfl rfl (Q1 Za rfl) <| Ue rfl rfl rfl (Q6 Gd rfl rfl rfl) <| Uf rfl rfl rfl ?_
 refine Qb h2 (fun x10 hx10 h2 => ?_)
 refine Ue rfl rfl rfl (Qq (α := UO) Kx rfl (.d _) rfl hx10) <| Ue rfl rfl rfl (JA GP rfl) <| Ue rfl rfl rfl (Y6 X9 rfl rfl rfl) <| Uf rfl rfl rfl <| Ue rfl rfl rfl (Q7 rfl rfl rfl) ?_
 refine Qb h2 (fun x11 hx11 h2 => ?_)
 refine Q9 rfl rfl (Um rfl) (Qo (H x10.tree (Jk (a1 + 1)) x11 hx11) rfl (.cons (.agg (.cons (.d _) (.cons (.d _) (.cons (.d _) (.cons (.d _) (.cons (.d _) (.cons (.d _) (.cons (.d _) (.cons (.d _) .nil))))))))) (.cons (.one (.d _)) .nil))) <| Ue rfl rfl rfl (Jb rfl) <| Uf rfl rfl rfl ?_
 refine QG (d := 37) (c := (!x11)) rfl (fun c12 => ?_) (fun c12 => ?_)
 replace h2 := Qk c12 h2
 refine Q8 rfl rfl <| Q8 rfl rfl <| Q8 rfl rfl <| Q8 rfl rfl <| Q8 rfl rfl <| Q8 rfl rfl <| Q8 rfl rfl <| Q8 rfl rfl <| Ue rfl rfl rfl (Qh rfl rfl) <| Q4 ?_
 have e := Uc h2; subst e
 exact Qc true (Ub (Nat.zero_le _) rfl rfl rfl rfl rfl) h1
 replace h2 := Ql c12 h2
 refine Ue rfl rfl rfl (Q1 Za rfl) <| Ue rfl rfl rfl (Q6 Gd rfl rfl rfl) <| Uf rfl rfl rfl ?_
 refine Qb h2 (fun x13 hx13 h2 => ?_)
 refine Ue rfl rfl rfl (Qq (α := UO) Kx rfl (.d _) rfl hx13) <| Ue rfl rfl rfl (JA GQ rfl) <| Ue rfl rfl rfl (Js JG rfl rfl) <| Ue rfl rfl rfl (X2 Wy rfl) <| Ue rfl rfl rfl (Q7 rfl rfl rfl) <| Ue rfl rfl rfl (Qd rfl rfl) <| Q4 ?_
 have e := Uc h2; subst e
 exact Qc (decide (200 < (x13.ctor.length : Int))) (Ub (Nat.zero_le _) rfl rfl rfl rfl rfl) h1
 intro v9 h1
 refine Q3 ?_
 refine Qg (b := v9) rfl (fun c14 => ?_) (fun c14 => ?_)
 replace h1 := Qk c14 h1
 refine Q5 <| Q0 <| Ug rfl rfl rfl <| Q4 <| Q3 <| QA ?_
 have e := Uc h1; subst e
 have e_ : _ = _ := ho1
 subst e_
 try dsimp only [Sum.elim_inl, Sum.elim_inr] at h0
 have e := Uc h0; subst e
 exact QL (fun _ _ h => h) rfl (Qz rfl .nil) (.cons (.one (.d _)) .nil)
 replace h1 := Ql c14 h1
 refine Qj <| Qe <| Q3 <| Q0 <| Uf rfl rfl rfl <| Ue rfl rfl rfl (Q7 rfl rfl rfl) <| Ug rfl rfl rfl <| Q4 ?_
 have e := Uc h1; subst e
 refine QM (Jk (s1 + 1)) (Ub (Nat.zero_le _) rfl rfl rfl rfl rfl) ho1
 replace h1 := Ql c8 h1
 refine J1 <| Qn <| Qn ?_
 have e := Uc h1; subst e
 have e_ : _ = _ := ho1
 subst e_
 exact QP () (Ub (Nat.zero_le _) rfl rfl rfl rfl rfl) h0
 intro o6 h0
 refine QF <| Q3 <| Q5 <| Q0 <| Ug rfl rfl rfl <| Q4 <| Q3 <| QA ?_
 have e := Uc h0; subst e
 exact QL (fun _ _ h => h) rfl (Qz rfl .nil) (.cons (.one (.d _)) .nil)
theorem m38_all (n : Nat) (u : Tr × Int) (r : Bool) (h0 : Yt WM n u = some r) : Fun Try.prog 38 [.agg (UA u.1), .one (Ux u.2)] (QD [.one (Uy r)]) :=
 YB (C := fun u r => Fun Try.prog 38 [.agg (UA u.1), .one (Ux u.2)] (QD [.one (Uy r)])) (fun rc H u r h => m38s_ok rc (fun a0 a1 r h => H (a0, a1) r h) u.1 u.2 r h) n u r h0
theorem m38_ok (a0 : Tr) (a1 : Int) (r : Bool) (h0 : m38 a0 a1 = some r) : Fun Try.prog 38 [.agg (UA a0), .one (Ux a1)] (QD [.one (Uy r)]) := m38_all J2 (a0, a1) r h0
def GG (a0 : Dcl) (s1 : Int) : Option (LO Int (Unit ⊕ Bool)) :=
 cond (decide (s1 < (a0.ctors.length : Int)))
   (Option.bind (Option.bind (Yi a0.ctors s1) fun (x6 : Ctr) =>
 cond (decide (200 < (x6.name.length : Int)))
   (some true)
   (Option.bind (Yi a0.ctors s1) fun (x8 : Ctr) =>
 Option.bind (WN x8.ty) fun (x9 : Bool) =>
 some (!x9))) (fun (v5 : Bool) => cond v5
   (some (.done (.inr false)))
   (some (.next (Jk (s1 + 1))))))
   (some (.done (.inl ())))
def Gm (a0 : Dcl) (s1 : Int) : Option (LO Int (Unit ⊕ Bool)) :=
 cond (decide (s1 < (a0.rcr.rules.length : Int)))
   (Option.bind (Yi a0.rcr.rules s1) fun (x6 : Tm) =>
 Option.bind (WN x6) fun (x7 : Bool) =>
 cond (!x7)
   (some (.done (.inr false)))
   (some (.next (Jk (s1 + 1)))))
   (some (.done (.inl ())))
def KY (a0 : Dcl) (s1 : Int) : Option (LO Int (Unit ⊕ Bool)) :=
 cond (decide (s1 < (a0.funs.length : Int)))
   (Option.bind (Option.bind (Yi a0.funs s1) fun (x8 : Fn) =>
 cond (decide (200 < (x8.name.length : Int)))
   (some true)
   (Option.bind (Yi a0.funs s1) fun (x10 : Fn) =>
 Option.bind (WN x10.ty) fun (x11 : Bool) =>
 cond (!x11)
   (some true)
   (Option.bind (Yi a0.funs s1) fun (x13 : Fn) =>
 Option.bind (m38 x13.tree 0) fun (x14 : Bool) =>
 some (!x14)))) (fun (v7 : Bool) => cond v7
   (some (.done (.inr false)))
   (some (.next (Jk (s1 + 1))))))
   (some (.done (.inl ())))
def U7 (a0 : Dcl) : Option Bool :=
 Option.bind (cond (decide (200 < (a0.name.length : Int)))
   (some true)
   (Option.bind (WN a0.ty) fun (x3 : Bool) =>
 cond (!x3)
   (some true)
   (Option.bind (WN a0.value) fun (x5 : Bool) =>
 cond (!x5)
   (some true)
   (cond (decide (40 < (a0.ctors.length : Int)))
   (some true)
   (cond (decide (12 < (a0.funs.length : Int)))
   (some true)
   (Option.bind (WN a0.rcr.ty) fun (x9 : Bool) =>
 cond (!x9)
   (some true)
   (some (decide (40 < (a0.rcr.rules.length : Int)))))))))) (fun (v1 : Bool) => cond v1
   (some false)
   (Option.bind (QV (GG a0) J2 0) (Sum.elim (fun (o3 : Unit) => Option.bind (QV (Gm a0) J2 0) (Sum.elim (fun (o4 : Unit) => Option.bind (QV (KY a0) J2 0) (Sum.elim (fun (o5 : Unit) => some true) (fun o => some o))) (fun o => some o))) (fun o => some o))))
set_option maxRecDepth 100000 in
set_option maxHeartbeats 2000000 in
theorem m21_ok (a0 : Dcl) (r : Bool) (h0 : U7 a0 = some r) : Fun Try.prog 21 [.agg (UA a0)] (QD [.one (Uy r)]) := by
 unfold U7 at h0
 refine QY 9 124 Try.func21 rfl en_21 rfl (Um rfl) (fun S w => ?_)
 simp only [J7]
 refine Q5 <| Q0 <| Q9 rfl rfl (Um rfl) (QN rfl) <| Ug rfl rfl rfl <| Q4 <| Q3 <| Q5 <| Q5 ?_
 refine QS (fun (v1 : Bool) => ⟨[(1, .v (.one (.ptr 0 0))), (47, .v (.one (Uy v1)))], [(0, .cells 45 (UA a0))], [], 1, 124, []⟩) (fun (v1 : Bool) => (cond v1
     (some false)
     (Option.bind (QV (GG a0) J2 0) (Sum.elim (fun (o3 : Unit) => Option.bind (QV (Gm a0) J2 0) (Sum.elim (fun (o4 : Unit) => Option.bind (QV (KY a0) J2 0) (Sum.elim (fun (o5 : Unit) => some true) (fun o => some o))) (fun o => some o))) (fun o => some o)))) = some r) ?_ ?_
 refine Qb h0 (fun w1_ h1 h0 => ?_)
 refine Q0 <| Ue rfl rfl rfl (Q1 Y8 rfl) <| Ue rfl rfl rfl (Q6 JG rfl rfl rfl) <| Ue rfl rfl rfl (X2 Wy rfl) <| Ue rfl rfl rfl (Q7 rfl rfl rfl) <| Uf rfl rfl rfl ?_
 refine QG (d := 10) (c := (decide (200 < (a0.name.length : Int)))) rfl (fun c2 => ?_) (fun c2 => ?_)
 replace h1 := Qk c2 h1
 refine Q8 rfl rfl <| Q8 rfl rfl <| Q8 rfl rfl <| Q8 rfl rfl <| Ue rfl rfl rfl (Qh rfl rfl) <| Uf rfl rfl rfl <| Q8 rfl rfl <| Q8 rfl rfl <| Q8 rfl rfl <| Q8 rfl rfl <| Ue rfl rfl rfl (Qh rfl rfl) <| Uf rfl rfl rfl <| Q8 rfl rfl <| Q8 rfl rfl ?_
 refine Q8 rfl rfl <| Q8 rfl rfl <| Ue rfl rfl rfl (Qh rfl rfl) <| Uf rfl rfl rfl <| Q8 rfl rfl <| Q8 rfl rfl <| Q8 rfl rfl <| Q8 rfl rfl <| Ue rfl rfl rfl (Qh rfl rfl) <| Uf rfl rfl rfl <| Q8 rfl rfl <| Q8 rfl rfl <| Q8 rfl rfl <| Q8 rfl rfl ?_
 refine Q8 rfl rfl <| Ue rfl rfl rfl (Qh rfl rfl) <| Uf rfl rfl rfl <| Q8 rfl rfl <| Q8 rfl rfl <| Q8 rfl rfl <| Q8 rfl rfl <| Q8 rfl rfl <| Ue rfl rfl rfl (Qh rfl rfl) <| Q4 ?_
 have e := Uc h1; subst e
 exact Qc true (Ub (Nat.zero_le _) rfl rfl rfl rfl rfl) h0
 replace h1 := Ql c2 h1
 refine Ue rfl rfl rfl (Q1 K4 rfl) <| Ue rfl rfl rfl (Qi QW rfl rfl rfl rfl) ?_
 refine Qb h1 (fun x3 hx3 h1 => ?_)
 refine Q9 rfl rfl (Um rfl) (Qo (Xi a0.ty x3 hx3) rfl (.cons (.agg (.cons (.d _) (.cons (.d _) (.cons (.d _) (.cons (.d _) (.cons (.d _) .nil)))))) .nil)) <| Ue rfl rfl rfl (Jb rfl) <| Ue rfl rfl rfl (Qd rfl rfl) <| Uf rfl rfl rfl ?_
 refine QG (d := 16) (c := (!x3)) rfl (fun c4 => ?_) (fun c4 => ?_)
 replace h1 := Qk c4 h1
 refine Q8 rfl rfl <| Q8 rfl rfl <| Q8 rfl rfl <| Q8 rfl rfl <| Ue rfl rfl rfl (Qh rfl rfl) <| Uf rfl rfl rfl <| Q8 rfl rfl <| Q8 rfl rfl <| Q8 rfl rfl <| Q8 rfl rfl <| Ue rfl rfl rfl (Qh rfl rfl) <| Uf rfl rfl rfl <| Q8 rfl rfl <| Q8 rfl rfl ?_
 refine Q8 rfl rfl <| Q8 rfl rfl <| Ue rfl rfl rfl (Qh rfl rfl) <| Uf rfl rfl rfl <| Q8 rfl rfl <| Q8 rfl rfl <| Q8 rfl rfl <| Q8 rfl rfl <| Q8 rfl rfl <| Ue rfl rfl rfl (Qh rfl rfl) <| Uf rfl rfl rfl <| Q8 rfl rfl <| Q8 rfl rfl <| Q8 rfl rfl ?_
 refine Q8 rfl rfl <| Q8 rfl rfl <| Ue rfl rfl rfl (Qh rfl rfl) <| Q4 ?_
 have e := Uc h1; subst e
 exact Qc true (Ub (Nat.zero_le _) rfl rfl rfl rfl rfl) h0
 replace h1 := Ql c4 h1
 refine Ue rfl rfl rfl (Q1 X1 rfl) <| Ue rfl rfl rfl (Qi QW rfl rfl rfl rfl) ?_
 refine Qb h1 (fun x5 hx5 h1 => ?_)
 refine Q9 rfl rfl (Um rfl) (Qo (Xi a0.value x5 hx5) rfl (.cons (.agg (.cons (.d _) (.cons (.d _) (.cons (.d _) (.cons (.d _) (.cons (.d _) .nil)))))) .nil)) <| Ue rfl rfl rfl (Jb rfl) <| Ue rfl rfl rfl (Qd rfl rfl) <| Uf rfl rfl rfl ?_
 refine QG (d := 22) (c := (!x5)) rfl (fun c6 => ?_) (fun c6 => ?_)
 replace h1 := Qk c6 h1
 refine Q8 rfl rfl <| Q8 rfl rfl <| Q8 rfl rfl <| Q8 rfl rfl <| Ue rfl rfl rfl (Qh rfl rfl) <| Uf rfl rfl rfl <| Q8 rfl rfl <| Q8 rfl rfl <| Q8 rfl rfl <| Q8 rfl rfl <| Ue rfl rfl rfl (Qh rfl rfl) <| Uf rfl rfl rfl <| Q8 rfl rfl <| Q8 rfl rfl ?_
 refine Q8 rfl rfl <| Q8 rfl rfl <| Q8 rfl rfl <| Ue rfl rfl rfl (Qh rfl rfl) <| Uf rfl rfl rfl <| Q8 rfl rfl <| Q8 rfl rfl <| Q8 rfl rfl <| Q8 rfl rfl <| Q8 rfl rfl <| Ue rfl rfl rfl (Qh rfl rfl) <| Q4 ?_
 have e := Uc h1; subst e
 exact Qc true (Ub (Nat.zero_le _) rfl rfl rfl rfl rfl) h0
 replace h1 := Ql c6 h1
 refine Ue rfl rfl rfl (Q1 Yc rfl) <| Ue rfl rfl rfl (Q6 Zc rfl rfl rfl) <| Ue rfl rfl rfl (Qx (α := Ctr) Yv rfl (.d _)) <| Ue rfl rfl rfl (Q7 rfl rfl rfl) <| Ue rfl rfl rfl (Qd rfl rfl) <| Uf rfl rfl rfl ?_
 refine QG (d := 28) (c := (decide (40 < (a0.ctors.length : Int)))) rfl (fun c7 => ?_) (fun c7 => ?_)
 replace h1 := Qk c7 h1
 refine Q8 rfl rfl <| Q8 rfl rfl <| Q8 rfl rfl <| Q8 rfl rfl <| Ue rfl rfl rfl (Qh rfl rfl) <| Uf rfl rfl rfl <| Q8 rfl rfl <| Q8 rfl rfl <| Q8 rfl rfl <| Q8 rfl rfl <| Q8 rfl rfl <| Ue rfl rfl rfl (Qh rfl rfl) <| Uf rfl rfl rfl <| Q8 rfl rfl ?_
 refine Q8 rfl rfl <| Q8 rfl rfl <| Q8 rfl rfl <| Q8 rfl rfl <| Ue rfl rfl rfl (Qh rfl rfl) <| Q4 ?_
 have e := Uc h1; subst e
 exact Qc true (Ub (Nat.zero_le _) rfl rfl rfl rfl rfl) h0
 replace h1 := Ql c7 h1
 refine Ue rfl rfl rfl (Q1 Y2 rfl) <| Ue rfl rfl rfl (Q6 YZ rfl rfl rfl) <| Ue rfl rfl rfl (Qx (α := Fn) Yk rfl (.d _)) <| Ue rfl rfl rfl (Q7 rfl rfl rfl) <| Ue rfl rfl rfl (Qd rfl rfl) <| Uf rfl rfl rfl ?_
 refine QG (d := 34) (c := (decide (12 < (a0.funs.length : Int)))) rfl (fun c8 => ?_) (fun c8 => ?_)
 replace h1 := Qk c8 h1
 refine Q8 rfl rfl <| Q8 rfl rfl <| Q8 rfl rfl <| Q8 rfl rfl <| Q8 rfl rfl <| Ue rfl rfl rfl (Qh rfl rfl) <| Uf rfl rfl rfl <| Q8 rfl rfl <| Q8 rfl rfl <| Q8 rfl rfl <| Q8 rfl rfl <| Q8 rfl rfl <| Ue rfl rfl rfl (Qh rfl rfl) <| Q4 ?_
 have e := Uc h1; subst e
 exact Qc true (Ub (Nat.zero_le _) rfl rfl rfl rfl rfl) h0
 replace h1 := Ql c8 h1
 refine Ue rfl rfl rfl (Q1 JO rfl) <| Ue rfl rfl rfl (Q1 Kl rfl) <| Ue rfl rfl rfl (Qi QW rfl rfl rfl rfl) ?_
 refine Qb h1 (fun x9 hx9 h1 => ?_)
 refine Q9 rfl rfl (Um rfl) (Qo (Xi a0.rcr.ty x9 hx9) rfl (.cons (.agg (.cons (.d _) (.cons (.d _) (.cons (.d _) (.cons (.d _) (.cons (.d _) .nil)))))) .nil)) <| Ue rfl rfl rfl (Jb rfl) <| Ue rfl rfl rfl (Qd rfl rfl) <| Uf rfl rfl rfl ?_
 refine QG (d := 41) (c := (!x9)) rfl (fun c10 => ?_) (fun c10 => ?_)
 replace h1 := Qk c10 h1
 refine Q8 rfl rfl <| Q8 rfl rfl <| Q8 rfl rfl <| Q8 rfl rfl <| Q8 rfl rfl <| Ue rfl rfl rfl (Qh rfl rfl) <| Q4 ?_
 have e := Uc h1; subst e
 exact Qc true (Ub (Nat.zero_le _) rfl rfl rfl rfl rfl) h0
 replace h1 := Ql c10 h1
 refine Ue rfl rfl rfl (Q1 JO rfl) <| Ue rfl rfl rfl (Q1 ZG rfl) <| Ue rfl rfl rfl (Q6 JH rfl rfl rfl) <| Ue rfl rfl rfl (Qx (α := Tm) Ji rfl (.d _)) <| Ue rfl rfl rfl (Q7 rfl rfl rfl) <| Ue rfl rfl rfl (Qd rfl rfl) <| Q4 ?_
 have e := Uc h1; subst e
 exact Qc (decide (40 < (a0.rcr.rules.length : Int))) (Ub (Nat.zero_le _) rfl rfl rfl rfl rfl) h0
 intro v1 h0
 refine Q3 ?_
 refine Qg (b := v1) rfl (fun c11 => ?_) (fun c11 => ?_)
 replace h0 := Qk c11 h0
 refine Q5 <| Q0 <| Ug rfl rfl rfl <| Q4 <| Q3 <| QA ?_
 have e := Uc h0; subst e
 exact QL (fun _ _ h => h) rfl (Qz rfl .nil) (.cons (.one (.d _)) .nil)
 replace h0 := Ql c11 h0
 refine Qj <| Q3 <| Q5 <| Q5 <| Q0 <| Ug rfl rfl rfl <| Q4 <| Q3 <| Qf ?_
 refine QR 0 (fun (o12 : Unit) => ⟨[(1, .v (.one (.ptr 0 0)))], [(0, .cells 45 (UA a0))], [], 1, 124, []⟩) (fun (o12 : Unit) => (Option.bind (QV (Gm a0) J2 0) (Sum.elim (fun (o13 : Unit) => Option.bind (QV (KY a0) J2 0) (Sum.elim (fun (o14 : Unit) => some true) (fun o => some o))) (fun o => some o))) = some r) ?_ ?_
 refine Qb h0 (fun o13 hl1 h0 => ?_)
 refine QQ (GG a0) (fun s1 => ⟨[(1, .v (.one (.ptr 0 0))), (3, .v (.one (Ux s1)))], [(0, .cells 45 (UA a0))], [], 1, 124, []⟩) 0 o13 (Ub (Nat.zero_le _) rfl rfl rfl rfl rfl) hl1 (fun s1 n1 oo1 h1 ho1 => ?_)
 unfold GG at h1
 refine Q5 <| Q5 <| Q0 <| Uf rfl rfl rfl <| Ue rfl rfl rfl (Q1 Yc rfl) <| Ue rfl rfl rfl (Q6 Zc rfl rfl rfl) <| Ue rfl rfl rfl (Qx (α := Ctr) Yv rfl (.d _)) <| Ue rfl rfl rfl (Q7 rfl rfl rfl) <| Q4 <| Q3 ?_
 refine Qg (b := (decide (s1 < (a0.ctors.length : Int)))) rfl (fun c14 => ?_) (fun c14 => ?_)
 replace h1 := Qk c14 h1
 refine Qj <| Q3 <| Q5 <| Qf <| Q5 ?_
 refine QS (fun (v15 : Bool) => ⟨[(1, .v (.one (.ptr 0 0))), (3, .v (.one (Ux s1))), (72, .v (.one (Uy v15)))], [(0, .cells 45 (UA a0))], [], 1, 124, []⟩) (fun (v15 : Bool) => (cond v15
     (some (.done (.inr false)))
     (some (.next (Jk (s1 + 1))))) = some oo1) ?_ ?_
 refine Qb h1 (fun w2_ h2 h1 => ?_)
 refine Q0 <| Ue rfl rfl rfl (Q1 Yc rfl) <| Ue rfl rfl rfl (Q6 Zc rfl rfl rfl) <| Uf rfl rfl rfl ?_
 refine Qb h2 (fun x16 hx16 h2 => ?_)
 refine Ue rfl rfl rfl (Qq (α := Ctr) Yv rfl (.d _) rfl hx16) <| Ue rfl rfl rfl (JA Kk rfl) <| Ue rfl rfl rfl (Js JG rfl rfl) <| Ue rfl rfl rfl (X2 Wy rfl) <| Ue rfl rfl rfl (Q7 rfl rfl rfl) <| Uf rfl rfl rfl ?_
 refine QG (d := 63) (c := (decide (200 < (x16.name.length : Int)))) rfl (fun c17 => ?_) (fun c17 => ?_)
 replace h2 := Qk c17 h2
 refine Q8 rfl rfl <| Q8 rfl rfl <| Q8 rfl rfl <| Q8 rfl rfl <| Q8 rfl rfl <| Q8 rfl rfl <| Q8 rfl rfl <| Q8 rfl rfl <| Ue rfl rfl rfl (Qh rfl rfl) <| Q4 ?_
 have e := Uc h2; subst e
 exact Qc true (Ub (Nat.zero_le _) rfl rfl rfl rfl rfl) h1
 replace h2 := Ql c17 h2
 refine Ue rfl rfl rfl (Q1 Yc rfl) <| Ue rfl rfl rfl (Q6 Zc rfl rfl rfl) <| Uf rfl rfl rfl ?_
 refine Qb h2 (fun x18 hx18 h2 => ?_)
 refine Ue rfl rfl rfl (Qq (α := Ctr) Yv rfl (.d _) rfl hx18) <| Ue rfl rfl rfl (JA K2 rfl) <| Ue rfl rfl rfl (Y6 QW rfl rfl rfl) ?_
 refine Qb h2 (fun x19 hx19 h2 => ?_)
 refine Q9 rfl rfl (Um rfl) (Qo (Xi x18.ty x19 hx19) rfl (.cons (.agg (.cons (.d _) (.cons (.d _) (.cons (.d _) (.cons (.d _) (.cons (.d _) .nil)))))) .nil)) <| Ue rfl rfl rfl (Jb rfl) <| Ue rfl rfl rfl (Qd rfl rfl) <| Q4 ?_
 have e := Uc h2; subst e
 exact Qc (!x19) (Ub (Nat.zero_le _) rfl rfl rfl rfl rfl) h1
 intro v15 h1
 refine Q3 ?_
 refine Qg (b := v15) rfl (fun c20 => ?_) (fun c20 => ?_)
 replace h1 := Qk c20 h1
 refine Q5 <| Q0 <| Ug rfl rfl rfl <| Q4 <| Q3 <| QA ?_
 have e := Uc h1; subst e
 have e_ : _ = _ := ho1
 subst e_
 try dsimp only [Sum.elim_inl, Sum.elim_inr] at h0
 have e := Uc h0; subst e
 exact QL (fun _ _ h => h) rfl (Qz rfl .nil) (.cons (.one (.d _)) .nil)
 replace h1 := Ql c20 h1
 refine Qj <| Qe <| Q3 <| Q0 <| Uf rfl rfl rfl <| Ue rfl rfl rfl (Q7 rfl rfl rfl) <| Ug rfl rfl rfl <| Q4 ?_
 have e := Uc h1; subst e
 refine QM (Jk (s1 + 1)) (Ub (Nat.zero_le _) rfl rfl rfl rfl rfl) ho1
 replace h1 := Ql c14 h1
 refine J1 <| Qn <| Qn ?_
 have e := Uc h1; subst e
 have e_ : _ = _ := ho1
 subst e_
 exact QP () (Ub (Nat.zero_le _) rfl rfl rfl rfl rfl) h0
 intro o12 h0
 refine QF <| Q3 <| Q5 <| Q5 <| Q0 <| Ug rfl rfl rfl <| Q4 <| Q3 <| Qf ?_
 refine QR 2 (fun (o21 : Unit) => ⟨[(1, .v (.one (.ptr 0 0)))], [(0, .cells 45 (UA a0))], [], 1, 124, []⟩) (fun (o21 : Unit) => (Option.bind (QV (KY a0) J2 0) (Sum.elim (fun (o22 : Unit) => some true) (fun o => some o))) = some r) ?_ ?_
 refine Qb h0 (fun o22 hl1 h0 => ?_)
 refine QQ (Gm a0) (fun s1 => ⟨[(1, .v (.one (.ptr 0 0))), (4, .v (.one (Ux s1)))], [(0, .cells 45 (UA a0))], [], 1, 124, []⟩) 0 o22 (Ub (Nat.zero_le _) rfl rfl rfl rfl rfl) hl1 (fun s1 n1 oo1 h1 ho1 => ?_)
 unfold Gm at h1
 refine Q5 <| Q5 <| Q0 <| Uf rfl rfl rfl <| Ue rfl rfl rfl (Q1 JO rfl) <| Ue rfl rfl rfl (Q1 ZG rfl) <| Ue rfl rfl rfl (Q6 JH rfl rfl rfl) <| Ue rfl rfl rfl (Qx (α := Tm) Ji rfl (.d _)) <| Ue rfl rfl rfl (Q7 rfl rfl rfl) <| Q4 <| Q3 ?_
 refine Qg (b := (decide (s1 < (a0.rcr.rules.length : Int)))) rfl (fun c23 => ?_) (fun c23 => ?_)
 replace h1 := Qk c23 h1
 refine Qj <| Q3 <| Q5 <| Qf <| Q5 <| Q0 <| Ue rfl rfl rfl (Q1 JO rfl) <| Ue rfl rfl rfl (Q1 ZG rfl) <| Ue rfl rfl rfl (Q6 JH rfl rfl rfl) <| Uf rfl rfl rfl ?_
 refine Qb h1 (fun x24 hx24 h1 => ?_)
 refine Ue rfl rfl rfl (Qq (α := Tm) Ji rfl (.d _) rfl hx24) <| Ue rfl rfl rfl (Qv (x24 : Tm) QW rfl) ?_
 refine Qb h1 (fun x25 hx25 h1 => ?_)
 refine Q9 rfl rfl (Um rfl) (Qo (Xi x24 x25 hx25) rfl (.cons (.agg (.cons (.d _) (.cons (.d _) (.cons (.d _) (.cons (.d _) (.cons (.d _) .nil)))))) .nil)) <| Ue rfl rfl rfl (Jb rfl) <| Q4 <| Q3 ?_
 refine Qg (b := (!x25)) rfl (fun c26 => ?_) (fun c26 => ?_)
 replace h1 := Qk c26 h1
 refine Q5 <| Q0 <| Ug rfl rfl rfl <| Q4 <| Q3 <| QA ?_
 have e := Uc h1; subst e
 have e_ : _ = _ := ho1
 subst e_
 try dsimp only [Sum.elim_inl, Sum.elim_inr] at h0
 have e := Uc h0; subst e
 exact QL (fun _ _ h => h) rfl (Qz rfl .nil) (.cons (.one (.d _)) .nil)
 replace h1 := Ql c26 h1
 refine Qj <| Qe <| Q3 <| Q0 <| Uf rfl rfl rfl <| Ue rfl rfl rfl (Q7 rfl rfl rfl) <| Ug rfl rfl rfl <| Q4 ?_
 have e := Uc h1; subst e
 refine QM (Jk (s1 + 1)) (Ub (Nat.zero_le _) rfl rfl rfl rfl rfl) ho1
 replace h1 := Ql c23 h1
 refine J1 <| Qn <| Qn ?_
 have e := Uc h1; subst e
 have e_ : _ = _ := ho1
 subst e_
 exact QP () (Ub (Nat.zero_le _) rfl rfl rfl rfl rfl) h0
 intro o21 h0
 refine QF <| Q3 <| Q5 <| Q5 <| Q0 <| Ug rfl rfl rfl <| Q4 <| Q3 <| Qf ?_
 refine QR 4 (fun (o27 : Unit) => ⟨[], [(0, .cells 45 (UA a0))], [], 1, 124, []⟩) (fun (o27 : Unit) => (some true) = some r) ?_ ?_
 refine Qb h0 (fun o28 hl1 h0 => ?_)
 refine QQ (KY a0) (fun s1 => ⟨[(1, .v (.one (.ptr 0 0))), (5, .v (.one (Ux s1)))], [(0, .cells 45 (UA a0))], [], 1, 124, []⟩) 0 o28 (Ub (Nat.zero_le _) rfl rfl rfl rfl rfl) hl1 (fun s1 n1 oo1 h1 ho1 => ?_)
 unfold KY at h1
 refine Q5 <| Q5 <| Q0 <| Uf rfl rfl rfl <| Ue rfl rfl rfl (Q1 Y2 rfl) <| Ue rfl rfl rfl (Q6 YZ rfl rfl rfl) <| Ue rfl rfl rfl (Qx (α := Fn) Yk rfl (.d _)) <| Ue rfl rfl rfl (Q7 rfl rfl rfl) <| Q4 <| Q3 ?_
 refine Qg (b := (decide (s1 < (a0.funs.length : Int)))) rfl (fun c29 => ?_) (fun c29 => ?_)
 replace h1 := Qk c29 h1
 refine Qj <| Q3 <| Q5 <| Qf <| Q5 ?_
 refine QS (fun (v30 : Bool) => ⟨[(1, .v (.one (.ptr 0 0))), (5, .v (.one (Ux s1))), (123, .v (.one (Uy v30)))], [(0, .cells 45 (UA a0))], [], 1, 124, []⟩) (fun (v30 : Bool) => (cond v30
     (some (.done (.inr false)))
     (some (.next (Jk (s1 + 1))))) = some oo1) ?_ ?_
 refine Qb h1 (fun w2_ h2 h1 => ?_)
 refine Q0 <| Ue rfl rfl rfl (Q1 Y2 rfl) <| Ue rfl rfl rfl (Q6 YZ rfl rfl rfl) <| Uf rfl rfl rfl ?_
 refine Qb h2 (fun x31 hx31 h2 => ?_)
 refine Ue rfl rfl rfl (Qq (α := Fn) Yk rfl (.d _) rfl hx31) <| Ue rfl rfl rfl (JA Gp rfl) <| Ue rfl rfl rfl (Js JG rfl rfl) <| Ue rfl rfl rfl (X2 Wy rfl) <| Ue rfl rfl rfl (Q7 rfl rfl rfl) <| Uf rfl rfl rfl ?_
 refine QG (d := 104) (c := (decide (200 < (x31.name.length : Int)))) rfl (fun c32 => ?_) (fun c32 => ?_)
 replace h2 := Qk c32 h2
 refine Q8 rfl rfl <| Q8 rfl rfl <| Q8 rfl rfl <| Q8 rfl rfl <| Q8 rfl rfl <| Q8 rfl rfl <| Q8 rfl rfl <| Q8 rfl rfl <| Ue rfl rfl rfl (Qh rfl rfl) <| Uf rfl rfl rfl <| Q8 rfl rfl <| Q8 rfl rfl <| Q8 rfl rfl <| Q8 rfl rfl ?_
 refine Q8 rfl rfl <| Q8 rfl rfl <| Q8 rfl rfl <| Q8 rfl rfl <| Ue rfl rfl rfl (Qh rfl rfl) <| Q4 ?_
 have e := Uc h2; subst e
 exact Qc true (Ub (Nat.zero_le _) rfl rfl rfl rfl rfl) h1
 replace h2 := Ql c32 h2
 refine Ue rfl rfl rfl (Q1 Y2 rfl) <| Ue rfl rfl rfl (Q6 YZ rfl rfl rfl) <| Uf rfl rfl rfl ?_
 refine Qb h2 (fun x33 hx33 h2 => ?_)
 refine Ue rfl rfl rfl (Qq (α := Fn) Yk rfl (.d _) rfl hx33) <| Ue rfl rfl rfl (JA KT rfl) <| Ue rfl rfl rfl (Y6 QW rfl rfl rfl) ?_
 refine Qb h2 (fun x34 hx34 h2 => ?_)
 refine Q9 rfl rfl (Um rfl) (Qo (Xi x33.ty x34 hx34) rfl (.cons (.agg (.cons (.d _) (.cons (.d _) (.cons (.d _) (.cons (.d _) (.cons (.d _) .nil)))))) .nil)) <| Ue rfl rfl rfl (Jb rfl) <| Ue rfl rfl rfl (Qd rfl rfl) <| Uf rfl rfl rfl ?_
 refine QG (d := 114) (c := (!x34)) rfl (fun c35 => ?_) (fun c35 => ?_)
 replace h2 := Qk c35 h2
 refine Q8 rfl rfl <| Q8 rfl rfl <| Q8 rfl rfl <| Q8 rfl rfl <| Q8 rfl rfl <| Q8 rfl rfl <| Q8 rfl rfl <| Q8 rfl rfl <| Ue rfl rfl rfl (Qh rfl rfl) <| Q4 ?_
 have e := Uc h2; subst e
 exact Qc true (Ub (Nat.zero_le _) rfl rfl rfl rfl rfl) h1
 replace h2 := Ql c35 h2
 refine Ue rfl rfl rfl (Q1 Y2 rfl) <| Ue rfl rfl rfl (Q6 YZ rfl rfl rfl) <| Uf rfl rfl rfl ?_
 refine Qb h2 (fun x36 hx36 h2 => ?_)
 refine Ue rfl rfl rfl (Qq (α := Fn) Yk rfl (.d _) rfl hx36) <| Ue rfl rfl rfl (JA fo_76_3 rfl) <| Ue rfl rfl rfl (Y6 X9 rfl rfl rfl) ?_
 refine Qb h2 (fun x37 hx37 h2 => ?_)
 refine Q9 rfl rfl (Um rfl) (Qo (m38_ok x36.tree 0 x37 hx37) rfl (.cons (.agg (.cons (.d _) (.cons (.d _) (.cons (.d _) (.cons (.d _) (.cons (.d _) (.cons (.d _) (.cons (.d _) (.cons (.d _) .nil))))))))) (.cons (.one (.d _)) .nil))) <| Ue rfl rfl rfl (Jb rfl) <| Ue rfl rfl rfl (Qd rfl rfl) <| Q4 ?_
 have e := Uc h2; subst e
 exact Qc (!x37) (Ub (Nat.zero_le _) rfl rfl rfl rfl rfl) h1
 intro v30 h1
 refine Q3 ?_
 refine Qg (b := v30) rfl (fun c38 => ?_) (fun c38 => ?_)
 replace h1 := Qk c38 h1
 refine Q5 <| Q0 <| Ug rfl rfl rfl <| Q4 <| Q3 <| QA ?_
 have e := Uc h1; subst e
 have e_ : _ = _ := ho1
 subst e_
 try dsimp only [Sum.elim_inl, Sum.elim_inr] at h0
 have e := Uc h0; subst e
 exact QL (fun _ _ h => h) rfl (Qz rfl .nil) (.cons (.one (.d _)) .nil)
 replace h1 := Ql c38 h1
 refine Qj <| Qe <| Q3 <| Q0 <| Uf rfl rfl rfl <| Ue rfl rfl rfl (Q7 rfl rfl rfl) <| Ug rfl rfl rfl <| Q4 ?_
 have e := Uc h1; subst e
 refine QM (Jk (s1 + 1)) (Ub (Nat.zero_le _) rfl rfl rfl rfl rfl) ho1
 replace h1 := Ql c29 h1
 refine J1 <| Qn <| Qn ?_
 have e := Uc h1; subst e
 have e_ : _ = _ := ho1
 subst e_
 exact QP () (Ub (Nat.zero_le _) rfl rfl rfl rfl rfl) h0
 intro o27 h0
 refine QF <| Q3 <| Q5 <| Q0 <| Ug rfl rfl rfl <| Q4 <| Q3 <| QA ?_
 have e := Uc h0; subst e
 exact QL (fun _ _ h => h) rfl (Qz rfl .nil) (.cons (.one (.d _)) .nil)
end Go.Proofs.Ytafddfoefeploaa
namespace Go.Proofs.Ytafddfoefeploaa
open Go.RowKit Go.Lib
set_option linter.unusedSimpArgs false
set_option linter.unusedVariables false
set_option linter.unusedSectionVars false
theorem G7 {α σ τ β : Type} {step : τ → Option (LO τ β)} (l : List α) (mk : Int → σ → τ) (hlen : l.length ≤ 900000000)
    (hin : ∀ (a : List α) (x : α) (b : List α) (s : σ), l = a ++ x :: b → (∃ r, step (mk (a.length : Int) s) = some (.done r)) ∨ ∃ s', step (mk (a.length : Int) s) = some (.next (mk (Jk ((a.length : Int) + 1)) s')))
    (hout : ∀ s, ∃ r, step (mk (l.length : Int) s) = some (.done r)) (s0 : σ) : ∃ r, QV step J2 (mk 0 s0) = some r := by
  obtain ⟨r, h, -⟩ := YN l mk (fun _ _ => True) (fun _ => True) hlen (fun a x b s e _ => (hin a x b s e).elim (fun ⟨r, h⟩ => .inl ⟨r, h, trivial⟩) (fun ⟨s', h⟩ => .inr ⟨s', h, trivial⟩)) (fun s _ => let ⟨r, h⟩ := hout s; ⟨r, h, trivial⟩) s0 trivial
  exact ⟨r, h⟩
theorem size_some : ∀ (n : Nat) (t : Tm), t.size ≤ n → t.size ≤ 900000000 → ∃ r, Yt WK n t = some r
  | 0, t, h, _ => by rw [t.size_eq] at h; omega
  | n + 1, t, h, h2 => by
    show ∃ r, WJ (Yt WK n) t = some r
    unfold WJ
    have hl := GN t
    obtain ⟨r, e⟩ := G7 (step := XT t (Yt WK n)) t.kids (fun i (s : Int) => (s, i)) (by omega)
      (fun a x b s e => by
        have hx := Zy (t := t) (k := x) (by rw [e]; simp)
        obtain ⟨r, hr⟩ := size_some n x (by omega) (by omega)
        refine .inr ⟨Jk (s + r), ?_⟩
        unfold XT
        dsimp only
        rw [e, Y4, JI]
        simp only [cond_true, Option.bind_some]
        rw [hr]; rfl) (fun s => ⟨s, by unfold XT; dsimp only; rw [Y7]; rfl⟩) 1
    rw [e]; exact ⟨r, rfl⟩
theorem depth_some : ∀ (n : Nat) (t : Tm), t.size ≤ n → t.size ≤ 900000000 → ∃ r, Yt WI n t = some r
  | 0, t, h, _ => by rw [t.size_eq] at h; omega
  | n + 1, t, h, h2 => by
    show ∃ r, WH (Yt WI n) t = some r
    unfold WH
    have hl := GN t
    obtain ⟨r, e⟩ := G7 (step := XS t (Yt WI n)) t.kids (fun i (s : Int) => (s, i)) (by omega)
      (fun a x b s e => by
        have hx := Zy (t := t) (k := x) (by rw [e]; simp)
        obtain ⟨r, hr⟩ := depth_some n x (by omega) (by omega)
        refine .inr ⟨max s r, ?_⟩
        unfold XS
        dsimp only
        rw [e, Y4, JI]
        simp only [cond_true, Option.bind_some]
        rw [hr]; rfl) (fun s => ⟨s, by unfold XS; dsimp only; rw [Y7]; rfl⟩) 0
    rw [e]; exact ⟨_, rfl⟩
theorem KA (t : Tm) (h : t.size ≤ 900000000) : ∃ b, WN t = some b := by
  unfold WN
  obtain ⟨r, e⟩ := size_some J2 t (by unfold J2; omega) h
  obtain ⟨r2, e2⟩ := depth_some J2 t (by unfold J2; omega) h
  unfold m55 m56
  rw [e, e2]
  simp only [Option.bind_some]
  cases decide (r ≤ 400) <;> exact ⟨_, rfl⟩
theorem tree_some : ∀ (n : Nat) (t : Tr) (d : Int), t.size ≤ n → t.size ≤ 900000000 → ∃ r, Yt WM n (t, d) = some r
  | 0, t, d, h, _ => by rw [t.size_eq] at h; omega
  | n + 1, t, d, h, h2 => by
    show ∃ r, WL (Yt WM n) t d = some r
    unfold WL
    have hl := branches_len t
    have hsz := t.size_eq
    obtain ⟨b, hb⟩ := KA t.body (by omega)
    obtain ⟨r, e⟩ := G7 (step := Xh t (Yt WM n) d) t.branches (fun i (s : Unit) => i) (by omega)
      (fun a x c s e => by
        have hx := Tr.kid_size (t := t) (b := x) (by rw [e]; simp)
        obtain ⟨r, hr⟩ := tree_some n x.tree (Jk (d + 1)) (by omega) (by omega)
        unfold Xh
        rw [e, Y4, JI]
        simp only [cond_true, Option.bind_some]
        rw [hr]
        cases r with
        | false => exact .inl ⟨_, rfl⟩
        | true =>
          simp only [Option.bind_some, Bool.not_true, cond_false]
          cases decide (200 < (x.ctor.length : Int)) with
          | true => exact .inl ⟨_, rfl⟩
          | false => exact .inr ⟨(), rfl⟩) (fun s => ⟨_, by unfold Xh; rw [Y7]; rfl⟩) ()
    rw [e, hb]
    cases decide (40 < d) with
    | true => exact ⟨_, rfl⟩
    | false =>
      cases decide (40 < (t.branches.length : Int)) with
      | true => exact ⟨_, rfl⟩
      | false =>
        cases b with
        | false => exact ⟨_, rfl⟩
        | true =>
          cases r with
          | inl u => exact ⟨_, rfl⟩
          | inr u => exact ⟨_, rfl⟩
theorem m21_some (d : Dcl) (h : d.size ≤ 900000000) : ∃ b, U7 d = some b := by
  have h1 := Kv d
  have h2 := KF d
  have h3 := rules_len d
  have hty := YK (d := d) (t := d.ty) (by unfold Jq; simp)
  have hval := YK (d := d) (t := d.value) (by unfold Jq; simp)
  have hrt := YK (d := d) (t := d.rcr.ty) (by unfold Jq; simp)
  obtain ⟨b1, e1⟩ := KA d.ty (by omega)
  obtain ⟨b2, e2⟩ := KA d.value (by omega)
  obtain ⟨b3, e3⟩ := KA d.rcr.ty (by omega)
  obtain ⟨r1, l1⟩ := G7 (step := GG d) d.ctors (fun i (s : Unit) => i) (by omega)
    (fun a x c s e => by
      have hx := YK (d := d) (t := x.ty) (by unfold Jq; rw [e]; simp)
      obtain ⟨r, hr⟩ := KA x.ty (by omega)
      unfold GG
      rw [e, Y4, JI]
      simp only [cond_true, Option.bind_some]
      cases decide (200 < (x.name.length : Int)) with
      | true => exact .inl ⟨_, rfl⟩
      | false =>
        simp only [cond_false]
        rw [hr]
        cases r with
        | false => exact .inl ⟨_, rfl⟩
        | true => exact .inr ⟨(), rfl⟩) (fun s => ⟨_, by unfold GG; rw [Y7]; rfl⟩) ()
  obtain ⟨r2, l2⟩ := G7 (step := Gm d) d.rcr.rules (fun i (s : Unit) => i) (by omega)
    (fun a x c s e => by
      have hx := YK (d := d) (t := x) (by unfold Jq; rw [e]; simp)
      obtain ⟨r, hr⟩ := KA x (by omega)
      unfold Gm
      rw [e, Y4, JI]
      simp only [cond_true, Option.bind_some]
      rw [hr]
      cases r with
      | false => exact .inl ⟨_, rfl⟩
      | true => exact .inr ⟨(), rfl⟩) (fun s => ⟨_, by unfold Gm; rw [Y7]; rfl⟩) ()
  obtain ⟨r3, l3⟩ := G7 (step := KY d) d.funs (fun i (s : Unit) => i) (by omega)
    (fun a x c s e => by
      have hx := YK (d := d) (t := x.ty) (by unfold Jq; rw [e]; simp)
      have hf := fun_mem (d := d) (f := x) (by rw [e]; simp)
      obtain ⟨r, hr⟩ := KA x.ty (by omega)
      obtain ⟨q, hq⟩ := tree_some J2 x.tree 0 (by unfold J2; omega) (by omega)
      unfold KY
      rw [e, Y4, JI]
      simp only [cond_true, Option.bind_some]
      cases decide (200 < (x.name.length : Int)) with
      | true => exact .inl ⟨_, rfl⟩
      | false =>
        simp only [cond_false]
        rw [hr]
        cases r with
        | false => exact .inl ⟨_, rfl⟩
        | true =>
          simp only [Option.bind_some, Bool.not_true, cond_false]
          unfold m38
          rw [hq]
          cases q with
          | false => exact .inl ⟨_, rfl⟩
          | true => exact .inr ⟨(), rfl⟩) (fun s => ⟨_, by unfold KY; rw [Y7]; rfl⟩) ()
  have tail : ∃ b, Option.bind (QV (GG d) J2 0) (Sum.elim (fun (o3 : Unit) => Option.bind (QV (Gm d) J2 0) (Sum.elim (fun (o4 : Unit) => Option.bind (QV (KY d) J2 0) (Sum.elim (fun (o5 : Unit) => some true) (fun o => some o))) (fun o => some o))) (fun o => some o)) = some b := by
    rw [l1, l2, l3]
    cases r1 with
    | inr u => exact ⟨_, rfl⟩
    | inl u =>
      cases r2 with
      | inr u => exact ⟨_, rfl⟩
      | inl u =>
        cases r3 with
        | inr u => exact ⟨_, rfl⟩
        | inl u => exact ⟨_, rfl⟩
  obtain ⟨bt, ht⟩ := tail
  unfold U7
  rw [e1, e2, e3, ht]
  cases decide (200 < (d.name.length : Int)) with
  | true => exact ⟨_, rfl⟩
  | false =>
    cases b1 with
    | false => exact ⟨_, rfl⟩
    | true =>
      cases b2 with
      | false => exact ⟨_, rfl⟩
      | true =>
        cases decide (40 < (d.ctors.length : Int)) with
        | true => exact ⟨_, rfl⟩
        | false =>
          cases decide (12 < (d.funs.length : Int)) with
          | true => exact ⟨_, rfl⟩
          | false =>
            cases b3 with
            | false => exact ⟨_, rfl⟩
            | true =>
              cases h7 : decide (40 < (d.rcr.rules.length : Int)) with
              | true => exact ⟨false, by simp [h7]⟩
              | false => exact ⟨bt, by simp [h7]⟩
end Go.Proofs.Ytafddfoefeploaa
namespace Go.Proofs.Ytafddfoefeploaa
open Go.RowKit Go.Shelf
set_option linter.unusedSimpArgs false
set_option linter.unusedVariables false
theorem KS : J0 Try.prog 87 0 = some 0 := by kernel_rfl
theorem Zk : J0 Try.prog 87 1 = some 1 := by kernel_rfl
theorem KH : J0 Try.prog 124 0 = some 0 := by kernel_rfl
theorem fo_124_1 : J0 Try.prog 124 1 = some 1 := by kernel_rfl
theorem Gt : Jy Try.prog 85 = some (false, 1) := by kernel_rfl
theorem Kg : Jy Try.prog 87 = some (true, 2) := by kernel_rfl
theorem KK : Jy Try.prog 124 = some (true, 2) := by kernel_rfl
theorem ZC : Jo Try.prog 85 = some (124, 2) := by kernel_rfl
theorem z_124 : JE Try.prog 124 = some [.int .i64 0, .int .i64 0] := by kernel_rfl
theorem en_103 : J3 Try.prog 103 := enters_of Try.func103 (by kernel_rfl) rfl
theorem en_108 : J3 Try.prog 108 := enters_of Try.func108 (by kernel_rfl) rfl
theorem en_111 : J3 Try.prog 111 := enters_of Try.func111 (by kernel_rfl) rfl
theorem en_112 : J3 Try.prog 112 := enters_of Try.func112 (by kernel_rfl) rfl
theorem en_113 : J3 Try.prog 113 := enters_of Try.func113 (by kernel_rfl) rfl
def m112f2 (a0 : UL) (a1 : Lvl) : Option Unit :=
 some ()
set_option maxRecDepth 100000 in
set_option maxHeartbeats 2000000 in
theorem m112f2_ok (a0 : UL) (a1 : Lvl) (r : Unit) (h0 : m112f2 a0 a1 = some r) : CallM Try.prog 112 [.agg (UA a0), .one (.ptr 0 0)] ⟨[(0, .cells 87 (UA a1))], [], 1⟩ (QD [.one (Uy (decide (a1.c ≤ a0.2)))]) ⟨[(0, .cells 87 (UA a1))], [], 2⟩ := by
 unfold m112f2 at h0
 refine QT ⟨[(3, .v (.one (Uy (decide (a1.c ≤ a0.2)))))], [(0, .cells 87 (UA a1))], [], 2, 9, []⟩ rfl rfl en_112 (Um rfl) rfl (Qz rfl .nil) (fun w0 M V0 Q hv0 hQ0 => ?_)
 simp only [J7]
 refine Q5 <| Q0 <| Q9 rfl rfl (Um rfl) (QN rfl) <| Ug rfl rfl rfl <| Q4 <| Q3 <| Q5 <| Q0 <| Ue rfl rfl rfl (Q1 fo_124_1 rfl) <| Ue rfl rfl rfl (Q6 QZ rfl rfl rfl) <| Ue rfl rfl rfl (Q1 KS rfl) <| Ue rfl rfl rfl (Q6 QZ rfl rfl rfl) <| Ue rfl rfl rfl (Q7 rfl rfl rfl) <| Ug rfl rfl rfl ?_
 refine Q4 <| Q3 <| QA ?_
 have e := Uc h0; subst e
 exact hQ0 _ _ _ (.inr rfl) rfl (Ub (Nat.le_trans hv0 (Um rfl)) rfl rfl rfl rfl rfl)
def m113f1_l0 (a0 : List UL) (a1 : Lvl) (s1 : Int) : Option (LO Int (Unit ⊕ Int)) :=
 cond (decide (s1 < (a0.length : Int)))
   (Option.bind (Yi a0 s1) fun (x3 : UL) =>
 Option.bind (m112f2 x3 a1) fun (x4 : Unit) =>
 cond (decide (a1.c ≤ x3.2))
   (some (.done (.inr s1)))
   (some (.next (Jk (s1 + 1)))))
   (some (.done (.inl ())))
def m113f1 (a0 : List UL) (a1 : Lvl) : Option Int :=
 Option.bind (QV (m113f1_l0 a0 a1) J2 0) (Sum.elim (fun (o1 : Unit) => some (-1)) (fun o => some o))
set_option maxRecDepth 100000 in
set_option maxHeartbeats 2000000 in
theorem m113f1_ok (a0 : List UL) (a1 : Lvl) (r : Int) (h0 : m113f1 a0 a1 = some r) : CallM Try.prog 113 [.one (Uv a0), .one (.fn 112 [(0, 0)])] ⟨[(0, .cells 87 (UA a1))], [], 1⟩ (QD [.one (Ux r)]) ⟨[(0, .cells 87 (UA a1))], [], 1⟩ := by
 unfold m113f1 at h0
 refine QT ⟨[(4, .v (.one (Ux r)))], [(0, .cells 87 (UA a1))], [], 1, 19, []⟩ rfl rfl en_113 (Um rfl) rfl (Qz rfl .nil) (fun w0 M V0 Q hv0 hQ0 => ?_)
 simp only [J7]
 refine Q5 <| Q0 <| Ug rfl rfl rfl <| Q4 <| Q3 <| Q5 <| Q5 <| Q0 <| Uf rfl rfl rfl <| Ue rfl rfl rfl (Qx (α := UL) ZC rfl (.d _)) <| Uf rfl rfl rfl <| Q4 <| Q3 <| Qf ?_
 refine QR 0 (fun (o1 : Unit) => ⟨[], [(0, .cells 87 (UA a1))], [], 1, 19, []⟩) (fun (o1 : Unit) => (some (-1)) = some r) ?_ ?_
 refine Qb h0 (fun o2 hl1 h0 => ?_)
 refine QQ (m113f1_l0 a0 a1) (fun s1 => ⟨[(0, .v (.one (Uv a0))), (1, .v (.one (.fn 112 [(0, 0)]))), (7, .v (.one (Ux (a0.length : Int)))), (8, .v (.one (Ux s1)))], [(0, .cells 87 (UA a1))], [], 1, 19, []⟩) 0 o2 (Ub (Nat.le_trans hv0 (Um rfl)) rfl rfl rfl rfl rfl) hl1 (fun s1 n1 oo1 h1 ho1 => ?_)
 unfold m113f1_l0 at h1
 refine Q5 <| Q0 <| Ue rfl rfl rfl (Q7 rfl rfl rfl) <| Q4 <| Q3 <| Q5 ?_
 refine Qg (b := (decide (s1 < (a0.length : Int)))) rfl (fun c3 => ?_) (fun c3 => ?_)
 replace h1 := Qk c3 h1
 refine Qj <| Q3 <| Q5 <| Qf <| Q5 <| Q0 <| Uf rfl rfl rfl <| Ug rfl rfl rfl <| Q4 <| Q3 <| Q5 <| Q0 <| Uf rfl rfl rfl <| Uf rfl rfl rfl ?_
 refine Uf rfl rfl rfl ?_
 refine Qb h1 (fun x4 hx4 h1 => ?_)
 refine Ue rfl rfl rfl (Qq (α := UL) ZC rfl (.d _) rfl hx4) <| Ue rfl rfl rfl (Qv (x4 : UL) KK rfl) ?_
 refine Qb h1 (fun x5 hx5 h1 => ?_)
 refine Q9 rfl rfl (Um rfl) (J4 (hp1' := [(0, .cells 87 (UA a1))]) (tk1' := []) (hpF := []) (tkF := []) (res2 := QD [.one (Uy (decide (a1.c ≤ x4.2)))]) (nx2 := 2) [0] rfl rfl (m112f2_ok x4 a1 x5 hx5) rfl rfl (Uj rfl rfl Uh) rfl rfl (Ut rfl Us) Up hZ Un rfl rfl rfl rfl rfl (UG rfl) rfl rfl rfl rfl) <| Q4 <| Q3 ?_
 refine Qg (b := (decide (a1.c ≤ x4.2))) rfl (fun c6 => ?_) (fun c6 => ?_)
 replace h1 := Qk c6 h1
 refine Q5 <| Q0 <| Uf rfl rfl rfl <| Ug rfl rfl rfl <| Q4 <| Q3 <| QA ?_
 have e := Uc h1; subst e
 have e_ : _ = _ := ho1
 subst e_
 try dsimp only [Sum.elim_inl, Sum.elim_inr] at h0
 have e := Uc h0; subst e
 exact hQ0 _ _ _ (.inr rfl) rfl (Ub (Nat.le_trans hv0 (Um rfl)) rfl rfl rfl rfl rfl)
 replace h1 := Ql c6 h1
 refine Qj <| Qe <| Q3 <| Q0 <| Ue rfl rfl rfl (Q7 rfl rfl rfl) <| Uf rfl rfl rfl <| Q4 ?_
 have e := Uc h1; subst e
 refine QM (Jk (s1 + 1)) (Ub (Nat.le_trans hv0 (Um rfl)) rfl rfl rfl rfl rfl) ho1
 replace h1 := Ql c3 h1
 refine J1 <| Qn <| Qn ?_
 have e := Uc h1; subst e
 have e_ : _ = _ := ho1
 subst e_
 exact QP () (Ub (Nat.le_trans hv0 (Um rfl)) rfl rfl rfl rfl rfl) h0
 intro o1 h0
 refine QF <| Q3 <| Q5 <| Q0 <| Ug rfl rfl rfl <| Q4 <| Q3 <| QA ?_
 have e := Uc h0; subst e
 exact hQ0 _ _ _ (.inr rfl) rfl (Ub (Nat.le_trans hv0 (Um rfl)) rfl rfl rfl rfl rfl)
def m111f0 (a0 : List UL) (a1 : Lvl) : Option Bool :=
 Option.bind (m113f1 a0 a1) fun (x1 : Int) =>
 some (decide (0 ≤ x1))
set_option maxRecDepth 100000 in
set_option maxHeartbeats 2000000 in
theorem m111f0_ok (a0 : List UL) (a1 : Lvl) (r : Bool) (h0 : m111f0 a0 a1 = some r) : CallM Try.prog 111 [.one (Uv a0), .one (.fn 112 [(0, 0)])] ⟨[(0, .cells 87 (UA a1))], [], 1⟩ (QD [.one (Uy r)]) ⟨[(0, .cells 87 (UA a1))], [], 1⟩ := by
 unfold m111f0 at h0
 refine QT ⟨[(4, .v (.one (Uy r)))], [(0, .cells 87 (UA a1))], [], 1, 9, []⟩ rfl rfl en_111 (Um rfl) rfl (Qz rfl .nil) (fun w0 M V0 Q hv0 hQ0 => ?_)
 simp only [J7]
 refine Q5 <| Q0 <| Ug rfl rfl rfl <| Q4 <| Q3 <| Q5 <| Q0 <| Uf rfl rfl rfl <| Uf rfl rfl rfl ?_
 refine Qb h0 (fun x1 hx1 h0 => ?_)
 refine Q9 rfl rfl (Um rfl) (J4 (hp1' := [(0, .cells 87 (UA a1))]) (tk1' := []) (hpF := []) (tkF := []) (res2 := QD [.one (Ux x1)]) (nx2 := 1) [0] rfl rfl (m113f1_ok a0 a1 x1 hx1) rfl rfl (Uj rfl rfl Uh) rfl rfl (Ut rfl Us) Up hZ Un rfl rfl rfl rfl rfl (UG rfl) rfl rfl rfl rfl) <| Ue rfl rfl rfl (Q7 rfl rfl rfl) <| Ug rfl rfl rfl <| Q4 <| Q3 <| QA ?_
 have e := Uc h0; subst e
 exact hQ0 _ _ _ (.inr rfl) rfl (Ub (Nat.le_trans hv0 (Um rfl)) rfl rfl rfl rfl rfl)
def m103_l0 (a0 : Lvl) (s1 : Int) : Option (LO Int (Unit ⊕ Bool)) :=
 cond (decide (s1 < (a0.vs.length : Int)))
   (Option.bind (Yi a0.vs s1) fun (x5 : UL) =>
 Option.bind (cond (decide (x5.1 < (-65536)))
   (some true)
   (cond (decide (7 < x5.1))
   (some true)
   (cond (decide (x5.2 < 0))
   (some true)
   (cond (decide (100 < x5.2))
   (some true)
   (cond (decide (0 < s1))
   (Option.bind (Yi a0.vs (Jk (s1 - 1))) fun (x12 : UL) =>
 some (decide (x5.1 ≤ x12.1)))
   (some false)))))) (fun (v6 : Bool) => cond v6
   (some (.done (.inr false)))
   (some (.next (Jk (s1 + 1))))))
   (some (.done (.inl ())))
def m103 (a0 : Lvl) : Option Bool :=
 Option.bind (cond (decide (a0.c < 0))
   (some true)
   (cond (decide (100 < a0.c))
   (some true)
   (cond (decide (0 < a0.c))
   (Option.bind (Option.bind (m111f0 a0.vs a0) fun (x7 : Bool) =>
 some x7) (fun (y5 : Bool) => some y5))
   (some false)))) (fun (v1 : Bool) => cond v1
   (some false)
   (Option.bind (QV (m103_l0 a0) J2 0) (Sum.elim (fun (o3 : Unit) => some true) (fun o => some o))))
set_option maxRecDepth 100000 in
set_option maxHeartbeats 2000000 in
theorem m103_ok (a0 : Lvl) (r : Bool) (h0 : m103 a0 = some r) : Fun Try.prog 103 [.agg (UA a0)] (QD [.one (Uy r)]) := by
 unfold m103 at h0
 refine QY 9 65 Try.func103 rfl en_103 rfl (Um rfl) (fun S w => ?_)
 simp only [J7]
 refine Q5 <| Q0 <| Q9 rfl rfl (Um rfl) (QN rfl) <| Ug rfl rfl rfl <| Q4 <| Q3 <| Q5 <| Q5 ?_
 refine QS (fun (v1 : Bool) => ⟨[(1, .v (.one (.ptr 0 0))), (21, .v (.one (Uy v1)))], [(0, .cells 87 (UA a0))], [], 1, 65, []⟩) (fun (v1 : Bool) => (cond v1
     (some false)
     (Option.bind (QV (m103_l0 a0) J2 0) (Sum.elim (fun (o3 : Unit) => some true) (fun o => some o)))) = some r) ?_ ?_
 refine Qb h0 (fun w1_ h1 h0 => ?_)
 refine Q0 <| Ue rfl rfl rfl (Q1 KS rfl) <| Ue rfl rfl rfl (Q6 QZ rfl rfl rfl) <| Ue rfl rfl rfl (Q7 rfl rfl rfl) <| Uf rfl rfl rfl ?_
 refine QG (d := 8) (c := (decide (a0.c < 0))) rfl (fun c2 => ?_) (fun c2 => ?_)
 replace h1 := Qk c2 h1
 refine Q8 rfl rfl <| Q8 rfl rfl <| Q8 rfl rfl <| Ue rfl rfl rfl (Qh rfl rfl) <| Uf rfl rfl rfl <| Q8 rfl rfl <| Q8 rfl rfl <| Q8 rfl rfl <| Q8 rfl rfl <| Q8 rfl rfl <| Q8 rfl rfl <| Q8 rfl rfl <| Ue rfl rfl rfl (Qh rfl rfl) <| Q4 ?_
 have e := Uc h1; subst e
 exact Qc true (Ub (Nat.zero_le _) rfl rfl rfl rfl rfl) h0
 replace h1 := Ql c2 h1
 refine Ue rfl rfl rfl (Q1 KS rfl) <| Ue rfl rfl rfl (Q6 QZ rfl rfl rfl) <| Ue rfl rfl rfl (Q7 rfl rfl rfl) <| Ue rfl rfl rfl (Qd rfl rfl) <| Uf rfl rfl rfl ?_
 refine QG (d := 13) (c := (decide (100 < a0.c))) rfl (fun c3 => ?_) (fun c3 => ?_)
 replace h1 := Qk c3 h1
 refine Q8 rfl rfl <| Q8 rfl rfl <| Q8 rfl rfl <| Q8 rfl rfl <| Q8 rfl rfl <| Q8 rfl rfl <| Q8 rfl rfl <| Ue rfl rfl rfl (Qh rfl rfl) <| Q4 ?_
 have e := Uc h1; subst e
 exact Qc true (Ub (Nat.zero_le _) rfl rfl rfl rfl rfl) h0
 replace h1 := Ql c3 h1
 refine Ue rfl rfl rfl (Q1 KS rfl) <| Ue rfl rfl rfl (Q6 QZ rfl rfl rfl) <| Ue rfl rfl rfl (Q7 rfl rfl rfl) <| Uf rfl rfl rfl ?_
 refine QG (d := 17) (c := (decide (0 < a0.c))) rfl (fun c4 => ?_) (fun c4 => ?_)
 replace h1 := Qk c4 h1
 refine Ue rfl rfl rfl (QK (a0 : Lvl) Kg rfl rfl) ?_
 refine Qb h1 (fun y5 h2 h1 => ?_)
 have hc6 : CallM Try.prog 108 [.agg (UA a0)] ⟨[(0, .cells 87 (UA a0))], [], 1⟩ (QD [.one (Uy y5)]) ⟨[(0, .cells 87 (UA a0))], [], 2⟩ := by
  refine QT ⟨[(2, .v (.one (Uy y5)))], [(0, .cells 87 (UA a0))], [], 2, 7, []⟩ rfl rfl en_108 (Um rfl) rfl (Qz rfl .nil) (fun w0 M V0 Q hv2 hQ2 => ?_)
  simp only [J7]
  refine Q5 <| Q0 <| Q9 rfl rfl (Um rfl) (QN rfl) <| Ug rfl rfl rfl <| Q4 <| Q3 <| Q5 <| Q0 <| Ue rfl rfl rfl (Q1 Zk rfl) <| Ue rfl rfl rfl (Q6 Gt rfl rfl rfl) <| Ue rfl rfl rfl (YQ rfl) ?_
  refine Qb h2 (fun x7 hx7 h2 => ?_)
  refine Q9 rfl rfl (Um rfl) (J4 (hp1' := [(1, .cells 87 (UA a0))]) (tk1' := []) (hpF := [(0, .cells 87 (UA a0))]) (tkF := []) (res2 := QD [.one (Uy x7)]) (nx2 := 2) [1] rfl rfl (m111f0_ok a0.vs a0 x7 hx7) rfl rfl (Uj rfl rfl Uh) rfl rfl (Ut rfl Us) Up (hA rfl) Un rfl rfl rfl rfl rfl (UG rfl) rfl rfl rfl rfl) <| Ug rfl rfl rfl <| Q4 <| Q3 <| QA ?_
  have e := Uc h2; subst e
  exact hQ2 _ _ _ (.inr rfl) rfl (Ub (Nat.le_trans hv2 (Um rfl)) rfl rfl rfl rfl rfl)
 refine Q9 rfl rfl (Um rfl) (JM rfl rfl rfl hc6 rfl (hA rfl) Un) <| Ue rfl rfl rfl (Qh rfl rfl) <| Ue rfl rfl rfl (Qd rfl rfl) <| Q4 ?_
 have e := Uc h1; subst e
 exact Qc y5 (Ub (Nat.zero_le _) rfl rfl rfl rfl rfl) h0
 replace h1 := Ql c4 h1
 refine Q8 rfl rfl <| Q8 rfl rfl <| Ue rfl rfl rfl (Qd rfl rfl) <| Ue rfl rfl rfl (Qd rfl rfl) <| Q4 ?_
 have e := Uc h1; subst e
 exact Qc false (Ub (Nat.zero_le _) rfl rfl rfl rfl rfl) h0
 intro v1 h0
 refine Q3 ?_
 refine Qg (b := v1) rfl (fun c8 => ?_) (fun c8 => ?_)
 replace h0 := Qk c8 h0
 refine Q5 <| Q0 <| Ug rfl rfl rfl <| Q4 <| Q3 <| QA ?_
 have e := Uc h0; subst e
 exact QL (fun _ _ h => h) rfl (Qz rfl .nil) (.cons (.one (.d _)) .nil)
 replace h0 := Ql c8 h0
 refine Qj <| Q3 <| Q5 <| Q5 <| Q0 <| Ue rfl rfl rfl (Q1 Zk rfl) <| Ue rfl rfl rfl (Q6 Gt rfl rfl rfl) <| Ue rfl rfl rfl (Qx (α := UL) ZC rfl (.d _)) <| Uf rfl rfl rfl <| Q4 <| Q3 <| Qf ?_
 refine QR 0 (fun (o9 : Unit) => ⟨[], [(0, .cells 87 (UA a0))], [], 1, 65, []⟩) (fun (o9 : Unit) => (some true) = some r) ?_ ?_
 refine Qb h0 (fun o10 hl1 h0 => ?_)
 refine QQ (m103_l0 a0) (fun s1 => ⟨[(1, .v (.one (.ptr 0 0))), (23, .v (.one (Uv a0.vs))), (24, .v (.one (Ux (a0.vs.length : Int)))), (25, .v (.one (Ux s1)))], [(0, .cells 87 (UA a0))], [], 1, 65, []⟩) 0 o10 (Ub (Nat.zero_le _) rfl rfl rfl rfl rfl) hl1 (fun s1 n1 oo1 h1 ho1 => ?_)
 unfold m103_l0 at h1
 refine Q5 <| Q0 <| Ue rfl rfl rfl (Q7 rfl rfl rfl) <| Q4 <| Q3 <| Q5 ?_
 refine Qg (b := (decide (s1 < (a0.vs.length : Int)))) rfl (fun c11 => ?_) (fun c11 => ?_)
 replace h1 := Qk c11 h1
 refine Qj <| Q3 <| Q5 <| Qf <| Q5 <| Q0 <| Uf rfl rfl rfl ?_
 refine Qb h1 (fun x12 hx12 h1 => ?_)
 refine Ue rfl rfl rfl (Qq (α := UL) ZC rfl (.d _) rfl hx12) <| Ue rfl rfl rfl (Qv (x12 : UL) KK rfl) <| Q9 rfl rfl (Um rfl) (Qm z_124 rfl) <| Ug rfl rfl rfl <| Qy rfl rfl (QC (x12 : UL) KK rfl rfl rfl rfl rfl) <| Q4 <| Q3 <| Q5 ?_
 refine QS (fun (v13 : Bool) => ⟨[(1, .v (.one (.ptr 0 0))), (23, .v (.one (Uv a0.vs))), (24, .v (.one (Ux (a0.vs.length : Int)))), (25, .v (.one (Ux s1))), (63, .v (.one (Uy v13)))], [(0, .cells 87 (UA a0)), (1, .cells 124 (UA x12))], [], 2, 65, []⟩) (fun (v13 : Bool) => (cond v13
     (some (.done (.inr false)))
     (some (.next (Jk (s1 + 1))))) = some oo1) ?_ ?_
 refine Qb h1 (fun w2_ h2 h1 => ?_)
 refine Jv [] [] YI (by kernel_rfl) (by kernel_rfl) (by kernel_rfl) ?_
 refine RunA.rd rfl rfl rfl (Q2 (Q1 KH rfl)) rfl <| RunA.rd rfl rfl rfl (Q2 (Q6 QZ rfl rfl rfl)) rfl <| RunA.rd rfl rfl rfl (Q2 (Q7 rfl rfl rfl)) rfl ?_
 refine Y0 (c := (decide (x12.1 < (-65536)))) rfl rfl rfl (Q2 (Qt rfl)) rfl (fun c14 => ?_) (fun c14 => ?_)
 replace h2 := Qk c14 h2
 refine RunA.no rfl rfl rfl rfl <| RunA.no rfl rfl rfl rfl <| RunA.no rfl rfl rfl rfl <| RunA.rd rfl rfl rfl (Q2 (Qh rfl rfl)) rfl <| RunA.rd rfl rfl rfl (Q2 (Qt rfl)) rfl <| RunA.no rfl rfl rfl rfl <| RunA.no rfl rfl rfl rfl <| RunA.no rfl rfl rfl rfl <| RunA.rd rfl rfl rfl (Q2 (Qh rfl rfl)) rfl <| RunA.rd rfl rfl rfl (Q2 (Qt rfl)) rfl <| RunA.no rfl rfl rfl rfl <| RunA.no rfl rfl rfl rfl <| RunA.no rfl rfl rfl rfl <| RunA.rd rfl rfl rfl (Q2 (Qh rfl rfl)) rfl ?_
 refine RunA.rd rfl rfl rfl (Q2 (Qt rfl)) rfl <| RunA.no rfl rfl rfl rfl <| RunA.no rfl rfl rfl rfl <| RunA.no rfl rfl rfl rfl <| RunA.no rfl rfl rfl rfl <| RunA.no rfl rfl rfl rfl <| RunA.no rfl rfl rfl rfl <| RunA.no rfl rfl rfl rfl <| RunA.no rfl rfl rfl rfl <| RunA.no rfl rfl rfl rfl <| RunA.no rfl rfl rfl rfl <| RunA.no rfl rfl rfl rfl <| RunA.no rfl rfl rfl rfl <| RunA.no rfl rfl rfl rfl ?_
 refine RunA.no rfl rfl rfl rfl <| RunA.rd rfl rfl rfl (Q2 (Qh rfl rfl)) rfl ?_
 refine RunA.nil ⟨?ex, _, _, rfl, ?_⟩
 case ex => exact trivial
 have e := Uc h2; subst e
 exact Qc true (Ub (Nat.zero_le _) rfl rfl rfl rfl rfl) h1
 replace h2 := Ql c14 h2
 refine RunA.rd rfl rfl rfl (Q2 (Q1 KH rfl)) rfl <| RunA.rd rfl rfl rfl (Q2 (Q6 QZ rfl rfl rfl)) rfl <| RunA.rd rfl rfl rfl (Q2 (Q7 rfl rfl rfl)) rfl <| RunA.rd rfl rfl rfl (Q2 (Qd rfl rfl)) rfl ?_
 refine Y0 (c := (decide (7 < x12.1))) rfl rfl rfl (Q2 (Qt rfl)) rfl (fun c15 => ?_) (fun c15 => ?_)
 replace h2 := Qk c15 h2
 refine RunA.no rfl rfl rfl rfl <| RunA.no rfl rfl rfl rfl <| RunA.no rfl rfl rfl rfl <| RunA.rd rfl rfl rfl (Q2 (Qh rfl rfl)) rfl <| RunA.rd rfl rfl rfl (Q2 (Qt rfl)) rfl <| RunA.no rfl rfl rfl rfl <| RunA.no rfl rfl rfl rfl <| RunA.no rfl rfl rfl rfl <| RunA.rd rfl rfl rfl (Q2 (Qh rfl rfl)) rfl <| RunA.rd rfl rfl rfl (Q2 (Qt rfl)) rfl <| RunA.no rfl rfl rfl rfl <| RunA.no rfl rfl rfl rfl <| RunA.no rfl rfl rfl rfl <| RunA.no rfl rfl rfl rfl ?_
 refine RunA.no rfl rfl rfl rfl <| RunA.no rfl rfl rfl rfl <| RunA.no rfl rfl rfl rfl <| RunA.no rfl rfl rfl rfl <| RunA.no rfl rfl rfl rfl <| RunA.no rfl rfl rfl rfl <| RunA.no rfl rfl rfl rfl <| RunA.no rfl rfl rfl rfl <| RunA.no rfl rfl rfl rfl <| RunA.no rfl rfl rfl rfl <| RunA.rd rfl rfl rfl (Q2 (Qh rfl rfl)) rfl ?_
 refine RunA.nil ⟨?ex, _, _, rfl, ?_⟩
 case ex => exact trivial
 have e := Uc h2; subst e
 exact Qc true (Ub (Nat.zero_le _) rfl rfl rfl rfl rfl) h1
 replace h2 := Ql c15 h2
 refine RunA.rd rfl rfl rfl (Q2 (Q1 fo_124_1 rfl)) rfl <| RunA.rd rfl rfl rfl (Q2 (Q6 QZ rfl rfl rfl)) rfl <| RunA.rd rfl rfl rfl (Q2 (Q7 rfl rfl rfl)) rfl <| RunA.rd rfl rfl rfl (Q2 (Qd rfl rfl)) rfl ?_
 refine Y0 (c := (decide (x12.2 < 0))) rfl rfl rfl (Q2 (Qt rfl)) rfl (fun c16 => ?_) (fun c16 => ?_)
 replace h2 := Qk c16 h2
 refine RunA.no rfl rfl rfl rfl <| RunA.no rfl rfl rfl rfl <| RunA.no rfl rfl rfl rfl <| RunA.rd rfl rfl rfl (Q2 (Qh rfl rfl)) rfl <| RunA.rd rfl rfl rfl (Q2 (Qt rfl)) rfl <| RunA.no rfl rfl rfl rfl <| RunA.no rfl rfl rfl rfl <| RunA.no rfl rfl rfl rfl <| RunA.no rfl rfl rfl rfl <| RunA.no rfl rfl rfl rfl <| RunA.no rfl rfl rfl rfl <| RunA.no rfl rfl rfl rfl <| RunA.no rfl rfl rfl rfl <| RunA.no rfl rfl rfl rfl ?_
 refine RunA.no rfl rfl rfl rfl <| RunA.no rfl rfl rfl rfl <| RunA.no rfl rfl rfl rfl <| RunA.no rfl rfl rfl rfl <| RunA.no rfl rfl rfl rfl <| RunA.rd rfl rfl rfl (Q2 (Qh rfl rfl)) rfl ?_
 refine RunA.nil ⟨?ex, _, _, rfl, ?_⟩
 case ex => exact trivial
 have e := Uc h2; subst e
 exact Qc true (Ub (Nat.zero_le _) rfl rfl rfl rfl rfl) h1
 replace h2 := Ql c16 h2
 refine RunA.rd rfl rfl rfl (Q2 (Q1 fo_124_1 rfl)) rfl <| RunA.rd rfl rfl rfl (Q2 (Q6 QZ rfl rfl rfl)) rfl <| RunA.rd rfl rfl rfl (Q2 (Q7 rfl rfl rfl)) rfl <| RunA.rd rfl rfl rfl (Q2 (Qd rfl rfl)) rfl ?_
 refine Y0 (c := (decide (100 < x12.2))) rfl rfl rfl (Q2 (Qt rfl)) rfl (fun c17 => ?_) (fun c17 => ?_)
 replace h2 := Qk c17 h2
 refine RunA.no rfl rfl rfl rfl <| RunA.no rfl rfl rfl rfl <| RunA.no rfl rfl rfl rfl <| RunA.no rfl rfl rfl rfl <| RunA.no rfl rfl rfl rfl <| RunA.no rfl rfl rfl rfl <| RunA.no rfl rfl rfl rfl <| RunA.no rfl rfl rfl rfl <| RunA.no rfl rfl rfl rfl <| RunA.no rfl rfl rfl rfl <| RunA.no rfl rfl rfl rfl <| RunA.no rfl rfl rfl rfl <| RunA.no rfl rfl rfl rfl <| RunA.no rfl rfl rfl rfl ?_
 refine RunA.rd rfl rfl rfl (Q2 (Qh rfl rfl)) rfl ?_
 refine RunA.nil ⟨?ex, _, _, rfl, ?_⟩
 case ex => exact trivial
 have e := Uc h2; subst e
 exact Qc true (Ub (Nat.zero_le _) rfl rfl rfl rfl rfl) h1
 replace h2 := Ql c17 h2
 refine RunA.rd rfl rfl rfl (Q2 (Qt rfl)) rfl <| RunA.rd rfl rfl rfl (Q2 (Q7 rfl rfl rfl)) rfl ?_
 refine Y0 (c := (decide (0 < s1))) rfl rfl rfl (Q2 (Qt rfl)) rfl (fun c18 => ?_) (fun c18 => ?_)
 replace h2 := Qk c18 h2
 refine RunA.rd rfl rfl rfl (Q2 (Q1 Zk rfl)) rfl <| RunA.rd rfl rfl rfl (Q2 (Q6 Gt rfl rfl rfl)) rfl <| RunA.rd rfl rfl rfl (Q2 (Qt rfl)) rfl <| RunA.rd rfl rfl rfl (Q2 (Q7 rfl rfl rfl)) rfl ?_
 refine Qb h2 (fun x19 hx19 h2 => ?_)
 refine RunA.rd rfl rfl rfl (Q2 (Qq (α := UL) ZC rfl (.d _) rfl hx19)) rfl <| RunA.rd rfl rfl rfl (Q2 (JA KH rfl)) rfl <| RunA.rd rfl rfl rfl (Q2 (Js QZ rfl rfl)) rfl <| RunA.rd rfl rfl rfl (Q2 (Q1 KH rfl)) rfl <| RunA.rd rfl rfl rfl (Q2 (Q6 QZ rfl rfl rfl)) rfl <| RunA.rd rfl rfl rfl (Q2 (Q7 rfl rfl rfl)) rfl <| RunA.rd rfl rfl rfl (Q2 (Qh rfl rfl)) rfl <| RunA.rd rfl rfl rfl (Q2 (Qd rfl rfl)) rfl ?_
 refine RunA.nil ⟨?ex, _, _, rfl, ?_⟩
 case ex => exact trivial
 have e := Uc h2; subst e
 exact Qc (decide (x12.1 ≤ x19.1)) (Ub (Nat.zero_le _) rfl rfl rfl rfl rfl) h1
 replace h2 := Ql c18 h2
 refine RunA.no rfl rfl rfl rfl <| RunA.no rfl rfl rfl rfl <| RunA.no rfl rfl rfl rfl <| RunA.no rfl rfl rfl rfl <| RunA.no rfl rfl rfl rfl <| RunA.no rfl rfl rfl rfl <| RunA.no rfl rfl rfl rfl <| RunA.no rfl rfl rfl rfl <| RunA.no rfl rfl rfl rfl <| RunA.no rfl rfl rfl rfl <| RunA.rd rfl rfl rfl (Q2 (Qd rfl rfl)) rfl <| RunA.rd rfl rfl rfl (Q2 (Qd rfl rfl)) rfl ?_
 refine RunA.nil ⟨?ex, _, _, rfl, ?_⟩
 case ex => exact trivial
 have e := Uc h2; subst e
 exact Qc false (Ub (Nat.zero_le _) rfl rfl rfl rfl rfl) h1
 intro v13 h1
 refine Q3 ?_
 refine Qg (b := v13) rfl (fun c20 => ?_) (fun c20 => ?_)
 replace h1 := Qk c20 h1
 refine Q5 <| Q0 <| Ug rfl rfl rfl <| Q4 <| Q3 <| QA ?_
 have e := Uc h1; subst e
 have e_ : _ = _ := ho1
 subst e_
 try dsimp only [Sum.elim_inl, Sum.elim_inr] at h0
 have e := Uc h0; subst e
 exact QL (fun _ _ h => h) rfl (Qz rfl .nil) (.cons (.one (.d _)) .nil)
 replace h1 := Ql c20 h1
 refine Qj <| Qe <| Q3 <| Q0 <| Ue rfl rfl rfl (Q7 rfl rfl rfl) <| Uf rfl rfl rfl <| Q4 ?_
 have e := Uc h1; subst e
 refine QM (Jk (s1 + 1)) (Ub (Nat.zero_le _) rfl rfl rfl rfl rfl) ho1
 replace h1 := Ql c11 h1
 refine J1 <| Qn <| Qn ?_
 have e := Uc h1; subst e
 have e_ : _ = _ := ho1
 subst e_
 exact QP () (Ub (Nat.zero_le _) rfl rfl rfl rfl rfl) h0
 intro o9 h0
 refine QF <| Q3 <| Q5 <| Q0 <| Ug rfl rfl rfl <| Q4 <| Q3 <| QA ?_
 have e := Uc h0; subst e
 exact QL (fun _ _ h => h) rfl (Qz rfl .nil) (.cons (.one (.d _)) .nil)
end Go.Proofs.Ytafddfoefeploaa
