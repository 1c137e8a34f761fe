/- Part 3 of the proof: rules, mirrors and plain laws. The statement DependNeedsUpto is proved here: for every list of declarations and every list of names the law returns true, and the arguments read behind the call as they did before; condition: the arguments are of bulk at most 1048576 (the second form). -/
import Derived.Test.YtijcchddnnnmdaaK42
namespace Go.Proofs.Ytijcchddnnnmdaa
open Go.RowKit Go.Shelf
set_option linter.unusedSimpArgs false
set_option linter.unusedVariables false
theorem Ka : J5 Try.prog 42 0 = some 0 := by kernel_rfl
theorem ZE : J5 Try.prog 42 2 = some 2 := by kernel_rfl
theorem YE : J5 Try.prog 42 4 = some 4 := by kernel_rfl
theorem fo_152_4 : J5 Try.prog 152 4 = some 4 := by kernel_rfl
theorem Yx : Jp Try.prog 3 = some (false, 1) := by kernel_rfl
theorem JG : Jp Try.prog 9 = some (false, 1) := by kernel_rfl
theorem Gi : Jp Try.prog 23 = some (false, 1) := by kernel_rfl
theorem Y3 : Jp Try.prog 40 = some (false, 1) := by kernel_rfl
theorem Jh : Jp Try.prog 42 = some (true, 5) := by kernel_rfl
theorem K7 : Jp Try.prog 116 = some (false, 1) := by kernel_rfl
theorem ag_150 : Jp Try.prog 150 = some (false, 1) := by kernel_rfl
theorem ag_153 : Jp Try.prog 153 = some (true, 65) := by kernel_rfl
theorem ag_155 : Jp Try.prog 155 = some (false, 1) := by kernel_rfl
theorem QU : J6 Try.prog 23 = some (9, 1) := by kernel_rfl
theorem JH : J6 Try.prog 40 = some (42, 5) := by kernel_rfl
theorem XO : Js Try.prog 9 = some [.string ByteArray.empty] := by kernel_rfl
theorem z_23 : Js Try.prog 23 = some [.slice none 0 0] := by kernel_rfl
theorem XW : Js Try.prog 42 = some [.int .i64 0, .int .i64 0, .string ByteArray.empty, .slice none 0 0, .slice none 0 0] := by kernel_rfl
theorem z_116 : Js Try.prog 116 = some [.map none] := by kernel_rfl
theorem z_153 : Js Try.prog 153 = some [.bool false, .bool false, .int .i64 0, .int .i64 0, .int .i64 0, .bool false, .bool false, .int .i64 0, .int .i64 0, .int .i64 0, .bool false, .bool false, .int .i64 0, .int .i64 0, .int .i64 0, .bool false, .bool false, .int .i64 0, .int .i64 0, .int .i64 0, .bool false, .bool false, .int .i64 0, .int .i64 0, .int .i64 0, .bool false, .bool false, .int .i64 0, .int .i64 0, .int .i64 0, .bool false, .bool false, .int .i64 0, .int .i64 0, .int .i64 0, .bool false, .bool false, .int .i64 0, .int .i64 0, .int .i64 0, .bool false, .bool false, .int .i64 0, .int .i64 0, .int .i64 0, .bool false, .bool false, .int .i64 0, .int .i64 0, .int .i64 0, .bool false, .bool false, .int .i64 0, .int .i64 0, .int .i64 0, .bool false, .bool false, .int .i64 0, .int .i64 0, .int .i64 0, .bool false, .bool false, .int .i64 0, .int .i64 0, .int .i64 0] := by kernel_rfl
theorem z_155 : Js Try.prog 155 = some [.nilFunc] := by kernel_rfl
theorem Zh : Yt Try.prog 152 [(0, 1), (1, 1), (2, 1), (3, 1), (4, 1)] [.bool false, .bool false, .int .i64 0, .int .i64 0, .int .i64 0] := ⟨by kernel_rfl, by kernel_rfl⟩
theorem bd_153 : Yt Try.prog 153 [(0, 5), (5, 5), (10, 5), (15, 5), (20, 5), (25, 5), (30, 5), (35, 5), (40, 5), (45, 5), (50, 5), (55, 5), (60, 5)] [.bool false, .bool false, .int .i64 0, .int .i64 0, .int .i64 0, .bool false, .bool false, .int .i64 0, .int .i64 0, .int .i64 0, .bool false, .bool false, .int .i64 0, .int .i64 0, .int .i64 0, .bool false, .bool false, .int .i64 0, .int .i64 0, .int .i64 0, .bool false, .bool false, .int .i64 0, .int .i64 0, .int .i64 0, .bool false, .bool false, .int .i64 0, .int .i64 0, .int .i64 0, .bool false, .bool false, .int .i64 0, .int .i64 0, .int .i64 0, .bool false, .bool false, .int .i64 0, .int .i64 0, .int .i64 0, .bool false, .bool false, .int .i64 0, .int .i64 0, .int .i64 0, .bool false, .bool false, .int .i64 0, .int .i64 0, .int .i64 0, .bool false, .bool false, .int .i64 0, .int .i64 0, .int .i64 0, .bool false, .bool false, .int .i64 0, .int .i64 0, .int .i64 0, .bool false, .bool false, .int .i64 0, .int .i64 0, .int .i64 0] := ⟨by kernel_rfl, by kernel_rfl⟩
theorem ZF : Yj Try.prog 9 = some (1, 16) := by kernel_rfl
theorem arr_153 : Xq Try.prog 153 = some (13, 5) := by kernel_rfl
theorem Kw : Ge Try.prog 116 = some (false, .one (.d (.v (.bool false)))) := by kernel_rfl
theorem en_74 : J2 Try.prog 74 := enters_of Try.func74 (by kernel_rfl) rfl
theorem en_88 : J2 Try.prog 88 := enters_of Try.func88 (by kernel_rfl) rfl
theorem en_96 : J2 Try.prog 96 := enters_of Try.func96 (by kernel_rfl) rfl
theorem en_97 : J2 Try.prog 97 := enters_of Try.func97 (by kernel_rfl) rfl
theorem en_98 : J2 Try.prog 98 := enters_of Try.func98 (by kernel_rfl) rfl
noncomputable def JL : Code := (UA (UA (Uz (UA (Uz (Uz (Uz (bodyC Try.f74))))))))
noncomputable def JK : Code := (Uz (UA (Uz (UA (Uz (Uz (Uz (bodyC Try.f74))))))))
def Zn (a0 : Tm) (v9 : Int) (a1 : Int) (rc : Tm × Int × (Qj UN Bool) × (List UN) × Tm → Option (Bool × (Qj UN Bool) × (List UN))) (a4 : Tm) (s1 : Int × (Qj UN Bool) × (List UN)) : Option (LO (Int × (Qj UN Bool) × (List UN)) (((Qj UN Bool) × (List UN)) ⊕ ((Bool × (Qj UN Bool) × (List UN))))) :=
 cond (decide (s1.1 < (a0.kids.length : Int)))
   (Option.bind (Jg a0.kids s1.1) fun (x12 : Tm) =>
 Option.bind (cond (s1.1 == v9)
   (some (J1 (a1 + 1)))
   (some a1)) (fun (v13 : Int) => Option.bind (rc (x12, v13, s1.2.1, s1.2.2, a4)) fun (x14 : Bool × (Qj UN Bool) × (List UN)) =>
 cond (!x14.1)
   (some (.done (.inr (false, x14.2.1, x14.2.2))))
   (some (.next ((J1 (s1.1 + 1)), x14.2.1, x14.2.2)))))
   (some (.done (.inl (s1.2.1, s1.2.2))))
def Xs (rc : Tm × Int × (Qj UN Bool) × (List UN) × Tm → Option (Bool × (Qj UN Bool) × (List UN))) (a0 : Tm) (a1 : Int) (a2 : Qj UN Bool) (a3 : List UN) (a4 : Tm) : Option (Bool × (Qj UN Bool) × (List UN)) :=
 Option.bind (Option.bind (cond (a0.kind == 3)
   (some (!(Jl a2 a0.name)))
   (some false)) (fun (v4 : Bool) => cond v4
   (Qt (Nat.ble (a3.length + ([a0.name]).length) 1000000000)
 (some ((Y5 a2 a0.name true), (a3 ++ ([a0.name])))))
   (some (a2, a3)))) (fun (y1 : (Qj UN Bool) × (List UN)) => Option.bind (cond (decide (0 ≤ a0.kind))
   (some (decide (a0.kind < 13)))
   (some false)) (fun (v8 : Bool) => Option.bind (cond v8
   (Qt (cond (decide (0 ≤ a0.kind)) (Nat.blt a0.kind.toNat 13) false)
 (Option.bind (Jg ([(-1), (-1), (-1), (-1), (-1), 1, 1, 1, (-1), (-1), (-1), 2, (-1)] : List Int) a0.kind) fun (x12 : Int) =>
 some x12))
   (some (-1))) (fun (v9 : Int) => Option.bind (Qv (Zn a0 v9 a1 rc a4) QH (0, y1.1, y1.2)) (Sum.elim (fun (o10 : (Qj UN Bool) × (List UN)) => some (true, o10.1, o10.2)) (fun o => some o)))))
def Xt (rc : Tm × Int × (Qj UN Bool) × (List UN) × Tm → Option (Bool × (Qj UN Bool) × (List UN))) (u : Tm × Int × (Qj UN Bool) × (List UN) × Tm) : Option (Bool × (Qj UN Bool) × (List UN)) := Xs rc u.1 u.2.1 u.2.2.1 u.2.2.2.1 u.2.2.2.2
def m98f0 (a0 : Tm) (a1 : Int) (a2 : Qj UN Bool) (a3 : List UN) (a4 : Tm) : Option (Bool × (Qj UN Bool) × (List UN)) := JY Xt QH (a0, a1, a2, a3, a4)
set_option maxRecDepth 100000 in
set_option maxHeartbeats 8000000 in
theorem m98f0s_ok (rc : Tm × Int × (Qj UN Bool) × (List UN) × Tm → Option (Bool × (Qj UN Bool) × (List UN))) (H : ∀ (a0 : Tm) (a1 : Int) (a2 : Qj UN Bool) (a3 : List UN) (a4 : Tm) (r : Bool × (Qj UN Bool) × (List UN)), rc (a0, a1, a2, a3, a4) = some r → CallM Try.prog 98 [.agg (Uy a0), .one (Uv a1), .one (.ptr 0 0), .one (.ptr 8 0), .one (.ptr 9 0)] ⟨[(0, .cells 150 [.yld 1]), (1, .loop .ready none [(3, .v (.one (.ptr 3 0))), (4, .v (.one (.ptr 5 0))), (9, .v (.one (.fn 96 [(7, 0)])))] 31 #[10, 11] JL JK 2), (2, .obj (.deferred (some []))), (3, .cells 116 [.mp 4]), (4, .mp (QT a2.1) a2.2), (5, .cells 23 [Ux 6 a3]), (7, .cells 42 (Uy a4)), (8, .cells 153 [Uw true, Uw false, Uv 0, Uv 0, Uv (-1), Uw false, Uw false, Uv 0, Uv 0, Uv (-1), Uw false, Uw false, Uv 1, Uv 0, Uv (-1), Uw false, Uw true, Uv (-1), Uv 0, Uv (-1), Uw false, Uw false, Uv 0, Uv 2, Uv (-1), Uw false, Uw false, Uv 0, Uv 2, Uv 1, Uw false, Uw false, Uv 0, Uv 2, Uv 1, Uw false, Uw false, Uv 0, Uv 2, Uv 1, Uw false, Uw false, Uv 0, Uv 3, Uv (-1), Uw false, Uw false, Uv 0, Uv 1, Uv (-1), Uw false, Uw false, Uv 0, Uv 1, Uv (-1), Uw false, Uw false, Uv 0, Uv 3, Uv 2, Uw true, Uw false, Uv 0, Uv 0, Uv (-1)]), (9, .cells 155 [.fn 98 [(0, 0), (8, 0), (9, 0)]])], [(6, some ⟨9, 1, (Enc.encL a3).length, []⟩)], 10⟩ (Qy [.one (Uw r.1)]) ⟨[(0, .cells 150 [.yld 1]), (1, .loop .ready none [(3, .v (.one (.ptr 3 0))), (4, .v (.one (.ptr 5 0))), (9, .v (.one (.fn 96 [(7, 0)])))] 31 #[10, 11] JL JK 2), (2, .obj (.deferred (some []))), (3, .cells 116 [.mp 4]), (4, .mp (QT r.2.1.1) r.2.1.2), (5, .cells 23 [Ux 6 r.2.2]), (7, .cells 42 (Uy a4)), (8, .cells 153 [Uw true, Uw false, Uv 0, Uv 0, Uv (-1), Uw false, Uw false, Uv 0, Uv 0, Uv (-1), Uw false, Uw false, Uv 1, Uv 0, Uv (-1), Uw false, Uw true, Uv (-1), Uv 0, Uv (-1), Uw false, Uw false, Uv 0, Uv 2, Uv (-1), Uw false, Uw false, Uv 0, Uv 2, Uv 1, Uw false, Uw false, Uv 0, Uv 2, Uv 1, Uw false, Uw false, Uv 0, Uv 2, Uv 1, Uw false, Uw false, Uv 0, Uv 3, Uv (-1), Uw false, Uw false, Uv 0, Uv 1, Uv (-1), Uw false, Uw false, Uv 0, Uv 1, Uv (-1), Uw false, Uw false, Uv 0, Uv 3, Uv 2, Uw true, Uw false, Uv 0, Uv 0, Uv (-1)]), (9, .cells 155 [.fn 98 [(0, 0), (8, 0), (9, 0)]])], [(6, some ⟨9, 1, (Enc.encL r.2.2).length, []⟩)], 12⟩) (a0 : Tm) (a1 : Int) (a2 : Qj UN Bool) (a3 : List UN) (a4 : Tm) (r : Bool × (Qj UN Bool) × (List UN)) (h0 : Xs rc a0 a1 a2 a3 a4 = some r) : CallM Try.prog 98 [.agg (Uy a0), .one (Uv a1), .one (.ptr 0 0), .one (.ptr 8 0), .one (.ptr 9 0)] ⟨[(0, .cells 150 [.yld 1]), (1, .loop .ready none [(3, .v (.one (.ptr 3 0))), (4, .v (.one (.ptr 5 0))), (9, .v (.one (.fn 96 [(7, 0)])))] 31 #[10, 11] JL JK 2), (2, .obj (.deferred (some []))), (3, .cells 116 [.mp 4]), (4, .mp (QT a2.1) a2.2), (5, .cells 23 [Ux 6 a3]), (7, .cells 42 (Uy a4)), (8, .cells 153 [Uw true, Uw false, Uv 0, Uv 0, Uv (-1), Uw false, Uw false, Uv 0, Uv 0, Uv (-1), Uw false, Uw false, Uv 1, Uv 0, Uv (-1), Uw false, Uw true, Uv (-1), Uv 0, Uv (-1), Uw false, Uw false, Uv 0, Uv 2, Uv (-1), Uw false, Uw false, Uv 0, Uv 2, Uv 1, Uw false, Uw false, Uv 0, Uv 2, Uv 1, Uw false, Uw false, Uv 0, Uv 2, Uv 1, Uw false, Uw false, Uv 0, Uv 3, Uv (-1), Uw false, Uw false, Uv 0, Uv 1, Uv (-1), Uw false, Uw false, Uv 0, Uv 1, Uv (-1), Uw false, Uw false, Uv 0, Uv 3, Uv 2, Uw true, Uw false, Uv 0, Uv 0, Uv (-1)]), (9, .cells 155 [.fn 98 [(0, 0), (8, 0), (9, 0)]])], [(6, some ⟨9, 1, (Enc.encL a3).length, []⟩)], 10⟩ (Qy [.one (Uw r.1)]) ⟨[(0, .cells 150 [.yld 1]), (1, .loop .ready none [(3, .v (.one (.ptr 3 0))), (4, .v (.one (.ptr 5 0))), (9, .v (.one (.fn 96 [(7, 0)])))] 31 #[10, 11] JL JK 2), (2, .obj (.deferred (some []))), (3, .cells 116 [.mp 4]), (4, .mp (QT r.2.1.1) r.2.1.2), (5, .cells 23 [Ux 6 r.2.2]), (7, .cells 42 (Uy a4)), (8, .cells 153 [Uw true, Uw false, Uv 0, Uv 0, Uv (-1), Uw false, Uw false, Uv 0, Uv 0, Uv (-1), Uw false, Uw false, Uv 1, Uv 0, Uv (-1), Uw false, Uw true, Uv (-1), Uv 0, Uv (-1), Uw false, Uw false, Uv 0, Uv 2, Uv (-1), Uw false, Uw false, Uv 0, Uv 2, Uv 1, Uw false, Uw false, Uv 0, Uv 2, Uv 1, Uw false, Uw false, Uv 0, Uv 2, Uv 1, Uw false, Uw false, Uv 0, Uv 3, Uv (-1), Uw false, Uw false, Uv 0, Uv 1, Uv (-1), Uw false, Uw false, Uv 0, Uv 1, Uv (-1), Uw false, Uw false, Uv 0, Uv 3, Uv 2, Uw true, Uw false, Uv 0, Uv 0, Uv (-1)]), (9, .cells 155 [.fn 98 [(0, 0), (8, 0), (9, 0)]])], [(6, some ⟨9, 1, (Enc.encL r.2.2).length, []⟩)], 12⟩ := by
 unfold Xs at h0
 refine QP ⟨[(7, .v (.one (Uw r.1)))], [(0, .cells 150 [.yld 1]), (1, .loop .ready none [(3, .v (.one (.ptr 3 0))), (4, .v (.one (.ptr 5 0))), (9, .v (.one (.fn 96 [(7, 0)])))] 31 #[10, 11] JL JK 2), (2, .obj (.deferred (some []))), (3, .cells 116 [.mp 4]), (4, .mp (QT r.2.1.1) r.2.1.2), (5, .cells 23 [Ux 6 r.2.2]), (7, .cells 42 (Uy a4)), (8, .cells 153 [Uw true, Uw false, Uv 0, Uv 0, Uv (-1), Uw false, Uw false, Uv 0, Uv 0, Uv (-1), Uw false, Uw false, Uv 1, Uv 0, Uv (-1), Uw false, Uw true, Uv (-1), Uv 0, Uv (-1), Uw false, Uw false, Uv 0, Uv 2, Uv (-1), Uw false, Uw false, Uv 0, Uv 2, Uv 1, Uw false, Uw false, Uv 0, Uv 2, Uv 1, Uw false, Uw false, Uv 0, Uv 2, Uv 1, Uw false, Uw false, Uv 0, Uv 3, Uv (-1), Uw false, Uw false, Uv 0, Uv 1, Uv (-1), Uw false, Uw false, Uv 0, Uv 1, Uv (-1), Uw false, Uw false, Uv 0, Uv 3, Uv 2, Uw true, Uw false, Uv 0, Uv 0, Uv (-1)]), (9, .cells 155 [.fn 98 [(0, 0), (8, 0), (9, 0)]])], [(6, some ⟨9, 1, (Enc.encL r.2.2).length, []⟩)], 12, 50, []⟩ rfl rfl en_98 (Ug rfl) rfl (Qk rfl .nil) (fun w0 M V0 Q hv0 hQ0 => ?_)
 simp only [J8]
 refine Q2 <| Q0 <| Q9 rfl rfl (Ug rfl) (Jc rfl) <| U7 rfl rfl rfl <| Q3 <| Q1 <| Q2 <| Q2 <| Q0 <| U5 rfl rfl rfl (Q7 ag_150 rfl rfl rfl) <| U6 rfl rfl rfl <| U5 rfl rfl rfl (Qq Jh rfl rfl rfl rfl) ?_
 refine Qb h0 (fun y1 h1 h0 => ?_)
 have ha2 : ExecOK Try.prog (some 1) JL ⟨[(3, .v (.one (.ptr 3 0))), (4, .v (.one (.ptr 5 0))), (9, .v (.one (.fn 96 [(7, 0)]))), (10, .v (.one (Uv a1))), (11, .v (.agg (Uy a0)))], [(0, .cells 150 [.yld 1]), (1, .loop .ready none [(3, .v (.one (.ptr 3 0))), (4, .v (.one (.ptr 5 0))), (9, .v (.one (.fn 96 [(7, 0)])))] 31 #[10, 11] JL JK 2), (2, .obj (.deferred (some []))), (3, .cells 116 [.mp 4]), (4, .mp (QT a2.1) a2.2), (5, .cells 23 [Ux 6 a3]), (7, .cells 42 (Uy a4)), (8, .cells 153 [Uw true, Uw false, Uv 0, Uv 0, Uv (-1), Uw false, Uw false, Uv 0, Uv 0, Uv (-1), Uw false, Uw false, Uv 1, Uv 0, Uv (-1), Uw false, Uw true, Uv (-1), Uv 0, Uv (-1), Uw false, Uw false, Uv 0, Uv 2, Uv (-1), Uw false, Uw false, Uv 0, Uv 2, Uv 1, Uw false, Uw false, Uv 0, Uv 2, Uv 1, Uw false, Uw false, Uv 0, Uv 2, Uv 1, Uw false, Uw false, Uv 0, Uv 3, Uv (-1), Uw false, Uw false, Uv 0, Uv 1, Uv (-1), Uw false, Uw false, Uv 0, Uv 1, Uv (-1), Uw false, Uw false, Uv 0, Uv 3, Uv 2, Uw true, Uw false, Uv 0, Uv 0, Uv (-1)]), (9, .cells 155 [.fn 98 [(0, 0), (8, 0), (9, 0)]]), (10, .cells 42 (Uy a0))], [(6, some ⟨9, 1, (Enc.encL a3).length, []⟩)], 11, 31, []⟩ .normal ⟨[(3, .v (.one (.ptr 3 0))), (4, .v (.one (.ptr 5 0))), (6, .v (.one (.ptr 11 0)))], [(0, .cells 150 [.yld 1]), (1, .loop .ready none [(3, .v (.one (.ptr 3 0))), (4, .v (.one (.ptr 5 0))), (9, .v (.one (.fn 96 [(7, 0)])))] 31 #[10, 11] JL JK 2), (2, .obj (.deferred (some []))), (3, .cells 116 [.mp 4]), (4, .mp (QT a2.1) a2.2), (5, .cells 23 [Ux 6 a3]), (7, .cells 42 (Uy a4)), (8, .cells 153 [Uw true, Uw false, Uv 0, Uv 0, Uv (-1), Uw false, Uw false, Uv 0, Uv 0, Uv (-1), Uw false, Uw false, Uv 1, Uv 0, Uv (-1), Uw false, Uw true, Uv (-1), Uv 0, Uv (-1), Uw false, Uw false, Uv 0, Uv 2, Uv (-1), Uw false, Uw false, Uv 0, Uv 2, Uv 1, Uw false, Uw false, Uv 0, Uv 2, Uv 1, Uw false, Uw false, Uv 0, Uv 2, Uv 1, Uw false, Uw false, Uv 0, Uv 3, Uv (-1), Uw false, Uw false, Uv 0, Uv 1, Uv (-1), Uw false, Uw false, Uv 0, Uv 1, Uv (-1), Uw false, Uw false, Uv 0, Uv 3, Uv 2, Uw true, Uw false, Uv 0, Uv 0, Uv (-1)]), (9, .cells 155 [.fn 98 [(0, 0), (8, 0), (9, 0)]]), (10, .cells 42 (Uy a0)), (11, .cells 42 (Uy a0))], [(6, some ⟨9, 1, (Enc.encL a3).length, []⟩)], 12, 31, []⟩ := by
  refine Yv (fun w0 M V0 ro n Q hv1 hro1 hQn1 => ?_)
  refine Q0 <| Q9 rfl rfl (Ug rfl) (QC XW rfl) <| QL rfl rfl (Qw Jh rfl rfl rfl rfl (Ug rfl) rfl) <| Q3 ?_
  exact KH hQn1 (Qf (U1 rfl (U1 rfl (U1 rfl U0))) (Um rfl (Um rfl (Um rfl (Um rfl (Um rfl (Um rfl (Um rfl (Um rfl (Um rfl (Um rfl (Um rfl Ul))))))))))) (Ui rfl Uh) rfl (Nat.le_trans hv1 (Ug rfl)) rfl rfl rfl (UE rfl rfl (UE rfl rfl (UE rfl rfl (UE rfl rfl (UC rfl (UE rfl rfl (UE rfl rfl (UE rfl rfl (UE rfl rfl (UE rfl rfl (UE rfl rfl UB))))))))))) rfl rfl)
 have hb3 : ExecOK Try.prog (some 1) JK ⟨[(3, .v (.one (.ptr 3 0))), (4, .v (.one (.ptr 5 0))), (6, .v (.one (.ptr 11 0)))], [(0, .cells 150 [.yld 1]), (1, .loop .busy none [(3, .v (.one (.ptr 3 0))), (4, .v (.one (.ptr 5 0))), (9, .v (.one (.fn 96 [(7, 0)])))] 31 #[10, 11] JL JK 2), (2, .obj (.deferred (some []))), (3, .cells 116 [.mp 4]), (4, .mp (QT a2.1) a2.2), (5, .cells 23 [Ux 6 a3]), (7, .cells 42 (Uy a4)), (8, .cells 153 [Uw true, Uw false, Uv 0, Uv 0, Uv (-1), Uw false, Uw false, Uv 0, Uv 0, Uv (-1), Uw false, Uw false, Uv 1, Uv 0, Uv (-1), Uw false, Uw true, Uv (-1), Uv 0, Uv (-1), Uw false, Uw false, Uv 0, Uv 2, Uv (-1), Uw false, Uw false, Uv 0, Uv 2, Uv 1, Uw false, Uw false, Uv 0, Uv 2, Uv 1, Uw false, Uw false, Uv 0, Uv 2, Uv 1, Uw false, Uw false, Uv 0, Uv 3, Uv (-1), Uw false, Uw false, Uv 0, Uv 1, Uv (-1), Uw false, Uw false, Uv 0, Uv 1, Uv (-1), Uw false, Uw false, Uv 0, Uv 3, Uv 2, Uw true, Uw false, Uv 0, Uv 0, Uv (-1)]), (9, .cells 155 [.fn 98 [(0, 0), (8, 0), (9, 0)]]), (10, .cells 42 (Uy a0)), (11, .cells 42 (Uy a0))], [(6, some ⟨9, 1, (Enc.encL a3).length, []⟩)], 12, 31, []⟩ .normal ⟨[], [(0, .cells 150 [.yld 1]), (1, .loop .busy none [(3, .v (.one (.ptr 3 0))), (4, .v (.one (.ptr 5 0))), (9, .v (.one (.fn 96 [(7, 0)])))] 31 #[10, 11] JL JK 2), (2, .obj (.deferred (some []))), (3, .cells 116 [.mp 4]), (4, .mp (QT y1.1.1) y1.1.2), (5, .cells 23 [Ux 6 y1.2]), (7, .cells 42 (Uy a4)), (8, .cells 153 [Uw true, Uw false, Uv 0, Uv 0, Uv (-1), Uw false, Uw false, Uv 0, Uv 0, Uv (-1), Uw false, Uw false, Uv 1, Uv 0, Uv (-1), Uw false, Uw true, Uv (-1), Uv 0, Uv (-1), Uw false, Uw false, Uv 0, Uv 2, Uv (-1), Uw false, Uw false, Uv 0, Uv 2, Uv 1, Uw false, Uw false, Uv 0, Uv 2, Uv 1, Uw false, Uw false, Uv 0, Uv 2, Uv 1, Uw false, Uw false, Uv 0, Uv 3, Uv (-1), Uw false, Uw false, Uv 0, Uv 1, Uv (-1), Uw false, Uw false, Uv 0, Uv 1, Uv (-1), Uw false, Uw false, Uv 0, Uv 3, Uv 2, Uw true, Uw false, Uv 0, Uv 0, Uv (-1)]), (9, .cells 155 [.fn 98 [(0, 0), (8, 0), (9, 0)]]), (10, .cells 42 (Uy a0))], [(6, some ⟨9, 1, (Enc.encL y1.2).length, []⟩)], 12, 31, []⟩ := by
  refine Yv (fun w0 M V0 ro n Q hv1 hro1 hQn1 => ?_)
  refine Qc <| Q2 ?_
  refine Ja (fun (v4 : Bool) => ⟨[(3, .v (.one (.ptr 3 0))), (4, .v (.one (.ptr 5 0))), (6, .v (.one (.ptr 11 0))), (21, .v (.one (Uw v4)))], [(0, .cells 150 [.yld 1]), (1, .loop .busy none [(3, .v (.one (.ptr 3 0))), (4, .v (.one (.ptr 5 0))), (9, .v (.one (.fn 96 [(7, 0)])))] 31 #[10, 11] JL JK 2), (2, .obj (.deferred (some []))), (3, .cells 116 [.mp 4]), (4, .mp (QT a2.1) a2.2), (5, .cells 23 [Ux 6 a3]), (7, .cells 42 (Uy a4)), (8, .cells 153 [Uw true, Uw false, Uv 0, Uv 0, Uv (-1), Uw false, Uw false, Uv 0, Uv 0, Uv (-1), Uw false, Uw false, Uv 1, Uv 0, Uv (-1), Uw false, Uw true, Uv (-1), Uv 0, Uv (-1), Uw false, Uw false, Uv 0, Uv 2, Uv (-1), Uw false, Uw false, Uv 0, Uv 2, Uv 1, Uw false, Uw false, Uv 0, Uv 2, Uv 1, Uw false, Uw false, Uv 0, Uv 2, Uv 1, Uw false, Uw false, Uv 0, Uv 3, Uv (-1), Uw false, Uw false, Uv 0, Uv 1, Uv (-1), Uw false, Uw false, Uv 0, Uv 1, Uv (-1), Uw false, Uw false, Uv 0, Uv 3, Uv 2, Uw true, Uw false, Uv 0, Uv 0, Uv (-1)]), (9, .cells 155 [.fn 98 [(0, 0), (8, 0), (9, 0)]]), (10, .cells 42 (Uy a0)), (11, .cells 42 (Uy a0))], [(6, some ⟨9, 1, (Enc.encL a3).length, []⟩)], 12, 31, []⟩) (fun (v4 : Bool) => (cond v4
      (Qt (Nat.ble (a3.length + ([a0.name]).length) 1000000000)
    (some ((Y5 a2 a0.name true), (a3 ++ ([a0.name])))))
      (some (a2, a3))) = some y1) ?_ ?_
  refine Qb h1 (fun w2_ h2 h1 => ?_)
  refine Q0 <| U5 rfl rfl rfl (Q4 Ka rfl) <| U5 rfl rfl rfl (Q7 Yx rfl rfl rfl) <| U5 rfl rfl rfl (Q5 rfl rfl rfl) <| U6 rfl rfl rfl ?_
  refine QV (d := 15) (c := (a0.kind == 3)) rfl (fun c5 => ?_) (fun c5 => ?_)
  replace h2 := Qm c5 h2
  refine U5 rfl rfl rfl (Q7 K7 rfl rfl rfl) <| U5 rfl rfl rfl (Q4 ZE rfl) <| U5 rfl rfl rfl (Q7 JG rfl rfl rfl) <| U5 rfl rfl rfl (RO.lookupGF (M := a2) (k := a0.name) Kw zok_bool rfl rfl rfl) <| U5 rfl rfl rfl (J9 rfl) <| U5 rfl rfl rfl (Qo rfl rfl) <| Q3 ?_
  have e := U3 h2; subst e
  exact Qr (!(Jl a2 a0.name)) (Qf (U1 rfl (U1 rfl (U1 rfl (U1 rfl U0)))) (Um rfl (Um rfl (Um rfl (Um rfl (Um rfl (Um rfl (Um rfl (Um rfl (Um rfl (Um rfl (Um rfl Ul))))))))))) (Ui rfl Uh) rfl (Nat.le_trans hv1 (Ug rfl)) rfl rfl rfl (UE rfl rfl (UE rfl rfl (UE rfl rfl (UE rfl rfl (UC rfl (UE rfl rfl (UE rfl rfl (UE rfl rfl (UE rfl rfl (UE rfl rfl (UE rfl rfl UB))))))))))) rfl rfl) h1
  replace h2 := Qn c5 h2
  refine Q8 rfl rfl <| Q8 rfl rfl <| Q8 rfl rfl <| Q8 rfl rfl <| Q8 rfl rfl <| U5 rfl rfl rfl (QG rfl rfl) <| Q3 ?_
  have e := U3 h2; subst e
  exact Qr false (Qf (U1 rfl (U1 rfl (U1 rfl (U1 rfl U0)))) (Um rfl (Um rfl (Um rfl (Um rfl (Um rfl (Um rfl (Um rfl (Um rfl (Um rfl (Um rfl (Um rfl Ul))))))))))) (Ui rfl Uh) rfl (Nat.le_trans hv1 (Ug rfl)) rfl rfl rfl (UE rfl rfl (UE rfl rfl (UE rfl rfl (UE rfl rfl (UC rfl (UE rfl rfl (UE rfl rfl (UE rfl rfl (UE rfl rfl (UE rfl rfl (UE rfl rfl UB))))))))))) rfl rfl) h1
  intro v4 h1
  refine Q1 ?_
  refine Qe (b := v4) rfl (fun c6 => ?_) (fun c6 => ?_)
  replace h1 := Qm c6 h1
  refine Q2 <| Q0 <| U5 rfl rfl rfl (Q7 K7 rfl rfl rfl) <| U5 rfl rfl rfl (Q4 ZE rfl) <| U5 rfl rfl rfl (Q7 JG rfl rfl rfl) <| QL rfl rfl (JW (M := a2) (k := a0.name) (v := true) Kw rfl rfl rfl rfl rfl) <| Q3 <| Q1 <| Q0 <| U5 rfl rfl rfl (Q7 Gi rfl rfl rfl) <| U5 rfl rfl rfl (Q4 ZE rfl) <| U5 rfl rfl rfl (Q7 JG rfl rfl rfl) <| Q9 rfl rfl (Ug rfl) (QZ (α := UN) (a0.name) QU XO rfl rfl (Ug rfl) (Ug rfl) rfl rfl (.cons (.d _) .nil) rfl) ?_
  refine QQ h1 (fun g7 h1 => ?_)
  refine Q9 rfl rfl (Ug rfl) (QO (α := UN) QU ZF rfl rfl rfl rfl rfl (.app _ _) g7) <| QL rfl rfl (Qw Gi rfl rfl rfl rfl (Ug rfl) rfl) <| Q3 <| Qh ?_
  have e := U3 h1; subst e
  exact KH hQn1 (Qf U0 (Um rfl (Um rfl (Um rfl (Um rfl (Um rfl (Um rfl (Um rfl (Um rfl (Um rfl (Um rfl Ul)))))))))) (Ui rfl Uh) rfl (Nat.le_trans hv1 (Ug rfl)) rfl rfl rfl (UE rfl rfl (UE rfl rfl (UE rfl rfl (UE rfl rfl (UC rfl (UE rfl rfl (UE rfl rfl (UE rfl rfl (UE rfl rfl (UE rfl rfl UB)))))))))) rfl rfl)
  replace h1 := Qn c6 h1
  refine Qg <| Qh ?_
  have e := U3 h1; subst e
  exact KH hQn1 (Qf U0 (Um rfl (Um rfl (Um rfl (Um rfl (Um rfl (Um rfl (Um rfl (Um rfl (Um rfl (Um rfl Ul)))))))))) (Ui rfl Uh) rfl (Nat.le_trans hv1 (Ug rfl)) rfl rfl rfl (UE rfl rfl (UE rfl rfl (UE rfl rfl (UE rfl rfl (UC rfl (UE rfl rfl (UE rfl rfl (UE rfl rfl (UE rfl rfl (UE rfl rfl UB)))))))))) rfl rfl)
 refine Q9 rfl rfl (Ug rfl) (OpOK.yield (jump := none) rfl rfl rfl rfl rfl (Yw ha2 (fun E hv => (Qf (U1 rfl (U1 rfl (U1 rfl (U1 rfl (U1 rfl U0))))) (Um rfl (Um rfl (Um rfl (Um rfl (Um rfl (Um rfl (Um rfl (Um rfl (Um rfl (Um rfl Ul)))))))))) (Ui rfl Uh) rfl (Nat.le_trans hv (Ug rfl)) rfl rfl rfl (UE rfl rfl (UE rfl rfl (UE rfl rfl (UE rfl rfl (UC rfl (UE rfl rfl (UE rfl rfl (UE rfl rfl (UE rfl rfl (UE rfl rfl UB)))))))))) rfl rfl))) rfl (Yw hb3 (fun E hv => (Qf (U1 rfl (U1 rfl (U1 rfl U0))) (Um rfl (Um rfl (Um rfl (Um rfl (Um rfl (Um rfl (Um rfl (Um rfl (Um rfl (Um rfl (Um rfl Ul))))))))))) (Ui rfl Uh) rfl (Nat.le_trans hv (Ug rfl)) rfl rfl rfl (UE rfl rfl (UE rfl rfl (UE rfl rfl (UE rfl rfl (UC rfl (UE rfl rfl (UE rfl rfl (UE rfl rfl (UE rfl rfl (UE rfl rfl (UE rfl rfl UB))))))))))) rfl rfl))) rfl rfl) ?_
 refine U5 rfl rfl rfl (J9 rfl) <| Q3 <| Q1 ?_
 refine Qe rfl (fun h => nomatch h) (fun _ => ?_)
 refine Qg <| Q1 <| Q2 <| Q0 <| U7 rfl rfl rfl <| Q3 <| Q1 <| Q2 <| Q2 ?_
 refine Ja (fun (v8 : Bool) => ⟨[(1, .v (.one (Uv a1))), (3, .v (.one (.ptr 8 0))), (4, .v (.one (.ptr 9 0))), (5, .v (.one (.ptr 10 0))), (8, .v (.one (Uv (-1)))), (24, .v (.one (Uw v8)))], [(0, .cells 150 [.yld 1]), (1, .loop .ready none [(3, .v (.one (.ptr 3 0))), (4, .v (.one (.ptr 5 0))), (9, .v (.one (.fn 96 [(7, 0)])))] 31 #[10, 11] JL JK 2), (2, .obj (.deferred (some []))), (3, .cells 116 [.mp 4]), (4, .mp (QT y1.1.1) y1.1.2), (5, .cells 23 [Ux 6 y1.2]), (7, .cells 42 (Uy a4)), (8, .cells 153 [Uw true, Uw false, Uv 0, Uv 0, Uv (-1), Uw false, Uw false, Uv 0, Uv 0, Uv (-1), Uw false, Uw false, Uv 1, Uv 0, Uv (-1), Uw false, Uw true, Uv (-1), Uv 0, Uv (-1), Uw false, Uw false, Uv 0, Uv 2, Uv (-1), Uw false, Uw false, Uv 0, Uv 2, Uv 1, Uw false, Uw false, Uv 0, Uv 2, Uv 1, Uw false, Uw false, Uv 0, Uv 2, Uv 1, Uw false, Uw false, Uv 0, Uv 3, Uv (-1), Uw false, Uw false, Uv 0, Uv 1, Uv (-1), Uw false, Uw false, Uv 0, Uv 1, Uv (-1), Uw false, Uw false, Uv 0, Uv 3, Uv 2, Uw true, Uw false, Uv 0, Uv 0, Uv (-1)]), (9, .cells 155 [.fn 98 [(0, 0), (8, 0), (9, 0)]]), (10, .cells 42 (Uy a0))], [(6, some ⟨9, 1, (Enc.encL y1.2).length, []⟩)], 12, 50, []⟩) (fun (v8 : Bool) => (Option.bind (cond v8
     (Qt (cond (decide (0 ≤ a0.kind)) (Nat.blt a0.kind.toNat 13) false)
   (Option.bind (Jg ([(-1), (-1), (-1), (-1), (-1), 1, 1, 1, (-1), (-1), (-1), 2, (-1)] : List Int) a0.kind) fun (x12 : Int) =>
   some x12))
     (some (-1))) (fun (v9 : Int) => Option.bind (Qv (Zn a0 v9 a1 rc a4) QH (0, y1.1, y1.2)) (Sum.elim (fun (o10 : (Qj UN Bool) × (List UN)) => some (true, o10.1, o10.2)) (fun o => some o)))) = some r) ?_ ?_
 refine Qb h0 (fun w1_ h1 h0 => ?_)
 refine Q0 <| U5 rfl rfl rfl (Q4 Ka rfl) <| U5 rfl rfl rfl (Q7 Yx rfl rfl rfl) <| U5 rfl rfl rfl (Q5 rfl rfl rfl) <| U6 rfl rfl rfl ?_
 refine QV (d := 20) (c := (decide (0 ≤ a0.kind))) rfl (fun c9 => ?_) (fun c9 => ?_)
 replace h1 := Qm c9 h1
 refine U5 rfl rfl rfl (Q4 Ka rfl) <| U5 rfl rfl rfl (Q7 Yx rfl rfl rfl) <| U5 rfl rfl rfl (Q5 rfl rfl rfl) <| U5 rfl rfl rfl (Qo rfl rfl) <| Q3 ?_
 have e := U3 h1; subst e
 exact Qr (decide (a0.kind < 13)) (Qf (U1 rfl (U1 rfl (U1 rfl (U1 rfl (U1 rfl (U1 rfl U0)))))) (Um rfl (Um rfl (Um rfl (Um rfl (Um rfl (Um rfl (Um rfl (Um rfl (Um rfl (Um rfl Ul)))))))))) (Ui rfl Uh) rfl (Nat.le_trans hv0 (Ug rfl)) rfl rfl rfl (UE rfl rfl (UE rfl rfl (UE rfl rfl (UE rfl rfl (UC rfl (UE rfl rfl (UE rfl rfl (UE rfl rfl (UE rfl rfl (UE rfl rfl UB)))))))))) rfl rfl) h0
 replace h1 := Qn c9 h1
 refine Q8 rfl rfl <| Q8 rfl rfl <| Q8 rfl rfl <| U5 rfl rfl rfl (QG rfl rfl) <| Q3 ?_
 have e := U3 h1; subst e
 exact Qr false (Qf (U1 rfl (U1 rfl (U1 rfl (U1 rfl (U1 rfl (U1 rfl U0)))))) (Um rfl (Um rfl (Um rfl (Um rfl (Um rfl (Um rfl (Um rfl (Um rfl (Um rfl (Um rfl Ul)))))))))) (Ui rfl Uh) rfl (Nat.le_trans hv0 (Ug rfl)) rfl rfl rfl (UE rfl rfl (UE rfl rfl (UE rfl rfl (UE rfl rfl (UC rfl (UE rfl rfl (UE rfl rfl (UE rfl rfl (UE rfl rfl (UE rfl rfl UB)))))))))) rfl rfl) h0
 intro v8 h0
 refine Q1 ?_
 refine Ja (fun (v10 : Int) => ⟨[(1, .v (.one (Uv a1))), (4, .v (.one (.ptr 9 0))), (5, .v (.one (.ptr 10 0))), (8, .v (.one (Uv v10)))], [(0, .cells 150 [.yld 1]), (1, .loop .ready none [(3, .v (.one (.ptr 3 0))), (4, .v (.one (.ptr 5 0))), (9, .v (.one (.fn 96 [(7, 0)])))] 31 #[10, 11] JL JK 2), (2, .obj (.deferred (some []))), (3, .cells 116 [.mp 4]), (4, .mp (QT y1.1.1) y1.1.2), (5, .cells 23 [Ux 6 y1.2]), (7, .cells 42 (Uy a4)), (8, .cells 153 [Uw true, Uw false, Uv 0, Uv 0, Uv (-1), Uw false, Uw false, Uv 0, Uv 0, Uv (-1), Uw false, Uw false, Uv 1, Uv 0, Uv (-1), Uw false, Uw true, Uv (-1), Uv 0, Uv (-1), Uw false, Uw false, Uv 0, Uv 2, Uv (-1), Uw false, Uw false, Uv 0, Uv 2, Uv 1, Uw false, Uw false, Uv 0, Uv 2, Uv 1, Uw false, Uw false, Uv 0, Uv 2, Uv 1, Uw false, Uw false, Uv 0, Uv 3, Uv (-1), Uw false, Uw false, Uv 0, Uv 1, Uv (-1), Uw false, Uw false, Uv 0, Uv 1, Uv (-1), Uw false, Uw false, Uv 0, Uv 3, Uv 2, Uw true, Uw false, Uv 0, Uv 0, Uv (-1)]), (9, .cells 155 [.fn 98 [(0, 0), (8, 0), (9, 0)]]), (10, .cells 42 (Uy a0))], [(6, some ⟨9, 1, (Enc.encL y1.2).length, []⟩)], 12, 50, []⟩) (fun (v10 : Int) => (Option.bind (Qv (Zn a0 v10 a1 rc a4) QH (0, y1.1, y1.2)) (Sum.elim (fun (o11 : (Qj UN Bool) × (List UN)) => some (true, o11.1, o11.2)) (fun o => some o))) = some r) ?_ ?_
 refine Qb h0 (fun w1_ h1 h0 => ?_)
 refine Qe (b := v8) rfl (fun c11 => ?_) (fun c11 => ?_)
 replace h1 := Qm c11 h1
 refine Q0 <| U5 rfl rfl rfl (Q4 Ka rfl) <| U5 rfl rfl rfl (Q7 Yx rfl rfl rfl) ?_
 refine QQ h1 (fun g12 h1 => ?_)
 refine U5 rfl rfl rfl (RO.indexA arr_153 rfl rfl g12) <| U5 rfl rfl rfl (Q4 fo_152_4 rfl) ?_
 refine Qb h1 (fun x13 hx13 h1 => ?_)
 refine U5 rfl rfl rfl (RO.loadCol (m := a0.kind) (sz := 5) (f := 4) (col := ([(-1), (-1), (-1), (-1), (-1), 1, 1, 1, (-1), (-1), (-1), 2, (-1)] : List Int)) Yx rfl rfl rfl hx13) <| U7 rfl rfl rfl <| Q3 ?_
 have e := U3 h1; subst e
 exact Qr x13 (Qf (U1 rfl (U1 rfl (U1 rfl (U1 rfl U0)))) (Um rfl (Um rfl (Um rfl (Um rfl (Um rfl (Um rfl (Um rfl (Um rfl (Um rfl (Um rfl Ul)))))))))) (Ui rfl Uh) rfl (Nat.le_trans hv0 (Ug rfl)) rfl rfl rfl (UE rfl rfl (UE rfl rfl (UE rfl rfl (UE rfl rfl (UC rfl (UE rfl rfl (UE rfl rfl (UE rfl rfl (UE rfl rfl (UE rfl rfl UB)))))))))) rfl rfl) h0
 replace h1 := Qn c11 h1
 refine Qg ?_
 have e := U3 h1; subst e
 exact Qr (-1) (Qf (U1 rfl (U1 rfl (U1 rfl (U1 rfl U0)))) (Um rfl (Um rfl (Um rfl (Um rfl (Um rfl (Um rfl (Um rfl (Um rfl (Um rfl (Um rfl Ul)))))))))) (Ui rfl Uh) rfl (Nat.le_trans hv0 (Ug rfl)) rfl rfl rfl (UE rfl rfl (UE rfl rfl (UE rfl rfl (UE rfl rfl (UC rfl (UE rfl rfl (UE rfl rfl (UE rfl rfl (UE rfl rfl (UE rfl rfl UB)))))))))) rfl rfl) h0
 intro v10 h0
 refine Q1 <| Q2 <| Q2 <| Q0 <| U5 rfl rfl rfl (Q4 YE rfl) <| U5 rfl rfl rfl (Q7 Y3 rfl rfl rfl) <| U5 rfl rfl rfl (QB (α := Tm) JH rfl (.d _)) <| U6 rfl rfl rfl <| Q3 <| Q1 <| Qc ?_
 refine QF 0 (fun (o14 : (Qj UN Bool) × (List UN)) => ⟨[], [(0, .cells 150 [.yld 1]), (1, .loop .ready none [(3, .v (.one (.ptr 3 0))), (4, .v (.one (.ptr 5 0))), (9, .v (.one (.fn 96 [(7, 0)])))] 31 #[10, 11] JL JK 2), (2, .obj (.deferred (some []))), (3, .cells 116 [.mp 4]), (4, .mp (QT o14.1.1) o14.1.2), (5, .cells 23 [Ux 6 o14.2]), (7, .cells 42 (Uy a4)), (8, .cells 153 [Uw true, Uw false, Uv 0, Uv 0, Uv (-1), Uw false, Uw false, Uv 0, Uv 0, Uv (-1), Uw false, Uw false, Uv 1, Uv 0, Uv (-1), Uw false, Uw true, Uv (-1), Uv 0, Uv (-1), Uw false, Uw false, Uv 0, Uv 2, Uv (-1), Uw false, Uw false, Uv 0, Uv 2, Uv 1, Uw false, Uw false, Uv 0, Uv 2, Uv 1, Uw false, Uw false, Uv 0, Uv 2, Uv 1, Uw false, Uw false, Uv 0, Uv 3, Uv (-1), Uw false, Uw false, Uv 0, Uv 1, Uv (-1), Uw false, Uw false, Uv 0, Uv 1, Uv (-1), Uw false, Uw false, Uv 0, Uv 3, Uv 2, Uw true, Uw false, Uv 0, Uv 0, Uv (-1)]), (9, .cells 155 [.fn 98 [(0, 0), (8, 0), (9, 0)]]), (10, .cells 42 (Uy a0))], [(6, some ⟨9, 1, (Enc.encL o14.2).length, []⟩)], 12, 50, []⟩) (fun (o14 : (Qj UN Bool) × (List UN)) => (some (true, o14.1, o14.2)) = some r) ?_ ?_
 refine Qb h0 (fun o15 hl1 h0 => ?_)
 refine QE (Zn a0 v10 a1 rc a4) (fun s1 => ⟨[(1, .v (.one (Uv a1))), (4, .v (.one (.ptr 9 0))), (8, .v (.one (Uv v10))), (31, .v (.one (Ut a0.kids))), (32, .v (.one (Uv (a0.kids.length : Int)))), (33, .v (.one (Uv s1.1)))], [(0, .cells 150 [.yld 1]), (1, .loop .ready none [(3, .v (.one (.ptr 3 0))), (4, .v (.one (.ptr 5 0))), (9, .v (.one (.fn 96 [(7, 0)])))] 31 #[10, 11] JL JK 2), (2, .obj (.deferred (some []))), (3, .cells 116 [.mp 4]), (4, .mp (QT s1.2.1.1) s1.2.1.2), (5, .cells 23 [Ux 6 s1.2.2]), (7, .cells 42 (Uy a4)), (8, .cells 153 [Uw true, Uw false, Uv 0, Uv 0, Uv (-1), Uw false, Uw false, Uv 0, Uv 0, Uv (-1), Uw false, Uw false, Uv 1, Uv 0, Uv (-1), Uw false, Uw true, Uv (-1), Uv 0, Uv (-1), Uw false, Uw false, Uv 0, Uv 2, Uv (-1), Uw false, Uw false, Uv 0, Uv 2, Uv 1, Uw false, Uw false, Uv 0, Uv 2, Uv 1, Uw false, Uw false, Uv 0, Uv 2, Uv 1, Uw false, Uw false, Uv 0, Uv 3, Uv (-1), Uw false, Uw false, Uv 0, Uv 1, Uv (-1), Uw false, Uw false, Uv 0, Uv 1, Uv (-1), Uw false, Uw false, Uv 0, Uv 3, Uv 2, Uw true, Uw false, Uv 0, Uv 0, Uv (-1)]), (9, .cells 155 [.fn 98 [(0, 0), (8, 0), (9, 0)]]), (10, .cells 42 (Uy a0))], [(6, some ⟨9, 1, (Enc.encL s1.2.2).length, []⟩)], 12, 50, []⟩) (0, y1.1, y1.2) o15 (Qf (U1 rfl (U1 rfl (U1 rfl (U1 rfl (U1 rfl (U1 rfl U0)))))) (Um rfl (Um rfl (Um rfl (Um rfl (Um rfl (Um rfl (Um rfl (Um rfl (Um rfl (Um rfl Ul)))))))))) (Ui rfl Uh) rfl (Nat.le_trans hv0 (Ug rfl)) rfl rfl rfl (UE rfl rfl (UE rfl rfl (UE rfl rfl (UE rfl rfl (UC rfl (UE rfl rfl (UE rfl rfl (UE rfl rfl (UE rfl rfl (UE rfl rfl UB)))))))))) rfl rfl) hl1 (fun s1 n1 oo1 h1 ho1 => ?_)
 unfold Zn at h1
 refine Q2 <| Q0 <| U5 rfl rfl rfl (Q5 rfl rfl rfl) <| Q3 <| Q1 <| Q2 ?_
 refine Qe (b := (decide (s1.1 < (a0.kids.length : Int)))) rfl (fun c16 => ?_) (fun c16 => ?_)
 replace h1 := Qm c16 h1
 refine Qg <| Q1 <| Q2 <| Qc <| Q2 <| Q0 <| U6 rfl rfl rfl ?_
 refine Qb h1 (fun x17 hx17 h1 => ?_)
 refine U5 rfl rfl rfl (Qi (α := Tm) JH rfl (.d _) rfl hx17) <| U5 rfl rfl rfl (QY Jh rfl rfl rfl) <| Q9 rfl rfl (Ug rfl) (QC XW rfl) <| U7 rfl rfl rfl <| QL rfl rfl (Qw Jh rfl rfl rfl rfl (Ug rfl) rfl) <| Q3 <| Q1 <| Q2 <| Q0 <| U6 rfl rfl rfl <| U7 rfl rfl rfl <| Q3 <| Q1 <| Q2 ?_
 refine Q2 <| Q0 <| U6 rfl rfl rfl <| U6 rfl rfl rfl <| U5 rfl rfl rfl (Q5 rfl rfl rfl) <| Q3 <| Q1 ?_
 refine Ja (fun (v18 : Int) => ⟨[(1, .v (.one (Uv a1))), (4, .v (.one (.ptr 9 0))), (8, .v (.one (Uv v10))), (10, .v (.one (.ptr 12 0))), (11, .v (.one (Uv v18))), (31, .v (.one (Ut a0.kids))), (32, .v (.one (Uv (a0.kids.length : Int)))), (33, .v (.one (Uv s1.1)))], [(0, .cells 150 [.yld 1]), (1, .loop .ready none [(3, .v (.one (.ptr 3 0))), (4, .v (.one (.ptr 5 0))), (9, .v (.one (.fn 96 [(7, 0)])))] 31 #[10, 11] JL JK 2), (2, .obj (.deferred (some []))), (3, .cells 116 [.mp 4]), (4, .mp (QT s1.2.1.1) s1.2.1.2), (5, .cells 23 [Ux 6 s1.2.2]), (7, .cells 42 (Uy a4)), (8, .cells 153 [Uw true, Uw false, Uv 0, Uv 0, Uv (-1), Uw false, Uw false, Uv 0, Uv 0, Uv (-1), Uw false, Uw false, Uv 1, Uv 0, Uv (-1), Uw false, Uw true, Uv (-1), Uv 0, Uv (-1), Uw false, Uw false, Uv 0, Uv 2, Uv (-1), Uw false, Uw false, Uv 0, Uv 2, Uv 1, Uw false, Uw false, Uv 0, Uv 2, Uv 1, Uw false, Uw false, Uv 0, Uv 2, Uv 1, Uw false, Uw false, Uv 0, Uv 3, Uv (-1), Uw false, Uw false, Uv 0, Uv 1, Uv (-1), Uw false, Uw false, Uv 0, Uv 1, Uv (-1), Uw false, Uw false, Uv 0, Uv 3, Uv 2, Uw true, Uw false, Uv 0, Uv 0, Uv (-1)]), (9, .cells 155 [.fn 98 [(0, 0), (8, 0), (9, 0)]]), (10, .cells 42 (Uy a0)), (12, .cells 42 (Uy x17))], [(6, some ⟨9, 1, (Enc.encL s1.2.2).length, []⟩)], 13, 50, []⟩) (fun (v18 : Int) => (Option.bind (rc (x17, v18, s1.2.1, s1.2.2, a4)) fun (x19 : Bool × (Qj UN Bool) × (List UN)) =>
   cond (!x19.1)
     (some (.done (.inr (false, x19.2.1, x19.2.2))))
     (some (.next ((J1 (s1.1 + 1)), x19.2.1, x19.2.2)))) = some oo1) ?_ ?_
 refine Qb h1 (fun w2_ h2 h1 => ?_)
 refine Qe (b := (s1.1 == v10)) rfl (fun c19 => ?_) (fun c19 => ?_)
 replace h2 := Qm c19 h2
 refine Q0 <| U6 rfl rfl rfl <| U5 rfl rfl rfl (Q5 rfl rfl rfl) <| U7 rfl rfl rfl <| Q3 ?_
 have e := U3 h2; subst e
 exact Qr (J1 (a1 + 1)) (Qf (U1 rfl (U1 rfl (U1 rfl (U1 rfl (U1 rfl (U1 rfl (U1 rfl (U1 rfl U0)))))))) (Um rfl (Um rfl (Um rfl (Um rfl (Um rfl (Um rfl (Um rfl (Um rfl (Um rfl (Um rfl (Um rfl Ul))))))))))) (Ui rfl Uh) rfl (Nat.le_trans hv0 (Ug rfl)) rfl rfl rfl (UE rfl rfl (UE rfl rfl (UE rfl rfl (UE rfl rfl (UC rfl (UE rfl rfl (UE rfl rfl (UE rfl rfl (UE rfl rfl (UE rfl rfl (UE rfl rfl UB))))))))))) rfl rfl) h1
 replace h2 := Qn c19 h2
 refine Qg ?_
 have e := U3 h2; subst e
 exact Qr a1 (Qf (U1 rfl (U1 rfl (U1 rfl (U1 rfl (U1 rfl (U1 rfl (U1 rfl (U1 rfl U0)))))))) (Um rfl (Um rfl (Um rfl (Um rfl (Um rfl (Um rfl (Um rfl (Um rfl (Um rfl (Um rfl (Um rfl Ul))))))))))) (Ui rfl Uh) rfl (Nat.le_trans hv0 (Ug rfl)) rfl rfl rfl (UE rfl rfl (UE rfl rfl (UE rfl rfl (UE rfl rfl (UC rfl (UE rfl rfl (UE rfl rfl (UE rfl rfl (UE rfl rfl (UE rfl rfl (UE rfl rfl UB))))))))))) rfl rfl) h1
 intro v18 h1
 refine Q1 <| Q2 <| Q0 <| U5 rfl rfl rfl (Q7 ag_155 rfl rfl rfl) <| U5 rfl rfl rfl (Qq Jh rfl rfl rfl rfl) <| U6 rfl rfl rfl ?_
 refine Qb h1 (fun x20 hx20 h1 => ?_)
 refine Q9 rfl rfl (Ug rfl) (QW (hp1' := [(0, .cells 150 [.yld 1]), (1, .loop .ready none [(3, .v (.one (.ptr 3 0))), (4, .v (.one (.ptr 5 0))), (9, .v (.one (.fn 96 [(7, 0)])))] 31 #[10, 11] JL JK 2), (2, .obj (.deferred (some []))), (3, .cells 116 [.mp 4]), (4, .mp (QT x20.2.1.1) x20.2.1.2), (5, .cells 23 [Ux 6 x20.2.2]), (7, .cells 42 (Uy a4)), (8, .cells 153 [Uw true, Uw false, Uv 0, Uv 0, Uv (-1), Uw false, Uw false, Uv 0, Uv 0, Uv (-1), Uw false, Uw false, Uv 1, Uv 0, Uv (-1), Uw false, Uw true, Uv (-1), Uv 0, Uv (-1), Uw false, Uw false, Uv 0, Uv 2, Uv (-1), Uw false, Uw false, Uv 0, Uv 2, Uv 1, Uw false, Uw false, Uv 0, Uv 2, Uv 1, Uw false, Uw false, Uv 0, Uv 2, Uv 1, Uw false, Uw false, Uv 0, Uv 3, Uv (-1), Uw false, Uw false, Uv 0, Uv 1, Uv (-1), Uw false, Uw false, Uv 0, Uv 1, Uv (-1), Uw false, Uw false, Uv 0, Uv 3, Uv 2, Uw true, Uw false, Uv 0, Uv 0, Uv (-1)]), (9, .cells 155 [.fn 98 [(0, 0), (8, 0), (9, 0)]])]) (tk1' := [(6, some ⟨9, 1, (Enc.encL x20.2.2).length, []⟩)]) (hpF := [(10, .cells 42 (Uy a0)), (12, .cells 42 (Uy x17))]) (tkF := []) (res2 := Qy [.one (Uw x20.1)]) (nx2 := 15) [0, 1, 2, 3, 4, 5, 6, 7, 8, 9] rfl rfl (H x17 v18 s1.2.1 s1.2.2 a4 x20 hx20) rfl rfl (Ub rfl rfl (Ub rfl rfl (Ub rfl rfl (Ub rfl rfl (U9 rfl (Ub rfl rfl (Ub rfl rfl (Ub rfl rfl (Ub rfl rfl U8))))))))) rfl rfl (Uq rfl (Uq rfl (Uq rfl (Uq rfl (Ur rfl (Uq rfl (Uq rfl (Uq rfl (Uq rfl Uo))))))))) (Uk rfl Uj) (Um rfl (Um rfl Ul)) Uh rfl rfl rfl rfl rfl (UE rfl rfl (UE rfl rfl (UE rfl rfl (UE rfl rfl (UC rfl (UE rfl rfl (UE rfl rfl (UE rfl rfl (UE rfl rfl UB))))))))) rfl rfl rfl rfl) <| U5 rfl rfl rfl (J9 rfl) <| Q3 <| Q1 ?_
 refine Qe (b := (!x20.1)) rfl (fun c21 => ?_) (fun c21 => ?_)
 replace h1 := Qm c21 h1
 refine Q2 <| Q0 <| U7 rfl rfl rfl <| Q3 <| Q1 <| Qz ?_
 have e := U3 h1; subst e
 have e_ : _ = _ := ho1
 subst e_
 try dsimp only [Sum.elim_inl, Sum.elim_inr] at h0
 have e := U3 h0; subst e
 exact hQ0 _ _ _ (.inr rfl) rfl (Qf (U1 rfl U0) (Um rfl (Um rfl (Um rfl (Um rfl (Um rfl (Um rfl (Um rfl (Um rfl (Um rfl Ul))))))))) (Ui rfl Uh) rfl (Nat.le_trans hv0 (Ug rfl)) rfl rfl rfl (UE rfl rfl (UE rfl rfl (UE rfl rfl (UE rfl rfl (UC rfl (UE rfl rfl (UE rfl rfl (UE rfl rfl (UE rfl rfl UB))))))))) rfl rfl)
 replace h1 := Qn c21 h1
 refine Qg <| Qh <| Q1 <| Q0 <| U5 rfl rfl rfl (Q5 rfl rfl rfl) <| U6 rfl rfl rfl <| Q3 ?_
 have e := U3 h1; subst e
 refine QA ((J1 (s1.1 + 1)), x20.2.1, x20.2.2) (Qf (U1 rfl (U1 rfl (U1 rfl (U1 rfl (U1 rfl (U1 rfl U0)))))) (Um rfl (Um rfl (Um rfl (Um rfl (Um rfl (Um rfl (Um rfl (Um rfl (Um rfl (Um rfl Ul)))))))))) (Ui rfl Uh) rfl (Nat.le_trans hv0 (Ug rfl)) rfl rfl rfl (UE rfl rfl (UE rfl rfl (UE rfl rfl (UE rfl rfl (UC rfl (UE rfl rfl (UE rfl rfl (UE rfl rfl (UE rfl rfl (UE rfl rfl UB)))))))))) rfl rfl) ho1
 replace h1 := Qn c16 h1
 refine QJ <| Qd <| Qd ?_
 have e := U3 h1; subst e
 have e_ : _ = _ := ho1
 subst e_
 exact QD (s1.2.1, s1.2.2) (Qf U0 (Um rfl (Um rfl (Um rfl (Um rfl (Um rfl (Um rfl (Um rfl (Um rfl (Um rfl (Um rfl Ul)))))))))) (Ui rfl Uh) rfl (Nat.le_trans hv0 (Ug rfl)) rfl rfl rfl (UE rfl rfl (UE rfl rfl (UE rfl rfl (UE rfl rfl (UC rfl (UE rfl rfl (UE rfl rfl (UE rfl rfl (UE rfl rfl (UE rfl rfl UB)))))))))) rfl rfl) h0
 intro o14 h0
 refine Qu <| Q1 <| Q2 <| Q0 <| U7 rfl rfl rfl <| Q3 <| Q1 <| Qz ?_
 have e := U3 h0; subst e
 exact hQ0 _ _ _ (.inr rfl) rfl (Qf (U1 rfl U0) (Um rfl (Um rfl (Um rfl (Um rfl (Um rfl (Um rfl (Um rfl (Um rfl (Um rfl Ul))))))))) (Ui rfl Uh) rfl (Nat.le_trans hv0 (Ug rfl)) rfl rfl rfl (UE rfl rfl (UE rfl rfl (UE rfl rfl (UE rfl rfl (UC rfl (UE rfl rfl (UE rfl rfl (UE rfl rfl (UE rfl rfl UB))))))))) rfl rfl)
theorem m98f0_all (n : Nat) (u : Tm × Int × (Qj UN Bool) × (List UN) × Tm) (r : Bool × (Qj UN Bool) × (List UN)) (h0 : JY Xt n u = some r) : CallM Try.prog 98 [.agg (Uy u.1), .one (Uv u.2.1), .one (.ptr 0 0), .one (.ptr 8 0), .one (.ptr 9 0)] ⟨[(0, .cells 150 [.yld 1]), (1, .loop .ready none [(3, .v (.one (.ptr 3 0))), (4, .v (.one (.ptr 5 0))), (9, .v (.one (.fn 96 [(7, 0)])))] 31 #[10, 11] JL JK 2), (2, .obj (.deferred (some []))), (3, .cells 116 [.mp 4]), (4, .mp (QT u.2.2.1.1) u.2.2.1.2), (5, .cells 23 [Ux 6 u.2.2.2.1]), (7, .cells 42 (Uy u.2.2.2.2)), (8, .cells 153 [Uw true, Uw false, Uv 0, Uv 0, Uv (-1), Uw false, Uw false, Uv 0, Uv 0, Uv (-1), Uw false, Uw false, Uv 1, Uv 0, Uv (-1), Uw false, Uw true, Uv (-1), Uv 0, Uv (-1), Uw false, Uw false, Uv 0, Uv 2, Uv (-1), Uw false, Uw false, Uv 0, Uv 2, Uv 1, Uw false, Uw false, Uv 0, Uv 2, Uv 1, Uw false, Uw false, Uv 0, Uv 2, Uv 1, Uw false, Uw false, Uv 0, Uv 3, Uv (-1), Uw false, Uw false, Uv 0, Uv 1, Uv (-1), Uw false, Uw false, Uv 0, Uv 1, Uv (-1), Uw false, Uw false, Uv 0, Uv 3, Uv 2, Uw true, Uw false, Uv 0, Uv 0, Uv (-1)]), (9, .cells 155 [.fn 98 [(0, 0), (8, 0), (9, 0)]])], [(6, some ⟨9, 1, (Enc.encL u.2.2.2.1).length, []⟩)], 10⟩ (Qy [.one (Uw r.1)]) ⟨[(0, .cells 150 [.yld 1]), (1, .loop .ready none [(3, .v (.one (.ptr 3 0))), (4, .v (.one (.ptr 5 0))), (9, .v (.one (.fn 96 [(7, 0)])))] 31 #[10, 11] JL JK 2), (2, .obj (.deferred (some []))), (3, .cells 116 [.mp 4]), (4, .mp (QT r.2.1.1) r.2.1.2), (5, .cells 23 [Ux 6 r.2.2]), (7, .cells 42 (Uy u.2.2.2.2)), (8, .cells 153 [Uw true, Uw false, Uv 0, Uv 0, Uv (-1), Uw false, Uw false, Uv 0, Uv 0, Uv (-1), Uw false, Uw false, Uv 1, Uv 0, Uv (-1), Uw false, Uw true, Uv (-1), Uv 0, Uv (-1), Uw false, Uw false, Uv 0, Uv 2, Uv (-1), Uw false, Uw false, Uv 0, Uv 2, Uv 1, Uw false, Uw false, Uv 0, Uv 2, Uv 1, Uw false, Uw false, Uv 0, Uv 2, Uv 1, Uw false, Uw false, Uv 0, Uv 3, Uv (-1), Uw false, Uw false, Uv 0, Uv 1, Uv (-1), Uw false, Uw false, Uv 0, Uv 1, Uv (-1), Uw false, Uw false, Uv 0, Uv 3, Uv 2, Uw true, Uw false, Uv 0, Uv 0, Uv (-1)]), (9, .cells 155 [.fn 98 [(0, 0), (8, 0), (9, 0)]])], [(6, some ⟨9, 1, (Enc.encL r.2.2).length, []⟩)], 12⟩ :=
 Yy (C := fun u r => CallM Try.prog 98 [.agg (Uy u.1), .one (Uv u.2.1), .one (.ptr 0 0), .one (.ptr 8 0), .one (.ptr 9 0)] ⟨[(0, .cells 150 [.yld 1]), (1, .loop .ready none [(3, .v (.one (.ptr 3 0))), (4, .v (.one (.ptr 5 0))), (9, .v (.one (.fn 96 [(7, 0)])))] 31 #[10, 11] JL JK 2), (2, .obj (.deferred (some []))), (3, .cells 116 [.mp 4]), (4, .mp (QT u.2.2.1.1) u.2.2.1.2), (5, .cells 23 [Ux 6 u.2.2.2.1]), (7, .cells 42 (Uy u.2.2.2.2)), (8, .cells 153 [Uw true, Uw false, Uv 0, Uv 0, Uv (-1), Uw false, Uw false, Uv 0, Uv 0, Uv (-1), Uw false, Uw false, Uv 1, Uv 0, Uv (-1), Uw false, Uw true, Uv (-1), Uv 0, Uv (-1), Uw false, Uw false, Uv 0, Uv 2, Uv (-1), Uw false, Uw false, Uv 0, Uv 2, Uv 1, Uw false, Uw false, Uv 0, Uv 2, Uv 1, Uw false, Uw false, Uv 0, Uv 2, Uv 1, Uw false, Uw false, Uv 0, Uv 3, Uv (-1), Uw false, Uw false, Uv 0, Uv 1, Uv (-1), Uw false, Uw false, Uv 0, Uv 1, Uv (-1), Uw false, Uw false, Uv 0, Uv 3, Uv 2, Uw true, Uw false, Uv 0, Uv 0, Uv (-1)]), (9, .cells 155 [.fn 98 [(0, 0), (8, 0), (9, 0)]])], [(6, some ⟨9, 1, (Enc.encL u.2.2.2.1).length, []⟩)], 10⟩ (Qy [.one (Uw r.1)]) ⟨[(0, .cells 150 [.yld 1]), (1, .loop .ready none [(3, .v (.one (.ptr 3 0))), (4, .v (.one (.ptr 5 0))), (9, .v (.one (.fn 96 [(7, 0)])))] 31 #[10, 11] JL JK 2), (2, .obj (.deferred (some []))), (3, .cells 116 [.mp 4]), (4, .mp (QT r.2.1.1) r.2.1.2), (5, .cells 23 [Ux 6 r.2.2]), (7, .cells 42 (Uy u.2.2.2.2)), (8, .cells 153 [Uw true, Uw false, Uv 0, Uv 0, Uv (-1), Uw false, Uw false, Uv 0, Uv 0, Uv (-1), Uw false, Uw false, Uv 1, Uv 0, Uv (-1), Uw false, Uw true, Uv (-1), Uv 0, Uv (-1), Uw false, Uw false, Uv 0, Uv 2, Uv (-1), Uw false, Uw false, Uv 0, Uv 2, Uv 1, Uw false, Uw false, Uv 0, Uv 2, Uv 1, Uw false, Uw false, Uv 0, Uv 2, Uv 1, Uw false, Uw false, Uv 0, Uv 3, Uv (-1), Uw false, Uw false, Uv 0, Uv 1, Uv (-1), Uw false, Uw false, Uv 0, Uv 1, Uv (-1), Uw false, Uw false, Uv 0, Uv 3, Uv 2, Uw true, Uw false, Uv 0, Uv 0, Uv (-1)]), (9, .cells 155 [.fn 98 [(0, 0), (8, 0), (9, 0)]])], [(6, some ⟨9, 1, (Enc.encL r.2.2).length, []⟩)], 12⟩) (fun rc H u r h => m98f0s_ok rc (fun a0 a1 a2 a3 a4 r h => H (a0, a1, a2, a3, a4) r h) u.1 u.2.1 u.2.2.1 u.2.2.2.1 u.2.2.2.2 r h) n u r h0
theorem m98f0_ok (a0 : Tm) (a1 : Int) (a2 : Qj UN Bool) (a3 : List UN) (a4 : Tm) (r : Bool × (Qj UN Bool) × (List UN)) (h0 : m98f0 a0 a1 a2 a3 a4 = some r) : CallM Try.prog 98 [.agg (Uy a0), .one (Uv a1), .one (.ptr 0 0), .one (.ptr 8 0), .one (.ptr 9 0)] ⟨[(0, .cells 150 [.yld 1]), (1, .loop .ready none [(3, .v (.one (.ptr 3 0))), (4, .v (.one (.ptr 5 0))), (9, .v (.one (.fn 96 [(7, 0)])))] 31 #[10, 11] JL JK 2), (2, .obj (.deferred (some []))), (3, .cells 116 [.mp 4]), (4, .mp (QT a2.1) a2.2), (5, .cells 23 [Ux 6 a3]), (7, .cells 42 (Uy a4)), (8, .cells 153 [Uw true, Uw false, Uv 0, Uv 0, Uv (-1), Uw false, Uw false, Uv 0, Uv 0, Uv (-1), Uw false, Uw false, Uv 1, Uv 0, Uv (-1), Uw false, Uw true, Uv (-1), Uv 0, Uv (-1), Uw false, Uw false, Uv 0, Uv 2, Uv (-1), Uw false, Uw false, Uv 0, Uv 2, Uv 1, Uw false, Uw false, Uv 0, Uv 2, Uv 1, Uw false, Uw false, Uv 0, Uv 2, Uv 1, Uw false, Uw false, Uv 0, Uv 3, Uv (-1), Uw false, Uw false, Uv 0, Uv 1, Uv (-1), Uw false, Uw false, Uv 0, Uv 1, Uv (-1), Uw false, Uw false, Uv 0, Uv 3, Uv 2, Uw true, Uw false, Uv 0, Uv 0, Uv (-1)]), (9, .cells 155 [.fn 98 [(0, 0), (8, 0), (9, 0)]])], [(6, some ⟨9, 1, (Enc.encL a3).length, []⟩)], 10⟩ (Qy [.one (Uw r.1)]) ⟨[(0, .cells 150 [.yld 1]), (1, .loop .ready none [(3, .v (.one (.ptr 3 0))), (4, .v (.one (.ptr 5 0))), (9, .v (.one (.fn 96 [(7, 0)])))] 31 #[10, 11] JL JK 2), (2, .obj (.deferred (some []))), (3, .cells 116 [.mp 4]), (4, .mp (QT r.2.1.1) r.2.1.2), (5, .cells 23 [Ux 6 r.2.2]), (7, .cells 42 (Uy a4)), (8, .cells 153 [Uw true, Uw false, Uv 0, Uv 0, Uv (-1), Uw false, Uw false, Uv 0, Uv 0, Uv (-1), Uw false, Uw false, Uv 1, Uv 0, Uv (-1), Uw false, Uw true, Uv (-1), Uv 0, Uv (-1), Uw false, Uw false, Uv 0, Uv 2, Uv (-1), Uw false, Uw false, Uv 0, Uv 2, Uv 1, Uw false, Uw false, Uv 0, Uv 2, Uv 1, Uw false, Uw false, Uv 0, Uv 2, Uv 1, Uw false, Uw false, Uv 0, Uv 3, Uv (-1), Uw false, Uw false, Uv 0, Uv 1, Uv (-1), Uw false, Uw false, Uv 0, Uv 1, Uv (-1), Uw false, Uw false, Uv 0, Uv 3, Uv 2, Uw true, Uw false, Uv 0, Uv 0, Uv (-1)]), (9, .cells 155 [.fn 98 [(0, 0), (8, 0), (9, 0)]])], [(6, some ⟨9, 1, (Enc.encL r.2.2).length, []⟩)], 12⟩ := m98f0_all QH (a0, a1, a2, a3, a4) r h0
def WI (a0 : Tm) : Option ((List UN)) :=
 Option.bind (some ()) (fun (y1 : Unit) => Option.bind (Option.bind (some ()) (fun (y5 : Unit) => Option.bind (m98f0 a0 0 gmNil ([]) a0) fun (x7 : Bool × (Qj UN Bool) × (List UN)) =>
 some (x7.2.1, x7.2.2))) (fun (y3 : (Qj UN Bool) × (List UN)) => some y3.2))
set_option maxRecDepth 100000 in
set_option maxHeartbeats 8000000 in
theorem m74_ok (a0 : Tm) (r : (List UN)) (h0 : WI a0 = some r) : Fun Try.prog 74 [.agg (Uy a0)] (Qy [.one (Ut r)]) := by
 unfold WI at h0
 refine QS 9 31 Try.func74 rfl en_74 rfl (Ug rfl) (fun S w => ?_)
 simp only [J8]
 refine Q2 <| Q0 <| Q9 rfl rfl (Ug rfl) (Jc rfl) <| U7 rfl rfl rfl <| Q3 <| Q1 <| Q2 <| Q0 <| Q9 rfl rfl (Ug rfl) (Yl UN Bool) <| Q9 rfl rfl (Ug rfl) (QC z_116 rfl) <| QL rfl rfl (Qw K7 rfl rfl rfl rfl (Ug rfl) rfl) <| Q3 <| Q1 <| Q2 ?_
 refine Q0 <| Q9 rfl rfl (Ug rfl) (QC z_23 rfl) <| Q3 <| Q1 <| Q2 <| Q2 <| Q0 <| U5 rfl rfl rfl (Qq Jh rfl rfl rfl rfl) ?_
 refine Qb h0 (fun y1 h1 h0 => ?_)
 have hc2 : CallM Try.prog 88 [.agg (Uy a0)] ⟨[(0, .cells 42 (Uy a0)), (1, .mp (QT (gmNil : Qj UN Bool).1) (gmNil : Qj UN Bool).2), (2, .cells 116 [.mp 1]), (3, .cells 23 [Uu])], [], 4⟩ (Qy [.one (.fn 96 [(4, 0)])]) ⟨[(0, .cells 42 (Uy a0)), (1, .mp (QT (gmNil : Qj UN Bool).1) (gmNil : Qj UN Bool).2), (2, .cells 116 [.mp 1]), (3, .cells 23 [Uu]), (4, .cells 42 (Uy a0))], [], 5⟩ := by
  refine QP ⟨[(2, .v (.one (.fn 96 [(4, 0)])))], [(0, .cells 42 (Uy a0)), (1, .mp (QT (gmNil : Qj UN Bool).1) (gmNil : Qj UN Bool).2), (2, .cells 116 [.mp 1]), (3, .cells 23 [Uu]), (4, .cells 42 (Uy a0))], [], 5, 4, []⟩ rfl rfl en_88 (Ug rfl) rfl (Qk rfl .nil) (fun w0 M V0 Q hv1 hQ1 => ?_)
  simp only [J8]
  refine Q2 <| Q0 <| Q9 rfl rfl (Ug rfl) (Jc rfl) <| U7 rfl rfl rfl <| Q3 <| Q1 <| Q2 <| Q0 <| U5 rfl rfl rfl (RO.makeFunc1 rfl) <| U7 rfl rfl rfl <| Q3 <| Q1 <| Qz ?_
  have e := U3 h1; subst e
  exact hQ1 _ _ _ (.inr rfl) rfl (Qf (U1 rfl U0) (Um rfl (Um rfl (Um rfl (Um rfl (Um rfl Ul))))) Uh rfl (Nat.le_trans hv1 (Ug rfl)) rfl rfl rfl (UE rfl rfl (UC rfl (UE rfl rfl (UE rfl rfl (UE rfl rfl UB))))) rfl rfl)
 refine Q9 rfl rfl (Ug rfl) (J4 rfl rfl rfl hc2 rfl (Um rfl (Um rfl (Um rfl (Um rfl Ul)))) Uh) <| Q3 <| Q1 <| Qc <| Zj (i := 3) (off := 0) 9 1 rfl rfl <| XC.less (st' := ⟨[(3, .v (.one (.ptr 2 0))), (4, .v (.one (.ptr 3 0))), (9, .v (.one (.fn 96 [(4, 0)])))], [(0, .cells 42 (Uy a0)), (1, .mp (QT (gmNil : Qj UN Bool).1) (gmNil : Qj UN Bool).2), (2, .cells 116 [.mp 1]), (3, .cells 23 [Ux 5 ([] : List UN)]), (4, .cells 42 (Uy a0))], [(5, some ⟨9, 1, (Enc.encL ([] : List UN)).length, []⟩)], 6, 31, []⟩) (Qf (U1 rfl (U1 rfl (U1 rfl U0))) (Um rfl (Um rfl (Um rfl (Um rfl (Um rfl Ul))))) (Ui rfl Uh) rfl (Nat.zero_le _) rfl rfl rfl (UE rfl rfl (UC rfl (UE rfl rfl (UE rfl rfl (UE rfl rfl UB))))) rfl rfl) ?_
 refine Qb h0 (fun y3 h1 h0 => ?_)
 have hc4 : CallM Try.prog 96 [.one (.yld 7), .one (.ptr 4 0)] ⟨[(7, .loop .ready none [(3, .v (.one (.ptr 2 0))), (4, .v (.one (.ptr 3 0))), (9, .v (.one (.fn 96 [(4, 0)])))] 31 #[10, 11] JL JK 6), (6, .obj (.deferred (some []))), (0, .cells 42 (Uy a0)), (1, .mp (QT (gmNil : Qj UN Bool).1) (gmNil : Qj UN Bool).2), (2, .cells 116 [.mp 1]), (3, .cells 23 [Ux 5 ([] : List UN)]), (4, .cells 42 (Uy a0))], [(5, some ⟨9, 1, (Enc.encL ([] : List UN)).length, []⟩)], 8⟩ (Qy []) ⟨[(0, .cells 42 (Uy a0)), (1, .mp (QT y3.1.1) y3.1.2), (2, .cells 116 [.mp 1]), (3, .cells 23 [Ux 5 y3.2]), (4, .cells 42 (Uy a0)), (6, .obj (.deferred (some []))), (7, .loop .ready none [(3, .v (.one (.ptr 2 0))), (4, .v (.one (.ptr 3 0))), (9, .v (.one (.fn 96 [(4, 0)])))] 31 #[10, 11] JL JK 6)], [(5, some ⟨9, 1, (Enc.encL y3.2).length, []⟩)], 14⟩ := by
  refine QP ⟨[], [(0, .cells 42 (Uy a0)), (1, .mp (QT y3.1.1) y3.1.2), (2, .cells 116 [.mp 1]), (3, .cells 23 [Ux 5 y3.2]), (4, .cells 42 (Uy a0)), (6, .obj (.deferred (some []))), (7, .loop .ready none [(3, .v (.one (.ptr 2 0))), (4, .v (.one (.ptr 3 0))), (9, .v (.one (.fn 96 [(4, 0)])))] 31 #[10, 11] JL JK 6)], [(5, some ⟨9, 1, (Enc.encL y3.2).length, []⟩)], 14, 10, []⟩ rfl rfl en_96 (Ug rfl) rfl .nil (fun w0 M V0 Q hv1 hQ1 => ?_)
  simp only [J8]
  refine Q2 <| Q0 <| Q9 rfl rfl (Ug rfl) (Jc rfl) <| Q3 <| Q1 <| Q2 <| Q0 ?_
  refine Qb h1 (fun y5 h2 h1 => ?_)
  have hc6 : CallM Try.prog 97 [] ⟨[(0, .cells 42 (Uy a0)), (1, .mp (QT (gmNil : Qj UN Bool).1) (gmNil : Qj UN Bool).2), (2, .cells 116 [.mp 1]), (3, .cells 23 [Ux 5 ([] : List UN)]), (4, .cells 42 (Uy a0)), (6, .obj (.deferred (some []))), (7, .loop .ready none [(3, .v (.one (.ptr 2 0))), (4, .v (.one (.ptr 3 0))), (9, .v (.one (.fn 96 [(4, 0)])))] 31 #[10, 11] JL JK 6), (8, .cells 150 [.yld 7])], [(5, some ⟨9, 1, (Enc.encL ([] : List UN)).length, []⟩)], 9⟩ (Qy [.agg [Uw true, Uw false, Uv 0, Uv 0, Uv (-1), Uw false, Uw false, Uv 0, Uv 0, Uv (-1), Uw false, Uw false, Uv 1, Uv 0, Uv (-1), Uw false, Uw true, Uv (-1), Uv 0, Uv (-1), Uw false, Uw false, Uv 0, Uv 2, Uv (-1), Uw false, Uw false, Uv 0, Uv 2, Uv 1, Uw false, Uw false, Uv 0, Uv 2, Uv 1, Uw false, Uw false, Uv 0, Uv 2, Uv 1, Uw false, Uw false, Uv 0, Uv 3, Uv (-1), Uw false, Uw false, Uv 0, Uv 1, Uv (-1), Uw false, Uw false, Uv 0, Uv 1, Uv (-1), Uw false, Uw false, Uv 0, Uv 3, Uv 2, Uw true, Uw false, Uv 0, Uv 0, Uv (-1)]]) ⟨[(0, .cells 42 (Uy a0)), (1, .mp (QT (gmNil : Qj UN Bool).1) (gmNil : Qj UN Bool).2), (2, .cells 116 [.mp 1]), (3, .cells 23 [Ux 5 ([] : List UN)]), (4, .cells 42 (Uy a0)), (6, .obj (.deferred (some []))), (7, .loop .ready none [(3, .v (.one (.ptr 2 0))), (4, .v (.one (.ptr 3 0))), (9, .v (.one (.fn 96 [(4, 0)])))] 31 #[10, 11] JL JK 6), (8, .cells 150 [.yld 7]), (9, .cells 153 [Uw true, Uw false, Uv 0, Uv 0, Uv (-1), Uw false, Uw false, Uv 0, Uv 0, Uv (-1), Uw false, Uw false, Uv 1, Uv 0, Uv (-1), Uw false, Uw true, Uv (-1), Uv 0, Uv (-1), Uw false, Uw false, Uv 0, Uv 2, Uv (-1), Uw false, Uw false, Uv 0, Uv 2, Uv 1, Uw false, Uw false, Uv 0, Uv 2, Uv 1, Uw false, Uw false, Uv 0, Uv 2, Uv 1, Uw false, Uw false, Uv 0, Uv 3, Uv (-1), Uw false, Uw false, Uv 0, Uv 1, Uv (-1), Uw false, Uw false, Uv 0, Uv 1, Uv (-1), Uw false, Uw false, Uv 0, Uv 3, Uv 2, Uw true, Uw false, Uv 0, Uv 0, Uv (-1)])], [(5, some ⟨9, 1, (Enc.encL ([] : List UN)).length, []⟩)], 10⟩ := by
   refine QP ⟨[(0, .v (.one (.ptr 9 0)))], [(0, .cells 42 (Uy a0)), (1, .mp (QT (gmNil : Qj UN Bool).1) (gmNil : Qj UN Bool).2), (2, .cells 116 [.mp 1]), (3, .cells 23 [Ux 5 ([] : List UN)]), (4, .cells 42 (Uy a0)), (6, .obj (.deferred (some []))), (7, .loop .ready none [(3, .v (.one (.ptr 2 0))), (4, .v (.one (.ptr 3 0))), (9, .v (.one (.fn 96 [(4, 0)])))] 31 #[10, 11] JL JK 6), (8, .cells 150 [.yld 7]), (9, .cells 153 [Uw true, Uw false, Uv 0, Uv 0, Uv (-1), Uw false, Uw false, Uv 0, Uv 0, Uv (-1), Uw false, Uw false, Uv 1, Uv 0, Uv (-1), Uw false, Uw true, Uv (-1), Uv 0, Uv (-1), Uw false, Uw false, Uv 0, Uv 2, Uv (-1), Uw false, Uw false, Uv 0, Uv 2, Uv 1, Uw false, Uw false, Uv 0, Uv 2, Uv 1, Uw false, Uw false, Uv 0, Uv 2, Uv 1, Uw false, Uw false, Uv 0, Uv 3, Uv (-1), Uw false, Uw false, Uv 0, Uv 1, Uv (-1), Uw false, Uw false, Uv 0, Uv 1, Uv (-1), Uw false, Uw false, Uv 0, Uv 3, Uv 2, Uw true, Uw false, Uv 0, Uv 0, Uv (-1)])], [(5, some ⟨9, 1, (Enc.encL ([] : List UN)).length, []⟩)], 10, 15, []⟩ rfl rfl en_97 (Ug rfl) rfl (Yo ag_153 rfl rfl rfl rfl .nil) (fun w0 M V0 Q hv2 hQ2 => ?_)
   simp only [J8]
   refine Q2 <| Q0 <| Q9 rfl rfl (Ug rfl) (QC z_153 rfl) <| Q3 <| Q1 <| Q2 <| Q0 <| U5 rfl rfl rfl (JJ Zh rfl rfl rfl rfl) <| U5 rfl rfl rfl (ZQ Zh rfl rfl rfl) <| U5 rfl rfl rfl (JJ Zh rfl rfl rfl rfl) <| U5 rfl rfl rfl (RO.build3 Zh rfl rfl rfl rfl rfl) <| U5 rfl rfl rfl (JJ Zh rfl rfl rfl rfl) <| U5 rfl rfl rfl (JJ Zh rfl rfl rfl rfl) <| U5 rfl rfl rfl (JJ Zh rfl rfl rfl rfl) ?_
   refine U5 rfl rfl rfl (JJ Zh rfl rfl rfl rfl) <| U5 rfl rfl rfl (JJ Zh rfl rfl rfl rfl) <| U5 rfl rfl rfl (JJ Zh rfl rfl rfl rfl) <| U5 rfl rfl rfl (JJ Zh rfl rfl rfl rfl) <| U5 rfl rfl rfl (JJ Zh rfl rfl rfl rfl) <| U5 rfl rfl rfl (JJ Zh rfl rfl rfl rfl) <| U5 rfl rfl rfl (RO.buildN bd_153 rfl (.cons rfl (.cons rfl (.cons rfl (.cons rfl (.cons rfl (.cons rfl (.cons rfl (.cons rfl (.cons rfl (.cons rfl (.cons rfl (.cons rfl (.cons rfl .nil))))))))))))) rfl) <| QL rfl rfl (Qw ag_153 rfl rfl rfl rfl (Ug rfl) rfl) <| Q3 <| Q1 <| Qz ?_
   have e := U3 h2; subst e
   exact hQ2 _ _ _ (.inr rfl) rfl (Qf (U1 rfl U0) (Um rfl (Um rfl (Um rfl (Um rfl (Um rfl (Um rfl (Um rfl (Um rfl (Um rfl Ul))))))))) (Ui rfl Uh) rfl (Nat.le_trans hv2 (Ug rfl)) rfl rfl rfl (UE rfl rfl (UC rfl (UE rfl rfl (UE rfl rfl (UE rfl rfl (UE rfl rfl (UE rfl rfl (UE rfl rfl (UE rfl rfl UB))))))))) rfl rfl)
  refine Q9 rfl rfl (Ug rfl) (J4 rfl rfl rfl hc6 rfl (Um rfl (Um rfl (Um rfl (Um rfl (Um rfl (Um rfl (Um rfl (Um rfl Ul)))))))) (Ui rfl Uh)) <| Q9 rfl rfl (Ug rfl) (QC z_153 rfl) <| QL rfl rfl (Qw ag_153 rfl rfl rfl rfl (Ug rfl) rfl) <| Q3 <| Q1 <| Q2 <| Q0 <| Q9 rfl rfl (Ug rfl) (QC z_155 rfl) <| Q3 <| Q1 <| Q2 <| Q0 <| U5 rfl rfl rfl (RO.makeFunc3 rfl rfl rfl) <| QL rfl rfl (Qw ag_155 rfl rfl rfl rfl (Ug rfl) rfl) ?_
  refine Q3 <| Q1 <| Q0 <| U5 rfl rfl rfl (Q7 ag_155 rfl rfl rfl) <| U5 rfl rfl rfl (Qq Jh rfl rfl rfl rfl) ?_
  refine Qb h1 (fun x7 hx7 h1 => ?_)
  refine Q9 rfl rfl (Ug rfl) (QW (hp1' := [(8, .cells 150 [.yld 7]), (7, .loop .ready none [(3, .v (.one (.ptr 2 0))), (4, .v (.one (.ptr 3 0))), (9, .v (.one (.fn 96 [(4, 0)])))] 31 #[10, 11] JL JK 6), (6, .obj (.deferred (some []))), (2, .cells 116 [.mp 1]), (1, .mp (QT x7.2.1.1) x7.2.1.2), (3, .cells 23 [Ux 5 x7.2.2]), (4, .cells 42 (Uy a0)), (10, .cells 153 [Uw true, Uw false, Uv 0, Uv 0, Uv (-1), Uw false, Uw false, Uv 0, Uv 0, Uv (-1), Uw false, Uw false, Uv 1, Uv 0, Uv (-1), Uw false, Uw true, Uv (-1), Uv 0, Uv (-1), Uw false, Uw false, Uv 0, Uv 2, Uv (-1), Uw false, Uw false, Uv 0, Uv 2, Uv 1, Uw false, Uw false, Uv 0, Uv 2, Uv 1, Uw false, Uw false, Uv 0, Uv 2, Uv 1, Uw false, Uw false, Uv 0, Uv 3, Uv (-1), Uw false, Uw false, Uv 0, Uv 1, Uv (-1), Uw false, Uw false, Uv 0, Uv 1, Uv (-1), Uw false, Uw false, Uv 0, Uv 3, Uv 2, Uw true, Uw false, Uv 0, Uv 0, Uv (-1)]), (11, .cells 155 [.fn 98 [(8, 0), (10, 0), (11, 0)]])]) (tk1' := [(5, some ⟨9, 1, (Enc.encL x7.2.2).length, []⟩)]) (hpF := [(0, .cells 42 (Uy a0)), (9, .cells 153 [Uw true, Uw false, Uv 0, Uv 0, Uv (-1), Uw false, Uw false, Uv 0, Uv 0, Uv (-1), Uw false, Uw false, Uv 1, Uv 0, Uv (-1), Uw false, Uw true, Uv (-1), Uv 0, Uv (-1), Uw false, Uw false, Uv 0, Uv 2, Uv (-1), Uw false, Uw false, Uv 0, Uv 2, Uv 1, Uw false, Uw false, Uv 0, Uv 2, Uv 1, Uw false, Uw false, Uv 0, Uv 2, Uv 1, Uw false, Uw false, Uv 0, Uv 3, Uv (-1), Uw false, Uw false, Uv 0, Uv 1, Uv (-1), Uw false, Uw false, Uv 0, Uv 1, Uv (-1), Uw false, Uw false, Uv 0, Uv 3, Uv 2, Uw true, Uw false, Uv 0, Uv 0, Uv (-1)])]) (tkF := []) (res2 := Qy [.one (Uw x7.1)]) (nx2 := 14) [8, 7, 6, 2, 1, 3, 5, 4, 10, 11] rfl rfl (m98f0_ok a0 0 gmNil ([]) a0 x7 hx7) rfl rfl (Ub rfl rfl (Ub rfl rfl (Ub rfl rfl (Ub rfl rfl (U9 rfl (Ub rfl rfl (Ub rfl rfl (Ub rfl rfl (Ub rfl rfl U8))))))))) rfl rfl (Uq rfl (Uq rfl (Uq rfl (Uq rfl (Ur rfl (Uq rfl (Uq rfl (Uq rfl (Uq rfl Uo))))))))) (Uk rfl Uj) (Um rfl (Um rfl Ul)) Uh rfl rfl rfl rfl rfl (UE rfl rfl (UE rfl rfl (UE rfl rfl (UE rfl rfl (UC rfl (UE rfl rfl (UE rfl rfl (UE rfl rfl (UE rfl rfl UB))))))))) rfl rfl rfl rfl) <| Q3 ?_
  have e := U3 h1; subst e
  exact hQ1 _ _ _ (.inl rfl) rfl (Qf U0 (Um rfl (Um rfl (Um rfl (Um rfl (Um rfl (Um rfl (Um rfl Ul))))))) (Ui rfl Uh) rfl (Nat.le_trans hv1 (Ug rfl)) rfl rfl rfl (UE rfl rfl (UC rfl (UE rfl rfl (UE rfl rfl (UE rfl rfl (UE rfl rfl (UE rfl rfl UB))))))) rfl rfl)
 refine XC.exec (rangeFunc_out (e := .normal) rfl hc4 rfl rfl (by intro h; cases h) rfl) rfl ?_
 refine Qh <| Q1 <| Q2 <| Q0 <| U5 rfl rfl rfl (Q7 Gi rfl rfl rfl) <| U7 rfl rfl rfl <| Q3 <| Q1 <| Qz ?_
 have e := U3 h0; subst e
 exact QK (fun _ _ h => h) rfl (Qk rfl .nil) (.cons (.one (.app _ _ _)) .nil)
end Go.Proofs.Ytijcchddnnnmdaa
namespace Go.Proofs.Ytijcchddnnnmdaa
open Go.RowKit Go.Shelf
set_option linter.unusedSimpArgs false
set_option linter.unusedVariables false
theorem GZ : J5 Try.prog 45 1 = some 1 := by kernel_rfl
theorem ZD : J5 Try.prog 45 2 = some 6 := by kernel_rfl
theorem fo_48_0 : J5 Try.prog 48 0 = some 0 := by kernel_rfl
theorem Z6 : J5 Try.prog 48 1 = some 1 := by kernel_rfl
theorem GY : J5 Try.prog 48 3 = some 3 := by kernel_rfl
theorem KD : J5 Try.prog 48 4 = some 8 := by kernel_rfl
theorem Yf : J5 Try.prog 48 6 = some 14 := by kernel_rfl
theorem YQ : J5 Try.prog 48 7 = some 15 := by kernel_rfl
theorem JB : J5 Try.prog 48 8 = some 22 := by kernel_rfl
theorem GX : J5 Try.prog 84 0 = some 0 := by kernel_rfl
theorem GW : J5 Try.prog 84 1 = some 1 := by kernel_rfl
theorem fo_87_0 : J5 Try.prog 87 0 = some 0 := by kernel_rfl
theorem GV : J5 Try.prog 87 1 = some 1 := by kernel_rfl
theorem JS : J5 Try.prog 87 3 = some 7 := by kernel_rfl
theorem GU : J5 Try.prog 89 0 = some 0 := by kernel_rfl
theorem GT : J5 Try.prog 89 1 = some 1 := by kernel_rfl
theorem GS : J5 Try.prog 89 3 = some 7 := by kernel_rfl
theorem G2 : J5 Try.prog 115 0 = some 0 := by kernel_rfl
theorem fo_115_1 : J5 Try.prog 115 1 = some 1 := by kernel_rfl
theorem G1 : J5 Try.prog 115 2 = some 2 := by kernel_rfl
theorem Kr : Jp Try.prog 4 = some (false, 1) := by kernel_rfl
theorem Zu : Jp Try.prog 43 = some (false, 1) := by kernel_rfl
theorem Yu : Jp Try.prog 46 = some (false, 1) := by kernel_rfl
theorem Jt : Jp Try.prog 48 = some (true, 23) := by kernel_rfl
theorem ag_68 : Jp Try.prog 68 = some (false, 1) := by kernel_rfl
theorem ag_84 : Jp Try.prog 84 = some (true, 6) := by kernel_rfl
theorem YO : Jp Try.prog 85 = some (false, 1) := by kernel_rfl
theorem Gh : Jp Try.prog 87 = some (true, 8) := by kernel_rfl
theorem Zt : Jp Try.prog 89 = some (true, 15) := by kernel_rfl
theorem Zi : Jp Try.prog 115 = some (true, 10) := by kernel_rfl
theorem YU : J6 Try.prog 43 = some (84, 6) := by kernel_rfl
theorem Yd : J6 Try.prog 46 = some (89, 15) := by kernel_rfl
theorem YL : J6 Try.prog 85 = some (115, 10) := by kernel_rfl
theorem z_40 : Js Try.prog 40 = some [.slice none 0 0] := by kernel_rfl
theorem z_84 : Js Try.prog 84 = some [.string ByteArray.empty, .int .i64 0, .int .i64 0, .string ByteArray.empty, .slice none 0 0, .slice none 0 0] := by kernel_rfl
theorem W9 : Js Try.prog 89 = some [.string ByteArray.empty, .int .i64 0, .int .i64 0, .string ByteArray.empty, .slice none 0 0, .slice none 0 0, .int .i64 0, .int .i64 0, .int .i64 0, .int .i64 0, .string ByteArray.empty, .slice none 0 0, .slice none 0 0, .int .i64 0, .slice none 0 0] := by kernel_rfl
theorem W0 : Js Try.prog 115 = some [.string ByteArray.empty, .bool false, .int .i64 0, .int .i64 0, .int .i64 0, .string ByteArray.empty, .slice none 0 0, .slice none 0 0, .int .i64 0, .slice none 0 0] := by kernel_rfl
theorem el_42 : Yj Try.prog 42 = some (5, 80) := by kernel_rfl
theorem en_31 : J2 Try.prog 31 := enters_of Try.func31 (by kernel_rfl) rfl
theorem en_37 : J2 Try.prog 37 := enters_of Try.func37 (by kernel_rfl) rfl
theorem en_52 : J2 Try.prog 52 := enters_of Try.func52 (by kernel_rfl) rfl
theorem en_53 : J2 Try.prog 53 := enters_of Try.func53 (by kernel_rfl) rfl
theorem en_67 : J2 Try.prog 67 := enters_of Try.func67 (by kernel_rfl) rfl
theorem en_73 : J2 Try.prog 73 := enters_of Try.func73 (by kernel_rfl) rfl
theorem en_75 : J2 Try.prog 75 := enters_of Try.func75 (by kernel_rfl) rfl
theorem en_89 : J2 Try.prog 89 := enters_of Try.func89 (by kernel_rfl) rfl
theorem mixed : Try.prog.follows .mixedOrders = true := by kernel_rfl
noncomputable def Je : Code := (UA (UA (Uz (UA (Uz (Uz (Uz (Uz (bodyC Try.f53)))))))))
noncomputable def Jd : Code := (Uz (UA (Uz (UA (Uz (Uz (Uz (Uz (bodyC Try.f53)))))))))
def Gz (a0 : Dcl) (s1 : (List UN) × Int) : Option (LO ((List UN) × Int) (((List UN)))) :=
 cond (decide (s1.2 < (a0.ctors.length : Int)))
   (Option.bind (Jg a0.ctors s1.2) fun (x8 : Ctr) =>
 Qt (Nat.ble (s1.1.length + ([x8.name]).length) 1000000000)
 (some (.next ((s1.1 ++ ([x8.name])), (J1 (s1.2 + 1))))))
   (some (.done s1.1))
def Gy (a0 : Dcl) (s1 : (List UN) × Int) : Option (LO ((List UN) × Int) (((List UN)))) :=
 cond (decide (s1.2 < (a0.funs.length : Int)))
   (Option.bind (Jg a0.funs s1.2) fun (x16 : Fn) =>
 Qt (Nat.ble (s1.1.length + ([x16.name]).length) 1000000000)
 (some (.next ((s1.1 ++ ([x16.name])), (J1 (s1.2 + 1))))))
   (some (.done s1.1))
def Wc (a0 : Dcl) : Option ((List UN)) :=
 Option.bind (cond (a0.kind == 0)
   (some (a0.kind == 0))
   (cond (a0.kind == 1)
   (some (a0.kind == 1))
   (some (a0.kind == 2)))) (fun (v1 : Bool) => cond v1
   (Qt (Nat.ble ([a0.name]).length 1000000000)
 (some ([a0.name])))
   (cond (a0.kind == 3)
   (Qt (Nat.ble ([a0.name]).length 1000000000)
 (Option.bind (Qv (Gz a0) QH ([a0.name], 0)) (fun (o6 : (List UN)) => Qt (Nat.ble (a0.name.length + ([46, 114, 101, 99] : List UInt8).length) 1000000000)
 (Qt (Nat.ble (o6.length + ([(a0.name ++ ([46, 114, 101, 99] : List UInt8))]).length) 1000000000)
 (some (o6 ++ ([(a0.name ++ ([46, 114, 101, 99] : List UInt8))])))))))
   (cond (a0.kind == 4)
   (Option.bind (Qv (Gy a0) QH (([] : List UN), 0)) (fun (o14 : (List UN)) => some o14))
   (some ([] : List UN)))))
set_option maxRecDepth 100000 in
set_option maxHeartbeats 8000000 in
theorem Gx (a0 : Dcl) (r : (List UN)) (h0 : Wc a0 = some r) : Fun Try.prog 37 [.agg (Uy a0)] (Qy [.one (Ut r)]) := by
 unfold Wc at h0
 refine QS 9 61 Try.func37 rfl en_37 rfl (Ug rfl) (fun S w => ?_)
 simp only [J8]
 refine Q2 <| Q0 <| Q9 rfl rfl (Ug rfl) (Jc rfl) <| U7 rfl rfl rfl <| Q3 <| Q1 <| Q2 <| Q0 <| U7 rfl rfl rfl <| Q3 <| Q1 <| Q2 <| Q2 <| Q0 ?_
 refine U5 rfl rfl rfl (Q4 fo_48_0 rfl) <| U5 rfl rfl rfl (Q7 Yx rfl rfl rfl) <| Q3 <| Q1 <| Qc <| Q2 <| Q2 <| Q0 <| U5 rfl rfl rfl (Q5 rfl rfl rfl) <| U7 rfl rfl rfl <| Q3 <| Q1 ?_
 refine Ja (fun (v1 : Bool) => ⟨[(1, .v (.one (.ptr 0 0))), (3, .v (.one (Uu))), (9, .v (.one (Uv a0.kind))), (10, .v (.one (Uw v1)))], [(0, .cells 48 (Uy a0))], [], 1, 61, []⟩) (fun (v1 : Bool) => (cond v1
     (Qt (Nat.ble ([a0.name]).length 1000000000)
   (some ([a0.name])))
     (cond (a0.kind == 3)
     (Qt (Nat.ble ([a0.name]).length 1000000000)
   (Option.bind (Qv (Gz a0) QH ([a0.name], 0)) (fun (o6 : (List UN)) => Qt (Nat.ble (a0.name.length + ([46, 114, 101, 99] : List UInt8).length) 1000000000)
   (Qt (Nat.ble (o6.length + ([(a0.name ++ ([46, 114, 101, 99] : List UInt8))]).length) 1000000000)
   (some (o6 ++ ([(a0.name ++ ([46, 114, 101, 99] : List UInt8))])))))))
     (cond (a0.kind == 4)
     (Option.bind (Qv (Gy a0) QH (([] : List UN), 0)) (fun (o14 : (List UN)) => some o14))
     (some ([] : List UN))))) = some r) ?_ ?_
 refine Qb h0 (fun w1_ h1 h0 => ?_)
 refine Qe (b := (a0.kind == 0)) rfl (fun c2 => ?_) (fun c2 => ?_)
 replace h1 := Qm c2 h1
 refine Qg ?_
 have e := U3 h1; subst e
 exact Qr (a0.kind == 0) (Qf (U1 rfl (U1 rfl (U1 rfl (U1 rfl U0)))) (Um rfl Ul) Uh rfl (Nat.zero_le _) rfl rfl rfl (UE rfl rfl UB) rfl rfl) h0
 replace h1 := Qn c2 h1
 refine Q2 <| Q0 <| U5 rfl rfl rfl (Q5 rfl rfl rfl) <| U7 rfl rfl rfl <| Q3 <| Q1 ?_
 refine Qe (b := (a0.kind == 1)) rfl (fun c3 => ?_) (fun c3 => ?_)
 replace h1 := Qm c3 h1
 refine Qg ?_
 have e := U3 h1; subst e
 exact Qr (a0.kind == 1) (Qf (U1 rfl (U1 rfl (U1 rfl (U1 rfl U0)))) (Um rfl Ul) Uh rfl (Nat.zero_le _) rfl rfl rfl (UE rfl rfl UB) rfl rfl) h0
 replace h1 := Qn c3 h1
 refine Q0 <| U5 rfl rfl rfl (Q5 rfl rfl rfl) <| U7 rfl rfl rfl <| Q3 ?_
 have e := U3 h1; subst e
 exact Qr (a0.kind == 2) (Qf (U1 rfl (U1 rfl (U1 rfl (U1 rfl U0)))) (Um rfl Ul) Uh rfl (Nat.zero_le _) rfl rfl rfl (UE rfl rfl UB) rfl rfl) h0
 intro v1 h0
 refine Q1 ?_
 refine Qe (b := v1) rfl (fun c4 => ?_) (fun c4 => ?_)
 replace h0 := Qm c4 h0
 refine Q0 <| U6 rfl rfl rfl <| U5 rfl rfl rfl (Q4 Z6 rfl) <| U5 rfl rfl rfl (Q7 JG rfl rfl rfl) <| Q9 rfl rfl (Ug rfl) (QZ (α := UN) (a0.name) QU XO rfl rfl (Ug rfl) (Ug rfl) rfl rfl (.cons (.d _) .nil) rfl) ?_
 refine QQ h0 (fun g5 h0 => ?_)
 refine Q9 rfl rfl (Ug rfl) (OpOK.appendNilE (α := UN) QU ZF rfl rfl rfl (.app _ _) g5) <| U7 rfl rfl rfl <| Q3 <| Qh <| Q1 <| Q2 <| Q0 <| U6 rfl rfl rfl <| U7 rfl rfl rfl <| Q3 <| Q1 <| Qz ?_
 have e := U3 h0; subst e
 exact QK (fun _ _ h => h) rfl (Qk rfl .nil) (.cons (.one (.app _ _ _)) .nil)
 replace h0 := Qn c4 h0
 refine Q2 <| Q0 <| U5 rfl rfl rfl (Q5 rfl rfl rfl) <| U7 rfl rfl rfl <| Q3 <| Q1 ?_
 refine Qe (b := (a0.kind == 3)) rfl (fun c6 => ?_) (fun c6 => ?_)
 replace h0 := Qm c6 h0
 refine Q2 <| Q0 <| U6 rfl rfl rfl <| U5 rfl rfl rfl (Q4 Z6 rfl) <| U5 rfl rfl rfl (Q7 JG rfl rfl rfl) <| Q9 rfl rfl (Ug rfl) (QZ (α := UN) (a0.name) QU XO rfl rfl (Ug rfl) (Ug rfl) rfl rfl (.cons (.d _) .nil) rfl) ?_
 refine QQ h0 (fun g7 h0 => ?_)
 refine Q9 rfl rfl (Ug rfl) (OpOK.appendNilE (α := UN) QU ZF rfl rfl rfl (.app _ _) g7) <| U7 rfl rfl rfl <| Q3 <| Q1 <| Q2 <| Q2 <| Q0 <| U5 rfl rfl rfl (Q4 Yf rfl) <| U5 rfl rfl rfl (Q7 Zu rfl rfl rfl) <| U5 rfl rfl rfl (QB (α := Ctr) YU rfl (.d _)) <| U6 rfl rfl rfl <| Q3 <| Q1 <| Qc ?_
 refine QF 1 (fun (o8 : (List UN)) => ⟨[(1, .v (.one (.ptr 0 0))), (3, .v (.one (Ux 2 o8)))], [(0, .cells 48 (Uy a0))], [(1, some ⟨9, 1, (Enc.encL ([a0.name] : List UN)).length, []⟩), (2, some ⟨9, 1, (Enc.encL o8).length, []⟩)], 3, 61, []⟩) (fun (o8 : (List UN)) => (Qt (Nat.ble (a0.name.length + ([46, 114, 101, 99] : List UInt8).length) 1000000000)
   (Qt (Nat.ble (o8.length + ([(a0.name ++ ([46, 114, 101, 99] : List UInt8))]).length) 1000000000)
   (some (o8 ++ ([(a0.name ++ ([46, 114, 101, 99] : List UInt8))]))))) = some r) ?_ ?_
 refine Qb h0 (fun o9 hl1 h0 => ?_)
 refine QE (Gz a0) (fun s1 => ⟨[(1, .v (.one (.ptr 0 0))), (3, .v (.one (Ux 2 s1.1))), (27, .v (.one (Ut a0.ctors))), (28, .v (.one (Uv (a0.ctors.length : Int)))), (29, .v (.one (Uv s1.2)))], [(0, .cells 48 (Uy a0))], [(1, some ⟨9, 1, (Enc.encL ([a0.name] : List UN)).length, []⟩), (2, some ⟨9, 1, (Enc.encL s1.1).length, []⟩)], 3, 61, []⟩) ([a0.name], 0) o9 (Qf (U1 rfl (U1 rfl (U1 rfl (U1 rfl (U1 rfl U0))))) (Um rfl Ul) (Ui rfl (Ui rfl Uh)) rfl (Nat.zero_le _) rfl rfl rfl (UE rfl rfl UB) rfl rfl) hl1 (fun s1 n1 oo1 h1 ho1 => ?_)
 unfold Gz at h1
 refine Q2 <| Q0 <| U5 rfl rfl rfl (Q5 rfl rfl rfl) <| Q3 <| Q1 <| Q2 ?_
 refine Qe (b := (decide (s1.2 < (a0.ctors.length : Int)))) rfl (fun c10 => ?_) (fun c10 => ?_)
 replace h1 := Qm c10 h1
 refine Qg <| Q1 <| Q2 <| Qc <| Q2 <| Q0 ?_
 refine Qb h1 (fun x11 hx11 h1 => ?_)
 refine U5 rfl rfl rfl (Qi (α := Ctr) YU rfl (.d _) rfl hx11) <| U5 rfl rfl rfl (QY ag_84 rfl rfl rfl) <| Q9 rfl rfl (Ug rfl) (QC z_84 rfl) <| QL rfl rfl (Qw ag_84 rfl rfl rfl rfl (Ug rfl) rfl) <| Q3 <| Q1 <| Q0 <| U6 rfl rfl rfl <| U5 rfl rfl rfl (Q4 GX rfl) <| U5 rfl rfl rfl (Q7 JG rfl rfl rfl) <| Q9 rfl rfl (Ug rfl) (QZ (α := UN) (x11.name) QU XO rfl rfl (Ug rfl) (Ug rfl) rfl rfl (.cons (.d _) .nil) rfl) ?_
 refine QQ h1 (fun g12 h1 => ?_)
 refine Q9 rfl rfl (Ug rfl) (QO (α := UN) QU ZF rfl rfl rfl rfl rfl (.app _ _) g12) <| U7 rfl rfl rfl <| Q3 <| Qh <| Q1 <| Q0 <| U5 rfl rfl rfl (Q5 rfl rfl rfl) <| U6 rfl rfl rfl <| Q3 ?_
 have e := U3 h1; subst e
 refine QA ((s1.1 ++ ([x11.name])), (J1 (s1.2 + 1))) (Qf (U1 rfl (U1 rfl (U1 rfl (U1 rfl (U1 rfl U0))))) (Um rfl Ul) (Ui rfl (Ui rfl Uh)) rfl (Nat.zero_le _) rfl rfl rfl (UE rfl rfl UB) rfl rfl) ho1
 replace h1 := Qn c10 h1
 refine QJ <| Qd <| Qd ?_
 have e := U3 h1; subst e
 have e_ : _ = _ := ho1
 subst e_
 exact QD s1.1 (Qf (U1 rfl (U1 rfl U0)) (Um rfl Ul) (Ui rfl (Ui rfl Uh)) rfl (Nat.zero_le _) rfl rfl rfl (UE rfl rfl UB) rfl rfl) h0
 intro o8 h0
 refine Qu <| Q1 <| Q0 <| U6 rfl rfl rfl <| U5 rfl rfl rfl (Q4 Z6 rfl) <| U5 rfl rfl rfl (Q7 JG rfl rfl rfl) ?_
 refine QQ h0 (fun g13 h0 => ?_)
 refine U5 rfl rfl rfl (RO.addS rfl rfl g13) <| Q9 rfl rfl (Ug rfl) (QZ (α := UN) ((a0.name ++ ([46, 114, 101, 99] : List UInt8))) QU XO rfl rfl (Ug rfl) (Ug rfl) rfl rfl (.cons (.d _) .nil) rfl) ?_
 refine QQ h0 (fun g14 h0 => ?_)
 refine Q9 rfl rfl (Ug rfl) (QO (α := UN) QU ZF rfl rfl rfl rfl rfl (.app _ _) g14) <| U7 rfl rfl rfl <| Q3 <| Qh <| Q1 <| Q2 <| Q0 <| U6 rfl rfl rfl <| U7 rfl rfl rfl <| Q3 <| Q1 <| Qz ?_
 have e := U3 h0; subst e
 exact QK (fun _ _ h => h) rfl (Qk rfl .nil) (.cons (.one (.app _ _ _)) .nil)
 replace h0 := Qn c6 h0
 refine Q2 <| Q0 <| U5 rfl rfl rfl (Q5 rfl rfl rfl) <| U7 rfl rfl rfl <| Q3 <| Q1 ?_
 refine Qe (b := (a0.kind == 4)) rfl (fun c15 => ?_) (fun c15 => ?_)
 replace h0 := Qm c15 h0
 refine Q2 <| Q0 <| U5 rfl rfl rfl (Q4 JB rfl) <| U5 rfl rfl rfl (Q7 Yu rfl rfl rfl) <| U5 rfl rfl rfl (QB (α := Fn) Yd rfl (.d _)) <| U6 rfl rfl rfl <| Q3 <| Q1 <| Qc ?_
 refine QF 3 (fun (o16 : (List UN)) => ⟨[(3, .v (.one (Ux 1 o16)))], [(0, .cells 48 (Uy a0))], [(1, some ⟨9, 1, (Enc.encL o16).length, []⟩)], 2, 61, []⟩) (fun (o16 : (List UN)) => (some o16) = some r) ?_ ?_
 refine JD (t := 3) 9 1 rfl ?_
 refine Qb h0 (fun o17 hl1 h0 => ?_)
 refine QE (Gy a0) (fun s1 => ⟨[(3, .v (.one (Ux 1 s1.1))), (48, .v (.one (Ut a0.funs))), (49, .v (.one (Uv (a0.funs.length : Int)))), (50, .v (.one (Uv s1.2)))], [(0, .cells 48 (Uy a0))], [(1, some ⟨9, 1, (Enc.encL s1.1).length, []⟩)], 2, 61, []⟩) (([] : List UN), 0) o17 (Qf (U1 rfl (U1 rfl (U1 rfl (U1 rfl U0)))) (Um rfl Ul) (Ui rfl Uh) rfl (Nat.zero_le _) rfl rfl rfl (UE rfl rfl UB) rfl rfl) hl1 (fun s1 n1 oo1 h1 ho1 => ?_)
 unfold Gy at h1
 refine Q2 <| Q0 <| U5 rfl rfl rfl (Q5 rfl rfl rfl) <| Q3 <| Q1 <| Q2 ?_
 refine Qe (b := (decide (s1.2 < (a0.funs.length : Int)))) rfl (fun c18 => ?_) (fun c18 => ?_)
 replace h1 := Qm c18 h1
 refine Qg <| Q1 <| Q2 <| Qc <| Q2 <| Q0 ?_
 refine Qb h1 (fun x19 hx19 h1 => ?_)
 refine U5 rfl rfl rfl (Qi (α := Fn) Yd rfl (.d _) rfl hx19) <| U5 rfl rfl rfl (QY Zt rfl rfl rfl) <| Q9 rfl rfl (Ug rfl) (QC W9 rfl) <| QL rfl rfl (Qw Zt rfl rfl rfl rfl (Ug rfl) rfl) <| Q3 <| Q1 <| Q0 <| U6 rfl rfl rfl <| U5 rfl rfl rfl (Q4 GU rfl) <| U5 rfl rfl rfl (Q7 JG rfl rfl rfl) <| Q9 rfl rfl (Ug rfl) (QZ (α := UN) (x19.name) QU XO rfl rfl (Ug rfl) (Ug rfl) rfl rfl (.cons (.d _) .nil) rfl) ?_
 refine QQ h1 (fun g20 h1 => ?_)
 refine Q9 rfl rfl (Ug rfl) (QO (α := UN) QU ZF rfl rfl rfl rfl rfl (.app _ _) g20) <| U7 rfl rfl rfl <| Q3 <| Qh <| Q1 <| Q0 <| U5 rfl rfl rfl (Q5 rfl rfl rfl) <| U6 rfl rfl rfl <| Q3 ?_
 have e := U3 h1; subst e
 refine QA ((s1.1 ++ ([x19.name])), (J1 (s1.2 + 1))) (Qf (U1 rfl (U1 rfl (U1 rfl (U1 rfl U0)))) (Um rfl Ul) (Ui rfl Uh) rfl (Nat.zero_le _) rfl rfl rfl (UE rfl rfl UB) rfl rfl) ho1
 replace h1 := Qn c18 h1
 refine QJ <| Qd <| Qd ?_
 have e := U3 h1; subst e
 have e_ : _ = _ := ho1
 subst e_
 exact QD s1.1 (Qf (U1 rfl U0) (Um rfl Ul) (Ui rfl Uh) rfl (Nat.zero_le _) rfl rfl rfl (UE rfl rfl UB) rfl rfl) h0
 intro o16 h0
 refine Qu <| Qh <| Q1 <| Q2 <| Q0 <| U6 rfl rfl rfl <| U7 rfl rfl rfl <| Q3 <| Q1 <| Qz ?_
 have e := U3 h0; subst e
 exact QK (fun _ _ h => h) rfl (Qk rfl .nil) (.cons (.one (.app _ _ _)) .nil)
 replace h0 := Qn c15 h0
 refine Qg <| Qh <| Q1 <| Q2 <| Q0 <| U6 rfl rfl rfl <| U7 rfl rfl rfl <| Q3 <| Q1 <| Qz ?_
 have e := U3 h0; subst e
 exact QK (fun _ _ h => h) rfl (Qk rfl .nil) (.cons (.one (.nil _)) .nil)
def m89f4 (a0 : UN) (a1 : Qj UN Bool) (a2 : List UN) (a3 : List Tm) (a4 : Dcl) : Option ((Qj UN Bool) × (List UN)) :=
 Option.bind (cond (!(Jl a1 a0))
   (Qt (Nat.ble (a2.length + ([a0]).length) 1000000000)
 (some ((Y5 a1 a0 true), (a2 ++ ([a0])))))
   (some (a1, a2))) (fun (y1 : (Qj UN Bool) × (List UN)) => some (y1.1, y1.2))
set_option maxRecDepth 100000 in
set_option maxHeartbeats 8000000 in
theorem m89f4_ok (a0 : UN) (a1 : Qj UN Bool) (a2 : List UN) (a3 : List Tm) (a4 : Dcl) (r : (Qj UN Bool) × (List UN)) (h0 : m89f4 a0 a1 a2 a3 a4 = some r) : CallM Try.prog 89 [.one (YZ a0), .one (.ptr 0 0)] ⟨[(0, .cells 68 [.yld 1]), (1, .loop .ready none [(3, .v (.one (.ptr 3 0))), (6, .v (.one (.ptr 5 0))), (20, .v (.one (.fn 73 [(7, 0), (9, 0)])))] 33 #[21] Je Jd 2), (2, .obj (.deferred (some []))), (3, .cells 116 [.mp 4]), (4, .mp (QT a1.1) a1.2), (5, .cells 23 [Ux 6 a2]), (7, .cells 40 [Ux 8 a3]), (9, .cells 48 (Uy a4))], [(6, some ⟨9, 1, (Enc.encL a2).length, []⟩), (8, some ⟨42, 5, (Enc.encL a3).length, []⟩)], 10⟩ (Qy [.one (Uw false)]) ⟨[(0, .cells 68 [.yld 1]), (1, .loop .ready none [(3, .v (.one (.ptr 3 0))), (6, .v (.one (.ptr 5 0))), (20, .v (.one (.fn 73 [(7, 0), (9, 0)])))] 33 #[21] Je Jd 2), (2, .obj (.deferred (some []))), (3, .cells 116 [.mp 4]), (4, .mp (QT r.1.1) r.1.2), (5, .cells 23 [Ux 6 r.2]), (7, .cells 40 [Ux 8 a3]), (9, .cells 48 (Uy a4))], [(6, some ⟨9, 1, (Enc.encL r.2).length, []⟩), (8, some ⟨42, 5, (Enc.encL a3).length, []⟩)], 10⟩ := by
 unfold m89f4 at h0
 refine QP ⟨[(3, .v (.one (Uw false)))], [(0, .cells 68 [.yld 1]), (1, .loop .ready none [(3, .v (.one (.ptr 3 0))), (6, .v (.one (.ptr 5 0))), (20, .v (.one (.fn 73 [(7, 0), (9, 0)])))] 33 #[21] Je Jd 2), (2, .obj (.deferred (some []))), (3, .cells 116 [.mp 4]), (4, .mp (QT r.1.1) r.1.2), (5, .cells 23 [Ux 6 r.2]), (7, .cells 40 [Ux 8 a3]), (9, .cells 48 (Uy a4))], [(6, some ⟨9, 1, (Enc.encL r.2).length, []⟩), (8, some ⟨42, 5, (Enc.encL a3).length, []⟩)], 10, 8, []⟩ rfl rfl en_89 (Ug rfl) rfl (Qk rfl .nil) (fun w0 M V0 Q hv0 hQ0 => ?_)
 simp only [J8]
 refine Q2 <| Q0 <| U7 rfl rfl rfl <| Q3 <| Q1 <| Q2 <| Q0 <| U5 rfl rfl rfl (Q7 ag_68 rfl rfl rfl) <| U6 rfl rfl rfl ?_
 refine Qb h0 (fun y1 h1 h0 => ?_)
 have ha2 : ExecOK Try.prog (some 1) Je ⟨[(3, .v (.one (.ptr 3 0))), (6, .v (.one (.ptr 5 0))), (20, .v (.one (.fn 73 [(7, 0), (9, 0)]))), (21, .v (.one (YZ a0)))], [(0, .cells 68 [.yld 1]), (1, .loop .ready none [(3, .v (.one (.ptr 3 0))), (6, .v (.one (.ptr 5 0))), (20, .v (.one (.fn 73 [(7, 0), (9, 0)])))] 33 #[21] Je Jd 2), (2, .obj (.deferred (some []))), (3, .cells 116 [.mp 4]), (4, .mp (QT a1.1) a1.2), (5, .cells 23 [Ux 6 a2]), (7, .cells 40 [Ux 8 a3]), (9, .cells 48 (Uy a4))], [(6, some ⟨9, 1, (Enc.encL a2).length, []⟩), (8, some ⟨42, 5, (Enc.encL a3).length, []⟩)], 10, 33, []⟩ .normal ⟨[(3, .v (.one (.ptr 3 0))), (6, .v (.one (.ptr 5 0))), (7, .v (.one (YZ a0)))], [(0, .cells 68 [.yld 1]), (1, .loop .ready none [(3, .v (.one (.ptr 3 0))), (6, .v (.one (.ptr 5 0))), (20, .v (.one (.fn 73 [(7, 0), (9, 0)])))] 33 #[21] Je Jd 2), (2, .obj (.deferred (some []))), (3, .cells 116 [.mp 4]), (4, .mp (QT a1.1) a1.2), (5, .cells 23 [Ux 6 a2]), (7, .cells 40 [Ux 8 a3]), (9, .cells 48 (Uy a4))], [(6, some ⟨9, 1, (Enc.encL a2).length, []⟩), (8, some ⟨42, 5, (Enc.encL a3).length, []⟩)], 10, 33, []⟩ := by
  refine Yv (fun w0 M V0 ro n Q hv1 hro1 hQn1 => ?_)
  refine Q0 <| U7 rfl rfl rfl <| Q3 ?_
  exact KH hQn1 (Qf (U1 rfl (U1 rfl (U1 rfl U0))) (Um rfl (Um rfl (Um rfl (Um rfl (Um rfl (Um rfl (Um rfl (Um rfl Ul)))))))) (Ui rfl (Ui rfl Uh)) rfl (Nat.le_trans hv1 (Ug rfl)) rfl rfl rfl (UE rfl rfl (UE rfl rfl (UE rfl rfl (UE rfl rfl (UC rfl (UE rfl rfl (UE rfl rfl (UE rfl rfl UB)))))))) rfl rfl)
 have hb3 : ExecOK Try.prog (some 1) Jd ⟨[(3, .v (.one (.ptr 3 0))), (6, .v (.one (.ptr 5 0))), (7, .v (.one (YZ a0)))], [(0, .cells 68 [.yld 1]), (1, .loop .busy none [(3, .v (.one (.ptr 3 0))), (6, .v (.one (.ptr 5 0))), (20, .v (.one (.fn 73 [(7, 0), (9, 0)])))] 33 #[21] Je Jd 2), (2, .obj (.deferred (some []))), (3, .cells 116 [.mp 4]), (4, .mp (QT a1.1) a1.2), (5, .cells 23 [Ux 6 a2]), (7, .cells 40 [Ux 8 a3]), (9, .cells 48 (Uy a4))], [(6, some ⟨9, 1, (Enc.encL a2).length, []⟩), (8, some ⟨42, 5, (Enc.encL a3).length, []⟩)], 10, 33, []⟩ .normal ⟨[], [(0, .cells 68 [.yld 1]), (1, .loop .busy none [(3, .v (.one (.ptr 3 0))), (6, .v (.one (.ptr 5 0))), (20, .v (.one (.fn 73 [(7, 0), (9, 0)])))] 33 #[21] Je Jd 2), (2, .obj (.deferred (some []))), (3, .cells 116 [.mp 4]), (4, .mp (QT y1.1.1) y1.1.2), (5, .cells 23 [Ux 6 y1.2]), (7, .cells 40 [Ux 8 a3]), (9, .cells 48 (Uy a4))], [(6, some ⟨9, 1, (Enc.encL y1.2).length, []⟩), (8, some ⟨42, 5, (Enc.encL a3).length, []⟩)], 10, 33, []⟩ := by
  refine Yv (fun w0 M V0 ro n Q hv1 hro1 hQn1 => ?_)
  refine Qc <| Q2 <| Q0 <| U5 rfl rfl rfl (Q7 K7 rfl rfl rfl) <| U6 rfl rfl rfl <| U5 rfl rfl rfl (RO.lookupGF (M := a1) (k := a0) Kw zok_bool rfl rfl rfl) <| U5 rfl rfl rfl (J9 rfl) <| Q3 <| Q1 ?_
  refine Qe (b := (!(Jl a1 a0))) rfl (fun c4 => ?_) (fun c4 => ?_)
  replace h1 := Qm c4 h1
  refine Q2 <| Q0 <| U5 rfl rfl rfl (Q7 K7 rfl rfl rfl) <| U6 rfl rfl rfl <| QL rfl rfl (JW (M := a1) (k := a0) (v := true) Kw rfl rfl rfl rfl rfl) <| Q3 <| Q1 <| Q0 <| U5 rfl rfl rfl (Q7 Gi rfl rfl rfl) <| U6 rfl rfl rfl <| Q9 rfl rfl (Ug rfl) (QZ (α := UN) (a0) QU XO rfl rfl (Ug rfl) (Ug rfl) rfl rfl (.cons (.d _) .nil) rfl) ?_
  refine QQ h1 (fun g5 h1 => ?_)
  refine Q9 rfl rfl (Ug rfl) (QO (α := UN) QU ZF rfl rfl rfl rfl rfl (.app _ _) g5) <| QL rfl rfl (Qw Gi rfl rfl rfl rfl (Ug rfl) rfl) <| Q3 <| Qh ?_
  have e := U3 h1; subst e
  exact KH hQn1 (Qf U0 (Um rfl (Um rfl (Um rfl (Um rfl (Um rfl (Um rfl (Um rfl (Um rfl Ul)))))))) (Ui rfl (Ui rfl Uh)) rfl (Nat.le_trans hv1 (Ug rfl)) rfl rfl rfl (UE rfl rfl (UE rfl rfl (UE rfl rfl (UE rfl rfl (UC rfl (UE rfl rfl (UE rfl rfl (UE rfl rfl UB)))))))) rfl rfl)
  replace h1 := Qn c4 h1
  refine Qg <| Qh ?_
  have e := U3 h1; subst e
  exact KH hQn1 (Qf U0 (Um rfl (Um rfl (Um rfl (Um rfl (Um rfl (Um rfl (Um rfl (Um rfl Ul)))))))) (Ui rfl (Ui rfl Uh)) rfl (Nat.le_trans hv1 (Ug rfl)) rfl rfl rfl (UE rfl rfl (UE rfl rfl (UE rfl rfl (UE rfl rfl (UC rfl (UE rfl rfl (UE rfl rfl (UE rfl rfl UB)))))))) rfl rfl)
 refine Q9 rfl rfl (Ug rfl) (OpOK.yield (jump := none) rfl rfl rfl rfl rfl (Yw ha2 (fun E hv => (Qf (U1 rfl (U1 rfl (U1 rfl (U1 rfl U0)))) (Um rfl (Um rfl (Um rfl (Um rfl (Um rfl (Um rfl (Um rfl (Um rfl Ul)))))))) (Ui rfl (Ui rfl Uh)) rfl (Nat.le_trans hv (Ug rfl)) rfl rfl rfl (UE rfl rfl (UE rfl rfl (UE rfl rfl (UE rfl rfl (UC rfl (UE rfl rfl (UE rfl rfl (UE rfl rfl UB)))))))) rfl rfl))) rfl (Yw hb3 (fun E hv => (Qf (U1 rfl (U1 rfl (U1 rfl U0))) (Um rfl (Um rfl (Um rfl (Um rfl (Um rfl (Um rfl (Um rfl (Um rfl Ul)))))))) (Ui rfl (Ui rfl Uh)) rfl (Nat.le_trans hv (Ug rfl)) rfl rfl rfl (UE rfl rfl (UE rfl rfl (UE rfl rfl (UE rfl rfl (UC rfl (UE rfl rfl (UE rfl rfl (UE rfl rfl UB)))))))) rfl rfl))) rfl rfl) ?_
 refine U5 rfl rfl rfl (J9 rfl) <| U7 rfl rfl rfl <| Q3 <| Q1 <| Qz ?_
 have e := U3 h0; subst e
 exact hQ0 _ _ _ (.inr rfl) rfl (Qf (U1 rfl U0) (Um rfl (Um rfl (Um rfl (Um rfl (Um rfl (Um rfl (Um rfl (Um rfl Ul)))))))) (Ui rfl (Ui rfl Uh)) rfl (Nat.le_trans hv0 (Ug rfl)) rfl rfl rfl (UE rfl rfl (UE rfl rfl (UE rfl rfl (UE rfl rfl (UC rfl (UE rfl rfl (UE rfl rfl (UE rfl rfl UB)))))))) rfl rfl)
def Kh (a0 : List UN) (a3 : List Tm) (a4 : Dcl) (s1 : Int × (Qj UN Bool) × (List UN)) : Option (LO (Int × (Qj UN Bool) × (List UN)) (((Qj UN Bool) × (List UN)))) :=
 cond (decide (s1.1 < (a0.length : Int)))
   (Option.bind (Jg a0 s1.1) fun (x3 : UN) =>
 Option.bind (m89f4 x3 s1.2.1 s1.2.2 a3 a4) fun (x4 : (Qj UN Bool) × (List UN)) =>
 some (.next ((J1 (s1.1 + 1)), x4.1, x4.2)))
   (some (.done (s1.2.1, s1.2.2)))
def W4 (a0 : List UN) (a1 : Qj UN Bool) (a2 : List UN) (a3 : List Tm) (a4 : Dcl) : Option ((Qj UN Bool) × (List UN)) :=
 Option.bind (Qv (Kh a0 a3 a4) QH (0, a1, a2)) (fun (o1 : (Qj UN Bool) × (List UN)) => some (o1.1, o1.2))
set_option maxRecDepth 100000 in
set_option maxHeartbeats 8000000 in
theorem m52f3_ok (a0 : List UN) (a1 : Qj UN Bool) (a2 : List UN) (a3 : List Tm) (a4 : Dcl) (r : (Qj UN Bool) × (List UN)) (h0 : W4 a0 a1 a2 a3 a4 = some r) : CallM Try.prog 52 [.one (Ut a0), .one (.fn 89 [(0, 0)])] ⟨[(0, .cells 68 [.yld 1]), (1, .loop .ready none [(3, .v (.one (.ptr 3 0))), (6, .v (.one (.ptr 5 0))), (20, .v (.one (.fn 73 [(7, 0), (9, 0)])))] 33 #[21] Je Jd 2), (2, .obj (.deferred (some []))), (3, .cells 116 [.mp 4]), (4, .mp (QT a1.1) a1.2), (5, .cells 23 [Ux 6 a2]), (7, .cells 40 [Ux 8 a3]), (9, .cells 48 (Uy a4))], [(6, some ⟨9, 1, (Enc.encL a2).length, []⟩), (8, some ⟨42, 5, (Enc.encL a3).length, []⟩)], 10⟩ (Qy [.one (Uv (-1))]) ⟨[(0, .cells 68 [.yld 1]), (1, .loop .ready none [(3, .v (.one (.ptr 3 0))), (6, .v (.one (.ptr 5 0))), (20, .v (.one (.fn 73 [(7, 0), (9, 0)])))] 33 #[21] Je Jd 2), (2, .obj (.deferred (some []))), (3, .cells 116 [.mp 4]), (4, .mp (QT r.1.1) r.1.2), (5, .cells 23 [Ux 6 r.2]), (7, .cells 40 [Ux 8 a3]), (9, .cells 48 (Uy a4))], [(6, some ⟨9, 1, (Enc.encL r.2).length, []⟩), (8, some ⟨42, 5, (Enc.encL a3).length, []⟩)], 10⟩ := by
 unfold W4 at h0
 refine QP ⟨[(4, .v (.one (Uv (-1))))], [(0, .cells 68 [.yld 1]), (1, .loop .ready none [(3, .v (.one (.ptr 3 0))), (6, .v (.one (.ptr 5 0))), (20, .v (.one (.fn 73 [(7, 0), (9, 0)])))] 33 #[21] Je Jd 2), (2, .obj (.deferred (some []))), (3, .cells 116 [.mp 4]), (4, .mp (QT r.1.1) r.1.2), (5, .cells 23 [Ux 6 r.2]), (7, .cells 40 [Ux 8 a3]), (9, .cells 48 (Uy a4))], [(6, some ⟨9, 1, (Enc.encL r.2).length, []⟩), (8, some ⟨42, 5, (Enc.encL a3).length, []⟩)], 10, 19, []⟩ rfl rfl en_52 (Ug rfl) rfl (Qk rfl .nil) (fun w0 M V0 Q hv0 hQ0 => ?_)
 simp only [J8]
 refine Q2 <| Q0 <| U7 rfl rfl rfl <| Q3 <| Q1 <| Q2 <| Q2 <| Q0 <| U6 rfl rfl rfl <| U5 rfl rfl rfl (QB (α := UN) QU rfl (.d _)) <| U6 rfl rfl rfl <| Q3 <| Q1 <| Qc ?_
 refine QF 0 (fun (o1 : (Qj UN Bool) × (List UN)) => ⟨[], [(0, .cells 68 [.yld 1]), (1, .loop .ready none [(3, .v (.one (.ptr 3 0))), (6, .v (.one (.ptr 5 0))), (20, .v (.one (.fn 73 [(7, 0), (9, 0)])))] 33 #[21] Je Jd 2), (2, .obj (.deferred (some []))), (3, .cells 116 [.mp 4]), (4, .mp (QT o1.1.1) o1.1.2), (5, .cells 23 [Ux 6 o1.2]), (7, .cells 40 [Ux 8 a3]), (9, .cells 48 (Uy a4))], [(6, some ⟨9, 1, (Enc.encL o1.2).length, []⟩), (8, some ⟨42, 5, (Enc.encL a3).length, []⟩)], 10, 19, []⟩) (fun (o1 : (Qj UN Bool) × (List UN)) => (some (o1.1, o1.2)) = some r) ?_ ?_
 refine Qb h0 (fun o2 hl1 h0 => ?_)
 refine QE (Kh a0 a3 a4) (fun s1 => ⟨[(0, .v (.one (Ut a0))), (1, .v (.one (.fn 89 [(0, 0)]))), (7, .v (.one (Uv (a0.length : Int)))), (8, .v (.one (Uv s1.1)))], [(0, .cells 68 [.yld 1]), (1, .loop .ready none [(3, .v (.one (.ptr 3 0))), (6, .v (.one (.ptr 5 0))), (20, .v (.one (.fn 73 [(7, 0), (9, 0)])))] 33 #[21] Je Jd 2), (2, .obj (.deferred (some []))), (3, .cells 116 [.mp 4]), (4, .mp (QT s1.2.1.1) s1.2.1.2), (5, .cells 23 [Ux 6 s1.2.2]), (7, .cells 40 [Ux 8 a3]), (9, .cells 48 (Uy a4))], [(6, some ⟨9, 1, (Enc.encL s1.2.2).length, []⟩), (8, some ⟨42, 5, (Enc.encL a3).length, []⟩)], 10, 19, []⟩) (0, a1, a2) o2 (Qf (U1 rfl (U1 rfl (U1 rfl (U1 rfl U0)))) (Um rfl (Um rfl (Um rfl (Um rfl (Um rfl (Um rfl (Um rfl (Um rfl Ul)))))))) (Ui rfl (Ui rfl Uh)) rfl (Nat.le_trans hv0 (Ug rfl)) rfl rfl rfl (UE rfl rfl (UE rfl rfl (UE rfl rfl (UE rfl rfl (UC rfl (UE rfl rfl (UE rfl rfl (UE rfl rfl UB)))))))) rfl rfl) hl1 (fun s1 n1 oo1 h1 ho1 => ?_)
 unfold Kh at h1
 refine Q2 <| Q0 <| U5 rfl rfl rfl (Q5 rfl rfl rfl) <| Q3 <| Q1 <| Q2 ?_
 refine Qe (b := (decide (s1.1 < (a0.length : Int)))) rfl (fun c3 => ?_) (fun c3 => ?_)
 replace h1 := Qm c3 h1
 refine Qg <| Q1 <| Q2 <| Qc <| Q2 <| Q0 <| U6 rfl rfl rfl <| U7 rfl rfl rfl <| Q3 <| Q1 <| Q2 <| Q0 <| U6 rfl rfl rfl <| U6 rfl rfl rfl ?_
 refine U6 rfl rfl rfl ?_
 refine Qb h1 (fun x4 hx4 h1 => ?_)
 refine U5 rfl rfl rfl (Qi (α := UN) QU rfl (.d _) rfl hx4) <| U5 rfl rfl rfl (QI JG rfl rfl) ?_
 refine Qb h1 (fun x5 hx5 h1 => ?_)
 refine Q9 rfl rfl (Ug rfl) (QW (hp1' := [(0, .cells 68 [.yld 1]), (1, .loop .ready none [(3, .v (.one (.ptr 3 0))), (6, .v (.one (.ptr 5 0))), (20, .v (.one (.fn 73 [(7, 0), (9, 0)])))] 33 #[21] Je Jd 2), (2, .obj (.deferred (some []))), (3, .cells 116 [.mp 4]), (4, .mp (QT x5.1.1) x5.1.2), (5, .cells 23 [Ux 6 x5.2]), (7, .cells 40 [Ux 8 a3]), (9, .cells 48 (Uy a4))]) (tk1' := [(6, some ⟨9, 1, (Enc.encL x5.2).length, []⟩), (8, some ⟨42, 5, (Enc.encL a3).length, []⟩)]) (hpF := []) (tkF := []) (res2 := Qy [.one (Uw false)]) (nx2 := 10) [0, 1, 2, 3, 4, 5, 6, 7, 8, 9] rfl rfl (m89f4_ok x4 s1.2.1 s1.2.2 a3 a4 x5 hx5) rfl rfl (Ub rfl rfl (Ub rfl rfl (Ub rfl rfl (Ub rfl rfl (U9 rfl (Ub rfl rfl (Ub rfl rfl (Ub rfl rfl U8)))))))) rfl rfl (Uq rfl (Uq rfl (Uq rfl (Uq rfl (Ur rfl (Uq rfl (Uq rfl (Uq rfl Uo)))))))) (Uk rfl (Uk rfl Uj)) Ul Uh rfl rfl rfl rfl rfl (UE rfl rfl (UE rfl rfl (UE rfl rfl (UE rfl rfl (UC rfl (UE rfl rfl (UE rfl rfl (UE rfl rfl UB)))))))) rfl rfl rfl rfl) <| Q3 <| Q1 ?_
 refine Qe rfl (fun h => nomatch h) (fun _ => ?_)
 refine Qg <| Qh <| Q1 <| Q0 <| U5 rfl rfl rfl (Q5 rfl rfl rfl) <| U6 rfl rfl rfl <| Q3 ?_
 have e := U3 h1; subst e
 refine QA ((J1 (s1.1 + 1)), x5.1, x5.2) (Qf (U1 rfl (U1 rfl (U1 rfl (U1 rfl U0)))) (Um rfl (Um rfl (Um rfl (Um rfl (Um rfl (Um rfl (Um rfl (Um rfl Ul)))))))) (Ui rfl (Ui rfl Uh)) rfl (Nat.le_trans hv0 (Ug rfl)) rfl rfl rfl (UE rfl rfl (UE rfl rfl (UE rfl rfl (UE rfl rfl (UC rfl (UE rfl rfl (UE rfl rfl (UE rfl rfl UB)))))))) rfl rfl) ho1
 replace h1 := Qn c3 h1
 refine QJ <| Qd <| Qd ?_
 have e := U3 h1; subst e
 have e_ : _ = _ := ho1
 subst e_
 exact QD (s1.2.1, s1.2.2) (Qf U0 (Um rfl (Um rfl (Um rfl (Um rfl (Um rfl (Um rfl (Um rfl (Um rfl Ul)))))))) (Ui rfl (Ui rfl Uh)) rfl (Nat.le_trans hv0 (Ug rfl)) rfl rfl rfl (UE rfl rfl (UE rfl rfl (UE rfl rfl (UE rfl rfl (UC rfl (UE rfl rfl (UE rfl rfl (UE rfl rfl UB)))))))) rfl rfl) h0
 intro o1 h0
 refine Qu <| Q1 <| Q2 <| Q0 <| U7 rfl rfl rfl <| Q3 <| Q1 <| Qz ?_
 have e := U3 h0; subst e
 exact hQ0 _ _ _ (.inr rfl) rfl (Qf (U1 rfl U0) (Um rfl (Um rfl (Um rfl (Um rfl (Um rfl (Um rfl (Um rfl (Um rfl Ul)))))))) (Ui rfl (Ui rfl Uh)) rfl (Nat.le_trans hv0 (Ug rfl)) rfl rfl rfl (UE rfl rfl (UE rfl rfl (UE rfl rfl (UE rfl rfl (UC rfl (UE rfl rfl (UE rfl rfl (UE rfl rfl UB)))))))) rfl rfl)
def m31f2 (a0 : List UN) (a1 : Qj UN Bool) (a2 : List UN) (a3 : List Tm) (a4 : Dcl) : Option ((Qj UN Bool) × (List UN)) :=
 Option.bind (W4 a0 a1 a2 a3 a4) fun (x1 : (Qj UN Bool) × (List UN)) =>
 some (x1.1, x1.2)
set_option maxRecDepth 100000 in
set_option maxHeartbeats 8000000 in
theorem m31f2_ok (a0 : List UN) (a1 : Qj UN Bool) (a2 : List UN) (a3 : List Tm) (a4 : Dcl) (r : (Qj UN Bool) × (List UN)) (h0 : m31f2 a0 a1 a2 a3 a4 = some r) : CallM Try.prog 31 [.one (Ut a0), .one (.fn 89 [(0, 0)])] ⟨[(0, .cells 68 [.yld 1]), (1, .loop .ready none [(3, .v (.one (.ptr 3 0))), (6, .v (.one (.ptr 5 0))), (20, .v (.one (.fn 73 [(7, 0), (9, 0)])))] 33 #[21] Je Jd 2), (2, .obj (.deferred (some []))), (3, .cells 116 [.mp 4]), (4, .mp (QT a1.1) a1.2), (5, .cells 23 [Ux 6 a2]), (7, .cells 40 [Ux 8 a3]), (9, .cells 48 (Uy a4))], [(6, some ⟨9, 1, (Enc.encL a2).length, []⟩), (8, some ⟨42, 5, (Enc.encL a3).length, []⟩)], 10⟩ (Qy [.one (Uw false)]) ⟨[(0, .cells 68 [.yld 1]), (1, .loop .ready none [(3, .v (.one (.ptr 3 0))), (6, .v (.one (.ptr 5 0))), (20, .v (.one (.fn 73 [(7, 0), (9, 0)])))] 33 #[21] Je Jd 2), (2, .obj (.deferred (some []))), (3, .cells 116 [.mp 4]), (4, .mp (QT r.1.1) r.1.2), (5, .cells 23 [Ux 6 r.2]), (7, .cells 40 [Ux 8 a3]), (9, .cells 48 (Uy a4))], [(6, some ⟨9, 1, (Enc.encL r.2).length, []⟩), (8, some ⟨42, 5, (Enc.encL a3).length, []⟩)], 10⟩ := by
 unfold m31f2 at h0
 refine QP ⟨[(4, .v (.one (Uw false)))], [(0, .cells 68 [.yld 1]), (1, .loop .ready none [(3, .v (.one (.ptr 3 0))), (6, .v (.one (.ptr 5 0))), (20, .v (.one (.fn 73 [(7, 0), (9, 0)])))] 33 #[21] Je Jd 2), (2, .obj (.deferred (some []))), (3, .cells 116 [.mp 4]), (4, .mp (QT r.1.1) r.1.2), (5, .cells 23 [Ux 6 r.2]), (7, .cells 40 [Ux 8 a3]), (9, .cells 48 (Uy a4))], [(6, some ⟨9, 1, (Enc.encL r.2).length, []⟩), (8, some ⟨42, 5, (Enc.encL a3).length, []⟩)], 10, 9, []⟩ rfl rfl en_31 (Ug rfl) rfl (Qk rfl .nil) (fun w0 M V0 Q hv0 hQ0 => ?_)
 simp only [J8]
 refine Q2 <| Q0 <| U7 rfl rfl rfl <| Q3 <| Q1 <| Q2 <| Q0 <| U6 rfl rfl rfl <| U6 rfl rfl rfl ?_
 refine Qb h0 (fun x1 hx1 h0 => ?_)
 refine Q9 rfl rfl (Ug rfl) (QW (hp1' := [(0, .cells 68 [.yld 1]), (1, .loop .ready none [(3, .v (.one (.ptr 3 0))), (6, .v (.one (.ptr 5 0))), (20, .v (.one (.fn 73 [(7, 0), (9, 0)])))] 33 #[21] Je Jd 2), (2, .obj (.deferred (some []))), (3, .cells 116 [.mp 4]), (4, .mp (QT x1.1.1) x1.1.2), (5, .cells 23 [Ux 6 x1.2]), (7, .cells 40 [Ux 8 a3]), (9, .cells 48 (Uy a4))]) (tk1' := [(6, some ⟨9, 1, (Enc.encL x1.2).length, []⟩), (8, some ⟨42, 5, (Enc.encL a3).length, []⟩)]) (hpF := []) (tkF := []) (res2 := Qy [.one (Uv (-1))]) (nx2 := 10) [0, 1, 2, 3, 4, 5, 6, 7, 8, 9] rfl rfl (m52f3_ok a0 a1 a2 a3 a4 x1 hx1) rfl rfl (Ub rfl rfl (Ub rfl rfl (Ub rfl rfl (Ub rfl rfl (U9 rfl (Ub rfl rfl (Ub rfl rfl (Ub rfl rfl U8)))))))) rfl rfl (Uq rfl (Uq rfl (Uq rfl (Uq rfl (Ur rfl (Uq rfl (Uq rfl (Uq rfl Uo)))))))) (Uk rfl (Uk rfl Uj)) Ul Uh rfl rfl rfl rfl rfl (UE rfl rfl (UE rfl rfl (UE rfl rfl (UE rfl rfl (UC rfl (UE rfl rfl (UE rfl rfl (UE rfl rfl UB)))))))) rfl rfl rfl rfl) <| U5 rfl rfl rfl (Q5 rfl rfl rfl) <| U7 rfl rfl rfl <| Q3 <| Q1 <| Qz ?_
 have e := U3 h0; subst e
 exact hQ0 _ _ _ (.inr rfl) rfl (Qf (U1 rfl U0) (Um rfl (Um rfl (Um rfl (Um rfl (Um rfl (Um rfl (Um rfl (Um rfl Ul)))))))) (Ui rfl (Ui rfl Uh)) rfl (Nat.le_trans hv0 (Ug rfl)) rfl rfl rfl (UE rfl rfl (UE rfl rfl (UE rfl rfl (UE rfl rfl (UC rfl (UE rfl rfl (UE rfl rfl (UE rfl rfl UB)))))))) rfl rfl)
def ZV (a0 : Tr) (rc : Tr × (Qj UN Bool) × (List UN) × (List Tm) × Dcl → Option (Bool × (Qj UN Bool) × (List UN))) (a3 : List Tm) (a4 : Dcl) (s1 : Int × (Qj UN Bool) × (List UN)) : Option (LO (Int × (Qj UN Bool) × (List UN)) (((Qj UN Bool) × (List UN)) ⊕ ((Bool × (Qj UN Bool) × (List UN))))) :=
 cond (decide (s1.1 < (a0.branches.length : Int)))
   (Option.bind (Jg a0.branches s1.1) fun (x6 : UO) =>
 Option.bind (Option.bind (cond (!(Jl s1.2.1 x6.ctor))
   (Qt (Nat.ble (s1.2.2.length + ([x6.ctor]).length) 1000000000)
 (some ((Y5 s1.2.1 x6.ctor true), (s1.2.2 ++ ([x6.ctor])))))
   (some (s1.2.1, s1.2.2))) (fun (y8 : (Qj UN Bool) × (List UN)) => cond (!x6.absurd)
   (Option.bind (rc (x6.tree, y8.1, y8.2, a3, a4)) fun (x14 : Bool × (Qj UN Bool) × (List UN)) =>
 some (true, (!x14.1), (!x14.1), x14.2.1, x14.2.2))
   (some (false, false, false, y8.1, y8.2)))) (fun (v7 : Bool × Bool × Bool × (Qj UN Bool) × (List UN)) => cond v7.2.2.1
   (some (.done (.inr (false, v7.2.2.2.1, v7.2.2.2.2))))
   (some (.next ((J1 (s1.1 + 1)), v7.2.2.2.1, v7.2.2.2.2)))))
   (some (.done (.inl (s1.2.1, s1.2.2))))
def Xu (rc : Tr × (Qj UN Bool) × (List UN) × (List Tm) × Dcl → Option (Bool × (Qj UN Bool) × (List UN))) (a0 : Tr) (a1 : Qj UN Bool) (a2 : List UN) (a3 : List Tm) (a4 : Dcl) : Option (Bool × (Qj UN Bool) × (List UN)) :=
 cond (a0.kind == 0)
   (Option.bind (WI a0.body) fun (x2 : (List UN)) =>
 Option.bind (m31f2 x2 a1 a2 a3 a4) fun (x3 : (Qj UN Bool) × (List UN)) =>
 some (true, x3.1, x3.2))
   (Option.bind (Qv (ZV a0 rc a3 a4) QH (0, a1, a2)) (Sum.elim (fun (o4 : (Qj UN Bool) × (List UN)) => some (true, o4.1, o4.2)) (fun o => some o)))
def Xv (rc : Tr × (Qj UN Bool) × (List UN) × (List Tm) × Dcl → Option (Bool × (Qj UN Bool) × (List UN))) (u : Tr × (Qj UN Bool) × (List UN) × (List Tm) × Dcl) : Option (Bool × (Qj UN Bool) × (List UN)) := Xu rc u.1 u.2.1 u.2.2.1 u.2.2.2.1 u.2.2.2.2
def m75f1 (a0 : Tr) (a1 : Qj UN Bool) (a2 : List UN) (a3 : List Tm) (a4 : Dcl) : Option (Bool × (Qj UN Bool) × (List UN)) := JY Xv QH (a0, a1, a2, a3, a4)
set_option maxRecDepth 100000 in
set_option maxHeartbeats 8000000 in
theorem m75f1s_ok (rc : Tr × (Qj UN Bool) × (List UN) × (List Tm) × Dcl → Option (Bool × (Qj UN Bool) × (List UN))) (H : ∀ (a0 : Tr) (a1 : Qj UN Bool) (a2 : List UN) (a3 : List Tm) (a4 : Dcl) (r : Bool × (Qj UN Bool) × (List UN)), rc (a0, a1, a2, a3, a4) = some r → CallM Try.prog 75 [.agg (Uy a0), .one (.yld 0)] ⟨[(0, .loop .ready none [(3, .v (.one (.ptr 2 0))), (6, .v (.one (.ptr 4 0))), (20, .v (.one (.fn 73 [(6, 0), (8, 0)])))] 33 #[21] Je Jd 1), (1, .obj (.deferred (some []))), (2, .cells 116 [.mp 3]), (3, .mp (QT a1.1) a1.2), (4, .cells 23 [Ux 5 a2]), (6, .cells 40 [Ux 7 a3]), (8, .cells 48 (Uy a4))], [(5, some ⟨9, 1, (Enc.encL a2).length, []⟩), (7, some ⟨42, 5, (Enc.encL a3).length, []⟩)], 9⟩ (Qy [.one (Uw r.1)]) ⟨[(0, .loop .ready none [(3, .v (.one (.ptr 2 0))), (6, .v (.one (.ptr 4 0))), (20, .v (.one (.fn 73 [(6, 0), (8, 0)])))] 33 #[21] Je Jd 1), (1, .obj (.deferred (some []))), (2, .cells 116 [.mp 3]), (3, .mp (QT r.2.1.1) r.2.1.2), (4, .cells 23 [Ux 5 r.2.2]), (6, .cells 40 [Ux 7 a3]), (8, .cells 48 (Uy a4))], [(5, some ⟨9, 1, (Enc.encL r.2.2).length, []⟩), (7, some ⟨42, 5, (Enc.encL a3).length, []⟩)], 11⟩) (a0 : Tr) (a1 : Qj UN Bool) (a2 : List UN) (a3 : List Tm) (a4 : Dcl) (r : Bool × (Qj UN Bool) × (List UN)) (h0 : Xu rc a0 a1 a2 a3 a4 = some r) : CallM Try.prog 75 [.agg (Uy a0), .one (.yld 0)] ⟨[(0, .loop .ready none [(3, .v (.one (.ptr 2 0))), (6, .v (.one (.ptr 4 0))), (20, .v (.one (.fn 73 [(6, 0), (8, 0)])))] 33 #[21] Je Jd 1), (1, .obj (.deferred (some []))), (2, .cells 116 [.mp 3]), (3, .mp (QT a1.1) a1.2), (4, .cells 23 [Ux 5 a2]), (6, .cells 40 [Ux 7 a3]), (8, .cells 48 (Uy a4))], [(5, some ⟨9, 1, (Enc.encL a2).length, []⟩), (7, some ⟨42, 5, (Enc.encL a3).length, []⟩)], 9⟩ (Qy [.one (Uw r.1)]) ⟨[(0, .loop .ready none [(3, .v (.one (.ptr 2 0))), (6, .v (.one (.ptr 4 0))), (20, .v (.one (.fn 73 [(6, 0), (8, 0)])))] 33 #[21] Je Jd 1), (1, .obj (.deferred (some []))), (2, .cells 116 [.mp 3]), (3, .mp (QT r.2.1.1) r.2.1.2), (4, .cells 23 [Ux 5 r.2.2]), (6, .cells 40 [Ux 7 a3]), (8, .cells 48 (Uy a4))], [(5, some ⟨9, 1, (Enc.encL r.2.2).length, []⟩), (7, some ⟨42, 5, (Enc.encL a3).length, []⟩)], 11⟩ := by
 unfold Xu at h0
 refine QP ⟨[(4, .v (.one (Uw r.1)))], [(0, .loop .ready none [(3, .v (.one (.ptr 2 0))), (6, .v (.one (.ptr 4 0))), (20, .v (.one (.fn 73 [(6, 0), (8, 0)])))] 33 #[21] Je Jd 1), (1, .obj (.deferred (some []))), (2, .cells 116 [.mp 3]), (3, .mp (QT r.2.1.1) r.2.1.2), (4, .cells 23 [Ux 5 r.2.2]), (6, .cells 40 [Ux 7 a3]), (8, .cells 48 (Uy a4))], [(5, some ⟨9, 1, (Enc.encL r.2.2).length, []⟩), (7, some ⟨42, 5, (Enc.encL a3).length, []⟩)], 11, 41, []⟩ rfl rfl en_75 (Ug rfl) rfl (Qk rfl .nil) (fun w0 M V0 Q hv0 hQ0 => ?_)
 simp only [J8]
 refine Q2 <| Q0 <| Q9 rfl rfl (Ug rfl) (Jc rfl) <| Q9 rfl rfl (Ug rfl) (Jc rfl) <| U7 rfl rfl rfl <| Q3 <| Q1 <| Q2 <| Q2 <| Q0 <| U5 rfl rfl rfl (Q4 fo_87_0 rfl) <| U5 rfl rfl rfl (Q7 Yx rfl rfl rfl) <| U5 rfl rfl rfl (Q5 rfl rfl rfl) <| Q3 ?_
 refine Q1 ?_
 refine Qe (b := (a0.kind == 0)) rfl (fun c1 => ?_) (fun c1 => ?_)
 replace h0 := Qm c1 h0
 refine Q2 <| Q0 <| U5 rfl rfl rfl (Q4 GV rfl) <| U5 rfl rfl rfl (Qq Jh rfl rfl rfl rfl) ?_
 refine Qb h0 (fun x2 hx2 h0 => ?_)
 refine Q9 rfl rfl (Ug rfl) (Ql (m74_ok a0.body x2 hx2) rfl (.cons (.agg (.cons (.d _) (.cons (.d _) (.cons (.d _) (.cons (.d _) (.cons (.d _) .nil)))))) .nil)) <| U5 rfl rfl rfl (RO.makeFunc1 rfl) ?_
 refine Qb h0 (fun x3 hx3 h0 => ?_)
 refine Q9 rfl rfl (Ug rfl) (QW (hp1' := [(10, .cells 68 [.yld 0]), (0, .loop .ready none [(3, .v (.one (.ptr 2 0))), (6, .v (.one (.ptr 4 0))), (20, .v (.one (.fn 73 [(6, 0), (8, 0)])))] 33 #[21] Je Jd 1), (1, .obj (.deferred (some []))), (2, .cells 116 [.mp 3]), (3, .mp (QT x3.1.1) x3.1.2), (4, .cells 23 [Ux 5 x3.2]), (6, .cells 40 [Ux 7 a3]), (8, .cells 48 (Uy a4))]) (tk1' := [(5, some ⟨9, 1, (Enc.encL x3.2).length, []⟩), (7, some ⟨42, 5, (Enc.encL a3).length, []⟩)]) (hpF := [(9, .cells 87 (Uy a0))]) (tkF := []) (res2 := Qy [.one (Uw false)]) (nx2 := 11) [10, 0, 1, 2, 3, 4, 5, 6, 7, 8] rfl rfl (m31f2_ok x2 a1 a2 a3 a4 x3 hx3) rfl rfl (Ub rfl rfl (Ub rfl rfl (Ub rfl rfl (Ub rfl rfl (U9 rfl (Ub rfl rfl (Ub rfl rfl (Ub rfl rfl U8)))))))) rfl rfl (Uq rfl (Uq rfl (Uq rfl (Uq rfl (Ur rfl (Uq rfl (Uq rfl (Uq rfl Uo)))))))) (Uk rfl (Uk rfl Uj)) (Um rfl Ul) Uh rfl rfl rfl rfl rfl (UE rfl rfl (UE rfl rfl (UE rfl rfl (UE rfl rfl (UC rfl (UE rfl rfl (UE rfl rfl (UE rfl rfl UB)))))))) rfl rfl rfl rfl) <| U5 rfl rfl rfl (J9 rfl) <| U7 rfl rfl rfl <| Q3 <| Q1 <| Qz ?_
 have e := U3 h0; subst e
 exact hQ0 _ _ _ (.inr rfl) rfl (Qf (U1 rfl U0) (Um rfl (Um rfl (Um rfl (Um rfl (Um rfl (Um rfl (Um rfl Ul))))))) (Ui rfl (Ui rfl Uh)) rfl (Nat.le_trans hv0 (Ug rfl)) rfl rfl rfl (UE rfl rfl (UE rfl rfl (UE rfl rfl (UC rfl (UE rfl rfl (UE rfl rfl (UE rfl rfl UB))))))) rfl rfl)
 replace h0 := Qn c1 h0
 refine Qg <| Q1 <| Q2 <| Q2 <| Q0 <| U5 rfl rfl rfl (Q4 JS rfl) <| U5 rfl rfl rfl (Q7 YO rfl rfl rfl) <| U5 rfl rfl rfl (QB (α := UO) YL rfl (.d _)) <| U6 rfl rfl rfl <| Q3 <| Q1 <| Qc ?_
 refine QF 0 (fun (o4 : (Qj UN Bool) × (List UN)) => ⟨[], [(0, .loop .ready none [(3, .v (.one (.ptr 2 0))), (6, .v (.one (.ptr 4 0))), (20, .v (.one (.fn 73 [(6, 0), (8, 0)])))] 33 #[21] Je Jd 1), (1, .obj (.deferred (some []))), (2, .cells 116 [.mp 3]), (3, .mp (QT o4.1.1) o4.1.2), (4, .cells 23 [Ux 5 o4.2]), (6, .cells 40 [Ux 7 a3]), (8, .cells 48 (Uy a4)), (9, .cells 87 (Uy a0)), (10, .cells 68 [.yld 0])], [(5, some ⟨9, 1, (Enc.encL o4.2).length, []⟩), (7, some ⟨42, 5, (Enc.encL a3).length, []⟩)], 11, 41, []⟩) (fun (o4 : (Qj UN Bool) × (List UN)) => (some (true, o4.1, o4.2)) = some r) ?_ ?_
 refine Qb h0 (fun o5 hl1 h0 => ?_)
 refine QE (ZV a0 rc a3 a4) (fun s1 => ⟨[(3, .v (.one (.ptr 10 0))), (17, .v (.one (Ut a0.branches))), (18, .v (.one (Uv (a0.branches.length : Int)))), (19, .v (.one (Uv s1.1)))], [(0, .loop .ready none [(3, .v (.one (.ptr 2 0))), (6, .v (.one (.ptr 4 0))), (20, .v (.one (.fn 73 [(6, 0), (8, 0)])))] 33 #[21] Je Jd 1), (1, .obj (.deferred (some []))), (2, .cells 116 [.mp 3]), (3, .mp (QT s1.2.1.1) s1.2.1.2), (4, .cells 23 [Ux 5 s1.2.2]), (6, .cells 40 [Ux 7 a3]), (8, .cells 48 (Uy a4)), (9, .cells 87 (Uy a0)), (10, .cells 68 [.yld 0])], [(5, some ⟨9, 1, (Enc.encL s1.2.2).length, []⟩), (7, some ⟨42, 5, (Enc.encL a3).length, []⟩)], 11, 41, []⟩) (0, a1, a2) o5 (Qf (U1 rfl (U1 rfl (U1 rfl (U1 rfl U0)))) (Um rfl (Um rfl (Um rfl (Um rfl (Um rfl (Um rfl (Um rfl (Um rfl (Um rfl Ul))))))))) (Ui rfl (Ui rfl Uh)) rfl (Nat.le_trans hv0 (Ug rfl)) rfl rfl rfl (UE rfl rfl (UE rfl rfl (UE rfl rfl (UC rfl (UE rfl rfl (UE rfl rfl (UE rfl rfl (UE rfl rfl (UE rfl rfl UB))))))))) rfl rfl) hl1 (fun s1 n1 oo1 h1 ho1 => ?_)
 unfold ZV at h1
 refine Q2 <| Q0 <| U5 rfl rfl rfl (Q5 rfl rfl rfl) <| Q3 <| Q1 <| Q2 ?_
 refine Qe (b := (decide (s1.1 < (a0.branches.length : Int)))) rfl (fun c6 => ?_) (fun c6 => ?_)
 replace h1 := Qm c6 h1
 refine Qg <| Q1 <| Q2 <| Qc <| Q2 <| Q0 ?_
 refine Qb h1 (fun x7 hx7 h1 => ?_)
 refine U5 rfl rfl rfl (Qi (α := UO) YL rfl (.d _) rfl hx7) <| U5 rfl rfl rfl (QY Zi rfl rfl rfl) <| Q9 rfl rfl (Ug rfl) (QC W0 rfl) <| QL rfl rfl (Qw Zi rfl rfl rfl rfl (Ug rfl) rfl) <| Q3 <| Q1 <| Q2 ?_
 refine Ja (fun (v8 : Bool × Bool × Bool × (Qj UN Bool) × (List UN)) => ⟨[(3, .v (.one (.ptr 10 0))), (17, .v (.one (Ut a0.branches))), (18, .v (.one (Uv (a0.branches.length : Int)))), (19, .v (.one (Uv s1.1))), (29, .v (.one (.ptr 11 1))), (30, .v (.one (Uw x7.absurd))), (31, .v (.one (Uw (!x7.absurd)))), (32, .v (.one (Uw v8.1))), (38, .v (.one (Uw v8.2.1))), (39, .v (.one (Uw v8.2.2.1)))], [(0, .loop .ready none [(3, .v (.one (.ptr 2 0))), (6, .v (.one (.ptr 4 0))), (20, .v (.one (.fn 73 [(6, 0), (8, 0)])))] 33 #[21] Je Jd 1), (1, .obj (.deferred (some []))), (2, .cells 116 [.mp 3]), (3, .mp (QT v8.2.2.2.1.1) v8.2.2.2.1.2), (4, .cells 23 [Ux 5 v8.2.2.2.2]), (6, .cells 40 [Ux 7 a3]), (8, .cells 48 (Uy a4)), (9, .cells 87 (Uy a0)), (10, .cells 68 [.yld 0]), (11, .cells 115 (Uy x7))], [(5, some ⟨9, 1, (Enc.encL v8.2.2.2.2).length, []⟩), (7, some ⟨42, 5, (Enc.encL a3).length, []⟩)], 12, 41, []⟩) (fun (v8 : Bool × Bool × Bool × (Qj UN Bool) × (List UN)) => (cond v8.2.2.1
     (some (.done (.inr (false, v8.2.2.2.1, v8.2.2.2.2))))
     (some (.next ((J1 (s1.1 + 1)), v8.2.2.2.1, v8.2.2.2.2)))) = some oo1) ?_ ?_
 refine Qb h1 (fun w2_ h2 h1 => ?_)
 refine Q0 <| U5 rfl rfl rfl (Q7 ag_68 rfl rfl rfl) <| U5 rfl rfl rfl (Q4 G2 rfl) <| U5 rfl rfl rfl (Q7 JG rfl rfl rfl) ?_
 refine Qb h2 (fun y9 h3 h2 => ?_)
 have ha10 : ExecOK Try.prog (some 0) Je ⟨[(3, .v (.one (.ptr 2 0))), (6, .v (.one (.ptr 4 0))), (20, .v (.one (.fn 73 [(6, 0), (8, 0)]))), (21, .v (.one (YZ x7.ctor)))], [(0, .loop .ready none [(3, .v (.one (.ptr 2 0))), (6, .v (.one (.ptr 4 0))), (20, .v (.one (.fn 73 [(6, 0), (8, 0)])))] 33 #[21] Je Jd 1), (1, .obj (.deferred (some []))), (2, .cells 116 [.mp 3]), (3, .mp (QT s1.2.1.1) s1.2.1.2), (4, .cells 23 [Ux 5 s1.2.2]), (6, .cells 40 [Ux 7 a3]), (8, .cells 48 (Uy a4)), (9, .cells 87 (Uy a0)), (10, .cells 68 [.yld 0]), (11, .cells 115 (Uy x7))], [(5, some ⟨9, 1, (Enc.encL s1.2.2).length, []⟩), (7, some ⟨42, 5, (Enc.encL a3).length, []⟩)], 12, 33, []⟩ .normal ⟨[(3, .v (.one (.ptr 2 0))), (6, .v (.one (.ptr 4 0))), (7, .v (.one (YZ x7.ctor)))], [(0, .loop .ready none [(3, .v (.one (.ptr 2 0))), (6, .v (.one (.ptr 4 0))), (20, .v (.one (.fn 73 [(6, 0), (8, 0)])))] 33 #[21] Je Jd 1), (1, .obj (.deferred (some []))), (2, .cells 116 [.mp 3]), (3, .mp (QT s1.2.1.1) s1.2.1.2), (4, .cells 23 [Ux 5 s1.2.2]), (6, .cells 40 [Ux 7 a3]), (8, .cells 48 (Uy a4)), (9, .cells 87 (Uy a0)), (10, .cells 68 [.yld 0]), (11, .cells 115 (Uy x7))], [(5, some ⟨9, 1, (Enc.encL s1.2.2).length, []⟩), (7, some ⟨42, 5, (Enc.encL a3).length, []⟩)], 12, 33, []⟩ := by
  refine Yv (fun w0 M V0 ro n Q hv3 hro3 hQn3 => ?_)
  refine Q0 <| U7 rfl rfl rfl <| Q3 ?_
  exact KH hQn3 (Qf (U1 rfl (U1 rfl (U1 rfl U0))) (Um rfl (Um rfl (Um rfl (Um rfl (Um rfl (Um rfl (Um rfl (Um rfl (Um rfl (Um rfl Ul)))))))))) (Ui rfl (Ui rfl Uh)) rfl (Nat.le_trans hv3 (Ug rfl)) rfl rfl rfl (UE rfl rfl (UE rfl rfl (UE rfl rfl (UC rfl (UE rfl rfl (UE rfl rfl (UE rfl rfl (UE rfl rfl (UE rfl rfl (UE rfl rfl UB)))))))))) rfl rfl)
 have hb11 : ExecOK Try.prog (some 0) Jd ⟨[(3, .v (.one (.ptr 2 0))), (6, .v (.one (.ptr 4 0))), (7, .v (.one (YZ x7.ctor)))], [(0, .loop .busy none [(3, .v (.one (.ptr 2 0))), (6, .v (.one (.ptr 4 0))), (20, .v (.one (.fn 73 [(6, 0), (8, 0)])))] 33 #[21] Je Jd 1), (1, .obj (.deferred (some []))), (2, .cells 116 [.mp 3]), (3, .mp (QT s1.2.1.1) s1.2.1.2), (4, .cells 23 [Ux 5 s1.2.2]), (6, .cells 40 [Ux 7 a3]), (8, .cells 48 (Uy a4)), (9, .cells 87 (Uy a0)), (10, .cells 68 [.yld 0]), (11, .cells 115 (Uy x7))], [(5, some ⟨9, 1, (Enc.encL s1.2.2).length, []⟩), (7, some ⟨42, 5, (Enc.encL a3).length, []⟩)], 12, 33, []⟩ .normal ⟨[], [(0, .loop .busy none [(3, .v (.one (.ptr 2 0))), (6, .v (.one (.ptr 4 0))), (20, .v (.one (.fn 73 [(6, 0), (8, 0)])))] 33 #[21] Je Jd 1), (1, .obj (.deferred (some []))), (2, .cells 116 [.mp 3]), (3, .mp (QT y9.1.1) y9.1.2), (4, .cells 23 [Ux 5 y9.2]), (6, .cells 40 [Ux 7 a3]), (8, .cells 48 (Uy a4)), (9, .cells 87 (Uy a0)), (10, .cells 68 [.yld 0]), (11, .cells 115 (Uy x7))], [(5, some ⟨9, 1, (Enc.encL y9.2).length, []⟩), (7, some ⟨42, 5, (Enc.encL a3).length, []⟩)], 12, 33, []⟩ := by
  refine Yv (fun w0 M V0 ro n Q hv3 hro3 hQn3 => ?_)
  refine Qc <| Q2 <| Q0 <| U5 rfl rfl rfl (Q7 K7 rfl rfl rfl) <| U6 rfl rfl rfl <| U5 rfl rfl rfl (RO.lookupGF (M := s1.2.1) (k := x7.ctor) Kw zok_bool rfl rfl rfl) <| U5 rfl rfl rfl (J9 rfl) <| Q3 <| Q1 ?_
  refine Qe (b := (!(Jl s1.2.1 x7.ctor))) rfl (fun c12 => ?_) (fun c12 => ?_)
  replace h3 := Qm c12 h3
  refine Q2 <| Q0 <| U5 rfl rfl rfl (Q7 K7 rfl rfl rfl) <| U6 rfl rfl rfl <| QL rfl rfl (JW (M := s1.2.1) (k := x7.ctor) (v := true) Kw rfl rfl rfl rfl rfl) <| Q3 <| Q1 <| Q0 <| U5 rfl rfl rfl (Q7 Gi rfl rfl rfl) <| U6 rfl rfl rfl <| Q9 rfl rfl (Ug rfl) (QZ (α := UN) (x7.ctor) QU XO rfl rfl (Ug rfl) (Ug rfl) rfl rfl (.cons (.d _) .nil) rfl) ?_
  refine QQ h3 (fun g13 h3 => ?_)
  refine Q9 rfl rfl (Ug rfl) (QO (α := UN) QU ZF rfl rfl rfl rfl rfl (.app _ _) g13) <| QL rfl rfl (Qw Gi rfl rfl rfl rfl (Ug rfl) rfl) <| Q3 <| Qh ?_
  have e := U3 h3; subst e
  exact KH hQn3 (Qf U0 (Um rfl (Um rfl (Um rfl (Um rfl (Um rfl (Um rfl (Um rfl (Um rfl (Um rfl (Um rfl Ul)))))))))) (Ui rfl (Ui rfl Uh)) rfl (Nat.le_trans hv3 (Ug rfl)) rfl rfl rfl (UE rfl rfl (UE rfl rfl (UE rfl rfl (UC rfl (UE rfl rfl (UE rfl rfl (UE rfl rfl (UE rfl rfl (UE rfl rfl (UE rfl rfl UB)))))))))) rfl rfl)
  replace h3 := Qn c12 h3
  refine Qg <| Qh ?_
  have e := U3 h3; subst e
  exact KH hQn3 (Qf U0 (Um rfl (Um rfl (Um rfl (Um rfl (Um rfl (Um rfl (Um rfl (Um rfl (Um rfl (Um rfl Ul)))))))))) (Ui rfl (Ui rfl Uh)) rfl (Nat.le_trans hv3 (Ug rfl)) rfl rfl rfl (UE rfl rfl (UE rfl rfl (UE rfl rfl (UC rfl (UE rfl rfl (UE rfl rfl (UE rfl rfl (UE rfl rfl (UE rfl rfl (UE rfl rfl UB)))))))))) rfl rfl)
 refine Q9 rfl rfl (Ug rfl) (OpOK.yield (jump := none) rfl rfl rfl rfl rfl (Yw ha10 (fun E hv => (Qf (U1 rfl (U1 rfl (U1 rfl (U1 rfl U0)))) (Um rfl (Um rfl (Um rfl (Um rfl (Um rfl (Um rfl (Um rfl (Um rfl (Um rfl (Um rfl Ul)))))))))) (Ui rfl (Ui rfl Uh)) rfl (Nat.le_trans hv (Ug rfl)) rfl rfl rfl (UE rfl rfl (UE rfl rfl (UE rfl rfl (UC rfl (UE rfl rfl (UE rfl rfl (UE rfl rfl (UE rfl rfl (UE rfl rfl (UE rfl rfl UB)))))))))) rfl rfl))) rfl (Yw hb11 (fun E hv => (Qf (U1 rfl (U1 rfl (U1 rfl U0))) (Um rfl (Um rfl (Um rfl (Um rfl (Um rfl (Um rfl (Um rfl (Um rfl (Um rfl (Um rfl Ul)))))))))) (Ui rfl (Ui rfl Uh)) rfl (Nat.le_trans hv (Ug rfl)) rfl rfl rfl (UE rfl rfl (UE rfl rfl (UE rfl rfl (UC rfl (UE rfl rfl (UE rfl rfl (UE rfl rfl (UE rfl rfl (UE rfl rfl (UE rfl rfl UB)))))))))) rfl rfl))) rfl rfl) ?_
 refine U5 rfl rfl rfl (J9 rfl) <| U6 rfl rfl rfl <| U5 rfl rfl rfl (Q4 fo_115_1 rfl) <| U5 rfl rfl rfl (Q7 Kr rfl rfl rfl) <| U5 rfl rfl rfl (J9 rfl) <| U6 rfl rfl rfl ?_
 refine QV (d := 32) (c := (!x7.absurd)) rfl (fun c14 => ?_) (fun c14 => ?_)
 replace h2 := Qm c14 h2
 refine U5 rfl rfl rfl (Q4 G1 rfl) <| U5 rfl rfl rfl (Qq Gh rfl rfl rfl rfl) <| U5 rfl rfl rfl (Q7 ag_68 rfl rfl rfl) ?_
 refine Qb h2 (fun x15 hx15 h2 => ?_)
 refine Q9 rfl rfl (Ug rfl) (QW (hp1' := [(0, .loop .ready none [(3, .v (.one (.ptr 2 0))), (6, .v (.one (.ptr 4 0))), (20, .v (.one (.fn 73 [(6, 0), (8, 0)])))] 33 #[21] Je Jd 1), (1, .obj (.deferred (some []))), (2, .cells 116 [.mp 3]), (3, .mp (QT x15.2.1.1) x15.2.1.2), (4, .cells 23 [Ux 5 x15.2.2]), (6, .cells 40 [Ux 7 a3]), (8, .cells 48 (Uy a4))]) (tk1' := [(5, some ⟨9, 1, (Enc.encL x15.2.2).length, []⟩), (7, some ⟨42, 5, (Enc.encL a3).length, []⟩)]) (hpF := [(9, .cells 87 (Uy a0)), (10, .cells 68 [.yld 0]), (11, .cells 115 (Uy x7))]) (tkF := []) (res2 := Qy [.one (Uw x15.1)]) (nx2 := 14) [0, 1, 2, 3, 4, 5, 6, 7, 8] rfl rfl (H x7.tree y9.1 y9.2 a3 a4 x15 hx15) rfl rfl (Ub rfl rfl (Ub rfl rfl (Ub rfl rfl (U9 rfl (Ub rfl rfl (Ub rfl rfl (Ub rfl rfl U8))))))) rfl rfl (Uq rfl (Uq rfl (Uq rfl (Ur rfl (Uq rfl (Uq rfl (Uq rfl Uo))))))) (Uk rfl (Uk rfl Uj)) (Um rfl (Um rfl (Um rfl Ul))) Uh rfl rfl rfl rfl rfl (UE rfl rfl (UE rfl rfl (UE rfl rfl (UC rfl (UE rfl rfl (UE rfl rfl (UE rfl rfl UB))))))) rfl rfl rfl rfl) <| U5 rfl rfl rfl (J9 rfl) <| U5 rfl rfl rfl (Qo rfl rfl) <| U5 rfl rfl rfl (QG rfl rfl) <| Q3 ?_
 have e := U3 h2; subst e
 exact Qr (true, (!x15.1), (!x15.1), x15.2.1, x15.2.2) (Qf (U1 rfl (U1 rfl (U1 rfl (U1 rfl (U1 rfl (U1 rfl (U1 rfl (U1 rfl (U1 rfl (U1 rfl U0)))))))))) (Um rfl (Um rfl (Um rfl (Um rfl (Um rfl (Um rfl (Um rfl (Um rfl (Um rfl (Um rfl Ul)))))))))) (Ui rfl (Ui rfl Uh)) rfl (Nat.le_trans hv0 (Ug rfl)) rfl rfl rfl (UE rfl rfl (UE rfl rfl (UE rfl rfl (UC rfl (UE rfl rfl (UE rfl rfl (UE rfl rfl (UE rfl rfl (UE rfl rfl (UE rfl rfl UB)))))))))) rfl rfl) h1
 replace h2 := Qn c14 h2
 refine Q8 rfl rfl <| Q8 rfl rfl <| Q8 rfl rfl <| Q8 rfl rfl <| Q8 rfl rfl <| U5 rfl rfl rfl (QG rfl rfl) <| U5 rfl rfl rfl (QG rfl rfl) <| Q3 ?_
 have e := U3 h2; subst e
 exact Qr (false, false, false, y9.1, y9.2) (Qf (U1 rfl (U1 rfl (U1 rfl (U1 rfl (U1 rfl (U1 rfl (U1 rfl (U1 rfl (U1 rfl (U1 rfl U0)))))))))) (Um rfl (Um rfl (Um rfl (Um rfl (Um rfl (Um rfl (Um rfl (Um rfl (Um rfl (Um rfl Ul)))))))))) (Ui rfl (Ui rfl Uh)) rfl (Nat.le_trans hv0 (Ug rfl)) rfl rfl rfl (UE rfl rfl (UE rfl rfl (UE rfl rfl (UC rfl (UE rfl rfl (UE rfl rfl (UE rfl rfl (UE rfl rfl (UE rfl rfl (UE rfl rfl UB)))))))))) rfl rfl) h1
 intro v8 h1
 refine Q1 ?_
 refine Qe (b := v8.2.2.1) rfl (fun c16 => ?_) (fun c16 => ?_)
 replace h1 := Qm c16 h1
 refine Q2 <| Q0 <| U7 rfl rfl rfl <| Q3 <| Q1 <| Qz ?_
 have e := U3 h1; subst e
 have e_ : _ = _ := ho1
 subst e_
 try dsimp only [Sum.elim_inl, Sum.elim_inr] at h0
 have e := U3 h0; subst e
 exact hQ0 _ _ _ (.inr rfl) rfl (Qf (U1 rfl U0) (Um rfl (Um rfl (Um rfl (Um rfl (Um rfl (Um rfl (Um rfl Ul))))))) (Ui rfl (Ui rfl Uh)) rfl (Nat.le_trans hv0 (Ug rfl)) rfl rfl rfl (UE rfl rfl (UE rfl rfl (UE rfl rfl (UC rfl (UE rfl rfl (UE rfl rfl (UE rfl rfl UB))))))) rfl rfl)
 replace h1 := Qn c16 h1
 refine Qg <| Qh <| Q1 <| Q0 <| U5 rfl rfl rfl (Q5 rfl rfl rfl) <| U6 rfl rfl rfl <| Q3 ?_
 have e := U3 h1; subst e
 refine QA ((J1 (s1.1 + 1)), v8.2.2.2.1, v8.2.2.2.2) (Qf (U1 rfl (U1 rfl (U1 rfl (U1 rfl U0)))) (Um rfl (Um rfl (Um rfl (Um rfl (Um rfl (Um rfl (Um rfl (Um rfl (Um rfl Ul))))))))) (Ui rfl (Ui rfl Uh)) rfl (Nat.le_trans hv0 (Ug rfl)) rfl rfl rfl (UE rfl rfl (UE rfl rfl (UE rfl rfl (UC rfl (UE rfl rfl (UE rfl rfl (UE rfl rfl (UE rfl rfl (UE rfl rfl UB))))))))) rfl rfl) ho1
 replace h1 := Qn c6 h1
 refine QJ <| Qd <| Qd ?_
 have e := U3 h1; subst e
 have e_ : _ = _ := ho1
 subst e_
 exact QD (s1.2.1, s1.2.2) (Qf U0 (Um rfl (Um rfl (Um rfl (Um rfl (Um rfl (Um rfl (Um rfl (Um rfl (Um rfl Ul))))))))) (Ui rfl (Ui rfl Uh)) rfl (Nat.le_trans hv0 (Ug rfl)) rfl rfl rfl (UE rfl rfl (UE rfl rfl (UE rfl rfl (UC rfl (UE rfl rfl (UE rfl rfl (UE rfl rfl (UE rfl rfl (UE rfl rfl UB))))))))) rfl rfl) h0
 intro o4 h0
 refine Qu <| Q1 <| Q2 <| Q0 <| U7 rfl rfl rfl <| Q3 <| Q1 <| Qz ?_
 have e := U3 h0; subst e
 exact hQ0 _ _ _ (.inr rfl) rfl (Qf (U1 rfl U0) (Um rfl (Um rfl (Um rfl (Um rfl (Um rfl (Um rfl (Um rfl Ul))))))) (Ui rfl (Ui rfl Uh)) rfl (Nat.le_trans hv0 (Ug rfl)) rfl rfl rfl (UE rfl rfl (UE rfl rfl (UE rfl rfl (UC rfl (UE rfl rfl (UE rfl rfl (UE rfl rfl UB))))))) rfl rfl)
theorem m75f1_all (n : Nat) (u : Tr × (Qj UN Bool) × (List UN) × (List Tm) × Dcl) (r : Bool × (Qj UN Bool) × (List UN)) (h0 : JY Xv n u = some r) : CallM Try.prog 75 [.agg (Uy u.1), .one (.yld 0)] ⟨[(0, .loop .ready none [(3, .v (.one (.ptr 2 0))), (6, .v (.one (.ptr 4 0))), (20, .v (.one (.fn 73 [(6, 0), (8, 0)])))] 33 #[21] Je Jd 1), (1, .obj (.deferred (some []))), (2, .cells 116 [.mp 3]), (3, .mp (QT u.2.1.1) u.2.1.2), (4, .cells 23 [Ux 5 u.2.2.1]), (6, .cells 40 [Ux 7 u.2.2.2.1]), (8, .cells 48 (Uy u.2.2.2.2))], [(5, some ⟨9, 1, (Enc.encL u.2.2.1).length, []⟩), (7, some ⟨42, 5, (Enc.encL u.2.2.2.1).length, []⟩)], 9⟩ (Qy [.one (Uw r.1)]) ⟨[(0, .loop .ready none [(3, .v (.one (.ptr 2 0))), (6, .v (.one (.ptr 4 0))), (20, .v (.one (.fn 73 [(6, 0), (8, 0)])))] 33 #[21] Je Jd 1), (1, .obj (.deferred (some []))), (2, .cells 116 [.mp 3]), (3, .mp (QT r.2.1.1) r.2.1.2), (4, .cells 23 [Ux 5 r.2.2]), (6, .cells 40 [Ux 7 u.2.2.2.1]), (8, .cells 48 (Uy u.2.2.2.2))], [(5, some ⟨9, 1, (Enc.encL r.2.2).length, []⟩), (7, some ⟨42, 5, (Enc.encL u.2.2.2.1).length, []⟩)], 11⟩ :=
 Yy (C := fun u r => CallM Try.prog 75 [.agg (Uy u.1), .one (.yld 0)] ⟨[(0, .loop .ready none [(3, .v (.one (.ptr 2 0))), (6, .v (.one (.ptr 4 0))), (20, .v (.one (.fn 73 [(6, 0), (8, 0)])))] 33 #[21] Je Jd 1), (1, .obj (.deferred (some []))), (2, .cells 116 [.mp 3]), (3, .mp (QT u.2.1.1) u.2.1.2), (4, .cells 23 [Ux 5 u.2.2.1]), (6, .cells 40 [Ux 7 u.2.2.2.1]), (8, .cells 48 (Uy u.2.2.2.2))], [(5, some ⟨9, 1, (Enc.encL u.2.2.1).length, []⟩), (7, some ⟨42, 5, (Enc.encL u.2.2.2.1).length, []⟩)], 9⟩ (Qy [.one (Uw r.1)]) ⟨[(0, .loop .ready none [(3, .v (.one (.ptr 2 0))), (6, .v (.one (.ptr 4 0))), (20, .v (.one (.fn 73 [(6, 0), (8, 0)])))] 33 #[21] Je Jd 1), (1, .obj (.deferred (some []))), (2, .cells 116 [.mp 3]), (3, .mp (QT r.2.1.1) r.2.1.2), (4, .cells 23 [Ux 5 r.2.2]), (6, .cells 40 [Ux 7 u.2.2.2.1]), (8, .cells 48 (Uy u.2.2.2.2))], [(5, some ⟨9, 1, (Enc.encL r.2.2).length, []⟩), (7, some ⟨42, 5, (Enc.encL u.2.2.2.1).length, []⟩)], 11⟩) (fun rc H u r h => m75f1s_ok rc (fun a0 a1 a2 a3 a4 r h => H (a0, a1, a2, a3, a4) r h) u.1 u.2.1 u.2.2.1 u.2.2.2.1 u.2.2.2.2 r h) n u r h0
theorem m75f1_ok (a0 : Tr) (a1 : Qj UN Bool) (a2 : List UN) (a3 : List Tm) (a4 : Dcl) (r : Bool × (Qj UN Bool) × (List UN)) (h0 : m75f1 a0 a1 a2 a3 a4 = some r) : CallM Try.prog 75 [.agg (Uy a0), .one (.yld 0)] ⟨[(0, .loop .ready none [(3, .v (.one (.ptr 2 0))), (6, .v (.one (.ptr 4 0))), (20, .v (.one (.fn 73 [(6, 0), (8, 0)])))] 33 #[21] Je Jd 1), (1, .obj (.deferred (some []))), (2, .cells 116 [.mp 3]), (3, .mp (QT a1.1) a1.2), (4, .cells 23 [Ux 5 a2]), (6, .cells 40 [Ux 7 a3]), (8, .cells 48 (Uy a4))], [(5, some ⟨9, 1, (Enc.encL a2).length, []⟩), (7, some ⟨42, 5, (Enc.encL a3).length, []⟩)], 9⟩ (Qy [.one (Uw r.1)]) ⟨[(0, .loop .ready none [(3, .v (.one (.ptr 2 0))), (6, .v (.one (.ptr 4 0))), (20, .v (.one (.fn 73 [(6, 0), (8, 0)])))] 33 #[21] Je Jd 1), (1, .obj (.deferred (some []))), (2, .cells 116 [.mp 3]), (3, .mp (QT r.2.1.1) r.2.1.2), (4, .cells 23 [Ux 5 r.2.2]), (6, .cells 40 [Ux 7 a3]), (8, .cells 48 (Uy a4))], [(5, some ⟨9, 1, (Enc.encL r.2.2).length, []⟩), (7, some ⟨42, 5, (Enc.encL a3).length, []⟩)], 11⟩ := m75f1_all QH (a0, a1, a2, a3, a4) r h0
def Gp (x1 : (List UN)) (s1 : Int × (Qj UN Bool)) : Option (LO (Int × (Qj UN Bool)) (((Qj UN Bool)))) :=
 cond (decide (s1.1 < (x1.length : Int)))
   (Option.bind (Jg x1 s1.1) fun (x4 : UN) =>
 some (.next ((J1 (s1.1 + 1)), (Y5 s1.2 x4 true))))
   (some (.done s1.2))
def KO (a0 : Dcl) (s2 : Int × (List Tm)) : Option (LO (Int × (List Tm)) (((List Tm)))) :=
 cond (decide (s2.1 < (a0.ctors.length : Int)))
   (Option.bind (Jg a0.ctors s2.1) fun (x7 : Ctr) =>
 Qt (Nat.ble (s2.2.length + 1) 1000000000)
 (some (.next ((J1 (s2.1 + 1)), (s2.2 ++ [x7.ty])))))
   (some (.done s2.2))
def Ky (a0 : Dcl) (s2 : Int × (List Tm)) : Option (LO (Int × (List Tm)) (((List Tm)))) :=
 cond (decide (s2.1 < (a0.funs.length : Int)))
   (Option.bind (Jg a0.funs s2.1) fun (x10 : Fn) =>
 Qt (Nat.ble (s2.2.length + 1) 1000000000)
 (some (.next ((J1 (s2.1 + 1)), (s2.2 ++ [x10.ty])))))
   (some (.done s2.2))
def Gn (x22 : (List UN)) (s3 : Int × (Qj UN Bool) × (List UN)) : Option (LO (Int × (Qj UN Bool) × (List UN)) (((Qj UN Bool) × (List UN)))) :=
 cond (decide (s3.1 < (x22.length : Int)))
   (Option.bind (Jg x22 s3.1) fun (x25 : UN) =>
 Option.bind (cond (!(Jl s3.2.1 x25))
   (Qt (Nat.ble (s3.2.2.length + ([x25]).length) 1000000000)
 (some ((Y5 s3.2.1 x25 true), (s3.2.2 ++ ([x25])))))
   (some (s3.2.1, s3.2.2))) (fun (y26 : (Qj UN Bool) × (List UN)) => some (.next ((J1 (s3.1 + 1)), y26.1, y26.2))))
   (some (.done (s3.2.1, s3.2.2)))
def Gm (y3 : (List Tm)) (s2 : Int × (Qj UN Bool) × (List UN)) : Option (LO (Int × (Qj UN Bool) × (List UN)) (((Qj UN Bool) × (List UN)))) :=
 cond (decide (s2.1 < (y3.length : Int)))
   (Option.bind (Jg y3 s2.1) fun (x21 : Tm) =>
 Option.bind (WI x21) fun (x22 : (List UN)) =>
 Option.bind (Qv (Gn x22) QH (0, s2.2.1, s2.2.2)) (fun (o23 : (Qj UN Bool) × (List UN)) => some (.next ((J1 (s2.1 + 1)), o23.1, o23.2))))
   (some (.done (s2.2.1, s2.2.2)))
def KN (a0 : Dcl) (y3 : (List Tm)) (s2 : Int × (Qj UN Bool) × (List UN)) : Option (LO (Int × (Qj UN Bool) × (List UN)) (((Qj UN Bool) × (List UN)) ⊕ (((Qj UN Bool) × (List UN))))) :=
 cond (decide (s2.1 < (a0.funs.length : Int)))
   (Option.bind (Jg a0.funs s2.1) fun (x22 : Fn) =>
 Option.bind (m75f1 x22.tree s2.2.1 s2.2.2 y3 a0) fun (x23 : Bool × (Qj UN Bool) × (List UN)) =>
 cond (!x23.1)
   (some (.done (.inr (x23.2.1, x23.2.2))))
   (some (.next ((J1 (s2.1 + 1)), x23.2.1, x23.2.2))))
   (some (.done (.inl (s2.2.1, s2.2.2))))
def Wh (a0 : Dcl) : Option ((List UN)) :=
 Option.bind (Wc a0) fun (x1 : (List UN)) =>
 Option.bind (Qv (Gp x1) QH (0, gmNil)) (fun (o2 : (Qj UN Bool)) => Option.bind (Option.bind (Qv (KO a0) QH (0, [a0.ty, a0.value])) (fun (o5 : (List Tm)) => Qt (Nat.ble (o5.length + ([a0.rcr.ty]).length) 1000000000)
 (Qt (Nat.ble ((o5 ++ ([a0.rcr.ty])).length + a0.rcr.rules.length) 1000000000)
 (Option.bind (Qv (Ky a0) QH (0, ((o5 ++ ([a0.rcr.ty])) ++ a0.rcr.rules))) (fun (o8 : (List Tm)) => some o8))))) (fun (y3 : (List Tm)) => Option.bind (Option.bind (Qv (Gm y3) QH (0, o2, [])) (fun (o19 : (Qj UN Bool) × (List UN)) => Option.bind (Qv (KN a0 y3) QH (0, o19.1, o19.2)) (Sum.elim (fun (o20 : (Qj UN Bool) × (List UN)) => some (o20.1, o20.2)) (fun o => some o)))) (fun (y17 : (Qj UN Bool) × (List UN)) => some y17.2)))
set_option maxRecDepth 100000 in
set_option maxHeartbeats 8000000 in
theorem XD (a0 : Dcl) (r : (List UN)) (h0 : Wh a0 = some r) : Fun Try.prog 53 [.agg (Uy a0)] (Qy [.one (Ut r)]) := by
 unfold Wh at h0
 refine QS 9 33 Try.func53 rfl en_53 rfl (Ug rfl) (fun S w => ?_)
 simp only [J8]
 refine Q2 <| Q0 <| Q9 rfl rfl (Ug rfl) (Jc rfl) <| U7 rfl rfl rfl <| Q3 <| Q1 <| Q2 <| Q0 <| Q9 rfl rfl (Ug rfl) (Yl UN Bool) <| Q9 rfl rfl (Ug rfl) (QC z_116 rfl) <| QL rfl rfl (Qw K7 rfl rfl rfl rfl (Ug rfl) rfl) <| Q3 <| Q1 <| Q2 ?_
 refine Q2 <| Q0 <| U5 rfl rfl rfl (Qq Jt rfl rfl rfl rfl) ?_
 refine Qb h0 (fun x1 hx1 h0 => ?_)
 refine Q9 rfl rfl (Ug rfl) (Ql (Gx a0 x1 hx1) rfl (.cons (.agg (.cons (.d _) (.cons (.d _) (.cons (.d _) (.cons (.d _) (.cons (.d _) (.cons (.d _) (.cons (.d _) (.cons (.d _) (.cons (.d _) (.cons (.d _) (.cons (.d _) (.cons (.d _) (.cons (.d _) (.cons (.d _) (.cons (.d _) (.cons (.d _) (.cons (.d _) (.cons (.d _) (.cons (.d _) (.cons (.d _) (.cons (.d _) (.cons (.d _) (.cons (.d _) .nil)))))))))))))))))))))))) .nil)) <| U5 rfl rfl rfl (QB (α := UN) QU rfl (.d _)) <| U6 rfl rfl rfl <| Q3 <| Q1 <| Qc ?_
 refine QF 0 (fun (o2 : (Qj UN Bool)) => ⟨[(1, .v (.one (.ptr 0 0))), (3, .v (.one (.ptr 2 0)))], [(0, .cells 48 (Uy a0)), (1, .mp (QT o2.1) o2.2), (2, .cells 116 [.mp 1])], [], 3, 33, []⟩) (fun (o2 : (Qj UN Bool)) => (Option.bind (Option.bind (Qv (KO a0) QH (0, [a0.ty, a0.value])) (fun (o5 : (List Tm)) => Qt (Nat.ble (o5.length + ([a0.rcr.ty]).length) 1000000000)
   (Qt (Nat.ble ((o5 ++ ([a0.rcr.ty])).length + a0.rcr.rules.length) 1000000000)
   (Option.bind (Qv (Ky a0) QH (0, ((o5 ++ ([a0.rcr.ty])) ++ a0.rcr.rules))) (fun (o8 : (List Tm)) => some o8))))) (fun (y3 : (List Tm)) => Option.bind (Option.bind (Qv (Gm y3) QH (0, o2, [])) (fun (o19 : (Qj UN Bool) × (List UN)) => Option.bind (Qv (KN a0 y3) QH (0, o19.1, o19.2)) (Sum.elim (fun (o20 : (Qj UN Bool) × (List UN)) => some (o20.1, o20.2)) (fun o => some o)))) (fun (y17 : (Qj UN Bool) × (List UN)) => some y17.2))) = some r) ?_ ?_
 refine Qb h0 (fun o3 hl1 h0 => ?_)
 refine QE (Gp x1) (fun s1 => ⟨[(1, .v (.one (.ptr 0 0))), (3, .v (.one (.ptr 2 0))), (10, .v (.one (Ut x1))), (11, .v (.one (Uv (x1.length : Int)))), (12, .v (.one (Uv s1.1)))], [(0, .cells 48 (Uy a0)), (1, .mp (QT s1.2.1) s1.2.2), (2, .cells 116 [.mp 1])], [], 3, 33, []⟩) (0, gmNil) o3 (Qf (U1 rfl (U1 rfl (U1 rfl (U1 rfl (U1 rfl U0))))) (Um rfl (Um rfl (Um rfl Ul))) Uh rfl (Nat.zero_le _) rfl rfl rfl (UE rfl rfl (UC rfl (UE rfl rfl UB))) rfl rfl) hl1 (fun s1 n1 oo1 h1 ho1 => ?_)
 unfold Gp at h1
 refine Q2 <| Q0 <| U5 rfl rfl rfl (Q5 rfl rfl rfl) <| Q3 <| Q1 <| Q2 ?_
 refine Qe (b := (decide (s1.1 < (x1.length : Int)))) rfl (fun c4 => ?_) (fun c4 => ?_)
 replace h1 := Qm c4 h1
 refine Qg <| Q1 <| Q2 <| Qc <| Q2 <| Q0 ?_
 refine Qb h1 (fun x5 hx5 h1 => ?_)
 refine U5 rfl rfl rfl (Qi (α := UN) QU rfl (.d _) rfl hx5) <| U5 rfl rfl rfl (QI JG rfl rfl) <| U7 rfl rfl rfl <| Q3 <| Q1 <| Q0 <| U5 rfl rfl rfl (Q7 K7 rfl rfl rfl) <| U6 rfl rfl rfl <| QL rfl rfl (JW (M := s1.2) (k := x5) (v := true) Kw rfl rfl rfl rfl rfl) <| Q3 <| Qh <| Q1 <| Q0 <| U5 rfl rfl rfl (Q5 rfl rfl rfl) ?_
 refine U6 rfl rfl rfl <| Q3 ?_
 have e := U3 h1; subst e
 refine QA ((J1 (s1.1 + 1)), (Y5 s1.2 x5 true)) (Qf (U1 rfl (U1 rfl (U1 rfl (U1 rfl (U1 rfl U0))))) (Um rfl (Um rfl (Um rfl Ul))) Uh rfl (Nat.zero_le _) rfl rfl rfl (UE rfl rfl (UC rfl (UE rfl rfl UB))) rfl rfl) ho1
 replace h1 := Qn c4 h1
 refine QJ <| Qd <| Qd ?_
 have e := U3 h1; subst e
 have e_ : _ = _ := ho1
 subst e_
 exact QD s1.2 (Qf (U1 rfl (U1 rfl U0)) (Um rfl (Um rfl (Um rfl Ul))) Uh rfl (Nat.zero_le _) rfl rfl rfl (UE rfl rfl (UC rfl (UE rfl rfl UB))) rfl rfl) h0
 intro o2 h0
 refine Qu <| Q1 <| Q2 <| Q0 <| Q9 rfl rfl (Ug rfl) (QC z_23 rfl) <| Q3 <| Q1 <| Q2 <| Q2 <| Q0 <| U5 rfl rfl rfl (Qq Jt rfl rfl rfl rfl) ?_
 refine Qb h0 (fun y6 h1 h0 => ?_)
 have hc7 : CallM Try.prog 67 [.agg (Uy a0)] ⟨[(0, .cells 48 (Uy a0)), (1, .mp (QT o2.1) o2.2), (2, .cells 116 [.mp 1]), (3, .cells 23 [Uu])], [], 4⟩ (Qy [.one (.fn 73 [(6, 0), (4, 0)])]) ⟨[(0, .cells 48 (Uy a0)), (1, .mp (QT o2.1) o2.2), (2, .cells 116 [.mp 1]), (3, .cells 23 [Uu]), (4, .cells 48 (Uy a0)), (6, .cells 40 [Ux 5 y6])], [(5, some ⟨42, 5, (Enc.encL y6).length, []⟩)], 7⟩ := by
  refine QP ⟨[(2, .v (.one (.fn 73 [(6, 0), (4, 0)])))], [(0, .cells 48 (Uy a0)), (1, .mp (QT o2.1) o2.2), (2, .cells 116 [.mp 1]), (3, .cells 23 [Uu]), (4, .cells 48 (Uy a0)), (6, .cells 40 [Ux 5 y6])], [(5, some ⟨42, 5, (Enc.encL y6).length, []⟩)], 7, 54, []⟩ rfl rfl en_67 (Ug rfl) rfl (Qk rfl .nil) (fun w0 M V0 Q hv1 hQ1 => ?_)
  simp only [J8]
  refine Q2 <| Q0 <| Q9 rfl rfl (Ug rfl) (Jc rfl) <| U7 rfl rfl rfl <| Q3 <| Q1 <| Q2 <| Q0 <| U5 rfl rfl rfl (Q4 GY rfl) <| U5 rfl rfl rfl (Qq Jh rfl rfl rfl rfl) <| U5 rfl rfl rfl (Q4 KD rfl) <| U5 rfl rfl rfl (Qq Jh rfl rfl rfl rfl) <| Q9 rfl rfl (Ug rfl) (OpOK.lit2E (α := Tm) a0.ty a0.value JH XW rfl rfl (Ug rfl) (Ug rfl) rfl rfl rfl (.cons (.d _) (.cons (.d _) (.cons (.d _) (.cons (.d _) (.cons (.d _) (.cons (.d _) (.cons (.d _) (.cons (.d _) (.cons (.d _) (.cons (.d _) .nil)))))))))) ⟨rfl, rfl⟩) <| Q9 rfl rfl (Ug rfl) (QC z_40 rfl) ?_
  refine QL rfl rfl (Qw Y3 rfl rfl rfl rfl (Ug rfl) rfl) <| Q3 <| Q1 <| Q2 <| Q2 <| Q0 <| U5 rfl rfl rfl (Q4 Yf rfl) <| U5 rfl rfl rfl (Q7 Zu rfl rfl rfl) <| U5 rfl rfl rfl (QB (α := Ctr) YU rfl (.d _)) <| U6 rfl rfl rfl <| Q3 <| Q1 <| Qc ?_
  refine QF 0 (fun (o8 : (List Tm)) => ⟨[(1, .v (.one (.ptr 4 0))), (3, .v (.one (.ptr 6 0)))], [(0, .cells 48 (Uy a0)), (1, .mp (QT o2.1) o2.2), (2, .cells 116 [.mp 1]), (3, .cells 23 [Uu]), (4, .cells 48 (Uy a0)), (6, .cells 40 [Ux 5 o8])], [(5, some ⟨42, 5, (Enc.encL o8).length, []⟩)], 7, 54, []⟩) (fun (o8 : (List Tm)) => (Qt (Nat.ble (o8.length + ([a0.rcr.ty]).length) 1000000000)
    (Qt (Nat.ble ((o8 ++ ([a0.rcr.ty])).length + a0.rcr.rules.length) 1000000000)
    (Option.bind (Qv (Ky a0) QH (0, ((o8 ++ ([a0.rcr.ty])) ++ a0.rcr.rules))) (fun (o11 : (List Tm)) => some o11)))) = some y6) ?_ ?_
  refine Qb h1 (fun o9 hl2 h1 => ?_)
  refine QE (KO a0) (fun s2 => ⟨[(1, .v (.one (.ptr 4 0))), (3, .v (.one (.ptr 6 0))), (14, .v (.one (Ut a0.ctors))), (15, .v (.one (Uv (a0.ctors.length : Int)))), (16, .v (.one (Uv s2.1)))], [(0, .cells 48 (Uy a0)), (1, .mp (QT o2.1) o2.2), (2, .cells 116 [.mp 1]), (3, .cells 23 [Uu]), (4, .cells 48 (Uy a0)), (6, .cells 40 [Ux 5 s2.2])], [(5, some ⟨42, 5, (Enc.encL s2.2).length, []⟩)], 7, 54, []⟩) (0, [a0.ty, a0.value]) o9 (Qf (U1 rfl (U1 rfl (U1 rfl (U1 rfl (U1 rfl U0))))) (Um rfl (Um rfl (Um rfl (Um rfl (Um rfl (Um rfl Ul)))))) (Ui rfl Uh) rfl (Nat.le_trans hv1 (Ug rfl)) rfl rfl rfl (UE rfl rfl (UC rfl (UE rfl rfl (UE rfl rfl (UE rfl rfl (UE rfl rfl UB)))))) rfl rfl) hl2 (fun s2 n2 oo2 h2 ho2 => ?_)
  unfold KO at h2
  refine Q2 <| Q0 <| U5 rfl rfl rfl (Q5 rfl rfl rfl) <| Q3 <| Q1 <| Q2 ?_
  refine Qe (b := (decide (s2.1 < (a0.ctors.length : Int)))) rfl (fun c10 => ?_) (fun c10 => ?_)
  replace h2 := Qm c10 h2
  refine Qg <| Q1 <| Q2 <| Qc <| Q2 <| Q0 ?_
  refine Qb h2 (fun x11 hx11 h2 => ?_)
  refine U5 rfl rfl rfl (Qi (α := Ctr) YU rfl (.d _) rfl hx11) <| U5 rfl rfl rfl (QY ag_84 rfl rfl rfl) <| Q9 rfl rfl (Ug rfl) (QC z_84 rfl) <| QL rfl rfl (Qw ag_84 rfl rfl rfl rfl (Ug rfl) rfl) <| Q3 <| Q1 ?_
  refine XC.swRun [5, 7, 8] [[], [5], [5, 7], [5, 7, 8], [5, 8]] [(8, 1), (6, 4), (7, 4)] mixed (by kernel_rfl) (by kernel_rfl) (by kernel_rfl) (by kernel_rfl) rfl (by kernel_rfl) ?_
  refine RunA.rd rfl rfl rfl (Q6 (Q7 Y3 rfl rfl rfl)) rfl <| RunA.rd rfl rfl rfl (Q6 (Q4 GW rfl)) rfl <| RunA.rd rfl rfl rfl (Q6 (Qq Jh rfl rfl rfl rfl)) rfl <| RunA.rd rfl rfl rfl (Q6 (QB (α := Tm) JH rfl (.app _ _))) rfl <| RunA.rd rfl rfl rfl (Yi (α := Tm) ((Tm.mk 0 0 ([] : List UInt8) ([] : List Lvl) ([] : List Tm))) JH XW rfl rfl (Ug rfl) rfl rfl (.cons (.d _) (.cons (.d _) (.cons (.d _) (.cons (.nil _) (.cons (.nil _) .nil))))) rfl) rfl ?_
  refine QQ h2 (fun g12 h2 => ?_)
  refine RunA.eff rfl rfl rfl (OpOK.appendH (α := Tm) (l := s2.2) (z := (Tm.mk 0 0 ([] : List UInt8) ([] : List Lvl) ([] : List Tm))) JH el_42 rfl rfl rfl rfl (.d _) g12) rfl <| RunA.rd rfl rfl rfl (Q6 (Ku JH rfl rfl rfl (lt_H (α := Tm) s2.2))) rfl <| RunA.eff rfl rfl rfl (OpOK.storeH (α := Tm) (l := s2.2) (y' := .agg [Uv x11.ty.kind, Uv x11.ty.index, YZ x11.ty.name, Ut x11.ty.levels, Ut x11.ty.kids]) x11.ty Jh rfl rfl (.agg (.cons (.d _) (.cons (.d _) (.cons (.d _) (.cons (.d _) (.cons (.d _) .nil)))))) rfl rfl rfl) rfl <| RunA.eff rfl rfl rfl (Qw Y3 rfl rfl rfl rfl (Ug rfl) rfl) rfl ?_
  refine RunA.nil ⟨[_], ⟨⟨_, _, rfl, rfl, _, _, rfl, rfl, rfl, .inl ⟨rfl, _, (Qw Y3 rfl rfl rfl rfl (Ug rfl) rfl), .inl ⟨rfl, 4, _, rfl, rfl, rfl⟩⟩⟩, ⟨⟨_, _, rfl, rfl, _, _, rfl, rfl, rfl, .inl ⟨rfl, _, (Q6 (Ku JH rfl rfl rfl (lt_H (α := Tm) s2.2))), .inr ⟨rfl, rfl⟩⟩⟩, ⟨⟨_, _, rfl, rfl, _, _, rfl, rfl, rfl, .inl ⟨rfl, _, (OpOK.storeH (α := Tm) (l := s2.2) (y' := .agg [Uv x11.ty.kind, Uv x11.ty.index, YZ x11.ty.name, Ut x11.ty.levels, Ut x11.ty.kids]) x11.ty Jh rfl rfl (.agg (.cons (.d _) (.cons (.d _) (.cons (.d _) (.cons (.d _) (.cons (.d _) .nil)))))) rfl rfl rfl), .inl ⟨rfl, 3, _, rfl, rfl, rfl⟩⟩⟩, trivial⟩⟩⟩, _, _, rfl, ?_⟩
  refine JV (st' := ⟨[(1, .v (.one (.ptr 4 0))), (3, .v (.one (.ptr 6 0))), (14, .v (.one (Ut a0.ctors))), (15, .v (.one (Uv (a0.ctors.length : Int)))), (16, .v (.one (Uv s2.1)))], [(0, .cells 48 (Uy a0)), (1, .mp (QT o2.1) o2.2), (2, .cells 116 [.mp 1]), (3, .cells 23 [Uu]), (4, .cells 48 (Uy a0)), (6, .cells 40 [.apv 5 5 ((Enc.encL s2.2).length + 1) (Enc.encL s2.2)]), (7, .cells 84 (Uy x11))], [(5, some ⟨42, 5, (Enc.encL s2.2).length + 1, (Enc.encL ([x11.ty] : List Tm)).flatten⟩)], 8, 54, []⟩) (Qf (U1 rfl (U1 rfl (U1 rfl (U1 rfl (U1 rfl U0))))) (Um rfl (Um rfl (Um rfl (Um rfl (Um rfl (Um rfl (Um rfl Ul))))))) (Ui rfl Uh) rfl (Nat.le_trans hv1 (Ug rfl)) rfl rfl rfl (UE rfl rfl (UC rfl (UE rfl rfl (UE rfl rfl (UE rfl rfl (UE rfl rfl (UE rfl rfl UB))))))) rfl rfl) <| XQ.settleC (α := Tm) (b := 6) (off := 0) (l := s2.2) (l2 := [x11.ty]) rfl rfl rfl (n_H _ _) <| Qh <| Q1 <| Q0 <| U5 rfl rfl rfl (Q5 rfl rfl rfl) <| U6 rfl rfl rfl <| Q3 ?_
  have e := U3 h2; subst e
  refine QA ((J1 (s2.1 + 1)), (s2.2 ++ [x11.ty])) (Qf (U1 rfl (U1 rfl (U1 rfl (U1 rfl (U1 rfl U0))))) (Um rfl (Um rfl (Um rfl (Um rfl (Um rfl (Um rfl Ul)))))) (Ui rfl Uh) rfl (Nat.le_trans hv1 (Ug rfl)) rfl rfl rfl (UE rfl rfl (UC rfl (UE rfl rfl (UE rfl rfl (UE rfl rfl (UE rfl rfl UB)))))) rfl rfl) ho2
  replace h2 := Qn c10 h2
  refine QJ <| Qd <| Qd ?_
  have e := U3 h2; subst e
  have e_ : _ = _ := ho2
  subst e_
  exact QD s2.2 (Qf (U1 rfl (U1 rfl U0)) (Um rfl (Um rfl (Um rfl (Um rfl (Um rfl (Um rfl Ul)))))) (Ui rfl Uh) rfl (Nat.le_trans hv1 (Ug rfl)) rfl rfl rfl (UE rfl rfl (UC rfl (UE rfl rfl (UE rfl rfl (UE rfl rfl (UE rfl rfl UB)))))) rfl rfl) h1
  intro o8 h1
  refine Qu <| Q1 <| Q2 ?_
  refine JO [5, 9, 10] [(6, 0), (7, 0), (8, 0)] mixed (by kernel_rfl) (by kernel_rfl) (by kernel_rfl) ?_
  refine RunA.rd rfl rfl rfl (Q6 (Q7 Y3 rfl rfl rfl)) rfl <| RunA.rd rfl rfl rfl (Q6 (Q4 YQ rfl)) rfl <| RunA.rd rfl rfl rfl (Q6 (Q4 GZ rfl)) rfl <| RunA.rd rfl rfl rfl (Q6 (Qq Jh rfl rfl rfl rfl)) rfl <| RunA.rd rfl rfl rfl (Yi (α := Tm) (a0.rcr.ty) JH XW rfl rfl (Ug rfl) rfl rfl (.cons (.d _) (.cons (.d _) (.cons (.d _) (.cons (.d _) (.cons (.d _) .nil))))) rfl) rfl ?_
  refine QQ h1 (fun g13 h1 => ?_)
  refine RunA.eff rfl rfl rfl (QO (α := Tm) JH el_42 rfl rfl rfl rfl rfl (.d _) g13) rfl <| RunA.rd rfl rfl rfl (Q6 (Q4 YQ rfl)) rfl <| RunA.rd rfl rfl rfl (Q6 (Q4 ZD rfl)) rfl <| RunA.rd rfl rfl rfl (Q6 (Q7 Y3 rfl rfl rfl)) rfl ?_
  refine QQ h1 (fun g14 h1 => ?_)
  refine RunA.eff rfl rfl rfl (QO (α := Tm) JH el_42 rfl rfl rfl rfl rfl (.d _) g14) rfl <| RunA.eff rfl rfl rfl (Qw Y3 rfl rfl rfl rfl (Ug rfl) rfl) rfl ?_
  refine RunA.nil ⟨?ex, _, _, rfl, ?_⟩
  case ex => exact ⟨⟨_, rfl, _, _, rfl, rfl, rfl, .inl ⟨rfl, _, Q6 (Q4 YQ rfl), rfl⟩⟩, ⟨_, rfl, _, _, rfl, rfl, rfl, .inl ⟨rfl, _, Q6 (Q4 ZD rfl), rfl⟩⟩, ⟨_, rfl, _, _, rfl, rfl, rfl, .inl ⟨rfl, _, Q6 (Q7 Y3 rfl rfl rfl), rfl⟩⟩, trivial⟩
  refine JV (st' := ⟨[(1, .v (.one (.ptr 4 0))), (3, .v (.one (.ptr 6 0)))], [(0, .cells 48 (Uy a0)), (1, .mp (QT o2.1) o2.2), (2, .cells 116 [.mp 1]), (3, .cells 23 [Uu]), (4, .cells 48 (Uy a0)), (6, .cells 40 [Ux 5 (((o8 ++ ([a0.rcr.ty])) ++ a0.rcr.rules) : List Tm)])], [(5, some ⟨42, 5, (Enc.encL (((o8 ++ ([a0.rcr.ty])) ++ a0.rcr.rules) : List Tm)).length, []⟩)], 7, 54, []⟩) (Qf (U1 rfl (U1 rfl U0)) (Um rfl (Um rfl (Um rfl (Um rfl (Um rfl (Um rfl Ul)))))) (Ui rfl Uh) rfl (Nat.le_trans hv1 (Ug rfl)) rfl rfl rfl (UE rfl rfl (UC rfl (UE rfl rfl (UE rfl rfl (UE rfl rfl (UE rfl rfl UB)))))) rfl rfl) <| Q1 <| Q2 <| Q2 <| Q0 <| U5 rfl rfl rfl (Q4 JB rfl) <| U5 rfl rfl rfl (Q7 Yu rfl rfl rfl) <| U5 rfl rfl rfl (QB (α := Fn) Yd rfl (.d _)) <| U6 rfl rfl rfl <| Q3 <| Q1 <| Qc ?_
  refine QF 2 (fun (o15 : (List Tm)) => ⟨[(1, .v (.one (.ptr 4 0))), (3, .v (.one (.ptr 6 0)))], [(0, .cells 48 (Uy a0)), (1, .mp (QT o2.1) o2.2), (2, .cells 116 [.mp 1]), (3, .cells 23 [Uu]), (4, .cells 48 (Uy a0)), (6, .cells 40 [Ux 5 o15])], [(5, some ⟨42, 5, (Enc.encL o15).length, []⟩)], 7, 54, []⟩) (fun (o15 : (List Tm)) => (some o15) = some y6) ?_ ?_
  refine Qb h1 (fun o16 hl2 h1 => ?_)
  refine QE (Ky a0) (fun s2 => ⟨[(1, .v (.one (.ptr 4 0))), (3, .v (.one (.ptr 6 0))), (39, .v (.one (Ut a0.funs))), (40, .v (.one (Uv (a0.funs.length : Int)))), (41, .v (.one (Uv s2.1)))], [(0, .cells 48 (Uy a0)), (1, .mp (QT o2.1) o2.2), (2, .cells 116 [.mp 1]), (3, .cells 23 [Uu]), (4, .cells 48 (Uy a0)), (6, .cells 40 [Ux 5 s2.2])], [(5, some ⟨42, 5, (Enc.encL s2.2).length, []⟩)], 7, 54, []⟩) (0, ((o8 ++ ([a0.rcr.ty])) ++ a0.rcr.rules)) o16 (Qf (U1 rfl (U1 rfl (U1 rfl (U1 rfl (U1 rfl U0))))) (Um rfl (Um rfl (Um rfl (Um rfl (Um rfl (Um rfl Ul)))))) (Ui rfl Uh) rfl (Nat.le_trans hv1 (Ug rfl)) rfl rfl rfl (UE rfl rfl (UC rfl (UE rfl rfl (UE rfl rfl (UE rfl rfl (UE rfl rfl UB)))))) rfl rfl) hl2 (fun s2 n2 oo2 h2 ho2 => ?_)
  unfold Ky at h2
  refine Q2 <| Q0 <| U5 rfl rfl rfl (Q5 rfl rfl rfl) <| Q3 <| Q1 <| Q2 ?_
  refine Qe (b := (decide (s2.1 < (a0.funs.length : Int)))) rfl (fun c17 => ?_) (fun c17 => ?_)
  replace h2 := Qm c17 h2
  refine Qg <| Q1 <| Q2 <| Qc <| Q2 <| Q0 ?_
  refine Qb h2 (fun x18 hx18 h2 => ?_)
  refine U5 rfl rfl rfl (Qi (α := Fn) Yd rfl (.d _) rfl hx18) <| U5 rfl rfl rfl (QY Zt rfl rfl rfl) <| Q9 rfl rfl (Ug rfl) (QC W9 rfl) <| QL rfl rfl (Qw Zt rfl rfl rfl rfl (Ug rfl) rfl) <| Q3 <| Q1 ?_
  refine XC.swRun [5, 7, 8] [[], [5], [5, 7], [5, 7, 8], [5, 8]] [(8, 1), (6, 4), (7, 4)] mixed (by kernel_rfl) (by kernel_rfl) (by kernel_rfl) (by kernel_rfl) rfl (by kernel_rfl) ?_
  refine RunA.rd rfl rfl rfl (Q6 (Q7 Y3 rfl rfl rfl)) rfl <| RunA.rd rfl rfl rfl (Q6 (Q4 GT rfl)) rfl <| RunA.rd rfl rfl rfl (Q6 (Qq Jh rfl rfl rfl rfl)) rfl <| RunA.rd rfl rfl rfl (Q6 (QB (α := Tm) JH rfl (.app _ _))) rfl <| RunA.rd rfl rfl rfl (Yi (α := Tm) ((Tm.mk 0 0 ([] : List UInt8) ([] : List Lvl) ([] : List Tm))) JH XW rfl rfl (Ug rfl) rfl rfl (.cons (.d _) (.cons (.d _) (.cons (.d _) (.cons (.nil _) (.cons (.nil _) .nil))))) rfl) rfl ?_
  refine QQ h2 (fun g19 h2 => ?_)
  refine RunA.eff rfl rfl rfl (OpOK.appendH (α := Tm) (l := s2.2) (z := (Tm.mk 0 0 ([] : List UInt8) ([] : List Lvl) ([] : List Tm))) JH el_42 rfl rfl rfl rfl (.d _) g19) rfl <| RunA.rd rfl rfl rfl (Q6 (Ku JH rfl rfl rfl (lt_H (α := Tm) s2.2))) rfl <| RunA.eff rfl rfl rfl (OpOK.storeH (α := Tm) (l := s2.2) (y' := .agg [Uv x18.ty.kind, Uv x18.ty.index, YZ x18.ty.name, Ut x18.ty.levels, Ut x18.ty.kids]) x18.ty Jh rfl rfl (.agg (.cons (.d _) (.cons (.d _) (.cons (.d _) (.cons (.d _) (.cons (.d _) .nil)))))) rfl rfl rfl) rfl <| RunA.eff rfl rfl rfl (Qw Y3 rfl rfl rfl rfl (Ug rfl) rfl) rfl ?_
  refine RunA.nil ⟨[_], ⟨⟨_, _, rfl, rfl, _, _, rfl, rfl, rfl, .inl ⟨rfl, _, (Qw Y3 rfl rfl rfl rfl (Ug rfl) rfl), .inl ⟨rfl, 4, _, rfl, rfl, rfl⟩⟩⟩, ⟨⟨_, _, rfl, rfl, _, _, rfl, rfl, rfl, .inl ⟨rfl, _, (Q6 (Ku JH rfl rfl rfl (lt_H (α := Tm) s2.2))), .inr ⟨rfl, rfl⟩⟩⟩, ⟨⟨_, _, rfl, rfl, _, _, rfl, rfl, rfl, .inl ⟨rfl, _, (OpOK.storeH (α := Tm) (l := s2.2) (y' := .agg [Uv x18.ty.kind, Uv x18.ty.index, YZ x18.ty.name, Ut x18.ty.levels, Ut x18.ty.kids]) x18.ty Jh rfl rfl (.agg (.cons (.d _) (.cons (.d _) (.cons (.d _) (.cons (.d _) (.cons (.d _) .nil)))))) rfl rfl rfl), .inl ⟨rfl, 3, _, rfl, rfl, rfl⟩⟩⟩, trivial⟩⟩⟩, _, _, rfl, ?_⟩
  refine JV (st' := ⟨[(1, .v (.one (.ptr 4 0))), (3, .v (.one (.ptr 6 0))), (39, .v (.one (Ut a0.funs))), (40, .v (.one (Uv (a0.funs.length : Int)))), (41, .v (.one (Uv s2.1)))], [(0, .cells 48 (Uy a0)), (1, .mp (QT o2.1) o2.2), (2, .cells 116 [.mp 1]), (3, .cells 23 [Uu]), (4, .cells 48 (Uy a0)), (6, .cells 40 [.apv 5 5 ((Enc.encL s2.2).length + 1) (Enc.encL s2.2)]), (7, .cells 89 (Uy x18))], [(5, some ⟨42, 5, (Enc.encL s2.2).length + 1, (Enc.encL ([x18.ty] : List Tm)).flatten⟩)], 8, 54, []⟩) (Qf (U1 rfl (U1 rfl (U1 rfl (U1 rfl (U1 rfl U0))))) (Um rfl (Um rfl (Um rfl (Um rfl (Um rfl (Um rfl (Um rfl Ul))))))) (Ui rfl Uh) rfl (Nat.le_trans hv1 (Ug rfl)) rfl rfl rfl (UE rfl rfl (UC rfl (UE rfl rfl (UE rfl rfl (UE rfl rfl (UE rfl rfl (UE rfl rfl UB))))))) rfl rfl) <| XQ.settleC (α := Tm) (b := 6) (off := 0) (l := s2.2) (l2 := [x18.ty]) rfl rfl rfl (n_H _ _) <| Qh <| Q1 <| Q0 <| U5 rfl rfl rfl (Q5 rfl rfl rfl) <| U6 rfl rfl rfl <| Q3 ?_
  have e := U3 h2; subst e
  refine QA ((J1 (s2.1 + 1)), (s2.2 ++ [x18.ty])) (Qf (U1 rfl (U1 rfl (U1 rfl (U1 rfl (U1 rfl U0))))) (Um rfl (Um rfl (Um rfl (Um rfl (Um rfl (Um rfl Ul)))))) (Ui rfl Uh) rfl (Nat.le_trans hv1 (Ug rfl)) rfl rfl rfl (UE rfl rfl (UC rfl (UE rfl rfl (UE rfl rfl (UE rfl rfl (UE rfl rfl UB)))))) rfl rfl) ho2
  replace h2 := Qn c17 h2
  refine QJ <| Qd <| Qd ?_
  have e := U3 h2; subst e
  have e_ : _ = _ := ho2
  subst e_
  exact QD s2.2 (Qf (U1 rfl (U1 rfl U0)) (Um rfl (Um rfl (Um rfl (Um rfl (Um rfl (Um rfl Ul)))))) (Ui rfl Uh) rfl (Nat.le_trans hv1 (Ug rfl)) rfl rfl rfl (UE rfl rfl (UC rfl (UE rfl rfl (UE rfl rfl (UE rfl rfl (UE rfl rfl UB)))))) rfl rfl) h1
  intro o15 h1
  refine Qu <| Q1 <| Q2 <| Q0 <| U5 rfl rfl rfl (RO.makeFunc2 rfl rfl) <| U7 rfl rfl rfl <| Q3 <| Q1 <| Qz ?_
  have e := U3 h1; subst e
  exact hQ1 _ _ _ (.inr rfl) rfl (Qf (U1 rfl U0) (Um rfl (Um rfl (Um rfl (Um rfl (Um rfl (Um rfl Ul)))))) (Ui rfl Uh) rfl (Nat.le_trans hv1 (Ug rfl)) rfl rfl rfl (UE rfl rfl (UC rfl (UE rfl rfl (UE rfl rfl (UE rfl rfl (UE rfl rfl UB)))))) rfl rfl)
 refine Q9 rfl rfl (Ug rfl) (J4 rfl rfl rfl hc7 rfl (Um rfl (Um rfl (Um rfl (Um rfl Ul)))) Uh) <| Q3 <| Q1 <| Qc <| Zj (i := 3) (off := 0) 9 1 rfl rfl <| XC.less (st' := ⟨[(3, .v (.one (.ptr 2 0))), (6, .v (.one (.ptr 3 0))), (20, .v (.one (.fn 73 [(6, 0), (4, 0)])))], [(0, .cells 48 (Uy a0)), (1, .mp (QT o2.1) o2.2), (2, .cells 116 [.mp 1]), (3, .cells 23 [Ux 7 ([] : List UN)]), (4, .cells 48 (Uy a0)), (6, .cells 40 [Ux 5 y6])], [(5, some ⟨42, 5, (Enc.encL y6).length, []⟩), (7, some ⟨9, 1, (Enc.encL ([] : List UN)).length, []⟩)], 8, 33, []⟩) (Qf (U1 rfl (U1 rfl (U1 rfl U0))) (Um rfl (Um rfl (Um rfl (Um rfl (Um rfl (Um rfl Ul)))))) (Ui rfl (Ui rfl Uh)) rfl (Nat.zero_le _) rfl rfl rfl (UE rfl rfl (UC rfl (UE rfl rfl (UE rfl rfl (UE rfl rfl (UE rfl rfl UB)))))) rfl rfl) ?_
 refine Qb h0 (fun y20 h1 h0 => ?_)
 have hc21 : CallM Try.prog 73 [.one (.yld 9), .one (.ptr 6 0), .one (.ptr 4 0)] ⟨[(9, .loop .ready none [(3, .v (.one (.ptr 2 0))), (6, .v (.one (.ptr 3 0))), (20, .v (.one (.fn 73 [(6, 0), (4, 0)])))] 33 #[21] Je Jd 8), (8, .obj (.deferred (some []))), (0, .cells 48 (Uy a0)), (1, .mp (QT o2.1) o2.2), (2, .cells 116 [.mp 1]), (3, .cells 23 [Ux 7 ([] : List UN)]), (4, .cells 48 (Uy a0)), (6, .cells 40 [Ux 5 y6])], [(5, some ⟨42, 5, (Enc.encL y6).length, []⟩), (7, some ⟨9, 1, (Enc.encL ([] : List UN)).length, []⟩)], 10⟩ (Qy []) ⟨[(0, .cells 48 (Uy a0)), (1, .mp (QT y20.1.1) y20.1.2), (2, .cells 116 [.mp 1]), (3, .cells 23 [Ux 7 y20.2]), (4, .cells 48 (Uy a0)), (6, .cells 40 [Ux 5 y6]), (8, .obj (.deferred (some []))), (9, .loop .ready none [(3, .v (.one (.ptr 2 0))), (6, .v (.one (.ptr 3 0))), (20, .v (.one (.fn 73 [(6, 0), (4, 0)])))] 33 #[21] Je Jd 8)], [(5, some ⟨42, 5, (Enc.encL y6).length, []⟩), (7, some ⟨9, 1, (Enc.encL y20.2).length, []⟩)], 10⟩ := by
  refine QP ⟨[], [(0, .cells 48 (Uy a0)), (1, .mp (QT y20.1.1) y20.1.2), (2, .cells 116 [.mp 1]), (3, .cells 23 [Ux 7 y20.2]), (4, .cells 48 (Uy a0)), (6, .cells 40 [Ux 5 y6]), (8, .obj (.deferred (some []))), (9, .loop .ready none [(3, .v (.one (.ptr 2 0))), (6, .v (.one (.ptr 3 0))), (20, .v (.one (.fn 73 [(6, 0), (4, 0)])))] 33 #[21] Je Jd 8)], [(5, some ⟨42, 5, (Enc.encL y6).length, []⟩), (7, some ⟨9, 1, (Enc.encL y20.2).length, []⟩)], 10, 42, []⟩ rfl rfl en_73 (Ug rfl) rfl .nil (fun w0 M V0 Q hv1 hQ1 => ?_)
  simp only [J8]
  refine Q2 <| Q2 <| Q0 <| U5 rfl rfl rfl (Q7 Y3 rfl rfl rfl) <| U5 rfl rfl rfl (QB (α := Tm) JH rfl (.app _ _)) <| U6 rfl rfl rfl <| Q3 <| Q1 <| Qc ?_
  refine QF 0 (fun (o22 : (Qj UN Bool) × (List UN)) => ⟨[(0, .v (.one (.yld 9))), (2, .v (.one (.ptr 4 0)))], [(0, .cells 48 (Uy a0)), (1, .mp (QT o22.1.1) o22.1.2), (2, .cells 116 [.mp 1]), (3, .cells 23 [Ux 7 o22.2]), (4, .cells 48 (Uy a0)), (6, .cells 40 [Ux 5 y6]), (8, .obj (.deferred (some []))), (9, .loop .ready none [(3, .v (.one (.ptr 2 0))), (6, .v (.one (.ptr 3 0))), (20, .v (.one (.fn 73 [(6, 0), (4, 0)])))] 33 #[21] Je Jd 8)], [(5, some ⟨42, 5, (Enc.encL y6).length, []⟩), (7, some ⟨9, 1, (Enc.encL o22.2).length, []⟩)], 10, 42, []⟩) (fun (o22 : (Qj UN Bool) × (List UN)) => (Option.bind (Qv (KN a0 y6) QH (0, o22.1, o22.2)) (Sum.elim (fun (o23 : (Qj UN Bool) × (List UN)) => some (o23.1, o23.2)) (fun o => some o))) = some y20) ?_ ?_
  refine Qb h1 (fun o23 hl2 h1 => ?_)
  refine QE (Gm y6) (fun s2 => ⟨[(0, .v (.one (.yld 9))), (2, .v (.one (.ptr 4 0))), (10, .v (.one (Ux 5 y6))), (11, .v (.one (Uv (y6.length : Int)))), (12, .v (.one (Uv s2.1)))], [(0, .cells 48 (Uy a0)), (1, .mp (QT s2.2.1.1) s2.2.1.2), (2, .cells 116 [.mp 1]), (3, .cells 23 [Ux 7 s2.2.2]), (4, .cells 48 (Uy a0)), (6, .cells 40 [Ux 5 y6]), (8, .obj (.deferred (some []))), (9, .loop .ready none [(3, .v (.one (.ptr 2 0))), (6, .v (.one (.ptr 3 0))), (20, .v (.one (.fn 73 [(6, 0), (4, 0)])))] 33 #[21] Je Jd 8)], [(5, some ⟨42, 5, (Enc.encL y6).length, []⟩), (7, some ⟨9, 1, (Enc.encL s2.2.2).length, []⟩)], 10, 42, []⟩) (0, o2, []) o23 (Qf (U1 rfl (U1 rfl (U1 rfl (U1 rfl (U1 rfl U0))))) (Um rfl (Um rfl (Um rfl (Um rfl (Um rfl (Um rfl (Um rfl (Um rfl Ul)))))))) (Ui rfl (Ui rfl Uh)) rfl (Nat.le_trans hv1 (Ug rfl)) rfl rfl rfl (UE rfl rfl (UC rfl (UE rfl rfl (UE rfl rfl (UE rfl rfl (UE rfl rfl (UE rfl rfl (UE rfl rfl UB)))))))) rfl rfl) hl2 (fun s2 n2 oo2 h2 ho2 => ?_)
  unfold Gm at h2
  refine Q2 <| Q0 <| U5 rfl rfl rfl (Q5 rfl rfl rfl) <| Q3 <| Q1 <| Q2 ?_
  refine Qe (b := (decide (s2.1 < (y6.length : Int)))) rfl (fun c24 => ?_) (fun c24 => ?_)
  replace h2 := Qm c24 h2
  refine Qg <| Q1 <| Q2 <| Qc <| Q2 <| Q0 ?_
  refine Qb h2 (fun x25 hx25 h2 => ?_)
  refine U5 rfl rfl rfl (Qi (α := Tm) JH rfl (.app _ _) rfl hx25) <| U5 rfl rfl rfl (QY Jh rfl rfl rfl) <| Q9 rfl rfl (Ug rfl) (QC XW rfl) <| QL rfl rfl (Qw Jh rfl rfl rfl rfl (Ug rfl) rfl) <| Q3 <| Q1 <| Q2 <| Q0 <| U5 rfl rfl rfl (Qq Jh rfl rfl rfl rfl) ?_
  refine Qb h2 (fun x26 hx26 h2 => ?_)
  refine Q9 rfl rfl (Ug rfl) (Ql (m74_ok x25 x26 hx26) rfl (.cons (.agg (.cons (.d _) (.cons (.d _) (.cons (.d _) (.cons (.d _) (.cons (.d _) .nil)))))) .nil)) <| U5 rfl rfl rfl (QB (α := UN) QU rfl (.d _)) <| U6 rfl rfl rfl <| Q3 <| Q1 <| Qc ?_
  refine QF 2 (fun (o27 : (Qj UN Bool) × (List UN)) => ⟨[(0, .v (.one (.yld 9))), (2, .v (.one (.ptr 4 0))), (10, .v (.one (Ux 5 y6))), (11, .v (.one (Uv (y6.length : Int)))), (12, .v (.one (Uv s2.1)))], [(0, .cells 48 (Uy a0)), (1, .mp (QT o27.1.1) o27.1.2), (2, .cells 116 [.mp 1]), (3, .cells 23 [Ux 7 o27.2]), (4, .cells 48 (Uy a0)), (6, .cells 40 [Ux 5 y6]), (8, .obj (.deferred (some []))), (9, .loop .ready none [(3, .v (.one (.ptr 2 0))), (6, .v (.one (.ptr 3 0))), (20, .v (.one (.fn 73 [(6, 0), (4, 0)])))] 33 #[21] Je Jd 8), (10, .cells 42 (Uy x25))], [(5, some ⟨42, 5, (Enc.encL y6).length, []⟩), (7, some ⟨9, 1, (Enc.encL o27.2).length, []⟩)], 11, 42, []⟩) (fun (o27 : (Qj UN Bool) × (List UN)) => (some (.next ((J1 (s2.1 + 1)), o27.1, o27.2))) = some oo2) ?_ ?_
  refine Qb h2 (fun o28 hl3 h2 => ?_)
  refine QE (Gn x26) (fun s3 => ⟨[(0, .v (.one (.yld 9))), (2, .v (.one (.ptr 4 0))), (10, .v (.one (Ux 5 y6))), (11, .v (.one (Uv (y6.length : Int)))), (12, .v (.one (Uv s2.1))), (17, .v (.one (Ut x26))), (18, .v (.one (Uv (x26.length : Int)))), (19, .v (.one (Uv s3.1)))], [(0, .cells 48 (Uy a0)), (1, .mp (QT s3.2.1.1) s3.2.1.2), (2, .cells 116 [.mp 1]), (3, .cells 23 [Ux 7 s3.2.2]), (4, .cells 48 (Uy a0)), (6, .cells 40 [Ux 5 y6]), (8, .obj (.deferred (some []))), (9, .loop .ready none [(3, .v (.one (.ptr 2 0))), (6, .v (.one (.ptr 3 0))), (20, .v (.one (.fn 73 [(6, 0), (4, 0)])))] 33 #[21] Je Jd 8), (10, .cells 42 (Uy x25))], [(5, some ⟨42, 5, (Enc.encL y6).length, []⟩), (7, some ⟨9, 1, (Enc.encL s3.2.2).length, []⟩)], 11, 42, []⟩) (0, s2.2.1, s2.2.2) o28 (Qf (U1 rfl (U1 rfl (U1 rfl (U1 rfl (U1 rfl (U1 rfl (U1 rfl (U1 rfl U0)))))))) (Um rfl (Um rfl (Um rfl (Um rfl (Um rfl (Um rfl (Um rfl (Um rfl (Um rfl Ul))))))))) (Ui rfl (Ui rfl Uh)) rfl (Nat.le_trans hv1 (Ug rfl)) rfl rfl rfl (UE rfl rfl (UC rfl (UE rfl rfl (UE rfl rfl (UE rfl rfl (UE rfl rfl (UE rfl rfl (UE rfl rfl (UE rfl rfl UB))))))))) rfl rfl) hl3 (fun s3 n3 oo3 h3 ho3 => ?_)
  unfold Gn at h3
  refine Q2 <| Q0 <| U5 rfl rfl rfl (Q5 rfl rfl rfl) <| Q3 <| Q1 <| Q2 ?_
  refine Qe (b := (decide (s3.1 < (x26.length : Int)))) rfl (fun c29 => ?_) (fun c29 => ?_)
  replace h3 := Qm c29 h3
  refine Qg <| Q1 <| Q2 <| Qc <| Q2 <| Q0 ?_
  refine Qb h3 (fun x30 hx30 h3 => ?_)
  refine U5 rfl rfl rfl (Qi (α := UN) QU rfl (.d _) rfl hx30) <| U5 rfl rfl rfl (QI JG rfl rfl) <| U7 rfl rfl rfl <| Q3 <| Q1 <| Q2 <| Q0 <| U6 rfl rfl rfl <| U6 rfl rfl rfl ?_
  refine Qb h3 (fun y31 h4 h3 => ?_)
  have ha32 : ExecOK Try.prog (some 9) Je ⟨[(3, .v (.one (.ptr 2 0))), (6, .v (.one (.ptr 3 0))), (20, .v (.one (.fn 73 [(6, 0), (4, 0)]))), (21, .v (.one (YZ x30)))], [(0, .cells 48 (Uy a0)), (1, .mp (QT s3.2.1.1) s3.2.1.2), (2, .cells 116 [.mp 1]), (3, .cells 23 [Ux 7 s3.2.2]), (4, .cells 48 (Uy a0)), (6, .cells 40 [Ux 5 y6]), (8, .obj (.deferred (some []))), (9, .loop .ready none [(3, .v (.one (.ptr 2 0))), (6, .v (.one (.ptr 3 0))), (20, .v (.one (.fn 73 [(6, 0), (4, 0)])))] 33 #[21] Je Jd 8), (10, .cells 42 (Uy x25))], [(5, some ⟨42, 5, (Enc.encL y6).length, []⟩), (7, some ⟨9, 1, (Enc.encL s3.2.2).length, []⟩)], 11, 33, []⟩ .normal ⟨[(3, .v (.one (.ptr 2 0))), (6, .v (.one (.ptr 3 0))), (7, .v (.one (YZ x30)))], [(0, .cells 48 (Uy a0)), (1, .mp (QT s3.2.1.1) s3.2.1.2), (2, .cells 116 [.mp 1]), (3, .cells 23 [Ux 7 s3.2.2]), (4, .cells 48 (Uy a0)), (6, .cells 40 [Ux 5 y6]), (8, .obj (.deferred (some []))), (9, .loop .ready none [(3, .v (.one (.ptr 2 0))), (6, .v (.one (.ptr 3 0))), (20, .v (.one (.fn 73 [(6, 0), (4, 0)])))] 33 #[21] Je Jd 8), (10, .cells 42 (Uy x25))], [(5, some ⟨42, 5, (Enc.encL y6).length, []⟩), (7, some ⟨9, 1, (Enc.encL s3.2.2).length, []⟩)], 11, 33, []⟩ := by
   refine Yv (fun w0 M V0 ro n Q hv4 hro4 hQn4 => ?_)
   refine Q0 <| U7 rfl rfl rfl <| Q3 ?_
   exact KH hQn4 (Qf (U1 rfl (U1 rfl (U1 rfl U0))) (Um rfl (Um rfl (Um rfl (Um rfl (Um rfl (Um rfl (Um rfl (Um rfl (Um rfl Ul))))))))) (Ui rfl (Ui rfl Uh)) rfl (Nat.le_trans hv4 (Ug rfl)) rfl rfl rfl (UE rfl rfl (UC rfl (UE rfl rfl (UE rfl rfl (UE rfl rfl (UE rfl rfl (UE rfl rfl (UE rfl rfl (UE rfl rfl UB))))))))) rfl rfl)
  have hb33 : ExecOK Try.prog (some 9) Jd ⟨[(3, .v (.one (.ptr 2 0))), (6, .v (.one (.ptr 3 0))), (7, .v (.one (YZ x30)))], [(0, .cells 48 (Uy a0)), (1, .mp (QT s3.2.1.1) s3.2.1.2), (2, .cells 116 [.mp 1]), (3, .cells 23 [Ux 7 s3.2.2]), (4, .cells 48 (Uy a0)), (6, .cells 40 [Ux 5 y6]), (8, .obj (.deferred (some []))), (9, .loop .busy none [(3, .v (.one (.ptr 2 0))), (6, .v (.one (.ptr 3 0))), (20, .v (.one (.fn 73 [(6, 0), (4, 0)])))] 33 #[21] Je Jd 8), (10, .cells 42 (Uy x25))], [(5, some ⟨42, 5, (Enc.encL y6).length, []⟩), (7, some ⟨9, 1, (Enc.encL s3.2.2).length, []⟩)], 11, 33, []⟩ .normal ⟨[], [(0, .cells 48 (Uy a0)), (1, .mp (QT y31.1.1) y31.1.2), (2, .cells 116 [.mp 1]), (3, .cells 23 [Ux 7 y31.2]), (4, .cells 48 (Uy a0)), (6, .cells 40 [Ux 5 y6]), (8, .obj (.deferred (some []))), (9, .loop .busy none [(3, .v (.one (.ptr 2 0))), (6, .v (.one (.ptr 3 0))), (20, .v (.one (.fn 73 [(6, 0), (4, 0)])))] 33 #[21] Je Jd 8), (10, .cells 42 (Uy x25))], [(5, some ⟨42, 5, (Enc.encL y6).length, []⟩), (7, some ⟨9, 1, (Enc.encL y31.2).length, []⟩)], 11, 33, []⟩ := by
   refine Yv (fun w0 M V0 ro n Q hv4 hro4 hQn4 => ?_)
   refine Qc <| Q2 <| Q0 <| U5 rfl rfl rfl (Q7 K7 rfl rfl rfl) <| U6 rfl rfl rfl <| U5 rfl rfl rfl (RO.lookupGF (M := s3.2.1) (k := x30) Kw zok_bool rfl rfl rfl) <| U5 rfl rfl rfl (J9 rfl) <| Q3 <| Q1 ?_
   refine Qe (b := (!(Jl s3.2.1 x30))) rfl (fun c34 => ?_) (fun c34 => ?_)
   replace h4 := Qm c34 h4
   refine Q2 <| Q0 <| U5 rfl rfl rfl (Q7 K7 rfl rfl rfl) <| U6 rfl rfl rfl <| QL rfl rfl (JW (M := s3.2.1) (k := x30) (v := true) Kw rfl rfl rfl rfl rfl) <| Q3 <| Q1 <| Q0 <| U5 rfl rfl rfl (Q7 Gi rfl rfl rfl) <| U6 rfl rfl rfl <| Q9 rfl rfl (Ug rfl) (QZ (α := UN) (x30) QU XO rfl rfl (Ug rfl) (Ug rfl) rfl rfl (.cons (.d _) .nil) rfl) ?_
   refine QQ h4 (fun g35 h4 => ?_)
   refine Q9 rfl rfl (Ug rfl) (QO (α := UN) QU ZF rfl rfl rfl rfl rfl (.app _ _) g35) <| QL rfl rfl (Qw Gi rfl rfl rfl rfl (Ug rfl) rfl) <| Q3 <| Qh ?_
   have e := U3 h4; subst e
   exact KH hQn4 (Qf U0 (Um rfl (Um rfl (Um rfl (Um rfl (Um rfl (Um rfl (Um rfl (Um rfl (Um rfl Ul))))))))) (Ui rfl (Ui rfl Uh)) rfl (Nat.le_trans hv4 (Ug rfl)) rfl rfl rfl (UE rfl rfl (UC rfl (UE rfl rfl (UE rfl rfl (UE rfl rfl (UE rfl rfl (UE rfl rfl (UE rfl rfl (UE rfl rfl UB))))))))) rfl rfl)
   replace h4 := Qn c34 h4
   refine Qg <| Qh ?_
   have e := U3 h4; subst e
   exact KH hQn4 (Qf U0 (Um rfl (Um rfl (Um rfl (Um rfl (Um rfl (Um rfl (Um rfl (Um rfl (Um rfl Ul))))))))) (Ui rfl (Ui rfl Uh)) rfl (Nat.le_trans hv4 (Ug rfl)) rfl rfl rfl (UE rfl rfl (UC rfl (UE rfl rfl (UE rfl rfl (UE rfl rfl (UE rfl rfl (UE rfl rfl (UE rfl rfl (UE rfl rfl UB))))))))) rfl rfl)
  refine Q9 rfl rfl (Ug rfl) (OpOK.yield (jump := none) rfl rfl rfl rfl rfl (Yw ha32 (fun E hv => (Qf (U1 rfl (U1 rfl (U1 rfl (U1 rfl U0)))) (Um rfl (Um rfl (Um rfl (Um rfl (Um rfl (Um rfl (Um rfl (Um rfl (Um rfl Ul))))))))) (Ui rfl (Ui rfl Uh)) rfl (Nat.le_trans hv (Ug rfl)) rfl rfl rfl (UE rfl rfl (UC rfl (UE rfl rfl (UE rfl rfl (UE rfl rfl (UE rfl rfl (UE rfl rfl (UE rfl rfl (UE rfl rfl UB))))))))) rfl rfl))) rfl (Yw hb33 (fun E hv => (Qf (U1 rfl (U1 rfl (U1 rfl U0))) (Um rfl (Um rfl (Um rfl (Um rfl (Um rfl (Um rfl (Um rfl (Um rfl (Um rfl Ul))))))))) (Ui rfl (Ui rfl Uh)) rfl (Nat.le_trans hv (Ug rfl)) rfl rfl rfl (UE rfl rfl (UC rfl (UE rfl rfl (UE rfl rfl (UE rfl rfl (UE rfl rfl (UE rfl rfl (UE rfl rfl (UE rfl rfl UB))))))))) rfl rfl))) rfl rfl) ?_
  refine U5 rfl rfl rfl (J9 rfl) <| Q3 <| Q1 ?_
  refine Qe rfl (fun h => nomatch h) (fun _ => ?_)
  refine Qg <| Qh <| Q1 <| Q0 <| U5 rfl rfl rfl (Q5 rfl rfl rfl) <| U6 rfl rfl rfl <| Q3 ?_
  have e := U3 h3; subst e
  refine QA ((J1 (s3.1 + 1)), y31.1, y31.2) (Qf (U1 rfl (U1 rfl (U1 rfl (U1 rfl (U1 rfl (U1 rfl (U1 rfl (U1 rfl U0)))))))) (Um rfl (Um rfl (Um rfl (Um rfl (Um rfl (Um rfl (Um rfl (Um rfl (Um rfl Ul))))))))) (Ui rfl (Ui rfl Uh)) rfl (Nat.le_trans hv1 (Ug rfl)) rfl rfl rfl (UE rfl rfl (UC rfl (UE rfl rfl (UE rfl rfl (UE rfl rfl (UE rfl rfl (UE rfl rfl (UE rfl rfl (UE rfl rfl UB))))))))) rfl rfl) ho3
  replace h3 := Qn c29 h3
  refine QJ <| Qd <| Qd ?_
  have e := U3 h3; subst e
  have e_ : _ = _ := ho3
  subst e_
  exact QD (s3.2.1, s3.2.2) (Qf (U1 rfl (U1 rfl (U1 rfl (U1 rfl (U1 rfl U0))))) (Um rfl (Um rfl (Um rfl (Um rfl (Um rfl (Um rfl (Um rfl (Um rfl (Um rfl Ul))))))))) (Ui rfl (Ui rfl Uh)) rfl (Nat.le_trans hv1 (Ug rfl)) rfl rfl rfl (UE rfl rfl (UC rfl (UE rfl rfl (UE rfl rfl (UE rfl rfl (UE rfl rfl (UE rfl rfl (UE rfl rfl (UE rfl rfl UB))))))))) rfl rfl) h2
  intro o27 h2
  refine Qu <| Qh <| Q1 <| Q0 <| U5 rfl rfl rfl (Q5 rfl rfl rfl) <| U6 rfl rfl rfl <| Q3 ?_
  have e := U3 h2; subst e
  refine QA ((J1 (s2.1 + 1)), o27.1, o27.2) (Qf (U1 rfl (U1 rfl (U1 rfl (U1 rfl (U1 rfl U0))))) (Um rfl (Um rfl (Um rfl (Um rfl (Um rfl (Um rfl (Um rfl (Um rfl Ul)))))))) (Ui rfl (Ui rfl Uh)) rfl (Nat.le_trans hv1 (Ug rfl)) rfl rfl rfl (UE rfl rfl (UC rfl (UE rfl rfl (UE rfl rfl (UE rfl rfl (UE rfl rfl (UE rfl rfl (UE rfl rfl UB)))))))) rfl rfl) ho2
  replace h2 := Qn c24 h2
  refine QJ <| Qd <| Qd ?_
  have e := U3 h2; subst e
  have e_ : _ = _ := ho2
  subst e_
  exact QD (s2.2.1, s2.2.2) (Qf (U1 rfl (U1 rfl U0)) (Um rfl (Um rfl (Um rfl (Um rfl (Um rfl (Um rfl (Um rfl (Um rfl Ul)))))))) (Ui rfl (Ui rfl Uh)) rfl (Nat.le_trans hv1 (Ug rfl)) rfl rfl rfl (UE rfl rfl (UC rfl (UE rfl rfl (UE rfl rfl (UE rfl rfl (UE rfl rfl (UE rfl rfl (UE rfl rfl UB)))))))) rfl rfl) h1
  intro o22 h1
  refine Qu <| Q1 <| Q2 <| Q0 <| U5 rfl rfl rfl (Q4 JB rfl) <| U5 rfl rfl rfl (Q7 Yu rfl rfl rfl) <| U5 rfl rfl rfl (QB (α := Fn) Yd rfl (.d _)) <| U6 rfl rfl rfl <| Q3 <| Q1 <| Qc ?_
  refine QF 4 (fun (o36 : (Qj UN Bool) × (List UN)) => ⟨[], [(0, .cells 48 (Uy a0)), (1, .mp (QT o36.1.1) o36.1.2), (2, .cells 116 [.mp 1]), (3, .cells 23 [Ux 7 o36.2]), (4, .cells 48 (Uy a0)), (6, .cells 40 [Ux 5 y6]), (8, .obj (.deferred (some []))), (9, .loop .ready none [(3, .v (.one (.ptr 2 0))), (6, .v (.one (.ptr 3 0))), (20, .v (.one (.fn 73 [(6, 0), (4, 0)])))] 33 #[21] Je Jd 8)], [(5, some ⟨42, 5, (Enc.encL y6).length, []⟩), (7, some ⟨9, 1, (Enc.encL o36.2).length, []⟩)], 10, 42, []⟩) (fun (o36 : (Qj UN Bool) × (List UN)) => (some (o36.1, o36.2)) = some y20) ?_ ?_
  refine Qb h1 (fun o37 hl2 h1 => ?_)
  refine QE (KN a0 y6) (fun s2 => ⟨[(0, .v (.one (.yld 9))), (30, .v (.one (Ut a0.funs))), (31, .v (.one (Uv (a0.funs.length : Int)))), (32, .v (.one (Uv s2.1)))], [(0, .cells 48 (Uy a0)), (1, .mp (QT s2.2.1.1) s2.2.1.2), (2, .cells 116 [.mp 1]), (3, .cells 23 [Ux 7 s2.2.2]), (4, .cells 48 (Uy a0)), (6, .cells 40 [Ux 5 y6]), (8, .obj (.deferred (some []))), (9, .loop .ready none [(3, .v (.one (.ptr 2 0))), (6, .v (.one (.ptr 3 0))), (20, .v (.one (.fn 73 [(6, 0), (4, 0)])))] 33 #[21] Je Jd 8)], [(5, some ⟨42, 5, (Enc.encL y6).length, []⟩), (7, some ⟨9, 1, (Enc.encL s2.2.2).length, []⟩)], 10, 42, []⟩) (0, o22.1, o22.2) o37 (Qf (U1 rfl (U1 rfl (U1 rfl (U1 rfl U0)))) (Um rfl (Um rfl (Um rfl (Um rfl (Um rfl (Um rfl (Um rfl (Um rfl Ul)))))))) (Ui rfl (Ui rfl Uh)) rfl (Nat.le_trans hv1 (Ug rfl)) rfl rfl rfl (UE rfl rfl (UC rfl (UE rfl rfl (UE rfl rfl (UE rfl rfl (UE rfl rfl (UE rfl rfl (UE rfl rfl UB)))))))) rfl rfl) hl2 (fun s2 n2 oo2 h2 ho2 => ?_)
  unfold KN at h2
  refine Q2 <| Q0 <| U5 rfl rfl rfl (Q5 rfl rfl rfl) <| Q3 <| Q1 <| Q2 ?_
  refine Qe (b := (decide (s2.1 < (a0.funs.length : Int)))) rfl (fun c38 => ?_) (fun c38 => ?_)
  replace h2 := Qm c38 h2
  refine Qg <| Q1 <| Q2 <| Qc <| Q2 <| Q0 ?_
  refine Qb h2 (fun x39 hx39 h2 => ?_)
  refine U5 rfl rfl rfl (Qi (α := Fn) Yd rfl (.d _) rfl hx39) <| U5 rfl rfl rfl (QY Zt rfl rfl rfl) <| Q9 rfl rfl (Ug rfl) (QC W9 rfl) <| QL rfl rfl (Qw Zt rfl rfl rfl rfl (Ug rfl) rfl) <| Q3 <| Q1 <| Q2 <| Q0 <| U5 rfl rfl rfl (Q4 GS rfl) <| U5 rfl rfl rfl (Qq Gh rfl rfl rfl rfl) <| U6 rfl rfl rfl ?_
  refine Qb h2 (fun x40 hx40 h2 => ?_)
  refine Q9 rfl rfl (Ug rfl) (QW (hp1' := [(9, .loop .ready none [(3, .v (.one (.ptr 2 0))), (6, .v (.one (.ptr 3 0))), (20, .v (.one (.fn 73 [(6, 0), (4, 0)])))] 33 #[21] Je Jd 8), (8, .obj (.deferred (some []))), (2, .cells 116 [.mp 1]), (1, .mp (QT x40.2.1.1) x40.2.1.2), (3, .cells 23 [Ux 7 x40.2.2]), (6, .cells 40 [Ux 5 y6]), (4, .cells 48 (Uy a0))]) (tk1' := [(7, some ⟨9, 1, (Enc.encL x40.2.2).length, []⟩), (5, some ⟨42, 5, (Enc.encL y6).length, []⟩)]) (hpF := [(0, .cells 48 (Uy a0)), (10, .cells 89 (Uy x39))]) (tkF := []) (res2 := Qy [.one (Uw x40.1)]) (nx2 := 13) [9, 8, 2, 1, 3, 7, 6, 5, 4] rfl rfl (m75f1_ok x39.tree s2.2.1 s2.2.2 y6 a0 x40 hx40) rfl rfl (Ub rfl rfl (Ub rfl rfl (Ub rfl rfl (U9 rfl (Ub rfl rfl (Ub rfl rfl (Ub rfl rfl U8))))))) rfl rfl (Uq rfl (Uq rfl (Uq rfl (Ur rfl (Uq rfl (Uq rfl (Uq rfl Uo))))))) (Uk rfl (Uk rfl Uj)) (Um rfl (Um rfl Ul)) Uh rfl rfl rfl rfl rfl (UE rfl rfl (UE rfl rfl (UE rfl rfl (UC rfl (UE rfl rfl (UE rfl rfl (UE rfl rfl UB))))))) rfl rfl rfl rfl) <| U5 rfl rfl rfl (J9 rfl) <| Q3 <| Q1 ?_
  refine Qe (b := (!x40.1)) rfl (fun c41 => ?_) (fun c41 => ?_)
  replace h2 := Qm c41 h2
  refine Qz ?_
  have e := U3 h2; subst e
  have e_ : _ = _ := ho2
  subst e_
  try dsimp only [Sum.elim_inl, Sum.elim_inr] at h1
  have e := U3 h1; subst e
  exact hQ1 _ _ _ (.inr rfl) rfl (Qf U0 (Um rfl (Um rfl (Um rfl (Um rfl (Um rfl (Um rfl (Um rfl (Um rfl Ul)))))))) (Ui rfl (Ui rfl Uh)) rfl (Nat.le_trans hv1 (Ug rfl)) rfl rfl rfl (UE rfl rfl (UC rfl (UE rfl rfl (UE rfl rfl (UE rfl rfl (UE rfl rfl (UE rfl rfl (UE rfl rfl UB)))))))) rfl rfl)
  replace h2 := Qn c41 h2
  refine Qg <| Qh <| Q1 <| Q0 <| U5 rfl rfl rfl (Q5 rfl rfl rfl) <| U6 rfl rfl rfl <| Q3 ?_
  have e := U3 h2; subst e
  refine QA ((J1 (s2.1 + 1)), x40.2.1, x40.2.2) (Qf (U1 rfl (U1 rfl (U1 rfl (U1 rfl U0)))) (Um rfl (Um rfl (Um rfl (Um rfl (Um rfl (Um rfl (Um rfl (Um rfl Ul)))))))) (Ui rfl (Ui rfl Uh)) rfl (Nat.le_trans hv1 (Ug rfl)) rfl rfl rfl (UE rfl rfl (UC rfl (UE rfl rfl (UE rfl rfl (UE rfl rfl (UE rfl rfl (UE rfl rfl (UE rfl rfl UB)))))))) rfl rfl) ho2
  replace h2 := Qn c38 h2
  refine QJ <| Qd <| Qd ?_
  have e := U3 h2; subst e
  have e_ : _ = _ := ho2
  subst e_
  exact QD (s2.2.1, s2.2.2) (Qf U0 (Um rfl (Um rfl (Um rfl (Um rfl (Um rfl (Um rfl (Um rfl (Um rfl Ul)))))))) (Ui rfl (Ui rfl Uh)) rfl (Nat.le_trans hv1 (Ug rfl)) rfl rfl rfl (UE rfl rfl (UC rfl (UE rfl rfl (UE rfl rfl (UE rfl rfl (UE rfl rfl (UE rfl rfl (UE rfl rfl UB)))))))) rfl rfl) h1
  intro o36 h1
  refine Qu ?_
  have e := U3 h1; subst e
  exact hQ1 _ _ _ (.inl rfl) rfl (Qf U0 (Um rfl (Um rfl (Um rfl (Um rfl (Um rfl (Um rfl (Um rfl (Um rfl Ul)))))))) (Ui rfl (Ui rfl Uh)) rfl (Nat.le_trans hv1 (Ug rfl)) rfl rfl rfl (UE rfl rfl (UC rfl (UE rfl rfl (UE rfl rfl (UE rfl rfl (UE rfl rfl (UE rfl rfl (UE rfl rfl UB)))))))) rfl rfl)
 refine XC.exec (rangeFunc_out (e := .normal) rfl hc21 rfl rfl (by intro h; cases h) rfl) rfl ?_
 refine Qh <| Q1 <| Q2 <| Q0 <| U5 rfl rfl rfl (Q7 Gi rfl rfl rfl) <| U7 rfl rfl rfl <| Q3 <| Q1 <| Qz ?_
 have e := U3 h0; subst e
 exact QK (fun _ _ h => h) rfl (Qk rfl .nil) (.cons (.one (.app _ _ _)) .nil)
end Go.Proofs.Ytijcchddnnnmdaa
namespace Go.Proofs.Ytijcchddnnnmdaa
open Go.RowKit Go.Shelf
set_option linter.unusedSimpArgs false
set_option linter.unusedVariables false
theorem en_18 : J2 Try.prog 18 := enters_of Try.func18 (by kernel_rfl) rfl
theorem en_47 : J2 Try.prog 47 := enters_of Try.func47 (by kernel_rfl) rfl
theorem en_61 : J2 Try.prog 61 := enters_of Try.func61 (by kernel_rfl) rfl
theorem en_62 : J2 Try.prog 62 := enters_of Try.func62 (by kernel_rfl) rfl
theorem en_63 : J2 Try.prog 63 := enters_of Try.func63 (by kernel_rfl) rfl
theorem en_64 : J2 Try.prog 64 := enters_of Try.func64 (by kernel_rfl) rfl
theorem en_72 : J2 Try.prog 72 := enters_of Try.func72 (by kernel_rfl) rfl
def Xa (a0 : List UN) (a1 : UN) (s1 : Int) : Option (LO Int (Unit ⊕ Bool)) :=
 cond (decide (s1 < (a0.length : Int)))
   (Option.bind (Jg a0 s1) fun (x3 : UN) =>
 cond (x3 == a1)
   (some (.done (.inr true)))
   (some (.next (J1 (s1 + 1)))))
   (some (.done (.inl ())))
def Wp (a0 : List UN) (a1 : UN) : Option Bool :=
 Option.bind (Qv (Xa a0 a1) QH 0) (Sum.elim (fun (o1 : Unit) => some false) (fun o => some o))
set_option maxRecDepth 100000 in
set_option maxHeartbeats 8000000 in
theorem XA (a0 : List UN) (a1 : UN) (r : Bool) (h0 : Wp a0 a1 = some r) : Fun Try.prog 61 [.one (Ut a0), .one (YZ a1)] (Qy [.one (Uw r)]) := by
 unfold Wp at h0
 refine QS 9 18 Try.func61 rfl en_61 rfl (Ug rfl) (fun S w => ?_)
 simp only [J8]
 refine Q2 <| Q0 <| U7 rfl rfl rfl <| Q3 <| Q1 <| Q2 <| Q2 <| Q0 <| U7 rfl rfl rfl <| Q3 <| Q1 <| Qc ?_
 refine QF 0 (fun (o1 : Unit) => ⟨[], [], [], 0, 18, []⟩) (fun (o1 : Unit) => (some false) = some r) ?_ ?_
 refine Qb h0 (fun o2 hl1 h0 => ?_)
 refine QE (Xa a0 a1) (fun s1 => ⟨[(0, .v (.one (Ut a0))), (1, .v (.one (YZ a1))), (5, .v (.one (Uv s1)))], [], [], 0, 18, []⟩) 0 o2 (Qf (U1 rfl (U1 rfl (U1 rfl U0))) Ul Uh rfl (Nat.zero_le _) rfl rfl rfl UB rfl rfl) hl1 (fun s1 n1 oo1 h1 ho1 => ?_)
 unfold Xa at h1
 refine Q2 <| Q2 <| Q0 <| U6 rfl rfl rfl <| U6 rfl rfl rfl <| U5 rfl rfl rfl (QB (α := UN) QU rfl (.d _)) <| U5 rfl rfl rfl (Q5 rfl rfl rfl) <| Q3 <| Q1 ?_
 refine Qe (b := (decide (s1 < (a0.length : Int)))) rfl (fun c3 => ?_) (fun c3 => ?_)
 replace h1 := Qm c3 h1
 refine Qg <| Q1 <| Q2 <| Qc <| Q2 <| Q0 <| U6 rfl rfl rfl <| U6 rfl rfl rfl ?_
 refine Qb h1 (fun x4 hx4 h1 => ?_)
 refine U5 rfl rfl rfl (Qi (α := UN) QU rfl (.d _) rfl hx4) <| U5 rfl rfl rfl (QI JG rfl rfl) <| U6 rfl rfl rfl <| U5 rfl rfl rfl (RO.eqS rfl rfl) <| Q3 <| Q1 ?_
 refine Qe (b := (x4 == a1)) rfl (fun c5 => ?_) (fun c5 => ?_)
 replace h1 := Qm c5 h1
 refine Q2 <| Q0 <| U7 rfl rfl rfl <| Q3 <| Q1 <| Qz ?_
 have e := U3 h1; subst e
 have e_ : _ = _ := ho1
 subst e_
 try dsimp only [Sum.elim_inl, Sum.elim_inr] at h0
 have e := U3 h0; subst e
 exact QK (fun _ _ h => h) rfl (Qk rfl .nil) (.cons (.one (.d _)) .nil)
 replace h1 := Qn c5 h1
 refine Qg <| Qh <| Q1 <| Q0 <| U6 rfl rfl rfl <| U5 rfl rfl rfl (Q5 rfl rfl rfl) <| U7 rfl rfl rfl <| Q3 ?_
 have e := U3 h1; subst e
 refine QA (J1 (s1 + 1)) (Qf (U1 rfl (U1 rfl (U1 rfl U0))) Ul Uh rfl (Nat.zero_le _) rfl rfl rfl UB rfl rfl) ho1
 replace h1 := Qn c3 h1
 refine QJ <| Qd <| Qd ?_
 have e := U3 h1; subst e
 have e_ : _ = _ := ho1
 subst e_
 exact QD () (Qf U0 Ul Uh rfl (Nat.zero_le _) rfl rfl rfl UB rfl rfl) h0
 intro o1 h0
 refine Qu <| Q1 <| Q2 <| Q0 <| U7 rfl rfl rfl <| Q3 <| Q1 <| Qz ?_
 have e := U3 h0; subst e
 exact QK (fun _ _ h => h) rfl (Qk rfl .nil) (.cons (.one (.d _)) .nil)
def m64_l0 (a0 : List UN) (a1 : UN) (s1 : Int) : Option (LO Int (Unit ⊕ Bool)) :=
 cond (decide (s1 < (a0.length : Int)))
   (Option.bind (Jg a0 s1) fun (x3 : UN) =>
 cond (x3 == a1)
   (some (.done (.inr true)))
   (some (.next (J1 (s1 + 1)))))
   (some (.done (.inl ())))
def WW (a0 : List UN) (a1 : UN) : Option Bool :=
 Option.bind (Qv (m64_l0 a0 a1) QH 0) (Sum.elim (fun (o1 : Unit) => some false) (fun o => some o))
set_option maxRecDepth 100000 in
set_option maxHeartbeats 8000000 in
theorem m64_ok (a0 : List UN) (a1 : UN) (r : Bool) (h0 : WW a0 a1 = some r) : Fun Try.prog 64 [.one (Ut a0), .one (YZ a1)] (Qy [.one (Uw r)]) := by
 unfold WW at h0
 refine QS 9 18 Try.func64 rfl en_64 rfl (Ug rfl) (fun S w => ?_)
 simp only [J8]
 refine Q2 <| Q0 <| U7 rfl rfl rfl <| Q3 <| Q1 <| Q2 <| Q2 <| Q0 <| U7 rfl rfl rfl <| Q3 <| Q1 <| Qc ?_
 refine QF 0 (fun (o1 : Unit) => ⟨[], [], [], 0, 18, []⟩) (fun (o1 : Unit) => (some false) = some r) ?_ ?_
 refine Qb h0 (fun o2 hl1 h0 => ?_)
 refine QE (m64_l0 a0 a1) (fun s1 => ⟨[(0, .v (.one (Ut a0))), (1, .v (.one (YZ a1))), (5, .v (.one (Uv s1)))], [], [], 0, 18, []⟩) 0 o2 (Qf (U1 rfl (U1 rfl (U1 rfl U0))) Ul Uh rfl (Nat.zero_le _) rfl rfl rfl UB rfl rfl) hl1 (fun s1 n1 oo1 h1 ho1 => ?_)
 unfold m64_l0 at h1
 refine Q2 <| Q2 <| Q0 <| U6 rfl rfl rfl <| U6 rfl rfl rfl <| U5 rfl rfl rfl (QB (α := UN) QU rfl (.d _)) <| U5 rfl rfl rfl (Q5 rfl rfl rfl) <| Q3 <| Q1 ?_
 refine Qe (b := (decide (s1 < (a0.length : Int)))) rfl (fun c3 => ?_) (fun c3 => ?_)
 replace h1 := Qm c3 h1
 refine Qg <| Q1 <| Q2 <| Qc <| Q2 <| Q0 <| U6 rfl rfl rfl <| U6 rfl rfl rfl ?_
 refine Qb h1 (fun x4 hx4 h1 => ?_)
 refine U5 rfl rfl rfl (Qi (α := UN) QU rfl (.d _) rfl hx4) <| U5 rfl rfl rfl (QI JG rfl rfl) <| U6 rfl rfl rfl <| U5 rfl rfl rfl (RO.eqS rfl rfl) <| Q3 <| Q1 ?_
 refine Qe (b := (x4 == a1)) rfl (fun c5 => ?_) (fun c5 => ?_)
 replace h1 := Qm c5 h1
 refine Q2 <| Q0 <| U7 rfl rfl rfl <| Q3 <| Q1 <| Qz ?_
 have e := U3 h1; subst e
 have e_ : _ = _ := ho1
 subst e_
 try dsimp only [Sum.elim_inl, Sum.elim_inr] at h0
 have e := U3 h0; subst e
 exact QK (fun _ _ h => h) rfl (Qk rfl .nil) (.cons (.one (.d _)) .nil)
 replace h1 := Qn c5 h1
 refine Qg <| Qh <| Q1 <| Q0 <| U6 rfl rfl rfl <| U5 rfl rfl rfl (Q5 rfl rfl rfl) <| U7 rfl rfl rfl <| Q3 ?_
 have e := U3 h1; subst e
 refine QA (J1 (s1 + 1)) (Qf (U1 rfl (U1 rfl (U1 rfl U0))) Ul Uh rfl (Nat.zero_le _) rfl rfl rfl UB rfl rfl) ho1
 replace h1 := Qn c3 h1
 refine QJ <| Qd <| Qd ?_
 have e := U3 h1; subst e
 have e_ : _ = _ := ho1
 subst e_
 exact QD () (Qf U0 Ul Uh rfl (Nat.zero_le _) rfl rfl rfl UB rfl rfl) h0
 intro o1 h0
 refine Qu <| Q1 <| Q2 <| Q0 <| U7 rfl rfl rfl <| Q3 <| Q1 <| Qz ?_
 have e := U3 h0; subst e
 exact QK (fun _ _ h => h) rfl (Qk rfl .nil) (.cons (.one (.d _)) .nil)
def GD (a0 : Dcl) (s1 : (List UN) × Int) : Option (LO ((List UN) × Int) (((List UN)))) :=
 cond (decide (s1.2 < (a0.ctors.length : Int)))
   (Option.bind (Jg a0.ctors s1.2) fun (x6 : Ctr) =>
 Qt (Nat.ble (s1.1.length + ([x6.name]).length) 1000000000)
 (some (.next ((s1.1 ++ ([x6.name])), (J1 (s1.2 + 1))))))
   (some (.done s1.1))
def GC (a0 : Dcl) (s1 : (List UN) × Int) : Option (LO ((List UN) × Int) (((List UN)))) :=
 cond (decide (s1.2 < (a0.funs.length : Int)))
   (Option.bind (Jg a0.funs s1.2) fun (x14 : Fn) =>
 Qt (Nat.ble (s1.1.length + ([x14.name]).length) 1000000000)
 (some (.next ((s1.1 ++ ([x14.name])), (J1 (s1.2 + 1))))))
   (some (.done s1.1))
def Wi (a0 : Dcl) : Option ((List UN)) :=
 Option.bind (cond (a0.kind == 0)
   (some (a0.kind == 0))
   (cond (a0.kind == 1)
   (some (a0.kind == 1))
   (some (a0.kind == 2)))) (fun (v1 : Bool) => cond v1
   (some ([a0.name]))
   (cond (a0.kind == 3)
   (Option.bind (Qv (GD a0) QH ([a0.name], 0)) (fun (o4 : (List UN)) => Qt (Nat.ble (a0.name.length + ([46, 114, 101, 99] : List UInt8).length) 1000000000)
 (Qt (Nat.ble (o4.length + ([(a0.name ++ ([46, 114, 101, 99] : List UInt8))]).length) 1000000000)
 (some (o4 ++ ([(a0.name ++ ([46, 114, 101, 99] : List UInt8))]))))))
   (cond (a0.kind == 4)
   (Option.bind (Qv (GC a0) QH (([] : List UN), 0)) (fun (o12 : (List UN)) => some o12))
   (some ([] : List UN)))))
set_option maxRecDepth 100000 in
set_option maxHeartbeats 8000000 in
theorem m18_ok (a0 : Dcl) (r : (List UN)) (h0 : Wi a0 = some r) : Fun Try.prog 18 [.agg (Uy a0)] (Qy [.one (Ut r)]) := by
 unfold Wi at h0
 refine QS 9 62 Try.func18 rfl en_18 rfl (Ug rfl) (fun S w => ?_)
 simp only [J8]
 refine Q2 <| Q0 <| Q9 rfl rfl (Ug rfl) (Jc rfl) <| U7 rfl rfl rfl <| Q3 <| Q1 <| Q2 <| Q2 <| Q0 <| U5 rfl rfl rfl (Q4 fo_48_0 rfl) <| U5 rfl rfl rfl (Q7 Yx rfl rfl rfl) <| Q3 <| Q1 <| Qc ?_
 refine Q2 <| Q2 <| Q0 <| U5 rfl rfl rfl (Q5 rfl rfl rfl) <| U7 rfl rfl rfl <| Q3 <| Q1 ?_
 refine Ja (fun (v1 : Bool) => ⟨[(1, .v (.one (.ptr 0 0))), (8, .v (.one (Uv a0.kind))), (9, .v (.one (Uw v1)))], [(0, .cells 48 (Uy a0))], [], 1, 62, []⟩) (fun (v1 : Bool) => (cond v1
     (some ([a0.name]))
     (cond (a0.kind == 3)
     (Option.bind (Qv (GD a0) QH ([a0.name], 0)) (fun (o4 : (List UN)) => Qt (Nat.ble (a0.name.length + ([46, 114, 101, 99] : List UInt8).length) 1000000000)
   (Qt (Nat.ble (o4.length + ([(a0.name ++ ([46, 114, 101, 99] : List UInt8))]).length) 1000000000)
   (some (o4 ++ ([(a0.name ++ ([46, 114, 101, 99] : List UInt8))]))))))
     (cond (a0.kind == 4)
     (Option.bind (Qv (GC a0) QH (([] : List UN), 0)) (fun (o12 : (List UN)) => some o12))
     (some ([] : List UN))))) = some r) ?_ ?_
 refine Qb h0 (fun w1_ h1 h0 => ?_)
 refine Qe (b := (a0.kind == 0)) rfl (fun c2 => ?_) (fun c2 => ?_)
 replace h1 := Qm c2 h1
 refine Qg ?_
 have e := U3 h1; subst e
 exact Qr (a0.kind == 0) (Qf (U1 rfl (U1 rfl (U1 rfl U0))) (Um rfl Ul) Uh rfl (Nat.zero_le _) rfl rfl rfl (UE rfl rfl UB) rfl rfl) h0
 replace h1 := Qn c2 h1
 refine Q2 <| Q0 <| U5 rfl rfl rfl (Q5 rfl rfl rfl) <| U7 rfl rfl rfl <| Q3 <| Q1 ?_
 refine Qe (b := (a0.kind == 1)) rfl (fun c3 => ?_) (fun c3 => ?_)
 replace h1 := Qm c3 h1
 refine Qg ?_
 have e := U3 h1; subst e
 exact Qr (a0.kind == 1) (Qf (U1 rfl (U1 rfl (U1 rfl U0))) (Um rfl Ul) Uh rfl (Nat.zero_le _) rfl rfl rfl (UE rfl rfl UB) rfl rfl) h0
 replace h1 := Qn c3 h1
 refine Q0 <| U5 rfl rfl rfl (Q5 rfl rfl rfl) <| U7 rfl rfl rfl <| Q3 ?_
 have e := U3 h1; subst e
 exact Qr (a0.kind == 2) (Qf (U1 rfl (U1 rfl (U1 rfl U0))) (Um rfl Ul) Uh rfl (Nat.zero_le _) rfl rfl rfl (UE rfl rfl UB) rfl rfl) h0
 intro v1 h0
 refine Q1 ?_
 refine Qe (b := v1) rfl (fun c4 => ?_) (fun c4 => ?_)
 replace h0 := Qm c4 h0
 refine Q2 <| Q0 <| U5 rfl rfl rfl (Q4 Z6 rfl) <| U5 rfl rfl rfl (Q7 JG rfl rfl rfl) <| Q9 rfl rfl (Ug rfl) (QZ (α := UN) (a0.name) QU XO rfl rfl (Ug rfl) (Ug rfl) rfl rfl (.cons (.d _) .nil) rfl) <| U7 rfl rfl rfl <| Q3 <| Q1 <| Qz ?_
 have e := U3 h0; subst e
 exact QK (fun _ _ h => h) rfl (Qk rfl .nil) (.cons (.one (.app _ _ _)) .nil)
 replace h0 := Qn c4 h0
 refine Q2 <| Q0 <| U5 rfl rfl rfl (Q5 rfl rfl rfl) <| U7 rfl rfl rfl <| Q3 <| Q1 ?_
 refine Qe (b := (a0.kind == 3)) rfl (fun c5 => ?_) (fun c5 => ?_)
 replace h0 := Qm c5 h0
 refine Q2 <| Q0 <| U5 rfl rfl rfl (Q4 Z6 rfl) <| U5 rfl rfl rfl (Q7 JG rfl rfl rfl) <| Q9 rfl rfl (Ug rfl) (QZ (α := UN) (a0.name) QU XO rfl rfl (Ug rfl) (Ug rfl) rfl rfl (.cons (.d _) .nil) rfl) <| U7 rfl rfl rfl <| Q3 <| Q1 <| Q2 <| Q2 <| Q0 <| U7 rfl rfl rfl <| Q3 <| Q1 ?_
 refine Qc ?_
 refine QF 1 (fun (o6 : (List UN)) => ⟨[(1, .v (.one (.ptr 0 0))), (3, .v (.one (Ux 1 o6)))], [(0, .cells 48 (Uy a0))], [(1, some ⟨9, 1, (Enc.encL o6).length, []⟩)], 2, 62, []⟩) (fun (o6 : (List UN)) => (Qt (Nat.ble (a0.name.length + ([46, 114, 101, 99] : List UInt8).length) 1000000000)
   (Qt (Nat.ble (o6.length + ([(a0.name ++ ([46, 114, 101, 99] : List UInt8))]).length) 1000000000)
   (some (o6 ++ ([(a0.name ++ ([46, 114, 101, 99] : List UInt8))]))))) = some r) ?_ ?_
 refine Qb h0 (fun o7 hl1 h0 => ?_)
 refine QE (GD a0) (fun s1 => ⟨[(1, .v (.one (.ptr 0 0))), (3, .v (.one (Ux 1 s1.1))), (4, .v (.one (Uv s1.2)))], [(0, .cells 48 (Uy a0))], [(1, some ⟨9, 1, (Enc.encL s1.1).length, []⟩)], 2, 62, []⟩) ([a0.name], 0) o7 (Qf (U1 rfl (U1 rfl (U1 rfl U0))) (Um rfl Ul) (Ui rfl Uh) rfl (Nat.zero_le _) rfl rfl rfl (UE rfl rfl UB) rfl rfl) hl1 (fun s1 n1 oo1 h1 ho1 => ?_)
 unfold GD at h1
 refine Q2 <| Q2 <| Q0 <| U6 rfl rfl rfl <| U5 rfl rfl rfl (Q4 Yf rfl) <| U5 rfl rfl rfl (Q7 Zu rfl rfl rfl) <| U5 rfl rfl rfl (QB (α := Ctr) YU rfl (.d _)) <| U5 rfl rfl rfl (Q5 rfl rfl rfl) <| Q3 <| Q1 ?_
 refine Qe (b := (decide (s1.2 < (a0.ctors.length : Int)))) rfl (fun c8 => ?_) (fun c8 => ?_)
 replace h1 := Qm c8 h1
 refine Qg <| Q1 <| Q2 <| Qc <| Q0 <| U6 rfl rfl rfl <| U5 rfl rfl rfl (Q4 Yf rfl) <| U5 rfl rfl rfl (Q7 Zu rfl rfl rfl) <| U6 rfl rfl rfl ?_
 refine Qb h1 (fun x9 hx9 h1 => ?_)
 refine U5 rfl rfl rfl (Qi (α := Ctr) YU rfl (.d _) rfl hx9) <| U5 rfl rfl rfl (Jj GX rfl) <| U5 rfl rfl rfl (QI JG rfl rfl) <| Q9 rfl rfl (Ug rfl) (QZ (α := UN) (x9.name) QU XO rfl rfl (Ug rfl) (Ug rfl) rfl rfl (.cons (.d _) .nil) rfl) ?_
 refine QQ h1 (fun g10 h1 => ?_)
 refine Q9 rfl rfl (Ug rfl) (QO (α := UN) QU ZF rfl rfl rfl rfl rfl (.app _ _) g10) <| U7 rfl rfl rfl <| Q3 <| Qh <| Q1 <| Q0 <| U6 rfl rfl rfl <| U5 rfl rfl rfl (Q5 rfl rfl rfl) <| U7 rfl rfl rfl <| Q3 ?_
 have e := U3 h1; subst e
 refine QA ((s1.1 ++ ([x9.name])), (J1 (s1.2 + 1))) (Qf (U1 rfl (U1 rfl (U1 rfl U0))) (Um rfl Ul) (Ui rfl Uh) rfl (Nat.zero_le _) rfl rfl rfl (UE rfl rfl UB) rfl rfl) ho1
 replace h1 := Qn c8 h1
 refine QJ <| Qd <| Qd ?_
 have e := U3 h1; subst e
 have e_ : _ = _ := ho1
 subst e_
 exact QD s1.1 (Qf (U1 rfl (U1 rfl U0)) (Um rfl Ul) (Ui rfl Uh) rfl (Nat.zero_le _) rfl rfl rfl (UE rfl rfl UB) rfl rfl) h0
 intro o6 h0
 refine Qu <| Q1 <| Q2 <| Q0 <| U6 rfl rfl rfl <| U5 rfl rfl rfl (Q4 Z6 rfl) <| U5 rfl rfl rfl (Q7 JG rfl rfl rfl) ?_
 refine QQ h0 (fun g11 h0 => ?_)
 refine U5 rfl rfl rfl (RO.addS rfl rfl g11) <| Q9 rfl rfl (Ug rfl) (QZ (α := UN) ((a0.name ++ ([46, 114, 101, 99] : List UInt8))) QU XO rfl rfl (Ug rfl) (Ug rfl) rfl rfl (.cons (.d _) .nil) rfl) ?_
 refine QQ h0 (fun g12 h0 => ?_)
 refine Q9 rfl rfl (Ug rfl) (QO (α := UN) QU ZF rfl rfl rfl rfl rfl (.app _ _) g12) <| U7 rfl rfl rfl <| Q3 <| Q1 <| Qz ?_
 have e := U3 h0; subst e
 exact QK (fun _ _ h => h) rfl (Qk rfl .nil) (.cons (.one (.app _ _ _)) .nil)
 replace h0 := Qn c5 h0
 refine Q2 <| Q0 <| U5 rfl rfl rfl (Q5 rfl rfl rfl) <| U7 rfl rfl rfl <| Q3 <| Q1 ?_
 refine Qe (b := (a0.kind == 4)) rfl (fun c13 => ?_) (fun c13 => ?_)
 replace h0 := Qm c13 h0
 refine Q2 <| Q0 <| U7 rfl rfl rfl <| Q3 <| Q1 <| Q2 <| Q2 <| Q0 <| U7 rfl rfl rfl <| Q3 <| Q1 <| Qc ?_
 refine QF 3 (fun (o14 : (List UN)) => ⟨[(5, .v (.one (Ux 1 o14)))], [(0, .cells 48 (Uy a0))], [(1, some ⟨9, 1, (Enc.encL o14).length, []⟩)], 2, 62, []⟩) (fun (o14 : (List UN)) => (some o14) = some r) ?_ ?_
 refine JD (t := 5) 9 1 rfl ?_
 refine Qb h0 (fun o15 hl1 h0 => ?_)
 refine QE (GC a0) (fun s1 => ⟨[(1, .v (.one (.ptr 0 0))), (5, .v (.one (Ux 1 s1.1))), (6, .v (.one (Uv s1.2)))], [(0, .cells 48 (Uy a0))], [(1, some ⟨9, 1, (Enc.encL s1.1).length, []⟩)], 2, 62, []⟩) (([] : List UN), 0) o15 (Qf (U1 rfl (U1 rfl (U1 rfl U0))) (Um rfl Ul) (Ui rfl Uh) rfl (Nat.zero_le _) rfl rfl rfl (UE rfl rfl UB) rfl rfl) hl1 (fun s1 n1 oo1 h1 ho1 => ?_)
 unfold GC at h1
 refine Q2 <| Q2 <| Q0 <| U6 rfl rfl rfl <| U5 rfl rfl rfl (Q4 JB rfl) <| U5 rfl rfl rfl (Q7 Yu rfl rfl rfl) <| U5 rfl rfl rfl (QB (α := Fn) Yd rfl (.d _)) <| U5 rfl rfl rfl (Q5 rfl rfl rfl) <| Q3 <| Q1 ?_
 refine Qe (b := (decide (s1.2 < (a0.funs.length : Int)))) rfl (fun c16 => ?_) (fun c16 => ?_)
 replace h1 := Qm c16 h1
 refine Qg <| Q1 <| Q2 <| Qc <| Q0 <| U6 rfl rfl rfl <| U5 rfl rfl rfl (Q4 JB rfl) <| U5 rfl rfl rfl (Q7 Yu rfl rfl rfl) <| U6 rfl rfl rfl ?_
 refine Qb h1 (fun x17 hx17 h1 => ?_)
 refine U5 rfl rfl rfl (Qi (α := Fn) Yd rfl (.d _) rfl hx17) <| U5 rfl rfl rfl (Jj GU rfl) <| U5 rfl rfl rfl (QI JG rfl rfl) <| Q9 rfl rfl (Ug rfl) (QZ (α := UN) (x17.name) QU XO rfl rfl (Ug rfl) (Ug rfl) rfl rfl (.cons (.d _) .nil) rfl) ?_
 refine QQ h1 (fun g18 h1 => ?_)
 refine Q9 rfl rfl (Ug rfl) (QO (α := UN) QU ZF rfl rfl rfl rfl rfl (.app _ _) g18) <| U7 rfl rfl rfl <| Q3 <| Qh <| Q1 <| Q0 <| U6 rfl rfl rfl <| U5 rfl rfl rfl (Q5 rfl rfl rfl) <| U7 rfl rfl rfl <| Q3 ?_
 have e := U3 h1; subst e
 refine QA ((s1.1 ++ ([x17.name])), (J1 (s1.2 + 1))) (Qf (U1 rfl (U1 rfl (U1 rfl U0))) (Um rfl Ul) (Ui rfl Uh) rfl (Nat.zero_le _) rfl rfl rfl (UE rfl rfl UB) rfl rfl) ho1
 replace h1 := Qn c16 h1
 refine QJ <| Qd <| Qd ?_
 have e := U3 h1; subst e
 have e_ : _ = _ := ho1
 subst e_
 exact QD s1.1 (Qf (U1 rfl U0) (Um rfl Ul) (Ui rfl Uh) rfl (Nat.zero_le _) rfl rfl rfl (UE rfl rfl UB) rfl rfl) h0
 intro o14 h0
 refine Qu <| Q1 <| Q2 <| Q0 <| U6 rfl rfl rfl <| U7 rfl rfl rfl <| Q3 <| Q1 <| Qz ?_
 have e := U3 h0; subst e
 exact QK (fun _ _ h => h) rfl (Qk rfl .nil) (.cons (.one (.app _ _ _)) .nil)
 replace h0 := Qn c13 h0
 refine Qg <| Qh <| Q1 <| Q2 <| Q0 <| U7 rfl rfl rfl <| Q3 <| Q1 <| Qz ?_
 have e := U3 h0; subst e
 exact QK (fun _ _ h => h) rfl (Qk rfl .nil) (.cons (.one (.nil _)) .nil)
def Zo (a1 : Tm) (rc : (List UN) × Tm → Option ((List UN))) (s1 : (List UN) × Int) : Option (LO ((List UN) × Int) (((List UN)))) :=
 cond (decide (s1.2 < (a1.kids.length : Int)))
   (Option.bind (Jg a1.kids s1.2) fun (x5 : Tm) =>
 Option.bind (rc (s1.1, x5)) fun (x6 : (List UN)) =>
 some (.next (x6, (J1 (s1.2 + 1)))))
   (some (.done s1.1))
def Xw (rc : (List UN) × Tm → Option ((List UN))) (a0 : List UN) (a1 : Tm) : Option ((List UN)) :=
 Option.bind (cond (a1.kind == 3)
   (Option.bind (Wp a0 a1.name) fun (x3 : Bool) =>
 some (!x3))
   (some false)) (fun (v1 : Bool) => Option.bind (cond v1
   (Qt (Nat.ble (a0.length + ([a1.name]).length) 1000000000)
 (some (a0 ++ ([a1.name]))))
   (some a0)) (fun (v2 : (List UN)) => Option.bind (Qv (Zo a1 rc) QH (v2, 0)) (fun (o3 : (List UN)) => some o3)))
def Xx (rc : (List UN) × Tm → Option ((List UN))) (u : (List UN) × Tm) : Option ((List UN)) := Xw rc u.1 u.2
def m72f9 (a0 : List UN) (a1 : Tm) : Option ((List UN)) := JY Xx QH (a0, a1)
set_option maxRecDepth 100000 in
set_option maxHeartbeats 8000000 in
theorem m72f9s_ok (rc : (List UN) × Tm → Option ((List UN))) (H : ∀ (a0 : List UN) (a1 : Tm) (r : (List UN)), rc (a0, a1) = some r → CallM Try.prog 72 [.one (Ux 0 a0), .agg (Uy a1)] ⟨[], [(0, some ⟨9, 1, (Enc.encL a0).length, []⟩)], 1⟩ (Qy [.one (Ux 0 r)]) ⟨[], [(0, some ⟨9, 1, (Enc.encL r).length, []⟩)], 2⟩) (a0 : List UN) (a1 : Tm) (r : (List UN)) (h0 : Xw rc a0 a1 = some r) : CallM Try.prog 72 [.one (Ux 0 a0), .agg (Uy a1)] ⟨[], [(0, some ⟨9, 1, (Enc.encL a0).length, []⟩)], 1⟩ (Qy [.one (Ux 0 r)]) ⟨[], [(0, some ⟨9, 1, (Enc.encL r).length, []⟩)], 2⟩ := by
 unfold Xw at h0
 refine QP ⟨[(4, .v (.one (Ux 0 r)))], [], [(0, some ⟨9, 1, (Enc.encL r).length, []⟩)], 2, 36, []⟩ rfl rfl en_72 (Ug rfl) rfl (Qk rfl .nil) (fun w0 M V0 Q hv0 hQ0 => ?_)
 simp only [J8]
 refine Q2 <| Q0 <| Q9 rfl rfl (Ug rfl) (Jc rfl) <| U7 rfl rfl rfl <| Q3 <| Q1 <| Q2 <| Q2 ?_
 refine Ja (fun (v1 : Bool) => ⟨[(0, .v (.one (Ux 0 a0))), (3, .v (.one (.ptr 1 0))), (15, .v (.one (Uw v1)))], [(1, .cells 42 (Uy a1))], [(0, some ⟨9, 1, (Enc.encL a0).length, []⟩)], 2, 36, []⟩) (fun (v1 : Bool) => (Option.bind (cond v1
     (Qt (Nat.ble (a0.length + ([a1.name]).length) 1000000000)
   (some (a0 ++ ([a1.name]))))
     (some a0)) (fun (v2 : (List UN)) => Option.bind (Qv (Zo a1 rc) QH (v2, 0)) (fun (o3 : (List UN)) => some o3))) = some r) ?_ ?_
 refine Qb h0 (fun w1_ h1 h0 => ?_)
 refine Q0 <| U5 rfl rfl rfl (Q4 Ka rfl) <| U5 rfl rfl rfl (Q7 Yx rfl rfl rfl) <| U5 rfl rfl rfl (Q5 rfl rfl rfl) <| U6 rfl rfl rfl ?_
 refine QV (d := 9) (c := (a1.kind == 3)) rfl (fun c2 => ?_) (fun c2 => ?_)
 replace h1 := Qm c2 h1
 refine U6 rfl rfl rfl <| U5 rfl rfl rfl (Q4 ZE rfl) <| U5 rfl rfl rfl (Q7 JG rfl rfl rfl) ?_
 refine Qb h1 (fun x3 hx3 h1 => ?_)
 refine Q9 rfl rfl (Ug rfl) (Ql (XA a0 a1.name x3 hx3) rfl (.cons (.one (.app _ _ _)) (.cons (.one (.d _)) .nil))) <| U5 rfl rfl rfl (J9 rfl) <| U5 rfl rfl rfl (Qo rfl rfl) <| Q3 ?_
 have e := U3 h1; subst e
 exact Qr (!x3) (Qf (U1 rfl (U1 rfl (U1 rfl U0))) (Um rfl Ul) (Ui rfl Uh) rfl (Nat.le_trans hv0 (Ug rfl)) rfl rfl rfl (UE rfl rfl UB) rfl rfl) h0
 replace h1 := Qn c2 h1
 refine Q8 rfl rfl <| Q8 rfl rfl <| Q8 rfl rfl <| Q8 rfl rfl <| Q8 rfl rfl <| U5 rfl rfl rfl (QG rfl rfl) <| Q3 ?_
 have e := U3 h1; subst e
 exact Qr false (Qf (U1 rfl (U1 rfl (U1 rfl U0))) (Um rfl Ul) (Ui rfl Uh) rfl (Nat.le_trans hv0 (Ug rfl)) rfl rfl rfl (UE rfl rfl UB) rfl rfl) h0
 intro v1 h0
 refine Q1 ?_
 refine Ja (fun (v4 : (List UN)) => ⟨[(0, .v (.one (Ux 0 v4))), (3, .v (.one (.ptr 1 0)))], [(1, .cells 42 (Uy a1))], [(0, some ⟨9, 1, (Enc.encL v4).length, []⟩)], 2, 36, []⟩) (fun (v4 : (List UN)) => (Option.bind (Qv (Zo a1 rc) QH (v4, 0)) (fun (o5 : (List UN)) => some o5)) = some r) ?_ ?_
 refine Qb h0 (fun w1_ h1 h0 => ?_)
 refine Qe (b := v1) rfl (fun c5 => ?_) (fun c5 => ?_)
 replace h1 := Qm c5 h1
 refine Q0 <| U6 rfl rfl rfl <| U5 rfl rfl rfl (Q4 ZE rfl) <| U5 rfl rfl rfl (Q7 JG rfl rfl rfl) <| Q9 rfl rfl (Ug rfl) (QZ (α := UN) (a1.name) QU XO rfl rfl (Ug rfl) (Ug rfl) rfl rfl (.cons (.d _) .nil) rfl) ?_
 refine QQ h1 (fun g6 h1 => ?_)
 refine Q9 rfl rfl (Ug rfl) (QO (α := UN) QU ZF rfl rfl rfl rfl rfl (.app _ _) g6) <| U7 rfl rfl rfl <| Q3 ?_
 have e := U3 h1; subst e
 exact Qr (a0 ++ ([a1.name])) (Qf (U1 rfl (U1 rfl U0)) (Um rfl Ul) (Ui rfl Uh) rfl (Nat.le_trans hv0 (Ug rfl)) rfl rfl rfl (UE rfl rfl UB) rfl rfl) h0
 replace h1 := Qn c5 h1
 refine Qg ?_
 have e := U3 h1; subst e
 exact Qr a0 (Qf (U1 rfl (U1 rfl U0)) (Um rfl Ul) (Ui rfl Uh) rfl (Nat.le_trans hv0 (Ug rfl)) rfl rfl rfl (UE rfl rfl UB) rfl rfl) h0
 intro v4 h0
 refine Q1 <| Q2 <| Q2 <| Q0 <| U7 rfl rfl rfl <| Q3 <| Q1 <| Qc ?_
 refine QF 0 (fun (o7 : (List UN)) => ⟨[(0, .v (.one (Ux 0 o7)))], [(1, .cells 42 (Uy a1))], [(0, some ⟨9, 1, (Enc.encL o7).length, []⟩)], 2, 36, []⟩) (fun (o7 : (List UN)) => (some o7) = some r) ?_ ?_
 refine Qb h0 (fun o8 hl1 h0 => ?_)
 refine QE (Zo a1 rc) (fun s1 => ⟨[(0, .v (.one (Ux 0 s1.1))), (3, .v (.one (.ptr 1 0))), (5, .v (.one (Uv s1.2)))], [(1, .cells 42 (Uy a1))], [(0, some ⟨9, 1, (Enc.encL s1.1).length, []⟩)], 2, 36, []⟩) (v4, 0) o8 (Qf (U1 rfl (U1 rfl (U1 rfl U0))) (Um rfl Ul) (Ui rfl Uh) rfl (Nat.le_trans hv0 (Ug rfl)) rfl rfl rfl (UE rfl rfl UB) rfl rfl) hl1 (fun s1 n1 oo1 h1 ho1 => ?_)
 unfold Zo at h1
 refine Q2 <| Q2 <| Q0 <| U6 rfl rfl rfl <| U5 rfl rfl rfl (Q4 YE rfl) <| U5 rfl rfl rfl (Q7 Y3 rfl rfl rfl) <| U5 rfl rfl rfl (QB (α := Tm) JH rfl (.d _)) <| U5 rfl rfl rfl (Q5 rfl rfl rfl) <| Q3 <| Q1 ?_
 refine Qe (b := (decide (s1.2 < (a1.kids.length : Int)))) rfl (fun c9 => ?_) (fun c9 => ?_)
 replace h1 := Qm c9 h1
 refine Qg <| Q1 <| Q2 <| Qc <| Q0 <| U6 rfl rfl rfl <| U5 rfl rfl rfl (Q4 YE rfl) <| U5 rfl rfl rfl (Q7 Y3 rfl rfl rfl) <| U6 rfl rfl rfl ?_
 refine Qb h1 (fun x10 hx10 h1 => ?_)
 refine U5 rfl rfl rfl (Qi (α := Tm) JH rfl (.d _) rfl hx10) <| U5 rfl rfl rfl (QY Jh rfl rfl rfl) ?_
 refine Qb h1 (fun x11 hx11 h1 => ?_)
 refine Q9 rfl rfl (Ug rfl) (QW (hp1' := []) (tk1' := [(0, some ⟨9, 1, (Enc.encL x11).length, []⟩)]) (hpF := [(1, .cells 42 (Uy a1))]) (tkF := []) (res2 := Qy [.one (Ux 0 x11)]) (nx2 := 3) [0] rfl rfl (H s1.1 x10 x11 hx11) rfl rfl U8 rfl rfl Uo (Uk rfl Uj) (Um rfl Ul) Uh rfl rfl rfl rfl rfl UB rfl rfl rfl rfl) <| U7 rfl rfl rfl <| Q3 <| Qh <| Q1 <| Q0 <| U6 rfl rfl rfl <| U5 rfl rfl rfl (Q5 rfl rfl rfl) <| U7 rfl rfl rfl <| Q3 ?_
 have e := U3 h1; subst e
 refine QA (x11, (J1 (s1.2 + 1))) (Qf (U1 rfl (U1 rfl (U1 rfl U0))) (Um rfl Ul) (Ui rfl Uh) rfl (Nat.le_trans hv0 (Ug rfl)) rfl rfl rfl (UE rfl rfl UB) rfl rfl) ho1
 replace h1 := Qn c9 h1
 refine QJ <| Qd <| Qd ?_
 have e := U3 h1; subst e
 have e_ : _ = _ := ho1
 subst e_
 exact QD s1.1 (Qf (U1 rfl U0) (Um rfl Ul) (Ui rfl Uh) rfl (Nat.le_trans hv0 (Ug rfl)) rfl rfl rfl (UE rfl rfl UB) rfl rfl) h0
 intro o7 h0
 refine Qu <| Q1 <| Q2 <| Q0 <| U6 rfl rfl rfl <| U7 rfl rfl rfl <| Q3 <| Q1 <| Qz ?_
 have e := U3 h0; subst e
 exact hQ0 _ _ _ (.inr rfl) rfl (Qf (U1 rfl U0) Ul (Ui rfl Uh) rfl (Nat.le_trans hv0 (Ug rfl)) rfl rfl rfl UB rfl rfl)
theorem m72f9_all (n : Nat) (u : (List UN) × Tm) (r : (List UN)) (h0 : JY Xx n u = some r) : CallM Try.prog 72 [.one (Ux 0 u.1), .agg (Uy u.2)] ⟨[], [(0, some ⟨9, 1, (Enc.encL u.1).length, []⟩)], 1⟩ (Qy [.one (Ux 0 r)]) ⟨[], [(0, some ⟨9, 1, (Enc.encL r).length, []⟩)], 2⟩ :=
 Yy (C := fun u r => CallM Try.prog 72 [.one (Ux 0 u.1), .agg (Uy u.2)] ⟨[], [(0, some ⟨9, 1, (Enc.encL u.1).length, []⟩)], 1⟩ (Qy [.one (Ux 0 r)]) ⟨[], [(0, some ⟨9, 1, (Enc.encL r).length, []⟩)], 2⟩) (fun rc H u r h => m72f9s_ok rc (fun a0 a1 r h => H (a0, a1) r h) u.1 u.2 r h) n u r h0
theorem m72f9_ok (a0 : List UN) (a1 : Tm) (r : (List UN)) (h0 : m72f9 a0 a1 = some r) : CallM Try.prog 72 [.one (Ux 0 a0), .agg (Uy a1)] ⟨[], [(0, some ⟨9, 1, (Enc.encL a0).length, []⟩)], 1⟩ (Qy [.one (Ux 0 r)]) ⟨[], [(0, some ⟨9, 1, (Enc.encL r).length, []⟩)], 2⟩ := m72f9_all QH (a0, a1) r h0
def Zp (a0 : Tm) (s2 : (List UN) × Int) : Option (LO ((List UN) × Int) (((List UN)))) :=
 cond (decide (s2.2 < (a0.kids.length : Int)))
   (Option.bind (Jg a0.kids s2.2) fun (x7 : Tm) =>
 Option.bind (m72f9 s2.1 x7) fun (x8 : (List UN)) =>
 some (.next (x8, (J1 (s2.2 + 1)))))
   (some (.done s2.1))
def KF (a0 : Tm) : Option ((List UN)) :=
 Option.bind (Option.bind (cond (a0.kind == 3)
   (Option.bind (Wp ([] : List UN) a0.name) fun (x5 : Bool) =>
 some (!x5))
   (some false)) (fun (v3 : Bool) => Option.bind (cond v3
   (Qt (Nat.ble ([a0.name]).length 1000000000)
 (some ([a0.name])))
   (some ([] : List UN))) (fun (v4 : (List UN)) => Option.bind (Qv (Zp a0) QH (v4, 0)) (fun (o5 : (List UN)) => some o5)))) (fun (y1 : (List UN)) => some y1)
set_option maxRecDepth 100000 in
set_option maxHeartbeats 8000000 in
theorem ZW (a0 : Tm) (r : (List UN)) (h0 : KF a0 = some r) : CallM Try.prog 62 [.agg (Uy a0)] ⟨[], [], 0⟩ (Qy [.one (Ux 3 r)]) ⟨[], [(3, some ⟨9, 1, (Enc.encL r).length, []⟩)], 4⟩ := by
 unfold KF at h0
 refine QP ⟨[(2, .v (.one (Ux 3 r)))], [], [(3, some ⟨9, 1, (Enc.encL r).length, []⟩)], 4, 5, []⟩ rfl rfl en_62 (Ug rfl) rfl (Qk rfl .nil) (fun w0 M V0 Q hv0 hQ0 => ?_)
 simp only [J8]
 refine Q2 <| Q0 <| Q9 rfl rfl (Ug rfl) (Jc rfl) <| U7 rfl rfl rfl <| Q3 <| Q1 <| Q2 <| Q0 <| U5 rfl rfl rfl (Qq Jh rfl rfl rfl rfl) ?_
 refine Qb h0 (fun y1 h1 h0 => ?_)
 have hc2 : CallM Try.prog 72 [.one (Uu), .agg (Uy a0)] ⟨[(0, .cells 42 (Uy a0))], [], 1⟩ (Qy [.one (Ux 3 y1)]) ⟨[(0, .cells 42 (Uy a0))], [(3, some ⟨9, 1, (Enc.encL y1).length, []⟩)], 4⟩ := by
  refine QP ⟨[(4, .v (.one (Ux 3 y1)))], [(0, .cells 42 (Uy a0))], [(3, some ⟨9, 1, (Enc.encL y1).length, []⟩)], 4, 36, []⟩ rfl rfl en_72 (Ug rfl) rfl (Qk rfl .nil) (fun w0 M V0 Q hv1 hQ1 => ?_)
  simp only [J8]
  refine Q2 <| Q0 <| Q9 rfl rfl (Ug rfl) (Jc rfl) <| U7 rfl rfl rfl <| Q3 <| Q1 <| Q2 <| Q2 ?_
  refine Ja (fun (v3 : Bool) => ⟨[(0, .v (.one (Uu))), (3, .v (.one (.ptr 1 0))), (15, .v (.one (Uw v3)))], [(0, .cells 42 (Uy a0)), (1, .cells 42 (Uy a0))], [], 2, 36, []⟩) (fun (v3 : Bool) => (Option.bind (cond v3
      (Qt (Nat.ble ([a0.name]).length 1000000000)
    (some ([a0.name])))
      (some ([] : List UN))) (fun (v4 : (List UN)) => Option.bind (Qv (Zp a0) QH (v4, 0)) (fun (o5 : (List UN)) => some o5))) = some y1) ?_ ?_
  refine Qb h1 (fun w2_ h2 h1 => ?_)
  refine Q0 <| U5 rfl rfl rfl (Q4 Ka rfl) <| U5 rfl rfl rfl (Q7 Yx rfl rfl rfl) <| U5 rfl rfl rfl (Q5 rfl rfl rfl) <| U6 rfl rfl rfl ?_
  refine QV (d := 9) (c := (a0.kind == 3)) rfl (fun c4 => ?_) (fun c4 => ?_)
  replace h2 := Qm c4 h2
  refine U6 rfl rfl rfl <| U5 rfl rfl rfl (Q4 ZE rfl) <| U5 rfl rfl rfl (Q7 JG rfl rfl rfl) ?_
  refine Qb h2 (fun x5 hx5 h2 => ?_)
  refine Q9 rfl rfl (Ug rfl) (Ql (XA ([] : List UN) a0.name x5 hx5) rfl (.cons (.one (.nil _)) (.cons (.one (.d _)) .nil))) <| U5 rfl rfl rfl (J9 rfl) <| U5 rfl rfl rfl (Qo rfl rfl) <| Q3 ?_
  have e := U3 h2; subst e
  exact Qr (!x5) (Qf (U1 rfl (U1 rfl (U1 rfl U0))) (Um rfl (Um rfl Ul)) Uh rfl (Nat.le_trans hv1 (Ug rfl)) rfl rfl rfl (UE rfl rfl (UE rfl rfl UB)) rfl rfl) h1
  replace h2 := Qn c4 h2
  refine Q8 rfl rfl <| Q8 rfl rfl <| Q8 rfl rfl <| Q8 rfl rfl <| Q8 rfl rfl <| U5 rfl rfl rfl (QG rfl rfl) <| Q3 ?_
  have e := U3 h2; subst e
  exact Qr false (Qf (U1 rfl (U1 rfl (U1 rfl U0))) (Um rfl (Um rfl Ul)) Uh rfl (Nat.le_trans hv1 (Ug rfl)) rfl rfl rfl (UE rfl rfl (UE rfl rfl UB)) rfl rfl) h1
  intro v3 h1
  refine Q1 ?_
  refine Ja (fun (v6 : (List UN)) => ⟨[(0, .v (.one (Ux 3 v6))), (3, .v (.one (.ptr 1 0)))], [(0, .cells 42 (Uy a0)), (1, .cells 42 (Uy a0))], [(3, some ⟨9, 1, (Enc.encL v6).length, []⟩)], 4, 36, []⟩) (fun (v6 : (List UN)) => (Option.bind (Qv (Zp a0) QH (v6, 0)) (fun (o7 : (List UN)) => some o7)) = some y1) ?_ ?_
  refine Qb h1 (fun w2_ h2 h1 => ?_)
  refine Qe (b := v3) rfl (fun c7 => ?_) (fun c7 => ?_)
  replace h2 := Qm c7 h2
  refine Q0 <| U6 rfl rfl rfl <| U5 rfl rfl rfl (Q4 ZE rfl) <| U5 rfl rfl rfl (Q7 JG rfl rfl rfl) <| Q9 rfl rfl (Ug rfl) (QZ (α := UN) (a0.name) QU XO rfl rfl (Ug rfl) (Ug rfl) rfl rfl (.cons (.d _) .nil) rfl) ?_
  refine QQ h2 (fun g8 h2 => ?_)
  refine Q9 rfl rfl (Ug rfl) (OpOK.appendNilE (α := UN) QU ZF rfl rfl rfl (.app _ _) g8) <| U7 rfl rfl rfl <| Q3 ?_
  have e := U3 h2; subst e
  exact Qr ([a0.name]) (Qf (U1 rfl (U1 rfl U0)) (Um rfl (Um rfl Ul)) (Ui rfl Uh) rfl (Nat.le_trans hv1 (Ug rfl)) rfl rfl rfl (UE rfl rfl (UE rfl rfl UB)) rfl rfl) h1
  replace h2 := Qn c7 h2
  refine Qg ?_
  have e := U3 h2; subst e
  refine XQ.skipTo 3 (Ug rfl) <| XQ.adoptT (t := 0) 9 1 rfl ?_
  exact Qr ([] : List UN) (Qf (U1 rfl (U1 rfl U0)) (Um rfl (Um rfl Ul)) (Ui rfl Uh) rfl (Nat.le_trans hv1 (Ug rfl)) rfl rfl rfl (UE rfl rfl (UE rfl rfl UB)) rfl rfl) h1
  intro v6 h1
  refine Q1 <| Q2 <| Q2 <| Q0 <| U7 rfl rfl rfl <| Q3 <| Q1 <| Qc ?_
  refine QF 0 (fun (o9 : (List UN)) => ⟨[(0, .v (.one (Ux 3 o9)))], [(0, .cells 42 (Uy a0)), (1, .cells 42 (Uy a0))], [(3, some ⟨9, 1, (Enc.encL o9).length, []⟩)], 4, 36, []⟩) (fun (o9 : (List UN)) => (some o9) = some y1) ?_ ?_
  refine Qb h1 (fun o10 hl2 h1 => ?_)
  refine QE (Zp a0) (fun s2 => ⟨[(0, .v (.one (Ux 3 s2.1))), (3, .v (.one (.ptr 1 0))), (5, .v (.one (Uv s2.2)))], [(0, .cells 42 (Uy a0)), (1, .cells 42 (Uy a0))], [(3, some ⟨9, 1, (Enc.encL s2.1).length, []⟩)], 4, 36, []⟩) (v6, 0) o10 (Qf (U1 rfl (U1 rfl (U1 rfl U0))) (Um rfl (Um rfl Ul)) (Ui rfl Uh) rfl (Nat.le_trans hv1 (Ug rfl)) rfl rfl rfl (UE rfl rfl (UE rfl rfl UB)) rfl rfl) hl2 (fun s2 n2 oo2 h2 ho2 => ?_)
  unfold Zp at h2
  refine Q2 <| Q2 <| Q0 <| U6 rfl rfl rfl <| U5 rfl rfl rfl (Q4 YE rfl) <| U5 rfl rfl rfl (Q7 Y3 rfl rfl rfl) <| U5 rfl rfl rfl (QB (α := Tm) JH rfl (.d _)) <| U5 rfl rfl rfl (Q5 rfl rfl rfl) <| Q3 <| Q1 ?_
  refine Qe (b := (decide (s2.2 < (a0.kids.length : Int)))) rfl (fun c11 => ?_) (fun c11 => ?_)
  replace h2 := Qm c11 h2
  refine Qg <| Q1 <| Q2 <| Qc <| Q0 <| U6 rfl rfl rfl <| U5 rfl rfl rfl (Q4 YE rfl) <| U5 rfl rfl rfl (Q7 Y3 rfl rfl rfl) <| U6 rfl rfl rfl ?_
  refine Qb h2 (fun x12 hx12 h2 => ?_)
  refine U5 rfl rfl rfl (Qi (α := Tm) JH rfl (.d _) rfl hx12) <| U5 rfl rfl rfl (QY Jh rfl rfl rfl) ?_
  refine Qb h2 (fun x13 hx13 h2 => ?_)
  refine Q9 rfl rfl (Ug rfl) (QW (hp1' := []) (tk1' := [(3, some ⟨9, 1, (Enc.encL x13).length, []⟩)]) (hpF := [(0, .cells 42 (Uy a0)), (1, .cells 42 (Uy a0))]) (tkF := []) (res2 := Qy [.one (Ux 3 x13)]) (nx2 := 5) [3] rfl rfl (m72f9_ok s2.1 x12 x13 hx13) rfl rfl U8 rfl rfl Uo (Uk rfl Uj) (Um rfl (Um rfl Ul)) Uh rfl rfl rfl rfl rfl UB rfl rfl rfl rfl) <| U7 rfl rfl rfl <| Q3 <| Qh <| Q1 <| Q0 <| U6 rfl rfl rfl <| U5 rfl rfl rfl (Q5 rfl rfl rfl) <| U7 rfl rfl rfl <| Q3 ?_
  have e := U3 h2; subst e
  refine QA (x13, (J1 (s2.2 + 1))) (Qf (U1 rfl (U1 rfl (U1 rfl U0))) (Um rfl (Um rfl Ul)) (Ui rfl Uh) rfl (Nat.le_trans hv1 (Ug rfl)) rfl rfl rfl (UE rfl rfl (UE rfl rfl UB)) rfl rfl) ho2
  replace h2 := Qn c11 h2
  refine QJ <| Qd <| Qd ?_
  have e := U3 h2; subst e
  have e_ : _ = _ := ho2
  subst e_
  exact QD s2.1 (Qf (U1 rfl U0) (Um rfl (Um rfl Ul)) (Ui rfl Uh) rfl (Nat.le_trans hv1 (Ug rfl)) rfl rfl rfl (UE rfl rfl (UE rfl rfl UB)) rfl rfl) h1
  intro o9 h1
  refine Qu <| Q1 <| Q2 <| Q0 <| U6 rfl rfl rfl <| U7 rfl rfl rfl <| Q3 <| Q1 <| Qz ?_
  have e := U3 h1; subst e
  exact hQ1 _ _ _ (.inr rfl) rfl (Qf (U1 rfl U0) (Um rfl Ul) (Ui rfl Uh) rfl (Nat.le_trans hv1 (Ug rfl)) rfl rfl rfl (UE rfl rfl UB) rfl rfl)
 refine Q9 rfl rfl (Ug rfl) (J4 rfl rfl rfl hc2 rfl (Um rfl Ul) Uh) <| U7 rfl rfl rfl <| Q3 <| Q1 <| Qz ?_
 have e := U3 h0; subst e
 exact hQ0 _ _ _ (.inr rfl) rfl (Qf (U1 rfl U0) Ul (Ui rfl Uh) rfl (Nat.le_trans hv0 (Ug rfl)) rfl rfl rfl UB rfl rfl)
def ZM (a0 : Tr) (rc : Tr × (List UN) → Option ((List UN))) (s1 : (List UN) × Int) : Option (LO ((List UN) × Int) (((List UN)))) :=
 cond (decide (s1.2 < (a0.branches.length : Int)))
   (Option.bind (Jg a0.branches s1.2) fun (x6 : UO) =>
 Qt (Nat.ble (s1.1.length + ([x6.ctor]).length) 1000000000)
 (Option.bind (Jg a0.branches s1.2) fun (x8 : UO) =>
 cond (!x8.absurd)
   (Option.bind (Jg a0.branches s1.2) fun (x10 : UO) =>
 Option.bind (rc (x10.tree, (s1.1 ++ ([x6.ctor])))) fun (x11 : (List UN)) =>
 some (.next (x11, (J1 (s1.2 + 1)))))
   (some (.next ((s1.1 ++ ([x6.ctor])), (J1 (s1.2 + 1)))))))
   (some (.done s1.1))
def GO (rc : Tr × (List UN) → Option ((List UN))) (a0 : Tr) (a1 : List UN) : Option ((List UN)) :=
 cond (a0.kind == 0)
   (Option.bind (KF a0.body) fun (x2 : (List UN)) =>
 Qt (Nat.ble (a1.length + x2.length) 1000000000)
 (some (a1 ++ x2)))
   (Option.bind (Qv (ZM a0 rc) QH (a1, 0)) (fun (o4 : (List UN)) => some o4))
def GP (rc : Tr × (List UN) → Option ((List UN))) (u : Tr × (List UN)) : Option ((List UN)) := GO rc u.1 u.2
def m63f10 (a0 : Tr) (a1 : List UN) : Option ((List UN)) := JY GP QH (a0, a1)
set_option maxRecDepth 100000 in
set_option maxHeartbeats 8000000 in
theorem m63f10s_ok (rc : Tr × (List UN) → Option ((List UN))) (H : ∀ (a0 : Tr) (a1 : List UN) (r : (List UN)), rc (a0, a1) = some r → CallM Try.prog 63 [.agg (Uy a0), .one (Ux 0 a1)] ⟨[], [(0, some ⟨9, 1, (Enc.encL a1).length, []⟩)], 1⟩ (Qy [.one (Ux 0 r)]) ⟨[], [(0, some ⟨9, 1, (Enc.encL r).length, []⟩)], 2⟩) (a0 : Tr) (a1 : List UN) (r : (List UN)) (h0 : GO rc a0 a1 = some r) : CallM Try.prog 63 [.agg (Uy a0), .one (Ux 0 a1)] ⟨[], [(0, some ⟨9, 1, (Enc.encL a1).length, []⟩)], 1⟩ (Qy [.one (Ux 0 r)]) ⟨[], [(0, some ⟨9, 1, (Enc.encL r).length, []⟩)], 2⟩ := by
 unfold GO at h0
 refine QP ⟨[(4, .v (.one (Ux 0 r)))], [], [(0, some ⟨9, 1, (Enc.encL r).length, []⟩)], 2, 46, []⟩ rfl rfl en_63 (Ug rfl) rfl (Qk rfl .nil) (fun w0 M V0 Q hv0 hQ0 => ?_)
 simp only [J8]
 refine Q2 <| Q0 <| Q9 rfl rfl (Ug rfl) (Jc rfl) <| U7 rfl rfl rfl <| Q3 <| Q1 <| Q2 <| Q2 <| Q0 <| U5 rfl rfl rfl (Q4 fo_87_0 rfl) <| U5 rfl rfl rfl (Q7 Yx rfl rfl rfl) <| U5 rfl rfl rfl (Q5 rfl rfl rfl) <| Q3 <| Q1 ?_
 refine Qe (b := (a0.kind == 0)) rfl (fun c1 => ?_) (fun c1 => ?_)
 replace h0 := Qm c1 h0
 refine Q2 <| Q0 <| U6 rfl rfl rfl <| U5 rfl rfl rfl (Q4 GV rfl) <| U5 rfl rfl rfl (Qq Jh rfl rfl rfl rfl) ?_
 refine Qb h0 (fun x2 hx2 h0 => ?_)
 refine Q9 rfl rfl (Ug rfl) (QW (hp1' := []) (tk1' := [(5, some ⟨9, 1, (Enc.encL x2).length, []⟩)]) (hpF := [(1, .cells 87 (Uy a0))]) (tkF := [(0, some ⟨9, 1, (Enc.encL a1).length, []⟩)]) (res2 := Qy [.one (Ux 5 x2)]) (nx2 := 6) [] rfl rfl (ZW a0.body x2 hx2) rfl rfl U8 rfl rfl Uo Uj (Um rfl Ul) (Ui rfl Uh) rfl rfl rfl rfl rfl UB rfl rfl rfl rfl) ?_
 refine QQ h0 (fun g3 h0 => ?_)
 refine Q9 rfl rfl (Ug rfl) (QO (α := UN) QU ZF rfl rfl rfl rfl rfl (.app _ _) g3) <| U7 rfl rfl rfl <| Q3 <| Q1 <| Qz ?_
 have e := U3 h0; subst e
 exact hQ0 _ _ _ (.inr rfl) rfl (Qf (U1 rfl U0) Ul (Ui rfl Uh) rfl (Nat.le_trans hv0 (Ug rfl)) rfl rfl rfl UB rfl rfl)
 replace h0 := Qn c1 h0
 refine Qg <| Q1 <| Q2 <| Q2 <| Q0 <| U7 rfl rfl rfl <| Q3 <| Q1 <| Qc ?_
 refine QF 0 (fun (o4 : (List UN)) => ⟨[(1, .v (.one (Ux 0 o4)))], [(1, .cells 87 (Uy a0))], [(0, some ⟨9, 1, (Enc.encL o4).length, []⟩)], 2, 46, []⟩) (fun (o4 : (List UN)) => (some o4) = some r) ?_ ?_
 refine Qb h0 (fun o5 hl1 h0 => ?_)
 refine QE (ZM a0 rc) (fun s1 => ⟨[(1, .v (.one (Ux 0 s1.1))), (2, .v (.one (.ptr 1 0))), (5, .v (.one (Uv s1.2)))], [(1, .cells 87 (Uy a0))], [(0, some ⟨9, 1, (Enc.encL s1.1).length, []⟩)], 2, 46, []⟩) (a1, 0) o5 (Qf (U1 rfl (U1 rfl (U1 rfl U0))) (Um rfl Ul) (Ui rfl Uh) rfl (Nat.le_trans hv0 (Ug rfl)) rfl rfl rfl (UE rfl rfl UB) rfl rfl) hl1 (fun s1 n1 oo1 h1 ho1 => ?_)
 unfold ZM at h1
 refine Q2 <| Q2 <| Q0 <| U6 rfl rfl rfl <| U5 rfl rfl rfl (Q4 JS rfl) <| U5 rfl rfl rfl (Q7 YO rfl rfl rfl) <| U5 rfl rfl rfl (QB (α := UO) YL rfl (.d _)) <| U5 rfl rfl rfl (Q5 rfl rfl rfl) <| Q3 <| Q1 ?_
 refine Qe (b := (decide (s1.2 < (a0.branches.length : Int)))) rfl (fun c6 => ?_) (fun c6 => ?_)
 replace h1 := Qm c6 h1
 refine Qg <| Q1 <| Q2 <| Qc <| Q2 <| Q0 <| U6 rfl rfl rfl <| U5 rfl rfl rfl (Q4 JS rfl) <| U5 rfl rfl rfl (Q7 YO rfl rfl rfl) <| U6 rfl rfl rfl ?_
 refine Qb h1 (fun x7 hx7 h1 => ?_)
 refine U5 rfl rfl rfl (Qi (α := UO) YL rfl (.d _) rfl hx7) <| U5 rfl rfl rfl (Jj G2 rfl) <| U5 rfl rfl rfl (QI JG rfl rfl) <| Q9 rfl rfl (Ug rfl) (QZ (α := UN) (x7.ctor) QU XO rfl rfl (Ug rfl) (Ug rfl) rfl rfl (.cons (.d _) .nil) rfl) ?_
 refine QQ h1 (fun g8 h1 => ?_)
 refine Q9 rfl rfl (Ug rfl) (QO (α := UN) QU ZF rfl rfl rfl rfl rfl (.app _ _) g8) <| U7 rfl rfl rfl <| Q3 <| Q1 <| Q2 <| Q0 <| U5 rfl rfl rfl (Q4 JS rfl) <| U5 rfl rfl rfl (Q7 YO rfl rfl rfl) <| U6 rfl rfl rfl ?_
 refine Qb h1 (fun x9 hx9 h1 => ?_)
 refine U5 rfl rfl rfl (Qi (α := UO) YL rfl (.d _) rfl hx9) <| U5 rfl rfl rfl (Jj fo_115_1 rfl) <| U5 rfl rfl rfl (QI Kr rfl rfl) <| U5 rfl rfl rfl (J9 rfl) <| Q3 <| Q1 ?_
 refine Qe (b := (!x9.absurd)) rfl (fun c10 => ?_) (fun c10 => ?_)
 replace h1 := Qm c10 h1
 refine Q0 <| U5 rfl rfl rfl (Q4 JS rfl) <| U5 rfl rfl rfl (Q7 YO rfl rfl rfl) <| U6 rfl rfl rfl ?_
 refine Qb h1 (fun x11 hx11 h1 => ?_)
 refine U5 rfl rfl rfl (Qi (α := UO) YL rfl (.d _) rfl hx11) <| U5 rfl rfl rfl (Jj G1 rfl) <| U5 rfl rfl rfl (QY Gh rfl rfl rfl) <| U6 rfl rfl rfl ?_
 refine Qb h1 (fun x12 hx12 h1 => ?_)
 refine Q9 rfl rfl (Ug rfl) (QW (hp1' := []) (tk1' := [(0, some ⟨9, 1, (Enc.encL x12).length, []⟩)]) (hpF := [(1, .cells 87 (Uy a0))]) (tkF := [(2, some ⟨9, 1, (Enc.encL ([x7.ctor] : List UN)).length, []⟩)]) (res2 := Qy [.one (Ux 0 x12)]) (nx2 := 4) [0] rfl rfl (H x11.tree (s1.1 ++ ([x7.ctor])) x12 hx12) rfl rfl U8 rfl rfl Uo (Uk rfl Uj) (Um rfl Ul) (Ui rfl Uh) rfl rfl rfl rfl rfl UB rfl rfl rfl rfl) <| U7 rfl rfl rfl <| Q3 <| Qh <| Q1 <| Q0 <| U6 rfl rfl rfl <| U5 rfl rfl rfl (Q5 rfl rfl rfl) <| U7 rfl rfl rfl <| Q3 ?_
 have e := U3 h1; subst e
 refine QA (x12, (J1 (s1.2 + 1))) (Qf (U1 rfl (U1 rfl (U1 rfl U0))) (Um rfl Ul) (Ui rfl Uh) rfl (Nat.le_trans hv0 (Ug rfl)) rfl rfl rfl (UE rfl rfl UB) rfl rfl) ho1
 replace h1 := Qn c10 h1
 refine Qg <| Qh <| Q1 <| Q0 <| U6 rfl rfl rfl <| U5 rfl rfl rfl (Q5 rfl rfl rfl) <| U7 rfl rfl rfl <| Q3 ?_
 have e := U3 h1; subst e
 refine QA ((s1.1 ++ ([x7.ctor])), (J1 (s1.2 + 1))) (Qf (U1 rfl (U1 rfl (U1 rfl U0))) (Um rfl Ul) (Ui rfl Uh) rfl (Nat.le_trans hv0 (Ug rfl)) rfl rfl rfl (UE rfl rfl UB) rfl rfl) ho1
 replace h1 := Qn c6 h1
 refine QJ <| Qd <| Qd ?_
 have e := U3 h1; subst e
 have e_ : _ = _ := ho1
 subst e_
 exact QD s1.1 (Qf (U1 rfl U0) (Um rfl Ul) (Ui rfl Uh) rfl (Nat.le_trans hv0 (Ug rfl)) rfl rfl rfl (UE rfl rfl UB) rfl rfl) h0
 intro o4 h0
 refine Qu <| Q1 <| Q2 <| Q0 <| U6 rfl rfl rfl <| U7 rfl rfl rfl <| Q3 <| Q1 <| Qz ?_
 have e := U3 h0; subst e
 exact hQ0 _ _ _ (.inr rfl) rfl (Qf (U1 rfl U0) Ul (Ui rfl Uh) rfl (Nat.le_trans hv0 (Ug rfl)) rfl rfl rfl UB rfl rfl)
theorem m63f10_all (n : Nat) (u : Tr × (List UN)) (r : (List UN)) (h0 : JY GP n u = some r) : CallM Try.prog 63 [.agg (Uy u.1), .one (Ux 0 u.2)] ⟨[], [(0, some ⟨9, 1, (Enc.encL u.2).length, []⟩)], 1⟩ (Qy [.one (Ux 0 r)]) ⟨[], [(0, some ⟨9, 1, (Enc.encL r).length, []⟩)], 2⟩ :=
 Yy (C := fun u r => CallM Try.prog 63 [.agg (Uy u.1), .one (Ux 0 u.2)] ⟨[], [(0, some ⟨9, 1, (Enc.encL u.2).length, []⟩)], 1⟩ (Qy [.one (Ux 0 r)]) ⟨[], [(0, some ⟨9, 1, (Enc.encL r).length, []⟩)], 2⟩) (fun rc H u r h => m63f10s_ok rc (fun a0 a1 r h => H (a0, a1) r h) u.1 u.2 r h) n u r h0
theorem m63f10_ok (a0 : Tr) (a1 : List UN) (r : (List UN)) (h0 : m63f10 a0 a1 = some r) : CallM Try.prog 63 [.agg (Uy a0), .one (Ux 0 a1)] ⟨[], [(0, some ⟨9, 1, (Enc.encL a1).length, []⟩)], 1⟩ (Qy [.one (Ux 0 r)]) ⟨[], [(0, some ⟨9, 1, (Enc.encL r).length, []⟩)], 2⟩ := m63f10_all QH (a0, a1) r h0
def Xe (a0 : Dcl) (s1 : (List UN) × Int) : Option (LO ((List UN) × Int) (((List UN)))) :=
 cond (decide (s1.2 < (a0.ctors.length : Int)))
   (Option.bind (Jg a0.ctors s1.2) fun (x6 : Ctr) =>
 Option.bind (KF x6.ty) fun (x7 : (List UN)) =>
 Qt (Nat.ble (s1.1.length + x7.length) 1000000000)
 (some (.next ((s1.1 ++ x7), (J1 (s1.2 + 1))))))
   (some (.done s1.1))
def Gu (a0 : Dcl) (s1 : (List UN) × Int) : Option (LO ((List UN) × Int) (((List UN)))) :=
 cond (decide (s1.2 < (a0.rcr.rules.length : Int)))
   (Option.bind (Jg a0.rcr.rules s1.2) fun (x9 : Tm) =>
 Option.bind (KF x9) fun (x10 : (List UN)) =>
 Qt (Nat.ble (s1.1.length + x10.length) 1000000000)
 (some (.next ((s1.1 ++ x10), (J1 (s1.2 + 1))))))
   (some (.done s1.1))
def KP (a0 : Dcl) (s1 : (List UN) × Int) : Option (LO ((List UN) × Int) (((List UN)))) :=
 cond (decide (s1.2 < (a0.funs.length : Int)))
   (Option.bind (Jg a0.funs s1.2) fun (x10 : Fn) =>
 Option.bind (KF x10.ty) fun (x11 : (List UN)) =>
 Qt (Nat.ble (s1.1.length + x11.length) 1000000000)
 (some (.next ((s1.1 ++ x11), (J1 (s1.2 + 1))))))
   (some (.done s1.1))
def Kz (a0 : Dcl) (s1 : (List UN) × Int) : Option (LO ((List UN) × Int) (((List UN)))) :=
 cond (decide (s1.2 < (a0.funs.length : Int)))
   (Option.bind (Jg a0.funs s1.2) fun (x11 : Fn) =>
 Option.bind (m63f10 x11.tree s1.1) fun (x12 : (List UN)) =>
 some (.next (x12, (J1 (s1.2 + 1)))))
   (some (.done s1.1))
def K0 (o9 : (List UN)) (x10 : (List UN)) (s1 : (List UN) × Int) : Option (LO ((List UN) × Int) (((List UN)))) :=
 cond (decide (s1.2 < (o9.length : Int)))
   (Option.bind (Option.bind (Jg o9 s1.2) fun (x14 : UN) =>
 Option.bind (WW x10 x14) fun (x15 : Bool) =>
 cond (!x15)
   (Option.bind (Jg o9 s1.2) fun (x17 : UN) =>
 Option.bind (WW s1.1 x17) fun (x18 : Bool) =>
 some (!x18))
   (some false)) (fun (v13 : Bool) => cond v13
   (Option.bind (Jg o9 s1.2) fun (x15 : UN) =>
 Qt (Nat.ble (s1.1.length + ([x15]).length) 1000000000)
 (some (.next ((s1.1 ++ ([x15])), (J1 (s1.2 + 1))))))
   (some (.next (s1.1, (J1 (s1.2 + 1)))))))
   (some (.done s1.1))
def WK (a0 : Dcl) : Option ((List UN)) :=
 Option.bind (KF a0.ty) fun (x1 : (List UN)) =>
 Option.bind (KF a0.value) fun (x2 : (List UN)) =>
 Qt (Nat.ble (x1.length + x2.length) 1000000000)
 (Option.bind (Qv (Xe a0) QH ((x1 ++ x2), 0)) (fun (o4 : (List UN)) => Option.bind (KF a0.rcr.ty) fun (x5 : (List UN)) =>
 Qt (Nat.ble (o4.length + x5.length) 1000000000)
 (Option.bind (Qv (Gu a0) QH ((o4 ++ x5), 0)) (fun (o7 : (List UN)) => Option.bind (Qv (KP a0) QH (o7, 0)) (fun (o8 : (List UN)) => Option.bind (Qv (Kz a0) QH (o8, 0)) (fun (o9 : (List UN)) => Option.bind (Wi a0) fun (x10 : (List UN)) =>
 Option.bind (Qv (K0 o9 x10) QH (([] : List UN), 0)) (fun (o11 : (List UN)) => some o11)))))))
set_option maxRecDepth 100000 in
set_option maxHeartbeats 8000000 in
theorem m47_ok (a0 : Dcl) (r : (List UN)) (h0 : WK a0 = some r) : Fun Try.prog 47 [.agg (Uy a0)] (Qy [.one (Ut r)]) := by
 unfold WK at h0
 refine QS 9 120 Try.func47 rfl en_47 rfl (Ug rfl) (fun S w => ?_)
 simp only [J8]
 refine Q2 <| Q0 <| Q9 rfl rfl (Ug rfl) (Jc rfl) <| U7 rfl rfl rfl <| Q3 <| Q1 <| Q2 ?_
 refine JO [2, 5, 6] [(3, 0), (4, 0)] mixed (by kernel_rfl) (by kernel_rfl) (by kernel_rfl) ?_
 refine RunA.rd rfl rfl rfl (Q6 (Q4 GY rfl)) rfl <| RunA.rd rfl rfl rfl (Q6 (Qq Jh rfl rfl rfl rfl)) rfl ?_
 refine Qb h0 (fun x1 hx1 h0 => ?_)
 refine RunA.eff rfl rfl rfl (QW (hp1' := []) (tk1' := [(4, some ⟨9, 1, (Enc.encL x1).length, []⟩)]) (hpF := [(0, .cells 48 (Uy a0))]) (tkF := []) (res2 := Qy [.one (Ux 4 x1)]) (nx2 := 5) [] rfl rfl (ZW a0.ty x1 hx1) rfl rfl U8 rfl rfl Uo Uj (Um rfl Ul) Uh rfl rfl rfl rfl rfl UB rfl rfl rfl rfl) rfl <| RunA.rd rfl rfl rfl (Q6 (Q4 KD rfl)) rfl <| RunA.rd rfl rfl rfl (Q6 (Qq Jh rfl rfl rfl rfl)) rfl ?_
 refine Qb h0 (fun x2 hx2 h0 => ?_)
 refine RunA.eff rfl rfl rfl (QW (hp1' := []) (tk1' := [(8, some ⟨9, 1, (Enc.encL x2).length, []⟩)]) (hpF := [(0, .cells 48 (Uy a0))]) (tkF := [(4, some ⟨9, 1, (Enc.encL x1).length, []⟩)]) (res2 := Qy [.one (Ux 8 x2)]) (nx2 := 9) [] rfl rfl (ZW a0.value x2 hx2) rfl rfl U8 rfl rfl Uo Uj (Um rfl Ul) (Ui rfl Uh) rfl rfl rfl rfl rfl UB rfl rfl rfl rfl) rfl ?_
 refine QQ h0 (fun g3 h0 => ?_)
 refine RunA.eff rfl rfl rfl (QO (α := UN) QU ZF rfl rfl rfl rfl rfl (.app _ _) g3) rfl <| RunA.rd rfl rfl rfl (Q6 (ZR rfl)) rfl ?_
 refine RunA.nil ⟨?ex, _, _, rfl, ?_⟩
 case ex => exact ⟨⟨_, rfl, _, _, rfl, rfl, rfl, .inl ⟨rfl, _, Q6 (Q4 KD rfl), rfl⟩⟩, ⟨_, rfl, _, _, rfl, rfl, rfl, .inl ⟨rfl, _, Q6 (Qq Jh rfl rfl rfl rfl), rfl⟩⟩, trivial⟩
 refine JV (st' := ⟨[(1, .v (.one (.ptr 0 0))), (3, .v (.one (Ux 4 ((x1 ++ x2) : List UN))))], [(0, .cells 48 (Uy a0))], [(4, some ⟨9, 1, (Enc.encL ((x1 ++ x2) : List UN)).length, []⟩), (8, some ⟨9, 1, (Enc.encL x2).length, []⟩)], 9, 120, []⟩) (Qf (U1 rfl (U1 rfl U0)) (Um rfl Ul) (Ui rfl (Ui rfl Uh)) rfl (Nat.zero_le _) rfl rfl rfl (UE rfl rfl UB) rfl rfl) <| Q1 <| Q2 <| Q2 <| Q0 <| U7 rfl rfl rfl <| Q3 <| Q1 <| Qc ?_
 refine QF 0 (fun (o4 : (List UN)) => ⟨[(1, .v (.one (.ptr 0 0))), (3, .v (.one (Ux 4 o4)))], [(0, .cells 48 (Uy a0))], [(4, some ⟨9, 1, (Enc.encL o4).length, []⟩), (8, some ⟨9, 1, (Enc.encL x2).length, []⟩)], 9, 120, []⟩) (fun (o4 : (List UN)) => (Option.bind (KF a0.rcr.ty) fun (x5 : (List UN)) =>
   Qt (Nat.ble (o4.length + x5.length) 1000000000)
   (Option.bind (Qv (Gu a0) QH ((o4 ++ x5), 0)) (fun (o7 : (List UN)) => Option.bind (Qv (KP a0) QH (o7, 0)) (fun (o8 : (List UN)) => Option.bind (Qv (Kz a0) QH (o8, 0)) (fun (o9 : (List UN)) => Option.bind (Wi a0) fun (x10 : (List UN)) =>
   Option.bind (Qv (K0 o9 x10) QH (([] : List UN), 0)) (fun (o11 : (List UN)) => some o11)))))) = some r) ?_ ?_
 refine Qb h0 (fun o5 hl1 h0 => ?_)
 refine QE (Xe a0) (fun s1 => ⟨[(1, .v (.one (.ptr 0 0))), (3, .v (.one (Ux 4 s1.1))), (4, .v (.one (Uv s1.2)))], [(0, .cells 48 (Uy a0))], [(4, some ⟨9, 1, (Enc.encL s1.1).length, []⟩), (8, some ⟨9, 1, (Enc.encL x2).length, []⟩)], 9, 120, []⟩) ((x1 ++ x2), 0) o5 (Qf (U1 rfl (U1 rfl (U1 rfl U0))) (Um rfl Ul) (Ui rfl (Ui rfl Uh)) rfl (Nat.zero_le _) rfl rfl rfl (UE rfl rfl UB) rfl rfl) hl1 (fun s1 n1 oo1 h1 ho1 => ?_)
 unfold Xe at h1
 refine Q2 <| Q2 <| Q0 <| U6 rfl rfl rfl <| U5 rfl rfl rfl (Q4 Yf rfl) <| U5 rfl rfl rfl (Q7 Zu rfl rfl rfl) <| U5 rfl rfl rfl (QB (α := Ctr) YU rfl (.d _)) <| U5 rfl rfl rfl (Q5 rfl rfl rfl) <| Q3 <| Q1 ?_
 refine Qe (b := (decide (s1.2 < (a0.ctors.length : Int)))) rfl (fun c6 => ?_) (fun c6 => ?_)
 replace h1 := Qm c6 h1
 refine Qg <| Q1 <| Q2 <| Qc <| Q0 <| U6 rfl rfl rfl <| U5 rfl rfl rfl (Q4 Yf rfl) <| U5 rfl rfl rfl (Q7 Zu rfl rfl rfl) <| U6 rfl rfl rfl ?_
 refine Qb h1 (fun x7 hx7 h1 => ?_)
 refine U5 rfl rfl rfl (Qi (α := Ctr) YU rfl (.d _) rfl hx7) <| U5 rfl rfl rfl (Jj GW rfl) <| U5 rfl rfl rfl (QY Jh rfl rfl rfl) ?_
 refine Qb h1 (fun x8 hx8 h1 => ?_)
 refine Q9 rfl rfl (Ug rfl) (QW (hp1' := []) (tk1' := [(12, some ⟨9, 1, (Enc.encL x8).length, []⟩)]) (hpF := [(0, .cells 48 (Uy a0))]) (tkF := [(4, some ⟨9, 1, (Enc.encL s1.1).length, []⟩), (8, some ⟨9, 1, (Enc.encL x2).length, []⟩)]) (res2 := Qy [.one (Ux 12 x8)]) (nx2 := 13) [] rfl rfl (ZW x7.ty x8 hx8) rfl rfl U8 rfl rfl Uo Uj (Um rfl Ul) (Ui rfl (Ui rfl Uh)) rfl rfl rfl rfl rfl UB rfl rfl rfl rfl) ?_
 refine QQ h1 (fun g9 h1 => ?_)
 refine Q9 rfl rfl (Ug rfl) (QO (α := UN) QU ZF rfl rfl rfl rfl rfl (.app _ _) g9) <| U7 rfl rfl rfl <| Q3 <| Qh <| Q1 <| Q0 <| U6 rfl rfl rfl <| U5 rfl rfl rfl (Q5 rfl rfl rfl) <| U7 rfl rfl rfl <| Q3 ?_
 have e := U3 h1; subst e
 refine QA ((s1.1 ++ x8), (J1 (s1.2 + 1))) (Qf (U1 rfl (U1 rfl (U1 rfl U0))) (Um rfl Ul) (Ui rfl (Ui rfl Uh)) rfl (Nat.zero_le _) rfl rfl rfl (UE rfl rfl UB) rfl rfl) ho1
 replace h1 := Qn c6 h1
 refine QJ <| Qd <| Qd ?_
 have e := U3 h1; subst e
 have e_ : _ = _ := ho1
 subst e_
 exact QD s1.1 (Qf (U1 rfl (U1 rfl U0)) (Um rfl Ul) (Ui rfl (Ui rfl Uh)) rfl (Nat.zero_le _) rfl rfl rfl (UE rfl rfl UB) rfl rfl) h0
 intro o4 h0
 refine Qu <| Q1 <| Q2 <| Q0 <| U6 rfl rfl rfl <| U5 rfl rfl rfl (Q4 YQ rfl) <| U5 rfl rfl rfl (Q4 GZ rfl) <| U5 rfl rfl rfl (Qq Jh rfl rfl rfl rfl) ?_
 refine Qb h0 (fun x10 hx10 h0 => ?_)
 refine Q9 rfl rfl (Ug rfl) (QW (hp1' := []) (tk1' := [(12, some ⟨9, 1, (Enc.encL x10).length, []⟩)]) (hpF := [(0, .cells 48 (Uy a0))]) (tkF := [(4, some ⟨9, 1, (Enc.encL o4).length, []⟩), (8, some ⟨9, 1, (Enc.encL x2).length, []⟩)]) (res2 := Qy [.one (Ux 12 x10)]) (nx2 := 13) [] rfl rfl (ZW a0.rcr.ty x10 hx10) rfl rfl U8 rfl rfl Uo Uj (Um rfl Ul) (Ui rfl (Ui rfl Uh)) rfl rfl rfl rfl rfl UB rfl rfl rfl rfl) ?_
 refine QQ h0 (fun g11 h0 => ?_)
 refine Q9 rfl rfl (Ug rfl) (QO (α := UN) QU ZF rfl rfl rfl rfl rfl (.app _ _) g11) <| U7 rfl rfl rfl <| Q3 <| Q1 <| Q2 <| Q2 <| Q0 <| U7 rfl rfl rfl <| Q3 <| Q1 <| Qc ?_
 refine QF 2 (fun (o12 : (List UN)) => ⟨[(1, .v (.one (.ptr 0 0))), (3, .v (.one (Ux 4 o12)))], [(0, .cells 48 (Uy a0))], [(4, some ⟨9, 1, (Enc.encL o12).length, []⟩), (8, some ⟨9, 1, (Enc.encL x2).length, []⟩), (12, some ⟨9, 1, (Enc.encL x10).length, []⟩)], 13, 120, []⟩) (fun (o12 : (List UN)) => (Option.bind (Qv (KP a0) QH (o12, 0)) (fun (o13 : (List UN)) => Option.bind (Qv (Kz a0) QH (o13, 0)) (fun (o14 : (List UN)) => Option.bind (Wi a0) fun (x15 : (List UN)) =>
   Option.bind (Qv (K0 o14 x15) QH (([] : List UN), 0)) (fun (o16 : (List UN)) => some o16)))) = some r) ?_ ?_
 refine Qb h0 (fun o13 hl1 h0 => ?_)
 refine QE (Gu a0) (fun s1 => ⟨[(1, .v (.one (.ptr 0 0))), (3, .v (.one (Ux 4 s1.1))), (5, .v (.one (Uv s1.2)))], [(0, .cells 48 (Uy a0))], [(4, some ⟨9, 1, (Enc.encL s1.1).length, []⟩), (8, some ⟨9, 1, (Enc.encL x2).length, []⟩), (12, some ⟨9, 1, (Enc.encL x10).length, []⟩)], 13, 120, []⟩) ((o4 ++ x10), 0) o13 (Qf (U1 rfl (U1 rfl (U1 rfl U0))) (Um rfl Ul) (Ui rfl (Ui rfl (Ui rfl Uh))) rfl (Nat.zero_le _) rfl rfl rfl (UE rfl rfl UB) rfl rfl) hl1 (fun s1 n1 oo1 h1 ho1 => ?_)
 unfold Gu at h1
 refine Q2 <| Q2 <| Q0 <| U6 rfl rfl rfl <| U5 rfl rfl rfl (Q4 YQ rfl) <| U5 rfl rfl rfl (Q4 ZD rfl) <| U5 rfl rfl rfl (Q7 Y3 rfl rfl rfl) <| U5 rfl rfl rfl (QB (α := Tm) JH rfl (.d _)) <| U5 rfl rfl rfl (Q5 rfl rfl rfl) <| Q3 <| Q1 ?_
 refine Qe (b := (decide (s1.2 < (a0.rcr.rules.length : Int)))) rfl (fun c14 => ?_) (fun c14 => ?_)
 replace h1 := Qm c14 h1
 refine Qg <| Q1 <| Q2 <| Qc <| Q0 <| U6 rfl rfl rfl <| U5 rfl rfl rfl (Q4 YQ rfl) <| U5 rfl rfl rfl (Q4 ZD rfl) <| U5 rfl rfl rfl (Q7 Y3 rfl rfl rfl) <| U6 rfl rfl rfl ?_
 refine Qb h1 (fun x15 hx15 h1 => ?_)
 refine U5 rfl rfl rfl (Qi (α := Tm) JH rfl (.d _) rfl hx15) <| U5 rfl rfl rfl (QY Jh rfl rfl rfl) ?_
 refine Qb h1 (fun x16 hx16 h1 => ?_)
 refine Q9 rfl rfl (Ug rfl) (QW (hp1' := []) (tk1' := [(16, some ⟨9, 1, (Enc.encL x16).length, []⟩)]) (hpF := [(0, .cells 48 (Uy a0))]) (tkF := [(4, some ⟨9, 1, (Enc.encL s1.1).length, []⟩), (8, some ⟨9, 1, (Enc.encL x2).length, []⟩), (12, some ⟨9, 1, (Enc.encL x10).length, []⟩)]) (res2 := Qy [.one (Ux 16 x16)]) (nx2 := 17) [] rfl rfl (ZW x15 x16 hx16) rfl rfl U8 rfl rfl Uo Uj (Um rfl Ul) (Ui rfl (Ui rfl (Ui rfl Uh))) rfl rfl rfl rfl rfl UB rfl rfl rfl rfl) ?_
 refine QQ h1 (fun g17 h1 => ?_)
 refine Q9 rfl rfl (Ug rfl) (QO (α := UN) QU ZF rfl rfl rfl rfl rfl (.app _ _) g17) <| U7 rfl rfl rfl <| Q3 <| Qh <| Q1 <| Q0 <| U6 rfl rfl rfl <| U5 rfl rfl rfl (Q5 rfl rfl rfl) <| U7 rfl rfl rfl <| Q3 ?_
 have e := U3 h1; subst e
 refine QA ((s1.1 ++ x16), (J1 (s1.2 + 1))) (Qf (U1 rfl (U1 rfl (U1 rfl U0))) (Um rfl Ul) (Ui rfl (Ui rfl (Ui rfl Uh))) rfl (Nat.zero_le _) rfl rfl rfl (UE rfl rfl UB) rfl rfl) ho1
 replace h1 := Qn c14 h1
 refine QJ <| Qd <| Qd ?_
 have e := U3 h1; subst e
 have e_ : _ = _ := ho1
 subst e_
 exact QD s1.1 (Qf (U1 rfl (U1 rfl U0)) (Um rfl Ul) (Ui rfl (Ui rfl (Ui rfl Uh))) rfl (Nat.zero_le _) rfl rfl rfl (UE rfl rfl UB) rfl rfl) h0
 intro o12 h0
 refine Qu <| Q1 <| Q2 <| Q2 <| Q0 <| U7 rfl rfl rfl <| Q3 <| Q1 <| Qc ?_
 refine QF 4 (fun (o18 : (List UN)) => ⟨[(1, .v (.one (.ptr 0 0))), (3, .v (.one (Ux 4 o18)))], [(0, .cells 48 (Uy a0))], [(4, some ⟨9, 1, (Enc.encL o18).length, []⟩), (8, some ⟨9, 1, (Enc.encL x2).length, []⟩), (12, some ⟨9, 1, (Enc.encL x10).length, []⟩)], 13, 120, []⟩) (fun (o18 : (List UN)) => (Option.bind (Qv (Kz a0) QH (o18, 0)) (fun (o19 : (List UN)) => Option.bind (Wi a0) fun (x20 : (List UN)) =>
   Option.bind (Qv (K0 o19 x20) QH (([] : List UN), 0)) (fun (o21 : (List UN)) => some o21))) = some r) ?_ ?_
 refine Qb h0 (fun o19 hl1 h0 => ?_)
 refine QE (KP a0) (fun s1 => ⟨[(1, .v (.one (.ptr 0 0))), (3, .v (.one (Ux 4 s1.1))), (6, .v (.one (Uv s1.2)))], [(0, .cells 48 (Uy a0))], [(4, some ⟨9, 1, (Enc.encL s1.1).length, []⟩), (8, some ⟨9, 1, (Enc.encL x2).length, []⟩), (12, some ⟨9, 1, (Enc.encL x10).length, []⟩)], 13, 120, []⟩) (o12, 0) o19 (Qf (U1 rfl (U1 rfl (U1 rfl U0))) (Um rfl Ul) (Ui rfl (Ui rfl (Ui rfl Uh))) rfl (Nat.zero_le _) rfl rfl rfl (UE rfl rfl UB) rfl rfl) hl1 (fun s1 n1 oo1 h1 ho1 => ?_)
 unfold KP at h1
 refine Q2 <| Q2 <| Q0 <| U6 rfl rfl rfl <| U5 rfl rfl rfl (Q4 JB rfl) <| U5 rfl rfl rfl (Q7 Yu rfl rfl rfl) <| U5 rfl rfl rfl (QB (α := Fn) Yd rfl (.d _)) <| U5 rfl rfl rfl (Q5 rfl rfl rfl) <| Q3 <| Q1 ?_
 refine Qe (b := (decide (s1.2 < (a0.funs.length : Int)))) rfl (fun c20 => ?_) (fun c20 => ?_)
 replace h1 := Qm c20 h1
 refine Qg <| Q1 <| Q2 <| Qc <| Q0 <| U6 rfl rfl rfl <| U5 rfl rfl rfl (Q4 JB rfl) <| U5 rfl rfl rfl (Q7 Yu rfl rfl rfl) <| U6 rfl rfl rfl ?_
 refine Qb h1 (fun x21 hx21 h1 => ?_)
 refine U5 rfl rfl rfl (Qi (α := Fn) Yd rfl (.d _) rfl hx21) <| U5 rfl rfl rfl (Jj GT rfl) <| U5 rfl rfl rfl (QY Jh rfl rfl rfl) ?_
 refine Qb h1 (fun x22 hx22 h1 => ?_)
 refine Q9 rfl rfl (Ug rfl) (QW (hp1' := []) (tk1' := [(16, some ⟨9, 1, (Enc.encL x22).length, []⟩)]) (hpF := [(0, .cells 48 (Uy a0))]) (tkF := [(4, some ⟨9, 1, (Enc.encL s1.1).length, []⟩), (8, some ⟨9, 1, (Enc.encL x2).length, []⟩), (12, some ⟨9, 1, (Enc.encL x10).length, []⟩)]) (res2 := Qy [.one (Ux 16 x22)]) (nx2 := 17) [] rfl rfl (ZW x21.ty x22 hx22) rfl rfl U8 rfl rfl Uo Uj (Um rfl Ul) (Ui rfl (Ui rfl (Ui rfl Uh))) rfl rfl rfl rfl rfl UB rfl rfl rfl rfl) ?_
 refine QQ h1 (fun g23 h1 => ?_)
 refine Q9 rfl rfl (Ug rfl) (QO (α := UN) QU ZF rfl rfl rfl rfl rfl (.app _ _) g23) <| U7 rfl rfl rfl <| Q3 <| Qh <| Q1 <| Q0 <| U6 rfl rfl rfl <| U5 rfl rfl rfl (Q5 rfl rfl rfl) <| U7 rfl rfl rfl <| Q3 ?_
 have e := U3 h1; subst e
 refine QA ((s1.1 ++ x22), (J1 (s1.2 + 1))) (Qf (U1 rfl (U1 rfl (U1 rfl U0))) (Um rfl Ul) (Ui rfl (Ui rfl (Ui rfl Uh))) rfl (Nat.zero_le _) rfl rfl rfl (UE rfl rfl UB) rfl rfl) ho1
 replace h1 := Qn c20 h1
 refine QJ <| Qd <| Qd ?_
 have e := U3 h1; subst e
 have e_ : _ = _ := ho1
 subst e_
 exact QD s1.1 (Qf (U1 rfl (U1 rfl U0)) (Um rfl Ul) (Ui rfl (Ui rfl (Ui rfl Uh))) rfl (Nat.zero_le _) rfl rfl rfl (UE rfl rfl UB) rfl rfl) h0
 intro o18 h0
 refine Qu <| Q1 <| Q2 <| Q2 <| Q0 <| U7 rfl rfl rfl <| Q3 <| Q1 <| Qc ?_
 refine QF 6 (fun (o24 : (List UN)) => ⟨[(1, .v (.one (.ptr 0 0))), (3, .v (.one (Ux 4 o24)))], [(0, .cells 48 (Uy a0))], [(4, some ⟨9, 1, (Enc.encL o24).length, []⟩), (8, some ⟨9, 1, (Enc.encL x2).length, []⟩), (12, some ⟨9, 1, (Enc.encL x10).length, []⟩)], 13, 120, []⟩) (fun (o24 : (List UN)) => (Option.bind (Wi a0) fun (x25 : (List UN)) =>
   Option.bind (Qv (K0 o24 x25) QH (([] : List UN), 0)) (fun (o26 : (List UN)) => some o26)) = some r) ?_ ?_
 refine Qb h0 (fun o25 hl1 h0 => ?_)
 refine QE (Kz a0) (fun s1 => ⟨[(1, .v (.one (.ptr 0 0))), (3, .v (.one (Ux 4 s1.1))), (7, .v (.one (Uv s1.2)))], [(0, .cells 48 (Uy a0))], [(4, some ⟨9, 1, (Enc.encL s1.1).length, []⟩), (8, some ⟨9, 1, (Enc.encL x2).length, []⟩), (12, some ⟨9, 1, (Enc.encL x10).length, []⟩)], 13, 120, []⟩) (o18, 0) o25 (Qf (U1 rfl (U1 rfl (U1 rfl U0))) (Um rfl Ul) (Ui rfl (Ui rfl (Ui rfl Uh))) rfl (Nat.zero_le _) rfl rfl rfl (UE rfl rfl UB) rfl rfl) hl1 (fun s1 n1 oo1 h1 ho1 => ?_)
 unfold Kz at h1
 refine Q2 <| Q2 <| Q0 <| U6 rfl rfl rfl <| U5 rfl rfl rfl (Q4 JB rfl) <| U5 rfl rfl rfl (Q7 Yu rfl rfl rfl) <| U5 rfl rfl rfl (QB (α := Fn) Yd rfl (.d _)) <| U5 rfl rfl rfl (Q5 rfl rfl rfl) <| Q3 <| Q1 ?_
 refine Qe (b := (decide (s1.2 < (a0.funs.length : Int)))) rfl (fun c26 => ?_) (fun c26 => ?_)
 replace h1 := Qm c26 h1
 refine Qg <| Q1 <| Q2 <| Qc <| Q0 <| U5 rfl rfl rfl (Q4 JB rfl) <| U5 rfl rfl rfl (Q7 Yu rfl rfl rfl) <| U6 rfl rfl rfl ?_
 refine Qb h1 (fun x27 hx27 h1 => ?_)
 refine U5 rfl rfl rfl (Qi (α := Fn) Yd rfl (.d _) rfl hx27) <| U5 rfl rfl rfl (Jj GS rfl) <| U5 rfl rfl rfl (QY Gh rfl rfl rfl) <| U6 rfl rfl rfl ?_
 refine Qb h1 (fun x28 hx28 h1 => ?_)
 refine Q9 rfl rfl (Ug rfl) (QW (hp1' := []) (tk1' := [(4, some ⟨9, 1, (Enc.encL x28).length, []⟩)]) (hpF := [(0, .cells 48 (Uy a0))]) (tkF := [(8, some ⟨9, 1, (Enc.encL x2).length, []⟩), (12, some ⟨9, 1, (Enc.encL x10).length, []⟩)]) (res2 := Qy [.one (Ux 4 x28)]) (nx2 := 14) [4] rfl rfl (m63f10_ok x27.tree s1.1 x28 hx28) rfl rfl U8 rfl rfl Uo (Uk rfl Uj) (Um rfl Ul) (Ui rfl (Ui rfl Uh)) rfl rfl rfl rfl rfl UB rfl rfl rfl rfl) <| U7 rfl rfl rfl <| Q3 <| Qh <| Q1 <| Q0 <| U6 rfl rfl rfl <| U5 rfl rfl rfl (Q5 rfl rfl rfl) <| U7 rfl rfl rfl <| Q3 ?_
 have e := U3 h1; subst e
 refine QA (x28, (J1 (s1.2 + 1))) (Qf (U1 rfl (U1 rfl (U1 rfl U0))) (Um rfl Ul) (Ui rfl (Ui rfl (Ui rfl Uh))) rfl (Nat.zero_le _) rfl rfl rfl (UE rfl rfl UB) rfl rfl) ho1
 replace h1 := Qn c26 h1
 refine QJ <| Qd <| Qd ?_
 have e := U3 h1; subst e
 have e_ : _ = _ := ho1
 subst e_
 exact QD s1.1 (Qf (U1 rfl (U1 rfl U0)) (Um rfl Ul) (Ui rfl (Ui rfl (Ui rfl Uh))) rfl (Nat.zero_le _) rfl rfl rfl (UE rfl rfl UB) rfl rfl) h0
 intro o24 h0
 refine Qu <| Q1 <| Q2 <| Q0 <| U5 rfl rfl rfl (Qq Jt rfl rfl rfl rfl) ?_
 refine Qb h0 (fun x29 hx29 h0 => ?_)
 refine Q9 rfl rfl (Ug rfl) (Ql (m18_ok a0 x29 hx29) rfl (.cons (.agg (.cons (.d _) (.cons (.d _) (.cons (.d _) (.cons (.d _) (.cons (.d _) (.cons (.d _) (.cons (.d _) (.cons (.d _) (.cons (.d _) (.cons (.d _) (.cons (.d _) (.cons (.d _) (.cons (.d _) (.cons (.d _) (.cons (.d _) (.cons (.d _) (.cons (.d _) (.cons (.d _) (.cons (.d _) (.cons (.d _) (.cons (.d _) (.cons (.d _) (.cons (.d _) .nil)))))))))))))))))))))))) .nil)) <| U7 rfl rfl rfl <| Q3 <| Q1 <| Q2 <| Q0 <| U7 rfl rfl rfl <| Q3 <| Q1 <| Q2 <| Q2 <| Q0 <| U7 rfl rfl rfl <| Q3 ?_
 refine Q1 <| Qc ?_
 refine QF 8 (fun (o30 : (List UN)) => ⟨[(9, .v (.one (Ux 13 o30)))], [(0, .cells 48 (Uy a0))], [(4, some ⟨9, 1, (Enc.encL o24).length, []⟩), (8, some ⟨9, 1, (Enc.encL x2).length, []⟩), (12, some ⟨9, 1, (Enc.encL x10).length, []⟩), (13, some ⟨9, 1, (Enc.encL o30).length, []⟩)], 14, 120, []⟩) (fun (o30 : (List UN)) => (some o30) = some r) ?_ ?_
 refine JD (t := 9) 9 1 rfl ?_
 refine Qb h0 (fun o31 hl1 h0 => ?_)
 refine QE (K0 o24 x29) (fun s1 => ⟨[(3, .v (.one (Ux 4 o24))), (8, .v (.one (Ut x29))), (9, .v (.one (Ux 13 s1.1))), (10, .v (.one (Uv s1.2)))], [(0, .cells 48 (Uy a0))], [(4, some ⟨9, 1, (Enc.encL o24).length, []⟩), (8, some ⟨9, 1, (Enc.encL x2).length, []⟩), (12, some ⟨9, 1, (Enc.encL x10).length, []⟩), (13, some ⟨9, 1, (Enc.encL s1.1).length, []⟩)], 14, 120, []⟩) (([] : List UN), 0) o31 (Qf (U1 rfl (U1 rfl (U1 rfl (U1 rfl U0)))) (Um rfl Ul) (Ui rfl (Ui rfl (Ui rfl (Ui rfl Uh)))) rfl (Nat.zero_le _) rfl rfl rfl (UE rfl rfl UB) rfl rfl) hl1 (fun s1 n1 oo1 h1 ho1 => ?_)
 unfold K0 at h1
 refine Q2 <| Q2 <| Q0 <| U6 rfl rfl rfl <| U6 rfl rfl rfl <| U5 rfl rfl rfl (QB (α := UN) QU rfl (.app _ _)) <| U5 rfl rfl rfl (Q5 rfl rfl rfl) <| Q3 <| Q1 ?_
 refine Qe (b := (decide (s1.2 < (o24.length : Int)))) rfl (fun c32 => ?_) (fun c32 => ?_)
 replace h1 := Qm c32 h1
 refine Qg <| Q1 <| Q2 <| Qc <| Q2 ?_
 refine Ja (fun (v33 : Bool) => ⟨[(3, .v (.one (Ux 4 o24))), (8, .v (.one (Ut x29))), (9, .v (.one (Ux 13 s1.1))), (10, .v (.one (Uv s1.2))), (111, .v (.one (Uw v33)))], [(0, .cells 48 (Uy a0))], [(4, some ⟨9, 1, (Enc.encL o24).length, []⟩), (8, some ⟨9, 1, (Enc.encL x2).length, []⟩), (12, some ⟨9, 1, (Enc.encL x10).length, []⟩), (13, some ⟨9, 1, (Enc.encL s1.1).length, []⟩)], 14, 120, []⟩) (fun (v33 : Bool) => (cond v33
     (Option.bind (Jg o24 s1.2) fun (x35 : UN) =>
   Qt (Nat.ble (s1.1.length + ([x35]).length) 1000000000)
   (some (.next ((s1.1 ++ ([x35])), (J1 (s1.2 + 1))))))
     (some (.next (s1.1, (J1 (s1.2 + 1)))))) = some oo1) ?_ ?_
 refine Qb h1 (fun w2_ h2 h1 => ?_)
 refine Q0 <| U6 rfl rfl rfl <| U6 rfl rfl rfl <| U6 rfl rfl rfl ?_
 refine Qb h2 (fun x34 hx34 h2 => ?_)
 refine U5 rfl rfl rfl (Qi (α := UN) QU rfl (.app _ _) rfl hx34) <| U5 rfl rfl rfl (QI JG rfl rfl) ?_
 refine Qb h2 (fun x35 hx35 h2 => ?_)
 refine Q9 rfl rfl (Ug rfl) (Ql (m64_ok x29 x34 x35 hx35) rfl (.cons (.one (.d _)) (.cons (.one (.d _)) .nil))) <| U5 rfl rfl rfl (J9 rfl) <| U6 rfl rfl rfl ?_
 refine QV (d := 103) (c := (!x35)) rfl (fun c36 => ?_) (fun c36 => ?_)
 replace h2 := Qm c36 h2
 refine U6 rfl rfl rfl <| U6 rfl rfl rfl <| U6 rfl rfl rfl ?_
 refine Qb h2 (fun x37 hx37 h2 => ?_)
 refine U5 rfl rfl rfl (Qi (α := UN) QU rfl (.app _ _) rfl hx37) <| U5 rfl rfl rfl (QI JG rfl rfl) ?_
 refine Qb h2 (fun x38 hx38 h2 => ?_)
 refine Q9 rfl rfl (Ug rfl) (Ql (m64_ok s1.1 x37 x38 hx38) rfl (.cons (.one (.app _ _ _)) (.cons (.one (.d _)) .nil))) <| U5 rfl rfl rfl (J9 rfl) <| U5 rfl rfl rfl (Qo rfl rfl) <| Q3 ?_
 have e := U3 h2; subst e
 exact Qr (!x38) (Qf (U1 rfl (U1 rfl (U1 rfl (U1 rfl (U1 rfl U0))))) (Um rfl Ul) (Ui rfl (Ui rfl (Ui rfl (Ui rfl Uh)))) rfl (Nat.zero_le _) rfl rfl rfl (UE rfl rfl UB) rfl rfl) h1
 replace h2 := Qn c36 h2
 refine Q8 rfl rfl <| Q8 rfl rfl <| Q8 rfl rfl <| Q8 rfl rfl <| Q8 rfl rfl <| Q8 rfl rfl <| Q8 rfl rfl <| U5 rfl rfl rfl (QG rfl rfl) <| Q3 ?_
 have e := U3 h2; subst e
 exact Qr false (Qf (U1 rfl (U1 rfl (U1 rfl (U1 rfl (U1 rfl U0))))) (Um rfl Ul) (Ui rfl (Ui rfl (Ui rfl (Ui rfl Uh)))) rfl (Nat.zero_le _) rfl rfl rfl (UE rfl rfl UB) rfl rfl) h1
 intro v33 h1
 refine Q1 ?_
 refine Qe (b := v33) rfl (fun c39 => ?_) (fun c39 => ?_)
 replace h1 := Qm c39 h1
 refine Q0 <| U6 rfl rfl rfl <| U6 rfl rfl rfl <| U6 rfl rfl rfl ?_
 refine Qb h1 (fun x40 hx40 h1 => ?_)
 refine U5 rfl rfl rfl (Qi (α := UN) QU rfl (.app _ _) rfl hx40) <| U5 rfl rfl rfl (QI JG rfl rfl) <| Q9 rfl rfl (Ug rfl) (QZ (α := UN) (x40) QU XO rfl rfl (Ug rfl) (Ug rfl) rfl rfl (.cons (.d _) .nil) rfl) ?_
 refine QQ h1 (fun g41 h1 => ?_)
 refine Q9 rfl rfl (Ug rfl) (QO (α := UN) QU ZF rfl rfl rfl rfl rfl (.app _ _) g41) <| U7 rfl rfl rfl <| Q3 <| Qh <| Q1 <| Q0 <| U6 rfl rfl rfl <| U5 rfl rfl rfl (Q5 rfl rfl rfl) <| U7 rfl rfl rfl <| Q3 ?_
 have e := U3 h1; subst e
 refine QA ((s1.1 ++ ([x40])), (J1 (s1.2 + 1))) (Qf (U1 rfl (U1 rfl (U1 rfl (U1 rfl U0)))) (Um rfl Ul) (Ui rfl (Ui rfl (Ui rfl (Ui rfl Uh)))) rfl (Nat.zero_le _) rfl rfl rfl (UE rfl rfl UB) rfl rfl) ho1
 replace h1 := Qn c39 h1
 refine Qg <| Qh <| Q1 <| Q0 <| U6 rfl rfl rfl <| U5 rfl rfl rfl (Q5 rfl rfl rfl) <| U7 rfl rfl rfl <| Q3 ?_
 have e := U3 h1; subst e
 refine QA (s1.1, (J1 (s1.2 + 1))) (Qf (U1 rfl (U1 rfl (U1 rfl (U1 rfl U0)))) (Um rfl Ul) (Ui rfl (Ui rfl (Ui rfl (Ui rfl Uh)))) rfl (Nat.zero_le _) rfl rfl rfl (UE rfl rfl UB) rfl rfl) ho1
 replace h1 := Qn c32 h1
 refine QJ <| Qd <| Qd ?_
 have e := U3 h1; subst e
 have e_ : _ = _ := ho1
 subst e_
 exact QD s1.1 (Qf (U1 rfl U0) (Um rfl Ul) (Ui rfl (Ui rfl (Ui rfl (Ui rfl Uh)))) rfl (Nat.zero_le _) rfl rfl rfl (UE rfl rfl UB) rfl rfl) h0
 intro o30 h0
 refine Qu <| Q1 <| Q2 <| Q0 <| U6 rfl rfl rfl <| U7 rfl rfl rfl <| Q3 <| Q1 <| Qz ?_
 have e := U3 h0; subst e
 exact QK (fun _ _ h => h) rfl (Qk rfl .nil) (.cons (.one (.app _ _ _)) .nil)
end Go.Proofs.Ytijcchddnnnmdaa
namespace Go.Proofs.Ytijcchddnnnmdaa
open Go.RowKit
set_option linter.unusedSimpArgs false
set_option linter.unusedVariables false
set_option linter.unusedSectionVars false
theorem w64_id {n : Int} (h1 : -9223372036854775808 ≤ n) (h2 : n ≤ 9223372036854775807) : J1 n = n := IntWalk.i64_in n ⟨h1, h2⟩
theorem w64_nx {k : Nat} (h : k ≤ 1000000000) : J1 ((k : Int) + 1) = ((k + 1 : Nat) : Int) := by rw [w64_id (by omega) (by omega)]; rfl
theorem Zy {α : Type} {l : List α} {k : Nat} {x : α} (h : l[k]? = some x) : Jg l (k : Int) = some x := h
theorem QR {α : Type} (a : List α) (x : α) (b : List α) : Jg (a ++ x :: b) (a.length : Int) = some x := by
  show (a ++ x :: b)[a.length]? = some x
  simp
theorem QX {α : Type} (a : List α) (x : α) (b : List α) : decide ((a.length : Int) < ((a ++ x :: b).length : Int)) = true := by
  rw [decide_eq_true_eq, List.length_append, List.length_cons]; omega
theorem YD {α : Type} {l a b : List α} {x : α} (h : l = a ++ x :: b) : a.length < l.length := by rw [h, List.length_append, List.length_cons]; omega
theorem beqI (a b : Int) : (a == b) = decide (a = b) := by
  by_cases h : a = b
  · rw [decide_eq_true h]; exact beq_iff_eq.2 h
  · rw [decide_eq_false h, Bool.eq_false_iff]; exact fun h' => h (beq_iff_eq.1 h')
theorem J7 {α : Type} (a : List α) : decide ((a.length : Int) < (a.length : Int)) = false := by simp
theorem Jf {α : Type} {a b : Nat} {x : Option α} (h : a ≤ b) : Qt (Nat.ble a b) x = x := by
  rw [Nat.ble_eq_true_of_le h]; rfl
theorem K2 {α : Type} {a b : Nat} {x : Option α} (h : a = b) : Qt (Nat.beq a b) x = x := by
  subst h; rw [Nat.beq_refl]; rfl
theorem Jb {α σ τ β : Type} {step : τ → Option (LO τ β)} (l : List α) (mk : Int → σ → τ) (I : List α → σ → Prop) (Q : β → Prop) (hlen : l.length ≤ 900000000)
    (hin : ∀ (a : List α) (x : α) (b : List α) (s : σ), l = a ++ x :: b → I a s →
      (∃ r, step (mk (a.length : Int) s) = some (.done r) ∧ Q r) ∨ ∃ s', step (mk (a.length : Int) s) = some (.next (mk (J1 ((a.length : Int) + 1)) s')) ∧ I (a ++ [x]) s')
    (hout : ∀ s, I l s → ∃ r, step (mk (l.length : Int) s) = some (.done r) ∧ Q r) (s0 : σ) (h0 : I [] s0) : ∃ r, Qv step QH (mk 0 s0) = some r ∧ Q r := by
  have key : ∀ (b a : List α) (s : σ) (n : Nat), l = a ++ b → b.length < n → I a s → ∃ r, Qv step n (mk (a.length : Int) s) = some r ∧ Q r := by
    intro b
    induction b with
    | nil =>
      intro a s n hl hn hI
      rw [List.append_nil] at hl
      subst hl
      obtain ⟨r, h1, h2⟩ := hout s hI
      cases n with
      | zero => omega
      | succ n => exact ⟨r, by simp only [Qv, h1], h2⟩
    | cons x b ih =>
      intro a s n hl hn hI
      cases n with
      | zero => omega
      | succ n =>
        rcases hin a x b s hl hI with ⟨r, h1, h2⟩ | ⟨s', h1, h2⟩
        · exact ⟨r, by simp only [Qv, h1], h2⟩
        · have hal : a.length ≤ 900000000 := by rw [hl, List.length_append] at hlen; omega
          rw [w64_nx (by omega)] at h1
          obtain ⟨r, h3, h4⟩ := ih (a ++ [x]) s' n (by rw [hl, List.append_assoc]; rfl) (by simp only [List.length_cons] at hn; omega) h2
          refine ⟨r, ?_, h4⟩
          simp only [Qv, h1]
          rw [List.length_append] at h3
          exact h3
  exact key l [] s0 QH rfl (by unfold QH; omega) h0
theorem YI {α σ τ β : Type} {step : τ → Option (LO τ β)} (l : List α) (mk : Int → σ → τ) (f : σ → α → σ) (s0 : σ) (fin : β) (hlen : l.length ≤ 900000000)
    (hin : ∀ (a : List α) (x : α) (b : List α), l = a ++ x :: b → step (mk (a.length : Int) (a.foldl f s0)) = some (.next (mk (J1 ((a.length : Int) + 1)) (f (a.foldl f s0) x))))
    (hout : step (mk (l.length : Int) (l.foldl f s0)) = some (.done fin)) : Qv step QH (mk 0 s0) = some fin := by
  obtain ⟨r, h1, h2⟩ := Jb (step := step) l mk (fun a s => s = a.foldl f s0) (fun r => r = fin) hlen (fun a x b s hl hs => .inr ⟨f (a.foldl f s0) x, by rw [hs]; exact hin a x b hl, by rw [List.foldl_append]; rfl⟩)
    (fun s hs => ⟨fin, by rw [hs]; exact hout, rfl⟩) s0 rfl
  rw [h1, h2]
section
variable {κ β : Type} [MK κ] [MV β]
theorem gmFind_shift (k : κ) : ∀ (l : List (κ × β × Nat)) (i : Nat), (Y0 k l i).map (·.2) = (Y0 k l 0).map (·.2)
  | [], i => rfl
  | e :: l, i => by
    simp only [Y0]
    cases (k == e.1) with
    | true => rfl
    | false => simp only [cond_false]; rw [gmFind_shift k l (i + 1), gmFind_shift k l (0 + 1)]
theorem gmFind_idx (k : κ) : ∀ (l : List (κ × β × Nat)) (i : Nat), ∀ j v, Y0 k l i = some (j, v) → ∃ n e, j = i + n ∧ l[n]? = some e ∧ (k == e.1) = true ∧ e.2.1 = v
  | [], i, j, v, h => by cases h
  | e :: l, i, j, v, h => by
    simp only [Y0] at h
    cases hk : (k == e.1) with
    | true => rw [hk] at h; cases h; exact ⟨0, e, rfl, rfl, hk, rfl⟩
    | false =>
      rw [hk] at h
      obtain ⟨n, e', h1, h2, h3, h4⟩ := gmFind_idx k l (i + 1) j v h
      exact ⟨n + 1, e', by omega, h2, h3, h4⟩
theorem gmGet_nil (k : κ) : Zq (gmNil : Qj κ β) k = none := rfl
end
section
variable {β : Type} [MV β]
theorem KC (k : UN) (e : UN × β × Nat) (l : List (UN × β × Nat)) (i : Nat) : (Y0 k (e :: l) i).map (·.2) = if k = e.1 then some e.2.1 else (Y0 k l 0).map (·.2) := by
  simp only [Y0]
  by_cases h : k = e.1
  · rw [if_pos h, show (k == e.1) = true from beq_iff_eq.2 h]; rfl
  · rw [if_neg h, show (k == e.1) = false from by rw [Bool.eq_false_iff]; exact fun h' => h (beq_iff_eq.1 h')]
    simp only [cond_false]; exact gmFind_shift k l (i + 1)
theorem gf_app (k : UN) (x : UN × β × Nat) : ∀ (l : List (UN × β × Nat)) (i : Nat), (Y0 k (l ++ [x]) i).map (·.2) = match (Y0 k l 0).map (·.2) with
    | some v => some v
    | none => if k = x.1 then some x.2.1 else none
  | [], i => by rw [List.nil_append, KC]; rfl
  | e :: l, i => by
    rw [List.cons_append, KC, KC]
    by_cases h : k = e.1
    · rw [if_pos h, if_pos h]
    · rw [if_neg h, if_neg h]; exact gf_app k x l 0
theorem gf_mod (k k' : UN) (v : β) : ∀ (l : List (UN × β × Nat)) (i j : Nat) (u : β), Y0 k l i = some (i + j, u) → (Y0 k' (l.modify j fun e => (k, v, e.2.2)) 0).map (·.2) = if k' = k then some v else (Y0 k' l 0).map (·.2)
  | [], i, j, u, h => by cases h
  | e :: l, i, j, u, h => by
    simp only [Y0] at h
    by_cases hk : k = e.1
    · rw [show (k == e.1) = true from beq_iff_eq.2 hk] at h
      simp only [cond_true, Option.some.injEq, Prod.mk.injEq] at h
      obtain rfl : j = 0 := by omega
      rw [show (e :: l).modify 0 (fun e => (k, v, e.2.2)) = (k, v, e.2.2) :: l from rfl, KC, KC, ← hk]
      by_cases h2 : k' = k <;> simp [h2]
    · rw [show (k == e.1) = false from by rw [Bool.eq_false_iff]; exact fun h' => hk (beq_iff_eq.1 h')] at h
      simp only [cond_false] at h
      cases j with
      | zero =>
        obtain ⟨n, e', h1, -⟩ := gmFind_idx k l (i + 1) _ u h
        omega
      | succ j =>
        have ih := gf_mod k k' v l (i + 1) j u (by rw [h]; congr 2; omega)
        rw [show (e :: l).modify (j + 1) (fun e => (k, v, e.2.2)) = e :: l.modify j (fun e => (k, v, e.2.2)) from rfl, KC, KC, ih]
        by_cases h2 : k' = k
        · rw [if_pos h2, if_pos h2, if_neg (fun h3 => hk (h2 ▸ h3))]
        · rw [if_neg h2, if_neg h2]
theorem gmGet_set (M : Qj UN β) (k k' : UN) (v : β) : Zq (Y5 M k v) k' = if k' = k then some v else Zq M k' := by
  unfold Y5
  split
  · rename_i j u h
    exact gf_mod k k' v M.1 0 j u (by rw [h, Nat.zero_add])
  · rename_i h
    show (Y0 k' (M.1 ++ [(k, v, M.2)]) 0).map (·.2) = _
    rw [gf_app]
    by_cases h2 : k' = k
    · subst h2; rw [h]; simp
    · rw [if_neg h2, if_neg h2, show Zq M k' = (Y0 k' M.1 0).map (·.2) from rfl]
      cases (Y0 k' M.1 0).map (·.2) with
      | none => rfl
      | some v => rfl
end
def Ks (own out : List UN) (s : UN) : List UN := if s ∈ own ∨ s ∈ out then out else out ++ [s]
def JE (own out l : List UN) : List UN := l.foldl (Ks own) out
theorem addN_len (own out : List UN) (s : UN) : (Ks own out s).length ≤ out.length + 1 := by
  unfold Ks; split
  · omega
  · simp
theorem Yh (own out a b : List UN) : JE own out (a ++ b) = JE own (JE own out a) b := by unfold JE; rw [List.foldl_append]
theorem Y4 (own : List UN) : ∀ (l out : List UN), (JE own out l).length ≤ out.length + l.length
  | [], out => Nat.le_refl _
  | s :: l, out => by
    have h1 := addN_len own out s
    have h2 := Y4 own l (Ks own out s)
    show (JE own (Ks own out s) l).length ≤ _
    simp only [List.length_cons]; omega
def Met (own out : List UN) (M : Qj UN Bool) : Prop := ∀ s, Jl M s = decide (s ∈ own ∨ s ∈ out)
theorem gmVal_set {β : Type} [MV β] (M : Qj UN β) (k k' : UN) (v : β) : Jl (Y5 M k v) k' = if k' = k then v else Jl M k' := by
  unfold Jl
  rw [gmGet_set]
  by_cases h : k' = k <;> simp [h]
theorem Met.nil : Met [] [] gmNil := fun s => by simp [Jl, gmGet_nil, MV.z]
theorem Met.set {own out : List UN} {M : Qj UN Bool} (h : Met own out M) (s : UN) (hs : ¬ (s ∈ own ∨ s ∈ out)) : Met own (out ++ [s]) (Y5 M s true) := fun x => by
  rw [gmVal_set, h x]
  by_cases e : x = s
  · subst e; simp
  · simp [e]
theorem add_step {own out : List UN} {M : Qj UN Bool} (h : Met own out M) (s : UN) (hl : out.length < 1000000000) : ∃ M', (cond (!(Jl M s)) (Qt (Nat.ble (out.length + ([s]).length) 1000000000) (some ((Y5 M s true), (out ++ ([s]))))) (some (M, out))) = some (M', Ks own out s) ∧ Met own (Ks own out s) M' := by
  rw [h s]
  unfold Ks
  by_cases e : s ∈ own ∨ s ∈ out
  · refine ⟨M, ?_, ?_⟩
    · rw [decide_eq_true e, if_pos e]; rfl
    · rw [if_pos e]; exact h
  · refine ⟨Y5 M s true, ?_, ?_⟩
    · rw [decide_eq_false e, if_neg e, Jf (by show out.length + 1 ≤ _; omega)]; rfl
    · rw [if_neg e]; exact h.set s e
theorem Z2 {α : Type} (f : α → Nat) {x : α} : ∀ {l : List α}, x ∈ l → f x ≤ (l.map f).sum
  | y :: l, h => by
    rw [List.map_cons, List.sum_cons]
    rcases List.mem_cons.1 h with rfl | h
    · omega
    · have := Z2 f h; omega
def lvz (l : Lvl) : Nat := 1 + (l.vs.map fun _ => 1).sum
def Tm.size : Tm → Nat
  | .mk _ _ n ls ks => 1 + n.length + (ls.map lvz).sum + (ks.attach.map fun k => Tm.size k.1).sum
termination_by t => SizeOf.sizeOf t
decreasing_by
  have := List.sizeOf_lt_of_mem k.2
  simp only [Tm.mk.sizeOf_spec]; omega
theorem Tm.size_eq (t : Tm) : t.size = 1 + t.name.length + (t.levels.map lvz).sum + (t.kids.map Tm.size).sum := by
  cases t
  rw [Tm.size, List.attach_map_val]; rfl
def Tm.cn : Tm → List UN
  | .mk k _ n _ ks => (if k = 3 then [n] else []) ++ (ks.attach.map fun k => Tm.cn k.1).flatten
termination_by t => SizeOf.sizeOf t
decreasing_by
  have := List.sizeOf_lt_of_mem k.2
  simp only [Tm.mk.sizeOf_spec]; omega
theorem Tm.cn_eq (t : Tm) : t.cn = (if t.kind = 3 then [t.name] else []) ++ (t.kids.map Tm.cn).flatten := by
  cases t
  rw [Tm.cn, List.attach_map_val]; rfl
theorem YF {t k : Tm} (h : k ∈ t.kids) : k.size < t.size := by
  have := Z2 Tm.size h
  rw [t.size_eq]; omega
theorem Tm.ind {C : Tm → Prop} (h : ∀ t : Tm, (∀ k ∈ t.kids, C k) → C t) (t : Tm) : C t := by
  have : ∀ n (t : Tm), t.size ≤ n → C t := by
    intro n
    induction n with
    | zero => intro t ht; rw [t.size_eq] at ht; omega
    | succ n ih => exact fun t ht => h t fun k hk => ih k (by have := YF hk; omega)
  exact this _ t (Nat.le_refl _)
theorem Z7 {α : Type} (f : α → List UN) (g : α → Nat) : ∀ l : List α, (∀ x ∈ l, (f x).length ≤ g x) → (l.map f).flatten.length ≤ (l.map g).sum
  | [], _ => Nat.le_refl _
  | x :: l, h => by
    simp only [List.map_cons, List.flatten_cons, List.length_append, List.sum_cons]
    have h1 := h x List.mem_cons_self
    have h2 := Z7 f g l fun y hy => h y (List.mem_cons_of_mem _ hy)
    omega
theorem Tm.cn_len (t : Tm) : t.cn.length ≤ t.size := by
  induction t using Tm.ind with
  | h t ih =>
    rw [t.cn_eq, t.size_eq, List.length_append]
    have := Z7 Tm.cn Tm.size t.kids ih
    have h0 : (if t.kind = 3 then [t.name] else []).length ≤ 1 := by split <;> simp
    omega
theorem Kk (t : Tm) : t.kids.length < t.size := by
  rw [t.size_eq]
  have : ∀ l : List Tm, l.length ≤ (l.map Tm.size).sum := by
    intro l
    induction l with
    | nil => exact Nat.le_refl _
    | cons x l ih =>
      rw [List.map_cons, List.sum_cons, List.length_cons]
      have := x.size_eq
      omega
  have := this t.kids
  omega
theorem Zd {α : Type} (f : α → Nat) (a : List α) (x : α) (b : List α) : ((a ++ x :: b).map f).sum = (a.map f).sum + f x + (b.map f).sum := by simp; omega
theorem visit_ok (root : Tm) : ∀ (n : Nat) (t : Tm) (d : Int) (own out : List UN) (M : Qj UN Bool), t.size ≤ n → Met own out M → out.length + t.size ≤ 900000000 →
    ∃ M', JY Xt n (t, d, M, out, root) = some (true, M', JE own out t.cn) ∧ Met own (JE own out t.cn) M'
  | 0, t, d, own, out, M, h, _, _ => by rw [t.size_eq] at h; omega
  | n + 1, t, d, own, out, M, h, hM, hb => by
    show ∃ M', Xs (JY Xt n) t d M out root = _ ∧ _
    unfold Xs
    have hsz := t.size_eq
    have h1 : ∃ M1, (Option.bind (cond (t.kind == 3) (some (!(Jl M t.name))) (some false)) (fun (v4 : Bool) => cond v4
        (Qt (Nat.ble (out.length + ([t.name]).length) 1000000000) (some ((Y5 M t.name true), (out ++ ([t.name])))))
        (some (M, out)))) = some (M1, JE own out (if t.kind = 3 then [t.name] else [])) ∧ Met own (JE own out (if t.kind = 3 then [t.name] else [])) M1 := by
      by_cases hk : t.kind = 3
      · rw [if_pos hk, hk]
        exact add_step hM t.name (by omega)
      · rw [if_neg hk, show (t.kind == 3) = false from beq_eq_false_iff_ne.2 hk]
        exact ⟨M, rfl, hM⟩
    obtain ⟨M1, e1, hM1⟩ := h1
    rw [e1, Option.bind_some]
    have h2 : ∃ v9 : Int, ∀ f : Int → Option (Bool × Qj UN Bool × List UN), (Option.bind (cond (decide (0 ≤ t.kind)) (some (decide (t.kind < 13))) (some false)) (fun (v8 : Bool) => Option.bind (cond v8
        (Qt (cond (decide (0 ≤ t.kind)) (Nat.blt t.kind.toNat 13) false)
        (Option.bind (Jg ([(-1), (-1), (-1), (-1), (-1), 1, 1, 1, (-1), (-1), (-1), 2, (-1)] : List Int) t.kind) fun (x12 : Int) => some x12))
        (some (-1))) f)) = f v9 := by
      by_cases ha : 0 ≤ t.kind
      · by_cases hb : t.kind < 13
        · obtain ⟨k, hk⟩ := Int.eq_ofNat_of_zero_le ha
          have hk13 : k < 13 := by omega
          obtain ⟨y, hy⟩ : ∃ y, Jg ([(-1), (-1), (-1), (-1), (-1), 1, 1, 1, (-1), (-1), (-1), 2, (-1)] : List Int) t.kind = some y := by
            rw [hk]; exact ⟨_, List.getElem?_eq_getElem (by simpa using hk13)⟩
          refine ⟨y, fun f => ?_⟩
          rw [decide_eq_true ha, decide_eq_true hb, hy]
          simp only [cond_true, Option.bind_some]
          rw [show Nat.blt t.kind.toNat 13 = true from by rw [Nat.blt_eq]; omega]
          rfl
        · refine ⟨-1, fun f => ?_⟩
          rw [decide_eq_true ha, decide_eq_false hb]; rfl
      · refine ⟨-1, fun f => ?_⟩
        rw [decide_eq_false ha]; rfl
    obtain ⟨v9, e2⟩ := h2
    dsimp only
    rw [e2]
    have hlen := Kk t
    have hl1 : (JE own out (if t.kind = 3 then [t.name] else [])).length ≤ out.length + 1 := by
      refine Nat.le_trans (Y4 own _ out) ?_
      split <;> simp
    have := Jb (step := Zn t v9 d (JY Xt n) root) t.kids (fun i (s : Qj UN Bool × List UN) => (i, s.1, s.2))
      (fun a s => Met own s.2 s.1 ∧ s.2 = JE own (JE own out (if t.kind = 3 then [t.name] else [])) (a.map Tm.cn).flatten)
      (fun r => ∃ M', r = .inl (M', JE own out t.cn) ∧ Met own (JE own out t.cn) M') (by omega)
      (fun a x b s hl hs => .inr (by
        obtain ⟨Ms, os⟩ := s
        obtain ⟨hs1, hs2⟩ := hs
        dsimp only at hs1 hs2
        have hx : x ∈ t.kids := by rw [hl]; simp
        have hxs := YF hx
        have hol : os.length ≤ out.length + 1 + (a.map Tm.size).sum := by
          rw [hs2]
          refine Nat.le_trans (Y4 own _ _) ?_
          have := Z7 Tm.cn Tm.size a fun y _ => y.cn_len
          omega
        have htot : (t.kids.map Tm.size).sum = (a.map Tm.size).sum + x.size + (b.map Tm.size).sum := by rw [hl, Zd]
        have hdd : ∃ v13 : Int, ∀ f : Int → Option (LO (Int × (Qj UN Bool) × (List UN)) (((Qj UN Bool) × (List UN)) ⊕ ((Bool × (Qj UN Bool) × (List UN))))), Option.bind (cond ((a.length : Int) == v9) (some (J1 (d + 1))) (some d)) f = f v13 := by
          cases ((a.length : Int) == v9) with
          | true => exact ⟨_, fun f => rfl⟩
          | false => exact ⟨_, fun f => rfl⟩
        obtain ⟨v13, hv13⟩ := hdd
        obtain ⟨M2, e3, hM2⟩ := visit_ok root n x v13 own os Ms (by omega) hs1 (by omega)
        refine ⟨(M2, JE own os x.cn), ?_, hM2, ?_⟩
        · unfold Zn
          dsimp only
          rw [hl, QX, QR]
          simp only [cond_true, Option.bind_some]
          rw [hv13, e3]
          rfl
        · rw [hs2, ← Yh]; simp))
      (fun s hs => ⟨.inl (s.1, s.2), by
        unfold Zn
        dsimp only
        rw [J7]; rfl, s.1, by rw [hs.2, ← Yh, ← t.cn_eq], by rw [t.cn_eq, Yh, ← hs.2]; exact hs.1⟩) (M1, JE own out (if t.kind = 3 then [t.name] else [])) ⟨hM1, rfl⟩
    obtain ⟨r, e4, M', rfl, hM'⟩ := this
    refine ⟨M', ?_, hM'⟩
    rw [e4]; rfl
def Ji (t : Tm) : List UN := JE [] [] t.cn
theorem YS (t : Tm) : (Ji t).length ≤ t.size := by
  have h1 := Y4 [] t.cn []
  have h2 := t.cn_len
  unfold Ji
  simp only [List.length_nil] at h1
  omega
theorem m74_eq (t : Tm) (h : t.size ≤ 900000000) : WI t = some (Ji t) := by
  unfold WI
  obtain ⟨M', e, -⟩ := visit_ok t QH t 0 [] [] gmNil (by unfold QH; omega) Met.nil (by simpa using h)
  unfold m98f0
  simp only [Option.bind_some]
  rw [e]; rfl
theorem beqB (a b : UN) : (a == b) = decide (a = b) := by
  by_cases h : a = b
  · rw [decide_eq_true h]; exact beq_iff_eq.2 h
  · rw [decide_eq_false h, Bool.eq_false_iff]; exact fun h' => h (beq_iff_eq.1 h')
theorem Kx (l : List UN) (s : UN) (h : l.length ≤ 900000000) : Wp l s = some (decide (s ∈ l)) := by
  unfold Wp
  obtain ⟨r, e, h2⟩ := Jb (step := Xa l s) l (fun i (_ : Unit) => i) (fun a _ => s ∉ a) (fun r => (r = .inl () ∧ s ∉ l) ∨ (r = .inr true ∧ s ∈ l)) h
    (fun a x b _ hl hs => by
      unfold Xa
      rw [hl, QX, QR]
      simp only [cond_true, Option.bind_some, beqB]
      by_cases e : x = s
      · subst e
        exact .inl ⟨.inr true, by simp, .inr ⟨rfl, by simp⟩⟩
      · refine .inr ⟨(), by simp [e], ?_⟩
        intro h'
        rcases List.mem_append.1 h' with h' | h'
        · exact hs h'
        · exact e (List.mem_singleton.1 h').symm)
    (fun _ hs => ⟨.inl (), by unfold Xa; rw [J7]; rfl, .inl ⟨rfl, hs⟩⟩) () (by simp)
  rw [e]
  rcases h2 with ⟨rfl, h2⟩ | ⟨rfl, h2⟩
  · simp [h2]
  · simp [h2]
theorem m64_eq (l : List UN) (s : UN) (h : l.length ≤ 900000000) : WW l s = some (decide (s ∈ l)) := Kx l s h
theorem addN_nil (out : List UN) (s : UN) : Ks [] out s = if s ∈ out then out else out ++ [s] := by unfold Ks; simp
theorem rvisit_ok : ∀ (n : Nat) (t : Tm) (out : List UN), t.size ≤ n → out.length + t.size ≤ 900000000 → JY Xx n (out, t) = some (JE [] out t.cn)
  | 0, t, out, h, _ => by rw [t.size_eq] at h; omega
  | n + 1, t, out, h, hb => by
    show Xw (JY Xx n) out t = _
    unfold Xw
    have hsz := t.size_eq
    have h1 : ∀ f : List UN → Option (List UN), Option.bind (cond (t.kind == 3) (Option.bind (Wp out t.name) fun (x3 : Bool) => some (!x3)) (some false)) (fun (v1 : Bool) => Option.bind (cond v1
        (Qt (Nat.ble (out.length + ([t.name]).length) 1000000000) (some (out ++ ([t.name])))) (some out)) f) = f (JE [] out (if t.kind = 3 then [t.name] else [])) := by
      intro f
      by_cases hk : t.kind = 3
      · rw [if_pos hk, hk, Kx _ _ (by omega)]
        show _ = f (Ks [] out t.name)
        rw [addN_nil]
        by_cases hm : t.name ∈ out
        · simp [hm]
        · rw [Jf (by show out.length + 1 ≤ _; omega)]
          simp [hm]
      · rw [if_neg hk, show (t.kind == 3) = false from beq_eq_false_iff_ne.2 hk]; rfl
    rw [h1]
    have hlen := Kk t
    have hl1 : (JE [] out (if t.kind = 3 then [t.name] else [])).length ≤ out.length + 1 := by
      refine Nat.le_trans (Y4 [] _ out) ?_
      split <;> simp
    have hfold : ∀ (a : List Tm) (s : List UN), a.foldl (fun s x => JE [] s x.cn) s = JE [] s (a.map Tm.cn).flatten := by
      intro a
      induction a with
      | nil => intro s; rfl
      | cons x a ih => intro s; simp only [List.foldl_cons, List.map_cons, List.flatten_cons]; rw [ih, Yh]
    rw [YI (step := Zo t (JY Xx n)) t.kids (fun i (s : List UN) => (s, i)) (fun s x => JE [] s x.cn) (JE [] out (if t.kind = 3 then [t.name] else [])) (JE [] out t.cn) (by omega)
      (fun a x b hl => by
        have hx : x ∈ t.kids := by rw [hl]; simp
        have hxs := YF hx
        have htot : (t.kids.map Tm.size).sum = (a.map Tm.size).sum + x.size + (b.map Tm.size).sum := by rw [hl, Zd]
        rw [hfold]
        have hol := Y4 [] (a.map Tm.cn).flatten (JE [] out (if t.kind = 3 then [t.name] else []))
        have := Z7 Tm.cn Tm.size a fun y _ => y.cn_len
        unfold Zo
        dsimp only
        rw [hl, QX, QR]
        simp only [cond_true, Option.bind_some]
        rw [rvisit_ok n x _ (by omega) (by omega)]
        rfl)
      (by unfold Zo; dsimp only; rw [J7, hfold, ← Yh, ← t.cn_eq]; rfl)]
    rfl
theorem ZX (t : Tm) (h : t.size ≤ 900000000) : KF t = some (Ji t) := by
  have := rvisit_ok (t.size + 1) t [] (by omega) (by simpa using h)
  have hsz := t.size_eq
  unfold KF
  have h1 : ∀ f : List UN → Option (List UN), Option.bind (cond (t.kind == 3) (Option.bind (Wp ([] : List UN) t.name) fun (x5 : Bool) => some (!x5)) (some false)) (fun (v3 : Bool) => Option.bind (cond v3
      (Qt (Nat.ble ([t.name]).length 1000000000) (some ([t.name]))) (some ([] : List UN))) f) = f (JE [] [] (if t.kind = 3 then [t.name] else [])) := by
    intro f
    by_cases hk : t.kind = 3
    · rw [if_pos hk, hk, Kx _ _ (by simp), Jf (by simp)]
      simp [JE, Ks]
    · rw [if_neg hk, show (t.kind == 3) = false from beq_eq_false_iff_ne.2 hk]; rfl
  rw [h1]
  have hlen := Kk t
  have hl1 : (JE [] [] (if t.kind = 3 then [t.name] else [])).length ≤ 1 := by
    refine Nat.le_trans (Y4 [] _ []) ?_
    split <;> simp
  have hfold : ∀ (a : List Tm) (s : List UN), a.foldl (fun s x => JE [] s x.cn) s = JE [] s (a.map Tm.cn).flatten := by
    intro a
    induction a with
    | nil => intro s; rfl
    | cons x a ih => intro s; simp only [List.foldl_cons, List.map_cons, List.flatten_cons]; rw [ih, Yh]
  rw [YI (step := Zp t) t.kids (fun i (s : List UN) => (s, i)) (fun s x => JE [] s x.cn) (JE [] [] (if t.kind = 3 then [t.name] else [])) (Ji t) (by omega)
    (fun a x b hl => by
      have hx : x ∈ t.kids := by rw [hl]; simp
      have hxs := YF hx
      have htot : (t.kids.map Tm.size).sum = (a.map Tm.size).sum + x.size + (b.map Tm.size).sum := by rw [hl, Zd]
      rw [hfold]
      have hol := Y4 [] (a.map Tm.cn).flatten (JE [] [] (if t.kind = 3 then [t.name] else []))
      have := Z7 Tm.cn Tm.size a fun y _ => y.cn_len
      unfold Zp
      dsimp only
      rw [hl, QX, QR]
      simp only [cond_true, Option.bind_some]
      unfold m72f9
      rw [rvisit_ok QH x _ (by unfold QH; omega) (by omega)]
      rfl)
    (by unfold Zp; dsimp only; rw [J7, hfold, ← Yh, ← t.cn_eq]; rfl)]
  rfl
end Go.Proofs.Ytijcchddnnnmdaa
namespace Go.Proofs.Ytijcchddnnnmdaa
open Go.RowKit
set_option linter.unusedSimpArgs false
set_option linter.unusedVariables false
set_option linter.unusedSectionVars false
def Tr.size : Tr → Nat
  | .mk _ b _ brs => 1 + b.size + (brs.attach.map fun x => 1 + x.1.ctor.length + Tr.size x.1.tree).sum
termination_by t => SizeOf.sizeOf t
decreasing_by
  have h1 := List.sizeOf_lt_of_mem x.2
  have h2 := BrF.tree_lt x.1
  simp only [Tr.mk.sizeOf_spec]; omega
def Tr.cn : Tr → List UN
  | .mk k b _ brs => if k = 0 then Ji b else (brs.attach.map fun x => x.1.ctor :: (if x.1.absurd then [] else Tr.cn x.1.tree)).flatten
termination_by t => SizeOf.sizeOf t
decreasing_by
  have h1 := List.sizeOf_lt_of_mem x.2
  have h2 := BrF.tree_lt x.1
  simp only [Tr.mk.sizeOf_spec]; omega
def bsz (b : UO) : Nat := 1 + b.ctor.length + b.tree.size
def XZ (b : UO) : List UN := b.ctor :: (if b.absurd then [] else b.tree.cn)
theorem Tr.size_eq (t : Tr) : t.size = 1 + t.body.size + (t.branches.map bsz).sum := by
  cases t with
  | mk k b v brs =>
    rw [Tr.size]
    show _ = 1 + b.size + (brs.map bsz).sum
    rw [← List.attach_map_val (l := brs) (f := bsz)]; rfl
theorem Tr.cn_eq (t : Tr) : t.cn = if t.kind = 0 then Ji t.body else (t.branches.map XZ).flatten := by
  cases t with
  | mk k b v brs =>
    rw [Tr.cn]
    show _ = if k = 0 then Ji b else (brs.map XZ).flatten
    rw [← List.attach_map_val (l := brs) (f := XZ)]; rfl
theorem Zv {t : Tr} {b : UO} (h : b ∈ t.branches) : b.tree.size < t.size := by
  have := Z2 bsz h
  have e : bsz b = 1 + b.ctor.length + b.tree.size := rfl
  rw [t.size_eq]; omega
theorem Tr.ind {C : Tr → Prop} (h : ∀ t : Tr, (∀ b ∈ t.branches, C b.tree) → C t) (t : Tr) : C t := by
  have : ∀ n (t : Tr), t.size ≤ n → C t := by
    intro n
    induction n with
    | zero => intro t ht; rw [t.size_eq] at ht; omega
    | succ n ih => exact fun t ht => h t fun k hk => ih k.tree (by have := Zv hk; omega)
  exact this _ t (Nat.le_refl _)
theorem Tr.cn_len (t : Tr) : t.cn.length ≤ t.size := by
  induction t using Tr.ind with
  | h t ih =>
    rw [t.cn_eq, t.size_eq]
    split
    · have := YS t.body; omega
    · have := Z7 XZ bsz t.branches fun b hb => by
        have := ih b hb
        unfold XZ bsz
        rw [List.length_cons]
        split
        · simp; omega
        · omega
      omega
theorem Zm {α : Type} (g : α → Nat) (hg : ∀ x, 1 ≤ g x) : ∀ l : List α, l.length ≤ (l.map g).sum
  | [] => Nat.le_refl _
  | x :: l => by
    rw [List.map_cons, List.sum_cons, List.length_cons]
    have := hg x
    have := Zm g hg l
    omega
theorem branches_len (t : Tr) : t.branches.length < t.size := by
  have := Zm bsz (fun b => by unfold bsz; omega) t.branches
  rw [t.size_eq]; omega
def csz (c : Ctr) : Nat := 1 + c.name.length + c.ty.size
def fsz (f : Fn) : Nat := 1 + f.name.length + f.ty.size + f.tree.size
def Dcl.size (d : Dcl) : Nat := 1 + d.name.length + d.ty.size + d.value.size + (d.ctors.map csz).sum + d.rcr.ty.size + (d.rcr.rules.map Tm.size).sum + (d.funs.map fsz).sum
theorem Zg (d : Dcl) : d.ctors.length < d.size := by
  have := Zm csz (fun b => by unfold csz; omega) d.ctors
  unfold Dcl.size; omega
theorem Zr (d : Dcl) : d.funs.length < d.size := by
  have := Zm fsz (fun b => by unfold fsz; omega) d.funs
  unfold Dcl.size; omega
theorem rules_len (d : Dcl) : d.rcr.rules.length < d.size := by
  have := Zm Tm.size (fun b => by rw [b.size_eq]; omega) d.rcr.rules
  unfold Dcl.size; omega
def JA (d : Dcl) : List UN :=
  if d.kind = 0 ∨ d.kind = 1 ∨ d.kind = 2 then [d.name] else
  if d.kind = 3 then (d.name :: d.ctors.map (·.name)) ++ [d.name ++ [46, 114, 101, 99]] else
  if d.kind = 4 then d.funs.map (·.name) else []
theorem ZK (d : Dcl) : (JA d).length ≤ d.size + 1 := by
  have h1 := Zg d
  have h2 := Zr d
  unfold JA
  split
  · simp
  · split
    · simp; omega
    · split
      · simp; omega
      · simp
theorem YJ {α : Type} (f : α → UN) : ∀ (l : List α) (s : List UN), l.foldl (fun s x => s ++ [f x]) s = s ++ l.map f
  | [], s => by simp
  | x :: l, s => by rw [List.foldl_cons, YJ f l]; simp
theorem kinds_eq (k : Int) : (cond (k == 0) (some (k == 0)) (cond (k == 1) (some (k == 1)) (some (k == 2)))) = some (decide (k = 0 ∨ k = 1 ∨ k = 2)) := by
  by_cases h0 : k = 0
  · subst h0; rfl
  · by_cases h1 : k = 1
    · subst h1; rfl
    · by_cases h2 : k = 2
      · subst h2; rfl
      · simp [beqI, h0, h1, h2]
theorem m37_eq (d : Dcl) (h : d.size ≤ 900000000) : Wc d = some (JA d) := by
  have h1 := Zg d
  have h2 := Zr d
  have hn : d.name.length < d.size := by unfold Dcl.size; omega
  unfold Wc
  rw [kinds_eq, Option.bind_some]
  unfold JA
  by_cases hk : d.kind = 0 ∨ d.kind = 1 ∨ d.kind = 2
  · rw [if_pos hk, decide_eq_true hk]; rfl
  rw [if_neg hk, decide_eq_false hk]
  by_cases h3 : d.kind = 3
  · rw [if_pos h3, h3, YI (step := Gz d) d.ctors (fun i (s : List UN) => (s, i)) (fun s c => s ++ [c.name]) [d.name] ((d.name :: d.ctors.map (·.name))) (by omega)
      (fun a x b hl => by
        rw [YJ]
        unfold Gz
        dsimp only
        have : a.length < d.ctors.length := YD hl
        rw [hl, QX, QR]
        simp only [cond_true, Option.bind_some]
        rw [Jf (by simp; omega)])
      (by unfold Gz; dsimp only; rw [J7, YJ]; rfl)]
    simp only [cond_false, Option.bind_some, beq_self_eq_true, cond_true]
    rw [Jf (by simp), Jf (by simp; omega), Jf (by simp; omega)]
  rw [if_neg h3, show (d.kind == 3) = false from beq_eq_false_iff_ne.2 h3]
  by_cases h4 : d.kind = 4
  · rw [if_pos h4, h4, YI (step := Gy d) d.funs (fun i (s : List UN) => (s, i)) (fun s c => s ++ [c.name]) [] (d.funs.map (·.name)) (by omega)
      (fun a x b hl => by
        rw [YJ]
        unfold Gy
        dsimp only
        have : a.length < d.funs.length := YD hl
        rw [hl, QX, QR]
        simp only [cond_true, Option.bind_some]
        rw [Jf (by simp; omega)])
      (by unfold Gy; dsimp only; rw [J7, YJ]; rfl)]
    rfl
  rw [if_neg h4, show (d.kind == 4) = false from beq_eq_false_iff_ne.2 h4]; rfl
theorem XE (d : Dcl) (h : d.size ≤ 900000000) : Wi d = some (JA d) := by
  have h1 := Zg d
  have h2 := Zr d
  have hn : d.name.length < d.size := by unfold Dcl.size; omega
  unfold Wi
  rw [kinds_eq, Option.bind_some]
  unfold JA
  by_cases hk : d.kind = 0 ∨ d.kind = 1 ∨ d.kind = 2
  · rw [if_pos hk, decide_eq_true hk]; rfl
  rw [if_neg hk, decide_eq_false hk]
  by_cases h3 : d.kind = 3
  · rw [if_pos h3, h3, YI (step := GD d) d.ctors (fun i (s : List UN) => (s, i)) (fun s c => s ++ [c.name]) [d.name] ((d.name :: d.ctors.map (·.name))) (by omega)
      (fun a x b hl => by
        rw [YJ]
        unfold GD
        dsimp only
        have : a.length < d.ctors.length := YD hl
        rw [hl, QX, QR]
        simp only [cond_true, Option.bind_some]
        rw [Jf (by simp; omega)])
      (by unfold GD; dsimp only; rw [J7, YJ]; rfl)]
    simp only [cond_false, Option.bind_some, beq_self_eq_true, cond_true]
    rw [Jf (by simp; omega), Jf (by simp; omega)]
  rw [if_neg h3, show (d.kind == 3) = false from beq_eq_false_iff_ne.2 h3]
  by_cases h4 : d.kind = 4
  · rw [if_pos h4, h4, YI (step := GC d) d.funs (fun i (s : List UN) => (s, i)) (fun s c => s ++ [c.name]) [] (d.funs.map (·.name)) (by omega)
      (fun a x b hl => by
        rw [YJ]
        unfold GC
        dsimp only
        have : a.length < d.funs.length := YD hl
        rw [hl, QX, QR]
        simp only [cond_true, Option.bind_some]
        rw [Jf (by simp; omega)])
      (by unfold GC; dsimp only; rw [J7, YJ]; rfl)]
    rfl
  rw [if_neg h4, show (d.kind == 4) = false from beq_eq_false_iff_ne.2 h4]; rfl
theorem m52f3_eq (l own out : List UN) (M : Qj UN Bool) (a3 : List Tm) (a4 : Dcl) (hM : Met own out M) (h : out.length + l.length ≤ 900000000) : ∃ M', W4 l M out a3 a4 = some (M', JE own out l) ∧ Met own (JE own out l) M' := by
  unfold W4
  obtain ⟨r, e, M', rfl, hM'⟩ := Jb (step := Kh l a3 a4) l (fun i (s : Qj UN Bool × List UN) => (i, s.1, s.2)) (fun a s => Met own s.2 s.1 ∧ s.2 = JE own out a) (fun r => ∃ M', r = (M', JE own out l) ∧ Met own (JE own out l) M') (by omega)
    (fun a x b s hl hs => .inr (by
      obtain ⟨Ms, os⟩ := s
      obtain ⟨hs1, hs2⟩ := hs
      dsimp only at hs1 hs2
      have hol := Y4 own a out
      rw [← hs2] at hol
      have : a.length < l.length := YD hl
      obtain ⟨M1, e1, hM1⟩ := add_step hs1 x (by omega)
      refine ⟨(M1, Ks own os x), ?_, hM1, ?_⟩
      · unfold Kh
        dsimp only
        rw [hl, QX, QR]
        simp only [cond_true, Option.bind_some]
        unfold m89f4
        rw [e1]; rfl
      · rw [Yh, ← hs2]; rfl))
    (fun s hs => ⟨(s.1, s.2), by unfold Kh; dsimp only; rw [J7]; rfl, s.1, by rw [hs.2], by rw [← hs.2]; exact hs.1⟩) (M, out) ⟨hM, rfl⟩
  rw [e]
  exact ⟨M', rfl, hM'⟩
theorem tvisit_ok (a3 : List Tm) (a4 : Dcl) : ∀ (n : Nat) (t : Tr) (own out : List UN) (M : Qj UN Bool), t.size ≤ n → Met own out M → out.length + t.size ≤ 900000000 →
    ∃ M', JY Xv n (t, M, out, a3, a4) = some (true, M', JE own out t.cn) ∧ Met own (JE own out t.cn) M'
  | 0, t, own, out, M, h, _, _ => by rw [t.size_eq] at h; omega
  | n + 1, t, own, out, M, h, hM, hb => by
    show ∃ M', Xu (JY Xv n) t M out a3 a4 = _ ∧ _
    unfold Xu
    have hsz := t.size_eq
    have hlen := branches_len t
    rw [t.cn_eq]
    by_cases hk : t.kind = 0
    · rw [if_pos hk, hk]
      have := YS t.body
      rw [m74_eq _ (by omega)]
      obtain ⟨M', e, hM'⟩ := m52f3_eq (Ji t.body) own out M a3 a4 hM (by omega)
      refine ⟨M', ?_, hM'⟩
      simp only [Option.bind_some, beq_self_eq_true, cond_true]
      unfold m31f2
      rw [e]; rfl
    · rw [if_neg hk, show (t.kind == 0) = false from beq_eq_false_iff_ne.2 hk, cond_false]
      obtain ⟨r, e, M', rfl, hM'⟩ := Jb (step := ZV t (JY Xv n) a3 a4) t.branches (fun i (s : Qj UN Bool × List UN) => (i, s.1, s.2)) (fun a s => Met own s.2 s.1 ∧ s.2 = JE own out (a.map XZ).flatten)
        (fun r => ∃ M', r = .inl (M', JE own out (t.branches.map XZ).flatten) ∧ Met own (JE own out (t.branches.map XZ).flatten) M') (by omega)
        (fun a x b s hl hs => .inr (by
          obtain ⟨Ms, os⟩ := s
          obtain ⟨hs1, hs2⟩ := hs
          dsimp only at hs1 hs2
          have hx : x ∈ t.branches := by rw [hl]; simp
          have hxs := Zv hx
          have hol : os.length ≤ out.length + (a.map bsz).sum := by
            rw [hs2]
            refine Nat.le_trans (Y4 own _ _) ?_
            have := Z7 XZ bsz a fun y _ => by
              have := y.tree.cn_len
              unfold XZ bsz
              rw [List.length_cons]
              split
              · simp; omega
              · omega
            omega
          have htot : (t.branches.map bsz).sum = (a.map bsz).sum + bsz x + (b.map bsz).sum := by rw [hl, Zd]
          have hbx : bsz x = 1 + x.ctor.length + x.tree.size := rfl
          obtain ⟨M1, e1, hM1⟩ := add_step hs1 x.ctor (by omega)
          have hadd := addN_len own os x.ctor
          cases ha : x.absurd with
          | true =>
            refine ⟨(M1, Ks own os x.ctor), ?_, hM1, ?_⟩
            · unfold ZV
              dsimp only
              rw [hl, QX, QR]
              simp only [cond_true, Option.bind_some]
              rw [e1, ha]; rfl
            · rw [List.map_append, List.flatten_append, Yh, ← hs2]
              simp only [List.map_cons, List.map_nil, List.flatten_cons, List.flatten_nil, List.append_nil, XZ, ha, if_true]; rfl
          | false =>
            obtain ⟨M2, e2, hM2⟩ := tvisit_ok a3 a4 n x.tree own (Ks own os x.ctor) M1 (by omega) hM1 (by omega)
            refine ⟨(M2, JE own (Ks own os x.ctor) x.tree.cn), ?_, hM2, ?_⟩
            · unfold ZV
              dsimp only
              rw [hl, QX, QR]
              simp only [cond_true, Option.bind_some]
              rw [e1, ha]
              simp only [Option.bind_some, Bool.not_false, cond_true]
              rw [e2]; rfl
            · rw [List.map_append, List.flatten_append, Yh, ← hs2]
              simp only [List.map_cons, List.map_nil, List.flatten_cons, List.flatten_nil, List.append_nil, XZ, ha]; rfl))
        (fun s hs => ⟨.inl (s.1, s.2), by unfold ZV; dsimp only; rw [J7]; rfl, s.1, by rw [hs.2], by rw [← hs.2]; exact hs.1⟩) (M, out) ⟨hM, rfl⟩
      rw [e]
      exact ⟨M', rfl, hM'⟩
def Jk (d : Dcl) : List Tm := [d.ty, d.value] ++ d.ctors.map (·.ty) ++ [d.rcr.ty] ++ d.rcr.rules ++ d.funs.map (·.ty)
def Y7 (d : Dcl) : List UN := ((Jk d).map Ji).flatten ++ (d.funs.map fun f => f.tree.cn).flatten
def Kg (d : Dcl) : List UN := JE (JA d) [] (Y7 d)
theorem Gd {α : Type} (f : α → List UN) (g : α → Nat) (h : ∀ x, (f x).length ≤ g x) (l : List α) : (l.map f).flatten.length ≤ (l.map g).sum := Z7 f g l fun x _ => h x
theorem sum_le {α : Type} (f g : α → Nat) (h : ∀ x, f x ≤ g x) : ∀ l : List α, (l.map f).sum ≤ (l.map g).sum
  | [] => Nat.le_refl _
  | x :: l => by
    simp only [List.map_cons, List.sum_cons]
    have := h x
    have := sum_le f g h l
    omega
theorem ZI (d : Dcl) : ((Jk d).map Tm.size).sum + (d.funs.map fun f => f.tree.size).sum < d.size := by
  unfold Jk Dcl.size
  simp only [List.map_append, List.map_cons, List.map_nil, List.sum_append, List.sum_cons, List.sum_nil, List.map_map]
  have h1 := sum_le (Tm.size ∘ fun c : Ctr => c.ty) csz (fun c => by show c.ty.size ≤ csz c; unfold csz; omega) d.ctors
  have h2 : (d.funs.map (Tm.size ∘ fun f : Fn => f.ty)).sum + (d.funs.map fun f => f.tree.size).sum ≤ (d.funs.map fsz).sum := by
    induction d.funs with
    | nil => exact Nat.le_refl _
    | cons f l ih =>
      simp only [List.map_cons, List.sum_cons]
      have : fsz f = 1 + f.name.length + f.ty.size + f.tree.size := rfl
      have : (Tm.size ∘ fun f : Fn => f.ty) f = f.ty.size := rfl
      omega
  omega
theorem terms_len (d : Dcl) : (Jk d).length < d.size := by
  have := ZI d
  have h1 := Zm Tm.size (fun b => by rw [b.size_eq]; omega) (Jk d)
  omega
theorem mentioned_len (d : Dcl) : (Y7 d).length < d.size := by
  unfold Y7
  rw [List.length_append]
  have h1 := Gd Ji Tm.size YS (Jk d)
  have h2 := Gd (fun f : Fn => f.tree.cn) (fun f => f.tree.size) (fun f => f.tree.cn_len) d.funs
  have := ZI d
  omega
theorem uses_len (d : Dcl) : (Kg d).length < d.size := by
  have := Y4 (JA d) (Y7 d) []
  have := mentioned_len d
  unfold Kg
  simp only [List.length_nil] at *
  omega
theorem K3 {α : Type} (f : α → Tm) : ∀ (l : List α) (s : List Tm), l.foldl (fun s x => s ++ [f x]) s = s ++ l.map f
  | [], s => by simp
  | x :: l, s => by rw [List.foldl_cons, K3 f l]; simp
theorem Yp {d : Dcl} {t : Tm} (h : t ∈ Jk d) : t.size < d.size := by
  have := Z2 Tm.size h
  have := ZI d
  omega
theorem fun_mem {d : Dcl} {f : Fn} (h : f ∈ d.funs) : f.tree.size < d.size := by
  have := Z2 (fun f : Fn => f.tree.size) h
  have := ZI d
  omega
theorem terms_eq (d : Dcl) (h : d.size ≤ 900000000) : (Option.bind (Qv (KO d) QH (0, [d.ty, d.value])) (fun (o5 : (List Tm)) => Qt (Nat.ble (o5.length + ([d.rcr.ty]).length) 1000000000)
  (Qt (Nat.ble ((o5 ++ ([d.rcr.ty])).length + d.rcr.rules.length) 1000000000)
  (Option.bind (Qv (Ky d) QH (0, ((o5 ++ ([d.rcr.ty])) ++ d.rcr.rules))) (fun (o8 : (List Tm)) => some o8))))) = some (Jk d) := by
  have h1 := Zg d
  have h2 := Zr d
  have h3 := rules_len d
  have hsum : d.ctors.length + d.rcr.rules.length + d.funs.length + 3 ≤ d.size := by
    have := terms_len d
    unfold Jk at this
    simp at this
    omega
  rw [YI (step := KO d) d.ctors (fun i (s : List Tm) => (i, s)) (fun s c => s ++ [c.ty]) [d.ty, d.value] ([d.ty, d.value] ++ d.ctors.map (·.ty)) (by omega)
    (fun a x b hl => by
      rw [K3]
      unfold KO
      dsimp only
      have : a.length < d.ctors.length := YD hl
      rw [hl, QX, QR]
      simp only [cond_true, Option.bind_some]
      rw [Jf (by simp; omega)])
    (by unfold KO; dsimp only; rw [J7, K3]; rfl)]
  simp only [Option.bind_some]
  rw [Jf (by simp; omega), Jf (by simp; omega)]
  rw [YI (step := Ky d) d.funs (fun i (s : List Tm) => (i, s)) (fun s c => s ++ [c.ty]) _ (Jk d) (by omega)
    (fun a x b hl => by
      rw [K3]
      unfold Ky
      dsimp only
      have : a.length < d.funs.length := YD hl
      rw [hl, QX, QR]
      simp only [cond_true, Option.bind_some]
      rw [Jf (by simp; omega)])
    (by unfold Ky; dsimp only; rw [J7, K3]; rfl)]
  rfl
theorem seen_eq (l : List UN) (h : l.length ≤ 900000000) : ∃ M, Qv (Gp l) QH (0, gmNil) = some M ∧ Met l [] M := by
  refine Jb (step := Gp l) l (fun i (s : Qj UN Bool) => (i, s)) (fun a s => Met a [] s) (fun M => Met l [] M) h
    (fun a x b s hl hs => .inr ⟨Y5 s x true, ?_, fun y => ?_⟩) (fun s hs => ⟨s, by unfold Gp; dsimp only; rw [J7]; rfl, hs⟩) gmNil Met.nil
  · unfold Gp
    dsimp only
    rw [hl, QX, QR]; rfl
  · rw [gmVal_set, hs y]
    by_cases e : y = x
    · subst e; simp
    · simp [e]
theorem m53_l3_eq (l own out : List UN) (M : Qj UN Bool) (hM : Met own out M) (h : out.length + l.length ≤ 900000000) : ∃ M', Qv (Gn l) QH (0, M, out) = some (M', JE own out l) ∧ Met own (JE own out l) M' := by
  obtain ⟨r, e, M', rfl, hM'⟩ := Jb (step := Gn l) l (fun i (s : Qj UN Bool × List UN) => (i, s.1, s.2)) (fun a s => Met own s.2 s.1 ∧ s.2 = JE own out a) (fun r => ∃ M', r = (M', JE own out l) ∧ Met own (JE own out l) M') (by omega)
    (fun a x b s hl hs => .inr (by
      obtain ⟨Ms, os⟩ := s
      obtain ⟨hs1, hs2⟩ := hs
      dsimp only at hs1 hs2
      have hol := Y4 own a out
      rw [← hs2] at hol
      have : a.length < l.length := YD hl
      obtain ⟨M1, e1, hM1⟩ := add_step hs1 x (by omega)
      refine ⟨(M1, Ks own os x), ?_, hM1, ?_⟩
      · unfold Gn
        dsimp only
        rw [hl, QX, QR]
        simp only [cond_true, Option.bind_some]
        rw [e1]; rfl
      · rw [Yh, ← hs2]; rfl))
    (fun s hs => ⟨(s.1, s.2), by unfold Gn; dsimp only; rw [J7]; rfl, s.1, by rw [hs.2], by rw [← hs.2]; exact hs.1⟩) (M, out) ⟨hM, rfl⟩
  exact ⟨M', e, hM'⟩
theorem m53_eq (d : Dcl) (h : d.size ≤ 400000000) : Wh d = some (Kg d) := by
  have hn := ZK d
  have hts := ZI d
  have htl := terms_len d
  have hfl := Zr d
  unfold Wh
  rw [m37_eq d (by omega), Option.bind_some]
  obtain ⟨M0, e0, hM0⟩ := seen_eq (JA d) (by omega)
  rw [e0, Option.bind_some, terms_eq d (by omega), Option.bind_some]
  obtain ⟨r, e1, M1, rfl, hM1⟩ := Jb (step := Gm (Jk d)) (Jk d) (fun i (s : Qj UN Bool × List UN) => (i, s.1, s.2)) (fun a s => Met (JA d) s.2 s.1 ∧ s.2 = JE (JA d) [] (a.map Ji).flatten)
    (fun r => ∃ M', r = (M', JE (JA d) [] ((Jk d).map Ji).flatten) ∧ Met (JA d) (JE (JA d) [] ((Jk d).map Ji).flatten) M') (by omega)
    (fun a x b s hl hs => .inr (by
      obtain ⟨Ms, os⟩ := s
      obtain ⟨hs1, hs2⟩ := hs
      dsimp only at hs1 hs2
      have hx : x ∈ Jk d := by rw [hl]; simp
      have hxs := Yp hx
      have htot : ((Jk d).map Tm.size).sum = (a.map Tm.size).sum + x.size + (b.map Tm.size).sum := by rw [hl, Zd]
      have hol : os.length ≤ (a.map Tm.size).sum := by
        rw [hs2]
        refine Nat.le_trans (Y4 _ _ _) ?_
        have := Gd Ji Tm.size YS a
        simp only [List.length_nil]; omega
      have hcl := YS x
      obtain ⟨M2, e2, hM2⟩ := m53_l3_eq (Ji x) (JA d) os Ms hs1 (by omega)
      refine ⟨(M2, JE (JA d) os (Ji x)), ?_, hM2, ?_⟩
      · unfold Gm
        dsimp only
        rw [hl, QX, QR]
        simp only [cond_true, Option.bind_some]
        rw [m74_eq x (by omega), Option.bind_some, e2]; rfl
      · rw [hs2, ← Yh]; simp))
    (fun s hs => ⟨(s.1, s.2), by unfold Gm; dsimp only; rw [J7]; rfl, s.1, by rw [hs.2], by rw [← hs.2]; exact hs.1⟩) (M0, []) ⟨hM0, rfl⟩
  rw [e1, Option.bind_some]
  have hl1 : (JE (JA d) [] ((Jk d).map Ji).flatten).length ≤ ((Jk d).map Tm.size).sum := by
    refine Nat.le_trans (Y4 _ _ _) ?_
    have := Gd Ji Tm.size YS (Jk d)
    simp only [List.length_nil]; omega
  obtain ⟨r, e3, M3, rfl, hM3⟩ := Jb (step := KN d (Jk d)) d.funs (fun i (s : Qj UN Bool × List UN) => (i, s.1, s.2)) (fun a s => Met (JA d) s.2 s.1 ∧ s.2 = JE (JA d) (JE (JA d) [] ((Jk d).map Ji).flatten) (a.map fun f => f.tree.cn).flatten)
    (fun r => ∃ M', r = .inl (M', Kg d)) (by omega)
    (fun a x b s hl hs => .inr (by
      obtain ⟨Ms, os⟩ := s
      obtain ⟨hs1, hs2⟩ := hs
      dsimp only at hs1 hs2
      have hx : x ∈ d.funs := by rw [hl]; simp
      have hxs := fun_mem hx
      have htot : (d.funs.map fun f => f.tree.size).sum = (a.map fun f => f.tree.size).sum + x.tree.size + (b.map fun f => f.tree.size).sum := by rw [hl, Zd]
      have hol : os.length ≤ ((Jk d).map Tm.size).sum + (a.map fun f => f.tree.size).sum := by
        rw [hs2]
        refine Nat.le_trans (Y4 _ _ _) ?_
        have := Gd (fun f : Fn => f.tree.cn) (fun f => f.tree.size) (fun f => f.tree.cn_len) a
        omega
      obtain ⟨M2, e2, hM2⟩ := tvisit_ok (Jk d) d QH x.tree (JA d) os Ms (by unfold QH; omega) hs1 (by omega)
      refine ⟨(M2, JE (JA d) os x.tree.cn), ?_, hM2, ?_⟩
      · unfold KN
        dsimp only
        rw [hl, QX, QR]
        simp only [cond_true, Option.bind_some]
        unfold m75f1
        rw [e2]; rfl
      · rw [hs2, ← Yh]; simp))
    (fun s hs => ⟨.inl (s.1, s.2), by unfold KN; dsimp only; rw [J7]; rfl, s.1, by
      obtain ⟨s1, s2⟩ := s
      have := hs.2
      dsimp only at this ⊢
      unfold Kg Y7
      rw [Yh, ← this]⟩) (M1, JE (JA d) [] ((Jk d).map Ji).flatten) ⟨hM1, rfl⟩
  rw [e3]; rfl
theorem rtree_ok : ∀ (n : Nat) (t : Tr) (out : List UN), t.size ≤ n → out.length + t.size ≤ 900000000 → JY GP n (t, out) = some (out ++ t.cn)
  | 0, t, out, h, _ => by rw [t.size_eq] at h; omega
  | n + 1, t, out, h, hb => by
    show GO (JY GP n) t out = _
    unfold GO
    have hsz := t.size_eq
    have hlen := branches_len t
    rw [t.cn_eq]
    by_cases hk : t.kind = 0
    · rw [if_pos hk, hk]
      have := YS t.body
      rw [ZX _ (by omega)]
      simp only [Option.bind_some, beq_self_eq_true, cond_true]
      rw [Jf (by omega)]
    · rw [if_neg hk, show (t.kind == 0) = false from beq_eq_false_iff_ne.2 hk, cond_false]
      obtain ⟨r, e, rfl⟩ := Jb (step := ZM t (JY GP n)) t.branches (fun i (s : List UN) => (s, i)) (fun a s => s = out ++ (a.map XZ).flatten)
        (fun r => r = out ++ (t.branches.map XZ).flatten) (by omega)
        (fun a x b s hl hs => .inr (by
          have hx : x ∈ t.branches := by rw [hl]; simp
          have hxs := Zv hx
          have hol : s.length ≤ out.length + (a.map bsz).sum := by
            rw [hs, List.length_append]
            have := Z7 XZ bsz a fun y _ => by
              have := y.tree.cn_len
              unfold XZ bsz
              rw [List.length_cons]
              split
              · simp; omega
              · omega
            omega
          have htot : (t.branches.map bsz).sum = (a.map bsz).sum + bsz x + (b.map bsz).sum := by rw [hl, Zd]
          have hbx : bsz x = 1 + x.ctor.length + x.tree.size := rfl
          refine ⟨s ++ XZ x, ?_, by rw [hs]; simp⟩
          unfold ZM
          dsimp only
          rw [hl, QX, QR]
          simp only [cond_true, Option.bind_some]
          rw [Jf (by show s.length + 1 ≤ _; omega)]
          cases ha : x.absurd with
          | true => simp [XZ, ha]
          | false =>
            simp only [Bool.not_false, cond_true]
            rw [rtree_ok n x.tree _ (by omega) (by simp; omega)]
            simp [XZ, ha]))
        (fun s hs => ⟨s, by unfold ZM; dsimp only; rw [J7]; rfl, hs⟩) out (by simp)
      rw [e]; rfl
theorem acc_loop {α : Type} {step : List UN × Int → Option (LO (List UN × Int) (List UN))} (l : List α) (f : α → List UN) (s0 : List UN) (hlen : l.length ≤ 900000000)
    (hin : ∀ a x b, l = a ++ x :: b → step (s0 ++ (a.map f).flatten, (a.length : Int)) = some (.next ((s0 ++ (a.map f).flatten) ++ f x, J1 ((a.length : Int) + 1))))
    (hout : ∀ s, step (s, (l.length : Int)) = some (.done s)) : Qv step QH (s0, 0) = some (s0 ++ (l.map f).flatten) := by
  obtain ⟨r, e, rfl⟩ := Jb (step := step) l (fun i (s : List UN) => (s, i)) (fun a s => s = s0 ++ (a.map f).flatten) (fun r => r = s0 ++ (l.map f).flatten) hlen
    (fun a x b s hl hs => .inr ⟨s ++ f x, by rw [hs]; exact hin a x b hl, by rw [hs]; simp⟩) (fun s hs => ⟨s, hout s, hs⟩) s0 (by simp)
  exact e
theorem m47_eq (d : Dcl) (h : d.size ≤ 400000000) : WK d = some (Kg d) := by
  have hn := ZK d
  have hts := ZI d
  have htl := terms_len d
  have hfl := Zr d
  have hcl := Zg d
  have hrl := rules_len d
  have hml := mentioned_len d
  have hm1 := Yp (d := d) (t := d.ty) (by unfold Jk; simp)
  have hm2 := Yp (d := d) (t := d.value) (by unfold Jk; simp)
  have hm3 := Yp (d := d) (t := d.rcr.ty) (by unfold Jk; simp)
  have hml' : (Ji d.ty).length + (Ji d.value).length + ((d.ctors.map fun c => Ji c.ty).flatten).length + (Ji d.rcr.ty).length + ((d.rcr.rules.map Ji).flatten).length + ((d.funs.map fun f => Ji f.ty).flatten).length + ((d.funs.map fun f => f.tree.cn).flatten).length = (Y7 d).length := by
    unfold Y7 Jk
    simp only [List.map_append, List.map_cons, List.map_nil, List.flatten_append, List.flatten_cons, List.flatten_nil, List.append_nil, List.length_append, List.map_map, Function.comp_def]
  unfold WK
  rw [ZX _ (by omega), Option.bind_some, ZX _ (by omega), Option.bind_some, Jf (by omega)]
  rw [acc_loop (step := Xe d) d.ctors (fun c => Ji c.ty) _ (by omega) (fun a x b hl => by
      have hx := Yp (d := d) (t := x.ty) (by unfold Jk; rw [hl]; simp)
      have : (d.ctors.map fun c => Ji c.ty).flatten.length = (a.map fun c => Ji c.ty).flatten.length + (Ji x.ty).length + (b.map fun c => Ji c.ty).flatten.length := by rw [hl]; simp; omega
      unfold Xe
      dsimp only
      rw [hl, QX, QR]
      simp only [cond_true, Option.bind_some]
      rw [ZX _ (by omega), Option.bind_some, Jf (by simp only [List.length_append]; omega)]) (fun s => by unfold Xe; dsimp only; rw [J7]; rfl), Option.bind_some]
  rw [ZX _ (by omega), Option.bind_some, Jf (by simp only [List.length_append]; omega)]
  rw [acc_loop (step := Gu d) d.rcr.rules Ji _ (by omega) (fun a x b hl => by
      have hx := Yp (d := d) (t := x) (by unfold Jk; rw [hl]; simp)
      have : (d.rcr.rules.map Ji).flatten.length = (a.map Ji).flatten.length + (Ji x).length + (b.map Ji).flatten.length := by rw [hl]; simp; omega
      unfold Gu
      dsimp only
      rw [hl, QX, QR]
      simp only [cond_true, Option.bind_some]
      rw [ZX _ (by omega), Option.bind_some, Jf (by simp only [List.length_append]; omega)]) (fun s => by unfold Gu; dsimp only; rw [J7]; rfl), Option.bind_some]
  rw [acc_loop (step := KP d) d.funs (fun f => Ji f.ty) _ (by omega) (fun a x b hl => by
      have hx := Yp (d := d) (t := x.ty) (by unfold Jk; rw [hl]; simp)
      have : (d.funs.map fun c => Ji c.ty).flatten.length = (a.map fun c => Ji c.ty).flatten.length + (Ji x.ty).length + (b.map fun c => Ji c.ty).flatten.length := by rw [hl]; simp; omega
      unfold KP
      dsimp only
      rw [hl, QX, QR]
      simp only [cond_true, Option.bind_some]
      rw [ZX _ (by omega), Option.bind_some, Jf (by simp only [List.length_append]; omega)]) (fun s => by unfold KP; dsimp only; rw [J7]; rfl), Option.bind_some]
  rw [acc_loop (step := Kz d) d.funs (fun f => f.tree.cn) _ (by omega) (fun a x b hl => by
      have hx := fun_mem (d := d) (f := x) (by rw [hl]; simp)
      have h0 := congrArg (fun l : List Fn => (l.map fun f => Ji f.ty).flatten.length) hl
      have h1 : (d.funs.map fun f => f.tree.cn).flatten.length = (a.map fun f => f.tree.cn).flatten.length + x.tree.cn.length + (b.map fun f => f.tree.cn).flatten.length := by rw [hl]; simp; omega
      unfold Kz
      dsimp only
      rw [hl, QX, QR]
      simp only [cond_true, Option.bind_some]
      unfold m63f10
      rw [rtree_ok QH x.tree _ (by unfold QH; omega) (by simp only [List.length_append]; omega)]; rfl) (fun s => by unfold Kz; dsimp only; rw [J7]; rfl), Option.bind_some]
  rw [XE d (by omega), Option.bind_some]
  have e : ((((((Ji d.ty ++ Ji d.value) ++ (d.ctors.map fun c => Ji c.ty).flatten) ++ Ji d.rcr.ty) ++ (d.rcr.rules.map Ji).flatten) ++ (d.funs.map fun f => Ji f.ty).flatten) ++ (d.funs.map fun f => f.tree.cn).flatten) = Y7 d := by
    unfold Y7 Jk
    simp only [List.map_append, List.map_cons, List.map_nil, List.flatten_append, List.flatten_cons, List.flatten_nil, List.append_nil, List.map_map, Function.comp_def, List.append_assoc]
  rw [e]
  rw [YI (step := K0 (Y7 d) (JA d)) (Y7 d) (fun i (s : List UN) => (s, i)) (Ks (JA d)) [] (Kg d) (by omega)
    (fun a x b hl => by
      have hol := Y4 (JA d) a []
      have hal : a.length < (Y7 d).length := YD hl
      change (JE (JA d) [] a).length ≤ _ at hol
      simp only [List.length_nil] at hol
      show K0 (Y7 d) (JA d) (JE (JA d) [] a, (a.length : Int)) = _
      unfold K0
      dsimp only
      rw [hl, QX, QR]
      simp only [cond_true, Option.bind_some]
      rw [m64_eq _ _ (by omega), m64_eq _ _ (by omega)]
      show _ = some (LO.next (Ks (JA d) (JE (JA d) [] a) x, _))
      unfold Ks
      by_cases h1 : x ∈ JA d
      · simp [h1]
      · by_cases h2 : x ∈ JE (JA d) [] a
        · simp [h1, h2]
        · rw [Jf (by show _ + 1 ≤ _; omega)]
          simp [h1, h2])
    (by unfold K0; dsimp only; rw [J7]; rfl)]
  rfl
end Go.Proofs.Ytijcchddnnnmdaa
namespace Go.Proofs.Ytijcchddnnnmdaa
open Go.RowKit Go.Shelf
set_option linter.unusedSimpArgs false
set_option linter.unusedVariables false
theorem JP : J5 Try.prog 72 0 = some 0 := by kernel_rfl
theorem Y9 : J5 Try.prog 72 1 = some 1 := by kernel_rfl
theorem Yr : Jp Try.prog 57 = some (false, 1) := by kernel_rfl
theorem Zc : Jp Try.prog 70 = some (false, 1) := by kernel_rfl
theorem Jq : Jp Try.prog 72 = some (true, 2) := by kernel_rfl
theorem Jm : J6 Try.prog 22 = some (48, 23) := by kernel_rfl
theorem JM : J6 Try.prog 54 = some (3, 1) := by kernel_rfl
theorem Y1 : J6 Try.prog 57 = some (54, 1) := by kernel_rfl
theorem Wg : Js Try.prog 3 = some [.int .i64 0] := by kernel_rfl
theorem KJ : Js Try.prog 48 = some [.int .i64 0, .string ByteArray.empty, .int .i64 0, .int .i64 0, .int .i64 0, .string ByteArray.empty, .slice none 0 0, .slice none 0 0, .int .i64 0, .int .i64 0, .string ByteArray.empty, .slice none 0 0, .slice none 0 0, .int .i64 0, .slice none 0 0, .int .i64 0, .int .i64 0, .int .i64 0, .string ByteArray.empty, .slice none 0 0, .slice none 0 0, .slice none 0 0, .slice none 0 0] := by kernel_rfl
theorem Wa : Js Try.prog 54 = some [.slice none 0 0] := by kernel_rfl
theorem Zw : Js Try.prog 72 = some [.slice none 0 0, .map none] := by kernel_rfl
theorem K5 : Yt Try.prog 72 [(0, 1), (1, 1)] [.slice none 0 0, .map none] := ⟨by kernel_rfl, by kernel_rfl⟩
theorem XY : Yj Try.prog 3 = some (1, 8) := by kernel_rfl
theorem XM : Yj Try.prog 54 = some (1, 24) := by kernel_rfl
theorem Zb : Ge Try.prog 70 = some (false, .one (.d (.v (.int .i64 0)))) := by kernel_rfl
theorem en_23 : J2 Try.prog 23 := enters_of Try.func23 (by kernel_rfl) rfl
theorem W5 : J2 Try.prog 34 := enters_of Try.func34 (by kernel_rfl) rfl
def Xh (x9 : (List UN)) (s2 : Int × (Qj UN Int)) (s3 : Int × (Qj UN Int)) : Option (LO (Int × (Qj UN Int)) (((Qj UN Int)) ⊕ (((List (List Int)) × (Qj UN Int)) ⊕ Unit ⊕ Unit))) :=
 cond (decide (s3.1 < (x9.length : Int)))
   (Option.bind (Jg x9 s3.1) fun (x12 : UN) =>
 cond (Jz s3.2 x12)
   (some (.done (.inr (.inr (.inl ())))))
   (some (.next ((J1 (s3.1 + 1)), (Y5 s3.2 x12 s2.1)))))
   (some (.done (.inl s3.2)))
def KX (a0 : List Dcl) (s2 : Int × (Qj UN Int)) : Option (LO (Int × (Qj UN Int)) (((Qj UN Int)) ⊕ (((List (List Int)) × (Qj UN Int)) ⊕ Unit ⊕ Unit))) :=
 cond (decide (s2.1 < (a0.length : Int)))
   (Option.bind (Jg a0 s2.1) fun (x8 : Dcl) =>
 Option.bind (Wc x8) fun (x9 : (List UN)) =>
 Option.bind (Qv (Xh x9 s2) QH (0, s2.2)) (Sum.elim (fun (o10 : (Qj UN Int)) => some (.next ((J1 (s2.1 + 1)), o10))) (fun o => some (.done (.inr o)))))
   (some (.done (.inl s2.2)))
def Xg (x10 : (List UN)) (o6 : (Qj UN Int)) (s3 : (List Int) × Int) : Option (LO ((List Int) × Int) (((List Int)) ⊕ (((List (List Int)) × (Qj UN Int)) ⊕ Unit ⊕ Unit))) :=
 cond (decide (s3.2 < (x10.length : Int)))
   (Option.bind (Jg x10 s3.2) fun (x13 : UN) =>
 cond (!(Jz o6 x13))
   (some (.done (.inr (.inr (.inr ())))))
   (Qt (Nat.ble (s3.1.length + ([(Jl o6 x13)]).length) 1000000000)
 (some (.next ((s3.1 ++ ([(Jl o6 x13)])), (J1 (s3.2 + 1)))))))
   (some (.done (.inl s3.1)))
def KW (a0 : List Dcl) (o6 : (Qj UN Int)) (s2 : Int × (List (List Int))) : Option (LO (Int × (List (List Int))) (((List (List Int))) ⊕ (((List (List Int)) × (Qj UN Int)) ⊕ Unit ⊕ Unit))) :=
 cond (decide (s2.1 < (a0.length : Int)))
   (Option.bind (Jg a0 s2.1) fun (x9 : Dcl) =>
 Option.bind (Wh x9) fun (x10 : (List UN)) =>
 Option.bind (Qv (Xg x10 o6) QH (([] : List Int), 0)) (Sum.elim (fun (o11 : (List Int)) => Option.bind (ZA o11) fun (x12 : List Int) =>
 Option.bind (Y2 x12 ((Enc.encL o11).length)) fun (x13 : List Int) =>
 Qt (Nat.ble (s2.2.length + ([x13]).length) 1000000000)
 (some (.next ((J1 (s2.1 + 1)), (s2.2 ++ ([x13])))))) (fun o => some (.done (.inr o)))))
   (some (.done (.inl s2.2)))
def m23 (a0 : List Dcl) : Option ((List (List Int)) × Int) :=
 Option.bind (Option.bind (Qv (KX a0) QH (0, gmNil)) (Sum.elim (fun (o6 : (Qj UN Int)) => Option.bind (Qv (KW a0 o6) QH (0, ([] : List (List Int)))) (Sum.elim (fun (o7 : (List (List Int))) => some (.inl (o7, o6))) (fun o => some o))) (fun o => some o))) (Sum.elim (fun (y1 : (List (List Int)) × (Qj UN Int)) => some (y1.1, 0)) (Sum.elim (fun (y2 : Unit) => some (([] : List (List Int)), 8)) (fun (y3 : Unit) => some (([] : List (List Int)), 9))))
end Go.Proofs.Ytijcchddnnnmdaa
