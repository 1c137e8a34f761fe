/- Part 3 of the proof: rules, mirrors and plain laws. The statement DependSortsUpto is proved here: for every list of declarations the law returns true, and the list reads behind the call as it did before; condition: the list is of bulk at most 1048576 (the second form). -/
import Derived.Test.YtijcchddnnnmdaaK72
namespace Go.Proofs.Ytijcchddnnnmdaa
open Go.RowKit Go.Shelf
set_option linter.unusedSimpArgs false
set_option linter.unusedVariables false
theorem fo_42_0 : fieldOff Try.prog 42 0 = some 0 := by kernel_rfl
theorem fo_42_2 : fieldOff Try.prog 42 2 = some 2 := by kernel_rfl
theorem fo_42_4 : fieldOff Try.prog 42 4 = some 4 := by kernel_rfl
theorem fo_152_4 : fieldOff Try.prog 152 4 = some 4 := by kernel_rfl
theorem ag_3 : tyAgg Try.prog 3 = some (false, 1) := by kernel_rfl
theorem ag_9 : tyAgg Try.prog 9 = some (false, 1) := by kernel_rfl
theorem ag_23 : tyAgg Try.prog 23 = some (false, 1) := by kernel_rfl
theorem ag_40 : tyAgg Try.prog 40 = some (false, 1) := by kernel_rfl
theorem ag_42 : tyAgg Try.prog 42 = some (true, 5) := by kernel_rfl
theorem ag_116 : tyAgg Try.prog 116 = some (false, 1) := by kernel_rfl
theorem ag_150 : tyAgg Try.prog 150 = some (false, 1) := by kernel_rfl
theorem ag_153 : tyAgg Try.prog 153 = some (true, 65) := by kernel_rfl
theorem ag_155 : tyAgg Try.prog 155 = some (false, 1) := by kernel_rfl
theorem sl_23 : tySlice Try.prog 23 = some (9, 1) := by kernel_rfl
theorem sl_40 : tySlice Try.prog 40 = some (42, 5) := by kernel_rfl
theorem z_9 : tyZero Try.prog 9 = some [.string ByteArray.empty] := by kernel_rfl
theorem z_23 : tyZero Try.prog 23 = some [.slice none 0 0] := by kernel_rfl
theorem z_42 : tyZero Try.prog 42 = some [.int .i64 0, .int .i64 0, .string ByteArray.empty, .slice none 0 0, .slice none 0 0] := by kernel_rfl
theorem z_116 : tyZero Try.prog 116 = some [.map none] := by kernel_rfl
theorem z_153 : tyZero Try.prog 153 = some [.bool false, .bool false, .int .i64 0, .int .i64 0, .int .i64 0, .bool false, .bool false, .int .i64 0, .int .i64 0, .int .i64 0, .bool false, .bool false, .int .i64 0, .int .i64 0, .int .i64 0, .bool false, .bool false, .int .i64 0, .int .i64 0, .int .i64 0, .bool false, .bool false, .int .i64 0, .int .i64 0, .int .i64 0, .bool false, .bool false, .int .i64 0, .int .i64 0, .int .i64 0, .bool false, .bool false, .int .i64 0, .int .i64 0, .int .i64 0, .bool false, .bool false, .int .i64 0, .int .i64 0, .int .i64 0, .bool false, .bool false, .int .i64 0, .int .i64 0, .int .i64 0, .bool false, .bool false, .int .i64 0, .int .i64 0, .int .i64 0, .bool false, .bool false, .int .i64 0, .int .i64 0, .int .i64 0, .bool false, .bool false, .int .i64 0, .int .i64 0, .int .i64 0, .bool false, .bool false, .int .i64 0, .int .i64 0, .int .i64 0] := by kernel_rfl
theorem z_155 : tyZero Try.prog 155 = some [.nilFunc] := by kernel_rfl
theorem bd_152 : IsStruct Try.prog 152 [(0, 1), (1, 1), (2, 1), (3, 1), (4, 1)] [.bool false, .bool false, .int .i64 0, .int .i64 0, .int .i64 0] := ⟨by kernel_rfl, by kernel_rfl⟩
theorem bd_153 : IsStruct Try.prog 153 [(0, 5), (5, 5), (10, 5), (15, 5), (20, 5), (25, 5), (30, 5), (35, 5), (40, 5), (45, 5), (50, 5), (55, 5), (60, 5)] [.bool false, .bool false, .int .i64 0, .int .i64 0, .int .i64 0, .bool false, .bool false, .int .i64 0, .int .i64 0, .int .i64 0, .bool false, .bool false, .int .i64 0, .int .i64 0, .int .i64 0, .bool false, .bool false, .int .i64 0, .int .i64 0, .int .i64 0, .bool false, .bool false, .int .i64 0, .int .i64 0, .int .i64 0, .bool false, .bool false, .int .i64 0, .int .i64 0, .int .i64 0, .bool false, .bool false, .int .i64 0, .int .i64 0, .int .i64 0, .bool false, .bool false, .int .i64 0, .int .i64 0, .int .i64 0, .bool false, .bool false, .int .i64 0, .int .i64 0, .int .i64 0, .bool false, .bool false, .int .i64 0, .int .i64 0, .int .i64 0, .bool false, .bool false, .int .i64 0, .int .i64 0, .int .i64 0, .bool false, .bool false, .int .i64 0, .int .i64 0, .int .i64 0, .bool false, .bool false, .int .i64 0, .int .i64 0, .int .i64 0] := ⟨by kernel_rfl, by kernel_rfl⟩
theorem el_9 : tyElem Try.prog 9 = some (1, 16) := by kernel_rfl
theorem arr_153 : tyArr Try.prog 153 = some (13, 5) := by kernel_rfl
theorem mp_116 : tyMap Try.prog 116 = some (false, .one (.d (.v (.bool false)))) := by kernel_rfl
theorem en_74 : Enters Try.prog 74 := enters_of Try.func74 (by kernel_rfl) rfl
theorem en_88 : Enters Try.prog 88 := enters_of Try.func88 (by kernel_rfl) rfl
theorem en_96 : Enters Try.prog 96 := enters_of Try.func96 (by kernel_rfl) rfl
theorem en_97 : Enters Try.prog 97 := enters_of Try.func97 (by kernel_rfl) rfl
theorem en_98 : Enters Try.prog 98 := enters_of Try.func98 (by kernel_rfl) rfl
noncomputable def m74_c0 : Code := (cA (cA (cB (cA (cB (cB (cB (bodyC Try.f74))))))))
noncomputable def m74_c1 : Code := (cB (cA (cB (cA (cB (cB (cB (bodyC Try.f74))))))))
def m98f0_l0 (a0 : Tm) (v9 : Int) (a1 : Int) (rc : Tm × Int × (GMap Bs Bool) × (List Bs) × Tm → Option (Bool × (GMap Bs Bool) × (List Bs))) (a4 : Tm) (s1 : Int × (GMap Bs Bool) × (List Bs)) : Option (LO (Int × (GMap Bs Bool) × (List Bs)) (((GMap Bs Bool) × (List Bs)) ⊕ ((Bool × (GMap Bs Bool) × (List Bs))))) :=
  cond (decide (s1.1 < (a0.kids.length : Int)))
    (Option.bind (idx a0.kids s1.1) fun (x12 : Tm) =>
  Option.bind (cond (s1.1 == v9)
    (some (w64 (a1 + 1)))
    (some a1)) (fun (v13 : Int) => Option.bind (rc (x12, v13, s1.2.1, s1.2.2, a4)) fun (x14 : Bool × (GMap Bs Bool) × (List Bs)) =>
  cond (!x14.1)
    (some (.done (.inr (false, x14.2.1, x14.2.2))))
    (some (.next ((w64 (s1.1 + 1)), x14.2.1, x14.2.2)))))
    (some (.done (.inl (s1.2.1, s1.2.2))))
def m98f0s (rc : Tm × Int × (GMap Bs Bool) × (List Bs) × Tm → Option (Bool × (GMap Bs Bool) × (List Bs))) (a0 : Tm) (a1 : Int) (a2 : GMap Bs Bool) (a3 : List Bs) (a4 : Tm) : Option (Bool × (GMap Bs Bool) × (List Bs)) :=
  Option.bind (Option.bind (cond (a0.kind == 3)
    (some (!(gmVal a2 a0.name)))
    (some false)) (fun (v4 : Bool) => cond v4
    (guardO (Nat.ble (a3.length + ([a0.name]).length) 1000000000)
  (some ((gmSet a2 a0.name true), (a3 ++ ([a0.name])))))
    (some (a2, a3)))) (fun (y1 : (GMap Bs Bool) × (List Bs)) => Option.bind (cond (decide (0 ≤ a0.kind))
    (some (decide (a0.kind < 13)))
    (some false)) (fun (v8 : Bool) => Option.bind (cond v8
    (guardO (cond (decide (0 ≤ a0.kind)) (Nat.blt a0.kind.toNat 13) false)
  (Option.bind (idx ([(-1), (-1), (-1), (-1), (-1), 1, 1, 1, (-1), (-1), (-1), 2, (-1)] : List Int) a0.kind) fun (x12 : Int) =>
  some x12))
    (some (-1))) (fun (v9 : Int) => Option.bind (loopN (m98f0_l0 a0 v9 a1 rc a4) FUEL (0, y1.1, y1.2)) (Sum.elim (fun (o10 : (GMap Bs Bool) × (List Bs)) => some (true, o10.1, o10.2)) (fun o => some o)))))
def m98f0F (rc : Tm × Int × (GMap Bs Bool) × (List Bs) × Tm → Option (Bool × (GMap Bs Bool) × (List Bs))) (u : Tm × Int × (GMap Bs Bool) × (List Bs) × Tm) : Option (Bool × (GMap Bs Bool) × (List Bs)) := m98f0s rc u.1 u.2.1 u.2.2.1 u.2.2.2.1 u.2.2.2.2
def m98f0 (a0 : Tm) (a1 : Int) (a2 : GMap Bs Bool) (a3 : List Bs) (a4 : Tm) : Option (Bool × (GMap Bs Bool) × (List Bs)) := recO m98f0F FUEL (a0, a1, a2, a3, a4)
set_option maxRecDepth 100000 in
set_option maxHeartbeats 8000000 in
theorem m98f0s_ok (rc : Tm × Int × (GMap Bs Bool) × (List Bs) × Tm → Option (Bool × (GMap Bs Bool) × (List Bs))) (H : ∀ (a0 : Tm) (a1 : Int) (a2 : GMap Bs Bool) (a3 : List Bs) (a4 : Tm) (r : Bool × (GMap Bs Bool) × (List Bs)), rc (a0, a1, a2, a3, a4) = some r → CallM Try.prog 98 [.agg (cE a0), .one (dI a1), .one (.ptr 0 0), .one (.ptr 8 0), .one (.ptr 9 0)] ⟨[(0, .cells 150 [.yld 1]), (1, .loop .ready none [(3, .v (.one (.ptr 3 0))), (4, .v (.one (.ptr 5 0))), (9, .v (.one (.fn 96 [(7, 0)])))] 31 #[10, 11] m74_c0 m74_c1 2), (2, .obj (.deferred (some []))), (3, .cells 116 [.mp 4]), (4, .mp (gmE a2.1) a2.2), (5, .cells 23 [dA 6 a3]), (7, .cells 42 (cE a4)), (8, .cells 153 [dB true, dB false, dI 0, dI 0, dI (-1), dB false, dB false, dI 0, dI 0, dI (-1), dB false, dB false, dI 1, dI 0, dI (-1), dB false, dB true, dI (-1), dI 0, dI (-1), dB false, dB false, dI 0, dI 2, dI (-1), dB false, dB false, dI 0, dI 2, dI 1, dB false, dB false, dI 0, dI 2, dI 1, dB false, dB false, dI 0, dI 2, dI 1, dB false, dB false, dI 0, dI 3, dI (-1), dB false, dB false, dI 0, dI 1, dI (-1), dB false, dB false, dI 0, dI 1, dI (-1), dB false, dB false, dI 0, dI 3, dI 2, dB true, dB false, dI 0, dI 0, dI (-1)]), (9, .cells 155 [.fn 98 [(0, 0), (8, 0), (9, 0)]])], [(6, some ⟨9, 1, (Enc.encL a3).length, []⟩)], 10⟩ (resOf [.one (dB r.1)]) ⟨[(0, .cells 150 [.yld 1]), (1, .loop .ready none [(3, .v (.one (.ptr 3 0))), (4, .v (.one (.ptr 5 0))), (9, .v (.one (.fn 96 [(7, 0)])))] 31 #[10, 11] m74_c0 m74_c1 2), (2, .obj (.deferred (some []))), (3, .cells 116 [.mp 4]), (4, .mp (gmE r.2.1.1) r.2.1.2), (5, .cells 23 [dA 6 r.2.2]), (7, .cells 42 (cE a4)), (8, .cells 153 [dB true, dB false, dI 0, dI 0, dI (-1), dB false, dB false, dI 0, dI 0, dI (-1), dB false, dB false, dI 1, dI 0, dI (-1), dB false, dB true, dI (-1), dI 0, dI (-1), dB false, dB false, dI 0, dI 2, dI (-1), dB false, dB false, dI 0, dI 2, dI 1, dB false, dB false, dI 0, dI 2, dI 1, dB false, dB false, dI 0, dI 2, dI 1, dB false, dB false, dI 0, dI 3, dI (-1), dB false, dB false, dI 0, dI 1, dI (-1), dB false, dB false, dI 0, dI 1, dI (-1), dB false, dB false, dI 0, dI 3, dI 2, dB true, dB false, dI 0, dI 0, dI (-1)]), (9, .cells 155 [.fn 98 [(0, 0), (8, 0), (9, 0)]])], [(6, some ⟨9, 1, (Enc.encL r.2.2).length, []⟩)], 12⟩) (a0 : Tm) (a1 : Int) (a2 : GMap Bs Bool) (a3 : List Bs) (a4 : Tm) (r : Bool × (GMap Bs Bool) × (List Bs)) (h0 : m98f0s rc a0 a1 a2 a3 a4 = some r) : CallM Try.prog 98 [.agg (cE a0), .one (dI a1), .one (.ptr 0 0), .one (.ptr 8 0), .one (.ptr 9 0)] ⟨[(0, .cells 150 [.yld 1]), (1, .loop .ready none [(3, .v (.one (.ptr 3 0))), (4, .v (.one (.ptr 5 0))), (9, .v (.one (.fn 96 [(7, 0)])))] 31 #[10, 11] m74_c0 m74_c1 2), (2, .obj (.deferred (some []))), (3, .cells 116 [.mp 4]), (4, .mp (gmE a2.1) a2.2), (5, .cells 23 [dA 6 a3]), (7, .cells 42 (cE a4)), (8, .cells 153 [dB true, dB false, dI 0, dI 0, dI (-1), dB false, dB false, dI 0, dI 0, dI (-1), dB false, dB false, dI 1, dI 0, dI (-1), dB false, dB true, dI (-1), dI 0, dI (-1), dB false, dB false, dI 0, dI 2, dI (-1), dB false, dB false, dI 0, dI 2, dI 1, dB false, dB false, dI 0, dI 2, dI 1, dB false, dB false, dI 0, dI 2, dI 1, dB false, dB false, dI 0, dI 3, dI (-1), dB false, dB false, dI 0, dI 1, dI (-1), dB false, dB false, dI 0, dI 1, dI (-1), dB false, dB false, dI 0, dI 3, dI 2, dB true, dB false, dI 0, dI 0, dI (-1)]), (9, .cells 155 [.fn 98 [(0, 0), (8, 0), (9, 0)]])], [(6, some ⟨9, 1, (Enc.encL a3).length, []⟩)], 10⟩ (resOf [.one (dB r.1)]) ⟨[(0, .cells 150 [.yld 1]), (1, .loop .ready none [(3, .v (.one (.ptr 3 0))), (4, .v (.one (.ptr 5 0))), (9, .v (.one (.fn 96 [(7, 0)])))] 31 #[10, 11] m74_c0 m74_c1 2), (2, .obj (.deferred (some []))), (3, .cells 116 [.mp 4]), (4, .mp (gmE r.2.1.1) r.2.1.2), (5, .cells 23 [dA 6 r.2.2]), (7, .cells 42 (cE a4)), (8, .cells 153 [dB true, dB false, dI 0, dI 0, dI (-1), dB false, dB false, dI 0, dI 0, dI (-1), dB false, dB false, dI 1, dI 0, dI (-1), dB false, dB true, dI (-1), dI 0, dI (-1), dB false, dB false, dI 0, dI 2, dI (-1), dB false, dB false, dI 0, dI 2, dI 1, dB false, dB false, dI 0, dI 2, dI 1, dB false, dB false, dI 0, dI 2, dI 1, dB false, dB false, dI 0, dI 3, dI (-1), dB false, dB false, dI 0, dI 1, dI (-1), dB false, dB false, dI 0, dI 1, dI (-1), dB false, dB false, dI 0, dI 3, dI 2, dB true, dB false, dI 0, dI 0, dI (-1)]), (9, .cells 155 [.fn 98 [(0, 0), (8, 0), (9, 0)]])], [(6, some ⟨9, 1, (Enc.encL r.2.2).length, []⟩)], 12⟩ := by
  unfold m98f0s at h0
  refine CallM.of_bodyD ⟨[(7, .v (.one (dB r.1)))], [(0, .cells 150 [.yld 1]), (1, .loop .ready none [(3, .v (.one (.ptr 3 0))), (4, .v (.one (.ptr 5 0))), (9, .v (.one (.fn 96 [(7, 0)])))] 31 #[10, 11] m74_c0 m74_c1 2), (2, .obj (.deferred (some []))), (3, .cells 116 [.mp 4]), (4, .mp (gmE r.2.1.1) r.2.1.2), (5, .cells 23 [dA 6 r.2.2]), (7, .cells 42 (cE a4)), (8, .cells 153 [dB true, dB false, dI 0, dI 0, dI (-1), dB false, dB false, dI 0, dI 0, dI (-1), dB false, dB false, dI 1, dI 0, dI (-1), dB false, dB true, dI (-1), dI 0, dI (-1), dB false, dB false, dI 0, dI 2, dI (-1), dB false, dB false, dI 0, dI 2, dI 1, dB false, dB false, dI 0, dI 2, dI 1, dB false, dB false, dI 0, dI 2, dI 1, dB false, dB false, dI 0, dI 3, dI (-1), dB false, dB false, dI 0, dI 1, dI (-1), dB false, dB false, dI 0, dI 1, dI (-1), dB false, dB false, dI 0, dI 3, dI 2, dB true, dB false, dI 0, dI 0, dI (-1)]), (9, .cells 155 [.fn 98 [(0, 0), (8, 0), (9, 0)]])], [(6, some ⟨9, 1, (Enc.encL r.2.2).length, []⟩)], 12, 50, []⟩ rfl rfl en_98 (lb rfl) rfl (RAs.tmp rfl .nil) (fun w0 M V0 Q hv0 hQ0 => ?_)
  simp only [entry]
  refine XC.seq <| XC.region <| XL.put rfl rfl (lb rfl) (OpOK.box rfl) <| rA rfl rfl rfl <| XL.nil <| XQ.seq <| XC.seq <| XC.seq <| XC.region <| rR rfl rfl rfl (RO.loadOwn ag_150 rfl rfl rfl) <| rM rfl rfl rfl <| rR rfl rfl rfl (RO.loadOwnAgg ag_42 rfl rfl rfl rfl) ?_
  refine bindK h0 (fun y1 h1 h0 => ?_)
  have ha2 : ExecOK Try.prog (some 1) m74_c0 ⟨[(3, .v (.one (.ptr 3 0))), (4, .v (.one (.ptr 5 0))), (9, .v (.one (.fn 96 [(7, 0)]))), (10, .v (.one (dI a1))), (11, .v (.agg (cE a0)))], [(0, .cells 150 [.yld 1]), (1, .loop .ready none [(3, .v (.one (.ptr 3 0))), (4, .v (.one (.ptr 5 0))), (9, .v (.one (.fn 96 [(7, 0)])))] 31 #[10, 11] m74_c0 m74_c1 2), (2, .obj (.deferred (some []))), (3, .cells 116 [.mp 4]), (4, .mp (gmE a2.1) a2.2), (5, .cells 23 [dA 6 a3]), (7, .cells 42 (cE a4)), (8, .cells 153 [dB true, dB false, dI 0, dI 0, dI (-1), dB false, dB false, dI 0, dI 0, dI (-1), dB false, dB false, dI 1, dI 0, dI (-1), dB false, dB true, dI (-1), dI 0, dI (-1), dB false, dB false, dI 0, dI 2, dI (-1), dB false, dB false, dI 0, dI 2, dI 1, dB false, dB false, dI 0, dI 2, dI 1, dB false, dB false, dI 0, dI 2, dI 1, dB false, dB false, dI 0, dI 3, dI (-1), dB false, dB false, dI 0, dI 1, dI (-1), dB false, dB false, dI 0, dI 1, dI (-1), dB false, dB false, dI 0, dI 3, dI 2, dB true, dB false, dI 0, dI 0, dI (-1)]), (9, .cells 155 [.fn 98 [(0, 0), (8, 0), (9, 0)]]), (10, .cells 42 (cE a0))], [(6, some ⟨9, 1, (Enc.encL a3).length, []⟩)], 11, 31, []⟩ .normal ⟨[(3, .v (.one (.ptr 3 0))), (4, .v (.one (.ptr 5 0))), (6, .v (.one (.ptr 11 0)))], [(0, .cells 150 [.yld 1]), (1, .loop .ready none [(3, .v (.one (.ptr 3 0))), (4, .v (.one (.ptr 5 0))), (9, .v (.one (.fn 96 [(7, 0)])))] 31 #[10, 11] m74_c0 m74_c1 2), (2, .obj (.deferred (some []))), (3, .cells 116 [.mp 4]), (4, .mp (gmE a2.1) a2.2), (5, .cells 23 [dA 6 a3]), (7, .cells 42 (cE a4)), (8, .cells 153 [dB true, dB false, dI 0, dI 0, dI (-1), dB false, dB false, dI 0, dI 0, dI (-1), dB false, dB false, dI 1, dI 0, dI (-1), dB false, dB true, dI (-1), dI 0, dI (-1), dB false, dB false, dI 0, dI 2, dI (-1), dB false, dB false, dI 0, dI 2, dI 1, dB false, dB false, dI 0, dI 2, dI 1, dB false, dB false, dI 0, dI 2, dI 1, dB false, dB false, dI 0, dI 3, dI (-1), dB false, dB false, dI 0, dI 1, dI (-1), dB false, dB false, dI 0, dI 1, dI (-1), dB false, dB false, dI 0, dI 3, dI 2, dB true, dB false, dI 0, dI 0, dI (-1)]), (9, .cells 155 [.fn 98 [(0, 0), (8, 0), (9, 0)]]), (10, .cells 42 (cE a0)), (11, .cells 42 (cE a0))], [(6, some ⟨9, 1, (Enc.encL a3).length, []⟩)], 12, 31, []⟩ := by
   refine ExecOK.walk (fun w0 M V0 ro n Q hv1 hro1 hQn1 => ?_)
   refine XC.region <| XL.put rfl rfl (lb rfl) (OpOK.alloc z_42 rfl) <| XL.eff rfl rfl (OpOK.store ag_42 rfl rfl rfl rfl (lb rfl) rfl) <| XL.nil ?_
   exact XQ.of hQn1 (stle (tR rfl (tR rfl (tR rfl tZ))) (hR rfl (hR rfl (hR rfl (hR rfl (hR rfl (hR rfl (hR rfl (hR rfl (hR rfl (hR rfl (hR rfl hZ))))))))))) (kR rfl kZ) rfl (Nat.le_trans hv1 (lb rfl)) rfl rfl rfl (bB rfl rfl (bB rfl rfl (bB rfl rfl (bB rfl rfl (bG rfl (bB rfl rfl (bB rfl rfl (bB rfl rfl (bB rfl rfl (bB rfl rfl (bB rfl rfl bZ))))))))))) rfl rfl)
  have hb3 : ExecOK Try.prog (some 1) m74_c1 ⟨[(3, .v (.one (.ptr 3 0))), (4, .v (.one (.ptr 5 0))), (6, .v (.one (.ptr 11 0)))], [(0, .cells 150 [.yld 1]), (1, .loop .busy none [(3, .v (.one (.ptr 3 0))), (4, .v (.one (.ptr 5 0))), (9, .v (.one (.fn 96 [(7, 0)])))] 31 #[10, 11] m74_c0 m74_c1 2), (2, .obj (.deferred (some []))), (3, .cells 116 [.mp 4]), (4, .mp (gmE a2.1) a2.2), (5, .cells 23 [dA 6 a3]), (7, .cells 42 (cE a4)), (8, .cells 153 [dB true, dB false, dI 0, dI 0, dI (-1), dB false, dB false, dI 0, dI 0, dI (-1), dB false, dB false, dI 1, dI 0, dI (-1), dB false, dB true, dI (-1), dI 0, dI (-1), dB false, dB false, dI 0, dI 2, dI (-1), dB false, dB false, dI 0, dI 2, dI 1, dB false, dB false, dI 0, dI 2, dI 1, dB false, dB false, dI 0, dI 2, dI 1, dB false, dB false, dI 0, dI 3, dI (-1), dB false, dB false, dI 0, dI 1, dI (-1), dB false, dB false, dI 0, dI 1, dI (-1), dB false, dB false, dI 0, dI 3, dI 2, dB true, dB false, dI 0, dI 0, dI (-1)]), (9, .cells 155 [.fn 98 [(0, 0), (8, 0), (9, 0)]]), (10, .cells 42 (cE a0)), (11, .cells 42 (cE a0))], [(6, some ⟨9, 1, (Enc.encL a3).length, []⟩)], 12, 31, []⟩ .normal ⟨[], [(0, .cells 150 [.yld 1]), (1, .loop .busy none [(3, .v (.one (.ptr 3 0))), (4, .v (.one (.ptr 5 0))), (9, .v (.one (.fn 96 [(7, 0)])))] 31 #[10, 11] m74_c0 m74_c1 2), (2, .obj (.deferred (some []))), (3, .cells 116 [.mp 4]), (4, .mp (gmE y1.1.1) y1.1.2), (5, .cells 23 [dA 6 y1.2]), (7, .cells 42 (cE a4)), (8, .cells 153 [dB true, dB false, dI 0, dI 0, dI (-1), dB false, dB false, dI 0, dI 0, dI (-1), dB false, dB false, dI 1, dI 0, dI (-1), dB false, dB true, dI (-1), dI 0, dI (-1), dB false, dB false, dI 0, dI 2, dI (-1), dB false, dB false, dI 0, dI 2, dI 1, dB false, dB false, dI 0, dI 2, dI 1, dB false, dB false, dI 0, dI 2, dI 1, dB false, dB false, dI 0, dI 3, dI (-1), dB false, dB false, dI 0, dI 1, dI (-1), dB false, dB false, dI 0, dI 1, dI (-1), dB false, dB false, dI 0, dI 3, dI 2, dB true, dB false, dI 0, dI 0, dI (-1)]), (9, .cells 155 [.fn 98 [(0, 0), (8, 0), (9, 0)]]), (10, .cells 42 (cE a0))], [(6, some ⟨9, 1, (Enc.encL y1.2).length, []⟩)], 12, 31, []⟩ := by
   refine ExecOK.walk (fun w0 M V0 ro n Q hv1 hro1 hQn1 => ?_)
   refine XC.block <| XC.seq ?_
   refine XC.joinR (fun (v4 : Bool) => ⟨[(3, .v (.one (.ptr 3 0))), (4, .v (.one (.ptr 5 0))), (6, .v (.one (.ptr 11 0))), (21, .v (.one (dB v4)))], [(0, .cells 150 [.yld 1]), (1, .loop .busy none [(3, .v (.one (.ptr 3 0))), (4, .v (.one (.ptr 5 0))), (9, .v (.one (.fn 96 [(7, 0)])))] 31 #[10, 11] m74_c0 m74_c1 2), (2, .obj (.deferred (some []))), (3, .cells 116 [.mp 4]), (4, .mp (gmE a2.1) a2.2), (5, .cells 23 [dA 6 a3]), (7, .cells 42 (cE a4)), (8, .cells 153 [dB true, dB false, dI 0, dI 0, dI (-1), dB false, dB false, dI 0, dI 0, dI (-1), dB false, dB false, dI 1, dI 0, dI (-1), dB false, dB true, dI (-1), dI 0, dI (-1), dB false, dB false, dI 0, dI 2, dI (-1), dB false, dB false, dI 0, dI 2, dI 1, dB false, dB false, dI 0, dI 2, dI 1, dB false, dB false, dI 0, dI 2, dI 1, dB false, dB false, dI 0, dI 3, dI (-1), dB false, dB false, dI 0, dI 1, dI (-1), dB false, dB false, dI 0, dI 1, dI (-1), dB false, dB false, dI 0, dI 3, dI 2, dB true, dB false, dI 0, dI 0, dI (-1)]), (9, .cells 155 [.fn 98 [(0, 0), (8, 0), (9, 0)]]), (10, .cells 42 (cE a0)), (11, .cells 42 (cE a0))], [(6, some ⟨9, 1, (Enc.encL a3).length, []⟩)], 12, 31, []⟩) (fun (v4 : Bool) => (cond v4
       (guardO (Nat.ble (a3.length + ([a0.name]).length) 1000000000)
     (some ((gmSet a2 a0.name true), (a3 ++ ([a0.name])))))
       (some (a2, a3))) = some y1) ?_ ?_
   ·
    refine bindK h1 (fun w2_ h2 h1 => ?_)
    refine XC.region <| rR rfl rfl rfl (RO.fieldOwn fo_42_0 rfl) <| rR rfl rfl rfl (RO.loadOwn ag_3 rfl rfl rfl) <| rR rfl rfl rfl (RO.binInt rfl rfl rfl) <| rM rfl rfl rfl ?_
    refine XL.case (d := 15) (c := (a0.kind == 3)) rfl (fun c5 => ?_) (fun c5 => ?_)
    ·
     replace h2 := condT c5 h2
     refine rR rfl rfl rfl (RO.loadOwn ag_116 rfl rfl rfl) <| rR rfl rfl rfl (RO.fieldOwn fo_42_2 rfl) <| rR rfl rfl rfl (RO.loadOwn ag_9 rfl rfl rfl) <| rR rfl rfl rfl (RO.lookupGF (M := a2) (k := a0.name) mp_116 zok_bool rfl rfl rfl) <| rR rfl rfl rfl (RO.not rfl) <| rR rfl rfl rfl (RO.pickT rfl rfl) <| XL.nil ?_
     have e_ := Option.some.inj h2
     subst e_
     exact XQ.joinR (!(gmVal a2 a0.name)) (stle (tR rfl (tR rfl (tR rfl (tR rfl tZ)))) (hR rfl (hR rfl (hR rfl (hR rfl (hR rfl (hR rfl (hR rfl (hR rfl (hR rfl (hR rfl (hR rfl hZ))))))))))) (kR rfl kZ) rfl (Nat.le_trans hv1 (lb rfl)) rfl rfl rfl (bB rfl rfl (bB rfl rfl (bB rfl rfl (bB rfl rfl (bG rfl (bB rfl rfl (bB rfl rfl (bB rfl rfl (bB rfl rfl (bB rfl rfl (bB rfl rfl bZ))))))))))) rfl rfl) h1
    ·
     replace h2 := condF c5 h2
     refine XL.no rfl rfl <| XL.no rfl rfl <| XL.no rfl rfl <| XL.no rfl rfl <| XL.no rfl rfl <| rR rfl rfl rfl (RO.pickF rfl rfl) <| XL.nil ?_
     have e_ := Option.some.inj h2
     subst e_
     exact XQ.joinR false (stle (tR rfl (tR rfl (tR rfl (tR rfl tZ)))) (hR rfl (hR rfl (hR rfl (hR rfl (hR rfl (hR rfl (hR rfl (hR rfl (hR rfl (hR rfl (hR rfl hZ))))))))))) (kR rfl kZ) rfl (Nat.le_trans hv1 (lb rfl)) rfl rfl rfl (bB rfl rfl (bB rfl rfl (bB rfl rfl (bB rfl rfl (bG rfl (bB rfl rfl (bB rfl rfl (bB rfl rfl (bB rfl rfl (bB rfl rfl (bB rfl rfl bZ))))))))))) rfl rfl) h1
   ·
    intro v4 h1
    refine XQ.seq ?_
    refine XC.cond (b := v4) rfl (fun c6 => ?_) (fun c6 => ?_)
    ·
     replace h1 := condT c6 h1
     refine XC.seq <| XC.region <| rR rfl rfl rfl (RO.loadOwn ag_116 rfl rfl rfl) <| rR rfl rfl rfl (RO.fieldOwn fo_42_2 rfl) <| rR rfl rfl rfl (RO.loadOwn ag_9 rfl rfl rfl) <| XL.eff rfl rfl (OpOK.mapSetG (M := a2) (k := a0.name) (v := true) mp_116 rfl rfl rfl rfl rfl) <| XL.nil <| XQ.seq <| XC.region <| rR rfl rfl rfl (RO.loadOwn ag_23 rfl rfl rfl) <| rR rfl rfl rfl (RO.fieldOwn fo_42_2 rfl) <| rR rfl rfl rfl (RO.loadOwn ag_9 rfl rfl rfl) <| XL.put rfl rfl (lb rfl) (OpOK.lit1E (α := Bs) (a0.name) sl_23 z_9 rfl rfl (lb rfl) (lb rfl) rfl rfl (.cons (.d _) .nil) rfl) ?_
     refine guardK h1 (fun g7 h1 => ?_)
     refine XL.put rfl rfl (lb rfl) (OpOK.appendE (α := Bs) sl_23 el_9 rfl rfl rfl rfl rfl (.app _ _) g7) <| XL.eff rfl rfl (OpOK.store ag_23 rfl rfl rfl rfl (lb rfl) rfl) <| XL.nil <| XQ.inBlock ?_
     have e_ := Option.some.inj h1
     subst e_
     exact XQ.of hQn1 (stle tZ (hR rfl (hR rfl (hR rfl (hR rfl (hR rfl (hR rfl (hR rfl (hR rfl (hR rfl (hR rfl hZ)))))))))) (kR rfl kZ) rfl (Nat.le_trans hv1 (lb rfl)) rfl rfl rfl (bB rfl rfl (bB rfl rfl (bB rfl rfl (bB rfl rfl (bG rfl (bB rfl rfl (bB rfl rfl (bB rfl rfl (bB rfl rfl (bB rfl rfl bZ)))))))))) rfl rfl)
    ·
     replace h1 := condF c6 h1
     refine XC.skip <| XQ.inBlock ?_
     have e_ := Option.some.inj h1
     subst e_
     exact XQ.of hQn1 (stle tZ (hR rfl (hR rfl (hR rfl (hR rfl (hR rfl (hR rfl (hR rfl (hR rfl (hR rfl (hR rfl hZ)))))))))) (kR rfl kZ) rfl (Nat.le_trans hv1 (lb rfl)) rfl rfl rfl (bB rfl rfl (bB rfl rfl (bB rfl rfl (bB rfl rfl (bG rfl (bB rfl rfl (bB rfl rfl (bB rfl rfl (bB rfl rfl (bB rfl rfl bZ)))))))))) rfl rfl)
  refine XL.put rfl rfl (lb rfl) (OpOK.yield (jump := none) rfl rfl rfl rfl rfl (ExecOK.from ha2 (fun E hv => (stle (tR rfl (tR rfl (tR rfl (tR rfl (tR rfl tZ))))) (hR rfl (hR rfl (hR rfl (hR rfl (hR rfl (hR rfl (hR rfl (hR rfl (hR rfl (hR rfl hZ)))))))))) (kR rfl kZ) rfl (Nat.le_trans hv (lb rfl)) rfl rfl rfl (bB rfl rfl (bB rfl rfl (bB rfl rfl (bB rfl rfl (bG rfl (bB rfl rfl (bB rfl rfl (bB rfl rfl (bB rfl rfl (bB rfl rfl bZ)))))))))) rfl rfl))) rfl (ExecOK.from hb3 (fun E hv => (stle (tR rfl (tR rfl (tR rfl tZ))) (hR rfl (hR rfl (hR rfl (hR rfl (hR rfl (hR rfl (hR rfl (hR rfl (hR rfl (hR rfl (hR rfl hZ))))))))))) (kR rfl kZ) rfl (Nat.le_trans hv (lb rfl)) rfl rfl rfl (bB rfl rfl (bB rfl rfl (bB rfl rfl (bB rfl rfl (bG rfl (bB rfl rfl (bB rfl rfl (bB rfl rfl (bB rfl rfl (bB rfl rfl (bB rfl rfl bZ))))))))))) rfl rfl))) rfl rfl) ?_
  refine rR rfl rfl rfl (RO.not rfl) <| XL.nil <| XQ.seq ?_
  refine XC.cond rfl (fun h => nomatch h) (fun _ => ?_)
  refine XC.skip <| XQ.seq <| XC.seq <| XC.region <| rA rfl rfl rfl <| XL.nil <| XQ.seq <| XC.seq <| XC.seq ?_
  refine XC.joinR (fun (v8 : Bool) => ⟨[(1, .v (.one (dI a1))), (3, .v (.one (.ptr 8 0))), (4, .v (.one (.ptr 9 0))), (5, .v (.one (.ptr 10 0))), (8, .v (.one (dI (-1)))), (24, .v (.one (dB v8)))], [(0, .cells 150 [.yld 1]), (1, .loop .ready none [(3, .v (.one (.ptr 3 0))), (4, .v (.one (.ptr 5 0))), (9, .v (.one (.fn 96 [(7, 0)])))] 31 #[10, 11] m74_c0 m74_c1 2), (2, .obj (.deferred (some []))), (3, .cells 116 [.mp 4]), (4, .mp (gmE y1.1.1) y1.1.2), (5, .cells 23 [dA 6 y1.2]), (7, .cells 42 (cE a4)), (8, .cells 153 [dB true, dB false, dI 0, dI 0, dI (-1), dB false, dB false, dI 0, dI 0, dI (-1), dB false, dB false, dI 1, dI 0, dI (-1), dB false, dB true, dI (-1), dI 0, dI (-1), dB false, dB false, dI 0, dI 2, dI (-1), dB false, dB false, dI 0, dI 2, dI 1, dB false, dB false, dI 0, dI 2, dI 1, dB false, dB false, dI 0, dI 2, dI 1, dB false, dB false, dI 0, dI 3, dI (-1), dB false, dB false, dI 0, dI 1, dI (-1), dB false, dB false, dI 0, dI 1, dI (-1), dB false, dB false, dI 0, dI 3, dI 2, dB true, dB false, dI 0, dI 0, dI (-1)]), (9, .cells 155 [.fn 98 [(0, 0), (8, 0), (9, 0)]]), (10, .cells 42 (cE a0))], [(6, some ⟨9, 1, (Enc.encL y1.2).length, []⟩)], 12, 50, []⟩) (fun (v8 : Bool) => (Option.bind (cond v8
      (guardO (cond (decide (0 ≤ a0.kind)) (Nat.blt a0.kind.toNat 13) false)
    (Option.bind (idx ([(-1), (-1), (-1), (-1), (-1), 1, 1, 1, (-1), (-1), (-1), 2, (-1)] : List Int) a0.kind) fun (x12 : Int) =>
    some x12))
      (some (-1))) (fun (v9 : Int) => Option.bind (loopN (m98f0_l0 a0 v9 a1 rc a4) FUEL (0, y1.1, y1.2)) (Sum.elim (fun (o10 : (GMap Bs Bool) × (List Bs)) => some (true, o10.1, o10.2)) (fun o => some o)))) = some r) ?_ ?_
  ·
   refine bindK h0 (fun w1_ h1 h0 => ?_)
   refine XC.region <| rR rfl rfl rfl (RO.fieldOwn fo_42_0 rfl) <| rR rfl rfl rfl (RO.loadOwn ag_3 rfl rfl rfl) <| rR rfl rfl rfl (RO.binInt rfl rfl rfl) <| rM rfl rfl rfl ?_
   refine XL.case (d := 20) (c := (decide (0 ≤ a0.kind))) rfl (fun c9 => ?_) (fun c9 => ?_)
   ·
    replace h1 := condT c9 h1
    refine rR rfl rfl rfl (RO.fieldOwn fo_42_0 rfl) <| rR rfl rfl rfl (RO.loadOwn ag_3 rfl rfl rfl) <| rR rfl rfl rfl (RO.binInt rfl rfl rfl) <| rR rfl rfl rfl (RO.pickT rfl rfl) <| XL.nil ?_
    have e_ := Option.some.inj h1
    subst e_
    exact XQ.joinR (decide (a0.kind < 13)) (stle (tR rfl (tR rfl (tR rfl (tR rfl (tR rfl (tR rfl tZ)))))) (hR rfl (hR rfl (hR rfl (hR rfl (hR rfl (hR rfl (hR rfl (hR rfl (hR rfl (hR rfl hZ)))))))))) (kR rfl kZ) rfl (Nat.le_trans hv0 (lb rfl)) rfl rfl rfl (bB rfl rfl (bB rfl rfl (bB rfl rfl (bB rfl rfl (bG rfl (bB rfl rfl (bB rfl rfl (bB rfl rfl (bB rfl rfl (bB rfl rfl bZ)))))))))) rfl rfl) h0
   ·
    replace h1 := condF c9 h1
    refine XL.no rfl rfl <| XL.no rfl rfl <| XL.no rfl rfl <| rR rfl rfl rfl (RO.pickF rfl rfl) <| XL.nil ?_
    have e_ := Option.some.inj h1
    subst e_
    exact XQ.joinR false (stle (tR rfl (tR rfl (tR rfl (tR rfl (tR rfl (tR rfl tZ)))))) (hR rfl (hR rfl (hR rfl (hR rfl (hR rfl (hR rfl (hR rfl (hR rfl (hR rfl (hR rfl hZ)))))))))) (kR rfl kZ) rfl (Nat.le_trans hv0 (lb rfl)) rfl rfl rfl (bB rfl rfl (bB rfl rfl (bB rfl rfl (bB rfl rfl (bG rfl (bB rfl rfl (bB rfl rfl (bB rfl rfl (bB rfl rfl (bB rfl rfl bZ)))))))))) rfl rfl) h0
  ·
   intro v8 h0
   refine XQ.seq ?_
   refine XC.joinR (fun (v10 : Int) => ⟨[(1, .v (.one (dI a1))), (4, .v (.one (.ptr 9 0))), (5, .v (.one (.ptr 10 0))), (8, .v (.one (dI v10)))], [(0, .cells 150 [.yld 1]), (1, .loop .ready none [(3, .v (.one (.ptr 3 0))), (4, .v (.one (.ptr 5 0))), (9, .v (.one (.fn 96 [(7, 0)])))] 31 #[10, 11] m74_c0 m74_c1 2), (2, .obj (.deferred (some []))), (3, .cells 116 [.mp 4]), (4, .mp (gmE y1.1.1) y1.1.2), (5, .cells 23 [dA 6 y1.2]), (7, .cells 42 (cE a4)), (8, .cells 153 [dB true, dB false, dI 0, dI 0, dI (-1), dB false, dB false, dI 0, dI 0, dI (-1), dB false, dB false, dI 1, dI 0, dI (-1), dB false, dB true, dI (-1), dI 0, dI (-1), dB false, dB false, dI 0, dI 2, dI (-1), dB false, dB false, dI 0, dI 2, dI 1, dB false, dB false, dI 0, dI 2, dI 1, dB false, dB false, dI 0, dI 2, dI 1, dB false, dB false, dI 0, dI 3, dI (-1), dB false, dB false, dI 0, dI 1, dI (-1), dB false, dB false, dI 0, dI 1, dI (-1), dB false, dB false, dI 0, dI 3, dI 2, dB true, dB false, dI 0, dI 0, dI (-1)]), (9, .cells 155 [.fn 98 [(0, 0), (8, 0), (9, 0)]]), (10, .cells 42 (cE a0))], [(6, some ⟨9, 1, (Enc.encL y1.2).length, []⟩)], 12, 50, []⟩) (fun (v10 : Int) => (Option.bind (loopN (m98f0_l0 a0 v10 a1 rc a4) FUEL (0, y1.1, y1.2)) (Sum.elim (fun (o11 : (GMap Bs Bool) × (List Bs)) => some (true, o11.1, o11.2)) (fun o => some o))) = some r) ?_ ?_
   ·
    refine bindK h0 (fun w1_ h1 h0 => ?_)
    refine XC.cond (b := v8) rfl (fun c11 => ?_) (fun c11 => ?_)
    ·
     replace h1 := condT c11 h1
     refine XC.region <| rR rfl rfl rfl (RO.fieldOwn fo_42_0 rfl) <| rR rfl rfl rfl (RO.loadOwn ag_3 rfl rfl rfl) ?_
     refine guardK h1 (fun g12 h1 => ?_)
     refine rR rfl rfl rfl (RO.indexA arr_153 rfl rfl g12) <| rR rfl rfl rfl (RO.fieldOwn fo_152_4 rfl) ?_
     refine bindK h1 (fun x13 hx13 h1 => ?_)
     refine rR rfl rfl rfl (RO.loadCol (m := a0.kind) (sz := 5) (f := 4) (col := ([(-1), (-1), (-1), (-1), (-1), 1, 1, 1, (-1), (-1), (-1), 2, (-1)] : List Int)) ag_3 rfl rfl rfl hx13) <| rA rfl rfl rfl <| XL.nil ?_
     have e_ := Option.some.inj h1
     subst e_
     exact XQ.joinR x13 (stle (tR rfl (tR rfl (tR rfl (tR rfl tZ)))) (hR rfl (hR rfl (hR rfl (hR rfl (hR rfl (hR rfl (hR rfl (hR rfl (hR rfl (hR rfl hZ)))))))))) (kR rfl kZ) rfl (Nat.le_trans hv0 (lb rfl)) rfl rfl rfl (bB rfl rfl (bB rfl rfl (bB rfl rfl (bB rfl rfl (bG rfl (bB rfl rfl (bB rfl rfl (bB rfl rfl (bB rfl rfl (bB rfl rfl bZ)))))))))) rfl rfl) h0
    ·
     replace h1 := condF c11 h1
     refine XC.skip ?_
     have e_ := Option.some.inj h1
     subst e_
     exact XQ.joinR (-1) (stle (tR rfl (tR rfl (tR rfl (tR rfl tZ)))) (hR rfl (hR rfl (hR rfl (hR rfl (hR rfl (hR rfl (hR rfl (hR rfl (hR rfl (hR rfl hZ)))))))))) (kR rfl kZ) rfl (Nat.le_trans hv0 (lb rfl)) rfl rfl rfl (bB rfl rfl (bB rfl rfl (bB rfl rfl (bB rfl rfl (bG rfl (bB rfl rfl (bB rfl rfl (bB rfl rfl (bB rfl rfl (bB rfl rfl bZ)))))))))) rfl rfl) h0
   ·
    intro v10 h0
    refine XQ.seq <| XC.seq <| XC.seq <| XC.region <| rR rfl rfl rfl (RO.fieldOwn fo_42_4 rfl) <| rR rfl rfl rfl (RO.loadOwn ag_40 rfl rfl rfl) <| rR rfl rfl rfl (RO.lenE (α := Tm) sl_40 rfl (.d _)) <| rM rfl rfl rfl <| XL.nil <| XQ.seq <| XC.block ?_
    refine XC.joinX 0 (fun (o14 : (GMap Bs Bool) × (List Bs)) => ⟨[], [(0, .cells 150 [.yld 1]), (1, .loop .ready none [(3, .v (.one (.ptr 3 0))), (4, .v (.one (.ptr 5 0))), (9, .v (.one (.fn 96 [(7, 0)])))] 31 #[10, 11] m74_c0 m74_c1 2), (2, .obj (.deferred (some []))), (3, .cells 116 [.mp 4]), (4, .mp (gmE o14.1.1) o14.1.2), (5, .cells 23 [dA 6 o14.2]), (7, .cells 42 (cE a4)), (8, .cells 153 [dB true, dB false, dI 0, dI 0, dI (-1), dB false, dB false, dI 0, dI 0, dI (-1), dB false, dB false, dI 1, dI 0, dI (-1), dB false, dB true, dI (-1), dI 0, dI (-1), dB false, dB false, dI 0, dI 2, dI (-1), dB false, dB false, dI 0, dI 2, dI 1, dB false, dB false, dI 0, dI 2, dI 1, dB false, dB false, dI 0, dI 2, dI 1, dB false, dB false, dI 0, dI 3, dI (-1), dB false, dB false, dI 0, dI 1, dI (-1), dB false, dB false, dI 0, dI 1, dI (-1), dB false, dB false, dI 0, dI 3, dI 2, dB true, dB false, dI 0, dI 0, dI (-1)]), (9, .cells 155 [.fn 98 [(0, 0), (8, 0), (9, 0)]]), (10, .cells 42 (cE a0))], [(6, some ⟨9, 1, (Enc.encL o14.2).length, []⟩)], 12, 50, []⟩) (fun (o14 : (GMap Bs Bool) × (List Bs)) => (some (true, o14.1, o14.2)) = some r) ?_ ?_
    ·
     refine bindK h0 (fun o15 hl1 h0 => ?_)
     refine XC.loopM (m98f0_l0 a0 v10 a1 rc a4) (fun s1 => ⟨[(1, .v (.one (dI a1))), (4, .v (.one (.ptr 9 0))), (8, .v (.one (dI v10))), (31, .v (.one (dS a0.kids))), (32, .v (.one (dI (a0.kids.length : Int)))), (33, .v (.one (dI s1.1)))], [(0, .cells 150 [.yld 1]), (1, .loop .ready none [(3, .v (.one (.ptr 3 0))), (4, .v (.one (.ptr 5 0))), (9, .v (.one (.fn 96 [(7, 0)])))] 31 #[10, 11] m74_c0 m74_c1 2), (2, .obj (.deferred (some []))), (3, .cells 116 [.mp 4]), (4, .mp (gmE s1.2.1.1) s1.2.1.2), (5, .cells 23 [dA 6 s1.2.2]), (7, .cells 42 (cE a4)), (8, .cells 153 [dB true, dB false, dI 0, dI 0, dI (-1), dB false, dB false, dI 0, dI 0, dI (-1), dB false, dB false, dI 1, dI 0, dI (-1), dB false, dB true, dI (-1), dI 0, dI (-1), dB false, dB false, dI 0, dI 2, dI (-1), dB false, dB false, dI 0, dI 2, dI 1, dB false, dB false, dI 0, dI 2, dI 1, dB false, dB false, dI 0, dI 2, dI 1, dB false, dB false, dI 0, dI 3, dI (-1), dB false, dB false, dI 0, dI 1, dI (-1), dB false, dB false, dI 0, dI 1, dI (-1), dB false, dB false, dI 0, dI 3, dI 2, dB true, dB false, dI 0, dI 0, dI (-1)]), (9, .cells 155 [.fn 98 [(0, 0), (8, 0), (9, 0)]]), (10, .cells 42 (cE a0))], [(6, some ⟨9, 1, (Enc.encL s1.2.2).length, []⟩)], 12, 50, []⟩) (0, y1.1, y1.2) o15 (stle (tR rfl (tR rfl (tR rfl (tR rfl (tR rfl (tR rfl tZ)))))) (hR rfl (hR rfl (hR rfl (hR rfl (hR rfl (hR rfl (hR rfl (hR rfl (hR rfl (hR rfl hZ)))))))))) (kR rfl kZ) rfl (Nat.le_trans hv0 (lb rfl)) rfl rfl rfl (bB rfl rfl (bB rfl rfl (bB rfl rfl (bB rfl rfl (bG rfl (bB rfl rfl (bB rfl rfl (bB rfl rfl (bB rfl rfl (bB rfl rfl bZ)))))))))) rfl rfl) hl1 (fun s1 n1 oo1 h1 ho1 => ?_)
     unfold m98f0_l0 at h1
     refine XC.seq <| XC.region <| rR rfl rfl rfl (RO.binInt rfl rfl rfl) <| XL.nil <| XQ.seq <| XC.seq ?_
     refine XC.cond (b := (decide (s1.1 < (a0.kids.length : Int)))) rfl (fun c16 => ?_) (fun c16 => ?_)
     ·
      replace h1 := condT c16 h1
      refine XC.skip <| XQ.seq <| XC.seq <| XC.block <| XC.seq <| XC.region <| rM rfl rfl rfl ?_
      refine bindK h1 (fun x17 hx17 h1 => ?_)
      refine rR rfl rfl rfl (RO.indexE (α := Tm) sl_40 rfl (.d _) rfl hx17) <| rR rfl rfl rfl (RO.loadPelAgg ag_42 rfl rfl rfl) <| XL.put rfl rfl (lb rfl) (OpOK.alloc z_42 rfl) <| rA rfl rfl rfl <| XL.eff rfl rfl (OpOK.store ag_42 rfl rfl rfl rfl (lb rfl) rfl) <| XL.nil <| XQ.seq <| XC.seq <| XC.region <| rM rfl rfl rfl <| rA rfl rfl rfl <| XL.nil <| XQ.seq <| XC.seq ?_
      refine XC.seq <| XC.region <| rM rfl rfl rfl <| rM rfl rfl rfl <| rR rfl rfl rfl (RO.binInt rfl rfl rfl) <| XL.nil <| XQ.seq ?_
      refine XC.joinR (fun (v18 : Int) => ⟨[(1, .v (.one (dI a1))), (4, .v (.one (.ptr 9 0))), (8, .v (.one (dI v10))), (10, .v (.one (.ptr 12 0))), (11, .v (.one (dI v18))), (31, .v (.one (dS a0.kids))), (32, .v (.one (dI (a0.kids.length : Int)))), (33, .v (.one (dI s1.1)))], [(0, .cells 150 [.yld 1]), (1, .loop .ready none [(3, .v (.one (.ptr 3 0))), (4, .v (.one (.ptr 5 0))), (9, .v (.one (.fn 96 [(7, 0)])))] 31 #[10, 11] m74_c0 m74_c1 2), (2, .obj (.deferred (some []))), (3, .cells 116 [.mp 4]), (4, .mp (gmE s1.2.1.1) s1.2.1.2), (5, .cells 23 [dA 6 s1.2.2]), (7, .cells 42 (cE a4)), (8, .cells 153 [dB true, dB false, dI 0, dI 0, dI (-1), dB false, dB false, dI 0, dI 0, dI (-1), dB false, dB false, dI 1, dI 0, dI (-1), dB false, dB true, dI (-1), dI 0, dI (-1), dB false, dB false, dI 0, dI 2, dI (-1), dB false, dB false, dI 0, dI 2, dI 1, dB false, dB false, dI 0, dI 2, dI 1, dB false, dB false, dI 0, dI 2, dI 1, dB false, dB false, dI 0, dI 3, dI (-1), dB false, dB false, dI 0, dI 1, dI (-1), dB false, dB false, dI 0, dI 1, dI (-1), dB false, dB false, dI 0, dI 3, dI 2, dB true, dB false, dI 0, dI 0, dI (-1)]), (9, .cells 155 [.fn 98 [(0, 0), (8, 0), (9, 0)]]), (10, .cells 42 (cE a0)), (12, .cells 42 (cE x17))], [(6, some ⟨9, 1, (Enc.encL s1.2.2).length, []⟩)], 13, 50, []⟩) (fun (v18 : Int) => (Option.bind (rc (x17, v18, s1.2.1, s1.2.2, a4)) fun (x19 : Bool × (GMap Bs Bool) × (List Bs)) =>
        cond (!x19.1)
          (some (.done (.inr (false, x19.2.1, x19.2.2))))
          (some (.next ((w64 (s1.1 + 1)), x19.2.1, x19.2.2)))) = some oo1) ?_ ?_
      ·
       refine bindK h1 (fun w2_ h2 h1 => ?_)
       refine XC.cond (b := (s1.1 == v10)) rfl (fun c19 => ?_) (fun c19 => ?_)
       ·
        replace h2 := condT c19 h2
        refine XC.region <| rM rfl rfl rfl <| rR rfl rfl rfl (RO.binInt rfl rfl rfl) <| rA rfl rfl rfl <| XL.nil ?_
        have e_ := Option.some.inj h2
        subst e_
        exact XQ.joinR (w64 (a1 + 1)) (stle (tR rfl (tR rfl (tR rfl (tR rfl (tR rfl (tR rfl (tR rfl (tR rfl tZ)))))))) (hR rfl (hR rfl (hR rfl (hR rfl (hR rfl (hR rfl (hR rfl (hR rfl (hR rfl (hR rfl (hR rfl hZ))))))))))) (kR rfl kZ) rfl (Nat.le_trans hv0 (lb rfl)) rfl rfl rfl (bB rfl rfl (bB rfl rfl (bB rfl rfl (bB rfl rfl (bG rfl (bB rfl rfl (bB rfl rfl (bB rfl rfl (bB rfl rfl (bB rfl rfl (bB rfl rfl bZ))))))))))) rfl rfl) h1
       ·
        replace h2 := condF c19 h2
        refine XC.skip ?_
        have e_ := Option.some.inj h2
        subst e_
        exact XQ.joinR a1 (stle (tR rfl (tR rfl (tR rfl (tR rfl (tR rfl (tR rfl (tR rfl (tR rfl tZ)))))))) (hR rfl (hR rfl (hR rfl (hR rfl (hR rfl (hR rfl (hR rfl (hR rfl (hR rfl (hR rfl (hR rfl hZ))))))))))) (kR rfl kZ) rfl (Nat.le_trans hv0 (lb rfl)) rfl rfl rfl (bB rfl rfl (bB rfl rfl (bB rfl rfl (bB rfl rfl (bG rfl (bB rfl rfl (bB rfl rfl (bB rfl rfl (bB rfl rfl (bB rfl rfl (bB rfl rfl bZ))))))))))) rfl rfl) h1
      ·
       intro v18 h1
       refine XQ.seq <| XC.seq <| XC.region <| rR rfl rfl rfl (RO.loadOwn ag_155 rfl rfl rfl) <| rR rfl rfl rfl (RO.loadOwnAgg ag_42 rfl rfl rfl rfl) <| rM rfl rfl rfl ?_
       refine bindK h1 (fun x20 hx20 h1 => ?_)
       refine XL.put rfl rfl (lb rfl) (OpOK.callG (hp1' := [(0, .cells 150 [.yld 1]), (1, .loop .ready none [(3, .v (.one (.ptr 3 0))), (4, .v (.one (.ptr 5 0))), (9, .v (.one (.fn 96 [(7, 0)])))] 31 #[10, 11] m74_c0 m74_c1 2), (2, .obj (.deferred (some []))), (3, .cells 116 [.mp 4]), (4, .mp (gmE x20.2.1.1) x20.2.1.2), (5, .cells 23 [dA 6 x20.2.2]), (7, .cells 42 (cE a4)), (8, .cells 153 [dB true, dB false, dI 0, dI 0, dI (-1), dB false, dB false, dI 0, dI 0, dI (-1), dB false, dB false, dI 1, dI 0, dI (-1), dB false, dB true, dI (-1), dI 0, dI (-1), dB false, dB false, dI 0, dI 2, dI (-1), dB false, dB false, dI 0, dI 2, dI 1, dB false, dB false, dI 0, dI 2, dI 1, dB false, dB false, dI 0, dI 2, dI 1, dB false, dB false, dI 0, dI 3, dI (-1), dB false, dB false, dI 0, dI 1, dI (-1), dB false, dB false, dI 0, dI 1, dI (-1), dB false, dB false, dI 0, dI 3, dI 2, dB true, dB false, dI 0, dI 0, dI (-1)]), (9, .cells 155 [.fn 98 [(0, 0), (8, 0), (9, 0)]])]) (tk1' := [(6, some ⟨9, 1, (Enc.encL x20.2.2).length, []⟩)]) (hpF := [(10, .cells 42 (cE a0)), (12, .cells 42 (cE x17))]) (tkF := []) (res2 := resOf [.one (dB x20.1)]) (nx2 := 15) [0, 1, 2, 3, 4, 5, 6, 7, 8, 9] rfl rfl (H x17 v18 s1.2.1 s1.2.2 a4 x20 hx20) rfl rfl (qB rfl rfl (qB rfl rfl (qB rfl rfl (qB rfl rfl (qG rfl (qB rfl rfl (qB rfl rfl (qB rfl rfl (qB rfl rfl qZ))))))))) rfl rfl (gR rfl (gR rfl (gR rfl (gR rfl (gG rfl (gR rfl (gR rfl (gR rfl (gR rfl gZ))))))))) (jR rfl jZ) (hR rfl (hR rfl hZ)) kZ rfl rfl rfl rfl rfl (bB rfl rfl (bB rfl rfl (bB rfl rfl (bB rfl rfl (bG rfl (bB rfl rfl (bB rfl rfl (bB rfl rfl (bB rfl rfl bZ))))))))) rfl rfl rfl rfl) <| rR rfl rfl rfl (RO.not rfl) <| XL.nil <| XQ.seq ?_
       refine XC.cond (b := (!x20.1)) rfl (fun c21 => ?_) (fun c21 => ?_)
       ·
        replace h1 := condT c21 h1
        refine XC.seq <| XC.region <| rA rfl rfl rfl <| XL.nil <| XQ.seq <| XC.ret ?_
        have e_ := Option.some.inj h1
        subst e_
        have e_ : _ = _ := ho1
        subst e_
        try dsimp only [Sum.elim_inl, Sum.elim_inr] at h0
        have e_ := Option.some.inj h0
        subst e_
        exact hQ0 _ _ _ (.inr rfl) rfl (stle (tR rfl tZ) (hR rfl (hR rfl (hR rfl (hR rfl (hR rfl (hR rfl (hR rfl (hR rfl (hR rfl hZ))))))))) (kR rfl kZ) rfl (Nat.le_trans hv0 (lb rfl)) rfl rfl rfl (bB rfl rfl (bB rfl rfl (bB rfl rfl (bB rfl rfl (bG rfl (bB rfl rfl (bB rfl rfl (bB rfl rfl (bB rfl rfl bZ))))))))) rfl rfl)
       ·
        replace h1 := condF c21 h1
        refine XC.skip <| XQ.inBlock <| XQ.seq <| XC.region <| rR rfl rfl rfl (RO.binInt rfl rfl rfl) <| rM rfl rfl rfl <| XL.nil ?_
        have e_ := Option.some.inj h1
        subst e_
        refine XQ.nextM ((w64 (s1.1 + 1)), x20.2.1, x20.2.2) (stle (tR rfl (tR rfl (tR rfl (tR rfl (tR rfl (tR rfl tZ)))))) (hR rfl (hR rfl (hR rfl (hR rfl (hR rfl (hR rfl (hR rfl (hR rfl (hR rfl (hR rfl hZ)))))))))) (kR rfl kZ) rfl (Nat.le_trans hv0 (lb rfl)) rfl rfl rfl (bB rfl rfl (bB rfl rfl (bB rfl rfl (bB rfl rfl (bG rfl (bB rfl rfl (bB rfl rfl (bB rfl rfl (bB rfl rfl (bB rfl rfl bZ)))))))))) rfl rfl) ho1
     ·
      replace h1 := condF c16 h1
      refine XC.exit <| XQ.thenE <| XQ.thenE ?_
      have e_ := Option.some.inj h1
      subst e_
      have e_ : _ = _ := ho1
      subst e_
      exact XQ.joinX (s1.2.1, s1.2.2) (stle tZ (hR rfl (hR rfl (hR rfl (hR rfl (hR rfl (hR rfl (hR rfl (hR rfl (hR rfl (hR rfl hZ)))))))))) (kR rfl kZ) rfl (Nat.le_trans hv0 (lb rfl)) rfl rfl rfl (bB rfl rfl (bB rfl rfl (bB rfl rfl (bB rfl rfl (bG rfl (bB rfl rfl (bB rfl rfl (bB rfl rfl (bB rfl rfl (bB rfl rfl bZ)))))))))) rfl rfl) h0
    ·
     intro o14 h0
     refine XQ.blockX <| XQ.seq <| XC.seq <| XC.region <| rA rfl rfl rfl <| XL.nil <| XQ.seq <| XC.ret ?_
     have e_ := Option.some.inj h0
     subst e_
     exact hQ0 _ _ _ (.inr rfl) rfl (stle (tR rfl tZ) (hR rfl (hR rfl (hR rfl (hR rfl (hR rfl (hR rfl (hR rfl (hR rfl (hR rfl hZ))))))))) (kR rfl kZ) rfl (Nat.le_trans hv0 (lb rfl)) rfl rfl rfl (bB rfl rfl (bB rfl rfl (bB rfl rfl (bB rfl rfl (bG rfl (bB rfl rfl (bB rfl rfl (bB rfl rfl (bB rfl rfl bZ))))))))) rfl rfl)
theorem m98f0_all (n : Nat) (u : Tm × Int × (GMap Bs Bool) × (List Bs) × Tm) (r : Bool × (GMap Bs Bool) × (List Bs)) (h0 : recO m98f0F n u = some r) : CallM Try.prog 98 [.agg (cE u.1), .one (dI u.2.1), .one (.ptr 0 0), .one (.ptr 8 0), .one (.ptr 9 0)] ⟨[(0, .cells 150 [.yld 1]), (1, .loop .ready none [(3, .v (.one (.ptr 3 0))), (4, .v (.one (.ptr 5 0))), (9, .v (.one (.fn 96 [(7, 0)])))] 31 #[10, 11] m74_c0 m74_c1 2), (2, .obj (.deferred (some []))), (3, .cells 116 [.mp 4]), (4, .mp (gmE u.2.2.1.1) u.2.2.1.2), (5, .cells 23 [dA 6 u.2.2.2.1]), (7, .cells 42 (cE u.2.2.2.2)), (8, .cells 153 [dB true, dB false, dI 0, dI 0, dI (-1), dB false, dB false, dI 0, dI 0, dI (-1), dB false, dB false, dI 1, dI 0, dI (-1), dB false, dB true, dI (-1), dI 0, dI (-1), dB false, dB false, dI 0, dI 2, dI (-1), dB false, dB false, dI 0, dI 2, dI 1, dB false, dB false, dI 0, dI 2, dI 1, dB false, dB false, dI 0, dI 2, dI 1, dB false, dB false, dI 0, dI 3, dI (-1), dB false, dB false, dI 0, dI 1, dI (-1), dB false, dB false, dI 0, dI 1, dI (-1), dB false, dB false, dI 0, dI 3, dI 2, dB true, dB false, dI 0, dI 0, dI (-1)]), (9, .cells 155 [.fn 98 [(0, 0), (8, 0), (9, 0)]])], [(6, some ⟨9, 1, (Enc.encL u.2.2.2.1).length, []⟩)], 10⟩ (resOf [.one (dB r.1)]) ⟨[(0, .cells 150 [.yld 1]), (1, .loop .ready none [(3, .v (.one (.ptr 3 0))), (4, .v (.one (.ptr 5 0))), (9, .v (.one (.fn 96 [(7, 0)])))] 31 #[10, 11] m74_c0 m74_c1 2), (2, .obj (.deferred (some []))), (3, .cells 116 [.mp 4]), (4, .mp (gmE r.2.1.1) r.2.1.2), (5, .cells 23 [dA 6 r.2.2]), (7, .cells 42 (cE u.2.2.2.2)), (8, .cells 153 [dB true, dB false, dI 0, dI 0, dI (-1), dB false, dB false, dI 0, dI 0, dI (-1), dB false, dB false, dI 1, dI 0, dI (-1), dB false, dB true, dI (-1), dI 0, dI (-1), dB false, dB false, dI 0, dI 2, dI (-1), dB false, dB false, dI 0, dI 2, dI 1, dB false, dB false, dI 0, dI 2, dI 1, dB false, dB false, dI 0, dI 2, dI 1, dB false, dB false, dI 0, dI 3, dI (-1), dB false, dB false, dI 0, dI 1, dI (-1), dB false, dB false, dI 0, dI 1, dI (-1), dB false, dB false, dI 0, dI 3, dI 2, dB true, dB false, dI 0, dI 0, dI (-1)]), (9, .cells 155 [.fn 98 [(0, 0), (8, 0), (9, 0)]])], [(6, some ⟨9, 1, (Enc.encL r.2.2).length, []⟩)], 12⟩ :=
  recO_ind (C := fun u r => CallM Try.prog 98 [.agg (cE u.1), .one (dI u.2.1), .one (.ptr 0 0), .one (.ptr 8 0), .one (.ptr 9 0)] ⟨[(0, .cells 150 [.yld 1]), (1, .loop .ready none [(3, .v (.one (.ptr 3 0))), (4, .v (.one (.ptr 5 0))), (9, .v (.one (.fn 96 [(7, 0)])))] 31 #[10, 11] m74_c0 m74_c1 2), (2, .obj (.deferred (some []))), (3, .cells 116 [.mp 4]), (4, .mp (gmE u.2.2.1.1) u.2.2.1.2), (5, .cells 23 [dA 6 u.2.2.2.1]), (7, .cells 42 (cE u.2.2.2.2)), (8, .cells 153 [dB true, dB false, dI 0, dI 0, dI (-1), dB false, dB false, dI 0, dI 0, dI (-1), dB false, dB false, dI 1, dI 0, dI (-1), dB false, dB true, dI (-1), dI 0, dI (-1), dB false, dB false, dI 0, dI 2, dI (-1), dB false, dB false, dI 0, dI 2, dI 1, dB false, dB false, dI 0, dI 2, dI 1, dB false, dB false, dI 0, dI 2, dI 1, dB false, dB false, dI 0, dI 3, dI (-1), dB false, dB false, dI 0, dI 1, dI (-1), dB false, dB false, dI 0, dI 1, dI (-1), dB false, dB false, dI 0, dI 3, dI 2, dB true, dB false, dI 0, dI 0, dI (-1)]), (9, .cells 155 [.fn 98 [(0, 0), (8, 0), (9, 0)]])], [(6, some ⟨9, 1, (Enc.encL u.2.2.2.1).length, []⟩)], 10⟩ (resOf [.one (dB r.1)]) ⟨[(0, .cells 150 [.yld 1]), (1, .loop .ready none [(3, .v (.one (.ptr 3 0))), (4, .v (.one (.ptr 5 0))), (9, .v (.one (.fn 96 [(7, 0)])))] 31 #[10, 11] m74_c0 m74_c1 2), (2, .obj (.deferred (some []))), (3, .cells 116 [.mp 4]), (4, .mp (gmE r.2.1.1) r.2.1.2), (5, .cells 23 [dA 6 r.2.2]), (7, .cells 42 (cE u.2.2.2.2)), (8, .cells 153 [dB true, dB false, dI 0, dI 0, dI (-1), dB false, dB false, dI 0, dI 0, dI (-1), dB false, dB false, dI 1, dI 0, dI (-1), dB false, dB true, dI (-1), dI 0, dI (-1), dB false, dB false, dI 0, dI 2, dI (-1), dB false, dB false, dI 0, dI 2, dI 1, dB false, dB false, dI 0, dI 2, dI 1, dB false, dB false, dI 0, dI 2, dI 1, dB false, dB false, dI 0, dI 3, dI (-1), dB false, dB false, dI 0, dI 1, dI (-1), dB false, dB false, dI 0, dI 1, dI (-1), dB false, dB false, dI 0, dI 3, dI 2, dB true, dB false, dI 0, dI 0, dI (-1)]), (9, .cells 155 [.fn 98 [(0, 0), (8, 0), (9, 0)]])], [(6, some ⟨9, 1, (Enc.encL r.2.2).length, []⟩)], 12⟩) (fun rc H u r h => m98f0s_ok rc (fun a0 a1 a2 a3 a4 r h => H (a0, a1, a2, a3, a4) r h) u.1 u.2.1 u.2.2.1 u.2.2.2.1 u.2.2.2.2 r h) n u r h0
theorem m98f0_ok (a0 : Tm) (a1 : Int) (a2 : GMap Bs Bool) (a3 : List Bs) (a4 : Tm) (r : Bool × (GMap Bs Bool) × (List Bs)) (h0 : m98f0 a0 a1 a2 a3 a4 = some r) : CallM Try.prog 98 [.agg (cE a0), .one (dI a1), .one (.ptr 0 0), .one (.ptr 8 0), .one (.ptr 9 0)] ⟨[(0, .cells 150 [.yld 1]), (1, .loop .ready none [(3, .v (.one (.ptr 3 0))), (4, .v (.one (.ptr 5 0))), (9, .v (.one (.fn 96 [(7, 0)])))] 31 #[10, 11] m74_c0 m74_c1 2), (2, .obj (.deferred (some []))), (3, .cells 116 [.mp 4]), (4, .mp (gmE a2.1) a2.2), (5, .cells 23 [dA 6 a3]), (7, .cells 42 (cE a4)), (8, .cells 153 [dB true, dB false, dI 0, dI 0, dI (-1), dB false, dB false, dI 0, dI 0, dI (-1), dB false, dB false, dI 1, dI 0, dI (-1), dB false, dB true, dI (-1), dI 0, dI (-1), dB false, dB false, dI 0, dI 2, dI (-1), dB false, dB false, dI 0, dI 2, dI 1, dB false, dB false, dI 0, dI 2, dI 1, dB false, dB false, dI 0, dI 2, dI 1, dB false, dB false, dI 0, dI 3, dI (-1), dB false, dB false, dI 0, dI 1, dI (-1), dB false, dB false, dI 0, dI 1, dI (-1), dB false, dB false, dI 0, dI 3, dI 2, dB true, dB false, dI 0, dI 0, dI (-1)]), (9, .cells 155 [.fn 98 [(0, 0), (8, 0), (9, 0)]])], [(6, some ⟨9, 1, (Enc.encL a3).length, []⟩)], 10⟩ (resOf [.one (dB r.1)]) ⟨[(0, .cells 150 [.yld 1]), (1, .loop .ready none [(3, .v (.one (.ptr 3 0))), (4, .v (.one (.ptr 5 0))), (9, .v (.one (.fn 96 [(7, 0)])))] 31 #[10, 11] m74_c0 m74_c1 2), (2, .obj (.deferred (some []))), (3, .cells 116 [.mp 4]), (4, .mp (gmE r.2.1.1) r.2.1.2), (5, .cells 23 [dA 6 r.2.2]), (7, .cells 42 (cE a4)), (8, .cells 153 [dB true, dB false, dI 0, dI 0, dI (-1), dB false, dB false, dI 0, dI 0, dI (-1), dB false, dB false, dI 1, dI 0, dI (-1), dB false, dB true, dI (-1), dI 0, dI (-1), dB false, dB false, dI 0, dI 2, dI (-1), dB false, dB false, dI 0, dI 2, dI 1, dB false, dB false, dI 0, dI 2, dI 1, dB false, dB false, dI 0, dI 2, dI 1, dB false, dB false, dI 0, dI 3, dI (-1), dB false, dB false, dI 0, dI 1, dI (-1), dB false, dB false, dI 0, dI 1, dI (-1), dB false, dB false, dI 0, dI 3, dI 2, dB true, dB false, dI 0, dI 0, dI (-1)]), (9, .cells 155 [.fn 98 [(0, 0), (8, 0), (9, 0)]])], [(6, some ⟨9, 1, (Enc.encL r.2.2).length, []⟩)], 12⟩ := m98f0_all FUEL (a0, a1, a2, a3, a4) r h0
def m74 (a0 : Tm) : Option ((List Bs)) :=
  Option.bind (some ()) (fun (y1 : Unit) => Option.bind (Option.bind (some ()) (fun (y5 : Unit) => Option.bind (m98f0 a0 0 gmNil ([]) a0) fun (x7 : Bool × (GMap Bs Bool) × (List Bs)) =>
  some (x7.2.1, x7.2.2))) (fun (y3 : (GMap Bs Bool) × (List Bs)) => some y3.2))
set_option maxRecDepth 100000 in
set_option maxHeartbeats 8000000 in
theorem m74_ok (a0 : Tm) (r : (List Bs)) (h0 : m74 a0 = some r) : Fun Try.prog 74 [.agg (cE a0)] (resOf [.one (dS r)]) := by
  unfold m74 at h0
  refine Fun.of_bodyM 9 31 Try.func74 rfl en_74 rfl (lb rfl) (fun S w => ?_)
  simp only [entry]
  refine XC.seq <| XC.region <| XL.put rfl rfl (lb rfl) (OpOK.box rfl) <| rA rfl rfl rfl <| XL.nil <| XQ.seq <| XC.seq <| XC.region <| XL.put rfl rfl (lb rfl) (OpOK.makeMapG Bs Bool) <| XL.put rfl rfl (lb rfl) (OpOK.alloc z_116 rfl) <| XL.eff rfl rfl (OpOK.store ag_116 rfl rfl rfl rfl (lb rfl) rfl) <| XL.nil <| XQ.seq <| XC.seq ?_
  refine XC.region <| XL.put rfl rfl (lb rfl) (OpOK.alloc z_23 rfl) <| XL.nil <| XQ.seq <| XC.seq <| XC.seq <| XC.region <| rR rfl rfl rfl (RO.loadOwnAgg ag_42 rfl rfl rfl rfl) ?_
  refine bindK h0 (fun y1 h1 h0 => ?_)
  have hc2 : CallM Try.prog 88 [.agg (cE a0)] ⟨[(0, .cells 42 (cE a0)), (1, .mp (gmE (gmNil : GMap Bs Bool).1) (gmNil : GMap Bs Bool).2), (2, .cells 116 [.mp 1]), (3, .cells 23 [dN])], [], 4⟩ (resOf [.one (.fn 96 [(4, 0)])]) ⟨[(0, .cells 42 (cE a0)), (1, .mp (gmE (gmNil : GMap Bs Bool).1) (gmNil : GMap Bs Bool).2), (2, .cells 116 [.mp 1]), (3, .cells 23 [dN]), (4, .cells 42 (cE a0))], [], 5⟩ := by
   refine CallM.of_bodyD ⟨[(2, .v (.one (.fn 96 [(4, 0)])))], [(0, .cells 42 (cE a0)), (1, .mp (gmE (gmNil : GMap Bs Bool).1) (gmNil : GMap Bs Bool).2), (2, .cells 116 [.mp 1]), (3, .cells 23 [dN]), (4, .cells 42 (cE a0))], [], 5, 4, []⟩ rfl rfl en_88 (lb rfl) rfl (RAs.tmp rfl .nil) (fun w0 M V0 Q hv1 hQ1 => ?_)
   simp only [entry]
   refine XC.seq <| XC.region <| XL.put rfl rfl (lb rfl) (OpOK.box rfl) <| rA rfl rfl rfl <| XL.nil <| XQ.seq <| XC.seq <| XC.region <| rR rfl rfl rfl (RO.makeFunc1 rfl) <| rA rfl rfl rfl <| XL.nil <| XQ.seq <| XC.ret ?_
   have e_ := Option.some.inj h1
   subst e_
   exact hQ1 _ _ _ (.inr rfl) rfl (stle (tR rfl tZ) (hR rfl (hR rfl (hR rfl (hR rfl (hR rfl hZ))))) kZ rfl (Nat.le_trans hv1 (lb rfl)) rfl rfl rfl (bB rfl rfl (bG rfl (bB rfl rfl (bB rfl rfl (bB rfl rfl bZ))))) rfl rfl)
  refine XL.put rfl rfl (lb rfl) (OpOK.callW rfl rfl rfl hc2 rfl (hR rfl (hR rfl (hR rfl (hR rfl hZ)))) kZ) <| XL.nil <| XQ.seq <| XC.block <| XC.adoptC (i := 3) (off := 0) 9 1 rfl rfl <| XC.less (st' := ⟨[(3, .v (.one (.ptr 2 0))), (4, .v (.one (.ptr 3 0))), (9, .v (.one (.fn 96 [(4, 0)])))], [(0, .cells 42 (cE a0)), (1, .mp (gmE (gmNil : GMap Bs Bool).1) (gmNil : GMap Bs Bool).2), (2, .cells 116 [.mp 1]), (3, .cells 23 [dA 5 ([] : List Bs)]), (4, .cells 42 (cE a0))], [(5, some ⟨9, 1, (Enc.encL ([] : List Bs)).length, []⟩)], 6, 31, []⟩) (stle (tR rfl (tR rfl (tR rfl tZ))) (hR rfl (hR rfl (hR rfl (hR rfl (hR rfl hZ))))) (kR rfl kZ) rfl (Nat.zero_le _) rfl rfl rfl (bB rfl rfl (bG rfl (bB rfl rfl (bB rfl rfl (bB rfl rfl bZ))))) rfl rfl) ?_
  refine bindK h0 (fun y3 h1 h0 => ?_)
  have hc4 : CallM Try.prog 96 [.one (.yld 7), .one (.ptr 4 0)] ⟨[(7, .loop .ready none [(3, .v (.one (.ptr 2 0))), (4, .v (.one (.ptr 3 0))), (9, .v (.one (.fn 96 [(4, 0)])))] 31 #[10, 11] m74_c0 m74_c1 6), (6, .obj (.deferred (some []))), (0, .cells 42 (cE a0)), (1, .mp (gmE (gmNil : GMap Bs Bool).1) (gmNil : GMap Bs Bool).2), (2, .cells 116 [.mp 1]), (3, .cells 23 [dA 5 ([] : List Bs)]), (4, .cells 42 (cE a0))], [(5, some ⟨9, 1, (Enc.encL ([] : List Bs)).length, []⟩)], 8⟩ (resOf []) ⟨[(0, .cells 42 (cE a0)), (1, .mp (gmE y3.1.1) y3.1.2), (2, .cells 116 [.mp 1]), (3, .cells 23 [dA 5 y3.2]), (4, .cells 42 (cE a0)), (6, .obj (.deferred (some []))), (7, .loop .ready none [(3, .v (.one (.ptr 2 0))), (4, .v (.one (.ptr 3 0))), (9, .v (.one (.fn 96 [(4, 0)])))] 31 #[10, 11] m74_c0 m74_c1 6)], [(5, some ⟨9, 1, (Enc.encL y3.2).length, []⟩)], 14⟩ := by
   refine CallM.of_bodyD ⟨[], [(0, .cells 42 (cE a0)), (1, .mp (gmE y3.1.1) y3.1.2), (2, .cells 116 [.mp 1]), (3, .cells 23 [dA 5 y3.2]), (4, .cells 42 (cE a0)), (6, .obj (.deferred (some []))), (7, .loop .ready none [(3, .v (.one (.ptr 2 0))), (4, .v (.one (.ptr 3 0))), (9, .v (.one (.fn 96 [(4, 0)])))] 31 #[10, 11] m74_c0 m74_c1 6)], [(5, some ⟨9, 1, (Enc.encL y3.2).length, []⟩)], 14, 10, []⟩ rfl rfl en_96 (lb rfl) rfl .nil (fun w0 M V0 Q hv1 hQ1 => ?_)
   simp only [entry]
   refine XC.seq <| XC.region <| XL.put rfl rfl (lb rfl) (OpOK.box rfl) <| XL.nil <| XQ.seq <| XC.seq <| XC.region ?_
   refine bindK h1 (fun y5 h2 h1 => ?_)
   have hc6 : CallM Try.prog 97 [] ⟨[(0, .cells 42 (cE a0)), (1, .mp (gmE (gmNil : GMap Bs Bool).1) (gmNil : GMap Bs Bool).2), (2, .cells 116 [.mp 1]), (3, .cells 23 [dA 5 ([] : List Bs)]), (4, .cells 42 (cE a0)), (6, .obj (.deferred (some []))), (7, .loop .ready none [(3, .v (.one (.ptr 2 0))), (4, .v (.one (.ptr 3 0))), (9, .v (.one (.fn 96 [(4, 0)])))] 31 #[10, 11] m74_c0 m74_c1 6), (8, .cells 150 [.yld 7])], [(5, some ⟨9, 1, (Enc.encL ([] : List Bs)).length, []⟩)], 9⟩ (resOf [.agg [dB true, dB false, dI 0, dI 0, dI (-1), dB false, dB false, dI 0, dI 0, dI (-1), dB false, dB false, dI 1, dI 0, dI (-1), dB false, dB true, dI (-1), dI 0, dI (-1), dB false, dB false, dI 0, dI 2, dI (-1), dB false, dB false, dI 0, dI 2, dI 1, dB false, dB false, dI 0, dI 2, dI 1, dB false, dB false, dI 0, dI 2, dI 1, dB false, dB false, dI 0, dI 3, dI (-1), dB false, dB false, dI 0, dI 1, dI (-1), dB false, dB false, dI 0, dI 1, dI (-1), dB false, dB false, dI 0, dI 3, dI 2, dB true, dB false, dI 0, dI 0, dI (-1)]]) ⟨[(0, .cells 42 (cE a0)), (1, .mp (gmE (gmNil : GMap Bs Bool).1) (gmNil : GMap Bs Bool).2), (2, .cells 116 [.mp 1]), (3, .cells 23 [dA 5 ([] : List Bs)]), (4, .cells 42 (cE a0)), (6, .obj (.deferred (some []))), (7, .loop .ready none [(3, .v (.one (.ptr 2 0))), (4, .v (.one (.ptr 3 0))), (9, .v (.one (.fn 96 [(4, 0)])))] 31 #[10, 11] m74_c0 m74_c1 6), (8, .cells 150 [.yld 7]), (9, .cells 153 [dB true, dB false, dI 0, dI 0, dI (-1), dB false, dB false, dI 0, dI 0, dI (-1), dB false, dB false, dI 1, dI 0, dI (-1), dB false, dB true, dI (-1), dI 0, dI (-1), dB false, dB false, dI 0, dI 2, dI (-1), dB false, dB false, dI 0, dI 2, dI 1, dB false, dB false, dI 0, dI 2, dI 1, dB false, dB false, dI 0, dI 2, dI 1, dB false, dB false, dI 0, dI 3, dI (-1), dB false, dB false, dI 0, dI 1, dI (-1), dB false, dB false, dI 0, dI 1, dI (-1), dB false, dB false, dI 0, dI 3, dI 2, dB true, dB false, dI 0, dI 0, dI (-1)])], [(5, some ⟨9, 1, (Enc.encL ([] : List Bs)).length, []⟩)], 10⟩ := by
    refine CallM.of_bodyD ⟨[(0, .v (.one (.ptr 9 0)))], [(0, .cells 42 (cE a0)), (1, .mp (gmE (gmNil : GMap Bs Bool).1) (gmNil : GMap Bs Bool).2), (2, .cells 116 [.mp 1]), (3, .cells 23 [dA 5 ([] : List Bs)]), (4, .cells 42 (cE a0)), (6, .obj (.deferred (some []))), (7, .loop .ready none [(3, .v (.one (.ptr 2 0))), (4, .v (.one (.ptr 3 0))), (9, .v (.one (.fn 96 [(4, 0)])))] 31 #[10, 11] m74_c0 m74_c1 6), (8, .cells 150 [.yld 7]), (9, .cells 153 [dB true, dB false, dI 0, dI 0, dI (-1), dB false, dB false, dI 0, dI 0, dI (-1), dB false, dB false, dI 1, dI 0, dI (-1), dB false, dB true, dI (-1), dI 0, dI (-1), dB false, dB false, dI 0, dI 2, dI (-1), dB false, dB false, dI 0, dI 2, dI 1, dB false, dB false, dI 0, dI 2, dI 1, dB false, dB false, dI 0, dI 2, dI 1, dB false, dB false, dI 0, dI 3, dI (-1), dB false, dB false, dI 0, dI 1, dI (-1), dB false, dB false, dI 0, dI 1, dI (-1), dB false, dB false, dI 0, dI 3, dI 2, dB true, dB false, dI 0, dI 0, dI (-1)])], [(5, some ⟨9, 1, (Enc.encL ([] : List Bs)).length, []⟩)], 10, 15, []⟩ rfl rfl en_97 (lb rfl) rfl (RAs.agg ag_153 rfl rfl rfl rfl .nil) (fun w0 M V0 Q hv2 hQ2 => ?_)
    simp only [entry]
    refine XC.seq <| XC.region <| XL.put rfl rfl (lb rfl) (OpOK.alloc z_153 rfl) <| XL.nil <| XQ.seq <| XC.seq <| XC.region <| rR rfl rfl rfl (RO.build2 bd_152 rfl rfl rfl rfl) <| rR rfl rfl rfl (RO.build1 bd_152 rfl rfl rfl) <| rR rfl rfl rfl (RO.build2 bd_152 rfl rfl rfl rfl) <| rR rfl rfl rfl (RO.build3 bd_152 rfl rfl rfl rfl rfl) <| rR rfl rfl rfl (RO.build2 bd_152 rfl rfl rfl rfl) <| rR rfl rfl rfl (RO.build2 bd_152 rfl rfl rfl rfl) <| rR rfl rfl rfl (RO.build2 bd_152 rfl rfl rfl rfl) ?_
    refine rR rfl rfl rfl (RO.build2 bd_152 rfl rfl rfl rfl) <| rR rfl rfl rfl (RO.build2 bd_152 rfl rfl rfl rfl) <| rR rfl rfl rfl (RO.build2 bd_152 rfl rfl rfl rfl) <| rR rfl rfl rfl (RO.build2 bd_152 rfl rfl rfl rfl) <| rR rfl rfl rfl (RO.build2 bd_152 rfl rfl rfl rfl) <| rR rfl rfl rfl (RO.build2 bd_152 rfl rfl rfl rfl) <| rR rfl rfl rfl (RO.buildN bd_153 rfl (.cons rfl (.cons rfl (.cons rfl (.cons rfl (.cons rfl (.cons rfl (.cons rfl (.cons rfl (.cons rfl (.cons rfl (.cons rfl (.cons rfl (.cons rfl .nil))))))))))))) rfl) <| XL.eff rfl rfl (OpOK.store ag_153 rfl rfl rfl rfl (lb rfl) rfl) <| XL.nil <| XQ.seq <| XC.ret ?_
    have e_ := Option.some.inj h2
    subst e_
    exact hQ2 _ _ _ (.inr rfl) rfl (stle (tR rfl tZ) (hR rfl (hR rfl (hR rfl (hR rfl (hR rfl (hR rfl (hR rfl (hR rfl (hR rfl hZ))))))))) (kR rfl kZ) rfl (Nat.le_trans hv2 (lb rfl)) rfl rfl rfl (bB rfl rfl (bG rfl (bB rfl rfl (bB rfl rfl (bB rfl rfl (bB rfl rfl (bB rfl rfl (bB rfl rfl (bB rfl rfl bZ))))))))) rfl rfl)
   refine XL.put rfl rfl (lb rfl) (OpOK.callW rfl rfl rfl hc6 rfl (hR rfl (hR rfl (hR rfl (hR rfl (hR rfl (hR rfl (hR rfl (hR rfl hZ)))))))) (kR rfl kZ)) <| XL.put rfl rfl (lb rfl) (OpOK.alloc z_153 rfl) <| XL.eff rfl rfl (OpOK.store ag_153 rfl rfl rfl rfl (lb rfl) rfl) <| XL.nil <| XQ.seq <| XC.seq <| XC.region <| XL.put rfl rfl (lb rfl) (OpOK.alloc z_155 rfl) <| XL.nil <| XQ.seq <| XC.seq <| XC.region <| rR rfl rfl rfl (RO.makeFunc3 rfl rfl rfl) <| XL.eff rfl rfl (OpOK.store ag_155 rfl rfl rfl rfl (lb rfl) rfl) ?_
   refine XL.nil <| XQ.seq <| XC.region <| rR rfl rfl rfl (RO.loadOwn ag_155 rfl rfl rfl) <| rR rfl rfl rfl (RO.loadOwnAgg ag_42 rfl rfl rfl rfl) ?_
   refine bindK h1 (fun x7 hx7 h1 => ?_)
   refine XL.put rfl rfl (lb rfl) (OpOK.callG (hp1' := [(8, .cells 150 [.yld 7]), (7, .loop .ready none [(3, .v (.one (.ptr 2 0))), (4, .v (.one (.ptr 3 0))), (9, .v (.one (.fn 96 [(4, 0)])))] 31 #[10, 11] m74_c0 m74_c1 6), (6, .obj (.deferred (some []))), (2, .cells 116 [.mp 1]), (1, .mp (gmE x7.2.1.1) x7.2.1.2), (3, .cells 23 [dA 5 x7.2.2]), (4, .cells 42 (cE a0)), (10, .cells 153 [dB true, dB false, dI 0, dI 0, dI (-1), dB false, dB false, dI 0, dI 0, dI (-1), dB false, dB false, dI 1, dI 0, dI (-1), dB false, dB true, dI (-1), dI 0, dI (-1), dB false, dB false, dI 0, dI 2, dI (-1), dB false, dB false, dI 0, dI 2, dI 1, dB false, dB false, dI 0, dI 2, dI 1, dB false, dB false, dI 0, dI 2, dI 1, dB false, dB false, dI 0, dI 3, dI (-1), dB false, dB false, dI 0, dI 1, dI (-1), dB false, dB false, dI 0, dI 1, dI (-1), dB false, dB false, dI 0, dI 3, dI 2, dB true, dB false, dI 0, dI 0, dI (-1)]), (11, .cells 155 [.fn 98 [(8, 0), (10, 0), (11, 0)]])]) (tk1' := [(5, some ⟨9, 1, (Enc.encL x7.2.2).length, []⟩)]) (hpF := [(0, .cells 42 (cE a0)), (9, .cells 153 [dB true, dB false, dI 0, dI 0, dI (-1), dB false, dB false, dI 0, dI 0, dI (-1), dB false, dB false, dI 1, dI 0, dI (-1), dB false, dB true, dI (-1), dI 0, dI (-1), dB false, dB false, dI 0, dI 2, dI (-1), dB false, dB false, dI 0, dI 2, dI 1, dB false, dB false, dI 0, dI 2, dI 1, dB false, dB false, dI 0, dI 2, dI 1, dB false, dB false, dI 0, dI 3, dI (-1), dB false, dB false, dI 0, dI 1, dI (-1), dB false, dB false, dI 0, dI 1, dI (-1), dB false, dB false, dI 0, dI 3, dI 2, dB true, dB false, dI 0, dI 0, dI (-1)])]) (tkF := []) (res2 := resOf [.one (dB x7.1)]) (nx2 := 14) [8, 7, 6, 2, 1, 3, 5, 4, 10, 11] rfl rfl (m98f0_ok a0 0 gmNil ([]) a0 x7 hx7) rfl rfl (qB rfl rfl (qB rfl rfl (qB rfl rfl (qB rfl rfl (qG rfl (qB rfl rfl (qB rfl rfl (qB rfl rfl (qB rfl rfl qZ))))))))) rfl rfl (gR rfl (gR rfl (gR rfl (gR rfl (gG rfl (gR rfl (gR rfl (gR rfl (gR rfl gZ))))))))) (jR rfl jZ) (hR rfl (hR rfl hZ)) kZ rfl rfl rfl rfl rfl (bB rfl rfl (bB rfl rfl (bB rfl rfl (bB rfl rfl (bG rfl (bB rfl rfl (bB rfl rfl (bB rfl rfl (bB rfl rfl bZ))))))))) rfl rfl rfl rfl) <| XL.nil ?_
   have e_ := Option.some.inj h1
   subst e_
   exact hQ1 _ _ _ (.inl rfl) rfl (stle tZ (hR rfl (hR rfl (hR rfl (hR rfl (hR rfl (hR rfl (hR rfl hZ))))))) (kR rfl kZ) rfl (Nat.le_trans hv1 (lb rfl)) rfl rfl rfl (bB rfl rfl (bG rfl (bB rfl rfl (bB rfl rfl (bB rfl rfl (bB rfl rfl (bB rfl rfl bZ))))))) rfl rfl)
  refine XC.exec (rangeFunc_out (e := .normal) rfl hc4 rfl rfl (by intro h; cases h) rfl) rfl ?_
  refine XQ.inBlock <| XQ.seq <| XC.seq <| XC.region <| rR rfl rfl rfl (RO.loadOwn ag_23 rfl rfl rfl) <| rA rfl rfl rfl <| XL.nil <| XQ.seq <| XC.ret ?_
  have e_ := Option.some.inj h0
  subst e_
  exact XQ.retF (fun _ _ h => h) rfl (RAs.tmp rfl .nil) (.cons (.one (.app _ _ _)) .nil)
end Go.Proofs.Ytijcchddnnnmdaa
namespace Go.Proofs.Ytijcchddnnnmdaa
open Go.RowKit Go.Shelf
set_option linter.unusedSimpArgs false
set_option linter.unusedVariables false
theorem fo_45_1 : fieldOff Try.prog 45 1 = some 1 := by kernel_rfl
theorem fo_45_2 : fieldOff Try.prog 45 2 = some 6 := by kernel_rfl
theorem fo_48_0 : fieldOff Try.prog 48 0 = some 0 := by kernel_rfl
theorem fo_48_1 : fieldOff Try.prog 48 1 = some 1 := by kernel_rfl
theorem fo_48_3 : fieldOff Try.prog 48 3 = some 3 := by kernel_rfl
theorem fo_48_4 : fieldOff Try.prog 48 4 = some 8 := by kernel_rfl
theorem fo_48_6 : fieldOff Try.prog 48 6 = some 14 := by kernel_rfl
theorem fo_48_7 : fieldOff Try.prog 48 7 = some 15 := by kernel_rfl
theorem fo_48_8 : fieldOff Try.prog 48 8 = some 22 := by kernel_rfl
theorem fo_84_0 : fieldOff Try.prog 84 0 = some 0 := by kernel_rfl
theorem fo_84_1 : fieldOff Try.prog 84 1 = some 1 := by kernel_rfl
theorem fo_87_0 : fieldOff Try.prog 87 0 = some 0 := by kernel_rfl
theorem fo_87_1 : fieldOff Try.prog 87 1 = some 1 := by kernel_rfl
theorem fo_87_3 : fieldOff Try.prog 87 3 = some 7 := by kernel_rfl
theorem fo_89_0 : fieldOff Try.prog 89 0 = some 0 := by kernel_rfl
theorem fo_89_1 : fieldOff Try.prog 89 1 = some 1 := by kernel_rfl
theorem fo_89_3 : fieldOff Try.prog 89 3 = some 7 := by kernel_rfl
theorem fo_115_0 : fieldOff Try.prog 115 0 = some 0 := by kernel_rfl
theorem fo_115_1 : fieldOff Try.prog 115 1 = some 1 := by kernel_rfl
theorem fo_115_2 : fieldOff Try.prog 115 2 = some 2 := by kernel_rfl
theorem ag_4 : tyAgg Try.prog 4 = some (false, 1) := by kernel_rfl
theorem ag_43 : tyAgg Try.prog 43 = some (false, 1) := by kernel_rfl
theorem ag_46 : tyAgg Try.prog 46 = some (false, 1) := by kernel_rfl
theorem ag_48 : tyAgg Try.prog 48 = some (true, 23) := by kernel_rfl
theorem ag_68 : tyAgg Try.prog 68 = some (false, 1) := by kernel_rfl
theorem ag_84 : tyAgg Try.prog 84 = some (true, 6) := by kernel_rfl
theorem ag_85 : tyAgg Try.prog 85 = some (false, 1) := by kernel_rfl
theorem ag_87 : tyAgg Try.prog 87 = some (true, 8) := by kernel_rfl
theorem ag_89 : tyAgg Try.prog 89 = some (true, 15) := by kernel_rfl
theorem ag_115 : tyAgg Try.prog 115 = some (true, 10) := by kernel_rfl
theorem sl_43 : tySlice Try.prog 43 = some (84, 6) := by kernel_rfl
theorem sl_46 : tySlice Try.prog 46 = some (89, 15) := by kernel_rfl
theorem sl_85 : tySlice Try.prog 85 = some (115, 10) := by kernel_rfl
theorem z_40 : tyZero Try.prog 40 = some [.slice none 0 0] := by kernel_rfl
theorem z_84 : tyZero Try.prog 84 = some [.string ByteArray.empty, .int .i64 0, .int .i64 0, .string ByteArray.empty, .slice none 0 0, .slice none 0 0] := by kernel_rfl
theorem z_89 : tyZero Try.prog 89 = some [.string ByteArray.empty, .int .i64 0, .int .i64 0, .string ByteArray.empty, .slice none 0 0, .slice none 0 0, .int .i64 0, .int .i64 0, .int .i64 0, .int .i64 0, .string ByteArray.empty, .slice none 0 0, .slice none 0 0, .int .i64 0, .slice none 0 0] := by kernel_rfl
theorem z_115 : tyZero Try.prog 115 = some [.string ByteArray.empty, .bool false, .int .i64 0, .int .i64 0, .int .i64 0, .string ByteArray.empty, .slice none 0 0, .slice none 0 0, .int .i64 0, .slice none 0 0] := by kernel_rfl
theorem el_42 : tyElem Try.prog 42 = some (5, 80) := by kernel_rfl
theorem en_31 : Enters Try.prog 31 := enters_of Try.func31 (by kernel_rfl) rfl
theorem en_37 : Enters Try.prog 37 := enters_of Try.func37 (by kernel_rfl) rfl
theorem en_52 : Enters Try.prog 52 := enters_of Try.func52 (by kernel_rfl) rfl
theorem en_53 : Enters Try.prog 53 := enters_of Try.func53 (by kernel_rfl) rfl
theorem en_67 : Enters Try.prog 67 := enters_of Try.func67 (by kernel_rfl) rfl
theorem en_73 : Enters Try.prog 73 := enters_of Try.func73 (by kernel_rfl) rfl
theorem en_75 : Enters Try.prog 75 := enters_of Try.func75 (by kernel_rfl) rfl
theorem en_89 : Enters Try.prog 89 := enters_of Try.func89 (by kernel_rfl) rfl
theorem mixed : Try.prog.follows .mixedOrders = true := by kernel_rfl
noncomputable def m53_c0 : Code := (cA (cA (cB (cA (cB (cB (cB (cB (bodyC Try.f53)))))))))
noncomputable def m53_c1 : Code := (cB (cA (cB (cA (cB (cB (cB (cB (bodyC Try.f53)))))))))
def m37_l0 (a0 : Dcl) (s1 : (List Bs) × Int) : Option (LO ((List Bs) × Int) (((List Bs)))) :=
  cond (decide (s1.2 < (a0.ctors.length : Int)))
    (Option.bind (idx a0.ctors s1.2) fun (x8 : Ctr) =>
  guardO (Nat.ble (s1.1.length + ([x8.name]).length) 1000000000)
  (some (.next ((s1.1 ++ ([x8.name])), (w64 (s1.2 + 1))))))
    (some (.done s1.1))
def m37_l1 (a0 : Dcl) (s1 : (List Bs) × Int) : Option (LO ((List Bs) × Int) (((List Bs)))) :=
  cond (decide (s1.2 < (a0.funs.length : Int)))
    (Option.bind (idx a0.funs s1.2) fun (x16 : Fn) =>
  guardO (Nat.ble (s1.1.length + ([x16.name]).length) 1000000000)
  (some (.next ((s1.1 ++ ([x16.name])), (w64 (s1.2 + 1))))))
    (some (.done s1.1))
def m37 (a0 : Dcl) : Option ((List Bs)) :=
  Option.bind (cond (a0.kind == 0)
    (some (a0.kind == 0))
    (cond (a0.kind == 1)
    (some (a0.kind == 1))
    (some (a0.kind == 2)))) (fun (v1 : Bool) => cond v1
    (guardO (Nat.ble ([a0.name]).length 1000000000)
  (some ([a0.name])))
    (cond (a0.kind == 3)
    (guardO (Nat.ble ([a0.name]).length 1000000000)
  (Option.bind (loopN (m37_l0 a0) FUEL ([a0.name], 0)) (fun (o6 : (List Bs)) => guardO (Nat.ble (a0.name.length + ([46, 114, 101, 99] : List UInt8).length) 1000000000)
  (guardO (Nat.ble (o6.length + ([(a0.name ++ ([46, 114, 101, 99] : List UInt8))]).length) 1000000000)
  (some (o6 ++ ([(a0.name ++ ([46, 114, 101, 99] : List UInt8))])))))))
    (cond (a0.kind == 4)
    (Option.bind (loopN (m37_l1 a0) FUEL (([] : List Bs), 0)) (fun (o14 : (List Bs)) => some o14))
    (some ([] : List Bs)))))
set_option maxRecDepth 100000 in
set_option maxHeartbeats 8000000 in
theorem m37_ok (a0 : Dcl) (r : (List Bs)) (h0 : m37 a0 = some r) : Fun Try.prog 37 [.agg (cE a0)] (resOf [.one (dS r)]) := by
  unfold m37 at h0
  refine Fun.of_bodyM 9 61 Try.func37 rfl en_37 rfl (lb rfl) (fun S w => ?_)
  simp only [entry]
  refine XC.seq <| XC.region <| XL.put rfl rfl (lb rfl) (OpOK.box rfl) <| rA rfl rfl rfl <| XL.nil <| XQ.seq <| XC.seq <| XC.region <| rA rfl rfl rfl <| XL.nil <| XQ.seq <| XC.seq <| XC.seq <| XC.region ?_
  refine rR rfl rfl rfl (RO.fieldOwn fo_48_0 rfl) <| rR rfl rfl rfl (RO.loadOwn ag_3 rfl rfl rfl) <| XL.nil <| XQ.seq <| XC.block <| XC.seq <| XC.seq <| XC.region <| rR rfl rfl rfl (RO.binInt rfl rfl rfl) <| rA rfl rfl rfl <| XL.nil <| XQ.seq ?_
  refine XC.joinR (fun (v1 : Bool) => ⟨[(1, .v (.one (.ptr 0 0))), (3, .v (.one (dN))), (9, .v (.one (dI a0.kind))), (10, .v (.one (dB v1)))], [(0, .cells 48 (cE a0))], [], 1, 61, []⟩) (fun (v1 : Bool) => (cond v1
      (guardO (Nat.ble ([a0.name]).length 1000000000)
    (some ([a0.name])))
      (cond (a0.kind == 3)
      (guardO (Nat.ble ([a0.name]).length 1000000000)
    (Option.bind (loopN (m37_l0 a0) FUEL ([a0.name], 0)) (fun (o6 : (List Bs)) => guardO (Nat.ble (a0.name.length + ([46, 114, 101, 99] : List UInt8).length) 1000000000)
    (guardO (Nat.ble (o6.length + ([(a0.name ++ ([46, 114, 101, 99] : List UInt8))]).length) 1000000000)
    (some (o6 ++ ([(a0.name ++ ([46, 114, 101, 99] : List UInt8))])))))))
      (cond (a0.kind == 4)
      (Option.bind (loopN (m37_l1 a0) FUEL (([] : List Bs), 0)) (fun (o14 : (List Bs)) => some o14))
      (some ([] : List Bs))))) = some r) ?_ ?_
  ·
   refine bindK h0 (fun w1_ h1 h0 => ?_)
   refine XC.cond (b := (a0.kind == 0)) rfl (fun c2 => ?_) (fun c2 => ?_)
   ·
    replace h1 := condT c2 h1
    refine XC.skip ?_
    have e_ := Option.some.inj h1
    subst e_
    exact XQ.joinR (a0.kind == 0) (stle (tR rfl (tR rfl (tR rfl (tR rfl tZ)))) (hR rfl hZ) kZ rfl (Nat.zero_le _) rfl rfl rfl (bB rfl rfl bZ) rfl rfl) h0
   ·
    replace h1 := condF c2 h1
    refine XC.seq <| XC.region <| rR rfl rfl rfl (RO.binInt rfl rfl rfl) <| rA rfl rfl rfl <| XL.nil <| XQ.seq ?_
    refine XC.cond (b := (a0.kind == 1)) rfl (fun c3 => ?_) (fun c3 => ?_)
    ·
     replace h1 := condT c3 h1
     refine XC.skip ?_
     have e_ := Option.some.inj h1
     subst e_
     exact XQ.joinR (a0.kind == 1) (stle (tR rfl (tR rfl (tR rfl (tR rfl tZ)))) (hR rfl hZ) kZ rfl (Nat.zero_le _) rfl rfl rfl (bB rfl rfl bZ) rfl rfl) h0
    ·
     replace h1 := condF c3 h1
     refine XC.region <| rR rfl rfl rfl (RO.binInt rfl rfl rfl) <| rA rfl rfl rfl <| XL.nil ?_
     have e_ := Option.some.inj h1
     subst e_
     exact XQ.joinR (a0.kind == 2) (stle (tR rfl (tR rfl (tR rfl (tR rfl tZ)))) (hR rfl hZ) kZ rfl (Nat.zero_le _) rfl rfl rfl (bB rfl rfl bZ) rfl rfl) h0
  ·
   intro v1 h0
   refine XQ.seq ?_
   refine XC.cond (b := v1) rfl (fun c4 => ?_) (fun c4 => ?_)
   ·
    replace h0 := condT c4 h0
    refine XC.region <| rM rfl rfl rfl <| rR rfl rfl rfl (RO.fieldOwn fo_48_1 rfl) <| rR rfl rfl rfl (RO.loadOwn ag_9 rfl rfl rfl) <| XL.put rfl rfl (lb rfl) (OpOK.lit1E (α := Bs) (a0.name) sl_23 z_9 rfl rfl (lb rfl) (lb rfl) rfl rfl (.cons (.d _) .nil) rfl) ?_
    refine guardK h0 (fun g5 h0 => ?_)
    refine XL.put rfl rfl (lb rfl) (OpOK.appendNilE (α := Bs) sl_23 el_9 rfl rfl rfl (.app _ _) g5) <| rA rfl rfl rfl <| XL.nil <| XQ.inBlock <| XQ.seq <| XC.seq <| XC.region <| rM rfl rfl rfl <| rA rfl rfl rfl <| XL.nil <| XQ.seq <| XC.ret ?_
    have e_ := Option.some.inj h0
    subst e_
    exact XQ.retF (fun _ _ h => h) rfl (RAs.tmp rfl .nil) (.cons (.one (.app _ _ _)) .nil)
   ·
    replace h0 := condF c4 h0
    refine XC.seq <| XC.region <| rR rfl rfl rfl (RO.binInt rfl rfl rfl) <| rA rfl rfl rfl <| XL.nil <| XQ.seq ?_
    refine XC.cond (b := (a0.kind == 3)) rfl (fun c6 => ?_) (fun c6 => ?_)
    ·
     replace h0 := condT c6 h0
     refine XC.seq <| XC.region <| rM rfl rfl rfl <| rR rfl rfl rfl (RO.fieldOwn fo_48_1 rfl) <| rR rfl rfl rfl (RO.loadOwn ag_9 rfl rfl rfl) <| XL.put rfl rfl (lb rfl) (OpOK.lit1E (α := Bs) (a0.name) sl_23 z_9 rfl rfl (lb rfl) (lb rfl) rfl rfl (.cons (.d _) .nil) rfl) ?_
     refine guardK h0 (fun g7 h0 => ?_)
     refine XL.put rfl rfl (lb rfl) (OpOK.appendNilE (α := Bs) sl_23 el_9 rfl rfl rfl (.app _ _) g7) <| rA rfl rfl rfl <| XL.nil <| XQ.seq <| XC.seq <| XC.seq <| XC.region <| rR rfl rfl rfl (RO.fieldOwn fo_48_6 rfl) <| rR rfl rfl rfl (RO.loadOwn ag_43 rfl rfl rfl) <| rR rfl rfl rfl (RO.lenE (α := Ctr) sl_43 rfl (.d _)) <| rM rfl rfl rfl <| XL.nil <| XQ.seq <| XC.block ?_
     refine XC.joinX 1 (fun (o8 : (List Bs)) => ⟨[(1, .v (.one (.ptr 0 0))), (3, .v (.one (dA 2 o8)))], [(0, .cells 48 (cE a0))], [(1, some ⟨9, 1, (Enc.encL ([a0.name] : List Bs)).length, []⟩), (2, some ⟨9, 1, (Enc.encL o8).length, []⟩)], 3, 61, []⟩) (fun (o8 : (List Bs)) => (guardO (Nat.ble (a0.name.length + ([46, 114, 101, 99] : List UInt8).length) 1000000000)
       (guardO (Nat.ble (o8.length + ([(a0.name ++ ([46, 114, 101, 99] : List UInt8))]).length) 1000000000)
       (some (o8 ++ ([(a0.name ++ ([46, 114, 101, 99] : List UInt8))]))))) = some r) ?_ ?_
     ·
      refine bindK h0 (fun o9 hl1 h0 => ?_)
      refine XC.loopM (m37_l0 a0) (fun s1 => ⟨[(1, .v (.one (.ptr 0 0))), (3, .v (.one (dA 2 s1.1))), (27, .v (.one (dS a0.ctors))), (28, .v (.one (dI (a0.ctors.length : Int)))), (29, .v (.one (dI s1.2)))], [(0, .cells 48 (cE a0))], [(1, some ⟨9, 1, (Enc.encL ([a0.name] : List Bs)).length, []⟩), (2, some ⟨9, 1, (Enc.encL s1.1).length, []⟩)], 3, 61, []⟩) ([a0.name], 0) o9 (stle (tR rfl (tR rfl (tR rfl (tR rfl (tR rfl tZ))))) (hR rfl hZ) (kR rfl (kR rfl kZ)) rfl (Nat.zero_le _) rfl rfl rfl (bB rfl rfl bZ) rfl rfl) hl1 (fun s1 n1 oo1 h1 ho1 => ?_)
      unfold m37_l0 at h1
      refine XC.seq <| XC.region <| rR rfl rfl rfl (RO.binInt rfl rfl rfl) <| XL.nil <| XQ.seq <| XC.seq ?_
      refine XC.cond (b := (decide (s1.2 < (a0.ctors.length : Int)))) rfl (fun c10 => ?_) (fun c10 => ?_)
      ·
       replace h1 := condT c10 h1
       refine XC.skip <| XQ.seq <| XC.seq <| XC.block <| XC.seq <| XC.region ?_
       refine bindK h1 (fun x11 hx11 h1 => ?_)
       refine rR rfl rfl rfl (RO.indexE (α := Ctr) sl_43 rfl (.d _) rfl hx11) <| rR rfl rfl rfl (RO.loadPelAgg ag_84 rfl rfl rfl) <| XL.put rfl rfl (lb rfl) (OpOK.alloc z_84 rfl) <| XL.eff rfl rfl (OpOK.store ag_84 rfl rfl rfl rfl (lb rfl) rfl) <| XL.nil <| XQ.seq <| XC.region <| rM rfl rfl rfl <| rR rfl rfl rfl (RO.fieldOwn fo_84_0 rfl) <| rR rfl rfl rfl (RO.loadOwn ag_9 rfl rfl rfl) <| XL.put rfl rfl (lb rfl) (OpOK.lit1E (α := Bs) (x11.name) sl_23 z_9 rfl rfl (lb rfl) (lb rfl) rfl rfl (.cons (.d _) .nil) rfl) ?_
       refine guardK h1 (fun g12 h1 => ?_)
       refine XL.put rfl rfl (lb rfl) (OpOK.appendE (α := Bs) sl_23 el_9 rfl rfl rfl rfl rfl (.app _ _) g12) <| rA rfl rfl rfl <| XL.nil <| XQ.inBlock <| XQ.seq <| XC.region <| rR rfl rfl rfl (RO.binInt rfl rfl rfl) <| rM rfl rfl rfl <| XL.nil ?_
       have e_ := Option.some.inj h1
       subst e_
       refine XQ.nextM ((s1.1 ++ ([x11.name])), (w64 (s1.2 + 1))) (stle (tR rfl (tR rfl (tR rfl (tR rfl (tR rfl tZ))))) (hR rfl hZ) (kR rfl (kR rfl kZ)) rfl (Nat.zero_le _) rfl rfl rfl (bB rfl rfl bZ) rfl rfl) ho1
      ·
       replace h1 := condF c10 h1
       refine XC.exit <| XQ.thenE <| XQ.thenE ?_
       have e_ := Option.some.inj h1
       subst e_
       have e_ : _ = _ := ho1
       subst e_
       exact XQ.joinX s1.1 (stle (tR rfl (tR rfl tZ)) (hR rfl hZ) (kR rfl (kR rfl kZ)) rfl (Nat.zero_le _) rfl rfl rfl (bB rfl rfl bZ) rfl rfl) h0
     ·
      intro o8 h0
      refine XQ.blockX <| XQ.seq <| XC.region <| rM rfl rfl rfl <| rR rfl rfl rfl (RO.fieldOwn fo_48_1 rfl) <| rR rfl rfl rfl (RO.loadOwn ag_9 rfl rfl rfl) ?_
      refine guardK h0 (fun g13 h0 => ?_)
      refine rR rfl rfl rfl (RO.addS rfl rfl g13) <| XL.put rfl rfl (lb rfl) (OpOK.lit1E (α := Bs) ((a0.name ++ ([46, 114, 101, 99] : List UInt8))) sl_23 z_9 rfl rfl (lb rfl) (lb rfl) rfl rfl (.cons (.d _) .nil) rfl) ?_
      refine guardK h0 (fun g14 h0 => ?_)
      refine XL.put rfl rfl (lb rfl) (OpOK.appendE (α := Bs) sl_23 el_9 rfl rfl rfl rfl rfl (.app _ _) g14) <| rA rfl rfl rfl <| XL.nil <| XQ.inBlock <| XQ.seq <| XC.seq <| XC.region <| rM rfl rfl rfl <| rA rfl rfl rfl <| XL.nil <| XQ.seq <| XC.ret ?_
      have e_ := Option.some.inj h0
      subst e_
      exact XQ.retF (fun _ _ h => h) rfl (RAs.tmp rfl .nil) (.cons (.one (.app _ _ _)) .nil)
    ·
     replace h0 := condF c6 h0
     refine XC.seq <| XC.region <| rR rfl rfl rfl (RO.binInt rfl rfl rfl) <| rA rfl rfl rfl <| XL.nil <| XQ.seq ?_
     refine XC.cond (b := (a0.kind == 4)) rfl (fun c15 => ?_) (fun c15 => ?_)
     ·
      replace h0 := condT c15 h0
      refine XC.seq <| XC.region <| rR rfl rfl rfl (RO.fieldOwn fo_48_8 rfl) <| rR rfl rfl rfl (RO.loadOwn ag_46 rfl rfl rfl) <| rR rfl rfl rfl (RO.lenE (α := Fn) sl_46 rfl (.d _)) <| rM rfl rfl rfl <| XL.nil <| XQ.seq <| XC.block ?_
      refine XC.joinX 3 (fun (o16 : (List Bs)) => ⟨[(3, .v (.one (dA 1 o16)))], [(0, .cells 48 (cE a0))], [(1, some ⟨9, 1, (Enc.encL o16).length, []⟩)], 2, 61, []⟩) (fun (o16 : (List Bs)) => (some o16) = some r) ?_ ?_
      ·
       refine XC.adoptT (t := 3) 9 1 rfl ?_
       refine bindK h0 (fun o17 hl1 h0 => ?_)
       refine XC.loopM (m37_l1 a0) (fun s1 => ⟨[(3, .v (.one (dA 1 s1.1))), (48, .v (.one (dS a0.funs))), (49, .v (.one (dI (a0.funs.length : Int)))), (50, .v (.one (dI s1.2)))], [(0, .cells 48 (cE a0))], [(1, some ⟨9, 1, (Enc.encL s1.1).length, []⟩)], 2, 61, []⟩) (([] : List Bs), 0) o17 (stle (tR rfl (tR rfl (tR rfl (tR rfl tZ)))) (hR rfl hZ) (kR rfl kZ) rfl (Nat.zero_le _) rfl rfl rfl (bB rfl rfl bZ) rfl rfl) hl1 (fun s1 n1 oo1 h1 ho1 => ?_)
       unfold m37_l1 at h1
       refine XC.seq <| XC.region <| rR rfl rfl rfl (RO.binInt rfl rfl rfl) <| XL.nil <| XQ.seq <| XC.seq ?_
       refine XC.cond (b := (decide (s1.2 < (a0.funs.length : Int)))) rfl (fun c18 => ?_) (fun c18 => ?_)
       ·
        replace h1 := condT c18 h1
        refine XC.skip <| XQ.seq <| XC.seq <| XC.block <| XC.seq <| XC.region ?_
        refine bindK h1 (fun x19 hx19 h1 => ?_)
        refine rR rfl rfl rfl (RO.indexE (α := Fn) sl_46 rfl (.d _) rfl hx19) <| rR rfl rfl rfl (RO.loadPelAgg ag_89 rfl rfl rfl) <| XL.put rfl rfl (lb rfl) (OpOK.alloc z_89 rfl) <| XL.eff rfl rfl (OpOK.store ag_89 rfl rfl rfl rfl (lb rfl) rfl) <| XL.nil <| XQ.seq <| XC.region <| rM rfl rfl rfl <| rR rfl rfl rfl (RO.fieldOwn fo_89_0 rfl) <| rR rfl rfl rfl (RO.loadOwn ag_9 rfl rfl rfl) <| XL.put rfl rfl (lb rfl) (OpOK.lit1E (α := Bs) (x19.name) sl_23 z_9 rfl rfl (lb rfl) (lb rfl) rfl rfl (.cons (.d _) .nil) rfl) ?_
        refine guardK h1 (fun g20 h1 => ?_)
        refine XL.put rfl rfl (lb rfl) (OpOK.appendE (α := Bs) sl_23 el_9 rfl rfl rfl rfl rfl (.app _ _) g20) <| rA rfl rfl rfl <| XL.nil <| XQ.inBlock <| XQ.seq <| XC.region <| rR rfl rfl rfl (RO.binInt rfl rfl rfl) <| rM rfl rfl rfl <| XL.nil ?_
        have e_ := Option.some.inj h1
        subst e_
        refine XQ.nextM ((s1.1 ++ ([x19.name])), (w64 (s1.2 + 1))) (stle (tR rfl (tR rfl (tR rfl (tR rfl tZ)))) (hR rfl hZ) (kR rfl kZ) rfl (Nat.zero_le _) rfl rfl rfl (bB rfl rfl bZ) rfl rfl) ho1
       ·
        replace h1 := condF c18 h1
        refine XC.exit <| XQ.thenE <| XQ.thenE ?_
        have e_ := Option.some.inj h1
        subst e_
        have e_ : _ = _ := ho1
        subst e_
        exact XQ.joinX s1.1 (stle (tR rfl tZ) (hR rfl hZ) (kR rfl kZ) rfl (Nat.zero_le _) rfl rfl rfl (bB rfl rfl bZ) rfl rfl) h0
      ·
       intro o16 h0
       refine XQ.blockX <| XQ.inBlock <| XQ.seq <| XC.seq <| XC.region <| rM rfl rfl rfl <| rA rfl rfl rfl <| XL.nil <| XQ.seq <| XC.ret ?_
       have e_ := Option.some.inj h0
       subst e_
       exact XQ.retF (fun _ _ h => h) rfl (RAs.tmp rfl .nil) (.cons (.one (.app _ _ _)) .nil)
     ·
      replace h0 := condF c15 h0
      refine XC.skip <| XQ.inBlock <| XQ.seq <| XC.seq <| XC.region <| rM rfl rfl rfl <| rA rfl rfl rfl <| XL.nil <| XQ.seq <| XC.ret ?_
      have e_ := Option.some.inj h0
      subst e_
      exact XQ.retF (fun _ _ h => h) rfl (RAs.tmp rfl .nil) (.cons (.one (.nil _)) .nil)
def m89f4 (a0 : Bs) (a1 : GMap Bs Bool) (a2 : List Bs) (a3 : List Tm) (a4 : Dcl) : Option ((GMap Bs Bool) × (List Bs)) :=
  Option.bind (cond (!(gmVal a1 a0))
    (guardO (Nat.ble (a2.length + ([a0]).length) 1000000000)
  (some ((gmSet a1 a0 true), (a2 ++ ([a0])))))
    (some (a1, a2))) (fun (y1 : (GMap Bs Bool) × (List Bs)) => some (y1.1, y1.2))
set_option maxRecDepth 100000 in
set_option maxHeartbeats 8000000 in
theorem m89f4_ok (a0 : Bs) (a1 : GMap Bs Bool) (a2 : List Bs) (a3 : List Tm) (a4 : Dcl) (r : (GMap Bs Bool) × (List Bs)) (h0 : m89f4 a0 a1 a2 a3 a4 = some r) : CallM Try.prog 89 [.one (dS8 a0), .one (.ptr 0 0)] ⟨[(0, .cells 68 [.yld 1]), (1, .loop .ready none [(3, .v (.one (.ptr 3 0))), (6, .v (.one (.ptr 5 0))), (20, .v (.one (.fn 73 [(7, 0), (9, 0)])))] 33 #[21] m53_c0 m53_c1 2), (2, .obj (.deferred (some []))), (3, .cells 116 [.mp 4]), (4, .mp (gmE a1.1) a1.2), (5, .cells 23 [dA 6 a2]), (7, .cells 40 [dA 8 a3]), (9, .cells 48 (cE a4))], [(6, some ⟨9, 1, (Enc.encL a2).length, []⟩), (8, some ⟨42, 5, (Enc.encL a3).length, []⟩)], 10⟩ (resOf [.one (dB false)]) ⟨[(0, .cells 68 [.yld 1]), (1, .loop .ready none [(3, .v (.one (.ptr 3 0))), (6, .v (.one (.ptr 5 0))), (20, .v (.one (.fn 73 [(7, 0), (9, 0)])))] 33 #[21] m53_c0 m53_c1 2), (2, .obj (.deferred (some []))), (3, .cells 116 [.mp 4]), (4, .mp (gmE r.1.1) r.1.2), (5, .cells 23 [dA 6 r.2]), (7, .cells 40 [dA 8 a3]), (9, .cells 48 (cE a4))], [(6, some ⟨9, 1, (Enc.encL r.2).length, []⟩), (8, some ⟨42, 5, (Enc.encL a3).length, []⟩)], 10⟩ := by
  unfold m89f4 at h0
  refine CallM.of_bodyD ⟨[(3, .v (.one (dB false)))], [(0, .cells 68 [.yld 1]), (1, .loop .ready none [(3, .v (.one (.ptr 3 0))), (6, .v (.one (.ptr 5 0))), (20, .v (.one (.fn 73 [(7, 0), (9, 0)])))] 33 #[21] m53_c0 m53_c1 2), (2, .obj (.deferred (some []))), (3, .cells 116 [.mp 4]), (4, .mp (gmE r.1.1) r.1.2), (5, .cells 23 [dA 6 r.2]), (7, .cells 40 [dA 8 a3]), (9, .cells 48 (cE a4))], [(6, some ⟨9, 1, (Enc.encL r.2).length, []⟩), (8, some ⟨42, 5, (Enc.encL a3).length, []⟩)], 10, 8, []⟩ rfl rfl en_89 (lb rfl) rfl (RAs.tmp rfl .nil) (fun w0 M V0 Q hv0 hQ0 => ?_)
  simp only [entry]
  refine XC.seq <| XC.region <| rA rfl rfl rfl <| XL.nil <| XQ.seq <| XC.seq <| XC.region <| rR rfl rfl rfl (RO.loadOwn ag_68 rfl rfl rfl) <| rM rfl rfl rfl ?_
  refine bindK h0 (fun y1 h1 h0 => ?_)
  have ha2 : ExecOK Try.prog (some 1) m53_c0 ⟨[(3, .v (.one (.ptr 3 0))), (6, .v (.one (.ptr 5 0))), (20, .v (.one (.fn 73 [(7, 0), (9, 0)]))), (21, .v (.one (dS8 a0)))], [(0, .cells 68 [.yld 1]), (1, .loop .ready none [(3, .v (.one (.ptr 3 0))), (6, .v (.one (.ptr 5 0))), (20, .v (.one (.fn 73 [(7, 0), (9, 0)])))] 33 #[21] m53_c0 m53_c1 2), (2, .obj (.deferred (some []))), (3, .cells 116 [.mp 4]), (4, .mp (gmE a1.1) a1.2), (5, .cells 23 [dA 6 a2]), (7, .cells 40 [dA 8 a3]), (9, .cells 48 (cE a4))], [(6, some ⟨9, 1, (Enc.encL a2).length, []⟩), (8, some ⟨42, 5, (Enc.encL a3).length, []⟩)], 10, 33, []⟩ .normal ⟨[(3, .v (.one (.ptr 3 0))), (6, .v (.one (.ptr 5 0))), (7, .v (.one (dS8 a0)))], [(0, .cells 68 [.yld 1]), (1, .loop .ready none [(3, .v (.one (.ptr 3 0))), (6, .v (.one (.ptr 5 0))), (20, .v (.one (.fn 73 [(7, 0), (9, 0)])))] 33 #[21] m53_c0 m53_c1 2), (2, .obj (.deferred (some []))), (3, .cells 116 [.mp 4]), (4, .mp (gmE a1.1) a1.2), (5, .cells 23 [dA 6 a2]), (7, .cells 40 [dA 8 a3]), (9, .cells 48 (cE a4))], [(6, some ⟨9, 1, (Enc.encL a2).length, []⟩), (8, some ⟨42, 5, (Enc.encL a3).length, []⟩)], 10, 33, []⟩ := by
   refine ExecOK.walk (fun w0 M V0 ro n Q hv1 hro1 hQn1 => ?_)
   refine XC.region <| rA rfl rfl rfl <| XL.nil ?_
   exact XQ.of hQn1 (stle (tR rfl (tR rfl (tR rfl tZ))) (hR rfl (hR rfl (hR rfl (hR rfl (hR rfl (hR rfl (hR rfl (hR rfl hZ)))))))) (kR rfl (kR rfl kZ)) rfl (Nat.le_trans hv1 (lb rfl)) rfl rfl rfl (bB rfl rfl (bB rfl rfl (bB rfl rfl (bB rfl rfl (bG rfl (bB rfl rfl (bB rfl rfl (bB rfl rfl bZ)))))))) rfl rfl)
  have hb3 : ExecOK Try.prog (some 1) m53_c1 ⟨[(3, .v (.one (.ptr 3 0))), (6, .v (.one (.ptr 5 0))), (7, .v (.one (dS8 a0)))], [(0, .cells 68 [.yld 1]), (1, .loop .busy none [(3, .v (.one (.ptr 3 0))), (6, .v (.one (.ptr 5 0))), (20, .v (.one (.fn 73 [(7, 0), (9, 0)])))] 33 #[21] m53_c0 m53_c1 2), (2, .obj (.deferred (some []))), (3, .cells 116 [.mp 4]), (4, .mp (gmE a1.1) a1.2), (5, .cells 23 [dA 6 a2]), (7, .cells 40 [dA 8 a3]), (9, .cells 48 (cE a4))], [(6, some ⟨9, 1, (Enc.encL a2).length, []⟩), (8, some ⟨42, 5, (Enc.encL a3).length, []⟩)], 10, 33, []⟩ .normal ⟨[], [(0, .cells 68 [.yld 1]), (1, .loop .busy none [(3, .v (.one (.ptr 3 0))), (6, .v (.one (.ptr 5 0))), (20, .v (.one (.fn 73 [(7, 0), (9, 0)])))] 33 #[21] m53_c0 m53_c1 2), (2, .obj (.deferred (some []))), (3, .cells 116 [.mp 4]), (4, .mp (gmE y1.1.1) y1.1.2), (5, .cells 23 [dA 6 y1.2]), (7, .cells 40 [dA 8 a3]), (9, .cells 48 (cE a4))], [(6, some ⟨9, 1, (Enc.encL y1.2).length, []⟩), (8, some ⟨42, 5, (Enc.encL a3).length, []⟩)], 10, 33, []⟩ := by
   refine ExecOK.walk (fun w0 M V0 ro n Q hv1 hro1 hQn1 => ?_)
   refine XC.block <| XC.seq <| XC.region <| rR rfl rfl rfl (RO.loadOwn ag_116 rfl rfl rfl) <| rM rfl rfl rfl <| rR rfl rfl rfl (RO.lookupGF (M := a1) (k := a0) mp_116 zok_bool rfl rfl rfl) <| rR rfl rfl rfl (RO.not rfl) <| XL.nil <| XQ.seq ?_
   refine XC.cond (b := (!(gmVal a1 a0))) rfl (fun c4 => ?_) (fun c4 => ?_)
   ·
    replace h1 := condT c4 h1
    refine XC.seq <| XC.region <| rR rfl rfl rfl (RO.loadOwn ag_116 rfl rfl rfl) <| rM rfl rfl rfl <| XL.eff rfl rfl (OpOK.mapSetG (M := a1) (k := a0) (v := true) mp_116 rfl rfl rfl rfl rfl) <| XL.nil <| XQ.seq <| XC.region <| rR rfl rfl rfl (RO.loadOwn ag_23 rfl rfl rfl) <| rM rfl rfl rfl <| XL.put rfl rfl (lb rfl) (OpOK.lit1E (α := Bs) (a0) sl_23 z_9 rfl rfl (lb rfl) (lb rfl) rfl rfl (.cons (.d _) .nil) rfl) ?_
    refine guardK h1 (fun g5 h1 => ?_)
    refine XL.put rfl rfl (lb rfl) (OpOK.appendE (α := Bs) sl_23 el_9 rfl rfl rfl rfl rfl (.app _ _) g5) <| XL.eff rfl rfl (OpOK.store ag_23 rfl rfl rfl rfl (lb rfl) rfl) <| XL.nil <| XQ.inBlock ?_
    have e_ := Option.some.inj h1
    subst e_
    exact XQ.of hQn1 (stle tZ (hR rfl (hR rfl (hR rfl (hR rfl (hR rfl (hR rfl (hR rfl (hR rfl hZ)))))))) (kR rfl (kR rfl kZ)) rfl (Nat.le_trans hv1 (lb rfl)) rfl rfl rfl (bB rfl rfl (bB rfl rfl (bB rfl rfl (bB rfl rfl (bG rfl (bB rfl rfl (bB rfl rfl (bB rfl rfl bZ)))))))) rfl rfl)
   ·
    replace h1 := condF c4 h1
    refine XC.skip <| XQ.inBlock ?_
    have e_ := Option.some.inj h1
    subst e_
    exact XQ.of hQn1 (stle tZ (hR rfl (hR rfl (hR rfl (hR rfl (hR rfl (hR rfl (hR rfl (hR rfl hZ)))))))) (kR rfl (kR rfl kZ)) rfl (Nat.le_trans hv1 (lb rfl)) rfl rfl rfl (bB rfl rfl (bB rfl rfl (bB rfl rfl (bB rfl rfl (bG rfl (bB rfl rfl (bB rfl rfl (bB rfl rfl bZ)))))))) rfl rfl)
  refine XL.put rfl rfl (lb rfl) (OpOK.yield (jump := none) rfl rfl rfl rfl rfl (ExecOK.from ha2 (fun E hv => (stle (tR rfl (tR rfl (tR rfl (tR rfl tZ)))) (hR rfl (hR rfl (hR rfl (hR rfl (hR rfl (hR rfl (hR rfl (hR rfl hZ)))))))) (kR rfl (kR rfl kZ)) rfl (Nat.le_trans hv (lb rfl)) rfl rfl rfl (bB rfl rfl (bB rfl rfl (bB rfl rfl (bB rfl rfl (bG rfl (bB rfl rfl (bB rfl rfl (bB rfl rfl bZ)))))))) rfl rfl))) rfl (ExecOK.from hb3 (fun E hv => (stle (tR rfl (tR rfl (tR rfl tZ))) (hR rfl (hR rfl (hR rfl (hR rfl (hR rfl (hR rfl (hR rfl (hR rfl hZ)))))))) (kR rfl (kR rfl kZ)) rfl (Nat.le_trans hv (lb rfl)) rfl rfl rfl (bB rfl rfl (bB rfl rfl (bB rfl rfl (bB rfl rfl (bG rfl (bB rfl rfl (bB rfl rfl (bB rfl rfl bZ)))))))) rfl rfl))) rfl rfl) ?_
  refine rR rfl rfl rfl (RO.not rfl) <| rA rfl rfl rfl <| XL.nil <| XQ.seq <| XC.ret ?_
  have e_ := Option.some.inj h0
  subst e_
  exact hQ0 _ _ _ (.inr rfl) rfl (stle (tR rfl tZ) (hR rfl (hR rfl (hR rfl (hR rfl (hR rfl (hR rfl (hR rfl (hR rfl hZ)))))))) (kR rfl (kR rfl kZ)) rfl (Nat.le_trans hv0 (lb rfl)) rfl rfl rfl (bB rfl rfl (bB rfl rfl (bB rfl rfl (bB rfl rfl (bG rfl (bB rfl rfl (bB rfl rfl (bB rfl rfl bZ)))))))) rfl rfl)
def m52f3_l0 (a0 : List Bs) (a3 : List Tm) (a4 : Dcl) (s1 : Int × (GMap Bs Bool) × (List Bs)) : Option (LO (Int × (GMap Bs Bool) × (List Bs)) (((GMap Bs Bool) × (List Bs)))) :=
  cond (decide (s1.1 < (a0.length : Int)))
    (Option.bind (idx a0 s1.1) fun (x3 : Bs) =>
  Option.bind (m89f4 x3 s1.2.1 s1.2.2 a3 a4) fun (x4 : (GMap Bs Bool) × (List Bs)) =>
  some (.next ((w64 (s1.1 + 1)), x4.1, x4.2)))
    (some (.done (s1.2.1, s1.2.2)))
def m52f3 (a0 : List Bs) (a1 : GMap Bs Bool) (a2 : List Bs) (a3 : List Tm) (a4 : Dcl) : Option ((GMap Bs Bool) × (List Bs)) :=
  Option.bind (loopN (m52f3_l0 a0 a3 a4) FUEL (0, a1, a2)) (fun (o1 : (GMap Bs Bool) × (List Bs)) => some (o1.1, o1.2))
set_option maxRecDepth 100000 in
set_option maxHeartbeats 8000000 in
theorem m52f3_ok (a0 : List Bs) (a1 : GMap Bs Bool) (a2 : List Bs) (a3 : List Tm) (a4 : Dcl) (r : (GMap Bs Bool) × (List Bs)) (h0 : m52f3 a0 a1 a2 a3 a4 = some r) : CallM Try.prog 52 [.one (dS a0), .one (.fn 89 [(0, 0)])] ⟨[(0, .cells 68 [.yld 1]), (1, .loop .ready none [(3, .v (.one (.ptr 3 0))), (6, .v (.one (.ptr 5 0))), (20, .v (.one (.fn 73 [(7, 0), (9, 0)])))] 33 #[21] m53_c0 m53_c1 2), (2, .obj (.deferred (some []))), (3, .cells 116 [.mp 4]), (4, .mp (gmE a1.1) a1.2), (5, .cells 23 [dA 6 a2]), (7, .cells 40 [dA 8 a3]), (9, .cells 48 (cE a4))], [(6, some ⟨9, 1, (Enc.encL a2).length, []⟩), (8, some ⟨42, 5, (Enc.encL a3).length, []⟩)], 10⟩ (resOf [.one (dI (-1))]) ⟨[(0, .cells 68 [.yld 1]), (1, .loop .ready none [(3, .v (.one (.ptr 3 0))), (6, .v (.one (.ptr 5 0))), (20, .v (.one (.fn 73 [(7, 0), (9, 0)])))] 33 #[21] m53_c0 m53_c1 2), (2, .obj (.deferred (some []))), (3, .cells 116 [.mp 4]), (4, .mp (gmE r.1.1) r.1.2), (5, .cells 23 [dA 6 r.2]), (7, .cells 40 [dA 8 a3]), (9, .cells 48 (cE a4))], [(6, some ⟨9, 1, (Enc.encL r.2).length, []⟩), (8, some ⟨42, 5, (Enc.encL a3).length, []⟩)], 10⟩ := by
  unfold m52f3 at h0
  refine CallM.of_bodyD ⟨[(4, .v (.one (dI (-1))))], [(0, .cells 68 [.yld 1]), (1, .loop .ready none [(3, .v (.one (.ptr 3 0))), (6, .v (.one (.ptr 5 0))), (20, .v (.one (.fn 73 [(7, 0), (9, 0)])))] 33 #[21] m53_c0 m53_c1 2), (2, .obj (.deferred (some []))), (3, .cells 116 [.mp 4]), (4, .mp (gmE r.1.1) r.1.2), (5, .cells 23 [dA 6 r.2]), (7, .cells 40 [dA 8 a3]), (9, .cells 48 (cE a4))], [(6, some ⟨9, 1, (Enc.encL r.2).length, []⟩), (8, some ⟨42, 5, (Enc.encL a3).length, []⟩)], 10, 19, []⟩ rfl rfl en_52 (lb rfl) rfl (RAs.tmp rfl .nil) (fun w0 M V0 Q hv0 hQ0 => ?_)
  simp only [entry]
  refine XC.seq <| XC.region <| rA rfl rfl rfl <| XL.nil <| XQ.seq <| XC.seq <| XC.seq <| XC.region <| rM rfl rfl rfl <| rR rfl rfl rfl (RO.lenE (α := Bs) sl_23 rfl (.d _)) <| rM rfl rfl rfl <| XL.nil <| XQ.seq <| XC.block ?_
  refine XC.joinX 0 (fun (o1 : (GMap Bs Bool) × (List Bs)) => ⟨[], [(0, .cells 68 [.yld 1]), (1, .loop .ready none [(3, .v (.one (.ptr 3 0))), (6, .v (.one (.ptr 5 0))), (20, .v (.one (.fn 73 [(7, 0), (9, 0)])))] 33 #[21] m53_c0 m53_c1 2), (2, .obj (.deferred (some []))), (3, .cells 116 [.mp 4]), (4, .mp (gmE o1.1.1) o1.1.2), (5, .cells 23 [dA 6 o1.2]), (7, .cells 40 [dA 8 a3]), (9, .cells 48 (cE a4))], [(6, some ⟨9, 1, (Enc.encL o1.2).length, []⟩), (8, some ⟨42, 5, (Enc.encL a3).length, []⟩)], 10, 19, []⟩) (fun (o1 : (GMap Bs Bool) × (List Bs)) => (some (o1.1, o1.2)) = some r) ?_ ?_
  ·
   refine bindK h0 (fun o2 hl1 h0 => ?_)
   refine XC.loopM (m52f3_l0 a0 a3 a4) (fun s1 => ⟨[(0, .v (.one (dS a0))), (1, .v (.one (.fn 89 [(0, 0)]))), (7, .v (.one (dI (a0.length : Int)))), (8, .v (.one (dI s1.1)))], [(0, .cells 68 [.yld 1]), (1, .loop .ready none [(3, .v (.one (.ptr 3 0))), (6, .v (.one (.ptr 5 0))), (20, .v (.one (.fn 73 [(7, 0), (9, 0)])))] 33 #[21] m53_c0 m53_c1 2), (2, .obj (.deferred (some []))), (3, .cells 116 [.mp 4]), (4, .mp (gmE s1.2.1.1) s1.2.1.2), (5, .cells 23 [dA 6 s1.2.2]), (7, .cells 40 [dA 8 a3]), (9, .cells 48 (cE a4))], [(6, some ⟨9, 1, (Enc.encL s1.2.2).length, []⟩), (8, some ⟨42, 5, (Enc.encL a3).length, []⟩)], 10, 19, []⟩) (0, a1, a2) o2 (stle (tR rfl (tR rfl (tR rfl (tR rfl tZ)))) (hR rfl (hR rfl (hR rfl (hR rfl (hR rfl (hR rfl (hR rfl (hR rfl hZ)))))))) (kR rfl (kR rfl kZ)) rfl (Nat.le_trans hv0 (lb rfl)) rfl rfl rfl (bB rfl rfl (bB rfl rfl (bB rfl rfl (bB rfl rfl (bG rfl (bB rfl rfl (bB rfl rfl (bB rfl rfl bZ)))))))) rfl rfl) hl1 (fun s1 n1 oo1 h1 ho1 => ?_)
   unfold m52f3_l0 at h1
   refine XC.seq <| XC.region <| rR rfl rfl rfl (RO.binInt rfl rfl rfl) <| XL.nil <| XQ.seq <| XC.seq ?_
   refine XC.cond (b := (decide (s1.1 < (a0.length : Int)))) rfl (fun c3 => ?_) (fun c3 => ?_)
   ·
    replace h1 := condT c3 h1
    refine XC.skip <| XQ.seq <| XC.seq <| XC.block <| XC.seq <| XC.region <| rM rfl rfl rfl <| rA rfl rfl rfl <| XL.nil <| XQ.seq <| XC.seq <| XC.region <| rM rfl rfl rfl <| rM rfl rfl rfl ?_
    refine rM rfl rfl rfl ?_
    refine bindK h1 (fun x4 hx4 h1 => ?_)
    refine rR rfl rfl rfl (RO.indexE (α := Bs) sl_23 rfl (.d _) rfl hx4) <| rR rfl rfl rfl (RO.loadPel ag_9 rfl rfl) ?_
    refine bindK h1 (fun x5 hx5 h1 => ?_)
    refine XL.put rfl rfl (lb rfl) (OpOK.callG (hp1' := [(0, .cells 68 [.yld 1]), (1, .loop .ready none [(3, .v (.one (.ptr 3 0))), (6, .v (.one (.ptr 5 0))), (20, .v (.one (.fn 73 [(7, 0), (9, 0)])))] 33 #[21] m53_c0 m53_c1 2), (2, .obj (.deferred (some []))), (3, .cells 116 [.mp 4]), (4, .mp (gmE x5.1.1) x5.1.2), (5, .cells 23 [dA 6 x5.2]), (7, .cells 40 [dA 8 a3]), (9, .cells 48 (cE a4))]) (tk1' := [(6, some ⟨9, 1, (Enc.encL x5.2).length, []⟩), (8, some ⟨42, 5, (Enc.encL a3).length, []⟩)]) (hpF := []) (tkF := []) (res2 := resOf [.one (dB false)]) (nx2 := 10) [0, 1, 2, 3, 4, 5, 6, 7, 8, 9] rfl rfl (m89f4_ok x4 s1.2.1 s1.2.2 a3 a4 x5 hx5) rfl rfl (qB rfl rfl (qB rfl rfl (qB rfl rfl (qB rfl rfl (qG rfl (qB rfl rfl (qB rfl rfl (qB rfl rfl qZ)))))))) rfl rfl (gR rfl (gR rfl (gR rfl (gR rfl (gG rfl (gR rfl (gR rfl (gR rfl gZ)))))))) (jR rfl (jR rfl jZ)) hZ kZ rfl rfl rfl rfl rfl (bB rfl rfl (bB rfl rfl (bB rfl rfl (bB rfl rfl (bG rfl (bB rfl rfl (bB rfl rfl (bB rfl rfl bZ)))))))) rfl rfl rfl rfl) <| XL.nil <| XQ.seq ?_
    refine XC.cond rfl (fun h => nomatch h) (fun _ => ?_)
    refine XC.skip <| XQ.inBlock <| XQ.seq <| XC.region <| rR rfl rfl rfl (RO.binInt rfl rfl rfl) <| rM rfl rfl rfl <| XL.nil ?_
    have e_ := Option.some.inj h1
    subst e_
    refine XQ.nextM ((w64 (s1.1 + 1)), x5.1, x5.2) (stle (tR rfl (tR rfl (tR rfl (tR rfl tZ)))) (hR rfl (hR rfl (hR rfl (hR rfl (hR rfl (hR rfl (hR rfl (hR rfl hZ)))))))) (kR rfl (kR rfl kZ)) rfl (Nat.le_trans hv0 (lb rfl)) rfl rfl rfl (bB rfl rfl (bB rfl rfl (bB rfl rfl (bB rfl rfl (bG rfl (bB rfl rfl (bB rfl rfl (bB rfl rfl bZ)))))))) rfl rfl) ho1
   ·
    replace h1 := condF c3 h1
    refine XC.exit <| XQ.thenE <| XQ.thenE ?_
    have e_ := Option.some.inj h1
    subst e_
    have e_ : _ = _ := ho1
    subst e_
    exact XQ.joinX (s1.2.1, s1.2.2) (stle tZ (hR rfl (hR rfl (hR rfl (hR rfl (hR rfl (hR rfl (hR rfl (hR rfl hZ)))))))) (kR rfl (kR rfl kZ)) rfl (Nat.le_trans hv0 (lb rfl)) rfl rfl rfl (bB rfl rfl (bB rfl rfl (bB rfl rfl (bB rfl rfl (bG rfl (bB rfl rfl (bB rfl rfl (bB rfl rfl bZ)))))))) rfl rfl) h0
  ·
   intro o1 h0
   refine XQ.blockX <| XQ.seq <| XC.seq <| XC.region <| rA rfl rfl rfl <| XL.nil <| XQ.seq <| XC.ret ?_
   have e_ := Option.some.inj h0
   subst e_
   exact hQ0 _ _ _ (.inr rfl) rfl (stle (tR rfl tZ) (hR rfl (hR rfl (hR rfl (hR rfl (hR rfl (hR rfl (hR rfl (hR rfl hZ)))))))) (kR rfl (kR rfl kZ)) rfl (Nat.le_trans hv0 (lb rfl)) rfl rfl rfl (bB rfl rfl (bB rfl rfl (bB rfl rfl (bB rfl rfl (bG rfl (bB rfl rfl (bB rfl rfl (bB rfl rfl bZ)))))))) rfl rfl)
def m31f2 (a0 : List Bs) (a1 : GMap Bs Bool) (a2 : List Bs) (a3 : List Tm) (a4 : Dcl) : Option ((GMap Bs Bool) × (List Bs)) :=
  Option.bind (m52f3 a0 a1 a2 a3 a4) fun (x1 : (GMap Bs Bool) × (List Bs)) =>
  some (x1.1, x1.2)
set_option maxRecDepth 100000 in
set_option maxHeartbeats 8000000 in
theorem m31f2_ok (a0 : List Bs) (a1 : GMap Bs Bool) (a2 : List Bs) (a3 : List Tm) (a4 : Dcl) (r : (GMap Bs Bool) × (List Bs)) (h0 : m31f2 a0 a1 a2 a3 a4 = some r) : CallM Try.prog 31 [.one (dS a0), .one (.fn 89 [(0, 0)])] ⟨[(0, .cells 68 [.yld 1]), (1, .loop .ready none [(3, .v (.one (.ptr 3 0))), (6, .v (.one (.ptr 5 0))), (20, .v (.one (.fn 73 [(7, 0), (9, 0)])))] 33 #[21] m53_c0 m53_c1 2), (2, .obj (.deferred (some []))), (3, .cells 116 [.mp 4]), (4, .mp (gmE a1.1) a1.2), (5, .cells 23 [dA 6 a2]), (7, .cells 40 [dA 8 a3]), (9, .cells 48 (cE a4))], [(6, some ⟨9, 1, (Enc.encL a2).length, []⟩), (8, some ⟨42, 5, (Enc.encL a3).length, []⟩)], 10⟩ (resOf [.one (dB false)]) ⟨[(0, .cells 68 [.yld 1]), (1, .loop .ready none [(3, .v (.one (.ptr 3 0))), (6, .v (.one (.ptr 5 0))), (20, .v (.one (.fn 73 [(7, 0), (9, 0)])))] 33 #[21] m53_c0 m53_c1 2), (2, .obj (.deferred (some []))), (3, .cells 116 [.mp 4]), (4, .mp (gmE r.1.1) r.1.2), (5, .cells 23 [dA 6 r.2]), (7, .cells 40 [dA 8 a3]), (9, .cells 48 (cE a4))], [(6, some ⟨9, 1, (Enc.encL r.2).length, []⟩), (8, some ⟨42, 5, (Enc.encL a3).length, []⟩)], 10⟩ := by
  unfold m31f2 at h0
  refine CallM.of_bodyD ⟨[(4, .v (.one (dB false)))], [(0, .cells 68 [.yld 1]), (1, .loop .ready none [(3, .v (.one (.ptr 3 0))), (6, .v (.one (.ptr 5 0))), (20, .v (.one (.fn 73 [(7, 0), (9, 0)])))] 33 #[21] m53_c0 m53_c1 2), (2, .obj (.deferred (some []))), (3, .cells 116 [.mp 4]), (4, .mp (gmE r.1.1) r.1.2), (5, .cells 23 [dA 6 r.2]), (7, .cells 40 [dA 8 a3]), (9, .cells 48 (cE a4))], [(6, some ⟨9, 1, (Enc.encL r.2).length, []⟩), (8, some ⟨42, 5, (Enc.encL a3).length, []⟩)], 10, 9, []⟩ rfl rfl en_31 (lb rfl) rfl (RAs.tmp rfl .nil) (fun w0 M V0 Q hv0 hQ0 => ?_)
  simp only [entry]
  refine XC.seq <| XC.region <| rA rfl rfl rfl <| XL.nil <| XQ.seq <| XC.seq <| XC.region <| rM rfl rfl rfl <| rM rfl rfl rfl ?_
  refine bindK h0 (fun x1 hx1 h0 => ?_)
  refine XL.put rfl rfl (lb rfl) (OpOK.callG (hp1' := [(0, .cells 68 [.yld 1]), (1, .loop .ready none [(3, .v (.one (.ptr 3 0))), (6, .v (.one (.ptr 5 0))), (20, .v (.one (.fn 73 [(7, 0), (9, 0)])))] 33 #[21] m53_c0 m53_c1 2), (2, .obj (.deferred (some []))), (3, .cells 116 [.mp 4]), (4, .mp (gmE x1.1.1) x1.1.2), (5, .cells 23 [dA 6 x1.2]), (7, .cells 40 [dA 8 a3]), (9, .cells 48 (cE a4))]) (tk1' := [(6, some ⟨9, 1, (Enc.encL x1.2).length, []⟩), (8, some ⟨42, 5, (Enc.encL a3).length, []⟩)]) (hpF := []) (tkF := []) (res2 := resOf [.one (dI (-1))]) (nx2 := 10) [0, 1, 2, 3, 4, 5, 6, 7, 8, 9] rfl rfl (m52f3_ok a0 a1 a2 a3 a4 x1 hx1) rfl rfl (qB rfl rfl (qB rfl rfl (qB rfl rfl (qB rfl rfl (qG rfl (qB rfl rfl (qB rfl rfl (qB rfl rfl qZ)))))))) rfl rfl (gR rfl (gR rfl (gR rfl (gR rfl (gG rfl (gR rfl (gR rfl (gR rfl gZ)))))))) (jR rfl (jR rfl jZ)) hZ kZ rfl rfl rfl rfl rfl (bB rfl rfl (bB rfl rfl (bB rfl rfl (bB rfl rfl (bG rfl (bB rfl rfl (bB rfl rfl (bB rfl rfl bZ)))))))) rfl rfl rfl rfl) <| rR rfl rfl rfl (RO.binInt rfl rfl rfl) <| rA rfl rfl rfl <| XL.nil <| XQ.seq <| XC.ret ?_
  have e_ := Option.some.inj h0
  subst e_
  exact hQ0 _ _ _ (.inr rfl) rfl (stle (tR rfl tZ) (hR rfl (hR rfl (hR rfl (hR rfl (hR rfl (hR rfl (hR rfl (hR rfl hZ)))))))) (kR rfl (kR rfl kZ)) rfl (Nat.le_trans hv0 (lb rfl)) rfl rfl rfl (bB rfl rfl (bB rfl rfl (bB rfl rfl (bB rfl rfl (bG rfl (bB rfl rfl (bB rfl rfl (bB rfl rfl bZ)))))))) rfl rfl)
def m75f1_l0 (a0 : Tr) (rc : Tr × (GMap Bs Bool) × (List Bs) × (List Tm) × Dcl → Option (Bool × (GMap Bs Bool) × (List Bs))) (a3 : List Tm) (a4 : Dcl) (s1 : Int × (GMap Bs Bool) × (List Bs)) : Option (LO (Int × (GMap Bs Bool) × (List Bs)) (((GMap Bs Bool) × (List Bs)) ⊕ ((Bool × (GMap Bs Bool) × (List Bs))))) :=
  cond (decide (s1.1 < (a0.branches.length : Int)))
    (Option.bind (idx a0.branches s1.1) fun (x6 : Br) =>
  Option.bind (Option.bind (cond (!(gmVal s1.2.1 x6.ctor))
    (guardO (Nat.ble (s1.2.2.length + ([x6.ctor]).length) 1000000000)
  (some ((gmSet s1.2.1 x6.ctor true), (s1.2.2 ++ ([x6.ctor])))))
    (some (s1.2.1, s1.2.2))) (fun (y8 : (GMap Bs Bool) × (List Bs)) => cond (!x6.absurd)
    (Option.bind (rc (x6.tree, y8.1, y8.2, a3, a4)) fun (x14 : Bool × (GMap Bs Bool) × (List Bs)) =>
  some (true, (!x14.1), (!x14.1), x14.2.1, x14.2.2))
    (some (false, false, false, y8.1, y8.2)))) (fun (v7 : Bool × Bool × Bool × (GMap Bs Bool) × (List Bs)) => cond v7.2.2.1
    (some (.done (.inr (false, v7.2.2.2.1, v7.2.2.2.2))))
    (some (.next ((w64 (s1.1 + 1)), v7.2.2.2.1, v7.2.2.2.2)))))
    (some (.done (.inl (s1.2.1, s1.2.2))))
def m75f1s (rc : Tr × (GMap Bs Bool) × (List Bs) × (List Tm) × Dcl → Option (Bool × (GMap Bs Bool) × (List Bs))) (a0 : Tr) (a1 : GMap Bs Bool) (a2 : List Bs) (a3 : List Tm) (a4 : Dcl) : Option (Bool × (GMap Bs Bool) × (List Bs)) :=
  cond (a0.kind == 0)
    (Option.bind (m74 a0.body) fun (x2 : (List Bs)) =>
  Option.bind (m31f2 x2 a1 a2 a3 a4) fun (x3 : (GMap Bs Bool) × (List Bs)) =>
  some (true, x3.1, x3.2))
    (Option.bind (loopN (m75f1_l0 a0 rc a3 a4) FUEL (0, a1, a2)) (Sum.elim (fun (o4 : (GMap Bs Bool) × (List Bs)) => some (true, o4.1, o4.2)) (fun o => some o)))
def m75f1F (rc : Tr × (GMap Bs Bool) × (List Bs) × (List Tm) × Dcl → Option (Bool × (GMap Bs Bool) × (List Bs))) (u : Tr × (GMap Bs Bool) × (List Bs) × (List Tm) × Dcl) : Option (Bool × (GMap Bs Bool) × (List Bs)) := m75f1s rc u.1 u.2.1 u.2.2.1 u.2.2.2.1 u.2.2.2.2
def m75f1 (a0 : Tr) (a1 : GMap Bs Bool) (a2 : List Bs) (a3 : List Tm) (a4 : Dcl) : Option (Bool × (GMap Bs Bool) × (List Bs)) := recO m75f1F FUEL (a0, a1, a2, a3, a4)
set_option maxRecDepth 100000 in
set_option maxHeartbeats 8000000 in
theorem m75f1s_ok (rc : Tr × (GMap Bs Bool) × (List Bs) × (List Tm) × Dcl → Option (Bool × (GMap Bs Bool) × (List Bs))) (H : ∀ (a0 : Tr) (a1 : GMap Bs Bool) (a2 : List Bs) (a3 : List Tm) (a4 : Dcl) (r : Bool × (GMap Bs Bool) × (List Bs)), rc (a0, a1, a2, a3, a4) = some r → CallM Try.prog 75 [.agg (cE a0), .one (.yld 0)] ⟨[(0, .loop .ready none [(3, .v (.one (.ptr 2 0))), (6, .v (.one (.ptr 4 0))), (20, .v (.one (.fn 73 [(6, 0), (8, 0)])))] 33 #[21] m53_c0 m53_c1 1), (1, .obj (.deferred (some []))), (2, .cells 116 [.mp 3]), (3, .mp (gmE a1.1) a1.2), (4, .cells 23 [dA 5 a2]), (6, .cells 40 [dA 7 a3]), (8, .cells 48 (cE a4))], [(5, some ⟨9, 1, (Enc.encL a2).length, []⟩), (7, some ⟨42, 5, (Enc.encL a3).length, []⟩)], 9⟩ (resOf [.one (dB r.1)]) ⟨[(0, .loop .ready none [(3, .v (.one (.ptr 2 0))), (6, .v (.one (.ptr 4 0))), (20, .v (.one (.fn 73 [(6, 0), (8, 0)])))] 33 #[21] m53_c0 m53_c1 1), (1, .obj (.deferred (some []))), (2, .cells 116 [.mp 3]), (3, .mp (gmE r.2.1.1) r.2.1.2), (4, .cells 23 [dA 5 r.2.2]), (6, .cells 40 [dA 7 a3]), (8, .cells 48 (cE a4))], [(5, some ⟨9, 1, (Enc.encL r.2.2).length, []⟩), (7, some ⟨42, 5, (Enc.encL a3).length, []⟩)], 11⟩) (a0 : Tr) (a1 : GMap Bs Bool) (a2 : List Bs) (a3 : List Tm) (a4 : Dcl) (r : Bool × (GMap Bs Bool) × (List Bs)) (h0 : m75f1s rc a0 a1 a2 a3 a4 = some r) : CallM Try.prog 75 [.agg (cE a0), .one (.yld 0)] ⟨[(0, .loop .ready none [(3, .v (.one (.ptr 2 0))), (6, .v (.one (.ptr 4 0))), (20, .v (.one (.fn 73 [(6, 0), (8, 0)])))] 33 #[21] m53_c0 m53_c1 1), (1, .obj (.deferred (some []))), (2, .cells 116 [.mp 3]), (3, .mp (gmE a1.1) a1.2), (4, .cells 23 [dA 5 a2]), (6, .cells 40 [dA 7 a3]), (8, .cells 48 (cE a4))], [(5, some ⟨9, 1, (Enc.encL a2).length, []⟩), (7, some ⟨42, 5, (Enc.encL a3).length, []⟩)], 9⟩ (resOf [.one (dB r.1)]) ⟨[(0, .loop .ready none [(3, .v (.one (.ptr 2 0))), (6, .v (.one (.ptr 4 0))), (20, .v (.one (.fn 73 [(6, 0), (8, 0)])))] 33 #[21] m53_c0 m53_c1 1), (1, .obj (.deferred (some []))), (2, .cells 116 [.mp 3]), (3, .mp (gmE r.2.1.1) r.2.1.2), (4, .cells 23 [dA 5 r.2.2]), (6, .cells 40 [dA 7 a3]), (8, .cells 48 (cE a4))], [(5, some ⟨9, 1, (Enc.encL r.2.2).length, []⟩), (7, some ⟨42, 5, (Enc.encL a3).length, []⟩)], 11⟩ := by
  unfold m75f1s at h0
  refine CallM.of_bodyD ⟨[(4, .v (.one (dB r.1)))], [(0, .loop .ready none [(3, .v (.one (.ptr 2 0))), (6, .v (.one (.ptr 4 0))), (20, .v (.one (.fn 73 [(6, 0), (8, 0)])))] 33 #[21] m53_c0 m53_c1 1), (1, .obj (.deferred (some []))), (2, .cells 116 [.mp 3]), (3, .mp (gmE r.2.1.1) r.2.1.2), (4, .cells 23 [dA 5 r.2.2]), (6, .cells 40 [dA 7 a3]), (8, .cells 48 (cE a4))], [(5, some ⟨9, 1, (Enc.encL r.2.2).length, []⟩), (7, some ⟨42, 5, (Enc.encL a3).length, []⟩)], 11, 41, []⟩ rfl rfl en_75 (lb rfl) rfl (RAs.tmp rfl .nil) (fun w0 M V0 Q hv0 hQ0 => ?_)
  simp only [entry]
  refine XC.seq <| XC.region <| XL.put rfl rfl (lb rfl) (OpOK.box rfl) <| XL.put rfl rfl (lb rfl) (OpOK.box rfl) <| rA rfl rfl rfl <| XL.nil <| XQ.seq <| XC.seq <| XC.seq <| XC.region <| rR rfl rfl rfl (RO.fieldOwn fo_87_0 rfl) <| rR rfl rfl rfl (RO.loadOwn ag_3 rfl rfl rfl) <| rR rfl rfl rfl (RO.binInt rfl rfl rfl) <| XL.nil ?_
  refine XQ.seq ?_
  refine XC.cond (b := (a0.kind == 0)) rfl (fun c1 => ?_) (fun c1 => ?_)
  ·
   replace h0 := condT c1 h0
   refine XC.seq <| XC.region <| rR rfl rfl rfl (RO.fieldOwn fo_87_1 rfl) <| rR rfl rfl rfl (RO.loadOwnAgg ag_42 rfl rfl rfl rfl) ?_
   refine bindK h0 (fun x2 hx2 h0 => ?_)
   refine XL.put rfl rfl (lb rfl) (OpOK.callFun (m74_ok a0.body x2 hx2) rfl (.cons (.agg (.cons (.d _) (.cons (.d _) (.cons (.d _) (.cons (.d _) (.cons (.d _) .nil)))))) .nil)) <| rR rfl rfl rfl (RO.makeFunc1 rfl) ?_
   refine bindK h0 (fun x3 hx3 h0 => ?_)
   refine XL.put rfl rfl (lb rfl) (OpOK.callG (hp1' := [(10, .cells 68 [.yld 0]), (0, .loop .ready none [(3, .v (.one (.ptr 2 0))), (6, .v (.one (.ptr 4 0))), (20, .v (.one (.fn 73 [(6, 0), (8, 0)])))] 33 #[21] m53_c0 m53_c1 1), (1, .obj (.deferred (some []))), (2, .cells 116 [.mp 3]), (3, .mp (gmE x3.1.1) x3.1.2), (4, .cells 23 [dA 5 x3.2]), (6, .cells 40 [dA 7 a3]), (8, .cells 48 (cE a4))]) (tk1' := [(5, some ⟨9, 1, (Enc.encL x3.2).length, []⟩), (7, some ⟨42, 5, (Enc.encL a3).length, []⟩)]) (hpF := [(9, .cells 87 (cE a0))]) (tkF := []) (res2 := resOf [.one (dB false)]) (nx2 := 11) [10, 0, 1, 2, 3, 4, 5, 6, 7, 8] rfl rfl (m31f2_ok x2 a1 a2 a3 a4 x3 hx3) rfl rfl (qB rfl rfl (qB rfl rfl (qB rfl rfl (qB rfl rfl (qG rfl (qB rfl rfl (qB rfl rfl (qB rfl rfl qZ)))))))) rfl rfl (gR rfl (gR rfl (gR rfl (gR rfl (gG rfl (gR rfl (gR rfl (gR rfl gZ)))))))) (jR rfl (jR rfl jZ)) (hR rfl hZ) kZ rfl rfl rfl rfl rfl (bB rfl rfl (bB rfl rfl (bB rfl rfl (bB rfl rfl (bG rfl (bB rfl rfl (bB rfl rfl (bB rfl rfl bZ)))))))) rfl rfl rfl rfl) <| rR rfl rfl rfl (RO.not rfl) <| rA rfl rfl rfl <| XL.nil <| XQ.seq <| XC.ret ?_
   have e_ := Option.some.inj h0
   subst e_
   exact hQ0 _ _ _ (.inr rfl) rfl (stle (tR rfl tZ) (hR rfl (hR rfl (hR rfl (hR rfl (hR rfl (hR rfl (hR rfl hZ))))))) (kR rfl (kR rfl kZ)) rfl (Nat.le_trans hv0 (lb rfl)) rfl rfl rfl (bB rfl rfl (bB rfl rfl (bB rfl rfl (bG rfl (bB rfl rfl (bB rfl rfl (bB rfl rfl bZ))))))) rfl rfl)
  ·
   replace h0 := condF c1 h0
   refine XC.skip <| XQ.seq <| XC.seq <| XC.seq <| XC.region <| rR rfl rfl rfl (RO.fieldOwn fo_87_3 rfl) <| rR rfl rfl rfl (RO.loadOwn ag_85 rfl rfl rfl) <| rR rfl rfl rfl (RO.lenE (α := Br) sl_85 rfl (.d _)) <| rM rfl rfl rfl <| XL.nil <| XQ.seq <| XC.block ?_
   refine XC.joinX 0 (fun (o4 : (GMap Bs Bool) × (List Bs)) => ⟨[], [(0, .loop .ready none [(3, .v (.one (.ptr 2 0))), (6, .v (.one (.ptr 4 0))), (20, .v (.one (.fn 73 [(6, 0), (8, 0)])))] 33 #[21] m53_c0 m53_c1 1), (1, .obj (.deferred (some []))), (2, .cells 116 [.mp 3]), (3, .mp (gmE o4.1.1) o4.1.2), (4, .cells 23 [dA 5 o4.2]), (6, .cells 40 [dA 7 a3]), (8, .cells 48 (cE a4)), (9, .cells 87 (cE a0)), (10, .cells 68 [.yld 0])], [(5, some ⟨9, 1, (Enc.encL o4.2).length, []⟩), (7, some ⟨42, 5, (Enc.encL a3).length, []⟩)], 11, 41, []⟩) (fun (o4 : (GMap Bs Bool) × (List Bs)) => (some (true, o4.1, o4.2)) = some r) ?_ ?_
   ·
    refine bindK h0 (fun o5 hl1 h0 => ?_)
    refine XC.loopM (m75f1_l0 a0 rc a3 a4) (fun s1 => ⟨[(3, .v (.one (.ptr 10 0))), (17, .v (.one (dS a0.branches))), (18, .v (.one (dI (a0.branches.length : Int)))), (19, .v (.one (dI s1.1)))], [(0, .loop .ready none [(3, .v (.one (.ptr 2 0))), (6, .v (.one (.ptr 4 0))), (20, .v (.one (.fn 73 [(6, 0), (8, 0)])))] 33 #[21] m53_c0 m53_c1 1), (1, .obj (.deferred (some []))), (2, .cells 116 [.mp 3]), (3, .mp (gmE s1.2.1.1) s1.2.1.2), (4, .cells 23 [dA 5 s1.2.2]), (6, .cells 40 [dA 7 a3]), (8, .cells 48 (cE a4)), (9, .cells 87 (cE a0)), (10, .cells 68 [.yld 0])], [(5, some ⟨9, 1, (Enc.encL s1.2.2).length, []⟩), (7, some ⟨42, 5, (Enc.encL a3).length, []⟩)], 11, 41, []⟩) (0, a1, a2) o5 (stle (tR rfl (tR rfl (tR rfl (tR rfl tZ)))) (hR rfl (hR rfl (hR rfl (hR rfl (hR rfl (hR rfl (hR rfl (hR rfl (hR rfl hZ))))))))) (kR rfl (kR rfl kZ)) rfl (Nat.le_trans hv0 (lb rfl)) rfl rfl rfl (bB rfl rfl (bB rfl rfl (bB rfl rfl (bG rfl (bB rfl rfl (bB rfl rfl (bB rfl rfl (bB rfl rfl (bB rfl rfl bZ))))))))) rfl rfl) hl1 (fun s1 n1 oo1 h1 ho1 => ?_)
    unfold m75f1_l0 at h1
    refine XC.seq <| XC.region <| rR rfl rfl rfl (RO.binInt rfl rfl rfl) <| XL.nil <| XQ.seq <| XC.seq ?_
    refine XC.cond (b := (decide (s1.1 < (a0.branches.length : Int)))) rfl (fun c6 => ?_) (fun c6 => ?_)
    ·
     replace h1 := condT c6 h1
     refine XC.skip <| XQ.seq <| XC.seq <| XC.block <| XC.seq <| XC.region ?_
     refine bindK h1 (fun x7 hx7 h1 => ?_)
     refine rR rfl rfl rfl (RO.indexE (α := Br) sl_85 rfl (.d _) rfl hx7) <| rR rfl rfl rfl (RO.loadPelAgg ag_115 rfl rfl rfl) <| XL.put rfl rfl (lb rfl) (OpOK.alloc z_115 rfl) <| XL.eff rfl rfl (OpOK.store ag_115 rfl rfl rfl rfl (lb rfl) rfl) <| XL.nil <| XQ.seq <| XC.seq ?_
     refine XC.joinR (fun (v8 : Bool × Bool × Bool × (GMap Bs Bool) × (List Bs)) => ⟨[(3, .v (.one (.ptr 10 0))), (17, .v (.one (dS a0.branches))), (18, .v (.one (dI (a0.branches.length : Int)))), (19, .v (.one (dI s1.1))), (29, .v (.one (.ptr 11 1))), (30, .v (.one (dB x7.absurd))), (31, .v (.one (dB (!x7.absurd)))), (32, .v (.one (dB v8.1))), (38, .v (.one (dB v8.2.1))), (39, .v (.one (dB v8.2.2.1)))], [(0, .loop .ready none [(3, .v (.one (.ptr 2 0))), (6, .v (.one (.ptr 4 0))), (20, .v (.one (.fn 73 [(6, 0), (8, 0)])))] 33 #[21] m53_c0 m53_c1 1), (1, .obj (.deferred (some []))), (2, .cells 116 [.mp 3]), (3, .mp (gmE v8.2.2.2.1.1) v8.2.2.2.1.2), (4, .cells 23 [dA 5 v8.2.2.2.2]), (6, .cells 40 [dA 7 a3]), (8, .cells 48 (cE a4)), (9, .cells 87 (cE a0)), (10, .cells 68 [.yld 0]), (11, .cells 115 (cE x7))], [(5, some ⟨9, 1, (Enc.encL v8.2.2.2.2).length, []⟩), (7, some ⟨42, 5, (Enc.encL a3).length, []⟩)], 12, 41, []⟩) (fun (v8 : Bool × Bool × Bool × (GMap Bs Bool) × (List Bs)) => (cond v8.2.2.1
         (some (.done (.inr (false, v8.2.2.2.1, v8.2.2.2.2))))
         (some (.next ((w64 (s1.1 + 1)), v8.2.2.2.1, v8.2.2.2.2)))) = some oo1) ?_ ?_
     ·
      refine bindK h1 (fun w2_ h2 h1 => ?_)
      refine XC.region <| rR rfl rfl rfl (RO.loadOwn ag_68 rfl rfl rfl) <| rR rfl rfl rfl (RO.fieldOwn fo_115_0 rfl) <| rR rfl rfl rfl (RO.loadOwn ag_9 rfl rfl rfl) ?_
      refine bindK h2 (fun y9 h3 h2 => ?_)
      have ha10 : ExecOK Try.prog (some 0) m53_c0 ⟨[(3, .v (.one (.ptr 2 0))), (6, .v (.one (.ptr 4 0))), (20, .v (.one (.fn 73 [(6, 0), (8, 0)]))), (21, .v (.one (dS8 x7.ctor)))], [(0, .loop .ready none [(3, .v (.one (.ptr 2 0))), (6, .v (.one (.ptr 4 0))), (20, .v (.one (.fn 73 [(6, 0), (8, 0)])))] 33 #[21] m53_c0 m53_c1 1), (1, .obj (.deferred (some []))), (2, .cells 116 [.mp 3]), (3, .mp (gmE s1.2.1.1) s1.2.1.2), (4, .cells 23 [dA 5 s1.2.2]), (6, .cells 40 [dA 7 a3]), (8, .cells 48 (cE a4)), (9, .cells 87 (cE a0)), (10, .cells 68 [.yld 0]), (11, .cells 115 (cE x7))], [(5, some ⟨9, 1, (Enc.encL s1.2.2).length, []⟩), (7, some ⟨42, 5, (Enc.encL a3).length, []⟩)], 12, 33, []⟩ .normal ⟨[(3, .v (.one (.ptr 2 0))), (6, .v (.one (.ptr 4 0))), (7, .v (.one (dS8 x7.ctor)))], [(0, .loop .ready none [(3, .v (.one (.ptr 2 0))), (6, .v (.one (.ptr 4 0))), (20, .v (.one (.fn 73 [(6, 0), (8, 0)])))] 33 #[21] m53_c0 m53_c1 1), (1, .obj (.deferred (some []))), (2, .cells 116 [.mp 3]), (3, .mp (gmE s1.2.1.1) s1.2.1.2), (4, .cells 23 [dA 5 s1.2.2]), (6, .cells 40 [dA 7 a3]), (8, .cells 48 (cE a4)), (9, .cells 87 (cE a0)), (10, .cells 68 [.yld 0]), (11, .cells 115 (cE x7))], [(5, some ⟨9, 1, (Enc.encL s1.2.2).length, []⟩), (7, some ⟨42, 5, (Enc.encL a3).length, []⟩)], 12, 33, []⟩ := by
       refine ExecOK.walk (fun w0 M V0 ro n Q hv3 hro3 hQn3 => ?_)
       refine XC.region <| rA rfl rfl rfl <| XL.nil ?_
       exact XQ.of hQn3 (stle (tR rfl (tR rfl (tR rfl tZ))) (hR rfl (hR rfl (hR rfl (hR rfl (hR rfl (hR rfl (hR rfl (hR rfl (hR rfl (hR rfl hZ)))))))))) (kR rfl (kR rfl kZ)) rfl (Nat.le_trans hv3 (lb rfl)) rfl rfl rfl (bB rfl rfl (bB rfl rfl (bB rfl rfl (bG rfl (bB rfl rfl (bB rfl rfl (bB rfl rfl (bB rfl rfl (bB rfl rfl (bB rfl rfl bZ)))))))))) rfl rfl)
      have hb11 : ExecOK Try.prog (some 0) m53_c1 ⟨[(3, .v (.one (.ptr 2 0))), (6, .v (.one (.ptr 4 0))), (7, .v (.one (dS8 x7.ctor)))], [(0, .loop .busy none [(3, .v (.one (.ptr 2 0))), (6, .v (.one (.ptr 4 0))), (20, .v (.one (.fn 73 [(6, 0), (8, 0)])))] 33 #[21] m53_c0 m53_c1 1), (1, .obj (.deferred (some []))), (2, .cells 116 [.mp 3]), (3, .mp (gmE s1.2.1.1) s1.2.1.2), (4, .cells 23 [dA 5 s1.2.2]), (6, .cells 40 [dA 7 a3]), (8, .cells 48 (cE a4)), (9, .cells 87 (cE a0)), (10, .cells 68 [.yld 0]), (11, .cells 115 (cE x7))], [(5, some ⟨9, 1, (Enc.encL s1.2.2).length, []⟩), (7, some ⟨42, 5, (Enc.encL a3).length, []⟩)], 12, 33, []⟩ .normal ⟨[], [(0, .loop .busy none [(3, .v (.one (.ptr 2 0))), (6, .v (.one (.ptr 4 0))), (20, .v (.one (.fn 73 [(6, 0), (8, 0)])))] 33 #[21] m53_c0 m53_c1 1), (1, .obj (.deferred (some []))), (2, .cells 116 [.mp 3]), (3, .mp (gmE y9.1.1) y9.1.2), (4, .cells 23 [dA 5 y9.2]), (6, .cells 40 [dA 7 a3]), (8, .cells 48 (cE a4)), (9, .cells 87 (cE a0)), (10, .cells 68 [.yld 0]), (11, .cells 115 (cE x7))], [(5, some ⟨9, 1, (Enc.encL y9.2).length, []⟩), (7, some ⟨42, 5, (Enc.encL a3).length, []⟩)], 12, 33, []⟩ := by
       refine ExecOK.walk (fun w0 M V0 ro n Q hv3 hro3 hQn3 => ?_)
       refine XC.block <| XC.seq <| XC.region <| rR rfl rfl rfl (RO.loadOwn ag_116 rfl rfl rfl) <| rM rfl rfl rfl <| rR rfl rfl rfl (RO.lookupGF (M := s1.2.1) (k := x7.ctor) mp_116 zok_bool rfl rfl rfl) <| rR rfl rfl rfl (RO.not rfl) <| XL.nil <| XQ.seq ?_
       refine XC.cond (b := (!(gmVal s1.2.1 x7.ctor))) rfl (fun c12 => ?_) (fun c12 => ?_)
       ·
        replace h3 := condT c12 h3
        refine XC.seq <| XC.region <| rR rfl rfl rfl (RO.loadOwn ag_116 rfl rfl rfl) <| rM rfl rfl rfl <| XL.eff rfl rfl (OpOK.mapSetG (M := s1.2.1) (k := x7.ctor) (v := true) mp_116 rfl rfl rfl rfl rfl) <| XL.nil <| XQ.seq <| XC.region <| rR rfl rfl rfl (RO.loadOwn ag_23 rfl rfl rfl) <| rM rfl rfl rfl <| XL.put rfl rfl (lb rfl) (OpOK.lit1E (α := Bs) (x7.ctor) sl_23 z_9 rfl rfl (lb rfl) (lb rfl) rfl rfl (.cons (.d _) .nil) rfl) ?_
        refine guardK h3 (fun g13 h3 => ?_)
        refine XL.put rfl rfl (lb rfl) (OpOK.appendE (α := Bs) sl_23 el_9 rfl rfl rfl rfl rfl (.app _ _) g13) <| XL.eff rfl rfl (OpOK.store ag_23 rfl rfl rfl rfl (lb rfl) rfl) <| XL.nil <| XQ.inBlock ?_
        have e_ := Option.some.inj h3
        subst e_
        exact XQ.of hQn3 (stle tZ (hR rfl (hR rfl (hR rfl (hR rfl (hR rfl (hR rfl (hR rfl (hR rfl (hR rfl (hR rfl hZ)))))))))) (kR rfl (kR rfl kZ)) rfl (Nat.le_trans hv3 (lb rfl)) rfl rfl rfl (bB rfl rfl (bB rfl rfl (bB rfl rfl (bG rfl (bB rfl rfl (bB rfl rfl (bB rfl rfl (bB rfl rfl (bB rfl rfl (bB rfl rfl bZ)))))))))) rfl rfl)
       ·
        replace h3 := condF c12 h3
        refine XC.skip <| XQ.inBlock ?_
        have e_ := Option.some.inj h3
        subst e_
        exact XQ.of hQn3 (stle tZ (hR rfl (hR rfl (hR rfl (hR rfl (hR rfl (hR rfl (hR rfl (hR rfl (hR rfl (hR rfl hZ)))))))))) (kR rfl (kR rfl kZ)) rfl (Nat.le_trans hv3 (lb rfl)) rfl rfl rfl (bB rfl rfl (bB rfl rfl (bB rfl rfl (bG rfl (bB rfl rfl (bB rfl rfl (bB rfl rfl (bB rfl rfl (bB rfl rfl (bB rfl rfl bZ)))))))))) rfl rfl)
      refine XL.put rfl rfl (lb rfl) (OpOK.yield (jump := none) rfl rfl rfl rfl rfl (ExecOK.from ha10 (fun E hv => (stle (tR rfl (tR rfl (tR rfl (tR rfl tZ)))) (hR rfl (hR rfl (hR rfl (hR rfl (hR rfl (hR rfl (hR rfl (hR rfl (hR rfl (hR rfl hZ)))))))))) (kR rfl (kR rfl kZ)) rfl (Nat.le_trans hv (lb rfl)) rfl rfl rfl (bB rfl rfl (bB rfl rfl (bB rfl rfl (bG rfl (bB rfl rfl (bB rfl rfl (bB rfl rfl (bB rfl rfl (bB rfl rfl (bB rfl rfl bZ)))))))))) rfl rfl))) rfl (ExecOK.from hb11 (fun E hv => (stle (tR rfl (tR rfl (tR rfl tZ))) (hR rfl (hR rfl (hR rfl (hR rfl (hR rfl (hR rfl (hR rfl (hR rfl (hR rfl (hR rfl hZ)))))))))) (kR rfl (kR rfl kZ)) rfl (Nat.le_trans hv (lb rfl)) rfl rfl rfl (bB rfl rfl (bB rfl rfl (bB rfl rfl (bG rfl (bB rfl rfl (bB rfl rfl (bB rfl rfl (bB rfl rfl (bB rfl rfl (bB rfl rfl bZ)))))))))) rfl rfl))) rfl rfl) ?_
      refine rR rfl rfl rfl (RO.not rfl) <| rM rfl rfl rfl <| rR rfl rfl rfl (RO.fieldOwn fo_115_1 rfl) <| rR rfl rfl rfl (RO.loadOwn ag_4 rfl rfl rfl) <| rR rfl rfl rfl (RO.not rfl) <| rM rfl rfl rfl ?_
      refine XL.case (d := 32) (c := (!x7.absurd)) rfl (fun c14 => ?_) (fun c14 => ?_)
      ·
       replace h2 := condT c14 h2
       refine rR rfl rfl rfl (RO.fieldOwn fo_115_2 rfl) <| rR rfl rfl rfl (RO.loadOwnAgg ag_87 rfl rfl rfl rfl) <| rR rfl rfl rfl (RO.loadOwn ag_68 rfl rfl rfl) ?_
       refine bindK h2 (fun x15 hx15 h2 => ?_)
       refine XL.put rfl rfl (lb rfl) (OpOK.callG (hp1' := [(0, .loop .ready none [(3, .v (.one (.ptr 2 0))), (6, .v (.one (.ptr 4 0))), (20, .v (.one (.fn 73 [(6, 0), (8, 0)])))] 33 #[21] m53_c0 m53_c1 1), (1, .obj (.deferred (some []))), (2, .cells 116 [.mp 3]), (3, .mp (gmE x15.2.1.1) x15.2.1.2), (4, .cells 23 [dA 5 x15.2.2]), (6, .cells 40 [dA 7 a3]), (8, .cells 48 (cE a4))]) (tk1' := [(5, some ⟨9, 1, (Enc.encL x15.2.2).length, []⟩), (7, some ⟨42, 5, (Enc.encL a3).length, []⟩)]) (hpF := [(9, .cells 87 (cE a0)), (10, .cells 68 [.yld 0]), (11, .cells 115 (cE x7))]) (tkF := []) (res2 := resOf [.one (dB x15.1)]) (nx2 := 14) [0, 1, 2, 3, 4, 5, 6, 7, 8] rfl rfl (H x7.tree y9.1 y9.2 a3 a4 x15 hx15) rfl rfl (qB rfl rfl (qB rfl rfl (qB rfl rfl (qG rfl (qB rfl rfl (qB rfl rfl (qB rfl rfl qZ))))))) rfl rfl (gR rfl (gR rfl (gR rfl (gG rfl (gR rfl (gR rfl (gR rfl gZ))))))) (jR rfl (jR rfl jZ)) (hR rfl (hR rfl (hR rfl hZ))) kZ rfl rfl rfl rfl rfl (bB rfl rfl (bB rfl rfl (bB rfl rfl (bG rfl (bB rfl rfl (bB rfl rfl (bB rfl rfl bZ))))))) rfl rfl rfl rfl) <| rR rfl rfl rfl (RO.not rfl) <| rR rfl rfl rfl (RO.pickT rfl rfl) <| rR rfl rfl rfl (RO.pickF rfl rfl) <| XL.nil ?_
       have e_ := Option.some.inj h2
       subst e_
       exact XQ.joinR (true, (!x15.1), (!x15.1), x15.2.1, x15.2.2) (stle (tR rfl (tR rfl (tR rfl (tR rfl (tR rfl (tR rfl (tR rfl (tR rfl (tR rfl (tR rfl tZ)))))))))) (hR rfl (hR rfl (hR rfl (hR rfl (hR rfl (hR rfl (hR rfl (hR rfl (hR rfl (hR rfl hZ)))))))))) (kR rfl (kR rfl kZ)) rfl (Nat.le_trans hv0 (lb rfl)) rfl rfl rfl (bB rfl rfl (bB rfl rfl (bB rfl rfl (bG rfl (bB rfl rfl (bB rfl rfl (bB rfl rfl (bB rfl rfl (bB rfl rfl (bB rfl rfl bZ)))))))))) rfl rfl) h1
      ·
       replace h2 := condF c14 h2
       refine XL.no rfl rfl <| XL.no rfl rfl <| XL.no rfl rfl <| XL.no rfl rfl <| XL.no rfl rfl <| rR rfl rfl rfl (RO.pickF rfl rfl) <| rR rfl rfl rfl (RO.pickF rfl rfl) <| XL.nil ?_
       have e_ := Option.some.inj h2
       subst e_
       exact XQ.joinR (false, false, false, y9.1, y9.2) (stle (tR rfl (tR rfl (tR rfl (tR rfl (tR rfl (tR rfl (tR rfl (tR rfl (tR rfl (tR rfl tZ)))))))))) (hR rfl (hR rfl (hR rfl (hR rfl (hR rfl (hR rfl (hR rfl (hR rfl (hR rfl (hR rfl hZ)))))))))) (kR rfl (kR rfl kZ)) rfl (Nat.le_trans hv0 (lb rfl)) rfl rfl rfl (bB rfl rfl (bB rfl rfl (bB rfl rfl (bG rfl (bB rfl rfl (bB rfl rfl (bB rfl rfl (bB rfl rfl (bB rfl rfl (bB rfl rfl bZ)))))))))) rfl rfl) h1
     ·
      intro v8 h1
      refine XQ.seq ?_
      refine XC.cond (b := v8.2.2.1) rfl (fun c16 => ?_) (fun c16 => ?_)
      ·
       replace h1 := condT c16 h1
       refine XC.seq <| XC.region <| rA rfl rfl rfl <| XL.nil <| XQ.seq <| XC.ret ?_
       have e_ := Option.some.inj h1
       subst e_
       have e_ : _ = _ := ho1
       subst e_
       try dsimp only [Sum.elim_inl, Sum.elim_inr] at h0
       have e_ := Option.some.inj h0
       subst e_
       exact hQ0 _ _ _ (.inr rfl) rfl (stle (tR rfl tZ) (hR rfl (hR rfl (hR rfl (hR rfl (hR rfl (hR rfl (hR rfl hZ))))))) (kR rfl (kR rfl kZ)) rfl (Nat.le_trans hv0 (lb rfl)) rfl rfl rfl (bB rfl rfl (bB rfl rfl (bB rfl rfl (bG rfl (bB rfl rfl (bB rfl rfl (bB rfl rfl bZ))))))) rfl rfl)
      ·
       replace h1 := condF c16 h1
       refine XC.skip <| XQ.inBlock <| XQ.seq <| XC.region <| rR rfl rfl rfl (RO.binInt rfl rfl rfl) <| rM rfl rfl rfl <| XL.nil ?_
       have e_ := Option.some.inj h1
       subst e_
       refine XQ.nextM ((w64 (s1.1 + 1)), v8.2.2.2.1, v8.2.2.2.2) (stle (tR rfl (tR rfl (tR rfl (tR rfl tZ)))) (hR rfl (hR rfl (hR rfl (hR rfl (hR rfl (hR rfl (hR rfl (hR rfl (hR rfl hZ))))))))) (kR rfl (kR rfl kZ)) rfl (Nat.le_trans hv0 (lb rfl)) rfl rfl rfl (bB rfl rfl (bB rfl rfl (bB rfl rfl (bG rfl (bB rfl rfl (bB rfl rfl (bB rfl rfl (bB rfl rfl (bB rfl rfl bZ))))))))) rfl rfl) ho1
    ·
     replace h1 := condF c6 h1
     refine XC.exit <| XQ.thenE <| XQ.thenE ?_
     have e_ := Option.some.inj h1
     subst e_
     have e_ : _ = _ := ho1
     subst e_
     exact XQ.joinX (s1.2.1, s1.2.2) (stle tZ (hR rfl (hR rfl (hR rfl (hR rfl (hR rfl (hR rfl (hR rfl (hR rfl (hR rfl hZ))))))))) (kR rfl (kR rfl kZ)) rfl (Nat.le_trans hv0 (lb rfl)) rfl rfl rfl (bB rfl rfl (bB rfl rfl (bB rfl rfl (bG rfl (bB rfl rfl (bB rfl rfl (bB rfl rfl (bB rfl rfl (bB rfl rfl bZ))))))))) rfl rfl) h0
   ·
    intro o4 h0
    refine XQ.blockX <| XQ.seq <| XC.seq <| XC.region <| rA rfl rfl rfl <| XL.nil <| XQ.seq <| XC.ret ?_
    have e_ := Option.some.inj h0
    subst e_
    exact hQ0 _ _ _ (.inr rfl) rfl (stle (tR rfl tZ) (hR rfl (hR rfl (hR rfl (hR rfl (hR rfl (hR rfl (hR rfl hZ))))))) (kR rfl (kR rfl kZ)) rfl (Nat.le_trans hv0 (lb rfl)) rfl rfl rfl (bB rfl rfl (bB rfl rfl (bB rfl rfl (bG rfl (bB rfl rfl (bB rfl rfl (bB rfl rfl bZ))))))) rfl rfl)
theorem m75f1_all (n : Nat) (u : Tr × (GMap Bs Bool) × (List Bs) × (List Tm) × Dcl) (r : Bool × (GMap Bs Bool) × (List Bs)) (h0 : recO m75f1F n u = some r) : CallM Try.prog 75 [.agg (cE u.1), .one (.yld 0)] ⟨[(0, .loop .ready none [(3, .v (.one (.ptr 2 0))), (6, .v (.one (.ptr 4 0))), (20, .v (.one (.fn 73 [(6, 0), (8, 0)])))] 33 #[21] m53_c0 m53_c1 1), (1, .obj (.deferred (some []))), (2, .cells 116 [.mp 3]), (3, .mp (gmE u.2.1.1) u.2.1.2), (4, .cells 23 [dA 5 u.2.2.1]), (6, .cells 40 [dA 7 u.2.2.2.1]), (8, .cells 48 (cE u.2.2.2.2))], [(5, some ⟨9, 1, (Enc.encL u.2.2.1).length, []⟩), (7, some ⟨42, 5, (Enc.encL u.2.2.2.1).length, []⟩)], 9⟩ (resOf [.one (dB r.1)]) ⟨[(0, .loop .ready none [(3, .v (.one (.ptr 2 0))), (6, .v (.one (.ptr 4 0))), (20, .v (.one (.fn 73 [(6, 0), (8, 0)])))] 33 #[21] m53_c0 m53_c1 1), (1, .obj (.deferred (some []))), (2, .cells 116 [.mp 3]), (3, .mp (gmE r.2.1.1) r.2.1.2), (4, .cells 23 [dA 5 r.2.2]), (6, .cells 40 [dA 7 u.2.2.2.1]), (8, .cells 48 (cE u.2.2.2.2))], [(5, some ⟨9, 1, (Enc.encL r.2.2).length, []⟩), (7, some ⟨42, 5, (Enc.encL u.2.2.2.1).length, []⟩)], 11⟩ :=
  recO_ind (C := fun u r => CallM Try.prog 75 [.agg (cE u.1), .one (.yld 0)] ⟨[(0, .loop .ready none [(3, .v (.one (.ptr 2 0))), (6, .v (.one (.ptr 4 0))), (20, .v (.one (.fn 73 [(6, 0), (8, 0)])))] 33 #[21] m53_c0 m53_c1 1), (1, .obj (.deferred (some []))), (2, .cells 116 [.mp 3]), (3, .mp (gmE u.2.1.1) u.2.1.2), (4, .cells 23 [dA 5 u.2.2.1]), (6, .cells 40 [dA 7 u.2.2.2.1]), (8, .cells 48 (cE u.2.2.2.2))], [(5, some ⟨9, 1, (Enc.encL u.2.2.1).length, []⟩), (7, some ⟨42, 5, (Enc.encL u.2.2.2.1).length, []⟩)], 9⟩ (resOf [.one (dB r.1)]) ⟨[(0, .loop .ready none [(3, .v (.one (.ptr 2 0))), (6, .v (.one (.ptr 4 0))), (20, .v (.one (.fn 73 [(6, 0), (8, 0)])))] 33 #[21] m53_c0 m53_c1 1), (1, .obj (.deferred (some []))), (2, .cells 116 [.mp 3]), (3, .mp (gmE r.2.1.1) r.2.1.2), (4, .cells 23 [dA 5 r.2.2]), (6, .cells 40 [dA 7 u.2.2.2.1]), (8, .cells 48 (cE u.2.2.2.2))], [(5, some ⟨9, 1, (Enc.encL r.2.2).length, []⟩), (7, some ⟨42, 5, (Enc.encL u.2.2.2.1).length, []⟩)], 11⟩) (fun rc H u r h => m75f1s_ok rc (fun a0 a1 a2 a3 a4 r h => H (a0, a1, a2, a3, a4) r h) u.1 u.2.1 u.2.2.1 u.2.2.2.1 u.2.2.2.2 r h) n u r h0
theorem m75f1_ok (a0 : Tr) (a1 : GMap Bs Bool) (a2 : List Bs) (a3 : List Tm) (a4 : Dcl) (r : Bool × (GMap Bs Bool) × (List Bs)) (h0 : m75f1 a0 a1 a2 a3 a4 = some r) : CallM Try.prog 75 [.agg (cE a0), .one (.yld 0)] ⟨[(0, .loop .ready none [(3, .v (.one (.ptr 2 0))), (6, .v (.one (.ptr 4 0))), (20, .v (.one (.fn 73 [(6, 0), (8, 0)])))] 33 #[21] m53_c0 m53_c1 1), (1, .obj (.deferred (some []))), (2, .cells 116 [.mp 3]), (3, .mp (gmE a1.1) a1.2), (4, .cells 23 [dA 5 a2]), (6, .cells 40 [dA 7 a3]), (8, .cells 48 (cE a4))], [(5, some ⟨9, 1, (Enc.encL a2).length, []⟩), (7, some ⟨42, 5, (Enc.encL a3).length, []⟩)], 9⟩ (resOf [.one (dB r.1)]) ⟨[(0, .loop .ready none [(3, .v (.one (.ptr 2 0))), (6, .v (.one (.ptr 4 0))), (20, .v (.one (.fn 73 [(6, 0), (8, 0)])))] 33 #[21] m53_c0 m53_c1 1), (1, .obj (.deferred (some []))), (2, .cells 116 [.mp 3]), (3, .mp (gmE r.2.1.1) r.2.1.2), (4, .cells 23 [dA 5 r.2.2]), (6, .cells 40 [dA 7 a3]), (8, .cells 48 (cE a4))], [(5, some ⟨9, 1, (Enc.encL r.2.2).length, []⟩), (7, some ⟨42, 5, (Enc.encL a3).length, []⟩)], 11⟩ := m75f1_all FUEL (a0, a1, a2, a3, a4) r h0
def m53_l0 (x1 : (List Bs)) (s1 : Int × (GMap Bs Bool)) : Option (LO (Int × (GMap Bs Bool)) (((GMap Bs Bool)))) :=
  cond (decide (s1.1 < (x1.length : Int)))
    (Option.bind (idx x1 s1.1) fun (x4 : Bs) =>
  some (.next ((w64 (s1.1 + 1)), (gmSet s1.2 x4 true))))
    (some (.done s1.2))
def m53_l1 (a0 : Dcl) (s2 : Int × (List Tm)) : Option (LO (Int × (List Tm)) (((List Tm)))) :=
  cond (decide (s2.1 < (a0.ctors.length : Int)))
    (Option.bind (idx a0.ctors s2.1) fun (x7 : Ctr) =>
  guardO (Nat.ble (s2.2.length + 1) 1000000000)
  (some (.next ((w64 (s2.1 + 1)), (s2.2 ++ [x7.ty])))))
    (some (.done s2.2))
def m53_l2 (a0 : Dcl) (s2 : Int × (List Tm)) : Option (LO (Int × (List Tm)) (((List Tm)))) :=
  cond (decide (s2.1 < (a0.funs.length : Int)))
    (Option.bind (idx a0.funs s2.1) fun (x10 : Fn) =>
  guardO (Nat.ble (s2.2.length + 1) 1000000000)
  (some (.next ((w64 (s2.1 + 1)), (s2.2 ++ [x10.ty])))))
    (some (.done s2.2))
def m53_l3 (x22 : (List Bs)) (s3 : Int × (GMap Bs Bool) × (List Bs)) : Option (LO (Int × (GMap Bs Bool) × (List Bs)) (((GMap Bs Bool) × (List Bs)))) :=
  cond (decide (s3.1 < (x22.length : Int)))
    (Option.bind (idx x22 s3.1) fun (x25 : Bs) =>
  Option.bind (cond (!(gmVal s3.2.1 x25))
    (guardO (Nat.ble (s3.2.2.length + ([x25]).length) 1000000000)
  (some ((gmSet s3.2.1 x25 true), (s3.2.2 ++ ([x25])))))
    (some (s3.2.1, s3.2.2))) (fun (y26 : (GMap Bs Bool) × (List Bs)) => some (.next ((w64 (s3.1 + 1)), y26.1, y26.2))))
    (some (.done (s3.2.1, s3.2.2)))
def m53_l4 (y3 : (List Tm)) (s2 : Int × (GMap Bs Bool) × (List Bs)) : Option (LO (Int × (GMap Bs Bool) × (List Bs)) (((GMap Bs Bool) × (List Bs)))) :=
  cond (decide (s2.1 < (y3.length : Int)))
    (Option.bind (idx y3 s2.1) fun (x21 : Tm) =>
  Option.bind (m74 x21) fun (x22 : (List Bs)) =>
  Option.bind (loopN (m53_l3 x22) FUEL (0, s2.2.1, s2.2.2)) (fun (o23 : (GMap Bs Bool) × (List Bs)) => some (.next ((w64 (s2.1 + 1)), o23.1, o23.2))))
    (some (.done (s2.2.1, s2.2.2)))
def m53_l5 (a0 : Dcl) (y3 : (List Tm)) (s2 : Int × (GMap Bs Bool) × (List Bs)) : Option (LO (Int × (GMap Bs Bool) × (List Bs)) (((GMap Bs Bool) × (List Bs)) ⊕ (((GMap Bs Bool) × (List Bs))))) :=
  cond (decide (s2.1 < (a0.funs.length : Int)))
    (Option.bind (idx a0.funs s2.1) fun (x22 : Fn) =>
  Option.bind (m75f1 x22.tree s2.2.1 s2.2.2 y3 a0) fun (x23 : Bool × (GMap Bs Bool) × (List Bs)) =>
  cond (!x23.1)
    (some (.done (.inr (x23.2.1, x23.2.2))))
    (some (.next ((w64 (s2.1 + 1)), x23.2.1, x23.2.2))))
    (some (.done (.inl (s2.2.1, s2.2.2))))
def m53 (a0 : Dcl) : Option ((List Bs)) :=
  Option.bind (m37 a0) fun (x1 : (List Bs)) =>
  Option.bind (loopN (m53_l0 x1) FUEL (0, gmNil)) (fun (o2 : (GMap Bs Bool)) => Option.bind (Option.bind (loopN (m53_l1 a0) FUEL (0, [a0.ty, a0.value])) (fun (o5 : (List Tm)) => guardO (Nat.ble (o5.length + ([a0.rcr.ty]).length) 1000000000)
  (guardO (Nat.ble ((o5 ++ ([a0.rcr.ty])).length + a0.rcr.rules.length) 1000000000)
  (Option.bind (loopN (m53_l2 a0) FUEL (0, ((o5 ++ ([a0.rcr.ty])) ++ a0.rcr.rules))) (fun (o8 : (List Tm)) => some o8))))) (fun (y3 : (List Tm)) => Option.bind (Option.bind (loopN (m53_l4 y3) FUEL (0, o2, [])) (fun (o19 : (GMap Bs Bool) × (List Bs)) => Option.bind (loopN (m53_l5 a0 y3) FUEL (0, o19.1, o19.2)) (Sum.elim (fun (o20 : (GMap Bs Bool) × (List Bs)) => some (o20.1, o20.2)) (fun o => some o)))) (fun (y17 : (GMap Bs Bool) × (List Bs)) => some y17.2)))
set_option maxRecDepth 100000 in
set_option maxHeartbeats 8000000 in
theorem m53_ok (a0 : Dcl) (r : (List Bs)) (h0 : m53 a0 = some r) : Fun Try.prog 53 [.agg (cE a0)] (resOf [.one (dS r)]) := by
  unfold m53 at h0
  refine Fun.of_bodyM 9 33 Try.func53 rfl en_53 rfl (lb rfl) (fun S w => ?_)
  simp only [entry]
  refine XC.seq <| XC.region <| XL.put rfl rfl (lb rfl) (OpOK.box rfl) <| rA rfl rfl rfl <| XL.nil <| XQ.seq <| XC.seq <| XC.region <| XL.put rfl rfl (lb rfl) (OpOK.makeMapG Bs Bool) <| XL.put rfl rfl (lb rfl) (OpOK.alloc z_116 rfl) <| XL.eff rfl rfl (OpOK.store ag_116 rfl rfl rfl rfl (lb rfl) rfl) <| XL.nil <| XQ.seq <| XC.seq ?_
  refine XC.seq <| XC.region <| rR rfl rfl rfl (RO.loadOwnAgg ag_48 rfl rfl rfl rfl) ?_
  refine bindK h0 (fun x1 hx1 h0 => ?_)
  refine XL.put rfl rfl (lb rfl) (OpOK.callFun (m37_ok a0 x1 hx1) rfl (.cons (.agg (.cons (.d _) (.cons (.d _) (.cons (.d _) (.cons (.d _) (.cons (.d _) (.cons (.d _) (.cons (.d _) (.cons (.d _) (.cons (.d _) (.cons (.d _) (.cons (.d _) (.cons (.d _) (.cons (.d _) (.cons (.d _) (.cons (.d _) (.cons (.d _) (.cons (.d _) (.cons (.d _) (.cons (.d _) (.cons (.d _) (.cons (.d _) (.cons (.d _) (.cons (.d _) .nil)))))))))))))))))))))))) .nil)) <| rR rfl rfl rfl (RO.lenE (α := Bs) sl_23 rfl (.d _)) <| rM rfl rfl rfl <| XL.nil <| XQ.seq <| XC.block ?_
  refine XC.joinX 0 (fun (o2 : (GMap Bs Bool)) => ⟨[(1, .v (.one (.ptr 0 0))), (3, .v (.one (.ptr 2 0)))], [(0, .cells 48 (cE a0)), (1, .mp (gmE o2.1) o2.2), (2, .cells 116 [.mp 1])], [], 3, 33, []⟩) (fun (o2 : (GMap Bs Bool)) => (Option.bind (Option.bind (loopN (m53_l1 a0) FUEL (0, [a0.ty, a0.value])) (fun (o5 : (List Tm)) => guardO (Nat.ble (o5.length + ([a0.rcr.ty]).length) 1000000000)
    (guardO (Nat.ble ((o5 ++ ([a0.rcr.ty])).length + a0.rcr.rules.length) 1000000000)
    (Option.bind (loopN (m53_l2 a0) FUEL (0, ((o5 ++ ([a0.rcr.ty])) ++ a0.rcr.rules))) (fun (o8 : (List Tm)) => some o8))))) (fun (y3 : (List Tm)) => Option.bind (Option.bind (loopN (m53_l4 y3) FUEL (0, o2, [])) (fun (o19 : (GMap Bs Bool) × (List Bs)) => Option.bind (loopN (m53_l5 a0 y3) FUEL (0, o19.1, o19.2)) (Sum.elim (fun (o20 : (GMap Bs Bool) × (List Bs)) => some (o20.1, o20.2)) (fun o => some o)))) (fun (y17 : (GMap Bs Bool) × (List Bs)) => some y17.2))) = some r) ?_ ?_
  ·
   refine bindK h0 (fun o3 hl1 h0 => ?_)
   refine XC.loopM (m53_l0 x1) (fun s1 => ⟨[(1, .v (.one (.ptr 0 0))), (3, .v (.one (.ptr 2 0))), (10, .v (.one (dS x1))), (11, .v (.one (dI (x1.length : Int)))), (12, .v (.one (dI s1.1)))], [(0, .cells 48 (cE a0)), (1, .mp (gmE s1.2.1) s1.2.2), (2, .cells 116 [.mp 1])], [], 3, 33, []⟩) (0, gmNil) o3 (stle (tR rfl (tR rfl (tR rfl (tR rfl (tR rfl tZ))))) (hR rfl (hR rfl (hR rfl hZ))) kZ rfl (Nat.zero_le _) rfl rfl rfl (bB rfl rfl (bG rfl (bB rfl rfl bZ))) rfl rfl) hl1 (fun s1 n1 oo1 h1 ho1 => ?_)
   unfold m53_l0 at h1
   refine XC.seq <| XC.region <| rR rfl rfl rfl (RO.binInt rfl rfl rfl) <| XL.nil <| XQ.seq <| XC.seq ?_
   refine XC.cond (b := (decide (s1.1 < (x1.length : Int)))) rfl (fun c4 => ?_) (fun c4 => ?_)
   ·
    replace h1 := condT c4 h1
    refine XC.skip <| XQ.seq <| XC.seq <| XC.block <| XC.seq <| XC.region ?_
    refine bindK h1 (fun x5 hx5 h1 => ?_)
    refine rR rfl rfl rfl (RO.indexE (α := Bs) sl_23 rfl (.d _) rfl hx5) <| rR rfl rfl rfl (RO.loadPel ag_9 rfl rfl) <| rA rfl rfl rfl <| XL.nil <| XQ.seq <| XC.region <| rR rfl rfl rfl (RO.loadOwn ag_116 rfl rfl rfl) <| rM rfl rfl rfl <| XL.eff rfl rfl (OpOK.mapSetG (M := s1.2) (k := x5) (v := true) mp_116 rfl rfl rfl rfl rfl) <| XL.nil <| XQ.inBlock <| XQ.seq <| XC.region <| rR rfl rfl rfl (RO.binInt rfl rfl rfl) ?_
    refine rM rfl rfl rfl <| XL.nil ?_
    have e_ := Option.some.inj h1
    subst e_
    refine XQ.nextM ((w64 (s1.1 + 1)), (gmSet s1.2 x5 true)) (stle (tR rfl (tR rfl (tR rfl (tR rfl (tR rfl tZ))))) (hR rfl (hR rfl (hR rfl hZ))) kZ rfl (Nat.zero_le _) rfl rfl rfl (bB rfl rfl (bG rfl (bB rfl rfl bZ))) rfl rfl) ho1
   ·
    replace h1 := condF c4 h1
    refine XC.exit <| XQ.thenE <| XQ.thenE ?_
    have e_ := Option.some.inj h1
    subst e_
    have e_ : _ = _ := ho1
    subst e_
    exact XQ.joinX s1.2 (stle (tR rfl (tR rfl tZ)) (hR rfl (hR rfl (hR rfl hZ))) kZ rfl (Nat.zero_le _) rfl rfl rfl (bB rfl rfl (bG rfl (bB rfl rfl bZ))) rfl rfl) h0
  ·
   intro o2 h0
   refine XQ.blockX <| XQ.seq <| XC.seq <| XC.region <| XL.put rfl rfl (lb rfl) (OpOK.alloc z_23 rfl) <| XL.nil <| XQ.seq <| XC.seq <| XC.seq <| XC.region <| rR rfl rfl rfl (RO.loadOwnAgg ag_48 rfl rfl rfl rfl) ?_
   refine bindK h0 (fun y6 h1 h0 => ?_)
   have hc7 : CallM Try.prog 67 [.agg (cE a0)] ⟨[(0, .cells 48 (cE a0)), (1, .mp (gmE o2.1) o2.2), (2, .cells 116 [.mp 1]), (3, .cells 23 [dN])], [], 4⟩ (resOf [.one (.fn 73 [(6, 0), (4, 0)])]) ⟨[(0, .cells 48 (cE a0)), (1, .mp (gmE o2.1) o2.2), (2, .cells 116 [.mp 1]), (3, .cells 23 [dN]), (4, .cells 48 (cE a0)), (6, .cells 40 [dA 5 y6])], [(5, some ⟨42, 5, (Enc.encL y6).length, []⟩)], 7⟩ := by
    refine CallM.of_bodyD ⟨[(2, .v (.one (.fn 73 [(6, 0), (4, 0)])))], [(0, .cells 48 (cE a0)), (1, .mp (gmE o2.1) o2.2), (2, .cells 116 [.mp 1]), (3, .cells 23 [dN]), (4, .cells 48 (cE a0)), (6, .cells 40 [dA 5 y6])], [(5, some ⟨42, 5, (Enc.encL y6).length, []⟩)], 7, 54, []⟩ rfl rfl en_67 (lb rfl) rfl (RAs.tmp rfl .nil) (fun w0 M V0 Q hv1 hQ1 => ?_)
    simp only [entry]
    refine XC.seq <| XC.region <| XL.put rfl rfl (lb rfl) (OpOK.box rfl) <| rA rfl rfl rfl <| XL.nil <| XQ.seq <| XC.seq <| XC.region <| rR rfl rfl rfl (RO.fieldOwn fo_48_3 rfl) <| rR rfl rfl rfl (RO.loadOwnAgg ag_42 rfl rfl rfl rfl) <| rR rfl rfl rfl (RO.fieldOwn fo_48_4 rfl) <| rR rfl rfl rfl (RO.loadOwnAgg ag_42 rfl rfl rfl rfl) <| XL.put rfl rfl (lb rfl) (OpOK.lit2E (α := Tm) a0.ty a0.value sl_40 z_42 rfl rfl (lb rfl) (lb rfl) rfl rfl rfl (.cons (.d _) (.cons (.d _) (.cons (.d _) (.cons (.d _) (.cons (.d _) (.cons (.d _) (.cons (.d _) (.cons (.d _) (.cons (.d _) (.cons (.d _) .nil)))))))))) ⟨rfl, rfl⟩) <| XL.put rfl rfl (lb rfl) (OpOK.alloc z_40 rfl) ?_
    refine XL.eff rfl rfl (OpOK.store ag_40 rfl rfl rfl rfl (lb rfl) rfl) <| XL.nil <| XQ.seq <| XC.seq <| XC.seq <| XC.region <| rR rfl rfl rfl (RO.fieldOwn fo_48_6 rfl) <| rR rfl rfl rfl (RO.loadOwn ag_43 rfl rfl rfl) <| rR rfl rfl rfl (RO.lenE (α := Ctr) sl_43 rfl (.d _)) <| rM rfl rfl rfl <| XL.nil <| XQ.seq <| XC.block ?_
    refine XC.joinX 0 (fun (o8 : (List Tm)) => ⟨[(1, .v (.one (.ptr 4 0))), (3, .v (.one (.ptr 6 0)))], [(0, .cells 48 (cE a0)), (1, .mp (gmE o2.1) o2.2), (2, .cells 116 [.mp 1]), (3, .cells 23 [dN]), (4, .cells 48 (cE a0)), (6, .cells 40 [dA 5 o8])], [(5, some ⟨42, 5, (Enc.encL o8).length, []⟩)], 7, 54, []⟩) (fun (o8 : (List Tm)) => (guardO (Nat.ble (o8.length + ([a0.rcr.ty]).length) 1000000000)
      (guardO (Nat.ble ((o8 ++ ([a0.rcr.ty])).length + a0.rcr.rules.length) 1000000000)
      (Option.bind (loopN (m53_l2 a0) FUEL (0, ((o8 ++ ([a0.rcr.ty])) ++ a0.rcr.rules))) (fun (o11 : (List Tm)) => some o11)))) = some y6) ?_ ?_
    ·
     refine bindK h1 (fun o9 hl2 h1 => ?_)
     refine XC.loopM (m53_l1 a0) (fun s2 => ⟨[(1, .v (.one (.ptr 4 0))), (3, .v (.one (.ptr 6 0))), (14, .v (.one (dS a0.ctors))), (15, .v (.one (dI (a0.ctors.length : Int)))), (16, .v (.one (dI s2.1)))], [(0, .cells 48 (cE a0)), (1, .mp (gmE o2.1) o2.2), (2, .cells 116 [.mp 1]), (3, .cells 23 [dN]), (4, .cells 48 (cE a0)), (6, .cells 40 [dA 5 s2.2])], [(5, some ⟨42, 5, (Enc.encL s2.2).length, []⟩)], 7, 54, []⟩) (0, [a0.ty, a0.value]) o9 (stle (tR rfl (tR rfl (tR rfl (tR rfl (tR rfl tZ))))) (hR rfl (hR rfl (hR rfl (hR rfl (hR rfl (hR rfl hZ)))))) (kR rfl kZ) rfl (Nat.le_trans hv1 (lb rfl)) rfl rfl rfl (bB rfl rfl (bG rfl (bB rfl rfl (bB rfl rfl (bB rfl rfl (bB rfl rfl bZ)))))) rfl rfl) hl2 (fun s2 n2 oo2 h2 ho2 => ?_)
     unfold m53_l1 at h2
     refine XC.seq <| XC.region <| rR rfl rfl rfl (RO.binInt rfl rfl rfl) <| XL.nil <| XQ.seq <| XC.seq ?_
     refine XC.cond (b := (decide (s2.1 < (a0.ctors.length : Int)))) rfl (fun c10 => ?_) (fun c10 => ?_)
     ·
      replace h2 := condT c10 h2
      refine XC.skip <| XQ.seq <| XC.seq <| XC.block <| XC.seq <| XC.region ?_
      refine bindK h2 (fun x11 hx11 h2 => ?_)
      refine rR rfl rfl rfl (RO.indexE (α := Ctr) sl_43 rfl (.d _) rfl hx11) <| rR rfl rfl rfl (RO.loadPelAgg ag_84 rfl rfl rfl) <| XL.put rfl rfl (lb rfl) (OpOK.alloc z_84 rfl) <| XL.eff rfl rfl (OpOK.store ag_84 rfl rfl rfl rfl (lb rfl) rfl) <| XL.nil <| XQ.seq ?_
      refine XC.swRun [5, 7, 8] [[], [5], [5, 7], [5, 7, 8], [5, 8]] [(8, 1), (6, 4), (7, 4)] mixed (by kernel_rfl) (by kernel_rfl) (by kernel_rfl) (by kernel_rfl) rfl (by kernel_rfl) ?_
      refine RunA.rd rfl rfl rfl (OpOK.of_ro (RO.loadOwn ag_40 rfl rfl rfl)) rfl <| RunA.rd rfl rfl rfl (OpOK.of_ro (RO.fieldOwn fo_84_1 rfl)) rfl <| RunA.rd rfl rfl rfl (OpOK.of_ro (RO.loadOwnAgg ag_42 rfl rfl rfl rfl)) rfl <| RunA.rd rfl rfl rfl (OpOK.of_ro (RO.lenE (α := Tm) sl_40 rfl (.app _ _))) rfl <| RunA.rd rfl rfl rfl (OpOK.data1E (α := Tm) ((Tm.mk 0 0 ([] : List UInt8) ([] : List Lvl) ([] : List Tm))) sl_40 z_42 rfl rfl (lb rfl) rfl rfl (.cons (.d _) (.cons (.d _) (.cons (.d _) (.cons (.nil _) (.cons (.nil _) .nil))))) rfl) rfl ?_
      refine guardK h2 (fun g12 h2 => ?_)
      refine RunA.eff rfl rfl rfl (OpOK.appendH (α := Tm) (l := s2.2) (z := (Tm.mk 0 0 ([] : List UInt8) ([] : List Lvl) ([] : List Tm))) sl_40 el_42 rfl rfl rfl rfl (.d _) g12) rfl <| RunA.rd rfl rfl rfl (OpOK.of_ro (RO.indexP sl_40 rfl rfl rfl (lt_H (α := Tm) s2.2))) rfl <| RunA.eff rfl rfl rfl (OpOK.storeH (α := Tm) (l := s2.2) (y' := .agg [dI x11.ty.kind, dI x11.ty.index, dS8 x11.ty.name, dS x11.ty.levels, dS x11.ty.kids]) x11.ty ag_42 rfl rfl (.agg (.cons (.d _) (.cons (.d _) (.cons (.d _) (.cons (.d _) (.cons (.d _) .nil)))))) rfl rfl rfl) rfl <| RunA.eff rfl rfl rfl (OpOK.store ag_40 rfl rfl rfl rfl (lb rfl) rfl) rfl ?_
      refine RunA.nil ⟨[_], ⟨⟨_, _, rfl, rfl, _, _, rfl, rfl, rfl, .inl ⟨rfl, _, (OpOK.store ag_40 rfl rfl rfl rfl (lb rfl) rfl), .inl ⟨rfl, 4, _, rfl, rfl, rfl⟩⟩⟩, ⟨⟨_, _, rfl, rfl, _, _, rfl, rfl, rfl, .inl ⟨rfl, _, (OpOK.of_ro (RO.indexP sl_40 rfl rfl rfl (lt_H (α := Tm) s2.2))), .inr ⟨rfl, rfl⟩⟩⟩, ⟨⟨_, _, rfl, rfl, _, _, rfl, rfl, rfl, .inl ⟨rfl, _, (OpOK.storeH (α := Tm) (l := s2.2) (y' := .agg [dI x11.ty.kind, dI x11.ty.index, dS8 x11.ty.name, dS x11.ty.levels, dS x11.ty.kids]) x11.ty ag_42 rfl rfl (.agg (.cons (.d _) (.cons (.d _) (.cons (.d _) (.cons (.d _) (.cons (.d _) .nil)))))) rfl rfl rfl), .inl ⟨rfl, 3, _, rfl, rfl, rfl⟩⟩⟩, trivial⟩⟩⟩, _, _, rfl, ?_⟩
      refine XQ.less (st' := ⟨[(1, .v (.one (.ptr 4 0))), (3, .v (.one (.ptr 6 0))), (14, .v (.one (dS a0.ctors))), (15, .v (.one (dI (a0.ctors.length : Int)))), (16, .v (.one (dI s2.1)))], [(0, .cells 48 (cE a0)), (1, .mp (gmE o2.1) o2.2), (2, .cells 116 [.mp 1]), (3, .cells 23 [dN]), (4, .cells 48 (cE a0)), (6, .cells 40 [.apv 5 5 ((Enc.encL s2.2).length + 1) (Enc.encL s2.2)]), (7, .cells 84 (cE x11))], [(5, some ⟨42, 5, (Enc.encL s2.2).length + 1, (Enc.encL ([x11.ty] : List Tm)).flatten⟩)], 8, 54, []⟩) (stle (tR rfl (tR rfl (tR rfl (tR rfl (tR rfl tZ))))) (hR rfl (hR rfl (hR rfl (hR rfl (hR rfl (hR rfl (hR rfl hZ))))))) (kR rfl kZ) rfl (Nat.le_trans hv1 (lb rfl)) rfl rfl rfl (bB rfl rfl (bG rfl (bB rfl rfl (bB rfl rfl (bB rfl rfl (bB rfl rfl (bB rfl rfl bZ))))))) rfl rfl) <| XQ.settleC (α := Tm) (b := 6) (off := 0) (l := s2.2) (l2 := [x11.ty]) rfl rfl rfl (n_H _ _) <| XQ.inBlock <| XQ.seq <| XC.region <| rR rfl rfl rfl (RO.binInt rfl rfl rfl) <| rM rfl rfl rfl <| XL.nil ?_
      have e_ := Option.some.inj h2
      subst e_
      refine XQ.nextM ((w64 (s2.1 + 1)), (s2.2 ++ [x11.ty])) (stle (tR rfl (tR rfl (tR rfl (tR rfl (tR rfl tZ))))) (hR rfl (hR rfl (hR rfl (hR rfl (hR rfl (hR rfl hZ)))))) (kR rfl kZ) rfl (Nat.le_trans hv1 (lb rfl)) rfl rfl rfl (bB rfl rfl (bG rfl (bB rfl rfl (bB rfl rfl (bB rfl rfl (bB rfl rfl bZ)))))) rfl rfl) ho2
     ·
      replace h2 := condF c10 h2
      refine XC.exit <| XQ.thenE <| XQ.thenE ?_
      have e_ := Option.some.inj h2
      subst e_
      have e_ : _ = _ := ho2
      subst e_
      exact XQ.joinX s2.2 (stle (tR rfl (tR rfl tZ)) (hR rfl (hR rfl (hR rfl (hR rfl (hR rfl (hR rfl hZ)))))) (kR rfl kZ) rfl (Nat.le_trans hv1 (lb rfl)) rfl rfl rfl (bB rfl rfl (bG rfl (bB rfl rfl (bB rfl rfl (bB rfl rfl (bB rfl rfl bZ)))))) rfl rfl) h1
    ·
     intro o8 h1
     refine XQ.blockX <| XQ.seq <| XC.seq ?_
     refine XC.anyRun [5, 9, 10] [(6, 0), (7, 0), (8, 0)] mixed (by kernel_rfl) (by kernel_rfl) (by kernel_rfl) ?_
     refine RunA.rd rfl rfl rfl (OpOK.of_ro (RO.loadOwn ag_40 rfl rfl rfl)) rfl <| RunA.rd rfl rfl rfl (OpOK.of_ro (RO.fieldOwn fo_48_7 rfl)) rfl <| RunA.rd rfl rfl rfl (OpOK.of_ro (RO.fieldOwn fo_45_1 rfl)) rfl <| RunA.rd rfl rfl rfl (OpOK.of_ro (RO.loadOwnAgg ag_42 rfl rfl rfl rfl)) rfl <| RunA.rd rfl rfl rfl (OpOK.data1E (α := Tm) (a0.rcr.ty) sl_40 z_42 rfl rfl (lb rfl) rfl rfl (.cons (.d _) (.cons (.d _) (.cons (.d _) (.cons (.d _) (.cons (.d _) .nil))))) rfl) rfl ?_
     refine guardK h1 (fun g13 h1 => ?_)
     refine RunA.eff rfl rfl rfl (OpOK.appendE (α := Tm) sl_40 el_42 rfl rfl rfl rfl rfl (.d _) g13) rfl <| RunA.rd rfl rfl rfl (OpOK.of_ro (RO.fieldOwn fo_48_7 rfl)) rfl <| RunA.rd rfl rfl rfl (OpOK.of_ro (RO.fieldOwn fo_45_2 rfl)) rfl <| RunA.rd rfl rfl rfl (OpOK.of_ro (RO.loadOwn ag_40 rfl rfl rfl)) rfl ?_
     refine guardK h1 (fun g14 h1 => ?_)
     refine RunA.eff rfl rfl rfl (OpOK.appendE (α := Tm) sl_40 el_42 rfl rfl rfl rfl rfl (.d _) g14) rfl <| RunA.eff rfl rfl rfl (OpOK.store ag_40 rfl rfl rfl rfl (lb rfl) rfl) rfl ?_
     refine RunA.nil ⟨?ex, _, _, rfl, ?_⟩
     case ex => exact ⟨⟨_, rfl, _, _, rfl, rfl, rfl, .inl ⟨rfl, _, OpOK.of_ro (RO.fieldOwn fo_48_7 rfl), rfl⟩⟩, ⟨_, rfl, _, _, rfl, rfl, rfl, .inl ⟨rfl, _, OpOK.of_ro (RO.fieldOwn fo_45_2 rfl), rfl⟩⟩, ⟨_, rfl, _, _, rfl, rfl, rfl, .inl ⟨rfl, _, OpOK.of_ro (RO.loadOwn ag_40 rfl rfl rfl), rfl⟩⟩, trivial⟩
     refine XQ.less (st' := ⟨[(1, .v (.one (.ptr 4 0))), (3, .v (.one (.ptr 6 0)))], [(0, .cells 48 (cE a0)), (1, .mp (gmE o2.1) o2.2), (2, .cells 116 [.mp 1]), (3, .cells 23 [dN]), (4, .cells 48 (cE a0)), (6, .cells 40 [dA 5 (((o8 ++ ([a0.rcr.ty])) ++ a0.rcr.rules) : List Tm)])], [(5, some ⟨42, 5, (Enc.encL (((o8 ++ ([a0.rcr.ty])) ++ a0.rcr.rules) : List Tm)).length, []⟩)], 7, 54, []⟩) (stle (tR rfl (tR rfl tZ)) (hR rfl (hR rfl (hR rfl (hR rfl (hR rfl (hR rfl hZ)))))) (kR rfl kZ) rfl (Nat.le_trans hv1 (lb rfl)) rfl rfl rfl (bB rfl rfl (bG rfl (bB rfl rfl (bB rfl rfl (bB rfl rfl (bB rfl rfl bZ)))))) rfl rfl) <| XQ.seq <| XC.seq <| XC.seq <| XC.region <| rR rfl rfl rfl (RO.fieldOwn fo_48_8 rfl) <| rR rfl rfl rfl (RO.loadOwn ag_46 rfl rfl rfl) <| rR rfl rfl rfl (RO.lenE (α := Fn) sl_46 rfl (.d _)) <| rM rfl rfl rfl <| XL.nil <| XQ.seq <| XC.block ?_
     refine XC.joinX 2 (fun (o15 : (List Tm)) => ⟨[(1, .v (.one (.ptr 4 0))), (3, .v (.one (.ptr 6 0)))], [(0, .cells 48 (cE a0)), (1, .mp (gmE o2.1) o2.2), (2, .cells 116 [.mp 1]), (3, .cells 23 [dN]), (4, .cells 48 (cE a0)), (6, .cells 40 [dA 5 o15])], [(5, some ⟨42, 5, (Enc.encL o15).length, []⟩)], 7, 54, []⟩) (fun (o15 : (List Tm)) => (some o15) = some y6) ?_ ?_
     ·
      refine bindK h1 (fun o16 hl2 h1 => ?_)
      refine XC.loopM (m53_l2 a0) (fun s2 => ⟨[(1, .v (.one (.ptr 4 0))), (3, .v (.one (.ptr 6 0))), (39, .v (.one (dS a0.funs))), (40, .v (.one (dI (a0.funs.length : Int)))), (41, .v (.one (dI s2.1)))], [(0, .cells 48 (cE a0)), (1, .mp (gmE o2.1) o2.2), (2, .cells 116 [.mp 1]), (3, .cells 23 [dN]), (4, .cells 48 (cE a0)), (6, .cells 40 [dA 5 s2.2])], [(5, some ⟨42, 5, (Enc.encL s2.2).length, []⟩)], 7, 54, []⟩) (0, ((o8 ++ ([a0.rcr.ty])) ++ a0.rcr.rules)) o16 (stle (tR rfl (tR rfl (tR rfl (tR rfl (tR rfl tZ))))) (hR rfl (hR rfl (hR rfl (hR rfl (hR rfl (hR rfl hZ)))))) (kR rfl kZ) rfl (Nat.le_trans hv1 (lb rfl)) rfl rfl rfl (bB rfl rfl (bG rfl (bB rfl rfl (bB rfl rfl (bB rfl rfl (bB rfl rfl bZ)))))) rfl rfl) hl2 (fun s2 n2 oo2 h2 ho2 => ?_)
      unfold m53_l2 at h2
      refine XC.seq <| XC.region <| rR rfl rfl rfl (RO.binInt rfl rfl rfl) <| XL.nil <| XQ.seq <| XC.seq ?_
      refine XC.cond (b := (decide (s2.1 < (a0.funs.length : Int)))) rfl (fun c17 => ?_) (fun c17 => ?_)
      ·
       replace h2 := condT c17 h2
       refine XC.skip <| XQ.seq <| XC.seq <| XC.block <| XC.seq <| XC.region ?_
       refine bindK h2 (fun x18 hx18 h2 => ?_)
       refine rR rfl rfl rfl (RO.indexE (α := Fn) sl_46 rfl (.d _) rfl hx18) <| rR rfl rfl rfl (RO.loadPelAgg ag_89 rfl rfl rfl) <| XL.put rfl rfl (lb rfl) (OpOK.alloc z_89 rfl) <| XL.eff rfl rfl (OpOK.store ag_89 rfl rfl rfl rfl (lb rfl) rfl) <| XL.nil <| XQ.seq ?_
       refine XC.swRun [5, 7, 8] [[], [5], [5, 7], [5, 7, 8], [5, 8]] [(8, 1), (6, 4), (7, 4)] mixed (by kernel_rfl) (by kernel_rfl) (by kernel_rfl) (by kernel_rfl) rfl (by kernel_rfl) ?_
       refine RunA.rd rfl rfl rfl (OpOK.of_ro (RO.loadOwn ag_40 rfl rfl rfl)) rfl <| RunA.rd rfl rfl rfl (OpOK.of_ro (RO.fieldOwn fo_89_1 rfl)) rfl <| RunA.rd rfl rfl rfl (OpOK.of_ro (RO.loadOwnAgg ag_42 rfl rfl rfl rfl)) rfl <| RunA.rd rfl rfl rfl (OpOK.of_ro (RO.lenE (α := Tm) sl_40 rfl (.app _ _))) rfl <| RunA.rd rfl rfl rfl (OpOK.data1E (α := Tm) ((Tm.mk 0 0 ([] : List UInt8) ([] : List Lvl) ([] : List Tm))) sl_40 z_42 rfl rfl (lb rfl) rfl rfl (.cons (.d _) (.cons (.d _) (.cons (.d _) (.cons (.nil _) (.cons (.nil _) .nil))))) rfl) rfl ?_
       refine guardK h2 (fun g19 h2 => ?_)
       refine RunA.eff rfl rfl rfl (OpOK.appendH (α := Tm) (l := s2.2) (z := (Tm.mk 0 0 ([] : List UInt8) ([] : List Lvl) ([] : List Tm))) sl_40 el_42 rfl rfl rfl rfl (.d _) g19) rfl <| RunA.rd rfl rfl rfl (OpOK.of_ro (RO.indexP sl_40 rfl rfl rfl (lt_H (α := Tm) s2.2))) rfl <| RunA.eff rfl rfl rfl (OpOK.storeH (α := Tm) (l := s2.2) (y' := .agg [dI x18.ty.kind, dI x18.ty.index, dS8 x18.ty.name, dS x18.ty.levels, dS x18.ty.kids]) x18.ty ag_42 rfl rfl (.agg (.cons (.d _) (.cons (.d _) (.cons (.d _) (.cons (.d _) (.cons (.d _) .nil)))))) rfl rfl rfl) rfl <| RunA.eff rfl rfl rfl (OpOK.store ag_40 rfl rfl rfl rfl (lb rfl) rfl) rfl ?_
       refine RunA.nil ⟨[_], ⟨⟨_, _, rfl, rfl, _, _, rfl, rfl, rfl, .inl ⟨rfl, _, (OpOK.store ag_40 rfl rfl rfl rfl (lb rfl) rfl), .inl ⟨rfl, 4, _, rfl, rfl, rfl⟩⟩⟩, ⟨⟨_, _, rfl, rfl, _, _, rfl, rfl, rfl, .inl ⟨rfl, _, (OpOK.of_ro (RO.indexP sl_40 rfl rfl rfl (lt_H (α := Tm) s2.2))), .inr ⟨rfl, rfl⟩⟩⟩, ⟨⟨_, _, rfl, rfl, _, _, rfl, rfl, rfl, .inl ⟨rfl, _, (OpOK.storeH (α := Tm) (l := s2.2) (y' := .agg [dI x18.ty.kind, dI x18.ty.index, dS8 x18.ty.name, dS x18.ty.levels, dS x18.ty.kids]) x18.ty ag_42 rfl rfl (.agg (.cons (.d _) (.cons (.d _) (.cons (.d _) (.cons (.d _) (.cons (.d _) .nil)))))) rfl rfl rfl), .inl ⟨rfl, 3, _, rfl, rfl, rfl⟩⟩⟩, trivial⟩⟩⟩, _, _, rfl, ?_⟩
       refine XQ.less (st' := ⟨[(1, .v (.one (.ptr 4 0))), (3, .v (.one (.ptr 6 0))), (39, .v (.one (dS a0.funs))), (40, .v (.one (dI (a0.funs.length : Int)))), (41, .v (.one (dI s2.1)))], [(0, .cells 48 (cE a0)), (1, .mp (gmE o2.1) o2.2), (2, .cells 116 [.mp 1]), (3, .cells 23 [dN]), (4, .cells 48 (cE a0)), (6, .cells 40 [.apv 5 5 ((Enc.encL s2.2).length + 1) (Enc.encL s2.2)]), (7, .cells 89 (cE x18))], [(5, some ⟨42, 5, (Enc.encL s2.2).length + 1, (Enc.encL ([x18.ty] : List Tm)).flatten⟩)], 8, 54, []⟩) (stle (tR rfl (tR rfl (tR rfl (tR rfl (tR rfl tZ))))) (hR rfl (hR rfl (hR rfl (hR rfl (hR rfl (hR rfl (hR rfl hZ))))))) (kR rfl kZ) rfl (Nat.le_trans hv1 (lb rfl)) rfl rfl rfl (bB rfl rfl (bG rfl (bB rfl rfl (bB rfl rfl (bB rfl rfl (bB rfl rfl (bB rfl rfl bZ))))))) rfl rfl) <| XQ.settleC (α := Tm) (b := 6) (off := 0) (l := s2.2) (l2 := [x18.ty]) rfl rfl rfl (n_H _ _) <| XQ.inBlock <| XQ.seq <| XC.region <| rR rfl rfl rfl (RO.binInt rfl rfl rfl) <| rM rfl rfl rfl <| XL.nil ?_
       have e_ := Option.some.inj h2
       subst e_
       refine XQ.nextM ((w64 (s2.1 + 1)), (s2.2 ++ [x18.ty])) (stle (tR rfl (tR rfl (tR rfl (tR rfl (tR rfl tZ))))) (hR rfl (hR rfl (hR rfl (hR rfl (hR rfl (hR rfl hZ)))))) (kR rfl kZ) rfl (Nat.le_trans hv1 (lb rfl)) rfl rfl rfl (bB rfl rfl (bG rfl (bB rfl rfl (bB rfl rfl (bB rfl rfl (bB rfl rfl bZ)))))) rfl rfl) ho2
      ·
       replace h2 := condF c17 h2
       refine XC.exit <| XQ.thenE <| XQ.thenE ?_
       have e_ := Option.some.inj h2
       subst e_
       have e_ : _ = _ := ho2
       subst e_
       exact XQ.joinX s2.2 (stle (tR rfl (tR rfl tZ)) (hR rfl (hR rfl (hR rfl (hR rfl (hR rfl (hR rfl hZ)))))) (kR rfl kZ) rfl (Nat.le_trans hv1 (lb rfl)) rfl rfl rfl (bB rfl rfl (bG rfl (bB rfl rfl (bB rfl rfl (bB rfl rfl (bB rfl rfl bZ)))))) rfl rfl) h1
     ·
      intro o15 h1
      refine XQ.blockX <| XQ.seq <| XC.seq <| XC.region <| rR rfl rfl rfl (RO.makeFunc2 rfl rfl) <| rA rfl rfl rfl <| XL.nil <| XQ.seq <| XC.ret ?_
      have e_ := Option.some.inj h1
      subst e_
      exact hQ1 _ _ _ (.inr rfl) rfl (stle (tR rfl tZ) (hR rfl (hR rfl (hR rfl (hR rfl (hR rfl (hR rfl hZ)))))) (kR rfl kZ) rfl (Nat.le_trans hv1 (lb rfl)) rfl rfl rfl (bB rfl rfl (bG rfl (bB rfl rfl (bB rfl rfl (bB rfl rfl (bB rfl rfl bZ)))))) rfl rfl)
   refine XL.put rfl rfl (lb rfl) (OpOK.callW rfl rfl rfl hc7 rfl (hR rfl (hR rfl (hR rfl (hR rfl hZ)))) kZ) <| XL.nil <| XQ.seq <| XC.block <| XC.adoptC (i := 3) (off := 0) 9 1 rfl rfl <| XC.less (st' := ⟨[(3, .v (.one (.ptr 2 0))), (6, .v (.one (.ptr 3 0))), (20, .v (.one (.fn 73 [(6, 0), (4, 0)])))], [(0, .cells 48 (cE a0)), (1, .mp (gmE o2.1) o2.2), (2, .cells 116 [.mp 1]), (3, .cells 23 [dA 7 ([] : List Bs)]), (4, .cells 48 (cE a0)), (6, .cells 40 [dA 5 y6])], [(5, some ⟨42, 5, (Enc.encL y6).length, []⟩), (7, some ⟨9, 1, (Enc.encL ([] : List Bs)).length, []⟩)], 8, 33, []⟩) (stle (tR rfl (tR rfl (tR rfl tZ))) (hR rfl (hR rfl (hR rfl (hR rfl (hR rfl (hR rfl hZ)))))) (kR rfl (kR rfl kZ)) rfl (Nat.zero_le _) rfl rfl rfl (bB rfl rfl (bG rfl (bB rfl rfl (bB rfl rfl (bB rfl rfl (bB rfl rfl bZ)))))) rfl rfl) ?_
   refine bindK h0 (fun y20 h1 h0 => ?_)
   have hc21 : CallM Try.prog 73 [.one (.yld 9), .one (.ptr 6 0), .one (.ptr 4 0)] ⟨[(9, .loop .ready none [(3, .v (.one (.ptr 2 0))), (6, .v (.one (.ptr 3 0))), (20, .v (.one (.fn 73 [(6, 0), (4, 0)])))] 33 #[21] m53_c0 m53_c1 8), (8, .obj (.deferred (some []))), (0, .cells 48 (cE a0)), (1, .mp (gmE o2.1) o2.2), (2, .cells 116 [.mp 1]), (3, .cells 23 [dA 7 ([] : List Bs)]), (4, .cells 48 (cE a0)), (6, .cells 40 [dA 5 y6])], [(5, some ⟨42, 5, (Enc.encL y6).length, []⟩), (7, some ⟨9, 1, (Enc.encL ([] : List Bs)).length, []⟩)], 10⟩ (resOf []) ⟨[(0, .cells 48 (cE a0)), (1, .mp (gmE y20.1.1) y20.1.2), (2, .cells 116 [.mp 1]), (3, .cells 23 [dA 7 y20.2]), (4, .cells 48 (cE a0)), (6, .cells 40 [dA 5 y6]), (8, .obj (.deferred (some []))), (9, .loop .ready none [(3, .v (.one (.ptr 2 0))), (6, .v (.one (.ptr 3 0))), (20, .v (.one (.fn 73 [(6, 0), (4, 0)])))] 33 #[21] m53_c0 m53_c1 8)], [(5, some ⟨42, 5, (Enc.encL y6).length, []⟩), (7, some ⟨9, 1, (Enc.encL y20.2).length, []⟩)], 10⟩ := by
    refine CallM.of_bodyD ⟨[], [(0, .cells 48 (cE a0)), (1, .mp (gmE y20.1.1) y20.1.2), (2, .cells 116 [.mp 1]), (3, .cells 23 [dA 7 y20.2]), (4, .cells 48 (cE a0)), (6, .cells 40 [dA 5 y6]), (8, .obj (.deferred (some []))), (9, .loop .ready none [(3, .v (.one (.ptr 2 0))), (6, .v (.one (.ptr 3 0))), (20, .v (.one (.fn 73 [(6, 0), (4, 0)])))] 33 #[21] m53_c0 m53_c1 8)], [(5, some ⟨42, 5, (Enc.encL y6).length, []⟩), (7, some ⟨9, 1, (Enc.encL y20.2).length, []⟩)], 10, 42, []⟩ rfl rfl en_73 (lb rfl) rfl .nil (fun w0 M V0 Q hv1 hQ1 => ?_)
    simp only [entry]
    refine XC.seq <| XC.seq <| XC.region <| rR rfl rfl rfl (RO.loadOwn ag_40 rfl rfl rfl) <| rR rfl rfl rfl (RO.lenE (α := Tm) sl_40 rfl (.app _ _)) <| rM rfl rfl rfl <| XL.nil <| XQ.seq <| XC.block ?_
    refine XC.joinX 0 (fun (o22 : (GMap Bs Bool) × (List Bs)) => ⟨[(0, .v (.one (.yld 9))), (2, .v (.one (.ptr 4 0)))], [(0, .cells 48 (cE a0)), (1, .mp (gmE o22.1.1) o22.1.2), (2, .cells 116 [.mp 1]), (3, .cells 23 [dA 7 o22.2]), (4, .cells 48 (cE a0)), (6, .cells 40 [dA 5 y6]), (8, .obj (.deferred (some []))), (9, .loop .ready none [(3, .v (.one (.ptr 2 0))), (6, .v (.one (.ptr 3 0))), (20, .v (.one (.fn 73 [(6, 0), (4, 0)])))] 33 #[21] m53_c0 m53_c1 8)], [(5, some ⟨42, 5, (Enc.encL y6).length, []⟩), (7, some ⟨9, 1, (Enc.encL o22.2).length, []⟩)], 10, 42, []⟩) (fun (o22 : (GMap Bs Bool) × (List Bs)) => (Option.bind (loopN (m53_l5 a0 y6) FUEL (0, o22.1, o22.2)) (Sum.elim (fun (o23 : (GMap Bs Bool) × (List Bs)) => some (o23.1, o23.2)) (fun o => some o))) = some y20) ?_ ?_
    ·
     refine bindK h1 (fun o23 hl2 h1 => ?_)
     refine XC.loopM (m53_l4 y6) (fun s2 => ⟨[(0, .v (.one (.yld 9))), (2, .v (.one (.ptr 4 0))), (10, .v (.one (dA 5 y6))), (11, .v (.one (dI (y6.length : Int)))), (12, .v (.one (dI s2.1)))], [(0, .cells 48 (cE a0)), (1, .mp (gmE s2.2.1.1) s2.2.1.2), (2, .cells 116 [.mp 1]), (3, .cells 23 [dA 7 s2.2.2]), (4, .cells 48 (cE a0)), (6, .cells 40 [dA 5 y6]), (8, .obj (.deferred (some []))), (9, .loop .ready none [(3, .v (.one (.ptr 2 0))), (6, .v (.one (.ptr 3 0))), (20, .v (.one (.fn 73 [(6, 0), (4, 0)])))] 33 #[21] m53_c0 m53_c1 8)], [(5, some ⟨42, 5, (Enc.encL y6).length, []⟩), (7, some ⟨9, 1, (Enc.encL s2.2.2).length, []⟩)], 10, 42, []⟩) (0, o2, []) o23 (stle (tR rfl (tR rfl (tR rfl (tR rfl (tR rfl tZ))))) (hR rfl (hR rfl (hR rfl (hR rfl (hR rfl (hR rfl (hR rfl (hR rfl hZ)))))))) (kR rfl (kR rfl kZ)) rfl (Nat.le_trans hv1 (lb rfl)) rfl rfl rfl (bB rfl rfl (bG rfl (bB rfl rfl (bB rfl rfl (bB rfl rfl (bB rfl rfl (bB rfl rfl (bB rfl rfl bZ)))))))) rfl rfl) hl2 (fun s2 n2 oo2 h2 ho2 => ?_)
     unfold m53_l4 at h2
     refine XC.seq <| XC.region <| rR rfl rfl rfl (RO.binInt rfl rfl rfl) <| XL.nil <| XQ.seq <| XC.seq ?_
     refine XC.cond (b := (decide (s2.1 < (y6.length : Int)))) rfl (fun c24 => ?_) (fun c24 => ?_)
     ·
      replace h2 := condT c24 h2
      refine XC.skip <| XQ.seq <| XC.seq <| XC.block <| XC.seq <| XC.region ?_
      refine bindK h2 (fun x25 hx25 h2 => ?_)
      refine rR rfl rfl rfl (RO.indexE (α := Tm) sl_40 rfl (.app _ _) rfl hx25) <| rR rfl rfl rfl (RO.loadPelAgg ag_42 rfl rfl rfl) <| XL.put rfl rfl (lb rfl) (OpOK.alloc z_42 rfl) <| XL.eff rfl rfl (OpOK.store ag_42 rfl rfl rfl rfl (lb rfl) rfl) <| XL.nil <| XQ.seq <| XC.seq <| XC.region <| rR rfl rfl rfl (RO.loadOwnAgg ag_42 rfl rfl rfl rfl) ?_
      refine bindK h2 (fun x26 hx26 h2 => ?_)
      refine XL.put rfl rfl (lb rfl) (OpOK.callFun (m74_ok x25 x26 hx26) rfl (.cons (.agg (.cons (.d _) (.cons (.d _) (.cons (.d _) (.cons (.d _) (.cons (.d _) .nil)))))) .nil)) <| rR rfl rfl rfl (RO.lenE (α := Bs) sl_23 rfl (.d _)) <| rM rfl rfl rfl <| XL.nil <| XQ.seq <| XC.block ?_
      refine XC.joinX 2 (fun (o27 : (GMap Bs Bool) × (List Bs)) => ⟨[(0, .v (.one (.yld 9))), (2, .v (.one (.ptr 4 0))), (10, .v (.one (dA 5 y6))), (11, .v (.one (dI (y6.length : Int)))), (12, .v (.one (dI s2.1)))], [(0, .cells 48 (cE a0)), (1, .mp (gmE o27.1.1) o27.1.2), (2, .cells 116 [.mp 1]), (3, .cells 23 [dA 7 o27.2]), (4, .cells 48 (cE a0)), (6, .cells 40 [dA 5 y6]), (8, .obj (.deferred (some []))), (9, .loop .ready none [(3, .v (.one (.ptr 2 0))), (6, .v (.one (.ptr 3 0))), (20, .v (.one (.fn 73 [(6, 0), (4, 0)])))] 33 #[21] m53_c0 m53_c1 8), (10, .cells 42 (cE x25))], [(5, some ⟨42, 5, (Enc.encL y6).length, []⟩), (7, some ⟨9, 1, (Enc.encL o27.2).length, []⟩)], 11, 42, []⟩) (fun (o27 : (GMap Bs Bool) × (List Bs)) => (some (.next ((w64 (s2.1 + 1)), o27.1, o27.2))) = some oo2) ?_ ?_
      ·
       refine bindK h2 (fun o28 hl3 h2 => ?_)
       refine XC.loopM (m53_l3 x26) (fun s3 => ⟨[(0, .v (.one (.yld 9))), (2, .v (.one (.ptr 4 0))), (10, .v (.one (dA 5 y6))), (11, .v (.one (dI (y6.length : Int)))), (12, .v (.one (dI s2.1))), (17, .v (.one (dS x26))), (18, .v (.one (dI (x26.length : Int)))), (19, .v (.one (dI s3.1)))], [(0, .cells 48 (cE a0)), (1, .mp (gmE s3.2.1.1) s3.2.1.2), (2, .cells 116 [.mp 1]), (3, .cells 23 [dA 7 s3.2.2]), (4, .cells 48 (cE a0)), (6, .cells 40 [dA 5 y6]), (8, .obj (.deferred (some []))), (9, .loop .ready none [(3, .v (.one (.ptr 2 0))), (6, .v (.one (.ptr 3 0))), (20, .v (.one (.fn 73 [(6, 0), (4, 0)])))] 33 #[21] m53_c0 m53_c1 8), (10, .cells 42 (cE x25))], [(5, some ⟨42, 5, (Enc.encL y6).length, []⟩), (7, some ⟨9, 1, (Enc.encL s3.2.2).length, []⟩)], 11, 42, []⟩) (0, s2.2.1, s2.2.2) o28 (stle (tR rfl (tR rfl (tR rfl (tR rfl (tR rfl (tR rfl (tR rfl (tR rfl tZ)))))))) (hR rfl (hR rfl (hR rfl (hR rfl (hR rfl (hR rfl (hR rfl (hR rfl (hR rfl hZ))))))))) (kR rfl (kR rfl kZ)) rfl (Nat.le_trans hv1 (lb rfl)) rfl rfl rfl (bB rfl rfl (bG rfl (bB rfl rfl (bB rfl rfl (bB rfl rfl (bB rfl rfl (bB rfl rfl (bB rfl rfl (bB rfl rfl bZ))))))))) rfl rfl) hl3 (fun s3 n3 oo3 h3 ho3 => ?_)
       unfold m53_l3 at h3
       refine XC.seq <| XC.region <| rR rfl rfl rfl (RO.binInt rfl rfl rfl) <| XL.nil <| XQ.seq <| XC.seq ?_
       refine XC.cond (b := (decide (s3.1 < (x26.length : Int)))) rfl (fun c29 => ?_) (fun c29 => ?_)
       ·
        replace h3 := condT c29 h3
        refine XC.skip <| XQ.seq <| XC.seq <| XC.block <| XC.seq <| XC.region ?_
        refine bindK h3 (fun x30 hx30 h3 => ?_)
        refine rR rfl rfl rfl (RO.indexE (α := Bs) sl_23 rfl (.d _) rfl hx30) <| rR rfl rfl rfl (RO.loadPel ag_9 rfl rfl) <| rA rfl rfl rfl <| XL.nil <| XQ.seq <| XC.seq <| XC.region <| rM rfl rfl rfl <| rM rfl rfl rfl ?_
        refine bindK h3 (fun y31 h4 h3 => ?_)
        have ha32 : ExecOK Try.prog (some 9) m53_c0 ⟨[(3, .v (.one (.ptr 2 0))), (6, .v (.one (.ptr 3 0))), (20, .v (.one (.fn 73 [(6, 0), (4, 0)]))), (21, .v (.one (dS8 x30)))], [(0, .cells 48 (cE a0)), (1, .mp (gmE s3.2.1.1) s3.2.1.2), (2, .cells 116 [.mp 1]), (3, .cells 23 [dA 7 s3.2.2]), (4, .cells 48 (cE a0)), (6, .cells 40 [dA 5 y6]), (8, .obj (.deferred (some []))), (9, .loop .ready none [(3, .v (.one (.ptr 2 0))), (6, .v (.one (.ptr 3 0))), (20, .v (.one (.fn 73 [(6, 0), (4, 0)])))] 33 #[21] m53_c0 m53_c1 8), (10, .cells 42 (cE x25))], [(5, some ⟨42, 5, (Enc.encL y6).length, []⟩), (7, some ⟨9, 1, (Enc.encL s3.2.2).length, []⟩)], 11, 33, []⟩ .normal ⟨[(3, .v (.one (.ptr 2 0))), (6, .v (.one (.ptr 3 0))), (7, .v (.one (dS8 x30)))], [(0, .cells 48 (cE a0)), (1, .mp (gmE s3.2.1.1) s3.2.1.2), (2, .cells 116 [.mp 1]), (3, .cells 23 [dA 7 s3.2.2]), (4, .cells 48 (cE a0)), (6, .cells 40 [dA 5 y6]), (8, .obj (.deferred (some []))), (9, .loop .ready none [(3, .v (.one (.ptr 2 0))), (6, .v (.one (.ptr 3 0))), (20, .v (.one (.fn 73 [(6, 0), (4, 0)])))] 33 #[21] m53_c0 m53_c1 8), (10, .cells 42 (cE x25))], [(5, some ⟨42, 5, (Enc.encL y6).length, []⟩), (7, some ⟨9, 1, (Enc.encL s3.2.2).length, []⟩)], 11, 33, []⟩ := by
         refine ExecOK.walk (fun w0 M V0 ro n Q hv4 hro4 hQn4 => ?_)
         refine XC.region <| rA rfl rfl rfl <| XL.nil ?_
         exact XQ.of hQn4 (stle (tR rfl (tR rfl (tR rfl tZ))) (hR rfl (hR rfl (hR rfl (hR rfl (hR rfl (hR rfl (hR rfl (hR rfl (hR rfl hZ))))))))) (kR rfl (kR rfl kZ)) rfl (Nat.le_trans hv4 (lb rfl)) rfl rfl rfl (bB rfl rfl (bG rfl (bB rfl rfl (bB rfl rfl (bB rfl rfl (bB rfl rfl (bB rfl rfl (bB rfl rfl (bB rfl rfl bZ))))))))) rfl rfl)
        have hb33 : ExecOK Try.prog (some 9) m53_c1 ⟨[(3, .v (.one (.ptr 2 0))), (6, .v (.one (.ptr 3 0))), (7, .v (.one (dS8 x30)))], [(0, .cells 48 (cE a0)), (1, .mp (gmE s3.2.1.1) s3.2.1.2), (2, .cells 116 [.mp 1]), (3, .cells 23 [dA 7 s3.2.2]), (4, .cells 48 (cE a0)), (6, .cells 40 [dA 5 y6]), (8, .obj (.deferred (some []))), (9, .loop .busy none [(3, .v (.one (.ptr 2 0))), (6, .v (.one (.ptr 3 0))), (20, .v (.one (.fn 73 [(6, 0), (4, 0)])))] 33 #[21] m53_c0 m53_c1 8), (10, .cells 42 (cE x25))], [(5, some ⟨42, 5, (Enc.encL y6).length, []⟩), (7, some ⟨9, 1, (Enc.encL s3.2.2).length, []⟩)], 11, 33, []⟩ .normal ⟨[], [(0, .cells 48 (cE a0)), (1, .mp (gmE y31.1.1) y31.1.2), (2, .cells 116 [.mp 1]), (3, .cells 23 [dA 7 y31.2]), (4, .cells 48 (cE a0)), (6, .cells 40 [dA 5 y6]), (8, .obj (.deferred (some []))), (9, .loop .busy none [(3, .v (.one (.ptr 2 0))), (6, .v (.one (.ptr 3 0))), (20, .v (.one (.fn 73 [(6, 0), (4, 0)])))] 33 #[21] m53_c0 m53_c1 8), (10, .cells 42 (cE x25))], [(5, some ⟨42, 5, (Enc.encL y6).length, []⟩), (7, some ⟨9, 1, (Enc.encL y31.2).length, []⟩)], 11, 33, []⟩ := by
         refine ExecOK.walk (fun w0 M V0 ro n Q hv4 hro4 hQn4 => ?_)
         refine XC.block <| XC.seq <| XC.region <| rR rfl rfl rfl (RO.loadOwn ag_116 rfl rfl rfl) <| rM rfl rfl rfl <| rR rfl rfl rfl (RO.lookupGF (M := s3.2.1) (k := x30) mp_116 zok_bool rfl rfl rfl) <| rR rfl rfl rfl (RO.not rfl) <| XL.nil <| XQ.seq ?_
         refine XC.cond (b := (!(gmVal s3.2.1 x30))) rfl (fun c34 => ?_) (fun c34 => ?_)
         ·
          replace h4 := condT c34 h4
          refine XC.seq <| XC.region <| rR rfl rfl rfl (RO.loadOwn ag_116 rfl rfl rfl) <| rM rfl rfl rfl <| XL.eff rfl rfl (OpOK.mapSetG (M := s3.2.1) (k := x30) (v := true) mp_116 rfl rfl rfl rfl rfl) <| XL.nil <| XQ.seq <| XC.region <| rR rfl rfl rfl (RO.loadOwn ag_23 rfl rfl rfl) <| rM rfl rfl rfl <| XL.put rfl rfl (lb rfl) (OpOK.lit1E (α := Bs) (x30) sl_23 z_9 rfl rfl (lb rfl) (lb rfl) rfl rfl (.cons (.d _) .nil) rfl) ?_
          refine guardK h4 (fun g35 h4 => ?_)
          refine XL.put rfl rfl (lb rfl) (OpOK.appendE (α := Bs) sl_23 el_9 rfl rfl rfl rfl rfl (.app _ _) g35) <| XL.eff rfl rfl (OpOK.store ag_23 rfl rfl rfl rfl (lb rfl) rfl) <| XL.nil <| XQ.inBlock ?_
          have e_ := Option.some.inj h4
          subst e_
          exact XQ.of hQn4 (stle tZ (hR rfl (hR rfl (hR rfl (hR rfl (hR rfl (hR rfl (hR rfl (hR rfl (hR rfl hZ))))))))) (kR rfl (kR rfl kZ)) rfl (Nat.le_trans hv4 (lb rfl)) rfl rfl rfl (bB rfl rfl (bG rfl (bB rfl rfl (bB rfl rfl (bB rfl rfl (bB rfl rfl (bB rfl rfl (bB rfl rfl (bB rfl rfl bZ))))))))) rfl rfl)
         ·
          replace h4 := condF c34 h4
          refine XC.skip <| XQ.inBlock ?_
          have e_ := Option.some.inj h4
          subst e_
          exact XQ.of hQn4 (stle tZ (hR rfl (hR rfl (hR rfl (hR rfl (hR rfl (hR rfl (hR rfl (hR rfl (hR rfl hZ))))))))) (kR rfl (kR rfl kZ)) rfl (Nat.le_trans hv4 (lb rfl)) rfl rfl rfl (bB rfl rfl (bG rfl (bB rfl rfl (bB rfl rfl (bB rfl rfl (bB rfl rfl (bB rfl rfl (bB rfl rfl (bB rfl rfl bZ))))))))) rfl rfl)
        refine XL.put rfl rfl (lb rfl) (OpOK.yield (jump := none) rfl rfl rfl rfl rfl (ExecOK.from ha32 (fun E hv => (stle (tR rfl (tR rfl (tR rfl (tR rfl tZ)))) (hR rfl (hR rfl (hR rfl (hR rfl (hR rfl (hR rfl (hR rfl (hR rfl (hR rfl hZ))))))))) (kR rfl (kR rfl kZ)) rfl (Nat.le_trans hv (lb rfl)) rfl rfl rfl (bB rfl rfl (bG rfl (bB rfl rfl (bB rfl rfl (bB rfl rfl (bB rfl rfl (bB rfl rfl (bB rfl rfl (bB rfl rfl bZ))))))))) rfl rfl))) rfl (ExecOK.from hb33 (fun E hv => (stle (tR rfl (tR rfl (tR rfl tZ))) (hR rfl (hR rfl (hR rfl (hR rfl (hR rfl (hR rfl (hR rfl (hR rfl (hR rfl hZ))))))))) (kR rfl (kR rfl kZ)) rfl (Nat.le_trans hv (lb rfl)) rfl rfl rfl (bB rfl rfl (bG rfl (bB rfl rfl (bB rfl rfl (bB rfl rfl (bB rfl rfl (bB rfl rfl (bB rfl rfl (bB rfl rfl bZ))))))))) rfl rfl))) rfl rfl) ?_
        refine rR rfl rfl rfl (RO.not rfl) <| XL.nil <| XQ.seq ?_
        refine XC.cond rfl (fun h => nomatch h) (fun _ => ?_)
        refine XC.skip <| XQ.inBlock <| XQ.seq <| XC.region <| rR rfl rfl rfl (RO.binInt rfl rfl rfl) <| rM rfl rfl rfl <| XL.nil ?_
        have e_ := Option.some.inj h3
        subst e_
        refine XQ.nextM ((w64 (s3.1 + 1)), y31.1, y31.2) (stle (tR rfl (tR rfl (tR rfl (tR rfl (tR rfl (tR rfl (tR rfl (tR rfl tZ)))))))) (hR rfl (hR rfl (hR rfl (hR rfl (hR rfl (hR rfl (hR rfl (hR rfl (hR rfl hZ))))))))) (kR rfl (kR rfl kZ)) rfl (Nat.le_trans hv1 (lb rfl)) rfl rfl rfl (bB rfl rfl (bG rfl (bB rfl rfl (bB rfl rfl (bB rfl rfl (bB rfl rfl (bB rfl rfl (bB rfl rfl (bB rfl rfl bZ))))))))) rfl rfl) ho3
       ·
        replace h3 := condF c29 h3
        refine XC.exit <| XQ.thenE <| XQ.thenE ?_
        have e_ := Option.some.inj h3
        subst e_
        have e_ : _ = _ := ho3
        subst e_
        exact XQ.joinX (s3.2.1, s3.2.2) (stle (tR rfl (tR rfl (tR rfl (tR rfl (tR rfl tZ))))) (hR rfl (hR rfl (hR rfl (hR rfl (hR rfl (hR rfl (hR rfl (hR rfl (hR rfl hZ))))))))) (kR rfl (kR rfl kZ)) rfl (Nat.le_trans hv1 (lb rfl)) rfl rfl rfl (bB rfl rfl (bG rfl (bB rfl rfl (bB rfl rfl (bB rfl rfl (bB rfl rfl (bB rfl rfl (bB rfl rfl (bB rfl rfl bZ))))))))) rfl rfl) h2
      ·
       intro o27 h2
       refine XQ.blockX <| XQ.inBlock <| XQ.seq <| XC.region <| rR rfl rfl rfl (RO.binInt rfl rfl rfl) <| rM rfl rfl rfl <| XL.nil ?_
       have e_ := Option.some.inj h2
       subst e_
       refine XQ.nextM ((w64 (s2.1 + 1)), o27.1, o27.2) (stle (tR rfl (tR rfl (tR rfl (tR rfl (tR rfl tZ))))) (hR rfl (hR rfl (hR rfl (hR rfl (hR rfl (hR rfl (hR rfl (hR rfl hZ)))))))) (kR rfl (kR rfl kZ)) rfl (Nat.le_trans hv1 (lb rfl)) rfl rfl rfl (bB rfl rfl (bG rfl (bB rfl rfl (bB rfl rfl (bB rfl rfl (bB rfl rfl (bB rfl rfl (bB rfl rfl bZ)))))))) rfl rfl) ho2
     ·
      replace h2 := condF c24 h2
      refine XC.exit <| XQ.thenE <| XQ.thenE ?_
      have e_ := Option.some.inj h2
      subst e_
      have e_ : _ = _ := ho2
      subst e_
      exact XQ.joinX (s2.2.1, s2.2.2) (stle (tR rfl (tR rfl tZ)) (hR rfl (hR rfl (hR rfl (hR rfl (hR rfl (hR rfl (hR rfl (hR rfl hZ)))))))) (kR rfl (kR rfl kZ)) rfl (Nat.le_trans hv1 (lb rfl)) rfl rfl rfl (bB rfl rfl (bG rfl (bB rfl rfl (bB rfl rfl (bB rfl rfl (bB rfl rfl (bB rfl rfl (bB rfl rfl bZ)))))))) rfl rfl) h1
    ·
     intro o22 h1
     refine XQ.blockX <| XQ.seq <| XC.seq <| XC.region <| rR rfl rfl rfl (RO.fieldOwn fo_48_8 rfl) <| rR rfl rfl rfl (RO.loadOwn ag_46 rfl rfl rfl) <| rR rfl rfl rfl (RO.lenE (α := Fn) sl_46 rfl (.d _)) <| rM rfl rfl rfl <| XL.nil <| XQ.seq <| XC.block ?_
     refine XC.joinX 4 (fun (o36 : (GMap Bs Bool) × (List Bs)) => ⟨[], [(0, .cells 48 (cE a0)), (1, .mp (gmE o36.1.1) o36.1.2), (2, .cells 116 [.mp 1]), (3, .cells 23 [dA 7 o36.2]), (4, .cells 48 (cE a0)), (6, .cells 40 [dA 5 y6]), (8, .obj (.deferred (some []))), (9, .loop .ready none [(3, .v (.one (.ptr 2 0))), (6, .v (.one (.ptr 3 0))), (20, .v (.one (.fn 73 [(6, 0), (4, 0)])))] 33 #[21] m53_c0 m53_c1 8)], [(5, some ⟨42, 5, (Enc.encL y6).length, []⟩), (7, some ⟨9, 1, (Enc.encL o36.2).length, []⟩)], 10, 42, []⟩) (fun (o36 : (GMap Bs Bool) × (List Bs)) => (some (o36.1, o36.2)) = some y20) ?_ ?_
     ·
      refine bindK h1 (fun o37 hl2 h1 => ?_)
      refine XC.loopM (m53_l5 a0 y6) (fun s2 => ⟨[(0, .v (.one (.yld 9))), (30, .v (.one (dS a0.funs))), (31, .v (.one (dI (a0.funs.length : Int)))), (32, .v (.one (dI s2.1)))], [(0, .cells 48 (cE a0)), (1, .mp (gmE s2.2.1.1) s2.2.1.2), (2, .cells 116 [.mp 1]), (3, .cells 23 [dA 7 s2.2.2]), (4, .cells 48 (cE a0)), (6, .cells 40 [dA 5 y6]), (8, .obj (.deferred (some []))), (9, .loop .ready none [(3, .v (.one (.ptr 2 0))), (6, .v (.one (.ptr 3 0))), (20, .v (.one (.fn 73 [(6, 0), (4, 0)])))] 33 #[21] m53_c0 m53_c1 8)], [(5, some ⟨42, 5, (Enc.encL y6).length, []⟩), (7, some ⟨9, 1, (Enc.encL s2.2.2).length, []⟩)], 10, 42, []⟩) (0, o22.1, o22.2) o37 (stle (tR rfl (tR rfl (tR rfl (tR rfl tZ)))) (hR rfl (hR rfl (hR rfl (hR rfl (hR rfl (hR rfl (hR rfl (hR rfl hZ)))))))) (kR rfl (kR rfl kZ)) rfl (Nat.le_trans hv1 (lb rfl)) rfl rfl rfl (bB rfl rfl (bG rfl (bB rfl rfl (bB rfl rfl (bB rfl rfl (bB rfl rfl (bB rfl rfl (bB rfl rfl bZ)))))))) rfl rfl) hl2 (fun s2 n2 oo2 h2 ho2 => ?_)
      unfold m53_l5 at h2
      refine XC.seq <| XC.region <| rR rfl rfl rfl (RO.binInt rfl rfl rfl) <| XL.nil <| XQ.seq <| XC.seq ?_
      refine XC.cond (b := (decide (s2.1 < (a0.funs.length : Int)))) rfl (fun c38 => ?_) (fun c38 => ?_)
      ·
       replace h2 := condT c38 h2
       refine XC.skip <| XQ.seq <| XC.seq <| XC.block <| XC.seq <| XC.region ?_
       refine bindK h2 (fun x39 hx39 h2 => ?_)
       refine rR rfl rfl rfl (RO.indexE (α := Fn) sl_46 rfl (.d _) rfl hx39) <| rR rfl rfl rfl (RO.loadPelAgg ag_89 rfl rfl rfl) <| XL.put rfl rfl (lb rfl) (OpOK.alloc z_89 rfl) <| XL.eff rfl rfl (OpOK.store ag_89 rfl rfl rfl rfl (lb rfl) rfl) <| XL.nil <| XQ.seq <| XC.seq <| XC.region <| rR rfl rfl rfl (RO.fieldOwn fo_89_3 rfl) <| rR rfl rfl rfl (RO.loadOwnAgg ag_87 rfl rfl rfl rfl) <| rM rfl rfl rfl ?_
       refine bindK h2 (fun x40 hx40 h2 => ?_)
       refine XL.put rfl rfl (lb rfl) (OpOK.callG (hp1' := [(9, .loop .ready none [(3, .v (.one (.ptr 2 0))), (6, .v (.one (.ptr 3 0))), (20, .v (.one (.fn 73 [(6, 0), (4, 0)])))] 33 #[21] m53_c0 m53_c1 8), (8, .obj (.deferred (some []))), (2, .cells 116 [.mp 1]), (1, .mp (gmE x40.2.1.1) x40.2.1.2), (3, .cells 23 [dA 7 x40.2.2]), (6, .cells 40 [dA 5 y6]), (4, .cells 48 (cE a0))]) (tk1' := [(7, some ⟨9, 1, (Enc.encL x40.2.2).length, []⟩), (5, some ⟨42, 5, (Enc.encL y6).length, []⟩)]) (hpF := [(0, .cells 48 (cE a0)), (10, .cells 89 (cE x39))]) (tkF := []) (res2 := resOf [.one (dB x40.1)]) (nx2 := 13) [9, 8, 2, 1, 3, 7, 6, 5, 4] rfl rfl (m75f1_ok x39.tree s2.2.1 s2.2.2 y6 a0 x40 hx40) rfl rfl (qB rfl rfl (qB rfl rfl (qB rfl rfl (qG rfl (qB rfl rfl (qB rfl rfl (qB rfl rfl qZ))))))) rfl rfl (gR rfl (gR rfl (gR rfl (gG rfl (gR rfl (gR rfl (gR rfl gZ))))))) (jR rfl (jR rfl jZ)) (hR rfl (hR rfl hZ)) kZ rfl rfl rfl rfl rfl (bB rfl rfl (bB rfl rfl (bB rfl rfl (bG rfl (bB rfl rfl (bB rfl rfl (bB rfl rfl bZ))))))) rfl rfl rfl rfl) <| rR rfl rfl rfl (RO.not rfl) <| XL.nil <| XQ.seq ?_
       refine XC.cond (b := (!x40.1)) rfl (fun c41 => ?_) (fun c41 => ?_)
       ·
        replace h2 := condT c41 h2
        refine XC.ret ?_
        have e_ := Option.some.inj h2
        subst e_
        have e_ : _ = _ := ho2
        subst e_
        try dsimp only [Sum.elim_inl, Sum.elim_inr] at h1
        have e_ := Option.some.inj h1
        subst e_
        exact hQ1 _ _ _ (.inr rfl) rfl (stle tZ (hR rfl (hR rfl (hR rfl (hR rfl (hR rfl (hR rfl (hR rfl (hR rfl hZ)))))))) (kR rfl (kR rfl kZ)) rfl (Nat.le_trans hv1 (lb rfl)) rfl rfl rfl (bB rfl rfl (bG rfl (bB rfl rfl (bB rfl rfl (bB rfl rfl (bB rfl rfl (bB rfl rfl (bB rfl rfl bZ)))))))) rfl rfl)
       ·
        replace h2 := condF c41 h2
        refine XC.skip <| XQ.inBlock <| XQ.seq <| XC.region <| rR rfl rfl rfl (RO.binInt rfl rfl rfl) <| rM rfl rfl rfl <| XL.nil ?_
        have e_ := Option.some.inj h2
        subst e_
        refine XQ.nextM ((w64 (s2.1 + 1)), x40.2.1, x40.2.2) (stle (tR rfl (tR rfl (tR rfl (tR rfl tZ)))) (hR rfl (hR rfl (hR rfl (hR rfl (hR rfl (hR rfl (hR rfl (hR rfl hZ)))))))) (kR rfl (kR rfl kZ)) rfl (Nat.le_trans hv1 (lb rfl)) rfl rfl rfl (bB rfl rfl (bG rfl (bB rfl rfl (bB rfl rfl (bB rfl rfl (bB rfl rfl (bB rfl rfl (bB rfl rfl bZ)))))))) rfl rfl) ho2
      ·
       replace h2 := condF c38 h2
       refine XC.exit <| XQ.thenE <| XQ.thenE ?_
       have e_ := Option.some.inj h2
       subst e_
       have e_ : _ = _ := ho2
       subst e_
       exact XQ.joinX (s2.2.1, s2.2.2) (stle tZ (hR rfl (hR rfl (hR rfl (hR rfl (hR rfl (hR rfl (hR rfl (hR rfl hZ)))))))) (kR rfl (kR rfl kZ)) rfl (Nat.le_trans hv1 (lb rfl)) rfl rfl rfl (bB rfl rfl (bG rfl (bB rfl rfl (bB rfl rfl (bB rfl rfl (bB rfl rfl (bB rfl rfl (bB rfl rfl bZ)))))))) rfl rfl) h1
     ·
      intro o36 h1
      refine XQ.blockX ?_
      have e_ := Option.some.inj h1
      subst e_
      exact hQ1 _ _ _ (.inl rfl) rfl (stle tZ (hR rfl (hR rfl (hR rfl (hR rfl (hR rfl (hR rfl (hR rfl (hR rfl hZ)))))))) (kR rfl (kR rfl kZ)) rfl (Nat.le_trans hv1 (lb rfl)) rfl rfl rfl (bB rfl rfl (bG rfl (bB rfl rfl (bB rfl rfl (bB rfl rfl (bB rfl rfl (bB rfl rfl (bB rfl rfl bZ)))))))) rfl rfl)
   refine XC.exec (rangeFunc_out (e := .normal) rfl hc21 rfl rfl (by intro h; cases h) rfl) rfl ?_
   refine XQ.inBlock <| XQ.seq <| XC.seq <| XC.region <| rR rfl rfl rfl (RO.loadOwn ag_23 rfl rfl rfl) <| rA rfl rfl rfl <| XL.nil <| XQ.seq <| XC.ret ?_
   have e_ := Option.some.inj h0
   subst e_
   exact XQ.retF (fun _ _ h => h) rfl (RAs.tmp rfl .nil) (.cons (.one (.app _ _ _)) .nil)
end Go.Proofs.Ytijcchddnnnmdaa
namespace Go.Proofs.Ytijcchddnnnmdaa
open Go.RowKit Go.Shelf
set_option linter.unusedSimpArgs false
set_option linter.unusedVariables false
def m61_l0 (a0 : List Bs) (a1 : Bs) (s1 : Int) : Option (LO Int (Unit ⊕ Bool)) :=
  cond (decide (s1 < (a0.length : Int)))
    (Option.bind (idx a0 s1) fun (x3 : Bs) =>
  cond (x3 == a1)
    (some (.done (.inr true)))
    (some (.next (w64 (s1 + 1)))))
    (some (.done (.inl ())))
def m61 (a0 : List Bs) (a1 : Bs) : Option Bool :=
  Option.bind (loopN (m61_l0 a0 a1) FUEL 0) (Sum.elim (fun (o1 : Unit) => some false) (fun o => some o))
def m64_l0 (a0 : List Bs) (a1 : Bs) (s1 : Int) : Option (LO Int (Unit ⊕ Bool)) :=
  cond (decide (s1 < (a0.length : Int)))
    (Option.bind (idx a0 s1) fun (x3 : Bs) =>
  cond (x3 == a1)
    (some (.done (.inr true)))
    (some (.next (w64 (s1 + 1)))))
    (some (.done (.inl ())))
def m64 (a0 : List Bs) (a1 : Bs) : Option Bool :=
  Option.bind (loopN (m64_l0 a0 a1) FUEL 0) (Sum.elim (fun (o1 : Unit) => some false) (fun o => some o))
def m18_l0 (a0 : Dcl) (s1 : (List Bs) × Int) : Option (LO ((List Bs) × Int) (((List Bs)))) :=
  cond (decide (s1.2 < (a0.ctors.length : Int)))
    (Option.bind (idx a0.ctors s1.2) fun (x6 : Ctr) =>
  guardO (Nat.ble (s1.1.length + ([x6.name]).length) 1000000000)
  (some (.next ((s1.1 ++ ([x6.name])), (w64 (s1.2 + 1))))))
    (some (.done s1.1))
def m18_l1 (a0 : Dcl) (s1 : (List Bs) × Int) : Option (LO ((List Bs) × Int) (((List Bs)))) :=
  cond (decide (s1.2 < (a0.funs.length : Int)))
    (Option.bind (idx a0.funs s1.2) fun (x14 : Fn) =>
  guardO (Nat.ble (s1.1.length + ([x14.name]).length) 1000000000)
  (some (.next ((s1.1 ++ ([x14.name])), (w64 (s1.2 + 1))))))
    (some (.done s1.1))
def m18 (a0 : Dcl) : Option ((List Bs)) :=
  Option.bind (cond (a0.kind == 0)
    (some (a0.kind == 0))
    (cond (a0.kind == 1)
    (some (a0.kind == 1))
    (some (a0.kind == 2)))) (fun (v1 : Bool) => cond v1
    (some ([a0.name]))
    (cond (a0.kind == 3)
    (Option.bind (loopN (m18_l0 a0) FUEL ([a0.name], 0)) (fun (o4 : (List Bs)) => guardO (Nat.ble (a0.name.length + ([46, 114, 101, 99] : List UInt8).length) 1000000000)
  (guardO (Nat.ble (o4.length + ([(a0.name ++ ([46, 114, 101, 99] : List UInt8))]).length) 1000000000)
  (some (o4 ++ ([(a0.name ++ ([46, 114, 101, 99] : List UInt8))]))))))
    (cond (a0.kind == 4)
    (Option.bind (loopN (m18_l1 a0) FUEL (([] : List Bs), 0)) (fun (o12 : (List Bs)) => some o12))
    (some ([] : List Bs)))))
def m72f9_l0 (a1 : Tm) (rc : (List Bs) × Tm → Option ((List Bs))) (s1 : (List Bs) × Int) : Option (LO ((List Bs) × Int) (((List Bs)))) :=
  cond (decide (s1.2 < (a1.kids.length : Int)))
    (Option.bind (idx a1.kids s1.2) fun (x5 : Tm) =>
  Option.bind (rc (s1.1, x5)) fun (x6 : (List Bs)) =>
  some (.next (x6, (w64 (s1.2 + 1)))))
    (some (.done s1.1))
def m72f9s (rc : (List Bs) × Tm → Option ((List Bs))) (a0 : List Bs) (a1 : Tm) : Option ((List Bs)) :=
  Option.bind (cond (a1.kind == 3)
    (Option.bind (m61 a0 a1.name) fun (x3 : Bool) =>
  some (!x3))
    (some false)) (fun (v1 : Bool) => Option.bind (cond v1
    (guardO (Nat.ble (a0.length + ([a1.name]).length) 1000000000)
  (some (a0 ++ ([a1.name]))))
    (some a0)) (fun (v2 : (List Bs)) => Option.bind (loopN (m72f9_l0 a1 rc) FUEL (v2, 0)) (fun (o3 : (List Bs)) => some o3)))
def m72f9F (rc : (List Bs) × Tm → Option ((List Bs))) (u : (List Bs) × Tm) : Option ((List Bs)) := m72f9s rc u.1 u.2
def m72f9 (a0 : List Bs) (a1 : Tm) : Option ((List Bs)) := recO m72f9F FUEL (a0, a1)
def m62f8_l0 (a0 : Tm) (s2 : (List Bs) × Int) : Option (LO ((List Bs) × Int) (((List Bs)))) :=
  cond (decide (s2.2 < (a0.kids.length : Int)))
    (Option.bind (idx a0.kids s2.2) fun (x7 : Tm) =>
  Option.bind (m72f9 s2.1 x7) fun (x8 : (List Bs)) =>
  some (.next (x8, (w64 (s2.2 + 1)))))
    (some (.done s2.1))
def m62f8 (a0 : Tm) : Option ((List Bs)) :=
  Option.bind (Option.bind (cond (a0.kind == 3)
    (Option.bind (m61 ([] : List Bs) a0.name) fun (x5 : Bool) =>
  some (!x5))
    (some false)) (fun (v3 : Bool) => Option.bind (cond v3
    (guardO (Nat.ble ([a0.name]).length 1000000000)
  (some ([a0.name])))
    (some ([] : List Bs))) (fun (v4 : (List Bs)) => Option.bind (loopN (m62f8_l0 a0) FUEL (v4, 0)) (fun (o5 : (List Bs)) => some o5)))) (fun (y1 : (List Bs)) => some y1)
def m63f10_l0 (a0 : Tr) (rc : Tr × (List Bs) → Option ((List Bs))) (s1 : (List Bs) × Int) : Option (LO ((List Bs) × Int) (((List Bs)))) :=
  cond (decide (s1.2 < (a0.branches.length : Int)))
    (Option.bind (idx a0.branches s1.2) fun (x6 : Br) =>
  guardO (Nat.ble (s1.1.length + ([x6.ctor]).length) 1000000000)
  (Option.bind (idx a0.branches s1.2) fun (x8 : Br) =>
  cond (!x8.absurd)
    (Option.bind (idx a0.branches s1.2) fun (x10 : Br) =>
  Option.bind (rc (x10.tree, (s1.1 ++ ([x6.ctor])))) fun (x11 : (List Bs)) =>
  some (.next (x11, (w64 (s1.2 + 1)))))
    (some (.next ((s1.1 ++ ([x6.ctor])), (w64 (s1.2 + 1)))))))
    (some (.done s1.1))
def m63f10s (rc : Tr × (List Bs) → Option ((List Bs))) (a0 : Tr) (a1 : List Bs) : Option ((List Bs)) :=
  cond (a0.kind == 0)
    (Option.bind (m62f8 a0.body) fun (x2 : (List Bs)) =>
  guardO (Nat.ble (a1.length + x2.length) 1000000000)
  (some (a1 ++ x2)))
    (Option.bind (loopN (m63f10_l0 a0 rc) FUEL (a1, 0)) (fun (o4 : (List Bs)) => some o4))
def m63f10F (rc : Tr × (List Bs) → Option ((List Bs))) (u : Tr × (List Bs)) : Option ((List Bs)) := m63f10s rc u.1 u.2
def m63f10 (a0 : Tr) (a1 : List Bs) : Option ((List Bs)) := recO m63f10F FUEL (a0, a1)
def m47_l0 (a0 : Dcl) (s1 : (List Bs) × Int) : Option (LO ((List Bs) × Int) (((List Bs)))) :=
  cond (decide (s1.2 < (a0.ctors.length : Int)))
    (Option.bind (idx a0.ctors s1.2) fun (x6 : Ctr) =>
  Option.bind (m62f8 x6.ty) fun (x7 : (List Bs)) =>
  guardO (Nat.ble (s1.1.length + x7.length) 1000000000)
  (some (.next ((s1.1 ++ x7), (w64 (s1.2 + 1))))))
    (some (.done s1.1))
def m47_l1 (a0 : Dcl) (s1 : (List Bs) × Int) : Option (LO ((List Bs) × Int) (((List Bs)))) :=
  cond (decide (s1.2 < (a0.rcr.rules.length : Int)))
    (Option.bind (idx a0.rcr.rules s1.2) fun (x9 : Tm) =>
  Option.bind (m62f8 x9) fun (x10 : (List Bs)) =>
  guardO (Nat.ble (s1.1.length + x10.length) 1000000000)
  (some (.next ((s1.1 ++ x10), (w64 (s1.2 + 1))))))
    (some (.done s1.1))
def m47_l2 (a0 : Dcl) (s1 : (List Bs) × Int) : Option (LO ((List Bs) × Int) (((List Bs)))) :=
  cond (decide (s1.2 < (a0.funs.length : Int)))
    (Option.bind (idx a0.funs s1.2) fun (x10 : Fn) =>
  Option.bind (m62f8 x10.ty) fun (x11 : (List Bs)) =>
  guardO (Nat.ble (s1.1.length + x11.length) 1000000000)
  (some (.next ((s1.1 ++ x11), (w64 (s1.2 + 1))))))
    (some (.done s1.1))
def m47_l3 (a0 : Dcl) (s1 : (List Bs) × Int) : Option (LO ((List Bs) × Int) (((List Bs)))) :=
  cond (decide (s1.2 < (a0.funs.length : Int)))
    (Option.bind (idx a0.funs s1.2) fun (x11 : Fn) =>
  Option.bind (m63f10 x11.tree s1.1) fun (x12 : (List Bs)) =>
  some (.next (x12, (w64 (s1.2 + 1)))))
    (some (.done s1.1))
def m47_l4 (o9 : (List Bs)) (x10 : (List Bs)) (s1 : (List Bs) × Int) : Option (LO ((List Bs) × Int) (((List Bs)))) :=
  cond (decide (s1.2 < (o9.length : Int)))
    (Option.bind (Option.bind (idx o9 s1.2) fun (x14 : Bs) =>
  Option.bind (m64 x10 x14) fun (x15 : Bool) =>
  cond (!x15)
    (Option.bind (idx o9 s1.2) fun (x17 : Bs) =>
  Option.bind (m64 s1.1 x17) fun (x18 : Bool) =>
  some (!x18))
    (some false)) (fun (v13 : Bool) => cond v13
    (Option.bind (idx o9 s1.2) fun (x15 : Bs) =>
  guardO (Nat.ble (s1.1.length + ([x15]).length) 1000000000)
  (some (.next ((s1.1 ++ ([x15])), (w64 (s1.2 + 1))))))
    (some (.next (s1.1, (w64 (s1.2 + 1)))))))
    (some (.done s1.1))
def m47 (a0 : Dcl) : Option ((List Bs)) :=
  Option.bind (m62f8 a0.ty) fun (x1 : (List Bs)) =>
  Option.bind (m62f8 a0.value) fun (x2 : (List Bs)) =>
  guardO (Nat.ble (x1.length + x2.length) 1000000000)
  (Option.bind (loopN (m47_l0 a0) FUEL ((x1 ++ x2), 0)) (fun (o4 : (List Bs)) => Option.bind (m62f8 a0.rcr.ty) fun (x5 : (List Bs)) =>
  guardO (Nat.ble (o4.length + x5.length) 1000000000)
  (Option.bind (loopN (m47_l1 a0) FUEL ((o4 ++ x5), 0)) (fun (o7 : (List Bs)) => Option.bind (loopN (m47_l2 a0) FUEL (o7, 0)) (fun (o8 : (List Bs)) => Option.bind (loopN (m47_l3 a0) FUEL (o8, 0)) (fun (o9 : (List Bs)) => Option.bind (m18 a0) fun (x10 : (List Bs)) =>
  Option.bind (loopN (m47_l4 o9 x10) FUEL (([] : List Bs), 0)) (fun (o11 : (List Bs)) => some o11)))))))
end Go.Proofs.Ytijcchddnnnmdaa
namespace Go.Proofs.Ytijcchddnnnmdaa
open Go.RowKit
set_option linter.unusedSimpArgs false
set_option linter.unusedVariables false
set_option linter.unusedSectionVars false
theorem w64_id {n : Int} (h1 : -9223372036854775808 ≤ n) (h2 : n ≤ 9223372036854775807) : w64 n = n := IntWalk.i64_in n ⟨h1, h2⟩
theorem w64_nx {k : Nat} (h : k ≤ 1000000000) : w64 ((k : Int) + 1) = ((k + 1 : Nat) : Int) := by rw [w64_id (by omega) (by omega)]; rfl
theorem idx_at {α : Type} {l : List α} {k : Nat} {x : α} (h : l[k]? = some x) : idx l (k : Int) = some x := h
theorem idx_mid {α : Type} (a : List α) (x : α) (b : List α) : idx (a ++ x :: b) (a.length : Int) = some x := by
  show (a ++ x :: b)[a.length]? = some x
  simp
theorem lt_mid {α : Type} (a : List α) (x : α) (b : List α) : decide ((a.length : Int) < ((a ++ x :: b).length : Int)) = true := by
  rw [decide_eq_true_eq, List.length_append, List.length_cons]; omega
theorem mid_lt {α : Type} {l a b : List α} {x : α} (h : l = a ++ x :: b) : a.length < l.length := by rw [h, List.length_append, List.length_cons]; omega
theorem beqI (a b : Int) : (a == b) = decide (a = b) := by
  by_cases h : a = b
  · rw [decide_eq_true h]; exact beq_iff_eq.2 h
  · rw [decide_eq_false h, Bool.eq_false_iff]; exact fun h' => h (beq_iff_eq.1 h')
theorem lt_end {α : Type} (a : List α) : decide ((a.length : Int) < (a.length : Int)) = false := by simp
theorem guard_le {α : Type} {a b : Nat} {x : Option α} (h : a ≤ b) : guardO (Nat.ble a b) x = x := by
  rw [Nat.ble_eq_true_of_le h]; rfl
theorem guard_eq {α : Type} {a b : Nat} {x : Option α} (h : a = b) : guardO (Nat.beq a b) x = x := by
  subst h; rw [Nat.beq_refl]; rfl
theorem loop_all {α σ τ β : Type} {step : τ → Option (LO τ β)} (l : List α) (mk : Int → σ → τ) (I : List α → σ → Prop) (Q : β → Prop) (hlen : l.length ≤ 900000000)
    (hin : ∀ (a : List α) (x : α) (b : List α) (s : σ), l = a ++ x :: b → I a s →
      (∃ r, step (mk (a.length : Int) s) = some (.done r) ∧ Q r) ∨ ∃ s', step (mk (a.length : Int) s) = some (.next (mk (w64 ((a.length : Int) + 1)) s')) ∧ I (a ++ [x]) s')
    (hout : ∀ s, I l s → ∃ r, step (mk (l.length : Int) s) = some (.done r) ∧ Q r) (s0 : σ) (h0 : I [] s0) : ∃ r, loopN step FUEL (mk 0 s0) = some r ∧ Q r := by
  have key : ∀ (b a : List α) (s : σ) (n : Nat), l = a ++ b → b.length < n → I a s → ∃ r, loopN step n (mk (a.length : Int) s) = some r ∧ Q r := by
    intro b
    induction b with
    | nil =>
      intro a s n hl hn hI
      rw [List.append_nil] at hl
      subst hl
      obtain ⟨r, h1, h2⟩ := hout s hI
      cases n with
      | zero => omega
      | succ n => exact ⟨r, by simp only [loopN, h1], h2⟩
    | cons x b ih =>
      intro a s n hl hn hI
      cases n with
      | zero => omega
      | succ n =>
        rcases hin a x b s hl hI with ⟨r, h1, h2⟩ | ⟨s', h1, h2⟩
        · exact ⟨r, by simp only [loopN, h1], h2⟩
        · have hal : a.length ≤ 900000000 := by rw [hl, List.length_append] at hlen; omega
          rw [w64_nx (by omega)] at h1
          obtain ⟨r, h3, h4⟩ := ih (a ++ [x]) s' n (by rw [hl, List.append_assoc]; rfl) (by simp only [List.length_cons] at hn; omega) h2
          refine ⟨r, ?_, h4⟩
          simp only [loopN, h1]
          rw [List.length_append] at h3
          exact h3
  exact key l [] s0 FUEL rfl (by unfold FUEL; omega) h0
theorem loop_fold {α σ τ β : Type} {step : τ → Option (LO τ β)} (l : List α) (mk : Int → σ → τ) (f : σ → α → σ) (s0 : σ) (fin : β) (hlen : l.length ≤ 900000000)
    (hin : ∀ (a : List α) (x : α) (b : List α), l = a ++ x :: b → step (mk (a.length : Int) (a.foldl f s0)) = some (.next (mk (w64 ((a.length : Int) + 1)) (f (a.foldl f s0) x))))
    (hout : step (mk (l.length : Int) (l.foldl f s0)) = some (.done fin)) : loopN step FUEL (mk 0 s0) = some fin := by
  obtain ⟨r, h1, h2⟩ := loop_all (step := step) l mk (fun a s => s = a.foldl f s0) (fun r => r = fin) hlen (fun a x b s hl hs => .inr ⟨f (a.foldl f s0) x, by rw [hs]; exact hin a x b hl, by rw [List.foldl_append]; rfl⟩)
    (fun s hs => ⟨fin, by rw [hs]; exact hout, rfl⟩) s0 rfl
  rw [h1, h2]
section
variable {κ β : Type} [MK κ] [MV β]
theorem gmFind_shift (k : κ) : ∀ (l : List (κ × β × Nat)) (i : Nat), (gmFind k l i).map (·.2) = (gmFind k l 0).map (·.2)
  | [], i => rfl
  | e :: l, i => by
    simp only [gmFind]
    cases (k == e.1) with
    | true => rfl
    | false => simp only [cond_false]; rw [gmFind_shift k l (i + 1), gmFind_shift k l (0 + 1)]
theorem gmFind_idx (k : κ) : ∀ (l : List (κ × β × Nat)) (i : Nat), ∀ j v, gmFind k l i = some (j, v) → ∃ n e, j = i + n ∧ l[n]? = some e ∧ (k == e.1) = true ∧ e.2.1 = v
  | [], i, j, v, h => by cases h
  | e :: l, i, j, v, h => by
    simp only [gmFind] at h
    cases hk : (k == e.1) with
    | true => rw [hk] at h; cases h; exact ⟨0, e, rfl, rfl, hk, rfl⟩
    | false =>
      rw [hk] at h
      obtain ⟨n, e', h1, h2, h3, h4⟩ := gmFind_idx k l (i + 1) j v h
      exact ⟨n + 1, e', by omega, h2, h3, h4⟩
theorem gmGet_nil (k : κ) : gmGet (gmNil : GMap κ β) k = none := rfl
end
section
variable {β : Type} [MV β]
theorem gf_cons (k : Bs) (e : Bs × β × Nat) (l : List (Bs × β × Nat)) (i : Nat) : (gmFind k (e :: l) i).map (·.2) = if k = e.1 then some e.2.1 else (gmFind k l 0).map (·.2) := by
  simp only [gmFind]
  by_cases h : k = e.1
  · rw [if_pos h, show (k == e.1) = true from beq_iff_eq.2 h]; rfl
  · rw [if_neg h, show (k == e.1) = false from by rw [Bool.eq_false_iff]; exact fun h' => h (beq_iff_eq.1 h')]
    simp only [cond_false]; exact gmFind_shift k l (i + 1)
theorem gf_app (k : Bs) (x : Bs × β × Nat) : ∀ (l : List (Bs × β × Nat)) (i : Nat), (gmFind k (l ++ [x]) i).map (·.2) = match (gmFind k l 0).map (·.2) with
    | some v => some v
    | none => if k = x.1 then some x.2.1 else none
  | [], i => by rw [List.nil_append, gf_cons]; rfl
  | e :: l, i => by
    rw [List.cons_append, gf_cons, gf_cons]
    by_cases h : k = e.1
    · rw [if_pos h, if_pos h]
    · rw [if_neg h, if_neg h]; exact gf_app k x l 0
theorem gf_mod (k k' : Bs) (v : β) : ∀ (l : List (Bs × β × Nat)) (i j : Nat) (u : β), gmFind k l i = some (i + j, u) → (gmFind k' (l.modify j fun e => (k, v, e.2.2)) 0).map (·.2) = if k' = k then some v else (gmFind k' l 0).map (·.2)
  | [], i, j, u, h => by cases h
  | e :: l, i, j, u, h => by
    simp only [gmFind] at h
    by_cases hk : k = e.1
    · rw [show (k == e.1) = true from beq_iff_eq.2 hk] at h
      simp only [cond_true, Option.some.injEq, Prod.mk.injEq] at h
      obtain rfl : j = 0 := by omega
      rw [show (e :: l).modify 0 (fun e => (k, v, e.2.2)) = (k, v, e.2.2) :: l from rfl, gf_cons, gf_cons, ← hk]
      by_cases h2 : k' = k <;> simp [h2]
    · rw [show (k == e.1) = false from by rw [Bool.eq_false_iff]; exact fun h' => hk (beq_iff_eq.1 h')] at h
      simp only [cond_false] at h
      cases j with
      | zero =>
        obtain ⟨n, e', h1, -⟩ := gmFind_idx k l (i + 1) _ u h
        omega
      | succ j =>
        have ih := gf_mod k k' v l (i + 1) j u (by rw [h]; congr 2; omega)
        rw [show (e :: l).modify (j + 1) (fun e => (k, v, e.2.2)) = e :: l.modify j (fun e => (k, v, e.2.2)) from rfl, gf_cons, gf_cons, ih]
        by_cases h2 : k' = k
        · rw [if_pos h2, if_pos h2, if_neg (fun h3 => hk (h2 ▸ h3))]
        · rw [if_neg h2, if_neg h2]
theorem gmGet_set (M : GMap Bs β) (k k' : Bs) (v : β) : gmGet (gmSet M k v) k' = if k' = k then some v else gmGet M k' := by
  unfold gmSet
  split
  · rename_i j u h
    exact gf_mod k k' v M.1 0 j u (by rw [h, Nat.zero_add])
  · rename_i h
    show (gmFind k' (M.1 ++ [(k, v, M.2)]) 0).map (·.2) = _
    rw [gf_app]
    by_cases h2 : k' = k
    · subst h2; rw [h]; simp
    · rw [if_neg h2, if_neg h2, show gmGet M k' = (gmFind k' M.1 0).map (·.2) from rfl]
      cases (gmFind k' M.1 0).map (·.2) with
      | none => rfl
      | some v => rfl
end
def addN (own out : List Bs) (s : Bs) : List Bs := if s ∈ own ∨ s ∈ out then out else out ++ [s]
def addL (own out l : List Bs) : List Bs := l.foldl (addN own) out
theorem addN_len (own out : List Bs) (s : Bs) : (addN own out s).length ≤ out.length + 1 := by
  unfold addN; split
  · omega
  · simp
theorem addL_app (own out a b : List Bs) : addL own out (a ++ b) = addL own (addL own out a) b := by unfold addL; rw [List.foldl_append]
theorem addL_len (own : List Bs) : ∀ (l out : List Bs), (addL own out l).length ≤ out.length + l.length
  | [], out => Nat.le_refl _
  | s :: l, out => by
    have h1 := addN_len own out s
    have h2 := addL_len own l (addN own out s)
    show (addL own (addN own out s) l).length ≤ _
    simp only [List.length_cons]; omega
def Met (own out : List Bs) (M : GMap Bs Bool) : Prop := ∀ s, gmVal M s = decide (s ∈ own ∨ s ∈ out)
theorem gmVal_set {β : Type} [MV β] (M : GMap Bs β) (k k' : Bs) (v : β) : gmVal (gmSet M k v) k' = if k' = k then v else gmVal M k' := by
  unfold gmVal
  rw [gmGet_set]
  by_cases h : k' = k <;> simp [h]
theorem Met.nil : Met [] [] gmNil := fun s => by simp [gmVal, gmGet_nil, MV.z]
theorem Met.set {own out : List Bs} {M : GMap Bs Bool} (h : Met own out M) (s : Bs) (hs : ¬ (s ∈ own ∨ s ∈ out)) : Met own (out ++ [s]) (gmSet M s true) := fun x => by
  rw [gmVal_set, h x]
  by_cases e : x = s
  · subst e; simp
  · simp [e]
theorem add_step {own out : List Bs} {M : GMap Bs Bool} (h : Met own out M) (s : Bs) (hl : out.length < 1000000000) : ∃ M', (cond (!(gmVal M s)) (guardO (Nat.ble (out.length + ([s]).length) 1000000000) (some ((gmSet M s true), (out ++ ([s]))))) (some (M, out))) = some (M', addN own out s) ∧ Met own (addN own out s) M' := by
  rw [h s]
  unfold addN
  by_cases e : s ∈ own ∨ s ∈ out
  · refine ⟨M, ?_, ?_⟩
    · rw [decide_eq_true e, if_pos e]; rfl
    · rw [if_pos e]; exact h
  · refine ⟨gmSet M s true, ?_, ?_⟩
    · rw [decide_eq_false e, if_neg e, guard_le (by show out.length + 1 ≤ _; omega)]; rfl
    · rw [if_neg e]; exact h.set s e
theorem sum_mem {α : Type} (f : α → Nat) {x : α} : ∀ {l : List α}, x ∈ l → f x ≤ (l.map f).sum
  | y :: l, h => by
    rw [List.map_cons, List.sum_cons]
    rcases List.mem_cons.1 h with rfl | h
    · omega
    · have := sum_mem f h; omega
def Tm.size : Tm → Nat
  | .mk _ _ n _ ks => 1 + n.length + (ks.attach.map fun k => Tm.size k.1).sum
termination_by t => SizeOf.sizeOf t
decreasing_by
  have := List.sizeOf_lt_of_mem k.2
  simp only [Tm.mk.sizeOf_spec]; omega
theorem Tm.size_eq (t : Tm) : t.size = 1 + t.name.length + (t.kids.map Tm.size).sum := by
  cases t
  rw [Tm.size, List.attach_map_val]; rfl
def Tm.cn : Tm → List Bs
  | .mk k _ n _ ks => (if k = 3 then [n] else []) ++ (ks.attach.map fun k => Tm.cn k.1).flatten
termination_by t => SizeOf.sizeOf t
decreasing_by
  have := List.sizeOf_lt_of_mem k.2
  simp only [Tm.mk.sizeOf_spec]; omega
theorem Tm.cn_eq (t : Tm) : t.cn = (if t.kind = 3 then [t.name] else []) ++ (t.kids.map Tm.cn).flatten := by
  cases t
  rw [Tm.cn, List.attach_map_val]; rfl
theorem Tm.kid_size {t k : Tm} (h : k ∈ t.kids) : k.size < t.size := by
  have := sum_mem Tm.size h
  rw [t.size_eq]; omega
theorem Tm.ind {C : Tm → Prop} (h : ∀ t : Tm, (∀ k ∈ t.kids, C k) → C t) (t : Tm) : C t := by
  have : ∀ n (t : Tm), t.size ≤ n → C t := by
    intro n
    induction n with
    | zero => intro t ht; rw [t.size_eq] at ht; omega
    | succ n ih => exact fun t ht => h t fun k hk => ih k (by have := Tm.kid_size hk; omega)
  exact this _ t (Nat.le_refl _)
theorem flat_sum {α : Type} (f : α → List Bs) (g : α → Nat) : ∀ l : List α, (∀ x ∈ l, (f x).length ≤ g x) → (l.map f).flatten.length ≤ (l.map g).sum
  | [], _ => Nat.le_refl _
  | x :: l, h => by
    simp only [List.map_cons, List.flatten_cons, List.length_append, List.sum_cons]
    have h1 := h x List.mem_cons_self
    have h2 := flat_sum f g l fun y hy => h y (List.mem_cons_of_mem _ hy)
    omega
theorem Tm.cn_len (t : Tm) : t.cn.length ≤ t.size := by
  induction t using Tm.ind with
  | h t ih =>
    rw [t.cn_eq, t.size_eq, List.length_append]
    have := flat_sum Tm.cn Tm.size t.kids ih
    have h0 : (if t.kind = 3 then [t.name] else []).length ≤ 1 := by split <;> simp
    omega
theorem kids_len (t : Tm) : t.kids.length < t.size := by
  rw [t.size_eq]
  have : ∀ l : List Tm, l.length ≤ (l.map Tm.size).sum := by
    intro l
    induction l with
    | nil => exact Nat.le_refl _
    | cons x l ih =>
      rw [List.map_cons, List.sum_cons, List.length_cons]
      have := x.size_eq
      omega
  have := this t.kids
  omega
theorem sum_split {α : Type} (f : α → Nat) (a : List α) (x : α) (b : List α) : ((a ++ x :: b).map f).sum = (a.map f).sum + f x + (b.map f).sum := by simp; omega
theorem visit_ok (root : Tm) : ∀ (n : Nat) (t : Tm) (d : Int) (own out : List Bs) (M : GMap Bs Bool), t.size ≤ n → Met own out M → out.length + t.size ≤ 900000000 →
    ∃ M', recO m98f0F n (t, d, M, out, root) = some (true, M', addL own out t.cn) ∧ Met own (addL own out t.cn) M'
  | 0, t, d, own, out, M, h, _, _ => by rw [t.size_eq] at h; omega
  | n + 1, t, d, own, out, M, h, hM, hb => by
    show ∃ M', m98f0s (recO m98f0F n) t d M out root = _ ∧ _
    unfold m98f0s
    have hsz := t.size_eq
    have h1 : ∃ M1, (Option.bind (cond (t.kind == 3) (some (!(gmVal M t.name))) (some false)) (fun (v4 : Bool) => cond v4
        (guardO (Nat.ble (out.length + ([t.name]).length) 1000000000) (some ((gmSet M t.name true), (out ++ ([t.name])))))
        (some (M, out)))) = some (M1, addL own out (if t.kind = 3 then [t.name] else [])) ∧ Met own (addL own out (if t.kind = 3 then [t.name] else [])) M1 := by
      by_cases hk : t.kind = 3
      · rw [if_pos hk, hk]
        exact add_step hM t.name (by omega)
      · rw [if_neg hk, show (t.kind == 3) = false from beq_eq_false_iff_ne.2 hk]
        exact ⟨M, rfl, hM⟩
    obtain ⟨M1, e1, hM1⟩ := h1
    rw [e1, Option.bind_some]
    have h2 : ∃ v9 : Int, ∀ f : Int → Option (Bool × GMap Bs Bool × List Bs), (Option.bind (cond (decide (0 ≤ t.kind)) (some (decide (t.kind < 13))) (some false)) (fun (v8 : Bool) => Option.bind (cond v8
        (guardO (cond (decide (0 ≤ t.kind)) (Nat.blt t.kind.toNat 13) false)
        (Option.bind (idx ([(-1), (-1), (-1), (-1), (-1), 1, 1, 1, (-1), (-1), (-1), 2, (-1)] : List Int) t.kind) fun (x12 : Int) => some x12))
        (some (-1))) f)) = f v9 := by
      by_cases ha : 0 ≤ t.kind
      · by_cases hb : t.kind < 13
        · obtain ⟨k, hk⟩ := Int.eq_ofNat_of_zero_le ha
          have hk13 : k < 13 := by omega
          obtain ⟨y, hy⟩ : ∃ y, idx ([(-1), (-1), (-1), (-1), (-1), 1, 1, 1, (-1), (-1), (-1), 2, (-1)] : List Int) t.kind = some y := by
            rw [hk]; exact ⟨_, List.getElem?_eq_getElem (by simpa using hk13)⟩
          refine ⟨y, fun f => ?_⟩
          rw [decide_eq_true ha, decide_eq_true hb, hy]
          simp only [cond_true, Option.bind_some]
          rw [show Nat.blt t.kind.toNat 13 = true from by rw [Nat.blt_eq]; omega]
          rfl
        · refine ⟨-1, fun f => ?_⟩
          rw [decide_eq_true ha, decide_eq_false hb]; rfl
      · refine ⟨-1, fun f => ?_⟩
        rw [decide_eq_false ha]; rfl
    obtain ⟨v9, e2⟩ := h2
    dsimp only
    rw [e2]
    have hlen := kids_len t
    have hl1 : (addL own out (if t.kind = 3 then [t.name] else [])).length ≤ out.length + 1 := by
      refine Nat.le_trans (addL_len own _ out) ?_
      split <;> simp
    have := loop_all (step := m98f0_l0 t v9 d (recO m98f0F n) root) t.kids (fun i (s : GMap Bs Bool × List Bs) => (i, s.1, s.2))
      (fun a s => Met own s.2 s.1 ∧ s.2 = addL own (addL own out (if t.kind = 3 then [t.name] else [])) (a.map Tm.cn).flatten)
      (fun r => ∃ M', r = .inl (M', addL own out t.cn) ∧ Met own (addL own out t.cn) M') (by omega)
      (fun a x b s hl hs => .inr (by
        obtain ⟨Ms, os⟩ := s
        obtain ⟨hs1, hs2⟩ := hs
        dsimp only at hs1 hs2
        have hx : x ∈ t.kids := by rw [hl]; simp
        have hxs := Tm.kid_size hx
        have hol : os.length ≤ out.length + 1 + (a.map Tm.size).sum := by
          rw [hs2]
          refine Nat.le_trans (addL_len own _ _) ?_
          have := flat_sum Tm.cn Tm.size a fun y _ => y.cn_len
          omega
        have htot : (t.kids.map Tm.size).sum = (a.map Tm.size).sum + x.size + (b.map Tm.size).sum := by rw [hl, sum_split]
        have hdd : ∃ v13 : Int, ∀ f : Int → Option (LO (Int × (GMap Bs Bool) × (List Bs)) (((GMap Bs Bool) × (List Bs)) ⊕ ((Bool × (GMap Bs Bool) × (List Bs))))), Option.bind (cond ((a.length : Int) == v9) (some (w64 (d + 1))) (some d)) f = f v13 := by
          cases ((a.length : Int) == v9) with
          | true => exact ⟨_, fun f => rfl⟩
          | false => exact ⟨_, fun f => rfl⟩
        obtain ⟨v13, hv13⟩ := hdd
        obtain ⟨M2, e3, hM2⟩ := visit_ok root n x v13 own os Ms (by omega) hs1 (by omega)
        refine ⟨(M2, addL own os x.cn), ?_, hM2, ?_⟩
        · unfold m98f0_l0
          dsimp only
          rw [hl, lt_mid, idx_mid]
          simp only [cond_true, Option.bind_some]
          rw [hv13, e3]
          rfl
        · rw [hs2, ← addL_app]; simp))
      (fun s hs => ⟨.inl (s.1, s.2), by
        unfold m98f0_l0
        dsimp only
        rw [lt_end]; rfl, s.1, by rw [hs.2, ← addL_app, ← t.cn_eq], by rw [t.cn_eq, addL_app, ← hs.2]; exact hs.1⟩) (M1, addL own out (if t.kind = 3 then [t.name] else [])) ⟨hM1, rfl⟩
    obtain ⟨r, e4, M', rfl, hM'⟩ := this
    refine ⟨M', ?_, hM'⟩
    rw [e4]; rfl
def consts (t : Tm) : List Bs := addL [] [] t.cn
theorem consts_len (t : Tm) : (consts t).length ≤ t.size := by
  have h1 := addL_len [] t.cn []
  have h2 := t.cn_len
  unfold consts
  simp only [List.length_nil] at h1
  omega
theorem m74_eq (t : Tm) (h : t.size ≤ 900000000) : m74 t = some (consts t) := by
  unfold m74
  obtain ⟨M', e, -⟩ := visit_ok t FUEL t 0 [] [] gmNil (by unfold FUEL; omega) Met.nil (by simpa using h)
  unfold m98f0
  simp only [Option.bind_some]
  rw [e]; rfl
end Go.Proofs.Ytijcchddnnnmdaa
namespace Go.Proofs.Ytijcchddnnnmdaa
open Go.RowKit
set_option linter.unusedSimpArgs false
set_option linter.unusedVariables false
set_option linter.unusedSectionVars false
def Tr.size : Tr → Nat
  | .mk _ b _ brs => 1 + b.size + (brs.attach.map fun x => 1 + x.1.ctor.length + Tr.size x.1.tree).sum
termination_by t => SizeOf.sizeOf t
decreasing_by
  have h1 := List.sizeOf_lt_of_mem x.2
  have h2 := BrF.tree_lt x.1
  simp only [Tr.mk.sizeOf_spec]; omega
def Tr.cn : Tr → List Bs
  | .mk k b _ brs => if k = 0 then consts b else (brs.attach.map fun x => x.1.ctor :: (if x.1.absurd then [] else Tr.cn x.1.tree)).flatten
termination_by t => SizeOf.sizeOf t
decreasing_by
  have h1 := List.sizeOf_lt_of_mem x.2
  have h2 := BrF.tree_lt x.1
  simp only [Tr.mk.sizeOf_spec]; omega
def bsz (b : Br) : Nat := 1 + b.ctor.length + b.tree.size
def bcn (b : Br) : List Bs := b.ctor :: (if b.absurd then [] else b.tree.cn)
theorem Tr.size_eq (t : Tr) : t.size = 1 + t.body.size + (t.branches.map bsz).sum := by
  cases t with
  | mk k b v brs =>
    rw [Tr.size]
    show _ = 1 + b.size + (brs.map bsz).sum
    rw [← List.attach_map_val (l := brs) (f := bsz)]; rfl
theorem Tr.cn_eq (t : Tr) : t.cn = if t.kind = 0 then consts t.body else (t.branches.map bcn).flatten := by
  cases t with
  | mk k b v brs =>
    rw [Tr.cn]
    show _ = if k = 0 then consts b else (brs.map bcn).flatten
    rw [← List.attach_map_val (l := brs) (f := bcn)]; rfl
theorem Tr.kid_size {t : Tr} {b : Br} (h : b ∈ t.branches) : b.tree.size < t.size := by
  have := sum_mem bsz h
  have e : bsz b = 1 + b.ctor.length + b.tree.size := rfl
  rw [t.size_eq]; omega
theorem Tr.ind {C : Tr → Prop} (h : ∀ t : Tr, (∀ b ∈ t.branches, C b.tree) → C t) (t : Tr) : C t := by
  have : ∀ n (t : Tr), t.size ≤ n → C t := by
    intro n
    induction n with
    | zero => intro t ht; rw [t.size_eq] at ht; omega
    | succ n ih => exact fun t ht => h t fun k hk => ih k.tree (by have := Tr.kid_size hk; omega)
  exact this _ t (Nat.le_refl _)
theorem Tr.cn_len (t : Tr) : t.cn.length ≤ t.size := by
  induction t using Tr.ind with
  | h t ih =>
    rw [t.cn_eq, t.size_eq]
    split
    · have := consts_len t.body; omega
    · have := flat_sum bcn bsz t.branches fun b hb => by
        have := ih b hb
        unfold bcn bsz
        rw [List.length_cons]
        split
        · simp; omega
        · omega
      omega
theorem len_sum {α : Type} (g : α → Nat) (hg : ∀ x, 1 ≤ g x) : ∀ l : List α, l.length ≤ (l.map g).sum
  | [] => Nat.le_refl _
  | x :: l => by
    rw [List.map_cons, List.sum_cons, List.length_cons]
    have := hg x
    have := len_sum g hg l
    omega
theorem branches_len (t : Tr) : t.branches.length < t.size := by
  have := len_sum bsz (fun b => by unfold bsz; omega) t.branches
  rw [t.size_eq]; omega
def csz (c : Ctr) : Nat := 1 + c.name.length + c.ty.size
def fsz (f : Fn) : Nat := 1 + f.name.length + f.ty.size + f.tree.size
def Dcl.size (d : Dcl) : Nat := 1 + d.name.length + d.ty.size + d.value.size + (d.ctors.map csz).sum + d.rcr.ty.size + (d.rcr.rules.map Tm.size).sum + (d.funs.map fsz).sum
theorem ctors_len (d : Dcl) : d.ctors.length < d.size := by
  have := len_sum csz (fun b => by unfold csz; omega) d.ctors
  unfold Dcl.size; omega
theorem funs_len (d : Dcl) : d.funs.length < d.size := by
  have := len_sum fsz (fun b => by unfold fsz; omega) d.funs
  unfold Dcl.size; omega
theorem rules_len (d : Dcl) : d.rcr.rules.length < d.size := by
  have := len_sum Tm.size (fun b => by rw [b.size_eq]; omega) d.rcr.rules
  unfold Dcl.size; omega
def names (d : Dcl) : List Bs :=
  if d.kind = 0 ∨ d.kind = 1 ∨ d.kind = 2 then [d.name] else
  if d.kind = 3 then (d.name :: d.ctors.map (·.name)) ++ [d.name ++ [46, 114, 101, 99]] else
  if d.kind = 4 then d.funs.map (·.name) else []
theorem names_len (d : Dcl) : (names d).length ≤ d.size + 1 := by
  have h1 := ctors_len d
  have h2 := funs_len d
  unfold names
  split
  · simp
  · split
    · simp; omega
    · split
      · simp; omega
      · simp
theorem fold_snoc {α : Type} (f : α → Bs) : ∀ (l : List α) (s : List Bs), l.foldl (fun s x => s ++ [f x]) s = s ++ l.map f
  | [], s => by simp
  | x :: l, s => by rw [List.foldl_cons, fold_snoc f l]; simp
theorem kinds_eq (k : Int) : (cond (k == 0) (some (k == 0)) (cond (k == 1) (some (k == 1)) (some (k == 2)))) = some (decide (k = 0 ∨ k = 1 ∨ k = 2)) := by
  by_cases h0 : k = 0
  · subst h0; rfl
  · by_cases h1 : k = 1
    · subst h1; rfl
    · by_cases h2 : k = 2
      · subst h2; rfl
      · simp [beqI, h0, h1, h2]
theorem m37_eq (d : Dcl) (h : d.size ≤ 900000000) : m37 d = some (names d) := by
  have h1 := ctors_len d
  have h2 := funs_len d
  have hn : d.name.length < d.size := by unfold Dcl.size; omega
  unfold m37
  rw [kinds_eq, Option.bind_some]
  unfold names
  by_cases hk : d.kind = 0 ∨ d.kind = 1 ∨ d.kind = 2
  · rw [if_pos hk, decide_eq_true hk]; rfl
  rw [if_neg hk, decide_eq_false hk]
  by_cases h3 : d.kind = 3
  · rw [if_pos h3, h3, loop_fold (step := m37_l0 d) d.ctors (fun i (s : List Bs) => (s, i)) (fun s c => s ++ [c.name]) [d.name] ((d.name :: d.ctors.map (·.name))) (by omega)
      (fun a x b hl => by
        rw [fold_snoc]
        unfold m37_l0
        dsimp only
        have : a.length < d.ctors.length := mid_lt hl
        rw [hl, lt_mid, idx_mid]
        simp only [cond_true, Option.bind_some]
        rw [guard_le (by simp; omega)])
      (by unfold m37_l0; dsimp only; rw [lt_end, fold_snoc]; rfl)]
    simp only [cond_false, Option.bind_some, beq_self_eq_true, cond_true]
    rw [guard_le (by simp), guard_le (by simp; omega), guard_le (by simp; omega)]
  rw [if_neg h3, show (d.kind == 3) = false from beq_eq_false_iff_ne.2 h3]
  by_cases h4 : d.kind = 4
  · rw [if_pos h4, h4, loop_fold (step := m37_l1 d) d.funs (fun i (s : List Bs) => (s, i)) (fun s c => s ++ [c.name]) [] (d.funs.map (·.name)) (by omega)
      (fun a x b hl => by
        rw [fold_snoc]
        unfold m37_l1
        dsimp only
        have : a.length < d.funs.length := mid_lt hl
        rw [hl, lt_mid, idx_mid]
        simp only [cond_true, Option.bind_some]
        rw [guard_le (by simp; omega)])
      (by unfold m37_l1; dsimp only; rw [lt_end, fold_snoc]; rfl)]
    rfl
  rw [if_neg h4, show (d.kind == 4) = false from beq_eq_false_iff_ne.2 h4]; rfl
theorem m52f3_eq (l own out : List Bs) (M : GMap Bs Bool) (a3 : List Tm) (a4 : Dcl) (hM : Met own out M) (h : out.length + l.length ≤ 900000000) : ∃ M', m52f3 l M out a3 a4 = some (M', addL own out l) ∧ Met own (addL own out l) M' := by
  unfold m52f3
  obtain ⟨r, e, M', rfl, hM'⟩ := loop_all (step := m52f3_l0 l a3 a4) l (fun i (s : GMap Bs Bool × List Bs) => (i, s.1, s.2)) (fun a s => Met own s.2 s.1 ∧ s.2 = addL own out a) (fun r => ∃ M', r = (M', addL own out l) ∧ Met own (addL own out l) M') (by omega)
    (fun a x b s hl hs => .inr (by
      obtain ⟨Ms, os⟩ := s
      obtain ⟨hs1, hs2⟩ := hs
      dsimp only at hs1 hs2
      have hol := addL_len own a out
      rw [← hs2] at hol
      have : a.length < l.length := mid_lt hl
      obtain ⟨M1, e1, hM1⟩ := add_step hs1 x (by omega)
      refine ⟨(M1, addN own os x), ?_, hM1, ?_⟩
      · unfold m52f3_l0
        dsimp only
        rw [hl, lt_mid, idx_mid]
        simp only [cond_true, Option.bind_some]
        unfold m89f4
        rw [e1]; rfl
      · rw [addL_app, ← hs2]; rfl))
    (fun s hs => ⟨(s.1, s.2), by unfold m52f3_l0; dsimp only; rw [lt_end]; rfl, s.1, by rw [hs.2], by rw [← hs.2]; exact hs.1⟩) (M, out) ⟨hM, rfl⟩
  rw [e]
  exact ⟨M', rfl, hM'⟩
theorem tvisit_ok (a3 : List Tm) (a4 : Dcl) : ∀ (n : Nat) (t : Tr) (own out : List Bs) (M : GMap Bs Bool), t.size ≤ n → Met own out M → out.length + t.size ≤ 900000000 →
    ∃ M', recO m75f1F n (t, M, out, a3, a4) = some (true, M', addL own out t.cn) ∧ Met own (addL own out t.cn) M'
  | 0, t, own, out, M, h, _, _ => by rw [t.size_eq] at h; omega
  | n + 1, t, own, out, M, h, hM, hb => by
    show ∃ M', m75f1s (recO m75f1F n) t M out a3 a4 = _ ∧ _
    unfold m75f1s
    have hsz := t.size_eq
    have hlen := branches_len t
    rw [t.cn_eq]
    by_cases hk : t.kind = 0
    · rw [if_pos hk, hk]
      have := consts_len t.body
      rw [m74_eq _ (by omega)]
      obtain ⟨M', e, hM'⟩ := m52f3_eq (consts t.body) own out M a3 a4 hM (by omega)
      refine ⟨M', ?_, hM'⟩
      simp only [Option.bind_some, beq_self_eq_true, cond_true]
      unfold m31f2
      rw [e]; rfl
    · rw [if_neg hk, show (t.kind == 0) = false from beq_eq_false_iff_ne.2 hk, cond_false]
      obtain ⟨r, e, M', rfl, hM'⟩ := loop_all (step := m75f1_l0 t (recO m75f1F n) a3 a4) t.branches (fun i (s : GMap Bs Bool × List Bs) => (i, s.1, s.2)) (fun a s => Met own s.2 s.1 ∧ s.2 = addL own out (a.map bcn).flatten)
        (fun r => ∃ M', r = .inl (M', addL own out (t.branches.map bcn).flatten) ∧ Met own (addL own out (t.branches.map bcn).flatten) M') (by omega)
        (fun a x b s hl hs => .inr (by
          obtain ⟨Ms, os⟩ := s
          obtain ⟨hs1, hs2⟩ := hs
          dsimp only at hs1 hs2
          have hx : x ∈ t.branches := by rw [hl]; simp
          have hxs := Tr.kid_size hx
          have hol : os.length ≤ out.length + (a.map bsz).sum := by
            rw [hs2]
            refine Nat.le_trans (addL_len own _ _) ?_
            have := flat_sum bcn bsz a fun y _ => by
              have := y.tree.cn_len
              unfold bcn bsz
              rw [List.length_cons]
              split
              · simp; omega
              · omega
            omega
          have htot : (t.branches.map bsz).sum = (a.map bsz).sum + bsz x + (b.map bsz).sum := by rw [hl, sum_split]
          have hbx : bsz x = 1 + x.ctor.length + x.tree.size := rfl
          obtain ⟨M1, e1, hM1⟩ := add_step hs1 x.ctor (by omega)
          have hadd := addN_len own os x.ctor
          cases ha : x.absurd with
          | true =>
            refine ⟨(M1, addN own os x.ctor), ?_, hM1, ?_⟩
            · unfold m75f1_l0
              dsimp only
              rw [hl, lt_mid, idx_mid]
              simp only [cond_true, Option.bind_some]
              rw [e1, ha]; rfl
            · rw [List.map_append, List.flatten_append, addL_app, ← hs2]
              simp only [List.map_cons, List.map_nil, List.flatten_cons, List.flatten_nil, List.append_nil, bcn, ha, if_true]; rfl
          | false =>
            obtain ⟨M2, e2, hM2⟩ := tvisit_ok a3 a4 n x.tree own (addN own os x.ctor) M1 (by omega) hM1 (by omega)
            refine ⟨(M2, addL own (addN own os x.ctor) x.tree.cn), ?_, hM2, ?_⟩
            · unfold m75f1_l0
              dsimp only
              rw [hl, lt_mid, idx_mid]
              simp only [cond_true, Option.bind_some]
              rw [e1, ha]
              simp only [Option.bind_some, Bool.not_false, cond_true]
              rw [e2]; rfl
            · rw [List.map_append, List.flatten_append, addL_app, ← hs2]
              simp only [List.map_cons, List.map_nil, List.flatten_cons, List.flatten_nil, List.append_nil, bcn, ha]; rfl))
        (fun s hs => ⟨.inl (s.1, s.2), by unfold m75f1_l0; dsimp only; rw [lt_end]; rfl, s.1, by rw [hs.2], by rw [← hs.2]; exact hs.1⟩) (M, out) ⟨hM, rfl⟩
      rw [e]
      exact ⟨M', rfl, hM'⟩
def termsOf (d : Dcl) : List Tm := [d.ty, d.value] ++ d.ctors.map (·.ty) ++ [d.rcr.ty] ++ d.rcr.rules ++ d.funs.map (·.ty)
def mentioned (d : Dcl) : List Bs := ((termsOf d).map consts).flatten ++ (d.funs.map fun f => f.tree.cn).flatten
def uses (d : Dcl) : List Bs := addL (names d) [] (mentioned d)
theorem flat_le {α : Type} (f : α → List Bs) (g : α → Nat) (h : ∀ x, (f x).length ≤ g x) (l : List α) : (l.map f).flatten.length ≤ (l.map g).sum := flat_sum f g l fun x _ => h x
theorem sum_le {α : Type} (f g : α → Nat) (h : ∀ x, f x ≤ g x) : ∀ l : List α, (l.map f).sum ≤ (l.map g).sum
  | [] => Nat.le_refl _
  | x :: l => by
    simp only [List.map_cons, List.sum_cons]
    have := h x
    have := sum_le f g h l
    omega
theorem terms_sum (d : Dcl) : ((termsOf d).map Tm.size).sum + (d.funs.map fun f => f.tree.size).sum < d.size := by
  unfold termsOf Dcl.size
  simp only [List.map_append, List.map_cons, List.map_nil, List.sum_append, List.sum_cons, List.sum_nil, List.map_map]
  have h1 := sum_le (Tm.size ∘ fun c : Ctr => c.ty) csz (fun c => by show c.ty.size ≤ csz c; unfold csz; omega) d.ctors
  have h2 : (d.funs.map (Tm.size ∘ fun f : Fn => f.ty)).sum + (d.funs.map fun f => f.tree.size).sum ≤ (d.funs.map fsz).sum := by
    induction d.funs with
    | nil => exact Nat.le_refl _
    | cons f l ih =>
      simp only [List.map_cons, List.sum_cons]
      have : fsz f = 1 + f.name.length + f.ty.size + f.tree.size := rfl
      have : (Tm.size ∘ fun f : Fn => f.ty) f = f.ty.size := rfl
      omega
  omega
theorem terms_len (d : Dcl) : (termsOf d).length < d.size := by
  have := terms_sum d
  have h1 := len_sum Tm.size (fun b => by rw [b.size_eq]; omega) (termsOf d)
  omega
theorem mentioned_len (d : Dcl) : (mentioned d).length < d.size := by
  unfold mentioned
  rw [List.length_append]
  have h1 := flat_le consts Tm.size consts_len (termsOf d)
  have h2 := flat_le (fun f : Fn => f.tree.cn) (fun f => f.tree.size) (fun f => f.tree.cn_len) d.funs
  have := terms_sum d
  omega
theorem uses_len (d : Dcl) : (uses d).length < d.size := by
  have := addL_len (names d) (mentioned d) []
  have := mentioned_len d
  unfold uses
  simp only [List.length_nil] at *
  omega
theorem fold_snocT {α : Type} (f : α → Tm) : ∀ (l : List α) (s : List Tm), l.foldl (fun s x => s ++ [f x]) s = s ++ l.map f
  | [], s => by simp
  | x :: l, s => by rw [List.foldl_cons, fold_snocT f l]; simp
theorem term_mem {d : Dcl} {t : Tm} (h : t ∈ termsOf d) : t.size < d.size := by
  have := sum_mem Tm.size h
  have := terms_sum d
  omega
theorem fun_mem {d : Dcl} {f : Fn} (h : f ∈ d.funs) : f.tree.size < d.size := by
  have := sum_mem (fun f : Fn => f.tree.size) h
  have := terms_sum d
  omega
theorem terms_eq (d : Dcl) (h : d.size ≤ 900000000) : (Option.bind (loopN (m53_l1 d) FUEL (0, [d.ty, d.value])) (fun (o5 : (List Tm)) => guardO (Nat.ble (o5.length + ([d.rcr.ty]).length) 1000000000)
  (guardO (Nat.ble ((o5 ++ ([d.rcr.ty])).length + d.rcr.rules.length) 1000000000)
  (Option.bind (loopN (m53_l2 d) FUEL (0, ((o5 ++ ([d.rcr.ty])) ++ d.rcr.rules))) (fun (o8 : (List Tm)) => some o8))))) = some (termsOf d) := by
  have h1 := ctors_len d
  have h2 := funs_len d
  have h3 := rules_len d
  have hsum : d.ctors.length + d.rcr.rules.length + d.funs.length + 3 ≤ d.size := by
    have := terms_len d
    unfold termsOf at this
    simp at this
    omega
  rw [loop_fold (step := m53_l1 d) d.ctors (fun i (s : List Tm) => (i, s)) (fun s c => s ++ [c.ty]) [d.ty, d.value] ([d.ty, d.value] ++ d.ctors.map (·.ty)) (by omega)
    (fun a x b hl => by
      rw [fold_snocT]
      unfold m53_l1
      dsimp only
      have : a.length < d.ctors.length := mid_lt hl
      rw [hl, lt_mid, idx_mid]
      simp only [cond_true, Option.bind_some]
      rw [guard_le (by simp; omega)])
    (by unfold m53_l1; dsimp only; rw [lt_end, fold_snocT]; rfl)]
  simp only [Option.bind_some]
  rw [guard_le (by simp; omega), guard_le (by simp; omega)]
  rw [loop_fold (step := m53_l2 d) d.funs (fun i (s : List Tm) => (i, s)) (fun s c => s ++ [c.ty]) _ (termsOf d) (by omega)
    (fun a x b hl => by
      rw [fold_snocT]
      unfold m53_l2
      dsimp only
      have : a.length < d.funs.length := mid_lt hl
      rw [hl, lt_mid, idx_mid]
      simp only [cond_true, Option.bind_some]
      rw [guard_le (by simp; omega)])
    (by unfold m53_l2; dsimp only; rw [lt_end, fold_snocT]; rfl)]
  rfl
theorem seen_eq (l : List Bs) (h : l.length ≤ 900000000) : ∃ M, loopN (m53_l0 l) FUEL (0, gmNil) = some M ∧ Met l [] M := by
  refine loop_all (step := m53_l0 l) l (fun i (s : GMap Bs Bool) => (i, s)) (fun a s => Met a [] s) (fun M => Met l [] M) h
    (fun a x b s hl hs => .inr ⟨gmSet s x true, ?_, fun y => ?_⟩) (fun s hs => ⟨s, by unfold m53_l0; dsimp only; rw [lt_end]; rfl, hs⟩) gmNil Met.nil
  · unfold m53_l0
    dsimp only
    rw [hl, lt_mid, idx_mid]; rfl
  · rw [gmVal_set, hs y]
    by_cases e : y = x
    · subst e; simp
    · simp [e]
theorem m53_l3_eq (l own out : List Bs) (M : GMap Bs Bool) (hM : Met own out M) (h : out.length + l.length ≤ 900000000) : ∃ M', loopN (m53_l3 l) FUEL (0, M, out) = some (M', addL own out l) ∧ Met own (addL own out l) M' := by
  obtain ⟨r, e, M', rfl, hM'⟩ := loop_all (step := m53_l3 l) l (fun i (s : GMap Bs Bool × List Bs) => (i, s.1, s.2)) (fun a s => Met own s.2 s.1 ∧ s.2 = addL own out a) (fun r => ∃ M', r = (M', addL own out l) ∧ Met own (addL own out l) M') (by omega)
    (fun a x b s hl hs => .inr (by
      obtain ⟨Ms, os⟩ := s
      obtain ⟨hs1, hs2⟩ := hs
      dsimp only at hs1 hs2
      have hol := addL_len own a out
      rw [← hs2] at hol
      have : a.length < l.length := mid_lt hl
      obtain ⟨M1, e1, hM1⟩ := add_step hs1 x (by omega)
      refine ⟨(M1, addN own os x), ?_, hM1, ?_⟩
      · unfold m53_l3
        dsimp only
        rw [hl, lt_mid, idx_mid]
        simp only [cond_true, Option.bind_some]
        rw [e1]; rfl
      · rw [addL_app, ← hs2]; rfl))
    (fun s hs => ⟨(s.1, s.2), by unfold m53_l3; dsimp only; rw [lt_end]; rfl, s.1, by rw [hs.2], by rw [← hs.2]; exact hs.1⟩) (M, out) ⟨hM, rfl⟩
  exact ⟨M', e, hM'⟩
theorem m53_eq (d : Dcl) (h : d.size ≤ 400000000) : m53 d = some (uses d) := by
  have hn := names_len d
  have hts := terms_sum d
  have htl := terms_len d
  have hfl := funs_len d
  unfold m53
  rw [m37_eq d (by omega), Option.bind_some]
  obtain ⟨M0, e0, hM0⟩ := seen_eq (names d) (by omega)
  rw [e0, Option.bind_some, terms_eq d (by omega), Option.bind_some]
  obtain ⟨r, e1, M1, rfl, hM1⟩ := loop_all (step := m53_l4 (termsOf d)) (termsOf d) (fun i (s : GMap Bs Bool × List Bs) => (i, s.1, s.2)) (fun a s => Met (names d) s.2 s.1 ∧ s.2 = addL (names d) [] (a.map consts).flatten)
    (fun r => ∃ M', r = (M', addL (names d) [] ((termsOf d).map consts).flatten) ∧ Met (names d) (addL (names d) [] ((termsOf d).map consts).flatten) M') (by omega)
    (fun a x b s hl hs => .inr (by
      obtain ⟨Ms, os⟩ := s
      obtain ⟨hs1, hs2⟩ := hs
      dsimp only at hs1 hs2
      have hx : x ∈ termsOf d := by rw [hl]; simp
      have hxs := term_mem hx
      have htot : ((termsOf d).map Tm.size).sum = (a.map Tm.size).sum + x.size + (b.map Tm.size).sum := by rw [hl, sum_split]
      have hol : os.length ≤ (a.map Tm.size).sum := by
        rw [hs2]
        refine Nat.le_trans (addL_len _ _ _) ?_
        have := flat_le consts Tm.size consts_len a
        simp only [List.length_nil]; omega
      have hcl := consts_len x
      obtain ⟨M2, e2, hM2⟩ := m53_l3_eq (consts x) (names d) os Ms hs1 (by omega)
      refine ⟨(M2, addL (names d) os (consts x)), ?_, hM2, ?_⟩
      · unfold m53_l4
        dsimp only
        rw [hl, lt_mid, idx_mid]
        simp only [cond_true, Option.bind_some]
        rw [m74_eq x (by omega), Option.bind_some, e2]; rfl
      · rw [hs2, ← addL_app]; simp))
    (fun s hs => ⟨(s.1, s.2), by unfold m53_l4; dsimp only; rw [lt_end]; rfl, s.1, by rw [hs.2], by rw [← hs.2]; exact hs.1⟩) (M0, []) ⟨hM0, rfl⟩
  rw [e1, Option.bind_some]
  have hl1 : (addL (names d) [] ((termsOf d).map consts).flatten).length ≤ ((termsOf d).map Tm.size).sum := by
    refine Nat.le_trans (addL_len _ _ _) ?_
    have := flat_le consts Tm.size consts_len (termsOf d)
    simp only [List.length_nil]; omega
  obtain ⟨r, e3, M3, rfl, hM3⟩ := loop_all (step := m53_l5 d (termsOf d)) d.funs (fun i (s : GMap Bs Bool × List Bs) => (i, s.1, s.2)) (fun a s => Met (names d) s.2 s.1 ∧ s.2 = addL (names d) (addL (names d) [] ((termsOf d).map consts).flatten) (a.map fun f => f.tree.cn).flatten)
    (fun r => ∃ M', r = .inl (M', uses d)) (by omega)
    (fun a x b s hl hs => .inr (by
      obtain ⟨Ms, os⟩ := s
      obtain ⟨hs1, hs2⟩ := hs
      dsimp only at hs1 hs2
      have hx : x ∈ d.funs := by rw [hl]; simp
      have hxs := fun_mem hx
      have htot : (d.funs.map fun f => f.tree.size).sum = (a.map fun f => f.tree.size).sum + x.tree.size + (b.map fun f => f.tree.size).sum := by rw [hl, sum_split]
      have hol : os.length ≤ ((termsOf d).map Tm.size).sum + (a.map fun f => f.tree.size).sum := by
        rw [hs2]
        refine Nat.le_trans (addL_len _ _ _) ?_
        have := flat_le (fun f : Fn => f.tree.cn) (fun f => f.tree.size) (fun f => f.tree.cn_len) a
        omega
      obtain ⟨M2, e2, hM2⟩ := tvisit_ok (termsOf d) d FUEL x.tree (names d) os Ms (by unfold FUEL; omega) hs1 (by omega)
      refine ⟨(M2, addL (names d) os x.tree.cn), ?_, hM2, ?_⟩
      · unfold m53_l5
        dsimp only
        rw [hl, lt_mid, idx_mid]
        simp only [cond_true, Option.bind_some]
        unfold m75f1
        rw [e2]; rfl
      · rw [hs2, ← addL_app]; simp))
    (fun s hs => ⟨.inl (s.1, s.2), by unfold m53_l5; dsimp only; rw [lt_end]; rfl, s.1, by
      obtain ⟨s1, s2⟩ := s
      have := hs.2
      dsimp only at this ⊢
      unfold uses mentioned
      rw [addL_app, ← this]⟩) (M1, addL (names d) [] ((termsOf d).map consts).flatten) ⟨hM1, rfl⟩
  rw [e3]; rfl
end Go.Proofs.Ytijcchddnnnmdaa
namespace Go.Proofs.Ytijcchddnnnmdaa
open Go.RowKit Go.Shelf
set_option linter.unusedSimpArgs false
set_option linter.unusedVariables false
theorem fo_72_0 : fieldOff Try.prog 72 0 = some 0 := by kernel_rfl
theorem fo_72_1 : fieldOff Try.prog 72 1 = some 1 := by kernel_rfl
theorem ag_57 : tyAgg Try.prog 57 = some (false, 1) := by kernel_rfl
theorem ag_70 : tyAgg Try.prog 70 = some (false, 1) := by kernel_rfl
theorem ag_72 : tyAgg Try.prog 72 = some (true, 2) := by kernel_rfl
theorem sl_22 : tySlice Try.prog 22 = some (48, 23) := by kernel_rfl
theorem sl_54 : tySlice Try.prog 54 = some (3, 1) := by kernel_rfl
theorem sl_57 : tySlice Try.prog 57 = some (54, 1) := by kernel_rfl
theorem z_3 : tyZero Try.prog 3 = some [.int .i64 0] := by kernel_rfl
theorem z_48 : tyZero Try.prog 48 = some [.int .i64 0, .string ByteArray.empty, .int .i64 0, .int .i64 0, .int .i64 0, .string ByteArray.empty, .slice none 0 0, .slice none 0 0, .int .i64 0, .int .i64 0, .string ByteArray.empty, .slice none 0 0, .slice none 0 0, .int .i64 0, .slice none 0 0, .int .i64 0, .int .i64 0, .int .i64 0, .string ByteArray.empty, .slice none 0 0, .slice none 0 0, .slice none 0 0, .slice none 0 0] := by kernel_rfl
theorem z_54 : tyZero Try.prog 54 = some [.slice none 0 0] := by kernel_rfl
theorem z_72 : tyZero Try.prog 72 = some [.slice none 0 0, .map none] := by kernel_rfl
theorem bd_72 : IsStruct Try.prog 72 [(0, 1), (1, 1)] [.slice none 0 0, .map none] := ⟨by kernel_rfl, by kernel_rfl⟩
theorem el_3 : tyElem Try.prog 3 = some (1, 8) := by kernel_rfl
theorem el_54 : tyElem Try.prog 54 = some (1, 24) := by kernel_rfl
theorem mp_70 : tyMap Try.prog 70 = some (false, .one (.d (.v (.int .i64 0)))) := by kernel_rfl
theorem en_23 : Enters Try.prog 23 := enters_of Try.func23 (by kernel_rfl) rfl
theorem en_34 : Enters Try.prog 34 := enters_of Try.func34 (by kernel_rfl) rfl
def m23_l0 (x9 : (List Bs)) (s2 : Int × (GMap Bs Int)) (s3 : Int × (GMap Bs Int)) : Option (LO (Int × (GMap Bs Int)) (((GMap Bs Int)) ⊕ (((List (List Int)) × (GMap Bs Int)) ⊕ Unit ⊕ Unit))) :=
  cond (decide (s3.1 < (x9.length : Int)))
    (Option.bind (idx x9 s3.1) fun (x12 : Bs) =>
  cond (gmHas s3.2 x12)
    (some (.done (.inr (.inr (.inl ())))))
    (some (.next ((w64 (s3.1 + 1)), (gmSet s3.2 x12 s2.1)))))
    (some (.done (.inl s3.2)))
def m23_l1 (a0 : List Dcl) (s2 : Int × (GMap Bs Int)) : Option (LO (Int × (GMap Bs Int)) (((GMap Bs Int)) ⊕ (((List (List Int)) × (GMap Bs Int)) ⊕ Unit ⊕ Unit))) :=
  cond (decide (s2.1 < (a0.length : Int)))
    (Option.bind (idx a0 s2.1) fun (x8 : Dcl) =>
  Option.bind (m37 x8) fun (x9 : (List Bs)) =>
  Option.bind (loopN (m23_l0 x9 s2) FUEL (0, s2.2)) (Sum.elim (fun (o10 : (GMap Bs Int)) => some (.next ((w64 (s2.1 + 1)), o10))) (fun o => some (.done (.inr o)))))
    (some (.done (.inl s2.2)))
def m23_l2 (x10 : (List Bs)) (o6 : (GMap Bs Int)) (s3 : (List Int) × Int) : Option (LO ((List Int) × Int) (((List Int)) ⊕ (((List (List Int)) × (GMap Bs Int)) ⊕ Unit ⊕ Unit))) :=
  cond (decide (s3.2 < (x10.length : Int)))
    (Option.bind (idx x10 s3.2) fun (x13 : Bs) =>
  cond (!(gmHas o6 x13))
    (some (.done (.inr (.inr (.inr ())))))
    (guardO (Nat.ble (s3.1.length + ([(gmVal o6 x13)]).length) 1000000000)
  (some (.next ((s3.1 ++ ([(gmVal o6 x13)])), (w64 (s3.2 + 1)))))))
    (some (.done (.inl s3.1)))
def m23_l3 (a0 : List Dcl) (o6 : (GMap Bs Int)) (s2 : Int × (List (List Int))) : Option (LO (Int × (List (List Int))) (((List (List Int))) ⊕ (((List (List Int)) × (GMap Bs Int)) ⊕ Unit ⊕ Unit))) :=
  cond (decide (s2.1 < (a0.length : Int)))
    (Option.bind (idx a0 s2.1) fun (x9 : Dcl) =>
  Option.bind (m53 x9) fun (x10 : (List Bs)) =>
  Option.bind (loopN (m23_l2 x10 o6) FUEL (([] : List Int), 0)) (Sum.elim (fun (o11 : (List Int)) => Option.bind (sortF o11) fun (x12 : List Int) =>
  Option.bind (compactF x12 ((Enc.encL o11).length)) fun (x13 : List Int) =>
  guardO (Nat.ble (s2.2.length + ([x13]).length) 1000000000)
  (some (.next ((w64 (s2.1 + 1)), (s2.2 ++ ([x13])))))) (fun o => some (.done (.inr o)))))
    (some (.done (.inl s2.2)))
def m23 (a0 : List Dcl) : Option ((List (List Int)) × Int) :=
  Option.bind (Option.bind (loopN (m23_l1 a0) FUEL (0, gmNil)) (Sum.elim (fun (o6 : (GMap Bs Int)) => Option.bind (loopN (m23_l3 a0 o6) FUEL (0, ([] : List (List Int)))) (Sum.elim (fun (o7 : (List (List Int))) => some (.inl (o7, o6))) (fun o => some o))) (fun o => some o))) (Sum.elim (fun (y1 : (List (List Int)) × (GMap Bs Int)) => some (y1.1, 0)) (Sum.elim (fun (y2 : Unit) => some (([] : List (List Int)), 8)) (fun (y3 : Unit) => some (([] : List (List Int)), 9))))
set_option maxRecDepth 100000 in
set_option maxHeartbeats 2000000 in
theorem m23_ok (a0 : List Dcl) (r : (List (List Int)) × Int) (h0 : m23 a0 = some r) : Fun Try.prog 23 [.one (dS a0)] (resOf [.one (dS r.1), .one (dI r.2)]) := by
  unfold m23 at h0
  refine Fun.of_bodyM 9 14 Try.func23 rfl en_23 rfl (lb rfl) (fun S w => ?_)
  simp only [entry]
  refine XC.seq <| XC.region <| rA rfl rfl rfl <| rA rfl rfl rfl <| XL.nil <| XQ.seq <| XC.seq <| XC.region <| rM rfl rfl rfl ?_
  refine bindK h0 (fun y5 h1 h0 => ?_)
  have hc4 : CallM Try.prog 34 [.one (dS a0)] ⟨[], [], 0⟩ (resOf (((Sum.elim (fun (y1 : (List (List Int)) × (GMap Bs Int)) => ([.agg [dA 3 y1.1, .mp 1], .one (dI 0)] : List AV)) (Sum.elim (fun (y2 : Unit) => ([.agg [dN, .d (.v (.map none))], .one (dI 8)] : List AV)) (fun (y3 : Unit) => ([.agg [dN, .d (.v (.map none))], .one (dI 9)] : List AV))))) y5)) ⟨(((Sum.elim (fun (y1 : (List (List Int)) × (GMap Bs Int)) => (⟨[(2, .v (.one (.ptr 0 0))), (3, .v (.one (dI 0)))], [(0, .cells 72 [dA 3 y1.1, .mp 1]), (1, .mp (gmE y1.2.1) y1.2.2)], [(3, some ⟨54, 1, (Enc.encL y1.1).length, []⟩)], 4, 88, []⟩ : St)) (Sum.elim (fun (y2 : Unit) => (⟨[(2, .v (.one (.ptr 0 0))), (3, .v (.one (dI 8)))], [(0, .cells 72 [dN, .d (.v (.map none))])], [], 4, 88, []⟩ : St)) (fun (y3 : Unit) => (⟨[(2, .v (.one (.ptr 0 0))), (3, .v (.one (dI 9)))], [(0, .cells 72 [dN, .d (.v (.map none))])], [], 6, 88, []⟩ : St))))) y5).hp, (((Sum.elim (fun (y1 : (List (List Int)) × (GMap Bs Int)) => (⟨[(2, .v (.one (.ptr 0 0))), (3, .v (.one (dI 0)))], [(0, .cells 72 [dA 3 y1.1, .mp 1]), (1, .mp (gmE y1.2.1) y1.2.2)], [(3, some ⟨54, 1, (Enc.encL y1.1).length, []⟩)], 4, 88, []⟩ : St)) (Sum.elim (fun (y2 : Unit) => (⟨[(2, .v (.one (.ptr 0 0))), (3, .v (.one (dI 8)))], [(0, .cells 72 [dN, .d (.v (.map none))])], [], 4, 88, []⟩ : St)) (fun (y3 : Unit) => (⟨[(2, .v (.one (.ptr 0 0))), (3, .v (.one (dI 9)))], [(0, .cells 72 [dN, .d (.v (.map none))])], [], 6, 88, []⟩ : St))))) y5).tk, (((Sum.elim (fun (y1 : (List (List Int)) × (GMap Bs Int)) => (⟨[(2, .v (.one (.ptr 0 0))), (3, .v (.one (dI 0)))], [(0, .cells 72 [dA 3 y1.1, .mp 1]), (1, .mp (gmE y1.2.1) y1.2.2)], [(3, some ⟨54, 1, (Enc.encL y1.1).length, []⟩)], 4, 88, []⟩ : St)) (Sum.elim (fun (y2 : Unit) => (⟨[(2, .v (.one (.ptr 0 0))), (3, .v (.one (dI 8)))], [(0, .cells 72 [dN, .d (.v (.map none))])], [], 4, 88, []⟩ : St)) (fun (y3 : Unit) => (⟨[(2, .v (.one (.ptr 0 0))), (3, .v (.one (dI 9)))], [(0, .cells 72 [dN, .d (.v (.map none))])], [], 6, 88, []⟩ : St))))) y5).nx⟩ := by
   refine CallM.of_bodyT y5 ((Sum.elim (fun (y1 : (List (List Int)) × (GMap Bs Int)) => (⟨[(2, .v (.one (.ptr 0 0))), (3, .v (.one (dI 0)))], [(0, .cells 72 [dA 3 y1.1, .mp 1]), (1, .mp (gmE y1.2.1) y1.2.2)], [(3, some ⟨54, 1, (Enc.encL y1.1).length, []⟩)], 4, 88, []⟩ : St)) (Sum.elim (fun (y2 : Unit) => (⟨[(2, .v (.one (.ptr 0 0))), (3, .v (.one (dI 8)))], [(0, .cells 72 [dN, .d (.v (.map none))])], [], 4, 88, []⟩ : St)) (fun (y3 : Unit) => (⟨[(2, .v (.one (.ptr 0 0))), (3, .v (.one (dI 9)))], [(0, .cells 72 [dN, .d (.v (.map none))])], [], 6, 88, []⟩ : St))))) ((Sum.elim (fun (y1 : (List (List Int)) × (GMap Bs Int)) => ([.agg [dA 3 y1.1, .mp 1], .one (dI 0)] : List AV)) (Sum.elim (fun (y2 : Unit) => ([.agg [dN, .d (.v (.map none))], .one (dI 8)] : List AV)) (fun (y3 : Unit) => ([.agg [dN, .d (.v (.map none))], .one (dI 9)] : List AV))))) rfl rfl en_34 (lb rfl) (fun z_ => by cases z_ with
     | inl _ => rfl
     | inr z_ => exact (by cases z_ <;> rfl)) (fun z_ => by cases z_ with
     | inl _ => exact (RAs.agg ag_72 rfl rfl rfl rfl (RAs.tmp rfl .nil))
     | inr z_ => exact (by cases z_ with
     | inl _ => exact (RAs.agg ag_72 rfl rfl rfl rfl (RAs.tmp rfl .nil))
     | inr _ => exact (RAs.agg ag_72 rfl rfl rfl rfl (RAs.tmp rfl .nil)))) (fun w0 M V0 Q hv1 hQ1 => ?_)
   simp only [entry]
   refine XC.seq <| XC.region <| XL.put rfl rfl (lb rfl) (OpOK.alloc z_72 rfl) <| rA rfl rfl rfl <| XL.nil <| XQ.seq <| XC.seq <| XC.region <| XL.put rfl rfl (lb rfl) (OpOK.makeMapG Bs Int) <| rR rfl rfl rfl (RO.build1 bd_72 rfl rfl rfl) <| XL.put rfl rfl (lb rfl) (OpOK.alloc z_72 rfl) <| XL.eff rfl rfl (OpOK.store ag_72 rfl rfl rfl rfl (lb rfl) rfl) <| XL.nil <| XQ.seq ?_
   refine XC.seq <| XC.seq <| XC.region <| rM rfl rfl rfl <| rR rfl rfl rfl (RO.lenE (α := Dcl) sl_22 rfl (.d _)) <| rM rfl rfl rfl <| XL.nil <| XQ.seq <| XC.block ?_
   refine XC.joinX 0 (fun (o6 : (GMap Bs Int)) => ⟨[(0, .v (.one (dS a0))), (2, .v (.one (.ptr 0 0))), (4, .v (.one (.ptr 2 0)))], [(0, .cells 72 [dN, .d (.v (.map none))]), (1, .mp (gmE o6.1) o6.2), (2, .cells 72 [dN, .mp 1])], [], 3, 88, []⟩) (fun (o6 : (GMap Bs Int)) => (Option.bind (loopN (m23_l3 a0 o6) FUEL (0, ([] : List (List Int)))) (Sum.elim (fun (o7 : (List (List Int))) => some (.inl (o7, o6))) (fun o => some o))) = some y5) ?_ ?_
   ·
    refine bindK h1 (fun o7 hl2 h1 => ?_)
    refine XC.loopM (m23_l1 a0) (fun s2 => ⟨[(0, .v (.one (dS a0))), (2, .v (.one (.ptr 0 0))), (4, .v (.one (.ptr 2 0))), (20, .v (.one (dS a0))), (21, .v (.one (dI (a0.length : Int)))), (22, .v (.one (dI s2.1)))], [(0, .cells 72 [dN, .d (.v (.map none))]), (1, .mp (gmE s2.2.1) s2.2.2), (2, .cells 72 [dN, .mp 1])], [], 3, 88, []⟩) (0, gmNil) o7 (stle (tR rfl (tR rfl (tR rfl (tR rfl (tR rfl (tR rfl tZ)))))) (hR rfl (hR rfl (hR rfl hZ))) kZ rfl (Nat.le_trans hv1 (lb rfl)) rfl rfl rfl (bB rfl rfl (bG rfl (bB rfl rfl bZ))) rfl rfl) hl2 (fun s2 n2 oo2 h2 ho2 => ?_)
    unfold m23_l1 at h2
    refine XC.seq <| XC.region <| rR rfl rfl rfl (RO.binInt rfl rfl rfl) <| XL.nil <| XQ.seq <| XC.seq ?_
    refine XC.cond (b := (decide (s2.1 < (a0.length : Int)))) rfl (fun c8 => ?_) (fun c8 => ?_)
    ·
     replace h2 := condT c8 h2
     refine XC.skip <| XQ.seq <| XC.seq <| XC.block <| XC.seq <| XC.region <| rM rfl rfl rfl ?_
     refine bindK h2 (fun x9 hx9 h2 => ?_)
     refine rR rfl rfl rfl (RO.indexE (α := Dcl) sl_22 rfl (.d _) rfl hx9) <| rR rfl rfl rfl (RO.loadPelCE (x9 : Dcl) ag_48 rfl) <| XL.put rfl rfl (lb rfl) (OpOK.alloc z_48 rfl) <| rA rfl rfl rfl <| XL.eff rfl rfl (OpOK.storeCE (x9 : Dcl) ag_48 rfl rfl rfl rfl rfl) <| XL.nil <| XQ.seq <| XC.seq <| XC.region <| rR rfl rfl rfl (RO.loadCE (x9 : Dcl) ag_48 rfl rfl) ?_
     refine bindK h2 (fun x10 hx10 h2 => ?_)
     refine XL.put rfl rfl (lb rfl) (OpOK.callFun (m37_ok x9 x10 hx10) rfl (.cons (.agg (.cons (.d _) (.cons (.d _) (.cons (.d _) (.cons (.d _) (.cons (.d _) (.cons (.d _) (.cons (.d _) (.cons (.d _) (.cons (.d _) (.cons (.d _) (.cons (.d _) (.cons (.d _) (.cons (.d _) (.cons (.d _) (.cons (.d _) (.cons (.d _) (.cons (.d _) (.cons (.d _) (.cons (.d _) (.cons (.d _) (.cons (.d _) (.cons (.d _) (.cons (.d _) .nil)))))))))))))))))))))))) .nil)) <| rR rfl rfl rfl (RO.lenE (α := Bs) sl_23 rfl (.d _)) <| rM rfl rfl rfl <| XL.nil <| XQ.seq <| XC.block ?_
     refine XC.joinX 2 (fun (o11 : (GMap Bs Int)) => ⟨[(0, .v (.one (dS a0))), (2, .v (.one (.ptr 0 0))), (4, .v (.one (.ptr 2 0))), (20, .v (.one (dS a0))), (21, .v (.one (dI (a0.length : Int)))), (22, .v (.one (dI s2.1)))], [(0, .cells 72 [dN, .d (.v (.map none))]), (1, .mp (gmE o11.1) o11.2), (2, .cells 72 [dN, .mp 1]), (3, .cells 48 (cE x9))], [], 4, 88, []⟩) (fun (o11 : (GMap Bs Int)) => (some (.next ((w64 (s2.1 + 1)), o11))) = some oo2) ?_ ?_
     ·
      refine bindK h2 (fun o12 hl3 h2 => ?_)
      refine XC.loopM (m23_l0 x10 s2) (fun s3 => ⟨[(0, .v (.one (dS a0))), (2, .v (.one (.ptr 0 0))), (4, .v (.one (.ptr 2 0))), (5, .v (.one (dI s2.1))), (20, .v (.one (dS a0))), (21, .v (.one (dI (a0.length : Int)))), (22, .v (.one (dI s2.1))), (28, .v (.one (dS x10))), (29, .v (.one (dI (x10.length : Int)))), (30, .v (.one (dI s3.1)))], [(0, .cells 72 [dN, .d (.v (.map none))]), (1, .mp (gmE s3.2.1) s3.2.2), (2, .cells 72 [dN, .mp 1]), (3, .cells 48 (cE x9))], [], 4, 88, []⟩) (0, s2.2) o12 (stle (tR rfl (tR rfl (tR rfl (tR rfl (tR rfl (tR rfl (tR rfl (tR rfl (tR rfl (tR rfl tZ)))))))))) (hR rfl (hR rfl (hR rfl (hR rfl hZ)))) kZ rfl (Nat.le_trans hv1 (lb rfl)) rfl rfl rfl (bB rfl rfl (bG rfl (bB rfl rfl (bB rfl rfl bZ)))) rfl rfl) hl3 (fun s3 n3 oo3 h3 ho3 => ?_)
      unfold m23_l0 at h3
      refine XC.seq <| XC.region <| rR rfl rfl rfl (RO.binInt rfl rfl rfl) <| XL.nil <| XQ.seq <| XC.seq ?_
      refine XC.cond (b := (decide (s3.1 < (x10.length : Int)))) rfl (fun c13 => ?_) (fun c13 => ?_)
      ·
       replace h3 := condT c13 h3
       refine XC.skip <| XQ.seq <| XC.seq <| XC.block <| XC.seq <| XC.region ?_
       refine bindK h3 (fun x14 hx14 h3 => ?_)
       refine rR rfl rfl rfl (RO.indexE (α := Bs) sl_23 rfl (.d _) rfl hx14) <| rR rfl rfl rfl (RO.loadPel ag_9 rfl rfl) <| rA rfl rfl rfl <| XL.nil <| XQ.seq <| XC.seq <| XC.seq <| XC.region <| rR rfl rfl rfl (RO.fieldOwn fo_72_1 rfl) <| rR rfl rfl rfl (RO.loadOwn ag_70 rfl rfl rfl) <| rM rfl rfl rfl <| rR rfl rfl rfl (RO.lookupGT (M := s3.2) (k := x14) mp_70 zok_int rfl rfl rfl) <| rM rfl rfl rfl <| rR rfl rfl rfl (RO.extract rfl rfl) ?_
       refine rR rfl rfl rfl (RO.extract rfl rfl) <| rA rfl rfl rfl <| rA rfl rfl rfl <| XL.nil <| XQ.seq <| XC.seq <| XC.region <| rM rfl rfl rfl <| XL.nil <| XQ.seq ?_
       refine XC.cond (b := (gmHas s3.2 x14)) rfl (fun c15 => ?_) (fun c15 => ?_)
       ·
        replace h3 := condT c15 h3
        refine XC.seq <| XC.region <| rR rfl rfl rfl (RO.build0 bd_72 rfl ) <| XL.eff rfl rfl (OpOK.store ag_72 rfl rfl rfl rfl (lb rfl) rfl) <| rA rfl rfl rfl <| XL.nil <| XQ.seq <| XC.ret ?_
        have e_ := Option.some.inj h3
        subst e_
        have e_ : _ = _ := ho3
        subst e_
        try dsimp only [Sum.elim_inl, Sum.elim_inr] at h2
        have e_ := Option.some.inj h2
        subst e_
        have e_ : _ = _ := ho2
        subst e_
        try dsimp only [Sum.elim_inl, Sum.elim_inr] at h1
        have e_ := Option.some.inj h1
        subst e_
        exact hQ1 _ _ _ (.inr rfl) rfl (show StLe _ _ ⟨[(2, .v (.one (.ptr 0 0))), (3, .v (.one (dI 8)))], [(0, .cells 72 [dN, .d (.v (.map none))])], [], 4, 88, []⟩ from (stle (tR rfl (tR rfl tZ)) (hR rfl hZ) kZ rfl (Nat.le_trans hv1 (lb rfl)) rfl rfl rfl (bB rfl rfl bZ) rfl rfl))
       ·
        replace h3 := condF c15 h3
        refine XC.skip <| XQ.seq <| XC.region <| rR rfl rfl rfl (RO.fieldOwn fo_72_1 rfl) <| rR rfl rfl rfl (RO.loadOwn ag_70 rfl rfl rfl) <| rM rfl rfl rfl <| rM rfl rfl rfl <| XL.eff rfl rfl (OpOK.mapSetG (M := s3.2) (k := x14) (v := s2.1) mp_70 rfl rfl rfl rfl rfl) <| XL.nil <| XQ.inBlock <| XQ.seq <| XC.region <| rR rfl rfl rfl (RO.binInt rfl rfl rfl) <| rM rfl rfl rfl ?_
        refine XL.nil ?_
        have e_ := Option.some.inj h3
        subst e_
        refine XQ.nextM ((w64 (s3.1 + 1)), (gmSet s3.2 x14 s2.1)) (stle (tR rfl (tR rfl (tR rfl (tR rfl (tR rfl (tR rfl (tR rfl (tR rfl (tR rfl (tR rfl tZ)))))))))) (hR rfl (hR rfl (hR rfl (hR rfl hZ)))) kZ rfl (Nat.le_trans hv1 (lb rfl)) rfl rfl rfl (bB rfl rfl (bG rfl (bB rfl rfl (bB rfl rfl bZ)))) rfl rfl) ho3
      ·
       replace h3 := condF c13 h3
       refine XC.exit <| XQ.thenE <| XQ.thenE ?_
       have e_ := Option.some.inj h3
       subst e_
       have e_ : _ = _ := ho3
       subst e_
       exact XQ.joinX s3.2 (stle (tR rfl (tR rfl (tR rfl (tR rfl (tR rfl (tR rfl tZ)))))) (hR rfl (hR rfl (hR rfl (hR rfl hZ)))) kZ rfl (Nat.le_trans hv1 (lb rfl)) rfl rfl rfl (bB rfl rfl (bG rfl (bB rfl rfl (bB rfl rfl bZ)))) rfl rfl) h2
     ·
      intro o11 h2
      refine XQ.blockX <| XQ.inBlock <| XQ.seq <| XC.region <| rR rfl rfl rfl (RO.binInt rfl rfl rfl) <| rM rfl rfl rfl <| XL.nil ?_
      have e_ := Option.some.inj h2
      subst e_
      refine XQ.nextM ((w64 (s2.1 + 1)), o11) (stle (tR rfl (tR rfl (tR rfl (tR rfl (tR rfl (tR rfl tZ)))))) (hR rfl (hR rfl (hR rfl hZ))) kZ rfl (Nat.le_trans hv1 (lb rfl)) rfl rfl rfl (bB rfl rfl (bG rfl (bB rfl rfl bZ))) rfl rfl) ho2
    ·
     replace h2 := condF c8 h2
     refine XC.exit <| XQ.thenE <| XQ.thenE ?_
     have e_ := Option.some.inj h2
     subst e_
     have e_ : _ = _ := ho2
     subst e_
     exact XQ.joinX s2.2 (stle (tR rfl (tR rfl (tR rfl tZ))) (hR rfl (hR rfl (hR rfl hZ))) kZ rfl (Nat.le_trans hv1 (lb rfl)) rfl rfl rfl (bB rfl rfl (bG rfl (bB rfl rfl bZ))) rfl rfl) h1
   ·
    intro o6 h1
    refine XQ.blockX <| XQ.seq <| XC.seq <| XC.seq <| XC.region <| rM rfl rfl rfl <| rR rfl rfl rfl (RO.lenE (α := Dcl) sl_22 rfl (.d _)) <| rM rfl rfl rfl <| XL.nil <| XQ.seq <| XC.block ?_
    refine XC.joinX 4 (fun (o16 : (List (List Int))) => ⟨[(2, .v (.one (.ptr 0 0))), (4, .v (.one (.ptr 2 0)))], [(0, .cells 72 [dN, .d (.v (.map none))]), (1, .mp (gmE o6.1) o6.2), (2, .cells 72 [dA 3 o16, .mp 1])], [(3, some ⟨54, 1, (Enc.encL o16).length, []⟩)], 4, 88, []⟩) (fun (o16 : (List (List Int))) => (some (.inl (o16, o6))) = some y5) ?_ ?_
    ·
     refine XC.adoptC (i := 2) (off := 0) 54 1 rfl rfl ?_
     refine bindK h1 (fun o17 hl2 h1 => ?_)
     refine XC.loopM (m23_l3 a0 o6) (fun s2 => ⟨[(2, .v (.one (.ptr 0 0))), (4, .v (.one (.ptr 2 0))), (49, .v (.one (dS a0))), (50, .v (.one (dI (a0.length : Int)))), (51, .v (.one (dI s2.1)))], [(0, .cells 72 [dN, .d (.v (.map none))]), (1, .mp (gmE o6.1) o6.2), (2, .cells 72 [dA 3 s2.2, .mp 1])], [(3, some ⟨54, 1, (Enc.encL s2.2).length, []⟩)], 4, 88, []⟩) (0, ([] : List (List Int))) o17 (stle (tR rfl (tR rfl (tR rfl (tR rfl (tR rfl tZ))))) (hR rfl (hR rfl (hR rfl hZ))) (kR rfl kZ) rfl (Nat.le_trans hv1 (lb rfl)) rfl rfl rfl (bB rfl rfl (bG rfl (bB rfl rfl bZ))) rfl rfl) hl2 (fun s2 n2 oo2 h2 ho2 => ?_)
     unfold m23_l3 at h2
     refine XC.seq <| XC.region <| rR rfl rfl rfl (RO.binInt rfl rfl rfl) <| XL.nil <| XQ.seq <| XC.seq ?_
     refine XC.cond (b := (decide (s2.1 < (a0.length : Int)))) rfl (fun c18 => ?_) (fun c18 => ?_)
     ·
      replace h2 := condT c18 h2
      refine XC.skip <| XQ.seq <| XC.seq <| XC.block <| XC.seq <| XC.region ?_
      refine bindK h2 (fun x19 hx19 h2 => ?_)
      refine rR rfl rfl rfl (RO.indexE (α := Dcl) sl_22 rfl (.d _) rfl hx19) <| rR rfl rfl rfl (RO.loadPelCE (x19 : Dcl) ag_48 rfl) <| XL.put rfl rfl (lb rfl) (OpOK.alloc z_48 rfl) <| XL.eff rfl rfl (OpOK.storeCE (x19 : Dcl) ag_48 rfl rfl rfl rfl rfl) <| XL.nil <| XQ.seq <| XC.seq <| XC.region <| rA rfl rfl rfl <| XL.nil <| XQ.seq <| XC.seq <| XC.seq <| XC.region ?_
      refine rR rfl rfl rfl (RO.loadCE (x19 : Dcl) ag_48 rfl rfl) ?_
      refine bindK h2 (fun x20 hx20 h2 => ?_)
      refine XL.put rfl rfl (lb rfl) (OpOK.callFun (m53_ok x19 x20 hx20) rfl (.cons (.agg (.cons (.d _) (.cons (.d _) (.cons (.d _) (.cons (.d _) (.cons (.d _) (.cons (.d _) (.cons (.d _) (.cons (.d _) (.cons (.d _) (.cons (.d _) (.cons (.d _) (.cons (.d _) (.cons (.d _) (.cons (.d _) (.cons (.d _) (.cons (.d _) (.cons (.d _) (.cons (.d _) (.cons (.d _) (.cons (.d _) (.cons (.d _) (.cons (.d _) (.cons (.d _) .nil)))))))))))))))))))))))) .nil)) <| rR rfl rfl rfl (RO.lenE (α := Bs) sl_23 rfl (.d _)) <| rM rfl rfl rfl <| XL.nil <| XQ.seq <| XC.block ?_
      refine XC.joinX 6 (fun (o21 : (List Int)) => ⟨[(2, .v (.one (.ptr 0 0))), (4, .v (.one (.ptr 2 0))), (13, .v (.one (.apv 5 1 ((Enc.encL o21).length) []))), (49, .v (.one (dS a0))), (50, .v (.one (dI (a0.length : Int)))), (51, .v (.one (dI s2.1)))], [(0, .cells 72 [dN, .d (.v (.map none))]), (1, .mp (gmE o6.1) o6.2), (2, .cells 72 [dA 3 s2.2, .mp 1]), (4, .cells 48 (cE x19))], [(3, some ⟨54, 1, (Enc.encL s2.2).length, []⟩), (5, some ⟨3, 1, (Enc.encL o21).length, (Enc.encL o21).flatten⟩)], 6, 88, []⟩) (fun (o21 : (List Int)) => (Option.bind (sortF o21) fun (x22 : List Int) =>
        Option.bind (compactF x22 ((Enc.encL o21).length)) fun (x23 : List Int) =>
        guardO (Nat.ble (s2.2.length + ([x23]).length) 1000000000)
        (some (.next ((w64 (s2.1 + 1)), (s2.2 ++ ([x23])))))) = some oo2) ?_ ?_
      ·
       refine XC.adoptT (t := 13) 3 1 rfl <| XC.privT (α := Int) (t := 13) rfl rfl ?_
       refine bindK h2 (fun o22 hl3 h2 => ?_)
       refine XC.loopM (m23_l2 x20 o6) (fun s3 => ⟨[(2, .v (.one (.ptr 0 0))), (4, .v (.one (.ptr 2 0))), (13, .v (.one (.apv 5 1 ((Enc.encL s3.1).length) []))), (49, .v (.one (dS a0))), (50, .v (.one (dI (a0.length : Int)))), (51, .v (.one (dI s2.1))), (56, .v (.one (dS x20))), (57, .v (.one (dI (x20.length : Int)))), (58, .v (.one (dI s3.2)))], [(0, .cells 72 [dN, .d (.v (.map none))]), (1, .mp (gmE o6.1) o6.2), (2, .cells 72 [dA 3 s2.2, .mp 1]), (4, .cells 48 (cE x19))], [(3, some ⟨54, 1, (Enc.encL s2.2).length, []⟩), (5, some ⟨3, 1, (Enc.encL s3.1).length, (Enc.encL s3.1).flatten⟩)], 6, 88, []⟩) (([] : List Int), 0) o22 (stle (tR rfl (tR rfl (tR rfl (tR rfl (tR rfl (tR rfl (tR rfl (tR rfl (tR rfl tZ))))))))) (hR rfl (hR rfl (hR rfl (hR rfl hZ)))) (kR rfl (kR rfl kZ)) rfl (Nat.le_trans hv1 (lb rfl)) rfl rfl rfl (bB rfl rfl (bG rfl (bB rfl rfl (bB rfl rfl bZ)))) rfl rfl) hl3 (fun s3 n3 oo3 h3 ho3 => ?_)
       unfold m23_l2 at h3
       refine XC.seq <| XC.region <| rR rfl rfl rfl (RO.binInt rfl rfl rfl) <| XL.nil <| XQ.seq <| XC.seq ?_
       refine XC.cond (b := (decide (s3.2 < (x20.length : Int)))) rfl (fun c23 => ?_) (fun c23 => ?_)
       ·
        replace h3 := condT c23 h3
        refine XC.skip <| XQ.seq <| XC.seq <| XC.block <| XC.seq <| XC.region ?_
        refine bindK h3 (fun x24 hx24 h3 => ?_)
        refine rR rfl rfl rfl (RO.indexE (α := Bs) sl_23 rfl (.d _) rfl hx24) <| rR rfl rfl rfl (RO.loadPel ag_9 rfl rfl) <| rA rfl rfl rfl <| XL.nil <| XQ.seq <| XC.seq <| XC.region <| rR rfl rfl rfl (RO.fieldOwn fo_72_1 rfl) <| rR rfl rfl rfl (RO.loadOwn ag_70 rfl rfl rfl) <| rM rfl rfl rfl <| rR rfl rfl rfl (RO.lookupGT (M := o6) (k := x24) mp_70 zok_int rfl rfl rfl) <| rM rfl rfl rfl <| rR rfl rfl rfl (RO.extract rfl rfl) <| rR rfl rfl rfl (RO.extract rfl rfl) ?_
        refine rA rfl rfl rfl <| rA rfl rfl rfl <| XL.nil <| XQ.seq <| XC.seq <| XC.seq <| XC.region <| rM rfl rfl rfl <| rR rfl rfl rfl (RO.not rfl) <| XL.nil <| XQ.seq ?_
        refine XC.cond (b := (!(gmHas o6 x24))) rfl (fun c25 => ?_) (fun c25 => ?_)
        ·
         replace h3 := condT c25 h3
         refine XC.seq <| XC.region <| rR rfl rfl rfl (RO.build0 bd_72 rfl ) <| XL.eff rfl rfl (OpOK.store ag_72 rfl rfl rfl rfl (lb rfl) rfl) <| rA rfl rfl rfl <| XL.nil <| XQ.seq <| XC.ret ?_
         have e_ := Option.some.inj h3
         subst e_
         have e_ : _ = _ := ho3
         subst e_
         try dsimp only [Sum.elim_inl, Sum.elim_inr] at h2
         have e_ := Option.some.inj h2
         subst e_
         have e_ : _ = _ := ho2
         subst e_
         try dsimp only [Sum.elim_inl, Sum.elim_inr] at h1
         have e_ := Option.some.inj h1
         subst e_
         exact hQ1 _ _ _ (.inr rfl) rfl (show StLe _ _ ⟨[(2, .v (.one (.ptr 0 0))), (3, .v (.one (dI 9)))], [(0, .cells 72 [dN, .d (.v (.map none))])], [], 6, 88, []⟩ from (stle (tR rfl (tR rfl tZ)) (hR rfl hZ) kZ rfl (Nat.le_trans hv1 (lb rfl)) rfl rfl rfl (bB rfl rfl bZ) rfl rfl))
        ·
         replace h3 := condF c25 h3
         refine XC.skip <| XQ.seq <| XC.region <| rM rfl rfl rfl <| rM rfl rfl rfl <| XL.put rfl rfl (lb rfl) (OpOK.lit1E (α := Int) ((gmVal o6 x24)) sl_54 z_3 rfl rfl (lb rfl) (lb rfl) rfl rfl (.cons (.d _) .nil) rfl) ?_
         refine guardK h3 (fun g26 h3 => ?_)
         refine XL.put rfl rfl (lb rfl) (OpOK.appendPr (α := Int) (l := s3.1) (l2 := ([(gmVal o6 x24)] : List Int)) sl_54 el_3 rfl rfl rfl rfl (.app _ _) rfl g26) <| rA rfl rfl rfl <| XL.nil <| XQ.inBlock <| XQ.seq <| XC.region <| rR rfl rfl rfl (RO.binInt rfl rfl rfl) <| rM rfl rfl rfl <| XL.nil ?_
         have e_ := Option.some.inj h3
         subst e_
         refine XQ.nextM ((s3.1 ++ ([(gmVal o6 x24)])), (w64 (s3.2 + 1))) (stle (tR rfl (tR rfl (tR rfl (tR rfl (tR rfl (tR rfl (tR rfl (tR rfl (tR rfl tZ))))))))) (hR rfl (hR rfl (hR rfl (hR rfl hZ)))) (kR rfl (kR rfl kZ)) rfl (Nat.le_trans hv1 (lb rfl)) rfl rfl rfl (bB rfl rfl (bG rfl (bB rfl rfl (bB rfl rfl bZ)))) rfl rfl) ho3
       ·
        replace h3 := condF c23 h3
        refine XC.exit <| XQ.thenE <| XQ.thenE ?_
        have e_ := Option.some.inj h3
        subst e_
        have e_ : _ = _ := ho3
        subst e_
        exact XQ.joinX s3.1 (stle (tR rfl (tR rfl (tR rfl (tR rfl (tR rfl (tR rfl tZ)))))) (hR rfl (hR rfl (hR rfl (hR rfl hZ)))) (kR rfl (kR rfl kZ)) rfl (Nat.le_trans hv1 (lb rfl)) rfl rfl rfl (bB rfl rfl (bG rfl (bB rfl rfl (bB rfl rfl bZ)))) rfl rfl) h2
      ·
       intro o21 h2
       refine XQ.blockX <| XQ.seq <| XC.seq <| XC.region <| rM rfl rfl rfl ?_
       refine bindK h2 (fun x27 hx27 h2 => ?_)
       refine XL.put rfl rfl (lb rfl) (OpOK.callG (hp1' := []) (tk1' := [(5, some ⟨3, 1, (Enc.encL o21).length, (Enc.encL x27).flatten⟩)]) (hpF := [(0, .cells 72 [dN, .d (.v (.map none))]), (1, .mp (gmE o6.1) o6.2), (2, .cells 72 [dA 3 s2.2, .mp 1]), (4, .cells 48 (cE x19))]) (tkF := [(3, some ⟨54, 1, (Enc.encL s2.2).length, []⟩)]) (res2 := resOf []) (nx2 := 6) [5] rfl rfl (sortF_ok o21 x27 hx27) rfl rfl qZ rfl rfl gZ (jR rfl jZ) (hR rfl (hR rfl (hR rfl (hR rfl hZ)))) (kR rfl kZ) rfl rfl rfl rfl rfl bZ rfl rfl rfl rfl) <| XL.nil <| XQ.seq ?_
       refine XC.anyRun [3, 5, 7] [(0, 1), (1, 1)] mixed (by kernel_rfl) (by kernel_rfl) (by kernel_rfl) ?_
       refine RunA.rd rfl rfl rfl (OpOK.of_ro (RO.fieldOwn fo_72_0 rfl)) rfl <| RunA.rd rfl rfl rfl (OpOK.of_ro (RO.loadOwn ag_57 rfl rfl rfl)) rfl <| RunA.rd rfl rfl rfl (OpOK.of_ro (RO.move rfl)) rfl ?_
       refine bindK h2 (fun x28 hx28 h2 => ?_)
       refine RunA.eff rfl rfl rfl (OpOK.callG (hp1' := []) (tk1' := [(6, some ⟨3, 1, (Enc.encL x28).length, []⟩)]) (hpF := [(0, .cells 72 [dN, .d (.v (.map none))]), (1, .mp (gmE o6.1) o6.2), (2, .cells 72 [dA 3 s2.2, .mp 1]), (4, .cells 48 (cE x19))]) (tkF := [(3, some ⟨54, 1, (Enc.encL s2.2).length, []⟩)]) (res2 := resOf [.one (dA 6 x28)]) (nx2 := 7) [5] rfl rfl (compactF_ok x27 ((Enc.encL o21).length) x28 hx28) rfl rfl qZ rfl rfl gZ (jR rfl jZ) (hR rfl (hR rfl (hR rfl (hR rfl hZ)))) (kR rfl kZ) rfl rfl rfl rfl rfl bZ rfl rfl rfl rfl) rfl <| RunA.rd rfl rfl rfl (OpOK.data1E (α := List Int) (x28) sl_57 z_54 rfl rfl (lb rfl) rfl rfl (.cons (.app _ _ _) .nil) rfl) rfl ?_
       refine guardK h2 (fun g29 h2 => ?_)
       refine RunA.eff rfl rfl rfl (OpOK.appendE (α := List Int) sl_57 el_54 rfl rfl rfl rfl rfl (.d _) g29) rfl <| RunA.rd rfl rfl rfl (OpOK.of_ro (RO.fieldOwn fo_72_0 rfl)) rfl <| RunA.eff rfl rfl rfl (OpOK.store ag_57 rfl rfl rfl rfl (lb rfl) rfl) rfl ?_
       refine RunA.nil ⟨?ex, _, _, rfl, ?_⟩
       case ex => exact ⟨⟨_, rfl, _, _, rfl, rfl, rfl, .inl ⟨rfl, _, OpOK.of_ro (RO.fieldOwn fo_72_0 rfl), rfl⟩⟩, ⟨_, rfl, _, _, rfl, rfl, rfl, .inl ⟨rfl, _, OpOK.of_ro (RO.loadOwn ag_57 rfl rfl rfl), rfl⟩⟩, trivial⟩
       refine XQ.less (st' := ⟨[(2, .v (.one (.ptr 0 0))), (4, .v (.one (.ptr 2 0))), (49, .v (.one (dS a0))), (50, .v (.one (dI (a0.length : Int)))), (51, .v (.one (dI s2.1)))], [(0, .cells 72 [dN, .d (.v (.map none))]), (1, .mp (gmE o6.1) o6.2), (2, .cells 72 [dA 3 ((s2.2 ++ ([x28])) : List (List Int)), .mp 1]), (4, .cells 48 (cE x19))], [(3, some ⟨54, 1, (Enc.encL ((s2.2 ++ ([x28])) : List (List Int))).length, []⟩), (6, some ⟨3, 1, (Enc.encL x28).length, []⟩)], 7, 88, []⟩) (stle (tR rfl (tR rfl (tR rfl (tR rfl (tR rfl tZ))))) (hR rfl (hR rfl (hR rfl (hR rfl hZ)))) (kR rfl (kR rfl kZ)) rfl (Nat.le_trans hv1 (lb rfl)) rfl rfl rfl (bB rfl rfl (bG rfl (bB rfl rfl (bB rfl rfl bZ)))) rfl rfl) <| XQ.inBlock <| XQ.seq <| XC.region <| rR rfl rfl rfl (RO.binInt rfl rfl rfl) <| rM rfl rfl rfl <| XL.nil ?_
       have e_ := Option.some.inj h2
       subst e_
       refine XQ.nextM ((w64 (s2.1 + 1)), (s2.2 ++ ([x28]))) (stle (tR rfl (tR rfl (tR rfl (tR rfl (tR rfl tZ))))) (hR rfl (hR rfl (hR rfl hZ))) (kR rfl kZ) rfl (Nat.le_trans hv1 (lb rfl)) rfl rfl rfl (bB rfl rfl (bG rfl (bB rfl rfl bZ))) rfl rfl) ho2
     ·
      replace h2 := condF c18 h2
      refine XC.exit <| XQ.thenE <| XQ.thenE ?_
      have e_ := Option.some.inj h2
      subst e_
      have e_ : _ = _ := ho2
      subst e_
      exact XQ.joinX s2.2 (stle (tR rfl (tR rfl tZ)) (hR rfl (hR rfl (hR rfl hZ))) (kR rfl kZ) rfl (Nat.le_trans hv1 (lb rfl)) rfl rfl rfl (bB rfl rfl (bG rfl (bB rfl rfl bZ))) rfl rfl) h1
    ·
     intro o16 h1
     refine XQ.blockX <| XQ.seq <| XC.seq <| XC.region <| rR rfl rfl rfl (RO.loadOwnAgg ag_72 rfl rfl rfl rfl) <| XL.eff rfl rfl (OpOK.store ag_72 rfl rfl rfl rfl (lb rfl) rfl) <| rA rfl rfl rfl <| XL.nil <| XQ.seq <| XC.ret ?_
     have e_ := Option.some.inj h1
     subst e_
     exact hQ1 _ _ _ (.inr rfl) rfl (show StLe _ _ ⟨[(2, .v (.one (.ptr 0 0))), (3, .v (.one (dI 0)))], [(0, .cells 72 [dA 3 o16, .mp 1]), (1, .mp (gmE o6.1) o6.2)], [(3, some ⟨54, 1, (Enc.encL o16).length, []⟩)], 4, 88, []⟩ from (stle (tR rfl (tR rfl tZ)) (hR rfl (hR rfl hZ)) (kR rfl kZ) rfl (Nat.le_trans hv1 (lb rfl)) rfl rfl rfl (bB rfl rfl (bG rfl bZ)) rfl rfl))
  refine sumK (C := fun q_ => CallM Try.prog 34 [.one (dS a0)] ⟨[], [], 0⟩ (resOf (((Sum.elim (fun (y1 : (List (List Int)) × (GMap Bs Int)) => ([.agg [dA 3 y1.1, .mp 1], .one (dI 0)] : List AV)) (Sum.elim (fun (y2 : Unit) => ([.agg [dN, .d (.v (.map none))], .one (dI 8)] : List AV)) (fun (y3 : Unit) => ([.agg [dN, .d (.v (.map none))], .one (dI 9)] : List AV))))) q_)) ⟨(((Sum.elim (fun (y1 : (List (List Int)) × (GMap Bs Int)) => (⟨[(2, .v (.one (.ptr 0 0))), (3, .v (.one (dI 0)))], [(0, .cells 72 [dA 3 y1.1, .mp 1]), (1, .mp (gmE y1.2.1) y1.2.2)], [(3, some ⟨54, 1, (Enc.encL y1.1).length, []⟩)], 4, 88, []⟩ : St)) (Sum.elim (fun (y2 : Unit) => (⟨[(2, .v (.one (.ptr 0 0))), (3, .v (.one (dI 8)))], [(0, .cells 72 [dN, .d (.v (.map none))])], [], 4, 88, []⟩ : St)) (fun (y3 : Unit) => (⟨[(2, .v (.one (.ptr 0 0))), (3, .v (.one (dI 9)))], [(0, .cells 72 [dN, .d (.v (.map none))])], [], 6, 88, []⟩ : St))))) q_).hp, (((Sum.elim (fun (y1 : (List (List Int)) × (GMap Bs Int)) => (⟨[(2, .v (.one (.ptr 0 0))), (3, .v (.one (dI 0)))], [(0, .cells 72 [dA 3 y1.1, .mp 1]), (1, .mp (gmE y1.2.1) y1.2.2)], [(3, some ⟨54, 1, (Enc.encL y1.1).length, []⟩)], 4, 88, []⟩ : St)) (Sum.elim (fun (y2 : Unit) => (⟨[(2, .v (.one (.ptr 0 0))), (3, .v (.one (dI 8)))], [(0, .cells 72 [dN, .d (.v (.map none))])], [], 4, 88, []⟩ : St)) (fun (y3 : Unit) => (⟨[(2, .v (.one (.ptr 0 0))), (3, .v (.one (dI 9)))], [(0, .cells 72 [dN, .d (.v (.map none))])], [], 6, 88, []⟩ : St))))) q_).tk, (((Sum.elim (fun (y1 : (List (List Int)) × (GMap Bs Int)) => (⟨[(2, .v (.one (.ptr 0 0))), (3, .v (.one (dI 0)))], [(0, .cells 72 [dA 3 y1.1, .mp 1]), (1, .mp (gmE y1.2.1) y1.2.2)], [(3, some ⟨54, 1, (Enc.encL y1.1).length, []⟩)], 4, 88, []⟩ : St)) (Sum.elim (fun (y2 : Unit) => (⟨[(2, .v (.one (.ptr 0 0))), (3, .v (.one (dI 8)))], [(0, .cells 72 [dN, .d (.v (.map none))])], [], 4, 88, []⟩ : St)) (fun (y3 : Unit) => (⟨[(2, .v (.one (.ptr 0 0))), (3, .v (.one (dI 9)))], [(0, .cells 72 [dN, .d (.v (.map none))])], [], 6, 88, []⟩ : St))))) q_).nx⟩) hc4 h0 (fun y1 hc4 h0 => ?_) (fun z_ hc4 h0 => sumK (C := fun q_ => CallM Try.prog 34 [.one (dS a0)] ⟨[], [], 0⟩ (resOf (((Sum.elim (fun (y1 : (List (List Int)) × (GMap Bs Int)) => ([.agg [dA 3 y1.1, .mp 1], .one (dI 0)] : List AV)) (Sum.elim (fun (y2 : Unit) => ([.agg [dN, .d (.v (.map none))], .one (dI 8)] : List AV)) (fun (y3 : Unit) => ([.agg [dN, .d (.v (.map none))], .one (dI 9)] : List AV))))) (.inr q_))) ⟨(((Sum.elim (fun (y1 : (List (List Int)) × (GMap Bs Int)) => (⟨[(2, .v (.one (.ptr 0 0))), (3, .v (.one (dI 0)))], [(0, .cells 72 [dA 3 y1.1, .mp 1]), (1, .mp (gmE y1.2.1) y1.2.2)], [(3, some ⟨54, 1, (Enc.encL y1.1).length, []⟩)], 4, 88, []⟩ : St)) (Sum.elim (fun (y2 : Unit) => (⟨[(2, .v (.one (.ptr 0 0))), (3, .v (.one (dI 8)))], [(0, .cells 72 [dN, .d (.v (.map none))])], [], 4, 88, []⟩ : St)) (fun (y3 : Unit) => (⟨[(2, .v (.one (.ptr 0 0))), (3, .v (.one (dI 9)))], [(0, .cells 72 [dN, .d (.v (.map none))])], [], 6, 88, []⟩ : St))))) (.inr q_)).hp, (((Sum.elim (fun (y1 : (List (List Int)) × (GMap Bs Int)) => (⟨[(2, .v (.one (.ptr 0 0))), (3, .v (.one (dI 0)))], [(0, .cells 72 [dA 3 y1.1, .mp 1]), (1, .mp (gmE y1.2.1) y1.2.2)], [(3, some ⟨54, 1, (Enc.encL y1.1).length, []⟩)], 4, 88, []⟩ : St)) (Sum.elim (fun (y2 : Unit) => (⟨[(2, .v (.one (.ptr 0 0))), (3, .v (.one (dI 8)))], [(0, .cells 72 [dN, .d (.v (.map none))])], [], 4, 88, []⟩ : St)) (fun (y3 : Unit) => (⟨[(2, .v (.one (.ptr 0 0))), (3, .v (.one (dI 9)))], [(0, .cells 72 [dN, .d (.v (.map none))])], [], 6, 88, []⟩ : St))))) (.inr q_)).tk, (((Sum.elim (fun (y1 : (List (List Int)) × (GMap Bs Int)) => (⟨[(2, .v (.one (.ptr 0 0))), (3, .v (.one (dI 0)))], [(0, .cells 72 [dA 3 y1.1, .mp 1]), (1, .mp (gmE y1.2.1) y1.2.2)], [(3, some ⟨54, 1, (Enc.encL y1.1).length, []⟩)], 4, 88, []⟩ : St)) (Sum.elim (fun (y2 : Unit) => (⟨[(2, .v (.one (.ptr 0 0))), (3, .v (.one (dI 8)))], [(0, .cells 72 [dN, .d (.v (.map none))])], [], 4, 88, []⟩ : St)) (fun (y3 : Unit) => (⟨[(2, .v (.one (.ptr 0 0))), (3, .v (.one (dI 9)))], [(0, .cells 72 [dN, .d (.v (.map none))])], [], 6, 88, []⟩ : St))))) (.inr q_)).nx⟩) hc4 h0 (fun y2 hc4 h0 => ?_) (fun y3 hc4 h0 => ?_))
  ·
   replace hc4 : CallM Try.prog 34 [.one (dS a0)] ⟨[], [], 0⟩ (resOf [.agg [dA 3 y1.1, .mp 1], .one (dI 0)]) ⟨[(0, .cells 72 [dA 3 y1.1, .mp 1]), (1, .mp (gmE y1.2.1) y1.2.2)], [(3, some ⟨54, 1, (Enc.encL y1.1).length, []⟩)], 4⟩ := hc4
   refine XL.put rfl rfl (lb rfl) (OpOK.callW rfl rfl rfl hc4 rfl hZ kZ) <| rM rfl rfl rfl <| rR rfl rfl rfl (RO.extract rfl rfl) <| rR rfl rfl rfl (RO.extract rfl rfl) <| XL.put rfl rfl (lb rfl) (OpOK.alloc z_72 rfl) <| XL.eff rfl rfl (OpOK.store ag_72 rfl rfl rfl rfl (lb rfl) rfl) <| rA rfl rfl rfl <| XL.nil <| XQ.seq <| XC.seq <| XC.region <| rR rfl rfl rfl (RO.fieldOwn fo_72_0 rfl) <| rR rfl rfl rfl (RO.loadOwn ag_57 rfl rfl rfl) <| rM rfl rfl rfl ?_
   refine rA rfl rfl rfl <| rA rfl rfl rfl <| XL.nil <| XQ.seq <| XC.ret ?_
   have e_ := Option.some.inj h0
   subst e_
   exact XQ.retF (fun _ _ h => h) rfl (RAs.tmp rfl (RAs.tmp rfl .nil)) (.cons (.one (.app _ _ _)) (.cons (.one (.d _)) .nil))
  ·
   replace hc4 : CallM Try.prog 34 [.one (dS a0)] ⟨[], [], 0⟩ (resOf [.agg [dN, .d (.v (.map none))], .one (dI 8)]) ⟨[(0, .cells 72 [dN, .d (.v (.map none))])], [], 4⟩ := hc4
   refine XL.put rfl rfl (lb rfl) (OpOK.callW rfl rfl rfl hc4 rfl hZ kZ) <| rM rfl rfl rfl <| rR rfl rfl rfl (RO.extract rfl rfl) <| rR rfl rfl rfl (RO.extract rfl rfl) <| XL.put rfl rfl (lb rfl) (OpOK.alloc z_72 rfl) <| XL.eff rfl rfl (OpOK.store ag_72 rfl rfl rfl rfl (lb rfl) rfl) <| rA rfl rfl rfl <| XL.nil <| XQ.seq <| XC.seq <| XC.region <| rR rfl rfl rfl (RO.fieldOwn fo_72_0 rfl) <| rR rfl rfl rfl (RO.loadOwn ag_57 rfl rfl rfl) <| rM rfl rfl rfl ?_
   refine rA rfl rfl rfl <| rA rfl rfl rfl <| XL.nil <| XQ.seq <| XC.ret ?_
   have e_ := Option.some.inj h0
   subst e_
   exact XQ.retF (fun _ _ h => h) rfl (RAs.tmp rfl (RAs.tmp rfl .nil)) (.cons (.one (.nil _)) (.cons (.one (.d _)) .nil))
  ·
   replace hc4 : CallM Try.prog 34 [.one (dS a0)] ⟨[], [], 0⟩ (resOf [.agg [dN, .d (.v (.map none))], .one (dI 9)]) ⟨[(0, .cells 72 [dN, .d (.v (.map none))])], [], 6⟩ := hc4
   refine XL.put rfl rfl (lb rfl) (OpOK.callW rfl rfl rfl hc4 rfl hZ kZ) <| rM rfl rfl rfl <| rR rfl rfl rfl (RO.extract rfl rfl) <| rR rfl rfl rfl (RO.extract rfl rfl) <| XL.put rfl rfl (lb rfl) (OpOK.alloc z_72 rfl) <| XL.eff rfl rfl (OpOK.store ag_72 rfl rfl rfl rfl (lb rfl) rfl) <| rA rfl rfl rfl <| XL.nil <| XQ.seq <| XC.seq <| XC.region <| rR rfl rfl rfl (RO.fieldOwn fo_72_0 rfl) <| rR rfl rfl rfl (RO.loadOwn ag_57 rfl rfl rfl) <| rM rfl rfl rfl ?_
   refine rA rfl rfl rfl <| rA rfl rfl rfl <| XL.nil <| XQ.seq <| XC.ret ?_
   have e_ := Option.some.inj h0
   subst e_
   exact XQ.retF (fun _ _ h => h) rfl (RAs.tmp rfl (RAs.tmp rfl .nil)) (.cons (.one (.nil _)) (.cons (.one (.d _)) .nil))
end Go.Proofs.Ytijcchddnnnmdaa
namespace Go.Proofs.Ytijcchddnnnmdaa
open Go.RowKit Go.Shelf
set_option linter.unusedSimpArgs false
set_option linter.unusedVariables false
def m48_l0 (a0 : List Dcl) (a1 : Bs) (s1 : Int) : Option (LO Int (Unit ⊕ Int)) :=
  cond (decide (s1 < (a0.length : Int)))
    (Option.bind (idx a0 s1) fun (x3 : Dcl) =>
  Option.bind (m18 x3) fun (x4 : (List Bs)) =>
  Option.bind (m61 x4 a1) fun (x5 : Bool) =>
  cond x5
    (some (.done (.inr s1)))
    (some (.next (w64 (s1 + 1)))))
    (some (.done (.inl ())))
def m48 (a0 : List Dcl) (a1 : Bs) : Option Int :=
  Option.bind (loopN (m48_l0 a0 a1) FUEL 0) (Sum.elim (fun (o1 : Unit) => some (-1)) (fun o => some o))
def m46_l0 (x4 : (List Bs)) (s2 : (List Bs) × Int) : Option (LO ((List Bs) × Int) (((List Bs)) ⊕ Int)) :=
  cond (decide (s2.2 < (x4.length : Int)))
    (Option.bind (idx x4 s2.2) fun (x7 : Bs) =>
  Option.bind (m61 s2.1 x7) fun (x8 : Bool) =>
  cond x8
    (some (.done (.inr 8)))
    (Option.bind (idx x4 s2.2) fun (x10 : Bs) =>
  guardO (Nat.ble (s2.1.length + ([x10]).length) 1000000000)
  (some (.next ((s2.1 ++ ([x10])), (w64 (s2.2 + 1)))))))
    (some (.done (.inl s2.1)))
def m46_l1 (a0 : List Dcl) (s1 : (List Bs) × Int) : Option (LO ((List Bs) × Int) (((List Bs)) ⊕ Int)) :=
  cond (decide (s1.2 < (a0.length : Int)))
    (Option.bind (idx a0 s1.2) fun (x3 : Dcl) =>
  Option.bind (m18 x3) fun (x4 : (List Bs)) =>
  Option.bind (loopN (m46_l0 x4) FUEL (s1.1, 0)) (Sum.elim (fun (o5 : (List Bs)) => some (.next (o5, (w64 (s1.2 + 1))))) (fun o => some (.done (.inr o)))))
    (some (.done (.inl s1.1)))
def m46_l2 (x5 : (List Bs)) (o1 : (List Bs)) (s2 : Int) : Option (LO Int (Unit ⊕ Int)) :=
  cond (decide (s2 < (x5.length : Int)))
    (Option.bind (idx x5 s2) fun (x8 : Bs) =>
  Option.bind (m61 o1 x8) fun (x9 : Bool) =>
  cond (!x9)
    (some (.done (.inr 9)))
    (some (.next (w64 (s2 + 1)))))
    (some (.done (.inl ())))
def m46_l3 (a0 : List Dcl) (o1 : (List Bs)) (s1 : Int) : Option (LO Int (Unit ⊕ Int)) :=
  cond (decide (s1 < (a0.length : Int)))
    (Option.bind (idx a0 s1) fun (x4 : Dcl) =>
  Option.bind (m47 x4) fun (x5 : (List Bs)) =>
  Option.bind (loopN (m46_l2 x5 o1) FUEL 0) (Sum.elim (fun (o6 : Unit) => some (.next (w64 (s1 + 1)))) (fun o => some (.done (.inr o)))))
    (some (.done (.inl ())))
def m46 (a0 : List Dcl) : Option Int :=
  Option.bind (loopN (m46_l1 a0) FUEL (([] : List Bs), 0)) (Sum.elim (fun (o1 : (List Bs)) => Option.bind (loopN (m46_l3 a0 o1) FUEL 0) (Sum.elim (fun (o2 : Unit) => some 0) (fun o => some o))) (fun o => some o))
def m49_l0 (a0 : List Int) (a1 : Int) (s1 : Int) : Option (LO Int (Unit ⊕ Bool)) :=
  cond (decide (s1 < (a0.length : Int)))
    (Option.bind (idx a0 s1) fun (x3 : Int) =>
  cond (x3 == a1)
    (some (.done (.inr true)))
    (some (.next (w64 (s1 + 1)))))
    (some (.done (.inl ())))
def m49 (a0 : List Int) (a1 : Int) : Option Bool :=
  Option.bind (loopN (m49_l0 a0 a1) FUEL 0) (Sum.elim (fun (o1 : Unit) => some false) (fun o => some o))
def m25_l0 (x6 : (List Bs)) (a0 : List Dcl) (s2 : (List Int) × Int) : Option (LO ((List Int) × Int) (((List Int)))) :=
  cond (decide (s2.2 < (x6.length : Int)))
    (Option.bind (idx x6 s2.2) fun (x9 : Bs) =>
  Option.bind (m48 a0 x9) fun (x10 : Int) =>
  guardO (Nat.ble (s2.1.length + ([x10]).length) 1000000000)
  (some (.next ((s2.1 ++ ([x10])), (w64 (s2.2 + 1))))))
    (some (.done s2.1))
def m25_l1 (a0 : List Dcl) (o7 : (List Int)) (s2 : (List Int) × Int) : Option (LO ((List Int) × Int) (((List Int)))) :=
  cond (decide (s2.2 < (a0.length : Int)))
    (Option.bind (m49 o7 s2.2) fun (x10 : Bool) =>
  cond x10
    (guardO (Nat.ble (s2.1.length + ([s2.2]).length) 1000000000)
  (some (.next ((s2.1 ++ ([s2.2])), (w64 (s2.2 + 1))))))
    (some (.next (s2.1, (w64 (s2.2 + 1))))))
    (some (.done s2.1))
def m25_l2 (a0 : List Dcl) (s1 : (List (List Int)) × Int) : Option (LO ((List (List Int)) × Int) (((List (List Int))))) :=
  cond (decide (s1.2 < (a0.length : Int)))
    (Option.bind (idx a0 s1.2) fun (x5 : Dcl) =>
  Option.bind (m47 x5) fun (x6 : (List Bs)) =>
  Option.bind (loopN (m25_l0 x6 a0) FUEL (([] : List Int), 0)) (fun (o7 : (List Int)) => Option.bind (loopN (m25_l1 a0 o7) FUEL (([] : List Int), 0)) (fun (o8 : (List Int)) => guardO (Nat.ble (s1.1.length + ([o8]).length) 1000000000)
  (some (.next ((s1.1 ++ ([o8])), (w64 (s1.2 + 1))))))))
    (some (.done s1.1))
def m25 (a0 : List Dcl) : Option ((List (List Int)) × Int) :=
  Option.bind (m46 a0) fun (x1 : Int) =>
  cond (x1 != 0)
    (some (([] : List (List Int)), x1))
    (Option.bind (loopN (m25_l2 a0) FUEL (([] : List (List Int)), 0)) (fun (o3 : (List (List Int))) => some (o3, 0)))
end Go.Proofs.Ytijcchddnnnmdaa
namespace Go.Proofs.Ytijcchddnnnmdaa
open Go.RowKit Go.Lib
set_option linter.unusedSimpArgs false
set_option linter.unusedVariables false
set_option linter.unusedSectionVars false
theorem pair_lt_eq : ∀ {l m : List Int}, l.Pairwise (· < ·) → m.Pairwise (· < ·) → (∀ x, x ∈ l ↔ x ∈ m) → l = m
  | [], [], _, _, _ => rfl
  | [], y :: m, _, _, h => absurd ((h y).2 List.mem_cons_self) (by simp)
  | x :: l, [], _, _, h => absurd ((h x).1 List.mem_cons_self) (by simp)
  | x :: l, y :: m, hl, hm, h => by
    have hx := List.pairwise_cons.1 hl
    have hy := List.pairwise_cons.1 hm
    have hxy : x = y := by
      have h1 : x ∈ y :: m := (h x).1 List.mem_cons_self
      have h2 : y ∈ x :: l := (h y).2 List.mem_cons_self
      rcases List.mem_cons.1 h1 with e | h1
      · exact e
      rcases List.mem_cons.1 h2 with e | h2
      · exact e.symm
      have := hx.1 y h2
      have := hy.1 x h1
      omega
    subst hxy
    congr 1
    refine pair_lt_eq hx.2 hy.2 fun z => ?_
    have hz := h z
    simp only [List.mem_cons] at hz
    constructor
    · intro h1
      rcases hz.1 (.inr h1) with e | h2
      · have := hx.1 z h1; omega
      · exact h2
    · intro h1
      rcases hz.2 (.inr h1) with e | h2
      · have := hy.1 z h1; omega
      · exact h2
theorem bang_eq (zs : List Int) {j : Nat} (h : j < zs.length) : zs.toArray[j]! = zs[j] := by
  rw [getElem!_pos zs.toArray j (by simpa using h)]; rfl
theorem compact_sorted {zs : List Int} (h : zs.Pairwise (· ≤ ·)) : (Lib.compact zs).Pairwise (· < ·) ∧ ∀ x, x ∈ Lib.compact zs ↔ x ∈ zs := by
  have hle : ∀ i j, (hi : i < zs.length) → (hj : j < zs.length) → i ≤ j → zs[i] ≤ zs[j] := fun i j hi hj hij => by
    rcases Nat.lt_or_ge i j with h1 | h1
    · exact List.pairwise_iff_getElem.1 h i j hi hj h1
    · obtain rfl : i = j := by omega
      exact Int.le_refl _
  unfold Lib.compact compactUpTo
  constructor
  · rw [List.pairwise_map]
    have hr : ((List.range zs.length).filter (keeps zs.toArray)).Pairwise (fun a b => a < b ∧ a < zs.length ∧ b < zs.length ∧ keeps zs.toArray b = true) := by
      have h1 : ((List.range zs.length).filter (keeps zs.toArray)).Pairwise (· < ·) := List.Pairwise.filter _ List.pairwise_lt_range
      refine List.Pairwise.imp_of_mem (fun ha hb hab => ⟨hab, ?_, ?_, ?_⟩) h1
      · exact List.mem_range.1 (List.mem_filter.1 ha).1
      · exact List.mem_range.1 (List.mem_filter.1 hb).1
      · exact (List.mem_filter.1 hb).2
    refine List.Pairwise.imp (fun {a b} hab => ?_) hr
    obtain ⟨h1, h2, h3, h4⟩ := hab
    have hb0 : b ≠ 0 := by omega
    have hne : zs.toArray[b]! ≠ zs.toArray[b - 1]! := fun e => by rw [keeps_neg (by omega) e] at h4; cases h4
    rw [bang_eq zs h3, bang_eq zs (by omega)] at hne
    rw [bang_eq zs h2, bang_eq zs h3]
    have h5 := hle a (b - 1) h2 (by omega) (by omega)
    have h6 := hle (b - 1) b (by omega) h3 (by omega)
    omega
  · intro x
    rw [List.mem_map]
    constructor
    · rintro ⟨j, hj, rfl⟩
      have := List.mem_range.1 (List.mem_filter.1 hj).1
      rw [bang_eq zs this]; exact List.getElem_mem this
    · intro hx
      obtain ⟨j, hj, hjx⟩ := List.mem_iff_getElem.1 hx
      have key : ∀ j, (hj : j < zs.length) → zs[j] = x → ∃ k, k ∈ (List.range zs.length).filter (keeps zs.toArray) ∧ zs.toArray[k]! = x := by
        intro j
        induction j with
        | zero =>
          intro hj hjx
          exact ⟨0, List.mem_filter.2 ⟨List.mem_range.2 hj, keeps_lt_one _ 0 (by omega)⟩, by rw [bang_eq zs hj, hjx]⟩
        | succ j ih =>
          intro hj hjx
          by_cases e : zs[j] = x
          · exact ih (by omega) e
          · refine ⟨j + 1, List.mem_filter.2 ⟨List.mem_range.2 hj, keeps_pos ?_⟩, by rw [bang_eq zs hj, hjx]⟩
            rw [bang_eq zs hj, Nat.add_sub_cancel, bang_eq zs (by omega), hjx]
            exact fun e' => e e'.symm
      exact key j hj hjx
theorem sortI_mem (l : List Int) (x : Int) : x ∈ sortI l ↔ x ∈ l := (sortI_perm l).mem_iff
theorem sortI_len (l : List Int) : (sortI l).length = l.length := (sortI_perm l).length_eq
def allNames (l : List Dcl) : List Bs := (l.map names).flatten
def ownO (i : Int) : List Dcl → Bs → Option Int
  | [], _ => none
  | d :: l, s => if s ∈ names d then some i else ownO (i + 1) l s
theorem ownO_app (s : Bs) (b : List Dcl) : ∀ (a : List Dcl) (i : Int), ownO i (a ++ b) s = (ownO i a s).or (ownO (i + a.length) b s)
  | [], i => by simp [ownO]
  | d :: a, i => by
    simp only [List.cons_append, ownO]
    split
    · rfl
    · rw [ownO_app s b a (i + 1), show i + 1 + (a.length : Int) = i + ((d :: a).length : Int) by simp only [List.length_cons]; omega]
theorem ownO_some (s : Bs) : ∀ (l : List Dcl) (i j : Int), ownO i l s = some j → ∃ k : Nat, ∃ d, j = i + k ∧ l[k]? = some d ∧ s ∈ names d
  | [], i, j, h => by cases h
  | d :: l, i, j, h => by
    simp only [ownO] at h
    split at h
    · cases h; exact ⟨0, d, by simp, rfl, ‹_›⟩
    · obtain ⟨k, d', h1, h2, h3⟩ := ownO_some s l (i + 1) j h
      exact ⟨k + 1, d', by omega, h2, h3⟩
theorem ownO_none (s : Bs) : ∀ (l : List Dcl) (i : Int), ownO i l s = none ↔ s ∉ allNames l
  | [], i => by simp [ownO, allNames]
  | d :: l, i => by
    simp only [ownO]
    have ih := ownO_none s l (i + 1)
    unfold allNames at ih ⊢
    simp only [List.map_cons, List.flatten_cons, List.mem_append, not_or]
    split
    · simp [*]
    · rw [ih]; simp [*]
def ownV (env : List Dcl) (s : Bs) : Int := (ownO 0 env s).getD 0
def envSz (env : List Dcl) : Nat := (env.map Dcl.size).sum
theorem size_le {env : List Dcl} {d : Dcl} (h : d ∈ env) : d.size ≤ envSz env := sum_mem Dcl.size h
theorem env_len (env : List Dcl) : env.length ≤ envSz env := len_sum Dcl.size (fun d => by unfold Dcl.size; omega) env
theorem all_snoc (a : List Dcl) (x : Dcl) : allNames (a ++ [x]) = allNames a ++ names x := by unfold allNames; simp
theorem all_nodup {a b : List Dcl} (h : (allNames (a ++ b)).Nodup) : (allNames a).Nodup := by
  unfold allNames at h ⊢
  rw [List.map_append, List.flatten_append] at h
  exact (List.nodup_append.1 h).1
def closedA (env : List Dcl) (l : List Dcl) : Prop := ∀ d ∈ l, ∀ s ∈ uses d, s ∈ allNames env
def row (env : List Dcl) (d : Dcl) : List Int := ((List.range env.length).map fun (k : Nat) => (k : Int)).filter fun j => decide (j ∈ (uses d).map (ownV env))
def graphL (env : List Dcl) : List (List Int) := env.map (row env)
inductive Says (env : List Dcl) : List (List Int) × Int → Prop
  | twice (h : ¬ (allNames env).Nodup) : Says env ([], 8)
  | none (h : (allNames env).Nodup) (h2 : ¬ closedA env env) : Says env ([], 9)
  | ok (h : (allNames env).Nodup) (h2 : closedA env env) : Says env (graphL env, 0)
theorem ownV_range {env : List Dcl} {s : Bs} (h : s ∈ allNames env) : ∃ k : Nat, k < env.length ∧ ownO 0 env s = some (k : Int) := by
  cases h1 : ownO 0 env s with
  | none => exact absurd h ((ownO_none s env 0).1 h1)
  | some j =>
    obtain ⟨k, d, h2, h3, h4⟩ := ownO_some s env 0 j h1
    exact ⟨k, (List.getElem?_eq_some_iff.1 h3).1, by rw [h2, Int.zero_add]⟩
theorem row_pair (env : List Dcl) (d : Dcl) : (row env d).Pairwise (· < ·) := by
  refine List.Pairwise.filter _ ?_
  rw [List.pairwise_map]
  exact List.pairwise_lt_range.imp fun h => by omega
theorem row_mem {env : List Dcl} {d : Dcl} (h : ∀ s ∈ uses d, s ∈ allNames env) (x : Int) : x ∈ row env d ↔ x ∈ (uses d).map (ownV env) := by
  unfold row
  rw [List.mem_filter, decide_eq_true_eq]
  refine ⟨fun h => h.2, fun hx => ⟨?_, hx⟩⟩
  obtain ⟨s, hs, rfl⟩ := List.mem_map.1 hx
  obtain ⟨k, hk, e⟩ := ownV_range (h s hs)
  unfold ownV
  rw [e]
  exact List.mem_map.2 ⟨k, List.mem_range.2 hk, rfl⟩
theorem row_sort {env : List Dcl} {d : Dcl} (h : ∀ s ∈ uses d, s ∈ allNames env) : Lib.compact (sortI ((uses d).map (ownV env))) = row env d := by
  obtain ⟨h1, h2⟩ := compact_sorted (sortI_pair ((uses d).map (ownV env)))
  refine pair_lt_eq h1 (row_pair env d) fun x => ?_
  rw [h2, sortI_mem, row_mem h]
abbrev OM := GMap Bs Int
theorem m23_l0_eq (i : Int) (M0 : OM) (f : Bs → Option Int) (nx : List Bs) (hM : ∀ s, gmGet M0 s = f s) (hl : nx.length ≤ 900000000) : ∃ r, loopN (m23_l0 nx (i, M0)) FUEL (0, M0) = some r ∧
    ((nx.Nodup ∧ (∀ s ∈ nx, f s = none) ∧ ∃ M', r = .inl M' ∧ ∀ s, gmGet M' s = (f s).or (if s ∈ nx then some i else none)) ∨ (¬ (nx.Nodup ∧ ∀ s ∈ nx, f s = none) ∧ r = .inr (.inr (.inl ())))) := by
  refine loop_all (step := m23_l0 nx (i, M0)) nx (fun k (s : OM) => (k, s)) (fun c M => c.Nodup ∧ (∀ s ∈ c, f s = none) ∧ ∀ s, gmGet M s = (f s).or (if s ∈ c then some i else none)) _ hl ?_ ?_ M0 ⟨List.nodup_nil, by simp, fun s => by rw [hM s]; simp⟩
  · intro a x b M e hI
    obtain ⟨h1, h2, h3⟩ := hI
    cases hx : gmHas M x with
    | true =>
      refine .inl ⟨.inr (.inr (.inl ())), ?_, .inr ⟨?_, rfl⟩⟩
      · unfold m23_l0
        dsimp only
        rw [e, lt_mid, idx_mid]
        simp only [cond_true, Option.bind_some]
        rw [hx]; rfl
      · rintro ⟨h4, h5⟩
        have h6 := h5 x (by rw [e]; simp)
        unfold gmHas at hx
        rw [h3, h6] at hx
        by_cases hxa : x ∈ a
        · rw [e, List.nodup_append] at h4
          exact h4.2.2 x hxa x List.mem_cons_self rfl
        · simp [hxa] at hx
    | false =>
      refine .inr ⟨gmSet M x i, ?_, ?_, ?_, ?_⟩
      · unfold m23_l0
        dsimp only
        rw [e, lt_mid, idx_mid]
        simp only [cond_true, Option.bind_some]
        rw [hx]; rfl
      · unfold gmHas at hx
        rw [h3] at hx
        rw [List.nodup_append]
        refine ⟨h1, by simp, fun y hy z hz => ?_⟩
        rw [List.mem_singleton] at hz
        subst hz
        intro e2
        subst e2
        cases hf : f y with
        | some j => rw [hf] at hx; cases hx
        | none => rw [hf] at hx; simp [hy] at hx
      · intro s hs
        rcases List.mem_append.1 hs with hs | hs
        · exact h2 s hs
        · rw [List.mem_singleton] at hs
          subst hs
          unfold gmHas at hx
          rw [h3] at hx
          cases hf : f s with
          | some j => rw [hf] at hx; cases hx
          | none => rfl
      · intro s
        rw [gmGet_set, h3]
        by_cases es : s = x
        · subst es
          unfold gmHas at hx
          rw [h3] at hx
          cases hf : f s with
          | some j => rw [hf] at hx; cases hx
          | none => simp
        · rw [if_neg es]
          have : s ∈ a ++ [x] ↔ s ∈ a := by simp [es]
          simp only [this]
  · intro M hI
    refine ⟨.inl M, ?_, .inl ⟨hI.1, hI.2.1, M, rfl, hI.2.2⟩⟩
    unfold m23_l0
    dsimp only
    rw [lt_end]; rfl
theorem nodup_snoc {a : List Dcl} {x : Dcl} (h : (allNames a).Nodup) : (allNames (a ++ [x])).Nodup ↔ ((names x).Nodup ∧ ∀ s ∈ names x, ownO 0 a s = none) := by
  rw [all_snoc, List.nodup_append]
  constructor
  · rintro ⟨-, h1, h2⟩
    exact ⟨h1, fun s hs => (ownO_none s a 0).2 fun h3 => h2 s h3 s hs rfl⟩
  · rintro ⟨h1, h2⟩
    exact ⟨h, h1, fun s hs t ht e => by subst e; exact (ownO_none s a 0).1 (h2 s ht) hs⟩
theorem m23_l1_eq (env : List Dcl) (hl : envSz env ≤ 100000000) : ∃ r, loopN (m23_l1 env) FUEL (0, gmNil) = some r ∧
    (((allNames env).Nodup ∧ ∃ M, r = .inl M ∧ ∀ s, gmGet M s = ownO 0 env s) ∨ (¬ (allNames env).Nodup ∧ r = .inr (.inr (.inl ())))) := by
  have hel := env_len env
  refine loop_all (step := m23_l1 env) env (fun k (s : OM) => (k, s)) (fun a M => (allNames a).Nodup ∧ ∀ s, gmGet M s = ownO 0 a s) _ (by omega) ?_ ?_ gmNil ⟨List.nodup_nil, fun s => rfl⟩
  · intro a x b M e hI
    have hx : x ∈ env := by rw [e]; simp
    have hxs := size_le hx
    have hnl := names_len x
    obtain ⟨h1, h2⟩ := hI
    obtain ⟨r, e1, hr⟩ := m23_l0_eq (a.length : Int) M (ownO 0 a) (names x) h2 (by omega)
    rcases hr with ⟨h3, h4, M', rfl, h5⟩ | ⟨h3, rfl⟩
    · refine .inr ⟨M', ?_, ?_, fun s => ?_⟩
      · unfold m23_l1
        dsimp only
        rw [e, lt_mid, idx_mid]
        simp only [cond_true, Option.bind_some]
        rw [m37_eq x (by omega), Option.bind_some, e1]; rfl
      · exact (nodup_snoc h1).2 ⟨h3, h4⟩
      · rw [h5, ownO_app, Int.zero_add]; rfl
    · refine .inl ⟨.inr (.inr (.inl ())), ?_, .inr ⟨?_, rfl⟩⟩
      · unfold m23_l1
        dsimp only
        rw [e, lt_mid, idx_mid]
        simp only [cond_true, Option.bind_some]
        rw [m37_eq x (by omega), Option.bind_some, e1]; rfl
      · intro h6
        rw [e, show a ++ x :: b = (a ++ [x]) ++ b by simp] at h6
        exact h3 ((nodup_snoc h1).1 (all_nodup h6))
  · intro M hI
    refine ⟨.inl M, ?_, .inl ⟨hI.1, M, rfl, hI.2⟩⟩
    unfold m23_l1
    dsimp only
    rw [lt_end]; rfl
theorem m23_l2_eq (env : List Dcl) (M : OM) (hM : ∀ s, gmGet M s = ownO 0 env s) (u : List Bs) (hl : u.length ≤ 900000000) : ∃ r, loopN (m23_l2 u M) FUEL ([], 0) = some r ∧
    (((∀ s ∈ u, s ∈ allNames env) ∧ r = .inl (u.map (ownV env))) ∨ (¬ (∀ s ∈ u, s ∈ allNames env) ∧ r = .inr (.inr (.inr ())))) := by
  have hv : ∀ s, gmVal M s = ownV env s := fun s => by unfold gmVal ownV; rw [hM]; rfl
  have hh : ∀ s, gmHas M s = decide (s ∈ allNames env) := fun s => by
    unfold gmHas
    rw [hM]
    by_cases h : s ∈ allNames env
    · obtain ⟨k, -, e⟩ := ownV_range h
      rw [e]; simp [h]
    · rw [(ownO_none s env 0).2 h]; simp [h]
  refine loop_all (step := m23_l2 u M) u (fun k (s : List Int) => (s, k)) (fun a s => (∀ x ∈ a, x ∈ allNames env) ∧ s = a.map (ownV env)) _ hl ?_ ?_ [] ⟨by simp, rfl⟩
  · intro a x b s e hI
    obtain ⟨h1, h2⟩ := hI
    have hal : a.length < u.length := mid_lt e
    by_cases hx : x ∈ allNames env
    · refine .inr ⟨s ++ [ownV env x], ?_, fun y hy => ?_, by rw [h2]; simp⟩
      · unfold m23_l2
        dsimp only
        rw [e, lt_mid, idx_mid]
        simp only [cond_true, Option.bind_some]
        rw [hh, hv, guard_le (by rw [h2]; simp; omega)]
        simp [hx]
      · rcases List.mem_append.1 hy with hy | hy
        · exact h1 y hy
        · rw [List.mem_singleton] at hy; subst hy; exact hx
    · refine .inl ⟨.inr (.inr (.inr ())), ?_, .inr ⟨fun h => hx (h x (by rw [e]; simp)), rfl⟩⟩
      unfold m23_l2
      dsimp only
      rw [e, lt_mid, idx_mid]
      simp only [cond_true, Option.bind_some]
      rw [hh]
      simp [hx]
  · intro s hI
    refine ⟨.inl s, ?_, .inl ⟨hI.1, by rw [hI.2]⟩⟩
    unfold m23_l2
    dsimp only
    rw [lt_end]; rfl
theorem m23_l3_eq (env : List Dcl) (M : OM) (hM : ∀ s, gmGet M s = ownO 0 env s) (hl : envSz env ≤ 100000000) : ∃ r, loopN (m23_l3 env M) FUEL (0, []) = some r ∧
    ((closedA env env ∧ r = .inl (graphL env)) ∨ (¬ closedA env env ∧ r = .inr (.inr (.inr ())))) := by
  have hel := env_len env
  refine loop_all (step := m23_l3 env M) env (fun k (s : List (List Int)) => (k, s)) (fun a s => closedA env a ∧ s = a.map (row env)) _ (by omega) ?_ ?_ [] ⟨by simp [closedA], rfl⟩
  · intro a x b s e hI
    obtain ⟨h1, h2⟩ := hI
    have hx : x ∈ env := by rw [e]; simp
    have hxs := size_le hx
    have hul := uses_len x
    have hal : a.length < env.length := mid_lt e
    obtain ⟨r, e1, hr⟩ := m23_l2_eq env M hM (uses x) (by omega)
    rcases hr with ⟨h3, rfl⟩ | ⟨h3, rfl⟩
    · refine .inr ⟨s ++ [row env x], ?_, fun d hd => ?_, by rw [h2]; simp⟩
      · unfold m23_l3
        dsimp only
        rw [e, lt_mid, idx_mid]
        simp only [cond_true, Option.bind_some]
        rw [m53_eq x (by omega), Option.bind_some, e1, Option.bind_some]
        dsimp only [Sum.elim]
        unfold sortF compactF
        rw [← e, Nat.ble_eq_true_of_le (show ((uses x).map (ownV env)).length ≤ 1000000000 by simp; omega), cond_true, Option.bind_some]
        rw [show Nat.beq (Enc.encL (sortI ((uses x).map (ownV env)))).length (Enc.encL ((uses x).map (ownV env))).length = true from by rw [Enc.len, Enc.len, sortI_len, Nat.beq_refl]]
        rw [cond_true, Option.bind_some, row_sort h3, guard_le (by rw [h2]; simp; omega)]
      · rcases List.mem_append.1 hd with hd | hd
        · exact h1 d hd
        · rw [List.mem_singleton] at hd; subst hd; exact h3
    · refine .inl ⟨.inr (.inr (.inr ())), ?_, .inr ⟨fun h => h3 (h x hx), rfl⟩⟩
      unfold m23_l3
      dsimp only
      rw [e, lt_mid, idx_mid]
      simp only [cond_true, Option.bind_some]
      rw [m53_eq x (by omega), Option.bind_some, e1]; rfl
  · intro s hI
    refine ⟨.inl s, ?_, .inl ⟨hI.1, by rw [hI.2]; rfl⟩⟩
    unfold m23_l3
    dsimp only
    rw [lt_end]; rfl
theorem newGraph_eq {γ : Type} (env : List Dcl) (hl : envSz env ≤ 100000000) : ∃ r, (Option.bind (loopN (m23_l1 env) FUEL (0, gmNil)) (Sum.elim (fun (o6 : OM) => Option.bind (loopN (m23_l3 env o6) FUEL (0, ([] : List (List Int)))) (Sum.elim (fun (o7 : List (List Int)) => some (.inl (o7, o6))) (fun o => some o))) (fun o => some o))) = some r ∧
    ((¬ (allNames env).Nodup ∧ r = .inr (.inl ())) ∨ ((allNames env).Nodup ∧ ¬ closedA env env ∧ r = .inr (.inr ())) ∨ ((allNames env).Nodup ∧ closedA env env ∧ ∃ M, r = .inl (graphL env, M) ∧ ∀ s, gmGet M s = ownO 0 env s)) := by
  obtain ⟨r, e1, hr⟩ := m23_l1_eq env hl
  rw [e1, Option.bind_some]
  rcases hr with ⟨h1, M, rfl, hM⟩ | ⟨h1, rfl⟩
  · obtain ⟨r, e2, hr⟩ := m23_l3_eq env M hM hl
    dsimp only [Sum.elim]
    rw [e2, Option.bind_some]
    rcases hr with ⟨h2, rfl⟩ | ⟨h2, rfl⟩
    · exact ⟨_, rfl, .inr (.inr ⟨h1, h2, M, rfl, hM⟩)⟩
    · exact ⟨_, rfl, .inr (.inl ⟨h1, h2, rfl⟩)⟩
  · exact ⟨_, rfl, .inl ⟨h1, rfl⟩⟩
theorem m23_eq (env : List Dcl) (hl : envSz env ≤ 100000000) : ∃ r, m23 env = some r ∧ Says env r := by
  unfold m23
  obtain ⟨r, e, hr⟩ := newGraph_eq (γ := Unit) env hl
  rw [e, Option.bind_some]
  rcases hr with ⟨h1, rfl⟩ | ⟨h1, h2, rfl⟩ | ⟨h1, h2, M, rfl, hM⟩
  · exact ⟨_, rfl, .twice h1⟩
  · exact ⟨_, rfl, .none h1 h2⟩
  · exact ⟨_, rfl, .ok h1 h2⟩
end Go.Proofs.Ytijcchddnnnmdaa
