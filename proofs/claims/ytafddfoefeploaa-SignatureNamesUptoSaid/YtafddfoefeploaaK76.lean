/- The statement SignatureNamesUpto is proved here: for every declaration the law returns true, and the declaration reads behind the call as it did before; condition: it is of bulk at most 1048576 (the second form). -/
import Derived.Test.YtafddfoefeploaaK75
import Derived.Deep.Slices
import Derived.ChangeSame
import Derived.Test.YtafddfoefeploaaRows
import Derived.Test.YtafddfoefeploaaProg
import Derived.Test.YtafddfoefeploaaChecked
import Derived.ProofKit
import Derived.Carry
import Derived.JoinedCond
namespace Go.Proofs.Ytafddfoefeploaa
open Go.RowKit Go.Shelf
set_option linter.unusedSimpArgs false
set_option linter.unusedVariables false
theorem bd_45 : Yj Try.prog 45 [(0, 1), (1, 1), (2, 1), (3, 5), (8, 5), (13, 1), (14, 1), (15, 7), (22, 1)] [.int .i64 0, .string ByteArray.empty, .int .i64 0, .int .i64 0, .int .i64 0, .string ByteArray.empty, .slice none 0 0, .slice none 0 0, .int .i64 0, .int .i64 0, .string ByteArray.empty, .slice none 0 0, .slice none 0 0, .int .i64 0, .slice none 0 0, .int .i64 0, .int .i64 0, .int .i64 0, .string ByteArray.empty, .slice none 0 0, .slice none 0 0, .slice none 0 0, .slice none 0 0] := ⟨by kernel_rfl, by kernel_rfl⟩
theorem en_14 : J3 Try.prog 14 := enters_of Try.func14 (by kernel_rfl) rfl
theorem en_16 : J3 Try.prog 16 := enters_of Try.func16 (by kernel_rfl) rfl
noncomputable def Kd : Code := (UC (UC (UB (UB (UC (UC (UB (UB (UC (UC (UB (UC (UB (Kf Try.f14))))))))))))))
noncomputable def Yg : Code := (UB (UC (UB (UB (UC (UC (UB (UB (UC (UC (UB (UC (UB (Kf Try.f14))))))))))))))
def m14_l0 (x3 : Dcl) (a1 : UN) (s3 : Int) : Option (LO Int (Unit ⊕ (Unit ⊕ (Int × Int × Int × Int × Int × UN × (List Lvl) × (List Tm))))) :=
 cond (decide (s3 < (x3.ctors.length : Int)))
   (Option.bind (Yi x3.ctors s3) fun (x28 : Ctr) =>
 Option.bind (cond (x28.name == a1)
   (some (.inr ()))
   (some (.inl ()))) (Sum.elim (fun (y29 : Unit) => some (.next (Jk (s3 + 1)))) (fun (y30 : Unit) => some (.done (.inr (.inr (4, s3, x3.params, x28.ty.kind, x28.ty.index, x28.ty.name, x28.ty.levels, x28.ty.kids)))))))
   (some (.done (.inl ())))
def m14_k1 (p0_ : Dcl) (p1_ : UN) : Option (Unit ⊕ (Int × Int × Int × Int × Int × UN × (List Lvl) × (List Tm))) :=
 J8 (Nat.ble (p0_.name.length + ([46, 114, 101, 99] : List UInt8).length) 1000000000)
 (Option.bind (cond ((p0_.name ++ ([46, 114, 101, 99] : List UInt8)) == p1_)
   (some (.inr ()))
   (some (.inl ()))) (Sum.elim (fun (b0_ : Unit) => some (.inl ())) (fun (b1_ : Unit) => some (.inr (5, 0, p0_.rcr.params, p0_.rcr.ty.kind, p0_.rcr.ty.index, p0_.rcr.ty.name, p0_.rcr.ty.levels, p0_.rcr.ty.kids)))))
def m14_l2 (x3 : Dcl) (a1 : UN) (s3 : Int) : Option (LO Int (Unit ⊕ (Unit ⊕ (Int × Int × Int × Int × Int × UN × (List Lvl) × (List Tm))))) :=
 cond (decide (s3 < (x3.funs.length : Int)))
   (Option.bind (Yi x3.funs s3) fun (x46 : Fn) =>
 Option.bind (cond (x46.name == a1)
   (some (.inr ()))
   (some (.inl ()))) (Sum.elim (fun (y47 : Unit) => some (.next (Jk (s3 + 1)))) (fun (y48 : Unit) => some (.done (.inr (.inr (6, s3, x3.params, x46.ty.kind, x46.ty.index, x46.ty.name, x46.ty.levels, x46.ty.kids)))))))
   (some (.done (.inl ())))
def m14_k3 (p0_ : Bool) (p1_ : Dcl) (p2_ : UN) : Option (Unit ⊕ (Int × Int × Int × Int × Int × UN × (List Lvl) × (List Tm))) :=
 cond p0_
   (Option.bind (Yi ([0, 1, 2]) p1_.kind) fun (b0_ : Int) =>
 Option.bind (cond (p1_.name == p2_)
   (some (.inr ()))
   (some (.inl ()))) (Sum.elim (fun (b1_ : Unit) => some (.inl ())) (fun (b2_ : Unit) => some (.inr (b0_, 0, p1_.params, p1_.ty.kind, p1_.ty.index, p1_.ty.name, p1_.ty.levels, p1_.ty.kids)))))
   (cond (p1_.kind == 3)
   (Option.bind (cond (p1_.name == p2_)
   (some (.inr ()))
   (some (.inl ()))) (Sum.elim (fun (b3_ : Unit) => Option.bind (QV (m14_l0 p1_ p2_) J2 0) (Sum.elim (fun (b4_ : Unit) => m14_k1 p1_ p2_) (fun o => some o))) (fun (b5_ : Unit) => some (.inr (3, 0, p1_.params, p1_.ty.kind, p1_.ty.index, p1_.ty.name, p1_.ty.levels, p1_.ty.kids)))))
   (cond (p1_.kind == 4)
   (Option.bind (QV (m14_l2 p1_ p2_) J2 0) (Sum.elim (fun (b6_ : Unit) => some (.inl ())) (fun o => some o)))
   (some (.inl ()))))
def m14_l4 (a0 : List Dcl) (a1 : UN) (s1 : Int) : Option (LO Int (Unit ⊕ (Ent × Int))) :=
 cond (decide (s1 < (a0.length : Int)))
   (Option.bind (Yi a0 s1) fun (x3 : Dcl) =>
 Option.bind (some ()) (fun (y4 : Unit) => Option.bind (Option.bind (cond (x3.kind == 0)
   (some (x3.kind == 0))
   (cond (x3.kind == 1)
   (some (x3.kind == 1))
   (some (x3.kind == 2)))) (fun (v10 : Bool) => m14_k3 v10 x3 a1)) (Sum.elim (fun (y6 : Unit) => some (.next (Jk (s1 + 1)))) (fun (y7 : Int × Int × Int × Int × Int × UN × (List Lvl) × (List Tm)) => some (.done (.inr ((⟨y7.1, s1, y7.2.1, y7.2.2.1, (Tm.mk y7.2.2.2.1 y7.2.2.2.2.1 y7.2.2.2.2.2.1 y7.2.2.2.2.2.2.1 y7.2.2.2.2.2.2.2)⟩ : Ent), 0)))))))
   (some (.done (.inl ())))
noncomputable abbrev Yu  : HB :=
 .cells 35 [Ux 0, Ux 0, Ux 0, Ux 0, Ux 0, Ux 0, Jl ([] : List UInt8), Uw, Uw]
noncomputable abbrev m14_h1 (p0_ : UN) (p1_ : Dcl) : List (Nat × HB) :=
 [(0, .cells 9 [Jl p0_]), (1, Yu), (2, .cells 25 [Ux 0]), (3, .cells 45 (UA p1_))]
noncomputable abbrev m14_h2 (p0_ : UN) (p1_ : Dcl) (p2_ : Int) : List (Nat × HB) :=
 [(0, .cells 9 [Jl p0_]), (1, Yu), (2, .cells 25 [Ux 0]), (3, .cells 45 (UA p1_)), (4, .cells 45 (UA p1_)), (5, .cells 3 [Ux p2_])]
noncomputable abbrev KD (p0_ : List Dcl) (p1_ : Int) : HB :=
 .loop .ready none [(3, .v (.one (.ptr 0 0))), (4, .v (.one (.ptr 1 0))), (5, .v (.one (.ptr 2 0))), (10, .v (.one (Uv p0_))), (11, .v (.one (Ux (p0_.length : Int)))), (12, .v (.one (Ux p1_))), (19, .v (.one (.fn 49 [(5, 0), (4, 0)])))] 28 #[20, 21] Kd Yg 6
noncomputable abbrev Kc (p0_ : UN) (p1_ : Dcl) (p2_ : Int) (p3_ : List Dcl) : List (Nat × HB) :=
 [(0, .cells 9 [Jl p0_]), (1, Yu), (2, .cells 25 [Ux 0]), (3, .cells 45 (UA p1_)), (4, .cells 45 (UA p1_)), (5, .cells 3 [Ux p2_]), (6, .obj (.deferred (some []))), (7, KD p3_ p2_)]
noncomputable abbrev m14_h5 (p0_ : Int × Int × Int × Int × Int × UN × (List Lvl) × (List Tm)) (p1_ : Int) : HB :=
 .cells 35 [Ux p0_.1, Ux p1_, Ux p0_.2.1, Ux p0_.2.2.1, Ux p0_.2.2.2.1, Ux p0_.2.2.2.2.1, Jl p0_.2.2.2.2.2.1, Uv p0_.2.2.2.2.2.2.1, Uv p0_.2.2.2.2.2.2.2]
noncomputable abbrev XX (p0_ : List Dcl) (p1_ : Int) : HB :=
 .loop .done (some .ret) [(3, .v (.one (.ptr 0 0))), (4, .v (.one (.ptr 1 0))), (5, .v (.one (.ptr 2 0))), (10, .v (.one (Uv p0_))), (11, .v (.one (Ux (p0_.length : Int)))), (12, .v (.one (Ux p1_))), (19, .v (.one (.fn 49 [(5, 0), (4, 0)])))] 28 #[20, 21] Kd Yg 6
noncomputable abbrev GH (p0_ : UN) (p1_ : Int × Int × Int × Int × Int × UN × (List Lvl) × (List Tm)) (p2_ : Int) (p3_ : Dcl) (p4_ : List Dcl) : List (Nat × HB) :=
 [(0, .cells 9 [Jl p0_]), (1, m14_h5 p1_ p2_), (2, .cells 25 [Ux 0]), (3, .cells 45 (UA p3_)), (4, .cells 45 (UA p3_)), (5, .cells 3 [Ux p2_]), (6, .obj (.deferred (some []))), (7, XX p4_ p2_)]
noncomputable abbrev XW (p0_ : Int) (p1_ : Dcl) : HB :=
 .cells 35 [Ux 0, Ux p0_, Ux 0, Ux p1_.params, Ux p1_.ty.kind, Ux p1_.ty.index, Jl p1_.ty.name, Uv p1_.ty.levels, Uv p1_.ty.kids]
noncomputable abbrev m14_h9 (p0_ : UN) (p1_ : Dcl) (p2_ : Int) (p3_ : List Dcl) : List (Nat × HB) :=
 [(0, .cells 9 [Jl p0_]), (1, Yu), (2, .cells 25 [Ux 0]), (3, .cells 45 (UA p1_)), (4, .cells 45 (UA p1_)), (5, .cells 3 [Ux p2_]), (6, .obj (.deferred (some []))), (7, KD p3_ p2_), (8, XW p2_ p1_)]
noncomputable abbrev Kj (p0_ : Int) (p1_ : Int) (p2_ : Dcl) : HB :=
 .cells 35 [Ux p0_, Ux p1_, Ux 0, Ux p2_.params, Ux p2_.ty.kind, Ux p2_.ty.index, Jl p2_.ty.name, Uv p2_.ty.levels, Uv p2_.ty.kids]
noncomputable abbrev m14_h11 (p0_ : UN) (p1_ : Dcl) (p2_ : Int) (p3_ : List Dcl) (p4_ : Int) : List (Nat × HB) :=
 [(0, .cells 9 [Jl p0_]), (1, Yu), (2, .cells 25 [Ux 0]), (3, .cells 45 (UA p1_)), (4, .cells 45 (UA p1_)), (5, .cells 3 [Ux p2_]), (6, .obj (.deferred (some []))), (7, KD p3_ p2_), (8, Kj p4_ p2_ p1_)]
noncomputable abbrev YY (p0_ : List Dcl) (p1_ : Int) : HB :=
 .loop .busy none [(3, .v (.one (.ptr 0 0))), (4, .v (.one (.ptr 1 0))), (5, .v (.one (.ptr 2 0))), (10, .v (.one (Uv p0_))), (11, .v (.one (Ux (p0_.length : Int)))), (12, .v (.one (Ux p1_))), (19, .v (.one (.fn 49 [(5, 0), (4, 0)])))] 28 #[20, 21] Kd Yg 6
noncomputable abbrev m14_h13 (p0_ : UN) (p1_ : Dcl) (p2_ : Int) (p3_ : List Dcl) (p4_ : Int) : List (Nat × HB) :=
 [(0, .cells 9 [Jl p0_]), (1, Yu), (2, .cells 25 [Ux 0]), (3, .cells 45 (UA p1_)), (4, .cells 45 (UA p1_)), (5, .cells 3 [Ux p2_]), (6, .obj (.deferred (some []))), (7, YY p3_ p2_), (8, Kj p4_ p2_ p1_), (10, Kj p4_ p2_ p1_)]
noncomputable abbrev m14_h14 (p0_ : UN) (p1_ : Dcl) (p2_ : Int) (p3_ : List Dcl) (p4_ : Int) : List (Nat × HB) :=
 [(0, .cells 9 [Jl p0_]), (1, Yu), (2, .cells 25 [Ux 0]), (3, .cells 45 (UA p1_)), (4, .cells 45 (UA p1_)), (5, .cells 3 [Ux p2_]), (6, .obj (.deferred (some []))), (7, KD p3_ p2_), (8, Kj p4_ p2_ p1_), (10, Kj p4_ p2_ p1_)]
noncomputable abbrev m14_h15 (p0_ : UN) (p1_ : Dcl) (p2_ : Int) (p3_ : List Dcl) (p4_ : Int) : List (Nat × HB) :=
 [(0, .cells 9 [Jl p0_]), (1, Yu), (2, .cells 25 [Ux 0]), (3, .cells 45 (UA p1_)), (4, .cells 45 (UA p1_)), (5, .cells 3 [Ux p2_]), (6, .obj (.deferred (some []))), (7, YY p3_ p2_), (8, Kj p4_ p2_ p1_)]
noncomputable abbrev m14_h16 (p0_ : UN) (p1_ : Int) (p2_ : Int) (p3_ : Dcl) (p4_ : List Dcl) : List (Nat × HB) :=
 [(0, .cells 9 [Jl p0_]), (1, Kj p1_ p2_ p3_), (2, .cells 25 [Ux 0]), (3, .cells 45 (UA p3_)), (4, .cells 45 (UA p3_)), (5, .cells 3 [Ux p2_]), (6, .obj (.deferred (some []))), (7, YY p4_ p2_), (8, Kj p1_ p2_ p3_)]
noncomputable abbrev m14_h17 (p0_ : UN) (p1_ : Int) (p2_ : Int) (p3_ : Dcl) (p4_ : List Dcl) : List (Nat × HB) :=
 [(0, .cells 9 [Jl p0_]), (1, Kj p1_ p2_ p3_), (2, .cells 25 [Ux 0]), (3, .cells 45 (UA p3_)), (4, .cells 45 (UA p3_)), (5, .cells 3 [Ux p2_]), (6, .obj (.deferred (some []))), (7, XX p4_ p2_)]
noncomputable abbrev YD (p0_ : Int) (p1_ : Dcl) : HB :=
 .cells 35 [Ux 3, Ux p0_, Ux 0, Ux p1_.params, Ux p1_.ty.kind, Ux p1_.ty.index, Jl p1_.ty.name, Uv p1_.ty.levels, Uv p1_.ty.kids]
noncomputable abbrev m14_h19 (p0_ : UN) (p1_ : Dcl) (p2_ : Int) (p3_ : List Dcl) : List (Nat × HB) :=
 [(0, .cells 9 [Jl p0_]), (1, Yu), (2, .cells 25 [Ux 0]), (3, .cells 45 (UA p1_)), (4, .cells 45 (UA p1_)), (5, .cells 3 [Ux p2_]), (6, .obj (.deferred (some []))), (7, KD p3_ p2_), (8, YD p2_ p1_)]
noncomputable abbrev m14_h20 (p0_ : UN) (p1_ : Dcl) (p2_ : Int) (p3_ : List Dcl) : List (Nat × HB) :=
 [(0, .cells 9 [Jl p0_]), (1, Yu), (2, .cells 25 [Ux 0]), (3, .cells 45 (UA p1_)), (4, .cells 45 (UA p1_)), (5, .cells 3 [Ux p2_]), (6, .obj (.deferred (some []))), (7, YY p3_ p2_), (8, YD p2_ p1_), (9, YD p2_ p1_)]
noncomputable abbrev m14_h21 (p0_ : UN) (p1_ : Dcl) (p2_ : Int) (p3_ : List Dcl) : List (Nat × HB) :=
 [(0, .cells 9 [Jl p0_]), (1, Yu), (2, .cells 25 [Ux 0]), (3, .cells 45 (UA p1_)), (4, .cells 45 (UA p1_)), (5, .cells 3 [Ux p2_]), (6, .obj (.deferred (some []))), (7, KD p3_ p2_), (8, YD p2_ p1_), (9, YD p2_ p1_)]
noncomputable abbrev KP (p0_ : UN) (p1_ : Dcl) (p2_ : Int) (p3_ : List Dcl) : List (Nat × HB) :=
 [(0, .cells 9 [Jl p0_]), (1, Yu), (2, .cells 25 [Ux 0]), (3, .cells 45 (UA p1_)), (4, .cells 45 (UA p1_)), (5, .cells 3 [Ux p2_]), (6, .obj (.deferred (some []))), (7, YY p3_ p2_), (8, YD p2_ p1_)]
noncomputable abbrev m14_h23 (p0_ : UN) (p1_ : Int) (p2_ : Dcl) (p3_ : List Dcl) : List (Nat × HB) :=
 [(0, .cells 9 [Jl p0_]), (1, YD p1_ p2_), (2, .cells 25 [Ux 0]), (3, .cells 45 (UA p2_)), (4, .cells 45 (UA p2_)), (5, .cells 3 [Ux p1_]), (6, .obj (.deferred (some []))), (7, YY p3_ p1_), (8, YD p1_ p2_)]
noncomputable abbrev m14_h24 (p0_ : UN) (p1_ : Dcl) (p2_ : Int) (p3_ : List Dcl) (p4_ : Ctr) : List (Nat × HB) :=
 [(0, .cells 9 [Jl p0_]), (1, Yu), (2, .cells 25 [Ux 0]), (3, .cells 45 (UA p1_)), (4, .cells 45 (UA p1_)), (5, .cells 3 [Ux p2_]), (6, .obj (.deferred (some []))), (7, KD p3_ p2_), (8, YD p2_ p1_), (10, .cells 71 (UA p4_))]
noncomputable abbrev m14_h25 (p0_ : Int) (p1_ : Int) (p2_ : Dcl) (p3_ : Ctr) : HB :=
 .cells 35 [Ux 4, Ux p0_, Ux p1_, Ux p2_.params, Ux p3_.ty.kind, Ux p3_.ty.index, Jl p3_.ty.name, Uv p3_.ty.levels, Uv p3_.ty.kids]
noncomputable abbrev m14_h26 (p0_ : UN) (p1_ : Dcl) (p2_ : Int) (p3_ : List Dcl) (p4_ : Ctr) (p5_ : Int) : List (Nat × HB) :=
 [(0, .cells 9 [Jl p0_]), (1, Yu), (2, .cells 25 [Ux 0]), (3, .cells 45 (UA p1_)), (4, .cells 45 (UA p1_)), (5, .cells 3 [Ux p2_]), (6, .obj (.deferred (some []))), (7, YY p3_ p2_), (8, YD p2_ p1_), (10, .cells 71 (UA p4_)), (11, m14_h25 p2_ p5_ p1_ p4_)]
noncomputable abbrev m14_h27 (p0_ : UN) (p1_ : Dcl) (p2_ : Int) (p3_ : List Dcl) (p4_ : Ctr) (p5_ : Int) : List (Nat × HB) :=
 [(0, .cells 9 [Jl p0_]), (1, Yu), (2, .cells 25 [Ux 0]), (3, .cells 45 (UA p1_)), (4, .cells 45 (UA p1_)), (5, .cells 3 [Ux p2_]), (6, .obj (.deferred (some []))), (7, KD p3_ p2_), (8, YD p2_ p1_), (10, .cells 71 (UA p4_)), (11, m14_h25 p2_ p5_ p1_ p4_)]
noncomputable abbrev m14_h28 (p0_ : UN) (p1_ : Dcl) (p2_ : Int) (p3_ : List Dcl) (p4_ : Ctr) : List (Nat × HB) :=
 [(0, .cells 9 [Jl p0_]), (1, Yu), (2, .cells 25 [Ux 0]), (3, .cells 45 (UA p1_)), (4, .cells 45 (UA p1_)), (5, .cells 3 [Ux p2_]), (6, .obj (.deferred (some []))), (7, YY p3_ p2_), (8, YD p2_ p1_), (10, .cells 71 (UA p4_))]
noncomputable abbrev m14_h29 (p0_ : UN) (p1_ : Int) (p2_ : Int) (p3_ : Dcl) (p4_ : Ctr) (p5_ : List Dcl) : List (Nat × HB) :=
 [(0, .cells 9 [Jl p0_]), (1, m14_h25 p1_ p2_ p3_ p4_), (2, .cells 25 [Ux 0]), (3, .cells 45 (UA p3_)), (4, .cells 45 (UA p3_)), (5, .cells 3 [Ux p1_]), (6, .obj (.deferred (some []))), (7, YY p5_ p1_), (8, YD p1_ p3_), (10, .cells 71 (UA p4_))]
noncomputable abbrev m14_h30 (p0_ : UN) (p1_ : Int) (p2_ : Int) (p3_ : Dcl) (p4_ : Ctr) (p5_ : List Dcl) : List (Nat × HB) :=
 [(0, .cells 9 [Jl p0_]), (1, m14_h25 p1_ p2_ p3_ p4_), (2, .cells 25 [Ux 0]), (3, .cells 45 (UA p3_)), (4, .cells 45 (UA p3_)), (5, .cells 3 [Ux p1_]), (6, .obj (.deferred (some []))), (7, XX p5_ p1_)]
noncomputable abbrev m14_h31 (p0_ : Int) (p1_ : Dcl) : HB :=
 .cells 35 [Ux 5, Ux p0_, Ux 0, Ux p1_.rcr.params, Ux p1_.rcr.ty.kind, Ux p1_.rcr.ty.index, Jl p1_.rcr.ty.name, Uv p1_.rcr.ty.levels, Uv p1_.rcr.ty.kids]
noncomputable abbrev m14_h32 (p0_ : UN) (p1_ : Dcl) (p2_ : Int) (p3_ : List Dcl) : List (Nat × HB) :=
 [(0, .cells 9 [Jl p0_]), (1, Yu), (2, .cells 25 [Ux 0]), (3, .cells 45 (UA p1_)), (4, .cells 45 (UA p1_)), (5, .cells 3 [Ux p2_]), (6, .obj (.deferred (some []))), (7, YY p3_ p2_), (8, YD p2_ p1_), (10, m14_h31 p2_ p1_)]
noncomputable abbrev m14_h33 (p0_ : UN) (p1_ : Dcl) (p2_ : Int) (p3_ : List Dcl) : List (Nat × HB) :=
 [(0, .cells 9 [Jl p0_]), (1, Yu), (2, .cells 25 [Ux 0]), (3, .cells 45 (UA p1_)), (4, .cells 45 (UA p1_)), (5, .cells 3 [Ux p2_]), (6, .obj (.deferred (some []))), (7, KD p3_ p2_), (8, YD p2_ p1_), (10, m14_h31 p2_ p1_)]
noncomputable abbrev m14_h34 (p0_ : UN) (p1_ : Int) (p2_ : Dcl) (p3_ : List Dcl) : List (Nat × HB) :=
 [(0, .cells 9 [Jl p0_]), (1, m14_h31 p1_ p2_), (2, .cells 25 [Ux 0]), (3, .cells 45 (UA p2_)), (4, .cells 45 (UA p2_)), (5, .cells 3 [Ux p1_]), (6, .obj (.deferred (some []))), (7, YY p3_ p1_), (8, YD p1_ p2_)]
noncomputable abbrev m14_h35 (p0_ : UN) (p1_ : Int) (p2_ : Dcl) (p3_ : List Dcl) : List (Nat × HB) :=
 [(0, .cells 9 [Jl p0_]), (1, m14_h31 p1_ p2_), (2, .cells 25 [Ux 0]), (3, .cells 45 (UA p2_)), (4, .cells 45 (UA p2_)), (5, .cells 3 [Ux p1_]), (6, .obj (.deferred (some []))), (7, XX p3_ p1_)]
noncomputable abbrev m14_h36 (p0_ : UN) (p1_ : Int) (p2_ : Dcl) (p3_ : List Dcl) : List (Nat × HB) :=
 [(0, .cells 9 [Jl p0_]), (1, YD p1_ p2_), (2, .cells 25 [Ux 0]), (3, .cells 45 (UA p2_)), (4, .cells 45 (UA p2_)), (5, .cells 3 [Ux p1_]), (6, .obj (.deferred (some []))), (7, XX p3_ p1_)]
noncomputable abbrev m14_h37 (p0_ : UN) (p1_ : Dcl) (p2_ : Int) (p3_ : List Dcl) (p4_ : Fn) : List (Nat × HB) :=
 [(0, .cells 9 [Jl p0_]), (1, Yu), (2, .cells 25 [Ux 0]), (3, .cells 45 (UA p1_)), (4, .cells 45 (UA p1_)), (5, .cells 3 [Ux p2_]), (6, .obj (.deferred (some []))), (7, KD p3_ p2_), (8, XW p2_ p1_), (9, .cells 76 (UA p4_))]
noncomputable abbrev m14_h38 (p0_ : Int) (p1_ : Int) (p2_ : Dcl) (p3_ : Fn) : HB :=
 .cells 35 [Ux 6, Ux p0_, Ux p1_, Ux p2_.params, Ux p3_.ty.kind, Ux p3_.ty.index, Jl p3_.ty.name, Uv p3_.ty.levels, Uv p3_.ty.kids]
noncomputable abbrev m14_h39 (p0_ : UN) (p1_ : Dcl) (p2_ : Int) (p3_ : List Dcl) (p4_ : Fn) (p5_ : Int) : List (Nat × HB) :=
 [(0, .cells 9 [Jl p0_]), (1, Yu), (2, .cells 25 [Ux 0]), (3, .cells 45 (UA p1_)), (4, .cells 45 (UA p1_)), (5, .cells 3 [Ux p2_]), (6, .obj (.deferred (some []))), (7, YY p3_ p2_), (8, XW p2_ p1_), (9, .cells 76 (UA p4_)), (10, m14_h38 p2_ p5_ p1_ p4_)]
noncomputable abbrev m14_h40 (p0_ : UN) (p1_ : Dcl) (p2_ : Int) (p3_ : List Dcl) (p4_ : Fn) (p5_ : Int) : List (Nat × HB) :=
 [(0, .cells 9 [Jl p0_]), (1, Yu), (2, .cells 25 [Ux 0]), (3, .cells 45 (UA p1_)), (4, .cells 45 (UA p1_)), (5, .cells 3 [Ux p2_]), (6, .obj (.deferred (some []))), (7, KD p3_ p2_), (8, XW p2_ p1_), (9, .cells 76 (UA p4_)), (10, m14_h38 p2_ p5_ p1_ p4_)]
noncomputable abbrev m14_h41 (p0_ : UN) (p1_ : Dcl) (p2_ : Int) (p3_ : List Dcl) (p4_ : Fn) : List (Nat × HB) :=
 [(0, .cells 9 [Jl p0_]), (1, Yu), (2, .cells 25 [Ux 0]), (3, .cells 45 (UA p1_)), (4, .cells 45 (UA p1_)), (5, .cells 3 [Ux p2_]), (6, .obj (.deferred (some []))), (7, YY p3_ p2_), (8, XW p2_ p1_), (9, .cells 76 (UA p4_))]
noncomputable abbrev m14_h42 (p0_ : UN) (p1_ : Int) (p2_ : Int) (p3_ : Dcl) (p4_ : Fn) (p5_ : List Dcl) : List (Nat × HB) :=
 [(0, .cells 9 [Jl p0_]), (1, m14_h38 p1_ p2_ p3_ p4_), (2, .cells 25 [Ux 0]), (3, .cells 45 (UA p3_)), (4, .cells 45 (UA p3_)), (5, .cells 3 [Ux p1_]), (6, .obj (.deferred (some []))), (7, YY p5_ p1_), (8, XW p1_ p3_), (9, .cells 76 (UA p4_))]
noncomputable abbrev m14_h43 (p0_ : UN) (p1_ : Int) (p2_ : Int) (p3_ : Dcl) (p4_ : Fn) (p5_ : List Dcl) : List (Nat × HB) :=
 [(0, .cells 9 [Jl p0_]), (1, m14_h38 p1_ p2_ p3_ p4_), (2, .cells 25 [Ux 0]), (3, .cells 45 (UA p3_)), (4, .cells 45 (UA p3_)), (5, .cells 3 [Ux p1_]), (6, .obj (.deferred (some []))), (7, XX p5_ p1_)]
def m14 (a0 : List Dcl) (a1 : UN) : Option (Ent × Int) :=
 Option.bind (QV (m14_l4 a0 a1) J2 0) (Sum.elim (fun (o1 : Unit) => some ((⟨0, 0, 0, 0, (Tm.mk 0 0 ([] : List UInt8) ([] : List Lvl) ([] : List Tm))⟩ : Ent), 9)) (fun o => some o))
set_option maxRecDepth 100000 in
set_option maxHeartbeats 2000000 in
theorem m14_ok (a0 : List Dcl) (a1 : UN) (r : Ent × Int) (h0 : m14 a0 a1 = some r) : Fun Try.prog 14 [.one (Uv a0), .one (Jl a1)] (QD [.agg (UA r.1), .one (Ux r.2)]) := by
 unfold m14 at h0
 refine QY 9 28 Try.func14 rfl en_14 rfl (Um rfl) (fun S w => ?_)
 simp only [J7]
 refine Q5 <| Q0 <| Q9 rfl rfl (Um rfl) (QN rfl) <| Q9 rfl rfl (Um rfl) (Qm ZB rfl) <| Q9 rfl rfl (Um rfl) (Qm z_25 rfl) <| Q4 <| Q3 <| Q5 <| Q5 <| Q0 <| Uf rfl rfl rfl <| Ue rfl rfl rfl (Qx (α := Dcl) Ke rfl (.d _)) <| Uf rfl rfl rfl <| Q4 ?_
 refine Q3 <| Qf ?_
 refine QR 0 (fun (o1 : Unit) => ⟨[(4, .v (.one (.ptr 1 0))), (5, .v (.one (.ptr 2 0)))], [(0, .cells 9 [Jl a1]), (1, Yu), (2, .cells 25 [Ux 0])], [], 3, 28, []⟩) (fun (o1 : Unit) => (some ((⟨0, 0, 0, 0, (Tm.mk 0 0 ([] : List UInt8) ([] : List Lvl) ([] : List Tm))⟩ : Ent), 9)) = some r) ?_ ?_
 refine Qb h0 (fun o2 hl1 h0 => ?_)
 refine QQ (m14_l4 a0 a1) (fun s1 => ⟨[(3, .v (.one (.ptr 0 0))), (4, .v (.one (.ptr 1 0))), (5, .v (.one (.ptr 2 0))), (10, .v (.one (Uv a0))), (11, .v (.one (Ux (a0.length : Int)))), (12, .v (.one (Ux s1)))], [(0, .cells 9 [Jl a1]), (1, Yu), (2, .cells 25 [Ux 0])], [], 3, 28, []⟩) 0 o2 (Ub (Nat.zero_le _) rfl rfl rfl rfl rfl) hl1 (fun s1 n1 oo1 h1 ho1 => ?_)
 unfold m14_l4 at h1
 refine Q5 <| Q0 <| Ue rfl rfl rfl (Q7 rfl rfl rfl) <| Q4 <| Q3 <| Q5 ?_
 refine Qg (b := (decide (s1 < (a0.length : Int)))) rfl (fun c3 => ?_) (fun c3 => ?_)
 replace h1 := Qk c3 h1
 refine Qj <| Q3 <| Q5 <| Qf <| Q5 <| Q0 <| Uf rfl rfl rfl ?_
 refine Qb h1 (fun x4 hx4 h1 => ?_)
 refine Ue rfl rfl rfl (Qq (α := Dcl) Ke rfl (.d _) rfl hx4) <| Ue rfl rfl rfl (Qv (x4 : Dcl) JS rfl) <| Q9 rfl rfl (Um rfl) (Qm Wk rfl) <| Ug rfl rfl rfl <| Qy rfl rfl (QC (x4 : Dcl) JS rfl rfl rfl rfl rfl) <| Q4 <| Q3 <| Q5 <| Q0 <| Ue rfl rfl rfl (QK (x4 : Dcl) JS rfl rfl) <| Uf rfl rfl rfl ?_
 refine Qb h1 (fun y5 h2 h1 => ?_)
 have hc6 : CallM Try.prog 31 [.agg (UA x4), .one (Ux s1)] ⟨m14_h1 a1 x4, [], 4⟩ (QD [.one (.fn 49 [(5, 0), (4, 0)])]) ⟨m14_h2 a1 x4 s1, [], 6⟩ := by
  refine QT ⟨[(4, .v (.one (.fn 49 [(5, 0), (4, 0)])))], m14_h2 a1 x4 s1, [], 6, 6, []⟩ rfl rfl en_31 (Um rfl) rfl (Qz rfl .nil) (fun w0 M V0 Q hv2 hQ2 => ?_)
  simp only [J7]
  refine Q5 <| Q0 <| Q9 rfl rfl (Um rfl) (QN rfl) <| Q9 rfl rfl (Um rfl) (QN rfl) <| Ug rfl rfl rfl <| Q4 <| Q3 <| Q5 <| Q0 <| Ue rfl rfl rfl (ZN rfl rfl) <| Ug rfl rfl rfl <| Q4 <| Q3 <| QA ?_
  have e := Uc h2; subst e
  exact hQ2 _ _ _ (.inr rfl) rfl (Ub (Nat.le_trans hv2 (Um rfl)) rfl rfl rfl rfl rfl)
 refine Q9 rfl rfl (Um rfl) (JM rfl rfl rfl hc6 rfl (hA rfl) Un) <| Q4 <| Q3 <| Qf <| Km (st' := ⟨[(3, .v (.one (.ptr 0 0))), (4, .v (.one (.ptr 1 0))), (5, .v (.one (.ptr 2 0))), (10, .v (.one (Uv a0))), (11, .v (.one (Ux (a0.length : Int)))), (12, .v (.one (Ux s1))), (19, .v (.one (.fn 49 [(5, 0), (4, 0)])))], m14_h2 a1 x4 s1, [], 6, 28, []⟩) (Ub (Nat.zero_le _) rfl rfl rfl rfl rfl) ?_
 refine Qb h1 (fun y10 h2 h1 => ?_)
 have hc9 : CallM Try.prog 49 [.one (.yld 7), .one (.ptr 5 0), .one (.ptr 4 0)] ⟨[(7, .loop .ready none [(3, .v (.one (.ptr 0 0))), (4, .v (.one (.ptr 1 0))), (5, .v (.one (.ptr 2 0))), (10, .v (.one (Uv a0))), (11, .v (.one (Ux (a0.length : Int)))), (12, .v (.one (Ux s1))), (19, .v (.one (.fn 49 [(5, 0), (4, 0)])))] 28 #[20, 21] Kd Yg 6), (6, .obj (.deferred (some []))), (0, .cells 9 [Jl a1]), (1, .cells 35 [Ux 0, Ux 0, Ux 0, Ux 0, Ux 0, Ux 0, Jl ([] : List UInt8), Uw, Uw]), (2, .cells 25 [Ux 0]), (3, .cells 45 (UA x4)), (4, .cells 45 (UA x4)), (5, .cells 3 [Ux s1])], [], 8⟩ (QD []) ⟨(((Sum.elim (fun (y7 : Unit) => (⟨[], Kc a1 x4 s1 a0, [], 9, 98, []⟩ : St)) (fun (y8 : Int × Int × Int × Int × Int × UN × (List Lvl) × (List Tm)) => (⟨[], GH a1 y8 s1 x4 a0, [], 10, 98, []⟩ : St)))) y10).hp, (((Sum.elim (fun (y7 : Unit) => (⟨[], Kc a1 x4 s1 a0, [], 9, 98, []⟩ : St)) (fun (y8 : Int × Int × Int × Int × Int × UN × (List Lvl) × (List Tm)) => (⟨[], GH a1 y8 s1 x4 a0, [], 10, 98, []⟩ : St)))) y10).tk, (((Sum.elim (fun (y7 : Unit) => (⟨[], Kc a1 x4 s1 a0, [], 9, 98, []⟩ : St)) (fun (y8 : Int × Int × Int × Int × Int × UN × (List Lvl) × (List Tm)) => (⟨[], GH a1 y8 s1 x4 a0, [], 10, 98, []⟩ : St)))) y10).nx⟩ := by
  refine CallM.of_bodyS y10 ((Sum.elim (fun (y7 : Unit) => (⟨[], Kc a1 x4 s1 a0, [], 9, 98, []⟩ : St)) (fun (y8 : Int × Int × Int × Int × Int × UN × (List Lvl) × (List Tm)) => (⟨[], GH a1 y8 s1 x4 a0, [], 10, 98, []⟩ : St)))) rfl rfl en_49 (Um rfl) (fun z_ => by cases z_ <;> rfl) (fun z_ => .nil) (fun w0 M V0 Q hv2 hQ2 => ?_)
  simp only [J7]
  refine Q5 <| Q0 <| Ue rfl rfl rfl (Q6 QZ rfl rfl rfl) <| Ue rfl rfl rfl (Q1 Ym rfl) <| Ue rfl rfl rfl (Q6 QZ rfl rfl rfl) <| Ue rfl rfl rfl (Q1 K4 rfl) <| Ue rfl rfl rfl (Qi QW rfl rfl rfl rfl) <| Ue rfl rfl rfl (ZA K9 rfl rfl rfl rfl rfl) <| Q9 rfl rfl (Um rfl) (Qm ZB rfl) <| Qy rfl rfl (Qr Jm rfl rfl rfl rfl (Um rfl) rfl) <| Q4 <| Q3 <| Q5 <| Q0 ?_
  refine Ue rfl rfl rfl (Q1 Yn rfl) <| Ue rfl rfl rfl (Q6 QZ rfl rfl rfl) <| Q4 <| Q3 <| Qf <| Q5 <| Q5 <| Q0 <| Ue rfl rfl rfl (Q7 rfl rfl rfl) <| Ug rfl rfl rfl <| Q4 <| Q3 ?_
  refine QS (fun (v11 : Bool) => ⟨[(0, .v (.one (.yld 7))), (1, .v (.one (.ptr 5 0))), (2, .v (.one (.ptr 4 0))), (4, .v (.one (.ptr 8 0))), (16, .v (.one (Ux x4.kind))), (17, .v (.one (Uy v11)))], m14_h9 a1 x4 s1 a0, [], 9, 98, []⟩) (fun (v11 : Bool) => (m14_k3 v11 x4 a1) = some y10) ?_ ?_
  refine Qb h2 (fun w3_ h3 h2 => ?_)
  refine Qg (b := (x4.kind == 0)) rfl (fun c12 => ?_) (fun c12 => ?_)
  replace h3 := Qk c12 h3
  refine Qj ?_
  have e := Uc h3; subst e
  exact Qc (x4.kind == 0) (Ub (Nat.le_trans hv2 (Um rfl)) rfl rfl rfl rfl rfl) h2
  replace h3 := Ql c12 h3
  refine Q5 <| Q0 <| Ue rfl rfl rfl (Q7 rfl rfl rfl) <| Ug rfl rfl rfl <| Q4 <| Q3 ?_
  refine Qg (b := (x4.kind == 1)) rfl (fun c13 => ?_) (fun c13 => ?_)
  replace h3 := Qk c13 h3
  refine Qj ?_
  have e := Uc h3; subst e
  exact Qc (x4.kind == 1) (Ub (Nat.le_trans hv2 (Um rfl)) rfl rfl rfl rfl rfl) h2
  replace h3 := Ql c13 h3
  refine Q0 <| Ue rfl rfl rfl (Q7 rfl rfl rfl) <| Ug rfl rfl rfl <| Q4 ?_
  have e := Uc h3; subst e
  exact Qc (x4.kind == 2) (Ub (Nat.le_trans hv2 (Um rfl)) rfl rfl rfl rfl rfl) h2
  intro v11 h2
  unfold m14_k3 at h2
  refine Q3 ?_
  refine Qg (b := v11) rfl (fun c14 => ?_) (fun c14 => ?_)
  replace h2 := Qk c14 h2
  refine Q5 <| Q0 <| Q9 rfl rfl (Um rfl) (OpOK.lit3E (α := Int) 0 1 2 W0 U4 rfl rfl (Um rfl) (Um rfl) rfl rfl rfl rfl (.cons (.d _) (.cons (.d _) (.cons (.d _) .nil))) ⟨rfl, rfl, rfl⟩) <| Ue rfl rfl rfl (Q1 Yn rfl) <| Ue rfl rfl rfl (Q6 QZ rfl rfl rfl) ?_
  refine Qb h2 (fun x15 hx15 h2 => ?_)
  refine Ue rfl rfl rfl (Qq (α := Int) W0 rfl (.app _ _) rfl hx15) <| Ue rfl rfl rfl (Js QZ rfl rfl) <| Ue rfl rfl rfl (Q1 ZH rfl) <| Qy rfl rfl (Qr QZ rfl rfl rfl rfl (Um rfl) rfl) <| Q4 <| Q3 <| Q0 <| Uf rfl rfl rfl <| Ue rfl rfl rfl (Q1 Y8 rfl) <| Ue rfl rfl rfl (Q6 JG rfl rfl rfl) <| Ue rfl rfl rfl (Qi Jm rfl rfl rfl rfl) ?_
  refine Qb h2 (fun y18 h3 h2 => ?_)
  have ha19 : ExecOK Try.prog (some 7) Kd ⟨[(3, .v (.one (.ptr 0 0))), (4, .v (.one (.ptr 1 0))), (5, .v (.one (.ptr 2 0))), (10, .v (.one (Uv a0))), (11, .v (.one (Ux (a0.length : Int)))), (12, .v (.one (Ux s1))), (19, .v (.one (.fn 49 [(5, 0), (4, 0)]))), (20, .v (.one (Jl x4.name))), (21, .v (.agg [Ux x15, Ux s1, Ux 0, Ux x4.params, Ux x4.ty.kind, Ux x4.ty.index, Jl x4.ty.name, Uv x4.ty.levels, Uv x4.ty.kids]))], m14_h11 a1 x4 s1 a0 x15, [(9, some ⟨3, 1, (Enc.encL ([0, 1, 2] : List Int)).length, []⟩)], 10, 28, []⟩ .normal ⟨[(3, .v (.one (.ptr 0 0))), (4, .v (.one (.ptr 1 0))), (5, .v (.one (.ptr 2 0))), (8, .v (.one (Jl x4.name))), (9, .v (.one (.ptr 10 0)))], m14_h14 a1 x4 s1 a0 x15, [(9, some ⟨3, 1, (Enc.encL ([0, 1, 2] : List Int)).length, []⟩)], 11, 28, []⟩ := by
   refine QI (fun w0 M V0 ro n Q hv3 hro3 hQn3 => ?_)
   refine Q5 <| Q0 <| Ug rfl rfl rfl <| Q4 <| Q3 <| Q0 <| Q9 rfl rfl (Um rfl) (Qm ZB rfl) <| Qy rfl rfl (Qr Jm rfl rfl rfl rfl (Um rfl) rfl) <| Q4 ?_
   exact Jr hQn3 (Ub (Nat.le_trans hv3 (Um rfl)) rfl rfl rfl rfl rfl)
  have hb20 : ExecOK Try.prog (some 7) Yg ⟨[(3, .v (.one (.ptr 0 0))), (4, .v (.one (.ptr 1 0))), (5, .v (.one (.ptr 2 0))), (8, .v (.one (Jl x4.name))), (9, .v (.one (.ptr 10 0)))], m14_h13 a1 x4 s1 a0 x15, [(9, some ⟨3, 1, (Enc.encL ([0, 1, 2] : List Int)).length, []⟩)], 11, 28, []⟩ ((Sum.elim (fun (_ : Unit) => (.normal : Exit)) (fun (_ : Unit) => (.ret : Exit))) y18) ((Sum.elim (fun (y16 : Unit) => (⟨[], m14_h15 a1 x4 s1 a0 x15, [(9, some ⟨3, 1, (Enc.encL ([0, 1, 2] : List Int)).length, []⟩)], 11, 28, []⟩ : St)) (fun (y17 : Unit) => (⟨[], m14_h16 a1 x15 s1 x4 a0, [(9, some ⟨3, 1, (Enc.encL ([0, 1, 2] : List Int)).length, []⟩)], 11, 28, []⟩ : St))) y18) := by
   refine QI (fun w0 M V0 ro n Q hv3 hro3 hQn3 => ?_)
   refine Qf <| Q5 <| Q0 <| Uf rfl rfl rfl <| Ue rfl rfl rfl (Q6 JG rfl rfl rfl) <| Ue rfl rfl rfl (KL rfl rfl) <| Q4 <| Q3 ?_
   refine Qg (b := (x4.name == a1)) rfl (fun c21 => ?_) (fun c21 => ?_)
   replace h3 := Qk c21 h3
   refine Q5 <| Q0 <| Ue rfl rfl rfl (Qi Jm rfl rfl rfl rfl) <| Qy rfl rfl (Qr Jm rfl rfl rfl rfl (Um rfl) rfl) <| Qy rfl rfl (Qr ZR rfl rfl rfl rfl (Um rfl) rfl) <| Q4 <| Q3 <| QA ?_
   have e := Uc h3; subst e
   exact Jr (e := .ret) (st' := ⟨[], m14_h16 a1 x15 s1 x4 a0, [(9, some ⟨3, 1, (Enc.encL ([0, 1, 2] : List Int)).length, []⟩)], 11, 28, []⟩) hQn3 (Ub (Nat.le_trans hv3 (Um rfl)) rfl rfl rfl rfl rfl)
   replace h3 := Ql c21 h3
   refine Qj <| Qe ?_
   have e := Uc h3; subst e
   exact Jr (e := .normal) (st' := ⟨[], m14_h15 a1 x4 s1 a0 x15, [(9, some ⟨3, 1, (Enc.encL ([0, 1, 2] : List Int)).length, []⟩)], 11, 28, []⟩) hQn3 (Ub (Nat.le_trans hv3 (Um rfl)) rfl rfl rfl rfl rfl)
  refine XM (C := fun q_ => ExecOK Try.prog (some 7) Yg ⟨[(3, .v (.one (.ptr 0 0))), (4, .v (.one (.ptr 1 0))), (5, .v (.one (.ptr 2 0))), (8, .v (.one (Jl x4.name))), (9, .v (.one (.ptr 10 0)))], m14_h13 a1 x4 s1 a0 x15, [(9, some ⟨3, 1, (Enc.encL ([0, 1, 2] : List Int)).length, []⟩)], 11, 28, []⟩ ((Sum.elim (fun (_ : Unit) => (.normal : Exit)) (fun (_ : Unit) => (.ret : Exit))) q_) ((Sum.elim (fun (y16 : Unit) => (⟨[], m14_h15 a1 x4 s1 a0 x15, [(9, some ⟨3, 1, (Enc.encL ([0, 1, 2] : List Int)).length, []⟩)], 11, 28, []⟩ : St)) (fun (y17 : Unit) => (⟨[], m14_h16 a1 x15 s1 x4 a0, [(9, some ⟨3, 1, (Enc.encL ([0, 1, 2] : List Int)).length, []⟩)], 11, 28, []⟩ : St))) q_)) hb20 h2 (fun y16 hb20 h2 => ?_) (fun y17 hb20 h2 => ?_)
  replace hb20 : ExecOK Try.prog (some 7) Yg ⟨[(3, .v (.one (.ptr 0 0))), (4, .v (.one (.ptr 1 0))), (5, .v (.one (.ptr 2 0))), (8, .v (.one (Jl x4.name))), (9, .v (.one (.ptr 10 0)))], m14_h13 a1 x4 s1 a0 x15, [(9, some ⟨3, 1, (Enc.encL ([0, 1, 2] : List Int)).length, []⟩)], 11, 28, []⟩ .normal ⟨[], m14_h15 a1 x4 s1 a0 x15, [(9, some ⟨3, 1, (Enc.encL ([0, 1, 2] : List Int)).length, []⟩)], 11, 28, []⟩ := hb20
  refine Q9 rfl rfl (Um rfl) (Jc (jump := none) rfl rfl rfl rfl rfl (Qw ha19 (fun E hv => (Ub (Nat.le_trans hv (Um rfl)) rfl rfl rfl rfl rfl))) rfl (Qw hb20 (fun E hv => (Ub (Nat.le_trans hv (Um rfl)) rfl rfl rfl rfl rfl))) rfl rfl) ?_
  refine Q4 <| Qe ?_
  have e := Uc h2; subst e
  exact hQ2 _ _ _ (.inl rfl) rfl (show StLe _ _ ⟨[], Kc a1 x4 s1 a0, [], 9, 98, []⟩ from (Ub (Nat.le_trans hv2 (Um rfl)) rfl rfl rfl rfl rfl))
  replace hb20 : ExecOK Try.prog (some 7) Yg ⟨[(3, .v (.one (.ptr 0 0))), (4, .v (.one (.ptr 1 0))), (5, .v (.one (.ptr 2 0))), (8, .v (.one (Jl x4.name))), (9, .v (.one (.ptr 10 0)))], m14_h13 a1 x4 s1 a0 x15, [(9, some ⟨3, 1, (Enc.encL ([0, 1, 2] : List Int)).length, []⟩)], 11, 28, []⟩ .ret ⟨[], m14_h16 a1 x15 s1 x4 a0, [(9, some ⟨3, 1, (Enc.encL ([0, 1, 2] : List Int)).length, []⟩)], 11, 28, []⟩ := hb20
  refine Q9 rfl rfl (Um rfl) (Jc (jump := (some .ret)) rfl rfl rfl rfl rfl (Qw ha19 (fun E hv => (Ub (Nat.le_trans hv (Um rfl)) rfl rfl rfl rfl rfl))) rfl (Qw hb20 (fun E hv => (Ub (Nat.le_trans hv (Um rfl)) rfl rfl rfl rfl rfl))) rfl rfl) ?_
  refine Q4 <| Qe ?_
  have e := Uc h2; subst e
  exact hQ2 _ _ _ (.inl rfl) rfl (show StLe _ _ ⟨[], m14_h17 a1 x15 s1 x4 a0, [], 10, 98, []⟩ from (Ub (Nat.le_trans hv2 (Um rfl)) rfl rfl rfl rfl rfl))
  replace h2 := Ql c14 h2
  refine Q5 <| Q0 <| Ue rfl rfl rfl (Q7 rfl rfl rfl) <| Ug rfl rfl rfl <| Q4 <| Q3 ?_
  refine Qg (b := (x4.kind == 3)) rfl (fun c22 => ?_) (fun c22 => ?_)
  replace h2 := Qk c22 h2
  refine Q5 <| Q0 <| Ue rfl rfl rfl (Q1 ZH rfl) <| Qy rfl rfl (Qr QZ rfl rfl rfl rfl (Um rfl) rfl) <| Q4 <| Q3 <| Q5 <| Q5 <| Q0 <| Uf rfl rfl rfl <| Ue rfl rfl rfl (Q1 Y8 rfl) <| Ue rfl rfl rfl (Q6 JG rfl rfl rfl) <| Ue rfl rfl rfl (Qi Jm rfl rfl rfl rfl) ?_
  refine Qb h2 (fun y25 h3 h2 => ?_)
  have ha26 : ExecOK Try.prog (some 7) Kd ⟨[(3, .v (.one (.ptr 0 0))), (4, .v (.one (.ptr 1 0))), (5, .v (.one (.ptr 2 0))), (10, .v (.one (Uv a0))), (11, .v (.one (Ux (a0.length : Int)))), (12, .v (.one (Ux s1))), (19, .v (.one (.fn 49 [(5, 0), (4, 0)]))), (20, .v (.one (Jl x4.name))), (21, .v (.agg [Ux 3, Ux s1, Ux 0, Ux x4.params, Ux x4.ty.kind, Ux x4.ty.index, Jl x4.ty.name, Uv x4.ty.levels, Uv x4.ty.kids]))], m14_h19 a1 x4 s1 a0, [], 9, 28, []⟩ .normal ⟨[(3, .v (.one (.ptr 0 0))), (4, .v (.one (.ptr 1 0))), (5, .v (.one (.ptr 2 0))), (8, .v (.one (Jl x4.name))), (9, .v (.one (.ptr 9 0)))], m14_h21 a1 x4 s1 a0, [], 10, 28, []⟩ := by
   refine QI (fun w0 M V0 ro n Q hv3 hro3 hQn3 => ?_)
   refine Q5 <| Q0 <| Ug rfl rfl rfl <| Q4 <| Q3 <| Q0 <| Q9 rfl rfl (Um rfl) (Qm ZB rfl) <| Qy rfl rfl (Qr Jm rfl rfl rfl rfl (Um rfl) rfl) <| Q4 ?_
   exact Jr hQn3 (Ub (Nat.le_trans hv3 (Um rfl)) rfl rfl rfl rfl rfl)
  have hb27 : ExecOK Try.prog (some 7) Yg ⟨[(3, .v (.one (.ptr 0 0))), (4, .v (.one (.ptr 1 0))), (5, .v (.one (.ptr 2 0))), (8, .v (.one (Jl x4.name))), (9, .v (.one (.ptr 9 0)))], m14_h20 a1 x4 s1 a0, [], 10, 28, []⟩ ((Sum.elim (fun (_ : Unit) => (.normal : Exit)) (fun (_ : Unit) => (.ret : Exit))) y25) ((Sum.elim (fun (y23 : Unit) => (⟨[], KP a1 x4 s1 a0, [], 10, 28, []⟩ : St)) (fun (y24 : Unit) => (⟨[], m14_h23 a1 s1 x4 a0, [], 10, 28, []⟩ : St))) y25) := by
   refine QI (fun w0 M V0 ro n Q hv3 hro3 hQn3 => ?_)
   refine Qf <| Q5 <| Q0 <| Uf rfl rfl rfl <| Ue rfl rfl rfl (Q6 JG rfl rfl rfl) <| Ue rfl rfl rfl (KL rfl rfl) <| Q4 <| Q3 ?_
   refine Qg (b := (x4.name == a1)) rfl (fun c28 => ?_) (fun c28 => ?_)
   replace h3 := Qk c28 h3
   refine Q5 <| Q0 <| Ue rfl rfl rfl (Qi Jm rfl rfl rfl rfl) <| Qy rfl rfl (Qr Jm rfl rfl rfl rfl (Um rfl) rfl) <| Qy rfl rfl (Qr ZR rfl rfl rfl rfl (Um rfl) rfl) <| Q4 <| Q3 <| QA ?_
   have e := Uc h3; subst e
   exact Jr (e := .ret) (st' := ⟨[], m14_h23 a1 s1 x4 a0, [], 10, 28, []⟩) hQn3 (Ub (Nat.le_trans hv3 (Um rfl)) rfl rfl rfl rfl rfl)
   replace h3 := Ql c28 h3
   refine Qj <| Qe ?_
   have e := Uc h3; subst e
   exact Jr (e := .normal) (st' := ⟨[], KP a1 x4 s1 a0, [], 10, 28, []⟩) hQn3 (Ub (Nat.le_trans hv3 (Um rfl)) rfl rfl rfl rfl rfl)
  refine XM (C := fun q_ => ExecOK Try.prog (some 7) Yg ⟨[(3, .v (.one (.ptr 0 0))), (4, .v (.one (.ptr 1 0))), (5, .v (.one (.ptr 2 0))), (8, .v (.one (Jl x4.name))), (9, .v (.one (.ptr 9 0)))], m14_h20 a1 x4 s1 a0, [], 10, 28, []⟩ ((Sum.elim (fun (_ : Unit) => (.normal : Exit)) (fun (_ : Unit) => (.ret : Exit))) q_) ((Sum.elim (fun (y23 : Unit) => (⟨[], KP a1 x4 s1 a0, [], 10, 28, []⟩ : St)) (fun (y24 : Unit) => (⟨[], m14_h23 a1 s1 x4 a0, [], 10, 28, []⟩ : St))) q_)) hb27 h2 (fun y23 hb27 h2 => ?_) (fun y24 hb27 h2 => ?_)
  replace hb27 : ExecOK Try.prog (some 7) Yg ⟨[(3, .v (.one (.ptr 0 0))), (4, .v (.one (.ptr 1 0))), (5, .v (.one (.ptr 2 0))), (8, .v (.one (Jl x4.name))), (9, .v (.one (.ptr 9 0)))], m14_h20 a1 x4 s1 a0, [], 10, 28, []⟩ .normal ⟨[], KP a1 x4 s1 a0, [], 10, 28, []⟩ := hb27
  refine Q9 rfl rfl (Um rfl) (Jc (jump := none) rfl rfl rfl rfl rfl (Qw ha26 (fun E hv => (Ub (Nat.le_trans hv (Um rfl)) rfl rfl rfl rfl rfl))) rfl (Qw hb27 (fun E hv => (Ub (Nat.le_trans hv (Um rfl)) rfl rfl rfl rfl rfl))) rfl rfl) ?_
  refine Ue rfl rfl rfl (Jb rfl) <| Q4 <| Q3 ?_
  refine Qg rfl (fun h => nomatch h) (fun _ => ?_)
  refine Qj <| Q3 <| Q5 <| Q5 <| Q0 <| Ue rfl rfl rfl (Q1 Yc rfl) <| Ue rfl rfl rfl (Q6 Zc rfl rfl rfl) <| Ue rfl rfl rfl (Qx (α := Ctr) Yv rfl (.d _)) <| Uf rfl rfl rfl <| Q4 <| Q3 <| Qf ?_
  refine QR 1 (fun (o29 : Unit) => ⟨[(0, .v (.one (.yld 7))), (1, .v (.one (.ptr 5 0))), (2, .v (.one (.ptr 4 0)))], m14_h19 a1 x4 s1 a0, [], 10, 98, []⟩) (fun (o29 : Unit) => (m14_k1 x4 a1) = some y10) ?_ ?_
  refine Qb h2 (fun o30 hl3 h2 => ?_)
  refine QQ (m14_l0 x4 a1) (fun s3 => ⟨[(0, .v (.one (.yld 7))), (1, .v (.one (.ptr 5 0))), (2, .v (.one (.ptr 4 0))), (42, .v (.one (Uv x4.ctors))), (43, .v (.one (Ux (x4.ctors.length : Int)))), (44, .v (.one (Ux s3)))], m14_h19 a1 x4 s1 a0, [], 10, 98, []⟩) 0 o30 (Ub (Nat.le_trans hv2 (Um rfl)) rfl rfl rfl rfl rfl) hl3 (fun s3 n3 oo3 h3 ho3 => ?_)
  unfold m14_l0 at h3
  refine Q5 <| Q0 <| Ue rfl rfl rfl (Q7 rfl rfl rfl) <| Q4 <| Q3 <| Q5 ?_
  refine Qg (b := (decide (s3 < (x4.ctors.length : Int)))) rfl (fun c31 => ?_) (fun c31 => ?_)
  replace h3 := Qk c31 h3
  refine Qj <| Q3 <| Q5 <| Qf <| Q5 <| Q0 <| Uf rfl rfl rfl ?_
  refine Qb h3 (fun x32 hx32 h3 => ?_)
  refine Ue rfl rfl rfl (Qq (α := Ctr) Yv rfl (.d _) rfl hx32) <| Ue rfl rfl rfl (Qv (x32 : Ctr) ZQ rfl) <| Q9 rfl rfl (Um rfl) (Qm Wj rfl) <| Ug rfl rfl rfl <| Qy rfl rfl (QC (x32 : Ctr) ZQ rfl rfl rfl rfl rfl) <| Q4 <| Q3 <| Q5 <| Q0 <| Uf rfl rfl rfl <| Ue rfl rfl rfl (Q1 Kk rfl) <| Ue rfl rfl rfl (Q6 JG rfl rfl rfl) <| Ue rfl rfl rfl (Q6 QZ rfl rfl rfl) <| Uf rfl rfl rfl ?_
  refine Ue rfl rfl rfl (Q1 Ym rfl) <| Ue rfl rfl rfl (Q6 QZ rfl rfl rfl) <| Ue rfl rfl rfl (Q1 K2 rfl) <| Ue rfl rfl rfl (Qi QW rfl rfl rfl rfl) <| Ue rfl rfl rfl (Y1 K9 rfl (.cons rfl (.cons rfl (.cons rfl (.cons rfl (.cons rfl .nil))))) rfl) ?_
  refine Qb h3 (fun y35 h4 h3 => ?_)
  have ha36 : ExecOK Try.prog (some 7) Kd ⟨[(3, .v (.one (.ptr 0 0))), (4, .v (.one (.ptr 1 0))), (5, .v (.one (.ptr 2 0))), (10, .v (.one (Uv a0))), (11, .v (.one (Ux (a0.length : Int)))), (12, .v (.one (Ux s1))), (19, .v (.one (.fn 49 [(5, 0), (4, 0)]))), (20, .v (.one (Jl x32.name))), (21, .v (.agg [Ux 4, Ux s1, Ux s3, Ux x4.params, Ux x32.ty.kind, Ux x32.ty.index, Jl x32.ty.name, Uv x32.ty.levels, Uv x32.ty.kids]))], m14_h24 a1 x4 s1 a0 x32, [], 11, 28, []⟩ .normal ⟨[(3, .v (.one (.ptr 0 0))), (4, .v (.one (.ptr 1 0))), (5, .v (.one (.ptr 2 0))), (8, .v (.one (Jl x32.name))), (9, .v (.one (.ptr 11 0)))], m14_h27 a1 x4 s1 a0 x32 s3, [], 12, 28, []⟩ := by
   refine QI (fun w0 M V0 ro n Q hv4 hro4 hQn4 => ?_)
   refine Q5 <| Q0 <| Ug rfl rfl rfl <| Q4 <| Q3 <| Q0 <| Q9 rfl rfl (Um rfl) (Qm ZB rfl) <| Qy rfl rfl (Qr Jm rfl rfl rfl rfl (Um rfl) rfl) <| Q4 ?_
   exact Jr hQn4 (Ub (Nat.le_trans hv4 (Um rfl)) rfl rfl rfl rfl rfl)
  have hb37 : ExecOK Try.prog (some 7) Yg ⟨[(3, .v (.one (.ptr 0 0))), (4, .v (.one (.ptr 1 0))), (5, .v (.one (.ptr 2 0))), (8, .v (.one (Jl x32.name))), (9, .v (.one (.ptr 11 0)))], m14_h26 a1 x4 s1 a0 x32 s3, [], 12, 28, []⟩ ((Sum.elim (fun (_ : Unit) => (.normal : Exit)) (fun (_ : Unit) => (.ret : Exit))) y35) ((Sum.elim (fun (y33 : Unit) => (⟨[], m14_h28 a1 x4 s1 a0 x32, [], 12, 28, []⟩ : St)) (fun (y34 : Unit) => (⟨[], m14_h29 a1 s1 s3 x4 x32 a0, [], 12, 28, []⟩ : St))) y35) := by
   refine QI (fun w0 M V0 ro n Q hv4 hro4 hQn4 => ?_)
   refine Qf <| Q5 <| Q0 <| Uf rfl rfl rfl <| Ue rfl rfl rfl (Q6 JG rfl rfl rfl) <| Ue rfl rfl rfl (KL rfl rfl) <| Q4 <| Q3 ?_
   refine Qg (b := (x32.name == a1)) rfl (fun c38 => ?_) (fun c38 => ?_)
   replace h4 := Qk c38 h4
   refine Q5 <| Q0 <| Ue rfl rfl rfl (Qi Jm rfl rfl rfl rfl) <| Qy rfl rfl (Qr Jm rfl rfl rfl rfl (Um rfl) rfl) <| Qy rfl rfl (Qr ZR rfl rfl rfl rfl (Um rfl) rfl) <| Q4 <| Q3 <| QA ?_
   have e := Uc h4; subst e
   exact Jr (e := .ret) (st' := ⟨[], m14_h29 a1 s1 s3 x4 x32 a0, [], 12, 28, []⟩) hQn4 (Ub (Nat.le_trans hv4 (Um rfl)) rfl rfl rfl rfl rfl)
   replace h4 := Ql c38 h4
   refine Qj <| Qe ?_
   have e := Uc h4; subst e
   exact Jr (e := .normal) (st' := ⟨[], m14_h28 a1 x4 s1 a0 x32, [], 12, 28, []⟩) hQn4 (Ub (Nat.le_trans hv4 (Um rfl)) rfl rfl rfl rfl rfl)
  refine XM (C := fun q_ => ExecOK Try.prog (some 7) Yg ⟨[(3, .v (.one (.ptr 0 0))), (4, .v (.one (.ptr 1 0))), (5, .v (.one (.ptr 2 0))), (8, .v (.one (Jl x32.name))), (9, .v (.one (.ptr 11 0)))], m14_h26 a1 x4 s1 a0 x32 s3, [], 12, 28, []⟩ ((Sum.elim (fun (_ : Unit) => (.normal : Exit)) (fun (_ : Unit) => (.ret : Exit))) q_) ((Sum.elim (fun (y33 : Unit) => (⟨[], m14_h28 a1 x4 s1 a0 x32, [], 12, 28, []⟩ : St)) (fun (y34 : Unit) => (⟨[], m14_h29 a1 s1 s3 x4 x32 a0, [], 12, 28, []⟩ : St))) q_)) hb37 h3 (fun y33 hb37 h3 => ?_) (fun y34 hb37 h3 => ?_)
  replace hb37 : ExecOK Try.prog (some 7) Yg ⟨[(3, .v (.one (.ptr 0 0))), (4, .v (.one (.ptr 1 0))), (5, .v (.one (.ptr 2 0))), (8, .v (.one (Jl x32.name))), (9, .v (.one (.ptr 11 0)))], m14_h26 a1 x4 s1 a0 x32 s3, [], 12, 28, []⟩ .normal ⟨[], m14_h28 a1 x4 s1 a0 x32, [], 12, 28, []⟩ := hb37
  refine Q9 rfl rfl (Um rfl) (Jc (jump := none) rfl rfl rfl rfl rfl (Qw ha36 (fun E hv => (Ub (Nat.le_trans hv (Um rfl)) rfl rfl rfl rfl rfl))) rfl (Qw hb37 (fun E hv => (Ub (Nat.le_trans hv (Um rfl)) rfl rfl rfl rfl rfl))) rfl rfl) ?_
  refine Ue rfl rfl rfl (Jb rfl) <| Q4 <| Q3 ?_
  refine Qg rfl (fun h => nomatch h) (fun _ => ?_)
  refine Qj <| Qe <| Q3 <| Q0 <| Ue rfl rfl rfl (Q7 rfl rfl rfl) <| Uf rfl rfl rfl <| Q4 ?_
  have e := Uc h3; subst e
  refine QM (Jk (s3 + 1)) (Ub (Nat.le_trans hv2 (Um rfl)) rfl rfl rfl rfl rfl) ho3
  replace hb37 : ExecOK Try.prog (some 7) Yg ⟨[(3, .v (.one (.ptr 0 0))), (4, .v (.one (.ptr 1 0))), (5, .v (.one (.ptr 2 0))), (8, .v (.one (Jl x32.name))), (9, .v (.one (.ptr 11 0)))], m14_h26 a1 x4 s1 a0 x32 s3, [], 12, 28, []⟩ .ret ⟨[], m14_h29 a1 s1 s3 x4 x32 a0, [], 12, 28, []⟩ := hb37
  refine Q9 rfl rfl (Um rfl) (Jc (jump := (some .ret)) rfl rfl rfl rfl rfl (Qw ha36 (fun E hv => (Ub (Nat.le_trans hv (Um rfl)) rfl rfl rfl rfl rfl))) rfl (Qw hb37 (fun E hv => (Ub (Nat.le_trans hv (Um rfl)) rfl rfl rfl rfl rfl))) rfl rfl) ?_
  refine Ue rfl rfl rfl (Jb rfl) <| Q4 <| Q3 ?_
  refine Qg rfl (fun _ => ?_) (fun h => nomatch h)
  refine QA ?_
  have e := Uc h3; subst e
  have e_ : _ = _ := ho3
  subst e_
  try dsimp only [Sum.elim_inl, Sum.elim_inr] at h2
  have e := Uc h2; subst e
  exact hQ2 _ _ _ (.inr rfl) rfl (show StLe _ _ ⟨[], m14_h30 a1 s1 s3 x4 x32 a0, [], 10, 98, []⟩ from (Ub (Nat.le_trans hv2 (Um rfl)) rfl rfl rfl rfl rfl))
  replace h3 := Ql c31 h3
  refine J1 <| Qn <| Qn ?_
  have e := Uc h3; subst e
  have e_ : _ = _ := ho3
  subst e_
  exact QP () (Ub (Nat.le_trans hv2 (Um rfl)) rfl rfl rfl rfl rfl) h2
  intro o29 h2
  unfold m14_k1 at h2
  refine QF <| Q3 <| Q0 <| Uf rfl rfl rfl <| Ue rfl rfl rfl (Q1 Y8 rfl) <| Ue rfl rfl rfl (Q6 JG rfl rfl rfl) ?_
  refine JC h2 (fun g39 h2 => ?_)
  refine Ue rfl rfl rfl (Gr rfl rfl g39) <| Ue rfl rfl rfl (Q6 QZ rfl rfl rfl) <| Ue rfl rfl rfl (Q1 JO rfl) <| Ue rfl rfl rfl (Q1 KU rfl) <| Ue rfl rfl rfl (Q6 QZ rfl rfl rfl) <| Ue rfl rfl rfl (Q1 JO rfl) <| Ue rfl rfl rfl (Q1 Kl rfl) <| Ue rfl rfl rfl (Qi QW rfl rfl rfl rfl) <| Ue rfl rfl rfl (Y1 K9 rfl (.cons rfl (.cons rfl (.cons rfl (.cons rfl .nil)))) rfl) ?_
  refine Qb h2 (fun y42 h3 h2 => ?_)
  have ha43 : ExecOK Try.prog (some 7) Kd ⟨[(3, .v (.one (.ptr 0 0))), (4, .v (.one (.ptr 1 0))), (5, .v (.one (.ptr 2 0))), (10, .v (.one (Uv a0))), (11, .v (.one (Ux (a0.length : Int)))), (12, .v (.one (Ux s1))), (19, .v (.one (.fn 49 [(5, 0), (4, 0)]))), (20, .v (.one (Jl (x4.name ++ ([46, 114, 101, 99] : List UInt8))))), (21, .v (.agg [Ux 5, Ux s1, Ux 0, Ux x4.rcr.params, Ux x4.rcr.ty.kind, Ux x4.rcr.ty.index, Jl x4.rcr.ty.name, Uv x4.rcr.ty.levels, Uv x4.rcr.ty.kids]))], m14_h19 a1 x4 s1 a0, [], 10, 28, []⟩ .normal ⟨[(3, .v (.one (.ptr 0 0))), (4, .v (.one (.ptr 1 0))), (5, .v (.one (.ptr 2 0))), (8, .v (.one (Jl (x4.name ++ ([46, 114, 101, 99] : List UInt8))))), (9, .v (.one (.ptr 10 0)))], m14_h33 a1 x4 s1 a0, [], 11, 28, []⟩ := by
   refine QI (fun w0 M V0 ro n Q hv3 hro3 hQn3 => ?_)
   refine Q5 <| Q0 <| Ug rfl rfl rfl <| Q4 <| Q3 <| Q0 <| Q9 rfl rfl (Um rfl) (Qm ZB rfl) <| Qy rfl rfl (Qr Jm rfl rfl rfl rfl (Um rfl) rfl) <| Q4 ?_
   exact Jr hQn3 (Ub (Nat.le_trans hv3 (Um rfl)) rfl rfl rfl rfl rfl)
  have hb44 : ExecOK Try.prog (some 7) Yg ⟨[(3, .v (.one (.ptr 0 0))), (4, .v (.one (.ptr 1 0))), (5, .v (.one (.ptr 2 0))), (8, .v (.one (Jl (x4.name ++ ([46, 114, 101, 99] : List UInt8))))), (9, .v (.one (.ptr 10 0)))], m14_h32 a1 x4 s1 a0, [], 11, 28, []⟩ ((Sum.elim (fun (_ : Unit) => (.normal : Exit)) (fun (_ : Unit) => (.ret : Exit))) y42) ((Sum.elim (fun (y40 : Unit) => (⟨[], KP a1 x4 s1 a0, [], 11, 28, []⟩ : St)) (fun (y41 : Unit) => (⟨[], m14_h34 a1 s1 x4 a0, [], 11, 28, []⟩ : St))) y42) := by
   refine QI (fun w0 M V0 ro n Q hv3 hro3 hQn3 => ?_)
   refine Qf <| Q5 <| Q0 <| Uf rfl rfl rfl <| Ue rfl rfl rfl (Q6 JG rfl rfl rfl) <| Ue rfl rfl rfl (KL rfl rfl) <| Q4 <| Q3 ?_
   refine Qg (b := ((x4.name ++ ([46, 114, 101, 99] : List UInt8)) == a1)) rfl (fun c45 => ?_) (fun c45 => ?_)
   replace h3 := Qk c45 h3
   refine Q5 <| Q0 <| Ue rfl rfl rfl (Qi Jm rfl rfl rfl rfl) <| Qy rfl rfl (Qr Jm rfl rfl rfl rfl (Um rfl) rfl) <| Qy rfl rfl (Qr ZR rfl rfl rfl rfl (Um rfl) rfl) <| Q4 <| Q3 <| QA ?_
   have e := Uc h3; subst e
   exact Jr (e := .ret) (st' := ⟨[], m14_h34 a1 s1 x4 a0, [], 11, 28, []⟩) hQn3 (Ub (Nat.le_trans hv3 (Um rfl)) rfl rfl rfl rfl rfl)
   replace h3 := Ql c45 h3
   refine Qj <| Qe ?_
   have e := Uc h3; subst e
   exact Jr (e := .normal) (st' := ⟨[], KP a1 x4 s1 a0, [], 11, 28, []⟩) hQn3 (Ub (Nat.le_trans hv3 (Um rfl)) rfl rfl rfl rfl rfl)
  refine XM (C := fun q_ => ExecOK Try.prog (some 7) Yg ⟨[(3, .v (.one (.ptr 0 0))), (4, .v (.one (.ptr 1 0))), (5, .v (.one (.ptr 2 0))), (8, .v (.one (Jl (x4.name ++ ([46, 114, 101, 99] : List UInt8))))), (9, .v (.one (.ptr 10 0)))], m14_h32 a1 x4 s1 a0, [], 11, 28, []⟩ ((Sum.elim (fun (_ : Unit) => (.normal : Exit)) (fun (_ : Unit) => (.ret : Exit))) q_) ((Sum.elim (fun (y40 : Unit) => (⟨[], KP a1 x4 s1 a0, [], 11, 28, []⟩ : St)) (fun (y41 : Unit) => (⟨[], m14_h34 a1 s1 x4 a0, [], 11, 28, []⟩ : St))) q_)) hb44 h2 (fun y40 hb44 h2 => ?_) (fun y41 hb44 h2 => ?_)
  replace hb44 : ExecOK Try.prog (some 7) Yg ⟨[(3, .v (.one (.ptr 0 0))), (4, .v (.one (.ptr 1 0))), (5, .v (.one (.ptr 2 0))), (8, .v (.one (Jl (x4.name ++ ([46, 114, 101, 99] : List UInt8))))), (9, .v (.one (.ptr 10 0)))], m14_h32 a1 x4 s1 a0, [], 11, 28, []⟩ .normal ⟨[], KP a1 x4 s1 a0, [], 11, 28, []⟩ := hb44
  refine Q9 rfl rfl (Um rfl) (Jc (jump := none) rfl rfl rfl rfl rfl (Qw ha43 (fun E hv => (Ub (Nat.le_trans hv (Um rfl)) rfl rfl rfl rfl rfl))) rfl (Qw hb44 (fun E hv => (Ub (Nat.le_trans hv (Um rfl)) rfl rfl rfl rfl rfl))) rfl rfl) ?_
  refine Q4 <| Qe ?_
  have e := Uc h2; subst e
  exact hQ2 _ _ _ (.inl rfl) rfl (show StLe _ _ ⟨[], Kc a1 x4 s1 a0, [], 9, 98, []⟩ from (Ub (Nat.le_trans hv2 (Um rfl)) rfl rfl rfl rfl rfl))
  replace hb44 : ExecOK Try.prog (some 7) Yg ⟨[(3, .v (.one (.ptr 0 0))), (4, .v (.one (.ptr 1 0))), (5, .v (.one (.ptr 2 0))), (8, .v (.one (Jl (x4.name ++ ([46, 114, 101, 99] : List UInt8))))), (9, .v (.one (.ptr 10 0)))], m14_h32 a1 x4 s1 a0, [], 11, 28, []⟩ .ret ⟨[], m14_h34 a1 s1 x4 a0, [], 11, 28, []⟩ := hb44
  refine Q9 rfl rfl (Um rfl) (Jc (jump := (some .ret)) rfl rfl rfl rfl rfl (Qw ha43 (fun E hv => (Ub (Nat.le_trans hv (Um rfl)) rfl rfl rfl rfl rfl))) rfl (Qw hb44 (fun E hv => (Ub (Nat.le_trans hv (Um rfl)) rfl rfl rfl rfl rfl))) rfl rfl) ?_
  refine Q4 <| Qe ?_
  have e := Uc h2; subst e
  exact hQ2 _ _ _ (.inl rfl) rfl (show StLe _ _ ⟨[], m14_h35 a1 s1 x4 a0, [], 10, 98, []⟩ from (Ub (Nat.le_trans hv2 (Um rfl)) rfl rfl rfl rfl rfl))
  replace hb27 : ExecOK Try.prog (some 7) Yg ⟨[(3, .v (.one (.ptr 0 0))), (4, .v (.one (.ptr 1 0))), (5, .v (.one (.ptr 2 0))), (8, .v (.one (Jl x4.name))), (9, .v (.one (.ptr 9 0)))], m14_h20 a1 x4 s1 a0, [], 10, 28, []⟩ .ret ⟨[], m14_h23 a1 s1 x4 a0, [], 10, 28, []⟩ := hb27
  refine Q9 rfl rfl (Um rfl) (Jc (jump := (some .ret)) rfl rfl rfl rfl rfl (Qw ha26 (fun E hv => (Ub (Nat.le_trans hv (Um rfl)) rfl rfl rfl rfl rfl))) rfl (Qw hb27 (fun E hv => (Ub (Nat.le_trans hv (Um rfl)) rfl rfl rfl rfl rfl))) rfl rfl) ?_
  refine Ue rfl rfl rfl (Jb rfl) <| Q4 <| Q3 ?_
  refine Qg rfl (fun _ => ?_) (fun h => nomatch h)
  refine QA ?_
  have e := Uc h2; subst e
  exact hQ2 _ _ _ (.inr rfl) rfl (show StLe _ _ ⟨[], m14_h36 a1 s1 x4 a0, [], 10, 98, []⟩ from (Ub (Nat.le_trans hv2 (Um rfl)) rfl rfl rfl rfl rfl))
  replace h2 := Ql c22 h2
  refine Q5 <| Q0 <| Ue rfl rfl rfl (Q7 rfl rfl rfl) <| Ug rfl rfl rfl <| Q4 <| Q3 ?_
  refine Qg (b := (x4.kind == 4)) rfl (fun c46 => ?_) (fun c46 => ?_)
  replace h2 := Qk c46 h2
  refine Q5 <| Q0 <| Ue rfl rfl rfl (Q1 Y2 rfl) <| Ue rfl rfl rfl (Q6 YZ rfl rfl rfl) <| Ue rfl rfl rfl (Qx (α := Fn) Yk rfl (.d _)) <| Uf rfl rfl rfl <| Q4 <| Q3 <| Qf ?_
  refine QR 3 (fun (o47 : Unit) => ⟨[], m14_h9 a1 x4 s1 a0, [], 9, 98, []⟩) (fun (o47 : Unit) => (some (.inl ())) = some y10) ?_ ?_
  refine Qb h2 (fun o48 hl3 h2 => ?_)
  refine QQ (m14_l2 x4 a1) (fun s3 => ⟨[(0, .v (.one (.yld 7))), (1, .v (.one (.ptr 5 0))), (2, .v (.one (.ptr 4 0))), (78, .v (.one (Uv x4.funs))), (79, .v (.one (Ux (x4.funs.length : Int)))), (80, .v (.one (Ux s3)))], m14_h9 a1 x4 s1 a0, [], 9, 98, []⟩) 0 o48 (Ub (Nat.le_trans hv2 (Um rfl)) rfl rfl rfl rfl rfl) hl3 (fun s3 n3 oo3 h3 ho3 => ?_)
  unfold m14_l2 at h3
  refine Q5 <| Q0 <| Ue rfl rfl rfl (Q7 rfl rfl rfl) <| Q4 <| Q3 <| Q5 ?_
  refine Qg (b := (decide (s3 < (x4.funs.length : Int)))) rfl (fun c49 => ?_) (fun c49 => ?_)
  replace h3 := Qk c49 h3
  refine Qj <| Q3 <| Q5 <| Qf <| Q5 <| Q0 <| Uf rfl rfl rfl ?_
  refine Qb h3 (fun x50 hx50 h3 => ?_)
  refine Ue rfl rfl rfl (Qq (α := Fn) Yk rfl (.d _) rfl hx50) <| Ue rfl rfl rfl (Qv (x50 : Fn) Zx rfl) <| Q9 rfl rfl (Um rfl) (Qm Wi rfl) <| Ug rfl rfl rfl <| Qy rfl rfl (QC (x50 : Fn) Zx rfl rfl rfl rfl rfl) <| Q4 <| Q3 <| Q5 <| Q0 <| Uf rfl rfl rfl <| Ue rfl rfl rfl (Q1 Gp rfl) <| Ue rfl rfl rfl (Q6 JG rfl rfl rfl) <| Ue rfl rfl rfl (Q6 QZ rfl rfl rfl) <| Uf rfl rfl rfl ?_
  refine Ue rfl rfl rfl (Q1 Ym rfl) <| Ue rfl rfl rfl (Q6 QZ rfl rfl rfl) <| Ue rfl rfl rfl (Q1 KT rfl) <| Ue rfl rfl rfl (Qi QW rfl rfl rfl rfl) <| Ue rfl rfl rfl (Y1 K9 rfl (.cons rfl (.cons rfl (.cons rfl (.cons rfl (.cons rfl .nil))))) rfl) ?_
  refine Qb h3 (fun y53 h4 h3 => ?_)
  have ha54 : ExecOK Try.prog (some 7) Kd ⟨[(3, .v (.one (.ptr 0 0))), (4, .v (.one (.ptr 1 0))), (5, .v (.one (.ptr 2 0))), (10, .v (.one (Uv a0))), (11, .v (.one (Ux (a0.length : Int)))), (12, .v (.one (Ux s1))), (19, .v (.one (.fn 49 [(5, 0), (4, 0)]))), (20, .v (.one (Jl x50.name))), (21, .v (.agg [Ux 6, Ux s1, Ux s3, Ux x4.params, Ux x50.ty.kind, Ux x50.ty.index, Jl x50.ty.name, Uv x50.ty.levels, Uv x50.ty.kids]))], m14_h37 a1 x4 s1 a0 x50, [], 10, 28, []⟩ .normal ⟨[(3, .v (.one (.ptr 0 0))), (4, .v (.one (.ptr 1 0))), (5, .v (.one (.ptr 2 0))), (8, .v (.one (Jl x50.name))), (9, .v (.one (.ptr 10 0)))], m14_h40 a1 x4 s1 a0 x50 s3, [], 11, 28, []⟩ := by
   refine QI (fun w0 M V0 ro n Q hv4 hro4 hQn4 => ?_)
   refine Q5 <| Q0 <| Ug rfl rfl rfl <| Q4 <| Q3 <| Q0 <| Q9 rfl rfl (Um rfl) (Qm ZB rfl) <| Qy rfl rfl (Qr Jm rfl rfl rfl rfl (Um rfl) rfl) <| Q4 ?_
   exact Jr hQn4 (Ub (Nat.le_trans hv4 (Um rfl)) rfl rfl rfl rfl rfl)
  have hb55 : ExecOK Try.prog (some 7) Yg ⟨[(3, .v (.one (.ptr 0 0))), (4, .v (.one (.ptr 1 0))), (5, .v (.one (.ptr 2 0))), (8, .v (.one (Jl x50.name))), (9, .v (.one (.ptr 10 0)))], m14_h39 a1 x4 s1 a0 x50 s3, [], 11, 28, []⟩ ((Sum.elim (fun (_ : Unit) => (.normal : Exit)) (fun (_ : Unit) => (.ret : Exit))) y53) ((Sum.elim (fun (y51 : Unit) => (⟨[], m14_h41 a1 x4 s1 a0 x50, [], 11, 28, []⟩ : St)) (fun (y52 : Unit) => (⟨[], m14_h42 a1 s1 s3 x4 x50 a0, [], 11, 28, []⟩ : St))) y53) := by
   refine QI (fun w0 M V0 ro n Q hv4 hro4 hQn4 => ?_)
   refine Qf <| Q5 <| Q0 <| Uf rfl rfl rfl <| Ue rfl rfl rfl (Q6 JG rfl rfl rfl) <| Ue rfl rfl rfl (KL rfl rfl) <| Q4 <| Q3 ?_
   refine Qg (b := (x50.name == a1)) rfl (fun c56 => ?_) (fun c56 => ?_)
   replace h4 := Qk c56 h4
   refine Q5 <| Q0 <| Ue rfl rfl rfl (Qi Jm rfl rfl rfl rfl) <| Qy rfl rfl (Qr Jm rfl rfl rfl rfl (Um rfl) rfl) <| Qy rfl rfl (Qr ZR rfl rfl rfl rfl (Um rfl) rfl) <| Q4 <| Q3 <| QA ?_
   have e := Uc h4; subst e
   exact Jr (e := .ret) (st' := ⟨[], m14_h42 a1 s1 s3 x4 x50 a0, [], 11, 28, []⟩) hQn4 (Ub (Nat.le_trans hv4 (Um rfl)) rfl rfl rfl rfl rfl)
   replace h4 := Ql c56 h4
   refine Qj <| Qe ?_
   have e := Uc h4; subst e
   exact Jr (e := .normal) (st' := ⟨[], m14_h41 a1 x4 s1 a0 x50, [], 11, 28, []⟩) hQn4 (Ub (Nat.le_trans hv4 (Um rfl)) rfl rfl rfl rfl rfl)
  refine XM (C := fun q_ => ExecOK Try.prog (some 7) Yg ⟨[(3, .v (.one (.ptr 0 0))), (4, .v (.one (.ptr 1 0))), (5, .v (.one (.ptr 2 0))), (8, .v (.one (Jl x50.name))), (9, .v (.one (.ptr 10 0)))], m14_h39 a1 x4 s1 a0 x50 s3, [], 11, 28, []⟩ ((Sum.elim (fun (_ : Unit) => (.normal : Exit)) (fun (_ : Unit) => (.ret : Exit))) q_) ((Sum.elim (fun (y51 : Unit) => (⟨[], m14_h41 a1 x4 s1 a0 x50, [], 11, 28, []⟩ : St)) (fun (y52 : Unit) => (⟨[], m14_h42 a1 s1 s3 x4 x50 a0, [], 11, 28, []⟩ : St))) q_)) hb55 h3 (fun y51 hb55 h3 => ?_) (fun y52 hb55 h3 => ?_)
  replace hb55 : ExecOK Try.prog (some 7) Yg ⟨[(3, .v (.one (.ptr 0 0))), (4, .v (.one (.ptr 1 0))), (5, .v (.one (.ptr 2 0))), (8, .v (.one (Jl x50.name))), (9, .v (.one (.ptr 10 0)))], m14_h39 a1 x4 s1 a0 x50 s3, [], 11, 28, []⟩ .normal ⟨[], m14_h41 a1 x4 s1 a0 x50, [], 11, 28, []⟩ := hb55
  refine Q9 rfl rfl (Um rfl) (Jc (jump := none) rfl rfl rfl rfl rfl (Qw ha54 (fun E hv => (Ub (Nat.le_trans hv (Um rfl)) rfl rfl rfl rfl rfl))) rfl (Qw hb55 (fun E hv => (Ub (Nat.le_trans hv (Um rfl)) rfl rfl rfl rfl rfl))) rfl rfl) ?_
  refine Ue rfl rfl rfl (Jb rfl) <| Q4 <| Q3 ?_
  refine Qg rfl (fun h => nomatch h) (fun _ => ?_)
  refine Qj <| Qe <| Q3 <| Q0 <| Ue rfl rfl rfl (Q7 rfl rfl rfl) <| Uf rfl rfl rfl <| Q4 ?_
  have e := Uc h3; subst e
  refine QM (Jk (s3 + 1)) (Ub (Nat.le_trans hv2 (Um rfl)) rfl rfl rfl rfl rfl) ho3
  replace hb55 : ExecOK Try.prog (some 7) Yg ⟨[(3, .v (.one (.ptr 0 0))), (4, .v (.one (.ptr 1 0))), (5, .v (.one (.ptr 2 0))), (8, .v (.one (Jl x50.name))), (9, .v (.one (.ptr 10 0)))], m14_h39 a1 x4 s1 a0 x50 s3, [], 11, 28, []⟩ .ret ⟨[], m14_h42 a1 s1 s3 x4 x50 a0, [], 11, 28, []⟩ := hb55
  refine Q9 rfl rfl (Um rfl) (Jc (jump := (some .ret)) rfl rfl rfl rfl rfl (Qw ha54 (fun E hv => (Ub (Nat.le_trans hv (Um rfl)) rfl rfl rfl rfl rfl))) rfl (Qw hb55 (fun E hv => (Ub (Nat.le_trans hv (Um rfl)) rfl rfl rfl rfl rfl))) rfl rfl) ?_
  refine Ue rfl rfl rfl (Jb rfl) <| Q4 <| Q3 ?_
  refine Qg rfl (fun _ => ?_) (fun h => nomatch h)
  refine QA ?_
  have e := Uc h3; subst e
  have e_ : _ = _ := ho3
  subst e_
  try dsimp only [Sum.elim_inl, Sum.elim_inr] at h2
  have e := Uc h2; subst e
  exact hQ2 _ _ _ (.inr rfl) rfl (show StLe _ _ ⟨[], m14_h43 a1 s1 s3 x4 x50 a0, [], 10, 98, []⟩ from (Ub (Nat.le_trans hv2 (Um rfl)) rfl rfl rfl rfl rfl))
  replace h3 := Ql c49 h3
  refine J1 <| Qn <| Qn ?_
  have e := Uc h3; subst e
  have e_ : _ = _ := ho3
  subst e_
  exact QP () (Ub (Nat.le_trans hv2 (Um rfl)) rfl rfl rfl rfl rfl) h2
  intro o47 h2
  refine QF <| Qe ?_
  have e := Uc h2; subst e
  exact hQ2 _ _ _ (.inl rfl) rfl (show StLe _ _ ⟨[], Kc a1 x4 s1 a0, [], 9, 98, []⟩ from (Ub (Nat.le_trans hv2 (Um rfl)) rfl rfl rfl rfl rfl))
  replace h2 := Ql c46 h2
  refine Qj <| Qe ?_
  have e := Uc h2; subst e
  exact hQ2 _ _ _ (.inl rfl) rfl (show StLe _ _ ⟨[], Kc a1 x4 s1 a0, [], 9, 98, []⟩ from (Ub (Nat.le_trans hv2 (Um rfl)) rfl rfl rfl rfl rfl))
 refine XM (C := fun q_ => CallM Try.prog 49 [.one (.yld 7), .one (.ptr 5 0), .one (.ptr 4 0)] ⟨[(7, .loop .ready none [(3, .v (.one (.ptr 0 0))), (4, .v (.one (.ptr 1 0))), (5, .v (.one (.ptr 2 0))), (10, .v (.one (Uv a0))), (11, .v (.one (Ux (a0.length : Int)))), (12, .v (.one (Ux s1))), (19, .v (.one (.fn 49 [(5, 0), (4, 0)])))] 28 #[20, 21] Kd Yg 6), (6, .obj (.deferred (some []))), (0, .cells 9 [Jl a1]), (1, .cells 35 [Ux 0, Ux 0, Ux 0, Ux 0, Ux 0, Ux 0, Jl ([] : List UInt8), Uw, Uw]), (2, .cells 25 [Ux 0]), (3, .cells 45 (UA x4)), (4, .cells 45 (UA x4)), (5, .cells 3 [Ux s1])], [], 8⟩ (QD []) ⟨(((Sum.elim (fun (y7 : Unit) => (⟨[], Kc a1 x4 s1 a0, [], 9, 98, []⟩ : St)) (fun (y8 : Int × Int × Int × Int × Int × UN × (List Lvl) × (List Tm)) => (⟨[], GH a1 y8 s1 x4 a0, [], 10, 98, []⟩ : St)))) q_).hp, (((Sum.elim (fun (y7 : Unit) => (⟨[], Kc a1 x4 s1 a0, [], 9, 98, []⟩ : St)) (fun (y8 : Int × Int × Int × Int × Int × UN × (List Lvl) × (List Tm)) => (⟨[], GH a1 y8 s1 x4 a0, [], 10, 98, []⟩ : St)))) q_).tk, (((Sum.elim (fun (y7 : Unit) => (⟨[], Kc a1 x4 s1 a0, [], 9, 98, []⟩ : St)) (fun (y8 : Int × Int × Int × Int × Int × UN × (List Lvl) × (List Tm)) => (⟨[], GH a1 y8 s1 x4 a0, [], 10, 98, []⟩ : St)))) q_).nx⟩) hc9 h1 (fun y7 hc9 h1 => ?_) (fun y8 hc9 h1 => ?_)
 replace hc9 : CallM Try.prog 49 [.one (.yld 7), .one (.ptr 5 0), .one (.ptr 4 0)] ⟨[(7, .loop .ready none [(3, .v (.one (.ptr 0 0))), (4, .v (.one (.ptr 1 0))), (5, .v (.one (.ptr 2 0))), (10, .v (.one (Uv a0))), (11, .v (.one (Ux (a0.length : Int)))), (12, .v (.one (Ux s1))), (19, .v (.one (.fn 49 [(5, 0), (4, 0)])))] 28 #[20, 21] Kd Yg 6), (6, .obj (.deferred (some []))), (0, .cells 9 [Jl a1]), (1, .cells 35 [Ux 0, Ux 0, Ux 0, Ux 0, Ux 0, Ux 0, Jl ([] : List UInt8), Uw, Uw]), (2, .cells 25 [Ux 0]), (3, .cells 45 (UA x4)), (4, .cells 45 (UA x4)), (5, .cells 3 [Ux s1])], [], 8⟩ (QD []) ⟨Kc a1 x4 s1 a0, [], 9⟩ := hc9
 refine ZK (Y5 (e := .normal) rfl hc9 rfl rfl (by intro h; cases h) rfl) rfl ?_
 refine Qe <| Qe <| Q3 <| Q0 <| Ue rfl rfl rfl (Q7 rfl rfl rfl) <| Uf rfl rfl rfl <| Q4 ?_
 have e := Uc h1; subst e
 refine QM (Jk (s1 + 1)) (Ub (Nat.zero_le _) rfl rfl rfl rfl rfl) ho1
 replace hc9 : CallM Try.prog 49 [.one (.yld 7), .one (.ptr 5 0), .one (.ptr 4 0)] ⟨[(7, .loop .ready none [(3, .v (.one (.ptr 0 0))), (4, .v (.one (.ptr 1 0))), (5, .v (.one (.ptr 2 0))), (10, .v (.one (Uv a0))), (11, .v (.one (Ux (a0.length : Int)))), (12, .v (.one (Ux s1))), (19, .v (.one (.fn 49 [(5, 0), (4, 0)])))] 28 #[20, 21] Kd Yg 6), (6, .obj (.deferred (some []))), (0, .cells 9 [Jl a1]), (1, .cells 35 [Ux 0, Ux 0, Ux 0, Ux 0, Ux 0, Ux 0, Jl ([] : List UInt8), Uw, Uw]), (2, .cells 25 [Ux 0]), (3, .cells 45 (UA x4)), (4, .cells 45 (UA x4)), (5, .cells 3 [Ux s1])], [], 8⟩ (QD []) ⟨GH a1 y8 s1 x4 a0, [], 10⟩ := hc9
 refine ZK (Y5 (e := .ret) rfl hc9 rfl rfl (by intro h; cases h) rfl) rfl ?_
 have e := Uc h1; subst e
 have e_ : _ = _ := ho1
 subst e_
 try dsimp only [Sum.elim_inl, Sum.elim_inr] at h0
 have e := Uc h0; subst e
 exact QL (fun _ _ h => h) rfl (Z0 Jm rfl rfl rfl rfl (KM ZR rfl rfl rfl .nil)) (.cons (.agg (.cons (.d _) (.cons (.d _) (.cons (.d _) (.cons (.d _) (.cons (.d _) (.cons (.d _) (.cons (.d _) (.cons (.d _) (.cons (.d _) .nil)))))))))) (.cons (.one (.d _)) .nil))
 replace h1 := Ql c3 h1
 refine J1 <| Qn <| Qn ?_
 have e := Uc h1; subst e
 have e_ : _ = _ := ho1
 subst e_
 exact QP () (Ub (Nat.zero_le _) rfl rfl rfl rfl rfl) h0
 intro o1 h0
 refine QF <| Q3 <| Q5 <| Q0 <| Ue rfl rfl rfl (Gg K9 rfl ) <| Qy rfl rfl (Qr Jm rfl rfl rfl rfl (Um rfl) rfl) <| Qy rfl rfl (Qr ZR rfl rfl rfl rfl (Um rfl) rfl) <| Q4 <| Q3 <| QA ?_
 have e := Uc h0; subst e
 exact QL (fun _ _ h => h) rfl (Z0 Jm rfl rfl rfl rfl (KM ZR rfl rfl rfl .nil)) (.cons (.agg (.cons (.d _) (.cons (.d _) (.cons (.d _) (.cons (.d _) (.cons (.d _) (.cons (.d _) (.cons (.d _) (.cons (.nil _) (.cons (.nil _) .nil)))))))))) (.cons (.one (.d _)) .nil))
def m16 (a0 : List Dcl) (a1 : UN) : Option (Dcl × Int × Bool) :=
 Option.bind (m14 a0 a1) fun (x1 : Ent × Int) =>
 cond (x1.2 != 0)
   (some ((⟨0, ([] : List UInt8), 0, (Tm.mk 0 0 ([] : List UInt8) ([] : List Lvl) ([] : List Tm)), (Tm.mk 0 0 ([] : List UInt8) ([] : List Lvl) ([] : List Tm)), 0, ([] : List Ctr), (⟨0, (Tm.mk 0 0 ([] : List UInt8) ([] : List Lvl) ([] : List Tm)), ([] : List Tm)⟩ : Rcr), ([] : List Fn)⟩ : Dcl), 0, false))
   (cond (x1.1.kind == 3)
   (Option.bind (Yi a0 x1.1.decl) fun (x4 : Dcl) =>
 some (x4, (-1), true))
   (cond (x1.1.kind == 4)
   (Option.bind (Yi a0 x1.1.decl) fun (x6 : Dcl) =>
 some (x6, x1.1.item, true))
   (cond (x1.1.kind == 5)
   (Option.bind (Yi a0 x1.1.decl) fun (x8 : Dcl) =>
 some (x8, (-2), true))
   (some ((⟨0, ([] : List UInt8), 0, (Tm.mk 0 0 ([] : List UInt8) ([] : List Lvl) ([] : List Tm)), (Tm.mk 0 0 ([] : List UInt8) ([] : List Lvl) ([] : List Tm)), 0, ([] : List Ctr), (⟨0, (Tm.mk 0 0 ([] : List UInt8) ([] : List Lvl) ([] : List Tm)), ([] : List Tm)⟩ : Rcr), ([] : List Fn)⟩ : Dcl), 0, false)))))
set_option maxRecDepth 100000 in
set_option maxHeartbeats 2000000 in
theorem m16_ok (a0 : List Dcl) (a1 : UN) (r : Dcl × Int × Bool) (h0 : m16 a0 a1 = some r) : Fun Try.prog 16 [.one (Uv a0), .one (Jl a1)] (QD [.agg (UA r.1), .one (Ux r.2.1), .one (Uy r.2.2)]) := by
 unfold m16 at h0
 refine QY 9 44 Try.func16 rfl en_16 rfl (Um rfl) (fun S w => ?_)
 simp only [J7]
 refine Q5 <| Q0 <| Q9 rfl rfl (Um rfl) (Qm Wk rfl) <| Ug rfl rfl rfl <| Ug rfl rfl rfl <| Q4 <| Q3 <| Q5 <| Q0 <| Uf rfl rfl rfl <| Uf rfl rfl rfl ?_
 refine Qb h0 (fun x1 hx1 h0 => ?_)
 refine Q9 rfl rfl (Um rfl) (Qo (m14_ok a0 a1 x1 hx1) rfl (.cons (.one (.d _)) (.cons (.one (.d _)) .nil))) <| Uf rfl rfl rfl <| Ue rfl rfl rfl (Jg rfl rfl) <| Ue rfl rfl rfl (Jg rfl rfl) <| Q9 rfl rfl (Um rfl) (Qm ZB rfl) <| Qy rfl rfl (QC (x1.1 : Ent) Jm rfl rfl rfl rfl rfl) <| Ug rfl rfl rfl <| Q4 <| Q3 <| Q5 <| Q5 <| Q0 <| Uf rfl rfl rfl <| Ue rfl rfl rfl (Q7 rfl rfl rfl) ?_
 refine Q4 <| Q3 ?_
 refine Qg (b := (x1.2 != 0)) rfl (fun c2 => ?_) (fun c2 => ?_)
 replace h0 := Qk c2 h0
 refine Q5 <| Q0 <| Ue rfl rfl rfl (Gg bd_45 rfl ) <| Qy rfl rfl (Yw JS rfl rfl rfl rfl rfl rfl) <| Ug rfl rfl rfl <| Ug rfl rfl rfl <| Q4 <| Q3 <| QA ?_
 have e := Uc h0; subst e
 exact QL (fun _ _ h => h) rfl (Z0 JS rfl rfl rfl rfl (Qz rfl (Qz rfl .nil))) (.cons (.agg (.cons (.d _) (.cons (.d _) (.cons (.d _) (.cons (.d _) (.cons (.d _) (.cons (.d _) (.cons (.nil _) (.cons (.nil _) (.cons (.d _) (.cons (.d _) (.cons (.d _) (.cons (.nil _) (.cons (.nil _) (.cons (.d _) (.cons (.nil _) (.cons (.d _) (.cons (.d _) (.cons (.d _) (.cons (.d _) (.cons (.nil _) (.cons (.nil _) (.cons (.nil _) (.cons (.nil _) .nil)))))))))))))))))))))))) (.cons (.one (.d _)) (.cons (.one (.d _)) .nil)))
 replace h0 := Ql c2 h0
 refine Qj <| Q3 <| Q5 <| Q5 <| Q0 <| Ue rfl rfl rfl (Q1 ZH rfl) <| Ue rfl rfl rfl (Q6 QZ rfl rfl rfl) <| Q4 <| Q3 <| Qf <| Q5 <| Q0 <| Ue rfl rfl rfl (Q7 rfl rfl rfl) <| Ug rfl rfl rfl ?_
 refine Q4 <| Q3 ?_
 refine Qg (b := (x1.1.kind == 3)) rfl (fun c3 => ?_) (fun c3 => ?_)
 replace h0 := Qk c3 h0
 refine Q5 <| Q0 <| Uf rfl rfl rfl <| Ue rfl rfl rfl (Q1 XH rfl) <| Ue rfl rfl rfl (Q6 QZ rfl rfl rfl) ?_
 refine Qb h0 (fun x4 hx4 h0 => ?_)
 refine Ue rfl rfl rfl (Qq (α := Dcl) Ke rfl (.d _) rfl hx4) <| Ue rfl rfl rfl (Qv (x4 : Dcl) JS rfl) <| Qy rfl rfl (QC (x4 : Dcl) JS rfl rfl rfl rfl rfl) <| Ug rfl rfl rfl <| Ug rfl rfl rfl <| Q4 <| Q3 <| QA ?_
 have e := Uc h0; subst e
 exact QL (fun _ _ h => h) rfl (Z0 JS rfl rfl rfl rfl (Qz rfl (Qz rfl .nil))) (.cons (.agg (.cons (.d _) (.cons (.d _) (.cons (.d _) (.cons (.d _) (.cons (.d _) (.cons (.d _) (.cons (.d _) (.cons (.d _) (.cons (.d _) (.cons (.d _) (.cons (.d _) (.cons (.d _) (.cons (.d _) (.cons (.d _) (.cons (.d _) (.cons (.d _) (.cons (.d _) (.cons (.d _) (.cons (.d _) (.cons (.d _) (.cons (.d _) (.cons (.d _) (.cons (.d _) .nil)))))))))))))))))))))))) (.cons (.one (.d _)) (.cons (.one (.d _)) .nil)))
 replace h0 := Ql c3 h0
 refine Q5 <| Q0 <| Ue rfl rfl rfl (Q7 rfl rfl rfl) <| Ug rfl rfl rfl <| Q4 <| Q3 ?_
 refine Qg (b := (x1.1.kind == 4)) rfl (fun c5 => ?_) (fun c5 => ?_)
 replace h0 := Qk c5 h0
 refine Q5 ?_
 refine Jv [7] [(5, 1), (6, 1)] YI (by kernel_rfl) (by kernel_rfl) (by kernel_rfl) ?_
 refine RunA.rd rfl rfl rfl (Q2 (Qt rfl)) rfl <| RunA.rd rfl rfl rfl (Q2 (Q1 XH rfl)) rfl <| RunA.rd rfl rfl rfl (Q2 (Q6 QZ rfl rfl rfl)) rfl ?_
 refine Qb h0 (fun x6 hx6 h0 => ?_)
 refine RunA.rd rfl rfl rfl (Q2 (Qq (α := Dcl) Ke rfl (.d _) rfl hx6)) rfl <| RunA.rd rfl rfl rfl (Q2 (Qv (x6 : Dcl) JS rfl)) rfl <| RunA.rd rfl rfl rfl (Q2 (Q1 fo_35_2 rfl)) rfl <| RunA.rd rfl rfl rfl (Q2 (Q6 QZ rfl rfl rfl)) rfl <| RunA.eff rfl rfl rfl (QC (x6 : Dcl) JS rfl rfl rfl rfl rfl) rfl <| RunA.rd rfl rfl rfl (Q2 (JK rfl)) rfl <| RunA.rd rfl rfl rfl (Q2 (JK rfl)) rfl ?_
 refine RunA.nil ⟨?ex, _, _, rfl, ?_⟩
 case ex => exact ⟨⟨_, rfl, _, _, rfl, rfl, rfl, .inl ⟨rfl, _, Q2 (Q1 fo_35_2 rfl), rfl⟩⟩, ⟨_, rfl, _, _, rfl, rfl, rfl, .inl ⟨rfl, _, Q2 (Q6 QZ rfl rfl rfl), rfl⟩⟩, trivial⟩
 refine JX (st' := ⟨[(4, .v (.one (.ptr 0 0))), (5, .v (.one (Ux x1.1.item))), (6, .v (.one (Uy true)))], [(0, .cells 45 (UA x6)), (1, .cells 35 (UA x1.1))], [], 2, 44, []⟩) (Ub (Nat.zero_le _) rfl rfl rfl rfl rfl) <| Q3 <| QA ?_
 have e := Uc h0; subst e
 exact QL (fun _ _ h => h) rfl (Z0 JS rfl rfl rfl rfl (Qz rfl (Qz rfl .nil))) (.cons (.agg (.cons (.d _) (.cons (.d _) (.cons (.d _) (.cons (.d _) (.cons (.d _) (.cons (.d _) (.cons (.d _) (.cons (.d _) (.cons (.d _) (.cons (.d _) (.cons (.d _) (.cons (.d _) (.cons (.d _) (.cons (.d _) (.cons (.d _) (.cons (.d _) (.cons (.d _) (.cons (.d _) (.cons (.d _) (.cons (.d _) (.cons (.d _) (.cons (.d _) (.cons (.d _) .nil)))))))))))))))))))))))) (.cons (.one (.d _)) (.cons (.one (.d _)) .nil)))
 replace h0 := Ql c5 h0
 refine Q5 <| Q0 <| Ue rfl rfl rfl (Q7 rfl rfl rfl) <| Ug rfl rfl rfl <| Q4 <| Q3 ?_
 refine Qg (b := (x1.1.kind == 5)) rfl (fun c7 => ?_) (fun c7 => ?_)
 replace h0 := Qk c7 h0
 refine Q5 <| Q0 <| Uf rfl rfl rfl <| Ue rfl rfl rfl (Q1 XH rfl) <| Ue rfl rfl rfl (Q6 QZ rfl rfl rfl) ?_
 refine Qb h0 (fun x8 hx8 h0 => ?_)
 refine Ue rfl rfl rfl (Qq (α := Dcl) Ke rfl (.d _) rfl hx8) <| Ue rfl rfl rfl (Qv (x8 : Dcl) JS rfl) <| Qy rfl rfl (QC (x8 : Dcl) JS rfl rfl rfl rfl rfl) <| Ug rfl rfl rfl <| Ug rfl rfl rfl <| Q4 <| Q3 <| QA ?_
 have e := Uc h0; subst e
 exact QL (fun _ _ h => h) rfl (Z0 JS rfl rfl rfl rfl (Qz rfl (Qz rfl .nil))) (.cons (.agg (.cons (.d _) (.cons (.d _) (.cons (.d _) (.cons (.d _) (.cons (.d _) (.cons (.d _) (.cons (.d _) (.cons (.d _) (.cons (.d _) (.cons (.d _) (.cons (.d _) (.cons (.d _) (.cons (.d _) (.cons (.d _) (.cons (.d _) (.cons (.d _) (.cons (.d _) (.cons (.d _) (.cons (.d _) (.cons (.d _) (.cons (.d _) (.cons (.d _) (.cons (.d _) .nil)))))))))))))))))))))))) (.cons (.one (.d _)) (.cons (.one (.d _)) .nil)))
 replace h0 := Ql c7 h0
 refine Qj <| Qe <| Q3 <| Q5 <| Q0 <| Ue rfl rfl rfl (Gg bd_45 rfl ) <| Qy rfl rfl (Yw JS rfl rfl rfl rfl rfl rfl) <| Ug rfl rfl rfl <| Ug rfl rfl rfl <| Q4 <| Q3 <| QA ?_
 have e := Uc h0; subst e
 exact QL (fun _ _ h => h) rfl (Z0 JS rfl rfl rfl rfl (Qz rfl (Qz rfl .nil))) (.cons (.agg (.cons (.d _) (.cons (.d _) (.cons (.d _) (.cons (.d _) (.cons (.d _) (.cons (.d _) (.cons (.nil _) (.cons (.nil _) (.cons (.d _) (.cons (.d _) (.cons (.d _) (.cons (.nil _) (.cons (.nil _) (.cons (.d _) (.cons (.nil _) (.cons (.d _) (.cons (.d _) (.cons (.d _) (.cons (.d _) (.cons (.nil _) (.cons (.nil _) (.cons (.nil _) (.cons (.nil _) .nil)))))))))))))))))))))))) (.cons (.one (.d _)) (.cons (.one (.d _)) .nil)))
end Go.Proofs.Ytafddfoefeploaa
namespace Go.Proofs.Ytafddfoefeploaa
open Go.RowKit Go.Shelf
set_option linter.unusedSimpArgs false
set_option linter.unusedVariables false
theorem fo_35_4 : J0 Try.prog 35 4 = some 4 := by kernel_rfl
theorem en_22 : J3 Try.prog 22 := enters_of Try.func22 (by kernel_rfl) rfl
theorem en_27 : J3 Try.prog 27 := enters_of Try.func27 (by kernel_rfl) rfl
theorem en_42 : J3 Try.prog 42 := enters_of Try.func42 (by kernel_rfl) rfl
theorem en_61 : J3 Try.prog 61 := enters_of Try.func61 (by kernel_rfl) rfl
def m61_l0 (a0 : Lvl) (a1 : Lvl) (s1 : Int) : Option (LO Int (Unit ⊕ Bool)) :=
 cond (decide (s1 < (a0.vs.length : Int)))
   (Option.bind (Yi a0.vs s1) fun (x5 : UL) =>
 Option.bind (Yi a1.vs s1) fun (x6 : UL) =>
 cond (!((x5.1 == x6.1) && (x5.2 == x6.2)))
   (some (.done (.inr false)))
   (some (.next (Jk (s1 + 1)))))
   (some (.done (.inl ())))
def m61 (a0 : Lvl) (a1 : Lvl) : Option Bool :=
 Option.bind (cond (a0.c != a1.c)
   (some true)
   (some ((a0.vs.length : Int) != (a1.vs.length : Int)))) (fun (v1 : Bool) => cond v1
   (some false)
   (Option.bind (QV (m61_l0 a0 a1) J2 0) (Sum.elim (fun (o3 : Unit) => some true) (fun o => some o))))
set_option maxRecDepth 100000 in
set_option maxHeartbeats 2000000 in
theorem m61_ok (a0 : Lvl) (a1 : Lvl) (r : Bool) (h0 : m61 a0 a1 = some r) : Fun Try.prog 61 [.agg (UA a0), .agg (UA a1)] (QD [.one (Uy r)]) := by
 unfold m61 at h0
 refine QY 9 38 Try.func61 rfl en_61 rfl (Um rfl) (fun S w => ?_)
 simp only [J7]
 refine Q5 <| Q0 <| Q9 rfl rfl (Um rfl) (QN rfl) <| Q9 rfl rfl (Um rfl) (QN rfl) <| Ug rfl rfl rfl <| Q4 <| Q3 <| Q5 <| Q5 ?_
 refine QS (fun (v1 : Bool) => ⟨[(2, .v (.one (.ptr 0 0))), (3, .v (.one (.ptr 1 0))), (19, .v (.one (Uy v1)))], [(0, .cells 87 (UA a0)), (1, .cells 87 (UA a1))], [], 2, 38, []⟩) (fun (v1 : Bool) => (cond v1
     (some false)
     (Option.bind (QV (m61_l0 a0 a1) J2 0) (Sum.elim (fun (o3 : Unit) => some true) (fun o => some o)))) = some r) ?_ ?_
 refine Qb h0 (fun w1_ h1 h0 => ?_)
 refine Q0 <| Ue rfl rfl rfl (Q1 KS rfl) <| Ue rfl rfl rfl (Q6 QZ rfl rfl rfl) <| Ue rfl rfl rfl (Q1 KS rfl) <| Ue rfl rfl rfl (Q6 QZ rfl rfl rfl) <| Ue rfl rfl rfl (Q7 rfl rfl rfl) <| Uf rfl rfl rfl ?_
 refine QG (d := 11) (c := (a0.c != a1.c)) rfl (fun c2 => ?_) (fun c2 => ?_)
 replace h1 := Qk c2 h1
 refine Q8 rfl rfl <| Q8 rfl rfl <| Q8 rfl rfl <| Q8 rfl rfl <| Q8 rfl rfl <| Q8 rfl rfl <| Q8 rfl rfl <| Ue rfl rfl rfl (Qh rfl rfl) <| Q4 ?_
 have e := Uc h1; subst e
 exact Qc true (Ub (Nat.zero_le _) rfl rfl rfl rfl rfl) h0
 replace h1 := Ql c2 h1
 refine Ue rfl rfl rfl (Q1 Zk rfl) <| Ue rfl rfl rfl (Q6 Gt rfl rfl rfl) <| Ue rfl rfl rfl (Qx (α := UL) ZC rfl (.d _)) <| Ue rfl rfl rfl (Q1 Zk rfl) <| Ue rfl rfl rfl (Q6 Gt rfl rfl rfl) <| Ue rfl rfl rfl (Qx (α := UL) ZC rfl (.d _)) <| Ue rfl rfl rfl (Q7 rfl rfl rfl) <| Ue rfl rfl rfl (Qd rfl rfl) <| Q4 ?_
 have e := Uc h1; subst e
 exact Qc ((a0.vs.length : Int) != (a1.vs.length : Int)) (Ub (Nat.zero_le _) rfl rfl rfl rfl rfl) h0
 intro v1 h0
 refine Q3 ?_
 refine Qg (b := v1) rfl (fun c3 => ?_) (fun c3 => ?_)
 replace h0 := Qk c3 h0
 refine Q5 <| Q0 <| Ug rfl rfl rfl <| Q4 <| Q3 <| QA ?_
 have e := Uc h0; subst e
 exact QL (fun _ _ h => h) rfl (Qz rfl .nil) (.cons (.one (.d _)) .nil)
 replace h0 := Ql c3 h0
 refine Qj <| Q3 <| Q5 <| Q5 <| Q0 <| Ug rfl rfl rfl <| Q4 <| Q3 <| Qf ?_
 refine QR 0 (fun (o4 : Unit) => ⟨[], [(0, .cells 87 (UA a0)), (1, .cells 87 (UA a1))], [], 2, 38, []⟩) (fun (o4 : Unit) => (some true) = some r) ?_ ?_
 refine Qb h0 (fun o5 hl1 h0 => ?_)
 refine QQ (m61_l0 a0 a1) (fun s1 => ⟨[(2, .v (.one (.ptr 0 0))), (3, .v (.one (.ptr 1 0))), (5, .v (.one (Ux s1)))], [(0, .cells 87 (UA a0)), (1, .cells 87 (UA a1))], [], 2, 38, []⟩) 0 o5 (Ub (Nat.zero_le _) rfl rfl rfl rfl rfl) hl1 (fun s1 n1 oo1 h1 ho1 => ?_)
 unfold m61_l0 at h1
 refine Q5 <| Q5 <| Q0 <| Uf rfl rfl rfl <| Ue rfl rfl rfl (Q1 Zk rfl) <| Ue rfl rfl rfl (Q6 Gt rfl rfl rfl) <| Ue rfl rfl rfl (Qx (α := UL) ZC rfl (.d _)) <| Ue rfl rfl rfl (Q7 rfl rfl rfl) <| Q4 <| Q3 ?_
 refine Qg (b := (decide (s1 < (a0.vs.length : Int)))) rfl (fun c6 => ?_) (fun c6 => ?_)
 replace h1 := Qk c6 h1
 refine Qj <| Q3 <| Q5 <| Qf <| Q5 ?_
 refine Jv [] [] YI (by kernel_rfl) (by kernel_rfl) (by kernel_rfl) ?_
 refine RunA.rd rfl rfl rfl (Q2 (Q1 Zk rfl)) rfl <| RunA.rd rfl rfl rfl (Q2 (Q6 Gt rfl rfl rfl)) rfl <| RunA.rd rfl rfl rfl (Q2 (Qt rfl)) rfl ?_
 refine Qb h1 (fun x7 hx7 h1 => ?_)
 refine RunA.rd rfl rfl rfl (Q2 (Qq (α := UL) ZC rfl (.d _) rfl hx7)) rfl <| RunA.rd rfl rfl rfl (Q2 (Qv (x7 : UL) KK rfl)) rfl <| RunA.rd rfl rfl rfl (Q2 (Q1 Zk rfl)) rfl <| RunA.rd rfl rfl rfl (Q2 (Q6 Gt rfl rfl rfl)) rfl <| RunA.rd rfl rfl rfl (Q2 (Qt rfl)) rfl ?_
 refine Qb h1 (fun x8 hx8 h1 => ?_)
 refine RunA.rd rfl rfl rfl (Q2 (Qq (α := UL) ZC rfl (.d _) rfl hx8)) rfl <| RunA.rd rfl rfl rfl (Q2 (Qv (x8 : UL) KK rfl)) rfl <| RunA.rd rfl rfl rfl (Q2 (RO.neqPair ip_124 rfl rfl)) rfl ?_
 refine RunA.nil ⟨?ex, _, _, rfl, ?_⟩
 case ex => exact trivial
 refine JX (st' := ⟨[(2, .v (.one (.ptr 0 0))), (3, .v (.one (.ptr 1 0))), (5, .v (.one (Ux s1))), (37, .v (.one (Uy (!((x7.1 == x8.1) && (x7.2 == x8.2))))))], [(0, .cells 87 (UA a0)), (1, .cells 87 (UA a1))], [], 2, 38, []⟩) (Ub (Nat.zero_le _) rfl rfl rfl rfl rfl) <| Q3 ?_
 refine Qg (b := (!((x7.1 == x8.1) && (x7.2 == x8.2)))) rfl (fun c9 => ?_) (fun c9 => ?_)
 replace h1 := Qk c9 h1
 refine Q5 <| Q0 <| Ug rfl rfl rfl <| Q4 <| Q3 <| QA ?_
 have e := Uc h1; subst e
 have e_ : _ = _ := ho1
 subst e_
 try dsimp only [Sum.elim_inl, Sum.elim_inr] at h0
 have e := Uc h0; subst e
 exact QL (fun _ _ h => h) rfl (Qz rfl .nil) (.cons (.one (.d _)) .nil)
 replace h1 := Ql c9 h1
 refine Qj <| Qe <| Q3 <| Q0 <| Uf rfl rfl rfl <| Ue rfl rfl rfl (Q7 rfl rfl rfl) <| Ug rfl rfl rfl <| Q4 ?_
 have e := Uc h1; subst e
 refine QM (Jk (s1 + 1)) (Ub (Nat.zero_le _) rfl rfl rfl rfl rfl) ho1
 replace h1 := Ql c6 h1
 refine J1 <| Qn <| Qn ?_
 have e := Uc h1; subst e
 have e_ : _ = _ := ho1
 subst e_
 exact QP () (Ub (Nat.zero_le _) rfl rfl rfl rfl rfl) h0
 intro o4 h0
 refine QF <| Q3 <| Q5 <| Q0 <| Ug rfl rfl rfl <| Q4 <| Q3 <| QA ?_
 have e := Uc h0; subst e
 exact QL (fun _ _ h => h) rfl (Qz rfl .nil) (.cons (.one (.d _)) .nil)
def m42_l0 (a0 : List Lvl) (a1 : List Lvl) (s1 : Int) : Option (LO Int (Unit ⊕ Bool)) :=
 cond (decide (s1 < (a0.length : Int)))
   (Option.bind (Yi a0 s1) fun (x4 : Lvl) =>
 Option.bind (Yi a1 s1) fun (x5 : Lvl) =>
 Option.bind (m61 x4 x5) fun (x6 : Bool) =>
 cond (!x6)
   (some (.done (.inr false)))
   (some (.next (Jk (s1 + 1)))))
   (some (.done (.inl ())))
def m42 (a0 : List Lvl) (a1 : List Lvl) : Option Bool :=
 cond ((a0.length : Int) != (a1.length : Int))
   (some false)
   (Option.bind (QV (m42_l0 a0 a1) J2 0) (Sum.elim (fun (o2 : Unit) => some true) (fun o => some o)))
set_option maxRecDepth 100000 in
set_option maxHeartbeats 2000000 in
theorem m42_ok (a0 : List Lvl) (a1 : List Lvl) (r : Bool) (h0 : m42 a0 a1 = some r) : Fun Try.prog 42 [.one (Uv a0), .one (Uv a1)] (QD [.one (Uy r)]) := by
 unfold m42 at h0
 refine QY 9 27 Try.func42 rfl en_42 rfl (Um rfl) (fun S w => ?_)
 simp only [J7]
 refine Q5 <| Q0 <| Ug rfl rfl rfl <| Q4 <| Q3 <| Q5 <| Q5 <| Q0 <| Uf rfl rfl rfl <| Ue rfl rfl rfl (Qx (α := Lvl) Zf rfl (.d _)) <| Uf rfl rfl rfl <| Ue rfl rfl rfl (Qx (α := Lvl) Zf rfl (.d _)) <| Ue rfl rfl rfl (Q7 rfl rfl rfl) <| Q4 ?_
 refine Q3 ?_
 refine Qg (b := ((a0.length : Int) != (a1.length : Int))) rfl (fun c1 => ?_) (fun c1 => ?_)
 replace h0 := Qk c1 h0
 refine Q5 <| Q0 <| Ug rfl rfl rfl <| Q4 <| Q3 <| QA ?_
 have e := Uc h0; subst e
 exact QL (fun _ _ h => h) rfl (Qz rfl .nil) (.cons (.one (.d _)) .nil)
 replace h0 := Ql c1 h0
 refine Qj <| Q3 <| Q5 <| Q5 <| Q0 <| Ug rfl rfl rfl <| Q4 <| Q3 <| Qf ?_
 refine QR 0 (fun (o2 : Unit) => ⟨[], [], [], 0, 27, []⟩) (fun (o2 : Unit) => (some true) = some r) ?_ ?_
 refine Qb h0 (fun o3 hl1 h0 => ?_)
 refine QQ (m42_l0 a0 a1) (fun s1 => ⟨[(0, .v (.one (Uv a0))), (1, .v (.one (Uv a1))), (5, .v (.one (Ux s1)))], [], [], 0, 27, []⟩) 0 o3 (Ub (Nat.zero_le _) rfl rfl rfl rfl rfl) hl1 (fun s1 n1 oo1 h1 ho1 => ?_)
 unfold m42_l0 at h1
 refine Q5 <| Q5 <| Q0 <| Uf rfl rfl rfl <| Uf rfl rfl rfl <| Ue rfl rfl rfl (Qx (α := Lvl) Zf rfl (.d _)) <| Ue rfl rfl rfl (Q7 rfl rfl rfl) <| Q4 <| Q3 ?_
 refine Qg (b := (decide (s1 < (a0.length : Int)))) rfl (fun c4 => ?_) (fun c4 => ?_)
 replace h1 := Qk c4 h1
 refine Qj <| Q3 <| Q5 <| Qf <| Q5 ?_
 refine Jv [] [] YI (by kernel_rfl) (by kernel_rfl) (by kernel_rfl) ?_
 refine RunA.rd rfl rfl rfl (Q2 (Qt rfl)) rfl <| RunA.rd rfl rfl rfl (Q2 (Qt rfl)) rfl ?_
 refine Qb h1 (fun x5 hx5 h1 => ?_)
 refine RunA.rd rfl rfl rfl (Q2 (Qq (α := Lvl) Zf rfl (.d _) rfl hx5)) rfl <| RunA.rd rfl rfl rfl (Q2 (Qv (x5 : Lvl) Kg rfl)) rfl <| RunA.rd rfl rfl rfl (Q2 (Qt rfl)) rfl <| RunA.rd rfl rfl rfl (Q2 (Qt rfl)) rfl ?_
 refine Qb h1 (fun x6 hx6 h1 => ?_)
 refine RunA.rd rfl rfl rfl (Q2 (Qq (α := Lvl) Zf rfl (.d _) rfl hx6)) rfl <| RunA.rd rfl rfl rfl (Q2 (Qv (x6 : Lvl) Kg rfl)) rfl ?_
 refine Qb h1 (fun x7 hx7 h1 => ?_)
 refine RunA.rd rfl rfl rfl (Qo (m61_ok x5 x6 x7 hx7) rfl (.cons (.agg (.cons (.d _) (.cons (.d _) .nil))) (.cons (.agg (.cons (.d _) (.cons (.d _) .nil))) .nil))) rfl <| RunA.rd rfl rfl rfl (Q2 (Jb rfl)) rfl ?_
 refine RunA.nil ⟨?ex, _, _, rfl, ?_⟩
 case ex => exact trivial
 refine JX (st' := ⟨[(0, .v (.one (Uv a0))), (1, .v (.one (Uv a1))), (5, .v (.one (Ux s1))), (26, .v (.one (Uy (!x7))))], [], [], 0, 27, []⟩) (Ub (Nat.zero_le _) rfl rfl rfl rfl rfl) <| Q3 ?_
 refine Qg (b := (!x7)) rfl (fun c8 => ?_) (fun c8 => ?_)
 replace h1 := Qk c8 h1
 refine Q5 <| Q0 <| Ug rfl rfl rfl <| Q4 <| Q3 <| QA ?_
 have e := Uc h1; subst e
 have e_ : _ = _ := ho1
 subst e_
 try dsimp only [Sum.elim_inl, Sum.elim_inr] at h0
 have e := Uc h0; subst e
 exact QL (fun _ _ h => h) rfl (Qz rfl .nil) (.cons (.one (.d _)) .nil)
 replace h1 := Ql c8 h1
 refine Qj <| Qe <| Q3 <| Q0 <| Uf rfl rfl rfl <| Ue rfl rfl rfl (Q7 rfl rfl rfl) <| Ug rfl rfl rfl <| Q4 ?_
 have e := Uc h1; subst e
 refine QM (Jk (s1 + 1)) (Ub (Nat.zero_le _) rfl rfl rfl rfl rfl) ho1
 replace h1 := Ql c4 h1
 refine J1 <| Qn <| Qn ?_
 have e := Uc h1; subst e
 have e_ : _ = _ := ho1
 subst e_
 exact QP () (Ub (Nat.zero_le _) rfl rfl rfl rfl rfl) h0
 intro o2 h0
 refine QF <| Q3 <| Q5 <| Q0 <| Ug rfl rfl rfl <| Q4 <| Q3 <| QA ?_
 have e := Uc h0; subst e
 exact QL (fun _ _ h => h) rfl (Qz rfl .nil) (.cons (.one (.d _)) .nil)
def m27_l0 (a0 : Tm) (a1 : Tm) (rc : Tm × Tm → Option Bool) (s1 : Int) : Option (LO Int (Unit ⊕ Bool)) :=
 cond (decide (s1 < (a0.kids.length : Int)))
   (Option.bind (Yi a0.kids s1) fun (x5 : Tm) =>
 Option.bind (Yi a1.kids s1) fun (x6 : Tm) =>
 Option.bind (rc (x5, x6)) fun (x7 : Bool) =>
 cond (!x7)
   (some (.done (.inr false)))
   (some (.next (Jk (s1 + 1)))))
   (some (.done (.inl ())))
def m27s (rc : Tm × Tm → Option Bool) (a0 : Tm) (a1 : Tm) : Option Bool :=
 Option.bind (cond (a0.kind != a1.kind)
   (some true)
   (cond (a0.index != a1.index)
   (some true)
   (cond (!(a0.name == a1.name))
   (some true)
   (Option.bind (m42 a0.levels a1.levels) fun (x5 : Bool) =>
 cond (!x5)
   (some true)
   (some ((a0.kids.length : Int) != (a1.kids.length : Int))))))) (fun (v1 : Bool) => cond v1
   (some false)
   (Option.bind (QV (m27_l0 a0 a1 rc) J2 0) (Sum.elim (fun (o3 : Unit) => some true) (fun o => some o))))
def m27F (rc : Tm × Tm → Option Bool) (u : Tm × Tm) : Option Bool := m27s rc u.1 u.2
def m27 (a0 : Tm) (a1 : Tm) : Option Bool := Yt m27F J2 (a0, a1)
set_option maxRecDepth 100000 in
set_option maxHeartbeats 2000000 in
theorem m27s_ok (rc : Tm × Tm → Option Bool) (H : ∀ (a0 : Tm) (a1 : Tm) (r : Bool), rc (a0, a1) = some r → Fun Try.prog 27 [.agg (UA a0), .agg (UA a1)] (QD [.one (Uy r)])) (a0 : Tm) (a1 : Tm) (r : Bool) (h0 : m27s rc a0 a1 = some r) : Fun Try.prog 27 [.agg (UA a0), .agg (UA a1)] (QD [.one (Uy r)]) := by
 unfold m27s at h0
 refine QY 9 61 Try.func27 rfl en_27 rfl (Um rfl) (fun S w => ?_)
 simp only [J7]
 refine Q5 <| Q0 <| Q9 rfl rfl (Um rfl) (QN rfl) <| Q9 rfl rfl (Um rfl) (QN rfl) <| Ug rfl rfl rfl <| Q4 <| Q3 <| Q5 <| Q5 ?_
 refine QS (fun (v1 : Bool) => ⟨[(2, .v (.one (.ptr 0 0))), (3, .v (.one (.ptr 1 0))), (41, .v (.one (Uy v1)))], [(0, .cells 33 (UA a0)), (1, .cells 33 (UA a1))], [], 2, 61, []⟩) (fun (v1 : Bool) => (cond v1
     (some false)
     (Option.bind (QV (m27_l0 a0 a1 rc) J2 0) (Sum.elim (fun (o3 : Unit) => some true) (fun o => some o)))) = some r) ?_ ?_
 refine Qb h0 (fun w1_ h1 h0 => ?_)
 refine Q0 <| Ue rfl rfl rfl (Q1 Y3 rfl) <| Ue rfl rfl rfl (Q6 QZ rfl rfl rfl) <| Ue rfl rfl rfl (Q1 Y3 rfl) <| Ue rfl rfl rfl (Q6 QZ rfl rfl rfl) <| Ue rfl rfl rfl (Q7 rfl rfl rfl) <| Uf rfl rfl rfl ?_
 refine QG (d := 11) (c := (a0.kind != a1.kind)) rfl (fun c2 => ?_) (fun c2 => ?_)
 replace h1 := Qk c2 h1
 refine Q8 rfl rfl <| Q8 rfl rfl <| Q8 rfl rfl <| Q8 rfl rfl <| Q8 rfl rfl <| Ue rfl rfl rfl (Qh rfl rfl) <| Uf rfl rfl rfl <| Q8 rfl rfl <| Q8 rfl rfl <| Q8 rfl rfl <| Q8 rfl rfl <| Q8 rfl rfl <| Ue rfl rfl rfl (Qh rfl rfl) <| Uf rfl rfl rfl ?_
 refine Q8 rfl rfl <| Q8 rfl rfl <| Q8 rfl rfl <| Q8 rfl rfl <| Q8 rfl rfl <| Q8 rfl rfl <| Ue rfl rfl rfl (Qh rfl rfl) <| Uf rfl rfl rfl <| Q8 rfl rfl <| Q8 rfl rfl <| Q8 rfl rfl <| Q8 rfl rfl <| Q8 rfl rfl <| Q8 rfl rfl ?_
 refine Q8 rfl rfl <| Ue rfl rfl rfl (Qh rfl rfl) <| Q4 ?_
 have e := Uc h1; subst e
 exact Qc true (Ub (Nat.zero_le _) rfl rfl rfl rfl rfl) h0
 replace h1 := Ql c2 h1
 refine Ue rfl rfl rfl (Q1 Zb rfl) <| Ue rfl rfl rfl (Q6 QZ rfl rfl rfl) <| Ue rfl rfl rfl (Q1 Zb rfl) <| Ue rfl rfl rfl (Q6 QZ rfl rfl rfl) <| Ue rfl rfl rfl (Q7 rfl rfl rfl) <| Ue rfl rfl rfl (Qd rfl rfl) <| Uf rfl rfl rfl ?_
 refine QG (d := 18) (c := (a0.index != a1.index)) rfl (fun c3 => ?_) (fun c3 => ?_)
 replace h1 := Qk c3 h1
 refine Q8 rfl rfl <| Q8 rfl rfl <| Q8 rfl rfl <| Q8 rfl rfl <| Q8 rfl rfl <| Ue rfl rfl rfl (Qh rfl rfl) <| Uf rfl rfl rfl <| Q8 rfl rfl <| Q8 rfl rfl <| Q8 rfl rfl <| Q8 rfl rfl <| Q8 rfl rfl <| Q8 rfl rfl <| Ue rfl rfl rfl (Qh rfl rfl) ?_
 refine Uf rfl rfl rfl <| Q8 rfl rfl <| Q8 rfl rfl <| Q8 rfl rfl <| Q8 rfl rfl <| Q8 rfl rfl <| Q8 rfl rfl <| Q8 rfl rfl <| Ue rfl rfl rfl (Qh rfl rfl) <| Q4 ?_
 have e := Uc h1; subst e
 exact Qc true (Ub (Nat.zero_le _) rfl rfl rfl rfl rfl) h0
 replace h1 := Ql c3 h1
 refine Ue rfl rfl rfl (Q1 YF rfl) <| Ue rfl rfl rfl (Q6 JG rfl rfl rfl) <| Ue rfl rfl rfl (Q1 YF rfl) <| Ue rfl rfl rfl (Q6 JG rfl rfl rfl) <| Ue rfl rfl rfl (RO.neS rfl rfl) <| Ue rfl rfl rfl (Qd rfl rfl) <| Uf rfl rfl rfl ?_
 refine QG (d := 25) (c := (!(a0.name == a1.name))) rfl (fun c4 => ?_) (fun c4 => ?_)
 replace h1 := Qk c4 h1
 refine Q8 rfl rfl <| Q8 rfl rfl <| Q8 rfl rfl <| Q8 rfl rfl <| Q8 rfl rfl <| Q8 rfl rfl <| Ue rfl rfl rfl (Qh rfl rfl) <| Uf rfl rfl rfl <| Q8 rfl rfl <| Q8 rfl rfl <| Q8 rfl rfl <| Q8 rfl rfl <| Q8 rfl rfl <| Q8 rfl rfl ?_
 refine Q8 rfl rfl <| Ue rfl rfl rfl (Qh rfl rfl) <| Q4 ?_
 have e := Uc h1; subst e
 exact Qc true (Ub (Nat.zero_le _) rfl rfl rfl rfl rfl) h0
 replace h1 := Ql c4 h1
 refine Ue rfl rfl rfl (Q1 Zl rfl) <| Ue rfl rfl rfl (Q6 Gu rfl rfl rfl) <| Ue rfl rfl rfl (Q1 Zl rfl) <| Ue rfl rfl rfl (Q6 Gu rfl rfl rfl) ?_
 refine Qb h1 (fun x5 hx5 h1 => ?_)
 refine Q9 rfl rfl (Um rfl) (Qo (m42_ok a0.levels a1.levels x5 hx5) rfl (.cons (.one (.d _)) (.cons (.one (.d _)) .nil))) <| Ue rfl rfl rfl (Jb rfl) <| Ue rfl rfl rfl (Qd rfl rfl) <| Uf rfl rfl rfl ?_
 refine QG (d := 33) (c := (!x5)) rfl (fun c6 => ?_) (fun c6 => ?_)
 replace h1 := Qk c6 h1
 refine Q8 rfl rfl <| Q8 rfl rfl <| Q8 rfl rfl <| Q8 rfl rfl <| Q8 rfl rfl <| Q8 rfl rfl <| Q8 rfl rfl <| Ue rfl rfl rfl (Qh rfl rfl) <| Q4 ?_
 have e := Uc h1; subst e
 exact Qc true (Ub (Nat.zero_le _) rfl rfl rfl rfl rfl) h0
 replace h1 := Ql c6 h1
 refine Ue rfl rfl rfl (Q1 JJ rfl) <| Ue rfl rfl rfl (Q6 JH rfl rfl rfl) <| Ue rfl rfl rfl (Qx (α := Tm) Ji rfl (.d _)) <| Ue rfl rfl rfl (Q1 JJ rfl) <| Ue rfl rfl rfl (Q6 JH rfl rfl rfl) <| Ue rfl rfl rfl (Qx (α := Tm) Ji rfl (.d _)) <| Ue rfl rfl rfl (Q7 rfl rfl rfl) <| Ue rfl rfl rfl (Qd rfl rfl) <| Q4 ?_
 have e := Uc h1; subst e
 exact Qc ((a0.kids.length : Int) != (a1.kids.length : Int)) (Ub (Nat.zero_le _) rfl rfl rfl rfl rfl) h0
 intro v1 h0
 refine Q3 ?_
 refine Qg (b := v1) rfl (fun c7 => ?_) (fun c7 => ?_)
 replace h0 := Qk c7 h0
 refine Q5 <| Q0 <| Ug rfl rfl rfl <| Q4 <| Q3 <| QA ?_
 have e := Uc h0; subst e
 exact QL (fun _ _ h => h) rfl (Qz rfl .nil) (.cons (.one (.d _)) .nil)
 replace h0 := Ql c7 h0
 refine Qj <| Q3 <| Q5 <| Q5 <| Q0 <| Ug rfl rfl rfl <| Q4 <| Q3 <| Qf ?_
 refine QR 0 (fun (o8 : Unit) => ⟨[], [(0, .cells 33 (UA a0)), (1, .cells 33 (UA a1))], [], 2, 61, []⟩) (fun (o8 : Unit) => (some true) = some r) ?_ ?_
 refine Qb h0 (fun o9 hl1 h0 => ?_)
 refine QQ (m27_l0 a0 a1 rc) (fun s1 => ⟨[(2, .v (.one (.ptr 0 0))), (3, .v (.one (.ptr 1 0))), (5, .v (.one (Ux s1)))], [(0, .cells 33 (UA a0)), (1, .cells 33 (UA a1))], [], 2, 61, []⟩) 0 o9 (Ub (Nat.zero_le _) rfl rfl rfl rfl rfl) hl1 (fun s1 n1 oo1 h1 ho1 => ?_)
 unfold m27_l0 at h1
 refine Q5 <| Q5 <| Q0 <| Uf rfl rfl rfl <| Ue rfl rfl rfl (Q1 JJ rfl) <| Ue rfl rfl rfl (Q6 JH rfl rfl rfl) <| Ue rfl rfl rfl (Qx (α := Tm) Ji rfl (.d _)) <| Ue rfl rfl rfl (Q7 rfl rfl rfl) <| Q4 <| Q3 ?_
 refine Qg (b := (decide (s1 < (a0.kids.length : Int)))) rfl (fun c10 => ?_) (fun c10 => ?_)
 replace h1 := Qk c10 h1
 refine Qj <| Q3 <| Q5 <| Qf <| Q5 ?_
 refine Jv [] [] YI (by kernel_rfl) (by kernel_rfl) (by kernel_rfl) ?_
 refine RunA.rd rfl rfl rfl (Q2 (Q1 JJ rfl)) rfl <| RunA.rd rfl rfl rfl (Q2 (Q6 JH rfl rfl rfl)) rfl <| RunA.rd rfl rfl rfl (Q2 (Qt rfl)) rfl ?_
 refine Qb h1 (fun x11 hx11 h1 => ?_)
 refine RunA.rd rfl rfl rfl (Q2 (Qq (α := Tm) Ji rfl (.d _) rfl hx11)) rfl <| RunA.rd rfl rfl rfl (Q2 (Qv (x11 : Tm) QW rfl)) rfl <| RunA.rd rfl rfl rfl (Q2 (Q1 JJ rfl)) rfl <| RunA.rd rfl rfl rfl (Q2 (Q6 JH rfl rfl rfl)) rfl <| RunA.rd rfl rfl rfl (Q2 (Qt rfl)) rfl ?_
 refine Qb h1 (fun x12 hx12 h1 => ?_)
 refine RunA.rd rfl rfl rfl (Q2 (Qq (α := Tm) Ji rfl (.d _) rfl hx12)) rfl <| RunA.rd rfl rfl rfl (Q2 (Qv (x12 : Tm) QW rfl)) rfl ?_
 refine Qb h1 (fun x13 hx13 h1 => ?_)
 refine RunA.rd rfl rfl rfl (Qo (H x11 x12 x13 hx13) rfl (.cons (.agg (.cons (.d _) (.cons (.d _) (.cons (.d _) (.cons (.d _) (.cons (.d _) .nil)))))) (.cons (.agg (.cons (.d _) (.cons (.d _) (.cons (.d _) (.cons (.d _) (.cons (.d _) .nil)))))) .nil))) rfl <| RunA.rd rfl rfl rfl (Q2 (Jb rfl)) rfl ?_
 refine RunA.nil ⟨?ex, _, _, rfl, ?_⟩
 case ex => exact trivial
 refine JX (st' := ⟨[(2, .v (.one (.ptr 0 0))), (3, .v (.one (.ptr 1 0))), (5, .v (.one (Ux s1))), (60, .v (.one (Uy (!x13))))], [(0, .cells 33 (UA a0)), (1, .cells 33 (UA a1))], [], 2, 61, []⟩) (Ub (Nat.zero_le _) rfl rfl rfl rfl rfl) <| Q3 ?_
 refine Qg (b := (!x13)) rfl (fun c14 => ?_) (fun c14 => ?_)
 replace h1 := Qk c14 h1
 refine Q5 <| Q0 <| Ug rfl rfl rfl <| Q4 <| Q3 <| QA ?_
 have e := Uc h1; subst e
 have e_ : _ = _ := ho1
 subst e_
 try dsimp only [Sum.elim_inl, Sum.elim_inr] at h0
 have e := Uc h0; subst e
 exact QL (fun _ _ h => h) rfl (Qz rfl .nil) (.cons (.one (.d _)) .nil)
 replace h1 := Ql c14 h1
 refine Qj <| Qe <| Q3 <| Q0 <| Uf rfl rfl rfl <| Ue rfl rfl rfl (Q7 rfl rfl rfl) <| Ug rfl rfl rfl <| Q4 ?_
 have e := Uc h1; subst e
 refine QM (Jk (s1 + 1)) (Ub (Nat.zero_le _) rfl rfl rfl rfl rfl) ho1
 replace h1 := Ql c10 h1
 refine J1 <| Qn <| Qn ?_
 have e := Uc h1; subst e
 have e_ : _ = _ := ho1
 subst e_
 exact QP () (Ub (Nat.zero_le _) rfl rfl rfl rfl rfl) h0
 intro o8 h0
 refine QF <| Q3 <| Q5 <| Q0 <| Ug rfl rfl rfl <| Q4 <| Q3 <| QA ?_
 have e := Uc h0; subst e
 exact QL (fun _ _ h => h) rfl (Qz rfl .nil) (.cons (.one (.d _)) .nil)
theorem m27_all (n : Nat) (u : Tm × Tm) (r : Bool) (h0 : Yt m27F n u = some r) : Fun Try.prog 27 [.agg (UA u.1), .agg (UA u.2)] (QD [.one (Uy r)]) :=
 YB (C := fun u r => Fun Try.prog 27 [.agg (UA u.1), .agg (UA u.2)] (QD [.one (Uy r)])) (fun rc H u r h => m27s_ok rc (fun a0 a1 r h => H (a0, a1) r h) u.1 u.2 r h) n u r h0
theorem m27_ok (a0 : Tm) (a1 : Tm) (r : Bool) (h0 : m27 a0 a1 = some r) : Fun Try.prog 27 [.agg (UA a0), .agg (UA a1)] (QD [.one (Uy r)]) := m27_all J2 (a0, a1) r h0
def XV (a0 : List UN) (a1 : List UN) (s1 : Int) : Option (LO Int (Unit ⊕ Bool)) :=
 cond (decide (s1 < (a0.length : Int)))
   (Option.bind (Yi a0 s1) fun (x4 : UN) =>
 Option.bind (Yi a1 s1) fun (x5 : UN) =>
 cond (!(x4 == x5))
   (some (.done (.inr false)))
   (some (.next (Jk (s1 + 1)))))
   (some (.done (.inl ())))
def WP (a0 : List UN) (a1 : List UN) : Option Bool :=
 cond ((a0.length : Int) != (a1.length : Int))
   (some false)
   (Option.bind (QV (XV a0 a1) J2 0) (Sum.elim (fun (o2 : Unit) => some true) (fun o => some o)))
set_option maxRecDepth 100000 in
set_option maxHeartbeats 2000000 in
theorem m22_ok (a0 : List UN) (a1 : List UN) (r : Bool) (h0 : WP a0 a1 = some r) : Fun Try.prog 22 [.one (Uv a0), .one (Uv a1)] (QD [.one (Uy r)]) := by
 unfold WP at h0
 refine QY 9 26 Try.func22 rfl en_22 rfl (Um rfl) (fun S w => ?_)
 simp only [J7]
 refine Q5 <| Q0 <| Ug rfl rfl rfl <| Q4 <| Q3 <| Q5 <| Q5 <| Q0 <| Uf rfl rfl rfl <| Ue rfl rfl rfl (Qx (α := UN) Ju rfl (.d _)) <| Uf rfl rfl rfl <| Ue rfl rfl rfl (Qx (α := UN) Ju rfl (.d _)) <| Ue rfl rfl rfl (Q7 rfl rfl rfl) <| Q4 ?_
 refine Q3 ?_
 refine Qg (b := ((a0.length : Int) != (a1.length : Int))) rfl (fun c1 => ?_) (fun c1 => ?_)
 replace h0 := Qk c1 h0
 refine Q5 <| Q0 <| Ug rfl rfl rfl <| Q4 <| Q3 <| QA ?_
 have e := Uc h0; subst e
 exact QL (fun _ _ h => h) rfl (Qz rfl .nil) (.cons (.one (.d _)) .nil)
 replace h0 := Ql c1 h0
 refine Qj <| Q3 <| Q5 <| Q5 <| Q0 <| Ug rfl rfl rfl <| Q4 <| Q3 <| Qf ?_
 refine QR 0 (fun (o2 : Unit) => ⟨[], [], [], 0, 26, []⟩) (fun (o2 : Unit) => (some true) = some r) ?_ ?_
 refine Qb h0 (fun o3 hl1 h0 => ?_)
 refine QQ (XV a0 a1) (fun s1 => ⟨[(0, .v (.one (Uv a0))), (1, .v (.one (Uv a1))), (5, .v (.one (Ux s1)))], [], [], 0, 26, []⟩) 0 o3 (Ub (Nat.zero_le _) rfl rfl rfl rfl rfl) hl1 (fun s1 n1 oo1 h1 ho1 => ?_)
 unfold XV at h1
 refine Q5 <| Q5 <| Q0 <| Uf rfl rfl rfl <| Uf rfl rfl rfl <| Ue rfl rfl rfl (Qx (α := UN) Ju rfl (.d _)) <| Ue rfl rfl rfl (Q7 rfl rfl rfl) <| Q4 <| Q3 ?_
 refine Qg (b := (decide (s1 < (a0.length : Int)))) rfl (fun c4 => ?_) (fun c4 => ?_)
 replace h1 := Qk c4 h1
 refine Qj <| Q3 <| Q5 <| Qf <| Q5 ?_
 refine Jv [] [] YI (by kernel_rfl) (by kernel_rfl) (by kernel_rfl) ?_
 refine RunA.rd rfl rfl rfl (Q2 (Qt rfl)) rfl <| RunA.rd rfl rfl rfl (Q2 (Qt rfl)) rfl ?_
 refine Qb h1 (fun x5 hx5 h1 => ?_)
 refine RunA.rd rfl rfl rfl (Q2 (Qq (α := UN) Ju rfl (.d _) rfl hx5)) rfl <| RunA.rd rfl rfl rfl (Q2 (Js JG rfl rfl)) rfl <| RunA.rd rfl rfl rfl (Q2 (Qt rfl)) rfl <| RunA.rd rfl rfl rfl (Q2 (Qt rfl)) rfl ?_
 refine Qb h1 (fun x6 hx6 h1 => ?_)
 refine RunA.rd rfl rfl rfl (Q2 (Qq (α := UN) Ju rfl (.d _) rfl hx6)) rfl <| RunA.rd rfl rfl rfl (Q2 (Js JG rfl rfl)) rfl <| RunA.rd rfl rfl rfl (Q2 (RO.neS rfl rfl)) rfl ?_
 refine RunA.nil ⟨?ex, _, _, rfl, ?_⟩
 case ex => exact trivial
 refine JX (st' := ⟨[(0, .v (.one (Uv a0))), (1, .v (.one (Uv a1))), (5, .v (.one (Ux s1))), (25, .v (.one (Uy (!(x5 == x6)))))], [], [], 0, 26, []⟩) (Ub (Nat.zero_le _) rfl rfl rfl rfl rfl) <| Q3 ?_
 refine Qg (b := (!(x5 == x6))) rfl (fun c7 => ?_) (fun c7 => ?_)
 replace h1 := Qk c7 h1
 refine Q5 <| Q0 <| Ug rfl rfl rfl <| Q4 <| Q3 <| QA ?_
 have e := Uc h1; subst e
 have e_ : _ = _ := ho1
 subst e_
 try dsimp only [Sum.elim_inl, Sum.elim_inr] at h0
 have e := Uc h0; subst e
 exact QL (fun _ _ h => h) rfl (Qz rfl .nil) (.cons (.one (.d _)) .nil)
 replace h1 := Ql c7 h1
 refine Qj <| Qe <| Q3 <| Q0 <| Uf rfl rfl rfl <| Ue rfl rfl rfl (Q7 rfl rfl rfl) <| Ug rfl rfl rfl <| Q4 ?_
 have e := Uc h1; subst e
 refine QM (Jk (s1 + 1)) (Ub (Nat.zero_le _) rfl rfl rfl rfl rfl) ho1
 replace h1 := Ql c4 h1
 refine J1 <| Qn <| Qn ?_
 have e := Uc h1; subst e
 have e_ : _ = _ := ho1
 subst e_
 exact QP () (Ub (Nat.zero_le _) rfl rfl rfl rfl rfl) h0
 intro o2 h0
 refine QF <| Q3 <| Q5 <| Q0 <| Ug rfl rfl rfl <| Q4 <| Q3 <| QA ?_
 have e := Uc h0; subst e
 exact QL (fun _ _ h => h) rfl (Qz rfl .nil) (.cons (.one (.d _)) .nil)
end Go.Proofs.Ytafddfoefeploaa
namespace Go.Proofs.Ytafddfoefeploaa
open Go.RowKit
set_option linter.unusedSimpArgs false
set_option linter.unusedVariables false
set_option linter.unusedSectionVars false
section
variable {E : Env} {st : St} {d : Option Tmp} {ty : TypeId} {pos : String} {af : Array Edge} {g : Option (Nat × Bool)}
theorem OpOK.data4E {α : Type} [Enc α] (v1 v2 v3 v4 : α) {t e : Nat} {zs : List Value} {o1 o2 o3 o4 : Operand} {x1 x2 x3 x4 : AV} {ys : List CA} (ht : Jo E.P t = some (e, Enc.sz α)) (hze : JE E.P e = some zs) (hzl : zs.length = Enc.sz α) (hz : zs.all (·.oneCell') = true) (hlen : 4 * Enc.sz α ≤ 16777216)
    (h1 : ev st.tm o1 = some (.v x1)) (h2 : ev st.tm o2 = some (.v x2)) (h3 : ev st.tm o3 = some (.v x3)) (h4 : ev st.tm o4 = some (.v x4)) (hf : Zh (JQ (Enc.sz α) 4) (JV zs 4) [(0, x1), (1, x2), (2, x3), (3, x4)] = some ys) (hs : CSubs ys (Enc.enc v1 ++ (Enc.enc v2 ++ (Enc.enc v3 ++ (Enc.enc v4))))) (hel : (Enc.enc v1).length = Enc.sz α ∧ (Enc.enc v2).length = Enc.sz α ∧ (Enc.enc v3).length = Enc.sz α ∧ (Enc.enc v4).length = Enc.sz α) :
    OpOK E ⟨d, .buildSlice t 4 #[(0, o1), (1, o2), (2, o3), (3, o4)], ty, pos, af, g⟩ st (.v (.one (.d (.sl (Enc.sz α) (Enc.encL [v1, v2, v3, v4]))))) ⟨st.hp, st.tk, st.nx⟩ :=
  OpOK.litData (avs := [(0, x1), (1, x2), (2, x3), (3, x4)]) (Enc.encL [v1, v2, v3, v4]) ht hze hzl hz hlen rfl (fun j i x hx => by
    match j, hx with
    | 0, hx => cases hx; exact ⟨o1, rfl, h1⟩
    | 1, hx => cases hx; exact ⟨o2, rfl, h2⟩
    | 2, hx => cases hx; exact ⟨o3, rfl, h3⟩
    | 3, hx => cases hx; exact ⟨o4, rfl, h4⟩) hf (by rw [Enc.cons, Enc.cons, Enc.cons, Enc.one]; simpa using hs) (fun x hx => by
      rw [Enc.cons, Enc.cons, Enc.cons, Enc.one] at hx; simp at hx
      rcases hx with rfl | rfl | rfl | rfl
      · exact hel.1
      · exact hel.2.1
      · exact hel.2.2.1
      · exact hel.2.2.2) (by rw [Enc.len]; rfl)
end
end Go.Proofs.Ytafddfoefeploaa
namespace Go.Proofs.Ytafddfoefeploaa
open Go.RowKit Go.Shelf
set_option linter.unusedSimpArgs false
set_option linter.unusedVariables false
theorem bd_42 : Yj Try.prog 42 [(0, 1), (1, 5), (6, 1)] [.int .i64 0, .int .i64 0, .int .i64 0, .string ByteArray.empty, .slice none 0 0, .slice none 0 0, .slice none 0 0] := ⟨by kernel_rfl, by kernel_rfl⟩
theorem bd_71 : Yj Try.prog 71 [(0, 1), (1, 5)] [.string ByteArray.empty, .int .i64 0, .int .i64 0, .string ByteArray.empty, .slice none 0 0, .slice none 0 0] := ⟨by kernel_rfl, by kernel_rfl⟩
theorem bd_87 : Yj Try.prog 87 [(0, 1), (1, 1)] [.int .i64 0, .slice none 0 0] := ⟨by kernel_rfl, by kernel_rfl⟩
theorem en_10 : J3 Try.prog 10 := enters_of Try.func10 (by kernel_rfl) rfl
theorem en_26 : J3 Try.prog 26 := enters_of Try.func26 (by kernel_rfl) rfl
theorem en_28 : J3 Try.prog 28 := enters_of Try.func28 (by kernel_rfl) rfl
theorem en_29 : J3 Try.prog 29 := enters_of Try.func29 (by kernel_rfl) rfl
def U6 (a0 : UN) : Option Tm :=
 some (Tm.mk 3 0 a0 ([] : List Lvl) ([] : List Tm))
set_option maxRecDepth 100000 in
set_option maxHeartbeats 2000000 in
theorem m29_ok (a0 : UN) (r : Tm) (h0 : U6 a0 = some r) : Fun Try.prog 29 [.one (Jl a0)] (QD [.agg (UA r)]) := by
 unfold U6 at h0
 refine QY 9 5 Try.func29 rfl en_29 rfl (Um rfl) (fun S w => ?_)
 simp only [J7]
 refine Q5 <| Q0 <| Q9 rfl rfl (Um rfl) (Qm ZS rfl) <| Q4 <| Q3 <| Q5 <| Q0 <| Uf rfl rfl rfl <| Ue rfl rfl rfl (J9 bd_33 rfl rfl rfl rfl) <| Qy rfl rfl (Qr QW rfl rfl rfl rfl (Um rfl) rfl) <| Q4 <| Q3 <| QA ?_
 have e := Uc h0; subst e
 exact QL (fun _ _ h => h) rfl (Z0 QW rfl rfl rfl rfl .nil) (.cons (.agg (.cons (.d _) (.cons (.d _) (.cons (.d _) (.cons (.nil _) (.cons (.nil _) .nil)))))) .nil)
def m28 (a0 : Tm) (a1 : Tm) : Option Tm :=
 some (Tm.mk 6 0 ([] : List UInt8) ([] : List Lvl) [a0, a1])
set_option maxRecDepth 100000 in
set_option maxHeartbeats 2000000 in
theorem m28_ok (a0 : Tm) (a1 : Tm) (r : Tm) (h0 : m28 a0 a1 = some r) : Fun Try.prog 28 [.agg (UA a0), .agg (UA a1)] (QD [.agg (UA r)]) := by
 unfold m28 at h0
 refine QY 9 9 Try.func28 rfl en_28 rfl (Um rfl) (fun S w => ?_)
 simp only [J7]
 refine Q5 <| Q0 <| Q9 rfl rfl (Um rfl) (QN rfl) <| Q9 rfl rfl (Um rfl) (QN rfl) <| Q9 rfl rfl (Um rfl) (Qm ZS rfl) <| Q4 <| Q3 <| Q5 <| Q0 <| Ue rfl rfl rfl (QK (a0 : Tm) QW rfl rfl) <| Ue rfl rfl rfl (QK (a1 : Tm) QW rfl rfl) <| Q9 rfl rfl (Um rfl) (OpOK.lit2E (α := Tm) a0 a1 Ji ZS rfl rfl (Um rfl) (Um rfl) rfl rfl rfl (.cons (.d _) (.cons (.d _) (.cons (.d _) (.cons (.d _) (.cons (.d _) (.cons (.d _) (.cons (.d _) (.cons (.d _) (.cons (.d _) (.cons (.d _) .nil)))))))))) ⟨rfl, rfl⟩) <| Ue rfl rfl rfl (J9 bd_33 rfl rfl rfl rfl) <| Qy rfl rfl (Qr QW rfl rfl rfl rfl (Um rfl) rfl) ?_
 refine Q4 <| Q3 <| QA ?_
 have e := Uc h0; subst e
 exact QL (fun _ _ h => h) rfl (Z0 QW rfl rfl rfl rfl .nil) (.cons (.agg (.cons (.d _) (.cons (.d _) (.cons (.d _) (.cons (.nil _) (.cons (.app _ _ _) .nil)))))) .nil)
noncomputable abbrev m26_h0 (p0_ : Tm) (p1_ : Tm) : HB :=
 .cells 45 [Ux 3, Jl ([78, 97, 116] : List UInt8), Ux 0, Ux 2, Ux 0, Jl ([] : List UInt8), Uz 2 ([(⟨0, ([] : List UL)⟩ : Lvl)] : List Lvl), Uw, Ux 0, Ux 0, Jl ([] : List UInt8), Uw, Uw, Ux 0, Uv ([(⟨([78, 97, 116, 46, 122, 101, 114, 111] : List UInt8), p0_⟩ : Ctr), (⟨([78, 97, 116, 46, 115, 117, 99, 99] : List UInt8), p1_⟩ : Ctr)] : List Ctr), Ux 1, Ux p0_.kind, Ux p0_.index, Jl p0_.name, Uv p0_.levels, Uv p0_.kids, Uv ([p0_, p0_] : List Tm), Uw]
noncomputable abbrev m26_h1  : HB :=
 .cells 33 [Ux 2, Ux 0, Jl ([] : List UInt8), Uz 2 ([(⟨0, ([] : List UL)⟩ : Lvl)] : List Lvl), Uw]
def m26  : Option Dcl :=
 Option.bind (U6 ([78, 97, 116] : List UInt8)) fun (x1 : Tm) =>
 Option.bind (m28 x1 x1) fun (x2 : Tm) =>
 some (⟨3, ([78, 97, 116] : List UInt8), 0, (Tm.mk 2 0 ([] : List UInt8) [(⟨0, ([] : List UL)⟩ : Lvl)] ([] : List Tm)), (Tm.mk 0 0 ([] : List UInt8) ([] : List Lvl) ([] : List Tm)), 0, [(⟨([78, 97, 116, 46, 122, 101, 114, 111] : List UInt8), x1⟩ : Ctr), (⟨([78, 97, 116, 46, 115, 117, 99, 99] : List UInt8), x2⟩ : Ctr)], (⟨1, x1, [x1, x1]⟩ : Rcr), ([] : List Fn)⟩ : Dcl)
set_option maxRecDepth 100000 in
set_option maxHeartbeats 2000000 in
theorem m26_ok  (r : Dcl) (h0 : m26  = some r) : Fun Try.prog 26 [] (QD [.agg (UA r)]) := by
 unfold m26 at h0
 refine QY 9 21 Try.func26 rfl en_26 rfl (Um rfl) (fun S w => ?_)
 simp only [J7]
 refine Q5 <| Q0 <| Q9 rfl rfl (Um rfl) (Qm Wk rfl) <| Q4 <| Q3 <| Q5 <| Q0 ?_
 refine Qb h0 (fun x1 hx1 h0 => ?_)
 refine Q9 rfl rfl (Um rfl) (Qo (m29_ok ([78, 97, 116] : List UInt8) x1 hx1) rfl (.cons (.one (.d _)) .nil)) <| Q9 rfl rfl (Um rfl) (Qm ZS rfl) <| Qy rfl rfl (QC (x1 : Tm) QW rfl rfl rfl rfl rfl) <| Q4 <| Q3 <| Q5 <| Q0 <| Ue rfl rfl rfl (Gg bd_87 rfl ) <| Q9 rfl rfl (Um rfl) (Jt (α := Lvl) ((⟨0, ([] : List UL)⟩ : Lvl)) Zf WE rfl rfl (Um rfl) (Um rfl) rfl rfl (.cons (.d _) (.cons (.nil _) .nil)) rfl) <| Ue rfl rfl rfl (J9 bd_33 rfl rfl rfl rfl) <| Q9 rfl rfl (Um rfl) (Qm ZS rfl) <| Qy rfl rfl (Qr QW rfl rfl rfl rfl (Um rfl) rfl) <| Q4 <| Q3 ?_
 refine Q5 ?_
 refine Jv [14] [] YI (by kernel_rfl) (by kernel_rfl) (by kernel_rfl) ?_
 refine RunA.rd rfl rfl rfl (Q2 (Qi QW rfl rfl rfl rfl)) rfl <| RunA.rd rfl rfl rfl (Q2 (QK (x1 : Tm) QW rfl rfl)) rfl <| RunA.rd rfl rfl rfl (Q2 (J9 bd_71 rfl rfl rfl rfl)) rfl <| RunA.rd rfl rfl rfl (Q2 (QK (x1 : Tm) QW rfl rfl)) rfl <| RunA.rd rfl rfl rfl (Q2 (QK (x1 : Tm) QW rfl rfl)) rfl ?_
 refine Qb h0 (fun x2 hx2 h0 => ?_)
 refine RunA.rd rfl rfl rfl (Qo (m28_ok x1 x1 x2 hx2) rfl (.cons (.agg (.cons (.d _) (.cons (.d _) (.cons (.d _) (.cons (.d _) (.cons (.d _) .nil)))))) (.cons (.agg (.cons (.d _) (.cons (.d _) (.cons (.d _) (.cons (.d _) (.cons (.d _) .nil)))))) .nil))) rfl <| RunA.rd rfl rfl rfl (Q2 (J9 bd_71 rfl rfl rfl rfl)) rfl <| RunA.rd rfl rfl rfl (OpOK.data2E (α := Ctr) (⟨([78, 97, 116, 46, 122, 101, 114, 111] : List UInt8), x1⟩ : Ctr) (⟨([78, 97, 116, 46, 115, 117, 99, 99] : List UInt8), x2⟩ : Ctr) Yv Wj rfl rfl (Um rfl) rfl rfl rfl (.cons (.d _) (.cons (.d _) (.cons (.d _) (.cons (.d _) (.cons (.d _) (.cons (.d _) (.cons (.d _) (.cons (.d _) (.cons (.d _) (.cons (.d _) (.cons (.d _) (.cons (.d _) .nil)))))))))))) ⟨rfl, rfl⟩) rfl <| RunA.rd rfl rfl rfl (Q2 (QK (x1 : Tm) QW rfl rfl)) rfl <| RunA.rd rfl rfl rfl (Q2 (QK (x1 : Tm) QW rfl rfl)) rfl <| RunA.rd rfl rfl rfl (Q2 (QK (x1 : Tm) QW rfl rfl)) rfl <| RunA.rd rfl rfl rfl (OpOK.data2E (α := Tm) x1 x1 Ji ZS rfl rfl (Um rfl) rfl rfl rfl (.cons (.d _) (.cons (.d _) (.cons (.d _) (.cons (.d _) (.cons (.d _) (.cons (.d _) (.cons (.d _) (.cons (.d _) (.cons (.d _) (.cons (.d _) .nil)))))))))) ⟨rfl, rfl⟩) rfl <| RunA.rd rfl rfl rfl (Q2 (ZA bd_42 rfl rfl rfl rfl rfl)) rfl <| RunA.rd rfl rfl rfl (Q2 (Y1 bd_45 rfl (.cons rfl (.cons rfl (.cons rfl (.cons rfl (.cons rfl .nil))))) rfl)) rfl <| RunA.eff rfl rfl rfl (Yw JS rfl rfl rfl rfl rfl rfl) rfl ?_
 refine RunA.nil ⟨?ex, _, _, rfl, ?_⟩
 case ex => exact trivial
 refine JX (st' := ⟨[(0, .v (.one (.ptr 0 0)))], [(0, m26_h0 x1 x2), (1, .cells 33 (UA x1)), (3, m26_h1)], [(2, some ⟨87, 2, (Enc.encL ([(⟨0, ([] : List UL)⟩ : Lvl)] : List Lvl)).length, []⟩)], 4, 21, []⟩) (Ub (Nat.zero_le _) rfl rfl rfl rfl rfl) <| Q3 <| QA ?_
 have e := Uc h0; subst e
 exact QL (fun _ _ h => h) rfl (Z0 JS rfl rfl rfl rfl .nil) (.cons (.agg (.cons (.d _) (.cons (.d _) (.cons (.d _) (.cons (.d _) (.cons (.d _) (.cons (.d _) (.cons (.app _ _ _) (.cons (.nil _) (.cons (.d _) (.cons (.d _) (.cons (.d _) (.cons (.nil _) (.cons (.nil _) (.cons (.d _) (.cons (.d _) (.cons (.d _) (.cons (.d _) (.cons (.d _) (.cons (.d _) (.cons (.d _) (.cons (.d _) (.cons (.d _) (.cons (.nil _) .nil)))))))))))))))))))))))) .nil)
noncomputable abbrev m10_h0 (p0_ : Dcl) (p1_ : Ent × Int) (p2_ : Dcl × Int × Bool) : List (Nat × HB) :=
 [(0, .cells 45 (UA p0_)), (4, .cells 35 (UA p1_.1)), (6, .cells 45 (UA p2_.1))]
noncomputable def m10  : Option Bool :=
 Option.bind (m26 ) fun (x1 : Dcl) =>
 Option.bind (WT x1) fun (x2 : (List UN)) =>
 Option.bind (m11 ([x1])) fun (x3 : Int × Int) =>
 Option.bind (m11 ([x1, x1])) fun (x4 : Int × Int) =>
 Option.bind (m14 ([x1]) ([78, 97, 116, 46, 115, 117, 99, 99] : List UInt8)) fun (x5 : Ent × Int) =>
 Option.bind (m16 ([x1]) ([78, 97, 116, 46, 114, 101, 99] : List UInt8)) fun (x6 : Dcl × Int × Bool) =>
 Option.bind (Option.bind (WP x2 ([([78, 97, 116] : List UInt8), ([78, 97, 116, 46, 122, 101, 114, 111] : List UInt8), ([78, 97, 116, 46, 115, 117, 99, 99] : List UInt8), ([78, 97, 116, 46, 114, 101, 99] : List UInt8)])) fun (x8 : Bool) =>
 cond x8
   (cond (x3.2 == 0)
   (cond (x4.1 == 1)
   (cond (x4.2 == 8)
   (cond (x5.2 == 0)
   (cond (x5.1.kind == 4)
   (cond (x5.1.decl == 0)
   (cond (x5.1.item == 1)
   (cond (x5.1.params == 0)
   (Option.bind (U6 ([78, 97, 116] : List UInt8)) fun (x18 : Tm) =>
 Option.bind (U6 ([78, 97, 116] : List UInt8)) fun (x19 : Tm) =>
 Option.bind (m28 x18 x19) fun (x20 : Tm) =>
 Option.bind (m27 x5.1.ty x20) fun (x21 : Bool) =>
 cond x21
   (cond x6.2.2
   (some (x6.2.1 == (-2)))
   (some false))
   (some false))
   (some false))
   (some false))
   (some false))
   (some false))
   (some false))
   (some false))
   (some false))
   (some false))
   (some false)) (fun (v7 : Bool) => some v7)
set_option maxRecDepth 100000 in
set_option maxHeartbeats 2000000 in
theorem m10_ok  (r : Bool) (h0 : m10  = some r) : Fun Try.prog 10 [] (QD [.one (Uy r)]) := by
 unfold m10 at h0
 refine QY 9 95 Try.func10 rfl en_10 rfl (Um rfl) (fun S w => ?_)
 simp only [J7]
 refine Q5 <| Q0 <| Ug rfl rfl rfl <| Q4 <| Q3 <| Q5 <| Q0 ?_
 refine Qb h0 (fun x1 hx1 h0 => ?_)
 refine Q9 rfl rfl (Um rfl) (Qo (m26_ok  x1 hx1) rfl .nil) <| Q9 rfl rfl (Um rfl) (Qm Wk rfl) <| Qy rfl rfl (QC (x1 : Dcl) JS rfl rfl rfl rfl rfl) <| Q4 <| Q3 <| Q5 <| Q0 <| Ue rfl rfl rfl (QK (x1 : Dcl) JS rfl rfl) ?_
 refine Qb h0 (fun x2 hx2 h0 => ?_)
 refine Q9 rfl rfl (Um rfl) (Qo (m20_ok x1 x2 hx2) rfl (.cons (.agg (.cons (.d _) (.cons (.d _) (.cons (.d _) (.cons (.d _) (.cons (.d _) (.cons (.d _) (.cons (.d _) (.cons (.d _) (.cons (.d _) (.cons (.d _) (.cons (.d _) (.cons (.d _) (.cons (.d _) (.cons (.d _) (.cons (.d _) (.cons (.d _) (.cons (.d _) (.cons (.d _) (.cons (.d _) (.cons (.d _) (.cons (.d _) (.cons (.d _) (.cons (.d _) .nil)))))))))))))))))))))))) .nil)) <| Ug rfl rfl rfl <| Q4 <| Q3 <| Q5 <| Q0 <| Ue rfl rfl rfl (QK (x1 : Dcl) JS rfl rfl) <| Q9 rfl rfl (Um rfl) (OpOK.lit1CE (x1 : Dcl) Ke Wk rfl rfl (Um rfl) rfl) ?_
 refine Qb h0 (fun x3 hx3 h0 => ?_)
 refine Q9 rfl rfl (Um rfl) (Qo (m11_ok ([x1]) x3 hx3) rfl (.cons (.one (.app _ _ _)) .nil)) <| Uf rfl rfl rfl <| Ue rfl rfl rfl (Jg rfl rfl) <| Ue rfl rfl rfl (Jg rfl rfl) <| Ug rfl rfl rfl <| Ug rfl rfl rfl <| Q4 <| Q3 <| Q5 <| Q0 <| Ue rfl rfl rfl (QK (x1 : Dcl) JS rfl rfl) <| Ue rfl rfl rfl (QK (x1 : Dcl) JS rfl rfl) <| Q9 rfl rfl (Um rfl) (OpOK.lit2CE (x1 : Dcl) (x1 : Dcl) Ke Wk rfl rfl (Um rfl) rfl rfl) ?_
 refine Qb h0 (fun x4 hx4 h0 => ?_)
 refine Q9 rfl rfl (Um rfl) (Qo (m11_ok ([x1, x1]) x4 hx4) rfl (.cons (.one (.app _ _ _)) .nil)) <| Uf rfl rfl rfl <| Ue rfl rfl rfl (Jg rfl rfl) <| Ue rfl rfl rfl (Jg rfl rfl) <| Ug rfl rfl rfl <| Ug rfl rfl rfl <| Q4 <| Q3 <| Q5 <| Q0 <| Ue rfl rfl rfl (QK (x1 : Dcl) JS rfl rfl) <| Q9 rfl rfl (Um rfl) (OpOK.lit1CE (x1 : Dcl) Ke Wk rfl rfl (Um rfl) rfl) ?_
 refine Qb h0 (fun x5 hx5 h0 => ?_)
 refine Q9 rfl rfl (Um rfl) (Qo (m14_ok ([x1]) ([78, 97, 116, 46, 115, 117, 99, 99] : List UInt8) x5 hx5) rfl (.cons (.one (.app _ _ _)) (.cons (.one (.d _)) .nil))) <| Uf rfl rfl rfl <| Ue rfl rfl rfl (Jg rfl rfl) <| Ue rfl rfl rfl (Jg rfl rfl) <| Q9 rfl rfl (Um rfl) (Qm ZB rfl) <| Qy rfl rfl (QC (x5.1 : Ent) Jm rfl rfl rfl rfl rfl) <| Ug rfl rfl rfl <| Q4 <| Q3 <| Q5 <| Q0 <| Ue rfl rfl rfl (QK (x1 : Dcl) JS rfl rfl) <| Q9 rfl rfl (Um rfl) (OpOK.lit1CE (x1 : Dcl) Ke Wk rfl rfl (Um rfl) rfl) ?_
 refine Qb h0 (fun x6 hx6 h0 => ?_)
 refine Q9 rfl rfl (Um rfl) (Qo (m16_ok ([x1]) ([78, 97, 116, 46, 114, 101, 99] : List UInt8) x6 hx6) rfl (.cons (.one (.app _ _ _)) (.cons (.one (.d _)) .nil))) <| Uf rfl rfl rfl <| Ue rfl rfl rfl (Jg rfl rfl) <| Ue rfl rfl rfl (Jg rfl rfl) <| Ue rfl rfl rfl (Jg rfl rfl) <| Q9 rfl rfl (Um rfl) (Qm Wk rfl) <| Qy rfl rfl (QC (x6.1 : Dcl) JS rfl rfl rfl rfl rfl) <| Ug rfl rfl rfl <| Ug rfl rfl rfl <| Q4 <| Q3 <| Q5 ?_
 refine QS (fun (v7 : Bool) => ⟨[(0, .v (.one (Uy v7)))], m10_h0 x1 x5 x6, [(1, some ⟨45, 23, (Enc.encL ([x1] : List Dcl)).length, []⟩), (2, some ⟨45, 23, (Enc.encL ([x1, x1] : List Dcl)).length, []⟩), (3, some ⟨45, 23, (Enc.encL ([x1] : List Dcl)).length, []⟩), (5, some ⟨45, 23, (Enc.encL ([x1] : List Dcl)).length, []⟩)], 7, 95, []⟩) (fun (v7 : Bool) => (some v7) = some r) ?_ ?_
 refine Qb h0 (fun w1_ h1 h0 => ?_)
 refine Jv [] [] YI (by kernel_rfl) (by kernel_rfl) (by kernel_rfl) ?_
 refine RunA.rd rfl rfl rfl (Q2 (Qt rfl)) rfl <| RunA.rd rfl rfl rfl (OpOK.data4E (α := UN) ([78, 97, 116] : List UInt8) ([78, 97, 116, 46, 122, 101, 114, 111] : List UInt8) ([78, 97, 116, 46, 115, 117, 99, 99] : List UInt8) ([78, 97, 116, 46, 114, 101, 99] : List UInt8) Ju Wo rfl rfl (Um rfl) rfl rfl rfl rfl rfl (.cons (.d _) (.cons (.d _) (.cons (.d _) (.cons (.d _) .nil)))) ⟨rfl, rfl, rfl, rfl⟩) rfl ?_
 refine Qb h1 (fun x8 hx8 h1 => ?_)
 refine RunA.rd rfl rfl rfl (Qo (m22_ok x2 ([([78, 97, 116] : List UInt8), ([78, 97, 116, 46, 122, 101, 114, 111] : List UInt8), ([78, 97, 116, 46, 115, 117, 99, 99] : List UInt8), ([78, 97, 116, 46, 114, 101, 99] : List UInt8)]) x8 hx8) rfl (.cons (.one (.d _)) (.cons (.one (.d _)) .nil))) rfl ?_
 refine Y0 (c := x8) rfl rfl rfl (Q2 (Qt rfl)) rfl (fun c9 => ?_) (fun c9 => ?_)
 replace h1 := Qk c9 h1
 refine RunA.rd rfl rfl rfl (Q2 (Qt rfl)) rfl <| RunA.rd rfl rfl rfl (Q2 (Q7 rfl rfl rfl)) rfl <| RunA.rd rfl rfl rfl (Q2 (Qh rfl rfl)) rfl ?_
 refine Y0 (c := (x3.2 == 0)) rfl rfl rfl (Q2 (Qt rfl)) rfl (fun c10 => ?_) (fun c10 => ?_)
 replace h1 := Qk c10 h1
 refine RunA.rd rfl rfl rfl (Q2 (Qt rfl)) rfl <| RunA.rd rfl rfl rfl (Q2 (Q7 rfl rfl rfl)) rfl <| RunA.rd rfl rfl rfl (Q2 (Qh rfl rfl)) rfl ?_
 refine Y0 (c := (x4.1 == 1)) rfl rfl rfl (Q2 (Qt rfl)) rfl (fun c11 => ?_) (fun c11 => ?_)
 replace h1 := Qk c11 h1
 refine RunA.rd rfl rfl rfl (Q2 (Qt rfl)) rfl <| RunA.rd rfl rfl rfl (Q2 (Q7 rfl rfl rfl)) rfl <| RunA.rd rfl rfl rfl (Q2 (Qh rfl rfl)) rfl ?_
 refine Y0 (c := (x4.2 == 8)) rfl rfl rfl (Q2 (Qt rfl)) rfl (fun c12 => ?_) (fun c12 => ?_)
 replace h1 := Qk c12 h1
 refine RunA.rd rfl rfl rfl (Q2 (Qt rfl)) rfl <| RunA.rd rfl rfl rfl (Q2 (Q7 rfl rfl rfl)) rfl <| RunA.rd rfl rfl rfl (Q2 (Qh rfl rfl)) rfl ?_
 refine Y0 (c := (x5.2 == 0)) rfl rfl rfl (Q2 (Qt rfl)) rfl (fun c13 => ?_) (fun c13 => ?_)
 replace h1 := Qk c13 h1
 refine RunA.rd rfl rfl rfl (Q2 (Q1 ZH rfl)) rfl <| RunA.rd rfl rfl rfl (Q2 (Q6 QZ rfl rfl rfl)) rfl <| RunA.rd rfl rfl rfl (Q2 (Q7 rfl rfl rfl)) rfl <| RunA.rd rfl rfl rfl (Q2 (Qh rfl rfl)) rfl ?_
 refine Y0 (c := (x5.1.kind == 4)) rfl rfl rfl (Q2 (Qt rfl)) rfl (fun c14 => ?_) (fun c14 => ?_)
 replace h1 := Qk c14 h1
 refine RunA.rd rfl rfl rfl (Q2 (Q1 XH rfl)) rfl <| RunA.rd rfl rfl rfl (Q2 (Q6 QZ rfl rfl rfl)) rfl <| RunA.rd rfl rfl rfl (Q2 (Q7 rfl rfl rfl)) rfl <| RunA.rd rfl rfl rfl (Q2 (Qh rfl rfl)) rfl ?_
 refine Y0 (c := (x5.1.decl == 0)) rfl rfl rfl (Q2 (Qt rfl)) rfl (fun c15 => ?_) (fun c15 => ?_)
 replace h1 := Qk c15 h1
 refine RunA.rd rfl rfl rfl (Q2 (Q1 fo_35_2 rfl)) rfl <| RunA.rd rfl rfl rfl (Q2 (Q6 QZ rfl rfl rfl)) rfl <| RunA.rd rfl rfl rfl (Q2 (Q7 rfl rfl rfl)) rfl <| RunA.rd rfl rfl rfl (Q2 (Qh rfl rfl)) rfl ?_
 refine Y0 (c := (x5.1.item == 1)) rfl rfl rfl (Q2 (Qt rfl)) rfl (fun c16 => ?_) (fun c16 => ?_)
 replace h1 := Qk c16 h1
 refine RunA.rd rfl rfl rfl (Q2 (Q1 fo_35_3 rfl)) rfl <| RunA.rd rfl rfl rfl (Q2 (Q6 QZ rfl rfl rfl)) rfl <| RunA.rd rfl rfl rfl (Q2 (Q7 rfl rfl rfl)) rfl <| RunA.rd rfl rfl rfl (Q2 (Qh rfl rfl)) rfl ?_
 refine Y0 (c := (x5.1.params == 0)) rfl rfl rfl (Q2 (Qt rfl)) rfl (fun c17 => ?_) (fun c17 => ?_)
 replace h1 := Qk c17 h1
 refine RunA.rd rfl rfl rfl (Q2 (Q1 fo_35_4 rfl)) rfl <| RunA.rd rfl rfl rfl (Q2 (Qi QW rfl rfl rfl rfl)) rfl ?_
 refine Qb h1 (fun x18 hx18 h1 => ?_)
 refine RunA.rd rfl rfl rfl (Qo (m29_ok ([78, 97, 116] : List UInt8) x18 hx18) rfl (.cons (.one (.d _)) .nil)) rfl ?_
 refine Qb h1 (fun x19 hx19 h1 => ?_)
 refine RunA.rd rfl rfl rfl (Qo (m29_ok ([78, 97, 116] : List UInt8) x19 hx19) rfl (.cons (.one (.d _)) .nil)) rfl ?_
 refine Qb h1 (fun x20 hx20 h1 => ?_)
 refine RunA.rd rfl rfl rfl (Qo (m28_ok x18 x19 x20 hx20) rfl (.cons (.agg (.cons (.d _) (.cons (.d _) (.cons (.d _) (.cons (.d _) (.cons (.d _) .nil)))))) (.cons (.agg (.cons (.d _) (.cons (.d _) (.cons (.d _) (.cons (.d _) (.cons (.d _) .nil)))))) .nil))) rfl ?_
 refine Qb h1 (fun x21 hx21 h1 => ?_)
 refine RunA.rd rfl rfl rfl (Qo (m27_ok x5.1.ty x20 x21 hx21) rfl (.cons (.agg (.cons (.d _) (.cons (.d _) (.cons (.d _) (.cons (.d _) (.cons (.d _) .nil)))))) (.cons (.agg (.cons (.d _) (.cons (.d _) (.cons (.d _) (.cons (.d _) (.cons (.d _) .nil)))))) .nil))) rfl <| RunA.rd rfl rfl rfl (Q2 (Qh rfl rfl)) rfl ?_
 refine Y0 (c := x21) rfl rfl rfl (Q2 (Qt rfl)) rfl (fun c22 => ?_) (fun c22 => ?_)
 replace h1 := Qk c22 h1
 refine RunA.rd rfl rfl rfl (Q2 (Qt rfl)) rfl <| RunA.rd rfl rfl rfl (Q2 (Qh rfl rfl)) rfl ?_
 refine Y0 (c := x6.2.2) rfl rfl rfl (Q2 (Qt rfl)) rfl (fun c23 => ?_) (fun c23 => ?_)
 replace h1 := Qk c23 h1
 refine RunA.rd rfl rfl rfl (Q2 (Qt rfl)) rfl <| RunA.rd rfl rfl rfl (Q2 (Q7 rfl rfl rfl)) rfl <| RunA.rd rfl rfl rfl (Q2 (Qh rfl rfl)) rfl <| RunA.rd rfl rfl rfl (Q2 (JK rfl)) rfl ?_
 refine RunA.nil ⟨?ex, _, _, rfl, ?_⟩
 case ex => exact trivial
 have e := Uc h1; subst e
 exact Qc (x6.2.1 == (-2)) (Ub (Nat.zero_le _) rfl rfl rfl rfl rfl) h0
 replace h1 := Ql c23 h1
 refine RunA.no rfl rfl rfl rfl <| RunA.no rfl rfl rfl rfl <| RunA.rd rfl rfl rfl (Q2 (Qd rfl rfl)) rfl <| RunA.rd rfl rfl rfl (Q2 (JK rfl)) rfl ?_
 refine RunA.nil ⟨?ex, _, _, rfl, ?_⟩
 case ex => exact trivial
 have e := Uc h1; subst e
 exact Qc false (Ub (Nat.zero_le _) rfl rfl rfl rfl rfl) h0
 replace h1 := Ql c22 h1
 refine RunA.no rfl rfl rfl rfl <| RunA.rd rfl rfl rfl (Q2 (Qd rfl rfl)) rfl <| RunA.rd rfl rfl rfl (Q2 (Qt rfl)) rfl <| RunA.no rfl rfl rfl rfl <| RunA.no rfl rfl rfl rfl <| RunA.rd rfl rfl rfl (Q2 (Qd rfl rfl)) rfl <| RunA.rd rfl rfl rfl (Q2 (JK rfl)) rfl ?_
 refine RunA.nil ⟨?ex, _, _, rfl, ?_⟩
 case ex => exact trivial
 have e := Uc h1; subst e
 exact Qc false (Ub (Nat.zero_le _) rfl rfl rfl rfl rfl) h0
 replace h1 := Ql c17 h1
 refine RunA.no rfl rfl rfl rfl <| RunA.no rfl rfl rfl rfl <| RunA.no rfl rfl rfl rfl <| RunA.no rfl rfl rfl rfl <| RunA.no rfl rfl rfl rfl <| RunA.no rfl rfl rfl rfl <| RunA.rd rfl rfl rfl (Q2 (Qd rfl rfl)) rfl <| RunA.rd rfl rfl rfl (Q2 (Qt rfl)) rfl <| RunA.no rfl rfl rfl rfl <| RunA.rd rfl rfl rfl (Q2 (Qd rfl rfl)) rfl <| RunA.rd rfl rfl rfl (Q2 (Qt rfl)) rfl <| RunA.no rfl rfl rfl rfl <| RunA.no rfl rfl rfl rfl <| RunA.rd rfl rfl rfl (Q2 (Qd rfl rfl)) rfl ?_
 refine RunA.rd rfl rfl rfl (Q2 (JK rfl)) rfl ?_
 refine RunA.nil ⟨?ex, _, _, rfl, ?_⟩
 case ex => exact trivial
 have e := Uc h1; subst e
 exact Qc false (Ub (Nat.zero_le _) rfl rfl rfl rfl rfl) h0
 replace h1 := Ql c16 h1
 refine RunA.no rfl rfl rfl rfl <| RunA.no rfl rfl rfl rfl <| RunA.no rfl rfl rfl rfl <| RunA.rd rfl rfl rfl (Q2 (Qd rfl rfl)) rfl <| RunA.rd rfl rfl rfl (Q2 (Qt rfl)) rfl <| RunA.no rfl rfl rfl rfl <| RunA.no rfl rfl rfl rfl <| RunA.no rfl rfl rfl rfl <| RunA.no rfl rfl rfl rfl <| RunA.no rfl rfl rfl rfl <| RunA.no rfl rfl rfl rfl <| RunA.rd rfl rfl rfl (Q2 (Qd rfl rfl)) rfl <| RunA.rd rfl rfl rfl (Q2 (Qt rfl)) rfl <| RunA.no rfl rfl rfl rfl ?_
 refine RunA.rd rfl rfl rfl (Q2 (Qd rfl rfl)) rfl <| RunA.rd rfl rfl rfl (Q2 (Qt rfl)) rfl <| RunA.no rfl rfl rfl rfl <| RunA.no rfl rfl rfl rfl <| RunA.rd rfl rfl rfl (Q2 (Qd rfl rfl)) rfl <| RunA.rd rfl rfl rfl (Q2 (JK rfl)) rfl ?_
 refine RunA.nil ⟨?ex, _, _, rfl, ?_⟩
 case ex => exact trivial
 have e := Uc h1; subst e
 exact Qc false (Ub (Nat.zero_le _) rfl rfl rfl rfl rfl) h0
 replace h1 := Ql c15 h1
 refine RunA.no rfl rfl rfl rfl <| RunA.no rfl rfl rfl rfl <| RunA.no rfl rfl rfl rfl <| RunA.rd rfl rfl rfl (Q2 (Qd rfl rfl)) rfl <| RunA.rd rfl rfl rfl (Q2 (Qt rfl)) rfl <| RunA.no rfl rfl rfl rfl <| RunA.no rfl rfl rfl rfl <| RunA.no rfl rfl rfl rfl <| RunA.rd rfl rfl rfl (Q2 (Qd rfl rfl)) rfl <| RunA.rd rfl rfl rfl (Q2 (Qt rfl)) rfl <| RunA.no rfl rfl rfl rfl <| RunA.no rfl rfl rfl rfl <| RunA.no rfl rfl rfl rfl <| RunA.no rfl rfl rfl rfl ?_
 refine RunA.no rfl rfl rfl rfl <| RunA.no rfl rfl rfl rfl <| RunA.rd rfl rfl rfl (Q2 (Qd rfl rfl)) rfl <| RunA.rd rfl rfl rfl (Q2 (Qt rfl)) rfl <| RunA.no rfl rfl rfl rfl <| RunA.rd rfl rfl rfl (Q2 (Qd rfl rfl)) rfl <| RunA.rd rfl rfl rfl (Q2 (Qt rfl)) rfl <| RunA.no rfl rfl rfl rfl <| RunA.no rfl rfl rfl rfl <| RunA.rd rfl rfl rfl (Q2 (Qd rfl rfl)) rfl <| RunA.rd rfl rfl rfl (Q2 (JK rfl)) rfl ?_
 refine RunA.nil ⟨?ex, _, _, rfl, ?_⟩
 case ex => exact trivial
 have e := Uc h1; subst e
 exact Qc false (Ub (Nat.zero_le _) rfl rfl rfl rfl rfl) h0
 replace h1 := Ql c14 h1
 refine RunA.no rfl rfl rfl rfl <| RunA.no rfl rfl rfl rfl <| RunA.no rfl rfl rfl rfl <| RunA.rd rfl rfl rfl (Q2 (Qd rfl rfl)) rfl <| RunA.rd rfl rfl rfl (Q2 (Qt rfl)) rfl <| RunA.no rfl rfl rfl rfl <| RunA.no rfl rfl rfl rfl <| RunA.no rfl rfl rfl rfl <| RunA.rd rfl rfl rfl (Q2 (Qd rfl rfl)) rfl <| RunA.rd rfl rfl rfl (Q2 (Qt rfl)) rfl <| RunA.no rfl rfl rfl rfl <| RunA.no rfl rfl rfl rfl <| RunA.no rfl rfl rfl rfl <| RunA.rd rfl rfl rfl (Q2 (Qd rfl rfl)) rfl ?_
 refine RunA.rd rfl rfl rfl (Q2 (Qt rfl)) rfl <| RunA.no rfl rfl rfl rfl <| RunA.no rfl rfl rfl rfl <| RunA.no rfl rfl rfl rfl <| RunA.no rfl rfl rfl rfl <| RunA.no rfl rfl rfl rfl <| RunA.no rfl rfl rfl rfl <| RunA.rd rfl rfl rfl (Q2 (Qd rfl rfl)) rfl <| RunA.rd rfl rfl rfl (Q2 (Qt rfl)) rfl <| RunA.no rfl rfl rfl rfl <| RunA.rd rfl rfl rfl (Q2 (Qd rfl rfl)) rfl <| RunA.rd rfl rfl rfl (Q2 (Qt rfl)) rfl <| RunA.no rfl rfl rfl rfl <| RunA.no rfl rfl rfl rfl ?_
 refine RunA.rd rfl rfl rfl (Q2 (Qd rfl rfl)) rfl <| RunA.rd rfl rfl rfl (Q2 (JK rfl)) rfl ?_
 refine RunA.nil ⟨?ex, _, _, rfl, ?_⟩
 case ex => exact trivial
 have e := Uc h1; subst e
 exact Qc false (Ub (Nat.zero_le _) rfl rfl rfl rfl rfl) h0
 replace h1 := Ql c13 h1
 refine RunA.no rfl rfl rfl rfl <| RunA.no rfl rfl rfl rfl <| RunA.no rfl rfl rfl rfl <| RunA.rd rfl rfl rfl (Q2 (Qd rfl rfl)) rfl <| RunA.rd rfl rfl rfl (Q2 (Qt rfl)) rfl <| RunA.no rfl rfl rfl rfl <| RunA.no rfl rfl rfl rfl <| RunA.no rfl rfl rfl rfl <| RunA.rd rfl rfl rfl (Q2 (Qd rfl rfl)) rfl <| RunA.rd rfl rfl rfl (Q2 (Qt rfl)) rfl <| RunA.no rfl rfl rfl rfl <| RunA.no rfl rfl rfl rfl <| RunA.no rfl rfl rfl rfl <| RunA.rd rfl rfl rfl (Q2 (Qd rfl rfl)) rfl ?_
 refine RunA.rd rfl rfl rfl (Q2 (Qt rfl)) rfl <| RunA.no rfl rfl rfl rfl <| RunA.no rfl rfl rfl rfl <| RunA.no rfl rfl rfl rfl <| RunA.rd rfl rfl rfl (Q2 (Qd rfl rfl)) rfl <| RunA.rd rfl rfl rfl (Q2 (Qt rfl)) rfl <| RunA.no rfl rfl rfl rfl <| RunA.no rfl rfl rfl rfl <| RunA.no rfl rfl rfl rfl <| RunA.no rfl rfl rfl rfl <| RunA.no rfl rfl rfl rfl <| RunA.no rfl rfl rfl rfl <| RunA.rd rfl rfl rfl (Q2 (Qd rfl rfl)) rfl <| RunA.rd rfl rfl rfl (Q2 (Qt rfl)) rfl ?_
 refine RunA.no rfl rfl rfl rfl <| RunA.rd rfl rfl rfl (Q2 (Qd rfl rfl)) rfl <| RunA.rd rfl rfl rfl (Q2 (Qt rfl)) rfl <| RunA.no rfl rfl rfl rfl <| RunA.no rfl rfl rfl rfl <| RunA.rd rfl rfl rfl (Q2 (Qd rfl rfl)) rfl <| RunA.rd rfl rfl rfl (Q2 (JK rfl)) rfl ?_
 refine RunA.nil ⟨?ex, _, _, rfl, ?_⟩
 case ex => exact trivial
 have e := Uc h1; subst e
 exact Qc false (Ub (Nat.zero_le _) rfl rfl rfl rfl rfl) h0
 replace h1 := Ql c12 h1
 refine RunA.no rfl rfl rfl rfl <| RunA.no rfl rfl rfl rfl <| RunA.rd rfl rfl rfl (Q2 (Qd rfl rfl)) rfl <| RunA.rd rfl rfl rfl (Q2 (Qt rfl)) rfl <| RunA.no rfl rfl rfl rfl <| RunA.no rfl rfl rfl rfl <| RunA.no rfl rfl rfl rfl <| RunA.rd rfl rfl rfl (Q2 (Qd rfl rfl)) rfl <| RunA.rd rfl rfl rfl (Q2 (Qt rfl)) rfl <| RunA.no rfl rfl rfl rfl <| RunA.no rfl rfl rfl rfl <| RunA.no rfl rfl rfl rfl <| RunA.rd rfl rfl rfl (Q2 (Qd rfl rfl)) rfl <| RunA.rd rfl rfl rfl (Q2 (Qt rfl)) rfl ?_
 refine RunA.no rfl rfl rfl rfl <| RunA.no rfl rfl rfl rfl <| RunA.no rfl rfl rfl rfl <| RunA.rd rfl rfl rfl (Q2 (Qd rfl rfl)) rfl <| RunA.rd rfl rfl rfl (Q2 (Qt rfl)) rfl <| RunA.no rfl rfl rfl rfl <| RunA.no rfl rfl rfl rfl <| RunA.no rfl rfl rfl rfl <| RunA.rd rfl rfl rfl (Q2 (Qd rfl rfl)) rfl <| RunA.rd rfl rfl rfl (Q2 (Qt rfl)) rfl <| RunA.no rfl rfl rfl rfl <| RunA.no rfl rfl rfl rfl <| RunA.no rfl rfl rfl rfl <| RunA.no rfl rfl rfl rfl ?_
 refine RunA.no rfl rfl rfl rfl <| RunA.no rfl rfl rfl rfl <| RunA.rd rfl rfl rfl (Q2 (Qd rfl rfl)) rfl <| RunA.rd rfl rfl rfl (Q2 (Qt rfl)) rfl <| RunA.no rfl rfl rfl rfl <| RunA.rd rfl rfl rfl (Q2 (Qd rfl rfl)) rfl <| RunA.rd rfl rfl rfl (Q2 (Qt rfl)) rfl <| RunA.no rfl rfl rfl rfl <| RunA.no rfl rfl rfl rfl <| RunA.rd rfl rfl rfl (Q2 (Qd rfl rfl)) rfl <| RunA.rd rfl rfl rfl (Q2 (JK rfl)) rfl ?_
 refine RunA.nil ⟨?ex, _, _, rfl, ?_⟩
 case ex => exact trivial
 have e := Uc h1; subst e
 exact Qc false (Ub (Nat.zero_le _) rfl rfl rfl rfl rfl) h0
 replace h1 := Ql c11 h1
 refine RunA.no rfl rfl rfl rfl <| RunA.no rfl rfl rfl rfl <| RunA.rd rfl rfl rfl (Q2 (Qd rfl rfl)) rfl <| RunA.rd rfl rfl rfl (Q2 (Qt rfl)) rfl <| RunA.no rfl rfl rfl rfl <| RunA.no rfl rfl rfl rfl <| RunA.rd rfl rfl rfl (Q2 (Qd rfl rfl)) rfl <| RunA.rd rfl rfl rfl (Q2 (Qt rfl)) rfl <| RunA.no rfl rfl rfl rfl <| RunA.no rfl rfl rfl rfl <| RunA.no rfl rfl rfl rfl <| RunA.rd rfl rfl rfl (Q2 (Qd rfl rfl)) rfl <| RunA.rd rfl rfl rfl (Q2 (Qt rfl)) rfl <| RunA.no rfl rfl rfl rfl ?_
 refine RunA.no rfl rfl rfl rfl <| RunA.no rfl rfl rfl rfl <| RunA.rd rfl rfl rfl (Q2 (Qd rfl rfl)) rfl <| RunA.rd rfl rfl rfl (Q2 (Qt rfl)) rfl <| RunA.no rfl rfl rfl rfl <| RunA.no rfl rfl rfl rfl <| RunA.no rfl rfl rfl rfl <| RunA.rd rfl rfl rfl (Q2 (Qd rfl rfl)) rfl <| RunA.rd rfl rfl rfl (Q2 (Qt rfl)) rfl <| RunA.no rfl rfl rfl rfl <| RunA.no rfl rfl rfl rfl <| RunA.no rfl rfl rfl rfl <| RunA.rd rfl rfl rfl (Q2 (Qd rfl rfl)) rfl <| RunA.rd rfl rfl rfl (Q2 (Qt rfl)) rfl ?_
 refine RunA.no rfl rfl rfl rfl <| RunA.no rfl rfl rfl rfl <| RunA.no rfl rfl rfl rfl <| RunA.no rfl rfl rfl rfl <| RunA.no rfl rfl rfl rfl <| RunA.no rfl rfl rfl rfl <| RunA.rd rfl rfl rfl (Q2 (Qd rfl rfl)) rfl <| RunA.rd rfl rfl rfl (Q2 (Qt rfl)) rfl <| RunA.no rfl rfl rfl rfl <| RunA.rd rfl rfl rfl (Q2 (Qd rfl rfl)) rfl <| RunA.rd rfl rfl rfl (Q2 (Qt rfl)) rfl <| RunA.no rfl rfl rfl rfl <| RunA.no rfl rfl rfl rfl <| RunA.rd rfl rfl rfl (Q2 (Qd rfl rfl)) rfl ?_
 refine RunA.rd rfl rfl rfl (Q2 (JK rfl)) rfl ?_
 refine RunA.nil ⟨?ex, _, _, rfl, ?_⟩
 case ex => exact trivial
 have e := Uc h1; subst e
 exact Qc false (Ub (Nat.zero_le _) rfl rfl rfl rfl rfl) h0
 replace h1 := Ql c10 h1
 refine RunA.no rfl rfl rfl rfl <| RunA.no rfl rfl rfl rfl <| RunA.rd rfl rfl rfl (Q2 (Qd rfl rfl)) rfl <| RunA.rd rfl rfl rfl (Q2 (Qt rfl)) rfl <| RunA.no rfl rfl rfl rfl <| RunA.no rfl rfl rfl rfl <| RunA.rd rfl rfl rfl (Q2 (Qd rfl rfl)) rfl <| RunA.rd rfl rfl rfl (Q2 (Qt rfl)) rfl <| RunA.no rfl rfl rfl rfl <| RunA.no rfl rfl rfl rfl <| RunA.rd rfl rfl rfl (Q2 (Qd rfl rfl)) rfl <| RunA.rd rfl rfl rfl (Q2 (Qt rfl)) rfl <| RunA.no rfl rfl rfl rfl <| RunA.no rfl rfl rfl rfl ?_
 refine RunA.no rfl rfl rfl rfl <| RunA.rd rfl rfl rfl (Q2 (Qd rfl rfl)) rfl <| RunA.rd rfl rfl rfl (Q2 (Qt rfl)) rfl <| RunA.no rfl rfl rfl rfl <| RunA.no rfl rfl rfl rfl <| RunA.no rfl rfl rfl rfl <| RunA.rd rfl rfl rfl (Q2 (Qd rfl rfl)) rfl <| RunA.rd rfl rfl rfl (Q2 (Qt rfl)) rfl <| RunA.no rfl rfl rfl rfl <| RunA.no rfl rfl rfl rfl <| RunA.no rfl rfl rfl rfl <| RunA.rd rfl rfl rfl (Q2 (Qd rfl rfl)) rfl <| RunA.rd rfl rfl rfl (Q2 (Qt rfl)) rfl <| RunA.no rfl rfl rfl rfl ?_
 refine RunA.no rfl rfl rfl rfl <| RunA.no rfl rfl rfl rfl <| RunA.rd rfl rfl rfl (Q2 (Qd rfl rfl)) rfl <| RunA.rd rfl rfl rfl (Q2 (Qt rfl)) rfl <| RunA.no rfl rfl rfl rfl <| RunA.no rfl rfl rfl rfl <| RunA.no rfl rfl rfl rfl <| RunA.no rfl rfl rfl rfl <| RunA.no rfl rfl rfl rfl <| RunA.no rfl rfl rfl rfl <| RunA.rd rfl rfl rfl (Q2 (Qd rfl rfl)) rfl <| RunA.rd rfl rfl rfl (Q2 (Qt rfl)) rfl <| RunA.no rfl rfl rfl rfl <| RunA.rd rfl rfl rfl (Q2 (Qd rfl rfl)) rfl ?_
 refine RunA.rd rfl rfl rfl (Q2 (Qt rfl)) rfl <| RunA.no rfl rfl rfl rfl <| RunA.no rfl rfl rfl rfl <| RunA.rd rfl rfl rfl (Q2 (Qd rfl rfl)) rfl <| RunA.rd rfl rfl rfl (Q2 (JK rfl)) rfl ?_
 refine RunA.nil ⟨?ex, _, _, rfl, ?_⟩
 case ex => exact trivial
 have e := Uc h1; subst e
 exact Qc false (Ub (Nat.zero_le _) rfl rfl rfl rfl rfl) h0
 replace h1 := Ql c9 h1
 refine RunA.no rfl rfl rfl rfl <| RunA.no rfl rfl rfl rfl <| RunA.rd rfl rfl rfl (Q2 (Qd rfl rfl)) rfl <| RunA.rd rfl rfl rfl (Q2 (Qt rfl)) rfl <| RunA.no rfl rfl rfl rfl <| RunA.no rfl rfl rfl rfl <| RunA.rd rfl rfl rfl (Q2 (Qd rfl rfl)) rfl <| RunA.rd rfl rfl rfl (Q2 (Qt rfl)) rfl <| RunA.no rfl rfl rfl rfl <| RunA.no rfl rfl rfl rfl <| RunA.rd rfl rfl rfl (Q2 (Qd rfl rfl)) rfl <| RunA.rd rfl rfl rfl (Q2 (Qt rfl)) rfl <| RunA.no rfl rfl rfl rfl <| RunA.no rfl rfl rfl rfl ?_
 refine RunA.rd rfl rfl rfl (Q2 (Qd rfl rfl)) rfl <| RunA.rd rfl rfl rfl (Q2 (Qt rfl)) rfl <| RunA.no rfl rfl rfl rfl <| RunA.no rfl rfl rfl rfl <| RunA.no rfl rfl rfl rfl <| RunA.rd rfl rfl rfl (Q2 (Qd rfl rfl)) rfl <| RunA.rd rfl rfl rfl (Q2 (Qt rfl)) rfl <| RunA.no rfl rfl rfl rfl <| RunA.no rfl rfl rfl rfl <| RunA.no rfl rfl rfl rfl <| RunA.rd rfl rfl rfl (Q2 (Qd rfl rfl)) rfl <| RunA.rd rfl rfl rfl (Q2 (Qt rfl)) rfl <| RunA.no rfl rfl rfl rfl <| RunA.no rfl rfl rfl rfl ?_
 refine RunA.no rfl rfl rfl rfl <| RunA.rd rfl rfl rfl (Q2 (Qd rfl rfl)) rfl <| RunA.rd rfl rfl rfl (Q2 (Qt rfl)) rfl <| RunA.no rfl rfl rfl rfl <| RunA.no rfl rfl rfl rfl <| RunA.no rfl rfl rfl rfl <| RunA.rd rfl rfl rfl (Q2 (Qd rfl rfl)) rfl <| RunA.rd rfl rfl rfl (Q2 (Qt rfl)) rfl <| RunA.no rfl rfl rfl rfl <| RunA.no rfl rfl rfl rfl <| RunA.no rfl rfl rfl rfl <| RunA.no rfl rfl rfl rfl <| RunA.no rfl rfl rfl rfl <| RunA.no rfl rfl rfl rfl ?_
 refine RunA.rd rfl rfl rfl (Q2 (Qd rfl rfl)) rfl <| RunA.rd rfl rfl rfl (Q2 (Qt rfl)) rfl <| RunA.no rfl rfl rfl rfl <| RunA.rd rfl rfl rfl (Q2 (Qd rfl rfl)) rfl <| RunA.rd rfl rfl rfl (Q2 (Qt rfl)) rfl <| RunA.no rfl rfl rfl rfl <| RunA.no rfl rfl rfl rfl <| RunA.rd rfl rfl rfl (Q2 (Qd rfl rfl)) rfl <| RunA.rd rfl rfl rfl (Q2 (JK rfl)) rfl ?_
 refine RunA.nil ⟨?ex, _, _, rfl, ?_⟩
 case ex => exact trivial
 have e := Uc h1; subst e
 exact Qc false (Ub (Nat.zero_le _) rfl rfl rfl rfl rfl) h0
 intro v7 h0
 refine Q3 <| QA ?_
 have e := Uc h0; subst e
 exact QL (fun _ _ h => h) rfl (Qz rfl .nil) (.cons (.one (.d _)) .nil)
theorem m10_true : m10 = some true := by kernel_rfl
theorem awake_fun : Fun Try.prog 10 [] (QD [.one (Uy true)]) := m10_ok true m10_true
end Go.Proofs.Ytafddfoefeploaa
namespace Go.Proofs.Ytafddfoefeploaa
open Go.RowKit Go.Shelf
set_option linter.unusedSimpArgs false
set_option linter.unusedVariables false
theorem en_7 : J3 Try.prog 7 := enters_of Try.func7 (by kernel_rfl) rfl
def Uk (a0 : Dcl) : Option Bool :=
 Option.bind (U7 a0) fun (x1 : Bool) =>
 cond (!x1)
   (some true)
   (Option.bind (Option.bind (WT a0) fun (x4 : (List UN)) =>
 Option.bind (WO a0) fun (x5 : (List UN)) =>
 Option.bind (WP x4 x5) fun (x6 : Bool) =>
 cond x6
   (Option.bind (U2 a0) fun (x8 : (List UN)) =>
 Option.bind (U1 a0) fun (x9 : (List UN)) =>
 Option.bind (WP x8 x9) fun (x10 : Bool) =>
 some x10)
   (some false)) (fun (v3 : Bool) => some v3))
set_option maxRecDepth 100000 in
set_option maxHeartbeats 2000000 in
theorem m7_ok (a0 : Dcl) (r : Bool) (h0 : Uk a0 = some r) : Fun Try.prog 7 [.agg (UA a0)] (QD [.one (Uy r)]) := by
 unfold Uk at h0
 refine QY 9 22 Try.func7 rfl en_7 rfl (Um rfl) (fun S w => ?_)
 simp only [J7]
 refine Q5 <| Q0 <| Q9 rfl rfl (Um rfl) (QN rfl) <| Ug rfl rfl rfl <| Q4 <| Q3 <| Q5 <| Q5 <| Q0 <| Ue rfl rfl rfl (QK (a0 : Dcl) JS rfl rfl) ?_
 refine Qb h0 (fun x1 hx1 h0 => ?_)
 refine Q9 rfl rfl (Um rfl) (Qo (m21_ok a0 x1 hx1) rfl (.cons (.agg (.cons (.d _) (.cons (.d _) (.cons (.d _) (.cons (.d _) (.cons (.d _) (.cons (.d _) (.cons (.d _) (.cons (.d _) (.cons (.d _) (.cons (.d _) (.cons (.d _) (.cons (.d _) (.cons (.d _) (.cons (.d _) (.cons (.d _) (.cons (.d _) (.cons (.d _) (.cons (.d _) (.cons (.d _) (.cons (.d _) (.cons (.d _) (.cons (.d _) (.cons (.d _) .nil)))))))))))))))))))))))) .nil)) <| Ue rfl rfl rfl (Jb rfl) <| Q4 <| Q3 ?_
 refine Qg (b := (!x1)) rfl (fun c2 => ?_) (fun c2 => ?_)
 replace h0 := Qk c2 h0
 refine Q5 <| Q0 <| Q9 rfl rfl (Um rfl) (Qo (awake_fun) rfl .nil) <| Ug rfl rfl rfl <| Q4 <| Q3 <| QA ?_
 have e := Uc h0; subst e
 exact QL (fun _ _ h => h) rfl (Qz rfl .nil) (.cons (.one (.d _)) .nil)
 replace h0 := Ql c2 h0
 refine Qj <| Q3 <| Q5 ?_
 refine QS (fun (v3 : Bool) => ⟨[(2, .v (.one (Uy v3)))], [(0, .cells 45 (UA a0))], [], 1, 22, []⟩) (fun (v3 : Bool) => (some v3) = some r) ?_ ?_
 refine Qb h0 (fun w1_ h1 h0 => ?_)
 refine Jv [] [] YI (by kernel_rfl) (by kernel_rfl) (by kernel_rfl) ?_
 refine RunA.rd rfl rfl rfl (Qo (awake_fun) rfl .nil) rfl <| RunA.rd rfl rfl rfl (Q2 (Qt rfl)) rfl <| RunA.rd rfl rfl rfl (Q2 (QK (a0 : Dcl) JS rfl rfl)) rfl ?_
 refine Qb h1 (fun x4 hx4 h1 => ?_)
 refine RunA.rd rfl rfl rfl (Qo (m20_ok a0 x4 hx4) rfl (.cons (.agg (.cons (.d _) (.cons (.d _) (.cons (.d _) (.cons (.d _) (.cons (.d _) (.cons (.d _) (.cons (.d _) (.cons (.d _) (.cons (.d _) (.cons (.d _) (.cons (.d _) (.cons (.d _) (.cons (.d _) (.cons (.d _) (.cons (.d _) (.cons (.d _) (.cons (.d _) (.cons (.d _) (.cons (.d _) (.cons (.d _) (.cons (.d _) (.cons (.d _) (.cons (.d _) .nil)))))))))))))))))))))))) .nil)) rfl <| RunA.rd rfl rfl rfl (Q2 (QK (a0 : Dcl) JS rfl rfl)) rfl ?_
 refine Qb h1 (fun x5 hx5 h1 => ?_)
 refine RunA.rd rfl rfl rfl (Qo (m23_ok a0 x5 hx5) rfl (.cons (.agg (.cons (.d _) (.cons (.d _) (.cons (.d _) (.cons (.d _) (.cons (.d _) (.cons (.d _) (.cons (.d _) (.cons (.d _) (.cons (.d _) (.cons (.d _) (.cons (.d _) (.cons (.d _) (.cons (.d _) (.cons (.d _) (.cons (.d _) (.cons (.d _) (.cons (.d _) (.cons (.d _) (.cons (.d _) (.cons (.d _) (.cons (.d _) (.cons (.d _) (.cons (.d _) .nil)))))))))))))))))))))))) .nil)) rfl ?_
 refine Qb h1 (fun x6 hx6 h1 => ?_)
 refine RunA.rd rfl rfl rfl (Qo (m22_ok x4 x5 x6 hx6) rfl (.cons (.one (.d _)) (.cons (.one (.d _)) .nil))) rfl <| RunA.rd rfl rfl rfl (Q2 (Qh rfl rfl)) rfl ?_
 refine Y0 (c := x6) rfl rfl rfl (Q2 (Qt rfl)) rfl (fun c7 => ?_) (fun c7 => ?_)
 replace h1 := Qk c7 h1
 refine RunA.rd rfl rfl rfl (Q2 (QK (a0 : Dcl) JS rfl rfl)) rfl ?_
 refine Qb h1 (fun x8 hx8 h1 => ?_)
 refine RunA.rd rfl rfl rfl (Qo (m24_ok a0 x8 hx8) rfl (.cons (.agg (.cons (.d _) (.cons (.d _) (.cons (.d _) (.cons (.d _) (.cons (.d _) (.cons (.d _) (.cons (.d _) (.cons (.d _) (.cons (.d _) (.cons (.d _) (.cons (.d _) (.cons (.d _) (.cons (.d _) (.cons (.d _) (.cons (.d _) (.cons (.d _) (.cons (.d _) (.cons (.d _) (.cons (.d _) (.cons (.d _) (.cons (.d _) (.cons (.d _) (.cons (.d _) .nil)))))))))))))))))))))))) .nil)) rfl <| RunA.rd rfl rfl rfl (Q2 (QK (a0 : Dcl) JS rfl rfl)) rfl ?_
 refine Qb h1 (fun x9 hx9 h1 => ?_)
 refine RunA.rd rfl rfl rfl (Qo (m25_ok a0 x9 hx9) rfl (.cons (.agg (.cons (.d _) (.cons (.d _) (.cons (.d _) (.cons (.d _) (.cons (.d _) (.cons (.d _) (.cons (.d _) (.cons (.d _) (.cons (.d _) (.cons (.d _) (.cons (.d _) (.cons (.d _) (.cons (.d _) (.cons (.d _) (.cons (.d _) (.cons (.d _) (.cons (.d _) (.cons (.d _) (.cons (.d _) (.cons (.d _) (.cons (.d _) (.cons (.d _) (.cons (.d _) .nil)))))))))))))))))))))))) .nil)) rfl ?_
 refine Qb h1 (fun x10 hx10 h1 => ?_)
 refine RunA.rd rfl rfl rfl (Qo (m22_ok x8 x9 x10 hx10) rfl (.cons (.one (.d _)) (.cons (.one (.d _)) .nil))) rfl <| RunA.rd rfl rfl rfl (Q2 (Qh rfl rfl)) rfl <| RunA.rd rfl rfl rfl (Q2 (JK rfl)) rfl ?_
 refine RunA.nil ⟨?ex, _, _, rfl, ?_⟩
 case ex => exact trivial
 have e := Uc h1; subst e
 exact Qc x10 (Ub (Nat.zero_le _) rfl rfl rfl rfl rfl) h0
 replace h1 := Ql c7 h1
 refine RunA.no rfl rfl rfl rfl <| RunA.no rfl rfl rfl rfl <| RunA.no rfl rfl rfl rfl <| RunA.no rfl rfl rfl rfl <| RunA.no rfl rfl rfl rfl <| RunA.rd rfl rfl rfl (Q2 (Qd rfl rfl)) rfl <| RunA.rd rfl rfl rfl (Q2 (JK rfl)) rfl ?_
 refine RunA.nil ⟨?ex, _, _, rfl, ?_⟩
 case ex => exact trivial
 have e := Uc h1; subst e
 exact Qc false (Ub (Nat.zero_le _) rfl rfl rfl rfl rfl) h0
 intro v3 h0
 refine Q3 <| QA ?_
 have e := Uc h0; subst e
 exact QL (fun _ _ h => h) rfl (Qz rfl .nil) (.cons (.one (.d _)) .nil)
end Go.Proofs.Ytafddfoefeploaa
namespace Go.Proofs.Ytafddfoefeploaa
open Go.RowKit Go.Shelf
set_option linter.unusedSimpArgs false
set_option linter.unusedVariables false
set_option linter.unusedSectionVars false
theorem m22_self (l : List UN) (h : l.length ≤ 900000000) : WP l l = some true := by
  unfold WP
  rw [show ((l.length : Int) != (l.length : Int)) = false by simp]
  obtain ⟨r, e, rfl⟩ := YN (step := XV l l) l (fun i (s : Unit) => i) (fun _ _ => True) (fun r => r = .inl ()) h
    (fun a x c s e _ => .inr ⟨(), by
      unfold XV
      rw [e, Y4, JI]
      simp [beqB], trivial⟩) (fun s _ => ⟨_, by unfold XV; rw [Y7]; rfl, rfl⟩) () trivial
  rw [e]; rfl
theorem m7_true (d : Dcl) (h : d.size ≤ 100000000) : Uk d = some true := by
  obtain ⟨b, hb⟩ := m21_some d (by omega)
  have h1 := names_len d
  have h2 := uses_len d
  unfold Uk
  rw [hb]
  cases b with
  | false => rfl
  | true =>
    show Option.bind (Option.bind (WT d) fun x4 => Option.bind (WO d) fun x5 => Option.bind (WP x4 x5) fun x6 => cond x6 (Option.bind (U2 d) fun x8 => Option.bind (U1 d) fun x9 => Option.bind (WP x8 x9) fun x10 => some x10) (some false)) (fun v3 => some v3) = some true
    rw [m20_eq d (by omega), m23_eq d (by omega), m24_eq d (by omega), m25_eq d (by omega)]
    show Option.bind (Option.bind (WP (Yh d) (Yh d)) fun x6 => cond x6 (Option.bind (WP (Wp d) (Wp d)) fun x10 => some x10) (some false)) (fun v3 => some v3) = some true
    rw [m22_self _ (by omega), m22_self _ (by omega)]
    rfl
end Go.Proofs.Ytafddfoefeploaa
namespace Go.Proofs.Ytafddfoefeploaa
open Go.RowKit Go.ChangeShapes Go.WideShapes
set_option linter.unusedSimpArgs false
set_option linter.unusedVariables false
set_option linter.unusedSectionVars false
def WB (w : World) : Nat → Nat → Prop := fun b _ => b < w.heap.size
def RC (w : World) (e : List C) (cs : List Value) : Prop := cs.length = e.length ∧ ∀ (j : Nat) (c : C), e[j]? = some c → ∃ u, cs[j]? = some u ∧ Reads (WB w) w c u
theorem RC.app {w : World} {e0 e1 : List C} {cs : List Value} (h0 : RC w e0 (cs.take e0.length)) (h1 : RC w e1 (cs.drop e0.length)) (hl : cs.length = e0.length + e1.length) : RC w (e0 ++ e1) cs := by
  refine ⟨by rw [hl, List.length_append], fun j c hj => ?_⟩
  rcases Nat.lt_or_ge j e0.length with h | h
  · rw [List.getElem?_append_left h] at hj
    obtain ⟨u, h2, h3⟩ := h0.2 j c hj
    rw [List.getElem?_take, if_pos h] at h2
    exact ⟨u, h2, h3⟩
  · rw [List.getElem?_append_right h] at hj
    obtain ⟨u, h2, h3⟩ := h1.2 _ c hj
    rw [List.getElem?_drop, show e0.length + (j - e0.length) = j by omega] at h2
    exact ⟨u, h2, h3⟩
section
variable {H : Type} (enc : TypeId × Value → H) (P : Program) (w : World)
end
section
variable {H : Type} {enc : TypeId × Value → H} {P : Program} {w : World}
end
end Go.Proofs.Ytafddfoefeploaa
namespace Go.Proofs.Ytafddfoefeploaa
open Go.RowKit Go.ChangeShapes Go.WideShapes
set_option linter.unusedSimpArgs false
set_option linter.unusedVariables false
set_option linter.unusedSectionVars false
theorem GR {H : Type} (d : DataW H) : 1 ≤ Rows.uptoBulk d := by
  cases d with
  | lit l => cases l <;> simp [Rows.uptoBulk]
  | nil => simp [Rows.uptoBulk]
  | ptr d => simp [Rows.uptoBulk]
  | slice elems spare => simp [Rows.uptoBulk]
  | agg parts => simp [Rows.uptoBulk]
  | iface t d => simp [Rows.uptoBulk]
  | map entries => simp [Rows.uptoBulk]
  | held h => simp [Rows.uptoBulk]
theorem bulk_all {H : Type} : ∀ l : List (DataW H), Rows.uptoBulkAll l = (l.map Rows.uptoBulk).sum
  | [] => by simp [Rows.uptoBulkAll]
  | x :: l => by simp only [Rows.uptoBulkAll, List.map_cons, List.sum_cons, bulk_all l]
theorem RC.nil {w : World} {cs : List Value} : RC w [] (cs.take 0) := ⟨by simp, fun j c h => by cases h⟩
theorem RC.snoc {w : World} {e0 e1 : List C} {cs : List Value} {m k : Nat} (h0 : RC w e0 (cs.take m)) (h1 : RC w e1 ((cs.drop m).take k)) (hm : e0.length = m) : RC w (e0 ++ e1) (cs.take (m + k)) := by
  have h2 := h0.1
  have h3 := h1.1
  refine RC.app ?_ ?_ ?_
  · rw [List.take_take, hm, Nat.min_eq_left (by omega)]; exact h0
  · rw [hm, List.drop_take, Nat.add_sub_cancel_left]; exact h1
  · rw [← h3, hm]
    simp only [List.length_take, List.length_drop] at h2 ⊢
    omega
section
variable {H : Type} (enc : TypeId × Value → H) (P : Program) (w : World)
def Jf (N : Nat) (t : TypeId) (α : Type) [Enc α] (μ : α → Nat) : Prop := ∀ (fuel : Nat) (cs : List Value) (x : DataW H × List MemPlace), DataW.trod enc P w 0 (fun _ => true) true fuel t cs = some x → Rows.uptoBulk x.1 ≤ N → ∃ v : α, RC w (Enc.enc v) cs ∧ μ v ≤ Rows.uptoBulk x.1
end
section
variable {H : Type} {enc : TypeId × Value → H} {P : Program} {w : World} {N : Nat}
theorem Gs {t : TypeId} (ht : P.underlying t = some (.int .i64)) : Jf enc P w N t Int (fun _ => 1) := by
  intro fuel cs x h hb
  obtain ⟨n, rfl, rfl, -⟩ := DataW.trod_int ht h
  refine ⟨n, ⟨rfl, fun j c hj => ?_⟩, GR _⟩
  cases j with
  | zero => cases hj; exact ⟨_, rfl, Reads.v _ rfl⟩
  | succ j => cases hj
theorem z_bool {t : TypeId} (ht : P.underlying t = some .bool) : Jf enc P w N t Bool (fun _ => 1) := by
  intro fuel cs x h hb
  obtain ⟨n, rfl, rfl⟩ := DataW.trod_bool ht h
  refine ⟨n, ⟨rfl, fun j c hj => ?_⟩, GR _⟩
  cases j with
  | zero => cases hj; exact ⟨_, rfl, Reads.v _ rfl⟩
  | succ j => cases hj
theorem Wr {t : TypeId} (ht : P.underlying t = some .string) : Jf enc P w N t UN (fun s => 1 + s.length) := by
  intro fuel cs x h hb
  obtain ⟨s, rfl, rfl, -⟩ := DataW.trod_string ht h
  refine ⟨s.data.toList, ⟨rfl, fun j c hj => ?_⟩, by simp [Rows.uptoBulk]; omega⟩
  cases j with
  | zero => cases hj; exact ⟨_, rfl, by rw [show Ud s.data.toList = s from rfl]; exact Reads.v _ rfl⟩
  | succ j => cases hj
theorem Gh {α : Type} [Enc α] [EncLen α] {μ : α → Nat} {t e : TypeId} (ht : P.underlying t = some (.slice e)) (hc : P.cellsOf e = Enc.sz α) (ho : Jf enc P w N e α μ) : Jf enc P w N t (List α) (fun l => 1 + (l.map μ).sum) := by
  intro fuel cs x h hb
  rcases Deep.open_slice ht h with ⟨rfl, rfl⟩ | ⟨a, len, cap, m, n, D, Pl, rfl, -, hlc, -, hm, rfl, hel⟩
  · refine ⟨[], ⟨rfl, fun j c hj => ?_⟩, by simp [Rows.uptoBulk]⟩
    cases j with
    | zero =>
      cases hj
      refine ⟨_, rfl, ?_⟩
      rw [Enc.nil]
      exact .sl _ [] none 0 0 0 (fun _ _ => undef) (Nat.le_refl _) (fun h => absurd rfl h) (fun i e h => by simp at h) (fun i e j c h => by simp at h) (fun i e j c h => by simp at h) (fun i e j c h => by simp at h)
    | succ j => cases hj
  · have hm' : m = cap := by rw [hm]; rfl
    have hbk : ((List.range len).map fun i => Rows.uptoBulk (D i)).sum + 1 ≤ Rows.uptoBulk (DataW.slice (H := H) ((List.range len).map D) ((List.range (m - len)).map fun j => D (len + j))) := by
      simp only [Rows.uptoBulk, bulk_all, List.map_map]
      have : (List.map (Rows.uptoBulk ∘ D) (List.range len)).sum = ((List.range len).map fun i => Rows.uptoBulk (D i)).sum := rfl
      omega
    dsimp only at hb
    have hD : ∀ k, k < len → Rows.uptoBulk (D k) ≤ N := fun k hk => by
      have := GX (fun i => Rows.uptoBulk (D i)) (List.mem_range.2 hk)
      omega
    have hall : ∀ k, k ≤ len → ∃ l : List α, l.length = k ∧ (l.map μ).sum ≤ ((List.range k).map fun i => Rows.uptoBulk (D i)).sum ∧ ∀ (i : Nat) (v : α), l[i]? = some v → ∃ cs', w.cells? 0 (a.add (i * Enc.sz α)) (Enc.sz α) = some cs' ∧ RC w (Enc.enc v) cs' := by
      intro k
      induction k with
      | zero => intro _; exact ⟨[], rfl, Nat.le_refl _, fun i v h => by simp at h⟩
      | succ k ih =>
        intro hk
        obtain ⟨l, h1, hsum, h2⟩ := ih (by omega)
        obtain ⟨cs', h3, h4⟩ := hel k (by omega)
        rw [hc] at h3
        obtain ⟨v, hv, hμ⟩ := ho _ _ _ h4 (hD k (by omega))
        refine ⟨l ++ [v], by simp [h1], ?_, fun i v' hi => ?_⟩
        · rw [List.range_succ]
          simp only [List.map_append, List.map_cons, List.map_nil, List.sum_append, List.sum_cons, List.sum_nil]
          dsimp only at hμ
          omega
        rcases Nat.lt_or_ge i l.length with h | h
        · rw [List.getElem?_append_left h] at hi; exact h2 i v' hi
        · rw [List.getElem?_append_right h] at hi
          have hi0 : i - l.length = 0 := by
            rcases Nat.eq_zero_or_pos (i - l.length) with h0 | h0
            · exact h0
            · rw [List.getElem?_eq_none (by simp only [List.length_singleton]; omega)] at hi; cases hi
          have hik : i = k := by omega
          rw [hi0] at hi; cases hi
          rw [hik]; exact ⟨cs', h3, hv⟩
    obtain ⟨l, hl, hsum, hcells⟩ := hall len (Nat.le_refl _)
    have hpos : 0 < Enc.sz α := EncLen.pos
    have hspot : l ≠ [] → a.spot = none ∧ a.block < w.heap.size := by
      intro hne
      obtain ⟨v, r, rfl⟩ := List.exists_cons_of_ne_nil hne
      obtain ⟨cs', h1, h2⟩ := hcells 0 v rfl
      obtain ⟨-, h3, h4⟩ := World.cells?_some h1
      have h5 := h4 0 hpos
      rw [Nat.zero_mul, Deep.add_add, Nat.zero_add] at h5
      have h6 : (cs'[0]?).isSome := by rw [List.getElem?_eq_getElem (by omega)]; rfl
      rw [← h5] at h6
      have h7 : (a.add 0) = a := by simp [Addr.add]
      rw [h7] at h6
      unfold World.cell? at h6
      split at h6
      · rename_i c _ _ hb
        refine ⟨?_, (Array.getElem?_eq_some_iff.1 hb).1⟩
        split at h6
        · cases h6
        · rename_i hs
          cases hsp : a.spot with
          | none => rfl
          | some q => rw [hsp] at hs; exact absurd rfl hs
      · cases h6
    have hadd : l ≠ [] → ∀ k, a.add k = ⟨a.block, a.off + k, none⟩ := by
      intro hne k
      have h1 := (hspot hne).1
      unfold Addr.add
      split
      · rename_i h0; subst h0
        obtain ⟨b, o, sp⟩ := a
        simp only at h1; subst h1; rfl
      · rfl
    have hcell : ∀ (i : Nat) (e' : List C) (j : Nat) (c : C), (Enc.encL l)[i]? = some e' → e'[j]? = some c → ∃ u, w.cell? ⟨a.block, a.off + i * Enc.sz α + j, none⟩ = some u ∧ Reads (WB w) w c u := by
      intro i e' j c hi hj
      rw [Enc.map, List.getElem?_map] at hi
      cases hx : l[i]? with
      | none => rw [hx] at hi; cases hi
      | some v =>
        rw [hx] at hi; cases hi
        have hne : l ≠ [] := by intro h0; rw [h0] at hx; simp at hx
        obtain ⟨cs', h1, h2⟩ := hcells i v hx
        obtain ⟨u, h3, h4⟩ := h2.2 j c hj
        obtain ⟨-, h5, h6⟩ := World.cells?_some h1
        have hjl : j < Enc.sz α := by have := (List.getElem?_eq_some_iff.1 h3).1; omega
        have h7 := h6 j hjl
        rw [Deep.add_add, hadd hne, h3, ← Nat.add_assoc] at h7
        exact ⟨u, h7, h4⟩
    refine ⟨l, ⟨rfl, fun j c hj => ?_⟩, by dsimp only; omega⟩
    cases j with
    | succ j => cases hj
    | zero =>
      cases hj
      refine ⟨_, rfl, ?_⟩
      have Ur := Reads.sl (S := WB w) (w := w) (Enc.sz α) (Enc.encL l) (some a) cap a.block a.off (fun i j => (w.cell? ⟨a.block, a.off + i * Enc.sz α + j, none⟩).getD undef) (by rw [Enc.len, hl]; exact hlc)
        (fun hne => by
          have hne' : l ≠ [] := by intro h0; rw [h0, Enc.nil] at hne; exact hne rfl
          have h7 : (a.add 0) = a := by simp [Addr.add]
          rw [← h7, hadd hne'])
        (fun i e' hi => Ga l e' (List.mem_of_getElem? hi))
        (fun i e' j c hi hj => by obtain ⟨u, h1, -⟩ := hcell i e' j c hi hj; rw [h1]; rfl)
        (fun i e' j c hi hj => by
          have hne : l ≠ [] := by intro h0; rw [h0, Enc.nil] at hi; simp at hi
          exact (hspot hne).2)
        (fun i e' j c hi hj => by obtain ⟨u, h1, h2⟩ := hcell i e' j c hi hj; rw [h1]; exact h2)
      rw [Enc.len, hl] at Ur
      exact Ur
theorem XZ {α : Type} [Enc α] {μ : α → Nat} {t : TypeId} (h : ∀ N, Jf enc P w N t α μ → Jf enc P w (N + 1) t α μ) : ∀ N, Jf enc P w N t α μ
  | 0 => fun fuel cs x _ hb => by have := GR x.1; omega
  | N + 1 => h N (XZ h N)
end
section
variable {H : Type} {enc : TypeId × Value → H} {w : World} {N : Nat}
theorem Zm : Try.prog.cellsOf 3 = 1 := by kernel_rfl
theorem cells_4 : Try.prog.cellsOf 4 = 1 := by kernel_rfl
theorem XJ : Try.prog.cellsOf 9 = 1 := by kernel_rfl
theorem cells_30 : Try.prog.cellsOf 30 = 1 := by kernel_rfl
theorem cells_31 : Try.prog.cellsOf 31 = 1 := by kernel_rfl
theorem KI : Try.prog.cellsOf 33 = 5 := by kernel_rfl
theorem cells_40 : Try.prog.cellsOf 40 = 1 := by kernel_rfl
theorem cells_42 : Try.prog.cellsOf 42 = 7 := by kernel_rfl
theorem cells_43 : Try.prog.cellsOf 43 = 1 := by kernel_rfl
theorem cells_45 : Try.prog.cellsOf 45 = 23 := by kernel_rfl
theorem cells_71 : Try.prog.cellsOf 71 = 6 := by kernel_rfl
theorem cells_72 : Try.prog.cellsOf 72 = 1 := by kernel_rfl
theorem cells_74 : Try.prog.cellsOf 74 = 8 := by kernel_rfl
theorem cells_76 : Try.prog.cellsOf 76 = 15 := by kernel_rfl
theorem cells_85 : Try.prog.cellsOf 85 = 1 := by kernel_rfl
theorem cells_87 : Try.prog.cellsOf 87 = 2 := by kernel_rfl
theorem cells_101 : Try.prog.cellsOf 101 = 10 := by kernel_rfl
theorem cells_124 : Try.prog.cellsOf 124 = 2 := by kernel_rfl
theorem z_lv : Jf enc Try.prog w (N + 1) 124 UL (fun _ => 1) := by
  intro fuel cs x h hb
  obtain ⟨xs, n, _, rfl, hl, hlen, hf⟩ := DataW.trod_struct Try.underlying124 h
  match xs, hlen with
  | [y0, y1], _ =>
    have hb' : Rows.uptoBulk y0.1 + Rows.uptoBulk y1.1 + 1 ≤ Rows.uptoBulk (DataW.agg (H := H) [y0.1, y1.1]) := by simp only [Rows.uptoBulk, Rows.uptoBulkAll]; omega
    have hb2 : Rows.uptoBulk (DataW.agg (H := H) [y0.1, y1.1]) ≤ N + 1 := hb
    obtain ⟨v0, r0, m0⟩ := (Gs Try.underlying3 : Jf enc Try.prog w N _ _ _) n _ _ (hf 0 _ rfl) (by omega)
    change RC w (Enc.enc v0) ((cs.drop 0).take (Try.prog.cellsOf 3)) at r0
    rw [Zm] at r0
    obtain ⟨v1, r1, m1⟩ := (Gs Try.underlying3 : Jf enc Try.prog w N _ _ _) n _ _ (hf 1 _ rfl) (by omega)
    change RC w (Enc.enc v1) ((cs.drop 1).take (Try.prog.cellsOf 3)) at r1
    rw [Zm] at r1
    have hcs : cs.take 2 = cs := List.take_of_length_le (by rw [hl]; exact Nat.le_of_eq cells_124)
    have Ur := ((((RC.nil).snoc (k := 1) r0 rfl)).snoc (k := 1) r1 rfl)
    refine ⟨(v0, v1), by rw [← hcs]; exact Ur, Nat.le_trans ?_ hb'⟩
    show 1 ≤ _
    omega
theorem z_lv' : Jf enc Try.prog w N 124 UL (fun _ => 1) := XZ (fun _ _ => z_lv) N
theorem z_lvl : Jf enc Try.prog w (N + 1) 87 Lvl lvz := by
  intro fuel cs x h hb
  obtain ⟨xs, n, _, rfl, hl, hlen, hf⟩ := DataW.trod_struct Try.underlying87 h
  match xs, hlen with
  | [y0, y1], _ =>
    have hb' : Rows.uptoBulk y0.1 + Rows.uptoBulk y1.1 + 1 ≤ Rows.uptoBulk (DataW.agg (H := H) [y0.1, y1.1]) := by simp only [Rows.uptoBulk, Rows.uptoBulkAll]; omega
    have hb2 : Rows.uptoBulk (DataW.agg (H := H) [y0.1, y1.1]) ≤ N + 1 := hb
    obtain ⟨v0, r0, m0⟩ := (Gs Try.underlying3 : Jf enc Try.prog w N _ _ _) n _ _ (hf 0 _ rfl) (by omega)
    change RC w (Enc.enc v0) ((cs.drop 0).take (Try.prog.cellsOf 3)) at r0
    rw [Zm] at r0
    obtain ⟨v1, r1, m1⟩ := (Gh Try.underlying85 (by kernel_rfl) z_lv' : Jf enc Try.prog w N _ _ _) n _ _ (hf 1 _ rfl) (by omega)
    change RC w (Enc.enc v1) ((cs.drop 1).take (Try.prog.cellsOf 85)) at r1
    rw [cells_85] at r1
    have hcs : cs.take 2 = cs := List.take_of_length_le (by rw [hl]; exact Nat.le_of_eq cells_87)
    have Ur := ((((RC.nil).snoc (k := 1) r0 rfl)).snoc (k := 1) r1 rfl)
    refine ⟨⟨v0, v1⟩, by rw [← hcs]; exact Ur, Nat.le_trans ?_ hb'⟩
    show lvz ⟨v0, v1⟩ ≤ _
    unfold lvz
    dsimp only at m0 m1 ⊢
    omega
theorem z_lvl' : Jf enc Try.prog w N 87 Lvl lvz := XZ (fun _ _ => z_lvl) N
theorem z_tm (hk : Jf enc Try.prog w N 33 Tm Tm.size) : Jf enc Try.prog w (N + 1) 33 Tm Tm.size := by
  intro fuel cs x h hb
  obtain ⟨xs, n, _, rfl, hl, hlen, hf⟩ := DataW.trod_struct Try.underlying33 h
  match xs, hlen with
  | [y0, y1, y2, y3, y4], _ =>
    have hb' : Rows.uptoBulk y0.1 + Rows.uptoBulk y1.1 + Rows.uptoBulk y2.1 + Rows.uptoBulk y3.1 + Rows.uptoBulk y4.1 + 1 ≤ Rows.uptoBulk (DataW.agg (H := H) [y0.1, y1.1, y2.1, y3.1, y4.1]) := by simp only [Rows.uptoBulk, Rows.uptoBulkAll]; omega
    have hb2 : Rows.uptoBulk (DataW.agg (H := H) [y0.1, y1.1, y2.1, y3.1, y4.1]) ≤ N + 1 := hb
    obtain ⟨v0, r0, m0⟩ := (Gs Try.underlying3 : Jf enc Try.prog w N _ _ _) n _ _ (hf 0 _ rfl) (by omega)
    change RC w (Enc.enc v0) ((cs.drop 0).take (Try.prog.cellsOf 3)) at r0
    rw [Zm] at r0
    obtain ⟨v1, r1, m1⟩ := (Gs Try.underlying3 : Jf enc Try.prog w N _ _ _) n _ _ (hf 1 _ rfl) (by omega)
    change RC w (Enc.enc v1) ((cs.drop 1).take (Try.prog.cellsOf 3)) at r1
    rw [Zm] at r1
    obtain ⟨v2, r2, m2⟩ := (Wr Try.underlying9 : Jf enc Try.prog w N _ _ _) n _ _ (hf 2 _ rfl) (by omega)
    change RC w (Enc.enc v2) ((cs.drop 2).take (Try.prog.cellsOf 9)) at r2
    rw [XJ] at r2
    obtain ⟨v3, r3, m3⟩ := (Gh Try.underlying30 (by kernel_rfl) z_lvl' : Jf enc Try.prog w N _ _ _) n _ _ (hf 3 _ rfl) (by omega)
    change RC w (Enc.enc v3) ((cs.drop 3).take (Try.prog.cellsOf 30)) at r3
    rw [cells_30] at r3
    obtain ⟨v4, r4, m4⟩ := (Gh Try.underlying31 (by kernel_rfl) hk : Jf enc Try.prog w N _ _ _) n _ _ (hf 4 _ rfl) (by omega)
    change RC w (Enc.enc v4) ((cs.drop 4).take (Try.prog.cellsOf 31)) at r4
    rw [cells_31] at r4
    have hcs : cs.take 5 = cs := List.take_of_length_le (by rw [hl]; exact Nat.le_of_eq KI)
    have Ur := ((((((((((RC.nil).snoc (k := 1) r0 rfl)).snoc (k := 1) r1 rfl)).snoc (k := 1) r2 rfl)).snoc (k := 1) r3 rfl)).snoc (k := 1) r4 rfl)
    refine ⟨Tm.mk v0 v1 v2 v3 v4, by rw [← hcs]; exact Ur, Nat.le_trans ?_ hb'⟩
    rw [Tm.size_eq]
    simp only [Tm.name, Tm.kids, Tm.levels]
    dsimp only at m0 m1 m2 m3 m4 ⊢
    omega
theorem W7 : Jf enc Try.prog w N 33 Tm Tm.size := XZ (fun _ h => z_tm h) N
theorem z_ctr : Jf enc Try.prog w (N + 1) 71 Ctr csz := by
  intro fuel cs x h hb
  obtain ⟨xs, n, _, rfl, hl, hlen, hf⟩ := DataW.trod_struct Try.underlying71 h
  match xs, hlen with
  | [y0, y1], _ =>
    have hb' : Rows.uptoBulk y0.1 + Rows.uptoBulk y1.1 + 1 ≤ Rows.uptoBulk (DataW.agg (H := H) [y0.1, y1.1]) := by simp only [Rows.uptoBulk, Rows.uptoBulkAll]; omega
    have hb2 : Rows.uptoBulk (DataW.agg (H := H) [y0.1, y1.1]) ≤ N + 1 := hb
    obtain ⟨v0, r0, m0⟩ := (Wr Try.underlying9 : Jf enc Try.prog w N _ _ _) n _ _ (hf 0 _ rfl) (by omega)
    change RC w (Enc.enc v0) ((cs.drop 0).take (Try.prog.cellsOf 9)) at r0
    rw [XJ] at r0
    obtain ⟨v1, r1, m1⟩ := (W7 : Jf enc Try.prog w N _ _ _) n _ _ (hf 1 _ rfl) (by omega)
    change RC w (Enc.enc v1) ((cs.drop 1).take (Try.prog.cellsOf 33)) at r1
    rw [KI] at r1
    have hcs : cs.take 6 = cs := List.take_of_length_le (by rw [hl]; exact Nat.le_of_eq cells_71)
    have Ur := ((((RC.nil).snoc (k := 1) r0 rfl)).snoc (k := 5) r1 rfl)
    refine ⟨⟨v0, v1⟩, by rw [← hcs]; exact Ur, Nat.le_trans ?_ hb'⟩
    show csz ⟨v0, v1⟩ ≤ _
    unfold csz
    dsimp only at m0 m1 ⊢
    omega
theorem z_ctr' : Jf enc Try.prog w N 71 Ctr csz := XZ (fun _ _ => z_ctr) N
theorem z_rcr : Jf enc Try.prog w (N + 1) 42 Rcr (fun r => r.ty.size + (r.rules.map Tm.size).sum) := by
  intro fuel cs x h hb
  obtain ⟨xs, n, _, rfl, hl, hlen, hf⟩ := DataW.trod_struct Try.underlying42 h
  match xs, hlen with
  | [y0, y1, y2], _ =>
    have hb' : Rows.uptoBulk y0.1 + Rows.uptoBulk y1.1 + Rows.uptoBulk y2.1 + 1 ≤ Rows.uptoBulk (DataW.agg (H := H) [y0.1, y1.1, y2.1]) := by simp only [Rows.uptoBulk, Rows.uptoBulkAll]; omega
    have hb2 : Rows.uptoBulk (DataW.agg (H := H) [y0.1, y1.1, y2.1]) ≤ N + 1 := hb
    obtain ⟨v0, r0, m0⟩ := (Gs Try.underlying3 : Jf enc Try.prog w N _ _ _) n _ _ (hf 0 _ rfl) (by omega)
    change RC w (Enc.enc v0) ((cs.drop 0).take (Try.prog.cellsOf 3)) at r0
    rw [Zm] at r0
    obtain ⟨v1, r1, m1⟩ := (W7 : Jf enc Try.prog w N _ _ _) n _ _ (hf 1 _ rfl) (by omega)
    change RC w (Enc.enc v1) ((cs.drop 1).take (Try.prog.cellsOf 33)) at r1
    rw [KI] at r1
    obtain ⟨v2, r2, m2⟩ := (Gh Try.underlying31 (by kernel_rfl) W7 : Jf enc Try.prog w N _ _ _) n _ _ (hf 2 _ rfl) (by omega)
    change RC w (Enc.enc v2) ((cs.drop 6).take (Try.prog.cellsOf 31)) at r2
    rw [cells_31] at r2
    have hcs : cs.take 7 = cs := List.take_of_length_le (by rw [hl]; exact Nat.le_of_eq cells_42)
    have Ur := ((((((RC.nil).snoc (k := 1) r0 rfl)).snoc (k := 5) r1 rfl)).snoc (k := 1) r2 rfl)
    refine ⟨⟨v0, v1, v2⟩, by rw [← hcs]; exact Ur, Nat.le_trans ?_ hb'⟩
    dsimp only at m0 m1 m2 ⊢
    omega
theorem z_rcr' : Jf enc Try.prog w N 42 Rcr (fun r => r.ty.size + (r.rules.map Tm.size).sum) := XZ (fun _ _ => z_rcr) N
theorem z_tr (hk : Jf enc Try.prog w N 101 UO bsz) : Jf enc Try.prog w (N + 1) 74 Tr Tr.size := by
  intro fuel cs x h hb
  obtain ⟨xs, n, _, rfl, hl, hlen, hf⟩ := DataW.trod_struct Try.underlying74 h
  match xs, hlen with
  | [y0, y1, y2, y3], _ =>
    have hb' : Rows.uptoBulk y0.1 + Rows.uptoBulk y1.1 + Rows.uptoBulk y2.1 + Rows.uptoBulk y3.1 + 1 ≤ Rows.uptoBulk (DataW.agg (H := H) [y0.1, y1.1, y2.1, y3.1]) := by simp only [Rows.uptoBulk, Rows.uptoBulkAll]; omega
    have hb2 : Rows.uptoBulk (DataW.agg (H := H) [y0.1, y1.1, y2.1, y3.1]) ≤ N + 1 := hb
    obtain ⟨v0, r0, m0⟩ := (Gs Try.underlying3 : Jf enc Try.prog w N _ _ _) n _ _ (hf 0 _ rfl) (by omega)
    change RC w (Enc.enc v0) ((cs.drop 0).take (Try.prog.cellsOf 3)) at r0
    rw [Zm] at r0
    obtain ⟨v1, r1, m1⟩ := (W7 : Jf enc Try.prog w N _ _ _) n _ _ (hf 1 _ rfl) (by omega)
    change RC w (Enc.enc v1) ((cs.drop 1).take (Try.prog.cellsOf 33)) at r1
    rw [KI] at r1
    obtain ⟨v2, r2, m2⟩ := (Gs Try.underlying3 : Jf enc Try.prog w N _ _ _) n _ _ (hf 2 _ rfl) (by omega)
    change RC w (Enc.enc v2) ((cs.drop 6).take (Try.prog.cellsOf 3)) at r2
    rw [Zm] at r2
    obtain ⟨v3, r3, m3⟩ := (Gh Try.underlying72 (by kernel_rfl) hk : Jf enc Try.prog w N _ _ _) n _ _ (hf 3 _ rfl) (by omega)
    change RC w (Enc.enc v3) ((cs.drop 7).take (Try.prog.cellsOf 72)) at r3
    rw [cells_72] at r3
    have hcs : cs.take 8 = cs := List.take_of_length_le (by rw [hl]; exact Nat.le_of_eq cells_74)
    have Ur := ((((((((RC.nil).snoc (k := 1) r0 rfl)).snoc (k := 5) r1 rfl)).snoc (k := 1) r2 rfl)).snoc (k := 1) r3 rfl)
    refine ⟨Tr.mk v0 v1 v2 v3, by rw [← hcs]; exact Ur, Nat.le_trans ?_ hb'⟩
    rw [Tr.size_eq]
    simp only [Tr.body, Tr.branches]
    dsimp only at m0 m1 m2 m3 ⊢
    omega
theorem z_br (hk : Jf enc Try.prog w N 74 Tr Tr.size) : Jf enc Try.prog w (N + 1) 101 UO bsz := by
  intro fuel cs x h hb
  obtain ⟨xs, n, _, rfl, hl, hlen, hf⟩ := DataW.trod_struct Try.underlying101 h
  match xs, hlen with
  | [y0, y1, y2], _ =>
    have hb' : Rows.uptoBulk y0.1 + Rows.uptoBulk y1.1 + Rows.uptoBulk y2.1 + 1 ≤ Rows.uptoBulk (DataW.agg (H := H) [y0.1, y1.1, y2.1]) := by simp only [Rows.uptoBulk, Rows.uptoBulkAll]; omega
    have hb2 : Rows.uptoBulk (DataW.agg (H := H) [y0.1, y1.1, y2.1]) ≤ N + 1 := hb
    obtain ⟨v0, r0, m0⟩ := (Wr Try.underlying9 : Jf enc Try.prog w N _ _ _) n _ _ (hf 0 _ rfl) (by omega)
    change RC w (Enc.enc v0) ((cs.drop 0).take (Try.prog.cellsOf 9)) at r0
    rw [XJ] at r0
    obtain ⟨v1, r1, m1⟩ := (z_bool Try.underlying4 : Jf enc Try.prog w N _ _ _) n _ _ (hf 1 _ rfl) (by omega)
    change RC w (Enc.enc v1) ((cs.drop 1).take (Try.prog.cellsOf 4)) at r1
    rw [cells_4] at r1
    obtain ⟨v2, r2, m2⟩ := hk n _ _ (hf 2 _ rfl) (by omega)
    change RC w (Enc.enc v2) ((cs.drop 2).take (Try.prog.cellsOf 74)) at r2
    rw [cells_74] at r2
    have hcs : cs.take 10 = cs := List.take_of_length_le (by rw [hl]; exact Nat.le_of_eq cells_101)
    have Ur := ((((((RC.nil).snoc (k := 1) r0 rfl)).snoc (k := 1) r1 rfl)).snoc (k := 8) r2 rfl)
    refine ⟨⟨v0, v1, v2⟩, by rw [← hcs]; exact Ur, Nat.le_trans ?_ hb'⟩
    show bsz ⟨v0, v1, v2⟩ ≤ _
    unfold bsz
    dsimp only at m0 m1 m2 ⊢
    omega
theorem z_trbr : ∀ N, Jf enc Try.prog w N 74 Tr Tr.size ∧ Jf enc Try.prog w N 101 UO bsz
  | 0 => ⟨fun fuel cs x _ hb => by have := GR x.1; omega, fun fuel cs x _ hb => by have := GR x.1; omega⟩
  | N + 1 => ⟨z_tr (z_trbr N).2, z_br (z_trbr N).1⟩
theorem z_fn : Jf enc Try.prog w (N + 1) 76 Fn fsz := by
  intro fuel cs x h hb
  obtain ⟨xs, n, _, rfl, hl, hlen, hf⟩ := DataW.trod_struct Try.underlying76 h
  match xs, hlen with
  | [y0, y1, y2, y3], _ =>
    have hb' : Rows.uptoBulk y0.1 + Rows.uptoBulk y1.1 + Rows.uptoBulk y2.1 + Rows.uptoBulk y3.1 + 1 ≤ Rows.uptoBulk (DataW.agg (H := H) [y0.1, y1.1, y2.1, y3.1]) := by simp only [Rows.uptoBulk, Rows.uptoBulkAll]; omega
    have hb2 : Rows.uptoBulk (DataW.agg (H := H) [y0.1, y1.1, y2.1, y3.1]) ≤ N + 1 := hb
    obtain ⟨v0, r0, m0⟩ := (Wr Try.underlying9 : Jf enc Try.prog w N _ _ _) n _ _ (hf 0 _ rfl) (by omega)
    change RC w (Enc.enc v0) ((cs.drop 0).take (Try.prog.cellsOf 9)) at r0
    rw [XJ] at r0
    obtain ⟨v1, r1, m1⟩ := (W7 : Jf enc Try.prog w N _ _ _) n _ _ (hf 1 _ rfl) (by omega)
    change RC w (Enc.enc v1) ((cs.drop 1).take (Try.prog.cellsOf 33)) at r1
    rw [KI] at r1
    obtain ⟨v2, r2, m2⟩ := (Gs Try.underlying3 : Jf enc Try.prog w N _ _ _) n _ _ (hf 2 _ rfl) (by omega)
    change RC w (Enc.enc v2) ((cs.drop 6).take (Try.prog.cellsOf 3)) at r2
    rw [Zm] at r2
    obtain ⟨v3, r3, m3⟩ := (z_trbr N).1 n _ _ (hf 3 _ rfl) (by omega)
    change RC w (Enc.enc v3) ((cs.drop 7).take (Try.prog.cellsOf 74)) at r3
    rw [cells_74] at r3
    have hcs : cs.take 15 = cs := List.take_of_length_le (by rw [hl]; exact Nat.le_of_eq cells_76)
    have Ur := ((((((((RC.nil).snoc (k := 1) r0 rfl)).snoc (k := 5) r1 rfl)).snoc (k := 1) r2 rfl)).snoc (k := 8) r3 rfl)
    refine ⟨⟨v0, v1, v2, v3⟩, by rw [← hcs]; exact Ur, Nat.le_trans ?_ hb'⟩
    show fsz ⟨v0, v1, v2, v3⟩ ≤ _
    unfold fsz
    dsimp only at m0 m1 m2 m3 ⊢
    omega
theorem z_fn' : Jf enc Try.prog w N 76 Fn fsz := XZ (fun _ _ => z_fn) N
theorem z_dcl : Jf enc Try.prog w (N + 1) 45 Dcl Dcl.size := by
  intro fuel cs x h hb
  obtain ⟨xs, n, _, rfl, hl, hlen, hf⟩ := DataW.trod_struct Try.underlying45 h
  match xs, hlen with
  | [y0, y1, y2, y3, y4, y5, y6, y7, y8], _ =>
    have hb' : Rows.uptoBulk y0.1 + Rows.uptoBulk y1.1 + Rows.uptoBulk y2.1 + Rows.uptoBulk y3.1 + Rows.uptoBulk y4.1 + Rows.uptoBulk y5.1 + Rows.uptoBulk y6.1 + Rows.uptoBulk y7.1 + Rows.uptoBulk y8.1 + 1 ≤ Rows.uptoBulk (DataW.agg (H := H) [y0.1, y1.1, y2.1, y3.1, y4.1, y5.1, y6.1, y7.1, y8.1]) := by simp only [Rows.uptoBulk, Rows.uptoBulkAll]; omega
    have hb2 : Rows.uptoBulk (DataW.agg (H := H) [y0.1, y1.1, y2.1, y3.1, y4.1, y5.1, y6.1, y7.1, y8.1]) ≤ N + 1 := hb
    obtain ⟨v0, r0, m0⟩ := (Gs Try.underlying3 : Jf enc Try.prog w N _ _ _) n _ _ (hf 0 _ rfl) (by omega)
    change RC w (Enc.enc v0) ((cs.drop 0).take (Try.prog.cellsOf 3)) at r0
    rw [Zm] at r0
    obtain ⟨v1, r1, m1⟩ := (Wr Try.underlying9 : Jf enc Try.prog w N _ _ _) n _ _ (hf 1 _ rfl) (by omega)
    change RC w (Enc.enc v1) ((cs.drop 1).take (Try.prog.cellsOf 9)) at r1
    rw [XJ] at r1
    obtain ⟨v2, r2, m2⟩ := (Gs Try.underlying3 : Jf enc Try.prog w N _ _ _) n _ _ (hf 2 _ rfl) (by omega)
    change RC w (Enc.enc v2) ((cs.drop 2).take (Try.prog.cellsOf 3)) at r2
    rw [Zm] at r2
    obtain ⟨v3, r3, m3⟩ := (W7 : Jf enc Try.prog w N _ _ _) n _ _ (hf 3 _ rfl) (by omega)
    change RC w (Enc.enc v3) ((cs.drop 3).take (Try.prog.cellsOf 33)) at r3
    rw [KI] at r3
    obtain ⟨v4, r4, m4⟩ := (W7 : Jf enc Try.prog w N _ _ _) n _ _ (hf 4 _ rfl) (by omega)
    change RC w (Enc.enc v4) ((cs.drop 8).take (Try.prog.cellsOf 33)) at r4
    rw [KI] at r4
    obtain ⟨v5, r5, m5⟩ := (Gs Try.underlying3 : Jf enc Try.prog w N _ _ _) n _ _ (hf 5 _ rfl) (by omega)
    change RC w (Enc.enc v5) ((cs.drop 13).take (Try.prog.cellsOf 3)) at r5
    rw [Zm] at r5
    obtain ⟨v6, r6, m6⟩ := (Gh Try.underlying40 (by kernel_rfl) z_ctr' : Jf enc Try.prog w N _ _ _) n _ _ (hf 6 _ rfl) (by omega)
    change RC w (Enc.enc v6) ((cs.drop 14).take (Try.prog.cellsOf 40)) at r6
    rw [cells_40] at r6
    obtain ⟨v7, r7, Uk⟩ := (z_rcr' : Jf enc Try.prog w N _ _ _) n _ _ (hf 7 _ rfl) (by omega)
    change RC w (Enc.enc v7) ((cs.drop 15).take (Try.prog.cellsOf 42)) at r7
    rw [cells_42] at r7
    obtain ⟨v8, r8, m8⟩ := (Gh Try.underlying43 (by kernel_rfl) z_fn' : Jf enc Try.prog w N _ _ _) n _ _ (hf 8 _ rfl) (by omega)
    change RC w (Enc.enc v8) ((cs.drop 22).take (Try.prog.cellsOf 43)) at r8
    rw [cells_43] at r8
    have hcs : cs.take 23 = cs := List.take_of_length_le (by rw [hl]; exact Nat.le_of_eq cells_45)
    have Ur := ((((((((((((((((((RC.nil).snoc (k := 1) r0 rfl)).snoc (k := 1) r1 rfl)).snoc (k := 1) r2 rfl)).snoc (k := 5) r3 rfl)).snoc (k := 5) r4 rfl)).snoc (k := 1) r5 rfl)).snoc (k := 1) r6 rfl)).snoc (k := 7) r7 rfl)).snoc (k := 1) r8 rfl)
    refine ⟨⟨v0, v1, v2, v3, v4, v5, v6, v7, v8⟩, by rw [← hcs]; exact Ur, Nat.le_trans ?_ hb'⟩
    show Dcl.size ⟨v0, v1, v2, v3, v4, v5, v6, v7, v8⟩ ≤ _
    unfold Dcl.size
    dsimp only at m0 m1 m2 m3 m4 m5 m6 Uk m8 ⊢
    omega
theorem z_dcl' : Jf enc Try.prog w N 45 Dcl Dcl.size := XZ (fun _ _ => z_dcl) N
end
end Go.Proofs.Ytafddfoefeploaa
namespace Go.Proofs.Ytafddfoefeploaa
open Go.ChangeShapes Go.WideShapes Go.ChangeAt Go.RowKit Go.WideElems
set_option linter.unusedSimpArgs false
set_option linter.unusedVariables false
set_option linter.unusedSectionVars false
theorem own : ownKnob Try.prog.godebug = none := by kernel_rfl
theorem laidOut : laidOutB Try.prog = true := by kernel_rfl
end Go.Proofs.Ytafddfoefeploaa
namespace Go.Proofs.Ytafddfoefeploaa
open Go.ChangeShapes Go.WideShapes Go.ChangeAt Go.RowKit Go.WideElems
set_option linter.unusedSimpArgs false
set_option linter.unusedVariables false
set_option linter.unusedSectionVars false
set_option maxRecDepth 100000 in
theorem dcl_readsZ {H : Type} {enc : TypeId × Value → H} {W : World} {base : Nat} {v : Value} {d : DataW H} {p : List MemPlace}
    (hval : Value.okWide Try.prog W .any base 45 v) (h : DataW.Trod enc Try.prog W 0 (fun _ => true) true 45 v d p) : ∃ L : Dcl, (AV.agg (UA L)).rel (ZL (WB W)) W v ∧ L.size ≤ Rows.uptoBulk d := by
  obtain ⟨fuel, hf⟩ := h
  obtain ⟨L, hl, hμ⟩ := z_dcl' (N := Rows.uptoBulk d) _ _ _ hf (Nat.le_refl _)
  obtain ⟨cs, rfl, -⟩ := okWide_struct Try.underlying45 hval
  have hc : (Value.agg cs).cells = cs := rfl
  rw [hc] at hl
  refine ⟨L, ⟨cs, rfl, ?_, fun i x hx => ?_⟩, hμ⟩
  · have := hl.1
    rw [Array.length_toList] at this
    rw [this, List.length_map]
  · rw [List.getElem?_map] at hx
    cases hy : (Enc.enc L)[i]? with
    | none => rw [hy] at hx; cases hx
    | some c =>
      rw [hy] at hx
      cases hx
      obtain ⟨u, hu, hr⟩ := hl.2 i c hy
      exact ⟨u, by simpa using hu, hr⟩
theorem law7 {W : World} (a0 : Dcl) (hs : a0.size ≤ 100000000) {v0 : Value} (hv0 : (AV.agg (UA a0)).rel (ZL (WB W)) W v0) : Calls Try.prog 7 #[v0] W fun e W' => e = .returned (.bool true) ∧ Below W.heap.size W W' := by
  have hF := m7_ok a0 true (m7_true a0 hs)
  refine Calls.mono (hF.2 (WB W) W #[v0] (fun b o h => h) ⟨rfl, fun i y hy => ?_⟩) ?_
  · match i, hy with
    | 0, hy => cases hy; exact ⟨_, rfl, hv0⟩
  · rintro e W' ⟨u, S', rfl, hx, -, -, hu⟩
    have e1 : u = .bool true := by cases hu; rfl
    rw [e1]
    exact ⟨rfl, hx.os, hx.tape, hx.output, hx.size, fun k hk => hx.block k hk (fun h => h)⟩
set_option maxRecDepth 100000 in
theorem contract (H : Type) (enc : TypeId × Value → H) (W : World) (base : Nat) (args : Array Value) (ds gs : List (DataW H)) (before : List MemPlace) (hk : Rows.uptoSmall H (ds ++ gs) = true)
    (hval0 : ∀ (j : Nat) t v, Try.f7.params[j]? = some t → args[j]? = some v → Value.okWide Try.prog W .any base t v)
    (hW : DataW.Whole enc Try.prog Try.f7.params.toList Rows.signatureNamesSpec.vars false W args.toList ds gs before) :
    Calls Try.prog 7 args W fun e W' => ∃ v, e = .returned v ∧ Rows.signatureNamesSpec.post enc Try.prog Try.f7 false true false false W args v W' := by
  have hval : ∀ (j : Nat) t v, Try.f7.params[j]? = some t → args[j]? = some v → Value.okWide Try.prog W .any base t v := hval0
  have hW' := hW
  obtain ⟨p, q, hA0, hV, rfl, hfz, hnd⟩ := hW
  have hA : DataW.TrodAll enc Try.prog W 0 (fun _ => true) true Try.f7.params.toList args.toList ds p := hA0
  rw [Try.params7] at hA hval
  obtain ⟨v0, d0, rfl, rfl, h0⟩ := trodAll_one hA
  obtain ⟨rfl, rfl⟩ := trodVars_none hV
  have h0k := h0
  obtain ⟨a0, hv0, hz⟩ := dcl_readsZ (hval 0 45 v0 rfl rfl) h0
  have hbk : Rows.uptoBulkAll ([d0] ++ ([] : List (DataW H))) ≤ 1048576 := of_decide_eq_true hk
  simp only [List.append_nil, Rows.uptoBulkAll] at hbk
  clear hA0 hval0
  simp only [List.append_nil] at hW'
  have hlt : ∀ x ∈ p, x.block < W.heap.size := fun x hx => by simpa using hW'.lt x hx
  refine (law7 a0 (by omega) hv0).mono fun e W' ⟨he, hb⟩ => ?_
  subst he
  have hargs : ∀ sp : Nat → Bool, (∀ x ∈ p, sp x.block = true) → DataW.TrodAll enc Try.prog W' 0 sp true [45] [v0] [d0] p := fun sp hsp =>
    trodAll_mk1 (WideElems.Trod_stays laidOut (by kernel_rfl) (of_decide_eq_true (by kernel_rfl)) h0k (fun x hx => hb.same (hlt x hx)) (fun x hx => hsp x hx))
  exact ⟨_, rfl, _, _, _, [], p, [], hW', trodAll_mk1 (shut_bool Try.underlying4 true), hargs _ (fun x hx => by simpa using hlt x hx), rfl, hb.frame _, fun h => by cases h⟩
set_option maxRecDepth 100000 in
theorem lifted (os : Os) (started : os.Started) (H : Type) (enc : TypeId × Value → H) (F : Stop.Interp) :
    ReturnsInHanded {} Try.checked os 7 .any ((Rows.OpenSpec.upto Rows.signatureNamesSpec).pre6 enc Try.prog Try.f7 Rows.signatureNamesUptoRow.domain false) (((Rows.OpenSpec.upto Rows.signatureNamesSpec).at F).post enc Try.prog Try.f7 false true false false) := by
  refine returnsInHanded_of_cond (C := Try.checked) (s := Rows.OpenSpec.upto Rows.signatureNamesSpec) (k := Rows.uptoSmall) rfl own started (by kernel_rfl) Try.func7
    (OpenSpec.witness (enc := enc) (C := Try.checked) (s := Rows.OpenSpec.upto Rows.signatureNamesSpec) (k := Rows.uptoSmall) rfl false ⟨#[], #[.agg #[.int .i64 0, .string ByteArray.empty, .int .i64 0, .int .i64 0, .int .i64 0, .string ByteArray.empty, .slice none 0 0, .slice none 0 0, .int .i64 0, .int .i64 0, .string ByteArray.empty, .slice none 0 0, .slice none 0 0, .int .i64 0, .slice none 0 0, .int .i64 0, .int .i64 0, .int .i64 0, .string ByteArray.empty, .slice none 0 0, .slice none 0 0, .slice none 0 0, .slice none 0 0]], []⟩ 8 (by kernel_rfl) (by kernel_rfl) (by kernel_rfl)
      (x := ([.agg [.lit (.int .i64 0), .lit (.string []), .lit (.int .i64 0), .agg [.lit (.int .i64 0), .lit (.int .i64 0), .lit (.string []), .nil, .nil], .agg [.lit (.int .i64 0), .lit (.int .i64 0), .lit (.string []), .nil, .nil], .lit (.int .i64 0), .nil, .agg [.lit (.int .i64 0), .agg [.lit (.int .i64 0), .lit (.int .i64 0), .lit (.string []), .nil, .nil], .nil], .nil]], [], [])) (by kernel_rfl) rfl (by kernel_rfl)) ?_
  intro W base args ds gs before hval hW _ hk _
  exact contract H enc W base args ds gs before hk hval hW
theorem over : Rows.signatureNamesUptoRow.holds Try.pinned (Rows.OpenSpec.upto Rows.signatureNamesSpec) :=
  OpenClaim.holds_of_cond 7 Try.f7 rfl rfl rfl rfl rfl rfl rfl ⟨rfl, rfl, rfl, rfl, rfl⟩ rfl rfl rfl rfl rfl (by kernel_rfl) Try.func7 (by kernel_rfl)
    (of_decide_eq_true (by kernel_rfl)) (by unfold Func.isWrapper; first | (rw [if_pos (by decide +kernel)]; kernel_rfl) | (rw [if_neg (by decide +kernel)]; exact ⟨rfl, rfl⟩))
    (fun os started H enc _ F => lifted os started H enc F)
theorem signatureNamesUpto : Rows.SignatureNamesUptoSaid := over
#print axioms signatureNamesUpto
end Go.Proofs.Ytafddfoefeploaa
