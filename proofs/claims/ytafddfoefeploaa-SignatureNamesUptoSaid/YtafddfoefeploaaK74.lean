/- Part 4 of the proof: rules, mirrors and plain laws. The statement SignatureNamesUpto is proved here: for every declaration the law returns true, and the declaration reads behind the call as it did before; condition: it is of bulk at most 1048576 (the second form). -/
import Derived.Test.YtafddfoefeploaaK73
import Derived.ProofKit
import Derived.Shelf.Abstract
namespace Go.Proofs.Ytafddfoefeploaa
open Go.RowKit Go.Shelf
set_option linter.unusedSimpArgs false
set_option linter.unusedVariables false
theorem en_65 : J3 Try.prog 65 := enters_of Try.func65 (by kernel_rfl) rfl
theorem en_79 : J3 Try.prog 79 := enters_of Try.func79 (by kernel_rfl) rfl
theorem en_81 : J3 Try.prog 81 := enters_of Try.func81 (by kernel_rfl) rfl
def m79 (a0 : Byt) : Option Bool :=
 Option.bind (cond (decide (97 ≤ a0.n))
   (cond (decide (a0.n ≤ 122))
   (some true)
   (cond (decide (65 ≤ a0.n))
   (cond (decide (a0.n ≤ 90))
   (some true)
   (some (a0.n == 95)))
   (some (a0.n == 95))))
   (cond (decide (65 ≤ a0.n))
   (cond (decide (a0.n ≤ 90))
   (some true)
   (some (a0.n == 95)))
   (some (a0.n == 95)))) (fun (v1 : Bool) => some v1)
set_option maxRecDepth 100000 in
set_option maxHeartbeats 2000000 in
theorem m79_ok (a0 : Byt) (r : Bool) (h0 : m79 a0 = some r) : Fun Try.prog 79 [.one (.d (.v (.int .u8 a0.n)))] (QD [.one (Uy r)]) := by
 unfold m79 at h0
 refine QY 9 21 Try.func79 rfl en_79 rfl (Um rfl) (fun S w => ?_)
 simp only [J7]
 refine Q5 <| Q0 <| Ug rfl rfl rfl <| Q4 <| Q3 <| Q5 ?_
 refine QS (fun (v1 : Bool) => ⟨[(2, .v (.one (Uy v1)))], [], [], 0, 21, []⟩) (fun (v1 : Bool) => (some v1) = some r) ?_ ?_
 refine Qb h0 (fun w1_ h1 h0 => ?_)
 refine Q0 <| Uf rfl rfl rfl <| Ue rfl rfl rfl (Q7 rfl rfl rfl) <| Uf rfl rfl rfl ?_
 refine QG (d := 5) (c := (decide (97 ≤ a0.n))) rfl (fun c2 => ?_) (fun c2 => ?_)
 replace h1 := Qk c2 h1
 refine Uf rfl rfl rfl <| Ue rfl rfl rfl (Q7 rfl rfl rfl) <| Ue rfl rfl rfl (Qh rfl rfl) <| Uf rfl rfl rfl ?_
 refine QG (d := 9) (c := (decide (a0.n ≤ 122))) rfl (fun c3 => ?_) (fun c3 => ?_)
 replace h1 := Qk c3 h1
 refine Q8 rfl rfl <| Q8 rfl rfl <| Q8 rfl rfl <| Q8 rfl rfl <| Q8 rfl rfl <| Q8 rfl rfl <| Ue rfl rfl rfl (Qh rfl rfl) <| Uf rfl rfl rfl <| Q8 rfl rfl <| Q8 rfl rfl <| Ue rfl rfl rfl (Qh rfl rfl) <| Ug rfl rfl rfl <| Q4 ?_
 have e := Uc h1; subst e
 exact Qc true (Ub (Nat.zero_le _) rfl rfl rfl rfl rfl) h0
 replace h1 := Ql c3 h1
 refine Uf rfl rfl rfl <| Ue rfl rfl rfl (Q7 rfl rfl rfl) <| Uf rfl rfl rfl ?_
 refine QG (d := 12) (c := (decide (65 ≤ a0.n))) rfl (fun c4 => ?_) (fun c4 => ?_)
 replace h1 := Qk c4 h1
 refine Uf rfl rfl rfl <| Ue rfl rfl rfl (Q7 rfl rfl rfl) <| Ue rfl rfl rfl (Qh rfl rfl) <| Ue rfl rfl rfl (Qd rfl rfl) <| Uf rfl rfl rfl ?_
 refine QG (d := 17) (c := (decide (a0.n ≤ 90))) rfl (fun c5 => ?_) (fun c5 => ?_)
 replace h1 := Qk c5 h1
 refine Q8 rfl rfl <| Q8 rfl rfl <| Ue rfl rfl rfl (Qh rfl rfl) <| Ug rfl rfl rfl <| Q4 ?_
 have e := Uc h1; subst e
 exact Qc true (Ub (Nat.zero_le _) rfl rfl rfl rfl rfl) h0
 replace h1 := Ql c5 h1
 refine Uf rfl rfl rfl <| Ue rfl rfl rfl (Q7 rfl rfl rfl) <| Ue rfl rfl rfl (Qd rfl rfl) <| Ug rfl rfl rfl <| Q4 ?_
 have e := Uc h1; subst e
 exact Qc (a0.n == 95) (Ub (Nat.zero_le _) rfl rfl rfl rfl rfl) h0
 replace h1 := Ql c4 h1
 refine Q8 rfl rfl <| Q8 rfl rfl <| Ue rfl rfl rfl (Qd rfl rfl) <| Ue rfl rfl rfl (Qd rfl rfl) <| Uf rfl rfl rfl <| Uf rfl rfl rfl <| Ue rfl rfl rfl (Q7 rfl rfl rfl) <| Ue rfl rfl rfl (Qd rfl rfl) <| Ug rfl rfl rfl <| Q4 ?_
 have e := Uc h1; subst e
 exact Qc (a0.n == 95) (Ub (Nat.zero_le _) rfl rfl rfl rfl rfl) h0
 replace h1 := Ql c2 h1
 refine Q8 rfl rfl <| Q8 rfl rfl <| Ue rfl rfl rfl (Qd rfl rfl) <| Uf rfl rfl rfl <| Uf rfl rfl rfl <| Ue rfl rfl rfl (Q7 rfl rfl rfl) <| Uf rfl rfl rfl ?_
 refine QG (d := 12) (c := (decide (65 ≤ a0.n))) rfl (fun c6 => ?_) (fun c6 => ?_)
 replace h1 := Qk c6 h1
 refine Uf rfl rfl rfl <| Ue rfl rfl rfl (Q7 rfl rfl rfl) <| Ue rfl rfl rfl (Qh rfl rfl) <| Ue rfl rfl rfl (Qd rfl rfl) <| Uf rfl rfl rfl ?_
 refine QG (d := 17) (c := (decide (a0.n ≤ 90))) rfl (fun c7 => ?_) (fun c7 => ?_)
 replace h1 := Qk c7 h1
 refine Q8 rfl rfl <| Q8 rfl rfl <| Ue rfl rfl rfl (Qh rfl rfl) <| Ug rfl rfl rfl <| Q4 ?_
 have e := Uc h1; subst e
 exact Qc true (Ub (Nat.zero_le _) rfl rfl rfl rfl rfl) h0
 replace h1 := Ql c7 h1
 refine Uf rfl rfl rfl <| Ue rfl rfl rfl (Q7 rfl rfl rfl) <| Ue rfl rfl rfl (Qd rfl rfl) <| Ug rfl rfl rfl <| Q4 ?_
 have e := Uc h1; subst e
 exact Qc (a0.n == 95) (Ub (Nat.zero_le _) rfl rfl rfl rfl rfl) h0
 replace h1 := Ql c6 h1
 refine Q8 rfl rfl <| Q8 rfl rfl <| Ue rfl rfl rfl (Qd rfl rfl) <| Ue rfl rfl rfl (Qd rfl rfl) <| Uf rfl rfl rfl <| Uf rfl rfl rfl <| Ue rfl rfl rfl (Q7 rfl rfl rfl) <| Ue rfl rfl rfl (Qd rfl rfl) <| Ug rfl rfl rfl <| Q4 ?_
 have e := Uc h1; subst e
 exact Qc (a0.n == 95) (Ub (Nat.zero_le _) rfl rfl rfl rfl rfl) h0
 intro v1 h0
 refine Q3 <| QA ?_
 have e := Uc h0; subst e
 exact QL (fun _ _ h => h) rfl (Qz rfl .nil) (.cons (.one (.d _)) .nil)
def m65_l0 (a0 : UN) (s1 : Bool × Int) : Option (LO (Bool × Int) (Bool ⊕ Bool)) :=
 cond (decide (s1.2 < (a0.length : Int)))
   (Option.bind (Yi a0 s1.2) fun (x3 : UInt8) =>
 Option.bind (m79 (⟨(x3.toNat : Int)⟩ : Byt)) fun (x4 : Bool) =>
 cond x4
   (some (.next (false, (Jk (s1.2 + 1)))))
   (cond s1.1
   (some (.done (.inr false)))
   (cond ((x3.toNat : Int) == 46)
   (some (.next (true, (Jk (s1.2 + 1)))))
   (Option.bind (cond (decide ((x3.toNat : Int) < 48))
   (some true)
   (some (decide (57 < (x3.toNat : Int))))) (fun (v8 : Bool) => cond v8
   (cond ((x3.toNat : Int) != 39)
   (some (.done (.inr false)))
   (some (.next (s1.1, (Jk (s1.2 + 1))))))
   (some (.next (s1.1, (Jk (s1.2 + 1))))))))))
   (some (.done (.inl s1.1)))
def m65 (a0 : UN) : Option Bool :=
 Option.bind (QV (m65_l0 a0) J2 (true, 0)) (Sum.elim (fun (o1 : Bool) => Option.bind (cond (!o1)
   (some (decide ((a0.length : Int) ≤ 64)))
   (some false)) (fun (v2 : Bool) => some v2)) (fun o => some o))
set_option maxRecDepth 100000 in
set_option maxHeartbeats 2000000 in
theorem m65_ok (a0 : UN) (r : Bool) (h0 : m65 a0 = some r) : Fun Try.prog 65 [.one (Jl a0)] (QD [.one (Uy r)]) := by
 unfold m65 at h0
 refine QY 9 39 Try.func65 rfl en_65 rfl (Um rfl) (fun S w => ?_)
 simp only [J7]
 refine Q5 <| Q0 <| Ug rfl rfl rfl <| Q4 <| Q3 <| Q5 <| Q0 <| Ug rfl rfl rfl <| Q4 <| Q3 <| Q5 <| Q5 <| Q0 <| Uf rfl rfl rfl ?_
 refine Ue rfl rfl rfl (X2 Wy rfl) <| Uf rfl rfl rfl <| Q4 <| Q3 <| Qf ?_
 refine QR 0 (fun (o1 : Bool) => ⟨[(0, .v (.one (Jl a0))), (3, .v (.one (Uy o1)))], [], [], 0, 39, []⟩) (fun (o1 : Bool) => (Option.bind (cond (!o1)
     (some (decide ((a0.length : Int) ≤ 64)))
     (some false)) (fun (v2 : Bool) => some v2)) = some r) ?_ ?_
 refine Qb h0 (fun o2 hl1 h0 => ?_)
 refine QQ (m65_l0 a0) (fun s1 => ⟨[(0, .v (.one (Jl a0))), (3, .v (.one (Uy s1.1))), (7, .v (.one (Ux (a0.length : Int)))), (8, .v (.one (Ux s1.2)))], [], [], 0, 39, []⟩) (true, 0) o2 (Ub (Nat.zero_le _) rfl rfl rfl rfl rfl) hl1 (fun s1 n1 oo1 h1 ho1 => ?_)
 unfold m65_l0 at h1
 refine Q5 <| Q0 <| Ue rfl rfl rfl (Q7 rfl rfl rfl) <| Q4 <| Q3 <| Q5 ?_
 refine Qg (b := (decide (s1.2 < (a0.length : Int)))) rfl (fun c3 => ?_) (fun c3 => ?_)
 replace h1 := Qk c3 h1
 refine Qj <| Q3 <| Q5 <| Qf <| Q5 <| Q0 <| Uf rfl rfl rfl <| Ug rfl rfl rfl <| Q4 <| Q3 <| Q5 <| Q0 <| Uf rfl rfl rfl <| Uf rfl rfl rfl ?_
 refine Qb h1 (fun x4 hx4 h1 => ?_)
 refine Ue rfl rfl rfl (RO.ixS Wy rfl rfl hx4) <| Ug rfl rfl rfl <| Q4 <| Q3 <| Qf <| Q5 <| Q0 <| Uf rfl rfl rfl ?_
 refine Qb h1 (fun x5 hx5 h1 => ?_)
 refine Q9 rfl rfl (Um rfl) (Qo (m79_ok (⟨(x4.toNat : Int)⟩ : Byt) x5 hx5) rfl (.cons (.one (.d _)) .nil)) <| Ug rfl rfl rfl <| Q4 <| Q3 ?_
 refine Qg (b := x5) rfl (fun c6 => ?_) (fun c6 => ?_)
 replace h1 := Qk c6 h1
 refine Q0 <| Ug rfl rfl rfl <| Q4 <| Qe <| Qe <| Q3 <| Q0 <| Ue rfl rfl rfl (Q7 rfl rfl rfl) <| Uf rfl rfl rfl <| Q4 ?_
 have e := Uc h1; subst e
 refine QM (false, (Jk (s1.2 + 1))) (Ub (Nat.zero_le _) rfl rfl rfl rfl rfl) ho1
 replace h1 := Ql c6 h1
 refine Q5 <| Q0 <| Uf rfl rfl rfl <| Ug rfl rfl rfl <| Q4 <| Q3 ?_
 refine Qg (b := s1.1) rfl (fun c7 => ?_) (fun c7 => ?_)
 replace h1 := Qk c7 h1
 refine Q5 <| Q0 <| Ug rfl rfl rfl <| Q4 <| Q3 <| QA ?_
 have e := Uc h1; subst e
 have e_ : _ = _ := ho1
 subst e_
 try dsimp only [Sum.elim_inl, Sum.elim_inr] at h0
 have e := Uc h0; subst e
 exact QL (fun _ _ h => h) rfl (Qz rfl .nil) (.cons (.one (.d _)) .nil)
 replace h1 := Ql c7 h1
 refine Q5 <| Q0 <| Uf rfl rfl rfl <| Ue rfl rfl rfl (Q7 rfl rfl rfl) <| Ug rfl rfl rfl <| Q4 <| Q3 ?_
 refine Qg (b := ((x4.toNat : Int) == 46)) rfl (fun c8 => ?_) (fun c8 => ?_)
 replace h1 := Qk c8 h1
 refine Q0 <| Ug rfl rfl rfl <| Q4 <| Qe <| Qe <| Q3 <| Q0 <| Ue rfl rfl rfl (Q7 rfl rfl rfl) <| Uf rfl rfl rfl <| Q4 ?_
 have e := Uc h1; subst e
 refine QM (true, (Jk (s1.2 + 1))) (Ub (Nat.zero_le _) rfl rfl rfl rfl rfl) ho1
 replace h1 := Ql c8 h1
 refine Q5 ?_
 refine QS (fun (v9 : Bool) => ⟨[(0, .v (.one (Jl a0))), (3, .v (.one (Uy s1.1))), (5, .v (.one (.d (.v (.int .u8 (x4.toNat : Int)))))), (7, .v (.one (Ux (a0.length : Int)))), (8, .v (.one (Ux s1.2))), (22, .v (.one (Uy v9)))], [], [], 0, 39, []⟩) (fun (v9 : Bool) => (cond v9
     (cond ((x4.toNat : Int) != 39)
     (some (.done (.inr false)))
     (some (.next (s1.1, (Jk (s1.2 + 1))))))
     (some (.next (s1.1, (Jk (s1.2 + 1)))))) = some oo1) ?_ ?_
 refine Qb h1 (fun w2_ h2 h1 => ?_)
 refine Q0 <| Uf rfl rfl rfl <| Ue rfl rfl rfl (Q7 rfl rfl rfl) <| Uf rfl rfl rfl ?_
 refine QG (d := 25) (c := (decide ((x4.toNat : Int) < 48))) rfl (fun c10 => ?_) (fun c10 => ?_)
 replace h2 := Qk c10 h2
 refine Q8 rfl rfl <| Q8 rfl rfl <| Ue rfl rfl rfl (Qh rfl rfl) <| Ug rfl rfl rfl <| Q4 ?_
 have e := Uc h2; subst e
 exact Qc true (Ub (Nat.zero_le _) rfl rfl rfl rfl rfl) h1
 replace h2 := Ql c10 h2
 refine Uf rfl rfl rfl <| Ue rfl rfl rfl (Q7 rfl rfl rfl) <| Ue rfl rfl rfl (Qd rfl rfl) <| Ug rfl rfl rfl <| Q4 ?_
 have e := Uc h2; subst e
 exact Qc (decide (57 < (x4.toNat : Int))) (Ub (Nat.zero_le _) rfl rfl rfl rfl rfl) h1
 intro v9 h1
 refine Q3 ?_
 refine Qg (b := v9) rfl (fun c11 => ?_) (fun c11 => ?_)
 replace h1 := Qk c11 h1
 refine Q5 <| Q0 <| Uf rfl rfl rfl <| Ue rfl rfl rfl (Q7 rfl rfl rfl) <| Q4 <| Q3 ?_
 refine Qg (b := ((x4.toNat : Int) != 39)) rfl (fun c12 => ?_) (fun c12 => ?_)
 replace h1 := Qk c12 h1
 refine Q5 <| Q0 <| Ug rfl rfl rfl <| Q4 <| Q3 <| QA ?_
 have e := Uc h1; subst e
 have e_ : _ = _ := ho1
 subst e_
 try dsimp only [Sum.elim_inl, Sum.elim_inr] at h0
 have e := Uc h0; subst e
 exact QL (fun _ _ h => h) rfl (Qz rfl .nil) (.cons (.one (.d _)) .nil)
 replace h1 := Ql c12 h1
 refine Qj <| Qe <| Qe <| Q3 <| Q0 <| Ue rfl rfl rfl (Q7 rfl rfl rfl) <| Uf rfl rfl rfl <| Q4 ?_
 have e := Uc h1; subst e
 refine QM (s1.1, (Jk (s1.2 + 1))) (Ub (Nat.zero_le _) rfl rfl rfl rfl rfl) ho1
 replace h1 := Ql c11 h1
 refine Qj <| Qe <| Qe <| Q3 <| Q0 <| Ue rfl rfl rfl (Q7 rfl rfl rfl) <| Uf rfl rfl rfl <| Q4 ?_
 have e := Uc h1; subst e
 refine QM (s1.1, (Jk (s1.2 + 1))) (Ub (Nat.zero_le _) rfl rfl rfl rfl rfl) ho1
 replace h1 := Ql c3 h1
 refine J1 <| Qn <| Qn ?_
 have e := Uc h1; subst e
 have e_ : _ = _ := ho1
 subst e_
 exact QP s1.1 (Ub (Nat.zero_le _) rfl rfl rfl rfl rfl) h0
 intro o1 h0
 refine QF <| Q3 <| Q5 ?_
 refine QS (fun (v13 : Bool) => ⟨[(2, .v (.one (Uy v13)))], [], [], 0, 39, []⟩) (fun (v13 : Bool) => (some v13) = some r) ?_ ?_
 refine Qb h0 (fun w1_ h1 h0 => ?_)
 refine Q0 <| Uf rfl rfl rfl <| Ue rfl rfl rfl (Jb rfl) <| Uf rfl rfl rfl ?_
 refine QG (d := 34) (c := (!o1)) rfl (fun c14 => ?_) (fun c14 => ?_)
 replace h1 := Qk c14 h1
 refine Uf rfl rfl rfl <| Ue rfl rfl rfl (X2 Wy rfl) <| Ue rfl rfl rfl (Q7 rfl rfl rfl) <| Ue rfl rfl rfl (Qh rfl rfl) <| Ug rfl rfl rfl <| Q4 ?_
 have e := Uc h1; subst e
 exact Qc (decide ((a0.length : Int) ≤ 64)) (Ub (Nat.zero_le _) rfl rfl rfl rfl rfl) h0
 replace h1 := Ql c14 h1
 refine Q8 rfl rfl <| Q8 rfl rfl <| Q8 rfl rfl <| Ue rfl rfl rfl (Qd rfl rfl) <| Ug rfl rfl rfl <| Q4 ?_
 have e := Uc h1; subst e
 exact Qc false (Ub (Nat.zero_le _) rfl rfl rfl rfl rfl) h0
 intro v13 h0
 refine Q3 <| QA ?_
 have e := Uc h0; subst e
 exact QL (fun _ _ h => h) rfl (Qz rfl .nil) (.cons (.one (.d _)) .nil)
def m81_l0 (a0 : Tm) (rc : Tm → Option Int) (s1 : Int × Int) : Option (LO (Int × Int) Int) :=
 cond (decide (s1.2 < (a0.kids.length : Int)))
   (Option.bind (Yi a0.kids s1.2) fun (x3 : Tm) =>
 Option.bind (rc x3) fun (x4 : Int) =>
 some (.next ((max s1.1 x4), (Jk (s1.2 + 1)))))
   (some (.done s1.1))
def m81s (rc : Tm → Option Int) (a0 : Tm) : Option Int :=
 Option.bind (QV (m81_l0 a0 rc) J2 (0, 0)) (fun (o1 : Int) => some (Jk (o1 + 1)))
def m81F (rc : Tm → Option Int) (u : Tm) : Option Int := m81s rc u
def m81 (a0 : Tm) : Option Int := Yt m81F J2 a0
set_option maxRecDepth 100000 in
set_option maxHeartbeats 2000000 in
theorem m81s_ok (rc : Tm → Option Int) (H : ∀ (a0 : Tm) (r : Int), rc a0 = some r → Fun Try.prog 81 [.agg (UA a0)] (QD [.one (Ux r)])) (a0 : Tm) (r : Int) (h0 : m81s rc a0 = some r) : Fun Try.prog 81 [.agg (UA a0)] (QD [.one (Ux r)]) := by
 unfold m81s at h0
 refine QY 9 20 Try.func81 rfl en_81 rfl (Um rfl) (fun S w => ?_)
 simp only [J7]
 refine Q5 <| Q0 <| Q9 rfl rfl (Um rfl) (QN rfl) <| Ug rfl rfl rfl <| Q4 <| Q3 <| Q5 <| Q0 <| Ug rfl rfl rfl <| Q4 <| Q3 <| Q5 <| Q5 <| Q0 ?_
 refine Ue rfl rfl rfl (Q1 JJ rfl) <| Ue rfl rfl rfl (Q6 JH rfl rfl rfl) <| Ue rfl rfl rfl (Qx (α := Tm) Ji rfl (.d _)) <| Uf rfl rfl rfl <| Q4 <| Q3 <| Qf ?_
 refine QR 0 (fun (o1 : Int) => ⟨[(3, .v (.one (Ux o1)))], [(0, .cells 33 (UA a0))], [], 1, 20, []⟩) (fun (o1 : Int) => (some (Jk (o1 + 1))) = some r) ?_ ?_
 refine Qb h0 (fun o2 hl1 h0 => ?_)
 refine QQ (m81_l0 a0 rc) (fun s1 => ⟨[(3, .v (.one (Ux s1.1))), (7, .v (.one (Uv a0.kids))), (8, .v (.one (Ux (a0.kids.length : Int)))), (9, .v (.one (Ux s1.2)))], [(0, .cells 33 (UA a0))], [], 1, 20, []⟩) (0, 0) o2 (Ub (Nat.zero_le _) rfl rfl rfl rfl rfl) hl1 (fun s1 n1 oo1 h1 ho1 => ?_)
 unfold m81_l0 at h1
 refine Q5 <| Q0 <| Ue rfl rfl rfl (Q7 rfl rfl rfl) <| Q4 <| Q3 <| Q5 ?_
 refine Qg (b := (decide (s1.2 < (a0.kids.length : Int)))) rfl (fun c3 => ?_) (fun c3 => ?_)
 replace h1 := Qk c3 h1
 refine Qj <| Q3 <| Q5 <| Qf <| Q5 <| Q0 ?_
 refine Qb h1 (fun x4 hx4 h1 => ?_)
 refine Ue rfl rfl rfl (Qq (α := Tm) Ji rfl (.d _) rfl hx4) <| Ue rfl rfl rfl (Qv (x4 : Tm) QW rfl) <| Q9 rfl rfl (Um rfl) (Qm ZS rfl) <| Qy rfl rfl (QC (x4 : Tm) QW rfl rfl rfl rfl rfl) <| Q4 <| Q3 <| Q0 <| Uf rfl rfl rfl <| Ue rfl rfl rfl (QK (x4 : Tm) QW rfl rfl) ?_
 refine Qb h1 (fun x5 hx5 h1 => ?_)
 refine Q9 rfl rfl (Um rfl) (Qo (H x4 x5 hx5) rfl (.cons (.agg (.cons (.d _) (.cons (.d _) (.cons (.d _) (.cons (.d _) (.cons (.d _) .nil)))))) .nil)) <| Ue rfl rfl rfl (Gq rfl rfl) <| Ug rfl rfl rfl <| Q4 <| Qe <| Q3 <| Q0 <| Ue rfl rfl rfl (Q7 rfl rfl rfl) <| Uf rfl rfl rfl <| Q4 ?_
 have e := Uc h1; subst e
 refine QM ((max s1.1 x5), (Jk (s1.2 + 1))) (Ub (Nat.zero_le _) rfl rfl rfl rfl rfl) ho1
 replace h1 := Ql c3 h1
 refine J1 <| Qn <| Qn ?_
 have e := Uc h1; subst e
 have e_ : _ = _ := ho1
 subst e_
 exact QP s1.1 (Ub (Nat.zero_le _) rfl rfl rfl rfl rfl) h0
 intro o1 h0
 refine QF <| Q3 <| Q5 <| Q0 <| Uf rfl rfl rfl <| Ue rfl rfl rfl (Q7 rfl rfl rfl) <| Ug rfl rfl rfl <| Q4 <| Q3 <| QA ?_
 have e := Uc h0; subst e
 exact QL (fun _ _ h => h) rfl (Qz rfl .nil) (.cons (.one (.d _)) .nil)
theorem m81_all (n : Nat) (u : Tm) (r : Int) (h0 : Yt m81F n u = some r) : Fun Try.prog 81 [.agg (UA u)] (QD [.one (Ux r)]) :=
 YB (C := fun u r => Fun Try.prog 81 [.agg (UA u)] (QD [.one (Ux r)])) (fun rc H u r h => m81s_ok rc (fun a0 r h => H a0 r h) u r h) n u r h0
theorem m81_ok (a0 : Tm) (r : Int) (h0 : m81 a0 = some r) : Fun Try.prog 81 [.agg (UA a0)] (QD [.one (Ux r)]) := m81_all J2 a0 r h0
end Go.Proofs.Ytafddfoefeploaa
namespace Go.Proofs.Ytafddfoefeploaa
open Go.RowKit Go.Shelf
set_option linter.unusedSimpArgs false
set_option linter.unusedVariables false
theorem Zb : J0 Try.prog 33 1 = some 1 := by kernel_rfl
theorem Zl : J0 Try.prog 33 3 = some 3 := by kernel_rfl
theorem fo_127_0 : J0 Try.prog 127 0 = some 0 := by kernel_rfl
theorem fo_127_1 : J0 Try.prog 127 1 = some 1 := by kernel_rfl
theorem fo_127_2 : J0 Try.prog 127 2 = some 2 := by kernel_rfl
theorem fo_127_3 : J0 Try.prog 127 3 = some 3 := by kernel_rfl
theorem fo_134_0 : J0 Try.prog 134 0 = some 0 := by kernel_rfl
theorem fo_134_1 : J0 Try.prog 134 1 = some 1 := by kernel_rfl
theorem K8 : J0 Try.prog 134 2 = some 2 := by kernel_rfl
theorem K7 : J0 Try.prog 134 3 = some 3 := by kernel_rfl
theorem Gu : Jy Try.prog 30 = some (false, 1) := by kernel_rfl
theorem ag_127 : Jy Try.prog 127 = some (true, 4) := by kernel_rfl
theorem ag_134 : Jy Try.prog 134 = some (true, 5) := by kernel_rfl
theorem Zf : Jo Try.prog 30 = some (87, 2) := by kernel_rfl
theorem WE : JE Try.prog 87 = some [.int .i64 0, .slice none 0 0] := by kernel_rfl
theorem z_134 : JE Try.prog 134 = some [.bool false, .bool false, .int .i64 0, .int .i64 0, .int .i64 0] := by kernel_rfl
theorem en_80 : J3 Try.prog 80 := enters_of Try.func80 (by kernel_rfl) rfl
theorem en_96 : J3 Try.prog 96 := enters_of Try.func96 (by kernel_rfl) rfl
theorem en_97 : J3 Try.prog 97 := enters_of Try.func97 (by kernel_rfl) rfl
theorem as_135 : tyArrS Try.prog 135 = some (13, 5) := by kernel_rfl
def m90  : Option ((List Use)) :=
 some ([(⟨true, false, 0, 0, (-1)⟩ : Use), (⟨false, false, 0, 0, (-1)⟩ : Use), (⟨false, false, 1, 0, (-1)⟩ : Use), (⟨false, true, (-1), 0, (-1)⟩ : Use), (⟨false, false, 0, 2, (-1)⟩ : Use), (⟨false, false, 0, 2, 1⟩ : Use), (⟨false, false, 0, 2, 1⟩ : Use), (⟨false, false, 0, 2, 1⟩ : Use), (⟨false, false, 0, 3, (-1)⟩ : Use), (⟨false, false, 0, 1, (-1)⟩ : Use), (⟨false, false, 0, 1, (-1)⟩ : Use), (⟨false, false, 0, 3, 2⟩ : Use), (⟨true, false, 0, 0, (-1)⟩ : Use)] : List Use)
set_option maxRecDepth 100000 in
set_option maxHeartbeats 2000000 in
theorem m90_ok  (r : (List Use)) (h0 : m90  = some r) : Fun Try.prog 90 [] (QD [.agg (KV (r : List Use))]) := by
 unfold m90 at h0
 refine QY 9 15 Try.func90 rfl en_90 rfl (Um rfl) (fun S w => ?_)
 simp only [J7]
 refine Q5 <| Q0 <| Q9 rfl rfl (Um rfl) (Qm Ws rfl) <| Q4 <| Q3 <| Q5 <| Q0 <| Ue rfl rfl rfl (J9 JD rfl rfl rfl rfl) <| Ue rfl rfl rfl (Gf JD rfl rfl rfl) <| Ue rfl rfl rfl (J9 JD rfl rfl rfl rfl) <| Ue rfl rfl rfl (ZA JD rfl rfl rfl rfl rfl) <| Ue rfl rfl rfl (J9 JD rfl rfl rfl rfl) <| Ue rfl rfl rfl (J9 JD rfl rfl rfl rfl) <| Ue rfl rfl rfl (J9 JD rfl rfl rfl rfl) ?_
 refine Ue rfl rfl rfl (J9 JD rfl rfl rfl rfl) <| Ue rfl rfl rfl (J9 JD rfl rfl rfl rfl) <| Ue rfl rfl rfl (J9 JD rfl rfl rfl rfl) <| Ue rfl rfl rfl (J9 JD rfl rfl rfl rfl) <| Ue rfl rfl rfl (J9 JD rfl rfl rfl rfl) <| Ue rfl rfl rfl (J9 JD rfl rfl rfl rfl) <| Ue rfl rfl rfl (Y1 bd_135 rfl (.cons rfl (.cons rfl (.cons rfl (.cons rfl (.cons rfl (.cons rfl (.cons rfl (.cons rfl (.cons rfl (.cons rfl (.cons rfl (.cons rfl (.cons rfl .nil))))))))))))) rfl) <| Qy rfl rfl (Yw GU rfl rfl rfl rfl rfl rfl) <| Q4 <| Q3 <| QA ?_
 have e := Uc h0; subst e
 exact QL (fun _ _ h => h) rfl (Z0 GU rfl rfl rfl rfl .nil) (.cons (.agg (.cons (.d _) (.cons (.d _) (.cons (.d _) (.cons (.d _) (.cons (.d _) (.cons (.d _) (.cons (.d _) (.cons (.d _) (.cons (.d _) (.cons (.d _) (.cons (.d _) (.cons (.d _) (.cons (.d _) (.cons (.d _) (.cons (.d _) (.cons (.d _) (.cons (.d _) (.cons (.d _) (.cons (.d _) (.cons (.d _) (.cons (.d _) (.cons (.d _) (.cons (.d _) (.cons (.d _) (.cons (.d _) (.cons (.d _) (.cons (.d _) (.cons (.d _) (.cons (.d _) (.cons (.d _) (.cons (.d _) (.cons (.d _) (.cons (.d _) (.cons (.d _) (.cons (.d _) (.cons (.d _) (.cons (.d _) (.cons (.d _) (.cons (.d _) (.cons (.d _) (.cons (.d _) (.cons (.d _) (.cons (.d _) (.cons (.d _) (.cons (.d _) (.cons (.d _) (.cons (.d _) (.cons (.d _) (.cons (.d _) (.cons (.d _) (.cons (.d _) (.cons (.d _) (.cons (.d _) (.cons (.d _) (.cons (.d _) (.cons (.d _) (.cons (.d _) (.cons (.d _) (.cons (.d _) (.cons (.d _) (.cons (.d _) (.cons (.d _) (.cons (.d _) (.cons (.d _) (.cons (.d _) .nil)))))))))))))))))))))))))))))))))))))))))))))))))))))))))))))))))) .nil)
def m96_k0 (p0_ : Bool) (p1_ : Tm) : Option Bool :=
 cond p0_
   (some false)
   (Option.bind (m90 ) fun (b0_ : (List Use)) =>
 Option.bind (Yi b0_ p1_.kind) fun (b1_ : Use) =>
 J8 (Nat.beq b0_.length 13)
 (Option.bind (cond b1_.index
   (cond b1_.name
   (cond (decide (b1_.levels < 0))
   (some ((p1_.kids.length : Int) == b1_.kids))
   (cond ((p1_.levels.length : Int) == b1_.levels)
   (some ((p1_.kids.length : Int) == b1_.kids))
   (some false)))
   (cond (p1_.name == ([] : List UInt8))
   (cond (decide (b1_.levels < 0))
   (some ((p1_.kids.length : Int) == b1_.kids))
   (cond ((p1_.levels.length : Int) == b1_.levels)
   (some ((p1_.kids.length : Int) == b1_.kids))
   (some false)))
   (some false)))
   (cond (p1_.index == 0)
   (cond b1_.name
   (cond (decide (b1_.levels < 0))
   (some ((p1_.kids.length : Int) == b1_.kids))
   (cond ((p1_.levels.length : Int) == b1_.levels)
   (some ((p1_.kids.length : Int) == b1_.kids))
   (some false)))
   (cond (p1_.name == ([] : List UInt8))
   (cond (decide (b1_.levels < 0))
   (some ((p1_.kids.length : Int) == b1_.kids))
   (cond ((p1_.levels.length : Int) == b1_.levels)
   (some ((p1_.kids.length : Int) == b1_.kids))
   (some false)))
   (some false)))
   (some false))) (fun (b2_ : Bool) => some b2_)))
def m96 (a0 : Tm) : Option Bool :=
 Option.bind (cond (decide (a0.kind < 0))
   (some true)
   (some (decide (13 ≤ a0.kind)))) (fun (v1 : Bool) => m96_k0 v1 a0)
set_option maxRecDepth 100000 in
set_option maxHeartbeats 2000000 in
theorem m96_ok (a0 : Tm) (r : Bool) (h0 : m96 a0 = some r) : Fun Try.prog 96 [.agg (UA a0)] (QD [.one (Uy r)]) := by
 unfold m96 at h0
 refine QY 9 53 Try.func96 rfl en_96 rfl (Um rfl) (fun S w => ?_)
 simp only [J7]
 refine Q5 <| Q0 <| Q9 rfl rfl (Um rfl) (QN rfl) <| Ug rfl rfl rfl <| Q4 <| Q3 <| Q5 <| Q5 ?_
 refine QS (fun (v1 : Bool) => ⟨[(1, .v (.one (.ptr 0 0))), (11, .v (.one (Uy v1)))], [(0, .cells 33 (UA a0))], [], 1, 53, []⟩) (fun (v1 : Bool) => (m96_k0 v1 a0) = some r) ?_ ?_
 refine Qb h0 (fun w1_ h1 h0 => ?_)
 refine Q0 <| Ue rfl rfl rfl (Q1 Y3 rfl) <| Ue rfl rfl rfl (Q6 QZ rfl rfl rfl) <| Ue rfl rfl rfl (Q7 rfl rfl rfl) <| Uf rfl rfl rfl ?_
 refine QG (d := 7) (c := (decide (a0.kind < 0))) rfl (fun c2 => ?_) (fun c2 => ?_)
 replace h1 := Qk c2 h1
 refine Q8 rfl rfl <| Q8 rfl rfl <| Q8 rfl rfl <| Ue rfl rfl rfl (Qh rfl rfl) <| Q4 ?_
 have e := Uc h1; subst e
 exact Qc true (Ub (Nat.zero_le _) rfl rfl rfl rfl rfl) h0
 replace h1 := Ql c2 h1
 refine Ue rfl rfl rfl (Q1 Y3 rfl) <| Ue rfl rfl rfl (Q6 QZ rfl rfl rfl) <| Ue rfl rfl rfl (Q7 rfl rfl rfl) <| Ue rfl rfl rfl (Qd rfl rfl) <| Q4 ?_
 have e := Uc h1; subst e
 exact Qc (decide (13 ≤ a0.kind)) (Ub (Nat.zero_le _) rfl rfl rfl rfl rfl) h0
 intro v1 h0
 unfold m96_k0 at h0
 refine Q3 ?_
 refine Qg (b := v1) rfl (fun c3 => ?_) (fun c3 => ?_)
 replace h0 := Qk c3 h0
 refine Q5 <| Q0 <| Ug rfl rfl rfl <| Q4 <| Q3 <| QA ?_
 have e := Uc h0; subst e
 exact QL (fun _ _ h => h) rfl (Qz rfl .nil) (.cons (.one (.d _)) .nil)
 replace h0 := Ql c3 h0
 refine Qj <| Q3 <| Q5 ?_
 refine Jv [4, 5] [(0, 1), (1, 1), (2, 1), (3, 1)] YI (by kernel_rfl) (by kernel_rfl) (by kernel_rfl) ?_
 refine Qb h0 (fun x4 hx4 h0 => ?_)
 refine RunA.rd rfl rfl rfl (Qo (m90_ok  x4 hx4) rfl .nil) rfl <| RunA.rd rfl rfl rfl (Q2 (Q1 Y3 rfl)) rfl <| RunA.rd rfl rfl rfl (Q2 (Q6 QZ rfl rfl rfl)) rfl ?_
 refine Qb h0 (fun x5 hx5 h0 => ?_)
 refine JC h0 (fun g6 h0 => ?_)
 refine RunA.rd rfl rfl rfl (Q2 (RO.indexAgg (α := Use) (tbl := x4) as_135 rfl rfl g6 rfl hx5)) rfl <| RunA.eff rfl rfl rfl (Qm z_134 rfl) rfl <| RunA.eff rfl rfl rfl (QC (x5 : Use) ag_134 rfl rfl rfl rfl rfl) rfl ?_
 refine RunA.nil ⟨?ex, _, _, rfl, ?_⟩
 case ex => exact ⟨⟨_, rfl, _, _, rfl, rfl, rfl, .inl ⟨rfl, _, Qo (m90_ok  x4 hx4) rfl .nil, rfl⟩⟩, ⟨_, rfl, _, _, rfl, rfl, rfl, .inl ⟨rfl, _, Q2 (Q1 Y3 rfl), rfl⟩⟩, ⟨_, rfl, _, _, rfl, rfl, rfl, .inl ⟨rfl, _, Q2 (Q6 QZ rfl rfl rfl), rfl⟩⟩, ⟨_, rfl, _, _, rfl, rfl, rfl, .inl ⟨rfl, _, Q2 (RO.indexAgg (α := Use) (tbl := x4) as_135 rfl rfl g6 rfl hx5), rfl⟩⟩, trivial⟩
 refine JX (st' := ⟨[(1, .v (.one (.ptr 0 0))), (3, .v (.one (.ptr 1 0)))], [(0, .cells 33 (UA a0)), (1, .cells 134 (UA x5))], [], 2, 53, []⟩) (Ub (Nat.zero_le _) rfl rfl rfl rfl rfl) <| Q3 <| Q5 ?_
 refine QS (fun (v7 : Bool) => ⟨[(2, .v (.one (Uy v7)))], [(0, .cells 33 (UA a0)), (1, .cells 134 (UA x5))], [], 2, 53, []⟩) (fun (v7 : Bool) => (some v7) = some r) ?_ ?_
 refine Qb h0 (fun w1_ h1 h0 => ?_)
 refine Q0 <| Ue rfl rfl rfl (Q1 fo_134_0 rfl) <| Ue rfl rfl rfl (Q6 WC rfl rfl rfl) <| Uf rfl rfl rfl ?_
 refine QG (d := 18) (c := x5.index) rfl (fun c8 => ?_) (fun c8 => ?_)
 replace h1 := Qk c8 h1
 refine Q8 rfl rfl <| Q8 rfl rfl <| Q8 rfl rfl <| Ue rfl rfl rfl (Qh rfl rfl) <| Uf rfl rfl rfl <| Ue rfl rfl rfl (Q1 fo_134_1 rfl) <| Ue rfl rfl rfl (Q6 WC rfl rfl rfl) <| Uf rfl rfl rfl ?_
 refine QG (d := 26) (c := x5.name) rfl (fun c9 => ?_) (fun c9 => ?_)
 replace h1 := Qk c9 h1
 refine Q8 rfl rfl <| Q8 rfl rfl <| Q8 rfl rfl <| Ue rfl rfl rfl (Qh rfl rfl) <| Ue rfl rfl rfl (Qh rfl rfl) <| Uf rfl rfl rfl <| Ue rfl rfl rfl (Q1 K8 rfl) <| Ue rfl rfl rfl (Q6 QZ rfl rfl rfl) <| Ue rfl rfl rfl (Q7 rfl rfl rfl) <| Uf rfl rfl rfl ?_
 refine QG (d := 36) (c := (decide (x5.levels < 0))) rfl (fun c10 => ?_) (fun c10 => ?_)
 replace h1 := Qk c10 h1
 refine Q8 rfl rfl <| Q8 rfl rfl <| Q8 rfl rfl <| Q8 rfl rfl <| Q8 rfl rfl <| Q8 rfl rfl <| Ue rfl rfl rfl (Qh rfl rfl) <| Ue rfl rfl rfl (Qh rfl rfl) <| Uf rfl rfl rfl <| Ue rfl rfl rfl (Q1 JJ rfl) <| Ue rfl rfl rfl (Q6 JH rfl rfl rfl) <| Ue rfl rfl rfl (Qx (α := Tm) Ji rfl (.d _)) <| Ue rfl rfl rfl (Q1 K7 rfl) <| Ue rfl rfl rfl (Q6 QZ rfl rfl rfl) ?_
 refine Ue rfl rfl rfl (Q7 rfl rfl rfl) <| Ue rfl rfl rfl (Qh rfl rfl) <| Ug rfl rfl rfl <| Q4 ?_
 have e := Uc h1; subst e
 exact Qc ((a0.kids.length : Int) == x5.kids) (Ub (Nat.zero_le _) rfl rfl rfl rfl rfl) h0
 replace h1 := Ql c10 h1
 refine Ue rfl rfl rfl (Q1 Zl rfl) <| Ue rfl rfl rfl (Q6 Gu rfl rfl rfl) <| Ue rfl rfl rfl (Qx (α := Lvl) Zf rfl (.d _)) <| Ue rfl rfl rfl (Q1 K8 rfl) <| Ue rfl rfl rfl (Q6 QZ rfl rfl rfl) <| Ue rfl rfl rfl (Q7 rfl rfl rfl) <| Ue rfl rfl rfl (Qd rfl rfl) <| Ue rfl rfl rfl (Qh rfl rfl) <| Uf rfl rfl rfl ?_
 refine QG (d := 45) (c := ((a0.levels.length : Int) == x5.levels)) rfl (fun c11 => ?_) (fun c11 => ?_)
 replace h1 := Qk c11 h1
 refine Ue rfl rfl rfl (Q1 JJ rfl) <| Ue rfl rfl rfl (Q6 JH rfl rfl rfl) <| Ue rfl rfl rfl (Qx (α := Tm) Ji rfl (.d _)) <| Ue rfl rfl rfl (Q1 K7 rfl) <| Ue rfl rfl rfl (Q6 QZ rfl rfl rfl) <| Ue rfl rfl rfl (Q7 rfl rfl rfl) <| Ue rfl rfl rfl (Qh rfl rfl) <| Ug rfl rfl rfl <| Q4 ?_
 have e := Uc h1; subst e
 exact Qc ((a0.kids.length : Int) == x5.kids) (Ub (Nat.zero_le _) rfl rfl rfl rfl rfl) h0
 replace h1 := Ql c11 h1
 refine Q8 rfl rfl <| Q8 rfl rfl <| Q8 rfl rfl <| Q8 rfl rfl <| Q8 rfl rfl <| Q8 rfl rfl <| Ue rfl rfl rfl (Qd rfl rfl) <| Ug rfl rfl rfl <| Q4 ?_
 have e := Uc h1; subst e
 exact Qc false (Ub (Nat.zero_le _) rfl rfl rfl rfl rfl) h0
 replace h1 := Ql c9 h1
 refine Ue rfl rfl rfl (Q1 YF rfl) <| Ue rfl rfl rfl (Q6 JG rfl rfl rfl) <| Ue rfl rfl rfl (KL rfl rfl) <| Ue rfl rfl rfl (Qd rfl rfl) <| Ue rfl rfl rfl (Qh rfl rfl) <| Uf rfl rfl rfl ?_
 refine QG (d := 32) (c := (a0.name == ([] : List UInt8))) rfl (fun c12 => ?_) (fun c12 => ?_)
 replace h1 := Qk c12 h1
 refine Ue rfl rfl rfl (Q1 K8 rfl) <| Ue rfl rfl rfl (Q6 QZ rfl rfl rfl) <| Ue rfl rfl rfl (Q7 rfl rfl rfl) <| Uf rfl rfl rfl ?_
 refine QG (d := 36) (c := (decide (x5.levels < 0))) rfl (fun c13 => ?_) (fun c13 => ?_)
 replace h1 := Qk c13 h1
 refine Q8 rfl rfl <| Q8 rfl rfl <| Q8 rfl rfl <| Q8 rfl rfl <| Q8 rfl rfl <| Q8 rfl rfl <| Ue rfl rfl rfl (Qh rfl rfl) <| Ue rfl rfl rfl (Qh rfl rfl) <| Uf rfl rfl rfl <| Ue rfl rfl rfl (Q1 JJ rfl) <| Ue rfl rfl rfl (Q6 JH rfl rfl rfl) <| Ue rfl rfl rfl (Qx (α := Tm) Ji rfl (.d _)) <| Ue rfl rfl rfl (Q1 K7 rfl) <| Ue rfl rfl rfl (Q6 QZ rfl rfl rfl) ?_
 refine Ue rfl rfl rfl (Q7 rfl rfl rfl) <| Ue rfl rfl rfl (Qh rfl rfl) <| Ug rfl rfl rfl <| Q4 ?_
 have e := Uc h1; subst e
 exact Qc ((a0.kids.length : Int) == x5.kids) (Ub (Nat.zero_le _) rfl rfl rfl rfl rfl) h0
 replace h1 := Ql c13 h1
 refine Ue rfl rfl rfl (Q1 Zl rfl) <| Ue rfl rfl rfl (Q6 Gu rfl rfl rfl) <| Ue rfl rfl rfl (Qx (α := Lvl) Zf rfl (.d _)) <| Ue rfl rfl rfl (Q1 K8 rfl) <| Ue rfl rfl rfl (Q6 QZ rfl rfl rfl) <| Ue rfl rfl rfl (Q7 rfl rfl rfl) <| Ue rfl rfl rfl (Qd rfl rfl) <| Ue rfl rfl rfl (Qh rfl rfl) <| Uf rfl rfl rfl ?_
 refine QG (d := 45) (c := ((a0.levels.length : Int) == x5.levels)) rfl (fun c14 => ?_) (fun c14 => ?_)
 replace h1 := Qk c14 h1
 refine Ue rfl rfl rfl (Q1 JJ rfl) <| Ue rfl rfl rfl (Q6 JH rfl rfl rfl) <| Ue rfl rfl rfl (Qx (α := Tm) Ji rfl (.d _)) <| Ue rfl rfl rfl (Q1 K7 rfl) <| Ue rfl rfl rfl (Q6 QZ rfl rfl rfl) <| Ue rfl rfl rfl (Q7 rfl rfl rfl) <| Ue rfl rfl rfl (Qh rfl rfl) <| Ug rfl rfl rfl <| Q4 ?_
 have e := Uc h1; subst e
 exact Qc ((a0.kids.length : Int) == x5.kids) (Ub (Nat.zero_le _) rfl rfl rfl rfl rfl) h0
 replace h1 := Ql c14 h1
 refine Q8 rfl rfl <| Q8 rfl rfl <| Q8 rfl rfl <| Q8 rfl rfl <| Q8 rfl rfl <| Q8 rfl rfl <| Ue rfl rfl rfl (Qd rfl rfl) <| Ug rfl rfl rfl <| Q4 ?_
 have e := Uc h1; subst e
 exact Qc false (Ub (Nat.zero_le _) rfl rfl rfl rfl rfl) h0
 replace h1 := Ql c12 h1
 refine Q8 rfl rfl <| Q8 rfl rfl <| Q8 rfl rfl <| Q8 rfl rfl <| Q8 rfl rfl <| Q8 rfl rfl <| Q8 rfl rfl <| Q8 rfl rfl <| Q8 rfl rfl <| Q8 rfl rfl <| Q8 rfl rfl <| Ue rfl rfl rfl (Qd rfl rfl) <| Uf rfl rfl rfl <| Q8 rfl rfl ?_
 refine Q8 rfl rfl <| Q8 rfl rfl <| Q8 rfl rfl <| Q8 rfl rfl <| Q8 rfl rfl <| Ue rfl rfl rfl (Qd rfl rfl) <| Ug rfl rfl rfl <| Q4 ?_
 have e := Uc h1; subst e
 exact Qc false (Ub (Nat.zero_le _) rfl rfl rfl rfl rfl) h0
 replace h1 := Ql c8 h1
 refine Ue rfl rfl rfl (Q1 Zb rfl) <| Ue rfl rfl rfl (Q6 QZ rfl rfl rfl) <| Ue rfl rfl rfl (Q7 rfl rfl rfl) <| Ue rfl rfl rfl (Qd rfl rfl) <| Uf rfl rfl rfl ?_
 refine QG (d := 23) (c := (a0.index == 0)) rfl (fun c15 => ?_) (fun c15 => ?_)
 replace h1 := Qk c15 h1
 refine Ue rfl rfl rfl (Q1 fo_134_1 rfl) <| Ue rfl rfl rfl (Q6 WC rfl rfl rfl) <| Uf rfl rfl rfl ?_
 refine QG (d := 26) (c := x5.name) rfl (fun c16 => ?_) (fun c16 => ?_)
 replace h1 := Qk c16 h1
 refine Q8 rfl rfl <| Q8 rfl rfl <| Q8 rfl rfl <| Ue rfl rfl rfl (Qh rfl rfl) <| Ue rfl rfl rfl (Qh rfl rfl) <| Uf rfl rfl rfl <| Ue rfl rfl rfl (Q1 K8 rfl) <| Ue rfl rfl rfl (Q6 QZ rfl rfl rfl) <| Ue rfl rfl rfl (Q7 rfl rfl rfl) <| Uf rfl rfl rfl ?_
 refine QG (d := 36) (c := (decide (x5.levels < 0))) rfl (fun c17 => ?_) (fun c17 => ?_)
 replace h1 := Qk c17 h1
 refine Q8 rfl rfl <| Q8 rfl rfl <| Q8 rfl rfl <| Q8 rfl rfl <| Q8 rfl rfl <| Q8 rfl rfl <| Ue rfl rfl rfl (Qh rfl rfl) <| Ue rfl rfl rfl (Qh rfl rfl) <| Uf rfl rfl rfl <| Ue rfl rfl rfl (Q1 JJ rfl) <| Ue rfl rfl rfl (Q6 JH rfl rfl rfl) <| Ue rfl rfl rfl (Qx (α := Tm) Ji rfl (.d _)) <| Ue rfl rfl rfl (Q1 K7 rfl) <| Ue rfl rfl rfl (Q6 QZ rfl rfl rfl) ?_
 refine Ue rfl rfl rfl (Q7 rfl rfl rfl) <| Ue rfl rfl rfl (Qh rfl rfl) <| Ug rfl rfl rfl <| Q4 ?_
 have e := Uc h1; subst e
 exact Qc ((a0.kids.length : Int) == x5.kids) (Ub (Nat.zero_le _) rfl rfl rfl rfl rfl) h0
 replace h1 := Ql c17 h1
 refine Ue rfl rfl rfl (Q1 Zl rfl) <| Ue rfl rfl rfl (Q6 Gu rfl rfl rfl) <| Ue rfl rfl rfl (Qx (α := Lvl) Zf rfl (.d _)) <| Ue rfl rfl rfl (Q1 K8 rfl) <| Ue rfl rfl rfl (Q6 QZ rfl rfl rfl) <| Ue rfl rfl rfl (Q7 rfl rfl rfl) <| Ue rfl rfl rfl (Qd rfl rfl) <| Ue rfl rfl rfl (Qh rfl rfl) <| Uf rfl rfl rfl ?_
 refine QG (d := 45) (c := ((a0.levels.length : Int) == x5.levels)) rfl (fun c18 => ?_) (fun c18 => ?_)
 replace h1 := Qk c18 h1
 refine Ue rfl rfl rfl (Q1 JJ rfl) <| Ue rfl rfl rfl (Q6 JH rfl rfl rfl) <| Ue rfl rfl rfl (Qx (α := Tm) Ji rfl (.d _)) <| Ue rfl rfl rfl (Q1 K7 rfl) <| Ue rfl rfl rfl (Q6 QZ rfl rfl rfl) <| Ue rfl rfl rfl (Q7 rfl rfl rfl) <| Ue rfl rfl rfl (Qh rfl rfl) <| Ug rfl rfl rfl <| Q4 ?_
 have e := Uc h1; subst e
 exact Qc ((a0.kids.length : Int) == x5.kids) (Ub (Nat.zero_le _) rfl rfl rfl rfl rfl) h0
 replace h1 := Ql c18 h1
 refine Q8 rfl rfl <| Q8 rfl rfl <| Q8 rfl rfl <| Q8 rfl rfl <| Q8 rfl rfl <| Q8 rfl rfl <| Ue rfl rfl rfl (Qd rfl rfl) <| Ug rfl rfl rfl <| Q4 ?_
 have e := Uc h1; subst e
 exact Qc false (Ub (Nat.zero_le _) rfl rfl rfl rfl rfl) h0
 replace h1 := Ql c16 h1
 refine Ue rfl rfl rfl (Q1 YF rfl) <| Ue rfl rfl rfl (Q6 JG rfl rfl rfl) <| Ue rfl rfl rfl (KL rfl rfl) <| Ue rfl rfl rfl (Qd rfl rfl) <| Ue rfl rfl rfl (Qh rfl rfl) <| Uf rfl rfl rfl ?_
 refine QG (d := 32) (c := (a0.name == ([] : List UInt8))) rfl (fun c19 => ?_) (fun c19 => ?_)
 replace h1 := Qk c19 h1
 refine Ue rfl rfl rfl (Q1 K8 rfl) <| Ue rfl rfl rfl (Q6 QZ rfl rfl rfl) <| Ue rfl rfl rfl (Q7 rfl rfl rfl) <| Uf rfl rfl rfl ?_
 refine QG (d := 36) (c := (decide (x5.levels < 0))) rfl (fun c20 => ?_) (fun c20 => ?_)
 replace h1 := Qk c20 h1
 refine Q8 rfl rfl <| Q8 rfl rfl <| Q8 rfl rfl <| Q8 rfl rfl <| Q8 rfl rfl <| Q8 rfl rfl <| Ue rfl rfl rfl (Qh rfl rfl) <| Ue rfl rfl rfl (Qh rfl rfl) <| Uf rfl rfl rfl <| Ue rfl rfl rfl (Q1 JJ rfl) <| Ue rfl rfl rfl (Q6 JH rfl rfl rfl) <| Ue rfl rfl rfl (Qx (α := Tm) Ji rfl (.d _)) <| Ue rfl rfl rfl (Q1 K7 rfl) <| Ue rfl rfl rfl (Q6 QZ rfl rfl rfl) ?_
 refine Ue rfl rfl rfl (Q7 rfl rfl rfl) <| Ue rfl rfl rfl (Qh rfl rfl) <| Ug rfl rfl rfl <| Q4 ?_
 have e := Uc h1; subst e
 exact Qc ((a0.kids.length : Int) == x5.kids) (Ub (Nat.zero_le _) rfl rfl rfl rfl rfl) h0
 replace h1 := Ql c20 h1
 refine Ue rfl rfl rfl (Q1 Zl rfl) <| Ue rfl rfl rfl (Q6 Gu rfl rfl rfl) <| Ue rfl rfl rfl (Qx (α := Lvl) Zf rfl (.d _)) <| Ue rfl rfl rfl (Q1 K8 rfl) <| Ue rfl rfl rfl (Q6 QZ rfl rfl rfl) <| Ue rfl rfl rfl (Q7 rfl rfl rfl) <| Ue rfl rfl rfl (Qd rfl rfl) <| Ue rfl rfl rfl (Qh rfl rfl) <| Uf rfl rfl rfl ?_
 refine QG (d := 45) (c := ((a0.levels.length : Int) == x5.levels)) rfl (fun c21 => ?_) (fun c21 => ?_)
 replace h1 := Qk c21 h1
 refine Ue rfl rfl rfl (Q1 JJ rfl) <| Ue rfl rfl rfl (Q6 JH rfl rfl rfl) <| Ue rfl rfl rfl (Qx (α := Tm) Ji rfl (.d _)) <| Ue rfl rfl rfl (Q1 K7 rfl) <| Ue rfl rfl rfl (Q6 QZ rfl rfl rfl) <| Ue rfl rfl rfl (Q7 rfl rfl rfl) <| Ue rfl rfl rfl (Qh rfl rfl) <| Ug rfl rfl rfl <| Q4 ?_
 have e := Uc h1; subst e
 exact Qc ((a0.kids.length : Int) == x5.kids) (Ub (Nat.zero_le _) rfl rfl rfl rfl rfl) h0
 replace h1 := Ql c21 h1
 refine Q8 rfl rfl <| Q8 rfl rfl <| Q8 rfl rfl <| Q8 rfl rfl <| Q8 rfl rfl <| Q8 rfl rfl <| Ue rfl rfl rfl (Qd rfl rfl) <| Ug rfl rfl rfl <| Q4 ?_
 have e := Uc h1; subst e
 exact Qc false (Ub (Nat.zero_le _) rfl rfl rfl rfl rfl) h0
 replace h1 := Ql c19 h1
 refine Q8 rfl rfl <| Q8 rfl rfl <| Q8 rfl rfl <| Q8 rfl rfl <| Q8 rfl rfl <| Q8 rfl rfl <| Q8 rfl rfl <| Q8 rfl rfl <| Q8 rfl rfl <| Q8 rfl rfl <| Q8 rfl rfl <| Ue rfl rfl rfl (Qd rfl rfl) <| Uf rfl rfl rfl <| Q8 rfl rfl ?_
 refine Q8 rfl rfl <| Q8 rfl rfl <| Q8 rfl rfl <| Q8 rfl rfl <| Q8 rfl rfl <| Ue rfl rfl rfl (Qd rfl rfl) <| Ug rfl rfl rfl <| Q4 ?_
 have e := Uc h1; subst e
 exact Qc false (Ub (Nat.zero_le _) rfl rfl rfl rfl rfl) h0
 replace h1 := Ql c15 h1
 refine Q8 rfl rfl <| Q8 rfl rfl <| Q8 rfl rfl <| Q8 rfl rfl <| Q8 rfl rfl <| Q8 rfl rfl <| Q8 rfl rfl <| Ue rfl rfl rfl (Qd rfl rfl) <| Uf rfl rfl rfl <| Q8 rfl rfl <| Q8 rfl rfl <| Q8 rfl rfl <| Q8 rfl rfl <| Q8 rfl rfl ?_
 refine Q8 rfl rfl <| Q8 rfl rfl <| Q8 rfl rfl <| Q8 rfl rfl <| Q8 rfl rfl <| Q8 rfl rfl <| Ue rfl rfl rfl (Qd rfl rfl) <| Uf rfl rfl rfl <| Q8 rfl rfl <| Q8 rfl rfl <| Q8 rfl rfl <| Q8 rfl rfl <| Q8 rfl rfl <| Q8 rfl rfl ?_
 refine Ue rfl rfl rfl (Qd rfl rfl) <| Ug rfl rfl rfl <| Q4 ?_
 have e := Uc h1; subst e
 exact Qc false (Ub (Nat.zero_le _) rfl rfl rfl rfl rfl) h0
 intro v7 h0
 refine Q3 <| QA ?_
 have e := Uc h0; subst e
 exact QL (fun _ _ h => h) rfl (Qz rfl .nil) (.cons (.one (.d _)) .nil)
def m97_l0 (a1 : Lvl) (a0 : Scp) (s1 : Int) : Option (LO Int (Unit ⊕ Int)) :=
 cond (decide (s1 < (a1.vs.length : Int)))
   (Option.bind (Yi a1.vs s1) fun (x5 : UL) =>
 cond (decide (a0.params ≤ x5.1))
   (some (.done (.inr 15)))
   (some (.next (Jk (s1 + 1)))))
   (some (.done (.inl ())))
def m97_l1 (a1 : Lvl) (a0 : Scp) (s1 : Int) : Option (LO Int (Unit ⊕ Int)) :=
 cond (decide (s1 < (a1.vs.length : Int)))
   (Option.bind (Yi a1.vs s1) fun (x6 : UL) =>
 Option.bind (cond (decide (x6.1 < 0))
   (some (decide (a0.levels ≤ (Jk ((-1) - x6.1)))))
   (some false)) (fun (v7 : Bool) => cond v7
   (some (.done (.inr 23)))
   (some (.next (Jk (s1 + 1))))))
   (some (.done (.inl ())))
noncomputable abbrev m97_h0 (p0_ : Scp) (p1_ : Lvl) (p2_ : UL) : List (Nat × HB) :=
 [(0, .cells 127 (UA p0_)), (1, .cells 87 (UA p1_)), (2, .cells 124 (UA p2_))]
def m97 (a0 : Scp) (a1 : Lvl) : Option Int :=
 Option.bind (m103 a1) fun (x1 : Bool) =>
 cond (!x1)
   (some 3)
   (Option.bind (QV (m97_l0 a1 a0) J2 0) (Sum.elim (fun (o3 : Unit) => Option.bind (QV (m97_l1 a1 a0) J2 0) (Sum.elim (fun (o4 : Unit) => some 0) (fun o => some o))) (fun o => some o)))
set_option maxRecDepth 100000 in
set_option maxHeartbeats 2000000 in
theorem m97_ok (a0 : Scp) (a1 : Lvl) (r : Int) (h0 : m97 a0 a1 = some r) : Fun Try.prog 97 [.agg (UA a0), .agg (UA a1)] (QD [.one (Ux r)]) := by
 unfold m97 at h0
 refine QY 9 44 Try.func97 rfl en_97 rfl (Um rfl) (fun S w => ?_)
 simp only [J7]
 refine Q5 <| Q0 <| Q9 rfl rfl (Um rfl) (QN rfl) <| Q9 rfl rfl (Um rfl) (QN rfl) <| Ug rfl rfl rfl <| Q4 <| Q3 <| Q5 <| Q5 <| Q0 <| Ue rfl rfl rfl (QK (a1 : Lvl) Kg rfl rfl) ?_
 refine Qb h0 (fun x1 hx1 h0 => ?_)
 refine Q9 rfl rfl (Um rfl) (Qo (m103_ok a1 x1 hx1) rfl (.cons (.agg (.cons (.d _) (.cons (.d _) .nil))) .nil)) <| Ue rfl rfl rfl (Jb rfl) <| Q4 <| Q3 ?_
 refine Qg (b := (!x1)) rfl (fun c2 => ?_) (fun c2 => ?_)
 replace h0 := Qk c2 h0
 refine Q5 <| Q0 <| Ug rfl rfl rfl <| Q4 <| Q3 <| QA ?_
 have e := Uc h0; subst e
 exact QL (fun _ _ h => h) rfl (Qz rfl .nil) (.cons (.one (.d _)) .nil)
 replace h0 := Ql c2 h0
 refine Qj <| Q3 <| Q5 <| Q5 <| Q0 <| Ue rfl rfl rfl (Q1 Zk rfl) <| Ue rfl rfl rfl (Q6 Gt rfl rfl rfl) <| Ue rfl rfl rfl (Qx (α := UL) ZC rfl (.d _)) <| Uf rfl rfl rfl <| Q4 <| Q3 <| Qf ?_
 refine QR 0 (fun (o3 : Unit) => ⟨[(2, .v (.one (.ptr 0 0))), (3, .v (.one (.ptr 1 0)))], [(0, .cells 127 (UA a0)), (1, .cells 87 (UA a1))], [], 2, 44, []⟩) (fun (o3 : Unit) => (Option.bind (QV (m97_l1 a1 a0) J2 0) (Sum.elim (fun (o4 : Unit) => some 0) (fun o => some o))) = some r) ?_ ?_
 refine Qb h0 (fun o4 hl1 h0 => ?_)
 refine QQ (m97_l0 a1 a0) (fun s1 => ⟨[(2, .v (.one (.ptr 0 0))), (3, .v (.one (.ptr 1 0))), (13, .v (.one (Uv a1.vs))), (14, .v (.one (Ux (a1.vs.length : Int)))), (15, .v (.one (Ux s1)))], [(0, .cells 127 (UA a0)), (1, .cells 87 (UA a1))], [], 2, 44, []⟩) 0 o4 (Ub (Nat.zero_le _) rfl rfl rfl rfl rfl) hl1 (fun s1 n1 oo1 h1 ho1 => ?_)
 unfold m97_l0 at h1
 refine Q5 <| Q0 <| Ue rfl rfl rfl (Q7 rfl rfl rfl) <| Q4 <| Q3 <| Q5 ?_
 refine Qg (b := (decide (s1 < (a1.vs.length : Int)))) rfl (fun c5 => ?_) (fun c5 => ?_)
 replace h1 := Qk c5 h1
 refine Qj <| Q3 <| Q5 <| Qf <| Q5 <| Q0 ?_
 refine Qb h1 (fun x6 hx6 h1 => ?_)
 refine Ue rfl rfl rfl (Qq (α := UL) ZC rfl (.d _) rfl hx6) <| Ue rfl rfl rfl (Qv (x6 : UL) KK rfl) <| Q9 rfl rfl (Um rfl) (Qm z_124 rfl) <| Qy rfl rfl (QC (x6 : UL) KK rfl rfl rfl rfl rfl) <| Q4 <| Q3 <| Q5 <| Q0 <| Ue rfl rfl rfl (Q1 KH rfl) <| Ue rfl rfl rfl (Q6 QZ rfl rfl rfl) <| Ue rfl rfl rfl (Q1 fo_127_1 rfl) <| Ue rfl rfl rfl (Q6 QZ rfl rfl rfl) <| Ue rfl rfl rfl (Q7 rfl rfl rfl) <| Q4 ?_
 refine Q3 ?_
 refine Qg (b := (decide (a0.params ≤ x6.1))) rfl (fun c7 => ?_) (fun c7 => ?_)
 replace h1 := Qk c7 h1
 refine Q5 <| Q0 <| Ug rfl rfl rfl <| Q4 <| Q3 <| QA ?_
 have e := Uc h1; subst e
 have e_ : _ = _ := ho1
 subst e_
 try dsimp only [Sum.elim_inl, Sum.elim_inr] at h0
 have e := Uc h0; subst e
 exact QL (fun _ _ h => h) rfl (Qz rfl .nil) (.cons (.one (.d _)) .nil)
 replace h1 := Ql c7 h1
 refine Qj <| Qe <| Q3 <| Q0 <| Ue rfl rfl rfl (Q7 rfl rfl rfl) <| Uf rfl rfl rfl <| Q4 ?_
 have e := Uc h1; subst e
 refine QM (Jk (s1 + 1)) (Ub (Nat.zero_le _) rfl rfl rfl rfl rfl) ho1
 replace h1 := Ql c5 h1
 refine J1 <| Qn <| Qn ?_
 have e := Uc h1; subst e
 have e_ : _ = _ := ho1
 subst e_
 exact QP () (Ub (Nat.zero_le _) rfl rfl rfl rfl rfl) h0
 intro o3 h0
 refine QF <| Q3 <| Q5 <| Q5 <| Q0 <| Ue rfl rfl rfl (Q1 Zk rfl) <| Ue rfl rfl rfl (Q6 Gt rfl rfl rfl) <| Ue rfl rfl rfl (Qx (α := UL) ZC rfl (.d _)) <| Uf rfl rfl rfl <| Q4 <| Q3 <| Qf ?_
 refine QR 2 (fun (o8 : Unit) => ⟨[], [(0, .cells 127 (UA a0)), (1, .cells 87 (UA a1))], [], 2, 44, []⟩) (fun (o8 : Unit) => (some 0) = some r) ?_ ?_
 refine Qb h0 (fun o9 hl1 h0 => ?_)
 refine QQ (m97_l1 a1 a0) (fun s1 => ⟨[(2, .v (.one (.ptr 0 0))), (26, .v (.one (Uv a1.vs))), (27, .v (.one (Ux (a1.vs.length : Int)))), (28, .v (.one (Ux s1)))], [(0, .cells 127 (UA a0)), (1, .cells 87 (UA a1))], [], 2, 44, []⟩) 0 o9 (Ub (Nat.zero_le _) rfl rfl rfl rfl rfl) hl1 (fun s1 n1 oo1 h1 ho1 => ?_)
 unfold m97_l1 at h1
 refine Q5 <| Q0 <| Ue rfl rfl rfl (Q7 rfl rfl rfl) <| Q4 <| Q3 <| Q5 ?_
 refine Qg (b := (decide (s1 < (a1.vs.length : Int)))) rfl (fun c10 => ?_) (fun c10 => ?_)
 replace h1 := Qk c10 h1
 refine Qj <| Q3 <| Q5 <| Qf <| Q5 <| Q0 ?_
 refine Qb h1 (fun x11 hx11 h1 => ?_)
 refine Ue rfl rfl rfl (Qq (α := UL) ZC rfl (.d _) rfl hx11) <| Ue rfl rfl rfl (Qv (x11 : UL) KK rfl) <| Q9 rfl rfl (Um rfl) (Qm z_124 rfl) <| Qy rfl rfl (QC (x11 : UL) KK rfl rfl rfl rfl rfl) <| Q4 <| Q3 <| Q5 ?_
 refine QS (fun (v12 : Bool) => ⟨[(2, .v (.one (.ptr 0 0))), (26, .v (.one (Uv a1.vs))), (27, .v (.one (Ux (a1.vs.length : Int)))), (28, .v (.one (Ux s1))), (42, .v (.one (Uy v12)))], m97_h0 a0 a1 x11, [], 3, 44, []⟩) (fun (v12 : Bool) => (cond v12
     (some (.done (.inr 23)))
     (some (.next (Jk (s1 + 1))))) = some oo1) ?_ ?_
 refine Qb h1 (fun w2_ h2 h1 => ?_)
 refine Q0 <| Ue rfl rfl rfl (Q1 KH rfl) <| Ue rfl rfl rfl (Q6 QZ rfl rfl rfl) <| Ue rfl rfl rfl (Q7 rfl rfl rfl) <| Uf rfl rfl rfl ?_
 refine QG (d := 35) (c := (decide (x11.1 < 0))) rfl (fun c13 => ?_) (fun c13 => ?_)
 replace h2 := Qk c13 h2
 refine Ue rfl rfl rfl (Q1 KH rfl) <| Ue rfl rfl rfl (Q6 QZ rfl rfl rfl) <| Ue rfl rfl rfl (Q7 rfl rfl rfl) <| Ue rfl rfl rfl (Q1 fo_127_3 rfl) <| Ue rfl rfl rfl (Q6 QZ rfl rfl rfl) <| Ue rfl rfl rfl (Q7 rfl rfl rfl) <| Ue rfl rfl rfl (Qh rfl rfl) <| Q4 ?_
 have e := Uc h2; subst e
 exact Qc (decide (a0.levels ≤ (Jk ((-1) - x11.1)))) (Ub (Nat.zero_le _) rfl rfl rfl rfl rfl) h1
 replace h2 := Ql c13 h2
 refine Q8 rfl rfl <| Q8 rfl rfl <| Q8 rfl rfl <| Q8 rfl rfl <| Q8 rfl rfl <| Q8 rfl rfl <| Ue rfl rfl rfl (Qd rfl rfl) <| Q4 ?_
 have e := Uc h2; subst e
 exact Qc false (Ub (Nat.zero_le _) rfl rfl rfl rfl rfl) h1
 intro v12 h1
 refine Q3 ?_
 refine Qg (b := v12) rfl (fun c14 => ?_) (fun c14 => ?_)
 replace h1 := Qk c14 h1
 refine Q5 <| Q0 <| Ug rfl rfl rfl <| Q4 <| Q3 <| QA ?_
 have e := Uc h1; subst e
 have e_ : _ = _ := ho1
 subst e_
 try dsimp only [Sum.elim_inl, Sum.elim_inr] at h0
 have e := Uc h0; subst e
 exact QL (fun _ _ h => h) rfl (Qz rfl .nil) (.cons (.one (.d _)) .nil)
 replace h1 := Ql c14 h1
 refine Qj <| Qe <| Q3 <| Q0 <| Ue rfl rfl rfl (Q7 rfl rfl rfl) <| Uf rfl rfl rfl <| Q4 ?_
 have e := Uc h1; subst e
 refine QM (Jk (s1 + 1)) (Ub (Nat.zero_le _) rfl rfl rfl rfl rfl) ho1
 replace h1 := Ql c10 h1
 refine J1 <| Qn <| Qn ?_
 have e := Uc h1; subst e
 have e_ : _ = _ := ho1
 subst e_
 exact QP () (Ub (Nat.zero_le _) rfl rfl rfl rfl rfl) h0
 intro o8 h0
 refine QF <| Q3 <| Q5 <| Q0 <| Ug rfl rfl rfl <| Q4 <| Q3 <| QA ?_
 have e := Uc h0; subst e
 exact QL (fun _ _ h => h) rfl (Qz rfl .nil) (.cons (.one (.d _)) .nil)
def XO (a1 : Tm) (a0 : Scp) (s1 : Int) : Option (LO Int (Unit ⊕ Int)) :=
 cond (decide (s1 < (a1.levels.length : Int)))
   (Option.bind (Yi a1.levels s1) fun (x9 : Lvl) =>
 Option.bind (m97 a0 x9) fun (x10 : Int) =>
 cond (x10 != 0)
   (some (.done (.inr x10)))
   (some (.next (Jk (s1 + 1)))))
   (some (.done (.inl ())))
def XP (p0_ : Tm) (p1_ : Scp) (p2_ : Int) : Option Int :=
 Option.bind (cond (p0_.kind == 0)
   (cond (decide (p0_.index < 0))
   (some true)
   (some (decide (p1_.vars ≤ (Jk (p0_.index - p2_))))))
   (some false)) (fun (b0_ : Bool) => cond b0_
   (some 24)
   (Option.bind (cond (p0_.kind == 12)
   (cond (decide (p0_.index < 0))
   (some true)
   (some (decide (p1_.metas ≤ p0_.index))))
   (some false)) (fun (b1_ : Bool) => cond b1_
   (some 23)
   (some 0))))
def m80 (a0 : Scp) (a1 : Tm) (a2 : Int) : Option Int :=
 Option.bind (m96 a1) fun (x1 : Bool) =>
 cond (!x1)
   (some 3)
   (cond (a1.kind == 3)
   (Option.bind (m65 a1.name) fun (x4 : Bool) =>
 cond (!x4)
   (some 29)
   (cond (decide (8 < (a1.levels.length : Int)))
   (some 6)
   (Option.bind (QV (XO a1 a0) J2 0) (Sum.elim (fun (o7 : Unit) => XP a1 a0 a2) (fun o => some o)))))
   (Option.bind (QV (XO a1 a0) J2 0) (Sum.elim (fun (o21 : Unit) => XP a1 a0 a2) (fun o => some o))))
set_option maxRecDepth 100000 in
set_option maxHeartbeats 2000000 in
theorem m80_ok (a0 : Scp) (a1 : Tm) (a2 : Int) (r : Int) (h0 : m80 a0 a1 a2 = some r) : Fun Try.prog 80 [.agg (UA a0), .agg (UA a1), .one (Ux a2)] (QD [.one (Ux r)]) := by
 unfold m80 at h0
 refine QY 9 72 Try.func80 rfl en_80 rfl (Um rfl) (fun S w => ?_)
 simp only [J7]
 refine Q5 <| Q0 <| Q9 rfl rfl (Um rfl) (QN rfl) <| Q9 rfl rfl (Um rfl) (QN rfl) <| Ug rfl rfl rfl <| Q4 <| Q3 <| Q5 <| Q5 <| Q0 <| Ue rfl rfl rfl (QK (a1 : Tm) QW rfl rfl) ?_
 refine Qb h0 (fun x1 hx1 h0 => ?_)
 refine Q9 rfl rfl (Um rfl) (Qo (m96_ok a1 x1 hx1) rfl (.cons (.agg (.cons (.d _) (.cons (.d _) (.cons (.d _) (.cons (.d _) (.cons (.d _) .nil)))))) .nil)) <| Ue rfl rfl rfl (Jb rfl) <| Q4 <| Q3 ?_
 refine Qg (b := (!x1)) rfl (fun c2 => ?_) (fun c2 => ?_)
 replace h0 := Qk c2 h0
 refine Q5 <| Q0 <| Ug rfl rfl rfl <| Q4 <| Q3 <| QA ?_
 have e := Uc h0; subst e
 exact QL (fun _ _ h => h) rfl (Qz rfl .nil) (.cons (.one (.d _)) .nil)
 replace h0 := Ql c2 h0
 refine Qj <| Q3 <| Q5 <| Q5 <| Q0 <| Ue rfl rfl rfl (Q1 Y3 rfl) <| Ue rfl rfl rfl (Q6 QZ rfl rfl rfl) <| Ue rfl rfl rfl (Q7 rfl rfl rfl) <| Q4 <| Q3 ?_
 refine Qg (b := (a1.kind == 3)) rfl (fun c3 => ?_) (fun c3 => ?_)
 replace h0 := Qk c3 h0
 refine Q5 <| Q5 <| Q0 <| Ue rfl rfl rfl (Q1 YF rfl) <| Ue rfl rfl rfl (Q6 JG rfl rfl rfl) ?_
 refine Qb h0 (fun x4 hx4 h0 => ?_)
 refine Q9 rfl rfl (Um rfl) (Qo (m65_ok a1.name x4 hx4) rfl (.cons (.one (.d _)) .nil)) <| Ue rfl rfl rfl (Jb rfl) <| Q4 <| Q3 ?_
 refine Qg (b := (!x4)) rfl (fun c5 => ?_) (fun c5 => ?_)
 replace h0 := Qk c5 h0
 refine Q5 <| Q0 <| Ug rfl rfl rfl <| Q4 <| Q3 <| QA ?_
 have e := Uc h0; subst e
 exact QL (fun _ _ h => h) rfl (Qz rfl .nil) (.cons (.one (.d _)) .nil)
 replace h0 := Ql c5 h0
 refine Qj <| Q3 <| Q5 <| Q0 <| Ue rfl rfl rfl (Q1 Zl rfl) <| Ue rfl rfl rfl (Q6 Gu rfl rfl rfl) <| Ue rfl rfl rfl (Qx (α := Lvl) Zf rfl (.d _)) <| Ue rfl rfl rfl (Q7 rfl rfl rfl) <| Q4 <| Q3 ?_
 refine Qg (b := (decide (8 < (a1.levels.length : Int)))) rfl (fun c6 => ?_) (fun c6 => ?_)
 replace h0 := Qk c6 h0
 refine Q5 <| Q0 <| Ug rfl rfl rfl <| Q4 <| Q3 <| QA ?_
 have e := Uc h0; subst e
 exact QL (fun _ _ h => h) rfl (Qz rfl .nil) (.cons (.one (.d _)) .nil)
 replace h0 := Ql c6 h0
 refine Qj <| Q3 <| Q5 <| Q5 <| Q0 <| Ue rfl rfl rfl (Q1 Zl rfl) <| Ue rfl rfl rfl (Q6 Gu rfl rfl rfl) <| Ue rfl rfl rfl (Qx (α := Lvl) Zf rfl (.d _)) <| Uf rfl rfl rfl <| Q4 <| Q3 <| Qf ?_
 refine QR 0 (fun (o7 : Unit) => ⟨[(2, .v (.one (Ux a2))), (3, .v (.one (.ptr 0 0))), (4, .v (.one (.ptr 1 0)))], [(0, .cells 127 (UA a0)), (1, .cells 33 (UA a1))], [], 2, 72, []⟩) (fun (o7 : Unit) => (XP a1 a0 a2) = some r) ?_ ?_
 refine Qb h0 (fun o8 hl1 h0 => ?_)
 refine QQ (XO a1 a0) (fun s1 => ⟨[(2, .v (.one (Ux a2))), (3, .v (.one (.ptr 0 0))), (4, .v (.one (.ptr 1 0))), (25, .v (.one (Uv a1.levels))), (26, .v (.one (Ux (a1.levels.length : Int)))), (27, .v (.one (Ux s1)))], [(0, .cells 127 (UA a0)), (1, .cells 33 (UA a1))], [], 2, 72, []⟩) 0 o8 (Ub (Nat.zero_le _) rfl rfl rfl rfl rfl) hl1 (fun s1 n1 oo1 h1 ho1 => ?_)
 unfold XO at h1
 refine Q5 <| Q0 <| Ue rfl rfl rfl (Q7 rfl rfl rfl) <| Q4 <| Q3 <| Q5 ?_
 refine Qg (b := (decide (s1 < (a1.levels.length : Int)))) rfl (fun c9 => ?_) (fun c9 => ?_)
 replace h1 := Qk c9 h1
 refine Qj <| Q3 <| Q5 <| Qf <| Q5 <| Q0 ?_
 refine Qb h1 (fun x10 hx10 h1 => ?_)
 refine Ue rfl rfl rfl (Qq (α := Lvl) Zf rfl (.d _) rfl hx10) <| Ue rfl rfl rfl (Qv (x10 : Lvl) Kg rfl) <| Q9 rfl rfl (Um rfl) (Qm WE rfl) <| Qy rfl rfl (QC (x10 : Lvl) Kg rfl rfl rfl rfl rfl) <| Q4 <| Q3 <| Q5 <| Q0 <| Ue rfl rfl rfl (QK (a0 : Scp) ag_127 rfl rfl) <| Ue rfl rfl rfl (QK (x10 : Lvl) Kg rfl rfl) ?_
 refine Qb h1 (fun x11 hx11 h1 => ?_)
 refine Q9 rfl rfl (Um rfl) (Qo (m97_ok a0 x10 x11 hx11) rfl (.cons (.agg (.cons (.d _) (.cons (.d _) (.cons (.d _) (.cons (.d _) .nil))))) (.cons (.agg (.cons (.d _) (.cons (.d _) .nil))) .nil))) <| Ug rfl rfl rfl <| Q4 <| Q3 <| Q5 <| Q0 <| Uf rfl rfl rfl <| Ue rfl rfl rfl (Q7 rfl rfl rfl) <| Q4 <| Q3 ?_
 refine Qg (b := (x11 != 0)) rfl (fun c12 => ?_) (fun c12 => ?_)
 replace h1 := Qk c12 h1
 refine Q5 <| Q0 <| Uf rfl rfl rfl <| Ug rfl rfl rfl <| Q4 <| Q3 <| QA ?_
 have e := Uc h1; subst e
 have e_ : _ = _ := ho1
 subst e_
 try dsimp only [Sum.elim_inl, Sum.elim_inr] at h0
 have e := Uc h0; subst e
 exact QL (fun _ _ h => h) rfl (Qz rfl .nil) (.cons (.one (.d _)) .nil)
 replace h1 := Ql c12 h1
 refine Qj <| Qe <| Q3 <| Q0 <| Ue rfl rfl rfl (Q7 rfl rfl rfl) <| Uf rfl rfl rfl <| Q4 ?_
 have e := Uc h1; subst e
 refine QM (Jk (s1 + 1)) (Ub (Nat.zero_le _) rfl rfl rfl rfl rfl) ho1
 replace h1 := Ql c9 h1
 refine J1 <| Qn <| Qn ?_
 have e := Uc h1; subst e
 have e_ : _ = _ := ho1
 subst e_
 exact QP () (Ub (Nat.zero_le _) rfl rfl rfl rfl rfl) h0
 intro o7 h0
 unfold XP at h0
 refine QF <| Q3 <| Q5 <| Qf <| Q5 ?_
 refine QS (fun (v13 : Bool) => ⟨[(3, .v (.one (.ptr 0 0))), (4, .v (.one (.ptr 1 0))), (38, .v (.one (Uy v13)))], [(0, .cells 127 (UA a0)), (1, .cells 33 (UA a1))], [], 2, 72, []⟩) (fun (v13 : Bool) => (cond v13
     (some 24)
     (Option.bind (cond (a1.kind == 12)
     (cond (decide (a1.index < 0))
     (some true)
     (some (decide (a0.metas ≤ a1.index))))
     (some false)) (fun (v15 : Bool) => cond v15
     (some 23)
     (some 0)))) = some r) ?_ ?_
 refine Qb h0 (fun w1_ h1 h0 => ?_)
 refine Q0 <| Ue rfl rfl rfl (Q1 Y3 rfl) <| Ue rfl rfl rfl (Q6 QZ rfl rfl rfl) <| Ue rfl rfl rfl (Q7 rfl rfl rfl) <| Uf rfl rfl rfl ?_
 refine QG (d := 42) (c := (a1.kind == 0)) rfl (fun c14 => ?_) (fun c14 => ?_)
 replace h1 := Qk c14 h1
 refine Ue rfl rfl rfl (Q1 Zb rfl) <| Ue rfl rfl rfl (Q6 QZ rfl rfl rfl) <| Ue rfl rfl rfl (Q7 rfl rfl rfl) <| Uf rfl rfl rfl ?_
 refine QG (d := 46) (c := (decide (a1.index < 0))) rfl (fun c15 => ?_) (fun c15 => ?_)
 replace h1 := Qk c15 h1
 refine Q8 rfl rfl <| Q8 rfl rfl <| Q8 rfl rfl <| Q8 rfl rfl <| Q8 rfl rfl <| Q8 rfl rfl <| Q8 rfl rfl <| Ue rfl rfl rfl (Qh rfl rfl) <| Ue rfl rfl rfl (Qh rfl rfl) <| Ug rfl rfl rfl <| Q4 ?_
 have e := Uc h1; subst e
 exact Qc true (Ub (Nat.zero_le _) rfl rfl rfl rfl rfl) h0
 replace h1 := Ql c15 h1
 refine Ue rfl rfl rfl (Q1 Zb rfl) <| Ue rfl rfl rfl (Q6 QZ rfl rfl rfl) <| Uf rfl rfl rfl <| Ue rfl rfl rfl (Q7 rfl rfl rfl) <| Ue rfl rfl rfl (Q1 fo_127_0 rfl) <| Ue rfl rfl rfl (Q6 QZ rfl rfl rfl) <| Ue rfl rfl rfl (Q7 rfl rfl rfl) <| Ue rfl rfl rfl (Qd rfl rfl) <| Ue rfl rfl rfl (Qh rfl rfl) <| Ug rfl rfl rfl <| Q4 ?_
 have e := Uc h1; subst e
 exact Qc (decide (a0.vars ≤ (Jk (a1.index - a2)))) (Ub (Nat.zero_le _) rfl rfl rfl rfl rfl) h0
 replace h1 := Ql c14 h1
 refine Q8 rfl rfl <| Q8 rfl rfl <| Q8 rfl rfl <| Q8 rfl rfl <| Q8 rfl rfl <| Q8 rfl rfl <| Q8 rfl rfl <| Q8 rfl rfl <| Q8 rfl rfl <| Q8 rfl rfl <| Q8 rfl rfl <| Q8 rfl rfl <| Ue rfl rfl rfl (Qd rfl rfl) <| Ug rfl rfl rfl ?_
 refine Q4 ?_
 have e := Uc h1; subst e
 exact Qc false (Ub (Nat.zero_le _) rfl rfl rfl rfl rfl) h0
 intro v13 h0
 refine Q3 ?_
 refine Qg (b := v13) rfl (fun c16 => ?_) (fun c16 => ?_)
 replace h0 := Qk c16 h0
 refine Q5 <| Q0 <| Ug rfl rfl rfl <| Q4 <| Q3 <| QA ?_
 have e := Uc h0; subst e
 exact QL (fun _ _ h => h) rfl (Qz rfl .nil) (.cons (.one (.d _)) .nil)
 replace h0 := Ql c16 h0
 refine Q5 ?_
 refine QS (fun (v17 : Bool) => ⟨[(56, .v (.one (Uy v17)))], [(0, .cells 127 (UA a0)), (1, .cells 33 (UA a1))], [], 2, 72, []⟩) (fun (v17 : Bool) => (cond v17
     (some 23)
     (some 0)) = some r) ?_ ?_
 refine Qb h0 (fun w1_ h1 h0 => ?_)
 refine Q0 <| Ue rfl rfl rfl (Q1 Y3 rfl) <| Ue rfl rfl rfl (Q6 QZ rfl rfl rfl) <| Ue rfl rfl rfl (Q7 rfl rfl rfl) <| Uf rfl rfl rfl ?_
 refine QG (d := 60) (c := (a1.kind == 12)) rfl (fun c18 => ?_) (fun c18 => ?_)
 replace h1 := Qk c18 h1
 refine Ue rfl rfl rfl (Q1 Zb rfl) <| Ue rfl rfl rfl (Q6 QZ rfl rfl rfl) <| Ue rfl rfl rfl (Q7 rfl rfl rfl) <| Uf rfl rfl rfl ?_
 refine QG (d := 64) (c := (decide (a1.index < 0))) rfl (fun c19 => ?_) (fun c19 => ?_)
 replace h1 := Qk c19 h1
 refine Q8 rfl rfl <| Q8 rfl rfl <| Q8 rfl rfl <| Q8 rfl rfl <| Q8 rfl rfl <| Ue rfl rfl rfl (Qh rfl rfl) <| Ue rfl rfl rfl (Qh rfl rfl) <| Ug rfl rfl rfl <| Q4 ?_
 have e := Uc h1; subst e
 exact Qc true (Ub (Nat.zero_le _) rfl rfl rfl rfl rfl) h0
 replace h1 := Ql c19 h1
 refine Ue rfl rfl rfl (Q1 Zb rfl) <| Ue rfl rfl rfl (Q6 QZ rfl rfl rfl) <| Ue rfl rfl rfl (Q1 fo_127_2 rfl) <| Ue rfl rfl rfl (Q6 QZ rfl rfl rfl) <| Ue rfl rfl rfl (Q7 rfl rfl rfl) <| Ue rfl rfl rfl (Qd rfl rfl) <| Ue rfl rfl rfl (Qh rfl rfl) <| Ug rfl rfl rfl <| Q4 ?_
 have e := Uc h1; subst e
 exact Qc (decide (a0.metas ≤ a1.index)) (Ub (Nat.zero_le _) rfl rfl rfl rfl rfl) h0
 replace h1 := Ql c18 h1
 refine Q8 rfl rfl <| Q8 rfl rfl <| Q8 rfl rfl <| Q8 rfl rfl <| Q8 rfl rfl <| Q8 rfl rfl <| Q8 rfl rfl <| Q8 rfl rfl <| Q8 rfl rfl <| Q8 rfl rfl <| Ue rfl rfl rfl (Qd rfl rfl) <| Ug rfl rfl rfl <| Q4 ?_
 have e := Uc h1; subst e
 exact Qc false (Ub (Nat.zero_le _) rfl rfl rfl rfl rfl) h0
 intro v17 h0
 refine Q3 ?_
 refine Qg (b := v17) rfl (fun c20 => ?_) (fun c20 => ?_)
 replace h0 := Qk c20 h0
 refine Q5 <| Q0 <| Ug rfl rfl rfl <| Q4 <| Q3 <| QA ?_
 have e := Uc h0; subst e
 exact QL (fun _ _ h => h) rfl (Qz rfl .nil) (.cons (.one (.d _)) .nil)
 replace h0 := Ql c20 h0
 refine Qj <| Qe <| Q3 <| Q5 <| Q0 <| Ug rfl rfl rfl <| Q4 <| Q3 <| QA ?_
 have e := Uc h0; subst e
 exact QL (fun _ _ h => h) rfl (Qz rfl .nil) (.cons (.one (.d _)) .nil)
 replace h0 := Ql c3 h0
 refine Qj <| Q3 <| Q5 <| Q5 <| Q0 <| Ue rfl rfl rfl (Q1 Zl rfl) <| Ue rfl rfl rfl (Q6 Gu rfl rfl rfl) <| Ue rfl rfl rfl (Qx (α := Lvl) Zf rfl (.d _)) <| Uf rfl rfl rfl <| Q4 <| Q3 <| Qf ?_
 refine QR 0 (fun (o21 : Unit) => ⟨[(2, .v (.one (Ux a2))), (3, .v (.one (.ptr 0 0))), (4, .v (.one (.ptr 1 0)))], [(0, .cells 127 (UA a0)), (1, .cells 33 (UA a1))], [], 2, 72, []⟩) (fun (o21 : Unit) => (XP a1 a0 a2) = some r) ?_ ?_
 refine Qb h0 (fun o22 hl1 h0 => ?_)
 refine QQ (XO a1 a0) (fun s1 => ⟨[(2, .v (.one (Ux a2))), (3, .v (.one (.ptr 0 0))), (4, .v (.one (.ptr 1 0))), (25, .v (.one (Uv a1.levels))), (26, .v (.one (Ux (a1.levels.length : Int)))), (27, .v (.one (Ux s1)))], [(0, .cells 127 (UA a0)), (1, .cells 33 (UA a1))], [], 2, 72, []⟩) 0 o22 (Ub (Nat.zero_le _) rfl rfl rfl rfl rfl) hl1 (fun s1 n1 oo1 h1 ho1 => ?_)
 unfold XO at h1
 refine Q5 <| Q0 <| Ue rfl rfl rfl (Q7 rfl rfl rfl) <| Q4 <| Q3 <| Q5 ?_
 refine Qg (b := (decide (s1 < (a1.levels.length : Int)))) rfl (fun c23 => ?_) (fun c23 => ?_)
 replace h1 := Qk c23 h1
 refine Qj <| Q3 <| Q5 <| Qf <| Q5 <| Q0 ?_
 refine Qb h1 (fun x24 hx24 h1 => ?_)
 refine Ue rfl rfl rfl (Qq (α := Lvl) Zf rfl (.d _) rfl hx24) <| Ue rfl rfl rfl (Qv (x24 : Lvl) Kg rfl) <| Q9 rfl rfl (Um rfl) (Qm WE rfl) <| Qy rfl rfl (QC (x24 : Lvl) Kg rfl rfl rfl rfl rfl) <| Q4 <| Q3 <| Q5 <| Q0 <| Ue rfl rfl rfl (QK (a0 : Scp) ag_127 rfl rfl) <| Ue rfl rfl rfl (QK (x24 : Lvl) Kg rfl rfl) ?_
 refine Qb h1 (fun x25 hx25 h1 => ?_)
 refine Q9 rfl rfl (Um rfl) (Qo (m97_ok a0 x24 x25 hx25) rfl (.cons (.agg (.cons (.d _) (.cons (.d _) (.cons (.d _) (.cons (.d _) .nil))))) (.cons (.agg (.cons (.d _) (.cons (.d _) .nil))) .nil))) <| Ug rfl rfl rfl <| Q4 <| Q3 <| Q5 <| Q0 <| Uf rfl rfl rfl <| Ue rfl rfl rfl (Q7 rfl rfl rfl) <| Q4 <| Q3 ?_
 refine Qg (b := (x25 != 0)) rfl (fun c26 => ?_) (fun c26 => ?_)
 replace h1 := Qk c26 h1
 refine Q5 <| Q0 <| Uf rfl rfl rfl <| Ug rfl rfl rfl <| Q4 <| Q3 <| QA ?_
 have e := Uc h1; subst e
 have e_ : _ = _ := ho1
 subst e_
 try dsimp only [Sum.elim_inl, Sum.elim_inr] at h0
 have e := Uc h0; subst e
 exact QL (fun _ _ h => h) rfl (Qz rfl .nil) (.cons (.one (.d _)) .nil)
 replace h1 := Ql c26 h1
 refine Qj <| Qe <| Q3 <| Q0 <| Ue rfl rfl rfl (Q7 rfl rfl rfl) <| Uf rfl rfl rfl <| Q4 ?_
 have e := Uc h1; subst e
 refine QM (Jk (s1 + 1)) (Ub (Nat.zero_le _) rfl rfl rfl rfl rfl) ho1
 replace h1 := Ql c23 h1
 refine J1 <| Qn <| Qn ?_
 have e := Uc h1; subst e
 have e_ : _ = _ := ho1
 subst e_
 exact QP () (Ub (Nat.zero_le _) rfl rfl rfl rfl rfl) h0
 intro o21 h0
 unfold XP at h0
 refine QF <| Q3 <| Q5 <| Qf <| Q5 ?_
 refine QS (fun (v27 : Bool) => ⟨[(3, .v (.one (.ptr 0 0))), (4, .v (.one (.ptr 1 0))), (38, .v (.one (Uy v27)))], [(0, .cells 127 (UA a0)), (1, .cells 33 (UA a1))], [], 2, 72, []⟩) (fun (v27 : Bool) => (cond v27
     (some 24)
     (Option.bind (cond (a1.kind == 12)
     (cond (decide (a1.index < 0))
     (some true)
     (some (decide (a0.metas ≤ a1.index))))
     (some false)) (fun (v29 : Bool) => cond v29
     (some 23)
     (some 0)))) = some r) ?_ ?_
 refine Qb h0 (fun w1_ h1 h0 => ?_)
 refine Q0 <| Ue rfl rfl rfl (Q1 Y3 rfl) <| Ue rfl rfl rfl (Q6 QZ rfl rfl rfl) <| Ue rfl rfl rfl (Q7 rfl rfl rfl) <| Uf rfl rfl rfl ?_
 refine QG (d := 42) (c := (a1.kind == 0)) rfl (fun c28 => ?_) (fun c28 => ?_)
 replace h1 := Qk c28 h1
 refine Ue rfl rfl rfl (Q1 Zb rfl) <| Ue rfl rfl rfl (Q6 QZ rfl rfl rfl) <| Ue rfl rfl rfl (Q7 rfl rfl rfl) <| Uf rfl rfl rfl ?_
 refine QG (d := 46) (c := (decide (a1.index < 0))) rfl (fun c29 => ?_) (fun c29 => ?_)
 replace h1 := Qk c29 h1
 refine Q8 rfl rfl <| Q8 rfl rfl <| Q8 rfl rfl <| Q8 rfl rfl <| Q8 rfl rfl <| Q8 rfl rfl <| Q8 rfl rfl <| Ue rfl rfl rfl (Qh rfl rfl) <| Ue rfl rfl rfl (Qh rfl rfl) <| Ug rfl rfl rfl <| Q4 ?_
 have e := Uc h1; subst e
 exact Qc true (Ub (Nat.zero_le _) rfl rfl rfl rfl rfl) h0
 replace h1 := Ql c29 h1
 refine Ue rfl rfl rfl (Q1 Zb rfl) <| Ue rfl rfl rfl (Q6 QZ rfl rfl rfl) <| Uf rfl rfl rfl <| Ue rfl rfl rfl (Q7 rfl rfl rfl) <| Ue rfl rfl rfl (Q1 fo_127_0 rfl) <| Ue rfl rfl rfl (Q6 QZ rfl rfl rfl) <| Ue rfl rfl rfl (Q7 rfl rfl rfl) <| Ue rfl rfl rfl (Qd rfl rfl) <| Ue rfl rfl rfl (Qh rfl rfl) <| Ug rfl rfl rfl <| Q4 ?_
 have e := Uc h1; subst e
 exact Qc (decide (a0.vars ≤ (Jk (a1.index - a2)))) (Ub (Nat.zero_le _) rfl rfl rfl rfl rfl) h0
 replace h1 := Ql c28 h1
 refine Q8 rfl rfl <| Q8 rfl rfl <| Q8 rfl rfl <| Q8 rfl rfl <| Q8 rfl rfl <| Q8 rfl rfl <| Q8 rfl rfl <| Q8 rfl rfl <| Q8 rfl rfl <| Q8 rfl rfl <| Q8 rfl rfl <| Q8 rfl rfl <| Ue rfl rfl rfl (Qd rfl rfl) <| Ug rfl rfl rfl ?_
 refine Q4 ?_
 have e := Uc h1; subst e
 exact Qc false (Ub (Nat.zero_le _) rfl rfl rfl rfl rfl) h0
 intro v27 h0
 refine Q3 ?_
 refine Qg (b := v27) rfl (fun c30 => ?_) (fun c30 => ?_)
 replace h0 := Qk c30 h0
 refine Q5 <| Q0 <| Ug rfl rfl rfl <| Q4 <| Q3 <| QA ?_
 have e := Uc h0; subst e
 exact QL (fun _ _ h => h) rfl (Qz rfl .nil) (.cons (.one (.d _)) .nil)
 replace h0 := Ql c30 h0
 refine Q5 ?_
 refine QS (fun (v31 : Bool) => ⟨[(56, .v (.one (Uy v31)))], [(0, .cells 127 (UA a0)), (1, .cells 33 (UA a1))], [], 2, 72, []⟩) (fun (v31 : Bool) => (cond v31
     (some 23)
     (some 0)) = some r) ?_ ?_
 refine Qb h0 (fun w1_ h1 h0 => ?_)
 refine Q0 <| Ue rfl rfl rfl (Q1 Y3 rfl) <| Ue rfl rfl rfl (Q6 QZ rfl rfl rfl) <| Ue rfl rfl rfl (Q7 rfl rfl rfl) <| Uf rfl rfl rfl ?_
 refine QG (d := 60) (c := (a1.kind == 12)) rfl (fun c32 => ?_) (fun c32 => ?_)
 replace h1 := Qk c32 h1
 refine Ue rfl rfl rfl (Q1 Zb rfl) <| Ue rfl rfl rfl (Q6 QZ rfl rfl rfl) <| Ue rfl rfl rfl (Q7 rfl rfl rfl) <| Uf rfl rfl rfl ?_
 refine QG (d := 64) (c := (decide (a1.index < 0))) rfl (fun c33 => ?_) (fun c33 => ?_)
 replace h1 := Qk c33 h1
 refine Q8 rfl rfl <| Q8 rfl rfl <| Q8 rfl rfl <| Q8 rfl rfl <| Q8 rfl rfl <| Ue rfl rfl rfl (Qh rfl rfl) <| Ue rfl rfl rfl (Qh rfl rfl) <| Ug rfl rfl rfl <| Q4 ?_
 have e := Uc h1; subst e
 exact Qc true (Ub (Nat.zero_le _) rfl rfl rfl rfl rfl) h0
 replace h1 := Ql c33 h1
 refine Ue rfl rfl rfl (Q1 Zb rfl) <| Ue rfl rfl rfl (Q6 QZ rfl rfl rfl) <| Ue rfl rfl rfl (Q1 fo_127_2 rfl) <| Ue rfl rfl rfl (Q6 QZ rfl rfl rfl) <| Ue rfl rfl rfl (Q7 rfl rfl rfl) <| Ue rfl rfl rfl (Qd rfl rfl) <| Ue rfl rfl rfl (Qh rfl rfl) <| Ug rfl rfl rfl <| Q4 ?_
 have e := Uc h1; subst e
 exact Qc (decide (a0.metas ≤ a1.index)) (Ub (Nat.zero_le _) rfl rfl rfl rfl rfl) h0
 replace h1 := Ql c32 h1
 refine Q8 rfl rfl <| Q8 rfl rfl <| Q8 rfl rfl <| Q8 rfl rfl <| Q8 rfl rfl <| Q8 rfl rfl <| Q8 rfl rfl <| Q8 rfl rfl <| Q8 rfl rfl <| Q8 rfl rfl <| Ue rfl rfl rfl (Qd rfl rfl) <| Ug rfl rfl rfl <| Q4 ?_
 have e := Uc h1; subst e
 exact Qc false (Ub (Nat.zero_le _) rfl rfl rfl rfl rfl) h0
 intro v31 h0
 refine Q3 ?_
 refine Qg (b := v31) rfl (fun c34 => ?_) (fun c34 => ?_)
 replace h0 := Qk c34 h0
 refine Q5 <| Q0 <| Ug rfl rfl rfl <| Q4 <| Q3 <| QA ?_
 have e := Uc h0; subst e
 exact QL (fun _ _ h => h) rfl (Qz rfl .nil) (.cons (.one (.d _)) .nil)
 replace h0 := Ql c34 h0
 refine Qj <| Qe <| Q3 <| Q5 <| Q0 <| Ug rfl rfl rfl <| Q4 <| Q3 <| QA ?_
 have e := Uc h0; subst e
 exact QL (fun _ _ h => h) rfl (Qz rfl .nil) (.cons (.one (.d _)) .nil)
end Go.Proofs.Ytafddfoefeploaa
namespace Go.Proofs.Ytafddfoefeploaa
open Go.RowKit Go.Shelf
set_option linter.unusedSimpArgs false
set_option linter.unusedVariables false
theorem ZR : Jy Try.prog 25 = some (false, 1) := by kernel_rfl
theorem U4 : JE Try.prog 3 = some [.int .i64 0] := by kernel_rfl
theorem z_25 : JE Try.prog 25 = some [.int .i64 0] := by kernel_rfl
theorem z_127 : JE Try.prog 127 = some [.int .i64 0, .int .i64 0, .int .i64 0, .int .i64 0] := by kernel_rfl
theorem bd_127 : Yj Try.prog 127 [(0, 1), (1, 1), (2, 1), (3, 1)] [.int .i64 0, .int .i64 0, .int .i64 0, .int .i64 0] := ⟨by kernel_rfl, by kernel_rfl⟩
theorem en_66 : J3 Try.prog 66 := enters_of Try.func66 (by kernel_rfl) rfl
noncomputable def ZD : Code := (UC (UC (UB (UC (UB (UB (UB (Kf Try.f66))))))))
noncomputable def Z2 : Code := (UB (UC (UB (UC (UB (UB (UB (Kf Try.f66))))))))
def m91f3_k0 (p0_ : Tm × Int × Tm × Int × Scp × Int × Tm → Option ((Int × Int) ⊕ (Bool × Int))) (p1_ : Tm) (p2_ : Int) (p3_ : Tm) (p4_ : Int) (p5_ : Scp) (p6_ : Int × Int) (p7_ : Tm) : Option (LO (Int × Int) (Int ⊕ ((Int × Int) ⊕ (Bool × Int)))) :=
 Option.bind (p0_ (p1_, p2_, p3_, p4_, p5_, p6_.2, p7_)) (Sum.elim (fun (b0_ : Int × Int) => some (.done (.inr (.inl (b0_.1, b0_.2))))) (fun (b1_ : Bool × Int) => cond (!b1_.1)
   (some (.done (.inr (.inr (false, b1_.2)))))
   (some (.next ((Jk (p6_.1 + 1)), b1_.2)))))
def m91f3_l1 (a0 : Tm) (v9 : Int) (a1 : Int) (rc : Tm × Int × Tm × Int × Scp × Int × Tm → Option ((Int × Int) ⊕ (Bool × Int))) (a2 : Tm) (a3 : Int) (a4 : Scp) (a6 : Tm) (s1 : Int × Int) : Option (LO (Int × Int) (Int ⊕ ((Int × Int) ⊕ (Bool × Int)))) :=
 cond (decide (s1.1 < (a0.kids.length : Int)))
   (Option.bind (Yi a0.kids s1.1) fun (x12 : Tm) =>
 Option.bind (cond (s1.1 == v9)
   (some (Jk (a1 + 1)))
   (some a1)) (fun (v13 : Int) => m91f3_k0 rc x12 v13 a2 a3 a4 s1 a6))
   (some (.done (.inl s1.2)))
def m91f3_k2 (p0_ : Bool) (p1_ : Tm) (p2_ : Int) (p3_ : Tm × Int × Tm × Int × Scp × Int × Tm → Option ((Int × Int) ⊕ (Bool × Int))) (p4_ : Tm) (p5_ : Int) (p6_ : Scp) (p7_ : Tm) (p8_ : Int) : Option ((Int × Int) ⊕ (Bool × Int)) :=
 Option.bind (cond p0_
   (J8 (cond (decide (0 ≤ p1_.kind)) (Nat.blt p1_.kind.toNat 13) false)
 (Option.bind (Yi ([(-1), (-1), (-1), (-1), (-1), 1, 1, 1, (-1), (-1), (-1), 2, (-1)] : List Int) p1_.kind) fun (b0_ : Int) =>
 some b0_))
   (some (-1))) (fun (b1_ : Int) => Option.bind (QV (m91f3_l1 p1_ b1_ p2_ p3_ p4_ p5_ p6_ p7_) J2 (0, (Jk (p8_ + 1)))) (Sum.elim (fun (b2_ : Int) => some (.inr (true, b2_))) (fun o => some o)))
noncomputable abbrev JF  : HB :=
 .loop .ready none [(5, .v (.one (.ptr 3 0))), (10, .v (.one (.ptr 4 0))), (11, .v (.one (.ptr 5 0))), (12, .v (.one (.ptr 6 0))), (26, .v (.one (.fn 89 [(7, 0)])))] 45 #[27, 28] ZD Z2 2
noncomputable abbrev J6  : HB :=
 .cells 135 [Uy true, Uy false, Ux 0, Ux 0, Ux (-1), Uy false, Uy false, Ux 0, Ux 0, Ux (-1), Uy false, Uy false, Ux 1, Ux 0, Ux (-1), Uy false, Uy true, Ux (-1), Ux 0, Ux (-1), Uy false, Uy false, Ux 0, Ux 2, Ux (-1), Uy false, Uy false, Ux 0, Ux 2, Ux 1, Uy false, Uy false, Ux 0, Ux 2, Ux 1, Uy false, Uy false, Ux 0, Ux 2, Ux 1, Uy false, Uy false, Ux 0, Ux 3, Ux (-1), Uy false, Uy false, Ux 0, Ux 1, Ux (-1), Uy false, Uy false, Ux 0, Ux 1, Ux (-1), Uy false, Uy false, Ux 0, Ux 3, Ux 2, Uy true, Uy false, Ux 0, Ux 0, Ux (-1)]
noncomputable abbrev m91f3_h2 (p0_ : Tm) (p1_ : Int) (p2_ : Scp) (p3_ : Int) (p4_ : Tm) (p5_ : Tm) : List (Nat × HB) :=
 [(0, .cells 132 [.yld 1]), (1, JF), (2, .obj (.deferred (some []))), (3, .cells 33 (UA p0_)), (4, .cells 25 [Ux p1_]), (5, .cells 127 (UA p2_)), (6, .cells 3 [Ux p3_]), (7, .cells 33 (UA p4_)), (8, J6), (9, .cells 137 [.fn 91 [(0, 0), (8, 0), (9, 0)]]), (10, .cells 33 (UA p5_))]
noncomputable abbrev G1  : HB :=
 .loop .busy none [(5, .v (.one (.ptr 3 0))), (10, .v (.one (.ptr 4 0))), (11, .v (.one (.ptr 5 0))), (12, .v (.one (.ptr 6 0))), (26, .v (.one (.fn 89 [(7, 0)])))] 45 #[27, 28] ZD Z2 2
noncomputable abbrev m91f3_h4 (p0_ : Tm) (p1_ : Int) (p2_ : Scp) (p3_ : Int) (p4_ : Tm) (p5_ : Tm) : List (Nat × HB) :=
 [(0, .cells 132 [.yld 1]), (1, G1), (2, .obj (.deferred (some []))), (3, .cells 33 (UA p0_)), (4, .cells 25 [Ux p1_]), (5, .cells 127 (UA p2_)), (6, .cells 3 [Ux p3_]), (7, .cells 33 (UA p4_)), (8, J6), (9, .cells 137 [.fn 91 [(0, 0), (8, 0), (9, 0)]]), (10, .cells 33 (UA p5_)), (11, .cells 33 (UA p5_))]
noncomputable abbrev m91f3_h5 (p0_ : Tm) (p1_ : Int) (p2_ : Scp) (p3_ : Int) (p4_ : Tm) (p5_ : Tm) : List (Nat × HB) :=
 [(0, .cells 132 [.yld 1]), (1, JF), (2, .obj (.deferred (some []))), (3, .cells 33 (UA p0_)), (4, .cells 25 [Ux p1_]), (5, .cells 127 (UA p2_)), (6, .cells 3 [Ux p3_]), (7, .cells 33 (UA p4_)), (8, J6), (9, .cells 137 [.fn 91 [(0, 0), (8, 0), (9, 0)]]), (10, .cells 33 (UA p5_)), (11, .cells 33 (UA p5_))]
noncomputable abbrev m91f3_h6 (p0_ : Tm) (p1_ : Int) (p2_ : Scp) (p3_ : Int) (p4_ : Tm) (p5_ : Tm) : List (Nat × HB) :=
 [(0, .cells 132 [.yld 1]), (1, G1), (2, .obj (.deferred (some []))), (3, .cells 33 (UA p0_)), (4, .cells 25 [Ux p1_]), (5, .cells 127 (UA p2_)), (6, .cells 3 [Ux p3_]), (7, .cells 33 (UA p4_)), (8, J6), (9, .cells 137 [.fn 91 [(0, 0), (8, 0), (9, 0)]]), (10, .cells 33 (UA p5_))]
noncomputable abbrev m91f3_h7 (p0_ : Tm) (p1_ : Int) (p2_ : Scp) (p3_ : Int × Int) (p4_ : Tm) (p5_ : Tm) (p6_ : Tm) : List (Nat × HB) :=
 [(0, .cells 132 [.yld 1]), (1, JF), (2, .obj (.deferred (some []))), (3, .cells 33 (UA p0_)), (4, .cells 25 [Ux p1_]), (5, .cells 127 (UA p2_)), (6, .cells 3 [Ux p3_.2]), (7, .cells 33 (UA p4_)), (8, J6), (9, .cells 137 [.fn 91 [(0, 0), (8, 0), (9, 0)]]), (10, .cells 33 (UA p5_)), (12, .cells 33 (UA p6_))]
noncomputable abbrev Yd  : HB :=
 .loop .done (some .ret) [(5, .v (.one (.ptr 3 0))), (10, .v (.one (.ptr 4 0))), (11, .v (.one (.ptr 5 0))), (12, .v (.one (.ptr 6 0))), (26, .v (.one (.fn 89 [(7, 0)])))] 45 #[27, 28] ZD Z2 2
noncomputable abbrev m91f3_h9 (p0_ : Tm) (p1_ : Int × Int) (p2_ : Scp) (p3_ : Tm) : List (Nat × HB) :=
 [(0, .cells 132 [.yld 1]), (1, Yd), (2, .obj (.deferred (some []))), (3, .cells 33 (UA p0_)), (4, .cells 25 [Ux p1_.1]), (5, .cells 127 (UA p2_)), (6, .cells 3 [Ux p1_.2]), (7, .cells 33 (UA p3_)), (8, J6), (9, .cells 137 [.fn 91 [(0, 0), (8, 0), (9, 0)]])]
noncomputable abbrev m91f3_h10 (p0_ : Tm) (p1_ : Int) (p2_ : Scp) (p3_ : Bool × Int) (p4_ : Tm) : List (Nat × HB) :=
 [(0, .cells 132 [.yld 1]), (1, JF), (2, .obj (.deferred (some []))), (3, .cells 33 (UA p0_)), (4, .cells 25 [Ux p1_]), (5, .cells 127 (UA p2_)), (6, .cells 3 [Ux p3_.2]), (7, .cells 33 (UA p4_)), (8, J6), (9, .cells 137 [.fn 91 [(0, 0), (8, 0), (9, 0)]])]
noncomputable abbrev Kp (p0_ : Tm) (p1_ : Int) (p2_ : Scp) (p3_ : Int) (p4_ : Tm) : List (Nat × HB) :=
 [(0, .cells 132 [.yld 1]), (1, JF), (2, .obj (.deferred (some []))), (3, .cells 33 (UA p0_)), (4, .cells 25 [Ux p1_]), (5, .cells 127 (UA p2_)), (6, .cells 3 [Ux p3_]), (7, .cells 33 (UA p4_)), (8, J6), (9, .cells 137 [.fn 91 [(0, 0), (8, 0), (9, 0)]])]
noncomputable abbrev m91f3_h12 (p0_ : Tm) (p1_ : Int) (p2_ : Scp) (p3_ : Int) (p4_ : Tm) : List (Nat × HB) :=
 [(0, .cells 132 [.yld 1]), (1, Yd), (2, .obj (.deferred (some []))), (3, .cells 33 (UA p0_)), (4, .cells 25 [Ux p1_]), (5, .cells 127 (UA p2_)), (6, .cells 3 [Ux p3_]), (7, .cells 33 (UA p4_)), (8, J6), (9, .cells 137 [.fn 91 [(0, 0), (8, 0), (9, 0)]])]
def m91f3s (rc : Tm × Int × Tm × Int × Scp × Int × Tm → Option ((Int × Int) ⊕ (Bool × Int))) (a0 : Tm) (a1 : Int) (a2 : Tm) (a3 : Int) (a4 : Scp) (a5 : Int) (a6 : Tm) : Option ((Int × Int) ⊕ (Bool × Int)) :=
 Option.bind (Option.bind (m80 a4 a0 a1) fun (x6 : Int) =>
 cond (x6 != 0)
   (some (.inr x6))
   (some (.inl ()))) (Sum.elim (fun (y1 : Unit) => Option.bind (cond (decide (0 ≤ a0.kind))
   (some (decide (a0.kind < 13)))
   (some false)) (fun (v8 : Bool) => m91f3_k2 v8 a0 a1 rc a2 a3 a4 a6 a5)) (fun (y2 : Int) => some (.inl (y2, a5))))
def m91f3F (rc : Tm × Int × Tm × Int × Scp × Int × Tm → Option ((Int × Int) ⊕ (Bool × Int))) (u : Tm × Int × Tm × Int × Scp × Int × Tm) : Option ((Int × Int) ⊕ (Bool × Int)) := m91f3s rc u.1 u.2.1 u.2.2.1 u.2.2.2.1 u.2.2.2.2.1 u.2.2.2.2.2.1 u.2.2.2.2.2.2
def m91f3 (a0 : Tm) (a1 : Int) (a2 : Tm) (a3 : Int) (a4 : Scp) (a5 : Int) (a6 : Tm) : Option ((Int × Int) ⊕ (Bool × Int)) := Yt m91f3F J2 (a0, a1, a2, a3, a4, a5, a6)
set_option maxRecDepth 100000 in
set_option maxHeartbeats 2000000 in
theorem m91f3s_ok (rc : Tm × Int × Tm × Int × Scp × Int × Tm → Option ((Int × Int) ⊕ (Bool × Int))) (H : ∀ (a0 : Tm) (a1 : Int) (a2 : Tm) (a3 : Int) (a4 : Scp) (a5 : Int) (a6 : Tm) (r : (Int × Int) ⊕ (Bool × Int)), rc (a0, a1, a2, a3, a4, a5, a6) = some r → CallE Try.prog 91 [.agg (UA a0), .one (Ux a1), .one (.ptr 0 0), .one (.ptr 8 0), .one (.ptr 9 0)] ⟨Kp a2 a3 a4 a5 a6, [], 10⟩ ((Sum.elim (fun (r0 : Int × Int) => ((.ret [.one (Uy false)]) : EK)) (fun (r1 : Bool × Int) => ((.ret [.one (Uy r1.1)]) : EK))) r) ⟨((Sum.elim (fun (r0 : Int × Int) => (⟨[(7, .v (.one (Uy false)))], [(0, .cells 132 [.yld 1]), (1, Yd), (2, .obj (.deferred (some []))), (3, .cells 33 (UA a2)), (4, .cells 25 [Ux r0.1]), (5, .cells 127 (UA a4)), (6, .cells 3 [Ux r0.2]), (7, .cells 33 (UA a6)), (8, J6), (9, .cells 137 [.fn 91 [(0, 0), (8, 0), (9, 0)]])], [], 12, 50, []⟩ : St)) (fun (r1 : Bool × Int) => (⟨[(7, .v (.one (Uy r1.1)))], [(0, .cells 132 [.yld 1]), (1, JF), (2, .obj (.deferred (some []))), (3, .cells 33 (UA a2)), (4, .cells 25 [Ux a3]), (5, .cells 127 (UA a4)), (6, .cells 3 [Ux r1.2]), (7, .cells 33 (UA a6)), (8, J6), (9, .cells 137 [.fn 91 [(0, 0), (8, 0), (9, 0)]])], [], 12, 50, []⟩ : St))) r).hp, ((Sum.elim (fun (r0 : Int × Int) => (⟨[(7, .v (.one (Uy false)))], [(0, .cells 132 [.yld 1]), (1, Yd), (2, .obj (.deferred (some []))), (3, .cells 33 (UA a2)), (4, .cells 25 [Ux r0.1]), (5, .cells 127 (UA a4)), (6, .cells 3 [Ux r0.2]), (7, .cells 33 (UA a6)), (8, J6), (9, .cells 137 [.fn 91 [(0, 0), (8, 0), (9, 0)]])], [], 12, 50, []⟩ : St)) (fun (r1 : Bool × Int) => (⟨[(7, .v (.one (Uy r1.1)))], [(0, .cells 132 [.yld 1]), (1, JF), (2, .obj (.deferred (some []))), (3, .cells 33 (UA a2)), (4, .cells 25 [Ux a3]), (5, .cells 127 (UA a4)), (6, .cells 3 [Ux r1.2]), (7, .cells 33 (UA a6)), (8, J6), (9, .cells 137 [.fn 91 [(0, 0), (8, 0), (9, 0)]])], [], 12, 50, []⟩ : St))) r).tk, ((Sum.elim (fun (r0 : Int × Int) => (⟨[(7, .v (.one (Uy false)))], [(0, .cells 132 [.yld 1]), (1, Yd), (2, .obj (.deferred (some []))), (3, .cells 33 (UA a2)), (4, .cells 25 [Ux r0.1]), (5, .cells 127 (UA a4)), (6, .cells 3 [Ux r0.2]), (7, .cells 33 (UA a6)), (8, J6), (9, .cells 137 [.fn 91 [(0, 0), (8, 0), (9, 0)]])], [], 12, 50, []⟩ : St)) (fun (r1 : Bool × Int) => (⟨[(7, .v (.one (Uy r1.1)))], [(0, .cells 132 [.yld 1]), (1, JF), (2, .obj (.deferred (some []))), (3, .cells 33 (UA a2)), (4, .cells 25 [Ux a3]), (5, .cells 127 (UA a4)), (6, .cells 3 [Ux r1.2]), (7, .cells 33 (UA a6)), (8, J6), (9, .cells 137 [.fn 91 [(0, 0), (8, 0), (9, 0)]])], [], 12, 50, []⟩ : St))) r).nx⟩) (a0 : Tm) (a1 : Int) (a2 : Tm) (a3 : Int) (a4 : Scp) (a5 : Int) (a6 : Tm) (r : (Int × Int) ⊕ (Bool × Int)) (h0 : m91f3s rc a0 a1 a2 a3 a4 a5 a6 = some r) : CallE Try.prog 91 [.agg (UA a0), .one (Ux a1), .one (.ptr 0 0), .one (.ptr 8 0), .one (.ptr 9 0)] ⟨Kp a2 a3 a4 a5 a6, [], 10⟩ ((Sum.elim (fun (r0 : Int × Int) => ((.ret [.one (Uy false)]) : EK)) (fun (r1 : Bool × Int) => ((.ret [.one (Uy r1.1)]) : EK))) r) ⟨((Sum.elim (fun (r0 : Int × Int) => (⟨[(7, .v (.one (Uy false)))], [(0, .cells 132 [.yld 1]), (1, Yd), (2, .obj (.deferred (some []))), (3, .cells 33 (UA a2)), (4, .cells 25 [Ux r0.1]), (5, .cells 127 (UA a4)), (6, .cells 3 [Ux r0.2]), (7, .cells 33 (UA a6)), (8, J6), (9, .cells 137 [.fn 91 [(0, 0), (8, 0), (9, 0)]])], [], 12, 50, []⟩ : St)) (fun (r1 : Bool × Int) => (⟨[(7, .v (.one (Uy r1.1)))], [(0, .cells 132 [.yld 1]), (1, JF), (2, .obj (.deferred (some []))), (3, .cells 33 (UA a2)), (4, .cells 25 [Ux a3]), (5, .cells 127 (UA a4)), (6, .cells 3 [Ux r1.2]), (7, .cells 33 (UA a6)), (8, J6), (9, .cells 137 [.fn 91 [(0, 0), (8, 0), (9, 0)]])], [], 12, 50, []⟩ : St))) r).hp, ((Sum.elim (fun (r0 : Int × Int) => (⟨[(7, .v (.one (Uy false)))], [(0, .cells 132 [.yld 1]), (1, Yd), (2, .obj (.deferred (some []))), (3, .cells 33 (UA a2)), (4, .cells 25 [Ux r0.1]), (5, .cells 127 (UA a4)), (6, .cells 3 [Ux r0.2]), (7, .cells 33 (UA a6)), (8, J6), (9, .cells 137 [.fn 91 [(0, 0), (8, 0), (9, 0)]])], [], 12, 50, []⟩ : St)) (fun (r1 : Bool × Int) => (⟨[(7, .v (.one (Uy r1.1)))], [(0, .cells 132 [.yld 1]), (1, JF), (2, .obj (.deferred (some []))), (3, .cells 33 (UA a2)), (4, .cells 25 [Ux a3]), (5, .cells 127 (UA a4)), (6, .cells 3 [Ux r1.2]), (7, .cells 33 (UA a6)), (8, J6), (9, .cells 137 [.fn 91 [(0, 0), (8, 0), (9, 0)]])], [], 12, 50, []⟩ : St))) r).tk, ((Sum.elim (fun (r0 : Int × Int) => (⟨[(7, .v (.one (Uy false)))], [(0, .cells 132 [.yld 1]), (1, Yd), (2, .obj (.deferred (some []))), (3, .cells 33 (UA a2)), (4, .cells 25 [Ux r0.1]), (5, .cells 127 (UA a4)), (6, .cells 3 [Ux r0.2]), (7, .cells 33 (UA a6)), (8, J6), (9, .cells 137 [.fn 91 [(0, 0), (8, 0), (9, 0)]])], [], 12, 50, []⟩ : St)) (fun (r1 : Bool × Int) => (⟨[(7, .v (.one (Uy r1.1)))], [(0, .cells 132 [.yld 1]), (1, JF), (2, .obj (.deferred (some []))), (3, .cells 33 (UA a2)), (4, .cells 25 [Ux a3]), (5, .cells 127 (UA a4)), (6, .cells 3 [Ux r1.2]), (7, .cells 33 (UA a6)), (8, J6), (9, .cells 137 [.fn 91 [(0, 0), (8, 0), (9, 0)]])], [], 12, 50, []⟩ : St))) r).nx⟩ := by
 unfold m91f3s at h0
 refine JP r ((Sum.elim (fun (r0 : Int × Int) => (⟨[(7, .v (.one (Uy false)))], [(0, .cells 132 [.yld 1]), (1, Yd), (2, .obj (.deferred (some []))), (3, .cells 33 (UA a2)), (4, .cells 25 [Ux r0.1]), (5, .cells 127 (UA a4)), (6, .cells 3 [Ux r0.2]), (7, .cells 33 (UA a6)), (8, J6), (9, .cells 137 [.fn 91 [(0, 0), (8, 0), (9, 0)]])], [], 12, 50, []⟩ : St)) (fun (r1 : Bool × Int) => (⟨[(7, .v (.one (Uy r1.1)))], [(0, .cells 132 [.yld 1]), (1, JF), (2, .obj (.deferred (some []))), (3, .cells 33 (UA a2)), (4, .cells 25 [Ux a3]), (5, .cells 127 (UA a4)), (6, .cells 3 [Ux r1.2]), (7, .cells 33 (UA a6)), (8, J6), (9, .cells 137 [.fn 91 [(0, 0), (8, 0), (9, 0)]])], [], 12, 50, []⟩ : St)))) ((Sum.elim (fun (r0 : Int × Int) => ((.ret [.one (Uy false)]) : EK)) (fun (r1 : Bool × Int) => ((.ret [.one (Uy r1.1)]) : EK)))) rfl rfl en_91 (Um rfl) (fun z_ => by cases z_ with
 | inl _ => exact rfl
 | inr _ => exact rfl) (fun z_ => by cases z_ with
 | inl _ => exact (WA (Qz rfl .nil))
 | inr _ => exact (WA (Qz rfl .nil))) (fun w0 M V0 Q hv0 hQ0 => ?_)
 simp only [J7]
 refine Q5 <| Q0 <| Q9 rfl rfl (Um rfl) (QN rfl) <| Ug rfl rfl rfl <| Q4 <| Q3 <| Q5 <| Q5 <| Q0 <| Ue rfl rfl rfl (Q6 ag_132 rfl rfl rfl) <| Uf rfl rfl rfl <| Ue rfl rfl rfl (QK (a0 : Tm) QW rfl rfl) ?_
 refine Qb h0 (fun y3 h1 h0 => ?_)
 have ha4 : ExecOK Try.prog (some 1) ZD ⟨[(5, .v (.one (.ptr 3 0))), (10, .v (.one (.ptr 4 0))), (11, .v (.one (.ptr 5 0))), (12, .v (.one (.ptr 6 0))), (26, .v (.one (.fn 89 [(7, 0)]))), (27, .v (.one (Ux a1))), (28, .v (.agg (UA a0)))], m91f3_h2 a2 a3 a4 a5 a6 a0, [], 11, 45, []⟩ .normal ⟨[(10, .v (.one (.ptr 4 0))), (11, .v (.one (.ptr 5 0))), (12, .v (.one (.ptr 6 0))), (13, .v (.one (Ux a1))), (14, .v (.one (.ptr 11 0)))], m91f3_h5 a2 a3 a4 a5 a6 a0, [], 12, 45, []⟩ := by
  refine QI (fun w0 M V0 ro n Q hv1 hro1 hQn1 => ?_)
  refine Q5 <| Q0 <| Ug rfl rfl rfl <| Q4 <| Q3 <| Q0 <| Q9 rfl rfl (Um rfl) (Qm ZS rfl) <| Qy rfl rfl (QC (a0 : Tm) QW rfl rfl rfl rfl rfl) <| Q4 ?_
  exact Jr hQn1 (Ub (Nat.le_trans hv1 (Um rfl)) rfl rfl rfl rfl rfl)
 have hb5 : ExecOK Try.prog (some 1) Z2 ⟨[(10, .v (.one (.ptr 4 0))), (11, .v (.one (.ptr 5 0))), (12, .v (.one (.ptr 6 0))), (13, .v (.one (Ux a1))), (14, .v (.one (.ptr 11 0)))], m91f3_h4 a2 a3 a4 a5 a6 a0, [], 12, 45, []⟩ ((Sum.elim (fun (_ : Unit) => (.normal : Exit)) (fun (_ : Int) => (.ret : Exit))) y3) ((Sum.elim (fun (y1 : Unit) => (⟨[], [(0, .cells 132 [.yld 1]), (1, G1), (2, .obj (.deferred (some []))), (3, .cells 33 (UA a2)), (4, .cells 25 [Ux a3]), (5, .cells 127 (UA a4)), (6, .cells 3 [Ux (Jk (a5 + 1))]), (7, .cells 33 (UA a6)), (8, J6), (9, .cells 137 [.fn 91 [(0, 0), (8, 0), (9, 0)]]), (10, .cells 33 (UA a0))], [], 12, 45, []⟩ : St)) (fun (y2 : Int) => (⟨[], m91f3_h6 a2 y2 a4 a5 a6 a0, [], 12, 45, []⟩ : St))) y3) := by
  refine QI (fun w0 M V0 ro n Q hv1 hro1 hQn1 => ?_)
  refine Qf <| Q5 <| Q5 <| Q0 <| Ue rfl rfl rfl (QK (a4 : Scp) ag_127 rfl rfl) <| Ue rfl rfl rfl (QK (a0 : Tm) QW rfl rfl) <| Uf rfl rfl rfl ?_
  refine Qb h1 (fun x6 hx6 h1 => ?_)
  refine Q9 rfl rfl (Um rfl) (Qo (m80_ok a4 a0 a1 x6 hx6) rfl (.cons (.agg (.cons (.d _) (.cons (.d _) (.cons (.d _) (.cons (.d _) .nil))))) (.cons (.agg (.cons (.d _) (.cons (.d _) (.cons (.d _) (.cons (.d _) (.cons (.d _) .nil)))))) (.cons (.one (.d _)) .nil)))) <| Ug rfl rfl rfl <| Q4 <| Q3 <| Q5 <| Q0 <| Uf rfl rfl rfl <| Ue rfl rfl rfl (Q7 rfl rfl rfl) <| Q4 <| Q3 ?_
  refine Qg (b := (x6 != 0)) rfl (fun c7 => ?_) (fun c7 => ?_)
  replace h1 := Qk c7 h1
  refine Q5 <| Q0 <| Uf rfl rfl rfl <| Qy rfl rfl (Qr ZR rfl rfl rfl rfl (Um rfl) rfl) <| Q4 <| Q3 <| QA ?_
  have e := Uc h1; subst e
  exact Jr (e := .ret) (st' := ⟨[], m91f3_h6 a2 x6 a4 a5 a6 a0, [], 12, 45, []⟩) hQn1 (Ub (Nat.le_trans hv1 (Um rfl)) rfl rfl rfl rfl rfl)
  replace h1 := Ql c7 h1
  refine Qj <| Q3 <| Q0 <| Ue rfl rfl rfl (Q6 QZ rfl rfl rfl) <| Ue rfl rfl rfl (Q7 rfl rfl rfl) <| Qy rfl rfl (Qr QZ rfl rfl rfl rfl (Um rfl) rfl) <| Q4 <| Qe ?_
  have e := Uc h1; subst e
  exact Jr (e := .normal) (st' := ⟨[], [(0, .cells 132 [.yld 1]), (1, G1), (2, .obj (.deferred (some []))), (3, .cells 33 (UA a2)), (4, .cells 25 [Ux a3]), (5, .cells 127 (UA a4)), (6, .cells 3 [Ux (Jk (a5 + 1))]), (7, .cells 33 (UA a6)), (8, J6), (9, .cells 137 [.fn 91 [(0, 0), (8, 0), (9, 0)]]), (10, .cells 33 (UA a0))], [], 12, 45, []⟩) hQn1 (Ub (Nat.le_trans hv1 (Um rfl)) rfl rfl rfl rfl rfl)
 refine XM (C := fun q_ => ExecOK Try.prog (some 1) Z2 ⟨[(10, .v (.one (.ptr 4 0))), (11, .v (.one (.ptr 5 0))), (12, .v (.one (.ptr 6 0))), (13, .v (.one (Ux a1))), (14, .v (.one (.ptr 11 0)))], m91f3_h4 a2 a3 a4 a5 a6 a0, [], 12, 45, []⟩ ((Sum.elim (fun (_ : Unit) => (.normal : Exit)) (fun (_ : Int) => (.ret : Exit))) q_) ((Sum.elim (fun (y1 : Unit) => (⟨[], [(0, .cells 132 [.yld 1]), (1, G1), (2, .obj (.deferred (some []))), (3, .cells 33 (UA a2)), (4, .cells 25 [Ux a3]), (5, .cells 127 (UA a4)), (6, .cells 3 [Ux (Jk (a5 + 1))]), (7, .cells 33 (UA a6)), (8, J6), (9, .cells 137 [.fn 91 [(0, 0), (8, 0), (9, 0)]]), (10, .cells 33 (UA a0))], [], 12, 45, []⟩ : St)) (fun (y2 : Int) => (⟨[], m91f3_h6 a2 y2 a4 a5 a6 a0, [], 12, 45, []⟩ : St))) q_)) hb5 h0 (fun y1 hb5 h0 => ?_) (fun y2 hb5 h0 => ?_)
 replace hb5 : ExecOK Try.prog (some 1) Z2 ⟨[(10, .v (.one (.ptr 4 0))), (11, .v (.one (.ptr 5 0))), (12, .v (.one (.ptr 6 0))), (13, .v (.one (Ux a1))), (14, .v (.one (.ptr 11 0)))], m91f3_h4 a2 a3 a4 a5 a6 a0, [], 12, 45, []⟩ .normal ⟨[], [(0, .cells 132 [.yld 1]), (1, G1), (2, .obj (.deferred (some []))), (3, .cells 33 (UA a2)), (4, .cells 25 [Ux a3]), (5, .cells 127 (UA a4)), (6, .cells 3 [Ux (Jk (a5 + 1))]), (7, .cells 33 (UA a6)), (8, J6), (9, .cells 137 [.fn 91 [(0, 0), (8, 0), (9, 0)]]), (10, .cells 33 (UA a0))], [], 12, 45, []⟩ := hb5
 refine Q9 rfl rfl (Um rfl) (Jc (jump := none) rfl rfl rfl rfl rfl (Qw ha4 (fun E hv => (Ub (Nat.le_trans hv (Um rfl)) rfl rfl rfl rfl rfl))) rfl (Qw hb5 (fun E hv => (Ub (Nat.le_trans hv (Um rfl)) rfl rfl rfl rfl rfl))) rfl rfl) ?_
 refine Ue rfl rfl rfl (Jb rfl) <| Q4 <| Q3 ?_
 refine Qg rfl (fun h => nomatch h) (fun _ => ?_)
 refine Qj <| Q3 <| Q5 <| Q0 <| Ug rfl rfl rfl <| Q4 <| Q3 <| Q5 <| Q5 ?_
 refine QS (fun (v8 : Bool) => ⟨[(1, .v (.one (Ux a1))), (3, .v (.one (.ptr 8 0))), (4, .v (.one (.ptr 9 0))), (5, .v (.one (.ptr 10 0))), (8, .v (.one (Ux (-1)))), (24, .v (.one (Uy v8)))], [(0, .cells 132 [.yld 1]), (1, JF), (2, .obj (.deferred (some []))), (3, .cells 33 (UA a2)), (4, .cells 25 [Ux a3]), (5, .cells 127 (UA a4)), (6, .cells 3 [Ux (Jk (a5 + 1))]), (7, .cells 33 (UA a6)), (8, J6), (9, .cells 137 [.fn 91 [(0, 0), (8, 0), (9, 0)]]), (10, .cells 33 (UA a0))], [], 12, 50, []⟩) (fun (v8 : Bool) => (m91f3_k2 v8 a0 a1 rc a2 a3 a4 a6 a5) = some r) ?_ ?_
 refine Qb h0 (fun w1_ h1 h0 => ?_)
 refine Q0 <| Ue rfl rfl rfl (Q1 Y3 rfl) <| Ue rfl rfl rfl (Q6 QZ rfl rfl rfl) <| Ue rfl rfl rfl (Q7 rfl rfl rfl) <| Uf rfl rfl rfl ?_
 refine QG (d := 20) (c := (decide (0 ≤ a0.kind))) rfl (fun c9 => ?_) (fun c9 => ?_)
 replace h1 := Qk c9 h1
 refine Ue rfl rfl rfl (Q1 Y3 rfl) <| Ue rfl rfl rfl (Q6 QZ rfl rfl rfl) <| Ue rfl rfl rfl (Q7 rfl rfl rfl) <| Ue rfl rfl rfl (Qh rfl rfl) <| Q4 ?_
 have e := Uc h1; subst e
 exact Qc (decide (a0.kind < 13)) (Ub (Nat.le_trans hv0 (Um rfl)) rfl rfl rfl rfl rfl) h0
 replace h1 := Ql c9 h1
 refine Q8 rfl rfl <| Q8 rfl rfl <| Q8 rfl rfl <| Ue rfl rfl rfl (Qd rfl rfl) <| Q4 ?_
 have e := Uc h1; subst e
 exact Qc false (Ub (Nat.le_trans hv0 (Um rfl)) rfl rfl rfl rfl rfl) h0
 intro v8 h0
 unfold m91f3_k2 at h0
 refine Q3 ?_
 refine QS (fun (v10 : Int) => ⟨[(1, .v (.one (Ux a1))), (4, .v (.one (.ptr 9 0))), (5, .v (.one (.ptr 10 0))), (8, .v (.one (Ux v10)))], [(0, .cells 132 [.yld 1]), (1, JF), (2, .obj (.deferred (some []))), (3, .cells 33 (UA a2)), (4, .cells 25 [Ux a3]), (5, .cells 127 (UA a4)), (6, .cells 3 [Ux (Jk (a5 + 1))]), (7, .cells 33 (UA a6)), (8, J6), (9, .cells 137 [.fn 91 [(0, 0), (8, 0), (9, 0)]]), (10, .cells 33 (UA a0))], [], 12, 50, []⟩) (fun (v10 : Int) => (Option.bind (QV (m91f3_l1 a0 v10 a1 rc a2 a3 a4 a6) J2 (0, (Jk (a5 + 1)))) (Sum.elim (fun (o11 : Int) => some (.inr (true, o11))) (fun o => some o))) = some r) ?_ ?_
 refine Qb h0 (fun w1_ h1 h0 => ?_)
 refine Qg (b := v8) rfl (fun c11 => ?_) (fun c11 => ?_)
 replace h1 := Qk c11 h1
 refine Q0 <| Ue rfl rfl rfl (Q1 Y3 rfl) <| Ue rfl rfl rfl (Q6 QZ rfl rfl rfl) ?_
 refine JC h1 (fun g12 h1 => ?_)
 refine Ue rfl rfl rfl (RO.indexA arr_135 rfl rfl g12) <| Ue rfl rfl rfl (Q1 fo_134_4 rfl) ?_
 refine Qb h1 (fun x13 hx13 h1 => ?_)
 refine Ue rfl rfl rfl (RO.loadCol (m := a0.kind) (sz := 5) (f := 4) (col := ([(-1), (-1), (-1), (-1), (-1), 1, 1, 1, (-1), (-1), (-1), 2, (-1)] : List Int)) QZ rfl rfl rfl hx13) <| Ug rfl rfl rfl <| Q4 ?_
 have e := Uc h1; subst e
 exact Qc x13 (Ub (Nat.le_trans hv0 (Um rfl)) rfl rfl rfl rfl rfl) h0
 replace h1 := Ql c11 h1
 refine Qj ?_
 have e := Uc h1; subst e
 exact Qc (-1) (Ub (Nat.le_trans hv0 (Um rfl)) rfl rfl rfl rfl rfl) h0
 intro v10 h0
 refine Q3 <| Q5 <| Q5 <| Q0 <| Ue rfl rfl rfl (Q1 JJ rfl) <| Ue rfl rfl rfl (Q6 JH rfl rfl rfl) <| Ue rfl rfl rfl (Qx (α := Tm) Ji rfl (.d _)) <| Uf rfl rfl rfl <| Q4 <| Q3 <| Qf ?_
 refine QR 0 (fun (o14 : Int) => ⟨[], [(0, .cells 132 [.yld 1]), (1, JF), (2, .obj (.deferred (some []))), (3, .cells 33 (UA a2)), (4, .cells 25 [Ux a3]), (5, .cells 127 (UA a4)), (6, .cells 3 [Ux o14]), (7, .cells 33 (UA a6)), (8, J6), (9, .cells 137 [.fn 91 [(0, 0), (8, 0), (9, 0)]]), (10, .cells 33 (UA a0))], [], 12, 50, []⟩) (fun (o14 : Int) => (some (.inr (true, o14))) = some r) ?_ ?_
 refine Qb h0 (fun o15 hl1 h0 => ?_)
 refine QQ (m91f3_l1 a0 v10 a1 rc a2 a3 a4 a6) (fun s1 => ⟨[(1, .v (.one (Ux a1))), (4, .v (.one (.ptr 9 0))), (8, .v (.one (Ux v10))), (31, .v (.one (Uv a0.kids))), (32, .v (.one (Ux (a0.kids.length : Int)))), (33, .v (.one (Ux s1.1)))], [(0, .cells 132 [.yld 1]), (1, JF), (2, .obj (.deferred (some []))), (3, .cells 33 (UA a2)), (4, .cells 25 [Ux a3]), (5, .cells 127 (UA a4)), (6, .cells 3 [Ux s1.2]), (7, .cells 33 (UA a6)), (8, J6), (9, .cells 137 [.fn 91 [(0, 0), (8, 0), (9, 0)]]), (10, .cells 33 (UA a0))], [], 12, 50, []⟩) (0, (Jk (a5 + 1))) o15 (Ub (Nat.le_trans hv0 (Um rfl)) rfl rfl rfl rfl rfl) hl1 (fun s1 n1 oo1 h1 ho1 => ?_)
 unfold m91f3_l1 at h1
 refine Q5 <| Q0 <| Ue rfl rfl rfl (Q7 rfl rfl rfl) <| Q4 <| Q3 <| Q5 ?_
 refine Qg (b := (decide (s1.1 < (a0.kids.length : Int)))) rfl (fun c16 => ?_) (fun c16 => ?_)
 replace h1 := Qk c16 h1
 refine Qj <| Q3 <| Q5 <| Qf <| Q5 <| Q0 <| Uf rfl rfl rfl ?_
 refine Qb h1 (fun x17 hx17 h1 => ?_)
 refine Ue rfl rfl rfl (Qq (α := Tm) Ji rfl (.d _) rfl hx17) <| Ue rfl rfl rfl (Qv (x17 : Tm) QW rfl) <| Q9 rfl rfl (Um rfl) (Qm ZS rfl) <| Ug rfl rfl rfl <| Qy rfl rfl (QC (x17 : Tm) QW rfl rfl rfl rfl rfl) <| Q4 <| Q3 <| Q5 <| Q0 <| Uf rfl rfl rfl <| Ug rfl rfl rfl <| Q4 <| Q3 <| Q5 ?_
 refine Q5 <| Q0 <| Uf rfl rfl rfl <| Uf rfl rfl rfl <| Ue rfl rfl rfl (Q7 rfl rfl rfl) <| Q4 <| Q3 ?_
 refine QS (fun (v18 : Int) => ⟨[(1, .v (.one (Ux a1))), (4, .v (.one (.ptr 9 0))), (8, .v (.one (Ux v10))), (10, .v (.one (.ptr 12 0))), (11, .v (.one (Ux v18))), (31, .v (.one (Uv a0.kids))), (32, .v (.one (Ux (a0.kids.length : Int)))), (33, .v (.one (Ux s1.1)))], m91f3_h7 a2 a3 a4 s1 a6 a0 x17, [], 13, 50, []⟩) (fun (v18 : Int) => (m91f3_k0 rc x17 v18 a2 a3 a4 s1 a6) = some oo1) ?_ ?_
 refine Qb h1 (fun w2_ h2 h1 => ?_)
 refine Qg (b := (s1.1 == v10)) rfl (fun c19 => ?_) (fun c19 => ?_)
 replace h2 := Qk c19 h2
 refine Q0 <| Uf rfl rfl rfl <| Ue rfl rfl rfl (Q7 rfl rfl rfl) <| Ug rfl rfl rfl <| Q4 ?_
 have e := Uc h2; subst e
 exact Qc (Jk (a1 + 1)) (Ub (Nat.le_trans hv0 (Um rfl)) rfl rfl rfl rfl rfl) h1
 replace h2 := Ql c19 h2
 refine Qj ?_
 have e := Uc h2; subst e
 exact Qc a1 (Ub (Nat.le_trans hv0 (Um rfl)) rfl rfl rfl rfl rfl) h1
 intro v18 h1
 unfold m91f3_k0 at h1
 refine Q3 <| Q5 <| Q0 <| Ue rfl rfl rfl (Q6 XY rfl rfl rfl) <| Ue rfl rfl rfl (QK (x17 : Tm) QW rfl rfl) <| Uf rfl rfl rfl ?_
 refine Qb h1 (fun x20 hx20 h1 => ?_)
 refine JY id hx20 h1 (fun x21 hx21 h1 => ?_) (fun x22 hx22 h1 => ?_)
 refine Q9 rfl rfl (Um rfl) (J4 (hp1' := [(0, .cells 132 [.yld 1]), (1, .loop .done (some .ret) [(5, .v (.one (.ptr 3 0))), (10, .v (.one (.ptr 4 0))), (11, .v (.one (.ptr 5 0))), (12, .v (.one (.ptr 6 0))), (26, .v (.one (.fn 89 [(7, 0)])))] 45 #[27, 28] ZD Z2 2), (2, .obj (.deferred (some []))), (3, .cells 33 (UA a2)), (4, .cells 25 [Ux x21.1]), (5, .cells 127 (UA a4)), (6, .cells 3 [Ux x21.2]), (7, .cells 33 (UA a6)), (8, .cells 135 [Uy true, Uy false, Ux 0, Ux 0, Ux (-1), Uy false, Uy false, Ux 0, Ux 0, Ux (-1), Uy false, Uy false, Ux 1, Ux 0, Ux (-1), Uy false, Uy true, Ux (-1), Ux 0, Ux (-1), Uy false, Uy false, Ux 0, Ux 2, Ux (-1), Uy false, Uy false, Ux 0, Ux 2, Ux 1, Uy false, Uy false, Ux 0, Ux 2, Ux 1, Uy false, Uy false, Ux 0, Ux 2, Ux 1, Uy false, Uy false, Ux 0, Ux 3, Ux (-1), Uy false, Uy false, Ux 0, Ux 1, Ux (-1), Uy false, Uy false, Ux 0, Ux 1, Ux (-1), Uy false, Uy false, Ux 0, Ux 3, Ux 2, Uy true, Uy false, Ux 0, Ux 0, Ux (-1)]), (9, .cells 137 [.fn 91 [(0, 0), (8, 0), (9, 0)]])]) (tk1' := []) (hpF := [(10, .cells 33 (UA a0)), (12, .cells 33 (UA x17))]) (tkF := []) (res2 := QD [.one (Uy false)]) (nx2 := 15) [0, 1, 2, 3, 4, 5, 6, 7, 8, 9] rfl rfl (CallE.m (H x17 v18 a2 a3 a4 s1.2 a6 (.inl x21) hx21)) rfl rfl (Uj rfl rfl (Uj rfl rfl (Uj rfl rfl (Uj rfl rfl (Uj rfl rfl (Uj rfl rfl (Uj rfl rfl (Uj rfl rfl (Uj rfl rfl (Uj rfl rfl Uh)))))))))) rfl rfl (Ut rfl (Ut rfl (Ut rfl (Ut rfl (Ut rfl (Ut rfl (Ut rfl (Ut rfl (Ut rfl (Ut rfl Us)))))))))) Up (hA rfl) Un rfl rfl rfl rfl rfl (UG rfl) rfl rfl rfl rfl) <| Ue rfl rfl rfl (Jb rfl) <| Q4 <| Q3 ?_
 refine Qg rfl (fun _ => ?_) (fun h => nomatch h)
 refine Q5 <| Q0 <| Ug rfl rfl rfl <| Q4 <| Q3 <| QA ?_
 have e := Uc h1; subst e
 have e_ : _ = _ := ho1
 subst e_
 try dsimp only [Sum.elim_inl, Sum.elim_inr] at h0
 have e := Uc h0; subst e
 exact hQ0 _ _ WS rfl (show StLe _ _ ⟨[(7, .v (.one (Uy false)))], m91f3_h9 a2 x21 a4 a6, [], 12, 50, []⟩ from (Ub (Nat.le_trans hv0 (Um rfl)) rfl rfl rfl rfl rfl))
 refine Q9 rfl rfl (Um rfl) (J4 (hp1' := [(0, .cells 132 [.yld 1]), (1, .loop .ready none [(5, .v (.one (.ptr 3 0))), (10, .v (.one (.ptr 4 0))), (11, .v (.one (.ptr 5 0))), (12, .v (.one (.ptr 6 0))), (26, .v (.one (.fn 89 [(7, 0)])))] 45 #[27, 28] ZD Z2 2), (2, .obj (.deferred (some []))), (3, .cells 33 (UA a2)), (4, .cells 25 [Ux a3]), (5, .cells 127 (UA a4)), (6, .cells 3 [Ux x22.2]), (7, .cells 33 (UA a6)), (8, .cells 135 [Uy true, Uy false, Ux 0, Ux 0, Ux (-1), Uy false, Uy false, Ux 0, Ux 0, Ux (-1), Uy false, Uy false, Ux 1, Ux 0, Ux (-1), Uy false, Uy true, Ux (-1), Ux 0, Ux (-1), Uy false, Uy false, Ux 0, Ux 2, Ux (-1), Uy false, Uy false, Ux 0, Ux 2, Ux 1, Uy false, Uy false, Ux 0, Ux 2, Ux 1, Uy false, Uy false, Ux 0, Ux 2, Ux 1, Uy false, Uy false, Ux 0, Ux 3, Ux (-1), Uy false, Uy false, Ux 0, Ux 1, Ux (-1), Uy false, Uy false, Ux 0, Ux 1, Ux (-1), Uy false, Uy false, Ux 0, Ux 3, Ux 2, Uy true, Uy false, Ux 0, Ux 0, Ux (-1)]), (9, .cells 137 [.fn 91 [(0, 0), (8, 0), (9, 0)]])]) (tk1' := []) (hpF := [(10, .cells 33 (UA a0)), (12, .cells 33 (UA x17))]) (tkF := []) (res2 := QD [.one (Uy x22.1)]) (nx2 := 15) [0, 1, 2, 3, 4, 5, 6, 7, 8, 9] rfl rfl (CallE.m (H x17 v18 a2 a3 a4 s1.2 a6 (.inr x22) hx22)) rfl rfl (Uj rfl rfl (Uj rfl rfl (Uj rfl rfl (Uj rfl rfl (Uj rfl rfl (Uj rfl rfl (Uj rfl rfl (Uj rfl rfl (Uj rfl rfl (Uj rfl rfl Uh)))))))))) rfl rfl (Ut rfl (Ut rfl (Ut rfl (Ut rfl (Ut rfl (Ut rfl (Ut rfl (Ut rfl (Ut rfl (Ut rfl Us)))))))))) Up (hA rfl) Un rfl rfl rfl rfl rfl (UG rfl) rfl rfl rfl rfl) <| Ue rfl rfl rfl (Jb rfl) <| Q4 <| Q3 ?_
 refine Qg (b := (!x22.1)) rfl (fun c23 => ?_) (fun c23 => ?_)
 replace h1 := Qk c23 h1
 refine Q5 <| Q0 <| Ug rfl rfl rfl <| Q4 <| Q3 <| QA ?_
 have e := Uc h1; subst e
 have e_ : _ = _ := ho1
 subst e_
 try dsimp only [Sum.elim_inl, Sum.elim_inr] at h0
 have e := Uc h0; subst e
 exact hQ0 _ _ WS rfl (show StLe _ _ ⟨[(7, .v (.one (Uy false)))], m91f3_h10 a2 a3 a4 x22 a6, [], 12, 50, []⟩ from (Ub (Nat.le_trans hv0 (Um rfl)) rfl rfl rfl rfl rfl))
 replace h1 := Ql c23 h1
 refine Qj <| Qe <| Q3 <| Q0 <| Ue rfl rfl rfl (Q7 rfl rfl rfl) <| Uf rfl rfl rfl <| Q4 ?_
 have e := Uc h1; subst e
 refine QM ((Jk (s1.1 + 1)), x22.2) (Ub (Nat.le_trans hv0 (Um rfl)) rfl rfl rfl rfl rfl) ho1
 replace h1 := Ql c16 h1
 refine J1 <| Qn <| Qn ?_
 have e := Uc h1; subst e
 have e_ : _ = _ := ho1
 subst e_
 exact QP s1.2 (Ub (Nat.le_trans hv0 (Um rfl)) rfl rfl rfl rfl rfl) h0
 intro o14 h0
 refine QF <| Q3 <| Q5 <| Q0 <| Ug rfl rfl rfl <| Q4 <| Q3 <| QA ?_
 have e := Uc h0; subst e
 exact hQ0 _ _ WS rfl (show StLe _ _ ⟨[(7, .v (.one (Uy true)))], Kp a2 a3 a4 o14 a6, [], 12, 50, []⟩ from (Ub (Nat.le_trans hv0 (Um rfl)) rfl rfl rfl rfl rfl))
 replace hb5 : ExecOK Try.prog (some 1) Z2 ⟨[(10, .v (.one (.ptr 4 0))), (11, .v (.one (.ptr 5 0))), (12, .v (.one (.ptr 6 0))), (13, .v (.one (Ux a1))), (14, .v (.one (.ptr 11 0)))], m91f3_h4 a2 a3 a4 a5 a6 a0, [], 12, 45, []⟩ .ret ⟨[], m91f3_h6 a2 y2 a4 a5 a6 a0, [], 12, 45, []⟩ := hb5
 refine Q9 rfl rfl (Um rfl) (Jc (jump := (some .ret)) rfl rfl rfl rfl rfl (Qw ha4 (fun E hv => (Ub (Nat.le_trans hv (Um rfl)) rfl rfl rfl rfl rfl))) rfl (Qw hb5 (fun E hv => (Ub (Nat.le_trans hv (Um rfl)) rfl rfl rfl rfl rfl))) rfl rfl) ?_
 refine Ue rfl rfl rfl (Jb rfl) <| Q4 <| Q3 ?_
 refine Qg rfl (fun _ => ?_) (fun h => nomatch h)
 refine Q5 <| Q0 <| Ug rfl rfl rfl <| Q4 <| Q3 <| QA ?_
 have e := Uc h0; subst e
 exact hQ0 _ _ WS rfl (show StLe _ _ ⟨[(7, .v (.one (Uy false)))], m91f3_h12 a2 y2 a4 a5 a6, [], 12, 50, []⟩ from (Ub (Nat.le_trans hv0 (Um rfl)) rfl rfl rfl rfl rfl))
theorem m91f3_all (n : Nat) (u : Tm × Int × Tm × Int × Scp × Int × Tm) (r : (Int × Int) ⊕ (Bool × Int)) (h0 : Yt m91f3F n u = some r) : CallE Try.prog 91 [.agg (UA u.1), .one (Ux u.2.1), .one (.ptr 0 0), .one (.ptr 8 0), .one (.ptr 9 0)] ⟨Kp u.2.2.1 u.2.2.2.1 u.2.2.2.2.1 u.2.2.2.2.2.1 u.2.2.2.2.2.2, [], 10⟩ ((Sum.elim (fun (r0 : Int × Int) => ((.ret [.one (Uy false)]) : EK)) (fun (r1 : Bool × Int) => ((.ret [.one (Uy r1.1)]) : EK))) r) ⟨((Sum.elim (fun (r0 : Int × Int) => (⟨[(7, .v (.one (Uy false)))], [(0, .cells 132 [.yld 1]), (1, Yd), (2, .obj (.deferred (some []))), (3, .cells 33 (UA u.2.2.1)), (4, .cells 25 [Ux r0.1]), (5, .cells 127 (UA u.2.2.2.2.1)), (6, .cells 3 [Ux r0.2]), (7, .cells 33 (UA u.2.2.2.2.2.2)), (8, J6), (9, .cells 137 [.fn 91 [(0, 0), (8, 0), (9, 0)]])], [], 12, 50, []⟩ : St)) (fun (r1 : Bool × Int) => (⟨[(7, .v (.one (Uy r1.1)))], [(0, .cells 132 [.yld 1]), (1, JF), (2, .obj (.deferred (some []))), (3, .cells 33 (UA u.2.2.1)), (4, .cells 25 [Ux u.2.2.2.1]), (5, .cells 127 (UA u.2.2.2.2.1)), (6, .cells 3 [Ux r1.2]), (7, .cells 33 (UA u.2.2.2.2.2.2)), (8, J6), (9, .cells 137 [.fn 91 [(0, 0), (8, 0), (9, 0)]])], [], 12, 50, []⟩ : St))) r).hp, ((Sum.elim (fun (r0 : Int × Int) => (⟨[(7, .v (.one (Uy false)))], [(0, .cells 132 [.yld 1]), (1, Yd), (2, .obj (.deferred (some []))), (3, .cells 33 (UA u.2.2.1)), (4, .cells 25 [Ux r0.1]), (5, .cells 127 (UA u.2.2.2.2.1)), (6, .cells 3 [Ux r0.2]), (7, .cells 33 (UA u.2.2.2.2.2.2)), (8, J6), (9, .cells 137 [.fn 91 [(0, 0), (8, 0), (9, 0)]])], [], 12, 50, []⟩ : St)) (fun (r1 : Bool × Int) => (⟨[(7, .v (.one (Uy r1.1)))], [(0, .cells 132 [.yld 1]), (1, JF), (2, .obj (.deferred (some []))), (3, .cells 33 (UA u.2.2.1)), (4, .cells 25 [Ux u.2.2.2.1]), (5, .cells 127 (UA u.2.2.2.2.1)), (6, .cells 3 [Ux r1.2]), (7, .cells 33 (UA u.2.2.2.2.2.2)), (8, J6), (9, .cells 137 [.fn 91 [(0, 0), (8, 0), (9, 0)]])], [], 12, 50, []⟩ : St))) r).tk, ((Sum.elim (fun (r0 : Int × Int) => (⟨[(7, .v (.one (Uy false)))], [(0, .cells 132 [.yld 1]), (1, Yd), (2, .obj (.deferred (some []))), (3, .cells 33 (UA u.2.2.1)), (4, .cells 25 [Ux r0.1]), (5, .cells 127 (UA u.2.2.2.2.1)), (6, .cells 3 [Ux r0.2]), (7, .cells 33 (UA u.2.2.2.2.2.2)), (8, J6), (9, .cells 137 [.fn 91 [(0, 0), (8, 0), (9, 0)]])], [], 12, 50, []⟩ : St)) (fun (r1 : Bool × Int) => (⟨[(7, .v (.one (Uy r1.1)))], [(0, .cells 132 [.yld 1]), (1, JF), (2, .obj (.deferred (some []))), (3, .cells 33 (UA u.2.2.1)), (4, .cells 25 [Ux u.2.2.2.1]), (5, .cells 127 (UA u.2.2.2.2.1)), (6, .cells 3 [Ux r1.2]), (7, .cells 33 (UA u.2.2.2.2.2.2)), (8, J6), (9, .cells 137 [.fn 91 [(0, 0), (8, 0), (9, 0)]])], [], 12, 50, []⟩ : St))) r).nx⟩ :=
 YB (C := fun u r => CallE Try.prog 91 [.agg (UA u.1), .one (Ux u.2.1), .one (.ptr 0 0), .one (.ptr 8 0), .one (.ptr 9 0)] ⟨Kp u.2.2.1 u.2.2.2.1 u.2.2.2.2.1 u.2.2.2.2.2.1 u.2.2.2.2.2.2, [], 10⟩ ((Sum.elim (fun (r0 : Int × Int) => ((.ret [.one (Uy false)]) : EK)) (fun (r1 : Bool × Int) => ((.ret [.one (Uy r1.1)]) : EK))) r) ⟨((Sum.elim (fun (r0 : Int × Int) => (⟨[(7, .v (.one (Uy false)))], [(0, .cells 132 [.yld 1]), (1, Yd), (2, .obj (.deferred (some []))), (3, .cells 33 (UA u.2.2.1)), (4, .cells 25 [Ux r0.1]), (5, .cells 127 (UA u.2.2.2.2.1)), (6, .cells 3 [Ux r0.2]), (7, .cells 33 (UA u.2.2.2.2.2.2)), (8, J6), (9, .cells 137 [.fn 91 [(0, 0), (8, 0), (9, 0)]])], [], 12, 50, []⟩ : St)) (fun (r1 : Bool × Int) => (⟨[(7, .v (.one (Uy r1.1)))], [(0, .cells 132 [.yld 1]), (1, JF), (2, .obj (.deferred (some []))), (3, .cells 33 (UA u.2.2.1)), (4, .cells 25 [Ux u.2.2.2.1]), (5, .cells 127 (UA u.2.2.2.2.1)), (6, .cells 3 [Ux r1.2]), (7, .cells 33 (UA u.2.2.2.2.2.2)), (8, J6), (9, .cells 137 [.fn 91 [(0, 0), (8, 0), (9, 0)]])], [], 12, 50, []⟩ : St))) r).hp, ((Sum.elim (fun (r0 : Int × Int) => (⟨[(7, .v (.one (Uy false)))], [(0, .cells 132 [.yld 1]), (1, Yd), (2, .obj (.deferred (some []))), (3, .cells 33 (UA u.2.2.1)), (4, .cells 25 [Ux r0.1]), (5, .cells 127 (UA u.2.2.2.2.1)), (6, .cells 3 [Ux r0.2]), (7, .cells 33 (UA u.2.2.2.2.2.2)), (8, J6), (9, .cells 137 [.fn 91 [(0, 0), (8, 0), (9, 0)]])], [], 12, 50, []⟩ : St)) (fun (r1 : Bool × Int) => (⟨[(7, .v (.one (Uy r1.1)))], [(0, .cells 132 [.yld 1]), (1, JF), (2, .obj (.deferred (some []))), (3, .cells 33 (UA u.2.2.1)), (4, .cells 25 [Ux u.2.2.2.1]), (5, .cells 127 (UA u.2.2.2.2.1)), (6, .cells 3 [Ux r1.2]), (7, .cells 33 (UA u.2.2.2.2.2.2)), (8, J6), (9, .cells 137 [.fn 91 [(0, 0), (8, 0), (9, 0)]])], [], 12, 50, []⟩ : St))) r).tk, ((Sum.elim (fun (r0 : Int × Int) => (⟨[(7, .v (.one (Uy false)))], [(0, .cells 132 [.yld 1]), (1, Yd), (2, .obj (.deferred (some []))), (3, .cells 33 (UA u.2.2.1)), (4, .cells 25 [Ux r0.1]), (5, .cells 127 (UA u.2.2.2.2.1)), (6, .cells 3 [Ux r0.2]), (7, .cells 33 (UA u.2.2.2.2.2.2)), (8, J6), (9, .cells 137 [.fn 91 [(0, 0), (8, 0), (9, 0)]])], [], 12, 50, []⟩ : St)) (fun (r1 : Bool × Int) => (⟨[(7, .v (.one (Uy r1.1)))], [(0, .cells 132 [.yld 1]), (1, JF), (2, .obj (.deferred (some []))), (3, .cells 33 (UA u.2.2.1)), (4, .cells 25 [Ux u.2.2.2.1]), (5, .cells 127 (UA u.2.2.2.2.1)), (6, .cells 3 [Ux r1.2]), (7, .cells 33 (UA u.2.2.2.2.2.2)), (8, J6), (9, .cells 137 [.fn 91 [(0, 0), (8, 0), (9, 0)]])], [], 12, 50, []⟩ : St))) r).nx⟩) (fun rc H u r h => m91f3s_ok rc (fun a0 a1 a2 a3 a4 a5 a6 r h => H (a0, a1, a2, a3, a4, a5, a6) r h) u.1 u.2.1 u.2.2.1 u.2.2.2.1 u.2.2.2.2.1 u.2.2.2.2.2.1 u.2.2.2.2.2.2 r h) n u r h0
theorem m91f3_ok (a0 : Tm) (a1 : Int) (a2 : Tm) (a3 : Int) (a4 : Scp) (a5 : Int) (a6 : Tm) (r : (Int × Int) ⊕ (Bool × Int)) (h0 : m91f3 a0 a1 a2 a3 a4 a5 a6 = some r) : CallE Try.prog 91 [.agg (UA a0), .one (Ux a1), .one (.ptr 0 0), .one (.ptr 8 0), .one (.ptr 9 0)] ⟨Kp a2 a3 a4 a5 a6, [], 10⟩ ((Sum.elim (fun (r0 : Int × Int) => ((.ret [.one (Uy false)]) : EK)) (fun (r1 : Bool × Int) => ((.ret [.one (Uy r1.1)]) : EK))) r) ⟨((Sum.elim (fun (r0 : Int × Int) => (⟨[(7, .v (.one (Uy false)))], [(0, .cells 132 [.yld 1]), (1, Yd), (2, .obj (.deferred (some []))), (3, .cells 33 (UA a2)), (4, .cells 25 [Ux r0.1]), (5, .cells 127 (UA a4)), (6, .cells 3 [Ux r0.2]), (7, .cells 33 (UA a6)), (8, J6), (9, .cells 137 [.fn 91 [(0, 0), (8, 0), (9, 0)]])], [], 12, 50, []⟩ : St)) (fun (r1 : Bool × Int) => (⟨[(7, .v (.one (Uy r1.1)))], [(0, .cells 132 [.yld 1]), (1, JF), (2, .obj (.deferred (some []))), (3, .cells 33 (UA a2)), (4, .cells 25 [Ux a3]), (5, .cells 127 (UA a4)), (6, .cells 3 [Ux r1.2]), (7, .cells 33 (UA a6)), (8, J6), (9, .cells 137 [.fn 91 [(0, 0), (8, 0), (9, 0)]])], [], 12, 50, []⟩ : St))) r).hp, ((Sum.elim (fun (r0 : Int × Int) => (⟨[(7, .v (.one (Uy false)))], [(0, .cells 132 [.yld 1]), (1, Yd), (2, .obj (.deferred (some []))), (3, .cells 33 (UA a2)), (4, .cells 25 [Ux r0.1]), (5, .cells 127 (UA a4)), (6, .cells 3 [Ux r0.2]), (7, .cells 33 (UA a6)), (8, J6), (9, .cells 137 [.fn 91 [(0, 0), (8, 0), (9, 0)]])], [], 12, 50, []⟩ : St)) (fun (r1 : Bool × Int) => (⟨[(7, .v (.one (Uy r1.1)))], [(0, .cells 132 [.yld 1]), (1, JF), (2, .obj (.deferred (some []))), (3, .cells 33 (UA a2)), (4, .cells 25 [Ux a3]), (5, .cells 127 (UA a4)), (6, .cells 3 [Ux r1.2]), (7, .cells 33 (UA a6)), (8, J6), (9, .cells 137 [.fn 91 [(0, 0), (8, 0), (9, 0)]])], [], 12, 50, []⟩ : St))) r).tk, ((Sum.elim (fun (r0 : Int × Int) => (⟨[(7, .v (.one (Uy false)))], [(0, .cells 132 [.yld 1]), (1, Yd), (2, .obj (.deferred (some []))), (3, .cells 33 (UA a2)), (4, .cells 25 [Ux r0.1]), (5, .cells 127 (UA a4)), (6, .cells 3 [Ux r0.2]), (7, .cells 33 (UA a6)), (8, J6), (9, .cells 137 [.fn 91 [(0, 0), (8, 0), (9, 0)]])], [], 12, 50, []⟩ : St)) (fun (r1 : Bool × Int) => (⟨[(7, .v (.one (Uy r1.1)))], [(0, .cells 132 [.yld 1]), (1, JF), (2, .obj (.deferred (some []))), (3, .cells 33 (UA a2)), (4, .cells 25 [Ux a3]), (5, .cells 127 (UA a4)), (6, .cells 3 [Ux r1.2]), (7, .cells 33 (UA a6)), (8, J6), (9, .cells 137 [.fn 91 [(0, 0), (8, 0), (9, 0)]])], [], 12, 50, []⟩ : St))) r).nx⟩ := m91f3_all J2 (a0, a1, a2, a3, a4, a5, a6) r h0
noncomputable abbrev m66_h0 (p0_ : Int) (p1_ : Int) (p2_ : Int) (p3_ : Int) : HB :=
 .cells 127 [Ux (max p0_ 0), Ux (max p1_ 0), Ux (max p2_ 0), Ux (max p3_ 0)]
noncomputable abbrev m66_h1 (p0_ : Tm) (p1_ : Int) (p2_ : Int) (p3_ : Int) (p4_ : Int) : List (Nat × HB) :=
 [(0, .cells 33 (UA p0_)), (1, .cells 25 [Ux 0]), (2, m66_h0 p1_ p2_ p3_ p4_), (3, .cells 3 [Ux 0])]
noncomputable abbrev m66_h2 (p0_ : Tm) (p1_ : Int) (p2_ : Int) (p3_ : Int) (p4_ : Int) : List (Nat × HB) :=
 [(0, .cells 33 (UA p0_)), (1, .cells 25 [Ux 0]), (2, m66_h0 p1_ p2_ p3_ p4_), (3, .cells 3 [Ux 0]), (4, .cells 33 (UA p0_))]
noncomputable abbrev m66_h3 (p0_ : Int) (p1_ : Int) (p2_ : Int) (p3_ : Int) : HB :=
 .cells 127 [Ux ((⟨(max p0_ 0), (max p1_ 0), (max p2_ 0), (max p3_ 0)⟩ : Scp).vars), Ux ((⟨(max p0_ 0), (max p1_ 0), (max p2_ 0), (max p3_ 0)⟩ : Scp).params), Ux ((⟨(max p0_ 0), (max p1_ 0), (max p2_ 0), (max p3_ 0)⟩ : Scp).metas), Ux ((⟨(max p0_ 0), (max p1_ 0), (max p2_ 0), (max p3_ 0)⟩ : Scp).levels)]
noncomputable abbrev m66_h4  : HB :=
 .loop .ready none [(5, .v (.one (.ptr 0 0))), (10, .v (.one (.ptr 1 0))), (11, .v (.one (.ptr 2 0))), (12, .v (.one (.ptr 3 0))), (26, .v (.one (.fn 89 [(4, 0)])))] 45 #[27, 28] ZD Z2 5
noncomputable abbrev GA (p0_ : Tm) (p1_ : Int) (p2_ : Int) (p3_ : Int) (p4_ : Int) (p5_ : Int) : List (Nat × HB) :=
 [(0, .cells 33 (UA p0_)), (1, .cells 25 [Ux 0]), (2, m66_h3 p1_ p2_ p3_ p4_), (3, .cells 3 [Ux p5_]), (4, .cells 33 (UA p0_)), (5, .obj (.deferred (some []))), (6, m66_h4)]
noncomputable abbrev m66_h6  : HB :=
 .loop .done (some .ret) [(5, .v (.one (.ptr 0 0))), (10, .v (.one (.ptr 1 0))), (11, .v (.one (.ptr 2 0))), (12, .v (.one (.ptr 3 0))), (26, .v (.one (.fn 89 [(4, 0)])))] 45 #[27, 28] ZD Z2 5
noncomputable abbrev Gj (p0_ : Tm) (p1_ : Int × Int) (p2_ : Int) (p3_ : Int) (p4_ : Int) (p5_ : Int) : List (Nat × HB) :=
 [(0, .cells 33 (UA p0_)), (1, .cells 25 [Ux p1_.1]), (2, m66_h3 p2_ p3_ p4_ p5_), (3, .cells 3 [Ux p1_.2]), (4, .cells 33 (UA p0_)), (5, .obj (.deferred (some []))), (6, m66_h6)]
noncomputable abbrev m66_h8 (p0_ : Tm) (p1_ : Int) (p2_ : Int) (p3_ : Int) (p4_ : Int) : List (Nat × HB) :=
 [(0, .cells 33 (UA p0_)), (1, .cells 25 [Ux 0]), (2, m66_h0 p1_ p2_ p3_ p4_), (3, .cells 3 [Ux 0]), (4, .cells 33 (UA p0_)), (5, .obj (.deferred (some []))), (6, m66_h4), (7, .cells 132 [.yld 6])]
noncomputable abbrev m66_h9  : HB :=
 .cells 135 [Uy true, Uy false, Ux 0, Ux 0, Ux (-1), Uy false, Uy false, Ux 0, Ux 0, Ux (-1), Uy false, Uy false, Ux 1, Ux 0, Ux (-1), Uy false, Uy true, Ux (-1), Ux 0, Ux (-1), Uy false, Uy false, Ux 0, Ux 2, Ux (-1), Uy false, Uy false, Ux 0, Ux 2, Ux 1, Uy false, Uy false, Ux 0, Ux 2, Ux 1, Uy false, Uy false, Ux 0, Ux 2, Ux 1, Uy false, Uy false, Ux 0, Ux 3, Ux (-1), Uy false, Uy false, Ux 0, Ux 1, Ux (-1), Uy false, Uy false, Ux 0, Ux 1, Ux (-1), Uy false, Uy false, Ux 0, Ux 3, Ux 2, Uy true, Uy false, Ux 0, Ux 0, Ux (-1)]
noncomputable abbrev m66_h10 (p0_ : Tm) (p1_ : Int) (p2_ : Int) (p3_ : Int) (p4_ : Int) : List (Nat × HB) :=
 [(0, .cells 33 (UA p0_)), (1, .cells 25 [Ux 0]), (2, m66_h0 p1_ p2_ p3_ p4_), (3, .cells 3 [Ux 0]), (4, .cells 33 (UA p0_)), (5, .obj (.deferred (some []))), (6, m66_h4), (7, .cells 132 [.yld 6]), (8, m66_h9)]
noncomputable abbrev m66_h11 (p0_ : Tm) (p1_ : Int) (p2_ : Int) (p3_ : Int) (p4_ : Int) (p5_ : Bool × Int) : List (Nat × HB) :=
 [(0, .cells 33 (UA p0_)), (1, .cells 25 [Ux 0]), (2, m66_h3 p1_ p2_ p3_ p4_), (3, .cells 3 [Ux p5_.2]), (4, .cells 33 (UA p0_)), (5, .obj (.deferred (some []))), (6, m66_h4)]
def m66 (a0 : Tm) (a1 : Int) (a2 : Int) (a3 : Int) (a4 : Int) : Option Int :=
 Option.bind (some ()) (fun (y1 : Unit) => Option.bind (Option.bind (some ()) (fun (y7 : Unit) => Option.bind (m91f3 a0 0 a0 0 (⟨(max a1 0), (max a2 0), (max a3 0), (max a4 0)⟩ : Scp) 0 a0) (Sum.elim (fun (x10 : Int × Int) => some (.inr (x10.1, x10.2))) (fun (x11 : Bool × Int) => some (.inl x11.2))))) (Sum.elim (fun (y3 : Int) => cond (decide (4096 < y3))
   (some 5)
   (Option.bind (m81 a0) fun (x13 : Int) =>
 cond (decide (200 < x13))
   (some 7)
   (some 0))) (fun (y4 : Int × Int) => some y4.1)))
set_option maxRecDepth 100000 in
set_option maxHeartbeats 2000000 in
theorem m66_ok (a0 : Tm) (a1 : Int) (a2 : Int) (a3 : Int) (a4 : Int) (r : Int) (h0 : m66 a0 a1 a2 a3 a4 = some r) : Fun Try.prog 66 [.agg (UA a0), .one (Ux a1), .one (Ux a2), .one (Ux a3), .one (Ux a4)] (QD [.one (Ux r)]) := by
 unfold m66 at h0
 refine QY 9 45 Try.func66 rfl en_66 rfl (Um rfl) (fun S w => ?_)
 simp only [J7]
 refine Q5 <| Q0 <| Q9 rfl rfl (Um rfl) (QN rfl) <| Q9 rfl rfl (Um rfl) (Qm z_25 rfl) <| Q4 <| Q3 <| Q5 <| Q0 <| Uf rfl rfl rfl <| Ue rfl rfl rfl (Gq rfl rfl) <| Uf rfl rfl rfl <| Ue rfl rfl rfl (Gq rfl rfl) <| Uf rfl rfl rfl <| Ue rfl rfl rfl (Gq rfl rfl) ?_
 refine Uf rfl rfl rfl <| Ue rfl rfl rfl (Gq rfl rfl) <| Ue rfl rfl rfl (Y1 bd_127 rfl (.cons rfl (.cons rfl (.cons rfl (.cons rfl .nil)))) rfl) <| Q9 rfl rfl (Um rfl) (Qm z_127 rfl) <| Qy rfl rfl (Qr ag_127 rfl rfl rfl rfl (Um rfl) rfl) <| Q4 <| Q3 <| Q5 <| Q0 <| Q9 rfl rfl (Um rfl) (Qm U4 rfl) <| Qy rfl rfl (Qr QZ rfl rfl rfl rfl (Um rfl) rfl) <| Q4 <| Q3 <| Q5 ?_
 refine Q5 <| Q0 <| Ue rfl rfl rfl (QK (a0 : Tm) QW rfl rfl) ?_
 refine Qb h0 (fun y1 h1 h0 => ?_)
 have hc2 : CallM Try.prog 74 [.agg (UA a0)] ⟨m66_h1 a0 a1 a2 a3 a4, [], 4⟩ (QD [.one (.fn 89 [(4, 0)])]) ⟨m66_h2 a0 a1 a2 a3 a4, [], 5⟩ := by
  refine QT ⟨[(2, .v (.one (.fn 89 [(4, 0)])))], m66_h2 a0 a1 a2 a3 a4, [], 5, 4, []⟩ rfl rfl en_74 (Um rfl) rfl (Qz rfl .nil) (fun w0 M V0 Q hv1 hQ1 => ?_)
  simp only [J7]
  refine Q5 <| Q0 <| Q9 rfl rfl (Um rfl) (QN rfl) <| Ug rfl rfl rfl <| Q4 <| Q3 <| Q5 <| Q0 <| Ue rfl rfl rfl (YQ rfl) <| Ug rfl rfl rfl <| Q4 <| Q3 <| QA ?_
  have e := Uc h1; subst e
  exact hQ1 _ _ _ (.inr rfl) rfl (Ub (Nat.le_trans hv1 (Um rfl)) rfl rfl rfl rfl rfl)
 refine Q9 rfl rfl (Um rfl) (JM rfl rfl rfl hc2 rfl (hA rfl) Un) <| Q4 <| Q3 <| Qf <| Km (st' := ⟨[(5, .v (.one (.ptr 0 0))), (10, .v (.one (.ptr 1 0))), (11, .v (.one (.ptr 2 0))), (12, .v (.one (.ptr 3 0))), (26, .v (.one (.fn 89 [(4, 0)])))], m66_h2 a0 a1 a2 a3 a4, [], 5, 45, []⟩) (Ub (Nat.zero_le _) rfl rfl rfl rfl rfl) ?_
 refine Qb h0 (fun y6 h1 h0 => ?_)
 have hc5 : CallM Try.prog 89 [.one (.yld 6), .one (.ptr 4 0)] ⟨[(6, .loop .ready none [(5, .v (.one (.ptr 0 0))), (10, .v (.one (.ptr 1 0))), (11, .v (.one (.ptr 2 0))), (12, .v (.one (.ptr 3 0))), (26, .v (.one (.fn 89 [(4, 0)])))] 45 #[27, 28] ZD Z2 5), (5, .obj (.deferred (some []))), (0, .cells 33 (UA a0)), (1, .cells 25 [Ux 0]), (2, .cells 127 [Ux (max a1 0), Ux (max a2 0), Ux (max a3 0), Ux (max a4 0)]), (3, .cells 3 [Ux 0]), (4, .cells 33 (UA a0))], [], 7⟩ (QD []) ⟨(((Sum.elim (fun (y3 : Int) => (⟨[], GA a0 a1 a2 a3 a4 y3, [], 13, 10, []⟩ : St)) (fun (y4 : Int × Int) => (⟨[], Gj a0 y4 a1 a2 a3 a4, [], 13, 10, []⟩ : St)))) y6).hp, (((Sum.elim (fun (y3 : Int) => (⟨[], GA a0 a1 a2 a3 a4 y3, [], 13, 10, []⟩ : St)) (fun (y4 : Int × Int) => (⟨[], Gj a0 y4 a1 a2 a3 a4, [], 13, 10, []⟩ : St)))) y6).tk, (((Sum.elim (fun (y3 : Int) => (⟨[], GA a0 a1 a2 a3 a4 y3, [], 13, 10, []⟩ : St)) (fun (y4 : Int × Int) => (⟨[], Gj a0 y4 a1 a2 a3 a4, [], 13, 10, []⟩ : St)))) y6).nx⟩ := by
  refine CallM.of_bodyS y6 ((Sum.elim (fun (y3 : Int) => (⟨[], GA a0 a1 a2 a3 a4 y3, [], 13, 10, []⟩ : St)) (fun (y4 : Int × Int) => (⟨[], Gj a0 y4 a1 a2 a3 a4, [], 13, 10, []⟩ : St)))) rfl rfl en_89 (Um rfl) (fun z_ => by cases z_ <;> rfl) (fun z_ => .nil) (fun w0 M V0 Q hv1 hQ1 => ?_)
  simp only [J7]
  refine Q5 <| Q0 <| Q9 rfl rfl (Um rfl) (QN rfl) <| Q4 <| Q3 <| Q5 <| Q0 ?_
  refine Qb h1 (fun y7 h2 h1 => ?_)
  have hc8 : CallM Try.prog 90 [] ⟨m66_h8 a0 a1 a2 a3 a4, [], 8⟩ (QD [.agg [Uy true, Uy false, Ux 0, Ux 0, Ux (-1), Uy false, Uy false, Ux 0, Ux 0, Ux (-1), Uy false, Uy false, Ux 1, Ux 0, Ux (-1), Uy false, Uy true, Ux (-1), Ux 0, Ux (-1), Uy false, Uy false, Ux 0, Ux 2, Ux (-1), Uy false, Uy false, Ux 0, Ux 2, Ux 1, Uy false, Uy false, Ux 0, Ux 2, Ux 1, Uy false, Uy false, Ux 0, Ux 2, Ux 1, Uy false, Uy false, Ux 0, Ux 3, Ux (-1), Uy false, Uy false, Ux 0, Ux 1, Ux (-1), Uy false, Uy false, Ux 0, Ux 1, Ux (-1), Uy false, Uy false, Ux 0, Ux 3, Ux 2, Uy true, Uy false, Ux 0, Ux 0, Ux (-1)]]) ⟨m66_h10 a0 a1 a2 a3 a4, [], 9⟩ := by
   refine QT ⟨[(0, .v (.one (.ptr 8 0)))], m66_h10 a0 a1 a2 a3 a4, [], 9, 15, []⟩ rfl rfl en_90 (Um rfl) rfl (Z0 GU rfl rfl rfl rfl .nil) (fun w0 M V0 Q hv2 hQ2 => ?_)
   simp only [J7]
   refine Q5 <| Q0 <| Q9 rfl rfl (Um rfl) (Qm Ws rfl) <| Q4 <| Q3 <| Q5 <| Q0 <| Ue rfl rfl rfl (J9 JD rfl rfl rfl rfl) <| Ue rfl rfl rfl (Gf JD rfl rfl rfl) <| Ue rfl rfl rfl (J9 JD rfl rfl rfl rfl) <| Ue rfl rfl rfl (ZA JD rfl rfl rfl rfl rfl) <| Ue rfl rfl rfl (J9 JD rfl rfl rfl rfl) <| Ue rfl rfl rfl (J9 JD rfl rfl rfl rfl) <| Ue rfl rfl rfl (J9 JD rfl rfl rfl rfl) ?_
   refine Ue rfl rfl rfl (J9 JD rfl rfl rfl rfl) <| Ue rfl rfl rfl (J9 JD rfl rfl rfl rfl) <| Ue rfl rfl rfl (J9 JD rfl rfl rfl rfl) <| Ue rfl rfl rfl (J9 JD rfl rfl rfl rfl) <| Ue rfl rfl rfl (J9 JD rfl rfl rfl rfl) <| Ue rfl rfl rfl (J9 JD rfl rfl rfl rfl) <| Ue rfl rfl rfl (Y1 bd_135 rfl (.cons rfl (.cons rfl (.cons rfl (.cons rfl (.cons rfl (.cons rfl (.cons rfl (.cons rfl (.cons rfl (.cons rfl (.cons rfl (.cons rfl (.cons rfl .nil))))))))))))) rfl) <| Qy rfl rfl (Yw GU rfl rfl rfl rfl rfl rfl) <| Q4 <| Q3 <| QA ?_
   have e := Uc h2; subst e
   exact hQ2 _ _ _ (.inr rfl) rfl (Ub (Nat.le_trans hv2 (Um rfl)) rfl rfl rfl rfl rfl)
  refine Q9 rfl rfl (Um rfl) (JM rfl rfl rfl hc8 rfl (hA rfl) Un) <| Q9 rfl rfl (Um rfl) (Qm Ws rfl) <| Qy rfl rfl (Yw GU rfl rfl rfl rfl rfl rfl) <| Q4 <| Q3 <| Q5 <| Q0 <| Q9 rfl rfl (Um rfl) (Qm z_137 rfl) <| Q4 <| Q3 <| Q5 <| Q0 <| Ue rfl rfl rfl (RO.makeFunc3 rfl rfl rfl) <| Qy rfl rfl (Qr XY rfl rfl rfl rfl (Um rfl) rfl) ?_
  refine Q4 <| Q3 <| Q0 <| Ue rfl rfl rfl (Q6 XY rfl rfl rfl) <| Ue rfl rfl rfl (QK (a0 : Tm) QW rfl rfl) ?_
  refine Qb h1 (fun x9 hx9 h1 => ?_)
  refine JY id hx9 h1 (fun x10 hx10 h1 => ?_) (fun x11 hx11 h1 => ?_)
  refine Q9 rfl rfl (Um rfl) (J4 (hp1' := [(7, .cells 132 [.yld 6]), (6, .loop .done (some .ret) [(5, .v (.one (.ptr 0 0))), (10, .v (.one (.ptr 1 0))), (11, .v (.one (.ptr 2 0))), (12, .v (.one (.ptr 3 0))), (26, .v (.one (.fn 89 [(4, 0)])))] 45 #[27, 28] ZD Z2 5), (5, .obj (.deferred (some []))), (0, .cells 33 (UA a0)), (1, .cells 25 [Ux x10.1]), (2, .cells 127 [Ux ((⟨(max a1 0), (max a2 0), (max a3 0), (max a4 0)⟩ : Scp).vars), Ux ((⟨(max a1 0), (max a2 0), (max a3 0), (max a4 0)⟩ : Scp).params), Ux ((⟨(max a1 0), (max a2 0), (max a3 0), (max a4 0)⟩ : Scp).metas), Ux ((⟨(max a1 0), (max a2 0), (max a3 0), (max a4 0)⟩ : Scp).levels)]), (3, .cells 3 [Ux x10.2]), (4, .cells 33 (UA a0)), (9, .cells 135 [Uy true, Uy false, Ux 0, Ux 0, Ux (-1), Uy false, Uy false, Ux 0, Ux 0, Ux (-1), Uy false, Uy false, Ux 1, Ux 0, Ux (-1), Uy false, Uy true, Ux (-1), Ux 0, Ux (-1), Uy false, Uy false, Ux 0, Ux 2, Ux (-1), Uy false, Uy false, Ux 0, Ux 2, Ux 1, Uy false, Uy false, Ux 0, Ux 2, Ux 1, Uy false, Uy false, Ux 0, Ux 2, Ux 1, Uy false, Uy false, Ux 0, Ux 3, Ux (-1), Uy false, Uy false, Ux 0, Ux 1, Ux (-1), Uy false, Uy false, Ux 0, Ux 1, Ux (-1), Uy false, Uy false, Ux 0, Ux 3, Ux 2, Uy true, Uy false, Ux 0, Ux 0, Ux (-1)]), (10, .cells 137 [.fn 91 [(7, 0), (9, 0), (10, 0)]])]) (tk1' := []) (hpF := [(8, m66_h9)]) (tkF := []) (res2 := QD [.one (Uy false)]) (nx2 := 13) [7, 6, 5, 0, 1, 2, 3, 4, 9, 10] rfl rfl (CallE.m (m91f3_ok a0 0 a0 0 (⟨(max a1 0), (max a2 0), (max a3 0), (max a4 0)⟩ : Scp) 0 a0 (.inl x10) hx10)) rfl rfl (Uj rfl rfl (Uj rfl rfl (Uj rfl rfl (Uj rfl rfl (Uj rfl rfl (Uj rfl rfl (Uj rfl rfl (Uj rfl rfl (Uj rfl rfl (Uj rfl rfl Uh)))))))))) rfl rfl (Ut rfl (Ut rfl (Ut rfl (Ut rfl (Ut rfl (Ut rfl (Ut rfl (Ut rfl (Ut rfl (Ut rfl Us)))))))))) Up (hA rfl) Un rfl rfl rfl rfl rfl (UG rfl) rfl rfl rfl rfl) <| Q4 ?_
  have e := Uc h1; subst e
  exact hQ1 _ _ _ (.inl rfl) rfl (show StLe _ _ ⟨[], Gj a0 x10 a1 a2 a3 a4, [], 13, 10, []⟩ from (Ub (Nat.le_trans hv1 (Um rfl)) rfl rfl rfl rfl rfl))
  refine Q9 rfl rfl (Um rfl) (J4 (hp1' := [(7, .cells 132 [.yld 6]), (6, .loop .ready none [(5, .v (.one (.ptr 0 0))), (10, .v (.one (.ptr 1 0))), (11, .v (.one (.ptr 2 0))), (12, .v (.one (.ptr 3 0))), (26, .v (.one (.fn 89 [(4, 0)])))] 45 #[27, 28] ZD Z2 5), (5, .obj (.deferred (some []))), (0, .cells 33 (UA a0)), (1, .cells 25 [Ux 0]), (2, .cells 127 [Ux ((⟨(max a1 0), (max a2 0), (max a3 0), (max a4 0)⟩ : Scp).vars), Ux ((⟨(max a1 0), (max a2 0), (max a3 0), (max a4 0)⟩ : Scp).params), Ux ((⟨(max a1 0), (max a2 0), (max a3 0), (max a4 0)⟩ : Scp).metas), Ux ((⟨(max a1 0), (max a2 0), (max a3 0), (max a4 0)⟩ : Scp).levels)]), (3, .cells 3 [Ux x11.2]), (4, .cells 33 (UA a0)), (9, .cells 135 [Uy true, Uy false, Ux 0, Ux 0, Ux (-1), Uy false, Uy false, Ux 0, Ux 0, Ux (-1), Uy false, Uy false, Ux 1, Ux 0, Ux (-1), Uy false, Uy true, Ux (-1), Ux 0, Ux (-1), Uy false, Uy false, Ux 0, Ux 2, Ux (-1), Uy false, Uy false, Ux 0, Ux 2, Ux 1, Uy false, Uy false, Ux 0, Ux 2, Ux 1, Uy false, Uy false, Ux 0, Ux 2, Ux 1, Uy false, Uy false, Ux 0, Ux 3, Ux (-1), Uy false, Uy false, Ux 0, Ux 1, Ux (-1), Uy false, Uy false, Ux 0, Ux 1, Ux (-1), Uy false, Uy false, Ux 0, Ux 3, Ux 2, Uy true, Uy false, Ux 0, Ux 0, Ux (-1)]), (10, .cells 137 [.fn 91 [(7, 0), (9, 0), (10, 0)]])]) (tk1' := []) (hpF := [(8, m66_h9)]) (tkF := []) (res2 := QD [.one (Uy x11.1)]) (nx2 := 13) [7, 6, 5, 0, 1, 2, 3, 4, 9, 10] rfl rfl (CallE.m (m91f3_ok a0 0 a0 0 (⟨(max a1 0), (max a2 0), (max a3 0), (max a4 0)⟩ : Scp) 0 a0 (.inr x11) hx11)) rfl rfl (Uj rfl rfl (Uj rfl rfl (Uj rfl rfl (Uj rfl rfl (Uj rfl rfl (Uj rfl rfl (Uj rfl rfl (Uj rfl rfl (Uj rfl rfl (Uj rfl rfl Uh)))))))))) rfl rfl (Ut rfl (Ut rfl (Ut rfl (Ut rfl (Ut rfl (Ut rfl (Ut rfl (Ut rfl (Ut rfl (Ut rfl Us)))))))))) Up (hA rfl) Un rfl rfl rfl rfl rfl (UG rfl) rfl rfl rfl rfl) <| Q4 ?_
  have e := Uc h1; subst e
  exact hQ1 _ _ _ (.inl rfl) rfl (show StLe _ _ ⟨[], m66_h11 a0 a1 a2 a3 a4 x11, [], 13, 10, []⟩ from (Ub (Nat.le_trans hv1 (Um rfl)) rfl rfl rfl rfl rfl))
 refine XM (C := fun q_ => CallM Try.prog 89 [.one (.yld 6), .one (.ptr 4 0)] ⟨[(6, .loop .ready none [(5, .v (.one (.ptr 0 0))), (10, .v (.one (.ptr 1 0))), (11, .v (.one (.ptr 2 0))), (12, .v (.one (.ptr 3 0))), (26, .v (.one (.fn 89 [(4, 0)])))] 45 #[27, 28] ZD Z2 5), (5, .obj (.deferred (some []))), (0, .cells 33 (UA a0)), (1, .cells 25 [Ux 0]), (2, .cells 127 [Ux (max a1 0), Ux (max a2 0), Ux (max a3 0), Ux (max a4 0)]), (3, .cells 3 [Ux 0]), (4, .cells 33 (UA a0))], [], 7⟩ (QD []) ⟨(((Sum.elim (fun (y3 : Int) => (⟨[], GA a0 a1 a2 a3 a4 y3, [], 13, 10, []⟩ : St)) (fun (y4 : Int × Int) => (⟨[], Gj a0 y4 a1 a2 a3 a4, [], 13, 10, []⟩ : St)))) q_).hp, (((Sum.elim (fun (y3 : Int) => (⟨[], GA a0 a1 a2 a3 a4 y3, [], 13, 10, []⟩ : St)) (fun (y4 : Int × Int) => (⟨[], Gj a0 y4 a1 a2 a3 a4, [], 13, 10, []⟩ : St)))) q_).tk, (((Sum.elim (fun (y3 : Int) => (⟨[], GA a0 a1 a2 a3 a4 y3, [], 13, 10, []⟩ : St)) (fun (y4 : Int × Int) => (⟨[], Gj a0 y4 a1 a2 a3 a4, [], 13, 10, []⟩ : St)))) q_).nx⟩) hc5 h0 (fun y3 hc5 h0 => ?_) (fun y4 hc5 h0 => ?_)
 replace hc5 : CallM Try.prog 89 [.one (.yld 6), .one (.ptr 4 0)] ⟨[(6, .loop .ready none [(5, .v (.one (.ptr 0 0))), (10, .v (.one (.ptr 1 0))), (11, .v (.one (.ptr 2 0))), (12, .v (.one (.ptr 3 0))), (26, .v (.one (.fn 89 [(4, 0)])))] 45 #[27, 28] ZD Z2 5), (5, .obj (.deferred (some []))), (0, .cells 33 (UA a0)), (1, .cells 25 [Ux 0]), (2, .cells 127 [Ux (max a1 0), Ux (max a2 0), Ux (max a3 0), Ux (max a4 0)]), (3, .cells 3 [Ux 0]), (4, .cells 33 (UA a0))], [], 7⟩ (QD []) ⟨GA a0 a1 a2 a3 a4 y3, [], 13⟩ := hc5
 refine ZK (Y5 (e := .normal) rfl hc5 rfl rfl (by intro h; cases h) rfl) rfl ?_
 refine Qe <| Q3 <| Q5 <| Qf <| Q5 <| Q0 <| Ue rfl rfl rfl (Q6 QZ rfl rfl rfl) <| Ue rfl rfl rfl (Q7 rfl rfl rfl) <| Ug rfl rfl rfl <| Q4 <| Q3 ?_
 refine Qg (b := (decide (4096 < y3))) rfl (fun c12 => ?_) (fun c12 => ?_)
 replace h0 := Qk c12 h0
 refine Q5 <| Q0 <| Qy rfl rfl (Qr ZR rfl rfl rfl rfl (Um rfl) rfl) <| Q4 <| Q3 <| QA ?_
 have e := Uc h0; subst e
 exact QL (fun _ _ h => h) rfl (KM ZR rfl rfl rfl .nil) (.cons (.one (.d _)) .nil)
 replace h0 := Ql c12 h0
 refine Q5 <| Q0 <| Ue rfl rfl rfl (QK (a0 : Tm) QW rfl rfl) ?_
 refine Qb h0 (fun x13 hx13 h0 => ?_)
 refine Q9 rfl rfl (Um rfl) (Qo (m81_ok a0 x13 hx13) rfl (.cons (.agg (.cons (.d _) (.cons (.d _) (.cons (.d _) (.cons (.d _) (.cons (.d _) .nil)))))) .nil)) <| Ue rfl rfl rfl (Q7 rfl rfl rfl) <| Ug rfl rfl rfl <| Q4 <| Q3 ?_
 refine Qg (b := (decide (200 < x13))) rfl (fun c14 => ?_) (fun c14 => ?_)
 replace h0 := Qk c14 h0
 refine Q5 <| Q0 <| Qy rfl rfl (Qr ZR rfl rfl rfl rfl (Um rfl) rfl) <| Q4 <| Q3 <| QA ?_
 have e := Uc h0; subst e
 exact QL (fun _ _ h => h) rfl (KM ZR rfl rfl rfl .nil) (.cons (.one (.d _)) .nil)
 replace h0 := Ql c14 h0
 refine Qj <| Qe <| Q3 <| Q5 <| Q0 <| Qy rfl rfl (Qr ZR rfl rfl rfl rfl (Um rfl) rfl) <| Q4 <| Q3 <| QA ?_
 have e := Uc h0; subst e
 exact QL (fun _ _ h => h) rfl (KM ZR rfl rfl rfl .nil) (.cons (.one (.d _)) .nil)
 replace hc5 : CallM Try.prog 89 [.one (.yld 6), .one (.ptr 4 0)] ⟨[(6, .loop .ready none [(5, .v (.one (.ptr 0 0))), (10, .v (.one (.ptr 1 0))), (11, .v (.one (.ptr 2 0))), (12, .v (.one (.ptr 3 0))), (26, .v (.one (.fn 89 [(4, 0)])))] 45 #[27, 28] ZD Z2 5), (5, .obj (.deferred (some []))), (0, .cells 33 (UA a0)), (1, .cells 25 [Ux 0]), (2, .cells 127 [Ux (max a1 0), Ux (max a2 0), Ux (max a3 0), Ux (max a4 0)]), (3, .cells 3 [Ux 0]), (4, .cells 33 (UA a0))], [], 7⟩ (QD []) ⟨Gj a0 y4 a1 a2 a3 a4, [], 13⟩ := hc5
 refine ZK (Y5 (e := .ret) rfl hc5 rfl rfl (by intro h; cases h) rfl) rfl ?_
 have e := Uc h0; subst e
 exact QL (fun _ _ h => h) rfl (KM ZR rfl rfl rfl .nil) (.cons (.one (.d _)) .nil)
end Go.Proofs.Ytafddfoefeploaa
namespace Go.Proofs.Ytafddfoefeploaa
open Go.RowKit Go.Shelf
set_option linter.unusedSimpArgs false
set_option linter.unusedVariables false
theorem bd_33 : Yj Try.prog 33 [(0, 1), (1, 1), (2, 1), (3, 1), (4, 1)] [.int .i64 0, .int .i64 0, .string ByteArray.empty, .slice none 0 0, .slice none 0 0] := ⟨by kernel_rfl, by kernel_rfl⟩
theorem ip_124 : GO Try.prog 124 = true := by kernel_rfl
theorem en_63 : J3 Try.prog 63 := enters_of Try.func63 (by kernel_rfl) rfl
theorem en_78 : J3 Try.prog 78 := enters_of Try.func78 (by kernel_rfl) rfl
theorem en_93 : J3 Try.prog 93 := enters_of Try.func93 (by kernel_rfl) rfl
theorem en_94 : J3 Try.prog 94 := enters_of Try.func94 (by kernel_rfl) rfl
theorem en_95 : J3 Try.prog 95 := enters_of Try.func95 (by kernel_rfl) rfl
theorem en_102 : J3 Try.prog 102 := enters_of Try.func102 (by kernel_rfl) rfl
def m94_l0 (a0 : Lvl) (a1 : Lvl) (s3 : Int) : Option (LO Int (Unit ⊕ Bool)) :=
 cond (decide (s3 < (a0.vs.length : Int)))
   (Option.bind (Yi a0.vs s3) fun (x8 : UL) =>
 Option.bind (Yi a1.vs s3) fun (x9 : UL) =>
 cond (!((x8.1 == x9.1) && (x8.2 == x9.2)))
   (some (.done (.inr false)))
   (some (.next (Jk (s3 + 1)))))
   (some (.done (.inl ())))
def m94 (a0 : Lvl) (a1 : Lvl) : Option Bool :=
 Option.bind (cond (a0.c == a1.c)
   (Option.bind (cond ((a0.vs.length : Int) != (a1.vs.length : Int))
   (some false)
   (Option.bind (QV (m94_l0 a0 a1) J2 0) (Sum.elim (fun (o6 : Unit) => some true) (fun o => some o)))) (fun (y3 : Bool) => some y3))
   (some false)) (fun (v1 : Bool) => some v1)
set_option maxRecDepth 100000 in
set_option maxHeartbeats 2000000 in
theorem m94_ok (a0 : Lvl) (a1 : Lvl) (r : Bool) (h0 : m94 a0 a1 = some r) : Fun Try.prog 94 [.agg (UA a0), .agg (UA a1)] (QD [.one (Uy r)]) := by
 unfold m94 at h0
 refine QY 9 17 Try.func94 rfl en_94 rfl (Um rfl) (fun S w => ?_)
 simp only [J7]
 refine Q5 <| Q0 <| Q9 rfl rfl (Um rfl) (QN rfl) <| Q9 rfl rfl (Um rfl) (QN rfl) <| Ug rfl rfl rfl <| Q4 <| Q3 <| Q5 ?_
 refine QS (fun (v1 : Bool) => ⟨[(4, .v (.one (Uy v1)))], [(0, .cells 87 (UA a0)), (1, .cells 87 (UA a1))], [], 2, 17, []⟩) (fun (v1 : Bool) => (some v1) = some r) ?_ ?_
 refine Qb h0 (fun w1_ h1 h0 => ?_)
 refine Q0 <| Ue rfl rfl rfl (Q1 KS rfl) <| Ue rfl rfl rfl (Q6 QZ rfl rfl rfl) <| Ue rfl rfl rfl (Q1 KS rfl) <| Ue rfl rfl rfl (Q6 QZ rfl rfl rfl) <| Ue rfl rfl rfl (Q7 rfl rfl rfl) <| Uf rfl rfl rfl ?_
 refine QG (d := 10) (c := (a0.c == a1.c)) rfl (fun c2 => ?_) (fun c2 => ?_)
 replace h1 := Qk c2 h1
 refine Ue rfl rfl rfl (Q1 Zk rfl) <| Ue rfl rfl rfl (Q6 Gt rfl rfl rfl) <| Ue rfl rfl rfl (Q1 Zk rfl) <| Ue rfl rfl rfl (Q6 Gt rfl rfl rfl) ?_
 refine Qb h1 (fun y3 h2 h1 => ?_)
 have hc4 : CallM Try.prog 102 [.one (Uv a0.vs), .one (Uv a1.vs)] ⟨[(0, .cells 87 (UA a0)), (1, .cells 87 (UA a1))], [], 2⟩ (QD [.one (Uy y3)]) ⟨[(0, .cells 87 (UA a0)), (1, .cells 87 (UA a1))], [], 2⟩ := by
  refine QT ⟨[(4, .v (.one (Uy y3)))], [(0, .cells 87 (UA a0)), (1, .cells 87 (UA a1))], [], 2, 26, []⟩ rfl rfl en_102 (Um rfl) rfl (Qz rfl .nil) (fun w0 M V0 Q hv2 hQ2 => ?_)
  simp only [J7]
  refine Q5 <| Q0 <| Ug rfl rfl rfl <| Q4 <| Q3 <| Q5 <| Q5 <| Q0 <| Uf rfl rfl rfl <| Ue rfl rfl rfl (Qx (α := UL) ZC rfl (.d _)) <| Uf rfl rfl rfl <| Ue rfl rfl rfl (Qx (α := UL) ZC rfl (.d _)) <| Ue rfl rfl rfl (Q7 rfl rfl rfl) <| Q4 ?_
  refine Q3 ?_
  refine Qg (b := ((a0.vs.length : Int) != (a1.vs.length : Int))) rfl (fun c5 => ?_) (fun c5 => ?_)
  replace h2 := Qk c5 h2
  refine Q5 <| Q0 <| Ug rfl rfl rfl <| Q4 <| Q3 <| QA ?_
  have e := Uc h2; subst e
  exact hQ2 _ _ _ (.inr rfl) rfl (Ub (Nat.le_trans hv2 (Um rfl)) rfl rfl rfl rfl rfl)
  replace h2 := Ql c5 h2
  refine Qj <| Q3 <| Q5 <| Q5 <| Q0 <| Uf rfl rfl rfl <| Ue rfl rfl rfl (Qx (α := UL) ZC rfl (.d _)) <| Uf rfl rfl rfl <| Q4 <| Q3 <| Qf ?_
  refine QR 0 (fun (o6 : Unit) => ⟨[], [(0, .cells 87 (UA a0)), (1, .cells 87 (UA a1))], [], 2, 26, []⟩) (fun (o6 : Unit) => (some true) = some y3) ?_ ?_
  refine Qb h2 (fun o7 hl3 h2 => ?_)
  refine QQ (m94_l0 a0 a1) (fun s3 => ⟨[(0, .v (.one (Uv a0.vs))), (1, .v (.one (Uv a1.vs))), (12, .v (.one (Ux (a0.vs.length : Int)))), (13, .v (.one (Ux s3)))], [(0, .cells 87 (UA a0)), (1, .cells 87 (UA a1))], [], 2, 26, []⟩) 0 o7 (Ub (Nat.le_trans hv2 (Um rfl)) rfl rfl rfl rfl rfl) hl3 (fun s3 n3 oo3 h3 ho3 => ?_)
  unfold m94_l0 at h3
  refine Q5 <| Q0 <| Ue rfl rfl rfl (Q7 rfl rfl rfl) <| Q4 <| Q3 <| Q5 ?_
  refine Qg (b := (decide (s3 < (a0.vs.length : Int)))) rfl (fun c8 => ?_) (fun c8 => ?_)
  replace h3 := Qk c8 h3
  refine Qj <| Q3 <| Q5 <| Qf <| Q5 <| Q0 <| Uf rfl rfl rfl <| Ug rfl rfl rfl <| Q4 <| Q3 <| Q5 ?_
  refine Jv [] [] YI (by kernel_rfl) (by kernel_rfl) (by kernel_rfl) ?_
  refine RunA.rd rfl rfl rfl (Q2 (Qt rfl)) rfl <| RunA.rd rfl rfl rfl (Q2 (Qt rfl)) rfl ?_
  refine Qb h3 (fun x9 hx9 h3 => ?_)
  refine RunA.rd rfl rfl rfl (Q2 (Qq (α := UL) ZC rfl (.d _) rfl hx9)) rfl <| RunA.rd rfl rfl rfl (Q2 (Qv (x9 : UL) KK rfl)) rfl <| RunA.rd rfl rfl rfl (Q2 (Qt rfl)) rfl <| RunA.rd rfl rfl rfl (Q2 (Qt rfl)) rfl ?_
  refine Qb h3 (fun x10 hx10 h3 => ?_)
  refine RunA.rd rfl rfl rfl (Q2 (Qq (α := UL) ZC rfl (.d _) rfl hx10)) rfl <| RunA.rd rfl rfl rfl (Q2 (Qv (x10 : UL) KK rfl)) rfl <| RunA.rd rfl rfl rfl (Q2 (RO.neqPair ip_124 rfl rfl)) rfl ?_
  refine RunA.nil ⟨?ex, _, _, rfl, ?_⟩
  case ex => exact trivial
  refine JX (st' := ⟨[(0, .v (.one (Uv a0.vs))), (1, .v (.one (Uv a1.vs))), (12, .v (.one (Ux (a0.vs.length : Int)))), (13, .v (.one (Ux s3))), (24, .v (.one (Uy (!((x9.1 == x10.1) && (x9.2 == x10.2))))))], [(0, .cells 87 (UA a0)), (1, .cells 87 (UA a1))], [], 2, 26, []⟩) (Ub (Nat.le_trans hv2 (Um rfl)) rfl rfl rfl rfl rfl) <| Q3 ?_
  refine Qg (b := (!((x9.1 == x10.1) && (x9.2 == x10.2)))) rfl (fun c11 => ?_) (fun c11 => ?_)
  replace h3 := Qk c11 h3
  refine Q5 <| Q0 <| Ug rfl rfl rfl <| Q4 <| Q3 <| QA ?_
  have e := Uc h3; subst e
  have e_ : _ = _ := ho3
  subst e_
  try dsimp only [Sum.elim_inl, Sum.elim_inr] at h2
  have e := Uc h2; subst e
  exact hQ2 _ _ _ (.inr rfl) rfl (Ub (Nat.le_trans hv2 (Um rfl)) rfl rfl rfl rfl rfl)
  replace h3 := Ql c11 h3
  refine Qj <| Qe <| Q3 <| Q0 <| Ue rfl rfl rfl (Q7 rfl rfl rfl) <| Uf rfl rfl rfl <| Q4 ?_
  have e := Uc h3; subst e
  refine QM (Jk (s3 + 1)) (Ub (Nat.le_trans hv2 (Um rfl)) rfl rfl rfl rfl rfl) ho3
  replace h3 := Ql c8 h3
  refine J1 <| Qn <| Qn ?_
  have e := Uc h3; subst e
  have e_ : _ = _ := ho3
  subst e_
  exact QP () (Ub (Nat.le_trans hv2 (Um rfl)) rfl rfl rfl rfl rfl) h2
  intro o6 h2
  refine QF <| Q3 <| Q5 <| Q0 <| Ug rfl rfl rfl <| Q4 <| Q3 <| QA ?_
  have e := Uc h2; subst e
  exact hQ2 _ _ _ (.inr rfl) rfl (Ub (Nat.le_trans hv2 (Um rfl)) rfl rfl rfl rfl rfl)
 refine Q9 rfl rfl (Um rfl) (JM rfl rfl rfl hc4 rfl (hA rfl) Un) <| Ue rfl rfl rfl (Qh rfl rfl) <| Ug rfl rfl rfl <| Q4 ?_
 have e := Uc h1; subst e
 exact Qc y3 (Ub (Nat.zero_le _) rfl rfl rfl rfl rfl) h0
 replace h1 := Ql c2 h1
 refine Q8 rfl rfl <| Q8 rfl rfl <| Q8 rfl rfl <| Q8 rfl rfl <| Q8 rfl rfl <| Ue rfl rfl rfl (Qd rfl rfl) <| Ug rfl rfl rfl <| Q4 ?_
 have e := Uc h1; subst e
 exact Qc false (Ub (Nat.zero_le _) rfl rfl rfl rfl rfl) h0
 intro v1 h0
 refine Q3 <| QA ?_
 have e := Uc h0; subst e
 exact QL (fun _ _ h => h) rfl (Qz rfl .nil) (.cons (.one (.d _)) .nil)
def m78_l0 (a0 : Tm) (a1 : Tm) (s3 : Int) : Option (LO Int (Unit ⊕ Bool)) :=
 cond (decide (s3 < (a0.levels.length : Int)))
   (Option.bind (Yi a0.levels s3) fun (x10 : Lvl) =>
 Option.bind (Yi a1.levels s3) fun (x11 : Lvl) =>
 Option.bind (m94 x10 x11) fun (x12 : Bool) =>
 cond (!x12)
   (some (.done (.inr false)))
   (some (.next (Jk (s3 + 1)))))
   (some (.done (.inl ())))
def m78_l1 (a0 : Tm) (a1 : Tm) (rc : Tm × Tm → Option Bool) (s3 : Int) : Option (LO Int (Unit ⊕ Bool)) :=
 cond (decide (s3 < (a0.kids.length : Int)))
   (Option.bind (Yi a0.kids s3) fun (x21 : Tm) =>
 Option.bind (Yi a1.kids s3) fun (x22 : Tm) =>
 Option.bind (rc (x21, x22)) fun (x23 : Bool) =>
 cond (!x23)
   (some (.done (.inr false)))
   (some (.next (Jk (s3 + 1)))))
   (some (.done (.inl ())))
def m78s (rc : Tm × Tm → Option Bool) (a0 : Tm) (a1 : Tm) : Option Bool :=
 Option.bind (cond (a0.kind == a1.kind)
   (cond (a0.index == a1.index)
   (cond (a0.name == a1.name)
   (Option.bind (cond ((a0.levels.length : Int) != (a1.levels.length : Int))
   (some false)
   (Option.bind (QV (m78_l0 a0 a1) J2 0) (Sum.elim (fun (o8 : Unit) => some true) (fun o => some o)))) (fun (y5 : Bool) => cond y5
   (Option.bind (cond ((a0.kids.length : Int) != (a1.kids.length : Int))
   (some false)
   (Option.bind (QV (m78_l1 a0 a1 rc) J2 0) (Sum.elim (fun (o19 : Unit) => some true) (fun o => some o)))) (fun (y16 : Bool) => some y16))
   (some false)))
   (some false))
   (some false))
   (some false)) (fun (v1 : Bool) => some v1)
def m78F (rc : Tm × Tm → Option Bool) (u : Tm × Tm) : Option Bool := m78s rc u.1 u.2
def m78 (a0 : Tm) (a1 : Tm) : Option Bool := Yt m78F J2 (a0, a1)
set_option maxRecDepth 100000 in
set_option maxHeartbeats 2000000 in
theorem m78s_ok (rc : Tm × Tm → Option Bool) (H : ∀ (a0 : Tm) (a1 : Tm) (r : Bool), rc (a0, a1) = some r → Fun Try.prog 78 [.agg (UA a0), .agg (UA a1)] (QD [.one (Uy r)])) (a0 : Tm) (a1 : Tm) (r : Bool) (h0 : m78s rc a0 a1 = some r) : Fun Try.prog 78 [.agg (UA a0), .agg (UA a1)] (QD [.one (Uy r)]) := by
 unfold m78s at h0
 refine QY 9 38 Try.func78 rfl en_78 rfl (Um rfl) (fun S w => ?_)
 simp only [J7]
 refine Q5 <| Q0 <| Q9 rfl rfl (Um rfl) (QN rfl) <| Q9 rfl rfl (Um rfl) (QN rfl) <| Ug rfl rfl rfl <| Q4 <| Q3 <| Q5 ?_
 refine QS (fun (v1 : Bool) => ⟨[(4, .v (.one (Uy v1)))], [(0, .cells 33 (UA a0)), (1, .cells 33 (UA a1))], [], 2, 38, []⟩) (fun (v1 : Bool) => (some v1) = some r) ?_ ?_
 refine Qb h0 (fun w1_ h1 h0 => ?_)
 refine Q0 <| Ue rfl rfl rfl (Q1 Y3 rfl) <| Ue rfl rfl rfl (Q6 QZ rfl rfl rfl) <| Ue rfl rfl rfl (Q1 Y3 rfl) <| Ue rfl rfl rfl (Q6 QZ rfl rfl rfl) <| Ue rfl rfl rfl (Q7 rfl rfl rfl) <| Uf rfl rfl rfl ?_
 refine QG (d := 10) (c := (a0.kind == a1.kind)) rfl (fun c2 => ?_) (fun c2 => ?_)
 replace h1 := Qk c2 h1
 refine Ue rfl rfl rfl (Q1 Zb rfl) <| Ue rfl rfl rfl (Q6 QZ rfl rfl rfl) <| Ue rfl rfl rfl (Q1 Zb rfl) <| Ue rfl rfl rfl (Q6 QZ rfl rfl rfl) <| Ue rfl rfl rfl (Q7 rfl rfl rfl) <| Ue rfl rfl rfl (Qh rfl rfl) <| Uf rfl rfl rfl ?_
 refine QG (d := 17) (c := (a0.index == a1.index)) rfl (fun c3 => ?_) (fun c3 => ?_)
 replace h1 := Qk c3 h1
 refine Ue rfl rfl rfl (Q1 YF rfl) <| Ue rfl rfl rfl (Q6 JG rfl rfl rfl) <| Ue rfl rfl rfl (Q1 YF rfl) <| Ue rfl rfl rfl (Q6 JG rfl rfl rfl) <| Ue rfl rfl rfl (KL rfl rfl) <| Ue rfl rfl rfl (Qh rfl rfl) <| Uf rfl rfl rfl ?_
 refine QG (d := 24) (c := (a0.name == a1.name)) rfl (fun c4 => ?_) (fun c4 => ?_)
 replace h1 := Qk c4 h1
 refine Ue rfl rfl rfl (Q1 Zl rfl) <| Ue rfl rfl rfl (Q6 Gu rfl rfl rfl) <| Ue rfl rfl rfl (Q1 Zl rfl) <| Ue rfl rfl rfl (Q6 Gu rfl rfl rfl) ?_
 refine Qb h1 (fun y5 h2 h1 => ?_)
 have hc6 : CallM Try.prog 93 [.one (Uv a0.levels), .one (Uv a1.levels), .one (.fn 94 [])] ⟨[(0, .cells 33 (UA a0)), (1, .cells 33 (UA a1))], [], 2⟩ (QD [.one (Uy y5)]) ⟨[(0, .cells 33 (UA a0)), (1, .cells 33 (UA a1))], [], 2⟩ := by
  refine QT ⟨[(6, .v (.one (Uy y5)))], [(0, .cells 33 (UA a0)), (1, .cells 33 (UA a1))], [], 2, 32, []⟩ rfl rfl en_93 (Um rfl) rfl (Qz rfl .nil) (fun w0 M V0 Q hv2 hQ2 => ?_)
  simp only [J7]
  refine Q5 <| Q0 <| Ug rfl rfl rfl <| Q4 <| Q3 <| Q5 <| Q5 <| Q0 <| Uf rfl rfl rfl <| Ue rfl rfl rfl (Qx (α := Lvl) Zf rfl (.d _)) <| Uf rfl rfl rfl <| Ue rfl rfl rfl (Qx (α := Lvl) Zf rfl (.d _)) <| Ue rfl rfl rfl (Q7 rfl rfl rfl) <| Q4 ?_
  refine Q3 ?_
  refine Qg (b := ((a0.levels.length : Int) != (a1.levels.length : Int))) rfl (fun c7 => ?_) (fun c7 => ?_)
  replace h2 := Qk c7 h2
  refine Q5 <| Q0 <| Ug rfl rfl rfl <| Q4 <| Q3 <| QA ?_
  have e := Uc h2; subst e
  exact hQ2 _ _ _ (.inr rfl) rfl (Ub (Nat.le_trans hv2 (Um rfl)) rfl rfl rfl rfl rfl)
  replace h2 := Ql c7 h2
  refine Qj <| Q3 <| Q5 <| Q5 <| Q0 <| Uf rfl rfl rfl <| Ue rfl rfl rfl (Qx (α := Lvl) Zf rfl (.d _)) <| Uf rfl rfl rfl <| Q4 <| Q3 <| Qf ?_
  refine QR 0 (fun (o8 : Unit) => ⟨[], [(0, .cells 33 (UA a0)), (1, .cells 33 (UA a1))], [], 2, 32, []⟩) (fun (o8 : Unit) => (some true) = some y5) ?_ ?_
  refine Qb h2 (fun o9 hl3 h2 => ?_)
  refine QQ (m78_l0 a0 a1) (fun s3 => ⟨[(1, .v (.one (Uv a1.levels))), (2, .v (.one (.fn 94 []))), (15, .v (.one (Uv a0.levels))), (16, .v (.one (Ux (a0.levels.length : Int)))), (17, .v (.one (Ux s3)))], [(0, .cells 33 (UA a0)), (1, .cells 33 (UA a1))], [], 2, 32, []⟩) 0 o9 (Ub (Nat.le_trans hv2 (Um rfl)) rfl rfl rfl rfl rfl) hl3 (fun s3 n3 oo3 h3 ho3 => ?_)
  unfold m78_l0 at h3
  refine Q5 <| Q0 <| Ue rfl rfl rfl (Q7 rfl rfl rfl) <| Q4 <| Q3 <| Q5 ?_
  refine Qg (b := (decide (s3 < (a0.levels.length : Int)))) rfl (fun c10 => ?_) (fun c10 => ?_)
  replace h3 := Qk c10 h3
  refine Qj <| Q3 <| Q5 <| Qf <| Q5 <| Q0 <| Uf rfl rfl rfl ?_
  refine Qb h3 (fun x11 hx11 h3 => ?_)
  refine Ue rfl rfl rfl (Qq (α := Lvl) Zf rfl (.d _) rfl hx11) <| Ue rfl rfl rfl (Qv (x11 : Lvl) Kg rfl) <| Q9 rfl rfl (Um rfl) (Qm WE rfl) <| Ug rfl rfl rfl <| Qy rfl rfl (QC (x11 : Lvl) Kg rfl rfl rfl rfl rfl) <| Q4 <| Q3 <| Q5 <| Q0 <| Uf rfl rfl rfl <| Uf rfl rfl rfl ?_
  refine Qb h3 (fun x12 hx12 h3 => ?_)
  refine Ue rfl rfl rfl (Qq (α := Lvl) Zf rfl (.d _) rfl hx12) <| Ue rfl rfl rfl (Qv (x12 : Lvl) Kg rfl) <| Q9 rfl rfl (Um rfl) (Qm WE rfl) <| Qy rfl rfl (QC (x12 : Lvl) Kg rfl rfl rfl rfl rfl) <| Q4 <| Q3 <| Q5 <| Q0 <| Uf rfl rfl rfl <| Ue rfl rfl rfl (QK (x11 : Lvl) Kg rfl rfl) <| Ue rfl rfl rfl (QK (x12 : Lvl) Kg rfl rfl) ?_
  refine Qb h3 (fun x13 hx13 h3 => ?_)
  refine Q9 rfl rfl (Um rfl) (OpOK.callFunV rfl (m94_ok x11 x12 x13 hx13) rfl (.cons (.agg (.cons (.d _) (.cons (.d _) .nil))) (.cons (.agg (.cons (.d _) (.cons (.d _) .nil))) .nil))) <| Ue rfl rfl rfl (Jb rfl) <| Q4 <| Q3 ?_
  refine Qg (b := (!x13)) rfl (fun c14 => ?_) (fun c14 => ?_)
  replace h3 := Qk c14 h3
  refine Q5 <| Q0 <| Ug rfl rfl rfl <| Q4 <| Q3 <| QA ?_
  have e := Uc h3; subst e
  have e_ : _ = _ := ho3
  subst e_
  try dsimp only [Sum.elim_inl, Sum.elim_inr] at h2
  have e := Uc h2; subst e
  exact hQ2 _ _ _ (.inr rfl) rfl (Ub (Nat.le_trans hv2 (Um rfl)) rfl rfl rfl rfl rfl)
  replace h3 := Ql c14 h3
  refine Qj <| Qe <| Q3 <| Q0 <| Ue rfl rfl rfl (Q7 rfl rfl rfl) <| Uf rfl rfl rfl <| Q4 ?_
  have e := Uc h3; subst e
  refine QM (Jk (s3 + 1)) (Ub (Nat.le_trans hv2 (Um rfl)) rfl rfl rfl rfl rfl) ho3
  replace h3 := Ql c10 h3
  refine J1 <| Qn <| Qn ?_
  have e := Uc h3; subst e
  have e_ : _ = _ := ho3
  subst e_
  exact QP () (Ub (Nat.le_trans hv2 (Um rfl)) rfl rfl rfl rfl rfl) h2
  intro o8 h2
  refine QF <| Q3 <| Q5 <| Q0 <| Ug rfl rfl rfl <| Q4 <| Q3 <| QA ?_
  have e := Uc h2; subst e
  exact hQ2 _ _ _ (.inr rfl) rfl (Ub (Nat.le_trans hv2 (Um rfl)) rfl rfl rfl rfl rfl)
 refine Q9 rfl rfl (Um rfl) (JM rfl rfl rfl hc6 rfl (hA rfl) Un) <| Ue rfl rfl rfl (Qh rfl rfl) <| Uf rfl rfl rfl ?_
 refine QG (d := 31) (c := y5) rfl (fun c15 => ?_) (fun c15 => ?_)
 replace h1 := Qk c15 h1
 refine Ue rfl rfl rfl (Q1 JJ rfl) <| Ue rfl rfl rfl (Q6 JH rfl rfl rfl) <| Ue rfl rfl rfl (Q1 JJ rfl) <| Ue rfl rfl rfl (Q6 JH rfl rfl rfl) ?_
 refine Qb h1 (fun y16 h2 h1 => ?_)
 have hc17 : CallM Try.prog 95 [.one (Uv a0.kids), .one (Uv a1.kids), .one (.fn 78 [])] ⟨[(0, .cells 33 (UA a0)), (1, .cells 33 (UA a1))], [], 2⟩ (QD [.one (Uy y16)]) ⟨[(0, .cells 33 (UA a0)), (1, .cells 33 (UA a1))], [], 2⟩ := by
  refine QT ⟨[(6, .v (.one (Uy y16)))], [(0, .cells 33 (UA a0)), (1, .cells 33 (UA a1))], [], 2, 32, []⟩ rfl rfl en_95 (Um rfl) rfl (Qz rfl .nil) (fun w0 M V0 Q hv2 hQ2 => ?_)
  simp only [J7]
  refine Q5 <| Q0 <| Ug rfl rfl rfl <| Q4 <| Q3 <| Q5 <| Q5 <| Q0 <| Uf rfl rfl rfl <| Ue rfl rfl rfl (Qx (α := Tm) Ji rfl (.d _)) <| Uf rfl rfl rfl <| Ue rfl rfl rfl (Qx (α := Tm) Ji rfl (.d _)) <| Ue rfl rfl rfl (Q7 rfl rfl rfl) <| Q4 ?_
  refine Q3 ?_
  refine Qg (b := ((a0.kids.length : Int) != (a1.kids.length : Int))) rfl (fun c18 => ?_) (fun c18 => ?_)
  replace h2 := Qk c18 h2
  refine Q5 <| Q0 <| Ug rfl rfl rfl <| Q4 <| Q3 <| QA ?_
  have e := Uc h2; subst e
  exact hQ2 _ _ _ (.inr rfl) rfl (Ub (Nat.le_trans hv2 (Um rfl)) rfl rfl rfl rfl rfl)
  replace h2 := Ql c18 h2
  refine Qj <| Q3 <| Q5 <| Q5 <| Q0 <| Uf rfl rfl rfl <| Ue rfl rfl rfl (Qx (α := Tm) Ji rfl (.d _)) <| Uf rfl rfl rfl <| Q4 <| Q3 <| Qf ?_
  refine QR 0 (fun (o19 : Unit) => ⟨[], [(0, .cells 33 (UA a0)), (1, .cells 33 (UA a1))], [], 2, 32, []⟩) (fun (o19 : Unit) => (some true) = some y16) ?_ ?_
  refine Qb h2 (fun o20 hl3 h2 => ?_)
  refine QQ (m78_l1 a0 a1 rc) (fun s3 => ⟨[(1, .v (.one (Uv a1.kids))), (2, .v (.one (.fn 78 []))), (15, .v (.one (Uv a0.kids))), (16, .v (.one (Ux (a0.kids.length : Int)))), (17, .v (.one (Ux s3)))], [(0, .cells 33 (UA a0)), (1, .cells 33 (UA a1))], [], 2, 32, []⟩) 0 o20 (Ub (Nat.le_trans hv2 (Um rfl)) rfl rfl rfl rfl rfl) hl3 (fun s3 n3 oo3 h3 ho3 => ?_)
  unfold m78_l1 at h3
  refine Q5 <| Q0 <| Ue rfl rfl rfl (Q7 rfl rfl rfl) <| Q4 <| Q3 <| Q5 ?_
  refine Qg (b := (decide (s3 < (a0.kids.length : Int)))) rfl (fun c21 => ?_) (fun c21 => ?_)
  replace h3 := Qk c21 h3
  refine Qj <| Q3 <| Q5 <| Qf <| Q5 <| Q0 <| Uf rfl rfl rfl ?_
  refine Qb h3 (fun x22 hx22 h3 => ?_)
  refine Ue rfl rfl rfl (Qq (α := Tm) Ji rfl (.d _) rfl hx22) <| Ue rfl rfl rfl (Qv (x22 : Tm) QW rfl) <| Q9 rfl rfl (Um rfl) (Qm ZS rfl) <| Ug rfl rfl rfl <| Qy rfl rfl (QC (x22 : Tm) QW rfl rfl rfl rfl rfl) <| Q4 <| Q3 <| Q5 <| Q0 <| Uf rfl rfl rfl <| Uf rfl rfl rfl ?_
  refine Qb h3 (fun x23 hx23 h3 => ?_)
  refine Ue rfl rfl rfl (Qq (α := Tm) Ji rfl (.d _) rfl hx23) <| Ue rfl rfl rfl (Qv (x23 : Tm) QW rfl) <| Q9 rfl rfl (Um rfl) (Qm ZS rfl) <| Qy rfl rfl (QC (x23 : Tm) QW rfl rfl rfl rfl rfl) <| Q4 <| Q3 <| Q5 <| Q0 <| Uf rfl rfl rfl <| Ue rfl rfl rfl (QK (x22 : Tm) QW rfl rfl) <| Ue rfl rfl rfl (QK (x23 : Tm) QW rfl rfl) ?_
  refine Qb h3 (fun x24 hx24 h3 => ?_)
  refine Q9 rfl rfl (Um rfl) (OpOK.callFunV rfl (H x22 x23 x24 hx24) rfl (.cons (.agg (.cons (.d _) (.cons (.d _) (.cons (.d _) (.cons (.d _) (.cons (.d _) .nil)))))) (.cons (.agg (.cons (.d _) (.cons (.d _) (.cons (.d _) (.cons (.d _) (.cons (.d _) .nil)))))) .nil))) <| Ue rfl rfl rfl (Jb rfl) <| Q4 <| Q3 ?_
  refine Qg (b := (!x24)) rfl (fun c25 => ?_) (fun c25 => ?_)
  replace h3 := Qk c25 h3
  refine Q5 <| Q0 <| Ug rfl rfl rfl <| Q4 <| Q3 <| QA ?_
  have e := Uc h3; subst e
  have e_ : _ = _ := ho3
  subst e_
  try dsimp only [Sum.elim_inl, Sum.elim_inr] at h2
  have e := Uc h2; subst e
  exact hQ2 _ _ _ (.inr rfl) rfl (Ub (Nat.le_trans hv2 (Um rfl)) rfl rfl rfl rfl rfl)
  replace h3 := Ql c25 h3
  refine Qj <| Qe <| Q3 <| Q0 <| Ue rfl rfl rfl (Q7 rfl rfl rfl) <| Uf rfl rfl rfl <| Q4 ?_
  have e := Uc h3; subst e
  refine QM (Jk (s3 + 1)) (Ub (Nat.le_trans hv2 (Um rfl)) rfl rfl rfl rfl rfl) ho3
  replace h3 := Ql c21 h3
  refine J1 <| Qn <| Qn ?_
  have e := Uc h3; subst e
  have e_ : _ = _ := ho3
  subst e_
  exact QP () (Ub (Nat.le_trans hv2 (Um rfl)) rfl rfl rfl rfl rfl) h2
  intro o19 h2
  refine QF <| Q3 <| Q5 <| Q0 <| Ug rfl rfl rfl <| Q4 <| Q3 <| QA ?_
  have e := Uc h2; subst e
  exact hQ2 _ _ _ (.inr rfl) rfl (Ub (Nat.le_trans hv2 (Um rfl)) rfl rfl rfl rfl rfl)
 refine Q9 rfl rfl (Um rfl) (JM rfl rfl rfl hc17 rfl (hA rfl) Un) <| Ue rfl rfl rfl (Qh rfl rfl) <| Ug rfl rfl rfl <| Q4 ?_
 have e := Uc h1; subst e
 exact Qc y16 (Ub (Nat.zero_le _) rfl rfl rfl rfl rfl) h0
 replace h1 := Ql c15 h1
 refine Q8 rfl rfl <| Q8 rfl rfl <| Q8 rfl rfl <| Q8 rfl rfl <| Q8 rfl rfl <| Ue rfl rfl rfl (Qd rfl rfl) <| Ug rfl rfl rfl <| Q4 ?_
 have e := Uc h1; subst e
 exact Qc false (Ub (Nat.zero_le _) rfl rfl rfl rfl rfl) h0
 replace h1 := Ql c4 h1
 refine Q8 rfl rfl <| Q8 rfl rfl <| Q8 rfl rfl <| Q8 rfl rfl <| Q8 rfl rfl <| Ue rfl rfl rfl (Qd rfl rfl) <| Uf rfl rfl rfl <| Q8 rfl rfl <| Q8 rfl rfl <| Q8 rfl rfl <| Q8 rfl rfl <| Q8 rfl rfl <| Ue rfl rfl rfl (Qd rfl rfl) <| Ug rfl rfl rfl ?_
 refine Q4 ?_
 have e := Uc h1; subst e
 exact Qc false (Ub (Nat.zero_le _) rfl rfl rfl rfl rfl) h0
 replace h1 := Ql c3 h1
 refine Q8 rfl rfl <| Q8 rfl rfl <| Q8 rfl rfl <| Q8 rfl rfl <| Q8 rfl rfl <| Ue rfl rfl rfl (Qd rfl rfl) <| Uf rfl rfl rfl <| Q8 rfl rfl <| Q8 rfl rfl <| Q8 rfl rfl <| Q8 rfl rfl <| Q8 rfl rfl <| Ue rfl rfl rfl (Qd rfl rfl) <| Uf rfl rfl rfl ?_
 refine Q8 rfl rfl <| Q8 rfl rfl <| Q8 rfl rfl <| Q8 rfl rfl <| Q8 rfl rfl <| Ue rfl rfl rfl (Qd rfl rfl) <| Ug rfl rfl rfl <| Q4 ?_
 have e := Uc h1; subst e
 exact Qc false (Ub (Nat.zero_le _) rfl rfl rfl rfl rfl) h0
 replace h1 := Ql c2 h1
 refine Q8 rfl rfl <| Q8 rfl rfl <| Q8 rfl rfl <| Q8 rfl rfl <| Q8 rfl rfl <| Ue rfl rfl rfl (Qd rfl rfl) <| Uf rfl rfl rfl <| Q8 rfl rfl <| Q8 rfl rfl <| Q8 rfl rfl <| Q8 rfl rfl <| Q8 rfl rfl <| Ue rfl rfl rfl (Qd rfl rfl) <| Uf rfl rfl rfl ?_
 refine Q8 rfl rfl <| Q8 rfl rfl <| Q8 rfl rfl <| Q8 rfl rfl <| Q8 rfl rfl <| Ue rfl rfl rfl (Qd rfl rfl) <| Uf rfl rfl rfl <| Q8 rfl rfl <| Q8 rfl rfl <| Q8 rfl rfl <| Q8 rfl rfl <| Q8 rfl rfl <| Ue rfl rfl rfl (Qd rfl rfl) <| Ug rfl rfl rfl ?_
 refine Q4 ?_
 have e := Uc h1; subst e
 exact Qc false (Ub (Nat.zero_le _) rfl rfl rfl rfl rfl) h0
 intro v1 h0
 refine Q3 <| QA ?_
 have e := Uc h0; subst e
 exact QL (fun _ _ h => h) rfl (Qz rfl .nil) (.cons (.one (.d _)) .nil)
theorem m78_all (n : Nat) (u : Tm × Tm) (r : Bool) (h0 : Yt m78F n u = some r) : Fun Try.prog 78 [.agg (UA u.1), .agg (UA u.2)] (QD [.one (Uy r)]) :=
 YB (C := fun u r => Fun Try.prog 78 [.agg (UA u.1), .agg (UA u.2)] (QD [.one (Uy r)])) (fun rc H u r h => m78s_ok rc (fun a0 a1 r h => H (a0, a1) r h) u.1 u.2 r h) n u r h0
theorem m78_ok (a0 : Tm) (a1 : Tm) (r : Bool) (h0 : m78 a0 a1 = some r) : Fun Try.prog 78 [.agg (UA a0), .agg (UA a1)] (QD [.one (Uy r)]) := m78_all J2 (a0, a1) r h0
def WV (a0 : Tm) : Option Bool :=
 Option.bind (m78 a0 (Tm.mk 0 0 ([] : List UInt8) ([] : List Lvl) ([] : List Tm))) fun (x1 : Bool) =>
 some x1
set_option maxRecDepth 100000 in
set_option maxHeartbeats 2000000 in
theorem Wc (a0 : Tm) (r : Bool) (h0 : WV a0 = some r) : Fun Try.prog 63 [.agg (UA a0)] (QD [.one (Uy r)]) := by
 unfold WV at h0
 refine QY 9 6 Try.func63 rfl en_63 rfl (Um rfl) (fun S w => ?_)
 simp only [J7]
 refine Q5 <| Q0 <| Q9 rfl rfl (Um rfl) (QN rfl) <| Ug rfl rfl rfl <| Q4 <| Q3 <| Q5 <| Q0 <| Ue rfl rfl rfl (QK (a0 : Tm) QW rfl rfl) <| Ue rfl rfl rfl (Gg bd_33 rfl ) ?_
 refine Qb h0 (fun x1 hx1 h0 => ?_)
 refine Q9 rfl rfl (Um rfl) (Qo (m78_ok a0 (Tm.mk 0 0 ([] : List UInt8) ([] : List Lvl) ([] : List Tm)) x1 hx1) rfl (.cons (.agg (.cons (.d _) (.cons (.d _) (.cons (.d _) (.cons (.d _) (.cons (.d _) .nil)))))) (.cons (.agg (.cons (.d _) (.cons (.d _) (.cons (.d _) (.cons (.nil _) (.cons (.nil _) .nil)))))) .nil))) <| Ug rfl rfl rfl <| Q4 <| Q3 <| QA ?_
 have e := Uc h0; subst e
 exact QL (fun _ _ h => h) rfl (Qz rfl .nil) (.cons (.one (.d _)) .nil)
end Go.Proofs.Ytafddfoefeploaa
namespace Go.Proofs.Ytafddfoefeploaa
open Go.RowKit Go.Shelf
set_option linter.unusedSimpArgs false
set_option linter.unusedVariables false
theorem wrong_st : tyStruct Try.prog 90 = true := by kernel_rfl
theorem und20 : Try.prog.underlying 20 = some (.interface #[]) := by kernel_rfl
theorem und90 : Jy Try.prog 90 = some (true, 1) := by kernel_rfl
theorem z90 : JE Try.prog 90 = some [.int .i64 0] := by kernel_rfl
theorem eq_nil (w : World) : (Op.equal 20 .nilIface .nilIface).run Try.prog w = .ok true w := by
  unfold Op.equal
  rw [show Op.maxDepth = (Op.maxDepth - 1) + 1 from rfl]
  unfold Op.equalIn
  simp [run_underlying und20]
theorem eq_some (T : TypeId) (v : Value) (w : World) : (Op.equal 20 (.iface T v) .nilIface).run Try.prog w = .ok false w := by
  unfold Op.equal
  rw [show Op.maxDepth = (Op.maxDepth - 1) + 1 from rfl]
  unfold Op.equalIn
  simp [run_underlying und20]
theorem catch_idle (n : Nat) (p : Addr) (w : World) : CallsDIn Fence.wide n Try.prog 43 #[.pointer (some p)] .returning w fun e u' w' => (∃ v, e = .returned v) ∧ u' = .returning ∧ w' = w := by
  refine callsDIn_of_wpSIn Try.func43 rfl trivial fun c₀ cs hu => ?_
  apply wpSIn_seq
  apply wpSIn_region
  simp [wpOpsSIn, go_sem, recoverD, hu, Exit.thenS, Try.f43]
  apply wpSIn_seq
  apply wpSIn_region
  simp [wpOpsSIn, go_sem, Exit.thenS, eqGuard, binOp, eq_nil]
  refine wpSIn_cond (t := false) (by simp [Act.eval]) ?_
  simp only [Bool.false_eq_true, if_false]
  refine wpSIn_of_wpIn rfl (wpIn_skip ?_)
  cases c₀
  simp_all [bodyPostS, results, Try.f43]
theorem ta_run (v : Value) (w : World) : (Instr.typeAssert (.iface 90 v) 20 90 true).run Try.prog w = .ok (.tuple #[v, .bool true]) w := by
  have h := wrong_st
  unfold tyStruct at h
  split at h
  · rename_i fs hu
    unfold Instr.typeAssert
    simp [run_underlying hu]
  · cases h
theorem al_run (w : World) : (Instr.alloc 90 true (.tuple #[])).run Try.prog w = .ok (.pointer (some ⟨w.heap.size, 0, none⟩)) (w.alloc (.cells #[.int .i64 0] 90)) := by
  obtain ⟨z, hz1, hz2⟩ := tyZero_spec z90
  simp [Instr.alloc, hz1, newVar, newRow, hz2]
theorem st_run {t : TypeId} {ag : Bool} (ht : Jy Try.prog t = some (ag, 1)) {p : Addr} {v x y : Value} {w : World} (hv : v.cells = #[x]) (hx : x.oneCell' = true) (hc : w.cell? p = some y) (hz : w.frozen? p = false) : (Instr.storeAt t (.pointer (some p)) v).run Try.prog w = .ok () (w.setCell p x) := by
  obtain ⟨-, hs⟩ := ZU ht w
  simp only [Instr.storeAt, Instr.sureAddr, storeVar, Sem.run_bind, Sem.run_pure, Result.andThen_ok, hs, hv]
  have h1 : (Go.store (p.add 0) x).run Try.prog w = .ok () (w.setCell p x) := by
    have : p.add 0 = p := by unfold Addr.add; simp
    rw [this, run_store _ _ _ _ _ hx, hc]
    simp [hz]
  simp [storeCells, h1]
theorem ag25 : Jy Try.prog 25 = some (false, 1) := by kernel_rfl
theorem fo90 : J0 Try.prog 90 0 = some 0 := by kernel_rfl
theorem catch_caught (n : Nat) (p : Addr) (x : Int) (y : Value) (w : World) (hc : w.cell? p = some y) (hz : w.frozen? p = false) : CallsDIn Fence.wide n Try.prog 43 #[.pointer (some p)] (.panicking (Jz (QJ 90 x))) w fun e u' w' =>
    (∃ v, e = .returned v) ∧ u' = .panicking [{ v := QJ 90 x, recovered := true }] ∧ ∃ w1, ExtM (fun _ => False) w w1 ∧ w' = w1.setCell p (.int .i64 x) := by
  have hb : p.block < w.heap.size := by
    rcases Nat.lt_or_ge p.block w.heap.size with h | h
    · exact h
    · unfold World.cell? at hc
      rw [Array.getElem?_eq_none h] at hc
      split at hc <;> simp_all
  obtain ⟨W1, hW1⟩ : ∃ W1, (w.alloc (.cells #[.int .i64 0] 90)).setCell ⟨w.heap.size, 0, none⟩ (.int .i64 x) = W1 := ⟨_, rfl⟩
  have hx1 : ExtM (fun _ => False) w W1 := by
    subst hW1
    refine ⟨rfl, rfl, rfl, by simp [World.setCell], fun k hk _ => ?_⟩
    rw [Below.heap_setCell _ _ _ _ (by simp; omega)]
    exact Below.heap_alloc w _ k hk
  have hcell : W1.cell? p = some y := by rw [World.cell?_of_block (hx1.block p.block hb (fun h => h))]; exact hc
  have hfz : W1.frozen? p = false := by
    have := hx1.block p.block hb (fun h => h)
    unfold World.frozen? at hz ⊢
    rw [this]; exact hz
  have hnew : W1.cell? ⟨w.heap.size, 0, none⟩ = some (.int .i64 x) := by subst hW1; simp [go_sem]
  refine callsDIn_of_wpSIn Try.func43 rfl trivial fun c₀ cs hu => ?_
  apply wpSIn_seq
  apply wpSIn_region
  simp [wpOpsSIn, go_sem, recoverD, hu, Exit.thenS, Try.f43]
  apply wpSIn_seq
  apply wpSIn_region
  simp [wpOpsSIn, go_sem, Exit.thenS, eqGuard, binOp, eq_some, QJ]
  refine wpSIn_cond (t := true) (by simp [Act.eval]) ?_
  simp only [if_true]
  have hst := st_run und90 (p := ⟨w.heap.size, 0, none⟩) (v := .agg #[.int .i64 x]) (x := .int .i64 x) (y := .int .i64 0) (w := w.alloc (.cells #[.int .i64 0] 90)) rfl rfl (by simp [go_sem]) (by simp [go_sem])
  rw [hW1] at hst
  have hld := run_loadOne (P := Try.prog) (w := W1) (b := w.heap.size) (o := 0) ag25 hnew
  have hfa := run_fieldAt (P := Try.prog) (b := w.heap.size) (o := 0) fo90 W1
  have hst2 := st_run ag25 (p := p) (v := .int .i64 x) (x := .int .i64 x) rfl rfl hcell hfz
  apply wpSIn_seq
  apply wpSIn_region
  simp [wpOpsSIn, List.range, List.range.loop, execOp, Act.eval, Act.put, Region.wanted, ta_run, al_run, hst, Exit.thenS, Oper.about, Instr.extract, hu, recoverD]
  apply wpSIn_seq
  apply wpSIn_seq
  apply wpSIn_region
  simp [wpOpsSIn, List.range, List.range.loop, execOp, Act.eval, Act.put, Region.wanted, Exit.thenS, Oper.about, Op.unary]
  refine wpSIn_cond (t := false) (by simp [Act.eval]) ?_
  simp only [Bool.false_eq_true, if_false]
  refine wpSIn_of_wpIn rfl (wpIn_skip ?_)
  simp only [Exit.thenS]
  apply wpSIn_region
  simp [wpOpsSIn, List.range, List.range.loop, execOp, Act.eval, Act.put, Region.wanted, Exit.thenS, Oper.about, hfa, hld, hst2]
  cases c₀
  simp_all [bodyPostS, results, Try.f43]
  exact ⟨W1, hx1, rfl⟩
theorem catch_ok : Catch Try.prog 43 90 := ⟨enters_of Try.func43 (by kernel_rfl) rfl, catch_idle, catch_caught⟩
end Go.Proofs.Ytafddfoefeploaa
namespace Go.Proofs.Ytafddfoefeploaa
open Go.RowKit Go.Shelf
set_option linter.unusedSimpArgs false
set_option linter.unusedVariables false
theorem fo_35_3 : J0 Try.prog 35 3 = some 3 := by kernel_rfl
theorem KU : J0 Try.prog 42 0 = some 0 := by kernel_rfl
theorem Ym : J0 Try.prog 45 2 = some 2 := by kernel_rfl
theorem K3 : J0 Try.prog 62 1 = some 1 := by kernel_rfl
theorem fo_76_2 : J0 Try.prog 76 2 = some 6 := by kernel_rfl
theorem Jm : Jy Try.prog 35 = some (true, 9) := by kernel_rfl
theorem Xa : Jy Try.prog 59 = some (false, 1) := by kernel_rfl
theorem YA : Jy Try.prog 60 = some (false, 1) := by kernel_rfl
theorem ag_78 : Jy Try.prog 78 = some (false, 1) := by kernel_rfl
theorem ZB : JE Try.prog 35 = some [.int .i64 0, .int .i64 0, .int .i64 0, .int .i64 0, .int .i64 0, .int .i64 0, .string ByteArray.empty, .slice none 0 0, .slice none 0 0] := by kernel_rfl
theorem bd_90 : Yj Try.prog 90 [(0, 1)] [.int .i64 0] := ⟨by kernel_rfl, by kernel_rfl⟩
theorem YL : X4 Try.prog 60 = some (false, .agg [.d (.v (.int .i64 0)), .d (.v (.int .i64 0)), .d (.v (.int .i64 0)), .d (.v (.int .i64 0)), .d (.v (.int .i64 0)), .d (.v (.int .i64 0)), .d (.v (.string ByteArray.empty)), .d (.v (.slice none 0 0)), .d (.v (.slice none 0 0))]) := by kernel_rfl
theorem en_44 : J3 Try.prog 44 := enters_of Try.func44 (by kernel_rfl) rfl
theorem en_45 : J3 Try.prog 45 := enters_of Try.func45 (by kernel_rfl) rfl
theorem en_62 : J3 Try.prog 62 := enters_of Try.func62 (by kernel_rfl) rfl
theorem en_83 : J3 Try.prog 83 := enters_of Try.func83 (by kernel_rfl) rfl
theorem en_98 : J3 Try.prog 98 := enters_of Try.func98 (by kernel_rfl) rfl
theorem en_99 : J3 Try.prog 99 := enters_of Try.func99 (by kernel_rfl) rfl
theorem en_104 : J3 Try.prog 104 := enters_of Try.func104 (by kernel_rfl) rfl
noncomputable def YM : Code := (UC (UC (UB (UB (UB (UB (Kf Try.f46)))))))
noncomputable def Yq : Code := (UB (UC (UB (UB (UB (UB (Kf Try.f46)))))))
noncomputable def Zu : Code := (UC (UC (UB (UC (UB (UB (Kf Try.f47)))))))
noncomputable def Zt : Code := (UB (UC (UB (UC (UB (UB (Kf Try.f47)))))))
noncomputable def K6 : Code := (UC (UC (UB (UC (UB (UB (UB (UB (UB (UB (UB (UB (UB (Kf Try.f30))))))))))))))
noncomputable def K5 : Code := (UB (UC (UB (UC (UB (UB (UB (UB (UB (UB (UB (UB (UB (Kf Try.f30))))))))))))))
noncomputable def GL : Code := (UC (UC (UB (UB (UB (UB (UC (UC (UB (UB (UC (UC (UB (UC (UB (UB (UB (Kf Try.f11))))))))))))))))))
noncomputable def GK : Code := (UB (UC (UB (UB (UB (UB (UC (UC (UB (UB (UC (UC (UB (UC (UB (UB (UB (Kf Try.f11))))))))))))))))))
def JL (a0 : Bool) (a1 : Int) : Option (Unit ⊕ Unit) :=
 cond (!a0)
   (some (.inr ()))
   (some (.inl ()))
set_option maxRecDepth 100000 in
set_option maxHeartbeats 2000000 in
theorem QB (a0 : Bool) (a1 : Int) (r : Unit ⊕ Unit) (h0 : JL a0 a1 = some r) : CallE Try.prog 62 [.one (Uy a0), .one (Ux a1)] ⟨[], [], 0⟩ ((Sum.elim (fun (r0 : Unit) => ((.ret []) : EK)) (fun (r1 : Unit) => ((.pan (QJ 90 a1)) : EK))) r) ⟨((Sum.elim (fun (r0 : Unit) => (⟨[], [], [], 0, 9, []⟩ : St)) (fun (r1 : Unit) => (⟨[], [], [], 0, 9, []⟩ : St))) r).hp, ((Sum.elim (fun (r0 : Unit) => (⟨[], [], [], 0, 9, []⟩ : St)) (fun (r1 : Unit) => (⟨[], [], [], 0, 9, []⟩ : St))) r).tk, ((Sum.elim (fun (r0 : Unit) => (⟨[], [], [], 0, 9, []⟩ : St)) (fun (r1 : Unit) => (⟨[], [], [], 0, 9, []⟩ : St))) r).nx⟩ := by
 unfold JL at h0
 refine JP r ((Sum.elim (fun (r0 : Unit) => (⟨[], [], [], 0, 9, []⟩ : St)) (fun (r1 : Unit) => (⟨[], [], [], 0, 9, []⟩ : St)))) ((Sum.elim (fun (r0 : Unit) => ((.ret []) : EK)) (fun (r1 : Unit) => ((.pan (QJ 90 a1)) : EK)))) rfl rfl en_62 (Um rfl) (fun z_ => by cases z_ with
 | inl _ => exact rfl
 | inr _ => exact rfl) (fun z_ => by cases z_ with
 | inl _ => exact (WA .nil)
 | inr _ => exact WG) (fun w0 M V0 Q hv0 hQ0 => ?_)
 simp only [J7]
 refine Q5 <| Q0 <| Uf rfl rfl rfl <| Ue rfl rfl rfl (Jb rfl) <| Q4 <| Q3 ?_
 refine Qg (b := (!a0)) rfl (fun c1 => ?_) (fun c1 => ?_)
 replace h0 := Qk c1 h0
 refine Q0 <| Uf rfl rfl rfl <| Ue rfl rfl rfl (Gf bd_90 rfl rfl rfl) <| Ue rfl rfl rfl (RO.wrong wrong_st rfl) <| Jd rfl (OpD.panic rfl) ?_
 have e := Uc h0; subst e
 exact Jn (hQ0 (.panic (Jz (QJ 90 a1))) _ ZP rfl (show StLe _ _ ⟨[], [], [], 0, 9, []⟩ from (Ub (Nat.le_trans hv0 (Um rfl)) rfl rfl rfl rfl rfl))) (fun _ _ h => h)
 replace h0 := Ql c1 h0
 refine Qj ?_
 have e := Uc h0; subst e
 exact hQ0 _ _ WW rfl (show StLe _ _ ⟨[], [], [], 0, 9, []⟩ from (Ub (Nat.le_trans hv0 (Um rfl)) rfl rfl rfl rfl rfl))
def m44f5_l0 (a0 : Dcl) (s1 : Int) : Option (LO Int (Unit ⊕ (Unit ⊕ Int))) :=
 cond (decide (s1 < (a0.funs.length : Int)))
   (Option.bind (Yi a0.funs s1) fun (x12 : Fn) =>
 Option.bind (cond (decide (1 ≤ x12.arity))
   (Option.bind (JL (decide (x12.arity ≤ 16)) 3) (Sum.elim (fun (x16 : Unit) => some (.inl ())) (fun (x17 : Unit) => some (.inr (.inr 3)))))
   (Option.bind (JL false 3) (Sum.elim (fun (x19 : Unit) => some (.inl ())) (fun (x20 : Unit) => some (.inr (.inr 3)))))) (Sum.elim (fun (v13 : Unit) => some (.next (Jk (s1 + 1)))) (fun o => some (.done (.inr o)))))
   (some (.done (.inl ())))
def m44f5_l1 (a0 : Dcl) (s1 : (List Tm) × Int) : Option (LO ((List Tm) × Int) (((List Tm)))) :=
 cond (decide (s1.2 < (a0.ctors.length : Int)))
   (Option.bind (Yi a0.ctors s1.2) fun (x15 : Ctr) =>
 J8 (Nat.ble (s1.1.length + ([x15.ty]).length) 1000000000)
 (some (.next ((s1.1 ++ ([x15.ty])), (Jk (s1.2 + 1))))))
   (some (.done s1.1))
def GB (o13 : (List Tm)) (a0 : Dcl) (s1 : Int) : Option (LO Int (Unit ⊕ (Unit ⊕ Int))) :=
 cond (decide (s1 < (o13.length : Int)))
   (Option.bind (Yi o13 s1) fun (x16 : Tm) =>
 Option.bind (m64 x16) fun (x17 : (List Tm) × Tm) =>
 Option.bind (JL (decide (a0.fixed ≤ (x17.1.length : Int))) 3) (Sum.elim (fun (x19 : Unit) => some (.next (Jk (s1 + 1)))) (fun (x20 : Unit) => some (.done (.inr (.inr 3))))))
   (some (.done (.inl ())))
def m44f5_k3 (p0_ : Dcl) : Option (Unit ⊕ Int) :=
 cond (p0_.kind == 3)
   (Option.bind (cond ((Jk (p0_.rcr.params - p0_.params)) == 0)
   (Option.bind (JL ((p0_.rcr.rules.length : Int) == (p0_.ctors.length : Int)) 3) (Sum.elim (fun (b0_ : Unit) => some (.inl ())) (fun (b1_ : Unit) => some (.inr (.inr 3)))))
   (cond ((Jk (p0_.rcr.params - p0_.params)) == 1)
   (Option.bind (JL ((p0_.rcr.rules.length : Int) == (p0_.ctors.length : Int)) 3) (Sum.elim (fun (b2_ : Unit) => some (.inl ())) (fun (b3_ : Unit) => some (.inr (.inr 3)))))
   (Option.bind (JL false 3) (Sum.elim (fun (b4_ : Unit) => some (.inl ())) (fun (b5_ : Unit) => some (.inr (.inr 3))))))) (Sum.elim (fun (b6_ : Unit) => Option.bind (QV (m44f5_l1 p0_) J2 ([p0_.ty], 0)) (fun (b7_ : (List Tm)) => Option.bind (QV (GB b7_ p0_) J2 0) (Sum.elim (fun (b8_ : Unit) => some (.inl ())) (fun o => some o)))) (fun o => some o)))
   (some (.inl ()))
def m44f5_k4 (p0_ : Dcl) : Option (Unit ⊕ Int) :=
 Option.bind (cond (decide ((p0_.ctors.length : Int) ≤ 32))
   (cond (!(p0_.kind == 4))
   (Option.bind (JL true 6) (Sum.elim (fun (b0_ : Unit) => some (.inl ())) (fun (b1_ : Unit) => some (.inr (.inr 6)))))
   (cond (decide (1 ≤ (p0_.funs.length : Int)))
   (Option.bind (JL (decide ((p0_.funs.length : Int) ≤ 8)) 6) (Sum.elim (fun (b2_ : Unit) => some (.inl ())) (fun (b3_ : Unit) => some (.inr (.inr 6)))))
   (Option.bind (JL false 6) (Sum.elim (fun (b4_ : Unit) => some (.inl ())) (fun (b5_ : Unit) => some (.inr (.inr 6)))))))
   (Option.bind (JL false 6) (Sum.elim (fun (b6_ : Unit) => some (.inl ())) (fun (b7_ : Unit) => some (.inr (.inr 6)))))) (Sum.elim (fun (b8_ : Unit) => Option.bind (QV (m44f5_l0 p0_) J2 0) (Sum.elim (fun (b9_ : Unit) => m44f5_k3 p0_) (fun o => some o))) (fun o => some o))
def m44f5_k5 (p0_ : Dcl) : Option (Unit ⊕ Int) :=
 Option.bind (cond (decide (0 ≤ p0_.params))
   (cond (decide (p0_.params ≤ 8))
   (Option.bind (JL (decide (0 ≤ p0_.fixed)) 2) (Sum.elim (fun (b0_ : Unit) => some (.inl ())) (fun (b1_ : Unit) => some (.inr (.inr 2)))))
   (Option.bind (JL false 2) (Sum.elim (fun (b2_ : Unit) => some (.inl ())) (fun (b3_ : Unit) => some (.inr (.inr 2))))))
   (Option.bind (JL false 2) (Sum.elim (fun (b4_ : Unit) => some (.inl ())) (fun (b5_ : Unit) => some (.inr (.inr 2)))))) (Sum.elim (fun (b6_ : Unit) => m44f5_k4 p0_) (fun o => some o))
def m44f5_k6 (p0_ : Dcl) (p1_ : Bool) : Option (Unit ⊕ Int) :=
 Option.bind (cond (p0_.kind == 3)
   (Option.bind (JL true 3) (Sum.elim (fun (b0_ : Unit) => some (.inl ())) (fun (b1_ : Unit) => some (.inr (.inr 3)))))
   (cond (p0_.fixed == 0)
   (cond ((p0_.ctors.length : Int) == 0)
   (Option.bind (JL p1_ 3) (Sum.elim (fun (b2_ : Unit) => some (.inl ())) (fun (b3_ : Unit) => some (.inr (.inr 3)))))
   (Option.bind (JL false 3) (Sum.elim (fun (b4_ : Unit) => some (.inl ())) (fun (b5_ : Unit) => some (.inr (.inr 3))))))
   (Option.bind (JL false 3) (Sum.elim (fun (b6_ : Unit) => some (.inl ())) (fun (b7_ : Unit) => some (.inr (.inr 3))))))) (Sum.elim (fun (b8_ : Unit) => m44f5_k5 p0_) (fun o => some o))
def m44f5_k7 (p0_ : Dcl) : Option (Unit ⊕ Int) :=
 Option.bind (cond (!(p0_.kind == 4))
   (Option.bind (JL true 3) (Sum.elim (fun (b0_ : Unit) => some (.inl ())) (fun (b1_ : Unit) => some (.inr (.inr 3)))))
   (cond (p0_.name == ([] : List UInt8))
   (Option.bind (WV p0_.ty) fun (b2_ : Bool) =>
 Option.bind (JL b2_ 3) (Sum.elim (fun (b3_ : Unit) => some (.inl ())) (fun (b4_ : Unit) => some (.inr (.inr 3)))))
   (Option.bind (JL false 3) (Sum.elim (fun (b5_ : Unit) => some (.inl ())) (fun (b6_ : Unit) => some (.inr (.inr 3))))))) (Sum.elim (fun (b7_ : Unit) => Option.bind (cond (p0_.rcr.params == 0)
   (Option.bind (WV p0_.rcr.ty) fun (b0_ : Bool) =>
 cond b0_
   (some ((p0_.rcr.rules.length : Int) == 0))
   (some false))
   (some false)) (fun (b8_ : Bool) => m44f5_k6 p0_ b8_)) (fun o => some o))
def m44f5_k8 (p0_ : Dcl) : Option (Unit ⊕ Int) :=
 Option.bind (cond (p0_.kind == 4)
   (Option.bind (JL true 3) (Sum.elim (fun (b0_ : Unit) => some (.inl ())) (fun (b1_ : Unit) => some (.inr (.inr 3)))))
   (Option.bind (JL ((p0_.funs.length : Int) == 0) 3) (Sum.elim (fun (b2_ : Unit) => some (.inl ())) (fun (b3_ : Unit) => some (.inr (.inr 3)))))) (Sum.elim (fun (b4_ : Unit) => m44f5_k7 p0_) (fun o => some o))
def m44f5_k9 (p0_ : Bool) (p1_ : Dcl) : Option (Unit ⊕ Int) :=
 Option.bind (cond p0_
   (Option.bind (JL true 3) (Sum.elim (fun (b0_ : Unit) => some (.inl ())) (fun (b1_ : Unit) => some (.inr (.inr 3)))))
   (Option.bind (WV p1_.value) fun (b2_ : Bool) =>
 Option.bind (JL b2_ 3) (Sum.elim (fun (b3_ : Unit) => some (.inl ())) (fun (b4_ : Unit) => some (.inr (.inr 3)))))) (Sum.elim (fun (b5_ : Unit) => m44f5_k8 p1_) (fun o => some o))
def m44f5 (a0 : Dcl) : Option (Unit ⊕ Int) :=
 Option.bind (cond (decide (0 ≤ a0.kind))
   (Option.bind (JL (decide (a0.kind ≤ 4)) 1) (Sum.elim (fun (x4 : Unit) => some (.inl ())) (fun (x5 : Unit) => some (.inr (.inr 1)))))
   (Option.bind (JL false 1) (Sum.elim (fun (x7 : Unit) => some (.inl ())) (fun (x8 : Unit) => some (.inr (.inr 1)))))) (Sum.elim (fun (v1 : Unit) => Option.bind (cond (a0.kind == 1)
   (some true)
   (some (a0.kind == 2))) (fun (v2 : Bool) => m44f5_k9 v2 a0)) (fun o => some o))
set_option maxRecDepth 100000 in
set_option maxHeartbeats 2000000 in
theorem m44f5_ok (a0 : Dcl) (r : Unit ⊕ Int) (h0 : m44f5 a0 = some r) : CallE Try.prog 44 [.agg (UA a0)] ⟨[], [], 0⟩ ((Sum.elim (fun (r0 : Unit) => ((.ret []) : EK)) (fun (r1 : Int) => ((.pan (QJ 90 r1)) : EK))) r) ⟨((Sum.elim (fun (r0 : Unit) => (⟨[], [], [], 1, 210, []⟩ : St)) (fun (r1 : Int) => (⟨[], [], [], 1, 210, []⟩ : St))) r).hp, ((Sum.elim (fun (r0 : Unit) => (⟨[], [], [], 1, 210, []⟩ : St)) (fun (r1 : Int) => (⟨[], [], [], 1, 210, []⟩ : St))) r).tk, ((Sum.elim (fun (r0 : Unit) => (⟨[], [], [], 1, 210, []⟩ : St)) (fun (r1 : Int) => (⟨[], [], [], 1, 210, []⟩ : St))) r).nx⟩ := by
 unfold m44f5 at h0
 refine JP r ((Sum.elim (fun (r0 : Unit) => (⟨[], [], [], 1, 210, []⟩ : St)) (fun (r1 : Int) => (⟨[], [], [], 1, 210, []⟩ : St)))) ((Sum.elim (fun (r0 : Unit) => ((.ret []) : EK)) (fun (r1 : Int) => ((.pan (QJ 90 r1)) : EK)))) rfl rfl en_44 (Um rfl) (fun z_ => by cases z_ with
 | inl _ => exact rfl
 | inr _ => exact rfl) (fun z_ => by cases z_ with
 | inl _ => exact (WA .nil)
 | inr _ => exact WG) (fun w0 M V0 Q hv0 hQ0 => ?_)
 simp only [J7]
 refine Q5 <| Q0 <| Q9 rfl rfl (Um rfl) (QN rfl) <| Q4 <| Q3 <| Q5 ?_
 refine QS (fun (v1 : Unit) => ⟨[(1, .v (.one (.ptr 0 0)))], [(0, .cells 45 (UA a0))], [], 1, 210, []⟩) (fun (v1 : Unit) => (Option.bind (cond (a0.kind == 1)
     (some true)
     (some (a0.kind == 2))) (fun (v2 : Bool) => m44f5_k9 v2 a0)) = some r) ?_ ?_
 refine Qb h0 (fun w1_ h1 h0 => ?_)
 refine Q0 <| Ue rfl rfl rfl (Q1 Yn rfl) <| Ue rfl rfl rfl (Q6 QZ rfl rfl rfl) <| Ue rfl rfl rfl (Q7 rfl rfl rfl) <| Uf rfl rfl rfl ?_
 refine QG (d := 19) (c := (decide (0 ≤ a0.kind))) rfl (fun c2 => ?_) (fun c2 => ?_)
 replace h1 := Qk c2 h1
 refine Ue rfl rfl rfl (Q1 Yn rfl) <| Ue rfl rfl rfl (Q6 QZ rfl rfl rfl) <| Ue rfl rfl rfl (Q7 rfl rfl rfl) <| Ue rfl rfl rfl (Qh rfl rfl) ?_
 refine Qb h1 (fun x3 hx3 h1 => ?_)
 refine JY id hx3 h1 (fun x4 hx4 h1 => ?_) (fun x5 hx5 h1 => ?_)
 refine Q9 rfl rfl (Um rfl) (QE rfl rfl rfl (CallE.m (QB (decide (a0.kind ≤ 4)) 1 (.inl x4) hx4)) rfl) <| Q4 ?_
 have e := Uc h1; subst e
 replace h0 := Kz h0
 exact Qc () (Ub (Nat.le_trans hv0 (Um rfl)) rfl rfl rfl rfl rfl) h0
 refine Jd rfl (QH rfl rfl rfl (CallE.d (QB (decide (a0.kind ≤ 4)) 1 (.inr x5) hx5))) ?_
 have e := Uc h1; subst e
 replace h0 := KX h0
 have e := Uc h0; subst e
 exact Jn (hQ0 (.panic (Jz (QJ 90 1))) _ ZP rfl (show StLe _ _ ⟨[], [], [], 1, 210, []⟩ from (Ub (Nat.le_trans hv0 (Um rfl)) rfl rfl rfl rfl rfl))) (fun _ _ h => h)
 replace h1 := Ql c2 h1
 refine Q8 rfl rfl <| Q8 rfl rfl <| Q8 rfl rfl <| Ue rfl rfl rfl (Qd rfl rfl) ?_
 refine Qb h1 (fun x6 hx6 h1 => ?_)
 refine JY id hx6 h1 (fun x7 hx7 h1 => ?_) (fun x8 hx8 h1 => ?_)
 refine Q9 rfl rfl (Um rfl) (QE rfl rfl rfl (CallE.m (QB false 1 (.inl x7) hx7)) rfl) <| Q4 ?_
 have e := Uc h1; subst e
 replace h0 := Kz h0
 exact Qc () (Ub (Nat.le_trans hv0 (Um rfl)) rfl rfl rfl rfl rfl) h0
 refine Jd rfl (QH rfl rfl rfl (CallE.d (QB false 1 (.inr x8) hx8))) ?_
 have e := Uc h1; subst e
 replace h0 := KX h0
 have e := Uc h0; subst e
 exact Jn (hQ0 (.panic (Jz (QJ 90 1))) _ ZP rfl (show StLe _ _ ⟨[], [], [], 1, 210, []⟩ from (Ub (Nat.le_trans hv0 (Um rfl)) rfl rfl rfl rfl rfl))) (fun _ _ h => h)
 intro v1 h0
 refine Q3 <| Q5 ?_
 refine QS (fun (v9 : Bool) => ⟨[(1, .v (.one (.ptr 0 0))), (2, .v (.one (Uy v9)))], [(0, .cells 45 (UA a0))], [], 1, 210, []⟩) (fun (v9 : Bool) => (m44f5_k9 v9 a0) = some r) ?_ ?_
 refine Qb h0 (fun w1_ h1 h0 => ?_)
 refine Q0 <| Ue rfl rfl rfl (Q1 Yn rfl) <| Ue rfl rfl rfl (Q6 QZ rfl rfl rfl) <| Ue rfl rfl rfl (Q7 rfl rfl rfl) <| Uf rfl rfl rfl ?_
 refine QG (d := 28) (c := (a0.kind == 1)) rfl (fun c10 => ?_) (fun c10 => ?_)
 replace h1 := Qk c10 h1
 refine Q8 rfl rfl <| Q8 rfl rfl <| Q8 rfl rfl <| Ue rfl rfl rfl (Qh rfl rfl) <| Ug rfl rfl rfl <| Q4 ?_
 have e := Uc h1; subst e
 exact Qc true (Ub (Nat.le_trans hv0 (Um rfl)) rfl rfl rfl rfl rfl) h0
 replace h1 := Ql c10 h1
 refine Ue rfl rfl rfl (Q1 Yn rfl) <| Ue rfl rfl rfl (Q6 QZ rfl rfl rfl) <| Ue rfl rfl rfl (Q7 rfl rfl rfl) <| Ue rfl rfl rfl (Qd rfl rfl) <| Ug rfl rfl rfl <| Q4 ?_
 have e := Uc h1; subst e
 exact Qc (a0.kind == 2) (Ub (Nat.le_trans hv0 (Um rfl)) rfl rfl rfl rfl rfl) h0
 intro v9 h0
 unfold m44f5_k9 at h0
 refine Q3 <| Q5 <| Q0 <| Ue rfl rfl rfl (Q1 Yn rfl) <| Ue rfl rfl rfl (Q6 QZ rfl rfl rfl) <| Ue rfl rfl rfl (Q7 rfl rfl rfl) <| Ug rfl rfl rfl <| Q4 <| Q3 <| Q5 <| Q0 <| Ue rfl rfl rfl (Q1 Yn rfl) <| Ue rfl rfl rfl (Q6 QZ rfl rfl rfl) <| Ue rfl rfl rfl (Q7 rfl rfl rfl) ?_
 refine Ug rfl rfl rfl <| Q4 <| Q3 <| Q5 ?_
 refine QS (fun (v11 : Unit) => ⟨[(1, .v (.one (.ptr 0 0))), (3, .v (.one (Uy (a0.kind == 3)))), (4, .v (.one (Uy (a0.kind == 4))))], [(0, .cells 45 (UA a0))], [], 1, 210, []⟩) (fun (v11 : Unit) => (m44f5_k8 a0) = some r) ?_ ?_
 refine Qb h0 (fun w1_ h1 h0 => ?_)
 refine Q0 <| Uf rfl rfl rfl <| Uf rfl rfl rfl ?_
 refine QG (d := 40) (c := v9) rfl (fun c12 => ?_) (fun c12 => ?_)
 replace h1 := Qk c12 h1
 refine Q8 rfl rfl <| Q8 rfl rfl <| Q8 rfl rfl <| Ue rfl rfl rfl (Qh rfl rfl) ?_
 refine Qb h1 (fun x13 hx13 h1 => ?_)
 refine JY id hx13 h1 (fun x14 hx14 h1 => ?_) (fun x15 hx15 h1 => ?_)
 refine Q9 rfl rfl (Um rfl) (QE rfl rfl rfl (CallE.m (QB true 3 (.inl x14) hx14)) rfl) <| Q4 ?_
 have e := Uc h1; subst e
 replace h0 := Kz h0
 exact Qc () (Ub (Nat.le_trans hv0 (Um rfl)) rfl rfl rfl rfl rfl) h0
 refine Jd rfl (QH rfl rfl rfl (CallE.d (QB true 3 (.inr x15) hx15))) ?_
 have e := Uc h1; subst e
 replace h0 := KX h0
 have e := Uc h0; subst e
 exact Jn (hQ0 (.panic (Jz (QJ 90 3))) _ ZP rfl (show StLe _ _ ⟨[], [], [], 1, 210, []⟩ from (Ub (Nat.le_trans hv0 (Um rfl)) rfl rfl rfl rfl rfl))) (fun _ _ h => h)
 replace h1 := Ql c12 h1
 refine Ue rfl rfl rfl (Q1 X1 rfl) <| Ue rfl rfl rfl (Qi QW rfl rfl rfl rfl) ?_
 refine Qb h1 (fun x16 hx16 h1 => ?_)
 refine Q9 rfl rfl (Um rfl) (Qo (Wc a0.value x16 hx16) rfl (.cons (.agg (.cons (.d _) (.cons (.d _) (.cons (.d _) (.cons (.d _) (.cons (.d _) .nil)))))) .nil)) <| Ue rfl rfl rfl (Qd rfl rfl) ?_
 refine Qb h1 (fun x17 hx17 h1 => ?_)
 refine JY id hx17 h1 (fun x18 hx18 h1 => ?_) (fun x19 hx19 h1 => ?_)
 refine Q9 rfl rfl (Um rfl) (QE rfl rfl rfl (CallE.m (QB x16 3 (.inl x18) hx18)) rfl) <| Q4 ?_
 have e := Uc h1; subst e
 replace h0 := Kz h0
 exact Qc () (Ub (Nat.le_trans hv0 (Um rfl)) rfl rfl rfl rfl rfl) h0
 refine Jd rfl (QH rfl rfl rfl (CallE.d (QB x16 3 (.inr x19) hx19))) ?_
 have e := Uc h1; subst e
 replace h0 := KX h0
 have e := Uc h0; subst e
 exact Jn (hQ0 (.panic (Jz (QJ 90 3))) _ ZP rfl (show StLe _ _ ⟨[], [], [], 1, 210, []⟩ from (Ub (Nat.le_trans hv0 (Um rfl)) rfl rfl rfl rfl rfl))) (fun _ _ h => h)
 intro v11 h0
 unfold m44f5_k8 at h0
 refine Q3 <| Q5 ?_
 refine QS (fun (v20 : Unit) => ⟨[(1, .v (.one (.ptr 0 0))), (3, .v (.one (Uy (a0.kind == 3)))), (4, .v (.one (Uy (a0.kind == 4))))], [(0, .cells 45 (UA a0))], [], 1, 210, []⟩) (fun (v20 : Unit) => (m44f5_k7 a0) = some r) ?_ ?_
 refine Qb h0 (fun w1_ h1 h0 => ?_)
 refine Q0 <| Uf rfl rfl rfl <| Uf rfl rfl rfl ?_
 refine QG (d := 47) (c := (a0.kind == 4)) rfl (fun c21 => ?_) (fun c21 => ?_)
 replace h1 := Qk c21 h1
 refine Q8 rfl rfl <| Q8 rfl rfl <| Q8 rfl rfl <| Q8 rfl rfl <| Ue rfl rfl rfl (Qh rfl rfl) ?_
 refine Qb h1 (fun x22 hx22 h1 => ?_)
 refine JY id hx22 h1 (fun x23 hx23 h1 => ?_) (fun x24 hx24 h1 => ?_)
 refine Q9 rfl rfl (Um rfl) (QE rfl rfl rfl (CallE.m (QB true 3 (.inl x23) hx23)) rfl) <| Q4 ?_
 have e := Uc h1; subst e
 replace h0 := Kz h0
 exact Qc () (Ub (Nat.le_trans hv0 (Um rfl)) rfl rfl rfl rfl rfl) h0
 refine Jd rfl (QH rfl rfl rfl (CallE.d (QB true 3 (.inr x24) hx24))) ?_
 have e := Uc h1; subst e
 replace h0 := KX h0
 have e := Uc h0; subst e
 exact Jn (hQ0 (.panic (Jz (QJ 90 3))) _ ZP rfl (show StLe _ _ ⟨[], [], [], 1, 210, []⟩ from (Ub (Nat.le_trans hv0 (Um rfl)) rfl rfl rfl rfl rfl))) (fun _ _ h => h)
 replace h1 := Ql c21 h1
 refine Ue rfl rfl rfl (Q1 Y2 rfl) <| Ue rfl rfl rfl (Q6 YZ rfl rfl rfl) <| Ue rfl rfl rfl (Qx (α := Fn) Yk rfl (.d _)) <| Ue rfl rfl rfl (Q7 rfl rfl rfl) <| Ue rfl rfl rfl (Qd rfl rfl) ?_
 refine Qb h1 (fun x25 hx25 h1 => ?_)
 refine JY id hx25 h1 (fun x26 hx26 h1 => ?_) (fun x27 hx27 h1 => ?_)
 refine Q9 rfl rfl (Um rfl) (QE rfl rfl rfl (CallE.m (QB ((a0.funs.length : Int) == 0) 3 (.inl x26) hx26)) rfl) <| Q4 ?_
 have e := Uc h1; subst e
 replace h0 := Kz h0
 exact Qc () (Ub (Nat.le_trans hv0 (Um rfl)) rfl rfl rfl rfl rfl) h0
 refine Jd rfl (QH rfl rfl rfl (CallE.d (QB ((a0.funs.length : Int) == 0) 3 (.inr x27) hx27))) ?_
 have e := Uc h1; subst e
 replace h0 := KX h0
 have e := Uc h0; subst e
 exact Jn (hQ0 (.panic (Jz (QJ 90 3))) _ ZP rfl (show StLe _ _ ⟨[], [], [], 1, 210, []⟩ from (Ub (Nat.le_trans hv0 (Um rfl)) rfl rfl rfl rfl rfl))) (fun _ _ h => h)
 intro v20 h0
 unfold m44f5_k7 at h0
 refine Q3 <| Q5 ?_
 refine QS (fun (v28 : Unit) => ⟨[(1, .v (.one (.ptr 0 0))), (3, .v (.one (Uy (a0.kind == 3)))), (4, .v (.one (Uy (a0.kind == 4))))], [(0, .cells 45 (UA a0))], [], 1, 210, []⟩) (fun (v28 : Unit) => (Option.bind (cond (a0.rcr.params == 0)
     (Option.bind (WV a0.rcr.ty) fun (x31 : Bool) =>
   cond x31
     (some ((a0.rcr.rules.length : Int) == 0))
     (some false))
     (some false)) (fun (v29 : Bool) => m44f5_k6 a0 v29)) = some r) ?_ ?_
 refine Qb h0 (fun w1_ h1 h0 => ?_)
 refine Q0 <| Uf rfl rfl rfl <| Ue rfl rfl rfl (Jb rfl) <| Uf rfl rfl rfl ?_
 refine QG (d := 56) (c := (!(a0.kind == 4))) rfl (fun c29 => ?_) (fun c29 => ?_)
 replace h1 := Qk c29 h1
 refine Q8 rfl rfl <| Q8 rfl rfl <| Q8 rfl rfl <| Q8 rfl rfl <| Q8 rfl rfl <| Q8 rfl rfl <| Q8 rfl rfl <| Q8 rfl rfl <| Ue rfl rfl rfl (Qh rfl rfl) ?_
 refine Qb h1 (fun x30 hx30 h1 => ?_)
 refine JY id hx30 h1 (fun x31 hx31 h1 => ?_) (fun x32 hx32 h1 => ?_)
 refine Q9 rfl rfl (Um rfl) (QE rfl rfl rfl (CallE.m (QB true 3 (.inl x31) hx31)) rfl) <| Q4 ?_
 have e := Uc h1; subst e
 replace h0 := Kz h0
 exact Qc () (Ub (Nat.le_trans hv0 (Um rfl)) rfl rfl rfl rfl rfl) h0
 refine Jd rfl (QH rfl rfl rfl (CallE.d (QB true 3 (.inr x32) hx32))) ?_
 have e := Uc h1; subst e
 replace h0 := KX h0
 have e := Uc h0; subst e
 exact Jn (hQ0 (.panic (Jz (QJ 90 3))) _ ZP rfl (show StLe _ _ ⟨[], [], [], 1, 210, []⟩ from (Ub (Nat.le_trans hv0 (Um rfl)) rfl rfl rfl rfl rfl))) (fun _ _ h => h)
 replace h1 := Ql c29 h1
 refine Ue rfl rfl rfl (Q1 Y8 rfl) <| Ue rfl rfl rfl (Q6 JG rfl rfl rfl) <| Ue rfl rfl rfl (KL rfl rfl) <| Uf rfl rfl rfl ?_
 refine QG (d := 60) (c := (a0.name == ([] : List UInt8))) rfl (fun c33 => ?_) (fun c33 => ?_)
 replace h1 := Qk c33 h1
 refine Ue rfl rfl rfl (Q1 K4 rfl) <| Ue rfl rfl rfl (Qi QW rfl rfl rfl rfl) ?_
 refine Qb h1 (fun x34 hx34 h1 => ?_)
 refine Q9 rfl rfl (Um rfl) (Qo (Wc a0.ty x34 hx34) rfl (.cons (.agg (.cons (.d _) (.cons (.d _) (.cons (.d _) (.cons (.d _) (.cons (.d _) .nil)))))) .nil)) <| Ue rfl rfl rfl (Qh rfl rfl) <| Ue rfl rfl rfl (Qd rfl rfl) ?_
 refine Qb h1 (fun x35 hx35 h1 => ?_)
 refine JY id hx35 h1 (fun x36 hx36 h1 => ?_) (fun x37 hx37 h1 => ?_)
 refine Q9 rfl rfl (Um rfl) (QE rfl rfl rfl (CallE.m (QB x34 3 (.inl x36) hx36)) rfl) <| Q4 ?_
 have e := Uc h1; subst e
 replace h0 := Kz h0
 exact Qc () (Ub (Nat.le_trans hv0 (Um rfl)) rfl rfl rfl rfl rfl) h0
 refine Jd rfl (QH rfl rfl rfl (CallE.d (QB x34 3 (.inr x37) hx37))) ?_
 have e := Uc h1; subst e
 replace h0 := KX h0
 have e := Uc h0; subst e
 exact Jn (hQ0 (.panic (Jz (QJ 90 3))) _ ZP rfl (show StLe _ _ ⟨[], [], [], 1, 210, []⟩ from (Ub (Nat.le_trans hv0 (Um rfl)) rfl rfl rfl rfl rfl))) (fun _ _ h => h)
 replace h1 := Ql c33 h1
 refine Q8 rfl rfl <| Q8 rfl rfl <| Q8 rfl rfl <| Ue rfl rfl rfl (Qd rfl rfl) <| Ue rfl rfl rfl (Qd rfl rfl) ?_
 refine Qb h1 (fun x38 hx38 h1 => ?_)
 refine JY id hx38 h1 (fun x39 hx39 h1 => ?_) (fun x40 hx40 h1 => ?_)
 refine Q9 rfl rfl (Um rfl) (QE rfl rfl rfl (CallE.m (QB false 3 (.inl x39) hx39)) rfl) <| Q4 ?_
 have e := Uc h1; subst e
 replace h0 := Kz h0
 exact Qc () (Ub (Nat.le_trans hv0 (Um rfl)) rfl rfl rfl rfl rfl) h0
 refine Jd rfl (QH rfl rfl rfl (CallE.d (QB false 3 (.inr x40) hx40))) ?_
 have e := Uc h1; subst e
 replace h0 := KX h0
 have e := Uc h0; subst e
 exact Jn (hQ0 (.panic (Jz (QJ 90 3))) _ ZP rfl (show StLe _ _ ⟨[], [], [], 1, 210, []⟩ from (Ub (Nat.le_trans hv0 (Um rfl)) rfl rfl rfl rfl rfl))) (fun _ _ h => h)
 intro v28 h0
 refine Q3 <| Q5 ?_
 refine QS (fun (v41 : Bool) => ⟨[(1, .v (.one (.ptr 0 0))), (3, .v (.one (Uy (a0.kind == 3)))), (4, .v (.one (Uy (a0.kind == 4)))), (5, .v (.one (Uy v41)))], [(0, .cells 45 (UA a0))], [], 1, 210, []⟩) (fun (v41 : Bool) => (m44f5_k6 a0 v41) = some r) ?_ ?_
 refine Qb h0 (fun w1_ h1 h0 => ?_)
 refine Q0 <| Ue rfl rfl rfl (Q1 JO rfl) <| Ue rfl rfl rfl (Q1 KU rfl) <| Ue rfl rfl rfl (Q6 QZ rfl rfl rfl) <| Ue rfl rfl rfl (Q7 rfl rfl rfl) <| Uf rfl rfl rfl ?_
 refine QG (d := 71) (c := (a0.rcr.params == 0)) rfl (fun c42 => ?_) (fun c42 => ?_)
 replace h1 := Qk c42 h1
 refine Ue rfl rfl rfl (Q1 JO rfl) <| Ue rfl rfl rfl (Q1 Kl rfl) <| Ue rfl rfl rfl (Qi QW rfl rfl rfl rfl) ?_
 refine Qb h1 (fun x43 hx43 h1 => ?_)
 refine Q9 rfl rfl (Um rfl) (Qo (Wc a0.rcr.ty x43 hx43) rfl (.cons (.agg (.cons (.d _) (.cons (.d _) (.cons (.d _) (.cons (.d _) (.cons (.d _) .nil)))))) .nil)) <| Ue rfl rfl rfl (Qh rfl rfl) <| Uf rfl rfl rfl ?_
 refine QG (d := 77) (c := x43) rfl (fun c44 => ?_) (fun c44 => ?_)
 replace h1 := Qk c44 h1
 refine Ue rfl rfl rfl (Q1 JO rfl) <| Ue rfl rfl rfl (Q1 ZG rfl) <| Ue rfl rfl rfl (Q6 JH rfl rfl rfl) <| Ue rfl rfl rfl (Qx (α := Tm) Ji rfl (.d _)) <| Ue rfl rfl rfl (Q7 rfl rfl rfl) <| Ue rfl rfl rfl (Qh rfl rfl) <| Ug rfl rfl rfl <| Q4 ?_
 have e := Uc h1; subst e
 exact Qc ((a0.rcr.rules.length : Int) == 0) (Ub (Nat.le_trans hv0 (Um rfl)) rfl rfl rfl rfl rfl) h0
 replace h1 := Ql c44 h1
 refine Q8 rfl rfl <| Q8 rfl rfl <| Q8 rfl rfl <| Q8 rfl rfl <| Q8 rfl rfl <| Ue rfl rfl rfl (Qd rfl rfl) <| Ug rfl rfl rfl <| Q4 ?_
 have e := Uc h1; subst e
 exact Qc false (Ub (Nat.le_trans hv0 (Um rfl)) rfl rfl rfl rfl rfl) h0
 replace h1 := Ql c42 h1
 refine Q8 rfl rfl <| Q8 rfl rfl <| Q8 rfl rfl <| Q8 rfl rfl <| Ue rfl rfl rfl (Qd rfl rfl) <| Uf rfl rfl rfl <| Q8 rfl rfl <| Q8 rfl rfl <| Q8 rfl rfl <| Q8 rfl rfl <| Q8 rfl rfl <| Ue rfl rfl rfl (Qd rfl rfl) <| Ug rfl rfl rfl <| Q4 ?_
 have e := Uc h1; subst e
 exact Qc false (Ub (Nat.le_trans hv0 (Um rfl)) rfl rfl rfl rfl rfl) h0
 intro v41 h0
 unfold m44f5_k6 at h0
 refine Q3 <| Q5 ?_
 refine QS (fun (v45 : Unit) => ⟨[(1, .v (.one (.ptr 0 0))), (3, .v (.one (Uy (a0.kind == 3)))), (4, .v (.one (Uy (a0.kind == 4))))], [(0, .cells 45 (UA a0))], [], 1, 210, []⟩) (fun (v45 : Unit) => (m44f5_k5 a0) = some r) ?_ ?_
 refine Qb h0 (fun w1_ h1 h0 => ?_)
 refine Q0 <| Uf rfl rfl rfl <| Uf rfl rfl rfl ?_
 refine QG (d := 85) (c := (a0.kind == 3)) rfl (fun c46 => ?_) (fun c46 => ?_)
 replace h1 := Qk c46 h1
 refine Q8 rfl rfl <| Q8 rfl rfl <| Q8 rfl rfl <| Q8 rfl rfl <| Q8 rfl rfl <| Q8 rfl rfl <| Q8 rfl rfl <| Q8 rfl rfl <| Q8 rfl rfl <| Q8 rfl rfl <| Q8 rfl rfl <| Q8 rfl rfl <| Ue rfl rfl rfl (Qh rfl rfl) ?_
 refine Qb h1 (fun x47 hx47 h1 => ?_)
 refine JY id hx47 h1 (fun x48 hx48 h1 => ?_) (fun x49 hx49 h1 => ?_)
 refine Q9 rfl rfl (Um rfl) (QE rfl rfl rfl (CallE.m (QB true 3 (.inl x48) hx48)) rfl) <| Q4 ?_
 have e := Uc h1; subst e
 replace h0 := Kz h0
 exact Qc () (Ub (Nat.le_trans hv0 (Um rfl)) rfl rfl rfl rfl rfl) h0
 refine Jd rfl (QH rfl rfl rfl (CallE.d (QB true 3 (.inr x49) hx49))) ?_
 have e := Uc h1; subst e
 replace h0 := KX h0
 have e := Uc h0; subst e
 exact Jn (hQ0 (.panic (Jz (QJ 90 3))) _ ZP rfl (show StLe _ _ ⟨[], [], [], 1, 210, []⟩ from (Ub (Nat.le_trans hv0 (Um rfl)) rfl rfl rfl rfl rfl))) (fun _ _ h => h)
 replace h1 := Ql c46 h1
 refine Ue rfl rfl rfl (Q1 fo_45_5 rfl) <| Ue rfl rfl rfl (Q6 QZ rfl rfl rfl) <| Ue rfl rfl rfl (Q7 rfl rfl rfl) <| Uf rfl rfl rfl ?_
 refine QG (d := 89) (c := (a0.fixed == 0)) rfl (fun c50 => ?_) (fun c50 => ?_)
 replace h1 := Qk c50 h1
 refine Ue rfl rfl rfl (Q1 Yc rfl) <| Ue rfl rfl rfl (Q6 Zc rfl rfl rfl) <| Ue rfl rfl rfl (Qx (α := Ctr) Yv rfl (.d _)) <| Ue rfl rfl rfl (Q7 rfl rfl rfl) <| Ue rfl rfl rfl (Qh rfl rfl) <| Uf rfl rfl rfl ?_
 refine QG (d := 95) (c := ((a0.ctors.length : Int) == 0)) rfl (fun c51 => ?_) (fun c51 => ?_)
 replace h1 := Qk c51 h1
 refine Uf rfl rfl rfl <| Ue rfl rfl rfl (Qh rfl rfl) <| Ue rfl rfl rfl (Qd rfl rfl) ?_
 refine Qb h1 (fun x52 hx52 h1 => ?_)
 refine JY id hx52 h1 (fun x53 hx53 h1 => ?_) (fun x54 hx54 h1 => ?_)
 refine Q9 rfl rfl (Um rfl) (QE rfl rfl rfl (CallE.m (QB v41 3 (.inl x53) hx53)) rfl) <| Q4 ?_
 have e := Uc h1; subst e
 replace h0 := Kz h0
 exact Qc () (Ub (Nat.le_trans hv0 (Um rfl)) rfl rfl rfl rfl rfl) h0
 refine Jd rfl (QH rfl rfl rfl (CallE.d (QB v41 3 (.inr x54) hx54))) ?_
 have e := Uc h1; subst e
 replace h0 := KX h0
 have e := Uc h0; subst e
 exact Jn (hQ0 (.panic (Jz (QJ 90 3))) _ ZP rfl (show StLe _ _ ⟨[], [], [], 1, 210, []⟩ from (Ub (Nat.le_trans hv0 (Um rfl)) rfl rfl rfl rfl rfl))) (fun _ _ h => h)
 replace h1 := Ql c51 h1
 refine Q8 rfl rfl <| Ue rfl rfl rfl (Qd rfl rfl) <| Ue rfl rfl rfl (Qd rfl rfl) ?_
 refine Qb h1 (fun x55 hx55 h1 => ?_)
 refine JY id hx55 h1 (fun x56 hx56 h1 => ?_) (fun x57 hx57 h1 => ?_)
 refine Q9 rfl rfl (Um rfl) (QE rfl rfl rfl (CallE.m (QB false 3 (.inl x56) hx56)) rfl) <| Q4 ?_
 have e := Uc h1; subst e
 replace h0 := Kz h0
 exact Qc () (Ub (Nat.le_trans hv0 (Um rfl)) rfl rfl rfl rfl rfl) h0
 refine Jd rfl (QH rfl rfl rfl (CallE.d (QB false 3 (.inr x57) hx57))) ?_
 have e := Uc h1; subst e
 replace h0 := KX h0
 have e := Uc h0; subst e
 exact Jn (hQ0 (.panic (Jz (QJ 90 3))) _ ZP rfl (show StLe _ _ ⟨[], [], [], 1, 210, []⟩ from (Ub (Nat.le_trans hv0 (Um rfl)) rfl rfl rfl rfl rfl))) (fun _ _ h => h)
 replace h1 := Ql c50 h1
 refine Q8 rfl rfl <| Q8 rfl rfl <| Q8 rfl rfl <| Q8 rfl rfl <| Ue rfl rfl rfl (Qd rfl rfl) <| Uf rfl rfl rfl <| Q8 rfl rfl <| Ue rfl rfl rfl (Qd rfl rfl) <| Ue rfl rfl rfl (Qd rfl rfl) ?_
 refine Qb h1 (fun x58 hx58 h1 => ?_)
 refine JY id hx58 h1 (fun x59 hx59 h1 => ?_) (fun x60 hx60 h1 => ?_)
 refine Q9 rfl rfl (Um rfl) (QE rfl rfl rfl (CallE.m (QB false 3 (.inl x59) hx59)) rfl) <| Q4 ?_
 have e := Uc h1; subst e
 replace h0 := Kz h0
 exact Qc () (Ub (Nat.le_trans hv0 (Um rfl)) rfl rfl rfl rfl rfl) h0
 refine Jd rfl (QH rfl rfl rfl (CallE.d (QB false 3 (.inr x60) hx60))) ?_
 have e := Uc h1; subst e
 replace h0 := KX h0
 have e := Uc h0; subst e
 exact Jn (hQ0 (.panic (Jz (QJ 90 3))) _ ZP rfl (show StLe _ _ ⟨[], [], [], 1, 210, []⟩ from (Ub (Nat.le_trans hv0 (Um rfl)) rfl rfl rfl rfl rfl))) (fun _ _ h => h)
 intro v45 h0
 unfold m44f5_k5 at h0
 refine Q3 <| Q5 ?_
 refine QS (fun (v61 : Unit) => ⟨[(1, .v (.one (.ptr 0 0))), (3, .v (.one (Uy (a0.kind == 3)))), (4, .v (.one (Uy (a0.kind == 4))))], [(0, .cells 45 (UA a0))], [], 1, 210, []⟩) (fun (v61 : Unit) => (m44f5_k4 a0) = some r) ?_ ?_
 refine Qb h0 (fun w1_ h1 h0 => ?_)
 refine Q0 <| Ue rfl rfl rfl (Q1 Ym rfl) <| Ue rfl rfl rfl (Q6 QZ rfl rfl rfl) <| Ue rfl rfl rfl (Q7 rfl rfl rfl) <| Uf rfl rfl rfl ?_
 refine QG (d := 103) (c := (decide (0 ≤ a0.params))) rfl (fun c62 => ?_) (fun c62 => ?_)
 replace h1 := Qk c62 h1
 refine Ue rfl rfl rfl (Q1 Ym rfl) <| Ue rfl rfl rfl (Q6 QZ rfl rfl rfl) <| Ue rfl rfl rfl (Q7 rfl rfl rfl) <| Ue rfl rfl rfl (Qh rfl rfl) <| Uf rfl rfl rfl ?_
 refine QG (d := 108) (c := (decide (a0.params ≤ 8))) rfl (fun c63 => ?_) (fun c63 => ?_)
 replace h1 := Qk c63 h1
 refine Ue rfl rfl rfl (Q1 fo_45_5 rfl) <| Ue rfl rfl rfl (Q6 QZ rfl rfl rfl) <| Ue rfl rfl rfl (Q7 rfl rfl rfl) <| Ue rfl rfl rfl (Qh rfl rfl) ?_
 refine Qb h1 (fun x64 hx64 h1 => ?_)
 refine JY id hx64 h1 (fun x65 hx65 h1 => ?_) (fun x66 hx66 h1 => ?_)
 refine Q9 rfl rfl (Um rfl) (QE rfl rfl rfl (CallE.m (QB (decide (0 ≤ a0.fixed)) 2 (.inl x65) hx65)) rfl) <| Q4 ?_
 have e := Uc h1; subst e
 replace h0 := Kz h0
 exact Qc () (Ub (Nat.le_trans hv0 (Um rfl)) rfl rfl rfl rfl rfl) h0
 refine Jd rfl (QH rfl rfl rfl (CallE.d (QB (decide (0 ≤ a0.fixed)) 2 (.inr x66) hx66))) ?_
 have e := Uc h1; subst e
 replace h0 := KX h0
 have e := Uc h0; subst e
 exact Jn (hQ0 (.panic (Jz (QJ 90 2))) _ ZP rfl (show StLe _ _ ⟨[], [], [], 1, 210, []⟩ from (Ub (Nat.le_trans hv0 (Um rfl)) rfl rfl rfl rfl rfl))) (fun _ _ h => h)
 replace h1 := Ql c63 h1
 refine Q8 rfl rfl <| Q8 rfl rfl <| Q8 rfl rfl <| Ue rfl rfl rfl (Qd rfl rfl) ?_
 refine Qb h1 (fun x67 hx67 h1 => ?_)
 refine JY id hx67 h1 (fun x68 hx68 h1 => ?_) (fun x69 hx69 h1 => ?_)
 refine Q9 rfl rfl (Um rfl) (QE rfl rfl rfl (CallE.m (QB false 2 (.inl x68) hx68)) rfl) <| Q4 ?_
 have e := Uc h1; subst e
 replace h0 := Kz h0
 exact Qc () (Ub (Nat.le_trans hv0 (Um rfl)) rfl rfl rfl rfl rfl) h0
 refine Jd rfl (QH rfl rfl rfl (CallE.d (QB false 2 (.inr x69) hx69))) ?_
 have e := Uc h1; subst e
 replace h0 := KX h0
 have e := Uc h0; subst e
 exact Jn (hQ0 (.panic (Jz (QJ 90 2))) _ ZP rfl (show StLe _ _ ⟨[], [], [], 1, 210, []⟩ from (Ub (Nat.le_trans hv0 (Um rfl)) rfl rfl rfl rfl rfl))) (fun _ _ h => h)
 replace h1 := Ql c62 h1
 refine Q8 rfl rfl <| Q8 rfl rfl <| Q8 rfl rfl <| Ue rfl rfl rfl (Qd rfl rfl) <| Uf rfl rfl rfl <| Q8 rfl rfl <| Q8 rfl rfl <| Q8 rfl rfl <| Ue rfl rfl rfl (Qd rfl rfl) ?_
 refine Qb h1 (fun x70 hx70 h1 => ?_)
 refine JY id hx70 h1 (fun x71 hx71 h1 => ?_) (fun x72 hx72 h1 => ?_)
 refine Q9 rfl rfl (Um rfl) (QE rfl rfl rfl (CallE.m (QB false 2 (.inl x71) hx71)) rfl) <| Q4 ?_
 have e := Uc h1; subst e
 replace h0 := Kz h0
 exact Qc () (Ub (Nat.le_trans hv0 (Um rfl)) rfl rfl rfl rfl rfl) h0
 refine Jd rfl (QH rfl rfl rfl (CallE.d (QB false 2 (.inr x72) hx72))) ?_
 have e := Uc h1; subst e
 replace h0 := KX h0
 have e := Uc h0; subst e
 exact Jn (hQ0 (.panic (Jz (QJ 90 2))) _ ZP rfl (show StLe _ _ ⟨[], [], [], 1, 210, []⟩ from (Ub (Nat.le_trans hv0 (Um rfl)) rfl rfl rfl rfl rfl))) (fun _ _ h => h)
 intro v61 h0
 unfold m44f5_k4 at h0
 refine Q3 <| Q5 ?_
 refine QS (fun (v73 : Unit) => ⟨[(1, .v (.one (.ptr 0 0))), (3, .v (.one (Uy (a0.kind == 3))))], [(0, .cells 45 (UA a0))], [], 1, 210, []⟩) (fun (v73 : Unit) => (Option.bind (QV (m44f5_l0 a0) J2 0) (Sum.elim (fun (o74 : Unit) => m44f5_k3 a0) (fun o => some o))) = some r) ?_ ?_
 refine Qb h0 (fun w1_ h1 h0 => ?_)
 refine Q0 <| Ue rfl rfl rfl (Q1 Yc rfl) <| Ue rfl rfl rfl (Q6 Zc rfl rfl rfl) <| Ue rfl rfl rfl (Qx (α := Ctr) Yv rfl (.d _)) <| Ue rfl rfl rfl (Q7 rfl rfl rfl) <| Uf rfl rfl rfl ?_
 refine QG (d := 118) (c := (decide ((a0.ctors.length : Int) ≤ 32))) rfl (fun c74 => ?_) (fun c74 => ?_)
 replace h1 := Qk c74 h1
 refine Uf rfl rfl rfl <| Ue rfl rfl rfl (Jb rfl) <| Uf rfl rfl rfl ?_
 refine QG (d := 121) (c := (!(a0.kind == 4))) rfl (fun c75 => ?_) (fun c75 => ?_)
 replace h1 := Qk c75 h1
 refine Q8 rfl rfl <| Q8 rfl rfl <| Q8 rfl rfl <| Q8 rfl rfl <| Q8 rfl rfl <| Q8 rfl rfl <| Q8 rfl rfl <| Q8 rfl rfl <| Q8 rfl rfl <| Q8 rfl rfl <| Ue rfl rfl rfl (Qh rfl rfl) <| Ue rfl rfl rfl (Qh rfl rfl) ?_
 refine Qb h1 (fun x76 hx76 h1 => ?_)
 refine JY id hx76 h1 (fun x77 hx77 h1 => ?_) (fun x78 hx78 h1 => ?_)
 refine Q9 rfl rfl (Um rfl) (QE rfl rfl rfl (CallE.m (QB true 6 (.inl x77) hx77)) rfl) <| Q4 ?_
 have e := Uc h1; subst e
 replace h0 := Kz h0
 exact Qc () (Ub (Nat.le_trans hv0 (Um rfl)) rfl rfl rfl rfl rfl) h0
 refine Jd rfl (QH rfl rfl rfl (CallE.d (QB true 6 (.inr x78) hx78))) ?_
 have e := Uc h1; subst e
 replace h0 := KX h0
 have e := Uc h0; subst e
 exact Jn (hQ0 (.panic (Jz (QJ 90 6))) _ ZP rfl (show StLe _ _ ⟨[], [], [], 1, 210, []⟩ from (Ub (Nat.le_trans hv0 (Um rfl)) rfl rfl rfl rfl rfl))) (fun _ _ h => h)
 replace h1 := Ql c75 h1
 refine Ue rfl rfl rfl (Q1 Y2 rfl) <| Ue rfl rfl rfl (Q6 YZ rfl rfl rfl) <| Ue rfl rfl rfl (Qx (α := Fn) Yk rfl (.d _)) <| Ue rfl rfl rfl (Q7 rfl rfl rfl) <| Uf rfl rfl rfl ?_
 refine QG (d := 126) (c := (decide (1 ≤ (a0.funs.length : Int)))) rfl (fun c79 => ?_) (fun c79 => ?_)
 replace h1 := Qk c79 h1
 refine Ue rfl rfl rfl (Q1 Y2 rfl) <| Ue rfl rfl rfl (Q6 YZ rfl rfl rfl) <| Ue rfl rfl rfl (Qx (α := Fn) Yk rfl (.d _)) <| Ue rfl rfl rfl (Q7 rfl rfl rfl) <| Ue rfl rfl rfl (Qh rfl rfl) <| Ue rfl rfl rfl (Qd rfl rfl) <| Ue rfl rfl rfl (Qh rfl rfl) ?_
 refine Qb h1 (fun x80 hx80 h1 => ?_)
 refine JY id hx80 h1 (fun x81 hx81 h1 => ?_) (fun x82 hx82 h1 => ?_)
 refine Q9 rfl rfl (Um rfl) (QE rfl rfl rfl (CallE.m (QB (decide ((a0.funs.length : Int) ≤ 8)) 6 (.inl x81) hx81)) rfl) <| Q4 ?_
 have e := Uc h1; subst e
 replace h0 := Kz h0
 exact Qc () (Ub (Nat.le_trans hv0 (Um rfl)) rfl rfl rfl rfl rfl) h0
 refine Jd rfl (QH rfl rfl rfl (CallE.d (QB (decide ((a0.funs.length : Int) ≤ 8)) 6 (.inr x82) hx82))) ?_
 have e := Uc h1; subst e
 replace h0 := KX h0
 have e := Uc h0; subst e
 exact Jn (hQ0 (.panic (Jz (QJ 90 6))) _ ZP rfl (show StLe _ _ ⟨[], [], [], 1, 210, []⟩ from (Ub (Nat.le_trans hv0 (Um rfl)) rfl rfl rfl rfl rfl))) (fun _ _ h => h)
 replace h1 := Ql c79 h1
 refine Q8 rfl rfl <| Q8 rfl rfl <| Q8 rfl rfl <| Q8 rfl rfl <| Ue rfl rfl rfl (Qd rfl rfl) <| Ue rfl rfl rfl (Qd rfl rfl) <| Ue rfl rfl rfl (Qh rfl rfl) ?_
 refine Qb h1 (fun x83 hx83 h1 => ?_)
 refine JY id hx83 h1 (fun x84 hx84 h1 => ?_) (fun x85 hx85 h1 => ?_)
 refine Q9 rfl rfl (Um rfl) (QE rfl rfl rfl (CallE.m (QB false 6 (.inl x84) hx84)) rfl) <| Q4 ?_
 have e := Uc h1; subst e
 replace h0 := Kz h0
 exact Qc () (Ub (Nat.le_trans hv0 (Um rfl)) rfl rfl rfl rfl rfl) h0
 refine Jd rfl (QH rfl rfl rfl (CallE.d (QB false 6 (.inr x85) hx85))) ?_
 have e := Uc h1; subst e
 replace h0 := KX h0
 have e := Uc h0; subst e
 exact Jn (hQ0 (.panic (Jz (QJ 90 6))) _ ZP rfl (show StLe _ _ ⟨[], [], [], 1, 210, []⟩ from (Ub (Nat.le_trans hv0 (Um rfl)) rfl rfl rfl rfl rfl))) (fun _ _ h => h)
 replace h1 := Ql c74 h1
 refine Q8 rfl rfl <| Q8 rfl rfl <| Q8 rfl rfl <| Q8 rfl rfl <| Q8 rfl rfl <| Q8 rfl rfl <| Q8 rfl rfl <| Q8 rfl rfl <| Q8 rfl rfl <| Q8 rfl rfl <| Q8 rfl rfl <| Q8 rfl rfl <| Q8 rfl rfl <| Q8 rfl rfl ?_
 refine Ue rfl rfl rfl (Qd rfl rfl) ?_
 refine Qb h1 (fun x86 hx86 h1 => ?_)
 refine JY id hx86 h1 (fun x87 hx87 h1 => ?_) (fun x88 hx88 h1 => ?_)
 refine Q9 rfl rfl (Um rfl) (QE rfl rfl rfl (CallE.m (QB false 6 (.inl x87) hx87)) rfl) <| Q4 ?_
 have e := Uc h1; subst e
 replace h0 := Kz h0
 exact Qc () (Ub (Nat.le_trans hv0 (Um rfl)) rfl rfl rfl rfl rfl) h0
 refine Jd rfl (QH rfl rfl rfl (CallE.d (QB false 6 (.inr x88) hx88))) ?_
 have e := Uc h1; subst e
 replace h0 := KX h0
 have e := Uc h0; subst e
 exact Jn (hQ0 (.panic (Jz (QJ 90 6))) _ ZP rfl (show StLe _ _ ⟨[], [], [], 1, 210, []⟩ from (Ub (Nat.le_trans hv0 (Um rfl)) rfl rfl rfl rfl rfl))) (fun _ _ h => h)
 intro v73 h0
 refine Q3 <| Q5 <| Q5 <| Q0 <| Ue rfl rfl rfl (Q1 Y2 rfl) <| Ue rfl rfl rfl (Q6 YZ rfl rfl rfl) <| Ue rfl rfl rfl (Qx (α := Fn) Yk rfl (.d _)) <| Uf rfl rfl rfl <| Q4 <| Q3 <| Qf ?_
 refine QR 0 (fun (o89 : Unit) => ⟨[(1, .v (.one (.ptr 0 0))), (3, .v (.one (Uy (a0.kind == 3))))], [(0, .cells 45 (UA a0))], [], 1, 210, []⟩) (fun (o89 : Unit) => (m44f5_k3 a0) = some r) ?_ ?_
 refine Qb h0 (fun o90 hl1 h0 => ?_)
 refine QQ (m44f5_l0 a0) (fun s1 => ⟨[(1, .v (.one (.ptr 0 0))), (3, .v (.one (Uy (a0.kind == 3)))), (136, .v (.one (Uv a0.funs))), (137, .v (.one (Ux (a0.funs.length : Int)))), (138, .v (.one (Ux s1)))], [(0, .cells 45 (UA a0))], [], 1, 210, []⟩) 0 o90 (Ub (Nat.le_trans hv0 (Um rfl)) rfl rfl rfl rfl rfl) hl1 (fun s1 n1 oo1 h1 ho1 => ?_)
 unfold m44f5_l0 at h1
 refine Q5 <| Q0 <| Ue rfl rfl rfl (Q7 rfl rfl rfl) <| Q4 <| Q3 <| Q5 ?_
 refine Qg (b := (decide (s1 < (a0.funs.length : Int)))) rfl (fun c91 => ?_) (fun c91 => ?_)
 replace h1 := Qk c91 h1
 refine Qj <| Q3 <| Q5 <| Qf <| Q5 <| Q0 ?_
 refine Qb h1 (fun x92 hx92 h1 => ?_)
 refine Ue rfl rfl rfl (Qq (α := Fn) Yk rfl (.d _) rfl hx92) <| Ue rfl rfl rfl (Qv (x92 : Fn) Zx rfl) <| Q9 rfl rfl (Um rfl) (Qm Wi rfl) <| Qy rfl rfl (QC (x92 : Fn) Zx rfl rfl rfl rfl rfl) <| Q4 <| Q3 ?_
 refine QS (fun (v93 : Unit) => ⟨[(1, .v (.one (.ptr 0 0))), (3, .v (.one (Uy (a0.kind == 3)))), (136, .v (.one (Uv a0.funs))), (137, .v (.one (Ux (a0.funs.length : Int)))), (138, .v (.one (Ux s1)))], [(0, .cells 45 (UA a0)), (1, .cells 76 (UA x92))], [], 2, 210, []⟩) (fun (v93 : Unit) => (some (.next (Jk (s1 + 1)))) = some oo1) ?_ ?_
 refine Qb h1 (fun w2_ h2 h1 => ?_)
 refine Q0 <| Ue rfl rfl rfl (Q1 fo_76_2 rfl) <| Ue rfl rfl rfl (Q6 QZ rfl rfl rfl) <| Ue rfl rfl rfl (Q7 rfl rfl rfl) <| Uf rfl rfl rfl ?_
 refine QG (d := 145) (c := (decide (1 ≤ x92.arity))) rfl (fun c94 => ?_) (fun c94 => ?_)
 replace h2 := Qk c94 h2
 refine Ue rfl rfl rfl (Q1 fo_76_2 rfl) <| Ue rfl rfl rfl (Q6 QZ rfl rfl rfl) <| Ue rfl rfl rfl (Q7 rfl rfl rfl) <| Ue rfl rfl rfl (Qh rfl rfl) ?_
 refine Qb h2 (fun x95 hx95 h2 => ?_)
 refine JY id hx95 h2 (fun x96 hx96 h2 => ?_) (fun x97 hx97 h2 => ?_)
 refine Q9 rfl rfl (Um rfl) (QE rfl rfl rfl (CallE.m (QB (decide (x92.arity ≤ 16)) 3 (.inl x96) hx96)) rfl) <| Q4 ?_
 have e := Uc h2; subst e
 replace h1 := Kz h1
 exact Qc () (Ub (Nat.le_trans hv0 (Um rfl)) rfl rfl rfl rfl rfl) h1
 refine Jd rfl (QH rfl rfl rfl (CallE.d (QB (decide (x92.arity ≤ 16)) 3 (.inr x97) hx97))) ?_
 have e := Uc h2; subst e
 replace h1 := KX h1
 have e := Uc h1; subst e
 have e_ : _ = _ := ho1
 subst e_
 try dsimp only [Sum.elim_inl, Sum.elim_inr] at h0
 have e := Uc h0; subst e
 exact Jn (hQ0 (.panic (Jz (QJ 90 3))) _ ZP rfl (show StLe _ _ ⟨[], [], [], 1, 210, []⟩ from (Ub (Nat.le_trans hv0 (Um rfl)) rfl rfl rfl rfl rfl))) (fun _ _ h => h)
 replace h2 := Ql c94 h2
 refine Q8 rfl rfl <| Q8 rfl rfl <| Q8 rfl rfl <| Ue rfl rfl rfl (Qd rfl rfl) ?_
 refine Qb h2 (fun x98 hx98 h2 => ?_)
 refine JY id hx98 h2 (fun x99 hx99 h2 => ?_) (fun x100 hx100 h2 => ?_)
 refine Q9 rfl rfl (Um rfl) (QE rfl rfl rfl (CallE.m (QB false 3 (.inl x99) hx99)) rfl) <| Q4 ?_
 have e := Uc h2; subst e
 replace h1 := Kz h1
 exact Qc () (Ub (Nat.le_trans hv0 (Um rfl)) rfl rfl rfl rfl rfl) h1
 refine Jd rfl (QH rfl rfl rfl (CallE.d (QB false 3 (.inr x100) hx100))) ?_
 have e := Uc h2; subst e
 replace h1 := KX h1
 have e := Uc h1; subst e
 have e_ : _ = _ := ho1
 subst e_
 try dsimp only [Sum.elim_inl, Sum.elim_inr] at h0
 have e := Uc h0; subst e
 exact Jn (hQ0 (.panic (Jz (QJ 90 3))) _ ZP rfl (show StLe _ _ ⟨[], [], [], 1, 210, []⟩ from (Ub (Nat.le_trans hv0 (Um rfl)) rfl rfl rfl rfl rfl))) (fun _ _ h => h)
 intro v93 h1
 refine Qe <| Q3 <| Q0 <| Ue rfl rfl rfl (Q7 rfl rfl rfl) <| Uf rfl rfl rfl <| Q4 ?_
 have e := Uc h1; subst e
 refine QM (Jk (s1 + 1)) (Ub (Nat.le_trans hv0 (Um rfl)) rfl rfl rfl rfl rfl) ho1
 replace h1 := Ql c91 h1
 refine J1 <| Qn <| Qn ?_
 have e := Uc h1; subst e
 have e_ : _ = _ := ho1
 subst e_
 exact QP () (Ub (Nat.le_trans hv0 (Um rfl)) rfl rfl rfl rfl rfl) h0
 intro o89 h0
 unfold m44f5_k3 at h0
 refine QF <| Q3 <| Q5 <| Q0 <| Uf rfl rfl rfl <| Q4 <| Q3 ?_
 refine Qg (b := (a0.kind == 3)) rfl (fun c101 => ?_) (fun c101 => ?_)
 replace h0 := Qk c101 h0
 refine Q5 <| Q0 <| Ue rfl rfl rfl (Q1 JO rfl) <| Ue rfl rfl rfl (Q1 KU rfl) <| Ue rfl rfl rfl (Q6 QZ rfl rfl rfl) <| Ue rfl rfl rfl (Q1 Ym rfl) <| Ue rfl rfl rfl (Q6 QZ rfl rfl rfl) <| Ue rfl rfl rfl (Q7 rfl rfl rfl) <| Ug rfl rfl rfl <| Q4 <| Q3 <| Q5 ?_
 refine QS (fun (v102 : Unit) => ⟨[(1, .v (.one (.ptr 0 0)))], [(0, .cells 45 (UA a0))], [], 1, 210, []⟩) (fun (v102 : Unit) => (Option.bind (QV (m44f5_l1 a0) J2 ([a0.ty], 0)) (fun (o103 : (List Tm)) => Option.bind (QV (GB o103 a0) J2 0) (Sum.elim (fun (o104 : Unit) => some (.inl ())) (fun o => some o)))) = some r) ?_ ?_
 refine Qb h0 (fun w1_ h1 h0 => ?_)
 refine Q0 <| Uf rfl rfl rfl <| Ue rfl rfl rfl (Q7 rfl rfl rfl) <| Uf rfl rfl rfl ?_
 refine QG (d := 161) (c := ((Jk (a0.rcr.params - a0.params)) == 0)) rfl (fun c103 => ?_) (fun c103 => ?_)
 replace h1 := Qk c103 h1
 refine Q8 rfl rfl <| Q8 rfl rfl <| Ue rfl rfl rfl (Qh rfl rfl) <| Uf rfl rfl rfl <| Ue rfl rfl rfl (Q1 JO rfl) <| Ue rfl rfl rfl (Q1 ZG rfl) <| Ue rfl rfl rfl (Q6 JH rfl rfl rfl) <| Ue rfl rfl rfl (Qx (α := Tm) Ji rfl (.d _)) <| Ue rfl rfl rfl (Q1 Yc rfl) <| Ue rfl rfl rfl (Q6 Zc rfl rfl rfl) <| Ue rfl rfl rfl (Qx (α := Ctr) Yv rfl (.d _)) <| Ue rfl rfl rfl (Q7 rfl rfl rfl) <| Ue rfl rfl rfl (Qh rfl rfl) ?_
 refine Qb h1 (fun x104 hx104 h1 => ?_)
 refine JY id hx104 h1 (fun x105 hx105 h1 => ?_) (fun x106 hx106 h1 => ?_)
 refine Q9 rfl rfl (Um rfl) (QE rfl rfl rfl (CallE.m (QB ((a0.rcr.rules.length : Int) == (a0.ctors.length : Int)) 3 (.inl x105) hx105)) rfl) <| Q4 ?_
 have e := Uc h1; subst e
 replace h0 := Kz h0
 exact Qc () (Ub (Nat.le_trans hv0 (Um rfl)) rfl rfl rfl rfl rfl) h0
 refine Jd rfl (QH rfl rfl rfl (CallE.d (QB ((a0.rcr.rules.length : Int) == (a0.ctors.length : Int)) 3 (.inr x106) hx106))) ?_
 have e := Uc h1; subst e
 replace h0 := KX h0
 have e := Uc h0; subst e
 exact Jn (hQ0 (.panic (Jz (QJ 90 3))) _ ZP rfl (show StLe _ _ ⟨[], [], [], 1, 210, []⟩ from (Ub (Nat.le_trans hv0 (Um rfl)) rfl rfl rfl rfl rfl))) (fun _ _ h => h)
 replace h1 := Ql c103 h1
 refine Uf rfl rfl rfl <| Ue rfl rfl rfl (Q7 rfl rfl rfl) <| Ue rfl rfl rfl (Qd rfl rfl) <| Uf rfl rfl rfl ?_
 refine QG (d := 165) (c := ((Jk (a0.rcr.params - a0.params)) == 1)) rfl (fun c107 => ?_) (fun c107 => ?_)
 replace h1 := Qk c107 h1
 refine Ue rfl rfl rfl (Q1 JO rfl) <| Ue rfl rfl rfl (Q1 ZG rfl) <| Ue rfl rfl rfl (Q6 JH rfl rfl rfl) <| Ue rfl rfl rfl (Qx (α := Tm) Ji rfl (.d _)) <| Ue rfl rfl rfl (Q1 Yc rfl) <| Ue rfl rfl rfl (Q6 Zc rfl rfl rfl) <| Ue rfl rfl rfl (Qx (α := Ctr) Yv rfl (.d _)) <| Ue rfl rfl rfl (Q7 rfl rfl rfl) <| Ue rfl rfl rfl (Qh rfl rfl) ?_
 refine Qb h1 (fun x108 hx108 h1 => ?_)
 refine JY id hx108 h1 (fun x109 hx109 h1 => ?_) (fun x110 hx110 h1 => ?_)
 refine Q9 rfl rfl (Um rfl) (QE rfl rfl rfl (CallE.m (QB ((a0.rcr.rules.length : Int) == (a0.ctors.length : Int)) 3 (.inl x109) hx109)) rfl) <| Q4 ?_
 have e := Uc h1; subst e
 replace h0 := Kz h0
 exact Qc () (Ub (Nat.le_trans hv0 (Um rfl)) rfl rfl rfl rfl rfl) h0
 refine Jd rfl (QH rfl rfl rfl (CallE.d (QB ((a0.rcr.rules.length : Int) == (a0.ctors.length : Int)) 3 (.inr x110) hx110))) ?_
 have e := Uc h1; subst e
 replace h0 := KX h0
 have e := Uc h0; subst e
 exact Jn (hQ0 (.panic (Jz (QJ 90 3))) _ ZP rfl (show StLe _ _ ⟨[], [], [], 1, 210, []⟩ from (Ub (Nat.le_trans hv0 (Um rfl)) rfl rfl rfl rfl rfl))) (fun _ _ h => h)
 replace h1 := Ql c107 h1
 refine Q8 rfl rfl <| Q8 rfl rfl <| Q8 rfl rfl <| Q8 rfl rfl <| Q8 rfl rfl <| Q8 rfl rfl <| Q8 rfl rfl <| Q8 rfl rfl <| Ue rfl rfl rfl (Qd rfl rfl) ?_
 refine Qb h1 (fun x111 hx111 h1 => ?_)
 refine JY id hx111 h1 (fun x112 hx112 h1 => ?_) (fun x113 hx113 h1 => ?_)
 refine Q9 rfl rfl (Um rfl) (QE rfl rfl rfl (CallE.m (QB false 3 (.inl x112) hx112)) rfl) <| Q4 ?_
 have e := Uc h1; subst e
 replace h0 := Kz h0
 exact Qc () (Ub (Nat.le_trans hv0 (Um rfl)) rfl rfl rfl rfl rfl) h0
 refine Jd rfl (QH rfl rfl rfl (CallE.d (QB false 3 (.inr x113) hx113))) ?_
 have e := Uc h1; subst e
 replace h0 := KX h0
 have e := Uc h0; subst e
 exact Jn (hQ0 (.panic (Jz (QJ 90 3))) _ ZP rfl (show StLe _ _ ⟨[], [], [], 1, 210, []⟩ from (Ub (Nat.le_trans hv0 (Um rfl)) rfl rfl rfl rfl rfl))) (fun _ _ h => h)
 intro v102 h0
 refine Q3 <| Q5 <| Q0 <| Ue rfl rfl rfl (Q1 K4 rfl) <| Ue rfl rfl rfl (Qi QW rfl rfl rfl rfl) <| Q9 rfl rfl (Um rfl) (Jt (α := Tm) (a0.ty) Ji ZS rfl rfl (Um rfl) (Um rfl) rfl rfl (.cons (.d _) (.cons (.d _) (.cons (.d _) (.cons (.d _) (.cons (.d _) .nil))))) rfl) <| Ug rfl rfl rfl <| Q4 <| Q3 <| Q5 <| Q5 <| Q0 <| Ue rfl rfl rfl (Q1 Yc rfl) <| Ue rfl rfl rfl (Q6 Zc rfl rfl rfl) ?_
 refine Ue rfl rfl rfl (Qx (α := Ctr) Yv rfl (.d _)) <| Uf rfl rfl rfl <| Q4 <| Q3 <| Qf ?_
 refine QR 2 (fun (o114 : (List Tm)) => ⟨[(1, .v (.one (.ptr 0 0))), (9, .v (.one (Uz 1 o114)))], [(0, .cells 45 (UA a0))], [(1, some ⟨33, 5, (Enc.encL o114).length, []⟩)], 2, 210, []⟩) (fun (o114 : (List Tm)) => (Option.bind (QV (GB o114 a0) J2 0) (Sum.elim (fun (o115 : Unit) => some (.inl ())) (fun o => some o))) = some r) ?_ ?_
 refine Qb h0 (fun o115 hl1 h0 => ?_)
 refine QQ (m44f5_l1 a0) (fun s1 => ⟨[(1, .v (.one (.ptr 0 0))), (9, .v (.one (Uz 1 s1.1))), (180, .v (.one (Uv a0.ctors))), (181, .v (.one (Ux (a0.ctors.length : Int)))), (182, .v (.one (Ux s1.2)))], [(0, .cells 45 (UA a0))], [(1, some ⟨33, 5, (Enc.encL s1.1).length, []⟩)], 2, 210, []⟩) ([a0.ty], 0) o115 (Ub (Nat.le_trans hv0 (Um rfl)) rfl rfl rfl rfl rfl) hl1 (fun s1 n1 oo1 h1 ho1 => ?_)
 unfold m44f5_l1 at h1
 refine Q5 <| Q0 <| Ue rfl rfl rfl (Q7 rfl rfl rfl) <| Q4 <| Q3 <| Q5 ?_
 refine Qg (b := (decide (s1.2 < (a0.ctors.length : Int)))) rfl (fun c116 => ?_) (fun c116 => ?_)
 replace h1 := Qk c116 h1
 refine Qj <| Q3 <| Q5 <| Qf <| Q5 <| Q0 ?_
 refine Qb h1 (fun x117 hx117 h1 => ?_)
 refine Ue rfl rfl rfl (Qq (α := Ctr) Yv rfl (.d _) rfl hx117) <| Ue rfl rfl rfl (Qv (x117 : Ctr) ZQ rfl) <| Q9 rfl rfl (Um rfl) (Qm Wj rfl) <| Qy rfl rfl (QC (x117 : Ctr) ZQ rfl rfl rfl rfl rfl) <| Q4 <| Q3 <| Q0 <| Uf rfl rfl rfl <| Ue rfl rfl rfl (Q1 K2 rfl) <| Ue rfl rfl rfl (Qi QW rfl rfl rfl rfl) <| Q9 rfl rfl (Um rfl) (Jt (α := Tm) (x117.ty) Ji ZS rfl rfl (Um rfl) (Um rfl) rfl rfl (.cons (.d _) (.cons (.d _) (.cons (.d _) (.cons (.d _) (.cons (.d _) .nil))))) rfl) ?_
 refine JC h1 (fun g118 h1 => ?_)
 refine Q9 rfl rfl (Um rfl) (Jh (α := Tm) Ji Wm rfl rfl rfl rfl rfl (.app _ _) g118) <| Ug rfl rfl rfl <| Q4 <| Qe <| Q3 <| Q0 <| Ue rfl rfl rfl (Q7 rfl rfl rfl) <| Uf rfl rfl rfl <| Q4 ?_
 have e := Uc h1; subst e
 refine QM ((s1.1 ++ ([x117.ty])), (Jk (s1.2 + 1))) (Ub (Nat.le_trans hv0 (Um rfl)) rfl rfl rfl rfl rfl) ho1
 replace h1 := Ql c116 h1
 refine J1 <| Qn <| Qn ?_
 have e := Uc h1; subst e
 have e_ : _ = _ := ho1
 subst e_
 exact QP s1.1 (Ub (Nat.le_trans hv0 (Um rfl)) rfl rfl rfl rfl rfl) h0
 intro o114 h0
 refine QF <| Q3 <| Q5 <| Q0 <| Uf rfl rfl rfl <| Ue rfl rfl rfl (Qx (α := Tm) Ji rfl (.app _ _)) <| Uf rfl rfl rfl <| Q4 <| Q3 <| Qf ?_
 refine QR 4 (fun (o119 : Unit) => ⟨[], [(0, .cells 45 (UA a0))], [(1, some ⟨33, 5, (Enc.encL o114).length, []⟩)], 2, 210, []⟩) (fun (o119 : Unit) => (some (.inl ())) = some r) ?_ ?_
 refine Qb h0 (fun o120 hl1 h0 => ?_)
 refine QQ (GB o114 a0) (fun s1 => ⟨[(1, .v (.one (.ptr 0 0))), (192, .v (.one (Uz 1 o114))), (193, .v (.one (Ux (o114.length : Int)))), (194, .v (.one (Ux s1)))], [(0, .cells 45 (UA a0))], [(1, some ⟨33, 5, (Enc.encL o114).length, []⟩)], 2, 210, []⟩) 0 o120 (Ub (Nat.le_trans hv0 (Um rfl)) rfl rfl rfl rfl rfl) hl1 (fun s1 n1 oo1 h1 ho1 => ?_)
 unfold GB at h1
 refine Q5 <| Q0 <| Ue rfl rfl rfl (Q7 rfl rfl rfl) <| Q4 <| Q3 <| Q5 ?_
 refine Qg (b := (decide (s1 < (o114.length : Int)))) rfl (fun c121 => ?_) (fun c121 => ?_)
 replace h1 := Qk c121 h1
 refine Qj <| Q3 <| Q5 <| Qf <| Q5 <| Q0 ?_
 refine Qb h1 (fun x122 hx122 h1 => ?_)
 refine Ue rfl rfl rfl (Qq (α := Tm) Ji rfl (.app _ _) rfl hx122) <| Ue rfl rfl rfl (Qv (x122 : Tm) QW rfl) <| Q9 rfl rfl (Um rfl) (Qm ZS rfl) <| Qy rfl rfl (QC (x122 : Tm) QW rfl rfl rfl rfl rfl) <| Q4 <| Q3 <| Q5 <| Q0 <| Ue rfl rfl rfl (QK (x122 : Tm) QW rfl rfl) ?_
 refine Qb h1 (fun x123 hx123 h1 => ?_)
 refine Q9 rfl rfl (Um rfl) (Qo (m64_ok x122 x123 hx123) rfl (.cons (.agg (.cons (.d _) (.cons (.d _) (.cons (.d _) (.cons (.d _) (.cons (.d _) .nil)))))) .nil)) <| Uf rfl rfl rfl <| Ue rfl rfl rfl (Jg rfl rfl) <| Ue rfl rfl rfl (Jg rfl rfl) <| Q9 rfl rfl (Um rfl) (Qm ZS rfl) <| Ug rfl rfl rfl <| Qy rfl rfl (QC (x123.2 : Tm) QW rfl rfl rfl rfl rfl) <| Q4 <| Q3 <| Q0 <| Uf rfl rfl rfl <| Ue rfl rfl rfl (Qx (α := Tm) Ji rfl (.d _)) <| Ue rfl rfl rfl (Q1 fo_45_5 rfl) <| Ue rfl rfl rfl (Q6 QZ rfl rfl rfl) ?_
 refine Ue rfl rfl rfl (Q7 rfl rfl rfl) ?_
 refine Qb h1 (fun x124 hx124 h1 => ?_)
 refine JY id hx124 h1 (fun x125 hx125 h1 => ?_) (fun x126 hx126 h1 => ?_)
 refine Q9 rfl rfl (Um rfl) (QE rfl rfl rfl (CallE.m (QB (decide (a0.fixed ≤ (x123.1.length : Int))) 3 (.inl x125) hx125)) rfl) <| Q4 <| Qe <| Q3 <| Q0 <| Ue rfl rfl rfl (Q7 rfl rfl rfl) <| Uf rfl rfl rfl <| Q4 ?_
 have e := Uc h1; subst e
 refine QM (Jk (s1 + 1)) (Ub (Nat.le_trans hv0 (Um rfl)) rfl rfl rfl rfl rfl) ho1
 refine Jd rfl (QH rfl rfl rfl (CallE.d (QB (decide (a0.fixed ≤ (x123.1.length : Int))) 3 (.inr x126) hx126))) ?_
 have e := Uc h1; subst e
 have e_ : _ = _ := ho1
 subst e_
 try dsimp only [Sum.elim_inl, Sum.elim_inr] at h0
 have e := Uc h0; subst e
 exact Jn (hQ0 (.panic (Jz (QJ 90 3))) _ ZP rfl (show StLe _ _ ⟨[], [], [], 1, 210, []⟩ from (Ub (Nat.le_trans hv0 (Um rfl)) rfl rfl rfl rfl rfl))) (fun _ _ h => h)
 replace h1 := Ql c121 h1
 refine J1 <| Qn <| Qn ?_
 have e := Uc h1; subst e
 have e_ : _ = _ := ho1
 subst e_
 exact QP () (Ub (Nat.le_trans hv0 (Um rfl)) rfl rfl rfl rfl rfl) h0
 intro o119 h0
 refine QF ?_
 have e := Uc h0; subst e
 exact hQ0 _ _ WW rfl (show StLe _ _ ⟨[], [], [], 1, 210, []⟩ from (Ub (Nat.le_trans hv0 (Um rfl)) rfl rfl rfl rfl rfl))
 replace h0 := Ql c101 h0
 refine Qj ?_
 have e := Uc h0; subst e
 exact hQ0 _ _ WW rfl (show StLe _ _ ⟨[], [], [], 1, 210, []⟩ from (Ub (Nat.le_trans hv0 (Um rfl)) rfl rfl rfl rfl rfl))
noncomputable def m45f7_l0 (x1 : (List UN)) (a2 : Qa UN Ent) (s1 : Int × (Qa UN Bool)) : Option (LO (Int × (Qa UN Bool)) (((Qa UN Bool)) ⊕ (Unit ⊕ Int))) :=
 cond (decide (s1.1 < (x1.length : Int)))
   (Option.bind (Yi x1 s1.1) fun (x4 : UN) =>
 Option.bind (m65 x4) fun (x5 : Bool) =>
 Option.bind (JL x5 29) (Sum.elim (fun (x7 : Unit) => Option.bind (cond (!(KR a2 x4))
   (Option.bind (JL (!(Qp s1.2 x4)) 8) (Sum.elim (fun (x12 : Unit) => some (.inl ())) (fun (x13 : Unit) => some (.inr (.inr 8)))))
   (Option.bind (JL false 8) (Sum.elim (fun (x15 : Unit) => some (.inl ())) (fun (x16 : Unit) => some (.inr (.inr 8)))))) (Sum.elim (fun (v9 : Unit) => some (.next ((Jk (s1.1 + 1)), (J5 s1.2 x4 true)))) (fun o => some (.done (.inr o))))) (fun (x8 : Unit) => some (.done (.inr (.inr 29))))))
   (some (.done (.inl s1.2)))
noncomputable abbrev m45f7_h0 (p0_ : Qa UN Ent) (p1_ : UN) : HB :=
 .cells 35 [Ux ((Qp p0_ p1_).kind), Ux ((Qp p0_ p1_).decl), Ux ((Qp p0_ p1_).item), Ux ((Qp p0_ p1_).params), Ux (((Qp p0_ p1_).ty).kind), Ux (((Qp p0_ p1_).ty).index), Jl (((Qp p0_ p1_).ty).name), Uv (((Qp p0_ p1_).ty).levels : List Lvl), Uv (((Qp p0_ p1_).ty).kids : List Tm)]
noncomputable abbrev m45f7_h1 (p0_ : List Dcl) (p1_ : Qa UN Ent) (p2_ : Dcl) (p3_ : Int × (Qa UN Bool)) (p4_ : UN) : List (Nat × HB) :=
 [(0, .cells 62 [Uv p0_, .mp 1]), (1, .mp (QO p1_.1) p1_.2), (2, .cells 45 (UA p2_)), (3, .mp (QO p3_.2.1) p3_.2.2), (4, m45f7_h0 p1_ p4_)]
noncomputable def m45f7 (a0 : Dcl) (a1 : List Dcl) (a2 : Qa UN Ent) : Option (Unit ⊕ Int) :=
 Option.bind (WT a0) fun (x1 : (List UN)) =>
 Option.bind (QV (m45f7_l0 x1 a2) J2 (0, gmNil)) (Sum.elim (fun (o2 : (Qa UN Bool)) => some (.inl ())) (fun o => some o))
set_option maxRecDepth 100000 in
set_option maxHeartbeats 2000000 in
theorem m45f7_ok (a0 : Dcl) (a1 : List Dcl) (a2 : Qa UN Ent) (r : Unit ⊕ Int) (h0 : m45f7 a0 a1 a2 = some r) : CallE Try.prog 45 [.one (.ptr 0 0), .agg (UA a0)] ⟨[(0, .cells 62 [Uv a1, .mp 1]), (1, .mp (QO a2.1) a2.2)], [], 2⟩ ((Sum.elim (fun (r0 : Unit) => ((.ret []) : EK)) (fun (r1 : Int) => ((.pan (QJ 90 r1)) : EK))) r) ⟨((Sum.elim (fun (r0 : Unit) => (⟨[], [(0, .cells 62 [Uv a1, .mp 1]), (1, .mp (QO a2.1) a2.2)], [], 4, 41, []⟩ : St)) (fun (r1 : Int) => (⟨[], [(0, .cells 62 [Uv a1, .mp 1]), (1, .mp (QO a2.1) a2.2)], [], 4, 41, []⟩ : St))) r).hp, ((Sum.elim (fun (r0 : Unit) => (⟨[], [(0, .cells 62 [Uv a1, .mp 1]), (1, .mp (QO a2.1) a2.2)], [], 4, 41, []⟩ : St)) (fun (r1 : Int) => (⟨[], [(0, .cells 62 [Uv a1, .mp 1]), (1, .mp (QO a2.1) a2.2)], [], 4, 41, []⟩ : St))) r).tk, ((Sum.elim (fun (r0 : Unit) => (⟨[], [(0, .cells 62 [Uv a1, .mp 1]), (1, .mp (QO a2.1) a2.2)], [], 4, 41, []⟩ : St)) (fun (r1 : Int) => (⟨[], [(0, .cells 62 [Uv a1, .mp 1]), (1, .mp (QO a2.1) a2.2)], [], 4, 41, []⟩ : St))) r).nx⟩ := by
 unfold m45f7 at h0
 refine JP r ((Sum.elim (fun (r0 : Unit) => (⟨[], [(0, .cells 62 [Uv a1, .mp 1]), (1, .mp (QO a2.1) a2.2)], [], 4, 41, []⟩ : St)) (fun (r1 : Int) => (⟨[], [(0, .cells 62 [Uv a1, .mp 1]), (1, .mp (QO a2.1) a2.2)], [], 4, 41, []⟩ : St)))) ((Sum.elim (fun (r0 : Unit) => ((.ret []) : EK)) (fun (r1 : Int) => ((.pan (QJ 90 r1)) : EK)))) rfl rfl en_45 (Um rfl) (fun z_ => by cases z_ with
 | inl _ => exact rfl
 | inr _ => exact rfl) (fun z_ => by cases z_ with
 | inl _ => exact (WA .nil)
 | inr _ => exact WG) (fun w0 M V0 Q hv0 hQ0 => ?_)
 simp only [J7]
 refine Q5 <| Q0 <| Q9 rfl rfl (Um rfl) (QN rfl) <| Q4 <| Q3 <| Q5 <| Q0 <| Q9 rfl rfl (Um rfl) (YX UN Bool) <| Ug rfl rfl rfl <| Q4 <| Q3 <| Q5 <| Q0 <| Ue rfl rfl rfl (QK (a0 : Dcl) JS rfl rfl) ?_
 refine Qb h0 (fun x1 hx1 h0 => ?_)
 refine Q9 rfl rfl (Um rfl) (Qo (m20_ok a0 x1 hx1) rfl (.cons (.agg (.cons (.d _) (.cons (.d _) (.cons (.d _) (.cons (.d _) (.cons (.d _) (.cons (.d _) (.cons (.d _) (.cons (.d _) (.cons (.d _) (.cons (.d _) (.cons (.d _) (.cons (.d _) (.cons (.d _) (.cons (.d _) (.cons (.d _) (.cons (.d _) (.cons (.d _) (.cons (.d _) (.cons (.d _) (.cons (.d _) (.cons (.d _) (.cons (.d _) (.cons (.d _) .nil)))))))))))))))))))))))) .nil)) <| Ue rfl rfl rfl (Qx (α := UN) Ju rfl (.d _)) <| Uf rfl rfl rfl <| Q4 <| Q3 <| Qf ?_
 refine QR 0 (fun (o2 : (Qa UN Bool)) => ⟨[], [(0, .cells 62 [Uv a1, .mp 1]), (1, .mp (QO a2.1) a2.2), (2, .cells 45 (UA a0)), (3, .mp (QO o2.1) o2.2)], [], 4, 41, []⟩) (fun (o2 : (Qa UN Bool)) => (some (.inl ())) = some r) ?_ ?_
 refine Qb h0 (fun o3 hl1 h0 => ?_)
 refine QQ (m45f7_l0 x1 a2) (fun s1 => ⟨[(0, .v (.one (.ptr 0 0))), (4, .v (.one (.mp 3))), (11, .v (.one (Uv x1))), (12, .v (.one (Ux (x1.length : Int)))), (13, .v (.one (Ux s1.1)))], [(0, .cells 62 [Uv a1, .mp 1]), (1, .mp (QO a2.1) a2.2), (2, .cells 45 (UA a0)), (3, .mp (QO s1.2.1) s1.2.2)], [], 4, 41, []⟩) (0, gmNil) o3 (Qu (Ua rfl) (hA rfl) Un rfl (Nat.le_trans hv0 (Um rfl)) rfl rfl rfl (UF rfl rfl (UE rfl (UF rfl rfl (UE rfl UD)))) rfl rfl) hl1 (fun s1 n1 oo1 h1 ho1 => ?_)
 unfold m45f7_l0 at h1
 refine Q5 <| Q0 <| Ue rfl rfl rfl (Q7 rfl rfl rfl) <| Q4 <| Q3 <| Q5 ?_
 refine Qg (b := (decide (s1.1 < (x1.length : Int)))) rfl (fun c4 => ?_) (fun c4 => ?_)
 replace h1 := Qk c4 h1
 refine Qj <| Q3 <| Q5 <| Qf <| Q5 <| Q0 ?_
 refine Qb h1 (fun x5 hx5 h1 => ?_)
 refine Ue rfl rfl rfl (Qq (α := UN) Ju rfl (.d _) rfl hx5) <| Ue rfl rfl rfl (Js JG rfl rfl) <| Ug rfl rfl rfl <| Q4 <| Q3 <| Q5 <| Q0 <| Uf rfl rfl rfl ?_
 refine Qb h1 (fun x6 hx6 h1 => ?_)
 refine Q9 rfl rfl (Um rfl) (Qo (m65_ok x5 x6 hx6) rfl (.cons (.one (.d _)) .nil)) ?_
 refine Qb h1 (fun x7 hx7 h1 => ?_)
 refine JY id hx7 h1 (fun x8 hx8 h1 => ?_) (fun x9 hx9 h1 => ?_)
 refine Q9 rfl rfl (Um rfl) (QE rfl rfl rfl (CallE.m (QB x6 29 (.inl x8) hx8)) rfl) <| Q4 <| Q3 <| Q5 <| Q0 <| Uf rfl rfl rfl <| Ue rfl rfl rfl (Jx rfl) <| Ue rfl rfl rfl (Q1 K3 rfl) <| Ue rfl rfl rfl (Q6 YA rfl rfl rfl) <| Uf rfl rfl rfl <| Ue rfl rfl rfl (Zz (M := a2) (k := x5) YL Kh rfl rfl rfl) <| Uf rfl rfl rfl <| Ue rfl rfl rfl (Jg rfl rfl) <| Ue rfl rfl rfl (Jg rfl rfl) ?_
 refine Q9 rfl rfl (Um rfl) (Qm ZB rfl) <| Qy rfl rfl (Qr Jm rfl rfl rfl rfl (Um rfl) rfl) <| Ug rfl rfl rfl <| Q4 <| Q3 <| Q5 ?_
 refine QS (fun (v10 : Unit) => ⟨[(0, .v (.one (.ptr 0 0))), (4, .v (.one (.mp 3))), (6, .v (.one (Jl x5))), (11, .v (.one (Uv x1))), (12, .v (.one (Ux (x1.length : Int)))), (13, .v (.one (Ux s1.1)))], m45f7_h1 a1 a2 a0 s1 x5, [], 5, 41, []⟩) (fun (v10 : Unit) => (some (.next ((Jk (s1.1 + 1)), (J5 s1.2 x5 true)))) = some oo1) ?_ ?_
 refine Qb h1 (fun w2_ h2 h1 => ?_)
 refine Q0 <| Uf rfl rfl rfl <| Ue rfl rfl rfl (Jb rfl) <| Uf rfl rfl rfl ?_
 refine QG (d := 31) (c := (!(KR a2 x5))) rfl (fun c11 => ?_) (fun c11 => ?_)
 replace h2 := Qk c11 h2
 refine Uf rfl rfl rfl <| Uf rfl rfl rfl <| Ue rfl rfl rfl (YP (M := s1.2) (k := x5) Gy Gw rfl rfl rfl) <| Ue rfl rfl rfl (Jb rfl) <| Ue rfl rfl rfl (Qh rfl rfl) ?_
 refine Qb h2 (fun x12 hx12 h2 => ?_)
 refine JY id hx12 h2 (fun x13 hx13 h2 => ?_) (fun x14 hx14 h2 => ?_)
 refine Q9 rfl rfl (Um rfl) (QE rfl rfl rfl (CallE.m (QB (!(Qp s1.2 x5)) 8 (.inl x13) hx13)) rfl) <| Q4 ?_
 have e := Uc h2; subst e
 replace h1 := Kz h1
 exact Qc () (Qu (Ua rfl) (hA rfl) Un rfl (Nat.le_trans hv0 (Um rfl)) rfl rfl rfl (UF rfl rfl (UE rfl (UF rfl rfl (UE rfl (UG rfl))))) rfl rfl) h1
 refine Jd rfl (QH rfl rfl rfl (CallE.d (QB (!(Qp s1.2 x5)) 8 (.inr x14) hx14))) ?_
 have e := Uc h2; subst e
 replace h1 := KX h1
 have e := Uc h1; subst e
 have e_ : _ = _ := ho1
 subst e_
 try dsimp only [Sum.elim_inl, Sum.elim_inr] at h0
 have e := Uc h0; subst e
 exact Jn (hQ0 (.panic (Jz (QJ 90 8))) _ ZP rfl (show StLe _ _ ⟨[], [(0, .cells 62 [Uv a1, .mp 1]), (1, .mp (QO a2.1) a2.2)], [], 4, 41, []⟩ from (Qu U9 (hA rfl) Un rfl (Nat.le_trans hv0 (Um rfl)) rfl rfl rfl (UF rfl rfl (UE rfl UD)) rfl rfl))) (fun _ _ h => h)
 replace h2 := Ql c11 h2
 refine Q8 rfl rfl <| Q8 rfl rfl <| Q8 rfl rfl <| Q8 rfl rfl <| Ue rfl rfl rfl (Qd rfl rfl) ?_
 refine Qb h2 (fun x15 hx15 h2 => ?_)
 refine JY id hx15 h2 (fun x16 hx16 h2 => ?_) (fun x17 hx17 h2 => ?_)
 refine Q9 rfl rfl (Um rfl) (QE rfl rfl rfl (CallE.m (QB false 8 (.inl x16) hx16)) rfl) <| Q4 ?_
 have e := Uc h2; subst e
 replace h1 := Kz h1
 exact Qc () (Qu (Ua rfl) (hA rfl) Un rfl (Nat.le_trans hv0 (Um rfl)) rfl rfl rfl (UF rfl rfl (UE rfl (UF rfl rfl (UE rfl (UG rfl))))) rfl rfl) h1
 refine Jd rfl (QH rfl rfl rfl (CallE.d (QB false 8 (.inr x17) hx17))) ?_
 have e := Uc h2; subst e
 replace h1 := KX h1
 have e := Uc h1; subst e
 have e_ : _ = _ := ho1
 subst e_
 try dsimp only [Sum.elim_inl, Sum.elim_inr] at h0
 have e := Uc h0; subst e
 exact Jn (hQ0 (.panic (Jz (QJ 90 8))) _ ZP rfl (show StLe _ _ ⟨[], [(0, .cells 62 [Uv a1, .mp 1]), (1, .mp (QO a2.1) a2.2)], [], 4, 41, []⟩ from (Qu U9 (hA rfl) Un rfl (Nat.le_trans hv0 (Um rfl)) rfl rfl rfl (UF rfl rfl (UE rfl UD)) rfl rfl))) (fun _ _ h => h)
 intro v10 h1
 refine Q3 <| Q0 <| Uf rfl rfl rfl <| Uf rfl rfl rfl <| Qy rfl rfl (Je (M := s1.2) (k := x5) (v := true) Gy rfl rfl rfl rfl rfl) <| Q4 <| Qe <| Q3 <| Q0 <| Ue rfl rfl rfl (Q7 rfl rfl rfl) <| Uf rfl rfl rfl <| Q4 ?_
 have e := Uc h1; subst e
 refine QM ((Jk (s1.1 + 1)), (J5 s1.2 x5 true)) (Qu (Ua rfl) (hA rfl) Un rfl (Nat.le_trans hv0 (Um rfl)) rfl rfl rfl (UF rfl rfl (UE rfl (UF rfl rfl (UE rfl UD)))) rfl rfl) ho1
 refine Jd rfl (QH rfl rfl rfl (CallE.d (QB x6 29 (.inr x9) hx9))) ?_
 have e := Uc h1; subst e
 have e_ : _ = _ := ho1
 subst e_
 try dsimp only [Sum.elim_inl, Sum.elim_inr] at h0
 have e := Uc h0; subst e
 exact Jn (hQ0 (.panic (Jz (QJ 90 29))) _ ZP rfl (show StLe _ _ ⟨[], [(0, .cells 62 [Uv a1, .mp 1]), (1, .mp (QO a2.1) a2.2)], [], 4, 41, []⟩ from (Qu U9 (hA rfl) Un rfl (Nat.le_trans hv0 (Um rfl)) rfl rfl rfl (UF rfl rfl (UE rfl UD)) rfl rfl))) (fun _ _ h => h)
 replace h1 := Ql c4 h1
 refine J1 <| Qn <| Qn ?_
 have e := Uc h1; subst e
 have e_ : _ = _ := ho1
 subst e_
 exact QP s1.2 (Qu U9 (hA rfl) Un rfl (Nat.le_trans hv0 (Um rfl)) rfl rfl rfl (UF rfl rfl (UE rfl (UF rfl rfl (UE rfl UD)))) rfl rfl) h0
 intro o2 h0
 refine QF ?_
 have e := Uc h0; subst e
 exact hQ0 _ _ WW rfl (show StLe _ _ ⟨[], [(0, .cells 62 [Uv a1, .mp 1]), (1, .mp (QO a2.1) a2.2)], [], 4, 41, []⟩ from (Qu U9 (hA rfl) Un rfl (Nat.le_trans hv0 (Um rfl)) rfl rfl rfl (UF rfl rfl (UE rfl UD)) rfl rfl))
noncomputable def m83f9_l0 (a0 : Tm) (rc : Tm × (List Dcl) × (Qa UN Ent) × (Qa UN Ent) × Tm → Option (Bool ⊕ Int)) (a1 : List Dcl) (a2 : Qa UN Ent) (a3 : Qa UN Ent) (a4 : Tm) (s3 : Int) : Option (LO Int (Unit ⊕ (Int ⊕ Int))) :=
 cond (decide (s3 < (a0.kids.length : Int)))
   (Option.bind (Yi a0.kids s3) fun (x12 : Tm) =>
 Option.bind (Option.bind (rc (x12, a1, a2, a3, a4)) (Sum.elim (fun (x18 : Bool) => some (.inl (!x18))) (fun (x19 : Int) => some (.inr x19)))) (Sum.elim (fun (y13 : Bool) => cond y13
   (some (.done (.inr (.inl s3))))
   (some (.next (Jk (s3 + 1))))) (fun (y14 : Int) => some (.done (.inr (.inr y14))))))
   (some (.done (.inl ())))
noncomputable def m83f9_k1 (p0_ : Tm) (p1_ : Tm × (List Dcl) × (Qa UN Ent) × (Qa UN Ent) × Tm → Option (Bool ⊕ Int)) (p2_ : List Dcl) (p3_ : Qa UN Ent) (p4_ : Qa UN Ent) (p5_ : Tm) : Option (Bool ⊕ Int) :=
 Option.bind (Option.bind (Option.bind (QV (m83f9_l0 p0_ p1_ p2_ p3_ p4_ p5_) J2 0) (Sum.elim (fun (b0_ : Unit) => some (.inl (-1))) (fun o => some o))) (Sum.elim (fun (b1_ : Int) => some (.inl (decide (0 ≤ b1_)))) (fun (b2_ : Int) => some (.inr b2_)))) (Sum.elim (fun (b3_ : Bool) => some (.inl (!b3_))) (fun (b4_ : Int) => some (.inr b4_)))
noncomputable abbrev m83f9_h0  : HB :=
 .loop .ready none [(5, .v (.one (.ptr 2 0))), (9, .v (.one (.ptr 5 0))), (23, .v (.one (.fn 82 [(7, 0)])))] 53 #[24] YM Yq 1
noncomputable abbrev Ja (p0_ : List Dcl) (p1_ : Qa UN Ent) (p2_ : Qa UN Ent) (p3_ : Tm) (p4_ : Tm) : List (Nat × HB) :=
 [(0, m83f9_h0), (1, .obj (.deferred (some []))), (2, .cells 59 [.ptr 3 0]), (3, .cells 62 [Uv p0_, .mp 4]), (4, .mp (QO p1_.1) p1_.2), (5, .cells 60 [.mp 6]), (6, .mp (QO p2_.1) p2_.2), (7, .cells 33 (UA p3_)), (8, .cells 33 (UA p4_)), (9, .cells 78 [.yld 0])]
noncomputable abbrev Gz  : HB :=
 .loop .busy none [(5, .v (.one (.ptr 2 0))), (9, .v (.one (.ptr 5 0))), (23, .v (.one (.fn 82 [(7, 0)])))] 53 #[24] YM Yq 1
noncomputable abbrev m83f9_h3 (p0_ : List Dcl) (p1_ : Qa UN Ent) (p2_ : Qa UN Ent) (p3_ : Tm) (p4_ : Tm) : List (Nat × HB) :=
 [(0, Gz), (1, .obj (.deferred (some []))), (2, .cells 59 [.ptr 3 0]), (3, .cells 62 [Uv p0_, .mp 4]), (4, .mp (QO p1_.1) p1_.2), (5, .cells 60 [.mp 6]), (6, .mp (QO p2_.1) p2_.2), (7, .cells 33 (UA p3_)), (8, .cells 33 (UA p4_)), (9, .cells 78 [.yld 0]), (10, .cells 33 (UA p4_))]
noncomputable abbrev m83f9_h4 (p0_ : List Dcl) (p1_ : Qa UN Ent) (p2_ : Qa UN Ent) (p3_ : Tm) (p4_ : Tm) : List (Nat × HB) :=
 [(0, m83f9_h0), (1, .obj (.deferred (some []))), (2, .cells 59 [.ptr 3 0]), (3, .cells 62 [Uv p0_, .mp 4]), (4, .mp (QO p1_.1) p1_.2), (5, .cells 60 [.mp 6]), (6, .mp (QO p2_.1) p2_.2), (7, .cells 33 (UA p3_)), (8, .cells 33 (UA p4_)), (9, .cells 78 [.yld 0]), (10, .cells 33 (UA p4_))]
noncomputable abbrev Jj (p0_ : List Dcl) (p1_ : Qa UN Ent) (p2_ : Qa UN Ent) (p3_ : Tm) (p4_ : Tm) : List (Nat × HB) :=
 [(0, Gz), (1, .obj (.deferred (some []))), (2, .cells 59 [.ptr 3 0]), (3, .cells 62 [Uv p0_, .mp 4]), (4, .mp (QO p1_.1) p1_.2), (5, .cells 60 [.mp 6]), (6, .mp (QO p2_.1) p2_.2), (7, .cells 33 (UA p3_)), (8, .cells 33 (UA p4_)), (9, .cells 78 [.yld 0])]
noncomputable abbrev m83f9_h6 (p0_ : Qa UN Ent) (p1_ : Tm) : HB :=
 .cells 35 [Ux ((Qp p0_ p1_.name).kind), Ux ((Qp p0_ p1_.name).decl), Ux ((Qp p0_ p1_.name).item), Ux ((Qp p0_ p1_.name).params), Ux (((Qp p0_ p1_.name).ty).kind), Ux (((Qp p0_ p1_.name).ty).index), Jl (((Qp p0_ p1_.name).ty).name), Uv (((Qp p0_ p1_.name).ty).levels : List Lvl), Uv (((Qp p0_ p1_.name).ty).kids : List Tm)]
noncomputable abbrev m83f9_h7 (p0_ : List Dcl) (p1_ : Qa UN Ent) (p2_ : Qa UN Ent) (p3_ : Tm) (p4_ : Tm) : List (Nat × HB) :=
 [(0, Gz), (1, .obj (.deferred (some []))), (2, .cells 59 [.ptr 3 0]), (3, .cells 62 [Uv p0_, .mp 4]), (4, .mp (QO p1_.1) p1_.2), (5, .cells 60 [.mp 6]), (6, .mp (QO p2_.1) p2_.2), (7, .cells 33 (UA p3_)), (8, .cells 33 (UA p4_)), (9, .cells 78 [.yld 0]), (10, .cells 33 (UA p4_)), (11, m83f9_h6 p1_ p4_)]
noncomputable abbrev Ye (p0_ : List Dcl) (p1_ : Qa UN Ent) (p2_ : Qa UN Ent) (p3_ : Tm) : List (Nat × HB) :=
 [(0, Gz), (1, .obj (.deferred (some []))), (2, .cells 59 [.ptr 3 0]), (3, .cells 62 [Uv p0_, .mp 4]), (4, .mp (QO p1_.1) p1_.2), (5, .cells 60 [.mp 6]), (6, .mp (QO p2_.1) p2_.2), (7, .cells 33 (UA p3_))]
noncomputable abbrev m83f9_h9 (p0_ : Tm) (p1_ : Tm) : List (Nat × HB) :=
 [(8, .cells 33 (UA p0_)), (9, .cells 78 [.yld 0]), (10, .cells 33 (UA p1_))]
noncomputable abbrev JB (p0_ : List Dcl) (p1_ : Qa UN Ent) (p2_ : Qa UN Ent) (p3_ : Tm) : List (Nat × HB) :=
 [(0, m83f9_h0), (1, .obj (.deferred (some []))), (2, .cells 59 [.ptr 3 0]), (3, .cells 62 [Uv p0_, .mp 4]), (4, .mp (QO p1_.1) p1_.2), (5, .cells 60 [.mp 6]), (6, .mp (QO p2_.1) p2_.2), (7, .cells 33 (UA p3_))]
noncomputable def m83f9s (rc : Tm × (List Dcl) × (Qa UN Ent) × (Qa UN Ent) × Tm → Option (Bool ⊕ Int)) (a0 : Tm) (a1 : List Dcl) (a2 : Qa UN Ent) (a3 : Qa UN Ent) (a4 : Tm) : Option (Bool ⊕ Int) :=
 Option.bind (cond (a0.kind == 3)
   (Option.bind (Option.bind (cond (!(KR a2 a0.name))
   (some ((KR a3 a0.name), (Qp a3 a0.name).kind, (Qp a3 a0.name).decl, (Qp a3 a0.name).item, (Qp a3 a0.name).params, ((Qp a3 a0.name).ty).kind, ((Qp a3 a0.name).ty).index, ((Qp a3 a0.name).ty).name, ((Qp a3 a0.name).ty).levels, ((Qp a3 a0.name).ty).kids))
   (some ((KR a2 a0.name), (Qp a2 a0.name).kind, (Qp a2 a0.name).decl, (Qp a2 a0.name).item, (Qp a2 a0.name).params, ((Qp a2 a0.name).ty).kind, ((Qp a2 a0.name).ty).index, ((Qp a2 a0.name).ty).name, ((Qp a2 a0.name).ty).levels, ((Qp a2 a0.name).ty).kids))) (fun (v8 : Bool × Int × Int × Int × Int × Int × Int × UN × (List Lvl) × (List Tm)) => Option.bind (JL v8.1 9) (Sum.elim (fun (x10 : Unit) => Option.bind (JL ((a0.levels.length : Int) == v8.2.2.2.2.1) 15) (Sum.elim (fun (x13 : Unit) => some (.inl ())) (fun (x14 : Unit) => some (.inr 15)))) (fun (x11 : Unit) => some (.inr 9))))) (Sum.elim (fun (y3 : Unit) => some (.inl ())) (fun (y4 : Int) => some (.inr (.inr y4)))))
   (some (.inl ()))) (Sum.elim (fun (v1 : Unit) => m83f9_k1 a0 rc a1 a2 a3 a4) (fun o => some o))
noncomputable def m83f9F (rc : Tm × (List Dcl) × (Qa UN Ent) × (Qa UN Ent) × Tm → Option (Bool ⊕ Int)) (u : Tm × (List Dcl) × (Qa UN Ent) × (Qa UN Ent) × Tm) : Option (Bool ⊕ Int) := m83f9s rc u.1 u.2.1 u.2.2.1 u.2.2.2.1 u.2.2.2.2
noncomputable def m83f9 (a0 : Tm) (a1 : List Dcl) (a2 : Qa UN Ent) (a3 : Qa UN Ent) (a4 : Tm) : Option (Bool ⊕ Int) := Yt m83f9F J2 (a0, a1, a2, a3, a4)
set_option maxRecDepth 100000 in
set_option maxHeartbeats 2000000 in
theorem m83f9s_ok (rc : Tm × (List Dcl) × (Qa UN Ent) × (Qa UN Ent) × Tm → Option (Bool ⊕ Int)) (H : ∀ (a0 : Tm) (a1 : List Dcl) (a2 : Qa UN Ent) (a3 : Qa UN Ent) (a4 : Tm) (r : Bool ⊕ Int), rc (a0, a1, a2, a3, a4) = some r → CallE Try.prog 83 [.agg (UA a0), .one (.yld 0)] ⟨JB a1 a2 a3 a4, [], 8⟩ ((Sum.elim (fun (r0 : Bool) => ((.ret [.one (Uy r0)]) : EK)) (fun (r1 : Int) => ((.pan (QJ 90 r1)) : EK))) r) ⟨((Sum.elim (fun (r0 : Bool) => (⟨[(4, .v (.one (Uy r0)))], JB a1 a2 a3 a4, [], 10, 19, []⟩ : St)) (fun (r1 : Int) => (⟨[], Ye a1 a2 a3 a4, [], 12, 19, []⟩ : St))) r).hp, ((Sum.elim (fun (r0 : Bool) => (⟨[(4, .v (.one (Uy r0)))], JB a1 a2 a3 a4, [], 10, 19, []⟩ : St)) (fun (r1 : Int) => (⟨[], Ye a1 a2 a3 a4, [], 12, 19, []⟩ : St))) r).tk, ((Sum.elim (fun (r0 : Bool) => (⟨[(4, .v (.one (Uy r0)))], JB a1 a2 a3 a4, [], 10, 19, []⟩ : St)) (fun (r1 : Int) => (⟨[], Ye a1 a2 a3 a4, [], 12, 19, []⟩ : St))) r).nx⟩) (a0 : Tm) (a1 : List Dcl) (a2 : Qa UN Ent) (a3 : Qa UN Ent) (a4 : Tm) (r : Bool ⊕ Int) (h0 : m83f9s rc a0 a1 a2 a3 a4 = some r) : CallE Try.prog 83 [.agg (UA a0), .one (.yld 0)] ⟨JB a1 a2 a3 a4, [], 8⟩ ((Sum.elim (fun (r0 : Bool) => ((.ret [.one (Uy r0)]) : EK)) (fun (r1 : Int) => ((.pan (QJ 90 r1)) : EK))) r) ⟨((Sum.elim (fun (r0 : Bool) => (⟨[(4, .v (.one (Uy r0)))], JB a1 a2 a3 a4, [], 10, 19, []⟩ : St)) (fun (r1 : Int) => (⟨[], Ye a1 a2 a3 a4, [], 12, 19, []⟩ : St))) r).hp, ((Sum.elim (fun (r0 : Bool) => (⟨[(4, .v (.one (Uy r0)))], JB a1 a2 a3 a4, [], 10, 19, []⟩ : St)) (fun (r1 : Int) => (⟨[], Ye a1 a2 a3 a4, [], 12, 19, []⟩ : St))) r).tk, ((Sum.elim (fun (r0 : Bool) => (⟨[(4, .v (.one (Uy r0)))], JB a1 a2 a3 a4, [], 10, 19, []⟩ : St)) (fun (r1 : Int) => (⟨[], Ye a1 a2 a3 a4, [], 12, 19, []⟩ : St))) r).nx⟩ := by
 unfold m83f9s at h0
 refine JP r ((Sum.elim (fun (r0 : Bool) => (⟨[(4, .v (.one (Uy r0)))], JB a1 a2 a3 a4, [], 10, 19, []⟩ : St)) (fun (r1 : Int) => (⟨[], Ye a1 a2 a3 a4, [], 12, 19, []⟩ : St)))) ((Sum.elim (fun (r0 : Bool) => ((.ret [.one (Uy r0)]) : EK)) (fun (r1 : Int) => ((.pan (QJ 90 r1)) : EK)))) rfl rfl en_83 (Um rfl) (fun z_ => by cases z_ with
 | inl _ => exact rfl
 | inr _ => exact rfl) (fun z_ => by cases z_ with
 | inl _ => exact (WA (Qz rfl .nil))
 | inr _ => exact WG) (fun w0 M V0 Q hv0 hQ0 => ?_)
 simp only [J7]
 refine Q5 <| Q0 <| Q9 rfl rfl (Um rfl) (QN rfl) <| Q9 rfl rfl (Um rfl) (QN rfl) <| Ug rfl rfl rfl <| Q4 <| Q3 <| Q5 <| Q5 ?_
 refine QS (fun (v1 : Unit) => ⟨[(2, .v (.one (.ptr 8 0))), (3, .v (.one (.ptr 9 0))), (13, .v (.one (Uy false)))], Ja a1 a2 a3 a4 a0, [], 10, 19, []⟩) (fun (v1 : Unit) => (m83f9_k1 a0 rc a1 a2 a3 a4) = some r) ?_ ?_
 refine Qb h0 (fun w1_ h1 h0 => ?_)
 refine Q0 <| Ue rfl rfl rfl (Q1 Y3 rfl) <| Ue rfl rfl rfl (Q6 QZ rfl rfl rfl) <| Ue rfl rfl rfl (Q7 rfl rfl rfl) <| Uf rfl rfl rfl ?_
 refine QG (d := 8) (c := (a0.kind == 3)) rfl (fun c2 => ?_) (fun c2 => ?_)
 replace h1 := Qk c2 h1
 refine Ue rfl rfl rfl (Q6 ag_78 rfl rfl rfl) <| Ue rfl rfl rfl (QK (a0 : Tm) QW rfl rfl) ?_
 refine Qb h1 (fun y5 h2 h1 => ?_)
 have ha6 : ExecOK Try.prog (some 0) YM ⟨[(5, .v (.one (.ptr 2 0))), (9, .v (.one (.ptr 5 0))), (23, .v (.one (.fn 82 [(7, 0)]))), (24, .v (.agg (UA a0)))], Ja a1 a2 a3 a4 a0, [], 10, 53, []⟩ .normal ⟨[(5, .v (.one (.ptr 2 0))), (9, .v (.one (.ptr 5 0))), (11, .v (.one (.ptr 10 0)))], m83f9_h4 a1 a2 a3 a4 a0, [], 11, 53, []⟩ := by
  refine QI (fun w0 M V0 ro n Q hv2 hro2 hQn2 => ?_)
  refine Q0 <| Q9 rfl rfl (Um rfl) (Qm ZS rfl) <| Qy rfl rfl (QC (a0 : Tm) QW rfl rfl rfl rfl rfl) <| Q4 ?_
  exact Jr hQn2 (Qu (Ua rfl) (hA rfl) Un rfl (Nat.le_trans hv2 (Um rfl)) rfl rfl rfl (UF rfl rfl (UF rfl rfl (UF rfl rfl (UF rfl rfl (UE rfl (UF rfl rfl (UE rfl (UG rfl)))))))) rfl rfl)
 have hb7 : ExecOK Try.prog (some 0) Yq ⟨[(5, .v (.one (.ptr 2 0))), (9, .v (.one (.ptr 5 0))), (11, .v (.one (.ptr 10 0)))], m83f9_h3 a1 a2 a3 a4 a0, [], 11, 53, []⟩ ((Sum.elim (fun (_ : Unit) => (.normal : Exit)) (fun (y4 : Int) => ((.panic (Jz (QJ 90 y4))) : Exit))) y5) ((Sum.elim (fun (y3 : Unit) => (⟨[], Jj a1 a2 a3 a4 a0, [], 12, 53, []⟩ : St)) (fun (y4 : Int) => (⟨[], Jj a1 a2 a3 a4 a0, [], 12, 53, []⟩ : St))) y5) := by
  refine QI (fun w0 M V0 ro n Q hv2 hro2 hQn2 => ?_)
  refine Qf <| Q5 ?_
  refine Jv [10, 11] [(0, 1), (1, 1), (2, 1), (3, 1), (4, 1), (5, 1), (6, 1), (7, 1), (8, 1), (9, 1), (9, 2)] YI (by kernel_rfl) (by kernel_rfl) (by kernel_rfl) ?_
  refine RunA.rd rfl rfl rfl (Q2 (Q6 Xa rfl rfl rfl)) rfl <| RunA.rd rfl rfl rfl (Q2 (Jx rfl)) rfl <| RunA.rd rfl rfl rfl (Q2 (Q1 K3 rfl)) rfl <| RunA.rd rfl rfl rfl (Q2 (Q6 YA rfl rfl rfl)) rfl <| RunA.rd rfl rfl rfl (Q2 (Q1 YF rfl)) rfl <| RunA.rd rfl rfl rfl (Q2 (Q6 JG rfl rfl rfl)) rfl <| RunA.rd rfl rfl rfl (Q2 (Zz (M := a2) (k := a0.name) YL Kh rfl rfl rfl)) rfl <| RunA.rd rfl rfl rfl (Q2 (Qt rfl)) rfl <| RunA.rd rfl rfl rfl (Q2 (Jg rfl rfl)) rfl <| RunA.rd rfl rfl rfl (Q2 (Jg rfl rfl)) rfl <| RunA.eff rfl rfl rfl (Qm ZB rfl) rfl <| RunA.eff rfl rfl rfl (Qr Jm rfl rfl rfl rfl (Um rfl) rfl) rfl <| RunA.rd rfl rfl rfl (Q2 (JK rfl)) rfl ?_
  refine RunA.nil ⟨?ex, _, _, rfl, ?_⟩
  case ex => exact ⟨⟨_, rfl, _, _, rfl, rfl, rfl, .inl ⟨rfl, _, Q2 (Q6 Xa rfl rfl rfl), rfl⟩⟩, ⟨_, rfl, _, _, rfl, rfl, rfl, .inl ⟨rfl, _, Q2 (Jx rfl), rfl⟩⟩, ⟨_, rfl, _, _, rfl, rfl, rfl, .inl ⟨rfl, _, Q2 (Q1 K3 rfl), rfl⟩⟩, ⟨_, rfl, _, _, rfl, rfl, rfl, .inl ⟨rfl, _, Q2 (Q6 YA rfl rfl rfl), rfl⟩⟩, ⟨_, rfl, _, _, rfl, rfl, rfl, .inl ⟨rfl, _, Q2 (Q1 YF rfl), rfl⟩⟩, ⟨_, rfl, _, _, rfl, rfl, rfl, .inl ⟨rfl, _, Q2 (Q6 JG rfl rfl rfl), rfl⟩⟩, ⟨_, rfl, _, _, rfl, rfl, rfl, .inl ⟨rfl, _, Q2 (Zz (M := a2) (k := a0.name) YL Kh rfl rfl rfl), rfl⟩⟩, ⟨_, rfl, _, _, rfl, rfl, rfl, .inl ⟨rfl, _, Q2 (Qt rfl), rfl⟩⟩, ⟨_, rfl, _, _, rfl, rfl, rfl, .inl ⟨rfl, _, Q2 (Jg rfl rfl), rfl⟩⟩, ⟨_, rfl, _, _, rfl, rfl, rfl, .inl ⟨rfl, _, Q2 (Jg rfl rfl), rfl⟩⟩, ⟨_, rfl, _, _, rfl, rfl, rfl, .inl ⟨rfl, _, Q2 (Jg rfl rfl), rfl⟩⟩, trivial⟩
  refine JX (st' := ⟨[(9, .v (.one (.ptr 5 0))), (11, .v (.one (.ptr 10 0))), (12, .v (.one (.ptr 11 0))), (13, .v (.one (Uy (KR a2 a0.name))))], m83f9_h7 a1 a2 a3 a4 a0, [], 12, 53, []⟩) (Qu (Ua rfl) (hA rfl) Un rfl (Nat.le_trans hv2 (Um rfl)) rfl rfl rfl (UF rfl rfl (UF rfl rfl (UF rfl rfl (UF rfl rfl (UE rfl (UF rfl rfl (UE rfl (UG rfl)))))))) rfl rfl) <| Q3 <| Q5 <| Q5 <| Q0 <| Uf rfl rfl rfl <| Ue rfl rfl rfl (Jb rfl) <| Q4 <| Q3 ?_
  refine QS (fun (v8 : Bool × Int × Int × Int × Int × Int × Int × UN × (List Lvl) × (List Tm)) => ⟨[(11, .v (.one (.ptr 10 0))), (12, .v (.one (.ptr 11 0))), (13, .v (.one (Uy v8.1)))], [(0, Gz), (1, .obj (.deferred (some []))), (2, .cells 59 [.ptr 3 0]), (3, .cells 62 [Uv a1, .mp 4]), (4, .mp (QO a2.1) a2.2), (5, .cells 60 [.mp 6]), (6, .mp (QO a3.1) a3.2), (7, .cells 33 (UA a4)), (8, .cells 33 (UA a0)), (9, .cells 78 [.yld 0]), (10, .cells 33 (UA a0)), (11, .cells 35 [Ux v8.2.1, Ux v8.2.2.1, Ux v8.2.2.2.1, Ux v8.2.2.2.2.1, Ux v8.2.2.2.2.2.1, Ux v8.2.2.2.2.2.2.1, Jl v8.2.2.2.2.2.2.2.1, Uv v8.2.2.2.2.2.2.2.2.1, Uv v8.2.2.2.2.2.2.2.2.2])], [], 12, 53, []⟩) (fun (v8 : Bool × Int × Int × Int × Int × Int × Int × UN × (List Lvl) × (List Tm)) => (Option.bind (JL v8.1 9) (Sum.elim (fun (x10 : Unit) => Option.bind (JL ((a0.levels.length : Int) == v8.2.2.2.2.1) 15) (Sum.elim (fun (x13 : Unit) => some (.inl ())) (fun (x14 : Unit) => some (.inr 15)))) (fun (x11 : Unit) => some (.inr 9)))) = some y5) ?_ ?_
  refine Qb h2 (fun w3_ h3 h2 => ?_)
  refine Qg (b := (!(KR a2 a0.name))) rfl (fun c9 => ?_) (fun c9 => ?_)
  replace h3 := Qk c9 h3
  refine Q0 <| Ue rfl rfl rfl (Q6 YA rfl rfl rfl) <| Ue rfl rfl rfl (Q1 YF rfl) <| Ue rfl rfl rfl (Q6 JG rfl rfl rfl) <| Ue rfl rfl rfl (Zz (M := a3) (k := a0.name) YL Kh rfl rfl rfl) <| Uf rfl rfl rfl <| Ue rfl rfl rfl (Jg rfl rfl) <| Ue rfl rfl rfl (Jg rfl rfl) <| Qy rfl rfl (Qr Jm rfl rfl rfl rfl (Um rfl) rfl) <| Ug rfl rfl rfl <| Q4 ?_
  have e := Uc h3; subst e
  exact Qc ((KR a3 a0.name), (Qp a3 a0.name).kind, (Qp a3 a0.name).decl, (Qp a3 a0.name).item, (Qp a3 a0.name).params, ((Qp a3 a0.name).ty).kind, ((Qp a3 a0.name).ty).index, ((Qp a3 a0.name).ty).name, ((Qp a3 a0.name).ty).levels, ((Qp a3 a0.name).ty).kids) (Qu (Ua rfl) (hA rfl) Un rfl (Nat.le_trans hv2 (Um rfl)) rfl rfl rfl (UF rfl rfl (UF rfl rfl (UF rfl rfl (UF rfl rfl (UE rfl (UF rfl rfl (UE rfl (UG rfl)))))))) rfl rfl) h2
  replace h3 := Ql c9 h3
  refine Qj ?_
  have e := Uc h3; subst e
  exact Qc ((KR a2 a0.name), (Qp a2 a0.name).kind, (Qp a2 a0.name).decl, (Qp a2 a0.name).item, (Qp a2 a0.name).params, ((Qp a2 a0.name).ty).kind, ((Qp a2 a0.name).ty).index, ((Qp a2 a0.name).ty).name, ((Qp a2 a0.name).ty).levels, ((Qp a2 a0.name).ty).kids) (Qu (Ua rfl) (hA rfl) Un rfl (Nat.le_trans hv2 (Um rfl)) rfl rfl rfl (UF rfl rfl (UF rfl rfl (UF rfl rfl (UF rfl rfl (UE rfl (UF rfl rfl (UE rfl (UG rfl)))))))) rfl rfl) h2
  intro v8 h2
  refine Q3 <| Q5 <| Q0 <| Uf rfl rfl rfl ?_
  refine Qb h2 (fun x10 hx10 h2 => ?_)
  refine JY id hx10 h2 (fun x11 hx11 h2 => ?_) (fun x12 hx12 h2 => ?_)
  refine Q9 rfl rfl (Um rfl) (QE rfl rfl rfl (CallE.m (QB v8.1 9 (.inl x11) hx11)) rfl) <| Q4 <| Q3 <| Q0 <| Ue rfl rfl rfl (Q1 Zl rfl) <| Ue rfl rfl rfl (Q6 Gu rfl rfl rfl) <| Ue rfl rfl rfl (Qx (α := Lvl) Zf rfl (.d _)) <| Ue rfl rfl rfl (Q1 fo_35_3 rfl) <| Ue rfl rfl rfl (Q6 QZ rfl rfl rfl) <| Ue rfl rfl rfl (Q7 rfl rfl rfl) ?_
  refine Qb h2 (fun x13 hx13 h2 => ?_)
  refine JY id hx13 h2 (fun x14 hx14 h2 => ?_) (fun x15 hx15 h2 => ?_)
  refine Q9 rfl rfl (Um rfl) (QE rfl rfl rfl (CallE.m (QB ((a0.levels.length : Int) == v8.2.2.2.2.1) 15 (.inl x14) hx14)) rfl) <| Q4 <| Qe ?_
  have e := Uc h2; subst e
  exact Jr (e := .normal) (st' := ⟨[], Jj a1 a2 a3 a4 a0, [], 12, 53, []⟩) hQn2 (Qu U9 (hA rfl) Un rfl (Nat.le_trans hv2 (Um rfl)) rfl rfl rfl (UF rfl rfl (UF rfl rfl (UF rfl rfl (UF rfl rfl (UE rfl (UF rfl rfl (UE rfl (UG rfl)))))))) rfl rfl)
  refine Jd rfl (QH rfl rfl rfl (CallE.d (QB ((a0.levels.length : Int) == v8.2.2.2.2.1) 15 (.inr x15) hx15))) ?_
  have e := Uc h2; subst e
  exact Jn (Jr (e := (.panic (Jz (QJ 90 15)))) (st' := ⟨[], Jj a1 a2 a3 a4 a0, [], 12, 53, []⟩) hQn2 (Qu U9 (hA rfl) Un rfl (Nat.le_trans hv2 (Um rfl)) rfl rfl rfl (UF rfl rfl (UF rfl rfl (UF rfl rfl (UF rfl rfl (UE rfl (UF rfl rfl (UE rfl (UG rfl)))))))) rfl rfl)) (fun _ _ h => h)
  refine Jd rfl (QH rfl rfl rfl (CallE.d (QB v8.1 9 (.inr x12) hx12))) ?_
  have e := Uc h2; subst e
  exact Jn (Jr (e := (.panic (Jz (QJ 90 9)))) (st' := ⟨[], Jj a1 a2 a3 a4 a0, [], 12, 53, []⟩) hQn2 (Qu U9 (hA rfl) Un rfl (Nat.le_trans hv2 (Um rfl)) rfl rfl rfl (UF rfl rfl (UF rfl rfl (UF rfl rfl (UF rfl rfl (UE rfl (UF rfl rfl (UE rfl (UG rfl)))))))) rfl rfl)) (fun _ _ h => h)
 refine XM (C := fun q_ => ExecOK Try.prog (some 0) Yq ⟨[(5, .v (.one (.ptr 2 0))), (9, .v (.one (.ptr 5 0))), (11, .v (.one (.ptr 10 0)))], m83f9_h3 a1 a2 a3 a4 a0, [], 11, 53, []⟩ ((Sum.elim (fun (_ : Unit) => (.normal : Exit)) (fun (y4 : Int) => ((.panic (Jz (QJ 90 y4))) : Exit))) q_) ((Sum.elim (fun (y3 : Unit) => (⟨[], Jj a1 a2 a3 a4 a0, [], 12, 53, []⟩ : St)) (fun (y4 : Int) => (⟨[], Jj a1 a2 a3 a4 a0, [], 12, 53, []⟩ : St))) q_)) hb7 h1 (fun y3 hb7 h1 => ?_) (fun y4 hb7 h1 => ?_)
 replace hb7 : ExecOK Try.prog (some 0) Yq ⟨[(5, .v (.one (.ptr 2 0))), (9, .v (.one (.ptr 5 0))), (11, .v (.one (.ptr 10 0)))], m83f9_h3 a1 a2 a3 a4 a0, [], 11, 53, []⟩ .normal ⟨[], Jj a1 a2 a3 a4 a0, [], 12, 53, []⟩ := hb7
 refine Q9 rfl rfl (Um rfl) (Jc (jump := none) rfl rfl rfl rfl rfl (Qw ha6 (fun E hv => (Qu (Ua rfl) (hA rfl) Un rfl (Nat.le_trans hv (Um rfl)) rfl rfl rfl (UF rfl rfl (UF rfl rfl (UF rfl rfl (UF rfl rfl (UE rfl (UF rfl rfl (UE rfl (UG rfl)))))))) rfl rfl))) rfl (Qw hb7 (fun E hv => (Qu (Ua rfl) (hA rfl) Un rfl (Nat.le_trans hv (Um rfl)) rfl rfl rfl (UF rfl rfl (UF rfl rfl (UF rfl rfl (UF rfl rfl (UE rfl (UF rfl rfl (UE rfl (UG rfl)))))))) rfl rfl))) rfl rfl) ?_
 refine Ue rfl rfl rfl (Jb rfl) <| Ue rfl rfl rfl (Qh rfl rfl) <| Q4 ?_
 have e := Uc h1; subst e
 replace h0 := Kz h0
 exact Qc () (Qu (Ua rfl) (hA rfl) Un rfl (Nat.le_trans hv0 (Um rfl)) rfl rfl rfl (UF rfl rfl (UF rfl rfl (UF rfl rfl (UF rfl rfl (UE rfl (UF rfl rfl (UE rfl (UG rfl)))))))) rfl rfl) h0
 replace hb7 : ExecOK Try.prog (some 0) Yq ⟨[(5, .v (.one (.ptr 2 0))), (9, .v (.one (.ptr 5 0))), (11, .v (.one (.ptr 10 0)))], m83f9_h3 a1 a2 a3 a4 a0, [], 11, 53, []⟩ (.panic (Jz (QJ 90 y4))) ⟨[], Jj a1 a2 a3 a4 a0, [], 12, 53, []⟩ := hb7
 refine Jd rfl (OpD.yield rfl rfl rfl rfl rfl (Qw ha6 (fun E hv => (Qu (Ua rfl) (hA rfl) Un rfl (Nat.le_trans hv (Um rfl)) rfl rfl rfl (UF rfl rfl (UF rfl rfl (UF rfl rfl (UF rfl rfl (UE rfl (UF rfl rfl (UE rfl (UG rfl)))))))) rfl rfl))) rfl (Qw hb7 (fun E hv => (Qu (Ua rfl) (hA rfl) Un rfl (Nat.le_trans hv (Um rfl)) rfl rfl rfl (UF rfl rfl (UF rfl rfl (UF rfl rfl (UF rfl rfl (UE rfl (UF rfl rfl (UE rfl (UG rfl)))))))) rfl rfl))) rfl rfl) ?_
 have e := Uc h1; subst e
 replace h0 := KX h0
 have e := Uc h0; subst e
 exact Jn (hQ0 (.panic (Jz (QJ 90 y4))) _ ZP rfl (show StLe _ _ ⟨[], Ye a1 a2 a3 a4, [], 12, 19, []⟩ from (Qu U9 (hA rfl) Un rfl (Nat.le_trans hv0 (Um rfl)) rfl rfl rfl (UF rfl rfl (UF rfl rfl (UF rfl rfl (UF rfl rfl (UE rfl (UF rfl rfl (UE rfl (UG rfl)))))))) rfl rfl))) (fun _ _ h => h)
 replace h1 := Ql c2 h1
 refine Q8 rfl rfl <| Q8 rfl rfl <| Q8 rfl rfl <| Q8 rfl rfl <| Ue rfl rfl rfl (Qd rfl rfl) <| Q4 ?_
 have e := Uc h1; subst e
 replace h0 := Kz h0
 exact Qc () (Qu (Ua rfl) (hA rfl) Un rfl (Nat.le_trans hv0 (Um rfl)) rfl rfl rfl (UF rfl rfl (UF rfl rfl (UF rfl rfl (UF rfl rfl (UE rfl (UF rfl rfl (UE rfl (UG rfl)))))))) rfl rfl) h0
 intro v1 h0
 unfold m83f9_k1 at h0
 refine Q3 ?_
 refine Qg rfl (fun h => nomatch h) (fun _ => ?_)
 refine Qj <| Q3 <| Q5 <| Q0 <| Ue rfl rfl rfl (Q1 JJ rfl) <| Ue rfl rfl rfl (Q6 JH rfl rfl rfl) <| Ue rfl rfl rfl (YQ rfl) ?_
 refine Qb h0 (fun y19 h1 h0 => ?_)
 have hc18 : CallE Try.prog 98 [.one (Uv a0.kids), .one (.fn 99 [(9, 0)])] ⟨Ja a1 a2 a3 a4 a0, [], 10⟩ (((Sum.elim (fun (y16 : Bool) => ((.ret [.one (Uy y16)]) : EK)) (fun (y17 : Int) => ((.pan (QJ 90 y17)) : EK)))) y19) ⟨(((Sum.elim (fun (y16 : Bool) => (⟨[(4, .v (.one (Uy y16)))], Ja a1 a2 a3 a4 a0, [], 10, 9, []⟩ : St)) (fun (y17 : Int) => (⟨[], Jj a1 a2 a3 a4 a0, [], 15, 9, []⟩ : St)))) y19).hp, (((Sum.elim (fun (y16 : Bool) => (⟨[(4, .v (.one (Uy y16)))], Ja a1 a2 a3 a4 a0, [], 10, 9, []⟩ : St)) (fun (y17 : Int) => (⟨[], Jj a1 a2 a3 a4 a0, [], 15, 9, []⟩ : St)))) y19).tk, (((Sum.elim (fun (y16 : Bool) => (⟨[(4, .v (.one (Uy y16)))], Ja a1 a2 a3 a4 a0, [], 10, 9, []⟩ : St)) (fun (y17 : Int) => (⟨[], Jj a1 a2 a3 a4 a0, [], 15, 9, []⟩ : St)))) y19).nx⟩ := by
  refine JP y19 ((Sum.elim (fun (y16 : Bool) => (⟨[(4, .v (.one (Uy y16)))], Ja a1 a2 a3 a4 a0, [], 10, 9, []⟩ : St)) (fun (y17 : Int) => (⟨[], Jj a1 a2 a3 a4 a0, [], 15, 9, []⟩ : St)))) ((Sum.elim (fun (y16 : Bool) => ((.ret [.one (Uy y16)]) : EK)) (fun (y17 : Int) => ((.pan (QJ 90 y17)) : EK)))) rfl rfl en_98 (Um rfl) (fun z_ => by cases z_ with
    | inl _ => exact rfl
    | inr _ => exact rfl) (fun z_ => by cases z_ with
    | inl _ => exact (WA (Qz rfl .nil))
    | inr _ => exact WG) (fun w0 M V0 Q hv1 hQ1 => ?_)
  simp only [J7]
  refine Q5 <| Q0 <| Ug rfl rfl rfl <| Q4 <| Q3 <| Q5 <| Q0 <| Uf rfl rfl rfl <| Uf rfl rfl rfl ?_
  refine Qb h1 (fun y23 h2 h1 => ?_)
  have hc22 : CallE Try.prog 104 [.one (Uv a0.kids), .one (.fn 99 [(9, 0)])] ⟨Ja a1 a2 a3 a4 a0, [], 10⟩ (((Sum.elim (fun (y20 : Int) => ((.ret [.one (Ux y20)]) : EK)) (fun (y21 : Int) => ((.pan (QJ 90 y21)) : EK)))) y23) ⟨(((Sum.elim (fun (y20 : Int) => (⟨[(4, .v (.one (Ux y20)))], Ja a1 a2 a3 a4 a0, [], 10, 19, []⟩ : St)) (fun (y21 : Int) => (⟨[], Jj a1 a2 a3 a4 a0, [], 15, 19, []⟩ : St)))) y23).hp, (((Sum.elim (fun (y20 : Int) => (⟨[(4, .v (.one (Ux y20)))], Ja a1 a2 a3 a4 a0, [], 10, 19, []⟩ : St)) (fun (y21 : Int) => (⟨[], Jj a1 a2 a3 a4 a0, [], 15, 19, []⟩ : St)))) y23).tk, (((Sum.elim (fun (y20 : Int) => (⟨[(4, .v (.one (Ux y20)))], Ja a1 a2 a3 a4 a0, [], 10, 19, []⟩ : St)) (fun (y21 : Int) => (⟨[], Jj a1 a2 a3 a4 a0, [], 15, 19, []⟩ : St)))) y23).nx⟩ := by
   refine JP y23 ((Sum.elim (fun (y20 : Int) => (⟨[(4, .v (.one (Ux y20)))], Ja a1 a2 a3 a4 a0, [], 10, 19, []⟩ : St)) (fun (y21 : Int) => (⟨[], Jj a1 a2 a3 a4 a0, [], 15, 19, []⟩ : St)))) ((Sum.elim (fun (y20 : Int) => ((.ret [.one (Ux y20)]) : EK)) (fun (y21 : Int) => ((.pan (QJ 90 y21)) : EK)))) rfl rfl en_104 (Um rfl) (fun z_ => by cases z_ with
     | inl _ => exact rfl
     | inr _ => exact rfl) (fun z_ => by cases z_ with
     | inl _ => exact (WA (Qz rfl .nil))
     | inr _ => exact WG) (fun w0 M V0 Q hv2 hQ2 => ?_)
   simp only [J7]
   refine Q5 <| Q0 <| Ug rfl rfl rfl <| Q4 <| Q3 <| Q5 <| Q5 <| Q0 <| Uf rfl rfl rfl <| Ue rfl rfl rfl (Qx (α := Tm) Ji rfl (.d _)) <| Uf rfl rfl rfl <| Q4 <| Q3 <| Qf ?_
   refine QR 0 (fun (o24 : Unit) => ⟨[], Ja a1 a2 a3 a4 a0, [], 10, 19, []⟩) (fun (o24 : Unit) => (some (.inl (-1))) = some y23) ?_ ?_
   refine Qb h2 (fun o25 hl3 h2 => ?_)
   refine QQ (m83f9_l0 a0 rc a1 a2 a3 a4) (fun s3 => ⟨[(0, .v (.one (Uv a0.kids))), (1, .v (.one (.fn 99 [(9, 0)]))), (7, .v (.one (Ux (a0.kids.length : Int)))), (8, .v (.one (Ux s3)))], Ja a1 a2 a3 a4 a0, [], 10, 19, []⟩) 0 o25 (Qu (Ua rfl) (hA rfl) Un rfl (Nat.le_trans hv2 (Um rfl)) rfl rfl rfl (UF rfl rfl (UF rfl rfl (UF rfl rfl (UF rfl rfl (UE rfl (UF rfl rfl (UE rfl (UG rfl)))))))) rfl rfl) hl3 (fun s3 n3 oo3 h3 ho3 => ?_)
   unfold m83f9_l0 at h3
   refine Q5 <| Q0 <| Ue rfl rfl rfl (Q7 rfl rfl rfl) <| Q4 <| Q3 <| Q5 ?_
   refine Qg (b := (decide (s3 < (a0.kids.length : Int)))) rfl (fun c26 => ?_) (fun c26 => ?_)
   replace h3 := Qk c26 h3
   refine Qj <| Q3 <| Q5 <| Qf <| Q5 <| Q0 <| Uf rfl rfl rfl <| Ug rfl rfl rfl <| Q4 <| Q3 <| Q5 <| Q0 <| Uf rfl rfl rfl <| Uf rfl rfl rfl ?_
   refine Uf rfl rfl rfl ?_
   refine Qb h3 (fun x27 hx27 h3 => ?_)
   refine Ue rfl rfl rfl (Qq (α := Tm) Ji rfl (.d _) rfl hx27) <| Ue rfl rfl rfl (Qv (x27 : Tm) QW rfl) ?_
   refine Qb h3 (fun y31 h4 h3 => ?_)
   have hc30 : CallE Try.prog 99 [.agg (UA x27), .one (.ptr 9 0)] ⟨Ja a1 a2 a3 a4 a0, [], 10⟩ (((Sum.elim (fun (y28 : Bool) => ((.ret [.one (Uy y28)]) : EK)) (fun (y29 : Int) => ((.pan (QJ 90 y29)) : EK)))) y31) ⟨(((Sum.elim (fun (y28 : Bool) => (⟨[(3, .v (.one (Uy y28)))], Ja a1 a2 a3 a4 a0, [], 13, 8, []⟩ : St)) (fun (y29 : Int) => (⟨[], Jj a1 a2 a3 a4 a0, [], 15, 8, []⟩ : St)))) y31).hp, (((Sum.elim (fun (y28 : Bool) => (⟨[(3, .v (.one (Uy y28)))], Ja a1 a2 a3 a4 a0, [], 13, 8, []⟩ : St)) (fun (y29 : Int) => (⟨[], Jj a1 a2 a3 a4 a0, [], 15, 8, []⟩ : St)))) y31).tk, (((Sum.elim (fun (y28 : Bool) => (⟨[(3, .v (.one (Uy y28)))], Ja a1 a2 a3 a4 a0, [], 13, 8, []⟩ : St)) (fun (y29 : Int) => (⟨[], Jj a1 a2 a3 a4 a0, [], 15, 8, []⟩ : St)))) y31).nx⟩ := by
    refine JP y31 ((Sum.elim (fun (y28 : Bool) => (⟨[(3, .v (.one (Uy y28)))], Ja a1 a2 a3 a4 a0, [], 13, 8, []⟩ : St)) (fun (y29 : Int) => (⟨[], Jj a1 a2 a3 a4 a0, [], 15, 8, []⟩ : St)))) ((Sum.elim (fun (y28 : Bool) => ((.ret [.one (Uy y28)]) : EK)) (fun (y29 : Int) => ((.pan (QJ 90 y29)) : EK)))) rfl rfl en_99 (Um rfl) (fun z_ => by cases z_ with
      | inl _ => exact rfl
      | inr _ => exact rfl) (fun z_ => by cases z_ with
      | inl _ => exact (WA (Qz rfl .nil))
      | inr _ => exact WG) (fun w0 M V0 Q hv4 hQ4 => ?_)
    simp only [J7]
    refine Q5 <| Q0 <| Q9 rfl rfl (Um rfl) (QN rfl) <| Ug rfl rfl rfl <| Q4 <| Q3 <| Q5 <| Q0 <| Ue rfl rfl rfl (QK (x27 : Tm) QW rfl rfl) <| Ue rfl rfl rfl (Q6 ag_78 rfl rfl rfl) ?_
    refine Qb h4 (fun x32 hx32 h4 => ?_)
    refine JY id hx32 h4 (fun x33 hx33 h4 => ?_) (fun x34 hx34 h4 => ?_)
    refine Q9 rfl rfl (Um rfl) (J4 (hp1' := [(0, .loop .ready none [(5, .v (.one (.ptr 2 0))), (9, .v (.one (.ptr 5 0))), (23, .v (.one (.fn 82 [(7, 0)])))] 53 #[24] YM Yq 1), (1, .obj (.deferred (some []))), (2, .cells 59 [.ptr 3 0]), (3, .cells 62 [Uv a1, .mp 4]), (4, .mp (QO a2.1) a2.2), (5, .cells 60 [.mp 6]), (6, .mp (QO a3.1) a3.2), (7, .cells 33 (UA a4))]) (tk1' := []) (hpF := m83f9_h9 a0 x27) (tkF := []) (res2 := QD [.one (Uy x33)]) (nx2 := 13) [0, 1, 2, 3, 4, 5, 6, 7] rfl rfl (CallE.m (H x27 a1 a2 a3 a4 (.inl x33) hx33)) rfl rfl (Uj rfl rfl (Uj rfl rfl (Uj rfl rfl (Uj rfl rfl (Ui rfl (Uj rfl rfl (Ui rfl (Uj rfl rfl Uh)))))))) rfl rfl (Ut rfl (Ut rfl (Ut rfl (Ut rfl (Uu rfl (Ut rfl (Uu rfl (Ut rfl Us)))))))) Up (hA rfl) Un rfl rfl rfl rfl rfl (UF rfl rfl (UF rfl rfl (UF rfl rfl (UF rfl rfl (UE rfl (UF rfl rfl (UE rfl (UG rfl)))))))) rfl rfl rfl rfl) <| Ue rfl rfl rfl (Jb rfl) <| Ug rfl rfl rfl <| Q4 <| Q3 <| QA ?_
    have e := Uc h4; subst e
    exact hQ4 _ _ WS rfl (show StLe _ _ ⟨[(3, .v (.one (Uy (!x33))))], Ja a1 a2 a3 a4 a0, [], 13, 8, []⟩ from (Qu (Ua rfl) (hA rfl) Un rfl (Nat.le_trans hv4 (Um rfl)) rfl rfl rfl (UF rfl rfl (UF rfl rfl (UF rfl rfl (UF rfl rfl (UE rfl (UF rfl rfl (UE rfl (UG rfl)))))))) rfl rfl))
    refine Jd rfl (Yy (hp1' := [(0, .loop .busy none [(5, .v (.one (.ptr 2 0))), (9, .v (.one (.ptr 5 0))), (23, .v (.one (.fn 82 [(7, 0)])))] 53 #[24] YM Yq 1), (1, .obj (.deferred (some []))), (2, .cells 59 [.ptr 3 0]), (3, .cells 62 [Uv a1, .mp 4]), (4, .mp (QO a2.1) a2.2), (5, .cells 60 [.mp 6]), (6, .mp (QO a3.1) a3.2), (7, .cells 33 (UA a4))]) (tk1' := []) (hpF := m83f9_h9 a0 x27) (tkF := []) (nx2 := 15) [0, 1, 2, 3, 4, 5, 6, 7] rfl rfl (CallE.d (H x27 a1 a2 a3 a4 (.inr x34) hx34)) rfl rfl (Uj rfl rfl (Uj rfl rfl (Uj rfl rfl (Uj rfl rfl (Ui rfl (Uj rfl rfl (Ui rfl (Uj rfl rfl Uh)))))))) rfl (Ut rfl (Ut rfl (Ut rfl (Ut rfl (Uu rfl (Ut rfl (Uu rfl (Ut rfl Us)))))))) Up (hA rfl) Un rfl rfl rfl rfl rfl (UF rfl rfl (UF rfl rfl (UF rfl rfl (UF rfl rfl (UE rfl (UF rfl rfl (UE rfl (UG rfl)))))))) rfl rfl rfl rfl) ?_
    have e := Uc h4; subst e
    exact Jn (hQ4 (.panic (Jz (QJ 90 x34))) _ ZP rfl (show StLe _ _ ⟨[], Jj a1 a2 a3 a4 a0, [], 15, 8, []⟩ from (Qu U9 (hA rfl) Un rfl (Nat.le_trans hv4 (Um rfl)) rfl rfl rfl (UF rfl rfl (UF rfl rfl (UF rfl rfl (UF rfl rfl (UE rfl (UF rfl rfl (UE rfl (UG rfl)))))))) rfl rfl))) (fun _ _ h => h)
   refine XM (C := fun q_ => CallE Try.prog 99 [.agg (UA x27), .one (.ptr 9 0)] ⟨Ja a1 a2 a3 a4 a0, [], 10⟩ (((Sum.elim (fun (y28 : Bool) => ((.ret [.one (Uy y28)]) : EK)) (fun (y29 : Int) => ((.pan (QJ 90 y29)) : EK)))) q_) ⟨(((Sum.elim (fun (y28 : Bool) => (⟨[(3, .v (.one (Uy y28)))], Ja a1 a2 a3 a4 a0, [], 13, 8, []⟩ : St)) (fun (y29 : Int) => (⟨[], Jj a1 a2 a3 a4 a0, [], 15, 8, []⟩ : St)))) q_).hp, (((Sum.elim (fun (y28 : Bool) => (⟨[(3, .v (.one (Uy y28)))], Ja a1 a2 a3 a4 a0, [], 13, 8, []⟩ : St)) (fun (y29 : Int) => (⟨[], Jj a1 a2 a3 a4 a0, [], 15, 8, []⟩ : St)))) q_).tk, (((Sum.elim (fun (y28 : Bool) => (⟨[(3, .v (.one (Uy y28)))], Ja a1 a2 a3 a4 a0, [], 13, 8, []⟩ : St)) (fun (y29 : Int) => (⟨[], Jj a1 a2 a3 a4 a0, [], 15, 8, []⟩ : St)))) q_).nx⟩) hc30 h3 (fun y28 hc30 h3 => ?_) (fun y29 hc30 h3 => ?_)
   replace hc30 : CallM Try.prog 99 [.agg (UA x27), .one (.ptr 9 0)] ⟨Ja a1 a2 a3 a4 a0, [], 10⟩ (QD [.one (Uy y28)]) ⟨Ja a1 a2 a3 a4 a0, [], 13⟩ := hc30
   refine Q9 rfl rfl (Um rfl) (JM rfl rfl rfl hc30 rfl (hA rfl) Un) <| Q4 <| Q3 ?_
   refine Qg (b := y28) rfl (fun c35 => ?_) (fun c35 => ?_)
   replace h3 := Qk c35 h3
   refine Q5 <| Q0 <| Uf rfl rfl rfl <| Ug rfl rfl rfl <| Q4 <| Q3 <| QA ?_
   have e := Uc h3; subst e
   have e_ : _ = _ := ho3
   subst e_
   try dsimp only [Sum.elim_inl, Sum.elim_inr] at h2
   have e := Uc h2; subst e
   exact hQ2 _ _ WS rfl (show StLe _ _ ⟨[(4, .v (.one (Ux s3)))], Ja a1 a2 a3 a4 a0, [], 10, 19, []⟩ from (Qu (Ua rfl) (hA rfl) Un rfl (Nat.le_trans hv2 (Um rfl)) rfl rfl rfl (UF rfl rfl (UF rfl rfl (UF rfl rfl (UF rfl rfl (UE rfl (UF rfl rfl (UE rfl (UG rfl)))))))) rfl rfl))
   replace h3 := Ql c35 h3
   refine Qj <| Qe <| Q3 <| Q0 <| Ue rfl rfl rfl (Q7 rfl rfl rfl) <| Uf rfl rfl rfl <| Q4 ?_
   have e := Uc h3; subst e
   refine QM (Jk (s3 + 1)) (Qu (Ua rfl) (hA rfl) Un rfl (Nat.le_trans hv2 (Um rfl)) rfl rfl rfl (UF rfl rfl (UF rfl rfl (UF rfl rfl (UF rfl rfl (UE rfl (UF rfl rfl (UE rfl (UG rfl)))))))) rfl rfl) ho3
   replace hc30 : Xc Try.prog 99 [.agg (UA x27), .one (.ptr 9 0)] ⟨Ja a1 a2 a3 a4 a0, [], 10⟩ (QJ 90 y29) ⟨Jj a1 a2 a3 a4 a0, [], 15⟩ := hc30
   refine Jd rfl (OpD.callW rfl rfl rfl hc30 rfl (hA rfl) Un) ?_
   have e := Uc h3; subst e
   have e_ : _ = _ := ho3
   subst e_
   try dsimp only [Sum.elim_inl, Sum.elim_inr] at h2
   have e := Uc h2; subst e
   exact Jn (hQ2 (.panic (Jz (QJ 90 y29))) _ ZP rfl (show StLe _ _ ⟨[], Jj a1 a2 a3 a4 a0, [], 15, 19, []⟩ from (Qu U9 (hA rfl) Un rfl (Nat.le_trans hv2 (Um rfl)) rfl rfl rfl (UF rfl rfl (UF rfl rfl (UF rfl rfl (UF rfl rfl (UE rfl (UF rfl rfl (UE rfl (UG rfl)))))))) rfl rfl))) (fun _ _ h => h)
   replace h3 := Ql c26 h3
   refine J1 <| Qn <| Qn ?_
   have e := Uc h3; subst e
   have e_ : _ = _ := ho3
   subst e_
   exact QP () (Qu U9 (hA rfl) Un rfl (Nat.le_trans hv2 (Um rfl)) rfl rfl rfl (UF rfl rfl (UF rfl rfl (UF rfl rfl (UF rfl rfl (UE rfl (UF rfl rfl (UE rfl (UG rfl)))))))) rfl rfl) h2
   intro o24 h2
   refine QF <| Q3 <| Q5 <| Q0 <| Ug rfl rfl rfl <| Q4 <| Q3 <| QA ?_
   have e := Uc h2; subst e
   exact hQ2 _ _ WS rfl (show StLe _ _ ⟨[(4, .v (.one (Ux (-1))))], Ja a1 a2 a3 a4 a0, [], 10, 19, []⟩ from (Qu (Ua rfl) (hA rfl) Un rfl (Nat.le_trans hv2 (Um rfl)) rfl rfl rfl (UF rfl rfl (UF rfl rfl (UF rfl rfl (UF rfl rfl (UE rfl (UF rfl rfl (UE rfl (UG rfl)))))))) rfl rfl))
  refine XM (C := fun q_ => CallE Try.prog 104 [.one (Uv a0.kids), .one (.fn 99 [(9, 0)])] ⟨Ja a1 a2 a3 a4 a0, [], 10⟩ (((Sum.elim (fun (y20 : Int) => ((.ret [.one (Ux y20)]) : EK)) (fun (y21 : Int) => ((.pan (QJ 90 y21)) : EK)))) q_) ⟨(((Sum.elim (fun (y20 : Int) => (⟨[(4, .v (.one (Ux y20)))], Ja a1 a2 a3 a4 a0, [], 10, 19, []⟩ : St)) (fun (y21 : Int) => (⟨[], Jj a1 a2 a3 a4 a0, [], 15, 19, []⟩ : St)))) q_).hp, (((Sum.elim (fun (y20 : Int) => (⟨[(4, .v (.one (Ux y20)))], Ja a1 a2 a3 a4 a0, [], 10, 19, []⟩ : St)) (fun (y21 : Int) => (⟨[], Jj a1 a2 a3 a4 a0, [], 15, 19, []⟩ : St)))) q_).tk, (((Sum.elim (fun (y20 : Int) => (⟨[(4, .v (.one (Ux y20)))], Ja a1 a2 a3 a4 a0, [], 10, 19, []⟩ : St)) (fun (y21 : Int) => (⟨[], Jj a1 a2 a3 a4 a0, [], 15, 19, []⟩ : St)))) q_).nx⟩) hc22 h1 (fun y20 hc22 h1 => ?_) (fun y21 hc22 h1 => ?_)
  replace hc22 : CallM Try.prog 104 [.one (Uv a0.kids), .one (.fn 99 [(9, 0)])] ⟨Ja a1 a2 a3 a4 a0, [], 10⟩ (QD [.one (Ux y20)]) ⟨Ja a1 a2 a3 a4 a0, [], 10⟩ := hc22
  refine Q9 rfl rfl (Um rfl) (JM rfl rfl rfl hc22 rfl (hA rfl) Un) <| Ue rfl rfl rfl (Q7 rfl rfl rfl) <| Ug rfl rfl rfl <| Q4 <| Q3 <| QA ?_
  have e := Uc h1; subst e
  exact hQ1 _ _ WS rfl (show StLe _ _ ⟨[(4, .v (.one (Uy (decide (0 ≤ y20)))))], Ja a1 a2 a3 a4 a0, [], 10, 9, []⟩ from (Qu (Ua rfl) (hA rfl) Un rfl (Nat.le_trans hv1 (Um rfl)) rfl rfl rfl (UF rfl rfl (UF rfl rfl (UF rfl rfl (UF rfl rfl (UE rfl (UF rfl rfl (UE rfl (UG rfl)))))))) rfl rfl))
  replace hc22 : Xc Try.prog 104 [.one (Uv a0.kids), .one (.fn 99 [(9, 0)])] ⟨Ja a1 a2 a3 a4 a0, [], 10⟩ (QJ 90 y21) ⟨Jj a1 a2 a3 a4 a0, [], 15⟩ := hc22
  refine Jd rfl (OpD.callW rfl rfl rfl hc22 rfl (hA rfl) Un) ?_
  have e := Uc h1; subst e
  exact Jn (hQ1 (.panic (Jz (QJ 90 y21))) _ ZP rfl (show StLe _ _ ⟨[], Jj a1 a2 a3 a4 a0, [], 15, 9, []⟩ from (Qu U9 (hA rfl) Un rfl (Nat.le_trans hv1 (Um rfl)) rfl rfl rfl (UF rfl rfl (UF rfl rfl (UF rfl rfl (UF rfl rfl (UE rfl (UF rfl rfl (UE rfl (UG rfl)))))))) rfl rfl))) (fun _ _ h => h)
 refine XM (C := fun q_ => CallE Try.prog 98 [.one (Uv a0.kids), .one (.fn 99 [(9, 0)])] ⟨Ja a1 a2 a3 a4 a0, [], 10⟩ (((Sum.elim (fun (y16 : Bool) => ((.ret [.one (Uy y16)]) : EK)) (fun (y17 : Int) => ((.pan (QJ 90 y17)) : EK)))) q_) ⟨(((Sum.elim (fun (y16 : Bool) => (⟨[(4, .v (.one (Uy y16)))], Ja a1 a2 a3 a4 a0, [], 10, 9, []⟩ : St)) (fun (y17 : Int) => (⟨[], Jj a1 a2 a3 a4 a0, [], 15, 9, []⟩ : St)))) q_).hp, (((Sum.elim (fun (y16 : Bool) => (⟨[(4, .v (.one (Uy y16)))], Ja a1 a2 a3 a4 a0, [], 10, 9, []⟩ : St)) (fun (y17 : Int) => (⟨[], Jj a1 a2 a3 a4 a0, [], 15, 9, []⟩ : St)))) q_).tk, (((Sum.elim (fun (y16 : Bool) => (⟨[(4, .v (.one (Uy y16)))], Ja a1 a2 a3 a4 a0, [], 10, 9, []⟩ : St)) (fun (y17 : Int) => (⟨[], Jj a1 a2 a3 a4 a0, [], 15, 9, []⟩ : St)))) q_).nx⟩) hc18 h0 (fun y16 hc18 h0 => ?_) (fun y17 hc18 h0 => ?_)
 replace hc18 : CallM Try.prog 98 [.one (Uv a0.kids), .one (.fn 99 [(9, 0)])] ⟨Ja a1 a2 a3 a4 a0, [], 10⟩ (QD [.one (Uy y16)]) ⟨Ja a1 a2 a3 a4 a0, [], 10⟩ := hc18
 refine Q9 rfl rfl (Um rfl) (JM rfl rfl rfl hc18 rfl (hA rfl) Un) <| Ue rfl rfl rfl (Jb rfl) <| Ug rfl rfl rfl <| Q4 <| Q3 <| QA ?_
 have e := Uc h0; subst e
 exact hQ0 _ _ WS rfl (show StLe _ _ ⟨[(4, .v (.one (Uy (!y16))))], JB a1 a2 a3 a4, [], 10, 19, []⟩ from (Qu (Ua rfl) (hA rfl) Un rfl (Nat.le_trans hv0 (Um rfl)) rfl rfl rfl (UF rfl rfl (UF rfl rfl (UF rfl rfl (UF rfl rfl (UE rfl (UF rfl rfl (UE rfl (UG rfl)))))))) rfl rfl))
 replace hc18 : Xc Try.prog 98 [.one (Uv a0.kids), .one (.fn 99 [(9, 0)])] ⟨Ja a1 a2 a3 a4 a0, [], 10⟩ (QJ 90 y17) ⟨Jj a1 a2 a3 a4 a0, [], 15⟩ := hc18
 refine Jd rfl (OpD.callW rfl rfl rfl hc18 rfl (hA rfl) Un) ?_
 have e := Uc h0; subst e
 exact Jn (hQ0 (.panic (Jz (QJ 90 y17))) _ ZP rfl (show StLe _ _ ⟨[], Ye a1 a2 a3 a4, [], 12, 19, []⟩ from (Qu U9 (hA rfl) Un rfl (Nat.le_trans hv0 (Um rfl)) rfl rfl rfl (UF rfl rfl (UF rfl rfl (UF rfl rfl (UF rfl rfl (UE rfl (UF rfl rfl (UE rfl (UG rfl)))))))) rfl rfl))) (fun _ _ h => h)
theorem m83f9_all (n : Nat) (u : Tm × (List Dcl) × (Qa UN Ent) × (Qa UN Ent) × Tm) (r : Bool ⊕ Int) (h0 : Yt m83f9F n u = some r) : CallE Try.prog 83 [.agg (UA u.1), .one (.yld 0)] ⟨JB u.2.1 u.2.2.1 u.2.2.2.1 u.2.2.2.2, [], 8⟩ ((Sum.elim (fun (r0 : Bool) => ((.ret [.one (Uy r0)]) : EK)) (fun (r1 : Int) => ((.pan (QJ 90 r1)) : EK))) r) ⟨((Sum.elim (fun (r0 : Bool) => (⟨[(4, .v (.one (Uy r0)))], JB u.2.1 u.2.2.1 u.2.2.2.1 u.2.2.2.2, [], 10, 19, []⟩ : St)) (fun (r1 : Int) => (⟨[], Ye u.2.1 u.2.2.1 u.2.2.2.1 u.2.2.2.2, [], 12, 19, []⟩ : St))) r).hp, ((Sum.elim (fun (r0 : Bool) => (⟨[(4, .v (.one (Uy r0)))], JB u.2.1 u.2.2.1 u.2.2.2.1 u.2.2.2.2, [], 10, 19, []⟩ : St)) (fun (r1 : Int) => (⟨[], Ye u.2.1 u.2.2.1 u.2.2.2.1 u.2.2.2.2, [], 12, 19, []⟩ : St))) r).tk, ((Sum.elim (fun (r0 : Bool) => (⟨[(4, .v (.one (Uy r0)))], JB u.2.1 u.2.2.1 u.2.2.2.1 u.2.2.2.2, [], 10, 19, []⟩ : St)) (fun (r1 : Int) => (⟨[], Ye u.2.1 u.2.2.1 u.2.2.2.1 u.2.2.2.2, [], 12, 19, []⟩ : St))) r).nx⟩ :=
 YB (C := fun u r => CallE Try.prog 83 [.agg (UA u.1), .one (.yld 0)] ⟨JB u.2.1 u.2.2.1 u.2.2.2.1 u.2.2.2.2, [], 8⟩ ((Sum.elim (fun (r0 : Bool) => ((.ret [.one (Uy r0)]) : EK)) (fun (r1 : Int) => ((.pan (QJ 90 r1)) : EK))) r) ⟨((Sum.elim (fun (r0 : Bool) => (⟨[(4, .v (.one (Uy r0)))], JB u.2.1 u.2.2.1 u.2.2.2.1 u.2.2.2.2, [], 10, 19, []⟩ : St)) (fun (r1 : Int) => (⟨[], Ye u.2.1 u.2.2.1 u.2.2.2.1 u.2.2.2.2, [], 12, 19, []⟩ : St))) r).hp, ((Sum.elim (fun (r0 : Bool) => (⟨[(4, .v (.one (Uy r0)))], JB u.2.1 u.2.2.1 u.2.2.2.1 u.2.2.2.2, [], 10, 19, []⟩ : St)) (fun (r1 : Int) => (⟨[], Ye u.2.1 u.2.2.1 u.2.2.2.1 u.2.2.2.2, [], 12, 19, []⟩ : St))) r).tk, ((Sum.elim (fun (r0 : Bool) => (⟨[(4, .v (.one (Uy r0)))], JB u.2.1 u.2.2.1 u.2.2.2.1 u.2.2.2.2, [], 10, 19, []⟩ : St)) (fun (r1 : Int) => (⟨[], Ye u.2.1 u.2.2.1 u.2.2.2.1 u.2.2.2.2, [], 12, 19, []⟩ : St))) r).nx⟩) (fun rc H u r h => m83f9s_ok rc (fun a0 a1 a2 a3 a4 r h => H (a0, a1, a2, a3, a4) r h) u.1 u.2.1 u.2.2.1 u.2.2.2.1 u.2.2.2.2 r h) n u r h0
theorem m83f9_ok (a0 : Tm) (a1 : List Dcl) (a2 : Qa UN Ent) (a3 : Qa UN Ent) (a4 : Tm) (r : Bool ⊕ Int) (h0 : m83f9 a0 a1 a2 a3 a4 = some r) : CallE Try.prog 83 [.agg (UA a0), .one (.yld 0)] ⟨JB a1 a2 a3 a4, [], 8⟩ ((Sum.elim (fun (r0 : Bool) => ((.ret [.one (Uy r0)]) : EK)) (fun (r1 : Int) => ((.pan (QJ 90 r1)) : EK))) r) ⟨((Sum.elim (fun (r0 : Bool) => (⟨[(4, .v (.one (Uy r0)))], JB a1 a2 a3 a4, [], 10, 19, []⟩ : St)) (fun (r1 : Int) => (⟨[], Ye a1 a2 a3 a4, [], 12, 19, []⟩ : St))) r).hp, ((Sum.elim (fun (r0 : Bool) => (⟨[(4, .v (.one (Uy r0)))], JB a1 a2 a3 a4, [], 10, 19, []⟩ : St)) (fun (r1 : Int) => (⟨[], Ye a1 a2 a3 a4, [], 12, 19, []⟩ : St))) r).tk, ((Sum.elim (fun (r0 : Bool) => (⟨[(4, .v (.one (Uy r0)))], JB a1 a2 a3 a4, [], 10, 19, []⟩ : St)) (fun (r1 : Int) => (⟨[], Ye a1 a2 a3 a4, [], 12, 19, []⟩ : St))) r).nx⟩ := m83f9_all J2 (a0, a1, a2, a3, a4) r h0
end Go.Proofs.Ytafddfoefeploaa
