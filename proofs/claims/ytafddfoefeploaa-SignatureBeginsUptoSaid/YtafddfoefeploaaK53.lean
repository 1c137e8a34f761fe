/- Part 3 of the proof: rules, mirrors and plain laws. The statement SignatureBeginsUpto is proved here: for every list of declarations the law returns true, and what it is given reads behind the call ars it did before; condition: the arguments are of bulk at most 1048576 (the second form). -/
import Derived.Test.YtafddfoefeploaaK52
import Derived.ProofKit
import Derived.Shelf.Abstract
set_option maxRecDepth 100000
set_option maxHeartbeats 2000000
set_option linter.unusedSimpArgs false
set_option linter.unusedVariables false
set_option linter.unusedSectionVars false
namespace Go.Proofs.Ytafddfoefeploaa
open Go.RowKit Go.Shelf
theorem Ku:QS Try.prog 124 0=some 0:=by kernel_rfl
theorem fo_124_1:QS Try.prog 124 1=some 1:=by kernel_rfl
theorem z_124:Jz Try.prog 124=some [.int .i64 0,.int .i64 0]:=by kernel_rfl
theorem en_103:J3 Try.prog 103:=enters_of Try.func103 (by kernel_rfl) rfl
theorem en_108:J3 Try.prog 108:=enters_of Try.func108 (by kernel_rfl) rfl
theorem en_111:J3 Try.prog 111:=enters_of Try.func111 (by kernel_rfl) rfl
theorem en_112:J3 Try.prog 112:=enters_of Try.func112 (by kernel_rfl) rfl
theorem en_113:J3 Try.prog 113:=enters_of Try.func113 (by kernel_rfl) rfl
def m112f2 (a0:Dv) (a1:Lvl):Option Unit :=
 some ()
theorem m112f2_ok (a0:Dv) (a1:Lvl) (r:Unit) (h0:m112f2 a0 a1=some r):CallM Try.prog 112 [.agg (Dk a0),.one (.ptr 0 0)] ⟨[(0,.cells 87 (Dk a1))],[],1⟩ (QN [.one (Di (decide (a1.c≤a0.2)))]) ⟨[(0,.cells 87 (Dk a1))],[],2⟩:=by
 unfold m112f2 at h0
 refine Jb ⟨[(3,.v (.one (Di (decide (a1.c≤a0.2)))))],[(0,.cells 87 (Dk a1))],[],2,9,[]⟩ Z Z en_112 (D6 Z) Z (Qz Z .nil) (fun w0 M V0 Q hv0 hQ0=>?_)
 simp only [Ja]
 refine Q6<|Q0<|Q9 Z Z (D6 Z) (QU Z)<|UW Z Z Z<|Q3<|Q4<|Q6<|Q0<|UU Z Z Z (Q2 fo_124_1 Z)<|UU Z Z Z (Q5 QO Z Z Z)<|UU Z Z Z (Q2 KI Z)<|UU Z Z Z (Q5 QO Z Z Z)<|UU Z Z Z (Q7 Z Z Z)<|UW Z Z Z ?_
 refine Q3<|Q4<|QB ?_
 have e:=US h0;subst e
 exact hQ0 _ _ _ (.inr Z) Z (UR (Nat.le_trans hv0 (D6 Z)) Z Z Z Z Z)
def Zb (a0:List Dv) (a1:Lvl) (s1:Int):Option (LO Int (Unit⊕Int)) :=
 cond (decide (s1 < (a0.length:Int)))
   (Option.bind (JC a0 s1) fun (x3:Dv) =>
 Option.bind (m112f2 x3 a1) fun (x4:Unit) =>
 cond (decide (a1.c≤x3.2))
   (some (.done (.inr s1)))
   (some (.next (J9 (s1+1)))))
   (some (.done (.inl ())))
def m113f1 (a0:List Dv) (a1:Lvl):Option Int :=
 Option.bind (Qr (Zb a0 a1) QI 0) (Sum.elim (fun (o1:Unit)=>some (-1)) (fun o=>some o))
theorem m113f1_ok (a0:List Dv) (a1:Lvl) (r:Int) (h0:m113f1 a0 a1=some r):CallM Try.prog 113 [.one (Df a0),.one (.fn 112 [(0,0)])] ⟨[(0,.cells 87 (Dk a1))],[],1⟩ (QN [.one (Dh r)]) ⟨[(0,.cells 87 (Dk a1))],[],1⟩:=by
 unfold m113f1 at h0
 refine Jb ⟨[(4,.v (.one (Dh r)))],[(0,.cells 87 (Dk a1))],[],1,19,[]⟩ Z Z en_113 (D6 Z) Z (Qz Z .nil) (fun w0 M V0 Q hv0 hQ0=>?_)
 simp only [Ja]
 refine Q6<|Q0<|UW Z Z Z<|Q3<|Q4<|Q6<|Q6<|Q0<|UV Z Z Z<|UU Z Z Z (QA (α:=Dv) Zi Z (.d _))<|UV Z Z Z<|Q3<|Q4<|Qh ?_
 refine J2 0 (fun (o1:Unit)=>⟨[],[(0,.cells 87 (Dk a1))],[],1,19,[]⟩) (fun (o1:Unit)=>(some (-1))=some r) ?_ ?_
 refine Qd h0 (fun o2 hl1 h0=>?_)
 refine J1 (Zb a0 a1) (fun s1=>⟨[(0,.v (.one (Df a0))),(1,.v (.one (.fn 112 [(0,0)]))),(7,.v (.one (Dh (a0.length:Int)))),(8,.v (.one (Dh s1)))],[(0,.cells 87 (Dk a1))],[],1,19,[]⟩) 0 o2 (UR (Nat.le_trans hv0 (D6 Z)) Z Z Z Z Z) hl1 (fun s1 n1 oo1 h1 ho1=>?_)
 unfold Zb at h1
 refine Q6<|Q0<|UU Z Z Z (Q7 Z Z Z)<|Q3<|Q4<|Q6 ?_
 refine Qg (b:=(decide (s1 < (a0.length:Int)))) Z (fun c3=>?_) (fun c3=>?_)
 replace h1:=Qj c3 h1
 refine Qn<|Q4<|Q6<|Qh<|Q6<|Q0<|UV Z Z Z<|UW Z Z Z<|Q3<|Q4<|Q6<|Q0<|UV Z Z Z<|UV Z Z Z ?_
 refine UV Z Z Z ?_
 refine Qd h1 (fun x4 hx4 h1=>?_)
 refine UU Z Z Z (QC (α:=Dv) Zi Z (.d _) Z hx4)<|UU Z Z Z (Qw (x4:Dv) Kx Z) ?_
 refine Qd h1 (fun x5 hx5 h1=>?_)
 refine Q9 Z Z (D6 Z) (Jo (hp1':=[(0,.cells 87 (Dk a1))]) (tk1':=[]) (hpF:=[]) (tkF:=[]) (res2:=QN [.one (Di (decide (a1.c≤x4.2)))]) (nx2:=2) [0] Z Z (m112f2_ok x4 a1 x5 hx5) Z Z (UZ Z Z UX) Z Z (Dd Z Db) D9 hZ D7 Z Z Z Z Z (Dq Z) Z Z Z Z)<|Q3<|Q4 ?_
 refine Qg (b:=(decide (a1.c≤x4.2))) Z (fun c6=>?_) (fun c6=>?_)
 replace h1:=Qj c6 h1
 refine Q6<|Q0<|UV Z Z Z<|UW Z Z Z<|Q3<|Q4<|QB ?_
 have e:=US h1;subst e
 have e_:_=_:=ho1
 subst e_
 try dsimp only [Sum.elim_inl,Sum.elim_inr] at h0
 have e:=US h0;subst e
 exact hQ0 _ _ _ (.inr Z) Z (UR (Nat.le_trans hv0 (D6 Z)) Z Z Z Z Z)
 replace h1:=Qk c6 h1
 refine Qn<|Qf<|Q4<|Q0<|UU Z Z Z (Q7 Z Z Z)<|UV Z Z Z<|Q3 ?_
 have e:=US h1;subst e
 refine QV (J9 (s1+1)) (UR (Nat.le_trans hv0 (D6 Z)) Z Z Z Z Z) ho1
 replace h1:=Qk c3 h1
 refine J8<|Qq<|Qq ?_
 have e:=US h1;subst e
 have e_:_=_:=ho1
 subst e_
 exact J0 () (UR (Nat.le_trans hv0 (D6 Z)) Z Z Z Z Z) h0
 intro o1 h0
 refine QQ<|Q4<|Q6<|Q0<|UW Z Z Z<|Q3<|Q4<|QB ?_
 have e:=US h0;subst e
 exact hQ0 _ _ _ (.inr Z) Z (UR (Nat.le_trans hv0 (D6 Z)) Z Z Z Z Z)
def Wo (a0:List Dv) (a1:Lvl):Option Bool :=
 Option.bind (m113f1 a0 a1) fun (x1:Int) =>
 some (decide (0≤x1))
theorem m111f0_ok (a0:List Dv) (a1:Lvl) (r:Bool) (h0:Wo a0 a1=some r):CallM Try.prog 111 [.one (Df a0),.one (.fn 112 [(0,0)])] ⟨[(0,.cells 87 (Dk a1))],[],1⟩ (QN [.one (Di r)]) ⟨[(0,.cells 87 (Dk a1))],[],1⟩:=by
 unfold Wo at h0
 refine Jb ⟨[(4,.v (.one (Di r)))],[(0,.cells 87 (Dk a1))],[],1,9,[]⟩ Z Z en_111 (D6 Z) Z (Qz Z .nil) (fun w0 M V0 Q hv0 hQ0=>?_)
 simp only [Ja]
 refine Q6<|Q0<|UW Z Z Z<|Q3<|Q4<|Q6<|Q0<|UV Z Z Z<|UV Z Z Z ?_
 refine Qd h0 (fun x1 hx1 h0=>?_)
 refine Q9 Z Z (D6 Z) (Jo (hp1':=[(0,.cells 87 (Dk a1))]) (tk1':=[]) (hpF:=[]) (tkF:=[]) (res2:=QN [.one (Dh x1)]) (nx2:=1) [0] Z Z (m113f1_ok a0 a1 x1 hx1) Z Z (UZ Z Z UX) Z Z (Dd Z Db) D9 hZ D7 Z Z Z Z Z (Dq Z) Z Z Z Z)<|UU Z Z Z (Q7 Z Z Z)<|UW Z Z Z<|Q3<|Q4<|QB ?_
 have e:=US h0;subst e
 exact hQ0 _ _ _ (.inr Z) Z (UR (Nat.le_trans hv0 (D6 Z)) Z Z Z Z Z)
def KE (a0:Lvl) (s1:Int):Option (LO Int (Unit⊕Bool)) :=
 cond (decide (s1 < (a0.vs.length:Int)))
   (Option.bind (JC a0.vs s1) fun (x5:Dv) =>
 Option.bind (cond (decide (x5.1 < (-65536)))
   (some true)
   (cond (decide (7 < x5.1))
   (some true)
   (cond (decide (x5.2 < 0))
   (some true)
   (cond (decide (100 < x5.2))
   (some true)
   (cond (decide (0 < s1))
   (Option.bind (JC a0.vs (J9 (s1 - 1))) fun (x12:Dv) =>
 some (decide (x5.1≤x12.1)))
   (some false)))))) (fun (v6:Bool)=>cond v6
   (some (.done (.inr false)))
   (some (.next (J9 (s1+1))))))
   (some (.done (.inl ())))
def WW (a0:Lvl):Option Bool :=
 Option.bind (cond (decide (a0.c < 0))
   (some true)
   (cond (decide (100 < a0.c))
   (some true)
   (cond (decide (0 < a0.c))
   (Option.bind (Option.bind (Wo a0.vs a0) fun (x7:Bool) =>
 some x7) (fun (y5:Bool)=>some y5))
   (some false)))) (fun (v1:Bool)=>cond v1
   (some false)
   (Option.bind (Qr (KE a0) QI 0) (Sum.elim (fun (o3:Unit)=>some true) (fun o=>some o))))
theorem m103_ok (a0:Lvl) (r:Bool) (h0:WW a0=some r):Fun Try.prog 103 [.agg (Dk a0)] (QN [.one (Di r)]):=by
 unfold WW at h0
 refine QT 9 65 Try.func103 Z en_103 Z (D6 Z) (fun S w=>?_)
 simp only [Ja]
 refine Q6<|Q0<|Q9 Z Z (D6 Z) (QU Z)<|UW Z Z Z<|Q3<|Q4<|Q6<|Q6 ?_
 refine QP (fun (v1:Bool)=>⟨[(1,.v (.one (.ptr 0 0))),(21,.v (.one (Di v1)))],[(0,.cells 87 (Dk a0))],[],1,65,[]⟩) (fun (v1:Bool)=>(cond v1
     (some false)
     (Option.bind (Qr (KE a0) QI 0) (Sum.elim (fun (o3:Unit)=>some true) (fun o=>some o))))=some r) ?_ ?_
 refine Qd h0 (fun w1_ h1 h0=>?_)
 refine Q0<|UU Z Z Z (Q2 KI Z)<|UU Z Z Z (Q5 QO Z Z Z)<|UU Z Z Z (Q7 Z Z Z)<|UV Z Z Z ?_
 refine QG (d:=8) (c:=(decide (a0.c < 0))) Z (fun c2=>?_) (fun c2=>?_)
 replace h1:=Qj c2 h1
 refine Q8 Z Z<|Q8 Z Z<|Q8 Z Z<|UU Z Z Z (Qe Z Z)<|UV Z Z Z<|Q8 Z Z<|Q8 Z Z<|Q8 Z Z<|Q8 Z Z<|Q8 Z Z<|Q8 Z Z<|Q8 Z Z<|UU Z Z Z (Qe Z Z)<|Q3 ?_
 have e:=US h1;subst e
 exact Qb true (UR (Nat.zero_le _) Z Z Z Z Z) h0
 replace h1:=Qk c2 h1
 refine UU Z Z Z (Q2 KI Z)<|UU Z Z Z (Q5 QO Z Z Z)<|UU Z Z Z (Q7 Z Z Z)<|UU Z Z Z (Qa Z Z)<|UV Z Z Z ?_
 refine QG (d:=13) (c:=(decide (100 < a0.c))) Z (fun c3=>?_) (fun c3=>?_)
 replace h1:=Qj c3 h1
 refine Q8 Z Z<|Q8 Z Z<|Q8 Z Z<|Q8 Z Z<|Q8 Z Z<|Q8 Z Z<|Q8 Z Z<|UU Z Z Z (Qe Z Z)<|Q3 ?_
 have e:=US h1;subst e
 exact Qb true (UR (Nat.zero_le _) Z Z Z Z Z) h0
 replace h1:=Qk c3 h1
 refine UU Z Z Z (Q2 KI Z)<|UU Z Z Z (Q5 QO Z Z Z)<|UU Z Z Z (Q7 Z Z Z)<|UV Z Z Z ?_
 refine QG (d:=17) (c:=(decide (0 < a0.c))) Z (fun c4=>?_) (fun c4=>?_)
 replace h1:=Qj c4 h1
 refine UU Z Z Z (QM (a0:Lvl) ZY Z Z) ?_
 refine Qd h1 (fun y5 h2 h1=>?_)
 have hc6:CallM Try.prog 108 [.agg (Dk a0)] ⟨[(0,.cells 87 (Dk a0))],[],1⟩ (QN [.one (Di y5)]) ⟨[(0,.cells 87 (Dk a0))],[],2⟩:=by
  refine Jb ⟨[(2,.v (.one (Di y5)))],[(0,.cells 87 (Dk a0))],[],2,7,[]⟩ Z Z en_108 (D6 Z) Z (Qz Z .nil) (fun w0 M V0 Q hv2 hQ2=>?_)
  simp only [Ja]
  refine Q6<|Q0<|Q9 Z Z (D6 Z) (QU Z)<|UW Z Z Z<|Q3<|Q4<|Q6<|Q0<|UU Z Z Z (Q2 Z4 Z)<|UU Z Z Z (Q5 Gz Z Z Z)<|UU Z Z Z (Zu Z) ?_
  refine Qd h2 (fun x7 hx7 h2=>?_)
  refine Q9 Z Z (D6 Z) (Jo (hp1':=[(1,.cells 87 (Dk a0))]) (tk1':=[]) (hpF:=[(0,.cells 87 (Dk a0))]) (tkF:=[]) (res2:=QN [.one (Di x7)]) (nx2:=2) [1] Z Z (m111f0_ok a0.vs a0 x7 hx7) Z Z (UZ Z Z UX) Z Z (Dd Z Db) D9 (hA Z) D7 Z Z Z Z Z (Dq Z) Z Z Z Z)<|UW Z Z Z<|Q3<|Q4<|QB ?_
  have e:=US h2;subst e
  exact hQ2 _ _ _ (.inr Z) Z (UR (Nat.le_trans hv2 (D6 Z)) Z Z Z Z Z)
 refine Q9 Z Z (D6 Z) (JJ Z Z Z hc6 Z (hA Z) D7)<|UU Z Z Z (Qe Z Z)<|UU Z Z Z (Qa Z Z)<|Q3 ?_
 have e:=US h1;subst e
 exact Qb y5 (UR (Nat.zero_le _) Z Z Z Z Z) h0
 replace h1:=Qk c4 h1
 refine Q8 Z Z<|Q8 Z Z<|UU Z Z Z (Qa Z Z)<|UU Z Z Z (Qa Z Z)<|Q3 ?_
 have e:=US h1;subst e
 exact Qb false (UR (Nat.zero_le _) Z Z Z Z Z) h0
 intro v1 h0
 refine Q4 ?_
 refine Qg (b:=v1) Z (fun c8=>?_) (fun c8=>?_)
 replace h0:=Qj c8 h0
 refine Q6<|Q0<|UW Z Z Z<|Q3<|Q4<|QB ?_
 have e:=US h0;subst e
 exact QJ (fun _ _ h=>h) Z (Qz Z .nil) (.cons (.one (.d _)) .nil)
 replace h0:=Qk c8 h0
 refine Qn<|Q4<|Q6<|Q6<|Q0<|UU Z Z Z (Q2 Z4 Z)<|UU Z Z Z (Q5 Gz Z Z Z)<|UU Z Z Z (QA (α:=Dv) Zi Z (.d _))<|UV Z Z Z<|Q3<|Q4<|Qh ?_
 refine J2 0 (fun (o9:Unit)=>⟨[],[(0,.cells 87 (Dk a0))],[],1,65,[]⟩) (fun (o9:Unit)=>(some true)=some r) ?_ ?_
 refine Qd h0 (fun o10 hl1 h0=>?_)
 refine J1 (KE a0) (fun s1=>⟨[(1,.v (.one (.ptr 0 0))),(23,.v (.one (Df a0.vs))),(24,.v (.one (Dh (a0.vs.length:Int)))),(25,.v (.one (Dh s1)))],[(0,.cells 87 (Dk a0))],[],1,65,[]⟩) 0 o10 (UR (Nat.zero_le _) Z Z Z Z Z) hl1 (fun s1 n1 oo1 h1 ho1=>?_)
 unfold KE at h1
 refine Q6<|Q0<|UU Z Z Z (Q7 Z Z Z)<|Q3<|Q4<|Q6 ?_
 refine Qg (b:=(decide (s1 < (a0.vs.length:Int)))) Z (fun c11=>?_) (fun c11=>?_)
 replace h1:=Qj c11 h1
 refine Qn<|Q4<|Q6<|Qh<|Q6<|Q0<|UV Z Z Z ?_
 refine Qd h1 (fun x12 hx12 h1=>?_)
 refine UU Z Z Z (QC (α:=Dv) Zi Z (.d _) Z hx12)<|UU Z Z Z (Qw (x12:Dv) Kx Z)<|Q9 Z Z (D6 Z) (Qm z_124 Z)<|UW Z Z Z<|Qy Z Z (QD (x12:Dv) Kx Z Z Z Z Z)<|Q3<|Q4<|Q6 ?_
 refine QP (fun (v13:Bool)=>⟨[(1,.v (.one (.ptr 0 0))),(23,.v (.one (Df a0.vs))),(24,.v (.one (Dh (a0.vs.length:Int)))),(25,.v (.one (Dh s1))),(63,.v (.one (Di v13)))],[(0,.cells 87 (Dk a0)),(1,.cells 124 (Dk x12))],[],2,65,[]⟩) (fun (v13:Bool)=>(cond v13
     (some (.done (.inr false)))
     (some (.next (J9 (s1+1)))))=some oo1) ?_ ?_
 refine Qd h1 (fun w2_ h2 h1=>?_)
 refine Jt [] [] YP (by kernel_rfl) (by kernel_rfl) (by kernel_rfl) ?_
 refine RunA.rd Z Z Z (Q1 (Q2 Ku Z)) Z<|RunA.rd Z Z Z (Q1 (Q5 QO Z Z Z)) Z<|RunA.rd Z Z Z (Q1 (Q7 Z Z Z)) Z ?_
 refine JL (c:=(decide (x12.1 < (-65536)))) Z Z Z (Q1 (Qo Z)) Z (fun c14=>?_) (fun c14=>?_)
 replace h2:=Qj c14 h2
 refine RunA.no Z Z Z Z<|RunA.no Z Z Z Z<|RunA.no Z Z Z Z<|RunA.rd Z Z Z (Q1 (Qe Z Z)) Z<|RunA.rd Z Z Z (Q1 (Qo Z)) Z<|RunA.no Z Z Z Z<|RunA.no Z Z Z Z<|RunA.no Z Z Z Z<|RunA.rd Z Z Z (Q1 (Qe Z Z)) Z<|RunA.rd Z Z Z (Q1 (Qo Z)) Z<|RunA.no Z Z Z Z<|RunA.no Z Z Z Z<|RunA.no Z Z Z Z<|RunA.rd Z Z Z (Q1 (Qe Z Z)) Z ?_
 refine RunA.rd Z Z Z (Q1 (Qo Z)) Z<|RunA.no Z Z Z Z<|RunA.no Z Z Z Z<|RunA.no Z Z Z Z<|RunA.no Z Z Z Z<|RunA.no Z Z Z Z<|RunA.no Z Z Z Z<|RunA.no Z Z Z Z<|RunA.no Z Z Z Z<|RunA.no Z Z Z Z<|RunA.no Z Z Z Z<|RunA.no Z Z Z Z<|RunA.no Z Z Z Z<|RunA.no Z Z Z Z ?_
 refine RunA.no Z Z Z Z<|RunA.rd Z Z Z (Q1 (Qe Z Z)) Z ?_
 refine RunA.nil ⟨?ex,_,_,Z,?_⟩
 case ex=>exact trivial
 have e:=US h2;subst e
 exact Qb true (UR (Nat.zero_le _) Z Z Z Z Z) h1
 replace h2:=Qk c14 h2
 refine RunA.rd Z Z Z (Q1 (Q2 Ku Z)) Z<|RunA.rd Z Z Z (Q1 (Q5 QO Z Z Z)) Z<|RunA.rd Z Z Z (Q1 (Q7 Z Z Z)) Z<|RunA.rd Z Z Z (Q1 (Qa Z Z)) Z ?_
 refine JL (c:=(decide (7 < x12.1))) Z Z Z (Q1 (Qo Z)) Z (fun c15=>?_) (fun c15=>?_)
 replace h2:=Qj c15 h2
 refine RunA.no Z Z Z Z<|RunA.no Z Z Z Z<|RunA.no Z Z Z Z<|RunA.rd Z Z Z (Q1 (Qe Z Z)) Z<|RunA.rd Z Z Z (Q1 (Qo Z)) Z<|RunA.no Z Z Z Z<|RunA.no Z Z Z Z<|RunA.no Z Z Z Z<|RunA.rd Z Z Z (Q1 (Qe Z Z)) Z<|RunA.rd Z Z Z (Q1 (Qo Z)) Z<|RunA.no Z Z Z Z<|RunA.no Z Z Z Z<|RunA.no Z Z Z Z<|RunA.no Z Z Z Z ?_
 refine RunA.no Z Z Z Z<|RunA.no Z Z Z Z<|RunA.no Z Z Z Z<|RunA.no Z Z Z Z<|RunA.no Z Z Z Z<|RunA.no Z Z Z Z<|RunA.no Z Z Z Z<|RunA.no Z Z Z Z<|RunA.no Z Z Z Z<|RunA.no Z Z Z Z<|RunA.rd Z Z Z (Q1 (Qe Z Z)) Z ?_
 refine RunA.nil ⟨?ex,_,_,Z,?_⟩
 case ex=>exact trivial
 have e:=US h2;subst e
 exact Qb true (UR (Nat.zero_le _) Z Z Z Z Z) h1
 replace h2:=Qk c15 h2
 refine RunA.rd Z Z Z (Q1 (Q2 fo_124_1 Z)) Z<|RunA.rd Z Z Z (Q1 (Q5 QO Z Z Z)) Z<|RunA.rd Z Z Z (Q1 (Q7 Z Z Z)) Z<|RunA.rd Z Z Z (Q1 (Qa Z Z)) Z ?_
 refine JL (c:=(decide (x12.2 < 0))) Z Z Z (Q1 (Qo Z)) Z (fun c16=>?_) (fun c16=>?_)
 replace h2:=Qj c16 h2
 refine RunA.no Z Z Z Z<|RunA.no Z Z Z Z<|RunA.no Z Z Z Z<|RunA.rd Z Z Z (Q1 (Qe Z Z)) Z<|RunA.rd Z Z Z (Q1 (Qo Z)) Z<|RunA.no Z Z Z Z<|RunA.no Z Z Z Z<|RunA.no Z Z Z Z<|RunA.no Z Z Z Z<|RunA.no Z Z Z Z<|RunA.no Z Z Z Z<|RunA.no Z Z Z Z<|RunA.no Z Z Z Z<|RunA.no Z Z Z Z ?_
 refine RunA.no Z Z Z Z<|RunA.no Z Z Z Z<|RunA.no Z Z Z Z<|RunA.no Z Z Z Z<|RunA.no Z Z Z Z<|RunA.rd Z Z Z (Q1 (Qe Z Z)) Z ?_
 refine RunA.nil ⟨?ex,_,_,Z,?_⟩
 case ex=>exact trivial
 have e:=US h2;subst e
 exact Qb true (UR (Nat.zero_le _) Z Z Z Z Z) h1
 replace h2:=Qk c16 h2
 refine RunA.rd Z Z Z (Q1 (Q2 fo_124_1 Z)) Z<|RunA.rd Z Z Z (Q1 (Q5 QO Z Z Z)) Z<|RunA.rd Z Z Z (Q1 (Q7 Z Z Z)) Z<|RunA.rd Z Z Z (Q1 (Qa Z Z)) Z ?_
 refine JL (c:=(decide (100 < x12.2))) Z Z Z (Q1 (Qo Z)) Z (fun c17=>?_) (fun c17=>?_)
 replace h2:=Qj c17 h2
 refine RunA.no Z Z Z Z<|RunA.no Z Z Z Z<|RunA.no Z Z Z Z<|RunA.no Z Z Z Z<|RunA.no Z Z Z Z<|RunA.no Z Z Z Z<|RunA.no Z Z Z Z<|RunA.no Z Z Z Z<|RunA.no Z Z Z Z<|RunA.no Z Z Z Z<|RunA.no Z Z Z Z<|RunA.no Z Z Z Z<|RunA.no Z Z Z Z<|RunA.no Z Z Z Z ?_
 refine RunA.rd Z Z Z (Q1 (Qe Z Z)) Z ?_
 refine RunA.nil ⟨?ex,_,_,Z,?_⟩
 case ex=>exact trivial
 have e:=US h2;subst e
 exact Qb true (UR (Nat.zero_le _) Z Z Z Z Z) h1
 replace h2:=Qk c17 h2
 refine RunA.rd Z Z Z (Q1 (Qo Z)) Z<|RunA.rd Z Z Z (Q1 (Q7 Z Z Z)) Z ?_
 refine JL (c:=(decide (0 < s1))) Z Z Z (Q1 (Qo Z)) Z (fun c18=>?_) (fun c18=>?_)
 replace h2:=Qj c18 h2
 refine RunA.rd Z Z Z (Q1 (Q2 Z4 Z)) Z<|RunA.rd Z Z Z (Q1 (Q5 Gz Z Z Z)) Z<|RunA.rd Z Z Z (Q1 (Qo Z)) Z<|RunA.rd Z Z Z (Q1 (Q7 Z Z Z)) Z ?_
 refine Qd h2 (fun x19 hx19 h2=>?_)
 refine RunA.rd Z Z Z (Q1 (QC (α:=Dv) Zi Z (.d _) Z hx19)) Z<|RunA.rd Z Z Z (Q1 (Yr Ku Z)) Z<|RunA.rd Z Z Z (Q1 (Yi QO Z Z)) Z<|RunA.rd Z Z Z (Q1 (Q2 Ku Z)) Z<|RunA.rd Z Z Z (Q1 (Q5 QO Z Z Z)) Z<|RunA.rd Z Z Z (Q1 (Q7 Z Z Z)) Z<|RunA.rd Z Z Z (Q1 (Qe Z Z)) Z<|RunA.rd Z Z Z (Q1 (Qa Z Z)) Z ?_
 refine RunA.nil ⟨?ex,_,_,Z,?_⟩
 case ex=>exact trivial
 have e:=US h2;subst e
 exact Qb (decide (x12.1≤x19.1)) (UR (Nat.zero_le _) Z Z Z Z Z) h1
 replace h2:=Qk c18 h2
 refine RunA.no Z Z Z Z<|RunA.no Z Z Z Z<|RunA.no Z Z Z Z<|RunA.no Z Z Z Z<|RunA.no Z Z Z Z<|RunA.no Z Z Z Z<|RunA.no Z Z Z Z<|RunA.no Z Z Z Z<|RunA.no Z Z Z Z<|RunA.no Z Z Z Z<|RunA.rd Z Z Z (Q1 (Qa Z Z)) Z<|RunA.rd Z Z Z (Q1 (Qa Z Z)) Z ?_
 refine RunA.nil ⟨?ex,_,_,Z,?_⟩
 case ex=>exact trivial
 have e:=US h2;subst e
 exact Qb false (UR (Nat.zero_le _) Z Z Z Z Z) h1
 intro v13 h1
 refine Q4 ?_
 refine Qg (b:=v13) Z (fun c20=>?_) (fun c20=>?_)
 replace h1:=Qj c20 h1
 refine Q6<|Q0<|UW Z Z Z<|Q3<|Q4<|QB ?_
 have e:=US h1;subst e
 have e_:_=_:=ho1
 subst e_
 try dsimp only [Sum.elim_inl,Sum.elim_inr] at h0
 have e:=US h0;subst e
 exact QJ (fun _ _ h=>h) Z (Qz Z .nil) (.cons (.one (.d _)) .nil)
 replace h1:=Qk c20 h1
 refine Qn<|Qf<|Q4<|Q0<|UU Z Z Z (Q7 Z Z Z)<|UV Z Z Z<|Q3 ?_
 have e:=US h1;subst e
 refine QV (J9 (s1+1)) (UR (Nat.zero_le _) Z Z Z Z Z) ho1
 replace h1:=Qk c11 h1
 refine J8<|Qq<|Qq ?_
 have e:=US h1;subst e
 have e_:_=_:=ho1
 subst e_
 exact J0 () (UR (Nat.zero_le _) Z Z Z Z Z) h0
 intro o9 h0
 refine QQ<|Q4<|Q6<|Q0<|UW Z Z Z<|Q3<|Q4<|QB ?_
 have e:=US h0;subst e
 exact QJ (fun _ _ h=>h) Z (Qz Z .nil) (.cons (.one (.d _)) .nil)
end Go.Proofs.Ytafddfoefeploaa
namespace Go.Proofs.Ytafddfoefeploaa
open Go.RowKit Go.Shelf
theorem en_65:J3 Try.prog 65:=enters_of Try.func65 (by kernel_rfl) rfl
theorem en_79:J3 Try.prog 79:=enters_of Try.func79 (by kernel_rfl) rfl
theorem en_81:J3 Try.prog 81:=enters_of Try.func81 (by kernel_rfl) rfl
def UG (a0:Byt):Option Bool :=
 Option.bind (cond (decide (97≤a0.n))
   (cond (decide (a0.n≤122))
   (some true)
   (cond (decide (65≤a0.n))
   (cond (decide (a0.n≤90))
   (some true)
   (some (a0.n==95)))
   (some (a0.n==95))))
   (cond (decide (65≤a0.n))
   (cond (decide (a0.n≤90))
   (some true)
   (some (a0.n==95)))
   (some (a0.n==95)))) (fun (v1:Bool)=>some v1)
theorem m79_ok (a0:Byt) (r:Bool) (h0:UG a0=some r):Fun Try.prog 79 [.one (.d (.v (.int .u8 a0.n)))] (QN [.one (Di r)]):=by
 unfold UG at h0
 refine QT 9 21 Try.func79 Z en_79 Z (D6 Z) (fun S w=>?_)
 simp only [Ja]
 refine Q6<|Q0<|UW Z Z Z<|Q3<|Q4<|Q6 ?_
 refine QP (fun (v1:Bool)=>⟨[(2,.v (.one (Di v1)))],[],[],0,21,[]⟩) (fun (v1:Bool)=>(some v1)=some r) ?_ ?_
 refine Qd h0 (fun w1_ h1 h0=>?_)
 refine Q0<|UV Z Z Z<|UU Z Z Z (Q7 Z Z Z)<|UV Z Z Z ?_
 refine QG (d:=5) (c:=(decide (97≤a0.n))) Z (fun c2=>?_) (fun c2=>?_)
 replace h1:=Qj c2 h1
 refine UV Z Z Z<|UU Z Z Z (Q7 Z Z Z)<|UU Z Z Z (Qe Z Z)<|UV Z Z Z ?_
 refine QG (d:=9) (c:=(decide (a0.n≤122))) Z (fun c3=>?_) (fun c3=>?_)
 replace h1:=Qj c3 h1
 refine Q8 Z Z<|Q8 Z Z<|Q8 Z Z<|Q8 Z Z<|Q8 Z Z<|Q8 Z Z<|UU Z Z Z (Qe Z Z)<|UV Z Z Z<|Q8 Z Z<|Q8 Z Z<|UU Z Z Z (Qe Z Z)<|UW Z Z Z<|Q3 ?_
 have e:=US h1;subst e
 exact Qb true (UR (Nat.zero_le _) Z Z Z Z Z) h0
 replace h1:=Qk c3 h1
 refine UV Z Z Z<|UU Z Z Z (Q7 Z Z Z)<|UV Z Z Z ?_
 refine QG (d:=12) (c:=(decide (65≤a0.n))) Z (fun c4=>?_) (fun c4=>?_)
 replace h1:=Qj c4 h1
 refine UV Z Z Z<|UU Z Z Z (Q7 Z Z Z)<|UU Z Z Z (Qe Z Z)<|UU Z Z Z (Qa Z Z)<|UV Z Z Z ?_
 refine QG (d:=17) (c:=(decide (a0.n≤90))) Z (fun c5=>?_) (fun c5=>?_)
 replace h1:=Qj c5 h1
 refine Q8 Z Z<|Q8 Z Z<|UU Z Z Z (Qe Z Z)<|UW Z Z Z<|Q3 ?_
 have e:=US h1;subst e
 exact Qb true (UR (Nat.zero_le _) Z Z Z Z Z) h0
 replace h1:=Qk c5 h1
 refine UV Z Z Z<|UU Z Z Z (Q7 Z Z Z)<|UU Z Z Z (Qa Z Z)<|UW Z Z Z<|Q3 ?_
 have e:=US h1;subst e
 exact Qb (a0.n==95) (UR (Nat.zero_le _) Z Z Z Z Z) h0
 replace h1:=Qk c4 h1
 refine Q8 Z Z<|Q8 Z Z<|UU Z Z Z (Qa Z Z)<|UU Z Z Z (Qa Z Z)<|UV Z Z Z<|UV Z Z Z<|UU Z Z Z (Q7 Z Z Z)<|UU Z Z Z (Qa Z Z)<|UW Z Z Z<|Q3 ?_
 have e:=US h1;subst e
 exact Qb (a0.n==95) (UR (Nat.zero_le _) Z Z Z Z Z) h0
 replace h1:=Qk c2 h1
 refine Q8 Z Z<|Q8 Z Z<|UU Z Z Z (Qa Z Z)<|UV Z Z Z<|UV Z Z Z<|UU Z Z Z (Q7 Z Z Z)<|UV Z Z Z ?_
 refine QG (d:=12) (c:=(decide (65≤a0.n))) Z (fun c6=>?_) (fun c6=>?_)
 replace h1:=Qj c6 h1
 refine UV Z Z Z<|UU Z Z Z (Q7 Z Z Z)<|UU Z Z Z (Qe Z Z)<|UU Z Z Z (Qa Z Z)<|UV Z Z Z ?_
 refine QG (d:=17) (c:=(decide (a0.n≤90))) Z (fun c7=>?_) (fun c7=>?_)
 replace h1:=Qj c7 h1
 refine Q8 Z Z<|Q8 Z Z<|UU Z Z Z (Qe Z Z)<|UW Z Z Z<|Q3 ?_
 have e:=US h1;subst e
 exact Qb true (UR (Nat.zero_le _) Z Z Z Z Z) h0
 replace h1:=Qk c7 h1
 refine UV Z Z Z<|UU Z Z Z (Q7 Z Z Z)<|UU Z Z Z (Qa Z Z)<|UW Z Z Z<|Q3 ?_
 have e:=US h1;subst e
 exact Qb (a0.n==95) (UR (Nat.zero_le _) Z Z Z Z Z) h0
 replace h1:=Qk c6 h1
 refine Q8 Z Z<|Q8 Z Z<|UU Z Z Z (Qa Z Z)<|UU Z Z Z (Qa Z Z)<|UV Z Z Z<|UV Z Z Z<|UU Z Z Z (Q7 Z Z Z)<|UU Z Z Z (Qa Z Z)<|UW Z Z Z<|Q3 ?_
 have e:=US h1;subst e
 exact Qb (a0.n==95) (UR (Nat.zero_le _) Z Z Z Z Z) h0
 intro v1 h0
 refine Q4<|QB ?_
 have e:=US h0;subst e
 exact QJ (fun _ _ h=>h) Z (Qz Z .nil) (.cons (.one (.d _)) .nil)
def Xi (a0:Dx) (s1:Bool×Int):Option (LO (Bool×Int) (Bool⊕Bool)) :=
 cond (decide (s1.2 < (a0.length:Int)))
   (Option.bind (JC a0 s1.2) fun (x3:UInt8) =>
 Option.bind (UG (⟨(x3.toNat:Int)⟩:Byt)) fun (x4:Bool) =>
 cond x4
   (some (.next (false,(J9 (s1.2+1)))))
   (cond s1.1
   (some (.done (.inr false)))
   (cond ((x3.toNat:Int)==46)
   (some (.next (true,(J9 (s1.2+1)))))
   (Option.bind (cond (decide ((x3.toNat:Int) < 48))
   (some true)
   (some (decide (57 < (x3.toNat:Int))))) (fun (v8:Bool)=>cond v8
   (cond ((x3.toNat:Int) != 39)
   (some (.done (.inr false)))
   (some (.next (s1.1,(J9 (s1.2+1))))))
   (some (.next (s1.1,(J9 (s1.2+1))))))))))
   (some (.done (.inl s1.1)))
def Uq (a0:Dx):Option Bool :=
 Option.bind (Qr (Xi a0) QI (true,0)) (Sum.elim (fun (o1:Bool)=>Option.bind (cond (!o1)
   (some (decide ((a0.length:Int)≤64)))
   (some false)) (fun (v2:Bool)=>some v2)) (fun o=>some o))
theorem m65_ok (a0:Dx) (r:Bool) (h0:Uq a0=some r):Fun Try.prog 65 [.one (Jm a0)] (QN [.one (Di r)]):=by
 unfold Uq at h0
 refine QT 9 39 Try.func65 Z en_65 Z (D6 Z) (fun S w=>?_)
 simp only [Ja]
 refine Q6<|Q0<|UW Z Z Z<|Q3<|Q4<|Q6<|Q0<|UW Z Z Z<|Q3<|Q4<|Q6<|Q6<|Q0<|UV Z Z Z ?_
 refine UU Z Z Z (X3 WQ Z)<|UV Z Z Z<|Q3<|Q4<|Qh ?_
 refine J2 0 (fun (o1:Bool)=>⟨[(0,.v (.one (Jm a0))),(3,.v (.one (Di o1)))],[],[],0,39,[]⟩) (fun (o1:Bool)=>(Option.bind (cond (!o1)
     (some (decide ((a0.length:Int)≤64)))
     (some false)) (fun (v2:Bool)=>some v2))=some r) ?_ ?_
 refine Qd h0 (fun o2 hl1 h0=>?_)
 refine J1 (Xi a0) (fun s1=>⟨[(0,.v (.one (Jm a0))),(3,.v (.one (Di s1.1))),(7,.v (.one (Dh (a0.length:Int)))),(8,.v (.one (Dh s1.2)))],[],[],0,39,[]⟩) (true,0) o2 (UR (Nat.zero_le _) Z Z Z Z Z) hl1 (fun s1 n1 oo1 h1 ho1=>?_)
 unfold Xi at h1
 refine Q6<|Q0<|UU Z Z Z (Q7 Z Z Z)<|Q3<|Q4<|Q6 ?_
 refine Qg (b:=(decide (s1.2 < (a0.length:Int)))) Z (fun c3=>?_) (fun c3=>?_)
 replace h1:=Qj c3 h1
 refine Qn<|Q4<|Q6<|Qh<|Q6<|Q0<|UV Z Z Z<|UW Z Z Z<|Q3<|Q4<|Q6<|Q0<|UV Z Z Z<|UV Z Z Z ?_
 refine Qd h1 (fun x4 hx4 h1=>?_)
 refine UU Z Z Z (RO.ixS WQ Z Z hx4)<|UW Z Z Z<|Q3<|Q4<|Qh<|Q6<|Q0<|UV Z Z Z ?_
 refine Qd h1 (fun x5 hx5 h1=>?_)
 refine Q9 Z Z (D6 Z) (Qp (m79_ok (⟨(x4.toNat:Int)⟩:Byt) x5 hx5) Z (.cons (.one (.d _)) .nil))<|UW Z Z Z<|Q3<|Q4 ?_
 refine Qg (b:=x5) Z (fun c6=>?_) (fun c6=>?_)
 replace h1:=Qj c6 h1
 refine Q0<|UW Z Z Z<|Q3<|Qf<|Qf<|Q4<|Q0<|UU Z Z Z (Q7 Z Z Z)<|UV Z Z Z<|Q3 ?_
 have e:=US h1;subst e
 refine QV (false,(J9 (s1.2+1))) (UR (Nat.zero_le _) Z Z Z Z Z) ho1
 replace h1:=Qk c6 h1
 refine Q6<|Q0<|UV Z Z Z<|UW Z Z Z<|Q3<|Q4 ?_
 refine Qg (b:=s1.1) Z (fun c7=>?_) (fun c7=>?_)
 replace h1:=Qj c7 h1
 refine Q6<|Q0<|UW Z Z Z<|Q3<|Q4<|QB ?_
 have e:=US h1;subst e
 have e_:_=_:=ho1
 subst e_
 try dsimp only [Sum.elim_inl,Sum.elim_inr] at h0
 have e:=US h0;subst e
 exact QJ (fun _ _ h=>h) Z (Qz Z .nil) (.cons (.one (.d _)) .nil)
 replace h1:=Qk c7 h1
 refine Q6<|Q0<|UV Z Z Z<|UU Z Z Z (Q7 Z Z Z)<|UW Z Z Z<|Q3<|Q4 ?_
 refine Qg (b:=((x4.toNat:Int)==46)) Z (fun c8=>?_) (fun c8=>?_)
 replace h1:=Qj c8 h1
 refine Q0<|UW Z Z Z<|Q3<|Qf<|Qf<|Q4<|Q0<|UU Z Z Z (Q7 Z Z Z)<|UV Z Z Z<|Q3 ?_
 have e:=US h1;subst e
 refine QV (true,(J9 (s1.2+1))) (UR (Nat.zero_le _) Z Z Z Z Z) ho1
 replace h1:=Qk c8 h1
 refine Q6 ?_
 refine QP (fun (v9:Bool)=>⟨[(0,.v (.one (Jm a0))),(3,.v (.one (Di s1.1))),(5,.v (.one (.d (.v (.int .u8 (x4.toNat:Int)))))),(7,.v (.one (Dh (a0.length:Int)))),(8,.v (.one (Dh s1.2))),(22,.v (.one (Di v9)))],[],[],0,39,[]⟩) (fun (v9:Bool)=>(cond v9
     (cond ((x4.toNat:Int) != 39)
     (some (.done (.inr false)))
     (some (.next (s1.1,(J9 (s1.2+1))))))
     (some (.next (s1.1,(J9 (s1.2+1))))))=some oo1) ?_ ?_
 refine Qd h1 (fun w2_ h2 h1=>?_)
 refine Q0<|UV Z Z Z<|UU Z Z Z (Q7 Z Z Z)<|UV Z Z Z ?_
 refine QG (d:=25) (c:=(decide ((x4.toNat:Int) < 48))) Z (fun c10=>?_) (fun c10=>?_)
 replace h2:=Qj c10 h2
 refine Q8 Z Z<|Q8 Z Z<|UU Z Z Z (Qe Z Z)<|UW Z Z Z<|Q3 ?_
 have e:=US h2;subst e
 exact Qb true (UR (Nat.zero_le _) Z Z Z Z Z) h1
 replace h2:=Qk c10 h2
 refine UV Z Z Z<|UU Z Z Z (Q7 Z Z Z)<|UU Z Z Z (Qa Z Z)<|UW Z Z Z<|Q3 ?_
 have e:=US h2;subst e
 exact Qb (decide (57 < (x4.toNat:Int))) (UR (Nat.zero_le _) Z Z Z Z Z) h1
 intro v9 h1
 refine Q4 ?_
 refine Qg (b:=v9) Z (fun c11=>?_) (fun c11=>?_)
 replace h1:=Qj c11 h1
 refine Q6<|Q0<|UV Z Z Z<|UU Z Z Z (Q7 Z Z Z)<|Q3<|Q4 ?_
 refine Qg (b:=((x4.toNat:Int) != 39)) Z (fun c12=>?_) (fun c12=>?_)
 replace h1:=Qj c12 h1
 refine Q6<|Q0<|UW Z Z Z<|Q3<|Q4<|QB ?_
 have e:=US h1;subst e
 have e_:_=_:=ho1
 subst e_
 try dsimp only [Sum.elim_inl,Sum.elim_inr] at h0
 have e:=US h0;subst e
 exact QJ (fun _ _ h=>h) Z (Qz Z .nil) (.cons (.one (.d _)) .nil)
 replace h1:=Qk c12 h1
 refine Qn<|Qf<|Qf<|Q4<|Q0<|UU Z Z Z (Q7 Z Z Z)<|UV Z Z Z<|Q3 ?_
 have e:=US h1;subst e
 refine QV (s1.1,(J9 (s1.2+1))) (UR (Nat.zero_le _) Z Z Z Z Z) ho1
 replace h1:=Qk c11 h1
 refine Qn<|Qf<|Qf<|Q4<|Q0<|UU Z Z Z (Q7 Z Z Z)<|UV Z Z Z<|Q3 ?_
 have e:=US h1;subst e
 refine QV (s1.1,(J9 (s1.2+1))) (UR (Nat.zero_le _) Z Z Z Z Z) ho1
 replace h1:=Qk c3 h1
 refine J8<|Qq<|Qq ?_
 have e:=US h1;subst e
 have e_:_=_:=ho1
 subst e_
 exact J0 s1.1 (UR (Nat.zero_le _) Z Z Z Z Z) h0
 intro o1 h0
 refine QQ<|Q4<|Q6 ?_
 refine QP (fun (v13:Bool)=>⟨[(2,.v (.one (Di v13)))],[],[],0,39,[]⟩) (fun (v13:Bool)=>(some v13)=some r) ?_ ?_
 refine Qd h0 (fun w1_ h1 h0=>?_)
 refine Q0<|UV Z Z Z<|UU Z Z Z (Jj Z)<|UV Z Z Z ?_
 refine QG (d:=34) (c:=(!o1)) Z (fun c14=>?_) (fun c14=>?_)
 replace h1:=Qj c14 h1
 refine UV Z Z Z<|UU Z Z Z (X3 WQ Z)<|UU Z Z Z (Q7 Z Z Z)<|UU Z Z Z (Qe Z Z)<|UW Z Z Z<|Q3 ?_
 have e:=US h1;subst e
 exact Qb (decide ((a0.length:Int)≤64)) (UR (Nat.zero_le _) Z Z Z Z Z) h0
 replace h1:=Qk c14 h1
 refine Q8 Z Z<|Q8 Z Z<|Q8 Z Z<|UU Z Z Z (Qa Z Z)<|UW Z Z Z<|Q3 ?_
 have e:=US h1;subst e
 exact Qb false (UR (Nat.zero_le _) Z Z Z Z Z) h0
 intro v13 h0
 refine Q4<|QB ?_
 have e:=US h0;subst e
 exact QJ (fun _ _ h=>h) Z (Qz Z .nil) (.cons (.one (.d _)) .nil)
def m81_l0 (a0:Tm) (rc:Tm→Option Int) (s1:Int×Int):Option (LO (Int×Int) Int) :=
 cond (decide (s1.2 < (a0.kids.length:Int)))
   (Option.bind (JC a0.kids s1.2) fun (x3:Tm) =>
 Option.bind (rc x3) fun (x4:Int) =>
 some (.next ((max s1.1 x4),(J9 (s1.2+1)))))
   (some (.done s1.1))
def m81s (rc:Tm→Option Int) (a0:Tm):Option Int :=
 Option.bind (Qr (m81_l0 a0 rc) QI (0,0)) (fun (o1:Int)=>some (J9 (o1+1)))
def m81F (rc:Tm→Option Int) (u:Tm):Option Int:=m81s rc u
def m81 (a0:Tm):Option Int:=JA m81F QI a0
theorem m81s_ok (rc:Tm→Option Int) (H:∀ (a0:Tm) (r:Int),rc a0=some r→Fun Try.prog 81 [.agg (Dk a0)] (QN [.one (Dh r)])) (a0:Tm) (r:Int) (h0:m81s rc a0=some r):Fun Try.prog 81 [.agg (Dk a0)] (QN [.one (Dh r)]):=by
 unfold m81s at h0
 refine QT 9 20 Try.func81 Z en_81 Z (D6 Z) (fun S w=>?_)
 simp only [Ja]
 refine Q6<|Q0<|Q9 Z Z (D6 Z) (QU Z)<|UW Z Z Z<|Q3<|Q4<|Q6<|Q0<|UW Z Z Z<|Q3<|Q4<|Q6<|Q6<|Q0 ?_
 refine UU Z Z Z (Q2 JG Z)<|UU Z Z Z (Q5 Yb Z Z Z)<|UU Z Z Z (QA (α:=Tm) Jx Z (.d _))<|UV Z Z Z<|Q3<|Q4<|Qh ?_
 refine J2 0 (fun (o1:Int)=>⟨[(3,.v (.one (Dh o1)))],[(0,.cells 33 (Dk a0))],[],1,20,[]⟩) (fun (o1:Int)=>(some (J9 (o1+1)))=some r) ?_ ?_
 refine Qd h0 (fun o2 hl1 h0=>?_)
 refine J1 (m81_l0 a0 rc) (fun s1=>⟨[(3,.v (.one (Dh s1.1))),(7,.v (.one (Df a0.kids))),(8,.v (.one (Dh (a0.kids.length:Int)))),(9,.v (.one (Dh s1.2)))],[(0,.cells 33 (Dk a0))],[],1,20,[]⟩) (0,0) o2 (UR (Nat.zero_le _) Z Z Z Z Z) hl1 (fun s1 n1 oo1 h1 ho1=>?_)
 unfold m81_l0 at h1
 refine Q6<|Q0<|UU Z Z Z (Q7 Z Z Z)<|Q3<|Q4<|Q6 ?_
 refine Qg (b:=(decide (s1.2 < (a0.kids.length:Int)))) Z (fun c3=>?_) (fun c3=>?_)
 replace h1:=Qj c3 h1
 refine Qn<|Q4<|Q6<|Qh<|Q6<|Q0 ?_
 refine Qd h1 (fun x4 hx4 h1=>?_)
 refine UU Z Z Z (QC (α:=Tm) Jx Z (.d _) Z hx4)<|UU Z Z Z (Qw (x4:Tm) QW Z)<|Q9 Z Z (D6 Z) (Qm KV Z)<|Qy Z Z (QD (x4:Tm) QW Z Z Z Z Z)<|Q3<|Q4<|Q0<|UV Z Z Z<|UU Z Z Z (QM (x4:Tm) QW Z Z) ?_
 refine Qd h1 (fun x5 hx5 h1=>?_)
 refine Q9 Z Z (D6 Z) (Qp (H x4 x5 hx5) Z (.cons (.agg (.cons (.d _) (.cons (.d _) (.cons (.d _) (.cons (.d _) (.cons (.d _) .nil)))))) .nil))<|UU Z Z Z (Gv Z Z)<|UW Z Z Z<|Q3<|Qf<|Q4<|Q0<|UU Z Z Z (Q7 Z Z Z)<|UV Z Z Z<|Q3 ?_
 have e:=US h1;subst e
 refine QV ((max s1.1 x5),(J9 (s1.2+1))) (UR (Nat.zero_le _) Z Z Z Z Z) ho1
 replace h1:=Qk c3 h1
 refine J8<|Qq<|Qq ?_
 have e:=US h1;subst e
 have e_:_=_:=ho1
 subst e_
 exact J0 s1.1 (UR (Nat.zero_le _) Z Z Z Z Z) h0
 intro o1 h0
 refine QQ<|Q4<|Q6<|Q0<|UV Z Z Z<|UU Z Z Z (Q7 Z Z Z)<|UW Z Z Z<|Q3<|Q4<|QB ?_
 have e:=US h0;subst e
 exact QJ (fun _ _ h=>h) Z (Qz Z .nil) (.cons (.one (.d _)) .nil)
theorem m81_all (n:Nat) (u:Tm) (r:Int) (h0:JA m81F n u=some r):Fun Try.prog 81 [.agg (Dk u)] (QN [.one (Dh r)]) :=
 Z1 (C:=fun u r=>Fun Try.prog 81 [.agg (Dk u)] (QN [.one (Dh r)])) (fun rc H u r h=>m81s_ok rc (fun a0 r h=>H a0 r h) u r h) n u r h0
theorem m81_ok (a0:Tm) (r:Int) (h0:m81 a0=some r):Fun Try.prog 81 [.agg (Dk a0)] (QN [.one (Dh r)]):=m81_all QI a0 r h0
end Go.Proofs.Ytafddfoefeploaa
namespace Go.Proofs.Ytafddfoefeploaa
open Go.RowKit Go.Shelf
theorem fo_127_0:QS Try.prog 127 0=some 0:=by kernel_rfl
theorem fo_127_1:QS Try.prog 127 1=some 1:=by kernel_rfl
theorem fo_127_2:QS Try.prog 127 2=some 2:=by kernel_rfl
theorem fo_127_3:QS Try.prog 127 3=some 3:=by kernel_rfl
theorem fo_134_0:QS Try.prog 134 0=some 0:=by kernel_rfl
theorem fo_134_1:QS Try.prog 134 1=some 1:=by kernel_rfl
theorem ZP:QS Try.prog 134 2=some 2:=by kernel_rfl
theorem ZO:QS Try.prog 134 3=some 3:=by kernel_rfl
theorem ag_127:Jv Try.prog 127=some (true,4):=by kernel_rfl
theorem ag_134:Jv Try.prog 134=some (true,5):=by kernel_rfl
theorem WZ:Jz Try.prog 87=some [.int .i64 0,.slice none 0 0]:=by kernel_rfl
theorem z_134:Jz Try.prog 134=some [.bool false,.bool false,.int .i64 0,.int .i64 0,.int .i64 0]:=by kernel_rfl
theorem en_80:J3 Try.prog 80:=enters_of Try.func80 (by kernel_rfl) rfl
theorem en_96:J3 Try.prog 96:=enters_of Try.func96 (by kernel_rfl) rfl
theorem en_97:J3 Try.prog 97:=enters_of Try.func97 (by kernel_rfl) rfl
theorem as_135:tyArrS Try.prog 135=some (13,5):=by kernel_rfl
def m90 :Option ((List Use)) :=
 some ([(⟨true,false,0,0,(-1)⟩:Use),(⟨false,false,0,0,(-1)⟩:Use),(⟨false,false,1,0,(-1)⟩:Use),(⟨false,true,(-1),0,(-1)⟩:Use),(⟨false,false,0,2,(-1)⟩:Use),(⟨false,false,0,2,1⟩:Use),(⟨false,false,0,2,1⟩:Use),(⟨false,false,0,2,1⟩:Use),(⟨false,false,0,3,(-1)⟩:Use),(⟨false,false,0,1,(-1)⟩:Use),(⟨false,false,0,1,(-1)⟩:Use),(⟨false,false,0,3,2⟩:Use),(⟨true,false,0,0,(-1)⟩:Use)]:List Use)
theorem m90_ok  (r:(List Use)) (h0:m90 =some r):Fun Try.prog 90 [] (QN [.agg (Wp (r:List Use))]):=by
 unfold m90 at h0
 refine QT 9 15 Try.func90 Z en_90 Z (D6 Z) (fun S w=>?_)
 simp only [Ja]
 refine Q6<|Q0<|Q9 Z Z (D6 Z) (Qm z_135 Z)<|Q3<|Q4<|Q6<|Q0<|UU Z Z Z (Jk JZ Z Z Z Z)<|UU Z Z Z (RO.build1 JZ Z Z Z)<|UU Z Z Z (Jk JZ Z Z Z Z)<|UU Z Z Z (ZD JZ Z Z Z Z Z)<|UU Z Z Z (Jk JZ Z Z Z Z)<|UU Z Z Z (Jk JZ Z Z Z Z)<|UU Z Z Z (Jk JZ Z Z Z Z) ?_
 refine UU Z Z Z (Jk JZ Z Z Z Z)<|UU Z Z Z (Jk JZ Z Z Z Z)<|UU Z Z Z (Jk JZ Z Z Z Z)<|UU Z Z Z (Jk JZ Z Z Z Z)<|UU Z Z Z (Jk JZ Z Z Z Z)<|UU Z Z Z (Jk JZ Z Z Z Z)<|UU Z Z Z (JM bd_135 Z (.cons Z (.cons Z (.cons Z (.cons Z (.cons Z (.cons Z (.cons Z (.cons Z (.cons Z (.cons Z (.cons Z (.cons Z (.cons Z .nil))))))))))))) Z)<|Qy Z Z (YM Wu Z Z Z Z Z Z)<|Q3<|Q4<|QB ?_
 have e:=US h0;subst e
 exact QJ (fun _ _ h=>h) Z (YW Wu Z Z Z Z .nil) (.cons (.agg (.cons (.d _) (.cons (.d _) (.cons (.d _) (.cons (.d _) (.cons (.d _) (.cons (.d _) (.cons (.d _) (.cons (.d _) (.cons (.d _) (.cons (.d _) (.cons (.d _) (.cons (.d _) (.cons (.d _) (.cons (.d _) (.cons (.d _) (.cons (.d _) (.cons (.d _) (.cons (.d _) (.cons (.d _) (.cons (.d _) (.cons (.d _) (.cons (.d _) (.cons (.d _) (.cons (.d _) (.cons (.d _) (.cons (.d _) (.cons (.d _) (.cons (.d _) (.cons (.d _) (.cons (.d _) (.cons (.d _) (.cons (.d _) (.cons (.d _) (.cons (.d _) (.cons (.d _) (.cons (.d _) (.cons (.d _) (.cons (.d _) (.cons (.d _) (.cons (.d _) (.cons (.d _) (.cons (.d _) (.cons (.d _) (.cons (.d _) (.cons (.d _) (.cons (.d _) (.cons (.d _) (.cons (.d _) (.cons (.d _) (.cons (.d _) (.cons (.d _) (.cons (.d _) (.cons (.d _) (.cons (.d _) (.cons (.d _) (.cons (.d _) (.cons (.d _) (.cons (.d _) (.cons (.d _) (.cons (.d _) (.cons (.d _) (.cons (.d _) (.cons (.d _) (.cons (.d _) (.cons (.d _) .nil)))))))))))))))))))))))))))))))))))))))))))))))))))))))))))))))))) .nil)
def m96_k0 (p0_:Bool) (p1_:Tm):Option Bool :=
 cond p0_
   (some false)
   (Option.bind (m90 ) fun (b0_:(List Use)) =>
 Option.bind (JC b0_ p1_.kind) fun (b1_:Use) =>
 Jl (Nat.beq b0_.length 13)
 (Option.bind (cond b1_.index
   (cond b1_.name
   (cond (decide (b1_.levels < 0))
   (some ((p1_.kids.length:Int)==b1_.kids))
   (cond ((p1_.levels.length:Int)==b1_.levels)
   (some ((p1_.kids.length:Int)==b1_.kids))
   (some false)))
   (cond (p1_.name==([]:List UInt8))
   (cond (decide (b1_.levels < 0))
   (some ((p1_.kids.length:Int)==b1_.kids))
   (cond ((p1_.levels.length:Int)==b1_.levels)
   (some ((p1_.kids.length:Int)==b1_.kids))
   (some false)))
   (some false)))
   (cond (p1_.index==0)
   (cond b1_.name
   (cond (decide (b1_.levels < 0))
   (some ((p1_.kids.length:Int)==b1_.kids))
   (cond ((p1_.levels.length:Int)==b1_.levels)
   (some ((p1_.kids.length:Int)==b1_.kids))
   (some false)))
   (cond (p1_.name==([]:List UInt8))
   (cond (decide (b1_.levels < 0))
   (some ((p1_.kids.length:Int)==b1_.kids))
   (cond ((p1_.levels.length:Int)==b1_.levels)
   (some ((p1_.kids.length:Int)==b1_.kids))
   (some false)))
   (some false)))
   (some false))) (fun (b2_:Bool)=>some b2_)))
def Un (a0:Tm):Option Bool :=
 Option.bind (cond (decide (a0.kind < 0))
   (some true)
   (some (decide (13≤a0.kind)))) (fun (v1:Bool)=>m96_k0 v1 a0)
theorem m96_ok (a0:Tm) (r:Bool) (h0:Un a0=some r):Fun Try.prog 96 [.agg (Dk a0)] (QN [.one (Di r)]):=by
 unfold Un at h0
 refine QT 9 53 Try.func96 Z en_96 Z (D6 Z) (fun S w=>?_)
 simp only [Ja]
 refine Q6<|Q0<|Q9 Z Z (D6 Z) (QU Z)<|UW Z Z Z<|Q3<|Q4<|Q6<|Q6 ?_
 refine QP (fun (v1:Bool)=>⟨[(1,.v (.one (.ptr 0 0))),(11,.v (.one (Di v1)))],[(0,.cells 33 (Dk a0))],[],1,53,[]⟩) (fun (v1:Bool)=>(m96_k0 v1 a0)=some r) ?_ ?_
 refine Qd h0 (fun w1_ h1 h0=>?_)
 refine Q0<|UU Z Z Z (Q2 Yj Z)<|UU Z Z Z (Q5 QO Z Z Z)<|UU Z Z Z (Q7 Z Z Z)<|UV Z Z Z ?_
 refine QG (d:=7) (c:=(decide (a0.kind < 0))) Z (fun c2=>?_) (fun c2=>?_)
 replace h1:=Qj c2 h1
 refine Q8 Z Z<|Q8 Z Z<|Q8 Z Z<|UU Z Z Z (Qe Z Z)<|Q3 ?_
 have e:=US h1;subst e
 exact Qb true (UR (Nat.zero_le _) Z Z Z Z Z) h0
 replace h1:=Qk c2 h1
 refine UU Z Z Z (Q2 Yj Z)<|UU Z Z Z (Q5 QO Z Z Z)<|UU Z Z Z (Q7 Z Z Z)<|UU Z Z Z (Qa Z Z)<|Q3 ?_
 have e:=US h1;subst e
 exact Qb (decide (13≤a0.kind)) (UR (Nat.zero_le _) Z Z Z Z Z) h0
 intro v1 h0
 unfold m96_k0 at h0
 refine Q4 ?_
 refine Qg (b:=v1) Z (fun c3=>?_) (fun c3=>?_)
 replace h0:=Qj c3 h0
 refine Q6<|Q0<|UW Z Z Z<|Q3<|Q4<|QB ?_
 have e:=US h0;subst e
 exact QJ (fun _ _ h=>h) Z (Qz Z .nil) (.cons (.one (.d _)) .nil)
 replace h0:=Qk c3 h0
 refine Qn<|Q4<|Q6 ?_
 refine Jt [4,5] [(0,1),(1,1),(2,1),(3,1)] YP (by kernel_rfl) (by kernel_rfl) (by kernel_rfl) ?_
 refine Qd h0 (fun x4 hx4 h0=>?_)
 refine RunA.rd Z Z Z (Qp (m90_ok  x4 hx4) Z .nil) Z<|RunA.rd Z Z Z (Q1 (Q2 Yj Z)) Z<|RunA.rd Z Z Z (Q1 (Q5 QO Z Z Z)) Z ?_
 refine Qd h0 (fun x5 hx5 h0=>?_)
 refine YR h0 (fun g6 h0=>?_)
 refine RunA.rd Z Z Z (Q1 (RO.indexAgg (α:=Use) (tbl:=x4) as_135 Z Z g6 Z hx5)) Z<|RunA.eff Z Z Z (Qm z_134 Z) Z<|RunA.eff Z Z Z (QD (x5:Use) ag_134 Z Z Z Z Z) Z ?_
 refine RunA.nil ⟨?ex,_,_,Z,?_⟩
 case ex=>exact ⟨⟨_,rfl,_,_,rfl,rfl,rfl,.inl ⟨rfl,_,Qp (m90_ok  x4 hx4) rfl .nil,rfl⟩⟩,⟨_,rfl,_,_,rfl,rfl,rfl,.inl ⟨rfl,_,Q1 (Q2 Yj rfl),rfl⟩⟩,⟨_,rfl,_,_,rfl,rfl,rfl,.inl ⟨rfl,_,Q1 (Q5 QO rfl rfl rfl),rfl⟩⟩,⟨_,rfl,_,_,rfl,rfl,rfl,.inl ⟨rfl,_,Q1 (RO.indexAgg (α:=Use) (tbl:=x4) as_135 rfl rfl g6 rfl hx5),rfl⟩⟩,trivial⟩
 refine JW (st':=⟨[(1,.v (.one (.ptr 0 0))),(3,.v (.one (.ptr 1 0)))],[(0,.cells 33 (Dk a0)),(1,.cells 134 (Dk x5))],[],2,53,[]⟩) (UR (Nat.zero_le _) Z Z Z Z Z)<|Q4<|Q6 ?_
 refine QP (fun (v7:Bool)=>⟨[(2,.v (.one (Di v7)))],[(0,.cells 33 (Dk a0)),(1,.cells 134 (Dk x5))],[],2,53,[]⟩) (fun (v7:Bool)=>(some v7)=some r) ?_ ?_
 refine Qd h0 (fun w1_ h1 h0=>?_)
 refine Q0<|UU Z Z Z (Q2 fo_134_0 Z)<|UU Z Z Z (Q5 ag_4 Z Z Z)<|UV Z Z Z ?_
 refine QG (d:=18) (c:=x5.index) Z (fun c8=>?_) (fun c8=>?_)
 replace h1:=Qj c8 h1
 refine Q8 Z Z<|Q8 Z Z<|Q8 Z Z<|UU Z Z Z (Qe Z Z)<|UV Z Z Z<|UU Z Z Z (Q2 fo_134_1 Z)<|UU Z Z Z (Q5 ag_4 Z Z Z)<|UV Z Z Z ?_
 refine QG (d:=26) (c:=x5.name) Z (fun c9=>?_) (fun c9=>?_)
 replace h1:=Qj c9 h1
 refine Q8 Z Z<|Q8 Z Z<|Q8 Z Z<|UU Z Z Z (Qe Z Z)<|UU Z Z Z (Qe Z Z)<|UV Z Z Z<|UU Z Z Z (Q2 ZP Z)<|UU Z Z Z (Q5 QO Z Z Z)<|UU Z Z Z (Q7 Z Z Z)<|UV Z Z Z ?_
 refine QG (d:=36) (c:=(decide (x5.levels < 0))) Z (fun c10=>?_) (fun c10=>?_)
 replace h1:=Qj c10 h1
 refine Q8 Z Z<|Q8 Z Z<|Q8 Z Z<|Q8 Z Z<|Q8 Z Z<|Q8 Z Z<|UU Z Z Z (Qe Z Z)<|UU Z Z Z (Qe Z Z)<|UV Z Z Z<|UU Z Z Z (Q2 JG Z)<|UU Z Z Z (Q5 Yb Z Z Z)<|UU Z Z Z (QA (α:=Tm) Jx Z (.d _))<|UU Z Z Z (Q2 ZO Z)<|UU Z Z Z (Q5 QO Z Z Z) ?_
 refine UU Z Z Z (Q7 Z Z Z)<|UU Z Z Z (Qe Z Z)<|UW Z Z Z<|Q3 ?_
 have e:=US h1;subst e
 exact Qb ((a0.kids.length:Int)==x5.kids) (UR (Nat.zero_le _) Z Z Z Z Z) h0
 replace h1:=Qk c10 h1
 refine UU Z Z Z (Q2 Z5 Z)<|UU Z Z Z (Q5 GA Z Z Z)<|UU Z Z Z (QA (α:=Lvl) YZ Z (.d _))<|UU Z Z Z (Q2 ZP Z)<|UU Z Z Z (Q5 QO Z Z Z)<|UU Z Z Z (Q7 Z Z Z)<|UU Z Z Z (Qa Z Z)<|UU Z Z Z (Qe Z Z)<|UV Z Z Z ?_
 refine QG (d:=45) (c:=((a0.levels.length:Int)==x5.levels)) Z (fun c11=>?_) (fun c11=>?_)
 replace h1:=Qj c11 h1
 refine UU Z Z Z (Q2 JG Z)<|UU Z Z Z (Q5 Yb Z Z Z)<|UU Z Z Z (QA (α:=Tm) Jx Z (.d _))<|UU Z Z Z (Q2 ZO Z)<|UU Z Z Z (Q5 QO Z Z Z)<|UU Z Z Z (Q7 Z Z Z)<|UU Z Z Z (Qe Z Z)<|UW Z Z Z<|Q3 ?_
 have e:=US h1;subst e
 exact Qb ((a0.kids.length:Int)==x5.kids) (UR (Nat.zero_le _) Z Z Z Z Z) h0
 replace h1:=Qk c11 h1
 refine Q8 Z Z<|Q8 Z Z<|Q8 Z Z<|Q8 Z Z<|Q8 Z Z<|Q8 Z Z<|UU Z Z Z (Qa Z Z)<|UW Z Z Z<|Q3 ?_
 have e:=US h1;subst e
 exact Qb false (UR (Nat.zero_le _) Z Z Z Z Z) h0
 replace h1:=Qk c9 h1
 refine UU Z Z Z (Q2 ZF Z)<|UU Z Z Z (Q5 JU Z Z Z)<|UU Z Z Z (Gw Z Z)<|UU Z Z Z (Qa Z Z)<|UU Z Z Z (Qe Z Z)<|UV Z Z Z ?_
 refine QG (d:=32) (c:=(a0.name==([]:List UInt8))) Z (fun c12=>?_) (fun c12=>?_)
 replace h1:=Qj c12 h1
 refine UU Z Z Z (Q2 ZP Z)<|UU Z Z Z (Q5 QO Z Z Z)<|UU Z Z Z (Q7 Z Z Z)<|UV Z Z Z ?_
 refine QG (d:=36) (c:=(decide (x5.levels < 0))) Z (fun c13=>?_) (fun c13=>?_)
 replace h1:=Qj c13 h1
 refine Q8 Z Z<|Q8 Z Z<|Q8 Z Z<|Q8 Z Z<|Q8 Z Z<|Q8 Z Z<|UU Z Z Z (Qe Z Z)<|UU Z Z Z (Qe Z Z)<|UV Z Z Z<|UU Z Z Z (Q2 JG Z)<|UU Z Z Z (Q5 Yb Z Z Z)<|UU Z Z Z (QA (α:=Tm) Jx Z (.d _))<|UU Z Z Z (Q2 ZO Z)<|UU Z Z Z (Q5 QO Z Z Z) ?_
 refine UU Z Z Z (Q7 Z Z Z)<|UU Z Z Z (Qe Z Z)<|UW Z Z Z<|Q3 ?_
 have e:=US h1;subst e
 exact Qb ((a0.kids.length:Int)==x5.kids) (UR (Nat.zero_le _) Z Z Z Z Z) h0
 replace h1:=Qk c13 h1
 refine UU Z Z Z (Q2 Z5 Z)<|UU Z Z Z (Q5 GA Z Z Z)<|UU Z Z Z (QA (α:=Lvl) YZ Z (.d _))<|UU Z Z Z (Q2 ZP Z)<|UU Z Z Z (Q5 QO Z Z Z)<|UU Z Z Z (Q7 Z Z Z)<|UU Z Z Z (Qa Z Z)<|UU Z Z Z (Qe Z Z)<|UV Z Z Z ?_
 refine QG (d:=45) (c:=((a0.levels.length:Int)==x5.levels)) Z (fun c14=>?_) (fun c14=>?_)
 replace h1:=Qj c14 h1
 refine UU Z Z Z (Q2 JG Z)<|UU Z Z Z (Q5 Yb Z Z Z)<|UU Z Z Z (QA (α:=Tm) Jx Z (.d _))<|UU Z Z Z (Q2 ZO Z)<|UU Z Z Z (Q5 QO Z Z Z)<|UU Z Z Z (Q7 Z Z Z)<|UU Z Z Z (Qe Z Z)<|UW Z Z Z<|Q3 ?_
 have e:=US h1;subst e
 exact Qb ((a0.kids.length:Int)==x5.kids) (UR (Nat.zero_le _) Z Z Z Z Z) h0
 replace h1:=Qk c14 h1
 refine Q8 Z Z<|Q8 Z Z<|Q8 Z Z<|Q8 Z Z<|Q8 Z Z<|Q8 Z Z<|UU Z Z Z (Qa Z Z)<|UW Z Z Z<|Q3 ?_
 have e:=US h1;subst e
 exact Qb false (UR (Nat.zero_le _) Z Z Z Z Z) h0
 replace h1:=Qk c12 h1
 refine Q8 Z Z<|Q8 Z Z<|Q8 Z Z<|Q8 Z Z<|Q8 Z Z<|Q8 Z Z<|Q8 Z Z<|Q8 Z Z<|Q8 Z Z<|Q8 Z Z<|Q8 Z Z<|UU Z Z Z (Qa Z Z)<|UV Z Z Z<|Q8 Z Z ?_
 refine Q8 Z Z<|Q8 Z Z<|Q8 Z Z<|Q8 Z Z<|Q8 Z Z<|UU Z Z Z (Qa Z Z)<|UW Z Z Z<|Q3 ?_
 have e:=US h1;subst e
 exact Qb false (UR (Nat.zero_le _) Z Z Z Z Z) h0
 replace h1:=Qk c8 h1
 refine UU Z Z Z (Q2 YV Z)<|UU Z Z Z (Q5 QO Z Z Z)<|UU Z Z Z (Q7 Z Z Z)<|UU Z Z Z (Qa Z Z)<|UV Z Z Z ?_
 refine QG (d:=23) (c:=(a0.index==0)) Z (fun c15=>?_) (fun c15=>?_)
 replace h1:=Qj c15 h1
 refine UU Z Z Z (Q2 fo_134_1 Z)<|UU Z Z Z (Q5 ag_4 Z Z Z)<|UV Z Z Z ?_
 refine QG (d:=26) (c:=x5.name) Z (fun c16=>?_) (fun c16=>?_)
 replace h1:=Qj c16 h1
 refine Q8 Z Z<|Q8 Z Z<|Q8 Z Z<|UU Z Z Z (Qe Z Z)<|UU Z Z Z (Qe Z Z)<|UV Z Z Z<|UU Z Z Z (Q2 ZP Z)<|UU Z Z Z (Q5 QO Z Z Z)<|UU Z Z Z (Q7 Z Z Z)<|UV Z Z Z ?_
 refine QG (d:=36) (c:=(decide (x5.levels < 0))) Z (fun c17=>?_) (fun c17=>?_)
 replace h1:=Qj c17 h1
 refine Q8 Z Z<|Q8 Z Z<|Q8 Z Z<|Q8 Z Z<|Q8 Z Z<|Q8 Z Z<|UU Z Z Z (Qe Z Z)<|UU Z Z Z (Qe Z Z)<|UV Z Z Z<|UU Z Z Z (Q2 JG Z)<|UU Z Z Z (Q5 Yb Z Z Z)<|UU Z Z Z (QA (α:=Tm) Jx Z (.d _))<|UU Z Z Z (Q2 ZO Z)<|UU Z Z Z (Q5 QO Z Z Z) ?_
 refine UU Z Z Z (Q7 Z Z Z)<|UU Z Z Z (Qe Z Z)<|UW Z Z Z<|Q3 ?_
 have e:=US h1;subst e
 exact Qb ((a0.kids.length:Int)==x5.kids) (UR (Nat.zero_le _) Z Z Z Z Z) h0
 replace h1:=Qk c17 h1
 refine UU Z Z Z (Q2 Z5 Z)<|UU Z Z Z (Q5 GA Z Z Z)<|UU Z Z Z (QA (α:=Lvl) YZ Z (.d _))<|UU Z Z Z (Q2 ZP Z)<|UU Z Z Z (Q5 QO Z Z Z)<|UU Z Z Z (Q7 Z Z Z)<|UU Z Z Z (Qa Z Z)<|UU Z Z Z (Qe Z Z)<|UV Z Z Z ?_
 refine QG (d:=45) (c:=((a0.levels.length:Int)==x5.levels)) Z (fun c18=>?_) (fun c18=>?_)
 replace h1:=Qj c18 h1
 refine UU Z Z Z (Q2 JG Z)<|UU Z Z Z (Q5 Yb Z Z Z)<|UU Z Z Z (QA (α:=Tm) Jx Z (.d _))<|UU Z Z Z (Q2 ZO Z)<|UU Z Z Z (Q5 QO Z Z Z)<|UU Z Z Z (Q7 Z Z Z)<|UU Z Z Z (Qe Z Z)<|UW Z Z Z<|Q3 ?_
 have e:=US h1;subst e
 exact Qb ((a0.kids.length:Int)==x5.kids) (UR (Nat.zero_le _) Z Z Z Z Z) h0
 replace h1:=Qk c18 h1
 refine Q8 Z Z<|Q8 Z Z<|Q8 Z Z<|Q8 Z Z<|Q8 Z Z<|Q8 Z Z<|UU Z Z Z (Qa Z Z)<|UW Z Z Z<|Q3 ?_
 have e:=US h1;subst e
 exact Qb false (UR (Nat.zero_le _) Z Z Z Z Z) h0
 replace h1:=Qk c16 h1
 refine UU Z Z Z (Q2 ZF Z)<|UU Z Z Z (Q5 JU Z Z Z)<|UU Z Z Z (Gw Z Z)<|UU Z Z Z (Qa Z Z)<|UU Z Z Z (Qe Z Z)<|UV Z Z Z ?_
 refine QG (d:=32) (c:=(a0.name==([]:List UInt8))) Z (fun c19=>?_) (fun c19=>?_)
 replace h1:=Qj c19 h1
 refine UU Z Z Z (Q2 ZP Z)<|UU Z Z Z (Q5 QO Z Z Z)<|UU Z Z Z (Q7 Z Z Z)<|UV Z Z Z ?_
 refine QG (d:=36) (c:=(decide (x5.levels < 0))) Z (fun c20=>?_) (fun c20=>?_)
 replace h1:=Qj c20 h1
 refine Q8 Z Z<|Q8 Z Z<|Q8 Z Z<|Q8 Z Z<|Q8 Z Z<|Q8 Z Z<|UU Z Z Z (Qe Z Z)<|UU Z Z Z (Qe Z Z)<|UV Z Z Z<|UU Z Z Z (Q2 JG Z)<|UU Z Z Z (Q5 Yb Z Z Z)<|UU Z Z Z (QA (α:=Tm) Jx Z (.d _))<|UU Z Z Z (Q2 ZO Z)<|UU Z Z Z (Q5 QO Z Z Z) ?_
 refine UU Z Z Z (Q7 Z Z Z)<|UU Z Z Z (Qe Z Z)<|UW Z Z Z<|Q3 ?_
 have e:=US h1;subst e
 exact Qb ((a0.kids.length:Int)==x5.kids) (UR (Nat.zero_le _) Z Z Z Z Z) h0
 replace h1:=Qk c20 h1
 refine UU Z Z Z (Q2 Z5 Z)<|UU Z Z Z (Q5 GA Z Z Z)<|UU Z Z Z (QA (α:=Lvl) YZ Z (.d _))<|UU Z Z Z (Q2 ZP Z)<|UU Z Z Z (Q5 QO Z Z Z)<|UU Z Z Z (Q7 Z Z Z)<|UU Z Z Z (Qa Z Z)<|UU Z Z Z (Qe Z Z)<|UV Z Z Z ?_
 refine QG (d:=45) (c:=((a0.levels.length:Int)==x5.levels)) Z (fun c21=>?_) (fun c21=>?_)
 replace h1:=Qj c21 h1
 refine UU Z Z Z (Q2 JG Z)<|UU Z Z Z (Q5 Yb Z Z Z)<|UU Z Z Z (QA (α:=Tm) Jx Z (.d _))<|UU Z Z Z (Q2 ZO Z)<|UU Z Z Z (Q5 QO Z Z Z)<|UU Z Z Z (Q7 Z Z Z)<|UU Z Z Z (Qe Z Z)<|UW Z Z Z<|Q3 ?_
 have e:=US h1;subst e
 exact Qb ((a0.kids.length:Int)==x5.kids) (UR (Nat.zero_le _) Z Z Z Z Z) h0
 replace h1:=Qk c21 h1
 refine Q8 Z Z<|Q8 Z Z<|Q8 Z Z<|Q8 Z Z<|Q8 Z Z<|Q8 Z Z<|UU Z Z Z (Qa Z Z)<|UW Z Z Z<|Q3 ?_
 have e:=US h1;subst e
 exact Qb false (UR (Nat.zero_le _) Z Z Z Z Z) h0
 replace h1:=Qk c19 h1
 refine Q8 Z Z<|Q8 Z Z<|Q8 Z Z<|Q8 Z Z<|Q8 Z Z<|Q8 Z Z<|Q8 Z Z<|Q8 Z Z<|Q8 Z Z<|Q8 Z Z<|Q8 Z Z<|UU Z Z Z (Qa Z Z)<|UV Z Z Z<|Q8 Z Z ?_
 refine Q8 Z Z<|Q8 Z Z<|Q8 Z Z<|Q8 Z Z<|Q8 Z Z<|UU Z Z Z (Qa Z Z)<|UW Z Z Z<|Q3 ?_
 have e:=US h1;subst e
 exact Qb false (UR (Nat.zero_le _) Z Z Z Z Z) h0
 replace h1:=Qk c15 h1
 refine Q8 Z Z<|Q8 Z Z<|Q8 Z Z<|Q8 Z Z<|Q8 Z Z<|Q8 Z Z<|Q8 Z Z<|UU Z Z Z (Qa Z Z)<|UV Z Z Z<|Q8 Z Z<|Q8 Z Z<|Q8 Z Z<|Q8 Z Z<|Q8 Z Z ?_
 refine Q8 Z Z<|Q8 Z Z<|Q8 Z Z<|Q8 Z Z<|Q8 Z Z<|Q8 Z Z<|UU Z Z Z (Qa Z Z)<|UV Z Z Z<|Q8 Z Z<|Q8 Z Z<|Q8 Z Z<|Q8 Z Z<|Q8 Z Z<|Q8 Z Z ?_
 refine UU Z Z Z (Qa Z Z)<|UW Z Z Z<|Q3 ?_
 have e:=US h1;subst e
 exact Qb false (UR (Nat.zero_le _) Z Z Z Z Z) h0
 intro v7 h0
 refine Q4<|QB ?_
 have e:=US h0;subst e
 exact QJ (fun _ _ h=>h) Z (Qz Z .nil) (.cons (.one (.d _)) .nil)
def Xf (a1:Lvl) (a0:Scp) (s1:Int):Option (LO Int (Unit⊕Int)) :=
 cond (decide (s1 < (a1.vs.length:Int)))
   (Option.bind (JC a1.vs s1) fun (x5:Dv) =>
 cond (decide (a0.params≤x5.1))
   (some (.done (.inr 15)))
   (some (.next (J9 (s1+1)))))
   (some (.done (.inl ())))
def GD (a1:Lvl) (a0:Scp) (s1:Int):Option (LO Int (Unit⊕Int)) :=
 cond (decide (s1 < (a1.vs.length:Int)))
   (Option.bind (JC a1.vs s1) fun (x6:Dv) =>
 Option.bind (cond (decide (x6.1 < 0))
   (some (decide (a0.levels≤(J9 ((-1) - x6.1)))))
   (some false)) (fun (v7:Bool)=>cond v7
   (some (.done (.inr 23)))
   (some (.next (J9 (s1+1))))))
   (some (.done (.inl ())))
noncomputable abbrev m97_h0 (p0_:Scp) (p1_:Lvl) (p2_:Dv):List (Nat×HB) :=
 [(0,.cells 127 (Dk p0_)),(1,.cells 87 (Dk p1_)),(2,.cells 124 (Dk p2_))]
def Up (a0:Scp) (a1:Lvl):Option Int :=
 Option.bind (WW a1) fun (x1:Bool) =>
 cond (!x1)
   (some 3)
   (Option.bind (Qr (Xf a1 a0) QI 0) (Sum.elim (fun (o3:Unit)=>Option.bind (Qr (GD a1 a0) QI 0) (Sum.elim (fun (o4:Unit)=>some 0) (fun o=>some o))) (fun o=>some o)))
theorem m97_ok (a0:Scp) (a1:Lvl) (r:Int) (h0:Up a0 a1=some r):Fun Try.prog 97 [.agg (Dk a0),.agg (Dk a1)] (QN [.one (Dh r)]):=by
 unfold Up at h0
 refine QT 9 44 Try.func97 Z en_97 Z (D6 Z) (fun S w=>?_)
 simp only [Ja]
 refine Q6<|Q0<|Q9 Z Z (D6 Z) (QU Z)<|Q9 Z Z (D6 Z) (QU Z)<|UW Z Z Z<|Q3<|Q4<|Q6<|Q6<|Q0<|UU Z Z Z (QM (a1:Lvl) ZY Z Z) ?_
 refine Qd h0 (fun x1 hx1 h0=>?_)
 refine Q9 Z Z (D6 Z) (Qp (m103_ok a1 x1 hx1) Z (.cons (.agg (.cons (.d _) (.cons (.d _) .nil))) .nil))<|UU Z Z Z (Jj Z)<|Q3<|Q4 ?_
 refine Qg (b:=(!x1)) Z (fun c2=>?_) (fun c2=>?_)
 replace h0:=Qj c2 h0
 refine Q6<|Q0<|UW Z Z Z<|Q3<|Q4<|QB ?_
 have e:=US h0;subst e
 exact QJ (fun _ _ h=>h) Z (Qz Z .nil) (.cons (.one (.d _)) .nil)
 replace h0:=Qk c2 h0
 refine Qn<|Q4<|Q6<|Q6<|Q0<|UU Z Z Z (Q2 Z4 Z)<|UU Z Z Z (Q5 Gz Z Z Z)<|UU Z Z Z (QA (α:=Dv) Zi Z (.d _))<|UV Z Z Z<|Q3<|Q4<|Qh ?_
 refine J2 0 (fun (o3:Unit)=>⟨[(2,.v (.one (.ptr 0 0))),(3,.v (.one (.ptr 1 0)))],[(0,.cells 127 (Dk a0)),(1,.cells 87 (Dk a1))],[],2,44,[]⟩) (fun (o3:Unit)=>(Option.bind (Qr (GD a1 a0) QI 0) (Sum.elim (fun (o4:Unit)=>some 0) (fun o=>some o)))=some r) ?_ ?_
 refine Qd h0 (fun o4 hl1 h0=>?_)
 refine J1 (Xf a1 a0) (fun s1=>⟨[(2,.v (.one (.ptr 0 0))),(3,.v (.one (.ptr 1 0))),(13,.v (.one (Df a1.vs))),(14,.v (.one (Dh (a1.vs.length:Int)))),(15,.v (.one (Dh s1)))],[(0,.cells 127 (Dk a0)),(1,.cells 87 (Dk a1))],[],2,44,[]⟩) 0 o4 (UR (Nat.zero_le _) Z Z Z Z Z) hl1 (fun s1 n1 oo1 h1 ho1=>?_)
 unfold Xf at h1
 refine Q6<|Q0<|UU Z Z Z (Q7 Z Z Z)<|Q3<|Q4<|Q6 ?_
 refine Qg (b:=(decide (s1 < (a1.vs.length:Int)))) Z (fun c5=>?_) (fun c5=>?_)
 replace h1:=Qj c5 h1
 refine Qn<|Q4<|Q6<|Qh<|Q6<|Q0 ?_
 refine Qd h1 (fun x6 hx6 h1=>?_)
 refine UU Z Z Z (QC (α:=Dv) Zi Z (.d _) Z hx6)<|UU Z Z Z (Qw (x6:Dv) Kx Z)<|Q9 Z Z (D6 Z) (Qm z_124 Z)<|Qy Z Z (QD (x6:Dv) Kx Z Z Z Z Z)<|Q3<|Q4<|Q6<|Q0<|UU Z Z Z (Q2 Ku Z)<|UU Z Z Z (Q5 QO Z Z Z)<|UU Z Z Z (Q2 fo_127_1 Z)<|UU Z Z Z (Q5 QO Z Z Z)<|UU Z Z Z (Q7 Z Z Z)<|Q3 ?_
 refine Q4 ?_
 refine Qg (b:=(decide (a0.params≤x6.1))) Z (fun c7=>?_) (fun c7=>?_)
 replace h1:=Qj c7 h1
 refine Q6<|Q0<|UW Z Z Z<|Q3<|Q4<|QB ?_
 have e:=US h1;subst e
 have e_:_=_:=ho1
 subst e_
 try dsimp only [Sum.elim_inl,Sum.elim_inr] at h0
 have e:=US h0;subst e
 exact QJ (fun _ _ h=>h) Z (Qz Z .nil) (.cons (.one (.d _)) .nil)
 replace h1:=Qk c7 h1
 refine Qn<|Qf<|Q4<|Q0<|UU Z Z Z (Q7 Z Z Z)<|UV Z Z Z<|Q3 ?_
 have e:=US h1;subst e
 refine QV (J9 (s1+1)) (UR (Nat.zero_le _) Z Z Z Z Z) ho1
 replace h1:=Qk c5 h1
 refine J8<|Qq<|Qq ?_
 have e:=US h1;subst e
 have e_:_=_:=ho1
 subst e_
 exact J0 () (UR (Nat.zero_le _) Z Z Z Z Z) h0
 intro o3 h0
 refine QQ<|Q4<|Q6<|Q6<|Q0<|UU Z Z Z (Q2 Z4 Z)<|UU Z Z Z (Q5 Gz Z Z Z)<|UU Z Z Z (QA (α:=Dv) Zi Z (.d _))<|UV Z Z Z<|Q3<|Q4<|Qh ?_
 refine J2 2 (fun (o8:Unit)=>⟨[],[(0,.cells 127 (Dk a0)),(1,.cells 87 (Dk a1))],[],2,44,[]⟩) (fun (o8:Unit)=>(some 0)=some r) ?_ ?_
 refine Qd h0 (fun o9 hl1 h0=>?_)
 refine J1 (GD a1 a0) (fun s1=>⟨[(2,.v (.one (.ptr 0 0))),(26,.v (.one (Df a1.vs))),(27,.v (.one (Dh (a1.vs.length:Int)))),(28,.v (.one (Dh s1)))],[(0,.cells 127 (Dk a0)),(1,.cells 87 (Dk a1))],[],2,44,[]⟩) 0 o9 (UR (Nat.zero_le _) Z Z Z Z Z) hl1 (fun s1 n1 oo1 h1 ho1=>?_)
 unfold GD at h1
 refine Q6<|Q0<|UU Z Z Z (Q7 Z Z Z)<|Q3<|Q4<|Q6 ?_
 refine Qg (b:=(decide (s1 < (a1.vs.length:Int)))) Z (fun c10=>?_) (fun c10=>?_)
 replace h1:=Qj c10 h1
 refine Qn<|Q4<|Q6<|Qh<|Q6<|Q0 ?_
 refine Qd h1 (fun x11 hx11 h1=>?_)
 refine UU Z Z Z (QC (α:=Dv) Zi Z (.d _) Z hx11)<|UU Z Z Z (Qw (x11:Dv) Kx Z)<|Q9 Z Z (D6 Z) (Qm z_124 Z)<|Qy Z Z (QD (x11:Dv) Kx Z Z Z Z Z)<|Q3<|Q4<|Q6 ?_
 refine QP (fun (v12:Bool)=>⟨[(2,.v (.one (.ptr 0 0))),(26,.v (.one (Df a1.vs))),(27,.v (.one (Dh (a1.vs.length:Int)))),(28,.v (.one (Dh s1))),(42,.v (.one (Di v12)))],m97_h0 a0 a1 x11,[],3,44,[]⟩) (fun (v12:Bool)=>(cond v12
     (some (.done (.inr 23)))
     (some (.next (J9 (s1+1)))))=some oo1) ?_ ?_
 refine Qd h1 (fun w2_ h2 h1=>?_)
 refine Q0<|UU Z Z Z (Q2 Ku Z)<|UU Z Z Z (Q5 QO Z Z Z)<|UU Z Z Z (Q7 Z Z Z)<|UV Z Z Z ?_
 refine QG (d:=35) (c:=(decide (x11.1 < 0))) Z (fun c13=>?_) (fun c13=>?_)
 replace h2:=Qj c13 h2
 refine UU Z Z Z (Q2 Ku Z)<|UU Z Z Z (Q5 QO Z Z Z)<|UU Z Z Z (Q7 Z Z Z)<|UU Z Z Z (Q2 fo_127_3 Z)<|UU Z Z Z (Q5 QO Z Z Z)<|UU Z Z Z (Q7 Z Z Z)<|UU Z Z Z (Qe Z Z)<|Q3 ?_
 have e:=US h2;subst e
 exact Qb (decide (a0.levels≤(J9 ((-1) - x11.1)))) (UR (Nat.zero_le _) Z Z Z Z Z) h1
 replace h2:=Qk c13 h2
 refine Q8 Z Z<|Q8 Z Z<|Q8 Z Z<|Q8 Z Z<|Q8 Z Z<|Q8 Z Z<|UU Z Z Z (Qa Z Z)<|Q3 ?_
 have e:=US h2;subst e
 exact Qb false (UR (Nat.zero_le _) Z Z Z Z Z) h1
 intro v12 h1
 refine Q4 ?_
 refine Qg (b:=v12) Z (fun c14=>?_) (fun c14=>?_)
 replace h1:=Qj c14 h1
 refine Q6<|Q0<|UW Z Z Z<|Q3<|Q4<|QB ?_
 have e:=US h1;subst e
 have e_:_=_:=ho1
 subst e_
 try dsimp only [Sum.elim_inl,Sum.elim_inr] at h0
 have e:=US h0;subst e
 exact QJ (fun _ _ h=>h) Z (Qz Z .nil) (.cons (.one (.d _)) .nil)
 replace h1:=Qk c14 h1
 refine Qn<|Qf<|Q4<|Q0<|UU Z Z Z (Q7 Z Z Z)<|UV Z Z Z<|Q3 ?_
 have e:=US h1;subst e
 refine QV (J9 (s1+1)) (UR (Nat.zero_le _) Z Z Z Z Z) ho1
 replace h1:=Qk c10 h1
 refine J8<|Qq<|Qq ?_
 have e:=US h1;subst e
 have e_:_=_:=ho1
 subst e_
 exact J0 () (UR (Nat.zero_le _) Z Z Z Z Z) h0
 intro o8 h0
 refine QQ<|Q4<|Q6<|Q0<|UW Z Z Z<|Q3<|Q4<|QB ?_
 have e:=US h0;subst e
 exact QJ (fun _ _ h=>h) Z (Qz Z .nil) (.cons (.one (.d _)) .nil)
def ZV (a1:Tm) (a0:Scp) (s1:Int):Option (LO Int (Unit⊕Int)) :=
 cond (decide (s1 < (a1.levels.length:Int)))
   (Option.bind (JC a1.levels s1) fun (x9:Lvl) =>
 Option.bind (Up a0 x9) fun (x10:Int) =>
 cond (x10 != 0)
   (some (.done (.inr x10)))
   (some (.next (J9 (s1+1)))))
   (some (.done (.inl ())))
def Kj (p0_:Tm) (p1_:Scp) (p2_:Int):Option Int :=
 Option.bind (cond (p0_.kind==0)
   (cond (decide (p0_.index < 0))
   (some true)
   (some (decide (p1_.vars≤(J9 (p0_.index - p2_))))))
   (some false)) (fun (b0_:Bool)=>cond b0_
   (some 24)
   (Option.bind (cond (p0_.kind==12)
   (cond (decide (p0_.index < 0))
   (some true)
   (some (decide (p1_.metas≤p0_.index))))
   (some false)) (fun (b1_:Bool)=>cond b1_
   (some 23)
   (some 0))))
def UF (a0:Scp) (a1:Tm) (a2:Int):Option Int :=
 Option.bind (Un a1) fun (x1:Bool) =>
 cond (!x1)
   (some 3)
   (cond (a1.kind==3)
   (Option.bind (Uq a1.name) fun (x4:Bool) =>
 cond (!x4)
   (some 29)
   (cond (decide (8 < (a1.levels.length:Int)))
   (some 6)
   (Option.bind (Qr (ZV a1 a0) QI 0) (Sum.elim (fun (o7:Unit)=>Kj a1 a0 a2) (fun o=>some o)))))
   (Option.bind (Qr (ZV a1 a0) QI 0) (Sum.elim (fun (o21:Unit)=>Kj a1 a0 a2) (fun o=>some o))))
theorem m80_ok (a0:Scp) (a1:Tm) (a2:Int) (r:Int) (h0:UF a0 a1 a2=some r):Fun Try.prog 80 [.agg (Dk a0),.agg (Dk a1),.one (Dh a2)] (QN [.one (Dh r)]):=by
 unfold UF at h0
 refine QT 9 72 Try.func80 Z en_80 Z (D6 Z) (fun S w=>?_)
 simp only [Ja]
 refine Q6<|Q0<|Q9 Z Z (D6 Z) (QU Z)<|Q9 Z Z (D6 Z) (QU Z)<|UW Z Z Z<|Q3<|Q4<|Q6<|Q6<|Q0<|UU Z Z Z (QM (a1:Tm) QW Z Z) ?_
 refine Qd h0 (fun x1 hx1 h0=>?_)
 refine Q9 Z Z (D6 Z) (Qp (m96_ok a1 x1 hx1) Z (.cons (.agg (.cons (.d _) (.cons (.d _) (.cons (.d _) (.cons (.d _) (.cons (.d _) .nil)))))) .nil))<|UU Z Z Z (Jj Z)<|Q3<|Q4 ?_
 refine Qg (b:=(!x1)) Z (fun c2=>?_) (fun c2=>?_)
 replace h0:=Qj c2 h0
 refine Q6<|Q0<|UW Z Z Z<|Q3<|Q4<|QB ?_
 have e:=US h0;subst e
 exact QJ (fun _ _ h=>h) Z (Qz Z .nil) (.cons (.one (.d _)) .nil)
 replace h0:=Qk c2 h0
 refine Qn<|Q4<|Q6<|Q6<|Q0<|UU Z Z Z (Q2 Yj Z)<|UU Z Z Z (Q5 QO Z Z Z)<|UU Z Z Z (Q7 Z Z Z)<|Q3<|Q4 ?_
 refine Qg (b:=(a1.kind==3)) Z (fun c3=>?_) (fun c3=>?_)
 replace h0:=Qj c3 h0
 refine Q6<|Q6<|Q0<|UU Z Z Z (Q2 ZF Z)<|UU Z Z Z (Q5 JU Z Z Z) ?_
 refine Qd h0 (fun x4 hx4 h0=>?_)
 refine Q9 Z Z (D6 Z) (Qp (m65_ok a1.name x4 hx4) Z (.cons (.one (.d _)) .nil))<|UU Z Z Z (Jj Z)<|Q3<|Q4 ?_
 refine Qg (b:=(!x4)) Z (fun c5=>?_) (fun c5=>?_)
 replace h0:=Qj c5 h0
 refine Q6<|Q0<|UW Z Z Z<|Q3<|Q4<|QB ?_
 have e:=US h0;subst e
 exact QJ (fun _ _ h=>h) Z (Qz Z .nil) (.cons (.one (.d _)) .nil)
 replace h0:=Qk c5 h0
 refine Qn<|Q4<|Q6<|Q0<|UU Z Z Z (Q2 Z5 Z)<|UU Z Z Z (Q5 GA Z Z Z)<|UU Z Z Z (QA (α:=Lvl) YZ Z (.d _))<|UU Z Z Z (Q7 Z Z Z)<|Q3<|Q4 ?_
 refine Qg (b:=(decide (8 < (a1.levels.length:Int)))) Z (fun c6=>?_) (fun c6=>?_)
 replace h0:=Qj c6 h0
 refine Q6<|Q0<|UW Z Z Z<|Q3<|Q4<|QB ?_
 have e:=US h0;subst e
 exact QJ (fun _ _ h=>h) Z (Qz Z .nil) (.cons (.one (.d _)) .nil)
 replace h0:=Qk c6 h0
 refine Qn<|Q4<|Q6<|Q6<|Q0<|UU Z Z Z (Q2 Z5 Z)<|UU Z Z Z (Q5 GA Z Z Z)<|UU Z Z Z (QA (α:=Lvl) YZ Z (.d _))<|UV Z Z Z<|Q3<|Q4<|Qh ?_
 refine J2 0 (fun (o7:Unit)=>⟨[(2,.v (.one (Dh a2))),(3,.v (.one (.ptr 0 0))),(4,.v (.one (.ptr 1 0)))],[(0,.cells 127 (Dk a0)),(1,.cells 33 (Dk a1))],[],2,72,[]⟩) (fun (o7:Unit)=>(Kj a1 a0 a2)=some r) ?_ ?_
 refine Qd h0 (fun o8 hl1 h0=>?_)
 refine J1 (ZV a1 a0) (fun s1=>⟨[(2,.v (.one (Dh a2))),(3,.v (.one (.ptr 0 0))),(4,.v (.one (.ptr 1 0))),(25,.v (.one (Df a1.levels))),(26,.v (.one (Dh (a1.levels.length:Int)))),(27,.v (.one (Dh s1)))],[(0,.cells 127 (Dk a0)),(1,.cells 33 (Dk a1))],[],2,72,[]⟩) 0 o8 (UR (Nat.zero_le _) Z Z Z Z Z) hl1 (fun s1 n1 oo1 h1 ho1=>?_)
 unfold ZV at h1
 refine Q6<|Q0<|UU Z Z Z (Q7 Z Z Z)<|Q3<|Q4<|Q6 ?_
 refine Qg (b:=(decide (s1 < (a1.levels.length:Int)))) Z (fun c9=>?_) (fun c9=>?_)
 replace h1:=Qj c9 h1
 refine Qn<|Q4<|Q6<|Qh<|Q6<|Q0 ?_
 refine Qd h1 (fun x10 hx10 h1=>?_)
 refine UU Z Z Z (QC (α:=Lvl) YZ Z (.d _) Z hx10)<|UU Z Z Z (Qw (x10:Lvl) ZY Z)<|Q9 Z Z (D6 Z) (Qm WZ Z)<|Qy Z Z (QD (x10:Lvl) ZY Z Z Z Z Z)<|Q3<|Q4<|Q6<|Q0<|UU Z Z Z (QM (a0:Scp) ag_127 Z Z)<|UU Z Z Z (QM (x10:Lvl) ZY Z Z) ?_
 refine Qd h1 (fun x11 hx11 h1=>?_)
 refine Q9 Z Z (D6 Z) (Qp (m97_ok a0 x10 x11 hx11) Z (.cons (.agg (.cons (.d _) (.cons (.d _) (.cons (.d _) (.cons (.d _) .nil))))) (.cons (.agg (.cons (.d _) (.cons (.d _) .nil))) .nil)))<|UW Z Z Z<|Q3<|Q4<|Q6<|Q0<|UV Z Z Z<|UU Z Z Z (Q7 Z Z Z)<|Q3<|Q4 ?_
 refine Qg (b:=(x11 != 0)) Z (fun c12=>?_) (fun c12=>?_)
 replace h1:=Qj c12 h1
 refine Q6<|Q0<|UV Z Z Z<|UW Z Z Z<|Q3<|Q4<|QB ?_
 have e:=US h1;subst e
 have e_:_=_:=ho1
 subst e_
 try dsimp only [Sum.elim_inl,Sum.elim_inr] at h0
 have e:=US h0;subst e
 exact QJ (fun _ _ h=>h) Z (Qz Z .nil) (.cons (.one (.d _)) .nil)
 replace h1:=Qk c12 h1
 refine Qn<|Qf<|Q4<|Q0<|UU Z Z Z (Q7 Z Z Z)<|UV Z Z Z<|Q3 ?_
 have e:=US h1;subst e
 refine QV (J9 (s1+1)) (UR (Nat.zero_le _) Z Z Z Z Z) ho1
 replace h1:=Qk c9 h1
 refine J8<|Qq<|Qq ?_
 have e:=US h1;subst e
 have e_:_=_:=ho1
 subst e_
 exact J0 () (UR (Nat.zero_le _) Z Z Z Z Z) h0
 intro o7 h0
 unfold Kj at h0
 refine QQ<|Q4<|Q6<|Qh<|Q6 ?_
 refine QP (fun (v13:Bool)=>⟨[(3,.v (.one (.ptr 0 0))),(4,.v (.one (.ptr 1 0))),(38,.v (.one (Di v13)))],[(0,.cells 127 (Dk a0)),(1,.cells 33 (Dk a1))],[],2,72,[]⟩) (fun (v13:Bool)=>(cond v13
     (some 24)
     (Option.bind (cond (a1.kind==12)
     (cond (decide (a1.index < 0))
     (some true)
     (some (decide (a0.metas≤a1.index))))
     (some false)) (fun (v15:Bool)=>cond v15
     (some 23)
     (some 0))))=some r) ?_ ?_
 refine Qd h0 (fun w1_ h1 h0=>?_)
 refine Q0<|UU Z Z Z (Q2 Yj Z)<|UU Z Z Z (Q5 QO Z Z Z)<|UU Z Z Z (Q7 Z Z Z)<|UV Z Z Z ?_
 refine QG (d:=42) (c:=(a1.kind==0)) Z (fun c14=>?_) (fun c14=>?_)
 replace h1:=Qj c14 h1
 refine UU Z Z Z (Q2 YV Z)<|UU Z Z Z (Q5 QO Z Z Z)<|UU Z Z Z (Q7 Z Z Z)<|UV Z Z Z ?_
 refine QG (d:=46) (c:=(decide (a1.index < 0))) Z (fun c15=>?_) (fun c15=>?_)
 replace h1:=Qj c15 h1
 refine Q8 Z Z<|Q8 Z Z<|Q8 Z Z<|Q8 Z Z<|Q8 Z Z<|Q8 Z Z<|Q8 Z Z<|UU Z Z Z (Qe Z Z)<|UU Z Z Z (Qe Z Z)<|UW Z Z Z<|Q3 ?_
 have e:=US h1;subst e
 exact Qb true (UR (Nat.zero_le _) Z Z Z Z Z) h0
 replace h1:=Qk c15 h1
 refine UU Z Z Z (Q2 YV Z)<|UU Z Z Z (Q5 QO Z Z Z)<|UV Z Z Z<|UU Z Z Z (Q7 Z Z Z)<|UU Z Z Z (Q2 fo_127_0 Z)<|UU Z Z Z (Q5 QO Z Z Z)<|UU Z Z Z (Q7 Z Z Z)<|UU Z Z Z (Qa Z Z)<|UU Z Z Z (Qe Z Z)<|UW Z Z Z<|Q3 ?_
 have e:=US h1;subst e
 exact Qb (decide (a0.vars≤(J9 (a1.index - a2)))) (UR (Nat.zero_le _) Z Z Z Z Z) h0
 replace h1:=Qk c14 h1
 refine Q8 Z Z<|Q8 Z Z<|Q8 Z Z<|Q8 Z Z<|Q8 Z Z<|Q8 Z Z<|Q8 Z Z<|Q8 Z Z<|Q8 Z Z<|Q8 Z Z<|Q8 Z Z<|Q8 Z Z<|UU Z Z Z (Qa Z Z)<|UW Z Z Z ?_
 refine Q3 ?_
 have e:=US h1;subst e
 exact Qb false (UR (Nat.zero_le _) Z Z Z Z Z) h0
 intro v13 h0
 refine Q4 ?_
 refine Qg (b:=v13) Z (fun c16=>?_) (fun c16=>?_)
 replace h0:=Qj c16 h0
 refine Q6<|Q0<|UW Z Z Z<|Q3<|Q4<|QB ?_
 have e:=US h0;subst e
 exact QJ (fun _ _ h=>h) Z (Qz Z .nil) (.cons (.one (.d _)) .nil)
 replace h0:=Qk c16 h0
 refine Q6 ?_
 refine QP (fun (v17:Bool)=>⟨[(56,.v (.one (Di v17)))],[(0,.cells 127 (Dk a0)),(1,.cells 33 (Dk a1))],[],2,72,[]⟩) (fun (v17:Bool)=>(cond v17
     (some 23)
     (some 0))=some r) ?_ ?_
 refine Qd h0 (fun w1_ h1 h0=>?_)
 refine Q0<|UU Z Z Z (Q2 Yj Z)<|UU Z Z Z (Q5 QO Z Z Z)<|UU Z Z Z (Q7 Z Z Z)<|UV Z Z Z ?_
 refine QG (d:=60) (c:=(a1.kind==12)) Z (fun c18=>?_) (fun c18=>?_)
 replace h1:=Qj c18 h1
 refine UU Z Z Z (Q2 YV Z)<|UU Z Z Z (Q5 QO Z Z Z)<|UU Z Z Z (Q7 Z Z Z)<|UV Z Z Z ?_
 refine QG (d:=64) (c:=(decide (a1.index < 0))) Z (fun c19=>?_) (fun c19=>?_)
 replace h1:=Qj c19 h1
 refine Q8 Z Z<|Q8 Z Z<|Q8 Z Z<|Q8 Z Z<|Q8 Z Z<|UU Z Z Z (Qe Z Z)<|UU Z Z Z (Qe Z Z)<|UW Z Z Z<|Q3 ?_
 have e:=US h1;subst e
 exact Qb true (UR (Nat.zero_le _) Z Z Z Z Z) h0
 replace h1:=Qk c19 h1
 refine UU Z Z Z (Q2 YV Z)<|UU Z Z Z (Q5 QO Z Z Z)<|UU Z Z Z (Q2 fo_127_2 Z)<|UU Z Z Z (Q5 QO Z Z Z)<|UU Z Z Z (Q7 Z Z Z)<|UU Z Z Z (Qa Z Z)<|UU Z Z Z (Qe Z Z)<|UW Z Z Z<|Q3 ?_
 have e:=US h1;subst e
 exact Qb (decide (a0.metas≤a1.index)) (UR (Nat.zero_le _) Z Z Z Z Z) h0
 replace h1:=Qk c18 h1
 refine Q8 Z Z<|Q8 Z Z<|Q8 Z Z<|Q8 Z Z<|Q8 Z Z<|Q8 Z Z<|Q8 Z Z<|Q8 Z Z<|Q8 Z Z<|Q8 Z Z<|UU Z Z Z (Qa Z Z)<|UW Z Z Z<|Q3 ?_
 have e:=US h1;subst e
 exact Qb false (UR (Nat.zero_le _) Z Z Z Z Z) h0
 intro v17 h0
 refine Q4 ?_
 refine Qg (b:=v17) Z (fun c20=>?_) (fun c20=>?_)
 replace h0:=Qj c20 h0
 refine Q6<|Q0<|UW Z Z Z<|Q3<|Q4<|QB ?_
 have e:=US h0;subst e
 exact QJ (fun _ _ h=>h) Z (Qz Z .nil) (.cons (.one (.d _)) .nil)
 replace h0:=Qk c20 h0
 refine Qn<|Qf<|Q4<|Q6<|Q0<|UW Z Z Z<|Q3<|Q4<|QB ?_
 have e:=US h0;subst e
 exact QJ (fun _ _ h=>h) Z (Qz Z .nil) (.cons (.one (.d _)) .nil)
 replace h0:=Qk c3 h0
 refine Qn<|Q4<|Q6<|Q6<|Q0<|UU Z Z Z (Q2 Z5 Z)<|UU Z Z Z (Q5 GA Z Z Z)<|UU Z Z Z (QA (α:=Lvl) YZ Z (.d _))<|UV Z Z Z<|Q3<|Q4<|Qh ?_
 refine J2 0 (fun (o21:Unit)=>⟨[(2,.v (.one (Dh a2))),(3,.v (.one (.ptr 0 0))),(4,.v (.one (.ptr 1 0)))],[(0,.cells 127 (Dk a0)),(1,.cells 33 (Dk a1))],[],2,72,[]⟩) (fun (o21:Unit)=>(Kj a1 a0 a2)=some r) ?_ ?_
 refine Qd h0 (fun o22 hl1 h0=>?_)
 refine J1 (ZV a1 a0) (fun s1=>⟨[(2,.v (.one (Dh a2))),(3,.v (.one (.ptr 0 0))),(4,.v (.one (.ptr 1 0))),(25,.v (.one (Df a1.levels))),(26,.v (.one (Dh (a1.levels.length:Int)))),(27,.v (.one (Dh s1)))],[(0,.cells 127 (Dk a0)),(1,.cells 33 (Dk a1))],[],2,72,[]⟩) 0 o22 (UR (Nat.zero_le _) Z Z Z Z Z) hl1 (fun s1 n1 oo1 h1 ho1=>?_)
 unfold ZV at h1
 refine Q6<|Q0<|UU Z Z Z (Q7 Z Z Z)<|Q3<|Q4<|Q6 ?_
 refine Qg (b:=(decide (s1 < (a1.levels.length:Int)))) Z (fun c23=>?_) (fun c23=>?_)
 replace h1:=Qj c23 h1
 refine Qn<|Q4<|Q6<|Qh<|Q6<|Q0 ?_
 refine Qd h1 (fun x24 hx24 h1=>?_)
 refine UU Z Z Z (QC (α:=Lvl) YZ Z (.d _) Z hx24)<|UU Z Z Z (Qw (x24:Lvl) ZY Z)<|Q9 Z Z (D6 Z) (Qm WZ Z)<|Qy Z Z (QD (x24:Lvl) ZY Z Z Z Z Z)<|Q3<|Q4<|Q6<|Q0<|UU Z Z Z (QM (a0:Scp) ag_127 Z Z)<|UU Z Z Z (QM (x24:Lvl) ZY Z Z) ?_
 refine Qd h1 (fun x25 hx25 h1=>?_)
 refine Q9 Z Z (D6 Z) (Qp (m97_ok a0 x24 x25 hx25) Z (.cons (.agg (.cons (.d _) (.cons (.d _) (.cons (.d _) (.cons (.d _) .nil))))) (.cons (.agg (.cons (.d _) (.cons (.d _) .nil))) .nil)))<|UW Z Z Z<|Q3<|Q4<|Q6<|Q0<|UV Z Z Z<|UU Z Z Z (Q7 Z Z Z)<|Q3<|Q4 ?_
 refine Qg (b:=(x25 != 0)) Z (fun c26=>?_) (fun c26=>?_)
 replace h1:=Qj c26 h1
 refine Q6<|Q0<|UV Z Z Z<|UW Z Z Z<|Q3<|Q4<|QB ?_
 have e:=US h1;subst e
 have e_:_=_:=ho1
 subst e_
 try dsimp only [Sum.elim_inl,Sum.elim_inr] at h0
 have e:=US h0;subst e
 exact QJ (fun _ _ h=>h) Z (Qz Z .nil) (.cons (.one (.d _)) .nil)
 replace h1:=Qk c26 h1
 refine Qn<|Qf<|Q4<|Q0<|UU Z Z Z (Q7 Z Z Z)<|UV Z Z Z<|Q3 ?_
 have e:=US h1;subst e
 refine QV (J9 (s1+1)) (UR (Nat.zero_le _) Z Z Z Z Z) ho1
 replace h1:=Qk c23 h1
 refine J8<|Qq<|Qq ?_
 have e:=US h1;subst e
 have e_:_=_:=ho1
 subst e_
 exact J0 () (UR (Nat.zero_le _) Z Z Z Z Z) h0
 intro o21 h0
 unfold Kj at h0
 refine QQ<|Q4<|Q6<|Qh<|Q6 ?_
 refine QP (fun (v27:Bool)=>⟨[(3,.v (.one (.ptr 0 0))),(4,.v (.one (.ptr 1 0))),(38,.v (.one (Di v27)))],[(0,.cells 127 (Dk a0)),(1,.cells 33 (Dk a1))],[],2,72,[]⟩) (fun (v27:Bool)=>(cond v27
     (some 24)
     (Option.bind (cond (a1.kind==12)
     (cond (decide (a1.index < 0))
     (some true)
     (some (decide (a0.metas≤a1.index))))
     (some false)) (fun (v29:Bool)=>cond v29
     (some 23)
     (some 0))))=some r) ?_ ?_
 refine Qd h0 (fun w1_ h1 h0=>?_)
 refine Q0<|UU Z Z Z (Q2 Yj Z)<|UU Z Z Z (Q5 QO Z Z Z)<|UU Z Z Z (Q7 Z Z Z)<|UV Z Z Z ?_
 refine QG (d:=42) (c:=(a1.kind==0)) Z (fun c28=>?_) (fun c28=>?_)
 replace h1:=Qj c28 h1
 refine UU Z Z Z (Q2 YV Z)<|UU Z Z Z (Q5 QO Z Z Z)<|UU Z Z Z (Q7 Z Z Z)<|UV Z Z Z ?_
 refine QG (d:=46) (c:=(decide (a1.index < 0))) Z (fun c29=>?_) (fun c29=>?_)
 replace h1:=Qj c29 h1
 refine Q8 Z Z<|Q8 Z Z<|Q8 Z Z<|Q8 Z Z<|Q8 Z Z<|Q8 Z Z<|Q8 Z Z<|UU Z Z Z (Qe Z Z)<|UU Z Z Z (Qe Z Z)<|UW Z Z Z<|Q3 ?_
 have e:=US h1;subst e
 exact Qb true (UR (Nat.zero_le _) Z Z Z Z Z) h0
 replace h1:=Qk c29 h1
 refine UU Z Z Z (Q2 YV Z)<|UU Z Z Z (Q5 QO Z Z Z)<|UV Z Z Z<|UU Z Z Z (Q7 Z Z Z)<|UU Z Z Z (Q2 fo_127_0 Z)<|UU Z Z Z (Q5 QO Z Z Z)<|UU Z Z Z (Q7 Z Z Z)<|UU Z Z Z (Qa Z Z)<|UU Z Z Z (Qe Z Z)<|UW Z Z Z<|Q3 ?_
 have e:=US h1;subst e
 exact Qb (decide (a0.vars≤(J9 (a1.index - a2)))) (UR (Nat.zero_le _) Z Z Z Z Z) h0
 replace h1:=Qk c28 h1
 refine Q8 Z Z<|Q8 Z Z<|Q8 Z Z<|Q8 Z Z<|Q8 Z Z<|Q8 Z Z<|Q8 Z Z<|Q8 Z Z<|Q8 Z Z<|Q8 Z Z<|Q8 Z Z<|Q8 Z Z<|UU Z Z Z (Qa Z Z)<|UW Z Z Z ?_
 refine Q3 ?_
 have e:=US h1;subst e
 exact Qb false (UR (Nat.zero_le _) Z Z Z Z Z) h0
 intro v27 h0
 refine Q4 ?_
 refine Qg (b:=v27) Z (fun c30=>?_) (fun c30=>?_)
 replace h0:=Qj c30 h0
 refine Q6<|Q0<|UW Z Z Z<|Q3<|Q4<|QB ?_
 have e:=US h0;subst e
 exact QJ (fun _ _ h=>h) Z (Qz Z .nil) (.cons (.one (.d _)) .nil)
 replace h0:=Qk c30 h0
 refine Q6 ?_
 refine QP (fun (v31:Bool)=>⟨[(56,.v (.one (Di v31)))],[(0,.cells 127 (Dk a0)),(1,.cells 33 (Dk a1))],[],2,72,[]⟩) (fun (v31:Bool)=>(cond v31
     (some 23)
     (some 0))=some r) ?_ ?_
 refine Qd h0 (fun w1_ h1 h0=>?_)
 refine Q0<|UU Z Z Z (Q2 Yj Z)<|UU Z Z Z (Q5 QO Z Z Z)<|UU Z Z Z (Q7 Z Z Z)<|UV Z Z Z ?_
 refine QG (d:=60) (c:=(a1.kind==12)) Z (fun c32=>?_) (fun c32=>?_)
 replace h1:=Qj c32 h1
 refine UU Z Z Z (Q2 YV Z)<|UU Z Z Z (Q5 QO Z Z Z)<|UU Z Z Z (Q7 Z Z Z)<|UV Z Z Z ?_
 refine QG (d:=64) (c:=(decide (a1.index < 0))) Z (fun c33=>?_) (fun c33=>?_)
 replace h1:=Qj c33 h1
 refine Q8 Z Z<|Q8 Z Z<|Q8 Z Z<|Q8 Z Z<|Q8 Z Z<|UU Z Z Z (Qe Z Z)<|UU Z Z Z (Qe Z Z)<|UW Z Z Z<|Q3 ?_
 have e:=US h1;subst e
 exact Qb true (UR (Nat.zero_le _) Z Z Z Z Z) h0
 replace h1:=Qk c33 h1
 refine UU Z Z Z (Q2 YV Z)<|UU Z Z Z (Q5 QO Z Z Z)<|UU Z Z Z (Q2 fo_127_2 Z)<|UU Z Z Z (Q5 QO Z Z Z)<|UU Z Z Z (Q7 Z Z Z)<|UU Z Z Z (Qa Z Z)<|UU Z Z Z (Qe Z Z)<|UW Z Z Z<|Q3 ?_
 have e:=US h1;subst e
 exact Qb (decide (a0.metas≤a1.index)) (UR (Nat.zero_le _) Z Z Z Z Z) h0
 replace h1:=Qk c32 h1
 refine Q8 Z Z<|Q8 Z Z<|Q8 Z Z<|Q8 Z Z<|Q8 Z Z<|Q8 Z Z<|Q8 Z Z<|Q8 Z Z<|Q8 Z Z<|Q8 Z Z<|UU Z Z Z (Qa Z Z)<|UW Z Z Z<|Q3 ?_
 have e:=US h1;subst e
 exact Qb false (UR (Nat.zero_le _) Z Z Z Z Z) h0
 intro v31 h0
 refine Q4 ?_
 refine Qg (b:=v31) Z (fun c34=>?_) (fun c34=>?_)
 replace h0:=Qj c34 h0
 refine Q6<|Q0<|UW Z Z Z<|Q3<|Q4<|QB ?_
 have e:=US h0;subst e
 exact QJ (fun _ _ h=>h) Z (Qz Z .nil) (.cons (.one (.d _)) .nil)
 replace h0:=Qk c34 h0
 refine Qn<|Qf<|Q4<|Q6<|Q0<|UW Z Z Z<|Q3<|Q4<|QB ?_
 have e:=US h0;subst e
 exact QJ (fun _ _ h=>h) Z (Qz Z .nil) (.cons (.one (.d _)) .nil)
end Go.Proofs.Ytafddfoefeploaa
namespace Go.Proofs.Ytafddfoefeploaa
open Go.RowKit Go.Shelf
theorem z_127:Jz Try.prog 127=some [.int .i64 0,.int .i64 0,.int .i64 0,.int .i64 0]:=by kernel_rfl
theorem bd_127:Y0 Try.prog 127 [(0,1),(1,1),(2,1),(3,1)] [.int .i64 0,.int .i64 0,.int .i64 0,.int .i64 0]:=⟨by kernel_rfl,by kernel_rfl⟩
theorem en_66:J3 Try.prog 66:=enters_of Try.func66 (by kernel_rfl) rfl
noncomputable def Zk:Code:=(Dm (Dm (Dl (Dm (Dl (Dl (Dl (Gx Try.f66))))))))
noncomputable def YQ:Code:=(Dl (Dm (Dl (Dm (Dl (Dl (Dl (Gx Try.f66))))))))
def m91f3_k0 (p0_:Tm×Int×Tm×Int×Scp×Int×Tm→Option ((Int×Int)⊕(Bool×Int))) (p1_:Tm) (p2_:Int) (p3_:Tm) (p4_:Int) (p5_:Scp) (p6_:Int×Int) (p7_:Tm):Option (LO (Int×Int) (Int⊕((Int×Int)⊕(Bool×Int)))) :=
 Option.bind (p0_ (p1_,p2_,p3_,p4_,p5_,p6_.2,p7_)) (Sum.elim (fun (b0_:Int×Int)=>some (.done (.inr (.inl (b0_.1,b0_.2))))) (fun (b1_:Bool×Int)=>cond (!b1_.1)
   (some (.done (.inr (.inr (false,b1_.2)))))
   (some (.next ((J9 (p6_.1+1)),b1_.2)))))
def ZG (a0:Tm) (v9:Int) (a1:Int) (rc:Tm×Int×Tm×Int×Scp×Int×Tm→Option ((Int×Int)⊕(Bool×Int))) (a2:Tm) (a3:Int) (a4:Scp) (a6:Tm) (s1:Int×Int):Option (LO (Int×Int) (Int⊕((Int×Int)⊕(Bool×Int)))) :=
 cond (decide (s1.1 < (a0.kids.length:Int)))
   (Option.bind (JC a0.kids s1.1) fun (x12:Tm) =>
 Option.bind (cond (s1.1==v9)
   (some (J9 (a1+1)))
   (some a1)) (fun (v13:Int)=>m91f3_k0 rc x12 v13 a2 a3 a4 s1 a6))
   (some (.done (.inl s1.2)))
def G0 (p0_:Bool) (p1_:Tm) (p2_:Int) (p3_:Tm×Int×Tm×Int×Scp×Int×Tm→Option ((Int×Int)⊕(Bool×Int))) (p4_:Tm) (p5_:Int) (p6_:Scp) (p7_:Tm) (p8_:Int):Option ((Int×Int)⊕(Bool×Int)) :=
 Option.bind (cond p0_
   (Jl (cond (decide (0≤p1_.kind)) (Nat.blt p1_.kind.toNat 13) false)
 (Option.bind (JC ([(-1),(-1),(-1),(-1),(-1),1,1,1,(-1),(-1),(-1),2,(-1)]:List Int) p1_.kind) fun (b0_:Int) =>
 some b0_))
   (some (-1))) (fun (b1_:Int)=>Option.bind (Qr (ZG p1_ b1_ p2_ p3_ p4_ p5_ p6_ p7_) QI (0,(J9 (p8_+1)))) (Sum.elim (fun (b2_:Int)=>some (.inr (true,b2_))) (fun o=>some o)))
noncomputable abbrev Jw :HB :=
 .loop .ready none [(5,.v (.one (.ptr 3 0))),(10,.v (.one (.ptr 4 0))),(11,.v (.one (.ptr 5 0))),(12,.v (.one (.ptr 6 0))),(26,.v (.one (.fn 89 [(7,0)])))] 45 #[27,28] Zk YQ 2
noncomputable abbrev QX :HB :=
 .cells 135 [Di true,Di false,Dh 0,Dh 0,Dh (-1),Di false,Di false,Dh 0,Dh 0,Dh (-1),Di false,Di false,Dh 1,Dh 0,Dh (-1),Di false,Di true,Dh (-1),Dh 0,Dh (-1),Di false,Di false,Dh 0,Dh 2,Dh (-1),Di false,Di false,Dh 0,Dh 2,Dh 1,Di false,Di false,Dh 0,Dh 2,Dh 1,Di false,Di false,Dh 0,Dh 2,Dh 1,Di false,Di false,Dh 0,Dh 3,Dh (-1),Di false,Di false,Dh 0,Dh 1,Dh (-1),Di false,Di false,Dh 0,Dh 1,Dh (-1),Di false,Di false,Dh 0,Dh 3,Dh 2,Di true,Di false,Dh 0,Dh 0,Dh (-1)]
noncomputable abbrev m91f3_h2 (p0_:Tm) (p1_:Int) (p2_:Scp) (p3_:Int) (p4_:Tm) (p5_:Tm):List (Nat×HB) :=
 [(0,.cells 132 [.yld 1]),(1,Jw),(2,.obj (.deferred (some []))),(3,.cells 33 (Dk p0_)),(4,.cells 25 [Dh p1_]),(5,.cells 127 (Dk p2_)),(6,.cells 3 [Dh p3_]),(7,.cells 33 (Dk p4_)),(8,QX),(9,.cells 137 [.fn 91 [(0,0),(8,0),(9,0)]]),(10,.cells 33 (Dk p5_))]
noncomputable abbrev G1 :HB :=
 .loop .busy none [(5,.v (.one (.ptr 3 0))),(10,.v (.one (.ptr 4 0))),(11,.v (.one (.ptr 5 0))),(12,.v (.one (.ptr 6 0))),(26,.v (.one (.fn 89 [(7,0)])))] 45 #[27,28] Zk YQ 2
noncomputable abbrev m91f3_h4 (p0_:Tm) (p1_:Int) (p2_:Scp) (p3_:Int) (p4_:Tm) (p5_:Tm):List (Nat×HB) :=
 [(0,.cells 132 [.yld 1]),(1,G1),(2,.obj (.deferred (some []))),(3,.cells 33 (Dk p0_)),(4,.cells 25 [Dh p1_]),(5,.cells 127 (Dk p2_)),(6,.cells 3 [Dh p3_]),(7,.cells 33 (Dk p4_)),(8,QX),(9,.cells 137 [.fn 91 [(0,0),(8,0),(9,0)]]),(10,.cells 33 (Dk p5_)),(11,.cells 33 (Dk p5_))]
noncomputable abbrev m91f3_h5 (p0_:Tm) (p1_:Int) (p2_:Scp) (p3_:Int) (p4_:Tm) (p5_:Tm):List (Nat×HB) :=
 [(0,.cells 132 [.yld 1]),(1,Jw),(2,.obj (.deferred (some []))),(3,.cells 33 (Dk p0_)),(4,.cells 25 [Dh p1_]),(5,.cells 127 (Dk p2_)),(6,.cells 3 [Dh p3_]),(7,.cells 33 (Dk p4_)),(8,QX),(9,.cells 137 [.fn 91 [(0,0),(8,0),(9,0)]]),(10,.cells 33 (Dk p5_)),(11,.cells 33 (Dk p5_))]
noncomputable abbrev m91f3_h6 (p0_:Tm) (p1_:Int) (p2_:Scp) (p3_:Int) (p4_:Tm) (p5_:Tm):List (Nat×HB) :=
 [(0,.cells 132 [.yld 1]),(1,G1),(2,.obj (.deferred (some []))),(3,.cells 33 (Dk p0_)),(4,.cells 25 [Dh p1_]),(5,.cells 127 (Dk p2_)),(6,.cells 3 [Dh p3_]),(7,.cells 33 (Dk p4_)),(8,QX),(9,.cells 137 [.fn 91 [(0,0),(8,0),(9,0)]]),(10,.cells 33 (Dk p5_))]
noncomputable abbrev m91f3_h7 (p0_:Tm) (p1_:Int) (p2_:Scp) (p3_:Int×Int) (p4_:Tm) (p5_:Tm) (p6_:Tm):List (Nat×HB) :=
 [(0,.cells 132 [.yld 1]),(1,Jw),(2,.obj (.deferred (some []))),(3,.cells 33 (Dk p0_)),(4,.cells 25 [Dh p1_]),(5,.cells 127 (Dk p2_)),(6,.cells 3 [Dh p3_.2]),(7,.cells 33 (Dk p4_)),(8,QX),(9,.cells 137 [.fn 91 [(0,0),(8,0),(9,0)]]),(10,.cells 33 (Dk p5_)),(12,.cells 33 (Dk p6_))]
noncomputable abbrev JQ :HB :=
 .loop .done (some .ret) [(5,.v (.one (.ptr 3 0))),(10,.v (.one (.ptr 4 0))),(11,.v (.one (.ptr 5 0))),(12,.v (.one (.ptr 6 0))),(26,.v (.one (.fn 89 [(7,0)])))] 45 #[27,28] Zk YQ 2
noncomputable abbrev m91f3_h9 (p0_:Tm) (p1_:Int×Int) (p2_:Scp) (p3_:Tm):List (Nat×HB) :=
 [(0,.cells 132 [.yld 1]),(1,JQ),(2,.obj (.deferred (some []))),(3,.cells 33 (Dk p0_)),(4,.cells 25 [Dh p1_.1]),(5,.cells 127 (Dk p2_)),(6,.cells 3 [Dh p1_.2]),(7,.cells 33 (Dk p3_)),(8,QX),(9,.cells 137 [.fn 91 [(0,0),(8,0),(9,0)]])]
noncomputable abbrev m91f3_h10 (p0_:Tm) (p1_:Int) (p2_:Scp) (p3_:Bool×Int) (p4_:Tm):List (Nat×HB) :=
 [(0,.cells 132 [.yld 1]),(1,Jw),(2,.obj (.deferred (some []))),(3,.cells 33 (Dk p0_)),(4,.cells 25 [Dh p1_]),(5,.cells 127 (Dk p2_)),(6,.cells 3 [Dh p3_.2]),(7,.cells 33 (Dk p4_)),(8,QX),(9,.cells 137 [.fn 91 [(0,0),(8,0),(9,0)]])]
noncomputable abbrev K7 (p0_:Tm) (p1_:Int) (p2_:Scp) (p3_:Int) (p4_:Tm):List (Nat×HB) :=
 [(0,.cells 132 [.yld 1]),(1,Jw),(2,.obj (.deferred (some []))),(3,.cells 33 (Dk p0_)),(4,.cells 25 [Dh p1_]),(5,.cells 127 (Dk p2_)),(6,.cells 3 [Dh p3_]),(7,.cells 33 (Dk p4_)),(8,QX),(9,.cells 137 [.fn 91 [(0,0),(8,0),(9,0)]])]
noncomputable abbrev m91f3_h12 (p0_:Tm) (p1_:Int) (p2_:Scp) (p3_:Int) (p4_:Tm):List (Nat×HB) :=
 [(0,.cells 132 [.yld 1]),(1,JQ),(2,.obj (.deferred (some []))),(3,.cells 33 (Dk p0_)),(4,.cells 25 [Dh p1_]),(5,.cells 127 (Dk p2_)),(6,.cells 3 [Dh p3_]),(7,.cells 33 (Dk p4_)),(8,QX),(9,.cells 137 [.fn 91 [(0,0),(8,0),(9,0)]])]
def XJ (rc:Tm×Int×Tm×Int×Scp×Int×Tm→Option ((Int×Int)⊕(Bool×Int))) (a0:Tm) (a1:Int) (a2:Tm) (a3:Int) (a4:Scp) (a5:Int) (a6:Tm):Option ((Int×Int)⊕(Bool×Int)) :=
 Option.bind (Option.bind (UF a4 a0 a1) fun (x6:Int) =>
 cond (x6 != 0)
   (some (.inr x6))
   (some (.inl ()))) (Sum.elim (fun (y1:Unit)=>Option.bind (cond (decide (0≤a0.kind))
   (some (decide (a0.kind < 13)))
   (some false)) (fun (v8:Bool)=>G0 v8 a0 a1 rc a2 a3 a4 a6 a5)) (fun (y2:Int)=>some (.inl (y2,a5))))
def Ki (rc:Tm×Int×Tm×Int×Scp×Int×Tm→Option ((Int×Int)⊕(Bool×Int))) (u:Tm×Int×Tm×Int×Scp×Int×Tm):Option ((Int×Int)⊕(Bool×Int)):=XJ rc u.1 u.2.1 u.2.2.1 u.2.2.2.1 u.2.2.2.2.1 u.2.2.2.2.2.1 u.2.2.2.2.2.2
def m91f3 (a0:Tm) (a1:Int) (a2:Tm) (a3:Int) (a4:Scp) (a5:Int) (a6:Tm):Option ((Int×Int)⊕(Bool×Int)):=JA Ki QI (a0,a1,a2,a3,a4,a5,a6)
theorem m91f3s_ok (rc:Tm×Int×Tm×Int×Scp×Int×Tm→Option ((Int×Int)⊕(Bool×Int))) (H:∀ (a0:Tm) (a1:Int) (a2:Tm) (a3:Int) (a4:Scp) (a5:Int) (a6:Tm) (r:(Int×Int)⊕(Bool×Int)),rc (a0,a1,a2,a3,a4,a5,a6)=some r→CallE Try.prog 91 [.agg (Dk a0),.one (Dh a1),.one (.ptr 0 0),.one (.ptr 8 0),.one (.ptr 9 0)] ⟨K7 a2 a3 a4 a5 a6,[],10⟩ ((Sum.elim (fun (r0:Int×Int)=>((.ret [.one (Di false)]):EK)) (fun (r1:Bool×Int)=>((.ret [.one (Di r1.1)]):EK))) r) ⟨((Sum.elim (fun (r0:Int×Int)=>(⟨[(7,.v (.one (Di false)))],[(0,.cells 132 [.yld 1]),(1,JQ),(2,.obj (.deferred (some []))),(3,.cells 33 (Dk a2)),(4,.cells 25 [Dh r0.1]),(5,.cells 127 (Dk a4)),(6,.cells 3 [Dh r0.2]),(7,.cells 33 (Dk a6)),(8,QX),(9,.cells 137 [.fn 91 [(0,0),(8,0),(9,0)]])],[],12,50,[]⟩:St)) (fun (r1:Bool×Int)=>(⟨[(7,.v (.one (Di r1.1)))],[(0,.cells 132 [.yld 1]),(1,Jw),(2,.obj (.deferred (some []))),(3,.cells 33 (Dk a2)),(4,.cells 25 [Dh a3]),(5,.cells 127 (Dk a4)),(6,.cells 3 [Dh r1.2]),(7,.cells 33 (Dk a6)),(8,QX),(9,.cells 137 [.fn 91 [(0,0),(8,0),(9,0)]])],[],12,50,[]⟩:St))) r).hp,((Sum.elim (fun (r0:Int×Int)=>(⟨[(7,.v (.one (Di false)))],[(0,.cells 132 [.yld 1]),(1,JQ),(2,.obj (.deferred (some []))),(3,.cells 33 (Dk a2)),(4,.cells 25 [Dh r0.1]),(5,.cells 127 (Dk a4)),(6,.cells 3 [Dh r0.2]),(7,.cells 33 (Dk a6)),(8,QX),(9,.cells 137 [.fn 91 [(0,0),(8,0),(9,0)]])],[],12,50,[]⟩:St)) (fun (r1:Bool×Int)=>(⟨[(7,.v (.one (Di r1.1)))],[(0,.cells 132 [.yld 1]),(1,Jw),(2,.obj (.deferred (some []))),(3,.cells 33 (Dk a2)),(4,.cells 25 [Dh a3]),(5,.cells 127 (Dk a4)),(6,.cells 3 [Dh r1.2]),(7,.cells 33 (Dk a6)),(8,QX),(9,.cells 137 [.fn 91 [(0,0),(8,0),(9,0)]])],[],12,50,[]⟩:St))) r).tk,((Sum.elim (fun (r0:Int×Int)=>(⟨[(7,.v (.one (Di false)))],[(0,.cells 132 [.yld 1]),(1,JQ),(2,.obj (.deferred (some []))),(3,.cells 33 (Dk a2)),(4,.cells 25 [Dh r0.1]),(5,.cells 127 (Dk a4)),(6,.cells 3 [Dh r0.2]),(7,.cells 33 (Dk a6)),(8,QX),(9,.cells 137 [.fn 91 [(0,0),(8,0),(9,0)]])],[],12,50,[]⟩:St)) (fun (r1:Bool×Int)=>(⟨[(7,.v (.one (Di r1.1)))],[(0,.cells 132 [.yld 1]),(1,Jw),(2,.obj (.deferred (some []))),(3,.cells 33 (Dk a2)),(4,.cells 25 [Dh a3]),(5,.cells 127 (Dk a4)),(6,.cells 3 [Dh r1.2]),(7,.cells 33 (Dk a6)),(8,QX),(9,.cells 137 [.fn 91 [(0,0),(8,0),(9,0)]])],[],12,50,[]⟩:St))) r).nx⟩) (a0:Tm) (a1:Int) (a2:Tm) (a3:Int) (a4:Scp) (a5:Int) (a6:Tm) (r:(Int×Int)⊕(Bool×Int)) (h0:XJ rc a0 a1 a2 a3 a4 a5 a6=some r):CallE Try.prog 91 [.agg (Dk a0),.one (Dh a1),.one (.ptr 0 0),.one (.ptr 8 0),.one (.ptr 9 0)] ⟨K7 a2 a3 a4 a5 a6,[],10⟩ ((Sum.elim (fun (r0:Int×Int)=>((.ret [.one (Di false)]):EK)) (fun (r1:Bool×Int)=>((.ret [.one (Di r1.1)]):EK))) r) ⟨((Sum.elim (fun (r0:Int×Int)=>(⟨[(7,.v (.one (Di false)))],[(0,.cells 132 [.yld 1]),(1,JQ),(2,.obj (.deferred (some []))),(3,.cells 33 (Dk a2)),(4,.cells 25 [Dh r0.1]),(5,.cells 127 (Dk a4)),(6,.cells 3 [Dh r0.2]),(7,.cells 33 (Dk a6)),(8,QX),(9,.cells 137 [.fn 91 [(0,0),(8,0),(9,0)]])],[],12,50,[]⟩:St)) (fun (r1:Bool×Int)=>(⟨[(7,.v (.one (Di r1.1)))],[(0,.cells 132 [.yld 1]),(1,Jw),(2,.obj (.deferred (some []))),(3,.cells 33 (Dk a2)),(4,.cells 25 [Dh a3]),(5,.cells 127 (Dk a4)),(6,.cells 3 [Dh r1.2]),(7,.cells 33 (Dk a6)),(8,QX),(9,.cells 137 [.fn 91 [(0,0),(8,0),(9,0)]])],[],12,50,[]⟩:St))) r).hp,((Sum.elim (fun (r0:Int×Int)=>(⟨[(7,.v (.one (Di false)))],[(0,.cells 132 [.yld 1]),(1,JQ),(2,.obj (.deferred (some []))),(3,.cells 33 (Dk a2)),(4,.cells 25 [Dh r0.1]),(5,.cells 127 (Dk a4)),(6,.cells 3 [Dh r0.2]),(7,.cells 33 (Dk a6)),(8,QX),(9,.cells 137 [.fn 91 [(0,0),(8,0),(9,0)]])],[],12,50,[]⟩:St)) (fun (r1:Bool×Int)=>(⟨[(7,.v (.one (Di r1.1)))],[(0,.cells 132 [.yld 1]),(1,Jw),(2,.obj (.deferred (some []))),(3,.cells 33 (Dk a2)),(4,.cells 25 [Dh a3]),(5,.cells 127 (Dk a4)),(6,.cells 3 [Dh r1.2]),(7,.cells 33 (Dk a6)),(8,QX),(9,.cells 137 [.fn 91 [(0,0),(8,0),(9,0)]])],[],12,50,[]⟩:St))) r).tk,((Sum.elim (fun (r0:Int×Int)=>(⟨[(7,.v (.one (Di false)))],[(0,.cells 132 [.yld 1]),(1,JQ),(2,.obj (.deferred (some []))),(3,.cells 33 (Dk a2)),(4,.cells 25 [Dh r0.1]),(5,.cells 127 (Dk a4)),(6,.cells 3 [Dh r0.2]),(7,.cells 33 (Dk a6)),(8,QX),(9,.cells 137 [.fn 91 [(0,0),(8,0),(9,0)]])],[],12,50,[]⟩:St)) (fun (r1:Bool×Int)=>(⟨[(7,.v (.one (Di r1.1)))],[(0,.cells 132 [.yld 1]),(1,Jw),(2,.obj (.deferred (some []))),(3,.cells 33 (Dk a2)),(4,.cells 25 [Dh a3]),(5,.cells 127 (Dk a4)),(6,.cells 3 [Dh r1.2]),(7,.cells 33 (Dk a6)),(8,QX),(9,.cells 137 [.fn 91 [(0,0),(8,0),(9,0)]])],[],12,50,[]⟩:St))) r).nx⟩:=by
 unfold XJ at h0
 refine Jy r ((Sum.elim (fun (r0:Int×Int)=>(⟨[(7,.v (.one (Di false)))],[(0,.cells 132 [.yld 1]),(1,JQ),(2,.obj (.deferred (some []))),(3,.cells 33 (Dk a2)),(4,.cells 25 [Dh r0.1]),(5,.cells 127 (Dk a4)),(6,.cells 3 [Dh r0.2]),(7,.cells 33 (Dk a6)),(8,QX),(9,.cells 137 [.fn 91 [(0,0),(8,0),(9,0)]])],[],12,50,[]⟩:St)) (fun (r1:Bool×Int)=>(⟨[(7,.v (.one (Di r1.1)))],[(0,.cells 132 [.yld 1]),(1,Jw),(2,.obj (.deferred (some []))),(3,.cells 33 (Dk a2)),(4,.cells 25 [Dh a3]),(5,.cells 127 (Dk a4)),(6,.cells 3 [Dh r1.2]),(7,.cells 33 (Dk a6)),(8,QX),(9,.cells 137 [.fn 91 [(0,0),(8,0),(9,0)]])],[],12,50,[]⟩:St)))) ((Sum.elim (fun (r0:Int×Int)=>((.ret [.one (Di false)]):EK)) (fun (r1:Bool×Int)=>((.ret [.one (Di r1.1)]):EK)))) rfl rfl en_91 (D6 rfl) (fun z_=>by cases z_ with
 | inl _=>exact rfl
 | inr _=>exact rfl) (fun z_=>by cases z_ with
 | inl _=>exact (WU (Qz rfl .nil))
 | inr _=>exact (WU (Qz rfl .nil))) (fun w0 M V0 Q hv0 hQ0=>?_)
 simp only [Ja]
 refine Q6<|Q0<|Q9 Z Z (D6 Z) (QU Z)<|UW Z Z Z<|Q3<|Q4<|Q6<|Q6<|Q0<|UU Z Z Z (Q5 ag_132 Z Z Z)<|UV Z Z Z<|UU Z Z Z (QM (a0:Tm) QW Z Z) ?_
 refine Qd h0 (fun y3 h1 h0=>?_)
 have ha4:ExecOK Try.prog (some 1) Zk ⟨[(5,.v (.one (.ptr 3 0))),(10,.v (.one (.ptr 4 0))),(11,.v (.one (.ptr 5 0))),(12,.v (.one (.ptr 6 0))),(26,.v (.one (.fn 89 [(7,0)]))),(27,.v (.one (Dh a1))),(28,.v (.agg (Dk a0)))],m91f3_h2 a2 a3 a4 a5 a6 a0,[],11,45,[]⟩ .normal ⟨[(10,.v (.one (.ptr 4 0))),(11,.v (.one (.ptr 5 0))),(12,.v (.one (.ptr 6 0))),(13,.v (.one (Dh a1))),(14,.v (.one (.ptr 11 0)))],m91f3_h5 a2 a3 a4 a5 a6 a0,[],12,45,[]⟩:=by
  refine QK (fun w0 M V0 ro n Q hv1 hro1 hQn1=>?_)
  refine Q6<|Q0<|UW Z Z Z<|Q3<|Q4<|Q0<|Q9 Z Z (D6 Z) (Qm KV Z)<|Qy Z Z (QD (a0:Tm) QW Z Z Z Z Z)<|Q3 ?_
  exact Ju hQn1 (UR (Nat.le_trans hv1 (D6 Z)) Z Z Z Z Z)
 have hb5:ExecOK Try.prog (some 1) YQ ⟨[(10,.v (.one (.ptr 4 0))),(11,.v (.one (.ptr 5 0))),(12,.v (.one (.ptr 6 0))),(13,.v (.one (Dh a1))),(14,.v (.one (.ptr 11 0)))],m91f3_h4 a2 a3 a4 a5 a6 a0,[],12,45,[]⟩ ((Sum.elim (fun (_:Unit)=>(.normal:Exit)) (fun (_:Int)=>(.ret:Exit))) y3) ((Sum.elim (fun (y1:Unit)=>(⟨[],[(0,.cells 132 [.yld 1]),(1,G1),(2,.obj (.deferred (some []))),(3,.cells 33 (Dk a2)),(4,.cells 25 [Dh a3]),(5,.cells 127 (Dk a4)),(6,.cells 3 [Dh (J9 (a5+1))]),(7,.cells 33 (Dk a6)),(8,QX),(9,.cells 137 [.fn 91 [(0,0),(8,0),(9,0)]]),(10,.cells 33 (Dk a0))],[],12,45,[]⟩:St)) (fun (y2:Int)=>(⟨[],m91f3_h6 a2 y2 a4 a5 a6 a0,[],12,45,[]⟩:St))) y3):=by
  refine QK (fun w0 M V0 ro n Q hv1 hro1 hQn1=>?_)
  refine Qh<|Q6<|Q6<|Q0<|UU Z Z Z (QM (a4:Scp) ag_127 Z Z)<|UU Z Z Z (QM (a0:Tm) QW Z Z)<|UV Z Z Z ?_
  refine Qd h1 (fun x6 hx6 h1=>?_)
  refine Q9 Z Z (D6 Z) (Qp (m80_ok a4 a0 a1 x6 hx6) Z (.cons (.agg (.cons (.d _) (.cons (.d _) (.cons (.d _) (.cons (.d _) .nil))))) (.cons (.agg (.cons (.d _) (.cons (.d _) (.cons (.d _) (.cons (.d _) (.cons (.d _) .nil)))))) (.cons (.one (.d _)) .nil))))<|UW Z Z Z<|Q3<|Q4<|Q6<|Q0<|UV Z Z Z<|UU Z Z Z (Q7 Z Z Z)<|Q3<|Q4 ?_
  refine Qg (b:=(x6 != 0)) Z (fun c7=>?_) (fun c7=>?_)
  replace h1:=Qj c7 h1
  refine Q6<|Q0<|UV Z Z Z<|Qy Z Z (Qu Zz Z Z Z Z (D6 Z) Z)<|Q3<|Q4<|QB ?_
  have e:=US h1;subst e
  exact Ju (e:=.ret) (st':=⟨[],m91f3_h6 a2 x6 a4 a5 a6 a0,[],12,45,[]⟩) hQn1 (UR (Nat.le_trans hv1 (D6 Z)) Z Z Z Z Z)
  replace h1:=Qk c7 h1
  refine Qn<|Q4<|Q0<|UU Z Z Z (Q5 QO Z Z Z)<|UU Z Z Z (Q7 Z Z Z)<|Qy Z Z (Qu QO Z Z Z Z (D6 Z) Z)<|Q3<|Qf ?_
  have e:=US h1;subst e
  exact Ju (e:=.normal) (st':=⟨[],[(0,.cells 132 [.yld 1]),(1,G1),(2,.obj (.deferred (some []))),(3,.cells 33 (Dk a2)),(4,.cells 25 [Dh a3]),(5,.cells 127 (Dk a4)),(6,.cells 3 [Dh (J9 (a5+1))]),(7,.cells 33 (Dk a6)),(8,QX),(9,.cells 137 [.fn 91 [(0,0),(8,0),(9,0)]]),(10,.cells 33 (Dk a0))],[],12,45,[]⟩) hQn1 (UR (Nat.le_trans hv1 (D6 Z)) Z Z Z Z Z)
 refine XH (C:=fun q_=>ExecOK Try.prog (some 1) YQ ⟨[(10,.v (.one (.ptr 4 0))),(11,.v (.one (.ptr 5 0))),(12,.v (.one (.ptr 6 0))),(13,.v (.one (Dh a1))),(14,.v (.one (.ptr 11 0)))],m91f3_h4 a2 a3 a4 a5 a6 a0,[],12,45,[]⟩ ((Sum.elim (fun (_:Unit)=>(.normal:Exit)) (fun (_:Int)=>(.ret:Exit))) q_) ((Sum.elim (fun (y1:Unit)=>(⟨[],[(0,.cells 132 [.yld 1]),(1,G1),(2,.obj (.deferred (some []))),(3,.cells 33 (Dk a2)),(4,.cells 25 [Dh a3]),(5,.cells 127 (Dk a4)),(6,.cells 3 [Dh (J9 (a5+1))]),(7,.cells 33 (Dk a6)),(8,QX),(9,.cells 137 [.fn 91 [(0,0),(8,0),(9,0)]]),(10,.cells 33 (Dk a0))],[],12,45,[]⟩:St)) (fun (y2:Int)=>(⟨[],m91f3_h6 a2 y2 a4 a5 a6 a0,[],12,45,[]⟩:St))) q_)) hb5 h0 (fun y1 hb5 h0=>?_) (fun y2 hb5 h0=>?_)
 replace hb5:ExecOK Try.prog (some 1) YQ ⟨[(10,.v (.one (.ptr 4 0))),(11,.v (.one (.ptr 5 0))),(12,.v (.one (.ptr 6 0))),(13,.v (.one (Dh a1))),(14,.v (.one (.ptr 11 0)))],m91f3_h4 a2 a3 a4 a5 a6 a0,[],12,45,[]⟩ .normal ⟨[],[(0,.cells 132 [.yld 1]),(1,G1),(2,.obj (.deferred (some []))),(3,.cells 33 (Dk a2)),(4,.cells 25 [Dh a3]),(5,.cells 127 (Dk a4)),(6,.cells 3 [Dh (J9 (a5+1))]),(7,.cells 33 (Dk a6)),(8,QX),(9,.cells 137 [.fn 91 [(0,0),(8,0),(9,0)]]),(10,.cells 33 (Dk a0))],[],12,45,[]⟩:=hb5
 refine Q9 Z Z (D6 Z) (Jc (jump:=none) Z Z Z Z Z (Qv ha4 (fun E hv=>(UR (Nat.le_trans hv (D6 Z)) Z Z Z Z Z))) Z (Qv hb5 (fun E hv=>(UR (Nat.le_trans hv (D6 Z)) Z Z Z Z Z))) Z Z) ?_
 refine UU Z Z Z (Jj Z)<|Q3<|Q4 ?_
 refine Qg Z (fun h=>nomatch h) (fun _=>?_)
 refine Qn<|Q4<|Q6<|Q0<|UW Z Z Z<|Q3<|Q4<|Q6<|Q6 ?_
 refine QP (fun (v8:Bool)=>⟨[(1,.v (.one (Dh a1))),(3,.v (.one (.ptr 8 0))),(4,.v (.one (.ptr 9 0))),(5,.v (.one (.ptr 10 0))),(8,.v (.one (Dh (-1)))),(24,.v (.one (Di v8)))],[(0,.cells 132 [.yld 1]),(1,Jw),(2,.obj (.deferred (some []))),(3,.cells 33 (Dk a2)),(4,.cells 25 [Dh a3]),(5,.cells 127 (Dk a4)),(6,.cells 3 [Dh (J9 (a5+1))]),(7,.cells 33 (Dk a6)),(8,QX),(9,.cells 137 [.fn 91 [(0,0),(8,0),(9,0)]]),(10,.cells 33 (Dk a0))],[],12,50,[]⟩) (fun (v8:Bool)=>(G0 v8 a0 a1 rc a2 a3 a4 a6 a5)=some r) ?_ ?_
 refine Qd h0 (fun w1_ h1 h0=>?_)
 refine Q0<|UU Z Z Z (Q2 Yj Z)<|UU Z Z Z (Q5 QO Z Z Z)<|UU Z Z Z (Q7 Z Z Z)<|UV Z Z Z ?_
 refine QG (d:=20) (c:=(decide (0≤a0.kind))) Z (fun c9=>?_) (fun c9=>?_)
 replace h1:=Qj c9 h1
 refine UU Z Z Z (Q2 Yj Z)<|UU Z Z Z (Q5 QO Z Z Z)<|UU Z Z Z (Q7 Z Z Z)<|UU Z Z Z (Qe Z Z)<|Q3 ?_
 have e:=US h1;subst e
 exact Qb (decide (a0.kind < 13)) (UR (Nat.le_trans hv0 (D6 Z)) Z Z Z Z Z) h0
 replace h1:=Qk c9 h1
 refine Q8 Z Z<|Q8 Z Z<|Q8 Z Z<|UU Z Z Z (Qa Z Z)<|Q3 ?_
 have e:=US h1;subst e
 exact Qb false (UR (Nat.le_trans hv0 (D6 Z)) Z Z Z Z Z) h0
 intro v8 h0
 unfold G0 at h0
 refine Q4 ?_
 refine QP (fun (v10:Int)=>⟨[(1,.v (.one (Dh a1))),(4,.v (.one (.ptr 9 0))),(5,.v (.one (.ptr 10 0))),(8,.v (.one (Dh v10)))],[(0,.cells 132 [.yld 1]),(1,Jw),(2,.obj (.deferred (some []))),(3,.cells 33 (Dk a2)),(4,.cells 25 [Dh a3]),(5,.cells 127 (Dk a4)),(6,.cells 3 [Dh (J9 (a5+1))]),(7,.cells 33 (Dk a6)),(8,QX),(9,.cells 137 [.fn 91 [(0,0),(8,0),(9,0)]]),(10,.cells 33 (Dk a0))],[],12,50,[]⟩) (fun (v10:Int)=>(Option.bind (Qr (ZG a0 v10 a1 rc a2 a3 a4 a6) QI (0,(J9 (a5+1)))) (Sum.elim (fun (o11:Int)=>some (.inr (true,o11))) (fun o=>some o)))=some r) ?_ ?_
 refine Qd h0 (fun w1_ h1 h0=>?_)
 refine Qg (b:=v8) Z (fun c11=>?_) (fun c11=>?_)
 replace h1:=Qj c11 h1
 refine Q0<|UU Z Z Z (Q2 Yj Z)<|UU Z Z Z (Q5 QO Z Z Z) ?_
 refine YR h1 (fun g12 h1=>?_)
 refine UU Z Z Z (RO.indexA arr_135 Z Z g12)<|UU Z Z Z (Q2 fo_134_4 Z) ?_
 refine Qd h1 (fun x13 hx13 h1=>?_)
 refine UU Z Z Z (RO.loadCol (m:=a0.kind) (sz:=5) (f:=4) (col:=([(-1),(-1),(-1),(-1),(-1),1,1,1,(-1),(-1),(-1),2,(-1)]:List Int)) QO Z Z Z hx13)<|UW Z Z Z<|Q3 ?_
 have e:=US h1;subst e
 exact Qb x13 (UR (Nat.le_trans hv0 (D6 Z)) Z Z Z Z Z) h0
 replace h1:=Qk c11 h1
 refine Qn ?_
 have e:=US h1;subst e
 exact Qb (-1) (UR (Nat.le_trans hv0 (D6 Z)) Z Z Z Z Z) h0
 intro v10 h0
 refine Q4<|Q6<|Q6<|Q0<|UU Z Z Z (Q2 JG Z)<|UU Z Z Z (Q5 Yb Z Z Z)<|UU Z Z Z (QA (α:=Tm) Jx Z (.d _))<|UV Z Z Z<|Q3<|Q4<|Qh ?_
 refine J2 0 (fun (o14:Int)=>⟨[],[(0,.cells 132 [.yld 1]),(1,Jw),(2,.obj (.deferred (some []))),(3,.cells 33 (Dk a2)),(4,.cells 25 [Dh a3]),(5,.cells 127 (Dk a4)),(6,.cells 3 [Dh o14]),(7,.cells 33 (Dk a6)),(8,QX),(9,.cells 137 [.fn 91 [(0,0),(8,0),(9,0)]]),(10,.cells 33 (Dk a0))],[],12,50,[]⟩) (fun (o14:Int)=>(some (.inr (true,o14)))=some r) ?_ ?_
 refine Qd h0 (fun o15 hl1 h0=>?_)
 refine J1 (ZG a0 v10 a1 rc a2 a3 a4 a6) (fun s1=>⟨[(1,.v (.one (Dh a1))),(4,.v (.one (.ptr 9 0))),(8,.v (.one (Dh v10))),(31,.v (.one (Df a0.kids))),(32,.v (.one (Dh (a0.kids.length:Int)))),(33,.v (.one (Dh s1.1)))],[(0,.cells 132 [.yld 1]),(1,Jw),(2,.obj (.deferred (some []))),(3,.cells 33 (Dk a2)),(4,.cells 25 [Dh a3]),(5,.cells 127 (Dk a4)),(6,.cells 3 [Dh s1.2]),(7,.cells 33 (Dk a6)),(8,QX),(9,.cells 137 [.fn 91 [(0,0),(8,0),(9,0)]]),(10,.cells 33 (Dk a0))],[],12,50,[]⟩) (0,(J9 (a5+1))) o15 (UR (Nat.le_trans hv0 (D6 Z)) Z Z Z Z Z) hl1 (fun s1 n1 oo1 h1 ho1=>?_)
 unfold ZG at h1
 refine Q6<|Q0<|UU Z Z Z (Q7 Z Z Z)<|Q3<|Q4<|Q6 ?_
 refine Qg (b:=(decide (s1.1 < (a0.kids.length:Int)))) Z (fun c16=>?_) (fun c16=>?_)
 replace h1:=Qj c16 h1
 refine Qn<|Q4<|Q6<|Qh<|Q6<|Q0<|UV Z Z Z ?_
 refine Qd h1 (fun x17 hx17 h1=>?_)
 refine UU Z Z Z (QC (α:=Tm) Jx Z (.d _) Z hx17)<|UU Z Z Z (Qw (x17:Tm) QW Z)<|Q9 Z Z (D6 Z) (Qm KV Z)<|UW Z Z Z<|Qy Z Z (QD (x17:Tm) QW Z Z Z Z Z)<|Q3<|Q4<|Q6<|Q0<|UV Z Z Z<|UW Z Z Z<|Q3<|Q4<|Q6 ?_
 refine Q6<|Q0<|UV Z Z Z<|UV Z Z Z<|UU Z Z Z (Q7 Z Z Z)<|Q3<|Q4 ?_
 refine QP (fun (v18:Int)=>⟨[(1,.v (.one (Dh a1))),(4,.v (.one (.ptr 9 0))),(8,.v (.one (Dh v10))),(10,.v (.one (.ptr 12 0))),(11,.v (.one (Dh v18))),(31,.v (.one (Df a0.kids))),(32,.v (.one (Dh (a0.kids.length:Int)))),(33,.v (.one (Dh s1.1)))],m91f3_h7 a2 a3 a4 s1 a6 a0 x17,[],13,50,[]⟩) (fun (v18:Int)=>(m91f3_k0 rc x17 v18 a2 a3 a4 s1 a6)=some oo1) ?_ ?_
 refine Qd h1 (fun w2_ h2 h1=>?_)
 refine Qg (b:=(s1.1==v10)) Z (fun c19=>?_) (fun c19=>?_)
 replace h2:=Qj c19 h2
 refine Q0<|UV Z Z Z<|UU Z Z Z (Q7 Z Z Z)<|UW Z Z Z<|Q3 ?_
 have e:=US h2;subst e
 exact Qb (J9 (a1+1)) (UR (Nat.le_trans hv0 (D6 Z)) Z Z Z Z Z) h1
 replace h2:=Qk c19 h2
 refine Qn ?_
 have e:=US h2;subst e
 exact Qb a1 (UR (Nat.le_trans hv0 (D6 Z)) Z Z Z Z Z) h1
 intro v18 h1
 unfold m91f3_k0 at h1
 refine Q4<|Q6<|Q0<|UU Z Z Z (Q5 ag_137 Z Z Z)<|UU Z Z Z (QM (x17:Tm) QW Z Z)<|UV Z Z Z ?_
 refine Qd h1 (fun x20 hx20 h1=>?_)
 refine JH id hx20 h1 (fun x21 hx21 h1=>?_) (fun x22 hx22 h1=>?_)
 refine Q9 Z Z (D6 Z) (Jo (hp1':=[(0,.cells 132 [.yld 1]),(1,.loop .done (some .ret) [(5,.v (.one (.ptr 3 0))),(10,.v (.one (.ptr 4 0))),(11,.v (.one (.ptr 5 0))),(12,.v (.one (.ptr 6 0))),(26,.v (.one (.fn 89 [(7,0)])))] 45 #[27,28] Zk YQ 2),(2,.obj (.deferred (some []))),(3,.cells 33 (Dk a2)),(4,.cells 25 [Dh x21.1]),(5,.cells 127 (Dk a4)),(6,.cells 3 [Dh x21.2]),(7,.cells 33 (Dk a6)),(8,.cells 135 [Di true,Di false,Dh 0,Dh 0,Dh (-1),Di false,Di false,Dh 0,Dh 0,Dh (-1),Di false,Di false,Dh 1,Dh 0,Dh (-1),Di false,Di true,Dh (-1),Dh 0,Dh (-1),Di false,Di false,Dh 0,Dh 2,Dh (-1),Di false,Di false,Dh 0,Dh 2,Dh 1,Di false,Di false,Dh 0,Dh 2,Dh 1,Di false,Di false,Dh 0,Dh 2,Dh 1,Di false,Di false,Dh 0,Dh 3,Dh (-1),Di false,Di false,Dh 0,Dh 1,Dh (-1),Di false,Di false,Dh 0,Dh 1,Dh (-1),Di false,Di false,Dh 0,Dh 3,Dh 2,Di true,Di false,Dh 0,Dh 0,Dh (-1)]),(9,.cells 137 [.fn 91 [(0,0),(8,0),(9,0)]])]) (tk1':=[]) (hpF:=[(10,.cells 33 (Dk a0)),(12,.cells 33 (Dk x17))]) (tkF:=[]) (res2:=QN [.one (Di false)]) (nx2:=15) [0,1,2,3,4,5,6,7,8,9] Z Z (CallE.m (H x17 v18 a2 a3 a4 s1.2 a6 (.inl x21) hx21)) Z Z (UZ Z Z (UZ Z Z (UZ Z Z (UZ Z Z (UZ Z Z (UZ Z Z (UZ Z Z (UZ Z Z (UZ Z Z (UZ Z Z UX)))))))))) Z Z (Dd Z (Dd Z (Dd Z (Dd Z (Dd Z (Dd Z (Dd Z (Dd Z (Dd Z (Dd Z Db)))))))))) D9 (hA Z) D7 Z Z Z Z Z (Dq Z) Z Z Z Z)<|UU Z Z Z (Jj Z)<|Q3<|Q4 ?_
 refine Qg Z (fun _=>?_) (fun h=>nomatch h)
 refine Q6<|Q0<|UW Z Z Z<|Q3<|Q4<|QB ?_
 have e:=US h1;subst e
 have e_:_=_:=ho1
 subst e_
 try dsimp only [Sum.elim_inl,Sum.elim_inr] at h0
 have e:=US h0;subst e
 exact hQ0 _ _ Uk Z (show StLe _ _ ⟨[(7,.v (.one (Di false)))],m91f3_h9 a2 x21 a4 a6,[],12,50,[]⟩ from (UR (Nat.le_trans hv0 (D6 Z)) Z Z Z Z Z))
 refine Q9 Z Z (D6 Z) (Jo (hp1':=[(0,.cells 132 [.yld 1]),(1,.loop .ready none [(5,.v (.one (.ptr 3 0))),(10,.v (.one (.ptr 4 0))),(11,.v (.one (.ptr 5 0))),(12,.v (.one (.ptr 6 0))),(26,.v (.one (.fn 89 [(7,0)])))] 45 #[27,28] Zk YQ 2),(2,.obj (.deferred (some []))),(3,.cells 33 (Dk a2)),(4,.cells 25 [Dh a3]),(5,.cells 127 (Dk a4)),(6,.cells 3 [Dh x22.2]),(7,.cells 33 (Dk a6)),(8,.cells 135 [Di true,Di false,Dh 0,Dh 0,Dh (-1),Di false,Di false,Dh 0,Dh 0,Dh (-1),Di false,Di false,Dh 1,Dh 0,Dh (-1),Di false,Di true,Dh (-1),Dh 0,Dh (-1),Di false,Di false,Dh 0,Dh 2,Dh (-1),Di false,Di false,Dh 0,Dh 2,Dh 1,Di false,Di false,Dh 0,Dh 2,Dh 1,Di false,Di false,Dh 0,Dh 2,Dh 1,Di false,Di false,Dh 0,Dh 3,Dh (-1),Di false,Di false,Dh 0,Dh 1,Dh (-1),Di false,Di false,Dh 0,Dh 1,Dh (-1),Di false,Di false,Dh 0,Dh 3,Dh 2,Di true,Di false,Dh 0,Dh 0,Dh (-1)]),(9,.cells 137 [.fn 91 [(0,0),(8,0),(9,0)]])]) (tk1':=[]) (hpF:=[(10,.cells 33 (Dk a0)),(12,.cells 33 (Dk x17))]) (tkF:=[]) (res2:=QN [.one (Di x22.1)]) (nx2:=15) [0,1,2,3,4,5,6,7,8,9] Z Z (CallE.m (H x17 v18 a2 a3 a4 s1.2 a6 (.inr x22) hx22)) Z Z (UZ Z Z (UZ Z Z (UZ Z Z (UZ Z Z (UZ Z Z (UZ Z Z (UZ Z Z (UZ Z Z (UZ Z Z (UZ Z Z UX)))))))))) Z Z (Dd Z (Dd Z (Dd Z (Dd Z (Dd Z (Dd Z (Dd Z (Dd Z (Dd Z (Dd Z Db)))))))))) D9 (hA Z) D7 Z Z Z Z Z (Dq Z) Z Z Z Z)<|UU Z Z Z (Jj Z)<|Q3<|Q4 ?_
 refine Qg (b:=(!x22.1)) Z (fun c23=>?_) (fun c23=>?_)
 replace h1:=Qj c23 h1
 refine Q6<|Q0<|UW Z Z Z<|Q3<|Q4<|QB ?_
 have e:=US h1;subst e
 have e_:_=_:=ho1
 subst e_
 try dsimp only [Sum.elim_inl,Sum.elim_inr] at h0
 have e:=US h0;subst e
 exact hQ0 _ _ Uk Z (show StLe _ _ ⟨[(7,.v (.one (Di false)))],m91f3_h10 a2 a3 a4 x22 a6,[],12,50,[]⟩ from (UR (Nat.le_trans hv0 (D6 Z)) Z Z Z Z Z))
 replace h1:=Qk c23 h1
 refine Qn<|Qf<|Q4<|Q0<|UU Z Z Z (Q7 Z Z Z)<|UV Z Z Z<|Q3 ?_
 have e:=US h1;subst e
 refine QV ((J9 (s1.1+1)),x22.2) (UR (Nat.le_trans hv0 (D6 Z)) Z Z Z Z Z) ho1
 replace h1:=Qk c16 h1
 refine J8<|Qq<|Qq ?_
 have e:=US h1;subst e
 have e_:_=_:=ho1
 subst e_
 exact J0 s1.2 (UR (Nat.le_trans hv0 (D6 Z)) Z Z Z Z Z) h0
 intro o14 h0
 refine QQ<|Q4<|Q6<|Q0<|UW Z Z Z<|Q3<|Q4<|QB ?_
 have e:=US h0;subst e
 exact hQ0 _ _ Uk Z (show StLe _ _ ⟨[(7,.v (.one (Di true)))],K7 a2 a3 a4 o14 a6,[],12,50,[]⟩ from (UR (Nat.le_trans hv0 (D6 Z)) Z Z Z Z Z))
 replace hb5:ExecOK Try.prog (some 1) YQ ⟨[(10,.v (.one (.ptr 4 0))),(11,.v (.one (.ptr 5 0))),(12,.v (.one (.ptr 6 0))),(13,.v (.one (Dh a1))),(14,.v (.one (.ptr 11 0)))],m91f3_h4 a2 a3 a4 a5 a6 a0,[],12,45,[]⟩ .ret ⟨[],m91f3_h6 a2 y2 a4 a5 a6 a0,[],12,45,[]⟩:=hb5
 refine Q9 Z Z (D6 Z) (Jc (jump:=(some .ret)) Z Z Z Z Z (Qv ha4 (fun E hv=>(UR (Nat.le_trans hv (D6 Z)) Z Z Z Z Z))) Z (Qv hb5 (fun E hv=>(UR (Nat.le_trans hv (D6 Z)) Z Z Z Z Z))) Z Z) ?_
 refine UU Z Z Z (Jj Z)<|Q3<|Q4 ?_
 refine Qg Z (fun _=>?_) (fun h=>nomatch h)
 refine Q6<|Q0<|UW Z Z Z<|Q3<|Q4<|QB ?_
 have e:=US h0;subst e
 exact hQ0 _ _ Uk Z (show StLe _ _ ⟨[(7,.v (.one (Di false)))],m91f3_h12 a2 y2 a4 a5 a6,[],12,50,[]⟩ from (UR (Nat.le_trans hv0 (D6 Z)) Z Z Z Z Z))
theorem m91f3_all (n:Nat) (u:Tm×Int×Tm×Int×Scp×Int×Tm) (r:(Int×Int)⊕(Bool×Int)) (h0:JA Ki n u=some r):CallE Try.prog 91 [.agg (Dk u.1),.one (Dh u.2.1),.one (.ptr 0 0),.one (.ptr 8 0),.one (.ptr 9 0)] ⟨K7 u.2.2.1 u.2.2.2.1 u.2.2.2.2.1 u.2.2.2.2.2.1 u.2.2.2.2.2.2,[],10⟩ ((Sum.elim (fun (r0:Int×Int)=>((.ret [.one (Di false)]):EK)) (fun (r1:Bool×Int)=>((.ret [.one (Di r1.1)]):EK))) r) ⟨((Sum.elim (fun (r0:Int×Int)=>(⟨[(7,.v (.one (Di false)))],[(0,.cells 132 [.yld 1]),(1,JQ),(2,.obj (.deferred (some []))),(3,.cells 33 (Dk u.2.2.1)),(4,.cells 25 [Dh r0.1]),(5,.cells 127 (Dk u.2.2.2.2.1)),(6,.cells 3 [Dh r0.2]),(7,.cells 33 (Dk u.2.2.2.2.2.2)),(8,QX),(9,.cells 137 [.fn 91 [(0,0),(8,0),(9,0)]])],[],12,50,[]⟩:St)) (fun (r1:Bool×Int)=>(⟨[(7,.v (.one (Di r1.1)))],[(0,.cells 132 [.yld 1]),(1,Jw),(2,.obj (.deferred (some []))),(3,.cells 33 (Dk u.2.2.1)),(4,.cells 25 [Dh u.2.2.2.1]),(5,.cells 127 (Dk u.2.2.2.2.1)),(6,.cells 3 [Dh r1.2]),(7,.cells 33 (Dk u.2.2.2.2.2.2)),(8,QX),(9,.cells 137 [.fn 91 [(0,0),(8,0),(9,0)]])],[],12,50,[]⟩:St))) r).hp,((Sum.elim (fun (r0:Int×Int)=>(⟨[(7,.v (.one (Di false)))],[(0,.cells 132 [.yld 1]),(1,JQ),(2,.obj (.deferred (some []))),(3,.cells 33 (Dk u.2.2.1)),(4,.cells 25 [Dh r0.1]),(5,.cells 127 (Dk u.2.2.2.2.1)),(6,.cells 3 [Dh r0.2]),(7,.cells 33 (Dk u.2.2.2.2.2.2)),(8,QX),(9,.cells 137 [.fn 91 [(0,0),(8,0),(9,0)]])],[],12,50,[]⟩:St)) (fun (r1:Bool×Int)=>(⟨[(7,.v (.one (Di r1.1)))],[(0,.cells 132 [.yld 1]),(1,Jw),(2,.obj (.deferred (some []))),(3,.cells 33 (Dk u.2.2.1)),(4,.cells 25 [Dh u.2.2.2.1]),(5,.cells 127 (Dk u.2.2.2.2.1)),(6,.cells 3 [Dh r1.2]),(7,.cells 33 (Dk u.2.2.2.2.2.2)),(8,QX),(9,.cells 137 [.fn 91 [(0,0),(8,0),(9,0)]])],[],12,50,[]⟩:St))) r).tk,((Sum.elim (fun (r0:Int×Int)=>(⟨[(7,.v (.one (Di false)))],[(0,.cells 132 [.yld 1]),(1,JQ),(2,.obj (.deferred (some []))),(3,.cells 33 (Dk u.2.2.1)),(4,.cells 25 [Dh r0.1]),(5,.cells 127 (Dk u.2.2.2.2.1)),(6,.cells 3 [Dh r0.2]),(7,.cells 33 (Dk u.2.2.2.2.2.2)),(8,QX),(9,.cells 137 [.fn 91 [(0,0),(8,0),(9,0)]])],[],12,50,[]⟩:St)) (fun (r1:Bool×Int)=>(⟨[(7,.v (.one (Di r1.1)))],[(0,.cells 132 [.yld 1]),(1,Jw),(2,.obj (.deferred (some []))),(3,.cells 33 (Dk u.2.2.1)),(4,.cells 25 [Dh u.2.2.2.1]),(5,.cells 127 (Dk u.2.2.2.2.1)),(6,.cells 3 [Dh r1.2]),(7,.cells 33 (Dk u.2.2.2.2.2.2)),(8,QX),(9,.cells 137 [.fn 91 [(0,0),(8,0),(9,0)]])],[],12,50,[]⟩:St))) r).nx⟩ :=
 Z1 (C:=fun u r=>CallE Try.prog 91 [.agg (Dk u.1),.one (Dh u.2.1),.one (.ptr 0 0),.one (.ptr 8 0),.one (.ptr 9 0)] ⟨K7 u.2.2.1 u.2.2.2.1 u.2.2.2.2.1 u.2.2.2.2.2.1 u.2.2.2.2.2.2,[],10⟩ ((Sum.elim (fun (r0:Int×Int)=>((.ret [.one (Di false)]):EK)) (fun (r1:Bool×Int)=>((.ret [.one (Di r1.1)]):EK))) r) ⟨((Sum.elim (fun (r0:Int×Int)=>(⟨[(7,.v (.one (Di false)))],[(0,.cells 132 [.yld 1]),(1,JQ),(2,.obj (.deferred (some []))),(3,.cells 33 (Dk u.2.2.1)),(4,.cells 25 [Dh r0.1]),(5,.cells 127 (Dk u.2.2.2.2.1)),(6,.cells 3 [Dh r0.2]),(7,.cells 33 (Dk u.2.2.2.2.2.2)),(8,QX),(9,.cells 137 [.fn 91 [(0,0),(8,0),(9,0)]])],[],12,50,[]⟩:St)) (fun (r1:Bool×Int)=>(⟨[(7,.v (.one (Di r1.1)))],[(0,.cells 132 [.yld 1]),(1,Jw),(2,.obj (.deferred (some []))),(3,.cells 33 (Dk u.2.2.1)),(4,.cells 25 [Dh u.2.2.2.1]),(5,.cells 127 (Dk u.2.2.2.2.1)),(6,.cells 3 [Dh r1.2]),(7,.cells 33 (Dk u.2.2.2.2.2.2)),(8,QX),(9,.cells 137 [.fn 91 [(0,0),(8,0),(9,0)]])],[],12,50,[]⟩:St))) r).hp,((Sum.elim (fun (r0:Int×Int)=>(⟨[(7,.v (.one (Di false)))],[(0,.cells 132 [.yld 1]),(1,JQ),(2,.obj (.deferred (some []))),(3,.cells 33 (Dk u.2.2.1)),(4,.cells 25 [Dh r0.1]),(5,.cells 127 (Dk u.2.2.2.2.1)),(6,.cells 3 [Dh r0.2]),(7,.cells 33 (Dk u.2.2.2.2.2.2)),(8,QX),(9,.cells 137 [.fn 91 [(0,0),(8,0),(9,0)]])],[],12,50,[]⟩:St)) (fun (r1:Bool×Int)=>(⟨[(7,.v (.one (Di r1.1)))],[(0,.cells 132 [.yld 1]),(1,Jw),(2,.obj (.deferred (some []))),(3,.cells 33 (Dk u.2.2.1)),(4,.cells 25 [Dh u.2.2.2.1]),(5,.cells 127 (Dk u.2.2.2.2.1)),(6,.cells 3 [Dh r1.2]),(7,.cells 33 (Dk u.2.2.2.2.2.2)),(8,QX),(9,.cells 137 [.fn 91 [(0,0),(8,0),(9,0)]])],[],12,50,[]⟩:St))) r).tk,((Sum.elim (fun (r0:Int×Int)=>(⟨[(7,.v (.one (Di false)))],[(0,.cells 132 [.yld 1]),(1,JQ),(2,.obj (.deferred (some []))),(3,.cells 33 (Dk u.2.2.1)),(4,.cells 25 [Dh r0.1]),(5,.cells 127 (Dk u.2.2.2.2.1)),(6,.cells 3 [Dh r0.2]),(7,.cells 33 (Dk u.2.2.2.2.2.2)),(8,QX),(9,.cells 137 [.fn 91 [(0,0),(8,0),(9,0)]])],[],12,50,[]⟩:St)) (fun (r1:Bool×Int)=>(⟨[(7,.v (.one (Di r1.1)))],[(0,.cells 132 [.yld 1]),(1,Jw),(2,.obj (.deferred (some []))),(3,.cells 33 (Dk u.2.2.1)),(4,.cells 25 [Dh u.2.2.2.1]),(5,.cells 127 (Dk u.2.2.2.2.1)),(6,.cells 3 [Dh r1.2]),(7,.cells 33 (Dk u.2.2.2.2.2.2)),(8,QX),(9,.cells 137 [.fn 91 [(0,0),(8,0),(9,0)]])],[],12,50,[]⟩:St))) r).nx⟩) (fun rc H u r h=>m91f3s_ok rc (fun a0 a1 a2 a3 a4 a5 a6 r h=>H (a0,a1,a2,a3,a4,a5,a6) r h) u.1 u.2.1 u.2.2.1 u.2.2.2.1 u.2.2.2.2.1 u.2.2.2.2.2.1 u.2.2.2.2.2.2 r h) n u r h0
theorem m91f3_ok (a0:Tm) (a1:Int) (a2:Tm) (a3:Int) (a4:Scp) (a5:Int) (a6:Tm) (r:(Int×Int)⊕(Bool×Int)) (h0:m91f3 a0 a1 a2 a3 a4 a5 a6=some r):CallE Try.prog 91 [.agg (Dk a0),.one (Dh a1),.one (.ptr 0 0),.one (.ptr 8 0),.one (.ptr 9 0)] ⟨K7 a2 a3 a4 a5 a6,[],10⟩ ((Sum.elim (fun (r0:Int×Int)=>((.ret [.one (Di false)]):EK)) (fun (r1:Bool×Int)=>((.ret [.one (Di r1.1)]):EK))) r) ⟨((Sum.elim (fun (r0:Int×Int)=>(⟨[(7,.v (.one (Di false)))],[(0,.cells 132 [.yld 1]),(1,JQ),(2,.obj (.deferred (some []))),(3,.cells 33 (Dk a2)),(4,.cells 25 [Dh r0.1]),(5,.cells 127 (Dk a4)),(6,.cells 3 [Dh r0.2]),(7,.cells 33 (Dk a6)),(8,QX),(9,.cells 137 [.fn 91 [(0,0),(8,0),(9,0)]])],[],12,50,[]⟩:St)) (fun (r1:Bool×Int)=>(⟨[(7,.v (.one (Di r1.1)))],[(0,.cells 132 [.yld 1]),(1,Jw),(2,.obj (.deferred (some []))),(3,.cells 33 (Dk a2)),(4,.cells 25 [Dh a3]),(5,.cells 127 (Dk a4)),(6,.cells 3 [Dh r1.2]),(7,.cells 33 (Dk a6)),(8,QX),(9,.cells 137 [.fn 91 [(0,0),(8,0),(9,0)]])],[],12,50,[]⟩:St))) r).hp,((Sum.elim (fun (r0:Int×Int)=>(⟨[(7,.v (.one (Di false)))],[(0,.cells 132 [.yld 1]),(1,JQ),(2,.obj (.deferred (some []))),(3,.cells 33 (Dk a2)),(4,.cells 25 [Dh r0.1]),(5,.cells 127 (Dk a4)),(6,.cells 3 [Dh r0.2]),(7,.cells 33 (Dk a6)),(8,QX),(9,.cells 137 [.fn 91 [(0,0),(8,0),(9,0)]])],[],12,50,[]⟩:St)) (fun (r1:Bool×Int)=>(⟨[(7,.v (.one (Di r1.1)))],[(0,.cells 132 [.yld 1]),(1,Jw),(2,.obj (.deferred (some []))),(3,.cells 33 (Dk a2)),(4,.cells 25 [Dh a3]),(5,.cells 127 (Dk a4)),(6,.cells 3 [Dh r1.2]),(7,.cells 33 (Dk a6)),(8,QX),(9,.cells 137 [.fn 91 [(0,0),(8,0),(9,0)]])],[],12,50,[]⟩:St))) r).tk,((Sum.elim (fun (r0:Int×Int)=>(⟨[(7,.v (.one (Di false)))],[(0,.cells 132 [.yld 1]),(1,JQ),(2,.obj (.deferred (some []))),(3,.cells 33 (Dk a2)),(4,.cells 25 [Dh r0.1]),(5,.cells 127 (Dk a4)),(6,.cells 3 [Dh r0.2]),(7,.cells 33 (Dk a6)),(8,QX),(9,.cells 137 [.fn 91 [(0,0),(8,0),(9,0)]])],[],12,50,[]⟩:St)) (fun (r1:Bool×Int)=>(⟨[(7,.v (.one (Di r1.1)))],[(0,.cells 132 [.yld 1]),(1,Jw),(2,.obj (.deferred (some []))),(3,.cells 33 (Dk a2)),(4,.cells 25 [Dh a3]),(5,.cells 127 (Dk a4)),(6,.cells 3 [Dh r1.2]),(7,.cells 33 (Dk a6)),(8,QX),(9,.cells 137 [.fn 91 [(0,0),(8,0),(9,0)]])],[],12,50,[]⟩:St))) r).nx⟩:=m91f3_all QI (a0,a1,a2,a3,a4,a5,a6) r h0
noncomputable abbrev m66_h0 (p0_:Int) (p1_:Int) (p2_:Int) (p3_:Int):HB :=
 .cells 127 [Dh (max p0_ 0),Dh (max p1_ 0),Dh (max p2_ 0),Dh (max p3_ 0)]
noncomputable abbrev m66_h1 (p0_:Tm) (p1_:Int) (p2_:Int) (p3_:Int) (p4_:Int):List (Nat×HB) :=
 [(0,.cells 33 (Dk p0_)),(1,.cells 25 [Dh 0]),(2,m66_h0 p1_ p2_ p3_ p4_),(3,.cells 3 [Dh 0])]
noncomputable abbrev m66_h2 (p0_:Tm) (p1_:Int) (p2_:Int) (p3_:Int) (p4_:Int):List (Nat×HB) :=
 [(0,.cells 33 (Dk p0_)),(1,.cells 25 [Dh 0]),(2,m66_h0 p1_ p2_ p3_ p4_),(3,.cells 3 [Dh 0]),(4,.cells 33 (Dk p0_))]
noncomputable abbrev m66_h3 (p0_:Int) (p1_:Int) (p2_:Int) (p3_:Int):HB :=
 .cells 127 [Dh ((⟨(max p0_ 0),(max p1_ 0),(max p2_ 0),(max p3_ 0)⟩:Scp).vars),Dh ((⟨(max p0_ 0),(max p1_ 0),(max p2_ 0),(max p3_ 0)⟩:Scp).params),Dh ((⟨(max p0_ 0),(max p1_ 0),(max p2_ 0),(max p3_ 0)⟩:Scp).metas),Dh ((⟨(max p0_ 0),(max p1_ 0),(max p2_ 0),(max p3_ 0)⟩:Scp).levels)]
noncomputable abbrev m66_h4 :HB :=
 .loop .ready none [(5,.v (.one (.ptr 0 0))),(10,.v (.one (.ptr 1 0))),(11,.v (.one (.ptr 2 0))),(12,.v (.one (.ptr 3 0))),(26,.v (.one (.fn 89 [(4,0)])))] 45 #[27,28] Zk YQ 5
noncomputable abbrev GG (p0_:Tm) (p1_:Int) (p2_:Int) (p3_:Int) (p4_:Int) (p5_:Int):List (Nat×HB) :=
 [(0,.cells 33 (Dk p0_)),(1,.cells 25 [Dh 0]),(2,m66_h3 p1_ p2_ p3_ p4_),(3,.cells 3 [Dh p5_]),(4,.cells 33 (Dk p0_)),(5,.obj (.deferred (some []))),(6,m66_h4)]
noncomputable abbrev m66_h6 :HB :=
 .loop .done (some .ret) [(5,.v (.one (.ptr 0 0))),(10,.v (.one (.ptr 1 0))),(11,.v (.one (.ptr 2 0))),(12,.v (.one (.ptr 3 0))),(26,.v (.one (.fn 89 [(4,0)])))] 45 #[27,28] Zk YQ 5
noncomputable abbrev Gl (p0_:Tm) (p1_:Int×Int) (p2_:Int) (p3_:Int) (p4_:Int) (p5_:Int):List (Nat×HB) :=
 [(0,.cells 33 (Dk p0_)),(1,.cells 25 [Dh p1_.1]),(2,m66_h3 p2_ p3_ p4_ p5_),(3,.cells 3 [Dh p1_.2]),(4,.cells 33 (Dk p0_)),(5,.obj (.deferred (some []))),(6,m66_h6)]
noncomputable abbrev m66_h8 (p0_:Tm) (p1_:Int) (p2_:Int) (p3_:Int) (p4_:Int):List (Nat×HB) :=
 [(0,.cells 33 (Dk p0_)),(1,.cells 25 [Dh 0]),(2,m66_h0 p1_ p2_ p3_ p4_),(3,.cells 3 [Dh 0]),(4,.cells 33 (Dk p0_)),(5,.obj (.deferred (some []))),(6,m66_h4),(7,.cells 132 [.yld 6])]
noncomputable abbrev m66_h9 :HB :=
 .cells 135 [Di true,Di false,Dh 0,Dh 0,Dh (-1),Di false,Di false,Dh 0,Dh 0,Dh (-1),Di false,Di false,Dh 1,Dh 0,Dh (-1),Di false,Di true,Dh (-1),Dh 0,Dh (-1),Di false,Di false,Dh 0,Dh 2,Dh (-1),Di false,Di false,Dh 0,Dh 2,Dh 1,Di false,Di false,Dh 0,Dh 2,Dh 1,Di false,Di false,Dh 0,Dh 2,Dh 1,Di false,Di false,Dh 0,Dh 3,Dh (-1),Di false,Di false,Dh 0,Dh 1,Dh (-1),Di false,Di false,Dh 0,Dh 1,Dh (-1),Di false,Di false,Dh 0,Dh 3,Dh 2,Di true,Di false,Dh 0,Dh 0,Dh (-1)]
noncomputable abbrev m66_h10 (p0_:Tm) (p1_:Int) (p2_:Int) (p3_:Int) (p4_:Int):List (Nat×HB) :=
 [(0,.cells 33 (Dk p0_)),(1,.cells 25 [Dh 0]),(2,m66_h0 p1_ p2_ p3_ p4_),(3,.cells 3 [Dh 0]),(4,.cells 33 (Dk p0_)),(5,.obj (.deferred (some []))),(6,m66_h4),(7,.cells 132 [.yld 6]),(8,m66_h9)]
noncomputable abbrev m66_h11 (p0_:Tm) (p1_:Int) (p2_:Int) (p3_:Int) (p4_:Int) (p5_:Bool×Int):List (Nat×HB) :=
 [(0,.cells 33 (Dk p0_)),(1,.cells 25 [Dh 0]),(2,m66_h3 p1_ p2_ p3_ p4_),(3,.cells 3 [Dh p5_.2]),(4,.cells 33 (Dk p0_)),(5,.obj (.deferred (some []))),(6,m66_h4)]
def UJ (a0:Tm) (a1:Int) (a2:Int) (a3:Int) (a4:Int):Option Int :=
 Option.bind (some ()) (fun (y1:Unit)=>Option.bind (Option.bind (some ()) (fun (y7:Unit)=>Option.bind (m91f3 a0 0 a0 0 (⟨(max a1 0),(max a2 0),(max a3 0),(max a4 0)⟩:Scp) 0 a0) (Sum.elim (fun (x10:Int×Int)=>some (.inr (x10.1,x10.2))) (fun (x11:Bool×Int)=>some (.inl x11.2))))) (Sum.elim (fun (y3:Int)=>cond (decide (4096 < y3))
   (some 5)
   (Option.bind (m81 a0) fun (x13:Int) =>
 cond (decide (200 < x13))
   (some 7)
   (some 0))) (fun (y4:Int×Int)=>some y4.1)))
theorem m66_ok (a0:Tm) (a1:Int) (a2:Int) (a3:Int) (a4:Int) (r:Int) (h0:UJ a0 a1 a2 a3 a4=some r):Fun Try.prog 66 [.agg (Dk a0),.one (Dh a1),.one (Dh a2),.one (Dh a3),.one (Dh a4)] (QN [.one (Dh r)]):=by
 unfold UJ at h0
 refine QT 9 45 Try.func66 Z en_66 Z (D6 Z) (fun S w=>?_)
 simp only [Ja]
 refine Q6<|Q0<|Q9 Z Z (D6 Z) (QU Z)<|Q9 Z Z (D6 Z) (Qm z_25 Z)<|Q3<|Q4<|Q6<|Q0<|UV Z Z Z<|UU Z Z Z (Gv Z Z)<|UV Z Z Z<|UU Z Z Z (Gv Z Z)<|UV Z Z Z<|UU Z Z Z (Gv Z Z) ?_
 refine UV Z Z Z<|UU Z Z Z (Gv Z Z)<|UU Z Z Z (JM bd_127 Z (.cons Z (.cons Z (.cons Z (.cons Z .nil)))) Z)<|Q9 Z Z (D6 Z) (Qm z_127 Z)<|Qy Z Z (Qu ag_127 Z Z Z Z (D6 Z) Z)<|Q3<|Q4<|Q6<|Q0<|Q9 Z Z (D6 Z) (Qm UE Z)<|Qy Z Z (Qu QO Z Z Z Z (D6 Z) Z)<|Q3<|Q4<|Q6 ?_
 refine Q6<|Q0<|UU Z Z Z (QM (a0:Tm) QW Z Z) ?_
 refine Qd h0 (fun y1 h1 h0=>?_)
 have hc2:CallM Try.prog 74 [.agg (Dk a0)] ⟨m66_h1 a0 a1 a2 a3 a4,[],4⟩ (QN [.one (.fn 89 [(4,0)])]) ⟨m66_h2 a0 a1 a2 a3 a4,[],5⟩:=by
  refine Jb ⟨[(2,.v (.one (.fn 89 [(4,0)])))],m66_h2 a0 a1 a2 a3 a4,[],5,4,[]⟩ Z Z en_74 (D6 Z) Z (Qz Z .nil) (fun w0 M V0 Q hv1 hQ1=>?_)
  simp only [Ja]
  refine Q6<|Q0<|Q9 Z Z (D6 Z) (QU Z)<|UW Z Z Z<|Q3<|Q4<|Q6<|Q0<|UU Z Z Z (Zu Z)<|UW Z Z Z<|Q3<|Q4<|QB ?_
  have e:=US h1;subst e
  exact hQ1 _ _ _ (.inr Z) Z (UR (Nat.le_trans hv1 (D6 Z)) Z Z Z Z Z)
 refine Q9 Z Z (D6 Z) (JJ Z Z Z hc2 Z (hA Z) D7)<|Q3<|Q4<|Qh<|Gu (st':=⟨[(5,.v (.one (.ptr 0 0))),(10,.v (.one (.ptr 1 0))),(11,.v (.one (.ptr 2 0))),(12,.v (.one (.ptr 3 0))),(26,.v (.one (.fn 89 [(4,0)])))],m66_h2 a0 a1 a2 a3 a4,[],5,45,[]⟩) (UR (Nat.zero_le _) Z Z Z Z Z) ?_
 refine Qd h0 (fun y6 h1 h0=>?_)
 have hc5:CallM Try.prog 89 [.one (.yld 6),.one (.ptr 4 0)] ⟨[(6,.loop .ready none [(5,.v (.one (.ptr 0 0))),(10,.v (.one (.ptr 1 0))),(11,.v (.one (.ptr 2 0))),(12,.v (.one (.ptr 3 0))),(26,.v (.one (.fn 89 [(4,0)])))] 45 #[27,28] Zk YQ 5),(5,.obj (.deferred (some []))),(0,.cells 33 (Dk a0)),(1,.cells 25 [Dh 0]),(2,.cells 127 [Dh (max a1 0),Dh (max a2 0),Dh (max a3 0),Dh (max a4 0)]),(3,.cells 3 [Dh 0]),(4,.cells 33 (Dk a0))],[],7⟩ (QN []) ⟨(((Sum.elim (fun (y3:Int)=>(⟨[],GG a0 a1 a2 a3 a4 y3,[],13,10,[]⟩:St)) (fun (y4:Int×Int)=>(⟨[],Gl a0 y4 a1 a2 a3 a4,[],13,10,[]⟩:St)))) y6).hp,(((Sum.elim (fun (y3:Int)=>(⟨[],GG a0 a1 a2 a3 a4 y3,[],13,10,[]⟩:St)) (fun (y4:Int×Int)=>(⟨[],Gl a0 y4 a1 a2 a3 a4,[],13,10,[]⟩:St)))) y6).tk,(((Sum.elim (fun (y3:Int)=>(⟨[],GG a0 a1 a2 a3 a4 y3,[],13,10,[]⟩:St)) (fun (y4:Int×Int)=>(⟨[],Gl a0 y4 a1 a2 a3 a4,[],13,10,[]⟩:St)))) y6).nx⟩:=by
  refine CallM.of_bodyS y6 ((Sum.elim (fun (y3:Int)=>(⟨[],GG a0 a1 a2 a3 a4 y3,[],13,10,[]⟩:St)) (fun (y4:Int×Int)=>(⟨[],Gl a0 y4 a1 a2 a3 a4,[],13,10,[]⟩:St)))) rfl rfl en_89 (D6 rfl) (fun z_=>by cases z_ <;> rfl) (fun z_=>.nil) (fun w0 M V0 Q hv1 hQ1=>?_)
  simp only [Ja]
  refine Q6<|Q0<|Q9 Z Z (D6 Z) (QU Z)<|Q3<|Q4<|Q6<|Q0 ?_
  refine Qd h1 (fun y7 h2 h1=>?_)
  have hc8:CallM Try.prog 90 [] ⟨m66_h8 a0 a1 a2 a3 a4,[],8⟩ (QN [.agg [Di true,Di false,Dh 0,Dh 0,Dh (-1),Di false,Di false,Dh 0,Dh 0,Dh (-1),Di false,Di false,Dh 1,Dh 0,Dh (-1),Di false,Di true,Dh (-1),Dh 0,Dh (-1),Di false,Di false,Dh 0,Dh 2,Dh (-1),Di false,Di false,Dh 0,Dh 2,Dh 1,Di false,Di false,Dh 0,Dh 2,Dh 1,Di false,Di false,Dh 0,Dh 2,Dh 1,Di false,Di false,Dh 0,Dh 3,Dh (-1),Di false,Di false,Dh 0,Dh 1,Dh (-1),Di false,Di false,Dh 0,Dh 1,Dh (-1),Di false,Di false,Dh 0,Dh 3,Dh 2,Di true,Di false,Dh 0,Dh 0,Dh (-1)]]) ⟨m66_h10 a0 a1 a2 a3 a4,[],9⟩:=by
   refine Jb ⟨[(0,.v (.one (.ptr 8 0)))],m66_h10 a0 a1 a2 a3 a4,[],9,15,[]⟩ Z Z en_90 (D6 Z) Z (YW Wu Z Z Z Z .nil) (fun w0 M V0 Q hv2 hQ2=>?_)
   simp only [Ja]
   refine Q6<|Q0<|Q9 Z Z (D6 Z) (Qm z_135 Z)<|Q3<|Q4<|Q6<|Q0<|UU Z Z Z (Jk JZ Z Z Z Z)<|UU Z Z Z (RO.build1 JZ Z Z Z)<|UU Z Z Z (Jk JZ Z Z Z Z)<|UU Z Z Z (ZD JZ Z Z Z Z Z)<|UU Z Z Z (Jk JZ Z Z Z Z)<|UU Z Z Z (Jk JZ Z Z Z Z)<|UU Z Z Z (Jk JZ Z Z Z Z) ?_
   refine UU Z Z Z (Jk JZ Z Z Z Z)<|UU Z Z Z (Jk JZ Z Z Z Z)<|UU Z Z Z (Jk JZ Z Z Z Z)<|UU Z Z Z (Jk JZ Z Z Z Z)<|UU Z Z Z (Jk JZ Z Z Z Z)<|UU Z Z Z (Jk JZ Z Z Z Z)<|UU Z Z Z (JM bd_135 Z (.cons Z (.cons Z (.cons Z (.cons Z (.cons Z (.cons Z (.cons Z (.cons Z (.cons Z (.cons Z (.cons Z (.cons Z (.cons Z .nil))))))))))))) Z)<|Qy Z Z (YM Wu Z Z Z Z Z Z)<|Q3<|Q4<|QB ?_
   have e:=US h2;subst e
   exact hQ2 _ _ _ (.inr Z) Z (UR (Nat.le_trans hv2 (D6 Z)) Z Z Z Z Z)
  refine Q9 Z Z (D6 Z) (JJ Z Z Z hc8 Z (hA Z) D7)<|Q9 Z Z (D6 Z) (Qm z_135 Z)<|Qy Z Z (YM Wu Z Z Z Z Z Z)<|Q3<|Q4<|Q6<|Q0<|Q9 Z Z (D6 Z) (Qm z_137 Z)<|Q3<|Q4<|Q6<|Q0<|UU Z Z Z (RO.makeFunc3 Z Z Z)<|Qy Z Z (Qu ag_137 Z Z Z Z (D6 Z) Z) ?_
  refine Q3<|Q4<|Q0<|UU Z Z Z (Q5 ag_137 Z Z Z)<|UU Z Z Z (QM (a0:Tm) QW Z Z) ?_
  refine Qd h1 (fun x9 hx9 h1=>?_)
  refine JH id hx9 h1 (fun x10 hx10 h1=>?_) (fun x11 hx11 h1=>?_)
  refine Q9 Z Z (D6 Z) (Jo (hp1':=[(7,.cells 132 [.yld 6]),(6,.loop .done (some .ret) [(5,.v (.one (.ptr 0 0))),(10,.v (.one (.ptr 1 0))),(11,.v (.one (.ptr 2 0))),(12,.v (.one (.ptr 3 0))),(26,.v (.one (.fn 89 [(4,0)])))] 45 #[27,28] Zk YQ 5),(5,.obj (.deferred (some []))),(0,.cells 33 (Dk a0)),(1,.cells 25 [Dh x10.1]),(2,.cells 127 [Dh ((⟨(max a1 0),(max a2 0),(max a3 0),(max a4 0)⟩:Scp).vars),Dh ((⟨(max a1 0),(max a2 0),(max a3 0),(max a4 0)⟩:Scp).params),Dh ((⟨(max a1 0),(max a2 0),(max a3 0),(max a4 0)⟩:Scp).metas),Dh ((⟨(max a1 0),(max a2 0),(max a3 0),(max a4 0)⟩:Scp).levels)]),(3,.cells 3 [Dh x10.2]),(4,.cells 33 (Dk a0)),(9,.cells 135 [Di true,Di false,Dh 0,Dh 0,Dh (-1),Di false,Di false,Dh 0,Dh 0,Dh (-1),Di false,Di false,Dh 1,Dh 0,Dh (-1),Di false,Di true,Dh (-1),Dh 0,Dh (-1),Di false,Di false,Dh 0,Dh 2,Dh (-1),Di false,Di false,Dh 0,Dh 2,Dh 1,Di false,Di false,Dh 0,Dh 2,Dh 1,Di false,Di false,Dh 0,Dh 2,Dh 1,Di false,Di false,Dh 0,Dh 3,Dh (-1),Di false,Di false,Dh 0,Dh 1,Dh (-1),Di false,Di false,Dh 0,Dh 1,Dh (-1),Di false,Di false,Dh 0,Dh 3,Dh 2,Di true,Di false,Dh 0,Dh 0,Dh (-1)]),(10,.cells 137 [.fn 91 [(7,0),(9,0),(10,0)]])]) (tk1':=[]) (hpF:=[(8,m66_h9)]) (tkF:=[]) (res2:=QN [.one (Di false)]) (nx2:=13) [7,6,5,0,1,2,3,4,9,10] Z Z (CallE.m (m91f3_ok a0 0 a0 0 (⟨(max a1 0),(max a2 0),(max a3 0),(max a4 0)⟩:Scp) 0 a0 (.inl x10) hx10)) Z Z (UZ Z Z (UZ Z Z (UZ Z Z (UZ Z Z (UZ Z Z (UZ Z Z (UZ Z Z (UZ Z Z (UZ Z Z (UZ Z Z UX)))))))))) Z Z (Dd Z (Dd Z (Dd Z (Dd Z (Dd Z (Dd Z (Dd Z (Dd Z (Dd Z (Dd Z Db)))))))))) D9 (hA Z) D7 Z Z Z Z Z (Dq Z) Z Z Z Z)<|Q3 ?_
  have e:=US h1;subst e
  exact hQ1 _ _ _ (.inl Z) Z (show StLe _ _ ⟨[],Gl a0 x10 a1 a2 a3 a4,[],13,10,[]⟩ from (UR (Nat.le_trans hv1 (D6 Z)) Z Z Z Z Z))
  refine Q9 Z Z (D6 Z) (Jo (hp1':=[(7,.cells 132 [.yld 6]),(6,.loop .ready none [(5,.v (.one (.ptr 0 0))),(10,.v (.one (.ptr 1 0))),(11,.v (.one (.ptr 2 0))),(12,.v (.one (.ptr 3 0))),(26,.v (.one (.fn 89 [(4,0)])))] 45 #[27,28] Zk YQ 5),(5,.obj (.deferred (some []))),(0,.cells 33 (Dk a0)),(1,.cells 25 [Dh 0]),(2,.cells 127 [Dh ((⟨(max a1 0),(max a2 0),(max a3 0),(max a4 0)⟩:Scp).vars),Dh ((⟨(max a1 0),(max a2 0),(max a3 0),(max a4 0)⟩:Scp).params),Dh ((⟨(max a1 0),(max a2 0),(max a3 0),(max a4 0)⟩:Scp).metas),Dh ((⟨(max a1 0),(max a2 0),(max a3 0),(max a4 0)⟩:Scp).levels)]),(3,.cells 3 [Dh x11.2]),(4,.cells 33 (Dk a0)),(9,.cells 135 [Di true,Di false,Dh 0,Dh 0,Dh (-1),Di false,Di false,Dh 0,Dh 0,Dh (-1),Di false,Di false,Dh 1,Dh 0,Dh (-1),Di false,Di true,Dh (-1),Dh 0,Dh (-1),Di false,Di false,Dh 0,Dh 2,Dh (-1),Di false,Di false,Dh 0,Dh 2,Dh 1,Di false,Di false,Dh 0,Dh 2,Dh 1,Di false,Di false,Dh 0,Dh 2,Dh 1,Di false,Di false,Dh 0,Dh 3,Dh (-1),Di false,Di false,Dh 0,Dh 1,Dh (-1),Di false,Di false,Dh 0,Dh 1,Dh (-1),Di false,Di false,Dh 0,Dh 3,Dh 2,Di true,Di false,Dh 0,Dh 0,Dh (-1)]),(10,.cells 137 [.fn 91 [(7,0),(9,0),(10,0)]])]) (tk1':=[]) (hpF:=[(8,m66_h9)]) (tkF:=[]) (res2:=QN [.one (Di x11.1)]) (nx2:=13) [7,6,5,0,1,2,3,4,9,10] Z Z (CallE.m (m91f3_ok a0 0 a0 0 (⟨(max a1 0),(max a2 0),(max a3 0),(max a4 0)⟩:Scp) 0 a0 (.inr x11) hx11)) Z Z (UZ Z Z (UZ Z Z (UZ Z Z (UZ Z Z (UZ Z Z (UZ Z Z (UZ Z Z (UZ Z Z (UZ Z Z (UZ Z Z UX)))))))))) Z Z (Dd Z (Dd Z (Dd Z (Dd Z (Dd Z (Dd Z (Dd Z (Dd Z (Dd Z (Dd Z Db)))))))))) D9 (hA Z) D7 Z Z Z Z Z (Dq Z) Z Z Z Z)<|Q3 ?_
  have e:=US h1;subst e
  exact hQ1 _ _ _ (.inl Z) Z (show StLe _ _ ⟨[],m66_h11 a0 a1 a2 a3 a4 x11,[],13,10,[]⟩ from (UR (Nat.le_trans hv1 (D6 Z)) Z Z Z Z Z))
 refine XH (C:=fun q_=>CallM Try.prog 89 [.one (.yld 6),.one (.ptr 4 0)] ⟨[(6,.loop .ready none [(5,.v (.one (.ptr 0 0))),(10,.v (.one (.ptr 1 0))),(11,.v (.one (.ptr 2 0))),(12,.v (.one (.ptr 3 0))),(26,.v (.one (.fn 89 [(4,0)])))] 45 #[27,28] Zk YQ 5),(5,.obj (.deferred (some []))),(0,.cells 33 (Dk a0)),(1,.cells 25 [Dh 0]),(2,.cells 127 [Dh (max a1 0),Dh (max a2 0),Dh (max a3 0),Dh (max a4 0)]),(3,.cells 3 [Dh 0]),(4,.cells 33 (Dk a0))],[],7⟩ (QN []) ⟨(((Sum.elim (fun (y3:Int)=>(⟨[],GG a0 a1 a2 a3 a4 y3,[],13,10,[]⟩:St)) (fun (y4:Int×Int)=>(⟨[],Gl a0 y4 a1 a2 a3 a4,[],13,10,[]⟩:St)))) q_).hp,(((Sum.elim (fun (y3:Int)=>(⟨[],GG a0 a1 a2 a3 a4 y3,[],13,10,[]⟩:St)) (fun (y4:Int×Int)=>(⟨[],Gl a0 y4 a1 a2 a3 a4,[],13,10,[]⟩:St)))) q_).tk,(((Sum.elim (fun (y3:Int)=>(⟨[],GG a0 a1 a2 a3 a4 y3,[],13,10,[]⟩:St)) (fun (y4:Int×Int)=>(⟨[],Gl a0 y4 a1 a2 a3 a4,[],13,10,[]⟩:St)))) q_).nx⟩) hc5 h0 (fun y3 hc5 h0=>?_) (fun y4 hc5 h0=>?_)
 replace hc5:CallM Try.prog 89 [.one (.yld 6),.one (.ptr 4 0)] ⟨[(6,.loop .ready none [(5,.v (.one (.ptr 0 0))),(10,.v (.one (.ptr 1 0))),(11,.v (.one (.ptr 2 0))),(12,.v (.one (.ptr 3 0))),(26,.v (.one (.fn 89 [(4,0)])))] 45 #[27,28] Zk YQ 5),(5,.obj (.deferred (some []))),(0,.cells 33 (Dk a0)),(1,.cells 25 [Dh 0]),(2,.cells 127 [Dh (max a1 0),Dh (max a2 0),Dh (max a3 0),Dh (max a4 0)]),(3,.cells 3 [Dh 0]),(4,.cells 33 (Dk a0))],[],7⟩ (QN []) ⟨GG a0 a1 a2 a3 a4 y3,[],13⟩:=hc5
 refine K6 (Ya (e:=.normal) rfl hc5 rfl rfl (by intro h;cases h) rfl) rfl ?_
 refine Qf<|Q4<|Q6<|Qh<|Q6<|Q0<|UU Z Z Z (Q5 QO Z Z Z)<|UU Z Z Z (Q7 Z Z Z)<|UW Z Z Z<|Q3<|Q4 ?_
 refine Qg (b:=(decide (4096 < y3))) Z (fun c12=>?_) (fun c12=>?_)
 replace h0:=Qj c12 h0
 refine Q6<|Q0<|Qy Z Z (Qu Zz Z Z Z Z (D6 Z) Z)<|Q3<|Q4<|QB ?_
 have e:=US h0;subst e
 exact QJ (fun _ _ h=>h) Z (Kz Zz Z Z Z .nil) (.cons (.one (.d _)) .nil)
 replace h0:=Qk c12 h0
 refine Q6<|Q0<|UU Z Z Z (QM (a0:Tm) QW Z Z) ?_
 refine Qd h0 (fun x13 hx13 h0=>?_)
 refine Q9 Z Z (D6 Z) (Qp (m81_ok a0 x13 hx13) Z (.cons (.agg (.cons (.d _) (.cons (.d _) (.cons (.d _) (.cons (.d _) (.cons (.d _) .nil)))))) .nil))<|UU Z Z Z (Q7 Z Z Z)<|UW Z Z Z<|Q3<|Q4 ?_
 refine Qg (b:=(decide (200 < x13))) Z (fun c14=>?_) (fun c14=>?_)
 replace h0:=Qj c14 h0
 refine Q6<|Q0<|Qy Z Z (Qu Zz Z Z Z Z (D6 Z) Z)<|Q3<|Q4<|QB ?_
 have e:=US h0;subst e
 exact QJ (fun _ _ h=>h) Z (Kz Zz Z Z Z .nil) (.cons (.one (.d _)) .nil)
 replace h0:=Qk c14 h0
 refine Qn<|Qf<|Q4<|Q6<|Q0<|Qy Z Z (Qu Zz Z Z Z Z (D6 Z) Z)<|Q3<|Q4<|QB ?_
 have e:=US h0;subst e
 exact QJ (fun _ _ h=>h) Z (Kz Zz Z Z Z .nil) (.cons (.one (.d _)) .nil)
 replace hc5:CallM Try.prog 89 [.one (.yld 6),.one (.ptr 4 0)] ⟨[(6,.loop .ready none [(5,.v (.one (.ptr 0 0))),(10,.v (.one (.ptr 1 0))),(11,.v (.one (.ptr 2 0))),(12,.v (.one (.ptr 3 0))),(26,.v (.one (.fn 89 [(4,0)])))] 45 #[27,28] Zk YQ 5),(5,.obj (.deferred (some []))),(0,.cells 33 (Dk a0)),(1,.cells 25 [Dh 0]),(2,.cells 127 [Dh (max a1 0),Dh (max a2 0),Dh (max a3 0),Dh (max a4 0)]),(3,.cells 3 [Dh 0]),(4,.cells 33 (Dk a0))],[],7⟩ (QN []) ⟨Gl a0 y4 a1 a2 a3 a4,[],13⟩:=hc5
 refine K6 (Ya (e:=.ret) rfl hc5 rfl rfl (by intro h;cases h) rfl) rfl ?_
 have e:=US h0;subst e
 exact QJ (fun _ _ h=>h) Z (Kz Zz Z Z Z .nil) (.cons (.one (.d _)) .nil)
end Go.Proofs.Ytafddfoefeploaa
namespace Go.Proofs.Ytafddfoefeploaa
open Go.RowKit Go.Shelf
theorem bd_33:Y0 Try.prog 33 [(0,1),(1,1),(2,1),(3,1),(4,1)] [.int .i64 0,.int .i64 0,.string ByteArray.empty,.slice none 0 0,.slice none 0 0]:=⟨by kernel_rfl,by kernel_rfl⟩
theorem en_63:J3 Try.prog 63:=enters_of Try.func63 (by kernel_rfl) rfl
theorem en_78:J3 Try.prog 78:=enters_of Try.func78 (by kernel_rfl) rfl
theorem en_93:J3 Try.prog 93:=enters_of Try.func93 (by kernel_rfl) rfl
theorem en_94:J3 Try.prog 94:=enters_of Try.func94 (by kernel_rfl) rfl
theorem en_95:J3 Try.prog 95:=enters_of Try.func95 (by kernel_rfl) rfl
theorem en_102:J3 Try.prog 102:=enters_of Try.func102 (by kernel_rfl) rfl
def m94_l0 (a0:Lvl) (a1:Lvl) (s3:Int):Option (LO Int (Unit⊕Bool)) :=
 cond (decide (s3 < (a0.vs.length:Int)))
   (Option.bind (JC a0.vs s3) fun (x8:Dv) =>
 Option.bind (JC a1.vs s3) fun (x9:Dv) =>
 cond (!((x8.1==x9.1)&&(x8.2==x9.2)))
   (some (.done (.inr false)))
   (some (.next (J9 (s3+1)))))
   (some (.done (.inl ())))
def m94 (a0:Lvl) (a1:Lvl):Option Bool :=
 Option.bind (cond (a0.c==a1.c)
   (Option.bind (cond ((a0.vs.length:Int) != (a1.vs.length:Int))
   (some false)
   (Option.bind (Qr (m94_l0 a0 a1) QI 0) (Sum.elim (fun (o6:Unit)=>some true) (fun o=>some o)))) (fun (y3:Bool)=>some y3))
   (some false)) (fun (v1:Bool)=>some v1)
theorem m94_ok (a0:Lvl) (a1:Lvl) (r:Bool) (h0:m94 a0 a1=some r):Fun Try.prog 94 [.agg (Dk a0),.agg (Dk a1)] (QN [.one (Di r)]):=by
 unfold m94 at h0
 refine QT 9 17 Try.func94 Z en_94 Z (D6 Z) (fun S w=>?_)
 simp only [Ja]
 refine Q6<|Q0<|Q9 Z Z (D6 Z) (QU Z)<|Q9 Z Z (D6 Z) (QU Z)<|UW Z Z Z<|Q3<|Q4<|Q6 ?_
 refine QP (fun (v1:Bool)=>⟨[(4,.v (.one (Di v1)))],[(0,.cells 87 (Dk a0)),(1,.cells 87 (Dk a1))],[],2,17,[]⟩) (fun (v1:Bool)=>(some v1)=some r) ?_ ?_
 refine Qd h0 (fun w1_ h1 h0=>?_)
 refine Q0<|UU Z Z Z (Q2 KI Z)<|UU Z Z Z (Q5 QO Z Z Z)<|UU Z Z Z (Q2 KI Z)<|UU Z Z Z (Q5 QO Z Z Z)<|UU Z Z Z (Q7 Z Z Z)<|UV Z Z Z ?_
 refine QG (d:=10) (c:=(a0.c==a1.c)) Z (fun c2=>?_) (fun c2=>?_)
 replace h1:=Qj c2 h1
 refine UU Z Z Z (Q2 Z4 Z)<|UU Z Z Z (Q5 Gz Z Z Z)<|UU Z Z Z (Q2 Z4 Z)<|UU Z Z Z (Q5 Gz Z Z Z) ?_
 refine Qd h1 (fun y3 h2 h1=>?_)
 have hc4:CallM Try.prog 102 [.one (Df a0.vs),.one (Df a1.vs)] ⟨[(0,.cells 87 (Dk a0)),(1,.cells 87 (Dk a1))],[],2⟩ (QN [.one (Di y3)]) ⟨[(0,.cells 87 (Dk a0)),(1,.cells 87 (Dk a1))],[],2⟩:=by
  refine Jb ⟨[(4,.v (.one (Di y3)))],[(0,.cells 87 (Dk a0)),(1,.cells 87 (Dk a1))],[],2,26,[]⟩ Z Z en_102 (D6 Z) Z (Qz Z .nil) (fun w0 M V0 Q hv2 hQ2=>?_)
  simp only [Ja]
  refine Q6<|Q0<|UW Z Z Z<|Q3<|Q4<|Q6<|Q6<|Q0<|UV Z Z Z<|UU Z Z Z (QA (α:=Dv) Zi Z (.d _))<|UV Z Z Z<|UU Z Z Z (QA (α:=Dv) Zi Z (.d _))<|UU Z Z Z (Q7 Z Z Z)<|Q3 ?_
  refine Q4 ?_
  refine Qg (b:=((a0.vs.length:Int) != (a1.vs.length:Int))) Z (fun c5=>?_) (fun c5=>?_)
  replace h2:=Qj c5 h2
  refine Q6<|Q0<|UW Z Z Z<|Q3<|Q4<|QB ?_
  have e:=US h2;subst e
  exact hQ2 _ _ _ (.inr Z) Z (UR (Nat.le_trans hv2 (D6 Z)) Z Z Z Z Z)
  replace h2:=Qk c5 h2
  refine Qn<|Q4<|Q6<|Q6<|Q0<|UV Z Z Z<|UU Z Z Z (QA (α:=Dv) Zi Z (.d _))<|UV Z Z Z<|Q3<|Q4<|Qh ?_
  refine J2 0 (fun (o6:Unit)=>⟨[],[(0,.cells 87 (Dk a0)),(1,.cells 87 (Dk a1))],[],2,26,[]⟩) (fun (o6:Unit)=>(some true)=some y3) ?_ ?_
  refine Qd h2 (fun o7 hl3 h2=>?_)
  refine J1 (m94_l0 a0 a1) (fun s3=>⟨[(0,.v (.one (Df a0.vs))),(1,.v (.one (Df a1.vs))),(12,.v (.one (Dh (a0.vs.length:Int)))),(13,.v (.one (Dh s3)))],[(0,.cells 87 (Dk a0)),(1,.cells 87 (Dk a1))],[],2,26,[]⟩) 0 o7 (UR (Nat.le_trans hv2 (D6 Z)) Z Z Z Z Z) hl3 (fun s3 n3 oo3 h3 ho3=>?_)
  unfold m94_l0 at h3
  refine Q6<|Q0<|UU Z Z Z (Q7 Z Z Z)<|Q3<|Q4<|Q6 ?_
  refine Qg (b:=(decide (s3 < (a0.vs.length:Int)))) Z (fun c8=>?_) (fun c8=>?_)
  replace h3:=Qj c8 h3
  refine Qn<|Q4<|Q6<|Qh<|Q6<|Q0<|UV Z Z Z<|UW Z Z Z<|Q3<|Q4<|Q6 ?_
  refine Jt [] [] YP (by kernel_rfl) (by kernel_rfl) (by kernel_rfl) ?_
  refine RunA.rd Z Z Z (Q1 (Qo Z)) Z<|RunA.rd Z Z Z (Q1 (Qo Z)) Z ?_
  refine Qd h3 (fun x9 hx9 h3=>?_)
  refine RunA.rd Z Z Z (Q1 (QC (α:=Dv) Zi Z (.d _) Z hx9)) Z<|RunA.rd Z Z Z (Q1 (Qw (x9:Dv) Kx Z)) Z<|RunA.rd Z Z Z (Q1 (Qo Z)) Z<|RunA.rd Z Z Z (Q1 (Qo Z)) Z ?_
  refine Qd h3 (fun x10 hx10 h3=>?_)
  refine RunA.rd Z Z Z (Q1 (QC (α:=Dv) Zi Z (.d _) Z hx10)) Z<|RunA.rd Z Z Z (Q1 (Qw (x10:Dv) Kx Z)) Z<|RunA.rd Z Z Z (Q1 (RO.neqPair ip_124 Z Z)) Z ?_
  refine RunA.nil ⟨?ex,_,_,Z,?_⟩
  case ex=>exact trivial
  refine JW (st':=⟨[(0,.v (.one (Df a0.vs))),(1,.v (.one (Df a1.vs))),(12,.v (.one (Dh (a0.vs.length:Int)))),(13,.v (.one (Dh s3))),(24,.v (.one (Di (!((x9.1==x10.1)&&(x9.2==x10.2))))))],[(0,.cells 87 (Dk a0)),(1,.cells 87 (Dk a1))],[],2,26,[]⟩) (UR (Nat.le_trans hv2 (D6 Z)) Z Z Z Z Z)<|Q4 ?_
  refine Qg (b:=(!((x9.1==x10.1)&&(x9.2==x10.2)))) Z (fun c11=>?_) (fun c11=>?_)
  replace h3:=Qj c11 h3
  refine Q6<|Q0<|UW Z Z Z<|Q3<|Q4<|QB ?_
  have e:=US h3;subst e
  have e_:_=_:=ho3
  subst e_
  try dsimp only [Sum.elim_inl,Sum.elim_inr] at h2
  have e:=US h2;subst e
  exact hQ2 _ _ _ (.inr Z) Z (UR (Nat.le_trans hv2 (D6 Z)) Z Z Z Z Z)
  replace h3:=Qk c11 h3
  refine Qn<|Qf<|Q4<|Q0<|UU Z Z Z (Q7 Z Z Z)<|UV Z Z Z<|Q3 ?_
  have e:=US h3;subst e
  refine QV (J9 (s3+1)) (UR (Nat.le_trans hv2 (D6 Z)) Z Z Z Z Z) ho3
  replace h3:=Qk c8 h3
  refine J8<|Qq<|Qq ?_
  have e:=US h3;subst e
  have e_:_=_:=ho3
  subst e_
  exact J0 () (UR (Nat.le_trans hv2 (D6 Z)) Z Z Z Z Z) h2
  intro o6 h2
  refine QQ<|Q4<|Q6<|Q0<|UW Z Z Z<|Q3<|Q4<|QB ?_
  have e:=US h2;subst e
  exact hQ2 _ _ _ (.inr Z) Z (UR (Nat.le_trans hv2 (D6 Z)) Z Z Z Z Z)
 refine Q9 Z Z (D6 Z) (JJ Z Z Z hc4 Z (hA Z) D7)<|UU Z Z Z (Qe Z Z)<|UW Z Z Z<|Q3 ?_
 have e:=US h1;subst e
 exact Qb y3 (UR (Nat.zero_le _) Z Z Z Z Z) h0
 replace h1:=Qk c2 h1
 refine Q8 Z Z<|Q8 Z Z<|Q8 Z Z<|Q8 Z Z<|Q8 Z Z<|UU Z Z Z (Qa Z Z)<|UW Z Z Z<|Q3 ?_
 have e:=US h1;subst e
 exact Qb false (UR (Nat.zero_le _) Z Z Z Z Z) h0
 intro v1 h0
 refine Q4<|QB ?_
 have e:=US h0;subst e
 exact QJ (fun _ _ h=>h) Z (Qz Z .nil) (.cons (.one (.d _)) .nil)
def XN (a0:Tm) (a1:Tm) (s3:Int):Option (LO Int (Unit⊕Bool)) :=
 cond (decide (s3 < (a0.levels.length:Int)))
   (Option.bind (JC a0.levels s3) fun (x10:Lvl) =>
 Option.bind (JC a1.levels s3) fun (x11:Lvl) =>
 Option.bind (m94 x10 x11) fun (x12:Bool) =>
 cond (!x12)
   (some (.done (.inr false)))
   (some (.next (J9 (s3+1)))))
   (some (.done (.inl ())))
def XM (a0:Tm) (a1:Tm) (rc:Tm×Tm→Option Bool) (s3:Int):Option (LO Int (Unit⊕Bool)) :=
 cond (decide (s3 < (a0.kids.length:Int)))
   (Option.bind (JC a0.kids s3) fun (x21:Tm) =>
 Option.bind (JC a1.kids s3) fun (x22:Tm) =>
 Option.bind (rc (x21,x22)) fun (x23:Bool) =>
 cond (!x23)
   (some (.done (.inr false)))
   (some (.next (J9 (s3+1)))))
   (some (.done (.inl ())))
def U2 (rc:Tm×Tm→Option Bool) (a0:Tm) (a1:Tm):Option Bool :=
 Option.bind (cond (a0.kind==a1.kind)
   (cond (a0.index==a1.index)
   (cond (a0.name==a1.name)
   (Option.bind (cond ((a0.levels.length:Int) != (a1.levels.length:Int))
   (some false)
   (Option.bind (Qr (XN a0 a1) QI 0) (Sum.elim (fun (o8:Unit)=>some true) (fun o=>some o)))) (fun (y5:Bool)=>cond y5
   (Option.bind (cond ((a0.kids.length:Int) != (a1.kids.length:Int))
   (some false)
   (Option.bind (Qr (XM a0 a1 rc) QI 0) (Sum.elim (fun (o19:Unit)=>some true) (fun o=>some o)))) (fun (y16:Bool)=>some y16))
   (some false)))
   (some false))
   (some false))
   (some false)) (fun (v1:Bool)=>some v1)
def m78F (rc:Tm×Tm→Option Bool) (u:Tm×Tm):Option Bool:=U2 rc u.1 u.2
def m78 (a0:Tm) (a1:Tm):Option Bool:=JA m78F QI (a0,a1)
theorem m78s_ok (rc:Tm×Tm→Option Bool) (H:∀ (a0:Tm) (a1:Tm) (r:Bool),rc (a0,a1)=some r→Fun Try.prog 78 [.agg (Dk a0),.agg (Dk a1)] (QN [.one (Di r)])) (a0:Tm) (a1:Tm) (r:Bool) (h0:U2 rc a0 a1=some r):Fun Try.prog 78 [.agg (Dk a0),.agg (Dk a1)] (QN [.one (Di r)]):=by
 unfold U2 at h0
 refine QT 9 38 Try.func78 Z en_78 Z (D6 Z) (fun S w=>?_)
 simp only [Ja]
 refine Q6<|Q0<|Q9 Z Z (D6 Z) (QU Z)<|Q9 Z Z (D6 Z) (QU Z)<|UW Z Z Z<|Q3<|Q4<|Q6 ?_
 refine QP (fun (v1:Bool)=>⟨[(4,.v (.one (Di v1)))],[(0,.cells 33 (Dk a0)),(1,.cells 33 (Dk a1))],[],2,38,[]⟩) (fun (v1:Bool)=>(some v1)=some r) ?_ ?_
 refine Qd h0 (fun w1_ h1 h0=>?_)
 refine Q0<|UU Z Z Z (Q2 Yj Z)<|UU Z Z Z (Q5 QO Z Z Z)<|UU Z Z Z (Q2 Yj Z)<|UU Z Z Z (Q5 QO Z Z Z)<|UU Z Z Z (Q7 Z Z Z)<|UV Z Z Z ?_
 refine QG (d:=10) (c:=(a0.kind==a1.kind)) Z (fun c2=>?_) (fun c2=>?_)
 replace h1:=Qj c2 h1
 refine UU Z Z Z (Q2 YV Z)<|UU Z Z Z (Q5 QO Z Z Z)<|UU Z Z Z (Q2 YV Z)<|UU Z Z Z (Q5 QO Z Z Z)<|UU Z Z Z (Q7 Z Z Z)<|UU Z Z Z (Qe Z Z)<|UV Z Z Z ?_
 refine QG (d:=17) (c:=(a0.index==a1.index)) Z (fun c3=>?_) (fun c3=>?_)
 replace h1:=Qj c3 h1
 refine UU Z Z Z (Q2 ZF Z)<|UU Z Z Z (Q5 JU Z Z Z)<|UU Z Z Z (Q2 ZF Z)<|UU Z Z Z (Q5 JU Z Z Z)<|UU Z Z Z (Gw Z Z)<|UU Z Z Z (Qe Z Z)<|UV Z Z Z ?_
 refine QG (d:=24) (c:=(a0.name==a1.name)) Z (fun c4=>?_) (fun c4=>?_)
 replace h1:=Qj c4 h1
 refine UU Z Z Z (Q2 Z5 Z)<|UU Z Z Z (Q5 GA Z Z Z)<|UU Z Z Z (Q2 Z5 Z)<|UU Z Z Z (Q5 GA Z Z Z) ?_
 refine Qd h1 (fun y5 h2 h1=>?_)
 have hc6:CallM Try.prog 93 [.one (Df a0.levels),.one (Df a1.levels),.one (.fn 94 [])] ⟨[(0,.cells 33 (Dk a0)),(1,.cells 33 (Dk a1))],[],2⟩ (QN [.one (Di y5)]) ⟨[(0,.cells 33 (Dk a0)),(1,.cells 33 (Dk a1))],[],2⟩:=by
  refine Jb ⟨[(6,.v (.one (Di y5)))],[(0,.cells 33 (Dk a0)),(1,.cells 33 (Dk a1))],[],2,32,[]⟩ Z Z en_93 (D6 Z) Z (Qz Z .nil) (fun w0 M V0 Q hv2 hQ2=>?_)
  simp only [Ja]
  refine Q6<|Q0<|UW Z Z Z<|Q3<|Q4<|Q6<|Q6<|Q0<|UV Z Z Z<|UU Z Z Z (QA (α:=Lvl) YZ Z (.d _))<|UV Z Z Z<|UU Z Z Z (QA (α:=Lvl) YZ Z (.d _))<|UU Z Z Z (Q7 Z Z Z)<|Q3 ?_
  refine Q4 ?_
  refine Qg (b:=((a0.levels.length:Int) != (a1.levels.length:Int))) Z (fun c7=>?_) (fun c7=>?_)
  replace h2:=Qj c7 h2
  refine Q6<|Q0<|UW Z Z Z<|Q3<|Q4<|QB ?_
  have e:=US h2;subst e
  exact hQ2 _ _ _ (.inr Z) Z (UR (Nat.le_trans hv2 (D6 Z)) Z Z Z Z Z)
  replace h2:=Qk c7 h2
  refine Qn<|Q4<|Q6<|Q6<|Q0<|UV Z Z Z<|UU Z Z Z (QA (α:=Lvl) YZ Z (.d _))<|UV Z Z Z<|Q3<|Q4<|Qh ?_
  refine J2 0 (fun (o8:Unit)=>⟨[],[(0,.cells 33 (Dk a0)),(1,.cells 33 (Dk a1))],[],2,32,[]⟩) (fun (o8:Unit)=>(some true)=some y5) ?_ ?_
  refine Qd h2 (fun o9 hl3 h2=>?_)
  refine J1 (XN a0 a1) (fun s3=>⟨[(1,.v (.one (Df a1.levels))),(2,.v (.one (.fn 94 []))),(15,.v (.one (Df a0.levels))),(16,.v (.one (Dh (a0.levels.length:Int)))),(17,.v (.one (Dh s3)))],[(0,.cells 33 (Dk a0)),(1,.cells 33 (Dk a1))],[],2,32,[]⟩) 0 o9 (UR (Nat.le_trans hv2 (D6 Z)) Z Z Z Z Z) hl3 (fun s3 n3 oo3 h3 ho3=>?_)
  unfold XN at h3
  refine Q6<|Q0<|UU Z Z Z (Q7 Z Z Z)<|Q3<|Q4<|Q6 ?_
  refine Qg (b:=(decide (s3 < (a0.levels.length:Int)))) Z (fun c10=>?_) (fun c10=>?_)
  replace h3:=Qj c10 h3
  refine Qn<|Q4<|Q6<|Qh<|Q6<|Q0<|UV Z Z Z ?_
  refine Qd h3 (fun x11 hx11 h3=>?_)
  refine UU Z Z Z (QC (α:=Lvl) YZ Z (.d _) Z hx11)<|UU Z Z Z (Qw (x11:Lvl) ZY Z)<|Q9 Z Z (D6 Z) (Qm WZ Z)<|UW Z Z Z<|Qy Z Z (QD (x11:Lvl) ZY Z Z Z Z Z)<|Q3<|Q4<|Q6<|Q0<|UV Z Z Z<|UV Z Z Z ?_
  refine Qd h3 (fun x12 hx12 h3=>?_)
  refine UU Z Z Z (QC (α:=Lvl) YZ Z (.d _) Z hx12)<|UU Z Z Z (Qw (x12:Lvl) ZY Z)<|Q9 Z Z (D6 Z) (Qm WZ Z)<|Qy Z Z (QD (x12:Lvl) ZY Z Z Z Z Z)<|Q3<|Q4<|Q6<|Q0<|UV Z Z Z<|UU Z Z Z (QM (x11:Lvl) ZY Z Z)<|UU Z Z Z (QM (x12:Lvl) ZY Z Z) ?_
  refine Qd h3 (fun x13 hx13 h3=>?_)
  refine Q9 Z Z (D6 Z) (OpOK.callFunV Z (m94_ok x11 x12 x13 hx13) Z (.cons (.agg (.cons (.d _) (.cons (.d _) .nil))) (.cons (.agg (.cons (.d _) (.cons (.d _) .nil))) .nil)))<|UU Z Z Z (Jj Z)<|Q3<|Q4 ?_
  refine Qg (b:=(!x13)) Z (fun c14=>?_) (fun c14=>?_)
  replace h3:=Qj c14 h3
  refine Q6<|Q0<|UW Z Z Z<|Q3<|Q4<|QB ?_
  have e:=US h3;subst e
  have e_:_=_:=ho3
  subst e_
  try dsimp only [Sum.elim_inl,Sum.elim_inr] at h2
  have e:=US h2;subst e
  exact hQ2 _ _ _ (.inr Z) Z (UR (Nat.le_trans hv2 (D6 Z)) Z Z Z Z Z)
  replace h3:=Qk c14 h3
  refine Qn<|Qf<|Q4<|Q0<|UU Z Z Z (Q7 Z Z Z)<|UV Z Z Z<|Q3 ?_
  have e:=US h3;subst e
  refine QV (J9 (s3+1)) (UR (Nat.le_trans hv2 (D6 Z)) Z Z Z Z Z) ho3
  replace h3:=Qk c10 h3
  refine J8<|Qq<|Qq ?_
  have e:=US h3;subst e
  have e_:_=_:=ho3
  subst e_
  exact J0 () (UR (Nat.le_trans hv2 (D6 Z)) Z Z Z Z Z) h2
  intro o8 h2
  refine QQ<|Q4<|Q6<|Q0<|UW Z Z Z<|Q3<|Q4<|QB ?_
  have e:=US h2;subst e
  exact hQ2 _ _ _ (.inr Z) Z (UR (Nat.le_trans hv2 (D6 Z)) Z Z Z Z Z)
 refine Q9 Z Z (D6 Z) (JJ Z Z Z hc6 Z (hA Z) D7)<|UU Z Z Z (Qe Z Z)<|UV Z Z Z ?_
 refine QG (d:=31) (c:=y5) Z (fun c15=>?_) (fun c15=>?_)
 replace h1:=Qj c15 h1
 refine UU Z Z Z (Q2 JG Z)<|UU Z Z Z (Q5 Yb Z Z Z)<|UU Z Z Z (Q2 JG Z)<|UU Z Z Z (Q5 Yb Z Z Z) ?_
 refine Qd h1 (fun y16 h2 h1=>?_)
 have hc17:CallM Try.prog 95 [.one (Df a0.kids),.one (Df a1.kids),.one (.fn 78 [])] ⟨[(0,.cells 33 (Dk a0)),(1,.cells 33 (Dk a1))],[],2⟩ (QN [.one (Di y16)]) ⟨[(0,.cells 33 (Dk a0)),(1,.cells 33 (Dk a1))],[],2⟩:=by
  refine Jb ⟨[(6,.v (.one (Di y16)))],[(0,.cells 33 (Dk a0)),(1,.cells 33 (Dk a1))],[],2,32,[]⟩ Z Z en_95 (D6 Z) Z (Qz Z .nil) (fun w0 M V0 Q hv2 hQ2=>?_)
  simp only [Ja]
  refine Q6<|Q0<|UW Z Z Z<|Q3<|Q4<|Q6<|Q6<|Q0<|UV Z Z Z<|UU Z Z Z (QA (α:=Tm) Jx Z (.d _))<|UV Z Z Z<|UU Z Z Z (QA (α:=Tm) Jx Z (.d _))<|UU Z Z Z (Q7 Z Z Z)<|Q3 ?_
  refine Q4 ?_
  refine Qg (b:=((a0.kids.length:Int) != (a1.kids.length:Int))) Z (fun c18=>?_) (fun c18=>?_)
  replace h2:=Qj c18 h2
  refine Q6<|Q0<|UW Z Z Z<|Q3<|Q4<|QB ?_
  have e:=US h2;subst e
  exact hQ2 _ _ _ (.inr Z) Z (UR (Nat.le_trans hv2 (D6 Z)) Z Z Z Z Z)
  replace h2:=Qk c18 h2
  refine Qn<|Q4<|Q6<|Q6<|Q0<|UV Z Z Z<|UU Z Z Z (QA (α:=Tm) Jx Z (.d _))<|UV Z Z Z<|Q3<|Q4<|Qh ?_
  refine J2 0 (fun (o19:Unit)=>⟨[],[(0,.cells 33 (Dk a0)),(1,.cells 33 (Dk a1))],[],2,32,[]⟩) (fun (o19:Unit)=>(some true)=some y16) ?_ ?_
  refine Qd h2 (fun o20 hl3 h2=>?_)
  refine J1 (XM a0 a1 rc) (fun s3=>⟨[(1,.v (.one (Df a1.kids))),(2,.v (.one (.fn 78 []))),(15,.v (.one (Df a0.kids))),(16,.v (.one (Dh (a0.kids.length:Int)))),(17,.v (.one (Dh s3)))],[(0,.cells 33 (Dk a0)),(1,.cells 33 (Dk a1))],[],2,32,[]⟩) 0 o20 (UR (Nat.le_trans hv2 (D6 Z)) Z Z Z Z Z) hl3 (fun s3 n3 oo3 h3 ho3=>?_)
  unfold XM at h3
  refine Q6<|Q0<|UU Z Z Z (Q7 Z Z Z)<|Q3<|Q4<|Q6 ?_
  refine Qg (b:=(decide (s3 < (a0.kids.length:Int)))) Z (fun c21=>?_) (fun c21=>?_)
  replace h3:=Qj c21 h3
  refine Qn<|Q4<|Q6<|Qh<|Q6<|Q0<|UV Z Z Z ?_
  refine Qd h3 (fun x22 hx22 h3=>?_)
  refine UU Z Z Z (QC (α:=Tm) Jx Z (.d _) Z hx22)<|UU Z Z Z (Qw (x22:Tm) QW Z)<|Q9 Z Z (D6 Z) (Qm KV Z)<|UW Z Z Z<|Qy Z Z (QD (x22:Tm) QW Z Z Z Z Z)<|Q3<|Q4<|Q6<|Q0<|UV Z Z Z<|UV Z Z Z ?_
  refine Qd h3 (fun x23 hx23 h3=>?_)
  refine UU Z Z Z (QC (α:=Tm) Jx Z (.d _) Z hx23)<|UU Z Z Z (Qw (x23:Tm) QW Z)<|Q9 Z Z (D6 Z) (Qm KV Z)<|Qy Z Z (QD (x23:Tm) QW Z Z Z Z Z)<|Q3<|Q4<|Q6<|Q0<|UV Z Z Z<|UU Z Z Z (QM (x22:Tm) QW Z Z)<|UU Z Z Z (QM (x23:Tm) QW Z Z) ?_
  refine Qd h3 (fun x24 hx24 h3=>?_)
  refine Q9 Z Z (D6 Z) (OpOK.callFunV Z (H x22 x23 x24 hx24) Z (.cons (.agg (.cons (.d _) (.cons (.d _) (.cons (.d _) (.cons (.d _) (.cons (.d _) .nil)))))) (.cons (.agg (.cons (.d _) (.cons (.d _) (.cons (.d _) (.cons (.d _) (.cons (.d _) .nil)))))) .nil)))<|UU Z Z Z (Jj Z)<|Q3<|Q4 ?_
  refine Qg (b:=(!x24)) Z (fun c25=>?_) (fun c25=>?_)
  replace h3:=Qj c25 h3
  refine Q6<|Q0<|UW Z Z Z<|Q3<|Q4<|QB ?_
  have e:=US h3;subst e
  have e_:_=_:=ho3
  subst e_
  try dsimp only [Sum.elim_inl,Sum.elim_inr] at h2
  have e:=US h2;subst e
  exact hQ2 _ _ _ (.inr Z) Z (UR (Nat.le_trans hv2 (D6 Z)) Z Z Z Z Z)
  replace h3:=Qk c25 h3
  refine Qn<|Qf<|Q4<|Q0<|UU Z Z Z (Q7 Z Z Z)<|UV Z Z Z<|Q3 ?_
  have e:=US h3;subst e
  refine QV (J9 (s3+1)) (UR (Nat.le_trans hv2 (D6 Z)) Z Z Z Z Z) ho3
  replace h3:=Qk c21 h3
  refine J8<|Qq<|Qq ?_
  have e:=US h3;subst e
  have e_:_=_:=ho3
  subst e_
  exact J0 () (UR (Nat.le_trans hv2 (D6 Z)) Z Z Z Z Z) h2
  intro o19 h2
  refine QQ<|Q4<|Q6<|Q0<|UW Z Z Z<|Q3<|Q4<|QB ?_
  have e:=US h2;subst e
  exact hQ2 _ _ _ (.inr Z) Z (UR (Nat.le_trans hv2 (D6 Z)) Z Z Z Z Z)
 refine Q9 Z Z (D6 Z) (JJ Z Z Z hc17 Z (hA Z) D7)<|UU Z Z Z (Qe Z Z)<|UW Z Z Z<|Q3 ?_
 have e:=US h1;subst e
 exact Qb y16 (UR (Nat.zero_le _) Z Z Z Z Z) h0
 replace h1:=Qk c15 h1
 refine Q8 Z Z<|Q8 Z Z<|Q8 Z Z<|Q8 Z Z<|Q8 Z Z<|UU Z Z Z (Qa Z Z)<|UW Z Z Z<|Q3 ?_
 have e:=US h1;subst e
 exact Qb false (UR (Nat.zero_le _) Z Z Z Z Z) h0
 replace h1:=Qk c4 h1
 refine Q8 Z Z<|Q8 Z Z<|Q8 Z Z<|Q8 Z Z<|Q8 Z Z<|UU Z Z Z (Qa Z Z)<|UV Z Z Z<|Q8 Z Z<|Q8 Z Z<|Q8 Z Z<|Q8 Z Z<|Q8 Z Z<|UU Z Z Z (Qa Z Z)<|UW Z Z Z ?_
 refine Q3 ?_
 have e:=US h1;subst e
 exact Qb false (UR (Nat.zero_le _) Z Z Z Z Z) h0
 replace h1:=Qk c3 h1
 refine Q8 Z Z<|Q8 Z Z<|Q8 Z Z<|Q8 Z Z<|Q8 Z Z<|UU Z Z Z (Qa Z Z)<|UV Z Z Z<|Q8 Z Z<|Q8 Z Z<|Q8 Z Z<|Q8 Z Z<|Q8 Z Z<|UU Z Z Z (Qa Z Z)<|UV Z Z Z ?_
 refine Q8 Z Z<|Q8 Z Z<|Q8 Z Z<|Q8 Z Z<|Q8 Z Z<|UU Z Z Z (Qa Z Z)<|UW Z Z Z<|Q3 ?_
 have e:=US h1;subst e
 exact Qb false (UR (Nat.zero_le _) Z Z Z Z Z) h0
 replace h1:=Qk c2 h1
 refine Q8 Z Z<|Q8 Z Z<|Q8 Z Z<|Q8 Z Z<|Q8 Z Z<|UU Z Z Z (Qa Z Z)<|UV Z Z Z<|Q8 Z Z<|Q8 Z Z<|Q8 Z Z<|Q8 Z Z<|Q8 Z Z<|UU Z Z Z (Qa Z Z)<|UV Z Z Z ?_
 refine Q8 Z Z<|Q8 Z Z<|Q8 Z Z<|Q8 Z Z<|Q8 Z Z<|UU Z Z Z (Qa Z Z)<|UV Z Z Z<|Q8 Z Z<|Q8 Z Z<|Q8 Z Z<|Q8 Z Z<|Q8 Z Z<|UU Z Z Z (Qa Z Z)<|UW Z Z Z ?_
 refine Q3 ?_
 have e:=US h1;subst e
 exact Qb false (UR (Nat.zero_le _) Z Z Z Z Z) h0
 intro v1 h0
 refine Q4<|QB ?_
 have e:=US h0;subst e
 exact QJ (fun _ _ h=>h) Z (Qz Z .nil) (.cons (.one (.d _)) .nil)
theorem m78_all (n:Nat) (u:Tm×Tm) (r:Bool) (h0:JA m78F n u=some r):Fun Try.prog 78 [.agg (Dk u.1),.agg (Dk u.2)] (QN [.one (Di r)]) :=
 Z1 (C:=fun u r=>Fun Try.prog 78 [.agg (Dk u.1),.agg (Dk u.2)] (QN [.one (Di r)])) (fun rc H u r h=>m78s_ok rc (fun a0 a1 r h=>H (a0,a1) r h) u.1 u.2 r h) n u r h0
theorem m78_ok (a0:Tm) (a1:Tm) (r:Bool) (h0:m78 a0 a1=some r):Fun Try.prog 78 [.agg (Dk a0),.agg (Dk a1)] (QN [.one (Di r)]):=m78_all QI (a0,a1) r h0
def Ui (a0:Tm):Option Bool :=
 Option.bind (m78 a0 (Tm.mk 0 0 ([]:List UInt8) ([]:List Lvl) ([]:List Tm))) fun (x1:Bool) =>
 some x1
theorem Wd (a0:Tm) (r:Bool) (h0:Ui a0=some r):Fun Try.prog 63 [.agg (Dk a0)] (QN [.one (Di r)]):=by
 unfold Ui at h0
 refine QT 9 6 Try.func63 Z en_63 Z (D6 Z) (fun S w=>?_)
 simp only [Ja]
 refine Q6<|Q0<|Q9 Z Z (D6 Z) (QU Z)<|UW Z Z Z<|Q3<|Q4<|Q6<|Q0<|UU Z Z Z (QM (a0:Tm) QW Z Z)<|UU Z Z Z (Gj bd_33 Z ) ?_
 refine Qd h0 (fun x1 hx1 h0=>?_)
 refine Q9 Z Z (D6 Z) (Qp (m78_ok a0 (Tm.mk 0 0 ([]:List UInt8) ([]:List Lvl) ([]:List Tm)) x1 hx1) Z (.cons (.agg (.cons (.d _) (.cons (.d _) (.cons (.d _) (.cons (.d _) (.cons (.d _) .nil)))))) (.cons (.agg (.cons (.d _) (.cons (.d _) (.cons (.d _) (.cons (.nil _) (.cons (.nil _) .nil)))))) .nil)))<|UW Z Z Z<|Q3<|Q4<|QB ?_
 have e:=US h0;subst e
 exact QJ (fun _ _ h=>h) Z (Qz Z .nil) (.cons (.one (.d _)) .nil)
end Go.Proofs.Ytafddfoefeploaa
namespace Go.Proofs.Ytafddfoefeploaa
open Go.RowKit Go.Shelf
theorem wrong_st:tyStruct Try.prog 90=true:=by kernel_rfl
theorem und20:Try.prog.underlying 20=some (.interface #[]):=by kernel_rfl
theorem und90:Jv Try.prog 90=some (true,1):=by kernel_rfl
theorem z90:Jz Try.prog 90=some [.int .i64 0]:=by kernel_rfl
theorem eq_nil (w:World):(Op.equal 20 .nilIface .nilIface).run Try.prog w=.ok true w:=by
 unfold Op.equal
 rw [show Op.maxDepth=(Op.maxDepth - 1)+1 from rfl]
 unfold Op.equalIn
 simp [run_underlying und20]
theorem eq_some (T:TypeId) (v:Value) (w:World):(Op.equal 20 (.iface T v) .nilIface).run Try.prog w=.ok false w:=by
 unfold Op.equal
 rw [show Op.maxDepth=(Op.maxDepth - 1)+1 from rfl]
 unfold Op.equalIn
 simp [run_underlying und20]
theorem catch_idle (n:Nat) (p:Addr) (w:World):CallsDIn Fence.wide n Try.prog 43 #[.pointer (some p)] .returning w fun e u' w'=>(∃ v,e=.returned v)∧u'=.returning∧w'=w:=by
 refine callsDIn_of_wpSIn Try.func43 Z trivial fun c₀ cs hu=>?_
 apply wpSIn_seq
 apply wpSIn_region
 simp [wpOpsSIn,go_sem,recoverD,hu,Exit.thenS,Try.f43]
 apply wpSIn_seq
 apply wpSIn_region
 simp [wpOpsSIn,go_sem,Exit.thenS,eqGuard,binOp,eq_nil]
 refine wpSIn_cond (t:=false) (by simp [Act.eval]) ?_
 simp only [Bool.false_eq_true,if_false]
 refine wpSIn_of_wpIn Z (wpIn_skip ?_)
 cases c₀
 simp_all [bodyPostS,results,Try.f43]
theorem ta_run (v:Value) (w:World):(Instr.typeAssert (.iface 90 v) 20 90 true).run Try.prog w=.ok (.tuple #[v,.bool true]) w:=by
 have h:=wrong_st
 unfold tyStruct at h
 split at h
 ·rename_i fs hu
  unfold Instr.typeAssert
  simp [run_underlying hu]
 ·cases h
theorem al_run (w:World):(Instr.alloc 90 true (.tuple #[])).run Try.prog w=.ok (.pointer (some ⟨w.heap.size,0,none⟩)) (w.alloc (.cells #[.int .i64 0] 90)):=by
 obtain ⟨z,hz1,hz2⟩:=tyZero_spec z90
 simp [Instr.alloc,hz1,newVar,newRow,hz2]
theorem st_run {t:TypeId} {ag:Bool} (ht:Jv Try.prog t=some (ag,1)) {p:Addr} {v x y:Value} {w:World} (hv:v.cells=#[x]) (hx:x.oneCell'=true) (hc:w.cell? p=some y) (hz:w.frozen? p=false):(Instr.storeAt t (.pointer (some p)) v).run Try.prog w=.ok () (w.setCell p x):=by
 obtain ⟨-,hs⟩:=Kg ht w
 simp only [Instr.storeAt,Instr.sureAddr,storeVar,Sem.run_bind,Sem.run_pure,Result.andThen_ok,hs,hv]
 have h1:(Go.store (p.add 0) x).run Try.prog w=.ok () (w.setCell p x):=by
  have:p.add 0=p:=by unfold Addr.add;simp
  rw [this,run_store _ _ _ _ _ hx,hc]
  simp [hz]
 simp [storeCells,h1]
theorem ag25:Jv Try.prog 25=some (false,1):=by kernel_rfl
theorem fo90:QS Try.prog 90 0=some 0:=by kernel_rfl
theorem catch_caught (n:Nat) (p:Addr) (x:Int) (y:Value) (w:World) (hc:w.cell? p=some y) (hz:w.frozen? p=false):CallsDIn Fence.wide n Try.prog 43 #[.pointer (some p)] (.panicking (Jq (QF 90 x))) w fun e u' w' =>
  (∃ v,e=.returned v)∧u'=.panicking [{ v:=QF 90 x,recovered:=true }]∧∃ w1,ExtM (fun _=>False) w w1∧w'=w1.setCell p (.int .i64 x):=by
 have hb:p.block < w.heap.size:=by
  rcases Nat.lt_or_ge p.block w.heap.size with h | h
  ·exact h
  ·unfold World.cell? at hc
   rw [Array.getElem?_eq_none h] at hc
   split at hc <;> simp_all
 obtain ⟨W1,hW1⟩:∃ W1,(w.alloc (.cells #[.int .i64 0] 90)).setCell ⟨w.heap.size,0,none⟩ (.int .i64 x)=W1:=⟨_,rfl⟩
 have hx1:ExtM (fun _=>False) w W1:=by
  subst hW1
  refine ⟨rfl,rfl,rfl,by simp [World.setCell],fun k hk _=>?_⟩
  rw [Below.heap_setCell _ _ _ _ (by simp;omega)]
  exact Below.heap_alloc w _ k hk
 have hcell:W1.cell? p=some y:=by rw [World.cell?_of_block (hx1.block p.block hb (fun h=>h))];exact hc
 have hfz:W1.frozen? p=false:=by
  have:=hx1.block p.block hb (fun h=>h)
  unfold World.frozen? at hz ⊢
  rw [this];exact hz
 have hnew:W1.cell? ⟨w.heap.size,0,none⟩=some (.int .i64 x):=by subst hW1;simp [go_sem]
 refine callsDIn_of_wpSIn Try.func43 Z trivial fun c₀ cs hu=>?_
 apply wpSIn_seq
 apply wpSIn_region
 simp [wpOpsSIn,go_sem,recoverD,hu,Exit.thenS,Try.f43]
 apply wpSIn_seq
 apply wpSIn_region
 simp [wpOpsSIn,go_sem,Exit.thenS,eqGuard,binOp,eq_some,QF]
 refine wpSIn_cond (t:=true) (by simp [Act.eval]) ?_
 simp only [if_true]
 have hst:=st_run und90 (p:=⟨w.heap.size,0,none⟩) (v:=.agg #[.int .i64 x]) (x:=.int .i64 x) (y:=.int .i64 0) (w:=w.alloc (.cells #[.int .i64 0] 90)) rfl rfl (by simp [go_sem]) (by simp [go_sem])
 rw [hW1] at hst
 have hld:=run_loadOne (P:=Try.prog) (w:=W1) (b:=w.heap.size) (o:=0) ag25 hnew
 have hfa:=run_fieldAt (P:=Try.prog) (b:=w.heap.size) (o:=0) fo90 W1
 have hst2:=st_run ag25 (p:=p) (v:=.int .i64 x) (x:=.int .i64 x) rfl rfl hcell hfz
 apply wpSIn_seq
 apply wpSIn_region
 simp [wpOpsSIn,List.range,List.range.loop,execOp,Act.eval,Act.put,Region.wanted,ta_run,al_run,hst,Exit.thenS,Oper.about,Instr.extract,hu,recoverD]
 apply wpSIn_seq
 apply wpSIn_seq
 apply wpSIn_region
 simp [wpOpsSIn,List.range,List.range.loop,execOp,Act.eval,Act.put,Region.wanted,Exit.thenS,Oper.about,Op.unary]
 refine wpSIn_cond (t:=false) (by simp [Act.eval]) ?_
 simp only [Bool.false_eq_true,if_false]
 refine wpSIn_of_wpIn Z (wpIn_skip ?_)
 simp only [Exit.thenS]
 apply wpSIn_region
 simp [wpOpsSIn,List.range,List.range.loop,execOp,Act.eval,Act.put,Region.wanted,Exit.thenS,Oper.about,hfa,hld,hst2]
 cases c₀
 simp_all [bodyPostS,results,Try.f43]
 exact ⟨W1,hx1,Z⟩
theorem catch_ok:Catch Try.prog 43 90:=⟨enters_of Try.func43 (by kernel_rfl) rfl,catch_idle,catch_caught⟩
end Go.Proofs.Ytafddfoefeploaa
namespace Go.Proofs.Ytafddfoefeploaa
open Go.RowKit Go.Shelf
theorem ZE:QS Try.prog 62 1=some 1:=by kernel_rfl
theorem X8:Jv Try.prog 59=some (false,1):=by kernel_rfl
theorem Yh:Jv Try.prog 60=some (false,1):=by kernel_rfl
theorem ag_78:Jv Try.prog 78=some (false,1):=by kernel_rfl
theorem bd_90:Y0 Try.prog 90 [(0,1)] [.int .i64 0]:=⟨by kernel_rfl,by kernel_rfl⟩
theorem Yx:X5 Try.prog 60=some (false,.agg [.d (.v (.int .i64 0)),.d (.v (.int .i64 0)),.d (.v (.int .i64 0)),.d (.v (.int .i64 0)),.d (.v (.int .i64 0)),.d (.v (.int .i64 0)),.d (.v (.string ByteArray.empty)),.d (.v (.slice none 0 0)),.d (.v (.slice none 0 0))]):=by kernel_rfl
theorem en_44:J3 Try.prog 44:=enters_of Try.func44 (by kernel_rfl) rfl
theorem en_45:J3 Try.prog 45:=enters_of Try.func45 (by kernel_rfl) rfl
theorem en_62:J3 Try.prog 62:=enters_of Try.func62 (by kernel_rfl) rfl
theorem en_83:J3 Try.prog 83:=enters_of Try.func83 (by kernel_rfl) rfl
theorem en_98:J3 Try.prog 98:=enters_of Try.func98 (by kernel_rfl) rfl
theorem en_99:J3 Try.prog 99:=enters_of Try.func99 (by kernel_rfl) rfl
theorem en_104:J3 Try.prog 104:=enters_of Try.func104 (by kernel_rfl) rfl
noncomputable def Yy:Code:=(Dm (Dm (Dl (Dl (Dl (Dl (Gx Try.f46)))))))
noncomputable def Y6:Code:=(Dl (Dm (Dl (Dl (Dl (Dl (Gx Try.f46)))))))
noncomputable def Za:Code:=(Dm (Dm (Dl (Dm (Dl (Dl (Gx Try.f47)))))))
noncomputable def Z9:Code:=(Dl (Dm (Dl (Dm (Dl (Dl (Gx Try.f47)))))))
noncomputable def ZK:Code:=(Dm (Dm (Dl (Dm (Dl (Dl (Dl (Dl (Dl (Dl (Dl (Dl (Dl (Gx Try.f30))))))))))))))
noncomputable def ZJ:Code:=(Dl (Dm (Dl (Dm (Dl (Dl (Dl (Dl (Dl (Dl (Dl (Dl (Dl (Gx Try.f30))))))))))))))
noncomputable def GR:Code:=(Dm (Dm (Dl (Dl (Dl (Dl (Dm (Dm (Dl (Dl (Dm (Dm (Dl (Dm (Dl (Dl (Dl (Gx Try.f11))))))))))))))))))
noncomputable def GQ:Code:=(Dl (Dm (Dl (Dl (Dl (Dl (Dm (Dm (Dl (Dl (Dm (Dm (Dl (Dm (Dl (Dl (Dl (Gx Try.f11))))))))))))))))))
def Jr (a0:Bool) (a1:Int):Option (Unit⊕Unit) :=
 cond (!a0)
   (some (.inr ()))
   (some (.inl ()))
theorem Qt (a0:Bool) (a1:Int) (r:Unit⊕Unit) (h0:Jr a0 a1=some r):CallE Try.prog 62 [.one (Di a0),.one (Dh a1)] ⟨[],[],0⟩ ((Sum.elim (fun (r0:Unit)=>((.ret []):EK)) (fun (r1:Unit)=>((.pan (QF 90 a1)):EK))) r) ⟨((Sum.elim (fun (r0:Unit)=>(⟨[],[],[],0,9,[]⟩:St)) (fun (r1:Unit)=>(⟨[],[],[],0,9,[]⟩:St))) r).hp,((Sum.elim (fun (r0:Unit)=>(⟨[],[],[],0,9,[]⟩:St)) (fun (r1:Unit)=>(⟨[],[],[],0,9,[]⟩:St))) r).tk,((Sum.elim (fun (r0:Unit)=>(⟨[],[],[],0,9,[]⟩:St)) (fun (r1:Unit)=>(⟨[],[],[],0,9,[]⟩:St))) r).nx⟩:=by
 unfold Jr at h0
 refine Jy r ((Sum.elim (fun (r0:Unit)=>(⟨[],[],[],0,9,[]⟩:St)) (fun (r1:Unit)=>(⟨[],[],[],0,9,[]⟩:St)))) ((Sum.elim (fun (r0:Unit)=>((.ret []):EK)) (fun (r1:Unit)=>((.pan (QF 90 a1)):EK)))) rfl rfl en_62 (D6 rfl) (fun z_=>by cases z_ with
 | inl _=>exact rfl
 | inr _=>exact rfl) (fun z_=>by cases z_ with
 | inl _=>exact (WU .nil)
 | inr _=>exact U1) (fun w0 M V0 Q hv0 hQ0=>?_)
 simp only [Ja]
 refine Q6<|Q0<|UV Z Z Z<|UU Z Z Z (Jj Z)<|Q3<|Q4 ?_
 refine Qg (b:=(!a0)) Z (fun c1=>?_) (fun c1=>?_)
 replace h0:=Qj c1 h0
 refine Q0<|UV Z Z Z<|UU Z Z Z (RO.build1 bd_90 Z Z Z)<|UU Z Z Z (RO.wrong wrong_st Z)<|J6 Z (OpD.panic Z) ?_
 have e:=US h0;subst e
 exact Jg (hQ0 (.panic (Jq (QF 90 a1))) _ Zx Z (show StLe _ _ ⟨[],[],[],0,9,[]⟩ from (UR (Nat.le_trans hv0 (D6 Z)) Z Z Z Z Z))) (fun _ _ h=>h)
 replace h0:=Qk c1 h0
 refine Qn ?_
 have e:=US h0;subst e
 exact hQ0 _ _ Uo Z (show StLe _ _ ⟨[],[],[],0,9,[]⟩ from (UR (Nat.le_trans hv0 (D6 Z)) Z Z Z Z Z))
def ZI (a0:Dcl) (s1:Int):Option (LO Int (Unit⊕(Unit⊕Int))) :=
 cond (decide (s1 < (a0.funs.length:Int)))
   (Option.bind (JC a0.funs s1) fun (x12:Fn) =>
 Option.bind (cond (decide (1≤x12.arity))
   (Option.bind (Jr (decide (x12.arity≤16)) 3) (Sum.elim (fun (x16:Unit)=>some (.inl ())) (fun (x17:Unit)=>some (.inr (.inr 3)))))
   (Option.bind (Jr false 3) (Sum.elim (fun (x19:Unit)=>some (.inl ())) (fun (x20:Unit)=>some (.inr (.inr 3)))))) (Sum.elim (fun (v13:Unit)=>some (.next (J9 (s1+1)))) (fun o=>some (.done (.inr o)))))
   (some (.done (.inl ())))
def ZH (a0:Dcl) (s1:(List Tm)×Int):Option (LO ((List Tm)×Int) (((List Tm)))) :=
 cond (decide (s1.2 < (a0.ctors.length:Int)))
   (Option.bind (JC a0.ctors s1.2) fun (x15:Ctr) =>
 Jl (Nat.ble (s1.1.length+([x15.ty]).length) 1000000000)
 (some (.next ((s1.1++([x15.ty])),(J9 (s1.2+1))))))
   (some (.done s1.1))
def Zn (o13:(List Tm)) (a0:Dcl) (s1:Int):Option (LO Int (Unit⊕(Unit⊕Int))) :=
 cond (decide (s1 < (o13.length:Int)))
   (Option.bind (JC o13 s1) fun (x16:Tm) =>
 Option.bind (UK x16) fun (x17:(List Tm)×Tm) =>
 Option.bind (Jr (decide (a0.fixed≤(x17.1.length:Int))) 3) (Sum.elim (fun (x19:Unit)=>some (.next (J9 (s1+1)))) (fun (x20:Unit)=>some (.done (.inr (.inr 3))))))
   (some (.done (.inl ())))
def Km (p0_:Dcl):Option (Unit⊕Int) :=
 cond (p0_.kind==3)
   (Option.bind (cond ((J9 (p0_.rcr.params - p0_.params))==0)
   (Option.bind (Jr ((p0_.rcr.rules.length:Int)==(p0_.ctors.length:Int)) 3) (Sum.elim (fun (b0_:Unit)=>some (.inl ())) (fun (b1_:Unit)=>some (.inr (.inr 3)))))
   (cond ((J9 (p0_.rcr.params - p0_.params))==1)
   (Option.bind (Jr ((p0_.rcr.rules.length:Int)==(p0_.ctors.length:Int)) 3) (Sum.elim (fun (b2_:Unit)=>some (.inl ())) (fun (b3_:Unit)=>some (.inr (.inr 3)))))
   (Option.bind (Jr false 3) (Sum.elim (fun (b4_:Unit)=>some (.inl ())) (fun (b5_:Unit)=>some (.inr (.inr 3))))))) (Sum.elim (fun (b6_:Unit)=>Option.bind (Qr (ZH p0_) QI ([p0_.ty],0)) (fun (b7_:(List Tm))=>Option.bind (Qr (Zn b7_ p0_) QI 0) (Sum.elim (fun (b8_:Unit)=>some (.inl ())) (fun o=>some o)))) (fun o=>some o)))
   (some (.inl ()))
def GK (p0_:Dcl):Option (Unit⊕Int) :=
 Option.bind (cond (decide ((p0_.ctors.length:Int)≤32))
   (cond (!(p0_.kind==4))
   (Option.bind (Jr true 6) (Sum.elim (fun (b0_:Unit)=>some (.inl ())) (fun (b1_:Unit)=>some (.inr (.inr 6)))))
   (cond (decide (1≤(p0_.funs.length:Int)))
   (Option.bind (Jr (decide ((p0_.funs.length:Int)≤8)) 6) (Sum.elim (fun (b2_:Unit)=>some (.inl ())) (fun (b3_:Unit)=>some (.inr (.inr 6)))))
   (Option.bind (Jr false 6) (Sum.elim (fun (b4_:Unit)=>some (.inl ())) (fun (b5_:Unit)=>some (.inr (.inr 6)))))))
   (Option.bind (Jr false 6) (Sum.elim (fun (b6_:Unit)=>some (.inl ())) (fun (b7_:Unit)=>some (.inr (.inr 6)))))) (Sum.elim (fun (b8_:Unit)=>Option.bind (Qr (ZI p0_) QI 0) (Sum.elim (fun (b9_:Unit)=>Km p0_) (fun o=>some o))) (fun o=>some o))
def Z2 (p0_:Dcl):Option (Unit⊕Int) :=
 Option.bind (cond (decide (0≤p0_.params))
   (cond (decide (p0_.params≤8))
   (Option.bind (Jr (decide (0≤p0_.fixed)) 2) (Sum.elim (fun (b0_:Unit)=>some (.inl ())) (fun (b1_:Unit)=>some (.inr (.inr 2)))))
   (Option.bind (Jr false 2) (Sum.elim (fun (b2_:Unit)=>some (.inl ())) (fun (b3_:Unit)=>some (.inr (.inr 2))))))
   (Option.bind (Jr false 2) (Sum.elim (fun (b4_:Unit)=>some (.inl ())) (fun (b5_:Unit)=>some (.inr (.inr 2)))))) (Sum.elim (fun (b6_:Unit)=>GK p0_) (fun o=>some o))
def Kl (p0_:Dcl) (p1_:Bool):Option (Unit⊕Int) :=
 Option.bind (cond (p0_.kind==3)
   (Option.bind (Jr true 3) (Sum.elim (fun (b0_:Unit)=>some (.inl ())) (fun (b1_:Unit)=>some (.inr (.inr 3)))))
   (cond (p0_.fixed==0)
   (cond ((p0_.ctors.length:Int)==0)
   (Option.bind (Jr p1_ 3) (Sum.elim (fun (b2_:Unit)=>some (.inl ())) (fun (b3_:Unit)=>some (.inr (.inr 3)))))
   (Option.bind (Jr false 3) (Sum.elim (fun (b4_:Unit)=>some (.inl ())) (fun (b5_:Unit)=>some (.inr (.inr 3))))))
   (Option.bind (Jr false 3) (Sum.elim (fun (b6_:Unit)=>some (.inl ())) (fun (b7_:Unit)=>some (.inr (.inr 3))))))) (Sum.elim (fun (b8_:Unit)=>Z2 p0_) (fun o=>some o))
def GJ (p0_:Dcl):Option (Unit⊕Int) :=
 Option.bind (cond (!(p0_.kind==4))
   (Option.bind (Jr true 3) (Sum.elim (fun (b0_:Unit)=>some (.inl ())) (fun (b1_:Unit)=>some (.inr (.inr 3)))))
   (cond (p0_.name==([]:List UInt8))
   (Option.bind (Ui p0_.ty) fun (b2_:Bool) =>
 Option.bind (Jr b2_ 3) (Sum.elim (fun (b3_:Unit)=>some (.inl ())) (fun (b4_:Unit)=>some (.inr (.inr 3)))))
   (Option.bind (Jr false 3) (Sum.elim (fun (b5_:Unit)=>some (.inl ())) (fun (b6_:Unit)=>some (.inr (.inr 3))))))) (Sum.elim (fun (b7_:Unit)=>Option.bind (cond (p0_.rcr.params==0)
   (Option.bind (Ui p0_.rcr.ty) fun (b0_:Bool) =>
 cond b0_
   (some ((p0_.rcr.rules.length:Int)==0))
   (some false))
   (some false)) (fun (b8_:Bool)=>Kl p0_ b8_)) (fun o=>some o))
def GI (p0_:Dcl):Option (Unit⊕Int) :=
 Option.bind (cond (p0_.kind==4)
   (Option.bind (Jr true 3) (Sum.elim (fun (b0_:Unit)=>some (.inl ())) (fun (b1_:Unit)=>some (.inr (.inr 3)))))
   (Option.bind (Jr ((p0_.funs.length:Int)==0) 3) (Sum.elim (fun (b2_:Unit)=>some (.inl ())) (fun (b3_:Unit)=>some (.inr (.inr 3)))))) (Sum.elim (fun (b4_:Unit)=>GJ p0_) (fun o=>some o))
def G7 (p0_:Bool) (p1_:Dcl):Option (Unit⊕Int) :=
 Option.bind (cond p0_
   (Option.bind (Jr true 3) (Sum.elim (fun (b0_:Unit)=>some (.inl ())) (fun (b1_:Unit)=>some (.inr (.inr 3)))))
   (Option.bind (Ui p1_.value) fun (b2_:Bool) =>
 Option.bind (Jr b2_ 3) (Sum.elim (fun (b3_:Unit)=>some (.inl ())) (fun (b4_:Unit)=>some (.inr (.inr 3)))))) (Sum.elim (fun (b5_:Unit)=>GI p1_) (fun o=>some o))
def W0 (a0:Dcl):Option (Unit⊕Int) :=
 Option.bind (cond (decide (0≤a0.kind))
   (Option.bind (Jr (decide (a0.kind≤4)) 1) (Sum.elim (fun (x4:Unit)=>some (.inl ())) (fun (x5:Unit)=>some (.inr (.inr 1)))))
   (Option.bind (Jr false 1) (Sum.elim (fun (x7:Unit)=>some (.inl ())) (fun (x8:Unit)=>some (.inr (.inr 1)))))) (Sum.elim (fun (v1:Unit)=>Option.bind (cond (a0.kind==1)
   (some true)
   (some (a0.kind==2))) (fun (v2:Bool)=>G7 v2 a0)) (fun o=>some o))
theorem m44f5_ok (a0:Dcl) (r:Unit⊕Int) (h0:W0 a0=some r):CallE Try.prog 44 [.agg (Dk a0)] ⟨[],[],0⟩ ((Sum.elim (fun (r0:Unit)=>((.ret []):EK)) (fun (r1:Int)=>((.pan (QF 90 r1)):EK))) r) ⟨((Sum.elim (fun (r0:Unit)=>(⟨[],[],[],1,210,[]⟩:St)) (fun (r1:Int)=>(⟨[],[],[],1,210,[]⟩:St))) r).hp,((Sum.elim (fun (r0:Unit)=>(⟨[],[],[],1,210,[]⟩:St)) (fun (r1:Int)=>(⟨[],[],[],1,210,[]⟩:St))) r).tk,((Sum.elim (fun (r0:Unit)=>(⟨[],[],[],1,210,[]⟩:St)) (fun (r1:Int)=>(⟨[],[],[],1,210,[]⟩:St))) r).nx⟩:=by
 unfold W0 at h0
 refine Jy r ((Sum.elim (fun (r0:Unit)=>(⟨[],[],[],1,210,[]⟩:St)) (fun (r1:Int)=>(⟨[],[],[],1,210,[]⟩:St)))) ((Sum.elim (fun (r0:Unit)=>((.ret []):EK)) (fun (r1:Int)=>((.pan (QF 90 r1)):EK)))) rfl rfl en_44 (D6 rfl) (fun z_=>by cases z_ with
 | inl _=>exact rfl
 | inr _=>exact rfl) (fun z_=>by cases z_ with
 | inl _=>exact (WU .nil)
 | inr _=>exact U1) (fun w0 M V0 Q hv0 hQ0=>?_)
 simp only [Ja]
 refine Q6<|Q0<|Q9 Z Z (D6 Z) (QU Z)<|Q3<|Q4<|Q6 ?_
 refine QP (fun (v1:Unit)=>⟨[(1,.v (.one (.ptr 0 0)))],[(0,.cells 45 (Dk a0))],[],1,210,[]⟩) (fun (v1:Unit)=>(Option.bind (cond (a0.kind==1)
     (some true)
     (some (a0.kind==2))) (fun (v2:Bool)=>G7 v2 a0))=some r) ?_ ?_
 refine Qd h0 (fun w1_ h1 h0=>?_)
 refine Q0<|UU Z Z Z (Q2 Y8 Z)<|UU Z Z Z (Q5 QO Z Z Z)<|UU Z Z Z (Q7 Z Z Z)<|UV Z Z Z ?_
 refine QG (d:=19) (c:=(decide (0≤a0.kind))) Z (fun c2=>?_) (fun c2=>?_)
 replace h1:=Qj c2 h1
 refine UU Z Z Z (Q2 Y8 Z)<|UU Z Z Z (Q5 QO Z Z Z)<|UU Z Z Z (Q7 Z Z Z)<|UU Z Z Z (Qe Z Z) ?_
 refine Qd h1 (fun x3 hx3 h1=>?_)
 refine JH id hx3 h1 (fun x4 hx4 h1=>?_) (fun x5 hx5 h1=>?_)
 refine Q9 Z Z (D6 Z) (Qx Z Z Z (CallE.m (Qt (decide (a0.kind≤4)) 1 (.inl x4) hx4)) Z)<|Q3 ?_
 have e:=US h1;subst e
 replace h0:=Kh h0
 exact Qb () (UR (Nat.le_trans hv0 (D6 Z)) Z Z Z Z Z) h0
 refine J6 Z (QE Z Z Z (CallE.d (Qt (decide (a0.kind≤4)) 1 (.inr x5) hx5))) ?_
 have e:=US h1;subst e
 replace h0:=KQ h0
 have e:=US h0;subst e
 exact Jg (hQ0 (.panic (Jq (QF 90 1))) _ Zx Z (show StLe _ _ ⟨[],[],[],1,210,[]⟩ from (UR (Nat.le_trans hv0 (D6 Z)) Z Z Z Z Z))) (fun _ _ h=>h)
 replace h1:=Qk c2 h1
 refine Q8 Z Z<|Q8 Z Z<|Q8 Z Z<|UU Z Z Z (Qa Z Z) ?_
 refine Qd h1 (fun x6 hx6 h1=>?_)
 refine JH id hx6 h1 (fun x7 hx7 h1=>?_) (fun x8 hx8 h1=>?_)
 refine Q9 Z Z (D6 Z) (Qx Z Z Z (CallE.m (Qt false 1 (.inl x7) hx7)) Z)<|Q3 ?_
 have e:=US h1;subst e
 replace h0:=Kh h0
 exact Qb () (UR (Nat.le_trans hv0 (D6 Z)) Z Z Z Z Z) h0
 refine J6 Z (QE Z Z Z (CallE.d (Qt false 1 (.inr x8) hx8))) ?_
 have e:=US h1;subst e
 replace h0:=KQ h0
 have e:=US h0;subst e
 exact Jg (hQ0 (.panic (Jq (QF 90 1))) _ Zx Z (show StLe _ _ ⟨[],[],[],1,210,[]⟩ from (UR (Nat.le_trans hv0 (D6 Z)) Z Z Z Z Z))) (fun _ _ h=>h)
 intro v1 h0
 refine Q4<|Q6 ?_
 refine QP (fun (v9:Bool)=>⟨[(1,.v (.one (.ptr 0 0))),(2,.v (.one (Di v9)))],[(0,.cells 45 (Dk a0))],[],1,210,[]⟩) (fun (v9:Bool)=>(G7 v9 a0)=some r) ?_ ?_
 refine Qd h0 (fun w1_ h1 h0=>?_)
 refine Q0<|UU Z Z Z (Q2 Y8 Z)<|UU Z Z Z (Q5 QO Z Z Z)<|UU Z Z Z (Q7 Z Z Z)<|UV Z Z Z ?_
 refine QG (d:=28) (c:=(a0.kind==1)) Z (fun c10=>?_) (fun c10=>?_)
 replace h1:=Qj c10 h1
 refine Q8 Z Z<|Q8 Z Z<|Q8 Z Z<|UU Z Z Z (Qe Z Z)<|UW Z Z Z<|Q3 ?_
 have e:=US h1;subst e
 exact Qb true (UR (Nat.le_trans hv0 (D6 Z)) Z Z Z Z Z) h0
 replace h1:=Qk c10 h1
 refine UU Z Z Z (Q2 Y8 Z)<|UU Z Z Z (Q5 QO Z Z Z)<|UU Z Z Z (Q7 Z Z Z)<|UU Z Z Z (Qa Z Z)<|UW Z Z Z<|Q3 ?_
 have e:=US h1;subst e
 exact Qb (a0.kind==2) (UR (Nat.le_trans hv0 (D6 Z)) Z Z Z Z Z) h0
 intro v9 h0
 unfold G7 at h0
 refine Q4<|Q6<|Q0<|UU Z Z Z (Q2 Y8 Z)<|UU Z Z Z (Q5 QO Z Z Z)<|UU Z Z Z (Q7 Z Z Z)<|UW Z Z Z<|Q3<|Q4<|Q6<|Q0<|UU Z Z Z (Q2 Y8 Z)<|UU Z Z Z (Q5 QO Z Z Z)<|UU Z Z Z (Q7 Z Z Z) ?_
 refine UW Z Z Z<|Q3<|Q4<|Q6 ?_
 refine QP (fun (v11:Unit)=>⟨[(1,.v (.one (.ptr 0 0))),(3,.v (.one (Di (a0.kind==3)))),(4,.v (.one (Di (a0.kind==4))))],[(0,.cells 45 (Dk a0))],[],1,210,[]⟩) (fun (v11:Unit)=>(GI a0)=some r) ?_ ?_
 refine Qd h0 (fun w1_ h1 h0=>?_)
 refine Q0<|UV Z Z Z<|UV Z Z Z ?_
 refine QG (d:=40) (c:=v9) Z (fun c12=>?_) (fun c12=>?_)
 replace h1:=Qj c12 h1
 refine Q8 Z Z<|Q8 Z Z<|Q8 Z Z<|UU Z Z Z (Qe Z Z) ?_
 refine Qd h1 (fun x13 hx13 h1=>?_)
 refine JH id hx13 h1 (fun x14 hx14 h1=>?_) (fun x15 hx15 h1=>?_)
 refine Q9 Z Z (D6 Z) (Qx Z Z Z (CallE.m (Qt true 3 (.inl x14) hx14)) Z)<|Q3 ?_
 have e:=US h1;subst e
 replace h0:=Kh h0
 exact Qb () (UR (Nat.le_trans hv0 (D6 Z)) Z Z Z Z Z) h0
 refine J6 Z (QE Z Z Z (CallE.d (Qt true 3 (.inr x15) hx15))) ?_
 have e:=US h1;subst e
 replace h0:=KQ h0
 have e:=US h0;subst e
 exact Jg (hQ0 (.panic (Jq (QF 90 3))) _ Zx Z (show StLe _ _ ⟨[],[],[],1,210,[]⟩ from (UR (Nat.le_trans hv0 (D6 Z)) Z Z Z Z Z))) (fun _ _ h=>h)
 replace h1:=Qk c12 h1
 refine UU Z Z Z (Q2 fo_45_4 Z)<|UU Z Z Z (Qi QW Z Z Z Z) ?_
 refine Qd h1 (fun x16 hx16 h1=>?_)
 refine Q9 Z Z (D6 Z) (Qp (Wd a0.value x16 hx16) Z (.cons (.agg (.cons (.d _) (.cons (.d _) (.cons (.d _) (.cons (.d _) (.cons (.d _) .nil)))))) .nil))<|UU Z Z Z (Qa Z Z) ?_
 refine Qd h1 (fun x17 hx17 h1=>?_)
 refine JH id hx17 h1 (fun x18 hx18 h1=>?_) (fun x19 hx19 h1=>?_)
 refine Q9 Z Z (D6 Z) (Qx Z Z Z (CallE.m (Qt x16 3 (.inl x18) hx18)) Z)<|Q3 ?_
 have e:=US h1;subst e
 replace h0:=Kh h0
 exact Qb () (UR (Nat.le_trans hv0 (D6 Z)) Z Z Z Z Z) h0
 refine J6 Z (QE Z Z Z (CallE.d (Qt x16 3 (.inr x19) hx19))) ?_
 have e:=US h1;subst e
 replace h0:=KQ h0
 have e:=US h0;subst e
 exact Jg (hQ0 (.panic (Jq (QF 90 3))) _ Zx Z (show StLe _ _ ⟨[],[],[],1,210,[]⟩ from (UR (Nat.le_trans hv0 (D6 Z)) Z Z Z Z Z))) (fun _ _ h=>h)
 intro v11 h0
 unfold GI at h0
 refine Q4<|Q6 ?_
 refine QP (fun (v20:Unit)=>⟨[(1,.v (.one (.ptr 0 0))),(3,.v (.one (Di (a0.kind==3)))),(4,.v (.one (Di (a0.kind==4))))],[(0,.cells 45 (Dk a0))],[],1,210,[]⟩) (fun (v20:Unit)=>(GJ a0)=some r) ?_ ?_
 refine Qd h0 (fun w1_ h1 h0=>?_)
 refine Q0<|UV Z Z Z<|UV Z Z Z ?_
 refine QG (d:=47) (c:=(a0.kind==4)) Z (fun c21=>?_) (fun c21=>?_)
 replace h1:=Qj c21 h1
 refine Q8 Z Z<|Q8 Z Z<|Q8 Z Z<|Q8 Z Z<|UU Z Z Z (Qe Z Z) ?_
 refine Qd h1 (fun x22 hx22 h1=>?_)
 refine JH id hx22 h1 (fun x23 hx23 h1=>?_) (fun x24 hx24 h1=>?_)
 refine Q9 Z Z (D6 Z) (Qx Z Z Z (CallE.m (Qt true 3 (.inl x23) hx23)) Z)<|Q3 ?_
 have e:=US h1;subst e
 replace h0:=Kh h0
 exact Qb () (UR (Nat.le_trans hv0 (D6 Z)) Z Z Z Z Z) h0
 refine J6 Z (QE Z Z Z (CallE.d (Qt true 3 (.inr x24) hx24))) ?_
 have e:=US h1;subst e
 replace h0:=KQ h0
 have e:=US h0;subst e
 exact Jg (hQ0 (.panic (Jq (QF 90 3))) _ Zx Z (show StLe _ _ ⟨[],[],[],1,210,[]⟩ from (UR (Nat.le_trans hv0 (D6 Z)) Z Z Z Z Z))) (fun _ _ h=>h)
 replace h1:=Qk c21 h1
 refine UU Z Z Z (Q2 Yw Z)<|UU Z Z Z (Q5 K1 Z Z Z)<|UU Z Z Z (QA (α:=Fn) YN Z (.d _))<|UU Z Z Z (Q7 Z Z Z)<|UU Z Z Z (Qa Z Z) ?_
 refine Qd h1 (fun x25 hx25 h1=>?_)
 refine JH id hx25 h1 (fun x26 hx26 h1=>?_) (fun x27 hx27 h1=>?_)
 refine Q9 Z Z (D6 Z) (Qx Z Z Z (CallE.m (Qt ((a0.funs.length:Int)==0) 3 (.inl x26) hx26)) Z)<|Q3 ?_
 have e:=US h1;subst e
 replace h0:=Kh h0
 exact Qb () (UR (Nat.le_trans hv0 (D6 Z)) Z Z Z Z Z) h0
 refine J6 Z (QE Z Z Z (CallE.d (Qt ((a0.funs.length:Int)==0) 3 (.inr x27) hx27))) ?_
 have e:=US h1;subst e
 replace h0:=KQ h0
 have e:=US h0;subst e
 exact Jg (hQ0 (.panic (Jq (QF 90 3))) _ Zx Z (show StLe _ _ ⟨[],[],[],1,210,[]⟩ from (UR (Nat.le_trans hv0 (D6 Z)) Z Z Z Z Z))) (fun _ _ h=>h)
 intro v20 h0
 unfold GJ at h0
 refine Q4<|Q6 ?_
 refine QP (fun (v28:Unit)=>⟨[(1,.v (.one (.ptr 0 0))),(3,.v (.one (Di (a0.kind==3)))),(4,.v (.one (Di (a0.kind==4))))],[(0,.cells 45 (Dk a0))],[],1,210,[]⟩) (fun (v28:Unit)=>(Option.bind (cond (a0.rcr.params==0)
     (Option.bind (Ui a0.rcr.ty) fun (x31:Bool) =>
   cond x31
     (some ((a0.rcr.rules.length:Int)==0))
     (some false))
     (some false)) (fun (v29:Bool)=>Kl a0 v29))=some r) ?_ ?_
 refine Qd h0 (fun w1_ h1 h0=>?_)
 refine Q0<|UV Z Z Z<|UU Z Z Z (Jj Z)<|UV Z Z Z ?_
 refine QG (d:=56) (c:=(!(a0.kind==4))) Z (fun c29=>?_) (fun c29=>?_)
 replace h1:=Qj c29 h1
 refine Q8 Z Z<|Q8 Z Z<|Q8 Z Z<|Q8 Z Z<|Q8 Z Z<|Q8 Z Z<|Q8 Z Z<|Q8 Z Z<|UU Z Z Z (Qe Z Z) ?_
 refine Qd h1 (fun x30 hx30 h1=>?_)
 refine JH id hx30 h1 (fun x31 hx31 h1=>?_) (fun x32 hx32 h1=>?_)
 refine Q9 Z Z (D6 Z) (Qx Z Z Z (CallE.m (Qt true 3 (.inl x31) hx31)) Z)<|Q3 ?_
 have e:=US h1;subst e
 replace h0:=Kh h0
 exact Qb () (UR (Nat.le_trans hv0 (D6 Z)) Z Z Z Z Z) h0
 refine J6 Z (QE Z Z Z (CallE.d (Qt true 3 (.inr x32) hx32))) ?_
 have e:=US h1;subst e
 replace h0:=KQ h0
 have e:=US h0;subst e
 exact Jg (hQ0 (.panic (Jq (QF 90 3))) _ Zx Z (show StLe _ _ ⟨[],[],[],1,210,[]⟩ from (UR (Nat.le_trans hv0 (D6 Z)) Z Z Z Z Z))) (fun _ _ h=>h)
 replace h1:=Qk c29 h1
 refine UU Z Z Z (Q2 Y4 Z)<|UU Z Z Z (Q5 JU Z Z Z)<|UU Z Z Z (Gw Z Z)<|UV Z Z Z ?_
 refine QG (d:=60) (c:=(a0.name==([]:List UInt8))) Z (fun c33=>?_) (fun c33=>?_)
 replace h1:=Qj c33 h1
 refine UU Z Z Z (Q2 KM Z)<|UU Z Z Z (Qi QW Z Z Z Z) ?_
 refine Qd h1 (fun x34 hx34 h1=>?_)
 refine Q9 Z Z (D6 Z) (Qp (Wd a0.ty x34 hx34) Z (.cons (.agg (.cons (.d _) (.cons (.d _) (.cons (.d _) (.cons (.d _) (.cons (.d _) .nil)))))) .nil))<|UU Z Z Z (Qe Z Z)<|UU Z Z Z (Qa Z Z) ?_
 refine Qd h1 (fun x35 hx35 h1=>?_)
 refine JH id hx35 h1 (fun x36 hx36 h1=>?_) (fun x37 hx37 h1=>?_)
 refine Q9 Z Z (D6 Z) (Qx Z Z Z (CallE.m (Qt x34 3 (.inl x36) hx36)) Z)<|Q3 ?_
 have e:=US h1;subst e
 replace h0:=Kh h0
 exact Qb () (UR (Nat.le_trans hv0 (D6 Z)) Z Z Z Z Z) h0
 refine J6 Z (QE Z Z Z (CallE.d (Qt x34 3 (.inr x37) hx37))) ?_
 have e:=US h1;subst e
 replace h0:=KQ h0
 have e:=US h0;subst e
 exact Jg (hQ0 (.panic (Jq (QF 90 3))) _ Zx Z (show StLe _ _ ⟨[],[],[],1,210,[]⟩ from (UR (Nat.le_trans hv0 (D6 Z)) Z Z Z Z Z))) (fun _ _ h=>h)
 replace h1:=Qk c33 h1
 refine Q8 Z Z<|Q8 Z Z<|Q8 Z Z<|UU Z Z Z (Qa Z Z)<|UU Z Z Z (Qa Z Z) ?_
 refine Qd h1 (fun x38 hx38 h1=>?_)
 refine JH id hx38 h1 (fun x39 hx39 h1=>?_) (fun x40 hx40 h1=>?_)
 refine Q9 Z Z (D6 Z) (Qx Z Z Z (CallE.m (Qt false 3 (.inl x39) hx39)) Z)<|Q3 ?_
 have e:=US h1;subst e
 replace h0:=Kh h0
 exact Qb () (UR (Nat.le_trans hv0 (D6 Z)) Z Z Z Z Z) h0
 refine J6 Z (QE Z Z Z (CallE.d (Qt false 3 (.inr x40) hx40))) ?_
 have e:=US h1;subst e
 replace h0:=KQ h0
 have e:=US h0;subst e
 exact Jg (hQ0 (.panic (Jq (QF 90 3))) _ Zx Z (show StLe _ _ ⟨[],[],[],1,210,[]⟩ from (UR (Nat.le_trans hv0 (D6 Z)) Z Z Z Z Z))) (fun _ _ h=>h)
 intro v28 h0
 refine Q4<|Q6 ?_
 refine QP (fun (v41:Bool)=>⟨[(1,.v (.one (.ptr 0 0))),(3,.v (.one (Di (a0.kind==3)))),(4,.v (.one (Di (a0.kind==4)))),(5,.v (.one (Di v41)))],[(0,.cells 45 (Dk a0))],[],1,210,[]⟩) (fun (v41:Bool)=>(Kl a0 v41)=some r) ?_ ?_
 refine Qd h0 (fun w1_ h1 h0=>?_)
 refine Q0<|UU Z Z Z (Q2 JP Z)<|UU Z Z Z (Q2 KN Z)<|UU Z Z Z (Q5 QO Z Z Z)<|UU Z Z Z (Q7 Z Z Z)<|UV Z Z Z ?_
 refine QG (d:=71) (c:=(a0.rcr.params==0)) Z (fun c42=>?_) (fun c42=>?_)
 replace h1:=Qj c42 h1
 refine UU Z Z Z (Q2 JP Z)<|UU Z Z Z (Q2 Gt Z)<|UU Z Z Z (Qi QW Z Z Z Z) ?_
 refine Qd h1 (fun x43 hx43 h1=>?_)
 refine Q9 Z Z (D6 Z) (Qp (Wd a0.rcr.ty x43 hx43) Z (.cons (.agg (.cons (.d _) (.cons (.d _) (.cons (.d _) (.cons (.d _) (.cons (.d _) .nil)))))) .nil))<|UU Z Z Z (Qe Z Z)<|UV Z Z Z ?_
 refine QG (d:=77) (c:=x43) Z (fun c44=>?_) (fun c44=>?_)
 replace h1:=Qj c44 h1
 refine UU Z Z Z (Q2 JP Z)<|UU Z Z Z (Q2 Gs Z)<|UU Z Z Z (Q5 Yb Z Z Z)<|UU Z Z Z (QA (α:=Tm) Jx Z (.d _))<|UU Z Z Z (Q7 Z Z Z)<|UU Z Z Z (Qe Z Z)<|UW Z Z Z<|Q3 ?_
 have e:=US h1;subst e
 exact Qb ((a0.rcr.rules.length:Int)==0) (UR (Nat.le_trans hv0 (D6 Z)) Z Z Z Z Z) h0
 replace h1:=Qk c44 h1
 refine Q8 Z Z<|Q8 Z Z<|Q8 Z Z<|Q8 Z Z<|Q8 Z Z<|UU Z Z Z (Qa Z Z)<|UW Z Z Z<|Q3 ?_
 have e:=US h1;subst e
 exact Qb false (UR (Nat.le_trans hv0 (D6 Z)) Z Z Z Z Z) h0
 replace h1:=Qk c42 h1
 refine Q8 Z Z<|Q8 Z Z<|Q8 Z Z<|Q8 Z Z<|UU Z Z Z (Qa Z Z)<|UV Z Z Z<|Q8 Z Z<|Q8 Z Z<|Q8 Z Z<|Q8 Z Z<|Q8 Z Z<|UU Z Z Z (Qa Z Z)<|UW Z Z Z<|Q3 ?_
 have e:=US h1;subst e
 exact Qb false (UR (Nat.le_trans hv0 (D6 Z)) Z Z Z Z Z) h0
 intro v41 h0
 unfold Kl at h0
 refine Q4<|Q6 ?_
 refine QP (fun (v45:Unit)=>⟨[(1,.v (.one (.ptr 0 0))),(3,.v (.one (Di (a0.kind==3)))),(4,.v (.one (Di (a0.kind==4))))],[(0,.cells 45 (Dk a0))],[],1,210,[]⟩) (fun (v45:Unit)=>(Z2 a0)=some r) ?_ ?_
 refine Qd h0 (fun w1_ h1 h0=>?_)
 refine Q0<|UV Z Z Z<|UV Z Z Z ?_
 refine QG (d:=85) (c:=(a0.kind==3)) Z (fun c46=>?_) (fun c46=>?_)
 replace h1:=Qj c46 h1
 refine Q8 Z Z<|Q8 Z Z<|Q8 Z Z<|Q8 Z Z<|Q8 Z Z<|Q8 Z Z<|Q8 Z Z<|Q8 Z Z<|Q8 Z Z<|Q8 Z Z<|Q8 Z Z<|Q8 Z Z<|UU Z Z Z (Qe Z Z) ?_
 refine Qd h1 (fun x47 hx47 h1=>?_)
 refine JH id hx47 h1 (fun x48 hx48 h1=>?_) (fun x49 hx49 h1=>?_)
 refine Q9 Z Z (D6 Z) (Qx Z Z Z (CallE.m (Qt true 3 (.inl x48) hx48)) Z)<|Q3 ?_
 have e:=US h1;subst e
 replace h0:=Kh h0
 exact Qb () (UR (Nat.le_trans hv0 (D6 Z)) Z Z Z Z Z) h0
 refine J6 Z (QE Z Z Z (CallE.d (Qt true 3 (.inr x49) hx49))) ?_
 have e:=US h1;subst e
 replace h0:=KQ h0
 have e:=US h0;subst e
 exact Jg (hQ0 (.panic (Jq (QF 90 3))) _ Zx Z (show StLe _ _ ⟨[],[],[],1,210,[]⟩ from (UR (Nat.le_trans hv0 (D6 Z)) Z Z Z Z Z))) (fun _ _ h=>h)
 replace h1:=Qk c46 h1
 refine UU Z Z Z (Q2 fo_45_5 Z)<|UU Z Z Z (Q5 QO Z Z Z)<|UU Z Z Z (Q7 Z Z Z)<|UV Z Z Z ?_
 refine QG (d:=89) (c:=(a0.fixed==0)) Z (fun c50=>?_) (fun c50=>?_)
 replace h1:=Qj c50 h1
 refine UU Z Z Z (Q2 Yq Z)<|UU Z Z Z (Q5 ZR Z Z Z)<|UU Z Z Z (QA (α:=Ctr) YC Z (.d _))<|UU Z Z Z (Q7 Z Z Z)<|UU Z Z Z (Qe Z Z)<|UV Z Z Z ?_
 refine QG (d:=95) (c:=((a0.ctors.length:Int)==0)) Z (fun c51=>?_) (fun c51=>?_)
 replace h1:=Qj c51 h1
 refine UV Z Z Z<|UU Z Z Z (Qe Z Z)<|UU Z Z Z (Qa Z Z) ?_
 refine Qd h1 (fun x52 hx52 h1=>?_)
 refine JH id hx52 h1 (fun x53 hx53 h1=>?_) (fun x54 hx54 h1=>?_)
 refine Q9 Z Z (D6 Z) (Qx Z Z Z (CallE.m (Qt v41 3 (.inl x53) hx53)) Z)<|Q3 ?_
 have e:=US h1;subst e
 replace h0:=Kh h0
 exact Qb () (UR (Nat.le_trans hv0 (D6 Z)) Z Z Z Z Z) h0
 refine J6 Z (QE Z Z Z (CallE.d (Qt v41 3 (.inr x54) hx54))) ?_
 have e:=US h1;subst e
 replace h0:=KQ h0
 have e:=US h0;subst e
 exact Jg (hQ0 (.panic (Jq (QF 90 3))) _ Zx Z (show StLe _ _ ⟨[],[],[],1,210,[]⟩ from (UR (Nat.le_trans hv0 (D6 Z)) Z Z Z Z Z))) (fun _ _ h=>h)
 replace h1:=Qk c51 h1
 refine Q8 Z Z<|UU Z Z Z (Qa Z Z)<|UU Z Z Z (Qa Z Z) ?_
 refine Qd h1 (fun x55 hx55 h1=>?_)
 refine JH id hx55 h1 (fun x56 hx56 h1=>?_) (fun x57 hx57 h1=>?_)
 refine Q9 Z Z (D6 Z) (Qx Z Z Z (CallE.m (Qt false 3 (.inl x56) hx56)) Z)<|Q3 ?_
 have e:=US h1;subst e
 replace h0:=Kh h0
 exact Qb () (UR (Nat.le_trans hv0 (D6 Z)) Z Z Z Z Z) h0
 refine J6 Z (QE Z Z Z (CallE.d (Qt false 3 (.inr x57) hx57))) ?_
 have e:=US h1;subst e
 replace h0:=KQ h0
 have e:=US h0;subst e
 exact Jg (hQ0 (.panic (Jq (QF 90 3))) _ Zx Z (show StLe _ _ ⟨[],[],[],1,210,[]⟩ from (UR (Nat.le_trans hv0 (D6 Z)) Z Z Z Z Z))) (fun _ _ h=>h)
 replace h1:=Qk c50 h1
 refine Q8 Z Z<|Q8 Z Z<|Q8 Z Z<|Q8 Z Z<|UU Z Z Z (Qa Z Z)<|UV Z Z Z<|Q8 Z Z<|UU Z Z Z (Qa Z Z)<|UU Z Z Z (Qa Z Z) ?_
 refine Qd h1 (fun x58 hx58 h1=>?_)
 refine JH id hx58 h1 (fun x59 hx59 h1=>?_) (fun x60 hx60 h1=>?_)
 refine Q9 Z Z (D6 Z) (Qx Z Z Z (CallE.m (Qt false 3 (.inl x59) hx59)) Z)<|Q3 ?_
 have e:=US h1;subst e
 replace h0:=Kh h0
 exact Qb () (UR (Nat.le_trans hv0 (D6 Z)) Z Z Z Z Z) h0
 refine J6 Z (QE Z Z Z (CallE.d (Qt false 3 (.inr x60) hx60))) ?_
 have e:=US h1;subst e
 replace h0:=KQ h0
 have e:=US h0;subst e
 exact Jg (hQ0 (.panic (Jq (QF 90 3))) _ Zx Z (show StLe _ _ ⟨[],[],[],1,210,[]⟩ from (UR (Nat.le_trans hv0 (D6 Z)) Z Z Z Z Z))) (fun _ _ h=>h)
 intro v45 h0
 unfold Z2 at h0
 refine Q4<|Q6 ?_
 refine QP (fun (v61:Unit)=>⟨[(1,.v (.one (.ptr 0 0))),(3,.v (.one (Di (a0.kind==3)))),(4,.v (.one (Di (a0.kind==4))))],[(0,.cells 45 (Dk a0))],[],1,210,[]⟩) (fun (v61:Unit)=>(GK a0)=some r) ?_ ?_
 refine Qd h0 (fun w1_ h1 h0=>?_)
 refine Q0<|UU Z Z Z (Q2 Y3 Z)<|UU Z Z Z (Q5 QO Z Z Z)<|UU Z Z Z (Q7 Z Z Z)<|UV Z Z Z ?_
 refine QG (d:=103) (c:=(decide (0≤a0.params))) Z (fun c62=>?_) (fun c62=>?_)
 replace h1:=Qj c62 h1
 refine UU Z Z Z (Q2 Y3 Z)<|UU Z Z Z (Q5 QO Z Z Z)<|UU Z Z Z (Q7 Z Z Z)<|UU Z Z Z (Qe Z Z)<|UV Z Z Z ?_
 refine QG (d:=108) (c:=(decide (a0.params≤8))) Z (fun c63=>?_) (fun c63=>?_)
 replace h1:=Qj c63 h1
 refine UU Z Z Z (Q2 fo_45_5 Z)<|UU Z Z Z (Q5 QO Z Z Z)<|UU Z Z Z (Q7 Z Z Z)<|UU Z Z Z (Qe Z Z) ?_
 refine Qd h1 (fun x64 hx64 h1=>?_)
 refine JH id hx64 h1 (fun x65 hx65 h1=>?_) (fun x66 hx66 h1=>?_)
 refine Q9 Z Z (D6 Z) (Qx Z Z Z (CallE.m (Qt (decide (0≤a0.fixed)) 2 (.inl x65) hx65)) Z)<|Q3 ?_
 have e:=US h1;subst e
 replace h0:=Kh h0
 exact Qb () (UR (Nat.le_trans hv0 (D6 Z)) Z Z Z Z Z) h0
 refine J6 Z (QE Z Z Z (CallE.d (Qt (decide (0≤a0.fixed)) 2 (.inr x66) hx66))) ?_
 have e:=US h1;subst e
 replace h0:=KQ h0
 have e:=US h0;subst e
 exact Jg (hQ0 (.panic (Jq (QF 90 2))) _ Zx Z (show StLe _ _ ⟨[],[],[],1,210,[]⟩ from (UR (Nat.le_trans hv0 (D6 Z)) Z Z Z Z Z))) (fun _ _ h=>h)
 replace h1:=Qk c63 h1
 refine Q8 Z Z<|Q8 Z Z<|Q8 Z Z<|UU Z Z Z (Qa Z Z) ?_
 refine Qd h1 (fun x67 hx67 h1=>?_)
 refine JH id hx67 h1 (fun x68 hx68 h1=>?_) (fun x69 hx69 h1=>?_)
 refine Q9 Z Z (D6 Z) (Qx Z Z Z (CallE.m (Qt false 2 (.inl x68) hx68)) Z)<|Q3 ?_
 have e:=US h1;subst e
 replace h0:=Kh h0
 exact Qb () (UR (Nat.le_trans hv0 (D6 Z)) Z Z Z Z Z) h0
 refine J6 Z (QE Z Z Z (CallE.d (Qt false 2 (.inr x69) hx69))) ?_
 have e:=US h1;subst e
 replace h0:=KQ h0
 have e:=US h0;subst e
 exact Jg (hQ0 (.panic (Jq (QF 90 2))) _ Zx Z (show StLe _ _ ⟨[],[],[],1,210,[]⟩ from (UR (Nat.le_trans hv0 (D6 Z)) Z Z Z Z Z))) (fun _ _ h=>h)
 replace h1:=Qk c62 h1
 refine Q8 Z Z<|Q8 Z Z<|Q8 Z Z<|UU Z Z Z (Qa Z Z)<|UV Z Z Z<|Q8 Z Z<|Q8 Z Z<|Q8 Z Z<|UU Z Z Z (Qa Z Z) ?_
 refine Qd h1 (fun x70 hx70 h1=>?_)
 refine JH id hx70 h1 (fun x71 hx71 h1=>?_) (fun x72 hx72 h1=>?_)
 refine Q9 Z Z (D6 Z) (Qx Z Z Z (CallE.m (Qt false 2 (.inl x71) hx71)) Z)<|Q3 ?_
 have e:=US h1;subst e
 replace h0:=Kh h0
 exact Qb () (UR (Nat.le_trans hv0 (D6 Z)) Z Z Z Z Z) h0
 refine J6 Z (QE Z Z Z (CallE.d (Qt false 2 (.inr x72) hx72))) ?_
 have e:=US h1;subst e
 replace h0:=KQ h0
 have e:=US h0;subst e
 exact Jg (hQ0 (.panic (Jq (QF 90 2))) _ Zx Z (show StLe _ _ ⟨[],[],[],1,210,[]⟩ from (UR (Nat.le_trans hv0 (D6 Z)) Z Z Z Z Z))) (fun _ _ h=>h)
 intro v61 h0
 unfold GK at h0
 refine Q4<|Q6 ?_
 refine QP (fun (v73:Unit)=>⟨[(1,.v (.one (.ptr 0 0))),(3,.v (.one (Di (a0.kind==3))))],[(0,.cells 45 (Dk a0))],[],1,210,[]⟩) (fun (v73:Unit)=>(Option.bind (Qr (ZI a0) QI 0) (Sum.elim (fun (o74:Unit)=>Km a0) (fun o=>some o)))=some r) ?_ ?_
 refine Qd h0 (fun w1_ h1 h0=>?_)
 refine Q0<|UU Z Z Z (Q2 Yq Z)<|UU Z Z Z (Q5 ZR Z Z Z)<|UU Z Z Z (QA (α:=Ctr) YC Z (.d _))<|UU Z Z Z (Q7 Z Z Z)<|UV Z Z Z ?_
 refine QG (d:=118) (c:=(decide ((a0.ctors.length:Int)≤32))) Z (fun c74=>?_) (fun c74=>?_)
 replace h1:=Qj c74 h1
 refine UV Z Z Z<|UU Z Z Z (Jj Z)<|UV Z Z Z ?_
 refine QG (d:=121) (c:=(!(a0.kind==4))) Z (fun c75=>?_) (fun c75=>?_)
 replace h1:=Qj c75 h1
 refine Q8 Z Z<|Q8 Z Z<|Q8 Z Z<|Q8 Z Z<|Q8 Z Z<|Q8 Z Z<|Q8 Z Z<|Q8 Z Z<|Q8 Z Z<|Q8 Z Z<|UU Z Z Z (Qe Z Z)<|UU Z Z Z (Qe Z Z) ?_
 refine Qd h1 (fun x76 hx76 h1=>?_)
 refine JH id hx76 h1 (fun x77 hx77 h1=>?_) (fun x78 hx78 h1=>?_)
 refine Q9 Z Z (D6 Z) (Qx Z Z Z (CallE.m (Qt true 6 (.inl x77) hx77)) Z)<|Q3 ?_
 have e:=US h1;subst e
 replace h0:=Kh h0
 exact Qb () (UR (Nat.le_trans hv0 (D6 Z)) Z Z Z Z Z) h0
 refine J6 Z (QE Z Z Z (CallE.d (Qt true 6 (.inr x78) hx78))) ?_
 have e:=US h1;subst e
 replace h0:=KQ h0
 have e:=US h0;subst e
 exact Jg (hQ0 (.panic (Jq (QF 90 6))) _ Zx Z (show StLe _ _ ⟨[],[],[],1,210,[]⟩ from (UR (Nat.le_trans hv0 (D6 Z)) Z Z Z Z Z))) (fun _ _ h=>h)
 replace h1:=Qk c75 h1
 refine UU Z Z Z (Q2 Yw Z)<|UU Z Z Z (Q5 K1 Z Z Z)<|UU Z Z Z (QA (α:=Fn) YN Z (.d _))<|UU Z Z Z (Q7 Z Z Z)<|UV Z Z Z ?_
 refine QG (d:=126) (c:=(decide (1≤(a0.funs.length:Int)))) Z (fun c79=>?_) (fun c79=>?_)
 replace h1:=Qj c79 h1
 refine UU Z Z Z (Q2 Yw Z)<|UU Z Z Z (Q5 K1 Z Z Z)<|UU Z Z Z (QA (α:=Fn) YN Z (.d _))<|UU Z Z Z (Q7 Z Z Z)<|UU Z Z Z (Qe Z Z)<|UU Z Z Z (Qa Z Z)<|UU Z Z Z (Qe Z Z) ?_
 refine Qd h1 (fun x80 hx80 h1=>?_)
 refine JH id hx80 h1 (fun x81 hx81 h1=>?_) (fun x82 hx82 h1=>?_)
 refine Q9 Z Z (D6 Z) (Qx Z Z Z (CallE.m (Qt (decide ((a0.funs.length:Int)≤8)) 6 (.inl x81) hx81)) Z)<|Q3 ?_
 have e:=US h1;subst e
 replace h0:=Kh h0
 exact Qb () (UR (Nat.le_trans hv0 (D6 Z)) Z Z Z Z Z) h0
 refine J6 Z (QE Z Z Z (CallE.d (Qt (decide ((a0.funs.length:Int)≤8)) 6 (.inr x82) hx82))) ?_
 have e:=US h1;subst e
 replace h0:=KQ h0
 have e:=US h0;subst e
 exact Jg (hQ0 (.panic (Jq (QF 90 6))) _ Zx Z (show StLe _ _ ⟨[],[],[],1,210,[]⟩ from (UR (Nat.le_trans hv0 (D6 Z)) Z Z Z Z Z))) (fun _ _ h=>h)
 replace h1:=Qk c79 h1
 refine Q8 Z Z<|Q8 Z Z<|Q8 Z Z<|Q8 Z Z<|UU Z Z Z (Qa Z Z)<|UU Z Z Z (Qa Z Z)<|UU Z Z Z (Qe Z Z) ?_
 refine Qd h1 (fun x83 hx83 h1=>?_)
 refine JH id hx83 h1 (fun x84 hx84 h1=>?_) (fun x85 hx85 h1=>?_)
 refine Q9 Z Z (D6 Z) (Qx Z Z Z (CallE.m (Qt false 6 (.inl x84) hx84)) Z)<|Q3 ?_
 have e:=US h1;subst e
 replace h0:=Kh h0
 exact Qb () (UR (Nat.le_trans hv0 (D6 Z)) Z Z Z Z Z) h0
 refine J6 Z (QE Z Z Z (CallE.d (Qt false 6 (.inr x85) hx85))) ?_
 have e:=US h1;subst e
 replace h0:=KQ h0
 have e:=US h0;subst e
 exact Jg (hQ0 (.panic (Jq (QF 90 6))) _ Zx Z (show StLe _ _ ⟨[],[],[],1,210,[]⟩ from (UR (Nat.le_trans hv0 (D6 Z)) Z Z Z Z Z))) (fun _ _ h=>h)
 replace h1:=Qk c74 h1
 refine Q8 Z Z<|Q8 Z Z<|Q8 Z Z<|Q8 Z Z<|Q8 Z Z<|Q8 Z Z<|Q8 Z Z<|Q8 Z Z<|Q8 Z Z<|Q8 Z Z<|Q8 Z Z<|Q8 Z Z<|Q8 Z Z<|Q8 Z Z ?_
 refine UU Z Z Z (Qa Z Z) ?_
 refine Qd h1 (fun x86 hx86 h1=>?_)
 refine JH id hx86 h1 (fun x87 hx87 h1=>?_) (fun x88 hx88 h1=>?_)
 refine Q9 Z Z (D6 Z) (Qx Z Z Z (CallE.m (Qt false 6 (.inl x87) hx87)) Z)<|Q3 ?_
 have e:=US h1;subst e
 replace h0:=Kh h0
 exact Qb () (UR (Nat.le_trans hv0 (D6 Z)) Z Z Z Z Z) h0
 refine J6 Z (QE Z Z Z (CallE.d (Qt false 6 (.inr x88) hx88))) ?_
 have e:=US h1;subst e
 replace h0:=KQ h0
 have e:=US h0;subst e
 exact Jg (hQ0 (.panic (Jq (QF 90 6))) _ Zx Z (show StLe _ _ ⟨[],[],[],1,210,[]⟩ from (UR (Nat.le_trans hv0 (D6 Z)) Z Z Z Z Z))) (fun _ _ h=>h)
 intro v73 h0
 refine Q4<|Q6<|Q6<|Q0<|UU Z Z Z (Q2 Yw Z)<|UU Z Z Z (Q5 K1 Z Z Z)<|UU Z Z Z (QA (α:=Fn) YN Z (.d _))<|UV Z Z Z<|Q3<|Q4<|Qh ?_
 refine J2 0 (fun (o89:Unit)=>⟨[(1,.v (.one (.ptr 0 0))),(3,.v (.one (Di (a0.kind==3))))],[(0,.cells 45 (Dk a0))],[],1,210,[]⟩) (fun (o89:Unit)=>(Km a0)=some r) ?_ ?_
 refine Qd h0 (fun o90 hl1 h0=>?_)
 refine J1 (ZI a0) (fun s1=>⟨[(1,.v (.one (.ptr 0 0))),(3,.v (.one (Di (a0.kind==3)))),(136,.v (.one (Df a0.funs))),(137,.v (.one (Dh (a0.funs.length:Int)))),(138,.v (.one (Dh s1)))],[(0,.cells 45 (Dk a0))],[],1,210,[]⟩) 0 o90 (UR (Nat.le_trans hv0 (D6 Z)) Z Z Z Z Z) hl1 (fun s1 n1 oo1 h1 ho1=>?_)
 unfold ZI at h1
 refine Q6<|Q0<|UU Z Z Z (Q7 Z Z Z)<|Q3<|Q4<|Q6 ?_
 refine Qg (b:=(decide (s1 < (a0.funs.length:Int)))) Z (fun c91=>?_) (fun c91=>?_)
 replace h1:=Qj c91 h1
 refine Qn<|Q4<|Q6<|Qh<|Q6<|Q0 ?_
 refine Qd h1 (fun x92 hx92 h1=>?_)
 refine UU Z Z Z (QC (α:=Fn) YN Z (.d _) Z hx92)<|UU Z Z Z (Qw (x92:Fn) ZZ Z)<|Q9 Z Z (D6 Z) (Qm WJ Z)<|Qy Z Z (QD (x92:Fn) ZZ Z Z Z Z Z)<|Q3<|Q4 ?_
 refine QP (fun (v93:Unit)=>⟨[(1,.v (.one (.ptr 0 0))),(3,.v (.one (Di (a0.kind==3)))),(136,.v (.one (Df a0.funs))),(137,.v (.one (Dh (a0.funs.length:Int)))),(138,.v (.one (Dh s1)))],[(0,.cells 45 (Dk a0)),(1,.cells 76 (Dk x92))],[],2,210,[]⟩) (fun (v93:Unit)=>(some (.next (J9 (s1+1))))=some oo1) ?_ ?_
 refine Qd h1 (fun w2_ h2 h1=>?_)
 refine Q0<|UU Z Z Z (Q2 fo_76_2 Z)<|UU Z Z Z (Q5 QO Z Z Z)<|UU Z Z Z (Q7 Z Z Z)<|UV Z Z Z ?_
 refine QG (d:=145) (c:=(decide (1≤x92.arity))) Z (fun c94=>?_) (fun c94=>?_)
 replace h2:=Qj c94 h2
 refine UU Z Z Z (Q2 fo_76_2 Z)<|UU Z Z Z (Q5 QO Z Z Z)<|UU Z Z Z (Q7 Z Z Z)<|UU Z Z Z (Qe Z Z) ?_
 refine Qd h2 (fun x95 hx95 h2=>?_)
 refine JH id hx95 h2 (fun x96 hx96 h2=>?_) (fun x97 hx97 h2=>?_)
 refine Q9 Z Z (D6 Z) (Qx Z Z Z (CallE.m (Qt (decide (x92.arity≤16)) 3 (.inl x96) hx96)) Z)<|Q3 ?_
 have e:=US h2;subst e
 replace h1:=Kh h1
 exact Qb () (UR (Nat.le_trans hv0 (D6 Z)) Z Z Z Z Z) h1
 refine J6 Z (QE Z Z Z (CallE.d (Qt (decide (x92.arity≤16)) 3 (.inr x97) hx97))) ?_
 have e:=US h2;subst e
 replace h1:=KQ h1
 have e:=US h1;subst e
 have e_:_=_:=ho1
 subst e_
 try dsimp only [Sum.elim_inl,Sum.elim_inr] at h0
 have e:=US h0;subst e
 exact Jg (hQ0 (.panic (Jq (QF 90 3))) _ Zx Z (show StLe _ _ ⟨[],[],[],1,210,[]⟩ from (UR (Nat.le_trans hv0 (D6 Z)) Z Z Z Z Z))) (fun _ _ h=>h)
 replace h2:=Qk c94 h2
 refine Q8 Z Z<|Q8 Z Z<|Q8 Z Z<|UU Z Z Z (Qa Z Z) ?_
 refine Qd h2 (fun x98 hx98 h2=>?_)
 refine JH id hx98 h2 (fun x99 hx99 h2=>?_) (fun x100 hx100 h2=>?_)
 refine Q9 Z Z (D6 Z) (Qx Z Z Z (CallE.m (Qt false 3 (.inl x99) hx99)) Z)<|Q3 ?_
 have e:=US h2;subst e
 replace h1:=Kh h1
 exact Qb () (UR (Nat.le_trans hv0 (D6 Z)) Z Z Z Z Z) h1
 refine J6 Z (QE Z Z Z (CallE.d (Qt false 3 (.inr x100) hx100))) ?_
 have e:=US h2;subst e
 replace h1:=KQ h1
 have e:=US h1;subst e
 have e_:_=_:=ho1
 subst e_
 try dsimp only [Sum.elim_inl,Sum.elim_inr] at h0
 have e:=US h0;subst e
 exact Jg (hQ0 (.panic (Jq (QF 90 3))) _ Zx Z (show StLe _ _ ⟨[],[],[],1,210,[]⟩ from (UR (Nat.le_trans hv0 (D6 Z)) Z Z Z Z Z))) (fun _ _ h=>h)
 intro v93 h1
 refine Qf<|Q4<|Q0<|UU Z Z Z (Q7 Z Z Z)<|UV Z Z Z<|Q3 ?_
 have e:=US h1;subst e
 refine QV (J9 (s1+1)) (UR (Nat.le_trans hv0 (D6 Z)) Z Z Z Z Z) ho1
 replace h1:=Qk c91 h1
 refine J8<|Qq<|Qq ?_
 have e:=US h1;subst e
 have e_:_=_:=ho1
 subst e_
 exact J0 () (UR (Nat.le_trans hv0 (D6 Z)) Z Z Z Z Z) h0
 intro o89 h0
 unfold Km at h0
 refine QQ<|Q4<|Q6<|Q0<|UV Z Z Z<|Q3<|Q4 ?_
 refine Qg (b:=(a0.kind==3)) Z (fun c101=>?_) (fun c101=>?_)
 replace h0:=Qj c101 h0
 refine Q6<|Q0<|UU Z Z Z (Q2 JP Z)<|UU Z Z Z (Q2 KN Z)<|UU Z Z Z (Q5 QO Z Z Z)<|UU Z Z Z (Q2 Y3 Z)<|UU Z Z Z (Q5 QO Z Z Z)<|UU Z Z Z (Q7 Z Z Z)<|UW Z Z Z<|Q3<|Q4<|Q6 ?_
 refine QP (fun (v102:Unit)=>⟨[(1,.v (.one (.ptr 0 0)))],[(0,.cells 45 (Dk a0))],[],1,210,[]⟩) (fun (v102:Unit)=>(Option.bind (Qr (ZH a0) QI ([a0.ty],0)) (fun (o103:(List Tm))=>Option.bind (Qr (Zn o103 a0) QI 0) (Sum.elim (fun (o104:Unit)=>some (.inl ())) (fun o=>some o))))=some r) ?_ ?_
 refine Qd h0 (fun w1_ h1 h0=>?_)
 refine Q0<|UV Z Z Z<|UU Z Z Z (Q7 Z Z Z)<|UV Z Z Z ?_
 refine QG (d:=161) (c:=((J9 (a0.rcr.params - a0.params))==0)) Z (fun c103=>?_) (fun c103=>?_)
 replace h1:=Qj c103 h1
 refine Q8 Z Z<|Q8 Z Z<|UU Z Z Z (Qe Z Z)<|UV Z Z Z<|UU Z Z Z (Q2 JP Z)<|UU Z Z Z (Q2 Gs Z)<|UU Z Z Z (Q5 Yb Z Z Z)<|UU Z Z Z (QA (α:=Tm) Jx Z (.d _))<|UU Z Z Z (Q2 Yq Z)<|UU Z Z Z (Q5 ZR Z Z Z)<|UU Z Z Z (QA (α:=Ctr) YC Z (.d _))<|UU Z Z Z (Q7 Z Z Z)<|UU Z Z Z (Qe Z Z) ?_
 refine Qd h1 (fun x104 hx104 h1=>?_)
 refine JH id hx104 h1 (fun x105 hx105 h1=>?_) (fun x106 hx106 h1=>?_)
 refine Q9 Z Z (D6 Z) (Qx Z Z Z (CallE.m (Qt ((a0.rcr.rules.length:Int)==(a0.ctors.length:Int)) 3 (.inl x105) hx105)) Z)<|Q3 ?_
 have e:=US h1;subst e
 replace h0:=Kh h0
 exact Qb () (UR (Nat.le_trans hv0 (D6 Z)) Z Z Z Z Z) h0
 refine J6 Z (QE Z Z Z (CallE.d (Qt ((a0.rcr.rules.length:Int)==(a0.ctors.length:Int)) 3 (.inr x106) hx106))) ?_
 have e:=US h1;subst e
 replace h0:=KQ h0
 have e:=US h0;subst e
 exact Jg (hQ0 (.panic (Jq (QF 90 3))) _ Zx Z (show StLe _ _ ⟨[],[],[],1,210,[]⟩ from (UR (Nat.le_trans hv0 (D6 Z)) Z Z Z Z Z))) (fun _ _ h=>h)
 replace h1:=Qk c103 h1
 refine UV Z Z Z<|UU Z Z Z (Q7 Z Z Z)<|UU Z Z Z (Qa Z Z)<|UV Z Z Z ?_
 refine QG (d:=165) (c:=((J9 (a0.rcr.params - a0.params))==1)) Z (fun c107=>?_) (fun c107=>?_)
 replace h1:=Qj c107 h1
 refine UU Z Z Z (Q2 JP Z)<|UU Z Z Z (Q2 Gs Z)<|UU Z Z Z (Q5 Yb Z Z Z)<|UU Z Z Z (QA (α:=Tm) Jx Z (.d _))<|UU Z Z Z (Q2 Yq Z)<|UU Z Z Z (Q5 ZR Z Z Z)<|UU Z Z Z (QA (α:=Ctr) YC Z (.d _))<|UU Z Z Z (Q7 Z Z Z)<|UU Z Z Z (Qe Z Z) ?_
 refine Qd h1 (fun x108 hx108 h1=>?_)
 refine JH id hx108 h1 (fun x109 hx109 h1=>?_) (fun x110 hx110 h1=>?_)
 refine Q9 Z Z (D6 Z) (Qx Z Z Z (CallE.m (Qt ((a0.rcr.rules.length:Int)==(a0.ctors.length:Int)) 3 (.inl x109) hx109)) Z)<|Q3 ?_
 have e:=US h1;subst e
 replace h0:=Kh h0
 exact Qb () (UR (Nat.le_trans hv0 (D6 Z)) Z Z Z Z Z) h0
 refine J6 Z (QE Z Z Z (CallE.d (Qt ((a0.rcr.rules.length:Int)==(a0.ctors.length:Int)) 3 (.inr x110) hx110))) ?_
 have e:=US h1;subst e
 replace h0:=KQ h0
 have e:=US h0;subst e
 exact Jg (hQ0 (.panic (Jq (QF 90 3))) _ Zx Z (show StLe _ _ ⟨[],[],[],1,210,[]⟩ from (UR (Nat.le_trans hv0 (D6 Z)) Z Z Z Z Z))) (fun _ _ h=>h)
 replace h1:=Qk c107 h1
 refine Q8 Z Z<|Q8 Z Z<|Q8 Z Z<|Q8 Z Z<|Q8 Z Z<|Q8 Z Z<|Q8 Z Z<|Q8 Z Z<|UU Z Z Z (Qa Z Z) ?_
 refine Qd h1 (fun x111 hx111 h1=>?_)
 refine JH id hx111 h1 (fun x112 hx112 h1=>?_) (fun x113 hx113 h1=>?_)
 refine Q9 Z Z (D6 Z) (Qx Z Z Z (CallE.m (Qt false 3 (.inl x112) hx112)) Z)<|Q3 ?_
 have e:=US h1;subst e
 replace h0:=Kh h0
 exact Qb () (UR (Nat.le_trans hv0 (D6 Z)) Z Z Z Z Z) h0
 refine J6 Z (QE Z Z Z (CallE.d (Qt false 3 (.inr x113) hx113))) ?_
 have e:=US h1;subst e
 replace h0:=KQ h0
 have e:=US h0;subst e
 exact Jg (hQ0 (.panic (Jq (QF 90 3))) _ Zx Z (show StLe _ _ ⟨[],[],[],1,210,[]⟩ from (UR (Nat.le_trans hv0 (D6 Z)) Z Z Z Z Z))) (fun _ _ h=>h)
 intro v102 h0
 refine Q4<|Q6<|Q0<|UU Z Z Z (Q2 KM Z)<|UU Z Z Z (Qi QW Z Z Z Z)<|Q9 Z Z (D6 Z) (Yt (α:=Tm) (a0.ty) Jx KV Z Z (D6 Z) (D6 Z) Z Z (.cons (.d _) (.cons (.d _) (.cons (.d _) (.cons (.d _) (.cons (.d _) .nil))))) Z)<|UW Z Z Z<|Q3<|Q4<|Q6<|Q6<|Q0<|UU Z Z Z (Q2 Yq Z)<|UU Z Z Z (Q5 ZR Z Z Z) ?_
 refine UU Z Z Z (QA (α:=Ctr) YC Z (.d _))<|UV Z Z Z<|Q3<|Q4<|Qh ?_
 refine J2 2 (fun (o114:(List Tm))=>⟨[(1,.v (.one (.ptr 0 0))),(9,.v (.one (Dj 1 o114)))],[(0,.cells 45 (Dk a0))],[(1,some ⟨33,5,(Enc.encL o114).length,[]⟩)],2,210,[]⟩) (fun (o114:(List Tm))=>(Option.bind (Qr (Zn o114 a0) QI 0) (Sum.elim (fun (o115:Unit)=>some (.inl ())) (fun o=>some o)))=some r) ?_ ?_
 refine Qd h0 (fun o115 hl1 h0=>?_)
 refine J1 (ZH a0) (fun s1=>⟨[(1,.v (.one (.ptr 0 0))),(9,.v (.one (Dj 1 s1.1))),(180,.v (.one (Df a0.ctors))),(181,.v (.one (Dh (a0.ctors.length:Int)))),(182,.v (.one (Dh s1.2)))],[(0,.cells 45 (Dk a0))],[(1,some ⟨33,5,(Enc.encL s1.1).length,[]⟩)],2,210,[]⟩) ([a0.ty],0) o115 (UR (Nat.le_trans hv0 (D6 Z)) Z Z Z Z Z) hl1 (fun s1 n1 oo1 h1 ho1=>?_)
 unfold ZH at h1
 refine Q6<|Q0<|UU Z Z Z (Q7 Z Z Z)<|Q3<|Q4<|Q6 ?_
 refine Qg (b:=(decide (s1.2 < (a0.ctors.length:Int)))) Z (fun c116=>?_) (fun c116=>?_)
 replace h1:=Qj c116 h1
 refine Qn<|Q4<|Q6<|Qh<|Q6<|Q0 ?_
 refine Qd h1 (fun x117 hx117 h1=>?_)
 refine UU Z Z Z (QC (α:=Ctr) YC Z (.d _) Z hx117)<|UU Z Z Z (Qw (x117:Ctr) K0 Z)<|Q9 Z Z (D6 Z) (Qm WD Z)<|Qy Z Z (QD (x117:Ctr) K0 Z Z Z Z Z)<|Q3<|Q4<|Q0<|UV Z Z Z<|UU Z Z Z (Q2 KK Z)<|UU Z Z Z (Qi QW Z Z Z Z)<|Q9 Z Z (D6 Z) (Yt (α:=Tm) (x117.ty) Jx KV Z Z (D6 Z) (D6 Z) Z Z (.cons (.d _) (.cons (.d _) (.cons (.d _) (.cons (.d _) (.cons (.d _) .nil))))) Z) ?_
 refine YR h1 (fun g118 h1=>?_)
 refine Q9 Z Z (D6 Z) (Zv (α:=Tm) Jx el_33 Z Z Z Z Z (.app _ _) g118)<|UW Z Z Z<|Q3<|Qf<|Q4<|Q0<|UU Z Z Z (Q7 Z Z Z)<|UV Z Z Z<|Q3 ?_
 have e:=US h1;subst e
 refine QV ((s1.1++([x117.ty])),(J9 (s1.2+1))) (UR (Nat.le_trans hv0 (D6 Z)) Z Z Z Z Z) ho1
 replace h1:=Qk c116 h1
 refine J8<|Qq<|Qq ?_
 have e:=US h1;subst e
 have e_:_=_:=ho1
 subst e_
 exact J0 s1.1 (UR (Nat.le_trans hv0 (D6 Z)) Z Z Z Z Z) h0
 intro o114 h0
 refine QQ<|Q4<|Q6<|Q0<|UV Z Z Z<|UU Z Z Z (QA (α:=Tm) Jx Z (.app _ _))<|UV Z Z Z<|Q3<|Q4<|Qh ?_
 refine J2 4 (fun (o119:Unit)=>⟨[],[(0,.cells 45 (Dk a0))],[(1,some ⟨33,5,(Enc.encL o114).length,[]⟩)],2,210,[]⟩) (fun (o119:Unit)=>(some (.inl ()))=some r) ?_ ?_
 refine Qd h0 (fun o120 hl1 h0=>?_)
 refine J1 (Zn o114 a0) (fun s1=>⟨[(1,.v (.one (.ptr 0 0))),(192,.v (.one (Dj 1 o114))),(193,.v (.one (Dh (o114.length:Int)))),(194,.v (.one (Dh s1)))],[(0,.cells 45 (Dk a0))],[(1,some ⟨33,5,(Enc.encL o114).length,[]⟩)],2,210,[]⟩) 0 o120 (UR (Nat.le_trans hv0 (D6 Z)) Z Z Z Z Z) hl1 (fun s1 n1 oo1 h1 ho1=>?_)
 unfold Zn at h1
 refine Q6<|Q0<|UU Z Z Z (Q7 Z Z Z)<|Q3<|Q4<|Q6 ?_
 refine Qg (b:=(decide (s1 < (o114.length:Int)))) Z (fun c121=>?_) (fun c121=>?_)
 replace h1:=Qj c121 h1
 refine Qn<|Q4<|Q6<|Qh<|Q6<|Q0 ?_
 refine Qd h1 (fun x122 hx122 h1=>?_)
 refine UU Z Z Z (QC (α:=Tm) Jx Z (.app _ _) Z hx122)<|UU Z Z Z (Qw (x122:Tm) QW Z)<|Q9 Z Z (D6 Z) (Qm KV Z)<|Qy Z Z (QD (x122:Tm) QW Z Z Z Z Z)<|Q3<|Q4<|Q6<|Q0<|UU Z Z Z (QM (x122:Tm) QW Z Z) ?_
 refine Qd h1 (fun x123 hx123 h1=>?_)
 refine Q9 Z Z (D6 Z) (Qp (m64_ok x122 x123 hx123) Z (.cons (.agg (.cons (.d _) (.cons (.d _) (.cons (.d _) (.cons (.d _) (.cons (.d _) .nil)))))) .nil))<|UV Z Z Z<|UU Z Z Z (J4 Z Z)<|UU Z Z Z (J4 Z Z)<|Q9 Z Z (D6 Z) (Qm KV Z)<|UW Z Z Z<|Qy Z Z (QD (x123.2:Tm) QW Z Z Z Z Z)<|Q3<|Q4<|Q0<|UV Z Z Z<|UU Z Z Z (QA (α:=Tm) Jx Z (.d _))<|UU Z Z Z (Q2 fo_45_5 Z)<|UU Z Z Z (Q5 QO Z Z Z) ?_
 refine UU Z Z Z (Q7 Z Z Z) ?_
 refine Qd h1 (fun x124 hx124 h1=>?_)
 refine JH id hx124 h1 (fun x125 hx125 h1=>?_) (fun x126 hx126 h1=>?_)
 refine Q9 Z Z (D6 Z) (Qx Z Z Z (CallE.m (Qt (decide (a0.fixed≤(x123.1.length:Int))) 3 (.inl x125) hx125)) Z)<|Q3<|Qf<|Q4<|Q0<|UU Z Z Z (Q7 Z Z Z)<|UV Z Z Z<|Q3 ?_
 have e:=US h1;subst e
 refine QV (J9 (s1+1)) (UR (Nat.le_trans hv0 (D6 Z)) Z Z Z Z Z) ho1
 refine J6 Z (QE Z Z Z (CallE.d (Qt (decide (a0.fixed≤(x123.1.length:Int))) 3 (.inr x126) hx126))) ?_
 have e:=US h1;subst e
 have e_:_=_:=ho1
 subst e_
 try dsimp only [Sum.elim_inl,Sum.elim_inr] at h0
 have e:=US h0;subst e
 exact Jg (hQ0 (.panic (Jq (QF 90 3))) _ Zx Z (show StLe _ _ ⟨[],[],[],1,210,[]⟩ from (UR (Nat.le_trans hv0 (D6 Z)) Z Z Z Z Z))) (fun _ _ h=>h)
 replace h1:=Qk c121 h1
 refine J8<|Qq<|Qq ?_
 have e:=US h1;subst e
 have e_:_=_:=ho1
 subst e_
 exact J0 () (UR (Nat.le_trans hv0 (D6 Z)) Z Z Z Z Z) h0
 intro o119 h0
 refine QQ ?_
 have e:=US h0;subst e
 exact hQ0 _ _ Uo Z (show StLe _ _ ⟨[],[],[],1,210,[]⟩ from (UR (Nat.le_trans hv0 (D6 Z)) Z Z Z Z Z))
 replace h0:=Qk c101 h0
 refine Qn ?_
 have e:=US h0;subst e
 exact hQ0 _ _ Uo Z (show StLe _ _ ⟨[],[],[],1,210,[]⟩ from (UR (Nat.le_trans hv0 (D6 Z)) Z Z Z Z Z))
noncomputable def Kk (x1:(List Dx)) (a2:Qc Dx Ent) (s1:Int×(Qc Dx Bool)):Option (LO (Int×(Qc Dx Bool)) (((Qc Dx Bool))⊕(Unit⊕Int))) :=
 cond (decide (s1.1 < (x1.length:Int)))
   (Option.bind (JC x1 s1.1) fun (x4:Dx) =>
 Option.bind (Uq x4) fun (x5:Bool) =>
 Option.bind (Jr x5 29) (Sum.elim (fun (x7:Unit)=>Option.bind (cond (!(Yl a2 x4))
   (Option.bind (Jr (!(Ql s1.2 x4)) 8) (Sum.elim (fun (x12:Unit)=>some (.inl ())) (fun (x13:Unit)=>some (.inr (.inr 8)))))
   (Option.bind (Jr false 8) (Sum.elim (fun (x15:Unit)=>some (.inl ())) (fun (x16:Unit)=>some (.inr (.inr 8)))))) (Sum.elim (fun (v9:Unit)=>some (.next ((J9 (s1.1+1)),(QZ s1.2 x4 true)))) (fun o=>some (.done (.inr o))))) (fun (x8:Unit)=>some (.done (.inr (.inr 29))))))
   (some (.done (.inl s1.2)))
noncomputable abbrev m45f7_h0 (p0_:Qc Dx Ent) (p1_:Dx):HB :=
 .cells 35 [Dh ((Ql p0_ p1_).kind),Dh ((Ql p0_ p1_).decl),Dh ((Ql p0_ p1_).item),Dh ((Ql p0_ p1_).params),Dh (((Ql p0_ p1_).ty).kind),Dh (((Ql p0_ p1_).ty).index),Jm (((Ql p0_ p1_).ty).name),Df (((Ql p0_ p1_).ty).levels:List Lvl),Df (((Ql p0_ p1_).ty).kids:List Tm)]
noncomputable abbrev m45f7_h1 (p0_:List Dcl) (p1_:Qc Dx Ent) (p2_:Dcl) (p3_:Int×(Qc Dx Bool)) (p4_:Dx):List (Nat×HB) :=
 [(0,.cells 62 [Df p0_,.mp 1]),(1,.mp (QR p1_.1) p1_.2),(2,.cells 45 (Dk p2_)),(3,.mp (QR p3_.2.1) p3_.2.2),(4,m45f7_h0 p1_ p4_)]
noncomputable def Wy (a0:Dcl) (a1:List Dcl) (a2:Qc Dx Ent):Option (Unit⊕Int) :=
 Option.bind (UC a0) fun (x1:(List Dx)) =>
 Option.bind (Qr (Kk x1 a2) QI (0,gmNil)) (Sum.elim (fun (o2:(Qc Dx Bool))=>some (.inl ())) (fun o=>some o))
theorem m45f7_ok (a0:Dcl) (a1:List Dcl) (a2:Qc Dx Ent) (r:Unit⊕Int) (h0:Wy a0 a1 a2=some r):CallE Try.prog 45 [.one (.ptr 0 0),.agg (Dk a0)] ⟨[(0,.cells 62 [Df a1,.mp 1]),(1,.mp (QR a2.1) a2.2)],[],2⟩ ((Sum.elim (fun (r0:Unit)=>((.ret []):EK)) (fun (r1:Int)=>((.pan (QF 90 r1)):EK))) r) ⟨((Sum.elim (fun (r0:Unit)=>(⟨[],[(0,.cells 62 [Df a1,.mp 1]),(1,.mp (QR a2.1) a2.2)],[],4,41,[]⟩:St)) (fun (r1:Int)=>(⟨[],[(0,.cells 62 [Df a1,.mp 1]),(1,.mp (QR a2.1) a2.2)],[],4,41,[]⟩:St))) r).hp,((Sum.elim (fun (r0:Unit)=>(⟨[],[(0,.cells 62 [Df a1,.mp 1]),(1,.mp (QR a2.1) a2.2)],[],4,41,[]⟩:St)) (fun (r1:Int)=>(⟨[],[(0,.cells 62 [Df a1,.mp 1]),(1,.mp (QR a2.1) a2.2)],[],4,41,[]⟩:St))) r).tk,((Sum.elim (fun (r0:Unit)=>(⟨[],[(0,.cells 62 [Df a1,.mp 1]),(1,.mp (QR a2.1) a2.2)],[],4,41,[]⟩:St)) (fun (r1:Int)=>(⟨[],[(0,.cells 62 [Df a1,.mp 1]),(1,.mp (QR a2.1) a2.2)],[],4,41,[]⟩:St))) r).nx⟩:=by
 unfold Wy at h0
 refine Jy r ((Sum.elim (fun (r0:Unit)=>(⟨[],[(0,.cells 62 [Df a1,.mp 1]),(1,.mp (QR a2.1) a2.2)],[],4,41,[]⟩:St)) (fun (r1:Int)=>(⟨[],[(0,.cells 62 [Df a1,.mp 1]),(1,.mp (QR a2.1) a2.2)],[],4,41,[]⟩:St)))) ((Sum.elim (fun (r0:Unit)=>((.ret []):EK)) (fun (r1:Int)=>((.pan (QF 90 r1)):EK)))) rfl rfl en_45 (D6 rfl) (fun z_=>by cases z_ with
 | inl _=>exact rfl
 | inr _=>exact rfl) (fun z_=>by cases z_ with
 | inl _=>exact (WU .nil)
 | inr _=>exact U1) (fun w0 M V0 Q hv0 hQ0=>?_)
 simp only [Ja]
 refine Q6<|Q0<|Q9 Z Z (D6 Z) (QU Z)<|Q3<|Q4<|Q6<|Q0<|Q9 Z Z (D6 Z) (OpOK.makeMapG Dx Bool)<|UW Z Z Z<|Q3<|Q4<|Q6<|Q0<|UU Z Z Z (QM (a0:Dcl) JN Z Z) ?_
 refine Qd h0 (fun x1 hx1 h0=>?_)
 refine Q9 Z Z (D6 Z) (Qp (m20_ok a0 x1 hx1) Z (.cons (.agg (.cons (.d _) (.cons (.d _) (.cons (.d _) (.cons (.d _) (.cons (.d _) (.cons (.d _) (.cons (.d _) (.cons (.d _) (.cons (.d _) (.cons (.d _) (.cons (.d _) (.cons (.d _) (.cons (.d _) (.cons (.d _) (.cons (.d _) (.cons (.d _) (.cons (.d _) (.cons (.d _) (.cons (.d _) (.cons (.d _) (.cons (.d _) (.cons (.d _) (.cons (.d _) .nil)))))))))))))))))))))))) .nil))<|UU Z Z Z (QA (α:=Dx) Zy Z (.d _))<|UV Z Z Z<|Q3<|Q4<|Qh ?_
 refine J2 0 (fun (o2:(Qc Dx Bool))=>⟨[],[(0,.cells 62 [Df a1,.mp 1]),(1,.mp (QR a2.1) a2.2),(2,.cells 45 (Dk a0)),(3,.mp (QR o2.1) o2.2)],[],4,41,[]⟩) (fun (o2:(Qc Dx Bool))=>(some (.inl ()))=some r) ?_ ?_
 refine Qd h0 (fun o3 hl1 h0=>?_)
 refine J1 (Kk x1 a2) (fun s1=>⟨[(0,.v (.one (.ptr 0 0))),(4,.v (.one (.mp 3))),(11,.v (.one (Df x1))),(12,.v (.one (Dh (x1.length:Int)))),(13,.v (.one (Dh s1.1)))],[(0,.cells 62 [Df a1,.mp 1]),(1,.mp (QR a2.1) a2.2),(2,.cells 45 (Dk a0)),(3,.mp (QR s1.2.1) s1.2.2)],[],4,41,[]⟩) (0,gmNil) o3 (QH (UQ Z) (hA Z) D7 Z (Nat.le_trans hv0 (D6 Z)) Z Z Z (Dp Z Z (Do Z (Dp Z Z (Do Z Dn)))) Z Z) hl1 (fun s1 n1 oo1 h1 ho1=>?_)
 unfold Kk at h1
 refine Q6<|Q0<|UU Z Z Z (Q7 Z Z Z)<|Q3<|Q4<|Q6 ?_
 refine Qg (b:=(decide (s1.1 < (x1.length:Int)))) Z (fun c4=>?_) (fun c4=>?_)
 replace h1:=Qj c4 h1
 refine Qn<|Q4<|Q6<|Qh<|Q6<|Q0 ?_
 refine Qd h1 (fun x5 hx5 h1=>?_)
 refine UU Z Z Z (QC (α:=Dx) Zy Z (.d _) Z hx5)<|UU Z Z Z (Yi JU Z Z)<|UW Z Z Z<|Q3<|Q4<|Q6<|Q0<|UV Z Z Z ?_
 refine Qd h1 (fun x6 hx6 h1=>?_)
 refine Q9 Z Z (D6 Z) (Qp (m65_ok x5 x6 hx6) Z (.cons (.one (.d _)) .nil)) ?_
 refine Qd h1 (fun x7 hx7 h1=>?_)
 refine JH id hx7 h1 (fun x8 hx8 h1=>?_) (fun x9 hx9 h1=>?_)
 refine Q9 Z Z (D6 Z) (Qx Z Z Z (CallE.m (Qt x6 29 (.inl x8) hx8)) Z)<|Q3<|Q4<|Q6<|Q0<|UV Z Z Z<|UU Z Z Z (Jn Z)<|UU Z Z Z (Q2 ZE Z)<|UU Z Z Z (Q5 Yh Z Z Z)<|UV Z Z Z<|UU Z Z Z (Zf (M:=a2) (k:=x5) Yx K2 Z Z Z)<|UV Z Z Z<|UU Z Z Z (J4 Z Z)<|UU Z Z Z (J4 Z Z) ?_
 refine Q9 Z Z (D6 Z) (Qm Zg Z)<|Qy Z Z (Qu Jf Z Z Z Z (D6 Z) Z)<|UW Z Z Z<|Q3<|Q4<|Q6 ?_
 refine QP (fun (v10:Unit)=>⟨[(0,.v (.one (.ptr 0 0))),(4,.v (.one (.mp 3))),(6,.v (.one (Jm x5))),(11,.v (.one (Df x1))),(12,.v (.one (Dh (x1.length:Int)))),(13,.v (.one (Dh s1.1)))],m45f7_h1 a1 a2 a0 s1 x5,[],5,41,[]⟩) (fun (v10:Unit)=>(some (.next ((J9 (s1.1+1)),(QZ s1.2 x5 true))))=some oo1) ?_ ?_
 refine Qd h1 (fun w2_ h2 h1=>?_)
 refine Q0<|UV Z Z Z<|UU Z Z Z (Jj Z)<|UV Z Z Z ?_
 refine QG (d:=31) (c:=(!(Yl a2 x5))) Z (fun c11=>?_) (fun c11=>?_)
 replace h2:=Qj c11 h2
 refine UV Z Z Z<|UV Z Z Z<|UU Z Z Z (RO.lookupGF (M:=s1.2) (k:=x5) mp_80 zok_bool Z Z Z)<|UU Z Z Z (Jj Z)<|UU Z Z Z (Qe Z Z) ?_
 refine Qd h2 (fun x12 hx12 h2=>?_)
 refine JH id hx12 h2 (fun x13 hx13 h2=>?_) (fun x14 hx14 h2=>?_)
 refine Q9 Z Z (D6 Z) (Qx Z Z Z (CallE.m (Qt (!(Ql s1.2 x5)) 8 (.inl x13) hx13)) Z)<|Q3 ?_
 have e:=US h2;subst e
 replace h1:=Kh h1
 exact Qb () (QH (UQ Z) (hA Z) D7 Z (Nat.le_trans hv0 (D6 Z)) Z Z Z (Dp Z Z (Do Z (Dp Z Z (Do Z (Dq Z))))) Z Z) h1
 refine J6 Z (QE Z Z Z (CallE.d (Qt (!(Ql s1.2 x5)) 8 (.inr x14) hx14))) ?_
 have e:=US h2;subst e
 replace h1:=KQ h1
 have e:=US h1;subst e
 have e_:_=_:=ho1
 subst e_
 try dsimp only [Sum.elim_inl,Sum.elim_inr] at h0
 have e:=US h0;subst e
 exact Jg (hQ0 (.panic (Jq (QF 90 8))) _ Zx Z (show StLe _ _ ⟨[],[(0,.cells 62 [Df a1,.mp 1]),(1,.mp (QR a2.1) a2.2)],[],4,41,[]⟩ from (QH UP (hA Z) D7 Z (Nat.le_trans hv0 (D6 Z)) Z Z Z (Dp Z Z (Do Z Dn)) Z Z))) (fun _ _ h=>h)
 replace h2:=Qk c11 h2
 refine Q8 Z Z<|Q8 Z Z<|Q8 Z Z<|Q8 Z Z<|UU Z Z Z (Qa Z Z) ?_
 refine Qd h2 (fun x15 hx15 h2=>?_)
 refine JH id hx15 h2 (fun x16 hx16 h2=>?_) (fun x17 hx17 h2=>?_)
 refine Q9 Z Z (D6 Z) (Qx Z Z Z (CallE.m (Qt false 8 (.inl x16) hx16)) Z)<|Q3 ?_
 have e:=US h2;subst e
 replace h1:=Kh h1
 exact Qb () (QH (UQ Z) (hA Z) D7 Z (Nat.le_trans hv0 (D6 Z)) Z Z Z (Dp Z Z (Do Z (Dp Z Z (Do Z (Dq Z))))) Z Z) h1
 refine J6 Z (QE Z Z Z (CallE.d (Qt false 8 (.inr x17) hx17))) ?_
 have e:=US h2;subst e
 replace h1:=KQ h1
 have e:=US h1;subst e
 have e_:_=_:=ho1
 subst e_
 try dsimp only [Sum.elim_inl,Sum.elim_inr] at h0
 have e:=US h0;subst e
 exact Jg (hQ0 (.panic (Jq (QF 90 8))) _ Zx Z (show StLe _ _ ⟨[],[(0,.cells 62 [Df a1,.mp 1]),(1,.mp (QR a2.1) a2.2)],[],4,41,[]⟩ from (QH UP (hA Z) D7 Z (Nat.le_trans hv0 (D6 Z)) Z Z Z (Dp Z Z (Do Z Dn)) Z Z))) (fun _ _ h=>h)
 intro v10 h1
 refine Q4<|Q0<|UV Z Z Z<|UV Z Z Z<|Qy Z Z (Jh (M:=s1.2) (k:=x5) (v:=true) mp_80 Z Z Z Z Z)<|Q3<|Qf<|Q4<|Q0<|UU Z Z Z (Q7 Z Z Z)<|UV Z Z Z<|Q3 ?_
 have e:=US h1;subst e
 refine QV ((J9 (s1.1+1)),(QZ s1.2 x5 true)) (QH (UQ Z) (hA Z) D7 Z (Nat.le_trans hv0 (D6 Z)) Z Z Z (Dp Z Z (Do Z (Dp Z Z (Do Z Dn)))) Z Z) ho1
 refine J6 Z (QE Z Z Z (CallE.d (Qt x6 29 (.inr x9) hx9))) ?_
 have e:=US h1;subst e
 have e_:_=_:=ho1
 subst e_
 try dsimp only [Sum.elim_inl,Sum.elim_inr] at h0
 have e:=US h0;subst e
 exact Jg (hQ0 (.panic (Jq (QF 90 29))) _ Zx Z (show StLe _ _ ⟨[],[(0,.cells 62 [Df a1,.mp 1]),(1,.mp (QR a2.1) a2.2)],[],4,41,[]⟩ from (QH UP (hA Z) D7 Z (Nat.le_trans hv0 (D6 Z)) Z Z Z (Dp Z Z (Do Z Dn)) Z Z))) (fun _ _ h=>h)
 replace h1:=Qk c4 h1
 refine J8<|Qq<|Qq ?_
 have e:=US h1;subst e
 have e_:_=_:=ho1
 subst e_
 exact J0 s1.2 (QH UP (hA Z) D7 Z (Nat.le_trans hv0 (D6 Z)) Z Z Z (Dp Z Z (Do Z (Dp Z Z (Do Z Dn)))) Z Z) h0
 intro o2 h0
 refine QQ ?_
 have e:=US h0;subst e
 exact hQ0 _ _ Uo Z (show StLe _ _ ⟨[],[(0,.cells 62 [Df a1,.mp 1]),(1,.mp (QR a2.1) a2.2)],[],4,41,[]⟩ from (QH UP (hA Z) D7 Z (Nat.le_trans hv0 (D6 Z)) Z Z Z (Dp Z Z (Do Z Dn)) Z Z))
noncomputable def G2 (a0:Tm) (rc:Tm×(List Dcl)×(Qc Dx Ent)×(Qc Dx Ent)×Tm→Option (Bool⊕Int)) (a1:List Dcl) (a2:Qc Dx Ent) (a3:Qc Dx Ent) (a4:Tm) (s3:Int):Option (LO Int (Unit⊕(Int⊕Int))) :=
 cond (decide (s3 < (a0.kids.length:Int)))
   (Option.bind (JC a0.kids s3) fun (x12:Tm) =>
 Option.bind (Option.bind (rc (x12,a1,a2,a3,a4)) (Sum.elim (fun (x18:Bool)=>some (.inl (!x18))) (fun (x19:Int)=>some (.inr x19)))) (Sum.elim (fun (y13:Bool)=>cond y13
   (some (.done (.inr (.inl s3))))
   (some (.next (J9 (s3+1))))) (fun (y14:Int)=>some (.done (.inr (.inr y14))))))
   (some (.done (.inl ())))
noncomputable def G3 (p0_:Tm) (p1_:Tm×(List Dcl)×(Qc Dx Ent)×(Qc Dx Ent)×Tm→Option (Bool⊕Int)) (p2_:List Dcl) (p3_:Qc Dx Ent) (p4_:Qc Dx Ent) (p5_:Tm):Option (Bool⊕Int) :=
 Option.bind (Option.bind (Option.bind (Qr (G2 p0_ p1_ p2_ p3_ p4_ p5_) QI 0) (Sum.elim (fun (b0_:Unit)=>some (.inl (-1))) (fun o=>some o))) (Sum.elim (fun (b1_:Int)=>some (.inl (decide (0≤b1_)))) (fun (b2_:Int)=>some (.inr b2_)))) (Sum.elim (fun (b3_:Bool)=>some (.inl (!b3_))) (fun (b4_:Int)=>some (.inr b4_)))
noncomputable abbrev m83f9_h0 :HB :=
 .loop .ready none [(5,.v (.one (.ptr 2 0))),(9,.v (.one (.ptr 5 0))),(23,.v (.one (.fn 82 [(7,0)])))] 53 #[24] Yy Y6 1
noncomputable abbrev J5 (p0_:List Dcl) (p1_:Qc Dx Ent) (p2_:Qc Dx Ent) (p3_:Tm) (p4_:Tm):List (Nat×HB) :=
 [(0,m83f9_h0),(1,.obj (.deferred (some []))),(2,.cells 59 [.ptr 3 0]),(3,.cells 62 [Df p0_,.mp 4]),(4,.mp (QR p1_.1) p1_.2),(5,.cells 60 [.mp 6]),(6,.mp (QR p2_.1) p2_.2),(7,.cells 33 (Dk p3_)),(8,.cells 33 (Dk p4_)),(9,.cells 78 [.yld 0])]
noncomputable abbrev GF :HB :=
 .loop .busy none [(5,.v (.one (.ptr 2 0))),(9,.v (.one (.ptr 5 0))),(23,.v (.one (.fn 82 [(7,0)])))] 53 #[24] Yy Y6 1
noncomputable abbrev m83f9_h3 (p0_:List Dcl) (p1_:Qc Dx Ent) (p2_:Qc Dx Ent) (p3_:Tm) (p4_:Tm):List (Nat×HB) :=
 [(0,GF),(1,.obj (.deferred (some []))),(2,.cells 59 [.ptr 3 0]),(3,.cells 62 [Df p0_,.mp 4]),(4,.mp (QR p1_.1) p1_.2),(5,.cells 60 [.mp 6]),(6,.mp (QR p2_.1) p2_.2),(7,.cells 33 (Dk p3_)),(8,.cells 33 (Dk p4_)),(9,.cells 78 [.yld 0]),(10,.cells 33 (Dk p4_))]
noncomputable abbrev m83f9_h4 (p0_:List Dcl) (p1_:Qc Dx Ent) (p2_:Qc Dx Ent) (p3_:Tm) (p4_:Tm):List (Nat×HB) :=
 [(0,m83f9_h0),(1,.obj (.deferred (some []))),(2,.cells 59 [.ptr 3 0]),(3,.cells 62 [Df p0_,.mp 4]),(4,.mp (QR p1_.1) p1_.2),(5,.cells 60 [.mp 6]),(6,.mp (QR p2_.1) p2_.2),(7,.cells 33 (Dk p3_)),(8,.cells 33 (Dk p4_)),(9,.cells 78 [.yld 0]),(10,.cells 33 (Dk p4_))]
noncomputable abbrev Jd (p0_:List Dcl) (p1_:Qc Dx Ent) (p2_:Qc Dx Ent) (p3_:Tm) (p4_:Tm):List (Nat×HB) :=
 [(0,GF),(1,.obj (.deferred (some []))),(2,.cells 59 [.ptr 3 0]),(3,.cells 62 [Df p0_,.mp 4]),(4,.mp (QR p1_.1) p1_.2),(5,.cells 60 [.mp 6]),(6,.mp (QR p2_.1) p2_.2),(7,.cells 33 (Dk p3_)),(8,.cells 33 (Dk p4_)),(9,.cells 78 [.yld 0])]
noncomputable abbrev m83f9_h6 (p0_:Qc Dx Ent) (p1_:Tm):HB :=
 .cells 35 [Dh ((Ql p0_ p1_.name).kind),Dh ((Ql p0_ p1_.name).decl),Dh ((Ql p0_ p1_.name).item),Dh ((Ql p0_ p1_.name).params),Dh (((Ql p0_ p1_.name).ty).kind),Dh (((Ql p0_ p1_.name).ty).index),Jm (((Ql p0_ p1_.name).ty).name),Df (((Ql p0_ p1_.name).ty).levels:List Lvl),Df (((Ql p0_ p1_.name).ty).kids:List Tm)]
noncomputable abbrev m83f9_h7 (p0_:List Dcl) (p1_:Qc Dx Ent) (p2_:Qc Dx Ent) (p3_:Tm) (p4_:Tm):List (Nat×HB) :=
 [(0,GF),(1,.obj (.deferred (some []))),(2,.cells 59 [.ptr 3 0]),(3,.cells 62 [Df p0_,.mp 4]),(4,.mp (QR p1_.1) p1_.2),(5,.cells 60 [.mp 6]),(6,.mp (QR p2_.1) p2_.2),(7,.cells 33 (Dk p3_)),(8,.cells 33 (Dk p4_)),(9,.cells 78 [.yld 0]),(10,.cells 33 (Dk p4_)),(11,m83f9_h6 p1_ p4_)]
noncomputable abbrev JR (p0_:List Dcl) (p1_:Qc Dx Ent) (p2_:Qc Dx Ent) (p3_:Tm):List (Nat×HB) :=
 [(0,GF),(1,.obj (.deferred (some []))),(2,.cells 59 [.ptr 3 0]),(3,.cells 62 [Df p0_,.mp 4]),(4,.mp (QR p1_.1) p1_.2),(5,.cells 60 [.mp 6]),(6,.mp (QR p2_.1) p2_.2),(7,.cells 33 (Dk p3_))]
noncomputable abbrev m83f9_h9 (p0_:Tm) (p1_:Tm):List (Nat×HB) :=
 [(8,.cells 33 (Dk p0_)),(9,.cells 78 [.yld 0]),(10,.cells 33 (Dk p1_))]
noncomputable abbrev Js (p0_:List Dcl) (p1_:Qc Dx Ent) (p2_:Qc Dx Ent) (p3_:Tm):List (Nat×HB) :=
 [(0,m83f9_h0),(1,.obj (.deferred (some []))),(2,.cells 59 [.ptr 3 0]),(3,.cells 62 [Df p0_,.mp 4]),(4,.mp (QR p1_.1) p1_.2),(5,.cells 60 [.mp 6]),(6,.mp (QR p2_.1) p2_.2),(7,.cells 33 (Dk p3_))]
noncomputable def XK (rc:Tm×(List Dcl)×(Qc Dx Ent)×(Qc Dx Ent)×Tm→Option (Bool⊕Int)) (a0:Tm) (a1:List Dcl) (a2:Qc Dx Ent) (a3:Qc Dx Ent) (a4:Tm):Option (Bool⊕Int) :=
 Option.bind (cond (a0.kind==3)
   (Option.bind (Option.bind (cond (!(Yl a2 a0.name))
   (some ((Yl a3 a0.name),(Ql a3 a0.name).kind,(Ql a3 a0.name).decl,(Ql a3 a0.name).item,(Ql a3 a0.name).params,((Ql a3 a0.name).ty).kind,((Ql a3 a0.name).ty).index,((Ql a3 a0.name).ty).name,((Ql a3 a0.name).ty).levels,((Ql a3 a0.name).ty).kids))
   (some ((Yl a2 a0.name),(Ql a2 a0.name).kind,(Ql a2 a0.name).decl,(Ql a2 a0.name).item,(Ql a2 a0.name).params,((Ql a2 a0.name).ty).kind,((Ql a2 a0.name).ty).index,((Ql a2 a0.name).ty).name,((Ql a2 a0.name).ty).levels,((Ql a2 a0.name).ty).kids))) (fun (v8:Bool×Int×Int×Int×Int×Int×Int×Dx×(List Lvl)×(List Tm))=>Option.bind (Jr v8.1 9) (Sum.elim (fun (x10:Unit)=>Option.bind (Jr ((a0.levels.length:Int)==v8.2.2.2.2.1) 15) (Sum.elim (fun (x13:Unit)=>some (.inl ())) (fun (x14:Unit)=>some (.inr 15)))) (fun (x11:Unit)=>some (.inr 9))))) (Sum.elim (fun (y3:Unit)=>some (.inl ())) (fun (y4:Int)=>some (.inr (.inr y4)))))
   (some (.inl ()))) (Sum.elim (fun (v1:Unit)=>G3 a0 rc a1 a2 a3 a4) (fun o=>some o))
noncomputable def Xh (rc:Tm×(List Dcl)×(Qc Dx Ent)×(Qc Dx Ent)×Tm→Option (Bool⊕Int)) (u:Tm×(List Dcl)×(Qc Dx Ent)×(Qc Dx Ent)×Tm):Option (Bool⊕Int):=XK rc u.1 u.2.1 u.2.2.1 u.2.2.2.1 u.2.2.2.2
noncomputable def m83f9 (a0:Tm) (a1:List Dcl) (a2:Qc Dx Ent) (a3:Qc Dx Ent) (a4:Tm):Option (Bool⊕Int):=JA Xh QI (a0,a1,a2,a3,a4)
theorem m83f9s_ok (rc:Tm×(List Dcl)×(Qc Dx Ent)×(Qc Dx Ent)×Tm→Option (Bool⊕Int)) (H:∀ (a0:Tm) (a1:List Dcl) (a2:Qc Dx Ent) (a3:Qc Dx Ent) (a4:Tm) (r:Bool⊕Int),rc (a0,a1,a2,a3,a4)=some r→CallE Try.prog 83 [.agg (Dk a0),.one (.yld 0)] ⟨Js a1 a2 a3 a4,[],8⟩ ((Sum.elim (fun (r0:Bool)=>((.ret [.one (Di r0)]):EK)) (fun (r1:Int)=>((.pan (QF 90 r1)):EK))) r) ⟨((Sum.elim (fun (r0:Bool)=>(⟨[(4,.v (.one (Di r0)))],Js a1 a2 a3 a4,[],10,19,[]⟩:St)) (fun (r1:Int)=>(⟨[],JR a1 a2 a3 a4,[],12,19,[]⟩:St))) r).hp,((Sum.elim (fun (r0:Bool)=>(⟨[(4,.v (.one (Di r0)))],Js a1 a2 a3 a4,[],10,19,[]⟩:St)) (fun (r1:Int)=>(⟨[],JR a1 a2 a3 a4,[],12,19,[]⟩:St))) r).tk,((Sum.elim (fun (r0:Bool)=>(⟨[(4,.v (.one (Di r0)))],Js a1 a2 a3 a4,[],10,19,[]⟩:St)) (fun (r1:Int)=>(⟨[],JR a1 a2 a3 a4,[],12,19,[]⟩:St))) r).nx⟩) (a0:Tm) (a1:List Dcl) (a2:Qc Dx Ent) (a3:Qc Dx Ent) (a4:Tm) (r:Bool⊕Int) (h0:XK rc a0 a1 a2 a3 a4=some r):CallE Try.prog 83 [.agg (Dk a0),.one (.yld 0)] ⟨Js a1 a2 a3 a4,[],8⟩ ((Sum.elim (fun (r0:Bool)=>((.ret [.one (Di r0)]):EK)) (fun (r1:Int)=>((.pan (QF 90 r1)):EK))) r) ⟨((Sum.elim (fun (r0:Bool)=>(⟨[(4,.v (.one (Di r0)))],Js a1 a2 a3 a4,[],10,19,[]⟩:St)) (fun (r1:Int)=>(⟨[],JR a1 a2 a3 a4,[],12,19,[]⟩:St))) r).hp,((Sum.elim (fun (r0:Bool)=>(⟨[(4,.v (.one (Di r0)))],Js a1 a2 a3 a4,[],10,19,[]⟩:St)) (fun (r1:Int)=>(⟨[],JR a1 a2 a3 a4,[],12,19,[]⟩:St))) r).tk,((Sum.elim (fun (r0:Bool)=>(⟨[(4,.v (.one (Di r0)))],Js a1 a2 a3 a4,[],10,19,[]⟩:St)) (fun (r1:Int)=>(⟨[],JR a1 a2 a3 a4,[],12,19,[]⟩:St))) r).nx⟩:=by
 unfold XK at h0
 refine Jy r ((Sum.elim (fun (r0:Bool)=>(⟨[(4,.v (.one (Di r0)))],Js a1 a2 a3 a4,[],10,19,[]⟩:St)) (fun (r1:Int)=>(⟨[],JR a1 a2 a3 a4,[],12,19,[]⟩:St)))) ((Sum.elim (fun (r0:Bool)=>((.ret [.one (Di r0)]):EK)) (fun (r1:Int)=>((.pan (QF 90 r1)):EK)))) rfl rfl en_83 (D6 rfl) (fun z_=>by cases z_ with
 | inl _=>exact rfl
 | inr _=>exact rfl) (fun z_=>by cases z_ with
 | inl _=>exact (WU (Qz rfl .nil))
 | inr _=>exact U1) (fun w0 M V0 Q hv0 hQ0=>?_)
 simp only [Ja]
 refine Q6<|Q0<|Q9 Z Z (D6 Z) (QU Z)<|Q9 Z Z (D6 Z) (QU Z)<|UW Z Z Z<|Q3<|Q4<|Q6<|Q6 ?_
 refine QP (fun (v1:Unit)=>⟨[(2,.v (.one (.ptr 8 0))),(3,.v (.one (.ptr 9 0))),(13,.v (.one (Di false)))],J5 a1 a2 a3 a4 a0,[],10,19,[]⟩) (fun (v1:Unit)=>(G3 a0 rc a1 a2 a3 a4)=some r) ?_ ?_
 refine Qd h0 (fun w1_ h1 h0=>?_)
 refine Q0<|UU Z Z Z (Q2 Yj Z)<|UU Z Z Z (Q5 QO Z Z Z)<|UU Z Z Z (Q7 Z Z Z)<|UV Z Z Z ?_
 refine QG (d:=8) (c:=(a0.kind==3)) Z (fun c2=>?_) (fun c2=>?_)
 replace h1:=Qj c2 h1
 refine UU Z Z Z (Q5 ag_78 Z Z Z)<|UU Z Z Z (QM (a0:Tm) QW Z Z) ?_
 refine Qd h1 (fun y5 h2 h1=>?_)
 have ha6:ExecOK Try.prog (some 0) Yy ⟨[(5,.v (.one (.ptr 2 0))),(9,.v (.one (.ptr 5 0))),(23,.v (.one (.fn 82 [(7,0)]))),(24,.v (.agg (Dk a0)))],J5 a1 a2 a3 a4 a0,[],10,53,[]⟩ .normal ⟨[(5,.v (.one (.ptr 2 0))),(9,.v (.one (.ptr 5 0))),(11,.v (.one (.ptr 10 0)))],m83f9_h4 a1 a2 a3 a4 a0,[],11,53,[]⟩:=by
  refine QK (fun w0 M V0 ro n Q hv2 hro2 hQn2=>?_)
  refine Q0<|Q9 Z Z (D6 Z) (Qm KV Z)<|Qy Z Z (QD (a0:Tm) QW Z Z Z Z Z)<|Q3 ?_
  exact Ju hQn2 (QH (UQ Z) (hA Z) D7 Z (Nat.le_trans hv2 (D6 Z)) Z Z Z (Dp Z Z (Dp Z Z (Dp Z Z (Dp Z Z (Do Z (Dp Z Z (Do Z (Dq Z)))))))) Z Z)
 have hb7:ExecOK Try.prog (some 0) Y6 ⟨[(5,.v (.one (.ptr 2 0))),(9,.v (.one (.ptr 5 0))),(11,.v (.one (.ptr 10 0)))],m83f9_h3 a1 a2 a3 a4 a0,[],11,53,[]⟩ ((Sum.elim (fun (_:Unit)=>(.normal:Exit)) (fun (y4:Int)=>((.panic (Jq (QF 90 y4))):Exit))) y5) ((Sum.elim (fun (y3:Unit)=>(⟨[],Jd a1 a2 a3 a4 a0,[],12,53,[]⟩:St)) (fun (y4:Int)=>(⟨[],Jd a1 a2 a3 a4 a0,[],12,53,[]⟩:St))) y5):=by
  refine QK (fun w0 M V0 ro n Q hv2 hro2 hQn2=>?_)
  refine Qh<|Q6 ?_
  refine Jt [10,11] [(0,1),(1,1),(2,1),(3,1),(4,1),(5,1),(6,1),(7,1),(8,1),(9,1),(9,2)] YP (by kernel_rfl) (by kernel_rfl) (by kernel_rfl) ?_
  refine RunA.rd Z Z Z (Q1 (Q5 X8 Z Z Z)) Z<|RunA.rd Z Z Z (Q1 (Jn Z)) Z<|RunA.rd Z Z Z (Q1 (Q2 ZE Z)) Z<|RunA.rd Z Z Z (Q1 (Q5 Yh Z Z Z)) Z<|RunA.rd Z Z Z (Q1 (Q2 ZF Z)) Z<|RunA.rd Z Z Z (Q1 (Q5 JU Z Z Z)) Z<|RunA.rd Z Z Z (Q1 (Zf (M:=a2) (k:=a0.name) Yx K2 Z Z Z)) Z<|RunA.rd Z Z Z (Q1 (Qo Z)) Z<|RunA.rd Z Z Z (Q1 (J4 Z Z)) Z<|RunA.rd Z Z Z (Q1 (J4 Z Z)) Z<|RunA.eff Z Z Z (Qm Zg Z) Z<|RunA.eff Z Z Z (Qu Jf Z Z Z Z (D6 Z) Z) Z<|RunA.rd Z Z Z (Q1 (JF Z)) Z ?_
  refine RunA.nil ⟨?ex,_,_,Z,?_⟩
  case ex=>exact ⟨⟨_,rfl,_,_,rfl,rfl,rfl,.inl ⟨rfl,_,Q1 (Q5 X8 rfl rfl rfl),rfl⟩⟩,⟨_,rfl,_,_,rfl,rfl,rfl,.inl ⟨rfl,_,Q1 (Jn rfl),rfl⟩⟩,⟨_,rfl,_,_,rfl,rfl,rfl,.inl ⟨rfl,_,Q1 (Q2 ZE rfl),rfl⟩⟩,⟨_,rfl,_,_,rfl,rfl,rfl,.inl ⟨rfl,_,Q1 (Q5 Yh rfl rfl rfl),rfl⟩⟩,⟨_,rfl,_,_,rfl,rfl,rfl,.inl ⟨rfl,_,Q1 (Q2 ZF rfl),rfl⟩⟩,⟨_,rfl,_,_,rfl,rfl,rfl,.inl ⟨rfl,_,Q1 (Q5 JU rfl rfl rfl),rfl⟩⟩,⟨_,rfl,_,_,rfl,rfl,rfl,.inl ⟨rfl,_,Q1 (Zf (M:=a2) (k:=a0.name) Yx K2 rfl rfl rfl),rfl⟩⟩,⟨_,rfl,_,_,rfl,rfl,rfl,.inl ⟨rfl,_,Q1 (Qo rfl),rfl⟩⟩,⟨_,rfl,_,_,rfl,rfl,rfl,.inl ⟨rfl,_,Q1 (J4 rfl rfl),rfl⟩⟩,⟨_,rfl,_,_,rfl,rfl,rfl,.inl ⟨rfl,_,Q1 (J4 rfl rfl),rfl⟩⟩,⟨_,rfl,_,_,rfl,rfl,rfl,.inl ⟨rfl,_,Q1 (J4 rfl rfl),rfl⟩⟩,trivial⟩
  refine JW (st':=⟨[(9,.v (.one (.ptr 5 0))),(11,.v (.one (.ptr 10 0))),(12,.v (.one (.ptr 11 0))),(13,.v (.one (Di (Yl a2 a0.name))))],m83f9_h7 a1 a2 a3 a4 a0,[],12,53,[]⟩) (QH (UQ Z) (hA Z) D7 Z (Nat.le_trans hv2 (D6 Z)) Z Z Z (Dp Z Z (Dp Z Z (Dp Z Z (Dp Z Z (Do Z (Dp Z Z (Do Z (Dq Z)))))))) Z Z)<|Q4<|Q6<|Q6<|Q0<|UV Z Z Z<|UU Z Z Z (Jj Z)<|Q3<|Q4 ?_
  refine QP (fun (v8:Bool×Int×Int×Int×Int×Int×Int×Dx×(List Lvl)×(List Tm))=>⟨[(11,.v (.one (.ptr 10 0))),(12,.v (.one (.ptr 11 0))),(13,.v (.one (Di v8.1)))],[(0,GF),(1,.obj (.deferred (some []))),(2,.cells 59 [.ptr 3 0]),(3,.cells 62 [Df a1,.mp 4]),(4,.mp (QR a2.1) a2.2),(5,.cells 60 [.mp 6]),(6,.mp (QR a3.1) a3.2),(7,.cells 33 (Dk a4)),(8,.cells 33 (Dk a0)),(9,.cells 78 [.yld 0]),(10,.cells 33 (Dk a0)),(11,.cells 35 [Dh v8.2.1,Dh v8.2.2.1,Dh v8.2.2.2.1,Dh v8.2.2.2.2.1,Dh v8.2.2.2.2.2.1,Dh v8.2.2.2.2.2.2.1,Jm v8.2.2.2.2.2.2.2.1,Df v8.2.2.2.2.2.2.2.2.1,Df v8.2.2.2.2.2.2.2.2.2])],[],12,53,[]⟩) (fun (v8:Bool×Int×Int×Int×Int×Int×Int×Dx×(List Lvl)×(List Tm))=>(Option.bind (Jr v8.1 9) (Sum.elim (fun (x10:Unit)=>Option.bind (Jr ((a0.levels.length:Int)==v8.2.2.2.2.1) 15) (Sum.elim (fun (x13:Unit)=>some (.inl ())) (fun (x14:Unit)=>some (.inr 15)))) (fun (x11:Unit)=>some (.inr 9))))=some y5) ?_ ?_
  refine Qd h2 (fun w3_ h3 h2=>?_)
  refine Qg (b:=(!(Yl a2 a0.name))) Z (fun c9=>?_) (fun c9=>?_)
  replace h3:=Qj c9 h3
  refine Q0<|UU Z Z Z (Q5 Yh Z Z Z)<|UU Z Z Z (Q2 ZF Z)<|UU Z Z Z (Q5 JU Z Z Z)<|UU Z Z Z (Zf (M:=a3) (k:=a0.name) Yx K2 Z Z Z)<|UV Z Z Z<|UU Z Z Z (J4 Z Z)<|UU Z Z Z (J4 Z Z)<|Qy Z Z (Qu Jf Z Z Z Z (D6 Z) Z)<|UW Z Z Z<|Q3 ?_
  have e:=US h3;subst e
  exact Qb ((Yl a3 a0.name),(Ql a3 a0.name).kind,(Ql a3 a0.name).decl,(Ql a3 a0.name).item,(Ql a3 a0.name).params,((Ql a3 a0.name).ty).kind,((Ql a3 a0.name).ty).index,((Ql a3 a0.name).ty).name,((Ql a3 a0.name).ty).levels,((Ql a3 a0.name).ty).kids) (QH (UQ Z) (hA Z) D7 Z (Nat.le_trans hv2 (D6 Z)) Z Z Z (Dp Z Z (Dp Z Z (Dp Z Z (Dp Z Z (Do Z (Dp Z Z (Do Z (Dq Z)))))))) Z Z) h2
  replace h3:=Qk c9 h3
  refine Qn ?_
  have e:=US h3;subst e
  exact Qb ((Yl a2 a0.name),(Ql a2 a0.name).kind,(Ql a2 a0.name).decl,(Ql a2 a0.name).item,(Ql a2 a0.name).params,((Ql a2 a0.name).ty).kind,((Ql a2 a0.name).ty).index,((Ql a2 a0.name).ty).name,((Ql a2 a0.name).ty).levels,((Ql a2 a0.name).ty).kids) (QH (UQ Z) (hA Z) D7 Z (Nat.le_trans hv2 (D6 Z)) Z Z Z (Dp Z Z (Dp Z Z (Dp Z Z (Dp Z Z (Do Z (Dp Z Z (Do Z (Dq Z)))))))) Z Z) h2
  intro v8 h2
  refine Q4<|Q6<|Q0<|UV Z Z Z ?_
  refine Qd h2 (fun x10 hx10 h2=>?_)
  refine JH id hx10 h2 (fun x11 hx11 h2=>?_) (fun x12 hx12 h2=>?_)
  refine Q9 Z Z (D6 Z) (Qx Z Z Z (CallE.m (Qt v8.1 9 (.inl x11) hx11)) Z)<|Q3<|Q4<|Q0<|UU Z Z Z (Q2 Z5 Z)<|UU Z Z Z (Q5 GA Z Z Z)<|UU Z Z Z (QA (α:=Lvl) YZ Z (.d _))<|UU Z Z Z (Q2 fo_35_3 Z)<|UU Z Z Z (Q5 QO Z Z Z)<|UU Z Z Z (Q7 Z Z Z) ?_
  refine Qd h2 (fun x13 hx13 h2=>?_)
  refine JH id hx13 h2 (fun x14 hx14 h2=>?_) (fun x15 hx15 h2=>?_)
  refine Q9 Z Z (D6 Z) (Qx Z Z Z (CallE.m (Qt ((a0.levels.length:Int)==v8.2.2.2.2.1) 15 (.inl x14) hx14)) Z)<|Q3<|Qf ?_
  have e:=US h2;subst e
  exact Ju (e:=.normal) (st':=⟨[],Jd a1 a2 a3 a4 a0,[],12,53,[]⟩) hQn2 (QH UP (hA Z) D7 Z (Nat.le_trans hv2 (D6 Z)) Z Z Z (Dp Z Z (Dp Z Z (Dp Z Z (Dp Z Z (Do Z (Dp Z Z (Do Z (Dq Z)))))))) Z Z)
  refine J6 Z (QE Z Z Z (CallE.d (Qt ((a0.levels.length:Int)==v8.2.2.2.2.1) 15 (.inr x15) hx15))) ?_
  have e:=US h2;subst e
  exact Jg (Ju (e:=(.panic (Jq (QF 90 15)))) (st':=⟨[],Jd a1 a2 a3 a4 a0,[],12,53,[]⟩) hQn2 (QH UP (hA Z) D7 Z (Nat.le_trans hv2 (D6 Z)) Z Z Z (Dp Z Z (Dp Z Z (Dp Z Z (Dp Z Z (Do Z (Dp Z Z (Do Z (Dq Z)))))))) Z Z)) (fun _ _ h=>h)
  refine J6 Z (QE Z Z Z (CallE.d (Qt v8.1 9 (.inr x12) hx12))) ?_
  have e:=US h2;subst e
  exact Jg (Ju (e:=(.panic (Jq (QF 90 9)))) (st':=⟨[],Jd a1 a2 a3 a4 a0,[],12,53,[]⟩) hQn2 (QH UP (hA Z) D7 Z (Nat.le_trans hv2 (D6 Z)) Z Z Z (Dp Z Z (Dp Z Z (Dp Z Z (Dp Z Z (Do Z (Dp Z Z (Do Z (Dq Z)))))))) Z Z)) (fun _ _ h=>h)
 refine XH (C:=fun q_=>ExecOK Try.prog (some 0) Y6 ⟨[(5,.v (.one (.ptr 2 0))),(9,.v (.one (.ptr 5 0))),(11,.v (.one (.ptr 10 0)))],m83f9_h3 a1 a2 a3 a4 a0,[],11,53,[]⟩ ((Sum.elim (fun (_:Unit)=>(.normal:Exit)) (fun (y4:Int)=>((.panic (Jq (QF 90 y4))):Exit))) q_) ((Sum.elim (fun (y3:Unit)=>(⟨[],Jd a1 a2 a3 a4 a0,[],12,53,[]⟩:St)) (fun (y4:Int)=>(⟨[],Jd a1 a2 a3 a4 a0,[],12,53,[]⟩:St))) q_)) hb7 h1 (fun y3 hb7 h1=>?_) (fun y4 hb7 h1=>?_)
 replace hb7:ExecOK Try.prog (some 0) Y6 ⟨[(5,.v (.one (.ptr 2 0))),(9,.v (.one (.ptr 5 0))),(11,.v (.one (.ptr 10 0)))],m83f9_h3 a1 a2 a3 a4 a0,[],11,53,[]⟩ .normal ⟨[],Jd a1 a2 a3 a4 a0,[],12,53,[]⟩:=hb7
 refine Q9 Z Z (D6 Z) (Jc (jump:=none) Z Z Z Z Z (Qv ha6 (fun E hv=>(QH (UQ Z) (hA Z) D7 Z (Nat.le_trans hv (D6 Z)) Z Z Z (Dp Z Z (Dp Z Z (Dp Z Z (Dp Z Z (Do Z (Dp Z Z (Do Z (Dq Z)))))))) Z Z))) Z (Qv hb7 (fun E hv=>(QH (UQ Z) (hA Z) D7 Z (Nat.le_trans hv (D6 Z)) Z Z Z (Dp Z Z (Dp Z Z (Dp Z Z (Dp Z Z (Do Z (Dp Z Z (Do Z (Dq Z)))))))) Z Z))) Z Z) ?_
 refine UU Z Z Z (Jj Z)<|UU Z Z Z (Qe Z Z)<|Q3 ?_
 have e:=US h1;subst e
 replace h0:=Kh h0
 exact Qb () (QH (UQ Z) (hA Z) D7 Z (Nat.le_trans hv0 (D6 Z)) Z Z Z (Dp Z Z (Dp Z Z (Dp Z Z (Dp Z Z (Do Z (Dp Z Z (Do Z (Dq Z)))))))) Z Z) h0
 replace hb7:ExecOK Try.prog (some 0) Y6 ⟨[(5,.v (.one (.ptr 2 0))),(9,.v (.one (.ptr 5 0))),(11,.v (.one (.ptr 10 0)))],m83f9_h3 a1 a2 a3 a4 a0,[],11,53,[]⟩ (.panic (Jq (QF 90 y4))) ⟨[],Jd a1 a2 a3 a4 a0,[],12,53,[]⟩:=hb7
 refine J6 Z (OpD.yield Z Z Z Z Z (Qv ha6 (fun E hv=>(QH (UQ Z) (hA Z) D7 Z (Nat.le_trans hv (D6 Z)) Z Z Z (Dp Z Z (Dp Z Z (Dp Z Z (Dp Z Z (Do Z (Dp Z Z (Do Z (Dq Z)))))))) Z Z))) Z (Qv hb7 (fun E hv=>(QH (UQ Z) (hA Z) D7 Z (Nat.le_trans hv (D6 Z)) Z Z Z (Dp Z Z (Dp Z Z (Dp Z Z (Dp Z Z (Do Z (Dp Z Z (Do Z (Dq Z)))))))) Z Z))) Z Z) ?_
 have e:=US h1;subst e
 replace h0:=KQ h0
 have e:=US h0;subst e
 exact Jg (hQ0 (.panic (Jq (QF 90 y4))) _ Zx Z (show StLe _ _ ⟨[],JR a1 a2 a3 a4,[],12,19,[]⟩ from (QH UP (hA Z) D7 Z (Nat.le_trans hv0 (D6 Z)) Z Z Z (Dp Z Z (Dp Z Z (Dp Z Z (Dp Z Z (Do Z (Dp Z Z (Do Z (Dq Z)))))))) Z Z))) (fun _ _ h=>h)
 replace h1:=Qk c2 h1
 refine Q8 Z Z<|Q8 Z Z<|Q8 Z Z<|Q8 Z Z<|UU Z Z Z (Qa Z Z)<|Q3 ?_
 have e:=US h1;subst e
 replace h0:=Kh h0
 exact Qb () (QH (UQ Z) (hA Z) D7 Z (Nat.le_trans hv0 (D6 Z)) Z Z Z (Dp Z Z (Dp Z Z (Dp Z Z (Dp Z Z (Do Z (Dp Z Z (Do Z (Dq Z)))))))) Z Z) h0
 intro v1 h0
 unfold G3 at h0
 refine Q4 ?_
 refine Qg Z (fun h=>nomatch h) (fun _=>?_)
 refine Qn<|Q4<|Q6<|Q0<|UU Z Z Z (Q2 JG Z)<|UU Z Z Z (Q5 Yb Z Z Z)<|UU Z Z Z (Zu Z) ?_
 refine Qd h0 (fun y19 h1 h0=>?_)
 have hc18:CallE Try.prog 98 [.one (Df a0.kids),.one (.fn 99 [(9,0)])] ⟨J5 a1 a2 a3 a4 a0,[],10⟩ (((Sum.elim (fun (y16:Bool)=>((.ret [.one (Di y16)]):EK)) (fun (y17:Int)=>((.pan (QF 90 y17)):EK)))) y19) ⟨(((Sum.elim (fun (y16:Bool)=>(⟨[(4,.v (.one (Di y16)))],J5 a1 a2 a3 a4 a0,[],10,9,[]⟩:St)) (fun (y17:Int)=>(⟨[],Jd a1 a2 a3 a4 a0,[],15,9,[]⟩:St)))) y19).hp,(((Sum.elim (fun (y16:Bool)=>(⟨[(4,.v (.one (Di y16)))],J5 a1 a2 a3 a4 a0,[],10,9,[]⟩:St)) (fun (y17:Int)=>(⟨[],Jd a1 a2 a3 a4 a0,[],15,9,[]⟩:St)))) y19).tk,(((Sum.elim (fun (y16:Bool)=>(⟨[(4,.v (.one (Di y16)))],J5 a1 a2 a3 a4 a0,[],10,9,[]⟩:St)) (fun (y17:Int)=>(⟨[],Jd a1 a2 a3 a4 a0,[],15,9,[]⟩:St)))) y19).nx⟩:=by
  refine Jy y19 ((Sum.elim (fun (y16:Bool)=>(⟨[(4,.v (.one (Di y16)))],J5 a1 a2 a3 a4 a0,[],10,9,[]⟩:St)) (fun (y17:Int)=>(⟨[],Jd a1 a2 a3 a4 a0,[],15,9,[]⟩:St)))) ((Sum.elim (fun (y16:Bool)=>((.ret [.one (Di y16)]):EK)) (fun (y17:Int)=>((.pan (QF 90 y17)):EK)))) rfl rfl en_98 (D6 rfl) (fun z_=>by cases z_ with
    | inl _=>exact rfl
    | inr _=>exact rfl) (fun z_=>by cases z_ with
    | inl _=>exact (WU (Qz rfl .nil))
    | inr _=>exact U1) (fun w0 M V0 Q hv1 hQ1=>?_)
  simp only [Ja]
  refine Q6<|Q0<|UW Z Z Z<|Q3<|Q4<|Q6<|Q0<|UV Z Z Z<|UV Z Z Z ?_
  refine Qd h1 (fun y23 h2 h1=>?_)
  have hc22:CallE Try.prog 104 [.one (Df a0.kids),.one (.fn 99 [(9,0)])] ⟨J5 a1 a2 a3 a4 a0,[],10⟩ (((Sum.elim (fun (y20:Int)=>((.ret [.one (Dh y20)]):EK)) (fun (y21:Int)=>((.pan (QF 90 y21)):EK)))) y23) ⟨(((Sum.elim (fun (y20:Int)=>(⟨[(4,.v (.one (Dh y20)))],J5 a1 a2 a3 a4 a0,[],10,19,[]⟩:St)) (fun (y21:Int)=>(⟨[],Jd a1 a2 a3 a4 a0,[],15,19,[]⟩:St)))) y23).hp,(((Sum.elim (fun (y20:Int)=>(⟨[(4,.v (.one (Dh y20)))],J5 a1 a2 a3 a4 a0,[],10,19,[]⟩:St)) (fun (y21:Int)=>(⟨[],Jd a1 a2 a3 a4 a0,[],15,19,[]⟩:St)))) y23).tk,(((Sum.elim (fun (y20:Int)=>(⟨[(4,.v (.one (Dh y20)))],J5 a1 a2 a3 a4 a0,[],10,19,[]⟩:St)) (fun (y21:Int)=>(⟨[],Jd a1 a2 a3 a4 a0,[],15,19,[]⟩:St)))) y23).nx⟩:=by
   refine Jy y23 ((Sum.elim (fun (y20:Int)=>(⟨[(4,.v (.one (Dh y20)))],J5 a1 a2 a3 a4 a0,[],10,19,[]⟩:St)) (fun (y21:Int)=>(⟨[],Jd a1 a2 a3 a4 a0,[],15,19,[]⟩:St)))) ((Sum.elim (fun (y20:Int)=>((.ret [.one (Dh y20)]):EK)) (fun (y21:Int)=>((.pan (QF 90 y21)):EK)))) rfl rfl en_104 (D6 rfl) (fun z_=>by cases z_ with
     | inl _=>exact rfl
     | inr _=>exact rfl) (fun z_=>by cases z_ with
     | inl _=>exact (WU (Qz rfl .nil))
     | inr _=>exact U1) (fun w0 M V0 Q hv2 hQ2=>?_)
   simp only [Ja]
   refine Q6<|Q0<|UW Z Z Z<|Q3<|Q4<|Q6<|Q6<|Q0<|UV Z Z Z<|UU Z Z Z (QA (α:=Tm) Jx Z (.d _))<|UV Z Z Z<|Q3<|Q4<|Qh ?_
   refine J2 0 (fun (o24:Unit)=>⟨[],J5 a1 a2 a3 a4 a0,[],10,19,[]⟩) (fun (o24:Unit)=>(some (.inl (-1)))=some y23) ?_ ?_
   refine Qd h2 (fun o25 hl3 h2=>?_)
   refine J1 (G2 a0 rc a1 a2 a3 a4) (fun s3=>⟨[(0,.v (.one (Df a0.kids))),(1,.v (.one (.fn 99 [(9,0)]))),(7,.v (.one (Dh (a0.kids.length:Int)))),(8,.v (.one (Dh s3)))],J5 a1 a2 a3 a4 a0,[],10,19,[]⟩) 0 o25 (QH (UQ Z) (hA Z) D7 Z (Nat.le_trans hv2 (D6 Z)) Z Z Z (Dp Z Z (Dp Z Z (Dp Z Z (Dp Z Z (Do Z (Dp Z Z (Do Z (Dq Z)))))))) Z Z) hl3 (fun s3 n3 oo3 h3 ho3=>?_)
   unfold G2 at h3
   refine Q6<|Q0<|UU Z Z Z (Q7 Z Z Z)<|Q3<|Q4<|Q6 ?_
   refine Qg (b:=(decide (s3 < (a0.kids.length:Int)))) Z (fun c26=>?_) (fun c26=>?_)
   replace h3:=Qj c26 h3
   refine Qn<|Q4<|Q6<|Qh<|Q6<|Q0<|UV Z Z Z<|UW Z Z Z<|Q3<|Q4<|Q6<|Q0<|UV Z Z Z<|UV Z Z Z ?_
   refine UV Z Z Z ?_
   refine Qd h3 (fun x27 hx27 h3=>?_)
   refine UU Z Z Z (QC (α:=Tm) Jx Z (.d _) Z hx27)<|UU Z Z Z (Qw (x27:Tm) QW Z) ?_
   refine Qd h3 (fun y31 h4 h3=>?_)
   have hc30:CallE Try.prog 99 [.agg (Dk x27),.one (.ptr 9 0)] ⟨J5 a1 a2 a3 a4 a0,[],10⟩ (((Sum.elim (fun (y28:Bool)=>((.ret [.one (Di y28)]):EK)) (fun (y29:Int)=>((.pan (QF 90 y29)):EK)))) y31) ⟨(((Sum.elim (fun (y28:Bool)=>(⟨[(3,.v (.one (Di y28)))],J5 a1 a2 a3 a4 a0,[],13,8,[]⟩:St)) (fun (y29:Int)=>(⟨[],Jd a1 a2 a3 a4 a0,[],15,8,[]⟩:St)))) y31).hp,(((Sum.elim (fun (y28:Bool)=>(⟨[(3,.v (.one (Di y28)))],J5 a1 a2 a3 a4 a0,[],13,8,[]⟩:St)) (fun (y29:Int)=>(⟨[],Jd a1 a2 a3 a4 a0,[],15,8,[]⟩:St)))) y31).tk,(((Sum.elim (fun (y28:Bool)=>(⟨[(3,.v (.one (Di y28)))],J5 a1 a2 a3 a4 a0,[],13,8,[]⟩:St)) (fun (y29:Int)=>(⟨[],Jd a1 a2 a3 a4 a0,[],15,8,[]⟩:St)))) y31).nx⟩:=by
    refine Jy y31 ((Sum.elim (fun (y28:Bool)=>(⟨[(3,.v (.one (Di y28)))],J5 a1 a2 a3 a4 a0,[],13,8,[]⟩:St)) (fun (y29:Int)=>(⟨[],Jd a1 a2 a3 a4 a0,[],15,8,[]⟩:St)))) ((Sum.elim (fun (y28:Bool)=>((.ret [.one (Di y28)]):EK)) (fun (y29:Int)=>((.pan (QF 90 y29)):EK)))) rfl rfl en_99 (D6 rfl) (fun z_=>by cases z_ with
      | inl _=>exact rfl
      | inr _=>exact rfl) (fun z_=>by cases z_ with
      | inl _=>exact (WU (Qz rfl .nil))
      | inr _=>exact U1) (fun w0 M V0 Q hv4 hQ4=>?_)
    simp only [Ja]
    refine Q6<|Q0<|Q9 Z Z (D6 Z) (QU Z)<|UW Z Z Z<|Q3<|Q4<|Q6<|Q0<|UU Z Z Z (QM (x27:Tm) QW Z Z)<|UU Z Z Z (Q5 ag_78 Z Z Z) ?_
    refine Qd h4 (fun x32 hx32 h4=>?_)
    refine JH id hx32 h4 (fun x33 hx33 h4=>?_) (fun x34 hx34 h4=>?_)
    refine Q9 Z Z (D6 Z) (Jo (hp1':=[(0,.loop .ready none [(5,.v (.one (.ptr 2 0))),(9,.v (.one (.ptr 5 0))),(23,.v (.one (.fn 82 [(7,0)])))] 53 #[24] Yy Y6 1),(1,.obj (.deferred (some []))),(2,.cells 59 [.ptr 3 0]),(3,.cells 62 [Df a1,.mp 4]),(4,.mp (QR a2.1) a2.2),(5,.cells 60 [.mp 6]),(6,.mp (QR a3.1) a3.2),(7,.cells 33 (Dk a4))]) (tk1':=[]) (hpF:=m83f9_h9 a0 x27) (tkF:=[]) (res2:=QN [.one (Di x33)]) (nx2:=13) [0,1,2,3,4,5,6,7] Z Z (CallE.m (H x27 a1 a2 a3 a4 (.inl x33) hx33)) Z Z (UZ Z Z (UZ Z Z (UZ Z Z (UZ Z Z (UY Z (UZ Z Z (UY Z (UZ Z Z UX)))))))) Z Z (Dd Z (Dd Z (Dd Z (Dd Z (De Z (Dd Z (De Z (Dd Z Db)))))))) D9 (hA Z) D7 Z Z Z Z Z (Dp Z Z (Dp Z Z (Dp Z Z (Dp Z Z (Do Z (Dp Z Z (Do Z (Dq Z)))))))) Z Z Z Z)<|UU Z Z Z (Jj Z)<|UW Z Z Z<|Q3<|Q4<|QB ?_
    have e:=US h4;subst e
    exact hQ4 _ _ Uk Z (show StLe _ _ ⟨[(3,.v (.one (Di (!x33))))],J5 a1 a2 a3 a4 a0,[],13,8,[]⟩ from (QH (UQ Z) (hA Z) D7 Z (Nat.le_trans hv4 (D6 Z)) Z Z Z (Dp Z Z (Dp Z Z (Dp Z Z (Dp Z Z (Do Z (Dp Z Z (Do Z (Dq Z)))))))) Z Z))
    refine J6 Z (Yc (hp1':=[(0,.loop .busy none [(5,.v (.one (.ptr 2 0))),(9,.v (.one (.ptr 5 0))),(23,.v (.one (.fn 82 [(7,0)])))] 53 #[24] Yy Y6 1),(1,.obj (.deferred (some []))),(2,.cells 59 [.ptr 3 0]),(3,.cells 62 [Df a1,.mp 4]),(4,.mp (QR a2.1) a2.2),(5,.cells 60 [.mp 6]),(6,.mp (QR a3.1) a3.2),(7,.cells 33 (Dk a4))]) (tk1':=[]) (hpF:=m83f9_h9 a0 x27) (tkF:=[]) (nx2:=15) [0,1,2,3,4,5,6,7] Z Z (CallE.d (H x27 a1 a2 a3 a4 (.inr x34) hx34)) Z Z (UZ Z Z (UZ Z Z (UZ Z Z (UZ Z Z (UY Z (UZ Z Z (UY Z (UZ Z Z UX)))))))) Z (Dd Z (Dd Z (Dd Z (Dd Z (De Z (Dd Z (De Z (Dd Z Db)))))))) D9 (hA Z) D7 Z Z Z Z Z (Dp Z Z (Dp Z Z (Dp Z Z (Dp Z Z (Do Z (Dp Z Z (Do Z (Dq Z)))))))) Z Z Z Z) ?_
    have e:=US h4;subst e
    exact Jg (hQ4 (.panic (Jq (QF 90 x34))) _ Zx Z (show StLe _ _ ⟨[],Jd a1 a2 a3 a4 a0,[],15,8,[]⟩ from (QH UP (hA Z) D7 Z (Nat.le_trans hv4 (D6 Z)) Z Z Z (Dp Z Z (Dp Z Z (Dp Z Z (Dp Z Z (Do Z (Dp Z Z (Do Z (Dq Z)))))))) Z Z))) (fun _ _ h=>h)
   refine XH (C:=fun q_=>CallE Try.prog 99 [.agg (Dk x27),.one (.ptr 9 0)] ⟨J5 a1 a2 a3 a4 a0,[],10⟩ (((Sum.elim (fun (y28:Bool)=>((.ret [.one (Di y28)]):EK)) (fun (y29:Int)=>((.pan (QF 90 y29)):EK)))) q_) ⟨(((Sum.elim (fun (y28:Bool)=>(⟨[(3,.v (.one (Di y28)))],J5 a1 a2 a3 a4 a0,[],13,8,[]⟩:St)) (fun (y29:Int)=>(⟨[],Jd a1 a2 a3 a4 a0,[],15,8,[]⟩:St)))) q_).hp,(((Sum.elim (fun (y28:Bool)=>(⟨[(3,.v (.one (Di y28)))],J5 a1 a2 a3 a4 a0,[],13,8,[]⟩:St)) (fun (y29:Int)=>(⟨[],Jd a1 a2 a3 a4 a0,[],15,8,[]⟩:St)))) q_).tk,(((Sum.elim (fun (y28:Bool)=>(⟨[(3,.v (.one (Di y28)))],J5 a1 a2 a3 a4 a0,[],13,8,[]⟩:St)) (fun (y29:Int)=>(⟨[],Jd a1 a2 a3 a4 a0,[],15,8,[]⟩:St)))) q_).nx⟩) hc30 h3 (fun y28 hc30 h3=>?_) (fun y29 hc30 h3=>?_)
   replace hc30:CallM Try.prog 99 [.agg (Dk x27),.one (.ptr 9 0)] ⟨J5 a1 a2 a3 a4 a0,[],10⟩ (QN [.one (Di y28)]) ⟨J5 a1 a2 a3 a4 a0,[],13⟩:=hc30
   refine Q9 Z Z (D6 Z) (JJ Z Z Z hc30 Z (hA Z) D7)<|Q3<|Q4 ?_
   refine Qg (b:=y28) Z (fun c35=>?_) (fun c35=>?_)
   replace h3:=Qj c35 h3
   refine Q6<|Q0<|UV Z Z Z<|UW Z Z Z<|Q3<|Q4<|QB ?_
   have e:=US h3;subst e
   have e_:_=_:=ho3
   subst e_
   try dsimp only [Sum.elim_inl,Sum.elim_inr] at h2
   have e:=US h2;subst e
   exact hQ2 _ _ Uk Z (show StLe _ _ ⟨[(4,.v (.one (Dh s3)))],J5 a1 a2 a3 a4 a0,[],10,19,[]⟩ from (QH (UQ Z) (hA Z) D7 Z (Nat.le_trans hv2 (D6 Z)) Z Z Z (Dp Z Z (Dp Z Z (Dp Z Z (Dp Z Z (Do Z (Dp Z Z (Do Z (Dq Z)))))))) Z Z))
   replace h3:=Qk c35 h3
   refine Qn<|Qf<|Q4<|Q0<|UU Z Z Z (Q7 Z Z Z)<|UV Z Z Z<|Q3 ?_
   have e:=US h3;subst e
   refine QV (J9 (s3+1)) (QH (UQ Z) (hA Z) D7 Z (Nat.le_trans hv2 (D6 Z)) Z Z Z (Dp Z Z (Dp Z Z (Dp Z Z (Dp Z Z (Do Z (Dp Z Z (Do Z (Dq Z)))))))) Z Z) ho3
   replace hc30:Xa Try.prog 99 [.agg (Dk x27),.one (.ptr 9 0)] ⟨J5 a1 a2 a3 a4 a0,[],10⟩ (QF 90 y29) ⟨Jd a1 a2 a3 a4 a0,[],15⟩:=hc30
   refine J6 Z (OpD.callW Z Z Z hc30 Z (hA Z) D7) ?_
   have e:=US h3;subst e
   have e_:_=_:=ho3
   subst e_
   try dsimp only [Sum.elim_inl,Sum.elim_inr] at h2
   have e:=US h2;subst e
   exact Jg (hQ2 (.panic (Jq (QF 90 y29))) _ Zx Z (show StLe _ _ ⟨[],Jd a1 a2 a3 a4 a0,[],15,19,[]⟩ from (QH UP (hA Z) D7 Z (Nat.le_trans hv2 (D6 Z)) Z Z Z (Dp Z Z (Dp Z Z (Dp Z Z (Dp Z Z (Do Z (Dp Z Z (Do Z (Dq Z)))))))) Z Z))) (fun _ _ h=>h)
   replace h3:=Qk c26 h3
   refine J8<|Qq<|Qq ?_
   have e:=US h3;subst e
   have e_:_=_:=ho3
   subst e_
   exact J0 () (QH UP (hA Z) D7 Z (Nat.le_trans hv2 (D6 Z)) Z Z Z (Dp Z Z (Dp Z Z (Dp Z Z (Dp Z Z (Do Z (Dp Z Z (Do Z (Dq Z)))))))) Z Z) h2
   intro o24 h2
   refine QQ<|Q4<|Q6<|Q0<|UW Z Z Z<|Q3<|Q4<|QB ?_
   have e:=US h2;subst e
   exact hQ2 _ _ Uk Z (show StLe _ _ ⟨[(4,.v (.one (Dh (-1))))],J5 a1 a2 a3 a4 a0,[],10,19,[]⟩ from (QH (UQ Z) (hA Z) D7 Z (Nat.le_trans hv2 (D6 Z)) Z Z Z (Dp Z Z (Dp Z Z (Dp Z Z (Dp Z Z (Do Z (Dp Z Z (Do Z (Dq Z)))))))) Z Z))
  refine XH (C:=fun q_=>CallE Try.prog 104 [.one (Df a0.kids),.one (.fn 99 [(9,0)])] ⟨J5 a1 a2 a3 a4 a0,[],10⟩ (((Sum.elim (fun (y20:Int)=>((.ret [.one (Dh y20)]):EK)) (fun (y21:Int)=>((.pan (QF 90 y21)):EK)))) q_) ⟨(((Sum.elim (fun (y20:Int)=>(⟨[(4,.v (.one (Dh y20)))],J5 a1 a2 a3 a4 a0,[],10,19,[]⟩:St)) (fun (y21:Int)=>(⟨[],Jd a1 a2 a3 a4 a0,[],15,19,[]⟩:St)))) q_).hp,(((Sum.elim (fun (y20:Int)=>(⟨[(4,.v (.one (Dh y20)))],J5 a1 a2 a3 a4 a0,[],10,19,[]⟩:St)) (fun (y21:Int)=>(⟨[],Jd a1 a2 a3 a4 a0,[],15,19,[]⟩:St)))) q_).tk,(((Sum.elim (fun (y20:Int)=>(⟨[(4,.v (.one (Dh y20)))],J5 a1 a2 a3 a4 a0,[],10,19,[]⟩:St)) (fun (y21:Int)=>(⟨[],Jd a1 a2 a3 a4 a0,[],15,19,[]⟩:St)))) q_).nx⟩) hc22 h1 (fun y20 hc22 h1=>?_) (fun y21 hc22 h1=>?_)
  replace hc22:CallM Try.prog 104 [.one (Df a0.kids),.one (.fn 99 [(9,0)])] ⟨J5 a1 a2 a3 a4 a0,[],10⟩ (QN [.one (Dh y20)]) ⟨J5 a1 a2 a3 a4 a0,[],10⟩:=hc22
  refine Q9 Z Z (D6 Z) (JJ Z Z Z hc22 Z (hA Z) D7)<|UU Z Z Z (Q7 Z Z Z)<|UW Z Z Z<|Q3<|Q4<|QB ?_
  have e:=US h1;subst e
  exact hQ1 _ _ Uk Z (show StLe _ _ ⟨[(4,.v (.one (Di (decide (0≤y20)))))],J5 a1 a2 a3 a4 a0,[],10,9,[]⟩ from (QH (UQ Z) (hA Z) D7 Z (Nat.le_trans hv1 (D6 Z)) Z Z Z (Dp Z Z (Dp Z Z (Dp Z Z (Dp Z Z (Do Z (Dp Z Z (Do Z (Dq Z)))))))) Z Z))
  replace hc22:Xa Try.prog 104 [.one (Df a0.kids),.one (.fn 99 [(9,0)])] ⟨J5 a1 a2 a3 a4 a0,[],10⟩ (QF 90 y21) ⟨Jd a1 a2 a3 a4 a0,[],15⟩:=hc22
  refine J6 Z (OpD.callW Z Z Z hc22 Z (hA Z) D7) ?_
  have e:=US h1;subst e
  exact Jg (hQ1 (.panic (Jq (QF 90 y21))) _ Zx Z (show StLe _ _ ⟨[],Jd a1 a2 a3 a4 a0,[],15,9,[]⟩ from (QH UP (hA Z) D7 Z (Nat.le_trans hv1 (D6 Z)) Z Z Z (Dp Z Z (Dp Z Z (Dp Z Z (Dp Z Z (Do Z (Dp Z Z (Do Z (Dq Z)))))))) Z Z))) (fun _ _ h=>h)
 refine XH (C:=fun q_=>CallE Try.prog 98 [.one (Df a0.kids),.one (.fn 99 [(9,0)])] ⟨J5 a1 a2 a3 a4 a0,[],10⟩ (((Sum.elim (fun (y16:Bool)=>((.ret [.one (Di y16)]):EK)) (fun (y17:Int)=>((.pan (QF 90 y17)):EK)))) q_) ⟨(((Sum.elim (fun (y16:Bool)=>(⟨[(4,.v (.one (Di y16)))],J5 a1 a2 a3 a4 a0,[],10,9,[]⟩:St)) (fun (y17:Int)=>(⟨[],Jd a1 a2 a3 a4 a0,[],15,9,[]⟩:St)))) q_).hp,(((Sum.elim (fun (y16:Bool)=>(⟨[(4,.v (.one (Di y16)))],J5 a1 a2 a3 a4 a0,[],10,9,[]⟩:St)) (fun (y17:Int)=>(⟨[],Jd a1 a2 a3 a4 a0,[],15,9,[]⟩:St)))) q_).tk,(((Sum.elim (fun (y16:Bool)=>(⟨[(4,.v (.one (Di y16)))],J5 a1 a2 a3 a4 a0,[],10,9,[]⟩:St)) (fun (y17:Int)=>(⟨[],Jd a1 a2 a3 a4 a0,[],15,9,[]⟩:St)))) q_).nx⟩) hc18 h0 (fun y16 hc18 h0=>?_) (fun y17 hc18 h0=>?_)
 replace hc18:CallM Try.prog 98 [.one (Df a0.kids),.one (.fn 99 [(9,0)])] ⟨J5 a1 a2 a3 a4 a0,[],10⟩ (QN [.one (Di y16)]) ⟨J5 a1 a2 a3 a4 a0,[],10⟩:=hc18
 refine Q9 Z Z (D6 Z) (JJ Z Z Z hc18 Z (hA Z) D7)<|UU Z Z Z (Jj Z)<|UW Z Z Z<|Q3<|Q4<|QB ?_
 have e:=US h0;subst e
 exact hQ0 _ _ Uk Z (show StLe _ _ ⟨[(4,.v (.one (Di (!y16))))],Js a1 a2 a3 a4,[],10,19,[]⟩ from (QH (UQ Z) (hA Z) D7 Z (Nat.le_trans hv0 (D6 Z)) Z Z Z (Dp Z Z (Dp Z Z (Dp Z Z (Dp Z Z (Do Z (Dp Z Z (Do Z (Dq Z)))))))) Z Z))
 replace hc18:Xa Try.prog 98 [.one (Df a0.kids),.one (.fn 99 [(9,0)])] ⟨J5 a1 a2 a3 a4 a0,[],10⟩ (QF 90 y17) ⟨Jd a1 a2 a3 a4 a0,[],15⟩:=hc18
 refine J6 Z (OpD.callW Z Z Z hc18 Z (hA Z) D7) ?_
 have e:=US h0;subst e
 exact Jg (hQ0 (.panic (Jq (QF 90 y17))) _ Zx Z (show StLe _ _ ⟨[],JR a1 a2 a3 a4,[],12,19,[]⟩ from (QH UP (hA Z) D7 Z (Nat.le_trans hv0 (D6 Z)) Z Z Z (Dp Z Z (Dp Z Z (Dp Z Z (Dp Z Z (Do Z (Dp Z Z (Do Z (Dq Z)))))))) Z Z))) (fun _ _ h=>h)
theorem m83f9_all (n:Nat) (u:Tm×(List Dcl)×(Qc Dx Ent)×(Qc Dx Ent)×Tm) (r:Bool⊕Int) (h0:JA Xh n u=some r):CallE Try.prog 83 [.agg (Dk u.1),.one (.yld 0)] ⟨Js u.2.1 u.2.2.1 u.2.2.2.1 u.2.2.2.2,[],8⟩ ((Sum.elim (fun (r0:Bool)=>((.ret [.one (Di r0)]):EK)) (fun (r1:Int)=>((.pan (QF 90 r1)):EK))) r) ⟨((Sum.elim (fun (r0:Bool)=>(⟨[(4,.v (.one (Di r0)))],Js u.2.1 u.2.2.1 u.2.2.2.1 u.2.2.2.2,[],10,19,[]⟩:St)) (fun (r1:Int)=>(⟨[],JR u.2.1 u.2.2.1 u.2.2.2.1 u.2.2.2.2,[],12,19,[]⟩:St))) r).hp,((Sum.elim (fun (r0:Bool)=>(⟨[(4,.v (.one (Di r0)))],Js u.2.1 u.2.2.1 u.2.2.2.1 u.2.2.2.2,[],10,19,[]⟩:St)) (fun (r1:Int)=>(⟨[],JR u.2.1 u.2.2.1 u.2.2.2.1 u.2.2.2.2,[],12,19,[]⟩:St))) r).tk,((Sum.elim (fun (r0:Bool)=>(⟨[(4,.v (.one (Di r0)))],Js u.2.1 u.2.2.1 u.2.2.2.1 u.2.2.2.2,[],10,19,[]⟩:St)) (fun (r1:Int)=>(⟨[],JR u.2.1 u.2.2.1 u.2.2.2.1 u.2.2.2.2,[],12,19,[]⟩:St))) r).nx⟩ :=
 Z1 (C:=fun u r=>CallE Try.prog 83 [.agg (Dk u.1),.one (.yld 0)] ⟨Js u.2.1 u.2.2.1 u.2.2.2.1 u.2.2.2.2,[],8⟩ ((Sum.elim (fun (r0:Bool)=>((.ret [.one (Di r0)]):EK)) (fun (r1:Int)=>((.pan (QF 90 r1)):EK))) r) ⟨((Sum.elim (fun (r0:Bool)=>(⟨[(4,.v (.one (Di r0)))],Js u.2.1 u.2.2.1 u.2.2.2.1 u.2.2.2.2,[],10,19,[]⟩:St)) (fun (r1:Int)=>(⟨[],JR u.2.1 u.2.2.1 u.2.2.2.1 u.2.2.2.2,[],12,19,[]⟩:St))) r).hp,((Sum.elim (fun (r0:Bool)=>(⟨[(4,.v (.one (Di r0)))],Js u.2.1 u.2.2.1 u.2.2.2.1 u.2.2.2.2,[],10,19,[]⟩:St)) (fun (r1:Int)=>(⟨[],JR u.2.1 u.2.2.1 u.2.2.2.1 u.2.2.2.2,[],12,19,[]⟩:St))) r).tk,((Sum.elim (fun (r0:Bool)=>(⟨[(4,.v (.one (Di r0)))],Js u.2.1 u.2.2.1 u.2.2.2.1 u.2.2.2.2,[],10,19,[]⟩:St)) (fun (r1:Int)=>(⟨[],JR u.2.1 u.2.2.1 u.2.2.2.1 u.2.2.2.2,[],12,19,[]⟩:St))) r).nx⟩) (fun rc H u r h=>m83f9s_ok rc (fun a0 a1 a2 a3 a4 r h=>H (a0,a1,a2,a3,a4) r h) u.1 u.2.1 u.2.2.1 u.2.2.2.1 u.2.2.2.2 r h) n u r h0
theorem m83f9_ok (a0:Tm) (a1:List Dcl) (a2:Qc Dx Ent) (a3:Qc Dx Ent) (a4:Tm) (r:Bool⊕Int) (h0:m83f9 a0 a1 a2 a3 a4=some r):CallE Try.prog 83 [.agg (Dk a0),.one (.yld 0)] ⟨Js a1 a2 a3 a4,[],8⟩ ((Sum.elim (fun (r0:Bool)=>((.ret [.one (Di r0)]):EK)) (fun (r1:Int)=>((.pan (QF 90 r1)):EK))) r) ⟨((Sum.elim (fun (r0:Bool)=>(⟨[(4,.v (.one (Di r0)))],Js a1 a2 a3 a4,[],10,19,[]⟩:St)) (fun (r1:Int)=>(⟨[],JR a1 a2 a3 a4,[],12,19,[]⟩:St))) r).hp,((Sum.elim (fun (r0:Bool)=>(⟨[(4,.v (.one (Di r0)))],Js a1 a2 a3 a4,[],10,19,[]⟩:St)) (fun (r1:Int)=>(⟨[],JR a1 a2 a3 a4,[],12,19,[]⟩:St))) r).tk,((Sum.elim (fun (r0:Bool)=>(⟨[(4,.v (.one (Di r0)))],Js a1 a2 a3 a4,[],10,19,[]⟩:St)) (fun (r1:Int)=>(⟨[],JR a1 a2 a3 a4,[],12,19,[]⟩:St))) r).nx⟩:=m83f9_all QI (a0,a1,a2,a3,a4) r h0
end Go.Proofs.Ytafddfoefeploaa
