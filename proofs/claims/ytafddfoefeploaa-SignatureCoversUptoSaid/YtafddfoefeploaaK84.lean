/- Part 4 of the proof: rules, mirrors and plain laws. The statement SignatureCoversUpto is proved here: for every list of declarations the law returns true, and what it is given reads behind the call ars it did before; condition: the arguments are of bulk at most 1048576 (the second form). -/
import Derived.Test.YtafddfoefeploaaK83
import Derived.ProofKit
import Derived.Shelf.Abstract
set_option maxRecDepth 100000
set_option maxHeartbeats 2000000
set_option linter.unusedSimpArgs false
set_option linter.unusedVariables false
set_option linter.unusedSectionVars false
namespace Go.Proofs.Ytafddfoefeploaa
open Go.RowKit Go.Shelf
theorem z_127:JD Try.prog 127=some [.int .i64 0,.int .i64 0,.int .i64 0,.int .i64 0]:=by kernel_rfl
theorem bd_127:Yj Try.prog 127 [(0,1),(1,1),(2,1),(3,1)] [.int .i64 0,.int .i64 0,.int .i64 0,.int .i64 0]:=⟨by kernel_rfl,by kernel_rfl⟩
theorem en_66:J4 Try.prog 66:=enters_of Try.func66 (by kernel_rfl) rfl
noncomputable def ZK:Code:=(cA (cA (cB (cA (cB (cB (cB (Kx Try.f66))))))))
noncomputable def Z8:Code:=(cB (cA (cB (cA (cB (cB (cB (Kx Try.f66))))))))
def m91f3_k0 (p0_:Tm×Int×Tm×Int×Scp×Int×Tm→Option ((Int×Int)⊕(Bool×Int))) (p1_:Tm) (p2_:Int) (p3_:Tm) (p4_:Int) (p5_:Scp) (p6_:Int×Int) (p7_:Tm):Option (LO (Int×Int) (Int⊕((Int×Int)⊕(Bool×Int)))) :=
 Option.bind (p0_ (p1_,p2_,p3_,p4_,p5_,p6_.2,p7_)) (Sum.elim (fun (b0_:Int×Int)=>some (.done (.inr (.inl (b0_.1,b0_.2))))) (fun (b1_:Bool×Int)=>cond (!b1_.1)
   (some (.done (.inr (.inr (false,b1_.2)))))
   (some (.next ((J9 (p6_.1+1)),b1_.2)))))
def Kg (a0:Tm) (v9:Int) (a1:Int) (rc:Tm×Int×Tm×Int×Scp×Int×Tm→Option ((Int×Int)⊕(Bool×Int))) (a2:Tm) (a3:Int) (a4:Scp) (a6:Tm) (s1:Int×Int):Option (LO (Int×Int) (Int⊕((Int×Int)⊕(Bool×Int)))) :=
 cond (decide (s1.1 < (a0.kids.length:Int)))
   (Option.bind (JC a0.kids s1.1) fun (x12:Tm) =>
 Option.bind (cond (s1.1==v9)
   (some (J9 (a1+1)))
   (some a1)) (fun (v13:Int)=>m91f3_k0 rc x12 v13 a2 a3 a4 s1 a6))
   (some (.done (.inl s1.2)))
def GE (p0_:Bool) (p1_:Tm) (p2_:Int) (p3_:Tm×Int×Tm×Int×Scp×Int×Tm→Option ((Int×Int)⊕(Bool×Int))) (p4_:Tm) (p5_:Int) (p6_:Scp) (p7_:Tm) (p8_:Int):Option ((Int×Int)⊕(Bool×Int)) :=
 Option.bind (cond p0_
   (Jd (cond (decide (0≤p1_.kind)) (Nat.blt p1_.kind.toNat 13) false)
 (Option.bind (JC ([(-1),(-1),(-1),(-1),(-1),1,1,1,(-1),(-1),(-1),2,(-1)]:List Int) p1_.kind) fun (b0_:Int) =>
 some b0_))
   (some (-1))) (fun (b1_:Int)=>Option.bind (Qp (Kg p1_ b1_ p2_ p3_ p4_ p5_ p6_ p7_) QF (0,(J9 (p8_+1)))) (Sum.elim (fun (b2_:Int)=>some (.inr (true,b2_))) (fun o=>some o)))
noncomputable abbrev JE :HB :=
 .loop .ready none [(5,.v (.one (.ptr 3 0))),(10,.v (.one (.ptr 4 0))),(11,.v (.one (.ptr 5 0))),(12,.v (.one (.ptr 6 0))),(26,.v (.one (.fn 89 [(7,0)])))] 45 #[27,28] ZK Z8 2
noncomputable abbrev J6 :HB :=
 .cells 135 [dB true,dB false,dI 0,dI 0,dI (-1),dB false,dB false,dI 0,dI 0,dI (-1),dB false,dB false,dI 1,dI 0,dI (-1),dB false,dB true,dI (-1),dI 0,dI (-1),dB false,dB false,dI 0,dI 2,dI (-1),dB false,dB false,dI 0,dI 2,dI 1,dB false,dB false,dI 0,dI 2,dI 1,dB false,dB false,dI 0,dI 2,dI 1,dB false,dB false,dI 0,dI 3,dI (-1),dB false,dB false,dI 0,dI 1,dI (-1),dB false,dB false,dI 0,dI 1,dI (-1),dB false,dB false,dI 0,dI 3,dI 2,dB true,dB false,dI 0,dI 0,dI (-1)]
noncomputable abbrev m91f3_h2 (p0_:Tm) (p1_:Int) (p2_:Scp) (p3_:Int) (p4_:Tm) (p5_:Tm):List (Nat×HB) :=
 [(0,.cells 132 [.yld 1]),(1,JE),(2,.obj (.deferred (some []))),(3,.cells 33 (cE p0_)),(4,.cells 25 [dI p1_]),(5,.cells 127 (cE p2_)),(6,.cells 3 [dI p3_]),(7,.cells 33 (cE p4_)),(8,J6),(9,.cells 137 [.fn 91 [(0,0),(8,0),(9,0)]]),(10,.cells 33 (cE p5_))]
noncomputable abbrev GF :HB :=
 .loop .busy none [(5,.v (.one (.ptr 3 0))),(10,.v (.one (.ptr 4 0))),(11,.v (.one (.ptr 5 0))),(12,.v (.one (.ptr 6 0))),(26,.v (.one (.fn 89 [(7,0)])))] 45 #[27,28] ZK Z8 2
noncomputable abbrev m91f3_h4 (p0_:Tm) (p1_:Int) (p2_:Scp) (p3_:Int) (p4_:Tm) (p5_:Tm):List (Nat×HB) :=
 [(0,.cells 132 [.yld 1]),(1,GF),(2,.obj (.deferred (some []))),(3,.cells 33 (cE p0_)),(4,.cells 25 [dI p1_]),(5,.cells 127 (cE p2_)),(6,.cells 3 [dI p3_]),(7,.cells 33 (cE p4_)),(8,J6),(9,.cells 137 [.fn 91 [(0,0),(8,0),(9,0)]]),(10,.cells 33 (cE p5_)),(11,.cells 33 (cE p5_))]
noncomputable abbrev m91f3_h5 (p0_:Tm) (p1_:Int) (p2_:Scp) (p3_:Int) (p4_:Tm) (p5_:Tm):List (Nat×HB) :=
 [(0,.cells 132 [.yld 1]),(1,JE),(2,.obj (.deferred (some []))),(3,.cells 33 (cE p0_)),(4,.cells 25 [dI p1_]),(5,.cells 127 (cE p2_)),(6,.cells 3 [dI p3_]),(7,.cells 33 (cE p4_)),(8,J6),(9,.cells 137 [.fn 91 [(0,0),(8,0),(9,0)]]),(10,.cells 33 (cE p5_)),(11,.cells 33 (cE p5_))]
noncomputable abbrev m91f3_h6 (p0_:Tm) (p1_:Int) (p2_:Scp) (p3_:Int) (p4_:Tm) (p5_:Tm):List (Nat×HB) :=
 [(0,.cells 132 [.yld 1]),(1,GF),(2,.obj (.deferred (some []))),(3,.cells 33 (cE p0_)),(4,.cells 25 [dI p1_]),(5,.cells 127 (cE p2_)),(6,.cells 3 [dI p3_]),(7,.cells 33 (cE p4_)),(8,J6),(9,.cells 137 [.fn 91 [(0,0),(8,0),(9,0)]]),(10,.cells 33 (cE p5_))]
noncomputable abbrev m91f3_h7 (p0_:Tm) (p1_:Int) (p2_:Scp) (p3_:Int×Int) (p4_:Tm) (p5_:Tm) (p6_:Tm):List (Nat×HB) :=
 [(0,.cells 132 [.yld 1]),(1,JE),(2,.obj (.deferred (some []))),(3,.cells 33 (cE p0_)),(4,.cells 25 [dI p1_]),(5,.cells 127 (cE p2_)),(6,.cells 3 [dI p3_.2]),(7,.cells 33 (cE p4_)),(8,J6),(9,.cells 137 [.fn 91 [(0,0),(8,0),(9,0)]]),(10,.cells 33 (cE p5_)),(12,.cells 33 (cE p6_))]
noncomputable abbrev Yd :HB :=
 .loop .done (some .ret) [(5,.v (.one (.ptr 3 0))),(10,.v (.one (.ptr 4 0))),(11,.v (.one (.ptr 5 0))),(12,.v (.one (.ptr 6 0))),(26,.v (.one (.fn 89 [(7,0)])))] 45 #[27,28] ZK Z8 2
noncomputable abbrev m91f3_h9 (p0_:Tm) (p1_:Int×Int) (p2_:Scp) (p3_:Tm):List (Nat×HB) :=
 [(0,.cells 132 [.yld 1]),(1,Yd),(2,.obj (.deferred (some []))),(3,.cells 33 (cE p0_)),(4,.cells 25 [dI p1_.1]),(5,.cells 127 (cE p2_)),(6,.cells 3 [dI p1_.2]),(7,.cells 33 (cE p3_)),(8,J6),(9,.cells 137 [.fn 91 [(0,0),(8,0),(9,0)]])]
noncomputable abbrev m91f3_h10 (p0_:Tm) (p1_:Int) (p2_:Scp) (p3_:Bool×Int) (p4_:Tm):List (Nat×HB) :=
 [(0,.cells 132 [.yld 1]),(1,JE),(2,.obj (.deferred (some []))),(3,.cells 33 (cE p0_)),(4,.cells 25 [dI p1_]),(5,.cells 127 (cE p2_)),(6,.cells 3 [dI p3_.2]),(7,.cells 33 (cE p4_)),(8,J6),(9,.cells 137 [.fn 91 [(0,0),(8,0),(9,0)]])]
noncomputable abbrev KK (p0_:Tm) (p1_:Int) (p2_:Scp) (p3_:Int) (p4_:Tm):List (Nat×HB) :=
 [(0,.cells 132 [.yld 1]),(1,JE),(2,.obj (.deferred (some []))),(3,.cells 33 (cE p0_)),(4,.cells 25 [dI p1_]),(5,.cells 127 (cE p2_)),(6,.cells 3 [dI p3_]),(7,.cells 33 (cE p4_)),(8,J6),(9,.cells 137 [.fn 91 [(0,0),(8,0),(9,0)]])]
noncomputable abbrev m91f3_h12 (p0_:Tm) (p1_:Int) (p2_:Scp) (p3_:Int) (p4_:Tm):List (Nat×HB) :=
 [(0,.cells 132 [.yld 1]),(1,Yd),(2,.obj (.deferred (some []))),(3,.cells 33 (cE p0_)),(4,.cells 25 [dI p1_]),(5,.cells 127 (cE p2_)),(6,.cells 3 [dI p3_]),(7,.cells 33 (cE p4_)),(8,J6),(9,.cells 137 [.fn 91 [(0,0),(8,0),(9,0)]])]
def U4 (rc:Tm×Int×Tm×Int×Scp×Int×Tm→Option ((Int×Int)⊕(Bool×Int))) (a0:Tm) (a1:Int) (a2:Tm) (a3:Int) (a4:Scp) (a5:Int) (a6:Tm):Option ((Int×Int)⊕(Bool×Int)) :=
 Option.bind (Option.bind (m80 a4 a0 a1) fun (x6:Int) =>
 cond (x6 != 0)
   (some (.inr x6))
   (some (.inl ()))) (Sum.elim (fun (y1:Unit)=>Option.bind (cond (decide (0≤a0.kind))
   (some (decide (a0.kind < 13)))
   (some false)) (fun (v8:Bool)=>GE v8 a0 a1 rc a2 a3 a4 a6 a5)) (fun (y2:Int)=>some (.inl (y2,a5))))
def G0 (rc:Tm×Int×Tm×Int×Scp×Int×Tm→Option ((Int×Int)⊕(Bool×Int))) (u:Tm×Int×Tm×Int×Scp×Int×Tm):Option ((Int×Int)⊕(Bool×Int)):=U4 rc u.1 u.2.1 u.2.2.1 u.2.2.2.1 u.2.2.2.2.1 u.2.2.2.2.2.1 u.2.2.2.2.2.2
def m91f3 (a0:Tm) (a1:Int) (a2:Tm) (a3:Int) (a4:Scp) (a5:Int) (a6:Tm):Option ((Int×Int)⊕(Bool×Int)):=Jr G0 QF (a0,a1,a2,a3,a4,a5,a6)
theorem m91f3s_ok (rc:Tm×Int×Tm×Int×Scp×Int×Tm→Option ((Int×Int)⊕(Bool×Int))) (H:∀ (a0:Tm) (a1:Int) (a2:Tm) (a3:Int) (a4:Scp) (a5:Int) (a6:Tm) (r:(Int×Int)⊕(Bool×Int)),rc (a0,a1,a2,a3,a4,a5,a6)=some r→CallE Try.prog 91 [.agg (cE a0),.one (dI a1),.one (.ptr 0 0),.one (.ptr 8 0),.one (.ptr 9 0)] ⟨KK a2 a3 a4 a5 a6,[],10⟩ ((Sum.elim (fun (r0:Int×Int)=>((.ret [.one (dB false)]):EK)) (fun (r1:Bool×Int)=>((.ret [.one (dB r1.1)]):EK))) r) ⟨((Sum.elim (fun (r0:Int×Int)=>(⟨[(7,.v (.one (dB false)))],[(0,.cells 132 [.yld 1]),(1,Yd),(2,.obj (.deferred (some []))),(3,.cells 33 (cE a2)),(4,.cells 25 [dI r0.1]),(5,.cells 127 (cE a4)),(6,.cells 3 [dI r0.2]),(7,.cells 33 (cE a6)),(8,J6),(9,.cells 137 [.fn 91 [(0,0),(8,0),(9,0)]])],[],12,50,[]⟩:St)) (fun (r1:Bool×Int)=>(⟨[(7,.v (.one (dB r1.1)))],[(0,.cells 132 [.yld 1]),(1,JE),(2,.obj (.deferred (some []))),(3,.cells 33 (cE a2)),(4,.cells 25 [dI a3]),(5,.cells 127 (cE a4)),(6,.cells 3 [dI r1.2]),(7,.cells 33 (cE a6)),(8,J6),(9,.cells 137 [.fn 91 [(0,0),(8,0),(9,0)]])],[],12,50,[]⟩:St))) r).hp,((Sum.elim (fun (r0:Int×Int)=>(⟨[(7,.v (.one (dB false)))],[(0,.cells 132 [.yld 1]),(1,Yd),(2,.obj (.deferred (some []))),(3,.cells 33 (cE a2)),(4,.cells 25 [dI r0.1]),(5,.cells 127 (cE a4)),(6,.cells 3 [dI r0.2]),(7,.cells 33 (cE a6)),(8,J6),(9,.cells 137 [.fn 91 [(0,0),(8,0),(9,0)]])],[],12,50,[]⟩:St)) (fun (r1:Bool×Int)=>(⟨[(7,.v (.one (dB r1.1)))],[(0,.cells 132 [.yld 1]),(1,JE),(2,.obj (.deferred (some []))),(3,.cells 33 (cE a2)),(4,.cells 25 [dI a3]),(5,.cells 127 (cE a4)),(6,.cells 3 [dI r1.2]),(7,.cells 33 (cE a6)),(8,J6),(9,.cells 137 [.fn 91 [(0,0),(8,0),(9,0)]])],[],12,50,[]⟩:St))) r).tk,((Sum.elim (fun (r0:Int×Int)=>(⟨[(7,.v (.one (dB false)))],[(0,.cells 132 [.yld 1]),(1,Yd),(2,.obj (.deferred (some []))),(3,.cells 33 (cE a2)),(4,.cells 25 [dI r0.1]),(5,.cells 127 (cE a4)),(6,.cells 3 [dI r0.2]),(7,.cells 33 (cE a6)),(8,J6),(9,.cells 137 [.fn 91 [(0,0),(8,0),(9,0)]])],[],12,50,[]⟩:St)) (fun (r1:Bool×Int)=>(⟨[(7,.v (.one (dB r1.1)))],[(0,.cells 132 [.yld 1]),(1,JE),(2,.obj (.deferred (some []))),(3,.cells 33 (cE a2)),(4,.cells 25 [dI a3]),(5,.cells 127 (cE a4)),(6,.cells 3 [dI r1.2]),(7,.cells 33 (cE a6)),(8,J6),(9,.cells 137 [.fn 91 [(0,0),(8,0),(9,0)]])],[],12,50,[]⟩:St))) r).nx⟩) (a0:Tm) (a1:Int) (a2:Tm) (a3:Int) (a4:Scp) (a5:Int) (a6:Tm) (r:(Int×Int)⊕(Bool×Int)) (h0:U4 rc a0 a1 a2 a3 a4 a5 a6=some r):CallE Try.prog 91 [.agg (cE a0),.one (dI a1),.one (.ptr 0 0),.one (.ptr 8 0),.one (.ptr 9 0)] ⟨KK a2 a3 a4 a5 a6,[],10⟩ ((Sum.elim (fun (r0:Int×Int)=>((.ret [.one (dB false)]):EK)) (fun (r1:Bool×Int)=>((.ret [.one (dB r1.1)]):EK))) r) ⟨((Sum.elim (fun (r0:Int×Int)=>(⟨[(7,.v (.one (dB false)))],[(0,.cells 132 [.yld 1]),(1,Yd),(2,.obj (.deferred (some []))),(3,.cells 33 (cE a2)),(4,.cells 25 [dI r0.1]),(5,.cells 127 (cE a4)),(6,.cells 3 [dI r0.2]),(7,.cells 33 (cE a6)),(8,J6),(9,.cells 137 [.fn 91 [(0,0),(8,0),(9,0)]])],[],12,50,[]⟩:St)) (fun (r1:Bool×Int)=>(⟨[(7,.v (.one (dB r1.1)))],[(0,.cells 132 [.yld 1]),(1,JE),(2,.obj (.deferred (some []))),(3,.cells 33 (cE a2)),(4,.cells 25 [dI a3]),(5,.cells 127 (cE a4)),(6,.cells 3 [dI r1.2]),(7,.cells 33 (cE a6)),(8,J6),(9,.cells 137 [.fn 91 [(0,0),(8,0),(9,0)]])],[],12,50,[]⟩:St))) r).hp,((Sum.elim (fun (r0:Int×Int)=>(⟨[(7,.v (.one (dB false)))],[(0,.cells 132 [.yld 1]),(1,Yd),(2,.obj (.deferred (some []))),(3,.cells 33 (cE a2)),(4,.cells 25 [dI r0.1]),(5,.cells 127 (cE a4)),(6,.cells 3 [dI r0.2]),(7,.cells 33 (cE a6)),(8,J6),(9,.cells 137 [.fn 91 [(0,0),(8,0),(9,0)]])],[],12,50,[]⟩:St)) (fun (r1:Bool×Int)=>(⟨[(7,.v (.one (dB r1.1)))],[(0,.cells 132 [.yld 1]),(1,JE),(2,.obj (.deferred (some []))),(3,.cells 33 (cE a2)),(4,.cells 25 [dI a3]),(5,.cells 127 (cE a4)),(6,.cells 3 [dI r1.2]),(7,.cells 33 (cE a6)),(8,J6),(9,.cells 137 [.fn 91 [(0,0),(8,0),(9,0)]])],[],12,50,[]⟩:St))) r).tk,((Sum.elim (fun (r0:Int×Int)=>(⟨[(7,.v (.one (dB false)))],[(0,.cells 132 [.yld 1]),(1,Yd),(2,.obj (.deferred (some []))),(3,.cells 33 (cE a2)),(4,.cells 25 [dI r0.1]),(5,.cells 127 (cE a4)),(6,.cells 3 [dI r0.2]),(7,.cells 33 (cE a6)),(8,J6),(9,.cells 137 [.fn 91 [(0,0),(8,0),(9,0)]])],[],12,50,[]⟩:St)) (fun (r1:Bool×Int)=>(⟨[(7,.v (.one (dB r1.1)))],[(0,.cells 132 [.yld 1]),(1,JE),(2,.obj (.deferred (some []))),(3,.cells 33 (cE a2)),(4,.cells 25 [dI a3]),(5,.cells 127 (cE a4)),(6,.cells 3 [dI r1.2]),(7,.cells 33 (cE a6)),(8,J6),(9,.cells 137 [.fn 91 [(0,0),(8,0),(9,0)]])],[],12,50,[]⟩:St))) r).nx⟩:=by
 unfold U4 at h0
 refine JK r ((Sum.elim (fun (r0:Int×Int)=>(⟨[(7,.v (.one (dB false)))],[(0,.cells 132 [.yld 1]),(1,Yd),(2,.obj (.deferred (some []))),(3,.cells 33 (cE a2)),(4,.cells 25 [dI r0.1]),(5,.cells 127 (cE a4)),(6,.cells 3 [dI r0.2]),(7,.cells 33 (cE a6)),(8,J6),(9,.cells 137 [.fn 91 [(0,0),(8,0),(9,0)]])],[],12,50,[]⟩:St)) (fun (r1:Bool×Int)=>(⟨[(7,.v (.one (dB r1.1)))],[(0,.cells 132 [.yld 1]),(1,JE),(2,.obj (.deferred (some []))),(3,.cells 33 (cE a2)),(4,.cells 25 [dI a3]),(5,.cells 127 (cE a4)),(6,.cells 3 [dI r1.2]),(7,.cells 33 (cE a6)),(8,J6),(9,.cells 137 [.fn 91 [(0,0),(8,0),(9,0)]])],[],12,50,[]⟩:St)))) ((Sum.elim (fun (r0:Int×Int)=>((.ret [.one (dB false)]):EK)) (fun (r1:Bool×Int)=>((.ret [.one (dB r1.1)]):EK)))) rfl rfl en_91 (lb rfl) (fun z_=>by cases z_ with
 | inl _=>exact rfl
 | inr _=>exact rfl) (fun z_=>by cases z_ with
 | inl _=>exact (Du (QC rfl .nil))
 | inr _=>exact (Du (QC rfl .nil))) (fun w0 M V0 Q hv0 hQ0=>?_)
 simp only [Ja]
 refine Q5<|Q0<|Q9 J J (lb J) (QT J)<|rA J J J<|Q3<|Q4<|Q5<|Q5<|Q0<|rR J J J (Q6 ag_132 J J J)<|rM J J J<|rR J J J (QN (a0:Tm) QV J J) ?_
 refine Qb h0 (fun y3 h1 h0=>?_)
 have ha4:ExecOK Try.prog (some 1) ZK ⟨[(5,.v (.one (.ptr 3 0))),(10,.v (.one (.ptr 4 0))),(11,.v (.one (.ptr 5 0))),(12,.v (.one (.ptr 6 0))),(26,.v (.one (.fn 89 [(7,0)]))),(27,.v (.one (dI a1))),(28,.v (.agg (cE a0)))],m91f3_h2 a2 a3 a4 a5 a6 a0,[],11,45,[]⟩ .normal ⟨[(10,.v (.one (.ptr 4 0))),(11,.v (.one (.ptr 5 0))),(12,.v (.one (.ptr 6 0))),(13,.v (.one (dI a1))),(14,.v (.one (.ptr 11 0)))],m91f3_h5 a2 a3 a4 a5 a6 a0,[],12,45,[]⟩:=by
  refine QI (fun w0 M V0 ro n Q hv1 hro1 hQn1=>?_)
  refine Q5<|Q0<|rA J J J<|Q3<|Q4<|Q0<|Q9 J J (lb J) (Qj K4 J)<|Qx J J (Qz (a0:Tm) QV J J J J J)<|Q3 ?_
  exact Jq hQn1 (sL (Nat.le_trans hv1 (lb J)) J J J J J)
 have hb5:ExecOK Try.prog (some 1) Z8 ⟨[(10,.v (.one (.ptr 4 0))),(11,.v (.one (.ptr 5 0))),(12,.v (.one (.ptr 6 0))),(13,.v (.one (dI a1))),(14,.v (.one (.ptr 11 0)))],m91f3_h4 a2 a3 a4 a5 a6 a0,[],12,45,[]⟩ ((Sum.elim (fun (_:Unit)=>(.normal:Exit)) (fun (_:Int)=>(.ret:Exit))) y3) ((Sum.elim (fun (y1:Unit)=>(⟨[],[(0,.cells 132 [.yld 1]),(1,GF),(2,.obj (.deferred (some []))),(3,.cells 33 (cE a2)),(4,.cells 25 [dI a3]),(5,.cells 127 (cE a4)),(6,.cells 3 [dI (J9 (a5+1))]),(7,.cells 33 (cE a6)),(8,J6),(9,.cells 137 [.fn 91 [(0,0),(8,0),(9,0)]]),(10,.cells 33 (cE a0))],[],12,45,[]⟩:St)) (fun (y2:Int)=>(⟨[],m91f3_h6 a2 y2 a4 a5 a6 a0,[],12,45,[]⟩:St))) y3):=by
  refine QI (fun w0 M V0 ro n Q hv1 hro1 hQn1=>?_)
  refine Qf<|Q5<|Q5<|Q0<|rR J J J (QN (a4:Scp) ag_127 J J)<|rR J J J (QN (a0:Tm) QV J J)<|rM J J J ?_
  refine Qb h1 (fun x6 hx6 h1=>?_)
  refine Q9 J J (lb J) (Qq (m80_ok a4 a0 a1 x6 hx6) J (.cons (.agg (.cons (.d _) (.cons (.d _) (.cons (.d _) (.cons (.d _) .nil))))) (.cons (.agg (.cons (.d _) (.cons (.d _) (.cons (.d _) (.cons (.d _) (.cons (.d _) .nil)))))) (.cons (.one (.d _)) .nil))))<|rA J J J<|Q3<|Q4<|Q5<|Q0<|rM J J J<|rR J J J (Q7 J J J)<|Q3<|Q4 ?_
  refine Qh (b:=(x6 != 0)) J (fun c7=>?_) (fun c7=>?_)
  replace h1:=Qk c7 h1
  refine Q5<|Q0<|rM J J J<|Qx J J (Qt K3 J J J J (lb J) J)<|Q3<|Q4<|QD ?_
  have e:=sI h1;subst e
  exact Jq (e:=.ret) (st':=⟨[],m91f3_h6 a2 x6 a4 a5 a6 a0,[],12,45,[]⟩) hQn1 (sL (Nat.le_trans hv1 (lb J)) J J J J J)
  replace h1:=Ql c7 h1
  refine Qm<|Q4<|Q0<|rR J J J (Q6 QU J J J)<|rR J J J (Q7 J J J)<|Qx J J (Qt QU J J J J (lb J) J)<|Q3<|Qe ?_
  have e:=sI h1;subst e
  exact Jq (e:=.normal) (st':=⟨[],[(0,.cells 132 [.yld 1]),(1,GF),(2,.obj (.deferred (some []))),(3,.cells 33 (cE a2)),(4,.cells 25 [dI a3]),(5,.cells 127 (cE a4)),(6,.cells 3 [dI (J9 (a5+1))]),(7,.cells 33 (cE a6)),(8,J6),(9,.cells 137 [.fn 91 [(0,0),(8,0),(9,0)]]),(10,.cells 33 (cE a0))],[],12,45,[]⟩) hQn1 (sL (Nat.le_trans hv1 (lb J)) J J J J J)
 refine U2 (C:=fun q_=>ExecOK Try.prog (some 1) Z8 ⟨[(10,.v (.one (.ptr 4 0))),(11,.v (.one (.ptr 5 0))),(12,.v (.one (.ptr 6 0))),(13,.v (.one (dI a1))),(14,.v (.one (.ptr 11 0)))],m91f3_h4 a2 a3 a4 a5 a6 a0,[],12,45,[]⟩ ((Sum.elim (fun (_:Unit)=>(.normal:Exit)) (fun (_:Int)=>(.ret:Exit))) q_) ((Sum.elim (fun (y1:Unit)=>(⟨[],[(0,.cells 132 [.yld 1]),(1,GF),(2,.obj (.deferred (some []))),(3,.cells 33 (cE a2)),(4,.cells 25 [dI a3]),(5,.cells 127 (cE a4)),(6,.cells 3 [dI (J9 (a5+1))]),(7,.cells 33 (cE a6)),(8,J6),(9,.cells 137 [.fn 91 [(0,0),(8,0),(9,0)]]),(10,.cells 33 (cE a0))],[],12,45,[]⟩:St)) (fun (y2:Int)=>(⟨[],m91f3_h6 a2 y2 a4 a5 a6 a0,[],12,45,[]⟩:St))) q_)) hb5 h0 (fun y1 hb5 h0=>?_) (fun y2 hb5 h0=>?_)
 replace hb5:ExecOK Try.prog (some 1) Z8 ⟨[(10,.v (.one (.ptr 4 0))),(11,.v (.one (.ptr 5 0))),(12,.v (.one (.ptr 6 0))),(13,.v (.one (dI a1))),(14,.v (.one (.ptr 11 0)))],m91f3_h4 a2 a3 a4 a5 a6 a0,[],12,45,[]⟩ .normal ⟨[],[(0,.cells 132 [.yld 1]),(1,GF),(2,.obj (.deferred (some []))),(3,.cells 33 (cE a2)),(4,.cells 25 [dI a3]),(5,.cells 127 (cE a4)),(6,.cells 3 [dI (J9 (a5+1))]),(7,.cells 33 (cE a6)),(8,J6),(9,.cells 137 [.fn 91 [(0,0),(8,0),(9,0)]]),(10,.cells 33 (cE a0))],[],12,45,[]⟩:=hb5
 refine Q9 J J (lb J) (Je (jump:=none) J J J J J (Qw ha4 (fun E hv=>(sL (Nat.le_trans hv (lb J)) J J J J J))) J (Qw hb5 (fun E hv=>(sL (Nat.le_trans hv (lb J)) J J J J J))) J J) ?_
 refine rR J J J (Ji J)<|Q3<|Q4 ?_
 refine Qh J (fun h=>nomatch h) (fun _=>?_)
 refine Qm<|Q4<|Q5<|Q0<|rA J J J<|Q3<|Q4<|Q5<|Q5 ?_
 refine QS (fun (v8:Bool)=>⟨[(1,.v (.one (dI a1))),(3,.v (.one (.ptr 8 0))),(4,.v (.one (.ptr 9 0))),(5,.v (.one (.ptr 10 0))),(8,.v (.one (dI (-1)))),(24,.v (.one (dB v8)))],[(0,.cells 132 [.yld 1]),(1,JE),(2,.obj (.deferred (some []))),(3,.cells 33 (cE a2)),(4,.cells 25 [dI a3]),(5,.cells 127 (cE a4)),(6,.cells 3 [dI (J9 (a5+1))]),(7,.cells 33 (cE a6)),(8,J6),(9,.cells 137 [.fn 91 [(0,0),(8,0),(9,0)]]),(10,.cells 33 (cE a0))],[],12,50,[]⟩) (fun (v8:Bool)=>(GE v8 a0 a1 rc a2 a3 a4 a6 a5)=some r) ?_ ?_
 refine Qb h0 (fun w1_ h1 h0=>?_)
 refine Q0<|rR J J J (Q2 Yb J)<|rR J J J (Q6 QU J J J)<|rR J J J (Q7 J J J)<|rM J J J ?_
 refine QG (d:=20) (c:=(decide (0≤a0.kind))) J (fun c9=>?_) (fun c9=>?_)
 replace h1:=Qk c9 h1
 refine rR J J J (Q2 Yb J)<|rR J J J (Q6 QU J J J)<|rR J J J (Q7 J J J)<|rR J J J (Qg J J)<|Q3 ?_
 have e:=sI h1;subst e
 exact Qd (decide (a0.kind < 13)) (sL (Nat.le_trans hv0 (lb J)) J J J J J) h0
 replace h1:=Ql c9 h1
 refine Q8 J J<|Q8 J J<|Q8 J J<|rR J J J (Qc J J)<|Q3 ?_
 have e:=sI h1;subst e
 exact Qd false (sL (Nat.le_trans hv0 (lb J)) J J J J J) h0
 intro v8 h0
 unfold GE at h0
 refine Q4 ?_
 refine QS (fun (v10:Int)=>⟨[(1,.v (.one (dI a1))),(4,.v (.one (.ptr 9 0))),(5,.v (.one (.ptr 10 0))),(8,.v (.one (dI v10)))],[(0,.cells 132 [.yld 1]),(1,JE),(2,.obj (.deferred (some []))),(3,.cells 33 (cE a2)),(4,.cells 25 [dI a3]),(5,.cells 127 (cE a4)),(6,.cells 3 [dI (J9 (a5+1))]),(7,.cells 33 (cE a6)),(8,J6),(9,.cells 137 [.fn 91 [(0,0),(8,0),(9,0)]]),(10,.cells 33 (cE a0))],[],12,50,[]⟩) (fun (v10:Int)=>(Option.bind (Qp (Kg a0 v10 a1 rc a2 a3 a4 a6) QF (0,(J9 (a5+1)))) (Sum.elim (fun (o11:Int)=>some (.inr (true,o11))) (fun o=>some o)))=some r) ?_ ?_
 refine Qb h0 (fun w1_ h1 h0=>?_)
 refine Qh (b:=v8) J (fun c11=>?_) (fun c11=>?_)
 replace h1:=Qk c11 h1
 refine Q0<|rR J J J (Q2 Yb J)<|rR J J J (Q6 QU J J J) ?_
 refine Yo h1 (fun g12 h1=>?_)
 refine rR J J J (RO.indexA arr_135 J J g12)<|rR J J J (Q2 fo_134_4 J) ?_
 refine Qb h1 (fun x13 hx13 h1=>?_)
 refine rR J J J (RO.loadCol (m:=a0.kind) (sz:=5) (f:=4) (col:=([(-1),(-1),(-1),(-1),(-1),1,1,1,(-1),(-1),(-1),2,(-1)]:List Int)) QU J J J hx13)<|rA J J J<|Q3 ?_
 have e:=sI h1;subst e
 exact Qd x13 (sL (Nat.le_trans hv0 (lb J)) J J J J J) h0
 replace h1:=Ql c11 h1
 refine Qm ?_
 have e:=sI h1;subst e
 exact Qd (-1) (sL (Nat.le_trans hv0 (lb J)) J J J J J) h0
 intro v10 h0
 refine Q4<|Q5<|Q5<|Q0<|rR J J J (Q2 JR J)<|rR J J J (Q6 JO J J J)<|rR J J J (QA (α:=Tm) Jl J (.d _))<|rM J J J<|Q3<|Q4<|Qf ?_
 refine QY 0 (fun (o14:Int)=>⟨[],[(0,.cells 132 [.yld 1]),(1,JE),(2,.obj (.deferred (some []))),(3,.cells 33 (cE a2)),(4,.cells 25 [dI a3]),(5,.cells 127 (cE a4)),(6,.cells 3 [dI o14]),(7,.cells 33 (cE a6)),(8,J6),(9,.cells 137 [.fn 91 [(0,0),(8,0),(9,0)]]),(10,.cells 33 (cE a0))],[],12,50,[]⟩) (fun (o14:Int)=>(some (.inr (true,o14)))=some r) ?_ ?_
 refine Qb h0 (fun o15 hl1 h0=>?_)
 refine QX (Kg a0 v10 a1 rc a2 a3 a4 a6) (fun s1=>⟨[(1,.v (.one (dI a1))),(4,.v (.one (.ptr 9 0))),(8,.v (.one (dI v10))),(31,.v (.one (dS a0.kids))),(32,.v (.one (dI (a0.kids.length:Int)))),(33,.v (.one (dI s1.1)))],[(0,.cells 132 [.yld 1]),(1,JE),(2,.obj (.deferred (some []))),(3,.cells 33 (cE a2)),(4,.cells 25 [dI a3]),(5,.cells 127 (cE a4)),(6,.cells 3 [dI s1.2]),(7,.cells 33 (cE a6)),(8,J6),(9,.cells 137 [.fn 91 [(0,0),(8,0),(9,0)]]),(10,.cells 33 (cE a0))],[],12,50,[]⟩) (0,(J9 (a5+1))) o15 (sL (Nat.le_trans hv0 (lb J)) J J J J J) hl1 (fun s1 n1 oo1 h1 ho1=>?_)
 unfold Kg at h1
 refine Q5<|Q0<|rR J J J (Q7 J J J)<|Q3<|Q4<|Q5 ?_
 refine Qh (b:=(decide (s1.1 < (a0.kids.length:Int)))) J (fun c16=>?_) (fun c16=>?_)
 replace h1:=Qk c16 h1
 refine Qm<|Q4<|Q5<|Qf<|Q5<|Q0<|rM J J J ?_
 refine Qb h1 (fun x17 hx17 h1=>?_)
 refine rR J J J (Qy (α:=Tm) Jl J (.d _) J hx17)<|rR J J J (Qv (x17:Tm) QV J)<|Q9 J J (lb J) (Qj K4 J)<|rA J J J<|Qx J J (Qz (x17:Tm) QV J J J J J)<|Q3<|Q4<|Q5<|Q0<|rM J J J<|rA J J J<|Q3<|Q4<|Q5 ?_
 refine Q5<|Q0<|rM J J J<|rM J J J<|rR J J J (Q7 J J J)<|Q3<|Q4 ?_
 refine QS (fun (v18:Int)=>⟨[(1,.v (.one (dI a1))),(4,.v (.one (.ptr 9 0))),(8,.v (.one (dI v10))),(10,.v (.one (.ptr 12 0))),(11,.v (.one (dI v18))),(31,.v (.one (dS a0.kids))),(32,.v (.one (dI (a0.kids.length:Int)))),(33,.v (.one (dI s1.1)))],m91f3_h7 a2 a3 a4 s1 a6 a0 x17,[],13,50,[]⟩) (fun (v18:Int)=>(m91f3_k0 rc x17 v18 a2 a3 a4 s1 a6)=some oo1) ?_ ?_
 refine Qb h1 (fun w2_ h2 h1=>?_)
 refine Qh (b:=(s1.1==v10)) J (fun c19=>?_) (fun c19=>?_)
 replace h2:=Qk c19 h2
 refine Q0<|rM J J J<|rR J J J (Q7 J J J)<|rA J J J<|Q3 ?_
 have e:=sI h2;subst e
 exact Qd (J9 (a1+1)) (sL (Nat.le_trans hv0 (lb J)) J J J J J) h1
 replace h2:=Ql c19 h2
 refine Qm ?_
 have e:=sI h2;subst e
 exact Qd a1 (sL (Nat.le_trans hv0 (lb J)) J J J J J) h1
 intro v18 h1
 unfold m91f3_k0 at h1
 refine Q4<|Q5<|Q0<|rR J J J (Q6 Ui J J J)<|rR J J J (QN (x17:Tm) QV J J)<|rM J J J ?_
 refine Qb h1 (fun x20 hx20 h1=>?_)
 refine JY id hx20 h1 (fun x21 hx21 h1=>?_) (fun x22 hx22 h1=>?_)
 refine Q9 J J (lb J) (Jj (hp1':=[(0,.cells 132 [.yld 1]),(1,.loop .done (some .ret) [(5,.v (.one (.ptr 3 0))),(10,.v (.one (.ptr 4 0))),(11,.v (.one (.ptr 5 0))),(12,.v (.one (.ptr 6 0))),(26,.v (.one (.fn 89 [(7,0)])))] 45 #[27,28] ZK Z8 2),(2,.obj (.deferred (some []))),(3,.cells 33 (cE a2)),(4,.cells 25 [dI x21.1]),(5,.cells 127 (cE a4)),(6,.cells 3 [dI x21.2]),(7,.cells 33 (cE a6)),(8,.cells 135 [dB true,dB false,dI 0,dI 0,dI (-1),dB false,dB false,dI 0,dI 0,dI (-1),dB false,dB false,dI 1,dI 0,dI (-1),dB false,dB true,dI (-1),dI 0,dI (-1),dB false,dB false,dI 0,dI 2,dI (-1),dB false,dB false,dI 0,dI 2,dI 1,dB false,dB false,dI 0,dI 2,dI 1,dB false,dB false,dI 0,dI 2,dI 1,dB false,dB false,dI 0,dI 3,dI (-1),dB false,dB false,dI 0,dI 1,dI (-1),dB false,dB false,dI 0,dI 1,dI (-1),dB false,dB false,dI 0,dI 3,dI 2,dB true,dB false,dI 0,dI 0,dI (-1)]),(9,.cells 137 [.fn 91 [(0,0),(8,0),(9,0)]])]) (tk1':=[]) (hpF:=[(10,.cells 33 (cE a0)),(12,.cells 33 (cE x17))]) (tkF:=[]) (res2:=QK [.one (dB false)]) (nx2:=15) [0,1,2,3,4,5,6,7,8,9] J J (CallE.m (H x17 v18 a2 a3 a4 s1.2 a6 (.inl x21) hx21)) J J (qB J J (qB J J (qB J J (qB J J (qB J J (qB J J (qB J J (qB J J (qB J J (qB J J qZ)))))))))) J J (gR J (gR J (gR J (gR J (gR J (gR J (gR J (gR J (gR J (gR J gZ)))))))))) jZ (hA J) kZ J J J J J (bA J) J J J J)<|rR J J J (Ji J)<|Q3<|Q4 ?_
 refine Qh J (fun _=>?_) (fun h=>nomatch h)
 refine Q5<|Q0<|rA J J J<|Q3<|Q4<|QD ?_
 have e:=sI h1;subst e
 have e_:_=_:=ho1
 subst e_
 try dsimp only [Sum.elim_inl,Sum.elim_inr] at h0
 have e:=sI h0;subst e
 exact hQ0 _ _ DV J (show StLe _ _ ⟨[(7,.v (.one (dB false)))],m91f3_h9 a2 x21 a4 a6,[],12,50,[]⟩ from (sL (Nat.le_trans hv0 (lb J)) J J J J J))
 refine Q9 J J (lb J) (Jj (hp1':=[(0,.cells 132 [.yld 1]),(1,.loop .ready none [(5,.v (.one (.ptr 3 0))),(10,.v (.one (.ptr 4 0))),(11,.v (.one (.ptr 5 0))),(12,.v (.one (.ptr 6 0))),(26,.v (.one (.fn 89 [(7,0)])))] 45 #[27,28] ZK Z8 2),(2,.obj (.deferred (some []))),(3,.cells 33 (cE a2)),(4,.cells 25 [dI a3]),(5,.cells 127 (cE a4)),(6,.cells 3 [dI x22.2]),(7,.cells 33 (cE a6)),(8,.cells 135 [dB true,dB false,dI 0,dI 0,dI (-1),dB false,dB false,dI 0,dI 0,dI (-1),dB false,dB false,dI 1,dI 0,dI (-1),dB false,dB true,dI (-1),dI 0,dI (-1),dB false,dB false,dI 0,dI 2,dI (-1),dB false,dB false,dI 0,dI 2,dI 1,dB false,dB false,dI 0,dI 2,dI 1,dB false,dB false,dI 0,dI 2,dI 1,dB false,dB false,dI 0,dI 3,dI (-1),dB false,dB false,dI 0,dI 1,dI (-1),dB false,dB false,dI 0,dI 1,dI (-1),dB false,dB false,dI 0,dI 3,dI 2,dB true,dB false,dI 0,dI 0,dI (-1)]),(9,.cells 137 [.fn 91 [(0,0),(8,0),(9,0)]])]) (tk1':=[]) (hpF:=[(10,.cells 33 (cE a0)),(12,.cells 33 (cE x17))]) (tkF:=[]) (res2:=QK [.one (dB x22.1)]) (nx2:=15) [0,1,2,3,4,5,6,7,8,9] J J (CallE.m (H x17 v18 a2 a3 a4 s1.2 a6 (.inr x22) hx22)) J J (qB J J (qB J J (qB J J (qB J J (qB J J (qB J J (qB J J (qB J J (qB J J (qB J J qZ)))))))))) J J (gR J (gR J (gR J (gR J (gR J (gR J (gR J (gR J (gR J (gR J gZ)))))))))) jZ (hA J) kZ J J J J J (bA J) J J J J)<|rR J J J (Ji J)<|Q3<|Q4 ?_
 refine Qh (b:=(!x22.1)) J (fun c23=>?_) (fun c23=>?_)
 replace h1:=Qk c23 h1
 refine Q5<|Q0<|rA J J J<|Q3<|Q4<|QD ?_
 have e:=sI h1;subst e
 have e_:_=_:=ho1
 subst e_
 try dsimp only [Sum.elim_inl,Sum.elim_inr] at h0
 have e:=sI h0;subst e
 exact hQ0 _ _ DV J (show StLe _ _ ⟨[(7,.v (.one (dB false)))],m91f3_h10 a2 a3 a4 x22 a6,[],12,50,[]⟩ from (sL (Nat.le_trans hv0 (lb J)) J J J J J))
 replace h1:=Ql c23 h1
 refine Qm<|Qe<|Q4<|Q0<|rR J J J (Q7 J J J)<|rM J J J<|Q3 ?_
 have e:=sI h1;subst e
 refine QR ((J9 (s1.1+1)),x22.2) (sL (Nat.le_trans hv0 (lb J)) J J J J J) ho1
 replace h1:=Ql c16 h1
 refine J5<|Qo<|Qo ?_
 have e:=sI h1;subst e
 have e_:_=_:=ho1
 subst e_
 exact QW s1.2 (sL (Nat.le_trans hv0 (lb J)) J J J J J) h0
 intro o14 h0
 refine QM<|Q4<|Q5<|Q0<|rA J J J<|Q3<|Q4<|QD ?_
 have e:=sI h0;subst e
 exact hQ0 _ _ DV J (show StLe _ _ ⟨[(7,.v (.one (dB true)))],KK a2 a3 a4 o14 a6,[],12,50,[]⟩ from (sL (Nat.le_trans hv0 (lb J)) J J J J J))
 replace hb5:ExecOK Try.prog (some 1) Z8 ⟨[(10,.v (.one (.ptr 4 0))),(11,.v (.one (.ptr 5 0))),(12,.v (.one (.ptr 6 0))),(13,.v (.one (dI a1))),(14,.v (.one (.ptr 11 0)))],m91f3_h4 a2 a3 a4 a5 a6 a0,[],12,45,[]⟩ .ret ⟨[],m91f3_h6 a2 y2 a4 a5 a6 a0,[],12,45,[]⟩:=hb5
 refine Q9 J J (lb J) (Je (jump:=(some .ret)) J J J J J (Qw ha4 (fun E hv=>(sL (Nat.le_trans hv (lb J)) J J J J J))) J (Qw hb5 (fun E hv=>(sL (Nat.le_trans hv (lb J)) J J J J J))) J J) ?_
 refine rR J J J (Ji J)<|Q3<|Q4 ?_
 refine Qh J (fun _=>?_) (fun h=>nomatch h)
 refine Q5<|Q0<|rA J J J<|Q3<|Q4<|QD ?_
 have e:=sI h0;subst e
 exact hQ0 _ _ DV J (show StLe _ _ ⟨[(7,.v (.one (dB false)))],m91f3_h12 a2 y2 a4 a5 a6,[],12,50,[]⟩ from (sL (Nat.le_trans hv0 (lb J)) J J J J J))
theorem m91f3_all (n:Nat) (u:Tm×Int×Tm×Int×Scp×Int×Tm) (r:(Int×Int)⊕(Bool×Int)) (h0:Jr G0 n u=some r):CallE Try.prog 91 [.agg (cE u.1),.one (dI u.2.1),.one (.ptr 0 0),.one (.ptr 8 0),.one (.ptr 9 0)] ⟨KK u.2.2.1 u.2.2.2.1 u.2.2.2.2.1 u.2.2.2.2.2.1 u.2.2.2.2.2.2,[],10⟩ ((Sum.elim (fun (r0:Int×Int)=>((.ret [.one (dB false)]):EK)) (fun (r1:Bool×Int)=>((.ret [.one (dB r1.1)]):EK))) r) ⟨((Sum.elim (fun (r0:Int×Int)=>(⟨[(7,.v (.one (dB false)))],[(0,.cells 132 [.yld 1]),(1,Yd),(2,.obj (.deferred (some []))),(3,.cells 33 (cE u.2.2.1)),(4,.cells 25 [dI r0.1]),(5,.cells 127 (cE u.2.2.2.2.1)),(6,.cells 3 [dI r0.2]),(7,.cells 33 (cE u.2.2.2.2.2.2)),(8,J6),(9,.cells 137 [.fn 91 [(0,0),(8,0),(9,0)]])],[],12,50,[]⟩:St)) (fun (r1:Bool×Int)=>(⟨[(7,.v (.one (dB r1.1)))],[(0,.cells 132 [.yld 1]),(1,JE),(2,.obj (.deferred (some []))),(3,.cells 33 (cE u.2.2.1)),(4,.cells 25 [dI u.2.2.2.1]),(5,.cells 127 (cE u.2.2.2.2.1)),(6,.cells 3 [dI r1.2]),(7,.cells 33 (cE u.2.2.2.2.2.2)),(8,J6),(9,.cells 137 [.fn 91 [(0,0),(8,0),(9,0)]])],[],12,50,[]⟩:St))) r).hp,((Sum.elim (fun (r0:Int×Int)=>(⟨[(7,.v (.one (dB false)))],[(0,.cells 132 [.yld 1]),(1,Yd),(2,.obj (.deferred (some []))),(3,.cells 33 (cE u.2.2.1)),(4,.cells 25 [dI r0.1]),(5,.cells 127 (cE u.2.2.2.2.1)),(6,.cells 3 [dI r0.2]),(7,.cells 33 (cE u.2.2.2.2.2.2)),(8,J6),(9,.cells 137 [.fn 91 [(0,0),(8,0),(9,0)]])],[],12,50,[]⟩:St)) (fun (r1:Bool×Int)=>(⟨[(7,.v (.one (dB r1.1)))],[(0,.cells 132 [.yld 1]),(1,JE),(2,.obj (.deferred (some []))),(3,.cells 33 (cE u.2.2.1)),(4,.cells 25 [dI u.2.2.2.1]),(5,.cells 127 (cE u.2.2.2.2.1)),(6,.cells 3 [dI r1.2]),(7,.cells 33 (cE u.2.2.2.2.2.2)),(8,J6),(9,.cells 137 [.fn 91 [(0,0),(8,0),(9,0)]])],[],12,50,[]⟩:St))) r).tk,((Sum.elim (fun (r0:Int×Int)=>(⟨[(7,.v (.one (dB false)))],[(0,.cells 132 [.yld 1]),(1,Yd),(2,.obj (.deferred (some []))),(3,.cells 33 (cE u.2.2.1)),(4,.cells 25 [dI r0.1]),(5,.cells 127 (cE u.2.2.2.2.1)),(6,.cells 3 [dI r0.2]),(7,.cells 33 (cE u.2.2.2.2.2.2)),(8,J6),(9,.cells 137 [.fn 91 [(0,0),(8,0),(9,0)]])],[],12,50,[]⟩:St)) (fun (r1:Bool×Int)=>(⟨[(7,.v (.one (dB r1.1)))],[(0,.cells 132 [.yld 1]),(1,JE),(2,.obj (.deferred (some []))),(3,.cells 33 (cE u.2.2.1)),(4,.cells 25 [dI u.2.2.2.1]),(5,.cells 127 (cE u.2.2.2.2.1)),(6,.cells 3 [dI r1.2]),(7,.cells 33 (cE u.2.2.2.2.2.2)),(8,J6),(9,.cells 137 [.fn 91 [(0,0),(8,0),(9,0)]])],[],12,50,[]⟩:St))) r).nx⟩ :=
 YV (C:=fun u r=>CallE Try.prog 91 [.agg (cE u.1),.one (dI u.2.1),.one (.ptr 0 0),.one (.ptr 8 0),.one (.ptr 9 0)] ⟨KK u.2.2.1 u.2.2.2.1 u.2.2.2.2.1 u.2.2.2.2.2.1 u.2.2.2.2.2.2,[],10⟩ ((Sum.elim (fun (r0:Int×Int)=>((.ret [.one (dB false)]):EK)) (fun (r1:Bool×Int)=>((.ret [.one (dB r1.1)]):EK))) r) ⟨((Sum.elim (fun (r0:Int×Int)=>(⟨[(7,.v (.one (dB false)))],[(0,.cells 132 [.yld 1]),(1,Yd),(2,.obj (.deferred (some []))),(3,.cells 33 (cE u.2.2.1)),(4,.cells 25 [dI r0.1]),(5,.cells 127 (cE u.2.2.2.2.1)),(6,.cells 3 [dI r0.2]),(7,.cells 33 (cE u.2.2.2.2.2.2)),(8,J6),(9,.cells 137 [.fn 91 [(0,0),(8,0),(9,0)]])],[],12,50,[]⟩:St)) (fun (r1:Bool×Int)=>(⟨[(7,.v (.one (dB r1.1)))],[(0,.cells 132 [.yld 1]),(1,JE),(2,.obj (.deferred (some []))),(3,.cells 33 (cE u.2.2.1)),(4,.cells 25 [dI u.2.2.2.1]),(5,.cells 127 (cE u.2.2.2.2.1)),(6,.cells 3 [dI r1.2]),(7,.cells 33 (cE u.2.2.2.2.2.2)),(8,J6),(9,.cells 137 [.fn 91 [(0,0),(8,0),(9,0)]])],[],12,50,[]⟩:St))) r).hp,((Sum.elim (fun (r0:Int×Int)=>(⟨[(7,.v (.one (dB false)))],[(0,.cells 132 [.yld 1]),(1,Yd),(2,.obj (.deferred (some []))),(3,.cells 33 (cE u.2.2.1)),(4,.cells 25 [dI r0.1]),(5,.cells 127 (cE u.2.2.2.2.1)),(6,.cells 3 [dI r0.2]),(7,.cells 33 (cE u.2.2.2.2.2.2)),(8,J6),(9,.cells 137 [.fn 91 [(0,0),(8,0),(9,0)]])],[],12,50,[]⟩:St)) (fun (r1:Bool×Int)=>(⟨[(7,.v (.one (dB r1.1)))],[(0,.cells 132 [.yld 1]),(1,JE),(2,.obj (.deferred (some []))),(3,.cells 33 (cE u.2.2.1)),(4,.cells 25 [dI u.2.2.2.1]),(5,.cells 127 (cE u.2.2.2.2.1)),(6,.cells 3 [dI r1.2]),(7,.cells 33 (cE u.2.2.2.2.2.2)),(8,J6),(9,.cells 137 [.fn 91 [(0,0),(8,0),(9,0)]])],[],12,50,[]⟩:St))) r).tk,((Sum.elim (fun (r0:Int×Int)=>(⟨[(7,.v (.one (dB false)))],[(0,.cells 132 [.yld 1]),(1,Yd),(2,.obj (.deferred (some []))),(3,.cells 33 (cE u.2.2.1)),(4,.cells 25 [dI r0.1]),(5,.cells 127 (cE u.2.2.2.2.1)),(6,.cells 3 [dI r0.2]),(7,.cells 33 (cE u.2.2.2.2.2.2)),(8,J6),(9,.cells 137 [.fn 91 [(0,0),(8,0),(9,0)]])],[],12,50,[]⟩:St)) (fun (r1:Bool×Int)=>(⟨[(7,.v (.one (dB r1.1)))],[(0,.cells 132 [.yld 1]),(1,JE),(2,.obj (.deferred (some []))),(3,.cells 33 (cE u.2.2.1)),(4,.cells 25 [dI u.2.2.2.1]),(5,.cells 127 (cE u.2.2.2.2.1)),(6,.cells 3 [dI r1.2]),(7,.cells 33 (cE u.2.2.2.2.2.2)),(8,J6),(9,.cells 137 [.fn 91 [(0,0),(8,0),(9,0)]])],[],12,50,[]⟩:St))) r).nx⟩) (fun rc H u r h=>m91f3s_ok rc (fun a0 a1 a2 a3 a4 a5 a6 r h=>H (a0,a1,a2,a3,a4,a5,a6) r h) u.1 u.2.1 u.2.2.1 u.2.2.2.1 u.2.2.2.2.1 u.2.2.2.2.2.1 u.2.2.2.2.2.2 r h) n u r h0
theorem m91f3_ok (a0:Tm) (a1:Int) (a2:Tm) (a3:Int) (a4:Scp) (a5:Int) (a6:Tm) (r:(Int×Int)⊕(Bool×Int)) (h0:m91f3 a0 a1 a2 a3 a4 a5 a6=some r):CallE Try.prog 91 [.agg (cE a0),.one (dI a1),.one (.ptr 0 0),.one (.ptr 8 0),.one (.ptr 9 0)] ⟨KK a2 a3 a4 a5 a6,[],10⟩ ((Sum.elim (fun (r0:Int×Int)=>((.ret [.one (dB false)]):EK)) (fun (r1:Bool×Int)=>((.ret [.one (dB r1.1)]):EK))) r) ⟨((Sum.elim (fun (r0:Int×Int)=>(⟨[(7,.v (.one (dB false)))],[(0,.cells 132 [.yld 1]),(1,Yd),(2,.obj (.deferred (some []))),(3,.cells 33 (cE a2)),(4,.cells 25 [dI r0.1]),(5,.cells 127 (cE a4)),(6,.cells 3 [dI r0.2]),(7,.cells 33 (cE a6)),(8,J6),(9,.cells 137 [.fn 91 [(0,0),(8,0),(9,0)]])],[],12,50,[]⟩:St)) (fun (r1:Bool×Int)=>(⟨[(7,.v (.one (dB r1.1)))],[(0,.cells 132 [.yld 1]),(1,JE),(2,.obj (.deferred (some []))),(3,.cells 33 (cE a2)),(4,.cells 25 [dI a3]),(5,.cells 127 (cE a4)),(6,.cells 3 [dI r1.2]),(7,.cells 33 (cE a6)),(8,J6),(9,.cells 137 [.fn 91 [(0,0),(8,0),(9,0)]])],[],12,50,[]⟩:St))) r).hp,((Sum.elim (fun (r0:Int×Int)=>(⟨[(7,.v (.one (dB false)))],[(0,.cells 132 [.yld 1]),(1,Yd),(2,.obj (.deferred (some []))),(3,.cells 33 (cE a2)),(4,.cells 25 [dI r0.1]),(5,.cells 127 (cE a4)),(6,.cells 3 [dI r0.2]),(7,.cells 33 (cE a6)),(8,J6),(9,.cells 137 [.fn 91 [(0,0),(8,0),(9,0)]])],[],12,50,[]⟩:St)) (fun (r1:Bool×Int)=>(⟨[(7,.v (.one (dB r1.1)))],[(0,.cells 132 [.yld 1]),(1,JE),(2,.obj (.deferred (some []))),(3,.cells 33 (cE a2)),(4,.cells 25 [dI a3]),(5,.cells 127 (cE a4)),(6,.cells 3 [dI r1.2]),(7,.cells 33 (cE a6)),(8,J6),(9,.cells 137 [.fn 91 [(0,0),(8,0),(9,0)]])],[],12,50,[]⟩:St))) r).tk,((Sum.elim (fun (r0:Int×Int)=>(⟨[(7,.v (.one (dB false)))],[(0,.cells 132 [.yld 1]),(1,Yd),(2,.obj (.deferred (some []))),(3,.cells 33 (cE a2)),(4,.cells 25 [dI r0.1]),(5,.cells 127 (cE a4)),(6,.cells 3 [dI r0.2]),(7,.cells 33 (cE a6)),(8,J6),(9,.cells 137 [.fn 91 [(0,0),(8,0),(9,0)]])],[],12,50,[]⟩:St)) (fun (r1:Bool×Int)=>(⟨[(7,.v (.one (dB r1.1)))],[(0,.cells 132 [.yld 1]),(1,JE),(2,.obj (.deferred (some []))),(3,.cells 33 (cE a2)),(4,.cells 25 [dI a3]),(5,.cells 127 (cE a4)),(6,.cells 3 [dI r1.2]),(7,.cells 33 (cE a6)),(8,J6),(9,.cells 137 [.fn 91 [(0,0),(8,0),(9,0)]])],[],12,50,[]⟩:St))) r).nx⟩:=m91f3_all QF (a0,a1,a2,a3,a4,a5,a6) r h0
noncomputable abbrev m66_h0 (p0_:Int) (p1_:Int) (p2_:Int) (p3_:Int):HB :=
 .cells 127 [dI (max p0_ 0),dI (max p1_ 0),dI (max p2_ 0),dI (max p3_ 0)]
noncomputable abbrev m66_h1 (p0_:Tm) (p1_:Int) (p2_:Int) (p3_:Int) (p4_:Int):List (Nat×HB) :=
 [(0,.cells 33 (cE p0_)),(1,.cells 25 [dI 0]),(2,m66_h0 p1_ p2_ p3_ p4_),(3,.cells 3 [dI 0])]
noncomputable abbrev m66_h2 (p0_:Tm) (p1_:Int) (p2_:Int) (p3_:Int) (p4_:Int):List (Nat×HB) :=
 [(0,.cells 33 (cE p0_)),(1,.cells 25 [dI 0]),(2,m66_h0 p1_ p2_ p3_ p4_),(3,.cells 3 [dI 0]),(4,.cells 33 (cE p0_))]
noncomputable abbrev m66_h3 (p0_:Int) (p1_:Int) (p2_:Int) (p3_:Int):HB :=
 .cells 127 [dI ((⟨(max p0_ 0),(max p1_ 0),(max p2_ 0),(max p3_ 0)⟩:Scp).vars),dI ((⟨(max p0_ 0),(max p1_ 0),(max p2_ 0),(max p3_ 0)⟩:Scp).params),dI ((⟨(max p0_ 0),(max p1_ 0),(max p2_ 0),(max p3_ 0)⟩:Scp).metas),dI ((⟨(max p0_ 0),(max p1_ 0),(max p2_ 0),(max p3_ 0)⟩:Scp).levels)]
noncomputable abbrev m66_h4 :HB :=
 .loop .ready none [(5,.v (.one (.ptr 0 0))),(10,.v (.one (.ptr 1 0))),(11,.v (.one (.ptr 2 0))),(12,.v (.one (.ptr 3 0))),(26,.v (.one (.fn 89 [(4,0)])))] 45 #[27,28] ZK Z8 5
noncomputable abbrev Xu (p0_:Tm) (p1_:Int) (p2_:Int) (p3_:Int) (p4_:Int) (p5_:Int):List (Nat×HB) :=
 [(0,.cells 33 (cE p0_)),(1,.cells 25 [dI 0]),(2,m66_h3 p1_ p2_ p3_ p4_),(3,.cells 3 [dI p5_]),(4,.cells 33 (cE p0_)),(5,.obj (.deferred (some []))),(6,m66_h4)]
noncomputable abbrev m66_h6 :HB :=
 .loop .done (some .ret) [(5,.v (.one (.ptr 0 0))),(10,.v (.one (.ptr 1 0))),(11,.v (.one (.ptr 2 0))),(12,.v (.one (.ptr 3 0))),(26,.v (.one (.fn 89 [(4,0)])))] 45 #[27,28] ZK Z8 5
noncomputable abbrev X4 (p0_:Tm) (p1_:Int×Int) (p2_:Int) (p3_:Int) (p4_:Int) (p5_:Int):List (Nat×HB) :=
 [(0,.cells 33 (cE p0_)),(1,.cells 25 [dI p1_.1]),(2,m66_h3 p2_ p3_ p4_ p5_),(3,.cells 3 [dI p1_.2]),(4,.cells 33 (cE p0_)),(5,.obj (.deferred (some []))),(6,m66_h6)]
noncomputable abbrev m66_h8 (p0_:Tm) (p1_:Int) (p2_:Int) (p3_:Int) (p4_:Int):List (Nat×HB) :=
 [(0,.cells 33 (cE p0_)),(1,.cells 25 [dI 0]),(2,m66_h0 p1_ p2_ p3_ p4_),(3,.cells 3 [dI 0]),(4,.cells 33 (cE p0_)),(5,.obj (.deferred (some []))),(6,m66_h4),(7,.cells 132 [.yld 6])]
noncomputable abbrev m66_h9 :HB :=
 .cells 135 [dB true,dB false,dI 0,dI 0,dI (-1),dB false,dB false,dI 0,dI 0,dI (-1),dB false,dB false,dI 1,dI 0,dI (-1),dB false,dB true,dI (-1),dI 0,dI (-1),dB false,dB false,dI 0,dI 2,dI (-1),dB false,dB false,dI 0,dI 2,dI 1,dB false,dB false,dI 0,dI 2,dI 1,dB false,dB false,dI 0,dI 2,dI 1,dB false,dB false,dI 0,dI 3,dI (-1),dB false,dB false,dI 0,dI 1,dI (-1),dB false,dB false,dI 0,dI 1,dI (-1),dB false,dB false,dI 0,dI 3,dI 2,dB true,dB false,dI 0,dI 0,dI (-1)]
noncomputable abbrev m66_h10 (p0_:Tm) (p1_:Int) (p2_:Int) (p3_:Int) (p4_:Int):List (Nat×HB) :=
 [(0,.cells 33 (cE p0_)),(1,.cells 25 [dI 0]),(2,m66_h0 p1_ p2_ p3_ p4_),(3,.cells 3 [dI 0]),(4,.cells 33 (cE p0_)),(5,.obj (.deferred (some []))),(6,m66_h4),(7,.cells 132 [.yld 6]),(8,m66_h9)]
noncomputable abbrev m66_h11 (p0_:Tm) (p1_:Int) (p2_:Int) (p3_:Int) (p4_:Int) (p5_:Bool×Int):List (Nat×HB) :=
 [(0,.cells 33 (cE p0_)),(1,.cells 25 [dI 0]),(2,m66_h3 p1_ p2_ p3_ p4_),(3,.cells 3 [dI p5_.2]),(4,.cells 33 (cE p0_)),(5,.obj (.deferred (some []))),(6,m66_h4)]
def m66 (a0:Tm) (a1:Int) (a2:Int) (a3:Int) (a4:Int):Option Int :=
 Option.bind (some ()) (fun (y1:Unit)=>Option.bind (Option.bind (some ()) (fun (y7:Unit)=>Option.bind (m91f3 a0 0 a0 0 (⟨(max a1 0),(max a2 0),(max a3 0),(max a4 0)⟩:Scp) 0 a0) (Sum.elim (fun (x10:Int×Int)=>some (.inr (x10.1,x10.2))) (fun (x11:Bool×Int)=>some (.inl x11.2))))) (Sum.elim (fun (y3:Int)=>cond (decide (4096 < y3))
   (some 5)
   (Option.bind (m81 a0) fun (x13:Int) =>
 cond (decide (200 < x13))
   (some 7)
   (some 0))) (fun (y4:Int×Int)=>some y4.1)))
theorem m66_ok (a0:Tm) (a1:Int) (a2:Int) (a3:Int) (a4:Int) (r:Int) (h0:m66 a0 a1 a2 a3 a4=some r):Fun Try.prog 66 [.agg (cE a0),.one (dI a1),.one (dI a2),.one (dI a3),.one (dI a4)] (QK [.one (dI r)]):=by
 unfold m66 at h0
 refine QZ 9 45 Try.func66 J en_66 J (lb J) (fun S w=>?_)
 simp only [Ja]
 refine Q5<|Q0<|Q9 J J (lb J) (QT J)<|Q9 J J (lb J) (Qj z_25 J)<|Q3<|Q4<|Q5<|Q0<|rM J J J<|rR J J J (Xe J J)<|rM J J J<|rR J J J (Xe J J)<|rM J J J<|rR J J J (Xe J J) ?_
 refine rM J J J<|rR J J J (Xe J J)<|rR J J J (Y0 bd_127 J (.cons J (.cons J (.cons J (.cons J .nil)))) J)<|Q9 J J (lb J) (Qj z_127 J)<|Qx J J (Qt ag_127 J J J J (lb J) J)<|Q3<|Q4<|Q5<|Q0<|Q9 J J (lb J) (Qj z_3 J)<|Qx J J (Qt QU J J J J (lb J) J)<|Q3<|Q4<|Q5 ?_
 refine Q5<|Q0<|rR J J J (QN (a0:Tm) QV J J) ?_
 refine Qb h0 (fun y1 h1 h0=>?_)
 have hc2:CallM Try.prog 74 [.agg (cE a0)] ⟨m66_h1 a0 a1 a2 a3 a4,[],4⟩ (QK [.one (.fn 89 [(4,0)])]) ⟨m66_h2 a0 a1 a2 a3 a4,[],5⟩:=by
  refine J0 ⟨[(2,.v (.one (.fn 89 [(4,0)])))],m66_h2 a0 a1 a2 a3 a4,[],5,4,[]⟩ J J en_74 (lb J) J (QC J .nil) (fun w0 M V0 Q hv1 hQ1=>?_)
  simp only [Ja]
  refine Q5<|Q0<|Q9 J J (lb J) (QT J)<|rA J J J<|Q3<|Q4<|Q5<|Q0<|rR J J J (YU J)<|rA J J J<|Q3<|Q4<|QD ?_
  have e:=sI h1;subst e
  exact hQ1 _ _ _ (.inr J) J (sL (Nat.le_trans hv1 (lb J)) J J J J J)
 refine Q9 J J (lb J) (JJ J J J hc2 J (hA J) kZ)<|Q3<|Q4<|Qf<|KH (st':=⟨[(5,.v (.one (.ptr 0 0))),(10,.v (.one (.ptr 1 0))),(11,.v (.one (.ptr 2 0))),(12,.v (.one (.ptr 3 0))),(26,.v (.one (.fn 89 [(4,0)])))],m66_h2 a0 a1 a2 a3 a4,[],5,45,[]⟩) (sL (Nat.zero_le _) J J J J J) ?_
 refine Qb h0 (fun y6 h1 h0=>?_)
 have hc5:CallM Try.prog 89 [.one (.yld 6),.one (.ptr 4 0)] ⟨[(6,.loop .ready none [(5,.v (.one (.ptr 0 0))),(10,.v (.one (.ptr 1 0))),(11,.v (.one (.ptr 2 0))),(12,.v (.one (.ptr 3 0))),(26,.v (.one (.fn 89 [(4,0)])))] 45 #[27,28] ZK Z8 5),(5,.obj (.deferred (some []))),(0,.cells 33 (cE a0)),(1,.cells 25 [dI 0]),(2,.cells 127 [dI (max a1 0),dI (max a2 0),dI (max a3 0),dI (max a4 0)]),(3,.cells 3 [dI 0]),(4,.cells 33 (cE a0))],[],7⟩ (QK []) ⟨(((Sum.elim (fun (y3:Int)=>(⟨[],Xu a0 a1 a2 a3 a4 y3,[],13,10,[]⟩:St)) (fun (y4:Int×Int)=>(⟨[],X4 a0 y4 a1 a2 a3 a4,[],13,10,[]⟩:St)))) y6).hp,(((Sum.elim (fun (y3:Int)=>(⟨[],Xu a0 a1 a2 a3 a4 y3,[],13,10,[]⟩:St)) (fun (y4:Int×Int)=>(⟨[],X4 a0 y4 a1 a2 a3 a4,[],13,10,[]⟩:St)))) y6).tk,(((Sum.elim (fun (y3:Int)=>(⟨[],Xu a0 a1 a2 a3 a4 y3,[],13,10,[]⟩:St)) (fun (y4:Int×Int)=>(⟨[],X4 a0 y4 a1 a2 a3 a4,[],13,10,[]⟩:St)))) y6).nx⟩:=by
  refine CallM.of_bodyS y6 ((Sum.elim (fun (y3:Int)=>(⟨[],Xu a0 a1 a2 a3 a4 y3,[],13,10,[]⟩:St)) (fun (y4:Int×Int)=>(⟨[],X4 a0 y4 a1 a2 a3 a4,[],13,10,[]⟩:St)))) rfl rfl en_89 (lb rfl) (fun z_=>by cases z_ <;> rfl) (fun z_=>.nil) (fun w0 M V0 Q hv1 hQ1=>?_)
  simp only [Ja]
  refine Q5<|Q0<|Q9 J J (lb J) (QT J)<|Q3<|Q4<|Q5<|Q0 ?_
  refine Qb h1 (fun y7 h2 h1=>?_)
  have hc8:CallM Try.prog 90 [] ⟨m66_h8 a0 a1 a2 a3 a4,[],8⟩ (QK [.agg [dB true,dB false,dI 0,dI 0,dI (-1),dB false,dB false,dI 0,dI 0,dI (-1),dB false,dB false,dI 1,dI 0,dI (-1),dB false,dB true,dI (-1),dI 0,dI (-1),dB false,dB false,dI 0,dI 2,dI (-1),dB false,dB false,dI 0,dI 2,dI 1,dB false,dB false,dI 0,dI 2,dI 1,dB false,dB false,dI 0,dI 2,dI 1,dB false,dB false,dI 0,dI 3,dI (-1),dB false,dB false,dI 0,dI 1,dI (-1),dB false,dB false,dI 0,dI 1,dI (-1),dB false,dB false,dI 0,dI 3,dI 2,dB true,dB false,dI 0,dI 0,dI (-1)]]) ⟨m66_h10 a0 a1 a2 a3 a4,[],9⟩:=by
   refine J0 ⟨[(0,.v (.one (.ptr 8 0)))],m66_h10 a0 a1 a2 a3 a4,[],9,15,[]⟩ J J en_90 (lb J) J (Z6 XU J J J J .nil) (fun w0 M V0 Q hv2 hQ2=>?_)
   simp only [Ja]
   refine Q5<|Q0<|Q9 J J (lb J) (Qj Dg J)<|Q3<|Q4<|Q5<|Q0<|rR J J J (Jb JB J J J J)<|rR J J J (X2 JB J J J)<|rR J J J (Jb JB J J J J)<|rR J J J (ZH JB J J J J J)<|rR J J J (Jb JB J J J J)<|rR J J J (Jb JB J J J J)<|rR J J J (Jb JB J J J J) ?_
   refine rR J J J (Jb JB J J J J)<|rR J J J (Jb JB J J J J)<|rR J J J (Jb JB J J J J)<|rR J J J (Jb JB J J J J)<|rR J J J (Jb JB J J J J)<|rR J J J (Jb JB J J J J)<|rR J J J (Y0 bd_135 J (.cons J (.cons J (.cons J (.cons J (.cons J (.cons J (.cons J (.cons J (.cons J (.cons J (.cons J (.cons J (.cons J .nil))))))))))))) J)<|Qx J J (Yw XU J J J J J J)<|Q3<|Q4<|QD ?_
   have e:=sI h2;subst e
   exact hQ2 _ _ _ (.inr J) J (sL (Nat.le_trans hv2 (lb J)) J J J J J)
  refine Q9 J J (lb J) (JJ J J J hc8 J (hA J) kZ)<|Q9 J J (lb J) (Qj Dg J)<|Qx J J (Yw XU J J J J J J)<|Q3<|Q4<|Q5<|Q0<|Q9 J J (lb J) (Qj z_137 J)<|Q3<|Q4<|Q5<|Q0<|rR J J J (RO.makeFunc3 J J J)<|Qx J J (Qt Ui J J J J (lb J) J) ?_
  refine Q3<|Q4<|Q0<|rR J J J (Q6 Ui J J J)<|rR J J J (QN (a0:Tm) QV J J) ?_
  refine Qb h1 (fun x9 hx9 h1=>?_)
  refine JY id hx9 h1 (fun x10 hx10 h1=>?_) (fun x11 hx11 h1=>?_)
  refine Q9 J J (lb J) (Jj (hp1':=[(7,.cells 132 [.yld 6]),(6,.loop .done (some .ret) [(5,.v (.one (.ptr 0 0))),(10,.v (.one (.ptr 1 0))),(11,.v (.one (.ptr 2 0))),(12,.v (.one (.ptr 3 0))),(26,.v (.one (.fn 89 [(4,0)])))] 45 #[27,28] ZK Z8 5),(5,.obj (.deferred (some []))),(0,.cells 33 (cE a0)),(1,.cells 25 [dI x10.1]),(2,.cells 127 [dI ((⟨(max a1 0),(max a2 0),(max a3 0),(max a4 0)⟩:Scp).vars),dI ((⟨(max a1 0),(max a2 0),(max a3 0),(max a4 0)⟩:Scp).params),dI ((⟨(max a1 0),(max a2 0),(max a3 0),(max a4 0)⟩:Scp).metas),dI ((⟨(max a1 0),(max a2 0),(max a3 0),(max a4 0)⟩:Scp).levels)]),(3,.cells 3 [dI x10.2]),(4,.cells 33 (cE a0)),(9,.cells 135 [dB true,dB false,dI 0,dI 0,dI (-1),dB false,dB false,dI 0,dI 0,dI (-1),dB false,dB false,dI 1,dI 0,dI (-1),dB false,dB true,dI (-1),dI 0,dI (-1),dB false,dB false,dI 0,dI 2,dI (-1),dB false,dB false,dI 0,dI 2,dI 1,dB false,dB false,dI 0,dI 2,dI 1,dB false,dB false,dI 0,dI 2,dI 1,dB false,dB false,dI 0,dI 3,dI (-1),dB false,dB false,dI 0,dI 1,dI (-1),dB false,dB false,dI 0,dI 1,dI (-1),dB false,dB false,dI 0,dI 3,dI 2,dB true,dB false,dI 0,dI 0,dI (-1)]),(10,.cells 137 [.fn 91 [(7,0),(9,0),(10,0)]])]) (tk1':=[]) (hpF:=[(8,m66_h9)]) (tkF:=[]) (res2:=QK [.one (dB false)]) (nx2:=13) [7,6,5,0,1,2,3,4,9,10] J J (CallE.m (m91f3_ok a0 0 a0 0 (⟨(max a1 0),(max a2 0),(max a3 0),(max a4 0)⟩:Scp) 0 a0 (.inl x10) hx10)) J J (qB J J (qB J J (qB J J (qB J J (qB J J (qB J J (qB J J (qB J J (qB J J (qB J J qZ)))))))))) J J (gR J (gR J (gR J (gR J (gR J (gR J (gR J (gR J (gR J (gR J gZ)))))))))) jZ (hA J) kZ J J J J J (bA J) J J J J)<|Q3 ?_
  have e:=sI h1;subst e
  exact hQ1 _ _ _ (.inl J) J (show StLe _ _ ⟨[],X4 a0 x10 a1 a2 a3 a4,[],13,10,[]⟩ from (sL (Nat.le_trans hv1 (lb J)) J J J J J))
  refine Q9 J J (lb J) (Jj (hp1':=[(7,.cells 132 [.yld 6]),(6,.loop .ready none [(5,.v (.one (.ptr 0 0))),(10,.v (.one (.ptr 1 0))),(11,.v (.one (.ptr 2 0))),(12,.v (.one (.ptr 3 0))),(26,.v (.one (.fn 89 [(4,0)])))] 45 #[27,28] ZK Z8 5),(5,.obj (.deferred (some []))),(0,.cells 33 (cE a0)),(1,.cells 25 [dI 0]),(2,.cells 127 [dI ((⟨(max a1 0),(max a2 0),(max a3 0),(max a4 0)⟩:Scp).vars),dI ((⟨(max a1 0),(max a2 0),(max a3 0),(max a4 0)⟩:Scp).params),dI ((⟨(max a1 0),(max a2 0),(max a3 0),(max a4 0)⟩:Scp).metas),dI ((⟨(max a1 0),(max a2 0),(max a3 0),(max a4 0)⟩:Scp).levels)]),(3,.cells 3 [dI x11.2]),(4,.cells 33 (cE a0)),(9,.cells 135 [dB true,dB false,dI 0,dI 0,dI (-1),dB false,dB false,dI 0,dI 0,dI (-1),dB false,dB false,dI 1,dI 0,dI (-1),dB false,dB true,dI (-1),dI 0,dI (-1),dB false,dB false,dI 0,dI 2,dI (-1),dB false,dB false,dI 0,dI 2,dI 1,dB false,dB false,dI 0,dI 2,dI 1,dB false,dB false,dI 0,dI 2,dI 1,dB false,dB false,dI 0,dI 3,dI (-1),dB false,dB false,dI 0,dI 1,dI (-1),dB false,dB false,dI 0,dI 1,dI (-1),dB false,dB false,dI 0,dI 3,dI 2,dB true,dB false,dI 0,dI 0,dI (-1)]),(10,.cells 137 [.fn 91 [(7,0),(9,0),(10,0)]])]) (tk1':=[]) (hpF:=[(8,m66_h9)]) (tkF:=[]) (res2:=QK [.one (dB x11.1)]) (nx2:=13) [7,6,5,0,1,2,3,4,9,10] J J (CallE.m (m91f3_ok a0 0 a0 0 (⟨(max a1 0),(max a2 0),(max a3 0),(max a4 0)⟩:Scp) 0 a0 (.inr x11) hx11)) J J (qB J J (qB J J (qB J J (qB J J (qB J J (qB J J (qB J J (qB J J (qB J J (qB J J qZ)))))))))) J J (gR J (gR J (gR J (gR J (gR J (gR J (gR J (gR J (gR J (gR J gZ)))))))))) jZ (hA J) kZ J J J J J (bA J) J J J J)<|Q3 ?_
  have e:=sI h1;subst e
  exact hQ1 _ _ _ (.inl J) J (show StLe _ _ ⟨[],m66_h11 a0 a1 a2 a3 a4 x11,[],13,10,[]⟩ from (sL (Nat.le_trans hv1 (lb J)) J J J J J))
 refine U2 (C:=fun q_=>CallM Try.prog 89 [.one (.yld 6),.one (.ptr 4 0)] ⟨[(6,.loop .ready none [(5,.v (.one (.ptr 0 0))),(10,.v (.one (.ptr 1 0))),(11,.v (.one (.ptr 2 0))),(12,.v (.one (.ptr 3 0))),(26,.v (.one (.fn 89 [(4,0)])))] 45 #[27,28] ZK Z8 5),(5,.obj (.deferred (some []))),(0,.cells 33 (cE a0)),(1,.cells 25 [dI 0]),(2,.cells 127 [dI (max a1 0),dI (max a2 0),dI (max a3 0),dI (max a4 0)]),(3,.cells 3 [dI 0]),(4,.cells 33 (cE a0))],[],7⟩ (QK []) ⟨(((Sum.elim (fun (y3:Int)=>(⟨[],Xu a0 a1 a2 a3 a4 y3,[],13,10,[]⟩:St)) (fun (y4:Int×Int)=>(⟨[],X4 a0 y4 a1 a2 a3 a4,[],13,10,[]⟩:St)))) q_).hp,(((Sum.elim (fun (y3:Int)=>(⟨[],Xu a0 a1 a2 a3 a4 y3,[],13,10,[]⟩:St)) (fun (y4:Int×Int)=>(⟨[],X4 a0 y4 a1 a2 a3 a4,[],13,10,[]⟩:St)))) q_).tk,(((Sum.elim (fun (y3:Int)=>(⟨[],Xu a0 a1 a2 a3 a4 y3,[],13,10,[]⟩:St)) (fun (y4:Int×Int)=>(⟨[],X4 a0 y4 a1 a2 a3 a4,[],13,10,[]⟩:St)))) q_).nx⟩) hc5 h0 (fun y3 hc5 h0=>?_) (fun y4 hc5 h0=>?_)
 replace hc5:CallM Try.prog 89 [.one (.yld 6),.one (.ptr 4 0)] ⟨[(6,.loop .ready none [(5,.v (.one (.ptr 0 0))),(10,.v (.one (.ptr 1 0))),(11,.v (.one (.ptr 2 0))),(12,.v (.one (.ptr 3 0))),(26,.v (.one (.fn 89 [(4,0)])))] 45 #[27,28] ZK Z8 5),(5,.obj (.deferred (some []))),(0,.cells 33 (cE a0)),(1,.cells 25 [dI 0]),(2,.cells 127 [dI (max a1 0),dI (max a2 0),dI (max a3 0),dI (max a4 0)]),(3,.cells 3 [dI 0]),(4,.cells 33 (cE a0))],[],7⟩ (QK []) ⟨Xu a0 a1 a2 a3 a4 y3,[],13⟩:=hc5
 refine ZU (Y1 (e:=.normal) rfl hc5 rfl rfl (by intro h;cases h) rfl) rfl ?_
 refine Qe<|Q4<|Q5<|Qf<|Q5<|Q0<|rR J J J (Q6 QU J J J)<|rR J J J (Q7 J J J)<|rA J J J<|Q3<|Q4 ?_
 refine Qh (b:=(decide (4096 < y3))) J (fun c12=>?_) (fun c12=>?_)
 replace h0:=Qk c12 h0
 refine Q5<|Q0<|Qx J J (Qt K3 J J J J (lb J) J)<|Q3<|Q4<|QD ?_
 have e:=sI h0;subst e
 exact QL (fun _ _ h=>h) J (Gi K3 J J J .nil) (.cons (.one (.d _)) .nil)
 replace h0:=Ql c12 h0
 refine Q5<|Q0<|rR J J J (QN (a0:Tm) QV J J) ?_
 refine Qb h0 (fun x13 hx13 h0=>?_)
 refine Q9 J J (lb J) (Qq (m81_ok a0 x13 hx13) J (.cons (.agg (.cons (.d _) (.cons (.d _) (.cons (.d _) (.cons (.d _) (.cons (.d _) .nil)))))) .nil))<|rR J J J (Q7 J J J)<|rA J J J<|Q3<|Q4 ?_
 refine Qh (b:=(decide (200 < x13))) J (fun c14=>?_) (fun c14=>?_)
 replace h0:=Qk c14 h0
 refine Q5<|Q0<|Qx J J (Qt K3 J J J J (lb J) J)<|Q3<|Q4<|QD ?_
 have e:=sI h0;subst e
 exact QL (fun _ _ h=>h) J (Gi K3 J J J .nil) (.cons (.one (.d _)) .nil)
 replace h0:=Ql c14 h0
 refine Qm<|Qe<|Q4<|Q5<|Q0<|Qx J J (Qt K3 J J J J (lb J) J)<|Q3<|Q4<|QD ?_
 have e:=sI h0;subst e
 exact QL (fun _ _ h=>h) J (Gi K3 J J J .nil) (.cons (.one (.d _)) .nil)
 replace hc5:CallM Try.prog 89 [.one (.yld 6),.one (.ptr 4 0)] ⟨[(6,.loop .ready none [(5,.v (.one (.ptr 0 0))),(10,.v (.one (.ptr 1 0))),(11,.v (.one (.ptr 2 0))),(12,.v (.one (.ptr 3 0))),(26,.v (.one (.fn 89 [(4,0)])))] 45 #[27,28] ZK Z8 5),(5,.obj (.deferred (some []))),(0,.cells 33 (cE a0)),(1,.cells 25 [dI 0]),(2,.cells 127 [dI (max a1 0),dI (max a2 0),dI (max a3 0),dI (max a4 0)]),(3,.cells 3 [dI 0]),(4,.cells 33 (cE a0))],[],7⟩ (QK []) ⟨X4 a0 y4 a1 a2 a3 a4,[],13⟩:=hc5
 refine ZU (Y1 (e:=.ret) rfl hc5 rfl rfl (by intro h;cases h) rfl) rfl ?_
 have e:=sI h0;subst e
 exact QL (fun _ _ h=>h) J (Gi K3 J J J .nil) (.cons (.one (.d _)) .nil)
end Go.Proofs.Ytafddfoefeploaa
namespace Go.Proofs.Ytafddfoefeploaa
open Go.RowKit Go.Shelf
theorem bd_33:Yj Try.prog 33 [(0,1),(1,1),(2,1),(3,1),(4,1)] [.int .i64 0,.int .i64 0,.string ByteArray.empty,.slice none 0 0,.slice none 0 0]:=⟨by kernel_rfl,by kernel_rfl⟩
theorem en_63:J4 Try.prog 63:=enters_of Try.func63 (by kernel_rfl) rfl
theorem en_78:J4 Try.prog 78:=enters_of Try.func78 (by kernel_rfl) rfl
theorem en_93:J4 Try.prog 93:=enters_of Try.func93 (by kernel_rfl) rfl
theorem en_94:J4 Try.prog 94:=enters_of Try.func94 (by kernel_rfl) rfl
theorem en_95:J4 Try.prog 95:=enters_of Try.func95 (by kernel_rfl) rfl
theorem en_102:J4 Try.prog 102:=enters_of Try.func102 (by kernel_rfl) rfl
def m94_l0 (a0:Lvl) (a1:Lvl) (s3:Int):Option (LO Int (Unit⊕Bool)) :=
 cond (decide (s3 < (a0.vs.length:Int)))
   (Option.bind (JC a0.vs s3) fun (x8:LV) =>
 Option.bind (JC a1.vs s3) fun (x9:LV) =>
 cond (!((x8.1==x9.1)&&(x8.2==x9.2)))
   (some (.done (.inr false)))
   (some (.next (J9 (s3+1)))))
   (some (.done (.inl ())))
def m94 (a0:Lvl) (a1:Lvl):Option Bool :=
 Option.bind (cond (a0.c==a1.c)
   (Option.bind (cond ((a0.vs.length:Int) != (a1.vs.length:Int))
   (some false)
   (Option.bind (Qp (m94_l0 a0 a1) QF 0) (Sum.elim (fun (o6:Unit)=>some true) (fun o=>some o)))) (fun (y3:Bool)=>some y3))
   (some false)) (fun (v1:Bool)=>some v1)
theorem m94_ok (a0:Lvl) (a1:Lvl) (r:Bool) (h0:m94 a0 a1=some r):Fun Try.prog 94 [.agg (cE a0),.agg (cE a1)] (QK [.one (dB r)]):=by
 unfold m94 at h0
 refine QZ 9 17 Try.func94 J en_94 J (lb J) (fun S w=>?_)
 simp only [Ja]
 refine Q5<|Q0<|Q9 J J (lb J) (QT J)<|Q9 J J (lb J) (QT J)<|rA J J J<|Q3<|Q4<|Q5 ?_
 refine QS (fun (v1:Bool)=>⟨[(4,.v (.one (dB v1)))],[(0,.cells 87 (cE a0)),(1,.cells 87 (cE a1))],[],2,17,[]⟩) (fun (v1:Bool)=>(some v1)=some r) ?_ ?_
 refine Qb h0 (fun w1_ h1 h0=>?_)
 refine Q0<|rR J J J (Q2 Gr J)<|rR J J J (Q6 QU J J J)<|rR J J J (Q2 Gr J)<|rR J J J (Q6 QU J J J)<|rR J J J (Q7 J J J)<|rM J J J ?_
 refine QG (d:=10) (c:=(a0.c==a1.c)) J (fun c2=>?_) (fun c2=>?_)
 replace h1:=Qk c2 h1
 refine rR J J J (Q2 Zt J)<|rR J J J (Q6 Xh J J J)<|rR J J J (Q2 Zt J)<|rR J J J (Q6 Xh J J J) ?_
 refine Qb h1 (fun y3 h2 h1=>?_)
 have hc4:CallM Try.prog 102 [.one (dS a0.vs),.one (dS a1.vs)] ⟨[(0,.cells 87 (cE a0)),(1,.cells 87 (cE a1))],[],2⟩ (QK [.one (dB y3)]) ⟨[(0,.cells 87 (cE a0)),(1,.cells 87 (cE a1))],[],2⟩:=by
  refine J0 ⟨[(4,.v (.one (dB y3)))],[(0,.cells 87 (cE a0)),(1,.cells 87 (cE a1))],[],2,26,[]⟩ J J en_102 (lb J) J (QC J .nil) (fun w0 M V0 Q hv2 hQ2=>?_)
  simp only [Ja]
  refine Q5<|Q0<|rA J J J<|Q3<|Q4<|Q5<|Q5<|Q0<|rM J J J<|rR J J J (QA (α:=LV) ZJ J (.d _))<|rM J J J<|rR J J J (QA (α:=LV) ZJ J (.d _))<|rR J J J (Q7 J J J)<|Q3 ?_
  refine Q4 ?_
  refine Qh (b:=((a0.vs.length:Int) != (a1.vs.length:Int))) J (fun c5=>?_) (fun c5=>?_)
  replace h2:=Qk c5 h2
  refine Q5<|Q0<|rA J J J<|Q3<|Q4<|QD ?_
  have e:=sI h2;subst e
  exact hQ2 _ _ _ (.inr J) J (sL (Nat.le_trans hv2 (lb J)) J J J J J)
  replace h2:=Ql c5 h2
  refine Qm<|Q4<|Q5<|Q5<|Q0<|rM J J J<|rR J J J (QA (α:=LV) ZJ J (.d _))<|rM J J J<|Q3<|Q4<|Qf ?_
  refine QY 0 (fun (o6:Unit)=>⟨[],[(0,.cells 87 (cE a0)),(1,.cells 87 (cE a1))],[],2,26,[]⟩) (fun (o6:Unit)=>(some true)=some y3) ?_ ?_
  refine Qb h2 (fun o7 hl3 h2=>?_)
  refine QX (m94_l0 a0 a1) (fun s3=>⟨[(0,.v (.one (dS a0.vs))),(1,.v (.one (dS a1.vs))),(12,.v (.one (dI (a0.vs.length:Int)))),(13,.v (.one (dI s3)))],[(0,.cells 87 (cE a0)),(1,.cells 87 (cE a1))],[],2,26,[]⟩) 0 o7 (sL (Nat.le_trans hv2 (lb J)) J J J J J) hl3 (fun s3 n3 oo3 h3 ho3=>?_)
  unfold m94_l0 at h3
  refine Q5<|Q0<|rR J J J (Q7 J J J)<|Q3<|Q4<|Q5 ?_
  refine Qh (b:=(decide (s3 < (a0.vs.length:Int)))) J (fun c8=>?_) (fun c8=>?_)
  replace h3:=Qk c8 h3
  refine Qm<|Q4<|Q5<|Qf<|Q5<|Q0<|rM J J J<|rA J J J<|Q3<|Q4<|Q5 ?_
  refine Jv [] [] YQ (by kernel_rfl) (by kernel_rfl) (by kernel_rfl) ?_
  refine RunA.rd J J J (Q1 (Qr J)) J<|RunA.rd J J J (Q1 (Qr J)) J ?_
  refine Qb h3 (fun x9 hx9 h3=>?_)
  refine RunA.rd J J J (Q1 (Qy (α:=LV) ZJ J (.d _) J hx9)) J<|RunA.rd J J J (Q1 (Qv (x9:LV) Gh J)) J<|RunA.rd J J J (Q1 (Qr J)) J<|RunA.rd J J J (Q1 (Qr J)) J ?_
  refine Qb h3 (fun x10 hx10 h3=>?_)
  refine RunA.rd J J J (Q1 (Qy (α:=LV) ZJ J (.d _) J hx10)) J<|RunA.rd J J J (Q1 (Qv (x10:LV) Gh J)) J<|RunA.rd J J J (Q1 (RO.neqPair ip_124 J J)) J ?_
  refine RunA.nil ⟨?ex,_,_,J,?_⟩
  case ex=>exact trivial
  refine JW (st':=⟨[(0,.v (.one (dS a0.vs))),(1,.v (.one (dS a1.vs))),(12,.v (.one (dI (a0.vs.length:Int)))),(13,.v (.one (dI s3))),(24,.v (.one (dB (!((x9.1==x10.1)&&(x9.2==x10.2))))))],[(0,.cells 87 (cE a0)),(1,.cells 87 (cE a1))],[],2,26,[]⟩) (sL (Nat.le_trans hv2 (lb J)) J J J J J)<|Q4 ?_
  refine Qh (b:=(!((x9.1==x10.1)&&(x9.2==x10.2)))) J (fun c11=>?_) (fun c11=>?_)
  replace h3:=Qk c11 h3
  refine Q5<|Q0<|rA J J J<|Q3<|Q4<|QD ?_
  have e:=sI h3;subst e
  have e_:_=_:=ho3
  subst e_
  try dsimp only [Sum.elim_inl,Sum.elim_inr] at h2
  have e:=sI h2;subst e
  exact hQ2 _ _ _ (.inr J) J (sL (Nat.le_trans hv2 (lb J)) J J J J J)
  replace h3:=Ql c11 h3
  refine Qm<|Qe<|Q4<|Q0<|rR J J J (Q7 J J J)<|rM J J J<|Q3 ?_
  have e:=sI h3;subst e
  refine QR (J9 (s3+1)) (sL (Nat.le_trans hv2 (lb J)) J J J J J) ho3
  replace h3:=Ql c8 h3
  refine J5<|Qo<|Qo ?_
  have e:=sI h3;subst e
  have e_:_=_:=ho3
  subst e_
  exact QW () (sL (Nat.le_trans hv2 (lb J)) J J J J J) h2
  intro o6 h2
  refine QM<|Q4<|Q5<|Q0<|rA J J J<|Q3<|Q4<|QD ?_
  have e:=sI h2;subst e
  exact hQ2 _ _ _ (.inr J) J (sL (Nat.le_trans hv2 (lb J)) J J J J J)
 refine Q9 J J (lb J) (JJ J J J hc4 J (hA J) kZ)<|rR J J J (Qg J J)<|rA J J J<|Q3 ?_
 have e:=sI h1;subst e
 exact Qd y3 (sL (Nat.zero_le _) J J J J J) h0
 replace h1:=Ql c2 h1
 refine Q8 J J<|Q8 J J<|Q8 J J<|Q8 J J<|Q8 J J<|rR J J J (Qc J J)<|rA J J J<|Q3 ?_
 have e:=sI h1;subst e
 exact Qd false (sL (Nat.zero_le _) J J J J J) h0
 intro v1 h0
 refine Q4<|QD ?_
 have e:=sI h0;subst e
 exact QL (fun _ _ h=>h) J (QC J .nil) (.cons (.one (.d _)) .nil)
def U7 (a0:Tm) (a1:Tm) (s3:Int):Option (LO Int (Unit⊕Bool)) :=
 cond (decide (s3 < (a0.levels.length:Int)))
   (Option.bind (JC a0.levels s3) fun (x10:Lvl) =>
 Option.bind (JC a1.levels s3) fun (x11:Lvl) =>
 Option.bind (m94 x10 x11) fun (x12:Bool) =>
 cond (!x12)
   (some (.done (.inr false)))
   (some (.next (J9 (s3+1)))))
   (some (.done (.inl ())))
def U6 (a0:Tm) (a1:Tm) (rc:Tm×Tm→Option Bool) (s3:Int):Option (LO Int (Unit⊕Bool)) :=
 cond (decide (s3 < (a0.kids.length:Int)))
   (Option.bind (JC a0.kids s3) fun (x21:Tm) =>
 Option.bind (JC a1.kids s3) fun (x22:Tm) =>
 Option.bind (rc (x21,x22)) fun (x23:Bool) =>
 cond (!x23)
   (some (.done (.inr false)))
   (some (.next (J9 (s3+1)))))
   (some (.done (.inl ())))
def DD (rc:Tm×Tm→Option Bool) (a0:Tm) (a1:Tm):Option Bool :=
 Option.bind (cond (a0.kind==a1.kind)
   (cond (a0.index==a1.index)
   (cond (a0.name==a1.name)
   (Option.bind (cond ((a0.levels.length:Int) != (a1.levels.length:Int))
   (some false)
   (Option.bind (Qp (U7 a0 a1) QF 0) (Sum.elim (fun (o8:Unit)=>some true) (fun o=>some o)))) (fun (y5:Bool)=>cond y5
   (Option.bind (cond ((a0.kids.length:Int) != (a1.kids.length:Int))
   (some false)
   (Option.bind (Qp (U6 a0 a1 rc) QF 0) (Sum.elim (fun (o19:Unit)=>some true) (fun o=>some o)))) (fun (y16:Bool)=>some y16))
   (some false)))
   (some false))
   (some false))
   (some false)) (fun (v1:Bool)=>some v1)
def m78F (rc:Tm×Tm→Option Bool) (u:Tm×Tm):Option Bool:=DD rc u.1 u.2
def m78 (a0:Tm) (a1:Tm):Option Bool:=Jr m78F QF (a0,a1)
theorem m78s_ok (rc:Tm×Tm→Option Bool) (H:∀ (a0:Tm) (a1:Tm) (r:Bool),rc (a0,a1)=some r→Fun Try.prog 78 [.agg (cE a0),.agg (cE a1)] (QK [.one (dB r)])) (a0:Tm) (a1:Tm) (r:Bool) (h0:DD rc a0 a1=some r):Fun Try.prog 78 [.agg (cE a0),.agg (cE a1)] (QK [.one (dB r)]):=by
 unfold DD at h0
 refine QZ 9 38 Try.func78 J en_78 J (lb J) (fun S w=>?_)
 simp only [Ja]
 refine Q5<|Q0<|Q9 J J (lb J) (QT J)<|Q9 J J (lb J) (QT J)<|rA J J J<|Q3<|Q4<|Q5 ?_
 refine QS (fun (v1:Bool)=>⟨[(4,.v (.one (dB v1)))],[(0,.cells 33 (cE a0)),(1,.cells 33 (cE a1))],[],2,38,[]⟩) (fun (v1:Bool)=>(some v1)=some r) ?_ ?_
 refine Qb h0 (fun w1_ h1 h0=>?_)
 refine Q0<|rR J J J (Q2 Yb J)<|rR J J J (Q6 QU J J J)<|rR J J J (Q2 Yb J)<|rR J J J (Q6 QU J J J)<|rR J J J (Q7 J J J)<|rM J J J ?_
 refine QG (d:=10) (c:=(a0.kind==a1.kind)) J (fun c2=>?_) (fun c2=>?_)
 replace h1:=Qk c2 h1
 refine rR J J J (Q2 Zh J)<|rR J J J (Q6 QU J J J)<|rR J J J (Q2 Zh J)<|rR J J J (Q6 QU J J J)<|rR J J J (Q7 J J J)<|rR J J J (Qg J J)<|rM J J J ?_
 refine QG (d:=17) (c:=(a0.index==a1.index)) J (fun c3=>?_) (fun c3=>?_)
 replace h1:=Qk c3 h1
 refine rR J J J (Q2 Zg J)<|rR J J J (Q6 JV J J J)<|rR J J J (Q2 Zg J)<|rR J J J (Q6 JV J J J)<|rR J J J (Xf J J)<|rR J J J (Qg J J)<|rM J J J ?_
 refine QG (d:=24) (c:=(a0.name==a1.name)) J (fun c4=>?_) (fun c4=>?_)
 replace h1:=Qk c4 h1
 refine rR J J J (Q2 Zu J)<|rR J J J (Q6 Xi J J J)<|rR J J J (Q2 Zu J)<|rR J J J (Q6 Xi J J J) ?_
 refine Qb h1 (fun y5 h2 h1=>?_)
 have hc6:CallM Try.prog 93 [.one (dS a0.levels),.one (dS a1.levels),.one (.fn 94 [])] ⟨[(0,.cells 33 (cE a0)),(1,.cells 33 (cE a1))],[],2⟩ (QK [.one (dB y5)]) ⟨[(0,.cells 33 (cE a0)),(1,.cells 33 (cE a1))],[],2⟩:=by
  refine J0 ⟨[(6,.v (.one (dB y5)))],[(0,.cells 33 (cE a0)),(1,.cells 33 (cE a1))],[],2,32,[]⟩ J J en_93 (lb J) J (QC J .nil) (fun w0 M V0 Q hv2 hQ2=>?_)
  simp only [Ja]
  refine Q5<|Q0<|rA J J J<|Q3<|Q4<|Q5<|Q5<|Q0<|rM J J J<|rR J J J (QA (α:=Lvl) Zm J (.d _))<|rM J J J<|rR J J J (QA (α:=Lvl) Zm J (.d _))<|rR J J J (Q7 J J J)<|Q3 ?_
  refine Q4 ?_
  refine Qh (b:=((a0.levels.length:Int) != (a1.levels.length:Int))) J (fun c7=>?_) (fun c7=>?_)
  replace h2:=Qk c7 h2
  refine Q5<|Q0<|rA J J J<|Q3<|Q4<|QD ?_
  have e:=sI h2;subst e
  exact hQ2 _ _ _ (.inr J) J (sL (Nat.le_trans hv2 (lb J)) J J J J J)
  replace h2:=Ql c7 h2
  refine Qm<|Q4<|Q5<|Q5<|Q0<|rM J J J<|rR J J J (QA (α:=Lvl) Zm J (.d _))<|rM J J J<|Q3<|Q4<|Qf ?_
  refine QY 0 (fun (o8:Unit)=>⟨[],[(0,.cells 33 (cE a0)),(1,.cells 33 (cE a1))],[],2,32,[]⟩) (fun (o8:Unit)=>(some true)=some y5) ?_ ?_
  refine Qb h2 (fun o9 hl3 h2=>?_)
  refine QX (U7 a0 a1) (fun s3=>⟨[(1,.v (.one (dS a1.levels))),(2,.v (.one (.fn 94 []))),(15,.v (.one (dS a0.levels))),(16,.v (.one (dI (a0.levels.length:Int)))),(17,.v (.one (dI s3)))],[(0,.cells 33 (cE a0)),(1,.cells 33 (cE a1))],[],2,32,[]⟩) 0 o9 (sL (Nat.le_trans hv2 (lb J)) J J J J J) hl3 (fun s3 n3 oo3 h3 ho3=>?_)
  unfold U7 at h3
  refine Q5<|Q0<|rR J J J (Q7 J J J)<|Q3<|Q4<|Q5 ?_
  refine Qh (b:=(decide (s3 < (a0.levels.length:Int)))) J (fun c10=>?_) (fun c10=>?_)
  replace h3:=Qk c10 h3
  refine Qm<|Q4<|Q5<|Qf<|Q5<|Q0<|rM J J J ?_
  refine Qb h3 (fun x11 hx11 h3=>?_)
  refine rR J J J (Qy (α:=Lvl) Zm J (.d _) J hx11)<|rR J J J (Qv (x11:Lvl) Ky J)<|Q9 J J (lb J) (Qj Dz J)<|rA J J J<|Qx J J (Qz (x11:Lvl) Ky J J J J J)<|Q3<|Q4<|Q5<|Q0<|rM J J J<|rM J J J ?_
  refine Qb h3 (fun x12 hx12 h3=>?_)
  refine rR J J J (Qy (α:=Lvl) Zm J (.d _) J hx12)<|rR J J J (Qv (x12:Lvl) Ky J)<|Q9 J J (lb J) (Qj Dz J)<|Qx J J (Qz (x12:Lvl) Ky J J J J J)<|Q3<|Q4<|Q5<|Q0<|rM J J J<|rR J J J (QN (x11:Lvl) Ky J J)<|rR J J J (QN (x12:Lvl) Ky J J) ?_
  refine Qb h3 (fun x13 hx13 h3=>?_)
  refine Q9 J J (lb J) (OpOK.callFunV J (m94_ok x11 x12 x13 hx13) J (.cons (.agg (.cons (.d _) (.cons (.d _) .nil))) (.cons (.agg (.cons (.d _) (.cons (.d _) .nil))) .nil)))<|rR J J J (Ji J)<|Q3<|Q4 ?_
  refine Qh (b:=(!x13)) J (fun c14=>?_) (fun c14=>?_)
  replace h3:=Qk c14 h3
  refine Q5<|Q0<|rA J J J<|Q3<|Q4<|QD ?_
  have e:=sI h3;subst e
  have e_:_=_:=ho3
  subst e_
  try dsimp only [Sum.elim_inl,Sum.elim_inr] at h2
  have e:=sI h2;subst e
  exact hQ2 _ _ _ (.inr J) J (sL (Nat.le_trans hv2 (lb J)) J J J J J)
  replace h3:=Ql c14 h3
  refine Qm<|Qe<|Q4<|Q0<|rR J J J (Q7 J J J)<|rM J J J<|Q3 ?_
  have e:=sI h3;subst e
  refine QR (J9 (s3+1)) (sL (Nat.le_trans hv2 (lb J)) J J J J J) ho3
  replace h3:=Ql c10 h3
  refine J5<|Qo<|Qo ?_
  have e:=sI h3;subst e
  have e_:_=_:=ho3
  subst e_
  exact QW () (sL (Nat.le_trans hv2 (lb J)) J J J J J) h2
  intro o8 h2
  refine QM<|Q4<|Q5<|Q0<|rA J J J<|Q3<|Q4<|QD ?_
  have e:=sI h2;subst e
  exact hQ2 _ _ _ (.inr J) J (sL (Nat.le_trans hv2 (lb J)) J J J J J)
 refine Q9 J J (lb J) (JJ J J J hc6 J (hA J) kZ)<|rR J J J (Qg J J)<|rM J J J ?_
 refine QG (d:=31) (c:=y5) J (fun c15=>?_) (fun c15=>?_)
 replace h1:=Qk c15 h1
 refine rR J J J (Q2 JR J)<|rR J J J (Q6 JO J J J)<|rR J J J (Q2 JR J)<|rR J J J (Q6 JO J J J) ?_
 refine Qb h1 (fun y16 h2 h1=>?_)
 have hc17:CallM Try.prog 95 [.one (dS a0.kids),.one (dS a1.kids),.one (.fn 78 [])] ⟨[(0,.cells 33 (cE a0)),(1,.cells 33 (cE a1))],[],2⟩ (QK [.one (dB y16)]) ⟨[(0,.cells 33 (cE a0)),(1,.cells 33 (cE a1))],[],2⟩:=by
  refine J0 ⟨[(6,.v (.one (dB y16)))],[(0,.cells 33 (cE a0)),(1,.cells 33 (cE a1))],[],2,32,[]⟩ J J en_95 (lb J) J (QC J .nil) (fun w0 M V0 Q hv2 hQ2=>?_)
  simp only [Ja]
  refine Q5<|Q0<|rA J J J<|Q3<|Q4<|Q5<|Q5<|Q0<|rM J J J<|rR J J J (QA (α:=Tm) Jl J (.d _))<|rM J J J<|rR J J J (QA (α:=Tm) Jl J (.d _))<|rR J J J (Q7 J J J)<|Q3 ?_
  refine Q4 ?_
  refine Qh (b:=((a0.kids.length:Int) != (a1.kids.length:Int))) J (fun c18=>?_) (fun c18=>?_)
  replace h2:=Qk c18 h2
  refine Q5<|Q0<|rA J J J<|Q3<|Q4<|QD ?_
  have e:=sI h2;subst e
  exact hQ2 _ _ _ (.inr J) J (sL (Nat.le_trans hv2 (lb J)) J J J J J)
  replace h2:=Ql c18 h2
  refine Qm<|Q4<|Q5<|Q5<|Q0<|rM J J J<|rR J J J (QA (α:=Tm) Jl J (.d _))<|rM J J J<|Q3<|Q4<|Qf ?_
  refine QY 0 (fun (o19:Unit)=>⟨[],[(0,.cells 33 (cE a0)),(1,.cells 33 (cE a1))],[],2,32,[]⟩) (fun (o19:Unit)=>(some true)=some y16) ?_ ?_
  refine Qb h2 (fun o20 hl3 h2=>?_)
  refine QX (U6 a0 a1 rc) (fun s3=>⟨[(1,.v (.one (dS a1.kids))),(2,.v (.one (.fn 78 []))),(15,.v (.one (dS a0.kids))),(16,.v (.one (dI (a0.kids.length:Int)))),(17,.v (.one (dI s3)))],[(0,.cells 33 (cE a0)),(1,.cells 33 (cE a1))],[],2,32,[]⟩) 0 o20 (sL (Nat.le_trans hv2 (lb J)) J J J J J) hl3 (fun s3 n3 oo3 h3 ho3=>?_)
  unfold U6 at h3
  refine Q5<|Q0<|rR J J J (Q7 J J J)<|Q3<|Q4<|Q5 ?_
  refine Qh (b:=(decide (s3 < (a0.kids.length:Int)))) J (fun c21=>?_) (fun c21=>?_)
  replace h3:=Qk c21 h3
  refine Qm<|Q4<|Q5<|Qf<|Q5<|Q0<|rM J J J ?_
  refine Qb h3 (fun x22 hx22 h3=>?_)
  refine rR J J J (Qy (α:=Tm) Jl J (.d _) J hx22)<|rR J J J (Qv (x22:Tm) QV J)<|Q9 J J (lb J) (Qj K4 J)<|rA J J J<|Qx J J (Qz (x22:Tm) QV J J J J J)<|Q3<|Q4<|Q5<|Q0<|rM J J J<|rM J J J ?_
  refine Qb h3 (fun x23 hx23 h3=>?_)
  refine rR J J J (Qy (α:=Tm) Jl J (.d _) J hx23)<|rR J J J (Qv (x23:Tm) QV J)<|Q9 J J (lb J) (Qj K4 J)<|Qx J J (Qz (x23:Tm) QV J J J J J)<|Q3<|Q4<|Q5<|Q0<|rM J J J<|rR J J J (QN (x22:Tm) QV J J)<|rR J J J (QN (x23:Tm) QV J J) ?_
  refine Qb h3 (fun x24 hx24 h3=>?_)
  refine Q9 J J (lb J) (OpOK.callFunV J (H x22 x23 x24 hx24) J (.cons (.agg (.cons (.d _) (.cons (.d _) (.cons (.d _) (.cons (.d _) (.cons (.d _) .nil)))))) (.cons (.agg (.cons (.d _) (.cons (.d _) (.cons (.d _) (.cons (.d _) (.cons (.d _) .nil)))))) .nil)))<|rR J J J (Ji J)<|Q3<|Q4 ?_
  refine Qh (b:=(!x24)) J (fun c25=>?_) (fun c25=>?_)
  replace h3:=Qk c25 h3
  refine Q5<|Q0<|rA J J J<|Q3<|Q4<|QD ?_
  have e:=sI h3;subst e
  have e_:_=_:=ho3
  subst e_
  try dsimp only [Sum.elim_inl,Sum.elim_inr] at h2
  have e:=sI h2;subst e
  exact hQ2 _ _ _ (.inr J) J (sL (Nat.le_trans hv2 (lb J)) J J J J J)
  replace h3:=Ql c25 h3
  refine Qm<|Qe<|Q4<|Q0<|rR J J J (Q7 J J J)<|rM J J J<|Q3 ?_
  have e:=sI h3;subst e
  refine QR (J9 (s3+1)) (sL (Nat.le_trans hv2 (lb J)) J J J J J) ho3
  replace h3:=Ql c21 h3
  refine J5<|Qo<|Qo ?_
  have e:=sI h3;subst e
  have e_:_=_:=ho3
  subst e_
  exact QW () (sL (Nat.le_trans hv2 (lb J)) J J J J J) h2
  intro o19 h2
  refine QM<|Q4<|Q5<|Q0<|rA J J J<|Q3<|Q4<|QD ?_
  have e:=sI h2;subst e
  exact hQ2 _ _ _ (.inr J) J (sL (Nat.le_trans hv2 (lb J)) J J J J J)
 refine Q9 J J (lb J) (JJ J J J hc17 J (hA J) kZ)<|rR J J J (Qg J J)<|rA J J J<|Q3 ?_
 have e:=sI h1;subst e
 exact Qd y16 (sL (Nat.zero_le _) J J J J J) h0
 replace h1:=Ql c15 h1
 refine Q8 J J<|Q8 J J<|Q8 J J<|Q8 J J<|Q8 J J<|rR J J J (Qc J J)<|rA J J J<|Q3 ?_
 have e:=sI h1;subst e
 exact Qd false (sL (Nat.zero_le _) J J J J J) h0
 replace h1:=Ql c4 h1
 refine Q8 J J<|Q8 J J<|Q8 J J<|Q8 J J<|Q8 J J<|rR J J J (Qc J J)<|rM J J J<|Q8 J J<|Q8 J J<|Q8 J J<|Q8 J J<|Q8 J J<|rR J J J (Qc J J)<|rA J J J ?_
 refine Q3 ?_
 have e:=sI h1;subst e
 exact Qd false (sL (Nat.zero_le _) J J J J J) h0
 replace h1:=Ql c3 h1
 refine Q8 J J<|Q8 J J<|Q8 J J<|Q8 J J<|Q8 J J<|rR J J J (Qc J J)<|rM J J J<|Q8 J J<|Q8 J J<|Q8 J J<|Q8 J J<|Q8 J J<|rR J J J (Qc J J)<|rM J J J ?_
 refine Q8 J J<|Q8 J J<|Q8 J J<|Q8 J J<|Q8 J J<|rR J J J (Qc J J)<|rA J J J<|Q3 ?_
 have e:=sI h1;subst e
 exact Qd false (sL (Nat.zero_le _) J J J J J) h0
 replace h1:=Ql c2 h1
 refine Q8 J J<|Q8 J J<|Q8 J J<|Q8 J J<|Q8 J J<|rR J J J (Qc J J)<|rM J J J<|Q8 J J<|Q8 J J<|Q8 J J<|Q8 J J<|Q8 J J<|rR J J J (Qc J J)<|rM J J J ?_
 refine Q8 J J<|Q8 J J<|Q8 J J<|Q8 J J<|Q8 J J<|rR J J J (Qc J J)<|rM J J J<|Q8 J J<|Q8 J J<|Q8 J J<|Q8 J J<|Q8 J J<|rR J J J (Qc J J)<|rA J J J ?_
 refine Q3 ?_
 have e:=sI h1;subst e
 exact Qd false (sL (Nat.zero_le _) J J J J J) h0
 intro v1 h0
 refine Q4<|QD ?_
 have e:=sI h0;subst e
 exact QL (fun _ _ h=>h) J (QC J .nil) (.cons (.one (.d _)) .nil)
theorem m78_all (n:Nat) (u:Tm×Tm) (r:Bool) (h0:Jr m78F n u=some r):Fun Try.prog 78 [.agg (cE u.1),.agg (cE u.2)] (QK [.one (dB r)]) :=
 YV (C:=fun u r=>Fun Try.prog 78 [.agg (cE u.1),.agg (cE u.2)] (QK [.one (dB r)])) (fun rc H u r h=>m78s_ok rc (fun a0 a1 r h=>H (a0,a1) r h) u.1 u.2 r h) n u r h0
theorem m78_ok (a0:Tm) (a1:Tm) (r:Bool) (h0:m78 a0 a1=some r):Fun Try.prog 78 [.agg (cE a0),.agg (cE a1)] (QK [.one (dB r)]):=m78_all QF (a0,a1) r h0
def DU (a0:Tm):Option Bool :=
 Option.bind (m78 a0 (Tm.mk 0 0 ([]:List UInt8) ([]:List Lvl) ([]:List Tm))) fun (x1:Bool) =>
 some x1
theorem UB (a0:Tm) (r:Bool) (h0:DU a0=some r):Fun Try.prog 63 [.agg (cE a0)] (QK [.one (dB r)]):=by
 unfold DU at h0
 refine QZ 9 6 Try.func63 J en_63 J (lb J) (fun S w=>?_)
 simp only [Ja]
 refine Q5<|Q0<|Q9 J J (lb J) (QT J)<|rA J J J<|Q3<|Q4<|Q5<|Q0<|rR J J J (QN (a0:Tm) QV J J)<|rR J J J (X3 bd_33 J ) ?_
 refine Qb h0 (fun x1 hx1 h0=>?_)
 refine Q9 J J (lb J) (Qq (m78_ok a0 (Tm.mk 0 0 ([]:List UInt8) ([]:List Lvl) ([]:List Tm)) x1 hx1) J (.cons (.agg (.cons (.d _) (.cons (.d _) (.cons (.d _) (.cons (.d _) (.cons (.d _) .nil)))))) (.cons (.agg (.cons (.d _) (.cons (.d _) (.cons (.d _) (.cons (.nil _) (.cons (.nil _) .nil)))))) .nil)))<|rA J J J<|Q3<|Q4<|QD ?_
 have e:=sI h0;subst e
 exact QL (fun _ _ h=>h) J (QC J .nil) (.cons (.one (.d _)) .nil)
end Go.Proofs.Ytafddfoefeploaa
namespace Go.Proofs.Ytafddfoefeploaa
open Go.RowKit Go.Shelf
theorem wrong_st:tyStruct Try.prog 90=true:=by kernel_rfl
theorem und20:Try.prog.underlying 20=some (.interface #[]):=by kernel_rfl
theorem und90:Jw Try.prog 90=some (true,1):=by kernel_rfl
theorem z90:JD Try.prog 90=some [.int .i64 0]:=by kernel_rfl
theorem eq_nil (w:World):(Op.equal 20 .nilIface .nilIface).run Try.prog w=.ok true w:=by
 unfold Op.equal
 rw [show Op.maxDepth=(Op.maxDepth - 1)+1 from rfl]
 unfold Op.equalIn
 simp [run_underlying und20]
theorem eq_some (T:TypeId) (v:Value) (w:World):(Op.equal 20 (.iface T v) .nilIface).run Try.prog w=.ok false w:=by
 unfold Op.equal
 rw [show Op.maxDepth=(Op.maxDepth - 1)+1 from rfl]
 unfold Op.equalIn
 simp [run_underlying und20]
theorem catch_idle (n:Nat) (p:Addr) (w:World):CallsDIn Fence.wide n Try.prog 43 #[.pointer (some p)] .returning w fun e u' w'=>(∃ v,e=.returned v)∧u'=.returning∧w'=w:=by
 refine callsDIn_of_wpSIn Try.func43 J trivial fun c₀ cs hu=>?_
 apply wpSIn_seq
 apply wpSIn_region
 simp [wpOpsSIn,go_sem,recoverD,hu,Exit.thenS,Try.f43]
 apply wpSIn_seq
 apply wpSIn_region
 simp [wpOpsSIn,go_sem,Exit.thenS,eqGuard,binOp,eq_nil]
 refine wpSIn_cond (t:=false) (by simp [Act.eval]) ?_
 simp only [Bool.false_eq_true,if_false]
 refine wpSIn_of_wpIn J (wpIn_skip ?_)
 cases c₀
 simp_all [bodyPostS,results,Try.f43]
theorem ta_run (v:Value) (w:World):(Instr.typeAssert (.iface 90 v) 20 90 true).run Try.prog w=.ok (.tuple #[v,.bool true]) w:=by
 have h:=wrong_st
 unfold tyStruct at h
 split at h
 ·rename_i fs hu
  unfold Instr.typeAssert
  simp [run_underlying hu]
 ·cases h
theorem al_run (w:World):(Instr.alloc 90 true (.tuple #[])).run Try.prog w=.ok (.pointer (some ⟨w.heap.size,0,none⟩)) (w.alloc (.cells #[.int .i64 0] 90)):=by
 obtain ⟨z,hz1,hz2⟩:=tyZero_spec z90
 simp [Instr.alloc,hz1,newVar,newRow,hz2]
theorem st_run {t:TypeId} {ag:Bool} (ht:Jw Try.prog t=some (ag,1)) {p:Addr} {v x y:Value} {w:World} (hv:v.cells=#[x]) (hx:x.oneCell'=true) (hc:w.cell? p=some y) (hz:w.frozen? p=false):(Instr.storeAt t (.pointer (some p)) v).run Try.prog w=.ok () (w.setCell p x):=by
 obtain ⟨-,hs⟩:=K6 ht w
 simp only [Instr.storeAt,Instr.sureAddr,storeVar,Sem.run_bind,Sem.run_pure,Result.andThen_ok,hs,hv]
 have h1:(Go.store (p.add 0) x).run Try.prog w=.ok () (w.setCell p x):=by
  have:p.add 0=p:=by unfold Addr.add;simp
  rw [this,run_store _ _ _ _ _ hx,hc]
  simp [hz]
 simp [storeCells,h1]
theorem ag25:Jw Try.prog 25=some (false,1):=by kernel_rfl
theorem fo90:J1 Try.prog 90 0=some 0:=by kernel_rfl
theorem catch_caught (n:Nat) (p:Addr) (x:Int) (y:Value) (w:World) (hc:w.cell? p=some y) (hz:w.frozen? p=false):CallsDIn Fence.wide n Try.prog 43 #[.pointer (some p)] (.panicking (Jx (QJ 90 x))) w fun e u' w' =>
  (∃ v,e=.returned v)∧u'=.panicking [{ v:=QJ 90 x,recovered:=true }]∧∃ w1,ExtM (fun _=>False) w w1∧w'=w1.setCell p (.int .i64 x):=by
 have hb:p.block < w.heap.size:=by
  rcases Nat.lt_or_ge p.block w.heap.size with h | h
  ·exact h
  ·unfold World.cell? at hc
   rw [Array.getElem?_eq_none h] at hc
   split at hc <;> simp_all
 obtain ⟨W1,hW1⟩:∃ W1,(w.alloc (.cells #[.int .i64 0] 90)).setCell ⟨w.heap.size,0,none⟩ (.int .i64 x)=W1:=⟨_,rfl⟩
 have hx1:ExtM (fun _=>False) w W1:=by
  subst hW1
  refine ⟨rfl,rfl,rfl,by simp [World.setCell],fun k hk _=>?_⟩
  rw [Below.heap_setCell _ _ _ _ (by simp;omega)]
  exact Below.heap_alloc w _ k hk
 have hcell:W1.cell? p=some y:=by rw [World.cell?_of_block (hx1.block p.block hb (fun h=>h))];exact hc
 have hfz:W1.frozen? p=false:=by
  have:=hx1.block p.block hb (fun h=>h)
  unfold World.frozen? at hz ⊢
  rw [this];exact hz
 have hnew:W1.cell? ⟨w.heap.size,0,none⟩=some (.int .i64 x):=by subst hW1;simp [go_sem]
 refine callsDIn_of_wpSIn Try.func43 J trivial fun c₀ cs hu=>?_
 apply wpSIn_seq
 apply wpSIn_region
 simp [wpOpsSIn,go_sem,recoverD,hu,Exit.thenS,Try.f43]
 apply wpSIn_seq
 apply wpSIn_region
 simp [wpOpsSIn,go_sem,Exit.thenS,eqGuard,binOp,eq_some,QJ]
 refine wpSIn_cond (t:=true) (by simp [Act.eval]) ?_
 simp only [if_true]
 have hst:=st_run und90 (p:=⟨w.heap.size,0,none⟩) (v:=.agg #[.int .i64 x]) (x:=.int .i64 x) (y:=.int .i64 0) (w:=w.alloc (.cells #[.int .i64 0] 90)) rfl rfl (by simp [go_sem]) (by simp [go_sem])
 rw [hW1] at hst
 have hld:=run_loadOne (P:=Try.prog) (w:=W1) (b:=w.heap.size) (o:=0) ag25 hnew
 have hfa:=run_fieldAt (P:=Try.prog) (b:=w.heap.size) (o:=0) fo90 W1
 have hst2:=st_run ag25 (p:=p) (v:=.int .i64 x) (x:=.int .i64 x) rfl rfl hcell hfz
 apply wpSIn_seq
 apply wpSIn_region
 simp [wpOpsSIn,List.range,List.range.loop,execOp,Act.eval,Act.put,Region.wanted,ta_run,al_run,hst,Exit.thenS,Oper.about,Instr.extract,hu,recoverD]
 apply wpSIn_seq
 apply wpSIn_seq
 apply wpSIn_region
 simp [wpOpsSIn,List.range,List.range.loop,execOp,Act.eval,Act.put,Region.wanted,Exit.thenS,Oper.about,Op.unary]
 refine wpSIn_cond (t:=false) (by simp [Act.eval]) ?_
 simp only [Bool.false_eq_true,if_false]
 refine wpSIn_of_wpIn J (wpIn_skip ?_)
 simp only [Exit.thenS]
 apply wpSIn_region
 simp [wpOpsSIn,List.range,List.range.loop,execOp,Act.eval,Act.put,Region.wanted,Exit.thenS,Oper.about,hfa,hld,hst2]
 cases c₀
 simp_all [bodyPostS,results,Try.f43]
 exact ⟨W1,hx1,J⟩
theorem catch_ok:Catch Try.prog 43 90:=⟨enters_of Try.func43 (by kernel_rfl) rfl,catch_idle,catch_caught⟩
end Go.Proofs.Ytafddfoefeploaa
namespace Go.Proofs.Ytafddfoefeploaa
open Go.RowKit Go.Shelf
theorem Kf:J1 Try.prog 62 1=some 1:=by kernel_rfl
theorem Wa:Jw Try.prog 59=some (false,1):=by kernel_rfl
theorem YA:Jw Try.prog 60=some (false,1):=by kernel_rfl
theorem ag_78:Jw Try.prog 78=some (false,1):=by kernel_rfl
theorem bd_90:Yj Try.prog 90 [(0,1)] [.int .i64 0]:=⟨by kernel_rfl,by kernel_rfl⟩
theorem YP:W6 Try.prog 60=some (false,.agg [.d (.v (.int .i64 0)),.d (.v (.int .i64 0)),.d (.v (.int .i64 0)),.d (.v (.int .i64 0)),.d (.v (.int .i64 0)),.d (.v (.int .i64 0)),.d (.v (.string ByteArray.empty)),.d (.v (.slice none 0 0)),.d (.v (.slice none 0 0))]):=by kernel_rfl
theorem en_44:J4 Try.prog 44:=enters_of Try.func44 (by kernel_rfl) rfl
theorem en_45:J4 Try.prog 45:=enters_of Try.func45 (by kernel_rfl) rfl
theorem en_62:J4 Try.prog 62:=enters_of Try.func62 (by kernel_rfl) rfl
theorem en_83:J4 Try.prog 83:=enters_of Try.func83 (by kernel_rfl) rfl
theorem en_98:J4 Try.prog 98:=enters_of Try.func98 (by kernel_rfl) rfl
theorem en_99:J4 Try.prog 99:=enters_of Try.func99 (by kernel_rfl) rfl
theorem en_104:J4 Try.prog 104:=enters_of Try.func104 (by kernel_rfl) rfl
noncomputable def YR:Code:=(cA (cA (cB (cB (cB (cB (Kx Try.f46)))))))
noncomputable def Yq:Code:=(cB (cA (cB (cB (cB (cB (Kx Try.f46)))))))
noncomputable def ZB:Code:=(cA (cA (cB (cA (cB (cB (Kx Try.f47)))))))
noncomputable def ZA:Code:=(cB (cA (cB (cA (cB (cB (Kx Try.f47)))))))
noncomputable def Kk:Code:=(cA (cA (cB (cA (cB (cB (cB (cB (cB (cB (cB (cB (cB (Kx Try.f30))))))))))))))
noncomputable def Kj:Code:=(cB (cA (cB (cA (cB (cB (cB (cB (cB (cB (cB (cB (cB (Kx Try.f30))))))))))))))
noncomputable def XM:Code:=(cA (cA (cB (cB (cB (cB (cA (cA (cB (cB (cA (cA (cB (cA (cB (cB (cB (Kx Try.f11))))))))))))))))))
noncomputable def XK:Code:=(cB (cA (cB (cB (cB (cB (cA (cA (cB (cB (cA (cA (cB (cA (cB (cB (cB (Kx Try.f11))))))))))))))))))
def Jy (a0:Bool) (a1:Int):Option (Unit⊕Unit) :=
 cond (!a0)
   (some (.inr ()))
   (some (.inl ()))
theorem QB (a0:Bool) (a1:Int) (r:Unit⊕Unit) (h0:Jy a0 a1=some r):CallE Try.prog 62 [.one (dB a0),.one (dI a1)] ⟨[],[],0⟩ ((Sum.elim (fun (r0:Unit)=>((.ret []):EK)) (fun (r1:Unit)=>((.pan (QJ 90 a1)):EK))) r) ⟨((Sum.elim (fun (r0:Unit)=>(⟨[],[],[],0,9,[]⟩:St)) (fun (r1:Unit)=>(⟨[],[],[],0,9,[]⟩:St))) r).hp,((Sum.elim (fun (r0:Unit)=>(⟨[],[],[],0,9,[]⟩:St)) (fun (r1:Unit)=>(⟨[],[],[],0,9,[]⟩:St))) r).tk,((Sum.elim (fun (r0:Unit)=>(⟨[],[],[],0,9,[]⟩:St)) (fun (r1:Unit)=>(⟨[],[],[],0,9,[]⟩:St))) r).nx⟩:=by
 unfold Jy at h0
 refine JK r ((Sum.elim (fun (r0:Unit)=>(⟨[],[],[],0,9,[]⟩:St)) (fun (r1:Unit)=>(⟨[],[],[],0,9,[]⟩:St)))) ((Sum.elim (fun (r0:Unit)=>((.ret []):EK)) (fun (r1:Unit)=>((.pan (QJ 90 a1)):EK)))) rfl rfl en_62 (lb rfl) (fun z_=>by cases z_ with
 | inl _=>exact rfl
 | inr _=>exact rfl) (fun z_=>by cases z_ with
 | inl _=>exact (Du .nil)
 | inr _=>exact DB) (fun w0 M V0 Q hv0 hQ0=>?_)
 simp only [Ja]
 refine Q5<|Q0<|rM J J J<|rR J J J (Ji J)<|Q3<|Q4 ?_
 refine Qh (b:=(!a0)) J (fun c1=>?_) (fun c1=>?_)
 replace h0:=Qk c1 h0
 refine Q0<|rM J J J<|rR J J J (X2 bd_90 J J J)<|rR J J J (RO.wrong wrong_st J)<|Jf J (OpD.panic J) ?_
 have e:=sI h0;subst e
 exact Jo (hQ0 (.panic (Jx (QJ 90 a1))) _ ZY J (show StLe _ _ ⟨[],[],[],0,9,[]⟩ from (sL (Nat.le_trans hv0 (lb J)) J J J J J))) (fun _ _ h=>h)
 replace h0:=Ql c1 h0
 refine Qm ?_
 have e:=sI h0;subst e
 exact hQ0 _ _ byN J (show StLe _ _ ⟨[],[],[],0,9,[]⟩ from (sL (Nat.le_trans hv0 (lb J)) J J J J J))
def Ki (a0:Dcl) (s1:Int):Option (LO Int (Unit⊕(Unit⊕Int))) :=
 cond (decide (s1 < (a0.funs.length:Int)))
   (Option.bind (JC a0.funs s1) fun (x12:Fn) =>
 Option.bind (cond (decide (1≤x12.arity))
   (Option.bind (Jy (decide (x12.arity≤16)) 3) (Sum.elim (fun (x16:Unit)=>some (.inl ())) (fun (x17:Unit)=>some (.inr (.inr 3)))))
   (Option.bind (Jy false 3) (Sum.elim (fun (x19:Unit)=>some (.inl ())) (fun (x20:Unit)=>some (.inr (.inr 3)))))) (Sum.elim (fun (v13:Unit)=>some (.next (J9 (s1+1)))) (fun o=>some (.done (.inr o)))))
   (some (.done (.inl ())))
def Kh (a0:Dcl) (s1:(List Tm)×Int):Option (LO ((List Tm)×Int) (((List Tm)))) :=
 cond (decide (s1.2 < (a0.ctors.length:Int)))
   (Option.bind (JC a0.ctors s1.2) fun (x15:Ctr) =>
 Jd (Nat.ble (s1.1.length+([x15.ty]).length) 1000000000)
 (some (.next ((s1.1++([x15.ty])),(J9 (s1.2+1))))))
   (some (.done s1.1))
def ZN (o13:(List Tm)) (a0:Dcl) (s1:Int):Option (LO Int (Unit⊕(Unit⊕Int))) :=
 cond (decide (s1 < (o13.length:Int)))
   (Option.bind (JC o13 s1) fun (x16:Tm) =>
 Option.bind (m64 x16) fun (x17:(List Tm)×Tm) =>
 Option.bind (Jy (decide (a0.fixed≤(x17.1.length:Int))) 3) (Sum.elim (fun (x19:Unit)=>some (.next (J9 (s1+1)))) (fun (x20:Unit)=>some (.done (.inr (.inr 3))))))
   (some (.done (.inl ())))
def G4 (p0_:Dcl):Option (Unit⊕Int) :=
 cond (p0_.kind==3)
   (Option.bind (cond ((J9 (p0_.rcr.params - p0_.params))==0)
   (Option.bind (Jy ((p0_.rcr.rules.length:Int)==(p0_.ctors.length:Int)) 3) (Sum.elim (fun (b0_:Unit)=>some (.inl ())) (fun (b1_:Unit)=>some (.inr (.inr 3)))))
   (cond ((J9 (p0_.rcr.params - p0_.params))==1)
   (Option.bind (Jy ((p0_.rcr.rules.length:Int)==(p0_.ctors.length:Int)) 3) (Sum.elim (fun (b2_:Unit)=>some (.inl ())) (fun (b3_:Unit)=>some (.inr (.inr 3)))))
   (Option.bind (Jy false 3) (Sum.elim (fun (b4_:Unit)=>some (.inl ())) (fun (b5_:Unit)=>some (.inr (.inr 3))))))) (Sum.elim (fun (b6_:Unit)=>Option.bind (Qp (Kh p0_) QF ([p0_.ty],0)) (fun (b7_:(List Tm))=>Option.bind (Qp (ZN b7_ p0_) QF 0) (Sum.elim (fun (b8_:Unit)=>some (.inl ())) (fun o=>some o)))) (fun o=>some o)))
   (some (.inl ()))
def Xy (p0_:Dcl):Option (Unit⊕Int) :=
 Option.bind (cond (decide ((p0_.ctors.length:Int)≤32))
   (cond (!(p0_.kind==4))
   (Option.bind (Jy true 6) (Sum.elim (fun (b0_:Unit)=>some (.inl ())) (fun (b1_:Unit)=>some (.inr (.inr 6)))))
   (cond (decide (1≤(p0_.funs.length:Int)))
   (Option.bind (Jy (decide ((p0_.funs.length:Int)≤8)) 6) (Sum.elim (fun (b2_:Unit)=>some (.inl ())) (fun (b3_:Unit)=>some (.inr (.inr 6)))))
   (Option.bind (Jy false 6) (Sum.elim (fun (b4_:Unit)=>some (.inl ())) (fun (b5_:Unit)=>some (.inr (.inr 6)))))))
   (Option.bind (Jy false 6) (Sum.elim (fun (b6_:Unit)=>some (.inl ())) (fun (b7_:Unit)=>some (.inr (.inr 6)))))) (Sum.elim (fun (b8_:Unit)=>Option.bind (Qp (Ki p0_) QF 0) (Sum.elim (fun (b9_:Unit)=>G4 p0_) (fun o=>some o))) (fun o=>some o))
def Zo (p0_:Dcl):Option (Unit⊕Int) :=
 Option.bind (cond (decide (0≤p0_.params))
   (cond (decide (p0_.params≤8))
   (Option.bind (Jy (decide (0≤p0_.fixed)) 2) (Sum.elim (fun (b0_:Unit)=>some (.inl ())) (fun (b1_:Unit)=>some (.inr (.inr 2)))))
   (Option.bind (Jy false 2) (Sum.elim (fun (b2_:Unit)=>some (.inl ())) (fun (b3_:Unit)=>some (.inr (.inr 2))))))
   (Option.bind (Jy false 2) (Sum.elim (fun (b4_:Unit)=>some (.inl ())) (fun (b5_:Unit)=>some (.inr (.inr 2)))))) (Sum.elim (fun (b6_:Unit)=>Xy p0_) (fun o=>some o))
def G3 (p0_:Dcl) (p1_:Bool):Option (Unit⊕Int) :=
 Option.bind (cond (p0_.kind==3)
   (Option.bind (Jy true 3) (Sum.elim (fun (b0_:Unit)=>some (.inl ())) (fun (b1_:Unit)=>some (.inr (.inr 3)))))
   (cond (p0_.fixed==0)
   (cond ((p0_.ctors.length:Int)==0)
   (Option.bind (Jy p1_ 3) (Sum.elim (fun (b2_:Unit)=>some (.inl ())) (fun (b3_:Unit)=>some (.inr (.inr 3)))))
   (Option.bind (Jy false 3) (Sum.elim (fun (b4_:Unit)=>some (.inl ())) (fun (b5_:Unit)=>some (.inr (.inr 3))))))
   (Option.bind (Jy false 3) (Sum.elim (fun (b6_:Unit)=>some (.inl ())) (fun (b7_:Unit)=>some (.inr (.inr 3))))))) (Sum.elim (fun (b8_:Unit)=>Zo p0_) (fun o=>some o))
def Xx (p0_:Dcl):Option (Unit⊕Int) :=
 Option.bind (cond (!(p0_.kind==4))
   (Option.bind (Jy true 3) (Sum.elim (fun (b0_:Unit)=>some (.inl ())) (fun (b1_:Unit)=>some (.inr (.inr 3)))))
   (cond (p0_.name==([]:List UInt8))
   (Option.bind (DU p0_.ty) fun (b2_:Bool) =>
 Option.bind (Jy b2_ 3) (Sum.elim (fun (b3_:Unit)=>some (.inl ())) (fun (b4_:Unit)=>some (.inr (.inr 3)))))
   (Option.bind (Jy false 3) (Sum.elim (fun (b5_:Unit)=>some (.inl ())) (fun (b6_:Unit)=>some (.inr (.inr 3))))))) (Sum.elim (fun (b7_:Unit)=>Option.bind (cond (p0_.rcr.params==0)
   (Option.bind (DU p0_.rcr.ty) fun (b0_:Bool) =>
 cond b0_
   (some ((p0_.rcr.rules.length:Int)==0))
   (some false))
   (some false)) (fun (b8_:Bool)=>G3 p0_ b8_)) (fun o=>some o))
def Xw (p0_:Dcl):Option (Unit⊕Int) :=
 Option.bind (cond (p0_.kind==4)
   (Option.bind (Jy true 3) (Sum.elim (fun (b0_:Unit)=>some (.inl ())) (fun (b1_:Unit)=>some (.inr (.inr 3)))))
   (Option.bind (Jy ((p0_.funs.length:Int)==0) 3) (Sum.elim (fun (b2_:Unit)=>some (.inl ())) (fun (b3_:Unit)=>some (.inr (.inr 3)))))) (Sum.elim (fun (b4_:Unit)=>Xx p0_) (fun o=>some o))
def GN (p0_:Bool) (p1_:Dcl):Option (Unit⊕Int) :=
 Option.bind (cond p0_
   (Option.bind (Jy true 3) (Sum.elim (fun (b0_:Unit)=>some (.inl ())) (fun (b1_:Unit)=>some (.inr (.inr 3)))))
   (Option.bind (DU p1_.value) fun (b2_:Bool) =>
 Option.bind (Jy b2_ 3) (Sum.elim (fun (b3_:Unit)=>some (.inl ())) (fun (b4_:Unit)=>some (.inr (.inr 3)))))) (Sum.elim (fun (b5_:Unit)=>Xw p1_) (fun o=>some o))
def Un (a0:Dcl):Option (Unit⊕Int) :=
 Option.bind (cond (decide (0≤a0.kind))
   (Option.bind (Jy (decide (a0.kind≤4)) 1) (Sum.elim (fun (x4:Unit)=>some (.inl ())) (fun (x5:Unit)=>some (.inr (.inr 1)))))
   (Option.bind (Jy false 1) (Sum.elim (fun (x7:Unit)=>some (.inl ())) (fun (x8:Unit)=>some (.inr (.inr 1)))))) (Sum.elim (fun (v1:Unit)=>Option.bind (cond (a0.kind==1)
   (some true)
   (some (a0.kind==2))) (fun (v2:Bool)=>GN v2 a0)) (fun o=>some o))
theorem m44f5_ok (a0:Dcl) (r:Unit⊕Int) (h0:Un a0=some r):CallE Try.prog 44 [.agg (cE a0)] ⟨[],[],0⟩ ((Sum.elim (fun (r0:Unit)=>((.ret []):EK)) (fun (r1:Int)=>((.pan (QJ 90 r1)):EK))) r) ⟨((Sum.elim (fun (r0:Unit)=>(⟨[],[],[],1,210,[]⟩:St)) (fun (r1:Int)=>(⟨[],[],[],1,210,[]⟩:St))) r).hp,((Sum.elim (fun (r0:Unit)=>(⟨[],[],[],1,210,[]⟩:St)) (fun (r1:Int)=>(⟨[],[],[],1,210,[]⟩:St))) r).tk,((Sum.elim (fun (r0:Unit)=>(⟨[],[],[],1,210,[]⟩:St)) (fun (r1:Int)=>(⟨[],[],[],1,210,[]⟩:St))) r).nx⟩:=by
 unfold Un at h0
 refine JK r ((Sum.elim (fun (r0:Unit)=>(⟨[],[],[],1,210,[]⟩:St)) (fun (r1:Int)=>(⟨[],[],[],1,210,[]⟩:St)))) ((Sum.elim (fun (r0:Unit)=>((.ret []):EK)) (fun (r1:Int)=>((.pan (QJ 90 r1)):EK)))) rfl rfl en_44 (lb rfl) (fun z_=>by cases z_ with
 | inl _=>exact rfl
 | inr _=>exact rfl) (fun z_=>by cases z_ with
 | inl _=>exact (Du .nil)
 | inr _=>exact DB) (fun w0 M V0 Q hv0 hQ0=>?_)
 simp only [Ja]
 refine Q5<|Q0<|Q9 J J (lb J) (QT J)<|Q3<|Q4<|Q5 ?_
 refine QS (fun (v1:Unit)=>⟨[(1,.v (.one (.ptr 0 0)))],[(0,.cells 45 (cE a0))],[],1,210,[]⟩) (fun (v1:Unit)=>(Option.bind (cond (a0.kind==1)
     (some true)
     (some (a0.kind==2))) (fun (v2:Bool)=>GN v2 a0))=some r) ?_ ?_
 refine Qb h0 (fun w1_ h1 h0=>?_)
 refine Q0<|rR J J J (Q2 Yu J)<|rR J J J (Q6 QU J J J)<|rR J J J (Q7 J J J)<|rM J J J ?_
 refine QG (d:=19) (c:=(decide (0≤a0.kind))) J (fun c2=>?_) (fun c2=>?_)
 replace h1:=Qk c2 h1
 refine rR J J J (Q2 Yu J)<|rR J J J (Q6 QU J J J)<|rR J J J (Q7 J J J)<|rR J J J (Qg J J) ?_
 refine Qb h1 (fun x3 hx3 h1=>?_)
 refine JY id hx3 h1 (fun x4 hx4 h1=>?_) (fun x5 hx5 h1=>?_)
 refine Q9 J J (lb J) (QE J J J (CallE.m (QB (decide (a0.kind≤4)) 1 (.inl x4) hx4)) J)<|Q3 ?_
 have e:=sI h1;subst e
 replace h0:=KZ h0
 exact Qd () (sL (Nat.le_trans hv0 (lb J)) J J J J J) h0
 refine Jf J (QH J J J (CallE.d (QB (decide (a0.kind≤4)) 1 (.inr x5) hx5))) ?_
 have e:=sI h1;subst e
 replace h0:=Gx h0
 have e:=sI h0;subst e
 exact Jo (hQ0 (.panic (Jx (QJ 90 1))) _ ZY J (show StLe _ _ ⟨[],[],[],1,210,[]⟩ from (sL (Nat.le_trans hv0 (lb J)) J J J J J))) (fun _ _ h=>h)
 replace h1:=Ql c2 h1
 refine Q8 J J<|Q8 J J<|Q8 J J<|rR J J J (Qc J J) ?_
 refine Qb h1 (fun x6 hx6 h1=>?_)
 refine JY id hx6 h1 (fun x7 hx7 h1=>?_) (fun x8 hx8 h1=>?_)
 refine Q9 J J (lb J) (QE J J J (CallE.m (QB false 1 (.inl x7) hx7)) J)<|Q3 ?_
 have e:=sI h1;subst e
 replace h0:=KZ h0
 exact Qd () (sL (Nat.le_trans hv0 (lb J)) J J J J J) h0
 refine Jf J (QH J J J (CallE.d (QB false 1 (.inr x8) hx8))) ?_
 have e:=sI h1;subst e
 replace h0:=Gx h0
 have e:=sI h0;subst e
 exact Jo (hQ0 (.panic (Jx (QJ 90 1))) _ ZY J (show StLe _ _ ⟨[],[],[],1,210,[]⟩ from (sL (Nat.le_trans hv0 (lb J)) J J J J J))) (fun _ _ h=>h)
 intro v1 h0
 refine Q4<|Q5 ?_
 refine QS (fun (v9:Bool)=>⟨[(1,.v (.one (.ptr 0 0))),(2,.v (.one (dB v9)))],[(0,.cells 45 (cE a0))],[],1,210,[]⟩) (fun (v9:Bool)=>(GN v9 a0)=some r) ?_ ?_
 refine Qb h0 (fun w1_ h1 h0=>?_)
 refine Q0<|rR J J J (Q2 Yu J)<|rR J J J (Q6 QU J J J)<|rR J J J (Q7 J J J)<|rM J J J ?_
 refine QG (d:=28) (c:=(a0.kind==1)) J (fun c10=>?_) (fun c10=>?_)
 replace h1:=Qk c10 h1
 refine Q8 J J<|Q8 J J<|Q8 J J<|rR J J J (Qg J J)<|rA J J J<|Q3 ?_
 have e:=sI h1;subst e
 exact Qd true (sL (Nat.le_trans hv0 (lb J)) J J J J J) h0
 replace h1:=Ql c10 h1
 refine rR J J J (Q2 Yu J)<|rR J J J (Q6 QU J J J)<|rR J J J (Q7 J J J)<|rR J J J (Qc J J)<|rA J J J<|Q3 ?_
 have e:=sI h1;subst e
 exact Qd (a0.kind==2) (sL (Nat.le_trans hv0 (lb J)) J J J J J) h0
 intro v9 h0
 unfold GN at h0
 refine Q4<|Q5<|Q0<|rR J J J (Q2 Yu J)<|rR J J J (Q6 QU J J J)<|rR J J J (Q7 J J J)<|rA J J J<|Q3<|Q4<|Q5<|Q0<|rR J J J (Q2 Yu J)<|rR J J J (Q6 QU J J J)<|rR J J J (Q7 J J J) ?_
 refine rA J J J<|Q3<|Q4<|Q5 ?_
 refine QS (fun (v11:Unit)=>⟨[(1,.v (.one (.ptr 0 0))),(3,.v (.one (dB (a0.kind==3)))),(4,.v (.one (dB (a0.kind==4))))],[(0,.cells 45 (cE a0))],[],1,210,[]⟩) (fun (v11:Unit)=>(Xw a0)=some r) ?_ ?_
 refine Qb h0 (fun w1_ h1 h0=>?_)
 refine Q0<|rM J J J<|rM J J J ?_
 refine QG (d:=40) (c:=v9) J (fun c12=>?_) (fun c12=>?_)
 replace h1:=Qk c12 h1
 refine Q8 J J<|Q8 J J<|Q8 J J<|rR J J J (Qg J J) ?_
 refine Qb h1 (fun x13 hx13 h1=>?_)
 refine JY id hx13 h1 (fun x14 hx14 h1=>?_) (fun x15 hx15 h1=>?_)
 refine Q9 J J (lb J) (QE J J J (CallE.m (QB true 3 (.inl x14) hx14)) J)<|Q3 ?_
 have e:=sI h1;subst e
 replace h0:=KZ h0
 exact Qd () (sL (Nat.le_trans hv0 (lb J)) J J J J J) h0
 refine Jf J (QH J J J (CallE.d (QB true 3 (.inr x15) hx15))) ?_
 have e:=sI h1;subst e
 replace h0:=Gx h0
 have e:=sI h0;subst e
 exact Jo (hQ0 (.panic (Jx (QJ 90 3))) _ ZY J (show StLe _ _ ⟨[],[],[],1,210,[]⟩ from (sL (Nat.le_trans hv0 (lb J)) J J J J J))) (fun _ _ h=>h)
 replace h1:=Ql c12 h1
 refine rR J J J (Q2 fo_45_4 J)<|rR J J J (Qi QV J J J J) ?_
 refine Qb h1 (fun x16 hx16 h1=>?_)
 refine Q9 J J (lb J) (Qq (UB a0.value x16 hx16) J (.cons (.agg (.cons (.d _) (.cons (.d _) (.cons (.d _) (.cons (.d _) (.cons (.d _) .nil)))))) .nil))<|rR J J J (Qc J J) ?_
 refine Qb h1 (fun x17 hx17 h1=>?_)
 refine JY id hx17 h1 (fun x18 hx18 h1=>?_) (fun x19 hx19 h1=>?_)
 refine Q9 J J (lb J) (QE J J J (CallE.m (QB x16 3 (.inl x18) hx18)) J)<|Q3 ?_
 have e:=sI h1;subst e
 replace h0:=KZ h0
 exact Qd () (sL (Nat.le_trans hv0 (lb J)) J J J J J) h0
 refine Jf J (QH J J J (CallE.d (QB x16 3 (.inr x19) hx19))) ?_
 have e:=sI h1;subst e
 replace h0:=Gx h0
 have e:=sI h0;subst e
 exact Jo (hQ0 (.panic (Jx (QJ 90 3))) _ ZY J (show StLe _ _ ⟨[],[],[],1,210,[]⟩ from (sL (Nat.le_trans hv0 (lb J)) J J J J J))) (fun _ _ h=>h)
 intro v11 h0
 unfold Xw at h0
 refine Q4<|Q5 ?_
 refine QS (fun (v20:Unit)=>⟨[(1,.v (.one (.ptr 0 0))),(3,.v (.one (dB (a0.kind==3)))),(4,.v (.one (dB (a0.kind==4))))],[(0,.cells 45 (cE a0))],[],1,210,[]⟩) (fun (v20:Unit)=>(Xx a0)=some r) ?_ ?_
 refine Qb h0 (fun w1_ h1 h0=>?_)
 refine Q0<|rM J J J<|rM J J J ?_
 refine QG (d:=47) (c:=(a0.kind==4)) J (fun c21=>?_) (fun c21=>?_)
 replace h1:=Qk c21 h1
 refine Q8 J J<|Q8 J J<|Q8 J J<|Q8 J J<|rR J J J (Qg J J) ?_
 refine Qb h1 (fun x22 hx22 h1=>?_)
 refine JY id hx22 h1 (fun x23 hx23 h1=>?_) (fun x24 hx24 h1=>?_)
 refine Q9 J J (lb J) (QE J J J (CallE.m (QB true 3 (.inl x23) hx23)) J)<|Q3 ?_
 have e:=sI h1;subst e
 replace h0:=KZ h0
 exact Qd () (sL (Nat.le_trans hv0 (lb J)) J J J J J) h0
 refine Jf J (QH J J J (CallE.d (QB true 3 (.inr x24) hx24))) ?_
 have e:=sI h1;subst e
 replace h0:=Gx h0
 have e:=sI h0;subst e
 exact Jo (hQ0 (.panic (Jx (QJ 90 3))) _ ZY J (show StLe _ _ ⟨[],[],[],1,210,[]⟩ from (sL (Nat.le_trans hv0 (lb J)) J J J J J))) (fun _ _ h=>h)
 replace h1:=Ql c21 h1
 refine rR J J J (Q2 YC J)<|rR J J J (Q6 K1 J J J)<|rR J J J (QA (α:=Fn) YL J (.d _))<|rR J J J (Q7 J J J)<|rR J J J (Qc J J) ?_
 refine Qb h1 (fun x25 hx25 h1=>?_)
 refine JY id hx25 h1 (fun x26 hx26 h1=>?_) (fun x27 hx27 h1=>?_)
 refine Q9 J J (lb J) (QE J J J (CallE.m (QB ((a0.funs.length:Int)==0) 3 (.inl x26) hx26)) J)<|Q3 ?_
 have e:=sI h1;subst e
 replace h0:=KZ h0
 exact Qd () (sL (Nat.le_trans hv0 (lb J)) J J J J J) h0
 refine Jf J (QH J J J (CallE.d (QB ((a0.funs.length:Int)==0) 3 (.inr x27) hx27))) ?_
 have e:=sI h1;subst e
 replace h0:=Gx h0
 have e:=sI h0;subst e
 exact Jo (hQ0 (.panic (Jx (QJ 90 3))) _ ZY J (show StLe _ _ ⟨[],[],[],1,210,[]⟩ from (sL (Nat.le_trans hv0 (lb J)) J J J J J))) (fun _ _ h=>h)
 intro v20 h0
 unfold Xx at h0
 refine Q4<|Q5 ?_
 refine QS (fun (v28:Unit)=>⟨[(1,.v (.one (.ptr 0 0))),(3,.v (.one (dB (a0.kind==3)))),(4,.v (.one (dB (a0.kind==4))))],[(0,.cells 45 (cE a0))],[],1,210,[]⟩) (fun (v28:Unit)=>(Option.bind (cond (a0.rcr.params==0)
     (Option.bind (DU a0.rcr.ty) fun (x31:Bool) =>
   cond x31
     (some ((a0.rcr.rules.length:Int)==0))
     (some false))
     (some false)) (fun (v29:Bool)=>G3 a0 v29))=some r) ?_ ?_
 refine Qb h0 (fun w1_ h1 h0=>?_)
 refine Q0<|rM J J J<|rR J J J (Ji J)<|rM J J J ?_
 refine QG (d:=56) (c:=(!(a0.kind==4))) J (fun c29=>?_) (fun c29=>?_)
 replace h1:=Qk c29 h1
 refine Q8 J J<|Q8 J J<|Q8 J J<|Q8 J J<|Q8 J J<|Q8 J J<|Q8 J J<|Q8 J J<|rR J J J (Qg J J) ?_
 refine Qb h1 (fun x30 hx30 h1=>?_)
 refine JY id hx30 h1 (fun x31 hx31 h1=>?_) (fun x32 hx32 h1=>?_)
 refine Q9 J J (lb J) (QE J J J (CallE.m (QB true 3 (.inl x31) hx31)) J)<|Q3 ?_
 have e:=sI h1;subst e
 replace h0:=KZ h0
 exact Qd () (sL (Nat.le_trans hv0 (lb J)) J J J J J) h0
 refine Jf J (QH J J J (CallE.d (QB true 3 (.inr x32) hx32))) ?_
 have e:=sI h1;subst e
 replace h0:=Gx h0
 have e:=sI h0;subst e
 exact Jo (hQ0 (.panic (Jx (QJ 90 3))) _ ZY J (show StLe _ _ ⟨[],[],[],1,210,[]⟩ from (sL (Nat.le_trans hv0 (lb J)) J J J J J))) (fun _ _ h=>h)
 replace h1:=Ql c29 h1
 refine rR J J J (Q2 Ym J)<|rR J J J (Q6 JV J J J)<|rR J J J (Xf J J)<|rM J J J ?_
 refine QG (d:=60) (c:=(a0.name==([]:List UInt8))) J (fun c33=>?_) (fun c33=>?_)
 replace h1:=Qk c33 h1
 refine rR J J J (Q2 KF J)<|rR J J J (Qi QV J J J J) ?_
 refine Qb h1 (fun x34 hx34 h1=>?_)
 refine Q9 J J (lb J) (Qq (UB a0.ty x34 hx34) J (.cons (.agg (.cons (.d _) (.cons (.d _) (.cons (.d _) (.cons (.d _) (.cons (.d _) .nil)))))) .nil))<|rR J J J (Qg J J)<|rR J J J (Qc J J) ?_
 refine Qb h1 (fun x35 hx35 h1=>?_)
 refine JY id hx35 h1 (fun x36 hx36 h1=>?_) (fun x37 hx37 h1=>?_)
 refine Q9 J J (lb J) (QE J J J (CallE.m (QB x34 3 (.inl x36) hx36)) J)<|Q3 ?_
 have e:=sI h1;subst e
 replace h0:=KZ h0
 exact Qd () (sL (Nat.le_trans hv0 (lb J)) J J J J J) h0
 refine Jf J (QH J J J (CallE.d (QB x34 3 (.inr x37) hx37))) ?_
 have e:=sI h1;subst e
 replace h0:=Gx h0
 have e:=sI h0;subst e
 exact Jo (hQ0 (.panic (Jx (QJ 90 3))) _ ZY J (show StLe _ _ ⟨[],[],[],1,210,[]⟩ from (sL (Nat.le_trans hv0 (lb J)) J J J J J))) (fun _ _ h=>h)
 replace h1:=Ql c33 h1
 refine Q8 J J<|Q8 J J<|Q8 J J<|rR J J J (Qc J J)<|rR J J J (Qc J J) ?_
 refine Qb h1 (fun x38 hx38 h1=>?_)
 refine JY id hx38 h1 (fun x39 hx39 h1=>?_) (fun x40 hx40 h1=>?_)
 refine Q9 J J (lb J) (QE J J J (CallE.m (QB false 3 (.inl x39) hx39)) J)<|Q3 ?_
 have e:=sI h1;subst e
 replace h0:=KZ h0
 exact Qd () (sL (Nat.le_trans hv0 (lb J)) J J J J J) h0
 refine Jf J (QH J J J (CallE.d (QB false 3 (.inr x40) hx40))) ?_
 have e:=sI h1;subst e
 replace h0:=Gx h0
 have e:=sI h0;subst e
 exact Jo (hQ0 (.panic (Jx (QJ 90 3))) _ ZY J (show StLe _ _ ⟨[],[],[],1,210,[]⟩ from (sL (Nat.le_trans hv0 (lb J)) J J J J J))) (fun _ _ h=>h)
 intro v28 h0
 refine Q4<|Q5 ?_
 refine QS (fun (v41:Bool)=>⟨[(1,.v (.one (.ptr 0 0))),(3,.v (.one (dB (a0.kind==3)))),(4,.v (.one (dB (a0.kind==4)))),(5,.v (.one (dB v41)))],[(0,.cells 45 (cE a0))],[],1,210,[]⟩) (fun (v41:Bool)=>(G3 a0 v41)=some r) ?_ ?_
 refine Qb h0 (fun w1_ h1 h0=>?_)
 refine Q0<|rR J J J (Q2 JT J)<|rR J J J (Q2 Gu J)<|rR J J J (Q6 QU J J J)<|rR J J J (Q7 J J J)<|rM J J J ?_
 refine QG (d:=71) (c:=(a0.rcr.params==0)) J (fun c42=>?_) (fun c42=>?_)
 replace h1:=Qk c42 h1
 refine rR J J J (Q2 JT J)<|rR J J J (Q2 Gt J)<|rR J J J (Qi QV J J J J) ?_
 refine Qb h1 (fun x43 hx43 h1=>?_)
 refine Q9 J J (lb J) (Qq (UB a0.rcr.ty x43 hx43) J (.cons (.agg (.cons (.d _) (.cons (.d _) (.cons (.d _) (.cons (.d _) (.cons (.d _) .nil)))))) .nil))<|rR J J J (Qg J J)<|rM J J J ?_
 refine QG (d:=77) (c:=x43) J (fun c44=>?_) (fun c44=>?_)
 replace h1:=Qk c44 h1
 refine rR J J J (Q2 JT J)<|rR J J J (Q2 KG J)<|rR J J J (Q6 JO J J J)<|rR J J J (QA (α:=Tm) Jl J (.d _))<|rR J J J (Q7 J J J)<|rR J J J (Qg J J)<|rA J J J<|Q3 ?_
 have e:=sI h1;subst e
 exact Qd ((a0.rcr.rules.length:Int)==0) (sL (Nat.le_trans hv0 (lb J)) J J J J J) h0
 replace h1:=Ql c44 h1
 refine Q8 J J<|Q8 J J<|Q8 J J<|Q8 J J<|Q8 J J<|rR J J J (Qc J J)<|rA J J J<|Q3 ?_
 have e:=sI h1;subst e
 exact Qd false (sL (Nat.le_trans hv0 (lb J)) J J J J J) h0
 replace h1:=Ql c42 h1
 refine Q8 J J<|Q8 J J<|Q8 J J<|Q8 J J<|rR J J J (Qc J J)<|rM J J J<|Q8 J J<|Q8 J J<|Q8 J J<|Q8 J J<|Q8 J J<|rR J J J (Qc J J)<|rA J J J<|Q3 ?_
 have e:=sI h1;subst e
 exact Qd false (sL (Nat.le_trans hv0 (lb J)) J J J J J) h0
 intro v41 h0
 unfold G3 at h0
 refine Q4<|Q5 ?_
 refine QS (fun (v45:Unit)=>⟨[(1,.v (.one (.ptr 0 0))),(3,.v (.one (dB (a0.kind==3)))),(4,.v (.one (dB (a0.kind==4))))],[(0,.cells 45 (cE a0))],[],1,210,[]⟩) (fun (v45:Unit)=>(Zo a0)=some r) ?_ ?_
 refine Qb h0 (fun w1_ h1 h0=>?_)
 refine Q0<|rM J J J<|rM J J J ?_
 refine QG (d:=85) (c:=(a0.kind==3)) J (fun c46=>?_) (fun c46=>?_)
 replace h1:=Qk c46 h1
 refine Q8 J J<|Q8 J J<|Q8 J J<|Q8 J J<|Q8 J J<|Q8 J J<|Q8 J J<|Q8 J J<|Q8 J J<|Q8 J J<|Q8 J J<|Q8 J J<|rR J J J (Qg J J) ?_
 refine Qb h1 (fun x47 hx47 h1=>?_)
 refine JY id hx47 h1 (fun x48 hx48 h1=>?_) (fun x49 hx49 h1=>?_)
 refine Q9 J J (lb J) (QE J J J (CallE.m (QB true 3 (.inl x48) hx48)) J)<|Q3 ?_
 have e:=sI h1;subst e
 replace h0:=KZ h0
 exact Qd () (sL (Nat.le_trans hv0 (lb J)) J J J J J) h0
 refine Jf J (QH J J J (CallE.d (QB true 3 (.inr x49) hx49))) ?_
 have e:=sI h1;subst e
 replace h0:=Gx h0
 have e:=sI h0;subst e
 exact Jo (hQ0 (.panic (Jx (QJ 90 3))) _ ZY J (show StLe _ _ ⟨[],[],[],1,210,[]⟩ from (sL (Nat.le_trans hv0 (lb J)) J J J J J))) (fun _ _ h=>h)
 replace h1:=Ql c46 h1
 refine rR J J J (Q2 fo_45_5 J)<|rR J J J (Q6 QU J J J)<|rR J J J (Q7 J J J)<|rM J J J ?_
 refine QG (d:=89) (c:=(a0.fixed==0)) J (fun c50=>?_) (fun c50=>?_)
 replace h1:=Qk c50 h1
 refine rR J J J (Q2 YD J)<|rR J J J (Q6 K2 J J J)<|rR J J J (QA (α:=Ctr) YM J (.d _))<|rR J J J (Q7 J J J)<|rR J J J (Qg J J)<|rM J J J ?_
 refine QG (d:=95) (c:=((a0.ctors.length:Int)==0)) J (fun c51=>?_) (fun c51=>?_)
 replace h1:=Qk c51 h1
 refine rM J J J<|rR J J J (Qg J J)<|rR J J J (Qc J J) ?_
 refine Qb h1 (fun x52 hx52 h1=>?_)
 refine JY id hx52 h1 (fun x53 hx53 h1=>?_) (fun x54 hx54 h1=>?_)
 refine Q9 J J (lb J) (QE J J J (CallE.m (QB v41 3 (.inl x53) hx53)) J)<|Q3 ?_
 have e:=sI h1;subst e
 replace h0:=KZ h0
 exact Qd () (sL (Nat.le_trans hv0 (lb J)) J J J J J) h0
 refine Jf J (QH J J J (CallE.d (QB v41 3 (.inr x54) hx54))) ?_
 have e:=sI h1;subst e
 replace h0:=Gx h0
 have e:=sI h0;subst e
 exact Jo (hQ0 (.panic (Jx (QJ 90 3))) _ ZY J (show StLe _ _ ⟨[],[],[],1,210,[]⟩ from (sL (Nat.le_trans hv0 (lb J)) J J J J J))) (fun _ _ h=>h)
 replace h1:=Ql c51 h1
 refine Q8 J J<|rR J J J (Qc J J)<|rR J J J (Qc J J) ?_
 refine Qb h1 (fun x55 hx55 h1=>?_)
 refine JY id hx55 h1 (fun x56 hx56 h1=>?_) (fun x57 hx57 h1=>?_)
 refine Q9 J J (lb J) (QE J J J (CallE.m (QB false 3 (.inl x56) hx56)) J)<|Q3 ?_
 have e:=sI h1;subst e
 replace h0:=KZ h0
 exact Qd () (sL (Nat.le_trans hv0 (lb J)) J J J J J) h0
 refine Jf J (QH J J J (CallE.d (QB false 3 (.inr x57) hx57))) ?_
 have e:=sI h1;subst e
 replace h0:=Gx h0
 have e:=sI h0;subst e
 exact Jo (hQ0 (.panic (Jx (QJ 90 3))) _ ZY J (show StLe _ _ ⟨[],[],[],1,210,[]⟩ from (sL (Nat.le_trans hv0 (lb J)) J J J J J))) (fun _ _ h=>h)
 replace h1:=Ql c50 h1
 refine Q8 J J<|Q8 J J<|Q8 J J<|Q8 J J<|rR J J J (Qc J J)<|rM J J J<|Q8 J J<|rR J J J (Qc J J)<|rR J J J (Qc J J) ?_
 refine Qb h1 (fun x58 hx58 h1=>?_)
 refine JY id hx58 h1 (fun x59 hx59 h1=>?_) (fun x60 hx60 h1=>?_)
 refine Q9 J J (lb J) (QE J J J (CallE.m (QB false 3 (.inl x59) hx59)) J)<|Q3 ?_
 have e:=sI h1;subst e
 replace h0:=KZ h0
 exact Qd () (sL (Nat.le_trans hv0 (lb J)) J J J J J) h0
 refine Jf J (QH J J J (CallE.d (QB false 3 (.inr x60) hx60))) ?_
 have e:=sI h1;subst e
 replace h0:=Gx h0
 have e:=sI h0;subst e
 exact Jo (hQ0 (.panic (Jx (QJ 90 3))) _ ZY J (show StLe _ _ ⟨[],[],[],1,210,[]⟩ from (sL (Nat.le_trans hv0 (lb J)) J J J J J))) (fun _ _ h=>h)
 intro v45 h0
 unfold Zo at h0
 refine Q4<|Q5 ?_
 refine QS (fun (v61:Unit)=>⟨[(1,.v (.one (.ptr 0 0))),(3,.v (.one (dB (a0.kind==3)))),(4,.v (.one (dB (a0.kind==4))))],[(0,.cells 45 (cE a0))],[],1,210,[]⟩) (fun (v61:Unit)=>(Xy a0)=some r) ?_ ?_
 refine Qb h0 (fun w1_ h1 h0=>?_)
 refine Q0<|rR J J J (Q2 Yl J)<|rR J J J (Q6 QU J J J)<|rR J J J (Q7 J J J)<|rM J J J ?_
 refine QG (d:=103) (c:=(decide (0≤a0.params))) J (fun c62=>?_) (fun c62=>?_)
 replace h1:=Qk c62 h1
 refine rR J J J (Q2 Yl J)<|rR J J J (Q6 QU J J J)<|rR J J J (Q7 J J J)<|rR J J J (Qg J J)<|rM J J J ?_
 refine QG (d:=108) (c:=(decide (a0.params≤8))) J (fun c63=>?_) (fun c63=>?_)
 replace h1:=Qk c63 h1
 refine rR J J J (Q2 fo_45_5 J)<|rR J J J (Q6 QU J J J)<|rR J J J (Q7 J J J)<|rR J J J (Qg J J) ?_
 refine Qb h1 (fun x64 hx64 h1=>?_)
 refine JY id hx64 h1 (fun x65 hx65 h1=>?_) (fun x66 hx66 h1=>?_)
 refine Q9 J J (lb J) (QE J J J (CallE.m (QB (decide (0≤a0.fixed)) 2 (.inl x65) hx65)) J)<|Q3 ?_
 have e:=sI h1;subst e
 replace h0:=KZ h0
 exact Qd () (sL (Nat.le_trans hv0 (lb J)) J J J J J) h0
 refine Jf J (QH J J J (CallE.d (QB (decide (0≤a0.fixed)) 2 (.inr x66) hx66))) ?_
 have e:=sI h1;subst e
 replace h0:=Gx h0
 have e:=sI h0;subst e
 exact Jo (hQ0 (.panic (Jx (QJ 90 2))) _ ZY J (show StLe _ _ ⟨[],[],[],1,210,[]⟩ from (sL (Nat.le_trans hv0 (lb J)) J J J J J))) (fun _ _ h=>h)
 replace h1:=Ql c63 h1
 refine Q8 J J<|Q8 J J<|Q8 J J<|rR J J J (Qc J J) ?_
 refine Qb h1 (fun x67 hx67 h1=>?_)
 refine JY id hx67 h1 (fun x68 hx68 h1=>?_) (fun x69 hx69 h1=>?_)
 refine Q9 J J (lb J) (QE J J J (CallE.m (QB false 2 (.inl x68) hx68)) J)<|Q3 ?_
 have e:=sI h1;subst e
 replace h0:=KZ h0
 exact Qd () (sL (Nat.le_trans hv0 (lb J)) J J J J J) h0
 refine Jf J (QH J J J (CallE.d (QB false 2 (.inr x69) hx69))) ?_
 have e:=sI h1;subst e
 replace h0:=Gx h0
 have e:=sI h0;subst e
 exact Jo (hQ0 (.panic (Jx (QJ 90 2))) _ ZY J (show StLe _ _ ⟨[],[],[],1,210,[]⟩ from (sL (Nat.le_trans hv0 (lb J)) J J J J J))) (fun _ _ h=>h)
 replace h1:=Ql c62 h1
 refine Q8 J J<|Q8 J J<|Q8 J J<|rR J J J (Qc J J)<|rM J J J<|Q8 J J<|Q8 J J<|Q8 J J<|rR J J J (Qc J J) ?_
 refine Qb h1 (fun x70 hx70 h1=>?_)
 refine JY id hx70 h1 (fun x71 hx71 h1=>?_) (fun x72 hx72 h1=>?_)
 refine Q9 J J (lb J) (QE J J J (CallE.m (QB false 2 (.inl x71) hx71)) J)<|Q3 ?_
 have e:=sI h1;subst e
 replace h0:=KZ h0
 exact Qd () (sL (Nat.le_trans hv0 (lb J)) J J J J J) h0
 refine Jf J (QH J J J (CallE.d (QB false 2 (.inr x72) hx72))) ?_
 have e:=sI h1;subst e
 replace h0:=Gx h0
 have e:=sI h0;subst e
 exact Jo (hQ0 (.panic (Jx (QJ 90 2))) _ ZY J (show StLe _ _ ⟨[],[],[],1,210,[]⟩ from (sL (Nat.le_trans hv0 (lb J)) J J J J J))) (fun _ _ h=>h)
 intro v61 h0
 unfold Xy at h0
 refine Q4<|Q5 ?_
 refine QS (fun (v73:Unit)=>⟨[(1,.v (.one (.ptr 0 0))),(3,.v (.one (dB (a0.kind==3))))],[(0,.cells 45 (cE a0))],[],1,210,[]⟩) (fun (v73:Unit)=>(Option.bind (Qp (Ki a0) QF 0) (Sum.elim (fun (o74:Unit)=>G4 a0) (fun o=>some o)))=some r) ?_ ?_
 refine Qb h0 (fun w1_ h1 h0=>?_)
 refine Q0<|rR J J J (Q2 YD J)<|rR J J J (Q6 K2 J J J)<|rR J J J (QA (α:=Ctr) YM J (.d _))<|rR J J J (Q7 J J J)<|rM J J J ?_
 refine QG (d:=118) (c:=(decide ((a0.ctors.length:Int)≤32))) J (fun c74=>?_) (fun c74=>?_)
 replace h1:=Qk c74 h1
 refine rM J J J<|rR J J J (Ji J)<|rM J J J ?_
 refine QG (d:=121) (c:=(!(a0.kind==4))) J (fun c75=>?_) (fun c75=>?_)
 replace h1:=Qk c75 h1
 refine Q8 J J<|Q8 J J<|Q8 J J<|Q8 J J<|Q8 J J<|Q8 J J<|Q8 J J<|Q8 J J<|Q8 J J<|Q8 J J<|rR J J J (Qg J J)<|rR J J J (Qg J J) ?_
 refine Qb h1 (fun x76 hx76 h1=>?_)
 refine JY id hx76 h1 (fun x77 hx77 h1=>?_) (fun x78 hx78 h1=>?_)
 refine Q9 J J (lb J) (QE J J J (CallE.m (QB true 6 (.inl x77) hx77)) J)<|Q3 ?_
 have e:=sI h1;subst e
 replace h0:=KZ h0
 exact Qd () (sL (Nat.le_trans hv0 (lb J)) J J J J J) h0
 refine Jf J (QH J J J (CallE.d (QB true 6 (.inr x78) hx78))) ?_
 have e:=sI h1;subst e
 replace h0:=Gx h0
 have e:=sI h0;subst e
 exact Jo (hQ0 (.panic (Jx (QJ 90 6))) _ ZY J (show StLe _ _ ⟨[],[],[],1,210,[]⟩ from (sL (Nat.le_trans hv0 (lb J)) J J J J J))) (fun _ _ h=>h)
 replace h1:=Ql c75 h1
 refine rR J J J (Q2 YC J)<|rR J J J (Q6 K1 J J J)<|rR J J J (QA (α:=Fn) YL J (.d _))<|rR J J J (Q7 J J J)<|rM J J J ?_
 refine QG (d:=126) (c:=(decide (1≤(a0.funs.length:Int)))) J (fun c79=>?_) (fun c79=>?_)
 replace h1:=Qk c79 h1
 refine rR J J J (Q2 YC J)<|rR J J J (Q6 K1 J J J)<|rR J J J (QA (α:=Fn) YL J (.d _))<|rR J J J (Q7 J J J)<|rR J J J (Qg J J)<|rR J J J (Qc J J)<|rR J J J (Qg J J) ?_
 refine Qb h1 (fun x80 hx80 h1=>?_)
 refine JY id hx80 h1 (fun x81 hx81 h1=>?_) (fun x82 hx82 h1=>?_)
 refine Q9 J J (lb J) (QE J J J (CallE.m (QB (decide ((a0.funs.length:Int)≤8)) 6 (.inl x81) hx81)) J)<|Q3 ?_
 have e:=sI h1;subst e
 replace h0:=KZ h0
 exact Qd () (sL (Nat.le_trans hv0 (lb J)) J J J J J) h0
 refine Jf J (QH J J J (CallE.d (QB (decide ((a0.funs.length:Int)≤8)) 6 (.inr x82) hx82))) ?_
 have e:=sI h1;subst e
 replace h0:=Gx h0
 have e:=sI h0;subst e
 exact Jo (hQ0 (.panic (Jx (QJ 90 6))) _ ZY J (show StLe _ _ ⟨[],[],[],1,210,[]⟩ from (sL (Nat.le_trans hv0 (lb J)) J J J J J))) (fun _ _ h=>h)
 replace h1:=Ql c79 h1
 refine Q8 J J<|Q8 J J<|Q8 J J<|Q8 J J<|rR J J J (Qc J J)<|rR J J J (Qc J J)<|rR J J J (Qg J J) ?_
 refine Qb h1 (fun x83 hx83 h1=>?_)
 refine JY id hx83 h1 (fun x84 hx84 h1=>?_) (fun x85 hx85 h1=>?_)
 refine Q9 J J (lb J) (QE J J J (CallE.m (QB false 6 (.inl x84) hx84)) J)<|Q3 ?_
 have e:=sI h1;subst e
 replace h0:=KZ h0
 exact Qd () (sL (Nat.le_trans hv0 (lb J)) J J J J J) h0
 refine Jf J (QH J J J (CallE.d (QB false 6 (.inr x85) hx85))) ?_
 have e:=sI h1;subst e
 replace h0:=Gx h0
 have e:=sI h0;subst e
 exact Jo (hQ0 (.panic (Jx (QJ 90 6))) _ ZY J (show StLe _ _ ⟨[],[],[],1,210,[]⟩ from (sL (Nat.le_trans hv0 (lb J)) J J J J J))) (fun _ _ h=>h)
 replace h1:=Ql c74 h1
 refine Q8 J J<|Q8 J J<|Q8 J J<|Q8 J J<|Q8 J J<|Q8 J J<|Q8 J J<|Q8 J J<|Q8 J J<|Q8 J J<|Q8 J J<|Q8 J J<|Q8 J J<|Q8 J J ?_
 refine rR J J J (Qc J J) ?_
 refine Qb h1 (fun x86 hx86 h1=>?_)
 refine JY id hx86 h1 (fun x87 hx87 h1=>?_) (fun x88 hx88 h1=>?_)
 refine Q9 J J (lb J) (QE J J J (CallE.m (QB false 6 (.inl x87) hx87)) J)<|Q3 ?_
 have e:=sI h1;subst e
 replace h0:=KZ h0
 exact Qd () (sL (Nat.le_trans hv0 (lb J)) J J J J J) h0
 refine Jf J (QH J J J (CallE.d (QB false 6 (.inr x88) hx88))) ?_
 have e:=sI h1;subst e
 replace h0:=Gx h0
 have e:=sI h0;subst e
 exact Jo (hQ0 (.panic (Jx (QJ 90 6))) _ ZY J (show StLe _ _ ⟨[],[],[],1,210,[]⟩ from (sL (Nat.le_trans hv0 (lb J)) J J J J J))) (fun _ _ h=>h)
 intro v73 h0
 refine Q4<|Q5<|Q5<|Q0<|rR J J J (Q2 YC J)<|rR J J J (Q6 K1 J J J)<|rR J J J (QA (α:=Fn) YL J (.d _))<|rM J J J<|Q3<|Q4<|Qf ?_
 refine QY 0 (fun (o89:Unit)=>⟨[(1,.v (.one (.ptr 0 0))),(3,.v (.one (dB (a0.kind==3))))],[(0,.cells 45 (cE a0))],[],1,210,[]⟩) (fun (o89:Unit)=>(G4 a0)=some r) ?_ ?_
 refine Qb h0 (fun o90 hl1 h0=>?_)
 refine QX (Ki a0) (fun s1=>⟨[(1,.v (.one (.ptr 0 0))),(3,.v (.one (dB (a0.kind==3)))),(136,.v (.one (dS a0.funs))),(137,.v (.one (dI (a0.funs.length:Int)))),(138,.v (.one (dI s1)))],[(0,.cells 45 (cE a0))],[],1,210,[]⟩) 0 o90 (sL (Nat.le_trans hv0 (lb J)) J J J J J) hl1 (fun s1 n1 oo1 h1 ho1=>?_)
 unfold Ki at h1
 refine Q5<|Q0<|rR J J J (Q7 J J J)<|Q3<|Q4<|Q5 ?_
 refine Qh (b:=(decide (s1 < (a0.funs.length:Int)))) J (fun c91=>?_) (fun c91=>?_)
 replace h1:=Qk c91 h1
 refine Qm<|Q4<|Q5<|Qf<|Q5<|Q0 ?_
 refine Qb h1 (fun x92 hx92 h1=>?_)
 refine rR J J J (Qy (α:=Fn) YL J (.d _) J hx92)<|rR J J J (Qv (x92:Fn) ZF J)<|Q9 J J (lb J) (Qj UU J)<|Qx J J (Qz (x92:Fn) ZF J J J J J)<|Q3<|Q4 ?_
 refine QS (fun (v93:Unit)=>⟨[(1,.v (.one (.ptr 0 0))),(3,.v (.one (dB (a0.kind==3)))),(136,.v (.one (dS a0.funs))),(137,.v (.one (dI (a0.funs.length:Int)))),(138,.v (.one (dI s1)))],[(0,.cells 45 (cE a0)),(1,.cells 76 (cE x92))],[],2,210,[]⟩) (fun (v93:Unit)=>(some (.next (J9 (s1+1))))=some oo1) ?_ ?_
 refine Qb h1 (fun w2_ h2 h1=>?_)
 refine Q0<|rR J J J (Q2 fo_76_2 J)<|rR J J J (Q6 QU J J J)<|rR J J J (Q7 J J J)<|rM J J J ?_
 refine QG (d:=145) (c:=(decide (1≤x92.arity))) J (fun c94=>?_) (fun c94=>?_)
 replace h2:=Qk c94 h2
 refine rR J J J (Q2 fo_76_2 J)<|rR J J J (Q6 QU J J J)<|rR J J J (Q7 J J J)<|rR J J J (Qg J J) ?_
 refine Qb h2 (fun x95 hx95 h2=>?_)
 refine JY id hx95 h2 (fun x96 hx96 h2=>?_) (fun x97 hx97 h2=>?_)
 refine Q9 J J (lb J) (QE J J J (CallE.m (QB (decide (x92.arity≤16)) 3 (.inl x96) hx96)) J)<|Q3 ?_
 have e:=sI h2;subst e
 replace h1:=KZ h1
 exact Qd () (sL (Nat.le_trans hv0 (lb J)) J J J J J) h1
 refine Jf J (QH J J J (CallE.d (QB (decide (x92.arity≤16)) 3 (.inr x97) hx97))) ?_
 have e:=sI h2;subst e
 replace h1:=Gx h1
 have e:=sI h1;subst e
 have e_:_=_:=ho1
 subst e_
 try dsimp only [Sum.elim_inl,Sum.elim_inr] at h0
 have e:=sI h0;subst e
 exact Jo (hQ0 (.panic (Jx (QJ 90 3))) _ ZY J (show StLe _ _ ⟨[],[],[],1,210,[]⟩ from (sL (Nat.le_trans hv0 (lb J)) J J J J J))) (fun _ _ h=>h)
 replace h2:=Ql c94 h2
 refine Q8 J J<|Q8 J J<|Q8 J J<|rR J J J (Qc J J) ?_
 refine Qb h2 (fun x98 hx98 h2=>?_)
 refine JY id hx98 h2 (fun x99 hx99 h2=>?_) (fun x100 hx100 h2=>?_)
 refine Q9 J J (lb J) (QE J J J (CallE.m (QB false 3 (.inl x99) hx99)) J)<|Q3 ?_
 have e:=sI h2;subst e
 replace h1:=KZ h1
 exact Qd () (sL (Nat.le_trans hv0 (lb J)) J J J J J) h1
 refine Jf J (QH J J J (CallE.d (QB false 3 (.inr x100) hx100))) ?_
 have e:=sI h2;subst e
 replace h1:=Gx h1
 have e:=sI h1;subst e
 have e_:_=_:=ho1
 subst e_
 try dsimp only [Sum.elim_inl,Sum.elim_inr] at h0
 have e:=sI h0;subst e
 exact Jo (hQ0 (.panic (Jx (QJ 90 3))) _ ZY J (show StLe _ _ ⟨[],[],[],1,210,[]⟩ from (sL (Nat.le_trans hv0 (lb J)) J J J J J))) (fun _ _ h=>h)
 intro v93 h1
 refine Qe<|Q4<|Q0<|rR J J J (Q7 J J J)<|rM J J J<|Q3 ?_
 have e:=sI h1;subst e
 refine QR (J9 (s1+1)) (sL (Nat.le_trans hv0 (lb J)) J J J J J) ho1
 replace h1:=Ql c91 h1
 refine J5<|Qo<|Qo ?_
 have e:=sI h1;subst e
 have e_:_=_:=ho1
 subst e_
 exact QW () (sL (Nat.le_trans hv0 (lb J)) J J J J J) h0
 intro o89 h0
 unfold G4 at h0
 refine QM<|Q4<|Q5<|Q0<|rM J J J<|Q3<|Q4 ?_
 refine Qh (b:=(a0.kind==3)) J (fun c101=>?_) (fun c101=>?_)
 replace h0:=Qk c101 h0
 refine Q5<|Q0<|rR J J J (Q2 JT J)<|rR J J J (Q2 Gu J)<|rR J J J (Q6 QU J J J)<|rR J J J (Q2 Yl J)<|rR J J J (Q6 QU J J J)<|rR J J J (Q7 J J J)<|rA J J J<|Q3<|Q4<|Q5 ?_
 refine QS (fun (v102:Unit)=>⟨[(1,.v (.one (.ptr 0 0)))],[(0,.cells 45 (cE a0))],[],1,210,[]⟩) (fun (v102:Unit)=>(Option.bind (Qp (Kh a0) QF ([a0.ty],0)) (fun (o103:(List Tm))=>Option.bind (Qp (ZN o103 a0) QF 0) (Sum.elim (fun (o104:Unit)=>some (.inl ())) (fun o=>some o))))=some r) ?_ ?_
 refine Qb h0 (fun w1_ h1 h0=>?_)
 refine Q0<|rM J J J<|rR J J J (Q7 J J J)<|rM J J J ?_
 refine QG (d:=161) (c:=((J9 (a0.rcr.params - a0.params))==0)) J (fun c103=>?_) (fun c103=>?_)
 replace h1:=Qk c103 h1
 refine Q8 J J<|Q8 J J<|rR J J J (Qg J J)<|rM J J J<|rR J J J (Q2 JT J)<|rR J J J (Q2 KG J)<|rR J J J (Q6 JO J J J)<|rR J J J (QA (α:=Tm) Jl J (.d _))<|rR J J J (Q2 YD J)<|rR J J J (Q6 K2 J J J)<|rR J J J (QA (α:=Ctr) YM J (.d _))<|rR J J J (Q7 J J J)<|rR J J J (Qg J J) ?_
 refine Qb h1 (fun x104 hx104 h1=>?_)
 refine JY id hx104 h1 (fun x105 hx105 h1=>?_) (fun x106 hx106 h1=>?_)
 refine Q9 J J (lb J) (QE J J J (CallE.m (QB ((a0.rcr.rules.length:Int)==(a0.ctors.length:Int)) 3 (.inl x105) hx105)) J)<|Q3 ?_
 have e:=sI h1;subst e
 replace h0:=KZ h0
 exact Qd () (sL (Nat.le_trans hv0 (lb J)) J J J J J) h0
 refine Jf J (QH J J J (CallE.d (QB ((a0.rcr.rules.length:Int)==(a0.ctors.length:Int)) 3 (.inr x106) hx106))) ?_
 have e:=sI h1;subst e
 replace h0:=Gx h0
 have e:=sI h0;subst e
 exact Jo (hQ0 (.panic (Jx (QJ 90 3))) _ ZY J (show StLe _ _ ⟨[],[],[],1,210,[]⟩ from (sL (Nat.le_trans hv0 (lb J)) J J J J J))) (fun _ _ h=>h)
 replace h1:=Ql c103 h1
 refine rM J J J<|rR J J J (Q7 J J J)<|rR J J J (Qc J J)<|rM J J J ?_
 refine QG (d:=165) (c:=((J9 (a0.rcr.params - a0.params))==1)) J (fun c107=>?_) (fun c107=>?_)
 replace h1:=Qk c107 h1
 refine rR J J J (Q2 JT J)<|rR J J J (Q2 KG J)<|rR J J J (Q6 JO J J J)<|rR J J J (QA (α:=Tm) Jl J (.d _))<|rR J J J (Q2 YD J)<|rR J J J (Q6 K2 J J J)<|rR J J J (QA (α:=Ctr) YM J (.d _))<|rR J J J (Q7 J J J)<|rR J J J (Qg J J) ?_
 refine Qb h1 (fun x108 hx108 h1=>?_)
 refine JY id hx108 h1 (fun x109 hx109 h1=>?_) (fun x110 hx110 h1=>?_)
 refine Q9 J J (lb J) (QE J J J (CallE.m (QB ((a0.rcr.rules.length:Int)==(a0.ctors.length:Int)) 3 (.inl x109) hx109)) J)<|Q3 ?_
 have e:=sI h1;subst e
 replace h0:=KZ h0
 exact Qd () (sL (Nat.le_trans hv0 (lb J)) J J J J J) h0
 refine Jf J (QH J J J (CallE.d (QB ((a0.rcr.rules.length:Int)==(a0.ctors.length:Int)) 3 (.inr x110) hx110))) ?_
 have e:=sI h1;subst e
 replace h0:=Gx h0
 have e:=sI h0;subst e
 exact Jo (hQ0 (.panic (Jx (QJ 90 3))) _ ZY J (show StLe _ _ ⟨[],[],[],1,210,[]⟩ from (sL (Nat.le_trans hv0 (lb J)) J J J J J))) (fun _ _ h=>h)
 replace h1:=Ql c107 h1
 refine Q8 J J<|Q8 J J<|Q8 J J<|Q8 J J<|Q8 J J<|Q8 J J<|Q8 J J<|Q8 J J<|rR J J J (Qc J J) ?_
 refine Qb h1 (fun x111 hx111 h1=>?_)
 refine JY id hx111 h1 (fun x112 hx112 h1=>?_) (fun x113 hx113 h1=>?_)
 refine Q9 J J (lb J) (QE J J J (CallE.m (QB false 3 (.inl x112) hx112)) J)<|Q3 ?_
 have e:=sI h1;subst e
 replace h0:=KZ h0
 exact Qd () (sL (Nat.le_trans hv0 (lb J)) J J J J J) h0
 refine Jf J (QH J J J (CallE.d (QB false 3 (.inr x113) hx113))) ?_
 have e:=sI h1;subst e
 replace h0:=Gx h0
 have e:=sI h0;subst e
 exact Jo (hQ0 (.panic (Jx (QJ 90 3))) _ ZY J (show StLe _ _ ⟨[],[],[],1,210,[]⟩ from (sL (Nat.le_trans hv0 (lb J)) J J J J J))) (fun _ _ h=>h)
 intro v102 h0
 refine Q4<|Q5<|Q0<|rR J J J (Q2 KF J)<|rR J J J (Qi QV J J J J)<|Q9 J J (lb J) (Y4 (α:=Tm) (a0.ty) Jl K4 J J (lb J) (lb J) J J (.cons (.d _) (.cons (.d _) (.cons (.d _) (.cons (.d _) (.cons (.d _) .nil))))) J)<|rA J J J<|Q3<|Q4<|Q5<|Q5<|Q0<|rR J J J (Q2 YD J)<|rR J J J (Q6 K2 J J J) ?_
 refine rR J J J (QA (α:=Ctr) YM J (.d _))<|rM J J J<|Q3<|Q4<|Qf ?_
 refine QY 2 (fun (o114:(List Tm))=>⟨[(1,.v (.one (.ptr 0 0))),(9,.v (.one (dA 1 o114)))],[(0,.cells 45 (cE a0))],[(1,some ⟨33,5,(Enc.encL o114).length,[]⟩)],2,210,[]⟩) (fun (o114:(List Tm))=>(Option.bind (Qp (ZN o114 a0) QF 0) (Sum.elim (fun (o115:Unit)=>some (.inl ())) (fun o=>some o)))=some r) ?_ ?_
 refine Qb h0 (fun o115 hl1 h0=>?_)
 refine QX (Kh a0) (fun s1=>⟨[(1,.v (.one (.ptr 0 0))),(9,.v (.one (dA 1 s1.1))),(180,.v (.one (dS a0.ctors))),(181,.v (.one (dI (a0.ctors.length:Int)))),(182,.v (.one (dI s1.2)))],[(0,.cells 45 (cE a0))],[(1,some ⟨33,5,(Enc.encL s1.1).length,[]⟩)],2,210,[]⟩) ([a0.ty],0) o115 (sL (Nat.le_trans hv0 (lb J)) J J J J J) hl1 (fun s1 n1 oo1 h1 ho1=>?_)
 unfold Kh at h1
 refine Q5<|Q0<|rR J J J (Q7 J J J)<|Q3<|Q4<|Q5 ?_
 refine Qh (b:=(decide (s1.2 < (a0.ctors.length:Int)))) J (fun c116=>?_) (fun c116=>?_)
 replace h1:=Qk c116 h1
 refine Qm<|Q4<|Q5<|Qf<|Q5<|Q0 ?_
 refine Qb h1 (fun x117 hx117 h1=>?_)
 refine rR J J J (Qy (α:=Ctr) YM J (.d _) J hx117)<|rR J J J (Qv (x117:Ctr) K0 J)<|Q9 J J (lb J) (Qj UV J)<|Qx J J (Qz (x117:Ctr) K0 J J J J J)<|Q3<|Q4<|Q0<|rM J J J<|rR J J J (Q2 KE J)<|rR J J J (Qi QV J J J J)<|Q9 J J (lb J) (Y4 (α:=Tm) (x117.ty) Jl K4 J J (lb J) (lb J) J J (.cons (.d _) (.cons (.d _) (.cons (.d _) (.cons (.d _) (.cons (.d _) .nil))))) J) ?_
 refine Yo h1 (fun g118 h1=>?_)
 refine Q9 J J (lb J) (Y5 (α:=Tm) Jl D9 J J J J J (.app _ _) g118)<|rA J J J<|Q3<|Qe<|Q4<|Q0<|rR J J J (Q7 J J J)<|rM J J J<|Q3 ?_
 have e:=sI h1;subst e
 refine QR ((s1.1++([x117.ty])),(J9 (s1.2+1))) (sL (Nat.le_trans hv0 (lb J)) J J J J J) ho1
 replace h1:=Ql c116 h1
 refine J5<|Qo<|Qo ?_
 have e:=sI h1;subst e
 have e_:_=_:=ho1
 subst e_
 exact QW s1.1 (sL (Nat.le_trans hv0 (lb J)) J J J J J) h0
 intro o114 h0
 refine QM<|Q4<|Q5<|Q0<|rM J J J<|rR J J J (QA (α:=Tm) Jl J (.app _ _))<|rM J J J<|Q3<|Q4<|Qf ?_
 refine QY 4 (fun (o119:Unit)=>⟨[],[(0,.cells 45 (cE a0))],[(1,some ⟨33,5,(Enc.encL o114).length,[]⟩)],2,210,[]⟩) (fun (o119:Unit)=>(some (.inl ()))=some r) ?_ ?_
 refine Qb h0 (fun o120 hl1 h0=>?_)
 refine QX (ZN o114 a0) (fun s1=>⟨[(1,.v (.one (.ptr 0 0))),(192,.v (.one (dA 1 o114))),(193,.v (.one (dI (o114.length:Int)))),(194,.v (.one (dI s1)))],[(0,.cells 45 (cE a0))],[(1,some ⟨33,5,(Enc.encL o114).length,[]⟩)],2,210,[]⟩) 0 o120 (sL (Nat.le_trans hv0 (lb J)) J J J J J) hl1 (fun s1 n1 oo1 h1 ho1=>?_)
 unfold ZN at h1
 refine Q5<|Q0<|rR J J J (Q7 J J J)<|Q3<|Q4<|Q5 ?_
 refine Qh (b:=(decide (s1 < (o114.length:Int)))) J (fun c121=>?_) (fun c121=>?_)
 replace h1:=Qk c121 h1
 refine Qm<|Q4<|Q5<|Qf<|Q5<|Q0 ?_
 refine Qb h1 (fun x122 hx122 h1=>?_)
 refine rR J J J (Qy (α:=Tm) Jl J (.app _ _) J hx122)<|rR J J J (Qv (x122:Tm) QV J)<|Q9 J J (lb J) (Qj K4 J)<|Qx J J (Qz (x122:Tm) QV J J J J J)<|Q3<|Q4<|Q5<|Q0<|rR J J J (QN (x122:Tm) QV J J) ?_
 refine Qb h1 (fun x123 hx123 h1=>?_)
 refine Q9 J J (lb J) (Qq (m64_ok x122 x123 hx123) J (.cons (.agg (.cons (.d _) (.cons (.d _) (.cons (.d _) (.cons (.d _) (.cons (.d _) .nil)))))) .nil))<|rM J J J<|rR J J J (J8 J J)<|rR J J J (J8 J J)<|Q9 J J (lb J) (Qj K4 J)<|rA J J J<|Qx J J (Qz (x123.2:Tm) QV J J J J J)<|Q3<|Q4<|Q0<|rM J J J<|rR J J J (QA (α:=Tm) Jl J (.d _))<|rR J J J (Q2 fo_45_5 J)<|rR J J J (Q6 QU J J J) ?_
 refine rR J J J (Q7 J J J) ?_
 refine Qb h1 (fun x124 hx124 h1=>?_)
 refine JY id hx124 h1 (fun x125 hx125 h1=>?_) (fun x126 hx126 h1=>?_)
 refine Q9 J J (lb J) (QE J J J (CallE.m (QB (decide (a0.fixed≤(x123.1.length:Int))) 3 (.inl x125) hx125)) J)<|Q3<|Qe<|Q4<|Q0<|rR J J J (Q7 J J J)<|rM J J J<|Q3 ?_
 have e:=sI h1;subst e
 refine QR (J9 (s1+1)) (sL (Nat.le_trans hv0 (lb J)) J J J J J) ho1
 refine Jf J (QH J J J (CallE.d (QB (decide (a0.fixed≤(x123.1.length:Int))) 3 (.inr x126) hx126))) ?_
 have e:=sI h1;subst e
 have e_:_=_:=ho1
 subst e_
 try dsimp only [Sum.elim_inl,Sum.elim_inr] at h0
 have e:=sI h0;subst e
 exact Jo (hQ0 (.panic (Jx (QJ 90 3))) _ ZY J (show StLe _ _ ⟨[],[],[],1,210,[]⟩ from (sL (Nat.le_trans hv0 (lb J)) J J J J J))) (fun _ _ h=>h)
 replace h1:=Ql c121 h1
 refine J5<|Qo<|Qo ?_
 have e:=sI h1;subst e
 have e_:_=_:=ho1
 subst e_
 exact QW () (sL (Nat.le_trans hv0 (lb J)) J J J J J) h0
 intro o119 h0
 refine QM ?_
 have e:=sI h0;subst e
 exact hQ0 _ _ byN J (show StLe _ _ ⟨[],[],[],1,210,[]⟩ from (sL (Nat.le_trans hv0 (lb J)) J J J J J))
 replace h0:=Ql c101 h0
 refine Qm ?_
 have e:=sI h0;subst e
 exact hQ0 _ _ byN J (show StLe _ _ ⟨[],[],[],1,210,[]⟩ from (sL (Nat.le_trans hv0 (lb J)) J J J J J))
noncomputable def G2 (x1:(List Bs)) (a2:Qa Bs Ent) (s1:Int×(Qa Bs Bool)):Option (LO (Int×(Qa Bs Bool)) (((Qa Bs Bool))⊕(Unit⊕Int))) :=
 cond (decide (s1.1 < (x1.length:Int)))
   (Option.bind (JC x1 s1.1) fun (x4:Bs) =>
 Option.bind (m65 x4) fun (x5:Bool) =>
 Option.bind (Jy x5 29) (Sum.elim (fun (x7:Unit)=>Option.bind (cond (!(YE a2 x4))
   (Option.bind (Jy (!(Qn s1.2 x4)) 8) (Sum.elim (fun (x12:Unit)=>some (.inl ())) (fun (x13:Unit)=>some (.inr (.inr 8)))))
   (Option.bind (Jy false 8) (Sum.elim (fun (x15:Unit)=>some (.inl ())) (fun (x16:Unit)=>some (.inr (.inr 8)))))) (Sum.elim (fun (v9:Unit)=>some (.next ((J9 (s1.1+1)),(J2 s1.2 x4 true)))) (fun o=>some (.done (.inr o))))) (fun (x8:Unit)=>some (.done (.inr (.inr 29))))))
   (some (.done (.inl s1.2)))
noncomputable abbrev m45f7_h0 (p0_:Qa Bs Ent) (p1_:Bs):HB :=
 .cells 35 [dI ((Qn p0_ p1_).kind),dI ((Qn p0_ p1_).decl),dI ((Qn p0_ p1_).item),dI ((Qn p0_ p1_).params),dI (((Qn p0_ p1_).ty).kind),dI (((Qn p0_ p1_).ty).index),Jn (((Qn p0_ p1_).ty).name),dS (((Qn p0_ p1_).ty).levels:List Lvl),dS (((Qn p0_ p1_).ty).kids:List Tm)]
noncomputable abbrev m45f7_h1 (p0_:List Dcl) (p1_:Qa Bs Ent) (p2_:Dcl) (p3_:Int×(Qa Bs Bool)) (p4_:Bs):List (Nat×HB) :=
 [(0,.cells 62 [dS p0_,.mp 1]),(1,.mp (QO p1_.1) p1_.2),(2,.cells 45 (cE p2_)),(3,.mp (QO p3_.2.1) p3_.2.2),(4,m45f7_h0 p1_ p4_)]
noncomputable def D5 (a0:Dcl) (a1:List Dcl) (a2:Qa Bs Ent):Option (Unit⊕Int) :=
 Option.bind (m20 a0) fun (x1:(List Bs)) =>
 Option.bind (Qp (G2 x1 a2) QF (0,gmNil)) (Sum.elim (fun (o2:(Qa Bs Bool))=>some (.inl ())) (fun o=>some o))
theorem m45f7_ok (a0:Dcl) (a1:List Dcl) (a2:Qa Bs Ent) (r:Unit⊕Int) (h0:D5 a0 a1 a2=some r):CallE Try.prog 45 [.one (.ptr 0 0),.agg (cE a0)] ⟨[(0,.cells 62 [dS a1,.mp 1]),(1,.mp (QO a2.1) a2.2)],[],2⟩ ((Sum.elim (fun (r0:Unit)=>((.ret []):EK)) (fun (r1:Int)=>((.pan (QJ 90 r1)):EK))) r) ⟨((Sum.elim (fun (r0:Unit)=>(⟨[],[(0,.cells 62 [dS a1,.mp 1]),(1,.mp (QO a2.1) a2.2)],[],4,41,[]⟩:St)) (fun (r1:Int)=>(⟨[],[(0,.cells 62 [dS a1,.mp 1]),(1,.mp (QO a2.1) a2.2)],[],4,41,[]⟩:St))) r).hp,((Sum.elim (fun (r0:Unit)=>(⟨[],[(0,.cells 62 [dS a1,.mp 1]),(1,.mp (QO a2.1) a2.2)],[],4,41,[]⟩:St)) (fun (r1:Int)=>(⟨[],[(0,.cells 62 [dS a1,.mp 1]),(1,.mp (QO a2.1) a2.2)],[],4,41,[]⟩:St))) r).tk,((Sum.elim (fun (r0:Unit)=>(⟨[],[(0,.cells 62 [dS a1,.mp 1]),(1,.mp (QO a2.1) a2.2)],[],4,41,[]⟩:St)) (fun (r1:Int)=>(⟨[],[(0,.cells 62 [dS a1,.mp 1]),(1,.mp (QO a2.1) a2.2)],[],4,41,[]⟩:St))) r).nx⟩:=by
 unfold D5 at h0
 refine JK r ((Sum.elim (fun (r0:Unit)=>(⟨[],[(0,.cells 62 [dS a1,.mp 1]),(1,.mp (QO a2.1) a2.2)],[],4,41,[]⟩:St)) (fun (r1:Int)=>(⟨[],[(0,.cells 62 [dS a1,.mp 1]),(1,.mp (QO a2.1) a2.2)],[],4,41,[]⟩:St)))) ((Sum.elim (fun (r0:Unit)=>((.ret []):EK)) (fun (r1:Int)=>((.pan (QJ 90 r1)):EK)))) rfl rfl en_45 (lb rfl) (fun z_=>by cases z_ with
 | inl _=>exact rfl
 | inr _=>exact rfl) (fun z_=>by cases z_ with
 | inl _=>exact (Du .nil)
 | inr _=>exact DB) (fun w0 M V0 Q hv0 hQ0=>?_)
 simp only [Ja]
 refine Q5<|Q0<|Q9 J J (lb J) (QT J)<|Q3<|Q4<|Q5<|Q0<|Q9 J J (lb J) (Z4 Bs Bool)<|rA J J J<|Q3<|Q4<|Q5<|Q0<|rR J J J (QN (a0:Dcl) JX J J) ?_
 refine Qb h0 (fun x1 hx1 h0=>?_)
 refine Q9 J J (lb J) (Qq (m20_ok a0 x1 hx1) J (.cons (.agg (.cons (.d _) (.cons (.d _) (.cons (.d _) (.cons (.d _) (.cons (.d _) (.cons (.d _) (.cons (.d _) (.cons (.d _) (.cons (.d _) (.cons (.d _) (.cons (.d _) (.cons (.d _) (.cons (.d _) (.cons (.d _) (.cons (.d _) (.cons (.d _) (.cons (.d _) (.cons (.d _) (.cons (.d _) (.cons (.d _) (.cons (.d _) (.cons (.d _) (.cons (.d _) .nil)))))))))))))))))))))))) .nil))<|rR J J J (QA (α:=Bs) Yc J (.d _))<|rM J J J<|Q3<|Q4<|Qf ?_
 refine QY 0 (fun (o2:(Qa Bs Bool))=>⟨[],[(0,.cells 62 [dS a1,.mp 1]),(1,.mp (QO a2.1) a2.2),(2,.cells 45 (cE a0)),(3,.mp (QO o2.1) o2.2)],[],4,41,[]⟩) (fun (o2:(Qa Bs Bool))=>(some (.inl ()))=some r) ?_ ?_
 refine Qb h0 (fun o3 hl1 h0=>?_)
 refine QX (G2 x1 a2) (fun s1=>⟨[(0,.v (.one (.ptr 0 0))),(4,.v (.one (.mp 3))),(11,.v (.one (dS x1))),(12,.v (.one (dI (x1.length:Int)))),(13,.v (.one (dI s1.1)))],[(0,.cells 62 [dS a1,.mp 1]),(1,.mp (QO a2.1) a2.2),(2,.cells 45 (cE a0)),(3,.mp (QO s1.2.1) s1.2.2)],[],4,41,[]⟩) (0,gmNil) o3 (Qu (tA J) (hA J) kZ J (Nat.le_trans hv0 (lb J)) J J J (bB J J (bG J (bB J J (bG J bZ)))) J J) hl1 (fun s1 n1 oo1 h1 ho1=>?_)
 unfold G2 at h1
 refine Q5<|Q0<|rR J J J (Q7 J J J)<|Q3<|Q4<|Q5 ?_
 refine Qh (b:=(decide (s1.1 < (x1.length:Int)))) J (fun c4=>?_) (fun c4=>?_)
 replace h1:=Qk c4 h1
 refine Qm<|Q4<|Q5<|Qf<|Q5<|Q0 ?_
 refine Qb h1 (fun x5 hx5 h1=>?_)
 refine rR J J J (Qy (α:=Bs) Yc J (.d _) J hx5)<|rR J J J (JQ JV J J)<|rA J J J<|Q3<|Q4<|Q5<|Q0<|rM J J J ?_
 refine Qb h1 (fun x6 hx6 h1=>?_)
 refine Q9 J J (lb J) (Qq (m65_ok x5 x6 hx6) J (.cons (.one (.d _)) .nil)) ?_
 refine Qb h1 (fun x7 hx7 h1=>?_)
 refine JY id hx7 h1 (fun x8 hx8 h1=>?_) (fun x9 hx9 h1=>?_)
 refine Q9 J J (lb J) (QE J J J (CallE.m (QB x6 29 (.inl x8) hx8)) J)<|Q3<|Q4<|Q5<|Q0<|rM J J J<|rR J J J (Ju J)<|rR J J J (Q2 Kf J)<|rR J J J (Q6 YA J J J)<|rM J J J<|rR J J J (ZG (M:=a2) (k:=x5) YP Kz J J J)<|rM J J J<|rR J J J (J8 J J)<|rR J J J (J8 J J) ?_
 refine Q9 J J (lb J) (Qj Zl J)<|Qx J J (Qt Jm J J J J (lb J) J)<|rA J J J<|Q3<|Q4<|Q5 ?_
 refine QS (fun (v10:Unit)=>⟨[(0,.v (.one (.ptr 0 0))),(4,.v (.one (.mp 3))),(6,.v (.one (Jn x5))),(11,.v (.one (dS x1))),(12,.v (.one (dI (x1.length:Int)))),(13,.v (.one (dI s1.1)))],m45f7_h1 a1 a2 a0 s1 x5,[],5,41,[]⟩) (fun (v10:Unit)=>(some (.next ((J9 (s1.1+1)),(J2 s1.2 x5 true))))=some oo1) ?_ ?_
 refine Qb h1 (fun w2_ h2 h1=>?_)
 refine Q0<|rM J J J<|rR J J J (Ji J)<|rM J J J ?_
 refine QG (d:=31) (c:=(!(YE a2 x5))) J (fun c11=>?_) (fun c11=>?_)
 replace h2:=Qk c11 h2
 refine rM J J J<|rM J J J<|rR J J J (YT (M:=s1.2) (k:=x5) Xp Xk J J J)<|rR J J J (Ji J)<|rR J J J (Qg J J) ?_
 refine Qb h2 (fun x12 hx12 h2=>?_)
 refine JY id hx12 h2 (fun x13 hx13 h2=>?_) (fun x14 hx14 h2=>?_)
 refine Q9 J J (lb J) (QE J J J (CallE.m (QB (!(Qn s1.2 x5)) 8 (.inl x13) hx13)) J)<|Q3 ?_
 have e:=sI h2;subst e
 replace h1:=KZ h1
 exact Qd () (Qu (tA J) (hA J) kZ J (Nat.le_trans hv0 (lb J)) J J J (bB J J (bG J (bB J J (bG J (bA J))))) J J) h1
 refine Jf J (QH J J J (CallE.d (QB (!(Qn s1.2 x5)) 8 (.inr x14) hx14))) ?_
 have e:=sI h2;subst e
 replace h1:=Gx h1
 have e:=sI h1;subst e
 have e_:_=_:=ho1
 subst e_
 try dsimp only [Sum.elim_inl,Sum.elim_inr] at h0
 have e:=sI h0;subst e
 exact Jo (hQ0 (.panic (Jx (QJ 90 8))) _ ZY J (show StLe _ _ ⟨[],[(0,.cells 62 [dS a1,.mp 1]),(1,.mp (QO a2.1) a2.2)],[],4,41,[]⟩ from (Qu tZ (hA J) kZ J (Nat.le_trans hv0 (lb J)) J J J (bB J J (bG J bZ)) J J))) (fun _ _ h=>h)
 replace h2:=Ql c11 h2
 refine Q8 J J<|Q8 J J<|Q8 J J<|Q8 J J<|rR J J J (Qc J J) ?_
 refine Qb h2 (fun x15 hx15 h2=>?_)
 refine JY id hx15 h2 (fun x16 hx16 h2=>?_) (fun x17 hx17 h2=>?_)
 refine Q9 J J (lb J) (QE J J J (CallE.m (QB false 8 (.inl x16) hx16)) J)<|Q3 ?_
 have e:=sI h2;subst e
 replace h1:=KZ h1
 exact Qd () (Qu (tA J) (hA J) kZ J (Nat.le_trans hv0 (lb J)) J J J (bB J J (bG J (bB J J (bG J (bA J))))) J J) h1
 refine Jf J (QH J J J (CallE.d (QB false 8 (.inr x17) hx17))) ?_
 have e:=sI h2;subst e
 replace h1:=Gx h1
 have e:=sI h1;subst e
 have e_:_=_:=ho1
 subst e_
 try dsimp only [Sum.elim_inl,Sum.elim_inr] at h0
 have e:=sI h0;subst e
 exact Jo (hQ0 (.panic (Jx (QJ 90 8))) _ ZY J (show StLe _ _ ⟨[],[(0,.cells 62 [dS a1,.mp 1]),(1,.mp (QO a2.1) a2.2)],[],4,41,[]⟩ from (Qu tZ (hA J) kZ J (Nat.le_trans hv0 (lb J)) J J J (bB J J (bG J bZ)) J J))) (fun _ _ h=>h)
 intro v10 h1
 refine Q4<|Q0<|rM J J J<|rM J J J<|Qx J J (Jh (M:=s1.2) (k:=x5) (v:=true) Xp J J J J J)<|Q3<|Qe<|Q4<|Q0<|rR J J J (Q7 J J J)<|rM J J J<|Q3 ?_
 have e:=sI h1;subst e
 refine QR ((J9 (s1.1+1)),(J2 s1.2 x5 true)) (Qu (tA J) (hA J) kZ J (Nat.le_trans hv0 (lb J)) J J J (bB J J (bG J (bB J J (bG J bZ)))) J J) ho1
 refine Jf J (QH J J J (CallE.d (QB x6 29 (.inr x9) hx9))) ?_
 have e:=sI h1;subst e
 have e_:_=_:=ho1
 subst e_
 try dsimp only [Sum.elim_inl,Sum.elim_inr] at h0
 have e:=sI h0;subst e
 exact Jo (hQ0 (.panic (Jx (QJ 90 29))) _ ZY J (show StLe _ _ ⟨[],[(0,.cells 62 [dS a1,.mp 1]),(1,.mp (QO a2.1) a2.2)],[],4,41,[]⟩ from (Qu tZ (hA J) kZ J (Nat.le_trans hv0 (lb J)) J J J (bB J J (bG J bZ)) J J))) (fun _ _ h=>h)
 replace h1:=Ql c4 h1
 refine J5<|Qo<|Qo ?_
 have e:=sI h1;subst e
 have e_:_=_:=ho1
 subst e_
 exact QW s1.2 (Qu tZ (hA J) kZ J (Nat.le_trans hv0 (lb J)) J J J (bB J J (bG J (bB J J (bG J bZ)))) J J) h0
 intro o2 h0
 refine QM ?_
 have e:=sI h0;subst e
 exact hQ0 _ _ byN J (show StLe _ _ ⟨[],[(0,.cells 62 [dS a1,.mp 1]),(1,.mp (QO a2.1) a2.2)],[],4,41,[]⟩ from (Qu tZ (hA J) kZ J (Nat.le_trans hv0 (lb J)) J J J (bB J J (bG J bZ)) J J))
noncomputable def GH (a0:Tm) (rc:Tm×(List Dcl)×(Qa Bs Ent)×(Qa Bs Ent)×Tm→Option (Bool⊕Int)) (a1:List Dcl) (a2:Qa Bs Ent) (a3:Qa Bs Ent) (a4:Tm) (s3:Int):Option (LO Int (Unit⊕(Int⊕Int))) :=
 cond (decide (s3 < (a0.kids.length:Int)))
   (Option.bind (JC a0.kids s3) fun (x12:Tm) =>
 Option.bind (Option.bind (rc (x12,a1,a2,a3,a4)) (Sum.elim (fun (x18:Bool)=>some (.inl (!x18))) (fun (x19:Int)=>some (.inr x19)))) (Sum.elim (fun (y13:Bool)=>cond y13
   (some (.done (.inr (.inl s3))))
   (some (.next (J9 (s3+1))))) (fun (y14:Int)=>some (.done (.inr (.inr y14))))))
   (some (.done (.inl ())))
noncomputable def GI (p0_:Tm) (p1_:Tm×(List Dcl)×(Qa Bs Ent)×(Qa Bs Ent)×Tm→Option (Bool⊕Int)) (p2_:List Dcl) (p3_:Qa Bs Ent) (p4_:Qa Bs Ent) (p5_:Tm):Option (Bool⊕Int) :=
 Option.bind (Option.bind (Option.bind (Qp (GH p0_ p1_ p2_ p3_ p4_ p5_) QF 0) (Sum.elim (fun (b0_:Unit)=>some (.inl (-1))) (fun o=>some o))) (Sum.elim (fun (b1_:Int)=>some (.inl (decide (0≤b1_)))) (fun (b2_:Int)=>some (.inr b2_)))) (Sum.elim (fun (b3_:Bool)=>some (.inl (!b3_))) (fun (b4_:Int)=>some (.inr b4_)))
noncomputable abbrev m83f9_h0 :HB :=
 .loop .ready none [(5,.v (.one (.ptr 2 0))),(9,.v (.one (.ptr 5 0))),(23,.v (.one (.fn 82 [(7,0)])))] 53 #[24] YR Yq 1
noncomputable abbrev Jc (p0_:List Dcl) (p1_:Qa Bs Ent) (p2_:Qa Bs Ent) (p3_:Tm) (p4_:Tm):List (Nat×HB) :=
 [(0,m83f9_h0),(1,.obj (.deferred (some []))),(2,.cells 59 [.ptr 3 0]),(3,.cells 62 [dS p0_,.mp 4]),(4,.mp (QO p1_.1) p1_.2),(5,.cells 60 [.mp 6]),(6,.mp (QO p2_.1) p2_.2),(7,.cells 33 (cE p3_)),(8,.cells 33 (cE p4_)),(9,.cells 78 [.yld 0])]
noncomputable abbrev Xs :HB :=
 .loop .busy none [(5,.v (.one (.ptr 2 0))),(9,.v (.one (.ptr 5 0))),(23,.v (.one (.fn 82 [(7,0)])))] 53 #[24] YR Yq 1
noncomputable abbrev m83f9_h3 (p0_:List Dcl) (p1_:Qa Bs Ent) (p2_:Qa Bs Ent) (p3_:Tm) (p4_:Tm):List (Nat×HB) :=
 [(0,Xs),(1,.obj (.deferred (some []))),(2,.cells 59 [.ptr 3 0]),(3,.cells 62 [dS p0_,.mp 4]),(4,.mp (QO p1_.1) p1_.2),(5,.cells 60 [.mp 6]),(6,.mp (QO p2_.1) p2_.2),(7,.cells 33 (cE p3_)),(8,.cells 33 (cE p4_)),(9,.cells 78 [.yld 0]),(10,.cells 33 (cE p4_))]
noncomputable abbrev m83f9_h4 (p0_:List Dcl) (p1_:Qa Bs Ent) (p2_:Qa Bs Ent) (p3_:Tm) (p4_:Tm):List (Nat×HB) :=
 [(0,m83f9_h0),(1,.obj (.deferred (some []))),(2,.cells 59 [.ptr 3 0]),(3,.cells 62 [dS p0_,.mp 4]),(4,.mp (QO p1_.1) p1_.2),(5,.cells 60 [.mp 6]),(6,.mp (QO p2_.1) p2_.2),(7,.cells 33 (cE p3_)),(8,.cells 33 (cE p4_)),(9,.cells 78 [.yld 0]),(10,.cells 33 (cE p4_))]
noncomputable abbrev Jk (p0_:List Dcl) (p1_:Qa Bs Ent) (p2_:Qa Bs Ent) (p3_:Tm) (p4_:Tm):List (Nat×HB) :=
 [(0,Xs),(1,.obj (.deferred (some []))),(2,.cells 59 [.ptr 3 0]),(3,.cells 62 [dS p0_,.mp 4]),(4,.mp (QO p1_.1) p1_.2),(5,.cells 60 [.mp 6]),(6,.mp (QO p2_.1) p2_.2),(7,.cells 33 (cE p3_)),(8,.cells 33 (cE p4_)),(9,.cells 78 [.yld 0])]
noncomputable abbrev m83f9_h6 (p0_:Qa Bs Ent) (p1_:Tm):HB :=
 .cells 35 [dI ((Qn p0_ p1_.name).kind),dI ((Qn p0_ p1_.name).decl),dI ((Qn p0_ p1_.name).item),dI ((Qn p0_ p1_.name).params),dI (((Qn p0_ p1_.name).ty).kind),dI (((Qn p0_ p1_.name).ty).index),Jn (((Qn p0_ p1_.name).ty).name),dS (((Qn p0_ p1_.name).ty).levels:List Lvl),dS (((Qn p0_ p1_.name).ty).kids:List Tm)]
noncomputable abbrev m83f9_h7 (p0_:List Dcl) (p1_:Qa Bs Ent) (p2_:Qa Bs Ent) (p3_:Tm) (p4_:Tm):List (Nat×HB) :=
 [(0,Xs),(1,.obj (.deferred (some []))),(2,.cells 59 [.ptr 3 0]),(3,.cells 62 [dS p0_,.mp 4]),(4,.mp (QO p1_.1) p1_.2),(5,.cells 60 [.mp 6]),(6,.mp (QO p2_.1) p2_.2),(7,.cells 33 (cE p3_)),(8,.cells 33 (cE p4_)),(9,.cells 78 [.yld 0]),(10,.cells 33 (cE p4_)),(11,m83f9_h6 p1_ p4_)]
noncomputable abbrev Ye (p0_:List Dcl) (p1_:Qa Bs Ent) (p2_:Qa Bs Ent) (p3_:Tm):List (Nat×HB) :=
 [(0,Xs),(1,.obj (.deferred (some []))),(2,.cells 59 [.ptr 3 0]),(3,.cells 62 [dS p0_,.mp 4]),(4,.mp (QO p1_.1) p1_.2),(5,.cells 60 [.mp 6]),(6,.mp (QO p2_.1) p2_.2),(7,.cells 33 (cE p3_))]
noncomputable abbrev m83f9_h9 (p0_:Tm) (p1_:Tm):List (Nat×HB) :=
 [(8,.cells 33 (cE p0_)),(9,.cells 78 [.yld 0]),(10,.cells 33 (cE p1_))]
noncomputable abbrev Jz (p0_:List Dcl) (p1_:Qa Bs Ent) (p2_:Qa Bs Ent) (p3_:Tm):List (Nat×HB) :=
 [(0,m83f9_h0),(1,.obj (.deferred (some []))),(2,.cells 59 [.ptr 3 0]),(3,.cells 62 [dS p0_,.mp 4]),(4,.mp (QO p1_.1) p1_.2),(5,.cells 60 [.mp 6]),(6,.mp (QO p2_.1) p2_.2),(7,.cells 33 (cE p3_))]
noncomputable def U5 (rc:Tm×(List Dcl)×(Qa Bs Ent)×(Qa Bs Ent)×Tm→Option (Bool⊕Int)) (a0:Tm) (a1:List Dcl) (a2:Qa Bs Ent) (a3:Qa Bs Ent) (a4:Tm):Option (Bool⊕Int) :=
 Option.bind (cond (a0.kind==3)
   (Option.bind (Option.bind (cond (!(YE a2 a0.name))
   (some ((YE a3 a0.name),(Qn a3 a0.name).kind,(Qn a3 a0.name).decl,(Qn a3 a0.name).item,(Qn a3 a0.name).params,((Qn a3 a0.name).ty).kind,((Qn a3 a0.name).ty).index,((Qn a3 a0.name).ty).name,((Qn a3 a0.name).ty).levels,((Qn a3 a0.name).ty).kids))
   (some ((YE a2 a0.name),(Qn a2 a0.name).kind,(Qn a2 a0.name).decl,(Qn a2 a0.name).item,(Qn a2 a0.name).params,((Qn a2 a0.name).ty).kind,((Qn a2 a0.name).ty).index,((Qn a2 a0.name).ty).name,((Qn a2 a0.name).ty).levels,((Qn a2 a0.name).ty).kids))) (fun (v8:Bool×Int×Int×Int×Int×Int×Int×Bs×(List Lvl)×(List Tm))=>Option.bind (Jy v8.1 9) (Sum.elim (fun (x10:Unit)=>Option.bind (Jy ((a0.levels.length:Int)==v8.2.2.2.2.1) 15) (Sum.elim (fun (x13:Unit)=>some (.inl ())) (fun (x14:Unit)=>some (.inr 15)))) (fun (x11:Unit)=>some (.inr 9))))) (Sum.elim (fun (y3:Unit)=>some (.inl ())) (fun (y4:Int)=>some (.inr (.inr y4)))))
   (some (.inl ()))) (Sum.elim (fun (v1:Unit)=>GI a0 rc a1 a2 a3 a4) (fun o=>some o))
noncomputable def Wj (rc:Tm×(List Dcl)×(Qa Bs Ent)×(Qa Bs Ent)×Tm→Option (Bool⊕Int)) (u:Tm×(List Dcl)×(Qa Bs Ent)×(Qa Bs Ent)×Tm):Option (Bool⊕Int):=U5 rc u.1 u.2.1 u.2.2.1 u.2.2.2.1 u.2.2.2.2
noncomputable def m83f9 (a0:Tm) (a1:List Dcl) (a2:Qa Bs Ent) (a3:Qa Bs Ent) (a4:Tm):Option (Bool⊕Int):=Jr Wj QF (a0,a1,a2,a3,a4)
theorem m83f9s_ok (rc:Tm×(List Dcl)×(Qa Bs Ent)×(Qa Bs Ent)×Tm→Option (Bool⊕Int)) (H:∀ (a0:Tm) (a1:List Dcl) (a2:Qa Bs Ent) (a3:Qa Bs Ent) (a4:Tm) (r:Bool⊕Int),rc (a0,a1,a2,a3,a4)=some r→CallE Try.prog 83 [.agg (cE a0),.one (.yld 0)] ⟨Jz a1 a2 a3 a4,[],8⟩ ((Sum.elim (fun (r0:Bool)=>((.ret [.one (dB r0)]):EK)) (fun (r1:Int)=>((.pan (QJ 90 r1)):EK))) r) ⟨((Sum.elim (fun (r0:Bool)=>(⟨[(4,.v (.one (dB r0)))],Jz a1 a2 a3 a4,[],10,19,[]⟩:St)) (fun (r1:Int)=>(⟨[],Ye a1 a2 a3 a4,[],12,19,[]⟩:St))) r).hp,((Sum.elim (fun (r0:Bool)=>(⟨[(4,.v (.one (dB r0)))],Jz a1 a2 a3 a4,[],10,19,[]⟩:St)) (fun (r1:Int)=>(⟨[],Ye a1 a2 a3 a4,[],12,19,[]⟩:St))) r).tk,((Sum.elim (fun (r0:Bool)=>(⟨[(4,.v (.one (dB r0)))],Jz a1 a2 a3 a4,[],10,19,[]⟩:St)) (fun (r1:Int)=>(⟨[],Ye a1 a2 a3 a4,[],12,19,[]⟩:St))) r).nx⟩) (a0:Tm) (a1:List Dcl) (a2:Qa Bs Ent) (a3:Qa Bs Ent) (a4:Tm) (r:Bool⊕Int) (h0:U5 rc a0 a1 a2 a3 a4=some r):CallE Try.prog 83 [.agg (cE a0),.one (.yld 0)] ⟨Jz a1 a2 a3 a4,[],8⟩ ((Sum.elim (fun (r0:Bool)=>((.ret [.one (dB r0)]):EK)) (fun (r1:Int)=>((.pan (QJ 90 r1)):EK))) r) ⟨((Sum.elim (fun (r0:Bool)=>(⟨[(4,.v (.one (dB r0)))],Jz a1 a2 a3 a4,[],10,19,[]⟩:St)) (fun (r1:Int)=>(⟨[],Ye a1 a2 a3 a4,[],12,19,[]⟩:St))) r).hp,((Sum.elim (fun (r0:Bool)=>(⟨[(4,.v (.one (dB r0)))],Jz a1 a2 a3 a4,[],10,19,[]⟩:St)) (fun (r1:Int)=>(⟨[],Ye a1 a2 a3 a4,[],12,19,[]⟩:St))) r).tk,((Sum.elim (fun (r0:Bool)=>(⟨[(4,.v (.one (dB r0)))],Jz a1 a2 a3 a4,[],10,19,[]⟩:St)) (fun (r1:Int)=>(⟨[],Ye a1 a2 a3 a4,[],12,19,[]⟩:St))) r).nx⟩:=by
 unfold U5 at h0
 refine JK r ((Sum.elim (fun (r0:Bool)=>(⟨[(4,.v (.one (dB r0)))],Jz a1 a2 a3 a4,[],10,19,[]⟩:St)) (fun (r1:Int)=>(⟨[],Ye a1 a2 a3 a4,[],12,19,[]⟩:St)))) ((Sum.elim (fun (r0:Bool)=>((.ret [.one (dB r0)]):EK)) (fun (r1:Int)=>((.pan (QJ 90 r1)):EK)))) rfl rfl en_83 (lb rfl) (fun z_=>by cases z_ with
 | inl _=>exact rfl
 | inr _=>exact rfl) (fun z_=>by cases z_ with
 | inl _=>exact (Du (QC rfl .nil))
 | inr _=>exact DB) (fun w0 M V0 Q hv0 hQ0=>?_)
 simp only [Ja]
 refine Q5<|Q0<|Q9 J J (lb J) (QT J)<|Q9 J J (lb J) (QT J)<|rA J J J<|Q3<|Q4<|Q5<|Q5 ?_
 refine QS (fun (v1:Unit)=>⟨[(2,.v (.one (.ptr 8 0))),(3,.v (.one (.ptr 9 0))),(13,.v (.one (dB false)))],Jc a1 a2 a3 a4 a0,[],10,19,[]⟩) (fun (v1:Unit)=>(GI a0 rc a1 a2 a3 a4)=some r) ?_ ?_
 refine Qb h0 (fun w1_ h1 h0=>?_)
 refine Q0<|rR J J J (Q2 Yb J)<|rR J J J (Q6 QU J J J)<|rR J J J (Q7 J J J)<|rM J J J ?_
 refine QG (d:=8) (c:=(a0.kind==3)) J (fun c2=>?_) (fun c2=>?_)
 replace h1:=Qk c2 h1
 refine rR J J J (Q6 ag_78 J J J)<|rR J J J (QN (a0:Tm) QV J J) ?_
 refine Qb h1 (fun y5 h2 h1=>?_)
 have ha6:ExecOK Try.prog (some 0) YR ⟨[(5,.v (.one (.ptr 2 0))),(9,.v (.one (.ptr 5 0))),(23,.v (.one (.fn 82 [(7,0)]))),(24,.v (.agg (cE a0)))],Jc a1 a2 a3 a4 a0,[],10,53,[]⟩ .normal ⟨[(5,.v (.one (.ptr 2 0))),(9,.v (.one (.ptr 5 0))),(11,.v (.one (.ptr 10 0)))],m83f9_h4 a1 a2 a3 a4 a0,[],11,53,[]⟩:=by
  refine QI (fun w0 M V0 ro n Q hv2 hro2 hQn2=>?_)
  refine Q0<|Q9 J J (lb J) (Qj K4 J)<|Qx J J (Qz (a0:Tm) QV J J J J J)<|Q3 ?_
  exact Jq hQn2 (Qu (tA J) (hA J) kZ J (Nat.le_trans hv2 (lb J)) J J J (bB J J (bB J J (bB J J (bB J J (bG J (bB J J (bG J (bA J)))))))) J J)
 have hb7:ExecOK Try.prog (some 0) Yq ⟨[(5,.v (.one (.ptr 2 0))),(9,.v (.one (.ptr 5 0))),(11,.v (.one (.ptr 10 0)))],m83f9_h3 a1 a2 a3 a4 a0,[],11,53,[]⟩ ((Sum.elim (fun (_:Unit)=>(.normal:Exit)) (fun (y4:Int)=>((.panic (Jx (QJ 90 y4))):Exit))) y5) ((Sum.elim (fun (y3:Unit)=>(⟨[],Jk a1 a2 a3 a4 a0,[],12,53,[]⟩:St)) (fun (y4:Int)=>(⟨[],Jk a1 a2 a3 a4 a0,[],12,53,[]⟩:St))) y5):=by
  refine QI (fun w0 M V0 ro n Q hv2 hro2 hQn2=>?_)
  refine Qf<|Q5 ?_
  refine Jv [10,11] [(0,1),(1,1),(2,1),(3,1),(4,1),(5,1),(6,1),(7,1),(8,1),(9,1),(9,2)] YQ (by kernel_rfl) (by kernel_rfl) (by kernel_rfl) ?_
  refine RunA.rd J J J (Q1 (Q6 Wa J J J)) J<|RunA.rd J J J (Q1 (Ju J)) J<|RunA.rd J J J (Q1 (Q2 Kf J)) J<|RunA.rd J J J (Q1 (Q6 YA J J J)) J<|RunA.rd J J J (Q1 (Q2 Zg J)) J<|RunA.rd J J J (Q1 (Q6 JV J J J)) J<|RunA.rd J J J (Q1 (ZG (M:=a2) (k:=a0.name) YP Kz J J J)) J<|RunA.rd J J J (Q1 (Qr J)) J<|RunA.rd J J J (Q1 (J8 J J)) J<|RunA.rd J J J (Q1 (J8 J J)) J<|RunA.eff J J J (Qj Zl J) J<|RunA.eff J J J (Qt Jm J J J J (lb J) J) J<|RunA.rd J J J (Q1 (JH J)) J ?_
  refine RunA.nil ⟨?ex,_,_,J,?_⟩
  case ex=>exact ⟨⟨_,rfl,_,_,rfl,rfl,rfl,.inl ⟨rfl,_,Q1 (Q6 Wa rfl rfl rfl),rfl⟩⟩,⟨_,rfl,_,_,rfl,rfl,rfl,.inl ⟨rfl,_,Q1 (Ju rfl),rfl⟩⟩,⟨_,rfl,_,_,rfl,rfl,rfl,.inl ⟨rfl,_,Q1 (Q2 Kf rfl),rfl⟩⟩,⟨_,rfl,_,_,rfl,rfl,rfl,.inl ⟨rfl,_,Q1 (Q6 YA rfl rfl rfl),rfl⟩⟩,⟨_,rfl,_,_,rfl,rfl,rfl,.inl ⟨rfl,_,Q1 (Q2 Zg rfl),rfl⟩⟩,⟨_,rfl,_,_,rfl,rfl,rfl,.inl ⟨rfl,_,Q1 (Q6 JV rfl rfl rfl),rfl⟩⟩,⟨_,rfl,_,_,rfl,rfl,rfl,.inl ⟨rfl,_,Q1 (ZG (M:=a2) (k:=a0.name) YP Kz rfl rfl rfl),rfl⟩⟩,⟨_,rfl,_,_,rfl,rfl,rfl,.inl ⟨rfl,_,Q1 (Qr rfl),rfl⟩⟩,⟨_,rfl,_,_,rfl,rfl,rfl,.inl ⟨rfl,_,Q1 (J8 rfl rfl),rfl⟩⟩,⟨_,rfl,_,_,rfl,rfl,rfl,.inl ⟨rfl,_,Q1 (J8 rfl rfl),rfl⟩⟩,⟨_,rfl,_,_,rfl,rfl,rfl,.inl ⟨rfl,_,Q1 (J8 rfl rfl),rfl⟩⟩,trivial⟩
  refine JW (st':=⟨[(9,.v (.one (.ptr 5 0))),(11,.v (.one (.ptr 10 0))),(12,.v (.one (.ptr 11 0))),(13,.v (.one (dB (YE a2 a0.name))))],m83f9_h7 a1 a2 a3 a4 a0,[],12,53,[]⟩) (Qu (tA J) (hA J) kZ J (Nat.le_trans hv2 (lb J)) J J J (bB J J (bB J J (bB J J (bB J J (bG J (bB J J (bG J (bA J)))))))) J J)<|Q4<|Q5<|Q5<|Q0<|rM J J J<|rR J J J (Ji J)<|Q3<|Q4 ?_
  refine QS (fun (v8:Bool×Int×Int×Int×Int×Int×Int×Bs×(List Lvl)×(List Tm))=>⟨[(11,.v (.one (.ptr 10 0))),(12,.v (.one (.ptr 11 0))),(13,.v (.one (dB v8.1)))],[(0,Xs),(1,.obj (.deferred (some []))),(2,.cells 59 [.ptr 3 0]),(3,.cells 62 [dS a1,.mp 4]),(4,.mp (QO a2.1) a2.2),(5,.cells 60 [.mp 6]),(6,.mp (QO a3.1) a3.2),(7,.cells 33 (cE a4)),(8,.cells 33 (cE a0)),(9,.cells 78 [.yld 0]),(10,.cells 33 (cE a0)),(11,.cells 35 [dI v8.2.1,dI v8.2.2.1,dI v8.2.2.2.1,dI v8.2.2.2.2.1,dI v8.2.2.2.2.2.1,dI v8.2.2.2.2.2.2.1,Jn v8.2.2.2.2.2.2.2.1,dS v8.2.2.2.2.2.2.2.2.1,dS v8.2.2.2.2.2.2.2.2.2])],[],12,53,[]⟩) (fun (v8:Bool×Int×Int×Int×Int×Int×Int×Bs×(List Lvl)×(List Tm))=>(Option.bind (Jy v8.1 9) (Sum.elim (fun (x10:Unit)=>Option.bind (Jy ((a0.levels.length:Int)==v8.2.2.2.2.1) 15) (Sum.elim (fun (x13:Unit)=>some (.inl ())) (fun (x14:Unit)=>some (.inr 15)))) (fun (x11:Unit)=>some (.inr 9))))=some y5) ?_ ?_
  refine Qb h2 (fun w3_ h3 h2=>?_)
  refine Qh (b:=(!(YE a2 a0.name))) J (fun c9=>?_) (fun c9=>?_)
  replace h3:=Qk c9 h3
  refine Q0<|rR J J J (Q6 YA J J J)<|rR J J J (Q2 Zg J)<|rR J J J (Q6 JV J J J)<|rR J J J (ZG (M:=a3) (k:=a0.name) YP Kz J J J)<|rM J J J<|rR J J J (J8 J J)<|rR J J J (J8 J J)<|Qx J J (Qt Jm J J J J (lb J) J)<|rA J J J<|Q3 ?_
  have e:=sI h3;subst e
  exact Qd ((YE a3 a0.name),(Qn a3 a0.name).kind,(Qn a3 a0.name).decl,(Qn a3 a0.name).item,(Qn a3 a0.name).params,((Qn a3 a0.name).ty).kind,((Qn a3 a0.name).ty).index,((Qn a3 a0.name).ty).name,((Qn a3 a0.name).ty).levels,((Qn a3 a0.name).ty).kids) (Qu (tA J) (hA J) kZ J (Nat.le_trans hv2 (lb J)) J J J (bB J J (bB J J (bB J J (bB J J (bG J (bB J J (bG J (bA J)))))))) J J) h2
  replace h3:=Ql c9 h3
  refine Qm ?_
  have e:=sI h3;subst e
  exact Qd ((YE a2 a0.name),(Qn a2 a0.name).kind,(Qn a2 a0.name).decl,(Qn a2 a0.name).item,(Qn a2 a0.name).params,((Qn a2 a0.name).ty).kind,((Qn a2 a0.name).ty).index,((Qn a2 a0.name).ty).name,((Qn a2 a0.name).ty).levels,((Qn a2 a0.name).ty).kids) (Qu (tA J) (hA J) kZ J (Nat.le_trans hv2 (lb J)) J J J (bB J J (bB J J (bB J J (bB J J (bG J (bB J J (bG J (bA J)))))))) J J) h2
  intro v8 h2
  refine Q4<|Q5<|Q0<|rM J J J ?_
  refine Qb h2 (fun x10 hx10 h2=>?_)
  refine JY id hx10 h2 (fun x11 hx11 h2=>?_) (fun x12 hx12 h2=>?_)
  refine Q9 J J (lb J) (QE J J J (CallE.m (QB v8.1 9 (.inl x11) hx11)) J)<|Q3<|Q4<|Q0<|rR J J J (Q2 Zu J)<|rR J J J (Q6 Xi J J J)<|rR J J J (QA (α:=Lvl) Zm J (.d _))<|rR J J J (Q2 fo_35_3 J)<|rR J J J (Q6 QU J J J)<|rR J J J (Q7 J J J) ?_
  refine Qb h2 (fun x13 hx13 h2=>?_)
  refine JY id hx13 h2 (fun x14 hx14 h2=>?_) (fun x15 hx15 h2=>?_)
  refine Q9 J J (lb J) (QE J J J (CallE.m (QB ((a0.levels.length:Int)==v8.2.2.2.2.1) 15 (.inl x14) hx14)) J)<|Q3<|Qe ?_
  have e:=sI h2;subst e
  exact Jq (e:=.normal) (st':=⟨[],Jk a1 a2 a3 a4 a0,[],12,53,[]⟩) hQn2 (Qu tZ (hA J) kZ J (Nat.le_trans hv2 (lb J)) J J J (bB J J (bB J J (bB J J (bB J J (bG J (bB J J (bG J (bA J)))))))) J J)
  refine Jf J (QH J J J (CallE.d (QB ((a0.levels.length:Int)==v8.2.2.2.2.1) 15 (.inr x15) hx15))) ?_
  have e:=sI h2;subst e
  exact Jo (Jq (e:=(.panic (Jx (QJ 90 15)))) (st':=⟨[],Jk a1 a2 a3 a4 a0,[],12,53,[]⟩) hQn2 (Qu tZ (hA J) kZ J (Nat.le_trans hv2 (lb J)) J J J (bB J J (bB J J (bB J J (bB J J (bG J (bB J J (bG J (bA J)))))))) J J)) (fun _ _ h=>h)
  refine Jf J (QH J J J (CallE.d (QB v8.1 9 (.inr x12) hx12))) ?_
  have e:=sI h2;subst e
  exact Jo (Jq (e:=(.panic (Jx (QJ 90 9)))) (st':=⟨[],Jk a1 a2 a3 a4 a0,[],12,53,[]⟩) hQn2 (Qu tZ (hA J) kZ J (Nat.le_trans hv2 (lb J)) J J J (bB J J (bB J J (bB J J (bB J J (bG J (bB J J (bG J (bA J)))))))) J J)) (fun _ _ h=>h)
 refine U2 (C:=fun q_=>ExecOK Try.prog (some 0) Yq ⟨[(5,.v (.one (.ptr 2 0))),(9,.v (.one (.ptr 5 0))),(11,.v (.one (.ptr 10 0)))],m83f9_h3 a1 a2 a3 a4 a0,[],11,53,[]⟩ ((Sum.elim (fun (_:Unit)=>(.normal:Exit)) (fun (y4:Int)=>((.panic (Jx (QJ 90 y4))):Exit))) q_) ((Sum.elim (fun (y3:Unit)=>(⟨[],Jk a1 a2 a3 a4 a0,[],12,53,[]⟩:St)) (fun (y4:Int)=>(⟨[],Jk a1 a2 a3 a4 a0,[],12,53,[]⟩:St))) q_)) hb7 h1 (fun y3 hb7 h1=>?_) (fun y4 hb7 h1=>?_)
 replace hb7:ExecOK Try.prog (some 0) Yq ⟨[(5,.v (.one (.ptr 2 0))),(9,.v (.one (.ptr 5 0))),(11,.v (.one (.ptr 10 0)))],m83f9_h3 a1 a2 a3 a4 a0,[],11,53,[]⟩ .normal ⟨[],Jk a1 a2 a3 a4 a0,[],12,53,[]⟩:=hb7
 refine Q9 J J (lb J) (Je (jump:=none) J J J J J (Qw ha6 (fun E hv=>(Qu (tA J) (hA J) kZ J (Nat.le_trans hv (lb J)) J J J (bB J J (bB J J (bB J J (bB J J (bG J (bB J J (bG J (bA J)))))))) J J))) J (Qw hb7 (fun E hv=>(Qu (tA J) (hA J) kZ J (Nat.le_trans hv (lb J)) J J J (bB J J (bB J J (bB J J (bB J J (bG J (bB J J (bG J (bA J)))))))) J J))) J J) ?_
 refine rR J J J (Ji J)<|rR J J J (Qg J J)<|Q3 ?_
 have e:=sI h1;subst e
 replace h0:=KZ h0
 exact Qd () (Qu (tA J) (hA J) kZ J (Nat.le_trans hv0 (lb J)) J J J (bB J J (bB J J (bB J J (bB J J (bG J (bB J J (bG J (bA J)))))))) J J) h0
 replace hb7:ExecOK Try.prog (some 0) Yq ⟨[(5,.v (.one (.ptr 2 0))),(9,.v (.one (.ptr 5 0))),(11,.v (.one (.ptr 10 0)))],m83f9_h3 a1 a2 a3 a4 a0,[],11,53,[]⟩ (.panic (Jx (QJ 90 y4))) ⟨[],Jk a1 a2 a3 a4 a0,[],12,53,[]⟩:=hb7
 refine Jf J (OpD.yield J J J J J (Qw ha6 (fun E hv=>(Qu (tA J) (hA J) kZ J (Nat.le_trans hv (lb J)) J J J (bB J J (bB J J (bB J J (bB J J (bG J (bB J J (bG J (bA J)))))))) J J))) J (Qw hb7 (fun E hv=>(Qu (tA J) (hA J) kZ J (Nat.le_trans hv (lb J)) J J J (bB J J (bB J J (bB J J (bB J J (bG J (bB J J (bG J (bA J)))))))) J J))) J J) ?_
 have e:=sI h1;subst e
 replace h0:=Gx h0
 have e:=sI h0;subst e
 exact Jo (hQ0 (.panic (Jx (QJ 90 y4))) _ ZY J (show StLe _ _ ⟨[],Ye a1 a2 a3 a4,[],12,19,[]⟩ from (Qu tZ (hA J) kZ J (Nat.le_trans hv0 (lb J)) J J J (bB J J (bB J J (bB J J (bB J J (bG J (bB J J (bG J (bA J)))))))) J J))) (fun _ _ h=>h)
 replace h1:=Ql c2 h1
 refine Q8 J J<|Q8 J J<|Q8 J J<|Q8 J J<|rR J J J (Qc J J)<|Q3 ?_
 have e:=sI h1;subst e
 replace h0:=KZ h0
 exact Qd () (Qu (tA J) (hA J) kZ J (Nat.le_trans hv0 (lb J)) J J J (bB J J (bB J J (bB J J (bB J J (bG J (bB J J (bG J (bA J)))))))) J J) h0
 intro v1 h0
 unfold GI at h0
 refine Q4 ?_
 refine Qh J (fun h=>nomatch h) (fun _=>?_)
 refine Qm<|Q4<|Q5<|Q0<|rR J J J (Q2 JR J)<|rR J J J (Q6 JO J J J)<|rR J J J (YU J) ?_
 refine Qb h0 (fun y19 h1 h0=>?_)
 have hc18:CallE Try.prog 98 [.one (dS a0.kids),.one (.fn 99 [(9,0)])] ⟨Jc a1 a2 a3 a4 a0,[],10⟩ (((Sum.elim (fun (y16:Bool)=>((.ret [.one (dB y16)]):EK)) (fun (y17:Int)=>((.pan (QJ 90 y17)):EK)))) y19) ⟨(((Sum.elim (fun (y16:Bool)=>(⟨[(4,.v (.one (dB y16)))],Jc a1 a2 a3 a4 a0,[],10,9,[]⟩:St)) (fun (y17:Int)=>(⟨[],Jk a1 a2 a3 a4 a0,[],15,9,[]⟩:St)))) y19).hp,(((Sum.elim (fun (y16:Bool)=>(⟨[(4,.v (.one (dB y16)))],Jc a1 a2 a3 a4 a0,[],10,9,[]⟩:St)) (fun (y17:Int)=>(⟨[],Jk a1 a2 a3 a4 a0,[],15,9,[]⟩:St)))) y19).tk,(((Sum.elim (fun (y16:Bool)=>(⟨[(4,.v (.one (dB y16)))],Jc a1 a2 a3 a4 a0,[],10,9,[]⟩:St)) (fun (y17:Int)=>(⟨[],Jk a1 a2 a3 a4 a0,[],15,9,[]⟩:St)))) y19).nx⟩:=by
  refine JK y19 ((Sum.elim (fun (y16:Bool)=>(⟨[(4,.v (.one (dB y16)))],Jc a1 a2 a3 a4 a0,[],10,9,[]⟩:St)) (fun (y17:Int)=>(⟨[],Jk a1 a2 a3 a4 a0,[],15,9,[]⟩:St)))) ((Sum.elim (fun (y16:Bool)=>((.ret [.one (dB y16)]):EK)) (fun (y17:Int)=>((.pan (QJ 90 y17)):EK)))) rfl rfl en_98 (lb rfl) (fun z_=>by cases z_ with
    | inl _=>exact rfl
    | inr _=>exact rfl) (fun z_=>by cases z_ with
    | inl _=>exact (Du (QC rfl .nil))
    | inr _=>exact DB) (fun w0 M V0 Q hv1 hQ1=>?_)
  simp only [Ja]
  refine Q5<|Q0<|rA J J J<|Q3<|Q4<|Q5<|Q0<|rM J J J<|rM J J J ?_
  refine Qb h1 (fun y23 h2 h1=>?_)
  have hc22:CallE Try.prog 104 [.one (dS a0.kids),.one (.fn 99 [(9,0)])] ⟨Jc a1 a2 a3 a4 a0,[],10⟩ (((Sum.elim (fun (y20:Int)=>((.ret [.one (dI y20)]):EK)) (fun (y21:Int)=>((.pan (QJ 90 y21)):EK)))) y23) ⟨(((Sum.elim (fun (y20:Int)=>(⟨[(4,.v (.one (dI y20)))],Jc a1 a2 a3 a4 a0,[],10,19,[]⟩:St)) (fun (y21:Int)=>(⟨[],Jk a1 a2 a3 a4 a0,[],15,19,[]⟩:St)))) y23).hp,(((Sum.elim (fun (y20:Int)=>(⟨[(4,.v (.one (dI y20)))],Jc a1 a2 a3 a4 a0,[],10,19,[]⟩:St)) (fun (y21:Int)=>(⟨[],Jk a1 a2 a3 a4 a0,[],15,19,[]⟩:St)))) y23).tk,(((Sum.elim (fun (y20:Int)=>(⟨[(4,.v (.one (dI y20)))],Jc a1 a2 a3 a4 a0,[],10,19,[]⟩:St)) (fun (y21:Int)=>(⟨[],Jk a1 a2 a3 a4 a0,[],15,19,[]⟩:St)))) y23).nx⟩:=by
   refine JK y23 ((Sum.elim (fun (y20:Int)=>(⟨[(4,.v (.one (dI y20)))],Jc a1 a2 a3 a4 a0,[],10,19,[]⟩:St)) (fun (y21:Int)=>(⟨[],Jk a1 a2 a3 a4 a0,[],15,19,[]⟩:St)))) ((Sum.elim (fun (y20:Int)=>((.ret [.one (dI y20)]):EK)) (fun (y21:Int)=>((.pan (QJ 90 y21)):EK)))) rfl rfl en_104 (lb rfl) (fun z_=>by cases z_ with
     | inl _=>exact rfl
     | inr _=>exact rfl) (fun z_=>by cases z_ with
     | inl _=>exact (Du (QC rfl .nil))
     | inr _=>exact DB) (fun w0 M V0 Q hv2 hQ2=>?_)
   simp only [Ja]
   refine Q5<|Q0<|rA J J J<|Q3<|Q4<|Q5<|Q5<|Q0<|rM J J J<|rR J J J (QA (α:=Tm) Jl J (.d _))<|rM J J J<|Q3<|Q4<|Qf ?_
   refine QY 0 (fun (o24:Unit)=>⟨[],Jc a1 a2 a3 a4 a0,[],10,19,[]⟩) (fun (o24:Unit)=>(some (.inl (-1)))=some y23) ?_ ?_
   refine Qb h2 (fun o25 hl3 h2=>?_)
   refine QX (GH a0 rc a1 a2 a3 a4) (fun s3=>⟨[(0,.v (.one (dS a0.kids))),(1,.v (.one (.fn 99 [(9,0)]))),(7,.v (.one (dI (a0.kids.length:Int)))),(8,.v (.one (dI s3)))],Jc a1 a2 a3 a4 a0,[],10,19,[]⟩) 0 o25 (Qu (tA J) (hA J) kZ J (Nat.le_trans hv2 (lb J)) J J J (bB J J (bB J J (bB J J (bB J J (bG J (bB J J (bG J (bA J)))))))) J J) hl3 (fun s3 n3 oo3 h3 ho3=>?_)
   unfold GH at h3
   refine Q5<|Q0<|rR J J J (Q7 J J J)<|Q3<|Q4<|Q5 ?_
   refine Qh (b:=(decide (s3 < (a0.kids.length:Int)))) J (fun c26=>?_) (fun c26=>?_)
   replace h3:=Qk c26 h3
   refine Qm<|Q4<|Q5<|Qf<|Q5<|Q0<|rM J J J<|rA J J J<|Q3<|Q4<|Q5<|Q0<|rM J J J<|rM J J J ?_
   refine rM J J J ?_
   refine Qb h3 (fun x27 hx27 h3=>?_)
   refine rR J J J (Qy (α:=Tm) Jl J (.d _) J hx27)<|rR J J J (Qv (x27:Tm) QV J) ?_
   refine Qb h3 (fun y31 h4 h3=>?_)
   have hc30:CallE Try.prog 99 [.agg (cE x27),.one (.ptr 9 0)] ⟨Jc a1 a2 a3 a4 a0,[],10⟩ (((Sum.elim (fun (y28:Bool)=>((.ret [.one (dB y28)]):EK)) (fun (y29:Int)=>((.pan (QJ 90 y29)):EK)))) y31) ⟨(((Sum.elim (fun (y28:Bool)=>(⟨[(3,.v (.one (dB y28)))],Jc a1 a2 a3 a4 a0,[],13,8,[]⟩:St)) (fun (y29:Int)=>(⟨[],Jk a1 a2 a3 a4 a0,[],15,8,[]⟩:St)))) y31).hp,(((Sum.elim (fun (y28:Bool)=>(⟨[(3,.v (.one (dB y28)))],Jc a1 a2 a3 a4 a0,[],13,8,[]⟩:St)) (fun (y29:Int)=>(⟨[],Jk a1 a2 a3 a4 a0,[],15,8,[]⟩:St)))) y31).tk,(((Sum.elim (fun (y28:Bool)=>(⟨[(3,.v (.one (dB y28)))],Jc a1 a2 a3 a4 a0,[],13,8,[]⟩:St)) (fun (y29:Int)=>(⟨[],Jk a1 a2 a3 a4 a0,[],15,8,[]⟩:St)))) y31).nx⟩:=by
    refine JK y31 ((Sum.elim (fun (y28:Bool)=>(⟨[(3,.v (.one (dB y28)))],Jc a1 a2 a3 a4 a0,[],13,8,[]⟩:St)) (fun (y29:Int)=>(⟨[],Jk a1 a2 a3 a4 a0,[],15,8,[]⟩:St)))) ((Sum.elim (fun (y28:Bool)=>((.ret [.one (dB y28)]):EK)) (fun (y29:Int)=>((.pan (QJ 90 y29)):EK)))) rfl rfl en_99 (lb rfl) (fun z_=>by cases z_ with
      | inl _=>exact rfl
      | inr _=>exact rfl) (fun z_=>by cases z_ with
      | inl _=>exact (Du (QC rfl .nil))
      | inr _=>exact DB) (fun w0 M V0 Q hv4 hQ4=>?_)
    simp only [Ja]
    refine Q5<|Q0<|Q9 J J (lb J) (QT J)<|rA J J J<|Q3<|Q4<|Q5<|Q0<|rR J J J (QN (x27:Tm) QV J J)<|rR J J J (Q6 ag_78 J J J) ?_
    refine Qb h4 (fun x32 hx32 h4=>?_)
    refine JY id hx32 h4 (fun x33 hx33 h4=>?_) (fun x34 hx34 h4=>?_)
    refine Q9 J J (lb J) (Jj (hp1':=[(0,.loop .ready none [(5,.v (.one (.ptr 2 0))),(9,.v (.one (.ptr 5 0))),(23,.v (.one (.fn 82 [(7,0)])))] 53 #[24] YR Yq 1),(1,.obj (.deferred (some []))),(2,.cells 59 [.ptr 3 0]),(3,.cells 62 [dS a1,.mp 4]),(4,.mp (QO a2.1) a2.2),(5,.cells 60 [.mp 6]),(6,.mp (QO a3.1) a3.2),(7,.cells 33 (cE a4))]) (tk1':=[]) (hpF:=m83f9_h9 a0 x27) (tkF:=[]) (res2:=QK [.one (dB x33)]) (nx2:=13) [0,1,2,3,4,5,6,7] J J (CallE.m (H x27 a1 a2 a3 a4 (.inl x33) hx33)) J J (qB J J (qB J J (qB J J (qB J J (qG J (qB J J (qG J (qB J J qZ)))))))) J J (gR J (gR J (gR J (gR J (gG J (gR J (gG J (gR J gZ)))))))) jZ (hA J) kZ J J J J J (bB J J (bB J J (bB J J (bB J J (bG J (bB J J (bG J (bA J)))))))) J J J J)<|rR J J J (Ji J)<|rA J J J<|Q3<|Q4<|QD ?_
    have e:=sI h4;subst e
    exact hQ4 _ _ DV J (show StLe _ _ ⟨[(3,.v (.one (dB (!x33))))],Jc a1 a2 a3 a4 a0,[],13,8,[]⟩ from (Qu (tA J) (hA J) kZ J (Nat.le_trans hv4 (lb J)) J J J (bB J J (bB J J (bB J J (bB J J (bG J (bB J J (bG J (bA J)))))))) J J))
    refine Jf J (Yy (hp1':=[(0,.loop .busy none [(5,.v (.one (.ptr 2 0))),(9,.v (.one (.ptr 5 0))),(23,.v (.one (.fn 82 [(7,0)])))] 53 #[24] YR Yq 1),(1,.obj (.deferred (some []))),(2,.cells 59 [.ptr 3 0]),(3,.cells 62 [dS a1,.mp 4]),(4,.mp (QO a2.1) a2.2),(5,.cells 60 [.mp 6]),(6,.mp (QO a3.1) a3.2),(7,.cells 33 (cE a4))]) (tk1':=[]) (hpF:=m83f9_h9 a0 x27) (tkF:=[]) (nx2:=15) [0,1,2,3,4,5,6,7] J J (CallE.d (H x27 a1 a2 a3 a4 (.inr x34) hx34)) J J (qB J J (qB J J (qB J J (qB J J (qG J (qB J J (qG J (qB J J qZ)))))))) J (gR J (gR J (gR J (gR J (gG J (gR J (gG J (gR J gZ)))))))) jZ (hA J) kZ J J J J J (bB J J (bB J J (bB J J (bB J J (bG J (bB J J (bG J (bA J)))))))) J J J J) ?_
    have e:=sI h4;subst e
    exact Jo (hQ4 (.panic (Jx (QJ 90 x34))) _ ZY J (show StLe _ _ ⟨[],Jk a1 a2 a3 a4 a0,[],15,8,[]⟩ from (Qu tZ (hA J) kZ J (Nat.le_trans hv4 (lb J)) J J J (bB J J (bB J J (bB J J (bB J J (bG J (bB J J (bG J (bA J)))))))) J J))) (fun _ _ h=>h)
   refine U2 (C:=fun q_=>CallE Try.prog 99 [.agg (cE x27),.one (.ptr 9 0)] ⟨Jc a1 a2 a3 a4 a0,[],10⟩ (((Sum.elim (fun (y28:Bool)=>((.ret [.one (dB y28)]):EK)) (fun (y29:Int)=>((.pan (QJ 90 y29)):EK)))) q_) ⟨(((Sum.elim (fun (y28:Bool)=>(⟨[(3,.v (.one (dB y28)))],Jc a1 a2 a3 a4 a0,[],13,8,[]⟩:St)) (fun (y29:Int)=>(⟨[],Jk a1 a2 a3 a4 a0,[],15,8,[]⟩:St)))) q_).hp,(((Sum.elim (fun (y28:Bool)=>(⟨[(3,.v (.one (dB y28)))],Jc a1 a2 a3 a4 a0,[],13,8,[]⟩:St)) (fun (y29:Int)=>(⟨[],Jk a1 a2 a3 a4 a0,[],15,8,[]⟩:St)))) q_).tk,(((Sum.elim (fun (y28:Bool)=>(⟨[(3,.v (.one (dB y28)))],Jc a1 a2 a3 a4 a0,[],13,8,[]⟩:St)) (fun (y29:Int)=>(⟨[],Jk a1 a2 a3 a4 a0,[],15,8,[]⟩:St)))) q_).nx⟩) hc30 h3 (fun y28 hc30 h3=>?_) (fun y29 hc30 h3=>?_)
   replace hc30:CallM Try.prog 99 [.agg (cE x27),.one (.ptr 9 0)] ⟨Jc a1 a2 a3 a4 a0,[],10⟩ (QK [.one (dB y28)]) ⟨Jc a1 a2 a3 a4 a0,[],13⟩:=hc30
   refine Q9 J J (lb J) (JJ J J J hc30 J (hA J) kZ)<|Q3<|Q4 ?_
   refine Qh (b:=y28) J (fun c35=>?_) (fun c35=>?_)
   replace h3:=Qk c35 h3
   refine Q5<|Q0<|rM J J J<|rA J J J<|Q3<|Q4<|QD ?_
   have e:=sI h3;subst e
   have e_:_=_:=ho3
   subst e_
   try dsimp only [Sum.elim_inl,Sum.elim_inr] at h2
   have e:=sI h2;subst e
   exact hQ2 _ _ DV J (show StLe _ _ ⟨[(4,.v (.one (dI s3)))],Jc a1 a2 a3 a4 a0,[],10,19,[]⟩ from (Qu (tA J) (hA J) kZ J (Nat.le_trans hv2 (lb J)) J J J (bB J J (bB J J (bB J J (bB J J (bG J (bB J J (bG J (bA J)))))))) J J))
   replace h3:=Ql c35 h3
   refine Qm<|Qe<|Q4<|Q0<|rR J J J (Q7 J J J)<|rM J J J<|Q3 ?_
   have e:=sI h3;subst e
   refine QR (J9 (s3+1)) (Qu (tA J) (hA J) kZ J (Nat.le_trans hv2 (lb J)) J J J (bB J J (bB J J (bB J J (bB J J (bG J (bB J J (bG J (bA J)))))))) J J) ho3
   replace hc30:Wd Try.prog 99 [.agg (cE x27),.one (.ptr 9 0)] ⟨Jc a1 a2 a3 a4 a0,[],10⟩ (QJ 90 y29) ⟨Jk a1 a2 a3 a4 a0,[],15⟩:=hc30
   refine Jf J (OpD.callW J J J hc30 J (hA J) kZ) ?_
   have e:=sI h3;subst e
   have e_:_=_:=ho3
   subst e_
   try dsimp only [Sum.elim_inl,Sum.elim_inr] at h2
   have e:=sI h2;subst e
   exact Jo (hQ2 (.panic (Jx (QJ 90 y29))) _ ZY J (show StLe _ _ ⟨[],Jk a1 a2 a3 a4 a0,[],15,19,[]⟩ from (Qu tZ (hA J) kZ J (Nat.le_trans hv2 (lb J)) J J J (bB J J (bB J J (bB J J (bB J J (bG J (bB J J (bG J (bA J)))))))) J J))) (fun _ _ h=>h)
   replace h3:=Ql c26 h3
   refine J5<|Qo<|Qo ?_
   have e:=sI h3;subst e
   have e_:_=_:=ho3
   subst e_
   exact QW () (Qu tZ (hA J) kZ J (Nat.le_trans hv2 (lb J)) J J J (bB J J (bB J J (bB J J (bB J J (bG J (bB J J (bG J (bA J)))))))) J J) h2
   intro o24 h2
   refine QM<|Q4<|Q5<|Q0<|rA J J J<|Q3<|Q4<|QD ?_
   have e:=sI h2;subst e
   exact hQ2 _ _ DV J (show StLe _ _ ⟨[(4,.v (.one (dI (-1))))],Jc a1 a2 a3 a4 a0,[],10,19,[]⟩ from (Qu (tA J) (hA J) kZ J (Nat.le_trans hv2 (lb J)) J J J (bB J J (bB J J (bB J J (bB J J (bG J (bB J J (bG J (bA J)))))))) J J))
  refine U2 (C:=fun q_=>CallE Try.prog 104 [.one (dS a0.kids),.one (.fn 99 [(9,0)])] ⟨Jc a1 a2 a3 a4 a0,[],10⟩ (((Sum.elim (fun (y20:Int)=>((.ret [.one (dI y20)]):EK)) (fun (y21:Int)=>((.pan (QJ 90 y21)):EK)))) q_) ⟨(((Sum.elim (fun (y20:Int)=>(⟨[(4,.v (.one (dI y20)))],Jc a1 a2 a3 a4 a0,[],10,19,[]⟩:St)) (fun (y21:Int)=>(⟨[],Jk a1 a2 a3 a4 a0,[],15,19,[]⟩:St)))) q_).hp,(((Sum.elim (fun (y20:Int)=>(⟨[(4,.v (.one (dI y20)))],Jc a1 a2 a3 a4 a0,[],10,19,[]⟩:St)) (fun (y21:Int)=>(⟨[],Jk a1 a2 a3 a4 a0,[],15,19,[]⟩:St)))) q_).tk,(((Sum.elim (fun (y20:Int)=>(⟨[(4,.v (.one (dI y20)))],Jc a1 a2 a3 a4 a0,[],10,19,[]⟩:St)) (fun (y21:Int)=>(⟨[],Jk a1 a2 a3 a4 a0,[],15,19,[]⟩:St)))) q_).nx⟩) hc22 h1 (fun y20 hc22 h1=>?_) (fun y21 hc22 h1=>?_)
  replace hc22:CallM Try.prog 104 [.one (dS a0.kids),.one (.fn 99 [(9,0)])] ⟨Jc a1 a2 a3 a4 a0,[],10⟩ (QK [.one (dI y20)]) ⟨Jc a1 a2 a3 a4 a0,[],10⟩:=hc22
  refine Q9 J J (lb J) (JJ J J J hc22 J (hA J) kZ)<|rR J J J (Q7 J J J)<|rA J J J<|Q3<|Q4<|QD ?_
  have e:=sI h1;subst e
  exact hQ1 _ _ DV J (show StLe _ _ ⟨[(4,.v (.one (dB (decide (0≤y20)))))],Jc a1 a2 a3 a4 a0,[],10,9,[]⟩ from (Qu (tA J) (hA J) kZ J (Nat.le_trans hv1 (lb J)) J J J (bB J J (bB J J (bB J J (bB J J (bG J (bB J J (bG J (bA J)))))))) J J))
  replace hc22:Wd Try.prog 104 [.one (dS a0.kids),.one (.fn 99 [(9,0)])] ⟨Jc a1 a2 a3 a4 a0,[],10⟩ (QJ 90 y21) ⟨Jk a1 a2 a3 a4 a0,[],15⟩:=hc22
  refine Jf J (OpD.callW J J J hc22 J (hA J) kZ) ?_
  have e:=sI h1;subst e
  exact Jo (hQ1 (.panic (Jx (QJ 90 y21))) _ ZY J (show StLe _ _ ⟨[],Jk a1 a2 a3 a4 a0,[],15,9,[]⟩ from (Qu tZ (hA J) kZ J (Nat.le_trans hv1 (lb J)) J J J (bB J J (bB J J (bB J J (bB J J (bG J (bB J J (bG J (bA J)))))))) J J))) (fun _ _ h=>h)
 refine U2 (C:=fun q_=>CallE Try.prog 98 [.one (dS a0.kids),.one (.fn 99 [(9,0)])] ⟨Jc a1 a2 a3 a4 a0,[],10⟩ (((Sum.elim (fun (y16:Bool)=>((.ret [.one (dB y16)]):EK)) (fun (y17:Int)=>((.pan (QJ 90 y17)):EK)))) q_) ⟨(((Sum.elim (fun (y16:Bool)=>(⟨[(4,.v (.one (dB y16)))],Jc a1 a2 a3 a4 a0,[],10,9,[]⟩:St)) (fun (y17:Int)=>(⟨[],Jk a1 a2 a3 a4 a0,[],15,9,[]⟩:St)))) q_).hp,(((Sum.elim (fun (y16:Bool)=>(⟨[(4,.v (.one (dB y16)))],Jc a1 a2 a3 a4 a0,[],10,9,[]⟩:St)) (fun (y17:Int)=>(⟨[],Jk a1 a2 a3 a4 a0,[],15,9,[]⟩:St)))) q_).tk,(((Sum.elim (fun (y16:Bool)=>(⟨[(4,.v (.one (dB y16)))],Jc a1 a2 a3 a4 a0,[],10,9,[]⟩:St)) (fun (y17:Int)=>(⟨[],Jk a1 a2 a3 a4 a0,[],15,9,[]⟩:St)))) q_).nx⟩) hc18 h0 (fun y16 hc18 h0=>?_) (fun y17 hc18 h0=>?_)
 replace hc18:CallM Try.prog 98 [.one (dS a0.kids),.one (.fn 99 [(9,0)])] ⟨Jc a1 a2 a3 a4 a0,[],10⟩ (QK [.one (dB y16)]) ⟨Jc a1 a2 a3 a4 a0,[],10⟩:=hc18
 refine Q9 J J (lb J) (JJ J J J hc18 J (hA J) kZ)<|rR J J J (Ji J)<|rA J J J<|Q3<|Q4<|QD ?_
 have e:=sI h0;subst e
 exact hQ0 _ _ DV J (show StLe _ _ ⟨[(4,.v (.one (dB (!y16))))],Jz a1 a2 a3 a4,[],10,19,[]⟩ from (Qu (tA J) (hA J) kZ J (Nat.le_trans hv0 (lb J)) J J J (bB J J (bB J J (bB J J (bB J J (bG J (bB J J (bG J (bA J)))))))) J J))
 replace hc18:Wd Try.prog 98 [.one (dS a0.kids),.one (.fn 99 [(9,0)])] ⟨Jc a1 a2 a3 a4 a0,[],10⟩ (QJ 90 y17) ⟨Jk a1 a2 a3 a4 a0,[],15⟩:=hc18
 refine Jf J (OpD.callW J J J hc18 J (hA J) kZ) ?_
 have e:=sI h0;subst e
 exact Jo (hQ0 (.panic (Jx (QJ 90 y17))) _ ZY J (show StLe _ _ ⟨[],Ye a1 a2 a3 a4,[],12,19,[]⟩ from (Qu tZ (hA J) kZ J (Nat.le_trans hv0 (lb J)) J J J (bB J J (bB J J (bB J J (bB J J (bG J (bB J J (bG J (bA J)))))))) J J))) (fun _ _ h=>h)
theorem m83f9_all (n:Nat) (u:Tm×(List Dcl)×(Qa Bs Ent)×(Qa Bs Ent)×Tm) (r:Bool⊕Int) (h0:Jr Wj n u=some r):CallE Try.prog 83 [.agg (cE u.1),.one (.yld 0)] ⟨Jz u.2.1 u.2.2.1 u.2.2.2.1 u.2.2.2.2,[],8⟩ ((Sum.elim (fun (r0:Bool)=>((.ret [.one (dB r0)]):EK)) (fun (r1:Int)=>((.pan (QJ 90 r1)):EK))) r) ⟨((Sum.elim (fun (r0:Bool)=>(⟨[(4,.v (.one (dB r0)))],Jz u.2.1 u.2.2.1 u.2.2.2.1 u.2.2.2.2,[],10,19,[]⟩:St)) (fun (r1:Int)=>(⟨[],Ye u.2.1 u.2.2.1 u.2.2.2.1 u.2.2.2.2,[],12,19,[]⟩:St))) r).hp,((Sum.elim (fun (r0:Bool)=>(⟨[(4,.v (.one (dB r0)))],Jz u.2.1 u.2.2.1 u.2.2.2.1 u.2.2.2.2,[],10,19,[]⟩:St)) (fun (r1:Int)=>(⟨[],Ye u.2.1 u.2.2.1 u.2.2.2.1 u.2.2.2.2,[],12,19,[]⟩:St))) r).tk,((Sum.elim (fun (r0:Bool)=>(⟨[(4,.v (.one (dB r0)))],Jz u.2.1 u.2.2.1 u.2.2.2.1 u.2.2.2.2,[],10,19,[]⟩:St)) (fun (r1:Int)=>(⟨[],Ye u.2.1 u.2.2.1 u.2.2.2.1 u.2.2.2.2,[],12,19,[]⟩:St))) r).nx⟩ :=
 YV (C:=fun u r=>CallE Try.prog 83 [.agg (cE u.1),.one (.yld 0)] ⟨Jz u.2.1 u.2.2.1 u.2.2.2.1 u.2.2.2.2,[],8⟩ ((Sum.elim (fun (r0:Bool)=>((.ret [.one (dB r0)]):EK)) (fun (r1:Int)=>((.pan (QJ 90 r1)):EK))) r) ⟨((Sum.elim (fun (r0:Bool)=>(⟨[(4,.v (.one (dB r0)))],Jz u.2.1 u.2.2.1 u.2.2.2.1 u.2.2.2.2,[],10,19,[]⟩:St)) (fun (r1:Int)=>(⟨[],Ye u.2.1 u.2.2.1 u.2.2.2.1 u.2.2.2.2,[],12,19,[]⟩:St))) r).hp,((Sum.elim (fun (r0:Bool)=>(⟨[(4,.v (.one (dB r0)))],Jz u.2.1 u.2.2.1 u.2.2.2.1 u.2.2.2.2,[],10,19,[]⟩:St)) (fun (r1:Int)=>(⟨[],Ye u.2.1 u.2.2.1 u.2.2.2.1 u.2.2.2.2,[],12,19,[]⟩:St))) r).tk,((Sum.elim (fun (r0:Bool)=>(⟨[(4,.v (.one (dB r0)))],Jz u.2.1 u.2.2.1 u.2.2.2.1 u.2.2.2.2,[],10,19,[]⟩:St)) (fun (r1:Int)=>(⟨[],Ye u.2.1 u.2.2.1 u.2.2.2.1 u.2.2.2.2,[],12,19,[]⟩:St))) r).nx⟩) (fun rc H u r h=>m83f9s_ok rc (fun a0 a1 a2 a3 a4 r h=>H (a0,a1,a2,a3,a4) r h) u.1 u.2.1 u.2.2.1 u.2.2.2.1 u.2.2.2.2 r h) n u r h0
theorem m83f9_ok (a0:Tm) (a1:List Dcl) (a2:Qa Bs Ent) (a3:Qa Bs Ent) (a4:Tm) (r:Bool⊕Int) (h0:m83f9 a0 a1 a2 a3 a4=some r):CallE Try.prog 83 [.agg (cE a0),.one (.yld 0)] ⟨Jz a1 a2 a3 a4,[],8⟩ ((Sum.elim (fun (r0:Bool)=>((.ret [.one (dB r0)]):EK)) (fun (r1:Int)=>((.pan (QJ 90 r1)):EK))) r) ⟨((Sum.elim (fun (r0:Bool)=>(⟨[(4,.v (.one (dB r0)))],Jz a1 a2 a3 a4,[],10,19,[]⟩:St)) (fun (r1:Int)=>(⟨[],Ye a1 a2 a3 a4,[],12,19,[]⟩:St))) r).hp,((Sum.elim (fun (r0:Bool)=>(⟨[(4,.v (.one (dB r0)))],Jz a1 a2 a3 a4,[],10,19,[]⟩:St)) (fun (r1:Int)=>(⟨[],Ye a1 a2 a3 a4,[],12,19,[]⟩:St))) r).tk,((Sum.elim (fun (r0:Bool)=>(⟨[(4,.v (.one (dB r0)))],Jz a1 a2 a3 a4,[],10,19,[]⟩:St)) (fun (r1:Int)=>(⟨[],Ye a1 a2 a3 a4,[],12,19,[]⟩:St))) r).nx⟩:=m83f9_all QF (a0,a1,a2,a3,a4) r h0
end Go.Proofs.Ytafddfoefeploaa
namespace Go.Proofs.Ytafddfoefeploaa
open Go.RowKit Go.Shelf
theorem fo_62_0:J1 Try.prog 62 0=some 0:=by kernel_rfl
theorem ag_22:Jw Try.prog 22=some (false,1):=by kernel_rfl
theorem z_60:JD Try.prog 60=some [.map none]:=by kernel_rfl
theorem en_46:J4 Try.prog 46:=enters_of Try.func46 (by kernel_rfl) rfl
theorem en_47:J4 Try.prog 47:=enters_of Try.func47 (by kernel_rfl) rfl
theorem en_67:J4 Try.prog 67:=enters_of Try.func67 (by kernel_rfl) rfl
theorem en_82:J4 Try.prog 82:=enters_of Try.func82 (by kernel_rfl) rfl
noncomputable abbrev m46f8_h0 (p0_:List Dcl) (p1_:Qa Bs Ent) (p2_:Qa Bs Ent) (p3_:Tm):List (Nat×HB) :=
 [(0,.cells 62 [dS p0_,.mp 1]),(1,.mp (QO p1_.1) p1_.2),(2,.mp (QO p2_.1) p2_.2),(3,.cells 59 [.ptr 0 0]),(4,.cells 33 (cE p3_)),(5,.cells 60 [.mp 2])]
noncomputable abbrev m46f8_h1 (p0_:List Dcl) (p1_:Qa Bs Ent) (p2_:Qa Bs Ent) (p3_:Tm):List (Nat×HB) :=
 [(0,.cells 62 [dS p0_,.mp 1]),(1,.mp (QO p1_.1) p1_.2),(2,.mp (QO p2_.1) p2_.2),(3,.cells 59 [.ptr 0 0]),(4,.cells 33 (cE p3_)),(5,.cells 60 [.mp 2]),(6,.cells 33 (cE p3_))]
noncomputable abbrev m46f8_h2 :HB :=
 .loop .ready none [(5,.v (.one (.ptr 3 0))),(9,.v (.one (.ptr 5 0))),(23,.v (.one (.fn 82 [(6,0)])))] 53 #[24] YR Yq 7
noncomputable abbrev ZM (p0_:List Dcl) (p1_:Qa Bs Ent) (p2_:Qa Bs Ent) (p3_:Tm):List (Nat×HB) :=
 [(0,.cells 62 [dS p0_,.mp 1]),(1,.mp (QO p1_.1) p1_.2),(2,.mp (QO p2_.1) p2_.2),(3,.cells 59 [.ptr 0 0]),(4,.cells 33 (cE p3_)),(5,.cells 60 [.mp 2]),(6,.cells 33 (cE p3_)),(7,.obj (.deferred (some []))),(8,m46f8_h2)]
noncomputable abbrev m46f8_h4 :HB :=
 .loop .busy none [(5,.v (.one (.ptr 3 0))),(9,.v (.one (.ptr 5 0))),(23,.v (.one (.fn 82 [(6,0)])))] 53 #[24] YR Yq 7
noncomputable abbrev ZL (p0_:List Dcl) (p1_:Qa Bs Ent) (p2_:Qa Bs Ent) (p3_:Tm):List (Nat×HB) :=
 [(0,.cells 62 [dS p0_,.mp 1]),(1,.mp (QO p1_.1) p1_.2),(2,.mp (QO p2_.1) p2_.2),(3,.cells 59 [.ptr 0 0]),(4,.cells 33 (cE p3_)),(5,.cells 60 [.mp 2]),(6,.cells 33 (cE p3_)),(7,.obj (.deferred (some []))),(8,m46f8_h4)]
noncomputable abbrev YW (p0_:List Dcl) (p1_:Qa Bs Ent) (p2_:Qa Bs Ent):List (Nat×HB) :=
 [(0,.cells 62 [dS p0_,.mp 1]),(1,.mp (QO p1_.1) p1_.2),(2,.mp (QO p2_.1) p2_.2)]
noncomputable def Gl (a0:Tm) (a1:Int) (a2:Int) (a3:List Dcl) (a4:Qa Bs Ent) (a5:Qa Bs Ent):Option (Unit⊕Int) :=
 Option.bind (m66 a0 a1 a2 0 0) fun (x1:Int) =>
 Option.bind (Jy (x1==0) x1) (Sum.elim (fun (x3:Unit)=>Option.bind (some ()) (fun (y5:Unit)=>Option.bind (Option.bind (m83f9 a0 a3 a4 a5 a0) (Sum.elim (fun (x12:Bool)=>some (.inl ())) (fun (x13:Int)=>some (.inr x13)))) (Sum.elim (fun (y7:Unit)=>some (.inl ())) (fun (y8:Int)=>some (.inr y8))))) (fun (x4:Unit)=>some (.inr x1)))
theorem YF (a0:Tm) (a1:Int) (a2:Int) (a3:List Dcl) (a4:Qa Bs Ent) (a5:Qa Bs Ent) (r:Unit⊕Int) (h0:Gl a0 a1 a2 a3 a4 a5=some r):CallE Try.prog 46 [.one (.ptr 0 0),.agg (cE a0),.one (dI a1),.one (dI a2),.one (.mp 2)] ⟨YW a3 a4 a5,[],3⟩ ((Sum.elim (fun (r0:Unit)=>((.ret []):EK)) (fun (r1:Int)=>((.pan (QJ 90 r1)):EK))) r) ⟨((Sum.elim (fun (r0:Unit)=>(⟨[],YW a3 a4 a5,[],11,53,[]⟩:St)) (fun (r1:Int)=>(⟨[],YW a3 a4 a5,[],6,53,[]⟩:St))) r).hp,((Sum.elim (fun (r0:Unit)=>(⟨[],YW a3 a4 a5,[],11,53,[]⟩:St)) (fun (r1:Int)=>(⟨[],YW a3 a4 a5,[],6,53,[]⟩:St))) r).tk,((Sum.elim (fun (r0:Unit)=>(⟨[],YW a3 a4 a5,[],11,53,[]⟩:St)) (fun (r1:Int)=>(⟨[],YW a3 a4 a5,[],6,53,[]⟩:St))) r).nx⟩:=by
 unfold Gl at h0
 refine JK r ((Sum.elim (fun (r0:Unit)=>(⟨[],YW a3 a4 a5,[],11,53,[]⟩:St)) (fun (r1:Int)=>(⟨[],YW a3 a4 a5,[],6,53,[]⟩:St)))) ((Sum.elim (fun (r0:Unit)=>((.ret []):EK)) (fun (r1:Int)=>((.pan (QJ 90 r1)):EK)))) rfl rfl en_46 (lb rfl) (fun z_=>by cases z_ with
 | inl _=>exact rfl
 | inr _=>exact rfl) (fun z_=>by cases z_ with
 | inl _=>exact (Du .nil)
 | inr _=>exact DB) (fun w0 M V0 Q hv0 hQ0=>?_)
 simp only [Ja]
 refine Q5<|Q0<|Q9 J J (lb J) (QT J)<|Q9 J J (lb J) (QT J)<|Q9 J J (lb J) (QT J)<|Q3<|Q4<|Q5<|Q0<|rR J J J (QN (a0:Tm) QV J J)<|rM J J J<|rM J J J ?_
 refine Qb h0 (fun x1 hx1 h0=>?_)
 refine Q9 J J (lb J) (Qq (m66_ok a0 a1 a2 0 0 x1 hx1) J (.cons (.agg (.cons (.d _) (.cons (.d _) (.cons (.d _) (.cons (.d _) (.cons (.d _) .nil)))))) (.cons (.one (.d _)) (.cons (.one (.d _)) (.cons (.one (.d _)) (.cons (.one (.d _)) .nil))))))<|rA J J J<|Q3<|Q4<|Q5<|Q0<|rM J J J<|rR J J J (Q7 J J J)<|rM J J J ?_
 refine Qb h0 (fun x2 hx2 h0=>?_)
 refine JY id hx2 h0 (fun x3 hx3 h0=>?_) (fun x4 hx4 h0=>?_)
 refine Q9 J J (lb J) (QE J J J (CallE.m (QB (x1==0) x1 (.inl x3) hx3)) J)<|Q3<|Q4<|Q5<|Q0<|rR J J J (QN (a0:Tm) QV J J) ?_
 refine Qb h0 (fun y5 h1 h0=>?_)
 have hc6:CallM Try.prog 67 [.agg (cE a0)] ⟨m46f8_h0 a3 a4 a5 a0,[],6⟩ (QK [.one (.fn 82 [(6,0)])]) ⟨m46f8_h1 a3 a4 a5 a0,[],7⟩:=by
  refine J0 ⟨[(2,.v (.one (.fn 82 [(6,0)])))],m46f8_h1 a3 a4 a5 a0,[],7,4,[]⟩ J J en_67 (lb J) J (QC J .nil) (fun w0 M V0 Q hv1 hQ1=>?_)
  simp only [Ja]
  refine Q5<|Q0<|Q9 J J (lb J) (QT J)<|rA J J J<|Q3<|Q4<|Q5<|Q0<|rR J J J (YU J)<|rA J J J<|Q3<|Q4<|QD ?_
  have e:=sI h1;subst e
  exact hQ1 _ _ _ (.inr J) J (Qu (tA J) (hA J) kZ J (Nat.le_trans hv1 (lb J)) J J J (bB J J (bG J (bG J (bA J)))) J J)
 refine Q9 J J (lb J) (JJ J J J hc6 J (hA J) kZ)<|Q3<|Q4<|Qf<|KH (st':=⟨[(5,.v (.one (.ptr 3 0))),(9,.v (.one (.ptr 5 0))),(23,.v (.one (.fn 82 [(6,0)])))],m46f8_h1 a3 a4 a5 a0,[],7,53,[]⟩) (Qu (tA J) (hA J) kZ J (Nat.le_trans hv0 (lb J)) J J J (bB J J (bG J (bG J (bA J)))) J J) ?_
 refine Qb h0 (fun y10 h1 h0=>?_)
 have hc9:CallE Try.prog 82 [.one (.yld 8),.one (.ptr 6 0)] ⟨[(8,.loop .ready none [(5,.v (.one (.ptr 3 0))),(9,.v (.one (.ptr 5 0))),(23,.v (.one (.fn 82 [(6,0)])))] 53 #[24] YR Yq 7),(7,.obj (.deferred (some []))),(0,.cells 62 [dS a3,.mp 1]),(1,.mp (QO a4.1) a4.2),(2,.mp (QO a5.1) a5.2),(3,.cells 59 [.ptr 0 0]),(4,.cells 33 (cE a0)),(5,.cells 60 [.mp 2]),(6,.cells 33 (cE a0))],[],9⟩ (((Sum.elim (fun (y7:Unit)=>((.ret []):EK)) (fun (y8:Int)=>((.pan (QJ 90 y8)):EK)))) y10) ⟨(((Sum.elim (fun (y7:Unit)=>(⟨[],ZM a3 a4 a5 a0,[],11,6,[]⟩:St)) (fun (y8:Int)=>(⟨[],ZL a3 a4 a5 a0,[],13,6,[]⟩:St)))) y10).hp,(((Sum.elim (fun (y7:Unit)=>(⟨[],ZM a3 a4 a5 a0,[],11,6,[]⟩:St)) (fun (y8:Int)=>(⟨[],ZL a3 a4 a5 a0,[],13,6,[]⟩:St)))) y10).tk,(((Sum.elim (fun (y7:Unit)=>(⟨[],ZM a3 a4 a5 a0,[],11,6,[]⟩:St)) (fun (y8:Int)=>(⟨[],ZL a3 a4 a5 a0,[],13,6,[]⟩:St)))) y10).nx⟩:=by
  refine JK y10 ((Sum.elim (fun (y7:Unit)=>(⟨[],ZM a3 a4 a5 a0,[],11,6,[]⟩:St)) (fun (y8:Int)=>(⟨[],ZL a3 a4 a5 a0,[],13,6,[]⟩:St)))) ((Sum.elim (fun (y7:Unit)=>((.ret []):EK)) (fun (y8:Int)=>((.pan (QJ 90 y8)):EK)))) rfl rfl en_82 (lb rfl) (fun z_=>by cases z_ with
    | inl _=>exact rfl
    | inr _=>exact rfl) (fun z_=>by cases z_ with
    | inl _=>exact (Du .nil)
    | inr _=>exact DB) (fun w0 M V0 Q hv1 hQ1=>?_)
  simp only [Ja]
  refine Q0<|rR J J J (QN (a0:Tm) QV J J)<|rM J J J ?_
  refine Qb h1 (fun x11 hx11 h1=>?_)
  refine JY id hx11 h1 (fun x12 hx12 h1=>?_) (fun x13 hx13 h1=>?_)
  refine Q9 J J (lb J) (Jj (hp1':=[(8,.loop .ready none [(5,.v (.one (.ptr 3 0))),(9,.v (.one (.ptr 5 0))),(23,.v (.one (.fn 82 [(6,0)])))] 53 #[24] YR Yq 7),(7,.obj (.deferred (some []))),(3,.cells 59 [.ptr 0 0]),(0,.cells 62 [dS a3,.mp 1]),(1,.mp (QO a4.1) a4.2),(5,.cells 60 [.mp 2]),(2,.mp (QO a5.1) a5.2),(6,.cells 33 (cE a0))]) (tk1':=[]) (hpF:=[(4,.cells 33 (cE a0))]) (tkF:=[]) (res2:=QK [.one (dB x12)]) (nx2:=11) [8,7,3,0,1,5,2,6] J J (CallE.m (m83f9_ok a0 a3 a4 a5 a0 (.inl x12) hx12)) J J (qB J J (qB J J (qB J J (qB J J (qG J (qB J J (qG J (qB J J qZ)))))))) J J (gR J (gR J (gR J (gR J (gG J (gR J (gG J (gR J gZ)))))))) jZ (hA J) kZ J J J J J (bB J J (bB J J (bB J J (bB J J (bG J (bB J J (bG J (bA J)))))))) J J J J)<|Q3 ?_
  have e:=sI h1;subst e
  exact hQ1 _ _ byN J (show StLe _ _ ⟨[],ZM a3 a4 a5 a0,[],11,6,[]⟩ from (Qu tZ (hA J) kZ J (Nat.le_trans hv1 (lb J)) J J J (bB J J (bG J (bG J (bA J)))) J J))
  refine Jf J (Yy (hp1':=[(8,.loop .busy none [(5,.v (.one (.ptr 3 0))),(9,.v (.one (.ptr 5 0))),(23,.v (.one (.fn 82 [(6,0)])))] 53 #[24] YR Yq 7),(7,.obj (.deferred (some []))),(3,.cells 59 [.ptr 0 0]),(0,.cells 62 [dS a3,.mp 1]),(1,.mp (QO a4.1) a4.2),(5,.cells 60 [.mp 2]),(2,.mp (QO a5.1) a5.2),(6,.cells 33 (cE a0))]) (tk1':=[]) (hpF:=[(4,.cells 33 (cE a0))]) (tkF:=[]) (nx2:=13) [8,7,3,0,1,5,2,6] J J (CallE.d (m83f9_ok a0 a3 a4 a5 a0 (.inr x13) hx13)) J J (qB J J (qB J J (qB J J (qB J J (qG J (qB J J (qG J (qB J J qZ)))))))) J (gR J (gR J (gR J (gR J (gG J (gR J (gG J (gR J gZ)))))))) jZ (hA J) kZ J J J J J (bB J J (bB J J (bB J J (bB J J (bG J (bB J J (bG J (bA J)))))))) J J J J) ?_
  have e:=sI h1;subst e
  exact Jo (hQ1 (.panic (Jx (QJ 90 x13))) _ ZY J (show StLe _ _ ⟨[],ZL a3 a4 a5 a0,[],13,6,[]⟩ from (Qu tZ (hA J) kZ J (Nat.le_trans hv1 (lb J)) J J J (bB J J (bG J (bG J (bA J)))) J J))) (fun _ _ h=>h)
 refine U2 (C:=fun q_=>CallE Try.prog 82 [.one (.yld 8),.one (.ptr 6 0)] ⟨[(8,.loop .ready none [(5,.v (.one (.ptr 3 0))),(9,.v (.one (.ptr 5 0))),(23,.v (.one (.fn 82 [(6,0)])))] 53 #[24] YR Yq 7),(7,.obj (.deferred (some []))),(0,.cells 62 [dS a3,.mp 1]),(1,.mp (QO a4.1) a4.2),(2,.mp (QO a5.1) a5.2),(3,.cells 59 [.ptr 0 0]),(4,.cells 33 (cE a0)),(5,.cells 60 [.mp 2]),(6,.cells 33 (cE a0))],[],9⟩ (((Sum.elim (fun (y7:Unit)=>((.ret []):EK)) (fun (y8:Int)=>((.pan (QJ 90 y8)):EK)))) q_) ⟨(((Sum.elim (fun (y7:Unit)=>(⟨[],ZM a3 a4 a5 a0,[],11,6,[]⟩:St)) (fun (y8:Int)=>(⟨[],ZL a3 a4 a5 a0,[],13,6,[]⟩:St)))) q_).hp,(((Sum.elim (fun (y7:Unit)=>(⟨[],ZM a3 a4 a5 a0,[],11,6,[]⟩:St)) (fun (y8:Int)=>(⟨[],ZL a3 a4 a5 a0,[],13,6,[]⟩:St)))) q_).tk,(((Sum.elim (fun (y7:Unit)=>(⟨[],ZM a3 a4 a5 a0,[],11,6,[]⟩:St)) (fun (y8:Int)=>(⟨[],ZL a3 a4 a5 a0,[],13,6,[]⟩:St)))) q_).nx⟩) hc9 h0 (fun y7 hc9 h0=>?_) (fun y8 hc9 h0=>?_)
 replace hc9:CallM Try.prog 82 [.one (.yld 8),.one (.ptr 6 0)] ⟨[(8,.loop .ready none [(5,.v (.one (.ptr 3 0))),(9,.v (.one (.ptr 5 0))),(23,.v (.one (.fn 82 [(6,0)])))] 53 #[24] YR Yq 7),(7,.obj (.deferred (some []))),(0,.cells 62 [dS a3,.mp 1]),(1,.mp (QO a4.1) a4.2),(2,.mp (QO a5.1) a5.2),(3,.cells 59 [.ptr 0 0]),(4,.cells 33 (cE a0)),(5,.cells 60 [.mp 2]),(6,.cells 33 (cE a0))],[],9⟩ (QK []) ⟨ZM a3 a4 a5 a0,[],11⟩:=hc9
 refine ZU (Y1 (e:=.normal) rfl hc9 rfl rfl (by intro h;cases h) rfl) rfl ?_
 refine Qe ?_
 have e:=sI h0;subst e
 exact hQ0 _ _ byN J (show StLe _ _ ⟨[],YW a3 a4 a5,[],11,53,[]⟩ from (Qu tZ (hA J) kZ J (Nat.le_trans hv0 (lb J)) J J J (bB J J (bG J (bG J bZ))) J J))
 replace hc9:Wd Try.prog 82 [.one (.yld 8),.one (.ptr 6 0)] ⟨[(8,.loop .ready none [(5,.v (.one (.ptr 3 0))),(9,.v (.one (.ptr 5 0))),(23,.v (.one (.fn 82 [(6,0)])))] 53 #[24] YR Yq 7),(7,.obj (.deferred (some []))),(0,.cells 62 [dS a3,.mp 1]),(1,.mp (QO a4.1) a4.2),(2,.mp (QO a5.1) a5.2),(3,.cells 59 [.ptr 0 0]),(4,.cells 33 (cE a0)),(5,.cells 60 [.mp 2]),(6,.cells 33 (cE a0))],[],9⟩ (QJ 90 y8) ⟨ZL a3 a4 a5 a0,[],13⟩:=hc9
 refine ZU (rangeFunc_outD J hc9 J) J ?_
 have e:=sI h0;subst e
 exact Jo (hQ0 (.panic (Jx (QJ 90 y8))) _ ZY J (show StLe _ _ ⟨[],YW a3 a4 a5,[],6,53,[]⟩ from (Qu tZ (hA J) kZ J (Nat.le_trans hv0 (lb J)) J J J (bB J J (bG J (bG J bZ))) J J))) (fun _ _ h=>h)
 refine Jf J (QH J J J (CallE.d (QB (x1==0) x1 (.inr x4) hx4))) ?_
 have e:=sI h0;subst e
 exact Jo (hQ0 (.panic (Jx (QJ 90 x1))) _ ZY J (show StLe _ _ ⟨[],YW a3 a4 a5,[],6,53,[]⟩ from (Qu tZ (hA J) kZ J (Nat.le_trans hv0 (lb J)) J J J (bB J J (bG J (bG J bZ))) J J))) (fun _ _ h=>h)
noncomputable def m47f10_l0 (a0:Dcl) (a1:List Dcl) (s2:Int×(Qa Bs Ent)):Option (LO (Int×(Qa Bs Ent)) (((Qa Bs Ent)))) :=
 cond (decide (s2.1 < (a0.ctors.length:Int)))
   (Option.bind (JC a0.ctors s2.1) fun (x17:Ctr) =>
 Option.bind (some ()) (fun (y18:Unit)=>some (.next ((J9 (s2.1+1)),(J2 s2.2 x17.name (⟨4,(a1.length:Int),s2.1,a0.params,x17.ty⟩:Ent))))))
   (some (.done s2.2))
noncomputable def m47f10_k1 (p0_:Dcl) (p1_:(Qa Bs Ent)) (p2_:List Dcl):Option (((Qa Bs Ent))) :=
 Jd (Nat.ble (p0_.name.length+([46,114,101,99]:List UInt8).length) 1000000000)
 (Option.bind (some ()) (fun (b0_:Unit)=>some (J2 p1_ (p0_.name++([46,114,101,99]:List UInt8)) (⟨5,(p2_.length:Int),0,p0_.rcr.params,p0_.rcr.ty⟩:Ent))))
noncomputable def m47f10_l2 (a0:Dcl) (a1:List Dcl) (s2:Int×(Qa Bs Ent)):Option (LO (Int×(Qa Bs Ent)) (((Qa Bs Ent)))) :=
 cond (decide (s2.1 < (a0.funs.length:Int)))
   (Option.bind (JC a0.funs s2.1) fun (x29:Fn) =>
 Option.bind (some ()) (fun (y30:Unit)=>some (.next ((J9 (s2.1+1)),(J2 s2.2 x29.name (⟨6,(a1.length:Int),s2.1,a0.params,x29.ty⟩:Ent))))))
   (some (.done s2.2))
noncomputable def m47f10_k3 (p0_:Bool) (p1_:Dcl) (p2_:List Dcl):Option (((Qa Bs Ent))) :=
 cond p0_
   (Option.bind (JC ([0,1,2]) p1_.kind) fun (b0_:Int) =>
 Option.bind (some ()) (fun (b1_:Unit)=>some (J2 gmNil p1_.name (⟨b0_,(p2_.length:Int),0,p1_.params,p1_.ty⟩:Ent))))
   (cond (p1_.kind==3)
   (Option.bind (some ()) (fun (b2_:Unit)=>Option.bind (Qp (m47f10_l0 p1_ p2_) QF (0,(J2 gmNil p1_.name (⟨3,(p2_.length:Int),0,p1_.params,p1_.ty⟩:Ent)))) (fun (b3_:(Qa Bs Ent))=>m47f10_k1 p1_ b3_ p2_)))
   (cond (p1_.kind==4)
   (Option.bind (Qp (m47f10_l2 p1_ p2_) QF (0,gmNil)) (fun (b4_:(Qa Bs Ent))=>some b4_))
   (some gmNil)))
noncomputable def KP (a0:Dcl) (a1:List Dcl) (a2:Qa Bs Ent) (a3:Qa Bs Ent) (y3:(Qa Bs Ent)) (s1:Int):Option (LO Int (Unit⊕(((Qa Bs Ent))⊕(Int×(Qa Bs Ent))))) :=
 cond (decide (s1 < (a0.ctors.length:Int)))
   (Option.bind (JC a0.ctors s1) fun (x38:Ctr) =>
 Option.bind (Gl x38.ty 0 a0.params a1 a2 (J2 a3 a0.name (⟨(Qn y3 a0.name).kind,(Qn y3 a0.name).decl,(Qn y3 a0.name).item,(Qn y3 a0.name).params,((Qn y3 a0.name).ty)⟩:Ent))) (Sum.elim (fun (x40:Unit)=>some (.next (J9 (s1+1)))) (fun (x41:Int)=>some (.done (.inr (.inr (x41,(J2 a3 a0.name (⟨(Qn y3 a0.name).kind,(Qn y3 a0.name).decl,(Qn y3 a0.name).item,(Qn y3 a0.name).params,((Qn y3 a0.name).ty)⟩:Ent)))))))))
   (some (.done (.inl ())))
noncomputable def Kb (a0:Dcl) (y3:(Qa Bs Ent)) (s1:Int×(Qa Bs Ent)):Option (LO (Int×(Qa Bs Ent)) (((Qa Bs Ent)))) :=
 cond (decide (s1.1 < (a0.ctors.length:Int)))
   (Option.bind (JC a0.ctors s1.1) fun (x39:Ctr) =>
 some (.next ((J9 (s1.1+1)),(J2 s1.2 x39.name (⟨(Qn y3 x39.name).kind,(Qn y3 x39.name).decl,(Qn y3 x39.name).item,(Qn y3 x39.name).params,((Qn y3 x39.name).ty)⟩:Ent)))))
   (some (.done s1.2))
noncomputable def KO (a0:Dcl) (a1:List Dcl) (a2:Qa Bs Ent) (o37:(Qa Bs Ent)) (y3:(Qa Bs Ent)) (s1:Int):Option (LO Int (Unit⊕(((Qa Bs Ent))⊕(Int×(Qa Bs Ent))))) :=
 cond (decide (s1 < (a0.rcr.rules.length:Int)))
   (Option.bind (JC a0.rcr.rules s1) fun (x44:Tm) =>
 Option.bind (Gl x44 0 a0.rcr.params a1 a2 (J2 o37 (a0.name++([46,114,101,99]:List UInt8)) (⟨(Qn y3 (a0.name++([46,114,101,99]:List UInt8))).kind,(Qn y3 (a0.name++([46,114,101,99]:List UInt8))).decl,(Qn y3 (a0.name++([46,114,101,99]:List UInt8))).item,(Qn y3 (a0.name++([46,114,101,99]:List UInt8))).params,((Qn y3 (a0.name++([46,114,101,99]:List UInt8))).ty)⟩:Ent))) (Sum.elim (fun (x46:Unit)=>some (.next (J9 (s1+1)))) (fun (x47:Int)=>some (.done (.inr (.inr (x47,(J2 o37 (a0.name++([46,114,101,99]:List UInt8)) (⟨(Qn y3 (a0.name++([46,114,101,99]:List UInt8))).kind,(Qn y3 (a0.name++([46,114,101,99]:List UInt8))).decl,(Qn y3 (a0.name++([46,114,101,99]:List UInt8))).item,(Qn y3 (a0.name++([46,114,101,99]:List UInt8))).params,((Qn y3 (a0.name++([46,114,101,99]:List UInt8))).ty)⟩:Ent)))))))))
   (some (.done (.inl ())))
noncomputable def m47f10_k7 (p0_:(Qa Bs Ent)) (p1_:Dcl) (p2_:(Qa Bs Ent)):Option (((Qa Bs Ent))⊕(Int×(Qa Bs Ent))) :=
 some (.inl (J2 p0_ (p1_.name++([46,114,101,99]:List UInt8)) (⟨(Qn p2_ (p1_.name++([46,114,101,99]:List UInt8))).kind,(Qn p2_ (p1_.name++([46,114,101,99]:List UInt8))).decl,(Qn p2_ (p1_.name++([46,114,101,99]:List UInt8))).item,(Qn p2_ (p1_.name++([46,114,101,99]:List UInt8))).params,((Qn p2_ (p1_.name++([46,114,101,99]:List UInt8))).ty)⟩:Ent)))
noncomputable def m47f10_k8 (p0_:Dcl) (p1_:List Dcl) (p2_:Qa Bs Ent) (p3_:(Qa Bs Ent)) (p4_:(Qa Bs Ent)):Option (((Qa Bs Ent))⊕(Int×(Qa Bs Ent))) :=
 Option.bind (Gl p0_.rcr.ty 0 p0_.rcr.params p1_ p2_ p3_) (Sum.elim (fun (b0_:Unit)=>Jd (Nat.ble (p0_.name.length+([46,114,101,99]:List UInt8).length) 1000000000)
 (Option.bind (Qp (KO p0_ p1_ p2_ p3_ p4_) QF 0) (Sum.elim (fun (b1_:Unit)=>m47f10_k7 p3_ p0_ p4_) (fun o=>some o)))) (fun (b2_:Int)=>some (.inr (b2_,p3_))))
noncomputable def KQ (p0_:Dcl) (p1_:(Qa Bs Ent)) (p2_:Qa Bs Ent) (p3_:List Dcl) (p4_:Qa Bs Ent):Option (((Qa Bs Ent))⊕(Int×(Qa Bs Ent))) :=
 Option.bind (Qp (Kb p0_ p1_) QF (0,(J2 p2_ p0_.name (⟨(Qn p1_ p0_.name).kind,(Qn p1_ p0_.name).decl,(Qn p1_ p0_.name).item,(Qn p1_ p0_.name).params,((Qn p1_ p0_.name).ty)⟩:Ent)))) (fun (b0_:(Qa Bs Ent))=>m47f10_k8 p0_ p3_ p4_ b0_ p1_)
noncomputable abbrev Zd :HB :=
 .mp (QO (gmNil:Qa Bs Ent).1) (gmNil:Qa Bs Ent).2
noncomputable abbrev m47f10_h1 (p0_:List Dcl) (p1_:Qa Bs Ent) (p2_:Qa Bs Ent) (p3_:Dcl):List (Nat×HB) :=
 [(0,.cells 62 [dS p0_,.mp 1]),(1,.mp (QO p1_.1) p1_.2),(2,.mp (QO p2_.1) p2_.2),(3,.cells 45 (cE p3_)),(4,Zd),(5,.cells 60 [.mp 4])]
noncomputable abbrev m47f10_h2 (p0_:List Dcl) (p1_:Qa Bs Ent) (p2_:Qa Bs Ent) (p3_:Dcl):List (Nat×HB) :=
 [(0,.cells 62 [dS p0_,.mp 1]),(1,.mp (QO p1_.1) p1_.2),(2,.mp (QO p2_.1) p2_.2),(3,.cells 45 (cE p3_)),(4,Zd),(5,.cells 60 [.mp 4]),(6,.cells 45 (cE p3_)),(7,.cells 3 [dI (p0_.length:Int)])]
noncomputable abbrev Y6 :HB :=
 .loop .ready none [(0,.v (.one (.ptr 0 0))),(2,.v (.one (.mp 2))),(4,.v (.one (.ptr 3 0))),(6,.v (.one (.ptr 5 0))),(23,.v (.one (.fn 49 [(7,0),(6,0)])))] 99 #[24,25] ZB ZA 8
noncomputable abbrev m47f10_h4 (p0_:List Dcl) (p1_:Qa Bs Ent) (p2_:Qa Bs Ent) (p3_:Dcl) (p4_:(Qa Bs Ent)):List (Nat×HB) :=
 [(0,.cells 62 [dS p0_,.mp 1]),(1,.mp (QO p1_.1) p1_.2),(2,.mp (QO p2_.1) p2_.2),(3,.cells 45 (cE p3_)),(4,.mp (QO p4_.1) p4_.2),(5,.cells 60 [.mp 4]),(6,.cells 45 (cE p3_)),(7,.cells 3 [dI (p0_.length:Int)]),(8,.obj (.deferred (some []))),(9,Y6)]
noncomputable abbrev Kc (p0_:List Dcl) (p1_:Dcl):HB :=
 .cells 35 [dI 0,dI (p0_.length:Int),dI 0,dI p1_.params,dI p1_.ty.kind,dI p1_.ty.index,Jn p1_.ty.name,dS p1_.ty.levels,dS p1_.ty.kids]
noncomputable abbrev m47f10_h6 (p0_:List Dcl) (p1_:Qa Bs Ent) (p2_:Qa Bs Ent) (p3_:Dcl):List (Nat×HB) :=
 [(0,.cells 62 [dS p0_,.mp 1]),(1,.mp (QO p1_.1) p1_.2),(2,.mp (QO p2_.1) p2_.2),(3,.cells 45 (cE p3_)),(4,Zd),(5,.cells 60 [.mp 4]),(6,.cells 45 (cE p3_)),(7,.cells 3 [dI (p0_.length:Int)]),(8,.obj (.deferred (some []))),(9,Y6),(10,Kc p0_ p3_)]
noncomputable abbrev KR (p0_:Int) (p1_:List Dcl) (p2_:Dcl):HB :=
 .cells 35 [dI p0_,dI (p1_.length:Int),dI 0,dI p2_.params,dI p2_.ty.kind,dI p2_.ty.index,Jn p2_.ty.name,dS p2_.ty.levels,dS p2_.ty.kids]
noncomputable abbrev m47f10_h8 (p0_:List Dcl) (p1_:Qa Bs Ent) (p2_:Qa Bs Ent) (p3_:Dcl) (p4_:Int):List (Nat×HB) :=
 [(0,.cells 62 [dS p0_,.mp 1]),(1,.mp (QO p1_.1) p1_.2),(2,.mp (QO p2_.1) p2_.2),(3,.cells 45 (cE p3_)),(4,Zd),(5,.cells 60 [.mp 4]),(6,.cells 45 (cE p3_)),(7,.cells 3 [dI (p0_.length:Int)]),(8,.obj (.deferred (some []))),(9,Y6),(10,KR p4_ p0_ p3_)]
noncomputable abbrev Z0 :HB :=
 .loop .busy none [(0,.v (.one (.ptr 0 0))),(2,.v (.one (.mp 2))),(4,.v (.one (.ptr 3 0))),(6,.v (.one (.ptr 5 0))),(23,.v (.one (.fn 49 [(7,0),(6,0)])))] 99 #[24,25] ZB ZA 8
noncomputable abbrev m47f10_h10 (p0_:List Dcl) (p1_:Qa Bs Ent) (p2_:Qa Bs Ent) (p3_:Dcl) (p4_:Int):List (Nat×HB) :=
 [(0,.cells 62 [dS p0_,.mp 1]),(1,.mp (QO p1_.1) p1_.2),(2,.mp (QO p2_.1) p2_.2),(3,.cells 45 (cE p3_)),(4,Zd),(5,.cells 60 [.mp 4]),(6,.cells 45 (cE p3_)),(7,.cells 3 [dI (p0_.length:Int)]),(8,.obj (.deferred (some []))),(9,Z0),(10,KR p4_ p0_ p3_),(12,KR p4_ p0_ p3_)]
noncomputable abbrev m47f10_h11 (p0_:List Dcl) (p1_:Qa Bs Ent) (p2_:Qa Bs Ent) (p3_:Dcl) (p4_:Int):List (Nat×HB) :=
 [(0,.cells 62 [dS p0_,.mp 1]),(1,.mp (QO p1_.1) p1_.2),(2,.mp (QO p2_.1) p2_.2),(3,.cells 45 (cE p3_)),(4,Zd),(5,.cells 60 [.mp 4]),(6,.cells 45 (cE p3_)),(7,.cells 3 [dI (p0_.length:Int)]),(8,.obj (.deferred (some []))),(9,Y6),(10,KR p4_ p0_ p3_),(12,KR p4_ p0_ p3_)]
noncomputable abbrev m47f10_h12 (p0_:Dcl) (p1_:Int) (p2_:List Dcl):HB :=
 .mp (QO ((J2 gmNil p0_.name (⟨p1_,(p2_.length:Int),0,p0_.params,p0_.ty⟩:Ent)):Qa Bs Ent).1) ((J2 gmNil p0_.name (⟨p1_,(p2_.length:Int),0,p0_.params,p0_.ty⟩:Ent)):Qa Bs Ent).2
noncomputable abbrev m47f10_h13 (p0_:List Dcl) (p1_:Qa Bs Ent) (p2_:Qa Bs Ent) (p3_:Dcl) (p4_:Int):List (Nat×HB) :=
 [(0,.cells 62 [dS p0_,.mp 1]),(1,.mp (QO p1_.1) p1_.2),(2,.mp (QO p2_.1) p2_.2),(3,.cells 45 (cE p3_)),(4,m47f10_h12 p3_ p4_ p0_),(5,.cells 60 [.mp 4]),(6,.cells 45 (cE p3_)),(7,.cells 3 [dI (p0_.length:Int)]),(8,.obj (.deferred (some []))),(9,Z0),(10,KR p4_ p0_ p3_)]
noncomputable abbrev JP (p0_:List Dcl) (p1_:Dcl):HB :=
 .cells 35 [dI 3,dI (p0_.length:Int),dI 0,dI p1_.params,dI p1_.ty.kind,dI p1_.ty.index,Jn p1_.ty.name,dS p1_.ty.levels,dS p1_.ty.kids]
noncomputable abbrev m47f10_h15 (p0_:List Dcl) (p1_:Qa Bs Ent) (p2_:Qa Bs Ent) (p3_:Dcl):List (Nat×HB) :=
 [(0,.cells 62 [dS p0_,.mp 1]),(1,.mp (QO p1_.1) p1_.2),(2,.mp (QO p2_.1) p2_.2),(3,.cells 45 (cE p3_)),(4,Zd),(5,.cells 60 [.mp 4]),(6,.cells 45 (cE p3_)),(7,.cells 3 [dI (p0_.length:Int)]),(8,.obj (.deferred (some []))),(9,Y6),(10,JP p0_ p3_)]
noncomputable abbrev m47f10_h16 (p0_:List Dcl) (p1_:Qa Bs Ent) (p2_:Qa Bs Ent) (p3_:Dcl):List (Nat×HB) :=
 [(0,.cells 62 [dS p0_,.mp 1]),(1,.mp (QO p1_.1) p1_.2),(2,.mp (QO p2_.1) p2_.2),(3,.cells 45 (cE p3_)),(4,Zd),(5,.cells 60 [.mp 4]),(6,.cells 45 (cE p3_)),(7,.cells 3 [dI (p0_.length:Int)]),(8,.obj (.deferred (some []))),(9,Z0),(10,JP p0_ p3_),(11,JP p0_ p3_)]
noncomputable abbrev m47f10_h17 (p0_:List Dcl) (p1_:Qa Bs Ent) (p2_:Qa Bs Ent) (p3_:Dcl):List (Nat×HB) :=
 [(0,.cells 62 [dS p0_,.mp 1]),(1,.mp (QO p1_.1) p1_.2),(2,.mp (QO p2_.1) p2_.2),(3,.cells 45 (cE p3_)),(4,Zd),(5,.cells 60 [.mp 4]),(6,.cells 45 (cE p3_)),(7,.cells 3 [dI (p0_.length:Int)]),(8,.obj (.deferred (some []))),(9,Y6),(10,JP p0_ p3_),(11,JP p0_ p3_)]
noncomputable abbrev m47f10_h18 (p0_:Dcl) (p1_:List Dcl):HB :=
 .mp (QO ((J2 gmNil p0_.name (⟨3,(p1_.length:Int),0,p0_.params,p0_.ty⟩:Ent)):Qa Bs Ent).1) ((J2 gmNil p0_.name (⟨3,(p1_.length:Int),0,p0_.params,p0_.ty⟩:Ent)):Qa Bs Ent).2
noncomputable abbrev m47f10_h19 (p0_:List Dcl) (p1_:Qa Bs Ent) (p2_:Qa Bs Ent) (p3_:Dcl):List (Nat×HB) :=
 [(0,.cells 62 [dS p0_,.mp 1]),(1,.mp (QO p1_.1) p1_.2),(2,.mp (QO p2_.1) p2_.2),(3,.cells 45 (cE p3_)),(4,m47f10_h18 p3_ p0_),(5,.cells 60 [.mp 4]),(6,.cells 45 (cE p3_)),(7,.cells 3 [dI (p0_.length:Int)]),(8,.obj (.deferred (some []))),(9,Z0),(10,JP p0_ p3_)]
noncomputable abbrev m47f10_h20 (p0_:List Dcl) (p1_:Qa Bs Ent) (p2_:Qa Bs Ent) (p3_:Dcl) (p4_:Int×(Qa Bs Ent)) (p5_:Ctr):List (Nat×HB) :=
 [(0,.cells 62 [dS p0_,.mp 1]),(1,.mp (QO p1_.1) p1_.2),(2,.mp (QO p2_.1) p2_.2),(3,.cells 45 (cE p3_)),(4,.mp (QO p4_.2.1) p4_.2.2),(5,.cells 60 [.mp 4]),(6,.cells 45 (cE p3_)),(7,.cells 3 [dI (p0_.length:Int)]),(8,.obj (.deferred (some []))),(9,Y6),(10,JP p0_ p3_),(12,.cells 71 (cE p5_))]
noncomputable abbrev m47f10_h21 (p0_:List Dcl) (p1_:Int×(Qa Bs Ent)) (p2_:Dcl) (p3_:Ctr):HB :=
 .cells 35 [dI 4,dI (p0_.length:Int),dI p1_.1,dI p2_.params,dI p3_.ty.kind,dI p3_.ty.index,Jn p3_.ty.name,dS p3_.ty.levels,dS p3_.ty.kids]
noncomputable abbrev m47f10_h22 (p0_:List Dcl) (p1_:Qa Bs Ent) (p2_:Qa Bs Ent) (p3_:Dcl) (p4_:Int×(Qa Bs Ent)) (p5_:Ctr):List (Nat×HB) :=
 [(0,.cells 62 [dS p0_,.mp 1]),(1,.mp (QO p1_.1) p1_.2),(2,.mp (QO p2_.1) p2_.2),(3,.cells 45 (cE p3_)),(4,.mp (QO p4_.2.1) p4_.2.2),(5,.cells 60 [.mp 4]),(6,.cells 45 (cE p3_)),(7,.cells 3 [dI (p0_.length:Int)]),(8,.obj (.deferred (some []))),(9,Z0),(10,JP p0_ p3_),(12,.cells 71 (cE p5_)),(13,m47f10_h21 p0_ p4_ p3_ p5_)]
noncomputable abbrev m47f10_h23 (p0_:List Dcl) (p1_:Qa Bs Ent) (p2_:Qa Bs Ent) (p3_:Dcl) (p4_:Int×(Qa Bs Ent)) (p5_:Ctr):List (Nat×HB) :=
 [(0,.cells 62 [dS p0_,.mp 1]),(1,.mp (QO p1_.1) p1_.2),(2,.mp (QO p2_.1) p2_.2),(3,.cells 45 (cE p3_)),(4,.mp (QO p4_.2.1) p4_.2.2),(5,.cells 60 [.mp 4]),(6,.cells 45 (cE p3_)),(7,.cells 3 [dI (p0_.length:Int)]),(8,.obj (.deferred (some []))),(9,Y6),(10,JP p0_ p3_),(12,.cells 71 (cE p5_)),(13,m47f10_h21 p0_ p4_ p3_ p5_)]
noncomputable abbrev m47f10_h24 (p0_:Int×(Qa Bs Ent)) (p1_:Ctr) (p2_:List Dcl) (p3_:Dcl):HB :=
 .mp (QO ((J2 p0_.2 p1_.name (⟨4,(p2_.length:Int),p0_.1,p3_.params,p1_.ty⟩:Ent)):Qa Bs Ent).1) ((J2 p0_.2 p1_.name (⟨4,(p2_.length:Int),p0_.1,p3_.params,p1_.ty⟩:Ent)):Qa Bs Ent).2
noncomputable abbrev m47f10_h25 (p0_:List Dcl) (p1_:Qa Bs Ent) (p2_:Qa Bs Ent) (p3_:Dcl) (p4_:Int×(Qa Bs Ent)) (p5_:Ctr):List (Nat×HB) :=
 [(0,.cells 62 [dS p0_,.mp 1]),(1,.mp (QO p1_.1) p1_.2),(2,.mp (QO p2_.1) p2_.2),(3,.cells 45 (cE p3_)),(4,m47f10_h24 p4_ p5_ p0_ p3_),(5,.cells 60 [.mp 4]),(6,.cells 45 (cE p3_)),(7,.cells 3 [dI (p0_.length:Int)]),(8,.obj (.deferred (some []))),(9,Z0),(10,JP p0_ p3_),(12,.cells 71 (cE p5_))]
noncomputable abbrev m47f10_h26 (p0_:List Dcl) (p1_:Qa Bs Ent) (p2_:Qa Bs Ent) (p3_:Dcl) (p4_:(Qa Bs Ent)):List (Nat×HB) :=
 [(0,.cells 62 [dS p0_,.mp 1]),(1,.mp (QO p1_.1) p1_.2),(2,.mp (QO p2_.1) p2_.2),(3,.cells 45 (cE p3_)),(4,.mp (QO p4_.1) p4_.2),(5,.cells 60 [.mp 4]),(6,.cells 45 (cE p3_)),(7,.cells 3 [dI (p0_.length:Int)]),(8,.obj (.deferred (some []))),(9,Y6),(10,JP p0_ p3_)]
noncomputable abbrev m47f10_h27 (p0_:List Dcl) (p1_:Dcl):HB :=
 .cells 35 [dI 5,dI (p0_.length:Int),dI 0,dI p1_.rcr.params,dI p1_.rcr.ty.kind,dI p1_.rcr.ty.index,Jn p1_.rcr.ty.name,dS p1_.rcr.ty.levels,dS p1_.rcr.ty.kids]
noncomputable abbrev m47f10_h28 (p0_:List Dcl) (p1_:Qa Bs Ent) (p2_:Qa Bs Ent) (p3_:Dcl) (p4_:(Qa Bs Ent)):List (Nat×HB) :=
 [(0,.cells 62 [dS p0_,.mp 1]),(1,.mp (QO p1_.1) p1_.2),(2,.mp (QO p2_.1) p2_.2),(3,.cells 45 (cE p3_)),(4,.mp (QO p4_.1) p4_.2),(5,.cells 60 [.mp 4]),(6,.cells 45 (cE p3_)),(7,.cells 3 [dI (p0_.length:Int)]),(8,.obj (.deferred (some []))),(9,Z0),(10,JP p0_ p3_),(12,m47f10_h27 p0_ p3_)]
noncomputable abbrev m47f10_h29 (p0_:List Dcl) (p1_:Qa Bs Ent) (p2_:Qa Bs Ent) (p3_:Dcl) (p4_:(Qa Bs Ent)):List (Nat×HB) :=
 [(0,.cells 62 [dS p0_,.mp 1]),(1,.mp (QO p1_.1) p1_.2),(2,.mp (QO p2_.1) p2_.2),(3,.cells 45 (cE p3_)),(4,.mp (QO p4_.1) p4_.2),(5,.cells 60 [.mp 4]),(6,.cells 45 (cE p3_)),(7,.cells 3 [dI (p0_.length:Int)]),(8,.obj (.deferred (some []))),(9,Y6),(10,JP p0_ p3_),(12,m47f10_h27 p0_ p3_)]
noncomputable abbrev m47f10_h30 (p0_:(Qa Bs Ent)) (p1_:Dcl) (p2_:List Dcl):HB :=
 .mp (QO ((J2 p0_ (p1_.name++([46,114,101,99]:List UInt8)) (⟨5,(p2_.length:Int),0,p1_.rcr.params,p1_.rcr.ty⟩:Ent)):Qa Bs Ent).1) ((J2 p0_ (p1_.name++([46,114,101,99]:List UInt8)) (⟨5,(p2_.length:Int),0,p1_.rcr.params,p1_.rcr.ty⟩:Ent)):Qa Bs Ent).2
noncomputable abbrev m47f10_h31 (p0_:List Dcl) (p1_:Qa Bs Ent) (p2_:Qa Bs Ent) (p3_:Dcl) (p4_:(Qa Bs Ent)):List (Nat×HB) :=
 [(0,.cells 62 [dS p0_,.mp 1]),(1,.mp (QO p1_.1) p1_.2),(2,.mp (QO p2_.1) p2_.2),(3,.cells 45 (cE p3_)),(4,m47f10_h30 p4_ p3_ p0_),(5,.cells 60 [.mp 4]),(6,.cells 45 (cE p3_)),(7,.cells 3 [dI (p0_.length:Int)]),(8,.obj (.deferred (some []))),(9,Z0),(10,JP p0_ p3_)]
noncomputable abbrev m47f10_h32 (p0_:List Dcl) (p1_:Qa Bs Ent) (p2_:Qa Bs Ent) (p3_:Dcl) (p4_:Int×(Qa Bs Ent)) (p5_:Fn):List (Nat×HB) :=
 [(0,.cells 62 [dS p0_,.mp 1]),(1,.mp (QO p1_.1) p1_.2),(2,.mp (QO p2_.1) p2_.2),(3,.cells 45 (cE p3_)),(4,.mp (QO p4_.2.1) p4_.2.2),(5,.cells 60 [.mp 4]),(6,.cells 45 (cE p3_)),(7,.cells 3 [dI (p0_.length:Int)]),(8,.obj (.deferred (some []))),(9,Y6),(10,Kc p0_ p3_),(11,.cells 76 (cE p5_))]
noncomputable abbrev m47f10_h33 (p0_:List Dcl) (p1_:Int×(Qa Bs Ent)) (p2_:Dcl) (p3_:Fn):HB :=
 .cells 35 [dI 6,dI (p0_.length:Int),dI p1_.1,dI p2_.params,dI p3_.ty.kind,dI p3_.ty.index,Jn p3_.ty.name,dS p3_.ty.levels,dS p3_.ty.kids]
noncomputable abbrev m47f10_h34 (p0_:List Dcl) (p1_:Qa Bs Ent) (p2_:Qa Bs Ent) (p3_:Dcl) (p4_:Int×(Qa Bs Ent)) (p5_:Fn):List (Nat×HB) :=
 [(0,.cells 62 [dS p0_,.mp 1]),(1,.mp (QO p1_.1) p1_.2),(2,.mp (QO p2_.1) p2_.2),(3,.cells 45 (cE p3_)),(4,.mp (QO p4_.2.1) p4_.2.2),(5,.cells 60 [.mp 4]),(6,.cells 45 (cE p3_)),(7,.cells 3 [dI (p0_.length:Int)]),(8,.obj (.deferred (some []))),(9,Z0),(10,Kc p0_ p3_),(11,.cells 76 (cE p5_)),(12,m47f10_h33 p0_ p4_ p3_ p5_)]
noncomputable abbrev m47f10_h35 (p0_:List Dcl) (p1_:Qa Bs Ent) (p2_:Qa Bs Ent) (p3_:Dcl) (p4_:Int×(Qa Bs Ent)) (p5_:Fn):List (Nat×HB) :=
 [(0,.cells 62 [dS p0_,.mp 1]),(1,.mp (QO p1_.1) p1_.2),(2,.mp (QO p2_.1) p2_.2),(3,.cells 45 (cE p3_)),(4,.mp (QO p4_.2.1) p4_.2.2),(5,.cells 60 [.mp 4]),(6,.cells 45 (cE p3_)),(7,.cells 3 [dI (p0_.length:Int)]),(8,.obj (.deferred (some []))),(9,Y6),(10,Kc p0_ p3_),(11,.cells 76 (cE p5_)),(12,m47f10_h33 p0_ p4_ p3_ p5_)]
noncomputable abbrev m47f10_h36 (p0_:Int×(Qa Bs Ent)) (p1_:Fn) (p2_:List Dcl) (p3_:Dcl):HB :=
 .mp (QO ((J2 p0_.2 p1_.name (⟨6,(p2_.length:Int),p0_.1,p3_.params,p1_.ty⟩:Ent)):Qa Bs Ent).1) ((J2 p0_.2 p1_.name (⟨6,(p2_.length:Int),p0_.1,p3_.params,p1_.ty⟩:Ent)):Qa Bs Ent).2
noncomputable abbrev m47f10_h37 (p0_:List Dcl) (p1_:Qa Bs Ent) (p2_:Qa Bs Ent) (p3_:Dcl) (p4_:Int×(Qa Bs Ent)) (p5_:Fn):List (Nat×HB) :=
 [(0,.cells 62 [dS p0_,.mp 1]),(1,.mp (QO p1_.1) p1_.2),(2,.mp (QO p2_.1) p2_.2),(3,.cells 45 (cE p3_)),(4,m47f10_h36 p4_ p5_ p0_ p3_),(5,.cells 60 [.mp 4]),(6,.cells 45 (cE p3_)),(7,.cells 3 [dI (p0_.length:Int)]),(8,.obj (.deferred (some []))),(9,Z0),(10,Kc p0_ p3_),(11,.cells 76 (cE p5_))]
noncomputable abbrev m47f10_h38 (p0_:Qa Bs Ent) (p1_:Dcl) (p2_:(Qa Bs Ent)):HB :=
 .mp (QO ((J2 p0_ p1_.name (⟨(Qn p2_ p1_.name).kind,(Qn p2_ p1_.name).decl,(Qn p2_ p1_.name).item,(Qn p2_ p1_.name).params,((Qn p2_ p1_.name).ty)⟩:Ent)):Qa Bs Ent).1) ((J2 p0_ p1_.name (⟨(Qn p2_ p1_.name).kind,(Qn p2_ p1_.name).decl,(Qn p2_ p1_.name).item,(Qn p2_ p1_.name).params,((Qn p2_ p1_.name).ty)⟩:Ent)):Qa Bs Ent).2
noncomputable abbrev m47f10_h39 (p0_:List Dcl) (p1_:Qa Bs Ent) (p2_:Qa Bs Ent) (p3_:Dcl) (p4_:(Qa Bs Ent)):List (Nat×HB) :=
 [(0,.cells 62 [dS p0_,.mp 1]),(1,.mp (QO p1_.1) p1_.2),(2,m47f10_h38 p2_ p3_ p4_),(3,.cells 45 (cE p3_)),(4,.mp (QO p4_.1) p4_.2),(5,.cells 60 [.mp 4]),(6,.cells 45 (cE p3_)),(7,.cells 3 [dI (p0_.length:Int)])]
noncomputable abbrev m47f10_h40 (p0_:Dcl) (p1_:(Qa Bs Ent)) (p2_:List Dcl) (p3_:Ctr):List (Nat×HB) :=
 [(3,.cells 45 (cE p0_)),(4,.mp (QO p1_.1) p1_.2),(5,.cells 60 [.mp 4]),(6,.cells 45 (cE p0_)),(7,.cells 3 [dI (p2_.length:Int)]),(11,.cells 71 (cE p3_))]
noncomputable abbrev m47f10_h41 (p0_:List Dcl) (p1_:Qa Bs Ent) (p2_:Qa Bs Ent) (p3_:Dcl) (p4_:(Qa Bs Ent)):List (Nat×HB) :=
 [(0,.cells 62 [dS p0_,.mp 1]),(1,.mp (QO p1_.1) p1_.2),(2,m47f10_h38 p2_ p3_ p4_)]
noncomputable abbrev m47f10_h42 (p0_:Dcl) (p1_:(Qa Bs Ent)) (p2_:List Dcl):List (Nat×HB) :=
 [(3,.cells 45 (cE p0_)),(4,.mp (QO p1_.1) p1_.2),(5,.cells 60 [.mp 4]),(6,.cells 45 (cE p0_)),(7,.cells 3 [dI (p2_.length:Int)])]
noncomputable abbrev m47f10_h43 (p0_:(Qa Bs Ent)) (p1_:Dcl) (p2_:(Qa Bs Ent)):HB :=
 .mp (QO ((J2 p0_ (p1_.name++([46,114,101,99]:List UInt8)) (⟨(Qn p2_ (p1_.name++([46,114,101,99]:List UInt8))).kind,(Qn p2_ (p1_.name++([46,114,101,99]:List UInt8))).decl,(Qn p2_ (p1_.name++([46,114,101,99]:List UInt8))).item,(Qn p2_ (p1_.name++([46,114,101,99]:List UInt8))).params,((Qn p2_ (p1_.name++([46,114,101,99]:List UInt8))).ty)⟩:Ent)):Qa Bs Ent).1) ((J2 p0_ (p1_.name++([46,114,101,99]:List UInt8)) (⟨(Qn p2_ (p1_.name++([46,114,101,99]:List UInt8))).kind,(Qn p2_ (p1_.name++([46,114,101,99]:List UInt8))).decl,(Qn p2_ (p1_.name++([46,114,101,99]:List UInt8))).item,(Qn p2_ (p1_.name++([46,114,101,99]:List UInt8))).params,((Qn p2_ (p1_.name++([46,114,101,99]:List UInt8))).ty)⟩:Ent)):Qa Bs Ent).2
noncomputable abbrev m47f10_h44 (p0_:List Dcl) (p1_:Qa Bs Ent) (p2_:(Qa Bs Ent)) (p3_:Dcl) (p4_:(Qa Bs Ent)):List (Nat×HB) :=
 [(0,.cells 62 [dS p0_,.mp 1]),(1,.mp (QO p1_.1) p1_.2),(2,m47f10_h43 p2_ p3_ p4_),(3,.cells 45 (cE p3_)),(4,.mp (QO p4_.1) p4_.2),(5,.cells 60 [.mp 4]),(6,.cells 45 (cE p3_)),(7,.cells 3 [dI (p0_.length:Int)])]
noncomputable abbrev m47f10_h45 (p0_:Dcl) (p1_:(Qa Bs Ent)) (p2_:List Dcl) (p3_:Tm):List (Nat×HB) :=
 [(3,.cells 45 (cE p0_)),(4,.mp (QO p1_.1) p1_.2),(5,.cells 60 [.mp 4]),(6,.cells 45 (cE p0_)),(7,.cells 3 [dI (p2_.length:Int)]),(19,.cells 33 (cE p3_))]
noncomputable abbrev m47f10_h46 (p0_:List Dcl) (p1_:Qa Bs Ent) (p2_:(Qa Bs Ent)) (p3_:Dcl) (p4_:(Qa Bs Ent)):List (Nat×HB) :=
 [(0,.cells 62 [dS p0_,.mp 1]),(1,.mp (QO p1_.1) p1_.2),(2,m47f10_h43 p2_ p3_ p4_)]
noncomputable abbrev m47f10_h47 (p0_:List Dcl) (p1_:Qa Bs Ent) (p2_:(Qa Bs Ent)):List (Nat×HB) :=
 [(0,.cells 62 [dS p0_,.mp 1]),(1,.mp (QO p1_.1) p1_.2),(2,.mp (QO p2_.1) p2_.2)]
noncomputable abbrev m47f10_h48 (p0_:List Dcl) (p1_:Qa Bs Ent) (p2_:Qa Bs Ent):List (Nat×HB) :=
 [(0,.cells 62 [dS p0_,.mp 1]),(1,.mp (QO p1_.1) p1_.2),(2,.mp (QO p2_.1) p2_.2)]
noncomputable def Ud (a0:Dcl) (a1:List Dcl) (a2:Qa Bs Ent) (a3:Qa Bs Ent):Option (((Qa Bs Ent))⊕(Int×(Qa Bs Ent))) :=
 Option.bind (some ()) (fun (y1:Unit)=>Option.bind (Option.bind (cond (a0.kind==0)
   (some (a0.kind==0))
   (cond (a0.kind==1)
   (some (a0.kind==1))
   (some (a0.kind==2)))) (fun (v5:Bool)=>m47f10_k3 v5 a0 a1)) (fun (y3:(Qa Bs Ent))=>Option.bind (Qp (KP a0 a1 a2 a3 y3) QF 0) (Sum.elim (fun (o36:Unit)=>KQ a0 y3 a3 a1 a2) (fun o=>some o))))
theorem m47f10_ok (a0:Dcl) (a1:List Dcl) (a2:Qa Bs Ent) (a3:Qa Bs Ent) (r:((Qa Bs Ent))⊕(Int×(Qa Bs Ent))) (h0:Ud a0 a1 a2 a3=some r):CallE Try.prog 47 [.one (.ptr 0 0),.agg (cE a0),.one (.mp 2)] ⟨m47f10_h48 a1 a2 a3,[],3⟩ ((Sum.elim (fun (r0:(Qa Bs Ent))=>((.ret []):EK)) (fun (r1:Int×(Qa Bs Ent))=>((.pan (QJ 90 r1.1)):EK))) r) ⟨((Sum.elim (fun (r0:(Qa Bs Ent))=>(⟨[],[(0,.cells 62 [dS a1,.mp 1]),(1,.mp (QO a2.1) a2.2),(2,.mp (QO r0.1) r0.2)],[],19,99,[]⟩:St)) (fun (r1:Int×(Qa Bs Ent))=>(⟨[],[(0,.cells 62 [dS a1,.mp 1]),(1,.mp (QO a2.1) a2.2),(2,.mp (QO r1.2.1) r1.2.2)],[],14,99,[]⟩:St))) r).hp,((Sum.elim (fun (r0:(Qa Bs Ent))=>(⟨[],[(0,.cells 62 [dS a1,.mp 1]),(1,.mp (QO a2.1) a2.2),(2,.mp (QO r0.1) r0.2)],[],19,99,[]⟩:St)) (fun (r1:Int×(Qa Bs Ent))=>(⟨[],[(0,.cells 62 [dS a1,.mp 1]),(1,.mp (QO a2.1) a2.2),(2,.mp (QO r1.2.1) r1.2.2)],[],14,99,[]⟩:St))) r).tk,((Sum.elim (fun (r0:(Qa Bs Ent))=>(⟨[],[(0,.cells 62 [dS a1,.mp 1]),(1,.mp (QO a2.1) a2.2),(2,.mp (QO r0.1) r0.2)],[],19,99,[]⟩:St)) (fun (r1:Int×(Qa Bs Ent))=>(⟨[],[(0,.cells 62 [dS a1,.mp 1]),(1,.mp (QO a2.1) a2.2),(2,.mp (QO r1.2.1) r1.2.2)],[],14,99,[]⟩:St))) r).nx⟩:=by
 unfold Ud at h0
 refine JK r ((Sum.elim (fun (r0:(Qa Bs Ent))=>(⟨[],[(0,.cells 62 [dS a1,.mp 1]),(1,.mp (QO a2.1) a2.2),(2,.mp (QO r0.1) r0.2)],[],19,99,[]⟩:St)) (fun (r1:Int×(Qa Bs Ent))=>(⟨[],[(0,.cells 62 [dS a1,.mp 1]),(1,.mp (QO a2.1) a2.2),(2,.mp (QO r1.2.1) r1.2.2)],[],14,99,[]⟩:St)))) ((Sum.elim (fun (r0:(Qa Bs Ent))=>((.ret []):EK)) (fun (r1:Int×(Qa Bs Ent))=>((.pan (QJ 90 r1.1)):EK)))) rfl rfl en_47 (lb rfl) (fun z_=>by cases z_ with
 | inl _=>exact rfl
 | inr _=>exact rfl) (fun z_=>by cases z_ with
 | inl _=>exact (Du .nil)
 | inr _=>exact DB) (fun w0 M V0 Q hv0 hQ0=>?_)
 simp only [Ja]
 refine Q5<|Q0<|Q9 J J (lb J) (QT J)<|Q3<|Q4<|Q5<|Q0<|Q9 J J (lb J) (Z4 Bs Ent)<|Q9 J J (lb J) (Qj z_60 J)<|Qx J J (Qt YA J J J J (lb J) J)<|Q3<|Q4<|Q5<|Q5 ?_
 refine Jv [6] [] YQ (by kernel_rfl) (by kernel_rfl) (by kernel_rfl) ?_
 refine RunA.rd J J J (Q1 (QN (a0:Dcl) JX J J)) J<|RunA.rd J J J (Q1 (Qr J)) J<|RunA.rd J J J (Q1 (Ju J)) J<|RunA.rd J J J (Q1 (Q2 fo_62_0 J)) J<|RunA.rd J J J (Q1 (Q6 ag_22 J J J)) J<|RunA.rd J J J (Q1 (QA (α:=Dcl) Zi J (.d _))) J ?_
 refine Qb h0 (fun y1 h1 h0=>?_)
 have hc2:CallM Try.prog 31 [.agg (cE a0),.one (dI (a1.length:Int))] ⟨m47f10_h1 a1 a2 a3 a0,[],6⟩ (QK [.one (.fn 49 [(7,0),(6,0)])]) ⟨m47f10_h2 a1 a2 a3 a0,[],8⟩:=by
  refine J0 ⟨[(4,.v (.one (.fn 49 [(7,0),(6,0)])))],m47f10_h2 a1 a2 a3 a0,[],8,6,[]⟩ J J en_31 (lb J) J (QC J .nil) (fun w0 M V0 Q hv1 hQ1=>?_)
  simp only [Ja]
  refine Q5<|Q0<|Q9 J J (lb J) (QT J)<|Q9 J J (lb J) (QT J)<|rA J J J<|Q3<|Q4<|Q5<|Q0<|rR J J J (ZW J J)<|rA J J J<|Q3<|Q4<|QD ?_
  have e:=sI h1;subst e
  exact hQ1 _ _ _ (.inr J) J (Qu (tA J) (hA J) kZ J (Nat.le_trans hv1 (lb J)) J J J (bB J J (bG J (bG J (bB J J (bG J (bA J)))))) J J)
 refine RunA.eff J J J (JJ J J J hc2 J (hA J) kZ) J ?_
 refine RunA.nil ⟨?ex,_,_,J,?_⟩
 case ex=>exact trivial
 refine JW (st':=⟨[(0,.v (.one (.ptr 0 0))),(2,.v (.one (.mp 2))),(4,.v (.one (.ptr 3 0))),(6,.v (.one (.ptr 5 0))),(23,.v (.one (.fn 49 [(7,0),(6,0)])))],m47f10_h2 a1 a2 a3 a0,[],8,99,[]⟩) (Qu (tA J) (hA J) kZ J (Nat.le_trans hv0 (lb J)) J J J (bB J J (bG J (bG J (bB J J (bG J (bA J)))))) J J)<|Q4<|Qf<|KH (st':=⟨[(0,.v (.one (.ptr 0 0))),(2,.v (.one (.mp 2))),(4,.v (.one (.ptr 3 0))),(6,.v (.one (.ptr 5 0))),(23,.v (.one (.fn 49 [(7,0),(6,0)])))],m47f10_h2 a1 a2 a3 a0,[],8,99,[]⟩) (Qu (tA J) (hA J) kZ J (Nat.le_trans hv0 (lb J)) J J J (bB J J (bG J (bG J (bB J J (bG J (bA J)))))) J J) ?_
 refine Qb h0 (fun y3 h1 h0=>?_)
 have hc4:CallM Try.prog 49 [.one (.yld 9),.one (.ptr 7 0),.one (.ptr 6 0)] ⟨[(9,.loop .ready none [(0,.v (.one (.ptr 0 0))),(2,.v (.one (.mp 2))),(4,.v (.one (.ptr 3 0))),(6,.v (.one (.ptr 5 0))),(23,.v (.one (.fn 49 [(7,0),(6,0)])))] 99 #[24,25] ZB ZA 8),(8,.obj (.deferred (some []))),(0,.cells 62 [dS a1,.mp 1]),(1,.mp (QO a2.1) a2.2),(2,.mp (QO a3.1) a3.2),(3,.cells 45 (cE a0)),(4,.mp (QO (gmNil:Qa Bs Ent).1) (gmNil:Qa Bs Ent).2),(5,.cells 60 [.mp 4]),(6,.cells 45 (cE a0)),(7,.cells 3 [dI (a1.length:Int)])],[],10⟩ (QK []) ⟨m47f10_h4 a1 a2 a3 a0 y3,[],11⟩:=by
  refine J0 ⟨[],m47f10_h4 a1 a2 a3 a0 y3,[],11,98,[]⟩ J J en_49 (lb J) J .nil (fun w0 M V0 Q hv1 hQ1=>?_)
  simp only [Ja]
  refine Q5<|Q0<|rR J J J (Q6 QU J J J)<|rR J J J (Q2 Yl J)<|rR J J J (Q6 QU J J J)<|rR J J J (Q2 KF J)<|rR J J J (Qi QV J J J J)<|rR J J J (ZH Kn J J J J J)<|Q9 J J (lb J) (Qj Zl J)<|Qx J J (Qt Jm J J J J (lb J) J)<|Q3<|Q4<|Q5<|Q0 ?_
  refine rR J J J (Q2 Yu J)<|rR J J J (Q6 QU J J J)<|Q3<|Q4<|Qf<|Q5<|Q5<|Q0<|rR J J J (Q7 J J J)<|rA J J J<|Q3<|Q4 ?_
  refine QS (fun (v5:Bool)=>⟨[(0,.v (.one (.yld 9))),(1,.v (.one (.ptr 7 0))),(2,.v (.one (.ptr 6 0))),(4,.v (.one (.ptr 10 0))),(16,.v (.one (dI a0.kind))),(17,.v (.one (dB v5)))],m47f10_h6 a1 a2 a3 a0,[],11,98,[]⟩) (fun (v5:Bool)=>(m47f10_k3 v5 a0 a1)=some y3) ?_ ?_
  refine Qb h1 (fun w2_ h2 h1=>?_)
  refine Qh (b:=(a0.kind==0)) J (fun c6=>?_) (fun c6=>?_)
  replace h2:=Qk c6 h2
  refine Qm ?_
  have e:=sI h2;subst e
  exact Qd (a0.kind==0) (Qu (tA J) (hA J) kZ J (Nat.le_trans hv1 (lb J)) J J J (bB J J (bG J (bG J (bB J J (bG J (bA J)))))) J J) h1
  replace h2:=Ql c6 h2
  refine Q5<|Q0<|rR J J J (Q7 J J J)<|rA J J J<|Q3<|Q4 ?_
  refine Qh (b:=(a0.kind==1)) J (fun c7=>?_) (fun c7=>?_)
  replace h2:=Qk c7 h2
  refine Qm ?_
  have e:=sI h2;subst e
  exact Qd (a0.kind==1) (Qu (tA J) (hA J) kZ J (Nat.le_trans hv1 (lb J)) J J J (bB J J (bG J (bG J (bB J J (bG J (bA J)))))) J J) h1
  replace h2:=Ql c7 h2
  refine Q0<|rR J J J (Q7 J J J)<|rA J J J<|Q3 ?_
  have e:=sI h2;subst e
  exact Qd (a0.kind==2) (Qu (tA J) (hA J) kZ J (Nat.le_trans hv1 (lb J)) J J J (bB J J (bG J (bG J (bB J J (bG J (bA J)))))) J J) h1
  intro v5 h1
  unfold m47f10_k3 at h1
  refine Q4 ?_
  refine Qh (b:=v5) J (fun c8=>?_) (fun c8=>?_)
  replace h1:=Qk c8 h1
  refine Q5<|Q0<|Q9 J J (lb J) (OpOK.lit3E (α:=Int) 0 1 2 Uk z_3 J J (lb J) (lb J) J J J J (.cons (.d _) (.cons (.d _) (.cons (.d _) .nil))) ⟨J,J,J⟩)<|rR J J J (Q2 Yu J)<|rR J J J (Q6 QU J J J) ?_
  refine Qb h1 (fun x9 hx9 h1=>?_)
  refine rR J J J (Qy (α:=Int) Uk J (.app _ _) J hx9)<|rR J J J (JQ QU J J)<|rR J J J (Q2 ZR J)<|Qx J J (Qt QU J J J J (lb J) J)<|Q3<|Q4<|Q0<|rM J J J<|rR J J J (Q2 Ym J)<|rR J J J (Q6 JV J J J)<|rR J J J (Qi Jm J J J J) ?_
  refine Qb h1 (fun y10 h2 h1=>?_)
  have ha11:ExecOK Try.prog (some 9) ZB ⟨[(0,.v (.one (.ptr 0 0))),(2,.v (.one (.mp 2))),(4,.v (.one (.ptr 3 0))),(6,.v (.one (.ptr 5 0))),(23,.v (.one (.fn 49 [(7,0),(6,0)]))),(24,.v (.one (Jn a0.name))),(25,.v (.agg [dI x9,dI (a1.length:Int),dI 0,dI a0.params,dI a0.ty.kind,dI a0.ty.index,Jn a0.ty.name,dS a0.ty.levels,dS a0.ty.kids]))],m47f10_h8 a1 a2 a3 a0 x9,[(11,some ⟨3,1,(Enc.encL ([0,1,2]:List Int)).length,[]⟩)],12,99,[]⟩ .normal ⟨[(6,.v (.one (.ptr 5 0))),(7,.v (.one (Jn a0.name))),(8,.v (.one (.ptr 12 0)))],m47f10_h11 a1 a2 a3 a0 x9,[(11,some ⟨3,1,(Enc.encL ([0,1,2]:List Int)).length,[]⟩)],13,99,[]⟩:=by
   refine QI (fun w0 M V0 ro n Q hv2 hro2 hQn2=>?_)
   refine Q5<|Q0<|rA J J J<|Q3<|Q4<|Q0<|Q9 J J (lb J) (Qj Zl J)<|Qx J J (Qt Jm J J J J (lb J) J)<|Q3 ?_
   exact Jq hQn2 (Qu (tA J) (hA J) (kA J) J (Nat.le_trans hv2 (lb J)) J J J (bB J J (bG J (bG J (bB J J (bG J (bA J)))))) J J)
  have hb12:ExecOK Try.prog (some 9) ZA ⟨[(6,.v (.one (.ptr 5 0))),(7,.v (.one (Jn a0.name))),(8,.v (.one (.ptr 12 0)))],m47f10_h10 a1 a2 a3 a0 x9,[(11,some ⟨3,1,(Enc.encL ([0,1,2]:List Int)).length,[]⟩)],13,99,[]⟩ .normal ⟨[],m47f10_h13 a1 a2 a3 a0 x9,[(11,some ⟨3,1,(Enc.encL ([0,1,2]:List Int)).length,[]⟩)],13,99,[]⟩:=by
   refine QI (fun w0 M V0 ro n Q hv2 hro2 hQn2=>?_)
   refine Qf<|Q0<|rR J J J (Q6 YA J J J)<|rM J J J<|rR J J J (Qi Jm J J J J)<|Qx J J (Jh (M:=gmNil) (k:=a0.name) (v:=(⟨x9,(a1.length:Int),0,a0.params,a0.ty⟩:Ent)) YP J J J J J)<|Q3<|Qe ?_
   have e:=sI h2;subst e
   exact Jq hQn2 (Qu tZ (hA J) (kA J) J (Nat.le_trans hv2 (lb J)) J J J (bB J J (bG J (bG J (bB J J (bG J (bA J)))))) J J)
  refine Q9 J J (lb J) (Je (jump:=none) J J J J J (Qw ha11 (fun E hv=>(Qu (tA J) (hA J) (kA J) J (Nat.le_trans hv (lb J)) J J J (bB J J (bG J (bG J (bB J J (bG J (bA J)))))) J J))) J (Qw hb12 (fun E hv=>(Qu (tA J) (hA J) (kA J) J (Nat.le_trans hv (lb J)) J J J (bB J J (bG J (bG J (bB J J (bG J (bA J)))))) J J))) J J) ?_
  refine Q3<|Qe ?_
  have e:=sI h1;subst e
  exact hQ1 _ _ _ (.inl J) J (Qu tZ (hA J) kZ J (Nat.le_trans hv1 (lb J)) J J J (bB J J (bG J (bG J (bB J J (bG J (bA J)))))) J J)
  replace h1:=Ql c8 h1
  refine Q5<|Q0<|rR J J J (Q7 J J J)<|rA J J J<|Q3<|Q4 ?_
  refine Qh (b:=(a0.kind==3)) J (fun c13=>?_) (fun c13=>?_)
  replace h1:=Qk c13 h1
  refine Q5<|Q0<|rR J J J (Q2 ZR J)<|Qx J J (Qt QU J J J J (lb J) J)<|Q3<|Q4<|Q5<|Q5<|Q0<|rM J J J<|rR J J J (Q2 Ym J)<|rR J J J (Q6 JV J J J)<|rR J J J (Qi Jm J J J J) ?_
  refine Qb h1 (fun y14 h2 h1=>?_)
  have ha15:ExecOK Try.prog (some 9) ZB ⟨[(0,.v (.one (.ptr 0 0))),(2,.v (.one (.mp 2))),(4,.v (.one (.ptr 3 0))),(6,.v (.one (.ptr 5 0))),(23,.v (.one (.fn 49 [(7,0),(6,0)]))),(24,.v (.one (Jn a0.name))),(25,.v (.agg [dI 3,dI (a1.length:Int),dI 0,dI a0.params,dI a0.ty.kind,dI a0.ty.index,Jn a0.ty.name,dS a0.ty.levels,dS a0.ty.kids]))],m47f10_h15 a1 a2 a3 a0,[],11,99,[]⟩ .normal ⟨[(6,.v (.one (.ptr 5 0))),(7,.v (.one (Jn a0.name))),(8,.v (.one (.ptr 11 0)))],m47f10_h17 a1 a2 a3 a0,[],12,99,[]⟩:=by
   refine QI (fun w0 M V0 ro n Q hv2 hro2 hQn2=>?_)
   refine Q5<|Q0<|rA J J J<|Q3<|Q4<|Q0<|Q9 J J (lb J) (Qj Zl J)<|Qx J J (Qt Jm J J J J (lb J) J)<|Q3 ?_
   exact Jq hQn2 (Qu (tA J) (hA J) kZ J (Nat.le_trans hv2 (lb J)) J J J (bB J J (bG J (bG J (bB J J (bG J (bA J)))))) J J)
  have hb16:ExecOK Try.prog (some 9) ZA ⟨[(6,.v (.one (.ptr 5 0))),(7,.v (.one (Jn a0.name))),(8,.v (.one (.ptr 11 0)))],m47f10_h16 a1 a2 a3 a0,[],12,99,[]⟩ .normal ⟨[],m47f10_h19 a1 a2 a3 a0,[],12,99,[]⟩:=by
   refine QI (fun w0 M V0 ro n Q hv2 hro2 hQn2=>?_)
   refine Qf<|Q0<|rR J J J (Q6 YA J J J)<|rM J J J<|rR J J J (Qi Jm J J J J)<|Qx J J (Jh (M:=gmNil) (k:=a0.name) (v:=(⟨3,(a1.length:Int),0,a0.params,a0.ty⟩:Ent)) YP J J J J J)<|Q3<|Qe ?_
   have e:=sI h2;subst e
   exact Jq hQn2 (Qu tZ (hA J) kZ J (Nat.le_trans hv2 (lb J)) J J J (bB J J (bG J (bG J (bB J J (bG J (bA J)))))) J J)
  refine Q9 J J (lb J) (Je (jump:=none) J J J J J (Qw ha15 (fun E hv=>(Qu (tA J) (hA J) kZ J (Nat.le_trans hv (lb J)) J J J (bB J J (bG J (bG J (bB J J (bG J (bA J)))))) J J))) J (Qw hb16 (fun E hv=>(Qu (tA J) (hA J) kZ J (Nat.le_trans hv (lb J)) J J J (bB J J (bG J (bG J (bB J J (bG J (bA J)))))) J J))) J J) ?_
  refine rR J J J (Ji J)<|Q3<|Q4 ?_
  refine Qh J (fun h=>nomatch h) (fun _=>?_)
  refine Qm<|Q4<|Q5<|Q5<|Q0<|rR J J J (Q2 YD J)<|rR J J J (Q6 K2 J J J)<|rR J J J (QA (α:=Ctr) YM J (.d _))<|rM J J J<|Q3<|Q4<|Qf ?_
  refine QY 1 (fun (o17:(Qa Bs Ent))=>⟨[(0,.v (.one (.yld 9))),(1,.v (.one (.ptr 7 0))),(2,.v (.one (.ptr 6 0)))],[(0,.cells 62 [dS a1,.mp 1]),(1,.mp (QO a2.1) a2.2),(2,.mp (QO a3.1) a3.2),(3,.cells 45 (cE a0)),(4,.mp (QO o17.1) o17.2),(5,.cells 60 [.mp 4]),(6,.cells 45 (cE a0)),(7,.cells 3 [dI (a1.length:Int)]),(8,.obj (.deferred (some []))),(9,Y6),(10,JP a1 a0)],[],12,98,[]⟩) (fun (o17:(Qa Bs Ent))=>(m47f10_k1 a0 o17 a1)=some y3) ?_ ?_
  refine Qb h1 (fun o18 hl2 h1=>?_)
  refine QX (m47f10_l0 a0 a1) (fun s2=>⟨[(0,.v (.one (.yld 9))),(1,.v (.one (.ptr 7 0))),(2,.v (.one (.ptr 6 0))),(42,.v (.one (dS a0.ctors))),(43,.v (.one (dI (a0.ctors.length:Int)))),(44,.v (.one (dI s2.1)))],[(0,.cells 62 [dS a1,.mp 1]),(1,.mp (QO a2.1) a2.2),(2,.mp (QO a3.1) a3.2),(3,.cells 45 (cE a0)),(4,.mp (QO s2.2.1) s2.2.2),(5,.cells 60 [.mp 4]),(6,.cells 45 (cE a0)),(7,.cells 3 [dI (a1.length:Int)]),(8,.obj (.deferred (some []))),(9,Y6),(10,JP a1 a0)],[],12,98,[]⟩) (0,(J2 gmNil a0.name (⟨3,(a1.length:Int),0,a0.params,a0.ty⟩:Ent))) o18 (Qu (tA J) (hA J) kZ J (Nat.le_trans hv1 (lb J)) J J J (bB J J (bG J (bG J (bB J J (bG J (bA J)))))) J J) hl2 (fun s2 n2 oo2 h2 ho2=>?_)
  unfold m47f10_l0 at h2
  refine Q5<|Q0<|rR J J J (Q7 J J J)<|Q3<|Q4<|Q5 ?_
  refine Qh (b:=(decide (s2.1 < (a0.ctors.length:Int)))) J (fun c19=>?_) (fun c19=>?_)
  replace h2:=Qk c19 h2
  refine Qm<|Q4<|Q5<|Qf<|Q5<|Q0<|rM J J J ?_
  refine Qb h2 (fun x20 hx20 h2=>?_)
  refine rR J J J (Qy (α:=Ctr) YM J (.d _) J hx20)<|rR J J J (Qv (x20:Ctr) K0 J)<|Q9 J J (lb J) (Qj UV J)<|rA J J J<|Qx J J (Qz (x20:Ctr) K0 J J J J J)<|Q3<|Q4<|Q5<|Q0<|rM J J J<|rR J J J (Q2 Gs J)<|rR J J J (Q6 JV J J J)<|rR J J J (Q6 QU J J J)<|rM J J J ?_
  refine rR J J J (Q2 Yl J)<|rR J J J (Q6 QU J J J)<|rR J J J (Q2 KE J)<|rR J J J (Qi QV J J J J)<|rR J J J (Y0 Kn J (.cons J (.cons J (.cons J (.cons J (.cons J .nil))))) J) ?_
  refine Qb h2 (fun y21 h3 h2=>?_)
  have ha22:ExecOK Try.prog (some 9) ZB ⟨[(0,.v (.one (.ptr 0 0))),(2,.v (.one (.mp 2))),(4,.v (.one (.ptr 3 0))),(6,.v (.one (.ptr 5 0))),(23,.v (.one (.fn 49 [(7,0),(6,0)]))),(24,.v (.one (Jn x20.name))),(25,.v (.agg [dI 4,dI (a1.length:Int),dI s2.1,dI a0.params,dI x20.ty.kind,dI x20.ty.index,Jn x20.ty.name,dS x20.ty.levels,dS x20.ty.kids]))],m47f10_h20 a1 a2 a3 a0 s2 x20,[],13,99,[]⟩ .normal ⟨[(6,.v (.one (.ptr 5 0))),(7,.v (.one (Jn x20.name))),(8,.v (.one (.ptr 13 0)))],m47f10_h23 a1 a2 a3 a0 s2 x20,[],14,99,[]⟩:=by
   refine QI (fun w0 M V0 ro n Q hv3 hro3 hQn3=>?_)
   refine Q5<|Q0<|rA J J J<|Q3<|Q4<|Q0<|Q9 J J (lb J) (Qj Zl J)<|Qx J J (Qt Jm J J J J (lb J) J)<|Q3 ?_
   exact Jq hQn3 (Qu (tA J) (hA J) kZ J (Nat.le_trans hv3 (lb J)) J J J (bB J J (bG J (bG J (bB J J (bG J (bA J)))))) J J)
  have hb23:ExecOK Try.prog (some 9) ZA ⟨[(6,.v (.one (.ptr 5 0))),(7,.v (.one (Jn x20.name))),(8,.v (.one (.ptr 13 0)))],m47f10_h22 a1 a2 a3 a0 s2 x20,[],14,99,[]⟩ .normal ⟨[],m47f10_h25 a1 a2 a3 a0 s2 x20,[],14,99,[]⟩:=by
   refine QI (fun w0 M V0 ro n Q hv3 hro3 hQn3=>?_)
   refine Qf<|Q0<|rR J J J (Q6 YA J J J)<|rM J J J<|rR J J J (Qi Jm J J J J)<|Qx J J (Jh (M:=s2.2) (k:=x20.name) (v:=(⟨4,(a1.length:Int),s2.1,a0.params,x20.ty⟩:Ent)) YP J J J J J)<|Q3<|Qe ?_
   have e:=sI h3;subst e
   exact Jq hQn3 (Qu tZ (hA J) kZ J (Nat.le_trans hv3 (lb J)) J J J (bB J J (bG J (bG J (bB J J (bG J (bA J)))))) J J)
  refine Q9 J J (lb J) (Je (jump:=none) J J J J J (Qw ha22 (fun E hv=>(Qu (tA J) (hA J) kZ J (Nat.le_trans hv (lb J)) J J J (bB J J (bG J (bG J (bB J J (bG J (bA J)))))) J J))) J (Qw hb23 (fun E hv=>(Qu (tA J) (hA J) kZ J (Nat.le_trans hv (lb J)) J J J (bB J J (bG J (bG J (bB J J (bG J (bA J)))))) J J))) J J) ?_
  refine rR J J J (Ji J)<|Q3<|Q4 ?_
  refine Qh J (fun h=>nomatch h) (fun _=>?_)
  refine Qm<|Qe<|Q4<|Q0<|rR J J J (Q7 J J J)<|rM J J J<|Q3 ?_
  have e:=sI h2;subst e
  refine QR ((J9 (s2.1+1)),(J2 s2.2 x20.name (⟨4,(a1.length:Int),s2.1,a0.params,x20.ty⟩:Ent))) (Qu (tA J) (hA J) kZ J (Nat.le_trans hv1 (lb J)) J J J (bB J J (bG J (bG J (bB J J (bG J (bA J)))))) J J) ho2
  replace h2:=Ql c19 h2
  refine J5<|Qo<|Qo ?_
  have e:=sI h2;subst e
  have e_:_=_:=ho2
  subst e_
  exact QW s2.2 (Qu (tA J) (hA J) kZ J (Nat.le_trans hv1 (lb J)) J J J (bB J J (bG J (bG J (bB J J (bG J (bA J)))))) J J) h1
  intro o17 h1
  unfold m47f10_k1 at h1
  refine QM<|Q4<|Q0<|rM J J J<|rR J J J (Q2 Ym J)<|rR J J J (Q6 JV J J J) ?_
  refine Yo h1 (fun g24 h1=>?_)
  refine rR J J J (W4 J J g24)<|rR J J J (Q6 QU J J J)<|rR J J J (Q2 JT J)<|rR J J J (Q2 Gu J)<|rR J J J (Q6 QU J J J)<|rR J J J (Q2 JT J)<|rR J J J (Q2 Gt J)<|rR J J J (Qi QV J J J J)<|rR J J J (Y0 Kn J (.cons J (.cons J (.cons J (.cons J .nil)))) J) ?_
  refine Qb h1 (fun y25 h2 h1=>?_)
  have ha26:ExecOK Try.prog (some 9) ZB ⟨[(0,.v (.one (.ptr 0 0))),(2,.v (.one (.mp 2))),(4,.v (.one (.ptr 3 0))),(6,.v (.one (.ptr 5 0))),(23,.v (.one (.fn 49 [(7,0),(6,0)]))),(24,.v (.one (Jn (a0.name++([46,114,101,99]:List UInt8))))),(25,.v (.agg [dI 5,dI (a1.length:Int),dI 0,dI a0.rcr.params,dI a0.rcr.ty.kind,dI a0.rcr.ty.index,Jn a0.rcr.ty.name,dS a0.rcr.ty.levels,dS a0.rcr.ty.kids]))],m47f10_h26 a1 a2 a3 a0 o17,[],12,99,[]⟩ .normal ⟨[(6,.v (.one (.ptr 5 0))),(7,.v (.one (Jn (a0.name++([46,114,101,99]:List UInt8))))),(8,.v (.one (.ptr 12 0)))],m47f10_h29 a1 a2 a3 a0 o17,[],13,99,[]⟩:=by
   refine QI (fun w0 M V0 ro n Q hv2 hro2 hQn2=>?_)
   refine Q5<|Q0<|rA J J J<|Q3<|Q4<|Q0<|Q9 J J (lb J) (Qj Zl J)<|Qx J J (Qt Jm J J J J (lb J) J)<|Q3 ?_
   exact Jq hQn2 (Qu (tA J) (hA J) kZ J (Nat.le_trans hv2 (lb J)) J J J (bB J J (bG J (bG J (bB J J (bG J (bA J)))))) J J)
  have hb27:ExecOK Try.prog (some 9) ZA ⟨[(6,.v (.one (.ptr 5 0))),(7,.v (.one (Jn (a0.name++([46,114,101,99]:List UInt8))))),(8,.v (.one (.ptr 12 0)))],m47f10_h28 a1 a2 a3 a0 o17,[],13,99,[]⟩ .normal ⟨[],m47f10_h31 a1 a2 a3 a0 o17,[],13,99,[]⟩:=by
   refine QI (fun w0 M V0 ro n Q hv2 hro2 hQn2=>?_)
   refine Qf<|Q0<|rR J J J (Q6 YA J J J)<|rM J J J<|rR J J J (Qi Jm J J J J)<|Qx J J (Jh (M:=o17) (k:=(a0.name++([46,114,101,99]:List UInt8))) (v:=(⟨5,(a1.length:Int),0,a0.rcr.params,a0.rcr.ty⟩:Ent)) YP J J J J J)<|Q3<|Qe ?_
   have e:=sI h2;subst e
   exact Jq hQn2 (Qu tZ (hA J) kZ J (Nat.le_trans hv2 (lb J)) J J J (bB J J (bG J (bG J (bB J J (bG J (bA J)))))) J J)
  refine Q9 J J (lb J) (Je (jump:=none) J J J J J (Qw ha26 (fun E hv=>(Qu (tA J) (hA J) kZ J (Nat.le_trans hv (lb J)) J J J (bB J J (bG J (bG J (bB J J (bG J (bA J)))))) J J))) J (Qw hb27 (fun E hv=>(Qu (tA J) (hA J) kZ J (Nat.le_trans hv (lb J)) J J J (bB J J (bG J (bG J (bB J J (bG J (bA J)))))) J J))) J J) ?_
  refine Q3<|Qe ?_
  have e:=sI h1;subst e
  exact hQ1 _ _ _ (.inl J) J (Qu tZ (hA J) kZ J (Nat.le_trans hv1 (lb J)) J J J (bB J J (bG J (bG J (bB J J (bG J (bA J)))))) J J)
  replace h1:=Ql c13 h1
  refine Q5<|Q0<|rR J J J (Q7 J J J)<|rA J J J<|Q3<|Q4 ?_
  refine Qh (b:=(a0.kind==4)) J (fun c28=>?_) (fun c28=>?_)
  replace h1:=Qk c28 h1
  refine Q5<|Q0<|rR J J J (Q2 YC J)<|rR J J J (Q6 K1 J J J)<|rR J J J (QA (α:=Fn) YL J (.d _))<|rM J J J<|Q3<|Q4<|Qf ?_
  refine QY 3 (fun (o29:(Qa Bs Ent))=>⟨[],[(0,.cells 62 [dS a1,.mp 1]),(1,.mp (QO a2.1) a2.2),(2,.mp (QO a3.1) a3.2),(3,.cells 45 (cE a0)),(4,.mp (QO o29.1) o29.2),(5,.cells 60 [.mp 4]),(6,.cells 45 (cE a0)),(7,.cells 3 [dI (a1.length:Int)]),(8,.obj (.deferred (some []))),(9,Y6),(10,Kc a1 a0)],[],11,98,[]⟩) (fun (o29:(Qa Bs Ent))=>(some o29)=some y3) ?_ ?_
  refine Qb h1 (fun o30 hl2 h1=>?_)
  refine QX (m47f10_l2 a0 a1) (fun s2=>⟨[(0,.v (.one (.yld 9))),(1,.v (.one (.ptr 7 0))),(2,.v (.one (.ptr 6 0))),(78,.v (.one (dS a0.funs))),(79,.v (.one (dI (a0.funs.length:Int)))),(80,.v (.one (dI s2.1)))],[(0,.cells 62 [dS a1,.mp 1]),(1,.mp (QO a2.1) a2.2),(2,.mp (QO a3.1) a3.2),(3,.cells 45 (cE a0)),(4,.mp (QO s2.2.1) s2.2.2),(5,.cells 60 [.mp 4]),(6,.cells 45 (cE a0)),(7,.cells 3 [dI (a1.length:Int)]),(8,.obj (.deferred (some []))),(9,Y6),(10,Kc a1 a0)],[],11,98,[]⟩) (0,gmNil) o30 (Qu (tA J) (hA J) kZ J (Nat.le_trans hv1 (lb J)) J J J (bB J J (bG J (bG J (bB J J (bG J (bA J)))))) J J) hl2 (fun s2 n2 oo2 h2 ho2=>?_)
  unfold m47f10_l2 at h2
  refine Q5<|Q0<|rR J J J (Q7 J J J)<|Q3<|Q4<|Q5 ?_
  refine Qh (b:=(decide (s2.1 < (a0.funs.length:Int)))) J (fun c31=>?_) (fun c31=>?_)
  replace h2:=Qk c31 h2
  refine Qm<|Q4<|Q5<|Qf<|Q5<|Q0<|rM J J J ?_
  refine Qb h2 (fun x32 hx32 h2=>?_)
  refine rR J J J (Qy (α:=Fn) YL J (.d _) J hx32)<|rR J J J (Qv (x32:Fn) ZF J)<|Q9 J J (lb J) (Qj UU J)<|rA J J J<|Qx J J (Qz (x32:Fn) ZF J J J J J)<|Q3<|Q4<|Q5<|Q0<|rM J J J<|rR J J J (Q2 W0 J)<|rR J J J (Q6 JV J J J)<|rR J J J (Q6 QU J J J)<|rM J J J ?_
  refine rR J J J (Q2 Yl J)<|rR J J J (Q6 QU J J J)<|rR J J J (Q2 Xc J)<|rR J J J (Qi QV J J J J)<|rR J J J (Y0 Kn J (.cons J (.cons J (.cons J (.cons J (.cons J .nil))))) J) ?_
  refine Qb h2 (fun y33 h3 h2=>?_)
  have ha34:ExecOK Try.prog (some 9) ZB ⟨[(0,.v (.one (.ptr 0 0))),(2,.v (.one (.mp 2))),(4,.v (.one (.ptr 3 0))),(6,.v (.one (.ptr 5 0))),(23,.v (.one (.fn 49 [(7,0),(6,0)]))),(24,.v (.one (Jn x32.name))),(25,.v (.agg [dI 6,dI (a1.length:Int),dI s2.1,dI a0.params,dI x32.ty.kind,dI x32.ty.index,Jn x32.ty.name,dS x32.ty.levels,dS x32.ty.kids]))],m47f10_h32 a1 a2 a3 a0 s2 x32,[],12,99,[]⟩ .normal ⟨[(6,.v (.one (.ptr 5 0))),(7,.v (.one (Jn x32.name))),(8,.v (.one (.ptr 12 0)))],m47f10_h35 a1 a2 a3 a0 s2 x32,[],13,99,[]⟩:=by
   refine QI (fun w0 M V0 ro n Q hv3 hro3 hQn3=>?_)
   refine Q5<|Q0<|rA J J J<|Q3<|Q4<|Q0<|Q9 J J (lb J) (Qj Zl J)<|Qx J J (Qt Jm J J J J (lb J) J)<|Q3 ?_
   exact Jq hQn3 (Qu (tA J) (hA J) kZ J (Nat.le_trans hv3 (lb J)) J J J (bB J J (bG J (bG J (bB J J (bG J (bA J)))))) J J)
  have hb35:ExecOK Try.prog (some 9) ZA ⟨[(6,.v (.one (.ptr 5 0))),(7,.v (.one (Jn x32.name))),(8,.v (.one (.ptr 12 0)))],m47f10_h34 a1 a2 a3 a0 s2 x32,[],13,99,[]⟩ .normal ⟨[],m47f10_h37 a1 a2 a3 a0 s2 x32,[],13,99,[]⟩:=by
   refine QI (fun w0 M V0 ro n Q hv3 hro3 hQn3=>?_)
   refine Qf<|Q0<|rR J J J (Q6 YA J J J)<|rM J J J<|rR J J J (Qi Jm J J J J)<|Qx J J (Jh (M:=s2.2) (k:=x32.name) (v:=(⟨6,(a1.length:Int),s2.1,a0.params,x32.ty⟩:Ent)) YP J J J J J)<|Q3<|Qe ?_
   have e:=sI h3;subst e
   exact Jq hQn3 (Qu tZ (hA J) kZ J (Nat.le_trans hv3 (lb J)) J J J (bB J J (bG J (bG J (bB J J (bG J (bA J)))))) J J)
  refine Q9 J J (lb J) (Je (jump:=none) J J J J J (Qw ha34 (fun E hv=>(Qu (tA J) (hA J) kZ J (Nat.le_trans hv (lb J)) J J J (bB J J (bG J (bG J (bB J J (bG J (bA J)))))) J J))) J (Qw hb35 (fun E hv=>(Qu (tA J) (hA J) kZ J (Nat.le_trans hv (lb J)) J J J (bB J J (bG J (bG J (bB J J (bG J (bA J)))))) J J))) J J) ?_
  refine rR J J J (Ji J)<|Q3<|Q4 ?_
  refine Qh J (fun h=>nomatch h) (fun _=>?_)
  refine Qm<|Qe<|Q4<|Q0<|rR J J J (Q7 J J J)<|rM J J J<|Q3 ?_
  have e:=sI h2;subst e
  refine QR ((J9 (s2.1+1)),(J2 s2.2 x32.name (⟨6,(a1.length:Int),s2.1,a0.params,x32.ty⟩:Ent))) (Qu (tA J) (hA J) kZ J (Nat.le_trans hv1 (lb J)) J J J (bB J J (bG J (bG J (bB J J (bG J (bA J)))))) J J) ho2
  replace h2:=Ql c31 h2
  refine J5<|Qo<|Qo ?_
  have e:=sI h2;subst e
  have e_:_=_:=ho2
  subst e_
  exact QW s2.2 (Qu tZ (hA J) kZ J (Nat.le_trans hv1 (lb J)) J J J (bB J J (bG J (bG J (bB J J (bG J (bA J)))))) J J) h1
  intro o29 h1
  refine QM<|Qe ?_
  have e:=sI h1;subst e
  exact hQ1 _ _ _ (.inl J) J (Qu tZ (hA J) kZ J (Nat.le_trans hv1 (lb J)) J J J (bB J J (bG J (bG J (bB J J (bG J (bA J)))))) J J)
  replace h1:=Ql c28 h1
  refine Qm<|Qe ?_
  have e:=sI h1;subst e
  exact hQ1 _ _ _ (.inl J) J (Qu tZ (hA J) kZ J (Nat.le_trans hv1 (lb J)) J J J (bB J J (bG J (bG J (bB J J (bG J (bA J)))))) J J)
 refine ZU (Y1 (e:=.normal) rfl hc4 rfl rfl (by intro h;cases h) rfl) rfl ?_
 refine Qe<|Q4<|Q5<|Q0<|rM J J J<|rR J J J (Q2 Ym J)<|rR J J J (Q6 JV J J J)<|rR J J J (Q6 YA J J J)<|rR J J J (Q2 Ym J)<|rR J J J (Q6 JV J J J)<|rR J J J (YT (M:=y3) (k:=a0.name) YP Kz J J J)<|Qx J J (Jh (M:=a3) (k:=a0.name) (v:=(⟨(Qn y3 a0.name).kind,(Qn y3 a0.name).decl,(Qn y3 a0.name).item,(Qn y3 a0.name).params,((Qn y3 a0.name).ty)⟩:Ent)) YP J J J J J)<|Q3<|Q4 ?_
 refine Q5<|Q5<|Q0<|rR J J J (Q2 YD J)<|rR J J J (Q6 K2 J J J)<|rR J J J (QA (α:=Ctr) YM J (.d _))<|rM J J J<|Q3<|Q4<|Qf ?_
 refine QY 2 (fun (o36:Unit)=>⟨[(0,.v (.one (.ptr 0 0))),(2,.v (.one (.mp 2))),(4,.v (.one (.ptr 3 0))),(6,.v (.one (.ptr 5 0)))],m47f10_h39 a1 a2 a3 a0 y3,[],11,99,[]⟩) (fun (o36:Unit)=>(KQ a0 y3 a3 a1 a2)=some r) ?_ ?_
 refine Qb h0 (fun o37 hl1 h0=>?_)
 refine QX (KP a0 a1 a2 a3 y3) (fun s1=>⟨[(0,.v (.one (.ptr 0 0))),(2,.v (.one (.mp 2))),(4,.v (.one (.ptr 3 0))),(6,.v (.one (.ptr 5 0))),(37,.v (.one (dS a0.ctors))),(38,.v (.one (dI (a0.ctors.length:Int)))),(39,.v (.one (dI s1)))],m47f10_h39 a1 a2 a3 a0 y3,[],11,99,[]⟩) 0 o37 (Qu (tA J) (hA J) kZ J (Nat.le_trans hv0 (lb J)) J J J (bB J J (bG J (bG J (bB J J (bG J (bA J)))))) J J) hl1 (fun s1 n1 oo1 h1 ho1=>?_)
 unfold KP at h1
 refine Q5<|Q0<|rR J J J (Q7 J J J)<|Q3<|Q4<|Q5 ?_
 refine Qh (b:=(decide (s1 < (a0.ctors.length:Int)))) J (fun c38=>?_) (fun c38=>?_)
 replace h1:=Qk c38 h1
 refine Qm<|Q4<|Q5<|Qf<|Q5<|Q0 ?_
 refine Qb h1 (fun x39 hx39 h1=>?_)
 refine rR J J J (Qy (α:=Ctr) YM J (.d _) J hx39)<|rR J J J (Qv (x39:Ctr) K0 J)<|Q9 J J (lb J) (Qj UV J)<|Qx J J (Qz (x39:Ctr) K0 J J J J J)<|Q3<|Q4<|Q0<|rM J J J<|rR J J J (Q2 KE J)<|rR J J J (Qi QV J J J J)<|rR J J J (Q2 Yl J)<|rR J J J (Q6 QU J J J)<|rM J J J ?_
 refine Qb h1 (fun x40 hx40 h1=>?_)
 refine JY id hx40 h1 (fun x41 hx41 h1=>?_) (fun x42 hx42 h1=>?_)
 refine Q9 J J (lb J) (Jj (hp1':=[(0,.cells 62 [dS a1,.mp 1]),(1,.mp (QO a2.1) a2.2),(2,.mp (QO ((J2 a3 a0.name (⟨(Qn y3 a0.name).kind,(Qn y3 a0.name).decl,(Qn y3 a0.name).item,(Qn y3 a0.name).params,((Qn y3 a0.name).ty)⟩:Ent)):Qa Bs Ent).1) ((J2 a3 a0.name (⟨(Qn y3 a0.name).kind,(Qn y3 a0.name).decl,(Qn y3 a0.name).item,(Qn y3 a0.name).params,((Qn y3 a0.name).ty)⟩:Ent)):Qa Bs Ent).2)]) (tk1':=[]) (hpF:=m47f10_h40 a0 y3 a1 x39) (tkF:=[]) (res2:=QK []) (nx2:=20) [0,1,2] J J (CallE.m (YF x39.ty 0 a0.params a1 a2 (J2 a3 a0.name (⟨(Qn y3 a0.name).kind,(Qn y3 a0.name).decl,(Qn y3 a0.name).item,(Qn y3 a0.name).params,((Qn y3 a0.name).ty)⟩:Ent)) (.inl x41) hx41)) J J (qB J J (qG J (qG J qZ))) J J (gR J (gG J (gG J gZ))) jZ (hA J) kZ J J J J J (bB J J (bG J (bG J bZ))) J J J J)<|Q3<|Qe<|Q4<|Q0<|rR J J J (Q7 J J J)<|rM J J J<|Q3 ?_
 have e:=sI h1;subst e
 refine QR (J9 (s1+1)) (Qu (tA J) (hA J) kZ J (Nat.le_trans hv0 (lb J)) J J J (bB J J (bG J (bG J (bB J J (bG J (bA J)))))) J J) ho1
 refine Jf J (Yy (hp1':=[(0,.cells 62 [dS a1,.mp 1]),(1,.mp (QO a2.1) a2.2),(2,.mp (QO ((J2 a3 a0.name (⟨(Qn y3 a0.name).kind,(Qn y3 a0.name).decl,(Qn y3 a0.name).item,(Qn y3 a0.name).params,((Qn y3 a0.name).ty)⟩:Ent)):Qa Bs Ent).1) ((J2 a3 a0.name (⟨(Qn y3 a0.name).kind,(Qn y3 a0.name).decl,(Qn y3 a0.name).item,(Qn y3 a0.name).params,((Qn y3 a0.name).ty)⟩:Ent)):Qa Bs Ent).2)]) (tk1':=[]) (hpF:=m47f10_h40 a0 y3 a1 x39) (tkF:=[]) (nx2:=15) [0,1,2] J J (CallE.d (YF x39.ty 0 a0.params a1 a2 (J2 a3 a0.name (⟨(Qn y3 a0.name).kind,(Qn y3 a0.name).decl,(Qn y3 a0.name).item,(Qn y3 a0.name).params,((Qn y3 a0.name).ty)⟩:Ent)) (.inr x42) hx42)) J J (qB J J (qG J (qG J qZ))) J (gR J (gG J (gG J gZ))) jZ (hA J) kZ J J J J J (bB J J (bG J (bG J bZ))) J J J J) ?_
 have e:=sI h1;subst e
 have e_:_=_:=ho1
 subst e_
 try dsimp only [Sum.elim_inl,Sum.elim_inr] at h0
 have e:=sI h0;subst e
 exact Jo (hQ0 (.panic (Jx (QJ 90 x42))) _ ZY J (show StLe _ _ ⟨[],m47f10_h41 a1 a2 a3 a0 y3,[],14,99,[]⟩ from (Qu tZ (hA J) kZ J (Nat.le_trans hv0 (lb J)) J J J (bB J J (bG J (bG J bZ))) J J))) (fun _ _ h=>h)
 replace h1:=Ql c38 h1
 refine J5<|Qo<|Qo ?_
 have e:=sI h1;subst e
 have e_:_=_:=ho1
 subst e_
 exact QW () (Qu (tA J) (hA J) kZ J (Nat.le_trans hv0 (lb J)) J J J (bB J J (bG J (bG J (bB J J (bG J (bA J)))))) J J) h0
 intro o36 h0
 unfold KQ at h0
 refine QM<|Q4<|Q5<|Q5<|Q0<|rR J J J (Q2 YD J)<|rR J J J (Q6 K2 J J J)<|rR J J J (QA (α:=Ctr) YM J (.d _))<|rM J J J<|Q3<|Q4<|Qf ?_
 refine QY 4 (fun (o43:(Qa Bs Ent))=>⟨[(0,.v (.one (.ptr 0 0))),(2,.v (.one (.mp 2))),(4,.v (.one (.ptr 3 0))),(6,.v (.one (.ptr 5 0)))],[(0,.cells 62 [dS a1,.mp 1]),(1,.mp (QO a2.1) a2.2),(2,.mp (QO o43.1) o43.2),(3,.cells 45 (cE a0)),(4,.mp (QO y3.1) y3.2),(5,.cells 60 [.mp 4]),(6,.cells 45 (cE a0)),(7,.cells 3 [dI (a1.length:Int)])],[],11,99,[]⟩) (fun (o43:(Qa Bs Ent))=>(m47f10_k8 a0 a1 a2 o43 y3)=some r) ?_ ?_
 refine Qb h0 (fun o44 hl1 h0=>?_)
 refine QX (Kb a0 y3) (fun s1=>⟨[(0,.v (.one (.ptr 0 0))),(2,.v (.one (.mp 2))),(4,.v (.one (.ptr 3 0))),(6,.v (.one (.ptr 5 0))),(52,.v (.one (dS a0.ctors))),(53,.v (.one (dI (a0.ctors.length:Int)))),(54,.v (.one (dI s1.1)))],[(0,.cells 62 [dS a1,.mp 1]),(1,.mp (QO a2.1) a2.2),(2,.mp (QO s1.2.1) s1.2.2),(3,.cells 45 (cE a0)),(4,.mp (QO y3.1) y3.2),(5,.cells 60 [.mp 4]),(6,.cells 45 (cE a0)),(7,.cells 3 [dI (a1.length:Int)])],[],11,99,[]⟩) (0,(J2 a3 a0.name (⟨(Qn y3 a0.name).kind,(Qn y3 a0.name).decl,(Qn y3 a0.name).item,(Qn y3 a0.name).params,((Qn y3 a0.name).ty)⟩:Ent))) o44 (Qu (tA J) (hA J) kZ J (Nat.le_trans hv0 (lb J)) J J J (bB J J (bG J (bG J (bB J J (bG J (bA J)))))) J J) hl1 (fun s1 n1 oo1 h1 ho1=>?_)
 unfold Kb at h1
 refine Q5<|Q0<|rR J J J (Q7 J J J)<|Q3<|Q4<|Q5 ?_
 refine Qh (b:=(decide (s1.1 < (a0.ctors.length:Int)))) J (fun c45=>?_) (fun c45=>?_)
 replace h1:=Qk c45 h1
 refine Qm<|Q4<|Q5<|Qf<|Q5<|Q0 ?_
 refine Qb h1 (fun x46 hx46 h1=>?_)
 refine rR J J J (Qy (α:=Ctr) YM J (.d _) J hx46)<|rR J J J (Qv (x46:Ctr) K0 J)<|Q9 J J (lb J) (Qj UV J)<|Qx J J (Qz (x46:Ctr) K0 J J J J J)<|Q3<|Q4<|Q0<|rM J J J<|rR J J J (Q2 Gs J)<|rR J J J (Q6 JV J J J)<|rR J J J (Q6 YA J J J)<|rR J J J (Q2 Gs J)<|rR J J J (Q6 JV J J J)<|rR J J J (YT (M:=y3) (k:=x46.name) YP Kz J J J) ?_
 refine Qx J J (Jh (M:=s1.2) (k:=x46.name) (v:=(⟨(Qn y3 x46.name).kind,(Qn y3 x46.name).decl,(Qn y3 x46.name).item,(Qn y3 x46.name).params,((Qn y3 x46.name).ty)⟩:Ent)) YP J J J J J)<|Q3<|Qe<|Q4<|Q0<|rR J J J (Q7 J J J)<|rM J J J<|Q3 ?_
 have e:=sI h1;subst e
 refine QR ((J9 (s1.1+1)),(J2 s1.2 x46.name (⟨(Qn y3 x46.name).kind,(Qn y3 x46.name).decl,(Qn y3 x46.name).item,(Qn y3 x46.name).params,((Qn y3 x46.name).ty)⟩:Ent))) (Qu (tA J) (hA J) kZ J (Nat.le_trans hv0 (lb J)) J J J (bB J J (bG J (bG J (bB J J (bG J (bA J)))))) J J) ho1
 replace h1:=Ql c45 h1
 refine J5<|Qo<|Qo ?_
 have e:=sI h1;subst e
 have e_:_=_:=ho1
 subst e_
 exact QW s1.2 (Qu (tA J) (hA J) kZ J (Nat.le_trans hv0 (lb J)) J J J (bB J J (bG J (bG J (bB J J (bG J (bA J)))))) J J) h0
 intro o43 h0
 unfold m47f10_k8 at h0
 refine QM<|Q4<|Q5<|Q0<|rM J J J<|rR J J J (Q2 JT J)<|rR J J J (Q2 Gt J)<|rR J J J (Qi QV J J J J)<|rR J J J (Q2 JT J)<|rR J J J (Q2 Gu J)<|rR J J J (Q6 QU J J J)<|rM J J J ?_
 refine Qb h0 (fun x47 hx47 h0=>?_)
 refine JY id hx47 h0 (fun x48 hx48 h0=>?_) (fun x49 hx49 h0=>?_)
 refine Q9 J J (lb J) (Jj (hp1':=[(0,.cells 62 [dS a1,.mp 1]),(1,.mp (QO a2.1) a2.2),(2,.mp (QO o43.1) o43.2)]) (tk1':=[]) (hpF:=m47f10_h42 a0 y3 a1) (tkF:=[]) (res2:=QK []) (nx2:=19) [0,1,2] J J (CallE.m (YF a0.rcr.ty 0 a0.rcr.params a1 a2 o43 (.inl x48) hx48)) J J (qB J J (qG J (qG J qZ))) J J (gR J (gG J (gG J gZ))) jZ (hA J) kZ J J J J J (bB J J (bG J (bG J bZ))) J J J J)<|Q3<|Q4<|Q5<|Q0<|rR J J J (Q2 Ym J)<|rR J J J (Q6 JV J J J) ?_
 refine Yo h0 (fun g50 h0=>?_)
 refine rR J J J (W4 J J g50)<|rA J J J<|Q3<|Q4<|Q5<|Q0<|rM J J J<|rM J J J<|rR J J J (Q6 YA J J J)<|rM J J J<|rR J J J (YT (M:=y3) (k:=(a0.name++([46,114,101,99]:List UInt8))) YP Kz J J J)<|Qx J J (Jh (M:=o43) (k:=(a0.name++([46,114,101,99]:List UInt8))) (v:=(⟨(Qn y3 (a0.name++([46,114,101,99]:List UInt8))).kind,(Qn y3 (a0.name++([46,114,101,99]:List UInt8))).decl,(Qn y3 (a0.name++([46,114,101,99]:List UInt8))).item,(Qn y3 (a0.name++([46,114,101,99]:List UInt8))).params,((Qn y3 (a0.name++([46,114,101,99]:List UInt8))).ty)⟩:Ent)) YP J J J J J)<|Q3<|Q4 ?_
 refine Q5<|Q0<|rR J J J (Q2 JT J)<|rR J J J (Q2 KG J)<|rR J J J (Q6 JO J J J)<|rR J J J (QA (α:=Tm) Jl J (.d _))<|rM J J J<|Q3<|Q4<|Qf ?_
 refine QY 6 (fun (o51:Unit)=>⟨[],m47f10_h44 a1 a2 o43 a0 y3,[],19,99,[]⟩) (fun (o51:Unit)=>(m47f10_k7 o43 a0 y3)=some r) ?_ ?_
 refine Qb h0 (fun o52 hl1 h0=>?_)
 refine QX (KO a0 a1 a2 o43 y3) (fun s1=>⟨[(0,.v (.one (.ptr 0 0))),(2,.v (.one (.mp 2))),(4,.v (.one (.ptr 3 0))),(85,.v (.one (dS a0.rcr.rules))),(86,.v (.one (dI (a0.rcr.rules.length:Int)))),(87,.v (.one (dI s1)))],m47f10_h44 a1 a2 o43 a0 y3,[],19,99,[]⟩) 0 o52 (Qu (tA J) (hA J) kZ J (Nat.le_trans hv0 (lb J)) J J J (bB J J (bG J (bG J (bB J J (bG J (bA J)))))) J J) hl1 (fun s1 n1 oo1 h1 ho1=>?_)
 unfold KO at h1
 refine Q5<|Q0<|rR J J J (Q7 J J J)<|Q3<|Q4<|Q5 ?_
 refine Qh (b:=(decide (s1 < (a0.rcr.rules.length:Int)))) J (fun c53=>?_) (fun c53=>?_)
 replace h1:=Qk c53 h1
 refine Qm<|Q4<|Q5<|Qf<|Q5<|Q0 ?_
 refine Qb h1 (fun x54 hx54 h1=>?_)
 refine rR J J J (Qy (α:=Tm) Jl J (.d _) J hx54)<|rR J J J (Qv (x54:Tm) QV J)<|Q9 J J (lb J) (Qj K4 J)<|Qx J J (Qz (x54:Tm) QV J J J J J)<|Q3<|Q4<|Q0<|rM J J J<|rR J J J (QN (x54:Tm) QV J J)<|rR J J J (Q2 JT J)<|rR J J J (Q2 Gu J)<|rR J J J (Q6 QU J J J)<|rM J J J ?_
 refine Qb h1 (fun x55 hx55 h1=>?_)
 refine JY id hx55 h1 (fun x56 hx56 h1=>?_) (fun x57 hx57 h1=>?_)
 refine Q9 J J (lb J) (Jj (hp1':=[(0,.cells 62 [dS a1,.mp 1]),(1,.mp (QO a2.1) a2.2),(2,.mp (QO ((J2 o43 (a0.name++([46,114,101,99]:List UInt8)) (⟨(Qn y3 (a0.name++([46,114,101,99]:List UInt8))).kind,(Qn y3 (a0.name++([46,114,101,99]:List UInt8))).decl,(Qn y3 (a0.name++([46,114,101,99]:List UInt8))).item,(Qn y3 (a0.name++([46,114,101,99]:List UInt8))).params,((Qn y3 (a0.name++([46,114,101,99]:List UInt8))).ty)⟩:Ent)):Qa Bs Ent).1) ((J2 o43 (a0.name++([46,114,101,99]:List UInt8)) (⟨(Qn y3 (a0.name++([46,114,101,99]:List UInt8))).kind,(Qn y3 (a0.name++([46,114,101,99]:List UInt8))).decl,(Qn y3 (a0.name++([46,114,101,99]:List UInt8))).item,(Qn y3 (a0.name++([46,114,101,99]:List UInt8))).params,((Qn y3 (a0.name++([46,114,101,99]:List UInt8))).ty)⟩:Ent)):Qa Bs Ent).2)]) (tk1':=[]) (hpF:=m47f10_h45 a0 y3 a1 x54) (tkF:=[]) (res2:=QK []) (nx2:=28) [0,1,2] J J (CallE.m (YF x54 0 a0.rcr.params a1 a2 (J2 o43 (a0.name++([46,114,101,99]:List UInt8)) (⟨(Qn y3 (a0.name++([46,114,101,99]:List UInt8))).kind,(Qn y3 (a0.name++([46,114,101,99]:List UInt8))).decl,(Qn y3 (a0.name++([46,114,101,99]:List UInt8))).item,(Qn y3 (a0.name++([46,114,101,99]:List UInt8))).params,((Qn y3 (a0.name++([46,114,101,99]:List UInt8))).ty)⟩:Ent)) (.inl x56) hx56)) J J (qB J J (qG J (qG J qZ))) J J (gR J (gG J (gG J gZ))) jZ (hA J) kZ J J J J J (bB J J (bG J (bG J bZ))) J J J J)<|Q3<|Qe<|Q4<|Q0<|rR J J J (Q7 J J J)<|rM J J J<|Q3 ?_
 have e:=sI h1;subst e
 refine QR (J9 (s1+1)) (Qu (tA J) (hA J) kZ J (Nat.le_trans hv0 (lb J)) J J J (bB J J (bG J (bG J (bB J J (bG J (bA J)))))) J J) ho1
 refine Jf J (Yy (hp1':=[(0,.cells 62 [dS a1,.mp 1]),(1,.mp (QO a2.1) a2.2),(2,.mp (QO ((J2 o43 (a0.name++([46,114,101,99]:List UInt8)) (⟨(Qn y3 (a0.name++([46,114,101,99]:List UInt8))).kind,(Qn y3 (a0.name++([46,114,101,99]:List UInt8))).decl,(Qn y3 (a0.name++([46,114,101,99]:List UInt8))).item,(Qn y3 (a0.name++([46,114,101,99]:List UInt8))).params,((Qn y3 (a0.name++([46,114,101,99]:List UInt8))).ty)⟩:Ent)):Qa Bs Ent).1) ((J2 o43 (a0.name++([46,114,101,99]:List UInt8)) (⟨(Qn y3 (a0.name++([46,114,101,99]:List UInt8))).kind,(Qn y3 (a0.name++([46,114,101,99]:List UInt8))).decl,(Qn y3 (a0.name++([46,114,101,99]:List UInt8))).item,(Qn y3 (a0.name++([46,114,101,99]:List UInt8))).params,((Qn y3 (a0.name++([46,114,101,99]:List UInt8))).ty)⟩:Ent)):Qa Bs Ent).2)]) (tk1':=[]) (hpF:=m47f10_h45 a0 y3 a1 x54) (tkF:=[]) (nx2:=23) [0,1,2] J J (CallE.d (YF x54 0 a0.rcr.params a1 a2 (J2 o43 (a0.name++([46,114,101,99]:List UInt8)) (⟨(Qn y3 (a0.name++([46,114,101,99]:List UInt8))).kind,(Qn y3 (a0.name++([46,114,101,99]:List UInt8))).decl,(Qn y3 (a0.name++([46,114,101,99]:List UInt8))).item,(Qn y3 (a0.name++([46,114,101,99]:List UInt8))).params,((Qn y3 (a0.name++([46,114,101,99]:List UInt8))).ty)⟩:Ent)) (.inr x57) hx57)) J J (qB J J (qG J (qG J qZ))) J (gR J (gG J (gG J gZ))) jZ (hA J) kZ J J J J J (bB J J (bG J (bG J bZ))) J J J J) ?_
 have e:=sI h1;subst e
 have e_:_=_:=ho1
 subst e_
 try dsimp only [Sum.elim_inl,Sum.elim_inr] at h0
 have e:=sI h0;subst e
 exact Jo (hQ0 (.panic (Jx (QJ 90 x57))) _ ZY J (show StLe _ _ ⟨[],m47f10_h46 a1 a2 o43 a0 y3,[],14,99,[]⟩ from (Qu tZ (hA J) kZ J (Nat.le_trans hv0 (lb J)) J J J (bB J J (bG J (bG J bZ))) J J))) (fun _ _ h=>h)
 replace h1:=Ql c53 h1
 refine J5<|Qo<|Qo ?_
 have e:=sI h1;subst e
 have e_:_=_:=ho1
 subst e_
 exact QW () (Qu tZ (hA J) kZ J (Nat.le_trans hv0 (lb J)) J J J (bB J J (bG J (bG J (bB J J (bG J (bA J)))))) J J) h0
 intro o51 h0
 unfold m47f10_k7 at h0
 refine QM ?_
 have e:=sI h0;subst e
 exact hQ0 _ _ byN J (show StLe _ _ ⟨[],m47f10_h46 a1 a2 o43 a0 y3,[],19,99,[]⟩ from (Qu tZ (hA J) kZ J (Nat.le_trans hv0 (lb J)) J J J (bB J J (bG J (bG J bZ))) J J))
 refine Jf J (Yy (hp1':=[(0,.cells 62 [dS a1,.mp 1]),(1,.mp (QO a2.1) a2.2),(2,.mp (QO o43.1) o43.2)]) (tk1':=[]) (hpF:=m47f10_h42 a0 y3 a1) (tkF:=[]) (nx2:=14) [0,1,2] J J (CallE.d (YF a0.rcr.ty 0 a0.rcr.params a1 a2 o43 (.inr x49) hx49)) J J (qB J J (qG J (qG J qZ))) J (gR J (gG J (gG J gZ))) jZ (hA J) kZ J J J J J (bB J J (bG J (bG J bZ))) J J J J) ?_
 have e:=sI h0;subst e
 exact Jo (hQ0 (.panic (Jx (QJ 90 x49))) _ ZY J (show StLe _ _ ⟨[],m47f10_h47 a1 a2 o43,[],14,99,[]⟩ from (Qu tZ (hA J) kZ J (Nat.le_trans hv0 (lb J)) J J J (bB J J (bG J (bG J bZ))) J J))) (fun _ _ h=>h)
end Go.Proofs.Ytafddfoefeploaa
namespace Go.Proofs.Ytafddfoefeploaa
open Go.RowKit Go.Shelf
theorem z_74:JD Try.prog 74=some [.int .i64 0,.int .i64 0,.int .i64 0,.string ByteArray.empty,.slice none 0 0,.slice none 0 0,.int .i64 0,.slice none 0 0]:=by kernel_rfl
theorem en_48:J4 Try.prog 48:=enters_of Try.func48 (by kernel_rfl) rfl
noncomputable def m48f11_k0 (p0_:Br) (p1_:Int) (p2_:List Dcl) (p3_:Qa Bs Ent) (p4_:Tr×Int×Int×Int×(List Dcl)×(Qa Bs Ent)×(Qa Bs Ent)→Option (Unit⊕Int)) (p5_:Int) (p6_:Int) (p7_:Int) (p8_:Qa Bs Ent):Option (LO Int (Unit⊕(Unit⊕Int))) :=
 cond p0_.absurd
   (Option.bind (cond (p0_.tree.kind==0)
   (cond (p0_.tree.var==0)
   (cond ((p0_.tree.branches.length:Int)==0)
   (Option.bind (DU p0_.tree.body) fun (b0_:Bool) =>
 Option.bind (Jy b0_ 3) (Sum.elim (fun (b1_:Unit)=>some (.inl ())) (fun (b2_:Unit)=>some (.inr (.inr 3)))))
   (Option.bind (Jy false 3) (Sum.elim (fun (b3_:Unit)=>some (.inl ())) (fun (b4_:Unit)=>some (.inr (.inr 3))))))
   (Option.bind (Jy false 3) (Sum.elim (fun (b5_:Unit)=>some (.inl ())) (fun (b6_:Unit)=>some (.inr (.inr 3))))))
   (Option.bind (Jy false 3) (Sum.elim (fun (b7_:Unit)=>some (.inl ())) (fun (b8_:Unit)=>some (.inr (.inr 3)))))) (Sum.elim (fun (b9_:Unit)=>some (.next (J9 (p1_+1)))) (fun o=>some (.done (.inr o)))))
   (Option.bind (JC p2_ ((Qn p3_ p0_.ctor).decl)) fun (b10_:Dcl) =>
 Option.bind (m68 b10_ ((Qn p3_ p0_.ctor).item)) fun (b11_:Int) =>
 Option.bind (p4_ (p0_.tree,(J9 (p5_+b11_)),(J9 (p6_+1)),p7_,p2_,p3_,p8_)) (Sum.elim (fun (b12_:Unit)=>some (.next (J9 (p1_+1)))) (fun (b13_:Int)=>some (.done (.inr (.inr b13_))))))
noncomputable def KN (a0:Tr) (a5:Qa Bs Ent) (a4:List Dcl) (rc:Tr×Int×Int×Int×(List Dcl)×(Qa Bs Ent)×(Qa Bs Ent)→Option (Unit⊕Int)) (a1:Int) (a2:Int) (a3:Int) (a6:Qa Bs Ent) (s1:Int):Option (LO Int (Unit⊕(Unit⊕Int))) :=
 cond (decide (s1 < (a0.branches.length:Int)))
   (Option.bind (JC a0.branches s1) fun (x23:Br) =>
 Option.bind (cond (YE a5 x23.ctor)
   (Option.bind (Jy (((Qn a5 x23.ctor).kind)==4) 9) (Sum.elim (fun (x27:Unit)=>some (.inl ())) (fun (x28:Unit)=>some (.inr (.inr 9)))))
   (Option.bind (Jy false 9) (Sum.elim (fun (x30:Unit)=>some (.inl ())) (fun (x31:Unit)=>some (.inr (.inr 9)))))) (Sum.elim (fun (v24:Unit)=>m48f11_k0 x23 s1 a4 a5 rc a1 a2 a3 a6) (fun o=>some (.done (.inr o)))))
   (some (.done (.inl ())))
noncomputable def GL (p0_:Tr) (p1_:Qa Bs Ent) (p2_:List Dcl) (p3_:Tr×Int×Int×Int×(List Dcl)×(Qa Bs Ent)×(Qa Bs Ent)→Option (Unit⊕Int)) (p4_:Int) (p5_:Int) (p6_:Int) (p7_:Qa Bs Ent):Option (Unit⊕Int) :=
 Option.bind (Jy (decide ((p0_.branches.length:Int)≤32)) 6) (Sum.elim (fun (b0_:Unit)=>Option.bind (Qp (KN p0_ p1_ p2_ p3_ p4_ p5_ p6_ p7_) QF 0) (Sum.elim (fun (b1_:Unit)=>some (.inl ())) (fun o=>some o))) (fun (b2_:Unit)=>some (.inr 6)))
noncomputable def GK (p0_:Tr) (p1_:Int) (p2_:Qa Bs Ent) (p3_:List Dcl) (p4_:Tr×Int×Int×Int×(List Dcl)×(Qa Bs Ent)×(Qa Bs Ent)→Option (Unit⊕Int)) (p5_:Int) (p6_:Int) (p7_:Qa Bs Ent):Option (Unit⊕Int) :=
 Option.bind (cond (decide (0≤p0_.var))
   (Option.bind (Jy (decide (p0_.var < p1_)) 24) (Sum.elim (fun (b0_:Unit)=>some (.inl ())) (fun (b1_:Unit)=>some (.inr (.inr 24)))))
   (Option.bind (Jy false 24) (Sum.elim (fun (b2_:Unit)=>some (.inl ())) (fun (b3_:Unit)=>some (.inr (.inr 24)))))) (Sum.elim (fun (b4_:Unit)=>GL p0_ p2_ p3_ p4_ p1_ p5_ p6_ p7_) (fun o=>some o))
noncomputable abbrev GM (p0_:List Dcl) (p1_:Qa Bs Ent) (p2_:Qa Bs Ent) (p3_:Tr):List (Nat×HB) :=
 [(0,.cells 62 [dS p0_,.mp 1]),(1,.mp (QO p1_.1) p1_.2),(2,.mp (QO p2_.1) p2_.2),(3,.cells 74 (cE p3_))]
noncomputable abbrev QQ (p0_:List Dcl) (p1_:Qa Bs Ent) (p2_:Qa Bs Ent):List (Nat×HB) :=
 [(0,.cells 62 [dS p0_,.mp 1]),(1,.mp (QO p1_.1) p1_.2),(2,.mp (QO p2_.1) p2_.2)]
noncomputable abbrev m48f11_h2 (p0_:Qa Bs Ent) (p1_:Br):HB :=
 .cells 35 [dI ((Qn p0_ p1_.ctor).kind),dI ((Qn p0_ p1_.ctor).decl),dI ((Qn p0_ p1_.ctor).item),dI ((Qn p0_ p1_.ctor).params),dI (((Qn p0_ p1_.ctor).ty).kind),dI (((Qn p0_ p1_.ctor).ty).index),Jn (((Qn p0_ p1_.ctor).ty).name),dS (((Qn p0_ p1_.ctor).ty).levels:List Lvl),dS (((Qn p0_ p1_.ctor).ty).kids:List Tm)]
noncomputable abbrev m48f11_h3 (p0_:List Dcl) (p1_:Qa Bs Ent) (p2_:Qa Bs Ent) (p3_:Tr) (p4_:Br):List (Nat×HB) :=
 [(0,.cells 62 [dS p0_,.mp 1]),(1,.mp (QO p1_.1) p1_.2),(2,.mp (QO p2_.1) p2_.2),(3,.cells 74 (cE p3_)),(4,.cells 101 (cE p4_)),(5,m48f11_h2 p1_ p4_)]
noncomputable abbrev m48f11_h4 (p0_:List Dcl) (p1_:Qa Bs Ent) (p2_:Qa Bs Ent) (p3_:Tr) (p4_:Br):List (Nat×HB) :=
 [(0,.cells 62 [dS p0_,.mp 1]),(1,.mp (QO p1_.1) p1_.2),(2,.mp (QO p2_.1) p2_.2),(3,.cells 74 (cE p3_)),(4,.cells 101 (cE p4_)),(5,m48f11_h2 p1_ p4_),(6,.cells 74 (cE p4_.tree))]
noncomputable abbrev m48f11_h5 (p0_:Tr) (p1_:Br) (p2_:Qa Bs Ent):List (Nat×HB) :=
 [(3,.cells 74 (cE p0_)),(4,.cells 101 (cE p1_)),(5,m48f11_h2 p2_ p1_)]
noncomputable def WM (rc:Tr×Int×Int×Int×(List Dcl)×(Qa Bs Ent)×(Qa Bs Ent)→Option (Unit⊕Int)) (a0:Tr) (a1:Int) (a2:Int) (a3:Int) (a4:List Dcl) (a5:Qa Bs Ent) (a6:Qa Bs Ent):Option (Unit⊕Int) :=
 Option.bind (Jy (decide (a2 < 200)) 7) (Sum.elim (fun (x2:Unit)=>cond (a0.kind==0)
   (Option.bind (cond (a0.var==0)
   (Option.bind (Jy ((a0.branches.length:Int)==0) 3) (Sum.elim (fun (x8:Unit)=>some (.inl ())) (fun (x9:Unit)=>some (.inr (.inr 3)))))
   (Option.bind (Jy false 3) (Sum.elim (fun (x11:Unit)=>some (.inl ())) (fun (x12:Unit)=>some (.inr (.inr 3)))))) (Sum.elim (fun (v5:Unit)=>Option.bind (Gl a0.body a1 a3 a4 a5 a6) (Sum.elim (fun (x7:Unit)=>some (.inl ())) (fun (x8:Int)=>some (.inr x8)))) (fun o=>some o)))
   (Option.bind (cond (a0.kind==1)
   (Option.bind (DU a0.body) fun (x18:Bool) =>
 Option.bind (Jy x18 3) (Sum.elim (fun (x20:Unit)=>some (.inl ())) (fun (x21:Unit)=>some (.inr (.inr 3)))))
   (Option.bind (Jy false 3) (Sum.elim (fun (x23:Unit)=>some (.inl ())) (fun (x24:Unit)=>some (.inr (.inr 3)))))) (Sum.elim (fun (v16:Unit)=>GK a0 a1 a5 a4 rc a2 a3 a6) (fun o=>some o)))) (fun (x3:Unit)=>some (.inr 7)))
noncomputable def X5 (rc:Tr×Int×Int×Int×(List Dcl)×(Qa Bs Ent)×(Qa Bs Ent)→Option (Unit⊕Int)) (u:Tr×Int×Int×Int×(List Dcl)×(Qa Bs Ent)×(Qa Bs Ent)):Option (Unit⊕Int):=WM rc u.1 u.2.1 u.2.2.1 u.2.2.2.1 u.2.2.2.2.1 u.2.2.2.2.2.1 u.2.2.2.2.2.2
noncomputable def m48f11 (a0:Tr) (a1:Int) (a2:Int) (a3:Int) (a4:List Dcl) (a5:Qa Bs Ent) (a6:Qa Bs Ent):Option (Unit⊕Int):=Jr X5 QF (a0,a1,a2,a3,a4,a5,a6)
theorem m48f11s_ok (rc:Tr×Int×Int×Int×(List Dcl)×(Qa Bs Ent)×(Qa Bs Ent)→Option (Unit⊕Int)) (H:∀ (a0:Tr) (a1:Int) (a2:Int) (a3:Int) (a4:List Dcl) (a5:Qa Bs Ent) (a6:Qa Bs Ent) (r:Unit⊕Int),rc (a0,a1,a2,a3,a4,a5,a6)=some r→CallE Try.prog 48 [.one (.ptr 0 0),.agg (cE a0),.one (dI a1),.one (dI a2),.one (dI a3),.one (.mp 2)] ⟨QQ a4 a5 a6,[],3⟩ ((Sum.elim (fun (r0:Unit)=>((.ret []):EK)) (fun (r1:Int)=>((.pan (QJ 90 r1)):EK))) r) ⟨((Sum.elim (fun (r0:Unit)=>(⟨[],QQ a4 a5 a6,[],4,134,[]⟩:St)) (fun (r1:Int)=>(⟨[],QQ a4 a5 a6,[],4,134,[]⟩:St))) r).hp,((Sum.elim (fun (r0:Unit)=>(⟨[],QQ a4 a5 a6,[],4,134,[]⟩:St)) (fun (r1:Int)=>(⟨[],QQ a4 a5 a6,[],4,134,[]⟩:St))) r).tk,((Sum.elim (fun (r0:Unit)=>(⟨[],QQ a4 a5 a6,[],4,134,[]⟩:St)) (fun (r1:Int)=>(⟨[],QQ a4 a5 a6,[],4,134,[]⟩:St))) r).nx⟩) (a0:Tr) (a1:Int) (a2:Int) (a3:Int) (a4:List Dcl) (a5:Qa Bs Ent) (a6:Qa Bs Ent) (r:Unit⊕Int) (h0:WM rc a0 a1 a2 a3 a4 a5 a6=some r):CallE Try.prog 48 [.one (.ptr 0 0),.agg (cE a0),.one (dI a1),.one (dI a2),.one (dI a3),.one (.mp 2)] ⟨QQ a4 a5 a6,[],3⟩ ((Sum.elim (fun (r0:Unit)=>((.ret []):EK)) (fun (r1:Int)=>((.pan (QJ 90 r1)):EK))) r) ⟨((Sum.elim (fun (r0:Unit)=>(⟨[],QQ a4 a5 a6,[],4,134,[]⟩:St)) (fun (r1:Int)=>(⟨[],QQ a4 a5 a6,[],4,134,[]⟩:St))) r).hp,((Sum.elim (fun (r0:Unit)=>(⟨[],QQ a4 a5 a6,[],4,134,[]⟩:St)) (fun (r1:Int)=>(⟨[],QQ a4 a5 a6,[],4,134,[]⟩:St))) r).tk,((Sum.elim (fun (r0:Unit)=>(⟨[],QQ a4 a5 a6,[],4,134,[]⟩:St)) (fun (r1:Int)=>(⟨[],QQ a4 a5 a6,[],4,134,[]⟩:St))) r).nx⟩:=by
 unfold WM at h0
 refine JK r ((Sum.elim (fun (r0:Unit)=>(⟨[],QQ a4 a5 a6,[],4,134,[]⟩:St)) (fun (r1:Int)=>(⟨[],QQ a4 a5 a6,[],4,134,[]⟩:St)))) ((Sum.elim (fun (r0:Unit)=>((.ret []):EK)) (fun (r1:Int)=>((.pan (QJ 90 r1)):EK)))) rfl rfl en_48 (lb rfl) (fun z_=>by cases z_ with
 | inl _=>exact rfl
 | inr _=>exact rfl) (fun z_=>by cases z_ with
 | inl _=>exact (Du .nil)
 | inr _=>exact DB) (fun w0 M V0 Q hv0 hQ0=>?_)
 simp only [Ja]
 refine Q5<|Q0<|Q9 J J (lb J) (QT J)<|Q3<|Q4<|Q5<|Q0<|rM J J J<|rR J J J (Q7 J J J) ?_
 refine Qb h0 (fun x1 hx1 h0=>?_)
 refine JY id hx1 h0 (fun x2 hx2 h0=>?_) (fun x3 hx3 h0=>?_)
 refine Q9 J J (lb J) (QE J J J (CallE.m (QB (decide (a2 < 200)) 7 (.inl x2) hx2)) J)<|Q3<|Q4<|Q5<|Q5<|Q0<|rR J J J (Q2 fo_74_0 J)<|rR J J J (Q6 QU J J J)<|rR J J J (Q7 J J J)<|Q3<|Q4 ?_
 refine Qh (b:=(a0.kind==0)) J (fun c4=>?_) (fun c4=>?_)
 replace h0:=Qk c4 h0
 refine Q5 ?_
 refine QS (fun (v5:Unit)=>⟨[(0,.v (.one (.ptr 0 0))),(2,.v (.one (dI a1))),(4,.v (.one (dI a3))),(5,.v (.one (.mp 2))),(7,.v (.one (.ptr 3 0)))],GM a4 a5 a6 a0,[],4,134,[]⟩) (fun (v5:Unit)=>(Option.bind (Gl a0.body a1 a3 a4 a5 a6) (Sum.elim (fun (x7:Unit)=>some (.inl ())) (fun (x8:Int)=>some (.inr x8))))=some r) ?_ ?_
 refine Qb h0 (fun w1_ h1 h0=>?_)
 refine Q0<|rR J J J (Q2 fo_74_2 J)<|rR J J J (Q6 QU J J J)<|rR J J J (Q7 J J J)<|rM J J J ?_
 refine QG (d:=26) (c:=(a0.var==0)) J (fun c6=>?_) (fun c6=>?_)
 replace h1:=Qk c6 h1
 refine rR J J J (Q2 KD J)<|rR J J J (Q6 WZ J J J)<|rR J J J (QA (α:=Br) Xn J (.d _))<|rR J J J (Q7 J J J)<|rR J J J (Qg J J) ?_
 refine Qb h1 (fun x7 hx7 h1=>?_)
 refine JY id hx7 h1 (fun x8 hx8 h1=>?_) (fun x9 hx9 h1=>?_)
 refine Q9 J J (lb J) (QE J J J (CallE.m (QB ((a0.branches.length:Int)==0) 3 (.inl x8) hx8)) J)<|Q3 ?_
 have e:=sI h1;subst e
 replace h0:=KZ h0
 exact Qd () (Qu (tA J) (hA J) kZ J (Nat.le_trans hv0 (lb J)) J J J (bB J J (bG J (bG J (bA J)))) J J) h0
 refine Jf J (QH J J J (CallE.d (QB ((a0.branches.length:Int)==0) 3 (.inr x9) hx9))) ?_
 have e:=sI h1;subst e
 replace h0:=Gx h0
 have e:=sI h0;subst e
 exact Jo (hQ0 (.panic (Jx (QJ 90 3))) _ ZY J (show StLe _ _ ⟨[],QQ a4 a5 a6,[],4,134,[]⟩ from (Qu tZ (hA J) kZ J (Nat.le_trans hv0 (lb J)) J J J (bB J J (bG J (bG J bZ))) J J))) (fun _ _ h=>h)
 replace h1:=Ql c6 h1
 refine Q8 J J<|Q8 J J<|Q8 J J<|Q8 J J<|rR J J J (Qc J J) ?_
 refine Qb h1 (fun x10 hx10 h1=>?_)
 refine JY id hx10 h1 (fun x11 hx11 h1=>?_) (fun x12 hx12 h1=>?_)
 refine Q9 J J (lb J) (QE J J J (CallE.m (QB false 3 (.inl x11) hx11)) J)<|Q3 ?_
 have e:=sI h1;subst e
 replace h0:=KZ h0
 exact Qd () (Qu (tA J) (hA J) kZ J (Nat.le_trans hv0 (lb J)) J J J (bB J J (bG J (bG J (bA J)))) J J) h0
 refine Jf J (QH J J J (CallE.d (QB false 3 (.inr x12) hx12))) ?_
 have e:=sI h1;subst e
 replace h0:=Gx h0
 have e:=sI h0;subst e
 exact Jo (hQ0 (.panic (Jx (QJ 90 3))) _ ZY J (show StLe _ _ ⟨[],QQ a4 a5 a6,[],4,134,[]⟩ from (Qu tZ (hA J) kZ J (Nat.le_trans hv0 (lb J)) J J J (bB J J (bG J (bG J bZ))) J J))) (fun _ _ h=>h)
 intro v5 h0
 refine Q4<|Q5<|Q0<|rM J J J<|rR J J J (Q2 WS J)<|rR J J J (Qi QV J J J J)<|rM J J J<|rM J J J<|rM J J J ?_
 refine Qb h0 (fun x13 hx13 h0=>?_)
 refine JY id hx13 h0 (fun x14 hx14 h0=>?_) (fun x15 hx15 h0=>?_)
 refine Q9 J J (lb J) (Jj (hp1':=[(0,.cells 62 [dS a4,.mp 1]),(1,.mp (QO a5.1) a5.2),(2,.mp (QO a6.1) a6.2)]) (tk1':=[]) (hpF:=[(3,.cells 74 (cE a0))]) (tkF:=[]) (res2:=QK []) (nx2:=12) [0,1,2] J J (CallE.m (YF a0.body a1 a3 a4 a5 a6 (.inl x14) hx14)) J J (qB J J (qG J (qG J qZ))) J J (gR J (gG J (gG J gZ))) jZ (hA J) kZ J J J J J (bB J J (bG J (bG J bZ))) J J J J)<|Q3<|Q4<|QD ?_
 have e:=sI h0;subst e
 exact hQ0 _ _ DV J (show StLe _ _ ⟨[],QQ a4 a5 a6,[],4,134,[]⟩ from (Qu tZ (hA J) kZ J (Nat.le_trans hv0 (lb J)) J J J (bB J J (bG J (bG J bZ))) J J))
 refine Jf J (Yy (hp1':=[(0,.cells 62 [dS a4,.mp 1]),(1,.mp (QO a5.1) a5.2),(2,.mp (QO a6.1) a6.2)]) (tk1':=[]) (hpF:=[(3,.cells 74 (cE a0))]) (tkF:=[]) (nx2:=7) [0,1,2] J J (CallE.d (YF a0.body a1 a3 a4 a5 a6 (.inr x15) hx15)) J J (qB J J (qG J (qG J qZ))) J (gR J (gG J (gG J gZ))) jZ (hA J) kZ J J J J J (bB J J (bG J (bG J bZ))) J J J J) ?_
 have e:=sI h0;subst e
 exact Jo (hQ0 (.panic (Jx (QJ 90 x15))) _ ZY J (show StLe _ _ ⟨[],QQ a4 a5 a6,[],4,134,[]⟩ from (Qu tZ (hA J) kZ J (Nat.le_trans hv0 (lb J)) J J J (bB J J (bG J (bG J bZ))) J J))) (fun _ _ h=>h)
 replace h0:=Ql c4 h0
 refine Qm<|Q4<|Q5 ?_
 refine QS (fun (v16:Unit)=>⟨[(0,.v (.one (.ptr 0 0))),(2,.v (.one (dI a1))),(3,.v (.one (dI a2))),(4,.v (.one (dI a3))),(5,.v (.one (.mp 2))),(7,.v (.one (.ptr 3 0)))],GM a4 a5 a6 a0,[],4,134,[]⟩) (fun (v16:Unit)=>(GK a0 a1 a5 a4 rc a2 a3 a6)=some r) ?_ ?_
 refine Qb h0 (fun w1_ h1 h0=>?_)
 refine Q0<|rR J J J (Q2 fo_74_0 J)<|rR J J J (Q6 QU J J J)<|rR J J J (Q7 J J J)<|rM J J J ?_
 refine QG (d:=43) (c:=(a0.kind==1)) J (fun c17=>?_) (fun c17=>?_)
 replace h1:=Qk c17 h1
 refine rR J J J (Q2 WS J)<|rR J J J (Qi QV J J J J) ?_
 refine Qb h1 (fun x18 hx18 h1=>?_)
 refine Q9 J J (lb J) (Qq (UB a0.body x18 hx18) J (.cons (.agg (.cons (.d _) (.cons (.d _) (.cons (.d _) (.cons (.d _) (.cons (.d _) .nil)))))) .nil))<|rR J J J (Qg J J) ?_
 refine Qb h1 (fun x19 hx19 h1=>?_)
 refine JY id hx19 h1 (fun x20 hx20 h1=>?_) (fun x21 hx21 h1=>?_)
 refine Q9 J J (lb J) (QE J J J (CallE.m (QB x18 3 (.inl x20) hx20)) J)<|Q3 ?_
 have e:=sI h1;subst e
 replace h0:=KZ h0
 exact Qd () (Qu (tA J) (hA J) kZ J (Nat.le_trans hv0 (lb J)) J J J (bB J J (bG J (bG J (bA J)))) J J) h0
 refine Jf J (QH J J J (CallE.d (QB x18 3 (.inr x21) hx21))) ?_
 have e:=sI h1;subst e
 replace h0:=Gx h0
 have e:=sI h0;subst e
 exact Jo (hQ0 (.panic (Jx (QJ 90 3))) _ ZY J (show StLe _ _ ⟨[],QQ a4 a5 a6,[],4,134,[]⟩ from (Qu tZ (hA J) kZ J (Nat.le_trans hv0 (lb J)) J J J (bB J J (bG J (bG J bZ))) J J))) (fun _ _ h=>h)
 replace h1:=Ql c17 h1
 refine Q8 J J<|Q8 J J<|Q8 J J<|rR J J J (Qc J J) ?_
 refine Qb h1 (fun x22 hx22 h1=>?_)
 refine JY id hx22 h1 (fun x23 hx23 h1=>?_) (fun x24 hx24 h1=>?_)
 refine Q9 J J (lb J) (QE J J J (CallE.m (QB false 3 (.inl x23) hx23)) J)<|Q3 ?_
 have e:=sI h1;subst e
 replace h0:=KZ h0
 exact Qd () (Qu (tA J) (hA J) kZ J (Nat.le_trans hv0 (lb J)) J J J (bB J J (bG J (bG J (bA J)))) J J) h0
 refine Jf J (QH J J J (CallE.d (QB false 3 (.inr x24) hx24))) ?_
 have e:=sI h1;subst e
 replace h0:=Gx h0
 have e:=sI h0;subst e
 exact Jo (hQ0 (.panic (Jx (QJ 90 3))) _ ZY J (show StLe _ _ ⟨[],QQ a4 a5 a6,[],4,134,[]⟩ from (Qu tZ (hA J) kZ J (Nat.le_trans hv0 (lb J)) J J J (bB J J (bG J (bG J bZ))) J J))) (fun _ _ h=>h)
 intro v16 h0
 unfold GK at h0
 refine Q4<|Q5 ?_
 refine QS (fun (v25:Unit)=>⟨[(0,.v (.one (.ptr 0 0))),(2,.v (.one (dI a1))),(3,.v (.one (dI a2))),(4,.v (.one (dI a3))),(5,.v (.one (.mp 2))),(7,.v (.one (.ptr 3 0)))],GM a4 a5 a6 a0,[],4,134,[]⟩) (fun (v25:Unit)=>(GL a0 a5 a4 rc a1 a2 a3 a6)=some r) ?_ ?_
 refine Qb h0 (fun w1_ h1 h0=>?_)
 refine Q0<|rR J J J (Q2 fo_74_2 J)<|rR J J J (Q6 QU J J J)<|rR J J J (Q7 J J J)<|rM J J J ?_
 refine QG (d:=52) (c:=(decide (0≤a0.var))) J (fun c26=>?_) (fun c26=>?_)
 replace h1:=Qk c26 h1
 refine rR J J J (Q2 fo_74_2 J)<|rR J J J (Q6 QU J J J)<|rM J J J<|rR J J J (Q7 J J J)<|rR J J J (Qg J J) ?_
 refine Qb h1 (fun x27 hx27 h1=>?_)
 refine JY id hx27 h1 (fun x28 hx28 h1=>?_) (fun x29 hx29 h1=>?_)
 refine Q9 J J (lb J) (QE J J J (CallE.m (QB (decide (a0.var < a1)) 24 (.inl x28) hx28)) J)<|Q3 ?_
 have e:=sI h1;subst e
 replace h0:=KZ h0
 exact Qd () (Qu (tA J) (hA J) kZ J (Nat.le_trans hv0 (lb J)) J J J (bB J J (bG J (bG J (bA J)))) J J) h0
 refine Jf J (QH J J J (CallE.d (QB (decide (a0.var < a1)) 24 (.inr x29) hx29))) ?_
 have e:=sI h1;subst e
 replace h0:=Gx h0
 have e:=sI h0;subst e
 exact Jo (hQ0 (.panic (Jx (QJ 90 24))) _ ZY J (show StLe _ _ ⟨[],QQ a4 a5 a6,[],4,134,[]⟩ from (Qu tZ (hA J) kZ J (Nat.le_trans hv0 (lb J)) J J J (bB J J (bG J (bG J bZ))) J J))) (fun _ _ h=>h)
 replace h1:=Ql c26 h1
 refine Q8 J J<|Q8 J J<|Q8 J J<|Q8 J J<|rR J J J (Qc J J) ?_
 refine Qb h1 (fun x30 hx30 h1=>?_)
 refine JY id hx30 h1 (fun x31 hx31 h1=>?_) (fun x32 hx32 h1=>?_)
 refine Q9 J J (lb J) (QE J J J (CallE.m (QB false 24 (.inl x31) hx31)) J)<|Q3 ?_
 have e:=sI h1;subst e
 replace h0:=KZ h0
 exact Qd () (Qu (tA J) (hA J) kZ J (Nat.le_trans hv0 (lb J)) J J J (bB J J (bG J (bG J (bA J)))) J J) h0
 refine Jf J (QH J J J (CallE.d (QB false 24 (.inr x32) hx32))) ?_
 have e:=sI h1;subst e
 replace h0:=Gx h0
 have e:=sI h0;subst e
 exact Jo (hQ0 (.panic (Jx (QJ 90 24))) _ ZY J (show StLe _ _ ⟨[],QQ a4 a5 a6,[],4,134,[]⟩ from (Qu tZ (hA J) kZ J (Nat.le_trans hv0 (lb J)) J J J (bB J J (bG J (bG J bZ))) J J))) (fun _ _ h=>h)
 intro v25 h0
 unfold GL at h0
 refine Q4<|Q5<|Q0<|rR J J J (Q2 KD J)<|rR J J J (Q6 WZ J J J)<|rR J J J (QA (α:=Br) Xn J (.d _))<|rR J J J (Q7 J J J) ?_
 refine Qb h0 (fun x33 hx33 h0=>?_)
 refine JY id hx33 h0 (fun x34 hx34 h0=>?_) (fun x35 hx35 h0=>?_)
 refine Q9 J J (lb J) (QE J J J (CallE.m (QB (decide ((a0.branches.length:Int)≤32)) 6 (.inl x34) hx34)) J)<|Q3<|Q4<|Q5<|Q0<|rR J J J (Q2 KD J)<|rR J J J (Q6 WZ J J J)<|rR J J J (QA (α:=Br) Xn J (.d _))<|rM J J J<|Q3<|Q4<|Qf ?_
 refine QY 0 (fun (o36:Unit)=>⟨[],GM a4 a5 a6 a0,[],4,134,[]⟩) (fun (o36:Unit)=>(some (.inl ()))=some r) ?_ ?_
 refine Qb h0 (fun o37 hl1 h0=>?_)
 refine QX (KN a0 a5 a4 rc a1 a2 a3 a6) (fun s1=>⟨[(0,.v (.one (.ptr 0 0))),(2,.v (.one (dI a1))),(3,.v (.one (dI a2))),(4,.v (.one (dI a3))),(5,.v (.one (.mp 2))),(65,.v (.one (dS a0.branches))),(66,.v (.one (dI (a0.branches.length:Int)))),(67,.v (.one (dI s1)))],GM a4 a5 a6 a0,[],4,134,[]⟩) 0 o37 (Qu (tA J) (hA J) kZ J (Nat.le_trans hv0 (lb J)) J J J (bB J J (bG J (bG J (bA J)))) J J) hl1 (fun s1 n1 oo1 h1 ho1=>?_)
 unfold KN at h1
 refine Q5<|Q0<|rR J J J (Q7 J J J)<|Q3<|Q4<|Q5 ?_
 refine Qh (b:=(decide (s1 < (a0.branches.length:Int)))) J (fun c38=>?_) (fun c38=>?_)
 replace h1:=Qk c38 h1
 refine Qm<|Q4<|Q5<|Qf<|Q5<|Q0 ?_
 refine Qb h1 (fun x39 hx39 h1=>?_)
 refine rR J J J (Qy (α:=Br) Xn J (.d _) J hx39)<|rR J J J (Qv (x39:Br) ag_101 J)<|Q9 J J (lb J) (Qj z_101 J)<|Qx J J (Qz (x39:Br) ag_101 J J J J J)<|Q3<|Q4<|Q5 ?_
 refine Jv [10,11] [(0,1),(1,1),(2,1),(3,1),(4,1),(5,1),(6,1),(7,1),(8,1),(9,1),(9,2)] YQ (by kernel_rfl) (by kernel_rfl) (by kernel_rfl) ?_
 refine RunA.rd J J J (Q1 (Qr J)) J<|RunA.rd J J J (Q1 (Ju J)) J<|RunA.rd J J J (Q1 (Q2 Kf J)) J<|RunA.rd J J J (Q1 (Q6 YA J J J)) J<|RunA.rd J J J (Q1 (Q2 fo_101_0 J)) J<|RunA.rd J J J (Q1 (Q6 JV J J J)) J<|RunA.rd J J J (Q1 (ZG (M:=a5) (k:=x39.ctor) YP Kz J J J)) J<|RunA.rd J J J (Q1 (Qr J)) J<|RunA.rd J J J (Q1 (J8 J J)) J<|RunA.rd J J J (Q1 (J8 J J)) J<|RunA.eff J J J (Qj Zl J) J<|RunA.eff J J J (Qt Jm J J J J (lb J) J) J<|RunA.rd J J J (Q1 (JH J)) J ?_
 refine RunA.nil ⟨?ex,_,_,J,?_⟩
 case ex=>exact ⟨⟨_,rfl,_,_,rfl,rfl,rfl,.inl ⟨rfl,_,Q1 (Qr rfl),rfl⟩⟩,⟨_,rfl,_,_,rfl,rfl,rfl,.inl ⟨rfl,_,Q1 (Ju rfl),rfl⟩⟩,⟨_,rfl,_,_,rfl,rfl,rfl,.inl ⟨rfl,_,Q1 (Q2 Kf rfl),rfl⟩⟩,⟨_,rfl,_,_,rfl,rfl,rfl,.inl ⟨rfl,_,Q1 (Q6 YA rfl rfl rfl),rfl⟩⟩,⟨_,rfl,_,_,rfl,rfl,rfl,.inl ⟨rfl,_,Q1 (Q2 fo_101_0 rfl),rfl⟩⟩,⟨_,rfl,_,_,rfl,rfl,rfl,.inl ⟨rfl,_,Q1 (Q6 JV rfl rfl rfl),rfl⟩⟩,⟨_,rfl,_,_,rfl,rfl,rfl,.inl ⟨rfl,_,Q1 (ZG (M:=a5) (k:=x39.ctor) YP Kz rfl rfl rfl),rfl⟩⟩,⟨_,rfl,_,_,rfl,rfl,rfl,.inl ⟨rfl,_,Q1 (Qr rfl),rfl⟩⟩,⟨_,rfl,_,_,rfl,rfl,rfl,.inl ⟨rfl,_,Q1 (J8 rfl rfl),rfl⟩⟩,⟨_,rfl,_,_,rfl,rfl,rfl,.inl ⟨rfl,_,Q1 (J8 rfl rfl),rfl⟩⟩,⟨_,rfl,_,_,rfl,rfl,rfl,.inl ⟨rfl,_,Q1 (J8 rfl rfl),rfl⟩⟩,trivial⟩
 refine JW (st':=⟨[(0,.v (.one (.ptr 0 0))),(2,.v (.one (dI a1))),(3,.v (.one (dI a2))),(4,.v (.one (dI a3))),(5,.v (.one (.mp 2))),(13,.v (.one (.ptr 4 0))),(14,.v (.one (.ptr 5 0))),(15,.v (.one (dB (YE a5 x39.ctor)))),(65,.v (.one (dS a0.branches))),(66,.v (.one (dI (a0.branches.length:Int)))),(67,.v (.one (dI s1)))],m48f11_h3 a4 a5 a6 a0 x39,[],6,134,[]⟩) (Qu (tA J) (hA J) kZ J (Nat.le_trans hv0 (lb J)) J J J (bB J J (bG J (bG J (bA J)))) J J)<|Q4<|Q5 ?_
 refine QS (fun (v40:Unit)=>⟨[(0,.v (.one (.ptr 0 0))),(2,.v (.one (dI a1))),(3,.v (.one (dI a2))),(4,.v (.one (dI a3))),(5,.v (.one (.mp 2))),(13,.v (.one (.ptr 4 0))),(14,.v (.one (.ptr 5 0))),(65,.v (.one (dS a0.branches))),(66,.v (.one (dI (a0.branches.length:Int)))),(67,.v (.one (dI s1)))],m48f11_h3 a4 a5 a6 a0 x39,[],6,134,[]⟩) (fun (v40:Unit)=>(m48f11_k0 x39 s1 a4 a5 rc a1 a2 a3 a6)=some oo1) ?_ ?_
 refine Qb h1 (fun w2_ h2 h1=>?_)
 refine Q0<|rM J J J<|rM J J J ?_
 refine QG (d:=82) (c:=(YE a5 x39.ctor)) J (fun c41=>?_) (fun c41=>?_)
 replace h2:=Qk c41 h2
 refine rR J J J (Q2 ZR J)<|rR J J J (Q6 QU J J J)<|rR J J J (Q7 J J J)<|rR J J J (Qg J J) ?_
 refine Qb h2 (fun x42 hx42 h2=>?_)
 refine JY id hx42 h2 (fun x43 hx43 h2=>?_) (fun x44 hx44 h2=>?_)
 refine Q9 J J (lb J) (QE J J J (CallE.m (QB (((Qn a5 x39.ctor).kind)==4) 9 (.inl x43) hx43)) J)<|Q3 ?_
 have e:=sI h2;subst e
 replace h1:=KZ h1
 exact Qd () (Qu (tA J) (hA J) kZ J (Nat.le_trans hv0 (lb J)) J J J (bB J J (bG J (bG J (bA J)))) J J) h1
 refine Jf J (QH J J J (CallE.d (QB (((Qn a5 x39.ctor).kind)==4) 9 (.inr x44) hx44))) ?_
 have e:=sI h2;subst e
 replace h1:=Gx h1
 have e:=sI h1;subst e
 have e_:_=_:=ho1
 subst e_
 try dsimp only [Sum.elim_inl,Sum.elim_inr] at h0
 have e:=sI h0;subst e
 exact Jo (hQ0 (.panic (Jx (QJ 90 9))) _ ZY J (show StLe _ _ ⟨[],QQ a4 a5 a6,[],4,134,[]⟩ from (Qu tZ (hA J) kZ J (Nat.le_trans hv0 (lb J)) J J J (bB J J (bG J (bG J bZ))) J J))) (fun _ _ h=>h)
 replace h2:=Ql c41 h2
 refine Q8 J J<|Q8 J J<|Q8 J J<|rR J J J (Qc J J) ?_
 refine Qb h2 (fun x45 hx45 h2=>?_)
 refine JY id hx45 h2 (fun x46 hx46 h2=>?_) (fun x47 hx47 h2=>?_)
 refine Q9 J J (lb J) (QE J J J (CallE.m (QB false 9 (.inl x46) hx46)) J)<|Q3 ?_
 have e:=sI h2;subst e
 replace h1:=KZ h1
 exact Qd () (Qu (tA J) (hA J) kZ J (Nat.le_trans hv0 (lb J)) J J J (bB J J (bG J (bG J (bA J)))) J J) h1
 refine Jf J (QH J J J (CallE.d (QB false 9 (.inr x47) hx47))) ?_
 have e:=sI h2;subst e
 replace h1:=Gx h1
 have e:=sI h1;subst e
 have e_:_=_:=ho1
 subst e_
 try dsimp only [Sum.elim_inl,Sum.elim_inr] at h0
 have e:=sI h0;subst e
 exact Jo (hQ0 (.panic (Jx (QJ 90 9))) _ ZY J (show StLe _ _ ⟨[],QQ a4 a5 a6,[],4,134,[]⟩ from (Qu tZ (hA J) kZ J (Nat.le_trans hv0 (lb J)) J J J (bB J J (bG J (bG J bZ))) J J))) (fun _ _ h=>h)
 intro v40 h1
 unfold m48f11_k0 at h1
 refine Q4<|Q5<|Q5<|Q0<|rR J J J (Q2 fo_101_1 J)<|rR J J J (Q6 DR J J J)<|Q3<|Q4 ?_
 refine Qh (b:=x39.absurd) J (fun c48=>?_) (fun c48=>?_)
 replace h1:=Qk c48 h1
 refine Q5<|Q0<|rR J J J (Q2 fo_101_2 J)<|rR J J J (Qi Up J J J J)<|Q9 J J (lb J) (Qj z_74 J)<|Qx J J (Qz (x39.tree:Tr) Up J J J J J)<|Q3<|Q4<|Q5 ?_
 refine QS (fun (v49:Unit)=>⟨[(0,.v (.one (.ptr 0 0))),(2,.v (.one (dI a1))),(3,.v (.one (dI a2))),(4,.v (.one (dI a3))),(5,.v (.one (.mp 2))),(65,.v (.one (dS a0.branches))),(66,.v (.one (dI (a0.branches.length:Int)))),(67,.v (.one (dI s1)))],m48f11_h4 a4 a5 a6 a0 x39,[],7,134,[]⟩) (fun (v49:Unit)=>(some (.next (J9 (s1+1))))=some oo1) ?_ ?_
 refine Qb h1 (fun w2_ h2 h1=>?_)
 refine Q0<|rR J J J (Q2 fo_74_0 J)<|rR J J J (Q6 QU J J J)<|rR J J J (Q7 J J J)<|rM J J J ?_
 refine QG (d:=95) (c:=(x39.tree.kind==0)) J (fun c50=>?_) (fun c50=>?_)
 replace h2:=Qk c50 h2
 refine rR J J J (Q2 fo_74_2 J)<|rR J J J (Q6 QU J J J)<|rR J J J (Q7 J J J)<|rR J J J (Qg J J)<|rM J J J ?_
 refine QG (d:=100) (c:=(x39.tree.var==0)) J (fun c51=>?_) (fun c51=>?_)
 replace h2:=Qk c51 h2
 refine rR J J J (Q2 KD J)<|rR J J J (Q6 WZ J J J)<|rR J J J (QA (α:=Br) Xn J (.d _))<|rR J J J (Q7 J J J)<|rR J J J (Qg J J)<|rM J J J ?_
 refine QG (d:=106) (c:=((x39.tree.branches.length:Int)==0)) J (fun c52=>?_) (fun c52=>?_)
 replace h2:=Qk c52 h2
 refine rR J J J (Q2 WS J)<|rR J J J (Qi QV J J J J) ?_
 refine Qb h2 (fun x53 hx53 h2=>?_)
 refine Q9 J J (lb J) (Qq (UB x39.tree.body x53 hx53) J (.cons (.agg (.cons (.d _) (.cons (.d _) (.cons (.d _) (.cons (.d _) (.cons (.d _) .nil)))))) .nil))<|rR J J J (Qg J J) ?_
 refine Qb h2 (fun x54 hx54 h2=>?_)
 refine JY id hx54 h2 (fun x55 hx55 h2=>?_) (fun x56 hx56 h2=>?_)
 refine Q9 J J (lb J) (QE J J J (CallE.m (QB x53 3 (.inl x55) hx55)) J)<|Q3 ?_
 have e:=sI h2;subst e
 replace h1:=KZ h1
 exact Qd () (Qu (tA J) (hA J) kZ J (Nat.le_trans hv0 (lb J)) J J J (bB J J (bG J (bG J (bA J)))) J J) h1
 refine Jf J (QH J J J (CallE.d (QB x53 3 (.inr x56) hx56))) ?_
 have e:=sI h2;subst e
 replace h1:=Gx h1
 have e:=sI h1;subst e
 have e_:_=_:=ho1
 subst e_
 try dsimp only [Sum.elim_inl,Sum.elim_inr] at h0
 have e:=sI h0;subst e
 exact Jo (hQ0 (.panic (Jx (QJ 90 3))) _ ZY J (show StLe _ _ ⟨[],QQ a4 a5 a6,[],4,134,[]⟩ from (Qu tZ (hA J) kZ J (Nat.le_trans hv0 (lb J)) J J J (bB J J (bG J (bG J bZ))) J J))) (fun _ _ h=>h)
 replace h2:=Ql c52 h2
 refine Q8 J J<|Q8 J J<|Q8 J J<|rR J J J (Qc J J) ?_
 refine Qb h2 (fun x57 hx57 h2=>?_)
 refine JY id hx57 h2 (fun x58 hx58 h2=>?_) (fun x59 hx59 h2=>?_)
 refine Q9 J J (lb J) (QE J J J (CallE.m (QB false 3 (.inl x58) hx58)) J)<|Q3 ?_
 have e:=sI h2;subst e
 replace h1:=KZ h1
 exact Qd () (Qu (tA J) (hA J) kZ J (Nat.le_trans hv0 (lb J)) J J J (bB J J (bG J (bG J (bA J)))) J J) h1
 refine Jf J (QH J J J (CallE.d (QB false 3 (.inr x59) hx59))) ?_
 have e:=sI h2;subst e
 replace h1:=Gx h1
 have e:=sI h1;subst e
 have e_:_=_:=ho1
 subst e_
 try dsimp only [Sum.elim_inl,Sum.elim_inr] at h0
 have e:=sI h0;subst e
 exact Jo (hQ0 (.panic (Jx (QJ 90 3))) _ ZY J (show StLe _ _ ⟨[],QQ a4 a5 a6,[],4,134,[]⟩ from (Qu tZ (hA J) kZ J (Nat.le_trans hv0 (lb J)) J J J (bB J J (bG J (bG J bZ))) J J))) (fun _ _ h=>h)
 replace h2:=Ql c51 h2
 refine Q8 J J<|Q8 J J<|Q8 J J<|Q8 J J<|rR J J J (Qc J J)<|rM J J J<|Q8 J J<|Q8 J J<|Q8 J J<|rR J J J (Qc J J) ?_
 refine Qb h2 (fun x60 hx60 h2=>?_)
 refine JY id hx60 h2 (fun x61 hx61 h2=>?_) (fun x62 hx62 h2=>?_)
 refine Q9 J J (lb J) (QE J J J (CallE.m (QB false 3 (.inl x61) hx61)) J)<|Q3 ?_
 have e:=sI h2;subst e
 replace h1:=KZ h1
 exact Qd () (Qu (tA J) (hA J) kZ J (Nat.le_trans hv0 (lb J)) J J J (bB J J (bG J (bG J (bA J)))) J J) h1
 refine Jf J (QH J J J (CallE.d (QB false 3 (.inr x62) hx62))) ?_
 have e:=sI h2;subst e
 replace h1:=Gx h1
 have e:=sI h1;subst e
 have e_:_=_:=ho1
 subst e_
 try dsimp only [Sum.elim_inl,Sum.elim_inr] at h0
 have e:=sI h0;subst e
 exact Jo (hQ0 (.panic (Jx (QJ 90 3))) _ ZY J (show StLe _ _ ⟨[],QQ a4 a5 a6,[],4,134,[]⟩ from (Qu tZ (hA J) kZ J (Nat.le_trans hv0 (lb J)) J J J (bB J J (bG J (bG J bZ))) J J))) (fun _ _ h=>h)
 replace h2:=Ql c50 h2
 refine Q8 J J<|Q8 J J<|Q8 J J<|rR J J J (Qc J J)<|rM J J J<|Q8 J J<|Q8 J J<|Q8 J J<|Q8 J J<|rR J J J (Qc J J)<|rM J J J<|Q8 J J<|Q8 J J<|Q8 J J ?_
 refine rR J J J (Qc J J) ?_
 refine Qb h2 (fun x63 hx63 h2=>?_)
 refine JY id hx63 h2 (fun x64 hx64 h2=>?_) (fun x65 hx65 h2=>?_)
 refine Q9 J J (lb J) (QE J J J (CallE.m (QB false 3 (.inl x64) hx64)) J)<|Q3 ?_
 have e:=sI h2;subst e
 replace h1:=KZ h1
 exact Qd () (Qu (tA J) (hA J) kZ J (Nat.le_trans hv0 (lb J)) J J J (bB J J (bG J (bG J (bA J)))) J J) h1
 refine Jf J (QH J J J (CallE.d (QB false 3 (.inr x65) hx65))) ?_
 have e:=sI h2;subst e
 replace h1:=Gx h1
 have e:=sI h1;subst e
 have e_:_=_:=ho1
 subst e_
 try dsimp only [Sum.elim_inl,Sum.elim_inr] at h0
 have e:=sI h0;subst e
 exact Jo (hQ0 (.panic (Jx (QJ 90 3))) _ ZY J (show StLe _ _ ⟨[],QQ a4 a5 a6,[],4,134,[]⟩ from (Qu tZ (hA J) kZ J (Nat.le_trans hv0 (lb J)) J J J (bB J J (bG J (bG J bZ))) J J))) (fun _ _ h=>h)
 intro v49 h1
 refine Q4<|J5<|Qo<|QM<|Q4<|Q0<|rR J J J (Q7 J J J)<|rM J J J<|Q3 ?_
 have e:=sI h1;subst e
 refine QR (J9 (s1+1)) (Qu (tA J) (hA J) kZ J (Nat.le_trans hv0 (lb J)) J J J (bB J J (bG J (bG J (bA J)))) J J) ho1
 replace h1:=Ql c48 h1
 refine Qm<|Q4 ?_
 refine Jv [20] [] YQ (by kernel_rfl) (by kernel_rfl) (by kernel_rfl) ?_
 refine RunA.rd J J J (Q1 (Qr J)) J<|RunA.rd J J J (Q1 (Q2 fo_101_2 J)) J<|RunA.rd J J J (Q1 (Qi Up J J J J)) J<|RunA.rd J J J (Q1 (Qr J)) J<|RunA.rd J J J (Q1 (Qr J)) J<|RunA.rd J J J (Q1 (Ju J)) J<|RunA.rd J J J (Q1 (Q2 fo_62_0 J)) J<|RunA.rd J J J (Q1 (Q6 ag_22 J J J)) J<|RunA.rd J J J (Q1 (Q2 Xd J)) J<|RunA.rd J J J (Q1 (Q6 QU J J J)) J ?_
 refine Qb h1 (fun x66 hx66 h1=>?_)
 refine RunA.rd J J J (Q1 (Qy (α:=Dcl) Zi J (.d _) J hx66)) J<|RunA.rd J J J (Q1 (Qv (x66:Dcl) JX J)) J<|RunA.rd J J J (Q1 (Q2 fo_35_2 J)) J<|RunA.rd J J J (Q1 (Q6 QU J J J)) J ?_
 refine Qb h1 (fun x67 hx67 h1=>?_)
 refine RunA.rd J J J (Qq (m68_ok x66 ((Qn a5 x39.ctor).item) x67 hx67) J (.cons (.agg (.cons (.d _) (.cons (.d _) (.cons (.d _) (.cons (.d _) (.cons (.d _) (.cons (.d _) (.cons (.d _) (.cons (.d _) (.cons (.d _) (.cons (.d _) (.cons (.d _) (.cons (.d _) (.cons (.d _) (.cons (.d _) (.cons (.d _) (.cons (.d _) (.cons (.d _) (.cons (.d _) (.cons (.d _) (.cons (.d _) (.cons (.d _) (.cons (.d _) (.cons (.d _) .nil)))))))))))))))))))))))) (.cons (.one (.d _)) .nil))) J<|RunA.rd J J J (Q1 (Q7 J J J)) J<|RunA.rd J J J (Q1 (Qr J)) J<|RunA.rd J J J (Q1 (Q7 J J J)) J<|RunA.rd J J J (Q1 (Qr J)) J<|RunA.rd J J J (Q1 (Qr J)) J ?_
 refine Qb h1 (fun x68 hx68 h1=>?_)
 refine JY id hx68 h1 (fun x69 hx69 h1=>?_) (fun x70 hx70 h1=>?_)
 refine RunA.eff J J J (Jj (hp1':=[(0,.cells 62 [dS a4,.mp 1]),(1,.mp (QO a5.1) a5.2),(2,.mp (QO a6.1) a6.2)]) (tk1':=[]) (hpF:=m48f11_h5 a0 x39 a5) (tkF:=[]) (res2:=QK []) (nx2:=7) [0,1,2] J J (CallE.m (H x39.tree (J9 (a1+x67)) (J9 (a2+1)) a3 a4 a5 a6 (.inl x69) hx69)) J J (qB J J (qG J (qG J qZ))) J J (gR J (gG J (gG J gZ))) jZ (hA J) kZ J J J J J (bB J J (bG J (bG J bZ))) J J J J) J ?_
 refine RunA.nil ⟨?ex,_,_,J,?_⟩
 case ex=>exact trivial
 refine JW (st':=⟨[(0,.v (.one (.ptr 0 0))),(2,.v (.one (dI a1))),(3,.v (.one (dI a2))),(4,.v (.one (dI a3))),(5,.v (.one (.mp 2))),(65,.v (.one (dS a0.branches))),(66,.v (.one (dI (a0.branches.length:Int)))),(67,.v (.one (dI s1)))],m48f11_h3 a4 a5 a6 a0 x39,[],7,134,[]⟩) (Qu (tA J) (hA J) kZ J (Nat.le_trans hv0 (lb J)) J J J (bB J J (bG J (bG J (bA J)))) J J)<|Qe<|Q4<|Q0<|rR J J J (Q7 J J J)<|rM J J J<|Q3 ?_
 have e:=sI h1;subst e
 refine QR (J9 (s1+1)) (Qu (tA J) (hA J) kZ J (Nat.le_trans hv0 (lb J)) J J J (bB J J (bG J (bG J (bA J)))) J J) ho1
 refine RunA.die J J J (DieOp.mk J J (Yy (hp1':=[(0,.cells 62 [dS a4,.mp 1]),(1,.mp (QO a5.1) a5.2),(2,.mp (QO a6.1) a6.2)]) (tk1':=[]) (hpF:=m48f11_h5 a0 x39 a5) (tkF:=[]) (nx2:=7) [0,1,2] J J (CallE.d (H x39.tree (J9 (a1+x67)) (J9 (a2+1)) a3 a4 a5 a6 (.inr x70) hx70)) J J (qB J J (qG J (qG J qZ))) J (gR J (gG J (gG J gZ))) jZ (hA J) kZ J J J J J (bB J J (bG J (bG J bZ))) J J J J) ?pk) ⟨?ex,_,_,J,XQ.bad⟩
 case ex=>exact trivial
 have e:=sI h1;subst e
 have e_:_=_:=ho1
 subst e_
 try dsimp only [Sum.elim_inl,Sum.elim_inr] at h0
 have e:=sI h0;subst e
 exact Jo (hQ0 (.panic (Jx (QJ 90 x70))) _ ZY J (show StLe _ _ ⟨[],QQ a4 a5 a6,[],4,134,[]⟩ from (Qu tZ (hA J) kZ J (Nat.le_trans hv0 (lb J)) J J J (bB J J (bG J (bG J bZ))) J J))) (fun _ _ h=>h)
 replace h1:=Ql c38 h1
 refine J5<|Qo<|Qo ?_
 have e:=sI h1;subst e
 have e_:_=_:=ho1
 subst e_
 exact QW () (Qu tZ (hA J) kZ J (Nat.le_trans hv0 (lb J)) J J J (bB J J (bG J (bG J (bA J)))) J J) h0
 intro o36 h0
 refine QM ?_
 have e:=sI h0;subst e
 exact hQ0 _ _ byN J (show StLe _ _ ⟨[],QQ a4 a5 a6,[],4,134,[]⟩ from (Qu tZ (hA J) kZ J (Nat.le_trans hv0 (lb J)) J J J (bB J J (bG J (bG J bZ))) J J))
 refine Jf J (QH J J J (CallE.d (QB (decide ((a0.branches.length:Int)≤32)) 6 (.inr x35) hx35))) ?_
 have e:=sI h0;subst e
 exact Jo (hQ0 (.panic (Jx (QJ 90 6))) _ ZY J (show StLe _ _ ⟨[],QQ a4 a5 a6,[],4,134,[]⟩ from (Qu tZ (hA J) kZ J (Nat.le_trans hv0 (lb J)) J J J (bB J J (bG J (bG J bZ))) J J))) (fun _ _ h=>h)
 refine Jf J (QH J J J (CallE.d (QB (decide (a2 < 200)) 7 (.inr x3) hx3))) ?_
 have e:=sI h0;subst e
 exact Jo (hQ0 (.panic (Jx (QJ 90 7))) _ ZY J (show StLe _ _ ⟨[],QQ a4 a5 a6,[],4,134,[]⟩ from (Qu tZ (hA J) kZ J (Nat.le_trans hv0 (lb J)) J J J (bB J J (bG J (bG J bZ))) J J))) (fun _ _ h=>h)
theorem m48f11_all (n:Nat) (u:Tr×Int×Int×Int×(List Dcl)×(Qa Bs Ent)×(Qa Bs Ent)) (r:Unit⊕Int) (h0:Jr X5 n u=some r):CallE Try.prog 48 [.one (.ptr 0 0),.agg (cE u.1),.one (dI u.2.1),.one (dI u.2.2.1),.one (dI u.2.2.2.1),.one (.mp 2)] ⟨QQ u.2.2.2.2.1 u.2.2.2.2.2.1 u.2.2.2.2.2.2,[],3⟩ ((Sum.elim (fun (r0:Unit)=>((.ret []):EK)) (fun (r1:Int)=>((.pan (QJ 90 r1)):EK))) r) ⟨((Sum.elim (fun (r0:Unit)=>(⟨[],QQ u.2.2.2.2.1 u.2.2.2.2.2.1 u.2.2.2.2.2.2,[],4,134,[]⟩:St)) (fun (r1:Int)=>(⟨[],QQ u.2.2.2.2.1 u.2.2.2.2.2.1 u.2.2.2.2.2.2,[],4,134,[]⟩:St))) r).hp,((Sum.elim (fun (r0:Unit)=>(⟨[],QQ u.2.2.2.2.1 u.2.2.2.2.2.1 u.2.2.2.2.2.2,[],4,134,[]⟩:St)) (fun (r1:Int)=>(⟨[],QQ u.2.2.2.2.1 u.2.2.2.2.2.1 u.2.2.2.2.2.2,[],4,134,[]⟩:St))) r).tk,((Sum.elim (fun (r0:Unit)=>(⟨[],QQ u.2.2.2.2.1 u.2.2.2.2.2.1 u.2.2.2.2.2.2,[],4,134,[]⟩:St)) (fun (r1:Int)=>(⟨[],QQ u.2.2.2.2.1 u.2.2.2.2.2.1 u.2.2.2.2.2.2,[],4,134,[]⟩:St))) r).nx⟩ :=
 YV (C:=fun u r=>CallE Try.prog 48 [.one (.ptr 0 0),.agg (cE u.1),.one (dI u.2.1),.one (dI u.2.2.1),.one (dI u.2.2.2.1),.one (.mp 2)] ⟨QQ u.2.2.2.2.1 u.2.2.2.2.2.1 u.2.2.2.2.2.2,[],3⟩ ((Sum.elim (fun (r0:Unit)=>((.ret []):EK)) (fun (r1:Int)=>((.pan (QJ 90 r1)):EK))) r) ⟨((Sum.elim (fun (r0:Unit)=>(⟨[],QQ u.2.2.2.2.1 u.2.2.2.2.2.1 u.2.2.2.2.2.2,[],4,134,[]⟩:St)) (fun (r1:Int)=>(⟨[],QQ u.2.2.2.2.1 u.2.2.2.2.2.1 u.2.2.2.2.2.2,[],4,134,[]⟩:St))) r).hp,((Sum.elim (fun (r0:Unit)=>(⟨[],QQ u.2.2.2.2.1 u.2.2.2.2.2.1 u.2.2.2.2.2.2,[],4,134,[]⟩:St)) (fun (r1:Int)=>(⟨[],QQ u.2.2.2.2.1 u.2.2.2.2.2.1 u.2.2.2.2.2.2,[],4,134,[]⟩:St))) r).tk,((Sum.elim (fun (r0:Unit)=>(⟨[],QQ u.2.2.2.2.1 u.2.2.2.2.2.1 u.2.2.2.2.2.2,[],4,134,[]⟩:St)) (fun (r1:Int)=>(⟨[],QQ u.2.2.2.2.1 u.2.2.2.2.2.1 u.2.2.2.2.2.2,[],4,134,[]⟩:St))) r).nx⟩) (fun rc H u r h=>m48f11s_ok rc (fun a0 a1 a2 a3 a4 a5 a6 r h=>H (a0,a1,a2,a3,a4,a5,a6) r h) u.1 u.2.1 u.2.2.1 u.2.2.2.1 u.2.2.2.2.1 u.2.2.2.2.2.1 u.2.2.2.2.2.2 r h) n u r h0
theorem m48f11_ok (a0:Tr) (a1:Int) (a2:Int) (a3:Int) (a4:List Dcl) (a5:Qa Bs Ent) (a6:Qa Bs Ent) (r:Unit⊕Int) (h0:m48f11 a0 a1 a2 a3 a4 a5 a6=some r):CallE Try.prog 48 [.one (.ptr 0 0),.agg (cE a0),.one (dI a1),.one (dI a2),.one (dI a3),.one (.mp 2)] ⟨QQ a4 a5 a6,[],3⟩ ((Sum.elim (fun (r0:Unit)=>((.ret []):EK)) (fun (r1:Int)=>((.pan (QJ 90 r1)):EK))) r) ⟨((Sum.elim (fun (r0:Unit)=>(⟨[],QQ a4 a5 a6,[],4,134,[]⟩:St)) (fun (r1:Int)=>(⟨[],QQ a4 a5 a6,[],4,134,[]⟩:St))) r).hp,((Sum.elim (fun (r0:Unit)=>(⟨[],QQ a4 a5 a6,[],4,134,[]⟩:St)) (fun (r1:Int)=>(⟨[],QQ a4 a5 a6,[],4,134,[]⟩:St))) r).tk,((Sum.elim (fun (r0:Unit)=>(⟨[],QQ a4 a5 a6,[],4,134,[]⟩:St)) (fun (r1:Int)=>(⟨[],QQ a4 a5 a6,[],4,134,[]⟩:St))) r).nx⟩:=m48f11_all QF (a0,a1,a2,a3,a4,a5,a6) r h0
end Go.Proofs.Ytafddfoefeploaa
