/- Part 4 of the proof: rules, mirrors and plain laws. The statement SignatureExtendsUpto is proved here: for every list of declarations and every name the law returns true, and what it is given reads behind the call ars it did before; condition: the arguments are of bulk at most 1048576 (the second form). -/
import Derived.Test.YtafddfoefeploaaK63
set_option maxRecDepth 100000
set_option maxHeartbeats 2000000
set_option linter.unusedSimpArgs false
set_option linter.unusedVariables false
set_option linter.unusedSectionVars false
namespace Go.Proofs.Ytafddfoefeploaa
open Go.RowKit Go.Shelf
theorem fo_62_0:QU Try.prog 62 0=some 0:=by kernel_rfl
theorem ag_22:Jz Try.prog 22=some (false,1):=by kernel_rfl
theorem z_60:Jy Try.prog 60=some [.map none]:=by kernel_rfl
theorem en_46:J4 Try.prog 46:=enters_of Try.func46 (by kernel_rfl) rfl
theorem en_47:J4 Try.prog 47:=enters_of Try.func47 (by kernel_rfl) rfl
theorem en_67:J4 Try.prog 67:=enters_of Try.func67 (by kernel_rfl) rfl
theorem en_82:J4 Try.prog 82:=enters_of Try.func82 (by kernel_rfl) rfl
noncomputable abbrev m46f8_h0 (p0_:List Dcl) (p1_:Qc Bs Ent) (p2_:Qc Bs Ent) (p3_:Tm):List (Nat×HB) :=
 [(0,.cells 62 [DU p0_,.mp 1]),(1,.mp (QT p1_.1) p1_.2),(2,.mp (QT p2_.1) p2_.2),(3,.cells 59 [.ptr 0 0]),(4,.cells 33 (DZ p3_)),(5,.cells 60 [.mp 2])]
noncomputable abbrev m46f8_h1 (p0_:List Dcl) (p1_:Qc Bs Ent) (p2_:Qc Bs Ent) (p3_:Tm):List (Nat×HB) :=
 [(0,.cells 62 [DU p0_,.mp 1]),(1,.mp (QT p1_.1) p1_.2),(2,.mp (QT p2_.1) p2_.2),(3,.cells 59 [.ptr 0 0]),(4,.cells 33 (DZ p3_)),(5,.cells 60 [.mp 2]),(6,.cells 33 (DZ p3_))]
noncomputable abbrev m46f8_h2 :HB :=
 .loop .ready none [(5,.v (.one (.ptr 3 0))),(9,.v (.one (.ptr 5 0))),(23,.v (.one (.fn 82 [(6,0)])))] 53 #[24] YH Ye 7
noncomputable abbrev Zs (p0_:List Dcl) (p1_:Qc Bs Ent) (p2_:Qc Bs Ent) (p3_:Tm):List (Nat×HB) :=
 [(0,.cells 62 [DU p0_,.mp 1]),(1,.mp (QT p1_.1) p1_.2),(2,.mp (QT p2_.1) p2_.2),(3,.cells 59 [.ptr 0 0]),(4,.cells 33 (DZ p3_)),(5,.cells 60 [.mp 2]),(6,.cells 33 (DZ p3_)),(7,.obj (.deferred (some []))),(8,m46f8_h2)]
noncomputable abbrev m46f8_h4 :HB :=
 .loop .busy none [(5,.v (.one (.ptr 3 0))),(9,.v (.one (.ptr 5 0))),(23,.v (.one (.fn 82 [(6,0)])))] 53 #[24] YH Ye 7
noncomputable abbrev Zr (p0_:List Dcl) (p1_:Qc Bs Ent) (p2_:Qc Bs Ent) (p3_:Tm):List (Nat×HB) :=
 [(0,.cells 62 [DU p0_,.mp 1]),(1,.mp (QT p1_.1) p1_.2),(2,.mp (QT p2_.1) p2_.2),(3,.cells 59 [.ptr 0 0]),(4,.cells 33 (DZ p3_)),(5,.cells 60 [.mp 2]),(6,.cells 33 (DZ p3_)),(7,.obj (.deferred (some []))),(8,m46f8_h4)]
noncomputable abbrev YN (p0_:List Dcl) (p1_:Qc Bs Ent) (p2_:Qc Bs Ent):List (Nat×HB) :=
 [(0,.cells 62 [DU p0_,.mp 1]),(1,.mp (QT p1_.1) p1_.2),(2,.mp (QT p2_.1) p2_.2)]
noncomputable def KL (a0:Tm) (a1:Int) (a2:Int) (a3:List Dcl) (a4:Qc Bs Ent) (a5:Qc Bs Ent):Option (Unit⊕Int) :=
 Option.bind (Ds a0 a1 a2 0 0) fun (x1:Int) =>
 Option.bind (Jt (x1==0) x1) (Sum.elim (fun (x3:Unit)=>Option.bind (some ()) (fun (y5:Unit)=>Option.bind (Option.bind (m83f9 a0 a3 a4 a5 a0) (Sum.elim (fun (x12:Bool)=>some (.inl ())) (fun (x13:Int)=>some (.inr x13)))) (Sum.elim (fun (y7:Unit)=>some (.inl ())) (fun (y8:Int)=>some (.inr y8))))) (fun (x4:Unit)=>some (.inr x1)))
theorem Yw (a0:Tm) (a1:Int) (a2:Int) (a3:List Dcl) (a4:Qc Bs Ent) (a5:Qc Bs Ent) (r:Unit⊕Int) (h0:KL a0 a1 a2 a3 a4 a5=some r):CallE Try.prog 46 [.one (.ptr 0 0),.agg (DZ a0),.one (DW a1),.one (DW a2),.one (.mp 2)] ⟨YN a3 a4 a5,[],3⟩ ((Sum.elim (fun (r0:Unit)=>((.ret []):EK)) (fun (r1:Int)=>((.pan (QG 90 r1)):EK))) r) ⟨((Sum.elim (fun (r0:Unit)=>(⟨[],YN a3 a4 a5,[],11,53,[]⟩:St)) (fun (r1:Int)=>(⟨[],YN a3 a4 a5,[],6,53,[]⟩:St))) r).hp,((Sum.elim (fun (r0:Unit)=>(⟨[],YN a3 a4 a5,[],11,53,[]⟩:St)) (fun (r1:Int)=>(⟨[],YN a3 a4 a5,[],6,53,[]⟩:St))) r).tk,((Sum.elim (fun (r0:Unit)=>(⟨[],YN a3 a4 a5,[],11,53,[]⟩:St)) (fun (r1:Int)=>(⟨[],YN a3 a4 a5,[],6,53,[]⟩:St))) r).nx⟩:=by
 unfold KL at h0
 refine JG r ((Sum.elim (fun (r0:Unit)=>(⟨[],YN a3 a4 a5,[],11,53,[]⟩:St)) (fun (r1:Int)=>(⟨[],YN a3 a4 a5,[],6,53,[]⟩:St)))) ((Sum.elim (fun (r0:Unit)=>((.ret []):EK)) (fun (r1:Int)=>((.pan (QG 90 r1)):EK)))) rfl rfl en_46 (DM rfl) (fun z_=>by cases z_ with
 | inl _=>exact rfl
 | inr _=>exact rfl) (fun z_=>by cases z_ with
 | inl _=>exact (Uu .nil)
 | inr _=>exact UE) (fun w0 M V0 Q hv0 hQ0=>?_)
 simp only [Jb]
 refine Q6<|Q0<|Q9 Z Z (DM Z) (QV Z)<|Q9 Z Z (DM Z) (QV Z)<|Q9 Z Z (DM Z) (QV Z)<|Q3<|Q4<|Q6<|Q0<|DD Z Z Z (QM (a0:Tm) QX Z Z)<|DE Z Z Z<|DE Z Z Z ?_
 refine Qd h0 (fun x1 hx1 h0=>?_)
 refine Q9 Z Z (DM Z) (Qo (m66_ok a0 a1 a2 0 0 x1 hx1) Z (.cons (.agg (.cons (.d _) (.cons (.d _) (.cons (.d _) (.cons (.d _) (.cons (.d _) .nil)))))) (.cons (.one (.d _)) (.cons (.one (.d _)) (.cons (.one (.d _)) (.cons (.one (.d _)) .nil))))))<|DF Z Z Z<|Q3<|Q4<|Q6<|Q0<|DE Z Z Z<|DD Z Z Z (Q8 Z Z Z)<|DE Z Z Z ?_
 refine Qd h0 (fun x2 hx2 h0=>?_)
 refine JL id hx2 h0 (fun x3 hx3 h0=>?_) (fun x4 hx4 h0=>?_)
 refine Q9 Z Z (DM Z) (Qx Z Z Z (CallE.m (Qu (x1==0) x1 (.inl x3) hx3)) Z)<|Q3<|Q4<|Q6<|Q0<|DD Z Z Z (QM (a0:Tm) QX Z Z) ?_
 refine Qd h0 (fun y5 h1 h0=>?_)
 have hc6:CallM Try.prog 67 [.agg (DZ a0)] ⟨m46f8_h0 a3 a4 a5 a0,[],6⟩ (QP [.one (.fn 82 [(6,0)])]) ⟨m46f8_h1 a3 a4 a5 a0,[],7⟩:=by
  refine Jc ⟨[(2,.v (.one (.fn 82 [(6,0)])))],m46f8_h1 a3 a4 a5 a0,[],7,4,[]⟩ Z Z en_67 (DM Z) Z (QB Z .nil) (fun w0 M V0 Q hv1 hQ1=>?_)
  simp only [Jb]
  refine Q6<|Q0<|Q9 Z Z (DM Z) (QV Z)<|DF Z Z Z<|Q3<|Q4<|Q6<|Q0<|DD Z Z Z (ZA Z)<|DF Z Z Z<|Q3<|Q4<|QE ?_
  have e:=DB h1;subst e
  exact hQ1 _ _ _ (.inr Z) Z (QH (Dz Z) (hA Z) DN Z (Nat.le_trans hv1 (DM Z)) Z Z Z (bB Z Z (bG Z (bG Z (bA Z)))) Z Z)
 refine Q9 Z Z (DM Z) (JO Z Z Z hc6 Z (hA Z) DN)<|Q3<|Q4<|Qh<|GG (st':=⟨[(5,.v (.one (.ptr 3 0))),(9,.v (.one (.ptr 5 0))),(23,.v (.one (.fn 82 [(6,0)])))],m46f8_h1 a3 a4 a5 a0,[],7,53,[]⟩) (QH (Dz Z) (hA Z) DN Z (Nat.le_trans hv0 (DM Z)) Z Z Z (bB Z Z (bG Z (bG Z (bA Z)))) Z Z) ?_
 refine Qd h0 (fun y10 h1 h0=>?_)
 have hc9:CallE Try.prog 82 [.one (.yld 8),.one (.ptr 6 0)] ⟨[(8,.loop .ready none [(5,.v (.one (.ptr 3 0))),(9,.v (.one (.ptr 5 0))),(23,.v (.one (.fn 82 [(6,0)])))] 53 #[24] YH Ye 7),(7,.obj (.deferred (some []))),(0,.cells 62 [DU a3,.mp 1]),(1,.mp (QT a4.1) a4.2),(2,.mp (QT a5.1) a5.2),(3,.cells 59 [.ptr 0 0]),(4,.cells 33 (DZ a0)),(5,.cells 60 [.mp 2]),(6,.cells 33 (DZ a0))],[],9⟩ (((Sum.elim (fun (y7:Unit)=>((.ret []):EK)) (fun (y8:Int)=>((.pan (QG 90 y8)):EK)))) y10) ⟨(((Sum.elim (fun (y7:Unit)=>(⟨[],Zs a3 a4 a5 a0,[],11,6,[]⟩:St)) (fun (y8:Int)=>(⟨[],Zr a3 a4 a5 a0,[],13,6,[]⟩:St)))) y10).hp,(((Sum.elim (fun (y7:Unit)=>(⟨[],Zs a3 a4 a5 a0,[],11,6,[]⟩:St)) (fun (y8:Int)=>(⟨[],Zr a3 a4 a5 a0,[],13,6,[]⟩:St)))) y10).tk,(((Sum.elim (fun (y7:Unit)=>(⟨[],Zs a3 a4 a5 a0,[],11,6,[]⟩:St)) (fun (y8:Int)=>(⟨[],Zr a3 a4 a5 a0,[],13,6,[]⟩:St)))) y10).nx⟩:=by
  refine JG y10 ((Sum.elim (fun (y7:Unit)=>(⟨[],Zs a3 a4 a5 a0,[],11,6,[]⟩:St)) (fun (y8:Int)=>(⟨[],Zr a3 a4 a5 a0,[],13,6,[]⟩:St)))) ((Sum.elim (fun (y7:Unit)=>((.ret []):EK)) (fun (y8:Int)=>((.pan (QG 90 y8)):EK)))) rfl rfl en_82 (DM rfl) (fun z_=>by cases z_ with
    | inl _=>exact rfl
    | inr _=>exact rfl) (fun z_=>by cases z_ with
    | inl _=>exact (Uu .nil)
    | inr _=>exact UE) (fun w0 M V0 Q hv1 hQ1=>?_)
  simp only [Jb]
  refine Q0<|DD Z Z Z (QM (a0:Tm) QX Z Z)<|DE Z Z Z ?_
  refine Qd h1 (fun x11 hx11 h1=>?_)
  refine JL id hx11 h1 (fun x12 hx12 h1=>?_) (fun x13 hx13 h1=>?_)
  refine Q9 Z Z (DM Z) (Jp (hp1':=[(8,.loop .ready none [(5,.v (.one (.ptr 3 0))),(9,.v (.one (.ptr 5 0))),(23,.v (.one (.fn 82 [(6,0)])))] 53 #[24] YH Ye 7),(7,.obj (.deferred (some []))),(3,.cells 59 [.ptr 0 0]),(0,.cells 62 [DU a3,.mp 1]),(1,.mp (QT a4.1) a4.2),(5,.cells 60 [.mp 2]),(2,.mp (QT a5.1) a5.2),(6,.cells 33 (DZ a0))]) (tk1':=[]) (hpF:=[(4,.cells 33 (DZ a0))]) (tkF:=[]) (res2:=QP [.one (DX x12)]) (nx2:=11) [8,7,3,0,1,5,2,6] Z Z (CallE.m (m83f9_ok a0 a3 a4 a5 a0 (.inl x12) hx12)) Z Z (DI Z Z (DI Z Z (DI Z Z (DI Z Z (DH Z (DI Z Z (DH Z (DI Z Z DG)))))))) Z Z (DS Z (DS Z (DS Z (DS Z (DT Z (DS Z (DT Z (DS Z DR)))))))) DP (hA Z) DN Z Z Z Z Z (bB Z Z (bB Z Z (bB Z Z (bB Z Z (bG Z (bB Z Z (bG Z (bA Z)))))))) Z Z Z Z)<|Q3 ?_
  have e:=DB h1;subst e
  exact hQ1 _ _ D6 Z (show StLe _ _ ⟨[],Zs a3 a4 a5 a0,[],11,6,[]⟩ from (QH Dy (hA Z) DN Z (Nat.le_trans hv1 (DM Z)) Z Z Z (bB Z Z (bG Z (bG Z (bA Z)))) Z Z))
  refine J6 Z (Yl (hp1':=[(8,.loop .busy none [(5,.v (.one (.ptr 3 0))),(9,.v (.one (.ptr 5 0))),(23,.v (.one (.fn 82 [(6,0)])))] 53 #[24] YH Ye 7),(7,.obj (.deferred (some []))),(3,.cells 59 [.ptr 0 0]),(0,.cells 62 [DU a3,.mp 1]),(1,.mp (QT a4.1) a4.2),(5,.cells 60 [.mp 2]),(2,.mp (QT a5.1) a5.2),(6,.cells 33 (DZ a0))]) (tk1':=[]) (hpF:=[(4,.cells 33 (DZ a0))]) (tkF:=[]) (nx2:=13) [8,7,3,0,1,5,2,6] Z Z (CallE.d (m83f9_ok a0 a3 a4 a5 a0 (.inr x13) hx13)) Z Z (DI Z Z (DI Z Z (DI Z Z (DI Z Z (DH Z (DI Z Z (DH Z (DI Z Z DG)))))))) Z (DS Z (DS Z (DS Z (DS Z (DT Z (DS Z (DT Z (DS Z DR)))))))) DP (hA Z) DN Z Z Z Z Z (bB Z Z (bB Z Z (bB Z Z (bB Z Z (bG Z (bB Z Z (bG Z (bA Z)))))))) Z Z Z Z) ?_
  have e:=DB h1;subst e
  exact Ji (hQ1 (.panic (Jr (QG 90 x13))) _ ZC Z (show StLe _ _ ⟨[],Zr a3 a4 a5 a0,[],13,6,[]⟩ from (QH Dy (hA Z) DN Z (Nat.le_trans hv1 (DM Z)) Z Z Z (bB Z Z (bG Z (bG Z (bA Z)))) Z Z))) (fun _ _ h=>h)
 refine W7 (C:=fun q_=>CallE Try.prog 82 [.one (.yld 8),.one (.ptr 6 0)] ⟨[(8,.loop .ready none [(5,.v (.one (.ptr 3 0))),(9,.v (.one (.ptr 5 0))),(23,.v (.one (.fn 82 [(6,0)])))] 53 #[24] YH Ye 7),(7,.obj (.deferred (some []))),(0,.cells 62 [DU a3,.mp 1]),(1,.mp (QT a4.1) a4.2),(2,.mp (QT a5.1) a5.2),(3,.cells 59 [.ptr 0 0]),(4,.cells 33 (DZ a0)),(5,.cells 60 [.mp 2]),(6,.cells 33 (DZ a0))],[],9⟩ (((Sum.elim (fun (y7:Unit)=>((.ret []):EK)) (fun (y8:Int)=>((.pan (QG 90 y8)):EK)))) q_) ⟨(((Sum.elim (fun (y7:Unit)=>(⟨[],Zs a3 a4 a5 a0,[],11,6,[]⟩:St)) (fun (y8:Int)=>(⟨[],Zr a3 a4 a5 a0,[],13,6,[]⟩:St)))) q_).hp,(((Sum.elim (fun (y7:Unit)=>(⟨[],Zs a3 a4 a5 a0,[],11,6,[]⟩:St)) (fun (y8:Int)=>(⟨[],Zr a3 a4 a5 a0,[],13,6,[]⟩:St)))) q_).tk,(((Sum.elim (fun (y7:Unit)=>(⟨[],Zs a3 a4 a5 a0,[],11,6,[]⟩:St)) (fun (y8:Int)=>(⟨[],Zr a3 a4 a5 a0,[],13,6,[]⟩:St)))) q_).nx⟩) hc9 h0 (fun y7 hc9 h0=>?_) (fun y8 hc9 h0=>?_)
 replace hc9:CallM Try.prog 82 [.one (.yld 8),.one (.ptr 6 0)] ⟨[(8,.loop .ready none [(5,.v (.one (.ptr 3 0))),(9,.v (.one (.ptr 5 0))),(23,.v (.one (.fn 82 [(6,0)])))] 53 #[24] YH Ye 7),(7,.obj (.deferred (some []))),(0,.cells 62 [DU a3,.mp 1]),(1,.mp (QT a4.1) a4.2),(2,.mp (QT a5.1) a5.2),(3,.cells 59 [.ptr 0 0]),(4,.cells 33 (DZ a0)),(5,.cells 60 [.mp 2]),(6,.cells 33 (DZ a0))],[],9⟩ (QP []) ⟨Zs a3 a4 a5 a0,[],11⟩:=hc9
 refine Kb (Yi (e:=.normal) rfl hc9 rfl rfl (by intro h;cases h) rfl) rfl ?_
 refine Qf ?_
 have e:=DB h0;subst e
 exact hQ0 _ _ D6 Z (show StLe _ _ ⟨[],YN a3 a4 a5,[],11,53,[]⟩ from (QH Dy (hA Z) DN Z (Nat.le_trans hv0 (DM Z)) Z Z Z (bB Z Z (bG Z (bG Z bZ))) Z Z))
 replace hc9:Xs Try.prog 82 [.one (.yld 8),.one (.ptr 6 0)] ⟨[(8,.loop .ready none [(5,.v (.one (.ptr 3 0))),(9,.v (.one (.ptr 5 0))),(23,.v (.one (.fn 82 [(6,0)])))] 53 #[24] YH Ye 7),(7,.obj (.deferred (some []))),(0,.cells 62 [DU a3,.mp 1]),(1,.mp (QT a4.1) a4.2),(2,.mp (QT a5.1) a5.2),(3,.cells 59 [.ptr 0 0]),(4,.cells 33 (DZ a0)),(5,.cells 60 [.mp 2]),(6,.cells 33 (DZ a0))],[],9⟩ (QG 90 y8) ⟨Zr a3 a4 a5 a0,[],13⟩:=hc9
 refine Kb (rangeFunc_outD Z hc9 Z) Z ?_
 have e:=DB h0;subst e
 exact Ji (hQ0 (.panic (Jr (QG 90 y8))) _ ZC Z (show StLe _ _ ⟨[],YN a3 a4 a5,[],6,53,[]⟩ from (QH Dy (hA Z) DN Z (Nat.le_trans hv0 (DM Z)) Z Z Z (bB Z Z (bG Z (bG Z bZ))) Z Z))) (fun _ _ h=>h)
 refine J6 Z (QF Z Z Z (CallE.d (Qu (x1==0) x1 (.inr x4) hx4))) ?_
 have e:=DB h0;subst e
 exact Ji (hQ0 (.panic (Jr (QG 90 x1))) _ ZC Z (show StLe _ _ ⟨[],YN a3 a4 a5,[],6,53,[]⟩ from (QH Dy (hA Z) DN Z (Nat.le_trans hv0 (DM Z)) Z Z Z (bB Z Z (bG Z (bG Z bZ))) Z Z))) (fun _ _ h=>h)
noncomputable def m47f10_l0 (a0:Dcl) (a1:List Dcl) (s2:Int×(Qc Bs Ent)):Option (LO (Int×(Qc Bs Ent)) (((Qc Bs Ent)))) :=
 cond (decide (s2.1 < (a0.ctors.length:Int)))
   (Option.bind (Jx a0.ctors s2.1) fun (x17:Ctr) =>
 Option.bind (some ()) (fun (y18:Unit)=>some (.next ((Ja (s2.1+1)),(J3 s2.2 x17.name (⟨4,(a1.length:Int),s2.1,a0.params,x17.ty⟩:Ent))))))
   (some (.done s2.2))
noncomputable def m47f10_k1 (p0_:Dcl) (p1_:(Qc Bs Ent)) (p2_:List Dcl):Option (((Qc Bs Ent))) :=
 Jh (Nat.ble (p0_.name.length+([46,114,101,99]:List UInt8).length) 1000000000)
 (Option.bind (some ()) (fun (b0_:Unit)=>some (J3 p1_ (p0_.name++([46,114,101,99]:List UInt8)) (⟨5,(p2_.length:Int),0,p0_.rcr.params,p0_.rcr.ty⟩:Ent))))
noncomputable def m47f10_l2 (a0:Dcl) (a1:List Dcl) (s2:Int×(Qc Bs Ent)):Option (LO (Int×(Qc Bs Ent)) (((Qc Bs Ent)))) :=
 cond (decide (s2.1 < (a0.funs.length:Int)))
   (Option.bind (Jx a0.funs s2.1) fun (x29:Fn) =>
 Option.bind (some ()) (fun (y30:Unit)=>some (.next ((Ja (s2.1+1)),(J3 s2.2 x29.name (⟨6,(a1.length:Int),s2.1,a0.params,x29.ty⟩:Ent))))))
   (some (.done s2.2))
noncomputable def m47f10_k3 (p0_:Bool) (p1_:Dcl) (p2_:List Dcl):Option (((Qc Bs Ent))) :=
 cond p0_
   (Option.bind (Jx ([0,1,2]) p1_.kind) fun (b0_:Int) =>
 Option.bind (some ()) (fun (b1_:Unit)=>some (J3 gmNil p1_.name (⟨b0_,(p2_.length:Int),0,p1_.params,p1_.ty⟩:Ent))))
   (cond (p1_.kind==3)
   (Option.bind (some ()) (fun (b2_:Unit)=>Option.bind (Qq (m47f10_l0 p1_ p2_) QI (0,(J3 gmNil p1_.name (⟨3,(p2_.length:Int),0,p1_.params,p1_.ty⟩:Ent)))) (fun (b3_:(Qc Bs Ent))=>m47f10_k1 p1_ b3_ p2_)))
   (cond (p1_.kind==4)
   (Option.bind (Qq (m47f10_l2 p1_ p2_) QI (0,gmNil)) (fun (b4_:(Qc Bs Ent))=>some b4_))
   (some gmNil)))
noncomputable def Kf (a0:Dcl) (a1:List Dcl) (a2:Qc Bs Ent) (a3:Qc Bs Ent) (y3:(Qc Bs Ent)) (s1:Int):Option (LO Int (Unit⊕(((Qc Bs Ent))⊕(Int×(Qc Bs Ent))))) :=
 cond (decide (s1 < (a0.ctors.length:Int)))
   (Option.bind (Jx a0.ctors s1) fun (x38:Ctr) =>
 Option.bind (KL x38.ty 0 a0.params a1 a2 (J3 a3 a0.name (⟨(Qm y3 a0.name).kind,(Qm y3 a0.name).decl,(Qm y3 a0.name).item,(Qm y3 a0.name).params,((Qm y3 a0.name).ty)⟩:Ent))) (Sum.elim (fun (x40:Unit)=>some (.next (Ja (s1+1)))) (fun (x41:Int)=>some (.done (.inr (.inr (x41,(J3 a3 a0.name (⟨(Qm y3 a0.name).kind,(Qm y3 a0.name).decl,(Qm y3 a0.name).item,(Qm y3 a0.name).params,((Qm y3 a0.name).ty)⟩:Ent)))))))))
   (some (.done (.inl ())))
noncomputable def ZJ (a0:Dcl) (y3:(Qc Bs Ent)) (s1:Int×(Qc Bs Ent)):Option (LO (Int×(Qc Bs Ent)) (((Qc Bs Ent)))) :=
 cond (decide (s1.1 < (a0.ctors.length:Int)))
   (Option.bind (Jx a0.ctors s1.1) fun (x39:Ctr) =>
 some (.next ((Ja (s1.1+1)),(J3 s1.2 x39.name (⟨(Qm y3 x39.name).kind,(Qm y3 x39.name).decl,(Qm y3 x39.name).item,(Qm y3 x39.name).params,((Qm y3 x39.name).ty)⟩:Ent)))))
   (some (.done s1.2))
noncomputable def Ke (a0:Dcl) (a1:List Dcl) (a2:Qc Bs Ent) (o37:(Qc Bs Ent)) (y3:(Qc Bs Ent)) (s1:Int):Option (LO Int (Unit⊕(((Qc Bs Ent))⊕(Int×(Qc Bs Ent))))) :=
 cond (decide (s1 < (a0.rcr.rules.length:Int)))
   (Option.bind (Jx a0.rcr.rules s1) fun (x44:Tm) =>
 Option.bind (KL x44 0 a0.rcr.params a1 a2 (J3 o37 (a0.name++([46,114,101,99]:List UInt8)) (⟨(Qm y3 (a0.name++([46,114,101,99]:List UInt8))).kind,(Qm y3 (a0.name++([46,114,101,99]:List UInt8))).decl,(Qm y3 (a0.name++([46,114,101,99]:List UInt8))).item,(Qm y3 (a0.name++([46,114,101,99]:List UInt8))).params,((Qm y3 (a0.name++([46,114,101,99]:List UInt8))).ty)⟩:Ent))) (Sum.elim (fun (x46:Unit)=>some (.next (Ja (s1+1)))) (fun (x47:Int)=>some (.done (.inr (.inr (x47,(J3 o37 (a0.name++([46,114,101,99]:List UInt8)) (⟨(Qm y3 (a0.name++([46,114,101,99]:List UInt8))).kind,(Qm y3 (a0.name++([46,114,101,99]:List UInt8))).decl,(Qm y3 (a0.name++([46,114,101,99]:List UInt8))).item,(Qm y3 (a0.name++([46,114,101,99]:List UInt8))).params,((Qm y3 (a0.name++([46,114,101,99]:List UInt8))).ty)⟩:Ent)))))))))
   (some (.done (.inl ())))
noncomputable def m47f10_k7 (p0_:(Qc Bs Ent)) (p1_:Dcl) (p2_:(Qc Bs Ent)):Option (((Qc Bs Ent))⊕(Int×(Qc Bs Ent))) :=
 some (.inl (J3 p0_ (p1_.name++([46,114,101,99]:List UInt8)) (⟨(Qm p2_ (p1_.name++([46,114,101,99]:List UInt8))).kind,(Qm p2_ (p1_.name++([46,114,101,99]:List UInt8))).decl,(Qm p2_ (p1_.name++([46,114,101,99]:List UInt8))).item,(Qm p2_ (p1_.name++([46,114,101,99]:List UInt8))).params,((Qm p2_ (p1_.name++([46,114,101,99]:List UInt8))).ty)⟩:Ent)))
noncomputable def m47f10_k8 (p0_:Dcl) (p1_:List Dcl) (p2_:Qc Bs Ent) (p3_:(Qc Bs Ent)) (p4_:(Qc Bs Ent)):Option (((Qc Bs Ent))⊕(Int×(Qc Bs Ent))) :=
 Option.bind (KL p0_.rcr.ty 0 p0_.rcr.params p1_ p2_ p3_) (Sum.elim (fun (b0_:Unit)=>Jh (Nat.ble (p0_.name.length+([46,114,101,99]:List UInt8).length) 1000000000)
 (Option.bind (Qq (Ke p0_ p1_ p2_ p3_ p4_) QI 0) (Sum.elim (fun (b1_:Unit)=>m47f10_k7 p3_ p0_ p4_) (fun o=>some o)))) (fun (b2_:Int)=>some (.inr (b2_,p3_))))
noncomputable def Kg (p0_:Dcl) (p1_:(Qc Bs Ent)) (p2_:Qc Bs Ent) (p3_:List Dcl) (p4_:Qc Bs Ent):Option (((Qc Bs Ent))⊕(Int×(Qc Bs Ent))) :=
 Option.bind (Qq (ZJ p0_ p1_) QI (0,(J3 p2_ p0_.name (⟨(Qm p1_ p0_.name).kind,(Qm p1_ p0_.name).decl,(Qm p1_ p0_.name).item,(Qm p1_ p0_.name).params,((Qm p1_ p0_.name).ty)⟩:Ent)))) (fun (b0_:(Qc Bs Ent))=>m47f10_k8 p0_ p3_ p4_ b0_ p1_)
noncomputable abbrev Z0 :HB :=
 .mp (QT (gmNil:Qc Bs Ent).1) (gmNil:Qc Bs Ent).2
noncomputable abbrev m47f10_h1 (p0_:List Dcl) (p1_:Qc Bs Ent) (p2_:Qc Bs Ent) (p3_:Dcl):List (Nat×HB) :=
 [(0,.cells 62 [DU p0_,.mp 1]),(1,.mp (QT p1_.1) p1_.2),(2,.mp (QT p2_.1) p2_.2),(3,.cells 45 (DZ p3_)),(4,Z0),(5,.cells 60 [.mp 4])]
noncomputable abbrev m47f10_h2 (p0_:List Dcl) (p1_:Qc Bs Ent) (p2_:Qc Bs Ent) (p3_:Dcl):List (Nat×HB) :=
 [(0,.cells 62 [DU p0_,.mp 1]),(1,.mp (QT p1_.1) p1_.2),(2,.mp (QT p2_.1) p2_.2),(3,.cells 45 (DZ p3_)),(4,Z0),(5,.cells 60 [.mp 4]),(6,.cells 45 (DZ p3_)),(7,.cells 3 [DW (p0_.length:Int)])]
noncomputable abbrev JP :HB :=
 .loop .ready none [(0,.v (.one (.ptr 0 0))),(2,.v (.one (.mp 2))),(4,.v (.one (.ptr 3 0))),(6,.v (.one (.ptr 5 0))),(23,.v (.one (.fn 49 [(7,0),(6,0)])))] 99 #[24,25] Zj Zi 8
noncomputable abbrev m47f10_h4 (p0_:List Dcl) (p1_:Qc Bs Ent) (p2_:Qc Bs Ent) (p3_:Dcl) (p4_:(Qc Bs Ent)):List (Nat×HB) :=
 [(0,.cells 62 [DU p0_,.mp 1]),(1,.mp (QT p1_.1) p1_.2),(2,.mp (QT p2_.1) p2_.2),(3,.cells 45 (DZ p3_)),(4,.mp (QT p4_.1) p4_.2),(5,.cells 60 [.mp 4]),(6,.cells 45 (DZ p3_)),(7,.cells 3 [DW (p0_.length:Int)]),(8,.obj (.deferred (some []))),(9,JP)]
noncomputable abbrev ZK (p0_:List Dcl) (p1_:Dcl):HB :=
 .cells 35 [DW 0,DW (p0_.length:Int),DW 0,DW p1_.params,DW p1_.ty.kind,DW p1_.ty.index,Jl p1_.ty.name,DU p1_.ty.levels,DU p1_.ty.kids]
noncomputable abbrev m47f10_h6 (p0_:List Dcl) (p1_:Qc Bs Ent) (p2_:Qc Bs Ent) (p3_:Dcl):List (Nat×HB) :=
 [(0,.cells 62 [DU p0_,.mp 1]),(1,.mp (QT p1_.1) p1_.2),(2,.mp (QT p2_.1) p2_.2),(3,.cells 45 (DZ p3_)),(4,Z0),(5,.cells 60 [.mp 4]),(6,.cells 45 (DZ p3_)),(7,.cells 3 [DW (p0_.length:Int)]),(8,.obj (.deferred (some []))),(9,JP),(10,ZK p0_ p3_)]
noncomputable abbrev Kh (p0_:Int) (p1_:List Dcl) (p2_:Dcl):HB :=
 .cells 35 [DW p0_,DW (p1_.length:Int),DW 0,DW p2_.params,DW p2_.ty.kind,DW p2_.ty.index,Jl p2_.ty.name,DU p2_.ty.levels,DU p2_.ty.kids]
noncomputable abbrev m47f10_h8 (p0_:List Dcl) (p1_:Qc Bs Ent) (p2_:Qc Bs Ent) (p3_:Dcl) (p4_:Int):List (Nat×HB) :=
 [(0,.cells 62 [DU p0_,.mp 1]),(1,.mp (QT p1_.1) p1_.2),(2,.mp (QT p2_.1) p2_.2),(3,.cells 45 (DZ p3_)),(4,Z0),(5,.cells 60 [.mp 4]),(6,.cells 45 (DZ p3_)),(7,.cells 3 [DW (p0_.length:Int)]),(8,.obj (.deferred (some []))),(9,JP),(10,Kh p4_ p0_ p3_)]
noncomputable abbrev YO :HB :=
 .loop .busy none [(0,.v (.one (.ptr 0 0))),(2,.v (.one (.mp 2))),(4,.v (.one (.ptr 3 0))),(6,.v (.one (.ptr 5 0))),(23,.v (.one (.fn 49 [(7,0),(6,0)])))] 99 #[24,25] Zj Zi 8
noncomputable abbrev m47f10_h10 (p0_:List Dcl) (p1_:Qc Bs Ent) (p2_:Qc Bs Ent) (p3_:Dcl) (p4_:Int):List (Nat×HB) :=
 [(0,.cells 62 [DU p0_,.mp 1]),(1,.mp (QT p1_.1) p1_.2),(2,.mp (QT p2_.1) p2_.2),(3,.cells 45 (DZ p3_)),(4,Z0),(5,.cells 60 [.mp 4]),(6,.cells 45 (DZ p3_)),(7,.cells 3 [DW (p0_.length:Int)]),(8,.obj (.deferred (some []))),(9,YO),(10,Kh p4_ p0_ p3_),(12,Kh p4_ p0_ p3_)]
noncomputable abbrev m47f10_h11 (p0_:List Dcl) (p1_:Qc Bs Ent) (p2_:Qc Bs Ent) (p3_:Dcl) (p4_:Int):List (Nat×HB) :=
 [(0,.cells 62 [DU p0_,.mp 1]),(1,.mp (QT p1_.1) p1_.2),(2,.mp (QT p2_.1) p2_.2),(3,.cells 45 (DZ p3_)),(4,Z0),(5,.cells 60 [.mp 4]),(6,.cells 45 (DZ p3_)),(7,.cells 3 [DW (p0_.length:Int)]),(8,.obj (.deferred (some []))),(9,JP),(10,Kh p4_ p0_ p3_),(12,Kh p4_ p0_ p3_)]
noncomputable abbrev m47f10_h12 (p0_:Dcl) (p1_:Int) (p2_:List Dcl):HB :=
 .mp (QT ((J3 gmNil p0_.name (⟨p1_,(p2_.length:Int),0,p0_.params,p0_.ty⟩:Ent)):Qc Bs Ent).1) ((J3 gmNil p0_.name (⟨p1_,(p2_.length:Int),0,p0_.params,p0_.ty⟩:Ent)):Qc Bs Ent).2
noncomputable abbrev m47f10_h13 (p0_:List Dcl) (p1_:Qc Bs Ent) (p2_:Qc Bs Ent) (p3_:Dcl) (p4_:Int):List (Nat×HB) :=
 [(0,.cells 62 [DU p0_,.mp 1]),(1,.mp (QT p1_.1) p1_.2),(2,.mp (QT p2_.1) p2_.2),(3,.cells 45 (DZ p3_)),(4,m47f10_h12 p3_ p4_ p0_),(5,.cells 60 [.mp 4]),(6,.cells 45 (DZ p3_)),(7,.cells 3 [DW (p0_.length:Int)]),(8,.obj (.deferred (some []))),(9,YO),(10,Kh p4_ p0_ p3_)]
noncomputable abbrev JH (p0_:List Dcl) (p1_:Dcl):HB :=
 .cells 35 [DW 3,DW (p0_.length:Int),DW 0,DW p1_.params,DW p1_.ty.kind,DW p1_.ty.index,Jl p1_.ty.name,DU p1_.ty.levels,DU p1_.ty.kids]
noncomputable abbrev m47f10_h15 (p0_:List Dcl) (p1_:Qc Bs Ent) (p2_:Qc Bs Ent) (p3_:Dcl):List (Nat×HB) :=
 [(0,.cells 62 [DU p0_,.mp 1]),(1,.mp (QT p1_.1) p1_.2),(2,.mp (QT p2_.1) p2_.2),(3,.cells 45 (DZ p3_)),(4,Z0),(5,.cells 60 [.mp 4]),(6,.cells 45 (DZ p3_)),(7,.cells 3 [DW (p0_.length:Int)]),(8,.obj (.deferred (some []))),(9,JP),(10,JH p0_ p3_)]
noncomputable abbrev m47f10_h16 (p0_:List Dcl) (p1_:Qc Bs Ent) (p2_:Qc Bs Ent) (p3_:Dcl):List (Nat×HB) :=
 [(0,.cells 62 [DU p0_,.mp 1]),(1,.mp (QT p1_.1) p1_.2),(2,.mp (QT p2_.1) p2_.2),(3,.cells 45 (DZ p3_)),(4,Z0),(5,.cells 60 [.mp 4]),(6,.cells 45 (DZ p3_)),(7,.cells 3 [DW (p0_.length:Int)]),(8,.obj (.deferred (some []))),(9,YO),(10,JH p0_ p3_),(11,JH p0_ p3_)]
noncomputable abbrev m47f10_h17 (p0_:List Dcl) (p1_:Qc Bs Ent) (p2_:Qc Bs Ent) (p3_:Dcl):List (Nat×HB) :=
 [(0,.cells 62 [DU p0_,.mp 1]),(1,.mp (QT p1_.1) p1_.2),(2,.mp (QT p2_.1) p2_.2),(3,.cells 45 (DZ p3_)),(4,Z0),(5,.cells 60 [.mp 4]),(6,.cells 45 (DZ p3_)),(7,.cells 3 [DW (p0_.length:Int)]),(8,.obj (.deferred (some []))),(9,JP),(10,JH p0_ p3_),(11,JH p0_ p3_)]
noncomputable abbrev m47f10_h18 (p0_:Dcl) (p1_:List Dcl):HB :=
 .mp (QT ((J3 gmNil p0_.name (⟨3,(p1_.length:Int),0,p0_.params,p0_.ty⟩:Ent)):Qc Bs Ent).1) ((J3 gmNil p0_.name (⟨3,(p1_.length:Int),0,p0_.params,p0_.ty⟩:Ent)):Qc Bs Ent).2
noncomputable abbrev m47f10_h19 (p0_:List Dcl) (p1_:Qc Bs Ent) (p2_:Qc Bs Ent) (p3_:Dcl):List (Nat×HB) :=
 [(0,.cells 62 [DU p0_,.mp 1]),(1,.mp (QT p1_.1) p1_.2),(2,.mp (QT p2_.1) p2_.2),(3,.cells 45 (DZ p3_)),(4,m47f10_h18 p3_ p0_),(5,.cells 60 [.mp 4]),(6,.cells 45 (DZ p3_)),(7,.cells 3 [DW (p0_.length:Int)]),(8,.obj (.deferred (some []))),(9,YO),(10,JH p0_ p3_)]
noncomputable abbrev m47f10_h20 (p0_:List Dcl) (p1_:Qc Bs Ent) (p2_:Qc Bs Ent) (p3_:Dcl) (p4_:Int×(Qc Bs Ent)) (p5_:Ctr):List (Nat×HB) :=
 [(0,.cells 62 [DU p0_,.mp 1]),(1,.mp (QT p1_.1) p1_.2),(2,.mp (QT p2_.1) p2_.2),(3,.cells 45 (DZ p3_)),(4,.mp (QT p4_.2.1) p4_.2.2),(5,.cells 60 [.mp 4]),(6,.cells 45 (DZ p3_)),(7,.cells 3 [DW (p0_.length:Int)]),(8,.obj (.deferred (some []))),(9,JP),(10,JH p0_ p3_),(12,.cells 71 (DZ p5_))]
noncomputable abbrev m47f10_h21 (p0_:List Dcl) (p1_:Int×(Qc Bs Ent)) (p2_:Dcl) (p3_:Ctr):HB :=
 .cells 35 [DW 4,DW (p0_.length:Int),DW p1_.1,DW p2_.params,DW p3_.ty.kind,DW p3_.ty.index,Jl p3_.ty.name,DU p3_.ty.levels,DU p3_.ty.kids]
noncomputable abbrev m47f10_h22 (p0_:List Dcl) (p1_:Qc Bs Ent) (p2_:Qc Bs Ent) (p3_:Dcl) (p4_:Int×(Qc Bs Ent)) (p5_:Ctr):List (Nat×HB) :=
 [(0,.cells 62 [DU p0_,.mp 1]),(1,.mp (QT p1_.1) p1_.2),(2,.mp (QT p2_.1) p2_.2),(3,.cells 45 (DZ p3_)),(4,.mp (QT p4_.2.1) p4_.2.2),(5,.cells 60 [.mp 4]),(6,.cells 45 (DZ p3_)),(7,.cells 3 [DW (p0_.length:Int)]),(8,.obj (.deferred (some []))),(9,YO),(10,JH p0_ p3_),(12,.cells 71 (DZ p5_)),(13,m47f10_h21 p0_ p4_ p3_ p5_)]
noncomputable abbrev m47f10_h23 (p0_:List Dcl) (p1_:Qc Bs Ent) (p2_:Qc Bs Ent) (p3_:Dcl) (p4_:Int×(Qc Bs Ent)) (p5_:Ctr):List (Nat×HB) :=
 [(0,.cells 62 [DU p0_,.mp 1]),(1,.mp (QT p1_.1) p1_.2),(2,.mp (QT p2_.1) p2_.2),(3,.cells 45 (DZ p3_)),(4,.mp (QT p4_.2.1) p4_.2.2),(5,.cells 60 [.mp 4]),(6,.cells 45 (DZ p3_)),(7,.cells 3 [DW (p0_.length:Int)]),(8,.obj (.deferred (some []))),(9,JP),(10,JH p0_ p3_),(12,.cells 71 (DZ p5_)),(13,m47f10_h21 p0_ p4_ p3_ p5_)]
noncomputable abbrev m47f10_h24 (p0_:Int×(Qc Bs Ent)) (p1_:Ctr) (p2_:List Dcl) (p3_:Dcl):HB :=
 .mp (QT ((J3 p0_.2 p1_.name (⟨4,(p2_.length:Int),p0_.1,p3_.params,p1_.ty⟩:Ent)):Qc Bs Ent).1) ((J3 p0_.2 p1_.name (⟨4,(p2_.length:Int),p0_.1,p3_.params,p1_.ty⟩:Ent)):Qc Bs Ent).2
noncomputable abbrev m47f10_h25 (p0_:List Dcl) (p1_:Qc Bs Ent) (p2_:Qc Bs Ent) (p3_:Dcl) (p4_:Int×(Qc Bs Ent)) (p5_:Ctr):List (Nat×HB) :=
 [(0,.cells 62 [DU p0_,.mp 1]),(1,.mp (QT p1_.1) p1_.2),(2,.mp (QT p2_.1) p2_.2),(3,.cells 45 (DZ p3_)),(4,m47f10_h24 p4_ p5_ p0_ p3_),(5,.cells 60 [.mp 4]),(6,.cells 45 (DZ p3_)),(7,.cells 3 [DW (p0_.length:Int)]),(8,.obj (.deferred (some []))),(9,YO),(10,JH p0_ p3_),(12,.cells 71 (DZ p5_))]
noncomputable abbrev m47f10_h26 (p0_:List Dcl) (p1_:Qc Bs Ent) (p2_:Qc Bs Ent) (p3_:Dcl) (p4_:(Qc Bs Ent)):List (Nat×HB) :=
 [(0,.cells 62 [DU p0_,.mp 1]),(1,.mp (QT p1_.1) p1_.2),(2,.mp (QT p2_.1) p2_.2),(3,.cells 45 (DZ p3_)),(4,.mp (QT p4_.1) p4_.2),(5,.cells 60 [.mp 4]),(6,.cells 45 (DZ p3_)),(7,.cells 3 [DW (p0_.length:Int)]),(8,.obj (.deferred (some []))),(9,JP),(10,JH p0_ p3_)]
noncomputable abbrev m47f10_h27 (p0_:List Dcl) (p1_:Dcl):HB :=
 .cells 35 [DW 5,DW (p0_.length:Int),DW 0,DW p1_.rcr.params,DW p1_.rcr.ty.kind,DW p1_.rcr.ty.index,Jl p1_.rcr.ty.name,DU p1_.rcr.ty.levels,DU p1_.rcr.ty.kids]
noncomputable abbrev m47f10_h28 (p0_:List Dcl) (p1_:Qc Bs Ent) (p2_:Qc Bs Ent) (p3_:Dcl) (p4_:(Qc Bs Ent)):List (Nat×HB) :=
 [(0,.cells 62 [DU p0_,.mp 1]),(1,.mp (QT p1_.1) p1_.2),(2,.mp (QT p2_.1) p2_.2),(3,.cells 45 (DZ p3_)),(4,.mp (QT p4_.1) p4_.2),(5,.cells 60 [.mp 4]),(6,.cells 45 (DZ p3_)),(7,.cells 3 [DW (p0_.length:Int)]),(8,.obj (.deferred (some []))),(9,YO),(10,JH p0_ p3_),(12,m47f10_h27 p0_ p3_)]
noncomputable abbrev m47f10_h29 (p0_:List Dcl) (p1_:Qc Bs Ent) (p2_:Qc Bs Ent) (p3_:Dcl) (p4_:(Qc Bs Ent)):List (Nat×HB) :=
 [(0,.cells 62 [DU p0_,.mp 1]),(1,.mp (QT p1_.1) p1_.2),(2,.mp (QT p2_.1) p2_.2),(3,.cells 45 (DZ p3_)),(4,.mp (QT p4_.1) p4_.2),(5,.cells 60 [.mp 4]),(6,.cells 45 (DZ p3_)),(7,.cells 3 [DW (p0_.length:Int)]),(8,.obj (.deferred (some []))),(9,JP),(10,JH p0_ p3_),(12,m47f10_h27 p0_ p3_)]
noncomputable abbrev m47f10_h30 (p0_:(Qc Bs Ent)) (p1_:Dcl) (p2_:List Dcl):HB :=
 .mp (QT ((J3 p0_ (p1_.name++([46,114,101,99]:List UInt8)) (⟨5,(p2_.length:Int),0,p1_.rcr.params,p1_.rcr.ty⟩:Ent)):Qc Bs Ent).1) ((J3 p0_ (p1_.name++([46,114,101,99]:List UInt8)) (⟨5,(p2_.length:Int),0,p1_.rcr.params,p1_.rcr.ty⟩:Ent)):Qc Bs Ent).2
noncomputable abbrev m47f10_h31 (p0_:List Dcl) (p1_:Qc Bs Ent) (p2_:Qc Bs Ent) (p3_:Dcl) (p4_:(Qc Bs Ent)):List (Nat×HB) :=
 [(0,.cells 62 [DU p0_,.mp 1]),(1,.mp (QT p1_.1) p1_.2),(2,.mp (QT p2_.1) p2_.2),(3,.cells 45 (DZ p3_)),(4,m47f10_h30 p4_ p3_ p0_),(5,.cells 60 [.mp 4]),(6,.cells 45 (DZ p3_)),(7,.cells 3 [DW (p0_.length:Int)]),(8,.obj (.deferred (some []))),(9,YO),(10,JH p0_ p3_)]
noncomputable abbrev m47f10_h32 (p0_:List Dcl) (p1_:Qc Bs Ent) (p2_:Qc Bs Ent) (p3_:Dcl) (p4_:Int×(Qc Bs Ent)) (p5_:Fn):List (Nat×HB) :=
 [(0,.cells 62 [DU p0_,.mp 1]),(1,.mp (QT p1_.1) p1_.2),(2,.mp (QT p2_.1) p2_.2),(3,.cells 45 (DZ p3_)),(4,.mp (QT p4_.2.1) p4_.2.2),(5,.cells 60 [.mp 4]),(6,.cells 45 (DZ p3_)),(7,.cells 3 [DW (p0_.length:Int)]),(8,.obj (.deferred (some []))),(9,JP),(10,ZK p0_ p3_),(11,.cells 76 (DZ p5_))]
noncomputable abbrev m47f10_h33 (p0_:List Dcl) (p1_:Int×(Qc Bs Ent)) (p2_:Dcl) (p3_:Fn):HB :=
 .cells 35 [DW 6,DW (p0_.length:Int),DW p1_.1,DW p2_.params,DW p3_.ty.kind,DW p3_.ty.index,Jl p3_.ty.name,DU p3_.ty.levels,DU p3_.ty.kids]
noncomputable abbrev m47f10_h34 (p0_:List Dcl) (p1_:Qc Bs Ent) (p2_:Qc Bs Ent) (p3_:Dcl) (p4_:Int×(Qc Bs Ent)) (p5_:Fn):List (Nat×HB) :=
 [(0,.cells 62 [DU p0_,.mp 1]),(1,.mp (QT p1_.1) p1_.2),(2,.mp (QT p2_.1) p2_.2),(3,.cells 45 (DZ p3_)),(4,.mp (QT p4_.2.1) p4_.2.2),(5,.cells 60 [.mp 4]),(6,.cells 45 (DZ p3_)),(7,.cells 3 [DW (p0_.length:Int)]),(8,.obj (.deferred (some []))),(9,YO),(10,ZK p0_ p3_),(11,.cells 76 (DZ p5_)),(12,m47f10_h33 p0_ p4_ p3_ p5_)]
noncomputable abbrev m47f10_h35 (p0_:List Dcl) (p1_:Qc Bs Ent) (p2_:Qc Bs Ent) (p3_:Dcl) (p4_:Int×(Qc Bs Ent)) (p5_:Fn):List (Nat×HB) :=
 [(0,.cells 62 [DU p0_,.mp 1]),(1,.mp (QT p1_.1) p1_.2),(2,.mp (QT p2_.1) p2_.2),(3,.cells 45 (DZ p3_)),(4,.mp (QT p4_.2.1) p4_.2.2),(5,.cells 60 [.mp 4]),(6,.cells 45 (DZ p3_)),(7,.cells 3 [DW (p0_.length:Int)]),(8,.obj (.deferred (some []))),(9,JP),(10,ZK p0_ p3_),(11,.cells 76 (DZ p5_)),(12,m47f10_h33 p0_ p4_ p3_ p5_)]
noncomputable abbrev m47f10_h36 (p0_:Int×(Qc Bs Ent)) (p1_:Fn) (p2_:List Dcl) (p3_:Dcl):HB :=
 .mp (QT ((J3 p0_.2 p1_.name (⟨6,(p2_.length:Int),p0_.1,p3_.params,p1_.ty⟩:Ent)):Qc Bs Ent).1) ((J3 p0_.2 p1_.name (⟨6,(p2_.length:Int),p0_.1,p3_.params,p1_.ty⟩:Ent)):Qc Bs Ent).2
noncomputable abbrev m47f10_h37 (p0_:List Dcl) (p1_:Qc Bs Ent) (p2_:Qc Bs Ent) (p3_:Dcl) (p4_:Int×(Qc Bs Ent)) (p5_:Fn):List (Nat×HB) :=
 [(0,.cells 62 [DU p0_,.mp 1]),(1,.mp (QT p1_.1) p1_.2),(2,.mp (QT p2_.1) p2_.2),(3,.cells 45 (DZ p3_)),(4,m47f10_h36 p4_ p5_ p0_ p3_),(5,.cells 60 [.mp 4]),(6,.cells 45 (DZ p3_)),(7,.cells 3 [DW (p0_.length:Int)]),(8,.obj (.deferred (some []))),(9,YO),(10,ZK p0_ p3_),(11,.cells 76 (DZ p5_))]
noncomputable abbrev m47f10_h38 (p0_:Qc Bs Ent) (p1_:Dcl) (p2_:(Qc Bs Ent)):HB :=
 .mp (QT ((J3 p0_ p1_.name (⟨(Qm p2_ p1_.name).kind,(Qm p2_ p1_.name).decl,(Qm p2_ p1_.name).item,(Qm p2_ p1_.name).params,((Qm p2_ p1_.name).ty)⟩:Ent)):Qc Bs Ent).1) ((J3 p0_ p1_.name (⟨(Qm p2_ p1_.name).kind,(Qm p2_ p1_.name).decl,(Qm p2_ p1_.name).item,(Qm p2_ p1_.name).params,((Qm p2_ p1_.name).ty)⟩:Ent)):Qc Bs Ent).2
noncomputable abbrev m47f10_h39 (p0_:List Dcl) (p1_:Qc Bs Ent) (p2_:Qc Bs Ent) (p3_:Dcl) (p4_:(Qc Bs Ent)):List (Nat×HB) :=
 [(0,.cells 62 [DU p0_,.mp 1]),(1,.mp (QT p1_.1) p1_.2),(2,m47f10_h38 p2_ p3_ p4_),(3,.cells 45 (DZ p3_)),(4,.mp (QT p4_.1) p4_.2),(5,.cells 60 [.mp 4]),(6,.cells 45 (DZ p3_)),(7,.cells 3 [DW (p0_.length:Int)])]
noncomputable abbrev m47f10_h40 (p0_:Dcl) (p1_:(Qc Bs Ent)) (p2_:List Dcl) (p3_:Ctr):List (Nat×HB) :=
 [(3,.cells 45 (DZ p0_)),(4,.mp (QT p1_.1) p1_.2),(5,.cells 60 [.mp 4]),(6,.cells 45 (DZ p0_)),(7,.cells 3 [DW (p2_.length:Int)]),(11,.cells 71 (DZ p3_))]
noncomputable abbrev m47f10_h41 (p0_:List Dcl) (p1_:Qc Bs Ent) (p2_:Qc Bs Ent) (p3_:Dcl) (p4_:(Qc Bs Ent)):List (Nat×HB) :=
 [(0,.cells 62 [DU p0_,.mp 1]),(1,.mp (QT p1_.1) p1_.2),(2,m47f10_h38 p2_ p3_ p4_)]
noncomputable abbrev m47f10_h42 (p0_:Dcl) (p1_:(Qc Bs Ent)) (p2_:List Dcl):List (Nat×HB) :=
 [(3,.cells 45 (DZ p0_)),(4,.mp (QT p1_.1) p1_.2),(5,.cells 60 [.mp 4]),(6,.cells 45 (DZ p0_)),(7,.cells 3 [DW (p2_.length:Int)])]
noncomputable abbrev m47f10_h43 (p0_:(Qc Bs Ent)) (p1_:Dcl) (p2_:(Qc Bs Ent)):HB :=
 .mp (QT ((J3 p0_ (p1_.name++([46,114,101,99]:List UInt8)) (⟨(Qm p2_ (p1_.name++([46,114,101,99]:List UInt8))).kind,(Qm p2_ (p1_.name++([46,114,101,99]:List UInt8))).decl,(Qm p2_ (p1_.name++([46,114,101,99]:List UInt8))).item,(Qm p2_ (p1_.name++([46,114,101,99]:List UInt8))).params,((Qm p2_ (p1_.name++([46,114,101,99]:List UInt8))).ty)⟩:Ent)):Qc Bs Ent).1) ((J3 p0_ (p1_.name++([46,114,101,99]:List UInt8)) (⟨(Qm p2_ (p1_.name++([46,114,101,99]:List UInt8))).kind,(Qm p2_ (p1_.name++([46,114,101,99]:List UInt8))).decl,(Qm p2_ (p1_.name++([46,114,101,99]:List UInt8))).item,(Qm p2_ (p1_.name++([46,114,101,99]:List UInt8))).params,((Qm p2_ (p1_.name++([46,114,101,99]:List UInt8))).ty)⟩:Ent)):Qc Bs Ent).2
noncomputable abbrev m47f10_h44 (p0_:List Dcl) (p1_:Qc Bs Ent) (p2_:(Qc Bs Ent)) (p3_:Dcl) (p4_:(Qc Bs Ent)):List (Nat×HB) :=
 [(0,.cells 62 [DU p0_,.mp 1]),(1,.mp (QT p1_.1) p1_.2),(2,m47f10_h43 p2_ p3_ p4_),(3,.cells 45 (DZ p3_)),(4,.mp (QT p4_.1) p4_.2),(5,.cells 60 [.mp 4]),(6,.cells 45 (DZ p3_)),(7,.cells 3 [DW (p0_.length:Int)])]
noncomputable abbrev m47f10_h45 (p0_:Dcl) (p1_:(Qc Bs Ent)) (p2_:List Dcl) (p3_:Tm):List (Nat×HB) :=
 [(3,.cells 45 (DZ p0_)),(4,.mp (QT p1_.1) p1_.2),(5,.cells 60 [.mp 4]),(6,.cells 45 (DZ p0_)),(7,.cells 3 [DW (p2_.length:Int)]),(19,.cells 33 (DZ p3_))]
noncomputable abbrev m47f10_h46 (p0_:List Dcl) (p1_:Qc Bs Ent) (p2_:(Qc Bs Ent)) (p3_:Dcl) (p4_:(Qc Bs Ent)):List (Nat×HB) :=
 [(0,.cells 62 [DU p0_,.mp 1]),(1,.mp (QT p1_.1) p1_.2),(2,m47f10_h43 p2_ p3_ p4_)]
noncomputable abbrev m47f10_h47 (p0_:List Dcl) (p1_:Qc Bs Ent) (p2_:(Qc Bs Ent)):List (Nat×HB) :=
 [(0,.cells 62 [DU p0_,.mp 1]),(1,.mp (QT p1_.1) p1_.2),(2,.mp (QT p2_.1) p2_.2)]
noncomputable abbrev m47f10_h48 (p0_:List Dcl) (p1_:Qc Bs Ent) (p2_:Qc Bs Ent):List (Nat×HB) :=
 [(0,.cells 62 [DU p0_,.mp 1]),(1,.mp (QT p1_.1) p1_.2),(2,.mp (QT p2_.1) p2_.2)]
noncomputable def Wh (a0:Dcl) (a1:List Dcl) (a2:Qc Bs Ent) (a3:Qc Bs Ent):Option (((Qc Bs Ent))⊕(Int×(Qc Bs Ent))) :=
 Option.bind (some ()) (fun (y1:Unit)=>Option.bind (Option.bind (cond (a0.kind==0)
   (some (a0.kind==0))
   (cond (a0.kind==1)
   (some (a0.kind==1))
   (some (a0.kind==2)))) (fun (v5:Bool)=>m47f10_k3 v5 a0 a1)) (fun (y3:(Qc Bs Ent))=>Option.bind (Qq (Kf a0 a1 a2 a3 y3) QI 0) (Sum.elim (fun (o36:Unit)=>Kg a0 y3 a3 a1 a2) (fun o=>some o))))
theorem m47f10_ok (a0:Dcl) (a1:List Dcl) (a2:Qc Bs Ent) (a3:Qc Bs Ent) (r:((Qc Bs Ent))⊕(Int×(Qc Bs Ent))) (h0:Wh a0 a1 a2 a3=some r):CallE Try.prog 47 [.one (.ptr 0 0),.agg (DZ a0),.one (.mp 2)] ⟨m47f10_h48 a1 a2 a3,[],3⟩ ((Sum.elim (fun (r0:(Qc Bs Ent))=>((.ret []):EK)) (fun (r1:Int×(Qc Bs Ent))=>((.pan (QG 90 r1.1)):EK))) r) ⟨((Sum.elim (fun (r0:(Qc Bs Ent))=>(⟨[],[(0,.cells 62 [DU a1,.mp 1]),(1,.mp (QT a2.1) a2.2),(2,.mp (QT r0.1) r0.2)],[],19,99,[]⟩:St)) (fun (r1:Int×(Qc Bs Ent))=>(⟨[],[(0,.cells 62 [DU a1,.mp 1]),(1,.mp (QT a2.1) a2.2),(2,.mp (QT r1.2.1) r1.2.2)],[],14,99,[]⟩:St))) r).hp,((Sum.elim (fun (r0:(Qc Bs Ent))=>(⟨[],[(0,.cells 62 [DU a1,.mp 1]),(1,.mp (QT a2.1) a2.2),(2,.mp (QT r0.1) r0.2)],[],19,99,[]⟩:St)) (fun (r1:Int×(Qc Bs Ent))=>(⟨[],[(0,.cells 62 [DU a1,.mp 1]),(1,.mp (QT a2.1) a2.2),(2,.mp (QT r1.2.1) r1.2.2)],[],14,99,[]⟩:St))) r).tk,((Sum.elim (fun (r0:(Qc Bs Ent))=>(⟨[],[(0,.cells 62 [DU a1,.mp 1]),(1,.mp (QT a2.1) a2.2),(2,.mp (QT r0.1) r0.2)],[],19,99,[]⟩:St)) (fun (r1:Int×(Qc Bs Ent))=>(⟨[],[(0,.cells 62 [DU a1,.mp 1]),(1,.mp (QT a2.1) a2.2),(2,.mp (QT r1.2.1) r1.2.2)],[],14,99,[]⟩:St))) r).nx⟩:=by
 unfold Wh at h0
 refine JG r ((Sum.elim (fun (r0:(Qc Bs Ent))=>(⟨[],[(0,.cells 62 [DU a1,.mp 1]),(1,.mp (QT a2.1) a2.2),(2,.mp (QT r0.1) r0.2)],[],19,99,[]⟩:St)) (fun (r1:Int×(Qc Bs Ent))=>(⟨[],[(0,.cells 62 [DU a1,.mp 1]),(1,.mp (QT a2.1) a2.2),(2,.mp (QT r1.2.1) r1.2.2)],[],14,99,[]⟩:St)))) ((Sum.elim (fun (r0:(Qc Bs Ent))=>((.ret []):EK)) (fun (r1:Int×(Qc Bs Ent))=>((.pan (QG 90 r1.1)):EK)))) rfl rfl en_47 (DM rfl) (fun z_=>by cases z_ with
 | inl _=>exact rfl
 | inr _=>exact rfl) (fun z_=>by cases z_ with
 | inl _=>exact (Uu .nil)
 | inr _=>exact UE) (fun w0 M V0 Q hv0 hQ0=>?_)
 simp only [Jb]
 refine Q6<|Q0<|Q9 Z Z (DM Z) (QV Z)<|Q3<|Q4<|Q6<|Q0<|Q9 Z Z (DM Z) (OpOK.makeMapG Bs Ent)<|Q9 Z Z (DM Z) (Ql z_60 Z)<|Qz Z Z (Qv Yp Z Z Z Z (DM Z) Z)<|Q3<|Q4<|Q6<|Q6 ?_
 refine Js [6] [] YU (by kernel_rfl) (by kernel_rfl) (by kernel_rfl) ?_
 refine RunA.rd Z Z Z (Q1 (QM (a0:Dcl) JK Z Z)) Z<|RunA.rd Z Z Z (Q1 (Qp Z)) Z<|RunA.rd Z Z Z (Q1 (Jo Z)) Z<|RunA.rd Z Z Z (Q1 (Q2 fo_62_0 Z)) Z<|RunA.rd Z Z Z (Q1 (Q5 ag_22 Z Z Z)) Z<|RunA.rd Z Z Z (Q1 (QD (α:=Dcl) JW Z (.d _))) Z ?_
 refine Qd h0 (fun y1 h1 h0=>?_)
 have hc2:CallM Try.prog 31 [.agg (DZ a0),.one (DW (a1.length:Int))] ⟨m47f10_h1 a1 a2 a3 a0,[],6⟩ (QP [.one (.fn 49 [(7,0),(6,0)])]) ⟨m47f10_h2 a1 a2 a3 a0,[],8⟩:=by
  refine Jc ⟨[(4,.v (.one (.fn 49 [(7,0),(6,0)])))],m47f10_h2 a1 a2 a3 a0,[],8,6,[]⟩ Z Z en_31 (DM Z) Z (QB Z .nil) (fun w0 M V0 Q hv1 hQ1=>?_)
  simp only [Jb]
  refine Q6<|Q0<|Q9 Z Z (DM Z) (QV Z)<|Q9 Z Z (DM Z) (QV Z)<|DF Z Z Z<|Q3<|Q4<|Q6<|Q0<|DD Z Z Z (RO.makeFunc2 Z Z)<|DF Z Z Z<|Q3<|Q4<|QE ?_
  have e:=DB h1;subst e
  exact hQ1 _ _ _ (.inr Z) Z (QH (Dz Z) (hA Z) DN Z (Nat.le_trans hv1 (DM Z)) Z Z Z (bB Z Z (bG Z (bG Z (bB Z Z (bG Z (bA Z)))))) Z Z)
 refine RunA.eff Z Z Z (JO Z Z Z hc2 Z (hA Z) DN) Z ?_
 refine RunA.nil ⟨?ex,_,_,Z,?_⟩
 case ex=>exact trivial
 refine JV (st':=⟨[(0,.v (.one (.ptr 0 0))),(2,.v (.one (.mp 2))),(4,.v (.one (.ptr 3 0))),(6,.v (.one (.ptr 5 0))),(23,.v (.one (.fn 49 [(7,0),(6,0)])))],m47f10_h2 a1 a2 a3 a0,[],8,99,[]⟩) (QH (Dz Z) (hA Z) DN Z (Nat.le_trans hv0 (DM Z)) Z Z Z (bB Z Z (bG Z (bG Z (bB Z Z (bG Z (bA Z)))))) Z Z)<|Q4<|Qh<|GG (st':=⟨[(0,.v (.one (.ptr 0 0))),(2,.v (.one (.mp 2))),(4,.v (.one (.ptr 3 0))),(6,.v (.one (.ptr 5 0))),(23,.v (.one (.fn 49 [(7,0),(6,0)])))],m47f10_h2 a1 a2 a3 a0,[],8,99,[]⟩) (QH (Dz Z) (hA Z) DN Z (Nat.le_trans hv0 (DM Z)) Z Z Z (bB Z Z (bG Z (bG Z (bB Z Z (bG Z (bA Z)))))) Z Z) ?_
 refine Qd h0 (fun y3 h1 h0=>?_)
 have hc4:CallM Try.prog 49 [.one (.yld 9),.one (.ptr 7 0),.one (.ptr 6 0)] ⟨[(9,.loop .ready none [(0,.v (.one (.ptr 0 0))),(2,.v (.one (.mp 2))),(4,.v (.one (.ptr 3 0))),(6,.v (.one (.ptr 5 0))),(23,.v (.one (.fn 49 [(7,0),(6,0)])))] 99 #[24,25] Zj Zi 8),(8,.obj (.deferred (some []))),(0,.cells 62 [DU a1,.mp 1]),(1,.mp (QT a2.1) a2.2),(2,.mp (QT a3.1) a3.2),(3,.cells 45 (DZ a0)),(4,.mp (QT (gmNil:Qc Bs Ent).1) (gmNil:Qc Bs Ent).2),(5,.cells 60 [.mp 4]),(6,.cells 45 (DZ a0)),(7,.cells 3 [DW (a1.length:Int)])],[],10⟩ (QP []) ⟨m47f10_h4 a1 a2 a3 a0 y3,[],11⟩:=by
  refine Jc ⟨[],m47f10_h4 a1 a2 a3 a0 y3,[],11,98,[]⟩ Z Z en_49 (DM Z) Z .nil (fun w0 M V0 Q hv1 hQ1=>?_)
  simp only [Jb]
  refine Q6<|Q0<|DD Z Z Z (Q5 QN Z Z Z)<|DD Z Z Z (Q2 Ya Z)<|DD Z Z Z (Q5 QN Z Z Z)<|DD Z Z Z (Q2 KU Z)<|DD Z Z Z (Qk QX Z Z Z Z)<|DD Z Z Z (Zn ZX Z Z Z Z Z)<|Q9 Z Z (DM Z) (Ql YZ Z)<|Qz Z Z (Qv Jg Z Z Z Z (DM Z) Z)<|Q3<|Q4<|Q6<|Q0 ?_
  refine DD Z Z Z (Q2 Yg Z)<|DD Z Z Z (Q5 QN Z Z Z)<|Q3<|Q4<|Qh<|Q6<|Q6<|Q0<|DD Z Z Z (Q8 Z Z Z)<|DF Z Z Z<|Q3<|Q4 ?_
  refine QO (fun (v5:Bool)=>⟨[(0,.v (.one (.yld 9))),(1,.v (.one (.ptr 7 0))),(2,.v (.one (.ptr 6 0))),(4,.v (.one (.ptr 10 0))),(16,.v (.one (DW a0.kind))),(17,.v (.one (DX v5)))],m47f10_h6 a1 a2 a3 a0,[],11,98,[]⟩) (fun (v5:Bool)=>(m47f10_k3 v5 a0 a1)=some y3) ?_ ?_
  refine Qd h1 (fun w2_ h2 h1=>?_)
  refine Qg (b:=(a0.kind==0)) Z (fun c6=>?_) (fun c6=>?_)
  replace h2:=Qi c6 h2
  refine Qn ?_
  have e:=DB h2;subst e
  exact Qb (a0.kind==0) (QH (Dz Z) (hA Z) DN Z (Nat.le_trans hv1 (DM Z)) Z Z Z (bB Z Z (bG Z (bG Z (bB Z Z (bG Z (bA Z)))))) Z Z) h1
  replace h2:=Qj c6 h2
  refine Q6<|Q0<|DD Z Z Z (Q8 Z Z Z)<|DF Z Z Z<|Q3<|Q4 ?_
  refine Qg (b:=(a0.kind==1)) Z (fun c7=>?_) (fun c7=>?_)
  replace h2:=Qi c7 h2
  refine Qn ?_
  have e:=DB h2;subst e
  exact Qb (a0.kind==1) (QH (Dz Z) (hA Z) DN Z (Nat.le_trans hv1 (DM Z)) Z Z Z (bB Z Z (bG Z (bG Z (bB Z Z (bG Z (bA Z)))))) Z Z) h1
  replace h2:=Qj c7 h2
  refine Q0<|DD Z Z Z (Q8 Z Z Z)<|DF Z Z Z<|Q3 ?_
  have e:=DB h2;subst e
  exact Qb (a0.kind==2) (QH (Dz Z) (hA Z) DN Z (Nat.le_trans hv1 (DM Z)) Z Z Z (bB Z Z (bG Z (bG Z (bB Z Z (bG Z (bA Z)))))) Z Z) h1
  intro v5 h1
  unfold m47f10_k3 at h1
  refine Q4 ?_
  refine Qg (b:=v5) Z (fun c8=>?_) (fun c8=>?_)
  replace h1:=Qi c8 h1
  refine Q6<|Q0<|Q9 Z Z (DM Z) (OpOK.lit3E (α:=Int) 0 1 2 Wq Dp Z Z (DM Z) (DM Z) Z Z Z Z (.cons (.d _) (.cons (.d _) (.cons (.d _) .nil))) ⟨Z,Z,Z⟩)<|DD Z Z Z (Q2 Yg Z)<|DD Z Z Z (Q5 QN Z Z Z) ?_
  refine Qd h1 (fun x9 hx9 h1=>?_)
  refine DD Z Z Z (Qy (α:=Int) Wq Z (.app _ _) Z hx9)<|DD Z Z Z (Y1 QN Z Z)<|DD Z Z Z (Q2 YW Z)<|Qz Z Z (Qv QN Z Z Z Z (DM Z) Z)<|Q3<|Q4<|Q0<|DE Z Z Z<|DD Z Z Z (Q2 Yb Z)<|DD Z Z Z (Q5 JT Z Z Z)<|DD Z Z Z (Qk Jg Z Z Z Z) ?_
  refine Qd h1 (fun y10 h2 h1=>?_)
  have ha11:ExecOK Try.prog (some 9) Zj ⟨[(0,.v (.one (.ptr 0 0))),(2,.v (.one (.mp 2))),(4,.v (.one (.ptr 3 0))),(6,.v (.one (.ptr 5 0))),(23,.v (.one (.fn 49 [(7,0),(6,0)]))),(24,.v (.one (Jl a0.name))),(25,.v (.agg [DW x9,DW (a1.length:Int),DW 0,DW a0.params,DW a0.ty.kind,DW a0.ty.index,Jl a0.ty.name,DU a0.ty.levels,DU a0.ty.kids]))],m47f10_h8 a1 a2 a3 a0 x9,[(11,some ⟨3,1,(Enc.encL ([0,1,2]:List Int)).length,[]⟩)],12,99,[]⟩ .normal ⟨[(6,.v (.one (.ptr 5 0))),(7,.v (.one (Jl a0.name))),(8,.v (.one (.ptr 12 0)))],m47f10_h11 a1 a2 a3 a0 x9,[(11,some ⟨3,1,(Enc.encL ([0,1,2]:List Int)).length,[]⟩)],13,99,[]⟩:=by
   refine QK (fun w0 M V0 ro n Q hv2 hro2 hQn2=>?_)
   refine Q6<|Q0<|DF Z Z Z<|Q3<|Q4<|Q0<|Q9 Z Z (DM Z) (Ql YZ Z)<|Qz Z Z (Qv Jg Z Z Z Z (DM Z) Z)<|Q3 ?_
   exact Jw hQn2 (QH (Dz Z) (hA Z) (DO Z) Z (Nat.le_trans hv2 (DM Z)) Z Z Z (bB Z Z (bG Z (bG Z (bB Z Z (bG Z (bA Z)))))) Z Z)
  have hb12:ExecOK Try.prog (some 9) Zi ⟨[(6,.v (.one (.ptr 5 0))),(7,.v (.one (Jl a0.name))),(8,.v (.one (.ptr 12 0)))],m47f10_h10 a1 a2 a3 a0 x9,[(11,some ⟨3,1,(Enc.encL ([0,1,2]:List Int)).length,[]⟩)],13,99,[]⟩ .normal ⟨[],m47f10_h13 a1 a2 a3 a0 x9,[(11,some ⟨3,1,(Enc.encL ([0,1,2]:List Int)).length,[]⟩)],13,99,[]⟩:=by
   refine QK (fun w0 M V0 ro n Q hv2 hro2 hQn2=>?_)
   refine Qh<|Q0<|DD Z Z Z (Q5 Yp Z Z Z)<|DE Z Z Z<|DD Z Z Z (Qk Jg Z Z Z Z)<|Qz Z Z (Jk (M:=gmNil) (k:=a0.name) (v:=(⟨x9,(a1.length:Int),0,a0.params,a0.ty⟩:Ent)) YG Z Z Z Z Z)<|Q3<|Qf ?_
   have e:=DB h2;subst e
   exact Jw hQn2 (QH Dy (hA Z) (DO Z) Z (Nat.le_trans hv2 (DM Z)) Z Z Z (bB Z Z (bG Z (bG Z (bB Z Z (bG Z (bA Z)))))) Z Z)
  refine Q9 Z Z (DM Z) (Jd (jump:=none) Z Z Z Z Z (Qw ha11 (fun E hv=>(QH (Dz Z) (hA Z) (DO Z) Z (Nat.le_trans hv (DM Z)) Z Z Z (bB Z Z (bG Z (bG Z (bB Z Z (bG Z (bA Z)))))) Z Z))) Z (Qw hb12 (fun E hv=>(QH (Dz Z) (hA Z) (DO Z) Z (Nat.le_trans hv (DM Z)) Z Z Z (bB Z Z (bG Z (bG Z (bB Z Z (bG Z (bA Z)))))) Z Z))) Z Z) ?_
  refine Q3<|Qf ?_
  have e:=DB h1;subst e
  exact hQ1 _ _ _ (.inl Z) Z (QH Dy (hA Z) DN Z (Nat.le_trans hv1 (DM Z)) Z Z Z (bB Z Z (bG Z (bG Z (bB Z Z (bG Z (bA Z)))))) Z Z)
  replace h1:=Qj c8 h1
  refine Q6<|Q0<|DD Z Z Z (Q8 Z Z Z)<|DF Z Z Z<|Q3<|Q4 ?_
  refine Qg (b:=(a0.kind==3)) Z (fun c13=>?_) (fun c13=>?_)
  replace h1:=Qi c13 h1
  refine Q6<|Q0<|DD Z Z Z (Q2 YW Z)<|Qz Z Z (Qv QN Z Z Z Z (DM Z) Z)<|Q3<|Q4<|Q6<|Q6<|Q0<|DE Z Z Z<|DD Z Z Z (Q2 Yb Z)<|DD Z Z Z (Q5 JT Z Z Z)<|DD Z Z Z (Qk Jg Z Z Z Z) ?_
  refine Qd h1 (fun y14 h2 h1=>?_)
  have ha15:ExecOK Try.prog (some 9) Zj ⟨[(0,.v (.one (.ptr 0 0))),(2,.v (.one (.mp 2))),(4,.v (.one (.ptr 3 0))),(6,.v (.one (.ptr 5 0))),(23,.v (.one (.fn 49 [(7,0),(6,0)]))),(24,.v (.one (Jl a0.name))),(25,.v (.agg [DW 3,DW (a1.length:Int),DW 0,DW a0.params,DW a0.ty.kind,DW a0.ty.index,Jl a0.ty.name,DU a0.ty.levels,DU a0.ty.kids]))],m47f10_h15 a1 a2 a3 a0,[],11,99,[]⟩ .normal ⟨[(6,.v (.one (.ptr 5 0))),(7,.v (.one (Jl a0.name))),(8,.v (.one (.ptr 11 0)))],m47f10_h17 a1 a2 a3 a0,[],12,99,[]⟩:=by
   refine QK (fun w0 M V0 ro n Q hv2 hro2 hQn2=>?_)
   refine Q6<|Q0<|DF Z Z Z<|Q3<|Q4<|Q0<|Q9 Z Z (DM Z) (Ql YZ Z)<|Qz Z Z (Qv Jg Z Z Z Z (DM Z) Z)<|Q3 ?_
   exact Jw hQn2 (QH (Dz Z) (hA Z) DN Z (Nat.le_trans hv2 (DM Z)) Z Z Z (bB Z Z (bG Z (bG Z (bB Z Z (bG Z (bA Z)))))) Z Z)
  have hb16:ExecOK Try.prog (some 9) Zi ⟨[(6,.v (.one (.ptr 5 0))),(7,.v (.one (Jl a0.name))),(8,.v (.one (.ptr 11 0)))],m47f10_h16 a1 a2 a3 a0,[],12,99,[]⟩ .normal ⟨[],m47f10_h19 a1 a2 a3 a0,[],12,99,[]⟩:=by
   refine QK (fun w0 M V0 ro n Q hv2 hro2 hQn2=>?_)
   refine Qh<|Q0<|DD Z Z Z (Q5 Yp Z Z Z)<|DE Z Z Z<|DD Z Z Z (Qk Jg Z Z Z Z)<|Qz Z Z (Jk (M:=gmNil) (k:=a0.name) (v:=(⟨3,(a1.length:Int),0,a0.params,a0.ty⟩:Ent)) YG Z Z Z Z Z)<|Q3<|Qf ?_
   have e:=DB h2;subst e
   exact Jw hQn2 (QH Dy (hA Z) DN Z (Nat.le_trans hv2 (DM Z)) Z Z Z (bB Z Z (bG Z (bG Z (bB Z Z (bG Z (bA Z)))))) Z Z)
  refine Q9 Z Z (DM Z) (Jd (jump:=none) Z Z Z Z Z (Qw ha15 (fun E hv=>(QH (Dz Z) (hA Z) DN Z (Nat.le_trans hv (DM Z)) Z Z Z (bB Z Z (bG Z (bG Z (bB Z Z (bG Z (bA Z)))))) Z Z))) Z (Qw hb16 (fun E hv=>(QH (Dz Z) (hA Z) DN Z (Nat.le_trans hv (DM Z)) Z Z Z (bB Z Z (bG Z (bG Z (bB Z Z (bG Z (bA Z)))))) Z Z))) Z Z) ?_
  refine DD Z Z Z (Jj Z)<|Q3<|Q4 ?_
  refine Qg Z (fun h=>nomatch h) (fun _=>?_)
  refine Qn<|Q4<|Q6<|Q6<|Q0<|DD Z Z Z (Q2 Yz Z)<|DD Z Z Z (Q5 ZY Z Z Z)<|DD Z Z Z (QD (α:=Ctr) YL Z (.d _))<|DE Z Z Z<|Q3<|Q4<|Qh ?_
  refine J2 1 (fun (o17:(Qc Bs Ent))=>⟨[(0,.v (.one (.yld 9))),(1,.v (.one (.ptr 7 0))),(2,.v (.one (.ptr 6 0)))],[(0,.cells 62 [DU a1,.mp 1]),(1,.mp (QT a2.1) a2.2),(2,.mp (QT a3.1) a3.2),(3,.cells 45 (DZ a0)),(4,.mp (QT o17.1) o17.2),(5,.cells 60 [.mp 4]),(6,.cells 45 (DZ a0)),(7,.cells 3 [DW (a1.length:Int)]),(8,.obj (.deferred (some []))),(9,JP),(10,JH a1 a0)],[],12,98,[]⟩) (fun (o17:(Qc Bs Ent))=>(m47f10_k1 a0 o17 a1)=some y3) ?_ ?_
  refine Qd h1 (fun o18 hl2 h1=>?_)
  refine J1 (m47f10_l0 a0 a1) (fun s2=>⟨[(0,.v (.one (.yld 9))),(1,.v (.one (.ptr 7 0))),(2,.v (.one (.ptr 6 0))),(42,.v (.one (DU a0.ctors))),(43,.v (.one (DW (a0.ctors.length:Int)))),(44,.v (.one (DW s2.1)))],[(0,.cells 62 [DU a1,.mp 1]),(1,.mp (QT a2.1) a2.2),(2,.mp (QT a3.1) a3.2),(3,.cells 45 (DZ a0)),(4,.mp (QT s2.2.1) s2.2.2),(5,.cells 60 [.mp 4]),(6,.cells 45 (DZ a0)),(7,.cells 3 [DW (a1.length:Int)]),(8,.obj (.deferred (some []))),(9,JP),(10,JH a1 a0)],[],12,98,[]⟩) (0,(J3 gmNil a0.name (⟨3,(a1.length:Int),0,a0.params,a0.ty⟩:Ent))) o18 (QH (Dz Z) (hA Z) DN Z (Nat.le_trans hv1 (DM Z)) Z Z Z (bB Z Z (bG Z (bG Z (bB Z Z (bG Z (bA Z)))))) Z Z) hl2 (fun s2 n2 oo2 h2 ho2=>?_)
  unfold m47f10_l0 at h2
  refine Q6<|Q0<|DD Z Z Z (Q8 Z Z Z)<|Q3<|Q4<|Q6 ?_
  refine Qg (b:=(decide (s2.1 < (a0.ctors.length:Int)))) Z (fun c19=>?_) (fun c19=>?_)
  replace h2:=Qi c19 h2
  refine Qn<|Q4<|Q6<|Qh<|Q6<|Q0<|DE Z Z Z ?_
  refine Qd h2 (fun x20 hx20 h2=>?_)
  refine DD Z Z Z (Qy (α:=Ctr) YL Z (.d _) Z hx20)<|DD Z Z Z (Qt (x20:Ctr) K5 Z)<|Q9 Z Z (DM Z) (Ql U9 Z)<|DF Z Z Z<|Qz Z Z (QC (x20:Ctr) K5 Z Z Z Z Z)<|Q3<|Q4<|Q6<|Q0<|DE Z Z Z<|DD Z Z Z (Q2 KT Z)<|DD Z Z Z (Q5 JT Z Z Z)<|DD Z Z Z (Q5 QN Z Z Z)<|DE Z Z Z ?_
  refine DD Z Z Z (Q2 Ya Z)<|DD Z Z Z (Q5 QN Z Z Z)<|DD Z Z Z (Q2 KS Z)<|DD Z Z Z (Qk QX Z Z Z Z)<|DD Z Z Z (JR ZX Z (.cons Z (.cons Z (.cons Z (.cons Z (.cons Z .nil))))) Z) ?_
  refine Qd h2 (fun y21 h3 h2=>?_)
  have ha22:ExecOK Try.prog (some 9) Zj ⟨[(0,.v (.one (.ptr 0 0))),(2,.v (.one (.mp 2))),(4,.v (.one (.ptr 3 0))),(6,.v (.one (.ptr 5 0))),(23,.v (.one (.fn 49 [(7,0),(6,0)]))),(24,.v (.one (Jl x20.name))),(25,.v (.agg [DW 4,DW (a1.length:Int),DW s2.1,DW a0.params,DW x20.ty.kind,DW x20.ty.index,Jl x20.ty.name,DU x20.ty.levels,DU x20.ty.kids]))],m47f10_h20 a1 a2 a3 a0 s2 x20,[],13,99,[]⟩ .normal ⟨[(6,.v (.one (.ptr 5 0))),(7,.v (.one (Jl x20.name))),(8,.v (.one (.ptr 13 0)))],m47f10_h23 a1 a2 a3 a0 s2 x20,[],14,99,[]⟩:=by
   refine QK (fun w0 M V0 ro n Q hv3 hro3 hQn3=>?_)
   refine Q6<|Q0<|DF Z Z Z<|Q3<|Q4<|Q0<|Q9 Z Z (DM Z) (Ql YZ Z)<|Qz Z Z (Qv Jg Z Z Z Z (DM Z) Z)<|Q3 ?_
   exact Jw hQn3 (QH (Dz Z) (hA Z) DN Z (Nat.le_trans hv3 (DM Z)) Z Z Z (bB Z Z (bG Z (bG Z (bB Z Z (bG Z (bA Z)))))) Z Z)
  have hb23:ExecOK Try.prog (some 9) Zi ⟨[(6,.v (.one (.ptr 5 0))),(7,.v (.one (Jl x20.name))),(8,.v (.one (.ptr 13 0)))],m47f10_h22 a1 a2 a3 a0 s2 x20,[],14,99,[]⟩ .normal ⟨[],m47f10_h25 a1 a2 a3 a0 s2 x20,[],14,99,[]⟩:=by
   refine QK (fun w0 M V0 ro n Q hv3 hro3 hQn3=>?_)
   refine Qh<|Q0<|DD Z Z Z (Q5 Yp Z Z Z)<|DE Z Z Z<|DD Z Z Z (Qk Jg Z Z Z Z)<|Qz Z Z (Jk (M:=s2.2) (k:=x20.name) (v:=(⟨4,(a1.length:Int),s2.1,a0.params,x20.ty⟩:Ent)) YG Z Z Z Z Z)<|Q3<|Qf ?_
   have e:=DB h3;subst e
   exact Jw hQn3 (QH Dy (hA Z) DN Z (Nat.le_trans hv3 (DM Z)) Z Z Z (bB Z Z (bG Z (bG Z (bB Z Z (bG Z (bA Z)))))) Z Z)
  refine Q9 Z Z (DM Z) (Jd (jump:=none) Z Z Z Z Z (Qw ha22 (fun E hv=>(QH (Dz Z) (hA Z) DN Z (Nat.le_trans hv (DM Z)) Z Z Z (bB Z Z (bG Z (bG Z (bB Z Z (bG Z (bA Z)))))) Z Z))) Z (Qw hb23 (fun E hv=>(QH (Dz Z) (hA Z) DN Z (Nat.le_trans hv (DM Z)) Z Z Z (bB Z Z (bG Z (bG Z (bB Z Z (bG Z (bA Z)))))) Z Z))) Z Z) ?_
  refine DD Z Z Z (Jj Z)<|Q3<|Q4 ?_
  refine Qg Z (fun h=>nomatch h) (fun _=>?_)
  refine Qn<|Qf<|Q4<|Q0<|DD Z Z Z (Q8 Z Z Z)<|DE Z Z Z<|Q3 ?_
  have e:=DB h2;subst e
  refine QW ((Ja (s2.1+1)),(J3 s2.2 x20.name (⟨4,(a1.length:Int),s2.1,a0.params,x20.ty⟩:Ent))) (QH (Dz Z) (hA Z) DN Z (Nat.le_trans hv1 (DM Z)) Z Z Z (bB Z Z (bG Z (bG Z (bB Z Z (bG Z (bA Z)))))) Z Z) ho2
  replace h2:=Qj c19 h2
  refine J8<|Qr<|Qr ?_
  have e:=DB h2;subst e
  have e_:_=_:=ho2
  subst e_
  exact J0 s2.2 (QH (Dz Z) (hA Z) DN Z (Nat.le_trans hv1 (DM Z)) Z Z Z (bB Z Z (bG Z (bG Z (bB Z Z (bG Z (bA Z)))))) Z Z) h1
  intro o17 h1
  unfold m47f10_k1 at h1
  refine QQ<|Q4<|Q0<|DE Z Z Z<|DD Z Z Z (Q2 Yb Z)<|DD Z Z Z (Q5 JT Z Z Z) ?_
  refine YI h1 (fun g24 h1=>?_)
  refine DD Z Z Z (Xj Z Z g24)<|DD Z Z Z (Q5 QN Z Z Z)<|DD Z Z Z (Q2 JU Z)<|DD Z Z Z (Q2 KV Z)<|DD Z Z Z (Q5 QN Z Z Z)<|DD Z Z Z (Q2 JU Z)<|DD Z Z Z (Q2 GF Z)<|DD Z Z Z (Qk QX Z Z Z Z)<|DD Z Z Z (JR ZX Z (.cons Z (.cons Z (.cons Z (.cons Z .nil)))) Z) ?_
  refine Qd h1 (fun y25 h2 h1=>?_)
  have ha26:ExecOK Try.prog (some 9) Zj ⟨[(0,.v (.one (.ptr 0 0))),(2,.v (.one (.mp 2))),(4,.v (.one (.ptr 3 0))),(6,.v (.one (.ptr 5 0))),(23,.v (.one (.fn 49 [(7,0),(6,0)]))),(24,.v (.one (Jl (a0.name++([46,114,101,99]:List UInt8))))),(25,.v (.agg [DW 5,DW (a1.length:Int),DW 0,DW a0.rcr.params,DW a0.rcr.ty.kind,DW a0.rcr.ty.index,Jl a0.rcr.ty.name,DU a0.rcr.ty.levels,DU a0.rcr.ty.kids]))],m47f10_h26 a1 a2 a3 a0 o17,[],12,99,[]⟩ .normal ⟨[(6,.v (.one (.ptr 5 0))),(7,.v (.one (Jl (a0.name++([46,114,101,99]:List UInt8))))),(8,.v (.one (.ptr 12 0)))],m47f10_h29 a1 a2 a3 a0 o17,[],13,99,[]⟩:=by
   refine QK (fun w0 M V0 ro n Q hv2 hro2 hQn2=>?_)
   refine Q6<|Q0<|DF Z Z Z<|Q3<|Q4<|Q0<|Q9 Z Z (DM Z) (Ql YZ Z)<|Qz Z Z (Qv Jg Z Z Z Z (DM Z) Z)<|Q3 ?_
   exact Jw hQn2 (QH (Dz Z) (hA Z) DN Z (Nat.le_trans hv2 (DM Z)) Z Z Z (bB Z Z (bG Z (bG Z (bB Z Z (bG Z (bA Z)))))) Z Z)
  have hb27:ExecOK Try.prog (some 9) Zi ⟨[(6,.v (.one (.ptr 5 0))),(7,.v (.one (Jl (a0.name++([46,114,101,99]:List UInt8))))),(8,.v (.one (.ptr 12 0)))],m47f10_h28 a1 a2 a3 a0 o17,[],13,99,[]⟩ .normal ⟨[],m47f10_h31 a1 a2 a3 a0 o17,[],13,99,[]⟩:=by
   refine QK (fun w0 M V0 ro n Q hv2 hro2 hQn2=>?_)
   refine Qh<|Q0<|DD Z Z Z (Q5 Yp Z Z Z)<|DE Z Z Z<|DD Z Z Z (Qk Jg Z Z Z Z)<|Qz Z Z (Jk (M:=o17) (k:=(a0.name++([46,114,101,99]:List UInt8))) (v:=(⟨5,(a1.length:Int),0,a0.rcr.params,a0.rcr.ty⟩:Ent)) YG Z Z Z Z Z)<|Q3<|Qf ?_
   have e:=DB h2;subst e
   exact Jw hQn2 (QH Dy (hA Z) DN Z (Nat.le_trans hv2 (DM Z)) Z Z Z (bB Z Z (bG Z (bG Z (bB Z Z (bG Z (bA Z)))))) Z Z)
  refine Q9 Z Z (DM Z) (Jd (jump:=none) Z Z Z Z Z (Qw ha26 (fun E hv=>(QH (Dz Z) (hA Z) DN Z (Nat.le_trans hv (DM Z)) Z Z Z (bB Z Z (bG Z (bG Z (bB Z Z (bG Z (bA Z)))))) Z Z))) Z (Qw hb27 (fun E hv=>(QH (Dz Z) (hA Z) DN Z (Nat.le_trans hv (DM Z)) Z Z Z (bB Z Z (bG Z (bG Z (bB Z Z (bG Z (bA Z)))))) Z Z))) Z Z) ?_
  refine Q3<|Qf ?_
  have e:=DB h1;subst e
  exact hQ1 _ _ _ (.inl Z) Z (QH Dy (hA Z) DN Z (Nat.le_trans hv1 (DM Z)) Z Z Z (bB Z Z (bG Z (bG Z (bB Z Z (bG Z (bA Z)))))) Z Z)
  replace h1:=Qj c13 h1
  refine Q6<|Q0<|DD Z Z Z (Q8 Z Z Z)<|DF Z Z Z<|Q3<|Q4 ?_
  refine Qg (b:=(a0.kind==4)) Z (fun c28=>?_) (fun c28=>?_)
  replace h1:=Qi c28 h1
  refine Q6<|Q0<|DD Z Z Z (Q2 YF Z)<|DD Z Z Z (Q5 K6 Z Z Z)<|DD Z Z Z (QD (α:=Fn) YT Z (.d _))<|DE Z Z Z<|Q3<|Q4<|Qh ?_
  refine J2 3 (fun (o29:(Qc Bs Ent))=>⟨[],[(0,.cells 62 [DU a1,.mp 1]),(1,.mp (QT a2.1) a2.2),(2,.mp (QT a3.1) a3.2),(3,.cells 45 (DZ a0)),(4,.mp (QT o29.1) o29.2),(5,.cells 60 [.mp 4]),(6,.cells 45 (DZ a0)),(7,.cells 3 [DW (a1.length:Int)]),(8,.obj (.deferred (some []))),(9,JP),(10,ZK a1 a0)],[],11,98,[]⟩) (fun (o29:(Qc Bs Ent))=>(some o29)=some y3) ?_ ?_
  refine Qd h1 (fun o30 hl2 h1=>?_)
  refine J1 (m47f10_l2 a0 a1) (fun s2=>⟨[(0,.v (.one (.yld 9))),(1,.v (.one (.ptr 7 0))),(2,.v (.one (.ptr 6 0))),(78,.v (.one (DU a0.funs))),(79,.v (.one (DW (a0.funs.length:Int)))),(80,.v (.one (DW s2.1)))],[(0,.cells 62 [DU a1,.mp 1]),(1,.mp (QT a2.1) a2.2),(2,.mp (QT a3.1) a3.2),(3,.cells 45 (DZ a0)),(4,.mp (QT s2.2.1) s2.2.2),(5,.cells 60 [.mp 4]),(6,.cells 45 (DZ a0)),(7,.cells 3 [DW (a1.length:Int)]),(8,.obj (.deferred (some []))),(9,JP),(10,ZK a1 a0)],[],11,98,[]⟩) (0,gmNil) o30 (QH (Dz Z) (hA Z) DN Z (Nat.le_trans hv1 (DM Z)) Z Z Z (bB Z Z (bG Z (bG Z (bB Z Z (bG Z (bA Z)))))) Z Z) hl2 (fun s2 n2 oo2 h2 ho2=>?_)
  unfold m47f10_l2 at h2
  refine Q6<|Q0<|DD Z Z Z (Q8 Z Z Z)<|Q3<|Q4<|Q6 ?_
  refine Qg (b:=(decide (s2.1 < (a0.funs.length:Int)))) Z (fun c31=>?_) (fun c31=>?_)
  replace h2:=Qi c31 h2
  refine Qn<|Q4<|Q6<|Qh<|Q6<|Q0<|DE Z Z Z ?_
  refine Qd h2 (fun x32 hx32 h2=>?_)
  refine DD Z Z Z (Qy (α:=Fn) YT Z (.d _) Z hx32)<|DD Z Z Z (Qt (x32:Fn) K4 Z)<|Q9 Z Z (DM Z) (Ql Ue Z)<|DF Z Z Z<|Qz Z Z (QC (x32:Fn) K4 Z Z Z Z Z)<|Q3<|Q4<|Q6<|Q0<|DE Z Z Z<|DD Z Z Z (Q2 Xh Z)<|DD Z Z Z (Q5 JT Z Z Z)<|DD Z Z Z (Q5 QN Z Z Z)<|DE Z Z Z ?_
  refine DD Z Z Z (Q2 Ya Z)<|DD Z Z Z (Q5 QN Z Z Z)<|DD Z Z Z (Q2 Xg Z)<|DD Z Z Z (Qk QX Z Z Z Z)<|DD Z Z Z (JR ZX Z (.cons Z (.cons Z (.cons Z (.cons Z (.cons Z .nil))))) Z) ?_
  refine Qd h2 (fun y33 h3 h2=>?_)
  have ha34:ExecOK Try.prog (some 9) Zj ⟨[(0,.v (.one (.ptr 0 0))),(2,.v (.one (.mp 2))),(4,.v (.one (.ptr 3 0))),(6,.v (.one (.ptr 5 0))),(23,.v (.one (.fn 49 [(7,0),(6,0)]))),(24,.v (.one (Jl x32.name))),(25,.v (.agg [DW 6,DW (a1.length:Int),DW s2.1,DW a0.params,DW x32.ty.kind,DW x32.ty.index,Jl x32.ty.name,DU x32.ty.levels,DU x32.ty.kids]))],m47f10_h32 a1 a2 a3 a0 s2 x32,[],12,99,[]⟩ .normal ⟨[(6,.v (.one (.ptr 5 0))),(7,.v (.one (Jl x32.name))),(8,.v (.one (.ptr 12 0)))],m47f10_h35 a1 a2 a3 a0 s2 x32,[],13,99,[]⟩:=by
   refine QK (fun w0 M V0 ro n Q hv3 hro3 hQn3=>?_)
   refine Q6<|Q0<|DF Z Z Z<|Q3<|Q4<|Q0<|Q9 Z Z (DM Z) (Ql YZ Z)<|Qz Z Z (Qv Jg Z Z Z Z (DM Z) Z)<|Q3 ?_
   exact Jw hQn3 (QH (Dz Z) (hA Z) DN Z (Nat.le_trans hv3 (DM Z)) Z Z Z (bB Z Z (bG Z (bG Z (bB Z Z (bG Z (bA Z)))))) Z Z)
  have hb35:ExecOK Try.prog (some 9) Zi ⟨[(6,.v (.one (.ptr 5 0))),(7,.v (.one (Jl x32.name))),(8,.v (.one (.ptr 12 0)))],m47f10_h34 a1 a2 a3 a0 s2 x32,[],13,99,[]⟩ .normal ⟨[],m47f10_h37 a1 a2 a3 a0 s2 x32,[],13,99,[]⟩:=by
   refine QK (fun w0 M V0 ro n Q hv3 hro3 hQn3=>?_)
   refine Qh<|Q0<|DD Z Z Z (Q5 Yp Z Z Z)<|DE Z Z Z<|DD Z Z Z (Qk Jg Z Z Z Z)<|Qz Z Z (Jk (M:=s2.2) (k:=x32.name) (v:=(⟨6,(a1.length:Int),s2.1,a0.params,x32.ty⟩:Ent)) YG Z Z Z Z Z)<|Q3<|Qf ?_
   have e:=DB h3;subst e
   exact Jw hQn3 (QH Dy (hA Z) DN Z (Nat.le_trans hv3 (DM Z)) Z Z Z (bB Z Z (bG Z (bG Z (bB Z Z (bG Z (bA Z)))))) Z Z)
  refine Q9 Z Z (DM Z) (Jd (jump:=none) Z Z Z Z Z (Qw ha34 (fun E hv=>(QH (Dz Z) (hA Z) DN Z (Nat.le_trans hv (DM Z)) Z Z Z (bB Z Z (bG Z (bG Z (bB Z Z (bG Z (bA Z)))))) Z Z))) Z (Qw hb35 (fun E hv=>(QH (Dz Z) (hA Z) DN Z (Nat.le_trans hv (DM Z)) Z Z Z (bB Z Z (bG Z (bG Z (bB Z Z (bG Z (bA Z)))))) Z Z))) Z Z) ?_
  refine DD Z Z Z (Jj Z)<|Q3<|Q4 ?_
  refine Qg Z (fun h=>nomatch h) (fun _=>?_)
  refine Qn<|Qf<|Q4<|Q0<|DD Z Z Z (Q8 Z Z Z)<|DE Z Z Z<|Q3 ?_
  have e:=DB h2;subst e
  refine QW ((Ja (s2.1+1)),(J3 s2.2 x32.name (⟨6,(a1.length:Int),s2.1,a0.params,x32.ty⟩:Ent))) (QH (Dz Z) (hA Z) DN Z (Nat.le_trans hv1 (DM Z)) Z Z Z (bB Z Z (bG Z (bG Z (bB Z Z (bG Z (bA Z)))))) Z Z) ho2
  replace h2:=Qj c31 h2
  refine J8<|Qr<|Qr ?_
  have e:=DB h2;subst e
  have e_:_=_:=ho2
  subst e_
  exact J0 s2.2 (QH Dy (hA Z) DN Z (Nat.le_trans hv1 (DM Z)) Z Z Z (bB Z Z (bG Z (bG Z (bB Z Z (bG Z (bA Z)))))) Z Z) h1
  intro o29 h1
  refine QQ<|Qf ?_
  have e:=DB h1;subst e
  exact hQ1 _ _ _ (.inl Z) Z (QH Dy (hA Z) DN Z (Nat.le_trans hv1 (DM Z)) Z Z Z (bB Z Z (bG Z (bG Z (bB Z Z (bG Z (bA Z)))))) Z Z)
  replace h1:=Qj c28 h1
  refine Qn<|Qf ?_
  have e:=DB h1;subst e
  exact hQ1 _ _ _ (.inl Z) Z (QH Dy (hA Z) DN Z (Nat.le_trans hv1 (DM Z)) Z Z Z (bB Z Z (bG Z (bG Z (bB Z Z (bG Z (bA Z)))))) Z Z)
 refine Kb (Yi (e:=.normal) rfl hc4 rfl rfl (by intro h;cases h) rfl) rfl ?_
 refine Qf<|Q4<|Q6<|Q0<|DE Z Z Z<|DD Z Z Z (Q2 Yb Z)<|DD Z Z Z (Q5 JT Z Z Z)<|DD Z Z Z (Q5 Yp Z Z Z)<|DD Z Z Z (Q2 Yb Z)<|DD Z Z Z (Q5 JT Z Z Z)<|DD Z Z Z (RO.lookupGF (M:=y3) (k:=a0.name) YG K7 Z Z Z)<|Qz Z Z (Jk (M:=a3) (k:=a0.name) (v:=(⟨(Qm y3 a0.name).kind,(Qm y3 a0.name).decl,(Qm y3 a0.name).item,(Qm y3 a0.name).params,((Qm y3 a0.name).ty)⟩:Ent)) YG Z Z Z Z Z)<|Q3<|Q4 ?_
 refine Q6<|Q6<|Q0<|DD Z Z Z (Q2 Yz Z)<|DD Z Z Z (Q5 ZY Z Z Z)<|DD Z Z Z (QD (α:=Ctr) YL Z (.d _))<|DE Z Z Z<|Q3<|Q4<|Qh ?_
 refine J2 2 (fun (o36:Unit)=>⟨[(0,.v (.one (.ptr 0 0))),(2,.v (.one (.mp 2))),(4,.v (.one (.ptr 3 0))),(6,.v (.one (.ptr 5 0)))],m47f10_h39 a1 a2 a3 a0 y3,[],11,99,[]⟩) (fun (o36:Unit)=>(Kg a0 y3 a3 a1 a2)=some r) ?_ ?_
 refine Qd h0 (fun o37 hl1 h0=>?_)
 refine J1 (Kf a0 a1 a2 a3 y3) (fun s1=>⟨[(0,.v (.one (.ptr 0 0))),(2,.v (.one (.mp 2))),(4,.v (.one (.ptr 3 0))),(6,.v (.one (.ptr 5 0))),(37,.v (.one (DU a0.ctors))),(38,.v (.one (DW (a0.ctors.length:Int)))),(39,.v (.one (DW s1)))],m47f10_h39 a1 a2 a3 a0 y3,[],11,99,[]⟩) 0 o37 (QH (Dz Z) (hA Z) DN Z (Nat.le_trans hv0 (DM Z)) Z Z Z (bB Z Z (bG Z (bG Z (bB Z Z (bG Z (bA Z)))))) Z Z) hl1 (fun s1 n1 oo1 h1 ho1=>?_)
 unfold Kf at h1
 refine Q6<|Q0<|DD Z Z Z (Q8 Z Z Z)<|Q3<|Q4<|Q6 ?_
 refine Qg (b:=(decide (s1 < (a0.ctors.length:Int)))) Z (fun c38=>?_) (fun c38=>?_)
 replace h1:=Qi c38 h1
 refine Qn<|Q4<|Q6<|Qh<|Q6<|Q0 ?_
 refine Qd h1 (fun x39 hx39 h1=>?_)
 refine DD Z Z Z (Qy (α:=Ctr) YL Z (.d _) Z hx39)<|DD Z Z Z (Qt (x39:Ctr) K5 Z)<|Q9 Z Z (DM Z) (Ql U9 Z)<|Qz Z Z (QC (x39:Ctr) K5 Z Z Z Z Z)<|Q3<|Q4<|Q0<|DE Z Z Z<|DD Z Z Z (Q2 KS Z)<|DD Z Z Z (Qk QX Z Z Z Z)<|DD Z Z Z (Q2 Ya Z)<|DD Z Z Z (Q5 QN Z Z Z)<|DE Z Z Z ?_
 refine Qd h1 (fun x40 hx40 h1=>?_)
 refine JL id hx40 h1 (fun x41 hx41 h1=>?_) (fun x42 hx42 h1=>?_)
 refine Q9 Z Z (DM Z) (Jp (hp1':=[(0,.cells 62 [DU a1,.mp 1]),(1,.mp (QT a2.1) a2.2),(2,.mp (QT ((J3 a3 a0.name (⟨(Qm y3 a0.name).kind,(Qm y3 a0.name).decl,(Qm y3 a0.name).item,(Qm y3 a0.name).params,((Qm y3 a0.name).ty)⟩:Ent)):Qc Bs Ent).1) ((J3 a3 a0.name (⟨(Qm y3 a0.name).kind,(Qm y3 a0.name).decl,(Qm y3 a0.name).item,(Qm y3 a0.name).params,((Qm y3 a0.name).ty)⟩:Ent)):Qc Bs Ent).2)]) (tk1':=[]) (hpF:=m47f10_h40 a0 y3 a1 x39) (tkF:=[]) (res2:=QP []) (nx2:=20) [0,1,2] Z Z (CallE.m (Yw x39.ty 0 a0.params a1 a2 (J3 a3 a0.name (⟨(Qm y3 a0.name).kind,(Qm y3 a0.name).decl,(Qm y3 a0.name).item,(Qm y3 a0.name).params,((Qm y3 a0.name).ty)⟩:Ent)) (.inl x41) hx41)) Z Z (DI Z Z (DH Z (DH Z DG))) Z Z (DS Z (DT Z (DT Z DR))) DP (hA Z) DN Z Z Z Z Z (bB Z Z (bG Z (bG Z bZ))) Z Z Z Z)<|Q3<|Qf<|Q4<|Q0<|DD Z Z Z (Q8 Z Z Z)<|DE Z Z Z<|Q3 ?_
 have e:=DB h1;subst e
 refine QW (Ja (s1+1)) (QH (Dz Z) (hA Z) DN Z (Nat.le_trans hv0 (DM Z)) Z Z Z (bB Z Z (bG Z (bG Z (bB Z Z (bG Z (bA Z)))))) Z Z) ho1
 refine J6 Z (Yl (hp1':=[(0,.cells 62 [DU a1,.mp 1]),(1,.mp (QT a2.1) a2.2),(2,.mp (QT ((J3 a3 a0.name (⟨(Qm y3 a0.name).kind,(Qm y3 a0.name).decl,(Qm y3 a0.name).item,(Qm y3 a0.name).params,((Qm y3 a0.name).ty)⟩:Ent)):Qc Bs Ent).1) ((J3 a3 a0.name (⟨(Qm y3 a0.name).kind,(Qm y3 a0.name).decl,(Qm y3 a0.name).item,(Qm y3 a0.name).params,((Qm y3 a0.name).ty)⟩:Ent)):Qc Bs Ent).2)]) (tk1':=[]) (hpF:=m47f10_h40 a0 y3 a1 x39) (tkF:=[]) (nx2:=15) [0,1,2] Z Z (CallE.d (Yw x39.ty 0 a0.params a1 a2 (J3 a3 a0.name (⟨(Qm y3 a0.name).kind,(Qm y3 a0.name).decl,(Qm y3 a0.name).item,(Qm y3 a0.name).params,((Qm y3 a0.name).ty)⟩:Ent)) (.inr x42) hx42)) Z Z (DI Z Z (DH Z (DH Z DG))) Z (DS Z (DT Z (DT Z DR))) DP (hA Z) DN Z Z Z Z Z (bB Z Z (bG Z (bG Z bZ))) Z Z Z Z) ?_
 have e:=DB h1;subst e
 have e_:_=_:=ho1
 subst e_
 try dsimp only [Sum.elim_inl,Sum.elim_inr] at h0
 have e:=DB h0;subst e
 exact Ji (hQ0 (.panic (Jr (QG 90 x42))) _ ZC Z (show StLe _ _ ⟨[],m47f10_h41 a1 a2 a3 a0 y3,[],14,99,[]⟩ from (QH Dy (hA Z) DN Z (Nat.le_trans hv0 (DM Z)) Z Z Z (bB Z Z (bG Z (bG Z bZ))) Z Z))) (fun _ _ h=>h)
 replace h1:=Qj c38 h1
 refine J8<|Qr<|Qr ?_
 have e:=DB h1;subst e
 have e_:_=_:=ho1
 subst e_
 exact J0 () (QH (Dz Z) (hA Z) DN Z (Nat.le_trans hv0 (DM Z)) Z Z Z (bB Z Z (bG Z (bG Z (bB Z Z (bG Z (bA Z)))))) Z Z) h0
 intro o36 h0
 unfold Kg at h0
 refine QQ<|Q4<|Q6<|Q6<|Q0<|DD Z Z Z (Q2 Yz Z)<|DD Z Z Z (Q5 ZY Z Z Z)<|DD Z Z Z (QD (α:=Ctr) YL Z (.d _))<|DE Z Z Z<|Q3<|Q4<|Qh ?_
 refine J2 4 (fun (o43:(Qc Bs Ent))=>⟨[(0,.v (.one (.ptr 0 0))),(2,.v (.one (.mp 2))),(4,.v (.one (.ptr 3 0))),(6,.v (.one (.ptr 5 0)))],[(0,.cells 62 [DU a1,.mp 1]),(1,.mp (QT a2.1) a2.2),(2,.mp (QT o43.1) o43.2),(3,.cells 45 (DZ a0)),(4,.mp (QT y3.1) y3.2),(5,.cells 60 [.mp 4]),(6,.cells 45 (DZ a0)),(7,.cells 3 [DW (a1.length:Int)])],[],11,99,[]⟩) (fun (o43:(Qc Bs Ent))=>(m47f10_k8 a0 a1 a2 o43 y3)=some r) ?_ ?_
 refine Qd h0 (fun o44 hl1 h0=>?_)
 refine J1 (ZJ a0 y3) (fun s1=>⟨[(0,.v (.one (.ptr 0 0))),(2,.v (.one (.mp 2))),(4,.v (.one (.ptr 3 0))),(6,.v (.one (.ptr 5 0))),(52,.v (.one (DU a0.ctors))),(53,.v (.one (DW (a0.ctors.length:Int)))),(54,.v (.one (DW s1.1)))],[(0,.cells 62 [DU a1,.mp 1]),(1,.mp (QT a2.1) a2.2),(2,.mp (QT s1.2.1) s1.2.2),(3,.cells 45 (DZ a0)),(4,.mp (QT y3.1) y3.2),(5,.cells 60 [.mp 4]),(6,.cells 45 (DZ a0)),(7,.cells 3 [DW (a1.length:Int)])],[],11,99,[]⟩) (0,(J3 a3 a0.name (⟨(Qm y3 a0.name).kind,(Qm y3 a0.name).decl,(Qm y3 a0.name).item,(Qm y3 a0.name).params,((Qm y3 a0.name).ty)⟩:Ent))) o44 (QH (Dz Z) (hA Z) DN Z (Nat.le_trans hv0 (DM Z)) Z Z Z (bB Z Z (bG Z (bG Z (bB Z Z (bG Z (bA Z)))))) Z Z) hl1 (fun s1 n1 oo1 h1 ho1=>?_)
 unfold ZJ at h1
 refine Q6<|Q0<|DD Z Z Z (Q8 Z Z Z)<|Q3<|Q4<|Q6 ?_
 refine Qg (b:=(decide (s1.1 < (a0.ctors.length:Int)))) Z (fun c45=>?_) (fun c45=>?_)
 replace h1:=Qi c45 h1
 refine Qn<|Q4<|Q6<|Qh<|Q6<|Q0 ?_
 refine Qd h1 (fun x46 hx46 h1=>?_)
 refine DD Z Z Z (Qy (α:=Ctr) YL Z (.d _) Z hx46)<|DD Z Z Z (Qt (x46:Ctr) K5 Z)<|Q9 Z Z (DM Z) (Ql U9 Z)<|Qz Z Z (QC (x46:Ctr) K5 Z Z Z Z Z)<|Q3<|Q4<|Q0<|DE Z Z Z<|DD Z Z Z (Q2 KT Z)<|DD Z Z Z (Q5 JT Z Z Z)<|DD Z Z Z (Q5 Yp Z Z Z)<|DD Z Z Z (Q2 KT Z)<|DD Z Z Z (Q5 JT Z Z Z)<|DD Z Z Z (RO.lookupGF (M:=y3) (k:=x46.name) YG K7 Z Z Z) ?_
 refine Qz Z Z (Jk (M:=s1.2) (k:=x46.name) (v:=(⟨(Qm y3 x46.name).kind,(Qm y3 x46.name).decl,(Qm y3 x46.name).item,(Qm y3 x46.name).params,((Qm y3 x46.name).ty)⟩:Ent)) YG Z Z Z Z Z)<|Q3<|Qf<|Q4<|Q0<|DD Z Z Z (Q8 Z Z Z)<|DE Z Z Z<|Q3 ?_
 have e:=DB h1;subst e
 refine QW ((Ja (s1.1+1)),(J3 s1.2 x46.name (⟨(Qm y3 x46.name).kind,(Qm y3 x46.name).decl,(Qm y3 x46.name).item,(Qm y3 x46.name).params,((Qm y3 x46.name).ty)⟩:Ent))) (QH (Dz Z) (hA Z) DN Z (Nat.le_trans hv0 (DM Z)) Z Z Z (bB Z Z (bG Z (bG Z (bB Z Z (bG Z (bA Z)))))) Z Z) ho1
 replace h1:=Qj c45 h1
 refine J8<|Qr<|Qr ?_
 have e:=DB h1;subst e
 have e_:_=_:=ho1
 subst e_
 exact J0 s1.2 (QH (Dz Z) (hA Z) DN Z (Nat.le_trans hv0 (DM Z)) Z Z Z (bB Z Z (bG Z (bG Z (bB Z Z (bG Z (bA Z)))))) Z Z) h0
 intro o43 h0
 unfold m47f10_k8 at h0
 refine QQ<|Q4<|Q6<|Q0<|DE Z Z Z<|DD Z Z Z (Q2 JU Z)<|DD Z Z Z (Q2 GF Z)<|DD Z Z Z (Qk QX Z Z Z Z)<|DD Z Z Z (Q2 JU Z)<|DD Z Z Z (Q2 KV Z)<|DD Z Z Z (Q5 QN Z Z Z)<|DE Z Z Z ?_
 refine Qd h0 (fun x47 hx47 h0=>?_)
 refine JL id hx47 h0 (fun x48 hx48 h0=>?_) (fun x49 hx49 h0=>?_)
 refine Q9 Z Z (DM Z) (Jp (hp1':=[(0,.cells 62 [DU a1,.mp 1]),(1,.mp (QT a2.1) a2.2),(2,.mp (QT o43.1) o43.2)]) (tk1':=[]) (hpF:=m47f10_h42 a0 y3 a1) (tkF:=[]) (res2:=QP []) (nx2:=19) [0,1,2] Z Z (CallE.m (Yw a0.rcr.ty 0 a0.rcr.params a1 a2 o43 (.inl x48) hx48)) Z Z (DI Z Z (DH Z (DH Z DG))) Z Z (DS Z (DT Z (DT Z DR))) DP (hA Z) DN Z Z Z Z Z (bB Z Z (bG Z (bG Z bZ))) Z Z Z Z)<|Q3<|Q4<|Q6<|Q0<|DD Z Z Z (Q2 Yb Z)<|DD Z Z Z (Q5 JT Z Z Z) ?_
 refine YI h0 (fun g50 h0=>?_)
 refine DD Z Z Z (Xj Z Z g50)<|DF Z Z Z<|Q3<|Q4<|Q6<|Q0<|DE Z Z Z<|DE Z Z Z<|DD Z Z Z (Q5 Yp Z Z Z)<|DE Z Z Z<|DD Z Z Z (RO.lookupGF (M:=y3) (k:=(a0.name++([46,114,101,99]:List UInt8))) YG K7 Z Z Z)<|Qz Z Z (Jk (M:=o43) (k:=(a0.name++([46,114,101,99]:List UInt8))) (v:=(⟨(Qm y3 (a0.name++([46,114,101,99]:List UInt8))).kind,(Qm y3 (a0.name++([46,114,101,99]:List UInt8))).decl,(Qm y3 (a0.name++([46,114,101,99]:List UInt8))).item,(Qm y3 (a0.name++([46,114,101,99]:List UInt8))).params,((Qm y3 (a0.name++([46,114,101,99]:List UInt8))).ty)⟩:Ent)) YG Z Z Z Z Z)<|Q3<|Q4 ?_
 refine Q6<|Q0<|DD Z Z Z (Q2 JU Z)<|DD Z Z Z (Q2 GE Z)<|DD Z Z Z (Q5 Yj Z Z Z)<|DD Z Z Z (QD (α:=Tm) JC Z (.d _))<|DE Z Z Z<|Q3<|Q4<|Qh ?_
 refine J2 6 (fun (o51:Unit)=>⟨[],m47f10_h44 a1 a2 o43 a0 y3,[],19,99,[]⟩) (fun (o51:Unit)=>(m47f10_k7 o43 a0 y3)=some r) ?_ ?_
 refine Qd h0 (fun o52 hl1 h0=>?_)
 refine J1 (Ke a0 a1 a2 o43 y3) (fun s1=>⟨[(0,.v (.one (.ptr 0 0))),(2,.v (.one (.mp 2))),(4,.v (.one (.ptr 3 0))),(85,.v (.one (DU a0.rcr.rules))),(86,.v (.one (DW (a0.rcr.rules.length:Int)))),(87,.v (.one (DW s1)))],m47f10_h44 a1 a2 o43 a0 y3,[],19,99,[]⟩) 0 o52 (QH (Dz Z) (hA Z) DN Z (Nat.le_trans hv0 (DM Z)) Z Z Z (bB Z Z (bG Z (bG Z (bB Z Z (bG Z (bA Z)))))) Z Z) hl1 (fun s1 n1 oo1 h1 ho1=>?_)
 unfold Ke at h1
 refine Q6<|Q0<|DD Z Z Z (Q8 Z Z Z)<|Q3<|Q4<|Q6 ?_
 refine Qg (b:=(decide (s1 < (a0.rcr.rules.length:Int)))) Z (fun c53=>?_) (fun c53=>?_)
 replace h1:=Qi c53 h1
 refine Qn<|Q4<|Q6<|Qh<|Q6<|Q0 ?_
 refine Qd h1 (fun x54 hx54 h1=>?_)
 refine DD Z Z Z (Qy (α:=Tm) JC Z (.d _) Z hx54)<|DD Z Z Z (Qt (x54:Tm) QX Z)<|Q9 Z Z (DM Z) (Ql G4 Z)<|Qz Z Z (QC (x54:Tm) QX Z Z Z Z Z)<|Q3<|Q4<|Q0<|DE Z Z Z<|DD Z Z Z (QM (x54:Tm) QX Z Z)<|DD Z Z Z (Q2 JU Z)<|DD Z Z Z (Q2 KV Z)<|DD Z Z Z (Q5 QN Z Z Z)<|DE Z Z Z ?_
 refine Qd h1 (fun x55 hx55 h1=>?_)
 refine JL id hx55 h1 (fun x56 hx56 h1=>?_) (fun x57 hx57 h1=>?_)
 refine Q9 Z Z (DM Z) (Jp (hp1':=[(0,.cells 62 [DU a1,.mp 1]),(1,.mp (QT a2.1) a2.2),(2,.mp (QT ((J3 o43 (a0.name++([46,114,101,99]:List UInt8)) (⟨(Qm y3 (a0.name++([46,114,101,99]:List UInt8))).kind,(Qm y3 (a0.name++([46,114,101,99]:List UInt8))).decl,(Qm y3 (a0.name++([46,114,101,99]:List UInt8))).item,(Qm y3 (a0.name++([46,114,101,99]:List UInt8))).params,((Qm y3 (a0.name++([46,114,101,99]:List UInt8))).ty)⟩:Ent)):Qc Bs Ent).1) ((J3 o43 (a0.name++([46,114,101,99]:List UInt8)) (⟨(Qm y3 (a0.name++([46,114,101,99]:List UInt8))).kind,(Qm y3 (a0.name++([46,114,101,99]:List UInt8))).decl,(Qm y3 (a0.name++([46,114,101,99]:List UInt8))).item,(Qm y3 (a0.name++([46,114,101,99]:List UInt8))).params,((Qm y3 (a0.name++([46,114,101,99]:List UInt8))).ty)⟩:Ent)):Qc Bs Ent).2)]) (tk1':=[]) (hpF:=m47f10_h45 a0 y3 a1 x54) (tkF:=[]) (res2:=QP []) (nx2:=28) [0,1,2] Z Z (CallE.m (Yw x54 0 a0.rcr.params a1 a2 (J3 o43 (a0.name++([46,114,101,99]:List UInt8)) (⟨(Qm y3 (a0.name++([46,114,101,99]:List UInt8))).kind,(Qm y3 (a0.name++([46,114,101,99]:List UInt8))).decl,(Qm y3 (a0.name++([46,114,101,99]:List UInt8))).item,(Qm y3 (a0.name++([46,114,101,99]:List UInt8))).params,((Qm y3 (a0.name++([46,114,101,99]:List UInt8))).ty)⟩:Ent)) (.inl x56) hx56)) Z Z (DI Z Z (DH Z (DH Z DG))) Z Z (DS Z (DT Z (DT Z DR))) DP (hA Z) DN Z Z Z Z Z (bB Z Z (bG Z (bG Z bZ))) Z Z Z Z)<|Q3<|Qf<|Q4<|Q0<|DD Z Z Z (Q8 Z Z Z)<|DE Z Z Z<|Q3 ?_
 have e:=DB h1;subst e
 refine QW (Ja (s1+1)) (QH (Dz Z) (hA Z) DN Z (Nat.le_trans hv0 (DM Z)) Z Z Z (bB Z Z (bG Z (bG Z (bB Z Z (bG Z (bA Z)))))) Z Z) ho1
 refine J6 Z (Yl (hp1':=[(0,.cells 62 [DU a1,.mp 1]),(1,.mp (QT a2.1) a2.2),(2,.mp (QT ((J3 o43 (a0.name++([46,114,101,99]:List UInt8)) (⟨(Qm y3 (a0.name++([46,114,101,99]:List UInt8))).kind,(Qm y3 (a0.name++([46,114,101,99]:List UInt8))).decl,(Qm y3 (a0.name++([46,114,101,99]:List UInt8))).item,(Qm y3 (a0.name++([46,114,101,99]:List UInt8))).params,((Qm y3 (a0.name++([46,114,101,99]:List UInt8))).ty)⟩:Ent)):Qc Bs Ent).1) ((J3 o43 (a0.name++([46,114,101,99]:List UInt8)) (⟨(Qm y3 (a0.name++([46,114,101,99]:List UInt8))).kind,(Qm y3 (a0.name++([46,114,101,99]:List UInt8))).decl,(Qm y3 (a0.name++([46,114,101,99]:List UInt8))).item,(Qm y3 (a0.name++([46,114,101,99]:List UInt8))).params,((Qm y3 (a0.name++([46,114,101,99]:List UInt8))).ty)⟩:Ent)):Qc Bs Ent).2)]) (tk1':=[]) (hpF:=m47f10_h45 a0 y3 a1 x54) (tkF:=[]) (nx2:=23) [0,1,2] Z Z (CallE.d (Yw x54 0 a0.rcr.params a1 a2 (J3 o43 (a0.name++([46,114,101,99]:List UInt8)) (⟨(Qm y3 (a0.name++([46,114,101,99]:List UInt8))).kind,(Qm y3 (a0.name++([46,114,101,99]:List UInt8))).decl,(Qm y3 (a0.name++([46,114,101,99]:List UInt8))).item,(Qm y3 (a0.name++([46,114,101,99]:List UInt8))).params,((Qm y3 (a0.name++([46,114,101,99]:List UInt8))).ty)⟩:Ent)) (.inr x57) hx57)) Z Z (DI Z Z (DH Z (DH Z DG))) Z (DS Z (DT Z (DT Z DR))) DP (hA Z) DN Z Z Z Z Z (bB Z Z (bG Z (bG Z bZ))) Z Z Z Z) ?_
 have e:=DB h1;subst e
 have e_:_=_:=ho1
 subst e_
 try dsimp only [Sum.elim_inl,Sum.elim_inr] at h0
 have e:=DB h0;subst e
 exact Ji (hQ0 (.panic (Jr (QG 90 x57))) _ ZC Z (show StLe _ _ ⟨[],m47f10_h46 a1 a2 o43 a0 y3,[],14,99,[]⟩ from (QH Dy (hA Z) DN Z (Nat.le_trans hv0 (DM Z)) Z Z Z (bB Z Z (bG Z (bG Z bZ))) Z Z))) (fun _ _ h=>h)
 replace h1:=Qj c53 h1
 refine J8<|Qr<|Qr ?_
 have e:=DB h1;subst e
 have e_:_=_:=ho1
 subst e_
 exact J0 () (QH Dy (hA Z) DN Z (Nat.le_trans hv0 (DM Z)) Z Z Z (bB Z Z (bG Z (bG Z (bB Z Z (bG Z (bA Z)))))) Z Z) h0
 intro o51 h0
 unfold m47f10_k7 at h0
 refine QQ ?_
 have e:=DB h0;subst e
 exact hQ0 _ _ D6 Z (show StLe _ _ ⟨[],m47f10_h46 a1 a2 o43 a0 y3,[],19,99,[]⟩ from (QH Dy (hA Z) DN Z (Nat.le_trans hv0 (DM Z)) Z Z Z (bB Z Z (bG Z (bG Z bZ))) Z Z))
 refine J6 Z (Yl (hp1':=[(0,.cells 62 [DU a1,.mp 1]),(1,.mp (QT a2.1) a2.2),(2,.mp (QT o43.1) o43.2)]) (tk1':=[]) (hpF:=m47f10_h42 a0 y3 a1) (tkF:=[]) (nx2:=14) [0,1,2] Z Z (CallE.d (Yw a0.rcr.ty 0 a0.rcr.params a1 a2 o43 (.inr x49) hx49)) Z Z (DI Z Z (DH Z (DH Z DG))) Z (DS Z (DT Z (DT Z DR))) DP (hA Z) DN Z Z Z Z Z (bB Z Z (bG Z (bG Z bZ))) Z Z Z Z) ?_
 have e:=DB h0;subst e
 exact Ji (hQ0 (.panic (Jr (QG 90 x49))) _ ZC Z (show StLe _ _ ⟨[],m47f10_h47 a1 a2 o43,[],14,99,[]⟩ from (QH Dy (hA Z) DN Z (Nat.le_trans hv0 (DM Z)) Z Z Z (bB Z Z (bG Z (bG Z bZ))) Z Z))) (fun _ _ h=>h)
end Go.Proofs.Ytafddfoefeploaa
namespace Go.Proofs.Ytafddfoefeploaa
open Go.RowKit Go.Shelf
theorem z_74:Jy Try.prog 74=some [.int .i64 0,.int .i64 0,.int .i64 0,.string ByteArray.empty,.slice none 0 0,.slice none 0 0,.int .i64 0,.slice none 0 0]:=by kernel_rfl
theorem en_48:J4 Try.prog 48:=enters_of Try.func48 (by kernel_rfl) rfl
noncomputable def m48f11_k0 (p0_:Br) (p1_:Int) (p2_:List Dcl) (p3_:Qc Bs Ent) (p4_:Tr×Int×Int×Int×(List Dcl)×(Qc Bs Ent)×(Qc Bs Ent)→Option (Unit⊕Int)) (p5_:Int) (p6_:Int) (p7_:Int) (p8_:Qc Bs Ent):Option (LO Int (Unit⊕(Unit⊕Int))) :=
 cond p0_.absurd
   (Option.bind (cond (p0_.tree.kind==0)
   (cond (p0_.tree.var==0)
   (cond ((p0_.tree.branches.length:Int)==0)
   (Option.bind (UT p0_.tree.body) fun (b0_:Bool) =>
 Option.bind (Jt b0_ 3) (Sum.elim (fun (b1_:Unit)=>some (.inl ())) (fun (b2_:Unit)=>some (.inr (.inr 3)))))
   (Option.bind (Jt false 3) (Sum.elim (fun (b3_:Unit)=>some (.inl ())) (fun (b4_:Unit)=>some (.inr (.inr 3))))))
   (Option.bind (Jt false 3) (Sum.elim (fun (b5_:Unit)=>some (.inl ())) (fun (b6_:Unit)=>some (.inr (.inr 3))))))
   (Option.bind (Jt false 3) (Sum.elim (fun (b7_:Unit)=>some (.inl ())) (fun (b8_:Unit)=>some (.inr (.inr 3)))))) (Sum.elim (fun (b9_:Unit)=>some (.next (Ja (p1_+1)))) (fun o=>some (.done (.inr o)))))
   (Option.bind (Jx p2_ ((Qm p3_ p0_.ctor).decl)) fun (b10_:Dcl) =>
 Option.bind (Dr b10_ ((Qm p3_ p0_.ctor).item)) fun (b11_:Int) =>
 Option.bind (p4_ (p0_.tree,(Ja (p5_+b11_)),(Ja (p6_+1)),p7_,p2_,p3_,p8_)) (Sum.elim (fun (b12_:Unit)=>some (.next (Ja (p1_+1)))) (fun (b13_:Int)=>some (.done (.inr (.inr b13_))))))
noncomputable def Kd (a0:Tr) (a5:Qc Bs Ent) (a4:List Dcl) (rc:Tr×Int×Int×Int×(List Dcl)×(Qc Bs Ent)×(Qc Bs Ent)→Option (Unit⊕Int)) (a1:Int) (a2:Int) (a3:Int) (a6:Qc Bs Ent) (s1:Int):Option (LO Int (Unit⊕(Unit⊕Int))) :=
 cond (decide (s1 < (a0.branches.length:Int)))
   (Option.bind (Jx a0.branches s1) fun (x23:Br) =>
 Option.bind (cond (Yt a5 x23.ctor)
   (Option.bind (Jt (((Qm a5 x23.ctor).kind)==4) 9) (Sum.elim (fun (x27:Unit)=>some (.inl ())) (fun (x28:Unit)=>some (.inr (.inr 9)))))
   (Option.bind (Jt false 9) (Sum.elim (fun (x30:Unit)=>some (.inl ())) (fun (x31:Unit)=>some (.inr (.inr 9)))))) (Sum.elim (fun (v24:Unit)=>m48f11_k0 x23 s1 a4 a5 rc a1 a2 a3 a6) (fun o=>some (.done (.inr o)))))
   (some (.done (.inl ())))
noncomputable def Ge (p0_:Tr) (p1_:Qc Bs Ent) (p2_:List Dcl) (p3_:Tr×Int×Int×Int×(List Dcl)×(Qc Bs Ent)×(Qc Bs Ent)→Option (Unit⊕Int)) (p4_:Int) (p5_:Int) (p6_:Int) (p7_:Qc Bs Ent):Option (Unit⊕Int) :=
 Option.bind (Jt (decide ((p0_.branches.length:Int)≤32)) 6) (Sum.elim (fun (b0_:Unit)=>Option.bind (Qq (Kd p0_ p1_ p2_ p3_ p4_ p5_ p6_ p7_) QI 0) (Sum.elim (fun (b1_:Unit)=>some (.inl ())) (fun o=>some o))) (fun (b2_:Unit)=>some (.inr 6)))
noncomputable def Gd (p0_:Tr) (p1_:Int) (p2_:Qc Bs Ent) (p3_:List Dcl) (p4_:Tr×Int×Int×Int×(List Dcl)×(Qc Bs Ent)×(Qc Bs Ent)→Option (Unit⊕Int)) (p5_:Int) (p6_:Int) (p7_:Qc Bs Ent):Option (Unit⊕Int) :=
 Option.bind (cond (decide (0≤p0_.var))
   (Option.bind (Jt (decide (p0_.var < p1_)) 24) (Sum.elim (fun (b0_:Unit)=>some (.inl ())) (fun (b1_:Unit)=>some (.inr (.inr 24)))))
   (Option.bind (Jt false 24) (Sum.elim (fun (b2_:Unit)=>some (.inl ())) (fun (b3_:Unit)=>some (.inr (.inr 24)))))) (Sum.elim (fun (b4_:Unit)=>Ge p0_ p2_ p3_ p4_ p1_ p5_ p6_ p7_) (fun o=>some o))
noncomputable abbrev Gf (p0_:List Dcl) (p1_:Qc Bs Ent) (p2_:Qc Bs Ent) (p3_:Tr):List (Nat×HB) :=
 [(0,.cells 62 [DU p0_,.mp 1]),(1,.mp (QT p1_.1) p1_.2),(2,.mp (QT p2_.1) p2_.2),(3,.cells 74 (DZ p3_))]
noncomputable abbrev QL (p0_:List Dcl) (p1_:Qc Bs Ent) (p2_:Qc Bs Ent):List (Nat×HB) :=
 [(0,.cells 62 [DU p0_,.mp 1]),(1,.mp (QT p1_.1) p1_.2),(2,.mp (QT p2_.1) p2_.2)]
noncomputable abbrev m48f11_h2 (p0_:Qc Bs Ent) (p1_:Br):HB :=
 .cells 35 [DW ((Qm p0_ p1_.ctor).kind),DW ((Qm p0_ p1_.ctor).decl),DW ((Qm p0_ p1_.ctor).item),DW ((Qm p0_ p1_.ctor).params),DW (((Qm p0_ p1_.ctor).ty).kind),DW (((Qm p0_ p1_.ctor).ty).index),Jl (((Qm p0_ p1_.ctor).ty).name),DU (((Qm p0_ p1_.ctor).ty).levels:List Lvl),DU (((Qm p0_ p1_.ctor).ty).kids:List Tm)]
noncomputable abbrev m48f11_h3 (p0_:List Dcl) (p1_:Qc Bs Ent) (p2_:Qc Bs Ent) (p3_:Tr) (p4_:Br):List (Nat×HB) :=
 [(0,.cells 62 [DU p0_,.mp 1]),(1,.mp (QT p1_.1) p1_.2),(2,.mp (QT p2_.1) p2_.2),(3,.cells 74 (DZ p3_)),(4,.cells 101 (DZ p4_)),(5,m48f11_h2 p1_ p4_)]
noncomputable abbrev m48f11_h4 (p0_:List Dcl) (p1_:Qc Bs Ent) (p2_:Qc Bs Ent) (p3_:Tr) (p4_:Br):List (Nat×HB) :=
 [(0,.cells 62 [DU p0_,.mp 1]),(1,.mp (QT p1_.1) p1_.2),(2,.mp (QT p2_.1) p2_.2),(3,.cells 74 (DZ p3_)),(4,.cells 101 (DZ p4_)),(5,m48f11_h2 p1_ p4_),(6,.cells 74 (DZ p4_.tree))]
noncomputable abbrev m48f11_h5 (p0_:Tr) (p1_:Br) (p2_:Qc Bs Ent):List (Nat×HB) :=
 [(3,.cells 74 (DZ p0_)),(4,.cells 101 (DZ p1_)),(5,m48f11_h2 p2_ p1_)]
noncomputable def XU (rc:Tr×Int×Int×Int×(List Dcl)×(Qc Bs Ent)×(Qc Bs Ent)→Option (Unit⊕Int)) (a0:Tr) (a1:Int) (a2:Int) (a3:Int) (a4:List Dcl) (a5:Qc Bs Ent) (a6:Qc Bs Ent):Option (Unit⊕Int) :=
 Option.bind (Jt (decide (a2 < 200)) 7) (Sum.elim (fun (x2:Unit)=>cond (a0.kind==0)
   (Option.bind (cond (a0.var==0)
   (Option.bind (Jt ((a0.branches.length:Int)==0) 3) (Sum.elim (fun (x8:Unit)=>some (.inl ())) (fun (x9:Unit)=>some (.inr (.inr 3)))))
   (Option.bind (Jt false 3) (Sum.elim (fun (x11:Unit)=>some (.inl ())) (fun (x12:Unit)=>some (.inr (.inr 3)))))) (Sum.elim (fun (v5:Unit)=>Option.bind (KL a0.body a1 a3 a4 a5 a6) (Sum.elim (fun (x7:Unit)=>some (.inl ())) (fun (x8:Int)=>some (.inr x8)))) (fun o=>some o)))
   (Option.bind (cond (a0.kind==1)
   (Option.bind (UT a0.body) fun (x18:Bool) =>
 Option.bind (Jt x18 3) (Sum.elim (fun (x20:Unit)=>some (.inl ())) (fun (x21:Unit)=>some (.inr (.inr 3)))))
   (Option.bind (Jt false 3) (Sum.elim (fun (x23:Unit)=>some (.inl ())) (fun (x24:Unit)=>some (.inr (.inr 3)))))) (Sum.elim (fun (v16:Unit)=>Gd a0 a1 a5 a4 rc a2 a3 a6) (fun o=>some o)))) (fun (x3:Unit)=>some (.inr 7)))
noncomputable def Gw (rc:Tr×Int×Int×Int×(List Dcl)×(Qc Bs Ent)×(Qc Bs Ent)→Option (Unit⊕Int)) (u:Tr×Int×Int×Int×(List Dcl)×(Qc Bs Ent)×(Qc Bs Ent)):Option (Unit⊕Int):=XU rc u.1 u.2.1 u.2.2.1 u.2.2.2.1 u.2.2.2.2.1 u.2.2.2.2.2.1 u.2.2.2.2.2.2
noncomputable def m48f11 (a0:Tr) (a1:Int) (a2:Int) (a3:Int) (a4:List Dcl) (a5:Qc Bs Ent) (a6:Qc Bs Ent):Option (Unit⊕Int):=JE Gw QI (a0,a1,a2,a3,a4,a5,a6)
theorem m48f11s_ok (rc:Tr×Int×Int×Int×(List Dcl)×(Qc Bs Ent)×(Qc Bs Ent)→Option (Unit⊕Int)) (H:∀ (a0:Tr) (a1:Int) (a2:Int) (a3:Int) (a4:List Dcl) (a5:Qc Bs Ent) (a6:Qc Bs Ent) (r:Unit⊕Int),rc (a0,a1,a2,a3,a4,a5,a6)=some r→CallE Try.prog 48 [.one (.ptr 0 0),.agg (DZ a0),.one (DW a1),.one (DW a2),.one (DW a3),.one (.mp 2)] ⟨QL a4 a5 a6,[],3⟩ ((Sum.elim (fun (r0:Unit)=>((.ret []):EK)) (fun (r1:Int)=>((.pan (QG 90 r1)):EK))) r) ⟨((Sum.elim (fun (r0:Unit)=>(⟨[],QL a4 a5 a6,[],4,134,[]⟩:St)) (fun (r1:Int)=>(⟨[],QL a4 a5 a6,[],4,134,[]⟩:St))) r).hp,((Sum.elim (fun (r0:Unit)=>(⟨[],QL a4 a5 a6,[],4,134,[]⟩:St)) (fun (r1:Int)=>(⟨[],QL a4 a5 a6,[],4,134,[]⟩:St))) r).tk,((Sum.elim (fun (r0:Unit)=>(⟨[],QL a4 a5 a6,[],4,134,[]⟩:St)) (fun (r1:Int)=>(⟨[],QL a4 a5 a6,[],4,134,[]⟩:St))) r).nx⟩) (a0:Tr) (a1:Int) (a2:Int) (a3:Int) (a4:List Dcl) (a5:Qc Bs Ent) (a6:Qc Bs Ent) (r:Unit⊕Int) (h0:XU rc a0 a1 a2 a3 a4 a5 a6=some r):CallE Try.prog 48 [.one (.ptr 0 0),.agg (DZ a0),.one (DW a1),.one (DW a2),.one (DW a3),.one (.mp 2)] ⟨QL a4 a5 a6,[],3⟩ ((Sum.elim (fun (r0:Unit)=>((.ret []):EK)) (fun (r1:Int)=>((.pan (QG 90 r1)):EK))) r) ⟨((Sum.elim (fun (r0:Unit)=>(⟨[],QL a4 a5 a6,[],4,134,[]⟩:St)) (fun (r1:Int)=>(⟨[],QL a4 a5 a6,[],4,134,[]⟩:St))) r).hp,((Sum.elim (fun (r0:Unit)=>(⟨[],QL a4 a5 a6,[],4,134,[]⟩:St)) (fun (r1:Int)=>(⟨[],QL a4 a5 a6,[],4,134,[]⟩:St))) r).tk,((Sum.elim (fun (r0:Unit)=>(⟨[],QL a4 a5 a6,[],4,134,[]⟩:St)) (fun (r1:Int)=>(⟨[],QL a4 a5 a6,[],4,134,[]⟩:St))) r).nx⟩:=by
 unfold XU at h0
 refine JG r ((Sum.elim (fun (r0:Unit)=>(⟨[],QL a4 a5 a6,[],4,134,[]⟩:St)) (fun (r1:Int)=>(⟨[],QL a4 a5 a6,[],4,134,[]⟩:St)))) ((Sum.elim (fun (r0:Unit)=>((.ret []):EK)) (fun (r1:Int)=>((.pan (QG 90 r1)):EK)))) rfl rfl en_48 (DM rfl) (fun z_=>by cases z_ with
 | inl _=>exact rfl
 | inr _=>exact rfl) (fun z_=>by cases z_ with
 | inl _=>exact (Uu .nil)
 | inr _=>exact UE) (fun w0 M V0 Q hv0 hQ0=>?_)
 simp only [Jb]
 refine Q6<|Q0<|Q9 Z Z (DM Z) (QV Z)<|Q3<|Q4<|Q6<|Q0<|DE Z Z Z<|DD Z Z Z (Q8 Z Z Z) ?_
 refine Qd h0 (fun x1 hx1 h0=>?_)
 refine JL id hx1 h0 (fun x2 hx2 h0=>?_) (fun x3 hx3 h0=>?_)
 refine Q9 Z Z (DM Z) (Qx Z Z Z (CallE.m (Qu (decide (a2 < 200)) 7 (.inl x2) hx2)) Z)<|Q3<|Q4<|Q6<|Q6<|Q0<|DD Z Z Z (Q2 fo_74_0 Z)<|DD Z Z Z (Q5 QN Z Z Z)<|DD Z Z Z (Q8 Z Z Z)<|Q3<|Q4 ?_
 refine Qg (b:=(a0.kind==0)) Z (fun c4=>?_) (fun c4=>?_)
 replace h0:=Qi c4 h0
 refine Q6 ?_
 refine QO (fun (v5:Unit)=>⟨[(0,.v (.one (.ptr 0 0))),(2,.v (.one (DW a1))),(4,.v (.one (DW a3))),(5,.v (.one (.mp 2))),(7,.v (.one (.ptr 3 0)))],Gf a4 a5 a6 a0,[],4,134,[]⟩) (fun (v5:Unit)=>(Option.bind (KL a0.body a1 a3 a4 a5 a6) (Sum.elim (fun (x7:Unit)=>some (.inl ())) (fun (x8:Int)=>some (.inr x8))))=some r) ?_ ?_
 refine Qd h0 (fun w1_ h1 h0=>?_)
 refine Q0<|DD Z Z Z (Q2 fo_74_2 Z)<|DD Z Z Z (Q5 QN Z Z Z)<|DD Z Z Z (Q8 Z Z Z)<|DE Z Z Z ?_
 refine QA (d:=26) (c:=(a0.var==0)) Z (fun c6=>?_) (fun c6=>?_)
 replace h1:=Qi c6 h1
 refine DD Z Z Z (Q2 KR Z)<|DD Z Z Z (Q5 Wu Z Z Z)<|DD Z Z Z (QD (α:=Br) XP Z (.d _))<|DD Z Z Z (Q8 Z Z Z)<|DD Z Z Z (Qe Z Z) ?_
 refine Qd h1 (fun x7 hx7 h1=>?_)
 refine JL id hx7 h1 (fun x8 hx8 h1=>?_) (fun x9 hx9 h1=>?_)
 refine Q9 Z Z (DM Z) (Qx Z Z Z (CallE.m (Qu ((a0.branches.length:Int)==0) 3 (.inl x8) hx8)) Z)<|Q3 ?_
 have e:=DB h1;subst e
 replace h0:=Kp h0
 exact Qb () (QH (Dz Z) (hA Z) DN Z (Nat.le_trans hv0 (DM Z)) Z Z Z (bB Z Z (bG Z (bG Z (bA Z)))) Z Z) h0
 refine J6 Z (QF Z Z Z (CallE.d (Qu ((a0.branches.length:Int)==0) 3 (.inr x9) hx9))) ?_
 have e:=DB h1;subst e
 replace h0:=KY h0
 have e:=DB h0;subst e
 exact Ji (hQ0 (.panic (Jr (QG 90 3))) _ ZC Z (show StLe _ _ ⟨[],QL a4 a5 a6,[],4,134,[]⟩ from (QH Dy (hA Z) DN Z (Nat.le_trans hv0 (DM Z)) Z Z Z (bB Z Z (bG Z (bG Z bZ))) Z Z))) (fun _ _ h=>h)
 replace h1:=Qj c6 h1
 refine Q7 Z Z<|Q7 Z Z<|Q7 Z Z<|Q7 Z Z<|DD Z Z Z (Qa Z Z) ?_
 refine Qd h1 (fun x10 hx10 h1=>?_)
 refine JL id hx10 h1 (fun x11 hx11 h1=>?_) (fun x12 hx12 h1=>?_)
 refine Q9 Z Z (DM Z) (Qx Z Z Z (CallE.m (Qu false 3 (.inl x11) hx11)) Z)<|Q3 ?_
 have e:=DB h1;subst e
 replace h0:=Kp h0
 exact Qb () (QH (Dz Z) (hA Z) DN Z (Nat.le_trans hv0 (DM Z)) Z Z Z (bB Z Z (bG Z (bG Z (bA Z)))) Z Z) h0
 refine J6 Z (QF Z Z Z (CallE.d (Qu false 3 (.inr x12) hx12))) ?_
 have e:=DB h1;subst e
 replace h0:=KY h0
 have e:=DB h0;subst e
 exact Ji (hQ0 (.panic (Jr (QG 90 3))) _ ZC Z (show StLe _ _ ⟨[],QL a4 a5 a6,[],4,134,[]⟩ from (QH Dy (hA Z) DN Z (Nat.le_trans hv0 (DM Z)) Z Z Z (bB Z Z (bG Z (bG Z bZ))) Z Z))) (fun _ _ h=>h)
 intro v5 h0
 refine Q4<|Q6<|Q0<|DE Z Z Z<|DD Z Z Z (Q2 fo_74_1 Z)<|DD Z Z Z (Qk QX Z Z Z Z)<|DE Z Z Z<|DE Z Z Z<|DE Z Z Z ?_
 refine Qd h0 (fun x13 hx13 h0=>?_)
 refine JL id hx13 h0 (fun x14 hx14 h0=>?_) (fun x15 hx15 h0=>?_)
 refine Q9 Z Z (DM Z) (Jp (hp1':=[(0,.cells 62 [DU a4,.mp 1]),(1,.mp (QT a5.1) a5.2),(2,.mp (QT a6.1) a6.2)]) (tk1':=[]) (hpF:=[(3,.cells 74 (DZ a0))]) (tkF:=[]) (res2:=QP []) (nx2:=12) [0,1,2] Z Z (CallE.m (Yw a0.body a1 a3 a4 a5 a6 (.inl x14) hx14)) Z Z (DI Z Z (DH Z (DH Z DG))) Z Z (DS Z (DT Z (DT Z DR))) DP (hA Z) DN Z Z Z Z Z (bB Z Z (bG Z (bG Z bZ))) Z Z Z Z)<|Q3<|Q4<|QE ?_
 have e:=DB h0;subst e
 exact hQ0 _ _ UV Z (show StLe _ _ ⟨[],QL a4 a5 a6,[],4,134,[]⟩ from (QH Dy (hA Z) DN Z (Nat.le_trans hv0 (DM Z)) Z Z Z (bB Z Z (bG Z (bG Z bZ))) Z Z))
 refine J6 Z (Yl (hp1':=[(0,.cells 62 [DU a4,.mp 1]),(1,.mp (QT a5.1) a5.2),(2,.mp (QT a6.1) a6.2)]) (tk1':=[]) (hpF:=[(3,.cells 74 (DZ a0))]) (tkF:=[]) (nx2:=7) [0,1,2] Z Z (CallE.d (Yw a0.body a1 a3 a4 a5 a6 (.inr x15) hx15)) Z Z (DI Z Z (DH Z (DH Z DG))) Z (DS Z (DT Z (DT Z DR))) DP (hA Z) DN Z Z Z Z Z (bB Z Z (bG Z (bG Z bZ))) Z Z Z Z) ?_
 have e:=DB h0;subst e
 exact Ji (hQ0 (.panic (Jr (QG 90 x15))) _ ZC Z (show StLe _ _ ⟨[],QL a4 a5 a6,[],4,134,[]⟩ from (QH Dy (hA Z) DN Z (Nat.le_trans hv0 (DM Z)) Z Z Z (bB Z Z (bG Z (bG Z bZ))) Z Z))) (fun _ _ h=>h)
 replace h0:=Qj c4 h0
 refine Qn<|Q4<|Q6 ?_
 refine QO (fun (v16:Unit)=>⟨[(0,.v (.one (.ptr 0 0))),(2,.v (.one (DW a1))),(3,.v (.one (DW a2))),(4,.v (.one (DW a3))),(5,.v (.one (.mp 2))),(7,.v (.one (.ptr 3 0)))],Gf a4 a5 a6 a0,[],4,134,[]⟩) (fun (v16:Unit)=>(Gd a0 a1 a5 a4 rc a2 a3 a6)=some r) ?_ ?_
 refine Qd h0 (fun w1_ h1 h0=>?_)
 refine Q0<|DD Z Z Z (Q2 fo_74_0 Z)<|DD Z Z Z (Q5 QN Z Z Z)<|DD Z Z Z (Q8 Z Z Z)<|DE Z Z Z ?_
 refine QA (d:=43) (c:=(a0.kind==1)) Z (fun c17=>?_) (fun c17=>?_)
 replace h1:=Qi c17 h1
 refine DD Z Z Z (Q2 fo_74_1 Z)<|DD Z Z Z (Qk QX Z Z Z Z) ?_
 refine Qd h1 (fun x18 hx18 h1=>?_)
 refine Q9 Z Z (DM Z) (Qo (WF a0.body x18 hx18) Z (.cons (.agg (.cons (.d _) (.cons (.d _) (.cons (.d _) (.cons (.d _) (.cons (.d _) .nil)))))) .nil))<|DD Z Z Z (Qe Z Z) ?_
 refine Qd h1 (fun x19 hx19 h1=>?_)
 refine JL id hx19 h1 (fun x20 hx20 h1=>?_) (fun x21 hx21 h1=>?_)
 refine Q9 Z Z (DM Z) (Qx Z Z Z (CallE.m (Qu x18 3 (.inl x20) hx20)) Z)<|Q3 ?_
 have e:=DB h1;subst e
 replace h0:=Kp h0
 exact Qb () (QH (Dz Z) (hA Z) DN Z (Nat.le_trans hv0 (DM Z)) Z Z Z (bB Z Z (bG Z (bG Z (bA Z)))) Z Z) h0
 refine J6 Z (QF Z Z Z (CallE.d (Qu x18 3 (.inr x21) hx21))) ?_
 have e:=DB h1;subst e
 replace h0:=KY h0
 have e:=DB h0;subst e
 exact Ji (hQ0 (.panic (Jr (QG 90 3))) _ ZC Z (show StLe _ _ ⟨[],QL a4 a5 a6,[],4,134,[]⟩ from (QH Dy (hA Z) DN Z (Nat.le_trans hv0 (DM Z)) Z Z Z (bB Z Z (bG Z (bG Z bZ))) Z Z))) (fun _ _ h=>h)
 replace h1:=Qj c17 h1
 refine Q7 Z Z<|Q7 Z Z<|Q7 Z Z<|DD Z Z Z (Qa Z Z) ?_
 refine Qd h1 (fun x22 hx22 h1=>?_)
 refine JL id hx22 h1 (fun x23 hx23 h1=>?_) (fun x24 hx24 h1=>?_)
 refine Q9 Z Z (DM Z) (Qx Z Z Z (CallE.m (Qu false 3 (.inl x23) hx23)) Z)<|Q3 ?_
 have e:=DB h1;subst e
 replace h0:=Kp h0
 exact Qb () (QH (Dz Z) (hA Z) DN Z (Nat.le_trans hv0 (DM Z)) Z Z Z (bB Z Z (bG Z (bG Z (bA Z)))) Z Z) h0
 refine J6 Z (QF Z Z Z (CallE.d (Qu false 3 (.inr x24) hx24))) ?_
 have e:=DB h1;subst e
 replace h0:=KY h0
 have e:=DB h0;subst e
 exact Ji (hQ0 (.panic (Jr (QG 90 3))) _ ZC Z (show StLe _ _ ⟨[],QL a4 a5 a6,[],4,134,[]⟩ from (QH Dy (hA Z) DN Z (Nat.le_trans hv0 (DM Z)) Z Z Z (bB Z Z (bG Z (bG Z bZ))) Z Z))) (fun _ _ h=>h)
 intro v16 h0
 unfold Gd at h0
 refine Q4<|Q6 ?_
 refine QO (fun (v25:Unit)=>⟨[(0,.v (.one (.ptr 0 0))),(2,.v (.one (DW a1))),(3,.v (.one (DW a2))),(4,.v (.one (DW a3))),(5,.v (.one (.mp 2))),(7,.v (.one (.ptr 3 0)))],Gf a4 a5 a6 a0,[],4,134,[]⟩) (fun (v25:Unit)=>(Ge a0 a5 a4 rc a1 a2 a3 a6)=some r) ?_ ?_
 refine Qd h0 (fun w1_ h1 h0=>?_)
 refine Q0<|DD Z Z Z (Q2 fo_74_2 Z)<|DD Z Z Z (Q5 QN Z Z Z)<|DD Z Z Z (Q8 Z Z Z)<|DE Z Z Z ?_
 refine QA (d:=52) (c:=(decide (0≤a0.var))) Z (fun c26=>?_) (fun c26=>?_)
 replace h1:=Qi c26 h1
 refine DD Z Z Z (Q2 fo_74_2 Z)<|DD Z Z Z (Q5 QN Z Z Z)<|DE Z Z Z<|DD Z Z Z (Q8 Z Z Z)<|DD Z Z Z (Qe Z Z) ?_
 refine Qd h1 (fun x27 hx27 h1=>?_)
 refine JL id hx27 h1 (fun x28 hx28 h1=>?_) (fun x29 hx29 h1=>?_)
 refine Q9 Z Z (DM Z) (Qx Z Z Z (CallE.m (Qu (decide (a0.var < a1)) 24 (.inl x28) hx28)) Z)<|Q3 ?_
 have e:=DB h1;subst e
 replace h0:=Kp h0
 exact Qb () (QH (Dz Z) (hA Z) DN Z (Nat.le_trans hv0 (DM Z)) Z Z Z (bB Z Z (bG Z (bG Z (bA Z)))) Z Z) h0
 refine J6 Z (QF Z Z Z (CallE.d (Qu (decide (a0.var < a1)) 24 (.inr x29) hx29))) ?_
 have e:=DB h1;subst e
 replace h0:=KY h0
 have e:=DB h0;subst e
 exact Ji (hQ0 (.panic (Jr (QG 90 24))) _ ZC Z (show StLe _ _ ⟨[],QL a4 a5 a6,[],4,134,[]⟩ from (QH Dy (hA Z) DN Z (Nat.le_trans hv0 (DM Z)) Z Z Z (bB Z Z (bG Z (bG Z bZ))) Z Z))) (fun _ _ h=>h)
 replace h1:=Qj c26 h1
 refine Q7 Z Z<|Q7 Z Z<|Q7 Z Z<|Q7 Z Z<|DD Z Z Z (Qa Z Z) ?_
 refine Qd h1 (fun x30 hx30 h1=>?_)
 refine JL id hx30 h1 (fun x31 hx31 h1=>?_) (fun x32 hx32 h1=>?_)
 refine Q9 Z Z (DM Z) (Qx Z Z Z (CallE.m (Qu false 24 (.inl x31) hx31)) Z)<|Q3 ?_
 have e:=DB h1;subst e
 replace h0:=Kp h0
 exact Qb () (QH (Dz Z) (hA Z) DN Z (Nat.le_trans hv0 (DM Z)) Z Z Z (bB Z Z (bG Z (bG Z (bA Z)))) Z Z) h0
 refine J6 Z (QF Z Z Z (CallE.d (Qu false 24 (.inr x32) hx32))) ?_
 have e:=DB h1;subst e
 replace h0:=KY h0
 have e:=DB h0;subst e
 exact Ji (hQ0 (.panic (Jr (QG 90 24))) _ ZC Z (show StLe _ _ ⟨[],QL a4 a5 a6,[],4,134,[]⟩ from (QH Dy (hA Z) DN Z (Nat.le_trans hv0 (DM Z)) Z Z Z (bB Z Z (bG Z (bG Z bZ))) Z Z))) (fun _ _ h=>h)
 intro v25 h0
 unfold Ge at h0
 refine Q4<|Q6<|Q0<|DD Z Z Z (Q2 KR Z)<|DD Z Z Z (Q5 Wu Z Z Z)<|DD Z Z Z (QD (α:=Br) XP Z (.d _))<|DD Z Z Z (Q8 Z Z Z) ?_
 refine Qd h0 (fun x33 hx33 h0=>?_)
 refine JL id hx33 h0 (fun x34 hx34 h0=>?_) (fun x35 hx35 h0=>?_)
 refine Q9 Z Z (DM Z) (Qx Z Z Z (CallE.m (Qu (decide ((a0.branches.length:Int)≤32)) 6 (.inl x34) hx34)) Z)<|Q3<|Q4<|Q6<|Q0<|DD Z Z Z (Q2 KR Z)<|DD Z Z Z (Q5 Wu Z Z Z)<|DD Z Z Z (QD (α:=Br) XP Z (.d _))<|DE Z Z Z<|Q3<|Q4<|Qh ?_
 refine J2 0 (fun (o36:Unit)=>⟨[],Gf a4 a5 a6 a0,[],4,134,[]⟩) (fun (o36:Unit)=>(some (.inl ()))=some r) ?_ ?_
 refine Qd h0 (fun o37 hl1 h0=>?_)
 refine J1 (Kd a0 a5 a4 rc a1 a2 a3 a6) (fun s1=>⟨[(0,.v (.one (.ptr 0 0))),(2,.v (.one (DW a1))),(3,.v (.one (DW a2))),(4,.v (.one (DW a3))),(5,.v (.one (.mp 2))),(65,.v (.one (DU a0.branches))),(66,.v (.one (DW (a0.branches.length:Int)))),(67,.v (.one (DW s1)))],Gf a4 a5 a6 a0,[],4,134,[]⟩) 0 o37 (QH (Dz Z) (hA Z) DN Z (Nat.le_trans hv0 (DM Z)) Z Z Z (bB Z Z (bG Z (bG Z (bA Z)))) Z Z) hl1 (fun s1 n1 oo1 h1 ho1=>?_)
 unfold Kd at h1
 refine Q6<|Q0<|DD Z Z Z (Q8 Z Z Z)<|Q3<|Q4<|Q6 ?_
 refine Qg (b:=(decide (s1 < (a0.branches.length:Int)))) Z (fun c38=>?_) (fun c38=>?_)
 replace h1:=Qi c38 h1
 refine Qn<|Q4<|Q6<|Qh<|Q6<|Q0 ?_
 refine Qd h1 (fun x39 hx39 h1=>?_)
 refine DD Z Z Z (Qy (α:=Br) XP Z (.d _) Z hx39)<|DD Z Z Z (Qt (x39:Br) ag_101 Z)<|Q9 Z Z (DM Z) (Ql z_101 Z)<|Qz Z Z (QC (x39:Br) ag_101 Z Z Z Z Z)<|Q3<|Q4<|Q6 ?_
 refine Js [10,11] [(0,1),(1,1),(2,1),(3,1),(4,1),(5,1),(6,1),(7,1),(8,1),(9,1),(9,2)] YU (by kernel_rfl) (by kernel_rfl) (by kernel_rfl) ?_
 refine RunA.rd Z Z Z (Q1 (Qp Z)) Z<|RunA.rd Z Z Z (Q1 (Jo Z)) Z<|RunA.rd Z Z Z (Q1 (Q2 ZM Z)) Z<|RunA.rd Z Z Z (Q1 (Q5 Yp Z Z Z)) Z<|RunA.rd Z Z Z (Q1 (Q2 fo_101_0 Z)) Z<|RunA.rd Z Z Z (Q1 (Q5 JT Z Z Z)) Z<|RunA.rd Z Z Z (Q1 (Zm (M:=a5) (k:=x39.ctor) YG K7 Z Z Z)) Z<|RunA.rd Z Z Z (Q1 (Qp Z)) Z<|RunA.rd Z Z Z (Q1 (QR Z Z)) Z<|RunA.rd Z Z Z (Q1 (QR Z Z)) Z<|RunA.eff Z Z Z (Ql YZ Z) Z<|RunA.eff Z Z Z (Qv Jg Z Z Z Z (DM Z) Z) Z<|RunA.rd Z Z Z (Q1 (JD Z)) Z ?_
 refine RunA.nil ⟨?ex,_,_,Z,?_⟩
 case ex=>exact ⟨⟨_,rfl,_,_,rfl,rfl,rfl,.inl ⟨rfl,_,Q1 (Qp rfl),rfl⟩⟩,⟨_,rfl,_,_,rfl,rfl,rfl,.inl ⟨rfl,_,Q1 (Jo rfl),rfl⟩⟩,⟨_,rfl,_,_,rfl,rfl,rfl,.inl ⟨rfl,_,Q1 (Q2 ZM rfl),rfl⟩⟩,⟨_,rfl,_,_,rfl,rfl,rfl,.inl ⟨rfl,_,Q1 (Q5 Yp rfl rfl rfl),rfl⟩⟩,⟨_,rfl,_,_,rfl,rfl,rfl,.inl ⟨rfl,_,Q1 (Q2 fo_101_0 rfl),rfl⟩⟩,⟨_,rfl,_,_,rfl,rfl,rfl,.inl ⟨rfl,_,Q1 (Q5 JT rfl rfl rfl),rfl⟩⟩,⟨_,rfl,_,_,rfl,rfl,rfl,.inl ⟨rfl,_,Q1 (Zm (M:=a5) (k:=x39.ctor) YG K7 rfl rfl rfl),rfl⟩⟩,⟨_,rfl,_,_,rfl,rfl,rfl,.inl ⟨rfl,_,Q1 (Qp rfl),rfl⟩⟩,⟨_,rfl,_,_,rfl,rfl,rfl,.inl ⟨rfl,_,Q1 (QR rfl rfl),rfl⟩⟩,⟨_,rfl,_,_,rfl,rfl,rfl,.inl ⟨rfl,_,Q1 (QR rfl rfl),rfl⟩⟩,⟨_,rfl,_,_,rfl,rfl,rfl,.inl ⟨rfl,_,Q1 (QR rfl rfl),rfl⟩⟩,trivial⟩
 refine JV (st':=⟨[(0,.v (.one (.ptr 0 0))),(2,.v (.one (DW a1))),(3,.v (.one (DW a2))),(4,.v (.one (DW a3))),(5,.v (.one (.mp 2))),(13,.v (.one (.ptr 4 0))),(14,.v (.one (.ptr 5 0))),(15,.v (.one (DX (Yt a5 x39.ctor)))),(65,.v (.one (DU a0.branches))),(66,.v (.one (DW (a0.branches.length:Int)))),(67,.v (.one (DW s1)))],m48f11_h3 a4 a5 a6 a0 x39,[],6,134,[]⟩) (QH (Dz Z) (hA Z) DN Z (Nat.le_trans hv0 (DM Z)) Z Z Z (bB Z Z (bG Z (bG Z (bA Z)))) Z Z)<|Q4<|Q6 ?_
 refine QO (fun (v40:Unit)=>⟨[(0,.v (.one (.ptr 0 0))),(2,.v (.one (DW a1))),(3,.v (.one (DW a2))),(4,.v (.one (DW a3))),(5,.v (.one (.mp 2))),(13,.v (.one (.ptr 4 0))),(14,.v (.one (.ptr 5 0))),(65,.v (.one (DU a0.branches))),(66,.v (.one (DW (a0.branches.length:Int)))),(67,.v (.one (DW s1)))],m48f11_h3 a4 a5 a6 a0 x39,[],6,134,[]⟩) (fun (v40:Unit)=>(m48f11_k0 x39 s1 a4 a5 rc a1 a2 a3 a6)=some oo1) ?_ ?_
 refine Qd h1 (fun w2_ h2 h1=>?_)
 refine Q0<|DE Z Z Z<|DE Z Z Z ?_
 refine QA (d:=82) (c:=(Yt a5 x39.ctor)) Z (fun c41=>?_) (fun c41=>?_)
 replace h2:=Qi c41 h2
 refine DD Z Z Z (Q2 YW Z)<|DD Z Z Z (Q5 QN Z Z Z)<|DD Z Z Z (Q8 Z Z Z)<|DD Z Z Z (Qe Z Z) ?_
 refine Qd h2 (fun x42 hx42 h2=>?_)
 refine JL id hx42 h2 (fun x43 hx43 h2=>?_) (fun x44 hx44 h2=>?_)
 refine Q9 Z Z (DM Z) (Qx Z Z Z (CallE.m (Qu (((Qm a5 x39.ctor).kind)==4) 9 (.inl x43) hx43)) Z)<|Q3 ?_
 have e:=DB h2;subst e
 replace h1:=Kp h1
 exact Qb () (QH (Dz Z) (hA Z) DN Z (Nat.le_trans hv0 (DM Z)) Z Z Z (bB Z Z (bG Z (bG Z (bA Z)))) Z Z) h1
 refine J6 Z (QF Z Z Z (CallE.d (Qu (((Qm a5 x39.ctor).kind)==4) 9 (.inr x44) hx44))) ?_
 have e:=DB h2;subst e
 replace h1:=KY h1
 have e:=DB h1;subst e
 have e_:_=_:=ho1
 subst e_
 try dsimp only [Sum.elim_inl,Sum.elim_inr] at h0
 have e:=DB h0;subst e
 exact Ji (hQ0 (.panic (Jr (QG 90 9))) _ ZC Z (show StLe _ _ ⟨[],QL a4 a5 a6,[],4,134,[]⟩ from (QH Dy (hA Z) DN Z (Nat.le_trans hv0 (DM Z)) Z Z Z (bB Z Z (bG Z (bG Z bZ))) Z Z))) (fun _ _ h=>h)
 replace h2:=Qj c41 h2
 refine Q7 Z Z<|Q7 Z Z<|Q7 Z Z<|DD Z Z Z (Qa Z Z) ?_
 refine Qd h2 (fun x45 hx45 h2=>?_)
 refine JL id hx45 h2 (fun x46 hx46 h2=>?_) (fun x47 hx47 h2=>?_)
 refine Q9 Z Z (DM Z) (Qx Z Z Z (CallE.m (Qu false 9 (.inl x46) hx46)) Z)<|Q3 ?_
 have e:=DB h2;subst e
 replace h1:=Kp h1
 exact Qb () (QH (Dz Z) (hA Z) DN Z (Nat.le_trans hv0 (DM Z)) Z Z Z (bB Z Z (bG Z (bG Z (bA Z)))) Z Z) h1
 refine J6 Z (QF Z Z Z (CallE.d (Qu false 9 (.inr x47) hx47))) ?_
 have e:=DB h2;subst e
 replace h1:=KY h1
 have e:=DB h1;subst e
 have e_:_=_:=ho1
 subst e_
 try dsimp only [Sum.elim_inl,Sum.elim_inr] at h0
 have e:=DB h0;subst e
 exact Ji (hQ0 (.panic (Jr (QG 90 9))) _ ZC Z (show StLe _ _ ⟨[],QL a4 a5 a6,[],4,134,[]⟩ from (QH Dy (hA Z) DN Z (Nat.le_trans hv0 (DM Z)) Z Z Z (bB Z Z (bG Z (bG Z bZ))) Z Z))) (fun _ _ h=>h)
 intro v40 h1
 unfold m48f11_k0 at h1
 refine Q4<|Q6<|Q6<|Q0<|DD Z Z Z (Q2 fo_101_1 Z)<|DD Z Z Z (Q5 ag_4 Z Z Z)<|Q3<|Q4 ?_
 refine Qg (b:=x39.absurd) Z (fun c48=>?_) (fun c48=>?_)
 replace h1:=Qi c48 h1
 refine Q6<|Q0<|DD Z Z Z (Q2 fo_101_2 Z)<|DD Z Z Z (Qk U8 Z Z Z Z)<|Q9 Z Z (DM Z) (Ql z_74 Z)<|Qz Z Z (QC (x39.tree:Tr) U8 Z Z Z Z Z)<|Q3<|Q4<|Q6 ?_
 refine QO (fun (v49:Unit)=>⟨[(0,.v (.one (.ptr 0 0))),(2,.v (.one (DW a1))),(3,.v (.one (DW a2))),(4,.v (.one (DW a3))),(5,.v (.one (.mp 2))),(65,.v (.one (DU a0.branches))),(66,.v (.one (DW (a0.branches.length:Int)))),(67,.v (.one (DW s1)))],m48f11_h4 a4 a5 a6 a0 x39,[],7,134,[]⟩) (fun (v49:Unit)=>(some (.next (Ja (s1+1))))=some oo1) ?_ ?_
 refine Qd h1 (fun w2_ h2 h1=>?_)
 refine Q0<|DD Z Z Z (Q2 fo_74_0 Z)<|DD Z Z Z (Q5 QN Z Z Z)<|DD Z Z Z (Q8 Z Z Z)<|DE Z Z Z ?_
 refine QA (d:=95) (c:=(x39.tree.kind==0)) Z (fun c50=>?_) (fun c50=>?_)
 replace h2:=Qi c50 h2
 refine DD Z Z Z (Q2 fo_74_2 Z)<|DD Z Z Z (Q5 QN Z Z Z)<|DD Z Z Z (Q8 Z Z Z)<|DD Z Z Z (Qe Z Z)<|DE Z Z Z ?_
 refine QA (d:=100) (c:=(x39.tree.var==0)) Z (fun c51=>?_) (fun c51=>?_)
 replace h2:=Qi c51 h2
 refine DD Z Z Z (Q2 KR Z)<|DD Z Z Z (Q5 Wu Z Z Z)<|DD Z Z Z (QD (α:=Br) XP Z (.d _))<|DD Z Z Z (Q8 Z Z Z)<|DD Z Z Z (Qe Z Z)<|DE Z Z Z ?_
 refine QA (d:=106) (c:=((x39.tree.branches.length:Int)==0)) Z (fun c52=>?_) (fun c52=>?_)
 replace h2:=Qi c52 h2
 refine DD Z Z Z (Q2 fo_74_1 Z)<|DD Z Z Z (Qk QX Z Z Z Z) ?_
 refine Qd h2 (fun x53 hx53 h2=>?_)
 refine Q9 Z Z (DM Z) (Qo (WF x39.tree.body x53 hx53) Z (.cons (.agg (.cons (.d _) (.cons (.d _) (.cons (.d _) (.cons (.d _) (.cons (.d _) .nil)))))) .nil))<|DD Z Z Z (Qe Z Z) ?_
 refine Qd h2 (fun x54 hx54 h2=>?_)
 refine JL id hx54 h2 (fun x55 hx55 h2=>?_) (fun x56 hx56 h2=>?_)
 refine Q9 Z Z (DM Z) (Qx Z Z Z (CallE.m (Qu x53 3 (.inl x55) hx55)) Z)<|Q3 ?_
 have e:=DB h2;subst e
 replace h1:=Kp h1
 exact Qb () (QH (Dz Z) (hA Z) DN Z (Nat.le_trans hv0 (DM Z)) Z Z Z (bB Z Z (bG Z (bG Z (bA Z)))) Z Z) h1
 refine J6 Z (QF Z Z Z (CallE.d (Qu x53 3 (.inr x56) hx56))) ?_
 have e:=DB h2;subst e
 replace h1:=KY h1
 have e:=DB h1;subst e
 have e_:_=_:=ho1
 subst e_
 try dsimp only [Sum.elim_inl,Sum.elim_inr] at h0
 have e:=DB h0;subst e
 exact Ji (hQ0 (.panic (Jr (QG 90 3))) _ ZC Z (show StLe _ _ ⟨[],QL a4 a5 a6,[],4,134,[]⟩ from (QH Dy (hA Z) DN Z (Nat.le_trans hv0 (DM Z)) Z Z Z (bB Z Z (bG Z (bG Z bZ))) Z Z))) (fun _ _ h=>h)
 replace h2:=Qj c52 h2
 refine Q7 Z Z<|Q7 Z Z<|Q7 Z Z<|DD Z Z Z (Qa Z Z) ?_
 refine Qd h2 (fun x57 hx57 h2=>?_)
 refine JL id hx57 h2 (fun x58 hx58 h2=>?_) (fun x59 hx59 h2=>?_)
 refine Q9 Z Z (DM Z) (Qx Z Z Z (CallE.m (Qu false 3 (.inl x58) hx58)) Z)<|Q3 ?_
 have e:=DB h2;subst e
 replace h1:=Kp h1
 exact Qb () (QH (Dz Z) (hA Z) DN Z (Nat.le_trans hv0 (DM Z)) Z Z Z (bB Z Z (bG Z (bG Z (bA Z)))) Z Z) h1
 refine J6 Z (QF Z Z Z (CallE.d (Qu false 3 (.inr x59) hx59))) ?_
 have e:=DB h2;subst e
 replace h1:=KY h1
 have e:=DB h1;subst e
 have e_:_=_:=ho1
 subst e_
 try dsimp only [Sum.elim_inl,Sum.elim_inr] at h0
 have e:=DB h0;subst e
 exact Ji (hQ0 (.panic (Jr (QG 90 3))) _ ZC Z (show StLe _ _ ⟨[],QL a4 a5 a6,[],4,134,[]⟩ from (QH Dy (hA Z) DN Z (Nat.le_trans hv0 (DM Z)) Z Z Z (bB Z Z (bG Z (bG Z bZ))) Z Z))) (fun _ _ h=>h)
 replace h2:=Qj c51 h2
 refine Q7 Z Z<|Q7 Z Z<|Q7 Z Z<|Q7 Z Z<|DD Z Z Z (Qa Z Z)<|DE Z Z Z<|Q7 Z Z<|Q7 Z Z<|Q7 Z Z<|DD Z Z Z (Qa Z Z) ?_
 refine Qd h2 (fun x60 hx60 h2=>?_)
 refine JL id hx60 h2 (fun x61 hx61 h2=>?_) (fun x62 hx62 h2=>?_)
 refine Q9 Z Z (DM Z) (Qx Z Z Z (CallE.m (Qu false 3 (.inl x61) hx61)) Z)<|Q3 ?_
 have e:=DB h2;subst e
 replace h1:=Kp h1
 exact Qb () (QH (Dz Z) (hA Z) DN Z (Nat.le_trans hv0 (DM Z)) Z Z Z (bB Z Z (bG Z (bG Z (bA Z)))) Z Z) h1
 refine J6 Z (QF Z Z Z (CallE.d (Qu false 3 (.inr x62) hx62))) ?_
 have e:=DB h2;subst e
 replace h1:=KY h1
 have e:=DB h1;subst e
 have e_:_=_:=ho1
 subst e_
 try dsimp only [Sum.elim_inl,Sum.elim_inr] at h0
 have e:=DB h0;subst e
 exact Ji (hQ0 (.panic (Jr (QG 90 3))) _ ZC Z (show StLe _ _ ⟨[],QL a4 a5 a6,[],4,134,[]⟩ from (QH Dy (hA Z) DN Z (Nat.le_trans hv0 (DM Z)) Z Z Z (bB Z Z (bG Z (bG Z bZ))) Z Z))) (fun _ _ h=>h)
 replace h2:=Qj c50 h2
 refine Q7 Z Z<|Q7 Z Z<|Q7 Z Z<|DD Z Z Z (Qa Z Z)<|DE Z Z Z<|Q7 Z Z<|Q7 Z Z<|Q7 Z Z<|Q7 Z Z<|DD Z Z Z (Qa Z Z)<|DE Z Z Z<|Q7 Z Z<|Q7 Z Z<|Q7 Z Z ?_
 refine DD Z Z Z (Qa Z Z) ?_
 refine Qd h2 (fun x63 hx63 h2=>?_)
 refine JL id hx63 h2 (fun x64 hx64 h2=>?_) (fun x65 hx65 h2=>?_)
 refine Q9 Z Z (DM Z) (Qx Z Z Z (CallE.m (Qu false 3 (.inl x64) hx64)) Z)<|Q3 ?_
 have e:=DB h2;subst e
 replace h1:=Kp h1
 exact Qb () (QH (Dz Z) (hA Z) DN Z (Nat.le_trans hv0 (DM Z)) Z Z Z (bB Z Z (bG Z (bG Z (bA Z)))) Z Z) h1
 refine J6 Z (QF Z Z Z (CallE.d (Qu false 3 (.inr x65) hx65))) ?_
 have e:=DB h2;subst e
 replace h1:=KY h1
 have e:=DB h1;subst e
 have e_:_=_:=ho1
 subst e_
 try dsimp only [Sum.elim_inl,Sum.elim_inr] at h0
 have e:=DB h0;subst e
 exact Ji (hQ0 (.panic (Jr (QG 90 3))) _ ZC Z (show StLe _ _ ⟨[],QL a4 a5 a6,[],4,134,[]⟩ from (QH Dy (hA Z) DN Z (Nat.le_trans hv0 (DM Z)) Z Z Z (bB Z Z (bG Z (bG Z bZ))) Z Z))) (fun _ _ h=>h)
 intro v49 h1
 refine Q4<|J8<|Qr<|QQ<|Q4<|Q0<|DD Z Z Z (Q8 Z Z Z)<|DE Z Z Z<|Q3 ?_
 have e:=DB h1;subst e
 refine QW (Ja (s1+1)) (QH (Dz Z) (hA Z) DN Z (Nat.le_trans hv0 (DM Z)) Z Z Z (bB Z Z (bG Z (bG Z (bA Z)))) Z Z) ho1
 replace h1:=Qj c48 h1
 refine Qn<|Q4 ?_
 refine Js [20] [] YU (by kernel_rfl) (by kernel_rfl) (by kernel_rfl) ?_
 refine RunA.rd Z Z Z (Q1 (Qp Z)) Z<|RunA.rd Z Z Z (Q1 (Q2 fo_101_2 Z)) Z<|RunA.rd Z Z Z (Q1 (Qk U8 Z Z Z Z)) Z<|RunA.rd Z Z Z (Q1 (Qp Z)) Z<|RunA.rd Z Z Z (Q1 (Qp Z)) Z<|RunA.rd Z Z Z (Q1 (Jo Z)) Z<|RunA.rd Z Z Z (Q1 (Q2 fo_62_0 Z)) Z<|RunA.rd Z Z Z (Q1 (Q5 ag_22 Z Z Z)) Z<|RunA.rd Z Z Z (Q1 (Q2 KW Z)) Z<|RunA.rd Z Z Z (Q1 (Q5 QN Z Z Z)) Z ?_
 refine Qd h1 (fun x66 hx66 h1=>?_)
 refine RunA.rd Z Z Z (Q1 (Qy (α:=Dcl) JW Z (.d _) Z hx66)) Z<|RunA.rd Z Z Z (Q1 (Qt (x66:Dcl) JK Z)) Z<|RunA.rd Z Z Z (Q1 (Q2 Xi Z)) Z<|RunA.rd Z Z Z (Q1 (Q5 QN Z Z Z)) Z ?_
 refine Qd h1 (fun x67 hx67 h1=>?_)
 refine RunA.rd Z Z Z (Qo (m68_ok x66 ((Qm a5 x39.ctor).item) x67 hx67) Z (.cons (.agg (.cons (.d _) (.cons (.d _) (.cons (.d _) (.cons (.d _) (.cons (.d _) (.cons (.d _) (.cons (.d _) (.cons (.d _) (.cons (.d _) (.cons (.d _) (.cons (.d _) (.cons (.d _) (.cons (.d _) (.cons (.d _) (.cons (.d _) (.cons (.d _) (.cons (.d _) (.cons (.d _) (.cons (.d _) (.cons (.d _) (.cons (.d _) (.cons (.d _) (.cons (.d _) .nil)))))))))))))))))))))))) (.cons (.one (.d _)) .nil))) Z<|RunA.rd Z Z Z (Q1 (Q8 Z Z Z)) Z<|RunA.rd Z Z Z (Q1 (Qp Z)) Z<|RunA.rd Z Z Z (Q1 (Q8 Z Z Z)) Z<|RunA.rd Z Z Z (Q1 (Qp Z)) Z<|RunA.rd Z Z Z (Q1 (Qp Z)) Z ?_
 refine Qd h1 (fun x68 hx68 h1=>?_)
 refine JL id hx68 h1 (fun x69 hx69 h1=>?_) (fun x70 hx70 h1=>?_)
 refine RunA.eff Z Z Z (Jp (hp1':=[(0,.cells 62 [DU a4,.mp 1]),(1,.mp (QT a5.1) a5.2),(2,.mp (QT a6.1) a6.2)]) (tk1':=[]) (hpF:=m48f11_h5 a0 x39 a5) (tkF:=[]) (res2:=QP []) (nx2:=7) [0,1,2] Z Z (CallE.m (H x39.tree (Ja (a1+x67)) (Ja (a2+1)) a3 a4 a5 a6 (.inl x69) hx69)) Z Z (DI Z Z (DH Z (DH Z DG))) Z Z (DS Z (DT Z (DT Z DR))) DP (hA Z) DN Z Z Z Z Z (bB Z Z (bG Z (bG Z bZ))) Z Z Z Z) Z ?_
 refine RunA.nil ⟨?ex,_,_,Z,?_⟩
 case ex=>exact trivial
 refine JV (st':=⟨[(0,.v (.one (.ptr 0 0))),(2,.v (.one (DW a1))),(3,.v (.one (DW a2))),(4,.v (.one (DW a3))),(5,.v (.one (.mp 2))),(65,.v (.one (DU a0.branches))),(66,.v (.one (DW (a0.branches.length:Int)))),(67,.v (.one (DW s1)))],m48f11_h3 a4 a5 a6 a0 x39,[],7,134,[]⟩) (QH (Dz Z) (hA Z) DN Z (Nat.le_trans hv0 (DM Z)) Z Z Z (bB Z Z (bG Z (bG Z (bA Z)))) Z Z)<|Qf<|Q4<|Q0<|DD Z Z Z (Q8 Z Z Z)<|DE Z Z Z<|Q3 ?_
 have e:=DB h1;subst e
 refine QW (Ja (s1+1)) (QH (Dz Z) (hA Z) DN Z (Nat.le_trans hv0 (DM Z)) Z Z Z (bB Z Z (bG Z (bG Z (bA Z)))) Z Z) ho1
 refine RunA.die Z Z Z (DieOp.mk Z Z (Yl (hp1':=[(0,.cells 62 [DU a4,.mp 1]),(1,.mp (QT a5.1) a5.2),(2,.mp (QT a6.1) a6.2)]) (tk1':=[]) (hpF:=m48f11_h5 a0 x39 a5) (tkF:=[]) (nx2:=7) [0,1,2] Z Z (CallE.d (H x39.tree (Ja (a1+x67)) (Ja (a2+1)) a3 a4 a5 a6 (.inr x70) hx70)) Z Z (DI Z Z (DH Z (DH Z DG))) Z (DS Z (DT Z (DT Z DR))) DP (hA Z) DN Z Z Z Z Z (bB Z Z (bG Z (bG Z bZ))) Z Z Z Z) ?pk) ⟨?ex,_,_,Z,XQ.bad⟩
 case ex=>exact trivial
 have e:=DB h1;subst e
 have e_:_=_:=ho1
 subst e_
 try dsimp only [Sum.elim_inl,Sum.elim_inr] at h0
 have e:=DB h0;subst e
 exact Ji (hQ0 (.panic (Jr (QG 90 x70))) _ ZC Z (show StLe _ _ ⟨[],QL a4 a5 a6,[],4,134,[]⟩ from (QH Dy (hA Z) DN Z (Nat.le_trans hv0 (DM Z)) Z Z Z (bB Z Z (bG Z (bG Z bZ))) Z Z))) (fun _ _ h=>h)
 replace h1:=Qj c38 h1
 refine J8<|Qr<|Qr ?_
 have e:=DB h1;subst e
 have e_:_=_:=ho1
 subst e_
 exact J0 () (QH Dy (hA Z) DN Z (Nat.le_trans hv0 (DM Z)) Z Z Z (bB Z Z (bG Z (bG Z (bA Z)))) Z Z) h0
 intro o36 h0
 refine QQ ?_
 have e:=DB h0;subst e
 exact hQ0 _ _ D6 Z (show StLe _ _ ⟨[],QL a4 a5 a6,[],4,134,[]⟩ from (QH Dy (hA Z) DN Z (Nat.le_trans hv0 (DM Z)) Z Z Z (bB Z Z (bG Z (bG Z bZ))) Z Z))
 refine J6 Z (QF Z Z Z (CallE.d (Qu (decide ((a0.branches.length:Int)≤32)) 6 (.inr x35) hx35))) ?_
 have e:=DB h0;subst e
 exact Ji (hQ0 (.panic (Jr (QG 90 6))) _ ZC Z (show StLe _ _ ⟨[],QL a4 a5 a6,[],4,134,[]⟩ from (QH Dy (hA Z) DN Z (Nat.le_trans hv0 (DM Z)) Z Z Z (bB Z Z (bG Z (bG Z bZ))) Z Z))) (fun _ _ h=>h)
 refine J6 Z (QF Z Z Z (CallE.d (Qu (decide (a2 < 200)) 7 (.inr x3) hx3))) ?_
 have e:=DB h0;subst e
 exact Ji (hQ0 (.panic (Jr (QG 90 7))) _ ZC Z (show StLe _ _ ⟨[],QL a4 a5 a6,[],4,134,[]⟩ from (QH Dy (hA Z) DN Z (Nat.le_trans hv0 (DM Z)) Z Z Z (bB Z Z (bG Z (bG Z bZ))) Z Z))) (fun _ _ h=>h)
theorem m48f11_all (n:Nat) (u:Tr×Int×Int×Int×(List Dcl)×(Qc Bs Ent)×(Qc Bs Ent)) (r:Unit⊕Int) (h0:JE Gw n u=some r):CallE Try.prog 48 [.one (.ptr 0 0),.agg (DZ u.1),.one (DW u.2.1),.one (DW u.2.2.1),.one (DW u.2.2.2.1),.one (.mp 2)] ⟨QL u.2.2.2.2.1 u.2.2.2.2.2.1 u.2.2.2.2.2.2,[],3⟩ ((Sum.elim (fun (r0:Unit)=>((.ret []):EK)) (fun (r1:Int)=>((.pan (QG 90 r1)):EK))) r) ⟨((Sum.elim (fun (r0:Unit)=>(⟨[],QL u.2.2.2.2.1 u.2.2.2.2.2.1 u.2.2.2.2.2.2,[],4,134,[]⟩:St)) (fun (r1:Int)=>(⟨[],QL u.2.2.2.2.1 u.2.2.2.2.2.1 u.2.2.2.2.2.2,[],4,134,[]⟩:St))) r).hp,((Sum.elim (fun (r0:Unit)=>(⟨[],QL u.2.2.2.2.1 u.2.2.2.2.2.1 u.2.2.2.2.2.2,[],4,134,[]⟩:St)) (fun (r1:Int)=>(⟨[],QL u.2.2.2.2.1 u.2.2.2.2.2.1 u.2.2.2.2.2.2,[],4,134,[]⟩:St))) r).tk,((Sum.elim (fun (r0:Unit)=>(⟨[],QL u.2.2.2.2.1 u.2.2.2.2.2.1 u.2.2.2.2.2.2,[],4,134,[]⟩:St)) (fun (r1:Int)=>(⟨[],QL u.2.2.2.2.1 u.2.2.2.2.2.1 u.2.2.2.2.2.2,[],4,134,[]⟩:St))) r).nx⟩ :=
 Z9 (C:=fun u r=>CallE Try.prog 48 [.one (.ptr 0 0),.agg (DZ u.1),.one (DW u.2.1),.one (DW u.2.2.1),.one (DW u.2.2.2.1),.one (.mp 2)] ⟨QL u.2.2.2.2.1 u.2.2.2.2.2.1 u.2.2.2.2.2.2,[],3⟩ ((Sum.elim (fun (r0:Unit)=>((.ret []):EK)) (fun (r1:Int)=>((.pan (QG 90 r1)):EK))) r) ⟨((Sum.elim (fun (r0:Unit)=>(⟨[],QL u.2.2.2.2.1 u.2.2.2.2.2.1 u.2.2.2.2.2.2,[],4,134,[]⟩:St)) (fun (r1:Int)=>(⟨[],QL u.2.2.2.2.1 u.2.2.2.2.2.1 u.2.2.2.2.2.2,[],4,134,[]⟩:St))) r).hp,((Sum.elim (fun (r0:Unit)=>(⟨[],QL u.2.2.2.2.1 u.2.2.2.2.2.1 u.2.2.2.2.2.2,[],4,134,[]⟩:St)) (fun (r1:Int)=>(⟨[],QL u.2.2.2.2.1 u.2.2.2.2.2.1 u.2.2.2.2.2.2,[],4,134,[]⟩:St))) r).tk,((Sum.elim (fun (r0:Unit)=>(⟨[],QL u.2.2.2.2.1 u.2.2.2.2.2.1 u.2.2.2.2.2.2,[],4,134,[]⟩:St)) (fun (r1:Int)=>(⟨[],QL u.2.2.2.2.1 u.2.2.2.2.2.1 u.2.2.2.2.2.2,[],4,134,[]⟩:St))) r).nx⟩) (fun rc H u r h=>m48f11s_ok rc (fun a0 a1 a2 a3 a4 a5 a6 r h=>H (a0,a1,a2,a3,a4,a5,a6) r h) u.1 u.2.1 u.2.2.1 u.2.2.2.1 u.2.2.2.2.1 u.2.2.2.2.2.1 u.2.2.2.2.2.2 r h) n u r h0
theorem m48f11_ok (a0:Tr) (a1:Int) (a2:Int) (a3:Int) (a4:List Dcl) (a5:Qc Bs Ent) (a6:Qc Bs Ent) (r:Unit⊕Int) (h0:m48f11 a0 a1 a2 a3 a4 a5 a6=some r):CallE Try.prog 48 [.one (.ptr 0 0),.agg (DZ a0),.one (DW a1),.one (DW a2),.one (DW a3),.one (.mp 2)] ⟨QL a4 a5 a6,[],3⟩ ((Sum.elim (fun (r0:Unit)=>((.ret []):EK)) (fun (r1:Int)=>((.pan (QG 90 r1)):EK))) r) ⟨((Sum.elim (fun (r0:Unit)=>(⟨[],QL a4 a5 a6,[],4,134,[]⟩:St)) (fun (r1:Int)=>(⟨[],QL a4 a5 a6,[],4,134,[]⟩:St))) r).hp,((Sum.elim (fun (r0:Unit)=>(⟨[],QL a4 a5 a6,[],4,134,[]⟩:St)) (fun (r1:Int)=>(⟨[],QL a4 a5 a6,[],4,134,[]⟩:St))) r).tk,((Sum.elim (fun (r0:Unit)=>(⟨[],QL a4 a5 a6,[],4,134,[]⟩:St)) (fun (r1:Int)=>(⟨[],QL a4 a5 a6,[],4,134,[]⟩:St))) r).nx⟩:=m48f11_all QI (a0,a1,a2,a3,a4,a5,a6) r h0
end Go.Proofs.Ytafddfoefeploaa
namespace Go.Proofs.Ytafddfoefeploaa
open Go.RowKit Go.Shelf
theorem en_30:J4 Try.prog 30:=enters_of Try.func30 (by kernel_rfl) rfl
noncomputable def Zu (a0:Dcl) (a1:List Dcl) (a2:Qc Bs Ent) (v10:(Qc Bs Ent)) (s1:Int):Option (LO Int (Unit⊕Int)) :=
 cond (decide (s1 < (a0.funs.length:Int)))
   (Option.bind (Jx a0.funs s1) fun (x13:Fn) =>
 Option.bind (KL x13.ty 0 a0.params a1 a2 v10) (Sum.elim (fun (x15:Unit)=>some (.next (Ja (s1+1)))) (fun (x16:Int)=>some (.done (.inr x16)))))
   (some (.done (.inl ())))
noncomputable def Kx (a0:Dcl) (a1:List Dcl) (s2:Int×(Qc Bs Ent)):Option (LO (Int×(Qc Bs Ent)) (((Qc Bs Ent)))) :=
 cond (decide (s2.1 < (a0.ctors.length:Int)))
   (Option.bind (Jx a0.ctors s2.1) fun (x28:Ctr) =>
 Option.bind (some ()) (fun (y29:Unit)=>some (.next ((Ja (s2.1+1)),(J3 s2.2 x28.name (⟨4,(a1.length:Int),s2.1,a0.params,x28.ty⟩:Ent))))))
   (some (.done s2.2))
noncomputable def GZ (p0_:Dcl) (p1_:(Qc Bs Ent)) (p2_:List Dcl):Option (((Qc Bs Ent))) :=
 Jh (Nat.ble (p0_.name.length+([46,114,101,99]:List UInt8).length) 1000000000)
 (Option.bind (some ()) (fun (b0_:Unit)=>some (J3 p1_ (p0_.name++([46,114,101,99]:List UInt8)) (⟨5,(p2_.length:Int),0,p0_.rcr.params,p0_.rcr.ty⟩:Ent))))
noncomputable def Gh (a0:Dcl) (a1:List Dcl) (s2:Int×(Qc Bs Ent)):Option (LO (Int×(Qc Bs Ent)) (((Qc Bs Ent)))) :=
 cond (decide (s2.1 < (a0.funs.length:Int)))
   (Option.bind (Jx a0.funs s2.1) fun (x40:Fn) =>
 Option.bind (some ()) (fun (y41:Unit)=>some (.next ((Ja (s2.1+1)),(J3 s2.2 x40.name (⟨6,(a1.length:Int),s2.1,a0.params,x40.ty⟩:Ent))))))
   (some (.done s2.2))
noncomputable def Gi (p0_:Bool) (p1_:Dcl) (p2_:(Qc Bs Ent)) (p3_:List Dcl):Option (((Qc Bs Ent))) :=
 cond p0_
   (Option.bind (Jx ([0,1,2]) p1_.kind) fun (b0_:Int) =>
 Option.bind (some ()) (fun (b1_:Unit)=>some (J3 p2_ p1_.name (⟨b0_,(p3_.length:Int),0,p1_.params,p1_.ty⟩:Ent))))
   (cond (p1_.kind==3)
   (Option.bind (some ()) (fun (b2_:Unit)=>Option.bind (Qq (Kx p1_ p3_) QI (0,(J3 p2_ p1_.name (⟨3,(p3_.length:Int),0,p1_.params,p1_.ty⟩:Ent)))) (fun (b3_:(Qc Bs Ent))=>GZ p1_ b3_ p3_)))
   (cond (p1_.kind==4)
   (Option.bind (Qq (Gh p1_ p3_) QI (0,p2_)) (fun (b4_:(Qc Bs Ent))=>some b4_))
   (some p2_)))
noncomputable def Kw (a0:Dcl) (a1:List Dcl) (a2:Qc Bs Ent) (y14:(Qc Bs Ent)) (s1:Int):Option (LO Int (Unit⊕Int)) :=
 cond (decide (s1 < (a0.funs.length:Int)))
   (Option.bind (Jx a0.funs s1) fun (x49:Fn) =>
 Option.bind (m48f11 x49.tree x49.arity 0 a0.params a1 a2 y14) (Sum.elim (fun (x51:Unit)=>some (.next (Ja (s1+1)))) (fun (x52:Int)=>some (.done (.inr x52)))))
   (some (.done (.inl ())))
noncomputable def Ky (p0_:Dcl) (p1_:(Qc Bs Ent)) (p2_:List Dcl) (p3_:Qc Bs Ent):Option Int :=
 Option.bind (some ()) (fun (b0_:Unit)=>Option.bind (Option.bind (cond (p0_.kind==0)
   (some (p0_.kind==0))
   (cond (p0_.kind==1)
   (some (p0_.kind==1))
   (some (p0_.kind==2)))) (fun (b1_:Bool)=>Gi b1_ p0_ p1_ p2_)) (fun (b2_:(Qc Bs Ent))=>Option.bind (Qq (Kw p0_ p2_ p3_ b2_) QI 0) (Sum.elim (fun (b3_:Unit)=>some 0) (fun o=>some o))))
noncomputable def Zw (p0_:Dcl) (p1_:List Dcl) (p2_:Qc Bs Ent):Option Int :=
 Option.bind (cond (p0_.kind==3)
   (Option.bind (Wh p0_ p1_ p2_ gmNil) (Sum.elim (fun (b0_:(Qc Bs Ent))=>some (.inl b0_)) (fun (b1_:Int×(Qc Bs Ent))=>some (.inr b1_.1))))
   (some (.inl gmNil))) (Sum.elim (fun (b2_:(Qc Bs Ent))=>Option.bind (Qq (Zu p0_ p1_ p2_ b2_) QI 0) (Sum.elim (fun (b3_:Unit)=>Ky p0_ b2_ p1_ p2_) (fun o=>some o))) (fun o=>some o))
noncomputable def Zv (p0_:Bool) (p1_:Dcl) (p2_:List Dcl) (p3_:Qc Bs Ent):Option Int :=
 Option.bind (cond p0_
   (Option.bind (KL p1_.value 0 p1_.params p2_ p3_ gmNil) (Sum.elim (fun (b0_:Unit)=>some (.inl ())) (fun (b1_:Int)=>some (.inr b1_))))
   (some (.inl ()))) (Sum.elim (fun (b2_:Unit)=>Zw p1_ p2_ p3_) (fun o=>some o))
noncomputable abbrev m30f4_h0 :HB :=
 .mp (QT (gmNil:Qc Bs Ent).1) (gmNil:Qc Bs Ent).2
noncomputable abbrev m30f4_h1 (p0_:List Dcl) (p1_:Qc Bs Ent) (p2_:Dcl):List (Nat×HB) :=
 [(0,.cells 62 [DU p0_,.mp 1]),(1,.mp (QT p1_.1) p1_.2),(2,.cells 45 (DZ p2_)),(3,.cells 25 [DW 0]),(6,m30f4_h0),(7,.cells 60 [.mp 6])]
noncomputable abbrev Gk (p0_:Dcl):List (Nat×HB) :=
 [(2,.cells 45 (DZ p0_)),(3,.cells 25 [DW 0]),(7,.cells 60 [.mp 6])]
noncomputable abbrev m30f4_h3 (p0_:List Dcl) (p1_:Qc Bs Ent) (p2_:Dcl) (p3_:(Qc Bs Ent)):List (Nat×HB) :=
 [(0,.cells 62 [DU p0_,.mp 1]),(1,.mp (QT p1_.1) p1_.2),(2,.cells 45 (DZ p2_)),(3,.cells 25 [DW 0]),(6,.mp (QT p3_.1) p3_.2),(7,.cells 60 [.mp 6])]
noncomputable abbrev m30f4_h4 (p0_:Dcl) (p1_:Fn):List (Nat×HB) :=
 [(2,.cells 45 (DZ p0_)),(3,.cells 25 [DW 0]),(7,.cells 60 [.mp 6]),(8,.cells 76 (DZ p1_))]
noncomputable abbrev Gj (p0_:List Dcl) (p1_:Qc Bs Ent) (p2_:Dcl) (p3_:(Qc Bs Ent)):List (Nat×HB) :=
 [(0,.cells 62 [DU p0_,.mp 1]),(1,.mp (QT p1_.1) p1_.2),(2,.cells 45 (DZ p2_)),(3,.cells 25 [DW 0]),(6,.mp (QT p3_.1) p3_.2),(7,.cells 60 [.mp 6]),(8,.cells 45 (DZ p2_)),(9,.cells 3 [DW (p0_.length:Int)])]
noncomputable abbrev Yn :HB :=
 .loop .ready none [(0,.v (.one (.ptr 0 0))),(3,.v (.one (.ptr 2 0))),(4,.v (.one (.ptr 3 0))),(5,.v (.one (.ptr 7 0))),(72,.v (.one (.fn 49 [(9,0),(8,0)])))] 95 #[73,74] ZS ZR 10
noncomputable abbrev m30f4_h7 (p0_:List Dcl) (p1_:Qc Bs Ent) (p2_:Dcl) (p3_:(Qc Bs Ent)):List (Nat×HB) :=
 [(0,.cells 62 [DU p0_,.mp 1]),(1,.mp (QT p1_.1) p1_.2),(2,.cells 45 (DZ p2_)),(3,.cells 25 [DW 0]),(6,.mp (QT p3_.1) p3_.2),(7,.cells 60 [.mp 6]),(8,.cells 45 (DZ p2_)),(9,.cells 3 [DW (p0_.length:Int)]),(10,.obj (.deferred (some []))),(11,Yn)]
noncomputable abbrev Kz (p0_:List Dcl) (p1_:Dcl):HB :=
 .cells 35 [DW 0,DW (p0_.length:Int),DW 0,DW p1_.params,DW p1_.ty.kind,DW p1_.ty.index,Jl p1_.ty.name,DU p1_.ty.levels,DU p1_.ty.kids]
noncomputable abbrev m30f4_h9 (p0_:List Dcl) (p1_:Qc Bs Ent) (p2_:Dcl) (p3_:(Qc Bs Ent)):List (Nat×HB) :=
 [(0,.cells 62 [DU p0_,.mp 1]),(1,.mp (QT p1_.1) p1_.2),(2,.cells 45 (DZ p2_)),(3,.cells 25 [DW 0]),(6,.mp (QT p3_.1) p3_.2),(7,.cells 60 [.mp 6]),(8,.cells 45 (DZ p2_)),(9,.cells 3 [DW (p0_.length:Int)]),(10,.obj (.deferred (some []))),(11,Yn),(12,Kz p0_ p2_)]
noncomputable abbrev Ki (p0_:Int) (p1_:List Dcl) (p2_:Dcl):HB :=
 .cells 35 [DW p0_,DW (p1_.length:Int),DW 0,DW p2_.params,DW p2_.ty.kind,DW p2_.ty.index,Jl p2_.ty.name,DU p2_.ty.levels,DU p2_.ty.kids]
noncomputable abbrev m30f4_h11 (p0_:List Dcl) (p1_:Qc Bs Ent) (p2_:Dcl) (p3_:(Qc Bs Ent)) (p4_:Int):List (Nat×HB) :=
 [(0,.cells 62 [DU p0_,.mp 1]),(1,.mp (QT p1_.1) p1_.2),(2,.cells 45 (DZ p2_)),(3,.cells 25 [DW 0]),(6,.mp (QT p3_.1) p3_.2),(7,.cells 60 [.mp 6]),(8,.cells 45 (DZ p2_)),(9,.cells 3 [DW (p0_.length:Int)]),(10,.obj (.deferred (some []))),(11,Yn),(12,Ki p4_ p0_ p2_)]
noncomputable abbrev YP :HB :=
 .loop .busy none [(0,.v (.one (.ptr 0 0))),(3,.v (.one (.ptr 2 0))),(4,.v (.one (.ptr 3 0))),(5,.v (.one (.ptr 7 0))),(72,.v (.one (.fn 49 [(9,0),(8,0)])))] 95 #[73,74] ZS ZR 10
noncomputable abbrev m30f4_h13 (p0_:List Dcl) (p1_:Qc Bs Ent) (p2_:Dcl) (p3_:(Qc Bs Ent)) (p4_:Int):List (Nat×HB) :=
 [(0,.cells 62 [DU p0_,.mp 1]),(1,.mp (QT p1_.1) p1_.2),(2,.cells 45 (DZ p2_)),(3,.cells 25 [DW 0]),(6,.mp (QT p3_.1) p3_.2),(7,.cells 60 [.mp 6]),(8,.cells 45 (DZ p2_)),(9,.cells 3 [DW (p0_.length:Int)]),(10,.obj (.deferred (some []))),(11,YP),(12,Ki p4_ p0_ p2_),(14,Ki p4_ p0_ p2_)]
noncomputable abbrev m30f4_h14 (p0_:List Dcl) (p1_:Qc Bs Ent) (p2_:Dcl) (p3_:(Qc Bs Ent)) (p4_:Int):List (Nat×HB) :=
 [(0,.cells 62 [DU p0_,.mp 1]),(1,.mp (QT p1_.1) p1_.2),(2,.cells 45 (DZ p2_)),(3,.cells 25 [DW 0]),(6,.mp (QT p3_.1) p3_.2),(7,.cells 60 [.mp 6]),(8,.cells 45 (DZ p2_)),(9,.cells 3 [DW (p0_.length:Int)]),(10,.obj (.deferred (some []))),(11,Yn),(12,Ki p4_ p0_ p2_),(14,Ki p4_ p0_ p2_)]
noncomputable abbrev m30f4_h15 (p0_:(Qc Bs Ent)) (p1_:Dcl) (p2_:Int) (p3_:List Dcl):HB :=
 .mp (QT ((J3 p0_ p1_.name (⟨p2_,(p3_.length:Int),0,p1_.params,p1_.ty⟩:Ent)):Qc Bs Ent).1) ((J3 p0_ p1_.name (⟨p2_,(p3_.length:Int),0,p1_.params,p1_.ty⟩:Ent)):Qc Bs Ent).2
noncomputable abbrev m30f4_h16 (p0_:List Dcl) (p1_:Qc Bs Ent) (p2_:Dcl) (p3_:(Qc Bs Ent)) (p4_:Int):List (Nat×HB) :=
 [(0,.cells 62 [DU p0_,.mp 1]),(1,.mp (QT p1_.1) p1_.2),(2,.cells 45 (DZ p2_)),(3,.cells 25 [DW 0]),(6,m30f4_h15 p3_ p2_ p4_ p0_),(7,.cells 60 [.mp 6]),(8,.cells 45 (DZ p2_)),(9,.cells 3 [DW (p0_.length:Int)]),(10,.obj (.deferred (some []))),(11,YP),(12,Ki p4_ p0_ p2_)]
noncomputable abbrev JZ (p0_:List Dcl) (p1_:Dcl):HB :=
 .cells 35 [DW 3,DW (p0_.length:Int),DW 0,DW p1_.params,DW p1_.ty.kind,DW p1_.ty.index,Jl p1_.ty.name,DU p1_.ty.levels,DU p1_.ty.kids]
noncomputable abbrev m30f4_h18 (p0_:List Dcl) (p1_:Qc Bs Ent) (p2_:Dcl) (p3_:(Qc Bs Ent)):List (Nat×HB) :=
 [(0,.cells 62 [DU p0_,.mp 1]),(1,.mp (QT p1_.1) p1_.2),(2,.cells 45 (DZ p2_)),(3,.cells 25 [DW 0]),(6,.mp (QT p3_.1) p3_.2),(7,.cells 60 [.mp 6]),(8,.cells 45 (DZ p2_)),(9,.cells 3 [DW (p0_.length:Int)]),(10,.obj (.deferred (some []))),(11,Yn),(12,JZ p0_ p2_)]
noncomputable abbrev m30f4_h19 (p0_:List Dcl) (p1_:Qc Bs Ent) (p2_:Dcl) (p3_:(Qc Bs Ent)):List (Nat×HB) :=
 [(0,.cells 62 [DU p0_,.mp 1]),(1,.mp (QT p1_.1) p1_.2),(2,.cells 45 (DZ p2_)),(3,.cells 25 [DW 0]),(6,.mp (QT p3_.1) p3_.2),(7,.cells 60 [.mp 6]),(8,.cells 45 (DZ p2_)),(9,.cells 3 [DW (p0_.length:Int)]),(10,.obj (.deferred (some []))),(11,YP),(12,JZ p0_ p2_),(13,JZ p0_ p2_)]
noncomputable abbrev m30f4_h20 (p0_:List Dcl) (p1_:Qc Bs Ent) (p2_:Dcl) (p3_:(Qc Bs Ent)):List (Nat×HB) :=
 [(0,.cells 62 [DU p0_,.mp 1]),(1,.mp (QT p1_.1) p1_.2),(2,.cells 45 (DZ p2_)),(3,.cells 25 [DW 0]),(6,.mp (QT p3_.1) p3_.2),(7,.cells 60 [.mp 6]),(8,.cells 45 (DZ p2_)),(9,.cells 3 [DW (p0_.length:Int)]),(10,.obj (.deferred (some []))),(11,Yn),(12,JZ p0_ p2_),(13,JZ p0_ p2_)]
noncomputable abbrev m30f4_h21 (p0_:(Qc Bs Ent)) (p1_:Dcl) (p2_:List Dcl):HB :=
 .mp (QT ((J3 p0_ p1_.name (⟨3,(p2_.length:Int),0,p1_.params,p1_.ty⟩:Ent)):Qc Bs Ent).1) ((J3 p0_ p1_.name (⟨3,(p2_.length:Int),0,p1_.params,p1_.ty⟩:Ent)):Qc Bs Ent).2
noncomputable abbrev m30f4_h22 (p0_:List Dcl) (p1_:Qc Bs Ent) (p2_:Dcl) (p3_:(Qc Bs Ent)):List (Nat×HB) :=
 [(0,.cells 62 [DU p0_,.mp 1]),(1,.mp (QT p1_.1) p1_.2),(2,.cells 45 (DZ p2_)),(3,.cells 25 [DW 0]),(6,m30f4_h21 p3_ p2_ p0_),(7,.cells 60 [.mp 6]),(8,.cells 45 (DZ p2_)),(9,.cells 3 [DW (p0_.length:Int)]),(10,.obj (.deferred (some []))),(11,YP),(12,JZ p0_ p2_)]
noncomputable abbrev m30f4_h23 (p0_:List Dcl) (p1_:Qc Bs Ent) (p2_:Dcl) (p3_:Int×(Qc Bs Ent)) (p4_:Ctr):List (Nat×HB) :=
 [(0,.cells 62 [DU p0_,.mp 1]),(1,.mp (QT p1_.1) p1_.2),(2,.cells 45 (DZ p2_)),(3,.cells 25 [DW 0]),(6,.mp (QT p3_.2.1) p3_.2.2),(7,.cells 60 [.mp 6]),(8,.cells 45 (DZ p2_)),(9,.cells 3 [DW (p0_.length:Int)]),(10,.obj (.deferred (some []))),(11,Yn),(12,JZ p0_ p2_),(14,.cells 71 (DZ p4_))]
noncomputable abbrev m30f4_h24 (p0_:List Dcl) (p1_:Int×(Qc Bs Ent)) (p2_:Dcl) (p3_:Ctr):HB :=
 .cells 35 [DW 4,DW (p0_.length:Int),DW p1_.1,DW p2_.params,DW p3_.ty.kind,DW p3_.ty.index,Jl p3_.ty.name,DU p3_.ty.levels,DU p3_.ty.kids]
noncomputable abbrev m30f4_h25 (p0_:List Dcl) (p1_:Qc Bs Ent) (p2_:Dcl) (p3_:Int×(Qc Bs Ent)) (p4_:Ctr):List (Nat×HB) :=
 [(0,.cells 62 [DU p0_,.mp 1]),(1,.mp (QT p1_.1) p1_.2),(2,.cells 45 (DZ p2_)),(3,.cells 25 [DW 0]),(6,.mp (QT p3_.2.1) p3_.2.2),(7,.cells 60 [.mp 6]),(8,.cells 45 (DZ p2_)),(9,.cells 3 [DW (p0_.length:Int)]),(10,.obj (.deferred (some []))),(11,YP),(12,JZ p0_ p2_),(14,.cells 71 (DZ p4_)),(15,m30f4_h24 p0_ p3_ p2_ p4_)]
noncomputable abbrev m30f4_h26 (p0_:List Dcl) (p1_:Qc Bs Ent) (p2_:Dcl) (p3_:Int×(Qc Bs Ent)) (p4_:Ctr):List (Nat×HB) :=
 [(0,.cells 62 [DU p0_,.mp 1]),(1,.mp (QT p1_.1) p1_.2),(2,.cells 45 (DZ p2_)),(3,.cells 25 [DW 0]),(6,.mp (QT p3_.2.1) p3_.2.2),(7,.cells 60 [.mp 6]),(8,.cells 45 (DZ p2_)),(9,.cells 3 [DW (p0_.length:Int)]),(10,.obj (.deferred (some []))),(11,Yn),(12,JZ p0_ p2_),(14,.cells 71 (DZ p4_)),(15,m30f4_h24 p0_ p3_ p2_ p4_)]
noncomputable abbrev m30f4_h27 (p0_:Int×(Qc Bs Ent)) (p1_:Ctr) (p2_:List Dcl) (p3_:Dcl):HB :=
 .mp (QT ((J3 p0_.2 p1_.name (⟨4,(p2_.length:Int),p0_.1,p3_.params,p1_.ty⟩:Ent)):Qc Bs Ent).1) ((J3 p0_.2 p1_.name (⟨4,(p2_.length:Int),p0_.1,p3_.params,p1_.ty⟩:Ent)):Qc Bs Ent).2
noncomputable abbrev m30f4_h28 (p0_:List Dcl) (p1_:Qc Bs Ent) (p2_:Dcl) (p3_:Int×(Qc Bs Ent)) (p4_:Ctr):List (Nat×HB) :=
 [(0,.cells 62 [DU p0_,.mp 1]),(1,.mp (QT p1_.1) p1_.2),(2,.cells 45 (DZ p2_)),(3,.cells 25 [DW 0]),(6,m30f4_h27 p3_ p4_ p0_ p2_),(7,.cells 60 [.mp 6]),(8,.cells 45 (DZ p2_)),(9,.cells 3 [DW (p0_.length:Int)]),(10,.obj (.deferred (some []))),(11,YP),(12,JZ p0_ p2_),(14,.cells 71 (DZ p4_))]
noncomputable abbrev m30f4_h29 (p0_:List Dcl) (p1_:Dcl):HB :=
 .cells 35 [DW 5,DW (p0_.length:Int),DW 0,DW p1_.rcr.params,DW p1_.rcr.ty.kind,DW p1_.rcr.ty.index,Jl p1_.rcr.ty.name,DU p1_.rcr.ty.levels,DU p1_.rcr.ty.kids]
noncomputable abbrev m30f4_h30 (p0_:List Dcl) (p1_:Qc Bs Ent) (p2_:Dcl) (p3_:(Qc Bs Ent)):List (Nat×HB) :=
 [(0,.cells 62 [DU p0_,.mp 1]),(1,.mp (QT p1_.1) p1_.2),(2,.cells 45 (DZ p2_)),(3,.cells 25 [DW 0]),(6,.mp (QT p3_.1) p3_.2),(7,.cells 60 [.mp 6]),(8,.cells 45 (DZ p2_)),(9,.cells 3 [DW (p0_.length:Int)]),(10,.obj (.deferred (some []))),(11,YP),(12,JZ p0_ p2_),(14,m30f4_h29 p0_ p2_)]
noncomputable abbrev m30f4_h31 (p0_:List Dcl) (p1_:Qc Bs Ent) (p2_:Dcl) (p3_:(Qc Bs Ent)):List (Nat×HB) :=
 [(0,.cells 62 [DU p0_,.mp 1]),(1,.mp (QT p1_.1) p1_.2),(2,.cells 45 (DZ p2_)),(3,.cells 25 [DW 0]),(6,.mp (QT p3_.1) p3_.2),(7,.cells 60 [.mp 6]),(8,.cells 45 (DZ p2_)),(9,.cells 3 [DW (p0_.length:Int)]),(10,.obj (.deferred (some []))),(11,Yn),(12,JZ p0_ p2_),(14,m30f4_h29 p0_ p2_)]
noncomputable abbrev m30f4_h32 (p0_:(Qc Bs Ent)) (p1_:Dcl) (p2_:List Dcl):HB :=
 .mp (QT ((J3 p0_ (p1_.name++([46,114,101,99]:List UInt8)) (⟨5,(p2_.length:Int),0,p1_.rcr.params,p1_.rcr.ty⟩:Ent)):Qc Bs Ent).1) ((J3 p0_ (p1_.name++([46,114,101,99]:List UInt8)) (⟨5,(p2_.length:Int),0,p1_.rcr.params,p1_.rcr.ty⟩:Ent)):Qc Bs Ent).2
noncomputable abbrev m30f4_h33 (p0_:List Dcl) (p1_:Qc Bs Ent) (p2_:Dcl) (p3_:(Qc Bs Ent)):List (Nat×HB) :=
 [(0,.cells 62 [DU p0_,.mp 1]),(1,.mp (QT p1_.1) p1_.2),(2,.cells 45 (DZ p2_)),(3,.cells 25 [DW 0]),(6,m30f4_h32 p3_ p2_ p0_),(7,.cells 60 [.mp 6]),(8,.cells 45 (DZ p2_)),(9,.cells 3 [DW (p0_.length:Int)]),(10,.obj (.deferred (some []))),(11,YP),(12,JZ p0_ p2_)]
noncomputable abbrev m30f4_h34 (p0_:List Dcl) (p1_:Qc Bs Ent) (p2_:Dcl) (p3_:Int×(Qc Bs Ent)) (p4_:Fn):List (Nat×HB) :=
 [(0,.cells 62 [DU p0_,.mp 1]),(1,.mp (QT p1_.1) p1_.2),(2,.cells 45 (DZ p2_)),(3,.cells 25 [DW 0]),(6,.mp (QT p3_.2.1) p3_.2.2),(7,.cells 60 [.mp 6]),(8,.cells 45 (DZ p2_)),(9,.cells 3 [DW (p0_.length:Int)]),(10,.obj (.deferred (some []))),(11,Yn),(12,Kz p0_ p2_),(13,.cells 76 (DZ p4_))]
noncomputable abbrev m30f4_h35 (p0_:List Dcl) (p1_:Int×(Qc Bs Ent)) (p2_:Dcl) (p3_:Fn):HB :=
 .cells 35 [DW 6,DW (p0_.length:Int),DW p1_.1,DW p2_.params,DW p3_.ty.kind,DW p3_.ty.index,Jl p3_.ty.name,DU p3_.ty.levels,DU p3_.ty.kids]
noncomputable abbrev m30f4_h36 (p0_:List Dcl) (p1_:Qc Bs Ent) (p2_:Dcl) (p3_:Int×(Qc Bs Ent)) (p4_:Fn):List (Nat×HB) :=
 [(0,.cells 62 [DU p0_,.mp 1]),(1,.mp (QT p1_.1) p1_.2),(2,.cells 45 (DZ p2_)),(3,.cells 25 [DW 0]),(6,.mp (QT p3_.2.1) p3_.2.2),(7,.cells 60 [.mp 6]),(8,.cells 45 (DZ p2_)),(9,.cells 3 [DW (p0_.length:Int)]),(10,.obj (.deferred (some []))),(11,YP),(12,Kz p0_ p2_),(13,.cells 76 (DZ p4_)),(14,m30f4_h35 p0_ p3_ p2_ p4_)]
noncomputable abbrev m30f4_h37 (p0_:List Dcl) (p1_:Qc Bs Ent) (p2_:Dcl) (p3_:Int×(Qc Bs Ent)) (p4_:Fn):List (Nat×HB) :=
 [(0,.cells 62 [DU p0_,.mp 1]),(1,.mp (QT p1_.1) p1_.2),(2,.cells 45 (DZ p2_)),(3,.cells 25 [DW 0]),(6,.mp (QT p3_.2.1) p3_.2.2),(7,.cells 60 [.mp 6]),(8,.cells 45 (DZ p2_)),(9,.cells 3 [DW (p0_.length:Int)]),(10,.obj (.deferred (some []))),(11,Yn),(12,Kz p0_ p2_),(13,.cells 76 (DZ p4_)),(14,m30f4_h35 p0_ p3_ p2_ p4_)]
noncomputable abbrev m30f4_h38 (p0_:Int×(Qc Bs Ent)) (p1_:Fn) (p2_:List Dcl) (p3_:Dcl):HB :=
 .mp (QT ((J3 p0_.2 p1_.name (⟨6,(p2_.length:Int),p0_.1,p3_.params,p1_.ty⟩:Ent)):Qc Bs Ent).1) ((J3 p0_.2 p1_.name (⟨6,(p2_.length:Int),p0_.1,p3_.params,p1_.ty⟩:Ent)):Qc Bs Ent).2
noncomputable abbrev m30f4_h39 (p0_:List Dcl) (p1_:Qc Bs Ent) (p2_:Dcl) (p3_:Int×(Qc Bs Ent)) (p4_:Fn):List (Nat×HB) :=
 [(0,.cells 62 [DU p0_,.mp 1]),(1,.mp (QT p1_.1) p1_.2),(2,.cells 45 (DZ p2_)),(3,.cells 25 [DW 0]),(6,m30f4_h38 p3_ p4_ p0_ p2_),(7,.cells 60 [.mp 6]),(8,.cells 45 (DZ p2_)),(9,.cells 3 [DW (p0_.length:Int)]),(10,.obj (.deferred (some []))),(11,YP),(12,Kz p0_ p2_),(13,.cells 76 (DZ p4_))]
noncomputable abbrev m30f4_h40 (p0_:Dcl) (p1_:List Dcl) (p2_:Fn):List (Nat×HB) :=
 [(2,.cells 45 (DZ p0_)),(3,.cells 25 [DW 0]),(7,.cells 60 [.mp 6]),(8,.cells 45 (DZ p0_)),(9,.cells 3 [DW (p1_.length:Int)]),(13,.cells 76 (DZ p2_))]
noncomputable abbrev m30f4_h41 (p0_:List Dcl) (p1_:Qc Bs Ent) (p2_:Int):List (Nat×HB) :=
 [(0,.cells 62 [DU p0_,.mp 1]),(1,.mp (QT p1_.1) p1_.2),(3,.cells 25 [DW p2_])]
noncomputable def XV (a0:Dcl) (a1:List Dcl) (a2:Qc Bs Ent):Option Int :=
 Option.bind (Ws a0) (Sum.elim (fun (x2:Unit)=>Option.bind (U1 a0 a1 a2) (Sum.elim (fun (x5:Unit)=>Option.bind (cond (a0.kind != 4)
   (Option.bind (KL a0.ty 0 a0.params a1 a2 gmNil) (Sum.elim (fun (x10:Unit)=>some (.inl ())) (fun (x11:Int)=>some (.inr x11))))
   (some (.inl ()))) (Sum.elim (fun (v7:Unit)=>Option.bind (cond (a0.kind==1)
   (some true)
   (some (a0.kind==2))) (fun (v8:Bool)=>Zv v8 a0 a1 a2)) (fun o=>some o))) (fun (x6:Int)=>some x6))) (fun (x3:Int)=>some x3))
theorem m30f4_ok (a0:Dcl) (a1:List Dcl) (a2:Qc Bs Ent) (r:Int) (h0:XV a0 a1 a2=some r):CallM Try.prog 30 [.one (.ptr 0 0),.agg (DZ a0)] ⟨[(0,.cells 62 [DU a1,.mp 1]),(1,.mp (QT a2.1) a2.2)],[],2⟩ (QP [.one (DW r)]) ⟨m30f4_h41 a1 a2 r,[],4⟩:=by
 unfold XV at h0
 refine CallM.of_bodyC ⟨[(4,.v (.one (.ptr 3 0)))],m30f4_h41 a1 a2 r,[],4,95,[]⟩ 3 43 90 Z Z en_30 (DM Z) Z (KH ZE Z Z Z .nil) (fun w0 M V0 Q hv0 hQ0=>?_)
 simp only [Jb]
 refine Q6<|Q0<|Q9 Z Z (DM Z) (QV Z)<|Q9 Z Z (DM Z) (Ql z_25 Z)<|Q3<|Q4<|Q6<|Q0<|DD Z Z Z (ZA Z)<|XL.defer catch_ok Z Z<|Q3<|Q4<|Q6<|Q0 ?_
 refine DD Z Z Z (QM (a0:Dcl) JK Z Z) ?_
 refine Qd h0 (fun x1 hx1 h0=>?_)
 refine JL id hx1 h0 (fun x2 hx2 h0=>?_) (fun x3 hx3 h0=>?_)
 refine Q9 Z Z (DM Z) (Qx Z Z Z (CallE.m (m44f5_ok a0 (.inl x2) hx2)) Z)<|Q3<|Q4<|Q6<|Q0<|DE Z Z Z<|DD Z Z Z (QM (a0:Dcl) JK Z Z) ?_
 refine Qd h0 (fun x4 hx4 h0=>?_)
 refine JL id hx4 h0 (fun x5 hx5 h0=>?_) (fun x6 hx6 h0=>?_)
 refine Q9 Z Z (DM Z) (Jp (hp1':=[(0,.cells 62 [DU a1,.mp 1]),(1,.mp (QT a2.1) a2.2)]) (tk1':=[]) (hpF:=[(2,.cells 45 (DZ a0)),(3,.cells 25 [DW 0])]) (tkF:=[]) (res2:=QP []) (nx2:=6) [0,1] Z Z (CallE.m (m45f7_ok a0 a1 a2 (.inl x5) hx5)) Z Z (DI Z Z (DH Z DG)) Z Z (DS Z (DT Z DR)) DP (hA Z) DN Z Z Z Z Z (bB Z Z (bG Z bZ)) Z Z Z Z)<|Q3<|Q4<|Q6<|Q0<|Q9 Z Z (DM Z) (OpOK.makeMapG Bs Ent)<|Q9 Z Z (DM Z) (Ql z_60 Z)<|Qz Z Z (Qv Yp Z Z Z Z (DM Z) Z)<|Q3<|Q4<|Q6<|Q6<|Q0<|DD Z Z Z (Q2 Yg Z) ?_
 refine DD Z Z Z (Q5 QN Z Z Z)<|DD Z Z Z (Q8 Z Z Z)<|Q3<|Q4 ?_
 refine QO (fun (v7:Unit)=>⟨[(0,.v (.one (.ptr 0 0))),(3,.v (.one (.ptr 2 0))),(4,.v (.one (.ptr 3 0))),(5,.v (.one (.ptr 7 0)))],m30f4_h1 a1 a2 a0,[],8,95,[3,43,90]⟩) (fun (v7:Unit)=>(Option.bind (cond (a0.kind==1)
     (some true)
     (some (a0.kind==2))) (fun (v8:Bool)=>Zv v8 a0 a1 a2))=some r) ?_ ?_
 refine Qd h0 (fun w1_ h1 h0=>?_)
 refine Qg (b:=(a0.kind != 4)) Z (fun c8=>?_) (fun c8=>?_)
 replace h1:=Qi c8 h1
 refine Q0<|DE Z Z Z<|DD Z Z Z (Q2 KU Z)<|DD Z Z Z (Qk QX Z Z Z Z)<|DD Z Z Z (Q2 Ya Z)<|DD Z Z Z (Q5 QN Z Z Z)<|DD Z Z Z (Q5 Yp Z Z Z) ?_
 refine Qd h1 (fun x9 hx9 h1=>?_)
 refine JL id hx9 h1 (fun x10 hx10 h1=>?_) (fun x11 hx11 h1=>?_)
 refine Q9 Z Z (DM Z) (Jp (hp1':=[(0,.cells 62 [DU a1,.mp 1]),(1,.mp (QT a2.1) a2.2),(6,.mp (QT (gmNil:Qc Bs Ent).1) (gmNil:Qc Bs Ent).2)]) (tk1':=[]) (hpF:=Gk a0) (tkF:=[]) (res2:=QP []) (nx2:=16) [0,1,6] Z Z (CallE.m (Yw a0.ty 0 a0.params a1 a2 gmNil (.inl x10) hx10)) Z Z (DI Z Z (DH Z (DH Z DG))) Z Z (DS Z (DT Z (DT Z DR))) DP (hA Z) DN Z Z Z Z Z (bB Z Z (bG Z (bG Z bZ))) Z Z Z Z)<|Q3 ?_
 have e:=DB h1;subst e
 replace h0:=Kp h0
 exact Qb () (QH (Dz Z) (hA Z) DN Z (Nat.le_trans hv0 (DM Z)) Z Z Z (bB Z Z (bG Z (bB Z Z (bB Z Z (bG Z (bA Z)))))) Z Z) h0
 refine J6 Z (Yl (hp1':=[(0,.cells 62 [DU a1,.mp 1]),(1,.mp (QT a2.1) a2.2),(6,.mp (QT (gmNil:Qc Bs Ent).1) (gmNil:Qc Bs Ent).2)]) (tk1':=[]) (hpF:=Gk a0) (tkF:=[]) (nx2:=11) [0,1,6] Z Z (CallE.d (Yw a0.ty 0 a0.params a1 a2 gmNil (.inr x11) hx11)) Z Z (DI Z Z (DH Z (DH Z DG))) Z (DS Z (DT Z (DT Z DR))) DP (hA Z) DN Z Z Z Z Z (bB Z Z (bG Z (bG Z bZ))) Z Z Z Z) ?_
 have e:=DB h1;subst e
 replace h0:=KY h0
 have e:=DB h0;subst e
 exact Ji (hQ0 (.panic (Jr (QG 90 x11))) _ Z (WV _ _ _ Z (QH (Dz Z) (hA Z) DN Z (Nat.le_trans hv0 (DM Z)) Z Z Z (bB Z Z (bG Z (bA Z))) Z Z))) (fun _ _ h=>h)
 replace h1:=Qj c8 h1
 refine Qn ?_
 have e:=DB h1;subst e
 replace h0:=Kp h0
 exact Qb () (QH (Dz Z) (hA Z) DN Z (Nat.le_trans hv0 (DM Z)) Z Z Z (bB Z Z (bG Z (bB Z Z (bB Z Z (bG Z (bA Z)))))) Z Z) h0
 intro v7 h0
 refine Q4<|Q6<|Q6 ?_
 refine QO (fun (v12:Bool)=>⟨[(0,.v (.one (.ptr 0 0))),(3,.v (.one (.ptr 2 0))),(4,.v (.one (.ptr 3 0))),(5,.v (.one (.ptr 7 0))),(36,.v (.one (DX v12)))],m30f4_h1 a1 a2 a0,[],8,95,[3,43,90]⟩) (fun (v12:Bool)=>(Zv v12 a0 a1 a2)=some r) ?_ ?_
 refine Qd h0 (fun w1_ h1 h0=>?_)
 refine Q0<|DD Z Z Z (Q2 Yg Z)<|DD Z Z Z (Q5 QN Z Z Z)<|DD Z Z Z (Q8 Z Z Z)<|DE Z Z Z ?_
 refine QA (d:=32) (c:=(a0.kind==1)) Z (fun c13=>?_) (fun c13=>?_)
 replace h1:=Qi c13 h1
 refine Q7 Z Z<|Q7 Z Z<|Q7 Z Z<|DD Z Z Z (Qe Z Z)<|Q3 ?_
 have e:=DB h1;subst e
 exact Qb true (QH (Dz Z) (hA Z) DN Z (Nat.le_trans hv0 (DM Z)) Z Z Z (bB Z Z (bG Z (bB Z Z (bB Z Z (bG Z (bA Z)))))) Z Z) h0
 replace h1:=Qj c13 h1
 refine DD Z Z Z (Q2 Yg Z)<|DD Z Z Z (Q5 QN Z Z Z)<|DD Z Z Z (Q8 Z Z Z)<|DD Z Z Z (Qa Z Z)<|Q3 ?_
 have e:=DB h1;subst e
 exact Qb (a0.kind==2) (QH (Dz Z) (hA Z) DN Z (Nat.le_trans hv0 (DM Z)) Z Z Z (bB Z Z (bG Z (bB Z Z (bB Z Z (bG Z (bA Z)))))) Z Z) h0
 intro v12 h0
 unfold Zv at h0
 refine Q4 ?_
 refine QO (fun (v14:Unit)=>⟨[(0,.v (.one (.ptr 0 0))),(3,.v (.one (.ptr 2 0))),(4,.v (.one (.ptr 3 0))),(5,.v (.one (.ptr 7 0)))],m30f4_h1 a1 a2 a0,[],8,95,[3,43,90]⟩) (fun (v14:Unit)=>(Zw a0 a1 a2)=some r) ?_ ?_
 refine Qd h0 (fun w1_ h1 h0=>?_)
 refine Qg (b:=v12) Z (fun c15=>?_) (fun c15=>?_)
 replace h1:=Qi c15 h1
 refine Q0<|DE Z Z Z<|DD Z Z Z (Q2 fo_45_4 Z)<|DD Z Z Z (Qk QX Z Z Z Z)<|DD Z Z Z (Q2 Ya Z)<|DD Z Z Z (Q5 QN Z Z Z)<|DD Z Z Z (Q5 Yp Z Z Z) ?_
 refine Qd h1 (fun x16 hx16 h1=>?_)
 refine JL id hx16 h1 (fun x17 hx17 h1=>?_) (fun x18 hx18 h1=>?_)
 refine Q9 Z Z (DM Z) (Jp (hp1':=[(0,.cells 62 [DU a1,.mp 1]),(1,.mp (QT a2.1) a2.2),(6,.mp (QT (gmNil:Qc Bs Ent).1) (gmNil:Qc Bs Ent).2)]) (tk1':=[]) (hpF:=Gk a0) (tkF:=[]) (res2:=QP []) (nx2:=16) [0,1,6] Z Z (CallE.m (Yw a0.value 0 a0.params a1 a2 gmNil (.inl x17) hx17)) Z Z (DI Z Z (DH Z (DH Z DG))) Z Z (DS Z (DT Z (DT Z DR))) DP (hA Z) DN Z Z Z Z Z (bB Z Z (bG Z (bG Z bZ))) Z Z Z Z)<|Q3 ?_
 have e:=DB h1;subst e
 replace h0:=Kp h0
 exact Qb () (QH (Dz Z) (hA Z) DN Z (Nat.le_trans hv0 (DM Z)) Z Z Z (bB Z Z (bG Z (bB Z Z (bB Z Z (bG Z (bA Z)))))) Z Z) h0
 refine J6 Z (Yl (hp1':=[(0,.cells 62 [DU a1,.mp 1]),(1,.mp (QT a2.1) a2.2),(6,.mp (QT (gmNil:Qc Bs Ent).1) (gmNil:Qc Bs Ent).2)]) (tk1':=[]) (hpF:=Gk a0) (tkF:=[]) (nx2:=11) [0,1,6] Z Z (CallE.d (Yw a0.value 0 a0.params a1 a2 gmNil (.inr x18) hx18)) Z Z (DI Z Z (DH Z (DH Z DG))) Z (DS Z (DT Z (DT Z DR))) DP (hA Z) DN Z Z Z Z Z (bB Z Z (bG Z (bG Z bZ))) Z Z Z Z) ?_
 have e:=DB h1;subst e
 replace h0:=KY h0
 have e:=DB h0;subst e
 exact Ji (hQ0 (.panic (Jr (QG 90 x18))) _ Z (WV _ _ _ Z (QH (Dz Z) (hA Z) DN Z (Nat.le_trans hv0 (DM Z)) Z Z Z (bB Z Z (bG Z (bA Z))) Z Z))) (fun _ _ h=>h)
 replace h1:=Qj c15 h1
 refine Qn ?_
 have e:=DB h1;subst e
 replace h0:=Kp h0
 exact Qb () (QH (Dz Z) (hA Z) DN Z (Nat.le_trans hv0 (DM Z)) Z Z Z (bB Z Z (bG Z (bB Z Z (bB Z Z (bG Z (bA Z)))))) Z Z) h0
 intro v14 h0
 unfold Zw at h0
 refine Q4<|Q6<|Q6<|Q0<|DD Z Z Z (Q2 Yg Z)<|DD Z Z Z (Q5 QN Z Z Z)<|DD Z Z Z (Q8 Z Z Z)<|Q3<|Q4 ?_
 refine QO (fun (v19:(Qc Bs Ent))=>⟨[(0,.v (.one (.ptr 0 0))),(3,.v (.one (.ptr 2 0))),(4,.v (.one (.ptr 3 0))),(5,.v (.one (.ptr 7 0)))],[(0,.cells 62 [DU a1,.mp 1]),(1,.mp (QT a2.1) a2.2),(2,.cells 45 (DZ a0)),(3,.cells 25 [DW 0]),(6,.mp (QT v19.1) v19.2),(7,.cells 60 [.mp 6])],[],8,95,[3,43,90]⟩) (fun (v19:(Qc Bs Ent))=>(Option.bind (Qq (Zu a0 a1 a2 v19) QI 0) (Sum.elim (fun (o20:Unit)=>Ky a0 v19 a1 a2) (fun o=>some o)))=some r) ?_ ?_
 refine Qd h0 (fun w1_ h1 h0=>?_)
 refine Qg (b:=(a0.kind==3)) Z (fun c20=>?_) (fun c20=>?_)
 replace h1:=Qi c20 h1
 refine Q0<|DE Z Z Z<|DD Z Z Z (QM (a0:Dcl) JK Z Z)<|DD Z Z Z (Q5 Yp Z Z Z) ?_
 refine Qd h1 (fun x21 hx21 h1=>?_)
 refine JL id hx21 h1 (fun x22 hx22 h1=>?_) (fun x23 hx23 h1=>?_)
 refine Q9 Z Z (DM Z) (Jp (hp1':=[(0,.cells 62 [DU a1,.mp 1]),(1,.mp (QT a2.1) a2.2),(6,.mp (QT x22.1) x22.2)]) (tk1':=[]) (hpF:=Gk a0) (tkF:=[]) (res2:=QP []) (nx2:=24) [0,1,6] Z Z (CallE.m (m47f10_ok a0 a1 a2 gmNil (.inl x22) hx22)) Z Z (DI Z Z (DH Z (DH Z DG))) Z Z (DS Z (DT Z (DT Z DR))) DP (hA Z) DN Z Z Z Z Z (bB Z Z (bG Z (bG Z bZ))) Z Z Z Z)<|Q3 ?_
 have e:=DB h1;subst e
 replace h0:=Kp h0
 exact Qb x22 (QH (Dz Z) (hA Z) DN Z (Nat.le_trans hv0 (DM Z)) Z Z Z (bB Z Z (bG Z (bB Z Z (bB Z Z (bG Z (bA Z)))))) Z Z) h0
 refine J6 Z (Yl (hp1':=[(0,.cells 62 [DU a1,.mp 1]),(1,.mp (QT a2.1) a2.2),(6,.mp (QT x23.2.1) x23.2.2)]) (tk1':=[]) (hpF:=Gk a0) (tkF:=[]) (nx2:=19) [0,1,6] Z Z (CallE.d (m47f10_ok a0 a1 a2 gmNil (.inr x23) hx23)) Z Z (DI Z Z (DH Z (DH Z DG))) Z (DS Z (DT Z (DT Z DR))) DP (hA Z) DN Z Z Z Z Z (bB Z Z (bG Z (bG Z bZ))) Z Z Z Z) ?_
 have e:=DB h1;subst e
 replace h0:=KY h0
 have e:=DB h0;subst e
 exact Ji (hQ0 (.panic (Jr (QG 90 x23.1))) _ Z (WV _ _ _ Z (QH (Dz Z) (hA Z) DN Z (Nat.le_trans hv0 (DM Z)) Z Z Z (bB Z Z (bG Z (bA Z))) Z Z))) (fun _ _ h=>h)
 replace h1:=Qj c20 h1
 refine Qn ?_
 have e:=DB h1;subst e
 replace h0:=Kp h0
 exact Qb gmNil (QH (Dz Z) (hA Z) DN Z (Nat.le_trans hv0 (DM Z)) Z Z Z (bB Z Z (bG Z (bB Z Z (bB Z Z (bG Z (bA Z)))))) Z Z) h0
 intro v19 h0
 refine Q4<|Q6<|Q6<|Q0<|DD Z Z Z (Q2 YF Z)<|DD Z Z Z (Q5 K6 Z Z Z)<|DD Z Z Z (QD (α:=Fn) YT Z (.d _))<|DE Z Z Z<|Q3<|Q4<|Qh ?_
 refine J2 0 (fun (o24:Unit)=>⟨[(0,.v (.one (.ptr 0 0))),(3,.v (.one (.ptr 2 0))),(4,.v (.one (.ptr 3 0))),(5,.v (.one (.ptr 7 0)))],m30f4_h3 a1 a2 a0 v19,[],8,95,[3,43,90]⟩) (fun (o24:Unit)=>(Ky a0 v19 a1 a2)=some r) ?_ ?_
 refine Qd h0 (fun o25 hl1 h0=>?_)
 refine J1 (Zu a0 a1 a2 v19) (fun s1=>⟨[(0,.v (.one (.ptr 0 0))),(3,.v (.one (.ptr 2 0))),(4,.v (.one (.ptr 3 0))),(5,.v (.one (.ptr 7 0))),(52,.v (.one (DU a0.funs))),(53,.v (.one (DW (a0.funs.length:Int)))),(54,.v (.one (DW s1)))],m30f4_h3 a1 a2 a0 v19,[],8,95,[3,43,90]⟩) 0 o25 (QH (Dz Z) (hA Z) DN Z (Nat.le_trans hv0 (DM Z)) Z Z Z (bB Z Z (bG Z (bB Z Z (bB Z Z (bG Z (bA Z)))))) Z Z) hl1 (fun s1 n1 oo1 h1 ho1=>?_)
 unfold Zu at h1
 refine Q6<|Q0<|DD Z Z Z (Q8 Z Z Z)<|Q3<|Q4<|Q6 ?_
 refine Qg (b:=(decide (s1 < (a0.funs.length:Int)))) Z (fun c26=>?_) (fun c26=>?_)
 replace h1:=Qi c26 h1
 refine Qn<|Q4<|Q6<|Qh<|Q6<|Q0 ?_
 refine Qd h1 (fun x27 hx27 h1=>?_)
 refine DD Z Z Z (Qy (α:=Fn) YT Z (.d _) Z hx27)<|DD Z Z Z (Qt (x27:Fn) K4 Z)<|Q9 Z Z (DM Z) (Ql Ue Z)<|Qz Z Z (QC (x27:Fn) K4 Z Z Z Z Z)<|Q3<|Q4<|Q0<|DE Z Z Z<|DD Z Z Z (Q2 Xg Z)<|DD Z Z Z (Qk QX Z Z Z Z)<|DD Z Z Z (Q2 Ya Z)<|DD Z Z Z (Q5 QN Z Z Z)<|DD Z Z Z (Q5 Yp Z Z Z) ?_
 refine Qd h1 (fun x28 hx28 h1=>?_)
 refine JL id hx28 h1 (fun x29 hx29 h1=>?_) (fun x30 hx30 h1=>?_)
 refine Q9 Z Z (DM Z) (Jp (hp1':=[(0,.cells 62 [DU a1,.mp 1]),(1,.mp (QT a2.1) a2.2),(6,.mp (QT v19.1) v19.2)]) (tk1':=[]) (hpF:=m30f4_h4 a0 x27) (tkF:=[]) (res2:=QP []) (nx2:=17) [0,1,6] Z Z (CallE.m (Yw x27.ty 0 a0.params a1 a2 v19 (.inl x29) hx29)) Z Z (DI Z Z (DH Z (DH Z DG))) Z Z (DS Z (DT Z (DT Z DR))) DP (hA Z) DN Z Z Z Z Z (bB Z Z (bG Z (bG Z bZ))) Z Z Z Z)<|Q3<|Qf<|Q4<|Q0<|DD Z Z Z (Q8 Z Z Z)<|DE Z Z Z<|Q3 ?_
 have e:=DB h1;subst e
 refine QW (Ja (s1+1)) (QH (Dz Z) (hA Z) DN Z (Nat.le_trans hv0 (DM Z)) Z Z Z (bB Z Z (bG Z (bB Z Z (bB Z Z (bG Z (bA Z)))))) Z Z) ho1
 refine J6 Z (Yl (hp1':=[(0,.cells 62 [DU a1,.mp 1]),(1,.mp (QT a2.1) a2.2),(6,.mp (QT v19.1) v19.2)]) (tk1':=[]) (hpF:=m30f4_h4 a0 x27) (tkF:=[]) (nx2:=12) [0,1,6] Z Z (CallE.d (Yw x27.ty 0 a0.params a1 a2 v19 (.inr x30) hx30)) Z Z (DI Z Z (DH Z (DH Z DG))) Z (DS Z (DT Z (DT Z DR))) DP (hA Z) DN Z Z Z Z Z (bB Z Z (bG Z (bG Z bZ))) Z Z Z Z) ?_
 have e:=DB h1;subst e
 have e_:_=_:=ho1
 subst e_
 try dsimp only [Sum.elim_inl,Sum.elim_inr] at h0
 have e:=DB h0;subst e
 exact Ji (hQ0 (.panic (Jr (QG 90 x30))) _ Z (WV _ _ _ Z (QH (Dz Z) (hA Z) DN Z (Nat.le_trans hv0 (DM Z)) Z Z Z (bB Z Z (bG Z (bA Z))) Z Z))) (fun _ _ h=>h)
 replace h1:=Qj c26 h1
 refine J8<|Qr<|Qr ?_
 have e:=DB h1;subst e
 have e_:_=_:=ho1
 subst e_
 exact J0 () (QH (Dz Z) (hA Z) DN Z (Nat.le_trans hv0 (DM Z)) Z Z Z (bB Z Z (bG Z (bB Z Z (bB Z Z (bG Z (bA Z)))))) Z Z) h0
 intro o24 h0
 unfold Ky at h0
 refine QQ<|Q4<|Q6<|Q6 ?_
 refine Js [6] [] YU (by kernel_rfl) (by kernel_rfl) (by kernel_rfl) ?_
 refine RunA.rd Z Z Z (Q1 (QM (a0:Dcl) JK Z Z)) Z<|RunA.rd Z Z Z (Q1 (Qp Z)) Z<|RunA.rd Z Z Z (Q1 (Jo Z)) Z<|RunA.rd Z Z Z (Q1 (Q2 fo_62_0 Z)) Z<|RunA.rd Z Z Z (Q1 (Q5 ag_22 Z Z Z)) Z<|RunA.rd Z Z Z (Q1 (QD (α:=Dcl) JW Z (.d _))) Z ?_
 refine Qd h0 (fun y31 h1 h0=>?_)
 have hc32:CallM Try.prog 31 [.agg (DZ a0),.one (DW (a1.length:Int))] ⟨m30f4_h3 a1 a2 a0 v19,[],8⟩ (QP [.one (.fn 49 [(9,0),(8,0)])]) ⟨Gj a1 a2 a0 v19,[],10⟩:=by
  refine Jc ⟨[(4,.v (.one (.fn 49 [(9,0),(8,0)])))],Gj a1 a2 a0 v19,[],10,6,[]⟩ Z Z en_31 (DM Z) Z (QB Z .nil) (fun w0 M V0 Q hv1 hQ1=>?_)
  simp only [Jb]
  refine Q6<|Q0<|Q9 Z Z (DM Z) (QV Z)<|Q9 Z Z (DM Z) (QV Z)<|DF Z Z Z<|Q3<|Q4<|Q6<|Q0<|DD Z Z Z (RO.makeFunc2 Z Z)<|DF Z Z Z<|Q3<|Q4<|QE ?_
  have e:=DB h1;subst e
  exact hQ1 _ _ _ (.inr Z) Z (QH (Dz Z) (hA Z) DN Z (Nat.le_trans hv1 (DM Z)) Z Z Z (bB Z Z (bG Z (bB Z Z (bB Z Z (bG Z (bA Z)))))) Z Z)
 refine RunA.eff Z Z Z (JO Z Z Z hc32 Z (hA Z) DN) Z ?_
 refine RunA.nil ⟨?ex,_,_,Z,?_⟩
 case ex=>exact trivial
 refine JV (st':=⟨[(0,.v (.one (.ptr 0 0))),(3,.v (.one (.ptr 2 0))),(4,.v (.one (.ptr 3 0))),(5,.v (.one (.ptr 7 0))),(72,.v (.one (.fn 49 [(9,0),(8,0)])))],Gj a1 a2 a0 v19,[],10,95,[3,43,90]⟩) (QH (Dz Z) (hA Z) DN Z (Nat.le_trans hv0 (DM Z)) Z Z Z (bB Z Z (bG Z (bB Z Z (bB Z Z (bG Z (bA Z)))))) Z Z)<|Q4<|Qh<|GG (st':=⟨[(0,.v (.one (.ptr 0 0))),(3,.v (.one (.ptr 2 0))),(4,.v (.one (.ptr 3 0))),(5,.v (.one (.ptr 7 0))),(72,.v (.one (.fn 49 [(9,0),(8,0)])))],Gj a1 a2 a0 v19,[],10,95,[3,43,90]⟩) (QH (Dz Z) (hA Z) DN Z (Nat.le_trans hv0 (DM Z)) Z Z Z (bB Z Z (bG Z (bB Z Z (bB Z Z (bG Z (bA Z)))))) Z Z) ?_
 refine Qd h0 (fun y33 h1 h0=>?_)
 have hc34:CallM Try.prog 49 [.one (.yld 11),.one (.ptr 9 0),.one (.ptr 8 0)] ⟨[(11,.loop .ready none [(0,.v (.one (.ptr 0 0))),(3,.v (.one (.ptr 2 0))),(4,.v (.one (.ptr 3 0))),(5,.v (.one (.ptr 7 0))),(72,.v (.one (.fn 49 [(9,0),(8,0)])))] 95 #[73,74] ZS ZR 10),(10,.obj (.deferred (some []))),(0,.cells 62 [DU a1,.mp 1]),(1,.mp (QT a2.1) a2.2),(2,.cells 45 (DZ a0)),(3,.cells 25 [DW 0]),(6,.mp (QT v19.1) v19.2),(7,.cells 60 [.mp 6]),(8,.cells 45 (DZ a0)),(9,.cells 3 [DW (a1.length:Int)])],[],12⟩ (QP []) ⟨m30f4_h7 a1 a2 a0 y33,[],13⟩:=by
  refine Jc ⟨[],m30f4_h7 a1 a2 a0 y33,[],13,98,[]⟩ Z Z en_49 (DM Z) Z .nil (fun w0 M V0 Q hv1 hQ1=>?_)
  simp only [Jb]
  refine Q6<|Q0<|DD Z Z Z (Q5 QN Z Z Z)<|DD Z Z Z (Q2 Ya Z)<|DD Z Z Z (Q5 QN Z Z Z)<|DD Z Z Z (Q2 KU Z)<|DD Z Z Z (Qk QX Z Z Z Z)<|DD Z Z Z (Zn ZX Z Z Z Z Z)<|Q9 Z Z (DM Z) (Ql YZ Z)<|Qz Z Z (Qv Jg Z Z Z Z (DM Z) Z)<|Q3<|Q4<|Q6<|Q0 ?_
  refine DD Z Z Z (Q2 Yg Z)<|DD Z Z Z (Q5 QN Z Z Z)<|Q3<|Q4<|Qh<|Q6<|Q6<|Q0<|DD Z Z Z (Q8 Z Z Z)<|DF Z Z Z<|Q3<|Q4 ?_
  refine QO (fun (v35:Bool)=>⟨[(0,.v (.one (.yld 11))),(1,.v (.one (.ptr 9 0))),(2,.v (.one (.ptr 8 0))),(4,.v (.one (.ptr 12 0))),(16,.v (.one (DW a0.kind))),(17,.v (.one (DX v35)))],m30f4_h9 a1 a2 a0 v19,[],13,98,[]⟩) (fun (v35:Bool)=>(Gi v35 a0 v19 a1)=some y33) ?_ ?_
  refine Qd h1 (fun w2_ h2 h1=>?_)
  refine Qg (b:=(a0.kind==0)) Z (fun c36=>?_) (fun c36=>?_)
  replace h2:=Qi c36 h2
  refine Qn ?_
  have e:=DB h2;subst e
  exact Qb (a0.kind==0) (QH (Dz Z) (hA Z) DN Z (Nat.le_trans hv1 (DM Z)) Z Z Z (bB Z Z (bG Z (bB Z Z (bB Z Z (bG Z (bA Z)))))) Z Z) h1
  replace h2:=Qj c36 h2
  refine Q6<|Q0<|DD Z Z Z (Q8 Z Z Z)<|DF Z Z Z<|Q3<|Q4 ?_
  refine Qg (b:=(a0.kind==1)) Z (fun c37=>?_) (fun c37=>?_)
  replace h2:=Qi c37 h2
  refine Qn ?_
  have e:=DB h2;subst e
  exact Qb (a0.kind==1) (QH (Dz Z) (hA Z) DN Z (Nat.le_trans hv1 (DM Z)) Z Z Z (bB Z Z (bG Z (bB Z Z (bB Z Z (bG Z (bA Z)))))) Z Z) h1
  replace h2:=Qj c37 h2
  refine Q0<|DD Z Z Z (Q8 Z Z Z)<|DF Z Z Z<|Q3 ?_
  have e:=DB h2;subst e
  exact Qb (a0.kind==2) (QH (Dz Z) (hA Z) DN Z (Nat.le_trans hv1 (DM Z)) Z Z Z (bB Z Z (bG Z (bB Z Z (bB Z Z (bG Z (bA Z)))))) Z Z) h1
  intro v35 h1
  unfold Gi at h1
  refine Q4 ?_
  refine Qg (b:=v35) Z (fun c38=>?_) (fun c38=>?_)
  replace h1:=Qi c38 h1
  refine Q6<|Q0<|Q9 Z Z (DM Z) (OpOK.lit3E (α:=Int) 0 1 2 Wq Dp Z Z (DM Z) (DM Z) Z Z Z Z (.cons (.d _) (.cons (.d _) (.cons (.d _) .nil))) ⟨Z,Z,Z⟩)<|DD Z Z Z (Q2 Yg Z)<|DD Z Z Z (Q5 QN Z Z Z) ?_
  refine Qd h1 (fun x39 hx39 h1=>?_)
  refine DD Z Z Z (Qy (α:=Int) Wq Z (.app _ _) Z hx39)<|DD Z Z Z (Y1 QN Z Z)<|DD Z Z Z (Q2 YW Z)<|Qz Z Z (Qv QN Z Z Z Z (DM Z) Z)<|Q3<|Q4<|Q0<|DE Z Z Z<|DD Z Z Z (Q2 Yb Z)<|DD Z Z Z (Q5 JT Z Z Z)<|DD Z Z Z (Qk Jg Z Z Z Z) ?_
  refine Qd h1 (fun y40 h2 h1=>?_)
  have ha41:ExecOK Try.prog (some 11) ZS ⟨[(0,.v (.one (.ptr 0 0))),(3,.v (.one (.ptr 2 0))),(4,.v (.one (.ptr 3 0))),(5,.v (.one (.ptr 7 0))),(72,.v (.one (.fn 49 [(9,0),(8,0)]))),(73,.v (.one (Jl a0.name))),(74,.v (.agg [DW x39,DW (a1.length:Int),DW 0,DW a0.params,DW a0.ty.kind,DW a0.ty.index,Jl a0.ty.name,DU a0.ty.levels,DU a0.ty.kids]))],m30f4_h11 a1 a2 a0 v19 x39,[(13,some ⟨3,1,(Enc.encL ([0,1,2]:List Int)).length,[]⟩)],14,95,[]⟩ .normal ⟨[(5,.v (.one (.ptr 7 0))),(8,.v (.one (Jl a0.name))),(9,.v (.one (.ptr 14 0)))],m30f4_h14 a1 a2 a0 v19 x39,[(13,some ⟨3,1,(Enc.encL ([0,1,2]:List Int)).length,[]⟩)],15,95,[]⟩:=by
   refine QK (fun w0 M V0 ro n Q hv2 hro2 hQn2=>?_)
   refine Q6<|Q0<|DF Z Z Z<|Q3<|Q4<|Q0<|Q9 Z Z (DM Z) (Ql YZ Z)<|Qz Z Z (Qv Jg Z Z Z Z (DM Z) Z)<|Q3 ?_
   exact Jw hQn2 (QH (Dz Z) (hA Z) (DO Z) Z (Nat.le_trans hv2 (DM Z)) Z Z Z (bB Z Z (bG Z (bB Z Z (bB Z Z (bG Z (bA Z)))))) Z Z)
  have hb42:ExecOK Try.prog (some 11) ZR ⟨[(5,.v (.one (.ptr 7 0))),(8,.v (.one (Jl a0.name))),(9,.v (.one (.ptr 14 0)))],m30f4_h13 a1 a2 a0 v19 x39,[(13,some ⟨3,1,(Enc.encL ([0,1,2]:List Int)).length,[]⟩)],15,95,[]⟩ .normal ⟨[],m30f4_h16 a1 a2 a0 v19 x39,[(13,some ⟨3,1,(Enc.encL ([0,1,2]:List Int)).length,[]⟩)],15,95,[]⟩:=by
   refine QK (fun w0 M V0 ro n Q hv2 hro2 hQn2=>?_)
   refine Qh<|Q0<|DD Z Z Z (Q5 Yp Z Z Z)<|DE Z Z Z<|DD Z Z Z (Qk Jg Z Z Z Z)<|Qz Z Z (Jk (M:=v19) (k:=a0.name) (v:=(⟨x39,(a1.length:Int),0,a0.params,a0.ty⟩:Ent)) YG Z Z Z Z Z)<|Q3<|Qf ?_
   have e:=DB h2;subst e
   exact Jw hQn2 (QH Dy (hA Z) (DO Z) Z (Nat.le_trans hv2 (DM Z)) Z Z Z (bB Z Z (bG Z (bB Z Z (bB Z Z (bG Z (bA Z)))))) Z Z)
  refine Q9 Z Z (DM Z) (Jd (jump:=none) Z Z Z Z Z (Qw ha41 (fun E hv=>(QH (Dz Z) (hA Z) (DO Z) Z (Nat.le_trans hv (DM Z)) Z Z Z (bB Z Z (bG Z (bB Z Z (bB Z Z (bG Z (bA Z)))))) Z Z))) Z (Qw hb42 (fun E hv=>(QH (Dz Z) (hA Z) (DO Z) Z (Nat.le_trans hv (DM Z)) Z Z Z (bB Z Z (bG Z (bB Z Z (bB Z Z (bG Z (bA Z)))))) Z Z))) Z Z) ?_
  refine Q3<|Qf ?_
  have e:=DB h1;subst e
  exact hQ1 _ _ _ (.inl Z) Z (QH Dy (hA Z) DN Z (Nat.le_trans hv1 (DM Z)) Z Z Z (bB Z Z (bG Z (bB Z Z (bB Z Z (bG Z (bA Z)))))) Z Z)
  replace h1:=Qj c38 h1
  refine Q6<|Q0<|DD Z Z Z (Q8 Z Z Z)<|DF Z Z Z<|Q3<|Q4 ?_
  refine Qg (b:=(a0.kind==3)) Z (fun c43=>?_) (fun c43=>?_)
  replace h1:=Qi c43 h1
  refine Q6<|Q0<|DD Z Z Z (Q2 YW Z)<|Qz Z Z (Qv QN Z Z Z Z (DM Z) Z)<|Q3<|Q4<|Q6<|Q6<|Q0<|DE Z Z Z<|DD Z Z Z (Q2 Yb Z)<|DD Z Z Z (Q5 JT Z Z Z)<|DD Z Z Z (Qk Jg Z Z Z Z) ?_
  refine Qd h1 (fun y44 h2 h1=>?_)
  have ha45:ExecOK Try.prog (some 11) ZS ⟨[(0,.v (.one (.ptr 0 0))),(3,.v (.one (.ptr 2 0))),(4,.v (.one (.ptr 3 0))),(5,.v (.one (.ptr 7 0))),(72,.v (.one (.fn 49 [(9,0),(8,0)]))),(73,.v (.one (Jl a0.name))),(74,.v (.agg [DW 3,DW (a1.length:Int),DW 0,DW a0.params,DW a0.ty.kind,DW a0.ty.index,Jl a0.ty.name,DU a0.ty.levels,DU a0.ty.kids]))],m30f4_h18 a1 a2 a0 v19,[],13,95,[]⟩ .normal ⟨[(5,.v (.one (.ptr 7 0))),(8,.v (.one (Jl a0.name))),(9,.v (.one (.ptr 13 0)))],m30f4_h20 a1 a2 a0 v19,[],14,95,[]⟩:=by
   refine QK (fun w0 M V0 ro n Q hv2 hro2 hQn2=>?_)
   refine Q6<|Q0<|DF Z Z Z<|Q3<|Q4<|Q0<|Q9 Z Z (DM Z) (Ql YZ Z)<|Qz Z Z (Qv Jg Z Z Z Z (DM Z) Z)<|Q3 ?_
   exact Jw hQn2 (QH (Dz Z) (hA Z) DN Z (Nat.le_trans hv2 (DM Z)) Z Z Z (bB Z Z (bG Z (bB Z Z (bB Z Z (bG Z (bA Z)))))) Z Z)
  have hb46:ExecOK Try.prog (some 11) ZR ⟨[(5,.v (.one (.ptr 7 0))),(8,.v (.one (Jl a0.name))),(9,.v (.one (.ptr 13 0)))],m30f4_h19 a1 a2 a0 v19,[],14,95,[]⟩ .normal ⟨[],m30f4_h22 a1 a2 a0 v19,[],14,95,[]⟩:=by
   refine QK (fun w0 M V0 ro n Q hv2 hro2 hQn2=>?_)
   refine Qh<|Q0<|DD Z Z Z (Q5 Yp Z Z Z)<|DE Z Z Z<|DD Z Z Z (Qk Jg Z Z Z Z)<|Qz Z Z (Jk (M:=v19) (k:=a0.name) (v:=(⟨3,(a1.length:Int),0,a0.params,a0.ty⟩:Ent)) YG Z Z Z Z Z)<|Q3<|Qf ?_
   have e:=DB h2;subst e
   exact Jw hQn2 (QH Dy (hA Z) DN Z (Nat.le_trans hv2 (DM Z)) Z Z Z (bB Z Z (bG Z (bB Z Z (bB Z Z (bG Z (bA Z)))))) Z Z)
  refine Q9 Z Z (DM Z) (Jd (jump:=none) Z Z Z Z Z (Qw ha45 (fun E hv=>(QH (Dz Z) (hA Z) DN Z (Nat.le_trans hv (DM Z)) Z Z Z (bB Z Z (bG Z (bB Z Z (bB Z Z (bG Z (bA Z)))))) Z Z))) Z (Qw hb46 (fun E hv=>(QH (Dz Z) (hA Z) DN Z (Nat.le_trans hv (DM Z)) Z Z Z (bB Z Z (bG Z (bB Z Z (bB Z Z (bG Z (bA Z)))))) Z Z))) Z Z) ?_
  refine DD Z Z Z (Jj Z)<|Q3<|Q4 ?_
  refine Qg Z (fun h=>nomatch h) (fun _=>?_)
  refine Qn<|Q4<|Q6<|Q6<|Q0<|DD Z Z Z (Q2 Yz Z)<|DD Z Z Z (Q5 ZY Z Z Z)<|DD Z Z Z (QD (α:=Ctr) YL Z (.d _))<|DE Z Z Z<|Q3<|Q4<|Qh ?_
  refine J2 1 (fun (o47:(Qc Bs Ent))=>⟨[(0,.v (.one (.yld 11))),(1,.v (.one (.ptr 9 0))),(2,.v (.one (.ptr 8 0)))],[(0,.cells 62 [DU a1,.mp 1]),(1,.mp (QT a2.1) a2.2),(2,.cells 45 (DZ a0)),(3,.cells 25 [DW 0]),(6,.mp (QT o47.1) o47.2),(7,.cells 60 [.mp 6]),(8,.cells 45 (DZ a0)),(9,.cells 3 [DW (a1.length:Int)]),(10,.obj (.deferred (some []))),(11,Yn),(12,JZ a1 a0)],[],14,98,[]⟩) (fun (o47:(Qc Bs Ent))=>(GZ a0 o47 a1)=some y33) ?_ ?_
  refine Qd h1 (fun o48 hl2 h1=>?_)
  refine J1 (Kx a0 a1) (fun s2=>⟨[(0,.v (.one (.yld 11))),(1,.v (.one (.ptr 9 0))),(2,.v (.one (.ptr 8 0))),(42,.v (.one (DU a0.ctors))),(43,.v (.one (DW (a0.ctors.length:Int)))),(44,.v (.one (DW s2.1)))],[(0,.cells 62 [DU a1,.mp 1]),(1,.mp (QT a2.1) a2.2),(2,.cells 45 (DZ a0)),(3,.cells 25 [DW 0]),(6,.mp (QT s2.2.1) s2.2.2),(7,.cells 60 [.mp 6]),(8,.cells 45 (DZ a0)),(9,.cells 3 [DW (a1.length:Int)]),(10,.obj (.deferred (some []))),(11,Yn),(12,JZ a1 a0)],[],14,98,[]⟩) (0,(J3 v19 a0.name (⟨3,(a1.length:Int),0,a0.params,a0.ty⟩:Ent))) o48 (QH (Dz Z) (hA Z) DN Z (Nat.le_trans hv1 (DM Z)) Z Z Z (bB Z Z (bG Z (bB Z Z (bB Z Z (bG Z (bA Z)))))) Z Z) hl2 (fun s2 n2 oo2 h2 ho2=>?_)
  unfold Kx at h2
  refine Q6<|Q0<|DD Z Z Z (Q8 Z Z Z)<|Q3<|Q4<|Q6 ?_
  refine Qg (b:=(decide (s2.1 < (a0.ctors.length:Int)))) Z (fun c49=>?_) (fun c49=>?_)
  replace h2:=Qi c49 h2
  refine Qn<|Q4<|Q6<|Qh<|Q6<|Q0<|DE Z Z Z ?_
  refine Qd h2 (fun x50 hx50 h2=>?_)
  refine DD Z Z Z (Qy (α:=Ctr) YL Z (.d _) Z hx50)<|DD Z Z Z (Qt (x50:Ctr) K5 Z)<|Q9 Z Z (DM Z) (Ql U9 Z)<|DF Z Z Z<|Qz Z Z (QC (x50:Ctr) K5 Z Z Z Z Z)<|Q3<|Q4<|Q6<|Q0<|DE Z Z Z<|DD Z Z Z (Q2 KT Z)<|DD Z Z Z (Q5 JT Z Z Z)<|DD Z Z Z (Q5 QN Z Z Z)<|DE Z Z Z ?_
  refine DD Z Z Z (Q2 Ya Z)<|DD Z Z Z (Q5 QN Z Z Z)<|DD Z Z Z (Q2 KS Z)<|DD Z Z Z (Qk QX Z Z Z Z)<|DD Z Z Z (JR ZX Z (.cons Z (.cons Z (.cons Z (.cons Z (.cons Z .nil))))) Z) ?_
  refine Qd h2 (fun y51 h3 h2=>?_)
  have ha52:ExecOK Try.prog (some 11) ZS ⟨[(0,.v (.one (.ptr 0 0))),(3,.v (.one (.ptr 2 0))),(4,.v (.one (.ptr 3 0))),(5,.v (.one (.ptr 7 0))),(72,.v (.one (.fn 49 [(9,0),(8,0)]))),(73,.v (.one (Jl x50.name))),(74,.v (.agg [DW 4,DW (a1.length:Int),DW s2.1,DW a0.params,DW x50.ty.kind,DW x50.ty.index,Jl x50.ty.name,DU x50.ty.levels,DU x50.ty.kids]))],m30f4_h23 a1 a2 a0 s2 x50,[],15,95,[]⟩ .normal ⟨[(5,.v (.one (.ptr 7 0))),(8,.v (.one (Jl x50.name))),(9,.v (.one (.ptr 15 0)))],m30f4_h26 a1 a2 a0 s2 x50,[],16,95,[]⟩:=by
   refine QK (fun w0 M V0 ro n Q hv3 hro3 hQn3=>?_)
   refine Q6<|Q0<|DF Z Z Z<|Q3<|Q4<|Q0<|Q9 Z Z (DM Z) (Ql YZ Z)<|Qz Z Z (Qv Jg Z Z Z Z (DM Z) Z)<|Q3 ?_
   exact Jw hQn3 (QH (Dz Z) (hA Z) DN Z (Nat.le_trans hv3 (DM Z)) Z Z Z (bB Z Z (bG Z (bB Z Z (bB Z Z (bG Z (bA Z)))))) Z Z)
  have hb53:ExecOK Try.prog (some 11) ZR ⟨[(5,.v (.one (.ptr 7 0))),(8,.v (.one (Jl x50.name))),(9,.v (.one (.ptr 15 0)))],m30f4_h25 a1 a2 a0 s2 x50,[],16,95,[]⟩ .normal ⟨[],m30f4_h28 a1 a2 a0 s2 x50,[],16,95,[]⟩:=by
   refine QK (fun w0 M V0 ro n Q hv3 hro3 hQn3=>?_)
   refine Qh<|Q0<|DD Z Z Z (Q5 Yp Z Z Z)<|DE Z Z Z<|DD Z Z Z (Qk Jg Z Z Z Z)<|Qz Z Z (Jk (M:=s2.2) (k:=x50.name) (v:=(⟨4,(a1.length:Int),s2.1,a0.params,x50.ty⟩:Ent)) YG Z Z Z Z Z)<|Q3<|Qf ?_
   have e:=DB h3;subst e
   exact Jw hQn3 (QH Dy (hA Z) DN Z (Nat.le_trans hv3 (DM Z)) Z Z Z (bB Z Z (bG Z (bB Z Z (bB Z Z (bG Z (bA Z)))))) Z Z)
  refine Q9 Z Z (DM Z) (Jd (jump:=none) Z Z Z Z Z (Qw ha52 (fun E hv=>(QH (Dz Z) (hA Z) DN Z (Nat.le_trans hv (DM Z)) Z Z Z (bB Z Z (bG Z (bB Z Z (bB Z Z (bG Z (bA Z)))))) Z Z))) Z (Qw hb53 (fun E hv=>(QH (Dz Z) (hA Z) DN Z (Nat.le_trans hv (DM Z)) Z Z Z (bB Z Z (bG Z (bB Z Z (bB Z Z (bG Z (bA Z)))))) Z Z))) Z Z) ?_
  refine DD Z Z Z (Jj Z)<|Q3<|Q4 ?_
  refine Qg Z (fun h=>nomatch h) (fun _=>?_)
  refine Qn<|Qf<|Q4<|Q0<|DD Z Z Z (Q8 Z Z Z)<|DE Z Z Z<|Q3 ?_
  have e:=DB h2;subst e
  refine QW ((Ja (s2.1+1)),(J3 s2.2 x50.name (⟨4,(a1.length:Int),s2.1,a0.params,x50.ty⟩:Ent))) (QH (Dz Z) (hA Z) DN Z (Nat.le_trans hv1 (DM Z)) Z Z Z (bB Z Z (bG Z (bB Z Z (bB Z Z (bG Z (bA Z)))))) Z Z) ho2
  replace h2:=Qj c49 h2
  refine J8<|Qr<|Qr ?_
  have e:=DB h2;subst e
  have e_:_=_:=ho2
  subst e_
  exact J0 s2.2 (QH (Dz Z) (hA Z) DN Z (Nat.le_trans hv1 (DM Z)) Z Z Z (bB Z Z (bG Z (bB Z Z (bB Z Z (bG Z (bA Z)))))) Z Z) h1
  intro o47 h1
  unfold GZ at h1
  refine QQ<|Q4<|Q0<|DE Z Z Z<|DD Z Z Z (Q2 Yb Z)<|DD Z Z Z (Q5 JT Z Z Z) ?_
  refine YI h1 (fun g54 h1=>?_)
  refine DD Z Z Z (Xj Z Z g54)<|DD Z Z Z (Q5 QN Z Z Z)<|DD Z Z Z (Q2 JU Z)<|DD Z Z Z (Q2 KV Z)<|DD Z Z Z (Q5 QN Z Z Z)<|DD Z Z Z (Q2 JU Z)<|DD Z Z Z (Q2 GF Z)<|DD Z Z Z (Qk QX Z Z Z Z)<|DD Z Z Z (JR ZX Z (.cons Z (.cons Z (.cons Z (.cons Z .nil)))) Z) ?_
  refine Qd h1 (fun y55 h2 h1=>?_)
  have ha56:ExecOK Try.prog (some 11) ZS ⟨[(0,.v (.one (.ptr 0 0))),(3,.v (.one (.ptr 2 0))),(4,.v (.one (.ptr 3 0))),(5,.v (.one (.ptr 7 0))),(72,.v (.one (.fn 49 [(9,0),(8,0)]))),(73,.v (.one (Jl (a0.name++([46,114,101,99]:List UInt8))))),(74,.v (.agg [DW 5,DW (a1.length:Int),DW 0,DW a0.rcr.params,DW a0.rcr.ty.kind,DW a0.rcr.ty.index,Jl a0.rcr.ty.name,DU a0.rcr.ty.levels,DU a0.rcr.ty.kids]))],m30f4_h18 a1 a2 a0 o47,[],14,95,[]⟩ .normal ⟨[(5,.v (.one (.ptr 7 0))),(8,.v (.one (Jl (a0.name++([46,114,101,99]:List UInt8))))),(9,.v (.one (.ptr 14 0)))],m30f4_h31 a1 a2 a0 o47,[],15,95,[]⟩:=by
   refine QK (fun w0 M V0 ro n Q hv2 hro2 hQn2=>?_)
   refine Q6<|Q0<|DF Z Z Z<|Q3<|Q4<|Q0<|Q9 Z Z (DM Z) (Ql YZ Z)<|Qz Z Z (Qv Jg Z Z Z Z (DM Z) Z)<|Q3 ?_
   exact Jw hQn2 (QH (Dz Z) (hA Z) DN Z (Nat.le_trans hv2 (DM Z)) Z Z Z (bB Z Z (bG Z (bB Z Z (bB Z Z (bG Z (bA Z)))))) Z Z)
  have hb57:ExecOK Try.prog (some 11) ZR ⟨[(5,.v (.one (.ptr 7 0))),(8,.v (.one (Jl (a0.name++([46,114,101,99]:List UInt8))))),(9,.v (.one (.ptr 14 0)))],m30f4_h30 a1 a2 a0 o47,[],15,95,[]⟩ .normal ⟨[],m30f4_h33 a1 a2 a0 o47,[],15,95,[]⟩:=by
   refine QK (fun w0 M V0 ro n Q hv2 hro2 hQn2=>?_)
   refine Qh<|Q0<|DD Z Z Z (Q5 Yp Z Z Z)<|DE Z Z Z<|DD Z Z Z (Qk Jg Z Z Z Z)<|Qz Z Z (Jk (M:=o47) (k:=(a0.name++([46,114,101,99]:List UInt8))) (v:=(⟨5,(a1.length:Int),0,a0.rcr.params,a0.rcr.ty⟩:Ent)) YG Z Z Z Z Z)<|Q3<|Qf ?_
   have e:=DB h2;subst e
   exact Jw hQn2 (QH Dy (hA Z) DN Z (Nat.le_trans hv2 (DM Z)) Z Z Z (bB Z Z (bG Z (bB Z Z (bB Z Z (bG Z (bA Z)))))) Z Z)
  refine Q9 Z Z (DM Z) (Jd (jump:=none) Z Z Z Z Z (Qw ha56 (fun E hv=>(QH (Dz Z) (hA Z) DN Z (Nat.le_trans hv (DM Z)) Z Z Z (bB Z Z (bG Z (bB Z Z (bB Z Z (bG Z (bA Z)))))) Z Z))) Z (Qw hb57 (fun E hv=>(QH (Dz Z) (hA Z) DN Z (Nat.le_trans hv (DM Z)) Z Z Z (bB Z Z (bG Z (bB Z Z (bB Z Z (bG Z (bA Z)))))) Z Z))) Z Z) ?_
  refine Q3<|Qf ?_
  have e:=DB h1;subst e
  exact hQ1 _ _ _ (.inl Z) Z (QH Dy (hA Z) DN Z (Nat.le_trans hv1 (DM Z)) Z Z Z (bB Z Z (bG Z (bB Z Z (bB Z Z (bG Z (bA Z)))))) Z Z)
  replace h1:=Qj c43 h1
  refine Q6<|Q0<|DD Z Z Z (Q8 Z Z Z)<|DF Z Z Z<|Q3<|Q4 ?_
  refine Qg (b:=(a0.kind==4)) Z (fun c58=>?_) (fun c58=>?_)
  replace h1:=Qi c58 h1
  refine Q6<|Q0<|DD Z Z Z (Q2 YF Z)<|DD Z Z Z (Q5 K6 Z Z Z)<|DD Z Z Z (QD (α:=Fn) YT Z (.d _))<|DE Z Z Z<|Q3<|Q4<|Qh ?_
  refine J2 3 (fun (o59:(Qc Bs Ent))=>⟨[],[(0,.cells 62 [DU a1,.mp 1]),(1,.mp (QT a2.1) a2.2),(2,.cells 45 (DZ a0)),(3,.cells 25 [DW 0]),(6,.mp (QT o59.1) o59.2),(7,.cells 60 [.mp 6]),(8,.cells 45 (DZ a0)),(9,.cells 3 [DW (a1.length:Int)]),(10,.obj (.deferred (some []))),(11,Yn),(12,Kz a1 a0)],[],13,98,[]⟩) (fun (o59:(Qc Bs Ent))=>(some o59)=some y33) ?_ ?_
  refine Qd h1 (fun o60 hl2 h1=>?_)
  refine J1 (Gh a0 a1) (fun s2=>⟨[(0,.v (.one (.yld 11))),(1,.v (.one (.ptr 9 0))),(2,.v (.one (.ptr 8 0))),(78,.v (.one (DU a0.funs))),(79,.v (.one (DW (a0.funs.length:Int)))),(80,.v (.one (DW s2.1)))],[(0,.cells 62 [DU a1,.mp 1]),(1,.mp (QT a2.1) a2.2),(2,.cells 45 (DZ a0)),(3,.cells 25 [DW 0]),(6,.mp (QT s2.2.1) s2.2.2),(7,.cells 60 [.mp 6]),(8,.cells 45 (DZ a0)),(9,.cells 3 [DW (a1.length:Int)]),(10,.obj (.deferred (some []))),(11,Yn),(12,Kz a1 a0)],[],13,98,[]⟩) (0,v19) o60 (QH (Dz Z) (hA Z) DN Z (Nat.le_trans hv1 (DM Z)) Z Z Z (bB Z Z (bG Z (bB Z Z (bB Z Z (bG Z (bA Z)))))) Z Z) hl2 (fun s2 n2 oo2 h2 ho2=>?_)
  unfold Gh at h2
  refine Q6<|Q0<|DD Z Z Z (Q8 Z Z Z)<|Q3<|Q4<|Q6 ?_
  refine Qg (b:=(decide (s2.1 < (a0.funs.length:Int)))) Z (fun c61=>?_) (fun c61=>?_)
  replace h2:=Qi c61 h2
  refine Qn<|Q4<|Q6<|Qh<|Q6<|Q0<|DE Z Z Z ?_
  refine Qd h2 (fun x62 hx62 h2=>?_)
  refine DD Z Z Z (Qy (α:=Fn) YT Z (.d _) Z hx62)<|DD Z Z Z (Qt (x62:Fn) K4 Z)<|Q9 Z Z (DM Z) (Ql Ue Z)<|DF Z Z Z<|Qz Z Z (QC (x62:Fn) K4 Z Z Z Z Z)<|Q3<|Q4<|Q6<|Q0<|DE Z Z Z<|DD Z Z Z (Q2 Xh Z)<|DD Z Z Z (Q5 JT Z Z Z)<|DD Z Z Z (Q5 QN Z Z Z)<|DE Z Z Z ?_
  refine DD Z Z Z (Q2 Ya Z)<|DD Z Z Z (Q5 QN Z Z Z)<|DD Z Z Z (Q2 Xg Z)<|DD Z Z Z (Qk QX Z Z Z Z)<|DD Z Z Z (JR ZX Z (.cons Z (.cons Z (.cons Z (.cons Z (.cons Z .nil))))) Z) ?_
  refine Qd h2 (fun y63 h3 h2=>?_)
  have ha64:ExecOK Try.prog (some 11) ZS ⟨[(0,.v (.one (.ptr 0 0))),(3,.v (.one (.ptr 2 0))),(4,.v (.one (.ptr 3 0))),(5,.v (.one (.ptr 7 0))),(72,.v (.one (.fn 49 [(9,0),(8,0)]))),(73,.v (.one (Jl x62.name))),(74,.v (.agg [DW 6,DW (a1.length:Int),DW s2.1,DW a0.params,DW x62.ty.kind,DW x62.ty.index,Jl x62.ty.name,DU x62.ty.levels,DU x62.ty.kids]))],m30f4_h34 a1 a2 a0 s2 x62,[],14,95,[]⟩ .normal ⟨[(5,.v (.one (.ptr 7 0))),(8,.v (.one (Jl x62.name))),(9,.v (.one (.ptr 14 0)))],m30f4_h37 a1 a2 a0 s2 x62,[],15,95,[]⟩:=by
   refine QK (fun w0 M V0 ro n Q hv3 hro3 hQn3=>?_)
   refine Q6<|Q0<|DF Z Z Z<|Q3<|Q4<|Q0<|Q9 Z Z (DM Z) (Ql YZ Z)<|Qz Z Z (Qv Jg Z Z Z Z (DM Z) Z)<|Q3 ?_
   exact Jw hQn3 (QH (Dz Z) (hA Z) DN Z (Nat.le_trans hv3 (DM Z)) Z Z Z (bB Z Z (bG Z (bB Z Z (bB Z Z (bG Z (bA Z)))))) Z Z)
  have hb65:ExecOK Try.prog (some 11) ZR ⟨[(5,.v (.one (.ptr 7 0))),(8,.v (.one (Jl x62.name))),(9,.v (.one (.ptr 14 0)))],m30f4_h36 a1 a2 a0 s2 x62,[],15,95,[]⟩ .normal ⟨[],m30f4_h39 a1 a2 a0 s2 x62,[],15,95,[]⟩:=by
   refine QK (fun w0 M V0 ro n Q hv3 hro3 hQn3=>?_)
   refine Qh<|Q0<|DD Z Z Z (Q5 Yp Z Z Z)<|DE Z Z Z<|DD Z Z Z (Qk Jg Z Z Z Z)<|Qz Z Z (Jk (M:=s2.2) (k:=x62.name) (v:=(⟨6,(a1.length:Int),s2.1,a0.params,x62.ty⟩:Ent)) YG Z Z Z Z Z)<|Q3<|Qf ?_
   have e:=DB h3;subst e
   exact Jw hQn3 (QH Dy (hA Z) DN Z (Nat.le_trans hv3 (DM Z)) Z Z Z (bB Z Z (bG Z (bB Z Z (bB Z Z (bG Z (bA Z)))))) Z Z)
  refine Q9 Z Z (DM Z) (Jd (jump:=none) Z Z Z Z Z (Qw ha64 (fun E hv=>(QH (Dz Z) (hA Z) DN Z (Nat.le_trans hv (DM Z)) Z Z Z (bB Z Z (bG Z (bB Z Z (bB Z Z (bG Z (bA Z)))))) Z Z))) Z (Qw hb65 (fun E hv=>(QH (Dz Z) (hA Z) DN Z (Nat.le_trans hv (DM Z)) Z Z Z (bB Z Z (bG Z (bB Z Z (bB Z Z (bG Z (bA Z)))))) Z Z))) Z Z) ?_
  refine DD Z Z Z (Jj Z)<|Q3<|Q4 ?_
  refine Qg Z (fun h=>nomatch h) (fun _=>?_)
  refine Qn<|Qf<|Q4<|Q0<|DD Z Z Z (Q8 Z Z Z)<|DE Z Z Z<|Q3 ?_
  have e:=DB h2;subst e
  refine QW ((Ja (s2.1+1)),(J3 s2.2 x62.name (⟨6,(a1.length:Int),s2.1,a0.params,x62.ty⟩:Ent))) (QH (Dz Z) (hA Z) DN Z (Nat.le_trans hv1 (DM Z)) Z Z Z (bB Z Z (bG Z (bB Z Z (bB Z Z (bG Z (bA Z)))))) Z Z) ho2
  replace h2:=Qj c61 h2
  refine J8<|Qr<|Qr ?_
  have e:=DB h2;subst e
  have e_:_=_:=ho2
  subst e_
  exact J0 s2.2 (QH Dy (hA Z) DN Z (Nat.le_trans hv1 (DM Z)) Z Z Z (bB Z Z (bG Z (bB Z Z (bB Z Z (bG Z (bA Z)))))) Z Z) h1
  intro o59 h1
  refine QQ<|Qf ?_
  have e:=DB h1;subst e
  exact hQ1 _ _ _ (.inl Z) Z (QH Dy (hA Z) DN Z (Nat.le_trans hv1 (DM Z)) Z Z Z (bB Z Z (bG Z (bB Z Z (bB Z Z (bG Z (bA Z)))))) Z Z)
  replace h1:=Qj c58 h1
  refine Qn<|Qf ?_
  have e:=DB h1;subst e
  exact hQ1 _ _ _ (.inl Z) Z (QH Dy (hA Z) DN Z (Nat.le_trans hv1 (DM Z)) Z Z Z (bB Z Z (bG Z (bB Z Z (bB Z Z (bG Z (bA Z)))))) Z Z)
 refine Kb (Yi (e:=.normal) rfl hc34 rfl rfl (by intro h;cases h) rfl) rfl ?_
 refine Qf<|Q4<|Q6<|Q6<|Q0<|DD Z Z Z (Q2 YF Z)<|DD Z Z Z (Q5 K6 Z Z Z)<|DD Z Z Z (QD (α:=Fn) YT Z (.d _))<|DE Z Z Z<|Q3<|Q4<|Qh ?_
 refine J2 4 (fun (o66:Unit)=>⟨[(4,.v (.one (.ptr 3 0)))],Gj a1 a2 a0 y33,[],13,95,[3,43,90]⟩) (fun (o66:Unit)=>(some 0)=some r) ?_ ?_
 refine Qd h0 (fun o67 hl1 h0=>?_)
 refine J1 (Kw a0 a1 a2 y33) (fun s1=>⟨[(0,.v (.one (.ptr 0 0))),(3,.v (.one (.ptr 2 0))),(4,.v (.one (.ptr 3 0))),(5,.v (.one (.ptr 7 0))),(79,.v (.one (DU a0.funs))),(80,.v (.one (DW (a0.funs.length:Int)))),(81,.v (.one (DW s1)))],Gj a1 a2 a0 y33,[],13,95,[3,43,90]⟩) 0 o67 (QH (Dz Z) (hA Z) DN Z (Nat.le_trans hv0 (DM Z)) Z Z Z (bB Z Z (bG Z (bB Z Z (bB Z Z (bG Z (bA Z)))))) Z Z) hl1 (fun s1 n1 oo1 h1 ho1=>?_)
 unfold Kw at h1
 refine Q6<|Q0<|DD Z Z Z (Q8 Z Z Z)<|Q3<|Q4<|Q6 ?_
 refine Qg (b:=(decide (s1 < (a0.funs.length:Int)))) Z (fun c68=>?_) (fun c68=>?_)
 replace h1:=Qi c68 h1
 refine Qn<|Q4<|Q6<|Qh<|Q6<|Q0 ?_
 refine Qd h1 (fun x69 hx69 h1=>?_)
 refine DD Z Z Z (Qy (α:=Fn) YT Z (.d _) Z hx69)<|DD Z Z Z (Qt (x69:Fn) K4 Z)<|Q9 Z Z (DM Z) (Ql Ue Z)<|Qz Z Z (QC (x69:Fn) K4 Z Z Z Z Z)<|Q3<|Q4<|Q0<|DE Z Z Z<|DD Z Z Z (Q2 fo_76_3 Z)<|DD Z Z Z (Qk U8 Z Z Z Z)<|DD Z Z Z (Q2 fo_76_2 Z)<|DD Z Z Z (Q5 QN Z Z Z)<|DD Z Z Z (Q2 Ya Z)<|DD Z Z Z (Q5 QN Z Z Z) ?_
 refine DD Z Z Z (Q5 Yp Z Z Z) ?_
 refine Qd h1 (fun x70 hx70 h1=>?_)
 refine JL id hx70 h1 (fun x71 hx71 h1=>?_) (fun x72 hx72 h1=>?_)
 refine Q9 Z Z (DM Z) (Jp (hp1':=[(0,.cells 62 [DU a1,.mp 1]),(1,.mp (QT a2.1) a2.2),(6,.mp (QT y33.1) y33.2)]) (tk1':=[]) (hpF:=m30f4_h40 a0 a1 x69) (tkF:=[]) (res2:=QP []) (nx2:=15) [0,1,6] Z Z (CallE.m (m48f11_ok x69.tree x69.arity 0 a0.params a1 a2 y33 (.inl x71) hx71)) Z Z (DI Z Z (DH Z (DH Z DG))) Z Z (DS Z (DT Z (DT Z DR))) DP (hA Z) DN Z Z Z Z Z (bB Z Z (bG Z (bG Z bZ))) Z Z Z Z)<|Q3<|Qf<|Q4<|Q0<|DD Z Z Z (Q8 Z Z Z)<|DE Z Z Z<|Q3 ?_
 have e:=DB h1;subst e
 refine QW (Ja (s1+1)) (QH (Dz Z) (hA Z) DN Z (Nat.le_trans hv0 (DM Z)) Z Z Z (bB Z Z (bG Z (bB Z Z (bB Z Z (bG Z (bA Z)))))) Z Z) ho1
 refine J6 Z (Yl (hp1':=[(0,.cells 62 [DU a1,.mp 1]),(1,.mp (QT a2.1) a2.2),(6,.mp (QT y33.1) y33.2)]) (tk1':=[]) (hpF:=m30f4_h40 a0 a1 x69) (tkF:=[]) (nx2:=15) [0,1,6] Z Z (CallE.d (m48f11_ok x69.tree x69.arity 0 a0.params a1 a2 y33 (.inr x72) hx72)) Z Z (DI Z Z (DH Z (DH Z DG))) Z (DS Z (DT Z (DT Z DR))) DP (hA Z) DN Z Z Z Z Z (bB Z Z (bG Z (bG Z bZ))) Z Z Z Z) ?_
 have e:=DB h1;subst e
 have e_:_=_:=ho1
 subst e_
 try dsimp only [Sum.elim_inl,Sum.elim_inr] at h0
 have e:=DB h0;subst e
 exact Ji (hQ0 (.panic (Jr (QG 90 x72))) _ Z (WV _ _ _ Z (QH (Dz Z) (hA Z) DN Z (Nat.le_trans hv0 (DM Z)) Z Z Z (bB Z Z (bG Z (bA Z))) Z Z))) (fun _ _ h=>h)
 replace h1:=Qj c68 h1
 refine J8<|Qr<|Qr ?_
 have e:=DB h1;subst e
 have e_:_=_:=ho1
 subst e_
 exact J0 () (QH (Dz Z) (hA Z) DN Z (Nat.le_trans hv0 (DM Z)) Z Z Z (bB Z Z (bG Z (bB Z Z (bB Z Z (bG Z (bA Z)))))) Z Z) h0
 intro o66 h0
 refine QQ<|Q4<|Q6<|Q0<|Qz Z Z (Qv ZE Z Z Z Z (DM Z) Z)<|Q3<|Q4<|QE ?_
 have e:=DB h0;subst e
 exact hQ0 _ _ Z (cendN (.inr Z) (QH (Dz Z) (hA Z) DN Z (Nat.le_trans hv0 (DM Z)) Z Z Z (bB Z Z (bG Z (bA Z))) Z Z))
 refine J6 Z (Yl (hp1':=[(0,.cells 62 [DU a1,.mp 1]),(1,.mp (QT a2.1) a2.2)]) (tk1':=[]) (hpF:=[(2,.cells 45 (DZ a0)),(3,.cells 25 [DW 0])]) (tkF:=[]) (nx2:=6) [0,1] Z Z (CallE.d (m45f7_ok a0 a1 a2 (.inr x6) hx6)) Z Z (DI Z Z (DH Z DG)) Z (DS Z (DT Z DR)) DP (hA Z) DN Z Z Z Z Z (bB Z Z (bG Z bZ)) Z Z Z Z) ?_
 have e:=DB h0;subst e
 exact Ji (hQ0 (.panic (Jr (QG 90 x6))) _ Z (WV _ _ _ Z (QH (Dz Z) (hA Z) DN Z (Nat.le_trans hv0 (DM Z)) Z Z Z (bB Z Z (bG Z (bA Z))) Z Z))) (fun _ _ h=>h)
 refine J6 Z (QF Z Z Z (CallE.d (m44f5_ok a0 (.inr x3) hx3))) ?_
 have e:=DB h0;subst e
 exact Ji (hQ0 (.panic (Jr (QG 90 x3))) _ Z (WV _ _ _ Z (QH (Dz Z) (hA Z) DN Z (Nat.le_trans hv0 (DM Z)) Z Z Z (bB Z Z (bG Z (bA Z))) Z Z))) (fun _ _ h=>h)
noncomputable def m11_l0 (x4:Dcl) (s1:Int×(Qc Bs Ent)×(List Dcl)) (s3:Int×(Qc Bs Ent)):Option (LO (Int×(Qc Bs Ent)) (((Qc Bs Ent)))) :=
 cond (decide (s3.1 < (x4.ctors.length:Int)))
   (Option.bind (Jx x4.ctors s3.1) fun (x24:Ctr) =>
 Option.bind (some ()) (fun (y25:Unit)=>some (.next ((Ja (s3.1+1)),(J3 s3.2 x24.name (⟨4,s1.1,s3.1,x4.params,x24.ty⟩:Ent))))))
   (some (.done s3.2))
noncomputable def m11_l1 (x4:Dcl) (s1:Int×(Qc Bs Ent)×(List Dcl)) (s3:Int×(Qc Bs Ent)):Option (LO (Int×(Qc Bs Ent)) (((Qc Bs Ent)))) :=
 cond (decide (s3.1 < (x4.funs.length:Int)))
   (Option.bind (Jx x4.funs s3.1) fun (x36:Fn) =>
 Option.bind (some ()) (fun (y37:Unit)=>some (.next ((Ja (s3.1+1)),(J3 s3.2 x36.name (⟨6,s1.1,s3.1,x4.params,x36.ty⟩:Ent))))))
   (some (.done s3.2))
noncomputable def WQ (p0_:Bool) (p1_:Dcl) (p2_:Int×(Qc Bs Ent)×(List Dcl)):Option (((Qc Bs Ent))) :=
 cond p0_
   (Option.bind (Jx ([0,1,2]) p1_.kind) fun (b0_:Int) =>
 Option.bind (some ()) (fun (b1_:Unit)=>some (J3 p2_.2.1 p1_.name (⟨b0_,p2_.1,0,p1_.params,p1_.ty⟩:Ent))))
   (cond (p1_.kind==3)
   (Option.bind (some ()) (fun (b2_:Unit)=>Option.bind (Qq (m11_l0 p1_ p2_) QI (0,(J3 p2_.2.1 p1_.name (⟨3,p2_.1,0,p1_.params,p1_.ty⟩:Ent)))) (fun (b3_:(Qc Bs Ent))=>Jh (Nat.ble (p1_.name.length+([46,114,101,99]:List UInt8).length) 1000000000)
 (Option.bind (some ()) (fun (b4_:Unit)=>some (J3 b3_ (p1_.name++([46,114,101,99]:List UInt8)) (⟨5,p2_.1,0,p1_.rcr.params,p1_.rcr.ty⟩:Ent)))))))
   (cond (p1_.kind==4)
   (Option.bind (Qq (m11_l1 p1_ p2_) QI (0,p2_.2.1)) (fun (b5_:(Qc Bs Ent))=>some b5_))
   (some p2_.2.1)))
noncomputable def XI (a0:List Dcl) (s1:Int×(Qc Bs Ent)×(List Dcl)):Option (LO (Int×(Qc Bs Ent)×(List Dcl)) (((Qc Bs Ent)×(List Dcl))⊕(Int×Int))) :=
 cond (decide (s1.1 < (a0.length:Int)))
   (Option.bind (Jx a0 s1.1) fun (x4:Dcl) =>
 Jh (cond (decide (0≤s1.1)) (Nat.ble s1.1.toNat a0.length) false)
 (Option.bind (XV x4 (a0.take s1.1.toNat) s1.2.1) fun (x6:Int) =>
 cond (x6 != 0)
   (some (.done (.inr (s1.1,x6))))
   (Option.bind (some ()) (fun (y8:Unit)=>Option.bind (Option.bind (cond (x4.kind==0)
   (some (x4.kind==0))
   (cond (x4.kind==1)
   (some (x4.kind==1))
   (some (x4.kind==2)))) (fun (v12:Bool)=>WQ v12 x4 s1)) (fun (y10:(Qc Bs Ent))=>some (.next ((Ja (s1.1+1)),y10,(a0.take s1.1.toNat))))))))
   (some (.done (.inl (s1.2.1,s1.2.2))))
noncomputable abbrev m11_h0 (p0_:Int×(Qc Bs Ent)×(List Dcl)) (p1_:List Dcl) (p2_:Dcl):List (Nat×HB) :=
 [(0,.mp (QT p0_.2.1.1) p0_.2.1.2),(1,.cells 62 [DU ((p1_.take p0_.1.toNat):List Dcl),.mp 0]),(2,.cells 59 [.ptr 1 0]),(3,.cells 45 (DZ p2_))]
noncomputable abbrev m11_h1 (p0_:Int×(Qc Bs Ent)×(List Dcl)) (p1_:List Dcl) (p2_:Dcl) (p3_:Int):List (Nat×HB) :=
 [(0,.mp (QT p0_.2.1.1) p0_.2.1.2),(1,.cells 62 [DU ((p1_.take p0_.1.toNat):List Dcl),.mp 0]),(2,.cells 59 [.ptr 1 0]),(3,.cells 45 (DZ p2_)),(5,.cells 25 [DW p3_])]
noncomputable abbrev m11_h2 (p0_:Int×(Qc Bs Ent)×(List Dcl)) (p1_:List Dcl) (p2_:Dcl) (p3_:Int):List (Nat×HB) :=
 [(0,.mp (QT p0_.2.1.1) p0_.2.1.2),(1,.cells 62 [DU ((p1_.take p0_.1.toNat):List Dcl),.mp 0]),(2,.cells 59 [.ptr 1 0]),(3,.cells 45 (DZ p2_)),(5,.cells 25 [DW p3_]),(6,.cells 45 (DZ p2_)),(7,.cells 3 [DW p0_.1])]
noncomputable abbrev Z6 (p0_:List Dcl) (p1_:Int×(Qc Bs Ent)×(List Dcl)):HB :=
 .loop .ready none [(0,.v (.one (DU p0_))),(4,.v (.one (.ptr 2 0))),(16,.v (.one (DU p0_))),(17,.v (.one (DW (p0_.length:Int)))),(18,.v (.one (DW p1_.1))),(38,.v (.one (.fn 49 [(7,0),(6,0)])))] 48 #[39,40] X7 X6 8
noncomputable abbrev m11_h4 (p0_:(Qc Bs Ent)) (p1_:List Dcl) (p2_:Int×(Qc Bs Ent)×(List Dcl)) (p3_:Dcl) (p4_:Int):List (Nat×HB) :=
 [(0,.mp (QT p0_.1) p0_.2),(1,.cells 62 [DU ((p1_.take p2_.1.toNat):List Dcl),.mp 0]),(2,.cells 59 [.ptr 1 0]),(3,.cells 45 (DZ p3_)),(5,.cells 25 [DW p4_]),(6,.cells 45 (DZ p3_)),(7,.cells 3 [DW p2_.1]),(8,.obj (.deferred (some []))),(9,Z6 p1_ p2_)]
noncomputable abbrev X5 (p0_:Int×(Qc Bs Ent)×(List Dcl)) (p1_:Dcl):HB :=
 .cells 35 [DW 0,DW p0_.1,DW 0,DW p1_.params,DW p1_.ty.kind,DW p1_.ty.index,Jl p1_.ty.name,DU p1_.ty.levels,DU p1_.ty.kids]
noncomputable abbrev m11_h6 (p0_:Int×(Qc Bs Ent)×(List Dcl)) (p1_:List Dcl) (p2_:Dcl) (p3_:Int):List (Nat×HB) :=
 [(0,.mp (QT p0_.2.1.1) p0_.2.1.2),(1,.cells 62 [DU ((p1_.take p0_.1.toNat):List Dcl),.mp 0]),(2,.cells 59 [.ptr 1 0]),(3,.cells 45 (DZ p2_)),(5,.cells 25 [DW p3_]),(6,.cells 45 (DZ p2_)),(7,.cells 3 [DW p0_.1]),(8,.obj (.deferred (some []))),(9,Z6 p1_ p0_),(10,X5 p0_ p2_)]
noncomputable abbrev X4 (p0_:Int) (p1_:Int×(Qc Bs Ent)×(List Dcl)) (p2_:Dcl):HB :=
 .cells 35 [DW p0_,DW p1_.1,DW 0,DW p2_.params,DW p2_.ty.kind,DW p2_.ty.index,Jl p2_.ty.name,DU p2_.ty.levels,DU p2_.ty.kids]
noncomputable abbrev m11_h8 (p0_:Int×(Qc Bs Ent)×(List Dcl)) (p1_:List Dcl) (p2_:Dcl) (p3_:Int) (p4_:Int):List (Nat×HB) :=
 [(0,.mp (QT p0_.2.1.1) p0_.2.1.2),(1,.cells 62 [DU ((p1_.take p0_.1.toNat):List Dcl),.mp 0]),(2,.cells 59 [.ptr 1 0]),(3,.cells 45 (DZ p2_)),(5,.cells 25 [DW p3_]),(6,.cells 45 (DZ p2_)),(7,.cells 3 [DW p0_.1]),(8,.obj (.deferred (some []))),(9,Z6 p1_ p0_),(10,X4 p4_ p0_ p2_)]
noncomputable abbrev Zg (p0_:List Dcl) (p1_:Int×(Qc Bs Ent)×(List Dcl)):HB :=
 .loop .busy none [(0,.v (.one (DU p0_))),(4,.v (.one (.ptr 2 0))),(16,.v (.one (DU p0_))),(17,.v (.one (DW (p0_.length:Int)))),(18,.v (.one (DW p1_.1))),(38,.v (.one (.fn 49 [(7,0),(6,0)])))] 48 #[39,40] X7 X6 8
noncomputable abbrev m11_h10 (p0_:Int×(Qc Bs Ent)×(List Dcl)) (p1_:List Dcl) (p2_:Dcl) (p3_:Int) (p4_:Int):List (Nat×HB) :=
 [(0,.mp (QT p0_.2.1.1) p0_.2.1.2),(1,.cells 62 [DU ((p1_.take p0_.1.toNat):List Dcl),.mp 0]),(2,.cells 59 [.ptr 1 0]),(3,.cells 45 (DZ p2_)),(5,.cells 25 [DW p3_]),(6,.cells 45 (DZ p2_)),(7,.cells 3 [DW p0_.1]),(8,.obj (.deferred (some []))),(9,Zg p1_ p0_),(10,X4 p4_ p0_ p2_),(12,X4 p4_ p0_ p2_)]
noncomputable abbrev m11_h11 (p0_:Int×(Qc Bs Ent)×(List Dcl)) (p1_:List Dcl) (p2_:Dcl) (p3_:Int) (p4_:Int):List (Nat×HB) :=
 [(0,.mp (QT p0_.2.1.1) p0_.2.1.2),(1,.cells 62 [DU ((p1_.take p0_.1.toNat):List Dcl),.mp 0]),(2,.cells 59 [.ptr 1 0]),(3,.cells 45 (DZ p2_)),(5,.cells 25 [DW p3_]),(6,.cells 45 (DZ p2_)),(7,.cells 3 [DW p0_.1]),(8,.obj (.deferred (some []))),(9,Z6 p1_ p0_),(10,X4 p4_ p0_ p2_),(12,X4 p4_ p0_ p2_)]
noncomputable abbrev m11_h12 (p0_:Int×(Qc Bs Ent)×(List Dcl)) (p1_:Dcl) (p2_:Int):HB :=
 .mp (QT ((J3 p0_.2.1 p1_.name (⟨p2_,p0_.1,0,p1_.params,p1_.ty⟩:Ent)):Qc Bs Ent).1) ((J3 p0_.2.1 p1_.name (⟨p2_,p0_.1,0,p1_.params,p1_.ty⟩:Ent)):Qc Bs Ent).2
noncomputable abbrev m11_h13 (p0_:Int×(Qc Bs Ent)×(List Dcl)) (p1_:Dcl) (p2_:Int) (p3_:List Dcl) (p4_:Int):List (Nat×HB) :=
 [(0,m11_h12 p0_ p1_ p2_),(1,.cells 62 [DU ((p3_.take p0_.1.toNat):List Dcl),.mp 0]),(2,.cells 59 [.ptr 1 0]),(3,.cells 45 (DZ p1_)),(5,.cells 25 [DW p4_]),(6,.cells 45 (DZ p1_)),(7,.cells 3 [DW p0_.1]),(8,.obj (.deferred (some []))),(9,Zg p3_ p0_),(10,X4 p2_ p0_ p1_)]
noncomputable abbrev m11_h14 (p0_:Int×(Qc Bs Ent)×(List Dcl)) (p1_:Dcl) (p2_:Int) (p3_:List Dcl) (p4_:Int):List (Nat×HB) :=
 [(0,m11_h12 p0_ p1_ p2_),(1,.cells 62 [DU ((p3_.take p0_.1.toNat):List Dcl),.mp 0]),(2,.cells 59 [.ptr 1 0]),(3,.cells 45 (DZ p1_)),(5,.cells 25 [DW p4_]),(6,.cells 45 (DZ p1_)),(7,.cells 3 [DW p0_.1]),(8,.obj (.deferred (some []))),(9,Zg p3_ p0_),(10,X4 p2_ p0_ p1_),(12,X4 p2_ p0_ p1_)]
noncomputable abbrev Y9 (p0_:Int×(Qc Bs Ent)×(List Dcl)) (p1_:Dcl):HB :=
 .cells 35 [DW 3,DW p0_.1,DW 0,DW p1_.params,DW p1_.ty.kind,DW p1_.ty.index,Jl p1_.ty.name,DU p1_.ty.levels,DU p1_.ty.kids]
noncomputable abbrev m11_h16 (p0_:Int×(Qc Bs Ent)×(List Dcl)) (p1_:List Dcl) (p2_:Dcl) (p3_:Int):List (Nat×HB) :=
 [(0,.mp (QT p0_.2.1.1) p0_.2.1.2),(1,.cells 62 [DU ((p1_.take p0_.1.toNat):List Dcl),.mp 0]),(2,.cells 59 [.ptr 1 0]),(3,.cells 45 (DZ p2_)),(5,.cells 25 [DW p3_]),(6,.cells 45 (DZ p2_)),(7,.cells 3 [DW p0_.1]),(8,.obj (.deferred (some []))),(9,Z6 p1_ p0_),(10,Y9 p0_ p2_)]
noncomputable abbrev m11_h17 (p0_:Int×(Qc Bs Ent)×(List Dcl)) (p1_:List Dcl) (p2_:Dcl) (p3_:Int):List (Nat×HB) :=
 [(0,.mp (QT p0_.2.1.1) p0_.2.1.2),(1,.cells 62 [DU ((p1_.take p0_.1.toNat):List Dcl),.mp 0]),(2,.cells 59 [.ptr 1 0]),(3,.cells 45 (DZ p2_)),(5,.cells 25 [DW p3_]),(6,.cells 45 (DZ p2_)),(7,.cells 3 [DW p0_.1]),(8,.obj (.deferred (some []))),(9,Zg p1_ p0_),(10,Y9 p0_ p2_),(11,Y9 p0_ p2_)]
noncomputable abbrev m11_h18 (p0_:Int×(Qc Bs Ent)×(List Dcl)) (p1_:List Dcl) (p2_:Dcl) (p3_:Int):List (Nat×HB) :=
 [(0,.mp (QT p0_.2.1.1) p0_.2.1.2),(1,.cells 62 [DU ((p1_.take p0_.1.toNat):List Dcl),.mp 0]),(2,.cells 59 [.ptr 1 0]),(3,.cells 45 (DZ p2_)),(5,.cells 25 [DW p3_]),(6,.cells 45 (DZ p2_)),(7,.cells 3 [DW p0_.1]),(8,.obj (.deferred (some []))),(9,Z6 p1_ p0_),(10,Y9 p0_ p2_),(11,Y9 p0_ p2_)]
noncomputable abbrev m11_h19 (p0_:Int×(Qc Bs Ent)×(List Dcl)) (p1_:Dcl):HB :=
 .mp (QT ((J3 p0_.2.1 p1_.name (⟨3,p0_.1,0,p1_.params,p1_.ty⟩:Ent)):Qc Bs Ent).1) ((J3 p0_.2.1 p1_.name (⟨3,p0_.1,0,p1_.params,p1_.ty⟩:Ent)):Qc Bs Ent).2
noncomputable abbrev m11_h20 (p0_:Int×(Qc Bs Ent)×(List Dcl)) (p1_:Dcl) (p2_:List Dcl) (p3_:Int):List (Nat×HB) :=
 [(0,m11_h19 p0_ p1_),(1,.cells 62 [DU ((p2_.take p0_.1.toNat):List Dcl),.mp 0]),(2,.cells 59 [.ptr 1 0]),(3,.cells 45 (DZ p1_)),(5,.cells 25 [DW p3_]),(6,.cells 45 (DZ p1_)),(7,.cells 3 [DW p0_.1]),(8,.obj (.deferred (some []))),(9,Zg p2_ p0_),(10,Y9 p0_ p1_)]
noncomputable abbrev m11_h21 (p0_:Int×(Qc Bs Ent)×(List Dcl)) (p1_:Dcl) (p2_:List Dcl) (p3_:Int):List (Nat×HB) :=
 [(0,m11_h19 p0_ p1_),(1,.cells 62 [DU ((p2_.take p0_.1.toNat):List Dcl),.mp 0]),(2,.cells 59 [.ptr 1 0]),(3,.cells 45 (DZ p1_)),(5,.cells 25 [DW p3_]),(6,.cells 45 (DZ p1_)),(7,.cells 3 [DW p0_.1]),(8,.obj (.deferred (some []))),(9,Zg p2_ p0_),(10,Y9 p0_ p1_),(11,Y9 p0_ p1_)]
noncomputable abbrev m11_h22 (p0_:Int×(Qc Bs Ent)) (p1_:List Dcl) (p2_:Int×(Qc Bs Ent)×(List Dcl)) (p3_:Dcl) (p4_:Int) (p5_:Ctr):List (Nat×HB) :=
 [(0,.mp (QT p0_.2.1) p0_.2.2),(1,.cells 62 [DU ((p1_.take p2_.1.toNat):List Dcl),.mp 0]),(2,.cells 59 [.ptr 1 0]),(3,.cells 45 (DZ p3_)),(5,.cells 25 [DW p4_]),(6,.cells 45 (DZ p3_)),(7,.cells 3 [DW p2_.1]),(8,.obj (.deferred (some []))),(9,Z6 p1_ p2_),(10,Y9 p2_ p3_),(12,.cells 71 (DZ p5_))]
noncomputable abbrev m11_h23 (p0_:Int×(Qc Bs Ent)×(List Dcl)) (p1_:Int×(Qc Bs Ent)) (p2_:Dcl) (p3_:Ctr):HB :=
 .cells 35 [DW 4,DW p0_.1,DW p1_.1,DW p2_.params,DW p3_.ty.kind,DW p3_.ty.index,Jl p3_.ty.name,DU p3_.ty.levels,DU p3_.ty.kids]
noncomputable abbrev m11_h24 (p0_:Int×(Qc Bs Ent)) (p1_:List Dcl) (p2_:Int×(Qc Bs Ent)×(List Dcl)) (p3_:Dcl) (p4_:Int) (p5_:Ctr):List (Nat×HB) :=
 [(0,.mp (QT p0_.2.1) p0_.2.2),(1,.cells 62 [DU ((p1_.take p2_.1.toNat):List Dcl),.mp 0]),(2,.cells 59 [.ptr 1 0]),(3,.cells 45 (DZ p3_)),(5,.cells 25 [DW p4_]),(6,.cells 45 (DZ p3_)),(7,.cells 3 [DW p2_.1]),(8,.obj (.deferred (some []))),(9,Zg p1_ p2_),(10,Y9 p2_ p3_),(12,.cells 71 (DZ p5_)),(13,m11_h23 p2_ p0_ p3_ p5_)]
noncomputable abbrev m11_h25 (p0_:Int×(Qc Bs Ent)) (p1_:List Dcl) (p2_:Int×(Qc Bs Ent)×(List Dcl)) (p3_:Dcl) (p4_:Int) (p5_:Ctr):List (Nat×HB) :=
 [(0,.mp (QT p0_.2.1) p0_.2.2),(1,.cells 62 [DU ((p1_.take p2_.1.toNat):List Dcl),.mp 0]),(2,.cells 59 [.ptr 1 0]),(3,.cells 45 (DZ p3_)),(5,.cells 25 [DW p4_]),(6,.cells 45 (DZ p3_)),(7,.cells 3 [DW p2_.1]),(8,.obj (.deferred (some []))),(9,Z6 p1_ p2_),(10,Y9 p2_ p3_),(12,.cells 71 (DZ p5_)),(13,m11_h23 p2_ p0_ p3_ p5_)]
noncomputable abbrev m11_h26 (p0_:Int×(Qc Bs Ent)) (p1_:Ctr) (p2_:Int×(Qc Bs Ent)×(List Dcl)) (p3_:Dcl):HB :=
 .mp (QT ((J3 p0_.2 p1_.name (⟨4,p2_.1,p0_.1,p3_.params,p1_.ty⟩:Ent)):Qc Bs Ent).1) ((J3 p0_.2 p1_.name (⟨4,p2_.1,p0_.1,p3_.params,p1_.ty⟩:Ent)):Qc Bs Ent).2
noncomputable abbrev m11_h27 (p0_:Int×(Qc Bs Ent)) (p1_:Ctr) (p2_:Int×(Qc Bs Ent)×(List Dcl)) (p3_:Dcl) (p4_:List Dcl) (p5_:Int):List (Nat×HB) :=
 [(0,m11_h26 p0_ p1_ p2_ p3_),(1,.cells 62 [DU ((p4_.take p2_.1.toNat):List Dcl),.mp 0]),(2,.cells 59 [.ptr 1 0]),(3,.cells 45 (DZ p3_)),(5,.cells 25 [DW p5_]),(6,.cells 45 (DZ p3_)),(7,.cells 3 [DW p2_.1]),(8,.obj (.deferred (some []))),(9,Zg p4_ p2_),(10,Y9 p2_ p3_),(12,.cells 71 (DZ p1_))]
noncomputable abbrev m11_h28 (p0_:Int×(Qc Bs Ent)) (p1_:Ctr) (p2_:Int×(Qc Bs Ent)×(List Dcl)) (p3_:Dcl) (p4_:List Dcl) (p5_:Int):List (Nat×HB) :=
 [(0,m11_h26 p0_ p1_ p2_ p3_),(1,.cells 62 [DU ((p4_.take p2_.1.toNat):List Dcl),.mp 0]),(2,.cells 59 [.ptr 1 0]),(3,.cells 45 (DZ p3_)),(5,.cells 25 [DW p5_]),(6,.cells 45 (DZ p3_)),(7,.cells 3 [DW p2_.1]),(8,.obj (.deferred (some []))),(9,Zg p4_ p2_),(10,Y9 p2_ p3_),(12,.cells 71 (DZ p1_)),(13,m11_h23 p2_ p0_ p3_ p1_)]
noncomputable abbrev m11_h29 (p0_:(Qc Bs Ent)) (p1_:List Dcl) (p2_:Int×(Qc Bs Ent)×(List Dcl)) (p3_:Dcl) (p4_:Int):List (Nat×HB) :=
 [(0,.mp (QT p0_.1) p0_.2),(1,.cells 62 [DU ((p1_.take p2_.1.toNat):List Dcl),.mp 0]),(2,.cells 59 [.ptr 1 0]),(3,.cells 45 (DZ p3_)),(5,.cells 25 [DW p4_]),(6,.cells 45 (DZ p3_)),(7,.cells 3 [DW p2_.1]),(8,.obj (.deferred (some []))),(9,Z6 p1_ p2_),(10,Y9 p2_ p3_)]
noncomputable abbrev m11_h30 (p0_:Int×(Qc Bs Ent)×(List Dcl)) (p1_:Dcl):HB :=
 .cells 35 [DW 5,DW p0_.1,DW 0,DW p1_.rcr.params,DW p1_.rcr.ty.kind,DW p1_.rcr.ty.index,Jl p1_.rcr.ty.name,DU p1_.rcr.ty.levels,DU p1_.rcr.ty.kids]
noncomputable abbrev m11_h31 (p0_:(Qc Bs Ent)) (p1_:List Dcl) (p2_:Int×(Qc Bs Ent)×(List Dcl)) (p3_:Dcl) (p4_:Int):List (Nat×HB) :=
 [(0,.mp (QT p0_.1) p0_.2),(1,.cells 62 [DU ((p1_.take p2_.1.toNat):List Dcl),.mp 0]),(2,.cells 59 [.ptr 1 0]),(3,.cells 45 (DZ p3_)),(5,.cells 25 [DW p4_]),(6,.cells 45 (DZ p3_)),(7,.cells 3 [DW p2_.1]),(8,.obj (.deferred (some []))),(9,Zg p1_ p2_),(10,Y9 p2_ p3_),(12,m11_h30 p2_ p3_)]
noncomputable abbrev m11_h32 (p0_:(Qc Bs Ent)) (p1_:List Dcl) (p2_:Int×(Qc Bs Ent)×(List Dcl)) (p3_:Dcl) (p4_:Int):List (Nat×HB) :=
 [(0,.mp (QT p0_.1) p0_.2),(1,.cells 62 [DU ((p1_.take p2_.1.toNat):List Dcl),.mp 0]),(2,.cells 59 [.ptr 1 0]),(3,.cells 45 (DZ p3_)),(5,.cells 25 [DW p4_]),(6,.cells 45 (DZ p3_)),(7,.cells 3 [DW p2_.1]),(8,.obj (.deferred (some []))),(9,Z6 p1_ p2_),(10,Y9 p2_ p3_),(12,m11_h30 p2_ p3_)]
noncomputable abbrev m11_h33 (p0_:(Qc Bs Ent)) (p1_:Dcl) (p2_:Int×(Qc Bs Ent)×(List Dcl)):HB :=
 .mp (QT ((J3 p0_ (p1_.name++([46,114,101,99]:List UInt8)) (⟨5,p2_.1,0,p1_.rcr.params,p1_.rcr.ty⟩:Ent)):Qc Bs Ent).1) ((J3 p0_ (p1_.name++([46,114,101,99]:List UInt8)) (⟨5,p2_.1,0,p1_.rcr.params,p1_.rcr.ty⟩:Ent)):Qc Bs Ent).2
noncomputable abbrev m11_h34 (p0_:(Qc Bs Ent)) (p1_:Dcl) (p2_:Int×(Qc Bs Ent)×(List Dcl)) (p3_:List Dcl) (p4_:Int):List (Nat×HB) :=
 [(0,m11_h33 p0_ p1_ p2_),(1,.cells 62 [DU ((p3_.take p2_.1.toNat):List Dcl),.mp 0]),(2,.cells 59 [.ptr 1 0]),(3,.cells 45 (DZ p1_)),(5,.cells 25 [DW p4_]),(6,.cells 45 (DZ p1_)),(7,.cells 3 [DW p2_.1]),(8,.obj (.deferred (some []))),(9,Zg p3_ p2_),(10,Y9 p2_ p1_)]
noncomputable abbrev m11_h35 (p0_:(Qc Bs Ent)) (p1_:Dcl) (p2_:Int×(Qc Bs Ent)×(List Dcl)) (p3_:List Dcl) (p4_:Int):List (Nat×HB) :=
 [(0,m11_h33 p0_ p1_ p2_),(1,.cells 62 [DU ((p3_.take p2_.1.toNat):List Dcl),.mp 0]),(2,.cells 59 [.ptr 1 0]),(3,.cells 45 (DZ p1_)),(5,.cells 25 [DW p4_]),(6,.cells 45 (DZ p1_)),(7,.cells 3 [DW p2_.1]),(8,.obj (.deferred (some []))),(9,Zg p3_ p2_),(10,Y9 p2_ p1_),(12,m11_h30 p2_ p1_)]
noncomputable abbrev m11_h36 (p0_:Int×(Qc Bs Ent)) (p1_:List Dcl) (p2_:Int×(Qc Bs Ent)×(List Dcl)) (p3_:Dcl) (p4_:Int) (p5_:Fn):List (Nat×HB) :=
 [(0,.mp (QT p0_.2.1) p0_.2.2),(1,.cells 62 [DU ((p1_.take p2_.1.toNat):List Dcl),.mp 0]),(2,.cells 59 [.ptr 1 0]),(3,.cells 45 (DZ p3_)),(5,.cells 25 [DW p4_]),(6,.cells 45 (DZ p3_)),(7,.cells 3 [DW p2_.1]),(8,.obj (.deferred (some []))),(9,Z6 p1_ p2_),(10,X5 p2_ p3_),(11,.cells 76 (DZ p5_))]
noncomputable abbrev m11_h37 (p0_:Int×(Qc Bs Ent)×(List Dcl)) (p1_:Int×(Qc Bs Ent)) (p2_:Dcl) (p3_:Fn):HB :=
 .cells 35 [DW 6,DW p0_.1,DW p1_.1,DW p2_.params,DW p3_.ty.kind,DW p3_.ty.index,Jl p3_.ty.name,DU p3_.ty.levels,DU p3_.ty.kids]
noncomputable abbrev m11_h38 (p0_:Int×(Qc Bs Ent)) (p1_:List Dcl) (p2_:Int×(Qc Bs Ent)×(List Dcl)) (p3_:Dcl) (p4_:Int) (p5_:Fn):List (Nat×HB) :=
 [(0,.mp (QT p0_.2.1) p0_.2.2),(1,.cells 62 [DU ((p1_.take p2_.1.toNat):List Dcl),.mp 0]),(2,.cells 59 [.ptr 1 0]),(3,.cells 45 (DZ p3_)),(5,.cells 25 [DW p4_]),(6,.cells 45 (DZ p3_)),(7,.cells 3 [DW p2_.1]),(8,.obj (.deferred (some []))),(9,Zg p1_ p2_),(10,X5 p2_ p3_),(11,.cells 76 (DZ p5_)),(12,m11_h37 p2_ p0_ p3_ p5_)]
noncomputable abbrev m11_h39 (p0_:Int×(Qc Bs Ent)) (p1_:List Dcl) (p2_:Int×(Qc Bs Ent)×(List Dcl)) (p3_:Dcl) (p4_:Int) (p5_:Fn):List (Nat×HB) :=
 [(0,.mp (QT p0_.2.1) p0_.2.2),(1,.cells 62 [DU ((p1_.take p2_.1.toNat):List Dcl),.mp 0]),(2,.cells 59 [.ptr 1 0]),(3,.cells 45 (DZ p3_)),(5,.cells 25 [DW p4_]),(6,.cells 45 (DZ p3_)),(7,.cells 3 [DW p2_.1]),(8,.obj (.deferred (some []))),(9,Z6 p1_ p2_),(10,X5 p2_ p3_),(11,.cells 76 (DZ p5_)),(12,m11_h37 p2_ p0_ p3_ p5_)]
noncomputable abbrev m11_h40 (p0_:Int×(Qc Bs Ent)) (p1_:Fn) (p2_:Int×(Qc Bs Ent)×(List Dcl)) (p3_:Dcl):HB :=
 .mp (QT ((J3 p0_.2 p1_.name (⟨6,p2_.1,p0_.1,p3_.params,p1_.ty⟩:Ent)):Qc Bs Ent).1) ((J3 p0_.2 p1_.name (⟨6,p2_.1,p0_.1,p3_.params,p1_.ty⟩:Ent)):Qc Bs Ent).2
noncomputable abbrev m11_h41 (p0_:Int×(Qc Bs Ent)) (p1_:Fn) (p2_:Int×(Qc Bs Ent)×(List Dcl)) (p3_:Dcl) (p4_:List Dcl) (p5_:Int):List (Nat×HB) :=
 [(0,m11_h40 p0_ p1_ p2_ p3_),(1,.cells 62 [DU ((p4_.take p2_.1.toNat):List Dcl),.mp 0]),(2,.cells 59 [.ptr 1 0]),(3,.cells 45 (DZ p3_)),(5,.cells 25 [DW p5_]),(6,.cells 45 (DZ p3_)),(7,.cells 3 [DW p2_.1]),(8,.obj (.deferred (some []))),(9,Zg p4_ p2_),(10,X5 p2_ p3_),(11,.cells 76 (DZ p1_))]
noncomputable abbrev m11_h42 (p0_:Int×(Qc Bs Ent)) (p1_:Fn) (p2_:Int×(Qc Bs Ent)×(List Dcl)) (p3_:Dcl) (p4_:List Dcl) (p5_:Int):List (Nat×HB) :=
 [(0,m11_h40 p0_ p1_ p2_ p3_),(1,.cells 62 [DU ((p4_.take p2_.1.toNat):List Dcl),.mp 0]),(2,.cells 59 [.ptr 1 0]),(3,.cells 45 (DZ p3_)),(5,.cells 25 [DW p5_]),(6,.cells 45 (DZ p3_)),(7,.cells 3 [DW p2_.1]),(8,.obj (.deferred (some []))),(9,Zg p4_ p2_),(10,X5 p2_ p3_),(11,.cells 76 (DZ p1_)),(12,m11_h37 p2_ p0_ p3_ p1_)]
noncomputable def Ux (a0:List Dcl):Option (Int×Int) :=
 cond (decide (1000 < (a0.length:Int)))
   (some (1000,6))
   (Option.bind (Qq (XI a0) QI (0,gmNil,([]:List Dcl))) (Sum.elim (fun (o2:(Qc Bs Ent)×(List Dcl))=>some (0,0)) (fun o=>some o)))
end Go.Proofs.Ytafddfoefeploaa
namespace Go.Proofs.Ytafddfoefeploaa
open Go.RowKit Go.Shelf
theorem z_59:Jy Try.prog 59=some [.pointer none]:=by kernel_rfl
theorem bd_62:Y6 Try.prog 62 [(0,1),(1,1)] [.slice none 0 0,.map none]:=⟨by kernel_rfl,by kernel_rfl⟩
theorem en_11:J4 Try.prog 11:=enters_of Try.func11 (by kernel_rfl) rfl
theorem WP (a0:List Dcl) (r:Int×Int) (h0:Ux a0=some r):Fun Try.prog 11 [.one (DU a0)] (QP [.one (DW r.1),.one (DW r.2)]):=by
 unfold Ux at h0
 refine QS 9 48 Try.func11 Z en_11 Z (DM Z) (fun S w=>?_)
 simp only [Jb]
 refine Q6<|Q0<|DF Z Z Z<|DF Z Z Z<|Q3<|Q4<|Q6<|Q6<|Q0<|DE Z Z Z<|DD Z Z Z (QD (α:=Dcl) JW Z (.d _))<|DD Z Z Z (Q8 Z Z Z)<|Q3<|Q4 ?_
 refine Qg (b:=(decide (1000 < (a0.length:Int)))) Z (fun c1=>?_) (fun c1=>?_)
 replace h0:=Qi c1 h0
 refine Q6<|Q0<|DF Z Z Z<|DF Z Z Z<|Q3<|Q4<|QE ?_
 have e:=DB h0;subst e
 exact QJ (fun _ _ h=>h) Z (QB Z (QB Z .nil)) (.cons (.one (.d _)) (.cons (.one (.d _)) .nil))
 replace h0:=Qj c1 h0
 refine Qn<|Q4<|Q6<|Q0<|Q9 Z Z (DM Z) (OpOK.makeMapG Bs Ent)<|DD Z Z Z (Gt bd_62 Z Z Z)<|Q9 Z Z (DM Z) (QV Z)<|Q9 Z Z (DM Z) (Ql z_59 Z)<|Qz Z Z (Qv Xq Z Z Z Z (DM Z) Z)<|Q3<|Q4<|Q6<|Q6<|Q0 ?_
 refine DE Z Z Z<|DD Z Z Z (QD (α:=Dcl) JW Z (.d _))<|DE Z Z Z<|Q3<|Q4<|Qh ?_
 refine J2 0 (fun (o2:(Qc Bs Ent)×(List Dcl))=>⟨[],[(0,.mp (QT o2.1.1) o2.1.2),(1,.cells 62 [DU o2.2,.mp 0]),(2,.cells 59 [.ptr 1 0])],[],3,48,[]⟩) (fun (o2:(Qc Bs Ent)×(List Dcl))=>(some (0,0))=some r) ?_ ?_
 refine Qd h0 (fun o3 hl1 h0=>?_)
 refine J1 (XI a0) (fun s1=>⟨[(0,.v (.one (DU a0))),(4,.v (.one (.ptr 2 0))),(16,.v (.one (DU a0))),(17,.v (.one (DW (a0.length:Int)))),(18,.v (.one (DW s1.1)))],[(0,.mp (QT s1.2.1.1) s1.2.1.2),(1,.cells 62 [DU s1.2.2,.mp 0]),(2,.cells 59 [.ptr 1 0])],[],3,48,[]⟩) (0,gmNil,([]:List Dcl)) o3 (QH (Dz Z) (DQ Z (hC Z (.cons (.sub (.nil _)) (.cons (.refl _) .nil)) (hA Z))) DN Z (Nat.zero_le _) Z Z Z (bG Z (bA Z)) Z Z) hl1 (fun s1 n1 oo1 h1 ho1=>?_)
 unfold XI at h1
 refine Q6<|Q0<|DD Z Z Z (Q8 Z Z Z)<|Q3<|Q4<|Q6 ?_
 refine Qg (b:=(decide (s1.1 < (a0.length:Int)))) Z (fun c4=>?_) (fun c4=>?_)
 replace h1:=Qi c4 h1
 refine Qn<|Q4<|Q6<|Qh<|Q6<|Q0<|DE Z Z Z ?_
 refine Qd h1 (fun x5 hx5 h1=>?_)
 refine DD Z Z Z (Qy (α:=Dcl) JW Z (.d _) Z hx5)<|DD Z Z Z (Qt (x5:Dcl) JK Z)<|Q9 Z Z (DM Z) (Ql Xk Z)<|DF Z Z Z<|Qz Z Z (QC (x5:Dcl) JK Z Z Z Z Z)<|Q3<|Q4<|Q6 ?_
 refine Js [6] [] YU (by kernel_rfl) (by kernel_rfl) (by kernel_rfl) ?_
 refine RunA.rd Z Z Z (Q1 (Q5 Xq Z Z Z)) Z<|RunA.rd Z Z Z (Q1 (Qp Z)) Z<|RunA.rd Z Z Z (Q1 (Qp Z)) Z ?_
 refine YI h1 (fun g6 h1=>?_)
 refine RunA.rd Z Z Z (Q1 (RO.sliceTo (α:=Dcl) JW Z (.d _) Z g6)) Z<|RunA.rd Z Z Z (Q1 (Jo Z)) Z<|RunA.rd Z Z Z (Q1 (Q2 fo_62_0 Z)) Z<|RunA.eff Z Z Z (Qv ag_22 Z Z Z Z (DM Z) Z) Z ?_
 refine RunA.nil ⟨?ex,_,_,Z,?_⟩
 case ex=>exact trivial
 refine JV (st':=⟨[(0,.v (.one (DU a0))),(4,.v (.one (.ptr 2 0))),(5,.v (.one (DW s1.1))),(6,.v (.one (.ptr 3 0))),(16,.v (.one (DU a0))),(17,.v (.one (DW (a0.length:Int)))),(18,.v (.one (DW s1.1)))],m11_h0 s1 a0 x5,[],4,48,[]⟩) (QH (Dz Z) (hA Z) DN Z (Nat.zero_le _) Z Z Z (bG Z (bA Z)) Z Z)<|Q4<|Q6<|Q6<|Q0<|DD Z Z Z (Q5 Xq Z Z Z)<|DD Z Z Z (QM (x5:Dcl) JK Z Z) ?_
 refine Qd h1 (fun x7 hx7 h1=>?_)
 refine Q9 Z Z (DM Z) (Jp (hp1':=[(1,.cells 62 [DU ((a0.take s1.1.toNat):List Dcl),.mp 0]),(0,.mp (QT s1.2.1.1) s1.2.1.2),(5,.cells 25 [DW x7])]) (tk1':=[]) (hpF:=[(2,.cells 59 [.ptr 1 0]),(3,.cells 45 (DZ x5))]) (tkF:=[]) (res2:=QP [.one (DW x7)]) (nx2:=6) [1,0] Z Z (m30f4_ok x5 (a0.take s1.1.toNat) s1.2.1 x7 hx7) Z Z (DI Z Z (DH Z (DI Z Z DG))) Z Z (DS Z (DT Z DR)) DP (hA Z) DN Z Z Z Z Z (bB Z Z (bG Z bZ)) Z Z Z Z)<|DF Z Z Z<|Q3<|Q4<|Q6<|Q0<|DE Z Z Z<|DD Z Z Z (Q8 Z Z Z)<|Q3<|Q4 ?_
 refine Qg (b:=(x7 != 0)) Z (fun c8=>?_) (fun c8=>?_)
 replace h1:=Qi c8 h1
 refine Q6<|Q0<|DE Z Z Z<|DE Z Z Z<|DF Z Z Z<|DF Z Z Z<|Q3<|Q4<|QE ?_
 have e:=DB h1;subst e
 have e_:_=_:=ho1
 subst e_
 try dsimp only [Sum.elim_inl,Sum.elim_inr] at h0
 have e:=DB h0;subst e
 exact QJ (fun _ _ h=>h) Z (QB Z (QB Z .nil)) (.cons (.one (.d _)) (.cons (.one (.d _)) .nil))
 replace h1:=Qj c8 h1
 refine Qn<|Q4<|Q6<|Q0<|DD Z Z Z (QM (x5:Dcl) JK Z Z)<|DE Z Z Z ?_
 refine Qd h1 (fun y9 h2 h1=>?_)
 have hc10:CallM Try.prog 31 [.agg (DZ x5),.one (DW s1.1)] ⟨m11_h1 s1 a0 x5 x7,[],6⟩ (QP [.one (.fn 49 [(7,0),(6,0)])]) ⟨m11_h2 s1 a0 x5 x7,[],8⟩:=by
  refine Jc ⟨[(4,.v (.one (.fn 49 [(7,0),(6,0)])))],m11_h2 s1 a0 x5 x7,[],8,6,[]⟩ Z Z en_31 (DM Z) Z (QB Z .nil) (fun w0 M V0 Q hv2 hQ2=>?_)
  simp only [Jb]
  refine Q6<|Q0<|Q9 Z Z (DM Z) (QV Z)<|Q9 Z Z (DM Z) (QV Z)<|DF Z Z Z<|Q3<|Q4<|Q6<|Q0<|DD Z Z Z (RO.makeFunc2 Z Z)<|DF Z Z Z<|Q3<|Q4<|QE ?_
  have e:=DB h2;subst e
  exact hQ2 _ _ _ (.inr Z) Z (QH (Dz Z) (hA Z) DN Z (Nat.le_trans hv2 (DM Z)) Z Z Z (bG Z (bA Z)) Z Z)
 refine Q9 Z Z (DM Z) (JO Z Z Z hc10 Z (hA Z) DN)<|Q3<|Q4<|Qh<|GG (st':=⟨[(0,.v (.one (DU a0))),(4,.v (.one (.ptr 2 0))),(16,.v (.one (DU a0))),(17,.v (.one (DW (a0.length:Int)))),(18,.v (.one (DW s1.1))),(38,.v (.one (.fn 49 [(7,0),(6,0)])))],m11_h2 s1 a0 x5 x7,[],8,48,[]⟩) (QH (Dz Z) (hA Z) DN Z (Nat.zero_le _) Z Z Z (bG Z (bA Z)) Z Z) ?_
 refine Qd h1 (fun y11 h2 h1=>?_)
 have hc12:CallM Try.prog 49 [.one (.yld 9),.one (.ptr 7 0),.one (.ptr 6 0)] ⟨[(9,.loop .ready none [(0,.v (.one (DU a0))),(4,.v (.one (.ptr 2 0))),(16,.v (.one (DU a0))),(17,.v (.one (DW (a0.length:Int)))),(18,.v (.one (DW s1.1))),(38,.v (.one (.fn 49 [(7,0),(6,0)])))] 48 #[39,40] X7 X6 8),(8,.obj (.deferred (some []))),(0,.mp (QT s1.2.1.1) s1.2.1.2),(1,.cells 62 [DU ((a0.take s1.1.toNat):List Dcl),.mp 0]),(2,.cells 59 [.ptr 1 0]),(3,.cells 45 (DZ x5)),(5,.cells 25 [DW x7]),(6,.cells 45 (DZ x5)),(7,.cells 3 [DW s1.1])],[],10⟩ (QP []) ⟨m11_h4 y11 a0 s1 x5 x7,[],11⟩:=by
  refine Jc ⟨[],m11_h4 y11 a0 s1 x5 x7,[],11,98,[]⟩ Z Z en_49 (DM Z) Z .nil (fun w0 M V0 Q hv2 hQ2=>?_)
  simp only [Jb]
  refine Q6<|Q0<|DD Z Z Z (Q5 QN Z Z Z)<|DD Z Z Z (Q2 Ya Z)<|DD Z Z Z (Q5 QN Z Z Z)<|DD Z Z Z (Q2 KU Z)<|DD Z Z Z (Qk QX Z Z Z Z)<|DD Z Z Z (Zn ZX Z Z Z Z Z)<|Q9 Z Z (DM Z) (Ql YZ Z)<|Qz Z Z (Qv Jg Z Z Z Z (DM Z) Z)<|Q3<|Q4<|Q6<|Q0 ?_
  refine DD Z Z Z (Q2 Yg Z)<|DD Z Z Z (Q5 QN Z Z Z)<|Q3<|Q4<|Qh<|Q6<|Q6<|Q0<|DD Z Z Z (Q8 Z Z Z)<|DF Z Z Z<|Q3<|Q4 ?_
  refine QO (fun (v13:Bool)=>⟨[(0,.v (.one (.yld 9))),(1,.v (.one (.ptr 7 0))),(2,.v (.one (.ptr 6 0))),(4,.v (.one (.ptr 10 0))),(16,.v (.one (DW x5.kind))),(17,.v (.one (DX v13)))],m11_h6 s1 a0 x5 x7,[],11,98,[]⟩) (fun (v13:Bool)=>(WQ v13 x5 s1)=some y11) ?_ ?_
  refine Qd h2 (fun w3_ h3 h2=>?_)
  refine Qg (b:=(x5.kind==0)) Z (fun c14=>?_) (fun c14=>?_)
  replace h3:=Qi c14 h3
  refine Qn ?_
  have e:=DB h3;subst e
  exact Qb (x5.kind==0) (QH (Dz Z) (hA Z) DN Z (Nat.le_trans hv2 (DM Z)) Z Z Z (bG Z (bA Z)) Z Z) h2
  replace h3:=Qj c14 h3
  refine Q6<|Q0<|DD Z Z Z (Q8 Z Z Z)<|DF Z Z Z<|Q3<|Q4 ?_
  refine Qg (b:=(x5.kind==1)) Z (fun c15=>?_) (fun c15=>?_)
  replace h3:=Qi c15 h3
  refine Qn ?_
  have e:=DB h3;subst e
  exact Qb (x5.kind==1) (QH (Dz Z) (hA Z) DN Z (Nat.le_trans hv2 (DM Z)) Z Z Z (bG Z (bA Z)) Z Z) h2
  replace h3:=Qj c15 h3
  refine Q0<|DD Z Z Z (Q8 Z Z Z)<|DF Z Z Z<|Q3 ?_
  have e:=DB h3;subst e
  exact Qb (x5.kind==2) (QH (Dz Z) (hA Z) DN Z (Nat.le_trans hv2 (DM Z)) Z Z Z (bG Z (bA Z)) Z Z) h2
  intro v13 h2
  unfold WQ at h2
  refine Q4 ?_
  refine Qg (b:=v13) Z (fun c16=>?_) (fun c16=>?_)
  replace h2:=Qi c16 h2
  refine Q6<|Q0<|Q9 Z Z (DM Z) (OpOK.lit3E (α:=Int) 0 1 2 Wq Dp Z Z (DM Z) (DM Z) Z Z Z Z (.cons (.d _) (.cons (.d _) (.cons (.d _) .nil))) ⟨Z,Z,Z⟩)<|DD Z Z Z (Q2 Yg Z)<|DD Z Z Z (Q5 QN Z Z Z) ?_
  refine Qd h2 (fun x17 hx17 h2=>?_)
  refine DD Z Z Z (Qy (α:=Int) Wq Z (.app _ _) Z hx17)<|DD Z Z Z (Y1 QN Z Z)<|DD Z Z Z (Q2 YW Z)<|Qz Z Z (Qv QN Z Z Z Z (DM Z) Z)<|Q3<|Q4<|Q0<|DE Z Z Z<|DD Z Z Z (Q2 Yb Z)<|DD Z Z Z (Q5 JT Z Z Z)<|DD Z Z Z (Qk Jg Z Z Z Z) ?_
  refine Qd h2 (fun y18 h3 h2=>?_)
  have ha19:ExecOK Try.prog (some 9) X7 ⟨[(0,.v (.one (DU a0))),(4,.v (.one (.ptr 2 0))),(16,.v (.one (DU a0))),(17,.v (.one (DW (a0.length:Int)))),(18,.v (.one (DW s1.1))),(38,.v (.one (.fn 49 [(7,0),(6,0)]))),(39,.v (.one (Jl x5.name))),(40,.v (.agg [DW x17,DW s1.1,DW 0,DW x5.params,DW x5.ty.kind,DW x5.ty.index,Jl x5.ty.name,DU x5.ty.levels,DU x5.ty.kids]))],m11_h8 s1 a0 x5 x7 x17,[(11,some ⟨3,1,(Enc.encL ([0,1,2]:List Int)).length,[]⟩)],12,48,[]⟩ .normal ⟨[(4,.v (.one (.ptr 2 0))),(8,.v (.one (Jl x5.name))),(9,.v (.one (.ptr 12 0)))],m11_h11 s1 a0 x5 x7 x17,[(11,some ⟨3,1,(Enc.encL ([0,1,2]:List Int)).length,[]⟩)],13,48,[]⟩:=by
   refine QK (fun w0 M V0 ro n Q hv3 hro3 hQn3=>?_)
   refine Q6<|Q0<|DF Z Z Z<|Q3<|Q4<|Q0<|Q9 Z Z (DM Z) (Ql YZ Z)<|Qz Z Z (Qv Jg Z Z Z Z (DM Z) Z)<|Q3 ?_
   exact Jw hQn3 (QH (Dz Z) (hA Z) (DO Z) Z (Nat.le_trans hv3 (DM Z)) Z Z Z (bG Z (bA Z)) Z Z)
  have hb20:ExecOK Try.prog (some 9) X6 ⟨[(4,.v (.one (.ptr 2 0))),(8,.v (.one (Jl x5.name))),(9,.v (.one (.ptr 12 0)))],m11_h10 s1 a0 x5 x7 x17,[(11,some ⟨3,1,(Enc.encL ([0,1,2]:List Int)).length,[]⟩)],13,48,[]⟩ .normal ⟨[],m11_h13 s1 x5 x17 a0 x7,[(11,some ⟨3,1,(Enc.encL ([0,1,2]:List Int)).length,[]⟩)],13,48,[]⟩:=by
   refine QK (fun w0 M V0 ro n Q hv3 hro3 hQn3=>?_)
   refine Qh ?_
   refine Js [6] [] YU (by kernel_rfl) (by kernel_rfl) (by kernel_rfl) ?_
   refine RunA.rd Z Z Z (Q1 (Q5 Xq Z Z Z)) Z<|RunA.rd Z Z Z (Q1 (Jo Z)) Z<|RunA.rd Z Z Z (Q1 (Q2 ZM Z)) Z<|RunA.rd Z Z Z (Q1 (Q5 Yp Z Z Z)) Z<|RunA.rd Z Z Z (Q1 (Qp Z)) Z<|RunA.rd Z Z Z (Q1 (Qk Jg Z Z Z Z)) Z<|RunA.eff Z Z Z (Jk (M:=s1.2.1) (k:=x5.name) (v:=(⟨x17,s1.1,0,x5.params,x5.ty⟩:Ent)) YG Z Z Z Z Z) Z ?_
   refine RunA.nil ⟨?ex,_,_,Z,?_⟩
   case ex=>exact trivial
   refine JV (st':=⟨[],m11_h14 s1 x5 x17 a0 x7,[(11,some ⟨3,1,(Enc.encL ([0,1,2]:List Int)).length,[]⟩)],13,48,[]⟩) (QH Dy (hA Z) (DO Z) Z (Nat.le_trans hv3 (DM Z)) Z Z Z (bG Z (bA Z)) Z Z)<|Qf ?_
   have e:=DB h3;subst e
   exact Jw hQn3 (QH Dy (hA Z) (DO Z) Z (Nat.le_trans hv3 (DM Z)) Z Z Z (bG Z (bA Z)) Z Z)
  refine Q9 Z Z (DM Z) (Jd (jump:=none) Z Z Z Z Z (Qw ha19 (fun E hv=>(QH (Dz Z) (hA Z) (DO Z) Z (Nat.le_trans hv (DM Z)) Z Z Z (bG Z (bA Z)) Z Z))) Z (Qw hb20 (fun E hv=>(QH (Dz Z) (hA Z) (DO Z) Z (Nat.le_trans hv (DM Z)) Z Z Z (bG Z (bA Z)) Z Z))) Z Z) ?_
  refine Q3<|Qf ?_
  have e:=DB h2;subst e
  exact hQ2 _ _ _ (.inl Z) Z (QH Dy (hA Z) DN Z (Nat.le_trans hv2 (DM Z)) Z Z Z (bG Z (bA Z)) Z Z)
  replace h2:=Qj c16 h2
  refine Q6<|Q0<|DD Z Z Z (Q8 Z Z Z)<|DF Z Z Z<|Q3<|Q4 ?_
  refine Qg (b:=(x5.kind==3)) Z (fun c21=>?_) (fun c21=>?_)
  replace h2:=Qi c21 h2
  refine Q6<|Q0<|DD Z Z Z (Q2 YW Z)<|Qz Z Z (Qv QN Z Z Z Z (DM Z) Z)<|Q3<|Q4<|Q6<|Q6<|Q0<|DE Z Z Z<|DD Z Z Z (Q2 Yb Z)<|DD Z Z Z (Q5 JT Z Z Z)<|DD Z Z Z (Qk Jg Z Z Z Z) ?_
  refine Qd h2 (fun y22 h3 h2=>?_)
  have ha23:ExecOK Try.prog (some 9) X7 ⟨[(0,.v (.one (DU a0))),(4,.v (.one (.ptr 2 0))),(16,.v (.one (DU a0))),(17,.v (.one (DW (a0.length:Int)))),(18,.v (.one (DW s1.1))),(38,.v (.one (.fn 49 [(7,0),(6,0)]))),(39,.v (.one (Jl x5.name))),(40,.v (.agg [DW 3,DW s1.1,DW 0,DW x5.params,DW x5.ty.kind,DW x5.ty.index,Jl x5.ty.name,DU x5.ty.levels,DU x5.ty.kids]))],m11_h16 s1 a0 x5 x7,[],11,48,[]⟩ .normal ⟨[(4,.v (.one (.ptr 2 0))),(8,.v (.one (Jl x5.name))),(9,.v (.one (.ptr 11 0)))],m11_h18 s1 a0 x5 x7,[],12,48,[]⟩:=by
   refine QK (fun w0 M V0 ro n Q hv3 hro3 hQn3=>?_)
   refine Q6<|Q0<|DF Z Z Z<|Q3<|Q4<|Q0<|Q9 Z Z (DM Z) (Ql YZ Z)<|Qz Z Z (Qv Jg Z Z Z Z (DM Z) Z)<|Q3 ?_
   exact Jw hQn3 (QH (Dz Z) (hA Z) DN Z (Nat.le_trans hv3 (DM Z)) Z Z Z (bG Z (bA Z)) Z Z)
  have hb24:ExecOK Try.prog (some 9) X6 ⟨[(4,.v (.one (.ptr 2 0))),(8,.v (.one (Jl x5.name))),(9,.v (.one (.ptr 11 0)))],m11_h17 s1 a0 x5 x7,[],12,48,[]⟩ .normal ⟨[],m11_h20 s1 x5 a0 x7,[],12,48,[]⟩:=by
   refine QK (fun w0 M V0 ro n Q hv3 hro3 hQn3=>?_)
   refine Qh ?_
   refine Js [6] [] YU (by kernel_rfl) (by kernel_rfl) (by kernel_rfl) ?_
   refine RunA.rd Z Z Z (Q1 (Q5 Xq Z Z Z)) Z<|RunA.rd Z Z Z (Q1 (Jo Z)) Z<|RunA.rd Z Z Z (Q1 (Q2 ZM Z)) Z<|RunA.rd Z Z Z (Q1 (Q5 Yp Z Z Z)) Z<|RunA.rd Z Z Z (Q1 (Qp Z)) Z<|RunA.rd Z Z Z (Q1 (Qk Jg Z Z Z Z)) Z<|RunA.eff Z Z Z (Jk (M:=s1.2.1) (k:=x5.name) (v:=(⟨3,s1.1,0,x5.params,x5.ty⟩:Ent)) YG Z Z Z Z Z) Z ?_
   refine RunA.nil ⟨?ex,_,_,Z,?_⟩
   case ex=>exact trivial
   refine JV (st':=⟨[],m11_h21 s1 x5 a0 x7,[],12,48,[]⟩) (QH Dy (hA Z) DN Z (Nat.le_trans hv3 (DM Z)) Z Z Z (bG Z (bA Z)) Z Z)<|Qf ?_
   have e:=DB h3;subst e
   exact Jw hQn3 (QH Dy (hA Z) DN Z (Nat.le_trans hv3 (DM Z)) Z Z Z (bG Z (bA Z)) Z Z)
  refine Q9 Z Z (DM Z) (Jd (jump:=none) Z Z Z Z Z (Qw ha23 (fun E hv=>(QH (Dz Z) (hA Z) DN Z (Nat.le_trans hv (DM Z)) Z Z Z (bG Z (bA Z)) Z Z))) Z (Qw hb24 (fun E hv=>(QH (Dz Z) (hA Z) DN Z (Nat.le_trans hv (DM Z)) Z Z Z (bG Z (bA Z)) Z Z))) Z Z) ?_
  refine DD Z Z Z (Jj Z)<|Q3<|Q4 ?_
  refine Qg Z (fun h=>nomatch h) (fun _=>?_)
  refine Qn<|Q4<|Q6<|Q6<|Q0<|DD Z Z Z (Q2 Yz Z)<|DD Z Z Z (Q5 ZY Z Z Z)<|DD Z Z Z (QD (α:=Ctr) YL Z (.d _))<|DE Z Z Z<|Q3<|Q4<|Qh ?_
  refine J2 1 (fun (o25:(Qc Bs Ent))=>⟨[(0,.v (.one (.yld 9))),(1,.v (.one (.ptr 7 0))),(2,.v (.one (.ptr 6 0)))],[(0,.mp (QT o25.1) o25.2),(1,.cells 62 [DU ((a0.take s1.1.toNat):List Dcl),.mp 0]),(2,.cells 59 [.ptr 1 0]),(3,.cells 45 (DZ x5)),(5,.cells 25 [DW x7]),(6,.cells 45 (DZ x5)),(7,.cells 3 [DW s1.1]),(8,.obj (.deferred (some []))),(9,Z6 a0 s1),(10,Y9 s1 x5)],[],12,98,[]⟩) (fun (o25:(Qc Bs Ent))=>(Jh (Nat.ble (x5.name.length+([46,114,101,99]:List UInt8).length) 1000000000)
    (Option.bind (some ()) (fun (y27:Unit)=>some (J3 o25 (x5.name++([46,114,101,99]:List UInt8)) (⟨5,s1.1,0,x5.rcr.params,x5.rcr.ty⟩:Ent)))))=some y11) ?_ ?_
  refine Qd h2 (fun o26 hl3 h2=>?_)
  refine J1 (m11_l0 x5 s1) (fun s3=>⟨[(0,.v (.one (.yld 9))),(1,.v (.one (.ptr 7 0))),(2,.v (.one (.ptr 6 0))),(42,.v (.one (DU x5.ctors))),(43,.v (.one (DW (x5.ctors.length:Int)))),(44,.v (.one (DW s3.1)))],[(0,.mp (QT s3.2.1) s3.2.2),(1,.cells 62 [DU ((a0.take s1.1.toNat):List Dcl),.mp 0]),(2,.cells 59 [.ptr 1 0]),(3,.cells 45 (DZ x5)),(5,.cells 25 [DW x7]),(6,.cells 45 (DZ x5)),(7,.cells 3 [DW s1.1]),(8,.obj (.deferred (some []))),(9,Z6 a0 s1),(10,Y9 s1 x5)],[],12,98,[]⟩) (0,(J3 s1.2.1 x5.name (⟨3,s1.1,0,x5.params,x5.ty⟩:Ent))) o26 (QH (Dz Z) (hA Z) DN Z (Nat.le_trans hv2 (DM Z)) Z Z Z (bG Z (bA Z)) Z Z) hl3 (fun s3 n3 oo3 h3 ho3=>?_)
  unfold m11_l0 at h3
  refine Q6<|Q0<|DD Z Z Z (Q8 Z Z Z)<|Q3<|Q4<|Q6 ?_
  refine Qg (b:=(decide (s3.1 < (x5.ctors.length:Int)))) Z (fun c27=>?_) (fun c27=>?_)
  replace h3:=Qi c27 h3
  refine Qn<|Q4<|Q6<|Qh<|Q6<|Q0<|DE Z Z Z ?_
  refine Qd h3 (fun x28 hx28 h3=>?_)
  refine DD Z Z Z (Qy (α:=Ctr) YL Z (.d _) Z hx28)<|DD Z Z Z (Qt (x28:Ctr) K5 Z)<|Q9 Z Z (DM Z) (Ql U9 Z)<|DF Z Z Z<|Qz Z Z (QC (x28:Ctr) K5 Z Z Z Z Z)<|Q3<|Q4<|Q6<|Q0<|DE Z Z Z<|DD Z Z Z (Q2 KT Z)<|DD Z Z Z (Q5 JT Z Z Z)<|DD Z Z Z (Q5 QN Z Z Z)<|DE Z Z Z ?_
  refine DD Z Z Z (Q2 Ya Z)<|DD Z Z Z (Q5 QN Z Z Z)<|DD Z Z Z (Q2 KS Z)<|DD Z Z Z (Qk QX Z Z Z Z)<|DD Z Z Z (JR ZX Z (.cons Z (.cons Z (.cons Z (.cons Z (.cons Z .nil))))) Z) ?_
  refine Qd h3 (fun y29 h4 h3=>?_)
  have ha30:ExecOK Try.prog (some 9) X7 ⟨[(0,.v (.one (DU a0))),(4,.v (.one (.ptr 2 0))),(16,.v (.one (DU a0))),(17,.v (.one (DW (a0.length:Int)))),(18,.v (.one (DW s1.1))),(38,.v (.one (.fn 49 [(7,0),(6,0)]))),(39,.v (.one (Jl x28.name))),(40,.v (.agg [DW 4,DW s1.1,DW s3.1,DW x5.params,DW x28.ty.kind,DW x28.ty.index,Jl x28.ty.name,DU x28.ty.levels,DU x28.ty.kids]))],m11_h22 s3 a0 s1 x5 x7 x28,[],13,48,[]⟩ .normal ⟨[(4,.v (.one (.ptr 2 0))),(8,.v (.one (Jl x28.name))),(9,.v (.one (.ptr 13 0)))],m11_h25 s3 a0 s1 x5 x7 x28,[],14,48,[]⟩:=by
   refine QK (fun w0 M V0 ro n Q hv4 hro4 hQn4=>?_)
   refine Q6<|Q0<|DF Z Z Z<|Q3<|Q4<|Q0<|Q9 Z Z (DM Z) (Ql YZ Z)<|Qz Z Z (Qv Jg Z Z Z Z (DM Z) Z)<|Q3 ?_
   exact Jw hQn4 (QH (Dz Z) (hA Z) DN Z (Nat.le_trans hv4 (DM Z)) Z Z Z (bG Z (bA Z)) Z Z)
  have hb31:ExecOK Try.prog (some 9) X6 ⟨[(4,.v (.one (.ptr 2 0))),(8,.v (.one (Jl x28.name))),(9,.v (.one (.ptr 13 0)))],m11_h24 s3 a0 s1 x5 x7 x28,[],14,48,[]⟩ .normal ⟨[],m11_h27 s3 x28 s1 x5 a0 x7,[],14,48,[]⟩:=by
   refine QK (fun w0 M V0 ro n Q hv4 hro4 hQn4=>?_)
   refine Qh ?_
   refine Js [6] [] YU (by kernel_rfl) (by kernel_rfl) (by kernel_rfl) ?_
   refine RunA.rd Z Z Z (Q1 (Q5 Xq Z Z Z)) Z<|RunA.rd Z Z Z (Q1 (Jo Z)) Z<|RunA.rd Z Z Z (Q1 (Q2 ZM Z)) Z<|RunA.rd Z Z Z (Q1 (Q5 Yp Z Z Z)) Z<|RunA.rd Z Z Z (Q1 (Qp Z)) Z<|RunA.rd Z Z Z (Q1 (Qk Jg Z Z Z Z)) Z<|RunA.eff Z Z Z (Jk (M:=s3.2) (k:=x28.name) (v:=(⟨4,s1.1,s3.1,x5.params,x28.ty⟩:Ent)) YG Z Z Z Z Z) Z ?_
   refine RunA.nil ⟨?ex,_,_,Z,?_⟩
   case ex=>exact trivial
   refine JV (st':=⟨[],m11_h28 s3 x28 s1 x5 a0 x7,[],14,48,[]⟩) (QH Dy (hA Z) DN Z (Nat.le_trans hv4 (DM Z)) Z Z Z (bG Z (bA Z)) Z Z)<|Qf ?_
   have e:=DB h4;subst e
   exact Jw hQn4 (QH Dy (hA Z) DN Z (Nat.le_trans hv4 (DM Z)) Z Z Z (bG Z (bA Z)) Z Z)
  refine Q9 Z Z (DM Z) (Jd (jump:=none) Z Z Z Z Z (Qw ha30 (fun E hv=>(QH (Dz Z) (hA Z) DN Z (Nat.le_trans hv (DM Z)) Z Z Z (bG Z (bA Z)) Z Z))) Z (Qw hb31 (fun E hv=>(QH (Dz Z) (hA Z) DN Z (Nat.le_trans hv (DM Z)) Z Z Z (bG Z (bA Z)) Z Z))) Z Z) ?_
  refine DD Z Z Z (Jj Z)<|Q3<|Q4 ?_
  refine Qg Z (fun h=>nomatch h) (fun _=>?_)
  refine Qn<|Qf<|Q4<|Q0<|DD Z Z Z (Q8 Z Z Z)<|DE Z Z Z<|Q3 ?_
  have e:=DB h3;subst e
  refine QW ((Ja (s3.1+1)),(J3 s3.2 x28.name (⟨4,s1.1,s3.1,x5.params,x28.ty⟩:Ent))) (QH (Dz Z) (hA Z) DN Z (Nat.le_trans hv2 (DM Z)) Z Z Z (bG Z (bA Z)) Z Z) ho3
  replace h3:=Qj c27 h3
  refine J8<|Qr<|Qr ?_
  have e:=DB h3;subst e
  have e_:_=_:=ho3
  subst e_
  exact J0 s3.2 (QH (Dz Z) (hA Z) DN Z (Nat.le_trans hv2 (DM Z)) Z Z Z (bG Z (bA Z)) Z Z) h2
  intro o25 h2
  refine QQ<|Q4<|Q0<|DE Z Z Z<|DD Z Z Z (Q2 Yb Z)<|DD Z Z Z (Q5 JT Z Z Z) ?_
  refine YI h2 (fun g32 h2=>?_)
  refine DD Z Z Z (Xj Z Z g32)<|DD Z Z Z (Q5 QN Z Z Z)<|DD Z Z Z (Q2 JU Z)<|DD Z Z Z (Q2 KV Z)<|DD Z Z Z (Q5 QN Z Z Z)<|DD Z Z Z (Q2 JU Z)<|DD Z Z Z (Q2 GF Z)<|DD Z Z Z (Qk QX Z Z Z Z)<|DD Z Z Z (JR ZX Z (.cons Z (.cons Z (.cons Z (.cons Z .nil)))) Z) ?_
  refine Qd h2 (fun y33 h3 h2=>?_)
  have ha34:ExecOK Try.prog (some 9) X7 ⟨[(0,.v (.one (DU a0))),(4,.v (.one (.ptr 2 0))),(16,.v (.one (DU a0))),(17,.v (.one (DW (a0.length:Int)))),(18,.v (.one (DW s1.1))),(38,.v (.one (.fn 49 [(7,0),(6,0)]))),(39,.v (.one (Jl (x5.name++([46,114,101,99]:List UInt8))))),(40,.v (.agg [DW 5,DW s1.1,DW 0,DW x5.rcr.params,DW x5.rcr.ty.kind,DW x5.rcr.ty.index,Jl x5.rcr.ty.name,DU x5.rcr.ty.levels,DU x5.rcr.ty.kids]))],m11_h29 o25 a0 s1 x5 x7,[],12,48,[]⟩ .normal ⟨[(4,.v (.one (.ptr 2 0))),(8,.v (.one (Jl (x5.name++([46,114,101,99]:List UInt8))))),(9,.v (.one (.ptr 12 0)))],m11_h32 o25 a0 s1 x5 x7,[],13,48,[]⟩:=by
   refine QK (fun w0 M V0 ro n Q hv3 hro3 hQn3=>?_)
   refine Q6<|Q0<|DF Z Z Z<|Q3<|Q4<|Q0<|Q9 Z Z (DM Z) (Ql YZ Z)<|Qz Z Z (Qv Jg Z Z Z Z (DM Z) Z)<|Q3 ?_
   exact Jw hQn3 (QH (Dz Z) (hA Z) DN Z (Nat.le_trans hv3 (DM Z)) Z Z Z (bG Z (bA Z)) Z Z)
  have hb35:ExecOK Try.prog (some 9) X6 ⟨[(4,.v (.one (.ptr 2 0))),(8,.v (.one (Jl (x5.name++([46,114,101,99]:List UInt8))))),(9,.v (.one (.ptr 12 0)))],m11_h31 o25 a0 s1 x5 x7,[],13,48,[]⟩ .normal ⟨[],m11_h34 o25 x5 s1 a0 x7,[],13,48,[]⟩:=by
   refine QK (fun w0 M V0 ro n Q hv3 hro3 hQn3=>?_)
   refine Qh ?_
   refine Js [6] [] YU (by kernel_rfl) (by kernel_rfl) (by kernel_rfl) ?_
   refine RunA.rd Z Z Z (Q1 (Q5 Xq Z Z Z)) Z<|RunA.rd Z Z Z (Q1 (Jo Z)) Z<|RunA.rd Z Z Z (Q1 (Q2 ZM Z)) Z<|RunA.rd Z Z Z (Q1 (Q5 Yp Z Z Z)) Z<|RunA.rd Z Z Z (Q1 (Qp Z)) Z<|RunA.rd Z Z Z (Q1 (Qk Jg Z Z Z Z)) Z<|RunA.eff Z Z Z (Jk (M:=o25) (k:=(x5.name++([46,114,101,99]:List UInt8))) (v:=(⟨5,s1.1,0,x5.rcr.params,x5.rcr.ty⟩:Ent)) YG Z Z Z Z Z) Z ?_
   refine RunA.nil ⟨?ex,_,_,Z,?_⟩
   case ex=>exact trivial
   refine JV (st':=⟨[],m11_h35 o25 x5 s1 a0 x7,[],13,48,[]⟩) (QH Dy (hA Z) DN Z (Nat.le_trans hv3 (DM Z)) Z Z Z (bG Z (bA Z)) Z Z)<|Qf ?_
   have e:=DB h3;subst e
   exact Jw hQn3 (QH Dy (hA Z) DN Z (Nat.le_trans hv3 (DM Z)) Z Z Z (bG Z (bA Z)) Z Z)
  refine Q9 Z Z (DM Z) (Jd (jump:=none) Z Z Z Z Z (Qw ha34 (fun E hv=>(QH (Dz Z) (hA Z) DN Z (Nat.le_trans hv (DM Z)) Z Z Z (bG Z (bA Z)) Z Z))) Z (Qw hb35 (fun E hv=>(QH (Dz Z) (hA Z) DN Z (Nat.le_trans hv (DM Z)) Z Z Z (bG Z (bA Z)) Z Z))) Z Z) ?_
  refine Q3<|Qf ?_
  have e:=DB h2;subst e
  exact hQ2 _ _ _ (.inl Z) Z (QH Dy (hA Z) DN Z (Nat.le_trans hv2 (DM Z)) Z Z Z (bG Z (bA Z)) Z Z)
  replace h2:=Qj c21 h2
  refine Q6<|Q0<|DD Z Z Z (Q8 Z Z Z)<|DF Z Z Z<|Q3<|Q4 ?_
  refine Qg (b:=(x5.kind==4)) Z (fun c36=>?_) (fun c36=>?_)
  replace h2:=Qi c36 h2
  refine Q6<|Q0<|DD Z Z Z (Q2 YF Z)<|DD Z Z Z (Q5 K6 Z Z Z)<|DD Z Z Z (QD (α:=Fn) YT Z (.d _))<|DE Z Z Z<|Q3<|Q4<|Qh ?_
  refine J2 3 (fun (o37:(Qc Bs Ent))=>⟨[],[(0,.mp (QT o37.1) o37.2),(1,.cells 62 [DU ((a0.take s1.1.toNat):List Dcl),.mp 0]),(2,.cells 59 [.ptr 1 0]),(3,.cells 45 (DZ x5)),(5,.cells 25 [DW x7]),(6,.cells 45 (DZ x5)),(7,.cells 3 [DW s1.1]),(8,.obj (.deferred (some []))),(9,Z6 a0 s1),(10,X5 s1 x5)],[],11,98,[]⟩) (fun (o37:(Qc Bs Ent))=>(some o37)=some y11) ?_ ?_
  refine Qd h2 (fun o38 hl3 h2=>?_)
  refine J1 (m11_l1 x5 s1) (fun s3=>⟨[(0,.v (.one (.yld 9))),(1,.v (.one (.ptr 7 0))),(2,.v (.one (.ptr 6 0))),(78,.v (.one (DU x5.funs))),(79,.v (.one (DW (x5.funs.length:Int)))),(80,.v (.one (DW s3.1)))],[(0,.mp (QT s3.2.1) s3.2.2),(1,.cells 62 [DU ((a0.take s1.1.toNat):List Dcl),.mp 0]),(2,.cells 59 [.ptr 1 0]),(3,.cells 45 (DZ x5)),(5,.cells 25 [DW x7]),(6,.cells 45 (DZ x5)),(7,.cells 3 [DW s1.1]),(8,.obj (.deferred (some []))),(9,Z6 a0 s1),(10,X5 s1 x5)],[],11,98,[]⟩) (0,s1.2.1) o38 (QH (Dz Z) (hA Z) DN Z (Nat.le_trans hv2 (DM Z)) Z Z Z (bG Z (bA Z)) Z Z) hl3 (fun s3 n3 oo3 h3 ho3=>?_)
  unfold m11_l1 at h3
  refine Q6<|Q0<|DD Z Z Z (Q8 Z Z Z)<|Q3<|Q4<|Q6 ?_
  refine Qg (b:=(decide (s3.1 < (x5.funs.length:Int)))) Z (fun c39=>?_) (fun c39=>?_)
  replace h3:=Qi c39 h3
  refine Qn<|Q4<|Q6<|Qh<|Q6<|Q0<|DE Z Z Z ?_
  refine Qd h3 (fun x40 hx40 h3=>?_)
  refine DD Z Z Z (Qy (α:=Fn) YT Z (.d _) Z hx40)<|DD Z Z Z (Qt (x40:Fn) K4 Z)<|Q9 Z Z (DM Z) (Ql Ue Z)<|DF Z Z Z<|Qz Z Z (QC (x40:Fn) K4 Z Z Z Z Z)<|Q3<|Q4<|Q6<|Q0<|DE Z Z Z<|DD Z Z Z (Q2 Xh Z)<|DD Z Z Z (Q5 JT Z Z Z)<|DD Z Z Z (Q5 QN Z Z Z)<|DE Z Z Z ?_
  refine DD Z Z Z (Q2 Ya Z)<|DD Z Z Z (Q5 QN Z Z Z)<|DD Z Z Z (Q2 Xg Z)<|DD Z Z Z (Qk QX Z Z Z Z)<|DD Z Z Z (JR ZX Z (.cons Z (.cons Z (.cons Z (.cons Z (.cons Z .nil))))) Z) ?_
  refine Qd h3 (fun y41 h4 h3=>?_)
  have ha42:ExecOK Try.prog (some 9) X7 ⟨[(0,.v (.one (DU a0))),(4,.v (.one (.ptr 2 0))),(16,.v (.one (DU a0))),(17,.v (.one (DW (a0.length:Int)))),(18,.v (.one (DW s1.1))),(38,.v (.one (.fn 49 [(7,0),(6,0)]))),(39,.v (.one (Jl x40.name))),(40,.v (.agg [DW 6,DW s1.1,DW s3.1,DW x5.params,DW x40.ty.kind,DW x40.ty.index,Jl x40.ty.name,DU x40.ty.levels,DU x40.ty.kids]))],m11_h36 s3 a0 s1 x5 x7 x40,[],12,48,[]⟩ .normal ⟨[(4,.v (.one (.ptr 2 0))),(8,.v (.one (Jl x40.name))),(9,.v (.one (.ptr 12 0)))],m11_h39 s3 a0 s1 x5 x7 x40,[],13,48,[]⟩:=by
   refine QK (fun w0 M V0 ro n Q hv4 hro4 hQn4=>?_)
   refine Q6<|Q0<|DF Z Z Z<|Q3<|Q4<|Q0<|Q9 Z Z (DM Z) (Ql YZ Z)<|Qz Z Z (Qv Jg Z Z Z Z (DM Z) Z)<|Q3 ?_
   exact Jw hQn4 (QH (Dz Z) (hA Z) DN Z (Nat.le_trans hv4 (DM Z)) Z Z Z (bG Z (bA Z)) Z Z)
  have hb43:ExecOK Try.prog (some 9) X6 ⟨[(4,.v (.one (.ptr 2 0))),(8,.v (.one (Jl x40.name))),(9,.v (.one (.ptr 12 0)))],m11_h38 s3 a0 s1 x5 x7 x40,[],13,48,[]⟩ .normal ⟨[],m11_h41 s3 x40 s1 x5 a0 x7,[],13,48,[]⟩:=by
   refine QK (fun w0 M V0 ro n Q hv4 hro4 hQn4=>?_)
   refine Qh ?_
   refine Js [6] [] YU (by kernel_rfl) (by kernel_rfl) (by kernel_rfl) ?_
   refine RunA.rd Z Z Z (Q1 (Q5 Xq Z Z Z)) Z<|RunA.rd Z Z Z (Q1 (Jo Z)) Z<|RunA.rd Z Z Z (Q1 (Q2 ZM Z)) Z<|RunA.rd Z Z Z (Q1 (Q5 Yp Z Z Z)) Z<|RunA.rd Z Z Z (Q1 (Qp Z)) Z<|RunA.rd Z Z Z (Q1 (Qk Jg Z Z Z Z)) Z<|RunA.eff Z Z Z (Jk (M:=s3.2) (k:=x40.name) (v:=(⟨6,s1.1,s3.1,x5.params,x40.ty⟩:Ent)) YG Z Z Z Z Z) Z ?_
   refine RunA.nil ⟨?ex,_,_,Z,?_⟩
   case ex=>exact trivial
   refine JV (st':=⟨[],m11_h42 s3 x40 s1 x5 a0 x7,[],13,48,[]⟩) (QH Dy (hA Z) DN Z (Nat.le_trans hv4 (DM Z)) Z Z Z (bG Z (bA Z)) Z Z)<|Qf ?_
   have e:=DB h4;subst e
   exact Jw hQn4 (QH Dy (hA Z) DN Z (Nat.le_trans hv4 (DM Z)) Z Z Z (bG Z (bA Z)) Z Z)
  refine Q9 Z Z (DM Z) (Jd (jump:=none) Z Z Z Z Z (Qw ha42 (fun E hv=>(QH (Dz Z) (hA Z) DN Z (Nat.le_trans hv (DM Z)) Z Z Z (bG Z (bA Z)) Z Z))) Z (Qw hb43 (fun E hv=>(QH (Dz Z) (hA Z) DN Z (Nat.le_trans hv (DM Z)) Z Z Z (bG Z (bA Z)) Z Z))) Z Z) ?_
  refine DD Z Z Z (Jj Z)<|Q3<|Q4 ?_
  refine Qg Z (fun h=>nomatch h) (fun _=>?_)
  refine Qn<|Qf<|Q4<|Q0<|DD Z Z Z (Q8 Z Z Z)<|DE Z Z Z<|Q3 ?_
  have e:=DB h3;subst e
  refine QW ((Ja (s3.1+1)),(J3 s3.2 x40.name (⟨6,s1.1,s3.1,x5.params,x40.ty⟩:Ent))) (QH (Dz Z) (hA Z) DN Z (Nat.le_trans hv2 (DM Z)) Z Z Z (bG Z (bA Z)) Z Z) ho3
  replace h3:=Qj c39 h3
  refine J8<|Qr<|Qr ?_
  have e:=DB h3;subst e
  have e_:_=_:=ho3
  subst e_
  exact J0 s3.2 (QH Dy (hA Z) DN Z (Nat.le_trans hv2 (DM Z)) Z Z Z (bG Z (bA Z)) Z Z) h2
  intro o37 h2
  refine QQ<|Qf ?_
  have e:=DB h2;subst e
  exact hQ2 _ _ _ (.inl Z) Z (QH Dy (hA Z) DN Z (Nat.le_trans hv2 (DM Z)) Z Z Z (bG Z (bA Z)) Z Z)
  replace h2:=Qj c36 h2
  refine Qn<|Qf ?_
  have e:=DB h2;subst e
  exact hQ2 _ _ _ (.inl Z) Z (QH Dy (hA Z) DN Z (Nat.le_trans hv2 (DM Z)) Z Z Z (bG Z (bA Z)) Z Z)
 refine Kb (Yi (e:=.normal) rfl hc12 rfl rfl (by intro h;cases h) rfl) rfl ?_
 refine Qf<|Qf<|Q4<|Q0<|DD Z Z Z (Q8 Z Z Z)<|DE Z Z Z<|Q3 ?_
 have e:=DB h1;subst e
 refine QW ((Ja (s1.1+1)),y11,(a0.take s1.1.toNat)) (QH (Dz Z) (hA Z) DN Z (Nat.zero_le _) Z Z Z (bG Z (bA Z)) Z Z) ho1
 replace h1:=Qj c4 h1
 refine J8<|Qr<|Qr ?_
 have e:=DB h1;subst e
 have e_:_=_:=ho1
 subst e_
 exact J0 (s1.2.1,s1.2.2) (QH Dy (hA Z) DN Z (Nat.zero_le _) Z Z Z (bG Z (bA Z)) Z Z) h0
 intro o2 h0
 refine QQ<|Q4<|Q6<|Q0<|DF Z Z Z<|DF Z Z Z<|Q3<|Q4<|QE ?_
 have e:=DB h0;subst e
 exact QJ (fun _ _ h=>h) Z (QB Z (QB Z .nil)) (.cons (.one (.d _)) (.cons (.one (.d _)) .nil))
end Go.Proofs.Ytafddfoefeploaa
namespace Go.Proofs.Ytafddfoefeploaa
open Go.RowKit Go.Shelf
def m110_k0 (p0_:Bool) (p1_:Int) (p2_:Lvl) (p3_:LV):Option (LO Int (Unit⊕Bool)) :=
 cond p0_
   (some (.done (.inr false)))
   (Option.bind (cond (decide (0 < p1_))
   (Option.bind (Jx p2_.vs (Ja (p1_ - 1))) fun (b0_:LV) =>
 some (decide (p3_.1≤b0_.1)))
   (some false)) (fun (b1_:Bool)=>cond b1_
   (some (.done (.inr false)))
   (Option.bind (cond (decide (0 < p2_.c))
   (some (decide (p2_.c≤p3_.2)))
   (some false)) (fun (b2_:Bool)=>cond b2_
   (some (.done (.inr false)))
   (some (.next (Ja (p1_+1))))))))
def XW (a0:Lvl) (s1:Int):Option (LO Int (Unit⊕Bool)) :=
 cond (decide (s1 < (a0.vs.length:Int)))
   (Option.bind (Jx a0.vs s1) fun (x5:LV) =>
 Option.bind (cond (decide (x5.1 < (-65536)))
   (some true)
   (cond (decide (8≤x5.1))
   (some true)
   (cond (decide (x5.2 < 0))
   (some true)
   (some (decide (100 < x5.2)))))) (fun (v6:Bool)=>m110_k0 v6 s1 a0 x5))
   (some (.done (.inl ())))
def m110 (a0:Lvl):Option Bool :=
 Option.bind (cond (decide (a0.c < 0))
   (some true)
   (some (decide (100 < a0.c)))) (fun (v1:Bool)=>cond v1
   (some false)
   (Option.bind (Qq (XW a0) QI 0) (Sum.elim (fun (o3:Unit)=>some true) (fun o=>some o))))
def m85 (a0:Byt):Option Bool :=
 Option.bind (cond (decide (97≤a0.n))
   (cond (decide (a0.n≤122))
   (some true)
   (cond (decide (65≤a0.n))
   (cond (decide (a0.n≤90))
   (some true)
   (some (a0.n==95)))
   (some (a0.n==95))))
   (cond (decide (65≤a0.n))
   (cond (decide (a0.n≤90))
   (some true)
   (some (a0.n==95)))
   (some (a0.n==95)))) (fun (v1:Bool)=>some v1)
def WC (a0:Bs) (s1:Bool×Int):Option (LO (Bool×Int) (Bool⊕Bool)) :=
 cond (decide (s1.2 < (a0.length:Int)))
   (Option.bind (Jx a0 s1.2) fun (x5:UInt8) =>
 cond s1.1
   (Option.bind (m85 (⟨(x5.toNat:Int)⟩:Byt)) fun (x7:Bool) =>
 cond (!x7)
   (some (.done (.inr false)))
   (some (.next (false,(Ja (s1.2+1))))))
   (cond ((x5.toNat:Int)==46)
   (some (.next (true,(Ja (s1.2+1)))))
   (Option.bind (Option.bind (m85 (⟨(x5.toNat:Int)⟩:Byt)) fun (x11:Bool) =>
 cond (!x11)
   (cond ((x5.toNat:Int) != 39)
   (cond (decide ((x5.toNat:Int) < 48))
   (some true)
   (some (decide (57 < (x5.toNat:Int)))))
   (some false))
   (some false)) (fun (v10:Bool)=>cond v10
   (some (.done (.inr false)))
   (some (.next (s1.1,(Ja (s1.2+1)))))))))
   (some (.done (.inl s1.1)))
def D9 (a0:Bs):Option Bool :=
 Option.bind (cond (a0==([]:List UInt8))
   (some true)
   (some (decide (64 < (a0.length:Int))))) (fun (v1:Bool)=>cond v1
   (some false)
   (Option.bind (Qq (WC a0) QI (true,0)) (Sum.elim (fun (o3:Bool)=>some (!o3)) (fun o=>some o))))
def m109_k0 (p0_:Bool) (p1_:Int):Option Int :=
 cond p0_
   (some 2)
   (Option.bind (cond (p1_==8)
   (some (p1_==8))
   (some (p1_==11))) (fun (b0_:Bool)=>cond b0_
   (some 3)
   (cond (p1_==9)
   (cond (p1_==9)
   (some 1)
   (some 0))
   (cond (p1_==10)
   (some 1)
   (some 0)))))
def m109 (a0:Int):Option Int :=
 Option.bind (cond (a0==4)
   (some (a0==4))
   (cond (a0==5)
   (some (a0==5))
   (cond (a0==6)
   (some (a0==6))
   (some (a0==7))))) (fun (v1:Bool)=>m109_k0 v1 a0)
def Uc (a0:Int) (a1:Int):Option Int :=
 Option.bind (cond (a1==1)
   (cond (a0==5)
   (some true)
   (cond (a0==6)
   (some true)
   (cond (a0==7)
   (some true)
   (cond (a1==2)
   (some (a0==11))
   (some false)))))
   (cond (a1==2)
   (some (a0==11))
   (some false))) (fun (v1:Bool)=>cond v1
   (some 1)
   (some 0))
def m105_k0 (p0_:Bool) (p1_:Tm):Option Bool :=
 cond p0_
   (some false)
   (Option.bind (cond (!(p1_.name==([]:List UInt8)))
   (some (p1_.kind != 3))
   (some false)) (fun (b0_:Bool)=>cond b0_
   (some false)
   (cond (p1_.kind==2)
   (some ((p1_.levels.length:Int)==1))
   (Option.bind (cond ((p1_.levels.length:Int)==0)
   (some true)
   (some (p1_.kind==3))) (fun (b1_:Bool)=>some b1_)))))
def Uy (a0:Tm):Option Bool :=
 Option.bind (cond (decide (a0.kind < 0))
   (some true)
   (cond (decide (13≤a0.kind))
   (some true)
   (Option.bind (m109 a0.kind) fun (x4:Int) =>
 some ((a0.kids.length:Int) != x4)))) (fun (v1:Bool)=>cond v1
   (some false)
   (Option.bind (cond (a0.index != 0)
   (cond (a0.kind != 0)
   (some (a0.kind != 12))
   (some false))
   (some false)) (fun (v3:Bool)=>m105_k0 v3 a0)))
def XY (a0:Lvl) (a1:Int) (s1:Int):Option (LO Int (Unit⊕Int)) :=
 cond (decide (s1 < (a0.vs.length:Int)))
   (Option.bind (Option.bind (Jx a0.vs s1) fun (x6:LV) =>
 cond (decide (0≤x6.1))
   (Option.bind (Jx a0.vs s1) fun (x8:LV) =>
 some (decide (a1≤x8.1)))
   (some false)) (fun (v5:Bool)=>cond v5
   (some (.done (.inr 15)))
   (some (.next (Ja (s1+1))))))
   (some (.done (.inl ())))
def XX (a0:Lvl) (a2:Int) (s1:Int):Option (LO Int (Unit⊕Int)) :=
 cond (decide (s1 < (a0.vs.length:Int)))
   (Option.bind (Option.bind (Jx a0.vs s1) fun (x7:LV) =>
 cond (decide (x7.1 < 0))
   (Option.bind (Jx a0.vs s1) fun (x9:LV) =>
 some (decide (a2≤(Ja ((-1) - x9.1)))))
   (some false)) (fun (v6:Bool)=>cond v6
   (some (.done (.inr 23)))
   (some (.next (Ja (s1+1))))))
   (some (.done (.inl ())))
def UM (a0:Lvl) (a1:Int) (a2:Int):Option Int :=
 Option.bind (m110 a0) fun (x1:Bool) =>
 cond (!x1)
   (some 3)
   (Option.bind (Qq (XY a0 a1) QI 0) (Sum.elim (fun (o3:Unit)=>Option.bind (Qq (XX a0 a2) QI 0) (Sum.elim (fun (o4:Unit)=>some 0) (fun o=>some o))) (fun o=>some o)))
def GA (a0:Tm) (a3:Int) (a5:Int) (s1:Int):Option (LO Int (Unit⊕Int)) :=
 cond (decide (s1 < (a0.levels.length:Int)))
   (Option.bind (Jx a0.levels s1) fun (x8:Lvl) =>
 Option.bind (UM x8 a3 a5) fun (x9:Int) =>
 cond (x9 != 0)
   (some (.done (.inr x9)))
   (some (.next (Ja (s1+1)))))
   (some (.done (.inl ())))
def Xf (a0:Tm) (rc:Tm×Int×Int×Int×Int×Int→Option Int) (a1:Int) (a2:Int) (a3:Int) (a4:Int) (a5:Int) (s1:Int):Option (LO Int (Unit⊕Int)) :=
 cond (decide (s1 < (a0.kids.length:Int)))
   (Option.bind (Jx a0.kids s1) fun (x13:Tm) =>
 Option.bind (Uc a0.kind s1) fun (x14:Int) =>
 Option.bind (rc (x13,(Ja (a1+x14)),a2,a3,a4,a5)) fun (x15:Int) =>
 cond (x15 != 0)
   (some (.done (.inr x15)))
   (some (.next (Ja (s1+1)))))
   (some (.done (.inl ())))
def GB (p0_:Bool) (p1_:Tm) (p2_:Int) (p3_:Tm×Int×Int×Int×Int×Int→Option Int) (p4_:Int) (p5_:Int) (p6_:Int) (p7_:Int):Option Int :=
 cond p0_
   (some 24)
   (Option.bind (cond (p1_.kind==12)
   (cond (decide (p1_.index < 0))
   (some true)
   (some (decide (p2_≤p1_.index))))
   (some false)) (fun (b0_:Bool)=>cond b0_
   (some 23)
   (Option.bind (Qq (Xf p1_ p3_ p4_ p5_ p6_ p2_ p7_) QI 0) (Sum.elim (fun (b1_:Unit)=>some 0) (fun o=>some o)))))
def m100_k3 (p0_:Bool) (p1_:Tm) (p2_:Int) (p3_:Int) (p4_:Int) (p5_:Int) (p6_:Int) (p7_:Tm×Int×Int×Int×Int×Int→Option Int):Option Int :=
 cond p0_
   (some 29)
   (cond (decide (8 < (p1_.levels.length:Int)))
   (some 6)
   (Option.bind (Qq (GA p1_ p2_ p3_) QI 0) (Sum.elim (fun (b0_:Unit)=>Option.bind (cond (p1_.kind==0)
   (cond (decide (p1_.index < 0))
   (some true)
   (some (decide (p4_≤(Ja (p1_.index - p5_))))))
   (some false)) (fun (b1_:Bool)=>GB b1_ p1_ p6_ p7_ p5_ p4_ p2_ p3_)) (fun o=>some o))))
def Ui (rc:Tm×Int×Int×Int×Int×Int→Option Int) (a0:Tm) (a1:Int) (a2:Int) (a3:Int) (a4:Int) (a5:Int):Option Int :=
 Option.bind (Uy a0) fun (x1:Bool) =>
 cond (!x1)
   (some 3)
   (Option.bind (cond (a0.kind==3)
   (Option.bind (D9 a0.name) fun (x5:Bool) =>
 some (!x5))
   (some false)) (fun (v3:Bool)=>m100_k3 v3 a0 a3 a5 a2 a1 a4 rc))
def U2 (rc:Tm×Int×Int×Int×Int×Int→Option Int) (u:Tm×Int×Int×Int×Int×Int):Option Int:=Ui rc u.1 u.2.1 u.2.2.1 u.2.2.2.1 u.2.2.2.2.1 u.2.2.2.2.2
def m100 (a0:Tm) (a1:Int) (a2:Int) (a3:Int) (a4:Int) (a5:Int):Option Int:=JE U2 QI (a0,a1,a2,a3,a4,a5)
def m86 (a0:Tm) (a1:Int) (a2:Int) (a3:Int) (a4:Int):Option Int :=
 Option.bind (m100 a0 0 (max a1 0) a2 a3 a4) fun (x1:Int) =>
 cond (x1 != 0)
   (some x1)
   (Option.bind (Db a0) fun (x3:Int) =>
 cond (decide (4096 < x3))
   (some 5)
   (Option.bind (m56 a0) fun (x5:Int) =>
 cond (decide (200 < x5))
   (some 7)
   (some 0)))
end Go.Proofs.Ytafddfoefeploaa
namespace Go.Proofs.Ytafddfoefeploaa
open Go.RowKit Go.Shelf
def US {α σ β:Type} (f:σ→α→σ⊕β) (e:σ→β):List α→σ→β
 | [],s=>e s
 | x::l,s=>Sum.elim (fun s'=>US f e l s') (fun r=>r) (f s x)
theorem loop_sm {α σ τ β:Type} {step:τ→Option (LO τ β)} (l:List α) (mk:Int→σ→τ) (f:σ→α→σ⊕β) (e:σ→β) (I:List α→σ→Prop) (hlen:l.length≤900000000)
  (hin:∀ (a:List α) (x:α) (b:List α) (s:σ),l=a++x::b→I a s→step (mk (a.length:Int) s)=some (Sum.elim (fun s'=>.next (mk (Ja ((a.length:Int)+1)) s')) .done (f s x))∧∀ s',f s x=.inl s'→I (a++[x]) s')
  (hout:∀ s,I l s→step (mk (l.length:Int) s)=some (.done (e s))) (s0:σ) (h0:I [] s0):Qq step QI (mk 0 s0)=some (US f e l s0):=by
 obtain ⟨r,h1,h2⟩:=Y3 (step:=step) l mk (fun a s=>I a s∧∀ b,l=a++b→US f e l s0=US f e b s) (fun r=>r=US f e l s0) hlen
  (fun a x b s hl hI=>by
   obtain ⟨h3,h4⟩:=hin a x b s hl hI.1
   have h5:=hI.2 (x::b) hl
   cases hf:f s x with
   | inl s' =>
    refine .inr ⟨s',by rw [h3,hf];rfl,h4 s' hf,fun b' hb=>?_⟩
    have:b'=b:=by
     rw [hl,List.append_assoc] at hb
     exact (List.cons.inj (List.append_cancel_left hb)).2.symm
    rw [this,h5,US,hf];rfl
   | inr r=>exact .inl ⟨r,by rw [h3,hf];rfl,by rw [h5,US,hf];rfl⟩)
  (fun s hI=>⟨e s,hout s hI.1,by rw [hI.2 [] (by simp)];rfl⟩) s0 ⟨h0,fun b hb=>by rw [List.nil_append] at hb;rw [hb]⟩
 rw [h1,h2]
theorem loop_bad {α β:Type} {step:Int→Option (LO Int β)} (l:List α) (bad:List α→α→Prop) (r0 r1:β) (hlen:l.length≤900000000)
  (hin:∀ (a:List α) (x:α) (b:List α),l=a++x::b→(bad a x→step (a.length:Int)=some (.done r0))∧(¬ bad a x→step (a.length:Int)=some (.next (Ja ((a.length:Int)+1)))))
  (hout:step (l.length:Int)=some (.done r1)):∃ r,Qq step QI 0=some r∧((r=r1∧∀ a x b,l=a++x::b→¬ bad a x)∨(r=r0∧∃ a x b,l=a++x::b∧bad a x)):=by
 refine Y3 (step:=step) l (fun i (_:Unit)=>i) (fun a _=>∀ a' x b',a=a'++x::b'→¬ bad a' x) (fun r=>(r=r1∧∀ a x b,l=a++x::b→¬ bad a x)∨(r=r0∧∃ a x b,l=a++x::b∧bad a x)) hlen
  (fun a x b s hl hI=>?_) (fun s hI=>⟨r1,hout,.inl ⟨rfl,hI⟩⟩) () (fun a' x b' h=>by cases a' <;> cases h)
 by_cases hb:bad a x
 ·exact .inl ⟨r0,(hin a x b hl).1 hb,.inr ⟨rfl,a,x,b,hl,hb⟩⟩
 ·refine .inr ⟨(),(hin a x b hl).2 hb,fun a' y b' h=>?_⟩
  rcases List.append_eq_append_iff.1 h with ⟨c,h1,h2⟩ | ⟨c,h1,h2⟩
  ·cases c with
   | nil =>
    rw [List.nil_append] at h2
    cases h2
    rw [List.append_nil] at h1
    rw [h1];exact hb
   | cons z c =>
    exfalso
    have:=congrArg List.length h2
    simp at this
  ·cases c with
   | nil =>
    rw [List.nil_append] at h2
    cases h2
    rw [List.append_nil] at h1
    rw [← h1];exact hb
   | cons z c =>
    rw [List.cons_append] at h2
    cases h2
    exact hI a' y c h1
def XJ (c:Int):Bool:=(decide (97≤c)&&decide (c≤122))||(decide (65≤c)&&decide (c≤90))||(c==95)
theorem m79_eq (c:Int):Dq ⟨c⟩=some (XJ c):=by
 unfold Dq XJ
 cases decide (97≤c) <;> cases decide (c≤122) <;> cases decide (65≤c) <;> cases decide (c≤90) <;> rfl
theorem m85_eq (c:Int):m85 ⟨c⟩=some (XJ c):=m79_eq c
def UY (st:Bool) (b:UInt8):Bool⊕(Bool⊕Bool) :=
 if XJ (b.toNat:Int)=true then .inl false else if st=true then .inr (.inr false) else if (b.toNat:Int)=46 then .inl true else
  if (b.toNat:Int) < 48∨57 < (b.toNat:Int) then (if (b.toNat:Int)=39 then .inl st else .inr (.inr false)) else .inl st
def Dk (s:Bs):Bool⊕Bool:=US UY .inl s true
theorem m65_l0_eq (s:Bs) (h:s.length≤900000000):Qq (Xz s) QI (true,0)=some (Dk s):=by
 refine loop_sm (step:=Xz s) s (fun i (st:Bool)=>(st,i)) UY .inl (fun _ _=>True) h (fun a x b st e _=>⟨?_,fun _ _=>trivial⟩) (fun st _=>by unfold Xz;dsimp only;rw [J9];rfl) true trivial
 unfold Xz UY
 dsimp only
 rw [e,JS,JF]
 simp only [cond_true,Option.bind_some]
 rw [m79_eq,Option.bind_some]
 cases XJ (x.toNat:Int) with
 | true=>rfl
 | false =>
  cases st with
  | true=>rfl
  | false =>
   simp only [cond_false,Yk,Bool.false_eq_true,if_false]
   by_cases h1:(x.toNat:Int)=46
   ·rw [decide_eq_true h1,if_pos h1];rfl
   ·rw [decide_eq_false h1,if_neg h1,cond_false]
    by_cases h2:(x.toNat:Int) < 48
    ·rw [decide_eq_true h2,if_pos (Or.inl h2)]
     by_cases h4:(x.toNat:Int)=39
     ·rw [if_pos h4,h4];rfl
     ·rw [if_neg h4]
      have:((x.toNat:Int) != 39)=true:=bne_iff_ne.2 h4
      simp only [cond_true,Option.bind_some,this];rfl
    ·rw [decide_eq_false h2]
     by_cases h3:57 < (x.toNat:Int)
     ·rw [decide_eq_true h3,if_pos (Or.inr h3)]
      by_cases h4:(x.toNat:Int)=39
      ·omega
      ·rw [if_neg h4]
       have:((x.toNat:Int) != 39)=true:=bne_iff_ne.2 h4
       simp only [cond_true,cond_false,Option.bind_some,this];rfl
     ·rw [decide_eq_false h3,if_neg (by omega)];rfl
theorem m71_l0_eq (s:Bs) (h:s.length≤900000000):Qq (WC s) QI (true,0)=some (Dk s):=by
 refine loop_sm (step:=WC s) s (fun i (st:Bool)=>(st,i)) UY .inl (fun _ _=>True) h (fun a x b st e _=>⟨?_,fun _ _=>trivial⟩) (fun st _=>by unfold WC;dsimp only;rw [J9];rfl) true trivial
 unfold WC UY
 dsimp only
 rw [e,JS,JF]
 simp only [cond_true,Option.bind_some]
 rw [m85_eq,Option.bind_some]
 cases st with
 | true=>cases XJ (x.toNat:Int) <;> rfl
 | false =>
  simp only [cond_false,Yk,Bool.false_eq_true,if_false]
  by_cases h1:(x.toNat:Int)=46
  ·rw [decide_eq_true h1,if_pos h1,if_neg (by rw [h1];decide)];rfl
  ·rw [decide_eq_false h1,if_neg h1,cond_false]
   cases XJ (x.toNat:Int) with
   | true=>rfl
   | false =>
    rw [Option.bind_some,if_neg (by decide)]
    simp only [Bool.not_false,cond_true]
    by_cases h4:(x.toNat:Int)=39
    ·have:((x.toNat:Int) != 39)=false:=by rw [h4];rfl
     simp only [cond_false,Option.bind_some,this,if_pos h4]
     split <;> rfl
    ·have:((x.toNat:Int) != 39)=true:=bne_iff_ne.2 h4
     simp only [cond_true,this,if_neg h4]
     by_cases h2:(x.toNat:Int) < 48
     ·rw [decide_eq_true h2,if_pos (Or.inl h2)];rfl
     ·rw [decide_eq_false h2]
      by_cases h3:57 < (x.toNat:Int)
      ·rw [decide_eq_true h3,if_pos (Or.inr h3)];rfl
      ·rw [decide_eq_false h3,if_neg (by omega)];rfl
theorem nm_false:∀ (s:Bs) (st b:Bool),US UY .inl s st=.inr b→b=false
 | [],st,b,h=>by cases h
 | x::s,st,b,h=>by
  rw [US] at h
  cases hf:UY st x with
  | inl st'=>rw [hf] at h;exact nm_false s st' b h
  | inr r =>
   rw [hf] at h
   unfold UY at hf
   have:r=.inr false:=by
    revert hf
    repeat' split
    all_goals intro hf;cases hf;try rfl
   rw [this] at h
   cases h;rfl
def ZH (s:Bs):Bool:=Sum.elim (fun st=>!st&&decide ((s.length:Int)≤64)) (fun b=>b) (Dk s)
theorem m65_eq (s:Bs) (h:s.length≤900000000):Da s=some (ZH s):=by
 unfold Da ZH
 rw [m65_l0_eq s h,Option.bind_some]
 cases Dk s with
 | inl st=>cases st <;> rfl
 | inr b=>rfl
theorem m71_eq (s:Bs) (h:s.length≤900000000):D9 s=some (ZH s):=by
 unfold D9 ZH
 rw [WY,m71_l0_eq s h]
 by_cases h0:s=[]
 ·subst h0;rfl
 ·rw [decide_eq_false h0,cond_false]
  by_cases h1:64 < (s.length:Int)
  ·rw [decide_eq_true h1,decide_eq_false (by omega)]
   cases hn:Dk s with
   | inl st=>cases st <;> rfl
   | inr b=>have:=nm_false s true b hn;subst this;rfl
  ·rw [decide_eq_false h1,decide_eq_true (by omega)]
   cases hn:Dk s with
   | inl st=>cases st <;> rfl
   | inr b=>rfl
end Go.Proofs.Ytafddfoefeploaa
namespace Go.Proofs.Ytafddfoefeploaa
open Go.RowKit Go.Shelf
theorem idx_some {α:Type} {l:List α} {i:Int} (h0:0≤i) (h1:i < (l.length:Int)):∃ x,Jx l i=some x:=by
 cases i with
 | ofNat k=>exact ⟨l[k]'(by have:(Int.ofNat k) < (l.length:Int):=h1;simp at this;omega),List.getElem?_eq_getElem _⟩
 | negSucc k=>omega
def Uj (l:Lvl) (a:List LV) (x:LV):Prop:=x.1 < -65536∨7 < x.1∨x.2 < 0∨100 < x.2∨(0 < a.length∧∃ y,Jx l.vs (Ja ((a.length:Int) - 1))=some y∧x.1≤y.1)
theorem prev_some {l:List LV} {a:List LV} {x:LV} {b:List LV} (h:l.length≤900000000) (e:l=a++x::b) (ha:0 < a.length):∃ y,Jx l (Ja ((a.length:Int) - 1))=some y:=by
 have:=GP e
 rw [W6 (by omega) (by omega)]
 exact idx_some (by omega) (by omega)
theorem m113_eq (l:List LV) (u:Lvl) (h:l.length≤900000000):∃ b,WR l u=some b∧(b=true↔∃ x∈l,u.c≤x.2):=by
 have h1:∃ r,Qq (Zk l u) QI 0=some r∧((r=.inl ())∧(∀ x∈l,¬ u.c≤x.2)∨∃ k:Nat,r=.inr (k:Int)∧∃ x∈l,u.c≤x.2):=by
  refine Y3 (step:=Zk l u) l (fun i (_:Unit)=>i) (fun a _=>∀ x∈a,¬ u.c≤x.2) (fun r=>((r=.inl ())∧(∀ x∈l,¬ u.c≤x.2)∨∃ k:Nat,r=.inr (k:Int)∧∃ x∈l,u.c≤x.2)) h
   (fun a x b s e hI=>?_) (fun s hI=>⟨.inl (),by unfold Zk;rw [J9];rfl,.inl ⟨rfl,hI⟩⟩) () (fun x hx=>by cases hx)
  by_cases hx:u.c≤x.2
  ·refine .inl ⟨.inr (a.length:Int),?_,.inr ⟨a.length,rfl,x,by rw [e];simp,hx⟩⟩
   unfold Zk
   rw [e,JS,JF]
   show cond (decide (u.c≤x.2)) _ _=_
   rw [decide_eq_true hx];rfl
  ·refine .inr ⟨(),?_,fun y hy=>?_⟩
   ·unfold Zk
    rw [e,JS,JF]
    show cond (decide (u.c≤x.2)) _ _=_
    rw [decide_eq_false hx];rfl
   ·rcases List.mem_append.1 hy with hy | hy
    ·exact hI y hy
    ·rw [List.mem_singleton.1 hy];exact hx
 obtain ⟨r,h2,h3⟩:=h1
 unfold WR m113f1
 rw [h2]
 rcases h3 with ⟨rfl,h4⟩ | ⟨k,rfl,h4⟩
 ·exact ⟨false,rfl,⟨fun h=>(by cases h),fun ⟨x,hx,h⟩=>(h4 x hx h).elim⟩⟩
 ·refine ⟨true,?_,⟨fun _=>h4,fun _=>rfl⟩⟩
  show some (decide ((0:Int)≤(k:Int)))=_
  rw [decide_eq_true (by omega)]
def lvP (l:Lvl):Prop:=0≤l.c∧l.c≤100∧(0 < l.c→∀ x∈l.vs,¬ l.c≤x.2)∧∀ a x b,l.vs=a++x::b→¬ Uj l a x
theorem m103_eq (l:Lvl) (h:l.vs.length≤900000000):∃ b,Uz l=some b∧(b=true↔lvP l):=by
 have hloop:=loop_bad (β:=Unit⊕Bool) (step:=KN l) l.vs (Uj l) (.inr false) (.inl ()) h (fun a x b e=>by
  have hprev:=fun ha=>prev_some (x:=x) (b:=b) h e ha
  have:KN l (a.length:Int)=Option.bind (cond (decide (x.1 < (-65536))) (some true) (cond (decide (7 < x.1)) (some true) (cond (decide (x.2 < 0)) (some true) (cond (decide (100 < x.2)) (some true)
    (cond (decide (0 < (a.length:Int))) (Option.bind (Jx l.vs (Ja ((a.length:Int) - 1))) fun (x12:LV)=>some (decide (x.1≤x12.1))) (some false)))))) (fun (v6:Bool)=>cond v6 (some (.done (.inr false))) (some (.next (Ja ((a.length:Int)+1))))):=by
   unfold KN
   have e2:l.vs=a++x::b:=e
   rw [show decide ((a.length:Int) < (l.vs.length:Int))=true from by rw [e2];exact JS a x b,show Jx l.vs (a.length:Int)=some x from by rw [e2];exact JF a x b]
   rfl
  rw [this]
  unfold Uj
  by_cases c1:x.1 < -65536
  ·rw [decide_eq_true c1];exact ⟨fun _=>rfl,fun h=>(h (.inl c1)).elim⟩
  rw [decide_eq_false c1,cond_false]
  by_cases c2:7 < x.1
  ·rw [decide_eq_true c2];exact ⟨fun _=>rfl,fun h=>(h (.inr (.inl c2))).elim⟩
  rw [decide_eq_false c2,cond_false]
  by_cases c3:x.2 < 0
  ·rw [decide_eq_true c3];exact ⟨fun _=>rfl,fun h=>(h (.inr (.inr (.inl c3)))).elim⟩
  rw [decide_eq_false c3,cond_false]
  by_cases c4:100 < x.2
  ·rw [decide_eq_true c4];exact ⟨fun _=>rfl,fun h=>(h (.inr (.inr (.inr (.inl c4))))).elim⟩
  rw [decide_eq_false c4,cond_false]
  by_cases c5:0 < a.length
  ·rw [decide_eq_true (show 0 < (a.length:Int) by omega),cond_true]
   obtain ⟨y,hy⟩:=hprev c5
   rw [hy,Option.bind_some]
   by_cases c6:x.1≤y.1
   ·rw [decide_eq_true c6];exact ⟨fun _=>rfl,fun h=>(h (.inr (.inr (.inr (.inr ⟨c5,y,rfl,c6⟩))))).elim⟩
   ·rw [decide_eq_false c6]
    refine ⟨fun h=>?_,fun _=>rfl⟩
    rcases h with h | h | h | h | ⟨-,z,hz,h⟩
    ·exact (c1 h).elim
    ·exact (c2 h).elim
    ·exact (c3 h).elim
    ·exact (c4 h).elim
    ·cases hz;exact (c6 h).elim
  ·rw [decide_eq_false (show ¬ 0 < (a.length:Int) by omega)]
   refine ⟨fun h=>?_,fun _=>rfl⟩
   rcases h with h | h | h | h | ⟨h,-⟩
   ·exact (c1 h).elim
   ·exact (c2 h).elim
   ·exact (c3 h).elim
   ·exact (c4 h).elim
   ·exact (c5 h).elim) (by unfold KN;rw [J9];rfl)
 obtain ⟨r,h1,h2⟩:=hloop
 obtain ⟨b,h3,h4⟩:=m113_eq l.vs l h
 unfold Uz
 rw [h3,h1]
 by_cases c1:l.c < 0
 ·rw [decide_eq_true c1];exact ⟨false,rfl,⟨fun h=>(Bool.false_ne_true h).elim,fun h=>by have:=h.1;omega⟩⟩
 rw [decide_eq_false c1,cond_false]
 by_cases c2:100 < l.c
 ·rw [decide_eq_true c2];exact ⟨false,rfl,⟨fun h=>(Bool.false_ne_true h).elim,fun h=>by have:=h.2.1;omega⟩⟩
 rw [decide_eq_false c2,cond_false]
 have key:(∃ x,(0 < l.c∧(∃ x∈l.vs,l.c≤x.2)→x=false)∧(¬ (0 < l.c∧∃ x∈l.vs,l.c≤x.2)→Option.bind (some r) (Sum.elim (fun (o3:Unit)=>some true) (fun o=>some o))=some x)∧cond (decide (0 < l.c)) (Option.bind (Option.bind (some b) fun (x7:Bool)=>some x7) (fun (y5:Bool)=>some y5)) (some false)=some (decide (0 < l.c∧∃ x∈l.vs,l.c≤x.2))∧(x=true→r=.inl ())∧(¬ (0 < l.c∧∃ x∈l.vs,l.c≤x.2)→r=.inl ()→x=true)):=by
  by_cases c3:0 < l.c
  ·rw [decide_eq_true c3]
   cases b with
   | true =>
    have h5:=h4.1 rfl
    exact ⟨false,fun _=>rfl,fun h=>(h ⟨c3,h5⟩).elim,by rw [decide_eq_true ⟨c3,h5⟩];rfl,fun h=>(by cases h),fun h=>(h ⟨c3,h5⟩).elim⟩
   | false =>
    have h5:¬ ∃ x∈l.vs,l.c≤x.2:=fun h=>by have:=h4.2 h;cases this
    rcases h2 with ⟨rfl,-⟩ | ⟨rfl,-⟩
    ·exact ⟨true,fun h=>(h5 h.2).elim,fun _=>rfl,by rw [decide_eq_false fun h=>h5 h.2];rfl,fun _=>rfl,fun _ _=>rfl⟩
    ·exact ⟨false,fun h=>(h5 h.2).elim,fun _=>rfl,by rw [decide_eq_false fun h=>h5 h.2];rfl,fun h=>(by cases h),fun _ h=>by cases h⟩
  ·rw [decide_eq_false c3]
   rcases h2 with ⟨rfl,-⟩ | ⟨rfl,-⟩
   ·exact ⟨true,fun h=>(c3 h.1).elim,fun _=>rfl,by rw [decide_eq_false fun h=>c3 h.1];rfl,fun _=>rfl,fun _ _=>rfl⟩
   ·exact ⟨false,fun h=>(c3 h.1).elim,fun _=>rfl,by rw [decide_eq_false fun h=>c3 h.1];rfl,fun h=>(by cases h),fun _ h=>by cases h⟩
 obtain ⟨x,k1,k2,k3,k4,k5⟩:=key
 rw [k3,Option.bind_some]
 by_cases c4:0 < l.c∧∃ x∈l.vs,l.c≤x.2
 ·rw [decide_eq_true c4]
  refine ⟨false,Z,fun h=>(Bool.false_ne_true h).elim,fun h=>?_⟩
  obtain ⟨y,hy,hy2⟩:=c4.2
  exact (h.2.2.1 c4.1 y hy hy2).elim
 ·rw [decide_eq_false c4]
  refine ⟨x,k2 c4,fun h=>?_,fun h=>?_⟩
  ·have h6:=k4 h
   rcases h2 with ⟨-,h7⟩ | ⟨h7,-⟩
   ·exact ⟨by omega,by omega,fun h8 y hy h9=>c4 ⟨h8,y,hy,h9⟩,h7⟩
   ·rw [h7] at h6;cases h6
  ·refine k5 c4 ?_
   rcases h2 with ⟨h7,-⟩ | ⟨-,a,y,c,h7,h8⟩
   ·exact h7
   ·exact (h.2.2.2 a y c h7 h8).elim
theorem m110_eq (l:Lvl) (h:l.vs.length≤900000000):∃ b,m110 l=some b∧(b=true↔lvP l):=by
 have hloop:=loop_bad (β:=Unit⊕Bool) (step:=XW l) l.vs (fun a x=>Uj l a x∨(0 < l.c∧l.c≤x.2)) (.inr false) (.inl ()) h (fun a x b e=>by
  have hprev:=fun ha=>prev_some (x:=x) (b:=b) h e ha
  have:XW l (a.length:Int)=Option.bind (cond (decide (x.1 < (-65536))) (some true) (cond (decide (8≤x.1)) (some true) (cond (decide (x.2 < 0)) (some true) (some (decide (100 < x.2)))))) (fun (v6:Bool)=>m110_k0 v6 (a.length:Int) l x):=by
   unfold XW
   have e2:l.vs=a++x::b:=e
   rw [show decide ((a.length:Int) < (l.vs.length:Int))=true from by rw [e2];exact JS a x b,show Jx l.vs (a.length:Int)=some x from by rw [e2];exact JF a x b]
   rfl
  rw [this]
  unfold Uj
  by_cases c1:x.1 < -65536
  ·rw [decide_eq_true c1];exact ⟨fun _=>rfl,fun h=>(h (.inl (.inl c1))).elim⟩
  rw [decide_eq_false c1,cond_false]
  by_cases c2:7 < x.1
  ·rw [decide_eq_true (show 8≤x.1 by omega)];exact ⟨fun _=>rfl,fun h=>(h (.inl (.inr (.inl c2)))).elim⟩
  rw [decide_eq_false (show ¬ 8≤x.1 by omega),cond_false]
  by_cases c3:x.2 < 0
  ·rw [decide_eq_true c3];exact ⟨fun _=>rfl,fun h=>(h (.inl (.inr (.inr (.inl c3))))).elim⟩
  rw [decide_eq_false c3,cond_false]
  by_cases c4:100 < x.2
  ·rw [decide_eq_true c4];exact ⟨fun _=>rfl,fun h=>(h (.inl (.inr (.inr (.inr (.inl c4)))))).elim⟩
  rw [decide_eq_false c4,Option.bind_some]
  show (_→Option.bind (cond (decide (0 < (a.length:Int))) (Option.bind (Jx l.vs (Ja ((a.length:Int) - 1))) fun (b0_:LV)=>some (decide (x.1≤b0_.1))) (some false)) _=_)∧(_→Option.bind (cond (decide (0 < (a.length:Int))) (Option.bind (Jx l.vs (Ja ((a.length:Int) - 1))) fun (b0_:LV)=>some (decide (x.1≤b0_.1))) (some false)) _=_)
  have hlast:∀ (hno:¬ (0 < a.length∧∃ y,Jx l.vs (Ja ((a.length:Int) - 1))=some y∧x.1≤y.1)),((((x.1 < -65536∨7 < x.1∨x.2 < 0∨100 < x.2∨(0 < a.length∧∃ y,Jx l.vs (Ja ((a.length:Int) - 1))=some y∧x.1≤y.1)))∨(0 < l.c∧l.c≤x.2))→Option.bind (cond (decide (0 < l.c)) (some (decide (l.c≤x.2))) (some false)) (fun (b2_:Bool)=>(cond b2_ (some (.done (.inr false))) (some (.next (Ja ((a.length:Int)+1)))):Option (LO Int (Unit⊕Bool))))=some (.done (.inr false:Unit⊕Bool)))∧(¬ (((x.1 < -65536∨7 < x.1∨x.2 < 0∨100 < x.2∨(0 < a.length∧∃ y,Jx l.vs (Ja ((a.length:Int) - 1))=some y∧x.1≤y.1)))∨(0 < l.c∧l.c≤x.2))→Option.bind (cond (decide (0 < l.c)) (some (decide (l.c≤x.2))) (some false)) (fun (b2_:Bool)=>(cond b2_ (some (.done (.inr false))) (some (.next (Ja ((a.length:Int)+1)))):Option (LO Int (Unit⊕Bool))))=some (.next (β:=Unit⊕Bool) (Ja ((a.length:Int)+1)))):=by
   intro hno
   by_cases c7:0 < l.c
   ·rw [decide_eq_true c7]
    by_cases c8:l.c≤x.2
    ·rw [decide_eq_true c8];exact ⟨fun _=>rfl,fun h=>(h (.inr ⟨c7,c8⟩)).elim⟩
    ·rw [decide_eq_false c8]
     refine ⟨fun h=>?_,fun _=>rfl⟩
     rcases h with (h | h | h | h | h) | ⟨-,h⟩
     ·exact (c1 h).elim
     ·exact (c2 h).elim
     ·exact (c3 h).elim
     ·exact (c4 h).elim
     ·exact (hno h).elim
     ·exact (c8 h).elim
   ·rw [decide_eq_false c7]
    refine ⟨fun h=>?_,fun _=>rfl⟩
    rcases h with (h | h | h | h | h) | ⟨h,-⟩
    ·exact (c1 h).elim
    ·exact (c2 h).elim
    ·exact (c3 h).elim
    ·exact (c4 h).elim
    ·exact (hno h).elim
    ·exact (c7 h).elim
  by_cases c5:0 < a.length
  ·rw [decide_eq_true (show 0 < (a.length:Int) by omega),cond_true]
   obtain ⟨y,hy⟩:=hprev c5
   rw [hy,Option.bind_some]
   rw [hy] at hlast
   by_cases c6:x.1≤y.1
   ·rw [decide_eq_true c6];exact ⟨fun _=>rfl,fun h=>(h (.inl (.inr (.inr (.inr (.inr ⟨c5,y,rfl,c6⟩)))))).elim⟩
   ·rw [decide_eq_false c6]
    exact hlast fun ⟨_,z,hz,h⟩=>by cases hz;exact c6 h
  ·rw [decide_eq_false (show ¬ 0 < (a.length:Int) by omega)]
   exact hlast fun h=>c5 h.1) (by unfold XW;rw [J9];rfl)
 obtain ⟨r,h1,h2⟩:=hloop
 unfold m110
 rw [h1]
 by_cases c1:l.c < 0
 ·rw [decide_eq_true c1];exact ⟨false,rfl,⟨fun h=>(Bool.false_ne_true h).elim,fun h=>by have:=h.1;omega⟩⟩
 rw [decide_eq_false c1,cond_false]
 by_cases c2:100 < l.c
 ·rw [decide_eq_true c2];exact ⟨false,rfl,⟨fun h=>(Bool.false_ne_true h).elim,fun h=>by have:=h.2.1;omega⟩⟩
 rw [decide_eq_false c2,Option.bind_some,cond_false]
 rcases h2 with ⟨rfl,h3⟩ | ⟨rfl,a,x,b,e,h3⟩
 ·refine ⟨true,rfl,fun _=>⟨by omega,by omega,fun h4 y hy h5=>?_,fun a x b e h4=>h3 a x b e (.inl h4)⟩,fun _=>rfl⟩
  obtain ⟨a,b,e⟩:=List.append_of_mem hy
  exact h3 a y b e (.inr ⟨h4,h5⟩)
 ·refine ⟨false,rfl,fun h=>(Bool.false_ne_true h).elim,fun h4=>?_⟩
  rcases h3 with h3 | ⟨h3,h5⟩
  ·exact (h4.2.2.2 a x b e h3).elim
  ·exact (h4.2.2.1 h3 x (by rw [e];simp) h5).elim
theorem lv_same (l:Lvl) (h:l.vs.length≤900000000):∃ b,Uz l=some b∧m110 l=some b∧(b=true→lvP l):=by
 obtain ⟨b,h1,h2⟩:=m103_eq l h
 obtain ⟨c,h3,h4⟩:=m110_eq l h
 have:b=c:=Bool.eq_iff_iff.2 (h2.trans h4.symm)
 exact ⟨b,h1,by rw [this];exact h3,h2.1⟩
end Go.Proofs.Ytafddfoefeploaa
namespace Go.Proofs.Ytafddfoefeploaa
open Go.RowKit Go.Shelf
theorem loop2 {α σ1 τ1 β1 σ2 τ2 β2:Type} {step1:τ1→Option (LO τ1 β1)} {step2:τ2→Option (LO τ2 β2)} (l:List α) (mk1:Int→σ1→τ1) (mk2:Int→σ2→τ2) (I:List α→σ1→σ2→Prop) (Q:β1→β2→Prop) (hlen:l.length≤900000000)
  (hin:∀ (a:List α) (x:α) (b:List α) (s1:σ1) (s2:σ2),l=a++x::b→I a s1 s2 →
   (∃ r1 r2,step1 (mk1 (a.length:Int) s1)=some (.done r1)∧step2 (mk2 (a.length:Int) s2)=some (.done r2)∧Q r1 r2) ∨
   ∃ s1' s2',step1 (mk1 (a.length:Int) s1)=some (.next (mk1 (Ja ((a.length:Int)+1)) s1'))∧step2 (mk2 (a.length:Int) s2)=some (.next (mk2 (Ja ((a.length:Int)+1)) s2'))∧I (a++[x]) s1' s2')
  (hout:∀ s1 s2,I l s1 s2→∃ r1 r2,step1 (mk1 (l.length:Int) s1)=some (.done r1)∧step2 (mk2 (l.length:Int) s2)=some (.done r2)∧Q r1 r2) (s1:σ1) (s2:σ2) (h0:I [] s1 s2) :
  ∃ r1 r2,Qq step1 QI (mk1 0 s1)=some r1∧Qq step2 QI (mk2 0 s2)=some r2∧Q r1 r2:=by
 have key:∀ (b a:List α) (s1:σ1) (s2:σ2) (n:Nat),l=a++b→b.length < n→I a s1 s2→∃ r1 r2,Qq step1 n (mk1 (a.length:Int) s1)=some r1∧Qq step2 n (mk2 (a.length:Int) s2)=some r2∧Q r1 r2:=by
  intro b
  induction b with
  | nil =>
   intro a s1 s2 n hl hn hI
   rw [List.append_nil] at hl
   subst hl
   obtain ⟨r1,r2,h1,h2,h3⟩:=hout s1 s2 hI
   cases n with
   | zero=>omega
   | succ n=>exact ⟨r1,r2,by simp only [Qq,h1],by simp only [Qq,h2],h3⟩
  | cons x b ih =>
   intro a s1 s2 n hl hn hI
   cases n with
   | zero=>omega
   | succ n =>
    rcases hin a x b s1 s2 hl hI with ⟨r1,r2,h1,h2,h3⟩ | ⟨s1',s2',h1,h2,h3⟩
    ·exact ⟨r1,r2,by simp only [Qq,h1],by simp only [Qq,h2],h3⟩
    ·have hal:a.length≤900000000:=by rw [hl,List.length_append] at hlen;omega
     rw [Wx (by omega)] at h1 h2
     obtain ⟨r1,r2,h4,h5,h6⟩:=ih (a++[x]) s1' s2' n (by rw [hl,List.append_assoc];rfl) (by simp only [List.length_cons] at hn;omega) h3
     rw [List.length_append] at h4 h5
     exact ⟨r1,r2,by simp only [Qq,h1];exact h4,by simp only [Qq,h2];exact h5,h6⟩
 exact key l [] s1 s2 QI rfl (by unfold QI;omega) h0
theorem YC {α β1 β2:Type} {step1:Int→Option (LO Int β1)} {step2:Int→Option (LO Int β2)} (l:List α) (z1:β1) (z2:β2) (g1:Int→β1) (g2:Int→β2) (hlen:l.length≤900000000)
  (hin:∀ (a:List α) (x:α) (b:List α),l=a++x::b→∃ e:Int,(e=0→step1 (a.length:Int)=some (.next (Ja ((a.length:Int)+1)))∧step2 (a.length:Int)=some (.next (Ja ((a.length:Int)+1))))∧(e ≠ 0→step1 (a.length:Int)=some (.done (g1 e))∧step2 (a.length:Int)=some (.done (g2 e))))
  (hout1:step1 (l.length:Int)=some (.done z1)) (hout2:step2 (l.length:Int)=some (.done z2)) :
  ∃ e:Int,(e=0→Qq step1 QI 0=some z1∧Qq step2 QI 0=some z2)∧(e ≠ 0→Qq step1 QI 0=some (g1 e)∧Qq step2 QI 0=some (g2 e)):=by
 obtain ⟨r1,r2,h1,h2,e,h3,h4⟩:=loop2 (step1:=step1) (step2:=step2) l (fun i (_:Unit)=>i) (fun i (_:Unit)=>i) (fun _ _ _=>True) (fun r1 r2=>∃ e:Int,(e=0→r1=z1∧r2=z2)∧(e ≠ 0→r1=g1 e∧r2=g2 e)) hlen
  (fun a x b _ _ hl _=>by
   obtain ⟨e,h1,h2⟩:=hin a x b hl
   by_cases he:e=0
   ·exact .inr ⟨(),(),(h1 he).1,(h1 he).2,trivial⟩
   ·exact .inl ⟨_,_,(h2 he).1,(h2 he).2,e,fun h=>(he h).elim,fun _=>⟨rfl,rfl⟩⟩)
  (fun _ _ _=>⟨z1,z2,hout1,hout2,0,fun _=>⟨rfl,rfl⟩,fun h=>(h rfl).elim⟩) () () trivial
 refine ⟨e,fun he=>?_,fun he=>?_⟩
 ·rw [h1,h2,(h3 he).1,(h3 he).2];exact ⟨rfl,rfl⟩
 ·rw [h1,h2,(h4 he).1,(h4 he).2];exact ⟨rfl,rfl⟩
theorem Yv {α:Type} {l a b:List α} {x:α} (e:l=a++x::b):decide ((a.length:Int) < (l.length:Int))=true∧Jx l (a.length:Int)=some x:=by
 rw [e];exact ⟨JS a x b,JF a x b⟩
def formU (ix nm ln A N L K:Bool):Option Bool :=
 Option.bind (cond ix (cond nm (cond ln (some K) (cond L (some K) (some false))) (cond N (cond ln (some K) (cond L (some K) (some false))) (some false)))
  (cond A (cond nm (cond ln (some K) (cond L (some K) (some false))) (cond N (cond ln (some K) (cond L (some K) (some false))) (some false))) (some false))) (fun b=>some b)
theorem formU_eq (ix nm ln A N L K:Bool):formU ix nm ln A N L K=some ((ix||A)&&(nm||N)&&(ln||L)&&K):=by
 cases ix <;> cases nm <;> cases ln <;> cases A <;> cases N <;> cases L <;> cases K <;> rfl
def formV (k0 k12 k3 k2 A N L0 L1 K:Bool):Option Bool :=
 cond (!K) (some false) (Option.bind (cond (!A) (cond (!k0) (some (!k12)) (some false)) (some false)) (fun v3=>cond v3 (some false) (Option.bind (cond (!N) (some (!k3)) (some false)) (fun b0_=>cond b0_ (some false) (cond k2 (some L1) (Option.bind (cond L0 (some true) (some k3)) (fun b1_=>some b1_)))))))
theorem formV_eq (k0 k12 k3 k2 A N L0 L1 K:Bool):formV k0 k12 k3 k2 A N L0 L1 K=some (((k0||k12)||A)&&(k3||N)&&(cond k2 L1 (L0||k3))&&K):=by
 cases k0 <;> cases k12 <;> cases k3 <;> cases k2 <;> cases A <;> cases N <;> cases L0 <;> cases L1 <;> cases K <;> rfl
theorem form_eq (t:Tm):∃ b,UZ t=some b∧Uy t=some b∧(b=true→0≤t.kind∧t.kind < 13∧(t.kind ≠ 3→(t.levels.length:Int)≤1)):=by
 by_cases h1:t.kind < 0
 ·exact ⟨false,by unfold UZ;rw [decide_eq_true h1];rfl,by unfold Uy;rw [decide_eq_true h1];rfl,fun h=>by cases h⟩
 by_cases h2:13≤t.kind
 ·exact ⟨false,by unfold UZ;rw [decide_eq_false h1,decide_eq_true h2];rfl,by unfold Uy;rw [decide_eq_false h1,decide_eq_true h2];rfl,fun h=>by cases h⟩
 have hk:t.kind=0∨t.kind=1∨t.kind=2∨t.kind=3∨t.kind=4∨t.kind=5∨t.kind=6∨t.kind=7∨t.kind=8∨t.kind=9∨t.kind=10∨t.kind=11∨t.kind=12:=by omega
 have fin:∀ (ix nm ln:Bool) (lv kd:Int) (k0 k12 k3 k2:Bool),UZ t=formU ix nm ln (t.index==0) (t.name==[]) ((t.levels.length:Int)==lv) ((t.kids.length:Int)==kd) →
   Uy t=formV k0 k12 k3 k2 (t.index==0) (t.name==[]) ((t.levels.length:Int)==0) ((t.levels.length:Int)==1) ((t.kids.length:Int)==kd) →
   ix=(k0||k12)→nm=k3→(ln||(t.levels.length:Int)==lv)=(cond k2 ((t.levels.length:Int)==1) ((t.levels.length:Int)==0||k3))→(k3=false→ln=false∧lv≤1)→(t.kind ≠ 3→k3=false) →
   ∃ b,UZ t=some b∧Uy t=some b∧(b=true→0≤t.kind∧t.kind < 13∧(t.kind ≠ 3→(t.levels.length:Int)≤1)):=by
  intro ix nm ln lv kd k0 k12 k3 k2 e1 e2 e3 e4 e5 e6 e7
  rw [formU_eq] at e1
  rw [formV_eq,← e5,← e3,← e4] at e2
  refine ⟨_,e1,e2,fun h=>⟨by omega,by omega,fun h3=>?_⟩⟩
  obtain ⟨h4,h5⟩:=e6 (e7 h3)
  rw [h4,Bool.false_or,Bool.and_eq_true,Bool.and_eq_true] at h
  have h6:=eq_of_beq h.1.2
  omega
 obtain ⟨k,i,n,ls,ks⟩:=t
 dsimp only [Tm.kind,Tm.index,Tm.name,Tm.levels,Tm.kids] at *
 rcases hk with hk | hk | hk | hk | hk | hk | hk | hk | hk | hk | hk | hk | hk <;> subst hk
 ·exact fin true false false 0 0 true false false false rfl rfl rfl rfl (by cases ((ls.length:Int)==0) <;> rfl) (fun _=>⟨rfl,by omega⟩) (fun _=>rfl)
 ·exact fin false false false 0 0 false false false false rfl rfl rfl rfl (by cases ((ls.length:Int)==0) <;> rfl) (fun _=>⟨rfl,by omega⟩) (fun _=>rfl)
 ·exact fin false false false 1 0 false false false true rfl rfl rfl rfl rfl (fun _=>⟨rfl,by omega⟩) (fun _=>rfl)
 ·exact fin false true true (-1) 0 false false true false rfl rfl rfl rfl (by cases ((ls.length:Int)==0) <;> rfl) (fun h=>by cases h) (fun h=>(h rfl).elim)
 ·exact fin false false false 0 2 false false false false rfl rfl rfl rfl (by cases ((ls.length:Int)==0) <;> rfl) (fun _=>⟨rfl,by omega⟩) (fun _=>rfl)
 ·exact fin false false false 0 2 false false false false rfl rfl rfl rfl (by cases ((ls.length:Int)==0) <;> rfl) (fun _=>⟨rfl,by omega⟩) (fun _=>rfl)
 ·exact fin false false false 0 2 false false false false rfl rfl rfl rfl (by cases ((ls.length:Int)==0) <;> rfl) (fun _=>⟨rfl,by omega⟩) (fun _=>rfl)
 ·exact fin false false false 0 2 false false false false rfl rfl rfl rfl (by cases ((ls.length:Int)==0) <;> rfl) (fun _=>⟨rfl,by omega⟩) (fun _=>rfl)
 ·exact fin false false false 0 3 false false false false rfl rfl rfl rfl (by cases ((ls.length:Int)==0) <;> rfl) (fun _=>⟨rfl,by omega⟩) (fun _=>rfl)
 ·exact fin false false false 0 1 false false false false rfl rfl rfl rfl (by cases ((ls.length:Int)==0) <;> rfl) (fun _=>⟨rfl,by omega⟩) (fun _=>rfl)
 ·exact fin false false false 0 1 false false false false rfl rfl rfl rfl (by cases ((ls.length:Int)==0) <;> rfl) (fun _=>⟨rfl,by omega⟩) (fun _=>rfl)
 ·exact fin false false false 0 3 false false false false rfl rfl rfl rfl (by cases ((ls.length:Int)==0) <;> rfl) (fun _=>⟨rfl,by omega⟩) (fun _=>rfl)
 ·exact fin true false false 0 0 false true false false rfl rfl rfl rfl (by cases ((ls.length:Int)==0) <;> rfl) (fun _=>⟨rfl,by omega⟩) (fun _=>rfl)
def ZG (V P:Int):Scp:=⟨max V 0,max P 0,max 0 0,max 0 0⟩
theorem lv_code (V P:Int) (x:Lvl) (h:x.vs.length≤900000000):∃ e,D7 (ZG V P) x=some e∧UM x P 0=some e:=by
 obtain ⟨b,h1,h2,-⟩:=lv_same x h
 unfold D7 UM
 rw [h1,h2]
 cases b with
 | false=>exact ⟨3,rfl,rfl⟩
 | true =>
  show ∃ e,Option.bind (Qq (Xx x (ZG V P)) QI 0) _=_∧Option.bind (Qq (XY x P) QI 0) _=_
  obtain ⟨e,h3,h4⟩:=YC (β1:=Unit⊕Int) (β2:=Unit⊕Int) (step1:=Xx x (ZG V P)) (step2:=XY x P) x.vs (.inl ()) (.inl ()) .inr .inr h (fun a y b e=>by
   obtain ⟨q1,q2⟩:=Yv e
   unfold Xx XY
   rw [q1,q2]
   show ∃ e:Int,(_→cond (decide (max P 0≤y.1)) _ _=_∧Option.bind (cond (decide (0≤y.1)) (some (decide (P≤y.1))) (some false)) _=_)∧(_→cond (decide (max P 0≤y.1)) _ _=_∧Option.bind (cond (decide (0≤y.1)) (some (decide (P≤y.1))) (some false)) _=_)
   by_cases c:max P 0≤y.1
   ·rw [decide_eq_true c,decide_eq_true (show 0≤y.1 by omega),decide_eq_true (show P≤y.1 by omega)]
    exact ⟨15,fun h=>by omega,fun _=>⟨rfl,rfl⟩⟩
   ·rw [decide_eq_false c]
    refine ⟨0,fun _=>⟨Z,?_⟩,fun h=>(h Z).elim⟩
    by_cases c2:0≤y.1
    ·rw [decide_eq_true c2,decide_eq_false (show ¬ P≤y.1 by omega)];rfl
    ·rw [decide_eq_false c2];rfl)
   (by unfold Xx;rw [J9];rfl) (by unfold XY;rw [J9];rfl)
  by_cases he:e=0
  ·obtain ⟨e1,e2⟩:=h3 he
   rw [e1,e2]
   show ∃ e,Option.bind (Qq (GQ x (ZG V P)) QI 0) _=_∧Option.bind (Qq (XX x 0) QI 0) _=_
   obtain ⟨e',h5,h6⟩:=YC (β1:=Unit⊕Int) (β2:=Unit⊕Int) (step1:=GQ x (ZG V P)) (step2:=XX x 0) x.vs (.inl ()) (.inl ()) .inr .inr h (fun a y b e=>by
    obtain ⟨q1,q2⟩:=Yv e
    unfold GQ XX
    rw [q1,q2]
    show ∃ e:Int,(_→Option.bind (cond (decide (y.1 < 0)) (some (decide (0≤(Ja ((-1) - y.1))))) (some false)) _=_∧Option.bind (cond (decide (y.1 < 0)) (some (decide (0≤(Ja ((-1) - y.1))))) (some false)) _=_)∧(_→Option.bind (cond (decide (y.1 < 0)) (some (decide (0≤(Ja ((-1) - y.1))))) (some false)) _=_∧Option.bind (cond (decide (y.1 < 0)) (some (decide (0≤(Ja ((-1) - y.1))))) (some false)) _=_)
    cases decide (y.1 < 0) with
    | false=>exact ⟨0,fun _=>⟨rfl,rfl⟩,fun h=>(h rfl).elim⟩
    | true =>
     cases decide (0≤(Ja ((-1) - y.1))) with
     | false=>exact ⟨0,fun _=>⟨rfl,rfl⟩,fun h=>(h rfl).elim⟩
     | true=>exact ⟨23,fun h=>by omega,fun _=>⟨rfl,rfl⟩⟩)
    (by unfold GQ;rw [J9];rfl) (by unfold XX;rw [J9];rfl)
   by_cases he':e'=0
   ·obtain ⟨e1,e2⟩:=h5 he'
    rw [e1,e2];exact ⟨0,rfl,rfl⟩
   ·obtain ⟨e1,e2⟩:=h6 he'
    rw [e1,e2];exact ⟨e',rfl,rfl⟩
  ·obtain ⟨e1,e2⟩:=h4 he
   rw [e1,e2];exact ⟨e,rfl,rfl⟩
theorem levels_len (t:Tm):(t.levels.map lvz).sum < t.size:=by rw [t.size_eq];omega
theorem lvz_len (l:Lvl):l.vs.length < lvz l:=by
 have:=ZL (fun _:LV=>1) (fun _=>Nat.le_refl 1) l.vs
 unfold lvz;omega
theorem W5 {e:Int} (h:e ≠ 0):(e != 0)=true:=bne_iff_ne.2 h
theorem Xb {α:Type} {e:Int} (he:e ≠ 0) (x:Int→Option α) (y:Option α):Option.bind (some e) (fun v=>cond (v != 0) (x v) y)=x e:=by
 rw [Option.bind_some,W5 he];rfl
def U4 (rc:Tm×Int×Int×Int×Int×Int→Option Int) (t:Tm) (dep V P:Int):Option Int:=Option.bind (Qq (Xf t rc dep V P 0 0) QI 0) (Sum.elim (fun (b1_:Unit)=>some 0) (fun o=>some o))
theorem node_tail (t:Tm) (dep V P:Int) (h:t.size≤900000000):∃ e,Option.bind (Qq (ZI t (ZG V P)) QI 0) (Sum.elim (fun (o7:Unit)=>Kr t (ZG V P) dep) (fun o=>some o))=some e ∧
  ∀ rc,(Option.bind (Qq (GA t P 0) QI 0) (Sum.elim (fun (b0_:Unit)=>Option.bind (cond (t.kind==0) (cond (decide (t.index < 0)) (some true) (some (decide (max V 0≤(Ja (t.index - dep)))))) (some false)) (fun (b1_:Bool)=>GB b1_ t 0 rc dep (max V 0) P 0)) (fun o=>some o)))=if e=0 then U4 rc t dep (max V 0) P else some e:=by
 have hl:=levels_len t
 have hl2:=ZL lvz (fun l=>by unfold lvz;omega) t.levels
 obtain ⟨e,h3,h4⟩:=YC (β1:=Unit⊕Int) (β2:=Unit⊕Int) (step1:=ZI t (ZG V P)) (step2:=GA t P 0) t.levels (.inl ()) (.inl ()) .inr .inr (by omega) (fun a y b e=>by
  obtain ⟨q1,q2⟩:=Yv e
  have hy:y.vs.length≤900000000:=by
   have:=lvz_len y
   have:=Zc lvz (show y∈t.levels from by rw [e];simp)
   omega
  obtain ⟨e,h1,h2⟩:=lv_code V P y hy
  unfold ZI GA
  rw [q1,q2]
  show ∃ e:Int,(_→Option.bind (D7 (ZG V P) y) _=_∧Option.bind (UM y P 0) _=_)∧(_→Option.bind (D7 (ZG V P) y) _=_∧Option.bind (UM y P 0) _=_)
  rw [h1,h2]
  refine ⟨e,fun he=>?_,fun he=>?_⟩
  ·subst he;exact ⟨rfl,rfl⟩
  ·exact ⟨Xb he _ _,Xb he _ _⟩)
  (by unfold ZI;rw [J9];rfl) (by unfold GA;rw [J9];rfl)
 by_cases he:e=0
 ·obtain ⟨e1,e2⟩:=h3 he
  rw [e1,e2]
  show ∃ e,Kr t (ZG V P) dep=some e∧∀ rc,Option.bind (cond (t.kind==0) (cond (decide (t.index < 0)) (some true) (some (decide (max V 0≤(Ja (t.index - dep)))))) (some false)) (fun (b1_:Bool)=>GB b1_ t 0 rc dep (max V 0) P 0)=if e=0 then U4 rc t dep (max V 0) P else some e
  unfold Kr
  show ∃ e,Option.bind (cond (t.kind==0) (cond (decide (t.index < 0)) (some true) (some (decide (max V 0≤(Ja (t.index - dep)))))) (some false)) _=some e∧_
  obtain ⟨v,hv⟩:∃ v,cond (t.kind==0) (cond (decide (t.index < 0)) (some true) (some (decide (max V 0≤(Ja (t.index - dep)))))) (some false)=some v:=by
   cases (t.kind==0) <;> cases decide (t.index < 0) <;> exact ⟨_,rfl⟩
  rw [hv]
  ·cases v with
   | true=>exact ⟨24,rfl,fun rc=>rfl⟩
   | false =>
    show ∃ e,Option.bind (cond (t.kind==12) (cond (decide (t.index < 0)) (some true) (some (decide ((0:Int)≤t.index)))) (some false)) _=some e∧∀ rc,GB false t 0 rc dep (max V 0) P 0=_
    unfold GB
    simp only [cond_false]
    cases t.kind==12 with
    | false=>exact ⟨0,rfl,fun rc=>rfl⟩
    | true =>
     cases decide (t.index < 0) with
     | true=>exact ⟨23,rfl,fun rc=>rfl⟩
     | false =>
      cases decide ((0:Int)≤t.index) with
      | true=>exact ⟨23,rfl,fun rc=>rfl⟩
      | false=>exact ⟨0,rfl,fun rc=>rfl⟩
 ·obtain ⟨e1,e2⟩:=h4 he
  rw [e1,e2]
  exact ⟨e,rfl,fun rc=>by rw [if_neg he];rfl⟩
theorem node_eq (t:Tm) (dep V P:Int) (h:t.size≤900000000):∃ e,D8 (ZG V P) t dep=some e∧(∀ rc,Ui rc t dep (max V 0) P 0 0=if e=0 then U4 rc t dep (max V 0) P else some e)∧(e=0→0≤t.kind∧t.kind < 13):=by
 obtain ⟨b,h1,h2,h3⟩:=form_eq t
 unfold D8 Ui
 rw [h1,h2]
 cases b with
 | false=>exact ⟨3,rfl,fun rc=>rfl,fun h=>by omega⟩
 | true =>
  obtain ⟨k1,k2,k3⟩:=h3 rfl
  obtain ⟨e,h4,h5⟩:=node_tail t dep V P h
  have hn:t.name.length≤900000000:=by have:=t.size_eq;omega
  show ∃ e,cond (t.kind==3) (Option.bind (Da t.name) _) _=some e∧(∀ rc,Option.bind (cond (t.kind==3) (Option.bind (D9 t.name) _) _) _=_)∧_
  rw [m65_eq _ hn,m71_eq _ hn,Yk]
  by_cases hk:t.kind=3
  ·rw [decide_eq_true hk]
   cases ZH t.name with
   | false=>exact ⟨29,rfl,fun rc=>rfl,fun h=>by omega⟩
   | true =>
    show ∃ e,cond (decide (8 < (t.levels.length:Int))) (some 6) (Option.bind (Qq (ZI t (ZG V P)) QI 0) (Sum.elim (fun (o7:Unit)=>Kr t (ZG V P) dep) (fun o=>some o)))=some e∧(∀ rc,cond (decide (8 < (t.levels.length:Int))) (some 6) (Option.bind (Qq (GA t P 0) QI 0) (Sum.elim (fun (b0_:Unit)=>Option.bind (cond (t.kind==0) (cond (decide (t.index < 0)) (some true) (some (decide (max V 0≤(Ja (t.index - dep)))))) (some false)) (fun (b1_:Bool)=>GB b1_ t 0 rc dep (max V 0) P 0)) (fun o=>some o)))=_)∧_
    cases decide (8 < (t.levels.length:Int)) with
    | true=>exact ⟨6,rfl,fun rc=>rfl,fun h=>by omega⟩
    | false=>exact ⟨e,h4,h5,fun _=>⟨k1,k2⟩⟩
  ·rw [decide_eq_false hk]
   show ∃ e,Option.bind (Qq (ZI t (ZG V P)) QI 0) (Sum.elim (fun (o7:Unit)=>Kr t (ZG V P) dep) (fun o=>some o))=some e∧(∀ rc,cond (decide (8 < (t.levels.length:Int))) (some 6) (Option.bind (Qq (GA t P 0) QI 0) (Sum.elim (fun (b0_:Unit)=>Option.bind (cond (t.kind==0) (cond (decide (t.index < 0)) (some true) (some (decide (max V 0≤(Ja (t.index - dep)))))) (some false)) (fun (b1_:Bool)=>GB b1_ t 0 rc dep (max V 0) P 0)) (fun o=>some o)))=_)∧_
   rw [decide_eq_false (show ¬ 8 < (t.levels.length:Int) by have:=k3 hk;omega)]
   exact ⟨e,h4,h5,fun _=>⟨k1,k2⟩⟩
end Go.Proofs.Ytafddfoefeploaa
namespace Go.Proofs.Ytafddfoefeploaa
open Go.RowKit Go.Shelf
def Tm.num:Tm→Nat
 | .mk _ _ _ _ ks=>1+(ks.attach.map fun k=>Tm.num k.1).sum
termination_by t=>SizeOf.sizeOf t
decreasing_by
 have:=List.sizeOf_lt_of_mem k.2
 simp only [Tm.mk.sizeOf_spec];omega
theorem Tm.num_eq (t:Tm):t.num=1+(t.kids.map Tm.num).sum:=by
 cases t
 rw [Tm.num,List.attach_map_val];rfl
theorem sum_le2 {α:Type} (f g:α→Nat):∀ l:List α,(∀ x∈l,f x≤g x)→(l.map f).sum≤(l.map g).sum
 | [],_=>Nat.le_refl _
 | x::l,h=>by
  rw [List.map_cons,List.sum_cons,List.map_cons,List.sum_cons]
  have h1:=h x (List.mem_cons_self ..)
  have h2:=sum_le2 f g l fun y hy=>h y (List.mem_cons_of_mem _ hy)
  omega
theorem Tm.num_le (t:Tm):t.num≤t.size:=by
 induction t using Tm.ind with
 | h t ih =>
  rw [t.num_eq,t.size_eq]
  have:=sum_le2 Tm.num Tm.size t.kids ih
  omega
theorem num_le2 {t:Tm} {a b:List Tm} {x:Tm} (e:t.kids=a++x::b):(a.map Tm.num).sum+x.size < t.size∧(a.map Tm.num).sum+x.num < t.num:=by
 have h1:=t.size_eq
 have h2:=t.num_eq
 rw [e,sum_split] at h1 h2
 have h3:=sum_le2 Tm.num Tm.size a fun x _=>x.num_le
 constructor <;> omega
theorem num_walk:∀ (n:Nat) (t:Tm),t.size≤n→t.size≤900000000→JE Ub n t=some (t.num:Int)
 | 0,t,h,_=>by rw [t.size_eq] at h;omega
 | n+1,t,h,h2=>by
  show Ua (JE Ub n) t=_
  unfold Ua
  have hl:=Gn t
  have hn:=t.num_le
  obtain ⟨r,e1,e2⟩:=Y3 (step:=KZ t (JE Ub n)) t.kids (fun i (s:Nat)=>((s:Int),i)) (fun a s=>s=1+(a.map Tm.num).sum) (fun r=>r=(t.num:Int)) (by omega)
   (fun a x b s e hI=>by
    have hx:=YA (t:=t) (k:=x) (by rw [e];simp)
    have hr:=num_walk n x (by omega) (by omega)
    have h3:=num_le2 e
    obtain ⟨q1,q2⟩:=Yv e
    refine .inr ⟨s+x.num,?_,?_⟩
    ·unfold KZ
     dsimp only
     rw [q1,q2]
     simp only [cond_true,Option.bind_some]
     rw [hr]
     simp only [Option.bind_some]
     rw [W6 (n:=(s:Int)+(x.num:Int)) (by omega) (by omega)]
     rfl
    ·rw [hI,List.map_append,List.sum_append];simp;omega)
   (fun s hI=>⟨(s:Int),by unfold KZ;dsimp only;rw [J9];rfl,by rw [hI,t.num_eq]⟩) 1 rfl
  have e3:Qq (KZ t (JE Ub n)) QI (1,0)=some r:=e1
  rw [e3,e2];rfl
theorem m81_eq:m81=m56:=rfl
theorem bind_eq (k:Int) (h0:0≤k) (h1:k < 13):∃ v,Jx ([(-1),(-1),(-1),(-1),(-1),1,1,1,(-1),(-1),(-1),2,(-1)]:List Int) k=some v∧∀ j:Nat,Uc k (j:Int)=some (if (j:Int)=v then 1 else 0):=by
 have hk:k=0∨k=1∨k=2∨k=3∨k=4∨k=5∨k=6∨k=7∨k=8∨k=9∨k=10∨k=11∨k=12:=by omega
 have no:∀ (c:Bool→Option Int) (j:Nat),Uc k (j:Int)=some 0→Uc k (j:Int)=some (if (j:Int) = -1 then 1 else 0):=fun _ j h=>by rw [h,if_neg (by omega)]
 rcases hk with hk | hk | hk | hk | hk | hk | hk | hk | hk | hk | hk | hk | hk <;> subst hk
 case inr.inr.inr.inr.inr.inl=>exact ⟨1,rfl,fun j=>by
  unfold Uc;rw [Yk (j:Int) 1,Yk (j:Int) 2]
  by_cases h:(j:Int)=1
  ·rw [decide_eq_true h,if_pos h];rfl
  ·rw [decide_eq_false h,if_neg h]
   cases decide ((j:Int)=2) <;> rfl⟩
 case inr.inr.inr.inr.inr.inr.inl=>exact ⟨1,rfl,fun j=>by
  unfold Uc;rw [Yk (j:Int) 1,Yk (j:Int) 2]
  by_cases h:(j:Int)=1
  ·rw [decide_eq_true h,if_pos h];rfl
  ·rw [decide_eq_false h,if_neg h]
   cases decide ((j:Int)=2) <;> rfl⟩
 case inr.inr.inr.inr.inr.inr.inr.inl=>exact ⟨1,rfl,fun j=>by
  unfold Uc;rw [Yk (j:Int) 1,Yk (j:Int) 2]
  by_cases h:(j:Int)=1
  ·rw [decide_eq_true h,if_pos h];rfl
  ·rw [decide_eq_false h,if_neg h]
   cases decide ((j:Int)=2) <;> rfl⟩
 case inr.inr.inr.inr.inr.inr.inr.inr.inr.inr.inr.inl=>exact ⟨2,rfl,fun j=>by
  unfold Uc;rw [Yk (j:Int) 1,Yk (j:Int) 2]
  by_cases h:(j:Int)=2
  ·rw [decide_eq_true h,if_pos h,decide_eq_false (show ¬ (j:Int)=1 by omega)];rfl
  ·rw [decide_eq_false h,if_neg h]
   cases decide ((j:Int)=1) <;> rfl⟩
 all_goals exact ⟨-1,rfl,fun j=>no (fun _=>none) j (by
  unfold Uc;rw [Yk (j:Int) 1,Yk (j:Int) 2]
  cases decide ((j:Int)=1) <;> cases decide ((j:Int)=2) <;> rfl)⟩
theorem walk_eq (V P:Int) (root:Tm):∀ (n:Nat) (t:Tm) (dep cnt:Nat),t.size≤n→dep+t.size≤900000000→cnt+t.size≤900000000 →
  ∃ e:Int,JE U2 n (t,(dep:Int),max V 0,P,0,0)=some e∧(e=0→JE Kq n (t,(dep:Int),root,0,ZG V P,(cnt:Int),root)=some (.inr (true,((cnt+t.num:Nat):Int)))) ∧
   (e ≠ 0→∃ c,JE Kq n (t,(dep:Int),root,0,ZG V P,(cnt:Int),root)=some (.inl (e,c)))
 | 0,t,_,_,h,_,_=>by rw [t.size_eq] at h;omega
 | n+1,t,dep,cnt,h,hd,hc=>by
  show ∃ e:Int,Ui (JE U2 n) t (dep:Int) (max V 0) P 0 0=some e∧(e=0→W9 (JE Kq n) t (dep:Int) root 0 (ZG V P) (cnt:Int) root=_)∧(e ≠ 0→∃ c,W9 (JE Kq n) t (dep:Int) root 0 (ZG V P) (cnt:Int) root=some (.inl (e,c)))
  obtain ⟨e,h1,h2,h3⟩:=node_eq t (dep:Int) V P (by omega)
  have hl:=Gn t
  have hnum:=t.num_le
  rw [h2]
  unfold W9
  rw [h1]
  by_cases he:e=0
  ·subst he
   obtain ⟨k0,k1⟩:=h3 rfl
   obtain ⟨v,hv,hj⟩:=bind_eq t.kind k0 k1
   rw [if_pos rfl]
   rw [decide_eq_true k0,decide_eq_true k1]
   show ∃ e:Int,U4 (JE U2 n) t (dep:Int) (max V 0) P=some e∧(e=0→G9 true t (dep:Int) (JE Kq n) root 0 (ZG V P) root (cnt:Int)=_)∧(e ≠ 0→∃ c,G9 true t (dep:Int) (JE Kq n) root 0 (ZG V P) root (cnt:Int)=some (.inl (e,c)))
   have hg:Jh (cond (decide (0≤t.kind)) (Nat.blt t.kind.toNat 13) false) (some v)=some v:=by
    rw [decide_eq_true k0,cond_true,show Nat.blt t.kind.toNat 13=true from Nat.ble_eq_true_of_le (by omega)];rfl
   unfold G9 U4
   rw [hv]
   simp only [cond_true,Option.bind_some]
   rw [hg,Option.bind_some,Wx (by omega)]
   obtain ⟨r1,r2,e1,e2,e3⟩:=loop2 (β1:=Unit⊕Int) (β2:=Int⊕((Int×Int)⊕(Bool×Int))) (step1:=Xf t (JE U2 n) (dep:Int) (max V 0) P 0 0) (step2:=ZO t v (dep:Int) (JE Kq n) root 0 (ZG V P) root) t.kids (fun i (_:Unit)=>i) (fun i (c:Nat)=>(i,(c:Int)))
    (fun a _ c=>c=cnt+1+(a.map Tm.num).sum) (fun r1 r2=>(r1=.inl ()∧r2=.inl ((cnt+t.num:Nat):Int))∨∃ e c,e ≠ 0∧r1=.inr e∧r2=.inr (.inl (e,c))) (by omega)
    (fun a x b _ c e hI=>by
     obtain ⟨q1,q2⟩:=Yv e
     have hx:=num_le2 e
     have hxs:=YA (t:=t) (k:=x) (by rw [e];simp)
     unfold Xf ZO
     dsimp only
     rw [q1,q2]
     simp only [cond_true,Option.bind_some]
     rw [hj a.length,Yk]
     obtain ⟨d',hd1,hd2,hd3⟩:∃ d':Nat,Ja ((dep:Int)+(if (a.length:Int)=v then 1 else 0))=(d':Int)∧(cond (decide ((a.length:Int)=v)) (some (Ja ((dep:Int)+1))) (some (dep:Int)))=some (d':Int)∧d'≤dep+1:=by
      by_cases hh:(a.length:Int)=v
      ·rw [if_pos hh,decide_eq_true hh,Wx (by omega)];exact ⟨dep+1,rfl,rfl,Nat.le_refl _⟩
      ·rw [if_neg hh,decide_eq_false hh,W6 (by omega) (by omega)];exact ⟨dep,by omega,rfl,by omega⟩
     rw [hd2]
     simp only [Option.bind_some]
     rw [hd1]
     obtain ⟨e',w1,w2,w3⟩:=walk_eq V P root n x d' c (by omega) (by omega) (by omega)
     unfold m91f3_k0
     rw [w1]
     simp only [Option.bind_some]
     by_cases he':e'=0
     ·rw [w2 he']
      subst he'
      refine .inr ⟨(),c+x.num,Z,Z,?_⟩
      rw [hI,List.map_append,List.sum_append];simp;omega
     ·obtain ⟨c',w4⟩:=w3 he'
      rw [w4,W5 he']
      exact .inl ⟨_,_,Z,Z,.inr ⟨e',c',he',Z,Z⟩⟩)
    (fun _ c hI=>⟨_,_,by unfold Xf;rw [J9];rfl,by unfold ZO;dsimp only;rw [J9];rfl,.inl ⟨rfl,by rw [hI,t.num_eq];congr 2;omega⟩⟩) () (cnt+1) (by simp)
   have e1':Qq (Xf t (JE U2 n) (dep:Int) (max V 0) P 0 0) QI 0=some r1:=e1
   have e2':Qq (ZO t v (dep:Int) (JE Kq n) root 0 (ZG V P) root) QI (0,((cnt+1:Nat):Int))=some r2:=e2
   rw [e1',e2']
   rcases e3 with ⟨rfl,rfl⟩ | ⟨e',c',he',rfl,rfl⟩
   ·exact ⟨0,rfl,fun _=>rfl,fun h=>(h rfl).elim⟩
   ·exact ⟨e',rfl,fun h=>(he' h).elim,fun _=>⟨c',rfl⟩⟩
  ·rw [if_neg he]
   refine ⟨e,Z,fun h=>(he h).elim,fun _=>⟨(cnt:Int),?_⟩⟩
   simp only [Option.bind_some,W5 he,cond_true];rfl
theorem m66_eq (t:Tm) (V P:Int) (h:t.size≤900000000):∃ e,m86 t V P 0 0=some e∧Ds t V P 0 0=some e:=by
 obtain ⟨e,h1,h2,h3⟩:=walk_eq V P t QI t 0 0 (by unfold QI;omega) (by omega) (by omega)
 obtain ⟨d,h4⟩:=depth_some QI t (by unfold QI;omega) h
 have h5:Db t=some (t.num:Int):=num_walk QI t (by unfold QI;omega) h
 have h6:m56 t=some d:=h4
 have h1':m100 t 0 (max V 0) P 0 0=some e:=h1
 have h7:∀ r,JE Kq QI (t,((0:Nat):Int),t,0,ZG V P,((0:Nat):Int),t)=some r→m91f3 t 0 t 0 (⟨(max V 0),(max P 0),(max 0 0),(max 0 0)⟩:Scp) 0 t=some r:=fun r h=>h
 unfold m86 Ds
 rw [h1',m81_eq,h5,h6]
 by_cases he:e=0
 ·have h8:=h7 _ (h2 he)
  rw [h8]
  subst he
  show ∃ e,cond (decide (4096 < (t.num:Int))) (some 5) (cond (decide (200 < d)) (some 7) (some 0))=some e∧cond (decide (4096 < ((0+t.num:Nat):Int))) (some 5) (cond (decide (200 < d)) (some 7) (some 0))=some e
  rw [Nat.zero_add]
  cases decide (4096 < (t.num:Int)) with
  | true=>exact ⟨5,rfl,rfl⟩
  | false=>cases decide (200 < d) <;> exact ⟨_,rfl,rfl⟩
 ·obtain ⟨c,h9⟩:=h3 he
  rw [h7 _ h9]
  simp only [Option.bind_some,W5 he,cond_true]
  exact ⟨e,Z,Z⟩
end Go.Proofs.Ytafddfoefeploaa
namespace Go.Proofs.Ytafddfoefeploaa
open Go.RowKit Go.Shelf
def m101_k0 (p0_:Bool) (p1_:(List Tm)×Int×Int×Bs×(List Lvl)×(List Tm)):Option (LO ((List Tm)×Int×Int×Bs×(List Lvl)×(List Tm)) (((List Tm)×Int×Int×Bs×(List Lvl)×(List Tm)))) :=
 cond p0_
   (Option.bind (Jx p1_.2.2.2.2.2 0) fun (b0_:Tm) =>
 Jh (Nat.ble (p1_.1.length+([b0_]).length) 1000000000)
 (Option.bind (Jx p1_.2.2.2.2.2 1) fun (b1_:Tm) =>
 some (.next ((p1_.1++([b0_])),b1_.kind,b1_.index,b1_.name,b1_.levels,b1_.kids))))
   (some (.done (p1_.1,p1_.2.1,p1_.2.2.1,p1_.2.2.2.1,p1_.2.2.2.2.1,p1_.2.2.2.2.2)))
def KO  (s1:(List Tm)×Int×Int×Bs×(List Lvl)×(List Tm)):Option (LO ((List Tm)×Int×Int×Bs×(List Lvl)×(List Tm)) (((List Tm)×Int×Int×Bs×(List Lvl)×(List Tm)))) :=
 Option.bind (cond (s1.2.1==6)
   (some ((s1.2.2.2.2.2.length:Int)==2))
   (some false)) (fun (v2:Bool)=>m101_k0 v2 s1)
def m101 (a0:Tm):Option ((List Tm)×Tm) :=
 Option.bind (Qq (KO) QI (([]:List Tm),a0.kind,a0.index,a0.name,a0.levels,a0.kids)) (fun (o1:(List Tm)×Int×Int×Bs×(List Lvl)×(List Tm))=>some (o1.1,(Tm.mk o1.2.1 o1.2.2.1 o1.2.2.2.1 o1.2.2.2.2.1 o1.2.2.2.2.2)))
def UW (a0:Tm):Option Bool :=
 Option.bind (Ur a0 (Tm.mk 0 0 ([]:List UInt8) ([]:List Lvl) ([]:List Tm))) fun (x1:Bool) =>
 some x1
def GS  (s1:Int×Int×Int×Bs×(List Lvl)×(List Tm)):Option (LO (Int×Int×Int×Bs×(List Lvl)×(List Tm)) ((Int×Int×Int×Bs×(List Lvl)×(List Tm)))) :=
 Option.bind (cond (s1.2.1==6)
   (some ((s1.2.2.2.2.2.length:Int)==2))
   (some false)) (fun (v2:Bool)=>cond v2
   (Option.bind (Jx s1.2.2.2.2.2 1) fun (x4:Tm) =>
 some (.next ((Ja (s1.1+1)),x4.kind,x4.index,x4.name,x4.levels,x4.kids)))
   (some (.done (s1.1,s1.2.1,s1.2.2.1,s1.2.2.2.1,s1.2.2.2.2.1,s1.2.2.2.2.2))))
def Dl (a0:Tm):Option Int :=
 Option.bind (Qq (GS) QI (0,a0.kind,a0.index,a0.name,a0.levels,a0.kids)) (fun (o1:Int×Int×Int×Bs×(List Lvl)×(List Tm))=>some o1.1)
def Wd (a0:Dcl) (s1:Bool×Int):Option (LO (Bool×Int) Bool) :=
 cond (decide (s1.2 < (a0.ctors.length:Int)))
   (Option.bind (cond s1.1
   (Option.bind (Jx a0.ctors s1.2) fun (x6:Ctr) =>
 Option.bind (Dl x6.ty) fun (x7:Int) =>
 some (decide (a0.fixed≤x7)))
   (some false)) (fun (v4:Bool)=>some (.next (v4,(Ja (s1.2+1))))))
   (some (.done s1.1))
def m70 (a0:Dcl):Option Bool :=
 Option.bind (Dl a0.ty) fun (x1:Int) =>
 Option.bind (Qq (Wd a0) QI ((decide (a0.fixed≤x1)),0)) (fun (o2:Bool)=>some o2)
def m50_k0 (p0_:Bool) (p1_:Bool) (p2_:Dcl):Option Bool :=
 cond p0_
   (Option.bind (cond p1_
   (some ((p2_.funs.length:Int)==0))
   (some false)) (fun (b0_:Bool)=>some b0_))
   (cond (p2_.kind==3)
   (Option.bind (Option.bind (UW p2_.value) fun (b1_:Bool) =>
 cond b1_
   (some ((p2_.funs.length:Int)==0))
   (some false)) (fun (b2_:Bool)=>some b2_))
   (Option.bind (cond (p2_.name==([]:List UInt8))
   (Option.bind (UW p2_.ty) fun (b3_:Bool) =>
 cond b3_
   (Option.bind (UW p2_.value) fun (b4_:Bool) =>
 cond b4_
   (some p1_)
   (some false))
   (some false))
   (some false)) (fun (b5_:Bool)=>some b5_)))
def m50_k1 (p0_:Dcl) (p1_:Bool):Option Bool :=
 cond (p0_.kind==0)
   (Option.bind (Option.bind (UW p0_.value) fun (b0_:Bool) =>
 cond b0_
   (cond p1_
   (some ((p0_.funs.length:Int)==0))
   (some false))
   (some false)) (fun (b1_:Bool)=>some b1_))
   (Option.bind (cond (p0_.kind==1)
   (some (p0_.kind==1))
   (some (p0_.kind==2))) (fun (b2_:Bool)=>m50_k0 b2_ p1_ p0_))
def m50 (a0:Dcl):Option Bool :=
 Option.bind (cond (a0.rcr.params==0)
   (Option.bind (UW a0.rcr.ty) fun (x3:Bool) =>
 cond x3
   (some ((a0.rcr.rules.length:Int)==0))
   (some false))
   (some false)) (fun (v1:Bool)=>Option.bind (cond (a0.fixed==0)
   (cond ((a0.ctors.length:Int)==0)
   (some v1)
   (some false))
   (some false)) (fun (v2:Bool)=>m50_k1 a0 v2))
def Wg (a0:Dcl) (s1:Int):Option (LO Int (Unit⊕Int)) :=
 cond (decide (s1 < (a0.funs.length:Int)))
   (Option.bind (Option.bind (Jx a0.funs s1) fun (x8:Fn) =>
 cond (decide (x8.arity < 1))
   (some true)
   (Option.bind (Jx a0.funs s1) fun (x10:Fn) =>
 some (decide (16 < x10.arity)))) (fun (v7:Bool)=>cond v7
   (some (.done (.inr 3)))
   (some (.next (Ja (s1+1))))))
   (some (.done (.inl ())))
def m51_k1 (p0_:Dcl):Option Int :=
 Option.bind (cond (p0_.kind==3)
   (cond (p0_.rcr.params != p0_.params)
   (cond (p0_.rcr.params != (Ja (p0_.params+1)))
   (some true)
   (cond ((p0_.rcr.rules.length:Int) != (p0_.ctors.length:Int))
   (some true)
   (Option.bind (m70 p0_) fun (b0_:Bool) =>
 some (!b0_))))
   (cond ((p0_.rcr.rules.length:Int) != (p0_.ctors.length:Int))
   (some true)
   (Option.bind (m70 p0_) fun (b1_:Bool) =>
 some (!b1_))))
   (some false)) (fun (b2_:Bool)=>cond b2_
   (some 3)
   (some 0))
def XA (p0_:Bool) (p1_:Dcl):Option Int :=
 cond p0_
   (some 2)
   (Option.bind (cond (decide (32 < (p1_.ctors.length:Int)))
   (some true)
   (cond (p1_.kind==4)
   (cond (decide ((p1_.funs.length:Int) < 1))
   (some true)
   (some (decide (8 < (p1_.funs.length:Int)))))
   (some false))) (fun (b0_:Bool)=>cond b0_
   (some 6)
   (Option.bind (Qq (Wg p1_) QI 0) (Sum.elim (fun (b1_:Unit)=>m51_k1 p1_) (fun o=>some o)))))
def D4 (a0:Dcl):Option Int :=
 Option.bind (cond (decide (a0.params < 0))
   (some true)
   (cond (decide (8 < a0.params))
   (some true)
   (some (decide (a0.fixed < 0))))) (fun (v1:Bool)=>XA v1 a0)
def m88 (a0:Dcl) (a1:Int):Option Int :=
 Option.bind (Jx a0.ctors a1) fun (x1:Ctr) =>
 Option.bind (m101 x1.ty) fun (x2:(List Tm)×Tm) =>
 some (max 0 (Ja ((x2.1.length:Int) - a0.fixed)))
def GR (a1:Tm) (rc:Rsc×Tm→Option Int) (a0:Rsc) (s1:Int):Option (LO Int (Unit⊕Int)) :=
 cond (decide (s1 < (a1.kids.length:Int)))
   (Option.bind (Jx a1.kids s1) fun (x10:Tm) =>
 Option.bind (rc (a0,x10)) fun (x11:Int) =>
 cond (x11 != 0)
   (some (.done (.inr x11)))
   (some (.next (Ja (s1+1)))))
   (some (.done (.inl ())))
def UF (rc:Rsc×Tm→Option Int) (a0:Rsc) (a1:Tm):Option Int :=
 cond (a1.kind==3)
   (Option.bind (UX a0.env a1.name) fun (x2:Ent×Int) =>
 cond (x2.2 != 0)
   (Option.bind (UB a0.own a1.name) fun (x4:Bool) =>
 cond (!x4)
   (some 9)
   (Option.bind (Dm a0.d (a0.env.length:Int) a1.name) fun (x6:Ent) =>
 cond ((a1.levels.length:Int) != x6.params)
   (some 15)
   (Option.bind (Qq (GR a1 rc a0) QI 0) (Sum.elim (fun (o8:Unit)=>some 0) (fun o=>some o)))))
   (cond ((a1.levels.length:Int) != x2.1.params)
   (some 15)
   (Option.bind (Qq (GR a1 rc a0) QI 0) (Sum.elim (fun (o15:Unit)=>some 0) (fun o=>some o)))))
   (Option.bind (Qq (GR a1 rc a0) QI 0) (Sum.elim (fun (o21:Unit)=>some 0) (fun o=>some o)))
def UG (rc:Rsc×Tm→Option Int) (u:Rsc×Tm):Option Int:=UF rc u.1 u.2
def m87 (a0:Rsc) (a1:Tm):Option Int:=JE UG QI (a0,a1)
def Uw (a0:Rsc) (a1:Tm) (a2:Int) (a3:Int):Option Int :=
 Option.bind (m86 a1 a2 a3 0 0) fun (x1:Int) =>
 cond (x1 != 0)
   (some x1)
   (Option.bind (m87 a0 a1) fun (x3:Int) =>
 some x3)
def m73_k0 (p0_:Bool) (p1_:Br) (p2_:Int) (p3_:Rsc) (p4_:Ent×Int) (p5_:Rsc×Tr×Int×Int→Option Int) (p6_:Int) (p7_:Int):Option (LO Int (Unit⊕Int)) :=
 cond p0_
   (some (.done (.inr 9)))
   (cond p1_.absurd
   (Option.bind (Dv p1_.tree (Tr.mk 0 (Tm.mk 0 0 ([]:List UInt8) ([]:List Lvl) ([]:List Tm)) 0 ([]:List Br))) fun (b0_:Bool) =>
 cond (!b0_)
   (some (.done (.inr 3)))
   (some (.next (Ja (p2_+1)))))
   (Option.bind (Jx p3_.env p4_.1.decl) fun (b1_:Dcl) =>
 Option.bind (m88 b1_ p4_.1.item) fun (b2_:Int) =>
 Option.bind (p5_ (p3_,p1_.tree,(Ja (p6_+b2_)),(Ja (p7_+1)))) fun (b3_:Int) =>
 cond (b3_ != 0)
   (some (.done (.inr b3_)))
   (some (.next (Ja (p2_+1))))))
def m73_l1 (a1:Tr) (a0:Rsc) (rc:Rsc×Tr×Int×Int→Option Int) (a2:Int) (a3:Int) (s1:Int):Option (LO Int (Unit⊕Int)) :=
 cond (decide (s1 < (a1.branches.length:Int)))
   (Option.bind (Jx a1.branches s1) fun (x15:Br) =>
 Option.bind (UX a0.env x15.ctor) fun (x16:Ent×Int) =>
 Option.bind (cond (x16.2 != 0)
   (some true)
   (some (x16.1.kind != 4))) (fun (v17:Bool)=>m73_k0 v17 x15 s1 a0 x16 rc a2 a3))
   (some (.done (.inl ())))
def m73s (rc:Rsc×Tr×Int×Int→Option Int) (a0:Rsc) (a1:Tr) (a2:Int) (a3:Int):Option Int :=
 cond (decide (200≤a3))
   (some 7)
   (cond (a1.kind==0)
   (Option.bind (cond (a1.var != 0)
   (some true)
   (some (decide (0 < (a1.branches.length:Int))))) (fun (v3:Bool)=>cond v3
   (some 3)
   (Option.bind (Uw a0 a1.body a2 a0.d.params) fun (x5:Int) =>
 some x5)))
   (cond (a1.kind==1)
   (Option.bind (UW a1.body) fun (x8:Bool) =>
 cond (!x8)
   (some 3)
   (Option.bind (cond (decide (a1.var < 0))
   (some true)
   (some (decide (a2≤a1.var)))) (fun (v10:Bool)=>cond v10
   (some 24)
   (cond (decide (32 < (a1.branches.length:Int)))
   (some 6)
   (Option.bind (Qq (m73_l1 a1 a0 rc a2 a3) QI 0) (Sum.elim (fun (o13:Unit)=>some 0) (fun o=>some o)))))))
   (some 3)))
def m73F (rc:Rsc×Tr×Int×Int→Option Int) (u:Rsc×Tr×Int×Int):Option Int:=m73s rc u.1 u.2.1 u.2.2.1 u.2.2.2
def m73 (a0:Rsc) (a1:Tr) (a2:Int) (a3:Int):Option Int:=JE m73F QI (a0,a1,a2,a3)
def G1 (x1:(List Bs)) (a0:List Dcl) (s1:Int):Option (LO Int (Unit⊕Int)) :=
 cond (decide (s1 < (x1.length:Int)))
   (Option.bind (Jx x1 s1) fun (x4:Bs) =>
 Option.bind (D9 x4) fun (x5:Bool) =>
 cond (!x5)
   (some (.done (.inr 29)))
   (Option.bind (Jx x1 s1) fun (x7:Bs) =>
 Option.bind (UX a0 x7) fun (x8:Ent×Int) =>
 Option.bind (cond (x8.2==0)
   (some true)
   (Jh (cond (decide (0≤s1)) (Nat.ble s1.toNat x1.length) false)
 (Option.bind (Jx x1 s1) fun (x12:Bs) =>
 Option.bind (UB (x1.take s1.toNat) x12) fun (x13:Bool) =>
 some x13))) (fun (v9:Bool)=>cond v9
   (some (.done (.inr 8)))
   (some (.next (Ja (s1+1)))))))
   (some (.done (.inl ())))
def UU (a0:List Dcl) (a1:Dcl):Option Int :=
 Option.bind (Dd a1) fun (x1:(List Bs)) =>
 Option.bind (Qq (G1 x1 a0) QI 0) (Sum.elim (fun (o2:Unit)=>some 0) (fun o=>some o))
def WI (a1:Dcl) (a0:List Dcl) (s1:Int):Option (LO Int (Unit⊕Int)) :=
 cond (decide (s1 < (a1.ctors.length:Int)))
   (Option.bind (Jx a1.ctors s1) fun (x10:Ctr) =>
 Option.bind (Uw (⟨a0,[a1.name],a1⟩:Rsc) x10.ty 0 a1.params) fun (x11:Int) =>
 cond (x11 != 0)
   (some (.done (.inr x11)))
   (some (.next (Ja (s1+1)))))
   (some (.done (.inl ())))
def WH (a1:Dcl) (a0:List Dcl) (x9:(List Bs)) (s1:Int):Option (LO Int (Unit⊕Int)) :=
 cond (decide (s1 < (a1.rcr.rules.length:Int)))
   (Option.bind (Jx a1.rcr.rules s1) fun (x15:Tm) =>
 Option.bind (Uw (⟨a0,x9,a1⟩:Rsc) x15 0 a1.rcr.params) fun (x16:Int) =>
 cond (x16 != 0)
   (some (.done (.inr x16)))
   (some (.next (Ja (s1+1)))))
   (some (.done (.inl ())))
def m53_k2 (p0_:Dcl) (p1_:List Dcl):Option Int :=
 Option.bind (Dd p0_) fun (b0_:(List Bs)) =>
 Jh (cond (decide (0≤(Ja ((b0_.length:Int) - 1)))) (Nat.ble (Ja ((b0_.length:Int) - 1)).toNat b0_.length) false)
 (Option.bind (Uw (⟨p1_,(b0_.take (Ja ((b0_.length:Int) - 1)).toNat),p0_⟩:Rsc) p0_.rcr.ty 0 p0_.rcr.params) fun (b1_:Int) =>
 cond (b1_ != 0)
   (some b1_)
   (Option.bind (Qq (WH p0_ p1_ b0_) QI 0) (Sum.elim (fun (b2_:Unit)=>some 0) (fun o=>some o))))
def m53_l3 (a1:Dcl) (a0:List Dcl) (s1:Int):Option (LO Int (Unit⊕Int)) :=
 cond (decide (s1 < (a1.funs.length:Int)))
   (Option.bind (Jx a1.funs s1) fun (x27:Fn) =>
 Option.bind (Uw (⟨a0,([]:List Bs),a1⟩:Rsc) x27.ty 0 a1.params) fun (x28:Int) =>
 cond (x28 != 0)
   (some (.done (.inr x28)))
   (some (.next (Ja (s1+1)))))
   (some (.done (.inl ())))
def m53_l4 (a1:Dcl) (a0:List Dcl) (x26:(List Bs)) (s1:Int):Option (LO Int (Unit⊕Int)) :=
 cond (decide (s1 < (a1.funs.length:Int)))
   (Option.bind (Jx a1.funs s1) fun (x29:Fn) =>
 Option.bind (Jx a1.funs s1) fun (x30:Fn) =>
 Option.bind (m73 (⟨a0,x26,a1⟩:Rsc) x29.tree x30.arity 0) fun (x31:Int) =>
 cond (x31 != 0)
   (some (.done (.inr x31)))
   (some (.next (Ja (s1+1)))))
   (some (.done (.inl ())))
def G0 (p0_:Bool) (p1_:List Dcl) (p2_:Dcl):Option Int :=
 cond p0_
   (Option.bind (Uw (⟨p1_,([]:List Bs),p2_⟩:Rsc) p2_.value 0 p2_.params) fun (b0_:Int) =>
 some b0_)
   (cond (p2_.kind==3)
   (Option.bind (Qq (WI p2_ p1_) QI 0) (Sum.elim (fun (b1_:Unit)=>m53_k2 p2_ p1_) (fun o=>some o)))
   (cond (p2_.kind==4)
   (Option.bind (Qq (m53_l3 p2_ p1_) QI 0) (Sum.elim (fun (b2_:Unit)=>Option.bind (Dd p2_) fun (b3_:(List Bs)) =>
 Option.bind (Qq (m53_l4 p2_ p1_ b3_) QI 0) (Sum.elim (fun (b4_:Unit)=>some 0) (fun o=>some o))) (fun o=>some o)))
   (some 0)))
def D3 (a0:List Dcl) (a1:Dcl):Option Int :=
 cond (a1.kind != 4)
   (Option.bind (Uw (⟨a0,([]:List Bs),a1⟩:Rsc) a1.ty 0 a1.params) fun (x2:Int) =>
 cond (x2 != 0)
   (some x2)
   (Option.bind (cond (a1.kind==1)
   (some (a1.kind==1))
   (some (a1.kind==2))) (fun (v4:Bool)=>G0 v4 a0 a1)))
   (Option.bind (cond (a1.kind==1)
   (some (a1.kind==1))
   (some (a1.kind==2))) (fun (v40:Bool)=>G0 v40 a0 a1))
end Go.Proofs.Ytafddfoefeploaa
namespace Go.Proofs.Ytafddfoefeploaa
open Go.RowKit Go.Shelf
def Gx (p0_:Bool) (p1_:Dcl) (p2_:List Dcl):Option Int :=
 cond p0_
   (some 1)
   (Option.bind (m50 p1_) fun (b0_:Bool) =>
 cond (!b0_)
   (some 3)
   (Option.bind (D4 p1_) fun (b1_:Int) =>
 cond (b1_ != 0)
   (some b1_)
   (Option.bind (UU p2_ p1_) fun (b2_:Int) =>
 cond (b2_ != 0)
   (some b2_)
   (Option.bind (D3 p2_ p1_) fun (b3_:Int) =>
 some b3_))))
def Ut (a0:List Dcl) (a1:Dcl):Option Int :=
 Option.bind (cond (decide (a1.kind < 0))
   (some true)
   (some (decide (4 < a1.kind)))) (fun (v1:Bool)=>Gx v1 a1 a0)
def WO (a0:List Dcl) (s1:Int):Option (LO Int (Unit⊕(Int×Int))) :=
 cond (decide (s1 < (a0.length:Int)))
   (Jh (cond (decide (0≤s1)) (Nat.ble s1.toNat a0.length) false)
 (Option.bind (Jx a0 s1) fun (x5:Dcl) =>
 Option.bind (Ut (a0.take s1.toNat) x5) fun (x6:Int) =>
 cond (x6 != 0)
   (some (.done (.inr (s1,x6))))
   (some (.next (Ja (s1+1))))))
   (some (.done (.inl ())))
def m12 (a0:List Dcl):Option (Int×Int) :=
 cond (decide (1000 < (a0.length:Int)))
   (some (1000,6))
   (Option.bind (Qq (WO a0) QI 0) (Sum.elim (fun (o2:Unit)=>some (0,0)) (fun o=>some o)))
end Go.Proofs.Ytafddfoefeploaa
namespace Go.Proofs.Ytafddfoefeploaa
open Go.RowKit Go.Shelf
def tmZ:Tm:=Tm.mk 0 0 ([]:List UInt8) ([]:List Lvl) ([]:List Tm)
theorem Uo {σ β:Type} (F:(σ→Option β)→σ→Option β) (u:σ):JE F QI u=F (JE F 999999999) u:=rfl
def Wn (t:Tm):Bool:=(t.kind==0)&&(t.index==0)&&(t.name==[])&&((t.levels.length:Int)==0)&&((t.kids.length:Int)==0)
theorem JM {τ β:Type} {step:τ→Option (LO τ β)} {s:τ} {r:β} (h:step s=some (.done r)):Qq step QI s=some r:=by
 show Qq step (999999999+1) s=_
 simp only [Qq,h]
theorem WG (t:Tm):UT t=some (Wn t):=by
 have h1:(t.levels.length:Int)=0→Qq (Wc t tmZ) QI 0=some (.inl ()):=fun h=>JM (by unfold Wc;rw [h];rfl)
 have h2:∀ rc,(t.kids.length:Int)=0→Qq (Wb t tmZ rc) QI 0=some (.inl ()):=fun rc h=>JM (by unfold Wb;rw [h];rfl)
 unfold UT m78 Wn
 rw [Uo]
 show Option.bind (UH _ t tmZ) _=_
 unfold UH
 show Option.bind (Option.bind (cond (t.kind==0) (cond (t.index==0) (cond (t.name==[]) (Option.bind (cond (!((t.levels.length:Int)==0)) (some false) (Option.bind (Qq (Wc t tmZ) QI 0) (Sum.elim (fun (o8:Unit)=>some true) (fun o=>some o)))) (fun (y5:Bool)=>cond y5
  (Option.bind (cond (!((t.kids.length:Int)==0)) (some false) (Option.bind (Qq (Wb t tmZ _) QI 0) (Sum.elim (fun (o19:Unit)=>some true) (fun o=>some o)))) (fun (y16:Bool)=>some y16)) (some false))) (some false)) (some false)) (some false)) _) _=_
 cases (t.kind==0) with
 | false=>rfl
 | true =>
  cases (t.index==0) with
  | false=>rfl
  | true =>
   cases (t.name==[]) with
   | false=>rfl
   | true =>
    rw [Yk,Yk]
    by_cases c:(t.levels.length:Int)=0
    ·rw [decide_eq_true c,h1 c]
     by_cases c2:(t.kids.length:Int)=0
     ·rw [decide_eq_true c2,h2 _ c2];rfl
     ·rw [decide_eq_false c2];rfl
    ·rw [decide_eq_false c];rfl
theorem m42_nil (l:List Lvl):D5 l []=some ((l.length:Int)==0):=by
 unfold D5
 show cond (!((l.length:Int)==0)) _ _=_
 rw [Yk]
 by_cases c:(l.length:Int)=0
 ·rw [decide_eq_true c,JM (r:=.inl ()) (by unfold Wi;rw [c];rfl)];rfl
 ·rw [decide_eq_false c];rfl
theorem WE (t:Tm):UW t=some (Wn t):=by
 have h2:∀ rc,(t.kids.length:Int)=0→Qq (Gy t tmZ rc) QI 0=some (.inl ()):=fun rc h=>JM (by unfold Gy;rw [h];rfl)
 unfold UW Ur Wn
 rw [Uo]
 show Option.bind (Uq _ t tmZ) _=_
 unfold Uq
 show Option.bind (Option.bind (cond (!(t.kind==0)) (some true) (cond (!(t.index==0)) (some true) (cond (!(t.name==[])) (some true) (Option.bind (D5 t.levels []) fun (x5:Bool)=>cond (!x5) (some true) (some (!((t.kids.length:Int)==0))))))) (fun (v1:Bool)=>cond v1 (some false) (Option.bind (Qq (Gy t tmZ _) QI 0) (Sum.elim (fun (o3:Unit)=>some true) (fun o=>some o))))) _=_
 rw [m42_nil]
 cases (t.kind==0) with
 | false=>rfl
 | true =>
  cases (t.index==0) with
  | false=>rfl
  | true =>
   cases (t.name==[]) with
   | false=>rfl
   | true =>
    cases ((t.levels.length:Int)==0) with
    | false=>rfl
    | true =>
     rw [Yk]
     by_cases c2:(t.kids.length:Int)=0
     ·rw [decide_eq_true c2,h2 _ c2];rfl
     ·rw [decide_eq_false c2];rfl
def isZT (t:Tr):Bool:=(t.kind==0)&&(t.var==0)&&Wn t.body&&((t.branches.length:Int)==0)
theorem m27_Z (t:Tm):Ur t tmZ=some (Wn t):=by
 have:=WE t
 unfold UW at this
 obtain ⟨x,h1,h2⟩:=U6 this
 cases h2
 exact h1
theorem m36_Z (t:Tr):Dv t (Tr.mk 0 tmZ 0 [])=some (isZT t):=by
 have h2:∀ rc,(t.branches.length:Int)=0→Qq (m36_l0 t (Tr.mk 0 tmZ 0 []) rc) QI 0=some (.inl ()):=fun rc h=>JM (by unfold m36_l0;rw [h];rfl)
 unfold Dv isZT
 rw [Uo]
 show m36s _ t (Tr.mk 0 tmZ 0 [])=_
 unfold m36s
 show Option.bind (cond (!(t.kind==0)) (some true) (cond (!(t.var==0)) (some true) (Option.bind (Ur t.body tmZ) fun (x4:Bool)=>cond (!x4) (some true) (some (!((t.branches.length:Int)==0)))))) (fun (v1:Bool)=>cond v1 (some false) (Option.bind (Qq (m36_l0 t (Tr.mk 0 tmZ 0 []) _) QI 0) (Sum.elim (fun (o3:Unit)=>some true) (fun o=>some o))))=_
 rw [m27_Z]
 cases (t.kind==0) with
 | false=>rfl
 | true =>
  cases (t.var==0) with
  | false=>rfl
  | true =>
   cases Wn t.body with
   | false=>rfl
   | true =>
    rw [Yk]
    by_cases c2:(t.branches.length:Int)=0
    ·rw [decide_eq_true c2,h2 _ c2];rfl
    ·rw [decide_eq_false c2];rfl
def Bk (env:List Dcl) (M:Qc Bs Ent):Prop:=∀ n,ZT M n=Yu env n
def Ow (own:List Bs) (d:Dcl) (k:Int) (O:Qc Bs Ent):Prop:=∀ n,(n∈own→n∈Je d)∧ZT O n=if n∈own then JN d k n else none
structure Sok (s:Rsc) (M O:Qc Bs Ent):Prop where
 env:Yc s.env≤800000000
 own:s.own.length≤900000000
 d:s.d.size≤800000000
 bk:Bk s.env M
 ow:Ow s.own s.d (s.env.length:Int) O
theorem GV (b:Bool) (c:Int):Jt b c=some (cond b (.inl ()) (.inr ())):=by cases b <;> rfl
theorem kids_c (rc1:Rsc×Tm→Option Int) (rc2:Tm×(List Dcl)×(Qc ((List UInt8)) Ent)×(Qc ((List UInt8)) Ent)×Tm→Option (Bool⊕Int)) (s:Rsc) (M O:Qc Bs Ent) (root t:Tm) (h:t.size≤900000000)
  (ih:∀ x∈t.kids,∃ e:Int,rc1 (s,x)=some e∧(e=0→rc2 (x,s.env,M,O,root)=some (.inl true))∧(e ≠ 0→rc2 (x,s.env,M,O,root)=some (.inr e))) :
  ∃ e:Int,Option.bind (Qq (GR t rc1 s) QI 0) (Sum.elim (fun (o8:Unit)=>some 0) (fun o=>some o))=some e∧(e=0→Gc t rc2 s.env M O root=some (.inl true))∧(e ≠ 0→Gc t rc2 s.env M O root=some (.inr e)):=by
 have hl:=Gn t
 obtain ⟨e,h1,h2⟩:=YC (β1:=Unit⊕Int) (β2:=Unit⊕(Int⊕Int)) (step1:=GR t rc1 s) (step2:=Gb t rc2 s.env M O root) t.kids (.inl ()) (.inl ()) .inr (fun e=>.inr (.inr e)) (by omega) (fun a x b e=>by
  obtain ⟨q1,q2⟩:=Yv e
  obtain ⟨e',h1,h2,h3⟩:=ih x (by rw [e];simp)
  unfold GR Gb
  rw [q1,q2]
  simp only [cond_true,Option.bind_some]
  rw [h1]
  refine ⟨e',fun he=>?_,fun he=>?_⟩
  ·rw [h2 he];subst he;exact ⟨rfl,rfl⟩
  ·rw [h3 he];exact ⟨Xb he _ _,rfl⟩)
  (by unfold GR;rw [J9];rfl) (by unfold Gb;rw [J9];rfl)
 unfold Gc
 by_cases he:e=0
 ·obtain ⟨e1,e2⟩:=h1 he
  rw [e1,e2];exact ⟨0,rfl,fun _=>rfl,fun h=>(h rfl).elim⟩
 ·obtain ⟨e1,e2⟩:=h2 he
  rw [e1,e2];exact ⟨e,rfl,fun h=>(he h).elim,fun _=>rfl⟩
theorem const_eq (s:Rsc) (M O:Qc Bs Ent) (hs:Sok s M O) (root:Tm):∀ (n:Nat) (t:Tm),t.size≤n→t.size≤900000000 →
  ∃ e:Int,JE UG n (s,t)=some e∧(e=0→JE Xy n (t,s.env,M,O,root)=some (.inl true))∧(e ≠ 0→JE Xy n (t,s.env,M,O,root)=some (.inr e))
 | 0,t,h,_=>by rw [t.size_eq] at h;omega
 | n+1,t,h,hb=>by
  show ∃ e:Int,UF (JE UG n) s t=some e∧(e=0→Wa (JE Xy n) t s.env M O root=some (.inl true))∧(e ≠ 0→Wa (JE Xy n) t s.env M O root=some (.inr e))
  obtain ⟨e,h1,h2,h3⟩:=kids_c (JE UG n) (JE Xy n) s M O root t hb fun x hx=>const_eq s M O hs root n x (by have:=YA hx;omega) (by have:=YA hx;omega)
  unfold UF Wa
  rw [Yk]
  by_cases hk:t.kind=3
  ·rw [decide_eq_true hk,cond_true,cond_true,WL s.env t.name hs.env]
   have hM:=hs.bk t.name
   have hO:=(hs.ow t.name).2
   unfold ZD
   cases hf:Yu s.env t.name with
   | some en =>
    rw [hf] at hM
    have g1:Yt M t.name=true:=by unfold Yt;rw [hM];rfl
    have g2:Qm M t.name=en:=by unfold Qm;rw [hM];rfl
    rw [g1,g2]
    show ∃ e:Int,cond ((t.levels.length:Int) != en.params) (some 15) _=some e∧_
    simp only [Bool.not_true,cond_false,Option.bind_some,GV,cond_true,Sum.elim_inl]
    show ∃ e:Int,cond (!((t.levels.length:Int)==en.params)) _ _=_∧_
    cases ((t.levels.length:Int)==en.params) with
    | true=>exact ⟨e,h1,h2,h3⟩
    | false=>exact ⟨15,rfl,fun h=>by omega,fun _=>rfl⟩
   | none =>
    rw [hf] at hM
    have g1:Yt M t.name=false:=by unfold Yt;rw [hM];rfl
    rw [g1]
    show ∃ e:Int,Option.bind (UB s.own t.name) _=some e∧_
    rw [m33_eq s.own t.name hs.own]
    by_cases ho:t.name∈s.own
    ·rw [if_pos ho] at hO
     have hi:=GC s.d (s.env.length:Int) t.name
     rw [decide_eq_true ((hs.ow t.name).1 ho)] at hi
     cases hl:JN s.d (s.env.length:Int) t.name with
     | none=>rw [hl] at hi;cases hi
     | some en =>
      rw [hl] at hO
      have g3:Yt O t.name=true:=by unfold Yt;rw [hO];rfl
      have g4:Qm O t.name=en:=by unfold Qm;rw [hO];rfl
      rw [decide_eq_true ho,g3,g4]
      show ∃ e:Int,Option.bind (Dm s.d (s.env.length:Int) t.name) _=some e∧_
      rw [m34_eq s.d t.name _ en (by have:=hs.d;omega) hl]
      simp only [Bool.not_false,cond_true,Option.bind_some,GV,Sum.elim_inl]
      show ∃ e:Int,cond (!((t.levels.length:Int)==en.params)) _ _=_∧_
      cases ((t.levels.length:Int)==en.params) with
      | true=>exact ⟨e,h1,h2,h3⟩
      | false=>exact ⟨15,rfl,fun h=>by omega,fun _=>rfl⟩
    ·rw [if_neg ho] at hO
     have g3:Yt O t.name=false:=by unfold Yt;rw [hO];rfl
     rw [decide_eq_false ho,g3]
     exact ⟨9,rfl,fun h=>by omega,fun _=>rfl⟩
  ·rw [decide_eq_false hk]
   exact ⟨e,h1,h2,h3⟩
theorem XB (s:Rsc) (M O:Qc Bs Ent) (hs:Sok s M O) (t:Tm) (V P:Int) (h:t.size≤900000000) :
  ∃ e:Int,Uw s t V P=some e∧(e=0→KL t V P s.env M O=some (.inl ()))∧(e ≠ 0→KL t V P s.env M O=some (.inr e)):=by
 obtain ⟨e,h1,h2⟩:=m66_eq t V P h
 obtain ⟨e',h3,h4,h5⟩:=const_eq s M O hs t QI t (by unfold QI;omega) h
 have h3':m87 s t=some e':=h3
 unfold Uw KL m83f9
 rw [h1,h2,h3']
 simp only [Option.bind_some,GV]
 by_cases he:e=0
 ·subst he
  by_cases he':e'=0
  ·rw [h4 he'];exact ⟨e',rfl,fun _=>rfl,fun h=>(h he').elim⟩
  ·rw [h5 he'];exact ⟨e',rfl,fun h=>(he' h).elim,fun _=>rfl⟩
 ·rw [W5 he,show (e==0)=false from by rw [Yk];exact decide_eq_false he]
  exact ⟨e,rfl,fun h=>(he h).elim,fun _=>rfl⟩
end Go.Proofs.Ytafddfoefeploaa
