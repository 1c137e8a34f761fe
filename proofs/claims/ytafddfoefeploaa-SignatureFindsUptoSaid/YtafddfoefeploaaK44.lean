/- Part 4 of the proof: rules, mirrors and plain laws. The statement SignatureFindsUpto is proved here: for every list of declarations and every name the law returns true, and what it is given reads behind the call ars it did before; condition: the arguments are of bulk at most 1048576 (the second form). -/
import Derived.Test.YtafddfoefeploaaK43
set_option maxRecDepth 100000
set_option maxHeartbeats 2000000
set_option linter.unusedSimpArgs false
set_option linter.unusedVariables false
set_option linter.unusedSectionVars false
namespace Go.Proofs.Ytafddfoefeploaa
open Go.RowKit Go.Shelf
theorem Kj:J1 Try.prog 62 1=some 1:=by kernel_rfl
theorem W6:JI Try.prog 59=some (false,1):=by kernel_rfl
theorem YI:JI Try.prog 60=some (false,1):=by kernel_rfl
theorem ag_78:JI Try.prog 78=some (false,1):=by kernel_rfl
theorem bd_90:Y9 Try.prog 90 [(0,1)] [.int .i64 0]:=⟨by kernel_rfl,by kernel_rfl⟩
theorem Z0:W0 Try.prog 60=some (false,.agg [.d (.v (.int .i64 0)),.d (.v (.int .i64 0)),.d (.v (.int .i64 0)),.d (.v (.int .i64 0)),.d (.v (.int .i64 0)),.d (.v (.int .i64 0)),.d (.v (.string ByteArray.empty)),.d (.v (.slice none 0 0)),.d (.v (.slice none 0 0))]):=by kernel_rfl
theorem en_44:QY Try.prog 44:=enters_of Try.func44 (by kernel_rfl) rfl
theorem en_45:QY Try.prog 45:=enters_of Try.func45 (by kernel_rfl) rfl
theorem en_62:QY Try.prog 62:=enters_of Try.func62 (by kernel_rfl) rfl
theorem en_83:QY Try.prog 83:=enters_of Try.func83 (by kernel_rfl) rfl
theorem en_98:QY Try.prog 98:=enters_of Try.func98 (by kernel_rfl) rfl
theorem en_99:QY Try.prog 99:=enters_of Try.func99 (by kernel_rfl) rfl
theorem en_104:QY Try.prog 104:=enters_of Try.func104 (by kernel_rfl) rfl
noncomputable def Z1:Code:=(cA (cA (cB (cB (cB (cB (Xi Try.f46)))))))
noncomputable def Yv:Code:=(cB (cA (cB (cB (cB (cB (Xi Try.f46)))))))
noncomputable def ZI:Code:=(cA (cA (cB (cA (cB (cB (Xi Try.f47)))))))
noncomputable def ZH:Code:=(cB (cA (cB (cA (cB (cB (Xi Try.f47)))))))
noncomputable def Kq:Code:=(cA (cA (cB (cA (cB (cB (cB (cB (cB (cB (cB (cB (cB (Xi Try.f30))))))))))))))
noncomputable def Kp:Code:=(cB (cA (cB (cA (cB (cB (cB (cB (cB (cB (cB (cB (cB (Xi Try.f30))))))))))))))
noncomputable def XK:Code:=(cA (cA (cB (cB (cB (cB (cA (cA (cB (cB (cA (cA (cB (cA (cB (cB (cB (Xi Try.f11))))))))))))))))))
noncomputable def XJ:Code:=(cB (cA (cB (cB (cB (cB (cA (cA (cB (cB (cA (cA (cB (cA (cB (cB (cB (Xi Try.f11))))))))))))))))))
def JJ (a0:Bool) (a1:Int):Option (Unit⊕Unit) :=
 cond (!a0)
   (some (.inr ()))
   (some (.inl ()))
theorem QI (a0:Bool) (a1:Int) (r:Unit⊕Unit) (h0:JJ a0 a1=some r):CallE Try.prog 62 [.one (dB a0),.one (dI a1)] ⟨[],[],0⟩ ((Sum.elim (fun (r0:Unit)=>((.ret []):EK)) (fun (r1:Unit)=>((.pan (QT 90 a1)):EK))) r) ⟨((Sum.elim (fun (r0:Unit)=>(⟨[],[],[],0,9,[]⟩:St)) (fun (r1:Unit)=>(⟨[],[],[],0,9,[]⟩:St))) r).hp,((Sum.elim (fun (r0:Unit)=>(⟨[],[],[],0,9,[]⟩:St)) (fun (r1:Unit)=>(⟨[],[],[],0,9,[]⟩:St))) r).tk,((Sum.elim (fun (r0:Unit)=>(⟨[],[],[],0,9,[]⟩:St)) (fun (r1:Unit)=>(⟨[],[],[],0,9,[]⟩:St))) r).nx⟩:=by
 unfold JJ at h0
 refine Y0 r ((Sum.elim (fun (r0:Unit)=>(⟨[],[],[],0,9,[]⟩:St)) (fun (r1:Unit)=>(⟨[],[],[],0,9,[]⟩:St)))) ((Sum.elim (fun (r0:Unit)=>((.ret []):EK)) (fun (r1:Unit)=>((.pan (QT 90 a1)):EK)))) rfl rfl en_62 (lb rfl) (fun z_=>by cases z_ with
 | inl _=>exact rfl
 | inr _=>exact rfl) (fun z_=>by cases z_ with
 | inl _=>exact (De .nil)
 | inr _=>exact Dn) (fun w0 M V0 Q hv0 hQ0=>?_)
 simp only [J3]
 refine Q4<|Q0<|rM Z Z Z<|rR Z Z Z (Jc Z)<|Q5<|Q3 ?_
 refine Qe (b:=(!a0)) Z (fun c1=>?_) (fun c1=>?_)
 replace h0:=Qf c1 h0
 refine Q0<|rM Z Z Z<|rR Z Z Z (RO.build1 bd_90 Z Z Z)<|rR Z Z Z (RO.wrong wrong_st Z)<|Jg Z (OpD.panic Z) ?_
 have e:=sI h0;subst e
 exact Ju (hQ0 (.panic (JE (QT 90 a1))) _ K7 Z (show StLe _ _ ⟨[],[],[],0,9,[]⟩ from (sL (Nat.le_trans hv0 (lb Z)) Z Z Z Z Z))) (fun _ _ h=>h)
 replace h0:=Qg c1 h0
 refine Qj ?_
 have e:=sI h0;subst e
 exact hQ0 _ _ DO Z (show StLe _ _ ⟨[],[],[],0,9,[]⟩ from (sL (Nat.le_trans hv0 (lb Z)) Z Z Z Z Z))
def Ko (a0:Dcl) (s1:Int):Option (LO Int (Unit⊕(Unit⊕Int))) :=
 cond (decide (s1 < (a0.funs.length:Int)))
   (Option.bind (JP a0.funs s1) fun (x12:Fn) =>
 Option.bind (cond (decide (1≤x12.arity))
   (Option.bind (JJ (decide (x12.arity≤16)) 3) (Sum.elim (fun (x16:Unit)=>some (.inl ())) (fun (x17:Unit)=>some (.inr (.inr 3)))))
   (Option.bind (JJ false 3) (Sum.elim (fun (x19:Unit)=>some (.inl ())) (fun (x20:Unit)=>some (.inr (.inr 3)))))) (Sum.elim (fun (v13:Unit)=>some (.next (Ja (s1+1)))) (fun o=>some (.done (.inr o)))))
   (some (.done (.inl ())))
def Kn (a0:Dcl) (s1:(List Tm)×Int):Option (LO ((List Tm)×Int) (((List Tm)))) :=
 cond (decide (s1.2 < (a0.ctors.length:Int)))
   (Option.bind (JP a0.ctors s1.2) fun (x15:Ctr) =>
 Jy (Nat.ble (s1.1.length+([x15.ty]).length) 1000000000)
 (some (.next ((s1.1++([x15.ty])),(Ja (s1.2+1))))))
   (some (.done s1.1))
def ZU (o13:(List Tm)) (a0:Dcl) (s1:Int):Option (LO Int (Unit⊕(Unit⊕Int))) :=
 cond (decide (s1 < (o13.length:Int)))
   (Option.bind (JP o13 s1) fun (x16:Tm) =>
 Option.bind (m64 x16) fun (x17:(List Tm)×Tm) =>
 Option.bind (JJ (decide (a0.fixed≤(x17.1.length:Int))) 3) (Sum.elim (fun (x19:Unit)=>some (.next (Ja (s1+1)))) (fun (x20:Unit)=>some (.done (.inr (.inr 3))))))
   (some (.done (.inl ())))
def G9 (p0_:Dcl):Option (Unit⊕Int) :=
 cond (p0_.kind==3)
   (Option.bind (cond ((Ja (p0_.rcr.params - p0_.params))==0)
   (Option.bind (JJ ((p0_.rcr.rules.length:Int)==(p0_.ctors.length:Int)) 3) (Sum.elim (fun (b0_:Unit)=>some (.inl ())) (fun (b1_:Unit)=>some (.inr (.inr 3)))))
   (cond ((Ja (p0_.rcr.params - p0_.params))==1)
   (Option.bind (JJ ((p0_.rcr.rules.length:Int)==(p0_.ctors.length:Int)) 3) (Sum.elim (fun (b2_:Unit)=>some (.inl ())) (fun (b3_:Unit)=>some (.inr (.inr 3)))))
   (Option.bind (JJ false 3) (Sum.elim (fun (b4_:Unit)=>some (.inl ())) (fun (b5_:Unit)=>some (.inr (.inr 3))))))) (Sum.elim (fun (b6_:Unit)=>Option.bind (QE (Kn p0_) QU ([p0_.ty],0)) (fun (b7_:(List Tm))=>Option.bind (QE (ZU b7_ p0_) QU 0) (Sum.elim (fun (b8_:Unit)=>some (.inl ())) (fun o=>some o)))) (fun o=>some o)))
   (some (.inl ()))
def Xz (p0_:Dcl):Option (Unit⊕Int) :=
 Option.bind (cond (decide ((p0_.ctors.length:Int)≤32))
   (cond (!(p0_.kind==4))
   (Option.bind (JJ true 6) (Sum.elim (fun (b0_:Unit)=>some (.inl ())) (fun (b1_:Unit)=>some (.inr (.inr 6)))))
   (cond (decide (1≤(p0_.funs.length:Int)))
   (Option.bind (JJ (decide ((p0_.funs.length:Int)≤8)) 6) (Sum.elim (fun (b2_:Unit)=>some (.inl ())) (fun (b3_:Unit)=>some (.inr (.inr 6)))))
   (Option.bind (JJ false 6) (Sum.elim (fun (b4_:Unit)=>some (.inl ())) (fun (b5_:Unit)=>some (.inr (.inr 6)))))))
   (Option.bind (JJ false 6) (Sum.elim (fun (b6_:Unit)=>some (.inl ())) (fun (b7_:Unit)=>some (.inr (.inr 6)))))) (Sum.elim (fun (b8_:Unit)=>Option.bind (QE (Ko p0_) QU 0) (Sum.elim (fun (b9_:Unit)=>G9 p0_) (fun o=>some o))) (fun o=>some o))
def Zv (p0_:Dcl):Option (Unit⊕Int) :=
 Option.bind (cond (decide (0≤p0_.params))
   (cond (decide (p0_.params≤8))
   (Option.bind (JJ (decide (0≤p0_.fixed)) 2) (Sum.elim (fun (b0_:Unit)=>some (.inl ())) (fun (b1_:Unit)=>some (.inr (.inr 2)))))
   (Option.bind (JJ false 2) (Sum.elim (fun (b2_:Unit)=>some (.inl ())) (fun (b3_:Unit)=>some (.inr (.inr 2))))))
   (Option.bind (JJ false 2) (Sum.elim (fun (b4_:Unit)=>some (.inl ())) (fun (b5_:Unit)=>some (.inr (.inr 2)))))) (Sum.elim (fun (b6_:Unit)=>Xz p0_) (fun o=>some o))
def G8 (p0_:Dcl) (p1_:Bool):Option (Unit⊕Int) :=
 Option.bind (cond (p0_.kind==3)
   (Option.bind (JJ true 3) (Sum.elim (fun (b0_:Unit)=>some (.inl ())) (fun (b1_:Unit)=>some (.inr (.inr 3)))))
   (cond (p0_.fixed==0)
   (cond ((p0_.ctors.length:Int)==0)
   (Option.bind (JJ p1_ 3) (Sum.elim (fun (b2_:Unit)=>some (.inl ())) (fun (b3_:Unit)=>some (.inr (.inr 3)))))
   (Option.bind (JJ false 3) (Sum.elim (fun (b4_:Unit)=>some (.inl ())) (fun (b5_:Unit)=>some (.inr (.inr 3))))))
   (Option.bind (JJ false 3) (Sum.elim (fun (b6_:Unit)=>some (.inl ())) (fun (b7_:Unit)=>some (.inr (.inr 3))))))) (Sum.elim (fun (b8_:Unit)=>Zv p0_) (fun o=>some o))
def Xy (p0_:Dcl):Option (Unit⊕Int) :=
 Option.bind (cond (!(p0_.kind==4))
   (Option.bind (JJ true 3) (Sum.elim (fun (b0_:Unit)=>some (.inl ())) (fun (b1_:Unit)=>some (.inr (.inr 3)))))
   (cond (p0_.name==([]:List UInt8))
   (Option.bind (DE p0_.ty) fun (b2_:Bool) =>
 Option.bind (JJ b2_ 3) (Sum.elim (fun (b3_:Unit)=>some (.inl ())) (fun (b4_:Unit)=>some (.inr (.inr 3)))))
   (Option.bind (JJ false 3) (Sum.elim (fun (b5_:Unit)=>some (.inl ())) (fun (b6_:Unit)=>some (.inr (.inr 3))))))) (Sum.elim (fun (b7_:Unit)=>Option.bind (cond (p0_.rcr.params==0)
   (Option.bind (DE p0_.rcr.ty) fun (b0_:Bool) =>
 cond b0_
   (some ((p0_.rcr.rules.length:Int)==0))
   (some false))
   (some false)) (fun (b8_:Bool)=>G8 p0_ b8_)) (fun o=>some o))
def Xx (p0_:Dcl):Option (Unit⊕Int) :=
 Option.bind (cond (p0_.kind==4)
   (Option.bind (JJ true 3) (Sum.elim (fun (b0_:Unit)=>some (.inl ())) (fun (b1_:Unit)=>some (.inr (.inr 3)))))
   (Option.bind (JJ ((p0_.funs.length:Int)==0) 3) (Sum.elim (fun (b2_:Unit)=>some (.inl ())) (fun (b3_:Unit)=>some (.inr (.inr 3)))))) (Sum.elim (fun (b4_:Unit)=>Xy p0_) (fun o=>some o))
def GR (p0_:Bool) (p1_:Dcl):Option (Unit⊕Int) :=
 Option.bind (cond p0_
   (Option.bind (JJ true 3) (Sum.elim (fun (b0_:Unit)=>some (.inl ())) (fun (b1_:Unit)=>some (.inr (.inr 3)))))
   (Option.bind (DE p1_.value) fun (b2_:Bool) =>
 Option.bind (JJ b2_ 3) (Sum.elim (fun (b3_:Unit)=>some (.inl ())) (fun (b4_:Unit)=>some (.inr (.inr 3)))))) (Sum.elim (fun (b5_:Unit)=>Xx p1_) (fun o=>some o))
def U7 (a0:Dcl):Option (Unit⊕Int) :=
 Option.bind (cond (decide (0≤a0.kind))
   (Option.bind (JJ (decide (a0.kind≤4)) 1) (Sum.elim (fun (x4:Unit)=>some (.inl ())) (fun (x5:Unit)=>some (.inr (.inr 1)))))
   (Option.bind (JJ false 1) (Sum.elim (fun (x7:Unit)=>some (.inl ())) (fun (x8:Unit)=>some (.inr (.inr 1)))))) (Sum.elim (fun (v1:Unit)=>Option.bind (cond (a0.kind==1)
   (some true)
   (some (a0.kind==2))) (fun (v2:Bool)=>GR v2 a0)) (fun o=>some o))
theorem m44f5_ok (a0:Dcl) (r:Unit⊕Int) (h0:U7 a0=some r):CallE Try.prog 44 [.agg (cE a0)] ⟨[],[],0⟩ ((Sum.elim (fun (r0:Unit)=>((.ret []):EK)) (fun (r1:Int)=>((.pan (QT 90 r1)):EK))) r) ⟨((Sum.elim (fun (r0:Unit)=>(⟨[],[],[],1,210,[]⟩:St)) (fun (r1:Int)=>(⟨[],[],[],1,210,[]⟩:St))) r).hp,((Sum.elim (fun (r0:Unit)=>(⟨[],[],[],1,210,[]⟩:St)) (fun (r1:Int)=>(⟨[],[],[],1,210,[]⟩:St))) r).tk,((Sum.elim (fun (r0:Unit)=>(⟨[],[],[],1,210,[]⟩:St)) (fun (r1:Int)=>(⟨[],[],[],1,210,[]⟩:St))) r).nx⟩:=by
 unfold U7 at h0
 refine Y0 r ((Sum.elim (fun (r0:Unit)=>(⟨[],[],[],1,210,[]⟩:St)) (fun (r1:Int)=>(⟨[],[],[],1,210,[]⟩:St)))) ((Sum.elim (fun (r0:Unit)=>((.ret []):EK)) (fun (r1:Int)=>((.pan (QT 90 r1)):EK)))) rfl rfl en_44 (lb rfl) (fun z_=>by cases z_ with
 | inl _=>exact rfl
 | inr _=>exact rfl) (fun z_=>by cases z_ with
 | inl _=>exact (De .nil)
 | inr _=>exact Dn) (fun w0 M V0 Q hv0 hQ0=>?_)
 simp only [J3]
 refine Q4<|Q0<|Qb Z Z (lb Z) (QN Z)<|Q5<|Q3<|Q4 ?_
 refine QD (fun (v1:Unit)=>⟨[(1,.v (.one (.ptr 0 0)))],[(0,.cells 45 (cE a0))],[],1,210,[]⟩) (fun (v1:Unit)=>(Option.bind (cond (a0.kind==1)
     (some true)
     (some (a0.kind==2))) (fun (v2:Bool)=>GR v2 a0))=some r) ?_ ?_
 refine Qd h0 (fun w1_ h1 h0=>?_)
 refine Q0<|rR Z Z Z (Q2 JN Z)<|rR Z Z Z (Q6 QG Z Z Z)<|rR Z Z Z (Q8 Z Z Z)<|rM Z Z Z ?_
 refine Qw (d:=19) (c:=(decide (0≤a0.kind))) Z (fun c2=>?_) (fun c2=>?_)
 replace h1:=Qf c2 h1
 refine rR Z Z Z (Q2 JN Z)<|rR Z Z Z (Q6 QG Z Z Z)<|rR Z Z Z (Q8 Z Z Z)<|rR Z Z Z (Qc Z Z) ?_
 refine Qd h1 (fun x3 hx3 h1=>?_)
 refine Y7 id hx3 h1 (fun x4 hx4 h1=>?_) (fun x5 hx5 h1=>?_)
 refine Qb Z Z (lb Z) (QL Z Z Z (CallE.m (QI (decide (a0.kind≤4)) 1 (.inl x4) hx4)) Z)<|Q5 ?_
 have e:=sI h1;subst e
 replace h0:=G4 h0
 exact Q9 () (sL (Nat.le_trans hv0 (lb Z)) Z Z Z Z Z) h0
 refine Jg Z (QS Z Z Z (CallE.d (QI (decide (a0.kind≤4)) 1 (.inr x5) hx5))) ?_
 have e:=sI h1;subst e
 replace h0:=GA h0
 have e:=sI h0;subst e
 exact Ju (hQ0 (.panic (JE (QT 90 1))) _ K7 Z (show StLe _ _ ⟨[],[],[],1,210,[]⟩ from (sL (Nat.le_trans hv0 (lb Z)) Z Z Z Z Z))) (fun _ _ h=>h)
 replace h1:=Qg c2 h1
 refine Q7 Z Z<|Q7 Z Z<|Q7 Z Z<|rR Z Z Z (Qa Z Z) ?_
 refine Qd h1 (fun x6 hx6 h1=>?_)
 refine Y7 id hx6 h1 (fun x7 hx7 h1=>?_) (fun x8 hx8 h1=>?_)
 refine Qb Z Z (lb Z) (QL Z Z Z (CallE.m (QI false 1 (.inl x7) hx7)) Z)<|Q5 ?_
 have e:=sI h1;subst e
 replace h0:=G4 h0
 exact Q9 () (sL (Nat.le_trans hv0 (lb Z)) Z Z Z Z Z) h0
 refine Jg Z (QS Z Z Z (CallE.d (QI false 1 (.inr x8) hx8))) ?_
 have e:=sI h1;subst e
 replace h0:=GA h0
 have e:=sI h0;subst e
 exact Ju (hQ0 (.panic (JE (QT 90 1))) _ K7 Z (show StLe _ _ ⟨[],[],[],1,210,[]⟩ from (sL (Nat.le_trans hv0 (lb Z)) Z Z Z Z Z))) (fun _ _ h=>h)
 intro v1 h0
 refine Q3<|Q4 ?_
 refine QD (fun (v9:Bool)=>⟨[(1,.v (.one (.ptr 0 0))),(2,.v (.one (dB v9)))],[(0,.cells 45 (cE a0))],[],1,210,[]⟩) (fun (v9:Bool)=>(GR v9 a0)=some r) ?_ ?_
 refine Qd h0 (fun w1_ h1 h0=>?_)
 refine Q0<|rR Z Z Z (Q2 JN Z)<|rR Z Z Z (Q6 QG Z Z Z)<|rR Z Z Z (Q8 Z Z Z)<|rM Z Z Z ?_
 refine Qw (d:=28) (c:=(a0.kind==1)) Z (fun c10=>?_) (fun c10=>?_)
 replace h1:=Qf c10 h1
 refine Q7 Z Z<|Q7 Z Z<|Q7 Z Z<|rR Z Z Z (Qc Z Z)<|rA Z Z Z<|Q5 ?_
 have e:=sI h1;subst e
 exact Q9 true (sL (Nat.le_trans hv0 (lb Z)) Z Z Z Z Z) h0
 replace h1:=Qg c10 h1
 refine rR Z Z Z (Q2 JN Z)<|rR Z Z Z (Q6 QG Z Z Z)<|rR Z Z Z (Q8 Z Z Z)<|rR Z Z Z (Qa Z Z)<|rA Z Z Z<|Q5 ?_
 have e:=sI h1;subst e
 exact Q9 (a0.kind==2) (sL (Nat.le_trans hv0 (lb Z)) Z Z Z Z Z) h0
 intro v9 h0
 unfold GR at h0
 refine Q3<|Q4<|Q0<|rR Z Z Z (Q2 JN Z)<|rR Z Z Z (Q6 QG Z Z Z)<|rR Z Z Z (Q8 Z Z Z)<|rA Z Z Z<|Q5<|Q3<|Q4<|Q0<|rR Z Z Z (Q2 JN Z)<|rR Z Z Z (Q6 QG Z Z Z)<|rR Z Z Z (Q8 Z Z Z) ?_
 refine rA Z Z Z<|Q5<|Q3<|Q4 ?_
 refine QD (fun (v11:Unit)=>⟨[(1,.v (.one (.ptr 0 0))),(3,.v (.one (dB (a0.kind==3)))),(4,.v (.one (dB (a0.kind==4))))],[(0,.cells 45 (cE a0))],[],1,210,[]⟩) (fun (v11:Unit)=>(Xx a0)=some r) ?_ ?_
 refine Qd h0 (fun w1_ h1 h0=>?_)
 refine Q0<|rM Z Z Z<|rM Z Z Z ?_
 refine Qw (d:=40) (c:=v9) Z (fun c12=>?_) (fun c12=>?_)
 replace h1:=Qf c12 h1
 refine Q7 Z Z<|Q7 Z Z<|Q7 Z Z<|rR Z Z Z (Qc Z Z) ?_
 refine Qd h1 (fun x13 hx13 h1=>?_)
 refine Y7 id hx13 h1 (fun x14 hx14 h1=>?_) (fun x15 hx15 h1=>?_)
 refine Qb Z Z (lb Z) (QL Z Z Z (CallE.m (QI true 3 (.inl x14) hx14)) Z)<|Q5 ?_
 have e:=sI h1;subst e
 replace h0:=G4 h0
 exact Q9 () (sL (Nat.le_trans hv0 (lb Z)) Z Z Z Z Z) h0
 refine Jg Z (QS Z Z Z (CallE.d (QI true 3 (.inr x15) hx15))) ?_
 have e:=sI h1;subst e
 replace h0:=GA h0
 have e:=sI h0;subst e
 exact Ju (hQ0 (.panic (JE (QT 90 3))) _ K7 Z (show StLe _ _ ⟨[],[],[],1,210,[]⟩ from (sL (Nat.le_trans hv0 (lb Z)) Z Z Z Z Z))) (fun _ _ h=>h)
 replace h1:=Qg c12 h1
 refine rR Z Z Z (Q2 Kk Z)<|rR Z Z Z (Qi QR Z Z Z Z) ?_
 refine Qd h1 (fun x16 hx16 h1=>?_)
 refine Qb Z Z (lb Z) (Qh (Uj a0.value x16 hx16) Z (.cons (.agg (.cons (.d _) (.cons (.d _) (.cons (.d _) (.cons (.d _) (.cons (.d _) .nil)))))) .nil))<|rR Z Z Z (Qa Z Z) ?_
 refine Qd h1 (fun x17 hx17 h1=>?_)
 refine Y7 id hx17 h1 (fun x18 hx18 h1=>?_) (fun x19 hx19 h1=>?_)
 refine Qb Z Z (lb Z) (QL Z Z Z (CallE.m (QI x16 3 (.inl x18) hx18)) Z)<|Q5 ?_
 have e:=sI h1;subst e
 replace h0:=G4 h0
 exact Q9 () (sL (Nat.le_trans hv0 (lb Z)) Z Z Z Z Z) h0
 refine Jg Z (QS Z Z Z (CallE.d (QI x16 3 (.inr x19) hx19))) ?_
 have e:=sI h1;subst e
 replace h0:=GA h0
 have e:=sI h0;subst e
 exact Ju (hQ0 (.panic (JE (QT 90 3))) _ K7 Z (show StLe _ _ ⟨[],[],[],1,210,[]⟩ from (sL (Nat.le_trans hv0 (lb Z)) Z Z Z Z Z))) (fun _ _ h=>h)
 intro v11 h0
 unfold Xx at h0
 refine Q3<|Q4 ?_
 refine QD (fun (v20:Unit)=>⟨[(1,.v (.one (.ptr 0 0))),(3,.v (.one (dB (a0.kind==3)))),(4,.v (.one (dB (a0.kind==4))))],[(0,.cells 45 (cE a0))],[],1,210,[]⟩) (fun (v20:Unit)=>(Xy a0)=some r) ?_ ?_
 refine Qd h0 (fun w1_ h1 h0=>?_)
 refine Q0<|rM Z Z Z<|rM Z Z Z ?_
 refine Qw (d:=47) (c:=(a0.kind==4)) Z (fun c21=>?_) (fun c21=>?_)
 replace h1:=Qf c21 h1
 refine Q7 Z Z<|Q7 Z Z<|Q7 Z Z<|Q7 Z Z<|rR Z Z Z (Qc Z Z) ?_
 refine Qd h1 (fun x22 hx22 h1=>?_)
 refine Y7 id hx22 h1 (fun x23 hx23 h1=>?_) (fun x24 hx24 h1=>?_)
 refine Qb Z Z (lb Z) (QL Z Z Z (CallE.m (QI true 3 (.inl x23) hx23)) Z)<|Q5 ?_
 have e:=sI h1;subst e
 replace h0:=G4 h0
 exact Q9 () (sL (Nat.le_trans hv0 (lb Z)) Z Z Z Z Z) h0
 refine Jg Z (QS Z Z Z (CallE.d (QI true 3 (.inr x24) hx24))) ?_
 have e:=sI h1;subst e
 replace h0:=GA h0
 have e:=sI h0;subst e
 exact Ju (hQ0 (.panic (JE (QT 90 3))) _ K7 Z (show StLe _ _ ⟨[],[],[],1,210,[]⟩ from (sL (Nat.le_trans hv0 (lb Z)) Z Z Z Z Z))) (fun _ _ h=>h)
 replace h1:=Qg c21 h1
 refine rR Z Z Z (Q2 Jf Z)<|rR Z Z Z (Q6 JU Z Z Z)<|rR Z Z Z (Qx (α:=Fn) JA Z (.d _))<|rR Z Z Z (Q8 Z Z Z)<|rR Z Z Z (Qa Z Z) ?_
 refine Qd h1 (fun x25 hx25 h1=>?_)
 refine Y7 id hx25 h1 (fun x26 hx26 h1=>?_) (fun x27 hx27 h1=>?_)
 refine Qb Z Z (lb Z) (QL Z Z Z (CallE.m (QI ((a0.funs.length:Int)==0) 3 (.inl x26) hx26)) Z)<|Q5 ?_
 have e:=sI h1;subst e
 replace h0:=G4 h0
 exact Q9 () (sL (Nat.le_trans hv0 (lb Z)) Z Z Z Z Z) h0
 refine Jg Z (QS Z Z Z (CallE.d (QI ((a0.funs.length:Int)==0) 3 (.inr x27) hx27))) ?_
 have e:=sI h1;subst e
 replace h0:=GA h0
 have e:=sI h0;subst e
 exact Ju (hQ0 (.panic (JE (QT 90 3))) _ K7 Z (show StLe _ _ ⟨[],[],[],1,210,[]⟩ from (sL (Nat.le_trans hv0 (lb Z)) Z Z Z Z Z))) (fun _ _ h=>h)
 intro v20 h0
 unfold Xy at h0
 refine Q3<|Q4 ?_
 refine QD (fun (v28:Unit)=>⟨[(1,.v (.one (.ptr 0 0))),(3,.v (.one (dB (a0.kind==3)))),(4,.v (.one (dB (a0.kind==4))))],[(0,.cells 45 (cE a0))],[],1,210,[]⟩) (fun (v28:Unit)=>(Option.bind (cond (a0.rcr.params==0)
     (Option.bind (DE a0.rcr.ty) fun (x31:Bool) =>
   cond x31
     (some ((a0.rcr.rules.length:Int)==0))
     (some false))
     (some false)) (fun (v29:Bool)=>G8 a0 v29))=some r) ?_ ?_
 refine Qd h0 (fun w1_ h1 h0=>?_)
 refine Q0<|rM Z Z Z<|rR Z Z Z (Jc Z)<|rM Z Z Z ?_
 refine Qw (d:=56) (c:=(!(a0.kind==4))) Z (fun c29=>?_) (fun c29=>?_)
 replace h1:=Qf c29 h1
 refine Q7 Z Z<|Q7 Z Z<|Q7 Z Z<|Q7 Z Z<|Q7 Z Z<|Q7 Z Z<|Q7 Z Z<|Q7 Z Z<|rR Z Z Z (Qc Z Z) ?_
 refine Qd h1 (fun x30 hx30 h1=>?_)
 refine Y7 id hx30 h1 (fun x31 hx31 h1=>?_) (fun x32 hx32 h1=>?_)
 refine Qb Z Z (lb Z) (QL Z Z Z (CallE.m (QI true 3 (.inl x31) hx31)) Z)<|Q5 ?_
 have e:=sI h1;subst e
 replace h0:=G4 h0
 exact Q9 () (sL (Nat.le_trans hv0 (lb Z)) Z Z Z Z Z) h0
 refine Jg Z (QS Z Z Z (CallE.d (QI true 3 (.inr x32) hx32))) ?_
 have e:=sI h1;subst e
 replace h0:=GA h0
 have e:=sI h0;subst e
 exact Ju (hQ0 (.panic (JE (QT 90 3))) _ K7 Z (show StLe _ _ ⟨[],[],[],1,210,[]⟩ from (sL (Nat.le_trans hv0 (lb Z)) Z Z Z Z Z))) (fun _ _ h=>h)
 replace h1:=Qg c29 h1
 refine rR Z Z Z (Q2 JY Z)<|rR Z Z Z (Q6 JG Z Z Z)<|rR Z Z Z (ZG Z Z)<|rM Z Z Z ?_
 refine Qw (d:=60) (c:=(a0.name==([]:List UInt8))) Z (fun c33=>?_) (fun c33=>?_)
 replace h1:=Qf c33 h1
 refine rR Z Z Z (Q2 Zl Z)<|rR Z Z Z (Qi QR Z Z Z Z) ?_
 refine Qd h1 (fun x34 hx34 h1=>?_)
 refine Qb Z Z (lb Z) (Qh (Uj a0.ty x34 hx34) Z (.cons (.agg (.cons (.d _) (.cons (.d _) (.cons (.d _) (.cons (.d _) (.cons (.d _) .nil)))))) .nil))<|rR Z Z Z (Qc Z Z)<|rR Z Z Z (Qa Z Z) ?_
 refine Qd h1 (fun x35 hx35 h1=>?_)
 refine Y7 id hx35 h1 (fun x36 hx36 h1=>?_) (fun x37 hx37 h1=>?_)
 refine Qb Z Z (lb Z) (QL Z Z Z (CallE.m (QI x34 3 (.inl x36) hx36)) Z)<|Q5 ?_
 have e:=sI h1;subst e
 replace h0:=G4 h0
 exact Q9 () (sL (Nat.le_trans hv0 (lb Z)) Z Z Z Z Z) h0
 refine Jg Z (QS Z Z Z (CallE.d (QI x34 3 (.inr x37) hx37))) ?_
 have e:=sI h1;subst e
 replace h0:=GA h0
 have e:=sI h0;subst e
 exact Ju (hQ0 (.panic (JE (QT 90 3))) _ K7 Z (show StLe _ _ ⟨[],[],[],1,210,[]⟩ from (sL (Nat.le_trans hv0 (lb Z)) Z Z Z Z Z))) (fun _ _ h=>h)
 replace h1:=Qg c33 h1
 refine Q7 Z Z<|Q7 Z Z<|Q7 Z Z<|rR Z Z Z (Qa Z Z)<|rR Z Z Z (Qa Z Z) ?_
 refine Qd h1 (fun x38 hx38 h1=>?_)
 refine Y7 id hx38 h1 (fun x39 hx39 h1=>?_) (fun x40 hx40 h1=>?_)
 refine Qb Z Z (lb Z) (QL Z Z Z (CallE.m (QI false 3 (.inl x39) hx39)) Z)<|Q5 ?_
 have e:=sI h1;subst e
 replace h0:=G4 h0
 exact Q9 () (sL (Nat.le_trans hv0 (lb Z)) Z Z Z Z Z) h0
 refine Jg Z (QS Z Z Z (CallE.d (QI false 3 (.inr x40) hx40))) ?_
 have e:=sI h1;subst e
 replace h0:=GA h0
 have e:=sI h0;subst e
 exact Ju (hQ0 (.panic (JE (QT 90 3))) _ K7 Z (show StLe _ _ ⟨[],[],[],1,210,[]⟩ from (sL (Nat.le_trans hv0 (lb Z)) Z Z Z Z Z))) (fun _ _ h=>h)
 intro v28 h0
 refine Q3<|Q4 ?_
 refine QD (fun (v41:Bool)=>⟨[(1,.v (.one (.ptr 0 0))),(3,.v (.one (dB (a0.kind==3)))),(4,.v (.one (dB (a0.kind==4)))),(5,.v (.one (dB v41)))],[(0,.cells 45 (cE a0))],[],1,210,[]⟩) (fun (v41:Bool)=>(G8 a0 v41)=some r) ?_ ?_
 refine Qd h0 (fun w1_ h1 h0=>?_)
 refine Q0<|rR Z Z Z (Q2 Jo Z)<|rR Z Z Z (Q2 YJ Z)<|rR Z Z Z (Q6 QG Z Z Z)<|rR Z Z Z (Q8 Z Z Z)<|rM Z Z Z ?_
 refine Qw (d:=71) (c:=(a0.rcr.params==0)) Z (fun c42=>?_) (fun c42=>?_)
 replace h1:=Qf c42 h1
 refine rR Z Z Z (Q2 Jo Z)<|rR Z Z Z (Q2 Zq Z)<|rR Z Z Z (Qi QR Z Z Z Z) ?_
 refine Qd h1 (fun x43 hx43 h1=>?_)
 refine Qb Z Z (lb Z) (Qh (Uj a0.rcr.ty x43 hx43) Z (.cons (.agg (.cons (.d _) (.cons (.d _) (.cons (.d _) (.cons (.d _) (.cons (.d _) .nil)))))) .nil))<|rR Z Z Z (Qc Z Z)<|rM Z Z Z ?_
 refine Qw (d:=77) (c:=x43) Z (fun c44=>?_) (fun c44=>?_)
 replace h1:=Qf c44 h1
 refine rR Z Z Z (Q2 Jo Z)<|rR Z Z Z (Q2 YZ Z)<|rR Z Z Z (Q6 JH Z Z Z)<|rR Z Z Z (Qx (α:=Tm) Jk Z (.d _))<|rR Z Z Z (Q8 Z Z Z)<|rR Z Z Z (Qc Z Z)<|rA Z Z Z<|Q5 ?_
 have e:=sI h1;subst e
 exact Q9 ((a0.rcr.rules.length:Int)==0) (sL (Nat.le_trans hv0 (lb Z)) Z Z Z Z Z) h0
 replace h1:=Qg c44 h1
 refine Q7 Z Z<|Q7 Z Z<|Q7 Z Z<|Q7 Z Z<|Q7 Z Z<|rR Z Z Z (Qa Z Z)<|rA Z Z Z<|Q5 ?_
 have e:=sI h1;subst e
 exact Q9 false (sL (Nat.le_trans hv0 (lb Z)) Z Z Z Z Z) h0
 replace h1:=Qg c42 h1
 refine Q7 Z Z<|Q7 Z Z<|Q7 Z Z<|Q7 Z Z<|rR Z Z Z (Qa Z Z)<|rM Z Z Z<|Q7 Z Z<|Q7 Z Z<|Q7 Z Z<|Q7 Z Z<|Q7 Z Z<|rR Z Z Z (Qa Z Z)<|rA Z Z Z<|Q5 ?_
 have e:=sI h1;subst e
 exact Q9 false (sL (Nat.le_trans hv0 (lb Z)) Z Z Z Z Z) h0
 intro v41 h0
 unfold G8 at h0
 refine Q3<|Q4 ?_
 refine QD (fun (v45:Unit)=>⟨[(1,.v (.one (.ptr 0 0))),(3,.v (.one (dB (a0.kind==3)))),(4,.v (.one (dB (a0.kind==4))))],[(0,.cells 45 (cE a0))],[],1,210,[]⟩) (fun (v45:Unit)=>(Zv a0)=some r) ?_ ?_
 refine Qd h0 (fun w1_ h1 h0=>?_)
 refine Q0<|rM Z Z Z<|rM Z Z Z ?_
 refine Qw (d:=85) (c:=(a0.kind==3)) Z (fun c46=>?_) (fun c46=>?_)
 replace h1:=Qf c46 h1
 refine Q7 Z Z<|Q7 Z Z<|Q7 Z Z<|Q7 Z Z<|Q7 Z Z<|Q7 Z Z<|Q7 Z Z<|Q7 Z Z<|Q7 Z Z<|Q7 Z Z<|Q7 Z Z<|Q7 Z Z<|rR Z Z Z (Qc Z Z) ?_
 refine Qd h1 (fun x47 hx47 h1=>?_)
 refine Y7 id hx47 h1 (fun x48 hx48 h1=>?_) (fun x49 hx49 h1=>?_)
 refine Qb Z Z (lb Z) (QL Z Z Z (CallE.m (QI true 3 (.inl x48) hx48)) Z)<|Q5 ?_
 have e:=sI h1;subst e
 replace h0:=G4 h0
 exact Q9 () (sL (Nat.le_trans hv0 (lb Z)) Z Z Z Z Z) h0
 refine Jg Z (QS Z Z Z (CallE.d (QI true 3 (.inr x49) hx49))) ?_
 have e:=sI h1;subst e
 replace h0:=GA h0
 have e:=sI h0;subst e
 exact Ju (hQ0 (.panic (JE (QT 90 3))) _ K7 Z (show StLe _ _ ⟨[],[],[],1,210,[]⟩ from (sL (Nat.le_trans hv0 (lb Z)) Z Z Z Z Z))) (fun _ _ h=>h)
 replace h1:=Qg c46 h1
 refine rR Z Z Z (Q2 K0 Z)<|rR Z Z Z (Q6 QG Z Z Z)<|rR Z Z Z (Q8 Z Z Z)<|rM Z Z Z ?_
 refine Qw (d:=89) (c:=(a0.fixed==0)) Z (fun c50=>?_) (fun c50=>?_)
 replace h1:=Qf c50 h1
 refine rR Z Z Z (Q2 Js Z)<|rR Z Z Z (Q6 Yd Z Z Z)<|rR Z Z Z (Qx (α:=Ctr) JX Z (.d _))<|rR Z Z Z (Q8 Z Z Z)<|rR Z Z Z (Qc Z Z)<|rM Z Z Z ?_
 refine Qw (d:=95) (c:=((a0.ctors.length:Int)==0)) Z (fun c51=>?_) (fun c51=>?_)
 replace h1:=Qf c51 h1
 refine rM Z Z Z<|rR Z Z Z (Qc Z Z)<|rR Z Z Z (Qa Z Z) ?_
 refine Qd h1 (fun x52 hx52 h1=>?_)
 refine Y7 id hx52 h1 (fun x53 hx53 h1=>?_) (fun x54 hx54 h1=>?_)
 refine Qb Z Z (lb Z) (QL Z Z Z (CallE.m (QI v41 3 (.inl x53) hx53)) Z)<|Q5 ?_
 have e:=sI h1;subst e
 replace h0:=G4 h0
 exact Q9 () (sL (Nat.le_trans hv0 (lb Z)) Z Z Z Z Z) h0
 refine Jg Z (QS Z Z Z (CallE.d (QI v41 3 (.inr x54) hx54))) ?_
 have e:=sI h1;subst e
 replace h0:=GA h0
 have e:=sI h0;subst e
 exact Ju (hQ0 (.panic (JE (QT 90 3))) _ K7 Z (show StLe _ _ ⟨[],[],[],1,210,[]⟩ from (sL (Nat.le_trans hv0 (lb Z)) Z Z Z Z Z))) (fun _ _ h=>h)
 replace h1:=Qg c51 h1
 refine Q7 Z Z<|rR Z Z Z (Qa Z Z)<|rR Z Z Z (Qa Z Z) ?_
 refine Qd h1 (fun x55 hx55 h1=>?_)
 refine Y7 id hx55 h1 (fun x56 hx56 h1=>?_) (fun x57 hx57 h1=>?_)
 refine Qb Z Z (lb Z) (QL Z Z Z (CallE.m (QI false 3 (.inl x56) hx56)) Z)<|Q5 ?_
 have e:=sI h1;subst e
 replace h0:=G4 h0
 exact Q9 () (sL (Nat.le_trans hv0 (lb Z)) Z Z Z Z Z) h0
 refine Jg Z (QS Z Z Z (CallE.d (QI false 3 (.inr x57) hx57))) ?_
 have e:=sI h1;subst e
 replace h0:=GA h0
 have e:=sI h0;subst e
 exact Ju (hQ0 (.panic (JE (QT 90 3))) _ K7 Z (show StLe _ _ ⟨[],[],[],1,210,[]⟩ from (sL (Nat.le_trans hv0 (lb Z)) Z Z Z Z Z))) (fun _ _ h=>h)
 replace h1:=Qg c50 h1
 refine Q7 Z Z<|Q7 Z Z<|Q7 Z Z<|Q7 Z Z<|rR Z Z Z (Qa Z Z)<|rM Z Z Z<|Q7 Z Z<|rR Z Z Z (Qa Z Z)<|rR Z Z Z (Qa Z Z) ?_
 refine Qd h1 (fun x58 hx58 h1=>?_)
 refine Y7 id hx58 h1 (fun x59 hx59 h1=>?_) (fun x60 hx60 h1=>?_)
 refine Qb Z Z (lb Z) (QL Z Z Z (CallE.m (QI false 3 (.inl x59) hx59)) Z)<|Q5 ?_
 have e:=sI h1;subst e
 replace h0:=G4 h0
 exact Q9 () (sL (Nat.le_trans hv0 (lb Z)) Z Z Z Z Z) h0
 refine Jg Z (QS Z Z Z (CallE.d (QI false 3 (.inr x60) hx60))) ?_
 have e:=sI h1;subst e
 replace h0:=GA h0
 have e:=sI h0;subst e
 exact Ju (hQ0 (.panic (JE (QT 90 3))) _ K7 Z (show StLe _ _ ⟨[],[],[],1,210,[]⟩ from (sL (Nat.le_trans hv0 (lb Z)) Z Z Z Z Z))) (fun _ _ h=>h)
 intro v45 h0
 unfold Zv at h0
 refine Q3<|Q4 ?_
 refine QD (fun (v61:Unit)=>⟨[(1,.v (.one (.ptr 0 0))),(3,.v (.one (dB (a0.kind==3)))),(4,.v (.one (dB (a0.kind==4))))],[(0,.cells 45 (cE a0))],[],1,210,[]⟩) (fun (v61:Unit)=>(Xz a0)=some r) ?_ ?_
 refine Qd h0 (fun w1_ h1 h0=>?_)
 refine Q0<|rR Z Z Z (Q2 Jz Z)<|rR Z Z Z (Q6 QG Z Z Z)<|rR Z Z Z (Q8 Z Z Z)<|rM Z Z Z ?_
 refine Qw (d:=103) (c:=(decide (0≤a0.params))) Z (fun c62=>?_) (fun c62=>?_)
 replace h1:=Qf c62 h1
 refine rR Z Z Z (Q2 Jz Z)<|rR Z Z Z (Q6 QG Z Z Z)<|rR Z Z Z (Q8 Z Z Z)<|rR Z Z Z (Qc Z Z)<|rM Z Z Z ?_
 refine Qw (d:=108) (c:=(decide (a0.params≤8))) Z (fun c63=>?_) (fun c63=>?_)
 replace h1:=Qf c63 h1
 refine rR Z Z Z (Q2 K0 Z)<|rR Z Z Z (Q6 QG Z Z Z)<|rR Z Z Z (Q8 Z Z Z)<|rR Z Z Z (Qc Z Z) ?_
 refine Qd h1 (fun x64 hx64 h1=>?_)
 refine Y7 id hx64 h1 (fun x65 hx65 h1=>?_) (fun x66 hx66 h1=>?_)
 refine Qb Z Z (lb Z) (QL Z Z Z (CallE.m (QI (decide (0≤a0.fixed)) 2 (.inl x65) hx65)) Z)<|Q5 ?_
 have e:=sI h1;subst e
 replace h0:=G4 h0
 exact Q9 () (sL (Nat.le_trans hv0 (lb Z)) Z Z Z Z Z) h0
 refine Jg Z (QS Z Z Z (CallE.d (QI (decide (0≤a0.fixed)) 2 (.inr x66) hx66))) ?_
 have e:=sI h1;subst e
 replace h0:=GA h0
 have e:=sI h0;subst e
 exact Ju (hQ0 (.panic (JE (QT 90 2))) _ K7 Z (show StLe _ _ ⟨[],[],[],1,210,[]⟩ from (sL (Nat.le_trans hv0 (lb Z)) Z Z Z Z Z))) (fun _ _ h=>h)
 replace h1:=Qg c63 h1
 refine Q7 Z Z<|Q7 Z Z<|Q7 Z Z<|rR Z Z Z (Qa Z Z) ?_
 refine Qd h1 (fun x67 hx67 h1=>?_)
 refine Y7 id hx67 h1 (fun x68 hx68 h1=>?_) (fun x69 hx69 h1=>?_)
 refine Qb Z Z (lb Z) (QL Z Z Z (CallE.m (QI false 2 (.inl x68) hx68)) Z)<|Q5 ?_
 have e:=sI h1;subst e
 replace h0:=G4 h0
 exact Q9 () (sL (Nat.le_trans hv0 (lb Z)) Z Z Z Z Z) h0
 refine Jg Z (QS Z Z Z (CallE.d (QI false 2 (.inr x69) hx69))) ?_
 have e:=sI h1;subst e
 replace h0:=GA h0
 have e:=sI h0;subst e
 exact Ju (hQ0 (.panic (JE (QT 90 2))) _ K7 Z (show StLe _ _ ⟨[],[],[],1,210,[]⟩ from (sL (Nat.le_trans hv0 (lb Z)) Z Z Z Z Z))) (fun _ _ h=>h)
 replace h1:=Qg c62 h1
 refine Q7 Z Z<|Q7 Z Z<|Q7 Z Z<|rR Z Z Z (Qa Z Z)<|rM Z Z Z<|Q7 Z Z<|Q7 Z Z<|Q7 Z Z<|rR Z Z Z (Qa Z Z) ?_
 refine Qd h1 (fun x70 hx70 h1=>?_)
 refine Y7 id hx70 h1 (fun x71 hx71 h1=>?_) (fun x72 hx72 h1=>?_)
 refine Qb Z Z (lb Z) (QL Z Z Z (CallE.m (QI false 2 (.inl x71) hx71)) Z)<|Q5 ?_
 have e:=sI h1;subst e
 replace h0:=G4 h0
 exact Q9 () (sL (Nat.le_trans hv0 (lb Z)) Z Z Z Z Z) h0
 refine Jg Z (QS Z Z Z (CallE.d (QI false 2 (.inr x72) hx72))) ?_
 have e:=sI h1;subst e
 replace h0:=GA h0
 have e:=sI h0;subst e
 exact Ju (hQ0 (.panic (JE (QT 90 2))) _ K7 Z (show StLe _ _ ⟨[],[],[],1,210,[]⟩ from (sL (Nat.le_trans hv0 (lb Z)) Z Z Z Z Z))) (fun _ _ h=>h)
 intro v61 h0
 unfold Xz at h0
 refine Q3<|Q4 ?_
 refine QD (fun (v73:Unit)=>⟨[(1,.v (.one (.ptr 0 0))),(3,.v (.one (dB (a0.kind==3))))],[(0,.cells 45 (cE a0))],[],1,210,[]⟩) (fun (v73:Unit)=>(Option.bind (QE (Ko a0) QU 0) (Sum.elim (fun (o74:Unit)=>G9 a0) (fun o=>some o)))=some r) ?_ ?_
 refine Qd h0 (fun w1_ h1 h0=>?_)
 refine Q0<|rR Z Z Z (Q2 Js Z)<|rR Z Z Z (Q6 Yd Z Z Z)<|rR Z Z Z (Qx (α:=Ctr) JX Z (.d _))<|rR Z Z Z (Q8 Z Z Z)<|rM Z Z Z ?_
 refine Qw (d:=118) (c:=(decide ((a0.ctors.length:Int)≤32))) Z (fun c74=>?_) (fun c74=>?_)
 replace h1:=Qf c74 h1
 refine rM Z Z Z<|rR Z Z Z (Jc Z)<|rM Z Z Z ?_
 refine Qw (d:=121) (c:=(!(a0.kind==4))) Z (fun c75=>?_) (fun c75=>?_)
 replace h1:=Qf c75 h1
 refine Q7 Z Z<|Q7 Z Z<|Q7 Z Z<|Q7 Z Z<|Q7 Z Z<|Q7 Z Z<|Q7 Z Z<|Q7 Z Z<|Q7 Z Z<|Q7 Z Z<|rR Z Z Z (Qc Z Z)<|rR Z Z Z (Qc Z Z) ?_
 refine Qd h1 (fun x76 hx76 h1=>?_)
 refine Y7 id hx76 h1 (fun x77 hx77 h1=>?_) (fun x78 hx78 h1=>?_)
 refine Qb Z Z (lb Z) (QL Z Z Z (CallE.m (QI true 6 (.inl x77) hx77)) Z)<|Q5 ?_
 have e:=sI h1;subst e
 replace h0:=G4 h0
 exact Q9 () (sL (Nat.le_trans hv0 (lb Z)) Z Z Z Z Z) h0
 refine Jg Z (QS Z Z Z (CallE.d (QI true 6 (.inr x78) hx78))) ?_
 have e:=sI h1;subst e
 replace h0:=GA h0
 have e:=sI h0;subst e
 exact Ju (hQ0 (.panic (JE (QT 90 6))) _ K7 Z (show StLe _ _ ⟨[],[],[],1,210,[]⟩ from (sL (Nat.le_trans hv0 (lb Z)) Z Z Z Z Z))) (fun _ _ h=>h)
 replace h1:=Qg c75 h1
 refine rR Z Z Z (Q2 Jf Z)<|rR Z Z Z (Q6 JU Z Z Z)<|rR Z Z Z (Qx (α:=Fn) JA Z (.d _))<|rR Z Z Z (Q8 Z Z Z)<|rM Z Z Z ?_
 refine Qw (d:=126) (c:=(decide (1≤(a0.funs.length:Int)))) Z (fun c79=>?_) (fun c79=>?_)
 replace h1:=Qf c79 h1
 refine rR Z Z Z (Q2 Jf Z)<|rR Z Z Z (Q6 JU Z Z Z)<|rR Z Z Z (Qx (α:=Fn) JA Z (.d _))<|rR Z Z Z (Q8 Z Z Z)<|rR Z Z Z (Qc Z Z)<|rR Z Z Z (Qa Z Z)<|rR Z Z Z (Qc Z Z) ?_
 refine Qd h1 (fun x80 hx80 h1=>?_)
 refine Y7 id hx80 h1 (fun x81 hx81 h1=>?_) (fun x82 hx82 h1=>?_)
 refine Qb Z Z (lb Z) (QL Z Z Z (CallE.m (QI (decide ((a0.funs.length:Int)≤8)) 6 (.inl x81) hx81)) Z)<|Q5 ?_
 have e:=sI h1;subst e
 replace h0:=G4 h0
 exact Q9 () (sL (Nat.le_trans hv0 (lb Z)) Z Z Z Z Z) h0
 refine Jg Z (QS Z Z Z (CallE.d (QI (decide ((a0.funs.length:Int)≤8)) 6 (.inr x82) hx82))) ?_
 have e:=sI h1;subst e
 replace h0:=GA h0
 have e:=sI h0;subst e
 exact Ju (hQ0 (.panic (JE (QT 90 6))) _ K7 Z (show StLe _ _ ⟨[],[],[],1,210,[]⟩ from (sL (Nat.le_trans hv0 (lb Z)) Z Z Z Z Z))) (fun _ _ h=>h)
 replace h1:=Qg c79 h1
 refine Q7 Z Z<|Q7 Z Z<|Q7 Z Z<|Q7 Z Z<|rR Z Z Z (Qa Z Z)<|rR Z Z Z (Qa Z Z)<|rR Z Z Z (Qc Z Z) ?_
 refine Qd h1 (fun x83 hx83 h1=>?_)
 refine Y7 id hx83 h1 (fun x84 hx84 h1=>?_) (fun x85 hx85 h1=>?_)
 refine Qb Z Z (lb Z) (QL Z Z Z (CallE.m (QI false 6 (.inl x84) hx84)) Z)<|Q5 ?_
 have e:=sI h1;subst e
 replace h0:=G4 h0
 exact Q9 () (sL (Nat.le_trans hv0 (lb Z)) Z Z Z Z Z) h0
 refine Jg Z (QS Z Z Z (CallE.d (QI false 6 (.inr x85) hx85))) ?_
 have e:=sI h1;subst e
 replace h0:=GA h0
 have e:=sI h0;subst e
 exact Ju (hQ0 (.panic (JE (QT 90 6))) _ K7 Z (show StLe _ _ ⟨[],[],[],1,210,[]⟩ from (sL (Nat.le_trans hv0 (lb Z)) Z Z Z Z Z))) (fun _ _ h=>h)
 replace h1:=Qg c74 h1
 refine Q7 Z Z<|Q7 Z Z<|Q7 Z Z<|Q7 Z Z<|Q7 Z Z<|Q7 Z Z<|Q7 Z Z<|Q7 Z Z<|Q7 Z Z<|Q7 Z Z<|Q7 Z Z<|Q7 Z Z<|Q7 Z Z<|Q7 Z Z ?_
 refine rR Z Z Z (Qa Z Z) ?_
 refine Qd h1 (fun x86 hx86 h1=>?_)
 refine Y7 id hx86 h1 (fun x87 hx87 h1=>?_) (fun x88 hx88 h1=>?_)
 refine Qb Z Z (lb Z) (QL Z Z Z (CallE.m (QI false 6 (.inl x87) hx87)) Z)<|Q5 ?_
 have e:=sI h1;subst e
 replace h0:=G4 h0
 exact Q9 () (sL (Nat.le_trans hv0 (lb Z)) Z Z Z Z Z) h0
 refine Jg Z (QS Z Z Z (CallE.d (QI false 6 (.inr x88) hx88))) ?_
 have e:=sI h1;subst e
 replace h0:=GA h0
 have e:=sI h0;subst e
 exact Ju (hQ0 (.panic (JE (QT 90 6))) _ K7 Z (show StLe _ _ ⟨[],[],[],1,210,[]⟩ from (sL (Nat.le_trans hv0 (lb Z)) Z Z Z Z Z))) (fun _ _ h=>h)
 intro v73 h0
 refine Q3<|Q4<|Q4<|Q0<|rR Z Z Z (Q2 Jf Z)<|rR Z Z Z (Q6 JU Z Z Z)<|rR Z Z Z (Qx (α:=Fn) JA Z (.d _))<|rM Z Z Z<|Q5<|Q3<|Ql ?_
 refine QQ 0 (fun (o89:Unit)=>⟨[(1,.v (.one (.ptr 0 0))),(3,.v (.one (dB (a0.kind==3))))],[(0,.cells 45 (cE a0))],[],1,210,[]⟩) (fun (o89:Unit)=>(G9 a0)=some r) ?_ ?_
 refine Qd h0 (fun o90 hl1 h0=>?_)
 refine QP (Ko a0) (fun s1=>⟨[(1,.v (.one (.ptr 0 0))),(3,.v (.one (dB (a0.kind==3)))),(136,.v (.one (dS a0.funs))),(137,.v (.one (dI (a0.funs.length:Int)))),(138,.v (.one (dI s1)))],[(0,.cells 45 (cE a0))],[],1,210,[]⟩) 0 o90 (sL (Nat.le_trans hv0 (lb Z)) Z Z Z Z Z) hl1 (fun s1 n1 oo1 h1 ho1=>?_)
 unfold Ko at h1
 refine Q4<|Q0<|rR Z Z Z (Q8 Z Z Z)<|Q5<|Q3<|Q4 ?_
 refine Qe (b:=(decide (s1 < (a0.funs.length:Int)))) Z (fun c91=>?_) (fun c91=>?_)
 replace h1:=Qf c91 h1
 refine Qj<|Q3<|Q4<|Ql<|Q4<|Q0 ?_
 refine Qd h1 (fun x92 hx92 h1=>?_)
 refine rR Z Z Z (Qt (α:=Fn) JA Z (.d _) Z hx92)<|rR Z Z Z (Qu (x92:Fn) Z5 Z)<|Qb Z Z (lb Z) (Qv U9 Z)<|QC Z Z (QA (x92:Fn) Z5 Z Z Z Z Z)<|Q5<|Q3 ?_
 refine QD (fun (v93:Unit)=>⟨[(1,.v (.one (.ptr 0 0))),(3,.v (.one (dB (a0.kind==3)))),(136,.v (.one (dS a0.funs))),(137,.v (.one (dI (a0.funs.length:Int)))),(138,.v (.one (dI s1)))],[(0,.cells 45 (cE a0)),(1,.cells 76 (cE x92))],[],2,210,[]⟩) (fun (v93:Unit)=>(some (.next (Ja (s1+1))))=some oo1) ?_ ?_
 refine Qd h1 (fun w2_ h2 h1=>?_)
 refine Q0<|rR Z Z Z (Q2 KK Z)<|rR Z Z Z (Q6 QG Z Z Z)<|rR Z Z Z (Q8 Z Z Z)<|rM Z Z Z ?_
 refine Qw (d:=145) (c:=(decide (1≤x92.arity))) Z (fun c94=>?_) (fun c94=>?_)
 replace h2:=Qf c94 h2
 refine rR Z Z Z (Q2 KK Z)<|rR Z Z Z (Q6 QG Z Z Z)<|rR Z Z Z (Q8 Z Z Z)<|rR Z Z Z (Qc Z Z) ?_
 refine Qd h2 (fun x95 hx95 h2=>?_)
 refine Y7 id hx95 h2 (fun x96 hx96 h2=>?_) (fun x97 hx97 h2=>?_)
 refine Qb Z Z (lb Z) (QL Z Z Z (CallE.m (QI (decide (x92.arity≤16)) 3 (.inl x96) hx96)) Z)<|Q5 ?_
 have e:=sI h2;subst e
 replace h1:=G4 h1
 exact Q9 () (sL (Nat.le_trans hv0 (lb Z)) Z Z Z Z Z) h1
 refine Jg Z (QS Z Z Z (CallE.d (QI (decide (x92.arity≤16)) 3 (.inr x97) hx97))) ?_
 have e:=sI h2;subst e
 replace h1:=GA h1
 have e:=sI h1;subst e
 have e_:_=_:=ho1
 subst e_
 try dsimp only [Sum.elim_inl,Sum.elim_inr] at h0
 have e:=sI h0;subst e
 exact Ju (hQ0 (.panic (JE (QT 90 3))) _ K7 Z (show StLe _ _ ⟨[],[],[],1,210,[]⟩ from (sL (Nat.le_trans hv0 (lb Z)) Z Z Z Z Z))) (fun _ _ h=>h)
 replace h2:=Qg c94 h2
 refine Q7 Z Z<|Q7 Z Z<|Q7 Z Z<|rR Z Z Z (Qa Z Z) ?_
 refine Qd h2 (fun x98 hx98 h2=>?_)
 refine Y7 id hx98 h2 (fun x99 hx99 h2=>?_) (fun x100 hx100 h2=>?_)
 refine Qb Z Z (lb Z) (QL Z Z Z (CallE.m (QI false 3 (.inl x99) hx99)) Z)<|Q5 ?_
 have e:=sI h2;subst e
 replace h1:=G4 h1
 exact Q9 () (sL (Nat.le_trans hv0 (lb Z)) Z Z Z Z Z) h1
 refine Jg Z (QS Z Z Z (CallE.d (QI false 3 (.inr x100) hx100))) ?_
 have e:=sI h2;subst e
 replace h1:=GA h1
 have e:=sI h1;subst e
 have e_:_=_:=ho1
 subst e_
 try dsimp only [Sum.elim_inl,Sum.elim_inr] at h0
 have e:=sI h0;subst e
 exact Ju (hQ0 (.panic (JE (QT 90 3))) _ K7 Z (show StLe _ _ ⟨[],[],[],1,210,[]⟩ from (sL (Nat.le_trans hv0 (lb Z)) Z Z Z Z Z))) (fun _ _ h=>h)
 intro v93 h1
 refine Qk<|Q3<|Q0<|rR Z Z Z (Q8 Z Z Z)<|rM Z Z Z<|Q5 ?_
 have e:=sI h1;subst e
 refine QJ (Ja (s1+1)) (sL (Nat.le_trans hv0 (lb Z)) Z Z Z Z Z) ho1
 replace h1:=Qg c91 h1
 refine QW<|Qr<|Qr ?_
 have e:=sI h1;subst e
 have e_:_=_:=ho1
 subst e_
 exact QO () (sL (Nat.le_trans hv0 (lb Z)) Z Z Z Z Z) h0
 intro o89 h0
 unfold G9 at h0
 refine QF<|Q3<|Q4<|Q0<|rM Z Z Z<|Q5<|Q3 ?_
 refine Qe (b:=(a0.kind==3)) Z (fun c101=>?_) (fun c101=>?_)
 replace h0:=Qf c101 h0
 refine Q4<|Q0<|rR Z Z Z (Q2 Jo Z)<|rR Z Z Z (Q2 YJ Z)<|rR Z Z Z (Q6 QG Z Z Z)<|rR Z Z Z (Q2 Jz Z)<|rR Z Z Z (Q6 QG Z Z Z)<|rR Z Z Z (Q8 Z Z Z)<|rA Z Z Z<|Q5<|Q3<|Q4 ?_
 refine QD (fun (v102:Unit)=>⟨[(1,.v (.one (.ptr 0 0)))],[(0,.cells 45 (cE a0))],[],1,210,[]⟩) (fun (v102:Unit)=>(Option.bind (QE (Kn a0) QU ([a0.ty],0)) (fun (o103:(List Tm))=>Option.bind (QE (ZU o103 a0) QU 0) (Sum.elim (fun (o104:Unit)=>some (.inl ())) (fun o=>some o))))=some r) ?_ ?_
 refine Qd h0 (fun w1_ h1 h0=>?_)
 refine Q0<|rM Z Z Z<|rR Z Z Z (Q8 Z Z Z)<|rM Z Z Z ?_
 refine Qw (d:=161) (c:=((Ja (a0.rcr.params - a0.params))==0)) Z (fun c103=>?_) (fun c103=>?_)
 replace h1:=Qf c103 h1
 refine Q7 Z Z<|Q7 Z Z<|rR Z Z Z (Qc Z Z)<|rM Z Z Z<|rR Z Z Z (Q2 Jo Z)<|rR Z Z Z (Q2 YZ Z)<|rR Z Z Z (Q6 JH Z Z Z)<|rR Z Z Z (Qx (α:=Tm) Jk Z (.d _))<|rR Z Z Z (Q2 Js Z)<|rR Z Z Z (Q6 Yd Z Z Z)<|rR Z Z Z (Qx (α:=Ctr) JX Z (.d _))<|rR Z Z Z (Q8 Z Z Z)<|rR Z Z Z (Qc Z Z) ?_
 refine Qd h1 (fun x104 hx104 h1=>?_)
 refine Y7 id hx104 h1 (fun x105 hx105 h1=>?_) (fun x106 hx106 h1=>?_)
 refine Qb Z Z (lb Z) (QL Z Z Z (CallE.m (QI ((a0.rcr.rules.length:Int)==(a0.ctors.length:Int)) 3 (.inl x105) hx105)) Z)<|Q5 ?_
 have e:=sI h1;subst e
 replace h0:=G4 h0
 exact Q9 () (sL (Nat.le_trans hv0 (lb Z)) Z Z Z Z Z) h0
 refine Jg Z (QS Z Z Z (CallE.d (QI ((a0.rcr.rules.length:Int)==(a0.ctors.length:Int)) 3 (.inr x106) hx106))) ?_
 have e:=sI h1;subst e
 replace h0:=GA h0
 have e:=sI h0;subst e
 exact Ju (hQ0 (.panic (JE (QT 90 3))) _ K7 Z (show StLe _ _ ⟨[],[],[],1,210,[]⟩ from (sL (Nat.le_trans hv0 (lb Z)) Z Z Z Z Z))) (fun _ _ h=>h)
 replace h1:=Qg c103 h1
 refine rM Z Z Z<|rR Z Z Z (Q8 Z Z Z)<|rR Z Z Z (Qa Z Z)<|rM Z Z Z ?_
 refine Qw (d:=165) (c:=((Ja (a0.rcr.params - a0.params))==1)) Z (fun c107=>?_) (fun c107=>?_)
 replace h1:=Qf c107 h1
 refine rR Z Z Z (Q2 Jo Z)<|rR Z Z Z (Q2 YZ Z)<|rR Z Z Z (Q6 JH Z Z Z)<|rR Z Z Z (Qx (α:=Tm) Jk Z (.d _))<|rR Z Z Z (Q2 Js Z)<|rR Z Z Z (Q6 Yd Z Z Z)<|rR Z Z Z (Qx (α:=Ctr) JX Z (.d _))<|rR Z Z Z (Q8 Z Z Z)<|rR Z Z Z (Qc Z Z) ?_
 refine Qd h1 (fun x108 hx108 h1=>?_)
 refine Y7 id hx108 h1 (fun x109 hx109 h1=>?_) (fun x110 hx110 h1=>?_)
 refine Qb Z Z (lb Z) (QL Z Z Z (CallE.m (QI ((a0.rcr.rules.length:Int)==(a0.ctors.length:Int)) 3 (.inl x109) hx109)) Z)<|Q5 ?_
 have e:=sI h1;subst e
 replace h0:=G4 h0
 exact Q9 () (sL (Nat.le_trans hv0 (lb Z)) Z Z Z Z Z) h0
 refine Jg Z (QS Z Z Z (CallE.d (QI ((a0.rcr.rules.length:Int)==(a0.ctors.length:Int)) 3 (.inr x110) hx110))) ?_
 have e:=sI h1;subst e
 replace h0:=GA h0
 have e:=sI h0;subst e
 exact Ju (hQ0 (.panic (JE (QT 90 3))) _ K7 Z (show StLe _ _ ⟨[],[],[],1,210,[]⟩ from (sL (Nat.le_trans hv0 (lb Z)) Z Z Z Z Z))) (fun _ _ h=>h)
 replace h1:=Qg c107 h1
 refine Q7 Z Z<|Q7 Z Z<|Q7 Z Z<|Q7 Z Z<|Q7 Z Z<|Q7 Z Z<|Q7 Z Z<|Q7 Z Z<|rR Z Z Z (Qa Z Z) ?_
 refine Qd h1 (fun x111 hx111 h1=>?_)
 refine Y7 id hx111 h1 (fun x112 hx112 h1=>?_) (fun x113 hx113 h1=>?_)
 refine Qb Z Z (lb Z) (QL Z Z Z (CallE.m (QI false 3 (.inl x112) hx112)) Z)<|Q5 ?_
 have e:=sI h1;subst e
 replace h0:=G4 h0
 exact Q9 () (sL (Nat.le_trans hv0 (lb Z)) Z Z Z Z Z) h0
 refine Jg Z (QS Z Z Z (CallE.d (QI false 3 (.inr x113) hx113))) ?_
 have e:=sI h1;subst e
 replace h0:=GA h0
 have e:=sI h0;subst e
 exact Ju (hQ0 (.panic (JE (QT 90 3))) _ K7 Z (show StLe _ _ ⟨[],[],[],1,210,[]⟩ from (sL (Nat.le_trans hv0 (lb Z)) Z Z Z Z Z))) (fun _ _ h=>h)
 intro v102 h0
 refine Q3<|Q4<|Q0<|rR Z Z Z (Q2 Zl Z)<|rR Z Z Z (Qi QR Z Z Z Z)<|Qb Z Z (lb Z) (JW (α:=Tm) (a0.ty) Jk G1 Z Z (lb Z) (lb Z) Z Z (.cons (.d _) (.cons (.d _) (.cons (.d _) (.cons (.d _) (.cons (.d _) .nil))))) Z)<|rA Z Z Z<|Q5<|Q3<|Q4<|Q4<|Q0<|rR Z Z Z (Q2 Js Z)<|rR Z Z Z (Q6 Yd Z Z Z) ?_
 refine rR Z Z Z (Qx (α:=Ctr) JX Z (.d _))<|rM Z Z Z<|Q5<|Q3<|Ql ?_
 refine QQ 2 (fun (o114:(List Tm))=>⟨[(1,.v (.one (.ptr 0 0))),(9,.v (.one (dA 1 o114)))],[(0,.cells 45 (cE a0))],[(1,some ⟨33,5,(Enc.encL o114).length,[]⟩)],2,210,[]⟩) (fun (o114:(List Tm))=>(Option.bind (QE (ZU o114 a0) QU 0) (Sum.elim (fun (o115:Unit)=>some (.inl ())) (fun o=>some o)))=some r) ?_ ?_
 refine Qd h0 (fun o115 hl1 h0=>?_)
 refine QP (Kn a0) (fun s1=>⟨[(1,.v (.one (.ptr 0 0))),(9,.v (.one (dA 1 s1.1))),(180,.v (.one (dS a0.ctors))),(181,.v (.one (dI (a0.ctors.length:Int)))),(182,.v (.one (dI s1.2)))],[(0,.cells 45 (cE a0))],[(1,some ⟨33,5,(Enc.encL s1.1).length,[]⟩)],2,210,[]⟩) ([a0.ty],0) o115 (sL (Nat.le_trans hv0 (lb Z)) Z Z Z Z Z) hl1 (fun s1 n1 oo1 h1 ho1=>?_)
 unfold Kn at h1
 refine Q4<|Q0<|rR Z Z Z (Q8 Z Z Z)<|Q5<|Q3<|Q4 ?_
 refine Qe (b:=(decide (s1.2 < (a0.ctors.length:Int)))) Z (fun c116=>?_) (fun c116=>?_)
 replace h1:=Qf c116 h1
 refine Qj<|Q3<|Q4<|Ql<|Q4<|Q0 ?_
 refine Qd h1 (fun x117 hx117 h1=>?_)
 refine rR Z Z Z (Qt (α:=Ctr) JX Z (.d _) Z hx117)<|rR Z Z Z (Qu (x117:Ctr) KD Z)<|Qb Z Z (lb Z) (Qv UN Z)<|QC Z Z (QA (x117:Ctr) KD Z Z Z Z Z)<|Q5<|Q3<|Q0<|rM Z Z Z<|rR Z Z Z (Q2 Za Z)<|rR Z Z Z (Qi QR Z Z Z Z)<|Qb Z Z (lb Z) (JW (α:=Tm) (x117.ty) Jk G1 Z Z (lb Z) (lb Z) Z Z (.cons (.d _) (.cons (.d _) (.cons (.d _) (.cons (.d _) (.cons (.d _) .nil))))) Z) ?_
 refine Yt h1 (fun g118 h1=>?_)
 refine Qb Z Z (lb Z) (Yz (α:=Tm) Jk el_33 Z Z Z Z Z (.app _ _) g118)<|rA Z Z Z<|Q5<|Qk<|Q3<|Q0<|rR Z Z Z (Q8 Z Z Z)<|rM Z Z Z<|Q5 ?_
 have e:=sI h1;subst e
 refine QJ ((s1.1++([x117.ty])),(Ja (s1.2+1))) (sL (Nat.le_trans hv0 (lb Z)) Z Z Z Z Z) ho1
 replace h1:=Qg c116 h1
 refine QW<|Qr<|Qr ?_
 have e:=sI h1;subst e
 have e_:_=_:=ho1
 subst e_
 exact QO s1.1 (sL (Nat.le_trans hv0 (lb Z)) Z Z Z Z Z) h0
 intro o114 h0
 refine QF<|Q3<|Q4<|Q0<|rM Z Z Z<|rR Z Z Z (Qx (α:=Tm) Jk Z (.app _ _))<|rM Z Z Z<|Q5<|Q3<|Ql ?_
 refine QQ 4 (fun (o119:Unit)=>⟨[],[(0,.cells 45 (cE a0))],[(1,some ⟨33,5,(Enc.encL o114).length,[]⟩)],2,210,[]⟩) (fun (o119:Unit)=>(some (.inl ()))=some r) ?_ ?_
 refine Qd h0 (fun o120 hl1 h0=>?_)
 refine QP (ZU o114 a0) (fun s1=>⟨[(1,.v (.one (.ptr 0 0))),(192,.v (.one (dA 1 o114))),(193,.v (.one (dI (o114.length:Int)))),(194,.v (.one (dI s1)))],[(0,.cells 45 (cE a0))],[(1,some ⟨33,5,(Enc.encL o114).length,[]⟩)],2,210,[]⟩) 0 o120 (sL (Nat.le_trans hv0 (lb Z)) Z Z Z Z Z) hl1 (fun s1 n1 oo1 h1 ho1=>?_)
 unfold ZU at h1
 refine Q4<|Q0<|rR Z Z Z (Q8 Z Z Z)<|Q5<|Q3<|Q4 ?_
 refine Qe (b:=(decide (s1 < (o114.length:Int)))) Z (fun c121=>?_) (fun c121=>?_)
 replace h1:=Qf c121 h1
 refine Qj<|Q3<|Q4<|Ql<|Q4<|Q0 ?_
 refine Qd h1 (fun x122 hx122 h1=>?_)
 refine rR Z Z Z (Qt (α:=Tm) Jk Z (.app _ _) Z hx122)<|rR Z Z Z (Qu (x122:Tm) QR Z)<|Qb Z Z (lb Z) (Qv G1 Z)<|QC Z Z (QA (x122:Tm) QR Z Z Z Z Z)<|Q5<|Q3<|Q4<|Q0<|rR Z Z Z (QH (x122:Tm) QR Z Z) ?_
 refine Qd h1 (fun x123 hx123 h1=>?_)
 refine Qb Z Z (lb Z) (Qh (m64_ok x122 x123 hx123) Z (.cons (.agg (.cons (.d _) (.cons (.d _) (.cons (.d _) (.cons (.d _) (.cons (.d _) .nil)))))) .nil))<|rM Z Z Z<|rR Z Z Z (QX Z Z)<|rR Z Z Z (QX Z Z)<|Qb Z Z (lb Z) (Qv G1 Z)<|rA Z Z Z<|QC Z Z (QA (x123.2:Tm) QR Z Z Z Z Z)<|Q5<|Q3<|Q0<|rM Z Z Z<|rR Z Z Z (Qx (α:=Tm) Jk Z (.d _))<|rR Z Z Z (Q2 K0 Z)<|rR Z Z Z (Q6 QG Z Z Z) ?_
 refine rR Z Z Z (Q8 Z Z Z) ?_
 refine Qd h1 (fun x124 hx124 h1=>?_)
 refine Y7 id hx124 h1 (fun x125 hx125 h1=>?_) (fun x126 hx126 h1=>?_)
 refine Qb Z Z (lb Z) (QL Z Z Z (CallE.m (QI (decide (a0.fixed≤(x123.1.length:Int))) 3 (.inl x125) hx125)) Z)<|Q5<|Qk<|Q3<|Q0<|rR Z Z Z (Q8 Z Z Z)<|rM Z Z Z<|Q5 ?_
 have e:=sI h1;subst e
 refine QJ (Ja (s1+1)) (sL (Nat.le_trans hv0 (lb Z)) Z Z Z Z Z) ho1
 refine Jg Z (QS Z Z Z (CallE.d (QI (decide (a0.fixed≤(x123.1.length:Int))) 3 (.inr x126) hx126))) ?_
 have e:=sI h1;subst e
 have e_:_=_:=ho1
 subst e_
 try dsimp only [Sum.elim_inl,Sum.elim_inr] at h0
 have e:=sI h0;subst e
 exact Ju (hQ0 (.panic (JE (QT 90 3))) _ K7 Z (show StLe _ _ ⟨[],[],[],1,210,[]⟩ from (sL (Nat.le_trans hv0 (lb Z)) Z Z Z Z Z))) (fun _ _ h=>h)
 replace h1:=Qg c121 h1
 refine QW<|Qr<|Qr ?_
 have e:=sI h1;subst e
 have e_:_=_:=ho1
 subst e_
 exact QO () (sL (Nat.le_trans hv0 (lb Z)) Z Z Z Z Z) h0
 intro o119 h0
 refine QF ?_
 have e:=sI h0;subst e
 exact hQ0 _ _ DO Z (show StLe _ _ ⟨[],[],[],1,210,[]⟩ from (sL (Nat.le_trans hv0 (lb Z)) Z Z Z Z Z))
 replace h0:=Qg c101 h0
 refine Qj ?_
 have e:=sI h0;subst e
 exact hQ0 _ _ DO Z (show StLe _ _ ⟨[],[],[],1,210,[]⟩ from (sL (Nat.le_trans hv0 (lb Z)) Z Z Z Z Z))
noncomputable def G7 (x1:(List Bs)) (a2:Qo Bs Ent) (s1:Int×(Qo Bs Bool)):Option (LO (Int×(Qo Bs Bool)) (((Qo Bs Bool))⊕(Unit⊕Int))) :=
 cond (decide (s1.1 < (x1.length:Int)))
   (Option.bind (JP x1 s1.1) fun (x4:Bs) =>
 Option.bind (DR x4) fun (x5:Bool) =>
 Option.bind (JJ x5 29) (Sum.elim (fun (x7:Unit)=>Option.bind (cond (!(YL a2 x4))
   (Option.bind (JJ (!(Qy s1.2 x4)) 8) (Sum.elim (fun (x12:Unit)=>some (.inl ())) (fun (x13:Unit)=>some (.inr (.inr 8)))))
   (Option.bind (JJ false 8) (Sum.elim (fun (x15:Unit)=>some (.inl ())) (fun (x16:Unit)=>some (.inr (.inr 8)))))) (Sum.elim (fun (v9:Unit)=>some (.next ((Ja (s1.1+1)),(Jb s1.2 x4 true)))) (fun o=>some (.done (.inr o))))) (fun (x8:Unit)=>some (.done (.inr (.inr 29))))))
   (some (.done (.inl s1.2)))
noncomputable abbrev m45f7_h0 (p0_:Qo Bs Ent) (p1_:Bs):HB :=
 .cells 35 [dI ((Qy p0_ p1_).kind),dI ((Qy p0_ p1_).decl),dI ((Qy p0_ p1_).item),dI ((Qy p0_ p1_).params),dI (((Qy p0_ p1_).ty).kind),dI (((Qy p0_ p1_).ty).index),J6 (((Qy p0_ p1_).ty).name),dS (((Qy p0_ p1_).ty).levels:List Lvl),dS (((Qy p0_ p1_).ty).kids:List Tm)]
noncomputable abbrev m45f7_h1 (p0_:List Dcl) (p1_:Qo Bs Ent) (p2_:Dcl) (p3_:Int×(Qo Bs Bool)) (p4_:Bs):List (Nat×HB) :=
 [(0,.cells 62 [dS p0_,.mp 1]),(1,.mp (J2 p1_.1) p1_.2),(2,.cells 45 (cE p2_)),(3,.mp (J2 p3_.2.1) p3_.2.2),(4,m45f7_h0 p1_ p4_)]
noncomputable def UJ (a0:Dcl) (a1:List Dcl) (a2:Qo Bs Ent):Option (Unit⊕Int) :=
 Option.bind (m20 a0) fun (x1:(List Bs)) =>
 Option.bind (QE (G7 x1 a2) QU (0,gmNil)) (Sum.elim (fun (o2:(Qo Bs Bool))=>some (.inl ())) (fun o=>some o))
theorem m45f7_ok (a0:Dcl) (a1:List Dcl) (a2:Qo Bs Ent) (r:Unit⊕Int) (h0:UJ a0 a1 a2=some r):CallE Try.prog 45 [.one (.ptr 0 0),.agg (cE a0)] ⟨[(0,.cells 62 [dS a1,.mp 1]),(1,.mp (J2 a2.1) a2.2)],[],2⟩ ((Sum.elim (fun (r0:Unit)=>((.ret []):EK)) (fun (r1:Int)=>((.pan (QT 90 r1)):EK))) r) ⟨((Sum.elim (fun (r0:Unit)=>(⟨[],[(0,.cells 62 [dS a1,.mp 1]),(1,.mp (J2 a2.1) a2.2)],[],4,41,[]⟩:St)) (fun (r1:Int)=>(⟨[],[(0,.cells 62 [dS a1,.mp 1]),(1,.mp (J2 a2.1) a2.2)],[],4,41,[]⟩:St))) r).hp,((Sum.elim (fun (r0:Unit)=>(⟨[],[(0,.cells 62 [dS a1,.mp 1]),(1,.mp (J2 a2.1) a2.2)],[],4,41,[]⟩:St)) (fun (r1:Int)=>(⟨[],[(0,.cells 62 [dS a1,.mp 1]),(1,.mp (J2 a2.1) a2.2)],[],4,41,[]⟩:St))) r).tk,((Sum.elim (fun (r0:Unit)=>(⟨[],[(0,.cells 62 [dS a1,.mp 1]),(1,.mp (J2 a2.1) a2.2)],[],4,41,[]⟩:St)) (fun (r1:Int)=>(⟨[],[(0,.cells 62 [dS a1,.mp 1]),(1,.mp (J2 a2.1) a2.2)],[],4,41,[]⟩:St))) r).nx⟩:=by
 unfold UJ at h0
 refine Y0 r ((Sum.elim (fun (r0:Unit)=>(⟨[],[(0,.cells 62 [dS a1,.mp 1]),(1,.mp (J2 a2.1) a2.2)],[],4,41,[]⟩:St)) (fun (r1:Int)=>(⟨[],[(0,.cells 62 [dS a1,.mp 1]),(1,.mp (J2 a2.1) a2.2)],[],4,41,[]⟩:St)))) ((Sum.elim (fun (r0:Unit)=>((.ret []):EK)) (fun (r1:Int)=>((.pan (QT 90 r1)):EK)))) rfl rfl en_45 (lb rfl) (fun z_=>by cases z_ with
 | inl _=>exact rfl
 | inr _=>exact rfl) (fun z_=>by cases z_ with
 | inl _=>exact (De .nil)
 | inr _=>exact Dn) (fun w0 M V0 Q hv0 hQ0=>?_)
 simp only [J3]
 refine Q4<|Q0<|Qb Z Z (lb Z) (QN Z)<|Q5<|Q3<|Q4<|Q0<|Qb Z Z (lb Z) (OpOK.makeMapG Bs Bool)<|rA Z Z Z<|Q5<|Q3<|Q4<|Q0<|rR Z Z Z (QH (a0:Dcl) Jq Z Z) ?_
 refine Qd h0 (fun x1 hx1 h0=>?_)
 refine Qb Z Z (lb Z) (Qh (m20_ok a0 x1 hx1) Z (.cons (.agg (.cons (.d _) (.cons (.d _) (.cons (.d _) (.cons (.d _) (.cons (.d _) (.cons (.d _) (.cons (.d _) (.cons (.d _) (.cons (.d _) (.cons (.d _) (.cons (.d _) (.cons (.d _) (.cons (.d _) (.cons (.d _) (.cons (.d _) (.cons (.d _) (.cons (.d _) (.cons (.d _) (.cons (.d _) (.cons (.d _) (.cons (.d _) (.cons (.d _) (.cons (.d _) .nil)))))))))))))))))))))))) .nil))<|rR Z Z Z (Qx (α:=Bs) Ye Z (.d _))<|rM Z Z Z<|Q5<|Q3<|Ql ?_
 refine QQ 0 (fun (o2:(Qo Bs Bool))=>⟨[],[(0,.cells 62 [dS a1,.mp 1]),(1,.mp (J2 a2.1) a2.2),(2,.cells 45 (cE a0)),(3,.mp (J2 o2.1) o2.2)],[],4,41,[]⟩) (fun (o2:(Qo Bs Bool))=>(some (.inl ()))=some r) ?_ ?_
 refine Qd h0 (fun o3 hl1 h0=>?_)
 refine QP (G7 x1 a2) (fun s1=>⟨[(0,.v (.one (.ptr 0 0))),(4,.v (.one (.mp 3))),(11,.v (.one (dS x1))),(12,.v (.one (dI (x1.length:Int)))),(13,.v (.one (dI s1.1)))],[(0,.cells 62 [dS a1,.mp 1]),(1,.mp (J2 a2.1) a2.2),(2,.cells 45 (cE a0)),(3,.mp (J2 s1.2.1) s1.2.2)],[],4,41,[]⟩) (0,gmNil) o3 (QV (tA Z) (hA Z) kZ Z (Nat.le_trans hv0 (lb Z)) Z Z Z (bB Z Z (bG Z (bB Z Z (bG Z bZ)))) Z Z) hl1 (fun s1 n1 oo1 h1 ho1=>?_)
 unfold G7 at h1
 refine Q4<|Q0<|rR Z Z Z (Q8 Z Z Z)<|Q5<|Q3<|Q4 ?_
 refine Qe (b:=(decide (s1.1 < (x1.length:Int)))) Z (fun c4=>?_) (fun c4=>?_)
 replace h1:=Qf c4 h1
 refine Qj<|Q3<|Q4<|Ql<|Q4<|Q0 ?_
 refine Qd h1 (fun x5 hx5 h1=>?_)
 refine rR Z Z Z (Qt (α:=Bs) Ye Z (.d _) Z hx5)<|rR Z Z Z (Jj JG Z Z)<|rA Z Z Z<|Q5<|Q3<|Q4<|Q0<|rM Z Z Z ?_
 refine Qd h1 (fun x6 hx6 h1=>?_)
 refine Qb Z Z (lb Z) (Qh (m65_ok x5 x6 hx6) Z (.cons (.one (.d _)) .nil)) ?_
 refine Qd h1 (fun x7 hx7 h1=>?_)
 refine Y7 id hx7 h1 (fun x8 hx8 h1=>?_) (fun x9 hx9 h1=>?_)
 refine Qb Z Z (lb Z) (QL Z Z Z (CallE.m (QI x6 29 (.inl x8) hx8)) Z)<|Q5<|Q3<|Q4<|Q0<|rM Z Z Z<|rR Z Z Z (JB Z)<|rR Z Z Z (Q2 Kj Z)<|rR Z Z Z (Q6 YI Z Z Z)<|rM Z Z Z<|rR Z Z Z (ZM (M:=a2) (k:=x5) Z0 KE Z Z Z)<|rM Z Z Z<|rR Z Z Z (QX Z Z)<|rR Z Z Z (QX Z Z) ?_
 refine Qb Z Z (lb Z) (Qv Z7 Z)<|QC Z Z (Qz J8 Z Z Z Z (lb Z) Z)<|rA Z Z Z<|Q5<|Q3<|Q4 ?_
 refine QD (fun (v10:Unit)=>⟨[(0,.v (.one (.ptr 0 0))),(4,.v (.one (.mp 3))),(6,.v (.one (J6 x5))),(11,.v (.one (dS x1))),(12,.v (.one (dI (x1.length:Int)))),(13,.v (.one (dI s1.1)))],m45f7_h1 a1 a2 a0 s1 x5,[],5,41,[]⟩) (fun (v10:Unit)=>(some (.next ((Ja (s1.1+1)),(Jb s1.2 x5 true))))=some oo1) ?_ ?_
 refine Qd h1 (fun w2_ h2 h1=>?_)
 refine Q0<|rM Z Z Z<|rR Z Z Z (Jc Z)<|rM Z Z Z ?_
 refine Qw (d:=31) (c:=(!(YL a2 x5))) Z (fun c11=>?_) (fun c11=>?_)
 replace h2:=Qf c11 h2
 refine rM Z Z Z<|rM Z Z Z<|rR Z Z Z (RO.lookupGF (M:=s1.2) (k:=x5) mp_80 zok_bool Z Z Z)<|rR Z Z Z (Jc Z)<|rR Z Z Z (Qc Z Z) ?_
 refine Qd h2 (fun x12 hx12 h2=>?_)
 refine Y7 id hx12 h2 (fun x13 hx13 h2=>?_) (fun x14 hx14 h2=>?_)
 refine Qb Z Z (lb Z) (QL Z Z Z (CallE.m (QI (!(Qy s1.2 x5)) 8 (.inl x13) hx13)) Z)<|Q5 ?_
 have e:=sI h2;subst e
 replace h1:=G4 h1
 exact Q9 () (QV (tA Z) (hA Z) kZ Z (Nat.le_trans hv0 (lb Z)) Z Z Z (bB Z Z (bG Z (bB Z Z (bG Z (bA Z))))) Z Z) h1
 refine Jg Z (QS Z Z Z (CallE.d (QI (!(Qy s1.2 x5)) 8 (.inr x14) hx14))) ?_
 have e:=sI h2;subst e
 replace h1:=GA h1
 have e:=sI h1;subst e
 have e_:_=_:=ho1
 subst e_
 try dsimp only [Sum.elim_inl,Sum.elim_inr] at h0
 have e:=sI h0;subst e
 exact Ju (hQ0 (.panic (JE (QT 90 8))) _ K7 Z (show StLe _ _ ⟨[],[(0,.cells 62 [dS a1,.mp 1]),(1,.mp (J2 a2.1) a2.2)],[],4,41,[]⟩ from (QV tZ (hA Z) kZ Z (Nat.le_trans hv0 (lb Z)) Z Z Z (bB Z Z (bG Z bZ)) Z Z))) (fun _ _ h=>h)
 replace h2:=Qg c11 h2
 refine Q7 Z Z<|Q7 Z Z<|Q7 Z Z<|Q7 Z Z<|rR Z Z Z (Qa Z Z) ?_
 refine Qd h2 (fun x15 hx15 h2=>?_)
 refine Y7 id hx15 h2 (fun x16 hx16 h2=>?_) (fun x17 hx17 h2=>?_)
 refine Qb Z Z (lb Z) (QL Z Z Z (CallE.m (QI false 8 (.inl x16) hx16)) Z)<|Q5 ?_
 have e:=sI h2;subst e
 replace h1:=G4 h1
 exact Q9 () (QV (tA Z) (hA Z) kZ Z (Nat.le_trans hv0 (lb Z)) Z Z Z (bB Z Z (bG Z (bB Z Z (bG Z (bA Z))))) Z Z) h1
 refine Jg Z (QS Z Z Z (CallE.d (QI false 8 (.inr x17) hx17))) ?_
 have e:=sI h2;subst e
 replace h1:=GA h1
 have e:=sI h1;subst e
 have e_:_=_:=ho1
 subst e_
 try dsimp only [Sum.elim_inl,Sum.elim_inr] at h0
 have e:=sI h0;subst e
 exact Ju (hQ0 (.panic (JE (QT 90 8))) _ K7 Z (show StLe _ _ ⟨[],[(0,.cells 62 [dS a1,.mp 1]),(1,.mp (J2 a2.1) a2.2)],[],4,41,[]⟩ from (QV tZ (hA Z) kZ Z (Nat.le_trans hv0 (lb Z)) Z Z Z (bB Z Z (bG Z bZ)) Z Z))) (fun _ _ h=>h)
 intro v10 h1
 refine Q3<|Q0<|rM Z Z Z<|rM Z Z Z<|QC Z Z (Jw (M:=s1.2) (k:=x5) (v:=true) mp_80 Z Z Z Z Z)<|Q5<|Qk<|Q3<|Q0<|rR Z Z Z (Q8 Z Z Z)<|rM Z Z Z<|Q5 ?_
 have e:=sI h1;subst e
 refine QJ ((Ja (s1.1+1)),(Jb s1.2 x5 true)) (QV (tA Z) (hA Z) kZ Z (Nat.le_trans hv0 (lb Z)) Z Z Z (bB Z Z (bG Z (bB Z Z (bG Z bZ)))) Z Z) ho1
 refine Jg Z (QS Z Z Z (CallE.d (QI x6 29 (.inr x9) hx9))) ?_
 have e:=sI h1;subst e
 have e_:_=_:=ho1
 subst e_
 try dsimp only [Sum.elim_inl,Sum.elim_inr] at h0
 have e:=sI h0;subst e
 exact Ju (hQ0 (.panic (JE (QT 90 29))) _ K7 Z (show StLe _ _ ⟨[],[(0,.cells 62 [dS a1,.mp 1]),(1,.mp (J2 a2.1) a2.2)],[],4,41,[]⟩ from (QV tZ (hA Z) kZ Z (Nat.le_trans hv0 (lb Z)) Z Z Z (bB Z Z (bG Z bZ)) Z Z))) (fun _ _ h=>h)
 replace h1:=Qg c4 h1
 refine QW<|Qr<|Qr ?_
 have e:=sI h1;subst e
 have e_:_=_:=ho1
 subst e_
 exact QO s1.2 (QV tZ (hA Z) kZ Z (Nat.le_trans hv0 (lb Z)) Z Z Z (bB Z Z (bG Z (bB Z Z (bG Z bZ)))) Z Z) h0
 intro o2 h0
 refine QF ?_
 have e:=sI h0;subst e
 exact hQ0 _ _ DO Z (show StLe _ _ ⟨[],[(0,.cells 62 [dS a1,.mp 1]),(1,.mp (J2 a2.1) a2.2)],[],4,41,[]⟩ from (QV tZ (hA Z) kZ Z (Nat.le_trans hv0 (lb Z)) Z Z Z (bB Z Z (bG Z bZ)) Z Z))
noncomputable def GM (a0:Tm) (rc:Tm×(List Dcl)×(Qo Bs Ent)×(Qo Bs Ent)×Tm→Option (Bool⊕Int)) (a1:List Dcl) (a2:Qo Bs Ent) (a3:Qo Bs Ent) (a4:Tm) (s3:Int):Option (LO Int (Unit⊕(Int⊕Int))) :=
 cond (decide (s3 < (a0.kids.length:Int)))
   (Option.bind (JP a0.kids s3) fun (x12:Tm) =>
 Option.bind (Option.bind (rc (x12,a1,a2,a3,a4)) (Sum.elim (fun (x18:Bool)=>some (.inl (!x18))) (fun (x19:Int)=>some (.inr x19)))) (Sum.elim (fun (y13:Bool)=>cond y13
   (some (.done (.inr (.inl s3))))
   (some (.next (Ja (s3+1))))) (fun (y14:Int)=>some (.done (.inr (.inr y14))))))
   (some (.done (.inl ())))
noncomputable def GN (p0_:Tm) (p1_:Tm×(List Dcl)×(Qo Bs Ent)×(Qo Bs Ent)×Tm→Option (Bool⊕Int)) (p2_:List Dcl) (p3_:Qo Bs Ent) (p4_:Qo Bs Ent) (p5_:Tm):Option (Bool⊕Int) :=
 Option.bind (Option.bind (Option.bind (QE (GM p0_ p1_ p2_ p3_ p4_ p5_) QU 0) (Sum.elim (fun (b0_:Unit)=>some (.inl (-1))) (fun o=>some o))) (Sum.elim (fun (b1_:Int)=>some (.inl (decide (0≤b1_)))) (fun (b2_:Int)=>some (.inr b2_)))) (Sum.elim (fun (b3_:Bool)=>some (.inl (!b3_))) (fun (b4_:Int)=>some (.inr b4_)))
noncomputable abbrev m83f9_h0 :HB :=
 .loop .ready none [(5,.v (.one (.ptr 2 0))),(9,.v (.one (.ptr 5 0))),(23,.v (.one (.fn 82 [(7,0)])))] 53 #[24] Z1 Yv 1
noncomputable abbrev Je (p0_:List Dcl) (p1_:Qo Bs Ent) (p2_:Qo Bs Ent) (p3_:Tm) (p4_:Tm):List (Nat×HB) :=
 [(0,m83f9_h0),(1,.obj (.deferred (some []))),(2,.cells 59 [.ptr 3 0]),(3,.cells 62 [dS p0_,.mp 4]),(4,.mp (J2 p1_.1) p1_.2),(5,.cells 60 [.mp 6]),(6,.mp (J2 p2_.1) p2_.2),(7,.cells 33 (cE p3_)),(8,.cells 33 (cE p4_)),(9,.cells 78 [.yld 0])]
noncomputable abbrev Xp :HB :=
 .loop .busy none [(5,.v (.one (.ptr 2 0))),(9,.v (.one (.ptr 5 0))),(23,.v (.one (.fn 82 [(7,0)])))] 53 #[24] Z1 Yv 1
noncomputable abbrev m83f9_h3 (p0_:List Dcl) (p1_:Qo Bs Ent) (p2_:Qo Bs Ent) (p3_:Tm) (p4_:Tm):List (Nat×HB) :=
 [(0,Xp),(1,.obj (.deferred (some []))),(2,.cells 59 [.ptr 3 0]),(3,.cells 62 [dS p0_,.mp 4]),(4,.mp (J2 p1_.1) p1_.2),(5,.cells 60 [.mp 6]),(6,.mp (J2 p2_.1) p2_.2),(7,.cells 33 (cE p3_)),(8,.cells 33 (cE p4_)),(9,.cells 78 [.yld 0]),(10,.cells 33 (cE p4_))]
noncomputable abbrev m83f9_h4 (p0_:List Dcl) (p1_:Qo Bs Ent) (p2_:Qo Bs Ent) (p3_:Tm) (p4_:Tm):List (Nat×HB) :=
 [(0,m83f9_h0),(1,.obj (.deferred (some []))),(2,.cells 59 [.ptr 3 0]),(3,.cells 62 [dS p0_,.mp 4]),(4,.mp (J2 p1_.1) p1_.2),(5,.cells 60 [.mp 6]),(6,.mp (J2 p2_.1) p2_.2),(7,.cells 33 (cE p3_)),(8,.cells 33 (cE p4_)),(9,.cells 78 [.yld 0]),(10,.cells 33 (cE p4_))]
noncomputable abbrev Jn (p0_:List Dcl) (p1_:Qo Bs Ent) (p2_:Qo Bs Ent) (p3_:Tm) (p4_:Tm):List (Nat×HB) :=
 [(0,Xp),(1,.obj (.deferred (some []))),(2,.cells 59 [.ptr 3 0]),(3,.cells 62 [dS p0_,.mp 4]),(4,.mp (J2 p1_.1) p1_.2),(5,.cells 60 [.mp 6]),(6,.mp (J2 p2_.1) p2_.2),(7,.cells 33 (cE p3_)),(8,.cells 33 (cE p4_)),(9,.cells 78 [.yld 0])]
noncomputable abbrev m83f9_h6 (p0_:Qo Bs Ent) (p1_:Tm):HB :=
 .cells 35 [dI ((Qy p0_ p1_.name).kind),dI ((Qy p0_ p1_.name).decl),dI ((Qy p0_ p1_.name).item),dI ((Qy p0_ p1_.name).params),dI (((Qy p0_ p1_.name).ty).kind),dI (((Qy p0_ p1_.name).ty).index),J6 (((Qy p0_ p1_.name).ty).name),dS (((Qy p0_ p1_.name).ty).levels:List Lvl),dS (((Qy p0_ p1_.name).ty).kids:List Tm)]
noncomputable abbrev m83f9_h7 (p0_:List Dcl) (p1_:Qo Bs Ent) (p2_:Qo Bs Ent) (p3_:Tm) (p4_:Tm):List (Nat×HB) :=
 [(0,Xp),(1,.obj (.deferred (some []))),(2,.cells 59 [.ptr 3 0]),(3,.cells 62 [dS p0_,.mp 4]),(4,.mp (J2 p1_.1) p1_.2),(5,.cells 60 [.mp 6]),(6,.mp (J2 p2_.1) p2_.2),(7,.cells 33 (cE p3_)),(8,.cells 33 (cE p4_)),(9,.cells 78 [.yld 0]),(10,.cells 33 (cE p4_)),(11,m83f9_h6 p1_ p4_)]
noncomputable abbrev Yi (p0_:List Dcl) (p1_:Qo Bs Ent) (p2_:Qo Bs Ent) (p3_:Tm):List (Nat×HB) :=
 [(0,Xp),(1,.obj (.deferred (some []))),(2,.cells 59 [.ptr 3 0]),(3,.cells 62 [dS p0_,.mp 4]),(4,.mp (J2 p1_.1) p1_.2),(5,.cells 60 [.mp 6]),(6,.mp (J2 p2_.1) p2_.2),(7,.cells 33 (cE p3_))]
noncomputable abbrev m83f9_h9 (p0_:Tm) (p1_:Tm):List (Nat×HB) :=
 [(8,.cells 33 (cE p0_)),(9,.cells 78 [.yld 0]),(10,.cells 33 (cE p1_))]
noncomputable abbrev JL (p0_:List Dcl) (p1_:Qo Bs Ent) (p2_:Qo Bs Ent) (p3_:Tm):List (Nat×HB) :=
 [(0,m83f9_h0),(1,.obj (.deferred (some []))),(2,.cells 59 [.ptr 3 0]),(3,.cells 62 [dS p0_,.mp 4]),(4,.mp (J2 p1_.1) p1_.2),(5,.cells 60 [.mp 6]),(6,.mp (J2 p2_.1) p2_.2),(7,.cells 33 (cE p3_))]
noncomputable def WP (rc:Tm×(List Dcl)×(Qo Bs Ent)×(Qo Bs Ent)×Tm→Option (Bool⊕Int)) (a0:Tm) (a1:List Dcl) (a2:Qo Bs Ent) (a3:Qo Bs Ent) (a4:Tm):Option (Bool⊕Int) :=
 Option.bind (cond (a0.kind==3)
   (Option.bind (Option.bind (cond (!(YL a2 a0.name))
   (some ((YL a3 a0.name),(Qy a3 a0.name).kind,(Qy a3 a0.name).decl,(Qy a3 a0.name).item,(Qy a3 a0.name).params,((Qy a3 a0.name).ty).kind,((Qy a3 a0.name).ty).index,((Qy a3 a0.name).ty).name,((Qy a3 a0.name).ty).levels,((Qy a3 a0.name).ty).kids))
   (some ((YL a2 a0.name),(Qy a2 a0.name).kind,(Qy a2 a0.name).decl,(Qy a2 a0.name).item,(Qy a2 a0.name).params,((Qy a2 a0.name).ty).kind,((Qy a2 a0.name).ty).index,((Qy a2 a0.name).ty).name,((Qy a2 a0.name).ty).levels,((Qy a2 a0.name).ty).kids))) (fun (v8:Bool×Int×Int×Int×Int×Int×Int×Bs×(List Lvl)×(List Tm))=>Option.bind (JJ v8.1 9) (Sum.elim (fun (x10:Unit)=>Option.bind (JJ ((a0.levels.length:Int)==v8.2.2.2.2.1) 15) (Sum.elim (fun (x13:Unit)=>some (.inl ())) (fun (x14:Unit)=>some (.inr 15)))) (fun (x11:Unit)=>some (.inr 9))))) (Sum.elim (fun (y3:Unit)=>some (.inl ())) (fun (y4:Int)=>some (.inr (.inr y4)))))
   (some (.inl ()))) (Sum.elim (fun (v1:Unit)=>GN a0 rc a1 a2 a3 a4) (fun o=>some o))
noncomputable def Wd (rc:Tm×(List Dcl)×(Qo Bs Ent)×(Qo Bs Ent)×Tm→Option (Bool⊕Int)) (u:Tm×(List Dcl)×(Qo Bs Ent)×(Qo Bs Ent)×Tm):Option (Bool⊕Int):=WP rc u.1 u.2.1 u.2.2.1 u.2.2.2.1 u.2.2.2.2
noncomputable def m83f9 (a0:Tm) (a1:List Dcl) (a2:Qo Bs Ent) (a3:Qo Bs Ent) (a4:Tm):Option (Bool⊕Int):=JR Wd QU (a0,a1,a2,a3,a4)
theorem m83f9s_ok (rc:Tm×(List Dcl)×(Qo Bs Ent)×(Qo Bs Ent)×Tm→Option (Bool⊕Int)) (H:∀ (a0:Tm) (a1:List Dcl) (a2:Qo Bs Ent) (a3:Qo Bs Ent) (a4:Tm) (r:Bool⊕Int),rc (a0,a1,a2,a3,a4)=some r→CallE Try.prog 83 [.agg (cE a0),.one (.yld 0)] ⟨JL a1 a2 a3 a4,[],8⟩ ((Sum.elim (fun (r0:Bool)=>((.ret [.one (dB r0)]):EK)) (fun (r1:Int)=>((.pan (QT 90 r1)):EK))) r) ⟨((Sum.elim (fun (r0:Bool)=>(⟨[(4,.v (.one (dB r0)))],JL a1 a2 a3 a4,[],10,19,[]⟩:St)) (fun (r1:Int)=>(⟨[],Yi a1 a2 a3 a4,[],12,19,[]⟩:St))) r).hp,((Sum.elim (fun (r0:Bool)=>(⟨[(4,.v (.one (dB r0)))],JL a1 a2 a3 a4,[],10,19,[]⟩:St)) (fun (r1:Int)=>(⟨[],Yi a1 a2 a3 a4,[],12,19,[]⟩:St))) r).tk,((Sum.elim (fun (r0:Bool)=>(⟨[(4,.v (.one (dB r0)))],JL a1 a2 a3 a4,[],10,19,[]⟩:St)) (fun (r1:Int)=>(⟨[],Yi a1 a2 a3 a4,[],12,19,[]⟩:St))) r).nx⟩) (a0:Tm) (a1:List Dcl) (a2:Qo Bs Ent) (a3:Qo Bs Ent) (a4:Tm) (r:Bool⊕Int) (h0:WP rc a0 a1 a2 a3 a4=some r):CallE Try.prog 83 [.agg (cE a0),.one (.yld 0)] ⟨JL a1 a2 a3 a4,[],8⟩ ((Sum.elim (fun (r0:Bool)=>((.ret [.one (dB r0)]):EK)) (fun (r1:Int)=>((.pan (QT 90 r1)):EK))) r) ⟨((Sum.elim (fun (r0:Bool)=>(⟨[(4,.v (.one (dB r0)))],JL a1 a2 a3 a4,[],10,19,[]⟩:St)) (fun (r1:Int)=>(⟨[],Yi a1 a2 a3 a4,[],12,19,[]⟩:St))) r).hp,((Sum.elim (fun (r0:Bool)=>(⟨[(4,.v (.one (dB r0)))],JL a1 a2 a3 a4,[],10,19,[]⟩:St)) (fun (r1:Int)=>(⟨[],Yi a1 a2 a3 a4,[],12,19,[]⟩:St))) r).tk,((Sum.elim (fun (r0:Bool)=>(⟨[(4,.v (.one (dB r0)))],JL a1 a2 a3 a4,[],10,19,[]⟩:St)) (fun (r1:Int)=>(⟨[],Yi a1 a2 a3 a4,[],12,19,[]⟩:St))) r).nx⟩:=by
 unfold WP at h0
 refine Y0 r ((Sum.elim (fun (r0:Bool)=>(⟨[(4,.v (.one (dB r0)))],JL a1 a2 a3 a4,[],10,19,[]⟩:St)) (fun (r1:Int)=>(⟨[],Yi a1 a2 a3 a4,[],12,19,[]⟩:St)))) ((Sum.elim (fun (r0:Bool)=>((.ret [.one (dB r0)]):EK)) (fun (r1:Int)=>((.pan (QT 90 r1)):EK)))) rfl rfl en_83 (lb rfl) (fun z_=>by cases z_ with
 | inl _=>exact rfl
 | inr _=>exact rfl) (fun z_=>by cases z_ with
 | inl _=>exact (De (Qm rfl .nil))
 | inr _=>exact Dn) (fun w0 M V0 Q hv0 hQ0=>?_)
 simp only [J3]
 refine Q4<|Q0<|Qb Z Z (lb Z) (QN Z)<|Qb Z Z (lb Z) (QN Z)<|rA Z Z Z<|Q5<|Q3<|Q4<|Q4 ?_
 refine QD (fun (v1:Unit)=>⟨[(2,.v (.one (.ptr 8 0))),(3,.v (.one (.ptr 9 0))),(13,.v (.one (dB false)))],Je a1 a2 a3 a4 a0,[],10,19,[]⟩) (fun (v1:Unit)=>(GN a0 rc a1 a2 a3 a4)=some r) ?_ ?_
 refine Qd h0 (fun w1_ h1 h0=>?_)
 refine Q0<|rR Z Z Z (Q2 JF Z)<|rR Z Z Z (Q6 QG Z Z Z)<|rR Z Z Z (Q8 Z Z Z)<|rM Z Z Z ?_
 refine Qw (d:=8) (c:=(a0.kind==3)) Z (fun c2=>?_) (fun c2=>?_)
 replace h1:=Qf c2 h1
 refine rR Z Z Z (Q6 ag_78 Z Z Z)<|rR Z Z Z (QH (a0:Tm) QR Z Z) ?_
 refine Qd h1 (fun y5 h2 h1=>?_)
 have ha6:ExecOK Try.prog (some 0) Z1 ⟨[(5,.v (.one (.ptr 2 0))),(9,.v (.one (.ptr 5 0))),(23,.v (.one (.fn 82 [(7,0)]))),(24,.v (.agg (cE a0)))],Je a1 a2 a3 a4 a0,[],10,53,[]⟩ .normal ⟨[(5,.v (.one (.ptr 2 0))),(9,.v (.one (.ptr 5 0))),(11,.v (.one (.ptr 10 0)))],m83f9_h4 a1 a2 a3 a4 a0,[],11,53,[]⟩:=by
  refine QZ (fun w0 M V0 ro n Q hv2 hro2 hQn2=>?_)
  refine Q0<|Qb Z Z (lb Z) (Qv G1 Z)<|QC Z Z (QA (a0:Tm) QR Z Z Z Z Z)<|Q5 ?_
  exact JO hQn2 (QV (tA Z) (hA Z) kZ Z (Nat.le_trans hv2 (lb Z)) Z Z Z (bB Z Z (bB Z Z (bB Z Z (bB Z Z (bG Z (bB Z Z (bG Z (bA Z)))))))) Z Z)
 have hb7:ExecOK Try.prog (some 0) Yv ⟨[(5,.v (.one (.ptr 2 0))),(9,.v (.one (.ptr 5 0))),(11,.v (.one (.ptr 10 0)))],m83f9_h3 a1 a2 a3 a4 a0,[],11,53,[]⟩ ((Sum.elim (fun (_:Unit)=>(.normal:Exit)) (fun (y4:Int)=>((.panic (JE (QT 90 y4))):Exit))) y5) ((Sum.elim (fun (y3:Unit)=>(⟨[],Jn a1 a2 a3 a4 a0,[],12,53,[]⟩:St)) (fun (y4:Int)=>(⟨[],Jn a1 a2 a3 a4 a0,[],12,53,[]⟩:St))) y5):=by
  refine QZ (fun w0 M V0 ro n Q hv2 hro2 hQn2=>?_)
  refine Ql<|Q4 ?_
  refine J4 [10,11] [(0,1),(1,1),(2,1),(3,1),(4,1),(5,1),(6,1),(7,1),(8,1),(9,1),(9,2)] JV (by kernel_rfl) (by kernel_rfl) (by kernel_rfl) ?_
  refine RunA.rd Z Z Z (Q1 (Q6 W6 Z Z Z)) Z<|RunA.rd Z Z Z (Q1 (JB Z)) Z<|RunA.rd Z Z Z (Q1 (Q2 Kj Z)) Z<|RunA.rd Z Z Z (Q1 (Q6 YI Z Z Z)) Z<|RunA.rd Z Z Z (Q1 (Q2 Zb Z)) Z<|RunA.rd Z Z Z (Q1 (Q6 JG Z Z Z)) Z<|RunA.rd Z Z Z (Q1 (ZM (M:=a2) (k:=a0.name) Z0 KE Z Z Z)) Z<|RunA.rd Z Z Z (Q1 (Qq Z)) Z<|RunA.rd Z Z Z (Q1 (QX Z Z)) Z<|RunA.rd Z Z Z (Q1 (QX Z Z)) Z<|RunA.eff Z Z Z (Qv Z7 Z) Z<|RunA.eff Z Z Z (Qz J8 Z Z Z Z (lb Z) Z) Z<|RunA.rd Z Z Z (Q1 (Jd Z)) Z ?_
  refine RunA.nil ⟨?ex,_,_,Z,?_⟩
  case ex=>exact ⟨⟨_,rfl,_,_,rfl,rfl,rfl,.inl ⟨rfl,_,Q1 (Q6 W6 rfl rfl rfl),rfl⟩⟩,⟨_,rfl,_,_,rfl,rfl,rfl,.inl ⟨rfl,_,Q1 (JB rfl),rfl⟩⟩,⟨_,rfl,_,_,rfl,rfl,rfl,.inl ⟨rfl,_,Q1 (Q2 Kj rfl),rfl⟩⟩,⟨_,rfl,_,_,rfl,rfl,rfl,.inl ⟨rfl,_,Q1 (Q6 YI rfl rfl rfl),rfl⟩⟩,⟨_,rfl,_,_,rfl,rfl,rfl,.inl ⟨rfl,_,Q1 (Q2 Zb rfl),rfl⟩⟩,⟨_,rfl,_,_,rfl,rfl,rfl,.inl ⟨rfl,_,Q1 (Q6 JG rfl rfl rfl),rfl⟩⟩,⟨_,rfl,_,_,rfl,rfl,rfl,.inl ⟨rfl,_,Q1 (ZM (M:=a2) (k:=a0.name) Z0 KE rfl rfl rfl),rfl⟩⟩,⟨_,rfl,_,_,rfl,rfl,rfl,.inl ⟨rfl,_,Q1 (Qq rfl),rfl⟩⟩,⟨_,rfl,_,_,rfl,rfl,rfl,.inl ⟨rfl,_,Q1 (QX rfl rfl),rfl⟩⟩,⟨_,rfl,_,_,rfl,rfl,rfl,.inl ⟨rfl,_,Q1 (QX rfl rfl),rfl⟩⟩,⟨_,rfl,_,_,rfl,rfl,rfl,.inl ⟨rfl,_,Q1 (QX rfl rfl),rfl⟩⟩,trivial⟩
  refine Jp (st':=⟨[(9,.v (.one (.ptr 5 0))),(11,.v (.one (.ptr 10 0))),(12,.v (.one (.ptr 11 0))),(13,.v (.one (dB (YL a2 a0.name))))],m83f9_h7 a1 a2 a3 a4 a0,[],12,53,[]⟩) (QV (tA Z) (hA Z) kZ Z (Nat.le_trans hv2 (lb Z)) Z Z Z (bB Z Z (bB Z Z (bB Z Z (bB Z Z (bG Z (bB Z Z (bG Z (bA Z)))))))) Z Z)<|Q3<|Q4<|Q4<|Q0<|rM Z Z Z<|rR Z Z Z (Jc Z)<|Q5<|Q3 ?_
  refine QD (fun (v8:Bool×Int×Int×Int×Int×Int×Int×Bs×(List Lvl)×(List Tm))=>⟨[(11,.v (.one (.ptr 10 0))),(12,.v (.one (.ptr 11 0))),(13,.v (.one (dB v8.1)))],[(0,Xp),(1,.obj (.deferred (some []))),(2,.cells 59 [.ptr 3 0]),(3,.cells 62 [dS a1,.mp 4]),(4,.mp (J2 a2.1) a2.2),(5,.cells 60 [.mp 6]),(6,.mp (J2 a3.1) a3.2),(7,.cells 33 (cE a4)),(8,.cells 33 (cE a0)),(9,.cells 78 [.yld 0]),(10,.cells 33 (cE a0)),(11,.cells 35 [dI v8.2.1,dI v8.2.2.1,dI v8.2.2.2.1,dI v8.2.2.2.2.1,dI v8.2.2.2.2.2.1,dI v8.2.2.2.2.2.2.1,J6 v8.2.2.2.2.2.2.2.1,dS v8.2.2.2.2.2.2.2.2.1,dS v8.2.2.2.2.2.2.2.2.2])],[],12,53,[]⟩) (fun (v8:Bool×Int×Int×Int×Int×Int×Int×Bs×(List Lvl)×(List Tm))=>(Option.bind (JJ v8.1 9) (Sum.elim (fun (x10:Unit)=>Option.bind (JJ ((a0.levels.length:Int)==v8.2.2.2.2.1) 15) (Sum.elim (fun (x13:Unit)=>some (.inl ())) (fun (x14:Unit)=>some (.inr 15)))) (fun (x11:Unit)=>some (.inr 9))))=some y5) ?_ ?_
  refine Qd h2 (fun w3_ h3 h2=>?_)
  refine Qe (b:=(!(YL a2 a0.name))) Z (fun c9=>?_) (fun c9=>?_)
  replace h3:=Qf c9 h3
  refine Q0<|rR Z Z Z (Q6 YI Z Z Z)<|rR Z Z Z (Q2 Zb Z)<|rR Z Z Z (Q6 JG Z Z Z)<|rR Z Z Z (ZM (M:=a3) (k:=a0.name) Z0 KE Z Z Z)<|rM Z Z Z<|rR Z Z Z (QX Z Z)<|rR Z Z Z (QX Z Z)<|QC Z Z (Qz J8 Z Z Z Z (lb Z) Z)<|rA Z Z Z<|Q5 ?_
  have e:=sI h3;subst e
  exact Q9 ((YL a3 a0.name),(Qy a3 a0.name).kind,(Qy a3 a0.name).decl,(Qy a3 a0.name).item,(Qy a3 a0.name).params,((Qy a3 a0.name).ty).kind,((Qy a3 a0.name).ty).index,((Qy a3 a0.name).ty).name,((Qy a3 a0.name).ty).levels,((Qy a3 a0.name).ty).kids) (QV (tA Z) (hA Z) kZ Z (Nat.le_trans hv2 (lb Z)) Z Z Z (bB Z Z (bB Z Z (bB Z Z (bB Z Z (bG Z (bB Z Z (bG Z (bA Z)))))))) Z Z) h2
  replace h3:=Qg c9 h3
  refine Qj ?_
  have e:=sI h3;subst e
  exact Q9 ((YL a2 a0.name),(Qy a2 a0.name).kind,(Qy a2 a0.name).decl,(Qy a2 a0.name).item,(Qy a2 a0.name).params,((Qy a2 a0.name).ty).kind,((Qy a2 a0.name).ty).index,((Qy a2 a0.name).ty).name,((Qy a2 a0.name).ty).levels,((Qy a2 a0.name).ty).kids) (QV (tA Z) (hA Z) kZ Z (Nat.le_trans hv2 (lb Z)) Z Z Z (bB Z Z (bB Z Z (bB Z Z (bB Z Z (bG Z (bB Z Z (bG Z (bA Z)))))))) Z Z) h2
  intro v8 h2
  refine Q3<|Q4<|Q0<|rM Z Z Z ?_
  refine Qd h2 (fun x10 hx10 h2=>?_)
  refine Y7 id hx10 h2 (fun x11 hx11 h2=>?_) (fun x12 hx12 h2=>?_)
  refine Qb Z Z (lb Z) (QL Z Z Z (CallE.m (QI v8.1 9 (.inl x11) hx11)) Z)<|Q5<|Q3<|Q0<|rR Z Z Z (Q2 Yy Z)<|rR Z Z Z (Q6 K4 Z Z Z)<|rR Z Z Z (Qx (α:=Lvl) YV Z (.d _))<|rR Z Z Z (Q2 XZ Z)<|rR Z Z Z (Q6 QG Z Z Z)<|rR Z Z Z (Q8 Z Z Z) ?_
  refine Qd h2 (fun x13 hx13 h2=>?_)
  refine Y7 id hx13 h2 (fun x14 hx14 h2=>?_) (fun x15 hx15 h2=>?_)
  refine Qb Z Z (lb Z) (QL Z Z Z (CallE.m (QI ((a0.levels.length:Int)==v8.2.2.2.2.1) 15 (.inl x14) hx14)) Z)<|Q5<|Qk ?_
  have e:=sI h2;subst e
  exact JO (e:=.normal) (st':=⟨[],Jn a1 a2 a3 a4 a0,[],12,53,[]⟩) hQn2 (QV tZ (hA Z) kZ Z (Nat.le_trans hv2 (lb Z)) Z Z Z (bB Z Z (bB Z Z (bB Z Z (bB Z Z (bG Z (bB Z Z (bG Z (bA Z)))))))) Z Z)
  refine Jg Z (QS Z Z Z (CallE.d (QI ((a0.levels.length:Int)==v8.2.2.2.2.1) 15 (.inr x15) hx15))) ?_
  have e:=sI h2;subst e
  exact Ju (JO (e:=(.panic (JE (QT 90 15)))) (st':=⟨[],Jn a1 a2 a3 a4 a0,[],12,53,[]⟩) hQn2 (QV tZ (hA Z) kZ Z (Nat.le_trans hv2 (lb Z)) Z Z Z (bB Z Z (bB Z Z (bB Z Z (bB Z Z (bG Z (bB Z Z (bG Z (bA Z)))))))) Z Z)) (fun _ _ h=>h)
  refine Jg Z (QS Z Z Z (CallE.d (QI v8.1 9 (.inr x12) hx12))) ?_
  have e:=sI h2;subst e
  exact Ju (JO (e:=(.panic (JE (QT 90 9)))) (st':=⟨[],Jn a1 a2 a3 a4 a0,[],12,53,[]⟩) hQn2 (QV tZ (hA Z) kZ Z (Nat.le_trans hv2 (lb Z)) Z Z Z (bB Z Z (bB Z Z (bB Z Z (bB Z Z (bG Z (bB Z Z (bG Z (bA Z)))))))) Z Z)) (fun _ _ h=>h)
 refine WM (C:=fun q_=>ExecOK Try.prog (some 0) Yv ⟨[(5,.v (.one (.ptr 2 0))),(9,.v (.one (.ptr 5 0))),(11,.v (.one (.ptr 10 0)))],m83f9_h3 a1 a2 a3 a4 a0,[],11,53,[]⟩ ((Sum.elim (fun (_:Unit)=>(.normal:Exit)) (fun (y4:Int)=>((.panic (JE (QT 90 y4))):Exit))) q_) ((Sum.elim (fun (y3:Unit)=>(⟨[],Jn a1 a2 a3 a4 a0,[],12,53,[]⟩:St)) (fun (y4:Int)=>(⟨[],Jn a1 a2 a3 a4 a0,[],12,53,[]⟩:St))) q_)) hb7 h1 (fun y3 hb7 h1=>?_) (fun y4 hb7 h1=>?_)
 replace hb7:ExecOK Try.prog (some 0) Yv ⟨[(5,.v (.one (.ptr 2 0))),(9,.v (.one (.ptr 5 0))),(11,.v (.one (.ptr 10 0)))],m83f9_h3 a1 a2 a3 a4 a0,[],11,53,[]⟩ .normal ⟨[],Jn a1 a2 a3 a4 a0,[],12,53,[]⟩:=hb7
 refine Qb Z Z (lb Z) (Jm (jump:=none) Z Z Z Z Z (QK ha6 (fun E hv=>(QV (tA Z) (hA Z) kZ Z (Nat.le_trans hv (lb Z)) Z Z Z (bB Z Z (bB Z Z (bB Z Z (bB Z Z (bG Z (bB Z Z (bG Z (bA Z)))))))) Z Z))) Z (QK hb7 (fun E hv=>(QV (tA Z) (hA Z) kZ Z (Nat.le_trans hv (lb Z)) Z Z Z (bB Z Z (bB Z Z (bB Z Z (bB Z Z (bG Z (bB Z Z (bG Z (bA Z)))))))) Z Z))) Z Z) ?_
 refine rR Z Z Z (Jc Z)<|rR Z Z Z (Qc Z Z)<|Q5 ?_
 have e:=sI h1;subst e
 replace h0:=G4 h0
 exact Q9 () (QV (tA Z) (hA Z) kZ Z (Nat.le_trans hv0 (lb Z)) Z Z Z (bB Z Z (bB Z Z (bB Z Z (bB Z Z (bG Z (bB Z Z (bG Z (bA Z)))))))) Z Z) h0
 replace hb7:ExecOK Try.prog (some 0) Yv ⟨[(5,.v (.one (.ptr 2 0))),(9,.v (.one (.ptr 5 0))),(11,.v (.one (.ptr 10 0)))],m83f9_h3 a1 a2 a3 a4 a0,[],11,53,[]⟩ (.panic (JE (QT 90 y4))) ⟨[],Jn a1 a2 a3 a4 a0,[],12,53,[]⟩:=hb7
 refine Jg Z (OpD.yield Z Z Z Z Z (QK ha6 (fun E hv=>(QV (tA Z) (hA Z) kZ Z (Nat.le_trans hv (lb Z)) Z Z Z (bB Z Z (bB Z Z (bB Z Z (bB Z Z (bG Z (bB Z Z (bG Z (bA Z)))))))) Z Z))) Z (QK hb7 (fun E hv=>(QV (tA Z) (hA Z) kZ Z (Nat.le_trans hv (lb Z)) Z Z Z (bB Z Z (bB Z Z (bB Z Z (bB Z Z (bG Z (bB Z Z (bG Z (bA Z)))))))) Z Z))) Z Z) ?_
 have e:=sI h1;subst e
 replace h0:=GA h0
 have e:=sI h0;subst e
 exact Ju (hQ0 (.panic (JE (QT 90 y4))) _ K7 Z (show StLe _ _ ⟨[],Yi a1 a2 a3 a4,[],12,19,[]⟩ from (QV tZ (hA Z) kZ Z (Nat.le_trans hv0 (lb Z)) Z Z Z (bB Z Z (bB Z Z (bB Z Z (bB Z Z (bG Z (bB Z Z (bG Z (bA Z)))))))) Z Z))) (fun _ _ h=>h)
 replace h1:=Qg c2 h1
 refine Q7 Z Z<|Q7 Z Z<|Q7 Z Z<|Q7 Z Z<|rR Z Z Z (Qa Z Z)<|Q5 ?_
 have e:=sI h1;subst e
 replace h0:=G4 h0
 exact Q9 () (QV (tA Z) (hA Z) kZ Z (Nat.le_trans hv0 (lb Z)) Z Z Z (bB Z Z (bB Z Z (bB Z Z (bB Z Z (bG Z (bB Z Z (bG Z (bA Z)))))))) Z Z) h0
 intro v1 h0
 unfold GN at h0
 refine Q3 ?_
 refine Qe Z (fun h=>nomatch h) (fun _=>?_)
 refine Qj<|Q3<|Q4<|Q0<|rR Z Z Z (Q2 Jv Z)<|rR Z Z Z (Q6 JH Z Z Z)<|rR Z Z Z (K5 Z) ?_
 refine Qd h0 (fun y19 h1 h0=>?_)
 have hc18:CallE Try.prog 98 [.one (dS a0.kids),.one (.fn 99 [(9,0)])] ⟨Je a1 a2 a3 a4 a0,[],10⟩ (((Sum.elim (fun (y16:Bool)=>((.ret [.one (dB y16)]):EK)) (fun (y17:Int)=>((.pan (QT 90 y17)):EK)))) y19) ⟨(((Sum.elim (fun (y16:Bool)=>(⟨[(4,.v (.one (dB y16)))],Je a1 a2 a3 a4 a0,[],10,9,[]⟩:St)) (fun (y17:Int)=>(⟨[],Jn a1 a2 a3 a4 a0,[],15,9,[]⟩:St)))) y19).hp,(((Sum.elim (fun (y16:Bool)=>(⟨[(4,.v (.one (dB y16)))],Je a1 a2 a3 a4 a0,[],10,9,[]⟩:St)) (fun (y17:Int)=>(⟨[],Jn a1 a2 a3 a4 a0,[],15,9,[]⟩:St)))) y19).tk,(((Sum.elim (fun (y16:Bool)=>(⟨[(4,.v (.one (dB y16)))],Je a1 a2 a3 a4 a0,[],10,9,[]⟩:St)) (fun (y17:Int)=>(⟨[],Jn a1 a2 a3 a4 a0,[],15,9,[]⟩:St)))) y19).nx⟩:=by
  refine Y0 y19 ((Sum.elim (fun (y16:Bool)=>(⟨[(4,.v (.one (dB y16)))],Je a1 a2 a3 a4 a0,[],10,9,[]⟩:St)) (fun (y17:Int)=>(⟨[],Jn a1 a2 a3 a4 a0,[],15,9,[]⟩:St)))) ((Sum.elim (fun (y16:Bool)=>((.ret [.one (dB y16)]):EK)) (fun (y17:Int)=>((.pan (QT 90 y17)):EK)))) rfl rfl en_98 (lb rfl) (fun z_=>by cases z_ with
    | inl _=>exact rfl
    | inr _=>exact rfl) (fun z_=>by cases z_ with
    | inl _=>exact (De (Qm rfl .nil))
    | inr _=>exact Dn) (fun w0 M V0 Q hv1 hQ1=>?_)
  simp only [J3]
  refine Q4<|Q0<|rA Z Z Z<|Q5<|Q3<|Q4<|Q0<|rM Z Z Z<|rM Z Z Z ?_
  refine Qd h1 (fun y23 h2 h1=>?_)
  have hc22:CallE Try.prog 104 [.one (dS a0.kids),.one (.fn 99 [(9,0)])] ⟨Je a1 a2 a3 a4 a0,[],10⟩ (((Sum.elim (fun (y20:Int)=>((.ret [.one (dI y20)]):EK)) (fun (y21:Int)=>((.pan (QT 90 y21)):EK)))) y23) ⟨(((Sum.elim (fun (y20:Int)=>(⟨[(4,.v (.one (dI y20)))],Je a1 a2 a3 a4 a0,[],10,19,[]⟩:St)) (fun (y21:Int)=>(⟨[],Jn a1 a2 a3 a4 a0,[],15,19,[]⟩:St)))) y23).hp,(((Sum.elim (fun (y20:Int)=>(⟨[(4,.v (.one (dI y20)))],Je a1 a2 a3 a4 a0,[],10,19,[]⟩:St)) (fun (y21:Int)=>(⟨[],Jn a1 a2 a3 a4 a0,[],15,19,[]⟩:St)))) y23).tk,(((Sum.elim (fun (y20:Int)=>(⟨[(4,.v (.one (dI y20)))],Je a1 a2 a3 a4 a0,[],10,19,[]⟩:St)) (fun (y21:Int)=>(⟨[],Jn a1 a2 a3 a4 a0,[],15,19,[]⟩:St)))) y23).nx⟩:=by
   refine Y0 y23 ((Sum.elim (fun (y20:Int)=>(⟨[(4,.v (.one (dI y20)))],Je a1 a2 a3 a4 a0,[],10,19,[]⟩:St)) (fun (y21:Int)=>(⟨[],Jn a1 a2 a3 a4 a0,[],15,19,[]⟩:St)))) ((Sum.elim (fun (y20:Int)=>((.ret [.one (dI y20)]):EK)) (fun (y21:Int)=>((.pan (QT 90 y21)):EK)))) rfl rfl en_104 (lb rfl) (fun z_=>by cases z_ with
     | inl _=>exact rfl
     | inr _=>exact rfl) (fun z_=>by cases z_ with
     | inl _=>exact (De (Qm rfl .nil))
     | inr _=>exact Dn) (fun w0 M V0 Q hv2 hQ2=>?_)
   simp only [J3]
   refine Q4<|Q0<|rA Z Z Z<|Q5<|Q3<|Q4<|Q4<|Q0<|rM Z Z Z<|rR Z Z Z (Qx (α:=Tm) Jk Z (.d _))<|rM Z Z Z<|Q5<|Q3<|Ql ?_
   refine QQ 0 (fun (o24:Unit)=>⟨[],Je a1 a2 a3 a4 a0,[],10,19,[]⟩) (fun (o24:Unit)=>(some (.inl (-1)))=some y23) ?_ ?_
   refine Qd h2 (fun o25 hl3 h2=>?_)
   refine QP (GM a0 rc a1 a2 a3 a4) (fun s3=>⟨[(0,.v (.one (dS a0.kids))),(1,.v (.one (.fn 99 [(9,0)]))),(7,.v (.one (dI (a0.kids.length:Int)))),(8,.v (.one (dI s3)))],Je a1 a2 a3 a4 a0,[],10,19,[]⟩) 0 o25 (QV (tA Z) (hA Z) kZ Z (Nat.le_trans hv2 (lb Z)) Z Z Z (bB Z Z (bB Z Z (bB Z Z (bB Z Z (bG Z (bB Z Z (bG Z (bA Z)))))))) Z Z) hl3 (fun s3 n3 oo3 h3 ho3=>?_)
   unfold GM at h3
   refine Q4<|Q0<|rR Z Z Z (Q8 Z Z Z)<|Q5<|Q3<|Q4 ?_
   refine Qe (b:=(decide (s3 < (a0.kids.length:Int)))) Z (fun c26=>?_) (fun c26=>?_)
   replace h3:=Qf c26 h3
   refine Qj<|Q3<|Q4<|Ql<|Q4<|Q0<|rM Z Z Z<|rA Z Z Z<|Q5<|Q3<|Q4<|Q0<|rM Z Z Z<|rM Z Z Z ?_
   refine rM Z Z Z ?_
   refine Qd h3 (fun x27 hx27 h3=>?_)
   refine rR Z Z Z (Qt (α:=Tm) Jk Z (.d _) Z hx27)<|rR Z Z Z (Qu (x27:Tm) QR Z) ?_
   refine Qd h3 (fun y31 h4 h3=>?_)
   have hc30:CallE Try.prog 99 [.agg (cE x27),.one (.ptr 9 0)] ⟨Je a1 a2 a3 a4 a0,[],10⟩ (((Sum.elim (fun (y28:Bool)=>((.ret [.one (dB y28)]):EK)) (fun (y29:Int)=>((.pan (QT 90 y29)):EK)))) y31) ⟨(((Sum.elim (fun (y28:Bool)=>(⟨[(3,.v (.one (dB y28)))],Je a1 a2 a3 a4 a0,[],13,8,[]⟩:St)) (fun (y29:Int)=>(⟨[],Jn a1 a2 a3 a4 a0,[],15,8,[]⟩:St)))) y31).hp,(((Sum.elim (fun (y28:Bool)=>(⟨[(3,.v (.one (dB y28)))],Je a1 a2 a3 a4 a0,[],13,8,[]⟩:St)) (fun (y29:Int)=>(⟨[],Jn a1 a2 a3 a4 a0,[],15,8,[]⟩:St)))) y31).tk,(((Sum.elim (fun (y28:Bool)=>(⟨[(3,.v (.one (dB y28)))],Je a1 a2 a3 a4 a0,[],13,8,[]⟩:St)) (fun (y29:Int)=>(⟨[],Jn a1 a2 a3 a4 a0,[],15,8,[]⟩:St)))) y31).nx⟩:=by
    refine Y0 y31 ((Sum.elim (fun (y28:Bool)=>(⟨[(3,.v (.one (dB y28)))],Je a1 a2 a3 a4 a0,[],13,8,[]⟩:St)) (fun (y29:Int)=>(⟨[],Jn a1 a2 a3 a4 a0,[],15,8,[]⟩:St)))) ((Sum.elim (fun (y28:Bool)=>((.ret [.one (dB y28)]):EK)) (fun (y29:Int)=>((.pan (QT 90 y29)):EK)))) rfl rfl en_99 (lb rfl) (fun z_=>by cases z_ with
      | inl _=>exact rfl
      | inr _=>exact rfl) (fun z_=>by cases z_ with
      | inl _=>exact (De (Qm rfl .nil))
      | inr _=>exact Dn) (fun w0 M V0 Q hv4 hQ4=>?_)
    simp only [J3]
    refine Q4<|Q0<|Qb Z Z (lb Z) (QN Z)<|rA Z Z Z<|Q5<|Q3<|Q4<|Q0<|rR Z Z Z (QH (x27:Tm) QR Z Z)<|rR Z Z Z (Q6 ag_78 Z Z Z) ?_
    refine Qd h4 (fun x32 hx32 h4=>?_)
    refine Y7 id hx32 h4 (fun x33 hx33 h4=>?_) (fun x34 hx34 h4=>?_)
    refine Qb Z Z (lb Z) (JC (hp1':=[(0,.loop .ready none [(5,.v (.one (.ptr 2 0))),(9,.v (.one (.ptr 5 0))),(23,.v (.one (.fn 82 [(7,0)])))] 53 #[24] Z1 Yv 1),(1,.obj (.deferred (some []))),(2,.cells 59 [.ptr 3 0]),(3,.cells 62 [dS a1,.mp 4]),(4,.mp (J2 a2.1) a2.2),(5,.cells 60 [.mp 6]),(6,.mp (J2 a3.1) a3.2),(7,.cells 33 (cE a4))]) (tk1':=[]) (hpF:=m83f9_h9 a0 x27) (tkF:=[]) (res2:=QM [.one (dB x33)]) (nx2:=13) [0,1,2,3,4,5,6,7] Z Z (CallE.m (H x27 a1 a2 a3 a4 (.inl x33) hx33)) Z Z (qB Z Z (qB Z Z (qB Z Z (qB Z Z (qG Z (qB Z Z (qG Z (qB Z Z qZ)))))))) Z Z (gR Z (gR Z (gR Z (gR Z (gG Z (gR Z (gG Z (gR Z gZ)))))))) jZ (hA Z) kZ Z Z Z Z Z (bB Z Z (bB Z Z (bB Z Z (bB Z Z (bG Z (bB Z Z (bG Z (bA Z)))))))) Z Z Z Z)<|rR Z Z Z (Jc Z)<|rA Z Z Z<|Q5<|Q3<|Qp ?_
    have e:=sI h4;subst e
    exact hQ4 _ _ DF Z (show StLe _ _ ⟨[(3,.v (.one (dB (!x33))))],Je a1 a2 a3 a4 a0,[],13,8,[]⟩ from (QV (tA Z) (hA Z) kZ Z (Nat.le_trans hv4 (lb Z)) Z Z Z (bB Z Z (bB Z Z (bB Z Z (bB Z Z (bG Z (bB Z Z (bG Z (bA Z)))))))) Z Z))
    refine Jg Z (YD (hp1':=[(0,.loop .busy none [(5,.v (.one (.ptr 2 0))),(9,.v (.one (.ptr 5 0))),(23,.v (.one (.fn 82 [(7,0)])))] 53 #[24] Z1 Yv 1),(1,.obj (.deferred (some []))),(2,.cells 59 [.ptr 3 0]),(3,.cells 62 [dS a1,.mp 4]),(4,.mp (J2 a2.1) a2.2),(5,.cells 60 [.mp 6]),(6,.mp (J2 a3.1) a3.2),(7,.cells 33 (cE a4))]) (tk1':=[]) (hpF:=m83f9_h9 a0 x27) (tkF:=[]) (nx2:=15) [0,1,2,3,4,5,6,7] Z Z (CallE.d (H x27 a1 a2 a3 a4 (.inr x34) hx34)) Z Z (qB Z Z (qB Z Z (qB Z Z (qB Z Z (qG Z (qB Z Z (qG Z (qB Z Z qZ)))))))) Z (gR Z (gR Z (gR Z (gR Z (gG Z (gR Z (gG Z (gR Z gZ)))))))) jZ (hA Z) kZ Z Z Z Z Z (bB Z Z (bB Z Z (bB Z Z (bB Z Z (bG Z (bB Z Z (bG Z (bA Z)))))))) Z Z Z Z) ?_
    have e:=sI h4;subst e
    exact Ju (hQ4 (.panic (JE (QT 90 x34))) _ K7 Z (show StLe _ _ ⟨[],Jn a1 a2 a3 a4 a0,[],15,8,[]⟩ from (QV tZ (hA Z) kZ Z (Nat.le_trans hv4 (lb Z)) Z Z Z (bB Z Z (bB Z Z (bB Z Z (bB Z Z (bG Z (bB Z Z (bG Z (bA Z)))))))) Z Z))) (fun _ _ h=>h)
   refine WM (C:=fun q_=>CallE Try.prog 99 [.agg (cE x27),.one (.ptr 9 0)] ⟨Je a1 a2 a3 a4 a0,[],10⟩ (((Sum.elim (fun (y28:Bool)=>((.ret [.one (dB y28)]):EK)) (fun (y29:Int)=>((.pan (QT 90 y29)):EK)))) q_) ⟨(((Sum.elim (fun (y28:Bool)=>(⟨[(3,.v (.one (dB y28)))],Je a1 a2 a3 a4 a0,[],13,8,[]⟩:St)) (fun (y29:Int)=>(⟨[],Jn a1 a2 a3 a4 a0,[],15,8,[]⟩:St)))) q_).hp,(((Sum.elim (fun (y28:Bool)=>(⟨[(3,.v (.one (dB y28)))],Je a1 a2 a3 a4 a0,[],13,8,[]⟩:St)) (fun (y29:Int)=>(⟨[],Jn a1 a2 a3 a4 a0,[],15,8,[]⟩:St)))) q_).tk,(((Sum.elim (fun (y28:Bool)=>(⟨[(3,.v (.one (dB y28)))],Je a1 a2 a3 a4 a0,[],13,8,[]⟩:St)) (fun (y29:Int)=>(⟨[],Jn a1 a2 a3 a4 a0,[],15,8,[]⟩:St)))) q_).nx⟩) hc30 h3 (fun y28 hc30 h3=>?_) (fun y29 hc30 h3=>?_)
   replace hc30:CallM Try.prog 99 [.agg (cE x27),.one (.ptr 9 0)] ⟨Je a1 a2 a3 a4 a0,[],10⟩ (QM [.one (dB y28)]) ⟨Je a1 a2 a3 a4 a0,[],13⟩:=hc30
   refine Qb Z Z (lb Z) (Yf Z Z Z hc30 Z (hA Z) kZ)<|Q5<|Q3 ?_
   refine Qe (b:=y28) Z (fun c35=>?_) (fun c35=>?_)
   replace h3:=Qf c35 h3
   refine Q4<|Q0<|rM Z Z Z<|rA Z Z Z<|Q5<|Q3<|Qp ?_
   have e:=sI h3;subst e
   have e_:_=_:=ho3
   subst e_
   try dsimp only [Sum.elim_inl,Sum.elim_inr] at h2
   have e:=sI h2;subst e
   exact hQ2 _ _ DF Z (show StLe _ _ ⟨[(4,.v (.one (dI s3)))],Je a1 a2 a3 a4 a0,[],10,19,[]⟩ from (QV (tA Z) (hA Z) kZ Z (Nat.le_trans hv2 (lb Z)) Z Z Z (bB Z Z (bB Z Z (bB Z Z (bB Z Z (bG Z (bB Z Z (bG Z (bA Z)))))))) Z Z))
   replace h3:=Qg c35 h3
   refine Qj<|Qk<|Q3<|Q0<|rR Z Z Z (Q8 Z Z Z)<|rM Z Z Z<|Q5 ?_
   have e:=sI h3;subst e
   refine QJ (Ja (s3+1)) (QV (tA Z) (hA Z) kZ Z (Nat.le_trans hv2 (lb Z)) Z Z Z (bB Z Z (bB Z Z (bB Z Z (bB Z Z (bG Z (bB Z Z (bG Z (bA Z)))))))) Z Z) ho3
   replace hc30:W8 Try.prog 99 [.agg (cE x27),.one (.ptr 9 0)] ⟨Je a1 a2 a3 a4 a0,[],10⟩ (QT 90 y29) ⟨Jn a1 a2 a3 a4 a0,[],15⟩:=hc30
   refine Jg Z (OpD.callW Z Z Z hc30 Z (hA Z) kZ) ?_
   have e:=sI h3;subst e
   have e_:_=_:=ho3
   subst e_
   try dsimp only [Sum.elim_inl,Sum.elim_inr] at h2
   have e:=sI h2;subst e
   exact Ju (hQ2 (.panic (JE (QT 90 y29))) _ K7 Z (show StLe _ _ ⟨[],Jn a1 a2 a3 a4 a0,[],15,19,[]⟩ from (QV tZ (hA Z) kZ Z (Nat.le_trans hv2 (lb Z)) Z Z Z (bB Z Z (bB Z Z (bB Z Z (bB Z Z (bG Z (bB Z Z (bG Z (bA Z)))))))) Z Z))) (fun _ _ h=>h)
   replace h3:=Qg c26 h3
   refine QW<|Qr<|Qr ?_
   have e:=sI h3;subst e
   have e_:_=_:=ho3
   subst e_
   exact QO () (QV tZ (hA Z) kZ Z (Nat.le_trans hv2 (lb Z)) Z Z Z (bB Z Z (bB Z Z (bB Z Z (bB Z Z (bG Z (bB Z Z (bG Z (bA Z)))))))) Z Z) h2
   intro o24 h2
   refine QF<|Q3<|Q4<|Q0<|rA Z Z Z<|Q5<|Q3<|Qp ?_
   have e:=sI h2;subst e
   exact hQ2 _ _ DF Z (show StLe _ _ ⟨[(4,.v (.one (dI (-1))))],Je a1 a2 a3 a4 a0,[],10,19,[]⟩ from (QV (tA Z) (hA Z) kZ Z (Nat.le_trans hv2 (lb Z)) Z Z Z (bB Z Z (bB Z Z (bB Z Z (bB Z Z (bG Z (bB Z Z (bG Z (bA Z)))))))) Z Z))
  refine WM (C:=fun q_=>CallE Try.prog 104 [.one (dS a0.kids),.one (.fn 99 [(9,0)])] ⟨Je a1 a2 a3 a4 a0,[],10⟩ (((Sum.elim (fun (y20:Int)=>((.ret [.one (dI y20)]):EK)) (fun (y21:Int)=>((.pan (QT 90 y21)):EK)))) q_) ⟨(((Sum.elim (fun (y20:Int)=>(⟨[(4,.v (.one (dI y20)))],Je a1 a2 a3 a4 a0,[],10,19,[]⟩:St)) (fun (y21:Int)=>(⟨[],Jn a1 a2 a3 a4 a0,[],15,19,[]⟩:St)))) q_).hp,(((Sum.elim (fun (y20:Int)=>(⟨[(4,.v (.one (dI y20)))],Je a1 a2 a3 a4 a0,[],10,19,[]⟩:St)) (fun (y21:Int)=>(⟨[],Jn a1 a2 a3 a4 a0,[],15,19,[]⟩:St)))) q_).tk,(((Sum.elim (fun (y20:Int)=>(⟨[(4,.v (.one (dI y20)))],Je a1 a2 a3 a4 a0,[],10,19,[]⟩:St)) (fun (y21:Int)=>(⟨[],Jn a1 a2 a3 a4 a0,[],15,19,[]⟩:St)))) q_).nx⟩) hc22 h1 (fun y20 hc22 h1=>?_) (fun y21 hc22 h1=>?_)
  replace hc22:CallM Try.prog 104 [.one (dS a0.kids),.one (.fn 99 [(9,0)])] ⟨Je a1 a2 a3 a4 a0,[],10⟩ (QM [.one (dI y20)]) ⟨Je a1 a2 a3 a4 a0,[],10⟩:=hc22
  refine Qb Z Z (lb Z) (Yf Z Z Z hc22 Z (hA Z) kZ)<|rR Z Z Z (Q8 Z Z Z)<|rA Z Z Z<|Q5<|Q3<|Qp ?_
  have e:=sI h1;subst e
  exact hQ1 _ _ DF Z (show StLe _ _ ⟨[(4,.v (.one (dB (decide (0≤y20)))))],Je a1 a2 a3 a4 a0,[],10,9,[]⟩ from (QV (tA Z) (hA Z) kZ Z (Nat.le_trans hv1 (lb Z)) Z Z Z (bB Z Z (bB Z Z (bB Z Z (bB Z Z (bG Z (bB Z Z (bG Z (bA Z)))))))) Z Z))
  replace hc22:W8 Try.prog 104 [.one (dS a0.kids),.one (.fn 99 [(9,0)])] ⟨Je a1 a2 a3 a4 a0,[],10⟩ (QT 90 y21) ⟨Jn a1 a2 a3 a4 a0,[],15⟩:=hc22
  refine Jg Z (OpD.callW Z Z Z hc22 Z (hA Z) kZ) ?_
  have e:=sI h1;subst e
  exact Ju (hQ1 (.panic (JE (QT 90 y21))) _ K7 Z (show StLe _ _ ⟨[],Jn a1 a2 a3 a4 a0,[],15,9,[]⟩ from (QV tZ (hA Z) kZ Z (Nat.le_trans hv1 (lb Z)) Z Z Z (bB Z Z (bB Z Z (bB Z Z (bB Z Z (bG Z (bB Z Z (bG Z (bA Z)))))))) Z Z))) (fun _ _ h=>h)
 refine WM (C:=fun q_=>CallE Try.prog 98 [.one (dS a0.kids),.one (.fn 99 [(9,0)])] ⟨Je a1 a2 a3 a4 a0,[],10⟩ (((Sum.elim (fun (y16:Bool)=>((.ret [.one (dB y16)]):EK)) (fun (y17:Int)=>((.pan (QT 90 y17)):EK)))) q_) ⟨(((Sum.elim (fun (y16:Bool)=>(⟨[(4,.v (.one (dB y16)))],Je a1 a2 a3 a4 a0,[],10,9,[]⟩:St)) (fun (y17:Int)=>(⟨[],Jn a1 a2 a3 a4 a0,[],15,9,[]⟩:St)))) q_).hp,(((Sum.elim (fun (y16:Bool)=>(⟨[(4,.v (.one (dB y16)))],Je a1 a2 a3 a4 a0,[],10,9,[]⟩:St)) (fun (y17:Int)=>(⟨[],Jn a1 a2 a3 a4 a0,[],15,9,[]⟩:St)))) q_).tk,(((Sum.elim (fun (y16:Bool)=>(⟨[(4,.v (.one (dB y16)))],Je a1 a2 a3 a4 a0,[],10,9,[]⟩:St)) (fun (y17:Int)=>(⟨[],Jn a1 a2 a3 a4 a0,[],15,9,[]⟩:St)))) q_).nx⟩) hc18 h0 (fun y16 hc18 h0=>?_) (fun y17 hc18 h0=>?_)
 replace hc18:CallM Try.prog 98 [.one (dS a0.kids),.one (.fn 99 [(9,0)])] ⟨Je a1 a2 a3 a4 a0,[],10⟩ (QM [.one (dB y16)]) ⟨Je a1 a2 a3 a4 a0,[],10⟩:=hc18
 refine Qb Z Z (lb Z) (Yf Z Z Z hc18 Z (hA Z) kZ)<|rR Z Z Z (Jc Z)<|rA Z Z Z<|Q5<|Q3<|Qp ?_
 have e:=sI h0;subst e
 exact hQ0 _ _ DF Z (show StLe _ _ ⟨[(4,.v (.one (dB (!y16))))],JL a1 a2 a3 a4,[],10,19,[]⟩ from (QV (tA Z) (hA Z) kZ Z (Nat.le_trans hv0 (lb Z)) Z Z Z (bB Z Z (bB Z Z (bB Z Z (bB Z Z (bG Z (bB Z Z (bG Z (bA Z)))))))) Z Z))
 replace hc18:W8 Try.prog 98 [.one (dS a0.kids),.one (.fn 99 [(9,0)])] ⟨Je a1 a2 a3 a4 a0,[],10⟩ (QT 90 y17) ⟨Jn a1 a2 a3 a4 a0,[],15⟩:=hc18
 refine Jg Z (OpD.callW Z Z Z hc18 Z (hA Z) kZ) ?_
 have e:=sI h0;subst e
 exact Ju (hQ0 (.panic (JE (QT 90 y17))) _ K7 Z (show StLe _ _ ⟨[],Yi a1 a2 a3 a4,[],12,19,[]⟩ from (QV tZ (hA Z) kZ Z (Nat.le_trans hv0 (lb Z)) Z Z Z (bB Z Z (bB Z Z (bB Z Z (bB Z Z (bG Z (bB Z Z (bG Z (bA Z)))))))) Z Z))) (fun _ _ h=>h)
theorem m83f9_all (n:Nat) (u:Tm×(List Dcl)×(Qo Bs Ent)×(Qo Bs Ent)×Tm) (r:Bool⊕Int) (h0:JR Wd n u=some r):CallE Try.prog 83 [.agg (cE u.1),.one (.yld 0)] ⟨JL u.2.1 u.2.2.1 u.2.2.2.1 u.2.2.2.2,[],8⟩ ((Sum.elim (fun (r0:Bool)=>((.ret [.one (dB r0)]):EK)) (fun (r1:Int)=>((.pan (QT 90 r1)):EK))) r) ⟨((Sum.elim (fun (r0:Bool)=>(⟨[(4,.v (.one (dB r0)))],JL u.2.1 u.2.2.1 u.2.2.2.1 u.2.2.2.2,[],10,19,[]⟩:St)) (fun (r1:Int)=>(⟨[],Yi u.2.1 u.2.2.1 u.2.2.2.1 u.2.2.2.2,[],12,19,[]⟩:St))) r).hp,((Sum.elim (fun (r0:Bool)=>(⟨[(4,.v (.one (dB r0)))],JL u.2.1 u.2.2.1 u.2.2.2.1 u.2.2.2.2,[],10,19,[]⟩:St)) (fun (r1:Int)=>(⟨[],Yi u.2.1 u.2.2.1 u.2.2.2.1 u.2.2.2.2,[],12,19,[]⟩:St))) r).tk,((Sum.elim (fun (r0:Bool)=>(⟨[(4,.v (.one (dB r0)))],JL u.2.1 u.2.2.1 u.2.2.2.1 u.2.2.2.2,[],10,19,[]⟩:St)) (fun (r1:Int)=>(⟨[],Yi u.2.1 u.2.2.1 u.2.2.2.1 u.2.2.2.2,[],12,19,[]⟩:St))) r).nx⟩ :=
 YN (C:=fun u r=>CallE Try.prog 83 [.agg (cE u.1),.one (.yld 0)] ⟨JL u.2.1 u.2.2.1 u.2.2.2.1 u.2.2.2.2,[],8⟩ ((Sum.elim (fun (r0:Bool)=>((.ret [.one (dB r0)]):EK)) (fun (r1:Int)=>((.pan (QT 90 r1)):EK))) r) ⟨((Sum.elim (fun (r0:Bool)=>(⟨[(4,.v (.one (dB r0)))],JL u.2.1 u.2.2.1 u.2.2.2.1 u.2.2.2.2,[],10,19,[]⟩:St)) (fun (r1:Int)=>(⟨[],Yi u.2.1 u.2.2.1 u.2.2.2.1 u.2.2.2.2,[],12,19,[]⟩:St))) r).hp,((Sum.elim (fun (r0:Bool)=>(⟨[(4,.v (.one (dB r0)))],JL u.2.1 u.2.2.1 u.2.2.2.1 u.2.2.2.2,[],10,19,[]⟩:St)) (fun (r1:Int)=>(⟨[],Yi u.2.1 u.2.2.1 u.2.2.2.1 u.2.2.2.2,[],12,19,[]⟩:St))) r).tk,((Sum.elim (fun (r0:Bool)=>(⟨[(4,.v (.one (dB r0)))],JL u.2.1 u.2.2.1 u.2.2.2.1 u.2.2.2.2,[],10,19,[]⟩:St)) (fun (r1:Int)=>(⟨[],Yi u.2.1 u.2.2.1 u.2.2.2.1 u.2.2.2.2,[],12,19,[]⟩:St))) r).nx⟩) (fun rc H u r h=>m83f9s_ok rc (fun a0 a1 a2 a3 a4 r h=>H (a0,a1,a2,a3,a4) r h) u.1 u.2.1 u.2.2.1 u.2.2.2.1 u.2.2.2.2 r h) n u r h0
theorem m83f9_ok (a0:Tm) (a1:List Dcl) (a2:Qo Bs Ent) (a3:Qo Bs Ent) (a4:Tm) (r:Bool⊕Int) (h0:m83f9 a0 a1 a2 a3 a4=some r):CallE Try.prog 83 [.agg (cE a0),.one (.yld 0)] ⟨JL a1 a2 a3 a4,[],8⟩ ((Sum.elim (fun (r0:Bool)=>((.ret [.one (dB r0)]):EK)) (fun (r1:Int)=>((.pan (QT 90 r1)):EK))) r) ⟨((Sum.elim (fun (r0:Bool)=>(⟨[(4,.v (.one (dB r0)))],JL a1 a2 a3 a4,[],10,19,[]⟩:St)) (fun (r1:Int)=>(⟨[],Yi a1 a2 a3 a4,[],12,19,[]⟩:St))) r).hp,((Sum.elim (fun (r0:Bool)=>(⟨[(4,.v (.one (dB r0)))],JL a1 a2 a3 a4,[],10,19,[]⟩:St)) (fun (r1:Int)=>(⟨[],Yi a1 a2 a3 a4,[],12,19,[]⟩:St))) r).tk,((Sum.elim (fun (r0:Bool)=>(⟨[(4,.v (.one (dB r0)))],JL a1 a2 a3 a4,[],10,19,[]⟩:St)) (fun (r1:Int)=>(⟨[],Yi a1 a2 a3 a4,[],12,19,[]⟩:St))) r).nx⟩:=m83f9_all QU (a0,a1,a2,a3,a4) r h0
end Go.Proofs.Ytafddfoefeploaa
namespace Go.Proofs.Ytafddfoefeploaa
open Go.RowKit Go.Shelf
theorem fo_62_0:J1 Try.prog 62 0=some 0:=by kernel_rfl
theorem U8:JI Try.prog 22=some (false,1):=by kernel_rfl
theorem z_60:JQ Try.prog 60=some [.map none]:=by kernel_rfl
theorem en_46:QY Try.prog 46:=enters_of Try.func46 (by kernel_rfl) rfl
theorem en_47:QY Try.prog 47:=enters_of Try.func47 (by kernel_rfl) rfl
theorem en_67:QY Try.prog 67:=enters_of Try.func67 (by kernel_rfl) rfl
theorem en_82:QY Try.prog 82:=enters_of Try.func82 (by kernel_rfl) rfl
noncomputable abbrev m46f8_h0 (p0_:List Dcl) (p1_:Qo Bs Ent) (p2_:Qo Bs Ent) (p3_:Tm):List (Nat×HB) :=
 [(0,.cells 62 [dS p0_,.mp 1]),(1,.mp (J2 p1_.1) p1_.2),(2,.mp (J2 p2_.1) p2_.2),(3,.cells 59 [.ptr 0 0]),(4,.cells 33 (cE p3_)),(5,.cells 60 [.mp 2])]
noncomputable abbrev m46f8_h1 (p0_:List Dcl) (p1_:Qo Bs Ent) (p2_:Qo Bs Ent) (p3_:Tm):List (Nat×HB) :=
 [(0,.cells 62 [dS p0_,.mp 1]),(1,.mp (J2 p1_.1) p1_.2),(2,.mp (J2 p2_.1) p2_.2),(3,.cells 59 [.ptr 0 0]),(4,.cells 33 (cE p3_)),(5,.cells 60 [.mp 2]),(6,.cells 33 (cE p3_))]
noncomputable abbrev m46f8_h2 :HB :=
 .loop .ready none [(5,.v (.one (.ptr 3 0))),(9,.v (.one (.ptr 5 0))),(23,.v (.one (.fn 82 [(6,0)])))] 53 #[24] Z1 Yv 7
noncomputable abbrev ZT (p0_:List Dcl) (p1_:Qo Bs Ent) (p2_:Qo Bs Ent) (p3_:Tm):List (Nat×HB) :=
 [(0,.cells 62 [dS p0_,.mp 1]),(1,.mp (J2 p1_.1) p1_.2),(2,.mp (J2 p2_.1) p2_.2),(3,.cells 59 [.ptr 0 0]),(4,.cells 33 (cE p3_)),(5,.cells 60 [.mp 2]),(6,.cells 33 (cE p3_)),(7,.obj (.deferred (some []))),(8,m46f8_h2)]
noncomputable abbrev m46f8_h4 :HB :=
 .loop .busy none [(5,.v (.one (.ptr 3 0))),(9,.v (.one (.ptr 5 0))),(23,.v (.one (.fn 82 [(6,0)])))] 53 #[24] Z1 Yv 7
noncomputable abbrev ZS (p0_:List Dcl) (p1_:Qo Bs Ent) (p2_:Qo Bs Ent) (p3_:Tm):List (Nat×HB) :=
 [(0,.cells 62 [dS p0_,.mp 1]),(1,.mp (J2 p1_.1) p1_.2),(2,.mp (J2 p2_.1) p2_.2),(3,.cells 59 [.ptr 0 0]),(4,.cells 33 (cE p3_)),(5,.cells 60 [.mp 2]),(6,.cells 33 (cE p3_)),(7,.obj (.deferred (some []))),(8,m46f8_h4)]
noncomputable abbrev Zd (p0_:List Dcl) (p1_:Qo Bs Ent) (p2_:Qo Bs Ent):List (Nat×HB) :=
 [(0,.cells 62 [dS p0_,.mp 1]),(1,.mp (J2 p1_.1) p1_.2),(2,.mp (J2 p2_.1) p2_.2)]
noncomputable def Gq (a0:Tm) (a1:Int) (a2:Int) (a3:List Dcl) (a4:Qo Bs Ent) (a5:Qo Bs Ent):Option (Unit⊕Int) :=
 Option.bind (m66 a0 a1 a2 0 0) fun (x1:Int) =>
 Option.bind (JJ (x1==0) x1) (Sum.elim (fun (x3:Unit)=>Option.bind (some ()) (fun (y5:Unit)=>Option.bind (Option.bind (m83f9 a0 a3 a4 a5 a0) (Sum.elim (fun (x12:Bool)=>some (.inl ())) (fun (x13:Int)=>some (.inr x13)))) (Sum.elim (fun (y7:Unit)=>some (.inl ())) (fun (y8:Int)=>some (.inr y8))))) (fun (x4:Unit)=>some (.inr x1)))
theorem YO (a0:Tm) (a1:Int) (a2:Int) (a3:List Dcl) (a4:Qo Bs Ent) (a5:Qo Bs Ent) (r:Unit⊕Int) (h0:Gq a0 a1 a2 a3 a4 a5=some r):CallE Try.prog 46 [.one (.ptr 0 0),.agg (cE a0),.one (dI a1),.one (dI a2),.one (.mp 2)] ⟨Zd a3 a4 a5,[],3⟩ ((Sum.elim (fun (r0:Unit)=>((.ret []):EK)) (fun (r1:Int)=>((.pan (QT 90 r1)):EK))) r) ⟨((Sum.elim (fun (r0:Unit)=>(⟨[],Zd a3 a4 a5,[],11,53,[]⟩:St)) (fun (r1:Int)=>(⟨[],Zd a3 a4 a5,[],6,53,[]⟩:St))) r).hp,((Sum.elim (fun (r0:Unit)=>(⟨[],Zd a3 a4 a5,[],11,53,[]⟩:St)) (fun (r1:Int)=>(⟨[],Zd a3 a4 a5,[],6,53,[]⟩:St))) r).tk,((Sum.elim (fun (r0:Unit)=>(⟨[],Zd a3 a4 a5,[],11,53,[]⟩:St)) (fun (r1:Int)=>(⟨[],Zd a3 a4 a5,[],6,53,[]⟩:St))) r).nx⟩:=by
 unfold Gq at h0
 refine Y0 r ((Sum.elim (fun (r0:Unit)=>(⟨[],Zd a3 a4 a5,[],11,53,[]⟩:St)) (fun (r1:Int)=>(⟨[],Zd a3 a4 a5,[],6,53,[]⟩:St)))) ((Sum.elim (fun (r0:Unit)=>((.ret []):EK)) (fun (r1:Int)=>((.pan (QT 90 r1)):EK)))) rfl rfl en_46 (lb rfl) (fun z_=>by cases z_ with
 | inl _=>exact rfl
 | inr _=>exact rfl) (fun z_=>by cases z_ with
 | inl _=>exact (De .nil)
 | inr _=>exact Dn) (fun w0 M V0 Q hv0 hQ0=>?_)
 simp only [J3]
 refine Q4<|Q0<|Qb Z Z (lb Z) (QN Z)<|Qb Z Z (lb Z) (QN Z)<|Qb Z Z (lb Z) (QN Z)<|Q5<|Q3<|Q4<|Q0<|rR Z Z Z (QH (a0:Tm) QR Z Z)<|rM Z Z Z<|rM Z Z Z ?_
 refine Qd h0 (fun x1 hx1 h0=>?_)
 refine Qb Z Z (lb Z) (Qh (m66_ok a0 a1 a2 0 0 x1 hx1) Z (.cons (.agg (.cons (.d _) (.cons (.d _) (.cons (.d _) (.cons (.d _) (.cons (.d _) .nil)))))) (.cons (.one (.d _)) (.cons (.one (.d _)) (.cons (.one (.d _)) (.cons (.one (.d _)) .nil))))))<|rA Z Z Z<|Q5<|Q3<|Q4<|Q0<|rM Z Z Z<|rR Z Z Z (Q8 Z Z Z)<|rM Z Z Z ?_
 refine Qd h0 (fun x2 hx2 h0=>?_)
 refine Y7 id hx2 h0 (fun x3 hx3 h0=>?_) (fun x4 hx4 h0=>?_)
 refine Qb Z Z (lb Z) (QL Z Z Z (CallE.m (QI (x1==0) x1 (.inl x3) hx3)) Z)<|Q5<|Q3<|Q4<|Q0<|rR Z Z Z (QH (a0:Tm) QR Z Z) ?_
 refine Qd h0 (fun y5 h1 h0=>?_)
 have hc6:CallM Try.prog 67 [.agg (cE a0)] ⟨m46f8_h0 a3 a4 a5 a0,[],6⟩ (QM [.one (.fn 82 [(6,0)])]) ⟨m46f8_h1 a3 a4 a5 a0,[],7⟩:=by
  refine Jl ⟨[(2,.v (.one (.fn 82 [(6,0)])))],m46f8_h1 a3 a4 a5 a0,[],7,4,[]⟩ Z Z en_67 (lb Z) Z (Qm Z .nil) (fun w0 M V0 Q hv1 hQ1=>?_)
  simp only [J3]
  refine Q4<|Q0<|Qb Z Z (lb Z) (QN Z)<|rA Z Z Z<|Q5<|Q3<|Q4<|Q0<|rR Z Z Z (K5 Z)<|rA Z Z Z<|Q5<|Q3<|Qp ?_
  have e:=sI h1;subst e
  exact hQ1 _ _ _ (.inr Z) Z (QV (tA Z) (hA Z) kZ Z (Nat.le_trans hv1 (lb Z)) Z Z Z (bB Z Z (bG Z (bG Z (bA Z)))) Z Z)
 refine Qb Z Z (lb Z) (Yf Z Z Z hc6 Z (hA Z) kZ)<|Q5<|Q3<|Ql<|Xg (st':=⟨[(5,.v (.one (.ptr 3 0))),(9,.v (.one (.ptr 5 0))),(23,.v (.one (.fn 82 [(6,0)])))],m46f8_h1 a3 a4 a5 a0,[],7,53,[]⟩) (QV (tA Z) (hA Z) kZ Z (Nat.le_trans hv0 (lb Z)) Z Z Z (bB Z Z (bG Z (bG Z (bA Z)))) Z Z) ?_
 refine Qd h0 (fun y10 h1 h0=>?_)
 have hc9:CallE Try.prog 82 [.one (.yld 8),.one (.ptr 6 0)] ⟨[(8,.loop .ready none [(5,.v (.one (.ptr 3 0))),(9,.v (.one (.ptr 5 0))),(23,.v (.one (.fn 82 [(6,0)])))] 53 #[24] Z1 Yv 7),(7,.obj (.deferred (some []))),(0,.cells 62 [dS a3,.mp 1]),(1,.mp (J2 a4.1) a4.2),(2,.mp (J2 a5.1) a5.2),(3,.cells 59 [.ptr 0 0]),(4,.cells 33 (cE a0)),(5,.cells 60 [.mp 2]),(6,.cells 33 (cE a0))],[],9⟩ (((Sum.elim (fun (y7:Unit)=>((.ret []):EK)) (fun (y8:Int)=>((.pan (QT 90 y8)):EK)))) y10) ⟨(((Sum.elim (fun (y7:Unit)=>(⟨[],ZT a3 a4 a5 a0,[],11,6,[]⟩:St)) (fun (y8:Int)=>(⟨[],ZS a3 a4 a5 a0,[],13,6,[]⟩:St)))) y10).hp,(((Sum.elim (fun (y7:Unit)=>(⟨[],ZT a3 a4 a5 a0,[],11,6,[]⟩:St)) (fun (y8:Int)=>(⟨[],ZS a3 a4 a5 a0,[],13,6,[]⟩:St)))) y10).tk,(((Sum.elim (fun (y7:Unit)=>(⟨[],ZT a3 a4 a5 a0,[],11,6,[]⟩:St)) (fun (y8:Int)=>(⟨[],ZS a3 a4 a5 a0,[],13,6,[]⟩:St)))) y10).nx⟩:=by
  refine Y0 y10 ((Sum.elim (fun (y7:Unit)=>(⟨[],ZT a3 a4 a5 a0,[],11,6,[]⟩:St)) (fun (y8:Int)=>(⟨[],ZS a3 a4 a5 a0,[],13,6,[]⟩:St)))) ((Sum.elim (fun (y7:Unit)=>((.ret []):EK)) (fun (y8:Int)=>((.pan (QT 90 y8)):EK)))) rfl rfl en_82 (lb rfl) (fun z_=>by cases z_ with
    | inl _=>exact rfl
    | inr _=>exact rfl) (fun z_=>by cases z_ with
    | inl _=>exact (De .nil)
    | inr _=>exact Dn) (fun w0 M V0 Q hv1 hQ1=>?_)
  simp only [J3]
  refine Q0<|rR Z Z Z (QH (a0:Tm) QR Z Z)<|rM Z Z Z ?_
  refine Qd h1 (fun x11 hx11 h1=>?_)
  refine Y7 id hx11 h1 (fun x12 hx12 h1=>?_) (fun x13 hx13 h1=>?_)
  refine Qb Z Z (lb Z) (JC (hp1':=[(8,.loop .ready none [(5,.v (.one (.ptr 3 0))),(9,.v (.one (.ptr 5 0))),(23,.v (.one (.fn 82 [(6,0)])))] 53 #[24] Z1 Yv 7),(7,.obj (.deferred (some []))),(3,.cells 59 [.ptr 0 0]),(0,.cells 62 [dS a3,.mp 1]),(1,.mp (J2 a4.1) a4.2),(5,.cells 60 [.mp 2]),(2,.mp (J2 a5.1) a5.2),(6,.cells 33 (cE a0))]) (tk1':=[]) (hpF:=[(4,.cells 33 (cE a0))]) (tkF:=[]) (res2:=QM [.one (dB x12)]) (nx2:=11) [8,7,3,0,1,5,2,6] Z Z (CallE.m (m83f9_ok a0 a3 a4 a5 a0 (.inl x12) hx12)) Z Z (qB Z Z (qB Z Z (qB Z Z (qB Z Z (qG Z (qB Z Z (qG Z (qB Z Z qZ)))))))) Z Z (gR Z (gR Z (gR Z (gR Z (gG Z (gR Z (gG Z (gR Z gZ)))))))) jZ (hA Z) kZ Z Z Z Z Z (bB Z Z (bB Z Z (bB Z Z (bB Z Z (bG Z (bB Z Z (bG Z (bA Z)))))))) Z Z Z Z)<|Q5 ?_
  have e:=sI h1;subst e
  exact hQ1 _ _ DO Z (show StLe _ _ ⟨[],ZT a3 a4 a5 a0,[],11,6,[]⟩ from (QV tZ (hA Z) kZ Z (Nat.le_trans hv1 (lb Z)) Z Z Z (bB Z Z (bG Z (bG Z (bA Z)))) Z Z))
  refine Jg Z (YD (hp1':=[(8,.loop .busy none [(5,.v (.one (.ptr 3 0))),(9,.v (.one (.ptr 5 0))),(23,.v (.one (.fn 82 [(6,0)])))] 53 #[24] Z1 Yv 7),(7,.obj (.deferred (some []))),(3,.cells 59 [.ptr 0 0]),(0,.cells 62 [dS a3,.mp 1]),(1,.mp (J2 a4.1) a4.2),(5,.cells 60 [.mp 2]),(2,.mp (J2 a5.1) a5.2),(6,.cells 33 (cE a0))]) (tk1':=[]) (hpF:=[(4,.cells 33 (cE a0))]) (tkF:=[]) (nx2:=13) [8,7,3,0,1,5,2,6] Z Z (CallE.d (m83f9_ok a0 a3 a4 a5 a0 (.inr x13) hx13)) Z Z (qB Z Z (qB Z Z (qB Z Z (qB Z Z (qG Z (qB Z Z (qG Z (qB Z Z qZ)))))))) Z (gR Z (gR Z (gR Z (gR Z (gG Z (gR Z (gG Z (gR Z gZ)))))))) jZ (hA Z) kZ Z Z Z Z Z (bB Z Z (bB Z Z (bB Z Z (bB Z Z (bG Z (bB Z Z (bG Z (bA Z)))))))) Z Z Z Z) ?_
  have e:=sI h1;subst e
  exact Ju (hQ1 (.panic (JE (QT 90 x13))) _ K7 Z (show StLe _ _ ⟨[],ZS a3 a4 a5 a0,[],13,6,[]⟩ from (QV tZ (hA Z) kZ Z (Nat.le_trans hv1 (lb Z)) Z Z Z (bB Z Z (bG Z (bG Z (bA Z)))) Z Z))) (fun _ _ h=>h)
 refine WM (C:=fun q_=>CallE Try.prog 82 [.one (.yld 8),.one (.ptr 6 0)] ⟨[(8,.loop .ready none [(5,.v (.one (.ptr 3 0))),(9,.v (.one (.ptr 5 0))),(23,.v (.one (.fn 82 [(6,0)])))] 53 #[24] Z1 Yv 7),(7,.obj (.deferred (some []))),(0,.cells 62 [dS a3,.mp 1]),(1,.mp (J2 a4.1) a4.2),(2,.mp (J2 a5.1) a5.2),(3,.cells 59 [.ptr 0 0]),(4,.cells 33 (cE a0)),(5,.cells 60 [.mp 2]),(6,.cells 33 (cE a0))],[],9⟩ (((Sum.elim (fun (y7:Unit)=>((.ret []):EK)) (fun (y8:Int)=>((.pan (QT 90 y8)):EK)))) q_) ⟨(((Sum.elim (fun (y7:Unit)=>(⟨[],ZT a3 a4 a5 a0,[],11,6,[]⟩:St)) (fun (y8:Int)=>(⟨[],ZS a3 a4 a5 a0,[],13,6,[]⟩:St)))) q_).hp,(((Sum.elim (fun (y7:Unit)=>(⟨[],ZT a3 a4 a5 a0,[],11,6,[]⟩:St)) (fun (y8:Int)=>(⟨[],ZS a3 a4 a5 a0,[],13,6,[]⟩:St)))) q_).tk,(((Sum.elim (fun (y7:Unit)=>(⟨[],ZT a3 a4 a5 a0,[],11,6,[]⟩:St)) (fun (y8:Int)=>(⟨[],ZS a3 a4 a5 a0,[],13,6,[]⟩:St)))) q_).nx⟩) hc9 h0 (fun y7 hc9 h0=>?_) (fun y8 hc9 h0=>?_)
 replace hc9:CallM Try.prog 82 [.one (.yld 8),.one (.ptr 6 0)] ⟨[(8,.loop .ready none [(5,.v (.one (.ptr 3 0))),(9,.v (.one (.ptr 5 0))),(23,.v (.one (.fn 82 [(6,0)])))] 53 #[24] Z1 Yv 7),(7,.obj (.deferred (some []))),(0,.cells 62 [dS a3,.mp 1]),(1,.mp (J2 a4.1) a4.2),(2,.mp (J2 a5.1) a5.2),(3,.cells 59 [.ptr 0 0]),(4,.cells 33 (cE a0)),(5,.cells 60 [.mp 2]),(6,.cells 33 (cE a0))],[],9⟩ (QM []) ⟨ZT a3 a4 a5 a0,[],11⟩:=hc9
 refine KN (YA (e:=.normal) rfl hc9 rfl rfl (by intro h;cases h) rfl) rfl ?_
 refine Qk ?_
 have e:=sI h0;subst e
 exact hQ0 _ _ DO Z (show StLe _ _ ⟨[],Zd a3 a4 a5,[],11,53,[]⟩ from (QV tZ (hA Z) kZ Z (Nat.le_trans hv0 (lb Z)) Z Z Z (bB Z Z (bG Z (bG Z bZ))) Z Z))
 replace hc9:W8 Try.prog 82 [.one (.yld 8),.one (.ptr 6 0)] ⟨[(8,.loop .ready none [(5,.v (.one (.ptr 3 0))),(9,.v (.one (.ptr 5 0))),(23,.v (.one (.fn 82 [(6,0)])))] 53 #[24] Z1 Yv 7),(7,.obj (.deferred (some []))),(0,.cells 62 [dS a3,.mp 1]),(1,.mp (J2 a4.1) a4.2),(2,.mp (J2 a5.1) a5.2),(3,.cells 59 [.ptr 0 0]),(4,.cells 33 (cE a0)),(5,.cells 60 [.mp 2]),(6,.cells 33 (cE a0))],[],9⟩ (QT 90 y8) ⟨ZS a3 a4 a5 a0,[],13⟩:=hc9
 refine KN (rangeFunc_outD Z hc9 Z) Z ?_
 have e:=sI h0;subst e
 exact Ju (hQ0 (.panic (JE (QT 90 y8))) _ K7 Z (show StLe _ _ ⟨[],Zd a3 a4 a5,[],6,53,[]⟩ from (QV tZ (hA Z) kZ Z (Nat.le_trans hv0 (lb Z)) Z Z Z (bB Z Z (bG Z (bG Z bZ))) Z Z))) (fun _ _ h=>h)
 refine Jg Z (QS Z Z Z (CallE.d (QI (x1==0) x1 (.inr x4) hx4))) ?_
 have e:=sI h0;subst e
 exact Ju (hQ0 (.panic (JE (QT 90 x1))) _ K7 Z (show StLe _ _ ⟨[],Zd a3 a4 a5,[],6,53,[]⟩ from (QV tZ (hA Z) kZ Z (Nat.le_trans hv0 (lb Z)) Z Z Z (bB Z Z (bG Z (bG Z bZ))) Z Z))) (fun _ _ h=>h)
noncomputable def m47f10_l0 (a0:Dcl) (a1:List Dcl) (s2:Int×(Qo Bs Ent)):Option (LO (Int×(Qo Bs Ent)) (((Qo Bs Ent)))) :=
 cond (decide (s2.1 < (a0.ctors.length:Int)))
   (Option.bind (JP a0.ctors s2.1) fun (x17:Ctr) =>
 Option.bind (some ()) (fun (y18:Unit)=>some (.next ((Ja (s2.1+1)),(Jb s2.2 x17.name (⟨4,(a1.length:Int),s2.1,a0.params,x17.ty⟩:Ent))))))
   (some (.done s2.2))
noncomputable def m47f10_k1 (p0_:Dcl) (p1_:(Qo Bs Ent)) (p2_:List Dcl):Option (((Qo Bs Ent))) :=
 Jy (Nat.ble (p0_.name.length+([46,114,101,99]:List UInt8).length) 1000000000)
 (Option.bind (some ()) (fun (b0_:Unit)=>some (Jb p1_ (p0_.name++([46,114,101,99]:List UInt8)) (⟨5,(p2_.length:Int),0,p0_.rcr.params,p0_.rcr.ty⟩:Ent))))
noncomputable def m47f10_l2 (a0:Dcl) (a1:List Dcl) (s2:Int×(Qo Bs Ent)):Option (LO (Int×(Qo Bs Ent)) (((Qo Bs Ent)))) :=
 cond (decide (s2.1 < (a0.funs.length:Int)))
   (Option.bind (JP a0.funs s2.1) fun (x29:Fn) =>
 Option.bind (some ()) (fun (y30:Unit)=>some (.next ((Ja (s2.1+1)),(Jb s2.2 x29.name (⟨6,(a1.length:Int),s2.1,a0.params,x29.ty⟩:Ent))))))
   (some (.done s2.2))
noncomputable def m47f10_k3 (p0_:Bool) (p1_:Dcl) (p2_:List Dcl):Option (((Qo Bs Ent))) :=
 cond p0_
   (Option.bind (JP ([0,1,2]) p1_.kind) fun (b0_:Int) =>
 Option.bind (some ()) (fun (b1_:Unit)=>some (Jb gmNil p1_.name (⟨b0_,(p2_.length:Int),0,p1_.params,p1_.ty⟩:Ent))))
   (cond (p1_.kind==3)
   (Option.bind (some ()) (fun (b2_:Unit)=>Option.bind (QE (m47f10_l0 p1_ p2_) QU (0,(Jb gmNil p1_.name (⟨3,(p2_.length:Int),0,p1_.params,p1_.ty⟩:Ent)))) (fun (b3_:(Qo Bs Ent))=>m47f10_k1 p1_ b3_ p2_)))
   (cond (p1_.kind==4)
   (Option.bind (QE (m47f10_l2 p1_ p2_) QU (0,gmNil)) (fun (b4_:(Qo Bs Ent))=>some b4_))
   (some gmNil)))
noncomputable def KU (a0:Dcl) (a1:List Dcl) (a2:Qo Bs Ent) (a3:Qo Bs Ent) (y3:(Qo Bs Ent)) (s1:Int):Option (LO Int (Unit⊕(((Qo Bs Ent))⊕(Int×(Qo Bs Ent))))) :=
 cond (decide (s1 < (a0.ctors.length:Int)))
   (Option.bind (JP a0.ctors s1) fun (x38:Ctr) =>
 Option.bind (Gq x38.ty 0 a0.params a1 a2 (Jb a3 a0.name (⟨(Qy y3 a0.name).kind,(Qy y3 a0.name).decl,(Qy y3 a0.name).item,(Qy y3 a0.name).params,((Qy y3 a0.name).ty)⟩:Ent))) (Sum.elim (fun (x40:Unit)=>some (.next (Ja (s1+1)))) (fun (x41:Int)=>some (.done (.inr (.inr (x41,(Jb a3 a0.name (⟨(Qy y3 a0.name).kind,(Qy y3 a0.name).decl,(Qy y3 a0.name).item,(Qy y3 a0.name).params,((Qy y3 a0.name).ty)⟩:Ent)))))))))
   (some (.done (.inl ())))
noncomputable def Kc (a0:Dcl) (y3:(Qo Bs Ent)) (s1:Int×(Qo Bs Ent)):Option (LO (Int×(Qo Bs Ent)) (((Qo Bs Ent)))) :=
 cond (decide (s1.1 < (a0.ctors.length:Int)))
   (Option.bind (JP a0.ctors s1.1) fun (x39:Ctr) =>
 some (.next ((Ja (s1.1+1)),(Jb s1.2 x39.name (⟨(Qy y3 x39.name).kind,(Qy y3 x39.name).decl,(Qy y3 x39.name).item,(Qy y3 x39.name).params,((Qy y3 x39.name).ty)⟩:Ent)))))
   (some (.done s1.2))
noncomputable def KT (a0:Dcl) (a1:List Dcl) (a2:Qo Bs Ent) (o37:(Qo Bs Ent)) (y3:(Qo Bs Ent)) (s1:Int):Option (LO Int (Unit⊕(((Qo Bs Ent))⊕(Int×(Qo Bs Ent))))) :=
 cond (decide (s1 < (a0.rcr.rules.length:Int)))
   (Option.bind (JP a0.rcr.rules s1) fun (x44:Tm) =>
 Option.bind (Gq x44 0 a0.rcr.params a1 a2 (Jb o37 (a0.name++([46,114,101,99]:List UInt8)) (⟨(Qy y3 (a0.name++([46,114,101,99]:List UInt8))).kind,(Qy y3 (a0.name++([46,114,101,99]:List UInt8))).decl,(Qy y3 (a0.name++([46,114,101,99]:List UInt8))).item,(Qy y3 (a0.name++([46,114,101,99]:List UInt8))).params,((Qy y3 (a0.name++([46,114,101,99]:List UInt8))).ty)⟩:Ent))) (Sum.elim (fun (x46:Unit)=>some (.next (Ja (s1+1)))) (fun (x47:Int)=>some (.done (.inr (.inr (x47,(Jb o37 (a0.name++([46,114,101,99]:List UInt8)) (⟨(Qy y3 (a0.name++([46,114,101,99]:List UInt8))).kind,(Qy y3 (a0.name++([46,114,101,99]:List UInt8))).decl,(Qy y3 (a0.name++([46,114,101,99]:List UInt8))).item,(Qy y3 (a0.name++([46,114,101,99]:List UInt8))).params,((Qy y3 (a0.name++([46,114,101,99]:List UInt8))).ty)⟩:Ent)))))))))
   (some (.done (.inl ())))
noncomputable def m47f10_k7 (p0_:(Qo Bs Ent)) (p1_:Dcl) (p2_:(Qo Bs Ent)):Option (((Qo Bs Ent))⊕(Int×(Qo Bs Ent))) :=
 some (.inl (Jb p0_ (p1_.name++([46,114,101,99]:List UInt8)) (⟨(Qy p2_ (p1_.name++([46,114,101,99]:List UInt8))).kind,(Qy p2_ (p1_.name++([46,114,101,99]:List UInt8))).decl,(Qy p2_ (p1_.name++([46,114,101,99]:List UInt8))).item,(Qy p2_ (p1_.name++([46,114,101,99]:List UInt8))).params,((Qy p2_ (p1_.name++([46,114,101,99]:List UInt8))).ty)⟩:Ent)))
noncomputable def m47f10_k8 (p0_:Dcl) (p1_:List Dcl) (p2_:Qo Bs Ent) (p3_:(Qo Bs Ent)) (p4_:(Qo Bs Ent)):Option (((Qo Bs Ent))⊕(Int×(Qo Bs Ent))) :=
 Option.bind (Gq p0_.rcr.ty 0 p0_.rcr.params p1_ p2_ p3_) (Sum.elim (fun (b0_:Unit)=>Jy (Nat.ble (p0_.name.length+([46,114,101,99]:List UInt8).length) 1000000000)
 (Option.bind (QE (KT p0_ p1_ p2_ p3_ p4_) QU 0) (Sum.elim (fun (b1_:Unit)=>m47f10_k7 p3_ p0_ p4_) (fun o=>some o)))) (fun (b2_:Int)=>some (.inr (b2_,p3_))))
noncomputable def KV (p0_:Dcl) (p1_:(Qo Bs Ent)) (p2_:Qo Bs Ent) (p3_:List Dcl) (p4_:Qo Bs Ent):Option (((Qo Bs Ent))⊕(Int×(Qo Bs Ent))) :=
 Option.bind (QE (Kc p0_ p1_) QU (0,(Jb p2_ p0_.name (⟨(Qy p1_ p0_.name).kind,(Qy p1_ p0_.name).decl,(Qy p1_ p0_.name).item,(Qy p1_ p0_.name).params,((Qy p1_ p0_.name).ty)⟩:Ent)))) (fun (b0_:(Qo Bs Ent))=>m47f10_k8 p0_ p3_ p4_ b0_ p1_)
noncomputable abbrev Zo :HB :=
 .mp (J2 (gmNil:Qo Bs Ent).1) (gmNil:Qo Bs Ent).2
noncomputable abbrev m47f10_h1 (p0_:List Dcl) (p1_:Qo Bs Ent) (p2_:Qo Bs Ent) (p3_:Dcl):List (Nat×HB) :=
 [(0,.cells 62 [dS p0_,.mp 1]),(1,.mp (J2 p1_.1) p1_.2),(2,.mp (J2 p2_.1) p2_.2),(3,.cells 45 (cE p3_)),(4,Zo),(5,.cells 60 [.mp 4])]
noncomputable abbrev m47f10_h2 (p0_:List Dcl) (p1_:Qo Bs Ent) (p2_:Qo Bs Ent) (p3_:Dcl):List (Nat×HB) :=
 [(0,.cells 62 [dS p0_,.mp 1]),(1,.mp (J2 p1_.1) p1_.2),(2,.mp (J2 p2_.1) p2_.2),(3,.cells 45 (cE p3_)),(4,Zo),(5,.cells 60 [.mp 4]),(6,.cells 45 (cE p3_)),(7,.cells 3 [dI (p0_.length:Int)])]
noncomputable abbrev Yg :HB :=
 .loop .ready none [(0,.v (.one (.ptr 0 0))),(2,.v (.one (.mp 2))),(4,.v (.one (.ptr 3 0))),(6,.v (.one (.ptr 5 0))),(23,.v (.one (.fn 49 [(7,0),(6,0)])))] 99 #[24,25] ZI ZH 8
noncomputable abbrev m47f10_h4 (p0_:List Dcl) (p1_:Qo Bs Ent) (p2_:Qo Bs Ent) (p3_:Dcl) (p4_:(Qo Bs Ent)):List (Nat×HB) :=
 [(0,.cells 62 [dS p0_,.mp 1]),(1,.mp (J2 p1_.1) p1_.2),(2,.mp (J2 p2_.1) p2_.2),(3,.cells 45 (cE p3_)),(4,.mp (J2 p4_.1) p4_.2),(5,.cells 60 [.mp 4]),(6,.cells 45 (cE p3_)),(7,.cells 3 [dI (p0_.length:Int)]),(8,.obj (.deferred (some []))),(9,Yg)]
noncomputable abbrev Kd (p0_:List Dcl) (p1_:Dcl):HB :=
 .cells 35 [dI 0,dI (p0_.length:Int),dI 0,dI p1_.params,dI p1_.ty.kind,dI p1_.ty.index,J6 p1_.ty.name,dS p1_.ty.levels,dS p1_.ty.kids]
noncomputable abbrev m47f10_h6 (p0_:List Dcl) (p1_:Qo Bs Ent) (p2_:Qo Bs Ent) (p3_:Dcl):List (Nat×HB) :=
 [(0,.cells 62 [dS p0_,.mp 1]),(1,.mp (J2 p1_.1) p1_.2),(2,.mp (J2 p2_.1) p2_.2),(3,.cells 45 (cE p3_)),(4,Zo),(5,.cells 60 [.mp 4]),(6,.cells 45 (cE p3_)),(7,.cells 3 [dI (p0_.length:Int)]),(8,.obj (.deferred (some []))),(9,Yg),(10,Kd p0_ p3_)]
noncomputable abbrev KW (p0_:Int) (p1_:List Dcl) (p2_:Dcl):HB :=
 .cells 35 [dI p0_,dI (p1_.length:Int),dI 0,dI p2_.params,dI p2_.ty.kind,dI p2_.ty.index,J6 p2_.ty.name,dS p2_.ty.levels,dS p2_.ty.kids]
noncomputable abbrev m47f10_h8 (p0_:List Dcl) (p1_:Qo Bs Ent) (p2_:Qo Bs Ent) (p3_:Dcl) (p4_:Int):List (Nat×HB) :=
 [(0,.cells 62 [dS p0_,.mp 1]),(1,.mp (J2 p1_.1) p1_.2),(2,.mp (J2 p2_.1) p2_.2),(3,.cells 45 (cE p3_)),(4,Zo),(5,.cells 60 [.mp 4]),(6,.cells 45 (cE p3_)),(7,.cells 3 [dI (p0_.length:Int)]),(8,.obj (.deferred (some []))),(9,Yg),(10,KW p4_ p0_ p3_)]
noncomputable abbrev Zf :HB :=
 .loop .busy none [(0,.v (.one (.ptr 0 0))),(2,.v (.one (.mp 2))),(4,.v (.one (.ptr 3 0))),(6,.v (.one (.ptr 5 0))),(23,.v (.one (.fn 49 [(7,0),(6,0)])))] 99 #[24,25] ZI ZH 8
noncomputable abbrev m47f10_h10 (p0_:List Dcl) (p1_:Qo Bs Ent) (p2_:Qo Bs Ent) (p3_:Dcl) (p4_:Int):List (Nat×HB) :=
 [(0,.cells 62 [dS p0_,.mp 1]),(1,.mp (J2 p1_.1) p1_.2),(2,.mp (J2 p2_.1) p2_.2),(3,.cells 45 (cE p3_)),(4,Zo),(5,.cells 60 [.mp 4]),(6,.cells 45 (cE p3_)),(7,.cells 3 [dI (p0_.length:Int)]),(8,.obj (.deferred (some []))),(9,Zf),(10,KW p4_ p0_ p3_),(12,KW p4_ p0_ p3_)]
noncomputable abbrev m47f10_h11 (p0_:List Dcl) (p1_:Qo Bs Ent) (p2_:Qo Bs Ent) (p3_:Dcl) (p4_:Int):List (Nat×HB) :=
 [(0,.cells 62 [dS p0_,.mp 1]),(1,.mp (J2 p1_.1) p1_.2),(2,.mp (J2 p2_.1) p2_.2),(3,.cells 45 (cE p3_)),(4,Zo),(5,.cells 60 [.mp 4]),(6,.cells 45 (cE p3_)),(7,.cells 3 [dI (p0_.length:Int)]),(8,.obj (.deferred (some []))),(9,Yg),(10,KW p4_ p0_ p3_),(12,KW p4_ p0_ p3_)]
noncomputable abbrev m47f10_h12 (p0_:Dcl) (p1_:Int) (p2_:List Dcl):HB :=
 .mp (J2 ((Jb gmNil p0_.name (⟨p1_,(p2_.length:Int),0,p0_.params,p0_.ty⟩:Ent)):Qo Bs Ent).1) ((Jb gmNil p0_.name (⟨p1_,(p2_.length:Int),0,p0_.params,p0_.ty⟩:Ent)):Qo Bs Ent).2
noncomputable abbrev m47f10_h13 (p0_:List Dcl) (p1_:Qo Bs Ent) (p2_:Qo Bs Ent) (p3_:Dcl) (p4_:Int):List (Nat×HB) :=
 [(0,.cells 62 [dS p0_,.mp 1]),(1,.mp (J2 p1_.1) p1_.2),(2,.mp (J2 p2_.1) p2_.2),(3,.cells 45 (cE p3_)),(4,m47f10_h12 p3_ p4_ p0_),(5,.cells 60 [.mp 4]),(6,.cells 45 (cE p3_)),(7,.cells 3 [dI (p0_.length:Int)]),(8,.obj (.deferred (some []))),(9,Zf),(10,KW p4_ p0_ p3_)]
noncomputable abbrev Y2 (p0_:List Dcl) (p1_:Dcl):HB :=
 .cells 35 [dI 3,dI (p0_.length:Int),dI 0,dI p1_.params,dI p1_.ty.kind,dI p1_.ty.index,J6 p1_.ty.name,dS p1_.ty.levels,dS p1_.ty.kids]
noncomputable abbrev m47f10_h15 (p0_:List Dcl) (p1_:Qo Bs Ent) (p2_:Qo Bs Ent) (p3_:Dcl):List (Nat×HB) :=
 [(0,.cells 62 [dS p0_,.mp 1]),(1,.mp (J2 p1_.1) p1_.2),(2,.mp (J2 p2_.1) p2_.2),(3,.cells 45 (cE p3_)),(4,Zo),(5,.cells 60 [.mp 4]),(6,.cells 45 (cE p3_)),(7,.cells 3 [dI (p0_.length:Int)]),(8,.obj (.deferred (some []))),(9,Yg),(10,Y2 p0_ p3_)]
noncomputable abbrev m47f10_h16 (p0_:List Dcl) (p1_:Qo Bs Ent) (p2_:Qo Bs Ent) (p3_:Dcl):List (Nat×HB) :=
 [(0,.cells 62 [dS p0_,.mp 1]),(1,.mp (J2 p1_.1) p1_.2),(2,.mp (J2 p2_.1) p2_.2),(3,.cells 45 (cE p3_)),(4,Zo),(5,.cells 60 [.mp 4]),(6,.cells 45 (cE p3_)),(7,.cells 3 [dI (p0_.length:Int)]),(8,.obj (.deferred (some []))),(9,Zf),(10,Y2 p0_ p3_),(11,Y2 p0_ p3_)]
noncomputable abbrev m47f10_h17 (p0_:List Dcl) (p1_:Qo Bs Ent) (p2_:Qo Bs Ent) (p3_:Dcl):List (Nat×HB) :=
 [(0,.cells 62 [dS p0_,.mp 1]),(1,.mp (J2 p1_.1) p1_.2),(2,.mp (J2 p2_.1) p2_.2),(3,.cells 45 (cE p3_)),(4,Zo),(5,.cells 60 [.mp 4]),(6,.cells 45 (cE p3_)),(7,.cells 3 [dI (p0_.length:Int)]),(8,.obj (.deferred (some []))),(9,Yg),(10,Y2 p0_ p3_),(11,Y2 p0_ p3_)]
noncomputable abbrev m47f10_h18 (p0_:Dcl) (p1_:List Dcl):HB :=
 .mp (J2 ((Jb gmNil p0_.name (⟨3,(p1_.length:Int),0,p0_.params,p0_.ty⟩:Ent)):Qo Bs Ent).1) ((Jb gmNil p0_.name (⟨3,(p1_.length:Int),0,p0_.params,p0_.ty⟩:Ent)):Qo Bs Ent).2
noncomputable abbrev m47f10_h19 (p0_:List Dcl) (p1_:Qo Bs Ent) (p2_:Qo Bs Ent) (p3_:Dcl):List (Nat×HB) :=
 [(0,.cells 62 [dS p0_,.mp 1]),(1,.mp (J2 p1_.1) p1_.2),(2,.mp (J2 p2_.1) p2_.2),(3,.cells 45 (cE p3_)),(4,m47f10_h18 p3_ p0_),(5,.cells 60 [.mp 4]),(6,.cells 45 (cE p3_)),(7,.cells 3 [dI (p0_.length:Int)]),(8,.obj (.deferred (some []))),(9,Zf),(10,Y2 p0_ p3_)]
noncomputable abbrev m47f10_h20 (p0_:List Dcl) (p1_:Qo Bs Ent) (p2_:Qo Bs Ent) (p3_:Dcl) (p4_:Int×(Qo Bs Ent)) (p5_:Ctr):List (Nat×HB) :=
 [(0,.cells 62 [dS p0_,.mp 1]),(1,.mp (J2 p1_.1) p1_.2),(2,.mp (J2 p2_.1) p2_.2),(3,.cells 45 (cE p3_)),(4,.mp (J2 p4_.2.1) p4_.2.2),(5,.cells 60 [.mp 4]),(6,.cells 45 (cE p3_)),(7,.cells 3 [dI (p0_.length:Int)]),(8,.obj (.deferred (some []))),(9,Yg),(10,Y2 p0_ p3_),(12,.cells 71 (cE p5_))]
noncomputable abbrev m47f10_h21 (p0_:List Dcl) (p1_:Int×(Qo Bs Ent)) (p2_:Dcl) (p3_:Ctr):HB :=
 .cells 35 [dI 4,dI (p0_.length:Int),dI p1_.1,dI p2_.params,dI p3_.ty.kind,dI p3_.ty.index,J6 p3_.ty.name,dS p3_.ty.levels,dS p3_.ty.kids]
noncomputable abbrev m47f10_h22 (p0_:List Dcl) (p1_:Qo Bs Ent) (p2_:Qo Bs Ent) (p3_:Dcl) (p4_:Int×(Qo Bs Ent)) (p5_:Ctr):List (Nat×HB) :=
 [(0,.cells 62 [dS p0_,.mp 1]),(1,.mp (J2 p1_.1) p1_.2),(2,.mp (J2 p2_.1) p2_.2),(3,.cells 45 (cE p3_)),(4,.mp (J2 p4_.2.1) p4_.2.2),(5,.cells 60 [.mp 4]),(6,.cells 45 (cE p3_)),(7,.cells 3 [dI (p0_.length:Int)]),(8,.obj (.deferred (some []))),(9,Zf),(10,Y2 p0_ p3_),(12,.cells 71 (cE p5_)),(13,m47f10_h21 p0_ p4_ p3_ p5_)]
noncomputable abbrev m47f10_h23 (p0_:List Dcl) (p1_:Qo Bs Ent) (p2_:Qo Bs Ent) (p3_:Dcl) (p4_:Int×(Qo Bs Ent)) (p5_:Ctr):List (Nat×HB) :=
 [(0,.cells 62 [dS p0_,.mp 1]),(1,.mp (J2 p1_.1) p1_.2),(2,.mp (J2 p2_.1) p2_.2),(3,.cells 45 (cE p3_)),(4,.mp (J2 p4_.2.1) p4_.2.2),(5,.cells 60 [.mp 4]),(6,.cells 45 (cE p3_)),(7,.cells 3 [dI (p0_.length:Int)]),(8,.obj (.deferred (some []))),(9,Yg),(10,Y2 p0_ p3_),(12,.cells 71 (cE p5_)),(13,m47f10_h21 p0_ p4_ p3_ p5_)]
noncomputable abbrev m47f10_h24 (p0_:Int×(Qo Bs Ent)) (p1_:Ctr) (p2_:List Dcl) (p3_:Dcl):HB :=
 .mp (J2 ((Jb p0_.2 p1_.name (⟨4,(p2_.length:Int),p0_.1,p3_.params,p1_.ty⟩:Ent)):Qo Bs Ent).1) ((Jb p0_.2 p1_.name (⟨4,(p2_.length:Int),p0_.1,p3_.params,p1_.ty⟩:Ent)):Qo Bs Ent).2
noncomputable abbrev m47f10_h25 (p0_:List Dcl) (p1_:Qo Bs Ent) (p2_:Qo Bs Ent) (p3_:Dcl) (p4_:Int×(Qo Bs Ent)) (p5_:Ctr):List (Nat×HB) :=
 [(0,.cells 62 [dS p0_,.mp 1]),(1,.mp (J2 p1_.1) p1_.2),(2,.mp (J2 p2_.1) p2_.2),(3,.cells 45 (cE p3_)),(4,m47f10_h24 p4_ p5_ p0_ p3_),(5,.cells 60 [.mp 4]),(6,.cells 45 (cE p3_)),(7,.cells 3 [dI (p0_.length:Int)]),(8,.obj (.deferred (some []))),(9,Zf),(10,Y2 p0_ p3_),(12,.cells 71 (cE p5_))]
noncomputable abbrev m47f10_h26 (p0_:List Dcl) (p1_:Qo Bs Ent) (p2_:Qo Bs Ent) (p3_:Dcl) (p4_:(Qo Bs Ent)):List (Nat×HB) :=
 [(0,.cells 62 [dS p0_,.mp 1]),(1,.mp (J2 p1_.1) p1_.2),(2,.mp (J2 p2_.1) p2_.2),(3,.cells 45 (cE p3_)),(4,.mp (J2 p4_.1) p4_.2),(5,.cells 60 [.mp 4]),(6,.cells 45 (cE p3_)),(7,.cells 3 [dI (p0_.length:Int)]),(8,.obj (.deferred (some []))),(9,Yg),(10,Y2 p0_ p3_)]
noncomputable abbrev m47f10_h27 (p0_:List Dcl) (p1_:Dcl):HB :=
 .cells 35 [dI 5,dI (p0_.length:Int),dI 0,dI p1_.rcr.params,dI p1_.rcr.ty.kind,dI p1_.rcr.ty.index,J6 p1_.rcr.ty.name,dS p1_.rcr.ty.levels,dS p1_.rcr.ty.kids]
noncomputable abbrev m47f10_h28 (p0_:List Dcl) (p1_:Qo Bs Ent) (p2_:Qo Bs Ent) (p3_:Dcl) (p4_:(Qo Bs Ent)):List (Nat×HB) :=
 [(0,.cells 62 [dS p0_,.mp 1]),(1,.mp (J2 p1_.1) p1_.2),(2,.mp (J2 p2_.1) p2_.2),(3,.cells 45 (cE p3_)),(4,.mp (J2 p4_.1) p4_.2),(5,.cells 60 [.mp 4]),(6,.cells 45 (cE p3_)),(7,.cells 3 [dI (p0_.length:Int)]),(8,.obj (.deferred (some []))),(9,Zf),(10,Y2 p0_ p3_),(12,m47f10_h27 p0_ p3_)]
noncomputable abbrev m47f10_h29 (p0_:List Dcl) (p1_:Qo Bs Ent) (p2_:Qo Bs Ent) (p3_:Dcl) (p4_:(Qo Bs Ent)):List (Nat×HB) :=
 [(0,.cells 62 [dS p0_,.mp 1]),(1,.mp (J2 p1_.1) p1_.2),(2,.mp (J2 p2_.1) p2_.2),(3,.cells 45 (cE p3_)),(4,.mp (J2 p4_.1) p4_.2),(5,.cells 60 [.mp 4]),(6,.cells 45 (cE p3_)),(7,.cells 3 [dI (p0_.length:Int)]),(8,.obj (.deferred (some []))),(9,Yg),(10,Y2 p0_ p3_),(12,m47f10_h27 p0_ p3_)]
noncomputable abbrev m47f10_h30 (p0_:(Qo Bs Ent)) (p1_:Dcl) (p2_:List Dcl):HB :=
 .mp (J2 ((Jb p0_ (p1_.name++([46,114,101,99]:List UInt8)) (⟨5,(p2_.length:Int),0,p1_.rcr.params,p1_.rcr.ty⟩:Ent)):Qo Bs Ent).1) ((Jb p0_ (p1_.name++([46,114,101,99]:List UInt8)) (⟨5,(p2_.length:Int),0,p1_.rcr.params,p1_.rcr.ty⟩:Ent)):Qo Bs Ent).2
noncomputable abbrev m47f10_h31 (p0_:List Dcl) (p1_:Qo Bs Ent) (p2_:Qo Bs Ent) (p3_:Dcl) (p4_:(Qo Bs Ent)):List (Nat×HB) :=
 [(0,.cells 62 [dS p0_,.mp 1]),(1,.mp (J2 p1_.1) p1_.2),(2,.mp (J2 p2_.1) p2_.2),(3,.cells 45 (cE p3_)),(4,m47f10_h30 p4_ p3_ p0_),(5,.cells 60 [.mp 4]),(6,.cells 45 (cE p3_)),(7,.cells 3 [dI (p0_.length:Int)]),(8,.obj (.deferred (some []))),(9,Zf),(10,Y2 p0_ p3_)]
noncomputable abbrev m47f10_h32 (p0_:List Dcl) (p1_:Qo Bs Ent) (p2_:Qo Bs Ent) (p3_:Dcl) (p4_:Int×(Qo Bs Ent)) (p5_:Fn):List (Nat×HB) :=
 [(0,.cells 62 [dS p0_,.mp 1]),(1,.mp (J2 p1_.1) p1_.2),(2,.mp (J2 p2_.1) p2_.2),(3,.cells 45 (cE p3_)),(4,.mp (J2 p4_.2.1) p4_.2.2),(5,.cells 60 [.mp 4]),(6,.cells 45 (cE p3_)),(7,.cells 3 [dI (p0_.length:Int)]),(8,.obj (.deferred (some []))),(9,Yg),(10,Kd p0_ p3_),(11,.cells 76 (cE p5_))]
noncomputable abbrev m47f10_h33 (p0_:List Dcl) (p1_:Int×(Qo Bs Ent)) (p2_:Dcl) (p3_:Fn):HB :=
 .cells 35 [dI 6,dI (p0_.length:Int),dI p1_.1,dI p2_.params,dI p3_.ty.kind,dI p3_.ty.index,J6 p3_.ty.name,dS p3_.ty.levels,dS p3_.ty.kids]
noncomputable abbrev m47f10_h34 (p0_:List Dcl) (p1_:Qo Bs Ent) (p2_:Qo Bs Ent) (p3_:Dcl) (p4_:Int×(Qo Bs Ent)) (p5_:Fn):List (Nat×HB) :=
 [(0,.cells 62 [dS p0_,.mp 1]),(1,.mp (J2 p1_.1) p1_.2),(2,.mp (J2 p2_.1) p2_.2),(3,.cells 45 (cE p3_)),(4,.mp (J2 p4_.2.1) p4_.2.2),(5,.cells 60 [.mp 4]),(6,.cells 45 (cE p3_)),(7,.cells 3 [dI (p0_.length:Int)]),(8,.obj (.deferred (some []))),(9,Zf),(10,Kd p0_ p3_),(11,.cells 76 (cE p5_)),(12,m47f10_h33 p0_ p4_ p3_ p5_)]
noncomputable abbrev m47f10_h35 (p0_:List Dcl) (p1_:Qo Bs Ent) (p2_:Qo Bs Ent) (p3_:Dcl) (p4_:Int×(Qo Bs Ent)) (p5_:Fn):List (Nat×HB) :=
 [(0,.cells 62 [dS p0_,.mp 1]),(1,.mp (J2 p1_.1) p1_.2),(2,.mp (J2 p2_.1) p2_.2),(3,.cells 45 (cE p3_)),(4,.mp (J2 p4_.2.1) p4_.2.2),(5,.cells 60 [.mp 4]),(6,.cells 45 (cE p3_)),(7,.cells 3 [dI (p0_.length:Int)]),(8,.obj (.deferred (some []))),(9,Yg),(10,Kd p0_ p3_),(11,.cells 76 (cE p5_)),(12,m47f10_h33 p0_ p4_ p3_ p5_)]
noncomputable abbrev m47f10_h36 (p0_:Int×(Qo Bs Ent)) (p1_:Fn) (p2_:List Dcl) (p3_:Dcl):HB :=
 .mp (J2 ((Jb p0_.2 p1_.name (⟨6,(p2_.length:Int),p0_.1,p3_.params,p1_.ty⟩:Ent)):Qo Bs Ent).1) ((Jb p0_.2 p1_.name (⟨6,(p2_.length:Int),p0_.1,p3_.params,p1_.ty⟩:Ent)):Qo Bs Ent).2
noncomputable abbrev m47f10_h37 (p0_:List Dcl) (p1_:Qo Bs Ent) (p2_:Qo Bs Ent) (p3_:Dcl) (p4_:Int×(Qo Bs Ent)) (p5_:Fn):List (Nat×HB) :=
 [(0,.cells 62 [dS p0_,.mp 1]),(1,.mp (J2 p1_.1) p1_.2),(2,.mp (J2 p2_.1) p2_.2),(3,.cells 45 (cE p3_)),(4,m47f10_h36 p4_ p5_ p0_ p3_),(5,.cells 60 [.mp 4]),(6,.cells 45 (cE p3_)),(7,.cells 3 [dI (p0_.length:Int)]),(8,.obj (.deferred (some []))),(9,Zf),(10,Kd p0_ p3_),(11,.cells 76 (cE p5_))]
noncomputable abbrev m47f10_h38 (p0_:Qo Bs Ent) (p1_:Dcl) (p2_:(Qo Bs Ent)):HB :=
 .mp (J2 ((Jb p0_ p1_.name (⟨(Qy p2_ p1_.name).kind,(Qy p2_ p1_.name).decl,(Qy p2_ p1_.name).item,(Qy p2_ p1_.name).params,((Qy p2_ p1_.name).ty)⟩:Ent)):Qo Bs Ent).1) ((Jb p0_ p1_.name (⟨(Qy p2_ p1_.name).kind,(Qy p2_ p1_.name).decl,(Qy p2_ p1_.name).item,(Qy p2_ p1_.name).params,((Qy p2_ p1_.name).ty)⟩:Ent)):Qo Bs Ent).2
noncomputable abbrev m47f10_h39 (p0_:List Dcl) (p1_:Qo Bs Ent) (p2_:Qo Bs Ent) (p3_:Dcl) (p4_:(Qo Bs Ent)):List (Nat×HB) :=
 [(0,.cells 62 [dS p0_,.mp 1]),(1,.mp (J2 p1_.1) p1_.2),(2,m47f10_h38 p2_ p3_ p4_),(3,.cells 45 (cE p3_)),(4,.mp (J2 p4_.1) p4_.2),(5,.cells 60 [.mp 4]),(6,.cells 45 (cE p3_)),(7,.cells 3 [dI (p0_.length:Int)])]
noncomputable abbrev m47f10_h40 (p0_:Dcl) (p1_:(Qo Bs Ent)) (p2_:List Dcl) (p3_:Ctr):List (Nat×HB) :=
 [(3,.cells 45 (cE p0_)),(4,.mp (J2 p1_.1) p1_.2),(5,.cells 60 [.mp 4]),(6,.cells 45 (cE p0_)),(7,.cells 3 [dI (p2_.length:Int)]),(11,.cells 71 (cE p3_))]
noncomputable abbrev m47f10_h41 (p0_:List Dcl) (p1_:Qo Bs Ent) (p2_:Qo Bs Ent) (p3_:Dcl) (p4_:(Qo Bs Ent)):List (Nat×HB) :=
 [(0,.cells 62 [dS p0_,.mp 1]),(1,.mp (J2 p1_.1) p1_.2),(2,m47f10_h38 p2_ p3_ p4_)]
noncomputable abbrev m47f10_h42 (p0_:Dcl) (p1_:(Qo Bs Ent)) (p2_:List Dcl):List (Nat×HB) :=
 [(3,.cells 45 (cE p0_)),(4,.mp (J2 p1_.1) p1_.2),(5,.cells 60 [.mp 4]),(6,.cells 45 (cE p0_)),(7,.cells 3 [dI (p2_.length:Int)])]
noncomputable abbrev m47f10_h43 (p0_:(Qo Bs Ent)) (p1_:Dcl) (p2_:(Qo Bs Ent)):HB :=
 .mp (J2 ((Jb p0_ (p1_.name++([46,114,101,99]:List UInt8)) (⟨(Qy p2_ (p1_.name++([46,114,101,99]:List UInt8))).kind,(Qy p2_ (p1_.name++([46,114,101,99]:List UInt8))).decl,(Qy p2_ (p1_.name++([46,114,101,99]:List UInt8))).item,(Qy p2_ (p1_.name++([46,114,101,99]:List UInt8))).params,((Qy p2_ (p1_.name++([46,114,101,99]:List UInt8))).ty)⟩:Ent)):Qo Bs Ent).1) ((Jb p0_ (p1_.name++([46,114,101,99]:List UInt8)) (⟨(Qy p2_ (p1_.name++([46,114,101,99]:List UInt8))).kind,(Qy p2_ (p1_.name++([46,114,101,99]:List UInt8))).decl,(Qy p2_ (p1_.name++([46,114,101,99]:List UInt8))).item,(Qy p2_ (p1_.name++([46,114,101,99]:List UInt8))).params,((Qy p2_ (p1_.name++([46,114,101,99]:List UInt8))).ty)⟩:Ent)):Qo Bs Ent).2
noncomputable abbrev m47f10_h44 (p0_:List Dcl) (p1_:Qo Bs Ent) (p2_:(Qo Bs Ent)) (p3_:Dcl) (p4_:(Qo Bs Ent)):List (Nat×HB) :=
 [(0,.cells 62 [dS p0_,.mp 1]),(1,.mp (J2 p1_.1) p1_.2),(2,m47f10_h43 p2_ p3_ p4_),(3,.cells 45 (cE p3_)),(4,.mp (J2 p4_.1) p4_.2),(5,.cells 60 [.mp 4]),(6,.cells 45 (cE p3_)),(7,.cells 3 [dI (p0_.length:Int)])]
noncomputable abbrev m47f10_h45 (p0_:Dcl) (p1_:(Qo Bs Ent)) (p2_:List Dcl) (p3_:Tm):List (Nat×HB) :=
 [(3,.cells 45 (cE p0_)),(4,.mp (J2 p1_.1) p1_.2),(5,.cells 60 [.mp 4]),(6,.cells 45 (cE p0_)),(7,.cells 3 [dI (p2_.length:Int)]),(19,.cells 33 (cE p3_))]
noncomputable abbrev m47f10_h46 (p0_:List Dcl) (p1_:Qo Bs Ent) (p2_:(Qo Bs Ent)) (p3_:Dcl) (p4_:(Qo Bs Ent)):List (Nat×HB) :=
 [(0,.cells 62 [dS p0_,.mp 1]),(1,.mp (J2 p1_.1) p1_.2),(2,m47f10_h43 p2_ p3_ p4_)]
noncomputable abbrev m47f10_h47 (p0_:List Dcl) (p1_:Qo Bs Ent) (p2_:(Qo Bs Ent)):List (Nat×HB) :=
 [(0,.cells 62 [dS p0_,.mp 1]),(1,.mp (J2 p1_.1) p1_.2),(2,.mp (J2 p2_.1) p2_.2)]
noncomputable abbrev m47f10_h48 (p0_:List Dcl) (p1_:Qo Bs Ent) (p2_:Qo Bs Ent):List (Nat×HB) :=
 [(0,.cells 62 [dS p0_,.mp 1]),(1,.mp (J2 p1_.1) p1_.2),(2,.mp (J2 p2_.1) p2_.2)]
noncomputable def WV (a0:Dcl) (a1:List Dcl) (a2:Qo Bs Ent) (a3:Qo Bs Ent):Option (((Qo Bs Ent))⊕(Int×(Qo Bs Ent))) :=
 Option.bind (some ()) (fun (y1:Unit)=>Option.bind (Option.bind (cond (a0.kind==0)
   (some (a0.kind==0))
   (cond (a0.kind==1)
   (some (a0.kind==1))
   (some (a0.kind==2)))) (fun (v5:Bool)=>m47f10_k3 v5 a0 a1)) (fun (y3:(Qo Bs Ent))=>Option.bind (QE (KU a0 a1 a2 a3 y3) QU 0) (Sum.elim (fun (o36:Unit)=>KV a0 y3 a3 a1 a2) (fun o=>some o))))
theorem m47f10_ok (a0:Dcl) (a1:List Dcl) (a2:Qo Bs Ent) (a3:Qo Bs Ent) (r:((Qo Bs Ent))⊕(Int×(Qo Bs Ent))) (h0:WV a0 a1 a2 a3=some r):CallE Try.prog 47 [.one (.ptr 0 0),.agg (cE a0),.one (.mp 2)] ⟨m47f10_h48 a1 a2 a3,[],3⟩ ((Sum.elim (fun (r0:(Qo Bs Ent))=>((.ret []):EK)) (fun (r1:Int×(Qo Bs Ent))=>((.pan (QT 90 r1.1)):EK))) r) ⟨((Sum.elim (fun (r0:(Qo Bs Ent))=>(⟨[],[(0,.cells 62 [dS a1,.mp 1]),(1,.mp (J2 a2.1) a2.2),(2,.mp (J2 r0.1) r0.2)],[],19,99,[]⟩:St)) (fun (r1:Int×(Qo Bs Ent))=>(⟨[],[(0,.cells 62 [dS a1,.mp 1]),(1,.mp (J2 a2.1) a2.2),(2,.mp (J2 r1.2.1) r1.2.2)],[],14,99,[]⟩:St))) r).hp,((Sum.elim (fun (r0:(Qo Bs Ent))=>(⟨[],[(0,.cells 62 [dS a1,.mp 1]),(1,.mp (J2 a2.1) a2.2),(2,.mp (J2 r0.1) r0.2)],[],19,99,[]⟩:St)) (fun (r1:Int×(Qo Bs Ent))=>(⟨[],[(0,.cells 62 [dS a1,.mp 1]),(1,.mp (J2 a2.1) a2.2),(2,.mp (J2 r1.2.1) r1.2.2)],[],14,99,[]⟩:St))) r).tk,((Sum.elim (fun (r0:(Qo Bs Ent))=>(⟨[],[(0,.cells 62 [dS a1,.mp 1]),(1,.mp (J2 a2.1) a2.2),(2,.mp (J2 r0.1) r0.2)],[],19,99,[]⟩:St)) (fun (r1:Int×(Qo Bs Ent))=>(⟨[],[(0,.cells 62 [dS a1,.mp 1]),(1,.mp (J2 a2.1) a2.2),(2,.mp (J2 r1.2.1) r1.2.2)],[],14,99,[]⟩:St))) r).nx⟩:=by
 unfold WV at h0
 refine Y0 r ((Sum.elim (fun (r0:(Qo Bs Ent))=>(⟨[],[(0,.cells 62 [dS a1,.mp 1]),(1,.mp (J2 a2.1) a2.2),(2,.mp (J2 r0.1) r0.2)],[],19,99,[]⟩:St)) (fun (r1:Int×(Qo Bs Ent))=>(⟨[],[(0,.cells 62 [dS a1,.mp 1]),(1,.mp (J2 a2.1) a2.2),(2,.mp (J2 r1.2.1) r1.2.2)],[],14,99,[]⟩:St)))) ((Sum.elim (fun (r0:(Qo Bs Ent))=>((.ret []):EK)) (fun (r1:Int×(Qo Bs Ent))=>((.pan (QT 90 r1.1)):EK)))) rfl rfl en_47 (lb rfl) (fun z_=>by cases z_ with
 | inl _=>exact rfl
 | inr _=>exact rfl) (fun z_=>by cases z_ with
 | inl _=>exact (De .nil)
 | inr _=>exact Dn) (fun w0 M V0 Q hv0 hQ0=>?_)
 simp only [J3]
 refine Q4<|Q0<|Qb Z Z (lb Z) (QN Z)<|Q5<|Q3<|Q4<|Q0<|Qb Z Z (lb Z) (OpOK.makeMapG Bs Ent)<|Qb Z Z (lb Z) (Qv z_60 Z)<|QC Z Z (Qz YI Z Z Z Z (lb Z) Z)<|Q5<|Q3<|Q4<|Q4 ?_
 refine J4 [6] [] JV (by kernel_rfl) (by kernel_rfl) (by kernel_rfl) ?_
 refine RunA.rd Z Z Z (Q1 (QH (a0:Dcl) Jq Z Z)) Z<|RunA.rd Z Z Z (Q1 (Qq Z)) Z<|RunA.rd Z Z Z (Q1 (JB Z)) Z<|RunA.rd Z Z Z (Q1 (Q2 fo_62_0 Z)) Z<|RunA.rd Z Z Z (Q1 (Q6 U8 Z Z Z)) Z<|RunA.rd Z Z Z (Q1 (Qx (α:=Dcl) YE Z (.d _))) Z ?_
 refine Qd h0 (fun y1 h1 h0=>?_)
 have hc2:CallM Try.prog 31 [.agg (cE a0),.one (dI (a1.length:Int))] ⟨m47f10_h1 a1 a2 a3 a0,[],6⟩ (QM [.one (.fn 49 [(7,0),(6,0)])]) ⟨m47f10_h2 a1 a2 a3 a0,[],8⟩:=by
  refine Jl ⟨[(4,.v (.one (.fn 49 [(7,0),(6,0)])))],m47f10_h2 a1 a2 a3 a0,[],8,6,[]⟩ Z Z en_31 (lb Z) Z (Qm Z .nil) (fun w0 M V0 Q hv1 hQ1=>?_)
  simp only [J3]
  refine Q4<|Q0<|Qb Z Z (lb Z) (QN Z)<|Qb Z Z (lb Z) (QN Z)<|rA Z Z Z<|Q5<|Q3<|Q4<|Q0<|rR Z Z Z (RO.makeFunc2 Z Z)<|rA Z Z Z<|Q5<|Q3<|Qp ?_
  have e:=sI h1;subst e
  exact hQ1 _ _ _ (.inr Z) Z (QV (tA Z) (hA Z) kZ Z (Nat.le_trans hv1 (lb Z)) Z Z Z (bB Z Z (bG Z (bG Z (bB Z Z (bG Z (bA Z)))))) Z Z)
 refine RunA.eff Z Z Z (Yf Z Z Z hc2 Z (hA Z) kZ) Z ?_
 refine RunA.nil ⟨?ex,_,_,Z,?_⟩
 case ex=>exact trivial
 refine Jp (st':=⟨[(0,.v (.one (.ptr 0 0))),(2,.v (.one (.mp 2))),(4,.v (.one (.ptr 3 0))),(6,.v (.one (.ptr 5 0))),(23,.v (.one (.fn 49 [(7,0),(6,0)])))],m47f10_h2 a1 a2 a3 a0,[],8,99,[]⟩) (QV (tA Z) (hA Z) kZ Z (Nat.le_trans hv0 (lb Z)) Z Z Z (bB Z Z (bG Z (bG Z (bB Z Z (bG Z (bA Z)))))) Z Z)<|Q3<|Ql<|Xg (st':=⟨[(0,.v (.one (.ptr 0 0))),(2,.v (.one (.mp 2))),(4,.v (.one (.ptr 3 0))),(6,.v (.one (.ptr 5 0))),(23,.v (.one (.fn 49 [(7,0),(6,0)])))],m47f10_h2 a1 a2 a3 a0,[],8,99,[]⟩) (QV (tA Z) (hA Z) kZ Z (Nat.le_trans hv0 (lb Z)) Z Z Z (bB Z Z (bG Z (bG Z (bB Z Z (bG Z (bA Z)))))) Z Z) ?_
 refine Qd h0 (fun y3 h1 h0=>?_)
 have hc4:CallM Try.prog 49 [.one (.yld 9),.one (.ptr 7 0),.one (.ptr 6 0)] ⟨[(9,.loop .ready none [(0,.v (.one (.ptr 0 0))),(2,.v (.one (.mp 2))),(4,.v (.one (.ptr 3 0))),(6,.v (.one (.ptr 5 0))),(23,.v (.one (.fn 49 [(7,0),(6,0)])))] 99 #[24,25] ZI ZH 8),(8,.obj (.deferred (some []))),(0,.cells 62 [dS a1,.mp 1]),(1,.mp (J2 a2.1) a2.2),(2,.mp (J2 a3.1) a3.2),(3,.cells 45 (cE a0)),(4,.mp (J2 (gmNil:Qo Bs Ent).1) (gmNil:Qo Bs Ent).2),(5,.cells 60 [.mp 4]),(6,.cells 45 (cE a0)),(7,.cells 3 [dI (a1.length:Int)])],[],10⟩ (QM []) ⟨m47f10_h4 a1 a2 a3 a0 y3,[],11⟩:=by
  refine Jl ⟨[],m47f10_h4 a1 a2 a3 a0 y3,[],11,98,[]⟩ Z Z en_49 (lb Z) Z .nil (fun w0 M V0 Q hv1 hQ1=>?_)
  simp only [J3]
  refine Q4<|Q0<|rR Z Z Z (Q6 QG Z Z Z)<|rR Z Z Z (Q2 Jz Z)<|rR Z Z Z (Q6 QG Z Z Z)<|rR Z Z Z (Q2 Zl Z)<|rR Z Z Z (Qi QR Z Z Z Z)<|rR Z Z Z (ZN Zs Z Z Z Z Z)<|Qb Z Z (lb Z) (Qv Z7 Z)<|QC Z Z (Qz J8 Z Z Z Z (lb Z) Z)<|Q5<|Q3<|Q4<|Q0 ?_
  refine rR Z Z Z (Q2 JN Z)<|rR Z Z Z (Q6 QG Z Z Z)<|Q5<|Q3<|Ql<|Q4<|Q4<|Q0<|rR Z Z Z (Q8 Z Z Z)<|rA Z Z Z<|Q5<|Q3 ?_
  refine QD (fun (v5:Bool)=>⟨[(0,.v (.one (.yld 9))),(1,.v (.one (.ptr 7 0))),(2,.v (.one (.ptr 6 0))),(4,.v (.one (.ptr 10 0))),(16,.v (.one (dI a0.kind))),(17,.v (.one (dB v5)))],m47f10_h6 a1 a2 a3 a0,[],11,98,[]⟩) (fun (v5:Bool)=>(m47f10_k3 v5 a0 a1)=some y3) ?_ ?_
  refine Qd h1 (fun w2_ h2 h1=>?_)
  refine Qe (b:=(a0.kind==0)) Z (fun c6=>?_) (fun c6=>?_)
  replace h2:=Qf c6 h2
  refine Qj ?_
  have e:=sI h2;subst e
  exact Q9 (a0.kind==0) (QV (tA Z) (hA Z) kZ Z (Nat.le_trans hv1 (lb Z)) Z Z Z (bB Z Z (bG Z (bG Z (bB Z Z (bG Z (bA Z)))))) Z Z) h1
  replace h2:=Qg c6 h2
  refine Q4<|Q0<|rR Z Z Z (Q8 Z Z Z)<|rA Z Z Z<|Q5<|Q3 ?_
  refine Qe (b:=(a0.kind==1)) Z (fun c7=>?_) (fun c7=>?_)
  replace h2:=Qf c7 h2
  refine Qj ?_
  have e:=sI h2;subst e
  exact Q9 (a0.kind==1) (QV (tA Z) (hA Z) kZ Z (Nat.le_trans hv1 (lb Z)) Z Z Z (bB Z Z (bG Z (bG Z (bB Z Z (bG Z (bA Z)))))) Z Z) h1
  replace h2:=Qg c7 h2
  refine Q0<|rR Z Z Z (Q8 Z Z Z)<|rA Z Z Z<|Q5 ?_
  have e:=sI h2;subst e
  exact Q9 (a0.kind==2) (QV (tA Z) (hA Z) kZ Z (Nat.le_trans hv1 (lb Z)) Z Z Z (bB Z Z (bG Z (bG Z (bB Z Z (bG Z (bA Z)))))) Z Z) h1
  intro v5 h1
  unfold m47f10_k3 at h1
  refine Q3 ?_
  refine Qe (b:=v5) Z (fun c8=>?_) (fun c8=>?_)
  replace h1:=Qf c8 h1
  refine Q4<|Q0<|Qb Z Z (lb Z) (OpOK.lit3E (α:=Int) 0 1 2 U5 z_3 Z Z (lb Z) (lb Z) Z Z Z Z (.cons (.d _) (.cons (.d _) (.cons (.d _) .nil))) ⟨Z,Z,Z⟩)<|rR Z Z Z (Q2 JN Z)<|rR Z Z Z (Q6 QG Z Z Z) ?_
  refine Qd h1 (fun x9 hx9 h1=>?_)
  refine rR Z Z Z (Qt (α:=Int) U5 Z (.app _ _) Z hx9)<|rR Z Z Z (Jj QG Z Z)<|rR Z Z Z (Q2 Yx Z)<|QC Z Z (Qz QG Z Z Z Z (lb Z) Z)<|Q5<|Q3<|Q0<|rM Z Z Z<|rR Z Z Z (Q2 JY Z)<|rR Z Z Z (Q6 JG Z Z Z)<|rR Z Z Z (Qi J8 Z Z Z Z) ?_
  refine Qd h1 (fun y10 h2 h1=>?_)
  have ha11:ExecOK Try.prog (some 9) ZI ⟨[(0,.v (.one (.ptr 0 0))),(2,.v (.one (.mp 2))),(4,.v (.one (.ptr 3 0))),(6,.v (.one (.ptr 5 0))),(23,.v (.one (.fn 49 [(7,0),(6,0)]))),(24,.v (.one (J6 a0.name))),(25,.v (.agg [dI x9,dI (a1.length:Int),dI 0,dI a0.params,dI a0.ty.kind,dI a0.ty.index,J6 a0.ty.name,dS a0.ty.levels,dS a0.ty.kids]))],m47f10_h8 a1 a2 a3 a0 x9,[(11,some ⟨3,1,(Enc.encL ([0,1,2]:List Int)).length,[]⟩)],12,99,[]⟩ .normal ⟨[(6,.v (.one (.ptr 5 0))),(7,.v (.one (J6 a0.name))),(8,.v (.one (.ptr 12 0)))],m47f10_h11 a1 a2 a3 a0 x9,[(11,some ⟨3,1,(Enc.encL ([0,1,2]:List Int)).length,[]⟩)],13,99,[]⟩:=by
   refine QZ (fun w0 M V0 ro n Q hv2 hro2 hQn2=>?_)
   refine Q4<|Q0<|rA Z Z Z<|Q5<|Q3<|Q0<|Qb Z Z (lb Z) (Qv Z7 Z)<|QC Z Z (Qz J8 Z Z Z Z (lb Z) Z)<|Q5 ?_
   exact JO hQn2 (QV (tA Z) (hA Z) (kA Z) Z (Nat.le_trans hv2 (lb Z)) Z Z Z (bB Z Z (bG Z (bG Z (bB Z Z (bG Z (bA Z)))))) Z Z)
  have hb12:ExecOK Try.prog (some 9) ZH ⟨[(6,.v (.one (.ptr 5 0))),(7,.v (.one (J6 a0.name))),(8,.v (.one (.ptr 12 0)))],m47f10_h10 a1 a2 a3 a0 x9,[(11,some ⟨3,1,(Enc.encL ([0,1,2]:List Int)).length,[]⟩)],13,99,[]⟩ .normal ⟨[],m47f10_h13 a1 a2 a3 a0 x9,[(11,some ⟨3,1,(Enc.encL ([0,1,2]:List Int)).length,[]⟩)],13,99,[]⟩:=by
   refine QZ (fun w0 M V0 ro n Q hv2 hro2 hQn2=>?_)
   refine Ql<|Q0<|rR Z Z Z (Q6 YI Z Z Z)<|rM Z Z Z<|rR Z Z Z (Qi J8 Z Z Z Z)<|QC Z Z (Jw (M:=gmNil) (k:=a0.name) (v:=(⟨x9,(a1.length:Int),0,a0.params,a0.ty⟩:Ent)) Z0 Z Z Z Z Z)<|Q5<|Qk ?_
   have e:=sI h2;subst e
   exact JO hQn2 (QV tZ (hA Z) (kA Z) Z (Nat.le_trans hv2 (lb Z)) Z Z Z (bB Z Z (bG Z (bG Z (bB Z Z (bG Z (bA Z)))))) Z Z)
  refine Qb Z Z (lb Z) (Jm (jump:=none) Z Z Z Z Z (QK ha11 (fun E hv=>(QV (tA Z) (hA Z) (kA Z) Z (Nat.le_trans hv (lb Z)) Z Z Z (bB Z Z (bG Z (bG Z (bB Z Z (bG Z (bA Z)))))) Z Z))) Z (QK hb12 (fun E hv=>(QV (tA Z) (hA Z) (kA Z) Z (Nat.le_trans hv (lb Z)) Z Z Z (bB Z Z (bG Z (bG Z (bB Z Z (bG Z (bA Z)))))) Z Z))) Z Z) ?_
  refine Q5<|Qk ?_
  have e:=sI h1;subst e
  exact hQ1 _ _ _ (.inl Z) Z (QV tZ (hA Z) kZ Z (Nat.le_trans hv1 (lb Z)) Z Z Z (bB Z Z (bG Z (bG Z (bB Z Z (bG Z (bA Z)))))) Z Z)
  replace h1:=Qg c8 h1
  refine Q4<|Q0<|rR Z Z Z (Q8 Z Z Z)<|rA Z Z Z<|Q5<|Q3 ?_
  refine Qe (b:=(a0.kind==3)) Z (fun c13=>?_) (fun c13=>?_)
  replace h1:=Qf c13 h1
  refine Q4<|Q0<|rR Z Z Z (Q2 Yx Z)<|QC Z Z (Qz QG Z Z Z Z (lb Z) Z)<|Q5<|Q3<|Q4<|Q4<|Q0<|rM Z Z Z<|rR Z Z Z (Q2 JY Z)<|rR Z Z Z (Q6 JG Z Z Z)<|rR Z Z Z (Qi J8 Z Z Z Z) ?_
  refine Qd h1 (fun y14 h2 h1=>?_)
  have ha15:ExecOK Try.prog (some 9) ZI ⟨[(0,.v (.one (.ptr 0 0))),(2,.v (.one (.mp 2))),(4,.v (.one (.ptr 3 0))),(6,.v (.one (.ptr 5 0))),(23,.v (.one (.fn 49 [(7,0),(6,0)]))),(24,.v (.one (J6 a0.name))),(25,.v (.agg [dI 3,dI (a1.length:Int),dI 0,dI a0.params,dI a0.ty.kind,dI a0.ty.index,J6 a0.ty.name,dS a0.ty.levels,dS a0.ty.kids]))],m47f10_h15 a1 a2 a3 a0,[],11,99,[]⟩ .normal ⟨[(6,.v (.one (.ptr 5 0))),(7,.v (.one (J6 a0.name))),(8,.v (.one (.ptr 11 0)))],m47f10_h17 a1 a2 a3 a0,[],12,99,[]⟩:=by
   refine QZ (fun w0 M V0 ro n Q hv2 hro2 hQn2=>?_)
   refine Q4<|Q0<|rA Z Z Z<|Q5<|Q3<|Q0<|Qb Z Z (lb Z) (Qv Z7 Z)<|QC Z Z (Qz J8 Z Z Z Z (lb Z) Z)<|Q5 ?_
   exact JO hQn2 (QV (tA Z) (hA Z) kZ Z (Nat.le_trans hv2 (lb Z)) Z Z Z (bB Z Z (bG Z (bG Z (bB Z Z (bG Z (bA Z)))))) Z Z)
  have hb16:ExecOK Try.prog (some 9) ZH ⟨[(6,.v (.one (.ptr 5 0))),(7,.v (.one (J6 a0.name))),(8,.v (.one (.ptr 11 0)))],m47f10_h16 a1 a2 a3 a0,[],12,99,[]⟩ .normal ⟨[],m47f10_h19 a1 a2 a3 a0,[],12,99,[]⟩:=by
   refine QZ (fun w0 M V0 ro n Q hv2 hro2 hQn2=>?_)
   refine Ql<|Q0<|rR Z Z Z (Q6 YI Z Z Z)<|rM Z Z Z<|rR Z Z Z (Qi J8 Z Z Z Z)<|QC Z Z (Jw (M:=gmNil) (k:=a0.name) (v:=(⟨3,(a1.length:Int),0,a0.params,a0.ty⟩:Ent)) Z0 Z Z Z Z Z)<|Q5<|Qk ?_
   have e:=sI h2;subst e
   exact JO hQn2 (QV tZ (hA Z) kZ Z (Nat.le_trans hv2 (lb Z)) Z Z Z (bB Z Z (bG Z (bG Z (bB Z Z (bG Z (bA Z)))))) Z Z)
  refine Qb Z Z (lb Z) (Jm (jump:=none) Z Z Z Z Z (QK ha15 (fun E hv=>(QV (tA Z) (hA Z) kZ Z (Nat.le_trans hv (lb Z)) Z Z Z (bB Z Z (bG Z (bG Z (bB Z Z (bG Z (bA Z)))))) Z Z))) Z (QK hb16 (fun E hv=>(QV (tA Z) (hA Z) kZ Z (Nat.le_trans hv (lb Z)) Z Z Z (bB Z Z (bG Z (bG Z (bB Z Z (bG Z (bA Z)))))) Z Z))) Z Z) ?_
  refine rR Z Z Z (Jc Z)<|Q5<|Q3 ?_
  refine Qe Z (fun h=>nomatch h) (fun _=>?_)
  refine Qj<|Q3<|Q4<|Q4<|Q0<|rR Z Z Z (Q2 Js Z)<|rR Z Z Z (Q6 Yd Z Z Z)<|rR Z Z Z (Qx (α:=Ctr) JX Z (.d _))<|rM Z Z Z<|Q5<|Q3<|Ql ?_
  refine QQ 1 (fun (o17:(Qo Bs Ent))=>⟨[(0,.v (.one (.yld 9))),(1,.v (.one (.ptr 7 0))),(2,.v (.one (.ptr 6 0)))],[(0,.cells 62 [dS a1,.mp 1]),(1,.mp (J2 a2.1) a2.2),(2,.mp (J2 a3.1) a3.2),(3,.cells 45 (cE a0)),(4,.mp (J2 o17.1) o17.2),(5,.cells 60 [.mp 4]),(6,.cells 45 (cE a0)),(7,.cells 3 [dI (a1.length:Int)]),(8,.obj (.deferred (some []))),(9,Yg),(10,Y2 a1 a0)],[],12,98,[]⟩) (fun (o17:(Qo Bs Ent))=>(m47f10_k1 a0 o17 a1)=some y3) ?_ ?_
  refine Qd h1 (fun o18 hl2 h1=>?_)
  refine QP (m47f10_l0 a0 a1) (fun s2=>⟨[(0,.v (.one (.yld 9))),(1,.v (.one (.ptr 7 0))),(2,.v (.one (.ptr 6 0))),(42,.v (.one (dS a0.ctors))),(43,.v (.one (dI (a0.ctors.length:Int)))),(44,.v (.one (dI s2.1)))],[(0,.cells 62 [dS a1,.mp 1]),(1,.mp (J2 a2.1) a2.2),(2,.mp (J2 a3.1) a3.2),(3,.cells 45 (cE a0)),(4,.mp (J2 s2.2.1) s2.2.2),(5,.cells 60 [.mp 4]),(6,.cells 45 (cE a0)),(7,.cells 3 [dI (a1.length:Int)]),(8,.obj (.deferred (some []))),(9,Yg),(10,Y2 a1 a0)],[],12,98,[]⟩) (0,(Jb gmNil a0.name (⟨3,(a1.length:Int),0,a0.params,a0.ty⟩:Ent))) o18 (QV (tA Z) (hA Z) kZ Z (Nat.le_trans hv1 (lb Z)) Z Z Z (bB Z Z (bG Z (bG Z (bB Z Z (bG Z (bA Z)))))) Z Z) hl2 (fun s2 n2 oo2 h2 ho2=>?_)
  unfold m47f10_l0 at h2
  refine Q4<|Q0<|rR Z Z Z (Q8 Z Z Z)<|Q5<|Q3<|Q4 ?_
  refine Qe (b:=(decide (s2.1 < (a0.ctors.length:Int)))) Z (fun c19=>?_) (fun c19=>?_)
  replace h2:=Qf c19 h2
  refine Qj<|Q3<|Q4<|Ql<|Q4<|Q0<|rM Z Z Z ?_
  refine Qd h2 (fun x20 hx20 h2=>?_)
  refine rR Z Z Z (Qt (α:=Ctr) JX Z (.d _) Z hx20)<|rR Z Z Z (Qu (x20:Ctr) KD Z)<|Qb Z Z (lb Z) (Qv UN Z)<|rA Z Z Z<|QC Z Z (QA (x20:Ctr) KD Z Z Z Z Z)<|Q5<|Q3<|Q4<|Q0<|rM Z Z Z<|rR Z Z Z (Q2 ZB Z)<|rR Z Z Z (Q6 JG Z Z Z)<|rR Z Z Z (Q6 QG Z Z Z)<|rM Z Z Z ?_
  refine rR Z Z Z (Q2 Jz Z)<|rR Z Z Z (Q6 QG Z Z Z)<|rR Z Z Z (Q2 Za Z)<|rR Z Z Z (Qi QR Z Z Z Z)<|rR Z Z Z (Y1 Zs Z (.cons Z (.cons Z (.cons Z (.cons Z (.cons Z .nil))))) Z) ?_
  refine Qd h2 (fun y21 h3 h2=>?_)
  have ha22:ExecOK Try.prog (some 9) ZI ⟨[(0,.v (.one (.ptr 0 0))),(2,.v (.one (.mp 2))),(4,.v (.one (.ptr 3 0))),(6,.v (.one (.ptr 5 0))),(23,.v (.one (.fn 49 [(7,0),(6,0)]))),(24,.v (.one (J6 x20.name))),(25,.v (.agg [dI 4,dI (a1.length:Int),dI s2.1,dI a0.params,dI x20.ty.kind,dI x20.ty.index,J6 x20.ty.name,dS x20.ty.levels,dS x20.ty.kids]))],m47f10_h20 a1 a2 a3 a0 s2 x20,[],13,99,[]⟩ .normal ⟨[(6,.v (.one (.ptr 5 0))),(7,.v (.one (J6 x20.name))),(8,.v (.one (.ptr 13 0)))],m47f10_h23 a1 a2 a3 a0 s2 x20,[],14,99,[]⟩:=by
   refine QZ (fun w0 M V0 ro n Q hv3 hro3 hQn3=>?_)
   refine Q4<|Q0<|rA Z Z Z<|Q5<|Q3<|Q0<|Qb Z Z (lb Z) (Qv Z7 Z)<|QC Z Z (Qz J8 Z Z Z Z (lb Z) Z)<|Q5 ?_
   exact JO hQn3 (QV (tA Z) (hA Z) kZ Z (Nat.le_trans hv3 (lb Z)) Z Z Z (bB Z Z (bG Z (bG Z (bB Z Z (bG Z (bA Z)))))) Z Z)
  have hb23:ExecOK Try.prog (some 9) ZH ⟨[(6,.v (.one (.ptr 5 0))),(7,.v (.one (J6 x20.name))),(8,.v (.one (.ptr 13 0)))],m47f10_h22 a1 a2 a3 a0 s2 x20,[],14,99,[]⟩ .normal ⟨[],m47f10_h25 a1 a2 a3 a0 s2 x20,[],14,99,[]⟩:=by
   refine QZ (fun w0 M V0 ro n Q hv3 hro3 hQn3=>?_)
   refine Ql<|Q0<|rR Z Z Z (Q6 YI Z Z Z)<|rM Z Z Z<|rR Z Z Z (Qi J8 Z Z Z Z)<|QC Z Z (Jw (M:=s2.2) (k:=x20.name) (v:=(⟨4,(a1.length:Int),s2.1,a0.params,x20.ty⟩:Ent)) Z0 Z Z Z Z Z)<|Q5<|Qk ?_
   have e:=sI h3;subst e
   exact JO hQn3 (QV tZ (hA Z) kZ Z (Nat.le_trans hv3 (lb Z)) Z Z Z (bB Z Z (bG Z (bG Z (bB Z Z (bG Z (bA Z)))))) Z Z)
  refine Qb Z Z (lb Z) (Jm (jump:=none) Z Z Z Z Z (QK ha22 (fun E hv=>(QV (tA Z) (hA Z) kZ Z (Nat.le_trans hv (lb Z)) Z Z Z (bB Z Z (bG Z (bG Z (bB Z Z (bG Z (bA Z)))))) Z Z))) Z (QK hb23 (fun E hv=>(QV (tA Z) (hA Z) kZ Z (Nat.le_trans hv (lb Z)) Z Z Z (bB Z Z (bG Z (bG Z (bB Z Z (bG Z (bA Z)))))) Z Z))) Z Z) ?_
  refine rR Z Z Z (Jc Z)<|Q5<|Q3 ?_
  refine Qe Z (fun h=>nomatch h) (fun _=>?_)
  refine Qj<|Qk<|Q3<|Q0<|rR Z Z Z (Q8 Z Z Z)<|rM Z Z Z<|Q5 ?_
  have e:=sI h2;subst e
  refine QJ ((Ja (s2.1+1)),(Jb s2.2 x20.name (⟨4,(a1.length:Int),s2.1,a0.params,x20.ty⟩:Ent))) (QV (tA Z) (hA Z) kZ Z (Nat.le_trans hv1 (lb Z)) Z Z Z (bB Z Z (bG Z (bG Z (bB Z Z (bG Z (bA Z)))))) Z Z) ho2
  replace h2:=Qg c19 h2
  refine QW<|Qr<|Qr ?_
  have e:=sI h2;subst e
  have e_:_=_:=ho2
  subst e_
  exact QO s2.2 (QV (tA Z) (hA Z) kZ Z (Nat.le_trans hv1 (lb Z)) Z Z Z (bB Z Z (bG Z (bG Z (bB Z Z (bG Z (bA Z)))))) Z Z) h1
  intro o17 h1
  unfold m47f10_k1 at h1
  refine QF<|Q3<|Q0<|rM Z Z Z<|rR Z Z Z (Q2 JY Z)<|rR Z Z Z (Q6 JG Z Z Z) ?_
  refine Yt h1 (fun g24 h1=>?_)
  refine rR Z Z Z (Xh Z Z g24)<|rR Z Z Z (Q6 QG Z Z Z)<|rR Z Z Z (Q2 Jo Z)<|rR Z Z Z (Q2 YJ Z)<|rR Z Z Z (Q6 QG Z Z Z)<|rR Z Z Z (Q2 Jo Z)<|rR Z Z Z (Q2 Zq Z)<|rR Z Z Z (Qi QR Z Z Z Z)<|rR Z Z Z (Y1 Zs Z (.cons Z (.cons Z (.cons Z (.cons Z .nil)))) Z) ?_
  refine Qd h1 (fun y25 h2 h1=>?_)
  have ha26:ExecOK Try.prog (some 9) ZI ⟨[(0,.v (.one (.ptr 0 0))),(2,.v (.one (.mp 2))),(4,.v (.one (.ptr 3 0))),(6,.v (.one (.ptr 5 0))),(23,.v (.one (.fn 49 [(7,0),(6,0)]))),(24,.v (.one (J6 (a0.name++([46,114,101,99]:List UInt8))))),(25,.v (.agg [dI 5,dI (a1.length:Int),dI 0,dI a0.rcr.params,dI a0.rcr.ty.kind,dI a0.rcr.ty.index,J6 a0.rcr.ty.name,dS a0.rcr.ty.levels,dS a0.rcr.ty.kids]))],m47f10_h26 a1 a2 a3 a0 o17,[],12,99,[]⟩ .normal ⟨[(6,.v (.one (.ptr 5 0))),(7,.v (.one (J6 (a0.name++([46,114,101,99]:List UInt8))))),(8,.v (.one (.ptr 12 0)))],m47f10_h29 a1 a2 a3 a0 o17,[],13,99,[]⟩:=by
   refine QZ (fun w0 M V0 ro n Q hv2 hro2 hQn2=>?_)
   refine Q4<|Q0<|rA Z Z Z<|Q5<|Q3<|Q0<|Qb Z Z (lb Z) (Qv Z7 Z)<|QC Z Z (Qz J8 Z Z Z Z (lb Z) Z)<|Q5 ?_
   exact JO hQn2 (QV (tA Z) (hA Z) kZ Z (Nat.le_trans hv2 (lb Z)) Z Z Z (bB Z Z (bG Z (bG Z (bB Z Z (bG Z (bA Z)))))) Z Z)
  have hb27:ExecOK Try.prog (some 9) ZH ⟨[(6,.v (.one (.ptr 5 0))),(7,.v (.one (J6 (a0.name++([46,114,101,99]:List UInt8))))),(8,.v (.one (.ptr 12 0)))],m47f10_h28 a1 a2 a3 a0 o17,[],13,99,[]⟩ .normal ⟨[],m47f10_h31 a1 a2 a3 a0 o17,[],13,99,[]⟩:=by
   refine QZ (fun w0 M V0 ro n Q hv2 hro2 hQn2=>?_)
   refine Ql<|Q0<|rR Z Z Z (Q6 YI Z Z Z)<|rM Z Z Z<|rR Z Z Z (Qi J8 Z Z Z Z)<|QC Z Z (Jw (M:=o17) (k:=(a0.name++([46,114,101,99]:List UInt8))) (v:=(⟨5,(a1.length:Int),0,a0.rcr.params,a0.rcr.ty⟩:Ent)) Z0 Z Z Z Z Z)<|Q5<|Qk ?_
   have e:=sI h2;subst e
   exact JO hQn2 (QV tZ (hA Z) kZ Z (Nat.le_trans hv2 (lb Z)) Z Z Z (bB Z Z (bG Z (bG Z (bB Z Z (bG Z (bA Z)))))) Z Z)
  refine Qb Z Z (lb Z) (Jm (jump:=none) Z Z Z Z Z (QK ha26 (fun E hv=>(QV (tA Z) (hA Z) kZ Z (Nat.le_trans hv (lb Z)) Z Z Z (bB Z Z (bG Z (bG Z (bB Z Z (bG Z (bA Z)))))) Z Z))) Z (QK hb27 (fun E hv=>(QV (tA Z) (hA Z) kZ Z (Nat.le_trans hv (lb Z)) Z Z Z (bB Z Z (bG Z (bG Z (bB Z Z (bG Z (bA Z)))))) Z Z))) Z Z) ?_
  refine Q5<|Qk ?_
  have e:=sI h1;subst e
  exact hQ1 _ _ _ (.inl Z) Z (QV tZ (hA Z) kZ Z (Nat.le_trans hv1 (lb Z)) Z Z Z (bB Z Z (bG Z (bG Z (bB Z Z (bG Z (bA Z)))))) Z Z)
  replace h1:=Qg c13 h1
  refine Q4<|Q0<|rR Z Z Z (Q8 Z Z Z)<|rA Z Z Z<|Q5<|Q3 ?_
  refine Qe (b:=(a0.kind==4)) Z (fun c28=>?_) (fun c28=>?_)
  replace h1:=Qf c28 h1
  refine Q4<|Q0<|rR Z Z Z (Q2 Jf Z)<|rR Z Z Z (Q6 JU Z Z Z)<|rR Z Z Z (Qx (α:=Fn) JA Z (.d _))<|rM Z Z Z<|Q5<|Q3<|Ql ?_
  refine QQ 3 (fun (o29:(Qo Bs Ent))=>⟨[],[(0,.cells 62 [dS a1,.mp 1]),(1,.mp (J2 a2.1) a2.2),(2,.mp (J2 a3.1) a3.2),(3,.cells 45 (cE a0)),(4,.mp (J2 o29.1) o29.2),(5,.cells 60 [.mp 4]),(6,.cells 45 (cE a0)),(7,.cells 3 [dI (a1.length:Int)]),(8,.obj (.deferred (some []))),(9,Yg),(10,Kd a1 a0)],[],11,98,[]⟩) (fun (o29:(Qo Bs Ent))=>(some o29)=some y3) ?_ ?_
  refine Qd h1 (fun o30 hl2 h1=>?_)
  refine QP (m47f10_l2 a0 a1) (fun s2=>⟨[(0,.v (.one (.yld 9))),(1,.v (.one (.ptr 7 0))),(2,.v (.one (.ptr 6 0))),(78,.v (.one (dS a0.funs))),(79,.v (.one (dI (a0.funs.length:Int)))),(80,.v (.one (dI s2.1)))],[(0,.cells 62 [dS a1,.mp 1]),(1,.mp (J2 a2.1) a2.2),(2,.mp (J2 a3.1) a3.2),(3,.cells 45 (cE a0)),(4,.mp (J2 s2.2.1) s2.2.2),(5,.cells 60 [.mp 4]),(6,.cells 45 (cE a0)),(7,.cells 3 [dI (a1.length:Int)]),(8,.obj (.deferred (some []))),(9,Yg),(10,Kd a1 a0)],[],11,98,[]⟩) (0,gmNil) o30 (QV (tA Z) (hA Z) kZ Z (Nat.le_trans hv1 (lb Z)) Z Z Z (bB Z Z (bG Z (bG Z (bB Z Z (bG Z (bA Z)))))) Z Z) hl2 (fun s2 n2 oo2 h2 ho2=>?_)
  unfold m47f10_l2 at h2
  refine Q4<|Q0<|rR Z Z Z (Q8 Z Z Z)<|Q5<|Q3<|Q4 ?_
  refine Qe (b:=(decide (s2.1 < (a0.funs.length:Int)))) Z (fun c31=>?_) (fun c31=>?_)
  replace h2:=Qf c31 h2
  refine Qj<|Q3<|Q4<|Ql<|Q4<|Q0<|rM Z Z Z ?_
  refine Qd h2 (fun x32 hx32 h2=>?_)
  refine rR Z Z Z (Qt (α:=Fn) JA Z (.d _) Z hx32)<|rR Z Z Z (Qu (x32:Fn) Z5 Z)<|Qb Z Z (lb Z) (Qv U9 Z)<|rA Z Z Z<|QC Z Z (QA (x32:Fn) Z5 Z Z Z Z Z)<|Q5<|Q3<|Q4<|Q0<|rM Z Z Z<|rR Z Z Z (Q2 Ki Z)<|rR Z Z Z (Q6 JG Z Z Z)<|rR Z Z Z (Q6 QG Z Z Z)<|rM Z Z Z ?_
  refine rR Z Z Z (Q2 Jz Z)<|rR Z Z Z (Q6 QG Z Z Z)<|rR Z Z Z (Q2 ZZ Z)<|rR Z Z Z (Qi QR Z Z Z Z)<|rR Z Z Z (Y1 Zs Z (.cons Z (.cons Z (.cons Z (.cons Z (.cons Z .nil))))) Z) ?_
  refine Qd h2 (fun y33 h3 h2=>?_)
  have ha34:ExecOK Try.prog (some 9) ZI ⟨[(0,.v (.one (.ptr 0 0))),(2,.v (.one (.mp 2))),(4,.v (.one (.ptr 3 0))),(6,.v (.one (.ptr 5 0))),(23,.v (.one (.fn 49 [(7,0),(6,0)]))),(24,.v (.one (J6 x32.name))),(25,.v (.agg [dI 6,dI (a1.length:Int),dI s2.1,dI a0.params,dI x32.ty.kind,dI x32.ty.index,J6 x32.ty.name,dS x32.ty.levels,dS x32.ty.kids]))],m47f10_h32 a1 a2 a3 a0 s2 x32,[],12,99,[]⟩ .normal ⟨[(6,.v (.one (.ptr 5 0))),(7,.v (.one (J6 x32.name))),(8,.v (.one (.ptr 12 0)))],m47f10_h35 a1 a2 a3 a0 s2 x32,[],13,99,[]⟩:=by
   refine QZ (fun w0 M V0 ro n Q hv3 hro3 hQn3=>?_)
   refine Q4<|Q0<|rA Z Z Z<|Q5<|Q3<|Q0<|Qb Z Z (lb Z) (Qv Z7 Z)<|QC Z Z (Qz J8 Z Z Z Z (lb Z) Z)<|Q5 ?_
   exact JO hQn3 (QV (tA Z) (hA Z) kZ Z (Nat.le_trans hv3 (lb Z)) Z Z Z (bB Z Z (bG Z (bG Z (bB Z Z (bG Z (bA Z)))))) Z Z)
  have hb35:ExecOK Try.prog (some 9) ZH ⟨[(6,.v (.one (.ptr 5 0))),(7,.v (.one (J6 x32.name))),(8,.v (.one (.ptr 12 0)))],m47f10_h34 a1 a2 a3 a0 s2 x32,[],13,99,[]⟩ .normal ⟨[],m47f10_h37 a1 a2 a3 a0 s2 x32,[],13,99,[]⟩:=by
   refine QZ (fun w0 M V0 ro n Q hv3 hro3 hQn3=>?_)
   refine Ql<|Q0<|rR Z Z Z (Q6 YI Z Z Z)<|rM Z Z Z<|rR Z Z Z (Qi J8 Z Z Z Z)<|QC Z Z (Jw (M:=s2.2) (k:=x32.name) (v:=(⟨6,(a1.length:Int),s2.1,a0.params,x32.ty⟩:Ent)) Z0 Z Z Z Z Z)<|Q5<|Qk ?_
   have e:=sI h3;subst e
   exact JO hQn3 (QV tZ (hA Z) kZ Z (Nat.le_trans hv3 (lb Z)) Z Z Z (bB Z Z (bG Z (bG Z (bB Z Z (bG Z (bA Z)))))) Z Z)
  refine Qb Z Z (lb Z) (Jm (jump:=none) Z Z Z Z Z (QK ha34 (fun E hv=>(QV (tA Z) (hA Z) kZ Z (Nat.le_trans hv (lb Z)) Z Z Z (bB Z Z (bG Z (bG Z (bB Z Z (bG Z (bA Z)))))) Z Z))) Z (QK hb35 (fun E hv=>(QV (tA Z) (hA Z) kZ Z (Nat.le_trans hv (lb Z)) Z Z Z (bB Z Z (bG Z (bG Z (bB Z Z (bG Z (bA Z)))))) Z Z))) Z Z) ?_
  refine rR Z Z Z (Jc Z)<|Q5<|Q3 ?_
  refine Qe Z (fun h=>nomatch h) (fun _=>?_)
  refine Qj<|Qk<|Q3<|Q0<|rR Z Z Z (Q8 Z Z Z)<|rM Z Z Z<|Q5 ?_
  have e:=sI h2;subst e
  refine QJ ((Ja (s2.1+1)),(Jb s2.2 x32.name (⟨6,(a1.length:Int),s2.1,a0.params,x32.ty⟩:Ent))) (QV (tA Z) (hA Z) kZ Z (Nat.le_trans hv1 (lb Z)) Z Z Z (bB Z Z (bG Z (bG Z (bB Z Z (bG Z (bA Z)))))) Z Z) ho2
  replace h2:=Qg c31 h2
  refine QW<|Qr<|Qr ?_
  have e:=sI h2;subst e
  have e_:_=_:=ho2
  subst e_
  exact QO s2.2 (QV tZ (hA Z) kZ Z (Nat.le_trans hv1 (lb Z)) Z Z Z (bB Z Z (bG Z (bG Z (bB Z Z (bG Z (bA Z)))))) Z Z) h1
  intro o29 h1
  refine QF<|Qk ?_
  have e:=sI h1;subst e
  exact hQ1 _ _ _ (.inl Z) Z (QV tZ (hA Z) kZ Z (Nat.le_trans hv1 (lb Z)) Z Z Z (bB Z Z (bG Z (bG Z (bB Z Z (bG Z (bA Z)))))) Z Z)
  replace h1:=Qg c28 h1
  refine Qj<|Qk ?_
  have e:=sI h1;subst e
  exact hQ1 _ _ _ (.inl Z) Z (QV tZ (hA Z) kZ Z (Nat.le_trans hv1 (lb Z)) Z Z Z (bB Z Z (bG Z (bG Z (bB Z Z (bG Z (bA Z)))))) Z Z)
 refine KN (YA (e:=.normal) rfl hc4 rfl rfl (by intro h;cases h) rfl) rfl ?_
 refine Qk<|Q3<|Q4<|Q0<|rM Z Z Z<|rR Z Z Z (Q2 JY Z)<|rR Z Z Z (Q6 JG Z Z Z)<|rR Z Z Z (Q6 YI Z Z Z)<|rR Z Z Z (Q2 JY Z)<|rR Z Z Z (Q6 JG Z Z Z)<|rR Z Z Z (RO.lookupGF (M:=y3) (k:=a0.name) Z0 KE Z Z Z)<|QC Z Z (Jw (M:=a3) (k:=a0.name) (v:=(⟨(Qy y3 a0.name).kind,(Qy y3 a0.name).decl,(Qy y3 a0.name).item,(Qy y3 a0.name).params,((Qy y3 a0.name).ty)⟩:Ent)) Z0 Z Z Z Z Z)<|Q5<|Q3 ?_
 refine Q4<|Q4<|Q0<|rR Z Z Z (Q2 Js Z)<|rR Z Z Z (Q6 Yd Z Z Z)<|rR Z Z Z (Qx (α:=Ctr) JX Z (.d _))<|rM Z Z Z<|Q5<|Q3<|Ql ?_
 refine QQ 2 (fun (o36:Unit)=>⟨[(0,.v (.one (.ptr 0 0))),(2,.v (.one (.mp 2))),(4,.v (.one (.ptr 3 0))),(6,.v (.one (.ptr 5 0)))],m47f10_h39 a1 a2 a3 a0 y3,[],11,99,[]⟩) (fun (o36:Unit)=>(KV a0 y3 a3 a1 a2)=some r) ?_ ?_
 refine Qd h0 (fun o37 hl1 h0=>?_)
 refine QP (KU a0 a1 a2 a3 y3) (fun s1=>⟨[(0,.v (.one (.ptr 0 0))),(2,.v (.one (.mp 2))),(4,.v (.one (.ptr 3 0))),(6,.v (.one (.ptr 5 0))),(37,.v (.one (dS a0.ctors))),(38,.v (.one (dI (a0.ctors.length:Int)))),(39,.v (.one (dI s1)))],m47f10_h39 a1 a2 a3 a0 y3,[],11,99,[]⟩) 0 o37 (QV (tA Z) (hA Z) kZ Z (Nat.le_trans hv0 (lb Z)) Z Z Z (bB Z Z (bG Z (bG Z (bB Z Z (bG Z (bA Z)))))) Z Z) hl1 (fun s1 n1 oo1 h1 ho1=>?_)
 unfold KU at h1
 refine Q4<|Q0<|rR Z Z Z (Q8 Z Z Z)<|Q5<|Q3<|Q4 ?_
 refine Qe (b:=(decide (s1 < (a0.ctors.length:Int)))) Z (fun c38=>?_) (fun c38=>?_)
 replace h1:=Qf c38 h1
 refine Qj<|Q3<|Q4<|Ql<|Q4<|Q0 ?_
 refine Qd h1 (fun x39 hx39 h1=>?_)
 refine rR Z Z Z (Qt (α:=Ctr) JX Z (.d _) Z hx39)<|rR Z Z Z (Qu (x39:Ctr) KD Z)<|Qb Z Z (lb Z) (Qv UN Z)<|QC Z Z (QA (x39:Ctr) KD Z Z Z Z Z)<|Q5<|Q3<|Q0<|rM Z Z Z<|rR Z Z Z (Q2 Za Z)<|rR Z Z Z (Qi QR Z Z Z Z)<|rR Z Z Z (Q2 Jz Z)<|rR Z Z Z (Q6 QG Z Z Z)<|rM Z Z Z ?_
 refine Qd h1 (fun x40 hx40 h1=>?_)
 refine Y7 id hx40 h1 (fun x41 hx41 h1=>?_) (fun x42 hx42 h1=>?_)
 refine Qb Z Z (lb Z) (JC (hp1':=[(0,.cells 62 [dS a1,.mp 1]),(1,.mp (J2 a2.1) a2.2),(2,.mp (J2 ((Jb a3 a0.name (⟨(Qy y3 a0.name).kind,(Qy y3 a0.name).decl,(Qy y3 a0.name).item,(Qy y3 a0.name).params,((Qy y3 a0.name).ty)⟩:Ent)):Qo Bs Ent).1) ((Jb a3 a0.name (⟨(Qy y3 a0.name).kind,(Qy y3 a0.name).decl,(Qy y3 a0.name).item,(Qy y3 a0.name).params,((Qy y3 a0.name).ty)⟩:Ent)):Qo Bs Ent).2)]) (tk1':=[]) (hpF:=m47f10_h40 a0 y3 a1 x39) (tkF:=[]) (res2:=QM []) (nx2:=20) [0,1,2] Z Z (CallE.m (YO x39.ty 0 a0.params a1 a2 (Jb a3 a0.name (⟨(Qy y3 a0.name).kind,(Qy y3 a0.name).decl,(Qy y3 a0.name).item,(Qy y3 a0.name).params,((Qy y3 a0.name).ty)⟩:Ent)) (.inl x41) hx41)) Z Z (qB Z Z (qG Z (qG Z qZ))) Z Z (gR Z (gG Z (gG Z gZ))) jZ (hA Z) kZ Z Z Z Z Z (bB Z Z (bG Z (bG Z bZ))) Z Z Z Z)<|Q5<|Qk<|Q3<|Q0<|rR Z Z Z (Q8 Z Z Z)<|rM Z Z Z<|Q5 ?_
 have e:=sI h1;subst e
 refine QJ (Ja (s1+1)) (QV (tA Z) (hA Z) kZ Z (Nat.le_trans hv0 (lb Z)) Z Z Z (bB Z Z (bG Z (bG Z (bB Z Z (bG Z (bA Z)))))) Z Z) ho1
 refine Jg Z (YD (hp1':=[(0,.cells 62 [dS a1,.mp 1]),(1,.mp (J2 a2.1) a2.2),(2,.mp (J2 ((Jb a3 a0.name (⟨(Qy y3 a0.name).kind,(Qy y3 a0.name).decl,(Qy y3 a0.name).item,(Qy y3 a0.name).params,((Qy y3 a0.name).ty)⟩:Ent)):Qo Bs Ent).1) ((Jb a3 a0.name (⟨(Qy y3 a0.name).kind,(Qy y3 a0.name).decl,(Qy y3 a0.name).item,(Qy y3 a0.name).params,((Qy y3 a0.name).ty)⟩:Ent)):Qo Bs Ent).2)]) (tk1':=[]) (hpF:=m47f10_h40 a0 y3 a1 x39) (tkF:=[]) (nx2:=15) [0,1,2] Z Z (CallE.d (YO x39.ty 0 a0.params a1 a2 (Jb a3 a0.name (⟨(Qy y3 a0.name).kind,(Qy y3 a0.name).decl,(Qy y3 a0.name).item,(Qy y3 a0.name).params,((Qy y3 a0.name).ty)⟩:Ent)) (.inr x42) hx42)) Z Z (qB Z Z (qG Z (qG Z qZ))) Z (gR Z (gG Z (gG Z gZ))) jZ (hA Z) kZ Z Z Z Z Z (bB Z Z (bG Z (bG Z bZ))) Z Z Z Z) ?_
 have e:=sI h1;subst e
 have e_:_=_:=ho1
 subst e_
 try dsimp only [Sum.elim_inl,Sum.elim_inr] at h0
 have e:=sI h0;subst e
 exact Ju (hQ0 (.panic (JE (QT 90 x42))) _ K7 Z (show StLe _ _ ⟨[],m47f10_h41 a1 a2 a3 a0 y3,[],14,99,[]⟩ from (QV tZ (hA Z) kZ Z (Nat.le_trans hv0 (lb Z)) Z Z Z (bB Z Z (bG Z (bG Z bZ))) Z Z))) (fun _ _ h=>h)
 replace h1:=Qg c38 h1
 refine QW<|Qr<|Qr ?_
 have e:=sI h1;subst e
 have e_:_=_:=ho1
 subst e_
 exact QO () (QV (tA Z) (hA Z) kZ Z (Nat.le_trans hv0 (lb Z)) Z Z Z (bB Z Z (bG Z (bG Z (bB Z Z (bG Z (bA Z)))))) Z Z) h0
 intro o36 h0
 unfold KV at h0
 refine QF<|Q3<|Q4<|Q4<|Q0<|rR Z Z Z (Q2 Js Z)<|rR Z Z Z (Q6 Yd Z Z Z)<|rR Z Z Z (Qx (α:=Ctr) JX Z (.d _))<|rM Z Z Z<|Q5<|Q3<|Ql ?_
 refine QQ 4 (fun (o43:(Qo Bs Ent))=>⟨[(0,.v (.one (.ptr 0 0))),(2,.v (.one (.mp 2))),(4,.v (.one (.ptr 3 0))),(6,.v (.one (.ptr 5 0)))],[(0,.cells 62 [dS a1,.mp 1]),(1,.mp (J2 a2.1) a2.2),(2,.mp (J2 o43.1) o43.2),(3,.cells 45 (cE a0)),(4,.mp (J2 y3.1) y3.2),(5,.cells 60 [.mp 4]),(6,.cells 45 (cE a0)),(7,.cells 3 [dI (a1.length:Int)])],[],11,99,[]⟩) (fun (o43:(Qo Bs Ent))=>(m47f10_k8 a0 a1 a2 o43 y3)=some r) ?_ ?_
 refine Qd h0 (fun o44 hl1 h0=>?_)
 refine QP (Kc a0 y3) (fun s1=>⟨[(0,.v (.one (.ptr 0 0))),(2,.v (.one (.mp 2))),(4,.v (.one (.ptr 3 0))),(6,.v (.one (.ptr 5 0))),(52,.v (.one (dS a0.ctors))),(53,.v (.one (dI (a0.ctors.length:Int)))),(54,.v (.one (dI s1.1)))],[(0,.cells 62 [dS a1,.mp 1]),(1,.mp (J2 a2.1) a2.2),(2,.mp (J2 s1.2.1) s1.2.2),(3,.cells 45 (cE a0)),(4,.mp (J2 y3.1) y3.2),(5,.cells 60 [.mp 4]),(6,.cells 45 (cE a0)),(7,.cells 3 [dI (a1.length:Int)])],[],11,99,[]⟩) (0,(Jb a3 a0.name (⟨(Qy y3 a0.name).kind,(Qy y3 a0.name).decl,(Qy y3 a0.name).item,(Qy y3 a0.name).params,((Qy y3 a0.name).ty)⟩:Ent))) o44 (QV (tA Z) (hA Z) kZ Z (Nat.le_trans hv0 (lb Z)) Z Z Z (bB Z Z (bG Z (bG Z (bB Z Z (bG Z (bA Z)))))) Z Z) hl1 (fun s1 n1 oo1 h1 ho1=>?_)
 unfold Kc at h1
 refine Q4<|Q0<|rR Z Z Z (Q8 Z Z Z)<|Q5<|Q3<|Q4 ?_
 refine Qe (b:=(decide (s1.1 < (a0.ctors.length:Int)))) Z (fun c45=>?_) (fun c45=>?_)
 replace h1:=Qf c45 h1
 refine Qj<|Q3<|Q4<|Ql<|Q4<|Q0 ?_
 refine Qd h1 (fun x46 hx46 h1=>?_)
 refine rR Z Z Z (Qt (α:=Ctr) JX Z (.d _) Z hx46)<|rR Z Z Z (Qu (x46:Ctr) KD Z)<|Qb Z Z (lb Z) (Qv UN Z)<|QC Z Z (QA (x46:Ctr) KD Z Z Z Z Z)<|Q5<|Q3<|Q0<|rM Z Z Z<|rR Z Z Z (Q2 ZB Z)<|rR Z Z Z (Q6 JG Z Z Z)<|rR Z Z Z (Q6 YI Z Z Z)<|rR Z Z Z (Q2 ZB Z)<|rR Z Z Z (Q6 JG Z Z Z)<|rR Z Z Z (RO.lookupGF (M:=y3) (k:=x46.name) Z0 KE Z Z Z) ?_
 refine QC Z Z (Jw (M:=s1.2) (k:=x46.name) (v:=(⟨(Qy y3 x46.name).kind,(Qy y3 x46.name).decl,(Qy y3 x46.name).item,(Qy y3 x46.name).params,((Qy y3 x46.name).ty)⟩:Ent)) Z0 Z Z Z Z Z)<|Q5<|Qk<|Q3<|Q0<|rR Z Z Z (Q8 Z Z Z)<|rM Z Z Z<|Q5 ?_
 have e:=sI h1;subst e
 refine QJ ((Ja (s1.1+1)),(Jb s1.2 x46.name (⟨(Qy y3 x46.name).kind,(Qy y3 x46.name).decl,(Qy y3 x46.name).item,(Qy y3 x46.name).params,((Qy y3 x46.name).ty)⟩:Ent))) (QV (tA Z) (hA Z) kZ Z (Nat.le_trans hv0 (lb Z)) Z Z Z (bB Z Z (bG Z (bG Z (bB Z Z (bG Z (bA Z)))))) Z Z) ho1
 replace h1:=Qg c45 h1
 refine QW<|Qr<|Qr ?_
 have e:=sI h1;subst e
 have e_:_=_:=ho1
 subst e_
 exact QO s1.2 (QV (tA Z) (hA Z) kZ Z (Nat.le_trans hv0 (lb Z)) Z Z Z (bB Z Z (bG Z (bG Z (bB Z Z (bG Z (bA Z)))))) Z Z) h0
 intro o43 h0
 unfold m47f10_k8 at h0
 refine QF<|Q3<|Q4<|Q0<|rM Z Z Z<|rR Z Z Z (Q2 Jo Z)<|rR Z Z Z (Q2 Zq Z)<|rR Z Z Z (Qi QR Z Z Z Z)<|rR Z Z Z (Q2 Jo Z)<|rR Z Z Z (Q2 YJ Z)<|rR Z Z Z (Q6 QG Z Z Z)<|rM Z Z Z ?_
 refine Qd h0 (fun x47 hx47 h0=>?_)
 refine Y7 id hx47 h0 (fun x48 hx48 h0=>?_) (fun x49 hx49 h0=>?_)
 refine Qb Z Z (lb Z) (JC (hp1':=[(0,.cells 62 [dS a1,.mp 1]),(1,.mp (J2 a2.1) a2.2),(2,.mp (J2 o43.1) o43.2)]) (tk1':=[]) (hpF:=m47f10_h42 a0 y3 a1) (tkF:=[]) (res2:=QM []) (nx2:=19) [0,1,2] Z Z (CallE.m (YO a0.rcr.ty 0 a0.rcr.params a1 a2 o43 (.inl x48) hx48)) Z Z (qB Z Z (qG Z (qG Z qZ))) Z Z (gR Z (gG Z (gG Z gZ))) jZ (hA Z) kZ Z Z Z Z Z (bB Z Z (bG Z (bG Z bZ))) Z Z Z Z)<|Q5<|Q3<|Q4<|Q0<|rR Z Z Z (Q2 JY Z)<|rR Z Z Z (Q6 JG Z Z Z) ?_
 refine Yt h0 (fun g50 h0=>?_)
 refine rR Z Z Z (Xh Z Z g50)<|rA Z Z Z<|Q5<|Q3<|Q4<|Q0<|rM Z Z Z<|rM Z Z Z<|rR Z Z Z (Q6 YI Z Z Z)<|rM Z Z Z<|rR Z Z Z (RO.lookupGF (M:=y3) (k:=(a0.name++([46,114,101,99]:List UInt8))) Z0 KE Z Z Z)<|QC Z Z (Jw (M:=o43) (k:=(a0.name++([46,114,101,99]:List UInt8))) (v:=(⟨(Qy y3 (a0.name++([46,114,101,99]:List UInt8))).kind,(Qy y3 (a0.name++([46,114,101,99]:List UInt8))).decl,(Qy y3 (a0.name++([46,114,101,99]:List UInt8))).item,(Qy y3 (a0.name++([46,114,101,99]:List UInt8))).params,((Qy y3 (a0.name++([46,114,101,99]:List UInt8))).ty)⟩:Ent)) Z0 Z Z Z Z Z)<|Q5<|Q3 ?_
 refine Q4<|Q0<|rR Z Z Z (Q2 Jo Z)<|rR Z Z Z (Q2 YZ Z)<|rR Z Z Z (Q6 JH Z Z Z)<|rR Z Z Z (Qx (α:=Tm) Jk Z (.d _))<|rM Z Z Z<|Q5<|Q3<|Ql ?_
 refine QQ 6 (fun (o51:Unit)=>⟨[],m47f10_h44 a1 a2 o43 a0 y3,[],19,99,[]⟩) (fun (o51:Unit)=>(m47f10_k7 o43 a0 y3)=some r) ?_ ?_
 refine Qd h0 (fun o52 hl1 h0=>?_)
 refine QP (KT a0 a1 a2 o43 y3) (fun s1=>⟨[(0,.v (.one (.ptr 0 0))),(2,.v (.one (.mp 2))),(4,.v (.one (.ptr 3 0))),(85,.v (.one (dS a0.rcr.rules))),(86,.v (.one (dI (a0.rcr.rules.length:Int)))),(87,.v (.one (dI s1)))],m47f10_h44 a1 a2 o43 a0 y3,[],19,99,[]⟩) 0 o52 (QV (tA Z) (hA Z) kZ Z (Nat.le_trans hv0 (lb Z)) Z Z Z (bB Z Z (bG Z (bG Z (bB Z Z (bG Z (bA Z)))))) Z Z) hl1 (fun s1 n1 oo1 h1 ho1=>?_)
 unfold KT at h1
 refine Q4<|Q0<|rR Z Z Z (Q8 Z Z Z)<|Q5<|Q3<|Q4 ?_
 refine Qe (b:=(decide (s1 < (a0.rcr.rules.length:Int)))) Z (fun c53=>?_) (fun c53=>?_)
 replace h1:=Qf c53 h1
 refine Qj<|Q3<|Q4<|Ql<|Q4<|Q0 ?_
 refine Qd h1 (fun x54 hx54 h1=>?_)
 refine rR Z Z Z (Qt (α:=Tm) Jk Z (.d _) Z hx54)<|rR Z Z Z (Qu (x54:Tm) QR Z)<|Qb Z Z (lb Z) (Qv G1 Z)<|QC Z Z (QA (x54:Tm) QR Z Z Z Z Z)<|Q5<|Q3<|Q0<|rM Z Z Z<|rR Z Z Z (QH (x54:Tm) QR Z Z)<|rR Z Z Z (Q2 Jo Z)<|rR Z Z Z (Q2 YJ Z)<|rR Z Z Z (Q6 QG Z Z Z)<|rM Z Z Z ?_
 refine Qd h1 (fun x55 hx55 h1=>?_)
 refine Y7 id hx55 h1 (fun x56 hx56 h1=>?_) (fun x57 hx57 h1=>?_)
 refine Qb Z Z (lb Z) (JC (hp1':=[(0,.cells 62 [dS a1,.mp 1]),(1,.mp (J2 a2.1) a2.2),(2,.mp (J2 ((Jb o43 (a0.name++([46,114,101,99]:List UInt8)) (⟨(Qy y3 (a0.name++([46,114,101,99]:List UInt8))).kind,(Qy y3 (a0.name++([46,114,101,99]:List UInt8))).decl,(Qy y3 (a0.name++([46,114,101,99]:List UInt8))).item,(Qy y3 (a0.name++([46,114,101,99]:List UInt8))).params,((Qy y3 (a0.name++([46,114,101,99]:List UInt8))).ty)⟩:Ent)):Qo Bs Ent).1) ((Jb o43 (a0.name++([46,114,101,99]:List UInt8)) (⟨(Qy y3 (a0.name++([46,114,101,99]:List UInt8))).kind,(Qy y3 (a0.name++([46,114,101,99]:List UInt8))).decl,(Qy y3 (a0.name++([46,114,101,99]:List UInt8))).item,(Qy y3 (a0.name++([46,114,101,99]:List UInt8))).params,((Qy y3 (a0.name++([46,114,101,99]:List UInt8))).ty)⟩:Ent)):Qo Bs Ent).2)]) (tk1':=[]) (hpF:=m47f10_h45 a0 y3 a1 x54) (tkF:=[]) (res2:=QM []) (nx2:=28) [0,1,2] Z Z (CallE.m (YO x54 0 a0.rcr.params a1 a2 (Jb o43 (a0.name++([46,114,101,99]:List UInt8)) (⟨(Qy y3 (a0.name++([46,114,101,99]:List UInt8))).kind,(Qy y3 (a0.name++([46,114,101,99]:List UInt8))).decl,(Qy y3 (a0.name++([46,114,101,99]:List UInt8))).item,(Qy y3 (a0.name++([46,114,101,99]:List UInt8))).params,((Qy y3 (a0.name++([46,114,101,99]:List UInt8))).ty)⟩:Ent)) (.inl x56) hx56)) Z Z (qB Z Z (qG Z (qG Z qZ))) Z Z (gR Z (gG Z (gG Z gZ))) jZ (hA Z) kZ Z Z Z Z Z (bB Z Z (bG Z (bG Z bZ))) Z Z Z Z)<|Q5<|Qk<|Q3<|Q0<|rR Z Z Z (Q8 Z Z Z)<|rM Z Z Z<|Q5 ?_
 have e:=sI h1;subst e
 refine QJ (Ja (s1+1)) (QV (tA Z) (hA Z) kZ Z (Nat.le_trans hv0 (lb Z)) Z Z Z (bB Z Z (bG Z (bG Z (bB Z Z (bG Z (bA Z)))))) Z Z) ho1
 refine Jg Z (YD (hp1':=[(0,.cells 62 [dS a1,.mp 1]),(1,.mp (J2 a2.1) a2.2),(2,.mp (J2 ((Jb o43 (a0.name++([46,114,101,99]:List UInt8)) (⟨(Qy y3 (a0.name++([46,114,101,99]:List UInt8))).kind,(Qy y3 (a0.name++([46,114,101,99]:List UInt8))).decl,(Qy y3 (a0.name++([46,114,101,99]:List UInt8))).item,(Qy y3 (a0.name++([46,114,101,99]:List UInt8))).params,((Qy y3 (a0.name++([46,114,101,99]:List UInt8))).ty)⟩:Ent)):Qo Bs Ent).1) ((Jb o43 (a0.name++([46,114,101,99]:List UInt8)) (⟨(Qy y3 (a0.name++([46,114,101,99]:List UInt8))).kind,(Qy y3 (a0.name++([46,114,101,99]:List UInt8))).decl,(Qy y3 (a0.name++([46,114,101,99]:List UInt8))).item,(Qy y3 (a0.name++([46,114,101,99]:List UInt8))).params,((Qy y3 (a0.name++([46,114,101,99]:List UInt8))).ty)⟩:Ent)):Qo Bs Ent).2)]) (tk1':=[]) (hpF:=m47f10_h45 a0 y3 a1 x54) (tkF:=[]) (nx2:=23) [0,1,2] Z Z (CallE.d (YO x54 0 a0.rcr.params a1 a2 (Jb o43 (a0.name++([46,114,101,99]:List UInt8)) (⟨(Qy y3 (a0.name++([46,114,101,99]:List UInt8))).kind,(Qy y3 (a0.name++([46,114,101,99]:List UInt8))).decl,(Qy y3 (a0.name++([46,114,101,99]:List UInt8))).item,(Qy y3 (a0.name++([46,114,101,99]:List UInt8))).params,((Qy y3 (a0.name++([46,114,101,99]:List UInt8))).ty)⟩:Ent)) (.inr x57) hx57)) Z Z (qB Z Z (qG Z (qG Z qZ))) Z (gR Z (gG Z (gG Z gZ))) jZ (hA Z) kZ Z Z Z Z Z (bB Z Z (bG Z (bG Z bZ))) Z Z Z Z) ?_
 have e:=sI h1;subst e
 have e_:_=_:=ho1
 subst e_
 try dsimp only [Sum.elim_inl,Sum.elim_inr] at h0
 have e:=sI h0;subst e
 exact Ju (hQ0 (.panic (JE (QT 90 x57))) _ K7 Z (show StLe _ _ ⟨[],m47f10_h46 a1 a2 o43 a0 y3,[],14,99,[]⟩ from (QV tZ (hA Z) kZ Z (Nat.le_trans hv0 (lb Z)) Z Z Z (bB Z Z (bG Z (bG Z bZ))) Z Z))) (fun _ _ h=>h)
 replace h1:=Qg c53 h1
 refine QW<|Qr<|Qr ?_
 have e:=sI h1;subst e
 have e_:_=_:=ho1
 subst e_
 exact QO () (QV tZ (hA Z) kZ Z (Nat.le_trans hv0 (lb Z)) Z Z Z (bB Z Z (bG Z (bG Z (bB Z Z (bG Z (bA Z)))))) Z Z) h0
 intro o51 h0
 unfold m47f10_k7 at h0
 refine QF ?_
 have e:=sI h0;subst e
 exact hQ0 _ _ DO Z (show StLe _ _ ⟨[],m47f10_h46 a1 a2 o43 a0 y3,[],19,99,[]⟩ from (QV tZ (hA Z) kZ Z (Nat.le_trans hv0 (lb Z)) Z Z Z (bB Z Z (bG Z (bG Z bZ))) Z Z))
 refine Jg Z (YD (hp1':=[(0,.cells 62 [dS a1,.mp 1]),(1,.mp (J2 a2.1) a2.2),(2,.mp (J2 o43.1) o43.2)]) (tk1':=[]) (hpF:=m47f10_h42 a0 y3 a1) (tkF:=[]) (nx2:=14) [0,1,2] Z Z (CallE.d (YO a0.rcr.ty 0 a0.rcr.params a1 a2 o43 (.inr x49) hx49)) Z Z (qB Z Z (qG Z (qG Z qZ))) Z (gR Z (gG Z (gG Z gZ))) jZ (hA Z) kZ Z Z Z Z Z (bB Z Z (bG Z (bG Z bZ))) Z Z Z Z) ?_
 have e:=sI h0;subst e
 exact Ju (hQ0 (.panic (JE (QT 90 x49))) _ K7 Z (show StLe _ _ ⟨[],m47f10_h47 a1 a2 o43,[],14,99,[]⟩ from (QV tZ (hA Z) kZ Z (Nat.le_trans hv0 (lb Z)) Z Z Z (bB Z Z (bG Z (bG Z bZ))) Z Z))) (fun _ _ h=>h)
end Go.Proofs.Ytafddfoefeploaa
namespace Go.Proofs.Ytafddfoefeploaa
open Go.RowKit Go.Shelf
theorem z_74:JQ Try.prog 74=some [.int .i64 0,.int .i64 0,.int .i64 0,.string ByteArray.empty,.slice none 0 0,.slice none 0 0,.int .i64 0,.slice none 0 0]:=by kernel_rfl
theorem en_48:QY Try.prog 48:=enters_of Try.func48 (by kernel_rfl) rfl
noncomputable def m48f11_k0 (p0_:Br) (p1_:Int) (p2_:List Dcl) (p3_:Qo Bs Ent) (p4_:Tr×Int×Int×Int×(List Dcl)×(Qo Bs Ent)×(Qo Bs Ent)→Option (Unit⊕Int)) (p5_:Int) (p6_:Int) (p7_:Int) (p8_:Qo Bs Ent):Option (LO Int (Unit⊕(Unit⊕Int))) :=
 cond p0_.absurd
   (Option.bind (cond (p0_.tree.kind==0)
   (cond (p0_.tree.var==0)
   (cond ((p0_.tree.branches.length:Int)==0)
   (Option.bind (DE p0_.tree.body) fun (b0_:Bool) =>
 Option.bind (JJ b0_ 3) (Sum.elim (fun (b1_:Unit)=>some (.inl ())) (fun (b2_:Unit)=>some (.inr (.inr 3)))))
   (Option.bind (JJ false 3) (Sum.elim (fun (b3_:Unit)=>some (.inl ())) (fun (b4_:Unit)=>some (.inr (.inr 3))))))
   (Option.bind (JJ false 3) (Sum.elim (fun (b5_:Unit)=>some (.inl ())) (fun (b6_:Unit)=>some (.inr (.inr 3))))))
   (Option.bind (JJ false 3) (Sum.elim (fun (b7_:Unit)=>some (.inl ())) (fun (b8_:Unit)=>some (.inr (.inr 3)))))) (Sum.elim (fun (b9_:Unit)=>some (.next (Ja (p1_+1)))) (fun o=>some (.done (.inr o)))))
   (Option.bind (JP p2_ ((Qy p3_ p0_.ctor).decl)) fun (b10_:Dcl) =>
 Option.bind (m68 b10_ ((Qy p3_ p0_.ctor).item)) fun (b11_:Int) =>
 Option.bind (p4_ (p0_.tree,(Ja (p5_+b11_)),(Ja (p6_+1)),p7_,p2_,p3_,p8_)) (Sum.elim (fun (b12_:Unit)=>some (.next (Ja (p1_+1)))) (fun (b13_:Int)=>some (.done (.inr (.inr b13_))))))
noncomputable def KS (a0:Tr) (a5:Qo Bs Ent) (a4:List Dcl) (rc:Tr×Int×Int×Int×(List Dcl)×(Qo Bs Ent)×(Qo Bs Ent)→Option (Unit⊕Int)) (a1:Int) (a2:Int) (a3:Int) (a6:Qo Bs Ent) (s1:Int):Option (LO Int (Unit⊕(Unit⊕Int))) :=
 cond (decide (s1 < (a0.branches.length:Int)))
   (Option.bind (JP a0.branches s1) fun (x23:Br) =>
 Option.bind (cond (YL a5 x23.ctor)
   (Option.bind (JJ (((Qy a5 x23.ctor).kind)==4) 9) (Sum.elim (fun (x27:Unit)=>some (.inl ())) (fun (x28:Unit)=>some (.inr (.inr 9)))))
   (Option.bind (JJ false 9) (Sum.elim (fun (x30:Unit)=>some (.inl ())) (fun (x31:Unit)=>some (.inr (.inr 9)))))) (Sum.elim (fun (v24:Unit)=>m48f11_k0 x23 s1 a4 a5 rc a1 a2 a3 a6) (fun o=>some (.done (.inr o)))))
   (some (.done (.inl ())))
noncomputable def GP (p0_:Tr) (p1_:Qo Bs Ent) (p2_:List Dcl) (p3_:Tr×Int×Int×Int×(List Dcl)×(Qo Bs Ent)×(Qo Bs Ent)→Option (Unit⊕Int)) (p4_:Int) (p5_:Int) (p6_:Int) (p7_:Qo Bs Ent):Option (Unit⊕Int) :=
 Option.bind (JJ (decide ((p0_.branches.length:Int)≤32)) 6) (Sum.elim (fun (b0_:Unit)=>Option.bind (QE (KS p0_ p1_ p2_ p3_ p4_ p5_ p6_ p7_) QU 0) (Sum.elim (fun (b1_:Unit)=>some (.inl ())) (fun o=>some o))) (fun (b2_:Unit)=>some (.inr 6)))
noncomputable def GO (p0_:Tr) (p1_:Int) (p2_:Qo Bs Ent) (p3_:List Dcl) (p4_:Tr×Int×Int×Int×(List Dcl)×(Qo Bs Ent)×(Qo Bs Ent)→Option (Unit⊕Int)) (p5_:Int) (p6_:Int) (p7_:Qo Bs Ent):Option (Unit⊕Int) :=
 Option.bind (cond (decide (0≤p0_.var))
   (Option.bind (JJ (decide (p0_.var < p1_)) 24) (Sum.elim (fun (b0_:Unit)=>some (.inl ())) (fun (b1_:Unit)=>some (.inr (.inr 24)))))
   (Option.bind (JJ false 24) (Sum.elim (fun (b2_:Unit)=>some (.inl ())) (fun (b3_:Unit)=>some (.inr (.inr 24)))))) (Sum.elim (fun (b4_:Unit)=>GP p0_ p2_ p3_ p4_ p1_ p5_ p6_ p7_) (fun o=>some o))
noncomputable abbrev GQ (p0_:List Dcl) (p1_:Qo Bs Ent) (p2_:Qo Bs Ent) (p3_:Tr):List (Nat×HB) :=
 [(0,.cells 62 [dS p0_,.mp 1]),(1,.mp (J2 p1_.1) p1_.2),(2,.mp (J2 p2_.1) p2_.2),(3,.cells 74 (cE p3_))]
noncomputable abbrev J0 (p0_:List Dcl) (p1_:Qo Bs Ent) (p2_:Qo Bs Ent):List (Nat×HB) :=
 [(0,.cells 62 [dS p0_,.mp 1]),(1,.mp (J2 p1_.1) p1_.2),(2,.mp (J2 p2_.1) p2_.2)]
noncomputable abbrev m48f11_h2 (p0_:Qo Bs Ent) (p1_:Br):HB :=
 .cells 35 [dI ((Qy p0_ p1_.ctor).kind),dI ((Qy p0_ p1_.ctor).decl),dI ((Qy p0_ p1_.ctor).item),dI ((Qy p0_ p1_.ctor).params),dI (((Qy p0_ p1_.ctor).ty).kind),dI (((Qy p0_ p1_.ctor).ty).index),J6 (((Qy p0_ p1_.ctor).ty).name),dS (((Qy p0_ p1_.ctor).ty).levels:List Lvl),dS (((Qy p0_ p1_.ctor).ty).kids:List Tm)]
noncomputable abbrev m48f11_h3 (p0_:List Dcl) (p1_:Qo Bs Ent) (p2_:Qo Bs Ent) (p3_:Tr) (p4_:Br):List (Nat×HB) :=
 [(0,.cells 62 [dS p0_,.mp 1]),(1,.mp (J2 p1_.1) p1_.2),(2,.mp (J2 p2_.1) p2_.2),(3,.cells 74 (cE p3_)),(4,.cells 101 (cE p4_)),(5,m48f11_h2 p1_ p4_)]
noncomputable abbrev m48f11_h4 (p0_:List Dcl) (p1_:Qo Bs Ent) (p2_:Qo Bs Ent) (p3_:Tr) (p4_:Br):List (Nat×HB) :=
 [(0,.cells 62 [dS p0_,.mp 1]),(1,.mp (J2 p1_.1) p1_.2),(2,.mp (J2 p2_.1) p2_.2),(3,.cells 74 (cE p3_)),(4,.cells 101 (cE p4_)),(5,m48f11_h2 p1_ p4_),(6,.cells 74 (cE p4_.tree))]
noncomputable abbrev m48f11_h5 (p0_:Tr) (p1_:Br) (p2_:Qo Bs Ent):List (Nat×HB) :=
 [(3,.cells 74 (cE p0_)),(4,.cells 101 (cE p1_)),(5,m48f11_h2 p2_ p1_)]
noncomputable def WE (rc:Tr×Int×Int×Int×(List Dcl)×(Qo Bs Ent)×(Qo Bs Ent)→Option (Unit⊕Int)) (a0:Tr) (a1:Int) (a2:Int) (a3:Int) (a4:List Dcl) (a5:Qo Bs Ent) (a6:Qo Bs Ent):Option (Unit⊕Int) :=
 Option.bind (JJ (decide (a2 < 200)) 7) (Sum.elim (fun (x2:Unit)=>cond (a0.kind==0)
   (Option.bind (cond (a0.var==0)
   (Option.bind (JJ ((a0.branches.length:Int)==0) 3) (Sum.elim (fun (x8:Unit)=>some (.inl ())) (fun (x9:Unit)=>some (.inr (.inr 3)))))
   (Option.bind (JJ false 3) (Sum.elim (fun (x11:Unit)=>some (.inl ())) (fun (x12:Unit)=>some (.inr (.inr 3)))))) (Sum.elim (fun (v5:Unit)=>Option.bind (Gq a0.body a1 a3 a4 a5 a6) (Sum.elim (fun (x7:Unit)=>some (.inl ())) (fun (x8:Int)=>some (.inr x8)))) (fun o=>some o)))
   (Option.bind (cond (a0.kind==1)
   (Option.bind (DE a0.body) fun (x18:Bool) =>
 Option.bind (JJ x18 3) (Sum.elim (fun (x20:Unit)=>some (.inl ())) (fun (x21:Unit)=>some (.inr (.inr 3)))))
   (Option.bind (JJ false 3) (Sum.elim (fun (x23:Unit)=>some (.inl ())) (fun (x24:Unit)=>some (.inr (.inr 3)))))) (Sum.elim (fun (v16:Unit)=>GO a0 a1 a5 a4 rc a2 a3 a6) (fun o=>some o)))) (fun (x3:Unit)=>some (.inr 7)))
noncomputable def Xa (rc:Tr×Int×Int×Int×(List Dcl)×(Qo Bs Ent)×(Qo Bs Ent)→Option (Unit⊕Int)) (u:Tr×Int×Int×Int×(List Dcl)×(Qo Bs Ent)×(Qo Bs Ent)):Option (Unit⊕Int):=WE rc u.1 u.2.1 u.2.2.1 u.2.2.2.1 u.2.2.2.2.1 u.2.2.2.2.2.1 u.2.2.2.2.2.2
noncomputable def m48f11 (a0:Tr) (a1:Int) (a2:Int) (a3:Int) (a4:List Dcl) (a5:Qo Bs Ent) (a6:Qo Bs Ent):Option (Unit⊕Int):=JR Xa QU (a0,a1,a2,a3,a4,a5,a6)
theorem m48f11s_ok (rc:Tr×Int×Int×Int×(List Dcl)×(Qo Bs Ent)×(Qo Bs Ent)→Option (Unit⊕Int)) (H:∀ (a0:Tr) (a1:Int) (a2:Int) (a3:Int) (a4:List Dcl) (a5:Qo Bs Ent) (a6:Qo Bs Ent) (r:Unit⊕Int),rc (a0,a1,a2,a3,a4,a5,a6)=some r→CallE Try.prog 48 [.one (.ptr 0 0),.agg (cE a0),.one (dI a1),.one (dI a2),.one (dI a3),.one (.mp 2)] ⟨J0 a4 a5 a6,[],3⟩ ((Sum.elim (fun (r0:Unit)=>((.ret []):EK)) (fun (r1:Int)=>((.pan (QT 90 r1)):EK))) r) ⟨((Sum.elim (fun (r0:Unit)=>(⟨[],J0 a4 a5 a6,[],4,134,[]⟩:St)) (fun (r1:Int)=>(⟨[],J0 a4 a5 a6,[],4,134,[]⟩:St))) r).hp,((Sum.elim (fun (r0:Unit)=>(⟨[],J0 a4 a5 a6,[],4,134,[]⟩:St)) (fun (r1:Int)=>(⟨[],J0 a4 a5 a6,[],4,134,[]⟩:St))) r).tk,((Sum.elim (fun (r0:Unit)=>(⟨[],J0 a4 a5 a6,[],4,134,[]⟩:St)) (fun (r1:Int)=>(⟨[],J0 a4 a5 a6,[],4,134,[]⟩:St))) r).nx⟩) (a0:Tr) (a1:Int) (a2:Int) (a3:Int) (a4:List Dcl) (a5:Qo Bs Ent) (a6:Qo Bs Ent) (r:Unit⊕Int) (h0:WE rc a0 a1 a2 a3 a4 a5 a6=some r):CallE Try.prog 48 [.one (.ptr 0 0),.agg (cE a0),.one (dI a1),.one (dI a2),.one (dI a3),.one (.mp 2)] ⟨J0 a4 a5 a6,[],3⟩ ((Sum.elim (fun (r0:Unit)=>((.ret []):EK)) (fun (r1:Int)=>((.pan (QT 90 r1)):EK))) r) ⟨((Sum.elim (fun (r0:Unit)=>(⟨[],J0 a4 a5 a6,[],4,134,[]⟩:St)) (fun (r1:Int)=>(⟨[],J0 a4 a5 a6,[],4,134,[]⟩:St))) r).hp,((Sum.elim (fun (r0:Unit)=>(⟨[],J0 a4 a5 a6,[],4,134,[]⟩:St)) (fun (r1:Int)=>(⟨[],J0 a4 a5 a6,[],4,134,[]⟩:St))) r).tk,((Sum.elim (fun (r0:Unit)=>(⟨[],J0 a4 a5 a6,[],4,134,[]⟩:St)) (fun (r1:Int)=>(⟨[],J0 a4 a5 a6,[],4,134,[]⟩:St))) r).nx⟩:=by
 unfold WE at h0
 refine Y0 r ((Sum.elim (fun (r0:Unit)=>(⟨[],J0 a4 a5 a6,[],4,134,[]⟩:St)) (fun (r1:Int)=>(⟨[],J0 a4 a5 a6,[],4,134,[]⟩:St)))) ((Sum.elim (fun (r0:Unit)=>((.ret []):EK)) (fun (r1:Int)=>((.pan (QT 90 r1)):EK)))) rfl rfl en_48 (lb rfl) (fun z_=>by cases z_ with
 | inl _=>exact rfl
 | inr _=>exact rfl) (fun z_=>by cases z_ with
 | inl _=>exact (De .nil)
 | inr _=>exact Dn) (fun w0 M V0 Q hv0 hQ0=>?_)
 simp only [J3]
 refine Q4<|Q0<|Qb Z Z (lb Z) (QN Z)<|Q5<|Q3<|Q4<|Q0<|rM Z Z Z<|rR Z Z Z (Q8 Z Z Z) ?_
 refine Qd h0 (fun x1 hx1 h0=>?_)
 refine Y7 id hx1 h0 (fun x2 hx2 h0=>?_) (fun x3 hx3 h0=>?_)
 refine Qb Z Z (lb Z) (QL Z Z Z (CallE.m (QI (decide (a2 < 200)) 7 (.inl x2) hx2)) Z)<|Q5<|Q3<|Q4<|Q4<|Q0<|rR Z Z Z (Q2 XY Z)<|rR Z Z Z (Q6 QG Z Z Z)<|rR Z Z Z (Q8 Z Z Z)<|Q5<|Q3 ?_
 refine Qe (b:=(a0.kind==0)) Z (fun c4=>?_) (fun c4=>?_)
 replace h0:=Qf c4 h0
 refine Q4 ?_
 refine QD (fun (v5:Unit)=>⟨[(0,.v (.one (.ptr 0 0))),(2,.v (.one (dI a1))),(4,.v (.one (dI a3))),(5,.v (.one (.mp 2))),(7,.v (.one (.ptr 3 0)))],GQ a4 a5 a6 a0,[],4,134,[]⟩) (fun (v5:Unit)=>(Option.bind (Gq a0.body a1 a3 a4 a5 a6) (Sum.elim (fun (x7:Unit)=>some (.inl ())) (fun (x8:Int)=>some (.inr x8))))=some r) ?_ ?_
 refine Qd h0 (fun w1_ h1 h0=>?_)
 refine Q0<|rR Z Z Z (Q2 KL Z)<|rR Z Z Z (Q6 QG Z Z Z)<|rR Z Z Z (Q8 Z Z Z)<|rM Z Z Z ?_
 refine Qw (d:=26) (c:=(a0.var==0)) Z (fun c6=>?_) (fun c6=>?_)
 replace h1:=Qf c6 h1
 refine rR Z Z Z (Q2 Yc Z)<|rR Z Z Z (Q6 Zm Z Z Z)<|rR Z Z Z (Qx (α:=Br) Zc Z (.d _))<|rR Z Z Z (Q8 Z Z Z)<|rR Z Z Z (Qc Z Z) ?_
 refine Qd h1 (fun x7 hx7 h1=>?_)
 refine Y7 id hx7 h1 (fun x8 hx8 h1=>?_) (fun x9 hx9 h1=>?_)
 refine Qb Z Z (lb Z) (QL Z Z Z (CallE.m (QI ((a0.branches.length:Int)==0) 3 (.inl x8) hx8)) Z)<|Q5 ?_
 have e:=sI h1;subst e
 replace h0:=G4 h0
 exact Q9 () (QV (tA Z) (hA Z) kZ Z (Nat.le_trans hv0 (lb Z)) Z Z Z (bB Z Z (bG Z (bG Z (bA Z)))) Z Z) h0
 refine Jg Z (QS Z Z Z (CallE.d (QI ((a0.branches.length:Int)==0) 3 (.inr x9) hx9))) ?_
 have e:=sI h1;subst e
 replace h0:=GA h0
 have e:=sI h0;subst e
 exact Ju (hQ0 (.panic (JE (QT 90 3))) _ K7 Z (show StLe _ _ ⟨[],J0 a4 a5 a6,[],4,134,[]⟩ from (QV tZ (hA Z) kZ Z (Nat.le_trans hv0 (lb Z)) Z Z Z (bB Z Z (bG Z (bG Z bZ))) Z Z))) (fun _ _ h=>h)
 replace h1:=Qg c6 h1
 refine Q7 Z Z<|Q7 Z Z<|Q7 Z Z<|Q7 Z Z<|rR Z Z Z (Qa Z Z) ?_
 refine Qd h1 (fun x10 hx10 h1=>?_)
 refine Y7 id hx10 h1 (fun x11 hx11 h1=>?_) (fun x12 hx12 h1=>?_)
 refine Qb Z Z (lb Z) (QL Z Z Z (CallE.m (QI false 3 (.inl x11) hx11)) Z)<|Q5 ?_
 have e:=sI h1;subst e
 replace h0:=G4 h0
 exact Q9 () (QV (tA Z) (hA Z) kZ Z (Nat.le_trans hv0 (lb Z)) Z Z Z (bB Z Z (bG Z (bG Z (bA Z)))) Z Z) h0
 refine Jg Z (QS Z Z Z (CallE.d (QI false 3 (.inr x12) hx12))) ?_
 have e:=sI h1;subst e
 replace h0:=GA h0
 have e:=sI h0;subst e
 exact Ju (hQ0 (.panic (JE (QT 90 3))) _ K7 Z (show StLe _ _ ⟨[],J0 a4 a5 a6,[],4,134,[]⟩ from (QV tZ (hA Z) kZ Z (Nat.le_trans hv0 (lb Z)) Z Z Z (bB Z Z (bG Z (bG Z bZ))) Z Z))) (fun _ _ h=>h)
 intro v5 h0
 refine Q3<|Q4<|Q0<|rM Z Z Z<|rR Z Z Z (Q2 Gw Z)<|rR Z Z Z (Qi QR Z Z Z Z)<|rM Z Z Z<|rM Z Z Z<|rM Z Z Z ?_
 refine Qd h0 (fun x13 hx13 h0=>?_)
 refine Y7 id hx13 h0 (fun x14 hx14 h0=>?_) (fun x15 hx15 h0=>?_)
 refine Qb Z Z (lb Z) (JC (hp1':=[(0,.cells 62 [dS a4,.mp 1]),(1,.mp (J2 a5.1) a5.2),(2,.mp (J2 a6.1) a6.2)]) (tk1':=[]) (hpF:=[(3,.cells 74 (cE a0))]) (tkF:=[]) (res2:=QM []) (nx2:=12) [0,1,2] Z Z (CallE.m (YO a0.body a1 a3 a4 a5 a6 (.inl x14) hx14)) Z Z (qB Z Z (qG Z (qG Z qZ))) Z Z (gR Z (gG Z (gG Z gZ))) jZ (hA Z) kZ Z Z Z Z Z (bB Z Z (bG Z (bG Z bZ))) Z Z Z Z)<|Q5<|Q3<|Qp ?_
 have e:=sI h0;subst e
 exact hQ0 _ _ DF Z (show StLe _ _ ⟨[],J0 a4 a5 a6,[],4,134,[]⟩ from (QV tZ (hA Z) kZ Z (Nat.le_trans hv0 (lb Z)) Z Z Z (bB Z Z (bG Z (bG Z bZ))) Z Z))
 refine Jg Z (YD (hp1':=[(0,.cells 62 [dS a4,.mp 1]),(1,.mp (J2 a5.1) a5.2),(2,.mp (J2 a6.1) a6.2)]) (tk1':=[]) (hpF:=[(3,.cells 74 (cE a0))]) (tkF:=[]) (nx2:=7) [0,1,2] Z Z (CallE.d (YO a0.body a1 a3 a4 a5 a6 (.inr x15) hx15)) Z Z (qB Z Z (qG Z (qG Z qZ))) Z (gR Z (gG Z (gG Z gZ))) jZ (hA Z) kZ Z Z Z Z Z (bB Z Z (bG Z (bG Z bZ))) Z Z Z Z) ?_
 have e:=sI h0;subst e
 exact Ju (hQ0 (.panic (JE (QT 90 x15))) _ K7 Z (show StLe _ _ ⟨[],J0 a4 a5 a6,[],4,134,[]⟩ from (QV tZ (hA Z) kZ Z (Nat.le_trans hv0 (lb Z)) Z Z Z (bB Z Z (bG Z (bG Z bZ))) Z Z))) (fun _ _ h=>h)
 replace h0:=Qg c4 h0
 refine Qj<|Q3<|Q4 ?_
 refine QD (fun (v16:Unit)=>⟨[(0,.v (.one (.ptr 0 0))),(2,.v (.one (dI a1))),(3,.v (.one (dI a2))),(4,.v (.one (dI a3))),(5,.v (.one (.mp 2))),(7,.v (.one (.ptr 3 0)))],GQ a4 a5 a6 a0,[],4,134,[]⟩) (fun (v16:Unit)=>(GO a0 a1 a5 a4 rc a2 a3 a6)=some r) ?_ ?_
 refine Qd h0 (fun w1_ h1 h0=>?_)
 refine Q0<|rR Z Z Z (Q2 XY Z)<|rR Z Z Z (Q6 QG Z Z Z)<|rR Z Z Z (Q8 Z Z Z)<|rM Z Z Z ?_
 refine Qw (d:=43) (c:=(a0.kind==1)) Z (fun c17=>?_) (fun c17=>?_)
 replace h1:=Qf c17 h1
 refine rR Z Z Z (Q2 Gw Z)<|rR Z Z Z (Qi QR Z Z Z Z) ?_
 refine Qd h1 (fun x18 hx18 h1=>?_)
 refine Qb Z Z (lb Z) (Qh (Uj a0.body x18 hx18) Z (.cons (.agg (.cons (.d _) (.cons (.d _) (.cons (.d _) (.cons (.d _) (.cons (.d _) .nil)))))) .nil))<|rR Z Z Z (Qc Z Z) ?_
 refine Qd h1 (fun x19 hx19 h1=>?_)
 refine Y7 id hx19 h1 (fun x20 hx20 h1=>?_) (fun x21 hx21 h1=>?_)
 refine Qb Z Z (lb Z) (QL Z Z Z (CallE.m (QI x18 3 (.inl x20) hx20)) Z)<|Q5 ?_
 have e:=sI h1;subst e
 replace h0:=G4 h0
 exact Q9 () (QV (tA Z) (hA Z) kZ Z (Nat.le_trans hv0 (lb Z)) Z Z Z (bB Z Z (bG Z (bG Z (bA Z)))) Z Z) h0
 refine Jg Z (QS Z Z Z (CallE.d (QI x18 3 (.inr x21) hx21))) ?_
 have e:=sI h1;subst e
 replace h0:=GA h0
 have e:=sI h0;subst e
 exact Ju (hQ0 (.panic (JE (QT 90 3))) _ K7 Z (show StLe _ _ ⟨[],J0 a4 a5 a6,[],4,134,[]⟩ from (QV tZ (hA Z) kZ Z (Nat.le_trans hv0 (lb Z)) Z Z Z (bB Z Z (bG Z (bG Z bZ))) Z Z))) (fun _ _ h=>h)
 replace h1:=Qg c17 h1
 refine Q7 Z Z<|Q7 Z Z<|Q7 Z Z<|rR Z Z Z (Qa Z Z) ?_
 refine Qd h1 (fun x22 hx22 h1=>?_)
 refine Y7 id hx22 h1 (fun x23 hx23 h1=>?_) (fun x24 hx24 h1=>?_)
 refine Qb Z Z (lb Z) (QL Z Z Z (CallE.m (QI false 3 (.inl x23) hx23)) Z)<|Q5 ?_
 have e:=sI h1;subst e
 replace h0:=G4 h0
 exact Q9 () (QV (tA Z) (hA Z) kZ Z (Nat.le_trans hv0 (lb Z)) Z Z Z (bB Z Z (bG Z (bG Z (bA Z)))) Z Z) h0
 refine Jg Z (QS Z Z Z (CallE.d (QI false 3 (.inr x24) hx24))) ?_
 have e:=sI h1;subst e
 replace h0:=GA h0
 have e:=sI h0;subst e
 exact Ju (hQ0 (.panic (JE (QT 90 3))) _ K7 Z (show StLe _ _ ⟨[],J0 a4 a5 a6,[],4,134,[]⟩ from (QV tZ (hA Z) kZ Z (Nat.le_trans hv0 (lb Z)) Z Z Z (bB Z Z (bG Z (bG Z bZ))) Z Z))) (fun _ _ h=>h)
 intro v16 h0
 unfold GO at h0
 refine Q3<|Q4 ?_
 refine QD (fun (v25:Unit)=>⟨[(0,.v (.one (.ptr 0 0))),(2,.v (.one (dI a1))),(3,.v (.one (dI a2))),(4,.v (.one (dI a3))),(5,.v (.one (.mp 2))),(7,.v (.one (.ptr 3 0)))],GQ a4 a5 a6 a0,[],4,134,[]⟩) (fun (v25:Unit)=>(GP a0 a5 a4 rc a1 a2 a3 a6)=some r) ?_ ?_
 refine Qd h0 (fun w1_ h1 h0=>?_)
 refine Q0<|rR Z Z Z (Q2 KL Z)<|rR Z Z Z (Q6 QG Z Z Z)<|rR Z Z Z (Q8 Z Z Z)<|rM Z Z Z ?_
 refine Qw (d:=52) (c:=(decide (0≤a0.var))) Z (fun c26=>?_) (fun c26=>?_)
 replace h1:=Qf c26 h1
 refine rR Z Z Z (Q2 KL Z)<|rR Z Z Z (Q6 QG Z Z Z)<|rM Z Z Z<|rR Z Z Z (Q8 Z Z Z)<|rR Z Z Z (Qc Z Z) ?_
 refine Qd h1 (fun x27 hx27 h1=>?_)
 refine Y7 id hx27 h1 (fun x28 hx28 h1=>?_) (fun x29 hx29 h1=>?_)
 refine Qb Z Z (lb Z) (QL Z Z Z (CallE.m (QI (decide (a0.var < a1)) 24 (.inl x28) hx28)) Z)<|Q5 ?_
 have e:=sI h1;subst e
 replace h0:=G4 h0
 exact Q9 () (QV (tA Z) (hA Z) kZ Z (Nat.le_trans hv0 (lb Z)) Z Z Z (bB Z Z (bG Z (bG Z (bA Z)))) Z Z) h0
 refine Jg Z (QS Z Z Z (CallE.d (QI (decide (a0.var < a1)) 24 (.inr x29) hx29))) ?_
 have e:=sI h1;subst e
 replace h0:=GA h0
 have e:=sI h0;subst e
 exact Ju (hQ0 (.panic (JE (QT 90 24))) _ K7 Z (show StLe _ _ ⟨[],J0 a4 a5 a6,[],4,134,[]⟩ from (QV tZ (hA Z) kZ Z (Nat.le_trans hv0 (lb Z)) Z Z Z (bB Z Z (bG Z (bG Z bZ))) Z Z))) (fun _ _ h=>h)
 replace h1:=Qg c26 h1
 refine Q7 Z Z<|Q7 Z Z<|Q7 Z Z<|Q7 Z Z<|rR Z Z Z (Qa Z Z) ?_
 refine Qd h1 (fun x30 hx30 h1=>?_)
 refine Y7 id hx30 h1 (fun x31 hx31 h1=>?_) (fun x32 hx32 h1=>?_)
 refine Qb Z Z (lb Z) (QL Z Z Z (CallE.m (QI false 24 (.inl x31) hx31)) Z)<|Q5 ?_
 have e:=sI h1;subst e
 replace h0:=G4 h0
 exact Q9 () (QV (tA Z) (hA Z) kZ Z (Nat.le_trans hv0 (lb Z)) Z Z Z (bB Z Z (bG Z (bG Z (bA Z)))) Z Z) h0
 refine Jg Z (QS Z Z Z (CallE.d (QI false 24 (.inr x32) hx32))) ?_
 have e:=sI h1;subst e
 replace h0:=GA h0
 have e:=sI h0;subst e
 exact Ju (hQ0 (.panic (JE (QT 90 24))) _ K7 Z (show StLe _ _ ⟨[],J0 a4 a5 a6,[],4,134,[]⟩ from (QV tZ (hA Z) kZ Z (Nat.le_trans hv0 (lb Z)) Z Z Z (bB Z Z (bG Z (bG Z bZ))) Z Z))) (fun _ _ h=>h)
 intro v25 h0
 unfold GP at h0
 refine Q3<|Q4<|Q0<|rR Z Z Z (Q2 Yc Z)<|rR Z Z Z (Q6 Zm Z Z Z)<|rR Z Z Z (Qx (α:=Br) Zc Z (.d _))<|rR Z Z Z (Q8 Z Z Z) ?_
 refine Qd h0 (fun x33 hx33 h0=>?_)
 refine Y7 id hx33 h0 (fun x34 hx34 h0=>?_) (fun x35 hx35 h0=>?_)
 refine Qb Z Z (lb Z) (QL Z Z Z (CallE.m (QI (decide ((a0.branches.length:Int)≤32)) 6 (.inl x34) hx34)) Z)<|Q5<|Q3<|Q4<|Q0<|rR Z Z Z (Q2 Yc Z)<|rR Z Z Z (Q6 Zm Z Z Z)<|rR Z Z Z (Qx (α:=Br) Zc Z (.d _))<|rM Z Z Z<|Q5<|Q3<|Ql ?_
 refine QQ 0 (fun (o36:Unit)=>⟨[],GQ a4 a5 a6 a0,[],4,134,[]⟩) (fun (o36:Unit)=>(some (.inl ()))=some r) ?_ ?_
 refine Qd h0 (fun o37 hl1 h0=>?_)
 refine QP (KS a0 a5 a4 rc a1 a2 a3 a6) (fun s1=>⟨[(0,.v (.one (.ptr 0 0))),(2,.v (.one (dI a1))),(3,.v (.one (dI a2))),(4,.v (.one (dI a3))),(5,.v (.one (.mp 2))),(65,.v (.one (dS a0.branches))),(66,.v (.one (dI (a0.branches.length:Int)))),(67,.v (.one (dI s1)))],GQ a4 a5 a6 a0,[],4,134,[]⟩) 0 o37 (QV (tA Z) (hA Z) kZ Z (Nat.le_trans hv0 (lb Z)) Z Z Z (bB Z Z (bG Z (bG Z (bA Z)))) Z Z) hl1 (fun s1 n1 oo1 h1 ho1=>?_)
 unfold KS at h1
 refine Q4<|Q0<|rR Z Z Z (Q8 Z Z Z)<|Q5<|Q3<|Q4 ?_
 refine Qe (b:=(decide (s1 < (a0.branches.length:Int)))) Z (fun c38=>?_) (fun c38=>?_)
 replace h1:=Qf c38 h1
 refine Qj<|Q3<|Q4<|Ql<|Q4<|Q0 ?_
 refine Qd h1 (fun x39 hx39 h1=>?_)
 refine rR Z Z Z (Qt (α:=Br) Zc Z (.d _) Z hx39)<|rR Z Z Z (Qu (x39:Br) ZF Z)<|Qb Z Z (lb Z) (Qv UH Z)<|QC Z Z (QA (x39:Br) ZF Z Z Z Z Z)<|Q5<|Q3<|Q4 ?_
 refine J4 [10,11] [(0,1),(1,1),(2,1),(3,1),(4,1),(5,1),(6,1),(7,1),(8,1),(9,1),(9,2)] JV (by kernel_rfl) (by kernel_rfl) (by kernel_rfl) ?_
 refine RunA.rd Z Z Z (Q1 (Qq Z)) Z<|RunA.rd Z Z Z (Q1 (JB Z)) Z<|RunA.rd Z Z Z (Q1 (Q2 Kj Z)) Z<|RunA.rd Z Z Z (Q1 (Q6 YI Z Z Z)) Z<|RunA.rd Z Z Z (Q1 (Q2 X2 Z)) Z<|RunA.rd Z Z Z (Q1 (Q6 JG Z Z Z)) Z<|RunA.rd Z Z Z (Q1 (ZM (M:=a5) (k:=x39.ctor) Z0 KE Z Z Z)) Z<|RunA.rd Z Z Z (Q1 (Qq Z)) Z<|RunA.rd Z Z Z (Q1 (QX Z Z)) Z<|RunA.rd Z Z Z (Q1 (QX Z Z)) Z<|RunA.eff Z Z Z (Qv Z7 Z) Z<|RunA.eff Z Z Z (Qz J8 Z Z Z Z (lb Z) Z) Z<|RunA.rd Z Z Z (Q1 (Jd Z)) Z ?_
 refine RunA.nil ⟨?ex,_,_,Z,?_⟩
 case ex=>exact ⟨⟨_,rfl,_,_,rfl,rfl,rfl,.inl ⟨rfl,_,Q1 (Qq rfl),rfl⟩⟩,⟨_,rfl,_,_,rfl,rfl,rfl,.inl ⟨rfl,_,Q1 (JB rfl),rfl⟩⟩,⟨_,rfl,_,_,rfl,rfl,rfl,.inl ⟨rfl,_,Q1 (Q2 Kj rfl),rfl⟩⟩,⟨_,rfl,_,_,rfl,rfl,rfl,.inl ⟨rfl,_,Q1 (Q6 YI rfl rfl rfl),rfl⟩⟩,⟨_,rfl,_,_,rfl,rfl,rfl,.inl ⟨rfl,_,Q1 (Q2 X2 rfl),rfl⟩⟩,⟨_,rfl,_,_,rfl,rfl,rfl,.inl ⟨rfl,_,Q1 (Q6 JG rfl rfl rfl),rfl⟩⟩,⟨_,rfl,_,_,rfl,rfl,rfl,.inl ⟨rfl,_,Q1 (ZM (M:=a5) (k:=x39.ctor) Z0 KE rfl rfl rfl),rfl⟩⟩,⟨_,rfl,_,_,rfl,rfl,rfl,.inl ⟨rfl,_,Q1 (Qq rfl),rfl⟩⟩,⟨_,rfl,_,_,rfl,rfl,rfl,.inl ⟨rfl,_,Q1 (QX rfl rfl),rfl⟩⟩,⟨_,rfl,_,_,rfl,rfl,rfl,.inl ⟨rfl,_,Q1 (QX rfl rfl),rfl⟩⟩,⟨_,rfl,_,_,rfl,rfl,rfl,.inl ⟨rfl,_,Q1 (QX rfl rfl),rfl⟩⟩,trivial⟩
 refine Jp (st':=⟨[(0,.v (.one (.ptr 0 0))),(2,.v (.one (dI a1))),(3,.v (.one (dI a2))),(4,.v (.one (dI a3))),(5,.v (.one (.mp 2))),(13,.v (.one (.ptr 4 0))),(14,.v (.one (.ptr 5 0))),(15,.v (.one (dB (YL a5 x39.ctor)))),(65,.v (.one (dS a0.branches))),(66,.v (.one (dI (a0.branches.length:Int)))),(67,.v (.one (dI s1)))],m48f11_h3 a4 a5 a6 a0 x39,[],6,134,[]⟩) (QV (tA Z) (hA Z) kZ Z (Nat.le_trans hv0 (lb Z)) Z Z Z (bB Z Z (bG Z (bG Z (bA Z)))) Z Z)<|Q3<|Q4 ?_
 refine QD (fun (v40:Unit)=>⟨[(0,.v (.one (.ptr 0 0))),(2,.v (.one (dI a1))),(3,.v (.one (dI a2))),(4,.v (.one (dI a3))),(5,.v (.one (.mp 2))),(13,.v (.one (.ptr 4 0))),(14,.v (.one (.ptr 5 0))),(65,.v (.one (dS a0.branches))),(66,.v (.one (dI (a0.branches.length:Int)))),(67,.v (.one (dI s1)))],m48f11_h3 a4 a5 a6 a0 x39,[],6,134,[]⟩) (fun (v40:Unit)=>(m48f11_k0 x39 s1 a4 a5 rc a1 a2 a3 a6)=some oo1) ?_ ?_
 refine Qd h1 (fun w2_ h2 h1=>?_)
 refine Q0<|rM Z Z Z<|rM Z Z Z ?_
 refine Qw (d:=82) (c:=(YL a5 x39.ctor)) Z (fun c41=>?_) (fun c41=>?_)
 replace h2:=Qf c41 h2
 refine rR Z Z Z (Q2 Yx Z)<|rR Z Z Z (Q6 QG Z Z Z)<|rR Z Z Z (Q8 Z Z Z)<|rR Z Z Z (Qc Z Z) ?_
 refine Qd h2 (fun x42 hx42 h2=>?_)
 refine Y7 id hx42 h2 (fun x43 hx43 h2=>?_) (fun x44 hx44 h2=>?_)
 refine Qb Z Z (lb Z) (QL Z Z Z (CallE.m (QI (((Qy a5 x39.ctor).kind)==4) 9 (.inl x43) hx43)) Z)<|Q5 ?_
 have e:=sI h2;subst e
 replace h1:=G4 h1
 exact Q9 () (QV (tA Z) (hA Z) kZ Z (Nat.le_trans hv0 (lb Z)) Z Z Z (bB Z Z (bG Z (bG Z (bA Z)))) Z Z) h1
 refine Jg Z (QS Z Z Z (CallE.d (QI (((Qy a5 x39.ctor).kind)==4) 9 (.inr x44) hx44))) ?_
 have e:=sI h2;subst e
 replace h1:=GA h1
 have e:=sI h1;subst e
 have e_:_=_:=ho1
 subst e_
 try dsimp only [Sum.elim_inl,Sum.elim_inr] at h0
 have e:=sI h0;subst e
 exact Ju (hQ0 (.panic (JE (QT 90 9))) _ K7 Z (show StLe _ _ ⟨[],J0 a4 a5 a6,[],4,134,[]⟩ from (QV tZ (hA Z) kZ Z (Nat.le_trans hv0 (lb Z)) Z Z Z (bB Z Z (bG Z (bG Z bZ))) Z Z))) (fun _ _ h=>h)
 replace h2:=Qg c41 h2
 refine Q7 Z Z<|Q7 Z Z<|Q7 Z Z<|rR Z Z Z (Qa Z Z) ?_
 refine Qd h2 (fun x45 hx45 h2=>?_)
 refine Y7 id hx45 h2 (fun x46 hx46 h2=>?_) (fun x47 hx47 h2=>?_)
 refine Qb Z Z (lb Z) (QL Z Z Z (CallE.m (QI false 9 (.inl x46) hx46)) Z)<|Q5 ?_
 have e:=sI h2;subst e
 replace h1:=G4 h1
 exact Q9 () (QV (tA Z) (hA Z) kZ Z (Nat.le_trans hv0 (lb Z)) Z Z Z (bB Z Z (bG Z (bG Z (bA Z)))) Z Z) h1
 refine Jg Z (QS Z Z Z (CallE.d (QI false 9 (.inr x47) hx47))) ?_
 have e:=sI h2;subst e
 replace h1:=GA h1
 have e:=sI h1;subst e
 have e_:_=_:=ho1
 subst e_
 try dsimp only [Sum.elim_inl,Sum.elim_inr] at h0
 have e:=sI h0;subst e
 exact Ju (hQ0 (.panic (JE (QT 90 9))) _ K7 Z (show StLe _ _ ⟨[],J0 a4 a5 a6,[],4,134,[]⟩ from (QV tZ (hA Z) kZ Z (Nat.le_trans hv0 (lb Z)) Z Z Z (bB Z Z (bG Z (bG Z bZ))) Z Z))) (fun _ _ h=>h)
 intro v40 h1
 unfold m48f11_k0 at h1
 refine Q3<|Q4<|Q4<|Q0<|rR Z Z Z (Q2 fo_101_1 Z)<|rR Z Z Z (Q6 Db Z Z Z)<|Q5<|Q3 ?_
 refine Qe (b:=x39.absurd) Z (fun c48=>?_) (fun c48=>?_)
 replace h1:=Qf c48 h1
 refine Q4<|Q0<|rR Z Z Z (Q2 Gh Z)<|rR Z Z Z (Qi Gy Z Z Z Z)<|Qb Z Z (lb Z) (Qv z_74 Z)<|QC Z Z (QA (x39.tree:Tr) Gy Z Z Z Z Z)<|Q5<|Q3<|Q4 ?_
 refine QD (fun (v49:Unit)=>⟨[(0,.v (.one (.ptr 0 0))),(2,.v (.one (dI a1))),(3,.v (.one (dI a2))),(4,.v (.one (dI a3))),(5,.v (.one (.mp 2))),(65,.v (.one (dS a0.branches))),(66,.v (.one (dI (a0.branches.length:Int)))),(67,.v (.one (dI s1)))],m48f11_h4 a4 a5 a6 a0 x39,[],7,134,[]⟩) (fun (v49:Unit)=>(some (.next (Ja (s1+1))))=some oo1) ?_ ?_
 refine Qd h1 (fun w2_ h2 h1=>?_)
 refine Q0<|rR Z Z Z (Q2 XY Z)<|rR Z Z Z (Q6 QG Z Z Z)<|rR Z Z Z (Q8 Z Z Z)<|rM Z Z Z ?_
 refine Qw (d:=95) (c:=(x39.tree.kind==0)) Z (fun c50=>?_) (fun c50=>?_)
 replace h2:=Qf c50 h2
 refine rR Z Z Z (Q2 KL Z)<|rR Z Z Z (Q6 QG Z Z Z)<|rR Z Z Z (Q8 Z Z Z)<|rR Z Z Z (Qc Z Z)<|rM Z Z Z ?_
 refine Qw (d:=100) (c:=(x39.tree.var==0)) Z (fun c51=>?_) (fun c51=>?_)
 replace h2:=Qf c51 h2
 refine rR Z Z Z (Q2 Yc Z)<|rR Z Z Z (Q6 Zm Z Z Z)<|rR Z Z Z (Qx (α:=Br) Zc Z (.d _))<|rR Z Z Z (Q8 Z Z Z)<|rR Z Z Z (Qc Z Z)<|rM Z Z Z ?_
 refine Qw (d:=106) (c:=((x39.tree.branches.length:Int)==0)) Z (fun c52=>?_) (fun c52=>?_)
 replace h2:=Qf c52 h2
 refine rR Z Z Z (Q2 Gw Z)<|rR Z Z Z (Qi QR Z Z Z Z) ?_
 refine Qd h2 (fun x53 hx53 h2=>?_)
 refine Qb Z Z (lb Z) (Qh (Uj x39.tree.body x53 hx53) Z (.cons (.agg (.cons (.d _) (.cons (.d _) (.cons (.d _) (.cons (.d _) (.cons (.d _) .nil)))))) .nil))<|rR Z Z Z (Qc Z Z) ?_
 refine Qd h2 (fun x54 hx54 h2=>?_)
 refine Y7 id hx54 h2 (fun x55 hx55 h2=>?_) (fun x56 hx56 h2=>?_)
 refine Qb Z Z (lb Z) (QL Z Z Z (CallE.m (QI x53 3 (.inl x55) hx55)) Z)<|Q5 ?_
 have e:=sI h2;subst e
 replace h1:=G4 h1
 exact Q9 () (QV (tA Z) (hA Z) kZ Z (Nat.le_trans hv0 (lb Z)) Z Z Z (bB Z Z (bG Z (bG Z (bA Z)))) Z Z) h1
 refine Jg Z (QS Z Z Z (CallE.d (QI x53 3 (.inr x56) hx56))) ?_
 have e:=sI h2;subst e
 replace h1:=GA h1
 have e:=sI h1;subst e
 have e_:_=_:=ho1
 subst e_
 try dsimp only [Sum.elim_inl,Sum.elim_inr] at h0
 have e:=sI h0;subst e
 exact Ju (hQ0 (.panic (JE (QT 90 3))) _ K7 Z (show StLe _ _ ⟨[],J0 a4 a5 a6,[],4,134,[]⟩ from (QV tZ (hA Z) kZ Z (Nat.le_trans hv0 (lb Z)) Z Z Z (bB Z Z (bG Z (bG Z bZ))) Z Z))) (fun _ _ h=>h)
 replace h2:=Qg c52 h2
 refine Q7 Z Z<|Q7 Z Z<|Q7 Z Z<|rR Z Z Z (Qa Z Z) ?_
 refine Qd h2 (fun x57 hx57 h2=>?_)
 refine Y7 id hx57 h2 (fun x58 hx58 h2=>?_) (fun x59 hx59 h2=>?_)
 refine Qb Z Z (lb Z) (QL Z Z Z (CallE.m (QI false 3 (.inl x58) hx58)) Z)<|Q5 ?_
 have e:=sI h2;subst e
 replace h1:=G4 h1
 exact Q9 () (QV (tA Z) (hA Z) kZ Z (Nat.le_trans hv0 (lb Z)) Z Z Z (bB Z Z (bG Z (bG Z (bA Z)))) Z Z) h1
 refine Jg Z (QS Z Z Z (CallE.d (QI false 3 (.inr x59) hx59))) ?_
 have e:=sI h2;subst e
 replace h1:=GA h1
 have e:=sI h1;subst e
 have e_:_=_:=ho1
 subst e_
 try dsimp only [Sum.elim_inl,Sum.elim_inr] at h0
 have e:=sI h0;subst e
 exact Ju (hQ0 (.panic (JE (QT 90 3))) _ K7 Z (show StLe _ _ ⟨[],J0 a4 a5 a6,[],4,134,[]⟩ from (QV tZ (hA Z) kZ Z (Nat.le_trans hv0 (lb Z)) Z Z Z (bB Z Z (bG Z (bG Z bZ))) Z Z))) (fun _ _ h=>h)
 replace h2:=Qg c51 h2
 refine Q7 Z Z<|Q7 Z Z<|Q7 Z Z<|Q7 Z Z<|rR Z Z Z (Qa Z Z)<|rM Z Z Z<|Q7 Z Z<|Q7 Z Z<|Q7 Z Z<|rR Z Z Z (Qa Z Z) ?_
 refine Qd h2 (fun x60 hx60 h2=>?_)
 refine Y7 id hx60 h2 (fun x61 hx61 h2=>?_) (fun x62 hx62 h2=>?_)
 refine Qb Z Z (lb Z) (QL Z Z Z (CallE.m (QI false 3 (.inl x61) hx61)) Z)<|Q5 ?_
 have e:=sI h2;subst e
 replace h1:=G4 h1
 exact Q9 () (QV (tA Z) (hA Z) kZ Z (Nat.le_trans hv0 (lb Z)) Z Z Z (bB Z Z (bG Z (bG Z (bA Z)))) Z Z) h1
 refine Jg Z (QS Z Z Z (CallE.d (QI false 3 (.inr x62) hx62))) ?_
 have e:=sI h2;subst e
 replace h1:=GA h1
 have e:=sI h1;subst e
 have e_:_=_:=ho1
 subst e_
 try dsimp only [Sum.elim_inl,Sum.elim_inr] at h0
 have e:=sI h0;subst e
 exact Ju (hQ0 (.panic (JE (QT 90 3))) _ K7 Z (show StLe _ _ ⟨[],J0 a4 a5 a6,[],4,134,[]⟩ from (QV tZ (hA Z) kZ Z (Nat.le_trans hv0 (lb Z)) Z Z Z (bB Z Z (bG Z (bG Z bZ))) Z Z))) (fun _ _ h=>h)
 replace h2:=Qg c50 h2
 refine Q7 Z Z<|Q7 Z Z<|Q7 Z Z<|rR Z Z Z (Qa Z Z)<|rM Z Z Z<|Q7 Z Z<|Q7 Z Z<|Q7 Z Z<|Q7 Z Z<|rR Z Z Z (Qa Z Z)<|rM Z Z Z<|Q7 Z Z<|Q7 Z Z<|Q7 Z Z ?_
 refine rR Z Z Z (Qa Z Z) ?_
 refine Qd h2 (fun x63 hx63 h2=>?_)
 refine Y7 id hx63 h2 (fun x64 hx64 h2=>?_) (fun x65 hx65 h2=>?_)
 refine Qb Z Z (lb Z) (QL Z Z Z (CallE.m (QI false 3 (.inl x64) hx64)) Z)<|Q5 ?_
 have e:=sI h2;subst e
 replace h1:=G4 h1
 exact Q9 () (QV (tA Z) (hA Z) kZ Z (Nat.le_trans hv0 (lb Z)) Z Z Z (bB Z Z (bG Z (bG Z (bA Z)))) Z Z) h1
 refine Jg Z (QS Z Z Z (CallE.d (QI false 3 (.inr x65) hx65))) ?_
 have e:=sI h2;subst e
 replace h1:=GA h1
 have e:=sI h1;subst e
 have e_:_=_:=ho1
 subst e_
 try dsimp only [Sum.elim_inl,Sum.elim_inr] at h0
 have e:=sI h0;subst e
 exact Ju (hQ0 (.panic (JE (QT 90 3))) _ K7 Z (show StLe _ _ ⟨[],J0 a4 a5 a6,[],4,134,[]⟩ from (QV tZ (hA Z) kZ Z (Nat.le_trans hv0 (lb Z)) Z Z Z (bB Z Z (bG Z (bG Z bZ))) Z Z))) (fun _ _ h=>h)
 intro v49 h1
 refine Q3<|QW<|Qr<|QF<|Q3<|Q0<|rR Z Z Z (Q8 Z Z Z)<|rM Z Z Z<|Q5 ?_
 have e:=sI h1;subst e
 refine QJ (Ja (s1+1)) (QV (tA Z) (hA Z) kZ Z (Nat.le_trans hv0 (lb Z)) Z Z Z (bB Z Z (bG Z (bG Z (bA Z)))) Z Z) ho1
 replace h1:=Qg c48 h1
 refine Qj<|Q3 ?_
 refine J4 [20] [] JV (by kernel_rfl) (by kernel_rfl) (by kernel_rfl) ?_
 refine RunA.rd Z Z Z (Q1 (Qq Z)) Z<|RunA.rd Z Z Z (Q1 (Q2 Gh Z)) Z<|RunA.rd Z Z Z (Q1 (Qi Gy Z Z Z Z)) Z<|RunA.rd Z Z Z (Q1 (Qq Z)) Z<|RunA.rd Z Z Z (Q1 (Qq Z)) Z<|RunA.rd Z Z Z (Q1 (JB Z)) Z<|RunA.rd Z Z Z (Q1 (Q2 fo_62_0 Z)) Z<|RunA.rd Z Z Z (Q1 (Q6 U8 Z Z Z)) Z<|RunA.rd Z Z Z (Q1 (Q2 K1 Z)) Z<|RunA.rd Z Z Z (Q1 (Q6 QG Z Z Z)) Z ?_
 refine Qd h1 (fun x66 hx66 h1=>?_)
 refine RunA.rd Z Z Z (Q1 (Qt (α:=Dcl) YE Z (.d _) Z hx66)) Z<|RunA.rd Z Z Z (Q1 (Qu (x66:Dcl) Jq Z)) Z<|RunA.rd Z Z Z (Q1 (Q2 KM Z)) Z<|RunA.rd Z Z Z (Q1 (Q6 QG Z Z Z)) Z ?_
 refine Qd h1 (fun x67 hx67 h1=>?_)
 refine RunA.rd Z Z Z (Qh (m68_ok x66 ((Qy a5 x39.ctor).item) x67 hx67) Z (.cons (.agg (.cons (.d _) (.cons (.d _) (.cons (.d _) (.cons (.d _) (.cons (.d _) (.cons (.d _) (.cons (.d _) (.cons (.d _) (.cons (.d _) (.cons (.d _) (.cons (.d _) (.cons (.d _) (.cons (.d _) (.cons (.d _) (.cons (.d _) (.cons (.d _) (.cons (.d _) (.cons (.d _) (.cons (.d _) (.cons (.d _) (.cons (.d _) (.cons (.d _) (.cons (.d _) .nil)))))))))))))))))))))))) (.cons (.one (.d _)) .nil))) Z<|RunA.rd Z Z Z (Q1 (Q8 Z Z Z)) Z<|RunA.rd Z Z Z (Q1 (Qq Z)) Z<|RunA.rd Z Z Z (Q1 (Q8 Z Z Z)) Z<|RunA.rd Z Z Z (Q1 (Qq Z)) Z<|RunA.rd Z Z Z (Q1 (Qq Z)) Z ?_
 refine Qd h1 (fun x68 hx68 h1=>?_)
 refine Y7 id hx68 h1 (fun x69 hx69 h1=>?_) (fun x70 hx70 h1=>?_)
 refine RunA.eff Z Z Z (JC (hp1':=[(0,.cells 62 [dS a4,.mp 1]),(1,.mp (J2 a5.1) a5.2),(2,.mp (J2 a6.1) a6.2)]) (tk1':=[]) (hpF:=m48f11_h5 a0 x39 a5) (tkF:=[]) (res2:=QM []) (nx2:=7) [0,1,2] Z Z (CallE.m (H x39.tree (Ja (a1+x67)) (Ja (a2+1)) a3 a4 a5 a6 (.inl x69) hx69)) Z Z (qB Z Z (qG Z (qG Z qZ))) Z Z (gR Z (gG Z (gG Z gZ))) jZ (hA Z) kZ Z Z Z Z Z (bB Z Z (bG Z (bG Z bZ))) Z Z Z Z) Z ?_
 refine RunA.nil ⟨?ex,_,_,Z,?_⟩
 case ex=>exact trivial
 refine Jp (st':=⟨[(0,.v (.one (.ptr 0 0))),(2,.v (.one (dI a1))),(3,.v (.one (dI a2))),(4,.v (.one (dI a3))),(5,.v (.one (.mp 2))),(65,.v (.one (dS a0.branches))),(66,.v (.one (dI (a0.branches.length:Int)))),(67,.v (.one (dI s1)))],m48f11_h3 a4 a5 a6 a0 x39,[],7,134,[]⟩) (QV (tA Z) (hA Z) kZ Z (Nat.le_trans hv0 (lb Z)) Z Z Z (bB Z Z (bG Z (bG Z (bA Z)))) Z Z)<|Qk<|Q3<|Q0<|rR Z Z Z (Q8 Z Z Z)<|rM Z Z Z<|Q5 ?_
 have e:=sI h1;subst e
 refine QJ (Ja (s1+1)) (QV (tA Z) (hA Z) kZ Z (Nat.le_trans hv0 (lb Z)) Z Z Z (bB Z Z (bG Z (bG Z (bA Z)))) Z Z) ho1
 refine RunA.die Z Z Z (DieOp.mk Z Z (YD (hp1':=[(0,.cells 62 [dS a4,.mp 1]),(1,.mp (J2 a5.1) a5.2),(2,.mp (J2 a6.1) a6.2)]) (tk1':=[]) (hpF:=m48f11_h5 a0 x39 a5) (tkF:=[]) (nx2:=7) [0,1,2] Z Z (CallE.d (H x39.tree (Ja (a1+x67)) (Ja (a2+1)) a3 a4 a5 a6 (.inr x70) hx70)) Z Z (qB Z Z (qG Z (qG Z qZ))) Z (gR Z (gG Z (gG Z gZ))) jZ (hA Z) kZ Z Z Z Z Z (bB Z Z (bG Z (bG Z bZ))) Z Z Z Z) ?pk) ⟨?ex,_,_,Z,XQ.bad⟩
 case ex=>exact trivial
 have e:=sI h1;subst e
 have e_:_=_:=ho1
 subst e_
 try dsimp only [Sum.elim_inl,Sum.elim_inr] at h0
 have e:=sI h0;subst e
 exact Ju (hQ0 (.panic (JE (QT 90 x70))) _ K7 Z (show StLe _ _ ⟨[],J0 a4 a5 a6,[],4,134,[]⟩ from (QV tZ (hA Z) kZ Z (Nat.le_trans hv0 (lb Z)) Z Z Z (bB Z Z (bG Z (bG Z bZ))) Z Z))) (fun _ _ h=>h)
 replace h1:=Qg c38 h1
 refine QW<|Qr<|Qr ?_
 have e:=sI h1;subst e
 have e_:_=_:=ho1
 subst e_
 exact QO () (QV tZ (hA Z) kZ Z (Nat.le_trans hv0 (lb Z)) Z Z Z (bB Z Z (bG Z (bG Z (bA Z)))) Z Z) h0
 intro o36 h0
 refine QF ?_
 have e:=sI h0;subst e
 exact hQ0 _ _ DO Z (show StLe _ _ ⟨[],J0 a4 a5 a6,[],4,134,[]⟩ from (QV tZ (hA Z) kZ Z (Nat.le_trans hv0 (lb Z)) Z Z Z (bB Z Z (bG Z (bG Z bZ))) Z Z))
 refine Jg Z (QS Z Z Z (CallE.d (QI (decide ((a0.branches.length:Int)≤32)) 6 (.inr x35) hx35))) ?_
 have e:=sI h0;subst e
 exact Ju (hQ0 (.panic (JE (QT 90 6))) _ K7 Z (show StLe _ _ ⟨[],J0 a4 a5 a6,[],4,134,[]⟩ from (QV tZ (hA Z) kZ Z (Nat.le_trans hv0 (lb Z)) Z Z Z (bB Z Z (bG Z (bG Z bZ))) Z Z))) (fun _ _ h=>h)
 refine Jg Z (QS Z Z Z (CallE.d (QI (decide (a2 < 200)) 7 (.inr x3) hx3))) ?_
 have e:=sI h0;subst e
 exact Ju (hQ0 (.panic (JE (QT 90 7))) _ K7 Z (show StLe _ _ ⟨[],J0 a4 a5 a6,[],4,134,[]⟩ from (QV tZ (hA Z) kZ Z (Nat.le_trans hv0 (lb Z)) Z Z Z (bB Z Z (bG Z (bG Z bZ))) Z Z))) (fun _ _ h=>h)
theorem m48f11_all (n:Nat) (u:Tr×Int×Int×Int×(List Dcl)×(Qo Bs Ent)×(Qo Bs Ent)) (r:Unit⊕Int) (h0:JR Xa n u=some r):CallE Try.prog 48 [.one (.ptr 0 0),.agg (cE u.1),.one (dI u.2.1),.one (dI u.2.2.1),.one (dI u.2.2.2.1),.one (.mp 2)] ⟨J0 u.2.2.2.2.1 u.2.2.2.2.2.1 u.2.2.2.2.2.2,[],3⟩ ((Sum.elim (fun (r0:Unit)=>((.ret []):EK)) (fun (r1:Int)=>((.pan (QT 90 r1)):EK))) r) ⟨((Sum.elim (fun (r0:Unit)=>(⟨[],J0 u.2.2.2.2.1 u.2.2.2.2.2.1 u.2.2.2.2.2.2,[],4,134,[]⟩:St)) (fun (r1:Int)=>(⟨[],J0 u.2.2.2.2.1 u.2.2.2.2.2.1 u.2.2.2.2.2.2,[],4,134,[]⟩:St))) r).hp,((Sum.elim (fun (r0:Unit)=>(⟨[],J0 u.2.2.2.2.1 u.2.2.2.2.2.1 u.2.2.2.2.2.2,[],4,134,[]⟩:St)) (fun (r1:Int)=>(⟨[],J0 u.2.2.2.2.1 u.2.2.2.2.2.1 u.2.2.2.2.2.2,[],4,134,[]⟩:St))) r).tk,((Sum.elim (fun (r0:Unit)=>(⟨[],J0 u.2.2.2.2.1 u.2.2.2.2.2.1 u.2.2.2.2.2.2,[],4,134,[]⟩:St)) (fun (r1:Int)=>(⟨[],J0 u.2.2.2.2.1 u.2.2.2.2.2.1 u.2.2.2.2.2.2,[],4,134,[]⟩:St))) r).nx⟩ :=
 YN (C:=fun u r=>CallE Try.prog 48 [.one (.ptr 0 0),.agg (cE u.1),.one (dI u.2.1),.one (dI u.2.2.1),.one (dI u.2.2.2.1),.one (.mp 2)] ⟨J0 u.2.2.2.2.1 u.2.2.2.2.2.1 u.2.2.2.2.2.2,[],3⟩ ((Sum.elim (fun (r0:Unit)=>((.ret []):EK)) (fun (r1:Int)=>((.pan (QT 90 r1)):EK))) r) ⟨((Sum.elim (fun (r0:Unit)=>(⟨[],J0 u.2.2.2.2.1 u.2.2.2.2.2.1 u.2.2.2.2.2.2,[],4,134,[]⟩:St)) (fun (r1:Int)=>(⟨[],J0 u.2.2.2.2.1 u.2.2.2.2.2.1 u.2.2.2.2.2.2,[],4,134,[]⟩:St))) r).hp,((Sum.elim (fun (r0:Unit)=>(⟨[],J0 u.2.2.2.2.1 u.2.2.2.2.2.1 u.2.2.2.2.2.2,[],4,134,[]⟩:St)) (fun (r1:Int)=>(⟨[],J0 u.2.2.2.2.1 u.2.2.2.2.2.1 u.2.2.2.2.2.2,[],4,134,[]⟩:St))) r).tk,((Sum.elim (fun (r0:Unit)=>(⟨[],J0 u.2.2.2.2.1 u.2.2.2.2.2.1 u.2.2.2.2.2.2,[],4,134,[]⟩:St)) (fun (r1:Int)=>(⟨[],J0 u.2.2.2.2.1 u.2.2.2.2.2.1 u.2.2.2.2.2.2,[],4,134,[]⟩:St))) r).nx⟩) (fun rc H u r h=>m48f11s_ok rc (fun a0 a1 a2 a3 a4 a5 a6 r h=>H (a0,a1,a2,a3,a4,a5,a6) r h) u.1 u.2.1 u.2.2.1 u.2.2.2.1 u.2.2.2.2.1 u.2.2.2.2.2.1 u.2.2.2.2.2.2 r h) n u r h0
theorem m48f11_ok (a0:Tr) (a1:Int) (a2:Int) (a3:Int) (a4:List Dcl) (a5:Qo Bs Ent) (a6:Qo Bs Ent) (r:Unit⊕Int) (h0:m48f11 a0 a1 a2 a3 a4 a5 a6=some r):CallE Try.prog 48 [.one (.ptr 0 0),.agg (cE a0),.one (dI a1),.one (dI a2),.one (dI a3),.one (.mp 2)] ⟨J0 a4 a5 a6,[],3⟩ ((Sum.elim (fun (r0:Unit)=>((.ret []):EK)) (fun (r1:Int)=>((.pan (QT 90 r1)):EK))) r) ⟨((Sum.elim (fun (r0:Unit)=>(⟨[],J0 a4 a5 a6,[],4,134,[]⟩:St)) (fun (r1:Int)=>(⟨[],J0 a4 a5 a6,[],4,134,[]⟩:St))) r).hp,((Sum.elim (fun (r0:Unit)=>(⟨[],J0 a4 a5 a6,[],4,134,[]⟩:St)) (fun (r1:Int)=>(⟨[],J0 a4 a5 a6,[],4,134,[]⟩:St))) r).tk,((Sum.elim (fun (r0:Unit)=>(⟨[],J0 a4 a5 a6,[],4,134,[]⟩:St)) (fun (r1:Int)=>(⟨[],J0 a4 a5 a6,[],4,134,[]⟩:St))) r).nx⟩:=m48f11_all QU (a0,a1,a2,a3,a4,a5,a6) r h0
end Go.Proofs.Ytafddfoefeploaa
namespace Go.Proofs.Ytafddfoefeploaa
open Go.RowKit Go.Shelf
theorem en_30:QY Try.prog 30:=enters_of Try.func30 (by kernel_rfl) rfl
noncomputable def ZV (a0:Dcl) (a1:List Dcl) (a2:Qo Bs Ent) (v10:(Qo Bs Ent)) (s1:Int):Option (LO Int (Unit⊕Int)) :=
 cond (decide (s1 < (a0.funs.length:Int)))
   (Option.bind (JP a0.funs s1) fun (x13:Fn) =>
 Option.bind (Gq x13.ty 0 a0.params a1 a2 v10) (Sum.elim (fun (x15:Unit)=>some (.next (Ja (s1+1)))) (fun (x16:Int)=>some (.done (.inr x16)))))
   (some (.done (.inl ())))
noncomputable def Gc (a0:Dcl) (a1:List Dcl) (s2:Int×(Qo Bs Ent)):Option (LO (Int×(Qo Bs Ent)) (((Qo Bs Ent)))) :=
 cond (decide (s2.1 < (a0.ctors.length:Int)))
   (Option.bind (JP a0.ctors s2.1) fun (x28:Ctr) =>
 Option.bind (some ()) (fun (y29:Unit)=>some (.next ((Ja (s2.1+1)),(Jb s2.2 x28.name (⟨4,(a1.length:Int),s2.1,a0.params,x28.ty⟩:Ent))))))
   (some (.done s2.2))
noncomputable def XA (p0_:Dcl) (p1_:(Qo Bs Ent)) (p2_:List Dcl):Option (((Qo Bs Ent))) :=
 Jy (Nat.ble (p0_.name.length+([46,114,101,99]:List UInt8).length) 1000000000)
 (Option.bind (some ()) (fun (b0_:Unit)=>some (Jb p1_ (p0_.name++([46,114,101,99]:List UInt8)) (⟨5,(p2_.length:Int),0,p0_.rcr.params,p0_.rcr.ty⟩:Ent))))
noncomputable def GS (a0:Dcl) (a1:List Dcl) (s2:Int×(Qo Bs Ent)):Option (LO (Int×(Qo Bs Ent)) (((Qo Bs Ent)))) :=
 cond (decide (s2.1 < (a0.funs.length:Int)))
   (Option.bind (JP a0.funs s2.1) fun (x40:Fn) =>
 Option.bind (some ()) (fun (y41:Unit)=>some (.next ((Ja (s2.1+1)),(Jb s2.2 x40.name (⟨6,(a1.length:Int),s2.1,a0.params,x40.ty⟩:Ent))))))
   (some (.done s2.2))
noncomputable def GT (p0_:Bool) (p1_:Dcl) (p2_:(Qo Bs Ent)) (p3_:List Dcl):Option (((Qo Bs Ent))) :=
 cond p0_
   (Option.bind (JP ([0,1,2]) p1_.kind) fun (b0_:Int) =>
 Option.bind (some ()) (fun (b1_:Unit)=>some (Jb p2_ p1_.name (⟨b0_,(p3_.length:Int),0,p1_.params,p1_.ty⟩:Ent))))
   (cond (p1_.kind==3)
   (Option.bind (some ()) (fun (b2_:Unit)=>Option.bind (QE (Gc p1_ p3_) QU (0,(Jb p2_ p1_.name (⟨3,(p3_.length:Int),0,p1_.params,p1_.ty⟩:Ent)))) (fun (b3_:(Qo Bs Ent))=>XA p1_ b3_ p3_)))
   (cond (p1_.kind==4)
   (Option.bind (QE (GS p1_ p3_) QU (0,p2_)) (fun (b4_:(Qo Bs Ent))=>some b4_))
   (some p2_)))
noncomputable def Gb (a0:Dcl) (a1:List Dcl) (a2:Qo Bs Ent) (y14:(Qo Bs Ent)) (s1:Int):Option (LO Int (Unit⊕Int)) :=
 cond (decide (s1 < (a0.funs.length:Int)))
   (Option.bind (JP a0.funs s1) fun (x49:Fn) =>
 Option.bind (m48f11 x49.tree x49.arity 0 a0.params a1 a2 y14) (Sum.elim (fun (x51:Unit)=>some (.next (Ja (s1+1)))) (fun (x52:Int)=>some (.done (.inr x52)))))
   (some (.done (.inl ())))
noncomputable def Gd (p0_:Dcl) (p1_:(Qo Bs Ent)) (p2_:List Dcl) (p3_:Qo Bs Ent):Option Int :=
 Option.bind (some ()) (fun (b0_:Unit)=>Option.bind (Option.bind (cond (p0_.kind==0)
   (some (p0_.kind==0))
   (cond (p0_.kind==1)
   (some (p0_.kind==1))
   (some (p0_.kind==2)))) (fun (b1_:Bool)=>GT b1_ p0_ p1_ p2_)) (fun (b2_:(Qo Bs Ent))=>Option.bind (QE (Gb p0_ p2_ p3_ b2_) QU 0) (Sum.elim (fun (b3_:Unit)=>some 0) (fun o=>some o))))
noncomputable def ZX (p0_:Dcl) (p1_:List Dcl) (p2_:Qo Bs Ent):Option Int :=
 Option.bind (cond (p0_.kind==3)
   (Option.bind (WV p0_ p1_ p2_ gmNil) (Sum.elim (fun (b0_:(Qo Bs Ent))=>some (.inl b0_)) (fun (b1_:Int×(Qo Bs Ent))=>some (.inr b1_.1))))
   (some (.inl gmNil))) (Sum.elim (fun (b2_:(Qo Bs Ent))=>Option.bind (QE (ZV p0_ p1_ p2_ b2_) QU 0) (Sum.elim (fun (b3_:Unit)=>Gd p0_ b2_ p1_ p2_) (fun o=>some o))) (fun o=>some o))
noncomputable def ZW (p0_:Bool) (p1_:Dcl) (p2_:List Dcl) (p3_:Qo Bs Ent):Option Int :=
 Option.bind (cond p0_
   (Option.bind (Gq p1_.value 0 p1_.params p2_ p3_ gmNil) (Sum.elim (fun (b0_:Unit)=>some (.inl ())) (fun (b1_:Int)=>some (.inr b1_))))
   (some (.inl ()))) (Sum.elim (fun (b2_:Unit)=>ZX p1_ p2_ p3_) (fun o=>some o))
noncomputable abbrev m30f4_h0 :HB :=
 .mp (J2 (gmNil:Qo Bs Ent).1) (gmNil:Qo Bs Ent).2
noncomputable abbrev m30f4_h1 (p0_:List Dcl) (p1_:Qo Bs Ent) (p2_:Dcl):List (Nat×HB) :=
 [(0,.cells 62 [dS p0_,.mp 1]),(1,.mp (J2 p1_.1) p1_.2),(2,.cells 45 (cE p2_)),(3,.cells 25 [dI 0]),(6,m30f4_h0),(7,.cells 60 [.mp 6])]
noncomputable abbrev GV (p0_:Dcl):List (Nat×HB) :=
 [(2,.cells 45 (cE p0_)),(3,.cells 25 [dI 0]),(7,.cells 60 [.mp 6])]
noncomputable abbrev m30f4_h3 (p0_:List Dcl) (p1_:Qo Bs Ent) (p2_:Dcl) (p3_:(Qo Bs Ent)):List (Nat×HB) :=
 [(0,.cells 62 [dS p0_,.mp 1]),(1,.mp (J2 p1_.1) p1_.2),(2,.cells 45 (cE p2_)),(3,.cells 25 [dI 0]),(6,.mp (J2 p3_.1) p3_.2),(7,.cells 60 [.mp 6])]
noncomputable abbrev m30f4_h4 (p0_:Dcl) (p1_:Fn):List (Nat×HB) :=
 [(2,.cells 45 (cE p0_)),(3,.cells 25 [dI 0]),(7,.cells 60 [.mp 6]),(8,.cells 76 (cE p1_))]
noncomputable abbrev GU (p0_:List Dcl) (p1_:Qo Bs Ent) (p2_:Dcl) (p3_:(Qo Bs Ent)):List (Nat×HB) :=
 [(0,.cells 62 [dS p0_,.mp 1]),(1,.mp (J2 p1_.1) p1_.2),(2,.cells 45 (cE p2_)),(3,.cells 25 [dI 0]),(6,.mp (J2 p3_.1) p3_.2),(7,.cells 60 [.mp 6]),(8,.cells 45 (cE p2_)),(9,.cells 3 [dI (p0_.length:Int)])]
noncomputable abbrev YF :HB :=
 .loop .ready none [(0,.v (.one (.ptr 0 0))),(3,.v (.one (.ptr 2 0))),(4,.v (.one (.ptr 3 0))),(5,.v (.one (.ptr 7 0))),(72,.v (.one (.fn 49 [(9,0),(8,0)])))] 95 #[73,74] Kq Kp 10
noncomputable abbrev m30f4_h7 (p0_:List Dcl) (p1_:Qo Bs Ent) (p2_:Dcl) (p3_:(Qo Bs Ent)):List (Nat×HB) :=
 [(0,.cells 62 [dS p0_,.mp 1]),(1,.mp (J2 p1_.1) p1_.2),(2,.cells 45 (cE p2_)),(3,.cells 25 [dI 0]),(6,.mp (J2 p3_.1) p3_.2),(7,.cells 60 [.mp 6]),(8,.cells 45 (cE p2_)),(9,.cells 3 [dI (p0_.length:Int)]),(10,.obj (.deferred (some []))),(11,YF)]
noncomputable abbrev Ge (p0_:List Dcl) (p1_:Dcl):HB :=
 .cells 35 [dI 0,dI (p0_.length:Int),dI 0,dI p1_.params,dI p1_.ty.kind,dI p1_.ty.index,J6 p1_.ty.name,dS p1_.ty.levels,dS p1_.ty.kids]
noncomputable abbrev m30f4_h9 (p0_:List Dcl) (p1_:Qo Bs Ent) (p2_:Dcl) (p3_:(Qo Bs Ent)):List (Nat×HB) :=
 [(0,.cells 62 [dS p0_,.mp 1]),(1,.mp (J2 p1_.1) p1_.2),(2,.cells 45 (cE p2_)),(3,.cells 25 [dI 0]),(6,.mp (J2 p3_.1) p3_.2),(7,.cells 60 [.mp 6]),(8,.cells 45 (cE p2_)),(9,.cells 3 [dI (p0_.length:Int)]),(10,.obj (.deferred (some []))),(11,YF),(12,Ge p0_ p2_)]
noncomputable abbrev KX (p0_:Int) (p1_:List Dcl) (p2_:Dcl):HB :=
 .cells 35 [dI p0_,dI (p1_.length:Int),dI 0,dI p2_.params,dI p2_.ty.kind,dI p2_.ty.index,J6 p2_.ty.name,dS p2_.ty.levels,dS p2_.ty.kids]
noncomputable abbrev m30f4_h11 (p0_:List Dcl) (p1_:Qo Bs Ent) (p2_:Dcl) (p3_:(Qo Bs Ent)) (p4_:Int):List (Nat×HB) :=
 [(0,.cells 62 [dS p0_,.mp 1]),(1,.mp (J2 p1_.1) p1_.2),(2,.cells 45 (cE p2_)),(3,.cells 25 [dI 0]),(6,.mp (J2 p3_.1) p3_.2),(7,.cells 60 [.mp 6]),(8,.cells 45 (cE p2_)),(9,.cells 3 [dI (p0_.length:Int)]),(10,.obj (.deferred (some []))),(11,YF),(12,KX p4_ p0_ p2_)]
noncomputable abbrev Zg :HB :=
 .loop .busy none [(0,.v (.one (.ptr 0 0))),(3,.v (.one (.ptr 2 0))),(4,.v (.one (.ptr 3 0))),(5,.v (.one (.ptr 7 0))),(72,.v (.one (.fn 49 [(9,0),(8,0)])))] 95 #[73,74] Kq Kp 10
noncomputable abbrev m30f4_h13 (p0_:List Dcl) (p1_:Qo Bs Ent) (p2_:Dcl) (p3_:(Qo Bs Ent)) (p4_:Int):List (Nat×HB) :=
 [(0,.cells 62 [dS p0_,.mp 1]),(1,.mp (J2 p1_.1) p1_.2),(2,.cells 45 (cE p2_)),(3,.cells 25 [dI 0]),(6,.mp (J2 p3_.1) p3_.2),(7,.cells 60 [.mp 6]),(8,.cells 45 (cE p2_)),(9,.cells 3 [dI (p0_.length:Int)]),(10,.obj (.deferred (some []))),(11,Zg),(12,KX p4_ p0_ p2_),(14,KX p4_ p0_ p2_)]
noncomputable abbrev m30f4_h14 (p0_:List Dcl) (p1_:Qo Bs Ent) (p2_:Dcl) (p3_:(Qo Bs Ent)) (p4_:Int):List (Nat×HB) :=
 [(0,.cells 62 [dS p0_,.mp 1]),(1,.mp (J2 p1_.1) p1_.2),(2,.cells 45 (cE p2_)),(3,.cells 25 [dI 0]),(6,.mp (J2 p3_.1) p3_.2),(7,.cells 60 [.mp 6]),(8,.cells 45 (cE p2_)),(9,.cells 3 [dI (p0_.length:Int)]),(10,.obj (.deferred (some []))),(11,YF),(12,KX p4_ p0_ p2_),(14,KX p4_ p0_ p2_)]
noncomputable abbrev m30f4_h15 (p0_:(Qo Bs Ent)) (p1_:Dcl) (p2_:Int) (p3_:List Dcl):HB :=
 .mp (J2 ((Jb p0_ p1_.name (⟨p2_,(p3_.length:Int),0,p1_.params,p1_.ty⟩:Ent)):Qo Bs Ent).1) ((Jb p0_ p1_.name (⟨p2_,(p3_.length:Int),0,p1_.params,p1_.ty⟩:Ent)):Qo Bs Ent).2
noncomputable abbrev m30f4_h16 (p0_:List Dcl) (p1_:Qo Bs Ent) (p2_:Dcl) (p3_:(Qo Bs Ent)) (p4_:Int):List (Nat×HB) :=
 [(0,.cells 62 [dS p0_,.mp 1]),(1,.mp (J2 p1_.1) p1_.2),(2,.cells 45 (cE p2_)),(3,.cells 25 [dI 0]),(6,m30f4_h15 p3_ p2_ p4_ p0_),(7,.cells 60 [.mp 6]),(8,.cells 45 (cE p2_)),(9,.cells 3 [dI (p0_.length:Int)]),(10,.obj (.deferred (some []))),(11,Zg),(12,KX p4_ p0_ p2_)]
noncomputable abbrev Yk (p0_:List Dcl) (p1_:Dcl):HB :=
 .cells 35 [dI 3,dI (p0_.length:Int),dI 0,dI p1_.params,dI p1_.ty.kind,dI p1_.ty.index,J6 p1_.ty.name,dS p1_.ty.levels,dS p1_.ty.kids]
noncomputable abbrev m30f4_h18 (p0_:List Dcl) (p1_:Qo Bs Ent) (p2_:Dcl) (p3_:(Qo Bs Ent)):List (Nat×HB) :=
 [(0,.cells 62 [dS p0_,.mp 1]),(1,.mp (J2 p1_.1) p1_.2),(2,.cells 45 (cE p2_)),(3,.cells 25 [dI 0]),(6,.mp (J2 p3_.1) p3_.2),(7,.cells 60 [.mp 6]),(8,.cells 45 (cE p2_)),(9,.cells 3 [dI (p0_.length:Int)]),(10,.obj (.deferred (some []))),(11,YF),(12,Yk p0_ p2_)]
noncomputable abbrev m30f4_h19 (p0_:List Dcl) (p1_:Qo Bs Ent) (p2_:Dcl) (p3_:(Qo Bs Ent)):List (Nat×HB) :=
 [(0,.cells 62 [dS p0_,.mp 1]),(1,.mp (J2 p1_.1) p1_.2),(2,.cells 45 (cE p2_)),(3,.cells 25 [dI 0]),(6,.mp (J2 p3_.1) p3_.2),(7,.cells 60 [.mp 6]),(8,.cells 45 (cE p2_)),(9,.cells 3 [dI (p0_.length:Int)]),(10,.obj (.deferred (some []))),(11,Zg),(12,Yk p0_ p2_),(13,Yk p0_ p2_)]
noncomputable abbrev m30f4_h20 (p0_:List Dcl) (p1_:Qo Bs Ent) (p2_:Dcl) (p3_:(Qo Bs Ent)):List (Nat×HB) :=
 [(0,.cells 62 [dS p0_,.mp 1]),(1,.mp (J2 p1_.1) p1_.2),(2,.cells 45 (cE p2_)),(3,.cells 25 [dI 0]),(6,.mp (J2 p3_.1) p3_.2),(7,.cells 60 [.mp 6]),(8,.cells 45 (cE p2_)),(9,.cells 3 [dI (p0_.length:Int)]),(10,.obj (.deferred (some []))),(11,YF),(12,Yk p0_ p2_),(13,Yk p0_ p2_)]
noncomputable abbrev m30f4_h21 (p0_:(Qo Bs Ent)) (p1_:Dcl) (p2_:List Dcl):HB :=
 .mp (J2 ((Jb p0_ p1_.name (⟨3,(p2_.length:Int),0,p1_.params,p1_.ty⟩:Ent)):Qo Bs Ent).1) ((Jb p0_ p1_.name (⟨3,(p2_.length:Int),0,p1_.params,p1_.ty⟩:Ent)):Qo Bs Ent).2
noncomputable abbrev m30f4_h22 (p0_:List Dcl) (p1_:Qo Bs Ent) (p2_:Dcl) (p3_:(Qo Bs Ent)):List (Nat×HB) :=
 [(0,.cells 62 [dS p0_,.mp 1]),(1,.mp (J2 p1_.1) p1_.2),(2,.cells 45 (cE p2_)),(3,.cells 25 [dI 0]),(6,m30f4_h21 p3_ p2_ p0_),(7,.cells 60 [.mp 6]),(8,.cells 45 (cE p2_)),(9,.cells 3 [dI (p0_.length:Int)]),(10,.obj (.deferred (some []))),(11,Zg),(12,Yk p0_ p2_)]
noncomputable abbrev m30f4_h23 (p0_:List Dcl) (p1_:Qo Bs Ent) (p2_:Dcl) (p3_:Int×(Qo Bs Ent)) (p4_:Ctr):List (Nat×HB) :=
 [(0,.cells 62 [dS p0_,.mp 1]),(1,.mp (J2 p1_.1) p1_.2),(2,.cells 45 (cE p2_)),(3,.cells 25 [dI 0]),(6,.mp (J2 p3_.2.1) p3_.2.2),(7,.cells 60 [.mp 6]),(8,.cells 45 (cE p2_)),(9,.cells 3 [dI (p0_.length:Int)]),(10,.obj (.deferred (some []))),(11,YF),(12,Yk p0_ p2_),(14,.cells 71 (cE p4_))]
noncomputable abbrev m30f4_h24 (p0_:List Dcl) (p1_:Int×(Qo Bs Ent)) (p2_:Dcl) (p3_:Ctr):HB :=
 .cells 35 [dI 4,dI (p0_.length:Int),dI p1_.1,dI p2_.params,dI p3_.ty.kind,dI p3_.ty.index,J6 p3_.ty.name,dS p3_.ty.levels,dS p3_.ty.kids]
noncomputable abbrev m30f4_h25 (p0_:List Dcl) (p1_:Qo Bs Ent) (p2_:Dcl) (p3_:Int×(Qo Bs Ent)) (p4_:Ctr):List (Nat×HB) :=
 [(0,.cells 62 [dS p0_,.mp 1]),(1,.mp (J2 p1_.1) p1_.2),(2,.cells 45 (cE p2_)),(3,.cells 25 [dI 0]),(6,.mp (J2 p3_.2.1) p3_.2.2),(7,.cells 60 [.mp 6]),(8,.cells 45 (cE p2_)),(9,.cells 3 [dI (p0_.length:Int)]),(10,.obj (.deferred (some []))),(11,Zg),(12,Yk p0_ p2_),(14,.cells 71 (cE p4_)),(15,m30f4_h24 p0_ p3_ p2_ p4_)]
noncomputable abbrev m30f4_h26 (p0_:List Dcl) (p1_:Qo Bs Ent) (p2_:Dcl) (p3_:Int×(Qo Bs Ent)) (p4_:Ctr):List (Nat×HB) :=
 [(0,.cells 62 [dS p0_,.mp 1]),(1,.mp (J2 p1_.1) p1_.2),(2,.cells 45 (cE p2_)),(3,.cells 25 [dI 0]),(6,.mp (J2 p3_.2.1) p3_.2.2),(7,.cells 60 [.mp 6]),(8,.cells 45 (cE p2_)),(9,.cells 3 [dI (p0_.length:Int)]),(10,.obj (.deferred (some []))),(11,YF),(12,Yk p0_ p2_),(14,.cells 71 (cE p4_)),(15,m30f4_h24 p0_ p3_ p2_ p4_)]
noncomputable abbrev m30f4_h27 (p0_:Int×(Qo Bs Ent)) (p1_:Ctr) (p2_:List Dcl) (p3_:Dcl):HB :=
 .mp (J2 ((Jb p0_.2 p1_.name (⟨4,(p2_.length:Int),p0_.1,p3_.params,p1_.ty⟩:Ent)):Qo Bs Ent).1) ((Jb p0_.2 p1_.name (⟨4,(p2_.length:Int),p0_.1,p3_.params,p1_.ty⟩:Ent)):Qo Bs Ent).2
noncomputable abbrev m30f4_h28 (p0_:List Dcl) (p1_:Qo Bs Ent) (p2_:Dcl) (p3_:Int×(Qo Bs Ent)) (p4_:Ctr):List (Nat×HB) :=
 [(0,.cells 62 [dS p0_,.mp 1]),(1,.mp (J2 p1_.1) p1_.2),(2,.cells 45 (cE p2_)),(3,.cells 25 [dI 0]),(6,m30f4_h27 p3_ p4_ p0_ p2_),(7,.cells 60 [.mp 6]),(8,.cells 45 (cE p2_)),(9,.cells 3 [dI (p0_.length:Int)]),(10,.obj (.deferred (some []))),(11,Zg),(12,Yk p0_ p2_),(14,.cells 71 (cE p4_))]
noncomputable abbrev m30f4_h29 (p0_:List Dcl) (p1_:Dcl):HB :=
 .cells 35 [dI 5,dI (p0_.length:Int),dI 0,dI p1_.rcr.params,dI p1_.rcr.ty.kind,dI p1_.rcr.ty.index,J6 p1_.rcr.ty.name,dS p1_.rcr.ty.levels,dS p1_.rcr.ty.kids]
noncomputable abbrev m30f4_h30 (p0_:List Dcl) (p1_:Qo Bs Ent) (p2_:Dcl) (p3_:(Qo Bs Ent)):List (Nat×HB) :=
 [(0,.cells 62 [dS p0_,.mp 1]),(1,.mp (J2 p1_.1) p1_.2),(2,.cells 45 (cE p2_)),(3,.cells 25 [dI 0]),(6,.mp (J2 p3_.1) p3_.2),(7,.cells 60 [.mp 6]),(8,.cells 45 (cE p2_)),(9,.cells 3 [dI (p0_.length:Int)]),(10,.obj (.deferred (some []))),(11,Zg),(12,Yk p0_ p2_),(14,m30f4_h29 p0_ p2_)]
noncomputable abbrev m30f4_h31 (p0_:List Dcl) (p1_:Qo Bs Ent) (p2_:Dcl) (p3_:(Qo Bs Ent)):List (Nat×HB) :=
 [(0,.cells 62 [dS p0_,.mp 1]),(1,.mp (J2 p1_.1) p1_.2),(2,.cells 45 (cE p2_)),(3,.cells 25 [dI 0]),(6,.mp (J2 p3_.1) p3_.2),(7,.cells 60 [.mp 6]),(8,.cells 45 (cE p2_)),(9,.cells 3 [dI (p0_.length:Int)]),(10,.obj (.deferred (some []))),(11,YF),(12,Yk p0_ p2_),(14,m30f4_h29 p0_ p2_)]
noncomputable abbrev m30f4_h32 (p0_:(Qo Bs Ent)) (p1_:Dcl) (p2_:List Dcl):HB :=
 .mp (J2 ((Jb p0_ (p1_.name++([46,114,101,99]:List UInt8)) (⟨5,(p2_.length:Int),0,p1_.rcr.params,p1_.rcr.ty⟩:Ent)):Qo Bs Ent).1) ((Jb p0_ (p1_.name++([46,114,101,99]:List UInt8)) (⟨5,(p2_.length:Int),0,p1_.rcr.params,p1_.rcr.ty⟩:Ent)):Qo Bs Ent).2
noncomputable abbrev m30f4_h33 (p0_:List Dcl) (p1_:Qo Bs Ent) (p2_:Dcl) (p3_:(Qo Bs Ent)):List (Nat×HB) :=
 [(0,.cells 62 [dS p0_,.mp 1]),(1,.mp (J2 p1_.1) p1_.2),(2,.cells 45 (cE p2_)),(3,.cells 25 [dI 0]),(6,m30f4_h32 p3_ p2_ p0_),(7,.cells 60 [.mp 6]),(8,.cells 45 (cE p2_)),(9,.cells 3 [dI (p0_.length:Int)]),(10,.obj (.deferred (some []))),(11,Zg),(12,Yk p0_ p2_)]
noncomputable abbrev m30f4_h34 (p0_:List Dcl) (p1_:Qo Bs Ent) (p2_:Dcl) (p3_:Int×(Qo Bs Ent)) (p4_:Fn):List (Nat×HB) :=
 [(0,.cells 62 [dS p0_,.mp 1]),(1,.mp (J2 p1_.1) p1_.2),(2,.cells 45 (cE p2_)),(3,.cells 25 [dI 0]),(6,.mp (J2 p3_.2.1) p3_.2.2),(7,.cells 60 [.mp 6]),(8,.cells 45 (cE p2_)),(9,.cells 3 [dI (p0_.length:Int)]),(10,.obj (.deferred (some []))),(11,YF),(12,Ge p0_ p2_),(13,.cells 76 (cE p4_))]
noncomputable abbrev m30f4_h35 (p0_:List Dcl) (p1_:Int×(Qo Bs Ent)) (p2_:Dcl) (p3_:Fn):HB :=
 .cells 35 [dI 6,dI (p0_.length:Int),dI p1_.1,dI p2_.params,dI p3_.ty.kind,dI p3_.ty.index,J6 p3_.ty.name,dS p3_.ty.levels,dS p3_.ty.kids]
noncomputable abbrev m30f4_h36 (p0_:List Dcl) (p1_:Qo Bs Ent) (p2_:Dcl) (p3_:Int×(Qo Bs Ent)) (p4_:Fn):List (Nat×HB) :=
 [(0,.cells 62 [dS p0_,.mp 1]),(1,.mp (J2 p1_.1) p1_.2),(2,.cells 45 (cE p2_)),(3,.cells 25 [dI 0]),(6,.mp (J2 p3_.2.1) p3_.2.2),(7,.cells 60 [.mp 6]),(8,.cells 45 (cE p2_)),(9,.cells 3 [dI (p0_.length:Int)]),(10,.obj (.deferred (some []))),(11,Zg),(12,Ge p0_ p2_),(13,.cells 76 (cE p4_)),(14,m30f4_h35 p0_ p3_ p2_ p4_)]
noncomputable abbrev m30f4_h37 (p0_:List Dcl) (p1_:Qo Bs Ent) (p2_:Dcl) (p3_:Int×(Qo Bs Ent)) (p4_:Fn):List (Nat×HB) :=
 [(0,.cells 62 [dS p0_,.mp 1]),(1,.mp (J2 p1_.1) p1_.2),(2,.cells 45 (cE p2_)),(3,.cells 25 [dI 0]),(6,.mp (J2 p3_.2.1) p3_.2.2),(7,.cells 60 [.mp 6]),(8,.cells 45 (cE p2_)),(9,.cells 3 [dI (p0_.length:Int)]),(10,.obj (.deferred (some []))),(11,YF),(12,Ge p0_ p2_),(13,.cells 76 (cE p4_)),(14,m30f4_h35 p0_ p3_ p2_ p4_)]
noncomputable abbrev m30f4_h38 (p0_:Int×(Qo Bs Ent)) (p1_:Fn) (p2_:List Dcl) (p3_:Dcl):HB :=
 .mp (J2 ((Jb p0_.2 p1_.name (⟨6,(p2_.length:Int),p0_.1,p3_.params,p1_.ty⟩:Ent)):Qo Bs Ent).1) ((Jb p0_.2 p1_.name (⟨6,(p2_.length:Int),p0_.1,p3_.params,p1_.ty⟩:Ent)):Qo Bs Ent).2
noncomputable abbrev m30f4_h39 (p0_:List Dcl) (p1_:Qo Bs Ent) (p2_:Dcl) (p3_:Int×(Qo Bs Ent)) (p4_:Fn):List (Nat×HB) :=
 [(0,.cells 62 [dS p0_,.mp 1]),(1,.mp (J2 p1_.1) p1_.2),(2,.cells 45 (cE p2_)),(3,.cells 25 [dI 0]),(6,m30f4_h38 p3_ p4_ p0_ p2_),(7,.cells 60 [.mp 6]),(8,.cells 45 (cE p2_)),(9,.cells 3 [dI (p0_.length:Int)]),(10,.obj (.deferred (some []))),(11,Zg),(12,Ge p0_ p2_),(13,.cells 76 (cE p4_))]
noncomputable abbrev m30f4_h40 (p0_:Dcl) (p1_:List Dcl) (p2_:Fn):List (Nat×HB) :=
 [(2,.cells 45 (cE p0_)),(3,.cells 25 [dI 0]),(7,.cells 60 [.mp 6]),(8,.cells 45 (cE p0_)),(9,.cells 3 [dI (p1_.length:Int)]),(13,.cells 76 (cE p2_))]
noncomputable abbrev m30f4_h41 (p0_:List Dcl) (p1_:Qo Bs Ent) (p2_:Int):List (Nat×HB) :=
 [(0,.cells 62 [dS p0_,.mp 1]),(1,.mp (J2 p1_.1) p1_.2),(3,.cells 25 [dI p2_])]
noncomputable def WF (a0:Dcl) (a1:List Dcl) (a2:Qo Bs Ent):Option Int :=
 Option.bind (U7 a0) (Sum.elim (fun (x2:Unit)=>Option.bind (UJ a0 a1 a2) (Sum.elim (fun (x5:Unit)=>Option.bind (cond (a0.kind != 4)
   (Option.bind (Gq a0.ty 0 a0.params a1 a2 gmNil) (Sum.elim (fun (x10:Unit)=>some (.inl ())) (fun (x11:Int)=>some (.inr x11))))
   (some (.inl ()))) (Sum.elim (fun (v7:Unit)=>Option.bind (cond (a0.kind==1)
   (some true)
   (some (a0.kind==2))) (fun (v8:Bool)=>ZW v8 a0 a1 a2)) (fun o=>some o))) (fun (x6:Int)=>some x6))) (fun (x3:Int)=>some x3))
theorem m30f4_ok (a0:Dcl) (a1:List Dcl) (a2:Qo Bs Ent) (r:Int) (h0:WF a0 a1 a2=some r):CallM Try.prog 30 [.one (.ptr 0 0),.agg (cE a0)] ⟨[(0,.cells 62 [dS a1,.mp 1]),(1,.mp (J2 a2.1) a2.2)],[],2⟩ (QM [.one (dI r)]) ⟨m30f4_h41 a1 a2 r,[],4⟩:=by
 unfold WF at h0
 refine CallM.of_bodyC ⟨[(4,.v (.one (.ptr 3 0)))],m30f4_h41 a1 a2 r,[],4,95,[]⟩ 3 43 90 Z Z en_30 (lb Z) Z (Gm K9 Z Z Z .nil) (fun w0 M V0 Q hv0 hQ0=>?_)
 simp only [J3]
 refine Q4<|Q0<|Qb Z Z (lb Z) (QN Z)<|Qb Z Z (lb Z) (Qv z_25 Z)<|Q5<|Q3<|Q4<|Q0<|rR Z Z Z (K5 Z)<|XL.defer catch_ok Z Z<|Q5<|Q3<|Q4<|Q0 ?_
 refine rR Z Z Z (QH (a0:Dcl) Jq Z Z) ?_
 refine Qd h0 (fun x1 hx1 h0=>?_)
 refine Y7 id hx1 h0 (fun x2 hx2 h0=>?_) (fun x3 hx3 h0=>?_)
 refine Qb Z Z (lb Z) (QL Z Z Z (CallE.m (m44f5_ok a0 (.inl x2) hx2)) Z)<|Q5<|Q3<|Q4<|Q0<|rM Z Z Z<|rR Z Z Z (QH (a0:Dcl) Jq Z Z) ?_
 refine Qd h0 (fun x4 hx4 h0=>?_)
 refine Y7 id hx4 h0 (fun x5 hx5 h0=>?_) (fun x6 hx6 h0=>?_)
 refine Qb Z Z (lb Z) (JC (hp1':=[(0,.cells 62 [dS a1,.mp 1]),(1,.mp (J2 a2.1) a2.2)]) (tk1':=[]) (hpF:=[(2,.cells 45 (cE a0)),(3,.cells 25 [dI 0])]) (tkF:=[]) (res2:=QM []) (nx2:=6) [0,1] Z Z (CallE.m (m45f7_ok a0 a1 a2 (.inl x5) hx5)) Z Z (qB Z Z (qG Z qZ)) Z Z (gR Z (gG Z gZ)) jZ (hA Z) kZ Z Z Z Z Z (bB Z Z (bG Z bZ)) Z Z Z Z)<|Q5<|Q3<|Q4<|Q0<|Qb Z Z (lb Z) (OpOK.makeMapG Bs Ent)<|Qb Z Z (lb Z) (Qv z_60 Z)<|QC Z Z (Qz YI Z Z Z Z (lb Z) Z)<|Q5<|Q3<|Q4<|Q4<|Q0<|rR Z Z Z (Q2 JN Z) ?_
 refine rR Z Z Z (Q6 QG Z Z Z)<|rR Z Z Z (Q8 Z Z Z)<|Q5<|Q3 ?_
 refine QD (fun (v7:Unit)=>⟨[(0,.v (.one (.ptr 0 0))),(3,.v (.one (.ptr 2 0))),(4,.v (.one (.ptr 3 0))),(5,.v (.one (.ptr 7 0)))],m30f4_h1 a1 a2 a0,[],8,95,[3,43,90]⟩) (fun (v7:Unit)=>(Option.bind (cond (a0.kind==1)
     (some true)
     (some (a0.kind==2))) (fun (v8:Bool)=>ZW v8 a0 a1 a2))=some r) ?_ ?_
 refine Qd h0 (fun w1_ h1 h0=>?_)
 refine Qe (b:=(a0.kind != 4)) Z (fun c8=>?_) (fun c8=>?_)
 replace h1:=Qf c8 h1
 refine Q0<|rM Z Z Z<|rR Z Z Z (Q2 Zl Z)<|rR Z Z Z (Qi QR Z Z Z Z)<|rR Z Z Z (Q2 Jz Z)<|rR Z Z Z (Q6 QG Z Z Z)<|rR Z Z Z (Q6 YI Z Z Z) ?_
 refine Qd h1 (fun x9 hx9 h1=>?_)
 refine Y7 id hx9 h1 (fun x10 hx10 h1=>?_) (fun x11 hx11 h1=>?_)
 refine Qb Z Z (lb Z) (JC (hp1':=[(0,.cells 62 [dS a1,.mp 1]),(1,.mp (J2 a2.1) a2.2),(6,.mp (J2 (gmNil:Qo Bs Ent).1) (gmNil:Qo Bs Ent).2)]) (tk1':=[]) (hpF:=GV a0) (tkF:=[]) (res2:=QM []) (nx2:=16) [0,1,6] Z Z (CallE.m (YO a0.ty 0 a0.params a1 a2 gmNil (.inl x10) hx10)) Z Z (qB Z Z (qG Z (qG Z qZ))) Z Z (gR Z (gG Z (gG Z gZ))) jZ (hA Z) kZ Z Z Z Z Z (bB Z Z (bG Z (bG Z bZ))) Z Z Z Z)<|Q5 ?_
 have e:=sI h1;subst e
 replace h0:=G4 h0
 exact Q9 () (QV (tA Z) (hA Z) kZ Z (Nat.le_trans hv0 (lb Z)) Z Z Z (bB Z Z (bG Z (bB Z Z (bB Z Z (bG Z (bA Z)))))) Z Z) h0
 refine Jg Z (YD (hp1':=[(0,.cells 62 [dS a1,.mp 1]),(1,.mp (J2 a2.1) a2.2),(6,.mp (J2 (gmNil:Qo Bs Ent).1) (gmNil:Qo Bs Ent).2)]) (tk1':=[]) (hpF:=GV a0) (tkF:=[]) (nx2:=11) [0,1,6] Z Z (CallE.d (YO a0.ty 0 a0.params a1 a2 gmNil (.inr x11) hx11)) Z Z (qB Z Z (qG Z (qG Z qZ))) Z (gR Z (gG Z (gG Z gZ))) jZ (hA Z) kZ Z Z Z Z Z (bB Z Z (bG Z (bG Z bZ))) Z Z Z Z) ?_
 have e:=sI h1;subst e
 replace h0:=GA h0
 have e:=sI h0;subst e
 exact Ju (hQ0 (.panic (JE (QT 90 x11))) _ Z (UC _ _ _ Z (QV (tA Z) (hA Z) kZ Z (Nat.le_trans hv0 (lb Z)) Z Z Z (bB Z Z (bG Z (bA Z))) Z Z))) (fun _ _ h=>h)
 replace h1:=Qg c8 h1
 refine Qj ?_
 have e:=sI h1;subst e
 replace h0:=G4 h0
 exact Q9 () (QV (tA Z) (hA Z) kZ Z (Nat.le_trans hv0 (lb Z)) Z Z Z (bB Z Z (bG Z (bB Z Z (bB Z Z (bG Z (bA Z)))))) Z Z) h0
 intro v7 h0
 refine Q3<|Q4<|Q4 ?_
 refine QD (fun (v12:Bool)=>⟨[(0,.v (.one (.ptr 0 0))),(3,.v (.one (.ptr 2 0))),(4,.v (.one (.ptr 3 0))),(5,.v (.one (.ptr 7 0))),(36,.v (.one (dB v12)))],m30f4_h1 a1 a2 a0,[],8,95,[3,43,90]⟩) (fun (v12:Bool)=>(ZW v12 a0 a1 a2)=some r) ?_ ?_
 refine Qd h0 (fun w1_ h1 h0=>?_)
 refine Q0<|rR Z Z Z (Q2 JN Z)<|rR Z Z Z (Q6 QG Z Z Z)<|rR Z Z Z (Q8 Z Z Z)<|rM Z Z Z ?_
 refine Qw (d:=32) (c:=(a0.kind==1)) Z (fun c13=>?_) (fun c13=>?_)
 replace h1:=Qf c13 h1
 refine Q7 Z Z<|Q7 Z Z<|Q7 Z Z<|rR Z Z Z (Qc Z Z)<|Q5 ?_
 have e:=sI h1;subst e
 exact Q9 true (QV (tA Z) (hA Z) kZ Z (Nat.le_trans hv0 (lb Z)) Z Z Z (bB Z Z (bG Z (bB Z Z (bB Z Z (bG Z (bA Z)))))) Z Z) h0
 replace h1:=Qg c13 h1
 refine rR Z Z Z (Q2 JN Z)<|rR Z Z Z (Q6 QG Z Z Z)<|rR Z Z Z (Q8 Z Z Z)<|rR Z Z Z (Qa Z Z)<|Q5 ?_
 have e:=sI h1;subst e
 exact Q9 (a0.kind==2) (QV (tA Z) (hA Z) kZ Z (Nat.le_trans hv0 (lb Z)) Z Z Z (bB Z Z (bG Z (bB Z Z (bB Z Z (bG Z (bA Z)))))) Z Z) h0
 intro v12 h0
 unfold ZW at h0
 refine Q3 ?_
 refine QD (fun (v14:Unit)=>⟨[(0,.v (.one (.ptr 0 0))),(3,.v (.one (.ptr 2 0))),(4,.v (.one (.ptr 3 0))),(5,.v (.one (.ptr 7 0)))],m30f4_h1 a1 a2 a0,[],8,95,[3,43,90]⟩) (fun (v14:Unit)=>(ZX a0 a1 a2)=some r) ?_ ?_
 refine Qd h0 (fun w1_ h1 h0=>?_)
 refine Qe (b:=v12) Z (fun c15=>?_) (fun c15=>?_)
 replace h1:=Qf c15 h1
 refine Q0<|rM Z Z Z<|rR Z Z Z (Q2 Kk Z)<|rR Z Z Z (Qi QR Z Z Z Z)<|rR Z Z Z (Q2 Jz Z)<|rR Z Z Z (Q6 QG Z Z Z)<|rR Z Z Z (Q6 YI Z Z Z) ?_
 refine Qd h1 (fun x16 hx16 h1=>?_)
 refine Y7 id hx16 h1 (fun x17 hx17 h1=>?_) (fun x18 hx18 h1=>?_)
 refine Qb Z Z (lb Z) (JC (hp1':=[(0,.cells 62 [dS a1,.mp 1]),(1,.mp (J2 a2.1) a2.2),(6,.mp (J2 (gmNil:Qo Bs Ent).1) (gmNil:Qo Bs Ent).2)]) (tk1':=[]) (hpF:=GV a0) (tkF:=[]) (res2:=QM []) (nx2:=16) [0,1,6] Z Z (CallE.m (YO a0.value 0 a0.params a1 a2 gmNil (.inl x17) hx17)) Z Z (qB Z Z (qG Z (qG Z qZ))) Z Z (gR Z (gG Z (gG Z gZ))) jZ (hA Z) kZ Z Z Z Z Z (bB Z Z (bG Z (bG Z bZ))) Z Z Z Z)<|Q5 ?_
 have e:=sI h1;subst e
 replace h0:=G4 h0
 exact Q9 () (QV (tA Z) (hA Z) kZ Z (Nat.le_trans hv0 (lb Z)) Z Z Z (bB Z Z (bG Z (bB Z Z (bB Z Z (bG Z (bA Z)))))) Z Z) h0
 refine Jg Z (YD (hp1':=[(0,.cells 62 [dS a1,.mp 1]),(1,.mp (J2 a2.1) a2.2),(6,.mp (J2 (gmNil:Qo Bs Ent).1) (gmNil:Qo Bs Ent).2)]) (tk1':=[]) (hpF:=GV a0) (tkF:=[]) (nx2:=11) [0,1,6] Z Z (CallE.d (YO a0.value 0 a0.params a1 a2 gmNil (.inr x18) hx18)) Z Z (qB Z Z (qG Z (qG Z qZ))) Z (gR Z (gG Z (gG Z gZ))) jZ (hA Z) kZ Z Z Z Z Z (bB Z Z (bG Z (bG Z bZ))) Z Z Z Z) ?_
 have e:=sI h1;subst e
 replace h0:=GA h0
 have e:=sI h0;subst e
 exact Ju (hQ0 (.panic (JE (QT 90 x18))) _ Z (UC _ _ _ Z (QV (tA Z) (hA Z) kZ Z (Nat.le_trans hv0 (lb Z)) Z Z Z (bB Z Z (bG Z (bA Z))) Z Z))) (fun _ _ h=>h)
 replace h1:=Qg c15 h1
 refine Qj ?_
 have e:=sI h1;subst e
 replace h0:=G4 h0
 exact Q9 () (QV (tA Z) (hA Z) kZ Z (Nat.le_trans hv0 (lb Z)) Z Z Z (bB Z Z (bG Z (bB Z Z (bB Z Z (bG Z (bA Z)))))) Z Z) h0
 intro v14 h0
 unfold ZX at h0
 refine Q3<|Q4<|Q4<|Q0<|rR Z Z Z (Q2 JN Z)<|rR Z Z Z (Q6 QG Z Z Z)<|rR Z Z Z (Q8 Z Z Z)<|Q5<|Q3 ?_
 refine QD (fun (v19:(Qo Bs Ent))=>⟨[(0,.v (.one (.ptr 0 0))),(3,.v (.one (.ptr 2 0))),(4,.v (.one (.ptr 3 0))),(5,.v (.one (.ptr 7 0)))],[(0,.cells 62 [dS a1,.mp 1]),(1,.mp (J2 a2.1) a2.2),(2,.cells 45 (cE a0)),(3,.cells 25 [dI 0]),(6,.mp (J2 v19.1) v19.2),(7,.cells 60 [.mp 6])],[],8,95,[3,43,90]⟩) (fun (v19:(Qo Bs Ent))=>(Option.bind (QE (ZV a0 a1 a2 v19) QU 0) (Sum.elim (fun (o20:Unit)=>Gd a0 v19 a1 a2) (fun o=>some o)))=some r) ?_ ?_
 refine Qd h0 (fun w1_ h1 h0=>?_)
 refine Qe (b:=(a0.kind==3)) Z (fun c20=>?_) (fun c20=>?_)
 replace h1:=Qf c20 h1
 refine Q0<|rM Z Z Z<|rR Z Z Z (QH (a0:Dcl) Jq Z Z)<|rR Z Z Z (Q6 YI Z Z Z) ?_
 refine Qd h1 (fun x21 hx21 h1=>?_)
 refine Y7 id hx21 h1 (fun x22 hx22 h1=>?_) (fun x23 hx23 h1=>?_)
 refine Qb Z Z (lb Z) (JC (hp1':=[(0,.cells 62 [dS a1,.mp 1]),(1,.mp (J2 a2.1) a2.2),(6,.mp (J2 x22.1) x22.2)]) (tk1':=[]) (hpF:=GV a0) (tkF:=[]) (res2:=QM []) (nx2:=24) [0,1,6] Z Z (CallE.m (m47f10_ok a0 a1 a2 gmNil (.inl x22) hx22)) Z Z (qB Z Z (qG Z (qG Z qZ))) Z Z (gR Z (gG Z (gG Z gZ))) jZ (hA Z) kZ Z Z Z Z Z (bB Z Z (bG Z (bG Z bZ))) Z Z Z Z)<|Q5 ?_
 have e:=sI h1;subst e
 replace h0:=G4 h0
 exact Q9 x22 (QV (tA Z) (hA Z) kZ Z (Nat.le_trans hv0 (lb Z)) Z Z Z (bB Z Z (bG Z (bB Z Z (bB Z Z (bG Z (bA Z)))))) Z Z) h0
 refine Jg Z (YD (hp1':=[(0,.cells 62 [dS a1,.mp 1]),(1,.mp (J2 a2.1) a2.2),(6,.mp (J2 x23.2.1) x23.2.2)]) (tk1':=[]) (hpF:=GV a0) (tkF:=[]) (nx2:=19) [0,1,6] Z Z (CallE.d (m47f10_ok a0 a1 a2 gmNil (.inr x23) hx23)) Z Z (qB Z Z (qG Z (qG Z qZ))) Z (gR Z (gG Z (gG Z gZ))) jZ (hA Z) kZ Z Z Z Z Z (bB Z Z (bG Z (bG Z bZ))) Z Z Z Z) ?_
 have e:=sI h1;subst e
 replace h0:=GA h0
 have e:=sI h0;subst e
 exact Ju (hQ0 (.panic (JE (QT 90 x23.1))) _ Z (UC _ _ _ Z (QV (tA Z) (hA Z) kZ Z (Nat.le_trans hv0 (lb Z)) Z Z Z (bB Z Z (bG Z (bA Z))) Z Z))) (fun _ _ h=>h)
 replace h1:=Qg c20 h1
 refine Qj ?_
 have e:=sI h1;subst e
 replace h0:=G4 h0
 exact Q9 gmNil (QV (tA Z) (hA Z) kZ Z (Nat.le_trans hv0 (lb Z)) Z Z Z (bB Z Z (bG Z (bB Z Z (bB Z Z (bG Z (bA Z)))))) Z Z) h0
 intro v19 h0
 refine Q3<|Q4<|Q4<|Q0<|rR Z Z Z (Q2 Jf Z)<|rR Z Z Z (Q6 JU Z Z Z)<|rR Z Z Z (Qx (α:=Fn) JA Z (.d _))<|rM Z Z Z<|Q5<|Q3<|Ql ?_
 refine QQ 0 (fun (o24:Unit)=>⟨[(0,.v (.one (.ptr 0 0))),(3,.v (.one (.ptr 2 0))),(4,.v (.one (.ptr 3 0))),(5,.v (.one (.ptr 7 0)))],m30f4_h3 a1 a2 a0 v19,[],8,95,[3,43,90]⟩) (fun (o24:Unit)=>(Gd a0 v19 a1 a2)=some r) ?_ ?_
 refine Qd h0 (fun o25 hl1 h0=>?_)
 refine QP (ZV a0 a1 a2 v19) (fun s1=>⟨[(0,.v (.one (.ptr 0 0))),(3,.v (.one (.ptr 2 0))),(4,.v (.one (.ptr 3 0))),(5,.v (.one (.ptr 7 0))),(52,.v (.one (dS a0.funs))),(53,.v (.one (dI (a0.funs.length:Int)))),(54,.v (.one (dI s1)))],m30f4_h3 a1 a2 a0 v19,[],8,95,[3,43,90]⟩) 0 o25 (QV (tA Z) (hA Z) kZ Z (Nat.le_trans hv0 (lb Z)) Z Z Z (bB Z Z (bG Z (bB Z Z (bB Z Z (bG Z (bA Z)))))) Z Z) hl1 (fun s1 n1 oo1 h1 ho1=>?_)
 unfold ZV at h1
 refine Q4<|Q0<|rR Z Z Z (Q8 Z Z Z)<|Q5<|Q3<|Q4 ?_
 refine Qe (b:=(decide (s1 < (a0.funs.length:Int)))) Z (fun c26=>?_) (fun c26=>?_)
 replace h1:=Qf c26 h1
 refine Qj<|Q3<|Q4<|Ql<|Q4<|Q0 ?_
 refine Qd h1 (fun x27 hx27 h1=>?_)
 refine rR Z Z Z (Qt (α:=Fn) JA Z (.d _) Z hx27)<|rR Z Z Z (Qu (x27:Fn) Z5 Z)<|Qb Z Z (lb Z) (Qv U9 Z)<|QC Z Z (QA (x27:Fn) Z5 Z Z Z Z Z)<|Q5<|Q3<|Q0<|rM Z Z Z<|rR Z Z Z (Q2 ZZ Z)<|rR Z Z Z (Qi QR Z Z Z Z)<|rR Z Z Z (Q2 Jz Z)<|rR Z Z Z (Q6 QG Z Z Z)<|rR Z Z Z (Q6 YI Z Z Z) ?_
 refine Qd h1 (fun x28 hx28 h1=>?_)
 refine Y7 id hx28 h1 (fun x29 hx29 h1=>?_) (fun x30 hx30 h1=>?_)
 refine Qb Z Z (lb Z) (JC (hp1':=[(0,.cells 62 [dS a1,.mp 1]),(1,.mp (J2 a2.1) a2.2),(6,.mp (J2 v19.1) v19.2)]) (tk1':=[]) (hpF:=m30f4_h4 a0 x27) (tkF:=[]) (res2:=QM []) (nx2:=17) [0,1,6] Z Z (CallE.m (YO x27.ty 0 a0.params a1 a2 v19 (.inl x29) hx29)) Z Z (qB Z Z (qG Z (qG Z qZ))) Z Z (gR Z (gG Z (gG Z gZ))) jZ (hA Z) kZ Z Z Z Z Z (bB Z Z (bG Z (bG Z bZ))) Z Z Z Z)<|Q5<|Qk<|Q3<|Q0<|rR Z Z Z (Q8 Z Z Z)<|rM Z Z Z<|Q5 ?_
 have e:=sI h1;subst e
 refine QJ (Ja (s1+1)) (QV (tA Z) (hA Z) kZ Z (Nat.le_trans hv0 (lb Z)) Z Z Z (bB Z Z (bG Z (bB Z Z (bB Z Z (bG Z (bA Z)))))) Z Z) ho1
 refine Jg Z (YD (hp1':=[(0,.cells 62 [dS a1,.mp 1]),(1,.mp (J2 a2.1) a2.2),(6,.mp (J2 v19.1) v19.2)]) (tk1':=[]) (hpF:=m30f4_h4 a0 x27) (tkF:=[]) (nx2:=12) [0,1,6] Z Z (CallE.d (YO x27.ty 0 a0.params a1 a2 v19 (.inr x30) hx30)) Z Z (qB Z Z (qG Z (qG Z qZ))) Z (gR Z (gG Z (gG Z gZ))) jZ (hA Z) kZ Z Z Z Z Z (bB Z Z (bG Z (bG Z bZ))) Z Z Z Z) ?_
 have e:=sI h1;subst e
 have e_:_=_:=ho1
 subst e_
 try dsimp only [Sum.elim_inl,Sum.elim_inr] at h0
 have e:=sI h0;subst e
 exact Ju (hQ0 (.panic (JE (QT 90 x30))) _ Z (UC _ _ _ Z (QV (tA Z) (hA Z) kZ Z (Nat.le_trans hv0 (lb Z)) Z Z Z (bB Z Z (bG Z (bA Z))) Z Z))) (fun _ _ h=>h)
 replace h1:=Qg c26 h1
 refine QW<|Qr<|Qr ?_
 have e:=sI h1;subst e
 have e_:_=_:=ho1
 subst e_
 exact QO () (QV (tA Z) (hA Z) kZ Z (Nat.le_trans hv0 (lb Z)) Z Z Z (bB Z Z (bG Z (bB Z Z (bB Z Z (bG Z (bA Z)))))) Z Z) h0
 intro o24 h0
 unfold Gd at h0
 refine QF<|Q3<|Q4<|Q4 ?_
 refine J4 [6] [] JV (by kernel_rfl) (by kernel_rfl) (by kernel_rfl) ?_
 refine RunA.rd Z Z Z (Q1 (QH (a0:Dcl) Jq Z Z)) Z<|RunA.rd Z Z Z (Q1 (Qq Z)) Z<|RunA.rd Z Z Z (Q1 (JB Z)) Z<|RunA.rd Z Z Z (Q1 (Q2 fo_62_0 Z)) Z<|RunA.rd Z Z Z (Q1 (Q6 U8 Z Z Z)) Z<|RunA.rd Z Z Z (Q1 (Qx (α:=Dcl) YE Z (.d _))) Z ?_
 refine Qd h0 (fun y31 h1 h0=>?_)
 have hc32:CallM Try.prog 31 [.agg (cE a0),.one (dI (a1.length:Int))] ⟨m30f4_h3 a1 a2 a0 v19,[],8⟩ (QM [.one (.fn 49 [(9,0),(8,0)])]) ⟨GU a1 a2 a0 v19,[],10⟩:=by
  refine Jl ⟨[(4,.v (.one (.fn 49 [(9,0),(8,0)])))],GU a1 a2 a0 v19,[],10,6,[]⟩ Z Z en_31 (lb Z) Z (Qm Z .nil) (fun w0 M V0 Q hv1 hQ1=>?_)
  simp only [J3]
  refine Q4<|Q0<|Qb Z Z (lb Z) (QN Z)<|Qb Z Z (lb Z) (QN Z)<|rA Z Z Z<|Q5<|Q3<|Q4<|Q0<|rR Z Z Z (RO.makeFunc2 Z Z)<|rA Z Z Z<|Q5<|Q3<|Qp ?_
  have e:=sI h1;subst e
  exact hQ1 _ _ _ (.inr Z) Z (QV (tA Z) (hA Z) kZ Z (Nat.le_trans hv1 (lb Z)) Z Z Z (bB Z Z (bG Z (bB Z Z (bB Z Z (bG Z (bA Z)))))) Z Z)
 refine RunA.eff Z Z Z (Yf Z Z Z hc32 Z (hA Z) kZ) Z ?_
 refine RunA.nil ⟨?ex,_,_,Z,?_⟩
 case ex=>exact trivial
 refine Jp (st':=⟨[(0,.v (.one (.ptr 0 0))),(3,.v (.one (.ptr 2 0))),(4,.v (.one (.ptr 3 0))),(5,.v (.one (.ptr 7 0))),(72,.v (.one (.fn 49 [(9,0),(8,0)])))],GU a1 a2 a0 v19,[],10,95,[3,43,90]⟩) (QV (tA Z) (hA Z) kZ Z (Nat.le_trans hv0 (lb Z)) Z Z Z (bB Z Z (bG Z (bB Z Z (bB Z Z (bG Z (bA Z)))))) Z Z)<|Q3<|Ql<|Xg (st':=⟨[(0,.v (.one (.ptr 0 0))),(3,.v (.one (.ptr 2 0))),(4,.v (.one (.ptr 3 0))),(5,.v (.one (.ptr 7 0))),(72,.v (.one (.fn 49 [(9,0),(8,0)])))],GU a1 a2 a0 v19,[],10,95,[3,43,90]⟩) (QV (tA Z) (hA Z) kZ Z (Nat.le_trans hv0 (lb Z)) Z Z Z (bB Z Z (bG Z (bB Z Z (bB Z Z (bG Z (bA Z)))))) Z Z) ?_
 refine Qd h0 (fun y33 h1 h0=>?_)
 have hc34:CallM Try.prog 49 [.one (.yld 11),.one (.ptr 9 0),.one (.ptr 8 0)] ⟨[(11,.loop .ready none [(0,.v (.one (.ptr 0 0))),(3,.v (.one (.ptr 2 0))),(4,.v (.one (.ptr 3 0))),(5,.v (.one (.ptr 7 0))),(72,.v (.one (.fn 49 [(9,0),(8,0)])))] 95 #[73,74] Kq Kp 10),(10,.obj (.deferred (some []))),(0,.cells 62 [dS a1,.mp 1]),(1,.mp (J2 a2.1) a2.2),(2,.cells 45 (cE a0)),(3,.cells 25 [dI 0]),(6,.mp (J2 v19.1) v19.2),(7,.cells 60 [.mp 6]),(8,.cells 45 (cE a0)),(9,.cells 3 [dI (a1.length:Int)])],[],12⟩ (QM []) ⟨m30f4_h7 a1 a2 a0 y33,[],13⟩:=by
  refine Jl ⟨[],m30f4_h7 a1 a2 a0 y33,[],13,98,[]⟩ Z Z en_49 (lb Z) Z .nil (fun w0 M V0 Q hv1 hQ1=>?_)
  simp only [J3]
  refine Q4<|Q0<|rR Z Z Z (Q6 QG Z Z Z)<|rR Z Z Z (Q2 Jz Z)<|rR Z Z Z (Q6 QG Z Z Z)<|rR Z Z Z (Q2 Zl Z)<|rR Z Z Z (Qi QR Z Z Z Z)<|rR Z Z Z (ZN Zs Z Z Z Z Z)<|Qb Z Z (lb Z) (Qv Z7 Z)<|QC Z Z (Qz J8 Z Z Z Z (lb Z) Z)<|Q5<|Q3<|Q4<|Q0 ?_
  refine rR Z Z Z (Q2 JN Z)<|rR Z Z Z (Q6 QG Z Z Z)<|Q5<|Q3<|Ql<|Q4<|Q4<|Q0<|rR Z Z Z (Q8 Z Z Z)<|rA Z Z Z<|Q5<|Q3 ?_
  refine QD (fun (v35:Bool)=>⟨[(0,.v (.one (.yld 11))),(1,.v (.one (.ptr 9 0))),(2,.v (.one (.ptr 8 0))),(4,.v (.one (.ptr 12 0))),(16,.v (.one (dI a0.kind))),(17,.v (.one (dB v35)))],m30f4_h9 a1 a2 a0 v19,[],13,98,[]⟩) (fun (v35:Bool)=>(GT v35 a0 v19 a1)=some y33) ?_ ?_
  refine Qd h1 (fun w2_ h2 h1=>?_)
  refine Qe (b:=(a0.kind==0)) Z (fun c36=>?_) (fun c36=>?_)
  replace h2:=Qf c36 h2
  refine Qj ?_
  have e:=sI h2;subst e
  exact Q9 (a0.kind==0) (QV (tA Z) (hA Z) kZ Z (Nat.le_trans hv1 (lb Z)) Z Z Z (bB Z Z (bG Z (bB Z Z (bB Z Z (bG Z (bA Z)))))) Z Z) h1
  replace h2:=Qg c36 h2
  refine Q4<|Q0<|rR Z Z Z (Q8 Z Z Z)<|rA Z Z Z<|Q5<|Q3 ?_
  refine Qe (b:=(a0.kind==1)) Z (fun c37=>?_) (fun c37=>?_)
  replace h2:=Qf c37 h2
  refine Qj ?_
  have e:=sI h2;subst e
  exact Q9 (a0.kind==1) (QV (tA Z) (hA Z) kZ Z (Nat.le_trans hv1 (lb Z)) Z Z Z (bB Z Z (bG Z (bB Z Z (bB Z Z (bG Z (bA Z)))))) Z Z) h1
  replace h2:=Qg c37 h2
  refine Q0<|rR Z Z Z (Q8 Z Z Z)<|rA Z Z Z<|Q5 ?_
  have e:=sI h2;subst e
  exact Q9 (a0.kind==2) (QV (tA Z) (hA Z) kZ Z (Nat.le_trans hv1 (lb Z)) Z Z Z (bB Z Z (bG Z (bB Z Z (bB Z Z (bG Z (bA Z)))))) Z Z) h1
  intro v35 h1
  unfold GT at h1
  refine Q3 ?_
  refine Qe (b:=v35) Z (fun c38=>?_) (fun c38=>?_)
  replace h1:=Qf c38 h1
  refine Q4<|Q0<|Qb Z Z (lb Z) (OpOK.lit3E (α:=Int) 0 1 2 U5 z_3 Z Z (lb Z) (lb Z) Z Z Z Z (.cons (.d _) (.cons (.d _) (.cons (.d _) .nil))) ⟨Z,Z,Z⟩)<|rR Z Z Z (Q2 JN Z)<|rR Z Z Z (Q6 QG Z Z Z) ?_
  refine Qd h1 (fun x39 hx39 h1=>?_)
  refine rR Z Z Z (Qt (α:=Int) U5 Z (.app _ _) Z hx39)<|rR Z Z Z (Jj QG Z Z)<|rR Z Z Z (Q2 Yx Z)<|QC Z Z (Qz QG Z Z Z Z (lb Z) Z)<|Q5<|Q3<|Q0<|rM Z Z Z<|rR Z Z Z (Q2 JY Z)<|rR Z Z Z (Q6 JG Z Z Z)<|rR Z Z Z (Qi J8 Z Z Z Z) ?_
  refine Qd h1 (fun y40 h2 h1=>?_)
  have ha41:ExecOK Try.prog (some 11) Kq ⟨[(0,.v (.one (.ptr 0 0))),(3,.v (.one (.ptr 2 0))),(4,.v (.one (.ptr 3 0))),(5,.v (.one (.ptr 7 0))),(72,.v (.one (.fn 49 [(9,0),(8,0)]))),(73,.v (.one (J6 a0.name))),(74,.v (.agg [dI x39,dI (a1.length:Int),dI 0,dI a0.params,dI a0.ty.kind,dI a0.ty.index,J6 a0.ty.name,dS a0.ty.levels,dS a0.ty.kids]))],m30f4_h11 a1 a2 a0 v19 x39,[(13,some ⟨3,1,(Enc.encL ([0,1,2]:List Int)).length,[]⟩)],14,95,[]⟩ .normal ⟨[(5,.v (.one (.ptr 7 0))),(8,.v (.one (J6 a0.name))),(9,.v (.one (.ptr 14 0)))],m30f4_h14 a1 a2 a0 v19 x39,[(13,some ⟨3,1,(Enc.encL ([0,1,2]:List Int)).length,[]⟩)],15,95,[]⟩:=by
   refine QZ (fun w0 M V0 ro n Q hv2 hro2 hQn2=>?_)
   refine Q4<|Q0<|rA Z Z Z<|Q5<|Q3<|Q0<|Qb Z Z (lb Z) (Qv Z7 Z)<|QC Z Z (Qz J8 Z Z Z Z (lb Z) Z)<|Q5 ?_
   exact JO hQn2 (QV (tA Z) (hA Z) (kA Z) Z (Nat.le_trans hv2 (lb Z)) Z Z Z (bB Z Z (bG Z (bB Z Z (bB Z Z (bG Z (bA Z)))))) Z Z)
  have hb42:ExecOK Try.prog (some 11) Kp ⟨[(5,.v (.one (.ptr 7 0))),(8,.v (.one (J6 a0.name))),(9,.v (.one (.ptr 14 0)))],m30f4_h13 a1 a2 a0 v19 x39,[(13,some ⟨3,1,(Enc.encL ([0,1,2]:List Int)).length,[]⟩)],15,95,[]⟩ .normal ⟨[],m30f4_h16 a1 a2 a0 v19 x39,[(13,some ⟨3,1,(Enc.encL ([0,1,2]:List Int)).length,[]⟩)],15,95,[]⟩:=by
   refine QZ (fun w0 M V0 ro n Q hv2 hro2 hQn2=>?_)
   refine Ql<|Q0<|rR Z Z Z (Q6 YI Z Z Z)<|rM Z Z Z<|rR Z Z Z (Qi J8 Z Z Z Z)<|QC Z Z (Jw (M:=v19) (k:=a0.name) (v:=(⟨x39,(a1.length:Int),0,a0.params,a0.ty⟩:Ent)) Z0 Z Z Z Z Z)<|Q5<|Qk ?_
   have e:=sI h2;subst e
   exact JO hQn2 (QV tZ (hA Z) (kA Z) Z (Nat.le_trans hv2 (lb Z)) Z Z Z (bB Z Z (bG Z (bB Z Z (bB Z Z (bG Z (bA Z)))))) Z Z)
  refine Qb Z Z (lb Z) (Jm (jump:=none) Z Z Z Z Z (QK ha41 (fun E hv=>(QV (tA Z) (hA Z) (kA Z) Z (Nat.le_trans hv (lb Z)) Z Z Z (bB Z Z (bG Z (bB Z Z (bB Z Z (bG Z (bA Z)))))) Z Z))) Z (QK hb42 (fun E hv=>(QV (tA Z) (hA Z) (kA Z) Z (Nat.le_trans hv (lb Z)) Z Z Z (bB Z Z (bG Z (bB Z Z (bB Z Z (bG Z (bA Z)))))) Z Z))) Z Z) ?_
  refine Q5<|Qk ?_
  have e:=sI h1;subst e
  exact hQ1 _ _ _ (.inl Z) Z (QV tZ (hA Z) kZ Z (Nat.le_trans hv1 (lb Z)) Z Z Z (bB Z Z (bG Z (bB Z Z (bB Z Z (bG Z (bA Z)))))) Z Z)
  replace h1:=Qg c38 h1
  refine Q4<|Q0<|rR Z Z Z (Q8 Z Z Z)<|rA Z Z Z<|Q5<|Q3 ?_
  refine Qe (b:=(a0.kind==3)) Z (fun c43=>?_) (fun c43=>?_)
  replace h1:=Qf c43 h1
  refine Q4<|Q0<|rR Z Z Z (Q2 Yx Z)<|QC Z Z (Qz QG Z Z Z Z (lb Z) Z)<|Q5<|Q3<|Q4<|Q4<|Q0<|rM Z Z Z<|rR Z Z Z (Q2 JY Z)<|rR Z Z Z (Q6 JG Z Z Z)<|rR Z Z Z (Qi J8 Z Z Z Z) ?_
  refine Qd h1 (fun y44 h2 h1=>?_)
  have ha45:ExecOK Try.prog (some 11) Kq ⟨[(0,.v (.one (.ptr 0 0))),(3,.v (.one (.ptr 2 0))),(4,.v (.one (.ptr 3 0))),(5,.v (.one (.ptr 7 0))),(72,.v (.one (.fn 49 [(9,0),(8,0)]))),(73,.v (.one (J6 a0.name))),(74,.v (.agg [dI 3,dI (a1.length:Int),dI 0,dI a0.params,dI a0.ty.kind,dI a0.ty.index,J6 a0.ty.name,dS a0.ty.levels,dS a0.ty.kids]))],m30f4_h18 a1 a2 a0 v19,[],13,95,[]⟩ .normal ⟨[(5,.v (.one (.ptr 7 0))),(8,.v (.one (J6 a0.name))),(9,.v (.one (.ptr 13 0)))],m30f4_h20 a1 a2 a0 v19,[],14,95,[]⟩:=by
   refine QZ (fun w0 M V0 ro n Q hv2 hro2 hQn2=>?_)
   refine Q4<|Q0<|rA Z Z Z<|Q5<|Q3<|Q0<|Qb Z Z (lb Z) (Qv Z7 Z)<|QC Z Z (Qz J8 Z Z Z Z (lb Z) Z)<|Q5 ?_
   exact JO hQn2 (QV (tA Z) (hA Z) kZ Z (Nat.le_trans hv2 (lb Z)) Z Z Z (bB Z Z (bG Z (bB Z Z (bB Z Z (bG Z (bA Z)))))) Z Z)
  have hb46:ExecOK Try.prog (some 11) Kp ⟨[(5,.v (.one (.ptr 7 0))),(8,.v (.one (J6 a0.name))),(9,.v (.one (.ptr 13 0)))],m30f4_h19 a1 a2 a0 v19,[],14,95,[]⟩ .normal ⟨[],m30f4_h22 a1 a2 a0 v19,[],14,95,[]⟩:=by
   refine QZ (fun w0 M V0 ro n Q hv2 hro2 hQn2=>?_)
   refine Ql<|Q0<|rR Z Z Z (Q6 YI Z Z Z)<|rM Z Z Z<|rR Z Z Z (Qi J8 Z Z Z Z)<|QC Z Z (Jw (M:=v19) (k:=a0.name) (v:=(⟨3,(a1.length:Int),0,a0.params,a0.ty⟩:Ent)) Z0 Z Z Z Z Z)<|Q5<|Qk ?_
   have e:=sI h2;subst e
   exact JO hQn2 (QV tZ (hA Z) kZ Z (Nat.le_trans hv2 (lb Z)) Z Z Z (bB Z Z (bG Z (bB Z Z (bB Z Z (bG Z (bA Z)))))) Z Z)
  refine Qb Z Z (lb Z) (Jm (jump:=none) Z Z Z Z Z (QK ha45 (fun E hv=>(QV (tA Z) (hA Z) kZ Z (Nat.le_trans hv (lb Z)) Z Z Z (bB Z Z (bG Z (bB Z Z (bB Z Z (bG Z (bA Z)))))) Z Z))) Z (QK hb46 (fun E hv=>(QV (tA Z) (hA Z) kZ Z (Nat.le_trans hv (lb Z)) Z Z Z (bB Z Z (bG Z (bB Z Z (bB Z Z (bG Z (bA Z)))))) Z Z))) Z Z) ?_
  refine rR Z Z Z (Jc Z)<|Q5<|Q3 ?_
  refine Qe Z (fun h=>nomatch h) (fun _=>?_)
  refine Qj<|Q3<|Q4<|Q4<|Q0<|rR Z Z Z (Q2 Js Z)<|rR Z Z Z (Q6 Yd Z Z Z)<|rR Z Z Z (Qx (α:=Ctr) JX Z (.d _))<|rM Z Z Z<|Q5<|Q3<|Ql ?_
  refine QQ 1 (fun (o47:(Qo Bs Ent))=>⟨[(0,.v (.one (.yld 11))),(1,.v (.one (.ptr 9 0))),(2,.v (.one (.ptr 8 0)))],[(0,.cells 62 [dS a1,.mp 1]),(1,.mp (J2 a2.1) a2.2),(2,.cells 45 (cE a0)),(3,.cells 25 [dI 0]),(6,.mp (J2 o47.1) o47.2),(7,.cells 60 [.mp 6]),(8,.cells 45 (cE a0)),(9,.cells 3 [dI (a1.length:Int)]),(10,.obj (.deferred (some []))),(11,YF),(12,Yk a1 a0)],[],14,98,[]⟩) (fun (o47:(Qo Bs Ent))=>(XA a0 o47 a1)=some y33) ?_ ?_
  refine Qd h1 (fun o48 hl2 h1=>?_)
  refine QP (Gc a0 a1) (fun s2=>⟨[(0,.v (.one (.yld 11))),(1,.v (.one (.ptr 9 0))),(2,.v (.one (.ptr 8 0))),(42,.v (.one (dS a0.ctors))),(43,.v (.one (dI (a0.ctors.length:Int)))),(44,.v (.one (dI s2.1)))],[(0,.cells 62 [dS a1,.mp 1]),(1,.mp (J2 a2.1) a2.2),(2,.cells 45 (cE a0)),(3,.cells 25 [dI 0]),(6,.mp (J2 s2.2.1) s2.2.2),(7,.cells 60 [.mp 6]),(8,.cells 45 (cE a0)),(9,.cells 3 [dI (a1.length:Int)]),(10,.obj (.deferred (some []))),(11,YF),(12,Yk a1 a0)],[],14,98,[]⟩) (0,(Jb v19 a0.name (⟨3,(a1.length:Int),0,a0.params,a0.ty⟩:Ent))) o48 (QV (tA Z) (hA Z) kZ Z (Nat.le_trans hv1 (lb Z)) Z Z Z (bB Z Z (bG Z (bB Z Z (bB Z Z (bG Z (bA Z)))))) Z Z) hl2 (fun s2 n2 oo2 h2 ho2=>?_)
  unfold Gc at h2
  refine Q4<|Q0<|rR Z Z Z (Q8 Z Z Z)<|Q5<|Q3<|Q4 ?_
  refine Qe (b:=(decide (s2.1 < (a0.ctors.length:Int)))) Z (fun c49=>?_) (fun c49=>?_)
  replace h2:=Qf c49 h2
  refine Qj<|Q3<|Q4<|Ql<|Q4<|Q0<|rM Z Z Z ?_
  refine Qd h2 (fun x50 hx50 h2=>?_)
  refine rR Z Z Z (Qt (α:=Ctr) JX Z (.d _) Z hx50)<|rR Z Z Z (Qu (x50:Ctr) KD Z)<|Qb Z Z (lb Z) (Qv UN Z)<|rA Z Z Z<|QC Z Z (QA (x50:Ctr) KD Z Z Z Z Z)<|Q5<|Q3<|Q4<|Q0<|rM Z Z Z<|rR Z Z Z (Q2 ZB Z)<|rR Z Z Z (Q6 JG Z Z Z)<|rR Z Z Z (Q6 QG Z Z Z)<|rM Z Z Z ?_
  refine rR Z Z Z (Q2 Jz Z)<|rR Z Z Z (Q6 QG Z Z Z)<|rR Z Z Z (Q2 Za Z)<|rR Z Z Z (Qi QR Z Z Z Z)<|rR Z Z Z (Y1 Zs Z (.cons Z (.cons Z (.cons Z (.cons Z (.cons Z .nil))))) Z) ?_
  refine Qd h2 (fun y51 h3 h2=>?_)
  have ha52:ExecOK Try.prog (some 11) Kq ⟨[(0,.v (.one (.ptr 0 0))),(3,.v (.one (.ptr 2 0))),(4,.v (.one (.ptr 3 0))),(5,.v (.one (.ptr 7 0))),(72,.v (.one (.fn 49 [(9,0),(8,0)]))),(73,.v (.one (J6 x50.name))),(74,.v (.agg [dI 4,dI (a1.length:Int),dI s2.1,dI a0.params,dI x50.ty.kind,dI x50.ty.index,J6 x50.ty.name,dS x50.ty.levels,dS x50.ty.kids]))],m30f4_h23 a1 a2 a0 s2 x50,[],15,95,[]⟩ .normal ⟨[(5,.v (.one (.ptr 7 0))),(8,.v (.one (J6 x50.name))),(9,.v (.one (.ptr 15 0)))],m30f4_h26 a1 a2 a0 s2 x50,[],16,95,[]⟩:=by
   refine QZ (fun w0 M V0 ro n Q hv3 hro3 hQn3=>?_)
   refine Q4<|Q0<|rA Z Z Z<|Q5<|Q3<|Q0<|Qb Z Z (lb Z) (Qv Z7 Z)<|QC Z Z (Qz J8 Z Z Z Z (lb Z) Z)<|Q5 ?_
   exact JO hQn3 (QV (tA Z) (hA Z) kZ Z (Nat.le_trans hv3 (lb Z)) Z Z Z (bB Z Z (bG Z (bB Z Z (bB Z Z (bG Z (bA Z)))))) Z Z)
  have hb53:ExecOK Try.prog (some 11) Kp ⟨[(5,.v (.one (.ptr 7 0))),(8,.v (.one (J6 x50.name))),(9,.v (.one (.ptr 15 0)))],m30f4_h25 a1 a2 a0 s2 x50,[],16,95,[]⟩ .normal ⟨[],m30f4_h28 a1 a2 a0 s2 x50,[],16,95,[]⟩:=by
   refine QZ (fun w0 M V0 ro n Q hv3 hro3 hQn3=>?_)
   refine Ql<|Q0<|rR Z Z Z (Q6 YI Z Z Z)<|rM Z Z Z<|rR Z Z Z (Qi J8 Z Z Z Z)<|QC Z Z (Jw (M:=s2.2) (k:=x50.name) (v:=(⟨4,(a1.length:Int),s2.1,a0.params,x50.ty⟩:Ent)) Z0 Z Z Z Z Z)<|Q5<|Qk ?_
   have e:=sI h3;subst e
   exact JO hQn3 (QV tZ (hA Z) kZ Z (Nat.le_trans hv3 (lb Z)) Z Z Z (bB Z Z (bG Z (bB Z Z (bB Z Z (bG Z (bA Z)))))) Z Z)
  refine Qb Z Z (lb Z) (Jm (jump:=none) Z Z Z Z Z (QK ha52 (fun E hv=>(QV (tA Z) (hA Z) kZ Z (Nat.le_trans hv (lb Z)) Z Z Z (bB Z Z (bG Z (bB Z Z (bB Z Z (bG Z (bA Z)))))) Z Z))) Z (QK hb53 (fun E hv=>(QV (tA Z) (hA Z) kZ Z (Nat.le_trans hv (lb Z)) Z Z Z (bB Z Z (bG Z (bB Z Z (bB Z Z (bG Z (bA Z)))))) Z Z))) Z Z) ?_
  refine rR Z Z Z (Jc Z)<|Q5<|Q3 ?_
  refine Qe Z (fun h=>nomatch h) (fun _=>?_)
  refine Qj<|Qk<|Q3<|Q0<|rR Z Z Z (Q8 Z Z Z)<|rM Z Z Z<|Q5 ?_
  have e:=sI h2;subst e
  refine QJ ((Ja (s2.1+1)),(Jb s2.2 x50.name (⟨4,(a1.length:Int),s2.1,a0.params,x50.ty⟩:Ent))) (QV (tA Z) (hA Z) kZ Z (Nat.le_trans hv1 (lb Z)) Z Z Z (bB Z Z (bG Z (bB Z Z (bB Z Z (bG Z (bA Z)))))) Z Z) ho2
  replace h2:=Qg c49 h2
  refine QW<|Qr<|Qr ?_
  have e:=sI h2;subst e
  have e_:_=_:=ho2
  subst e_
  exact QO s2.2 (QV (tA Z) (hA Z) kZ Z (Nat.le_trans hv1 (lb Z)) Z Z Z (bB Z Z (bG Z (bB Z Z (bB Z Z (bG Z (bA Z)))))) Z Z) h1
  intro o47 h1
  unfold XA at h1
  refine QF<|Q3<|Q0<|rM Z Z Z<|rR Z Z Z (Q2 JY Z)<|rR Z Z Z (Q6 JG Z Z Z) ?_
  refine Yt h1 (fun g54 h1=>?_)
  refine rR Z Z Z (Xh Z Z g54)<|rR Z Z Z (Q6 QG Z Z Z)<|rR Z Z Z (Q2 Jo Z)<|rR Z Z Z (Q2 YJ Z)<|rR Z Z Z (Q6 QG Z Z Z)<|rR Z Z Z (Q2 Jo Z)<|rR Z Z Z (Q2 Zq Z)<|rR Z Z Z (Qi QR Z Z Z Z)<|rR Z Z Z (Y1 Zs Z (.cons Z (.cons Z (.cons Z (.cons Z .nil)))) Z) ?_
  refine Qd h1 (fun y55 h2 h1=>?_)
  have ha56:ExecOK Try.prog (some 11) Kq ⟨[(0,.v (.one (.ptr 0 0))),(3,.v (.one (.ptr 2 0))),(4,.v (.one (.ptr 3 0))),(5,.v (.one (.ptr 7 0))),(72,.v (.one (.fn 49 [(9,0),(8,0)]))),(73,.v (.one (J6 (a0.name++([46,114,101,99]:List UInt8))))),(74,.v (.agg [dI 5,dI (a1.length:Int),dI 0,dI a0.rcr.params,dI a0.rcr.ty.kind,dI a0.rcr.ty.index,J6 a0.rcr.ty.name,dS a0.rcr.ty.levels,dS a0.rcr.ty.kids]))],m30f4_h18 a1 a2 a0 o47,[],14,95,[]⟩ .normal ⟨[(5,.v (.one (.ptr 7 0))),(8,.v (.one (J6 (a0.name++([46,114,101,99]:List UInt8))))),(9,.v (.one (.ptr 14 0)))],m30f4_h31 a1 a2 a0 o47,[],15,95,[]⟩:=by
   refine QZ (fun w0 M V0 ro n Q hv2 hro2 hQn2=>?_)
   refine Q4<|Q0<|rA Z Z Z<|Q5<|Q3<|Q0<|Qb Z Z (lb Z) (Qv Z7 Z)<|QC Z Z (Qz J8 Z Z Z Z (lb Z) Z)<|Q5 ?_
   exact JO hQn2 (QV (tA Z) (hA Z) kZ Z (Nat.le_trans hv2 (lb Z)) Z Z Z (bB Z Z (bG Z (bB Z Z (bB Z Z (bG Z (bA Z)))))) Z Z)
  have hb57:ExecOK Try.prog (some 11) Kp ⟨[(5,.v (.one (.ptr 7 0))),(8,.v (.one (J6 (a0.name++([46,114,101,99]:List UInt8))))),(9,.v (.one (.ptr 14 0)))],m30f4_h30 a1 a2 a0 o47,[],15,95,[]⟩ .normal ⟨[],m30f4_h33 a1 a2 a0 o47,[],15,95,[]⟩:=by
   refine QZ (fun w0 M V0 ro n Q hv2 hro2 hQn2=>?_)
   refine Ql<|Q0<|rR Z Z Z (Q6 YI Z Z Z)<|rM Z Z Z<|rR Z Z Z (Qi J8 Z Z Z Z)<|QC Z Z (Jw (M:=o47) (k:=(a0.name++([46,114,101,99]:List UInt8))) (v:=(⟨5,(a1.length:Int),0,a0.rcr.params,a0.rcr.ty⟩:Ent)) Z0 Z Z Z Z Z)<|Q5<|Qk ?_
   have e:=sI h2;subst e
   exact JO hQn2 (QV tZ (hA Z) kZ Z (Nat.le_trans hv2 (lb Z)) Z Z Z (bB Z Z (bG Z (bB Z Z (bB Z Z (bG Z (bA Z)))))) Z Z)
  refine Qb Z Z (lb Z) (Jm (jump:=none) Z Z Z Z Z (QK ha56 (fun E hv=>(QV (tA Z) (hA Z) kZ Z (Nat.le_trans hv (lb Z)) Z Z Z (bB Z Z (bG Z (bB Z Z (bB Z Z (bG Z (bA Z)))))) Z Z))) Z (QK hb57 (fun E hv=>(QV (tA Z) (hA Z) kZ Z (Nat.le_trans hv (lb Z)) Z Z Z (bB Z Z (bG Z (bB Z Z (bB Z Z (bG Z (bA Z)))))) Z Z))) Z Z) ?_
  refine Q5<|Qk ?_
  have e:=sI h1;subst e
  exact hQ1 _ _ _ (.inl Z) Z (QV tZ (hA Z) kZ Z (Nat.le_trans hv1 (lb Z)) Z Z Z (bB Z Z (bG Z (bB Z Z (bB Z Z (bG Z (bA Z)))))) Z Z)
  replace h1:=Qg c43 h1
  refine Q4<|Q0<|rR Z Z Z (Q8 Z Z Z)<|rA Z Z Z<|Q5<|Q3 ?_
  refine Qe (b:=(a0.kind==4)) Z (fun c58=>?_) (fun c58=>?_)
  replace h1:=Qf c58 h1
  refine Q4<|Q0<|rR Z Z Z (Q2 Jf Z)<|rR Z Z Z (Q6 JU Z Z Z)<|rR Z Z Z (Qx (α:=Fn) JA Z (.d _))<|rM Z Z Z<|Q5<|Q3<|Ql ?_
  refine QQ 3 (fun (o59:(Qo Bs Ent))=>⟨[],[(0,.cells 62 [dS a1,.mp 1]),(1,.mp (J2 a2.1) a2.2),(2,.cells 45 (cE a0)),(3,.cells 25 [dI 0]),(6,.mp (J2 o59.1) o59.2),(7,.cells 60 [.mp 6]),(8,.cells 45 (cE a0)),(9,.cells 3 [dI (a1.length:Int)]),(10,.obj (.deferred (some []))),(11,YF),(12,Ge a1 a0)],[],13,98,[]⟩) (fun (o59:(Qo Bs Ent))=>(some o59)=some y33) ?_ ?_
  refine Qd h1 (fun o60 hl2 h1=>?_)
  refine QP (GS a0 a1) (fun s2=>⟨[(0,.v (.one (.yld 11))),(1,.v (.one (.ptr 9 0))),(2,.v (.one (.ptr 8 0))),(78,.v (.one (dS a0.funs))),(79,.v (.one (dI (a0.funs.length:Int)))),(80,.v (.one (dI s2.1)))],[(0,.cells 62 [dS a1,.mp 1]),(1,.mp (J2 a2.1) a2.2),(2,.cells 45 (cE a0)),(3,.cells 25 [dI 0]),(6,.mp (J2 s2.2.1) s2.2.2),(7,.cells 60 [.mp 6]),(8,.cells 45 (cE a0)),(9,.cells 3 [dI (a1.length:Int)]),(10,.obj (.deferred (some []))),(11,YF),(12,Ge a1 a0)],[],13,98,[]⟩) (0,v19) o60 (QV (tA Z) (hA Z) kZ Z (Nat.le_trans hv1 (lb Z)) Z Z Z (bB Z Z (bG Z (bB Z Z (bB Z Z (bG Z (bA Z)))))) Z Z) hl2 (fun s2 n2 oo2 h2 ho2=>?_)
  unfold GS at h2
  refine Q4<|Q0<|rR Z Z Z (Q8 Z Z Z)<|Q5<|Q3<|Q4 ?_
  refine Qe (b:=(decide (s2.1 < (a0.funs.length:Int)))) Z (fun c61=>?_) (fun c61=>?_)
  replace h2:=Qf c61 h2
  refine Qj<|Q3<|Q4<|Ql<|Q4<|Q0<|rM Z Z Z ?_
  refine Qd h2 (fun x62 hx62 h2=>?_)
  refine rR Z Z Z (Qt (α:=Fn) JA Z (.d _) Z hx62)<|rR Z Z Z (Qu (x62:Fn) Z5 Z)<|Qb Z Z (lb Z) (Qv U9 Z)<|rA Z Z Z<|QC Z Z (QA (x62:Fn) Z5 Z Z Z Z Z)<|Q5<|Q3<|Q4<|Q0<|rM Z Z Z<|rR Z Z Z (Q2 Ki Z)<|rR Z Z Z (Q6 JG Z Z Z)<|rR Z Z Z (Q6 QG Z Z Z)<|rM Z Z Z ?_
  refine rR Z Z Z (Q2 Jz Z)<|rR Z Z Z (Q6 QG Z Z Z)<|rR Z Z Z (Q2 ZZ Z)<|rR Z Z Z (Qi QR Z Z Z Z)<|rR Z Z Z (Y1 Zs Z (.cons Z (.cons Z (.cons Z (.cons Z (.cons Z .nil))))) Z) ?_
  refine Qd h2 (fun y63 h3 h2=>?_)
  have ha64:ExecOK Try.prog (some 11) Kq ⟨[(0,.v (.one (.ptr 0 0))),(3,.v (.one (.ptr 2 0))),(4,.v (.one (.ptr 3 0))),(5,.v (.one (.ptr 7 0))),(72,.v (.one (.fn 49 [(9,0),(8,0)]))),(73,.v (.one (J6 x62.name))),(74,.v (.agg [dI 6,dI (a1.length:Int),dI s2.1,dI a0.params,dI x62.ty.kind,dI x62.ty.index,J6 x62.ty.name,dS x62.ty.levels,dS x62.ty.kids]))],m30f4_h34 a1 a2 a0 s2 x62,[],14,95,[]⟩ .normal ⟨[(5,.v (.one (.ptr 7 0))),(8,.v (.one (J6 x62.name))),(9,.v (.one (.ptr 14 0)))],m30f4_h37 a1 a2 a0 s2 x62,[],15,95,[]⟩:=by
   refine QZ (fun w0 M V0 ro n Q hv3 hro3 hQn3=>?_)
   refine Q4<|Q0<|rA Z Z Z<|Q5<|Q3<|Q0<|Qb Z Z (lb Z) (Qv Z7 Z)<|QC Z Z (Qz J8 Z Z Z Z (lb Z) Z)<|Q5 ?_
   exact JO hQn3 (QV (tA Z) (hA Z) kZ Z (Nat.le_trans hv3 (lb Z)) Z Z Z (bB Z Z (bG Z (bB Z Z (bB Z Z (bG Z (bA Z)))))) Z Z)
  have hb65:ExecOK Try.prog (some 11) Kp ⟨[(5,.v (.one (.ptr 7 0))),(8,.v (.one (J6 x62.name))),(9,.v (.one (.ptr 14 0)))],m30f4_h36 a1 a2 a0 s2 x62,[],15,95,[]⟩ .normal ⟨[],m30f4_h39 a1 a2 a0 s2 x62,[],15,95,[]⟩:=by
   refine QZ (fun w0 M V0 ro n Q hv3 hro3 hQn3=>?_)
   refine Ql<|Q0<|rR Z Z Z (Q6 YI Z Z Z)<|rM Z Z Z<|rR Z Z Z (Qi J8 Z Z Z Z)<|QC Z Z (Jw (M:=s2.2) (k:=x62.name) (v:=(⟨6,(a1.length:Int),s2.1,a0.params,x62.ty⟩:Ent)) Z0 Z Z Z Z Z)<|Q5<|Qk ?_
   have e:=sI h3;subst e
   exact JO hQn3 (QV tZ (hA Z) kZ Z (Nat.le_trans hv3 (lb Z)) Z Z Z (bB Z Z (bG Z (bB Z Z (bB Z Z (bG Z (bA Z)))))) Z Z)
  refine Qb Z Z (lb Z) (Jm (jump:=none) Z Z Z Z Z (QK ha64 (fun E hv=>(QV (tA Z) (hA Z) kZ Z (Nat.le_trans hv (lb Z)) Z Z Z (bB Z Z (bG Z (bB Z Z (bB Z Z (bG Z (bA Z)))))) Z Z))) Z (QK hb65 (fun E hv=>(QV (tA Z) (hA Z) kZ Z (Nat.le_trans hv (lb Z)) Z Z Z (bB Z Z (bG Z (bB Z Z (bB Z Z (bG Z (bA Z)))))) Z Z))) Z Z) ?_
  refine rR Z Z Z (Jc Z)<|Q5<|Q3 ?_
  refine Qe Z (fun h=>nomatch h) (fun _=>?_)
  refine Qj<|Qk<|Q3<|Q0<|rR Z Z Z (Q8 Z Z Z)<|rM Z Z Z<|Q5 ?_
  have e:=sI h2;subst e
  refine QJ ((Ja (s2.1+1)),(Jb s2.2 x62.name (⟨6,(a1.length:Int),s2.1,a0.params,x62.ty⟩:Ent))) (QV (tA Z) (hA Z) kZ Z (Nat.le_trans hv1 (lb Z)) Z Z Z (bB Z Z (bG Z (bB Z Z (bB Z Z (bG Z (bA Z)))))) Z Z) ho2
  replace h2:=Qg c61 h2
  refine QW<|Qr<|Qr ?_
  have e:=sI h2;subst e
  have e_:_=_:=ho2
  subst e_
  exact QO s2.2 (QV tZ (hA Z) kZ Z (Nat.le_trans hv1 (lb Z)) Z Z Z (bB Z Z (bG Z (bB Z Z (bB Z Z (bG Z (bA Z)))))) Z Z) h1
  intro o59 h1
  refine QF<|Qk ?_
  have e:=sI h1;subst e
  exact hQ1 _ _ _ (.inl Z) Z (QV tZ (hA Z) kZ Z (Nat.le_trans hv1 (lb Z)) Z Z Z (bB Z Z (bG Z (bB Z Z (bB Z Z (bG Z (bA Z)))))) Z Z)
  replace h1:=Qg c58 h1
  refine Qj<|Qk ?_
  have e:=sI h1;subst e
  exact hQ1 _ _ _ (.inl Z) Z (QV tZ (hA Z) kZ Z (Nat.le_trans hv1 (lb Z)) Z Z Z (bB Z Z (bG Z (bB Z Z (bB Z Z (bG Z (bA Z)))))) Z Z)
 refine KN (YA (e:=.normal) rfl hc34 rfl rfl (by intro h;cases h) rfl) rfl ?_
 refine Qk<|Q3<|Q4<|Q4<|Q0<|rR Z Z Z (Q2 Jf Z)<|rR Z Z Z (Q6 JU Z Z Z)<|rR Z Z Z (Qx (α:=Fn) JA Z (.d _))<|rM Z Z Z<|Q5<|Q3<|Ql ?_
 refine QQ 4 (fun (o66:Unit)=>⟨[(4,.v (.one (.ptr 3 0)))],GU a1 a2 a0 y33,[],13,95,[3,43,90]⟩) (fun (o66:Unit)=>(some 0)=some r) ?_ ?_
 refine Qd h0 (fun o67 hl1 h0=>?_)
 refine QP (Gb a0 a1 a2 y33) (fun s1=>⟨[(0,.v (.one (.ptr 0 0))),(3,.v (.one (.ptr 2 0))),(4,.v (.one (.ptr 3 0))),(5,.v (.one (.ptr 7 0))),(79,.v (.one (dS a0.funs))),(80,.v (.one (dI (a0.funs.length:Int)))),(81,.v (.one (dI s1)))],GU a1 a2 a0 y33,[],13,95,[3,43,90]⟩) 0 o67 (QV (tA Z) (hA Z) kZ Z (Nat.le_trans hv0 (lb Z)) Z Z Z (bB Z Z (bG Z (bB Z Z (bB Z Z (bG Z (bA Z)))))) Z Z) hl1 (fun s1 n1 oo1 h1 ho1=>?_)
 unfold Gb at h1
 refine Q4<|Q0<|rR Z Z Z (Q8 Z Z Z)<|Q5<|Q3<|Q4 ?_
 refine Qe (b:=(decide (s1 < (a0.funs.length:Int)))) Z (fun c68=>?_) (fun c68=>?_)
 replace h1:=Qf c68 h1
 refine Qj<|Q3<|Q4<|Ql<|Q4<|Q0 ?_
 refine Qd h1 (fun x69 hx69 h1=>?_)
 refine rR Z Z Z (Qt (α:=Fn) JA Z (.d _) Z hx69)<|rR Z Z Z (Qu (x69:Fn) Z5 Z)<|Qb Z Z (lb Z) (Qv U9 Z)<|QC Z Z (QA (x69:Fn) Z5 Z Z Z Z Z)<|Q5<|Q3<|Q0<|rM Z Z Z<|rR Z Z Z (Q2 XX Z)<|rR Z Z Z (Qi Gy Z Z Z Z)<|rR Z Z Z (Q2 KK Z)<|rR Z Z Z (Q6 QG Z Z Z)<|rR Z Z Z (Q2 Jz Z)<|rR Z Z Z (Q6 QG Z Z Z) ?_
 refine rR Z Z Z (Q6 YI Z Z Z) ?_
 refine Qd h1 (fun x70 hx70 h1=>?_)
 refine Y7 id hx70 h1 (fun x71 hx71 h1=>?_) (fun x72 hx72 h1=>?_)
 refine Qb Z Z (lb Z) (JC (hp1':=[(0,.cells 62 [dS a1,.mp 1]),(1,.mp (J2 a2.1) a2.2),(6,.mp (J2 y33.1) y33.2)]) (tk1':=[]) (hpF:=m30f4_h40 a0 a1 x69) (tkF:=[]) (res2:=QM []) (nx2:=15) [0,1,6] Z Z (CallE.m (m48f11_ok x69.tree x69.arity 0 a0.params a1 a2 y33 (.inl x71) hx71)) Z Z (qB Z Z (qG Z (qG Z qZ))) Z Z (gR Z (gG Z (gG Z gZ))) jZ (hA Z) kZ Z Z Z Z Z (bB Z Z (bG Z (bG Z bZ))) Z Z Z Z)<|Q5<|Qk<|Q3<|Q0<|rR Z Z Z (Q8 Z Z Z)<|rM Z Z Z<|Q5 ?_
 have e:=sI h1;subst e
 refine QJ (Ja (s1+1)) (QV (tA Z) (hA Z) kZ Z (Nat.le_trans hv0 (lb Z)) Z Z Z (bB Z Z (bG Z (bB Z Z (bB Z Z (bG Z (bA Z)))))) Z Z) ho1
 refine Jg Z (YD (hp1':=[(0,.cells 62 [dS a1,.mp 1]),(1,.mp (J2 a2.1) a2.2),(6,.mp (J2 y33.1) y33.2)]) (tk1':=[]) (hpF:=m30f4_h40 a0 a1 x69) (tkF:=[]) (nx2:=15) [0,1,6] Z Z (CallE.d (m48f11_ok x69.tree x69.arity 0 a0.params a1 a2 y33 (.inr x72) hx72)) Z Z (qB Z Z (qG Z (qG Z qZ))) Z (gR Z (gG Z (gG Z gZ))) jZ (hA Z) kZ Z Z Z Z Z (bB Z Z (bG Z (bG Z bZ))) Z Z Z Z) ?_
 have e:=sI h1;subst e
 have e_:_=_:=ho1
 subst e_
 try dsimp only [Sum.elim_inl,Sum.elim_inr] at h0
 have e:=sI h0;subst e
 exact Ju (hQ0 (.panic (JE (QT 90 x72))) _ Z (UC _ _ _ Z (QV (tA Z) (hA Z) kZ Z (Nat.le_trans hv0 (lb Z)) Z Z Z (bB Z Z (bG Z (bA Z))) Z Z))) (fun _ _ h=>h)
 replace h1:=Qg c68 h1
 refine QW<|Qr<|Qr ?_
 have e:=sI h1;subst e
 have e_:_=_:=ho1
 subst e_
 exact QO () (QV (tA Z) (hA Z) kZ Z (Nat.le_trans hv0 (lb Z)) Z Z Z (bB Z Z (bG Z (bB Z Z (bB Z Z (bG Z (bA Z)))))) Z Z) h0
 intro o66 h0
 refine QF<|Q3<|Q4<|Q0<|QC Z Z (Qz K9 Z Z Z Z (lb Z) Z)<|Q5<|Q3<|Qp ?_
 have e:=sI h0;subst e
 exact hQ0 _ _ Z (cendN (.inr Z) (QV (tA Z) (hA Z) kZ Z (Nat.le_trans hv0 (lb Z)) Z Z Z (bB Z Z (bG Z (bA Z))) Z Z))
 refine Jg Z (YD (hp1':=[(0,.cells 62 [dS a1,.mp 1]),(1,.mp (J2 a2.1) a2.2)]) (tk1':=[]) (hpF:=[(2,.cells 45 (cE a0)),(3,.cells 25 [dI 0])]) (tkF:=[]) (nx2:=6) [0,1] Z Z (CallE.d (m45f7_ok a0 a1 a2 (.inr x6) hx6)) Z Z (qB Z Z (qG Z qZ)) Z (gR Z (gG Z gZ)) jZ (hA Z) kZ Z Z Z Z Z (bB Z Z (bG Z bZ)) Z Z Z Z) ?_
 have e:=sI h0;subst e
 exact Ju (hQ0 (.panic (JE (QT 90 x6))) _ Z (UC _ _ _ Z (QV (tA Z) (hA Z) kZ Z (Nat.le_trans hv0 (lb Z)) Z Z Z (bB Z Z (bG Z (bA Z))) Z Z))) (fun _ _ h=>h)
 refine Jg Z (QS Z Z Z (CallE.d (m44f5_ok a0 (.inr x3) hx3))) ?_
 have e:=sI h0;subst e
 exact Ju (hQ0 (.panic (JE (QT 90 x3))) _ Z (UC _ _ _ Z (QV (tA Z) (hA Z) kZ Z (Nat.le_trans hv0 (lb Z)) Z Z Z (bB Z Z (bG Z (bA Z))) Z Z))) (fun _ _ h=>h)
noncomputable def m11_l0 (x4:Dcl) (s1:Int×(Qo Bs Ent)×(List Dcl)) (s3:Int×(Qo Bs Ent)):Option (LO (Int×(Qo Bs Ent)) (((Qo Bs Ent)))) :=
 cond (decide (s3.1 < (x4.ctors.length:Int)))
   (Option.bind (JP x4.ctors s3.1) fun (x24:Ctr) =>
 Option.bind (some ()) (fun (y25:Unit)=>some (.next ((Ja (s3.1+1)),(Jb s3.2 x24.name (⟨4,s1.1,s3.1,x4.params,x24.ty⟩:Ent))))))
   (some (.done s3.2))
noncomputable def m11_l1 (x4:Dcl) (s1:Int×(Qo Bs Ent)×(List Dcl)) (s3:Int×(Qo Bs Ent)):Option (LO (Int×(Qo Bs Ent)) (((Qo Bs Ent)))) :=
 cond (decide (s3.1 < (x4.funs.length:Int)))
   (Option.bind (JP x4.funs s3.1) fun (x36:Fn) =>
 Option.bind (some ()) (fun (y37:Unit)=>some (.next ((Ja (s3.1+1)),(Jb s3.2 x36.name (⟨6,s1.1,s3.1,x4.params,x36.ty⟩:Ent))))))
   (some (.done s3.2))
noncomputable def Uv (p0_:Bool) (p1_:Dcl) (p2_:Int×(Qo Bs Ent)×(List Dcl)):Option (((Qo Bs Ent))) :=
 cond p0_
   (Option.bind (JP ([0,1,2]) p1_.kind) fun (b0_:Int) =>
 Option.bind (some ()) (fun (b1_:Unit)=>some (Jb p2_.2.1 p1_.name (⟨b0_,p2_.1,0,p1_.params,p1_.ty⟩:Ent))))
   (cond (p1_.kind==3)
   (Option.bind (some ()) (fun (b2_:Unit)=>Option.bind (QE (m11_l0 p1_ p2_) QU (0,(Jb p2_.2.1 p1_.name (⟨3,p2_.1,0,p1_.params,p1_.ty⟩:Ent)))) (fun (b3_:(Qo Bs Ent))=>Jy (Nat.ble (p1_.name.length+([46,114,101,99]:List UInt8).length) 1000000000)
 (Option.bind (some ()) (fun (b4_:Unit)=>some (Jb b3_ (p1_.name++([46,114,101,99]:List UInt8)) (⟨5,p2_.1,0,p1_.rcr.params,p1_.rcr.ty⟩:Ent)))))))
   (cond (p1_.kind==4)
   (Option.bind (QE (m11_l1 p1_ p2_) QU (0,p2_.2.1)) (fun (b5_:(Qo Bs Ent))=>some b5_))
   (some p2_.2.1)))
noncomputable def Wu (a0:List Dcl) (s1:Int×(Qo Bs Ent)×(List Dcl)):Option (LO (Int×(Qo Bs Ent)×(List Dcl)) (((Qo Bs Ent)×(List Dcl))⊕(Int×Int))) :=
 cond (decide (s1.1 < (a0.length:Int)))
   (Option.bind (JP a0 s1.1) fun (x4:Dcl) =>
 Jy (cond (decide (0≤s1.1)) (Nat.ble s1.1.toNat a0.length) false)
 (Option.bind (WF x4 (a0.take s1.1.toNat) s1.2.1) fun (x6:Int) =>
 cond (x6 != 0)
   (some (.done (.inr (s1.1,x6))))
   (Option.bind (some ()) (fun (y8:Unit)=>Option.bind (Option.bind (cond (x4.kind==0)
   (some (x4.kind==0))
   (cond (x4.kind==1)
   (some (x4.kind==1))
   (some (x4.kind==2)))) (fun (v12:Bool)=>Uv v12 x4 s1)) (fun (y10:(Qo Bs Ent))=>some (.next ((Ja (s1.1+1)),y10,(a0.take s1.1.toNat))))))))
   (some (.done (.inl (s1.2.1,s1.2.2))))
noncomputable abbrev m11_h0 (p0_:Int×(Qo Bs Ent)×(List Dcl)) (p1_:List Dcl) (p2_:Dcl):List (Nat×HB) :=
 [(0,.mp (J2 p0_.2.1.1) p0_.2.1.2),(1,.cells 62 [dS ((p1_.take p0_.1.toNat):List Dcl),.mp 0]),(2,.cells 59 [.ptr 1 0]),(3,.cells 45 (cE p2_))]
noncomputable abbrev m11_h1 (p0_:Int×(Qo Bs Ent)×(List Dcl)) (p1_:List Dcl) (p2_:Dcl) (p3_:Int):List (Nat×HB) :=
 [(0,.mp (J2 p0_.2.1.1) p0_.2.1.2),(1,.cells 62 [dS ((p1_.take p0_.1.toNat):List Dcl),.mp 0]),(2,.cells 59 [.ptr 1 0]),(3,.cells 45 (cE p2_)),(5,.cells 25 [dI p3_])]
noncomputable abbrev m11_h2 (p0_:Int×(Qo Bs Ent)×(List Dcl)) (p1_:List Dcl) (p2_:Dcl) (p3_:Int):List (Nat×HB) :=
 [(0,.mp (J2 p0_.2.1.1) p0_.2.1.2),(1,.cells 62 [dS ((p1_.take p0_.1.toNat):List Dcl),.mp 0]),(2,.cells 59 [.ptr 1 0]),(3,.cells 45 (cE p2_)),(5,.cells 25 [dI p3_]),(6,.cells 45 (cE p2_)),(7,.cells 3 [dI p0_.1])]
noncomputable abbrev Zu (p0_:List Dcl) (p1_:Int×(Qo Bs Ent)×(List Dcl)):HB :=
 .loop .ready none [(0,.v (.one (dS p0_))),(4,.v (.one (.ptr 2 0))),(16,.v (.one (dS p0_))),(17,.v (.one (dI (p0_.length:Int)))),(18,.v (.one (dI p1_.1))),(38,.v (.one (.fn 49 [(7,0),(6,0)])))] 48 #[39,40] XK XJ 8
noncomputable abbrev m11_h4 (p0_:(Qo Bs Ent)) (p1_:List Dcl) (p2_:Int×(Qo Bs Ent)×(List Dcl)) (p3_:Dcl) (p4_:Int):List (Nat×HB) :=
 [(0,.mp (J2 p0_.1) p0_.2),(1,.cells 62 [dS ((p1_.take p2_.1.toNat):List Dcl),.mp 0]),(2,.cells 59 [.ptr 1 0]),(3,.cells 45 (cE p3_)),(5,.cells 25 [dI p4_]),(6,.cells 45 (cE p3_)),(7,.cells 3 [dI p2_.1]),(8,.obj (.deferred (some []))),(9,Zu p1_ p2_)]
noncomputable abbrev XI (p0_:Int×(Qo Bs Ent)×(List Dcl)) (p1_:Dcl):HB :=
 .cells 35 [dI 0,dI p0_.1,dI 0,dI p1_.params,dI p1_.ty.kind,dI p1_.ty.index,J6 p1_.ty.name,dS p1_.ty.levels,dS p1_.ty.kids]
noncomputable abbrev m11_h6 (p0_:Int×(Qo Bs Ent)×(List Dcl)) (p1_:List Dcl) (p2_:Dcl) (p3_:Int):List (Nat×HB) :=
 [(0,.mp (J2 p0_.2.1.1) p0_.2.1.2),(1,.cells 62 [dS ((p1_.take p0_.1.toNat):List Dcl),.mp 0]),(2,.cells 59 [.ptr 1 0]),(3,.cells 45 (cE p2_)),(5,.cells 25 [dI p3_]),(6,.cells 45 (cE p2_)),(7,.cells 3 [dI p0_.1]),(8,.obj (.deferred (some []))),(9,Zu p1_ p0_),(10,XI p0_ p2_)]
noncomputable abbrev XH (p0_:Int) (p1_:Int×(Qo Bs Ent)×(List Dcl)) (p2_:Dcl):HB :=
 .cells 35 [dI p0_,dI p1_.1,dI 0,dI p2_.params,dI p2_.ty.kind,dI p2_.ty.index,J6 p2_.ty.name,dS p2_.ty.levels,dS p2_.ty.kids]
noncomputable abbrev m11_h8 (p0_:Int×(Qo Bs Ent)×(List Dcl)) (p1_:List Dcl) (p2_:Dcl) (p3_:Int) (p4_:Int):List (Nat×HB) :=
 [(0,.mp (J2 p0_.2.1.1) p0_.2.1.2),(1,.cells 62 [dS ((p1_.take p0_.1.toNat):List Dcl),.mp 0]),(2,.cells 59 [.ptr 1 0]),(3,.cells 45 (cE p2_)),(5,.cells 25 [dI p3_]),(6,.cells 45 (cE p2_)),(7,.cells 3 [dI p0_.1]),(8,.obj (.deferred (some []))),(9,Zu p1_ p0_),(10,XH p4_ p0_ p2_)]
noncomputable abbrev ZD (p0_:List Dcl) (p1_:Int×(Qo Bs Ent)×(List Dcl)):HB :=
 .loop .busy none [(0,.v (.one (dS p0_))),(4,.v (.one (.ptr 2 0))),(16,.v (.one (dS p0_))),(17,.v (.one (dI (p0_.length:Int)))),(18,.v (.one (dI p1_.1))),(38,.v (.one (.fn 49 [(7,0),(6,0)])))] 48 #[39,40] XK XJ 8
noncomputable abbrev m11_h10 (p0_:Int×(Qo Bs Ent)×(List Dcl)) (p1_:List Dcl) (p2_:Dcl) (p3_:Int) (p4_:Int):List (Nat×HB) :=
 [(0,.mp (J2 p0_.2.1.1) p0_.2.1.2),(1,.cells 62 [dS ((p1_.take p0_.1.toNat):List Dcl),.mp 0]),(2,.cells 59 [.ptr 1 0]),(3,.cells 45 (cE p2_)),(5,.cells 25 [dI p3_]),(6,.cells 45 (cE p2_)),(7,.cells 3 [dI p0_.1]),(8,.obj (.deferred (some []))),(9,ZD p1_ p0_),(10,XH p4_ p0_ p2_),(12,XH p4_ p0_ p2_)]
noncomputable abbrev m11_h11 (p0_:Int×(Qo Bs Ent)×(List Dcl)) (p1_:List Dcl) (p2_:Dcl) (p3_:Int) (p4_:Int):List (Nat×HB) :=
 [(0,.mp (J2 p0_.2.1.1) p0_.2.1.2),(1,.cells 62 [dS ((p1_.take p0_.1.toNat):List Dcl),.mp 0]),(2,.cells 59 [.ptr 1 0]),(3,.cells 45 (cE p2_)),(5,.cells 25 [dI p3_]),(6,.cells 45 (cE p2_)),(7,.cells 3 [dI p0_.1]),(8,.obj (.deferred (some []))),(9,Zu p1_ p0_),(10,XH p4_ p0_ p2_),(12,XH p4_ p0_ p2_)]
noncomputable abbrev m11_h12 (p0_:Int×(Qo Bs Ent)×(List Dcl)) (p1_:Dcl) (p2_:Int):HB :=
 .mp (J2 ((Jb p0_.2.1 p1_.name (⟨p2_,p0_.1,0,p1_.params,p1_.ty⟩:Ent)):Qo Bs Ent).1) ((Jb p0_.2.1 p1_.name (⟨p2_,p0_.1,0,p1_.params,p1_.ty⟩:Ent)):Qo Bs Ent).2
noncomputable abbrev m11_h13 (p0_:Int×(Qo Bs Ent)×(List Dcl)) (p1_:Dcl) (p2_:Int) (p3_:List Dcl) (p4_:Int):List (Nat×HB) :=
 [(0,m11_h12 p0_ p1_ p2_),(1,.cells 62 [dS ((p3_.take p0_.1.toNat):List Dcl),.mp 0]),(2,.cells 59 [.ptr 1 0]),(3,.cells 45 (cE p1_)),(5,.cells 25 [dI p4_]),(6,.cells 45 (cE p1_)),(7,.cells 3 [dI p0_.1]),(8,.obj (.deferred (some []))),(9,ZD p3_ p0_),(10,XH p2_ p0_ p1_)]
noncomputable abbrev m11_h14 (p0_:Int×(Qo Bs Ent)×(List Dcl)) (p1_:Dcl) (p2_:Int) (p3_:List Dcl) (p4_:Int):List (Nat×HB) :=
 [(0,m11_h12 p0_ p1_ p2_),(1,.cells 62 [dS ((p3_.take p0_.1.toNat):List Dcl),.mp 0]),(2,.cells 59 [.ptr 1 0]),(3,.cells 45 (cE p1_)),(5,.cells 25 [dI p4_]),(6,.cells 45 (cE p1_)),(7,.cells 3 [dI p0_.1]),(8,.obj (.deferred (some []))),(9,ZD p3_ p0_),(10,XH p2_ p0_ p1_),(12,XH p2_ p0_ p1_)]
noncomputable abbrev Yr (p0_:Int×(Qo Bs Ent)×(List Dcl)) (p1_:Dcl):HB :=
 .cells 35 [dI 3,dI p0_.1,dI 0,dI p1_.params,dI p1_.ty.kind,dI p1_.ty.index,J6 p1_.ty.name,dS p1_.ty.levels,dS p1_.ty.kids]
noncomputable abbrev m11_h16 (p0_:Int×(Qo Bs Ent)×(List Dcl)) (p1_:List Dcl) (p2_:Dcl) (p3_:Int):List (Nat×HB) :=
 [(0,.mp (J2 p0_.2.1.1) p0_.2.1.2),(1,.cells 62 [dS ((p1_.take p0_.1.toNat):List Dcl),.mp 0]),(2,.cells 59 [.ptr 1 0]),(3,.cells 45 (cE p2_)),(5,.cells 25 [dI p3_]),(6,.cells 45 (cE p2_)),(7,.cells 3 [dI p0_.1]),(8,.obj (.deferred (some []))),(9,Zu p1_ p0_),(10,Yr p0_ p2_)]
noncomputable abbrev m11_h17 (p0_:Int×(Qo Bs Ent)×(List Dcl)) (p1_:List Dcl) (p2_:Dcl) (p3_:Int):List (Nat×HB) :=
 [(0,.mp (J2 p0_.2.1.1) p0_.2.1.2),(1,.cells 62 [dS ((p1_.take p0_.1.toNat):List Dcl),.mp 0]),(2,.cells 59 [.ptr 1 0]),(3,.cells 45 (cE p2_)),(5,.cells 25 [dI p3_]),(6,.cells 45 (cE p2_)),(7,.cells 3 [dI p0_.1]),(8,.obj (.deferred (some []))),(9,ZD p1_ p0_),(10,Yr p0_ p2_),(11,Yr p0_ p2_)]
noncomputable abbrev m11_h18 (p0_:Int×(Qo Bs Ent)×(List Dcl)) (p1_:List Dcl) (p2_:Dcl) (p3_:Int):List (Nat×HB) :=
 [(0,.mp (J2 p0_.2.1.1) p0_.2.1.2),(1,.cells 62 [dS ((p1_.take p0_.1.toNat):List Dcl),.mp 0]),(2,.cells 59 [.ptr 1 0]),(3,.cells 45 (cE p2_)),(5,.cells 25 [dI p3_]),(6,.cells 45 (cE p2_)),(7,.cells 3 [dI p0_.1]),(8,.obj (.deferred (some []))),(9,Zu p1_ p0_),(10,Yr p0_ p2_),(11,Yr p0_ p2_)]
noncomputable abbrev m11_h19 (p0_:Int×(Qo Bs Ent)×(List Dcl)) (p1_:Dcl):HB :=
 .mp (J2 ((Jb p0_.2.1 p1_.name (⟨3,p0_.1,0,p1_.params,p1_.ty⟩:Ent)):Qo Bs Ent).1) ((Jb p0_.2.1 p1_.name (⟨3,p0_.1,0,p1_.params,p1_.ty⟩:Ent)):Qo Bs Ent).2
noncomputable abbrev m11_h20 (p0_:Int×(Qo Bs Ent)×(List Dcl)) (p1_:Dcl) (p2_:List Dcl) (p3_:Int):List (Nat×HB) :=
 [(0,m11_h19 p0_ p1_),(1,.cells 62 [dS ((p2_.take p0_.1.toNat):List Dcl),.mp 0]),(2,.cells 59 [.ptr 1 0]),(3,.cells 45 (cE p1_)),(5,.cells 25 [dI p3_]),(6,.cells 45 (cE p1_)),(7,.cells 3 [dI p0_.1]),(8,.obj (.deferred (some []))),(9,ZD p2_ p0_),(10,Yr p0_ p1_)]
noncomputable abbrev m11_h21 (p0_:Int×(Qo Bs Ent)×(List Dcl)) (p1_:Dcl) (p2_:List Dcl) (p3_:Int):List (Nat×HB) :=
 [(0,m11_h19 p0_ p1_),(1,.cells 62 [dS ((p2_.take p0_.1.toNat):List Dcl),.mp 0]),(2,.cells 59 [.ptr 1 0]),(3,.cells 45 (cE p1_)),(5,.cells 25 [dI p3_]),(6,.cells 45 (cE p1_)),(7,.cells 3 [dI p0_.1]),(8,.obj (.deferred (some []))),(9,ZD p2_ p0_),(10,Yr p0_ p1_),(11,Yr p0_ p1_)]
noncomputable abbrev m11_h22 (p0_:Int×(Qo Bs Ent)) (p1_:List Dcl) (p2_:Int×(Qo Bs Ent)×(List Dcl)) (p3_:Dcl) (p4_:Int) (p5_:Ctr):List (Nat×HB) :=
 [(0,.mp (J2 p0_.2.1) p0_.2.2),(1,.cells 62 [dS ((p1_.take p2_.1.toNat):List Dcl),.mp 0]),(2,.cells 59 [.ptr 1 0]),(3,.cells 45 (cE p3_)),(5,.cells 25 [dI p4_]),(6,.cells 45 (cE p3_)),(7,.cells 3 [dI p2_.1]),(8,.obj (.deferred (some []))),(9,Zu p1_ p2_),(10,Yr p2_ p3_),(12,.cells 71 (cE p5_))]
noncomputable abbrev m11_h23 (p0_:Int×(Qo Bs Ent)×(List Dcl)) (p1_:Int×(Qo Bs Ent)) (p2_:Dcl) (p3_:Ctr):HB :=
 .cells 35 [dI 4,dI p0_.1,dI p1_.1,dI p2_.params,dI p3_.ty.kind,dI p3_.ty.index,J6 p3_.ty.name,dS p3_.ty.levels,dS p3_.ty.kids]
noncomputable abbrev m11_h24 (p0_:Int×(Qo Bs Ent)) (p1_:List Dcl) (p2_:Int×(Qo Bs Ent)×(List Dcl)) (p3_:Dcl) (p4_:Int) (p5_:Ctr):List (Nat×HB) :=
 [(0,.mp (J2 p0_.2.1) p0_.2.2),(1,.cells 62 [dS ((p1_.take p2_.1.toNat):List Dcl),.mp 0]),(2,.cells 59 [.ptr 1 0]),(3,.cells 45 (cE p3_)),(5,.cells 25 [dI p4_]),(6,.cells 45 (cE p3_)),(7,.cells 3 [dI p2_.1]),(8,.obj (.deferred (some []))),(9,ZD p1_ p2_),(10,Yr p2_ p3_),(12,.cells 71 (cE p5_)),(13,m11_h23 p2_ p0_ p3_ p5_)]
noncomputable abbrev m11_h25 (p0_:Int×(Qo Bs Ent)) (p1_:List Dcl) (p2_:Int×(Qo Bs Ent)×(List Dcl)) (p3_:Dcl) (p4_:Int) (p5_:Ctr):List (Nat×HB) :=
 [(0,.mp (J2 p0_.2.1) p0_.2.2),(1,.cells 62 [dS ((p1_.take p2_.1.toNat):List Dcl),.mp 0]),(2,.cells 59 [.ptr 1 0]),(3,.cells 45 (cE p3_)),(5,.cells 25 [dI p4_]),(6,.cells 45 (cE p3_)),(7,.cells 3 [dI p2_.1]),(8,.obj (.deferred (some []))),(9,Zu p1_ p2_),(10,Yr p2_ p3_),(12,.cells 71 (cE p5_)),(13,m11_h23 p2_ p0_ p3_ p5_)]
noncomputable abbrev m11_h26 (p0_:Int×(Qo Bs Ent)) (p1_:Ctr) (p2_:Int×(Qo Bs Ent)×(List Dcl)) (p3_:Dcl):HB :=
 .mp (J2 ((Jb p0_.2 p1_.name (⟨4,p2_.1,p0_.1,p3_.params,p1_.ty⟩:Ent)):Qo Bs Ent).1) ((Jb p0_.2 p1_.name (⟨4,p2_.1,p0_.1,p3_.params,p1_.ty⟩:Ent)):Qo Bs Ent).2
noncomputable abbrev m11_h27 (p0_:Int×(Qo Bs Ent)) (p1_:Ctr) (p2_:Int×(Qo Bs Ent)×(List Dcl)) (p3_:Dcl) (p4_:List Dcl) (p5_:Int):List (Nat×HB) :=
 [(0,m11_h26 p0_ p1_ p2_ p3_),(1,.cells 62 [dS ((p4_.take p2_.1.toNat):List Dcl),.mp 0]),(2,.cells 59 [.ptr 1 0]),(3,.cells 45 (cE p3_)),(5,.cells 25 [dI p5_]),(6,.cells 45 (cE p3_)),(7,.cells 3 [dI p2_.1]),(8,.obj (.deferred (some []))),(9,ZD p4_ p2_),(10,Yr p2_ p3_),(12,.cells 71 (cE p1_))]
noncomputable abbrev m11_h28 (p0_:Int×(Qo Bs Ent)) (p1_:Ctr) (p2_:Int×(Qo Bs Ent)×(List Dcl)) (p3_:Dcl) (p4_:List Dcl) (p5_:Int):List (Nat×HB) :=
 [(0,m11_h26 p0_ p1_ p2_ p3_),(1,.cells 62 [dS ((p4_.take p2_.1.toNat):List Dcl),.mp 0]),(2,.cells 59 [.ptr 1 0]),(3,.cells 45 (cE p3_)),(5,.cells 25 [dI p5_]),(6,.cells 45 (cE p3_)),(7,.cells 3 [dI p2_.1]),(8,.obj (.deferred (some []))),(9,ZD p4_ p2_),(10,Yr p2_ p3_),(12,.cells 71 (cE p1_)),(13,m11_h23 p2_ p0_ p3_ p1_)]
noncomputable abbrev m11_h29 (p0_:(Qo Bs Ent)) (p1_:List Dcl) (p2_:Int×(Qo Bs Ent)×(List Dcl)) (p3_:Dcl) (p4_:Int):List (Nat×HB) :=
 [(0,.mp (J2 p0_.1) p0_.2),(1,.cells 62 [dS ((p1_.take p2_.1.toNat):List Dcl),.mp 0]),(2,.cells 59 [.ptr 1 0]),(3,.cells 45 (cE p3_)),(5,.cells 25 [dI p4_]),(6,.cells 45 (cE p3_)),(7,.cells 3 [dI p2_.1]),(8,.obj (.deferred (some []))),(9,Zu p1_ p2_),(10,Yr p2_ p3_)]
noncomputable abbrev m11_h30 (p0_:Int×(Qo Bs Ent)×(List Dcl)) (p1_:Dcl):HB :=
 .cells 35 [dI 5,dI p0_.1,dI 0,dI p1_.rcr.params,dI p1_.rcr.ty.kind,dI p1_.rcr.ty.index,J6 p1_.rcr.ty.name,dS p1_.rcr.ty.levels,dS p1_.rcr.ty.kids]
noncomputable abbrev m11_h31 (p0_:(Qo Bs Ent)) (p1_:List Dcl) (p2_:Int×(Qo Bs Ent)×(List Dcl)) (p3_:Dcl) (p4_:Int):List (Nat×HB) :=
 [(0,.mp (J2 p0_.1) p0_.2),(1,.cells 62 [dS ((p1_.take p2_.1.toNat):List Dcl),.mp 0]),(2,.cells 59 [.ptr 1 0]),(3,.cells 45 (cE p3_)),(5,.cells 25 [dI p4_]),(6,.cells 45 (cE p3_)),(7,.cells 3 [dI p2_.1]),(8,.obj (.deferred (some []))),(9,ZD p1_ p2_),(10,Yr p2_ p3_),(12,m11_h30 p2_ p3_)]
noncomputable abbrev m11_h32 (p0_:(Qo Bs Ent)) (p1_:List Dcl) (p2_:Int×(Qo Bs Ent)×(List Dcl)) (p3_:Dcl) (p4_:Int):List (Nat×HB) :=
 [(0,.mp (J2 p0_.1) p0_.2),(1,.cells 62 [dS ((p1_.take p2_.1.toNat):List Dcl),.mp 0]),(2,.cells 59 [.ptr 1 0]),(3,.cells 45 (cE p3_)),(5,.cells 25 [dI p4_]),(6,.cells 45 (cE p3_)),(7,.cells 3 [dI p2_.1]),(8,.obj (.deferred (some []))),(9,Zu p1_ p2_),(10,Yr p2_ p3_),(12,m11_h30 p2_ p3_)]
noncomputable abbrev m11_h33 (p0_:(Qo Bs Ent)) (p1_:Dcl) (p2_:Int×(Qo Bs Ent)×(List Dcl)):HB :=
 .mp (J2 ((Jb p0_ (p1_.name++([46,114,101,99]:List UInt8)) (⟨5,p2_.1,0,p1_.rcr.params,p1_.rcr.ty⟩:Ent)):Qo Bs Ent).1) ((Jb p0_ (p1_.name++([46,114,101,99]:List UInt8)) (⟨5,p2_.1,0,p1_.rcr.params,p1_.rcr.ty⟩:Ent)):Qo Bs Ent).2
noncomputable abbrev m11_h34 (p0_:(Qo Bs Ent)) (p1_:Dcl) (p2_:Int×(Qo Bs Ent)×(List Dcl)) (p3_:List Dcl) (p4_:Int):List (Nat×HB) :=
 [(0,m11_h33 p0_ p1_ p2_),(1,.cells 62 [dS ((p3_.take p2_.1.toNat):List Dcl),.mp 0]),(2,.cells 59 [.ptr 1 0]),(3,.cells 45 (cE p1_)),(5,.cells 25 [dI p4_]),(6,.cells 45 (cE p1_)),(7,.cells 3 [dI p2_.1]),(8,.obj (.deferred (some []))),(9,ZD p3_ p2_),(10,Yr p2_ p1_)]
noncomputable abbrev m11_h35 (p0_:(Qo Bs Ent)) (p1_:Dcl) (p2_:Int×(Qo Bs Ent)×(List Dcl)) (p3_:List Dcl) (p4_:Int):List (Nat×HB) :=
 [(0,m11_h33 p0_ p1_ p2_),(1,.cells 62 [dS ((p3_.take p2_.1.toNat):List Dcl),.mp 0]),(2,.cells 59 [.ptr 1 0]),(3,.cells 45 (cE p1_)),(5,.cells 25 [dI p4_]),(6,.cells 45 (cE p1_)),(7,.cells 3 [dI p2_.1]),(8,.obj (.deferred (some []))),(9,ZD p3_ p2_),(10,Yr p2_ p1_),(12,m11_h30 p2_ p1_)]
noncomputable abbrev m11_h36 (p0_:Int×(Qo Bs Ent)) (p1_:List Dcl) (p2_:Int×(Qo Bs Ent)×(List Dcl)) (p3_:Dcl) (p4_:Int) (p5_:Fn):List (Nat×HB) :=
 [(0,.mp (J2 p0_.2.1) p0_.2.2),(1,.cells 62 [dS ((p1_.take p2_.1.toNat):List Dcl),.mp 0]),(2,.cells 59 [.ptr 1 0]),(3,.cells 45 (cE p3_)),(5,.cells 25 [dI p4_]),(6,.cells 45 (cE p3_)),(7,.cells 3 [dI p2_.1]),(8,.obj (.deferred (some []))),(9,Zu p1_ p2_),(10,XI p2_ p3_),(11,.cells 76 (cE p5_))]
noncomputable abbrev m11_h37 (p0_:Int×(Qo Bs Ent)×(List Dcl)) (p1_:Int×(Qo Bs Ent)) (p2_:Dcl) (p3_:Fn):HB :=
 .cells 35 [dI 6,dI p0_.1,dI p1_.1,dI p2_.params,dI p3_.ty.kind,dI p3_.ty.index,J6 p3_.ty.name,dS p3_.ty.levels,dS p3_.ty.kids]
noncomputable abbrev m11_h38 (p0_:Int×(Qo Bs Ent)) (p1_:List Dcl) (p2_:Int×(Qo Bs Ent)×(List Dcl)) (p3_:Dcl) (p4_:Int) (p5_:Fn):List (Nat×HB) :=
 [(0,.mp (J2 p0_.2.1) p0_.2.2),(1,.cells 62 [dS ((p1_.take p2_.1.toNat):List Dcl),.mp 0]),(2,.cells 59 [.ptr 1 0]),(3,.cells 45 (cE p3_)),(5,.cells 25 [dI p4_]),(6,.cells 45 (cE p3_)),(7,.cells 3 [dI p2_.1]),(8,.obj (.deferred (some []))),(9,ZD p1_ p2_),(10,XI p2_ p3_),(11,.cells 76 (cE p5_)),(12,m11_h37 p2_ p0_ p3_ p5_)]
noncomputable abbrev m11_h39 (p0_:Int×(Qo Bs Ent)) (p1_:List Dcl) (p2_:Int×(Qo Bs Ent)×(List Dcl)) (p3_:Dcl) (p4_:Int) (p5_:Fn):List (Nat×HB) :=
 [(0,.mp (J2 p0_.2.1) p0_.2.2),(1,.cells 62 [dS ((p1_.take p2_.1.toNat):List Dcl),.mp 0]),(2,.cells 59 [.ptr 1 0]),(3,.cells 45 (cE p3_)),(5,.cells 25 [dI p4_]),(6,.cells 45 (cE p3_)),(7,.cells 3 [dI p2_.1]),(8,.obj (.deferred (some []))),(9,Zu p1_ p2_),(10,XI p2_ p3_),(11,.cells 76 (cE p5_)),(12,m11_h37 p2_ p0_ p3_ p5_)]
noncomputable abbrev m11_h40 (p0_:Int×(Qo Bs Ent)) (p1_:Fn) (p2_:Int×(Qo Bs Ent)×(List Dcl)) (p3_:Dcl):HB :=
 .mp (J2 ((Jb p0_.2 p1_.name (⟨6,p2_.1,p0_.1,p3_.params,p1_.ty⟩:Ent)):Qo Bs Ent).1) ((Jb p0_.2 p1_.name (⟨6,p2_.1,p0_.1,p3_.params,p1_.ty⟩:Ent)):Qo Bs Ent).2
noncomputable abbrev m11_h41 (p0_:Int×(Qo Bs Ent)) (p1_:Fn) (p2_:Int×(Qo Bs Ent)×(List Dcl)) (p3_:Dcl) (p4_:List Dcl) (p5_:Int):List (Nat×HB) :=
 [(0,m11_h40 p0_ p1_ p2_ p3_),(1,.cells 62 [dS ((p4_.take p2_.1.toNat):List Dcl),.mp 0]),(2,.cells 59 [.ptr 1 0]),(3,.cells 45 (cE p3_)),(5,.cells 25 [dI p5_]),(6,.cells 45 (cE p3_)),(7,.cells 3 [dI p2_.1]),(8,.obj (.deferred (some []))),(9,ZD p4_ p2_),(10,XI p2_ p3_),(11,.cells 76 (cE p1_))]
noncomputable abbrev m11_h42 (p0_:Int×(Qo Bs Ent)) (p1_:Fn) (p2_:Int×(Qo Bs Ent)×(List Dcl)) (p3_:Dcl) (p4_:List Dcl) (p5_:Int):List (Nat×HB) :=
 [(0,m11_h40 p0_ p1_ p2_ p3_),(1,.cells 62 [dS ((p4_.take p2_.1.toNat):List Dcl),.mp 0]),(2,.cells 59 [.ptr 1 0]),(3,.cells 45 (cE p3_)),(5,.cells 25 [dI p5_]),(6,.cells 45 (cE p3_)),(7,.cells 3 [dI p2_.1]),(8,.obj (.deferred (some []))),(9,ZD p4_ p2_),(10,XI p2_ p3_),(11,.cells 76 (cE p1_)),(12,m11_h37 p2_ p0_ p3_ p1_)]
noncomputable def DV (a0:List Dcl):Option (Int×Int) :=
 cond (decide (1000 < (a0.length:Int)))
   (some (1000,6))
   (Option.bind (QE (Wu a0) QU (0,gmNil,([]:List Dcl))) (Sum.elim (fun (o2:(Qo Bs Ent)×(List Dcl))=>some (0,0)) (fun o=>some o)))
end Go.Proofs.Ytafddfoefeploaa
