/- Part 5 of the proof: rules, mirrors and plain laws. The statement SignatureCoversUpto is proved here: for every list of declarations the law returns true, and what it is given reads behind the call ars it did before; condition: the arguments are of bulk at most 1048576 (the second form). -/
import Derived.Test.YtafddfoefeploaaK84
set_option maxRecDepth 100000
set_option maxHeartbeats 2000000
set_option linter.unusedSimpArgs false
set_option linter.unusedVariables false
set_option linter.unusedSectionVars false
namespace Go.Proofs.Ytafddfoefeploaa
open Go.RowKit Go.Shelf
theorem en_30:J4 Try.prog 30:=enters_of Try.func30 (by kernel_rfl) rfl
noncomputable def ZO (a0:Dcl) (a1:List Dcl) (a2:Qa Bs Ent) (v10:(Qa Bs Ent)) (s1:Int):Option (LO Int (Unit⊕Int)) :=
 cond (decide (s1 < (a0.funs.length:Int)))
   (Option.bind (JC a0.funs s1) fun (x13:Fn) =>
 Option.bind (Gl x13.ty 0 a0.params a1 a2 v10) (Sum.elim (fun (x15:Unit)=>some (.next (J9 (s1+1)))) (fun (x16:Int)=>some (.done (.inr x16)))))
   (some (.done (.inl ())))
noncomputable def G7 (a0:Dcl) (a1:List Dcl) (s2:Int×(Qa Bs Ent)):Option (LO (Int×(Qa Bs Ent)) (((Qa Bs Ent)))) :=
 cond (decide (s2.1 < (a0.ctors.length:Int)))
   (Option.bind (JC a0.ctors s2.1) fun (x28:Ctr) =>
 Option.bind (some ()) (fun (y29:Unit)=>some (.next ((J9 (s2.1+1)),(J2 s2.2 x28.name (⟨4,(a1.length:Int),s2.1,a0.params,x28.ty⟩:Ent))))))
   (some (.done s2.2))
noncomputable def Xz (p0_:Dcl) (p1_:(Qa Bs Ent)) (p2_:List Dcl):Option (((Qa Bs Ent))) :=
 Jd (Nat.ble (p0_.name.length+([46,114,101,99]:List UInt8).length) 1000000000)
 (Option.bind (some ()) (fun (b0_:Unit)=>some (J2 p1_ (p0_.name++([46,114,101,99]:List UInt8)) (⟨5,(p2_.length:Int),0,p0_.rcr.params,p0_.rcr.ty⟩:Ent))))
noncomputable def GO (a0:Dcl) (a1:List Dcl) (s2:Int×(Qa Bs Ent)):Option (LO (Int×(Qa Bs Ent)) (((Qa Bs Ent)))) :=
 cond (decide (s2.1 < (a0.funs.length:Int)))
   (Option.bind (JC a0.funs s2.1) fun (x40:Fn) =>
 Option.bind (some ()) (fun (y41:Unit)=>some (.next ((J9 (s2.1+1)),(J2 s2.2 x40.name (⟨6,(a1.length:Int),s2.1,a0.params,x40.ty⟩:Ent))))))
   (some (.done s2.2))
noncomputable def GP (p0_:Bool) (p1_:Dcl) (p2_:(Qa Bs Ent)) (p3_:List Dcl):Option (((Qa Bs Ent))) :=
 cond p0_
   (Option.bind (JC ([0,1,2]) p1_.kind) fun (b0_:Int) =>
 Option.bind (some ()) (fun (b1_:Unit)=>some (J2 p2_ p1_.name (⟨b0_,(p3_.length:Int),0,p1_.params,p1_.ty⟩:Ent))))
   (cond (p1_.kind==3)
   (Option.bind (some ()) (fun (b2_:Unit)=>Option.bind (Qp (G7 p1_ p3_) QF (0,(J2 p2_ p1_.name (⟨3,(p3_.length:Int),0,p1_.params,p1_.ty⟩:Ent)))) (fun (b3_:(Qa Bs Ent))=>Xz p1_ b3_ p3_)))
   (cond (p1_.kind==4)
   (Option.bind (Qp (GO p1_ p3_) QF (0,p2_)) (fun (b4_:(Qa Bs Ent))=>some b4_))
   (some p2_)))
noncomputable def G6 (a0:Dcl) (a1:List Dcl) (a2:Qa Bs Ent) (y14:(Qa Bs Ent)) (s1:Int):Option (LO Int (Unit⊕Int)) :=
 cond (decide (s1 < (a0.funs.length:Int)))
   (Option.bind (JC a0.funs s1) fun (x49:Fn) =>
 Option.bind (m48f11 x49.tree x49.arity 0 a0.params a1 a2 y14) (Sum.elim (fun (x51:Unit)=>some (.next (J9 (s1+1)))) (fun (x52:Int)=>some (.done (.inr x52)))))
   (some (.done (.inl ())))
noncomputable def G8 (p0_:Dcl) (p1_:(Qa Bs Ent)) (p2_:List Dcl) (p3_:Qa Bs Ent):Option Int :=
 Option.bind (some ()) (fun (b0_:Unit)=>Option.bind (Option.bind (cond (p0_.kind==0)
   (some (p0_.kind==0))
   (cond (p0_.kind==1)
   (some (p0_.kind==1))
   (some (p0_.kind==2)))) (fun (b1_:Bool)=>GP b1_ p0_ p1_ p2_)) (fun (b2_:(Qa Bs Ent))=>Option.bind (Qp (G6 p0_ p2_ p3_ b2_) QF 0) (Sum.elim (fun (b3_:Unit)=>some 0) (fun o=>some o))))
noncomputable def ZQ (p0_:Dcl) (p1_:List Dcl) (p2_:Qa Bs Ent):Option Int :=
 Option.bind (cond (p0_.kind==3)
   (Option.bind (Ud p0_ p1_ p2_ gmNil) (Sum.elim (fun (b0_:(Qa Bs Ent))=>some (.inl b0_)) (fun (b1_:Int×(Qa Bs Ent))=>some (.inr b1_.1))))
   (some (.inl gmNil))) (Sum.elim (fun (b2_:(Qa Bs Ent))=>Option.bind (Qp (ZO p0_ p1_ p2_ b2_) QF 0) (Sum.elim (fun (b3_:Unit)=>G8 p0_ b2_ p1_ p2_) (fun o=>some o))) (fun o=>some o))
noncomputable def ZP (p0_:Bool) (p1_:Dcl) (p2_:List Dcl) (p3_:Qa Bs Ent):Option Int :=
 Option.bind (cond p0_
   (Option.bind (Gl p1_.value 0 p1_.params p2_ p3_ gmNil) (Sum.elim (fun (b0_:Unit)=>some (.inl ())) (fun (b1_:Int)=>some (.inr b1_))))
   (some (.inl ()))) (Sum.elim (fun (b2_:Unit)=>ZQ p1_ p2_ p3_) (fun o=>some o))
noncomputable abbrev m30f4_h0 :HB :=
 .mp (QO (gmNil:Qa Bs Ent).1) (gmNil:Qa Bs Ent).2
noncomputable abbrev m30f4_h1 (p0_:List Dcl) (p1_:Qa Bs Ent) (p2_:Dcl):List (Nat×HB) :=
 [(0,.cells 62 [dS p0_,.mp 1]),(1,.mp (QO p1_.1) p1_.2),(2,.cells 45 (cE p2_)),(3,.cells 25 [dI 0]),(6,m30f4_h0),(7,.cells 60 [.mp 6])]
noncomputable abbrev GR (p0_:Dcl):List (Nat×HB) :=
 [(2,.cells 45 (cE p0_)),(3,.cells 25 [dI 0]),(7,.cells 60 [.mp 6])]
noncomputable abbrev m30f4_h3 (p0_:List Dcl) (p1_:Qa Bs Ent) (p2_:Dcl) (p3_:(Qa Bs Ent)):List (Nat×HB) :=
 [(0,.cells 62 [dS p0_,.mp 1]),(1,.mp (QO p1_.1) p1_.2),(2,.cells 45 (cE p2_)),(3,.cells 25 [dI 0]),(6,.mp (QO p3_.1) p3_.2),(7,.cells 60 [.mp 6])]
noncomputable abbrev m30f4_h4 (p0_:Dcl) (p1_:Fn):List (Nat×HB) :=
 [(2,.cells 45 (cE p0_)),(3,.cells 25 [dI 0]),(7,.cells 60 [.mp 6]),(8,.cells 76 (cE p1_))]
noncomputable abbrev GQ (p0_:List Dcl) (p1_:Qa Bs Ent) (p2_:Dcl) (p3_:(Qa Bs Ent)):List (Nat×HB) :=
 [(0,.cells 62 [dS p0_,.mp 1]),(1,.mp (QO p1_.1) p1_.2),(2,.cells 45 (cE p2_)),(3,.cells 25 [dI 0]),(6,.mp (QO p3_.1) p3_.2),(7,.cells 60 [.mp 6]),(8,.cells 45 (cE p2_)),(9,.cells 3 [dI (p0_.length:Int)])]
noncomputable abbrev Yz :HB :=
 .loop .ready none [(0,.v (.one (.ptr 0 0))),(3,.v (.one (.ptr 2 0))),(4,.v (.one (.ptr 3 0))),(5,.v (.one (.ptr 7 0))),(72,.v (.one (.fn 49 [(9,0),(8,0)])))] 95 #[73,74] Kk Kj 10
noncomputable abbrev m30f4_h7 (p0_:List Dcl) (p1_:Qa Bs Ent) (p2_:Dcl) (p3_:(Qa Bs Ent)):List (Nat×HB) :=
 [(0,.cells 62 [dS p0_,.mp 1]),(1,.mp (QO p1_.1) p1_.2),(2,.cells 45 (cE p2_)),(3,.cells 25 [dI 0]),(6,.mp (QO p3_.1) p3_.2),(7,.cells 60 [.mp 6]),(8,.cells 45 (cE p2_)),(9,.cells 3 [dI (p0_.length:Int)]),(10,.obj (.deferred (some []))),(11,Yz)]
noncomputable abbrev G9 (p0_:List Dcl) (p1_:Dcl):HB :=
 .cells 35 [dI 0,dI (p0_.length:Int),dI 0,dI p1_.params,dI p1_.ty.kind,dI p1_.ty.index,Jn p1_.ty.name,dS p1_.ty.levels,dS p1_.ty.kids]
noncomputable abbrev m30f4_h9 (p0_:List Dcl) (p1_:Qa Bs Ent) (p2_:Dcl) (p3_:(Qa Bs Ent)):List (Nat×HB) :=
 [(0,.cells 62 [dS p0_,.mp 1]),(1,.mp (QO p1_.1) p1_.2),(2,.cells 45 (cE p2_)),(3,.cells 25 [dI 0]),(6,.mp (QO p3_.1) p3_.2),(7,.cells 60 [.mp 6]),(8,.cells 45 (cE p2_)),(9,.cells 3 [dI (p0_.length:Int)]),(10,.obj (.deferred (some []))),(11,Yz),(12,G9 p0_ p2_)]
noncomputable abbrev KS (p0_:Int) (p1_:List Dcl) (p2_:Dcl):HB :=
 .cells 35 [dI p0_,dI (p1_.length:Int),dI 0,dI p2_.params,dI p2_.ty.kind,dI p2_.ty.index,Jn p2_.ty.name,dS p2_.ty.levels,dS p2_.ty.kids]
noncomputable abbrev m30f4_h11 (p0_:List Dcl) (p1_:Qa Bs Ent) (p2_:Dcl) (p3_:(Qa Bs Ent)) (p4_:Int):List (Nat×HB) :=
 [(0,.cells 62 [dS p0_,.mp 1]),(1,.mp (QO p1_.1) p1_.2),(2,.cells 45 (cE p2_)),(3,.cells 25 [dI 0]),(6,.mp (QO p3_.1) p3_.2),(7,.cells 60 [.mp 6]),(8,.cells 45 (cE p2_)),(9,.cells 3 [dI (p0_.length:Int)]),(10,.obj (.deferred (some []))),(11,Yz),(12,KS p4_ p0_ p2_)]
noncomputable abbrev Z1 :HB :=
 .loop .busy none [(0,.v (.one (.ptr 0 0))),(3,.v (.one (.ptr 2 0))),(4,.v (.one (.ptr 3 0))),(5,.v (.one (.ptr 7 0))),(72,.v (.one (.fn 49 [(9,0),(8,0)])))] 95 #[73,74] Kk Kj 10
noncomputable abbrev m30f4_h13 (p0_:List Dcl) (p1_:Qa Bs Ent) (p2_:Dcl) (p3_:(Qa Bs Ent)) (p4_:Int):List (Nat×HB) :=
 [(0,.cells 62 [dS p0_,.mp 1]),(1,.mp (QO p1_.1) p1_.2),(2,.cells 45 (cE p2_)),(3,.cells 25 [dI 0]),(6,.mp (QO p3_.1) p3_.2),(7,.cells 60 [.mp 6]),(8,.cells 45 (cE p2_)),(9,.cells 3 [dI (p0_.length:Int)]),(10,.obj (.deferred (some []))),(11,Z1),(12,KS p4_ p0_ p2_),(14,KS p4_ p0_ p2_)]
noncomputable abbrev m30f4_h14 (p0_:List Dcl) (p1_:Qa Bs Ent) (p2_:Dcl) (p3_:(Qa Bs Ent)) (p4_:Int):List (Nat×HB) :=
 [(0,.cells 62 [dS p0_,.mp 1]),(1,.mp (QO p1_.1) p1_.2),(2,.cells 45 (cE p2_)),(3,.cells 25 [dI 0]),(6,.mp (QO p3_.1) p3_.2),(7,.cells 60 [.mp 6]),(8,.cells 45 (cE p2_)),(9,.cells 3 [dI (p0_.length:Int)]),(10,.obj (.deferred (some []))),(11,Yz),(12,KS p4_ p0_ p2_),(14,KS p4_ p0_ p2_)]
noncomputable abbrev m30f4_h15 (p0_:(Qa Bs Ent)) (p1_:Dcl) (p2_:Int) (p3_:List Dcl):HB :=
 .mp (QO ((J2 p0_ p1_.name (⟨p2_,(p3_.length:Int),0,p1_.params,p1_.ty⟩:Ent)):Qa Bs Ent).1) ((J2 p0_ p1_.name (⟨p2_,(p3_.length:Int),0,p1_.params,p1_.ty⟩:Ent)):Qa Bs Ent).2
noncomputable abbrev m30f4_h16 (p0_:List Dcl) (p1_:Qa Bs Ent) (p2_:Dcl) (p3_:(Qa Bs Ent)) (p4_:Int):List (Nat×HB) :=
 [(0,.cells 62 [dS p0_,.mp 1]),(1,.mp (QO p1_.1) p1_.2),(2,.cells 45 (cE p2_)),(3,.cells 25 [dI 0]),(6,m30f4_h15 p3_ p2_ p4_ p0_),(7,.cells 60 [.mp 6]),(8,.cells 45 (cE p2_)),(9,.cells 3 [dI (p0_.length:Int)]),(10,.obj (.deferred (some []))),(11,Z1),(12,KS p4_ p0_ p2_)]
noncomputable abbrev Yg (p0_:List Dcl) (p1_:Dcl):HB :=
 .cells 35 [dI 3,dI (p0_.length:Int),dI 0,dI p1_.params,dI p1_.ty.kind,dI p1_.ty.index,Jn p1_.ty.name,dS p1_.ty.levels,dS p1_.ty.kids]
noncomputable abbrev m30f4_h18 (p0_:List Dcl) (p1_:Qa Bs Ent) (p2_:Dcl) (p3_:(Qa Bs Ent)):List (Nat×HB) :=
 [(0,.cells 62 [dS p0_,.mp 1]),(1,.mp (QO p1_.1) p1_.2),(2,.cells 45 (cE p2_)),(3,.cells 25 [dI 0]),(6,.mp (QO p3_.1) p3_.2),(7,.cells 60 [.mp 6]),(8,.cells 45 (cE p2_)),(9,.cells 3 [dI (p0_.length:Int)]),(10,.obj (.deferred (some []))),(11,Yz),(12,Yg p0_ p2_)]
noncomputable abbrev m30f4_h19 (p0_:List Dcl) (p1_:Qa Bs Ent) (p2_:Dcl) (p3_:(Qa Bs Ent)):List (Nat×HB) :=
 [(0,.cells 62 [dS p0_,.mp 1]),(1,.mp (QO p1_.1) p1_.2),(2,.cells 45 (cE p2_)),(3,.cells 25 [dI 0]),(6,.mp (QO p3_.1) p3_.2),(7,.cells 60 [.mp 6]),(8,.cells 45 (cE p2_)),(9,.cells 3 [dI (p0_.length:Int)]),(10,.obj (.deferred (some []))),(11,Z1),(12,Yg p0_ p2_),(13,Yg p0_ p2_)]
noncomputable abbrev m30f4_h20 (p0_:List Dcl) (p1_:Qa Bs Ent) (p2_:Dcl) (p3_:(Qa Bs Ent)):List (Nat×HB) :=
 [(0,.cells 62 [dS p0_,.mp 1]),(1,.mp (QO p1_.1) p1_.2),(2,.cells 45 (cE p2_)),(3,.cells 25 [dI 0]),(6,.mp (QO p3_.1) p3_.2),(7,.cells 60 [.mp 6]),(8,.cells 45 (cE p2_)),(9,.cells 3 [dI (p0_.length:Int)]),(10,.obj (.deferred (some []))),(11,Yz),(12,Yg p0_ p2_),(13,Yg p0_ p2_)]
noncomputable abbrev m30f4_h21 (p0_:(Qa Bs Ent)) (p1_:Dcl) (p2_:List Dcl):HB :=
 .mp (QO ((J2 p0_ p1_.name (⟨3,(p2_.length:Int),0,p1_.params,p1_.ty⟩:Ent)):Qa Bs Ent).1) ((J2 p0_ p1_.name (⟨3,(p2_.length:Int),0,p1_.params,p1_.ty⟩:Ent)):Qa Bs Ent).2
noncomputable abbrev m30f4_h22 (p0_:List Dcl) (p1_:Qa Bs Ent) (p2_:Dcl) (p3_:(Qa Bs Ent)):List (Nat×HB) :=
 [(0,.cells 62 [dS p0_,.mp 1]),(1,.mp (QO p1_.1) p1_.2),(2,.cells 45 (cE p2_)),(3,.cells 25 [dI 0]),(6,m30f4_h21 p3_ p2_ p0_),(7,.cells 60 [.mp 6]),(8,.cells 45 (cE p2_)),(9,.cells 3 [dI (p0_.length:Int)]),(10,.obj (.deferred (some []))),(11,Z1),(12,Yg p0_ p2_)]
noncomputable abbrev m30f4_h23 (p0_:List Dcl) (p1_:Qa Bs Ent) (p2_:Dcl) (p3_:Int×(Qa Bs Ent)) (p4_:Ctr):List (Nat×HB) :=
 [(0,.cells 62 [dS p0_,.mp 1]),(1,.mp (QO p1_.1) p1_.2),(2,.cells 45 (cE p2_)),(3,.cells 25 [dI 0]),(6,.mp (QO p3_.2.1) p3_.2.2),(7,.cells 60 [.mp 6]),(8,.cells 45 (cE p2_)),(9,.cells 3 [dI (p0_.length:Int)]),(10,.obj (.deferred (some []))),(11,Yz),(12,Yg p0_ p2_),(14,.cells 71 (cE p4_))]
noncomputable abbrev m30f4_h24 (p0_:List Dcl) (p1_:Int×(Qa Bs Ent)) (p2_:Dcl) (p3_:Ctr):HB :=
 .cells 35 [dI 4,dI (p0_.length:Int),dI p1_.1,dI p2_.params,dI p3_.ty.kind,dI p3_.ty.index,Jn p3_.ty.name,dS p3_.ty.levels,dS p3_.ty.kids]
noncomputable abbrev m30f4_h25 (p0_:List Dcl) (p1_:Qa Bs Ent) (p2_:Dcl) (p3_:Int×(Qa Bs Ent)) (p4_:Ctr):List (Nat×HB) :=
 [(0,.cells 62 [dS p0_,.mp 1]),(1,.mp (QO p1_.1) p1_.2),(2,.cells 45 (cE p2_)),(3,.cells 25 [dI 0]),(6,.mp (QO p3_.2.1) p3_.2.2),(7,.cells 60 [.mp 6]),(8,.cells 45 (cE p2_)),(9,.cells 3 [dI (p0_.length:Int)]),(10,.obj (.deferred (some []))),(11,Z1),(12,Yg p0_ p2_),(14,.cells 71 (cE p4_)),(15,m30f4_h24 p0_ p3_ p2_ p4_)]
noncomputable abbrev m30f4_h26 (p0_:List Dcl) (p1_:Qa Bs Ent) (p2_:Dcl) (p3_:Int×(Qa Bs Ent)) (p4_:Ctr):List (Nat×HB) :=
 [(0,.cells 62 [dS p0_,.mp 1]),(1,.mp (QO p1_.1) p1_.2),(2,.cells 45 (cE p2_)),(3,.cells 25 [dI 0]),(6,.mp (QO p3_.2.1) p3_.2.2),(7,.cells 60 [.mp 6]),(8,.cells 45 (cE p2_)),(9,.cells 3 [dI (p0_.length:Int)]),(10,.obj (.deferred (some []))),(11,Yz),(12,Yg p0_ p2_),(14,.cells 71 (cE p4_)),(15,m30f4_h24 p0_ p3_ p2_ p4_)]
noncomputable abbrev m30f4_h27 (p0_:Int×(Qa Bs Ent)) (p1_:Ctr) (p2_:List Dcl) (p3_:Dcl):HB :=
 .mp (QO ((J2 p0_.2 p1_.name (⟨4,(p2_.length:Int),p0_.1,p3_.params,p1_.ty⟩:Ent)):Qa Bs Ent).1) ((J2 p0_.2 p1_.name (⟨4,(p2_.length:Int),p0_.1,p3_.params,p1_.ty⟩:Ent)):Qa Bs Ent).2
noncomputable abbrev m30f4_h28 (p0_:List Dcl) (p1_:Qa Bs Ent) (p2_:Dcl) (p3_:Int×(Qa Bs Ent)) (p4_:Ctr):List (Nat×HB) :=
 [(0,.cells 62 [dS p0_,.mp 1]),(1,.mp (QO p1_.1) p1_.2),(2,.cells 45 (cE p2_)),(3,.cells 25 [dI 0]),(6,m30f4_h27 p3_ p4_ p0_ p2_),(7,.cells 60 [.mp 6]),(8,.cells 45 (cE p2_)),(9,.cells 3 [dI (p0_.length:Int)]),(10,.obj (.deferred (some []))),(11,Z1),(12,Yg p0_ p2_),(14,.cells 71 (cE p4_))]
noncomputable abbrev m30f4_h29 (p0_:List Dcl) (p1_:Dcl):HB :=
 .cells 35 [dI 5,dI (p0_.length:Int),dI 0,dI p1_.rcr.params,dI p1_.rcr.ty.kind,dI p1_.rcr.ty.index,Jn p1_.rcr.ty.name,dS p1_.rcr.ty.levels,dS p1_.rcr.ty.kids]
noncomputable abbrev m30f4_h30 (p0_:List Dcl) (p1_:Qa Bs Ent) (p2_:Dcl) (p3_:(Qa Bs Ent)):List (Nat×HB) :=
 [(0,.cells 62 [dS p0_,.mp 1]),(1,.mp (QO p1_.1) p1_.2),(2,.cells 45 (cE p2_)),(3,.cells 25 [dI 0]),(6,.mp (QO p3_.1) p3_.2),(7,.cells 60 [.mp 6]),(8,.cells 45 (cE p2_)),(9,.cells 3 [dI (p0_.length:Int)]),(10,.obj (.deferred (some []))),(11,Z1),(12,Yg p0_ p2_),(14,m30f4_h29 p0_ p2_)]
noncomputable abbrev m30f4_h31 (p0_:List Dcl) (p1_:Qa Bs Ent) (p2_:Dcl) (p3_:(Qa Bs Ent)):List (Nat×HB) :=
 [(0,.cells 62 [dS p0_,.mp 1]),(1,.mp (QO p1_.1) p1_.2),(2,.cells 45 (cE p2_)),(3,.cells 25 [dI 0]),(6,.mp (QO p3_.1) p3_.2),(7,.cells 60 [.mp 6]),(8,.cells 45 (cE p2_)),(9,.cells 3 [dI (p0_.length:Int)]),(10,.obj (.deferred (some []))),(11,Yz),(12,Yg p0_ p2_),(14,m30f4_h29 p0_ p2_)]
noncomputable abbrev m30f4_h32 (p0_:(Qa Bs Ent)) (p1_:Dcl) (p2_:List Dcl):HB :=
 .mp (QO ((J2 p0_ (p1_.name++([46,114,101,99]:List UInt8)) (⟨5,(p2_.length:Int),0,p1_.rcr.params,p1_.rcr.ty⟩:Ent)):Qa Bs Ent).1) ((J2 p0_ (p1_.name++([46,114,101,99]:List UInt8)) (⟨5,(p2_.length:Int),0,p1_.rcr.params,p1_.rcr.ty⟩:Ent)):Qa Bs Ent).2
noncomputable abbrev m30f4_h33 (p0_:List Dcl) (p1_:Qa Bs Ent) (p2_:Dcl) (p3_:(Qa Bs Ent)):List (Nat×HB) :=
 [(0,.cells 62 [dS p0_,.mp 1]),(1,.mp (QO p1_.1) p1_.2),(2,.cells 45 (cE p2_)),(3,.cells 25 [dI 0]),(6,m30f4_h32 p3_ p2_ p0_),(7,.cells 60 [.mp 6]),(8,.cells 45 (cE p2_)),(9,.cells 3 [dI (p0_.length:Int)]),(10,.obj (.deferred (some []))),(11,Z1),(12,Yg p0_ p2_)]
noncomputable abbrev m30f4_h34 (p0_:List Dcl) (p1_:Qa Bs Ent) (p2_:Dcl) (p3_:Int×(Qa Bs Ent)) (p4_:Fn):List (Nat×HB) :=
 [(0,.cells 62 [dS p0_,.mp 1]),(1,.mp (QO p1_.1) p1_.2),(2,.cells 45 (cE p2_)),(3,.cells 25 [dI 0]),(6,.mp (QO p3_.2.1) p3_.2.2),(7,.cells 60 [.mp 6]),(8,.cells 45 (cE p2_)),(9,.cells 3 [dI (p0_.length:Int)]),(10,.obj (.deferred (some []))),(11,Yz),(12,G9 p0_ p2_),(13,.cells 76 (cE p4_))]
noncomputable abbrev m30f4_h35 (p0_:List Dcl) (p1_:Int×(Qa Bs Ent)) (p2_:Dcl) (p3_:Fn):HB :=
 .cells 35 [dI 6,dI (p0_.length:Int),dI p1_.1,dI p2_.params,dI p3_.ty.kind,dI p3_.ty.index,Jn p3_.ty.name,dS p3_.ty.levels,dS p3_.ty.kids]
noncomputable abbrev m30f4_h36 (p0_:List Dcl) (p1_:Qa Bs Ent) (p2_:Dcl) (p3_:Int×(Qa Bs Ent)) (p4_:Fn):List (Nat×HB) :=
 [(0,.cells 62 [dS p0_,.mp 1]),(1,.mp (QO p1_.1) p1_.2),(2,.cells 45 (cE p2_)),(3,.cells 25 [dI 0]),(6,.mp (QO p3_.2.1) p3_.2.2),(7,.cells 60 [.mp 6]),(8,.cells 45 (cE p2_)),(9,.cells 3 [dI (p0_.length:Int)]),(10,.obj (.deferred (some []))),(11,Z1),(12,G9 p0_ p2_),(13,.cells 76 (cE p4_)),(14,m30f4_h35 p0_ p3_ p2_ p4_)]
noncomputable abbrev m30f4_h37 (p0_:List Dcl) (p1_:Qa Bs Ent) (p2_:Dcl) (p3_:Int×(Qa Bs Ent)) (p4_:Fn):List (Nat×HB) :=
 [(0,.cells 62 [dS p0_,.mp 1]),(1,.mp (QO p1_.1) p1_.2),(2,.cells 45 (cE p2_)),(3,.cells 25 [dI 0]),(6,.mp (QO p3_.2.1) p3_.2.2),(7,.cells 60 [.mp 6]),(8,.cells 45 (cE p2_)),(9,.cells 3 [dI (p0_.length:Int)]),(10,.obj (.deferred (some []))),(11,Yz),(12,G9 p0_ p2_),(13,.cells 76 (cE p4_)),(14,m30f4_h35 p0_ p3_ p2_ p4_)]
noncomputable abbrev m30f4_h38 (p0_:Int×(Qa Bs Ent)) (p1_:Fn) (p2_:List Dcl) (p3_:Dcl):HB :=
 .mp (QO ((J2 p0_.2 p1_.name (⟨6,(p2_.length:Int),p0_.1,p3_.params,p1_.ty⟩:Ent)):Qa Bs Ent).1) ((J2 p0_.2 p1_.name (⟨6,(p2_.length:Int),p0_.1,p3_.params,p1_.ty⟩:Ent)):Qa Bs Ent).2
noncomputable abbrev m30f4_h39 (p0_:List Dcl) (p1_:Qa Bs Ent) (p2_:Dcl) (p3_:Int×(Qa Bs Ent)) (p4_:Fn):List (Nat×HB) :=
 [(0,.cells 62 [dS p0_,.mp 1]),(1,.mp (QO p1_.1) p1_.2),(2,.cells 45 (cE p2_)),(3,.cells 25 [dI 0]),(6,m30f4_h38 p3_ p4_ p0_ p2_),(7,.cells 60 [.mp 6]),(8,.cells 45 (cE p2_)),(9,.cells 3 [dI (p0_.length:Int)]),(10,.obj (.deferred (some []))),(11,Z1),(12,G9 p0_ p2_),(13,.cells 76 (cE p4_))]
noncomputable abbrev m30f4_h40 (p0_:Dcl) (p1_:List Dcl) (p2_:Fn):List (Nat×HB) :=
 [(2,.cells 45 (cE p0_)),(3,.cells 25 [dI 0]),(7,.cells 60 [.mp 6]),(8,.cells 45 (cE p0_)),(9,.cells 3 [dI (p1_.length:Int)]),(13,.cells 76 (cE p2_))]
noncomputable abbrev m30f4_h41 (p0_:List Dcl) (p1_:Qa Bs Ent) (p2_:Int):List (Nat×HB) :=
 [(0,.cells 62 [dS p0_,.mp 1]),(1,.mp (QO p1_.1) p1_.2),(3,.cells 25 [dI p2_])]
noncomputable def WN (a0:Dcl) (a1:List Dcl) (a2:Qa Bs Ent):Option Int :=
 Option.bind (Un a0) (Sum.elim (fun (x2:Unit)=>Option.bind (D5 a0 a1 a2) (Sum.elim (fun (x5:Unit)=>Option.bind (cond (a0.kind != 4)
   (Option.bind (Gl a0.ty 0 a0.params a1 a2 gmNil) (Sum.elim (fun (x10:Unit)=>some (.inl ())) (fun (x11:Int)=>some (.inr x11))))
   (some (.inl ()))) (Sum.elim (fun (v7:Unit)=>Option.bind (cond (a0.kind==1)
   (some true)
   (some (a0.kind==2))) (fun (v8:Bool)=>ZP v8 a0 a1 a2)) (fun o=>some o))) (fun (x6:Int)=>some x6))) (fun (x3:Int)=>some x3))
theorem m30f4_ok (a0:Dcl) (a1:List Dcl) (a2:Qa Bs Ent) (r:Int) (h0:WN a0 a1 a2=some r):CallM Try.prog 30 [.one (.ptr 0 0),.agg (cE a0)] ⟨[(0,.cells 62 [dS a1,.mp 1]),(1,.mp (QO a2.1) a2.2)],[],2⟩ (QK [.one (dI r)]) ⟨m30f4_h41 a1 a2 r,[],4⟩:=by
 unfold WN at h0
 refine CallM.of_bodyC ⟨[(4,.v (.one (.ptr 3 0)))],m30f4_h41 a1 a2 r,[],4,95,[]⟩ 3 43 90 J J en_30 (lb J) J (Gi K3 J J J .nil) (fun w0 M V0 Q hv0 hQ0=>?_)
 simp only [Ja]
 refine Q5<|Q0<|Q9 J J (lb J) (QT J)<|Q9 J J (lb J) (Qj z_25 J)<|Q3<|Q4<|Q5<|Q0<|rR J J J (YU J)<|XL.defer catch_ok J J<|Q3<|Q4<|Q5<|Q0 ?_
 refine rR J J J (QN (a0:Dcl) JX J J) ?_
 refine Qb h0 (fun x1 hx1 h0=>?_)
 refine JY id hx1 h0 (fun x2 hx2 h0=>?_) (fun x3 hx3 h0=>?_)
 refine Q9 J J (lb J) (QE J J J (CallE.m (m44f5_ok a0 (.inl x2) hx2)) J)<|Q3<|Q4<|Q5<|Q0<|rM J J J<|rR J J J (QN (a0:Dcl) JX J J) ?_
 refine Qb h0 (fun x4 hx4 h0=>?_)
 refine JY id hx4 h0 (fun x5 hx5 h0=>?_) (fun x6 hx6 h0=>?_)
 refine Q9 J J (lb J) (Jj (hp1':=[(0,.cells 62 [dS a1,.mp 1]),(1,.mp (QO a2.1) a2.2)]) (tk1':=[]) (hpF:=[(2,.cells 45 (cE a0)),(3,.cells 25 [dI 0])]) (tkF:=[]) (res2:=QK []) (nx2:=6) [0,1] J J (CallE.m (m45f7_ok a0 a1 a2 (.inl x5) hx5)) J J (qB J J (qG J qZ)) J J (gR J (gG J gZ)) jZ (hA J) kZ J J J J J (bB J J (bG J bZ)) J J J J)<|Q3<|Q4<|Q5<|Q0<|Q9 J J (lb J) (Z4 Bs Ent)<|Q9 J J (lb J) (Qj z_60 J)<|Qx J J (Qt YA J J J J (lb J) J)<|Q3<|Q4<|Q5<|Q5<|Q0<|rR J J J (Q2 Yu J) ?_
 refine rR J J J (Q6 QU J J J)<|rR J J J (Q7 J J J)<|Q3<|Q4 ?_
 refine QS (fun (v7:Unit)=>⟨[(0,.v (.one (.ptr 0 0))),(3,.v (.one (.ptr 2 0))),(4,.v (.one (.ptr 3 0))),(5,.v (.one (.ptr 7 0)))],m30f4_h1 a1 a2 a0,[],8,95,[3,43,90]⟩) (fun (v7:Unit)=>(Option.bind (cond (a0.kind==1)
     (some true)
     (some (a0.kind==2))) (fun (v8:Bool)=>ZP v8 a0 a1 a2))=some r) ?_ ?_
 refine Qb h0 (fun w1_ h1 h0=>?_)
 refine Qh (b:=(a0.kind != 4)) J (fun c8=>?_) (fun c8=>?_)
 replace h1:=Qk c8 h1
 refine Q0<|rM J J J<|rR J J J (Q2 KF J)<|rR J J J (Qi QV J J J J)<|rR J J J (Q2 Yl J)<|rR J J J (Q6 QU J J J)<|rR J J J (Q6 YA J J J) ?_
 refine Qb h1 (fun x9 hx9 h1=>?_)
 refine JY id hx9 h1 (fun x10 hx10 h1=>?_) (fun x11 hx11 h1=>?_)
 refine Q9 J J (lb J) (Jj (hp1':=[(0,.cells 62 [dS a1,.mp 1]),(1,.mp (QO a2.1) a2.2),(6,.mp (QO (gmNil:Qa Bs Ent).1) (gmNil:Qa Bs Ent).2)]) (tk1':=[]) (hpF:=GR a0) (tkF:=[]) (res2:=QK []) (nx2:=16) [0,1,6] J J (CallE.m (YF a0.ty 0 a0.params a1 a2 gmNil (.inl x10) hx10)) J J (qB J J (qG J (qG J qZ))) J J (gR J (gG J (gG J gZ))) jZ (hA J) kZ J J J J J (bB J J (bG J (bG J bZ))) J J J J)<|Q3 ?_
 have e:=sI h1;subst e
 replace h0:=KZ h0
 exact Qd () (Qu (tA J) (hA J) kZ J (Nat.le_trans hv0 (lb J)) J J J (bB J J (bG J (bB J J (bB J J (bG J (bA J)))))) J J) h0
 refine Jf J (Yy (hp1':=[(0,.cells 62 [dS a1,.mp 1]),(1,.mp (QO a2.1) a2.2),(6,.mp (QO (gmNil:Qa Bs Ent).1) (gmNil:Qa Bs Ent).2)]) (tk1':=[]) (hpF:=GR a0) (tkF:=[]) (nx2:=11) [0,1,6] J J (CallE.d (YF a0.ty 0 a0.params a1 a2 gmNil (.inr x11) hx11)) J J (qB J J (qG J (qG J qZ))) J (gR J (gG J (gG J gZ))) jZ (hA J) kZ J J J J J (bB J J (bG J (bG J bZ))) J J J J) ?_
 have e:=sI h1;subst e
 replace h0:=Gx h0
 have e:=sI h0;subst e
 exact Jo (hQ0 (.panic (Jx (QJ 90 x11))) _ J (US _ _ _ J (Qu (tA J) (hA J) kZ J (Nat.le_trans hv0 (lb J)) J J J (bB J J (bG J (bA J))) J J))) (fun _ _ h=>h)
 replace h1:=Ql c8 h1
 refine Qm ?_
 have e:=sI h1;subst e
 replace h0:=KZ h0
 exact Qd () (Qu (tA J) (hA J) kZ J (Nat.le_trans hv0 (lb J)) J J J (bB J J (bG J (bB J J (bB J J (bG J (bA J)))))) J J) h0
 intro v7 h0
 refine Q4<|Q5<|Q5 ?_
 refine QS (fun (v12:Bool)=>⟨[(0,.v (.one (.ptr 0 0))),(3,.v (.one (.ptr 2 0))),(4,.v (.one (.ptr 3 0))),(5,.v (.one (.ptr 7 0))),(36,.v (.one (dB v12)))],m30f4_h1 a1 a2 a0,[],8,95,[3,43,90]⟩) (fun (v12:Bool)=>(ZP v12 a0 a1 a2)=some r) ?_ ?_
 refine Qb h0 (fun w1_ h1 h0=>?_)
 refine Q0<|rR J J J (Q2 Yu J)<|rR J J J (Q6 QU J J J)<|rR J J J (Q7 J J J)<|rM J J J ?_
 refine QG (d:=32) (c:=(a0.kind==1)) J (fun c13=>?_) (fun c13=>?_)
 replace h1:=Qk c13 h1
 refine Q8 J J<|Q8 J J<|Q8 J J<|rR J J J (Qg J J)<|Q3 ?_
 have e:=sI h1;subst e
 exact Qd true (Qu (tA J) (hA J) kZ J (Nat.le_trans hv0 (lb J)) J J J (bB J J (bG J (bB J J (bB J J (bG J (bA J)))))) J J) h0
 replace h1:=Ql c13 h1
 refine rR J J J (Q2 Yu J)<|rR J J J (Q6 QU J J J)<|rR J J J (Q7 J J J)<|rR J J J (Qc J J)<|Q3 ?_
 have e:=sI h1;subst e
 exact Qd (a0.kind==2) (Qu (tA J) (hA J) kZ J (Nat.le_trans hv0 (lb J)) J J J (bB J J (bG J (bB J J (bB J J (bG J (bA J)))))) J J) h0
 intro v12 h0
 unfold ZP at h0
 refine Q4 ?_
 refine QS (fun (v14:Unit)=>⟨[(0,.v (.one (.ptr 0 0))),(3,.v (.one (.ptr 2 0))),(4,.v (.one (.ptr 3 0))),(5,.v (.one (.ptr 7 0)))],m30f4_h1 a1 a2 a0,[],8,95,[3,43,90]⟩) (fun (v14:Unit)=>(ZQ a0 a1 a2)=some r) ?_ ?_
 refine Qb h0 (fun w1_ h1 h0=>?_)
 refine Qh (b:=v12) J (fun c15=>?_) (fun c15=>?_)
 replace h1:=Qk c15 h1
 refine Q0<|rM J J J<|rR J J J (Q2 fo_45_4 J)<|rR J J J (Qi QV J J J J)<|rR J J J (Q2 Yl J)<|rR J J J (Q6 QU J J J)<|rR J J J (Q6 YA J J J) ?_
 refine Qb h1 (fun x16 hx16 h1=>?_)
 refine JY id hx16 h1 (fun x17 hx17 h1=>?_) (fun x18 hx18 h1=>?_)
 refine Q9 J J (lb J) (Jj (hp1':=[(0,.cells 62 [dS a1,.mp 1]),(1,.mp (QO a2.1) a2.2),(6,.mp (QO (gmNil:Qa Bs Ent).1) (gmNil:Qa Bs Ent).2)]) (tk1':=[]) (hpF:=GR a0) (tkF:=[]) (res2:=QK []) (nx2:=16) [0,1,6] J J (CallE.m (YF a0.value 0 a0.params a1 a2 gmNil (.inl x17) hx17)) J J (qB J J (qG J (qG J qZ))) J J (gR J (gG J (gG J gZ))) jZ (hA J) kZ J J J J J (bB J J (bG J (bG J bZ))) J J J J)<|Q3 ?_
 have e:=sI h1;subst e
 replace h0:=KZ h0
 exact Qd () (Qu (tA J) (hA J) kZ J (Nat.le_trans hv0 (lb J)) J J J (bB J J (bG J (bB J J (bB J J (bG J (bA J)))))) J J) h0
 refine Jf J (Yy (hp1':=[(0,.cells 62 [dS a1,.mp 1]),(1,.mp (QO a2.1) a2.2),(6,.mp (QO (gmNil:Qa Bs Ent).1) (gmNil:Qa Bs Ent).2)]) (tk1':=[]) (hpF:=GR a0) (tkF:=[]) (nx2:=11) [0,1,6] J J (CallE.d (YF a0.value 0 a0.params a1 a2 gmNil (.inr x18) hx18)) J J (qB J J (qG J (qG J qZ))) J (gR J (gG J (gG J gZ))) jZ (hA J) kZ J J J J J (bB J J (bG J (bG J bZ))) J J J J) ?_
 have e:=sI h1;subst e
 replace h0:=Gx h0
 have e:=sI h0;subst e
 exact Jo (hQ0 (.panic (Jx (QJ 90 x18))) _ J (US _ _ _ J (Qu (tA J) (hA J) kZ J (Nat.le_trans hv0 (lb J)) J J J (bB J J (bG J (bA J))) J J))) (fun _ _ h=>h)
 replace h1:=Ql c15 h1
 refine Qm ?_
 have e:=sI h1;subst e
 replace h0:=KZ h0
 exact Qd () (Qu (tA J) (hA J) kZ J (Nat.le_trans hv0 (lb J)) J J J (bB J J (bG J (bB J J (bB J J (bG J (bA J)))))) J J) h0
 intro v14 h0
 unfold ZQ at h0
 refine Q4<|Q5<|Q5<|Q0<|rR J J J (Q2 Yu J)<|rR J J J (Q6 QU J J J)<|rR J J J (Q7 J J J)<|Q3<|Q4 ?_
 refine QS (fun (v19:(Qa Bs Ent))=>⟨[(0,.v (.one (.ptr 0 0))),(3,.v (.one (.ptr 2 0))),(4,.v (.one (.ptr 3 0))),(5,.v (.one (.ptr 7 0)))],[(0,.cells 62 [dS a1,.mp 1]),(1,.mp (QO a2.1) a2.2),(2,.cells 45 (cE a0)),(3,.cells 25 [dI 0]),(6,.mp (QO v19.1) v19.2),(7,.cells 60 [.mp 6])],[],8,95,[3,43,90]⟩) (fun (v19:(Qa Bs Ent))=>(Option.bind (Qp (ZO a0 a1 a2 v19) QF 0) (Sum.elim (fun (o20:Unit)=>G8 a0 v19 a1 a2) (fun o=>some o)))=some r) ?_ ?_
 refine Qb h0 (fun w1_ h1 h0=>?_)
 refine Qh (b:=(a0.kind==3)) J (fun c20=>?_) (fun c20=>?_)
 replace h1:=Qk c20 h1
 refine Q0<|rM J J J<|rR J J J (QN (a0:Dcl) JX J J)<|rR J J J (Q6 YA J J J) ?_
 refine Qb h1 (fun x21 hx21 h1=>?_)
 refine JY id hx21 h1 (fun x22 hx22 h1=>?_) (fun x23 hx23 h1=>?_)
 refine Q9 J J (lb J) (Jj (hp1':=[(0,.cells 62 [dS a1,.mp 1]),(1,.mp (QO a2.1) a2.2),(6,.mp (QO x22.1) x22.2)]) (tk1':=[]) (hpF:=GR a0) (tkF:=[]) (res2:=QK []) (nx2:=24) [0,1,6] J J (CallE.m (m47f10_ok a0 a1 a2 gmNil (.inl x22) hx22)) J J (qB J J (qG J (qG J qZ))) J J (gR J (gG J (gG J gZ))) jZ (hA J) kZ J J J J J (bB J J (bG J (bG J bZ))) J J J J)<|Q3 ?_
 have e:=sI h1;subst e
 replace h0:=KZ h0
 exact Qd x22 (Qu (tA J) (hA J) kZ J (Nat.le_trans hv0 (lb J)) J J J (bB J J (bG J (bB J J (bB J J (bG J (bA J)))))) J J) h0
 refine Jf J (Yy (hp1':=[(0,.cells 62 [dS a1,.mp 1]),(1,.mp (QO a2.1) a2.2),(6,.mp (QO x23.2.1) x23.2.2)]) (tk1':=[]) (hpF:=GR a0) (tkF:=[]) (nx2:=19) [0,1,6] J J (CallE.d (m47f10_ok a0 a1 a2 gmNil (.inr x23) hx23)) J J (qB J J (qG J (qG J qZ))) J (gR J (gG J (gG J gZ))) jZ (hA J) kZ J J J J J (bB J J (bG J (bG J bZ))) J J J J) ?_
 have e:=sI h1;subst e
 replace h0:=Gx h0
 have e:=sI h0;subst e
 exact Jo (hQ0 (.panic (Jx (QJ 90 x23.1))) _ J (US _ _ _ J (Qu (tA J) (hA J) kZ J (Nat.le_trans hv0 (lb J)) J J J (bB J J (bG J (bA J))) J J))) (fun _ _ h=>h)
 replace h1:=Ql c20 h1
 refine Qm ?_
 have e:=sI h1;subst e
 replace h0:=KZ h0
 exact Qd gmNil (Qu (tA J) (hA J) kZ J (Nat.le_trans hv0 (lb J)) J J J (bB J J (bG J (bB J J (bB J J (bG J (bA J)))))) J J) h0
 intro v19 h0
 refine Q4<|Q5<|Q5<|Q0<|rR J J J (Q2 YC J)<|rR J J J (Q6 K1 J J J)<|rR J J J (QA (α:=Fn) YL J (.d _))<|rM J J J<|Q3<|Q4<|Qf ?_
 refine QY 0 (fun (o24:Unit)=>⟨[(0,.v (.one (.ptr 0 0))),(3,.v (.one (.ptr 2 0))),(4,.v (.one (.ptr 3 0))),(5,.v (.one (.ptr 7 0)))],m30f4_h3 a1 a2 a0 v19,[],8,95,[3,43,90]⟩) (fun (o24:Unit)=>(G8 a0 v19 a1 a2)=some r) ?_ ?_
 refine Qb h0 (fun o25 hl1 h0=>?_)
 refine QX (ZO a0 a1 a2 v19) (fun s1=>⟨[(0,.v (.one (.ptr 0 0))),(3,.v (.one (.ptr 2 0))),(4,.v (.one (.ptr 3 0))),(5,.v (.one (.ptr 7 0))),(52,.v (.one (dS a0.funs))),(53,.v (.one (dI (a0.funs.length:Int)))),(54,.v (.one (dI s1)))],m30f4_h3 a1 a2 a0 v19,[],8,95,[3,43,90]⟩) 0 o25 (Qu (tA J) (hA J) kZ J (Nat.le_trans hv0 (lb J)) J J J (bB J J (bG J (bB J J (bB J J (bG J (bA J)))))) J J) hl1 (fun s1 n1 oo1 h1 ho1=>?_)
 unfold ZO at h1
 refine Q5<|Q0<|rR J J J (Q7 J J J)<|Q3<|Q4<|Q5 ?_
 refine Qh (b:=(decide (s1 < (a0.funs.length:Int)))) J (fun c26=>?_) (fun c26=>?_)
 replace h1:=Qk c26 h1
 refine Qm<|Q4<|Q5<|Qf<|Q5<|Q0 ?_
 refine Qb h1 (fun x27 hx27 h1=>?_)
 refine rR J J J (Qy (α:=Fn) YL J (.d _) J hx27)<|rR J J J (Qv (x27:Fn) ZF J)<|Q9 J J (lb J) (Qj UU J)<|Qx J J (Qz (x27:Fn) ZF J J J J J)<|Q3<|Q4<|Q0<|rM J J J<|rR J J J (Q2 Xc J)<|rR J J J (Qi QV J J J J)<|rR J J J (Q2 Yl J)<|rR J J J (Q6 QU J J J)<|rR J J J (Q6 YA J J J) ?_
 refine Qb h1 (fun x28 hx28 h1=>?_)
 refine JY id hx28 h1 (fun x29 hx29 h1=>?_) (fun x30 hx30 h1=>?_)
 refine Q9 J J (lb J) (Jj (hp1':=[(0,.cells 62 [dS a1,.mp 1]),(1,.mp (QO a2.1) a2.2),(6,.mp (QO v19.1) v19.2)]) (tk1':=[]) (hpF:=m30f4_h4 a0 x27) (tkF:=[]) (res2:=QK []) (nx2:=17) [0,1,6] J J (CallE.m (YF x27.ty 0 a0.params a1 a2 v19 (.inl x29) hx29)) J J (qB J J (qG J (qG J qZ))) J J (gR J (gG J (gG J gZ))) jZ (hA J) kZ J J J J J (bB J J (bG J (bG J bZ))) J J J J)<|Q3<|Qe<|Q4<|Q0<|rR J J J (Q7 J J J)<|rM J J J<|Q3 ?_
 have e:=sI h1;subst e
 refine QR (J9 (s1+1)) (Qu (tA J) (hA J) kZ J (Nat.le_trans hv0 (lb J)) J J J (bB J J (bG J (bB J J (bB J J (bG J (bA J)))))) J J) ho1
 refine Jf J (Yy (hp1':=[(0,.cells 62 [dS a1,.mp 1]),(1,.mp (QO a2.1) a2.2),(6,.mp (QO v19.1) v19.2)]) (tk1':=[]) (hpF:=m30f4_h4 a0 x27) (tkF:=[]) (nx2:=12) [0,1,6] J J (CallE.d (YF x27.ty 0 a0.params a1 a2 v19 (.inr x30) hx30)) J J (qB J J (qG J (qG J qZ))) J (gR J (gG J (gG J gZ))) jZ (hA J) kZ J J J J J (bB J J (bG J (bG J bZ))) J J J J) ?_
 have e:=sI h1;subst e
 have e_:_=_:=ho1
 subst e_
 try dsimp only [Sum.elim_inl,Sum.elim_inr] at h0
 have e:=sI h0;subst e
 exact Jo (hQ0 (.panic (Jx (QJ 90 x30))) _ J (US _ _ _ J (Qu (tA J) (hA J) kZ J (Nat.le_trans hv0 (lb J)) J J J (bB J J (bG J (bA J))) J J))) (fun _ _ h=>h)
 replace h1:=Ql c26 h1
 refine J5<|Qo<|Qo ?_
 have e:=sI h1;subst e
 have e_:_=_:=ho1
 subst e_
 exact QW () (Qu (tA J) (hA J) kZ J (Nat.le_trans hv0 (lb J)) J J J (bB J J (bG J (bB J J (bB J J (bG J (bA J)))))) J J) h0
 intro o24 h0
 unfold G8 at h0
 refine QM<|Q4<|Q5<|Q5 ?_
 refine Jv [6] [] YQ (by kernel_rfl) (by kernel_rfl) (by kernel_rfl) ?_
 refine RunA.rd J J J (Q1 (QN (a0:Dcl) JX J J)) J<|RunA.rd J J J (Q1 (Qr J)) J<|RunA.rd J J J (Q1 (Ju J)) J<|RunA.rd J J J (Q1 (Q2 fo_62_0 J)) J<|RunA.rd J J J (Q1 (Q6 ag_22 J J J)) J<|RunA.rd J J J (Q1 (QA (α:=Dcl) Zi J (.d _))) J ?_
 refine Qb h0 (fun y31 h1 h0=>?_)
 have hc32:CallM Try.prog 31 [.agg (cE a0),.one (dI (a1.length:Int))] ⟨m30f4_h3 a1 a2 a0 v19,[],8⟩ (QK [.one (.fn 49 [(9,0),(8,0)])]) ⟨GQ a1 a2 a0 v19,[],10⟩:=by
  refine J0 ⟨[(4,.v (.one (.fn 49 [(9,0),(8,0)])))],GQ a1 a2 a0 v19,[],10,6,[]⟩ J J en_31 (lb J) J (QC J .nil) (fun w0 M V0 Q hv1 hQ1=>?_)
  simp only [Ja]
  refine Q5<|Q0<|Q9 J J (lb J) (QT J)<|Q9 J J (lb J) (QT J)<|rA J J J<|Q3<|Q4<|Q5<|Q0<|rR J J J (ZW J J)<|rA J J J<|Q3<|Q4<|QD ?_
  have e:=sI h1;subst e
  exact hQ1 _ _ _ (.inr J) J (Qu (tA J) (hA J) kZ J (Nat.le_trans hv1 (lb J)) J J J (bB J J (bG J (bB J J (bB J J (bG J (bA J)))))) J J)
 refine RunA.eff J J J (JJ J J J hc32 J (hA J) kZ) J ?_
 refine RunA.nil ⟨?ex,_,_,J,?_⟩
 case ex=>exact trivial
 refine JW (st':=⟨[(0,.v (.one (.ptr 0 0))),(3,.v (.one (.ptr 2 0))),(4,.v (.one (.ptr 3 0))),(5,.v (.one (.ptr 7 0))),(72,.v (.one (.fn 49 [(9,0),(8,0)])))],GQ a1 a2 a0 v19,[],10,95,[3,43,90]⟩) (Qu (tA J) (hA J) kZ J (Nat.le_trans hv0 (lb J)) J J J (bB J J (bG J (bB J J (bB J J (bG J (bA J)))))) J J)<|Q4<|Qf<|KH (st':=⟨[(0,.v (.one (.ptr 0 0))),(3,.v (.one (.ptr 2 0))),(4,.v (.one (.ptr 3 0))),(5,.v (.one (.ptr 7 0))),(72,.v (.one (.fn 49 [(9,0),(8,0)])))],GQ a1 a2 a0 v19,[],10,95,[3,43,90]⟩) (Qu (tA J) (hA J) kZ J (Nat.le_trans hv0 (lb J)) J J J (bB J J (bG J (bB J J (bB J J (bG J (bA J)))))) J J) ?_
 refine Qb h0 (fun y33 h1 h0=>?_)
 have hc34:CallM Try.prog 49 [.one (.yld 11),.one (.ptr 9 0),.one (.ptr 8 0)] ⟨[(11,.loop .ready none [(0,.v (.one (.ptr 0 0))),(3,.v (.one (.ptr 2 0))),(4,.v (.one (.ptr 3 0))),(5,.v (.one (.ptr 7 0))),(72,.v (.one (.fn 49 [(9,0),(8,0)])))] 95 #[73,74] Kk Kj 10),(10,.obj (.deferred (some []))),(0,.cells 62 [dS a1,.mp 1]),(1,.mp (QO a2.1) a2.2),(2,.cells 45 (cE a0)),(3,.cells 25 [dI 0]),(6,.mp (QO v19.1) v19.2),(7,.cells 60 [.mp 6]),(8,.cells 45 (cE a0)),(9,.cells 3 [dI (a1.length:Int)])],[],12⟩ (QK []) ⟨m30f4_h7 a1 a2 a0 y33,[],13⟩:=by
  refine J0 ⟨[],m30f4_h7 a1 a2 a0 y33,[],13,98,[]⟩ J J en_49 (lb J) J .nil (fun w0 M V0 Q hv1 hQ1=>?_)
  simp only [Ja]
  refine Q5<|Q0<|rR J J J (Q6 QU J J J)<|rR J J J (Q2 Yl J)<|rR J J J (Q6 QU J J J)<|rR J J J (Q2 KF J)<|rR J J J (Qi QV J J J J)<|rR J J J (ZH Kn J J J J J)<|Q9 J J (lb J) (Qj Zl J)<|Qx J J (Qt Jm J J J J (lb J) J)<|Q3<|Q4<|Q5<|Q0 ?_
  refine rR J J J (Q2 Yu J)<|rR J J J (Q6 QU J J J)<|Q3<|Q4<|Qf<|Q5<|Q5<|Q0<|rR J J J (Q7 J J J)<|rA J J J<|Q3<|Q4 ?_
  refine QS (fun (v35:Bool)=>⟨[(0,.v (.one (.yld 11))),(1,.v (.one (.ptr 9 0))),(2,.v (.one (.ptr 8 0))),(4,.v (.one (.ptr 12 0))),(16,.v (.one (dI a0.kind))),(17,.v (.one (dB v35)))],m30f4_h9 a1 a2 a0 v19,[],13,98,[]⟩) (fun (v35:Bool)=>(GP v35 a0 v19 a1)=some y33) ?_ ?_
  refine Qb h1 (fun w2_ h2 h1=>?_)
  refine Qh (b:=(a0.kind==0)) J (fun c36=>?_) (fun c36=>?_)
  replace h2:=Qk c36 h2
  refine Qm ?_
  have e:=sI h2;subst e
  exact Qd (a0.kind==0) (Qu (tA J) (hA J) kZ J (Nat.le_trans hv1 (lb J)) J J J (bB J J (bG J (bB J J (bB J J (bG J (bA J)))))) J J) h1
  replace h2:=Ql c36 h2
  refine Q5<|Q0<|rR J J J (Q7 J J J)<|rA J J J<|Q3<|Q4 ?_
  refine Qh (b:=(a0.kind==1)) J (fun c37=>?_) (fun c37=>?_)
  replace h2:=Qk c37 h2
  refine Qm ?_
  have e:=sI h2;subst e
  exact Qd (a0.kind==1) (Qu (tA J) (hA J) kZ J (Nat.le_trans hv1 (lb J)) J J J (bB J J (bG J (bB J J (bB J J (bG J (bA J)))))) J J) h1
  replace h2:=Ql c37 h2
  refine Q0<|rR J J J (Q7 J J J)<|rA J J J<|Q3 ?_
  have e:=sI h2;subst e
  exact Qd (a0.kind==2) (Qu (tA J) (hA J) kZ J (Nat.le_trans hv1 (lb J)) J J J (bB J J (bG J (bB J J (bB J J (bG J (bA J)))))) J J) h1
  intro v35 h1
  unfold GP at h1
  refine Q4 ?_
  refine Qh (b:=v35) J (fun c38=>?_) (fun c38=>?_)
  replace h1:=Qk c38 h1
  refine Q5<|Q0<|Q9 J J (lb J) (OpOK.lit3E (α:=Int) 0 1 2 Uk z_3 J J (lb J) (lb J) J J J J (.cons (.d _) (.cons (.d _) (.cons (.d _) .nil))) ⟨J,J,J⟩)<|rR J J J (Q2 Yu J)<|rR J J J (Q6 QU J J J) ?_
  refine Qb h1 (fun x39 hx39 h1=>?_)
  refine rR J J J (Qy (α:=Int) Uk J (.app _ _) J hx39)<|rR J J J (JQ QU J J)<|rR J J J (Q2 ZR J)<|Qx J J (Qt QU J J J J (lb J) J)<|Q3<|Q4<|Q0<|rM J J J<|rR J J J (Q2 Ym J)<|rR J J J (Q6 JV J J J)<|rR J J J (Qi Jm J J J J) ?_
  refine Qb h1 (fun y40 h2 h1=>?_)
  have ha41:ExecOK Try.prog (some 11) Kk ⟨[(0,.v (.one (.ptr 0 0))),(3,.v (.one (.ptr 2 0))),(4,.v (.one (.ptr 3 0))),(5,.v (.one (.ptr 7 0))),(72,.v (.one (.fn 49 [(9,0),(8,0)]))),(73,.v (.one (Jn a0.name))),(74,.v (.agg [dI x39,dI (a1.length:Int),dI 0,dI a0.params,dI a0.ty.kind,dI a0.ty.index,Jn a0.ty.name,dS a0.ty.levels,dS a0.ty.kids]))],m30f4_h11 a1 a2 a0 v19 x39,[(13,some ⟨3,1,(Enc.encL ([0,1,2]:List Int)).length,[]⟩)],14,95,[]⟩ .normal ⟨[(5,.v (.one (.ptr 7 0))),(8,.v (.one (Jn a0.name))),(9,.v (.one (.ptr 14 0)))],m30f4_h14 a1 a2 a0 v19 x39,[(13,some ⟨3,1,(Enc.encL ([0,1,2]:List Int)).length,[]⟩)],15,95,[]⟩:=by
   refine QI (fun w0 M V0 ro n Q hv2 hro2 hQn2=>?_)
   refine Q5<|Q0<|rA J J J<|Q3<|Q4<|Q0<|Q9 J J (lb J) (Qj Zl J)<|Qx J J (Qt Jm J J J J (lb J) J)<|Q3 ?_
   exact Jq hQn2 (Qu (tA J) (hA J) (kA J) J (Nat.le_trans hv2 (lb J)) J J J (bB J J (bG J (bB J J (bB J J (bG J (bA J)))))) J J)
  have hb42:ExecOK Try.prog (some 11) Kj ⟨[(5,.v (.one (.ptr 7 0))),(8,.v (.one (Jn a0.name))),(9,.v (.one (.ptr 14 0)))],m30f4_h13 a1 a2 a0 v19 x39,[(13,some ⟨3,1,(Enc.encL ([0,1,2]:List Int)).length,[]⟩)],15,95,[]⟩ .normal ⟨[],m30f4_h16 a1 a2 a0 v19 x39,[(13,some ⟨3,1,(Enc.encL ([0,1,2]:List Int)).length,[]⟩)],15,95,[]⟩:=by
   refine QI (fun w0 M V0 ro n Q hv2 hro2 hQn2=>?_)
   refine Qf<|Q0<|rR J J J (Q6 YA J J J)<|rM J J J<|rR J J J (Qi Jm J J J J)<|Qx J J (Jh (M:=v19) (k:=a0.name) (v:=(⟨x39,(a1.length:Int),0,a0.params,a0.ty⟩:Ent)) YP J J J J J)<|Q3<|Qe ?_
   have e:=sI h2;subst e
   exact Jq hQn2 (Qu tZ (hA J) (kA J) J (Nat.le_trans hv2 (lb J)) J J J (bB J J (bG J (bB J J (bB J J (bG J (bA J)))))) J J)
  refine Q9 J J (lb J) (Je (jump:=none) J J J J J (Qw ha41 (fun E hv=>(Qu (tA J) (hA J) (kA J) J (Nat.le_trans hv (lb J)) J J J (bB J J (bG J (bB J J (bB J J (bG J (bA J)))))) J J))) J (Qw hb42 (fun E hv=>(Qu (tA J) (hA J) (kA J) J (Nat.le_trans hv (lb J)) J J J (bB J J (bG J (bB J J (bB J J (bG J (bA J)))))) J J))) J J) ?_
  refine Q3<|Qe ?_
  have e:=sI h1;subst e
  exact hQ1 _ _ _ (.inl J) J (Qu tZ (hA J) kZ J (Nat.le_trans hv1 (lb J)) J J J (bB J J (bG J (bB J J (bB J J (bG J (bA J)))))) J J)
  replace h1:=Ql c38 h1
  refine Q5<|Q0<|rR J J J (Q7 J J J)<|rA J J J<|Q3<|Q4 ?_
  refine Qh (b:=(a0.kind==3)) J (fun c43=>?_) (fun c43=>?_)
  replace h1:=Qk c43 h1
  refine Q5<|Q0<|rR J J J (Q2 ZR J)<|Qx J J (Qt QU J J J J (lb J) J)<|Q3<|Q4<|Q5<|Q5<|Q0<|rM J J J<|rR J J J (Q2 Ym J)<|rR J J J (Q6 JV J J J)<|rR J J J (Qi Jm J J J J) ?_
  refine Qb h1 (fun y44 h2 h1=>?_)
  have ha45:ExecOK Try.prog (some 11) Kk ⟨[(0,.v (.one (.ptr 0 0))),(3,.v (.one (.ptr 2 0))),(4,.v (.one (.ptr 3 0))),(5,.v (.one (.ptr 7 0))),(72,.v (.one (.fn 49 [(9,0),(8,0)]))),(73,.v (.one (Jn a0.name))),(74,.v (.agg [dI 3,dI (a1.length:Int),dI 0,dI a0.params,dI a0.ty.kind,dI a0.ty.index,Jn a0.ty.name,dS a0.ty.levels,dS a0.ty.kids]))],m30f4_h18 a1 a2 a0 v19,[],13,95,[]⟩ .normal ⟨[(5,.v (.one (.ptr 7 0))),(8,.v (.one (Jn a0.name))),(9,.v (.one (.ptr 13 0)))],m30f4_h20 a1 a2 a0 v19,[],14,95,[]⟩:=by
   refine QI (fun w0 M V0 ro n Q hv2 hro2 hQn2=>?_)
   refine Q5<|Q0<|rA J J J<|Q3<|Q4<|Q0<|Q9 J J (lb J) (Qj Zl J)<|Qx J J (Qt Jm J J J J (lb J) J)<|Q3 ?_
   exact Jq hQn2 (Qu (tA J) (hA J) kZ J (Nat.le_trans hv2 (lb J)) J J J (bB J J (bG J (bB J J (bB J J (bG J (bA J)))))) J J)
  have hb46:ExecOK Try.prog (some 11) Kj ⟨[(5,.v (.one (.ptr 7 0))),(8,.v (.one (Jn a0.name))),(9,.v (.one (.ptr 13 0)))],m30f4_h19 a1 a2 a0 v19,[],14,95,[]⟩ .normal ⟨[],m30f4_h22 a1 a2 a0 v19,[],14,95,[]⟩:=by
   refine QI (fun w0 M V0 ro n Q hv2 hro2 hQn2=>?_)
   refine Qf<|Q0<|rR J J J (Q6 YA J J J)<|rM J J J<|rR J J J (Qi Jm J J J J)<|Qx J J (Jh (M:=v19) (k:=a0.name) (v:=(⟨3,(a1.length:Int),0,a0.params,a0.ty⟩:Ent)) YP J J J J J)<|Q3<|Qe ?_
   have e:=sI h2;subst e
   exact Jq hQn2 (Qu tZ (hA J) kZ J (Nat.le_trans hv2 (lb J)) J J J (bB J J (bG J (bB J J (bB J J (bG J (bA J)))))) J J)
  refine Q9 J J (lb J) (Je (jump:=none) J J J J J (Qw ha45 (fun E hv=>(Qu (tA J) (hA J) kZ J (Nat.le_trans hv (lb J)) J J J (bB J J (bG J (bB J J (bB J J (bG J (bA J)))))) J J))) J (Qw hb46 (fun E hv=>(Qu (tA J) (hA J) kZ J (Nat.le_trans hv (lb J)) J J J (bB J J (bG J (bB J J (bB J J (bG J (bA J)))))) J J))) J J) ?_
  refine rR J J J (Ji J)<|Q3<|Q4 ?_
  refine Qh J (fun h=>nomatch h) (fun _=>?_)
  refine Qm<|Q4<|Q5<|Q5<|Q0<|rR J J J (Q2 YD J)<|rR J J J (Q6 K2 J J J)<|rR J J J (QA (α:=Ctr) YM J (.d _))<|rM J J J<|Q3<|Q4<|Qf ?_
  refine QY 1 (fun (o47:(Qa Bs Ent))=>⟨[(0,.v (.one (.yld 11))),(1,.v (.one (.ptr 9 0))),(2,.v (.one (.ptr 8 0)))],[(0,.cells 62 [dS a1,.mp 1]),(1,.mp (QO a2.1) a2.2),(2,.cells 45 (cE a0)),(3,.cells 25 [dI 0]),(6,.mp (QO o47.1) o47.2),(7,.cells 60 [.mp 6]),(8,.cells 45 (cE a0)),(9,.cells 3 [dI (a1.length:Int)]),(10,.obj (.deferred (some []))),(11,Yz),(12,Yg a1 a0)],[],14,98,[]⟩) (fun (o47:(Qa Bs Ent))=>(Xz a0 o47 a1)=some y33) ?_ ?_
  refine Qb h1 (fun o48 hl2 h1=>?_)
  refine QX (G7 a0 a1) (fun s2=>⟨[(0,.v (.one (.yld 11))),(1,.v (.one (.ptr 9 0))),(2,.v (.one (.ptr 8 0))),(42,.v (.one (dS a0.ctors))),(43,.v (.one (dI (a0.ctors.length:Int)))),(44,.v (.one (dI s2.1)))],[(0,.cells 62 [dS a1,.mp 1]),(1,.mp (QO a2.1) a2.2),(2,.cells 45 (cE a0)),(3,.cells 25 [dI 0]),(6,.mp (QO s2.2.1) s2.2.2),(7,.cells 60 [.mp 6]),(8,.cells 45 (cE a0)),(9,.cells 3 [dI (a1.length:Int)]),(10,.obj (.deferred (some []))),(11,Yz),(12,Yg a1 a0)],[],14,98,[]⟩) (0,(J2 v19 a0.name (⟨3,(a1.length:Int),0,a0.params,a0.ty⟩:Ent))) o48 (Qu (tA J) (hA J) kZ J (Nat.le_trans hv1 (lb J)) J J J (bB J J (bG J (bB J J (bB J J (bG J (bA J)))))) J J) hl2 (fun s2 n2 oo2 h2 ho2=>?_)
  unfold G7 at h2
  refine Q5<|Q0<|rR J J J (Q7 J J J)<|Q3<|Q4<|Q5 ?_
  refine Qh (b:=(decide (s2.1 < (a0.ctors.length:Int)))) J (fun c49=>?_) (fun c49=>?_)
  replace h2:=Qk c49 h2
  refine Qm<|Q4<|Q5<|Qf<|Q5<|Q0<|rM J J J ?_
  refine Qb h2 (fun x50 hx50 h2=>?_)
  refine rR J J J (Qy (α:=Ctr) YM J (.d _) J hx50)<|rR J J J (Qv (x50:Ctr) K0 J)<|Q9 J J (lb J) (Qj UV J)<|rA J J J<|Qx J J (Qz (x50:Ctr) K0 J J J J J)<|Q3<|Q4<|Q5<|Q0<|rM J J J<|rR J J J (Q2 Gs J)<|rR J J J (Q6 JV J J J)<|rR J J J (Q6 QU J J J)<|rM J J J ?_
  refine rR J J J (Q2 Yl J)<|rR J J J (Q6 QU J J J)<|rR J J J (Q2 KE J)<|rR J J J (Qi QV J J J J)<|rR J J J (Y0 Kn J (.cons J (.cons J (.cons J (.cons J (.cons J .nil))))) J) ?_
  refine Qb h2 (fun y51 h3 h2=>?_)
  have ha52:ExecOK Try.prog (some 11) Kk ⟨[(0,.v (.one (.ptr 0 0))),(3,.v (.one (.ptr 2 0))),(4,.v (.one (.ptr 3 0))),(5,.v (.one (.ptr 7 0))),(72,.v (.one (.fn 49 [(9,0),(8,0)]))),(73,.v (.one (Jn x50.name))),(74,.v (.agg [dI 4,dI (a1.length:Int),dI s2.1,dI a0.params,dI x50.ty.kind,dI x50.ty.index,Jn x50.ty.name,dS x50.ty.levels,dS x50.ty.kids]))],m30f4_h23 a1 a2 a0 s2 x50,[],15,95,[]⟩ .normal ⟨[(5,.v (.one (.ptr 7 0))),(8,.v (.one (Jn x50.name))),(9,.v (.one (.ptr 15 0)))],m30f4_h26 a1 a2 a0 s2 x50,[],16,95,[]⟩:=by
   refine QI (fun w0 M V0 ro n Q hv3 hro3 hQn3=>?_)
   refine Q5<|Q0<|rA J J J<|Q3<|Q4<|Q0<|Q9 J J (lb J) (Qj Zl J)<|Qx J J (Qt Jm J J J J (lb J) J)<|Q3 ?_
   exact Jq hQn3 (Qu (tA J) (hA J) kZ J (Nat.le_trans hv3 (lb J)) J J J (bB J J (bG J (bB J J (bB J J (bG J (bA J)))))) J J)
  have hb53:ExecOK Try.prog (some 11) Kj ⟨[(5,.v (.one (.ptr 7 0))),(8,.v (.one (Jn x50.name))),(9,.v (.one (.ptr 15 0)))],m30f4_h25 a1 a2 a0 s2 x50,[],16,95,[]⟩ .normal ⟨[],m30f4_h28 a1 a2 a0 s2 x50,[],16,95,[]⟩:=by
   refine QI (fun w0 M V0 ro n Q hv3 hro3 hQn3=>?_)
   refine Qf<|Q0<|rR J J J (Q6 YA J J J)<|rM J J J<|rR J J J (Qi Jm J J J J)<|Qx J J (Jh (M:=s2.2) (k:=x50.name) (v:=(⟨4,(a1.length:Int),s2.1,a0.params,x50.ty⟩:Ent)) YP J J J J J)<|Q3<|Qe ?_
   have e:=sI h3;subst e
   exact Jq hQn3 (Qu tZ (hA J) kZ J (Nat.le_trans hv3 (lb J)) J J J (bB J J (bG J (bB J J (bB J J (bG J (bA J)))))) J J)
  refine Q9 J J (lb J) (Je (jump:=none) J J J J J (Qw ha52 (fun E hv=>(Qu (tA J) (hA J) kZ J (Nat.le_trans hv (lb J)) J J J (bB J J (bG J (bB J J (bB J J (bG J (bA J)))))) J J))) J (Qw hb53 (fun E hv=>(Qu (tA J) (hA J) kZ J (Nat.le_trans hv (lb J)) J J J (bB J J (bG J (bB J J (bB J J (bG J (bA J)))))) J J))) J J) ?_
  refine rR J J J (Ji J)<|Q3<|Q4 ?_
  refine Qh J (fun h=>nomatch h) (fun _=>?_)
  refine Qm<|Qe<|Q4<|Q0<|rR J J J (Q7 J J J)<|rM J J J<|Q3 ?_
  have e:=sI h2;subst e
  refine QR ((J9 (s2.1+1)),(J2 s2.2 x50.name (⟨4,(a1.length:Int),s2.1,a0.params,x50.ty⟩:Ent))) (Qu (tA J) (hA J) kZ J (Nat.le_trans hv1 (lb J)) J J J (bB J J (bG J (bB J J (bB J J (bG J (bA J)))))) J J) ho2
  replace h2:=Ql c49 h2
  refine J5<|Qo<|Qo ?_
  have e:=sI h2;subst e
  have e_:_=_:=ho2
  subst e_
  exact QW s2.2 (Qu (tA J) (hA J) kZ J (Nat.le_trans hv1 (lb J)) J J J (bB J J (bG J (bB J J (bB J J (bG J (bA J)))))) J J) h1
  intro o47 h1
  unfold Xz at h1
  refine QM<|Q4<|Q0<|rM J J J<|rR J J J (Q2 Ym J)<|rR J J J (Q6 JV J J J) ?_
  refine Yo h1 (fun g54 h1=>?_)
  refine rR J J J (W4 J J g54)<|rR J J J (Q6 QU J J J)<|rR J J J (Q2 JT J)<|rR J J J (Q2 Gu J)<|rR J J J (Q6 QU J J J)<|rR J J J (Q2 JT J)<|rR J J J (Q2 Gt J)<|rR J J J (Qi QV J J J J)<|rR J J J (Y0 Kn J (.cons J (.cons J (.cons J (.cons J .nil)))) J) ?_
  refine Qb h1 (fun y55 h2 h1=>?_)
  have ha56:ExecOK Try.prog (some 11) Kk ⟨[(0,.v (.one (.ptr 0 0))),(3,.v (.one (.ptr 2 0))),(4,.v (.one (.ptr 3 0))),(5,.v (.one (.ptr 7 0))),(72,.v (.one (.fn 49 [(9,0),(8,0)]))),(73,.v (.one (Jn (a0.name++([46,114,101,99]:List UInt8))))),(74,.v (.agg [dI 5,dI (a1.length:Int),dI 0,dI a0.rcr.params,dI a0.rcr.ty.kind,dI a0.rcr.ty.index,Jn a0.rcr.ty.name,dS a0.rcr.ty.levels,dS a0.rcr.ty.kids]))],m30f4_h18 a1 a2 a0 o47,[],14,95,[]⟩ .normal ⟨[(5,.v (.one (.ptr 7 0))),(8,.v (.one (Jn (a0.name++([46,114,101,99]:List UInt8))))),(9,.v (.one (.ptr 14 0)))],m30f4_h31 a1 a2 a0 o47,[],15,95,[]⟩:=by
   refine QI (fun w0 M V0 ro n Q hv2 hro2 hQn2=>?_)
   refine Q5<|Q0<|rA J J J<|Q3<|Q4<|Q0<|Q9 J J (lb J) (Qj Zl J)<|Qx J J (Qt Jm J J J J (lb J) J)<|Q3 ?_
   exact Jq hQn2 (Qu (tA J) (hA J) kZ J (Nat.le_trans hv2 (lb J)) J J J (bB J J (bG J (bB J J (bB J J (bG J (bA J)))))) J J)
  have hb57:ExecOK Try.prog (some 11) Kj ⟨[(5,.v (.one (.ptr 7 0))),(8,.v (.one (Jn (a0.name++([46,114,101,99]:List UInt8))))),(9,.v (.one (.ptr 14 0)))],m30f4_h30 a1 a2 a0 o47,[],15,95,[]⟩ .normal ⟨[],m30f4_h33 a1 a2 a0 o47,[],15,95,[]⟩:=by
   refine QI (fun w0 M V0 ro n Q hv2 hro2 hQn2=>?_)
   refine Qf<|Q0<|rR J J J (Q6 YA J J J)<|rM J J J<|rR J J J (Qi Jm J J J J)<|Qx J J (Jh (M:=o47) (k:=(a0.name++([46,114,101,99]:List UInt8))) (v:=(⟨5,(a1.length:Int),0,a0.rcr.params,a0.rcr.ty⟩:Ent)) YP J J J J J)<|Q3<|Qe ?_
   have e:=sI h2;subst e
   exact Jq hQn2 (Qu tZ (hA J) kZ J (Nat.le_trans hv2 (lb J)) J J J (bB J J (bG J (bB J J (bB J J (bG J (bA J)))))) J J)
  refine Q9 J J (lb J) (Je (jump:=none) J J J J J (Qw ha56 (fun E hv=>(Qu (tA J) (hA J) kZ J (Nat.le_trans hv (lb J)) J J J (bB J J (bG J (bB J J (bB J J (bG J (bA J)))))) J J))) J (Qw hb57 (fun E hv=>(Qu (tA J) (hA J) kZ J (Nat.le_trans hv (lb J)) J J J (bB J J (bG J (bB J J (bB J J (bG J (bA J)))))) J J))) J J) ?_
  refine Q3<|Qe ?_
  have e:=sI h1;subst e
  exact hQ1 _ _ _ (.inl J) J (Qu tZ (hA J) kZ J (Nat.le_trans hv1 (lb J)) J J J (bB J J (bG J (bB J J (bB J J (bG J (bA J)))))) J J)
  replace h1:=Ql c43 h1
  refine Q5<|Q0<|rR J J J (Q7 J J J)<|rA J J J<|Q3<|Q4 ?_
  refine Qh (b:=(a0.kind==4)) J (fun c58=>?_) (fun c58=>?_)
  replace h1:=Qk c58 h1
  refine Q5<|Q0<|rR J J J (Q2 YC J)<|rR J J J (Q6 K1 J J J)<|rR J J J (QA (α:=Fn) YL J (.d _))<|rM J J J<|Q3<|Q4<|Qf ?_
  refine QY 3 (fun (o59:(Qa Bs Ent))=>⟨[],[(0,.cells 62 [dS a1,.mp 1]),(1,.mp (QO a2.1) a2.2),(2,.cells 45 (cE a0)),(3,.cells 25 [dI 0]),(6,.mp (QO o59.1) o59.2),(7,.cells 60 [.mp 6]),(8,.cells 45 (cE a0)),(9,.cells 3 [dI (a1.length:Int)]),(10,.obj (.deferred (some []))),(11,Yz),(12,G9 a1 a0)],[],13,98,[]⟩) (fun (o59:(Qa Bs Ent))=>(some o59)=some y33) ?_ ?_
  refine Qb h1 (fun o60 hl2 h1=>?_)
  refine QX (GO a0 a1) (fun s2=>⟨[(0,.v (.one (.yld 11))),(1,.v (.one (.ptr 9 0))),(2,.v (.one (.ptr 8 0))),(78,.v (.one (dS a0.funs))),(79,.v (.one (dI (a0.funs.length:Int)))),(80,.v (.one (dI s2.1)))],[(0,.cells 62 [dS a1,.mp 1]),(1,.mp (QO a2.1) a2.2),(2,.cells 45 (cE a0)),(3,.cells 25 [dI 0]),(6,.mp (QO s2.2.1) s2.2.2),(7,.cells 60 [.mp 6]),(8,.cells 45 (cE a0)),(9,.cells 3 [dI (a1.length:Int)]),(10,.obj (.deferred (some []))),(11,Yz),(12,G9 a1 a0)],[],13,98,[]⟩) (0,v19) o60 (Qu (tA J) (hA J) kZ J (Nat.le_trans hv1 (lb J)) J J J (bB J J (bG J (bB J J (bB J J (bG J (bA J)))))) J J) hl2 (fun s2 n2 oo2 h2 ho2=>?_)
  unfold GO at h2
  refine Q5<|Q0<|rR J J J (Q7 J J J)<|Q3<|Q4<|Q5 ?_
  refine Qh (b:=(decide (s2.1 < (a0.funs.length:Int)))) J (fun c61=>?_) (fun c61=>?_)
  replace h2:=Qk c61 h2
  refine Qm<|Q4<|Q5<|Qf<|Q5<|Q0<|rM J J J ?_
  refine Qb h2 (fun x62 hx62 h2=>?_)
  refine rR J J J (Qy (α:=Fn) YL J (.d _) J hx62)<|rR J J J (Qv (x62:Fn) ZF J)<|Q9 J J (lb J) (Qj UU J)<|rA J J J<|Qx J J (Qz (x62:Fn) ZF J J J J J)<|Q3<|Q4<|Q5<|Q0<|rM J J J<|rR J J J (Q2 W0 J)<|rR J J J (Q6 JV J J J)<|rR J J J (Q6 QU J J J)<|rM J J J ?_
  refine rR J J J (Q2 Yl J)<|rR J J J (Q6 QU J J J)<|rR J J J (Q2 Xc J)<|rR J J J (Qi QV J J J J)<|rR J J J (Y0 Kn J (.cons J (.cons J (.cons J (.cons J (.cons J .nil))))) J) ?_
  refine Qb h2 (fun y63 h3 h2=>?_)
  have ha64:ExecOK Try.prog (some 11) Kk ⟨[(0,.v (.one (.ptr 0 0))),(3,.v (.one (.ptr 2 0))),(4,.v (.one (.ptr 3 0))),(5,.v (.one (.ptr 7 0))),(72,.v (.one (.fn 49 [(9,0),(8,0)]))),(73,.v (.one (Jn x62.name))),(74,.v (.agg [dI 6,dI (a1.length:Int),dI s2.1,dI a0.params,dI x62.ty.kind,dI x62.ty.index,Jn x62.ty.name,dS x62.ty.levels,dS x62.ty.kids]))],m30f4_h34 a1 a2 a0 s2 x62,[],14,95,[]⟩ .normal ⟨[(5,.v (.one (.ptr 7 0))),(8,.v (.one (Jn x62.name))),(9,.v (.one (.ptr 14 0)))],m30f4_h37 a1 a2 a0 s2 x62,[],15,95,[]⟩:=by
   refine QI (fun w0 M V0 ro n Q hv3 hro3 hQn3=>?_)
   refine Q5<|Q0<|rA J J J<|Q3<|Q4<|Q0<|Q9 J J (lb J) (Qj Zl J)<|Qx J J (Qt Jm J J J J (lb J) J)<|Q3 ?_
   exact Jq hQn3 (Qu (tA J) (hA J) kZ J (Nat.le_trans hv3 (lb J)) J J J (bB J J (bG J (bB J J (bB J J (bG J (bA J)))))) J J)
  have hb65:ExecOK Try.prog (some 11) Kj ⟨[(5,.v (.one (.ptr 7 0))),(8,.v (.one (Jn x62.name))),(9,.v (.one (.ptr 14 0)))],m30f4_h36 a1 a2 a0 s2 x62,[],15,95,[]⟩ .normal ⟨[],m30f4_h39 a1 a2 a0 s2 x62,[],15,95,[]⟩:=by
   refine QI (fun w0 M V0 ro n Q hv3 hro3 hQn3=>?_)
   refine Qf<|Q0<|rR J J J (Q6 YA J J J)<|rM J J J<|rR J J J (Qi Jm J J J J)<|Qx J J (Jh (M:=s2.2) (k:=x62.name) (v:=(⟨6,(a1.length:Int),s2.1,a0.params,x62.ty⟩:Ent)) YP J J J J J)<|Q3<|Qe ?_
   have e:=sI h3;subst e
   exact Jq hQn3 (Qu tZ (hA J) kZ J (Nat.le_trans hv3 (lb J)) J J J (bB J J (bG J (bB J J (bB J J (bG J (bA J)))))) J J)
  refine Q9 J J (lb J) (Je (jump:=none) J J J J J (Qw ha64 (fun E hv=>(Qu (tA J) (hA J) kZ J (Nat.le_trans hv (lb J)) J J J (bB J J (bG J (bB J J (bB J J (bG J (bA J)))))) J J))) J (Qw hb65 (fun E hv=>(Qu (tA J) (hA J) kZ J (Nat.le_trans hv (lb J)) J J J (bB J J (bG J (bB J J (bB J J (bG J (bA J)))))) J J))) J J) ?_
  refine rR J J J (Ji J)<|Q3<|Q4 ?_
  refine Qh J (fun h=>nomatch h) (fun _=>?_)
  refine Qm<|Qe<|Q4<|Q0<|rR J J J (Q7 J J J)<|rM J J J<|Q3 ?_
  have e:=sI h2;subst e
  refine QR ((J9 (s2.1+1)),(J2 s2.2 x62.name (⟨6,(a1.length:Int),s2.1,a0.params,x62.ty⟩:Ent))) (Qu (tA J) (hA J) kZ J (Nat.le_trans hv1 (lb J)) J J J (bB J J (bG J (bB J J (bB J J (bG J (bA J)))))) J J) ho2
  replace h2:=Ql c61 h2
  refine J5<|Qo<|Qo ?_
  have e:=sI h2;subst e
  have e_:_=_:=ho2
  subst e_
  exact QW s2.2 (Qu tZ (hA J) kZ J (Nat.le_trans hv1 (lb J)) J J J (bB J J (bG J (bB J J (bB J J (bG J (bA J)))))) J J) h1
  intro o59 h1
  refine QM<|Qe ?_
  have e:=sI h1;subst e
  exact hQ1 _ _ _ (.inl J) J (Qu tZ (hA J) kZ J (Nat.le_trans hv1 (lb J)) J J J (bB J J (bG J (bB J J (bB J J (bG J (bA J)))))) J J)
  replace h1:=Ql c58 h1
  refine Qm<|Qe ?_
  have e:=sI h1;subst e
  exact hQ1 _ _ _ (.inl J) J (Qu tZ (hA J) kZ J (Nat.le_trans hv1 (lb J)) J J J (bB J J (bG J (bB J J (bB J J (bG J (bA J)))))) J J)
 refine ZU (Y1 (e:=.normal) rfl hc34 rfl rfl (by intro h;cases h) rfl) rfl ?_
 refine Qe<|Q4<|Q5<|Q5<|Q0<|rR J J J (Q2 YC J)<|rR J J J (Q6 K1 J J J)<|rR J J J (QA (α:=Fn) YL J (.d _))<|rM J J J<|Q3<|Q4<|Qf ?_
 refine QY 4 (fun (o66:Unit)=>⟨[(4,.v (.one (.ptr 3 0)))],GQ a1 a2 a0 y33,[],13,95,[3,43,90]⟩) (fun (o66:Unit)=>(some 0)=some r) ?_ ?_
 refine Qb h0 (fun o67 hl1 h0=>?_)
 refine QX (G6 a0 a1 a2 y33) (fun s1=>⟨[(0,.v (.one (.ptr 0 0))),(3,.v (.one (.ptr 2 0))),(4,.v (.one (.ptr 3 0))),(5,.v (.one (.ptr 7 0))),(79,.v (.one (dS a0.funs))),(80,.v (.one (dI (a0.funs.length:Int)))),(81,.v (.one (dI s1)))],GQ a1 a2 a0 y33,[],13,95,[3,43,90]⟩) 0 o67 (Qu (tA J) (hA J) kZ J (Nat.le_trans hv0 (lb J)) J J J (bB J J (bG J (bB J J (bB J J (bG J (bA J)))))) J J) hl1 (fun s1 n1 oo1 h1 ho1=>?_)
 unfold G6 at h1
 refine Q5<|Q0<|rR J J J (Q7 J J J)<|Q3<|Q4<|Q5 ?_
 refine Qh (b:=(decide (s1 < (a0.funs.length:Int)))) J (fun c68=>?_) (fun c68=>?_)
 replace h1:=Qk c68 h1
 refine Qm<|Q4<|Q5<|Qf<|Q5<|Q0 ?_
 refine Qb h1 (fun x69 hx69 h1=>?_)
 refine rR J J J (Qy (α:=Fn) YL J (.d _) J hx69)<|rR J J J (Qv (x69:Fn) ZF J)<|Q9 J J (lb J) (Qj UU J)<|Qx J J (Qz (x69:Fn) ZF J J J J J)<|Q3<|Q4<|Q0<|rM J J J<|rR J J J (Q2 fo_76_3 J)<|rR J J J (Qi Up J J J J)<|rR J J J (Q2 fo_76_2 J)<|rR J J J (Q6 QU J J J)<|rR J J J (Q2 Yl J)<|rR J J J (Q6 QU J J J) ?_
 refine rR J J J (Q6 YA J J J) ?_
 refine Qb h1 (fun x70 hx70 h1=>?_)
 refine JY id hx70 h1 (fun x71 hx71 h1=>?_) (fun x72 hx72 h1=>?_)
 refine Q9 J J (lb J) (Jj (hp1':=[(0,.cells 62 [dS a1,.mp 1]),(1,.mp (QO a2.1) a2.2),(6,.mp (QO y33.1) y33.2)]) (tk1':=[]) (hpF:=m30f4_h40 a0 a1 x69) (tkF:=[]) (res2:=QK []) (nx2:=15) [0,1,6] J J (CallE.m (m48f11_ok x69.tree x69.arity 0 a0.params a1 a2 y33 (.inl x71) hx71)) J J (qB J J (qG J (qG J qZ))) J J (gR J (gG J (gG J gZ))) jZ (hA J) kZ J J J J J (bB J J (bG J (bG J bZ))) J J J J)<|Q3<|Qe<|Q4<|Q0<|rR J J J (Q7 J J J)<|rM J J J<|Q3 ?_
 have e:=sI h1;subst e
 refine QR (J9 (s1+1)) (Qu (tA J) (hA J) kZ J (Nat.le_trans hv0 (lb J)) J J J (bB J J (bG J (bB J J (bB J J (bG J (bA J)))))) J J) ho1
 refine Jf J (Yy (hp1':=[(0,.cells 62 [dS a1,.mp 1]),(1,.mp (QO a2.1) a2.2),(6,.mp (QO y33.1) y33.2)]) (tk1':=[]) (hpF:=m30f4_h40 a0 a1 x69) (tkF:=[]) (nx2:=15) [0,1,6] J J (CallE.d (m48f11_ok x69.tree x69.arity 0 a0.params a1 a2 y33 (.inr x72) hx72)) J J (qB J J (qG J (qG J qZ))) J (gR J (gG J (gG J gZ))) jZ (hA J) kZ J J J J J (bB J J (bG J (bG J bZ))) J J J J) ?_
 have e:=sI h1;subst e
 have e_:_=_:=ho1
 subst e_
 try dsimp only [Sum.elim_inl,Sum.elim_inr] at h0
 have e:=sI h0;subst e
 exact Jo (hQ0 (.panic (Jx (QJ 90 x72))) _ J (US _ _ _ J (Qu (tA J) (hA J) kZ J (Nat.le_trans hv0 (lb J)) J J J (bB J J (bG J (bA J))) J J))) (fun _ _ h=>h)
 replace h1:=Ql c68 h1
 refine J5<|Qo<|Qo ?_
 have e:=sI h1;subst e
 have e_:_=_:=ho1
 subst e_
 exact QW () (Qu (tA J) (hA J) kZ J (Nat.le_trans hv0 (lb J)) J J J (bB J J (bG J (bB J J (bB J J (bG J (bA J)))))) J J) h0
 intro o66 h0
 refine QM<|Q4<|Q5<|Q0<|Qx J J (Qt K3 J J J J (lb J) J)<|Q3<|Q4<|QD ?_
 have e:=sI h0;subst e
 exact hQ0 _ _ J (cendN (.inr J) (Qu (tA J) (hA J) kZ J (Nat.le_trans hv0 (lb J)) J J J (bB J J (bG J (bA J))) J J))
 refine Jf J (Yy (hp1':=[(0,.cells 62 [dS a1,.mp 1]),(1,.mp (QO a2.1) a2.2)]) (tk1':=[]) (hpF:=[(2,.cells 45 (cE a0)),(3,.cells 25 [dI 0])]) (tkF:=[]) (nx2:=6) [0,1] J J (CallE.d (m45f7_ok a0 a1 a2 (.inr x6) hx6)) J J (qB J J (qG J qZ)) J (gR J (gG J gZ)) jZ (hA J) kZ J J J J J (bB J J (bG J bZ)) J J J J) ?_
 have e:=sI h0;subst e
 exact Jo (hQ0 (.panic (Jx (QJ 90 x6))) _ J (US _ _ _ J (Qu (tA J) (hA J) kZ J (Nat.le_trans hv0 (lb J)) J J J (bB J J (bG J (bA J))) J J))) (fun _ _ h=>h)
 refine Jf J (QH J J J (CallE.d (m44f5_ok a0 (.inr x3) hx3))) ?_
 have e:=sI h0;subst e
 exact Jo (hQ0 (.panic (Jx (QJ 90 x3))) _ J (US _ _ _ J (Qu (tA J) (hA J) kZ J (Nat.le_trans hv0 (lb J)) J J J (bB J J (bG J (bA J))) J J))) (fun _ _ h=>h)
noncomputable def m11_l0 (x4:Dcl) (s1:Int×(Qa Bs Ent)×(List Dcl)) (s3:Int×(Qa Bs Ent)):Option (LO (Int×(Qa Bs Ent)) (((Qa Bs Ent)))) :=
 cond (decide (s3.1 < (x4.ctors.length:Int)))
   (Option.bind (JC x4.ctors s3.1) fun (x24:Ctr) =>
 Option.bind (some ()) (fun (y25:Unit)=>some (.next ((J9 (s3.1+1)),(J2 s3.2 x24.name (⟨4,s1.1,s3.1,x4.params,x24.ty⟩:Ent))))))
   (some (.done s3.2))
noncomputable def m11_l1 (x4:Dcl) (s1:Int×(Qa Bs Ent)×(List Dcl)) (s3:Int×(Qa Bs Ent)):Option (LO (Int×(Qa Bs Ent)) (((Qa Bs Ent)))) :=
 cond (decide (s3.1 < (x4.funs.length:Int)))
   (Option.bind (JC x4.funs s3.1) fun (x36:Fn) =>
 Option.bind (some ()) (fun (y37:Unit)=>some (.next ((J9 (s3.1+1)),(J2 s3.2 x36.name (⟨6,s1.1,s3.1,x4.params,x36.ty⟩:Ent))))))
   (some (.done s3.2))
noncomputable def UO (p0_:Bool) (p1_:Dcl) (p2_:Int×(Qa Bs Ent)×(List Dcl)):Option (((Qa Bs Ent))) :=
 cond p0_
   (Option.bind (JC ([0,1,2]) p1_.kind) fun (b0_:Int) =>
 Option.bind (some ()) (fun (b1_:Unit)=>some (J2 p2_.2.1 p1_.name (⟨b0_,p2_.1,0,p1_.params,p1_.ty⟩:Ent))))
   (cond (p1_.kind==3)
   (Option.bind (some ()) (fun (b2_:Unit)=>Option.bind (Qp (m11_l0 p1_ p2_) QF (0,(J2 p2_.2.1 p1_.name (⟨3,p2_.1,0,p1_.params,p1_.ty⟩:Ent)))) (fun (b3_:(Qa Bs Ent))=>Jd (Nat.ble (p1_.name.length+([46,114,101,99]:List UInt8).length) 1000000000)
 (Option.bind (some ()) (fun (b4_:Unit)=>some (J2 b3_ (p1_.name++([46,114,101,99]:List UInt8)) (⟨5,p2_.1,0,p1_.rcr.params,p1_.rcr.ty⟩:Ent)))))))
   (cond (p1_.kind==4)
   (Option.bind (Qp (m11_l1 p1_ p2_) QF (0,p2_.2.1)) (fun (b5_:(Qa Bs Ent))=>some b5_))
   (some p2_.2.1)))
noncomputable def WA (a0:List Dcl) (s1:Int×(Qa Bs Ent)×(List Dcl)):Option (LO (Int×(Qa Bs Ent)×(List Dcl)) (((Qa Bs Ent)×(List Dcl))⊕(Int×Int))) :=
 cond (decide (s1.1 < (a0.length:Int)))
   (Option.bind (JC a0 s1.1) fun (x4:Dcl) =>
 Jd (cond (decide (0≤s1.1)) (Nat.ble s1.1.toNat a0.length) false)
 (Option.bind (WN x4 (a0.take s1.1.toNat) s1.2.1) fun (x6:Int) =>
 cond (x6 != 0)
   (some (.done (.inr (s1.1,x6))))
   (Option.bind (some ()) (fun (y8:Unit)=>Option.bind (Option.bind (cond (x4.kind==0)
   (some (x4.kind==0))
   (cond (x4.kind==1)
   (some (x4.kind==1))
   (some (x4.kind==2)))) (fun (v12:Bool)=>UO v12 x4 s1)) (fun (y10:(Qa Bs Ent))=>some (.next ((J9 (s1.1+1)),y10,(a0.take s1.1.toNat))))))))
   (some (.done (.inl (s1.2.1,s1.2.2))))
noncomputable abbrev m11_h0 (p0_:Int×(Qa Bs Ent)×(List Dcl)) (p1_:List Dcl) (p2_:Dcl):List (Nat×HB) :=
 [(0,.mp (QO p0_.2.1.1) p0_.2.1.2),(1,.cells 62 [dS ((p1_.take p0_.1.toNat):List Dcl),.mp 0]),(2,.cells 59 [.ptr 1 0]),(3,.cells 45 (cE p2_))]
noncomputable abbrev m11_h1 (p0_:Int×(Qa Bs Ent)×(List Dcl)) (p1_:List Dcl) (p2_:Dcl) (p3_:Int):List (Nat×HB) :=
 [(0,.mp (QO p0_.2.1.1) p0_.2.1.2),(1,.cells 62 [dS ((p1_.take p0_.1.toNat):List Dcl),.mp 0]),(2,.cells 59 [.ptr 1 0]),(3,.cells 45 (cE p2_)),(5,.cells 25 [dI p3_])]
noncomputable abbrev m11_h2 (p0_:Int×(Qa Bs Ent)×(List Dcl)) (p1_:List Dcl) (p2_:Dcl) (p3_:Int):List (Nat×HB) :=
 [(0,.mp (QO p0_.2.1.1) p0_.2.1.2),(1,.cells 62 [dS ((p1_.take p0_.1.toNat):List Dcl),.mp 0]),(2,.cells 59 [.ptr 1 0]),(3,.cells 45 (cE p2_)),(5,.cells 25 [dI p3_]),(6,.cells 45 (cE p2_)),(7,.cells 3 [dI p0_.1])]
noncomputable abbrev Zj (p0_:List Dcl) (p1_:Int×(Qa Bs Ent)×(List Dcl)):HB :=
 .loop .ready none [(0,.v (.one (dS p0_))),(4,.v (.one (.ptr 2 0))),(16,.v (.one (dS p0_))),(17,.v (.one (dI (p0_.length:Int)))),(18,.v (.one (dI p1_.1))),(38,.v (.one (.fn 49 [(7,0),(6,0)])))] 48 #[39,40] XM XK 8
noncomputable abbrev m11_h4 (p0_:(Qa Bs Ent)) (p1_:List Dcl) (p2_:Int×(Qa Bs Ent)×(List Dcl)) (p3_:Dcl) (p4_:Int):List (Nat×HB) :=
 [(0,.mp (QO p0_.1) p0_.2),(1,.cells 62 [dS ((p1_.take p2_.1.toNat):List Dcl),.mp 0]),(2,.cells 59 [.ptr 1 0]),(3,.cells 45 (cE p3_)),(5,.cells 25 [dI p4_]),(6,.cells 45 (cE p3_)),(7,.cells 3 [dI p2_.1]),(8,.obj (.deferred (some []))),(9,Zj p1_ p2_)]
noncomputable abbrev XJ (p0_:Int×(Qa Bs Ent)×(List Dcl)) (p1_:Dcl):HB :=
 .cells 35 [dI 0,dI p0_.1,dI 0,dI p1_.params,dI p1_.ty.kind,dI p1_.ty.index,Jn p1_.ty.name,dS p1_.ty.levels,dS p1_.ty.kids]
noncomputable abbrev m11_h6 (p0_:Int×(Qa Bs Ent)×(List Dcl)) (p1_:List Dcl) (p2_:Dcl) (p3_:Int):List (Nat×HB) :=
 [(0,.mp (QO p0_.2.1.1) p0_.2.1.2),(1,.cells 62 [dS ((p1_.take p0_.1.toNat):List Dcl),.mp 0]),(2,.cells 59 [.ptr 1 0]),(3,.cells 45 (cE p2_)),(5,.cells 25 [dI p3_]),(6,.cells 45 (cE p2_)),(7,.cells 3 [dI p0_.1]),(8,.obj (.deferred (some []))),(9,Zj p1_ p0_),(10,XJ p0_ p2_)]
noncomputable abbrev XI (p0_:Int) (p1_:Int×(Qa Bs Ent)×(List Dcl)) (p2_:Dcl):HB :=
 .cells 35 [dI p0_,dI p1_.1,dI 0,dI p2_.params,dI p2_.ty.kind,dI p2_.ty.index,Jn p2_.ty.name,dS p2_.ty.levels,dS p2_.ty.kids]
noncomputable abbrev m11_h8 (p0_:Int×(Qa Bs Ent)×(List Dcl)) (p1_:List Dcl) (p2_:Dcl) (p3_:Int) (p4_:Int):List (Nat×HB) :=
 [(0,.mp (QO p0_.2.1.1) p0_.2.1.2),(1,.cells 62 [dS ((p1_.take p0_.1.toNat):List Dcl),.mp 0]),(2,.cells 59 [.ptr 1 0]),(3,.cells 45 (cE p2_)),(5,.cells 25 [dI p3_]),(6,.cells 45 (cE p2_)),(7,.cells 3 [dI p0_.1]),(8,.obj (.deferred (some []))),(9,Zj p1_ p0_),(10,XI p4_ p0_ p2_)]
noncomputable abbrev Zw (p0_:List Dcl) (p1_:Int×(Qa Bs Ent)×(List Dcl)):HB :=
 .loop .busy none [(0,.v (.one (dS p0_))),(4,.v (.one (.ptr 2 0))),(16,.v (.one (dS p0_))),(17,.v (.one (dI (p0_.length:Int)))),(18,.v (.one (dI p1_.1))),(38,.v (.one (.fn 49 [(7,0),(6,0)])))] 48 #[39,40] XM XK 8
noncomputable abbrev m11_h10 (p0_:Int×(Qa Bs Ent)×(List Dcl)) (p1_:List Dcl) (p2_:Dcl) (p3_:Int) (p4_:Int):List (Nat×HB) :=
 [(0,.mp (QO p0_.2.1.1) p0_.2.1.2),(1,.cells 62 [dS ((p1_.take p0_.1.toNat):List Dcl),.mp 0]),(2,.cells 59 [.ptr 1 0]),(3,.cells 45 (cE p2_)),(5,.cells 25 [dI p3_]),(6,.cells 45 (cE p2_)),(7,.cells 3 [dI p0_.1]),(8,.obj (.deferred (some []))),(9,Zw p1_ p0_),(10,XI p4_ p0_ p2_),(12,XI p4_ p0_ p2_)]
noncomputable abbrev m11_h11 (p0_:Int×(Qa Bs Ent)×(List Dcl)) (p1_:List Dcl) (p2_:Dcl) (p3_:Int) (p4_:Int):List (Nat×HB) :=
 [(0,.mp (QO p0_.2.1.1) p0_.2.1.2),(1,.cells 62 [dS ((p1_.take p0_.1.toNat):List Dcl),.mp 0]),(2,.cells 59 [.ptr 1 0]),(3,.cells 45 (cE p2_)),(5,.cells 25 [dI p3_]),(6,.cells 45 (cE p2_)),(7,.cells 3 [dI p0_.1]),(8,.obj (.deferred (some []))),(9,Zj p1_ p0_),(10,XI p4_ p0_ p2_),(12,XI p4_ p0_ p2_)]
noncomputable abbrev m11_h12 (p0_:Int×(Qa Bs Ent)×(List Dcl)) (p1_:Dcl) (p2_:Int):HB :=
 .mp (QO ((J2 p0_.2.1 p1_.name (⟨p2_,p0_.1,0,p1_.params,p1_.ty⟩:Ent)):Qa Bs Ent).1) ((J2 p0_.2.1 p1_.name (⟨p2_,p0_.1,0,p1_.params,p1_.ty⟩:Ent)):Qa Bs Ent).2
noncomputable abbrev m11_h13 (p0_:Int×(Qa Bs Ent)×(List Dcl)) (p1_:Dcl) (p2_:Int) (p3_:List Dcl) (p4_:Int):List (Nat×HB) :=
 [(0,m11_h12 p0_ p1_ p2_),(1,.cells 62 [dS ((p3_.take p0_.1.toNat):List Dcl),.mp 0]),(2,.cells 59 [.ptr 1 0]),(3,.cells 45 (cE p1_)),(5,.cells 25 [dI p4_]),(6,.cells 45 (cE p1_)),(7,.cells 3 [dI p0_.1]),(8,.obj (.deferred (some []))),(9,Zw p3_ p0_),(10,XI p2_ p0_ p1_)]
noncomputable abbrev m11_h14 (p0_:Int×(Qa Bs Ent)×(List Dcl)) (p1_:Dcl) (p2_:Int) (p3_:List Dcl) (p4_:Int):List (Nat×HB) :=
 [(0,m11_h12 p0_ p1_ p2_),(1,.cells 62 [dS ((p3_.take p0_.1.toNat):List Dcl),.mp 0]),(2,.cells 59 [.ptr 1 0]),(3,.cells 45 (cE p1_)),(5,.cells 25 [dI p4_]),(6,.cells 45 (cE p1_)),(7,.cells 3 [dI p0_.1]),(8,.obj (.deferred (some []))),(9,Zw p3_ p0_),(10,XI p2_ p0_ p1_),(12,XI p2_ p0_ p1_)]
noncomputable abbrev Yk (p0_:Int×(Qa Bs Ent)×(List Dcl)) (p1_:Dcl):HB :=
 .cells 35 [dI 3,dI p0_.1,dI 0,dI p1_.params,dI p1_.ty.kind,dI p1_.ty.index,Jn p1_.ty.name,dS p1_.ty.levels,dS p1_.ty.kids]
noncomputable abbrev m11_h16 (p0_:Int×(Qa Bs Ent)×(List Dcl)) (p1_:List Dcl) (p2_:Dcl) (p3_:Int):List (Nat×HB) :=
 [(0,.mp (QO p0_.2.1.1) p0_.2.1.2),(1,.cells 62 [dS ((p1_.take p0_.1.toNat):List Dcl),.mp 0]),(2,.cells 59 [.ptr 1 0]),(3,.cells 45 (cE p2_)),(5,.cells 25 [dI p3_]),(6,.cells 45 (cE p2_)),(7,.cells 3 [dI p0_.1]),(8,.obj (.deferred (some []))),(9,Zj p1_ p0_),(10,Yk p0_ p2_)]
noncomputable abbrev m11_h17 (p0_:Int×(Qa Bs Ent)×(List Dcl)) (p1_:List Dcl) (p2_:Dcl) (p3_:Int):List (Nat×HB) :=
 [(0,.mp (QO p0_.2.1.1) p0_.2.1.2),(1,.cells 62 [dS ((p1_.take p0_.1.toNat):List Dcl),.mp 0]),(2,.cells 59 [.ptr 1 0]),(3,.cells 45 (cE p2_)),(5,.cells 25 [dI p3_]),(6,.cells 45 (cE p2_)),(7,.cells 3 [dI p0_.1]),(8,.obj (.deferred (some []))),(9,Zw p1_ p0_),(10,Yk p0_ p2_),(11,Yk p0_ p2_)]
noncomputable abbrev m11_h18 (p0_:Int×(Qa Bs Ent)×(List Dcl)) (p1_:List Dcl) (p2_:Dcl) (p3_:Int):List (Nat×HB) :=
 [(0,.mp (QO p0_.2.1.1) p0_.2.1.2),(1,.cells 62 [dS ((p1_.take p0_.1.toNat):List Dcl),.mp 0]),(2,.cells 59 [.ptr 1 0]),(3,.cells 45 (cE p2_)),(5,.cells 25 [dI p3_]),(6,.cells 45 (cE p2_)),(7,.cells 3 [dI p0_.1]),(8,.obj (.deferred (some []))),(9,Zj p1_ p0_),(10,Yk p0_ p2_),(11,Yk p0_ p2_)]
noncomputable abbrev m11_h19 (p0_:Int×(Qa Bs Ent)×(List Dcl)) (p1_:Dcl):HB :=
 .mp (QO ((J2 p0_.2.1 p1_.name (⟨3,p0_.1,0,p1_.params,p1_.ty⟩:Ent)):Qa Bs Ent).1) ((J2 p0_.2.1 p1_.name (⟨3,p0_.1,0,p1_.params,p1_.ty⟩:Ent)):Qa Bs Ent).2
noncomputable abbrev m11_h20 (p0_:Int×(Qa Bs Ent)×(List Dcl)) (p1_:Dcl) (p2_:List Dcl) (p3_:Int):List (Nat×HB) :=
 [(0,m11_h19 p0_ p1_),(1,.cells 62 [dS ((p2_.take p0_.1.toNat):List Dcl),.mp 0]),(2,.cells 59 [.ptr 1 0]),(3,.cells 45 (cE p1_)),(5,.cells 25 [dI p3_]),(6,.cells 45 (cE p1_)),(7,.cells 3 [dI p0_.1]),(8,.obj (.deferred (some []))),(9,Zw p2_ p0_),(10,Yk p0_ p1_)]
noncomputable abbrev m11_h21 (p0_:Int×(Qa Bs Ent)×(List Dcl)) (p1_:Dcl) (p2_:List Dcl) (p3_:Int):List (Nat×HB) :=
 [(0,m11_h19 p0_ p1_),(1,.cells 62 [dS ((p2_.take p0_.1.toNat):List Dcl),.mp 0]),(2,.cells 59 [.ptr 1 0]),(3,.cells 45 (cE p1_)),(5,.cells 25 [dI p3_]),(6,.cells 45 (cE p1_)),(7,.cells 3 [dI p0_.1]),(8,.obj (.deferred (some []))),(9,Zw p2_ p0_),(10,Yk p0_ p1_),(11,Yk p0_ p1_)]
noncomputable abbrev m11_h22 (p0_:Int×(Qa Bs Ent)) (p1_:List Dcl) (p2_:Int×(Qa Bs Ent)×(List Dcl)) (p3_:Dcl) (p4_:Int) (p5_:Ctr):List (Nat×HB) :=
 [(0,.mp (QO p0_.2.1) p0_.2.2),(1,.cells 62 [dS ((p1_.take p2_.1.toNat):List Dcl),.mp 0]),(2,.cells 59 [.ptr 1 0]),(3,.cells 45 (cE p3_)),(5,.cells 25 [dI p4_]),(6,.cells 45 (cE p3_)),(7,.cells 3 [dI p2_.1]),(8,.obj (.deferred (some []))),(9,Zj p1_ p2_),(10,Yk p2_ p3_),(12,.cells 71 (cE p5_))]
noncomputable abbrev m11_h23 (p0_:Int×(Qa Bs Ent)×(List Dcl)) (p1_:Int×(Qa Bs Ent)) (p2_:Dcl) (p3_:Ctr):HB :=
 .cells 35 [dI 4,dI p0_.1,dI p1_.1,dI p2_.params,dI p3_.ty.kind,dI p3_.ty.index,Jn p3_.ty.name,dS p3_.ty.levels,dS p3_.ty.kids]
noncomputable abbrev m11_h24 (p0_:Int×(Qa Bs Ent)) (p1_:List Dcl) (p2_:Int×(Qa Bs Ent)×(List Dcl)) (p3_:Dcl) (p4_:Int) (p5_:Ctr):List (Nat×HB) :=
 [(0,.mp (QO p0_.2.1) p0_.2.2),(1,.cells 62 [dS ((p1_.take p2_.1.toNat):List Dcl),.mp 0]),(2,.cells 59 [.ptr 1 0]),(3,.cells 45 (cE p3_)),(5,.cells 25 [dI p4_]),(6,.cells 45 (cE p3_)),(7,.cells 3 [dI p2_.1]),(8,.obj (.deferred (some []))),(9,Zw p1_ p2_),(10,Yk p2_ p3_),(12,.cells 71 (cE p5_)),(13,m11_h23 p2_ p0_ p3_ p5_)]
noncomputable abbrev m11_h25 (p0_:Int×(Qa Bs Ent)) (p1_:List Dcl) (p2_:Int×(Qa Bs Ent)×(List Dcl)) (p3_:Dcl) (p4_:Int) (p5_:Ctr):List (Nat×HB) :=
 [(0,.mp (QO p0_.2.1) p0_.2.2),(1,.cells 62 [dS ((p1_.take p2_.1.toNat):List Dcl),.mp 0]),(2,.cells 59 [.ptr 1 0]),(3,.cells 45 (cE p3_)),(5,.cells 25 [dI p4_]),(6,.cells 45 (cE p3_)),(7,.cells 3 [dI p2_.1]),(8,.obj (.deferred (some []))),(9,Zj p1_ p2_),(10,Yk p2_ p3_),(12,.cells 71 (cE p5_)),(13,m11_h23 p2_ p0_ p3_ p5_)]
noncomputable abbrev m11_h26 (p0_:Int×(Qa Bs Ent)) (p1_:Ctr) (p2_:Int×(Qa Bs Ent)×(List Dcl)) (p3_:Dcl):HB :=
 .mp (QO ((J2 p0_.2 p1_.name (⟨4,p2_.1,p0_.1,p3_.params,p1_.ty⟩:Ent)):Qa Bs Ent).1) ((J2 p0_.2 p1_.name (⟨4,p2_.1,p0_.1,p3_.params,p1_.ty⟩:Ent)):Qa Bs Ent).2
noncomputable abbrev m11_h27 (p0_:Int×(Qa Bs Ent)) (p1_:Ctr) (p2_:Int×(Qa Bs Ent)×(List Dcl)) (p3_:Dcl) (p4_:List Dcl) (p5_:Int):List (Nat×HB) :=
 [(0,m11_h26 p0_ p1_ p2_ p3_),(1,.cells 62 [dS ((p4_.take p2_.1.toNat):List Dcl),.mp 0]),(2,.cells 59 [.ptr 1 0]),(3,.cells 45 (cE p3_)),(5,.cells 25 [dI p5_]),(6,.cells 45 (cE p3_)),(7,.cells 3 [dI p2_.1]),(8,.obj (.deferred (some []))),(9,Zw p4_ p2_),(10,Yk p2_ p3_),(12,.cells 71 (cE p1_))]
noncomputable abbrev m11_h28 (p0_:Int×(Qa Bs Ent)) (p1_:Ctr) (p2_:Int×(Qa Bs Ent)×(List Dcl)) (p3_:Dcl) (p4_:List Dcl) (p5_:Int):List (Nat×HB) :=
 [(0,m11_h26 p0_ p1_ p2_ p3_),(1,.cells 62 [dS ((p4_.take p2_.1.toNat):List Dcl),.mp 0]),(2,.cells 59 [.ptr 1 0]),(3,.cells 45 (cE p3_)),(5,.cells 25 [dI p5_]),(6,.cells 45 (cE p3_)),(7,.cells 3 [dI p2_.1]),(8,.obj (.deferred (some []))),(9,Zw p4_ p2_),(10,Yk p2_ p3_),(12,.cells 71 (cE p1_)),(13,m11_h23 p2_ p0_ p3_ p1_)]
noncomputable abbrev m11_h29 (p0_:(Qa Bs Ent)) (p1_:List Dcl) (p2_:Int×(Qa Bs Ent)×(List Dcl)) (p3_:Dcl) (p4_:Int):List (Nat×HB) :=
 [(0,.mp (QO p0_.1) p0_.2),(1,.cells 62 [dS ((p1_.take p2_.1.toNat):List Dcl),.mp 0]),(2,.cells 59 [.ptr 1 0]),(3,.cells 45 (cE p3_)),(5,.cells 25 [dI p4_]),(6,.cells 45 (cE p3_)),(7,.cells 3 [dI p2_.1]),(8,.obj (.deferred (some []))),(9,Zj p1_ p2_),(10,Yk p2_ p3_)]
noncomputable abbrev m11_h30 (p0_:Int×(Qa Bs Ent)×(List Dcl)) (p1_:Dcl):HB :=
 .cells 35 [dI 5,dI p0_.1,dI 0,dI p1_.rcr.params,dI p1_.rcr.ty.kind,dI p1_.rcr.ty.index,Jn p1_.rcr.ty.name,dS p1_.rcr.ty.levels,dS p1_.rcr.ty.kids]
noncomputable abbrev m11_h31 (p0_:(Qa Bs Ent)) (p1_:List Dcl) (p2_:Int×(Qa Bs Ent)×(List Dcl)) (p3_:Dcl) (p4_:Int):List (Nat×HB) :=
 [(0,.mp (QO p0_.1) p0_.2),(1,.cells 62 [dS ((p1_.take p2_.1.toNat):List Dcl),.mp 0]),(2,.cells 59 [.ptr 1 0]),(3,.cells 45 (cE p3_)),(5,.cells 25 [dI p4_]),(6,.cells 45 (cE p3_)),(7,.cells 3 [dI p2_.1]),(8,.obj (.deferred (some []))),(9,Zw p1_ p2_),(10,Yk p2_ p3_),(12,m11_h30 p2_ p3_)]
noncomputable abbrev m11_h32 (p0_:(Qa Bs Ent)) (p1_:List Dcl) (p2_:Int×(Qa Bs Ent)×(List Dcl)) (p3_:Dcl) (p4_:Int):List (Nat×HB) :=
 [(0,.mp (QO p0_.1) p0_.2),(1,.cells 62 [dS ((p1_.take p2_.1.toNat):List Dcl),.mp 0]),(2,.cells 59 [.ptr 1 0]),(3,.cells 45 (cE p3_)),(5,.cells 25 [dI p4_]),(6,.cells 45 (cE p3_)),(7,.cells 3 [dI p2_.1]),(8,.obj (.deferred (some []))),(9,Zj p1_ p2_),(10,Yk p2_ p3_),(12,m11_h30 p2_ p3_)]
noncomputable abbrev m11_h33 (p0_:(Qa Bs Ent)) (p1_:Dcl) (p2_:Int×(Qa Bs Ent)×(List Dcl)):HB :=
 .mp (QO ((J2 p0_ (p1_.name++([46,114,101,99]:List UInt8)) (⟨5,p2_.1,0,p1_.rcr.params,p1_.rcr.ty⟩:Ent)):Qa Bs Ent).1) ((J2 p0_ (p1_.name++([46,114,101,99]:List UInt8)) (⟨5,p2_.1,0,p1_.rcr.params,p1_.rcr.ty⟩:Ent)):Qa Bs Ent).2
noncomputable abbrev m11_h34 (p0_:(Qa Bs Ent)) (p1_:Dcl) (p2_:Int×(Qa Bs Ent)×(List Dcl)) (p3_:List Dcl) (p4_:Int):List (Nat×HB) :=
 [(0,m11_h33 p0_ p1_ p2_),(1,.cells 62 [dS ((p3_.take p2_.1.toNat):List Dcl),.mp 0]),(2,.cells 59 [.ptr 1 0]),(3,.cells 45 (cE p1_)),(5,.cells 25 [dI p4_]),(6,.cells 45 (cE p1_)),(7,.cells 3 [dI p2_.1]),(8,.obj (.deferred (some []))),(9,Zw p3_ p2_),(10,Yk p2_ p1_)]
noncomputable abbrev m11_h35 (p0_:(Qa Bs Ent)) (p1_:Dcl) (p2_:Int×(Qa Bs Ent)×(List Dcl)) (p3_:List Dcl) (p4_:Int):List (Nat×HB) :=
 [(0,m11_h33 p0_ p1_ p2_),(1,.cells 62 [dS ((p3_.take p2_.1.toNat):List Dcl),.mp 0]),(2,.cells 59 [.ptr 1 0]),(3,.cells 45 (cE p1_)),(5,.cells 25 [dI p4_]),(6,.cells 45 (cE p1_)),(7,.cells 3 [dI p2_.1]),(8,.obj (.deferred (some []))),(9,Zw p3_ p2_),(10,Yk p2_ p1_),(12,m11_h30 p2_ p1_)]
noncomputable abbrev m11_h36 (p0_:Int×(Qa Bs Ent)) (p1_:List Dcl) (p2_:Int×(Qa Bs Ent)×(List Dcl)) (p3_:Dcl) (p4_:Int) (p5_:Fn):List (Nat×HB) :=
 [(0,.mp (QO p0_.2.1) p0_.2.2),(1,.cells 62 [dS ((p1_.take p2_.1.toNat):List Dcl),.mp 0]),(2,.cells 59 [.ptr 1 0]),(3,.cells 45 (cE p3_)),(5,.cells 25 [dI p4_]),(6,.cells 45 (cE p3_)),(7,.cells 3 [dI p2_.1]),(8,.obj (.deferred (some []))),(9,Zj p1_ p2_),(10,XJ p2_ p3_),(11,.cells 76 (cE p5_))]
noncomputable abbrev m11_h37 (p0_:Int×(Qa Bs Ent)×(List Dcl)) (p1_:Int×(Qa Bs Ent)) (p2_:Dcl) (p3_:Fn):HB :=
 .cells 35 [dI 6,dI p0_.1,dI p1_.1,dI p2_.params,dI p3_.ty.kind,dI p3_.ty.index,Jn p3_.ty.name,dS p3_.ty.levels,dS p3_.ty.kids]
noncomputable abbrev m11_h38 (p0_:Int×(Qa Bs Ent)) (p1_:List Dcl) (p2_:Int×(Qa Bs Ent)×(List Dcl)) (p3_:Dcl) (p4_:Int) (p5_:Fn):List (Nat×HB) :=
 [(0,.mp (QO p0_.2.1) p0_.2.2),(1,.cells 62 [dS ((p1_.take p2_.1.toNat):List Dcl),.mp 0]),(2,.cells 59 [.ptr 1 0]),(3,.cells 45 (cE p3_)),(5,.cells 25 [dI p4_]),(6,.cells 45 (cE p3_)),(7,.cells 3 [dI p2_.1]),(8,.obj (.deferred (some []))),(9,Zw p1_ p2_),(10,XJ p2_ p3_),(11,.cells 76 (cE p5_)),(12,m11_h37 p2_ p0_ p3_ p5_)]
noncomputable abbrev m11_h39 (p0_:Int×(Qa Bs Ent)) (p1_:List Dcl) (p2_:Int×(Qa Bs Ent)×(List Dcl)) (p3_:Dcl) (p4_:Int) (p5_:Fn):List (Nat×HB) :=
 [(0,.mp (QO p0_.2.1) p0_.2.2),(1,.cells 62 [dS ((p1_.take p2_.1.toNat):List Dcl),.mp 0]),(2,.cells 59 [.ptr 1 0]),(3,.cells 45 (cE p3_)),(5,.cells 25 [dI p4_]),(6,.cells 45 (cE p3_)),(7,.cells 3 [dI p2_.1]),(8,.obj (.deferred (some []))),(9,Zj p1_ p2_),(10,XJ p2_ p3_),(11,.cells 76 (cE p5_)),(12,m11_h37 p2_ p0_ p3_ p5_)]
noncomputable abbrev m11_h40 (p0_:Int×(Qa Bs Ent)) (p1_:Fn) (p2_:Int×(Qa Bs Ent)×(List Dcl)) (p3_:Dcl):HB :=
 .mp (QO ((J2 p0_.2 p1_.name (⟨6,p2_.1,p0_.1,p3_.params,p1_.ty⟩:Ent)):Qa Bs Ent).1) ((J2 p0_.2 p1_.name (⟨6,p2_.1,p0_.1,p3_.params,p1_.ty⟩:Ent)):Qa Bs Ent).2
noncomputable abbrev m11_h41 (p0_:Int×(Qa Bs Ent)) (p1_:Fn) (p2_:Int×(Qa Bs Ent)×(List Dcl)) (p3_:Dcl) (p4_:List Dcl) (p5_:Int):List (Nat×HB) :=
 [(0,m11_h40 p0_ p1_ p2_ p3_),(1,.cells 62 [dS ((p4_.take p2_.1.toNat):List Dcl),.mp 0]),(2,.cells 59 [.ptr 1 0]),(3,.cells 45 (cE p3_)),(5,.cells 25 [dI p5_]),(6,.cells 45 (cE p3_)),(7,.cells 3 [dI p2_.1]),(8,.obj (.deferred (some []))),(9,Zw p4_ p2_),(10,XJ p2_ p3_),(11,.cells 76 (cE p1_))]
noncomputable abbrev m11_h42 (p0_:Int×(Qa Bs Ent)) (p1_:Fn) (p2_:Int×(Qa Bs Ent)×(List Dcl)) (p3_:Dcl) (p4_:List Dcl) (p5_:Int):List (Nat×HB) :=
 [(0,m11_h40 p0_ p1_ p2_ p3_),(1,.cells 62 [dS ((p4_.take p2_.1.toNat):List Dcl),.mp 0]),(2,.cells 59 [.ptr 1 0]),(3,.cells 45 (cE p3_)),(5,.cells 25 [dI p5_]),(6,.cells 45 (cE p3_)),(7,.cells 3 [dI p2_.1]),(8,.obj (.deferred (some []))),(9,Zw p4_ p2_),(10,XJ p2_ p3_),(11,.cells 76 (cE p1_)),(12,m11_h37 p2_ p0_ p3_ p1_)]
noncomputable def m11 (a0:List Dcl):Option (Int×Int) :=
 cond (decide (1000 < (a0.length:Int)))
   (some (1000,6))
   (Option.bind (Qp (WA a0) QF (0,gmNil,([]:List Dcl))) (Sum.elim (fun (o2:(Qa Bs Ent)×(List Dcl))=>some (0,0)) (fun o=>some o)))
end Go.Proofs.Ytafddfoefeploaa
namespace Go.Proofs.Ytafddfoefeploaa
open Go.RowKit Go.Shelf
theorem z_59:JD Try.prog 59=some [.pointer none]:=by kernel_rfl
theorem bd_62:Yj Try.prog 62 [(0,1),(1,1)] [.slice none 0 0,.map none]:=⟨by kernel_rfl,by kernel_rfl⟩
theorem en_11:J4 Try.prog 11:=enters_of Try.func11 (by kernel_rfl) rfl
theorem m11_ok (a0:List Dcl) (r:Int×Int) (h0:m11 a0=some r):Fun Try.prog 11 [.one (dS a0)] (QK [.one (dI r.1),.one (dI r.2)]):=by
 unfold m11 at h0
 refine QZ 9 48 Try.func11 J en_11 J (lb J) (fun S w=>?_)
 simp only [Ja]
 refine Q5<|Q0<|rA J J J<|rA J J J<|Q3<|Q4<|Q5<|Q5<|Q0<|rM J J J<|rR J J J (QA (α:=Dcl) Zi J (.d _))<|rR J J J (Q7 J J J)<|Q3<|Q4 ?_
 refine Qh (b:=(decide (1000 < (a0.length:Int)))) J (fun c1=>?_) (fun c1=>?_)
 replace h0:=Qk c1 h0
 refine Q5<|Q0<|rA J J J<|rA J J J<|Q3<|Q4<|QD ?_
 have e:=sI h0;subst e
 exact QL (fun _ _ h=>h) J (QC J (QC J .nil)) (.cons (.one (.d _)) (.cons (.one (.d _)) .nil))
 replace h0:=Ql c1 h0
 refine Qm<|Q4<|Q5<|Q0<|Q9 J J (lb J) (Z4 Bs Ent)<|rR J J J (X2 bd_62 J J J)<|Q9 J J (lb J) (QT J)<|Q9 J J (lb J) (Qj z_59 J)<|Qx J J (Qt Wa J J J J (lb J) J)<|Q3<|Q4<|Q5<|Q5<|Q0 ?_
 refine rM J J J<|rR J J J (QA (α:=Dcl) Zi J (.d _))<|rM J J J<|Q3<|Q4<|Qf ?_
 refine QY 0 (fun (o2:(Qa Bs Ent)×(List Dcl))=>⟨[],[(0,.mp (QO o2.1.1) o2.1.2),(1,.cells 62 [dS o2.2,.mp 0]),(2,.cells 59 [.ptr 1 0])],[],3,48,[]⟩) (fun (o2:(Qa Bs Ent)×(List Dcl))=>(some (0,0))=some r) ?_ ?_
 refine Qb h0 (fun o3 hl1 h0=>?_)
 refine QX (WA a0) (fun s1=>⟨[(0,.v (.one (dS a0))),(4,.v (.one (.ptr 2 0))),(16,.v (.one (dS a0))),(17,.v (.one (dI (a0.length:Int)))),(18,.v (.one (dI s1.1)))],[(0,.mp (QO s1.2.1.1) s1.2.1.2),(1,.cells 62 [dS s1.2.2,.mp 0]),(2,.cells 59 [.ptr 1 0])],[],3,48,[]⟩) (0,gmNil,([]:List Dcl)) o3 (Qu (tA J) (hR J (hC J (.cons (.sub (.nil _)) (.cons (.refl _) .nil)) (hA J))) kZ J (Nat.zero_le _) J J J (bG J (bA J)) J J) hl1 (fun s1 n1 oo1 h1 ho1=>?_)
 unfold WA at h1
 refine Q5<|Q0<|rR J J J (Q7 J J J)<|Q3<|Q4<|Q5 ?_
 refine Qh (b:=(decide (s1.1 < (a0.length:Int)))) J (fun c4=>?_) (fun c4=>?_)
 replace h1:=Qk c4 h1
 refine Qm<|Q4<|Q5<|Qf<|Q5<|Q0<|rM J J J ?_
 refine Qb h1 (fun x5 hx5 h1=>?_)
 refine rR J J J (Qy (α:=Dcl) Zi J (.d _) J hx5)<|rR J J J (Qv (x5:Dcl) JX J)<|Q9 J J (lb J) (Qj UW J)<|rA J J J<|Qx J J (Qz (x5:Dcl) JX J J J J J)<|Q3<|Q4<|Q5 ?_
 refine Jv [6] [] YQ (by kernel_rfl) (by kernel_rfl) (by kernel_rfl) ?_
 refine RunA.rd J J J (Q1 (Q6 Wa J J J)) J<|RunA.rd J J J (Q1 (Qr J)) J<|RunA.rd J J J (Q1 (Qr J)) J ?_
 refine Yo h1 (fun g6 h1=>?_)
 refine RunA.rd J J J (Q1 (RO.sliceTo (α:=Dcl) Zi J (.d _) J g6)) J<|RunA.rd J J J (Q1 (Ju J)) J<|RunA.rd J J J (Q1 (Q2 fo_62_0 J)) J<|RunA.eff J J J (Qt ag_22 J J J J (lb J) J) J ?_
 refine RunA.nil ⟨?ex,_,_,J,?_⟩
 case ex=>exact trivial
 refine JW (st':=⟨[(0,.v (.one (dS a0))),(4,.v (.one (.ptr 2 0))),(5,.v (.one (dI s1.1))),(6,.v (.one (.ptr 3 0))),(16,.v (.one (dS a0))),(17,.v (.one (dI (a0.length:Int)))),(18,.v (.one (dI s1.1)))],m11_h0 s1 a0 x5,[],4,48,[]⟩) (Qu (tA J) (hA J) kZ J (Nat.zero_le _) J J J (bG J (bA J)) J J)<|Q4<|Q5<|Q5<|Q0<|rR J J J (Q6 Wa J J J)<|rR J J J (QN (x5:Dcl) JX J J) ?_
 refine Qb h1 (fun x7 hx7 h1=>?_)
 refine Q9 J J (lb J) (Jj (hp1':=[(1,.cells 62 [dS ((a0.take s1.1.toNat):List Dcl),.mp 0]),(0,.mp (QO s1.2.1.1) s1.2.1.2),(5,.cells 25 [dI x7])]) (tk1':=[]) (hpF:=[(2,.cells 59 [.ptr 1 0]),(3,.cells 45 (cE x5))]) (tkF:=[]) (res2:=QK [.one (dI x7)]) (nx2:=6) [1,0] J J (m30f4_ok x5 (a0.take s1.1.toNat) s1.2.1 x7 hx7) J J (qB J J (qG J (qB J J qZ))) J J (gR J (gG J gZ)) jZ (hA J) kZ J J J J J (bB J J (bG J bZ)) J J J J)<|rA J J J<|Q3<|Q4<|Q5<|Q0<|rM J J J<|rR J J J (Q7 J J J)<|Q3<|Q4 ?_
 refine Qh (b:=(x7 != 0)) J (fun c8=>?_) (fun c8=>?_)
 replace h1:=Qk c8 h1
 refine Q5<|Q0<|rM J J J<|rM J J J<|rA J J J<|rA J J J<|Q3<|Q4<|QD ?_
 have e:=sI h1;subst e
 have e_:_=_:=ho1
 subst e_
 try dsimp only [Sum.elim_inl,Sum.elim_inr] at h0
 have e:=sI h0;subst e
 exact QL (fun _ _ h=>h) J (QC J (QC J .nil)) (.cons (.one (.d _)) (.cons (.one (.d _)) .nil))
 replace h1:=Ql c8 h1
 refine Qm<|Q4<|Q5<|Q0<|rR J J J (QN (x5:Dcl) JX J J)<|rM J J J ?_
 refine Qb h1 (fun y9 h2 h1=>?_)
 have hc10:CallM Try.prog 31 [.agg (cE x5),.one (dI s1.1)] ⟨m11_h1 s1 a0 x5 x7,[],6⟩ (QK [.one (.fn 49 [(7,0),(6,0)])]) ⟨m11_h2 s1 a0 x5 x7,[],8⟩:=by
  refine J0 ⟨[(4,.v (.one (.fn 49 [(7,0),(6,0)])))],m11_h2 s1 a0 x5 x7,[],8,6,[]⟩ J J en_31 (lb J) J (QC J .nil) (fun w0 M V0 Q hv2 hQ2=>?_)
  simp only [Ja]
  refine Q5<|Q0<|Q9 J J (lb J) (QT J)<|Q9 J J (lb J) (QT J)<|rA J J J<|Q3<|Q4<|Q5<|Q0<|rR J J J (ZW J J)<|rA J J J<|Q3<|Q4<|QD ?_
  have e:=sI h2;subst e
  exact hQ2 _ _ _ (.inr J) J (Qu (tA J) (hA J) kZ J (Nat.le_trans hv2 (lb J)) J J J (bG J (bA J)) J J)
 refine Q9 J J (lb J) (JJ J J J hc10 J (hA J) kZ)<|Q3<|Q4<|Qf<|KH (st':=⟨[(0,.v (.one (dS a0))),(4,.v (.one (.ptr 2 0))),(16,.v (.one (dS a0))),(17,.v (.one (dI (a0.length:Int)))),(18,.v (.one (dI s1.1))),(38,.v (.one (.fn 49 [(7,0),(6,0)])))],m11_h2 s1 a0 x5 x7,[],8,48,[]⟩) (Qu (tA J) (hA J) kZ J (Nat.zero_le _) J J J (bG J (bA J)) J J) ?_
 refine Qb h1 (fun y11 h2 h1=>?_)
 have hc12:CallM Try.prog 49 [.one (.yld 9),.one (.ptr 7 0),.one (.ptr 6 0)] ⟨[(9,.loop .ready none [(0,.v (.one (dS a0))),(4,.v (.one (.ptr 2 0))),(16,.v (.one (dS a0))),(17,.v (.one (dI (a0.length:Int)))),(18,.v (.one (dI s1.1))),(38,.v (.one (.fn 49 [(7,0),(6,0)])))] 48 #[39,40] XM XK 8),(8,.obj (.deferred (some []))),(0,.mp (QO s1.2.1.1) s1.2.1.2),(1,.cells 62 [dS ((a0.take s1.1.toNat):List Dcl),.mp 0]),(2,.cells 59 [.ptr 1 0]),(3,.cells 45 (cE x5)),(5,.cells 25 [dI x7]),(6,.cells 45 (cE x5)),(7,.cells 3 [dI s1.1])],[],10⟩ (QK []) ⟨m11_h4 y11 a0 s1 x5 x7,[],11⟩:=by
  refine J0 ⟨[],m11_h4 y11 a0 s1 x5 x7,[],11,98,[]⟩ J J en_49 (lb J) J .nil (fun w0 M V0 Q hv2 hQ2=>?_)
  simp only [Ja]
  refine Q5<|Q0<|rR J J J (Q6 QU J J J)<|rR J J J (Q2 Yl J)<|rR J J J (Q6 QU J J J)<|rR J J J (Q2 KF J)<|rR J J J (Qi QV J J J J)<|rR J J J (ZH Kn J J J J J)<|Q9 J J (lb J) (Qj Zl J)<|Qx J J (Qt Jm J J J J (lb J) J)<|Q3<|Q4<|Q5<|Q0 ?_
  refine rR J J J (Q2 Yu J)<|rR J J J (Q6 QU J J J)<|Q3<|Q4<|Qf<|Q5<|Q5<|Q0<|rR J J J (Q7 J J J)<|rA J J J<|Q3<|Q4 ?_
  refine QS (fun (v13:Bool)=>⟨[(0,.v (.one (.yld 9))),(1,.v (.one (.ptr 7 0))),(2,.v (.one (.ptr 6 0))),(4,.v (.one (.ptr 10 0))),(16,.v (.one (dI x5.kind))),(17,.v (.one (dB v13)))],m11_h6 s1 a0 x5 x7,[],11,98,[]⟩) (fun (v13:Bool)=>(UO v13 x5 s1)=some y11) ?_ ?_
  refine Qb h2 (fun w3_ h3 h2=>?_)
  refine Qh (b:=(x5.kind==0)) J (fun c14=>?_) (fun c14=>?_)
  replace h3:=Qk c14 h3
  refine Qm ?_
  have e:=sI h3;subst e
  exact Qd (x5.kind==0) (Qu (tA J) (hA J) kZ J (Nat.le_trans hv2 (lb J)) J J J (bG J (bA J)) J J) h2
  replace h3:=Ql c14 h3
  refine Q5<|Q0<|rR J J J (Q7 J J J)<|rA J J J<|Q3<|Q4 ?_
  refine Qh (b:=(x5.kind==1)) J (fun c15=>?_) (fun c15=>?_)
  replace h3:=Qk c15 h3
  refine Qm ?_
  have e:=sI h3;subst e
  exact Qd (x5.kind==1) (Qu (tA J) (hA J) kZ J (Nat.le_trans hv2 (lb J)) J J J (bG J (bA J)) J J) h2
  replace h3:=Ql c15 h3
  refine Q0<|rR J J J (Q7 J J J)<|rA J J J<|Q3 ?_
  have e:=sI h3;subst e
  exact Qd (x5.kind==2) (Qu (tA J) (hA J) kZ J (Nat.le_trans hv2 (lb J)) J J J (bG J (bA J)) J J) h2
  intro v13 h2
  unfold UO at h2
  refine Q4 ?_
  refine Qh (b:=v13) J (fun c16=>?_) (fun c16=>?_)
  replace h2:=Qk c16 h2
  refine Q5<|Q0<|Q9 J J (lb J) (OpOK.lit3E (α:=Int) 0 1 2 Uk z_3 J J (lb J) (lb J) J J J J (.cons (.d _) (.cons (.d _) (.cons (.d _) .nil))) ⟨J,J,J⟩)<|rR J J J (Q2 Yu J)<|rR J J J (Q6 QU J J J) ?_
  refine Qb h2 (fun x17 hx17 h2=>?_)
  refine rR J J J (Qy (α:=Int) Uk J (.app _ _) J hx17)<|rR J J J (JQ QU J J)<|rR J J J (Q2 ZR J)<|Qx J J (Qt QU J J J J (lb J) J)<|Q3<|Q4<|Q0<|rM J J J<|rR J J J (Q2 Ym J)<|rR J J J (Q6 JV J J J)<|rR J J J (Qi Jm J J J J) ?_
  refine Qb h2 (fun y18 h3 h2=>?_)
  have ha19:ExecOK Try.prog (some 9) XM ⟨[(0,.v (.one (dS a0))),(4,.v (.one (.ptr 2 0))),(16,.v (.one (dS a0))),(17,.v (.one (dI (a0.length:Int)))),(18,.v (.one (dI s1.1))),(38,.v (.one (.fn 49 [(7,0),(6,0)]))),(39,.v (.one (Jn x5.name))),(40,.v (.agg [dI x17,dI s1.1,dI 0,dI x5.params,dI x5.ty.kind,dI x5.ty.index,Jn x5.ty.name,dS x5.ty.levels,dS x5.ty.kids]))],m11_h8 s1 a0 x5 x7 x17,[(11,some ⟨3,1,(Enc.encL ([0,1,2]:List Int)).length,[]⟩)],12,48,[]⟩ .normal ⟨[(4,.v (.one (.ptr 2 0))),(8,.v (.one (Jn x5.name))),(9,.v (.one (.ptr 12 0)))],m11_h11 s1 a0 x5 x7 x17,[(11,some ⟨3,1,(Enc.encL ([0,1,2]:List Int)).length,[]⟩)],13,48,[]⟩:=by
   refine QI (fun w0 M V0 ro n Q hv3 hro3 hQn3=>?_)
   refine Q5<|Q0<|rA J J J<|Q3<|Q4<|Q0<|Q9 J J (lb J) (Qj Zl J)<|Qx J J (Qt Jm J J J J (lb J) J)<|Q3 ?_
   exact Jq hQn3 (Qu (tA J) (hA J) (kA J) J (Nat.le_trans hv3 (lb J)) J J J (bG J (bA J)) J J)
  have hb20:ExecOK Try.prog (some 9) XK ⟨[(4,.v (.one (.ptr 2 0))),(8,.v (.one (Jn x5.name))),(9,.v (.one (.ptr 12 0)))],m11_h10 s1 a0 x5 x7 x17,[(11,some ⟨3,1,(Enc.encL ([0,1,2]:List Int)).length,[]⟩)],13,48,[]⟩ .normal ⟨[],m11_h13 s1 x5 x17 a0 x7,[(11,some ⟨3,1,(Enc.encL ([0,1,2]:List Int)).length,[]⟩)],13,48,[]⟩:=by
   refine QI (fun w0 M V0 ro n Q hv3 hro3 hQn3=>?_)
   refine Qf ?_
   refine Jv [6] [] YQ (by kernel_rfl) (by kernel_rfl) (by kernel_rfl) ?_
   refine RunA.rd J J J (Q1 (Q6 Wa J J J)) J<|RunA.rd J J J (Q1 (Ju J)) J<|RunA.rd J J J (Q1 (Q2 Kf J)) J<|RunA.rd J J J (Q1 (Q6 YA J J J)) J<|RunA.rd J J J (Q1 (Qr J)) J<|RunA.rd J J J (Q1 (Qi Jm J J J J)) J<|RunA.eff J J J (Jh (M:=s1.2.1) (k:=x5.name) (v:=(⟨x17,s1.1,0,x5.params,x5.ty⟩:Ent)) YP J J J J J) J ?_
   refine RunA.nil ⟨?ex,_,_,J,?_⟩
   case ex=>exact trivial
   refine JW (st':=⟨[],m11_h14 s1 x5 x17 a0 x7,[(11,some ⟨3,1,(Enc.encL ([0,1,2]:List Int)).length,[]⟩)],13,48,[]⟩) (Qu tZ (hA J) (kA J) J (Nat.le_trans hv3 (lb J)) J J J (bG J (bA J)) J J)<|Qe ?_
   have e:=sI h3;subst e
   exact Jq hQn3 (Qu tZ (hA J) (kA J) J (Nat.le_trans hv3 (lb J)) J J J (bG J (bA J)) J J)
  refine Q9 J J (lb J) (Je (jump:=none) J J J J J (Qw ha19 (fun E hv=>(Qu (tA J) (hA J) (kA J) J (Nat.le_trans hv (lb J)) J J J (bG J (bA J)) J J))) J (Qw hb20 (fun E hv=>(Qu (tA J) (hA J) (kA J) J (Nat.le_trans hv (lb J)) J J J (bG J (bA J)) J J))) J J) ?_
  refine Q3<|Qe ?_
  have e:=sI h2;subst e
  exact hQ2 _ _ _ (.inl J) J (Qu tZ (hA J) kZ J (Nat.le_trans hv2 (lb J)) J J J (bG J (bA J)) J J)
  replace h2:=Ql c16 h2
  refine Q5<|Q0<|rR J J J (Q7 J J J)<|rA J J J<|Q3<|Q4 ?_
  refine Qh (b:=(x5.kind==3)) J (fun c21=>?_) (fun c21=>?_)
  replace h2:=Qk c21 h2
  refine Q5<|Q0<|rR J J J (Q2 ZR J)<|Qx J J (Qt QU J J J J (lb J) J)<|Q3<|Q4<|Q5<|Q5<|Q0<|rM J J J<|rR J J J (Q2 Ym J)<|rR J J J (Q6 JV J J J)<|rR J J J (Qi Jm J J J J) ?_
  refine Qb h2 (fun y22 h3 h2=>?_)
  have ha23:ExecOK Try.prog (some 9) XM ⟨[(0,.v (.one (dS a0))),(4,.v (.one (.ptr 2 0))),(16,.v (.one (dS a0))),(17,.v (.one (dI (a0.length:Int)))),(18,.v (.one (dI s1.1))),(38,.v (.one (.fn 49 [(7,0),(6,0)]))),(39,.v (.one (Jn x5.name))),(40,.v (.agg [dI 3,dI s1.1,dI 0,dI x5.params,dI x5.ty.kind,dI x5.ty.index,Jn x5.ty.name,dS x5.ty.levels,dS x5.ty.kids]))],m11_h16 s1 a0 x5 x7,[],11,48,[]⟩ .normal ⟨[(4,.v (.one (.ptr 2 0))),(8,.v (.one (Jn x5.name))),(9,.v (.one (.ptr 11 0)))],m11_h18 s1 a0 x5 x7,[],12,48,[]⟩:=by
   refine QI (fun w0 M V0 ro n Q hv3 hro3 hQn3=>?_)
   refine Q5<|Q0<|rA J J J<|Q3<|Q4<|Q0<|Q9 J J (lb J) (Qj Zl J)<|Qx J J (Qt Jm J J J J (lb J) J)<|Q3 ?_
   exact Jq hQn3 (Qu (tA J) (hA J) kZ J (Nat.le_trans hv3 (lb J)) J J J (bG J (bA J)) J J)
  have hb24:ExecOK Try.prog (some 9) XK ⟨[(4,.v (.one (.ptr 2 0))),(8,.v (.one (Jn x5.name))),(9,.v (.one (.ptr 11 0)))],m11_h17 s1 a0 x5 x7,[],12,48,[]⟩ .normal ⟨[],m11_h20 s1 x5 a0 x7,[],12,48,[]⟩:=by
   refine QI (fun w0 M V0 ro n Q hv3 hro3 hQn3=>?_)
   refine Qf ?_
   refine Jv [6] [] YQ (by kernel_rfl) (by kernel_rfl) (by kernel_rfl) ?_
   refine RunA.rd J J J (Q1 (Q6 Wa J J J)) J<|RunA.rd J J J (Q1 (Ju J)) J<|RunA.rd J J J (Q1 (Q2 Kf J)) J<|RunA.rd J J J (Q1 (Q6 YA J J J)) J<|RunA.rd J J J (Q1 (Qr J)) J<|RunA.rd J J J (Q1 (Qi Jm J J J J)) J<|RunA.eff J J J (Jh (M:=s1.2.1) (k:=x5.name) (v:=(⟨3,s1.1,0,x5.params,x5.ty⟩:Ent)) YP J J J J J) J ?_
   refine RunA.nil ⟨?ex,_,_,J,?_⟩
   case ex=>exact trivial
   refine JW (st':=⟨[],m11_h21 s1 x5 a0 x7,[],12,48,[]⟩) (Qu tZ (hA J) kZ J (Nat.le_trans hv3 (lb J)) J J J (bG J (bA J)) J J)<|Qe ?_
   have e:=sI h3;subst e
   exact Jq hQn3 (Qu tZ (hA J) kZ J (Nat.le_trans hv3 (lb J)) J J J (bG J (bA J)) J J)
  refine Q9 J J (lb J) (Je (jump:=none) J J J J J (Qw ha23 (fun E hv=>(Qu (tA J) (hA J) kZ J (Nat.le_trans hv (lb J)) J J J (bG J (bA J)) J J))) J (Qw hb24 (fun E hv=>(Qu (tA J) (hA J) kZ J (Nat.le_trans hv (lb J)) J J J (bG J (bA J)) J J))) J J) ?_
  refine rR J J J (Ji J)<|Q3<|Q4 ?_
  refine Qh J (fun h=>nomatch h) (fun _=>?_)
  refine Qm<|Q4<|Q5<|Q5<|Q0<|rR J J J (Q2 YD J)<|rR J J J (Q6 K2 J J J)<|rR J J J (QA (α:=Ctr) YM J (.d _))<|rM J J J<|Q3<|Q4<|Qf ?_
  refine QY 1 (fun (o25:(Qa Bs Ent))=>⟨[(0,.v (.one (.yld 9))),(1,.v (.one (.ptr 7 0))),(2,.v (.one (.ptr 6 0)))],[(0,.mp (QO o25.1) o25.2),(1,.cells 62 [dS ((a0.take s1.1.toNat):List Dcl),.mp 0]),(2,.cells 59 [.ptr 1 0]),(3,.cells 45 (cE x5)),(5,.cells 25 [dI x7]),(6,.cells 45 (cE x5)),(7,.cells 3 [dI s1.1]),(8,.obj (.deferred (some []))),(9,Zj a0 s1),(10,Yk s1 x5)],[],12,98,[]⟩) (fun (o25:(Qa Bs Ent))=>(Jd (Nat.ble (x5.name.length+([46,114,101,99]:List UInt8).length) 1000000000)
    (Option.bind (some ()) (fun (y27:Unit)=>some (J2 o25 (x5.name++([46,114,101,99]:List UInt8)) (⟨5,s1.1,0,x5.rcr.params,x5.rcr.ty⟩:Ent)))))=some y11) ?_ ?_
  refine Qb h2 (fun o26 hl3 h2=>?_)
  refine QX (m11_l0 x5 s1) (fun s3=>⟨[(0,.v (.one (.yld 9))),(1,.v (.one (.ptr 7 0))),(2,.v (.one (.ptr 6 0))),(42,.v (.one (dS x5.ctors))),(43,.v (.one (dI (x5.ctors.length:Int)))),(44,.v (.one (dI s3.1)))],[(0,.mp (QO s3.2.1) s3.2.2),(1,.cells 62 [dS ((a0.take s1.1.toNat):List Dcl),.mp 0]),(2,.cells 59 [.ptr 1 0]),(3,.cells 45 (cE x5)),(5,.cells 25 [dI x7]),(6,.cells 45 (cE x5)),(7,.cells 3 [dI s1.1]),(8,.obj (.deferred (some []))),(9,Zj a0 s1),(10,Yk s1 x5)],[],12,98,[]⟩) (0,(J2 s1.2.1 x5.name (⟨3,s1.1,0,x5.params,x5.ty⟩:Ent))) o26 (Qu (tA J) (hA J) kZ J (Nat.le_trans hv2 (lb J)) J J J (bG J (bA J)) J J) hl3 (fun s3 n3 oo3 h3 ho3=>?_)
  unfold m11_l0 at h3
  refine Q5<|Q0<|rR J J J (Q7 J J J)<|Q3<|Q4<|Q5 ?_
  refine Qh (b:=(decide (s3.1 < (x5.ctors.length:Int)))) J (fun c27=>?_) (fun c27=>?_)
  replace h3:=Qk c27 h3
  refine Qm<|Q4<|Q5<|Qf<|Q5<|Q0<|rM J J J ?_
  refine Qb h3 (fun x28 hx28 h3=>?_)
  refine rR J J J (Qy (α:=Ctr) YM J (.d _) J hx28)<|rR J J J (Qv (x28:Ctr) K0 J)<|Q9 J J (lb J) (Qj UV J)<|rA J J J<|Qx J J (Qz (x28:Ctr) K0 J J J J J)<|Q3<|Q4<|Q5<|Q0<|rM J J J<|rR J J J (Q2 Gs J)<|rR J J J (Q6 JV J J J)<|rR J J J (Q6 QU J J J)<|rM J J J ?_
  refine rR J J J (Q2 Yl J)<|rR J J J (Q6 QU J J J)<|rR J J J (Q2 KE J)<|rR J J J (Qi QV J J J J)<|rR J J J (Y0 Kn J (.cons J (.cons J (.cons J (.cons J (.cons J .nil))))) J) ?_
  refine Qb h3 (fun y29 h4 h3=>?_)
  have ha30:ExecOK Try.prog (some 9) XM ⟨[(0,.v (.one (dS a0))),(4,.v (.one (.ptr 2 0))),(16,.v (.one (dS a0))),(17,.v (.one (dI (a0.length:Int)))),(18,.v (.one (dI s1.1))),(38,.v (.one (.fn 49 [(7,0),(6,0)]))),(39,.v (.one (Jn x28.name))),(40,.v (.agg [dI 4,dI s1.1,dI s3.1,dI x5.params,dI x28.ty.kind,dI x28.ty.index,Jn x28.ty.name,dS x28.ty.levels,dS x28.ty.kids]))],m11_h22 s3 a0 s1 x5 x7 x28,[],13,48,[]⟩ .normal ⟨[(4,.v (.one (.ptr 2 0))),(8,.v (.one (Jn x28.name))),(9,.v (.one (.ptr 13 0)))],m11_h25 s3 a0 s1 x5 x7 x28,[],14,48,[]⟩:=by
   refine QI (fun w0 M V0 ro n Q hv4 hro4 hQn4=>?_)
   refine Q5<|Q0<|rA J J J<|Q3<|Q4<|Q0<|Q9 J J (lb J) (Qj Zl J)<|Qx J J (Qt Jm J J J J (lb J) J)<|Q3 ?_
   exact Jq hQn4 (Qu (tA J) (hA J) kZ J (Nat.le_trans hv4 (lb J)) J J J (bG J (bA J)) J J)
  have hb31:ExecOK Try.prog (some 9) XK ⟨[(4,.v (.one (.ptr 2 0))),(8,.v (.one (Jn x28.name))),(9,.v (.one (.ptr 13 0)))],m11_h24 s3 a0 s1 x5 x7 x28,[],14,48,[]⟩ .normal ⟨[],m11_h27 s3 x28 s1 x5 a0 x7,[],14,48,[]⟩:=by
   refine QI (fun w0 M V0 ro n Q hv4 hro4 hQn4=>?_)
   refine Qf ?_
   refine Jv [6] [] YQ (by kernel_rfl) (by kernel_rfl) (by kernel_rfl) ?_
   refine RunA.rd J J J (Q1 (Q6 Wa J J J)) J<|RunA.rd J J J (Q1 (Ju J)) J<|RunA.rd J J J (Q1 (Q2 Kf J)) J<|RunA.rd J J J (Q1 (Q6 YA J J J)) J<|RunA.rd J J J (Q1 (Qr J)) J<|RunA.rd J J J (Q1 (Qi Jm J J J J)) J<|RunA.eff J J J (Jh (M:=s3.2) (k:=x28.name) (v:=(⟨4,s1.1,s3.1,x5.params,x28.ty⟩:Ent)) YP J J J J J) J ?_
   refine RunA.nil ⟨?ex,_,_,J,?_⟩
   case ex=>exact trivial
   refine JW (st':=⟨[],m11_h28 s3 x28 s1 x5 a0 x7,[],14,48,[]⟩) (Qu tZ (hA J) kZ J (Nat.le_trans hv4 (lb J)) J J J (bG J (bA J)) J J)<|Qe ?_
   have e:=sI h4;subst e
   exact Jq hQn4 (Qu tZ (hA J) kZ J (Nat.le_trans hv4 (lb J)) J J J (bG J (bA J)) J J)
  refine Q9 J J (lb J) (Je (jump:=none) J J J J J (Qw ha30 (fun E hv=>(Qu (tA J) (hA J) kZ J (Nat.le_trans hv (lb J)) J J J (bG J (bA J)) J J))) J (Qw hb31 (fun E hv=>(Qu (tA J) (hA J) kZ J (Nat.le_trans hv (lb J)) J J J (bG J (bA J)) J J))) J J) ?_
  refine rR J J J (Ji J)<|Q3<|Q4 ?_
  refine Qh J (fun h=>nomatch h) (fun _=>?_)
  refine Qm<|Qe<|Q4<|Q0<|rR J J J (Q7 J J J)<|rM J J J<|Q3 ?_
  have e:=sI h3;subst e
  refine QR ((J9 (s3.1+1)),(J2 s3.2 x28.name (⟨4,s1.1,s3.1,x5.params,x28.ty⟩:Ent))) (Qu (tA J) (hA J) kZ J (Nat.le_trans hv2 (lb J)) J J J (bG J (bA J)) J J) ho3
  replace h3:=Ql c27 h3
  refine J5<|Qo<|Qo ?_
  have e:=sI h3;subst e
  have e_:_=_:=ho3
  subst e_
  exact QW s3.2 (Qu (tA J) (hA J) kZ J (Nat.le_trans hv2 (lb J)) J J J (bG J (bA J)) J J) h2
  intro o25 h2
  refine QM<|Q4<|Q0<|rM J J J<|rR J J J (Q2 Ym J)<|rR J J J (Q6 JV J J J) ?_
  refine Yo h2 (fun g32 h2=>?_)
  refine rR J J J (W4 J J g32)<|rR J J J (Q6 QU J J J)<|rR J J J (Q2 JT J)<|rR J J J (Q2 Gu J)<|rR J J J (Q6 QU J J J)<|rR J J J (Q2 JT J)<|rR J J J (Q2 Gt J)<|rR J J J (Qi QV J J J J)<|rR J J J (Y0 Kn J (.cons J (.cons J (.cons J (.cons J .nil)))) J) ?_
  refine Qb h2 (fun y33 h3 h2=>?_)
  have ha34:ExecOK Try.prog (some 9) XM ⟨[(0,.v (.one (dS a0))),(4,.v (.one (.ptr 2 0))),(16,.v (.one (dS a0))),(17,.v (.one (dI (a0.length:Int)))),(18,.v (.one (dI s1.1))),(38,.v (.one (.fn 49 [(7,0),(6,0)]))),(39,.v (.one (Jn (x5.name++([46,114,101,99]:List UInt8))))),(40,.v (.agg [dI 5,dI s1.1,dI 0,dI x5.rcr.params,dI x5.rcr.ty.kind,dI x5.rcr.ty.index,Jn x5.rcr.ty.name,dS x5.rcr.ty.levels,dS x5.rcr.ty.kids]))],m11_h29 o25 a0 s1 x5 x7,[],12,48,[]⟩ .normal ⟨[(4,.v (.one (.ptr 2 0))),(8,.v (.one (Jn (x5.name++([46,114,101,99]:List UInt8))))),(9,.v (.one (.ptr 12 0)))],m11_h32 o25 a0 s1 x5 x7,[],13,48,[]⟩:=by
   refine QI (fun w0 M V0 ro n Q hv3 hro3 hQn3=>?_)
   refine Q5<|Q0<|rA J J J<|Q3<|Q4<|Q0<|Q9 J J (lb J) (Qj Zl J)<|Qx J J (Qt Jm J J J J (lb J) J)<|Q3 ?_
   exact Jq hQn3 (Qu (tA J) (hA J) kZ J (Nat.le_trans hv3 (lb J)) J J J (bG J (bA J)) J J)
  have hb35:ExecOK Try.prog (some 9) XK ⟨[(4,.v (.one (.ptr 2 0))),(8,.v (.one (Jn (x5.name++([46,114,101,99]:List UInt8))))),(9,.v (.one (.ptr 12 0)))],m11_h31 o25 a0 s1 x5 x7,[],13,48,[]⟩ .normal ⟨[],m11_h34 o25 x5 s1 a0 x7,[],13,48,[]⟩:=by
   refine QI (fun w0 M V0 ro n Q hv3 hro3 hQn3=>?_)
   refine Qf ?_
   refine Jv [6] [] YQ (by kernel_rfl) (by kernel_rfl) (by kernel_rfl) ?_
   refine RunA.rd J J J (Q1 (Q6 Wa J J J)) J<|RunA.rd J J J (Q1 (Ju J)) J<|RunA.rd J J J (Q1 (Q2 Kf J)) J<|RunA.rd J J J (Q1 (Q6 YA J J J)) J<|RunA.rd J J J (Q1 (Qr J)) J<|RunA.rd J J J (Q1 (Qi Jm J J J J)) J<|RunA.eff J J J (Jh (M:=o25) (k:=(x5.name++([46,114,101,99]:List UInt8))) (v:=(⟨5,s1.1,0,x5.rcr.params,x5.rcr.ty⟩:Ent)) YP J J J J J) J ?_
   refine RunA.nil ⟨?ex,_,_,J,?_⟩
   case ex=>exact trivial
   refine JW (st':=⟨[],m11_h35 o25 x5 s1 a0 x7,[],13,48,[]⟩) (Qu tZ (hA J) kZ J (Nat.le_trans hv3 (lb J)) J J J (bG J (bA J)) J J)<|Qe ?_
   have e:=sI h3;subst e
   exact Jq hQn3 (Qu tZ (hA J) kZ J (Nat.le_trans hv3 (lb J)) J J J (bG J (bA J)) J J)
  refine Q9 J J (lb J) (Je (jump:=none) J J J J J (Qw ha34 (fun E hv=>(Qu (tA J) (hA J) kZ J (Nat.le_trans hv (lb J)) J J J (bG J (bA J)) J J))) J (Qw hb35 (fun E hv=>(Qu (tA J) (hA J) kZ J (Nat.le_trans hv (lb J)) J J J (bG J (bA J)) J J))) J J) ?_
  refine Q3<|Qe ?_
  have e:=sI h2;subst e
  exact hQ2 _ _ _ (.inl J) J (Qu tZ (hA J) kZ J (Nat.le_trans hv2 (lb J)) J J J (bG J (bA J)) J J)
  replace h2:=Ql c21 h2
  refine Q5<|Q0<|rR J J J (Q7 J J J)<|rA J J J<|Q3<|Q4 ?_
  refine Qh (b:=(x5.kind==4)) J (fun c36=>?_) (fun c36=>?_)
  replace h2:=Qk c36 h2
  refine Q5<|Q0<|rR J J J (Q2 YC J)<|rR J J J (Q6 K1 J J J)<|rR J J J (QA (α:=Fn) YL J (.d _))<|rM J J J<|Q3<|Q4<|Qf ?_
  refine QY 3 (fun (o37:(Qa Bs Ent))=>⟨[],[(0,.mp (QO o37.1) o37.2),(1,.cells 62 [dS ((a0.take s1.1.toNat):List Dcl),.mp 0]),(2,.cells 59 [.ptr 1 0]),(3,.cells 45 (cE x5)),(5,.cells 25 [dI x7]),(6,.cells 45 (cE x5)),(7,.cells 3 [dI s1.1]),(8,.obj (.deferred (some []))),(9,Zj a0 s1),(10,XJ s1 x5)],[],11,98,[]⟩) (fun (o37:(Qa Bs Ent))=>(some o37)=some y11) ?_ ?_
  refine Qb h2 (fun o38 hl3 h2=>?_)
  refine QX (m11_l1 x5 s1) (fun s3=>⟨[(0,.v (.one (.yld 9))),(1,.v (.one (.ptr 7 0))),(2,.v (.one (.ptr 6 0))),(78,.v (.one (dS x5.funs))),(79,.v (.one (dI (x5.funs.length:Int)))),(80,.v (.one (dI s3.1)))],[(0,.mp (QO s3.2.1) s3.2.2),(1,.cells 62 [dS ((a0.take s1.1.toNat):List Dcl),.mp 0]),(2,.cells 59 [.ptr 1 0]),(3,.cells 45 (cE x5)),(5,.cells 25 [dI x7]),(6,.cells 45 (cE x5)),(7,.cells 3 [dI s1.1]),(8,.obj (.deferred (some []))),(9,Zj a0 s1),(10,XJ s1 x5)],[],11,98,[]⟩) (0,s1.2.1) o38 (Qu (tA J) (hA J) kZ J (Nat.le_trans hv2 (lb J)) J J J (bG J (bA J)) J J) hl3 (fun s3 n3 oo3 h3 ho3=>?_)
  unfold m11_l1 at h3
  refine Q5<|Q0<|rR J J J (Q7 J J J)<|Q3<|Q4<|Q5 ?_
  refine Qh (b:=(decide (s3.1 < (x5.funs.length:Int)))) J (fun c39=>?_) (fun c39=>?_)
  replace h3:=Qk c39 h3
  refine Qm<|Q4<|Q5<|Qf<|Q5<|Q0<|rM J J J ?_
  refine Qb h3 (fun x40 hx40 h3=>?_)
  refine rR J J J (Qy (α:=Fn) YL J (.d _) J hx40)<|rR J J J (Qv (x40:Fn) ZF J)<|Q9 J J (lb J) (Qj UU J)<|rA J J J<|Qx J J (Qz (x40:Fn) ZF J J J J J)<|Q3<|Q4<|Q5<|Q0<|rM J J J<|rR J J J (Q2 W0 J)<|rR J J J (Q6 JV J J J)<|rR J J J (Q6 QU J J J)<|rM J J J ?_
  refine rR J J J (Q2 Yl J)<|rR J J J (Q6 QU J J J)<|rR J J J (Q2 Xc J)<|rR J J J (Qi QV J J J J)<|rR J J J (Y0 Kn J (.cons J (.cons J (.cons J (.cons J (.cons J .nil))))) J) ?_
  refine Qb h3 (fun y41 h4 h3=>?_)
  have ha42:ExecOK Try.prog (some 9) XM ⟨[(0,.v (.one (dS a0))),(4,.v (.one (.ptr 2 0))),(16,.v (.one (dS a0))),(17,.v (.one (dI (a0.length:Int)))),(18,.v (.one (dI s1.1))),(38,.v (.one (.fn 49 [(7,0),(6,0)]))),(39,.v (.one (Jn x40.name))),(40,.v (.agg [dI 6,dI s1.1,dI s3.1,dI x5.params,dI x40.ty.kind,dI x40.ty.index,Jn x40.ty.name,dS x40.ty.levels,dS x40.ty.kids]))],m11_h36 s3 a0 s1 x5 x7 x40,[],12,48,[]⟩ .normal ⟨[(4,.v (.one (.ptr 2 0))),(8,.v (.one (Jn x40.name))),(9,.v (.one (.ptr 12 0)))],m11_h39 s3 a0 s1 x5 x7 x40,[],13,48,[]⟩:=by
   refine QI (fun w0 M V0 ro n Q hv4 hro4 hQn4=>?_)
   refine Q5<|Q0<|rA J J J<|Q3<|Q4<|Q0<|Q9 J J (lb J) (Qj Zl J)<|Qx J J (Qt Jm J J J J (lb J) J)<|Q3 ?_
   exact Jq hQn4 (Qu (tA J) (hA J) kZ J (Nat.le_trans hv4 (lb J)) J J J (bG J (bA J)) J J)
  have hb43:ExecOK Try.prog (some 9) XK ⟨[(4,.v (.one (.ptr 2 0))),(8,.v (.one (Jn x40.name))),(9,.v (.one (.ptr 12 0)))],m11_h38 s3 a0 s1 x5 x7 x40,[],13,48,[]⟩ .normal ⟨[],m11_h41 s3 x40 s1 x5 a0 x7,[],13,48,[]⟩:=by
   refine QI (fun w0 M V0 ro n Q hv4 hro4 hQn4=>?_)
   refine Qf ?_
   refine Jv [6] [] YQ (by kernel_rfl) (by kernel_rfl) (by kernel_rfl) ?_
   refine RunA.rd J J J (Q1 (Q6 Wa J J J)) J<|RunA.rd J J J (Q1 (Ju J)) J<|RunA.rd J J J (Q1 (Q2 Kf J)) J<|RunA.rd J J J (Q1 (Q6 YA J J J)) J<|RunA.rd J J J (Q1 (Qr J)) J<|RunA.rd J J J (Q1 (Qi Jm J J J J)) J<|RunA.eff J J J (Jh (M:=s3.2) (k:=x40.name) (v:=(⟨6,s1.1,s3.1,x5.params,x40.ty⟩:Ent)) YP J J J J J) J ?_
   refine RunA.nil ⟨?ex,_,_,J,?_⟩
   case ex=>exact trivial
   refine JW (st':=⟨[],m11_h42 s3 x40 s1 x5 a0 x7,[],13,48,[]⟩) (Qu tZ (hA J) kZ J (Nat.le_trans hv4 (lb J)) J J J (bG J (bA J)) J J)<|Qe ?_
   have e:=sI h4;subst e
   exact Jq hQn4 (Qu tZ (hA J) kZ J (Nat.le_trans hv4 (lb J)) J J J (bG J (bA J)) J J)
  refine Q9 J J (lb J) (Je (jump:=none) J J J J J (Qw ha42 (fun E hv=>(Qu (tA J) (hA J) kZ J (Nat.le_trans hv (lb J)) J J J (bG J (bA J)) J J))) J (Qw hb43 (fun E hv=>(Qu (tA J) (hA J) kZ J (Nat.le_trans hv (lb J)) J J J (bG J (bA J)) J J))) J J) ?_
  refine rR J J J (Ji J)<|Q3<|Q4 ?_
  refine Qh J (fun h=>nomatch h) (fun _=>?_)
  refine Qm<|Qe<|Q4<|Q0<|rR J J J (Q7 J J J)<|rM J J J<|Q3 ?_
  have e:=sI h3;subst e
  refine QR ((J9 (s3.1+1)),(J2 s3.2 x40.name (⟨6,s1.1,s3.1,x5.params,x40.ty⟩:Ent))) (Qu (tA J) (hA J) kZ J (Nat.le_trans hv2 (lb J)) J J J (bG J (bA J)) J J) ho3
  replace h3:=Ql c39 h3
  refine J5<|Qo<|Qo ?_
  have e:=sI h3;subst e
  have e_:_=_:=ho3
  subst e_
  exact QW s3.2 (Qu tZ (hA J) kZ J (Nat.le_trans hv2 (lb J)) J J J (bG J (bA J)) J J) h2
  intro o37 h2
  refine QM<|Qe ?_
  have e:=sI h2;subst e
  exact hQ2 _ _ _ (.inl J) J (Qu tZ (hA J) kZ J (Nat.le_trans hv2 (lb J)) J J J (bG J (bA J)) J J)
  replace h2:=Ql c36 h2
  refine Qm<|Qe ?_
  have e:=sI h2;subst e
  exact hQ2 _ _ _ (.inl J) J (Qu tZ (hA J) kZ J (Nat.le_trans hv2 (lb J)) J J J (bG J (bA J)) J J)
 refine ZU (Y1 (e:=.normal) rfl hc12 rfl rfl (by intro h;cases h) rfl) rfl ?_
 refine Qe<|Qe<|Q4<|Q0<|rR J J J (Q7 J J J)<|rM J J J<|Q3 ?_
 have e:=sI h1;subst e
 refine QR ((J9 (s1.1+1)),y11,(a0.take s1.1.toNat)) (Qu (tA J) (hA J) kZ J (Nat.zero_le _) J J J (bG J (bA J)) J J) ho1
 replace h1:=Ql c4 h1
 refine J5<|Qo<|Qo ?_
 have e:=sI h1;subst e
 have e_:_=_:=ho1
 subst e_
 exact QW (s1.2.1,s1.2.2) (Qu tZ (hA J) kZ J (Nat.zero_le _) J J J (bG J (bA J)) J J) h0
 intro o2 h0
 refine QM<|Q4<|Q5<|Q0<|rA J J J<|rA J J J<|Q3<|Q4<|QD ?_
 have e:=sI h0;subst e
 exact QL (fun _ _ h=>h) J (QC J (QC J .nil)) (.cons (.one (.d _)) (.cons (.one (.d _)) .nil))
end Go.Proofs.Ytafddfoefeploaa
namespace Go.Proofs.Ytafddfoefeploaa
open Go.RowKit Go.Shelf
def m110_k0 (p0_:Bool) (p1_:Int) (p2_:Lvl) (p3_:LV):Option (LO Int (Unit⊕Bool)) :=
 cond p0_
   (some (.done (.inr false)))
   (Option.bind (cond (decide (0 < p1_))
   (Option.bind (JC p2_.vs (J9 (p1_ - 1))) fun (b0_:LV) =>
 some (decide (p3_.1≤b0_.1)))
   (some false)) (fun (b1_:Bool)=>cond b1_
   (some (.done (.inr false)))
   (Option.bind (cond (decide (0 < p2_.c))
   (some (decide (p2_.c≤p3_.2)))
   (some false)) (fun (b2_:Bool)=>cond b2_
   (some (.done (.inr false)))
   (some (.next (J9 (p1_+1))))))))
def WO (a0:Lvl) (s1:Int):Option (LO Int (Unit⊕Bool)) :=
 cond (decide (s1 < (a0.vs.length:Int)))
   (Option.bind (JC a0.vs s1) fun (x5:LV) =>
 Option.bind (cond (decide (x5.1 < (-65536)))
   (some true)
   (cond (decide (8≤x5.1))
   (some true)
   (cond (decide (x5.2 < 0))
   (some true)
   (some (decide (100 < x5.2)))))) (fun (v6:Bool)=>m110_k0 v6 s1 a0 x5))
   (some (.done (.inl ())))
def m110 (a0:Lvl):Option Bool :=
 Option.bind (cond (decide (a0.c < 0))
   (some true)
   (some (decide (100 < a0.c)))) (fun (v1:Bool)=>cond v1
   (some false)
   (Option.bind (Qp (WO a0) QF 0) (Sum.elim (fun (o3:Unit)=>some true) (fun o=>some o))))
def m85 (a0:Byt):Option Bool :=
 Option.bind (cond (decide (97≤a0.n))
   (cond (decide (a0.n≤122))
   (some true)
   (cond (decide (65≤a0.n))
   (cond (decide (a0.n≤90))
   (some true)
   (some (a0.n==95)))
   (some (a0.n==95))))
   (cond (decide (65≤a0.n))
   (cond (decide (a0.n≤90))
   (some true)
   (some (a0.n==95)))
   (some (a0.n==95)))) (fun (v1:Bool)=>some v1)
def UA (a0:Bs) (s1:Bool×Int):Option (LO (Bool×Int) (Bool⊕Bool)) :=
 cond (decide (s1.2 < (a0.length:Int)))
   (Option.bind (JC a0 s1.2) fun (x5:UInt8) =>
 cond s1.1
   (Option.bind (m85 (⟨(x5.toNat:Int)⟩:Byt)) fun (x7:Bool) =>
 cond (!x7)
   (some (.done (.inr false)))
   (some (.next (false,(J9 (s1.2+1))))))
   (cond ((x5.toNat:Int)==46)
   (some (.next (true,(J9 (s1.2+1)))))
   (Option.bind (Option.bind (m85 (⟨(x5.toNat:Int)⟩:Byt)) fun (x11:Bool) =>
 cond (!x11)
   (cond ((x5.toNat:Int) != 39)
   (cond (decide ((x5.toNat:Int) < 48))
   (some true)
   (some (decide (57 < (x5.toNat:Int)))))
   (some false))
   (some false)) (fun (v10:Bool)=>cond v10
   (some (.done (.inr false)))
   (some (.next (s1.1,(J9 (s1.2+1)))))))))
   (some (.done (.inl s1.1)))
def m71 (a0:Bs):Option Bool :=
 Option.bind (cond (a0==([]:List UInt8))
   (some true)
   (some (decide (64 < (a0.length:Int))))) (fun (v1:Bool)=>cond v1
   (some false)
   (Option.bind (Qp (UA a0) QF (true,0)) (Sum.elim (fun (o3:Bool)=>some (!o3)) (fun o=>some o))))
def m109_k0 (p0_:Bool) (p1_:Int):Option Int :=
 cond p0_
   (some 2)
   (Option.bind (cond (p1_==8)
   (some (p1_==8))
   (some (p1_==11))) (fun (b0_:Bool)=>cond b0_
   (some 3)
   (cond (p1_==9)
   (cond (p1_==9)
   (some 1)
   (some 0))
   (cond (p1_==10)
   (some 1)
   (some 0)))))
def m109 (a0:Int):Option Int :=
 Option.bind (cond (a0==4)
   (some (a0==4))
   (cond (a0==5)
   (some (a0==5))
   (cond (a0==6)
   (some (a0==6))
   (some (a0==7))))) (fun (v1:Bool)=>m109_k0 v1 a0)
def Dd (a0:Int) (a1:Int):Option Int :=
 Option.bind (cond (a1==1)
   (cond (a0==5)
   (some true)
   (cond (a0==6)
   (some true)
   (cond (a0==7)
   (some true)
   (cond (a1==2)
   (some (a0==11))
   (some false)))))
   (cond (a1==2)
   (some (a0==11))
   (some false))) (fun (v1:Bool)=>cond v1
   (some 1)
   (some 0))
def m105_k0 (p0_:Bool) (p1_:Tm):Option Bool :=
 cond p0_
   (some false)
   (Option.bind (cond (!(p1_.name==([]:List UInt8)))
   (some (p1_.kind != 3))
   (some false)) (fun (b0_:Bool)=>cond b0_
   (some false)
   (cond (p1_.kind==2)
   (some ((p1_.levels.length:Int)==1))
   (Option.bind (cond ((p1_.levels.length:Int)==0)
   (some true)
   (some (p1_.kind==3))) (fun (b1_:Bool)=>some b1_)))))
def Dv (a0:Tm):Option Bool :=
 Option.bind (cond (decide (a0.kind < 0))
   (some true)
   (cond (decide (13≤a0.kind))
   (some true)
   (Option.bind (m109 a0.kind) fun (x4:Int) =>
 some ((a0.kids.length:Int) != x4)))) (fun (v1:Bool)=>cond v1
   (some false)
   (Option.bind (cond (a0.index != 0)
   (cond (a0.kind != 0)
   (some (a0.kind != 12))
   (some false))
   (some false)) (fun (v3:Bool)=>m105_k0 v3 a0)))
def WQ (a0:Lvl) (a1:Int) (s1:Int):Option (LO Int (Unit⊕Int)) :=
 cond (decide (s1 < (a0.vs.length:Int)))
   (Option.bind (Option.bind (JC a0.vs s1) fun (x6:LV) =>
 cond (decide (0≤x6.1))
   (Option.bind (JC a0.vs s1) fun (x8:LV) =>
 some (decide (a1≤x8.1)))
   (some false)) (fun (v5:Bool)=>cond v5
   (some (.done (.inr 15)))
   (some (.next (J9 (s1+1))))))
   (some (.done (.inl ())))
def WP (a0:Lvl) (a2:Int) (s1:Int):Option (LO Int (Unit⊕Int)) :=
 cond (decide (s1 < (a0.vs.length:Int)))
   (Option.bind (Option.bind (JC a0.vs s1) fun (x7:LV) =>
 cond (decide (x7.1 < 0))
   (Option.bind (JC a0.vs s1) fun (x9:LV) =>
 some (decide (a2≤(J9 ((-1) - x9.1)))))
   (some false)) (fun (v6:Bool)=>cond v6
   (some (.done (.inr 23)))
   (some (.next (J9 (s1+1))))))
   (some (.done (.inl ())))
def DN (a0:Lvl) (a1:Int) (a2:Int):Option Int :=
 Option.bind (m110 a0) fun (x1:Bool) =>
 cond (!x1)
   (some 3)
   (Option.bind (Qp (WQ a0 a1) QF 0) (Sum.elim (fun (o3:Unit)=>Option.bind (Qp (WP a0 a2) QF 0) (Sum.elim (fun (o4:Unit)=>some 0) (fun o=>some o))) (fun o=>some o)))
def X8 (a0:Tm) (a3:Int) (a5:Int) (s1:Int):Option (LO Int (Unit⊕Int)) :=
 cond (decide (s1 < (a0.levels.length:Int)))
   (Option.bind (JC a0.levels s1) fun (x8:Lvl) =>
 Option.bind (DN x8 a3 a5) fun (x9:Int) =>
 cond (x9 != 0)
   (some (.done (.inr x9)))
   (some (.next (J9 (s1+1)))))
   (some (.done (.inl ())))
def XX (a0:Tm) (rc:Tm×Int×Int×Int×Int×Int→Option Int) (a1:Int) (a2:Int) (a3:Int) (a4:Int) (a5:Int) (s1:Int):Option (LO Int (Unit⊕Int)) :=
 cond (decide (s1 < (a0.kids.length:Int)))
   (Option.bind (JC a0.kids s1) fun (x13:Tm) =>
 Option.bind (Dd a0.kind s1) fun (x14:Int) =>
 Option.bind (rc (x13,(J9 (a1+x14)),a2,a3,a4,a5)) fun (x15:Int) =>
 cond (x15 != 0)
   (some (.done (.inr x15)))
   (some (.next (J9 (s1+1)))))
   (some (.done (.inl ())))
def X9 (p0_:Bool) (p1_:Tm) (p2_:Int) (p3_:Tm×Int×Int×Int×Int×Int→Option Int) (p4_:Int) (p5_:Int) (p6_:Int) (p7_:Int):Option Int :=
 cond p0_
   (some 24)
   (Option.bind (cond (p1_.kind==12)
   (cond (decide (p1_.index < 0))
   (some true)
   (some (decide (p2_≤p1_.index))))
   (some false)) (fun (b0_:Bool)=>cond b0_
   (some 23)
   (Option.bind (Qp (XX p1_ p3_ p4_ p5_ p6_ p2_ p7_) QF 0) (Sum.elim (fun (b1_:Unit)=>some 0) (fun o=>some o)))))
def m100_k3 (p0_:Bool) (p1_:Tm) (p2_:Int) (p3_:Int) (p4_:Int) (p5_:Int) (p6_:Int) (p7_:Tm×Int×Int×Int×Int×Int→Option Int):Option Int :=
 cond p0_
   (some 29)
   (cond (decide (8 < (p1_.levels.length:Int)))
   (some 6)
   (Option.bind (Qp (X8 p1_ p2_ p3_) QF 0) (Sum.elim (fun (b0_:Unit)=>Option.bind (cond (p1_.kind==0)
   (cond (decide (p1_.index < 0))
   (some true)
   (some (decide (p4_≤(J9 (p1_.index - p5_))))))
   (some false)) (fun (b1_:Bool)=>X9 b1_ p1_ p6_ p7_ p5_ p4_ p2_ p3_)) (fun o=>some o))))
def m100s (rc:Tm×Int×Int×Int×Int×Int→Option Int) (a0:Tm) (a1:Int) (a2:Int) (a3:Int) (a4:Int) (a5:Int):Option Int :=
 Option.bind (Dv a0) fun (x1:Bool) =>
 cond (!x1)
   (some 3)
   (Option.bind (cond (a0.kind==3)
   (Option.bind (m71 a0.name) fun (x5:Bool) =>
 some (!x5))
   (some false)) (fun (v3:Bool)=>m100_k3 v3 a0 a3 a5 a2 a1 a4 rc))
def D6 (rc:Tm×Int×Int×Int×Int×Int→Option Int) (u:Tm×Int×Int×Int×Int×Int):Option Int:=m100s rc u.1 u.2.1 u.2.2.1 u.2.2.2.1 u.2.2.2.2.1 u.2.2.2.2.2
def m100 (a0:Tm) (a1:Int) (a2:Int) (a3:Int) (a4:Int) (a5:Int):Option Int:=Jr D6 QF (a0,a1,a2,a3,a4,a5)
def m86 (a0:Tm) (a1:Int) (a2:Int) (a3:Int) (a4:Int):Option Int :=
 Option.bind (m100 a0 0 (max a1 0) a2 a3 a4) fun (x1:Int) =>
 cond (x1 != 0)
   (some x1)
   (Option.bind (m55 a0) fun (x3:Int) =>
 cond (decide (4096 < x3))
   (some 5)
   (Option.bind (m56 a0) fun (x5:Int) =>
 cond (decide (200 < x5))
   (some 7)
   (some 0)))
end Go.Proofs.Ytafddfoefeploaa
namespace Go.Proofs.Ytafddfoefeploaa
open Go.RowKit Go.Shelf
def DT {α σ β:Type} (f:σ→α→σ⊕β) (e:σ→β):List α→σ→β
 | [],s=>e s
 | x::l,s=>Sum.elim (fun s'=>DT f e l s') (fun r=>r) (f s x)
theorem loop_sm {α σ τ β:Type} {step:τ→Option (LO τ β)} (l:List α) (mk:Int→σ→τ) (f:σ→α→σ⊕β) (e:σ→β) (I:List α→σ→Prop) (hlen:l.length≤900000000)
  (hin:∀ (a:List α) (x:α) (b:List α) (s:σ),l=a++x::b→I a s→step (mk (a.length:Int) s)=some (Sum.elim (fun s'=>.next (mk (J9 ((a.length:Int)+1)) s')) .done (f s x))∧∀ s',f s x=.inl s'→I (a++[x]) s')
  (hout:∀ s,I l s→step (mk (l.length:Int) s)=some (.done (e s))) (s0:σ) (h0:I [] s0):Qp step QF (mk 0 s0)=some (DT f e l s0):=by
 obtain ⟨r,h1,h2⟩:=JG (step:=step) l mk (fun a s=>I a s∧∀ b,l=a++b→DT f e l s0=DT f e b s) (fun r=>r=DT f e l s0) hlen
  (fun a x b s hl hI=>by
   obtain ⟨h3,h4⟩:=hin a x b s hl hI.1
   have h5:=hI.2 (x::b) hl
   cases hf:f s x with
   | inl s' =>
    refine .inr ⟨s',by rw [h3,hf];rfl,h4 s' hf,fun b' hb=>?_⟩
    have:b'=b:=by
     rw [hl,List.append_assoc] at hb
     exact (List.cons.inj (List.append_cancel_left hb)).2.symm
    rw [this,h5,DT,hf];rfl
   | inr r=>exact .inl ⟨r,by rw [h3,hf];rfl,by rw [h5,DT,hf];rfl⟩)
  (fun s hI=>⟨e s,hout s hI.1,by rw [hI.2 [] (by simp)];rfl⟩) s0 ⟨h0,fun b hb=>by rw [List.nil_append] at hb;rw [hb]⟩
 rw [h1,h2]
theorem loop_bad {α β:Type} {step:Int→Option (LO Int β)} (l:List α) (bad:List α→α→Prop) (r0 r1:β) (hlen:l.length≤900000000)
  (hin:∀ (a:List α) (x:α) (b:List α),l=a++x::b→(bad a x→step (a.length:Int)=some (.done r0))∧(¬ bad a x→step (a.length:Int)=some (.next (J9 ((a.length:Int)+1)))))
  (hout:step (l.length:Int)=some (.done r1)):∃ r,Qp step QF 0=some r∧((r=r1∧∀ a x b,l=a++x::b→¬ bad a x)∨(r=r0∧∃ a x b,l=a++x::b∧bad a x)):=by
 refine JG (step:=step) l (fun i (_:Unit)=>i) (fun a _=>∀ a' x b',a=a'++x::b'→¬ bad a' x) (fun r=>(r=r1∧∀ a x b,l=a++x::b→¬ bad a x)∨(r=r0∧∃ a x b,l=a++x::b∧bad a x)) hlen
  (fun a x b s hl hI=>?_) (fun s hI=>⟨r1,hout,.inl ⟨rfl,hI⟩⟩) () (fun a' x b' h=>by cases a' <;> cases h)
 by_cases hb:bad a x
 ·exact .inl ⟨r0,(hin a x b hl).1 hb,.inr ⟨rfl,a,x,b,hl,hb⟩⟩
 ·refine .inr ⟨(),(hin a x b hl).2 hb,fun a' y b' h=>?_⟩
  rcases List.append_eq_append_iff.1 h with ⟨c,h1,h2⟩ | ⟨c,h1,h2⟩
  ·cases c with
   | nil =>
    rw [List.nil_append] at h2
    cases h2
    rw [List.append_nil] at h1
    rw [h1];exact hb
   | cons z c =>
    exfalso
    have:=congrArg List.length h2
    simp at this
  ·cases c with
   | nil =>
    rw [List.nil_append] at h2
    cases h2
    rw [List.append_nil] at h1
    rw [← h1];exact hb
   | cons z c =>
    rw [List.cons_append] at h2
    cases h2
    exact hI a' y c h1
def WB (c:Int):Bool:=(decide (97≤c)&&decide (c≤122))||(decide (65≤c)&&decide (c≤90))||(c==95)
theorem m79_eq (c:Int):m79 ⟨c⟩=some (WB c):=by
 unfold m79 WB
 cases decide (97≤c) <;> cases decide (c≤122) <;> cases decide (65≤c) <;> cases decide (c≤90) <;> rfl
theorem m85_eq (c:Int):m85 ⟨c⟩=some (WB c):=m79_eq c
def DX (st:Bool) (b:UInt8):Bool⊕(Bool⊕Bool) :=
 if WB (b.toNat:Int)=true then .inl false else if st=true then .inr (.inr false) else if (b.toNat:Int)=46 then .inl true else
  if (b.toNat:Int) < 48∨57 < (b.toNat:Int) then (if (b.toNat:Int)=39 then .inl st else .inr (.inr false)) else .inl st
def nmL (s:Bs):Bool⊕Bool:=DT DX .inl s true
theorem m65_l0_eq (s:Bs) (h:s.length≤900000000):Qp (Wk s) QF (true,0)=some (nmL s):=by
 refine loop_sm (step:=Wk s) s (fun i (st:Bool)=>(st,i)) DX .inl (fun _ _=>True) h (fun a x b st e _=>⟨?_,fun _ _=>trivial⟩) (fun st _=>by unfold Wk;dsimp only;rw [J7];rfl) true trivial
 unfold Wk DX
 dsimp only
 rw [e,JI,Js]
 simp only [cond_true,Option.bind_some]
 rw [m79_eq,Option.bind_some]
 cases WB (x.toNat:Int) with
 | true=>rfl
 | false =>
  cases st with
  | true=>rfl
  | false =>
   simp only [cond_false,Yf,Bool.false_eq_true,if_false]
   by_cases h1:(x.toNat:Int)=46
   ·rw [decide_eq_true h1,if_pos h1];rfl
   ·rw [decide_eq_false h1,if_neg h1,cond_false]
    by_cases h2:(x.toNat:Int) < 48
    ·rw [decide_eq_true h2,if_pos (Or.inl h2)]
     by_cases h4:(x.toNat:Int)=39
     ·rw [if_pos h4,h4];rfl
     ·rw [if_neg h4]
      have:((x.toNat:Int) != 39)=true:=bne_iff_ne.2 h4
      simp only [cond_true,Option.bind_some,this];rfl
    ·rw [decide_eq_false h2]
     by_cases h3:57 < (x.toNat:Int)
     ·rw [decide_eq_true h3,if_pos (Or.inr h3)]
      by_cases h4:(x.toNat:Int)=39
      ·omega
      ·rw [if_neg h4]
       have:((x.toNat:Int) != 39)=true:=bne_iff_ne.2 h4
       simp only [cond_true,cond_false,Option.bind_some,this];rfl
     ·rw [decide_eq_false h3,if_neg (by omega)];rfl
theorem m71_l0_eq (s:Bs) (h:s.length≤900000000):Qp (UA s) QF (true,0)=some (nmL s):=by
 refine loop_sm (step:=UA s) s (fun i (st:Bool)=>(st,i)) DX .inl (fun _ _=>True) h (fun a x b st e _=>⟨?_,fun _ _=>trivial⟩) (fun st _=>by unfold UA;dsimp only;rw [J7];rfl) true trivial
 unfold UA DX
 dsimp only
 rw [e,JI,Js]
 simp only [cond_true,Option.bind_some]
 rw [m85_eq,Option.bind_some]
 cases st with
 | true=>cases WB (x.toNat:Int) <;> rfl
 | false =>
  simp only [cond_false,Yf,Bool.false_eq_true,if_false]
  by_cases h1:(x.toNat:Int)=46
  ·rw [decide_eq_true h1,if_pos h1,if_neg (by rw [h1];decide)];rfl
  ·rw [decide_eq_false h1,if_neg h1,cond_false]
   cases WB (x.toNat:Int) with
   | true=>rfl
   | false =>
    rw [Option.bind_some,if_neg (by decide)]
    simp only [Bool.not_false,cond_true]
    by_cases h4:(x.toNat:Int)=39
    ·have:((x.toNat:Int) != 39)=false:=by rw [h4];rfl
     simp only [cond_false,Option.bind_some,this,if_pos h4]
     split <;> rfl
    ·have:((x.toNat:Int) != 39)=true:=bne_iff_ne.2 h4
     simp only [cond_true,this,if_neg h4]
     by_cases h2:(x.toNat:Int) < 48
     ·rw [decide_eq_true h2,if_pos (Or.inl h2)];rfl
     ·rw [decide_eq_false h2]
      by_cases h3:57 < (x.toNat:Int)
      ·rw [decide_eq_true h3,if_pos (Or.inr h3)];rfl
      ·rw [decide_eq_false h3,if_neg (by omega)];rfl
theorem nm_false:∀ (s:Bs) (st b:Bool),DT DX .inl s st=.inr b→b=false
 | [],st,b,h=>by cases h
 | x::s,st,b,h=>by
  rw [DT] at h
  cases hf:DX st x with
  | inl st'=>rw [hf] at h;exact nm_false s st' b h
  | inr r =>
   rw [hf] at h
   unfold DX at hf
   have:r=.inr false:=by
    revert hf
    repeat' split
    all_goals intro hf;cases hf;try rfl
   rw [this] at h
   cases h;rfl
def Xo (s:Bs):Bool:=Sum.elim (fun st=>!st&&decide ((s.length:Int)≤64)) (fun b=>b) (nmL s)
theorem m65_eq (s:Bs) (h:s.length≤900000000):m65 s=some (Xo s):=by
 unfold m65 Xo
 rw [m65_l0_eq s h,Option.bind_some]
 cases nmL s with
 | inl st=>cases st <;> rfl
 | inr b=>rfl
theorem m71_eq (s:Bs) (h:s.length≤900000000):m71 s=some (Xo s):=by
 unfold m71 Xo
 rw [UZ,m71_l0_eq s h]
 by_cases h0:s=[]
 ·subst h0;rfl
 ·rw [decide_eq_false h0,cond_false]
  by_cases h1:64 < (s.length:Int)
  ·rw [decide_eq_true h1,decide_eq_false (by omega)]
   cases hn:nmL s with
   | inl st=>cases st <;> rfl
   | inr b=>have:=nm_false s true b hn;subst this;rfl
  ·rw [decide_eq_false h1,decide_eq_true (by omega)]
   cases hn:nmL s with
   | inl st=>cases st <;> rfl
   | inr b=>rfl
end Go.Proofs.Ytafddfoefeploaa
namespace Go.Proofs.Ytafddfoefeploaa
open Go.RowKit Go.Shelf
theorem idx_some {α:Type} {l:List α} {i:Int} (h0:0≤i) (h1:i < (l.length:Int)):∃ x,JC l i=some x:=by
 cases i with
 | ofNat k=>exact ⟨l[k]'(by have:(Int.ofNat k) < (l.length:Int):=h1;simp at this;omega),List.getElem?_eq_getElem _⟩
 | negSucc k=>omega
def Dk (l:Lvl) (a:List LV) (x:LV):Prop:=x.1 < -65536∨7 < x.1∨x.2 < 0∨100 < x.2∨(0 < a.length∧∃ y,JC l.vs (J9 ((a.length:Int) - 1))=some y∧x.1≤y.1)
theorem prev_some {l:List LV} {a:List LV} {x:LV} {b:List LV} (h:l.length≤900000000) (e:l=a++x::b) (ha:0 < a.length):∃ y,JC l (J9 ((a.length:Int) - 1))=some y:=by
 have:=Ks e
 rw [U1 (by omega) (by omega)]
 exact idx_some (by omega) (by omega)
theorem m113_eq (l:List LV) (u:Lvl) (h:l.length≤900000000):∃ b,UP l u=some b∧(b=true↔∃ x∈l,u.c≤x.2):=by
 have h1:∃ r,Qp (ZC l u) QF 0=some r∧((r=.inl ())∧(∀ x∈l,¬ u.c≤x.2)∨∃ k:Nat,r=.inr (k:Int)∧∃ x∈l,u.c≤x.2):=by
  refine JG (step:=ZC l u) l (fun i (_:Unit)=>i) (fun a _=>∀ x∈a,¬ u.c≤x.2) (fun r=>((r=.inl ())∧(∀ x∈l,¬ u.c≤x.2)∨∃ k:Nat,r=.inr (k:Int)∧∃ x∈l,u.c≤x.2)) h
   (fun a x b s e hI=>?_) (fun s hI=>⟨.inl (),by unfold ZC;rw [J7];rfl,.inl ⟨rfl,hI⟩⟩) () (fun x hx=>by cases hx)
  by_cases hx:u.c≤x.2
  ·refine .inl ⟨.inr (a.length:Int),?_,.inr ⟨a.length,rfl,x,by rw [e];simp,hx⟩⟩
   unfold ZC
   rw [e,JI,Js]
   show cond (decide (u.c≤x.2)) _ _=_
   rw [decide_eq_true hx];rfl
  ·refine .inr ⟨(),?_,fun y hy=>?_⟩
   ·unfold ZC
    rw [e,JI,Js]
    show cond (decide (u.c≤x.2)) _ _=_
    rw [decide_eq_false hx];rfl
   ·rcases List.mem_append.1 hy with hy | hy
    ·exact hI y hy
    ·rw [List.mem_singleton.1 hy];exact hx
 obtain ⟨r,h2,h3⟩:=h1
 unfold UP m113f1
 rw [h2]
 rcases h3 with ⟨rfl,h4⟩ | ⟨k,rfl,h4⟩
 ·exact ⟨false,rfl,⟨fun h=>(by cases h),fun ⟨x,hx,h⟩=>(h4 x hx h).elim⟩⟩
 ·refine ⟨true,?_,⟨fun _=>h4,fun _=>rfl⟩⟩
  show some (decide ((0:Int)≤(k:Int)))=_
  rw [decide_eq_true (by omega)]
def lvP (l:Lvl):Prop:=0≤l.c∧l.c≤100∧(0 < l.c→∀ x∈l.vs,¬ l.c≤x.2)∧∀ a x b,l.vs=a++x::b→¬ Dk l a x
theorem m103_eq (l:Lvl) (h:l.vs.length≤900000000):∃ b,Dw l=some b∧(b=true↔lvP l):=by
 have hloop:=loop_bad (β:=Unit⊕Bool) (step:=Gn l) l.vs (Dk l) (.inr false) (.inl ()) h (fun a x b e=>by
  have hprev:=fun ha=>prev_some (x:=x) (b:=b) h e ha
  have:Gn l (a.length:Int)=Option.bind (cond (decide (x.1 < (-65536))) (some true) (cond (decide (7 < x.1)) (some true) (cond (decide (x.2 < 0)) (some true) (cond (decide (100 < x.2)) (some true)
    (cond (decide (0 < (a.length:Int))) (Option.bind (JC l.vs (J9 ((a.length:Int) - 1))) fun (x12:LV)=>some (decide (x.1≤x12.1))) (some false)))))) (fun (v6:Bool)=>cond v6 (some (.done (.inr false))) (some (.next (J9 ((a.length:Int)+1))))):=by
   unfold Gn
   have e2:l.vs=a++x::b:=e
   rw [show decide ((a.length:Int) < (l.vs.length:Int))=true from by rw [e2];exact JI a x b,show JC l.vs (a.length:Int)=some x from by rw [e2];exact Js a x b]
   rfl
  rw [this]
  unfold Dk
  by_cases c1:x.1 < -65536
  ·rw [decide_eq_true c1];exact ⟨fun _=>rfl,fun h=>(h (.inl c1)).elim⟩
  rw [decide_eq_false c1,cond_false]
  by_cases c2:7 < x.1
  ·rw [decide_eq_true c2];exact ⟨fun _=>rfl,fun h=>(h (.inr (.inl c2))).elim⟩
  rw [decide_eq_false c2,cond_false]
  by_cases c3:x.2 < 0
  ·rw [decide_eq_true c3];exact ⟨fun _=>rfl,fun h=>(h (.inr (.inr (.inl c3)))).elim⟩
  rw [decide_eq_false c3,cond_false]
  by_cases c4:100 < x.2
  ·rw [decide_eq_true c4];exact ⟨fun _=>rfl,fun h=>(h (.inr (.inr (.inr (.inl c4))))).elim⟩
  rw [decide_eq_false c4,cond_false]
  by_cases c5:0 < a.length
  ·rw [decide_eq_true (show 0 < (a.length:Int) by omega),cond_true]
   obtain ⟨y,hy⟩:=hprev c5
   rw [hy,Option.bind_some]
   by_cases c6:x.1≤y.1
   ·rw [decide_eq_true c6];exact ⟨fun _=>rfl,fun h=>(h (.inr (.inr (.inr (.inr ⟨c5,y,rfl,c6⟩))))).elim⟩
   ·rw [decide_eq_false c6]
    refine ⟨fun h=>?_,fun _=>rfl⟩
    rcases h with h | h | h | h | ⟨-,z,hz,h⟩
    ·exact (c1 h).elim
    ·exact (c2 h).elim
    ·exact (c3 h).elim
    ·exact (c4 h).elim
    ·cases hz;exact (c6 h).elim
  ·rw [decide_eq_false (show ¬ 0 < (a.length:Int) by omega)]
   refine ⟨fun h=>?_,fun _=>rfl⟩
   rcases h with h | h | h | h | ⟨h,-⟩
   ·exact (c1 h).elim
   ·exact (c2 h).elim
   ·exact (c3 h).elim
   ·exact (c4 h).elim
   ·exact (c5 h).elim) (by unfold Gn;rw [J7];rfl)
 obtain ⟨r,h1,h2⟩:=hloop
 obtain ⟨b,h3,h4⟩:=m113_eq l.vs l h
 unfold Dw
 rw [h3,h1]
 by_cases c1:l.c < 0
 ·rw [decide_eq_true c1];exact ⟨false,rfl,⟨fun h=>(Bool.false_ne_true h).elim,fun h=>by have:=h.1;omega⟩⟩
 rw [decide_eq_false c1,cond_false]
 by_cases c2:100 < l.c
 ·rw [decide_eq_true c2];exact ⟨false,rfl,⟨fun h=>(Bool.false_ne_true h).elim,fun h=>by have:=h.2.1;omega⟩⟩
 rw [decide_eq_false c2,cond_false]
 have key:(∃ x,(0 < l.c∧(∃ x∈l.vs,l.c≤x.2)→x=false)∧(¬ (0 < l.c∧∃ x∈l.vs,l.c≤x.2)→Option.bind (some r) (Sum.elim (fun (o3:Unit)=>some true) (fun o=>some o))=some x)∧cond (decide (0 < l.c)) (Option.bind (Option.bind (some b) fun (x7:Bool)=>some x7) (fun (y5:Bool)=>some y5)) (some false)=some (decide (0 < l.c∧∃ x∈l.vs,l.c≤x.2))∧(x=true→r=.inl ())∧(¬ (0 < l.c∧∃ x∈l.vs,l.c≤x.2)→r=.inl ()→x=true)):=by
  by_cases c3:0 < l.c
  ·rw [decide_eq_true c3]
   cases b with
   | true =>
    have h5:=h4.1 rfl
    exact ⟨false,fun _=>rfl,fun h=>(h ⟨c3,h5⟩).elim,by rw [decide_eq_true ⟨c3,h5⟩];rfl,fun h=>(by cases h),fun h=>(h ⟨c3,h5⟩).elim⟩
   | false =>
    have h5:¬ ∃ x∈l.vs,l.c≤x.2:=fun h=>by have:=h4.2 h;cases this
    rcases h2 with ⟨rfl,-⟩ | ⟨rfl,-⟩
    ·exact ⟨true,fun h=>(h5 h.2).elim,fun _=>rfl,by rw [decide_eq_false fun h=>h5 h.2];rfl,fun _=>rfl,fun _ _=>rfl⟩
    ·exact ⟨false,fun h=>(h5 h.2).elim,fun _=>rfl,by rw [decide_eq_false fun h=>h5 h.2];rfl,fun h=>(by cases h),fun _ h=>by cases h⟩
  ·rw [decide_eq_false c3]
   rcases h2 with ⟨rfl,-⟩ | ⟨rfl,-⟩
   ·exact ⟨true,fun h=>(c3 h.1).elim,fun _=>rfl,by rw [decide_eq_false fun h=>c3 h.1];rfl,fun _=>rfl,fun _ _=>rfl⟩
   ·exact ⟨false,fun h=>(c3 h.1).elim,fun _=>rfl,by rw [decide_eq_false fun h=>c3 h.1];rfl,fun h=>(by cases h),fun _ h=>by cases h⟩
 obtain ⟨x,k1,k2,k3,k4,k5⟩:=key
 rw [k3,Option.bind_some]
 by_cases c4:0 < l.c∧∃ x∈l.vs,l.c≤x.2
 ·rw [decide_eq_true c4]
  refine ⟨false,J,fun h=>(Bool.false_ne_true h).elim,fun h=>?_⟩
  obtain ⟨y,hy,hy2⟩:=c4.2
  exact (h.2.2.1 c4.1 y hy hy2).elim
 ·rw [decide_eq_false c4]
  refine ⟨x,k2 c4,fun h=>?_,fun h=>?_⟩
  ·have h6:=k4 h
   rcases h2 with ⟨-,h7⟩ | ⟨h7,-⟩
   ·exact ⟨by omega,by omega,fun h8 y hy h9=>c4 ⟨h8,y,hy,h9⟩,h7⟩
   ·rw [h7] at h6;cases h6
  ·refine k5 c4 ?_
   rcases h2 with ⟨h7,-⟩ | ⟨-,a,y,c,h7,h8⟩
   ·exact h7
   ·exact (h.2.2.2 a y c h7 h8).elim
theorem m110_eq (l:Lvl) (h:l.vs.length≤900000000):∃ b,m110 l=some b∧(b=true↔lvP l):=by
 have hloop:=loop_bad (β:=Unit⊕Bool) (step:=WO l) l.vs (fun a x=>Dk l a x∨(0 < l.c∧l.c≤x.2)) (.inr false) (.inl ()) h (fun a x b e=>by
  have hprev:=fun ha=>prev_some (x:=x) (b:=b) h e ha
  have:WO l (a.length:Int)=Option.bind (cond (decide (x.1 < (-65536))) (some true) (cond (decide (8≤x.1)) (some true) (cond (decide (x.2 < 0)) (some true) (some (decide (100 < x.2)))))) (fun (v6:Bool)=>m110_k0 v6 (a.length:Int) l x):=by
   unfold WO
   have e2:l.vs=a++x::b:=e
   rw [show decide ((a.length:Int) < (l.vs.length:Int))=true from by rw [e2];exact JI a x b,show JC l.vs (a.length:Int)=some x from by rw [e2];exact Js a x b]
   rfl
  rw [this]
  unfold Dk
  by_cases c1:x.1 < -65536
  ·rw [decide_eq_true c1];exact ⟨fun _=>rfl,fun h=>(h (.inl (.inl c1))).elim⟩
  rw [decide_eq_false c1,cond_false]
  by_cases c2:7 < x.1
  ·rw [decide_eq_true (show 8≤x.1 by omega)];exact ⟨fun _=>rfl,fun h=>(h (.inl (.inr (.inl c2)))).elim⟩
  rw [decide_eq_false (show ¬ 8≤x.1 by omega),cond_false]
  by_cases c3:x.2 < 0
  ·rw [decide_eq_true c3];exact ⟨fun _=>rfl,fun h=>(h (.inl (.inr (.inr (.inl c3))))).elim⟩
  rw [decide_eq_false c3,cond_false]
  by_cases c4:100 < x.2
  ·rw [decide_eq_true c4];exact ⟨fun _=>rfl,fun h=>(h (.inl (.inr (.inr (.inr (.inl c4)))))).elim⟩
  rw [decide_eq_false c4,Option.bind_some]
  show (_→Option.bind (cond (decide (0 < (a.length:Int))) (Option.bind (JC l.vs (J9 ((a.length:Int) - 1))) fun (b0_:LV)=>some (decide (x.1≤b0_.1))) (some false)) _=_)∧(_→Option.bind (cond (decide (0 < (a.length:Int))) (Option.bind (JC l.vs (J9 ((a.length:Int) - 1))) fun (b0_:LV)=>some (decide (x.1≤b0_.1))) (some false)) _=_)
  have hlast:∀ (hno:¬ (0 < a.length∧∃ y,JC l.vs (J9 ((a.length:Int) - 1))=some y∧x.1≤y.1)),((((x.1 < -65536∨7 < x.1∨x.2 < 0∨100 < x.2∨(0 < a.length∧∃ y,JC l.vs (J9 ((a.length:Int) - 1))=some y∧x.1≤y.1)))∨(0 < l.c∧l.c≤x.2))→Option.bind (cond (decide (0 < l.c)) (some (decide (l.c≤x.2))) (some false)) (fun (b2_:Bool)=>(cond b2_ (some (.done (.inr false))) (some (.next (J9 ((a.length:Int)+1)))):Option (LO Int (Unit⊕Bool))))=some (.done (.inr false:Unit⊕Bool)))∧(¬ (((x.1 < -65536∨7 < x.1∨x.2 < 0∨100 < x.2∨(0 < a.length∧∃ y,JC l.vs (J9 ((a.length:Int) - 1))=some y∧x.1≤y.1)))∨(0 < l.c∧l.c≤x.2))→Option.bind (cond (decide (0 < l.c)) (some (decide (l.c≤x.2))) (some false)) (fun (b2_:Bool)=>(cond b2_ (some (.done (.inr false))) (some (.next (J9 ((a.length:Int)+1)))):Option (LO Int (Unit⊕Bool))))=some (.next (β:=Unit⊕Bool) (J9 ((a.length:Int)+1)))):=by
   intro hno
   by_cases c7:0 < l.c
   ·rw [decide_eq_true c7]
    by_cases c8:l.c≤x.2
    ·rw [decide_eq_true c8];exact ⟨fun _=>rfl,fun h=>(h (.inr ⟨c7,c8⟩)).elim⟩
    ·rw [decide_eq_false c8]
     refine ⟨fun h=>?_,fun _=>rfl⟩
     rcases h with (h | h | h | h | h) | ⟨-,h⟩
     ·exact (c1 h).elim
     ·exact (c2 h).elim
     ·exact (c3 h).elim
     ·exact (c4 h).elim
     ·exact (hno h).elim
     ·exact (c8 h).elim
   ·rw [decide_eq_false c7]
    refine ⟨fun h=>?_,fun _=>rfl⟩
    rcases h with (h | h | h | h | h) | ⟨h,-⟩
    ·exact (c1 h).elim
    ·exact (c2 h).elim
    ·exact (c3 h).elim
    ·exact (c4 h).elim
    ·exact (hno h).elim
    ·exact (c7 h).elim
  by_cases c5:0 < a.length
  ·rw [decide_eq_true (show 0 < (a.length:Int) by omega),cond_true]
   obtain ⟨y,hy⟩:=hprev c5
   rw [hy,Option.bind_some]
   rw [hy] at hlast
   by_cases c6:x.1≤y.1
   ·rw [decide_eq_true c6];exact ⟨fun _=>rfl,fun h=>(h (.inl (.inr (.inr (.inr (.inr ⟨c5,y,rfl,c6⟩)))))).elim⟩
   ·rw [decide_eq_false c6]
    exact hlast fun ⟨_,z,hz,h⟩=>by cases hz;exact c6 h
  ·rw [decide_eq_false (show ¬ 0 < (a.length:Int) by omega)]
   exact hlast fun h=>c5 h.1) (by unfold WO;rw [J7];rfl)
 obtain ⟨r,h1,h2⟩:=hloop
 unfold m110
 rw [h1]
 by_cases c1:l.c < 0
 ·rw [decide_eq_true c1];exact ⟨false,rfl,⟨fun h=>(Bool.false_ne_true h).elim,fun h=>by have:=h.1;omega⟩⟩
 rw [decide_eq_false c1,cond_false]
 by_cases c2:100 < l.c
 ·rw [decide_eq_true c2];exact ⟨false,rfl,⟨fun h=>(Bool.false_ne_true h).elim,fun h=>by have:=h.2.1;omega⟩⟩
 rw [decide_eq_false c2,Option.bind_some,cond_false]
 rcases h2 with ⟨rfl,h3⟩ | ⟨rfl,a,x,b,e,h3⟩
 ·refine ⟨true,rfl,fun _=>⟨by omega,by omega,fun h4 y hy h5=>?_,fun a x b e h4=>h3 a x b e (.inl h4)⟩,fun _=>rfl⟩
  obtain ⟨a,b,e⟩:=List.append_of_mem hy
  exact h3 a y b e (.inr ⟨h4,h5⟩)
 ·refine ⟨false,rfl,fun h=>(Bool.false_ne_true h).elim,fun h4=>?_⟩
  rcases h3 with h3 | ⟨h3,h5⟩
  ·exact (h4.2.2.2 a x b e h3).elim
  ·exact (h4.2.2.1 h3 x (by rw [e];simp) h5).elim
theorem lv_same (l:Lvl) (h:l.vs.length≤900000000):∃ b,Dw l=some b∧m110 l=some b∧(b=true→lvP l):=by
 obtain ⟨b,h1,h2⟩:=m103_eq l h
 obtain ⟨c,h3,h4⟩:=m110_eq l h
 have:b=c:=Bool.eq_iff_iff.2 (h2.trans h4.symm)
 exact ⟨b,h1,by rw [this];exact h3,h2.1⟩
end Go.Proofs.Ytafddfoefeploaa
namespace Go.Proofs.Ytafddfoefeploaa
open Go.RowKit Go.Shelf
theorem loop2 {α σ1 τ1 β1 σ2 τ2 β2:Type} {step1:τ1→Option (LO τ1 β1)} {step2:τ2→Option (LO τ2 β2)} (l:List α) (mk1:Int→σ1→τ1) (mk2:Int→σ2→τ2) (I:List α→σ1→σ2→Prop) (Q:β1→β2→Prop) (hlen:l.length≤900000000)
  (hin:∀ (a:List α) (x:α) (b:List α) (s1:σ1) (s2:σ2),l=a++x::b→I a s1 s2 →
   (∃ r1 r2,step1 (mk1 (a.length:Int) s1)=some (.done r1)∧step2 (mk2 (a.length:Int) s2)=some (.done r2)∧Q r1 r2) ∨
   ∃ s1' s2',step1 (mk1 (a.length:Int) s1)=some (.next (mk1 (J9 ((a.length:Int)+1)) s1'))∧step2 (mk2 (a.length:Int) s2)=some (.next (mk2 (J9 ((a.length:Int)+1)) s2'))∧I (a++[x]) s1' s2')
  (hout:∀ s1 s2,I l s1 s2→∃ r1 r2,step1 (mk1 (l.length:Int) s1)=some (.done r1)∧step2 (mk2 (l.length:Int) s2)=some (.done r2)∧Q r1 r2) (s1:σ1) (s2:σ2) (h0:I [] s1 s2) :
  ∃ r1 r2,Qp step1 QF (mk1 0 s1)=some r1∧Qp step2 QF (mk2 0 s2)=some r2∧Q r1 r2:=by
 have key:∀ (b a:List α) (s1:σ1) (s2:σ2) (n:Nat),l=a++b→b.length < n→I a s1 s2→∃ r1 r2,Qp step1 n (mk1 (a.length:Int) s1)=some r1∧Qp step2 n (mk2 (a.length:Int) s2)=some r2∧Q r1 r2:=by
  intro b
  induction b with
  | nil =>
   intro a s1 s2 n hl hn hI
   rw [List.append_nil] at hl
   subst hl
   obtain ⟨r1,r2,h1,h2,h3⟩:=hout s1 s2 hI
   cases n with
   | zero=>omega
   | succ n=>exact ⟨r1,r2,by simp only [Qp,h1],by simp only [Qp,h2],h3⟩
  | cons x b ih =>
   intro a s1 s2 n hl hn hI
   cases n with
   | zero=>omega
   | succ n =>
    rcases hin a x b s1 s2 hl hI with ⟨r1,r2,h1,h2,h3⟩ | ⟨s1',s2',h1,h2,h3⟩
    ·exact ⟨r1,r2,by simp only [Qp,h1],by simp only [Qp,h2],h3⟩
    ·have hal:a.length≤900000000:=by rw [hl,List.length_append] at hlen;omega
     rw [U0 (by omega)] at h1 h2
     obtain ⟨r1,r2,h4,h5,h6⟩:=ih (a++[x]) s1' s2' n (by rw [hl,List.append_assoc];rfl) (by simp only [List.length_cons] at hn;omega) h3
     rw [List.length_append] at h4 h5
     exact ⟨r1,r2,by simp only [Qp,h1];exact h4,by simp only [Qp,h2];exact h5,h6⟩
 exact key l [] s1 s2 QF rfl (by unfold QF;omega) h0
theorem YJ {α β1 β2:Type} {step1:Int→Option (LO Int β1)} {step2:Int→Option (LO Int β2)} (l:List α) (z1:β1) (z2:β2) (g1:Int→β1) (g2:Int→β2) (hlen:l.length≤900000000)
  (hin:∀ (a:List α) (x:α) (b:List α),l=a++x::b→∃ e:Int,(e=0→step1 (a.length:Int)=some (.next (J9 ((a.length:Int)+1)))∧step2 (a.length:Int)=some (.next (J9 ((a.length:Int)+1))))∧(e ≠ 0→step1 (a.length:Int)=some (.done (g1 e))∧step2 (a.length:Int)=some (.done (g2 e))))
  (hout1:step1 (l.length:Int)=some (.done z1)) (hout2:step2 (l.length:Int)=some (.done z2)) :
  ∃ e:Int,(e=0→Qp step1 QF 0=some z1∧Qp step2 QF 0=some z2)∧(e ≠ 0→Qp step1 QF 0=some (g1 e)∧Qp step2 QF 0=some (g2 e)):=by
 obtain ⟨r1,r2,h1,h2,e,h3,h4⟩:=loop2 (step1:=step1) (step2:=step2) l (fun i (_:Unit)=>i) (fun i (_:Unit)=>i) (fun _ _ _=>True) (fun r1 r2=>∃ e:Int,(e=0→r1=z1∧r2=z2)∧(e ≠ 0→r1=g1 e∧r2=g2 e)) hlen
  (fun a x b _ _ hl _=>by
   obtain ⟨e,h1,h2⟩:=hin a x b hl
   by_cases he:e=0
   ·exact .inr ⟨(),(),(h1 he).1,(h1 he).2,trivial⟩
   ·exact .inl ⟨_,_,(h2 he).1,(h2 he).2,e,fun h=>(he h).elim,fun _=>⟨rfl,rfl⟩⟩)
  (fun _ _ _=>⟨z1,z2,hout1,hout2,0,fun _=>⟨rfl,rfl⟩,fun h=>(h rfl).elim⟩) () () trivial
 refine ⟨e,fun he=>?_,fun he=>?_⟩
 ·rw [h1,h2,(h3 he).1,(h3 he).2];exact ⟨rfl,rfl⟩
 ·rw [h1,h2,(h4 he).1,(h4 he).2];exact ⟨rfl,rfl⟩
theorem Y3 {α:Type} {l a b:List α} {x:α} (e:l=a++x::b):decide ((a.length:Int) < (l.length:Int))=true∧JC l (a.length:Int)=some x:=by
 rw [e];exact ⟨JI a x b,Js a x b⟩
def formU (ix nm ln A N L K:Bool):Option Bool :=
 Option.bind (cond ix (cond nm (cond ln (some K) (cond L (some K) (some false))) (cond N (cond ln (some K) (cond L (some K) (some false))) (some false)))
  (cond A (cond nm (cond ln (some K) (cond L (some K) (some false))) (cond N (cond ln (some K) (cond L (some K) (some false))) (some false))) (some false))) (fun b=>some b)
theorem formU_eq (ix nm ln A N L K:Bool):formU ix nm ln A N L K=some ((ix||A)&&(nm||N)&&(ln||L)&&K):=by
 cases ix <;> cases nm <;> cases ln <;> cases A <;> cases N <;> cases L <;> cases K <;> rfl
def formV (k0 k12 k3 k2 A N L0 L1 K:Bool):Option Bool :=
 cond (!K) (some false) (Option.bind (cond (!A) (cond (!k0) (some (!k12)) (some false)) (some false)) (fun v3=>cond v3 (some false) (Option.bind (cond (!N) (some (!k3)) (some false)) (fun b0_=>cond b0_ (some false) (cond k2 (some L1) (Option.bind (cond L0 (some true) (some k3)) (fun b1_=>some b1_)))))))
theorem formV_eq (k0 k12 k3 k2 A N L0 L1 K:Bool):formV k0 k12 k3 k2 A N L0 L1 K=some (((k0||k12)||A)&&(k3||N)&&(cond k2 L1 (L0||k3))&&K):=by
 cases k0 <;> cases k12 <;> cases k3 <;> cases k2 <;> cases A <;> cases N <;> cases L0 <;> cases L1 <;> cases K <;> rfl
theorem form_eq (t:Tm):∃ b,DY t=some b∧Dv t=some b∧(b=true→0≤t.kind∧t.kind < 13∧(t.kind ≠ 3→(t.levels.length:Int)≤1)):=by
 by_cases h1:t.kind < 0
 ·exact ⟨false,by unfold DY;rw [decide_eq_true h1];rfl,by unfold Dv;rw [decide_eq_true h1];rfl,fun h=>by cases h⟩
 by_cases h2:13≤t.kind
 ·exact ⟨false,by unfold DY;rw [decide_eq_false h1,decide_eq_true h2];rfl,by unfold Dv;rw [decide_eq_false h1,decide_eq_true h2];rfl,fun h=>by cases h⟩
 have hk:t.kind=0∨t.kind=1∨t.kind=2∨t.kind=3∨t.kind=4∨t.kind=5∨t.kind=6∨t.kind=7∨t.kind=8∨t.kind=9∨t.kind=10∨t.kind=11∨t.kind=12:=by omega
 have fin:∀ (ix nm ln:Bool) (lv kd:Int) (k0 k12 k3 k2:Bool),DY t=formU ix nm ln (t.index==0) (t.name==[]) ((t.levels.length:Int)==lv) ((t.kids.length:Int)==kd) →
   Dv t=formV k0 k12 k3 k2 (t.index==0) (t.name==[]) ((t.levels.length:Int)==0) ((t.levels.length:Int)==1) ((t.kids.length:Int)==kd) →
   ix=(k0||k12)→nm=k3→(ln||(t.levels.length:Int)==lv)=(cond k2 ((t.levels.length:Int)==1) ((t.levels.length:Int)==0||k3))→(k3=false→ln=false∧lv≤1)→(t.kind ≠ 3→k3=false) →
   ∃ b,DY t=some b∧Dv t=some b∧(b=true→0≤t.kind∧t.kind < 13∧(t.kind ≠ 3→(t.levels.length:Int)≤1)):=by
  intro ix nm ln lv kd k0 k12 k3 k2 e1 e2 e3 e4 e5 e6 e7
  rw [formU_eq] at e1
  rw [formV_eq,← e5,← e3,← e4] at e2
  refine ⟨_,e1,e2,fun h=>⟨by omega,by omega,fun h3=>?_⟩⟩
  obtain ⟨h4,h5⟩:=e6 (e7 h3)
  rw [h4,Bool.false_or,Bool.and_eq_true,Bool.and_eq_true] at h
  have h6:=eq_of_beq h.1.2
  omega
 obtain ⟨k,i,n,ls,ks⟩:=t
 dsimp only [Tm.kind,Tm.index,Tm.name,Tm.levels,Tm.kids] at *
 rcases hk with hk | hk | hk | hk | hk | hk | hk | hk | hk | hk | hk | hk | hk <;> subst hk
 ·exact fin true false false 0 0 true false false false rfl rfl rfl rfl (by cases ((ls.length:Int)==0) <;> rfl) (fun _=>⟨rfl,by omega⟩) (fun _=>rfl)
 ·exact fin false false false 0 0 false false false false rfl rfl rfl rfl (by cases ((ls.length:Int)==0) <;> rfl) (fun _=>⟨rfl,by omega⟩) (fun _=>rfl)
 ·exact fin false false false 1 0 false false false true rfl rfl rfl rfl rfl (fun _=>⟨rfl,by omega⟩) (fun _=>rfl)
 ·exact fin false true true (-1) 0 false false true false rfl rfl rfl rfl (by cases ((ls.length:Int)==0) <;> rfl) (fun h=>by cases h) (fun h=>(h rfl).elim)
 ·exact fin false false false 0 2 false false false false rfl rfl rfl rfl (by cases ((ls.length:Int)==0) <;> rfl) (fun _=>⟨rfl,by omega⟩) (fun _=>rfl)
 ·exact fin false false false 0 2 false false false false rfl rfl rfl rfl (by cases ((ls.length:Int)==0) <;> rfl) (fun _=>⟨rfl,by omega⟩) (fun _=>rfl)
 ·exact fin false false false 0 2 false false false false rfl rfl rfl rfl (by cases ((ls.length:Int)==0) <;> rfl) (fun _=>⟨rfl,by omega⟩) (fun _=>rfl)
 ·exact fin false false false 0 2 false false false false rfl rfl rfl rfl (by cases ((ls.length:Int)==0) <;> rfl) (fun _=>⟨rfl,by omega⟩) (fun _=>rfl)
 ·exact fin false false false 0 3 false false false false rfl rfl rfl rfl (by cases ((ls.length:Int)==0) <;> rfl) (fun _=>⟨rfl,by omega⟩) (fun _=>rfl)
 ·exact fin false false false 0 1 false false false false rfl rfl rfl rfl (by cases ((ls.length:Int)==0) <;> rfl) (fun _=>⟨rfl,by omega⟩) (fun _=>rfl)
 ·exact fin false false false 0 1 false false false false rfl rfl rfl rfl (by cases ((ls.length:Int)==0) <;> rfl) (fun _=>⟨rfl,by omega⟩) (fun _=>rfl)
 ·exact fin false false false 0 3 false false false false rfl rfl rfl rfl (by cases ((ls.length:Int)==0) <;> rfl) (fun _=>⟨rfl,by omega⟩) (fun _=>rfl)
 ·exact fin true false false 0 0 false true false false rfl rfl rfl rfl (by cases ((ls.length:Int)==0) <;> rfl) (fun _=>⟨rfl,by omega⟩) (fun _=>rfl)
def Kq (V P:Int):Scp:=⟨max V 0,max P 0,max 0 0,max 0 0⟩
theorem lv_code (V P:Int) (x:Lvl) (h:x.vs.length≤900000000):∃ e,m97 (Kq V P) x=some e∧DN x P 0=some e:=by
 obtain ⟨b,h1,h2,-⟩:=lv_same x h
 unfold m97 DN
 rw [h1,h2]
 cases b with
 | false=>exact ⟨3,rfl,rfl⟩
 | true =>
  show ∃ e,Option.bind (Qp (Wi x (Kq V P)) QF 0) _=_∧Option.bind (Qp (WQ x P) QF 0) _=_
  obtain ⟨e,h3,h4⟩:=YJ (β1:=Unit⊕Int) (β2:=Unit⊕Int) (step1:=Wi x (Kq V P)) (step2:=WQ x P) x.vs (.inl ()) (.inl ()) .inr .inr h (fun a y b e=>by
   obtain ⟨q1,q2⟩:=Y3 e
   unfold Wi WQ
   rw [q1,q2]
   show ∃ e:Int,(_→cond (decide (max P 0≤y.1)) _ _=_∧Option.bind (cond (decide (0≤y.1)) (some (decide (P≤y.1))) (some false)) _=_)∧(_→cond (decide (max P 0≤y.1)) _ _=_∧Option.bind (cond (decide (0≤y.1)) (some (decide (P≤y.1))) (some false)) _=_)
   by_cases c:max P 0≤y.1
   ·rw [decide_eq_true c,decide_eq_true (show 0≤y.1 by omega),decide_eq_true (show P≤y.1 by omega)]
    exact ⟨15,fun h=>by omega,fun _=>⟨rfl,rfl⟩⟩
   ·rw [decide_eq_false c]
    refine ⟨0,fun _=>⟨J,?_⟩,fun h=>(h J).elim⟩
    by_cases c2:0≤y.1
    ·rw [decide_eq_true c2,decide_eq_false (show ¬ P≤y.1 by omega)];rfl
    ·rw [decide_eq_false c2];rfl)
   (by unfold Wi;rw [J7];rfl) (by unfold WQ;rw [J7];rfl)
  by_cases he:e=0
  ·obtain ⟨e1,e2⟩:=h3 he
   rw [e1,e2]
   show ∃ e,Option.bind (Qp (Xq x (Kq V P)) QF 0) _=_∧Option.bind (Qp (WP x 0) QF 0) _=_
   obtain ⟨e',h5,h6⟩:=YJ (β1:=Unit⊕Int) (β2:=Unit⊕Int) (step1:=Xq x (Kq V P)) (step2:=WP x 0) x.vs (.inl ()) (.inl ()) .inr .inr h (fun a y b e=>by
    obtain ⟨q1,q2⟩:=Y3 e
    unfold Xq WP
    rw [q1,q2]
    show ∃ e:Int,(_→Option.bind (cond (decide (y.1 < 0)) (some (decide (0≤(J9 ((-1) - y.1))))) (some false)) _=_∧Option.bind (cond (decide (y.1 < 0)) (some (decide (0≤(J9 ((-1) - y.1))))) (some false)) _=_)∧(_→Option.bind (cond (decide (y.1 < 0)) (some (decide (0≤(J9 ((-1) - y.1))))) (some false)) _=_∧Option.bind (cond (decide (y.1 < 0)) (some (decide (0≤(J9 ((-1) - y.1))))) (some false)) _=_)
    cases decide (y.1 < 0) with
    | false=>exact ⟨0,fun _=>⟨rfl,rfl⟩,fun h=>(h rfl).elim⟩
    | true =>
     cases decide (0≤(J9 ((-1) - y.1))) with
     | false=>exact ⟨0,fun _=>⟨rfl,rfl⟩,fun h=>(h rfl).elim⟩
     | true=>exact ⟨23,fun h=>by omega,fun _=>⟨rfl,rfl⟩⟩)
    (by unfold Xq;rw [J7];rfl) (by unfold WP;rw [J7];rfl)
   by_cases he':e'=0
   ·obtain ⟨e1,e2⟩:=h5 he'
    rw [e1,e2];exact ⟨0,rfl,rfl⟩
   ·obtain ⟨e1,e2⟩:=h6 he'
    rw [e1,e2];exact ⟨e',rfl,rfl⟩
  ·obtain ⟨e1,e2⟩:=h4 he
   rw [e1,e2];exact ⟨e,rfl,rfl⟩
theorem levels_len (t:Tm):(t.levels.map lvz).sum < t.size:=by rw [t.size_eq];omega
theorem lvz_len (l:Lvl):l.vs.length < lvz l:=by
 have:=KC (fun _:LV=>1) (fun _=>Nat.le_refl 1) l.vs
 unfold lvz;omega
theorem WY {e:Int} (h:e ≠ 0):(e != 0)=true:=bne_iff_ne.2 h
theorem XS {α:Type} {e:Int} (he:e ≠ 0) (x:Int→Option α) (y:Option α):Option.bind (some e) (fun v=>cond (v != 0) (x v) y)=x e:=by
 rw [Option.bind_some,WY he];rfl
def Dl (rc:Tm×Int×Int×Int×Int×Int→Option Int) (t:Tm) (dep V P:Int):Option Int:=Option.bind (Qp (XX t rc dep V P 0 0) QF 0) (Sum.elim (fun (b1_:Unit)=>some 0) (fun o=>some o))
theorem node_tail (t:Tm) (dep V P:Int) (h:t.size≤900000000):∃ e,Option.bind (Qp (Ku t (Kq V P)) QF 0) (Sum.elim (fun (o7:Unit)=>G1 t (Kq V P) dep) (fun o=>some o))=some e ∧
  ∀ rc,(Option.bind (Qp (X8 t P 0) QF 0) (Sum.elim (fun (b0_:Unit)=>Option.bind (cond (t.kind==0) (cond (decide (t.index < 0)) (some true) (some (decide (max V 0≤(J9 (t.index - dep)))))) (some false)) (fun (b1_:Bool)=>X9 b1_ t 0 rc dep (max V 0) P 0)) (fun o=>some o)))=if e=0 then Dl rc t dep (max V 0) P else some e:=by
 have hl:=levels_len t
 have hl2:=KC lvz (fun l=>by unfold lvz;omega) t.levels
 obtain ⟨e,h3,h4⟩:=YJ (β1:=Unit⊕Int) (β2:=Unit⊕Int) (step1:=Ku t (Kq V P)) (step2:=X8 t P 0) t.levels (.inl ()) (.inl ()) .inr .inr (by omega) (fun a y b e=>by
  obtain ⟨q1,q2⟩:=Y3 e
  have hy:y.vs.length≤900000000:=by
   have:=lvz_len y
   have:=ZI lvz (show y∈t.levels from by rw [e];simp)
   omega
  obtain ⟨e,h1,h2⟩:=lv_code V P y hy
  unfold Ku X8
  rw [q1,q2]
  show ∃ e:Int,(_→Option.bind (m97 (Kq V P) y) _=_∧Option.bind (DN y P 0) _=_)∧(_→Option.bind (m97 (Kq V P) y) _=_∧Option.bind (DN y P 0) _=_)
  rw [h1,h2]
  refine ⟨e,fun he=>?_,fun he=>?_⟩
  ·subst he;exact ⟨rfl,rfl⟩
  ·exact ⟨XS he _ _,XS he _ _⟩)
  (by unfold Ku;rw [J7];rfl) (by unfold X8;rw [J7];rfl)
 by_cases he:e=0
 ·obtain ⟨e1,e2⟩:=h3 he
  rw [e1,e2]
  show ∃ e,G1 t (Kq V P) dep=some e∧∀ rc,Option.bind (cond (t.kind==0) (cond (decide (t.index < 0)) (some true) (some (decide (max V 0≤(J9 (t.index - dep)))))) (some false)) (fun (b1_:Bool)=>X9 b1_ t 0 rc dep (max V 0) P 0)=if e=0 then Dl rc t dep (max V 0) P else some e
  unfold G1
  show ∃ e,Option.bind (cond (t.kind==0) (cond (decide (t.index < 0)) (some true) (some (decide (max V 0≤(J9 (t.index - dep)))))) (some false)) _=some e∧_
  obtain ⟨v,hv⟩:∃ v,cond (t.kind==0) (cond (decide (t.index < 0)) (some true) (some (decide (max V 0≤(J9 (t.index - dep)))))) (some false)=some v:=by
   cases (t.kind==0) <;> cases decide (t.index < 0) <;> exact ⟨_,rfl⟩
  rw [hv]
  ·cases v with
   | true=>exact ⟨24,rfl,fun rc=>rfl⟩
   | false =>
    show ∃ e,Option.bind (cond (t.kind==12) (cond (decide (t.index < 0)) (some true) (some (decide ((0:Int)≤t.index)))) (some false)) _=some e∧∀ rc,X9 false t 0 rc dep (max V 0) P 0=_
    unfold X9
    simp only [cond_false]
    cases t.kind==12 with
    | false=>exact ⟨0,rfl,fun rc=>rfl⟩
    | true =>
     cases decide (t.index < 0) with
     | true=>exact ⟨23,rfl,fun rc=>rfl⟩
     | false =>
      cases decide ((0:Int)≤t.index) with
      | true=>exact ⟨23,rfl,fun rc=>rfl⟩
      | false=>exact ⟨0,rfl,fun rc=>rfl⟩
 ·obtain ⟨e1,e2⟩:=h4 he
  rw [e1,e2]
  exact ⟨e,rfl,fun rc=>by rw [if_neg he];rfl⟩
theorem node_eq (t:Tm) (dep V P:Int) (h:t.size≤900000000):∃ e,m80 (Kq V P) t dep=some e∧(∀ rc,m100s rc t dep (max V 0) P 0 0=if e=0 then Dl rc t dep (max V 0) P else some e)∧(e=0→0≤t.kind∧t.kind < 13):=by
 obtain ⟨b,h1,h2,h3⟩:=form_eq t
 unfold m80 m100s
 rw [h1,h2]
 cases b with
 | false=>exact ⟨3,rfl,fun rc=>rfl,fun h=>by omega⟩
 | true =>
  obtain ⟨k1,k2,k3⟩:=h3 rfl
  obtain ⟨e,h4,h5⟩:=node_tail t dep V P h
  have hn:t.name.length≤900000000:=by have:=t.size_eq;omega
  show ∃ e,cond (t.kind==3) (Option.bind (m65 t.name) _) _=some e∧(∀ rc,Option.bind (cond (t.kind==3) (Option.bind (m71 t.name) _) _) _=_)∧_
  rw [m65_eq _ hn,m71_eq _ hn,Yf]
  by_cases hk:t.kind=3
  ·rw [decide_eq_true hk]
   cases Xo t.name with
   | false=>exact ⟨29,rfl,fun rc=>rfl,fun h=>by omega⟩
   | true =>
    show ∃ e,cond (decide (8 < (t.levels.length:Int))) (some 6) (Option.bind (Qp (Ku t (Kq V P)) QF 0) (Sum.elim (fun (o7:Unit)=>G1 t (Kq V P) dep) (fun o=>some o)))=some e∧(∀ rc,cond (decide (8 < (t.levels.length:Int))) (some 6) (Option.bind (Qp (X8 t P 0) QF 0) (Sum.elim (fun (b0_:Unit)=>Option.bind (cond (t.kind==0) (cond (decide (t.index < 0)) (some true) (some (decide (max V 0≤(J9 (t.index - dep)))))) (some false)) (fun (b1_:Bool)=>X9 b1_ t 0 rc dep (max V 0) P 0)) (fun o=>some o)))=_)∧_
    cases decide (8 < (t.levels.length:Int)) with
    | true=>exact ⟨6,rfl,fun rc=>rfl,fun h=>by omega⟩
    | false=>exact ⟨e,h4,h5,fun _=>⟨k1,k2⟩⟩
  ·rw [decide_eq_false hk]
   show ∃ e,Option.bind (Qp (Ku t (Kq V P)) QF 0) (Sum.elim (fun (o7:Unit)=>G1 t (Kq V P) dep) (fun o=>some o))=some e∧(∀ rc,cond (decide (8 < (t.levels.length:Int))) (some 6) (Option.bind (Qp (X8 t P 0) QF 0) (Sum.elim (fun (b0_:Unit)=>Option.bind (cond (t.kind==0) (cond (decide (t.index < 0)) (some true) (some (decide (max V 0≤(J9 (t.index - dep)))))) (some false)) (fun (b1_:Bool)=>X9 b1_ t 0 rc dep (max V 0) P 0)) (fun o=>some o)))=_)∧_
   rw [decide_eq_false (show ¬ 8 < (t.levels.length:Int) by have:=k3 hk;omega)]
   exact ⟨e,h4,h5,fun _=>⟨k1,k2⟩⟩
end Go.Proofs.Ytafddfoefeploaa
namespace Go.Proofs.Ytafddfoefeploaa
open Go.RowKit Go.Shelf
def Tm.num:Tm→Nat
 | .mk _ _ _ _ ks=>1+(ks.attach.map fun k=>Tm.num k.1).sum
termination_by t=>SizeOf.sizeOf t
decreasing_by
 have:=List.sizeOf_lt_of_mem k.2
 simp only [Tm.mk.sizeOf_spec];omega
theorem Tm.num_eq (t:Tm):t.num=1+(t.kids.map Tm.num).sum:=by
 cases t
 rw [Tm.num,List.attach_map_val];rfl
theorem sum_le2 {α:Type} (f g:α→Nat):∀ l:List α,(∀ x∈l,f x≤g x)→(l.map f).sum≤(l.map g).sum
 | [],_=>Nat.le_refl _
 | x::l,h=>by
  rw [List.map_cons,List.sum_cons,List.map_cons,List.sum_cons]
  have h1:=h x (List.mem_cons_self ..)
  have h2:=sum_le2 f g l fun y hy=>h y (List.mem_cons_of_mem _ hy)
  omega
theorem Tm.num_le (t:Tm):t.num≤t.size:=by
 induction t using Tm.ind with
 | h t ih =>
  rw [t.num_eq,t.size_eq]
  have:=sum_le2 Tm.num Tm.size t.kids ih
  omega
theorem num_le2 {t:Tm} {a b:List Tm} {x:Tm} (e:t.kids=a++x::b):(a.map Tm.num).sum+x.size < t.size∧(a.map Tm.num).sum+x.num < t.num:=by
 have h1:=t.size_eq
 have h2:=t.num_eq
 rw [e,GC] at h1 h2
 have h3:=sum_le2 Tm.num Tm.size a fun x _=>x.num_le
 constructor <;> omega
theorem num_walk:∀ (n:Nat) (t:Tm),t.size≤n→t.size≤900000000→Jr Db n t=some (t.num:Int)
 | 0,t,h,_=>by rw [t.size_eq] at h;omega
 | n+1,t,h,h2=>by
  show Dr (Jr Db n) t=_
  unfold Dr
  have hl:=Gc t
  have hn:=t.num_le
  obtain ⟨r,e1,e2⟩:=JG (step:=Gy t (Jr Db n)) t.kids (fun i (s:Nat)=>((s:Int),i)) (fun a s=>s=1+(a.map Tm.num).sum) (fun r=>r=(t.num:Int)) (by omega)
   (fun a x b s e hI=>by
    have hx:=Yv (t:=t) (k:=x) (by rw [e];simp)
    have hr:=num_walk n x (by omega) (by omega)
    have h3:=num_le2 e
    obtain ⟨q1,q2⟩:=Y3 e
    refine .inr ⟨s+x.num,?_,?_⟩
    ·unfold Gy
     dsimp only
     rw [q1,q2]
     simp only [cond_true,Option.bind_some]
     rw [hr]
     simp only [Option.bind_some]
     rw [U1 (n:=(s:Int)+(x.num:Int)) (by omega) (by omega)]
     rfl
    ·rw [hI,List.map_append,List.sum_append];simp;omega)
   (fun s hI=>⟨(s:Int),by unfold Gy;dsimp only;rw [J7];rfl,by rw [hI,t.num_eq]⟩) 1 rfl
  have e3:Qp (Gy t (Jr Db n)) QF (1,0)=some r:=e1
  rw [e3,e2];rfl
theorem m81_eq:m81=m56:=rfl
theorem bind_eq (k:Int) (h0:0≤k) (h1:k < 13):∃ v,JC ([(-1),(-1),(-1),(-1),(-1),1,1,1,(-1),(-1),(-1),2,(-1)]:List Int) k=some v∧∀ j:Nat,Dd k (j:Int)=some (if (j:Int)=v then 1 else 0):=by
 have hk:k=0∨k=1∨k=2∨k=3∨k=4∨k=5∨k=6∨k=7∨k=8∨k=9∨k=10∨k=11∨k=12:=by omega
 have no:∀ (c:Bool→Option Int) (j:Nat),Dd k (j:Int)=some 0→Dd k (j:Int)=some (if (j:Int) = -1 then 1 else 0):=fun _ j h=>by rw [h,if_neg (by omega)]
 rcases hk with hk | hk | hk | hk | hk | hk | hk | hk | hk | hk | hk | hk | hk <;> subst hk
 case inr.inr.inr.inr.inr.inl=>exact ⟨1,rfl,fun j=>by
  unfold Dd;rw [Yf (j:Int) 1,Yf (j:Int) 2]
  by_cases h:(j:Int)=1
  ·rw [decide_eq_true h,if_pos h];rfl
  ·rw [decide_eq_false h,if_neg h]
   cases decide ((j:Int)=2) <;> rfl⟩
 case inr.inr.inr.inr.inr.inr.inl=>exact ⟨1,rfl,fun j=>by
  unfold Dd;rw [Yf (j:Int) 1,Yf (j:Int) 2]
  by_cases h:(j:Int)=1
  ·rw [decide_eq_true h,if_pos h];rfl
  ·rw [decide_eq_false h,if_neg h]
   cases decide ((j:Int)=2) <;> rfl⟩
 case inr.inr.inr.inr.inr.inr.inr.inl=>exact ⟨1,rfl,fun j=>by
  unfold Dd;rw [Yf (j:Int) 1,Yf (j:Int) 2]
  by_cases h:(j:Int)=1
  ·rw [decide_eq_true h,if_pos h];rfl
  ·rw [decide_eq_false h,if_neg h]
   cases decide ((j:Int)=2) <;> rfl⟩
 case inr.inr.inr.inr.inr.inr.inr.inr.inr.inr.inr.inl=>exact ⟨2,rfl,fun j=>by
  unfold Dd;rw [Yf (j:Int) 1,Yf (j:Int) 2]
  by_cases h:(j:Int)=2
  ·rw [decide_eq_true h,if_pos h,decide_eq_false (show ¬ (j:Int)=1 by omega)];rfl
  ·rw [decide_eq_false h,if_neg h]
   cases decide ((j:Int)=1) <;> rfl⟩
 all_goals exact ⟨-1,rfl,fun j=>no (fun _=>none) j (by
  unfold Dd;rw [Yf (j:Int) 1,Yf (j:Int) 2]
  cases decide ((j:Int)=1) <;> cases decide ((j:Int)=2) <;> rfl)⟩
theorem walk_eq (V P:Int) (root:Tm):∀ (n:Nat) (t:Tm) (dep cnt:Nat),t.size≤n→dep+t.size≤900000000→cnt+t.size≤900000000 →
  ∃ e:Int,Jr D6 n (t,(dep:Int),max V 0,P,0,0)=some e∧(e=0→Jr G0 n (t,(dep:Int),root,0,Kq V P,(cnt:Int),root)=some (.inr (true,((cnt+t.num:Nat):Int)))) ∧
   (e ≠ 0→∃ c,Jr G0 n (t,(dep:Int),root,0,Kq V P,(cnt:Int),root)=some (.inl (e,c)))
 | 0,t,_,_,h,_,_=>by rw [t.size_eq] at h;omega
 | n+1,t,dep,cnt,h,hd,hc=>by
  show ∃ e:Int,m100s (Jr D6 n) t (dep:Int) (max V 0) P 0 0=some e∧(e=0→U4 (Jr G0 n) t (dep:Int) root 0 (Kq V P) (cnt:Int) root=_)∧(e ≠ 0→∃ c,U4 (Jr G0 n) t (dep:Int) root 0 (Kq V P) (cnt:Int) root=some (.inl (e,c)))
  obtain ⟨e,h1,h2,h3⟩:=node_eq t (dep:Int) V P (by omega)
  have hl:=Gc t
  have hnum:=t.num_le
  rw [h2]
  unfold U4
  rw [h1]
  by_cases he:e=0
  ·subst he
   obtain ⟨k0,k1⟩:=h3 rfl
   obtain ⟨v,hv,hj⟩:=bind_eq t.kind k0 k1
   rw [if_pos rfl]
   rw [decide_eq_true k0,decide_eq_true k1]
   show ∃ e:Int,Dl (Jr D6 n) t (dep:Int) (max V 0) P=some e∧(e=0→GE true t (dep:Int) (Jr G0 n) root 0 (Kq V P) root (cnt:Int)=_)∧(e ≠ 0→∃ c,GE true t (dep:Int) (Jr G0 n) root 0 (Kq V P) root (cnt:Int)=some (.inl (e,c)))
   have hg:Jd (cond (decide (0≤t.kind)) (Nat.blt t.kind.toNat 13) false) (some v)=some v:=by
    rw [decide_eq_true k0,cond_true,show Nat.blt t.kind.toNat 13=true from Nat.ble_eq_true_of_le (by omega)];rfl
   unfold GE Dl
   rw [hv]
   simp only [cond_true,Option.bind_some]
   rw [hg,Option.bind_some,U0 (by omega)]
   obtain ⟨r1,r2,e1,e2,e3⟩:=loop2 (β1:=Unit⊕Int) (β2:=Int⊕((Int×Int)⊕(Bool×Int))) (step1:=XX t (Jr D6 n) (dep:Int) (max V 0) P 0 0) (step2:=Kg t v (dep:Int) (Jr G0 n) root 0 (Kq V P) root) t.kids (fun i (_:Unit)=>i) (fun i (c:Nat)=>(i,(c:Int)))
    (fun a _ c=>c=cnt+1+(a.map Tm.num).sum) (fun r1 r2=>(r1=.inl ()∧r2=.inl ((cnt+t.num:Nat):Int))∨∃ e c,e ≠ 0∧r1=.inr e∧r2=.inr (.inl (e,c))) (by omega)
    (fun a x b _ c e hI=>by
     obtain ⟨q1,q2⟩:=Y3 e
     have hx:=num_le2 e
     have hxs:=Yv (t:=t) (k:=x) (by rw [e];simp)
     unfold XX Kg
     dsimp only
     rw [q1,q2]
     simp only [cond_true,Option.bind_some]
     rw [hj a.length,Yf]
     obtain ⟨d',hd1,hd2,hd3⟩:∃ d':Nat,J9 ((dep:Int)+(if (a.length:Int)=v then 1 else 0))=(d':Int)∧(cond (decide ((a.length:Int)=v)) (some (J9 ((dep:Int)+1))) (some (dep:Int)))=some (d':Int)∧d'≤dep+1:=by
      by_cases hh:(a.length:Int)=v
      ·rw [if_pos hh,decide_eq_true hh,U0 (by omega)];exact ⟨dep+1,rfl,rfl,Nat.le_refl _⟩
      ·rw [if_neg hh,decide_eq_false hh,U1 (by omega) (by omega)];exact ⟨dep,by omega,rfl,by omega⟩
     rw [hd2]
     simp only [Option.bind_some]
     rw [hd1]
     obtain ⟨e',w1,w2,w3⟩:=walk_eq V P root n x d' c (by omega) (by omega) (by omega)
     unfold m91f3_k0
     rw [w1]
     simp only [Option.bind_some]
     by_cases he':e'=0
     ·rw [w2 he']
      subst he'
      refine .inr ⟨(),c+x.num,J,J,?_⟩
      rw [hI,List.map_append,List.sum_append];simp;omega
     ·obtain ⟨c',w4⟩:=w3 he'
      rw [w4,WY he']
      exact .inl ⟨_,_,J,J,.inr ⟨e',c',he',J,J⟩⟩)
    (fun _ c hI=>⟨_,_,by unfold XX;rw [J7];rfl,by unfold Kg;dsimp only;rw [J7];rfl,.inl ⟨rfl,by rw [hI,t.num_eq];congr 2;omega⟩⟩) () (cnt+1) (by simp)
   have e1':Qp (XX t (Jr D6 n) (dep:Int) (max V 0) P 0 0) QF 0=some r1:=e1
   have e2':Qp (Kg t v (dep:Int) (Jr G0 n) root 0 (Kq V P) root) QF (0,((cnt+1:Nat):Int))=some r2:=e2
   rw [e1',e2']
   rcases e3 with ⟨rfl,rfl⟩ | ⟨e',c',he',rfl,rfl⟩
   ·exact ⟨0,rfl,fun _=>rfl,fun h=>(h rfl).elim⟩
   ·exact ⟨e',rfl,fun h=>(he' h).elim,fun _=>⟨c',rfl⟩⟩
  ·rw [if_neg he]
   refine ⟨e,J,fun h=>(he h).elim,fun _=>⟨(cnt:Int),?_⟩⟩
   simp only [Option.bind_some,WY he,cond_true];rfl
theorem m66_eq (t:Tm) (V P:Int) (h:t.size≤900000000):∃ e,m86 t V P 0 0=some e∧m66 t V P 0 0=some e:=by
 obtain ⟨e,h1,h2,h3⟩:=walk_eq V P t QF t 0 0 (by unfold QF;omega) (by omega) (by omega)
 obtain ⟨d,h4⟩:=depth_some QF t (by unfold QF;omega) h
 have h5:m55 t=some (t.num:Int):=num_walk QF t (by unfold QF;omega) h
 have h6:m56 t=some d:=h4
 have h1':m100 t 0 (max V 0) P 0 0=some e:=h1
 have h7:∀ r,Jr G0 QF (t,((0:Nat):Int),t,0,Kq V P,((0:Nat):Int),t)=some r→m91f3 t 0 t 0 (⟨(max V 0),(max P 0),(max 0 0),(max 0 0)⟩:Scp) 0 t=some r:=fun r h=>h
 unfold m86 m66
 rw [h1',m81_eq,h5,h6]
 by_cases he:e=0
 ·have h8:=h7 _ (h2 he)
  rw [h8]
  subst he
  show ∃ e,cond (decide (4096 < (t.num:Int))) (some 5) (cond (decide (200 < d)) (some 7) (some 0))=some e∧cond (decide (4096 < ((0+t.num:Nat):Int))) (some 5) (cond (decide (200 < d)) (some 7) (some 0))=some e
  rw [Nat.zero_add]
  cases decide (4096 < (t.num:Int)) with
  | true=>exact ⟨5,rfl,rfl⟩
  | false=>cases decide (200 < d) <;> exact ⟨_,rfl,rfl⟩
 ·obtain ⟨c,h9⟩:=h3 he
  rw [h7 _ h9]
  simp only [Option.bind_some,WY he,cond_true]
  exact ⟨e,J,J⟩
end Go.Proofs.Ytafddfoefeploaa
namespace Go.Proofs.Ytafddfoefeploaa
open Go.RowKit Go.Shelf
def m101_k0 (p0_:Bool) (p1_:(List Tm)×Int×Int×Bs×(List Lvl)×(List Tm)):Option (LO ((List Tm)×Int×Int×Bs×(List Lvl)×(List Tm)) (((List Tm)×Int×Int×Bs×(List Lvl)×(List Tm)))) :=
 cond p0_
   (Option.bind (JC p1_.2.2.2.2.2 0) fun (b0_:Tm) =>
 Jd (Nat.ble (p1_.1.length+([b0_]).length) 1000000000)
 (Option.bind (JC p1_.2.2.2.2.2 1) fun (b1_:Tm) =>
 some (.next ((p1_.1++([b0_])),b1_.kind,b1_.index,b1_.name,b1_.levels,b1_.kids))))
   (some (.done (p1_.1,p1_.2.1,p1_.2.2.1,p1_.2.2.2.1,p1_.2.2.2.2.1,p1_.2.2.2.2.2)))
def Gp  (s1:(List Tm)×Int×Int×Bs×(List Lvl)×(List Tm)):Option (LO ((List Tm)×Int×Int×Bs×(List Lvl)×(List Tm)) (((List Tm)×Int×Int×Bs×(List Lvl)×(List Tm)))) :=
 Option.bind (cond (s1.2.1==6)
   (some ((s1.2.2.2.2.2.length:Int)==2))
   (some false)) (fun (v2:Bool)=>m101_k0 v2 s1)
def m101 (a0:Tm):Option ((List Tm)×Tm) :=
 Option.bind (Qp (Gp) QF (([]:List Tm),a0.kind,a0.index,a0.name,a0.levels,a0.kids)) (fun (o1:(List Tm)×Int×Int×Bs×(List Lvl)×(List Tm))=>some (o1.1,(Tm.mk o1.2.1 o1.2.2.1 o1.2.2.2.1 o1.2.2.2.2.1 o1.2.2.2.2.2)))
def DW (a0:Tm):Option Bool :=
 Option.bind (m27 a0 (Tm.mk 0 0 ([]:List UInt8) ([]:List Lvl) ([]:List Tm))) fun (x1:Bool) =>
 some x1
def Xr  (s1:Int×Int×Int×Bs×(List Lvl)×(List Tm)):Option (LO (Int×Int×Int×Bs×(List Lvl)×(List Tm)) ((Int×Int×Int×Bs×(List Lvl)×(List Tm)))) :=
 Option.bind (cond (s1.2.1==6)
   (some ((s1.2.2.2.2.2.length:Int)==2))
   (some false)) (fun (v2:Bool)=>cond v2
   (Option.bind (JC s1.2.2.2.2.2 1) fun (x4:Tm) =>
 some (.next ((J9 (s1.1+1)),x4.kind,x4.index,x4.name,x4.levels,x4.kids)))
   (some (.done (s1.1,s1.2.1,s1.2.2.1,s1.2.2.2.1,s1.2.2.2.2.1,s1.2.2.2.2.2))))
def m84 (a0:Tm):Option Int :=
 Option.bind (Qp (Xr) QF (0,a0.kind,a0.index,a0.name,a0.levels,a0.kids)) (fun (o1:Int×Int×Int×Bs×(List Lvl)×(List Tm))=>some o1.1)
def U8 (a0:Dcl) (s1:Bool×Int):Option (LO (Bool×Int) Bool) :=
 cond (decide (s1.2 < (a0.ctors.length:Int)))
   (Option.bind (cond s1.1
   (Option.bind (JC a0.ctors s1.2) fun (x6:Ctr) =>
 Option.bind (m84 x6.ty) fun (x7:Int) =>
 some (decide (a0.fixed≤x7)))
   (some false)) (fun (v4:Bool)=>some (.next (v4,(J9 (s1.2+1))))))
   (some (.done s1.1))
def m70 (a0:Dcl):Option Bool :=
 Option.bind (m84 a0.ty) fun (x1:Int) =>
 Option.bind (Qp (U8 a0) QF ((decide (a0.fixed≤x1)),0)) (fun (o2:Bool)=>some o2)
def m50_k0 (p0_:Bool) (p1_:Bool) (p2_:Dcl):Option Bool :=
 cond p0_
   (Option.bind (cond p1_
   (some ((p2_.funs.length:Int)==0))
   (some false)) (fun (b0_:Bool)=>some b0_))
   (cond (p2_.kind==3)
   (Option.bind (Option.bind (DW p2_.value) fun (b1_:Bool) =>
 cond b1_
   (some ((p2_.funs.length:Int)==0))
   (some false)) (fun (b2_:Bool)=>some b2_))
   (Option.bind (cond (p2_.name==([]:List UInt8))
   (Option.bind (DW p2_.ty) fun (b3_:Bool) =>
 cond b3_
   (Option.bind (DW p2_.value) fun (b4_:Bool) =>
 cond b4_
   (some p1_)
   (some false))
   (some false))
   (some false)) (fun (b5_:Bool)=>some b5_)))
def m50_k1 (p0_:Dcl) (p1_:Bool):Option Bool :=
 cond (p0_.kind==0)
   (Option.bind (Option.bind (DW p0_.value) fun (b0_:Bool) =>
 cond b0_
   (cond p1_
   (some ((p0_.funs.length:Int)==0))
   (some false))
   (some false)) (fun (b1_:Bool)=>some b1_))
   (Option.bind (cond (p0_.kind==1)
   (some (p0_.kind==1))
   (some (p0_.kind==2))) (fun (b2_:Bool)=>m50_k0 b2_ p1_ p0_))
def m50 (a0:Dcl):Option Bool :=
 Option.bind (cond (a0.rcr.params==0)
   (Option.bind (DW a0.rcr.ty) fun (x3:Bool) =>
 cond x3
   (some ((a0.rcr.rules.length:Int)==0))
   (some false))
   (some false)) (fun (v1:Bool)=>Option.bind (cond (a0.fixed==0)
   (cond ((a0.ctors.length:Int)==0)
   (some v1)
   (some false))
   (some false)) (fun (v2:Bool)=>m50_k1 a0 v2))
def UF (a0:Dcl) (s1:Int):Option (LO Int (Unit⊕Int)) :=
 cond (decide (s1 < (a0.funs.length:Int)))
   (Option.bind (Option.bind (JC a0.funs s1) fun (x8:Fn) =>
 cond (decide (x8.arity < 1))
   (some true)
   (Option.bind (JC a0.funs s1) fun (x10:Fn) =>
 some (decide (16 < x10.arity)))) (fun (v7:Bool)=>cond v7
   (some (.done (.inr 3)))
   (some (.next (J9 (s1+1))))))
   (some (.done (.inl ())))
def m51_k1 (p0_:Dcl):Option Int :=
 Option.bind (cond (p0_.kind==3)
   (cond (p0_.rcr.params != p0_.params)
   (cond (p0_.rcr.params != (J9 (p0_.params+1)))
   (some true)
   (cond ((p0_.rcr.rules.length:Int) != (p0_.ctors.length:Int))
   (some true)
   (Option.bind (m70 p0_) fun (b0_:Bool) =>
 some (!b0_))))
   (cond ((p0_.rcr.rules.length:Int) != (p0_.ctors.length:Int))
   (some true)
   (Option.bind (m70 p0_) fun (b1_:Bool) =>
 some (!b1_))))
   (some false)) (fun (b2_:Bool)=>cond b2_
   (some 3)
   (some 0))
def UG (p0_:Bool) (p1_:Dcl):Option Int :=
 cond p0_
   (some 2)
   (Option.bind (cond (decide (32 < (p1_.ctors.length:Int)))
   (some true)
   (cond (p1_.kind==4)
   (cond (decide ((p1_.funs.length:Int) < 1))
   (some true)
   (some (decide (8 < (p1_.funs.length:Int)))))
   (some false))) (fun (b0_:Bool)=>cond b0_
   (some 6)
   (Option.bind (Qp (UF p1_) QF 0) (Sum.elim (fun (b1_:Unit)=>m51_k1 p1_) (fun o=>some o)))))
def m51 (a0:Dcl):Option Int :=
 Option.bind (cond (decide (a0.params < 0))
   (some true)
   (cond (decide (8 < a0.params))
   (some true)
   (some (decide (a0.fixed < 0))))) (fun (v1:Bool)=>UG v1 a0)
def m88 (a0:Dcl) (a1:Int):Option Int :=
 Option.bind (JC a0.ctors a1) fun (x1:Ctr) =>
 Option.bind (m101 x1.ty) fun (x2:(List Tm)×Tm) =>
 some (max 0 (J9 ((x2.1.length:Int) - a0.fixed)))
def Kt (a1:Tm) (rc:Rsc×Tm→Option Int) (a0:Rsc) (s1:Int):Option (LO Int (Unit⊕Int)) :=
 cond (decide (s1 < (a1.kids.length:Int)))
   (Option.bind (JC a1.kids s1) fun (x10:Tm) =>
 Option.bind (rc (a0,x10)) fun (x11:Int) =>
 cond (x11 != 0)
   (some (.done (.inr x11)))
   (some (.next (J9 (s1+1)))))
   (some (.done (.inl ())))
def DC (rc:Rsc×Tm→Option Int) (a0:Rsc) (a1:Tm):Option Int :=
 cond (a1.kind==3)
   (Option.bind (m15 a0.env a1.name) fun (x2:Ent×Int) =>
 cond (x2.2 != 0)
   (Option.bind (DK a0.own a1.name) fun (x4:Bool) =>
 cond (!x4)
   (some 9)
   (Option.bind (DZ a0.d (a0.env.length:Int) a1.name) fun (x6:Ent) =>
 cond ((a1.levels.length:Int) != x6.params)
   (some 15)
   (Option.bind (Qp (Kt a1 rc a0) QF 0) (Sum.elim (fun (o8:Unit)=>some 0) (fun o=>some o)))))
   (cond ((a1.levels.length:Int) != x2.1.params)
   (some 15)
   (Option.bind (Qp (Kt a1 rc a0) QF 0) (Sum.elim (fun (o15:Unit)=>some 0) (fun o=>some o)))))
   (Option.bind (Qp (Kt a1 rc a0) QF 0) (Sum.elim (fun (o21:Unit)=>some 0) (fun o=>some o)))
def UX (rc:Rsc×Tm→Option Int) (u:Rsc×Tm):Option Int:=DC rc u.1 u.2
def m87 (a0:Rsc) (a1:Tm):Option Int:=Jr UX QF (a0,a1)
def D4 (a0:Rsc) (a1:Tm) (a2:Int) (a3:Int):Option Int :=
 Option.bind (m86 a1 a2 a3 0 0) fun (x1:Int) =>
 cond (x1 != 0)
   (some x1)
   (Option.bind (m87 a0 a1) fun (x3:Int) =>
 some x3)
def m73_k0 (p0_:Bool) (p1_:Br) (p2_:Int) (p3_:Rsc) (p4_:Ent×Int) (p5_:Rsc×Tr×Int×Int→Option Int) (p6_:Int) (p7_:Int):Option (LO Int (Unit⊕Int)) :=
 cond p0_
   (some (.done (.inr 9)))
   (cond p1_.absurd
   (Option.bind (m36 p1_.tree (Tr.mk 0 (Tm.mk 0 0 ([]:List UInt8) ([]:List Lvl) ([]:List Tm)) 0 ([]:List Br))) fun (b0_:Bool) =>
 cond (!b0_)
   (some (.done (.inr 3)))
   (some (.next (J9 (p2_+1)))))
   (Option.bind (JC p3_.env p4_.1.decl) fun (b1_:Dcl) =>
 Option.bind (m88 b1_ p4_.1.item) fun (b2_:Int) =>
 Option.bind (p5_ (p3_,p1_.tree,(J9 (p6_+b2_)),(J9 (p7_+1)))) fun (b3_:Int) =>
 cond (b3_ != 0)
   (some (.done (.inr b3_)))
   (some (.next (J9 (p2_+1))))))
def Xt (a1:Tr) (a0:Rsc) (rc:Rsc×Tr×Int×Int→Option Int) (a2:Int) (a3:Int) (s1:Int):Option (LO Int (Unit⊕Int)) :=
 cond (decide (s1 < (a1.branches.length:Int)))
   (Option.bind (JC a1.branches s1) fun (x15:Br) =>
 Option.bind (m15 a0.env x15.ctor) fun (x16:Ent×Int) =>
 Option.bind (cond (x16.2 != 0)
   (some true)
   (some (x16.1.kind != 4))) (fun (v17:Bool)=>m73_k0 v17 x15 s1 a0 x16 rc a2 a3))
   (some (.done (.inl ())))
def DE (rc:Rsc×Tr×Int×Int→Option Int) (a0:Rsc) (a1:Tr) (a2:Int) (a3:Int):Option Int :=
 cond (decide (200≤a3))
   (some 7)
   (cond (a1.kind==0)
   (Option.bind (cond (a1.var != 0)
   (some true)
   (some (decide (0 < (a1.branches.length:Int))))) (fun (v3:Bool)=>cond v3
   (some 3)
   (Option.bind (D4 a0 a1.body a2 a0.d.params) fun (x5:Int) =>
 some x5)))
   (cond (a1.kind==1)
   (Option.bind (DW a1.body) fun (x8:Bool) =>
 cond (!x8)
   (some 3)
   (Option.bind (cond (decide (a1.var < 0))
   (some true)
   (some (decide (a2≤a1.var)))) (fun (v10:Bool)=>cond v10
   (some 24)
   (cond (decide (32 < (a1.branches.length:Int)))
   (some 6)
   (Option.bind (Qp (Xt a1 a0 rc a2 a3) QF 0) (Sum.elim (fun (o13:Unit)=>some 0) (fun o=>some o)))))))
   (some 3)))
def UY (rc:Rsc×Tr×Int×Int→Option Int) (u:Rsc×Tr×Int×Int):Option Int:=DE rc u.1 u.2.1 u.2.2.1 u.2.2.2
def m73 (a0:Rsc) (a1:Tr) (a2:Int) (a3:Int):Option Int:=Jr UY QF (a0,a1,a2,a3)
def UE (x1:(List Bs)) (a0:List Dcl) (s1:Int):Option (LO Int (Unit⊕Int)) :=
 cond (decide (s1 < (x1.length:Int)))
   (Option.bind (JC x1 s1) fun (x4:Bs) =>
 Option.bind (m71 x4) fun (x5:Bool) =>
 cond (!x5)
   (some (.done (.inr 29)))
   (Option.bind (JC x1 s1) fun (x7:Bs) =>
 Option.bind (m15 a0 x7) fun (x8:Ent×Int) =>
 Option.bind (cond (x8.2==0)
   (some true)
   (Jd (cond (decide (0≤s1)) (Nat.ble s1.toNat x1.length) false)
 (Option.bind (JC x1 s1) fun (x12:Bs) =>
 Option.bind (DK (x1.take s1.toNat) x12) fun (x13:Bool) =>
 some x13))) (fun (v9:Bool)=>cond v9
   (some (.done (.inr 8)))
   (some (.next (J9 (s1+1)))))))
   (some (.done (.inl ())))
def m52 (a0:List Dcl) (a1:Dcl):Option Int :=
 Option.bind (m23 a1) fun (x1:(List Bs)) =>
 Option.bind (Qp (UE x1 a0) QF 0) (Sum.elim (fun (o2:Unit)=>some 0) (fun o=>some o))
def Wp (a1:Dcl) (a0:List Dcl) (s1:Int):Option (LO Int (Unit⊕Int)) :=
 cond (decide (s1 < (a1.ctors.length:Int)))
   (Option.bind (JC a1.ctors s1) fun (x10:Ctr) =>
 Option.bind (D4 (⟨a0,[a1.name],a1⟩:Rsc) x10.ty 0 a1.params) fun (x11:Int) =>
 cond (x11 != 0)
   (some (.done (.inr x11)))
   (some (.next (J9 (s1+1)))))
   (some (.done (.inl ())))
def Wo (a1:Dcl) (a0:List Dcl) (x9:(List Bs)) (s1:Int):Option (LO Int (Unit⊕Int)) :=
 cond (decide (s1 < (a1.rcr.rules.length:Int)))
   (Option.bind (JC a1.rcr.rules s1) fun (x15:Tm) =>
 Option.bind (D4 (⟨a0,x9,a1⟩:Rsc) x15 0 a1.rcr.params) fun (x16:Int) =>
 cond (x16 != 0)
   (some (.done (.inr x16)))
   (some (.next (J9 (s1+1)))))
   (some (.done (.inl ())))
def Uc (p0_:Dcl) (p1_:List Dcl):Option Int :=
 Option.bind (m23 p0_) fun (b0_:(List Bs)) =>
 Jd (cond (decide (0≤(J9 ((b0_.length:Int) - 1)))) (Nat.ble (J9 ((b0_.length:Int) - 1)).toNat b0_.length) false)
 (Option.bind (D4 (⟨p1_,(b0_.take (J9 ((b0_.length:Int) - 1)).toNat),p0_⟩:Rsc) p0_.rcr.ty 0 p0_.rcr.params) fun (b1_:Int) =>
 cond (b1_ != 0)
   (some b1_)
   (Option.bind (Qp (Wo p0_ p1_ b0_) QF 0) (Sum.elim (fun (b2_:Unit)=>some 0) (fun o=>some o))))
def Ub (a1:Dcl) (a0:List Dcl) (s1:Int):Option (LO Int (Unit⊕Int)) :=
 cond (decide (s1 < (a1.funs.length:Int)))
   (Option.bind (JC a1.funs s1) fun (x27:Fn) =>
 Option.bind (D4 (⟨a0,([]:List Bs),a1⟩:Rsc) x27.ty 0 a1.params) fun (x28:Int) =>
 cond (x28 != 0)
   (some (.done (.inr x28)))
   (some (.next (J9 (s1+1)))))
   (some (.done (.inl ())))
def Wn (a1:Dcl) (a0:List Dcl) (x26:(List Bs)) (s1:Int):Option (LO Int (Unit⊕Int)) :=
 cond (decide (s1 < (a1.funs.length:Int)))
   (Option.bind (JC a1.funs s1) fun (x29:Fn) =>
 Option.bind (JC a1.funs s1) fun (x30:Fn) =>
 Option.bind (m73 (⟨a0,x26,a1⟩:Rsc) x29.tree x30.arity 0) fun (x31:Int) =>
 cond (x31 != 0)
   (some (.done (.inr x31)))
   (some (.next (J9 (s1+1)))))
   (some (.done (.inl ())))
def Ka (p0_:Bool) (p1_:List Dcl) (p2_:Dcl):Option Int :=
 cond p0_
   (Option.bind (D4 (⟨p1_,([]:List Bs),p2_⟩:Rsc) p2_.value 0 p2_.params) fun (b0_:Int) =>
 some b0_)
   (cond (p2_.kind==3)
   (Option.bind (Qp (Wp p2_ p1_) QF 0) (Sum.elim (fun (b1_:Unit)=>Uc p2_ p1_) (fun o=>some o)))
   (cond (p2_.kind==4)
   (Option.bind (Qp (Ub p2_ p1_) QF 0) (Sum.elim (fun (b2_:Unit)=>Option.bind (m23 p2_) fun (b3_:(List Bs)) =>
 Option.bind (Qp (Wn p2_ p1_ b3_) QF 0) (Sum.elim (fun (b4_:Unit)=>some 0) (fun o=>some o))) (fun o=>some o)))
   (some 0)))
def m53 (a0:List Dcl) (a1:Dcl):Option Int :=
 cond (a1.kind != 4)
   (Option.bind (D4 (⟨a0,([]:List Bs),a1⟩:Rsc) a1.ty 0 a1.params) fun (x2:Int) =>
 cond (x2 != 0)
   (some x2)
   (Option.bind (cond (a1.kind==1)
   (some (a1.kind==1))
   (some (a1.kind==2))) (fun (v4:Bool)=>Ka v4 a0 a1)))
   (Option.bind (cond (a1.kind==1)
   (some (a1.kind==1))
   (some (a1.kind==2))) (fun (v40:Bool)=>Ka v40 a0 a1))
end Go.Proofs.Ytafddfoefeploaa
namespace Go.Proofs.Ytafddfoefeploaa
open Go.RowKit Go.Shelf
def UJ (p0_:Bool) (p1_:Dcl) (p2_:List Dcl):Option Int :=
 cond p0_
   (some 1)
   (Option.bind (m50 p1_) fun (b0_:Bool) =>
 cond (!b0_)
   (some 3)
   (Option.bind (m51 p1_) fun (b1_:Int) =>
 cond (b1_ != 0)
   (some b1_)
   (Option.bind (m52 p2_ p1_) fun (b2_:Int) =>
 cond (b2_ != 0)
   (some b2_)
   (Option.bind (m53 p2_ p1_) fun (b3_:Int) =>
 some b3_))))
def DL (a0:List Dcl) (a1:Dcl):Option Int :=
 Option.bind (cond (decide (a1.kind < 0))
   (some true)
   (some (decide (4 < a1.kind)))) (fun (v1:Bool)=>UJ v1 a1 a0)
def UN (a0:List Dcl) (s1:Int):Option (LO Int (Unit⊕(Int×Int))) :=
 cond (decide (s1 < (a0.length:Int)))
   (Jd (cond (decide (0≤s1)) (Nat.ble s1.toNat a0.length) false)
 (Option.bind (JC a0 s1) fun (x5:Dcl) =>
 Option.bind (DL (a0.take s1.toNat) x5) fun (x6:Int) =>
 cond (x6 != 0)
   (some (.done (.inr (s1,x6))))
   (some (.next (J9 (s1+1))))))
   (some (.done (.inl ())))
def m12 (a0:List Dcl):Option (Int×Int) :=
 cond (decide (1000 < (a0.length:Int)))
   (some (1000,6))
   (Option.bind (Qp (UN a0) QF 0) (Sum.elim (fun (o2:Unit)=>some (0,0)) (fun o=>some o)))
end Go.Proofs.Ytafddfoefeploaa
namespace Go.Proofs.Ytafddfoefeploaa
open Go.RowKit Go.Shelf
def Dt:Tm:=Tm.mk 0 0 ([]:List UInt8) ([]:List Lvl) ([]:List Tm)
theorem rec1 {σ β:Type} (F:(σ→Option β)→σ→Option β) (u:σ):Jr F QF u=F (Jr F 999999999) u:=rfl
def XZ (t:Tm):Bool:=(t.kind==0)&&(t.index==0)&&(t.name==[])&&((t.levels.length:Int)==0)&&((t.kids.length:Int)==0)
theorem ZD {τ β:Type} {step:τ→Option (LO τ β)} {s:τ} {r:β} (h:step s=some (.done r)):Qp step QF s=some r:=by
 show Qp step (999999999+1) s=_
 simp only [Qp,h]
theorem UC (t:Tm):DU t=some (XZ t):=by
 have h1:(t.levels.length:Int)=0→Qp (U7 t Dt) QF 0=some (.inl ()):=fun h=>ZD (by unfold U7;rw [h];rfl)
 have h2:∀ rc,(t.kids.length:Int)=0→Qp (U6 t Dt rc) QF 0=some (.inl ()):=fun rc h=>ZD (by unfold U6;rw [h];rfl)
 unfold DU m78 XZ
 rw [rec1]
 show Option.bind (DD _ t Dt) _=_
 unfold DD
 show Option.bind (Option.bind (cond (t.kind==0) (cond (t.index==0) (cond (t.name==[]) (Option.bind (cond (!((t.levels.length:Int)==0)) (some false) (Option.bind (Qp (U7 t Dt) QF 0) (Sum.elim (fun (o8:Unit)=>some true) (fun o=>some o)))) (fun (y5:Bool)=>cond y5
  (Option.bind (cond (!((t.kids.length:Int)==0)) (some false) (Option.bind (Qp (U6 t Dt _) QF 0) (Sum.elim (fun (o19:Unit)=>some true) (fun o=>some o)))) (fun (y16:Bool)=>some y16)) (some false))) (some false)) (some false)) (some false)) _) _=_
 cases (t.kind==0) with
 | false=>rfl
 | true =>
  cases (t.index==0) with
  | false=>rfl
  | true =>
   cases (t.name==[]) with
   | false=>rfl
   | true =>
    rw [Yf,Yf]
    by_cases c:(t.levels.length:Int)=0
    ·rw [decide_eq_true c,h1 c]
     by_cases c2:(t.kids.length:Int)=0
     ·rw [decide_eq_true c2,h2 _ c2];rfl
     ·rw [decide_eq_false c2];rfl
    ·rw [decide_eq_false c];rfl
theorem m42_nil (l:List Lvl):m42 l []=some ((l.length:Int)==0):=by
 unfold m42
 show cond (!((l.length:Int)==0)) _ _=_
 rw [Yf]
 by_cases c:(l.length:Int)=0
 ·rw [decide_eq_true c,ZD (r:=.inl ()) (by unfold m42_l0;rw [c];rfl)];rfl
 ·rw [decide_eq_false c];rfl
theorem U9 (t:Tm):DW t=some (XZ t):=by
 have h2:∀ rc,(t.kids.length:Int)=0→Qp (Wt t Dt rc) QF 0=some (.inl ()):=fun rc h=>ZD (by unfold Wt;rw [h];rfl)
 unfold DW m27 XZ
 rw [rec1]
 show Option.bind (DM _ t Dt) _=_
 unfold DM
 show Option.bind (Option.bind (cond (!(t.kind==0)) (some true) (cond (!(t.index==0)) (some true) (cond (!(t.name==[])) (some true) (Option.bind (m42 t.levels []) fun (x5:Bool)=>cond (!x5) (some true) (some (!((t.kids.length:Int)==0))))))) (fun (v1:Bool)=>cond v1 (some false) (Option.bind (Qp (Wt t Dt _) QF 0) (Sum.elim (fun (o3:Unit)=>some true) (fun o=>some o))))) _=_
 rw [m42_nil]
 cases (t.kind==0) with
 | false=>rfl
 | true =>
  cases (t.index==0) with
  | false=>rfl
  | true =>
   cases (t.name==[]) with
   | false=>rfl
   | true =>
    cases ((t.levels.length:Int)==0) with
    | false=>rfl
    | true =>
     rw [Yf]
     by_cases c2:(t.kids.length:Int)=0
     ·rw [decide_eq_true c2,h2 _ c2];rfl
     ·rw [decide_eq_false c2];rfl
def isZT (t:Tr):Bool:=(t.kind==0)&&(t.var==0)&&XZ t.body&&((t.branches.length:Int)==0)
theorem m27_Z (t:Tm):m27 t Dt=some (XZ t):=by
 have:=U9 t
 unfold DW at this
 obtain ⟨x,h1,h2⟩:=ZS this
 cases h2
 exact h1
theorem m36_Z (t:Tr):m36 t (Tr.mk 0 Dt 0 [])=some (isZT t):=by
 have h2:∀ rc,(t.branches.length:Int)=0→Qp (m36_l0 t (Tr.mk 0 Dt 0 []) rc) QF 0=some (.inl ()):=fun rc h=>ZD (by unfold m36_l0;rw [h];rfl)
 unfold m36 isZT
 rw [rec1]
 show m36s _ t (Tr.mk 0 Dt 0 [])=_
 unfold m36s
 show Option.bind (cond (!(t.kind==0)) (some true) (cond (!(t.var==0)) (some true) (Option.bind (m27 t.body Dt) fun (x4:Bool)=>cond (!x4) (some true) (some (!((t.branches.length:Int)==0)))))) (fun (v1:Bool)=>cond v1 (some false) (Option.bind (Qp (m36_l0 t (Tr.mk 0 Dt 0 []) _) QF 0) (Sum.elim (fun (o3:Unit)=>some true) (fun o=>some o))))=_
 rw [m27_Z]
 cases (t.kind==0) with
 | false=>rfl
 | true =>
  cases (t.var==0) with
  | false=>rfl
  | true =>
   cases XZ t.body with
   | false=>rfl
   | true =>
    rw [Yf]
    by_cases c2:(t.branches.length:Int)=0
    ·rw [decide_eq_true c2,h2 _ c2];rfl
    ·rw [decide_eq_false c2];rfl
def Bk (env:List Dcl) (M:Qa Bs Ent):Prop:=∀ n,ZZ M n=Y2 env n
def Ow (own:List Bs) (d:Dcl) (k:Int) (O:Qa Bs Ent):Prop:=∀ n,(n∈own→n∈J3 d)∧ZZ O n=if n∈own then Yi d k n else none
structure Sok (s:Rsc) (M O:Qa Bs Ent):Prop where
 env:Yn s.env≤800000000
 own:s.own.length≤900000000
 d:s.d.size≤800000000
 bk:Bk s.env M
 ow:Ow s.own s.d (s.env.length:Int) O
theorem Xv (b:Bool) (c:Int):Jy b c=some (cond b (.inl ()) (.inr ())):=by cases b <;> rfl
theorem kids_c (rc1:Rsc×Tm→Option Int) (rc2:Tm×(List Dcl)×(Qa ((List UInt8)) Ent)×(Qa ((List UInt8)) Ent)×Tm→Option (Bool⊕Int)) (s:Rsc) (M O:Qa Bs Ent) (root t:Tm) (h:t.size≤900000000)
  (ih:∀ x∈t.kids,∃ e:Int,rc1 (s,x)=some e∧(e=0→rc2 (x,s.env,M,O,root)=some (.inl true))∧(e ≠ 0→rc2 (x,s.env,M,O,root)=some (.inr e))) :
  ∃ e:Int,Option.bind (Qp (Kt t rc1 s) QF 0) (Sum.elim (fun (o8:Unit)=>some 0) (fun o=>some o))=some e∧(e=0→GI t rc2 s.env M O root=some (.inl true))∧(e ≠ 0→GI t rc2 s.env M O root=some (.inr e)):=by
 have hl:=Gc t
 obtain ⟨e,h1,h2⟩:=YJ (β1:=Unit⊕Int) (β2:=Unit⊕(Int⊕Int)) (step1:=Kt t rc1 s) (step2:=GH t rc2 s.env M O root) t.kids (.inl ()) (.inl ()) .inr (fun e=>.inr (.inr e)) (by omega) (fun a x b e=>by
  obtain ⟨q1,q2⟩:=Y3 e
  obtain ⟨e',h1,h2,h3⟩:=ih x (by rw [e];simp)
  unfold Kt GH
  rw [q1,q2]
  simp only [cond_true,Option.bind_some]
  rw [h1]
  refine ⟨e',fun he=>?_,fun he=>?_⟩
  ·rw [h2 he];subst he;exact ⟨rfl,rfl⟩
  ·rw [h3 he];exact ⟨XS he _ _,rfl⟩)
  (by unfold Kt;rw [J7];rfl) (by unfold GH;rw [J7];rfl)
 unfold GI
 by_cases he:e=0
 ·obtain ⟨e1,e2⟩:=h1 he
  rw [e1,e2];exact ⟨0,rfl,fun _=>rfl,fun h=>(h rfl).elim⟩
 ·obtain ⟨e1,e2⟩:=h2 he
  rw [e1,e2];exact ⟨e,rfl,fun h=>(he h).elim,fun _=>rfl⟩
theorem const_eq (s:Rsc) (M O:Qa Bs Ent) (hs:Sok s M O) (root:Tm):∀ (n:Nat) (t:Tm),t.size≤n→t.size≤900000000 →
  ∃ e:Int,Jr UX n (s,t)=some e∧(e=0→Jr Wj n (t,s.env,M,O,root)=some (.inl true))∧(e ≠ 0→Jr Wj n (t,s.env,M,O,root)=some (.inr e))
 | 0,t,h,_=>by rw [t.size_eq] at h;omega
 | n+1,t,h,hb=>by
  show ∃ e:Int,DC (Jr UX n) s t=some e∧(e=0→U5 (Jr Wj n) t s.env M O root=some (.inl true))∧(e ≠ 0→U5 (Jr Wj n) t s.env M O root=some (.inr e))
  obtain ⟨e,h1,h2,h3⟩:=kids_c (Jr UX n) (Jr Wj n) s M O root t hb fun x hx=>const_eq s M O hs root n x (by have:=Yv hx;omega) (by have:=Yv hx;omega)
  unfold DC U5
  rw [Yf]
  by_cases hk:t.kind=3
  ·rw [decide_eq_true hk,cond_true,cond_true,UK s.env t.name hs.env]
   have hM:=hs.bk t.name
   have hO:=(hs.ow t.name).2
   unfold XP
   cases hf:Y2 s.env t.name with
   | some en =>
    rw [hf] at hM
    have g1:YE M t.name=true:=by unfold YE;rw [hM];rfl
    have g2:Qn M t.name=en:=by unfold Qn;rw [hM];rfl
    rw [g1,g2]
    show ∃ e:Int,cond ((t.levels.length:Int) != en.params) (some 15) _=some e∧_
    simp only [Bool.not_true,cond_false,Option.bind_some,Xv,cond_true,Sum.elim_inl]
    show ∃ e:Int,cond (!((t.levels.length:Int)==en.params)) _ _=_∧_
    cases ((t.levels.length:Int)==en.params) with
    | true=>exact ⟨e,h1,h2,h3⟩
    | false=>exact ⟨15,rfl,fun h=>by omega,fun _=>rfl⟩
   | none =>
    rw [hf] at hM
    have g1:YE M t.name=false:=by unfold YE;rw [hM];rfl
    rw [g1]
    show ∃ e:Int,Option.bind (DK s.own t.name) _=some e∧_
    rw [m33_eq s.own t.name hs.own]
    by_cases ho:t.name∈s.own
    ·rw [if_pos ho] at hO
     have hi:=Xa s.d (s.env.length:Int) t.name
     rw [decide_eq_true ((hs.ow t.name).1 ho)] at hi
     cases hl:Yi s.d (s.env.length:Int) t.name with
     | none=>rw [hl] at hi;cases hi
     | some en =>
      rw [hl] at hO
      have g3:YE O t.name=true:=by unfold YE;rw [hO];rfl
      have g4:Qn O t.name=en:=by unfold Qn;rw [hO];rfl
      rw [decide_eq_true ho,g3,g4]
      show ∃ e:Int,Option.bind (DZ s.d (s.env.length:Int) t.name) _=some e∧_
      rw [m34_eq s.d t.name _ en (by have:=hs.d;omega) hl]
      simp only [Bool.not_false,cond_true,Option.bind_some,Xv,Sum.elim_inl]
      show ∃ e:Int,cond (!((t.levels.length:Int)==en.params)) _ _=_∧_
      cases ((t.levels.length:Int)==en.params) with
      | true=>exact ⟨e,h1,h2,h3⟩
      | false=>exact ⟨15,rfl,fun h=>by omega,fun _=>rfl⟩
    ·rw [if_neg ho] at hO
     have g3:YE O t.name=false:=by unfold YE;rw [hO];rfl
     rw [decide_eq_false ho,g3]
     exact ⟨9,rfl,fun h=>by omega,fun _=>rfl⟩
  ·rw [decide_eq_false hk]
   exact ⟨e,h1,h2,h3⟩
theorem Wq (s:Rsc) (M O:Qa Bs Ent) (hs:Sok s M O) (t:Tm) (V P:Int) (h:t.size≤900000000) :
  ∃ e:Int,D4 s t V P=some e∧(e=0→Gl t V P s.env M O=some (.inl ()))∧(e ≠ 0→Gl t V P s.env M O=some (.inr e)):=by
 obtain ⟨e,h1,h2⟩:=m66_eq t V P h
 obtain ⟨e',h3,h4,h5⟩:=const_eq s M O hs t QF t (by unfold QF;omega) h
 have h3':m87 s t=some e':=h3
 unfold D4 Gl m83f9
 rw [h1,h2,h3']
 simp only [Option.bind_some,Xv]
 by_cases he:e=0
 ·subst he
  by_cases he':e'=0
  ·rw [h4 he'];exact ⟨e',rfl,fun _=>rfl,fun h=>(h he').elim⟩
  ·rw [h5 he'];exact ⟨e',rfl,fun h=>(he' h).elim,fun _=>rfl⟩
 ·rw [WY he,show (e==0)=false from by rw [Yf];exact decide_eq_false he]
  exact ⟨e,rfl,fun h=>(he h).elim,fun _=>rfl⟩
end Go.Proofs.Ytafddfoefeploaa
namespace Go.Proofs.Ytafddfoefeploaa
open Go.RowKit Go.Shelf
theorem m64_eq:m64=m101:=rfl
theorem listTwo {α:Type} {l:List α} (h:(l.length:Int)=2):∃ x y,l=[x,y]:=by
 match l,h with
 | [x,y],_=>exact ⟨x,y,rfl⟩
 | [],h=>simp at h
 | [x],h=>simp at h
 | x::y::z::l,h=>simp at h;omega
theorem pis_walk:∀ (n:Nat) (t:Tm) (acc:List Tm),t.size≤n→acc.length+t.size≤900000000→∃ (c:Nat) (r1:(List Tm)×Int×Int×Bs×(List Lvl)×(List Tm)) (r2:Int×Int×Int×Bs×(List Lvl)×(List Tm)),
  Qp Gp n (acc,t.kind,t.index,t.name,t.levels,t.kids)=some r1∧Qp Xr n ((acc.length:Int),t.kind,t.index,t.name,t.levels,t.kids)=some r2∧r1.1.length=c∧r2.1=(c:Int)∧c≤900000000
 | 0,t,_,h,_=>by rw [t.size_eq] at h;omega
 | n+1,t,acc,h,hb=>by
  have stop:(cond (t.kind==6) (some ((t.kids.length:Int)==2)) (some false))=some false→∃ (c:Nat) (r1:(List Tm)×Int×Int×Bs×(List Lvl)×(List Tm)) (r2:Int×Int×Int×Bs×(List Lvl)×(List Tm)),
    Qp Gp (n+1) (acc,t.kind,t.index,t.name,t.levels,t.kids)=some r1∧Qp Xr (n+1) ((acc.length:Int),t.kind,t.index,t.name,t.levels,t.kids)=some r2∧r1.1.length=c∧r2.1=(c:Int)∧c≤900000000:=by
   intro hs
   have e1:Gp (acc,t.kind,t.index,t.name,t.levels,t.kids)=some (.done (acc,t.kind,t.index,t.name,t.levels,t.kids)):=by unfold Gp;dsimp only;rw [hs];rfl
   have e2:Xr ((acc.length:Int),t.kind,t.index,t.name,t.levels,t.kids)=some (.done ((acc.length:Int),t.kind,t.index,t.name,t.levels,t.kids)):=by unfold Xr;dsimp only;rw [hs];rfl
   exact ⟨acc.length,(acc,t.kind,t.index,t.name,t.levels,t.kids),((acc.length:Int),t.kind,t.index,t.name,t.levels,t.kids),by simp only [Qp,e1],by simp only [Qp,e2],rfl,rfl,by omega⟩
  by_cases hk:t.kind=6
  ·by_cases hl:(t.kids.length:Int)=2
   ·obtain ⟨x,y,hxy⟩:=listTwo hl
    have hy:=Yv (t:=t) (k:=y) (by rw [hxy];simp)
    obtain ⟨c,r1,r2,h1,h2,h3,h4,h5⟩:=pis_walk n y (acc++[x]) (by omega) (by rw [List.length_append,List.length_singleton];omega)
    have e1:Gp (acc,t.kind,t.index,t.name,t.levels,t.kids)=some (.next (acc++[x],y.kind,y.index,y.name,y.levels,y.kids)):=by
     unfold Gp;dsimp only;rw [hk,hxy]
     show Jd (Nat.ble (acc.length+1) 1000000000) _=_
     rw [JM (by omega)];rfl
    have e2:Xr ((acc.length:Int),t.kind,t.index,t.name,t.levels,t.kids)=some (.next (((acc++[x]).length:Int),y.kind,y.index,y.name,y.levels,y.kids)):=by
     unfold Xr;dsimp only;rw [hk,hxy]
     show some (LO.next (J9 ((acc.length:Int)+1),y.kind,y.index,y.name,y.levels,y.kids))=_
     rw [U0 (by omega),List.length_append];rfl
    exact ⟨c,r1,r2,by simp only [Qp,e1];exact h1,by simp only [Qp,e2];exact h2,h3,h4,h5⟩
   ·exact stop (by rw [Yf,Yf,decide_eq_false hl];cases decide (t.kind=6) <;> rfl)
  ·exact stop (by rw [Yf,decide_eq_false hk];rfl)
def Wg (t:Tm):Int:=(m84 t).getD 0
theorem pis_eq (t:Tm) (h:t.size≤900000000):m84 t=some (Wg t)∧∃ r,m101 t=some r∧(r.1.length:Int)=Wg t:=by
 obtain ⟨c,r1,r2,h1,h2,h3,h4,-⟩:=pis_walk QF t [] (by unfold QF;omega) (by simp;omega)
 have e1:m84 t=some (c:Int):=by
  have h2':Qp Xr QF (0,t.kind,t.index,t.name,t.levels,t.kids)=some r2:=h2
  unfold m84
  rw [h2',← h4];rfl
 have e2:Wg t=(c:Int):=by unfold Wg;rw [e1];rfl
 refine ⟨by rw [e1,e2],(r1.1,Tm.mk r1.2.1 r1.2.2.1 r1.2.2.2.1 r1.2.2.2.2.1 r1.2.2.2.2.2),?_,by rw [e2,← h3]⟩
 have h1':Qp Gp QF (([]:List Tm),t.kind,t.index,t.name,t.levels,t.kids)=some r1:=h1
 unfold m101
 rw [h1'];rfl
theorem KV {d:Dcl} {c:Ctr} (h:c∈d.ctors):c.ty.size+c.name.length < d.size:=by
 have h1:=ZI csz h
 have h2:csz c=1+c.name.length+c.ty.size:=rfl
 unfold Dcl.size
 omega
theorem m88_eq (d:Dcl) (i:Int) (c:Ctr) (hi:JC d.ctors i=some c) (h:d.size≤900000000):∃ r,m88 d i=some r∧m68 d i=some r:=by
 have hc:c.ty.size≤900000000:=by
  have:c∈d.ctors:=by
   cases i with
   | ofNat k=>exact List.mem_of_getElem? hi
   | negSucc k=>cases hi
  have:=KV this
  omega
 obtain ⟨-,r,h1,-⟩:=pis_eq c.ty hc
 unfold m88 m68
 rw [hi,m64_eq]
 simp only [Option.bind_some]
 rw [h1]
 exact ⟨_,J,J⟩
theorem firstN_some {α:Type} (nm:α→Bs) (n:Bs) {i:Nat} {x:α}:∀ (l:List α) (k:Nat),JF nm n l k=some (i,x)→k≤i∧l[i - k]?=some x
 | [],k,h=>by cases h
 | y::l,k,h=>by
  rw [JF] at h
  split at h
  ·cases h;exact ⟨Nat.le_refl _,by rw [Nat.sub_self];rfl⟩
  ·obtain ⟨h1,h2⟩:=firstN_some nm n l (k+1) h
   refine ⟨by omega,?_⟩
   rw [show i - k=(i - (k+1))+1 from by omega];exact h2
theorem look_ctor {d:Dcl} {k:Int} {n:Bs} {e:Ent} (h:Yi d k n=some e) (h4:e.kind=4):∃ c,JC d.ctors e.item=some c:=by
 unfold Yi at h
 split at h
 ·next hk =>
  split at h
  ·cases h;exfalso;have h4':d.kind=4:=h4;omega
  ·cases h
 ·split at h
  ·split at h
   ·cases h;exfalso;have h4':(3:Int)=4:=h4;omega
   ·split at h
    ·next i c hf =>
     cases h
     obtain ⟨-,h2⟩:=firstN_some _ _ _ _ hf
     exact ⟨c,h2⟩
    ·split at h
     ·cases h;exfalso;have h4':(5:Int)=4:=h4;omega
     ·cases h
  ·split at h
   ·split at h
    ·cases h;exfalso;have h4':(6:Int)=4:=h4;omega
    ·cases h
   ·cases h
def Sm2 (e:Int) (p:Option (Unit⊕Int)):Prop:=(e=0→p=some (.inl ()))∧(e ≠ 0→p=some (.inr e))
theorem Sm2.ok {p:Option (Unit⊕Int)} (h:p=some (.inl ())):Sm2 0 p:=⟨fun _=>h,fun h=>(h rfl).elim⟩
theorem Sm2.no {p:Option (Unit⊕Int)} {e:Int} (he:e ≠ 0) (h:p=some (.inr e)):Sm2 e p:=⟨fun h=>(he h).elim,fun _=>h⟩
theorem bodysz (t:Tr):t.body.size < t.size:=by rw [t.size_eq];omega
theorem tree_eq (s:Rsc) (M O:Qa Bs Ent) (hs:Sok s M O):∀ (n:Nat) (t:Tr) (V D:Int),t.size≤n→t.size≤900000000 →
  ∃ e:Int,Jr UY n (s,t,V,D)=some e∧Sm2 e (Jr X5 n (t,V,D,s.d.params,s.env,M,O))
 | 0,t,_,_,h,_=>by rw [t.size_eq] at h;omega
 | n+1,t,V,D,h,hb=>by
  show ∃ e:Int,DE (Jr UY n) s t V D=some e∧Sm2 e (WM (Jr X5 n) t V D s.d.params s.env M O)
  have hbody:=bodysz t
  have hbl:=branches_len t
  unfold DE WM
  rw [Xv]
  by_cases hD:200≤D
  ·rw [decide_eq_true hD,decide_eq_false (show ¬ D < 200 by omega)]
   exact ⟨7,rfl,.no (by omega) rfl⟩
  rw [decide_eq_false hD,decide_eq_true (show D < 200 by omega)]
  simp only [cond_true,cond_false,Option.bind_some,Sum.elim_inl]
  rw [Yf]
  by_cases k0:t.kind=0
  ·rw [decide_eq_true k0,cond_true,cond_true]
   show ∃ e:Int,Option.bind (cond (!(t.var==0)) (some true) (some (decide (0 < (t.branches.length:Int))))) _=_∧_
   cases (t.var==0) with
   | false=>exact ⟨3,rfl,.no (by omega) rfl⟩
   | true =>
    rw [Yf]
    by_cases c:(t.branches.length:Int)=0
    ·rw [decide_eq_true c,decide_eq_false (show ¬ 0 < (t.branches.length:Int) by omega)]
     obtain ⟨e,h1,h2,h3⟩:=Wq s M O hs t.body V s.d.params (by omega)
     rw [h1]
     refine ⟨e,J,fun he=>?_,fun he=>?_⟩
     ·rw [h2 he];rfl
     ·rw [h3 he];rfl
    ·rw [decide_eq_false c,decide_eq_true (show 0 < (t.branches.length:Int) by omega)]
     exact ⟨3,rfl,.no (by omega) rfl⟩
  rw [decide_eq_false k0,cond_false,cond_false,Yf]
  by_cases k1:t.kind=1
  ·rw [decide_eq_true k1,cond_true,cond_true,UC,U9]
   cases XZ t.body with
   | false=>exact ⟨3,rfl,.no (by omega) rfl⟩
   | true =>
    show ∃ e:Int,Option.bind (cond (decide (t.var < 0)) (some true) (some (decide (V≤t.var)))) _=some e∧Sm2 e (GK t V M s.env (Jr X5 n) D s.d.params O)
    unfold GK
    by_cases c1:t.var < 0
    ·rw [decide_eq_true c1,decide_eq_false (show ¬ 0≤t.var by omega)]
     exact ⟨24,rfl,.no (by omega) rfl⟩
    rw [decide_eq_false c1,decide_eq_true (show 0≤t.var by omega)]
    by_cases c2:V≤t.var
    ·rw [decide_eq_true c2,decide_eq_false (show ¬ t.var < V by omega)]
     exact ⟨24,rfl,.no (by omega) rfl⟩
    rw [decide_eq_false c2,decide_eq_true (show t.var < V by omega)]
    show ∃ e:Int,cond (decide (32 < (t.branches.length:Int))) _ _=some e∧Sm2 e (GL t M s.env (Jr X5 n) V D s.d.params O)
    unfold GL
    rw [Xv]
    by_cases c3:32 < (t.branches.length:Int)
    ·rw [decide_eq_true c3,decide_eq_false (show ¬ (t.branches.length:Int)≤32 by omega)]
     exact ⟨6,rfl,.no (by omega) rfl⟩
    rw [decide_eq_false c3,decide_eq_true (show (t.branches.length:Int)≤32 by omega)]
    obtain ⟨e,h1,h2⟩:=YJ (β1:=Unit⊕Int) (β2:=Unit⊕(Unit⊕Int)) (step1:=Xt t s (Jr UY n) V D) (step2:=KN t M s.env (Jr X5 n) V D s.d.params O) t.branches (.inl ()) (.inl ()) .inr (fun e=>.inr (.inr e)) (by omega) (fun a b c e=>by
     obtain ⟨q1,q2⟩:=Y3 e
     have hbt:=Kp (t:=t) (b:=b) (by rw [e];simp)
     unfold Xt KN
     rw [q1,q2]
     simp only [cond_true,Option.bind_some]
     rw [UK s.env b.ctor hs.env]
     have hM:=hs.bk b.ctor
     unfold XP
     cases hf:Y2 s.env b.ctor with
     | none =>
      rw [hf] at hM
      have g1:YE M b.ctor=false:=by unfold YE;rw [hM];rfl
      rw [g1]
      exact ⟨9,fun h=>by omega,fun _=>⟨rfl,rfl⟩⟩
     | some en =>
      rw [hf] at hM
      have g1:YE M b.ctor=true:=by unfold YE;rw [hM];rfl
      have g2:Qn M b.ctor=en:=by unfold Qn;rw [hM];rfl
      obtain ⟨i,d,hi,hd⟩:=fsI_some _ _ _ hf
      rw [Nat.zero_add] at hd
      unfold m48f11_k0 m73_k0
      rw [g1,g2,Xv]
      by_cases c4:en.kind=4
      ·have hdec:JC s.env en.decl=some d:=by rw [look_decl hd];exact idx_at hi
       obtain ⟨ct,hct⟩:=look_ctor hd c4
       obtain ⟨r,hr1,hr2⟩:=m88_eq d en.item ct hct (by have:=size_le (List.mem_of_getElem? hi);have:=hs.env;omega)
       have e1:(en.kind != 4)=false:=by rw [c4];rfl
       have e2:(en.kind==4)=true:=by rw [c4];rfl
       have e0:((0:Int) != 0)=false:=rfl
       simp only [Option.elim_some,Option.bind_some,e0,e1,e2,cond_true,cond_false,Sum.elim_inl]
       cases b.absurd with
       | true =>
        simp only [cond_true]
        have e3:m36 b.tree (Tr.mk 0 (Tm.mk 0 0 ([]:List UInt8) ([]:List Lvl) ([]:List Tm)) 0 ([]:List Br))=some (isZT b.tree):=m36_Z b.tree
        rw [e3,UC]
        unfold isZT
        cases (b.tree.kind==0) with
        | false=>exact ⟨3,fun h=>by omega,fun _=>⟨rfl,rfl⟩⟩
        | true =>
         cases (b.tree.var==0) with
         | false=>exact ⟨3,fun h=>by omega,fun _=>⟨rfl,rfl⟩⟩
         | true =>
          cases ((b.tree.branches.length:Int)==0) with
          | false=>exact ⟨3,fun h=>by omega,fun _=>⟨by rw [Bool.and_false];rfl,rfl⟩⟩
          | true =>
           cases XZ b.tree.body with
           | false=>exact ⟨3,fun h=>by omega,fun _=>⟨rfl,rfl⟩⟩
           | true=>exact ⟨0,fun _=>⟨rfl,rfl⟩,fun h=>(h rfl).elim⟩
       | false =>
        simp only [cond_false]
        rw [hdec]
        simp only [Option.bind_some]
        rw [hr1,hr2]
        simp only [Option.bind_some]
        obtain ⟨e',w1,w2,w3⟩:=tree_eq s M O hs n b.tree (J9 (V+r)) (J9 (D+1)) (by omega) (by omega)
        rw [w1]
        refine ⟨e',fun he=>?_,fun he=>?_⟩
        ·rw [w2 he];subst he;exact ⟨rfl,rfl⟩
        ·rw [w3 he];exact ⟨XS he _ _,rfl⟩
      ·have e1:(en.kind != 4)=true:=bne_iff_ne.2 c4
       have e2:(en.kind==4)=false:=by rw [Yf];exact decide_eq_false c4
       have e0:((0:Int) != 0)=false:=rfl
       simp only [Option.elim_some,Option.bind_some,e0,e1,e2,cond_true,cond_false,Sum.elim_inl]
       exact ⟨9,fun h=>by omega,fun _=>⟨rfl,rfl⟩⟩)
     (by unfold Xt;rw [J7];rfl) (by unfold KN;rw [J7];rfl)
    by_cases he:e=0
    ·obtain ⟨e1,e2⟩:=h1 he
     rw [e1]
     refine ⟨0,J,.ok ?_⟩
     show Option.bind (Qp _ QF 0) _=_
     rw [e2];rfl
    ·obtain ⟨e1,e2⟩:=h2 he
     rw [e1]
     refine ⟨e,J,.no he ?_⟩
     show Option.bind (Qp _ QF 0) _=_
     rw [e2];rfl
  ·rw [decide_eq_false k1]
   exact ⟨3,rfl,.no (by omega) rfl⟩
end Go.Proofs.Ytafddfoefeploaa
namespace Go.Proofs.Ytafddfoefeploaa
open Go.RowKit Go.Shelf
def Xg (d:Dcl):Bool :=
 (d.kind==1||d.kind==2||XZ d.value)&&(d.kind==4||(d.funs.length:Int)==0)&&(!(d.kind==4)||(d.name==[]&&XZ d.ty)) &&
 (d.kind==3||(d.fixed==0&&(d.ctors.length:Int)==0&&(d.rcr.params==0&&XZ d.rcr.ty&&(d.rcr.rules.length:Int)==0)))
theorem m44_used (d:Dcl) (h0:0≤d.kind) (h4:d.kind≤4):Un d=cond (Xg d) (Zo d) (some (.inr 3)):=by
 have hk:d.kind=0∨d.kind=1∨d.kind=2∨d.kind=3∨d.kind=4:=by omega
 have e0:Un d=GN (d.kind==1||d.kind==2) d:=by
  unfold Un
  rw [decide_eq_true h0,decide_eq_true h4]
  show Option.bind (cond (d.kind==1) (some true) (some (d.kind==2))) _=_
  cases (d.kind==1) <;> rfl
 rw [e0]
 have e6:∀ b:Bool,G3 d b=cond (d.kind==3||(d.fixed==0&&(d.ctors.length:Int)==0&&b)) (Zo d) (some (.inr 3)):=by
  intro b
  unfold G3
  cases (d.kind==3) <;> cases (d.fixed==0) <;> cases ((d.ctors.length:Int)==0) <;> cases b <;> rfl
 have e7:Xx d=cond ((!(d.kind==4)||(d.name==[]&&XZ d.ty))&&(d.kind==3||(d.fixed==0&&(d.ctors.length:Int)==0&&(d.rcr.params==0&&XZ d.rcr.ty&&(d.rcr.rules.length:Int)==0)))) (Zo d) (some (.inr 3)):=by
  unfold Xx
  rw [UC,UC]
  have e8:∀ o:Unit⊕(Unit⊕Int),o=.inl ()→Sum.elim (fun (b7_:Unit)=>Option.bind (cond (d.rcr.params==0) (Option.bind (some (XZ d.rcr.ty)) fun (b0_:Bool)=>cond b0_ (some ((d.rcr.rules.length:Int)==0)) (some false)) (some false)) (fun (b8_:Bool)=>G3 d b8_)) (fun o=>some o) o=cond (d.kind==3||(d.fixed==0&&(d.ctors.length:Int)==0&&(d.rcr.params==0&&XZ d.rcr.ty&&(d.rcr.rules.length:Int)==0))) (Zo d) (some (.inr 3)):=by
   intro o ho
   subst ho
   rw [← e6]
   show Option.bind (cond (d.rcr.params==0) _ _) _=_
   cases (d.rcr.params==0) <;> cases XZ d.rcr.ty <;> rfl
  cases (d.kind==4) with
  | false=>exact e8 (.inl ()) rfl
  | true =>
   cases (d.name==[]) with
   | false=>rfl
   | true =>
    cases XZ d.ty with
    | false=>rfl
    | true=>exact e8 (.inl ()) rfl
 have e8:Xw d=cond ((d.kind==4||(d.funs.length:Int)==0)&&((!(d.kind==4)||(d.name==[]&&XZ d.ty))&&(d.kind==3||(d.fixed==0&&(d.ctors.length:Int)==0&&(d.rcr.params==0&&XZ d.rcr.ty&&(d.rcr.rules.length:Int)==0))))) (Zo d) (some (.inr 3)):=by
  unfold Xw
  cases h:(d.kind==4||(d.funs.length:Int)==0) with
  | true =>
   rw [Bool.true_and,← e7]
   revert h
   cases (d.kind==4) with
   | true=>intro _;rfl
   | false=>intro h;rw [Bool.false_or] at h;rw [h];rfl
  | false =>
   rw [Bool.or_eq_false_iff] at h
   rw [h.1,h.2];rfl
 unfold GN Xg
 rw [UC,Bool.and_assoc,Bool.and_assoc]
 cases (d.kind==1||d.kind==2) with
 | true=>rw [Bool.true_or,Bool.true_and,← e8];rfl
 | false =>
  rw [Bool.false_or]
  cases XZ d.value with
  | true=>rw [Bool.true_and,← e8];rfl
  | false=>rfl
theorem m50_eq (d:Dcl) (h0:0≤d.kind) (h4:d.kind≤4):m50 d=some (Xg d):=by
 have hk:d.kind=0∨d.kind=1∨d.kind=2∨d.kind=3∨d.kind=4:=by omega
 have e1:∀ K:Bool→Option Bool,Option.bind (cond (d.rcr.params==0) (Option.bind (some (XZ d.rcr.ty)) fun (x3:Bool)=>cond x3 (some ((d.rcr.rules.length:Int)==0)) (some false)) (some false)) K=K (d.rcr.params==0&&XZ d.rcr.ty&&(d.rcr.rules.length:Int)==0):=by
  intro K
  cases (d.rcr.params==0) <;> cases XZ d.rcr.ty <;> rfl
 have e2:∀ (b:Bool) (K:Bool→Option Bool),Option.bind (cond (d.fixed==0) (cond ((d.ctors.length:Int)==0) (some b) (some false)) (some false)) K=K (d.fixed==0&&(d.ctors.length:Int)==0&&b):=by
  intro b K
  cases (d.fixed==0) <;> cases ((d.ctors.length:Int)==0) <;> rfl
 unfold m50
 rw [U9,e1,e2]
 unfold m50_k1 m50_k0 Xg
 rw [U9,U9]
 rcases hk with hk | hk | hk | hk | hk
 all_goals
  rw [hk]
  generalize (d.fixed==0&&(d.ctors.length:Int)==0&&(d.rcr.params==0&&XZ d.rcr.ty&&(d.rcr.rules.length:Int)==0))=w
  generalize ((d.funs.length:Int)==0)=f
  cases XZ d.value <;> cases XZ d.ty <;> cases (d.name==[]) <;> cases w <;> cases f <;> rfl
theorem ty_size (d:Dcl):d.ty.size < d.size:=by unfold Dcl.size;omega
def pisP (d:Dcl):Prop:=d.fixed≤Wg d.ty∧∀ c∈d.ctors,d.fixed≤Wg c.ty
theorem m70_eq (d:Dcl) (h:d.size≤900000000):∃ b,m70 d=some b∧(b=true↔pisP d):=by
 have hc:=Yx d
 have ht:=ty_size d
 obtain ⟨b,h1,h2⟩:=JG (step:=U8 d) d.ctors (fun i (s:Bool)=>(s,i)) (fun a s=>s=true↔(d.fixed≤Wg d.ty∧∀ c∈a,d.fixed≤Wg c.ty)) (fun r=>r=true↔pisP d) (by omega)
  (fun a x b s e hI=>by
   obtain ⟨q1,q2⟩:=Y3 e
   have hx:=KV (d:=d) (c:=x) (by rw [e];simp)
   have hp:=(pis_eq x.ty (by omega)).1
   cases s with
   | false =>
    refine .inr ⟨false,?_,?_⟩
    ·unfold U8;dsimp only;rw [q1];rfl
    ·refine ⟨fun h=>(by cases h),fun h=>?_⟩
     exact hI.2 ⟨h.1,fun c hc=>h.2 c (List.mem_append_left _ hc)⟩
   | true =>
    refine .inr ⟨decide (d.fixed≤Wg x.ty),?_,?_⟩
    ·unfold U8;dsimp only;rw [q1,q2]
     simp only [cond_true,Option.bind_some]
     rw [hp];rfl
    ·have h3:=hI.1 rfl
     rw [decide_eq_true_eq]
     refine ⟨fun h=>⟨h3.1,fun c hc=>?_⟩,fun h=>h.2 x (by simp)⟩
     rcases List.mem_append.1 hc with hc | hc
     ·exact h3.2 c hc
     ·rw [List.mem_singleton.1 hc];exact h)
  (fun s hI=>⟨s,by unfold U8;dsimp only;rw [J7];rfl,hI⟩) (decide (d.fixed≤Wg d.ty)) (by rw [decide_eq_true_eq];exact ⟨fun h=>⟨h,fun c hc=>by cases hc⟩,fun h=>h.1⟩)
 refine ⟨b,?_,h2⟩
 unfold m70
 rw [(pis_eq d.ty (by omega)).1,Option.bind_some]
 have h1':Qp (U8 d) QF (decide (d.fixed≤Wg d.ty),0)=some b:=h1
 rw [h1'];rfl
theorem types_eq (d:Dcl) (h:d.size≤900000000):Qp (Kh d) QF ([d.ty],0)=some (d.ty::d.ctors.map (·.ty)):=by
 have hc:=Yx d
 refine (JG (step:=Kh d) d.ctors (fun i (s:List Tm)=>(s,i)) (fun a s=>s=d.ty::a.map (·.ty)) (fun r=>r=d.ty::d.ctors.map (·.ty)) (by omega)
  (fun a x b s e hI=>by
   obtain ⟨q1,q2⟩:=Y3 e
   have:=Ks e
   refine .inr ⟨s++[x.ty],?_,by rw [hI];simp⟩
   unfold Kh;dsimp only;rw [q1,q2]
   simp only [cond_true,Option.bind_some]
   rw [JM (by rw [hI];simp;omega)])
  (fun s hI=>⟨s,by unfold Kh;dsimp only;rw [J7];rfl,hI⟩) [d.ty] rfl).elim fun r hr=>by rw [← hr.2];exact hr.1
theorem l2_eq (d:Dcl) (l:List Tm) (hl:l.length≤900000000) (h:∀ t∈l,t.size≤900000000):∃ r,Qp (ZN l d) QF 0=some r∧((r=.inl ()∧∀ t∈l,d.fixed≤Wg t)∨(r=.inr (.inr 3)∧¬ ∀ t∈l,d.fixed≤Wg t)):=by
 obtain ⟨r,h1,h2⟩:=loop_bad (β:=Unit⊕(Unit⊕Int)) (step:=ZN l d) l (fun _ t=>¬ d.fixed≤Wg t) (.inr (.inr 3)) (.inl ()) hl (fun a x b e=>by
  obtain ⟨q1,q2⟩:=Y3 e
  obtain ⟨-,r,e1,e2⟩:=pis_eq x (h x (by rw [e];simp))
  unfold ZN
  rw [q1,q2]
  simp only [cond_true,Option.bind_some]
  rw [m64_eq,e1,Option.bind_some,e2,Xv]
  refine ⟨fun hn=>?_,fun hn=>?_⟩
  ·rw [decide_eq_false hn];rfl
  ·rw [decide_eq_true (Decidable.not_not.1 hn)];rfl) (by unfold ZN;rw [J7];rfl)
 refine ⟨r,h1,?_⟩
 rcases h2 with ⟨h2,h3⟩ | ⟨h2,a,x,b,e,h3⟩
 ·refine .inl ⟨h2,fun t ht=>?_⟩
  obtain ⟨a,b,e⟩:=List.append_of_mem ht
  exact Decidable.not_not.1 (h3 a t b e)
 ·exact .inr ⟨h2,fun hh=>h3 (hh x (by rw [e];simp))⟩
def Us (n:Int):Prop:=-9223372036854775808≤n∧n≤9223372036854775807
theorem w64_mod (n:Int) (h:Us n) (p:Int) (h0:0≤p) (h8:p≤8) (k:Int) (k0:0≤k) (k1:k≤1):J9 (n - p)=k↔n=p+k:=by
 obtain ⟨h1,h2⟩:=h
 show IntKind.i64.wrap (n - p)=k↔_
 rw [IntKind.wrap_i64]
 omega
theorem k3_eq (d:Dcl) (h:d.size≤900000000) (hr:Us d.rcr.params) (hp0:0≤d.params) (hp8:d.params≤8):∃ e,m51_k1 d=some e∧Sm2 e (G4 d):=by
 have hc:=Yx d
 obtain ⟨b,h1,h2⟩:=m70_eq d h
 obtain ⟨r,h3,h4⟩:=l2_eq d (d.ty::d.ctors.map (·.ty)) (by simp;omega) (fun t ht=>by
  rcases List.mem_cons.1 ht with rfl | ht
  ·have:=ty_size d;omega
  ·obtain ⟨c,hc,rfl⟩:=List.mem_map.1 ht
   have:=KV hc;omega)
 have hall:(∀ t∈d.ty::d.ctors.map (·.ty),d.fixed≤Wg t)↔pisP d:=by
  unfold pisP
  simp only [List.mem_cons,List.mem_map,forall_eq_or_imp,forall_exists_index,and_imp,forall_apply_eq_imp_iff₂]
 unfold m51_k1 G4
 rw [types_eq d h,Yf]
 by_cases hk:d.kind=3
 ·rw [decide_eq_true hk]
  simp only [cond_true,Option.bind_some]
  rw [h1,h3]
  have e1:∀ K:Bool→Option Int,Option.bind (cond (d.rcr.params != d.params) (cond (d.rcr.params != (J9 (d.params+1))) (some true) (cond ((d.rcr.rules.length:Int) != (d.ctors.length:Int)) (some true) (Option.bind (some b) fun (b0_:Bool)=>some (!b0_)))) (cond ((d.rcr.rules.length:Int) != (d.ctors.length:Int)) (some true) (Option.bind (some b) fun (b1_:Bool)=>some (!b1_)))) K
    = K (!(decide (d.rcr.params=d.params∨d.rcr.params=d.params+1)&&((d.rcr.rules.length:Int)==(d.ctors.length:Int))&&b)):=by
   intro K
   rw [U1 (n:=d.params+1) (by omega) (by omega)]
   show Option.bind (cond (!(d.rcr.params==d.params)) (cond (!(d.rcr.params==d.params+1)) (some true) (cond (!((d.rcr.rules.length:Int)==(d.ctors.length:Int))) (some true) (some (!b)))) (cond (!((d.rcr.rules.length:Int)==(d.ctors.length:Int))) (some true) (some (!b)))) K=_
   rw [Yf,Yf]
   cases ((d.rcr.rules.length:Int)==(d.ctors.length:Int)) <;> by_cases c1:d.rcr.params=d.params
   ·rw [decide_eq_true c1,decide_eq_true (Or.inl c1)];rfl
   ·rw [decide_eq_false c1]
    by_cases c2:d.rcr.params=d.params+1
    ·rw [decide_eq_true c2,decide_eq_true (Or.inr c2)];rfl
    ·rw [decide_eq_false c2,decide_eq_false (by omega)];rfl
   ·rw [decide_eq_true c1,decide_eq_true (Or.inl c1)];rfl
   ·rw [decide_eq_false c1]
    by_cases c2:d.rcr.params=d.params+1
    ·rw [decide_eq_true c2,decide_eq_true (Or.inr c2)];rfl
    ·rw [decide_eq_false c2,decide_eq_false (by omega)];rfl
  rw [e1]
  have e2:∀ K:Unit⊕(Unit⊕Int)→Option (Unit⊕Int),Option.bind (cond ((J9 (d.rcr.params - d.params))==0) (Option.bind (Jy ((d.rcr.rules.length:Int)==(d.ctors.length:Int)) 3) (Sum.elim (fun (b0_:Unit)=>some (.inl ())) (fun (b1_:Unit)=>some (.inr (.inr 3)))))
    (cond ((J9 (d.rcr.params - d.params))==1) (Option.bind (Jy ((d.rcr.rules.length:Int)==(d.ctors.length:Int)) 3) (Sum.elim (fun (b2_:Unit)=>some (.inl ())) (fun (b3_:Unit)=>some (.inr (.inr 3))))) (Option.bind (Jy false 3) (Sum.elim (fun (b4_:Unit)=>some (.inl ())) (fun (b5_:Unit)=>some (.inr (.inr 3))))))) K
    = cond (decide (d.rcr.params=d.params∨d.rcr.params=d.params+1)&&((d.rcr.rules.length:Int)==(d.ctors.length:Int))) (K (.inl ())) (K (.inr (.inr 3))):=by
   intro K
   have g0:=w64_mod d.rcr.params hr d.params hp0 hp8 0 (by omega) (by omega)
   have g1:=w64_mod d.rcr.params hr d.params hp0 hp8 1 (by omega) (by omega)
   rw [Int.add_zero] at g0
   rw [Yf (J9 (d.rcr.params - d.params)) 0,Yf (J9 (d.rcr.params - d.params)) 1]
   by_cases c1:d.rcr.params=d.params
   ·rw [decide_eq_true (g0.2 c1),decide_eq_true (Or.inl c1)]
    cases ((d.rcr.rules.length:Int)==(d.ctors.length:Int)) <;> rfl
   ·rw [decide_eq_false (fun h=>c1 (g0.1 h))]
    by_cases c2:d.rcr.params=d.params+1
    ·rw [decide_eq_true (g1.2 c2),decide_eq_true (Or.inr c2)]
     cases ((d.rcr.rules.length:Int)==(d.ctors.length:Int)) <;> rfl
    ·rw [decide_eq_false (fun h=>c2 (g1.1 h)),decide_eq_false (by omega)];rfl
  rw [e2]
  cases (decide (d.rcr.params=d.params∨d.rcr.params=d.params+1)&&((d.rcr.rules.length:Int)==(d.ctors.length:Int))) with
  | false=>exact ⟨3,rfl,.no (by omega) rfl⟩
  | true =>
   rcases h4 with ⟨rfl,h5⟩ | ⟨rfl,h5⟩
   ·rw [h2.2 (hall.1 h5)];exact ⟨0,rfl,.ok rfl⟩
   ·have:b=false:=by rw [Bool.eq_false_iff];exact fun h=>h5 (hall.2 (h2.1 h))
    rw [this];exact ⟨3,rfl,.no (by omega) rfl⟩
 ·rw [decide_eq_false hk];exact ⟨0,rfl,.ok rfl⟩
theorem k4_eq (d:Dcl) (h:d.size≤900000000) (hr:Us d.rcr.params):∃ e,m51 d=some e∧Sm2 e (Zo d):=by
 have hf:=YY d
 unfold m51 Zo
 by_cases c1:d.params < 0
 ·rw [decide_eq_true c1,decide_eq_false (show ¬ 0≤d.params by omega)];exact ⟨2,rfl,.no (by omega) rfl⟩
 rw [decide_eq_false c1,decide_eq_true (show 0≤d.params by omega)]
 by_cases c2:8 < d.params
 ·rw [decide_eq_true c2,decide_eq_false (show ¬ d.params≤8 by omega)];exact ⟨2,rfl,.no (by omega) rfl⟩
 rw [decide_eq_false c2,decide_eq_true (show d.params≤8 by omega)]
 by_cases c3:d.fixed < 0
 ·rw [decide_eq_true c3,decide_eq_false (show ¬ 0≤d.fixed by omega)];exact ⟨2,rfl,.no (by omega) rfl⟩
 rw [decide_eq_false c3,decide_eq_true (show 0≤d.fixed by omega)]
 show ∃ e,UG false d=some e∧Sm2 e (Xy d)
 unfold UG Xy
 have tail:∃ e,Option.bind (Qp (UF d) QF 0) (Sum.elim (fun (b1_:Unit)=>m51_k1 d) (fun o=>some o))=some e∧Sm2 e (Option.bind (Qp (Ki d) QF 0) (Sum.elim (fun (b9_:Unit)=>G4 d) (fun o=>some o))):=by
  obtain ⟨e,h1,h2⟩:=YJ (β1:=Unit⊕Int) (β2:=Unit⊕(Unit⊕Int)) (step1:=UF d) (step2:=Ki d) d.funs (.inl ()) (.inl ()) .inr (fun e=>.inr (.inr e)) (by omega) (fun a x b e=>by
   obtain ⟨q1,q2⟩:=Y3 e
   unfold UF Ki
   rw [q1,q2]
   simp only [cond_true,Option.bind_some]
   by_cases a1:x.arity < 1
   ·rw [decide_eq_true a1,decide_eq_false (show ¬ 1≤x.arity by omega)];exact ⟨3,fun h=>by omega,fun _=>⟨rfl,rfl⟩⟩
   rw [decide_eq_false a1,decide_eq_true (show 1≤x.arity by omega)]
   by_cases a2:16 < x.arity
   ·rw [decide_eq_true a2,decide_eq_false (show ¬ x.arity≤16 by omega)];exact ⟨3,fun h=>by omega,fun _=>⟨rfl,rfl⟩⟩
   rw [decide_eq_false a2,decide_eq_true (show x.arity≤16 by omega)]
   exact ⟨0,fun _=>⟨J,J⟩,fun h=>(h J).elim⟩)
   (by unfold UF;rw [J7];rfl) (by unfold Ki;rw [J7];rfl)
  by_cases he:e=0
  ·obtain ⟨e1,e2⟩:=h1 he
   rw [e1,e2]
   exact k3_eq d h hr (by omega) (by omega)
  ·obtain ⟨e1,e2⟩:=h2 he
   rw [e1,e2];exact ⟨e,rfl,.no he rfl⟩
 by_cases c4:32 < (d.ctors.length:Int)
 ·rw [decide_eq_true c4,decide_eq_false (show ¬ (d.ctors.length:Int)≤32 by omega)];exact ⟨6,rfl,.no (by omega) rfl⟩
 rw [decide_eq_false c4,decide_eq_true (show (d.ctors.length:Int)≤32 by omega)]
 cases (d.kind==4) with
 | false=>exact tail
 | true =>
  by_cases c5:(d.funs.length:Int) < 1
  ·rw [decide_eq_true c5,decide_eq_false (show ¬ 1≤(d.funs.length:Int) by omega)];exact ⟨6,rfl,.no (by omega) rfl⟩
  rw [decide_eq_false c5,decide_eq_true (show 1≤(d.funs.length:Int) by omega)]
  by_cases c6:8 < (d.funs.length:Int)
  ·rw [decide_eq_true c6,decide_eq_false (show ¬ (d.funs.length:Int)≤8 by omega)];exact ⟨6,rfl,.no (by omega) rfl⟩
  rw [decide_eq_false c6,decide_eq_true (show (d.funs.length:Int)≤8 by omega)]
  exact tail
end Go.Proofs.Ytafddfoefeploaa
namespace Go.Proofs.Ytafddfoefeploaa
open Go.RowKit Go.Shelf
def Dc (d:Dcl) (k:Int) (M M':Qa Bs Ent):Prop:=∀ n,ZZ M' n=(Yi d k n).elim (ZZ M n) some
theorem firstN_snoc {α:Type} (nm:α→Bs) (n:Bs) (x:α):∀ (l:List α) (k:Nat),JF nm n (l++[x]) k=(JF nm n l k).elim (if nm x=n then some (k+l.length,x) else none) some
 | [],k=>by
  rw [List.nil_append,JF,JF]
  split <;> rfl
 | y::l,k=>by
  rw [List.cons_append,JF,JF]
  by_cases h:nm y=n
  ·rw [if_pos h,if_pos h];rfl
  ·rw [if_neg h,if_neg h,firstN_snoc nm n x l (k+1),List.length_cons,show k+1+l.length=k+(l.length+1) from by omega]
theorem firstN_no {α:Type} (nm:α→Bs) (n:Bs) (l:List α) (k:Nat) (h:n∉l.map nm):JF nm n l k=none:=by
 have:=firstN_is nm n l k
 rw [decide_eq_false h] at this
 cases hf:JF nm n l k with
 | none=>rfl
 | some p=>rw [hf] at this;cases this
theorem fold_book {α:Type} {step:Int×(Qa Bs Ent)→Option (LO (Int×(Qa Bs Ent)) (Qa Bs Ent))} (nm:α→Bs) (g:Int→α→Ent) (l:List α) (M:Qa Bs Ent) (hlen:l.length≤900000000) (hnd:(l.map nm).Nodup)
  (hin:∀ (a:List α) (x:α) (b:List α) (s:Qa Bs Ent),l=a++x::b→step ((a.length:Int),s)=some (.next (J9 ((a.length:Int)+1),J2 s (nm x) (g (a.length:Int) x))))
  (hout:∀ s,step ((l.length:Int),s)=some (.done s)):∃ M',Qp step QF (0,M)=some M'∧∀ n,ZZ M' n=(JF nm n l 0).elim (ZZ M n) fun p=>some (g (p.1:Int) p.2):=by
 refine JG (step:=step) l (fun i (s:Qa Bs Ent)=>(i,s)) (fun a s=>∀ n,ZZ s n=(JF nm n a 0).elim (ZZ M n) fun p=>some (g (p.1:Int) p.2)) (fun M'=>∀ n,ZZ M' n=(JF nm n l 0).elim (ZZ M n) fun p=>some (g (p.1:Int) p.2)) hlen
  (fun a x b s e hI=>.inr ⟨_,hin a x b s e,fun n=>?_⟩) (fun s hI=>⟨s,hout s,hI⟩) M (fun n=>rfl)
 rw [KU,firstN_snoc,Nat.zero_add]
 by_cases h:n=nm x
 ·have hno:n∉a.map nm:=by
   rw [e,List.map_append,List.map_cons] at hnd
   intro hm
   exact (List.nodup_append.1 hnd).2.2 n hm (nm x) (List.mem_cons_self ..) h
  rw [if_pos h,firstN_no nm n a 0 hno,if_pos h.symm];rfl
 ·rw [if_neg h,hI n,if_neg (fun h'=>h h'.symm)]
  cases JF nm n a 0 <;> rfl
theorem rec_ne (d:Dcl) (h:d.size≤800000000):d.name.length+4≤1000000000:=by
 have:=name_len d;omega
theorem decl_book (d:Dcl) (env:List Dcl) (M:Qa Bs Ent) (h:d.size≤800000000) (hnd:(J3 d).Nodup):∃ M',Option.bind (cond (d.kind==0) (some (d.kind==0)) (cond (d.kind==1) (some (d.kind==1)) (some (d.kind==2)))) (fun (b1_:Bool)=>GP b1_ d M env)=some M'∧Dc d (env.length:Int) M M':=by
 have hc:=Yx d
 have hf:=YY d
 rw [kinds_eq]
 show ∃ M',GP (decide (d.kind=0∨d.kind=1∨d.kind=2)) d M env=some M'∧_
 unfold GP
 by_cases hk:d.kind=0∨d.kind=1∨d.kind=2
 ·rw [decide_eq_true hk]
  have e1:JC ([0,1,2]:List Int) d.kind=some d.kind:=by rcases hk with e | e | e <;> rw [e] <;> rfl
  rw [cond_true,e1]
  refine ⟨_,J,fun n=>?_⟩
  unfold Yi
  rw [KU,if_pos hk]
  by_cases hn:n=d.name
  ·rw [if_pos hn,if_pos hn.symm];rfl
  ·rw [if_neg hn,if_neg (fun h=>hn h.symm)];rfl
 ·rw [decide_eq_false hk,cond_false,Yf]
  by_cases h3:d.kind=3
  ·rw [decide_eq_true h3,cond_true]
   have hn3:J3 d=(d.name::d.ctors.map (·.name))++[d.name++Ur]:=by unfold J3;rw [if_neg hk,if_pos h3];rfl
   rw [hn3] at hnd
   have hd1:=(List.nodup_append.1 hnd).1
   have hd2:=(List.nodup_cons.1 hd1)
   have hd3:=(List.nodup_append.1 hnd).2.2
   obtain ⟨M',e1,e2⟩:=fold_book (step:=G7 d env) (·.name) (fun i (c:Ctr)=>⟨4,(env.length:Int),i,d.params,c.ty⟩) d.ctors (J2 M d.name (⟨3,(env.length:Int),0,d.params,d.ty⟩:Ent)) (by omega) hd2.2
    (fun a x b s e=>by obtain ⟨q1,q2⟩:=Y3 e;unfold G7;dsimp only;rw [q1,q2];rfl) (fun s=>by unfold G7;dsimp only;rw [J7];rfl)
   show ∃ M',Option.bind (Qp (G7 d env) QF (0,J2 M d.name (⟨3,(env.length:Int),0,d.params,d.ty⟩:Ent))) (fun b3_=>Xz d b3_ env)=some M'∧_
   rw [e1]
   simp only [Option.bind_some]
   unfold Xz
   rw [JM (by have:=rec_ne d h;show d.name.length+4≤_;omega)]
   refine ⟨_,J,fun n=>?_⟩
   rw [KU,e2,KU]
   unfold Yi
   rw [if_neg hk,if_pos h3]
   show (if n=d.name++Ur then _ else _)=_
   by_cases hr:n=d.name++Ur
   ·have hne:¬ d.name=n:=fun h=>hd3 d.name (List.mem_cons_self ..) _ (List.mem_singleton_self _) (by rw [← hr];exact h)
    have hno:n∉d.ctors.map (·.name):=fun hm=>hd3 n (List.mem_cons_of_mem _ hm) _ (List.mem_singleton_self _) hr
    rw [if_pos hr,if_neg hne,firstN_no _ _ _ _ hno]
    simp only
    rw [if_pos hr.symm];rfl
   ·rw [if_neg hr]
    by_cases hn:n=d.name
    ·have hno:n∉d.ctors.map (·.name):=by rw [hn];exact hd2.1
     rw [firstN_no _ _ _ _ hno,if_pos hn,if_pos hn.symm];rfl
    ·rw [if_neg hn,if_neg (fun h=>hn h.symm)]
     cases hf:JF (·.name) n d.ctors 0 with
     | none=>simp only;rw [if_neg (fun h=>hr h.symm)];rfl
     | some p=>rfl
  ·rw [decide_eq_false h3,cond_false,Yf]
   by_cases h4:d.kind=4
   ·rw [decide_eq_true h4,cond_true]
    have hn4:J3 d=d.funs.map (·.name):=by unfold J3;rw [if_neg hk,if_neg h3,if_pos h4]
    rw [hn4] at hnd
    obtain ⟨M',e1,e2⟩:=fold_book (step:=GO d env) (·.name) (fun i (c:Fn)=>⟨6,(env.length:Int),i,d.params,c.ty⟩) d.funs M (by omega) hnd
     (fun a x b s e=>by obtain ⟨q1,q2⟩:=Y3 e;unfold GO;dsimp only;rw [q1,q2];rfl) (fun s=>by unfold GO;dsimp only;rw [J7];rfl)
    rw [e1]
    refine ⟨M',J,fun n=>?_⟩
    rw [e2]
    unfold Yi
    rw [if_neg hk,if_neg h3,if_pos h4]
    cases JF (·.name) n d.funs 0 <;> rfl
   ·rw [decide_eq_false h4]
    refine ⟨M,J,fun n=>?_⟩
    unfold Yi
    rw [if_neg hk,if_neg h3,if_neg h4];rfl
theorem decl_own (d:Dcl) (env:List Dcl) (h:d.size≤800000000) (hnd:(J3 d).Nodup):∃ M',Option.bind (cond (d.kind==0) (some (d.kind==0)) (cond (d.kind==1) (some (d.kind==1)) (some (d.kind==2)))) (fun (v5:Bool)=>m47f10_k3 v5 d env)=some M'∧Dc d (env.length:Int) gmNil M':=decl_book d env gmNil h hnd
theorem decl_next (d:Dcl) (env:List Dcl) (M:Qa Bs Ent) (x:List Dcl) (h:d.size≤800000000) (hnd:(J3 d).Nodup):∃ M',Option.bind (cond (d.kind==0) (some (d.kind==0)) (cond (d.kind==1) (some (d.kind==1)) (some (d.kind==2)))) (fun (v12:Bool)=>UO v12 d ((env.length:Int),M,x))=some M'∧Dc d (env.length:Int) M M':=decl_book d env M h hnd
theorem Ow.nil (d:Dcl) (k:Int):Ow [] d k gmNil:=fun n=>⟨fun h=>(by cases h),by rw [if_neg (by intro h;cases h)];rfl⟩
theorem Ow.snoc {own:List Bs} {d:Dcl} {k:Int} {O Y:Qa Bs Ent} (h:Ow own d k O) (hY:Dc d k gmNil Y) (s:Bs) (hs:s∈J3 d):Ow (own++[s]) d k (J2 O s (⟨(Qn Y s).kind,(Qn Y s).decl,(Qn Y s).item,(Qn Y s).params,((Qn Y s).ty)⟩:Ent)):=by
 intro n
 refine ⟨fun hn=>?_,?_⟩
 ·rcases List.mem_append.1 hn with hn | hn
  ·exact (h n).1 hn
  ·rw [List.mem_singleton.1 hn];exact hs
 ·rw [KU]
  by_cases e:n=s
  ·rw [if_pos e,if_pos (by rw [e];simp),e]
   have hi:=Xa d k s
   rw [decide_eq_true hs] at hi
   have hy:=hY s
   cases hl:Yi d k s with
   | none=>rw [hl] at hi;cases hi
   | some en =>
    rw [hl] at hy
    have:Qn Y s=en:=by unfold Qn;rw [hy];rfl
    rw [this]
  ·rw [if_neg e,(h n).2]
   by_cases hn:n∈own
   ·rw [if_pos hn,if_pos (List.mem_append_left _ hn)]
   ·rw [if_neg hn,if_neg (by rw [List.mem_append,List.mem_singleton];exact fun h=>h.elim hn e)]
theorem Dc.ow {d:Dcl} {k:Int} {Y:Qa Bs Ent} (hY:Dc d k gmNil Y):Ow (J3 d) d k Y:=by
 intro n
 refine ⟨fun h=>h,?_⟩
 rw [hY n]
 by_cases hn:n∈J3 d
 ·rw [if_pos hn]
  have hi:=Xa d k n
  rw [decide_eq_true hn] at hi
  cases hl:Yi d k n with
  | none=>rw [hl] at hi;cases hi
  | some en=>rfl
 ·rw [if_neg hn]
  have hi:=Xa d k n
  rw [decide_eq_false hn] at hi
  cases hl:Yi d k n with
  | none=>rfl
  | some en=>rw [hl] at hi;cases hi
theorem findO_snoc (a:List Dcl) (x:Dcl) (n:Bs):Y2 (a++[x]) n=(Y2 a n).elim (Yi x (a.length:Int) n) some:=by
 unfold Y2
 rw [WR,Nat.zero_add]
 congr 1
 show (Yi x (a.length:Int) n).elim none some=_
 cases Yi x (a.length:Int) n <;> rfl
theorem Bk.next {a:List Dcl} {x:Dcl} {M M':Qa Bs Ent} (h:Bk a M) (hd:Dc x (a.length:Int) M M') (hf:∀ n∈J3 x,Y2 a n=none):Bk (a++[x]) M':=by
 intro n
 rw [hd n,h n,findO_snoc]
 have hi:=Xa x (a.length:Int) n
 by_cases hn:n∈J3 x
 ·rw [hf n hn]
  cases Yi x (a.length:Int) n <;> rfl
 ·rw [decide_eq_false hn] at hi
  cases hl:Yi x (a.length:Int) n with
  | none=>cases Y2 a n <;> rfl
  | some en=>rw [hl] at hi;cases hi
end Go.Proofs.Ytafddfoefeploaa
namespace Go.Proofs.Ytafddfoefeploaa
open Go.RowKit Go.Shelf
theorem WT {d:Dcl} {f:Fn} (h:f∈d.funs):f.ty.size+f.tree.size+f.name.length < d.size:=by
 have h1:=ZI fsz h
 have h2:fsz f=1+f.name.length+f.ty.size+f.tree.size:=rfl
 unfold Dcl.size;omega
theorem names_mem_len {d:Dcl} {n:Bs} (h:n∈J3 d):n.length≤d.size+4:=by
 have hd:=name_len d
 unfold J3 at h
 split at h
 ·rw [List.mem_singleton.1 h];omega
 ·split at h
  ·rcases List.mem_append.1 h with h | h
   ·rcases List.mem_cons.1 h with h | h
    ·rw [h];omega
    ·obtain ⟨c,hc,rfl⟩:=List.mem_map.1 h
     have:=KV hc
     omega
   ·rw [List.mem_singleton.1 h,List.length_append]
    show d.name.length+4≤_
    omega
  ·split at h
   ·obtain ⟨c,hc,rfl⟩:=List.mem_map.1 h
    have:=WT hc
    omega
   ·cases h
theorem take_mid {α:Type} {l a b:List α} (e:l=a++b):l.take a.length=a:=by rw [e];simp
def NmOk (env:List Dcl) (d:Dcl):Prop:=(J3 d).Nodup∧(∀ n∈J3 d,Y2 env n=none)∧∀ n∈J3 d,Xo n=true
theorem names_ok (env:List Dcl) (d:Dcl) (M:Qa Bs Ent) (hM:Bk env M) (he:Yn env≤800000000) (hd:d.size≤800000000) :
  ∃ e:Int,m52 env d=some e∧Sm2 e (D5 d env M)∧(e=0→NmOk env d):=by
 have hnl:=KI d
 unfold m52 D5
 rw [Ue d (by omega),m20_eq d (by omega),Option.bind_some,Option.bind_some]
 obtain ⟨r1,r2,h1,h2,h3⟩:=loop2 (β1:=Unit⊕Int) (β2:=(Qa Bs Bool)⊕(Unit⊕Int)) (step1:=UE (J3 d) env) (step2:=G2 (J3 d) M) (J3 d) (fun i (_:Unit)=>i) (fun i (s:Qa Bs Bool)=>(i,s))
  (fun a _ s=>(∀ n,Qn s n=decide (n∈a))∧a.Nodup∧(∀ n∈a,Y2 env n=none)∧∀ n∈a,Xo n=true) (fun r1 r2=>(r1=.inl ()∧∃ s,r2=.inl s∧NmOk env d)∨∃ e,e ≠ 0∧r1=.inr e∧r2=.inr (.inr e)) (by omega)
  (fun a x b _ s e hI=>by
   obtain ⟨q1,q2⟩:=Y3 e
   have hx:x.length≤900000000:=by have:=names_mem_len (d:=d) (n:=x) (by rw [e];simp);omega
   have hm:=Ks e
   obtain ⟨hs,hnd,hfr,hnk⟩:=hI
   unfold UE G2
   dsimp only
   rw [q1,q2]
   simp only [cond_true,Option.bind_some]
   rw [m71_eq x hx,m65_eq x hx,Option.bind_some,Option.bind_some,Xv]
   cases hnx:Xo x with
   | false=>exact .inl ⟨_,_,rfl,rfl,.inr ⟨29,by omega,rfl,rfl⟩⟩
   | true =>
    have hMx:=hM x
    simp only [Bool.not_true,cond_false,cond_true,Option.bind_some,Sum.elim_inl]
    rw [UK env x he]
    unfold XP
    cases hf:Y2 env x with
    | some en =>
     rw [hf] at hMx
     have g1:YE M x=true:=by unfold YE;rw [hMx];rfl
     rw [g1]
     exact .inl ⟨_,_,rfl,rfl,.inr ⟨8,by omega,rfl,rfl⟩⟩
    | none =>
     rw [hf] at hMx
     have g1:YE M x=false:=by unfold YE;rw [hMx];rfl
     rw [g1,hs x]
     have g2:Jd (cond (decide ((0:Int)≤(a.length:Int))) (Nat.ble ((a.length:Int)).toNat (J3 d).length) false) (Option.bind (DK ((J3 d).take ((a.length:Int)).toNat) x) fun (x13:Bool)=>some x13)=some (decide (x∈a)):=by
      rw [decide_eq_true (show (0:Int)≤(a.length:Int) by omega),cond_true]
      show Jd (Nat.ble a.length (J3 d).length) (Option.bind (DK ((J3 d).take a.length) x) _)=_
      rw [JM (by omega),take_mid e,m33_eq a x (by omega)];rfl
     show (∃ r1 r2,Option.bind (Jd (cond (decide ((0:Int)≤(a.length:Int))) (Nat.ble ((a.length:Int)).toNat (J3 d).length) false) (Option.bind (DK ((J3 d).take ((a.length:Int)).toNat) x) fun (x13:Bool)=>some x13)) _=_∧_)∨(∃ s1' s2',Option.bind (Jd (cond (decide ((0:Int)≤(a.length:Int))) (Nat.ble ((a.length:Int)).toNat (J3 d).length) false) (Option.bind (DK ((J3 d).take ((a.length:Int)).toNat) x) fun (x13:Bool)=>some x13)) _=_∧_)
     rw [g2]
     by_cases hxa:x∈a
     ·rw [decide_eq_true hxa]
      exact .inl ⟨_,_,rfl,rfl,.inr ⟨8,by omega,rfl,rfl⟩⟩
     ·rw [decide_eq_false hxa]
      refine .inr ⟨(),J2 s x true,J,J,fun n=>?_,?_,fun n hn=>?_,fun n hn=>?_⟩
      ·rw [gmVal_set]
       by_cases hn:n=x
       ·rw [if_pos hn,decide_eq_true (by rw [hn];simp)]
       ·rw [if_neg hn,hs n]
        congr 1
        rw [List.mem_append,List.mem_singleton,eq_iff_iff]
        exact ⟨.inl,fun h=>h.resolve_right hn⟩
      ·rw [List.nodup_append]
       refine ⟨hnd,by simp,fun y hy z hz=>?_⟩
       rw [List.mem_singleton.1 hz]
       exact fun h=>hxa (h▸hy)
      ·rcases List.mem_append.1 hn with hn | hn
       ·exact hfr n hn
       ·rw [List.mem_singleton.1 hn];exact hf
      ·rcases List.mem_append.1 hn with hn | hn
       ·exact hnk n hn
       ·rw [List.mem_singleton.1 hn];exact hnx)
  (fun _ s hI=>⟨.inl (),.inl s,by unfold UE;rw [J7];rfl,by unfold G2;dsimp only;rw [J7];rfl,.inl ⟨rfl,s,rfl,hI.2⟩⟩) () gmNil ⟨fun n=>by rw [decide_eq_false (by intro h;cases h)];rfl,List.nodup_nil,(fun n hn=>by cases hn),fun n hn=>by cases hn⟩
 have h2':Qp (G2 (J3 d) M) QF (0,gmNil)=some r2:=h2
 have h1':Qp (UE (J3 d) env) QF 0=some r1:=h1
 rw [h1',h2']
 rcases h3 with ⟨rfl,s,rfl,h4⟩ | ⟨e,h4,rfl,rfl⟩
 ·exact ⟨0,rfl,.ok rfl,fun _=>h4⟩
 ·exact ⟨e,rfl,.no h4 rfl,fun h=>(h4 h).elim⟩
theorem rule_size {d:Dcl} {r:Tm} (h:r∈d.rcr.rules):r.size < d.size:=by
 have:=ZI Tm.size h
 unfold Dcl.size;omega
theorem rty_size (d:Dcl):d.rcr.ty.size < d.size:=by unfold Dcl.size;omega
theorem value_size (d:Dcl):d.value.size < d.size:=by unfold Dcl.size;omega
theorem ind_eq (env:List Dcl) (d:Dcl) (M:Qa Bs Ent) (hM:Bk env M) (he:Yn env≤800000000) (hd:d.size≤800000000) (hnd:(J3 d).Nodup) (hk:d.kind=3) :
  ∃ e:Int,Option.bind (Qp (Wp d env) QF 0) (Sum.elim (fun (b1_:Unit)=>Uc d env) (fun o=>some o))=some e ∧
   (e=0→∃ O,Ud d env M gmNil=some (.inl O))∧(e ≠ 0→∃ O,Ud d env M gmNil=some (.inr (e,O))):=by
 have hc:=Yx d
 have hrl:=rules_len d
 have hn3:J3 d=(d.name::d.ctors.map (·.name))++[d.name++Ur]:=by unfold J3;rw [if_neg (by rw [hk];decide),if_pos hk];rfl
 obtain ⟨Y,hY1,hY2⟩:=decl_own d env hd hnd
 have hO1:Ow [d.name] d (env.length:Int) (J2 gmNil d.name (⟨(Qn Y d.name).kind,(Qn Y d.name).decl,(Qn Y d.name).item,(Qn Y d.name).params,((Qn Y d.name).ty)⟩:Ent)) :=
  (Ow.nil d (env.length:Int)).snoc hY2 d.name (by rw [hn3];simp)
 have hmem:∀ c∈d.ctors,c.name∈J3 d:=fun c hc=>by rw [hn3];exact List.mem_append_left _ (List.mem_cons_of_mem _ (List.mem_map.2 ⟨c,hc,rfl⟩))
 unfold Ud
 rw [hY1]
 simp only [Option.bind_some]
 obtain ⟨e,h1,h2⟩:=YJ (β1:=Unit⊕Int) (β2:=Unit⊕((Qa Bs Ent)⊕(Int×(Qa Bs Ent)))) (step1:=Wp d env) (step2:=KP d env M gmNil Y) d.ctors (.inl ()) (.inl ()) .inr (fun e=>.inr (.inr (e,_))) (by omega) (fun a x b e=>by
  obtain ⟨q1,q2⟩:=Y3 e
  have hx:=KV (d:=d) (c:=x) (by rw [e];simp)
  obtain ⟨e',w1,w2,w3⟩:=Wq ⟨env,[d.name],d⟩ M _ ⟨he,by simp,hd,hM,hO1⟩ x.ty 0 d.params (by omega)
  unfold Wp KP
  rw [q1,q2]
  simp only [cond_true,Option.bind_some]
  rw [w1]
  refine ⟨e',fun he=>?_,fun he=>?_⟩
  ·have w4:=w2 he
   rw [w4];subst he;exact ⟨rfl,rfl⟩
  ·have w4:=w3 he
   rw [w4];exact ⟨XS he _ _,rfl⟩)
  (by unfold Wp;rw [J7];rfl) (by unfold KP;rw [J7];rfl)
 by_cases he1:e ≠ 0
 ·obtain ⟨e1,e2⟩:=h2 he1
  rw [e1,e2]
  exact ⟨e,J,fun h=>(he1 h).elim,fun _=>⟨_,J⟩⟩
 obtain ⟨e1,e2⟩:=h1 (Decidable.not_not.1 he1)
 rw [e1,e2]
 show ∃ e:Int,Uc d env=some e∧(e=0→∃ O,KQ d Y gmNil env M=some (.inl O))∧(e ≠ 0→∃ O,KQ d Y gmNil env M=some (.inr (e,O)))
 obtain ⟨O2,h3,h4⟩:=JG (step:=Kb d Y) d.ctors (fun i (s:Qa Bs Ent)=>(i,s)) (fun a s=>Ow (d.name::a.map (·.name)) d (env.length:Int) s) (fun s=>Ow (d.name::d.ctors.map (·.name)) d (env.length:Int) s) (by omega)
  (fun a x b s e hI=>by
   obtain ⟨q1,q2⟩:=Y3 e
   refine .inr ⟨_,by unfold Kb;dsimp only;rw [q1,q2];rfl,?_⟩
   have:=hI.snoc hY2 x.name (hmem x (by rw [e];simp))
   rw [List.map_append]
   exact this)
  (fun s hI=>⟨s,by unfold Kb;dsimp only;rw [J7];rfl,hI⟩) _ hO1
 have h3':Qp (Kb d Y) QF (0,(J2 gmNil d.name (⟨(Qn Y d.name).kind,(Qn Y d.name).decl,(Qn Y d.name).item,(Qn Y d.name).params,((Qn Y d.name).ty)⟩:Ent)))=some O2:=h3
 unfold KQ
 rw [h3',Option.bind_some]
 unfold m47f10_k8 Uc
 rw [Ue d (by omega),Option.bind_some]
 have hlen:(J3 d).length=d.ctors.length+2:=by rw [hn3];simp
 have hw:J9 (((J3 d).length:Int) - 1)=((d.ctors.length+1:Nat):Int):=by rw [hlen,U1 (by omega) (by omega)];omega
 rw [hw,decide_eq_true (show (0:Int)≤((d.ctors.length+1:Nat):Int) by omega),cond_true]
 show ∃ e:Int,Jd (Nat.ble (d.ctors.length+1) (J3 d).length) (Option.bind (D4 ⟨env,(J3 d).take (d.ctors.length+1),d⟩ d.rcr.ty 0 d.rcr.params) _)=some e∧_
 have htake:(J3 d).take (d.ctors.length+1)=d.name::d.ctors.map (·.name):=by
  rw [hn3]
  have:d.ctors.length+1=(d.name::d.ctors.map (·.name)).length:=by simp
  rw [this,List.take_left']
  rfl
 rw [JM (by omega),htake]
 obtain ⟨e',w1,w2,w3⟩:=Wq ⟨env,d.name::d.ctors.map (·.name),d⟩ M O2 ⟨he,by simp;omega,hd,hM,h4⟩ d.rcr.ty 0 d.rcr.params (by have:=rty_size d;omega)
 rw [w1]
 by_cases he2:e' ≠ 0
 ·have w4:=w3 he2
  rw [w4]
  simp only [Option.bind_some,WY he2,cond_true]
  exact ⟨e',J,fun h=>(he2 h).elim,fun _=>⟨_,J⟩⟩
 have he2':=Decidable.not_not.1 he2
 have w4:=w2 he2'
 subst he2'
 rw [w4]
 simp only [Option.bind_some,Sum.elim_inl]
 rw [JM (by have:=rec_ne d hd;show d.name.length+4≤_;omega)]
 show ∃ e:Int,Option.bind (Qp (Wo d env (J3 d)) QF 0) _=some e∧_
 have hO3:Ow (J3 d) d (env.length:Int) (J2 O2 (d.name++([46,114,101,99]:List UInt8)) (⟨(Qn Y (d.name++([46,114,101,99]:List UInt8))).kind,(Qn Y (d.name++([46,114,101,99]:List UInt8))).decl,(Qn Y (d.name++([46,114,101,99]:List UInt8))).item,(Qn Y (d.name++([46,114,101,99]:List UInt8))).params,((Qn Y (d.name++([46,114,101,99]:List UInt8))).ty)⟩:Ent)):=by
  have:=h4.snoc hY2 (d.name++Ur) (by rw [hn3];simp)
  rw [← hn3] at this
  exact this
 obtain ⟨e,h5,h6⟩:=YJ (β1:=Unit⊕Int) (β2:=Unit⊕((Qa Bs Ent)⊕(Int×(Qa Bs Ent)))) (step1:=Wo d env (J3 d)) (step2:=KO d env M O2 Y) d.rcr.rules (.inl ()) (.inl ()) .inr (fun e=>.inr (.inr (e,_))) (by omega) (fun a x b e=>by
  obtain ⟨q1,q2⟩:=Y3 e
  have hx:=rule_size (d:=d) (r:=x) (by rw [e];simp)
  obtain ⟨e',w1,w2,w3⟩:=Wq ⟨env,J3 d,d⟩ M _ ⟨he,by show (J3 d).length≤_;omega,hd,hM,hO3⟩ x 0 d.rcr.params (by omega)
  unfold Wo KO
  rw [q1,q2]
  simp only [cond_true,Option.bind_some]
  rw [w1]
  refine ⟨e',fun he=>?_,fun he=>?_⟩
  ·have w4:=w2 he
   rw [w4];subst he;exact ⟨rfl,rfl⟩
  ·have w4:=w3 he
   rw [w4];exact ⟨XS he _ _,rfl⟩)
  (by unfold Wo;rw [J7];rfl) (by unfold KO;rw [J7];rfl)
 by_cases he3:e ≠ 0
 ·obtain ⟨e1,e2⟩:=h6 he3
  rw [e1,e2]
  exact ⟨e,J,fun h=>(he3 h).elim,fun _=>⟨_,J⟩⟩
 obtain ⟨e1,e2⟩:=h5 (Decidable.not_not.1 he3)
 rw [e1,e2]
 exact ⟨0,J,fun _=>⟨_,J⟩,fun h=>(h J).elim⟩
end Go.Proofs.Ytafddfoefeploaa
namespace Go.Proofs.Ytafddfoefeploaa
open Go.RowKit Go.Shelf
theorem elim_some {r:Unit⊕Int} {e:Int} (h:(e=0→r=.inl ())∧(e ≠ 0→r=.inr e)):Sum.elim (fun (_:Unit)=>(0:Int)) (fun x=>x) r=e:=by
 by_cases he:e=0
 ·rw [h.1 he];exact he.symm
 ·rw [h.2 he];rfl
theorem tail_nil (env:List Dcl) (d:Dcl) (M O:Qa Bs Ent) (hd:d.size≤800000000) (hnd:(J3 d).Nodup) (hf:d.funs=[]):G8 d O env M=some 0:=by
 obtain ⟨M',h1,-⟩:=decl_book d env O hd hnd
 unfold G8
 rw [h1]
 simp only [Option.bind_some]
 rw [ZD (r:=.inl ()) (by unfold G6;rw [hf];rfl)]
 rfl
theorem k7_nil (env:List Dcl) (d:Dcl) (M:Qa Bs Ent) (hd:d.size≤800000000) (hnd:(J3 d).Nodup) (hf:d.funs=[]) (h3:d.kind ≠ 3):ZQ d env M=some 0:=by
 unfold ZQ
 rw [Yf,decide_eq_false h3]
 simp only [cond_false,Option.bind_some,Sum.elim_inl]
 rw [ZD (r:=.inl ()) (by unfold ZO;rw [hf];rfl)]
 exact tail_nil env d M gmNil hd hnd hf
theorem k7_ind (env:List Dcl) (d:Dcl) (M:Qa Bs Ent) (hM:Bk env M) (he:Yn env≤800000000) (hd:d.size≤800000000) (hnd:(J3 d).Nodup) (hf:d.funs=[]) (h3:d.kind=3) :
  ∃ e:Int,Ka false env d=some e∧ZQ d env M=some e:=by
 obtain ⟨e,h1,h2,h4⟩:=ind_eq env d M hM he hd hnd h3
 unfold Ka ZQ
 rw [Yf,decide_eq_true h3]
 simp only [cond_true,cond_false]
 rw [h1]
 by_cases he0:e=0
 ·obtain ⟨O,h5⟩:=h2 he0
  rw [h5]
  simp only [Option.bind_some,Sum.elim_inl]
  rw [ZD (r:=.inl ()) (by unfold ZO;rw [hf];rfl)]
  exact ⟨e,rfl,by rw [he0];exact tail_nil env d M O hd hnd hf⟩
 ·obtain ⟨O,h5⟩:=h4 he0
  rw [h5]
  exact ⟨e,J,J⟩
theorem k7_fam (env:List Dcl) (d:Dcl) (M:Qa Bs Ent) (hM:Bk env M) (he:Yn env≤800000000) (hd:d.size≤800000000) (hnd:(J3 d).Nodup) (h4:d.kind=4) :
  ∃ e:Int,Ka false env d=some e∧ZQ d env M=some e:=by
 have hfl:=YY d
 have hnl:=KI d
 have e3:decide (d.kind=3)=false:=decide_eq_false (by rw [h4];decide)
 have e4:decide (d.kind=4)=true:=decide_eq_true h4
 unfold Ka ZQ
 rw [Yf,e3,Yf,e4]
 simp only [cond_true,cond_false,Option.bind_some,Sum.elim_inl]
 obtain ⟨e,h1,h2⟩:=YJ (β1:=Unit⊕Int) (β2:=Unit⊕Int) (step1:=Ub d env) (step2:=ZO d env M gmNil) d.funs (.inl ()) (.inl ()) .inr .inr (by omega) (fun a x b e=>by
  obtain ⟨q1,q2⟩:=Y3 e
  have hx:=WT (d:=d) (f:=x) (by rw [e];simp)
  obtain ⟨e',w1,w2,w3⟩:=Wq ⟨env,[],d⟩ M gmNil ⟨he,by simp,hd,hM,Ow.nil _ _⟩ x.ty 0 d.params (by omega)
  unfold Ub ZO
  rw [q1,q2]
  simp only [cond_true,Option.bind_some]
  rw [w1]
  refine ⟨e',fun he=>?_,fun he=>?_⟩
  ·have w4:=w2 he
   rw [w4];subst he;exact ⟨rfl,rfl⟩
  ·have w4:=w3 he
   rw [w4];exact ⟨XS he _ _,rfl⟩)
  (by unfold Ub;rw [J7];rfl) (by unfold ZO;rw [J7];rfl)
 by_cases he1:e ≠ 0
 ·obtain ⟨e1,e2⟩:=h2 he1
  rw [e1,e2];exact ⟨e,rfl,rfl⟩
 obtain ⟨e1,e2⟩:=h1 (Decidable.not_not.1 he1)
 rw [e1,e2]
 simp only [Option.bind_some,Sum.elim_inl]
 rw [Ue d (by omega),Option.bind_some]
 obtain ⟨O,h3,hO⟩:=decl_book d env gmNil hd hnd
 unfold G8
 rw [h3]
 simp only [Option.bind_some]
 obtain ⟨e,h5,h6⟩:=YJ (β1:=Unit⊕Int) (β2:=Unit⊕Int) (step1:=Wn d env (J3 d)) (step2:=G6 d env M O) d.funs (.inl ()) (.inl ()) .inr .inr (by omega) (fun a x b e=>by
  obtain ⟨q1,q2⟩:=Y3 e
  have hx:=WT (d:=d) (f:=x) (by rw [e];simp)
  obtain ⟨e',w1,w2,w3⟩:=tree_eq ⟨env,J3 d,d⟩ M O ⟨he,by show (J3 d).length≤_;omega,hd,hM,hO.ow⟩ QF x.tree x.arity 0 (by unfold QF;omega) (by omega)
  have w1':m73 (⟨env,J3 d,d⟩:Rsc) x.tree x.arity 0=some e':=w1
  unfold Wn G6
  rw [q1,q2]
  simp only [cond_true,Option.bind_some]
  rw [w1']
  refine ⟨e',fun he=>?_,fun he=>?_⟩
  ·have w4:m48f11 x.tree x.arity 0 d.params env M O=some (.inl ()):=w2 he
   rw [w4];subst he;exact ⟨rfl,rfl⟩
  ·have w4:m48f11 x.tree x.arity 0 d.params env M O=some (.inr e'):=w3 he
   rw [w4];exact ⟨XS he _ _,rfl⟩)
  (by unfold Wn;rw [J7];rfl) (by unfold G6;rw [J7];rfl)
 by_cases he2:e=0
 ·obtain ⟨e1,e2⟩:=h5 he2
  rw [e1,e2];exact ⟨0,rfl,rfl⟩
 ·obtain ⟨e1,e2⟩:=h6 he2
  rw [e1,e2];exact ⟨e,rfl,rfl⟩
theorem used_funs {d:Dcl} (h:Xg d=true) (h4:d.kind ≠ 4):d.funs=[]:=by
 unfold Xg at h
 rw [Bool.and_eq_true,Bool.and_eq_true,Bool.and_eq_true] at h
 have h1:=h.1.1.2
 rw [Yf,decide_eq_false h4,Bool.false_or] at h1
 have h2:(d.funs.length:Int)=0:=eq_of_beq h1
 exact List.length_eq_zero_iff.1 (by omega)
noncomputable def bodyP (d:Dcl) (env:List Dcl) (M:Qa Bs Ent):Option Int :=
 Option.bind (cond (d.kind != 4) (Option.bind (Gl d.ty 0 d.params env M gmNil) (Sum.elim (fun (x10:Unit)=>some (.inl ())) (fun (x11:Int)=>some (.inr x11)))) (some (.inl ())))
  (Sum.elim (fun (v7:Unit)=>Option.bind (cond (d.kind==1) (some true) (some (d.kind==2))) (fun (v8:Bool)=>ZP v8 d env M)) (fun o=>some o))
theorem body_eq (env:List Dcl) (d:Dcl) (M:Qa Bs Ent) (hM:Bk env M) (he:Yn env≤800000000) (hd:d.size≤800000000) (hnd:(J3 d).Nodup) (h0:0≤d.kind) (h4:d.kind≤4) (hu:Xg d=true) :
  ∃ e:Int,m53 env d=some e∧bodyP d env M=some e:=by
 have hS:Sok ⟨env,[],d⟩ M gmNil:=⟨he,by simp,hd,hM,Ow.nil _ _⟩
 have hty:=ty_size d
 have hva:=value_size d
 have rest:∃ e:Int,Option.bind (cond (d.kind==1) (some (d.kind==1)) (some (d.kind==2))) (fun (v4:Bool)=>Ka v4 env d)=some e∧Option.bind (cond (d.kind==1) (some true) (some (d.kind==2))) (fun (v8:Bool)=>ZP v8 d env M)=some e:=by
  have e1:(cond (d.kind==1) (some (d.kind==1)) (some (d.kind==2)))=some (decide (d.kind=1∨d.kind=2)):=by
   rw [Yf,Yf]
   by_cases c1:d.kind=1
   ·rw [decide_eq_true c1,decide_eq_true (Or.inl c1)];rfl
   ·rw [decide_eq_false c1]
    show some (decide (d.kind=2))=_
    congr 2
    rw [eq_iff_iff]
    exact ⟨.inr,fun h=>h.resolve_left c1⟩
  have e2:(cond (d.kind==1) (some true) (some (d.kind==2)))=some (decide (d.kind=1∨d.kind=2)):=by
   rw [← e1]
   cases h:(d.kind==1) <;> rfl
  rw [e1,e2]
  show ∃ e:Int,Ka (decide (d.kind=1∨d.kind=2)) env d=some e∧ZP (decide (d.kind=1∨d.kind=2)) d env M=some e
  by_cases c:d.kind=1∨d.kind=2
  ·rw [decide_eq_true c]
   have hf:=used_funs hu (by omega)
   obtain ⟨e,w1,w2,w3⟩:=Wq ⟨env,[],d⟩ M gmNil hS d.value 0 d.params (by omega)
   unfold Ka ZP
   simp only [cond_true]
   rw [w1]
   by_cases he0:e=0
   ·have w4:=w2 he0
    rw [w4]
    simp only [Option.bind_some,Sum.elim_inl]
    rw [k7_nil env d M hd hnd hf (by omega)]
    exact ⟨e,rfl,by rw [he0]⟩
   ·have w4:=w3 he0
    rw [w4];exact ⟨e,rfl,rfl⟩
  ·rw [decide_eq_false c]
   unfold ZP
   simp only [cond_false,Option.bind_some,Sum.elim_inl]
   by_cases c3:d.kind=3
   ·exact k7_ind env d M hM he hd hnd (used_funs hu (by omega)) c3
   ·by_cases c4:d.kind=4
    ·exact k7_fam env d M hM he hd hnd c4
    ·rw [k7_nil env d M hd hnd (used_funs hu c4) c3]
     unfold Ka
     rw [Yf,decide_eq_false c3,Yf,decide_eq_false c4]
     exact ⟨0,J,J⟩
 unfold m53 bodyP
 by_cases c4:d.kind=4
 ·rw [show (d.kind != 4)=false from by rw [c4];rfl]
  exact rest
 ·rw [show (d.kind != 4)=true from bne_iff_ne.2 c4]
  simp only [cond_true]
  obtain ⟨e,w1,w2,w3⟩:=Wq ⟨env,[],d⟩ M gmNil hS d.ty 0 d.params (by omega)
  rw [w1]
  by_cases he0:e=0
  ·have w4:=w2 he0
   rw [w4];subst he0;exact rest
  ·have w4:=w3 he0
   rw [w4]
   simp only [Option.bind_some,WY he0,cond_true]
   exact ⟨e,J,J⟩
theorem dcl_eq (env:List Dcl) (d:Dcl) (M:Qa Bs Ent) (hM:Bk env M) (he:Yn env≤800000000) (hd:d.size≤800000000) (hr:Us d.rcr.params) :
  ∃ e:Int,DL env d=some e∧WN d env M=some e∧(e=0→NmOk env d):=by
 unfold DL
 by_cases c1:d.kind < 0
 ·have:WN d env M=some 1:=by unfold WN Un;rw [decide_eq_false (show ¬ 0≤d.kind by omega)];rfl
  rw [decide_eq_true c1,this]
  exact ⟨1,rfl,rfl,fun h=>by omega⟩
 rw [decide_eq_false c1]
 by_cases c2:4 < d.kind
 ·have:WN d env M=some 1:=by unfold WN Un;rw [decide_eq_true (show 0≤d.kind by omega),decide_eq_false (show ¬ d.kind≤4 by omega)];rfl
  rw [decide_eq_true c2,this]
  exact ⟨1,rfl,rfl,fun h=>by omega⟩
 rw [decide_eq_false c2]
 show ∃ e:Int,UJ false d env=some e∧_
 unfold UJ WN
 rw [m44_used d (by omega) (by omega),m50_eq d (by omega) (by omega)]
 cases hu:Xg d with
 | false=>exact ⟨3,rfl,rfl,fun h=>by omega⟩
 | true =>
  simp only [cond_false,cond_true,Option.bind_some,Bool.not_true]
  obtain ⟨e,h1,h2,h3⟩:=k4_eq d (by omega) hr
  rw [h1]
  by_cases he0:e ≠ 0
  ·rw [h3 he0]
   simp only [Option.bind_some,WY he0,cond_true]
   exact ⟨e,J,J,fun h=>(he0 h).elim⟩
  have he0':=Decidable.not_not.1 he0
  rw [h2 he0']
  subst he0'
  obtain ⟨e,h4,⟨h5,h6⟩,h7⟩:=names_ok env d M hM he hd
  show ∃ e:Int,Option.bind (m52 env d) _=some e∧Option.bind (D5 d env M) _=some e∧_
  rw [h4]
  by_cases he1:e ≠ 0
  ·rw [h6 he1]
   simp only [Option.bind_some,WY he1,cond_true]
   exact ⟨e,J,J,fun h=>(he1 h).elim⟩
  have he1':=Decidable.not_not.1 he1
  rw [h5 he1']
  subst he1'
  have h8:=h7 rfl
  obtain ⟨e,h10,h11⟩:=body_eq env d M hM he hd h8.1 (by omega) (by omega) hu
  show ∃ e:Int,Option.bind (m53 env d) _=some e∧bodyP d env M=some e∧_
  rw [h10,h11]
  exact ⟨e,J,J,fun _=>h8⟩
theorem envSz_app (a b:List Dcl):Yn (a++b)=Yn a+Yn b:=by unfold Yn;rw [List.map_append,List.sum_append]
def OkD (a:List Dcl) (x:Dcl):Prop:=DL a x=some 0∧NmOk a x
def Good (l:List Dcl):Prop:=∀ a x b,l=a++x::b→OkD a x
theorem snoc_split {α:Type} {a a' b':List α} {x y:α} (h:a++[x]=a'++y::b'):(a'=a∧y=x)∨∃ c,a=a'++y::c:=by
 rcases List.append_eq_append_iff.1 h with ⟨c,h1,h2⟩ | ⟨c,h1,h2⟩
 ·cases c with
  | nil =>
   rw [List.nil_append] at h2
   cases h2
   rw [List.append_nil] at h1
   exact .inl ⟨h1,J⟩
  | cons z c =>
   exfalso
   have:=congrArg List.length h2
   simp at this
 ·cases c with
  | nil =>
   rw [List.nil_append] at h2
   cases h2
   rw [List.append_nil] at h1
   exact .inl ⟨h1.symm,J⟩
  | cons z c =>
   rw [List.cons_append] at h2
   cases h2
   exact .inr ⟨c,h1⟩
theorem Good.nil:Good []:=fun a x b h=>by cases a <;> cases h
theorem Good.snoc {a:List Dcl} {x:Dcl} (h:Good a) (hx:OkD a x):Good (a++[x]):=fun a' y b' e=>by
 rcases snoc_split e with ⟨rfl,rfl⟩ | ⟨c,e⟩
 ·exact hx
 ·exact h a' y c e
theorem check_is (env:List Dcl) (he:Yn env≤800000000) (hr:∀ d∈env,Us d.rcr.params):∃ r,m11 env=some r∧m12 env=some r ∧
  (env.length≤1000→(r=(0,0)∧Good env)∨∃ a x b e,env=a++x::b∧Good a∧DL a x=some e∧e ≠ 0∧r=((a.length:Int),e)):=by
 have hl:=WV env
 unfold m11 m12
 by_cases hc:1000 < (env.length:Int)
 ·rw [decide_eq_true hc];exact ⟨_,rfl,rfl,fun h=>by omega⟩
 ·rw [decide_eq_false hc]
  simp only [cond_false]
  obtain ⟨r1,r2,h1,h2,h3⟩:=loop2 (β1:=Unit⊕(Int×Int)) (β2:=((Qa Bs Ent)×(List Dcl))⊕(Int×Int)) (step1:=UN env) (step2:=WA env) env (fun i (_:Unit)=>i) (fun i (s:(Qa Bs Ent)×(List Dcl))=>(i,s.1,s.2))
   (fun a _ s=>Bk a s.1∧Good a) (fun r1 r2=>(r1=.inl ()∧(∃ s,r2=.inl s)∧Good env)∨∃ a x b e,env=a++x::b∧Good a∧DL a x=some e∧e ≠ 0∧r1=.inr ((a.length:Int),e)∧r2=.inr ((a.length:Int),e)) (by omega)
   (fun a x b _ s e hI=>by
    obtain ⟨q1,q2⟩:=Y3 e
    have hm:=Ks e
    have hsz:Yn a+x.size≤800000000:=by
     rw [e,envSz_app] at he
     have:Yn (x::b)=x.size+Yn b:=rfl
     omega
    obtain ⟨ec,w1,w2,w3⟩:=dcl_eq a x s.1 hI.1 (by omega) (by omega) (hr x (by rw [e];simp))
    have g1:∀ {α:Type} (o:Option α),Jd (cond (decide ((0:Int)≤(a.length:Int))) (Nat.ble ((a.length:Int)).toNat env.length) false) o=o:=fun o=>by
     rw [decide_eq_true (show (0:Int)≤(a.length:Int) by omega),cond_true]
     show Jd (Nat.ble a.length env.length) o=o
     rw [JM (by omega)]
    have g2:env.take ((a.length:Int)).toNat=a:=take_mid e
    unfold UN WA
    dsimp only
    rw [q1,q2,g2]
    simp only [cond_true,Option.bind_some]
    rw [g1,g1,w1,w2]
    by_cases he0:ec=0
    ·have hok:=w3 he0
     obtain ⟨M',n1,n2⟩:=decl_next x a s.1 s.2 (by omega) hok.1
     subst he0
     simp only [Option.bind_some]
     refine .inr ⟨(),(M',a),J,?_,hI.1.next n2 hok.2.1,hI.2.snoc ⟨w1,hok⟩⟩
     show Option.bind (Option.bind (cond (x.kind==0) (some (x.kind==0)) (cond (x.kind==1) (some (x.kind==1)) (some (x.kind==2)))) (fun (v12:Bool)=>UO v12 x ((a.length:Int),s.1,s.2))) _=_
     rw [n1];rfl
    ·simp only [Option.bind_some,WY he0,cond_true]
     exact .inl ⟨_,_,J,J,.inr ⟨a,x,b,ec,e,hI.2,w1,he0,J,J⟩⟩)
   (fun _ s hI=>⟨.inl (),.inl s,by unfold UN;rw [J7];rfl,by unfold WA;dsimp only;rw [J7];rfl,.inl ⟨rfl,⟨s,rfl⟩,hI.2⟩⟩) () (gmNil,[]) ⟨fun n=>rfl,Good.nil⟩
  have h1':Qp (UN env) QF 0=some r1:=h1
  have h2':Qp (WA env) QF (0,gmNil,([]:List Dcl))=some r2:=h2
  rw [h1',h2']
  rcases h3 with ⟨rfl,⟨s,rfl⟩,h3⟩ | ⟨a,x,b,e,h4,h5,h6,h7,rfl,rfl⟩
  ·exact ⟨_,rfl,rfl,fun _=>.inl ⟨rfl,h3⟩⟩
  ·exact ⟨_,rfl,rfl,fun _=>.inr ⟨a,x,b,e,h4,h5,h6,h7,rfl⟩⟩
end Go.Proofs.Ytafddfoefeploaa
namespace Go.Proofs.Ytafddfoefeploaa
open Go.RowKit Go.Shelf
theorem loop_cases {α β:Type} {step:Int→Option (LO Int β)} (l:List α) (r z:β) (hlen:l.length≤900000000)
  (hnext:∀ (a:List α) (x:α) (b:List α),l=a++x::b→∀ s,step (a.length:Int)=some (.next s)→s=J9 ((a.length:Int)+1)) (hout:step (l.length:Int)=some (.done z)) (h:Qp step QF 0=some r) :
  (r=z∧∀ (a:List α) (x:α) (b:List α),l=a++x::b→step (a.length:Int)=some (.next (J9 ((a.length:Int)+1))))∨∃ a x b,l=a++x::b∧step (a.length:Int)=some (.done r):=by
 have key:∀ (b a:List α) (n:Nat),l=a++b→b.length < n→Qp step n (a.length:Int)=some r →
   (r=z∧∀ (a':List α) (x:α) (b':List α),b=a'++x::b'→step ((a++a').length:Int)=some (.next (J9 (((a++a').length:Int)+1))))∨∃ a x b,l=a++x::b∧step (a.length:Int)=some (.done r):=by
  intro b
  induction b with
  | nil =>
   intro a n hl hn hr
   rw [List.append_nil] at hl
   subst hl
   cases n with
   | zero=>omega
   | succ n =>
    simp only [Qp,hout] at hr
    cases hr
    exact .inl ⟨rfl,fun a' x b' e=>by cases a' <;> cases e⟩
  | cons x b ih =>
   intro a n hl hn hr
   cases n with
   | zero=>omega
   | succ n =>
    cases hs:step (a.length:Int) with
    | none=>simp only [Qp,hs] at hr;cases hr
    | some o =>
     cases o with
     | done q =>
      simp only [Qp,hs] at hr
      cases hr
      exact .inr ⟨a,x,b,hl,hs⟩
     | next s =>
      have hal:a.length≤900000000:=by rw [hl,List.length_append] at hlen;omega
      have hs2:=hnext a x b hl s hs
      simp only [Qp,hs] at hr
      rw [hs2,U0 (by omega)] at hr
      have hlen2:(a++[x]).length=a.length+1:=by rw [List.length_append];rfl
      rcases ih (a++[x]) n (by rw [hl,List.append_assoc];rfl) (by simp only [List.length_cons] at hn;omega) (by rw [hlen2];exact hr) with ⟨h1,h2⟩ | h1
      ·refine .inl ⟨h1,fun a' y b' e=>?_⟩
       cases a' with
       | nil=>rw [List.append_nil,hs,hs2]
       | cons y' a' =>
        rw [List.cons_append] at e
        obtain ⟨rfl,e2⟩:=List.cons.inj e
        have:=h2 a' y b' e2
        rw [List.append_assoc] at this
        exact this
      ·exact .inr h1
 exact key l [] QF rfl (by unfold QF;omega) h
theorem GS {α:Type} {step:Int→Option (LO Int (Unit⊕Int))} (l:List α) (c:α→Option Int) (K:Option Int) (hlen:l.length≤900000000)
  (hin:∀ (a:List α) (x:α) (b:List α),l=a++x::b→step (a.length:Int)=Option.bind (c x) fun v=>cond (v != 0) (some (.done (.inr v))) (some (.next (J9 ((a.length:Int)+1)))))
  (hout:step (l.length:Int)=some (.done (.inl ()))) (h:Option.bind (Qp step QF 0) (Sum.elim (fun (_:Unit)=>K) (fun o=>some o))=some 0):(∀ x∈l,c x=some 0)∧K=some 0:=by
 obtain ⟨r,h1,h2⟩:=ZS h
 have hv:∀ (c:Option Int) (y:LO Int (Unit⊕Int)) (k:Int),(Option.bind c fun v=>cond (v != 0) (some (.done (.inr v))) (some (.next k)))=some y→(c=some 0∧y=.next k)∨∃ v,v ≠ 0∧y=.done (.inr v):=by
  intro c y k hc
  obtain ⟨v,h3,h4⟩:=ZS hc
  by_cases hv:v=0
  ·subst hv
   have h4':some (LO.next (β:=Unit⊕Int) k)=some y:=h4
   cases h4'
   exact .inl ⟨h3,J⟩
  ·rw [WY hv] at h4
   have h4':some (LO.done (σ:=Int) (Sum.inr (α:=Unit) v))=some y:=h4
   cases h4'
   exact .inr ⟨v,hv,J⟩
 rcases loop_cases l r (.inl ()) hlen (fun a x b e s hs=>by
   rw [hin a x b e] at hs
   rcases hv _ _ _ hs with ⟨-,h3⟩ | ⟨v,-,h3⟩
   ·cases h3;rfl
   ·cases h3) hout h1 with ⟨rfl,h3⟩ | ⟨a,x,b,e,h3⟩
 ·refine ⟨fun x hx=>?_,h2⟩
  obtain ⟨a,b,e⟩:=List.append_of_mem hx
  have h4:=h3 a x b e
  rw [hin a x b e] at h4
  rcases hv _ _ _ h4 with ⟨h5,-⟩ | ⟨v,-,h5⟩
  ·exact h5
  ·cases h5
 ·rw [hin a x b e] at h3
  rcases hv _ _ _ h3 with ⟨-,h5⟩ | ⟨v,h4,h5⟩
  ·cases h5
  ·cases h5
   have h2':some v=some (0:Int):=h2
   cases h2'
   exact (h4 J).elim
theorem X0 {c:Option Int} {K:Option Int} (h:(Option.bind c fun v=>cond (v != 0) (some v) K)=some 0):c=some 0∧K=some 0:=by
 obtain ⟨v,h1,h2⟩:=ZS h
 by_cases hv:v=0
 ·subst hv;exact ⟨h1,h2⟩
 ·rw [WY hv] at h2
  cases h2
  exact (hv J).elim
theorem Wh {e:Int} (h:some e=some (0:Int)) (he:e ≠ 0):False:=by cases h;exact he rfl
theorem guard_zero {b:Bool} {x:Option Int} (h:Jd b x=some 0):x=some 0:=by
 cases b with
 | true=>exact h
 | false=>cases h
theorem m87_zero (s:Rsc) (he:Yn s.env≤800000000) (ho:s.own.length≤900000000):∀ (n:Nat) (t:Tm),t.size≤900000000→Jr UX n (s,t)=some 0→∀ m∈t.cn,m∈s.own∨(Y2 s.env m).isSome=true
 | 0,t,_,h=>by cases h
 | n+1,t,hb,h=>by
  have hl:=Gc t
  have h':DC (Jr UX n) s t=some 0:=h
  have kids:(Option.bind (Qp (Kt t (Jr UX n) s) QF 0) (Sum.elim (fun (o8:Unit)=>some 0) (fun o=>some o))=some 0)→∀ m∈(t.kids.map Tm.cn).flatten,m∈s.own∨(Y2 s.env m).isSome=true:=by
   intro hk m hm
   obtain ⟨h1,-⟩:=GS t.kids (fun x=>Jr UX n (s,x)) (some 0) (by omega) (fun a x b e=>by
    obtain ⟨q1,q2⟩:=Y3 e
    unfold Kt
    rw [q1,q2];rfl) (by unfold Kt;rw [J7];rfl) hk
   obtain ⟨l,hl1,hl2⟩:=List.mem_flatten.1 hm
   obtain ⟨x,hx,rfl⟩:=List.mem_map.1 hl1
   exact m87_zero s he ho n x (by have:=Yv hx;omega) (h1 x hx) m hl2
  intro m hm
  rw [t.cn_eq] at hm
  unfold DC at h'
  rw [Yf] at h'
  by_cases hk:t.kind=3
  ·rw [if_pos hk] at hm
   rw [decide_eq_true hk,cond_true,UK s.env t.name he,Option.bind_some] at h'
   unfold XP at h'
   cases hf:Y2 s.env t.name with
   | some en =>
    rw [hf] at h'
    have h2:cond (!((t.levels.length:Int)==en.params)) (some 15) (Option.bind (Qp (Kt t (Jr UX n) s) QF 0) (Sum.elim (fun (o8:Unit)=>some 0) (fun o=>some o)))=some 0:=h'
    cases hp:((t.levels.length:Int)==en.params) with
    | false=>rw [hp] at h2;exact (Wh h2 (by omega)).elim
    | true =>
     rw [hp] at h2
     rcases List.mem_append.1 hm with hm | hm
     ·rw [List.mem_singleton.1 hm,hf];exact .inr rfl
     ·exact kids h2 m hm
   | none =>
    rw [hf] at h'
    have h2:Option.bind (DK s.own t.name) (fun (x4:Bool)=>cond (!x4) (some 9) (Option.bind (DZ s.d (s.env.length:Int) t.name) fun (x6:Ent)=>cond ((t.levels.length:Int) != x6.params) (some 15) (Option.bind (Qp (Kt t (Jr UX n) s) QF 0) (Sum.elim (fun (o8:Unit)=>some 0) (fun o=>some o)))))=some 0:=h'
    rw [m33_eq s.own t.name ho,Option.bind_some] at h2
    by_cases hin:t.name∈s.own
    ·rw [decide_eq_true hin] at h2
     obtain ⟨en,h3,h4⟩:=ZS (show Option.bind (DZ s.d (s.env.length:Int) t.name) _=_ from h2)
     cases hp:((t.levels.length:Int)==en.params) with
     | false =>
      rw [show ((t.levels.length:Int) != en.params)=true from by show (!((t.levels.length:Int)==en.params))=_;rw [hp];rfl] at h4
      exact (Wh h4 (by omega)).elim
     | true =>
      rw [show ((t.levels.length:Int) != en.params)=false from by show (!((t.levels.length:Int)==en.params))=_;rw [hp];rfl] at h4
      rcases List.mem_append.1 hm with hm | hm
      ·rw [List.mem_singleton.1 hm];exact .inl hin
      ·exact kids h4 m hm
    ·rw [decide_eq_false hin] at h2
     exact (Wh h2 (by omega)).elim
  ·rw [if_neg hk] at hm
   rw [decide_eq_false hk] at h'
   exact kids h' m hm
theorem m72_zero (s:Rsc) (he:Yn s.env≤800000000) (ho:s.own.length≤900000000) (t:Tm) (V P:Int) (hb:t.size≤900000000) (h:D4 s t V P=some 0):∀ m∈t.cn,m∈s.own∨(Y2 s.env m).isSome=true:=by
 unfold D4 at h
 obtain ⟨-,h1⟩:=X0 h
 obtain ⟨v,h2,h3⟩:=ZS h1
 cases h3
 exact m87_zero s he ho QF t hb h2
theorem consts_mem (t:Tm) (m:Bs):m∈YK t↔m∈t.cn:=by
 unfold YK
 rw [addL_mem]
 simp
theorem m73_zero (s:Rsc) (he:Yn s.env≤800000000) (ho:s.own.length≤900000000):∀ (n:Nat) (t:Tr) (V D:Int),t.size≤900000000→Jr UY n (s,t,V,D)=some 0→∀ m∈t.cn,m∈s.own∨(Y2 s.env m).isSome=true
 | 0,t,_,_,_,h=>by cases h
 | n+1,t,V,D,hb,h=>by
  have hbody:=bodysz t
  have hl:=branches_len t
  have h':DE (Jr UY n) s t V D=some 0:=h
  intro m hm
  rw [t.cn_eq] at hm
  unfold DE at h'
  cases hD:decide (200≤D) with
  | true=>rw [hD] at h';exact (Wh h' (by omega)).elim
  | false =>
  rw [hD,cond_false,Yf] at h'
  by_cases k0:t.kind=0
  ·rw [if_pos k0] at hm
   rw [decide_eq_true k0,cond_true] at h'
   obtain ⟨v,h1,h2⟩:=ZS h'
   cases v with
   | true=>exact (Wh h2 (by omega)).elim
   | false =>
    obtain ⟨v,h3,h4⟩:=ZS (show Option.bind (D4 s t.body V s.d.params) _=_ from h2)
    cases h4
    exact m72_zero s he ho t.body V s.d.params (by omega) h3 m ((consts_mem _ _).1 hm)
  ·rw [if_neg k0] at hm
   rw [decide_eq_false k0,cond_false,Yf] at h'
   by_cases k1:t.kind=1
   ·rw [decide_eq_true k1,cond_true,U9,Option.bind_some] at h'
    cases hz:XZ t.body with
    | false=>rw [hz] at h';exact (Wh h' (by omega)).elim
    | true =>
     rw [hz] at h'
     obtain ⟨v,-,h2⟩:=ZS (show Option.bind (cond (decide (t.var < 0)) (some true) (some (decide (V≤t.var)))) _=_ from h')
     cases v with
     | true=>exact (Wh h2 (by omega)).elim
     | false =>
      cases h32:decide (32 < (t.branches.length:Int)) with
      | true=>rw [h32] at h2;exact (Wh h2 (by omega)).elim
      | false =>
       rw [h32] at h2
       obtain ⟨r,h3,h4⟩:=ZS (show Option.bind (Qp (Xt t s (Jr UY n) V D) QF 0) _=_ from h2)
       have br:∀ (a:List Br) (b:Br) (c:List Br),t.branches=a++b::c→∀ y,Xt t s (Jr UY n) V D (a.length:Int)=some y →
         (y=.next (J9 ((a.length:Int)+1))∧(Y2 s.env b.ctor).isSome=true∧(b.absurd=false→∃ V' D',Jr UY n (s,b.tree,V',D')=some 0))∨∃ e,e ≠ 0∧y=.done (.inr e):=by
        intro a b c e y hy
        obtain ⟨q1,q2⟩:=Y3 e
        unfold Xt at hy
        rw [q1,q2] at hy
        simp only [cond_true,Option.bind_some] at hy
        rw [UK s.env b.ctor he,Option.bind_some] at hy
        unfold XP at hy
        cases hf:Y2 s.env b.ctor with
        | none =>
         rw [hf] at hy
         cases hy
         exact .inr ⟨9,by omega,rfl⟩
        | some en =>
         rw [hf] at hy
         have hy2:Option.bind (some (en.kind != 4)) (fun v17=>m73_k0 v17 b (a.length:Int) s (en,0) (Jr UY n) V D)=some y:=hy
         rw [Option.bind_some] at hy2
         cases hk:(en.kind != 4) with
         | true=>rw [hk] at hy2;cases hy2;exact .inr ⟨9,by omega,rfl⟩
         | false =>
          rw [hk] at hy2
          unfold m73_k0 at hy2
          simp only [cond_false] at hy2
          cases ha:b.absurd with
          | true =>
           rw [ha,cond_true] at hy2
           obtain ⟨v,-,h6⟩:=ZS hy2
           cases v with
           | true=>cases h6;exact .inl ⟨rfl,rfl,fun h=>by cases h⟩
           | false=>cases h6;exact .inr ⟨3,by omega,rfl⟩
          | false =>
           rw [ha,cond_false] at hy2
           obtain ⟨b1,-,h6⟩:=ZS hy2
           obtain ⟨b2,-,h7⟩:=ZS h6
           obtain ⟨b3,h8,h9⟩:=ZS h7
           by_cases h0:b3=0
           ·subst h0
            cases h9
            exact .inl ⟨J,J,fun _=>⟨_,_,h8⟩⟩
           ·rw [WY h0] at h9
            cases h9
            exact .inr ⟨b3,h0,J⟩
       rcases loop_cases t.branches r (.inl ()) (by omega) (fun a b c e s' hs=>by
         rcases br a b c e _ hs with ⟨h5,-⟩ | ⟨e',-,h5⟩
         ·cases h5;rfl
         ·cases h5) (by unfold Xt;rw [J7];rfl) h3 with ⟨rfl,h5⟩ | ⟨a,b,c,e,h5⟩
       ·obtain ⟨l,hl1,hl2⟩:=List.mem_flatten.1 hm
        obtain ⟨b,hbm,rfl⟩:=List.mem_map.1 hl1
        obtain ⟨a,c,e⟩:=List.append_of_mem hbm
        have hbt:=Kp hbm
        rcases br a b c e _ (h5 a b c e) with ⟨-,h6,h7⟩ | ⟨e',-,h6⟩
        ·unfold Dx at hl2
         rcases List.mem_cons.1 hl2 with rfl | hl2
         ·exact .inr h6
         ·cases hab:b.absurd with
          | true=>rw [hab] at hl2;cases hl2
          | false =>
           rw [hab] at hl2
           obtain ⟨V',D',h8⟩:=h7 hab
           exact m73_zero s he ho n b.tree V' D' (by omega) h8 m hl2
        ·cases h6
       ·rcases br a b c e _ h5 with ⟨h6,-⟩ | ⟨e',h6,h7⟩
        ·cases h6
        ·cases h7
         exact (Wh (show some e'=some 0 from h4) h6).elim
   ·rw [decide_eq_false k1] at h'
    exact (Wh h' (by omega)).elim
end Go.Proofs.Ytafddfoefeploaa
namespace Go.Proofs.Ytafddfoefeploaa
open Go.RowKit Go.Shelf
theorem isZ_cn {t:Tm} (h:XZ t=true):t.cn=[]:=by
 unfold XZ at h
 simp only [Bool.and_eq_true,beq_iff_eq] at h
 have hk:t.kids=[]:=List.length_eq_zero_iff.1 (by have:=h.2;omega)
 rw [t.cn_eq,hk,if_neg (by have:=h.1.1.1.1;omega)];rfl
theorem m32_zero {a:List Dcl} {x:Dcl} (h:DL a x=some 0):0≤x.kind∧x.kind≤4∧Xg x=true∧m51 x=some 0∧m52 a x=some 0∧m53 a x=some 0:=by
 unfold DL at h
 by_cases c1:x.kind < 0
 ·rw [decide_eq_true c1] at h;exact (Wh h (by omega)).elim
 by_cases c2:4 < x.kind
 ·rw [decide_eq_false c1,decide_eq_true c2] at h;exact (Wh h (by omega)).elim
 rw [decide_eq_false c1,decide_eq_false c2] at h
 have h':UJ false x a=some 0:=h
 unfold UJ at h'
 rw [m50_eq x (by omega) (by omega)] at h'
 cases hu:Xg x with
 | false=>rw [hu] at h';exact (Wh h' (by omega)).elim
 | true =>
  rw [hu] at h'
  have h2:Option.bind (m51 x) (fun b1_=>cond (b1_ != 0) (some b1_) (Option.bind (m52 a x) fun b2_=>cond (b2_ != 0) (some b2_) (Option.bind (m53 a x) fun b3_=>some b3_)))=some 0:=h'
  obtain ⟨h3,h4⟩:=X0 h2
  obtain ⟨h5,h6⟩:=X0 h4
  obtain ⟨v,h7,h8⟩:=ZS h6
  cases h8
  exact ⟨by omega,by omega,rfl,h3,h5,h7⟩
theorem used_parts {d:Dcl} (h:Xg d=true):(d.kind ≠ 1→d.kind ≠ 2→XZ d.value=true)∧(d.kind ≠ 4→d.funs=[])∧(d.kind=4→XZ d.ty=true)∧(d.kind ≠ 3→d.ctors=[]∧XZ d.rcr.ty=true∧d.rcr.rules=[]):=by
 unfold Xg at h
 simp only [Bool.and_eq_true,Bool.or_eq_true,beq_iff_eq,Bool.not_eq_true',beq_eq_false_iff_ne] at h
 obtain ⟨⟨⟨h1,h2⟩,h3⟩,h4⟩:=h
 refine ⟨fun c1 c2=>?_,fun c4=>?_,fun c4=>?_,fun c3=>?_⟩
 ·rcases h1 with (h1 | h1) | h1
  ·exact (c1 h1).elim
  ·exact (c2 h1).elim
  ·exact h1
 ·exact List.length_eq_zero_iff.1 (by have:=h2.resolve_left c4;omega)
 ·exact (h3.resolve_left fun h=>h c4).2
 ·obtain ⟨⟨-,h5⟩,⟨-,h6⟩,h7⟩:=h4.resolve_left c3
  exact ⟨List.length_eq_zero_iff.1 (by omega),h6,List.length_eq_zero_iff.1 (by omega)⟩
theorem kind12 (k:Int):(cond (k==1) (some (k==1)) (some (k==2)))=some (decide (k=1∨k=2)):=by
 rw [Yf,Yf]
 by_cases c1:k=1
 ·rw [decide_eq_true c1,decide_eq_true (Or.inl c1)];rfl
 ·rw [decide_eq_false c1]
  show some (decide (k=2))=_
  congr 2
  rw [eq_iff_iff]
  exact ⟨.inr,fun h=>h.resolve_left c1⟩
theorem cover {a:List Dcl} {x:Dcl} (h:DL a x=some 0) (he:Yn a≤800000000) (hx:x.size≤800000000):∀ m∈K7 x,m∈J3 x∨(Y2 a m).isSome=true:=by
 obtain ⟨k0,k4,hu,-,-,h53⟩:=m32_zero h
 obtain ⟨u1,u2,u3,u4⟩:=used_parts hu
 have hnl:=KI x
 have hcl:=Yx x
 have hfl:=YY x
 have hrl:=rules_len x
 have hty:=ty_size x
 have hva:=value_size x
 have hrt:=rty_size x
 have T:∀ (own:List Bs) (t:Tm) (P:Int),own.length≤900000000→(∀ n∈own,n∈J3 x)→t.size≤900000000→D4 (⟨a,own,x⟩:Rsc) t 0 P=some 0→∀ m∈t.cn,m∈J3 x∨(Y2 a m).isSome=true:=by
  intro own t P h1 h2 h3 h4 m hm
  rcases m72_zero ⟨a,own,x⟩ he h1 t 0 P h3 h4 m hm with h5 | h5
  ·exact .inl (h2 m h5)
  ·exact .inr h5
 have Z:∀ (t:Tm),XZ t=true→∀ m∈t.cn,m∈J3 x∨(Y2 a m).isSome=true:=by
  intro t ht m hm
  rw [isZ_cn ht] at hm;cases hm
 have hk:(x.kind ≠ 4→D4 (⟨a,[],x⟩:Rsc) x.ty 0 x.params=some 0)∧Ka (decide (x.kind=1∨x.kind=2)) a x=some 0:=by
  unfold m53 at h53
  rw [kind12] at h53
  by_cases c4:x.kind=4
  ·rw [show (x.kind != 4)=false from by rw [c4];rfl] at h53
   exact ⟨fun h=>(h c4).elim,h53⟩
  ·rw [show (x.kind != 4)=true from bne_iff_ne.2 c4] at h53
   obtain ⟨h1,h2⟩:=X0 (show Option.bind (D4 (⟨a,[],x⟩:Rsc) x.ty 0 x.params) (fun x2=>cond (x2 != 0) (some x2) (Option.bind (some (decide (x.kind=1∨x.kind=2))) (fun v4=>Ka v4 a x)))=some 0 from h53)
   exact ⟨fun _=>h1,h2⟩
 obtain ⟨hk1,hk2⟩:=hk
 have nilsub:∀ n∈([]:List Bs),n∈J3 x:=fun n h=>by cases h
 have TY:∀ m∈x.ty.cn,m∈J3 x∨(Y2 a m).isSome=true:=by
  by_cases c4:x.kind=4
  ·exact Z _ (u3 c4)
  ·exact T [] x.ty x.params (by simp) nilsub (by omega) (hk1 c4)
 have R:(∀ m∈x.value.cn,m∈J3 x∨(Y2 a m).isSome=true)∧(∀ c∈x.ctors,∀ m∈c.ty.cn,m∈J3 x∨(Y2 a m).isSome=true)∧(∀ m∈x.rcr.ty.cn,m∈J3 x∨(Y2 a m).isSome=true) ∧
   (∀ r∈x.rcr.rules,∀ m∈r.cn,m∈J3 x∨(Y2 a m).isSome=true)∧(∀ f∈x.funs,∀ m∈f.ty.cn,m∈J3 x∨(Y2 a m).isSome=true)∧(∀ f∈x.funs,∀ m∈f.tree.cn,m∈J3 x∨(Y2 a m).isSome=true):=by
  unfold Ka at hk2
  by_cases c12:x.kind=1∨x.kind=2
  ·rw [decide_eq_true c12] at hk2
   obtain ⟨v,h1,h2⟩:=ZS (show Option.bind (D4 (⟨a,[],x⟩:Rsc) x.value 0 x.params) (fun b0_=>some b0_)=some 0 from hk2)
   cases h2
   obtain ⟨p1,p2,p3⟩:=u4 (by omega)
   rw [p1,p3,u2 (by omega)]
   exact ⟨T [] x.value x.params (by simp) nilsub (by omega) h1,(fun c hc=>by cases hc),Z _ p2,(fun c hc=>by cases hc),(fun c hc=>by cases hc),fun c hc=>by cases hc⟩
  ·rw [decide_eq_false c12,cond_false,Yf] at hk2
   have VZ:=Z _ (u1 (fun h=>c12 (.inl h)) (fun h=>c12 (.inr h)))
   by_cases c3:x.kind=3
   ·have hn3:J3 x=(x.name::x.ctors.map (·.name))++[x.name++Ur]:=by unfold J3;rw [if_neg (by omega),if_pos c3];rfl
    rw [decide_eq_true c3,cond_true] at hk2
    obtain ⟨h1,h2⟩:=GS x.ctors (fun c=>D4 (⟨a,[x.name],x⟩:Rsc) c.ty 0 x.params) (Uc x a) (by omega) (fun a' c b' e=>by
     obtain ⟨q1,q2⟩:=Y3 e
     unfold Wp
     rw [q1,q2];rfl) (by unfold Wp;rw [J7];rfl) hk2
    unfold Uc at h2
    rw [Ue x (by omega),Option.bind_some] at h2
    obtain ⟨h3,h4⟩:=X0 (guard_zero h2)
    obtain ⟨h5,-⟩:=GS x.rcr.rules (fun r=>D4 (⟨a,J3 x,x⟩:Rsc) r 0 x.rcr.params) (some 0) (by omega) (fun a' c b' e=>by
     obtain ⟨q1,q2⟩:=Y3 e
     unfold Wo
     rw [q1,q2];rfl) (by unfold Wo;rw [J7];rfl) h4
    rw [u2 (by omega)]
    refine ⟨VZ,fun c hc=>?_,?_,fun r hr=>?_,(fun c hc=>by cases hc),fun c hc=>by cases hc⟩
    ·have:=KV hc
     exact T [x.name] c.ty x.params (by simp) (fun n hn=>by rw [List.mem_singleton.1 hn,hn3];simp) (by omega) (h1 c hc)
    ·exact T _ x.rcr.ty x.rcr.params (by rw [List.length_take];omega) (fun n hn=>List.mem_of_mem_take hn) (by omega) h3
    ·have:=rule_size hr
     exact T (J3 x) r x.rcr.params (by omega) (fun n hn=>hn) (by omega) (h5 r hr)
   ·rw [decide_eq_false c3,cond_false,Yf] at hk2
    obtain ⟨p1,p2,p3⟩:=u4 c3
    rw [p1,p3]
    by_cases c4:x.kind=4
    ·rw [decide_eq_true c4,cond_true] at hk2
     obtain ⟨h1,h2⟩:=GS x.funs (fun f=>D4 (⟨a,[],x⟩:Rsc) f.ty 0 x.params) (Option.bind (m23 x) fun (b3_:(List ((List UInt8))))=>Option.bind (Qp (Wn x a b3_) QF 0) (Sum.elim (fun (b4_:Unit)=>some 0) (fun o=>some o))) (by omega) (fun a' c b' e=>by
      obtain ⟨q1,q2⟩:=Y3 e
      unfold Ub
      rw [q1,q2];rfl) (by unfold Ub;rw [J7];rfl) hk2
     rw [Ue x (by omega),Option.bind_some] at h2
     obtain ⟨h3,-⟩:=GS x.funs (fun f=>m73 (⟨a,J3 x,x⟩:Rsc) f.tree f.arity 0) (some 0) (by omega) (fun a' c b' e=>by
      obtain ⟨q1,q2⟩:=Y3 e
      unfold Wn
      rw [q1,q2];rfl) (by unfold Wn;rw [J7];rfl) h2
     refine ⟨VZ,(fun c hc=>by cases hc),Z _ p2,(fun c hc=>by cases hc),fun f hf=>?_,fun f hf m hm=>?_⟩
     ·have:=WT hf
      exact T [] f.ty x.params (by simp) nilsub (by omega) (h1 f hf)
     ·have:=WT hf
      exact m73_zero ⟨a,J3 x,x⟩ he (by show (J3 x).length≤_;omega) QF f.tree f.arity 0 (by omega) (h3 f hf) m hm
    ·rw [u2 c4]
     exact ⟨VZ,(fun c hc=>by cases hc),Z _ p2,(fun c hc=>by cases hc),(fun c hc=>by cases hc),fun c hc=>by cases hc⟩
 obtain ⟨r1,r2,r3,r4,r5,r6⟩:=R
 intro m hm
 unfold K7 at hm
 rcases List.mem_append.1 hm with hm | hm
 ·obtain ⟨l,hl1,hl2⟩:=List.mem_flatten.1 hm
  obtain ⟨t,ht,rfl⟩:=List.mem_map.1 hl1
  have hc:=(consts_mem t m).1 hl2
  unfold JA at ht
  simp only [List.mem_append,List.mem_cons,List.mem_singleton,List.mem_map,List.not_mem_nil,or_false] at ht
  rcases ht with ((((ht | ht) | ⟨c,hc1,rfl⟩) | ht) | ht) | ⟨f,hf,rfl⟩
  ·rw [ht] at hc;exact TY m hc
  ·rw [ht] at hc;exact r1 m hc
  ·exact r2 c hc1 m hc
  ·rw [ht] at hc;exact r3 m hc
  ·exact r4 t ht m hc
  ·exact r5 f hf m hc
 ·obtain ⟨l,hl1,hl2⟩:=List.mem_flatten.1 hm
  obtain ⟨f,hf,rfl⟩:=List.mem_map.1 hl1
  exact r6 f hf m hl2
theorem uses_known {a:List Dcl} {x:Dcl} (h:DL a x=some 0) (he:Yn a≤800000000) (hx:x.size≤800000000):∀ m∈Dh x,(Y2 a m).isSome=true:=by
 intro m hm
 unfold Dh at hm
 rw [addL_mem] at hm
 rcases hm with hm | ⟨h1,h2⟩
 ·cases hm
 ·exact (cover h he hx m h1).resolve_left h2
theorem names_ne {a:List Dcl} {x:Dcl} (h:DL a x=some 0):J3 x ≠ []:=by
 obtain ⟨k0,k4,-,h51,-,-⟩:=m32_zero h
 unfold J3
 split
 ·simp
 ·split
  ·simp
  ·split
   ·next c4 =>
    intro hn
    have hf:x.funs=[]:=List.map_eq_nil_iff.1 hn
    unfold m51 at h51
    obtain ⟨v,-,h1⟩:=ZS h51
    cases v with
    | true=>exact Wh h1 (by omega)
    | false =>
     have h2:UG false x=some 0:=h1
     unfold UG at h2
     rw [hf,c4] at h2
     obtain ⟨v,h3,h4⟩:=ZS (show Option.bind (cond (decide (32 < (x.ctors.length:Int))) (some true) (some true)) _=_ from h2)
     have hv:v=true:=by cases hd:decide (32 < (x.ctors.length:Int)) <;> rw [hd] at h3 <;> cases h3 <;> rfl
     rw [hv] at h4
     exact Wh h4 (by omega)
   ·omega
theorem findO_split (a b:List Dcl) (x:Dcl) (n:Bs):Y2 (a++x::b) n=(Y2 a n).elim ((Yi x (a.length:Int) n).elim (D8 (fun k d=>Yi d (k:Int) n) b (a.length+1)) some) some:=by
 unfold Y2
 rw [WR,Nat.zero_add];rfl
theorem findO_at {a:List Dcl} {n:Bs} {e:Ent} (h:Y2 a n=some e):0≤e.decl∧e.decl < (a.length:Int):=by
 obtain ⟨i,d,h1,h2⟩:=fsI_some _ _ _ h
 rw [look_decl h2,Nat.zero_add]
 have:=(List.getElem?_eq_some_iff.1 h1).1
 omega
theorem look_some {x:Dcl} (k:Int) {n:Bs} (h:n∈J3 x):∃ e,Yi x k n=some e:=by
 have hi:=Xa x k n
 rw [decide_eq_true h] at hi
 cases hl:Yi x k n with
 | none=>rw [hl] at hi;cases hi
 | some e=>exact ⟨e,rfl⟩
end Go.Proofs.Ytafddfoefeploaa
namespace Go.Proofs.Ytafddfoefeploaa
open Go.RowKit
section
variable {E:Env} {st:St} {d:Option Tmp} {ty:TypeId} {pos:String} {af:Array Edge} {g:Option (Nat×Bool)}
theorem OpOK.data4E {α:Type} [Enc α] (v1 v2 v3 v4:α) {t e:Nat} {zs:List Value} {o1 o2 o3 o4:Operand} {x1 x2 x3 x4:AV} {ys:List CA} (ht:Jp E.P t=some (e,Enc.sz α)) (hze:JD E.P e=some zs) (hzl:zs.length=Enc.sz α) (hz:zs.all (·.oneCell')=true) (hlen:4 * Enc.sz α≤16777216)
  (h1:ev st.tm o1=some (.v x1)) (h2:ev st.tm o2=some (.v x2)) (h3:ev st.tm o3=some (.v x3)) (h4:ev st.tm o4=some (.v x4)) (hf:Zp (JL (Enc.sz α) 4) (JS zs 4) [(0,x1),(1,x2),(2,x3),(3,x4)]=some ys) (hs:CSubs ys (Enc.enc v1++(Enc.enc v2++(Enc.enc v3++(Enc.enc v4))))) (hel:(Enc.enc v1).length=Enc.sz α∧(Enc.enc v2).length=Enc.sz α∧(Enc.enc v3).length=Enc.sz α∧(Enc.enc v4).length=Enc.sz α) :
  OpOK E ⟨d,.buildSlice t 4 #[(0,o1),(1,o2),(2,o3),(3,o4)],ty,pos,af,g⟩ st (.v (.one (.d (.sl (Enc.sz α) (Enc.encL [v1,v2,v3,v4]))))) ⟨st.hp,st.tk,st.nx⟩ :=
 OpOK.litData (avs:=[(0,x1),(1,x2),(2,x3),(3,x4)]) (Enc.encL [v1,v2,v3,v4]) ht hze hzl hz hlen rfl (fun j i x hx=>by
  match j,hx with
  | 0,hx=>cases hx;exact ⟨o1,rfl,h1⟩
  | 1,hx=>cases hx;exact ⟨o2,rfl,h2⟩
  | 2,hx=>cases hx;exact ⟨o3,rfl,h3⟩
  | 3,hx=>cases hx;exact ⟨o4,rfl,h4⟩) hf (by rw [Enc.cons,Enc.cons,Enc.cons,Enc.one];simpa using hs) (fun x hx=>by
   rw [Enc.cons,Enc.cons,Enc.cons,Enc.one] at hx;simp at hx
   rcases hx with rfl | rfl | rfl | rfl
   ·exact hel.1
   ·exact hel.2.1
   ·exact hel.2.2.1
   ·exact hel.2.2.2) (by rw [Enc.len];rfl)
end
end Go.Proofs.Ytafddfoefeploaa
namespace Go.Proofs.Ytafddfoefeploaa
open Go.RowKit Go.Shelf
theorem bd_42:Yj Try.prog 42 [(0,1),(1,5),(6,1)] [.int .i64 0,.int .i64 0,.int .i64 0,.string ByteArray.empty,.slice none 0 0,.slice none 0 0,.slice none 0 0]:=⟨by kernel_rfl,by kernel_rfl⟩
theorem bd_71:Yj Try.prog 71 [(0,1),(1,5)] [.string ByteArray.empty,.int .i64 0,.int .i64 0,.string ByteArray.empty,.slice none 0 0,.slice none 0 0]:=⟨by kernel_rfl,by kernel_rfl⟩
theorem bd_87:Yj Try.prog 87 [(0,1),(1,1)] [.int .i64 0,.slice none 0 0]:=⟨by kernel_rfl,by kernel_rfl⟩
theorem en_10:J4 Try.prog 10:=enters_of Try.func10 (by kernel_rfl) rfl
theorem en_26:J4 Try.prog 26:=enters_of Try.func26 (by kernel_rfl) rfl
theorem en_28:J4 Try.prog 28:=enters_of Try.func28 (by kernel_rfl) rfl
theorem en_29:J4 Try.prog 29:=enters_of Try.func29 (by kernel_rfl) rfl
def m29 (a0:Bs):Option Tm :=
 some (Tm.mk 3 0 a0 ([]:List Lvl) ([]:List Tm))
theorem m29_ok (a0:Bs) (r:Tm) (h0:m29 a0=some r):Fun Try.prog 29 [.one (Jn a0)] (QK [.agg (cE r)]):=by
 unfold m29 at h0
 refine QZ 9 5 Try.func29 J en_29 J (lb J) (fun S w=>?_)
 simp only [Ja]
 refine Q5<|Q0<|Q9 J J (lb J) (Qj K4 J)<|Q3<|Q4<|Q5<|Q0<|rM J J J<|rR J J J (Jb bd_33 J J J J)<|Qx J J (Qt QV J J J J (lb J) J)<|Q3<|Q4<|QD ?_
 have e:=sI h0;subst e
 exact QL (fun _ _ h=>h) J (Z6 QV J J J J .nil) (.cons (.agg (.cons (.d _) (.cons (.d _) (.cons (.d _) (.cons (.nil _) (.cons (.nil _) .nil)))))) .nil)
def m28 (a0:Tm) (a1:Tm):Option Tm :=
 some (Tm.mk 6 0 ([]:List UInt8) ([]:List Lvl) [a0,a1])
theorem m28_ok (a0:Tm) (a1:Tm) (r:Tm) (h0:m28 a0 a1=some r):Fun Try.prog 28 [.agg (cE a0),.agg (cE a1)] (QK [.agg (cE r)]):=by
 unfold m28 at h0
 refine QZ 9 9 Try.func28 J en_28 J (lb J) (fun S w=>?_)
 simp only [Ja]
 refine Q5<|Q0<|Q9 J J (lb J) (QT J)<|Q9 J J (lb J) (QT J)<|Q9 J J (lb J) (Qj K4 J)<|Q3<|Q4<|Q5<|Q0<|rR J J J (QN (a0:Tm) QV J J)<|rR J J J (QN (a1:Tm) QV J J)<|Q9 J J (lb J) (OpOK.lit2E (α:=Tm) a0 a1 Jl K4 J J (lb J) (lb J) J J J (.cons (.d _) (.cons (.d _) (.cons (.d _) (.cons (.d _) (.cons (.d _) (.cons (.d _) (.cons (.d _) (.cons (.d _) (.cons (.d _) (.cons (.d _) .nil)))))))))) ⟨J,J⟩)<|rR J J J (Jb bd_33 J J J J)<|Qx J J (Qt QV J J J J (lb J) J) ?_
 refine Q3<|Q4<|QD ?_
 have e:=sI h0;subst e
 exact QL (fun _ _ h=>h) J (Z6 QV J J J J .nil) (.cons (.agg (.cons (.d _) (.cons (.d _) (.cons (.d _) (.cons (.nil _) (.cons (.app _ _ _) .nil)))))) .nil)
noncomputable abbrev m26_h0 (p0_:Tm) (p1_:Tm):HB :=
 .cells 45 [dI 3,Jn ([78,97,116]:List UInt8),dI 0,dI 2,dI 0,Jn ([]:List UInt8),dA 2 ([(⟨0,([]:List LV)⟩:Lvl)]:List Lvl),dN,dI 0,dI 0,Jn ([]:List UInt8),dN,dN,dI 0,dS ([(⟨([78,97,116,46,122,101,114,111]:List UInt8),p0_⟩:Ctr),(⟨([78,97,116,46,115,117,99,99]:List UInt8),p1_⟩:Ctr)]:List Ctr),dI 1,dI p0_.kind,dI p0_.index,Jn p0_.name,dS p0_.levels,dS p0_.kids,dS ([p0_,p0_]:List Tm),dN]
noncomputable abbrev m26_h1 :HB :=
 .cells 33 [dI 2,dI 0,Jn ([]:List UInt8),dA 2 ([(⟨0,([]:List LV)⟩:Lvl)]:List Lvl),dN]
def m26 :Option Dcl :=
 Option.bind (m29 ([78,97,116]:List UInt8)) fun (x1:Tm) =>
 Option.bind (m28 x1 x1) fun (x2:Tm) =>
 some (⟨3,([78,97,116]:List UInt8),0,(Tm.mk 2 0 ([]:List UInt8) [(⟨0,([]:List LV)⟩:Lvl)] ([]:List Tm)),(Tm.mk 0 0 ([]:List UInt8) ([]:List Lvl) ([]:List Tm)),0,[(⟨([78,97,116,46,122,101,114,111]:List UInt8),x1⟩:Ctr),(⟨([78,97,116,46,115,117,99,99]:List UInt8),x2⟩:Ctr)],(⟨1,x1,[x1,x1]⟩:Rcr),([]:List Fn)⟩:Dcl)
theorem m26_ok  (r:Dcl) (h0:m26 =some r):Fun Try.prog 26 [] (QK [.agg (cE r)]):=by
 unfold m26 at h0
 refine QZ 9 21 Try.func26 J en_26 J (lb J) (fun S w=>?_)
 simp only [Ja]
 refine Q5<|Q0<|Q9 J J (lb J) (Qj UW J)<|Q3<|Q4<|Q5<|Q0 ?_
 refine Qb h0 (fun x1 hx1 h0=>?_)
 refine Q9 J J (lb J) (Qq (m29_ok ([78,97,116]:List UInt8) x1 hx1) J (.cons (.one (.d _)) .nil))<|Q9 J J (lb J) (Qj K4 J)<|Qx J J (Qz (x1:Tm) QV J J J J J)<|Q3<|Q4<|Q5<|Q0<|rR J J J (X3 bd_87 J )<|Q9 J J (lb J) (Y4 (α:=Lvl) ((⟨0,([]:List LV)⟩:Lvl)) Zm Dz J J (lb J) (lb J) J J (.cons (.d _) (.cons (.nil _) .nil)) J)<|rR J J J (Jb bd_33 J J J J)<|Q9 J J (lb J) (Qj K4 J)<|Qx J J (Qt QV J J J J (lb J) J)<|Q3<|Q4 ?_
 refine Q5 ?_
 refine Jv [14] [] YQ (by kernel_rfl) (by kernel_rfl) (by kernel_rfl) ?_
 refine RunA.rd J J J (Q1 (Qi QV J J J J)) J<|RunA.rd J J J (Q1 (QN (x1:Tm) QV J J)) J<|RunA.rd J J J (Q1 (Jb bd_71 J J J J)) J<|RunA.rd J J J (Q1 (QN (x1:Tm) QV J J)) J<|RunA.rd J J J (Q1 (QN (x1:Tm) QV J J)) J ?_
 refine Qb h0 (fun x2 hx2 h0=>?_)
 refine RunA.rd J J J (Qq (m28_ok x1 x1 x2 hx2) J (.cons (.agg (.cons (.d _) (.cons (.d _) (.cons (.d _) (.cons (.d _) (.cons (.d _) .nil)))))) (.cons (.agg (.cons (.d _) (.cons (.d _) (.cons (.d _) (.cons (.d _) (.cons (.d _) .nil)))))) .nil))) J<|RunA.rd J J J (Q1 (Jb bd_71 J J J J)) J<|RunA.rd J J J (OpOK.data2E (α:=Ctr) (⟨([78,97,116,46,122,101,114,111]:List UInt8),x1⟩:Ctr) (⟨([78,97,116,46,115,117,99,99]:List UInt8),x2⟩:Ctr) YM UV J J (lb J) J J J (.cons (.d _) (.cons (.d _) (.cons (.d _) (.cons (.d _) (.cons (.d _) (.cons (.d _) (.cons (.d _) (.cons (.d _) (.cons (.d _) (.cons (.d _) (.cons (.d _) (.cons (.d _) .nil)))))))))))) ⟨J,J⟩) J<|RunA.rd J J J (Q1 (QN (x1:Tm) QV J J)) J<|RunA.rd J J J (Q1 (QN (x1:Tm) QV J J)) J<|RunA.rd J J J (Q1 (QN (x1:Tm) QV J J)) J<|RunA.rd J J J (OpOK.data2E (α:=Tm) x1 x1 Jl K4 J J (lb J) J J J (.cons (.d _) (.cons (.d _) (.cons (.d _) (.cons (.d _) (.cons (.d _) (.cons (.d _) (.cons (.d _) (.cons (.d _) (.cons (.d _) (.cons (.d _) .nil)))))))))) ⟨J,J⟩) J<|RunA.rd J J J (Q1 (ZH bd_42 J J J J J)) J<|RunA.rd J J J (Q1 (Y0 bd_45 J (.cons J (.cons J (.cons J (.cons J (.cons J .nil))))) J)) J<|RunA.eff J J J (Yw JX J J J J J J) J ?_
 refine RunA.nil ⟨?ex,_,_,J,?_⟩
 case ex=>exact trivial
 refine JW (st':=⟨[(0,.v (.one (.ptr 0 0)))],[(0,m26_h0 x1 x2),(1,.cells 33 (cE x1)),(3,m26_h1)],[(2,some ⟨87,2,(Enc.encL ([(⟨0,([]:List LV)⟩:Lvl)]:List Lvl)).length,[]⟩)],4,21,[]⟩) (sL (Nat.zero_le _) J J J J J)<|Q4<|QD ?_
 have e:=sI h0;subst e
 exact QL (fun _ _ h=>h) J (Z6 JX J J J J .nil) (.cons (.agg (.cons (.d _) (.cons (.d _) (.cons (.d _) (.cons (.d _) (.cons (.d _) (.cons (.d _) (.cons (.app _ _ _) (.cons (.nil _) (.cons (.d _) (.cons (.d _) (.cons (.d _) (.cons (.nil _) (.cons (.nil _) (.cons (.d _) (.cons (.d _) (.cons (.d _) (.cons (.d _) (.cons (.d _) (.cons (.d _) (.cons (.d _) (.cons (.d _) (.cons (.d _) (.cons (.nil _) .nil)))))))))))))))))))))))) .nil)
noncomputable abbrev m10_h0 (p0_:Dcl) (p1_:Ent×Int) (p2_:Dcl×Int×Bool):List (Nat×HB) :=
 [(0,.cells 45 (cE p0_)),(4,.cells 35 (cE p1_.1)),(6,.cells 45 (cE p2_.1))]
noncomputable def m10 :Option Bool :=
 Option.bind (m26 ) fun (x1:Dcl) =>
 Option.bind (m20 x1) fun (x2:(List Bs)) =>
 Option.bind (m11 ([x1])) fun (x3:Int×Int) =>
 Option.bind (m11 ([x1,x1])) fun (x4:Int×Int) =>
 Option.bind (m14 ([x1]) ([78,97,116,46,115,117,99,99]:List UInt8)) fun (x5:Ent×Int) =>
 Option.bind (m16 ([x1]) ([78,97,116,46,114,101,99]:List UInt8)) fun (x6:Dcl×Int×Bool) =>
 Option.bind (Option.bind (m22 x2 ([([78,97,116]:List UInt8),([78,97,116,46,122,101,114,111]:List UInt8),([78,97,116,46,115,117,99,99]:List UInt8),([78,97,116,46,114,101,99]:List UInt8)])) fun (x8:Bool) =>
 cond x8
   (cond (x3.2==0)
   (cond (x4.1==1)
   (cond (x4.2==8)
   (cond (x5.2==0)
   (cond (x5.1.kind==4)
   (cond (x5.1.decl==0)
   (cond (x5.1.item==1)
   (cond (x5.1.params==0)
   (Option.bind (m29 ([78,97,116]:List UInt8)) fun (x18:Tm) =>
 Option.bind (m29 ([78,97,116]:List UInt8)) fun (x19:Tm) =>
 Option.bind (m28 x18 x19) fun (x20:Tm) =>
 Option.bind (m27 x5.1.ty x20) fun (x21:Bool) =>
 cond x21
   (cond x6.2.2
   (some (x6.2.1==(-2)))
   (some false))
   (some false))
   (some false))
   (some false))
   (some false))
   (some false))
   (some false))
   (some false))
   (some false))
   (some false))
   (some false)) (fun (v7:Bool)=>some v7)
theorem m10_ok  (r:Bool) (h0:m10 =some r):Fun Try.prog 10 [] (QK [.one (dB r)]):=by
 unfold m10 at h0
 refine QZ 9 95 Try.func10 J en_10 J (lb J) (fun S w=>?_)
 simp only [Ja]
 refine Q5<|Q0<|rA J J J<|Q3<|Q4<|Q5<|Q0 ?_
 refine Qb h0 (fun x1 hx1 h0=>?_)
 refine Q9 J J (lb J) (Qq (m26_ok  x1 hx1) J .nil)<|Q9 J J (lb J) (Qj UW J)<|Qx J J (Qz (x1:Dcl) JX J J J J J)<|Q3<|Q4<|Q5<|Q0<|rR J J J (QN (x1:Dcl) JX J J) ?_
 refine Qb h0 (fun x2 hx2 h0=>?_)
 refine Q9 J J (lb J) (Qq (m20_ok x1 x2 hx2) J (.cons (.agg (.cons (.d _) (.cons (.d _) (.cons (.d _) (.cons (.d _) (.cons (.d _) (.cons (.d _) (.cons (.d _) (.cons (.d _) (.cons (.d _) (.cons (.d _) (.cons (.d _) (.cons (.d _) (.cons (.d _) (.cons (.d _) (.cons (.d _) (.cons (.d _) (.cons (.d _) (.cons (.d _) (.cons (.d _) (.cons (.d _) (.cons (.d _) (.cons (.d _) (.cons (.d _) .nil)))))))))))))))))))))))) .nil))<|rA J J J<|Q3<|Q4<|Q5<|Q0<|rR J J J (QN (x1:Dcl) JX J J)<|Q9 J J (lb J) (OpOK.lit1CE (x1:Dcl) Zi UW J J (lb J) J) ?_
 refine Qb h0 (fun x3 hx3 h0=>?_)
 refine Q9 J J (lb J) (Qq (m11_ok ([x1]) x3 hx3) J (.cons (.one (.app _ _ _)) .nil))<|rM J J J<|rR J J J (J8 J J)<|rR J J J (J8 J J)<|rA J J J<|rA J J J<|Q3<|Q4<|Q5<|Q0<|rR J J J (QN (x1:Dcl) JX J J)<|rR J J J (QN (x1:Dcl) JX J J)<|Q9 J J (lb J) (OpOK.lit2CE (x1:Dcl) (x1:Dcl) Zi UW J J (lb J) J J) ?_
 refine Qb h0 (fun x4 hx4 h0=>?_)
 refine Q9 J J (lb J) (Qq (m11_ok ([x1,x1]) x4 hx4) J (.cons (.one (.app _ _ _)) .nil))<|rM J J J<|rR J J J (J8 J J)<|rR J J J (J8 J J)<|rA J J J<|rA J J J<|Q3<|Q4<|Q5<|Q0<|rR J J J (QN (x1:Dcl) JX J J)<|Q9 J J (lb J) (OpOK.lit1CE (x1:Dcl) Zi UW J J (lb J) J) ?_
 refine Qb h0 (fun x5 hx5 h0=>?_)
 refine Q9 J J (lb J) (Qq (m14_ok ([x1]) ([78,97,116,46,115,117,99,99]:List UInt8) x5 hx5) J (.cons (.one (.app _ _ _)) (.cons (.one (.d _)) .nil)))<|rM J J J<|rR J J J (J8 J J)<|rR J J J (J8 J J)<|Q9 J J (lb J) (Qj Zl J)<|Qx J J (Qz (x5.1:Ent) Jm J J J J J)<|rA J J J<|Q3<|Q4<|Q5<|Q0<|rR J J J (QN (x1:Dcl) JX J J)<|Q9 J J (lb J) (OpOK.lit1CE (x1:Dcl) Zi UW J J (lb J) J) ?_
 refine Qb h0 (fun x6 hx6 h0=>?_)
 refine Q9 J J (lb J) (Qq (m16_ok ([x1]) ([78,97,116,46,114,101,99]:List UInt8) x6 hx6) J (.cons (.one (.app _ _ _)) (.cons (.one (.d _)) .nil)))<|rM J J J<|rR J J J (J8 J J)<|rR J J J (J8 J J)<|rR J J J (J8 J J)<|Q9 J J (lb J) (Qj UW J)<|Qx J J (Qz (x6.1:Dcl) JX J J J J J)<|rA J J J<|rA J J J<|Q3<|Q4<|Q5 ?_
 refine QS (fun (v7:Bool)=>⟨[(0,.v (.one (dB v7)))],m10_h0 x1 x5 x6,[(1,some ⟨45,23,(Enc.encL ([x1]:List Dcl)).length,[]⟩),(2,some ⟨45,23,(Enc.encL ([x1,x1]:List Dcl)).length,[]⟩),(3,some ⟨45,23,(Enc.encL ([x1]:List Dcl)).length,[]⟩),(5,some ⟨45,23,(Enc.encL ([x1]:List Dcl)).length,[]⟩)],7,95,[]⟩) (fun (v7:Bool)=>(some v7)=some r) ?_ ?_
 refine Qb h0 (fun w1_ h1 h0=>?_)
 refine Jv [] [] YQ (by kernel_rfl) (by kernel_rfl) (by kernel_rfl) ?_
 refine RunA.rd J J J (Q1 (Qr J)) J<|RunA.rd J J J (OpOK.data4E (α:=Bs) ([78,97,116]:List UInt8) ([78,97,116,46,122,101,114,111]:List UInt8) ([78,97,116,46,115,117,99,99]:List UInt8) ([78,97,116,46,114,101,99]:List UInt8) Yc DS J J (lb J) J J J J J (.cons (.d _) (.cons (.d _) (.cons (.d _) (.cons (.d _) .nil)))) ⟨J,J,J,J⟩) J ?_
 refine Qb h1 (fun x8 hx8 h1=>?_)
 refine RunA.rd J J J (Qq (m22_ok x2 ([([78,97,116]:List UInt8),([78,97,116,46,122,101,114,111]:List UInt8),([78,97,116,46,115,117,99,99]:List UInt8),([78,97,116,46,114,101,99]:List UInt8)]) x8 hx8) J (.cons (.one (.d _)) (.cons (.one (.d _)) .nil))) J ?_
 refine Y7 (c:=x8) J J J (Q1 (Qr J)) J (fun c9=>?_) (fun c9=>?_)
 replace h1:=Qk c9 h1
 refine RunA.rd J J J (Q1 (Qr J)) J<|RunA.rd J J J (Q1 (Q7 J J J)) J<|RunA.rd J J J (Q1 (Qg J J)) J ?_
 refine Y7 (c:=(x3.2==0)) J J J (Q1 (Qr J)) J (fun c10=>?_) (fun c10=>?_)
 replace h1:=Qk c10 h1
 refine RunA.rd J J J (Q1 (Qr J)) J<|RunA.rd J J J (Q1 (Q7 J J J)) J<|RunA.rd J J J (Q1 (Qg J J)) J ?_
 refine Y7 (c:=(x4.1==1)) J J J (Q1 (Qr J)) J (fun c11=>?_) (fun c11=>?_)
 replace h1:=Qk c11 h1
 refine RunA.rd J J J (Q1 (Qr J)) J<|RunA.rd J J J (Q1 (Q7 J J J)) J<|RunA.rd J J J (Q1 (Qg J J)) J ?_
 refine Y7 (c:=(x4.2==8)) J J J (Q1 (Qr J)) J (fun c12=>?_) (fun c12=>?_)
 replace h1:=Qk c12 h1
 refine RunA.rd J J J (Q1 (Qr J)) J<|RunA.rd J J J (Q1 (Q7 J J J)) J<|RunA.rd J J J (Q1 (Qg J J)) J ?_
 refine Y7 (c:=(x5.2==0)) J J J (Q1 (Qr J)) J (fun c13=>?_) (fun c13=>?_)
 replace h1:=Qk c13 h1
 refine RunA.rd J J J (Q1 (Q2 ZR J)) J<|RunA.rd J J J (Q1 (Q6 QU J J J)) J<|RunA.rd J J J (Q1 (Q7 J J J)) J<|RunA.rd J J J (Q1 (Qg J J)) J ?_
 refine Y7 (c:=(x5.1.kind==4)) J J J (Q1 (Qr J)) J (fun c14=>?_) (fun c14=>?_)
 replace h1:=Qk c14 h1
 refine RunA.rd J J J (Q1 (Q2 Xd J)) J<|RunA.rd J J J (Q1 (Q6 QU J J J)) J<|RunA.rd J J J (Q1 (Q7 J J J)) J<|RunA.rd J J J (Q1 (Qg J J)) J ?_
 refine Y7 (c:=(x5.1.decl==0)) J J J (Q1 (Qr J)) J (fun c15=>?_) (fun c15=>?_)
 replace h1:=Qk c15 h1
 refine RunA.rd J J J (Q1 (Q2 fo_35_2 J)) J<|RunA.rd J J J (Q1 (Q6 QU J J J)) J<|RunA.rd J J J (Q1 (Q7 J J J)) J<|RunA.rd J J J (Q1 (Qg J J)) J ?_
 refine Y7 (c:=(x5.1.item==1)) J J J (Q1 (Qr J)) J (fun c16=>?_) (fun c16=>?_)
 replace h1:=Qk c16 h1
 refine RunA.rd J J J (Q1 (Q2 fo_35_3 J)) J<|RunA.rd J J J (Q1 (Q6 QU J J J)) J<|RunA.rd J J J (Q1 (Q7 J J J)) J<|RunA.rd J J J (Q1 (Qg J J)) J ?_
 refine Y7 (c:=(x5.1.params==0)) J J J (Q1 (Qr J)) J (fun c17=>?_) (fun c17=>?_)
 replace h1:=Qk c17 h1
 refine RunA.rd J J J (Q1 (Q2 fo_35_4 J)) J<|RunA.rd J J J (Q1 (Qi QV J J J J)) J ?_
 refine Qb h1 (fun x18 hx18 h1=>?_)
 refine RunA.rd J J J (Qq (m29_ok ([78,97,116]:List UInt8) x18 hx18) J (.cons (.one (.d _)) .nil)) J ?_
 refine Qb h1 (fun x19 hx19 h1=>?_)
 refine RunA.rd J J J (Qq (m29_ok ([78,97,116]:List UInt8) x19 hx19) J (.cons (.one (.d _)) .nil)) J ?_
 refine Qb h1 (fun x20 hx20 h1=>?_)
 refine RunA.rd J J J (Qq (m28_ok x18 x19 x20 hx20) J (.cons (.agg (.cons (.d _) (.cons (.d _) (.cons (.d _) (.cons (.d _) (.cons (.d _) .nil)))))) (.cons (.agg (.cons (.d _) (.cons (.d _) (.cons (.d _) (.cons (.d _) (.cons (.d _) .nil)))))) .nil))) J ?_
 refine Qb h1 (fun x21 hx21 h1=>?_)
 refine RunA.rd J J J (Qq (m27_ok x5.1.ty x20 x21 hx21) J (.cons (.agg (.cons (.d _) (.cons (.d _) (.cons (.d _) (.cons (.d _) (.cons (.d _) .nil)))))) (.cons (.agg (.cons (.d _) (.cons (.d _) (.cons (.d _) (.cons (.d _) (.cons (.d _) .nil)))))) .nil))) J<|RunA.rd J J J (Q1 (Qg J J)) J ?_
 refine Y7 (c:=x21) J J J (Q1 (Qr J)) J (fun c22=>?_) (fun c22=>?_)
 replace h1:=Qk c22 h1
 refine RunA.rd J J J (Q1 (Qr J)) J<|RunA.rd J J J (Q1 (Qg J J)) J ?_
 refine Y7 (c:=x6.2.2) J J J (Q1 (Qr J)) J (fun c23=>?_) (fun c23=>?_)
 replace h1:=Qk c23 h1
 refine RunA.rd J J J (Q1 (Qr J)) J<|RunA.rd J J J (Q1 (Q7 J J J)) J<|RunA.rd J J J (Q1 (Qg J J)) J<|RunA.rd J J J (Q1 (JH J)) J ?_
 refine RunA.nil ⟨?ex,_,_,J,?_⟩
 case ex=>exact trivial
 have e:=sI h1;subst e
 exact Qd (x6.2.1==(-2)) (sL (Nat.zero_le _) J J J J J) h0
 replace h1:=Ql c23 h1
 refine RunA.no J J J J<|RunA.no J J J J<|RunA.rd J J J (Q1 (Qc J J)) J<|RunA.rd J J J (Q1 (JH J)) J ?_
 refine RunA.nil ⟨?ex,_,_,J,?_⟩
 case ex=>exact trivial
 have e:=sI h1;subst e
 exact Qd false (sL (Nat.zero_le _) J J J J J) h0
 replace h1:=Ql c22 h1
 refine RunA.no J J J J<|RunA.rd J J J (Q1 (Qc J J)) J<|RunA.rd J J J (Q1 (Qr J)) J<|RunA.no J J J J<|RunA.no J J J J<|RunA.rd J J J (Q1 (Qc J J)) J<|RunA.rd J J J (Q1 (JH J)) J ?_
 refine RunA.nil ⟨?ex,_,_,J,?_⟩
 case ex=>exact trivial
 have e:=sI h1;subst e
 exact Qd false (sL (Nat.zero_le _) J J J J J) h0
 replace h1:=Ql c17 h1
 refine RunA.no J J J J<|RunA.no J J J J<|RunA.no J J J J<|RunA.no J J J J<|RunA.no J J J J<|RunA.no J J J J<|RunA.rd J J J (Q1 (Qc J J)) J<|RunA.rd J J J (Q1 (Qr J)) J<|RunA.no J J J J<|RunA.rd J J J (Q1 (Qc J J)) J<|RunA.rd J J J (Q1 (Qr J)) J<|RunA.no J J J J<|RunA.no J J J J<|RunA.rd J J J (Q1 (Qc J J)) J ?_
 refine RunA.rd J J J (Q1 (JH J)) J ?_
 refine RunA.nil ⟨?ex,_,_,J,?_⟩
 case ex=>exact trivial
 have e:=sI h1;subst e
 exact Qd false (sL (Nat.zero_le _) J J J J J) h0
 replace h1:=Ql c16 h1
 refine RunA.no J J J J<|RunA.no J J J J<|RunA.no J J J J<|RunA.rd J J J (Q1 (Qc J J)) J<|RunA.rd J J J (Q1 (Qr J)) J<|RunA.no J J J J<|RunA.no J J J J<|RunA.no J J J J<|RunA.no J J J J<|RunA.no J J J J<|RunA.no J J J J<|RunA.rd J J J (Q1 (Qc J J)) J<|RunA.rd J J J (Q1 (Qr J)) J<|RunA.no J J J J ?_
 refine RunA.rd J J J (Q1 (Qc J J)) J<|RunA.rd J J J (Q1 (Qr J)) J<|RunA.no J J J J<|RunA.no J J J J<|RunA.rd J J J (Q1 (Qc J J)) J<|RunA.rd J J J (Q1 (JH J)) J ?_
 refine RunA.nil ⟨?ex,_,_,J,?_⟩
 case ex=>exact trivial
 have e:=sI h1;subst e
 exact Qd false (sL (Nat.zero_le _) J J J J J) h0
 replace h1:=Ql c15 h1
 refine RunA.no J J J J<|RunA.no J J J J<|RunA.no J J J J<|RunA.rd J J J (Q1 (Qc J J)) J<|RunA.rd J J J (Q1 (Qr J)) J<|RunA.no J J J J<|RunA.no J J J J<|RunA.no J J J J<|RunA.rd J J J (Q1 (Qc J J)) J<|RunA.rd J J J (Q1 (Qr J)) J<|RunA.no J J J J<|RunA.no J J J J<|RunA.no J J J J<|RunA.no J J J J ?_
 refine RunA.no J J J J<|RunA.no J J J J<|RunA.rd J J J (Q1 (Qc J J)) J<|RunA.rd J J J (Q1 (Qr J)) J<|RunA.no J J J J<|RunA.rd J J J (Q1 (Qc J J)) J<|RunA.rd J J J (Q1 (Qr J)) J<|RunA.no J J J J<|RunA.no J J J J<|RunA.rd J J J (Q1 (Qc J J)) J<|RunA.rd J J J (Q1 (JH J)) J ?_
 refine RunA.nil ⟨?ex,_,_,J,?_⟩
 case ex=>exact trivial
 have e:=sI h1;subst e
 exact Qd false (sL (Nat.zero_le _) J J J J J) h0
 replace h1:=Ql c14 h1
 refine RunA.no J J J J<|RunA.no J J J J<|RunA.no J J J J<|RunA.rd J J J (Q1 (Qc J J)) J<|RunA.rd J J J (Q1 (Qr J)) J<|RunA.no J J J J<|RunA.no J J J J<|RunA.no J J J J<|RunA.rd J J J (Q1 (Qc J J)) J<|RunA.rd J J J (Q1 (Qr J)) J<|RunA.no J J J J<|RunA.no J J J J<|RunA.no J J J J<|RunA.rd J J J (Q1 (Qc J J)) J ?_
 refine RunA.rd J J J (Q1 (Qr J)) J<|RunA.no J J J J<|RunA.no J J J J<|RunA.no J J J J<|RunA.no J J J J<|RunA.no J J J J<|RunA.no J J J J<|RunA.rd J J J (Q1 (Qc J J)) J<|RunA.rd J J J (Q1 (Qr J)) J<|RunA.no J J J J<|RunA.rd J J J (Q1 (Qc J J)) J<|RunA.rd J J J (Q1 (Qr J)) J<|RunA.no J J J J<|RunA.no J J J J ?_
 refine RunA.rd J J J (Q1 (Qc J J)) J<|RunA.rd J J J (Q1 (JH J)) J ?_
 refine RunA.nil ⟨?ex,_,_,J,?_⟩
 case ex=>exact trivial
 have e:=sI h1;subst e
 exact Qd false (sL (Nat.zero_le _) J J J J J) h0
 replace h1:=Ql c13 h1
 refine RunA.no J J J J<|RunA.no J J J J<|RunA.no J J J J<|RunA.rd J J J (Q1 (Qc J J)) J<|RunA.rd J J J (Q1 (Qr J)) J<|RunA.no J J J J<|RunA.no J J J J<|RunA.no J J J J<|RunA.rd J J J (Q1 (Qc J J)) J<|RunA.rd J J J (Q1 (Qr J)) J<|RunA.no J J J J<|RunA.no J J J J<|RunA.no J J J J<|RunA.rd J J J (Q1 (Qc J J)) J ?_
 refine RunA.rd J J J (Q1 (Qr J)) J<|RunA.no J J J J<|RunA.no J J J J<|RunA.no J J J J<|RunA.rd J J J (Q1 (Qc J J)) J<|RunA.rd J J J (Q1 (Qr J)) J<|RunA.no J J J J<|RunA.no J J J J<|RunA.no J J J J<|RunA.no J J J J<|RunA.no J J J J<|RunA.no J J J J<|RunA.rd J J J (Q1 (Qc J J)) J<|RunA.rd J J J (Q1 (Qr J)) J ?_
 refine RunA.no J J J J<|RunA.rd J J J (Q1 (Qc J J)) J<|RunA.rd J J J (Q1 (Qr J)) J<|RunA.no J J J J<|RunA.no J J J J<|RunA.rd J J J (Q1 (Qc J J)) J<|RunA.rd J J J (Q1 (JH J)) J ?_
 refine RunA.nil ⟨?ex,_,_,J,?_⟩
 case ex=>exact trivial
 have e:=sI h1;subst e
 exact Qd false (sL (Nat.zero_le _) J J J J J) h0
 replace h1:=Ql c12 h1
 refine RunA.no J J J J<|RunA.no J J J J<|RunA.rd J J J (Q1 (Qc J J)) J<|RunA.rd J J J (Q1 (Qr J)) J<|RunA.no J J J J<|RunA.no J J J J<|RunA.no J J J J<|RunA.rd J J J (Q1 (Qc J J)) J<|RunA.rd J J J (Q1 (Qr J)) J<|RunA.no J J J J<|RunA.no J J J J<|RunA.no J J J J<|RunA.rd J J J (Q1 (Qc J J)) J<|RunA.rd J J J (Q1 (Qr J)) J ?_
 refine RunA.no J J J J<|RunA.no J J J J<|RunA.no J J J J<|RunA.rd J J J (Q1 (Qc J J)) J<|RunA.rd J J J (Q1 (Qr J)) J<|RunA.no J J J J<|RunA.no J J J J<|RunA.no J J J J<|RunA.rd J J J (Q1 (Qc J J)) J<|RunA.rd J J J (Q1 (Qr J)) J<|RunA.no J J J J<|RunA.no J J J J<|RunA.no J J J J<|RunA.no J J J J ?_
 refine RunA.no J J J J<|RunA.no J J J J<|RunA.rd J J J (Q1 (Qc J J)) J<|RunA.rd J J J (Q1 (Qr J)) J<|RunA.no J J J J<|RunA.rd J J J (Q1 (Qc J J)) J<|RunA.rd J J J (Q1 (Qr J)) J<|RunA.no J J J J<|RunA.no J J J J<|RunA.rd J J J (Q1 (Qc J J)) J<|RunA.rd J J J (Q1 (JH J)) J ?_
 refine RunA.nil ⟨?ex,_,_,J,?_⟩
 case ex=>exact trivial
 have e:=sI h1;subst e
 exact Qd false (sL (Nat.zero_le _) J J J J J) h0
 replace h1:=Ql c11 h1
 refine RunA.no J J J J<|RunA.no J J J J<|RunA.rd J J J (Q1 (Qc J J)) J<|RunA.rd J J J (Q1 (Qr J)) J<|RunA.no J J J J<|RunA.no J J J J<|RunA.rd J J J (Q1 (Qc J J)) J<|RunA.rd J J J (Q1 (Qr J)) J<|RunA.no J J J J<|RunA.no J J J J<|RunA.no J J J J<|RunA.rd J J J (Q1 (Qc J J)) J<|RunA.rd J J J (Q1 (Qr J)) J<|RunA.no J J J J ?_
 refine RunA.no J J J J<|RunA.no J J J J<|RunA.rd J J J (Q1 (Qc J J)) J<|RunA.rd J J J (Q1 (Qr J)) J<|RunA.no J J J J<|RunA.no J J J J<|RunA.no J J J J<|RunA.rd J J J (Q1 (Qc J J)) J<|RunA.rd J J J (Q1 (Qr J)) J<|RunA.no J J J J<|RunA.no J J J J<|RunA.no J J J J<|RunA.rd J J J (Q1 (Qc J J)) J<|RunA.rd J J J (Q1 (Qr J)) J ?_
 refine RunA.no J J J J<|RunA.no J J J J<|RunA.no J J J J<|RunA.no J J J J<|RunA.no J J J J<|RunA.no J J J J<|RunA.rd J J J (Q1 (Qc J J)) J<|RunA.rd J J J (Q1 (Qr J)) J<|RunA.no J J J J<|RunA.rd J J J (Q1 (Qc J J)) J<|RunA.rd J J J (Q1 (Qr J)) J<|RunA.no J J J J<|RunA.no J J J J<|RunA.rd J J J (Q1 (Qc J J)) J ?_
 refine RunA.rd J J J (Q1 (JH J)) J ?_
 refine RunA.nil ⟨?ex,_,_,J,?_⟩
 case ex=>exact trivial
 have e:=sI h1;subst e
 exact Qd false (sL (Nat.zero_le _) J J J J J) h0
 replace h1:=Ql c10 h1
 refine RunA.no J J J J<|RunA.no J J J J<|RunA.rd J J J (Q1 (Qc J J)) J<|RunA.rd J J J (Q1 (Qr J)) J<|RunA.no J J J J<|RunA.no J J J J<|RunA.rd J J J (Q1 (Qc J J)) J<|RunA.rd J J J (Q1 (Qr J)) J<|RunA.no J J J J<|RunA.no J J J J<|RunA.rd J J J (Q1 (Qc J J)) J<|RunA.rd J J J (Q1 (Qr J)) J<|RunA.no J J J J<|RunA.no J J J J ?_
 refine RunA.no J J J J<|RunA.rd J J J (Q1 (Qc J J)) J<|RunA.rd J J J (Q1 (Qr J)) J<|RunA.no J J J J<|RunA.no J J J J<|RunA.no J J J J<|RunA.rd J J J (Q1 (Qc J J)) J<|RunA.rd J J J (Q1 (Qr J)) J<|RunA.no J J J J<|RunA.no J J J J<|RunA.no J J J J<|RunA.rd J J J (Q1 (Qc J J)) J<|RunA.rd J J J (Q1 (Qr J)) J<|RunA.no J J J J ?_
 refine RunA.no J J J J<|RunA.no J J J J<|RunA.rd J J J (Q1 (Qc J J)) J<|RunA.rd J J J (Q1 (Qr J)) J<|RunA.no J J J J<|RunA.no J J J J<|RunA.no J J J J<|RunA.no J J J J<|RunA.no J J J J<|RunA.no J J J J<|RunA.rd J J J (Q1 (Qc J J)) J<|RunA.rd J J J (Q1 (Qr J)) J<|RunA.no J J J J<|RunA.rd J J J (Q1 (Qc J J)) J ?_
 refine RunA.rd J J J (Q1 (Qr J)) J<|RunA.no J J J J<|RunA.no J J J J<|RunA.rd J J J (Q1 (Qc J J)) J<|RunA.rd J J J (Q1 (JH J)) J ?_
 refine RunA.nil ⟨?ex,_,_,J,?_⟩
 case ex=>exact trivial
 have e:=sI h1;subst e
 exact Qd false (sL (Nat.zero_le _) J J J J J) h0
 replace h1:=Ql c9 h1
 refine RunA.no J J J J<|RunA.no J J J J<|RunA.rd J J J (Q1 (Qc J J)) J<|RunA.rd J J J (Q1 (Qr J)) J<|RunA.no J J J J<|RunA.no J J J J<|RunA.rd J J J (Q1 (Qc J J)) J<|RunA.rd J J J (Q1 (Qr J)) J<|RunA.no J J J J<|RunA.no J J J J<|RunA.rd J J J (Q1 (Qc J J)) J<|RunA.rd J J J (Q1 (Qr J)) J<|RunA.no J J J J<|RunA.no J J J J ?_
 refine RunA.rd J J J (Q1 (Qc J J)) J<|RunA.rd J J J (Q1 (Qr J)) J<|RunA.no J J J J<|RunA.no J J J J<|RunA.no J J J J<|RunA.rd J J J (Q1 (Qc J J)) J<|RunA.rd J J J (Q1 (Qr J)) J<|RunA.no J J J J<|RunA.no J J J J<|RunA.no J J J J<|RunA.rd J J J (Q1 (Qc J J)) J<|RunA.rd J J J (Q1 (Qr J)) J<|RunA.no J J J J<|RunA.no J J J J ?_
 refine RunA.no J J J J<|RunA.rd J J J (Q1 (Qc J J)) J<|RunA.rd J J J (Q1 (Qr J)) J<|RunA.no J J J J<|RunA.no J J J J<|RunA.no J J J J<|RunA.rd J J J (Q1 (Qc J J)) J<|RunA.rd J J J (Q1 (Qr J)) J<|RunA.no J J J J<|RunA.no J J J J<|RunA.no J J J J<|RunA.no J J J J<|RunA.no J J J J<|RunA.no J J J J ?_
 refine RunA.rd J J J (Q1 (Qc J J)) J<|RunA.rd J J J (Q1 (Qr J)) J<|RunA.no J J J J<|RunA.rd J J J (Q1 (Qc J J)) J<|RunA.rd J J J (Q1 (Qr J)) J<|RunA.no J J J J<|RunA.no J J J J<|RunA.rd J J J (Q1 (Qc J J)) J<|RunA.rd J J J (Q1 (JH J)) J ?_
 refine RunA.nil ⟨?ex,_,_,J,?_⟩
 case ex=>exact trivial
 have e:=sI h1;subst e
 exact Qd false (sL (Nat.zero_le _) J J J J J) h0
 intro v7 h0
 refine Q4<|QD ?_
 have e:=sI h0;subst e
 exact QL (fun _ _ h=>h) J (QC J .nil) (.cons (.one (.d _)) .nil)
theorem m10_true:m10=some true:=by kernel_rfl
theorem awake_fun:Fun Try.prog 10 [] (QK [.one (dB true)]):=m10_ok true m10_true
end Go.Proofs.Ytafddfoefeploaa
