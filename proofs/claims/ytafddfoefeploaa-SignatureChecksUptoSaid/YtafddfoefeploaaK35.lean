/- Part 5 of the proof: rules, mirrors and plain laws. The statement SignatureChecksUpto is proved here: for every list of declarations the law returns true, and what it is given reads behind the call ars it did before; condition: the arguments are of bulk at most 1048576 (the second form). -/
import Derived.Test.YtafddfoefeploaaK34
set_option maxRecDepth 100000
set_option maxHeartbeats 2000000
namespace Go.Proofs.Ytafddfoefeploaa
open Go.RowKit Go.Shelf
set_option linter.unusedSimpArgs false
set_option linter.unusedVariables false
theorem z_59:JL Try.prog 59=some [.pointer none]:=by kernel_rfl
theorem bd_62:Y4 Try.prog 62 [(0,1),(1,1)] [.slice none 0 0,.map none]:=⟨by kernel_rfl,by kernel_rfl⟩
theorem en_11:QZ Try.prog 11:=enters_of Try.func11 (by kernel_rfl) rfl
theorem m11_ok (a0:List Dcl) (r:Int×Int) (h0:Dl a0=some r):Fun Try.prog 11 [.one (dS a0)] (QM [.one (dI r.1),.one (dI r.2)]):=by
 unfold Dl at h0
 refine QB 9 48 Try.func11 Z en_11 Z (lb Z) (fun S w=>?_)
 simp only [J5]
 refine Q4<|Q0<|rA Z Z Z<|rA Z Z Z<|Q5<|Q3<|Q4<|Q4<|Q0<|DZ Z Z Z<|DY Z Z Z (Qx (α:=Dcl) YP Z (.d _))<|DY Z Z Z (Q7 Z Z Z)<|Q5<|Q3 ?_
 refine Qe (b:=(decide (1000 < (a0.length:Int)))) Z (fun c1=>?_) (fun c1=>?_)
 replace h0:=Qf c1 h0
 refine Q4<|Q0<|rA Z Z Z<|rA Z Z Z<|Q5<|Q3<|Qp ?_
 have e:=DW h0;subst e
 exact Qo (fun _ _ h=>h) Z (Qn Z (Qn Z .nil)) (.cons (.one (.d _)) (.cons (.one (.d _)) .nil))
 replace h0:=Qg c1 h0
 refine Qh<|Q3<|Q4<|Q0<|Qa Z Z (lb Z) (OpOK.makeMapG Bs Ent)<|DY Z Z Z (RO.build1 bd_62 Z Z Z)<|Qa Z Z (lb Z) (QN Z)<|Qa Z Z (lb Z) (Qu z_59 Z)<|QA Z Z (Qz XM Z Z Z Z (lb Z) Z)<|Q5<|Q3<|Q4<|Q4<|Q0 ?_
 refine DZ Z Z Z<|DY Z Z Z (Qx (α:=Dcl) YP Z (.d _))<|DZ Z Z Z<|Q5<|Q3<|Ql ?_
 refine QS 0 (fun (o2:(Qm Bs Ent)×(List Dcl))=>⟨[],[(0,.mp (J1 o2.1.1) o2.1.2),(1,.cells 62 [dS o2.2,.mp 0]),(2,.cells 59 [.ptr 1 0])],[],3,48,[]⟩) (fun (o2:(Qm Bs Ent)×(List Dcl))=>(some (0,0))=some r) ?_ ?_
 refine Qc h0 (fun o3 hl1 h0=>?_)
 refine QR (Wd a0) (fun s1=>⟨[(0,.v (.one (dS a0))),(4,.v (.one (.ptr 2 0))),(16,.v (.one (dS a0))),(17,.v (.one (dI (a0.length:Int)))),(18,.v (.one (dI s1.1)))],[(0,.mp (J1 s1.2.1.1) s1.2.1.2),(1,.cells 62 [dS s1.2.2,.mp 0]),(2,.cells 59 [.ptr 1 0])],[],3,48,[]⟩) (0,gmNil,([]:List Dcl)) o3 (QT (DU Z) (hR Z (hC Z (.cons (.sub (.nil _)) (.cons (.refl _) .nil)) (hA Z))) kZ Z (Nat.zero_le _) Z Z Z (bG Z (bA Z)) Z Z) hl1 (fun s1 n1 oo1 h1 ho1=>?_)
 unfold Wd at h1
 refine Q4<|Q0<|DY Z Z Z (Q7 Z Z Z)<|Q5<|Q3<|Q4 ?_
 refine Qe (b:=(decide (s1.1 < (a0.length:Int)))) Z (fun c4=>?_) (fun c4=>?_)
 replace h1:=Qf c4 h1
 refine Qh<|Q3<|Q4<|Ql<|Q4<|Q0<|DZ Z Z Z ?_
 refine Qc h1 (fun x5 hx5 h1=>?_)
 refine DY Z Z Z (Qt (α:=Dcl) YP Z (.d _) Z hx5)<|DY Z Z Z (Qw (x5:Dcl) JE Z)<|Qa Z Z (lb Z) (Qu Ub Z)<|rA Z Z Z<|QA Z Z (QD (x5:Dcl) JE Z Z Z Z Z)<|Q5<|Q3<|Q4 ?_
 refine J6 [6] [] JT (by kernel_rfl) (by kernel_rfl) (by kernel_rfl) ?_
 refine RunA.rd Z Z Z (Q1 (Q6 XM Z Z Z)) Z<|RunA.rd Z Z Z (Q1 (Qr Z)) Z<|RunA.rd Z Z Z (Q1 (Qr Z)) Z ?_
 refine Yo h1 (fun g6 h1=>?_)
 refine RunA.rd Z Z Z (Q1 (G7 (α:=Dcl) YP Z (.d _) Z g6)) Z<|RunA.rd Z Z Z (Q1 (Jy Z)) Z<|RunA.rd Z Z Z (Q1 (Q2 fo_62_0 Z)) Z<|RunA.eff Z Z Z (Qz WN Z Z Z Z (lb Z) Z) Z ?_
 refine RunA.nil ⟨?ex,_,_,Z,?_⟩
 case ex=>exact trivial
 refine Jo (st':=⟨[(0,.v (.one (dS a0))),(4,.v (.one (.ptr 2 0))),(5,.v (.one (dI s1.1))),(6,.v (.one (.ptr 3 0))),(16,.v (.one (dS a0))),(17,.v (.one (dI (a0.length:Int)))),(18,.v (.one (dI s1.1)))],m11_h0 s1 a0 x5,[],4,48,[]⟩) (QT (DU Z) (hA Z) kZ Z (Nat.zero_le _) Z Z Z (bG Z (bA Z)) Z Z)<|Q3<|Q4<|Q4<|Q0<|DY Z Z Z (Q6 XM Z Z Z)<|DY Z Z Z (QH (x5:Dcl) JE Z Z) ?_
 refine Qc h1 (fun x7 hx7 h1=>?_)
 refine Qa Z Z (lb Z) (Jz (hp1':=[(1,.cells 62 [dS ((a0.take s1.1.toNat):List Dcl),.mp 0]),(0,.mp (J1 s1.2.1.1) s1.2.1.2),(5,.cells 25 [dI x7])]) (tk1':=[]) (hpF:=[(2,.cells 59 [.ptr 1 0]),(3,.cells 45 (cE x5))]) (tkF:=[]) (res2:=QM [.one (dI x7)]) (nx2:=6) [1,0] Z Z (m30f4_ok x5 (a0.take s1.1.toNat) s1.2.1 x7 hx7) Z Z (qB Z Z (qG Z (qB Z Z qZ))) Z Z (gR Z (gG Z gZ)) jZ (hA Z) kZ Z Z Z Z Z (bB Z Z (bG Z bZ)) Z Z Z Z)<|rA Z Z Z<|Q5<|Q3<|Q4<|Q0<|DZ Z Z Z<|DY Z Z Z (Q7 Z Z Z)<|Q5<|Q3 ?_
 refine Qe (b:=(x7 != 0)) Z (fun c8=>?_) (fun c8=>?_)
 replace h1:=Qf c8 h1
 refine Q4<|Q0<|DZ Z Z Z<|DZ Z Z Z<|rA Z Z Z<|rA Z Z Z<|Q5<|Q3<|Qp ?_
 have e:=DW h1;subst e
 have e_:_=_:=ho1
 subst e_
 try dsimp only [Sum.elim_inl,Sum.elim_inr] at h0
 have e:=DW h0;subst e
 exact Qo (fun _ _ h=>h) Z (Qn Z (Qn Z .nil)) (.cons (.one (.d _)) (.cons (.one (.d _)) .nil))
 replace h1:=Qg c8 h1
 refine Qh<|Q3<|Q4<|Q0<|DY Z Z Z (QH (x5:Dcl) JE Z Z)<|DZ Z Z Z ?_
 refine Qc h1 (fun y9 h2 h1=>?_)
 have hc10:CallM Try.prog 31 [.agg (cE x5),.one (dI s1.1)] ⟨m11_h1 s1 a0 x5 x7,[],6⟩ (QM [.one (.fn 49 [(7,0),(6,0)])]) ⟨m11_h2 s1 a0 x5 x7,[],8⟩:=by
  refine Jh ⟨[(4,.v (.one (.fn 49 [(7,0),(6,0)])))],m11_h2 s1 a0 x5 x7,[],8,6,[]⟩ Z Z en_31 (lb Z) Z (Qn Z .nil) (fun w0 M V0 Q hv2 hQ2=>?_)
  simp only [J5]
  refine Q4<|Q0<|Qa Z Z (lb Z) (QN Z)<|Qa Z Z (lb Z) (QN Z)<|rA Z Z Z<|Q5<|Q3<|Q4<|Q0<|DY Z Z Z (RO.makeFunc2 Z Z)<|rA Z Z Z<|Q5<|Q3<|Qp ?_
  have e:=DW h2;subst e
  exact hQ2 _ _ _ (.inr Z) Z (QT (DU Z) (hA Z) kZ Z (Nat.le_trans hv2 (lb Z)) Z Z Z (bG Z (bA Z)) Z Z)
 refine Qa Z Z (lb Z) (Yb Z Z Z hc10 Z (hA Z) kZ)<|Q5<|Q3<|Ql<|X3 (st':=⟨[(0,.v (.one (dS a0))),(4,.v (.one (.ptr 2 0))),(16,.v (.one (dS a0))),(17,.v (.one (dI (a0.length:Int)))),(18,.v (.one (dI s1.1))),(38,.v (.one (.fn 49 [(7,0),(6,0)])))],m11_h2 s1 a0 x5 x7,[],8,48,[]⟩) (QT (DU Z) (hA Z) kZ Z (Nat.zero_le _) Z Z Z (bG Z (bA Z)) Z Z) ?_
 refine Qc h1 (fun y11 h2 h1=>?_)
 have hc12:CallM Try.prog 49 [.one (.yld 9),.one (.ptr 7 0),.one (.ptr 6 0)] ⟨[(9,.loop .ready none [(0,.v (.one (dS a0))),(4,.v (.one (.ptr 2 0))),(16,.v (.one (dS a0))),(17,.v (.one (dI (a0.length:Int)))),(18,.v (.one (dI s1.1))),(38,.v (.one (.fn 49 [(7,0),(6,0)])))] 48 #[39,40] Xu Xt 8),(8,.obj (.deferred (some []))),(0,.mp (J1 s1.2.1.1) s1.2.1.2),(1,.cells 62 [dS ((a0.take s1.1.toNat):List Dcl),.mp 0]),(2,.cells 59 [.ptr 1 0]),(3,.cells 45 (cE x5)),(5,.cells 25 [dI x7]),(6,.cells 45 (cE x5)),(7,.cells 3 [dI s1.1])],[],10⟩ (QM []) ⟨m11_h4 y11 a0 s1 x5 x7,[],11⟩:=by
  refine Jh ⟨[],m11_h4 y11 a0 s1 x5 x7,[],11,98,[]⟩ Z Z en_49 (lb Z) Z .nil (fun w0 M V0 Q hv2 hQ2=>?_)
  simp only [J5]
  refine Q4<|Q0<|DY Z Z Z (Q6 QI Z Z Z)<|DY Z Z Z (Q2 Jx Z)<|DY Z Z Z (Q6 QI Z Z Z)<|DY Z Z Z (Q2 Zt Z)<|DY Z Z Z (Qk QU Z Z Z Z)<|DY Z Z Z (ZF Zm Z Z Z Z Z)<|Qa Z Z (lb Z) (Qu Zg Z)<|QA Z Z (Qz Ja Z Z Z Z (lb Z) Z)<|Q5<|Q3<|Q4<|Q0 ?_
  refine DY Z Z Z (Q2 JP Z)<|DY Z Z Z (Q6 QI Z Z Z)<|Q5<|Q3<|Ql<|Q4<|Q4<|Q0<|DY Z Z Z (Q7 Z Z Z)<|rA Z Z Z<|Q5<|Q3 ?_
  refine QC (fun (v13:Bool)=>⟨[(0,.v (.one (.yld 9))),(1,.v (.one (.ptr 7 0))),(2,.v (.one (.ptr 6 0))),(4,.v (.one (.ptr 10 0))),(16,.v (.one (dI x5.kind))),(17,.v (.one (dB v13)))],m11_h6 s1 a0 x5 x7,[],11,98,[]⟩) (fun (v13:Bool)=>(U1 v13 x5 s1)=some y11) ?_ ?_
  refine Qc h2 (fun w3_ h3 h2=>?_)
  refine Qe (b:=(x5.kind==0)) Z (fun c14=>?_) (fun c14=>?_)
  replace h3:=Qf c14 h3
  refine Qh ?_
  have e:=DW h3;subst e
  exact Q9 (x5.kind==0) (QT (DU Z) (hA Z) kZ Z (Nat.le_trans hv2 (lb Z)) Z Z Z (bG Z (bA Z)) Z Z) h2
  replace h3:=Qg c14 h3
  refine Q4<|Q0<|DY Z Z Z (Q7 Z Z Z)<|rA Z Z Z<|Q5<|Q3 ?_
  refine Qe (b:=(x5.kind==1)) Z (fun c15=>?_) (fun c15=>?_)
  replace h3:=Qf c15 h3
  refine Qh ?_
  have e:=DW h3;subst e
  exact Q9 (x5.kind==1) (QT (DU Z) (hA Z) kZ Z (Nat.le_trans hv2 (lb Z)) Z Z Z (bG Z (bA Z)) Z Z) h2
  replace h3:=Qg c15 h3
  refine Q0<|DY Z Z Z (Q7 Z Z Z)<|rA Z Z Z<|Q5 ?_
  have e:=DW h3;subst e
  exact Q9 (x5.kind==2) (QT (DU Z) (hA Z) kZ Z (Nat.le_trans hv2 (lb Z)) Z Z Z (bG Z (bA Z)) Z Z) h2
  intro v13 h2
  unfold U1 at h2
  refine Q3 ?_
  refine Qe (b:=v13) Z (fun c16=>?_) (fun c16=>?_)
  replace h2:=Qf c16 h2
  refine Q4<|Q0<|Qa Z Z (lb Z) (OpOK.lit3E (α:=Int) 0 1 2 WK DE Z Z (lb Z) (lb Z) Z Z Z Z (.cons (.d _) (.cons (.d _) (.cons (.d _) .nil))) ⟨Z,Z,Z⟩)<|DY Z Z Z (Q2 JP Z)<|DY Z Z Z (Q6 QI Z Z Z) ?_
  refine Qc h2 (fun x17 hx17 h2=>?_)
  refine DY Z Z Z (Qt (α:=Int) WK Z (.app _ _) Z hx17)<|DY Z Z Z (Ji QI Z Z)<|DY Z Z Z (Q2 YT Z)<|QA Z Z (Qz QI Z Z Z Z (lb Z) Z)<|Q5<|Q3<|Q0<|DZ Z Z Z<|DY Z Z Z (Q2 JU Z)<|DY Z Z Z (Q6 JK Z Z Z)<|DY Z Z Z (Qk Ja Z Z Z Z) ?_
  refine Qc h2 (fun y18 h3 h2=>?_)
  have ha19:ExecOK Try.prog (some 9) Xu ⟨[(0,.v (.one (dS a0))),(4,.v (.one (.ptr 2 0))),(16,.v (.one (dS a0))),(17,.v (.one (dI (a0.length:Int)))),(18,.v (.one (dI s1.1))),(38,.v (.one (.fn 49 [(7,0),(6,0)]))),(39,.v (.one (J3 x5.name))),(40,.v (.agg [dI x17,dI s1.1,dI 0,dI x5.params,dI x5.ty.kind,dI x5.ty.index,J3 x5.ty.name,dS x5.ty.levels,dS x5.ty.kids]))],m11_h8 s1 a0 x5 x7 x17,[(11,some ⟨3,1,(Enc.encL ([0,1,2]:List Int)).length,[]⟩)],12,48,[]⟩ .normal ⟨[(4,.v (.one (.ptr 2 0))),(8,.v (.one (J3 x5.name))),(9,.v (.one (.ptr 12 0)))],m11_h11 s1 a0 x5 x7 x17,[(11,some ⟨3,1,(Enc.encL ([0,1,2]:List Int)).length,[]⟩)],13,48,[]⟩:=by
   refine QX (fun w0 M V0 ro n Q hv3 hro3 hQn3=>?_)
   refine Q4<|Q0<|rA Z Z Z<|Q5<|Q3<|Q0<|Qa Z Z (lb Z) (Qu Zg Z)<|QA Z Z (Qz Ja Z Z Z Z (lb Z) Z)<|Q5 ?_
   exact JJ hQn3 (QT (DU Z) (hA Z) (kA Z) Z (Nat.le_trans hv3 (lb Z)) Z Z Z (bG Z (bA Z)) Z Z)
  have hb20:ExecOK Try.prog (some 9) Xt ⟨[(4,.v (.one (.ptr 2 0))),(8,.v (.one (J3 x5.name))),(9,.v (.one (.ptr 12 0)))],m11_h10 s1 a0 x5 x7 x17,[(11,some ⟨3,1,(Enc.encL ([0,1,2]:List Int)).length,[]⟩)],13,48,[]⟩ .normal ⟨[],m11_h13 s1 x5 x17 a0 x7,[(11,some ⟨3,1,(Enc.encL ([0,1,2]:List Int)).length,[]⟩)],13,48,[]⟩:=by
   refine QX (fun w0 M V0 ro n Q hv3 hro3 hQn3=>?_)
   refine Ql ?_
   refine J6 [6] [] JT (by kernel_rfl) (by kernel_rfl) (by kernel_rfl) ?_
   refine RunA.rd Z Z Z (Q1 (Q6 XM Z Z Z)) Z<|RunA.rd Z Z Z (Q1 (Jy Z)) Z<|RunA.rd Z Z Z (Q1 (Q2 K9 Z)) Z<|RunA.rd Z Z Z (Q1 (Q6 YC Z Z Z)) Z<|RunA.rd Z Z Z (Q1 (Qr Z)) Z<|RunA.rd Z Z Z (Q1 (Qk Ja Z Z Z Z)) Z<|RunA.eff Z Z Z (Jt (M:=s1.2.1) (k:=x5.name) (v:=(⟨x17,s1.1,0,x5.params,x5.ty⟩:Ent)) YU Z Z Z Z Z) Z ?_
   refine RunA.nil ⟨?ex,_,_,Z,?_⟩
   case ex=>exact trivial
   refine Jo (st':=⟨[],m11_h14 s1 x5 x17 a0 x7,[(11,some ⟨3,1,(Enc.encL ([0,1,2]:List Int)).length,[]⟩)],13,48,[]⟩) (QT DT (hA Z) (kA Z) Z (Nat.le_trans hv3 (lb Z)) Z Z Z (bG Z (bA Z)) Z Z)<|Qj ?_
   have e:=DW h3;subst e
   exact JJ hQn3 (QT DT (hA Z) (kA Z) Z (Nat.le_trans hv3 (lb Z)) Z Z Z (bG Z (bA Z)) Z Z)
  refine Qa Z Z (lb Z) (Jj (jump:=none) Z Z Z Z Z (QJ ha19 (fun E hv=>(QT (DU Z) (hA Z) (kA Z) Z (Nat.le_trans hv (lb Z)) Z Z Z (bG Z (bA Z)) Z Z))) Z (QJ hb20 (fun E hv=>(QT (DU Z) (hA Z) (kA Z) Z (Nat.le_trans hv (lb Z)) Z Z Z (bG Z (bA Z)) Z Z))) Z Z) ?_
  refine Q5<|Qj ?_
  have e:=DW h2;subst e
  exact hQ2 _ _ _ (.inl Z) Z (QT DT (hA Z) kZ Z (Nat.le_trans hv2 (lb Z)) Z Z Z (bG Z (bA Z)) Z Z)
  replace h2:=Qg c16 h2
  refine Q4<|Q0<|DY Z Z Z (Q7 Z Z Z)<|rA Z Z Z<|Q5<|Q3 ?_
  refine Qe (b:=(x5.kind==3)) Z (fun c21=>?_) (fun c21=>?_)
  replace h2:=Qf c21 h2
  refine Q4<|Q0<|DY Z Z Z (Q2 YT Z)<|QA Z Z (Qz QI Z Z Z Z (lb Z) Z)<|Q5<|Q3<|Q4<|Q4<|Q0<|DZ Z Z Z<|DY Z Z Z (Q2 JU Z)<|DY Z Z Z (Q6 JK Z Z Z)<|DY Z Z Z (Qk Ja Z Z Z Z) ?_
  refine Qc h2 (fun y22 h3 h2=>?_)
  have ha23:ExecOK Try.prog (some 9) Xu ⟨[(0,.v (.one (dS a0))),(4,.v (.one (.ptr 2 0))),(16,.v (.one (dS a0))),(17,.v (.one (dI (a0.length:Int)))),(18,.v (.one (dI s1.1))),(38,.v (.one (.fn 49 [(7,0),(6,0)]))),(39,.v (.one (J3 x5.name))),(40,.v (.agg [dI 3,dI s1.1,dI 0,dI x5.params,dI x5.ty.kind,dI x5.ty.index,J3 x5.ty.name,dS x5.ty.levels,dS x5.ty.kids]))],m11_h16 s1 a0 x5 x7,[],11,48,[]⟩ .normal ⟨[(4,.v (.one (.ptr 2 0))),(8,.v (.one (J3 x5.name))),(9,.v (.one (.ptr 11 0)))],m11_h18 s1 a0 x5 x7,[],12,48,[]⟩:=by
   refine QX (fun w0 M V0 ro n Q hv3 hro3 hQn3=>?_)
   refine Q4<|Q0<|rA Z Z Z<|Q5<|Q3<|Q0<|Qa Z Z (lb Z) (Qu Zg Z)<|QA Z Z (Qz Ja Z Z Z Z (lb Z) Z)<|Q5 ?_
   exact JJ hQn3 (QT (DU Z) (hA Z) kZ Z (Nat.le_trans hv3 (lb Z)) Z Z Z (bG Z (bA Z)) Z Z)
  have hb24:ExecOK Try.prog (some 9) Xt ⟨[(4,.v (.one (.ptr 2 0))),(8,.v (.one (J3 x5.name))),(9,.v (.one (.ptr 11 0)))],m11_h17 s1 a0 x5 x7,[],12,48,[]⟩ .normal ⟨[],m11_h20 s1 x5 a0 x7,[],12,48,[]⟩:=by
   refine QX (fun w0 M V0 ro n Q hv3 hro3 hQn3=>?_)
   refine Ql ?_
   refine J6 [6] [] JT (by kernel_rfl) (by kernel_rfl) (by kernel_rfl) ?_
   refine RunA.rd Z Z Z (Q1 (Q6 XM Z Z Z)) Z<|RunA.rd Z Z Z (Q1 (Jy Z)) Z<|RunA.rd Z Z Z (Q1 (Q2 K9 Z)) Z<|RunA.rd Z Z Z (Q1 (Q6 YC Z Z Z)) Z<|RunA.rd Z Z Z (Q1 (Qr Z)) Z<|RunA.rd Z Z Z (Q1 (Qk Ja Z Z Z Z)) Z<|RunA.eff Z Z Z (Jt (M:=s1.2.1) (k:=x5.name) (v:=(⟨3,s1.1,0,x5.params,x5.ty⟩:Ent)) YU Z Z Z Z Z) Z ?_
   refine RunA.nil ⟨?ex,_,_,Z,?_⟩
   case ex=>exact trivial
   refine Jo (st':=⟨[],m11_h21 s1 x5 a0 x7,[],12,48,[]⟩) (QT DT (hA Z) kZ Z (Nat.le_trans hv3 (lb Z)) Z Z Z (bG Z (bA Z)) Z Z)<|Qj ?_
   have e:=DW h3;subst e
   exact JJ hQn3 (QT DT (hA Z) kZ Z (Nat.le_trans hv3 (lb Z)) Z Z Z (bG Z (bA Z)) Z Z)
  refine Qa Z Z (lb Z) (Jj (jump:=none) Z Z Z Z Z (QJ ha23 (fun E hv=>(QT (DU Z) (hA Z) kZ Z (Nat.le_trans hv (lb Z)) Z Z Z (bG Z (bA Z)) Z Z))) Z (QJ hb24 (fun E hv=>(QT (DU Z) (hA Z) kZ Z (Nat.le_trans hv (lb Z)) Z Z Z (bG Z (bA Z)) Z Z))) Z Z) ?_
  refine DY Z Z Z (Jg Z)<|Q5<|Q3 ?_
  refine Qe Z (fun h=>nomatch h) (fun _=>?_)
  refine Qh<|Q3<|Q4<|Q4<|Q0<|DY Z Z Z (Q2 JC Z)<|DY Z Z Z (Q6 Ys Z Z Z)<|DY Z Z Z (Qx (α:=Ctr) Y1 Z (.d _))<|DZ Z Z Z<|Q5<|Q3<|Ql ?_
  refine QS 1 (fun (o25:(Qm Bs Ent))=>⟨[(0,.v (.one (.yld 9))),(1,.v (.one (.ptr 7 0))),(2,.v (.one (.ptr 6 0)))],[(0,.mp (J1 o25.1) o25.2),(1,.cells 62 [dS ((a0.take s1.1.toNat):List Dcl),.mp 0]),(2,.cells 59 [.ptr 1 0]),(3,.cells 45 (cE x5)),(5,.cells 25 [dI x7]),(6,.cells 45 (cE x5)),(7,.cells 3 [dI s1.1]),(8,.obj (.deferred (some []))),(9,Zo a0 s1),(10,Ym s1 x5)],[],12,98,[]⟩) (fun (o25:(Qm Bs Ent))=>(Jv (Nat.ble (x5.name.length+([46,114,101,99]:List UInt8).length) 1000000000)
    (Option.bind (some ()) (fun (y27:Unit)=>some (J9 o25 (x5.name++([46,114,101,99]:List UInt8)) (⟨5,s1.1,0,x5.rcr.params,x5.rcr.ty⟩:Ent)))))=some y11) ?_ ?_
  refine Qc h2 (fun o26 hl3 h2=>?_)
  refine QR (m11_l0 x5 s1) (fun s3=>⟨[(0,.v (.one (.yld 9))),(1,.v (.one (.ptr 7 0))),(2,.v (.one (.ptr 6 0))),(42,.v (.one (dS x5.ctors))),(43,.v (.one (dI (x5.ctors.length:Int)))),(44,.v (.one (dI s3.1)))],[(0,.mp (J1 s3.2.1) s3.2.2),(1,.cells 62 [dS ((a0.take s1.1.toNat):List Dcl),.mp 0]),(2,.cells 59 [.ptr 1 0]),(3,.cells 45 (cE x5)),(5,.cells 25 [dI x7]),(6,.cells 45 (cE x5)),(7,.cells 3 [dI s1.1]),(8,.obj (.deferred (some []))),(9,Zo a0 s1),(10,Ym s1 x5)],[],12,98,[]⟩) (0,(J9 s1.2.1 x5.name (⟨3,s1.1,0,x5.params,x5.ty⟩:Ent))) o26 (QT (DU Z) (hA Z) kZ Z (Nat.le_trans hv2 (lb Z)) Z Z Z (bG Z (bA Z)) Z Z) hl3 (fun s3 n3 oo3 h3 ho3=>?_)
  unfold m11_l0 at h3
  refine Q4<|Q0<|DY Z Z Z (Q7 Z Z Z)<|Q5<|Q3<|Q4 ?_
  refine Qe (b:=(decide (s3.1 < (x5.ctors.length:Int)))) Z (fun c27=>?_) (fun c27=>?_)
  replace h3:=Qf c27 h3
  refine Qh<|Q3<|Q4<|Ql<|Q4<|Q0<|DZ Z Z Z ?_
  refine Qc h3 (fun x28 hx28 h3=>?_)
  refine DY Z Z Z (Qt (α:=Ctr) Y1 Z (.d _) Z hx28)<|DY Z Z Z (Qw (x28:Ctr) Kr Z)<|Qa Z Z (lb Z) (Qu Uk Z)<|rA Z Z Z<|QA Z Z (QD (x28:Ctr) Kr Z Z Z Z Z)<|Q5<|Q3<|Q4<|Q0<|DZ Z Z Z<|DY Z Z Z (Q2 K8 Z)<|DY Z Z Z (Q6 JK Z Z Z)<|DY Z Z Z (Q6 QI Z Z Z)<|DZ Z Z Z ?_
  refine DY Z Z Z (Q2 Jx Z)<|DY Z Z Z (Q6 QI Z Z Z)<|DY Z Z Z (Q2 Zk Z)<|DY Z Z Z (Qk QU Z Z Z Z)<|DY Z Z Z (JW Zm Z (.cons Z (.cons Z (.cons Z (.cons Z (.cons Z .nil))))) Z) ?_
  refine Qc h3 (fun y29 h4 h3=>?_)
  have ha30:ExecOK Try.prog (some 9) Xu ⟨[(0,.v (.one (dS a0))),(4,.v (.one (.ptr 2 0))),(16,.v (.one (dS a0))),(17,.v (.one (dI (a0.length:Int)))),(18,.v (.one (dI s1.1))),(38,.v (.one (.fn 49 [(7,0),(6,0)]))),(39,.v (.one (J3 x28.name))),(40,.v (.agg [dI 4,dI s1.1,dI s3.1,dI x5.params,dI x28.ty.kind,dI x28.ty.index,J3 x28.ty.name,dS x28.ty.levels,dS x28.ty.kids]))],m11_h22 s3 a0 s1 x5 x7 x28,[],13,48,[]⟩ .normal ⟨[(4,.v (.one (.ptr 2 0))),(8,.v (.one (J3 x28.name))),(9,.v (.one (.ptr 13 0)))],m11_h25 s3 a0 s1 x5 x7 x28,[],14,48,[]⟩:=by
   refine QX (fun w0 M V0 ro n Q hv4 hro4 hQn4=>?_)
   refine Q4<|Q0<|rA Z Z Z<|Q5<|Q3<|Q0<|Qa Z Z (lb Z) (Qu Zg Z)<|QA Z Z (Qz Ja Z Z Z Z (lb Z) Z)<|Q5 ?_
   exact JJ hQn4 (QT (DU Z) (hA Z) kZ Z (Nat.le_trans hv4 (lb Z)) Z Z Z (bG Z (bA Z)) Z Z)
  have hb31:ExecOK Try.prog (some 9) Xt ⟨[(4,.v (.one (.ptr 2 0))),(8,.v (.one (J3 x28.name))),(9,.v (.one (.ptr 13 0)))],m11_h24 s3 a0 s1 x5 x7 x28,[],14,48,[]⟩ .normal ⟨[],m11_h27 s3 x28 s1 x5 a0 x7,[],14,48,[]⟩:=by
   refine QX (fun w0 M V0 ro n Q hv4 hro4 hQn4=>?_)
   refine Ql ?_
   refine J6 [6] [] JT (by kernel_rfl) (by kernel_rfl) (by kernel_rfl) ?_
   refine RunA.rd Z Z Z (Q1 (Q6 XM Z Z Z)) Z<|RunA.rd Z Z Z (Q1 (Jy Z)) Z<|RunA.rd Z Z Z (Q1 (Q2 K9 Z)) Z<|RunA.rd Z Z Z (Q1 (Q6 YC Z Z Z)) Z<|RunA.rd Z Z Z (Q1 (Qr Z)) Z<|RunA.rd Z Z Z (Q1 (Qk Ja Z Z Z Z)) Z<|RunA.eff Z Z Z (Jt (M:=s3.2) (k:=x28.name) (v:=(⟨4,s1.1,s3.1,x5.params,x28.ty⟩:Ent)) YU Z Z Z Z Z) Z ?_
   refine RunA.nil ⟨?ex,_,_,Z,?_⟩
   case ex=>exact trivial
   refine Jo (st':=⟨[],m11_h28 s3 x28 s1 x5 a0 x7,[],14,48,[]⟩) (QT DT (hA Z) kZ Z (Nat.le_trans hv4 (lb Z)) Z Z Z (bG Z (bA Z)) Z Z)<|Qj ?_
   have e:=DW h4;subst e
   exact JJ hQn4 (QT DT (hA Z) kZ Z (Nat.le_trans hv4 (lb Z)) Z Z Z (bG Z (bA Z)) Z Z)
  refine Qa Z Z (lb Z) (Jj (jump:=none) Z Z Z Z Z (QJ ha30 (fun E hv=>(QT (DU Z) (hA Z) kZ Z (Nat.le_trans hv (lb Z)) Z Z Z (bG Z (bA Z)) Z Z))) Z (QJ hb31 (fun E hv=>(QT (DU Z) (hA Z) kZ Z (Nat.le_trans hv (lb Z)) Z Z Z (bG Z (bA Z)) Z Z))) Z Z) ?_
  refine DY Z Z Z (Jg Z)<|Q5<|Q3 ?_
  refine Qe Z (fun h=>nomatch h) (fun _=>?_)
  refine Qh<|Qj<|Q3<|Q0<|DY Z Z Z (Q7 Z Z Z)<|DZ Z Z Z<|Q5 ?_
  have e:=DW h3;subst e
  refine QL ((Jb (s3.1+1)),(J9 s3.2 x28.name (⟨4,s1.1,s3.1,x5.params,x28.ty⟩:Ent))) (QT (DU Z) (hA Z) kZ Z (Nat.le_trans hv2 (lb Z)) Z Z Z (bG Z (bA Z)) Z Z) ho3
  replace h3:=Qg c27 h3
  refine QW<|Qq<|Qq ?_
  have e:=DW h3;subst e
  have e_:_=_:=ho3
  subst e_
  exact QQ s3.2 (QT (DU Z) (hA Z) kZ Z (Nat.le_trans hv2 (lb Z)) Z Z Z (bG Z (bA Z)) Z Z) h2
  intro o25 h2
  refine QF<|Q3<|Q0<|DZ Z Z Z<|DY Z Z Z (Q2 JU Z)<|DY Z Z Z (Q6 JK Z Z Z) ?_
  refine Yo h2 (fun g32 h2=>?_)
  refine DY Z Z Z (X4 Z Z g32)<|DY Z Z Z (Q6 QI Z Z Z)<|DY Z Z Z (Q2 Jn Z)<|DY Z Z Z (Q2 YS Z)<|DY Z Z Z (Q6 QI Z Z Z)<|DY Z Z Z (Q2 Jn Z)<|DY Z Z Z (Q2 ZR Z)<|DY Z Z Z (Qk QU Z Z Z Z)<|DY Z Z Z (JW Zm Z (.cons Z (.cons Z (.cons Z (.cons Z .nil)))) Z) ?_
  refine Qc h2 (fun y33 h3 h2=>?_)
  have ha34:ExecOK Try.prog (some 9) Xu ⟨[(0,.v (.one (dS a0))),(4,.v (.one (.ptr 2 0))),(16,.v (.one (dS a0))),(17,.v (.one (dI (a0.length:Int)))),(18,.v (.one (dI s1.1))),(38,.v (.one (.fn 49 [(7,0),(6,0)]))),(39,.v (.one (J3 (x5.name++([46,114,101,99]:List UInt8))))),(40,.v (.agg [dI 5,dI s1.1,dI 0,dI x5.rcr.params,dI x5.rcr.ty.kind,dI x5.rcr.ty.index,J3 x5.rcr.ty.name,dS x5.rcr.ty.levels,dS x5.rcr.ty.kids]))],m11_h29 o25 a0 s1 x5 x7,[],12,48,[]⟩ .normal ⟨[(4,.v (.one (.ptr 2 0))),(8,.v (.one (J3 (x5.name++([46,114,101,99]:List UInt8))))),(9,.v (.one (.ptr 12 0)))],m11_h32 o25 a0 s1 x5 x7,[],13,48,[]⟩:=by
   refine QX (fun w0 M V0 ro n Q hv3 hro3 hQn3=>?_)
   refine Q4<|Q0<|rA Z Z Z<|Q5<|Q3<|Q0<|Qa Z Z (lb Z) (Qu Zg Z)<|QA Z Z (Qz Ja Z Z Z Z (lb Z) Z)<|Q5 ?_
   exact JJ hQn3 (QT (DU Z) (hA Z) kZ Z (Nat.le_trans hv3 (lb Z)) Z Z Z (bG Z (bA Z)) Z Z)
  have hb35:ExecOK Try.prog (some 9) Xt ⟨[(4,.v (.one (.ptr 2 0))),(8,.v (.one (J3 (x5.name++([46,114,101,99]:List UInt8))))),(9,.v (.one (.ptr 12 0)))],m11_h31 o25 a0 s1 x5 x7,[],13,48,[]⟩ .normal ⟨[],m11_h34 o25 x5 s1 a0 x7,[],13,48,[]⟩:=by
   refine QX (fun w0 M V0 ro n Q hv3 hro3 hQn3=>?_)
   refine Ql ?_
   refine J6 [6] [] JT (by kernel_rfl) (by kernel_rfl) (by kernel_rfl) ?_
   refine RunA.rd Z Z Z (Q1 (Q6 XM Z Z Z)) Z<|RunA.rd Z Z Z (Q1 (Jy Z)) Z<|RunA.rd Z Z Z (Q1 (Q2 K9 Z)) Z<|RunA.rd Z Z Z (Q1 (Q6 YC Z Z Z)) Z<|RunA.rd Z Z Z (Q1 (Qr Z)) Z<|RunA.rd Z Z Z (Q1 (Qk Ja Z Z Z Z)) Z<|RunA.eff Z Z Z (Jt (M:=o25) (k:=(x5.name++([46,114,101,99]:List UInt8))) (v:=(⟨5,s1.1,0,x5.rcr.params,x5.rcr.ty⟩:Ent)) YU Z Z Z Z Z) Z ?_
   refine RunA.nil ⟨?ex,_,_,Z,?_⟩
   case ex=>exact trivial
   refine Jo (st':=⟨[],m11_h35 o25 x5 s1 a0 x7,[],13,48,[]⟩) (QT DT (hA Z) kZ Z (Nat.le_trans hv3 (lb Z)) Z Z Z (bG Z (bA Z)) Z Z)<|Qj ?_
   have e:=DW h3;subst e
   exact JJ hQn3 (QT DT (hA Z) kZ Z (Nat.le_trans hv3 (lb Z)) Z Z Z (bG Z (bA Z)) Z Z)
  refine Qa Z Z (lb Z) (Jj (jump:=none) Z Z Z Z Z (QJ ha34 (fun E hv=>(QT (DU Z) (hA Z) kZ Z (Nat.le_trans hv (lb Z)) Z Z Z (bG Z (bA Z)) Z Z))) Z (QJ hb35 (fun E hv=>(QT (DU Z) (hA Z) kZ Z (Nat.le_trans hv (lb Z)) Z Z Z (bG Z (bA Z)) Z Z))) Z Z) ?_
  refine Q5<|Qj ?_
  have e:=DW h2;subst e
  exact hQ2 _ _ _ (.inl Z) Z (QT DT (hA Z) kZ Z (Nat.le_trans hv2 (lb Z)) Z Z Z (bG Z (bA Z)) Z Z)
  replace h2:=Qg c21 h2
  refine Q4<|Q0<|DY Z Z Z (Q7 Z Z Z)<|rA Z Z Z<|Q5<|Q3 ?_
  refine Qe (b:=(x5.kind==4)) Z (fun c36=>?_) (fun c36=>?_)
  replace h2:=Qf c36 h2
  refine Q4<|Q0<|DY Z Z Z (Q2 Jr Z)<|DY Z Z Z (Q6 Ya Z Z Z)<|DY Z Z Z (Qx (α:=Fn) JR Z (.d _))<|DZ Z Z Z<|Q5<|Q3<|Ql ?_
  refine QS 3 (fun (o37:(Qm Bs Ent))=>⟨[],[(0,.mp (J1 o37.1) o37.2),(1,.cells 62 [dS ((a0.take s1.1.toNat):List Dcl),.mp 0]),(2,.cells 59 [.ptr 1 0]),(3,.cells 45 (cE x5)),(5,.cells 25 [dI x7]),(6,.cells 45 (cE x5)),(7,.cells 3 [dI s1.1]),(8,.obj (.deferred (some []))),(9,Zo a0 s1),(10,Xs s1 x5)],[],11,98,[]⟩) (fun (o37:(Qm Bs Ent))=>(some o37)=some y11) ?_ ?_
  refine Qc h2 (fun o38 hl3 h2=>?_)
  refine QR (m11_l1 x5 s1) (fun s3=>⟨[(0,.v (.one (.yld 9))),(1,.v (.one (.ptr 7 0))),(2,.v (.one (.ptr 6 0))),(78,.v (.one (dS x5.funs))),(79,.v (.one (dI (x5.funs.length:Int)))),(80,.v (.one (dI s3.1)))],[(0,.mp (J1 s3.2.1) s3.2.2),(1,.cells 62 [dS ((a0.take s1.1.toNat):List Dcl),.mp 0]),(2,.cells 59 [.ptr 1 0]),(3,.cells 45 (cE x5)),(5,.cells 25 [dI x7]),(6,.cells 45 (cE x5)),(7,.cells 3 [dI s1.1]),(8,.obj (.deferred (some []))),(9,Zo a0 s1),(10,Xs s1 x5)],[],11,98,[]⟩) (0,s1.2.1) o38 (QT (DU Z) (hA Z) kZ Z (Nat.le_trans hv2 (lb Z)) Z Z Z (bG Z (bA Z)) Z Z) hl3 (fun s3 n3 oo3 h3 ho3=>?_)
  unfold m11_l1 at h3
  refine Q4<|Q0<|DY Z Z Z (Q7 Z Z Z)<|Q5<|Q3<|Q4 ?_
  refine Qe (b:=(decide (s3.1 < (x5.funs.length:Int)))) Z (fun c39=>?_) (fun c39=>?_)
  replace h3:=Qf c39 h3
  refine Qh<|Q3<|Q4<|Ql<|Q4<|Q0<|DZ Z Z Z ?_
  refine Qc h3 (fun x40 hx40 h3=>?_)
  refine DY Z Z Z (Qt (α:=Fn) JR Z (.d _) Z hx40)<|DY Z Z Z (Qw (x40:Fn) Kq Z)<|Qa Z Z (lb Z) (Qu Up Z)<|rA Z Z Z<|QA Z Z (QD (x40:Fn) Kq Z Z Z Z Z)<|Q5<|Q3<|Q4<|Q0<|DZ Z Z Z<|DY Z Z Z (Q2 Gi Z)<|DY Z Z Z (Q6 JK Z Z Z)<|DY Z Z Z (Q6 QI Z Z Z)<|DZ Z Z Z ?_
  refine DY Z Z Z (Q2 Jx Z)<|DY Z Z Z (Q6 QI Z Z Z)<|DY Z Z Z (Q2 Ky Z)<|DY Z Z Z (Qk QU Z Z Z Z)<|DY Z Z Z (JW Zm Z (.cons Z (.cons Z (.cons Z (.cons Z (.cons Z .nil))))) Z) ?_
  refine Qc h3 (fun y41 h4 h3=>?_)
  have ha42:ExecOK Try.prog (some 9) Xu ⟨[(0,.v (.one (dS a0))),(4,.v (.one (.ptr 2 0))),(16,.v (.one (dS a0))),(17,.v (.one (dI (a0.length:Int)))),(18,.v (.one (dI s1.1))),(38,.v (.one (.fn 49 [(7,0),(6,0)]))),(39,.v (.one (J3 x40.name))),(40,.v (.agg [dI 6,dI s1.1,dI s3.1,dI x5.params,dI x40.ty.kind,dI x40.ty.index,J3 x40.ty.name,dS x40.ty.levels,dS x40.ty.kids]))],m11_h36 s3 a0 s1 x5 x7 x40,[],12,48,[]⟩ .normal ⟨[(4,.v (.one (.ptr 2 0))),(8,.v (.one (J3 x40.name))),(9,.v (.one (.ptr 12 0)))],m11_h39 s3 a0 s1 x5 x7 x40,[],13,48,[]⟩:=by
   refine QX (fun w0 M V0 ro n Q hv4 hro4 hQn4=>?_)
   refine Q4<|Q0<|rA Z Z Z<|Q5<|Q3<|Q0<|Qa Z Z (lb Z) (Qu Zg Z)<|QA Z Z (Qz Ja Z Z Z Z (lb Z) Z)<|Q5 ?_
   exact JJ hQn4 (QT (DU Z) (hA Z) kZ Z (Nat.le_trans hv4 (lb Z)) Z Z Z (bG Z (bA Z)) Z Z)
  have hb43:ExecOK Try.prog (some 9) Xt ⟨[(4,.v (.one (.ptr 2 0))),(8,.v (.one (J3 x40.name))),(9,.v (.one (.ptr 12 0)))],m11_h38 s3 a0 s1 x5 x7 x40,[],13,48,[]⟩ .normal ⟨[],m11_h41 s3 x40 s1 x5 a0 x7,[],13,48,[]⟩:=by
   refine QX (fun w0 M V0 ro n Q hv4 hro4 hQn4=>?_)
   refine Ql ?_
   refine J6 [6] [] JT (by kernel_rfl) (by kernel_rfl) (by kernel_rfl) ?_
   refine RunA.rd Z Z Z (Q1 (Q6 XM Z Z Z)) Z<|RunA.rd Z Z Z (Q1 (Jy Z)) Z<|RunA.rd Z Z Z (Q1 (Q2 K9 Z)) Z<|RunA.rd Z Z Z (Q1 (Q6 YC Z Z Z)) Z<|RunA.rd Z Z Z (Q1 (Qr Z)) Z<|RunA.rd Z Z Z (Q1 (Qk Ja Z Z Z Z)) Z<|RunA.eff Z Z Z (Jt (M:=s3.2) (k:=x40.name) (v:=(⟨6,s1.1,s3.1,x5.params,x40.ty⟩:Ent)) YU Z Z Z Z Z) Z ?_
   refine RunA.nil ⟨?ex,_,_,Z,?_⟩
   case ex=>exact trivial
   refine Jo (st':=⟨[],m11_h42 s3 x40 s1 x5 a0 x7,[],13,48,[]⟩) (QT DT (hA Z) kZ Z (Nat.le_trans hv4 (lb Z)) Z Z Z (bG Z (bA Z)) Z Z)<|Qj ?_
   have e:=DW h4;subst e
   exact JJ hQn4 (QT DT (hA Z) kZ Z (Nat.le_trans hv4 (lb Z)) Z Z Z (bG Z (bA Z)) Z Z)
  refine Qa Z Z (lb Z) (Jj (jump:=none) Z Z Z Z Z (QJ ha42 (fun E hv=>(QT (DU Z) (hA Z) kZ Z (Nat.le_trans hv (lb Z)) Z Z Z (bG Z (bA Z)) Z Z))) Z (QJ hb43 (fun E hv=>(QT (DU Z) (hA Z) kZ Z (Nat.le_trans hv (lb Z)) Z Z Z (bG Z (bA Z)) Z Z))) Z Z) ?_
  refine DY Z Z Z (Jg Z)<|Q5<|Q3 ?_
  refine Qe Z (fun h=>nomatch h) (fun _=>?_)
  refine Qh<|Qj<|Q3<|Q0<|DY Z Z Z (Q7 Z Z Z)<|DZ Z Z Z<|Q5 ?_
  have e:=DW h3;subst e
  refine QL ((Jb (s3.1+1)),(J9 s3.2 x40.name (⟨6,s1.1,s3.1,x5.params,x40.ty⟩:Ent))) (QT (DU Z) (hA Z) kZ Z (Nat.le_trans hv2 (lb Z)) Z Z Z (bG Z (bA Z)) Z Z) ho3
  replace h3:=Qg c39 h3
  refine QW<|Qq<|Qq ?_
  have e:=DW h3;subst e
  have e_:_=_:=ho3
  subst e_
  exact QQ s3.2 (QT DT (hA Z) kZ Z (Nat.le_trans hv2 (lb Z)) Z Z Z (bG Z (bA Z)) Z Z) h2
  intro o37 h2
  refine QF<|Qj ?_
  have e:=DW h2;subst e
  exact hQ2 _ _ _ (.inl Z) Z (QT DT (hA Z) kZ Z (Nat.le_trans hv2 (lb Z)) Z Z Z (bG Z (bA Z)) Z Z)
  replace h2:=Qg c36 h2
  refine Qh<|Qj ?_
  have e:=DW h2;subst e
  exact hQ2 _ _ _ (.inl Z) Z (QT DT (hA Z) kZ Z (Nat.le_trans hv2 (lb Z)) Z Z Z (bG Z (bA Z)) Z Z)
 refine KB (Yw (e:=.normal) rfl hc12 rfl rfl (by intro h;cases h) rfl) rfl ?_
 refine Qj<|Qj<|Q3<|Q0<|DY Z Z Z (Q7 Z Z Z)<|DZ Z Z Z<|Q5 ?_
 have e:=DW h1;subst e
 refine QL ((Jb (s1.1+1)),y11,(a0.take s1.1.toNat)) (QT (DU Z) (hA Z) kZ Z (Nat.zero_le _) Z Z Z (bG Z (bA Z)) Z Z) ho1
 replace h1:=Qg c4 h1
 refine QW<|Qq<|Qq ?_
 have e:=DW h1;subst e
 have e_:_=_:=ho1
 subst e_
 exact QQ (s1.2.1,s1.2.2) (QT DT (hA Z) kZ Z (Nat.zero_le _) Z Z Z (bG Z (bA Z)) Z Z) h0
 intro o2 h0
 refine QF<|Q3<|Q4<|Q0<|rA Z Z Z<|rA Z Z Z<|Q5<|Q3<|Qp ?_
 have e:=DW h0;subst e
 exact Qo (fun _ _ h=>h) Z (Qn Z (Qn Z .nil)) (.cons (.one (.d _)) (.cons (.one (.d _)) .nil))
end Go.Proofs.Ytafddfoefeploaa
namespace Go.Proofs.Ytafddfoefeploaa
open Go.RowKit Go.Shelf
set_option linter.unusedSimpArgs false
set_option linter.unusedVariables false
theorem en_71:QZ Try.prog 71:=enters_of Try.func71 (by kernel_rfl) rfl
theorem en_85:QZ Try.prog 85:=enters_of Try.func85 (by kernel_rfl) rfl
theorem en_86:QZ Try.prog 86:=enters_of Try.func86 (by kernel_rfl) rfl
theorem en_100:QZ Try.prog 100:=enters_of Try.func100 (by kernel_rfl) rfl
theorem en_105:QZ Try.prog 105:=enters_of Try.func105 (by kernel_rfl) rfl
theorem en_106:QZ Try.prog 106:=enters_of Try.func106 (by kernel_rfl) rfl
theorem en_107:QZ Try.prog 107:=enters_of Try.func107 (by kernel_rfl) rfl
theorem en_109:QZ Try.prog 109:=enters_of Try.func109 (by kernel_rfl) rfl
theorem en_110:QZ Try.prog 110:=enters_of Try.func110 (by kernel_rfl) rfl
def m110_k0 (p0_:Bool) (p1_:Int) (p2_:Lvl) (p3_:LV):Option (LO Int (Unit⊕Bool)) :=
 cond p0_
   (some (.done (.inr false)))
   (Option.bind (cond (decide (0 < p1_))
   (Option.bind (JX p2_.vs (Jb (p1_ - 1))) fun (b0_:LV) =>
 some (decide (p3_.1≤b0_.1)))
   (some false)) (fun (b1_:Bool)=>cond b1_
   (some (.done (.inr false)))
   (Option.bind (cond (decide (0 < p2_.c))
   (some (decide (p2_.c≤p3_.2)))
   (some false)) (fun (b2_:Bool)=>cond b2_
   (some (.done (.inr false)))
   (some (.next (Jb (p1_+1))))))))
def Gd (a0:Lvl) (s1:Int):Option (LO Int (Unit⊕Bool)) :=
 cond (decide (s1 < (a0.vs.length:Int)))
   (Option.bind (JX a0.vs s1) fun (x5:LV) =>
 Option.bind (cond (decide (x5.1 < (-65536)))
   (some true)
   (cond (decide (8≤x5.1))
   (some true)
   (cond (decide (x5.2 < 0))
   (some true)
   (some (decide (100 < x5.2)))))) (fun (v6:Bool)=>m110_k0 v6 s1 a0 x5))
   (some (.done (.inl ())))
def UJ (a0:Lvl):Option Bool :=
 Option.bind (cond (decide (a0.c < 0))
   (some true)
   (some (decide (100 < a0.c)))) (fun (v1:Bool)=>cond v1
   (some false)
   (Option.bind (QE (Gd a0) QV 0) (Sum.elim (fun (o3:Unit)=>some true) (fun o=>some o))))
theorem m110_ok (a0:Lvl) (r:Bool) (h0:UJ a0=some r):Fun Try.prog 110 [.agg (cE a0)] (QM [.one (dB r)]):=by
 unfold UJ at h0
 refine QB 9 67 Try.func110 Z en_110 Z (lb Z) (fun S w=>?_)
 simp only [J5]
 refine Q4<|Q0<|Qa Z Z (lb Z) (QN Z)<|rA Z Z Z<|Q5<|Q3<|Q4<|Q4 ?_
 refine QC (fun (v1:Bool)=>⟨[(1,.v (.one (.ptr 0 0))),(12,.v (.one (dB v1)))],[(0,.cells 87 (cE a0))],[],1,67,[]⟩) (fun (v1:Bool)=>(cond v1
     (some false)
     (Option.bind (QE (Gd a0) QV 0) (Sum.elim (fun (o3:Unit)=>some true) (fun o=>some o))))=some r) ?_ ?_
 refine Qc h0 (fun w1_ h1 h0=>?_)
 refine Q0<|DY Z Z Z (Q2 Zs Z)<|DY Z Z Z (Q6 QI Z Z Z)<|DY Z Z Z (Q7 Z Z Z)<|DZ Z Z Z ?_
 refine Qv (d:=8) (c:=(decide (a0.c < 0))) Z (fun c2=>?_) (fun c2=>?_)
 replace h1:=Qf c2 h1
 refine Q8 Z Z<|Q8 Z Z<|Q8 Z Z<|DY Z Z Z (Qd Z Z)<|Q5 ?_
 have e:=DW h1;subst e
 exact Q9 true (DV (Nat.zero_le _) Z Z Z Z Z) h0
 replace h1:=Qg c2 h1
 refine DY Z Z Z (Q2 Zs Z)<|DY Z Z Z (Q6 QI Z Z Z)<|DY Z Z Z (Q7 Z Z Z)<|DY Z Z Z (Qb Z Z)<|Q5 ?_
 have e:=DW h1;subst e
 exact Q9 (decide (100 < a0.c)) (DV (Nat.zero_le _) Z Z Z Z Z) h0
 intro v1 h0
 refine Q3 ?_
 refine Qe (b:=v1) Z (fun c3=>?_) (fun c3=>?_)
 replace h0:=Qf c3 h0
 refine Q4<|Q0<|rA Z Z Z<|Q5<|Q3<|Qp ?_
 have e:=DW h0;subst e
 exact Qo (fun _ _ h=>h) Z (Qn Z .nil) (.cons (.one (.d _)) .nil)
 replace h0:=Qg c3 h0
 refine Qh<|Q3<|Q4<|Q4<|Q0<|rA Z Z Z<|Q5<|Q3<|Ql ?_
 refine QS 0 (fun (o4:Unit)=>⟨[],[(0,.cells 87 (cE a0))],[],1,67,[]⟩) (fun (o4:Unit)=>(some true)=some r) ?_ ?_
 refine Qc h0 (fun o5 hl1 h0=>?_)
 refine QR (Gd a0) (fun s1=>⟨[(1,.v (.one (.ptr 0 0))),(3,.v (.one (dI s1)))],[(0,.cells 87 (cE a0))],[],1,67,[]⟩) 0 o5 (DV (Nat.zero_le _) Z Z Z Z Z) hl1 (fun s1 n1 oo1 h1 ho1=>?_)
 unfold Gd at h1
 refine Q4<|Q4<|Q0<|DZ Z Z Z<|DY Z Z Z (Q2 Yj Z)<|DY Z Z Z (Q6 Zr Z Z Z)<|DY Z Z Z (Qx (α:=LV) YN Z (.d _))<|DY Z Z Z (Q7 Z Z Z)<|Q5<|Q3 ?_
 refine Qe (b:=(decide (s1 < (a0.vs.length:Int)))) Z (fun c6=>?_) (fun c6=>?_)
 replace h1:=Qf c6 h1
 refine Qh<|Q3<|Q4<|Ql<|Q4<|Q0<|DY Z Z Z (Q2 Yj Z)<|DY Z Z Z (Q6 Zr Z Z Z)<|DZ Z Z Z ?_
 refine Qc h1 (fun x7 hx7 h1=>?_)
 refine DY Z Z Z (Qt (α:=LV) YN Z (.d _) Z hx7)<|DY Z Z Z (Qw (x7:LV) K5 Z)<|Qa Z Z (lb Z) (Qu z_124 Z)<|QA Z Z (QD (x7:LV) K5 Z Z Z Z Z)<|Q5<|Q3<|Q4<|Q4 ?_
 refine QC (fun (v8:Bool)=>⟨[(1,.v (.one (.ptr 0 0))),(3,.v (.one (dI s1))),(4,.v (.one (.ptr 1 0))),(42,.v (.one (dB v8)))],[(0,.cells 87 (cE a0)),(1,.cells 124 (cE x7))],[],2,67,[]⟩) (fun (v8:Bool)=>(m110_k0 v8 s1 a0 x7)=some oo1) ?_ ?_
 refine Qc h1 (fun w2_ h2 h1=>?_)
 refine Q0<|DY Z Z Z (Q2 YB Z)<|DY Z Z Z (Q6 QI Z Z Z)<|DY Z Z Z (Q7 Z Z Z)<|DZ Z Z Z ?_
 refine Qv (d:=28) (c:=(decide (x7.1 < (-65536)))) Z (fun c9=>?_) (fun c9=>?_)
 replace h2:=Qf c9 h2
 refine Q8 Z Z<|Q8 Z Z<|Q8 Z Z<|DY Z Z Z (Qd Z Z)<|DZ Z Z Z<|Q8 Z Z<|Q8 Z Z<|Q8 Z Z<|DY Z Z Z (Qd Z Z)<|DZ Z Z Z<|Q8 Z Z<|Q8 Z Z<|Q8 Z Z<|DY Z Z Z (Qd Z Z) ?_
 refine Q5 ?_
 have e:=DW h2;subst e
 exact Q9 true (DV (Nat.zero_le _) Z Z Z Z Z) h1
 replace h2:=Qg c9 h2
 refine DY Z Z Z (Q2 YB Z)<|DY Z Z Z (Q6 QI Z Z Z)<|DY Z Z Z (Q7 Z Z Z)<|DY Z Z Z (Qb Z Z)<|DZ Z Z Z ?_
 refine Qv (d:=33) (c:=(decide (8≤x7.1))) Z (fun c10=>?_) (fun c10=>?_)
 replace h2:=Qf c10 h2
 refine Q8 Z Z<|Q8 Z Z<|Q8 Z Z<|DY Z Z Z (Qd Z Z)<|DZ Z Z Z<|Q8 Z Z<|Q8 Z Z<|Q8 Z Z<|DY Z Z Z (Qd Z Z)<|Q5 ?_
 have e:=DW h2;subst e
 exact Q9 true (DV (Nat.zero_le _) Z Z Z Z Z) h1
 replace h2:=Qg c10 h2
 refine DY Z Z Z (Q2 GN Z)<|DY Z Z Z (Q6 QI Z Z Z)<|DY Z Z Z (Q7 Z Z Z)<|DY Z Z Z (Qb Z Z)<|DZ Z Z Z ?_
 refine Qv (d:=38) (c:=(decide (x7.2 < 0))) Z (fun c11=>?_) (fun c11=>?_)
 replace h2:=Qf c11 h2
 refine Q8 Z Z<|Q8 Z Z<|Q8 Z Z<|DY Z Z Z (Qd Z Z)<|Q5 ?_
 have e:=DW h2;subst e
 exact Q9 true (DV (Nat.zero_le _) Z Z Z Z Z) h1
 replace h2:=Qg c11 h2
 refine DY Z Z Z (Q2 GN Z)<|DY Z Z Z (Q6 QI Z Z Z)<|DY Z Z Z (Q7 Z Z Z)<|DY Z Z Z (Qb Z Z)<|Q5 ?_
 have e:=DW h2;subst e
 exact Q9 (decide (100 < x7.2)) (DV (Nat.zero_le _) Z Z Z Z Z) h1
 intro v8 h1
 unfold m110_k0 at h1
 refine Q3 ?_
 refine Qe (b:=v8) Z (fun c12=>?_) (fun c12=>?_)
 replace h1:=Qf c12 h1
 refine Q4<|Q0<|rA Z Z Z<|Q5<|Q3<|Qp ?_
 have e:=DW h1;subst e
 have e_:_=_:=ho1
 subst e_
 try dsimp only [Sum.elim_inl,Sum.elim_inr] at h0
 have e:=DW h0;subst e
 exact Qo (fun _ _ h=>h) Z (Qn Z .nil) (.cons (.one (.d _)) .nil)
 replace h1:=Qg c12 h1
 refine Qh<|Q3<|Q4<|Q4 ?_
 refine QC (fun (v13:Bool)=>⟨[(1,.v (.one (.ptr 0 0))),(3,.v (.one (dI s1))),(4,.v (.one (.ptr 1 0))),(56,.v (.one (dB v13)))],[(0,.cells 87 (cE a0)),(1,.cells 124 (cE x7))],[],2,67,[]⟩) (fun (v13:Bool)=>(cond v13
     (some (.done (.inr false)))
     (Option.bind (cond (decide (0 < a0.c))
     (some (decide (a0.c≤x7.2)))
     (some false)) (fun (v15:Bool)=>cond v15
     (some (.done (.inr false)))
     (some (.next (Jb (s1+1)))))))=some oo1) ?_ ?_
 refine Qc h1 (fun w2_ h2 h1=>?_)
 refine J6 [] [] JT (by kernel_rfl) (by kernel_rfl) (by kernel_rfl) ?_
 refine RunA.rd Z Z Z (Q1 (Qr Z)) Z<|RunA.rd Z Z Z (Q1 (Q7 Z Z Z)) Z ?_
 refine JN (c:=(decide (0 < s1))) Z Z Z (Q1 (Qr Z)) Z (fun c14=>?_) (fun c14=>?_)
 replace h2:=Qf c14 h2
 refine RunA.rd Z Z Z (Q1 (Q2 Yj Z)) Z<|RunA.rd Z Z Z (Q1 (Q6 Zr Z Z Z)) Z<|RunA.rd Z Z Z (Q1 (Qr Z)) Z<|RunA.rd Z Z Z (Q1 (Q7 Z Z Z)) Z ?_
 refine Qc h2 (fun x15 hx15 h2=>?_)
 refine RunA.rd Z Z Z (Q1 (Qt (α:=LV) YN Z (.d _) Z hx15)) Z<|RunA.rd Z Z Z (Q1 (J8 YB Z)) Z<|RunA.rd Z Z Z (Q1 (Ji QI Z Z)) Z<|RunA.rd Z Z Z (Q1 (Q2 YB Z)) Z<|RunA.rd Z Z Z (Q1 (Q6 QI Z Z Z)) Z<|RunA.rd Z Z Z (Q1 (Q7 Z Z Z)) Z<|RunA.rd Z Z Z (Q1 (Qd Z Z)) Z ?_
 refine RunA.nil ⟨?ex,_,_,Z,?_⟩
 case ex=>exact trivial
 have e:=DW h2;subst e
 exact Q9 (decide (x7.1≤x15.1)) (DV (Nat.zero_le _) Z Z Z Z Z) h1
 replace h2:=Qg c14 h2
 refine RunA.no Z Z Z Z<|RunA.no Z Z Z Z<|RunA.no Z Z Z Z<|RunA.no Z Z Z Z<|RunA.no Z Z Z Z<|RunA.no Z Z Z Z<|RunA.no Z Z Z Z<|RunA.no Z Z Z Z<|RunA.no Z Z Z Z<|RunA.no Z Z Z Z<|RunA.rd Z Z Z (Q1 (Qb Z Z)) Z ?_
 refine RunA.nil ⟨?ex,_,_,Z,?_⟩
 case ex=>exact trivial
 have e:=DW h2;subst e
 exact Q9 false (DV (Nat.zero_le _) Z Z Z Z Z) h1
 intro v13 h1
 refine Q3 ?_
 refine Qe (b:=v13) Z (fun c16=>?_) (fun c16=>?_)
 replace h1:=Qf c16 h1
 refine Q4<|Q0<|rA Z Z Z<|Q5<|Q3<|Qp ?_
 have e:=DW h1;subst e
 have e_:_=_:=ho1
 subst e_
 try dsimp only [Sum.elim_inl,Sum.elim_inr] at h0
 have e:=DW h0;subst e
 exact Qo (fun _ _ h=>h) Z (Qn Z .nil) (.cons (.one (.d _)) .nil)
 replace h1:=Qg c16 h1
 refine Qh<|Q3<|Q4 ?_
 refine QC (fun (v17:Bool)=>⟨[(1,.v (.one (.ptr 0 0))),(3,.v (.one (dI s1))),(66,.v (.one (dB v17)))],[(0,.cells 87 (cE a0)),(1,.cells 124 (cE x7))],[],2,67,[]⟩) (fun (v17:Bool)=>(cond v17
     (some (.done (.inr false)))
     (some (.next (Jb (s1+1)))))=some oo1) ?_ ?_
 refine Qc h1 (fun w2_ h2 h1=>?_)
 refine Q0<|DY Z Z Z (Q2 Zs Z)<|DY Z Z Z (Q6 QI Z Z Z)<|DY Z Z Z (Q7 Z Z Z)<|DZ Z Z Z ?_
 refine Qv (d:=60) (c:=(decide (0 < a0.c))) Z (fun c18=>?_) (fun c18=>?_)
 replace h2:=Qf c18 h2
 refine DY Z Z Z (Q2 GN Z)<|DY Z Z Z (Q6 QI Z Z Z)<|DY Z Z Z (Q2 Zs Z)<|DY Z Z Z (Q6 QI Z Z Z)<|DY Z Z Z (Q7 Z Z Z)<|DY Z Z Z (Qd Z Z)<|Q5 ?_
 have e:=DW h2;subst e
 exact Q9 (decide (a0.c≤x7.2)) (DV (Nat.zero_le _) Z Z Z Z Z) h1
 replace h2:=Qg c18 h2
 refine Q8 Z Z<|Q8 Z Z<|Q8 Z Z<|Q8 Z Z<|Q8 Z Z<|DY Z Z Z (Qb Z Z)<|Q5 ?_
 have e:=DW h2;subst e
 exact Q9 false (DV (Nat.zero_le _) Z Z Z Z Z) h1
 intro v17 h1
 refine Q3 ?_
 refine Qe (b:=v17) Z (fun c19=>?_) (fun c19=>?_)
 replace h1:=Qf c19 h1
 refine Q4<|Q0<|rA Z Z Z<|Q5<|Q3<|Qp ?_
 have e:=DW h1;subst e
 have e_:_=_:=ho1
 subst e_
 try dsimp only [Sum.elim_inl,Sum.elim_inr] at h0
 have e:=DW h0;subst e
 exact Qo (fun _ _ h=>h) Z (Qn Z .nil) (.cons (.one (.d _)) .nil)
 replace h1:=Qg c19 h1
 refine Qh<|Qj<|Q3<|Q0<|DZ Z Z Z<|DY Z Z Z (Q7 Z Z Z)<|rA Z Z Z<|Q5 ?_
 have e:=DW h1;subst e
 refine QL (Jb (s1+1)) (DV (Nat.zero_le _) Z Z Z Z Z) ho1
 replace h1:=Qg c6 h1
 refine QW<|Qq<|Qq ?_
 have e:=DW h1;subst e
 have e_:_=_:=ho1
 subst e_
 exact QQ () (DV (Nat.zero_le _) Z Z Z Z Z) h0
 intro o4 h0
 refine QF<|Q3<|Q4<|Q0<|rA Z Z Z<|Q5<|Q3<|Qp ?_
 have e:=DW h0;subst e
 exact Qo (fun _ _ h=>h) Z (Qn Z .nil) (.cons (.one (.d _)) .nil)
def DH (a0:Byt):Option Bool :=
 Option.bind (cond (decide (97≤a0.n))
   (cond (decide (a0.n≤122))
   (some true)
   (cond (decide (65≤a0.n))
   (cond (decide (a0.n≤90))
   (some true)
   (some (a0.n==95)))
   (some (a0.n==95))))
   (cond (decide (65≤a0.n))
   (cond (decide (a0.n≤90))
   (some true)
   (some (a0.n==95)))
   (some (a0.n==95)))) (fun (v1:Bool)=>some v1)
theorem m85_ok (a0:Byt) (r:Bool) (h0:DH a0=some r):Fun Try.prog 85 [.one (.d (.v (.int .u8 a0.n)))] (QM [.one (dB r)]):=by
 unfold DH at h0
 refine QB 9 21 Try.func85 Z en_85 Z (lb Z) (fun S w=>?_)
 simp only [J5]
 refine Q4<|Q0<|rA Z Z Z<|Q5<|Q3<|Q4 ?_
 refine QC (fun (v1:Bool)=>⟨[(2,.v (.one (dB v1)))],[],[],0,21,[]⟩) (fun (v1:Bool)=>(some v1)=some r) ?_ ?_
 refine Qc h0 (fun w1_ h1 h0=>?_)
 refine Q0<|DZ Z Z Z<|DY Z Z Z (Q7 Z Z Z)<|DZ Z Z Z ?_
 refine Qv (d:=5) (c:=(decide (97≤a0.n))) Z (fun c2=>?_) (fun c2=>?_)
 replace h1:=Qf c2 h1
 refine DZ Z Z Z<|DY Z Z Z (Q7 Z Z Z)<|DY Z Z Z (Qd Z Z)<|DZ Z Z Z ?_
 refine Qv (d:=9) (c:=(decide (a0.n≤122))) Z (fun c3=>?_) (fun c3=>?_)
 replace h1:=Qf c3 h1
 refine Q8 Z Z<|Q8 Z Z<|Q8 Z Z<|Q8 Z Z<|Q8 Z Z<|Q8 Z Z<|DY Z Z Z (Qd Z Z)<|DZ Z Z Z<|Q8 Z Z<|Q8 Z Z<|DY Z Z Z (Qd Z Z)<|rA Z Z Z<|Q5 ?_
 have e:=DW h1;subst e
 exact Q9 true (DV (Nat.zero_le _) Z Z Z Z Z) h0
 replace h1:=Qg c3 h1
 refine DZ Z Z Z<|DY Z Z Z (Q7 Z Z Z)<|DZ Z Z Z ?_
 refine Qv (d:=12) (c:=(decide (65≤a0.n))) Z (fun c4=>?_) (fun c4=>?_)
 replace h1:=Qf c4 h1
 refine DZ Z Z Z<|DY Z Z Z (Q7 Z Z Z)<|DY Z Z Z (Qd Z Z)<|DY Z Z Z (Qb Z Z)<|DZ Z Z Z ?_
 refine Qv (d:=17) (c:=(decide (a0.n≤90))) Z (fun c5=>?_) (fun c5=>?_)
 replace h1:=Qf c5 h1
 refine Q8 Z Z<|Q8 Z Z<|DY Z Z Z (Qd Z Z)<|rA Z Z Z<|Q5 ?_
 have e:=DW h1;subst e
 exact Q9 true (DV (Nat.zero_le _) Z Z Z Z Z) h0
 replace h1:=Qg c5 h1
 refine DZ Z Z Z<|DY Z Z Z (Q7 Z Z Z)<|DY Z Z Z (Qb Z Z)<|rA Z Z Z<|Q5 ?_
 have e:=DW h1;subst e
 exact Q9 (a0.n==95) (DV (Nat.zero_le _) Z Z Z Z Z) h0
 replace h1:=Qg c4 h1
 refine Q8 Z Z<|Q8 Z Z<|DY Z Z Z (Qb Z Z)<|DY Z Z Z (Qb Z Z)<|DZ Z Z Z<|DZ Z Z Z<|DY Z Z Z (Q7 Z Z Z)<|DY Z Z Z (Qb Z Z)<|rA Z Z Z<|Q5 ?_
 have e:=DW h1;subst e
 exact Q9 (a0.n==95) (DV (Nat.zero_le _) Z Z Z Z Z) h0
 replace h1:=Qg c2 h1
 refine Q8 Z Z<|Q8 Z Z<|DY Z Z Z (Qb Z Z)<|DZ Z Z Z<|DZ Z Z Z<|DY Z Z Z (Q7 Z Z Z)<|DZ Z Z Z ?_
 refine Qv (d:=12) (c:=(decide (65≤a0.n))) Z (fun c6=>?_) (fun c6=>?_)
 replace h1:=Qf c6 h1
 refine DZ Z Z Z<|DY Z Z Z (Q7 Z Z Z)<|DY Z Z Z (Qd Z Z)<|DY Z Z Z (Qb Z Z)<|DZ Z Z Z ?_
 refine Qv (d:=17) (c:=(decide (a0.n≤90))) Z (fun c7=>?_) (fun c7=>?_)
 replace h1:=Qf c7 h1
 refine Q8 Z Z<|Q8 Z Z<|DY Z Z Z (Qd Z Z)<|rA Z Z Z<|Q5 ?_
 have e:=DW h1;subst e
 exact Q9 true (DV (Nat.zero_le _) Z Z Z Z Z) h0
 replace h1:=Qg c7 h1
 refine DZ Z Z Z<|DY Z Z Z (Q7 Z Z Z)<|DY Z Z Z (Qb Z Z)<|rA Z Z Z<|Q5 ?_
 have e:=DW h1;subst e
 exact Q9 (a0.n==95) (DV (Nat.zero_le _) Z Z Z Z Z) h0
 replace h1:=Qg c6 h1
 refine Q8 Z Z<|Q8 Z Z<|DY Z Z Z (Qb Z Z)<|DY Z Z Z (Qb Z Z)<|DZ Z Z Z<|DZ Z Z Z<|DY Z Z Z (Q7 Z Z Z)<|DY Z Z Z (Qb Z Z)<|rA Z Z Z<|Q5 ?_
 have e:=DW h1;subst e
 exact Q9 (a0.n==95) (DV (Nat.zero_le _) Z Z Z Z Z) h0
 intro v1 h0
 refine Q3<|Qp ?_
 have e:=DW h0;subst e
 exact Qo (fun _ _ h=>h) Z (Qn Z .nil) (.cons (.one (.d _)) .nil)
def Xe (a0:Bs) (s1:Bool×Int):Option (LO (Bool×Int) (Bool⊕Bool)) :=
 cond (decide (s1.2 < (a0.length:Int)))
   (Option.bind (JX a0 s1.2) fun (x5:UInt8) =>
 cond s1.1
   (Option.bind (DH (⟨(x5.toNat:Int)⟩:Byt)) fun (x7:Bool) =>
 cond (!x7)
   (some (.done (.inr false)))
   (some (.next (false,(Jb (s1.2+1))))))
   (cond ((x5.toNat:Int)==46)
   (some (.next (true,(Jb (s1.2+1)))))
   (Option.bind (Option.bind (DH (⟨(x5.toNat:Int)⟩:Byt)) fun (x11:Bool) =>
 cond (!x11)
   (cond ((x5.toNat:Int) != 39)
   (cond (decide ((x5.toNat:Int) < 48))
   (some true)
   (some (decide (57 < (x5.toNat:Int)))))
   (some false))
   (some false)) (fun (v10:Bool)=>cond v10
   (some (.done (.inr false)))
   (some (.next (s1.1,(Jb (s1.2+1)))))))))
   (some (.done (.inl s1.1)))
def Do (a0:Bs):Option Bool :=
 Option.bind (cond (a0==([]:List UInt8))
   (some true)
   (some (decide (64 < (a0.length:Int))))) (fun (v1:Bool)=>cond v1
   (some false)
   (Option.bind (QE (Xe a0) QV (true,0)) (Sum.elim (fun (o3:Bool)=>some (!o3)) (fun o=>some o))))
theorem m71_ok (a0:Bs) (r:Bool) (h0:Do a0=some r):Fun Try.prog 71 [.one (J3 a0)] (QM [.one (dB r)]):=by
 unfold Do at h0
 refine QB 9 45 Try.func71 Z en_71 Z (lb Z) (fun S w=>?_)
 simp only [J5]
 refine Q4<|Q0<|rA Z Z Z<|Q5<|Q3<|Q4<|Q4 ?_
 refine QC (fun (v1:Bool)=>⟨[(0,.v (.one (J3 a0))),(12,.v (.one (dB v1)))],[],[],0,45,[]⟩) (fun (v1:Bool)=>(cond v1
     (some false)
     (Option.bind (QE (Xe a0) QV (true,0)) (Sum.elim (fun (o3:Bool)=>some (!o3)) (fun o=>some o))))=some r) ?_ ?_
 refine Qc h0 (fun w1_ h1 h0=>?_)
 refine Q0<|DZ Z Z Z<|DY Z Z Z (Zy Z Z)<|DZ Z Z Z ?_
 refine Qv (d:=8) (c:=(a0==([]:List UInt8))) Z (fun c2=>?_) (fun c2=>?_)
 replace h1:=Qf c2 h1
 refine Q8 Z Z<|Q8 Z Z<|Q8 Z Z<|DY Z Z Z (Qd Z Z)<|Q5 ?_
 have e:=DW h1;subst e
 exact Q9 true (DV (Nat.zero_le _) Z Z Z Z Z) h0
 replace h1:=Qg c2 h1
 refine DZ Z Z Z<|DY Z Z Z (Gm Uc Z)<|DY Z Z Z (Q7 Z Z Z)<|DY Z Z Z (Qb Z Z)<|Q5 ?_
 have e:=DW h1;subst e
 exact Q9 (decide (64 < (a0.length:Int))) (DV (Nat.zero_le _) Z Z Z Z Z) h0
 intro v1 h0
 refine Q3 ?_
 refine Qe (b:=v1) Z (fun c3=>?_) (fun c3=>?_)
 replace h0:=Qf c3 h0
 refine Q4<|Q0<|rA Z Z Z<|Q5<|Q3<|Qp ?_
 have e:=DW h0;subst e
 exact Qo (fun _ _ h=>h) Z (Qn Z .nil) (.cons (.one (.d _)) .nil)
 replace h0:=Qg c3 h0
 refine Qh<|Q3<|Q4<|Q0<|rA Z Z Z<|Q5<|Q3<|Q4<|Q4<|Q0<|rA Z Z Z<|Q5<|Q3<|Ql ?_
 refine QS 0 (fun (o4:Bool)=>⟨[(3,.v (.one (dB o4)))],[],[],0,45,[]⟩) (fun (o4:Bool)=>(some (!o4))=some r) ?_ ?_
 refine Qc h0 (fun o5 hl1 h0=>?_)
 refine QR (Xe a0) (fun s1=>⟨[(0,.v (.one (J3 a0))),(3,.v (.one (dB s1.1))),(4,.v (.one (dI s1.2)))],[],[],0,45,[]⟩) (true,0) o5 (DV (Nat.zero_le _) Z Z Z Z Z) hl1 (fun s1 n1 oo1 h1 ho1=>?_)
 unfold Xe at h1
 refine Q4<|Q4<|Q0<|DZ Z Z Z<|DZ Z Z Z<|DY Z Z Z (Gm Uc Z)<|DY Z Z Z (Q7 Z Z Z)<|Q5<|Q3 ?_
 refine Qe (b:=(decide (s1.2 < (a0.length:Int)))) Z (fun c6=>?_) (fun c6=>?_)
 replace h1:=Qf c6 h1
 refine Qh<|Q3<|Q4<|Ql<|Q4<|Q0<|DZ Z Z Z<|DZ Z Z Z ?_
 refine Qc h1 (fun x7 hx7 h1=>?_)
 refine DY Z Z Z (RO.ixS Uc Z Z hx7)<|rA Z Z Z<|Q5<|Q3<|Q4<|Q4<|Q0<|DZ Z Z Z<|Q5<|Q3 ?_
 refine Qe (b:=s1.1) Z (fun c8=>?_) (fun c8=>?_)
 replace h1:=Qf c8 h1
 refine Q4<|Q4<|Q0<|DZ Z Z Z ?_
 refine Qc h1 (fun x9 hx9 h1=>?_)
 refine Qa Z Z (lb Z) (Qi (m85_ok (⟨(x7.toNat:Int)⟩:Byt) x9 hx9) Z (.cons (.one (.d _)) .nil))<|DY Z Z Z (Jg Z)<|Q5<|Q3 ?_
 refine Qe (b:=(!x9)) Z (fun c10=>?_) (fun c10=>?_)
 replace h1:=Qf c10 h1
 refine Q4<|Q0<|rA Z Z Z<|Q5<|Q3<|Qp ?_
 have e:=DW h1;subst e
 have e_:_=_:=ho1
 subst e_
 try dsimp only [Sum.elim_inl,Sum.elim_inr] at h0
 have e:=DW h0;subst e
 exact Qo (fun _ _ h=>h) Z (Qn Z .nil) (.cons (.one (.d _)) .nil)
 replace h1:=Qg c10 h1
 refine Qh<|Q3<|Q4<|Q0<|rA Z Z Z<|Q5<|Q3<|QW<|Qq<|QF<|Q3<|Q0<|DZ Z Z Z<|DY Z Z Z (Q7 Z Z Z) ?_
 refine rA Z Z Z<|Q5 ?_
 have e:=DW h1;subst e
 refine QL (false,(Jb (s1.2+1))) (DV (Nat.zero_le _) Z Z Z Z Z) ho1
 replace h1:=Qg c8 h1
 refine Qh<|Q3<|Q4<|Q4<|Q0<|DZ Z Z Z<|DY Z Z Z (Q7 Z Z Z)<|Q5<|Q3 ?_
 refine Qe (b:=((x7.toNat:Int)==46)) Z (fun c11=>?_) (fun c11=>?_)
 replace h1:=Qf c11 h1
 refine Q4<|Q0<|rA Z Z Z<|Q5<|Q3<|QW<|Qq<|QF<|Q3<|Q0<|DZ Z Z Z<|DY Z Z Z (Q7 Z Z Z)<|rA Z Z Z<|Q5 ?_
 have e:=DW h1;subst e
 refine QL (true,(Jb (s1.2+1))) (DV (Nat.zero_le _) Z Z Z Z Z) ho1
 replace h1:=Qg c11 h1
 refine Qh<|Q3<|Q4 ?_
 refine QC (fun (v12:Bool)=>⟨[(0,.v (.one (J3 a0))),(3,.v (.one (dB s1.1))),(4,.v (.one (dI s1.2))),(42,.v (.one (dB v12)))],[],[],0,45,[]⟩) (fun (v12:Bool)=>(cond v12
     (some (.done (.inr false)))
     (some (.next (s1.1,(Jb (s1.2+1))))))=some oo1) ?_ ?_
 refine Qc h1 (fun w2_ h2 h1=>?_)
 refine Q0<|DZ Z Z Z ?_
 refine Qc h2 (fun x13 hx13 h2=>?_)
 refine Qa Z Z (lb Z) (Qi (m85_ok (⟨(x7.toNat:Int)⟩:Byt) x13 hx13) Z (.cons (.one (.d _)) .nil))<|DY Z Z Z (Jg Z)<|DZ Z Z Z ?_
 refine Qv (d:=31) (c:=(!x13)) Z (fun c14=>?_) (fun c14=>?_)
 replace h2:=Qf c14 h2
 refine DZ Z Z Z<|DY Z Z Z (Q7 Z Z Z)<|DY Z Z Z (Qd Z Z)<|DZ Z Z Z ?_
 refine Qv (d:=35) (c:=((x7.toNat:Int) != 39)) Z (fun c15=>?_) (fun c15=>?_)
 replace h2:=Qf c15 h2
 refine DZ Z Z Z<|DY Z Z Z (Q7 Z Z Z)<|DZ Z Z Z ?_
 refine Qv (d:=38) (c:=(decide ((x7.toNat:Int) < 48))) Z (fun c16=>?_) (fun c16=>?_)
 replace h2:=Qf c16 h2
 refine Q8 Z Z<|Q8 Z Z<|DY Z Z Z (Qd Z Z)<|DY Z Z Z (Qd Z Z)<|Q5 ?_
 have e:=DW h2;subst e
 exact Q9 true (DV (Nat.zero_le _) Z Z Z Z Z) h1
 replace h2:=Qg c16 h2
 refine DZ Z Z Z<|DY Z Z Z (Q7 Z Z Z)<|DY Z Z Z (Qb Z Z)<|DY Z Z Z (Qd Z Z)<|Q5 ?_
 have e:=DW h2;subst e
 exact Q9 (decide (57 < (x7.toNat:Int))) (DV (Nat.zero_le _) Z Z Z Z Z) h1
 replace h2:=Qg c15 h2
 refine Q8 Z Z<|Q8 Z Z<|Q8 Z Z<|Q8 Z Z<|Q8 Z Z<|Q8 Z Z<|DY Z Z Z (Qb Z Z)<|Q5 ?_
 have e:=DW h2;subst e
 exact Q9 false (DV (Nat.zero_le _) Z Z Z Z Z) h1
 replace h2:=Qg c14 h2
 refine Q8 Z Z<|Q8 Z Z<|DY Z Z Z (Qb Z Z)<|DZ Z Z Z<|Q8 Z Z<|Q8 Z Z<|Q8 Z Z<|Q8 Z Z<|Q8 Z Z<|Q8 Z Z<|DY Z Z Z (Qb Z Z)<|Q5 ?_
 have e:=DW h2;subst e
 exact Q9 false (DV (Nat.zero_le _) Z Z Z Z Z) h1
 intro v12 h1
 refine Q3 ?_
 refine Qe (b:=v12) Z (fun c17=>?_) (fun c17=>?_)
 replace h1:=Qf c17 h1
 refine Q4<|Q0<|rA Z Z Z<|Q5<|Q3<|Qp ?_
 have e:=DW h1;subst e
 have e_:_=_:=ho1
 subst e_
 try dsimp only [Sum.elim_inl,Sum.elim_inr] at h0
 have e:=DW h0;subst e
 exact Qo (fun _ _ h=>h) Z (Qn Z .nil) (.cons (.one (.d _)) .nil)
 replace h1:=Qg c17 h1
 refine Qh<|Qj<|Q3<|Q0<|DZ Z Z Z<|DY Z Z Z (Q7 Z Z Z)<|rA Z Z Z<|Q5 ?_
 have e:=DW h1;subst e
 refine QL (s1.1,(Jb (s1.2+1))) (DV (Nat.zero_le _) Z Z Z Z Z) ho1
 replace h1:=Qg c6 h1
 refine QW<|Qq<|Qq ?_
 have e:=DW h1;subst e
 have e_:_=_:=ho1
 subst e_
 exact QQ s1.1 (DV (Nat.zero_le _) Z Z Z Z Z) h0
 intro o4 h0
 refine QF<|Q3<|Q4<|Q0<|DZ Z Z Z<|DY Z Z Z (Jg Z)<|rA Z Z Z<|Q5<|Q3<|Qp ?_
 have e:=DW h0;subst e
 exact Qo (fun _ _ h=>h) Z (Qn Z .nil) (.cons (.one (.d _)) .nil)
def m109_k0 (p0_:Bool) (p1_:Int):Option Int :=
 cond p0_
   (some 2)
   (Option.bind (cond (p1_==8)
   (some (p1_==8))
   (some (p1_==11))) (fun (b0_:Bool)=>cond b0_
   (some 3)
   (cond (p1_==9)
   (cond (p1_==9)
   (some 1)
   (some 0))
   (cond (p1_==10)
   (some 1)
   (some 0)))))
def m109 (a0:Int):Option Int :=
 Option.bind (cond (a0==4)
   (some (a0==4))
   (cond (a0==5)
   (some (a0==5))
   (cond (a0==6)
   (some (a0==6))
   (some (a0==7))))) (fun (v1:Bool)=>m109_k0 v1 a0)
theorem m109_ok (a0:Int) (r:Int) (h0:m109 a0=some r):Fun Try.prog 109 [.one (dI a0)] (QM [.one (dI r)]):=by
 unfold m109 at h0
 refine QB 9 15 Try.func109 Z en_109 Z (lb Z) (fun S w=>?_)
 simp only [J5]
 refine Q4<|Q0<|rA Z Z Z<|Q5<|Q3<|Q4<|Q4<|Q0<|DZ Z Z Z<|Q5<|Q3<|Ql<|Q4<|Q4 ?_
 refine Q0<|DY Z Z Z (Q7 Z Z Z)<|rA Z Z Z<|Q5<|Q3 ?_
 refine QC (fun (v1:Bool)=>⟨[(3,.v (.one (dI a0))),(4,.v (.one (dB v1)))],[],[],0,15,[]⟩) (fun (v1:Bool)=>(m109_k0 v1 a0)=some r) ?_ ?_
 refine Qc h0 (fun w1_ h1 h0=>?_)
 refine Qe (b:=(a0==4)) Z (fun c2=>?_) (fun c2=>?_)
 replace h1:=Qf c2 h1
 refine Qh ?_
 have e:=DW h1;subst e
 exact Q9 (a0==4) (DV (Nat.zero_le _) Z Z Z Z Z) h0
 replace h1:=Qg c2 h1
 refine Q4<|Q0<|DY Z Z Z (Q7 Z Z Z)<|rA Z Z Z<|Q5<|Q3 ?_
 refine Qe (b:=(a0==5)) Z (fun c3=>?_) (fun c3=>?_)
 replace h1:=Qf c3 h1
 refine Qh ?_
 have e:=DW h1;subst e
 exact Q9 (a0==5) (DV (Nat.zero_le _) Z Z Z Z Z) h0
 replace h1:=Qg c3 h1
 refine Q4<|Q0<|DY Z Z Z (Q7 Z Z Z)<|rA Z Z Z<|Q5<|Q3 ?_
 refine Qe (b:=(a0==6)) Z (fun c4=>?_) (fun c4=>?_)
 replace h1:=Qf c4 h1
 refine Qh ?_
 have e:=DW h1;subst e
 exact Q9 (a0==6) (DV (Nat.zero_le _) Z Z Z Z Z) h0
 replace h1:=Qg c4 h1
 refine Q0<|DY Z Z Z (Q7 Z Z Z)<|rA Z Z Z<|Q5 ?_
 have e:=DW h1;subst e
 exact Q9 (a0==7) (DV (Nat.zero_le _) Z Z Z Z Z) h0
 intro v1 h0
 unfold m109_k0 at h0
 refine Q3 ?_
 refine Qe (b:=v1) Z (fun c5=>?_) (fun c5=>?_)
 replace h0:=Qf c5 h0
 refine Q4<|Q0<|rA Z Z Z<|Q5<|Q3<|Qp ?_
 have e:=DW h0;subst e
 exact Qo (fun _ _ h=>h) Z (Qn Z .nil) (.cons (.one (.d _)) .nil)
 replace h0:=Qg c5 h0
 refine Q4<|Q4<|Q0<|DY Z Z Z (Q7 Z Z Z)<|rA Z Z Z<|Q5<|Q3 ?_
 refine QC (fun (v6:Bool)=>⟨[(3,.v (.one (dI a0))),(9,.v (.one (dB v6)))],[],[],0,15,[]⟩) (fun (v6:Bool)=>(cond v6
     (some 3)
     (cond (a0==9)
     (cond (a0==9)
     (some 1)
     (some 0))
     (cond (a0==10)
     (some 1)
     (some 0))))=some r) ?_ ?_
 refine Qc h0 (fun w1_ h1 h0=>?_)
 refine Qe (b:=(a0==8)) Z (fun c7=>?_) (fun c7=>?_)
 replace h1:=Qf c7 h1
 refine Qh ?_
 have e:=DW h1;subst e
 exact Q9 (a0==8) (DV (Nat.zero_le _) Z Z Z Z Z) h0
 replace h1:=Qg c7 h1
 refine Q0<|DY Z Z Z (Q7 Z Z Z)<|rA Z Z Z<|Q5 ?_
 have e:=DW h1;subst e
 exact Q9 (a0==11) (DV (Nat.zero_le _) Z Z Z Z Z) h0
 intro v6 h0
 refine Q3 ?_
 refine Qe (b:=v6) Z (fun c8=>?_) (fun c8=>?_)
 replace h0:=Qf c8 h0
 refine Q4<|Q0<|rA Z Z Z<|Q5<|Q3<|Qp ?_
 have e:=DW h0;subst e
 exact Qo (fun _ _ h=>h) Z (Qn Z .nil) (.cons (.one (.d _)) .nil)
 replace h0:=Qg c8 h0
 refine Q4<|Q4<|Q0<|DY Z Z Z (Q7 Z Z Z)<|rA Z Z Z<|Q5<|Q3 ?_
 refine Qe (b:=(a0==9)) Z (fun c9=>?_) (fun c9=>?_)
 replace h0:=Qf c9 h0
 refine Qh<|Q3 ?_
 refine Qe (b:=(a0==9)) Z (fun c10=>?_) (fun c10=>?_)
 replace h0:=Qf c10 h0
 refine Q4<|Q0<|rA Z Z Z<|Q5<|Q3<|Qp ?_
 have e:=DW h0;subst e
 exact Qo (fun _ _ h=>h) Z (Qn Z .nil) (.cons (.one (.d _)) .nil)
 replace h0:=Qg c10 h0
 refine Qh<|Qj<|Q3<|Q4<|Q0<|rA Z Z Z<|Q5<|Q3<|Qp ?_
 have e:=DW h0;subst e
 exact Qo (fun _ _ h=>h) Z (Qn Z .nil) (.cons (.one (.d _)) .nil)
 replace h0:=Qg c9 h0
 refine Q0<|DY Z Z Z (Q7 Z Z Z)<|rA Z Z Z<|Q5<|Q3 ?_
 refine Qe (b:=(a0==10)) Z (fun c11=>?_) (fun c11=>?_)
 replace h0:=Qf c11 h0
 refine Q4<|Q0<|rA Z Z Z<|Q5<|Q3<|Qp ?_
 have e:=DW h0;subst e
 exact Qo (fun _ _ h=>h) Z (Qn Z .nil) (.cons (.one (.d _)) .nil)
 replace h0:=Qg c11 h0
 refine Qh<|Qj<|Q3<|Q4<|Q0<|rA Z Z Z<|Q5<|Q3<|Qp ?_
 have e:=DW h0;subst e
 exact Qo (fun _ _ h=>h) Z (Qn Z .nil) (.cons (.one (.d _)) .nil)
def U3 (a0:Int) (a1:Int):Option Int :=
 Option.bind (cond (a1==1)
   (cond (a0==5)
   (some true)
   (cond (a0==6)
   (some true)
   (cond (a0==7)
   (some true)
   (cond (a1==2)
   (some (a0==11))
   (some false)))))
   (cond (a1==2)
   (some (a0==11))
   (some false))) (fun (v1:Bool)=>cond v1
   (some 1)
   (some 0))
theorem m107_ok (a0:Int) (a1:Int) (r:Int) (h0:U3 a0 a1=some r):Fun Try.prog 107 [.one (dI a0),.one (dI a1)] (QM [.one (dI r)]):=by
 unfold U3 at h0
 refine QB 9 27 Try.func107 Z en_107 Z (lb Z) (fun S w=>?_)
 simp only [J5]
 refine Q4<|Q0<|rA Z Z Z<|Q5<|Q3<|Q4<|Q4 ?_
 refine QC (fun (v1:Bool)=>⟨[(26,.v (.one (dB v1)))],[],[],0,27,[]⟩) (fun (v1:Bool)=>(cond v1
     (some 1)
     (some 0))=some r) ?_ ?_
 refine Qc h0 (fun w1_ h1 h0=>?_)
 refine Q0<|DZ Z Z Z<|DY Z Z Z (Q7 Z Z Z)<|DZ Z Z Z ?_
 refine Qv (d:=7) (c:=(a1==1)) Z (fun c2=>?_) (fun c2=>?_)
 replace h1:=Qf c2 h1
 refine DZ Z Z Z<|DY Z Z Z (Q7 Z Z Z)<|DZ Z Z Z ?_
 refine Qv (d:=10) (c:=(a0==5)) Z (fun c3=>?_) (fun c3=>?_)
 replace h1:=Qf c3 h1
 refine Q8 Z Z<|Q8 Z Z<|DY Z Z Z (Qd Z Z)<|DZ Z Z Z<|Q8 Z Z<|Q8 Z Z<|DY Z Z Z (Qd Z Z)<|DY Z Z Z (Qd Z Z)<|DZ Z Z Z<|Q8 Z Z<|Q8 Z Z<|Q8 Z Z<|Q8 Z Z<|Q8 Z Z ?_
 refine Q8 Z Z<|DY Z Z Z (Qd Z Z)<|Q5 ?_
 have e:=DW h1;subst e
 exact Q9 true (DV (Nat.zero_le _) Z Z Z Z Z) h0
 replace h1:=Qg c3 h1
 refine DZ Z Z Z<|DY Z Z Z (Q7 Z Z Z)<|DY Z Z Z (Qb Z Z)<|DZ Z Z Z ?_
 refine Qv (d:=14) (c:=(a0==6)) Z (fun c4=>?_) (fun c4=>?_)
 replace h1:=Qf c4 h1
 refine Q8 Z Z<|Q8 Z Z<|DY Z Z Z (Qd Z Z)<|DY Z Z Z (Qd Z Z)<|DZ Z Z Z<|Q8 Z Z<|Q8 Z Z<|Q8 Z Z<|Q8 Z Z<|Q8 Z Z<|Q8 Z Z<|DY Z Z Z (Qd Z Z)<|Q5 ?_
 have e:=DW h1;subst e
 exact Q9 true (DV (Nat.zero_le _) Z Z Z Z Z) h0
 replace h1:=Qg c4 h1
 refine DZ Z Z Z<|DY Z Z Z (Q7 Z Z Z)<|DY Z Z Z (Qb Z Z)<|DY Z Z Z (Qd Z Z)<|DZ Z Z Z ?_
 refine Qv (d:=19) (c:=(a0==7)) Z (fun c5=>?_) (fun c5=>?_)
 replace h1:=Qf c5 h1
 refine Q8 Z Z<|Q8 Z Z<|Q8 Z Z<|Q8 Z Z<|Q8 Z Z<|Q8 Z Z<|DY Z Z Z (Qd Z Z)<|Q5 ?_
 have e:=DW h1;subst e
 exact Q9 true (DV (Nat.zero_le _) Z Z Z Z Z) h0
 replace h1:=Qg c5 h1
 refine DZ Z Z Z<|DY Z Z Z (Q7 Z Z Z)<|DZ Z Z Z ?_
 refine Qv (d:=22) (c:=(a1==2)) Z (fun c6=>?_) (fun c6=>?_)
 replace h1:=Qf c6 h1
 refine DZ Z Z Z<|DY Z Z Z (Q7 Z Z Z)<|DY Z Z Z (Qd Z Z)<|DY Z Z Z (Qb Z Z)<|Q5 ?_
 have e:=DW h1;subst e
 exact Q9 (a0==11) (DV (Nat.zero_le _) Z Z Z Z Z) h0
 replace h1:=Qg c6 h1
 refine Q8 Z Z<|Q8 Z Z<|DY Z Z Z (Qb Z Z)<|DY Z Z Z (Qb Z Z)<|Q5 ?_
 have e:=DW h1;subst e
 exact Q9 false (DV (Nat.zero_le _) Z Z Z Z Z) h0
 replace h1:=Qg c2 h1
 refine Q8 Z Z<|Q8 Z Z<|Q8 Z Z<|Q8 Z Z<|Q8 Z Z<|Q8 Z Z<|Q8 Z Z<|Q8 Z Z<|Q8 Z Z<|Q8 Z Z<|DY Z Z Z (Qb Z Z)<|DZ Z Z Z<|DZ Z Z Z<|DY Z Z Z (Q7 Z Z Z) ?_
 refine DZ Z Z Z ?_
 refine Qv (d:=22) (c:=(a1==2)) Z (fun c7=>?_) (fun c7=>?_)
 replace h1:=Qf c7 h1
 refine DZ Z Z Z<|DY Z Z Z (Q7 Z Z Z)<|DY Z Z Z (Qd Z Z)<|DY Z Z Z (Qb Z Z)<|Q5 ?_
 have e:=DW h1;subst e
 exact Q9 (a0==11) (DV (Nat.zero_le _) Z Z Z Z Z) h0
 replace h1:=Qg c7 h1
 refine Q8 Z Z<|Q8 Z Z<|DY Z Z Z (Qb Z Z)<|DY Z Z Z (Qb Z Z)<|Q5 ?_
 have e:=DW h1;subst e
 exact Q9 false (DV (Nat.zero_le _) Z Z Z Z Z) h0
 intro v1 h0
 refine Q3 ?_
 refine Qe (b:=v1) Z (fun c8=>?_) (fun c8=>?_)
 replace h0:=Qf c8 h0
 refine Q4<|Q0<|rA Z Z Z<|Q5<|Q3<|Qp ?_
 have e:=DW h0;subst e
 exact Qo (fun _ _ h=>h) Z (Qn Z .nil) (.cons (.one (.d _)) .nil)
 replace h0:=Qg c8 h0
 refine Qh<|Q3<|Q4<|Q0<|rA Z Z Z<|Q5<|Q3<|Qp ?_
 have e:=DW h0;subst e
 exact Qo (fun _ _ h=>h) Z (Qn Z .nil) (.cons (.one (.d _)) .nil)
def m105_k0 (p0_:Bool) (p1_:Tm):Option Bool :=
 cond p0_
   (some false)
   (Option.bind (cond (!(p1_.name==([]:List UInt8)))
   (some (p1_.kind != 3))
   (some false)) (fun (b0_:Bool)=>cond b0_
   (some false)
   (cond (p1_.kind==2)
   (some ((p1_.levels.length:Int)==1))
   (Option.bind (cond ((p1_.levels.length:Int)==0)
   (some true)
   (some (p1_.kind==3))) (fun (b1_:Bool)=>some b1_)))))
def Us (a0:Tm):Option Bool :=
 Option.bind (cond (decide (a0.kind < 0))
   (some true)
   (cond (decide (13≤a0.kind))
   (some true)
   (Option.bind (m109 a0.kind) fun (x4:Int) =>
 some ((a0.kids.length:Int) != x4)))) (fun (v1:Bool)=>cond v1
   (some false)
   (Option.bind (cond (a0.index != 0)
   (cond (a0.kind != 0)
   (some (a0.kind != 12))
   (some false))
   (some false)) (fun (v3:Bool)=>m105_k0 v3 a0)))
theorem m105_ok (a0:Tm) (r:Bool) (h0:Us a0=some r):Fun Try.prog 105 [.agg (cE a0)] (QM [.one (dB r)]):=by
 unfold Us at h0
 refine QB 9 57 Try.func105 Z en_105 Z (lb Z) (fun S w=>?_)
 simp only [J5]
 refine Q4<|Q0<|Qa Z Z (lb Z) (QN Z)<|rA Z Z Z<|Q5<|Q3<|Q4<|Q4 ?_
 refine QC (fun (v1:Bool)=>⟨[(1,.v (.one (.ptr 0 0))),(19,.v (.one (dB v1)))],[(0,.cells 33 (cE a0))],[],1,57,[]⟩) (fun (v1:Bool)=>(cond v1
     (some false)
     (Option.bind (cond (a0.index != 0)
     (cond (a0.kind != 0)
     (some (a0.kind != 12))
     (some false))
     (some false)) (fun (v3:Bool)=>m105_k0 v3 a0)))=some r) ?_ ?_
 refine Qc h0 (fun w1_ h1 h0=>?_)
 refine J6 [] [] JT (by kernel_rfl) (by kernel_rfl) (by kernel_rfl) ?_
 refine RunA.rd Z Z Z (Q1 (Q2 JD Z)) Z<|RunA.rd Z Z Z (Q1 (Q6 QI Z Z Z)) Z<|RunA.rd Z Z Z (Q1 (Q7 Z Z Z)) Z ?_
 refine JN (c:=(decide (a0.kind < 0))) Z Z Z (Q1 (Qr Z)) Z (fun c2=>?_) (fun c2=>?_)
 replace h1:=Qf c2 h1
 refine RunA.no Z Z Z Z<|RunA.no Z Z Z Z<|RunA.no Z Z Z Z<|RunA.rd Z Z Z (Q1 (Qd Z Z)) Z<|RunA.rd Z Z Z (Q1 (Qr Z)) Z<|RunA.no Z Z Z Z<|RunA.no Z Z Z Z<|RunA.no Z Z Z Z<|RunA.no Z Z Z Z<|RunA.no Z Z Z Z<|RunA.no Z Z Z Z<|RunA.no Z Z Z Z<|RunA.rd Z Z Z (Q1 (Qd Z Z)) Z ?_
 refine RunA.nil ⟨?ex,_,_,Z,?_⟩
 case ex=>exact trivial
 have e:=DW h1;subst e
 exact Q9 true (DV (Nat.zero_le _) Z Z Z Z Z) h0
 replace h1:=Qg c2 h1
 refine RunA.rd Z Z Z (Q1 (Q2 JD Z)) Z<|RunA.rd Z Z Z (Q1 (Q6 QI Z Z Z)) Z<|RunA.rd Z Z Z (Q1 (Q7 Z Z Z)) Z<|RunA.rd Z Z Z (Q1 (Qb Z Z)) Z ?_
 refine JN (c:=(decide (13≤a0.kind))) Z Z Z (Q1 (Qr Z)) Z (fun c3=>?_) (fun c3=>?_)
 replace h1:=Qf c3 h1
 refine RunA.no Z Z Z Z<|RunA.no Z Z Z Z<|RunA.no Z Z Z Z<|RunA.no Z Z Z Z<|RunA.no Z Z Z Z<|RunA.no Z Z Z Z<|RunA.no Z Z Z Z<|RunA.rd Z Z Z (Q1 (Qd Z Z)) Z ?_
 refine RunA.nil ⟨?ex,_,_,Z,?_⟩
 case ex=>exact trivial
 have e:=DW h1;subst e
 exact Q9 true (DV (Nat.zero_le _) Z Z Z Z Z) h0
 replace h1:=Qg c3 h1
 refine RunA.rd Z Z Z (Q1 (Q2 Js Z)) Z<|RunA.rd Z Z Z (Q1 (Q6 JH Z Z Z)) Z<|RunA.rd Z Z Z (Q1 (Qx (α:=Tm) Jk Z (.d _))) Z<|RunA.rd Z Z Z (Q1 (Q2 JD Z)) Z<|RunA.rd Z Z Z (Q1 (Q6 QI Z Z Z)) Z ?_
 refine Qc h1 (fun x4 hx4 h1=>?_)
 refine RunA.rd Z Z Z (Qi (m109_ok a0.kind x4 hx4) Z (.cons (.one (.d _)) .nil)) Z<|RunA.rd Z Z Z (Q1 (Q7 Z Z Z)) Z<|RunA.rd Z Z Z (Q1 (Qb Z Z)) Z ?_
 refine RunA.nil ⟨?ex,_,_,Z,?_⟩
 case ex=>exact trivial
 have e:=DW h1;subst e
 exact Q9 ((a0.kids.length:Int) != x4) (DV (Nat.zero_le _) Z Z Z Z Z) h0
 intro v1 h0
 refine Q3 ?_
 refine Qe (b:=v1) Z (fun c5=>?_) (fun c5=>?_)
 replace h0:=Qf c5 h0
 refine Q4<|Q0<|rA Z Z Z<|Q5<|Q3<|Qp ?_
 have e:=DW h0;subst e
 exact Qo (fun _ _ h=>h) Z (Qn Z .nil) (.cons (.one (.d _)) .nil)
 replace h0:=Qg c5 h0
 refine Qh<|Q3<|Q4<|Q4 ?_
 refine QC (fun (v6:Bool)=>⟨[(1,.v (.one (.ptr 0 0))),(32,.v (.one (dB v6)))],[(0,.cells 33 (cE a0))],[],1,57,[]⟩) (fun (v6:Bool)=>(m105_k0 v6 a0)=some r) ?_ ?_
 refine Qc h0 (fun w1_ h1 h0=>?_)
 refine Q0<|DY Z Z Z (Q2 YD Z)<|DY Z Z Z (Q6 QI Z Z Z)<|DY Z Z Z (Q7 Z Z Z)<|DZ Z Z Z ?_
 refine Qv (d:=23) (c:=(a0.index != 0)) Z (fun c7=>?_) (fun c7=>?_)
 replace h1:=Qf c7 h1
 refine DY Z Z Z (Q2 JD Z)<|DY Z Z Z (Q6 QI Z Z Z)<|DY Z Z Z (Q7 Z Z Z)<|DY Z Z Z (Qd Z Z)<|DZ Z Z Z ?_
 refine Qv (d:=28) (c:=(a0.kind != 0)) Z (fun c8=>?_) (fun c8=>?_)
 replace h1:=Qf c8 h1
 refine DY Z Z Z (Q2 JD Z)<|DY Z Z Z (Q6 QI Z Z Z)<|DY Z Z Z (Q7 Z Z Z)<|DY Z Z Z (Qd Z Z)<|Q5 ?_
 have e:=DW h1;subst e
 exact Q9 (a0.kind != 12) (DV (Nat.zero_le _) Z Z Z Z Z) h0
 replace h1:=Qg c8 h1
 refine Q8 Z Z<|Q8 Z Z<|Q8 Z Z<|DY Z Z Z (Qb Z Z)<|Q5 ?_
 have e:=DW h1;subst e
 exact Q9 false (DV (Nat.zero_le _) Z Z Z Z Z) h0
 replace h1:=Qg c7 h1
 refine Q8 Z Z<|Q8 Z Z<|Q8 Z Z<|DY Z Z Z (Qb Z Z)<|DZ Z Z Z<|Q8 Z Z<|Q8 Z Z<|Q8 Z Z<|DY Z Z Z (Qb Z Z)<|Q5 ?_
 have e:=DW h1;subst e
 exact Q9 false (DV (Nat.zero_le _) Z Z Z Z Z) h0
 intro v6 h0
 unfold m105_k0 at h0
 refine Q3 ?_
 refine Qe (b:=v6) Z (fun c9=>?_) (fun c9=>?_)
 replace h0:=Qf c9 h0
 refine Q4<|Q0<|rA Z Z Z<|Q5<|Q3<|Qp ?_
 have e:=DW h0;subst e
 exact Qo (fun _ _ h=>h) Z (Qn Z .nil) (.cons (.one (.d _)) .nil)
 replace h0:=Qg c9 h0
 refine Qh<|Q3<|Q4<|Q4 ?_
 refine QC (fun (v10:Bool)=>⟨[(1,.v (.one (.ptr 0 0))),(40,.v (.one (dB v10)))],[(0,.cells 33 (cE a0))],[],1,57,[]⟩) (fun (v10:Bool)=>(cond v10
     (some false)
     (cond (a0.kind==2)
     (some ((a0.levels.length:Int)==1))
     (Option.bind (cond ((a0.levels.length:Int)==0)
     (some true)
     (some (a0.kind==3))) (fun (v13:Bool)=>some v13))))=some r) ?_ ?_
 refine Qc h0 (fun w1_ h1 h0=>?_)
 refine Q0<|DY Z Z Z (Q2 Z3 Z)<|DY Z Z Z (Q6 JK Z Z Z)<|DY Z Z Z (RO.neS Z Z)<|DZ Z Z Z ?_
 refine Qv (d:=36) (c:=(!(a0.name==([]:List UInt8)))) Z (fun c11=>?_) (fun c11=>?_)
 replace h1:=Qf c11 h1
 refine DY Z Z Z (Q2 JD Z)<|DY Z Z Z (Q6 QI Z Z Z)<|DY Z Z Z (Q7 Z Z Z)<|DY Z Z Z (Qd Z Z)<|Q5 ?_
 have e:=DW h1;subst e
 exact Q9 (a0.kind != 3) (DV (Nat.zero_le _) Z Z Z Z Z) h0
 replace h1:=Qg c11 h1
 refine Q8 Z Z<|Q8 Z Z<|Q8 Z Z<|DY Z Z Z (Qb Z Z)<|Q5 ?_
 have e:=DW h1;subst e
 exact Q9 false (DV (Nat.zero_le _) Z Z Z Z Z) h0
 intro v10 h0
 refine Q3 ?_
 refine Qe (b:=v10) Z (fun c12=>?_) (fun c12=>?_)
 replace h0:=Qf c12 h0
 refine Q4<|Q0<|rA Z Z Z<|Q5<|Q3<|Qp ?_
 have e:=DW h0;subst e
 exact Qo (fun _ _ h=>h) Z (Qn Z .nil) (.cons (.one (.d _)) .nil)
 replace h0:=Qg c12 h0
 refine Qh<|Q3<|Q4<|Q4<|Q0<|DY Z Z Z (Q2 JD Z)<|DY Z Z Z (Q6 QI Z Z Z)<|DY Z Z Z (Q7 Z Z Z)<|Q5<|Q3 ?_
 refine Qe (b:=(a0.kind==2)) Z (fun c13=>?_) (fun c13=>?_)
 replace h0:=Qf c13 h0
 refine Q4<|Q0<|DY Z Z Z (Q2 Yu Z)<|DY Z Z Z (Q6 ZU Z Z Z)<|DY Z Z Z (Qx (α:=Lvl) YO Z (.d _))<|DY Z Z Z (Q7 Z Z Z)<|rA Z Z Z<|Q5<|Q3<|Qp ?_
 have e:=DW h0;subst e
 exact Qo (fun _ _ h=>h) Z (Qn Z .nil) (.cons (.one (.d _)) .nil)
 replace h0:=Qg c13 h0
 refine Qh<|Q3<|Q4 ?_
 refine QC (fun (v14:Bool)=>⟨[(2,.v (.one (dB v14)))],[(0,.cells 33 (cE a0))],[],1,57,[]⟩) (fun (v14:Bool)=>(some v14)=some r) ?_ ?_
 refine Qc h0 (fun w1_ h1 h0=>?_)
 refine Q0<|DY Z Z Z (Q2 Yu Z)<|DY Z Z Z (Q6 ZU Z Z Z)<|DY Z Z Z (Qx (α:=Lvl) YO Z (.d _))<|DY Z Z Z (Q7 Z Z Z)<|DZ Z Z Z ?_
 refine Qv (d:=52) (c:=((a0.levels.length:Int)==0)) Z (fun c15=>?_) (fun c15=>?_)
 replace h1:=Qf c15 h1
 refine Q8 Z Z<|Q8 Z Z<|Q8 Z Z<|DY Z Z Z (Qd Z Z)<|rA Z Z Z<|Q5 ?_
 have e:=DW h1;subst e
 exact Q9 true (DV (Nat.zero_le _) Z Z Z Z Z) h0
 replace h1:=Qg c15 h1
 refine DY Z Z Z (Q2 JD Z)<|DY Z Z Z (Q6 QI Z Z Z)<|DY Z Z Z (Q7 Z Z Z)<|DY Z Z Z (Qb Z Z)<|rA Z Z Z<|Q5 ?_
 have e:=DW h1;subst e
 exact Q9 (a0.kind==3) (DV (Nat.zero_le _) Z Z Z Z Z) h0
 intro v14 h0
 refine Q3<|Qp ?_
 have e:=DW h0;subst e
 exact Qo (fun _ _ h=>h) Z (Qn Z .nil) (.cons (.one (.d _)) .nil)
def X0 (a0:Lvl) (a1:Int) (s1:Int):Option (LO Int (Unit⊕Int)) :=
 cond (decide (s1 < (a0.vs.length:Int)))
   (Option.bind (Option.bind (JX a0.vs s1) fun (x6:LV) =>
 cond (decide (0≤x6.1))
   (Option.bind (JX a0.vs s1) fun (x8:LV) =>
 some (decide (a1≤x8.1)))
   (some false)) (fun (v5:Bool)=>cond v5
   (some (.done (.inr 15)))
   (some (.next (Jb (s1+1))))))
   (some (.done (.inl ())))
def Ge (a0:Lvl) (a2:Int) (s1:Int):Option (LO Int (Unit⊕Int)) :=
 cond (decide (s1 < (a0.vs.length:Int)))
   (Option.bind (Option.bind (JX a0.vs s1) fun (x7:LV) =>
 cond (decide (x7.1 < 0))
   (Option.bind (JX a0.vs s1) fun (x9:LV) =>
 some (decide (a2≤(Jb ((-1) - x9.1)))))
   (some false)) (fun (v6:Bool)=>cond v6
   (some (.done (.inr 23)))
   (some (.next (Jb (s1+1))))))
   (some (.done (.inl ())))
def UC (a0:Lvl) (a1:Int) (a2:Int):Option Int :=
 Option.bind (UJ a0) fun (x1:Bool) =>
 cond (!x1)
   (some 3)
   (Option.bind (QE (X0 a0 a1) QV 0) (Sum.elim (fun (o3:Unit)=>Option.bind (QE (Ge a0 a2) QV 0) (Sum.elim (fun (o4:Unit)=>some 0) (fun o=>some o))) (fun o=>some o)))
theorem m106_ok (a0:Lvl) (a1:Int) (a2:Int) (r:Int) (h0:UC a0 a1 a2=some r):Fun Try.prog 106 [.agg (cE a0),.one (dI a1),.one (dI a2)] (QM [.one (dI r)]):=by
 unfold UC at h0
 refine QB 9 61 Try.func106 Z en_106 Z (lb Z) (fun S w=>?_)
 simp only [J5]
 refine Q4<|Q0<|Qa Z Z (lb Z) (QN Z)<|rA Z Z Z<|Q5<|Q3<|Q4<|Q4<|Q0<|DY Z Z Z (QH (a0:Lvl) ZY Z Z) ?_
 refine Qc h0 (fun x1 hx1 h0=>?_)
 refine Qa Z Z (lb Z) (Qi (m110_ok a0 x1 hx1) Z (.cons (.agg (.cons (.d _) (.cons (.d _) .nil))) .nil))<|DY Z Z Z (Jg Z)<|Q5<|Q3 ?_
 refine Qe (b:=(!x1)) Z (fun c2=>?_) (fun c2=>?_)
 replace h0:=Qf c2 h0
 refine Q4<|Q0<|rA Z Z Z<|Q5<|Q3<|Qp ?_
 have e:=DW h0;subst e
 exact Qo (fun _ _ h=>h) Z (Qn Z .nil) (.cons (.one (.d _)) .nil)
 replace h0:=Qg c2 h0
 refine Qh<|Q3<|Q4<|Q4<|Q0<|rA Z Z Z<|Q5<|Q3<|Ql ?_
 refine QS 0 (fun (o3:Unit)=>⟨[(2,.v (.one (dI a2))),(3,.v (.one (.ptr 0 0)))],[(0,.cells 87 (cE a0))],[],1,61,[]⟩) (fun (o3:Unit)=>(Option.bind (QE (Ge a0 a2) QV 0) (Sum.elim (fun (o4:Unit)=>some 0) (fun o=>some o)))=some r) ?_ ?_
 refine Qc h0 (fun o4 hl1 h0=>?_)
 refine QR (X0 a0 a1) (fun s1=>⟨[(1,.v (.one (dI a1))),(2,.v (.one (dI a2))),(3,.v (.one (.ptr 0 0))),(7,.v (.one (dI s1)))],[(0,.cells 87 (cE a0))],[],1,61,[]⟩) 0 o4 (DV (Nat.zero_le _) Z Z Z Z Z) hl1 (fun s1 n1 oo1 h1 ho1=>?_)
 unfold X0 at h1
 refine Q4<|Q4<|Q0<|DZ Z Z Z<|DY Z Z Z (Q2 Yj Z)<|DY Z Z Z (Q6 Zr Z Z Z)<|DY Z Z Z (Qx (α:=LV) YN Z (.d _))<|DY Z Z Z (Q7 Z Z Z)<|Q5<|Q3 ?_
 refine Qe (b:=(decide (s1 < (a0.vs.length:Int)))) Z (fun c5=>?_) (fun c5=>?_)
 replace h1:=Qf c5 h1
 refine Qh<|Q3<|Q4<|Ql<|Q4 ?_
 refine QC (fun (v6:Bool)=>⟨[(1,.v (.one (dI a1))),(2,.v (.one (dI a2))),(3,.v (.one (.ptr 0 0))),(7,.v (.one (dI s1))),(35,.v (.one (dB v6)))],[(0,.cells 87 (cE a0))],[],1,61,[]⟩) (fun (v6:Bool)=>(cond v6
     (some (.done (.inr 15)))
     (some (.next (Jb (s1+1)))))=some oo1) ?_ ?_
 refine Qc h1 (fun w2_ h2 h1=>?_)
 refine Q0<|DY Z Z Z (Q2 Yj Z)<|DY Z Z Z (Q6 Zr Z Z Z)<|DZ Z Z Z ?_
 refine Qc h2 (fun x7 hx7 h2=>?_)
 refine DY Z Z Z (Qt (α:=LV) YN Z (.d _) Z hx7)<|DY Z Z Z (J8 YB Z)<|DY Z Z Z (Ji QI Z Z)<|DY Z Z Z (Q7 Z Z Z)<|DZ Z Z Z ?_
 refine Qv (d:=26) (c:=(decide (0≤x7.1))) Z (fun c8=>?_) (fun c8=>?_)
 replace h2:=Qf c8 h2
 refine DY Z Z Z (Q2 Yj Z)<|DY Z Z Z (Q6 Zr Z Z Z)<|DZ Z Z Z ?_
 refine Qc h2 (fun x9 hx9 h2=>?_)
 refine DY Z Z Z (Qt (α:=LV) YN Z (.d _) Z hx9)<|DY Z Z Z (J8 YB Z)<|DY Z Z Z (Ji QI Z Z)<|DZ Z Z Z<|DY Z Z Z (Q7 Z Z Z)<|DY Z Z Z (Qd Z Z)<|Q5 ?_
 have e:=DW h2;subst e
 exact Q9 (decide (a1≤x9.1)) (DV (Nat.zero_le _) Z Z Z Z Z) h1
 replace h2:=Qg c8 h2
 refine Q8 Z Z<|Q8 Z Z<|Q8 Z Z<|Q8 Z Z<|Q8 Z Z<|Q8 Z Z<|Q8 Z Z<|Q8 Z Z<|DY Z Z Z (Qb Z Z)<|Q5 ?_
 have e:=DW h2;subst e
 exact Q9 false (DV (Nat.zero_le _) Z Z Z Z Z) h1
 intro v6 h1
 refine Q3 ?_
 refine Qe (b:=v6) Z (fun c10=>?_) (fun c10=>?_)
 replace h1:=Qf c10 h1
 refine Q4<|Q0<|rA Z Z Z<|Q5<|Q3<|Qp ?_
 have e:=DW h1;subst e
 have e_:_=_:=ho1
 subst e_
 try dsimp only [Sum.elim_inl,Sum.elim_inr] at h0
 have e:=DW h0;subst e
 exact Qo (fun _ _ h=>h) Z (Qn Z .nil) (.cons (.one (.d _)) .nil)
 replace h1:=Qg c10 h1
 refine Qh<|Qj<|Q3<|Q0<|DZ Z Z Z<|DY Z Z Z (Q7 Z Z Z)<|rA Z Z Z<|Q5 ?_
 have e:=DW h1;subst e
 refine QL (Jb (s1+1)) (DV (Nat.zero_le _) Z Z Z Z Z) ho1
 replace h1:=Qg c5 h1
 refine QW<|Qq<|Qq ?_
 have e:=DW h1;subst e
 have e_:_=_:=ho1
 subst e_
 exact QQ () (DV (Nat.zero_le _) Z Z Z Z Z) h0
 intro o3 h0
 refine QF<|Q3<|Q4<|Q4<|Q0<|rA Z Z Z<|Q5<|Q3<|Ql ?_
 refine QS 2 (fun (o11:Unit)=>⟨[],[(0,.cells 87 (cE a0))],[],1,61,[]⟩) (fun (o11:Unit)=>(some 0)=some r) ?_ ?_
 refine Qc h0 (fun o12 hl1 h0=>?_)
 refine QR (Ge a0 a2) (fun s1=>⟨[(2,.v (.one (dI a2))),(3,.v (.one (.ptr 0 0))),(8,.v (.one (dI s1)))],[(0,.cells 87 (cE a0))],[],1,61,[]⟩) 0 o12 (DV (Nat.zero_le _) Z Z Z Z Z) hl1 (fun s1 n1 oo1 h1 ho1=>?_)
 unfold Ge at h1
 refine Q4<|Q4<|Q0<|DZ Z Z Z<|DY Z Z Z (Q2 Yj Z)<|DY Z Z Z (Q6 Zr Z Z Z)<|DY Z Z Z (Qx (α:=LV) YN Z (.d _))<|DY Z Z Z (Q7 Z Z Z)<|Q5<|Q3 ?_
 refine Qe (b:=(decide (s1 < (a0.vs.length:Int)))) Z (fun c13=>?_) (fun c13=>?_)
 replace h1:=Qf c13 h1
 refine Qh<|Q3<|Q4<|Ql<|Q4 ?_
 refine QC (fun (v14:Bool)=>⟨[(2,.v (.one (dI a2))),(3,.v (.one (.ptr 0 0))),(8,.v (.one (dI s1))),(60,.v (.one (dB v14)))],[(0,.cells 87 (cE a0))],[],1,61,[]⟩) (fun (v14:Bool)=>(cond v14
     (some (.done (.inr 23)))
     (some (.next (Jb (s1+1)))))=some oo1) ?_ ?_
 refine Qc h1 (fun w2_ h2 h1=>?_)
 refine Q0<|DY Z Z Z (Q2 Yj Z)<|DY Z Z Z (Q6 Zr Z Z Z)<|DZ Z Z Z ?_
 refine Qc h2 (fun x15 hx15 h2=>?_)
 refine DY Z Z Z (Qt (α:=LV) YN Z (.d _) Z hx15)<|DY Z Z Z (J8 YB Z)<|DY Z Z Z (Ji QI Z Z)<|DY Z Z Z (Q7 Z Z Z)<|DZ Z Z Z ?_
 refine Qv (d:=50) (c:=(decide (x15.1 < 0))) Z (fun c16=>?_) (fun c16=>?_)
 replace h2:=Qf c16 h2
 refine DY Z Z Z (Q2 Yj Z)<|DY Z Z Z (Q6 Zr Z Z Z)<|DZ Z Z Z ?_
 refine Qc h2 (fun x17 hx17 h2=>?_)
 refine DY Z Z Z (Qt (α:=LV) YN Z (.d _) Z hx17)<|DY Z Z Z (J8 YB Z)<|DY Z Z Z (Ji QI Z Z)<|DY Z Z Z (Q7 Z Z Z)<|DZ Z Z Z<|DY Z Z Z (Q7 Z Z Z)<|DY Z Z Z (Qd Z Z)<|Q5 ?_
 have e:=DW h2;subst e
 exact Q9 (decide (a2≤(Jb ((-1) - x17.1)))) (DV (Nat.zero_le _) Z Z Z Z Z) h1
 replace h2:=Qg c16 h2
 refine Q8 Z Z<|Q8 Z Z<|Q8 Z Z<|Q8 Z Z<|Q8 Z Z<|Q8 Z Z<|Q8 Z Z<|Q8 Z Z<|Q8 Z Z<|DY Z Z Z (Qb Z Z)<|Q5 ?_
 have e:=DW h2;subst e
 exact Q9 false (DV (Nat.zero_le _) Z Z Z Z Z) h1
 intro v14 h1
 refine Q3 ?_
 refine Qe (b:=v14) Z (fun c18=>?_) (fun c18=>?_)
 replace h1:=Qf c18 h1
 refine Q4<|Q0<|rA Z Z Z<|Q5<|Q3<|Qp ?_
 have e:=DW h1;subst e
 have e_:_=_:=ho1
 subst e_
 try dsimp only [Sum.elim_inl,Sum.elim_inr] at h0
 have e:=DW h0;subst e
 exact Qo (fun _ _ h=>h) Z (Qn Z .nil) (.cons (.one (.d _)) .nil)
 replace h1:=Qg c18 h1
 refine Qh<|Qj<|Q3<|Q0<|DZ Z Z Z<|DY Z Z Z (Q7 Z Z Z)<|rA Z Z Z<|Q5 ?_
 have e:=DW h1;subst e
 refine QL (Jb (s1+1)) (DV (Nat.zero_le _) Z Z Z Z Z) ho1
 replace h1:=Qg c13 h1
 refine QW<|Qq<|Qq ?_
 have e:=DW h1;subst e
 have e_:_=_:=ho1
 subst e_
 exact QQ () (DV (Nat.zero_le _) Z Z Z Z Z) h0
 intro o11 h0
 refine QF<|Q3<|Q4<|Q0<|rA Z Z Z<|Q5<|Q3<|Qp ?_
 have e:=DW h0;subst e
 exact Qo (fun _ _ h=>h) Z (Qn Z .nil) (.cons (.one (.d _)) .nil)
def Kx (a0:Tm) (a3:Int) (a5:Int) (s1:Int):Option (LO Int (Unit⊕Int)) :=
 cond (decide (s1 < (a0.levels.length:Int)))
   (Option.bind (JX a0.levels s1) fun (x8:Lvl) =>
 Option.bind (UC x8 a3 a5) fun (x9:Int) =>
 cond (x9 != 0)
   (some (.done (.inr x9)))
   (some (.next (Jb (s1+1)))))
   (some (.done (.inl ())))
def Kw (a0:Tm) (rc:Tm×Int×Int×Int×Int×Int→Option Int) (a1:Int) (a2:Int) (a3:Int) (a4:Int) (a5:Int) (s1:Int):Option (LO Int (Unit⊕Int)) :=
 cond (decide (s1 < (a0.kids.length:Int)))
   (Option.bind (JX a0.kids s1) fun (x13:Tm) =>
 Option.bind (U3 a0.kind s1) fun (x14:Int) =>
 Option.bind (rc (x13,(Jb (a1+x14)),a2,a3,a4,a5)) fun (x15:Int) =>
 cond (x15 != 0)
   (some (.done (.inr x15)))
   (some (.next (Jb (s1+1)))))
   (some (.done (.inl ())))
def K7 (p0_:Bool) (p1_:Tm) (p2_:Int) (p3_:Tm×Int×Int×Int×Int×Int→Option Int) (p4_:Int) (p5_:Int) (p6_:Int) (p7_:Int):Option Int :=
 cond p0_
   (some 24)
   (Option.bind (cond (p1_.kind==12)
   (cond (decide (p1_.index < 0))
   (some true)
   (some (decide (p2_≤p1_.index))))
   (some false)) (fun (b0_:Bool)=>cond b0_
   (some 23)
   (Option.bind (QE (Kw p1_ p3_ p4_ p5_ p6_ p2_ p7_) QV 0) (Sum.elim (fun (b1_:Unit)=>some 0) (fun o=>some o)))))
def m100_k3 (p0_:Bool) (p1_:Tm) (p2_:Int) (p3_:Int) (p4_:Int) (p5_:Int) (p6_:Int) (p7_:Tm×Int×Int×Int×Int×Int→Option Int):Option Int :=
 cond p0_
   (some 29)
   (cond (decide (8 < (p1_.levels.length:Int)))
   (some 6)
   (Option.bind (QE (Kx p1_ p2_ p3_) QV 0) (Sum.elim (fun (b0_:Unit)=>Option.bind (cond (p1_.kind==0)
   (cond (decide (p1_.index < 0))
   (some true)
   (some (decide (p4_≤(Jb (p1_.index - p5_))))))
   (some false)) (fun (b1_:Bool)=>K7 b1_ p1_ p6_ p7_ p5_ p4_ p2_ p3_)) (fun o=>some o))))
def Uh (rc:Tm×Int×Int×Int×Int×Int→Option Int) (a0:Tm) (a1:Int) (a2:Int) (a3:Int) (a4:Int) (a5:Int):Option Int :=
 Option.bind (Us a0) fun (x1:Bool) =>
 cond (!x1)
   (some 3)
   (Option.bind (cond (a0.kind==3)
   (Option.bind (Do a0.name) fun (x5:Bool) =>
 some (!x5))
   (some false)) (fun (v3:Bool)=>m100_k3 v3 a0 a3 a5 a2 a1 a4 rc))
def U4 (rc:Tm×Int×Int×Int×Int×Int→Option Int) (u:Tm×Int×Int×Int×Int×Int):Option Int:=Uh rc u.1 u.2.1 u.2.2.1 u.2.2.2.1 u.2.2.2.2.1 u.2.2.2.2.2
def m100 (a0:Tm) (a1:Int) (a2:Int) (a3:Int) (a4:Int) (a5:Int):Option Int:=JQ U4 QV (a0,a1,a2,a3,a4,a5)
theorem m100s_ok (rc:Tm×Int×Int×Int×Int×Int→Option Int) (H:∀ (a0:Tm) (a1:Int) (a2:Int) (a3:Int) (a4:Int) (a5:Int) (r:Int),rc (a0,a1,a2,a3,a4,a5)=some r→Fun Try.prog 100 [.agg (cE a0),.one (dI a1),.one (dI a2),.one (dI a3),.one (dI a4),.one (dI a5)] (QM [.one (dI r)])) (a0:Tm) (a1:Int) (a2:Int) (a3:Int) (a4:Int) (a5:Int) (r:Int) (h0:Uh rc a0 a1 a2 a3 a4 a5=some r):Fun Try.prog 100 [.agg (cE a0),.one (dI a1),.one (dI a2),.one (dI a3),.one (dI a4),.one (dI a5)] (QM [.one (dI r)]):=by
 unfold Uh at h0
 refine QB 9 107 Try.func100 Z en_100 Z (lb Z) (fun S w=>?_)
 simp only [J5]
 refine Q4<|Q0<|Qa Z Z (lb Z) (QN Z)<|rA Z Z Z<|Q5<|Q3<|Q4<|Q4<|Q0<|DY Z Z Z (QH (a0:Tm) QU Z Z) ?_
 refine Qc h0 (fun x1 hx1 h0=>?_)
 refine Qa Z Z (lb Z) (Qi (m105_ok a0 x1 hx1) Z (.cons (.agg (.cons (.d _) (.cons (.d _) (.cons (.d _) (.cons (.d _) (.cons (.d _) .nil)))))) .nil))<|DY Z Z Z (Jg Z)<|Q5<|Q3 ?_
 refine Qe (b:=(!x1)) Z (fun c2=>?_) (fun c2=>?_)
 replace h0:=Qf c2 h0
 refine Q4<|Q0<|rA Z Z Z<|Q5<|Q3<|Qp ?_
 have e:=DW h0;subst e
 exact Qo (fun _ _ h=>h) Z (Qn Z .nil) (.cons (.one (.d _)) .nil)
 replace h0:=Qg c2 h0
 refine Qh<|Q3<|Q4<|Q4 ?_
 refine QC (fun (v3:Bool)=>⟨[(1,.v (.one (dI a1))),(2,.v (.one (dI a2))),(3,.v (.one (dI a3))),(4,.v (.one (dI a4))),(5,.v (.one (dI a5))),(6,.v (.one (.ptr 0 0))),(28,.v (.one (dB v3)))],[(0,.cells 33 (cE a0))],[],1,107,[]⟩) (fun (v3:Bool)=>(m100_k3 v3 a0 a3 a5 a2 a1 a4 rc)=some r) ?_ ?_
 refine Qc h0 (fun w1_ h1 h0=>?_)
 refine Q0<|DY Z Z Z (Q2 JD Z)<|DY Z Z Z (Q6 QI Z Z Z)<|DY Z Z Z (Q7 Z Z Z)<|DZ Z Z Z ?_
 refine Qv (d:=23) (c:=(a0.kind==3)) Z (fun c4=>?_) (fun c4=>?_)
 replace h1:=Qf c4 h1
 refine DY Z Z Z (Q2 Z3 Z)<|DY Z Z Z (Q6 JK Z Z Z) ?_
 refine Qc h1 (fun x5 hx5 h1=>?_)
 refine Qa Z Z (lb Z) (Qi (m71_ok a0.name x5 hx5) Z (.cons (.one (.d _)) .nil))<|DY Z Z Z (Jg Z)<|DY Z Z Z (Qd Z Z)<|Q5 ?_
 have e:=DW h1;subst e
 exact Q9 (!x5) (DV (Nat.zero_le _) Z Z Z Z Z) h0
 replace h1:=Qg c4 h1
 refine Q8 Z Z<|Q8 Z Z<|Q8 Z Z<|Q8 Z Z<|DY Z Z Z (Qb Z Z)<|Q5 ?_
 have e:=DW h1;subst e
 exact Q9 false (DV (Nat.zero_le _) Z Z Z Z Z) h0
 intro v3 h0
 unfold m100_k3 at h0
 refine Q3 ?_
 refine Qe (b:=v3) Z (fun c6=>?_) (fun c6=>?_)
 replace h0:=Qf c6 h0
 refine Q4<|Q0<|rA Z Z Z<|Q5<|Q3<|Qp ?_
 have e:=DW h0;subst e
 exact Qo (fun _ _ h=>h) Z (Qn Z .nil) (.cons (.one (.d _)) .nil)
 replace h0:=Qg c6 h0
 refine Qh<|Q3<|Q4<|Q4<|Q0<|DY Z Z Z (Q2 Yu Z)<|DY Z Z Z (Q6 ZU Z Z Z)<|DY Z Z Z (Qx (α:=Lvl) YO Z (.d _))<|DY Z Z Z (Q7 Z Z Z)<|Q5<|Q3 ?_
 refine Qe (b:=(decide (8 < (a0.levels.length:Int)))) Z (fun c7=>?_) (fun c7=>?_)
 replace h0:=Qf c7 h0
 refine Q4<|Q0<|rA Z Z Z<|Q5<|Q3<|Qp ?_
 have e:=DW h0;subst e
 exact Qo (fun _ _ h=>h) Z (Qn Z .nil) (.cons (.one (.d _)) .nil)
 replace h0:=Qg c7 h0
 refine Qh<|Q3<|Q4<|Q4<|Q0<|rA Z Z Z<|Q5<|Q3<|Ql ?_
 refine QS 0 (fun (o8:Unit)=>⟨[(1,.v (.one (dI a1))),(2,.v (.one (dI a2))),(3,.v (.one (dI a3))),(4,.v (.one (dI a4))),(5,.v (.one (dI a5))),(6,.v (.one (.ptr 0 0)))],[(0,.cells 33 (cE a0))],[],1,107,[]⟩) (fun (o8:Unit)=>(Option.bind (cond (a0.kind==0)
     (cond (decide (a0.index < 0))
     (some true)
     (some (decide (a2≤(Jb (a0.index - a1))))))
     (some false)) (fun (v9:Bool)=>K7 v9 a0 a4 rc a1 a2 a3 a5))=some r) ?_ ?_
 refine Qc h0 (fun o9 hl1 h0=>?_)
 refine QR (Kx a0 a3 a5) (fun s1=>⟨[(1,.v (.one (dI a1))),(2,.v (.one (dI a2))),(3,.v (.one (dI a3))),(4,.v (.one (dI a4))),(5,.v (.one (dI a5))),(6,.v (.one (.ptr 0 0))),(13,.v (.one (dI s1)))],[(0,.cells 33 (cE a0))],[],1,107,[]⟩) 0 o9 (DV (Nat.zero_le _) Z Z Z Z Z) hl1 (fun s1 n1 oo1 h1 ho1=>?_)
 unfold Kx at h1
 refine Q4<|Q4<|Q0<|DZ Z Z Z<|DY Z Z Z (Q2 Yu Z)<|DY Z Z Z (Q6 ZU Z Z Z)<|DY Z Z Z (Qx (α:=Lvl) YO Z (.d _))<|DY Z Z Z (Q7 Z Z Z)<|Q5<|Q3 ?_
 refine Qe (b:=(decide (s1 < (a0.levels.length:Int)))) Z (fun c10=>?_) (fun c10=>?_)
 replace h1:=Qf c10 h1
 refine Qh<|Q3<|Q4<|Ql<|Q4<|Q0<|DY Z Z Z (Q2 Yu Z)<|DY Z Z Z (Q6 ZU Z Z Z)<|DZ Z Z Z ?_
 refine Qc h1 (fun x11 hx11 h1=>?_)
 refine DY Z Z Z (Qt (α:=Lvl) YO Z (.d _) Z hx11)<|DY Z Z Z (Qw (x11:Lvl) ZY Z)<|DZ Z Z Z<|DZ Z Z Z ?_
 refine Qc h1 (fun x12 hx12 h1=>?_)
 refine Qa Z Z (lb Z) (Qi (m106_ok x11 a3 a5 x12 hx12) Z (.cons (.agg (.cons (.d _) (.cons (.d _) .nil))) (.cons (.one (.d _)) (.cons (.one (.d _)) .nil))))<|rA Z Z Z<|Q5<|Q3<|Q4<|Q0<|DZ Z Z Z<|DY Z Z Z (Q7 Z Z Z)<|Q5<|Q3 ?_
 refine Qe (b:=(x12 != 0)) Z (fun c13=>?_) (fun c13=>?_)
 replace h1:=Qf c13 h1
 refine Q4<|Q0<|DZ Z Z Z<|rA Z Z Z<|Q5<|Q3<|Qp ?_
 have e:=DW h1;subst e
 have e_:_=_:=ho1
 subst e_
 try dsimp only [Sum.elim_inl,Sum.elim_inr] at h0
 have e:=DW h0;subst e
 exact Qo (fun _ _ h=>h) Z (Qn Z .nil) (.cons (.one (.d _)) .nil)
 replace h1:=Qg c13 h1
 refine Qh<|Qj<|Q3<|Q0<|DZ Z Z Z<|DY Z Z Z (Q7 Z Z Z)<|rA Z Z Z<|Q5 ?_
 have e:=DW h1;subst e
 refine QL (Jb (s1+1)) (DV (Nat.zero_le _) Z Z Z Z Z) ho1
 replace h1:=Qg c10 h1
 refine QW<|Qq<|Qq ?_
 have e:=DW h1;subst e
 have e_:_=_:=ho1
 subst e_
 exact QQ () (DV (Nat.zero_le _) Z Z Z Z Z) h0
 intro o8 h0
 refine QF<|Q3<|Q4<|Q4 ?_
 refine QC (fun (v14:Bool)=>⟨[(1,.v (.one (dI a1))),(2,.v (.one (dI a2))),(3,.v (.one (dI a3))),(4,.v (.one (dI a4))),(5,.v (.one (dI a5))),(6,.v (.one (.ptr 0 0))),(66,.v (.one (dB v14)))],[(0,.cells 33 (cE a0))],[],1,107,[]⟩) (fun (v14:Bool)=>(K7 v14 a0 a4 rc a1 a2 a3 a5)=some r) ?_ ?_
 refine Qc h0 (fun w1_ h1 h0=>?_)
 refine Q0<|DY Z Z Z (Q2 JD Z)<|DY Z Z Z (Q6 QI Z Z Z)<|DY Z Z Z (Q7 Z Z Z)<|DZ Z Z Z ?_
 refine Qv (d:=54) (c:=(a0.kind==0)) Z (fun c15=>?_) (fun c15=>?_)
 replace h1:=Qf c15 h1
 refine DY Z Z Z (Q2 YD Z)<|DY Z Z Z (Q6 QI Z Z Z)<|DY Z Z Z (Q7 Z Z Z)<|DZ Z Z Z ?_
 refine Qv (d:=58) (c:=(decide (a0.index < 0))) Z (fun c16=>?_) (fun c16=>?_)
 replace h1:=Qf c16 h1
 refine Q8 Z Z<|Q8 Z Z<|Q8 Z Z<|Q8 Z Z<|Q8 Z Z<|Q8 Z Z<|DY Z Z Z (Qd Z Z)<|DY Z Z Z (Qd Z Z)<|Q5 ?_
 have e:=DW h1;subst e
 exact Q9 true (DV (Nat.zero_le _) Z Z Z Z Z) h0
 replace h1:=Qg c16 h1
 refine DY Z Z Z (Q2 YD Z)<|DY Z Z Z (Q6 QI Z Z Z)<|DZ Z Z Z<|DY Z Z Z (Q7 Z Z Z)<|DZ Z Z Z<|DY Z Z Z (Q7 Z Z Z)<|DY Z Z Z (Qb Z Z)<|DY Z Z Z (Qd Z Z)<|Q5 ?_
 have e:=DW h1;subst e
 exact Q9 (decide (a2≤(Jb (a0.index - a1)))) (DV (Nat.zero_le _) Z Z Z Z Z) h0
 replace h1:=Qg c15 h1
 refine Q8 Z Z<|Q8 Z Z<|Q8 Z Z<|Q8 Z Z<|Q8 Z Z<|Q8 Z Z<|Q8 Z Z<|Q8 Z Z<|Q8 Z Z<|Q8 Z Z<|Q8 Z Z<|DY Z Z Z (Qb Z Z)<|Q5 ?_
 have e:=DW h1;subst e
 exact Q9 false (DV (Nat.zero_le _) Z Z Z Z Z) h0
 intro v14 h0
 unfold K7 at h0
 refine Q3 ?_
 refine Qe (b:=v14) Z (fun c17=>?_) (fun c17=>?_)
 replace h0:=Qf c17 h0
 refine Q4<|Q0<|rA Z Z Z<|Q5<|Q3<|Qp ?_
 have e:=DW h0;subst e
 exact Qo (fun _ _ h=>h) Z (Qn Z .nil) (.cons (.one (.d _)) .nil)
 replace h0:=Qg c17 h0
 refine Qh<|Q3<|Q4<|Q4 ?_
 refine QC (fun (v18:Bool)=>⟨[(1,.v (.one (dI a1))),(2,.v (.one (dI a2))),(3,.v (.one (dI a3))),(4,.v (.one (dI a4))),(5,.v (.one (dI a5))),(6,.v (.one (.ptr 0 0))),(80,.v (.one (dB v18)))],[(0,.cells 33 (cE a0))],[],1,107,[]⟩) (fun (v18:Bool)=>(cond v18
     (some 23)
     (Option.bind (QE (Kw a0 rc a1 a2 a3 a4 a5) QV 0) (Sum.elim (fun (o20:Unit)=>some 0) (fun o=>some o))))=some r) ?_ ?_
 refine Qc h0 (fun w1_ h1 h0=>?_)
 refine Q0<|DY Z Z Z (Q2 JD Z)<|DY Z Z Z (Q6 QI Z Z Z)<|DY Z Z Z (Q7 Z Z Z)<|DZ Z Z Z ?_
 refine Qv (d:=70) (c:=(a0.kind==12)) Z (fun c19=>?_) (fun c19=>?_)
 replace h1:=Qf c19 h1
 refine DY Z Z Z (Q2 YD Z)<|DY Z Z Z (Q6 QI Z Z Z)<|DY Z Z Z (Q7 Z Z Z)<|DZ Z Z Z ?_
 refine Qv (d:=74) (c:=(decide (a0.index < 0))) Z (fun c20=>?_) (fun c20=>?_)
 replace h1:=Qf c20 h1
 refine Q8 Z Z<|Q8 Z Z<|Q8 Z Z<|Q8 Z Z<|DY Z Z Z (Qd Z Z)<|DY Z Z Z (Qd Z Z)<|Q5 ?_
 have e:=DW h1;subst e
 exact Q9 true (DV (Nat.zero_le _) Z Z Z Z Z) h0
 replace h1:=Qg c20 h1
 refine DY Z Z Z (Q2 YD Z)<|DY Z Z Z (Q6 QI Z Z Z)<|DZ Z Z Z<|DY Z Z Z (Q7 Z Z Z)<|DY Z Z Z (Qb Z Z)<|DY Z Z Z (Qd Z Z)<|Q5 ?_
 have e:=DW h1;subst e
 exact Q9 (decide (a4≤a0.index)) (DV (Nat.zero_le _) Z Z Z Z Z) h0
 replace h1:=Qg c19 h1
 refine Q8 Z Z<|Q8 Z Z<|Q8 Z Z<|Q8 Z Z<|Q8 Z Z<|Q8 Z Z<|Q8 Z Z<|Q8 Z Z<|Q8 Z Z<|DY Z Z Z (Qb Z Z)<|Q5 ?_
 have e:=DW h1;subst e
 exact Q9 false (DV (Nat.zero_le _) Z Z Z Z Z) h0
 intro v18 h0
 refine Q3 ?_
 refine Qe (b:=v18) Z (fun c21=>?_) (fun c21=>?_)
 replace h0:=Qf c21 h0
 refine Q4<|Q0<|rA Z Z Z<|Q5<|Q3<|Qp ?_
 have e:=DW h0;subst e
 exact Qo (fun _ _ h=>h) Z (Qn Z .nil) (.cons (.one (.d _)) .nil)
 replace h0:=Qg c21 h0
 refine Qh<|Q3<|Q4<|Q4<|Q0<|rA Z Z Z<|Q5<|Q3<|Ql ?_
 refine QS 2 (fun (o22:Unit)=>⟨[],[(0,.cells 33 (cE a0))],[],1,107,[]⟩) (fun (o22:Unit)=>(some 0)=some r) ?_ ?_
 refine Qc h0 (fun o23 hl1 h0=>?_)
 refine QR (Kw a0 rc a1 a2 a3 a4 a5) (fun s1=>⟨[(1,.v (.one (dI a1))),(2,.v (.one (dI a2))),(3,.v (.one (dI a3))),(4,.v (.one (dI a4))),(5,.v (.one (dI a5))),(6,.v (.one (.ptr 0 0))),(15,.v (.one (dI s1)))],[(0,.cells 33 (cE a0))],[],1,107,[]⟩) 0 o23 (DV (Nat.zero_le _) Z Z Z Z Z) hl1 (fun s1 n1 oo1 h1 ho1=>?_)
 unfold Kw at h1
 refine Q4<|Q4<|Q0<|DZ Z Z Z<|DY Z Z Z (Q2 Js Z)<|DY Z Z Z (Q6 JH Z Z Z)<|DY Z Z Z (Qx (α:=Tm) Jk Z (.d _))<|DY Z Z Z (Q7 Z Z Z)<|Q5<|Q3 ?_
 refine Qe (b:=(decide (s1 < (a0.kids.length:Int)))) Z (fun c24=>?_) (fun c24=>?_)
 replace h1:=Qf c24 h1
 refine Qh<|Q3<|Q4<|Ql<|Q4 ?_
 refine J6 [] [] JT (by kernel_rfl) (by kernel_rfl) (by kernel_rfl) ?_
 refine RunA.rd Z Z Z (Q1 (Q2 Js Z)) Z<|RunA.rd Z Z Z (Q1 (Q6 JH Z Z Z)) Z<|RunA.rd Z Z Z (Q1 (Qr Z)) Z ?_
 refine Qc h1 (fun x25 hx25 h1=>?_)
 refine RunA.rd Z Z Z (Q1 (Qt (α:=Tm) Jk Z (.d _) Z hx25)) Z<|RunA.rd Z Z Z (Q1 (Qw (x25:Tm) QU Z)) Z<|RunA.rd Z Z Z (Q1 (Qr Z)) Z<|RunA.rd Z Z Z (Q1 (Q2 JD Z)) Z<|RunA.rd Z Z Z (Q1 (Q6 QI Z Z Z)) Z<|RunA.rd Z Z Z (Q1 (Qr Z)) Z ?_
 refine Qc h1 (fun x26 hx26 h1=>?_)
 refine RunA.rd Z Z Z (Qi (m107_ok a0.kind s1 x26 hx26) Z (.cons (.one (.d _)) (.cons (.one (.d _)) .nil))) Z<|RunA.rd Z Z Z (Q1 (Q7 Z Z Z)) Z<|RunA.rd Z Z Z (Q1 (Qr Z)) Z<|RunA.rd Z Z Z (Q1 (Qr Z)) Z<|RunA.rd Z Z Z (Q1 (Qr Z)) Z<|RunA.rd Z Z Z (Q1 (Qr Z)) Z ?_
 refine Qc h1 (fun x27 hx27 h1=>?_)
 refine RunA.rd Z Z Z (Qi (H x25 (Jb (a1+x26)) a2 a3 a4 a5 x27 hx27) Z (.cons (.agg (.cons (.d _) (.cons (.d _) (.cons (.d _) (.cons (.d _) (.cons (.d _) .nil)))))) (.cons (.one (.d _)) (.cons (.one (.d _)) (.cons (.one (.d _)) (.cons (.one (.d _)) (.cons (.one (.d _)) .nil))))))) Z<|RunA.rd Z Z Z (Q1 (Jf Z)) Z ?_
 refine RunA.nil ⟨?ex,_,_,Z,?_⟩
 case ex=>exact trivial
 refine Jo (st':=⟨[(1,.v (.one (dI a1))),(2,.v (.one (dI a2))),(3,.v (.one (dI a3))),(4,.v (.one (dI a4))),(5,.v (.one (dI a5))),(6,.v (.one (.ptr 0 0))),(15,.v (.one (dI s1))),(16,.v (.one (dI x27)))],[(0,.cells 33 (cE a0))],[],1,107,[]⟩) (DV (Nat.zero_le _) Z Z Z Z Z)<|Q3<|Q4<|Q0<|DZ Z Z Z<|DY Z Z Z (Q7 Z Z Z)<|Q5<|Q3 ?_
 refine Qe (b:=(x27 != 0)) Z (fun c28=>?_) (fun c28=>?_)
 replace h1:=Qf c28 h1
 refine Q4<|Q0<|DZ Z Z Z<|rA Z Z Z<|Q5<|Q3<|Qp ?_
 have e:=DW h1;subst e
 have e_:_=_:=ho1
 subst e_
 try dsimp only [Sum.elim_inl,Sum.elim_inr] at h0
 have e:=DW h0;subst e
 exact Qo (fun _ _ h=>h) Z (Qn Z .nil) (.cons (.one (.d _)) .nil)
 replace h1:=Qg c28 h1
 refine Qh<|Qj<|Q3<|Q0<|DZ Z Z Z<|DY Z Z Z (Q7 Z Z Z)<|rA Z Z Z<|Q5 ?_
 have e:=DW h1;subst e
 refine QL (Jb (s1+1)) (DV (Nat.zero_le _) Z Z Z Z Z) ho1
 replace h1:=Qg c24 h1
 refine QW<|Qq<|Qq ?_
 have e:=DW h1;subst e
 have e_:_=_:=ho1
 subst e_
 exact QQ () (DV (Nat.zero_le _) Z Z Z Z Z) h0
 intro o22 h0
 refine QF<|Q3<|Q4<|Q0<|rA Z Z Z<|Q5<|Q3<|Qp ?_
 have e:=DW h0;subst e
 exact Qo (fun _ _ h=>h) Z (Qn Z .nil) (.cons (.one (.d _)) .nil)
theorem m100_all (n:Nat) (u:Tm×Int×Int×Int×Int×Int) (r:Int) (h0:JQ U4 n u=some r):Fun Try.prog 100 [.agg (cE u.1),.one (dI u.2.1),.one (dI u.2.2.1),.one (dI u.2.2.2.1),.one (dI u.2.2.2.2.1),.one (dI u.2.2.2.2.2)] (QM [.one (dI r)]) :=
 YG (C:=fun u r=>Fun Try.prog 100 [.agg (cE u.1),.one (dI u.2.1),.one (dI u.2.2.1),.one (dI u.2.2.2.1),.one (dI u.2.2.2.2.1),.one (dI u.2.2.2.2.2)] (QM [.one (dI r)])) (fun rc H u r h=>m100s_ok rc (fun a0 a1 a2 a3 a4 a5 r h=>H (a0,a1,a2,a3,a4,a5) r h) u.1 u.2.1 u.2.2.1 u.2.2.2.1 u.2.2.2.2.1 u.2.2.2.2.2 r h) n u r h0
theorem m100_ok (a0:Tm) (a1:Int) (a2:Int) (a3:Int) (a4:Int) (a5:Int) (r:Int) (h0:m100 a0 a1 a2 a3 a4 a5=some r):Fun Try.prog 100 [.agg (cE a0),.one (dI a1),.one (dI a2),.one (dI a3),.one (dI a4),.one (dI a5)] (QM [.one (dI r)]):=m100_all QV (a0,a1,a2,a3,a4,a5) r h0
def DG (a0:Tm) (a1:Int) (a2:Int) (a3:Int) (a4:Int):Option Int :=
 Option.bind (m100 a0 0 (max a1 0) a2 a3 a4) fun (x1:Int) =>
 cond (x1 != 0)
   (some x1)
   (Option.bind (DN a0) fun (x3:Int) =>
 cond (decide (4096 < x3))
   (some 5)
   (Option.bind (m56 a0) fun (x5:Int) =>
 cond (decide (200 < x5))
   (some 7)
   (some 0)))
theorem m86_ok (a0:Tm) (a1:Int) (a2:Int) (a3:Int) (a4:Int) (r:Int) (h0:DG a0 a1 a2 a3 a4=some r):Fun Try.prog 86 [.agg (cE a0),.one (dI a1),.one (dI a2),.one (dI a3),.one (dI a4)] (QM [.one (dI r)]):=by
 unfold DG at h0
 refine QB 9 28 Try.func86 Z en_86 Z (lb Z) (fun S w=>?_)
 simp only [J5]
 refine Q4<|Q0<|Qa Z Z (lb Z) (QN Z)<|rA Z Z Z<|Q5<|Q3<|Q4<|Q4<|Q0<|DY Z Z Z (QH (a0:Tm) QU Z Z)<|DZ Z Z Z<|DY Z Z Z (KC Z Z)<|DZ Z Z Z<|DZ Z Z Z ?_
 refine DZ Z Z Z ?_
 refine Qc h0 (fun x1 hx1 h0=>?_)
 refine Qa Z Z (lb Z) (Qi (m100_ok a0 0 (max a1 0) a2 a3 a4 x1 hx1) Z (.cons (.agg (.cons (.d _) (.cons (.d _) (.cons (.d _) (.cons (.d _) (.cons (.d _) .nil)))))) (.cons (.one (.d _)) (.cons (.one (.d _)) (.cons (.one (.d _)) (.cons (.one (.d _)) (.cons (.one (.d _)) .nil)))))))<|rA Z Z Z<|Q5<|Q3<|Q4<|Q0<|DZ Z Z Z<|DY Z Z Z (Q7 Z Z Z)<|Q5<|Q3 ?_
 refine Qe (b:=(x1 != 0)) Z (fun c2=>?_) (fun c2=>?_)
 replace h0:=Qf c2 h0
 refine Q4<|Q0<|DZ Z Z Z<|rA Z Z Z<|Q5<|Q3<|Qp ?_
 have e:=DW h0;subst e
 exact Qo (fun _ _ h=>h) Z (Qn Z .nil) (.cons (.one (.d _)) .nil)
 replace h0:=Qg c2 h0
 refine Qh<|Q3<|Q4<|Q4<|Q0<|DY Z Z Z (QH (a0:Tm) QU Z Z) ?_
 refine Qc h0 (fun x3 hx3 h0=>?_)
 refine Qa Z Z (lb Z) (Qi (m55_ok a0 x3 hx3) Z (.cons (.agg (.cons (.d _) (.cons (.d _) (.cons (.d _) (.cons (.d _) (.cons (.d _) .nil)))))) .nil))<|DY Z Z Z (Q7 Z Z Z)<|Q5<|Q3 ?_
 refine Qe (b:=(decide (4096 < x3))) Z (fun c4=>?_) (fun c4=>?_)
 replace h0:=Qf c4 h0
 refine Q4<|Q0<|rA Z Z Z<|Q5<|Q3<|Qp ?_
 have e:=DW h0;subst e
 exact Qo (fun _ _ h=>h) Z (Qn Z .nil) (.cons (.one (.d _)) .nil)
 replace h0:=Qg c4 h0
 refine Qh<|Q3<|Q4<|Q4<|Q0<|DY Z Z Z (QH (a0:Tm) QU Z Z) ?_
 refine Qc h0 (fun x5 hx5 h0=>?_)
 refine Qa Z Z (lb Z) (Qi (m56_ok a0 x5 hx5) Z (.cons (.agg (.cons (.d _) (.cons (.d _) (.cons (.d _) (.cons (.d _) (.cons (.d _) .nil)))))) .nil))<|DY Z Z Z (Q7 Z Z Z)<|Q5<|Q3 ?_
 refine Qe (b:=(decide (200 < x5))) Z (fun c6=>?_) (fun c6=>?_)
 replace h0:=Qf c6 h0
 refine Q4<|Q0<|rA Z Z Z<|Q5<|Q3<|Qp ?_
 have e:=DW h0;subst e
 exact Qo (fun _ _ h=>h) Z (Qn Z .nil) (.cons (.one (.d _)) .nil)
 replace h0:=Qg c6 h0
 refine Qh<|Q3<|Q4<|Q0<|rA Z Z Z<|Q5<|Q3<|Qp ?_
 have e:=DW h0;subst e
 exact Qo (fun _ _ h=>h) Z (Qn Z .nil) (.cons (.one (.d _)) .nil)
end Go.Proofs.Ytafddfoefeploaa
namespace Go.Proofs.Ytafddfoefeploaa
open Go.RowKit Go.Shelf
set_option linter.unusedSimpArgs false
set_option linter.unusedVariables false
set_option linter.unusedSectionVars false
def Dd {α σ β:Type} (f:σ→α→σ⊕β) (e:σ→β):List α→σ→β
 | [],s=>e s
 | x::l,s=>Sum.elim (fun s'=>Dd f e l s') (fun r=>r) (f s x)
theorem loop_sm {α σ τ β:Type} {step:τ→Option (LO τ β)} (l:List α) (mk:Int→σ→τ) (f:σ→α→σ⊕β) (e:σ→β) (I:List α→σ→Prop) (hlen:l.length≤900000000)
  (hin:∀ (a:List α) (x:α) (b:List α) (s:σ),l=a++x::b→I a s→step (mk (a.length:Int) s)=some (Sum.elim (fun s'=>.next (mk (Jb ((a.length:Int)+1)) s')) .done (f s x))∧∀ s',f s x=.inl s'→I (a++[x]) s')
  (hout:∀ s,I l s→step (mk (l.length:Int) s)=some (.done (e s))) (s0:σ) (h0:I [] s0):QE step QV (mk 0 s0)=some (Dd f e l s0):=by
 obtain ⟨r,h1,h2⟩:=YJ (step:=step) l mk (fun a s=>I a s∧∀ b,l=a++b→Dd f e l s0=Dd f e b s) (fun r=>r=Dd f e l s0) hlen
  (fun a x b s hl hI=>by
   obtain ⟨h3,h4⟩:=hin a x b s hl hI.1
   have h5:=hI.2 (x::b) hl
   cases hf:f s x with
   | inl s' =>
    refine .inr ⟨s',by rw [h3,hf];rfl,h4 s' hf,fun b' hb=>?_⟩
    have:b'=b:=by
     rw [hl,List.append_assoc] at hb
     exact (List.cons.inj (List.append_cancel_left hb)).2.symm
    rw [this,h5,Dd,hf];rfl
   | inr r=>exact .inl ⟨r,by rw [h3,hf];rfl,by rw [h5,Dd,hf];rfl⟩)
  (fun s hI=>⟨e s,hout s hI.1,by rw [hI.2 [] (by simp)];rfl⟩) s0 ⟨h0,fun b hb=>by rw [List.nil_append] at hb;rw [hb]⟩
 rw [h1,h2]
theorem loop_bad {α β:Type} {step:Int→Option (LO Int β)} (l:List α) (bad:List α→α→Prop) (r0 r1:β) (hlen:l.length≤900000000)
  (hin:∀ (a:List α) (x:α) (b:List α),l=a++x::b→(bad a x→step (a.length:Int)=some (.done r0))∧(¬ bad a x→step (a.length:Int)=some (.next (Jb ((a.length:Int)+1)))))
  (hout:step (l.length:Int)=some (.done r1)):∃ r,QE step QV 0=some r∧((r=r1∧∀ a x b,l=a++x::b→¬ bad a x)∨(r=r0∧∃ a x b,l=a++x::b∧bad a x)):=by
 refine YJ (step:=step) l (fun i (_:Unit)=>i) (fun a _=>∀ a' x b',a=a'++x::b'→¬ bad a' x) (fun r=>(r=r1∧∀ a x b,l=a++x::b→¬ bad a x)∨(r=r0∧∃ a x b,l=a++x::b∧bad a x)) hlen
  (fun a x b s hl hI=>?_) (fun s hI=>⟨r1,hout,.inl ⟨rfl,hI⟩⟩) () (fun a' x b' h=>by cases a' <;> cases h)
 by_cases hb:bad a x
 ·exact .inl ⟨r0,(hin a x b hl).1 hb,.inr ⟨rfl,a,x,b,hl,hb⟩⟩
 ·refine .inr ⟨(),(hin a x b hl).2 hb,fun a' y b' h=>?_⟩
  rcases List.append_eq_append_iff.1 h with ⟨c,h1,h2⟩ | ⟨c,h1,h2⟩
  ·cases c with
   | nil =>
    rw [List.nil_append] at h2
    cases h2
    rw [List.append_nil] at h1
    rw [h1];exact hb
   | cons z c =>
    exfalso
    have:=congrArg List.length h2
    simp at this
  ·cases c with
   | nil =>
    rw [List.nil_append] at h2
    cases h2
    rw [List.append_nil] at h1
    rw [← h1];exact hb
   | cons z c =>
    rw [List.cons_append] at h2
    cases h2
    exact hI a' y c h1
def We (c:Int):Bool:=(decide (97≤c)&&decide (c≤122))||(decide (65≤c)&&decide (c≤90))||(c==95)
theorem m79_eq (c:Int):DJ ⟨c⟩=some (We c):=by
 unfold DJ We
 cases decide (97≤c) <;> cases decide (c≤122) <;> cases decide (65≤c) <;> cases decide (c≤90) <;> rfl
theorem m85_eq (c:Int):DH ⟨c⟩=some (We c):=m79_eq c
def Dg (st:Bool) (b:UInt8):Bool⊕(Bool⊕Bool) :=
 if We (b.toNat:Int)=true then .inl false else if st=true then .inr (.inr false) else if (b.toNat:Int)=46 then .inl true else
  if (b.toNat:Int) < 48∨57 < (b.toNat:Int) then (if (b.toNat:Int)=39 then .inl st else .inr (.inr false)) else .inl st
def Dv (s:Bs):Bool⊕Bool:=Dd Dg .inl s true
theorem m65_l0_eq (s:Bs) (h:s.length≤900000000):QE (XW s) QV (true,0)=some (Dv s):=by
 refine loop_sm (step:=XW s) s (fun i (st:Bool)=>(st,i)) Dg .inl (fun _ _=>True) h (fun a x b st e _=>⟨?_,fun _ _=>trivial⟩) (fun st _=>by unfold XW;dsimp only;rw [Jm];rfl) true trivial
 unfold XW Dg
 dsimp only
 rw [e,YF,Yd]
 simp only [cond_true,Option.bind_some]
 rw [m79_eq,Option.bind_some]
 cases We (x.toNat:Int) with
 | true=>rfl
 | false =>
  cases st with
  | true=>rfl
  | false =>
   simp only [cond_false,Yy,Bool.false_eq_true,if_false]
   by_cases h1:(x.toNat:Int)=46
   ·rw [decide_eq_true h1,if_pos h1];rfl
   ·rw [decide_eq_false h1,if_neg h1,cond_false]
    by_cases h2:(x.toNat:Int) < 48
    ·rw [decide_eq_true h2,if_pos (Or.inl h2)]
     by_cases h4:(x.toNat:Int)=39
     ·rw [if_pos h4,h4];rfl
     ·rw [if_neg h4]
      have:((x.toNat:Int) != 39)=true:=bne_iff_ne.2 h4
      simp only [cond_true,Option.bind_some,this];rfl
    ·rw [decide_eq_false h2]
     by_cases h3:57 < (x.toNat:Int)
     ·rw [decide_eq_true h3,if_pos (Or.inr h3)]
      by_cases h4:(x.toNat:Int)=39
      ·omega
      ·rw [if_neg h4]
       have:((x.toNat:Int) != 39)=true:=bne_iff_ne.2 h4
       simp only [cond_true,cond_false,Option.bind_some,this];rfl
     ·rw [decide_eq_false h3,if_neg (by omega)];rfl
theorem m71_l0_eq (s:Bs) (h:s.length≤900000000):QE (Xe s) QV (true,0)=some (Dv s):=by
 refine loop_sm (step:=Xe s) s (fun i (st:Bool)=>(st,i)) Dg .inl (fun _ _=>True) h (fun a x b st e _=>⟨?_,fun _ _=>trivial⟩) (fun st _=>by unfold Xe;dsimp only;rw [Jm];rfl) true trivial
 unfold Xe Dg
 dsimp only
 rw [e,YF,Yd]
 simp only [cond_true,Option.bind_some]
 rw [m85_eq,Option.bind_some]
 cases st with
 | true=>cases We (x.toNat:Int) <;> rfl
 | false =>
  simp only [cond_false,Yy,Bool.false_eq_true,if_false]
  by_cases h1:(x.toNat:Int)=46
  ·rw [decide_eq_true h1,if_pos h1,if_neg (by rw [h1];decide)];rfl
  ·rw [decide_eq_false h1,if_neg h1,cond_false]
   cases We (x.toNat:Int) with
   | true=>rfl
   | false =>
    rw [Option.bind_some,if_neg (by decide)]
    simp only [Bool.not_false,cond_true]
    by_cases h4:(x.toNat:Int)=39
    ·have:((x.toNat:Int) != 39)=false:=by rw [h4];rfl
     simp only [cond_false,Option.bind_some,this,if_pos h4]
     split <;> rfl
    ·have:((x.toNat:Int) != 39)=true:=bne_iff_ne.2 h4
     simp only [cond_true,this,if_neg h4]
     by_cases h2:(x.toNat:Int) < 48
     ·rw [decide_eq_true h2,if_pos (Or.inl h2)];rfl
     ·rw [decide_eq_false h2]
      by_cases h3:57 < (x.toNat:Int)
      ·rw [decide_eq_true h3,if_pos (Or.inr h3)];rfl
      ·rw [decide_eq_false h3,if_neg (by omega)];rfl
theorem nm_false:∀ (s:Bs) (st b:Bool),Dd Dg .inl s st=.inr b→b=false
 | [],st,b,h=>by cases h
 | x::s,st,b,h=>by
  rw [Dd] at h
  cases hf:Dg st x with
  | inl st'=>rw [hf] at h;exact nm_false s st' b h
  | inr r =>
   rw [hf] at h
   unfold Dg at hf
   have:r=.inr false:=by
    revert hf
    repeat' split
    all_goals intro hf;cases hf;try rfl
   rw [this] at h
   cases h;rfl
def Xa (s:Bs):Bool:=Sum.elim (fun st=>!st&&decide ((s.length:Int)≤64)) (fun b=>b) (Dv s)
theorem m65_eq (s:Bs) (h:s.length≤900000000):Dp s=some (Xa s):=by
 unfold Dp Xa
 rw [m65_l0_eq s h,Option.bind_some]
 cases Dv s with
 | inl st=>cases st <;> rfl
 | inr b=>rfl
theorem m71_eq (s:Bs) (h:s.length≤900000000):Do s=some (Xa s):=by
 unfold Do Xa
 rw [Da,m71_l0_eq s h]
 by_cases h0:s=[]
 ·subst h0;rfl
 ·rw [decide_eq_false h0,cond_false]
  by_cases h1:64 < (s.length:Int)
  ·rw [decide_eq_true h1,decide_eq_false (by omega)]
   cases hn:Dv s with
   | inl st=>cases st <;> rfl
   | inr b=>have:=nm_false s true b hn;subst this;rfl
  ·rw [decide_eq_false h1,decide_eq_true (by omega)]
   cases hn:Dv s with
   | inl st=>cases st <;> rfl
   | inr b=>rfl
end Go.Proofs.Ytafddfoefeploaa
namespace Go.Proofs.Ytafddfoefeploaa
open Go.RowKit Go.Shelf
set_option linter.unusedSimpArgs false
set_option linter.unusedVariables false
set_option linter.unusedSectionVars false
theorem idx_some {α:Type} {l:List α} {i:Int} (h0:0≤i) (h1:i < (l.length:Int)):∃ x,JX l i=some x:=by
 cases i with
 | ofNat k=>exact ⟨l[k]'(by have:(Int.ofNat k) < (l.length:Int):=h1;simp at this;omega),List.getElem?_eq_getElem _⟩
 | negSucc k=>omega
def Ut (l:Lvl) (a:List LV) (x:LV):Prop:=x.1 < -65536∨7 < x.1∨x.2 < 0∨100 < x.2∨(0 < a.length∧∃ y,JX l.vs (Jb ((a.length:Int) - 1))=some y∧x.1≤y.1)
theorem prev_some {l:List LV} {a:List LV} {x:LV} {b:List LV} (h:l.length≤900000000) (e:l=a++x::b) (ha:0 < a.length):∃ y,JX l (Jb ((a.length:Int) - 1))=some y:=by
 have:=Xb e
 rw [Wt (by omega) (by omega)]
 exact idx_some (by omega) (by omega)
theorem m113_eq (l:List LV) (u:Lvl) (h:l.length≤900000000):∃ b,U2 l u=some b∧(b=true↔∃ x∈l,u.c≤x.2):=by
 have h1:∃ r,QE (ZB l u) QV 0=some r∧((r=.inl ())∧(∀ x∈l,¬ u.c≤x.2)∨∃ k:Nat,r=.inr (k:Int)∧∃ x∈l,u.c≤x.2):=by
  refine YJ (step:=ZB l u) l (fun i (_:Unit)=>i) (fun a _=>∀ x∈a,¬ u.c≤x.2) (fun r=>((r=.inl ())∧(∀ x∈l,¬ u.c≤x.2)∨∃ k:Nat,r=.inr (k:Int)∧∃ x∈l,u.c≤x.2)) h
   (fun a x b s e hI=>?_) (fun s hI=>⟨.inl (),by unfold ZB;rw [Jm];rfl,.inl ⟨rfl,hI⟩⟩) () (fun x hx=>by cases hx)
  by_cases hx:u.c≤x.2
  ·refine .inl ⟨.inr (a.length:Int),?_,.inr ⟨a.length,rfl,x,by rw [e];simp,hx⟩⟩
   unfold ZB
   rw [e,YF,Yd]
   show cond (decide (u.c≤x.2)) _ _=_
   rw [decide_eq_true hx];rfl
  ·refine .inr ⟨(),?_,fun y hy=>?_⟩
   ·unfold ZB
    rw [e,YF,Yd]
    show cond (decide (u.c≤x.2)) _ _=_
    rw [decide_eq_false hx];rfl
   ·rcases List.mem_append.1 hy with hy | hy
    ·exact hI y hy
    ·rw [List.mem_singleton.1 hy];exact hx
 obtain ⟨r,h2,h3⟩:=h1
 unfold U2 m113f1
 rw [h2]
 rcases h3 with ⟨rfl,h4⟩ | ⟨k,rfl,h4⟩
 ·exact ⟨false,rfl,⟨fun h=>(by cases h),fun ⟨x,hx,h⟩=>(h4 x hx h).elim⟩⟩
 ·refine ⟨true,?_,⟨fun _=>h4,fun _=>rfl⟩⟩
  show some (decide ((0:Int)≤(k:Int)))=_
  rw [decide_eq_true (by omega)]
def lvP (l:Lvl):Prop:=0≤l.c∧l.c≤100∧(0 < l.c→∀ x∈l.vs,¬ l.c≤x.2)∧∀ a x b,l.vs=a++x::b→¬ Ut l a x
theorem m103_eq (l:Lvl) (h:l.vs.length≤900000000):∃ b,UK l=some b∧(b=true↔lvP l):=by
 have hloop:=loop_bad (β:=Unit⊕Bool) (step:=Gf l) l.vs (Ut l) (.inr false) (.inl ()) h (fun a x b e=>by
  have hprev:=fun ha=>prev_some (x:=x) (b:=b) h e ha
  have:Gf l (a.length:Int)=Option.bind (cond (decide (x.1 < (-65536))) (some true) (cond (decide (7 < x.1)) (some true) (cond (decide (x.2 < 0)) (some true) (cond (decide (100 < x.2)) (some true)
    (cond (decide (0 < (a.length:Int))) (Option.bind (JX l.vs (Jb ((a.length:Int) - 1))) fun (x12:LV)=>some (decide (x.1≤x12.1))) (some false)))))) (fun (v6:Bool)=>cond v6 (some (.done (.inr false))) (some (.next (Jb ((a.length:Int)+1))))):=by
   unfold Gf
   have e2:l.vs=a++x::b:=e
   rw [show decide ((a.length:Int) < (l.vs.length:Int))=true from by rw [e2];exact YF a x b,show JX l.vs (a.length:Int)=some x from by rw [e2];exact Yd a x b]
   rfl
  rw [this]
  unfold Ut
  by_cases c1:x.1 < -65536
  ·rw [decide_eq_true c1];exact ⟨fun _=>rfl,fun h=>(h (.inl c1)).elim⟩
  rw [decide_eq_false c1,cond_false]
  by_cases c2:7 < x.1
  ·rw [decide_eq_true c2];exact ⟨fun _=>rfl,fun h=>(h (.inr (.inl c2))).elim⟩
  rw [decide_eq_false c2,cond_false]
  by_cases c3:x.2 < 0
  ·rw [decide_eq_true c3];exact ⟨fun _=>rfl,fun h=>(h (.inr (.inr (.inl c3)))).elim⟩
  rw [decide_eq_false c3,cond_false]
  by_cases c4:100 < x.2
  ·rw [decide_eq_true c4];exact ⟨fun _=>rfl,fun h=>(h (.inr (.inr (.inr (.inl c4))))).elim⟩
  rw [decide_eq_false c4,cond_false]
  by_cases c5:0 < a.length
  ·rw [decide_eq_true (show 0 < (a.length:Int) by omega),cond_true]
   obtain ⟨y,hy⟩:=hprev c5
   rw [hy,Option.bind_some]
   by_cases c6:x.1≤y.1
   ·rw [decide_eq_true c6];exact ⟨fun _=>rfl,fun h=>(h (.inr (.inr (.inr (.inr ⟨c5,y,rfl,c6⟩))))).elim⟩
   ·rw [decide_eq_false c6]
    refine ⟨fun h=>?_,fun _=>rfl⟩
    rcases h with h | h | h | h | ⟨-,z,hz,h⟩
    ·exact (c1 h).elim
    ·exact (c2 h).elim
    ·exact (c3 h).elim
    ·exact (c4 h).elim
    ·cases hz;exact (c6 h).elim
  ·rw [decide_eq_false (show ¬ 0 < (a.length:Int) by omega)]
   refine ⟨fun h=>?_,fun _=>rfl⟩
   rcases h with h | h | h | h | ⟨h,-⟩
   ·exact (c1 h).elim
   ·exact (c2 h).elim
   ·exact (c3 h).elim
   ·exact (c4 h).elim
   ·exact (c5 h).elim) (by unfold Gf;rw [Jm];rfl)
 obtain ⟨r,h1,h2⟩:=hloop
 obtain ⟨b,h3,h4⟩:=m113_eq l.vs l h
 unfold UK
 rw [h3,h1]
 by_cases c1:l.c < 0
 ·rw [decide_eq_true c1];exact ⟨false,rfl,⟨fun h=>(Bool.false_ne_true h).elim,fun h=>by have:=h.1;omega⟩⟩
 rw [decide_eq_false c1,cond_false]
 by_cases c2:100 < l.c
 ·rw [decide_eq_true c2];exact ⟨false,rfl,⟨fun h=>(Bool.false_ne_true h).elim,fun h=>by have:=h.2.1;omega⟩⟩
 rw [decide_eq_false c2,cond_false]
 have key:(∃ x,(0 < l.c∧(∃ x∈l.vs,l.c≤x.2)→x=false)∧(¬ (0 < l.c∧∃ x∈l.vs,l.c≤x.2)→Option.bind (some r) (Sum.elim (fun (o3:Unit)=>some true) (fun o=>some o))=some x)∧cond (decide (0 < l.c)) (Option.bind (Option.bind (some b) fun (x7:Bool)=>some x7) (fun (y5:Bool)=>some y5)) (some false)=some (decide (0 < l.c∧∃ x∈l.vs,l.c≤x.2))∧(x=true→r=.inl ())∧(¬ (0 < l.c∧∃ x∈l.vs,l.c≤x.2)→r=.inl ()→x=true)):=by
  by_cases c3:0 < l.c
  ·rw [decide_eq_true c3]
   cases b with
   | true =>
    have h5:=h4.1 rfl
    exact ⟨false,fun _=>rfl,fun h=>(h ⟨c3,h5⟩).elim,by rw [decide_eq_true ⟨c3,h5⟩];rfl,fun h=>(by cases h),fun h=>(h ⟨c3,h5⟩).elim⟩
   | false =>
    have h5:¬ ∃ x∈l.vs,l.c≤x.2:=fun h=>by have:=h4.2 h;cases this
    rcases h2 with ⟨rfl,-⟩ | ⟨rfl,-⟩
    ·exact ⟨true,fun h=>(h5 h.2).elim,fun _=>rfl,by rw [decide_eq_false fun h=>h5 h.2];rfl,fun _=>rfl,fun _ _=>rfl⟩
    ·exact ⟨false,fun h=>(h5 h.2).elim,fun _=>rfl,by rw [decide_eq_false fun h=>h5 h.2];rfl,fun h=>(by cases h),fun _ h=>by cases h⟩
  ·rw [decide_eq_false c3]
   rcases h2 with ⟨rfl,-⟩ | ⟨rfl,-⟩
   ·exact ⟨true,fun h=>(c3 h.1).elim,fun _=>rfl,by rw [decide_eq_false fun h=>c3 h.1];rfl,fun _=>rfl,fun _ _=>rfl⟩
   ·exact ⟨false,fun h=>(c3 h.1).elim,fun _=>rfl,by rw [decide_eq_false fun h=>c3 h.1];rfl,fun h=>(by cases h),fun _ h=>by cases h⟩
 obtain ⟨x,k1,k2,k3,k4,k5⟩:=key
 rw [k3,Option.bind_some]
 by_cases c4:0 < l.c∧∃ x∈l.vs,l.c≤x.2
 ·rw [decide_eq_true c4]
  refine ⟨false,Z,fun h=>(Bool.false_ne_true h).elim,fun h=>?_⟩
  obtain ⟨y,hy,hy2⟩:=c4.2
  exact (h.2.2.1 c4.1 y hy hy2).elim
 ·rw [decide_eq_false c4]
  refine ⟨x,k2 c4,fun h=>?_,fun h=>?_⟩
  ·have h6:=k4 h
   rcases h2 with ⟨-,h7⟩ | ⟨h7,-⟩
   ·exact ⟨by omega,by omega,fun h8 y hy h9=>c4 ⟨h8,y,hy,h9⟩,h7⟩
   ·rw [h7] at h6;cases h6
  ·refine k5 c4 ?_
   rcases h2 with ⟨h7,-⟩ | ⟨-,a,y,c,h7,h8⟩
   ·exact h7
   ·exact (h.2.2.2 a y c h7 h8).elim
theorem m110_eq (l:Lvl) (h:l.vs.length≤900000000):∃ b,UJ l=some b∧(b=true↔lvP l):=by
 have hloop:=loop_bad (β:=Unit⊕Bool) (step:=Gd l) l.vs (fun a x=>Ut l a x∨(0 < l.c∧l.c≤x.2)) (.inr false) (.inl ()) h (fun a x b e=>by
  have hprev:=fun ha=>prev_some (x:=x) (b:=b) h e ha
  have:Gd l (a.length:Int)=Option.bind (cond (decide (x.1 < (-65536))) (some true) (cond (decide (8≤x.1)) (some true) (cond (decide (x.2 < 0)) (some true) (some (decide (100 < x.2)))))) (fun (v6:Bool)=>m110_k0 v6 (a.length:Int) l x):=by
   unfold Gd
   have e2:l.vs=a++x::b:=e
   rw [show decide ((a.length:Int) < (l.vs.length:Int))=true from by rw [e2];exact YF a x b,show JX l.vs (a.length:Int)=some x from by rw [e2];exact Yd a x b]
   rfl
  rw [this]
  unfold Ut
  by_cases c1:x.1 < -65536
  ·rw [decide_eq_true c1];exact ⟨fun _=>rfl,fun h=>(h (.inl (.inl c1))).elim⟩
  rw [decide_eq_false c1,cond_false]
  by_cases c2:7 < x.1
  ·rw [decide_eq_true (show 8≤x.1 by omega)];exact ⟨fun _=>rfl,fun h=>(h (.inl (.inr (.inl c2)))).elim⟩
  rw [decide_eq_false (show ¬ 8≤x.1 by omega),cond_false]
  by_cases c3:x.2 < 0
  ·rw [decide_eq_true c3];exact ⟨fun _=>rfl,fun h=>(h (.inl (.inr (.inr (.inl c3))))).elim⟩
  rw [decide_eq_false c3,cond_false]
  by_cases c4:100 < x.2
  ·rw [decide_eq_true c4];exact ⟨fun _=>rfl,fun h=>(h (.inl (.inr (.inr (.inr (.inl c4)))))).elim⟩
  rw [decide_eq_false c4,Option.bind_some]
  show (_→Option.bind (cond (decide (0 < (a.length:Int))) (Option.bind (JX l.vs (Jb ((a.length:Int) - 1))) fun (b0_:LV)=>some (decide (x.1≤b0_.1))) (some false)) _=_)∧(_→Option.bind (cond (decide (0 < (a.length:Int))) (Option.bind (JX l.vs (Jb ((a.length:Int) - 1))) fun (b0_:LV)=>some (decide (x.1≤b0_.1))) (some false)) _=_)
  have hlast:∀ (hno:¬ (0 < a.length∧∃ y,JX l.vs (Jb ((a.length:Int) - 1))=some y∧x.1≤y.1)),((((x.1 < -65536∨7 < x.1∨x.2 < 0∨100 < x.2∨(0 < a.length∧∃ y,JX l.vs (Jb ((a.length:Int) - 1))=some y∧x.1≤y.1)))∨(0 < l.c∧l.c≤x.2))→Option.bind (cond (decide (0 < l.c)) (some (decide (l.c≤x.2))) (some false)) (fun (b2_:Bool)=>(cond b2_ (some (.done (.inr false))) (some (.next (Jb ((a.length:Int)+1)))):Option (LO Int (Unit⊕Bool))))=some (.done (.inr false:Unit⊕Bool)))∧(¬ (((x.1 < -65536∨7 < x.1∨x.2 < 0∨100 < x.2∨(0 < a.length∧∃ y,JX l.vs (Jb ((a.length:Int) - 1))=some y∧x.1≤y.1)))∨(0 < l.c∧l.c≤x.2))→Option.bind (cond (decide (0 < l.c)) (some (decide (l.c≤x.2))) (some false)) (fun (b2_:Bool)=>(cond b2_ (some (.done (.inr false))) (some (.next (Jb ((a.length:Int)+1)))):Option (LO Int (Unit⊕Bool))))=some (.next (β:=Unit⊕Bool) (Jb ((a.length:Int)+1)))):=by
   intro hno
   by_cases c7:0 < l.c
   ·rw [decide_eq_true c7]
    by_cases c8:l.c≤x.2
    ·rw [decide_eq_true c8];exact ⟨fun _=>rfl,fun h=>(h (.inr ⟨c7,c8⟩)).elim⟩
    ·rw [decide_eq_false c8]
     refine ⟨fun h=>?_,fun _=>rfl⟩
     rcases h with (h | h | h | h | h) | ⟨-,h⟩
     ·exact (c1 h).elim
     ·exact (c2 h).elim
     ·exact (c3 h).elim
     ·exact (c4 h).elim
     ·exact (hno h).elim
     ·exact (c8 h).elim
   ·rw [decide_eq_false c7]
    refine ⟨fun h=>?_,fun _=>rfl⟩
    rcases h with (h | h | h | h | h) | ⟨h,-⟩
    ·exact (c1 h).elim
    ·exact (c2 h).elim
    ·exact (c3 h).elim
    ·exact (c4 h).elim
    ·exact (hno h).elim
    ·exact (c7 h).elim
  by_cases c5:0 < a.length
  ·rw [decide_eq_true (show 0 < (a.length:Int) by omega),cond_true]
   obtain ⟨y,hy⟩:=hprev c5
   rw [hy,Option.bind_some]
   rw [hy] at hlast
   by_cases c6:x.1≤y.1
   ·rw [decide_eq_true c6];exact ⟨fun _=>rfl,fun h=>(h (.inl (.inr (.inr (.inr (.inr ⟨c5,y,rfl,c6⟩)))))).elim⟩
   ·rw [decide_eq_false c6]
    exact hlast fun ⟨_,z,hz,h⟩=>by cases hz;exact c6 h
  ·rw [decide_eq_false (show ¬ 0 < (a.length:Int) by omega)]
   exact hlast fun h=>c5 h.1) (by unfold Gd;rw [Jm];rfl)
 obtain ⟨r,h1,h2⟩:=hloop
 unfold UJ
 rw [h1]
 by_cases c1:l.c < 0
 ·rw [decide_eq_true c1];exact ⟨false,rfl,⟨fun h=>(Bool.false_ne_true h).elim,fun h=>by have:=h.1;omega⟩⟩
 rw [decide_eq_false c1,cond_false]
 by_cases c2:100 < l.c
 ·rw [decide_eq_true c2];exact ⟨false,rfl,⟨fun h=>(Bool.false_ne_true h).elim,fun h=>by have:=h.2.1;omega⟩⟩
 rw [decide_eq_false c2,Option.bind_some,cond_false]
 rcases h2 with ⟨rfl,h3⟩ | ⟨rfl,a,x,b,e,h3⟩
 ·refine ⟨true,rfl,fun _=>⟨by omega,by omega,fun h4 y hy h5=>?_,fun a x b e h4=>h3 a x b e (.inl h4)⟩,fun _=>rfl⟩
  obtain ⟨a,b,e⟩:=List.append_of_mem hy
  exact h3 a y b e (.inr ⟨h4,h5⟩)
 ·refine ⟨false,rfl,fun h=>(Bool.false_ne_true h).elim,fun h4=>?_⟩
  rcases h3 with h3 | ⟨h3,h5⟩
  ·exact (h4.2.2.2 a x b e h3).elim
  ·exact (h4.2.2.1 h3 x (by rw [e];simp) h5).elim
theorem lv_same (l:Lvl) (h:l.vs.length≤900000000):∃ b,UK l=some b∧UJ l=some b∧(b=true→lvP l):=by
 obtain ⟨b,h1,h2⟩:=m103_eq l h
 obtain ⟨c,h3,h4⟩:=m110_eq l h
 have:b=c:=Bool.eq_iff_iff.2 (h2.trans h4.symm)
 exact ⟨b,h1,by rw [this];exact h3,h2.1⟩
end Go.Proofs.Ytafddfoefeploaa
namespace Go.Proofs.Ytafddfoefeploaa
open Go.RowKit Go.Shelf
set_option linter.unusedSimpArgs false
set_option linter.unusedVariables false
set_option linter.unusedSectionVars false
theorem loop2 {α σ1 τ1 β1 σ2 τ2 β2:Type} {step1:τ1→Option (LO τ1 β1)} {step2:τ2→Option (LO τ2 β2)} (l:List α) (mk1:Int→σ1→τ1) (mk2:Int→σ2→τ2) (I:List α→σ1→σ2→Prop) (Q:β1→β2→Prop) (hlen:l.length≤900000000)
  (hin:∀ (a:List α) (x:α) (b:List α) (s1:σ1) (s2:σ2),l=a++x::b→I a s1 s2 →
   (∃ r1 r2,step1 (mk1 (a.length:Int) s1)=some (.done r1)∧step2 (mk2 (a.length:Int) s2)=some (.done r2)∧Q r1 r2) ∨
   ∃ s1' s2',step1 (mk1 (a.length:Int) s1)=some (.next (mk1 (Jb ((a.length:Int)+1)) s1'))∧step2 (mk2 (a.length:Int) s2)=some (.next (mk2 (Jb ((a.length:Int)+1)) s2'))∧I (a++[x]) s1' s2')
  (hout:∀ s1 s2,I l s1 s2→∃ r1 r2,step1 (mk1 (l.length:Int) s1)=some (.done r1)∧step2 (mk2 (l.length:Int) s2)=some (.done r2)∧Q r1 r2) (s1:σ1) (s2:σ2) (h0:I [] s1 s2) :
  ∃ r1 r2,QE step1 QV (mk1 0 s1)=some r1∧QE step2 QV (mk2 0 s2)=some r2∧Q r1 r2:=by
 have key:∀ (b a:List α) (s1:σ1) (s2:σ2) (n:Nat),l=a++b→b.length < n→I a s1 s2→∃ r1 r2,QE step1 n (mk1 (a.length:Int) s1)=some r1∧QE step2 n (mk2 (a.length:Int) s2)=some r2∧Q r1 r2:=by
  intro b
  induction b with
  | nil =>
   intro a s1 s2 n hl hn hI
   rw [List.append_nil] at hl
   subst hl
   obtain ⟨r1,r2,h1,h2,h3⟩:=hout s1 s2 hI
   cases n with
   | zero=>omega
   | succ n=>exact ⟨r1,r2,by simp only [QE,h1],by simp only [QE,h2],h3⟩
  | cons x b ih =>
   intro a s1 s2 n hl hn hI
   cases n with
   | zero=>omega
   | succ n =>
    rcases hin a x b s1 s2 hl hI with ⟨r1,r2,h1,h2,h3⟩ | ⟨s1',s2',h1,h2,h3⟩
    ·exact ⟨r1,r2,by simp only [QE,h1],by simp only [QE,h2],h3⟩
    ·have hal:a.length≤900000000:=by rw [hl,List.length_append] at hlen;omega
     rw [WQ (by omega)] at h1 h2
     obtain ⟨r1,r2,h4,h5,h6⟩:=ih (a++[x]) s1' s2' n (by rw [hl,List.append_assoc];rfl) (by simp only [List.length_cons] at hn;omega) h3
     rw [List.length_append] at h4 h5
     exact ⟨r1,r2,by simp only [QE,h1];exact h4,by simp only [QE,h2];exact h5,h6⟩
 exact key l [] s1 s2 QV rfl (by unfold QV;omega) h0
theorem YL {α β1 β2:Type} {step1:Int→Option (LO Int β1)} {step2:Int→Option (LO Int β2)} (l:List α) (z1:β1) (z2:β2) (g1:Int→β1) (g2:Int→β2) (hlen:l.length≤900000000)
  (hin:∀ (a:List α) (x:α) (b:List α),l=a++x::b→∃ e:Int,(e=0→step1 (a.length:Int)=some (.next (Jb ((a.length:Int)+1)))∧step2 (a.length:Int)=some (.next (Jb ((a.length:Int)+1))))∧(e ≠ 0→step1 (a.length:Int)=some (.done (g1 e))∧step2 (a.length:Int)=some (.done (g2 e))))
  (hout1:step1 (l.length:Int)=some (.done z1)) (hout2:step2 (l.length:Int)=some (.done z2)) :
  ∃ e:Int,(e=0→QE step1 QV 0=some z1∧QE step2 QV 0=some z2)∧(e ≠ 0→QE step1 QV 0=some (g1 e)∧QE step2 QV 0=some (g2 e)):=by
 obtain ⟨r1,r2,h1,h2,e,h3,h4⟩:=loop2 (step1:=step1) (step2:=step2) l (fun i (_:Unit)=>i) (fun i (_:Unit)=>i) (fun _ _ _=>True) (fun r1 r2=>∃ e:Int,(e=0→r1=z1∧r2=z2)∧(e ≠ 0→r1=g1 e∧r2=g2 e)) hlen
  (fun a x b _ _ hl _=>by
   obtain ⟨e,h1,h2⟩:=hin a x b hl
   by_cases he:e=0
   ·exact .inr ⟨(),(),(h1 he).1,(h1 he).2,trivial⟩
   ·exact .inl ⟨_,_,(h2 he).1,(h2 he).2,e,fun h=>(he h).elim,fun _=>⟨rfl,rfl⟩⟩)
  (fun _ _ _=>⟨z1,z2,hout1,hout2,0,fun _=>⟨rfl,rfl⟩,fun h=>(h rfl).elim⟩) () () trivial
 refine ⟨e,fun he=>?_,fun he=>?_⟩
 ·rw [h1,h2,(h3 he).1,(h3 he).2];exact ⟨rfl,rfl⟩
 ·rw [h1,h2,(h4 he).1,(h4 he).2];exact ⟨rfl,rfl⟩
theorem YZ {α:Type} {l a b:List α} {x:α} (e:l=a++x::b):decide ((a.length:Int) < (l.length:Int))=true∧JX l (a.length:Int)=some x:=by
 rw [e];exact ⟨YF a x b,Yd a x b⟩
def formU (ix nm ln A N L K:Bool):Option Bool :=
 Option.bind (cond ix (cond nm (cond ln (some K) (cond L (some K) (some false))) (cond N (cond ln (some K) (cond L (some K) (some false))) (some false)))
  (cond A (cond nm (cond ln (some K) (cond L (some K) (some false))) (cond N (cond ln (some K) (cond L (some K) (some false))) (some false))) (some false))) (fun b=>some b)
theorem formU_eq (ix nm ln A N L K:Bool):formU ix nm ln A N L K=some ((ix||A)&&(nm||N)&&(ln||L)&&K):=by
 cases ix <;> cases nm <;> cases ln <;> cases A <;> cases N <;> cases L <;> cases K <;> rfl
def formV (k0 k12 k3 k2 A N L0 L1 K:Bool):Option Bool :=
 cond (!K) (some false) (Option.bind (cond (!A) (cond (!k0) (some (!k12)) (some false)) (some false)) (fun v3=>cond v3 (some false) (Option.bind (cond (!N) (some (!k3)) (some false)) (fun b0_=>cond b0_ (some false) (cond k2 (some L1) (Option.bind (cond L0 (some true) (some k3)) (fun b1_=>some b1_)))))))
theorem formV_eq (k0 k12 k3 k2 A N L0 L1 K:Bool):formV k0 k12 k3 k2 A N L0 L1 K=some (((k0||k12)||A)&&(k3||N)&&(cond k2 L1 (L0||k3))&&K):=by
 cases k0 <;> cases k12 <;> cases k3 <;> cases k2 <;> cases A <;> cases N <;> cases L0 <;> cases L1 <;> cases K <;> rfl
theorem form_eq (t:Tm):∃ b,Dh t=some b∧Us t=some b∧(b=true→0≤t.kind∧t.kind < 13∧(t.kind ≠ 3→(t.levels.length:Int)≤1)):=by
 by_cases h1:t.kind < 0
 ·exact ⟨false,by unfold Dh;rw [decide_eq_true h1];rfl,by unfold Us;rw [decide_eq_true h1];rfl,fun h=>by cases h⟩
 by_cases h2:13≤t.kind
 ·exact ⟨false,by unfold Dh;rw [decide_eq_false h1,decide_eq_true h2];rfl,by unfold Us;rw [decide_eq_false h1,decide_eq_true h2];rfl,fun h=>by cases h⟩
 have hk:t.kind=0∨t.kind=1∨t.kind=2∨t.kind=3∨t.kind=4∨t.kind=5∨t.kind=6∨t.kind=7∨t.kind=8∨t.kind=9∨t.kind=10∨t.kind=11∨t.kind=12:=by omega
 have fin:∀ (ix nm ln:Bool) (lv kd:Int) (k0 k12 k3 k2:Bool),Dh t=formU ix nm ln (t.index==0) (t.name==[]) ((t.levels.length:Int)==lv) ((t.kids.length:Int)==kd) →
   Us t=formV k0 k12 k3 k2 (t.index==0) (t.name==[]) ((t.levels.length:Int)==0) ((t.levels.length:Int)==1) ((t.kids.length:Int)==kd) →
   ix=(k0||k12)→nm=k3→(ln||(t.levels.length:Int)==lv)=(cond k2 ((t.levels.length:Int)==1) ((t.levels.length:Int)==0||k3))→(k3=false→ln=false∧lv≤1)→(t.kind ≠ 3→k3=false) →
   ∃ b,Dh t=some b∧Us t=some b∧(b=true→0≤t.kind∧t.kind < 13∧(t.kind ≠ 3→(t.levels.length:Int)≤1)):=by
  intro ix nm ln lv kd k0 k12 k3 k2 e1 e2 e3 e4 e5 e6 e7
  rw [formU_eq] at e1
  rw [formV_eq,← e5,← e3,← e4] at e2
  refine ⟨_,e1,e2,fun h=>⟨by omega,by omega,fun h3=>?_⟩⟩
  obtain ⟨h4,h5⟩:=e6 (e7 h3)
  rw [h4,Bool.false_or,Bool.and_eq_true,Bool.and_eq_true] at h
  have h6:=eq_of_beq h.1.2
  omega
 obtain ⟨k,i,n,ls,ks⟩:=t
 dsimp only [Tm.kind,Tm.index,Tm.name,Tm.levels,Tm.kids] at *
 rcases hk with hk | hk | hk | hk | hk | hk | hk | hk | hk | hk | hk | hk | hk <;> subst hk
 ·exact fin true false false 0 0 true false false false rfl rfl rfl rfl (by cases ((ls.length:Int)==0) <;> rfl) (fun _=>⟨rfl,by omega⟩) (fun _=>rfl)
 ·exact fin false false false 0 0 false false false false rfl rfl rfl rfl (by cases ((ls.length:Int)==0) <;> rfl) (fun _=>⟨rfl,by omega⟩) (fun _=>rfl)
 ·exact fin false false false 1 0 false false false true rfl rfl rfl rfl rfl (fun _=>⟨rfl,by omega⟩) (fun _=>rfl)
 ·exact fin false true true (-1) 0 false false true false rfl rfl rfl rfl (by cases ((ls.length:Int)==0) <;> rfl) (fun h=>by cases h) (fun h=>(h rfl).elim)
 ·exact fin false false false 0 2 false false false false rfl rfl rfl rfl (by cases ((ls.length:Int)==0) <;> rfl) (fun _=>⟨rfl,by omega⟩) (fun _=>rfl)
 ·exact fin false false false 0 2 false false false false rfl rfl rfl rfl (by cases ((ls.length:Int)==0) <;> rfl) (fun _=>⟨rfl,by omega⟩) (fun _=>rfl)
 ·exact fin false false false 0 2 false false false false rfl rfl rfl rfl (by cases ((ls.length:Int)==0) <;> rfl) (fun _=>⟨rfl,by omega⟩) (fun _=>rfl)
 ·exact fin false false false 0 2 false false false false rfl rfl rfl rfl (by cases ((ls.length:Int)==0) <;> rfl) (fun _=>⟨rfl,by omega⟩) (fun _=>rfl)
 ·exact fin false false false 0 3 false false false false rfl rfl rfl rfl (by cases ((ls.length:Int)==0) <;> rfl) (fun _=>⟨rfl,by omega⟩) (fun _=>rfl)
 ·exact fin false false false 0 1 false false false false rfl rfl rfl rfl (by cases ((ls.length:Int)==0) <;> rfl) (fun _=>⟨rfl,by omega⟩) (fun _=>rfl)
 ·exact fin false false false 0 1 false false false false rfl rfl rfl rfl (by cases ((ls.length:Int)==0) <;> rfl) (fun _=>⟨rfl,by omega⟩) (fun _=>rfl)
 ·exact fin false false false 0 3 false false false false rfl rfl rfl rfl (by cases ((ls.length:Int)==0) <;> rfl) (fun _=>⟨rfl,by omega⟩) (fun _=>rfl)
 ·exact fin true false false 0 0 false true false false rfl rfl rfl rfl (by cases ((ls.length:Int)==0) <;> rfl) (fun _=>⟨rfl,by omega⟩) (fun _=>rfl)
def Kl (V P:Int):Scp:=⟨max V 0,max P 0,max 0 0,max 0 0⟩
theorem lv_code (V P:Int) (x:Lvl) (h:x.vs.length≤900000000):∃ e,Dn (Kl V P) x=some e∧UC x P 0=some e:=by
 obtain ⟨b,h1,h2,-⟩:=lv_same x h
 unfold Dn UC
 rw [h1,h2]
 cases b with
 | false=>exact ⟨3,rfl,rfl⟩
 | true =>
  show ∃ e,Option.bind (QE (XT x (Kl V P)) QV 0) _=_∧Option.bind (QE (X0 x P) QV 0) _=_
  obtain ⟨e,h3,h4⟩:=YL (β1:=Unit⊕Int) (β2:=Unit⊕Int) (step1:=XT x (Kl V P)) (step2:=X0 x P) x.vs (.inl ()) (.inl ()) .inr .inr h (fun a y b e=>by
   obtain ⟨q1,q2⟩:=YZ e
   unfold XT X0
   rw [q1,q2]
   show ∃ e:Int,(_→cond (decide (max P 0≤y.1)) _ _=_∧Option.bind (cond (decide (0≤y.1)) (some (decide (P≤y.1))) (some false)) _=_)∧(_→cond (decide (max P 0≤y.1)) _ _=_∧Option.bind (cond (decide (0≤y.1)) (some (decide (P≤y.1))) (some false)) _=_)
   by_cases c:max P 0≤y.1
   ·rw [decide_eq_true c,decide_eq_true (show 0≤y.1 by omega),decide_eq_true (show P≤y.1 by omega)]
    exact ⟨15,fun h=>by omega,fun _=>⟨rfl,rfl⟩⟩
   ·rw [decide_eq_false c]
    refine ⟨0,fun _=>⟨Z,?_⟩,fun h=>(h Z).elim⟩
    by_cases c2:0≤y.1
    ·rw [decide_eq_true c2,decide_eq_false (show ¬ P≤y.1 by omega)];rfl
    ·rw [decide_eq_false c2];rfl)
   (by unfold XT;rw [Jm];rfl) (by unfold X0;rw [Jm];rfl)
  by_cases he:e=0
  ·obtain ⟨e1,e2⟩:=h3 he
   rw [e1,e2]
   show ∃ e,Option.bind (QE (Xc x (Kl V P)) QV 0) _=_∧Option.bind (QE (Ge x 0) QV 0) _=_
   obtain ⟨e',h5,h6⟩:=YL (β1:=Unit⊕Int) (β2:=Unit⊕Int) (step1:=Xc x (Kl V P)) (step2:=Ge x 0) x.vs (.inl ()) (.inl ()) .inr .inr h (fun a y b e=>by
    obtain ⟨q1,q2⟩:=YZ e
    unfold Xc Ge
    rw [q1,q2]
    show ∃ e:Int,(_→Option.bind (cond (decide (y.1 < 0)) (some (decide (0≤(Jb ((-1) - y.1))))) (some false)) _=_∧Option.bind (cond (decide (y.1 < 0)) (some (decide (0≤(Jb ((-1) - y.1))))) (some false)) _=_)∧(_→Option.bind (cond (decide (y.1 < 0)) (some (decide (0≤(Jb ((-1) - y.1))))) (some false)) _=_∧Option.bind (cond (decide (y.1 < 0)) (some (decide (0≤(Jb ((-1) - y.1))))) (some false)) _=_)
    cases decide (y.1 < 0) with
    | false=>exact ⟨0,fun _=>⟨rfl,rfl⟩,fun h=>(h rfl).elim⟩
    | true =>
     cases decide (0≤(Jb ((-1) - y.1))) with
     | false=>exact ⟨0,fun _=>⟨rfl,rfl⟩,fun h=>(h rfl).elim⟩
     | true=>exact ⟨23,fun h=>by omega,fun _=>⟨rfl,rfl⟩⟩)
    (by unfold Xc;rw [Jm];rfl) (by unfold Ge;rw [Jm];rfl)
   by_cases he':e'=0
   ·obtain ⟨e1,e2⟩:=h5 he'
    rw [e1,e2];exact ⟨0,rfl,rfl⟩
   ·obtain ⟨e1,e2⟩:=h6 he'
    rw [e1,e2];exact ⟨e',rfl,rfl⟩
  ·obtain ⟨e1,e2⟩:=h4 he
   rw [e1,e2];exact ⟨e,rfl,rfl⟩
theorem levels_len (t:Tm):(t.levels.map lvz).sum < t.size:=by rw [t.size_eq];omega
theorem lvz_len (l:Lvl):l.vs.length < lvz l:=by
 have:=Gg (fun _:LV=>1) (fun _=>Nat.le_refl 1) l.vs
 unfold lvz;omega
theorem Ud {e:Int} (h:e ≠ 0):(e != 0)=true:=bne_iff_ne.2 h
theorem XA {α:Type} {e:Int} (he:e ≠ 0) (x:Int→Option α) (y:Option α):Option.bind (some e) (fun v=>cond (v != 0) (x v) y)=x e:=by
 rw [Option.bind_some,Ud he];rfl
def Uu (rc:Tm×Int×Int×Int×Int×Int→Option Int) (t:Tm) (dep V P:Int):Option Int:=Option.bind (QE (Kw t rc dep V P 0 0) QV 0) (Sum.elim (fun (b1_:Unit)=>some 0) (fun o=>some o))
theorem node_tail (t:Tm) (dep V P:Int) (h:t.size≤900000000):∃ e,Option.bind (QE (Km t (Kl V P)) QV 0) (Sum.elim (fun (o7:Unit)=>KS t (Kl V P) dep) (fun o=>some o))=some e ∧
  ∀ rc,(Option.bind (QE (Kx t P 0) QV 0) (Sum.elim (fun (b0_:Unit)=>Option.bind (cond (t.kind==0) (cond (decide (t.index < 0)) (some true) (some (decide (max V 0≤(Jb (t.index - dep)))))) (some false)) (fun (b1_:Bool)=>K7 b1_ t 0 rc dep (max V 0) P 0)) (fun o=>some o)))=if e=0 then Uu rc t dep (max V 0) P else some e:=by
 have hl:=levels_len t
 have hl2:=Gg lvz (fun l=>by unfold lvz;omega) t.levels
 obtain ⟨e,h3,h4⟩:=YL (β1:=Unit⊕Int) (β2:=Unit⊕Int) (step1:=Km t (Kl V P)) (step2:=Kx t P 0) t.levels (.inl ()) (.inl ()) .inr .inr (by omega) (fun a y b e=>by
  obtain ⟨q1,q2⟩:=YZ e
  have hy:y.vs.length≤900000000:=by
   have:=lvz_len y
   have:=ZH lvz (show y∈t.levels from by rw [e];simp)
   omega
  obtain ⟨e,h1,h2⟩:=lv_code V P y hy
  unfold Km Kx
  rw [q1,q2]
  show ∃ e:Int,(_→Option.bind (Dn (Kl V P) y) _=_∧Option.bind (UC y P 0) _=_)∧(_→Option.bind (Dn (Kl V P) y) _=_∧Option.bind (UC y P 0) _=_)
  rw [h1,h2]
  refine ⟨e,fun he=>?_,fun he=>?_⟩
  ·subst he;exact ⟨rfl,rfl⟩
  ·exact ⟨XA he _ _,XA he _ _⟩)
  (by unfold Km;rw [Jm];rfl) (by unfold Kx;rw [Jm];rfl)
 by_cases he:e=0
 ·obtain ⟨e1,e2⟩:=h3 he
  rw [e1,e2]
  show ∃ e,KS t (Kl V P) dep=some e∧∀ rc,Option.bind (cond (t.kind==0) (cond (decide (t.index < 0)) (some true) (some (decide (max V 0≤(Jb (t.index - dep)))))) (some false)) (fun (b1_:Bool)=>K7 b1_ t 0 rc dep (max V 0) P 0)=if e=0 then Uu rc t dep (max V 0) P else some e
  unfold KS
  show ∃ e,Option.bind (cond (t.kind==0) (cond (decide (t.index < 0)) (some true) (some (decide (max V 0≤(Jb (t.index - dep)))))) (some false)) _=some e∧_
  obtain ⟨v,hv⟩:∃ v,cond (t.kind==0) (cond (decide (t.index < 0)) (some true) (some (decide (max V 0≤(Jb (t.index - dep)))))) (some false)=some v:=by
   cases (t.kind==0) <;> cases decide (t.index < 0) <;> exact ⟨_,rfl⟩
  rw [hv]
  ·cases v with
   | true=>exact ⟨24,rfl,fun rc=>rfl⟩
   | false =>
    show ∃ e,Option.bind (cond (t.kind==12) (cond (decide (t.index < 0)) (some true) (some (decide ((0:Int)≤t.index)))) (some false)) _=some e∧∀ rc,K7 false t 0 rc dep (max V 0) P 0=_
    unfold K7
    simp only [cond_false]
    cases t.kind==12 with
    | false=>exact ⟨0,rfl,fun rc=>rfl⟩
    | true =>
     cases decide (t.index < 0) with
     | true=>exact ⟨23,rfl,fun rc=>rfl⟩
     | false =>
      cases decide ((0:Int)≤t.index) with
      | true=>exact ⟨23,rfl,fun rc=>rfl⟩
      | false=>exact ⟨0,rfl,fun rc=>rfl⟩
 ·obtain ⟨e1,e2⟩:=h4 he
  rw [e1,e2]
  exact ⟨e,rfl,fun rc=>by rw [if_neg he];rfl⟩
theorem node_eq (t:Tm) (dep V P:Int) (h:t.size≤900000000):∃ e,DI (Kl V P) t dep=some e∧(∀ rc,Uh rc t dep (max V 0) P 0 0=if e=0 then Uu rc t dep (max V 0) P else some e)∧(e=0→0≤t.kind∧t.kind < 13):=by
 obtain ⟨b,h1,h2,h3⟩:=form_eq t
 unfold DI Uh
 rw [h1,h2]
 cases b with
 | false=>exact ⟨3,rfl,fun rc=>rfl,fun h=>by omega⟩
 | true =>
  obtain ⟨k1,k2,k3⟩:=h3 rfl
  obtain ⟨e,h4,h5⟩:=node_tail t dep V P h
  have hn:t.name.length≤900000000:=by have:=t.size_eq;omega
  show ∃ e,cond (t.kind==3) (Option.bind (Dp t.name) _) _=some e∧(∀ rc,Option.bind (cond (t.kind==3) (Option.bind (Do t.name) _) _) _=_)∧_
  rw [m65_eq _ hn,m71_eq _ hn,Yy]
  by_cases hk:t.kind=3
  ·rw [decide_eq_true hk]
   cases Xa t.name with
   | false=>exact ⟨29,rfl,fun rc=>rfl,fun h=>by omega⟩
   | true =>
    show ∃ e,cond (decide (8 < (t.levels.length:Int))) (some 6) (Option.bind (QE (Km t (Kl V P)) QV 0) (Sum.elim (fun (o7:Unit)=>KS t (Kl V P) dep) (fun o=>some o)))=some e∧(∀ rc,cond (decide (8 < (t.levels.length:Int))) (some 6) (Option.bind (QE (Kx t P 0) QV 0) (Sum.elim (fun (b0_:Unit)=>Option.bind (cond (t.kind==0) (cond (decide (t.index < 0)) (some true) (some (decide (max V 0≤(Jb (t.index - dep)))))) (some false)) (fun (b1_:Bool)=>K7 b1_ t 0 rc dep (max V 0) P 0)) (fun o=>some o)))=_)∧_
    cases decide (8 < (t.levels.length:Int)) with
    | true=>exact ⟨6,rfl,fun rc=>rfl,fun h=>by omega⟩
    | false=>exact ⟨e,h4,h5,fun _=>⟨k1,k2⟩⟩
  ·rw [decide_eq_false hk]
   show ∃ e,Option.bind (QE (Km t (Kl V P)) QV 0) (Sum.elim (fun (o7:Unit)=>KS t (Kl V P) dep) (fun o=>some o))=some e∧(∀ rc,cond (decide (8 < (t.levels.length:Int))) (some 6) (Option.bind (QE (Kx t P 0) QV 0) (Sum.elim (fun (b0_:Unit)=>Option.bind (cond (t.kind==0) (cond (decide (t.index < 0)) (some true) (some (decide (max V 0≤(Jb (t.index - dep)))))) (some false)) (fun (b1_:Bool)=>K7 b1_ t 0 rc dep (max V 0) P 0)) (fun o=>some o)))=_)∧_
   rw [decide_eq_false (show ¬ 8 < (t.levels.length:Int) by have:=k3 hk;omega)]
   exact ⟨e,h4,h5,fun _=>⟨k1,k2⟩⟩
end Go.Proofs.Ytafddfoefeploaa
namespace Go.Proofs.Ytafddfoefeploaa
open Go.RowKit Go.Shelf
set_option linter.unusedSimpArgs false
set_option linter.unusedVariables false
set_option linter.unusedSectionVars false
def Tm.num:Tm→Nat
 | .mk _ _ _ _ ks=>1+(ks.attach.map fun k=>Tm.num k.1).sum
termination_by t=>SizeOf.sizeOf t
decreasing_by
 have:=List.sizeOf_lt_of_mem k.2
 simp only [Tm.mk.sizeOf_spec];omega
theorem Tm.num_eq (t:Tm):t.num=1+(t.kids.map Tm.num).sum:=by
 cases t
 rw [Tm.num,List.attach_map_val];rfl
theorem sum_le2 {α:Type} (f g:α→Nat):∀ l:List α,(∀ x∈l,f x≤g x)→(l.map f).sum≤(l.map g).sum
 | [],_=>Nat.le_refl _
 | x::l,h=>by
  rw [List.map_cons,List.sum_cons,List.map_cons,List.sum_cons]
  have h1:=h x (List.mem_cons_self ..)
  have h2:=sum_le2 f g l fun y hy=>h y (List.mem_cons_of_mem _ hy)
  omega
theorem Tm.num_le (t:Tm):t.num≤t.size:=by
 induction t using Tm.ind with
 | h t ih =>
  rw [t.num_eq,t.size_eq]
  have:=sum_le2 Tm.num Tm.size t.kids ih
  omega
theorem num_le2 {t:Tm} {a b:List Tm} {x:Tm} (e:t.kids=a++x::b):(a.map Tm.num).sum+x.size < t.size∧(a.map Tm.num).sum+x.num < t.num:=by
 have h1:=t.size_eq
 have h2:=t.num_eq
 rw [e,sum_split] at h1 h2
 have h3:=sum_le2 Tm.num Tm.size a fun x _=>x.num_le
 constructor <;> omega
theorem num_walk:∀ (n:Nat) (t:Tm),t.size≤n→t.size≤900000000→JQ Um n t=some (t.num:Int)
 | 0,t,h,_=>by rw [t.size_eq] at h;omega
 | n+1,t,h,h2=>by
  show UB (JQ Um n) t=_
  unfold UB
  have hl:=Xw t
  have hn:=t.num_le
  obtain ⟨r,e1,e2⟩:=YJ (step:=Gr t (JQ Um n)) t.kids (fun i (s:Nat)=>((s:Int),i)) (fun a s=>s=1+(a.map Tm.num).sum) (fun r=>r=(t.num:Int)) (by omega)
   (fun a x b s e hI=>by
    have hx:=Z1 (t:=t) (k:=x) (by rw [e];simp)
    have hr:=num_walk n x (by omega) (by omega)
    have h3:=num_le2 e
    obtain ⟨q1,q2⟩:=YZ e
    refine .inr ⟨s+x.num,?_,?_⟩
    ·unfold Gr
     dsimp only
     rw [q1,q2]
     simp only [cond_true,Option.bind_some]
     rw [hr]
     simp only [Option.bind_some]
     rw [Wt (n:=(s:Int)+(x.num:Int)) (by omega) (by omega)]
     rfl
    ·rw [hI,List.map_append,List.sum_append];simp;omega)
   (fun s hI=>⟨(s:Int),by unfold Gr;dsimp only;rw [Jm];rfl,by rw [hI,t.num_eq]⟩) 1 rfl
  have e3:QE (Gr t (JQ Um n)) QV (1,0)=some r:=e1
  rw [e3,e2];rfl
theorem m81_eq:m81=m56:=rfl
theorem bind_eq (k:Int) (h0:0≤k) (h1:k < 13):∃ v,JX ([(-1),(-1),(-1),(-1),(-1),1,1,1,(-1),(-1),(-1),2,(-1)]:List Int) k=some v∧∀ j:Nat,U3 k (j:Int)=some (if (j:Int)=v then 1 else 0):=by
 have hk:k=0∨k=1∨k=2∨k=3∨k=4∨k=5∨k=6∨k=7∨k=8∨k=9∨k=10∨k=11∨k=12:=by omega
 have no:∀ (c:Bool→Option Int) (j:Nat),U3 k (j:Int)=some 0→U3 k (j:Int)=some (if (j:Int) = -1 then 1 else 0):=fun _ j h=>by rw [h,if_neg (by omega)]
 rcases hk with hk | hk | hk | hk | hk | hk | hk | hk | hk | hk | hk | hk | hk <;> subst hk
 case inr.inr.inr.inr.inr.inl=>exact ⟨1,rfl,fun j=>by
  unfold U3;rw [Yy (j:Int) 1,Yy (j:Int) 2]
  by_cases h:(j:Int)=1
  ·rw [decide_eq_true h,if_pos h];rfl
  ·rw [decide_eq_false h,if_neg h]
   cases decide ((j:Int)=2) <;> rfl⟩
 case inr.inr.inr.inr.inr.inr.inl=>exact ⟨1,rfl,fun j=>by
  unfold U3;rw [Yy (j:Int) 1,Yy (j:Int) 2]
  by_cases h:(j:Int)=1
  ·rw [decide_eq_true h,if_pos h];rfl
  ·rw [decide_eq_false h,if_neg h]
   cases decide ((j:Int)=2) <;> rfl⟩
 case inr.inr.inr.inr.inr.inr.inr.inl=>exact ⟨1,rfl,fun j=>by
  unfold U3;rw [Yy (j:Int) 1,Yy (j:Int) 2]
  by_cases h:(j:Int)=1
  ·rw [decide_eq_true h,if_pos h];rfl
  ·rw [decide_eq_false h,if_neg h]
   cases decide ((j:Int)=2) <;> rfl⟩
 case inr.inr.inr.inr.inr.inr.inr.inr.inr.inr.inr.inl=>exact ⟨2,rfl,fun j=>by
  unfold U3;rw [Yy (j:Int) 1,Yy (j:Int) 2]
  by_cases h:(j:Int)=2
  ·rw [decide_eq_true h,if_pos h,decide_eq_false (show ¬ (j:Int)=1 by omega)];rfl
  ·rw [decide_eq_false h,if_neg h]
   cases decide ((j:Int)=1) <;> rfl⟩
 all_goals exact ⟨-1,rfl,fun j=>no (fun _=>none) j (by
  unfold U3;rw [Yy (j:Int) 1,Yy (j:Int) 2]
  cases decide ((j:Int)=1) <;> cases decide ((j:Int)=2) <;> rfl)⟩
theorem walk_eq (V P:Int) (root:Tm):∀ (n:Nat) (t:Tm) (dep cnt:Nat),t.size≤n→dep+t.size≤900000000→cnt+t.size≤900000000 →
  ∃ e:Int,JQ U4 n (t,(dep:Int),max V 0,P,0,0)=some e∧(e=0→JQ KR n (t,(dep:Int),root,0,Kl V P,(cnt:Int),root)=some (.inr (true,((cnt+t.num:Nat):Int)))) ∧
   (e ≠ 0→∃ c,JQ KR n (t,(dep:Int),root,0,Kl V P,(cnt:Int),root)=some (.inl (e,c)))
 | 0,t,_,_,h,_,_=>by rw [t.size_eq] at h;omega
 | n+1,t,dep,cnt,h,hd,hc=>by
  show ∃ e:Int,Uh (JQ U4 n) t (dep:Int) (max V 0) P 0 0=some e∧(e=0→Ww (JQ KR n) t (dep:Int) root 0 (Kl V P) (cnt:Int) root=_)∧(e ≠ 0→∃ c,Ww (JQ KR n) t (dep:Int) root 0 (Kl V P) (cnt:Int) root=some (.inl (e,c)))
  obtain ⟨e,h1,h2,h3⟩:=node_eq t (dep:Int) V P (by omega)
  have hl:=Xw t
  have hnum:=t.num_le
  rw [h2]
  unfold Ww
  rw [h1]
  by_cases he:e=0
  ·subst he
   obtain ⟨k0,k1⟩:=h3 rfl
   obtain ⟨v,hv,hj⟩:=bind_eq t.kind k0 k1
   rw [if_pos rfl]
   rw [decide_eq_true k0,decide_eq_true k1]
   show ∃ e:Int,Uu (JQ U4 n) t (dep:Int) (max V 0) P=some e∧(e=0→Gy true t (dep:Int) (JQ KR n) root 0 (Kl V P) root (cnt:Int)=_)∧(e ≠ 0→∃ c,Gy true t (dep:Int) (JQ KR n) root 0 (Kl V P) root (cnt:Int)=some (.inl (e,c)))
   have hg:Jv (cond (decide (0≤t.kind)) (Nat.blt t.kind.toNat 13) false) (some v)=some v:=by
    rw [decide_eq_true k0,cond_true,show Nat.blt t.kind.toNat 13=true from Nat.ble_eq_true_of_le (by omega)];rfl
   unfold Gy Uu
   rw [hv]
   simp only [cond_true,Option.bind_some]
   rw [hg,Option.bind_some,WQ (by omega)]
   obtain ⟨r1,r2,e1,e2,e3⟩:=loop2 (β1:=Unit⊕Int) (β2:=Int⊕((Int×Int)⊕(Bool×Int))) (step1:=Kw t (JQ U4 n) (dep:Int) (max V 0) P 0 0) (step2:=Kb t v (dep:Int) (JQ KR n) root 0 (Kl V P) root) t.kids (fun i (_:Unit)=>i) (fun i (c:Nat)=>(i,(c:Int)))
    (fun a _ c=>c=cnt+1+(a.map Tm.num).sum) (fun r1 r2=>(r1=.inl ()∧r2=.inl ((cnt+t.num:Nat):Int))∨∃ e c,e ≠ 0∧r1=.inr e∧r2=.inr (.inl (e,c))) (by omega)
    (fun a x b _ c e hI=>by
     obtain ⟨q1,q2⟩:=YZ e
     have hx:=num_le2 e
     have hxs:=Z1 (t:=t) (k:=x) (by rw [e];simp)
     unfold Kw Kb
     dsimp only
     rw [q1,q2]
     simp only [cond_true,Option.bind_some]
     rw [hj a.length,Yy]
     obtain ⟨d',hd1,hd2,hd3⟩:∃ d':Nat,Jb ((dep:Int)+(if (a.length:Int)=v then 1 else 0))=(d':Int)∧(cond (decide ((a.length:Int)=v)) (some (Jb ((dep:Int)+1))) (some (dep:Int)))=some (d':Int)∧d'≤dep+1:=by
      by_cases hh:(a.length:Int)=v
      ·rw [if_pos hh,decide_eq_true hh,WQ (by omega)];exact ⟨dep+1,rfl,rfl,Nat.le_refl _⟩
      ·rw [if_neg hh,decide_eq_false hh,Wt (by omega) (by omega)];exact ⟨dep,by omega,rfl,by omega⟩
     rw [hd2]
     simp only [Option.bind_some]
     rw [hd1]
     obtain ⟨e',w1,w2,w3⟩:=walk_eq V P root n x d' c (by omega) (by omega) (by omega)
     unfold m91f3_k0
     rw [w1]
     simp only [Option.bind_some]
     by_cases he':e'=0
     ·rw [w2 he']
      subst he'
      refine .inr ⟨(),c+x.num,Z,Z,?_⟩
      rw [hI,List.map_append,List.sum_append];simp;omega
     ·obtain ⟨c',w4⟩:=w3 he'
      rw [w4,Ud he']
      exact .inl ⟨_,_,Z,Z,.inr ⟨e',c',he',Z,Z⟩⟩)
    (fun _ c hI=>⟨_,_,by unfold Kw;rw [Jm];rfl,by unfold Kb;dsimp only;rw [Jm];rfl,.inl ⟨rfl,by rw [hI,t.num_eq];congr 2;omega⟩⟩) () (cnt+1) (by simp)
   have e1':QE (Kw t (JQ U4 n) (dep:Int) (max V 0) P 0 0) QV 0=some r1:=e1
   have e2':QE (Kb t v (dep:Int) (JQ KR n) root 0 (Kl V P) root) QV (0,((cnt+1:Nat):Int))=some r2:=e2
   rw [e1',e2']
   rcases e3 with ⟨rfl,rfl⟩ | ⟨e',c',he',rfl,rfl⟩
   ·exact ⟨0,rfl,fun _=>rfl,fun h=>(h rfl).elim⟩
   ·exact ⟨e',rfl,fun h=>(he' h).elim,fun _=>⟨c',rfl⟩⟩
  ·rw [if_neg he]
   refine ⟨e,Z,fun h=>(he h).elim,fun _=>⟨(cnt:Int),?_⟩⟩
   simp only [Option.bind_some,Ud he,cond_true];rfl
theorem m66_eq (t:Tm) (V P:Int) (h:t.size≤900000000):∃ e,DG t V P 0 0=some e∧DL t V P 0 0=some e:=by
 obtain ⟨e,h1,h2,h3⟩:=walk_eq V P t QV t 0 0 (by unfold QV;omega) (by omega) (by omega)
 obtain ⟨d,h4⟩:=depth_some QV t (by unfold QV;omega) h
 have h5:DN t=some (t.num:Int):=num_walk QV t (by unfold QV;omega) h
 have h6:m56 t=some d:=h4
 have h1':m100 t 0 (max V 0) P 0 0=some e:=h1
 have h7:∀ r,JQ KR QV (t,((0:Nat):Int),t,0,Kl V P,((0:Nat):Int),t)=some r→m91f3 t 0 t 0 (⟨(max V 0),(max P 0),(max 0 0),(max 0 0)⟩:Scp) 0 t=some r:=fun r h=>h
 unfold DG DL
 rw [h1',m81_eq,h5,h6]
 by_cases he:e=0
 ·have h8:=h7 _ (h2 he)
  rw [h8]
  subst he
  show ∃ e,cond (decide (4096 < (t.num:Int))) (some 5) (cond (decide (200 < d)) (some 7) (some 0))=some e∧cond (decide (4096 < ((0+t.num:Nat):Int))) (some 5) (cond (decide (200 < d)) (some 7) (some 0))=some e
  rw [Nat.zero_add]
  cases decide (4096 < (t.num:Int)) with
  | true=>exact ⟨5,rfl,rfl⟩
  | false=>cases decide (200 < d) <;> exact ⟨_,rfl,rfl⟩
 ·obtain ⟨c,h9⟩:=h3 he
  rw [h7 _ h9]
  simp only [Option.bind_some,Ud he,cond_true]
  exact ⟨e,Z,Z⟩
end Go.Proofs.Ytafddfoefeploaa
namespace Go.Proofs.Ytafddfoefeploaa
open Go.RowKit Go.Shelf
set_option linter.unusedSimpArgs false
set_option linter.unusedVariables false
theorem fo_116_0:J0 Try.prog 116 0=some 0:=by kernel_rfl
theorem ZS:J0 Try.prog 116 1=some 1:=by kernel_rfl
theorem fo_116_2:J0 Try.prog 116 2=some 2:=by kernel_rfl
theorem Z0:JG Try.prog 116=some (true,25):=by kernel_rfl
theorem bd_74:Y4 Try.prog 74 [(0,1),(1,5),(6,1),(7,1)] [.int .i64 0,.int .i64 0,.int .i64 0,.string ByteArray.empty,.slice none 0 0,.slice none 0 0,.int .i64 0,.slice none 0 0]:=⟨by kernel_rfl,by kernel_rfl⟩
theorem en_50:QZ Try.prog 50:=enters_of Try.func50 (by kernel_rfl) rfl
theorem en_51:QZ Try.prog 51:=enters_of Try.func51 (by kernel_rfl) rfl
theorem en_52:QZ Try.prog 52:=enters_of Try.func52 (by kernel_rfl) rfl
theorem en_69:QZ Try.prog 69:=enters_of Try.func69 (by kernel_rfl) rfl
theorem en_70:QZ Try.prog 70:=enters_of Try.func70 (by kernel_rfl) rfl
theorem en_72:QZ Try.prog 72:=enters_of Try.func72 (by kernel_rfl) rfl
theorem en_73:QZ Try.prog 73:=enters_of Try.func73 (by kernel_rfl) rfl
theorem en_84:QZ Try.prog 84:=enters_of Try.func84 (by kernel_rfl) rfl
theorem en_87:QZ Try.prog 87:=enters_of Try.func87 (by kernel_rfl) rfl
theorem en_88:QZ Try.prog 88:=enters_of Try.func88 (by kernel_rfl) rfl
theorem en_101:QZ Try.prog 101:=enters_of Try.func101 (by kernel_rfl) rfl
def m101_k0 (p0_:Bool) (p1_:(List Tm)×Int×Int×Bs×(List Lvl)×(List Tm)):Option (LO ((List Tm)×Int×Int×Bs×(List Lvl)×(List Tm)) (((List Tm)×Int×Int×Bs×(List Lvl)×(List Tm)))) :=
 cond p0_
   (Option.bind (JX p1_.2.2.2.2.2 0) fun (b0_:Tm) =>
 Jv (Nat.ble (p1_.1.length+([b0_]).length) 1000000000)
 (Option.bind (JX p1_.2.2.2.2.2 1) fun (b1_:Tm) =>
 some (.next ((p1_.1++([b0_])),b1_.kind,b1_.index,b1_.name,b1_.levels,b1_.kids))))
   (some (.done (p1_.1,p1_.2.1,p1_.2.2.1,p1_.2.2.2.1,p1_.2.2.2.2.1,p1_.2.2.2.2.2)))
def K6  (s1:(List Tm)×Int×Int×Bs×(List Lvl)×(List Tm)):Option (LO ((List Tm)×Int×Int×Bs×(List Lvl)×(List Tm)) (((List Tm)×Int×Int×Bs×(List Lvl)×(List Tm)))) :=
 Option.bind (cond (s1.2.1==6)
   (some ((s1.2.2.2.2.2.length:Int)==2))
   (some false)) (fun (v2:Bool)=>m101_k0 v2 s1)
def m101 (a0:Tm):Option ((List Tm)×Tm) :=
 Option.bind (QE (K6) QV (([]:List Tm),a0.kind,a0.index,a0.name,a0.levels,a0.kids)) (fun (o1:(List Tm)×Int×Int×Bs×(List Lvl)×(List Tm))=>some (o1.1,(Tm.mk o1.2.1 o1.2.2.1 o1.2.2.2.1 o1.2.2.2.2.1 o1.2.2.2.2.2)))
theorem m101_ok (a0:Tm) (r:(List Tm)×Tm) (h0:m101 a0=some r):Fun Try.prog 101 [.agg (cE a0)] (QM [.one (dS r.1),.agg (cE r.2)]):=by
 unfold m101 at h0
 refine QB 9 27 Try.func101 Z en_101 Z (lb Z) (fun S w=>?_)
 simp only [J5]
 refine Q4<|Q0<|Qa Z Z (lb Z) (QN Z)<|rA Z Z Z<|Qa Z Z (lb Z) (Qu KN Z)<|Q5<|Q3<|Q4<|Q0<|rA Z Z Z<|Q5<|Q3<|Q4<|Ql ?_
 refine QS 0 (fun (o1:(List Tm)×Int×Int×Bs×(List Lvl)×(List Tm))=>⟨[(1,.v (.one (.ptr 0 0))),(3,.v (.one (.ptr 1 0))),(4,.v (.one (dA 2 o1.1)))],[(0,.cells 33 [dI o1.2.1,dI o1.2.2.1,J3 o1.2.2.2.1,dS o1.2.2.2.2.1,dS o1.2.2.2.2.2]),(1,.cells 33 [dI 0,dI 0,J3 ([]:List UInt8),dN,dN])],[(2,some ⟨33,5,(Enc.encL o1.1).length,[]⟩)],3,27,[]⟩) (fun (o1:(List Tm)×Int×Int×Bs×(List Lvl)×(List Tm))=>(some (o1.1,(Tm.mk o1.2.1 o1.2.2.1 o1.2.2.2.1 o1.2.2.2.2.1 o1.2.2.2.2.2)))=some r) ?_ ?_
 refine XC.adoptT (t:=4) 33 5 Z ?_
 refine Qc h0 (fun o2 hl1 h0=>?_)
 refine QR (K6) (fun s1=>⟨[(1,.v (.one (.ptr 0 0))),(3,.v (.one (.ptr 1 0))),(4,.v (.one (dA 2 s1.1)))],[(0,.cells 33 [dI s1.2.1,dI s1.2.2.1,J3 s1.2.2.2.1,dS s1.2.2.2.2.1,dS s1.2.2.2.2.2]),(1,.cells 33 [dI 0,dI 0,J3 ([]:List UInt8),dN,dN])],[(2,some ⟨33,5,(Enc.encL s1.1).length,[]⟩)],3,27,[]⟩) (([]:List Tm),a0.kind,a0.index,a0.name,a0.levels,a0.kids) o2 (DV (Nat.zero_le _) Z Z Z Z Z) hl1 (fun s1 n1 oo1 h1 ho1=>?_)
 unfold K6 at h1
 refine Q4<|Q4 ?_
 refine QC (fun (v3:Bool)=>⟨[(1,.v (.one (.ptr 0 0))),(3,.v (.one (.ptr 1 0))),(4,.v (.one (dA 2 s1.1))),(13,.v (.one (dB v3)))],[(0,.cells 33 [dI s1.2.1,dI s1.2.2.1,J3 s1.2.2.2.1,dS s1.2.2.2.2.1,dS s1.2.2.2.2.2]),(1,.cells 33 [dI 0,dI 0,J3 ([]:List UInt8),dN,dN])],[(2,some ⟨33,5,(Enc.encL s1.1).length,[]⟩)],3,27,[]⟩) (fun (v3:Bool)=>(m101_k0 v3 s1)=some oo1) ?_ ?_
 refine Qc h1 (fun w2_ h2 h1=>?_)
 refine Q0<|DY Z Z Z (Q2 JD Z)<|DY Z Z Z (Q6 QI Z Z Z)<|DY Z Z Z (Q7 Z Z Z)<|DZ Z Z Z ?_
 refine Qv (d:=8) (c:=(s1.2.1==6)) Z (fun c4=>?_) (fun c4=>?_)
 replace h2:=Qf c4 h2
 refine DY Z Z Z (Q2 Js Z)<|DY Z Z Z (Q6 JH Z Z Z)<|DY Z Z Z (Qx (α:=Tm) Jk Z (.d _))<|DY Z Z Z (Q7 Z Z Z)<|DY Z Z Z (Qd Z Z)<|Q5 ?_
 have e:=DW h2;subst e
 exact Q9 ((s1.2.2.2.2.2.length:Int)==2) (DV (Nat.zero_le _) Z Z Z Z Z) h1
 replace h2:=Qg c4 h2
 refine Q8 Z Z<|Q8 Z Z<|Q8 Z Z<|Q8 Z Z<|DY Z Z Z (Qb Z Z)<|Q5 ?_
 have e:=DW h2;subst e
 exact Q9 false (DV (Nat.zero_le _) Z Z Z Z Z) h1
 intro v3 h1
 unfold m101_k0 at h1
 refine Q3 ?_
 refine Qe (b:=v3) Z (fun c5=>?_) (fun c5=>?_)
 replace h1:=Qf c5 h1
 refine Qh<|Q3<|Ql<|Q4<|Q0<|DZ Z Z Z<|DY Z Z Z (Q2 Js Z)<|DY Z Z Z (Q6 JH Z Z Z) ?_
 refine Qc h1 (fun x6 hx6 h1=>?_)
 refine DY Z Z Z (Qt (α:=Tm) Jk Z (.d _) Z hx6)<|DY Z Z Z (Qw (x6:Tm) QU Z)<|Qa Z Z (lb Z) (JO (α:=Tm) (x6) Jk KN Z Z (lb Z) (lb Z) Z Z (.cons (.d _) (.cons (.d _) (.cons (.d _) (.cons (.d _) (.cons (.d _) .nil))))) Z) ?_
 refine Yo h1 (fun g7 h1=>?_)
 refine Qa Z Z (lb Z) (Yv (α:=Tm) Jk el_33 Z Z Z Z Z (.app _ _) g7)<|rA Z Z Z<|Q5<|Q3<|Q0<|DY Z Z Z (Q2 Js Z)<|DY Z Z Z (Q6 JH Z Z Z) ?_
 refine Qc h1 (fun x8 hx8 h1=>?_)
 refine DY Z Z Z (Qt (α:=Tm) Jk Z (.d _) Z hx8)<|DY Z Z Z (Qw (x8:Tm) QU Z)<|QA Z Z (QD (x8:Tm) QU Z Z Z Z Z)<|Q5<|Qj ?_
 have e:=DW h1;subst e
 refine QL ((s1.1++([x6])),x8.kind,x8.index,x8.name,x8.levels,x8.kids) (DV (Nat.zero_le _) Z Z Z Z Z) ho1
 replace h1:=Qg c5 h1
 refine QW<|Qq<|Qq ?_
 have e:=DW h1;subst e
 have e_:_=_:=ho1
 subst e_
 exact QQ (s1.1,s1.2.1,s1.2.2.1,s1.2.2.2.1,s1.2.2.2.2.1,s1.2.2.2.2.2) (DV (Nat.zero_le _) Z Z Z Z Z) h0
 intro o1 h0
 refine QF<|Q3<|Q4 ?_
 refine J6 [3] [] JT (by kernel_rfl) (by kernel_rfl) (by kernel_rfl) ?_
 refine RunA.rd Z Z Z (Q1 (Qr Z)) Z<|RunA.rd Z Z Z (Q1 (Qk QU Z Z Z Z)) Z<|RunA.rd Z Z Z (Q1 (Jf Z)) Z<|RunA.eff Z Z Z (Qz QU Z Z Z Z (lb Z) Z) Z ?_
 refine RunA.nil ⟨?ex,_,_,Z,?_⟩
 case ex=>exact trivial
 refine Jo (st':=⟨[(2,.v (.one (dA 2 o1.1))),(3,.v (.one (.ptr 1 0)))],[(0,.cells 33 [dI o1.2.1,dI o1.2.2.1,J3 o1.2.2.2.1,dS o1.2.2.2.2.1,dS o1.2.2.2.2.2]),(1,.cells 33 [dI o1.2.1,dI o1.2.2.1,J3 o1.2.2.2.1,dS o1.2.2.2.2.1,dS o1.2.2.2.2.2])],[(2,some ⟨33,5,(Enc.encL o1.1).length,[]⟩)],3,27,[]⟩) (DV (Nat.zero_le _) Z Z Z Z Z)<|Q3<|Qp ?_
 have e:=DW h0;subst e
 exact Qo (fun _ _ h=>h) Z (Qn Z (Y8 QU Z Z Z Z .nil)) (.cons (.one (.app _ _ _)) (.cons (.agg (.cons (.d _) (.cons (.d _) (.cons (.d _) (.cons (.d _) (.cons (.d _) .nil)))))) .nil))
def UW (a0:Tm):Option Bool :=
 Option.bind (Dq a0 (Tm.mk 0 0 ([]:List UInt8) ([]:List Lvl) ([]:List Tm))) fun (x1:Bool) =>
 some x1
theorem WA (a0:Tm) (r:Bool) (h0:UW a0=some r):Fun Try.prog 69 [.agg (cE a0)] (QM [.one (dB r)]):=by
 unfold UW at h0
 refine QB 9 6 Try.func69 Z en_69 Z (lb Z) (fun S w=>?_)
 simp only [J5]
 refine Q4<|Q0<|Qa Z Z (lb Z) (QN Z)<|rA Z Z Z<|Q5<|Q3<|Q4<|Q0<|DY Z Z Z (QH (a0:Tm) QU Z Z)<|DY Z Z Z (ZG Uy Z ) ?_
 refine Qc h0 (fun x1 hx1 h0=>?_)
 refine Qa Z Z (lb Z) (Qi (m27_ok a0 (Tm.mk 0 0 ([]:List UInt8) ([]:List Lvl) ([]:List Tm)) x1 hx1) Z (.cons (.agg (.cons (.d _) (.cons (.d _) (.cons (.d _) (.cons (.d _) (.cons (.d _) .nil)))))) (.cons (.agg (.cons (.d _) (.cons (.d _) (.cons (.d _) (.cons (.nil _) (.cons (.nil _) .nil)))))) .nil)))<|rA Z Z Z<|Q5<|Q3<|Qp ?_
 have e:=DW h0;subst e
 exact Qo (fun _ _ h=>h) Z (Qn Z .nil) (.cons (.one (.d _)) .nil)
def Gq  (s1:Int×Int×Int×Bs×(List Lvl)×(List Tm)):Option (LO (Int×Int×Int×Bs×(List Lvl)×(List Tm)) ((Int×Int×Int×Bs×(List Lvl)×(List Tm)))) :=
 Option.bind (cond (s1.2.1==6)
   (some ((s1.2.2.2.2.2.length:Int)==2))
   (some false)) (fun (v2:Bool)=>cond v2
   (Option.bind (JX s1.2.2.2.2.2 1) fun (x4:Tm) =>
 some (.next ((Jb (s1.1+1)),x4.kind,x4.index,x4.name,x4.levels,x4.kids)))
   (some (.done (s1.1,s1.2.1,s1.2.2.1,s1.2.2.2.1,s1.2.2.2.2.1,s1.2.2.2.2.2))))
def Di (a0:Tm):Option Int :=
 Option.bind (QE (Gq) QV (0,a0.kind,a0.index,a0.name,a0.levels,a0.kids)) (fun (o1:Int×Int×Int×Bs×(List Lvl)×(List Tm))=>some o1.1)
theorem m84_ok (a0:Tm) (r:Int) (h0:Di a0=some r):Fun Try.prog 84 [.agg (cE a0)] (QM [.one (dI r)]):=by
 unfold Di at h0
 refine QB 9 20 Try.func84 Z en_84 Z (lb Z) (fun S w=>?_)
 simp only [J5]
 refine Q4<|Q0<|Qa Z Z (lb Z) (QN Z)<|rA Z Z Z<|Q5<|Q3<|Q4<|Q0<|rA Z Z Z<|Q5<|Q3<|Q4<|Ql ?_
 refine QS 0 (fun (o1:Int×Int×Int×Bs×(List Lvl)×(List Tm))=>⟨[(3,.v (.one (dI o1.1)))],[(0,.cells 33 [dI o1.2.1,dI o1.2.2.1,J3 o1.2.2.2.1,dS o1.2.2.2.2.1,dS o1.2.2.2.2.2])],[],1,20,[]⟩) (fun (o1:Int×Int×Int×Bs×(List Lvl)×(List Tm))=>(some o1.1)=some r) ?_ ?_
 refine Qc h0 (fun o2 hl1 h0=>?_)
 refine QR (Gq) (fun s1=>⟨[(1,.v (.one (.ptr 0 0))),(3,.v (.one (dI s1.1)))],[(0,.cells 33 [dI s1.2.1,dI s1.2.2.1,J3 s1.2.2.2.1,dS s1.2.2.2.2.1,dS s1.2.2.2.2.2])],[],1,20,[]⟩) (0,a0.kind,a0.index,a0.name,a0.levels,a0.kids) o2 (DV (Nat.zero_le _) Z Z Z Z Z) hl1 (fun s1 n1 oo1 h1 ho1=>?_)
 unfold Gq at h1
 refine Q4<|Q4 ?_
 refine QC (fun (v3:Bool)=>⟨[(1,.v (.one (.ptr 0 0))),(3,.v (.one (dI s1.1))),(12,.v (.one (dB v3)))],[(0,.cells 33 [dI s1.2.1,dI s1.2.2.1,J3 s1.2.2.2.1,dS s1.2.2.2.2.1,dS s1.2.2.2.2.2])],[],1,20,[]⟩) (fun (v3:Bool)=>(cond v3
     (Option.bind (JX s1.2.2.2.2.2 1) fun (x5:Tm) =>
   some (.next ((Jb (s1.1+1)),x5.kind,x5.index,x5.name,x5.levels,x5.kids)))
     (some (.done (s1.1,s1.2.1,s1.2.2.1,s1.2.2.2.1,s1.2.2.2.2.1,s1.2.2.2.2.2))))=some oo1) ?_ ?_
 refine Qc h1 (fun w2_ h2 h1=>?_)
 refine Q0<|DY Z Z Z (Q2 JD Z)<|DY Z Z Z (Q6 QI Z Z Z)<|DY Z Z Z (Q7 Z Z Z)<|DZ Z Z Z ?_
 refine Qv (d:=7) (c:=(s1.2.1==6)) Z (fun c4=>?_) (fun c4=>?_)
 replace h2:=Qf c4 h2
 refine DY Z Z Z (Q2 Js Z)<|DY Z Z Z (Q6 JH Z Z Z)<|DY Z Z Z (Qx (α:=Tm) Jk Z (.d _))<|DY Z Z Z (Q7 Z Z Z)<|DY Z Z Z (Qd Z Z)<|Q5 ?_
 have e:=DW h2;subst e
 exact Q9 ((s1.2.2.2.2.2.length:Int)==2) (DV (Nat.zero_le _) Z Z Z Z Z) h1
 replace h2:=Qg c4 h2
 refine Q8 Z Z<|Q8 Z Z<|Q8 Z Z<|Q8 Z Z<|DY Z Z Z (Qb Z Z)<|Q5 ?_
 have e:=DW h2;subst e
 exact Q9 false (DV (Nat.zero_le _) Z Z Z Z Z) h1
 intro v3 h1
 refine Q3 ?_
 refine Qe (b:=v3) Z (fun c5=>?_) (fun c5=>?_)
 replace h1:=Qf c5 h1
 refine Qh<|Q3<|Ql<|Q4<|Q0<|DZ Z Z Z<|DY Z Z Z (Q7 Z Z Z)<|rA Z Z Z<|Q5<|Q3<|Q0<|DY Z Z Z (Q2 Js Z)<|DY Z Z Z (Q6 JH Z Z Z) ?_
 refine Qc h1 (fun x6 hx6 h1=>?_)
 refine DY Z Z Z (Qt (α:=Tm) Jk Z (.d _) Z hx6)<|DY Z Z Z (Qw (x6:Tm) QU Z)<|QA Z Z (QD (x6:Tm) QU Z Z Z Z Z)<|Q5<|Qj ?_
 have e:=DW h1;subst e
 refine QL ((Jb (s1.1+1)),x6.kind,x6.index,x6.name,x6.levels,x6.kids) (DV (Nat.zero_le _) Z Z Z Z Z) ho1
 replace h1:=Qg c5 h1
 refine QW<|Qq<|Qq ?_
 have e:=DW h1;subst e
 have e_:_=_:=ho1
 subst e_
 exact QQ (s1.1,s1.2.1,s1.2.2.1,s1.2.2.2.1,s1.2.2.2.2.1,s1.2.2.2.2.2) (DV (Nat.zero_le _) Z Z Z Z Z) h0
 intro o1 h0
 refine QF<|Q3<|Q4<|Q0<|DZ Z Z Z<|rA Z Z Z<|Q5<|Q3<|Qp ?_
 have e:=DW h0;subst e
 exact Qo (fun _ _ h=>h) Z (Qn Z .nil) (.cons (.one (.d _)) .nil)
def Xf (a0:Dcl) (s1:Bool×Int):Option (LO (Bool×Int) Bool) :=
 cond (decide (s1.2 < (a0.ctors.length:Int)))
   (Option.bind (cond s1.1
   (Option.bind (JX a0.ctors s1.2) fun (x6:Ctr) =>
 Option.bind (Di x6.ty) fun (x7:Int) =>
 some (decide (a0.fixed≤x7)))
   (some false)) (fun (v4:Bool)=>some (.next (v4,(Jb (s1.2+1))))))
   (some (.done s1.1))
def Dw (a0:Dcl):Option Bool :=
 Option.bind (Di a0.ty) fun (x1:Int) =>
 Option.bind (QE (Xf a0) QV ((decide (a0.fixed≤x1)),0)) (fun (o2:Bool)=>some o2)
theorem m70_ok (a0:Dcl) (r:Bool) (h0:Dw a0=some r):Fun Try.prog 70 [.agg (cE a0)] (QM [.one (dB r)]):=by
 unfold Dw at h0
 refine QB 9 32 Try.func70 Z en_70 Z (lb Z) (fun S w=>?_)
 simp only [J5]
 refine Q4<|Q0<|Qa Z Z (lb Z) (QN Z)<|rA Z Z Z<|Q5<|Q3<|Q4 ?_
 refine J6 [] [] JT (by kernel_rfl) (by kernel_rfl) (by kernel_rfl) ?_
 refine RunA.rd Z Z Z (Q1 (Q2 Zt Z)) Z<|RunA.rd Z Z Z (Q1 (Qk QU Z Z Z Z)) Z ?_
 refine Qc h0 (fun x1 hx1 h0=>?_)
 refine RunA.rd Z Z Z (Qi (m84_ok a0.ty x1 hx1) Z (.cons (.agg (.cons (.d _) (.cons (.d _) (.cons (.d _) (.cons (.d _) (.cons (.d _) .nil)))))) .nil)) Z<|RunA.rd Z Z Z (Q1 (Q2 KA Z)) Z<|RunA.rd Z Z Z (Q1 (Q6 QI Z Z Z)) Z<|RunA.rd Z Z Z (Q1 (Q7 Z Z Z)) Z<|RunA.rd Z Z Z (Q1 (Jf Z)) Z ?_
 refine RunA.nil ⟨?ex,_,_,Z,?_⟩
 case ex=>exact trivial
 refine Jo (st':=⟨[(1,.v (.one (.ptr 0 0))),(3,.v (.one (dB (decide (a0.fixed≤x1)))))],[(0,.cells 45 (cE a0))],[],1,32,[]⟩) (DV (Nat.zero_le _) Z Z Z Z Z)<|Q3<|Q4<|Q4<|Q0<|rA Z Z Z<|Q5<|Q3<|Ql ?_
 refine QS 0 (fun (o2:Bool)=>⟨[(3,.v (.one (dB o2)))],[(0,.cells 45 (cE a0))],[],1,32,[]⟩) (fun (o2:Bool)=>(some o2)=some r) ?_ ?_
 refine Qc h0 (fun o3 hl1 h0=>?_)
 refine QR (Xf a0) (fun s1=>⟨[(1,.v (.one (.ptr 0 0))),(3,.v (.one (dB s1.1))),(4,.v (.one (dI s1.2)))],[(0,.cells 45 (cE a0))],[],1,32,[]⟩) ((decide (a0.fixed≤x1)),0) o3 (DV (Nat.zero_le _) Z Z Z Z Z) hl1 (fun s1 n1 oo1 h1 ho1=>?_)
 unfold Xf at h1
 refine Q4<|Q4<|Q0<|DZ Z Z Z<|DY Z Z Z (Q2 JC Z)<|DY Z Z Z (Q6 Ys Z Z Z)<|DY Z Z Z (Qx (α:=Ctr) Y1 Z (.d _))<|DY Z Z Z (Q7 Z Z Z)<|Q5<|Q3 ?_
 refine Qe (b:=(decide (s1.2 < (a0.ctors.length:Int)))) Z (fun c4=>?_) (fun c4=>?_)
 replace h1:=Qf c4 h1
 refine Qh<|Q3<|Q4<|Ql ?_
 refine QC (fun (v5:Bool)=>⟨[(1,.v (.one (.ptr 0 0))),(3,.v (.one (dB v5))),(4,.v (.one (dI s1.2)))],[(0,.cells 45 (cE a0))],[],1,32,[]⟩) (fun (v5:Bool)=>(some (.next (v5,(Jb (s1.2+1)))))=some oo1) ?_ ?_
 refine Qc h1 (fun w2_ h2 h1=>?_)
 refine J6 [] [] JT (by kernel_rfl) (by kernel_rfl) (by kernel_rfl) ?_
 refine RunA.rd Z Z Z (Q1 (Qr Z)) Z ?_
 refine JN (c:=s1.1) Z Z Z (Q1 (Qr Z)) Z (fun c6=>?_) (fun c6=>?_)
 replace h2:=Qf c6 h2
 refine RunA.rd Z Z Z (Q1 (Q2 JC Z)) Z<|RunA.rd Z Z Z (Q1 (Q6 Ys Z Z Z)) Z<|RunA.rd Z Z Z (Q1 (Qr Z)) Z ?_
 refine Qc h2 (fun x7 hx7 h2=>?_)
 refine RunA.rd Z Z Z (Q1 (Qt (α:=Ctr) Y1 Z (.d _) Z hx7)) Z<|RunA.rd Z Z Z (Q1 (J8 Zk Z)) Z<|RunA.rd Z Z Z (Q1 (Jw QU Z Z Z)) Z ?_
 refine Qc h2 (fun x8 hx8 h2=>?_)
 refine RunA.rd Z Z Z (Qi (m84_ok x7.ty x8 hx8) Z (.cons (.agg (.cons (.d _) (.cons (.d _) (.cons (.d _) (.cons (.d _) (.cons (.d _) .nil)))))) .nil)) Z<|RunA.rd Z Z Z (Q1 (Q2 KA Z)) Z<|RunA.rd Z Z Z (Q1 (Q6 QI Z Z Z)) Z<|RunA.rd Z Z Z (Q1 (Q7 Z Z Z)) Z<|RunA.rd Z Z Z (Q1 (Qd Z Z)) Z<|RunA.rd Z Z Z (Q1 (Jf Z)) Z ?_
 refine RunA.nil ⟨?ex,_,_,Z,?_⟩
 case ex=>exact trivial
 have e:=DW h2;subst e
 exact Q9 (decide (a0.fixed≤x8)) (DV (Nat.zero_le _) Z Z Z Z Z) h1
 replace h2:=Qg c6 h2
 refine RunA.no Z Z Z Z<|RunA.no Z Z Z Z<|RunA.no Z Z Z Z<|RunA.no Z Z Z Z<|RunA.no Z Z Z Z<|RunA.no Z Z Z Z<|RunA.no Z Z Z Z<|RunA.no Z Z Z Z<|RunA.no Z Z Z Z<|RunA.no Z Z Z Z<|RunA.rd Z Z Z (Q1 (Qb Z Z)) Z<|RunA.rd Z Z Z (Q1 (Jf Z)) Z ?_
 refine RunA.nil ⟨?ex,_,_,Z,?_⟩
 case ex=>exact trivial
 have e:=DW h2;subst e
 exact Q9 false (DV (Nat.zero_le _) Z Z Z Z Z) h1
 intro v5 h1
 refine Qj<|Q3<|Q0<|DZ Z Z Z<|DY Z Z Z (Q7 Z Z Z)<|rA Z Z Z<|Q5 ?_
 have e:=DW h1;subst e
 refine QL (v5,(Jb (s1.2+1))) (DV (Nat.zero_le _) Z Z Z Z Z) ho1
 replace h1:=Qg c4 h1
 refine QW<|Qq<|Qq ?_
 have e:=DW h1;subst e
 have e_:_=_:=ho1
 subst e_
 exact QQ s1.1 (DV (Nat.zero_le _) Z Z Z Z Z) h0
 intro o2 h0
 refine QF<|Q3<|Q4<|Q0<|DZ Z Z Z<|rA Z Z Z<|Q5<|Q3<|Qp ?_
 have e:=DW h0;subst e
 exact Qo (fun _ _ h=>h) Z (Qn Z .nil) (.cons (.one (.d _)) .nil)
def m50_k0 (p0_:Bool) (p1_:Bool) (p2_:Dcl):Option Bool :=
 cond p0_
   (Option.bind (cond p1_
   (some ((p2_.funs.length:Int)==0))
   (some false)) (fun (b0_:Bool)=>some b0_))
   (cond (p2_.kind==3)
   (Option.bind (Option.bind (UW p2_.value) fun (b1_:Bool) =>
 cond b1_
   (some ((p2_.funs.length:Int)==0))
   (some false)) (fun (b2_:Bool)=>some b2_))
   (Option.bind (cond (p2_.name==([]:List UInt8))
   (Option.bind (UW p2_.ty) fun (b3_:Bool) =>
 cond b3_
   (Option.bind (UW p2_.value) fun (b4_:Bool) =>
 cond b4_
   (some p1_)
   (some false))
   (some false))
   (some false)) (fun (b5_:Bool)=>some b5_)))
def WY (p0_:Dcl) (p1_:Bool):Option Bool :=
 cond (p0_.kind==0)
   (Option.bind (Option.bind (UW p0_.value) fun (b0_:Bool) =>
 cond b0_
   (cond p1_
   (some ((p0_.funs.length:Int)==0))
   (some false))
   (some false)) (fun (b1_:Bool)=>some b1_))
   (Option.bind (cond (p0_.kind==1)
   (some (p0_.kind==1))
   (some (p0_.kind==2))) (fun (b2_:Bool)=>m50_k0 b2_ p1_ p0_))
def DP (a0:Dcl):Option Bool :=
 Option.bind (cond (a0.rcr.params==0)
   (Option.bind (UW a0.rcr.ty) fun (x3:Bool) =>
 cond x3
   (some ((a0.rcr.rules.length:Int)==0))
   (some false))
   (some false)) (fun (v1:Bool)=>Option.bind (cond (a0.fixed==0)
   (cond ((a0.ctors.length:Int)==0)
   (some v1)
   (some false))
   (some false)) (fun (v2:Bool)=>WY a0 v2))
theorem m50_ok (a0:Dcl) (r:Bool) (h0:DP a0=some r):Fun Try.prog 50 [.agg (cE a0)] (QM [.one (dB r)]):=by
 unfold DP at h0
 refine QB 9 87 Try.func50 Z en_50 Z (lb Z) (fun S w=>?_)
 simp only [J5]
 refine Q4<|Q0<|Qa Z Z (lb Z) (QN Z)<|rA Z Z Z<|Q5<|Q3<|Q4 ?_
 refine QC (fun (v1:Bool)=>⟨[(1,.v (.one (.ptr 0 0))),(3,.v (.one (dB v1)))],[(0,.cells 45 (cE a0))],[],1,87,[]⟩) (fun (v1:Bool)=>(Option.bind (cond (a0.fixed==0)
     (cond ((a0.ctors.length:Int)==0)
     (some v1)
     (some false))
     (some false)) (fun (v2:Bool)=>WY a0 v2))=some r) ?_ ?_
 refine Qc h0 (fun w1_ h1 h0=>?_)
 refine Q0<|DY Z Z Z (Q2 Jn Z)<|DY Z Z Z (Q2 YS Z)<|DY Z Z Z (Q6 QI Z Z Z)<|DY Z Z Z (Q7 Z Z Z)<|DZ Z Z Z ?_
 refine Qv (d:=9) (c:=(a0.rcr.params==0)) Z (fun c2=>?_) (fun c2=>?_)
 replace h1:=Qf c2 h1
 refine DY Z Z Z (Q2 Jn Z)<|DY Z Z Z (Q2 ZR Z)<|DY Z Z Z (Qk QU Z Z Z Z) ?_
 refine Qc h1 (fun x3 hx3 h1=>?_)
 refine Qa Z Z (lb Z) (Qi (WA a0.rcr.ty x3 hx3) Z (.cons (.agg (.cons (.d _) (.cons (.d _) (.cons (.d _) (.cons (.d _) (.cons (.d _) .nil)))))) .nil))<|DY Z Z Z (Qd Z Z)<|DZ Z Z Z ?_
 refine Qv (d:=15) (c:=x3) Z (fun c4=>?_) (fun c4=>?_)
 replace h1:=Qf c4 h1
 refine DY Z Z Z (Q2 Jn Z)<|DY Z Z Z (Q2 Zd Z)<|DY Z Z Z (Q6 JH Z Z Z)<|DY Z Z Z (Qx (α:=Tm) Jk Z (.d _))<|DY Z Z Z (Q7 Z Z Z)<|DY Z Z Z (Qd Z Z)<|rA Z Z Z<|Q5 ?_
 have e:=DW h1;subst e
 exact Q9 ((a0.rcr.rules.length:Int)==0) (DV (Nat.zero_le _) Z Z Z Z Z) h0
 replace h1:=Qg c4 h1
 refine Q8 Z Z<|Q8 Z Z<|Q8 Z Z<|Q8 Z Z<|Q8 Z Z<|DY Z Z Z (Qb Z Z)<|rA Z Z Z<|Q5 ?_
 have e:=DW h1;subst e
 exact Q9 false (DV (Nat.zero_le _) Z Z Z Z Z) h0
 replace h1:=Qg c2 h1
 refine Q8 Z Z<|Q8 Z Z<|Q8 Z Z<|Q8 Z Z<|DY Z Z Z (Qb Z Z)<|DZ Z Z Z<|Q8 Z Z<|Q8 Z Z<|Q8 Z Z<|Q8 Z Z<|Q8 Z Z<|DY Z Z Z (Qb Z Z)<|rA Z Z Z<|Q5 ?_
 have e:=DW h1;subst e
 exact Q9 false (DV (Nat.zero_le _) Z Z Z Z Z) h0
 intro v1 h0
 refine Q3<|Q4 ?_
 refine QC (fun (v5:Bool)=>⟨[(1,.v (.one (.ptr 0 0))),(4,.v (.one (dB v5)))],[(0,.cells 45 (cE a0))],[],1,87,[]⟩) (fun (v5:Bool)=>(WY a0 v5)=some r) ?_ ?_
 refine Qc h0 (fun w1_ h1 h0=>?_)
 refine Q0<|DY Z Z Z (Q2 KA Z)<|DY Z Z Z (Q6 QI Z Z Z)<|DY Z Z Z (Q7 Z Z Z)<|DZ Z Z Z ?_
 refine Qv (d:=25) (c:=(a0.fixed==0)) Z (fun c6=>?_) (fun c6=>?_)
 replace h1:=Qf c6 h1
 refine DY Z Z Z (Q2 JC Z)<|DY Z Z Z (Q6 Ys Z Z Z)<|DY Z Z Z (Qx (α:=Ctr) Y1 Z (.d _))<|DY Z Z Z (Q7 Z Z Z)<|DY Z Z Z (Qd Z Z)<|DZ Z Z Z ?_
 refine Qv (d:=31) (c:=((a0.ctors.length:Int)==0)) Z (fun c7=>?_) (fun c7=>?_)
 replace h1:=Qf c7 h1
 refine DZ Z Z Z<|DY Z Z Z (Qd Z Z)<|rA Z Z Z<|Q5 ?_
 have e:=DW h1;subst e
 exact Q9 v1 (DV (Nat.zero_le _) Z Z Z Z Z) h0
 replace h1:=Qg c7 h1
 refine Q8 Z Z<|DY Z Z Z (Qb Z Z)<|rA Z Z Z<|Q5 ?_
 have e:=DW h1;subst e
 exact Q9 false (DV (Nat.zero_le _) Z Z Z Z Z) h0
 replace h1:=Qg c6 h1
 refine Q8 Z Z<|Q8 Z Z<|Q8 Z Z<|Q8 Z Z<|DY Z Z Z (Qb Z Z)<|DZ Z Z Z<|Q8 Z Z<|DY Z Z Z (Qb Z Z)<|rA Z Z Z<|Q5 ?_
 have e:=DW h1;subst e
 exact Q9 false (DV (Nat.zero_le _) Z Z Z Z Z) h0
 intro v5 h0
 unfold WY at h0
 refine Q3<|Q4<|Q4<|Q0<|DY Z Z Z (Q2 JP Z)<|DY Z Z Z (Q6 QI Z Z Z)<|Q5<|Q3<|Ql<|Q4<|Q0<|DY Z Z Z (Q7 Z Z Z)<|rA Z Z Z<|Q5 ?_
 refine Q3 ?_
 refine Qe (b:=(a0.kind==0)) Z (fun c8=>?_) (fun c8=>?_)
 replace h0:=Qf c8 h0
 refine Q4 ?_
 refine QC (fun (v9:Bool)=>⟨[(2,.v (.one (dB v9)))],[(0,.cells 45 (cE a0))],[],1,87,[]⟩) (fun (v9:Bool)=>(some v9)=some r) ?_ ?_
 refine Qc h0 (fun w1_ h1 h0=>?_)
 refine Q0<|DY Z Z Z (Q2 Gk Z)<|DY Z Z Z (Qk QU Z Z Z Z) ?_
 refine Qc h1 (fun x10 hx10 h1=>?_)
 refine Qa Z Z (lb Z) (Qi (WA a0.value x10 hx10) Z (.cons (.agg (.cons (.d _) (.cons (.d _) (.cons (.d _) (.cons (.d _) (.cons (.d _) .nil)))))) .nil))<|DZ Z Z Z ?_
 refine Qv (d:=41) (c:=x10) Z (fun c11=>?_) (fun c11=>?_)
 replace h1:=Qf c11 h1
 refine DZ Z Z Z<|DY Z Z Z (Qd Z Z)<|DZ Z Z Z ?_
 refine Qv (d:=44) (c:=v5) Z (fun c12=>?_) (fun c12=>?_)
 replace h1:=Qf c12 h1
 refine DY Z Z Z (Q2 Jr Z)<|DY Z Z Z (Q6 Ya Z Z Z)<|DY Z Z Z (Qx (α:=Fn) JR Z (.d _))<|DY Z Z Z (Q7 Z Z Z)<|DY Z Z Z (Qd Z Z)<|rA Z Z Z<|Q5 ?_
 have e:=DW h1;subst e
 exact Q9 ((a0.funs.length:Int)==0) (DV (Nat.zero_le _) Z Z Z Z Z) h0
 replace h1:=Qg c12 h1
 refine Q8 Z Z<|Q8 Z Z<|Q8 Z Z<|Q8 Z Z<|DY Z Z Z (Qb Z Z)<|rA Z Z Z<|Q5 ?_
 have e:=DW h1;subst e
 exact Q9 false (DV (Nat.zero_le _) Z Z Z Z Z) h0
 replace h1:=Qg c11 h1
 refine Q8 Z Z<|DY Z Z Z (Qb Z Z)<|DZ Z Z Z<|Q8 Z Z<|Q8 Z Z<|Q8 Z Z<|Q8 Z Z<|DY Z Z Z (Qb Z Z)<|rA Z Z Z<|Q5 ?_
 have e:=DW h1;subst e
 exact Q9 false (DV (Nat.zero_le _) Z Z Z Z Z) h0
 intro v9 h0
 refine Q3<|Qp ?_
 have e:=DW h0;subst e
 exact Qo (fun _ _ h=>h) Z (Qn Z .nil) (.cons (.one (.d _)) .nil)
 replace h0:=Qg c8 h0
 refine Q4<|Q4<|Q0<|DY Z Z Z (Q7 Z Z Z)<|rA Z Z Z<|Q5<|Q3 ?_
 refine QC (fun (v13:Bool)=>⟨[(1,.v (.one (.ptr 0 0))),(4,.v (.one (dB v5))),(35,.v (.one (dI a0.kind))),(50,.v (.one (dB v13)))],[(0,.cells 45 (cE a0))],[],1,87,[]⟩) (fun (v13:Bool)=>(m50_k0 v13 v5 a0)=some r) ?_ ?_
 refine Qc h0 (fun w1_ h1 h0=>?_)
 refine Qe (b:=(a0.kind==1)) Z (fun c14=>?_) (fun c14=>?_)
 replace h1:=Qf c14 h1
 refine Qh ?_
 have e:=DW h1;subst e
 exact Q9 (a0.kind==1) (DV (Nat.zero_le _) Z Z Z Z Z) h0
 replace h1:=Qg c14 h1
 refine Q0<|DY Z Z Z (Q7 Z Z Z)<|rA Z Z Z<|Q5 ?_
 have e:=DW h1;subst e
 exact Q9 (a0.kind==2) (DV (Nat.zero_le _) Z Z Z Z Z) h0
 intro v13 h0
 unfold m50_k0 at h0
 refine Q3 ?_
 refine Qe (b:=v13) Z (fun c15=>?_) (fun c15=>?_)
 replace h0:=Qf c15 h0
 refine Q4 ?_
 refine QC (fun (v16:Bool)=>⟨[(2,.v (.one (dB v16)))],[(0,.cells 45 (cE a0))],[],1,87,[]⟩) (fun (v16:Bool)=>(some v16)=some r) ?_ ?_
 refine Qc h0 (fun w1_ h1 h0=>?_)
 refine Q0<|DZ Z Z Z<|DZ Z Z Z ?_
 refine Qv (d:=54) (c:=v5) Z (fun c17=>?_) (fun c17=>?_)
 replace h1:=Qf c17 h1
 refine DY Z Z Z (Q2 Jr Z)<|DY Z Z Z (Q6 Ya Z Z Z)<|DY Z Z Z (Qx (α:=Fn) JR Z (.d _))<|DY Z Z Z (Q7 Z Z Z)<|DY Z Z Z (Qd Z Z)<|rA Z Z Z<|Q5 ?_
 have e:=DW h1;subst e
 exact Q9 ((a0.funs.length:Int)==0) (DV (Nat.zero_le _) Z Z Z Z Z) h0
 replace h1:=Qg c17 h1
 refine Q8 Z Z<|Q8 Z Z<|Q8 Z Z<|Q8 Z Z<|DY Z Z Z (Qb Z Z)<|rA Z Z Z<|Q5 ?_
 have e:=DW h1;subst e
 exact Q9 false (DV (Nat.zero_le _) Z Z Z Z Z) h0
 intro v16 h0
 refine Q3<|Qp ?_
 have e:=DW h0;subst e
 exact Qo (fun _ _ h=>h) Z (Qn Z .nil) (.cons (.one (.d _)) .nil)
 replace h0:=Qg c15 h0
 refine Q4<|Q0<|DY Z Z Z (Q7 Z Z Z)<|rA Z Z Z<|Q5<|Q3 ?_
 refine Qe (b:=(a0.kind==3)) Z (fun c18=>?_) (fun c18=>?_)
 replace h0:=Qf c18 h0
 refine Q4 ?_
 refine QC (fun (v19:Bool)=>⟨[(2,.v (.one (dB v19)))],[(0,.cells 45 (cE a0))],[],1,87,[]⟩) (fun (v19:Bool)=>(some v19)=some r) ?_ ?_
 refine Qc h0 (fun w1_ h1 h0=>?_)
 refine Q0<|DY Z Z Z (Q2 Gk Z)<|DY Z Z Z (Qk QU Z Z Z Z) ?_
 refine Qc h1 (fun x20 hx20 h1=>?_)
 refine Qa Z Z (lb Z) (Qi (WA a0.value x20 hx20) Z (.cons (.agg (.cons (.d _) (.cons (.d _) (.cons (.d _) (.cons (.d _) (.cons (.d _) .nil)))))) .nil))<|DZ Z Z Z ?_
 refine Qv (d:=65) (c:=x20) Z (fun c21=>?_) (fun c21=>?_)
 replace h1:=Qf c21 h1
 refine DY Z Z Z (Q2 Jr Z)<|DY Z Z Z (Q6 Ya Z Z Z)<|DY Z Z Z (Qx (α:=Fn) JR Z (.d _))<|DY Z Z Z (Q7 Z Z Z)<|DY Z Z Z (Qd Z Z)<|rA Z Z Z<|Q5 ?_
 have e:=DW h1;subst e
 exact Q9 ((a0.funs.length:Int)==0) (DV (Nat.zero_le _) Z Z Z Z Z) h0
 replace h1:=Qg c21 h1
 refine Q8 Z Z<|Q8 Z Z<|Q8 Z Z<|Q8 Z Z<|DY Z Z Z (Qb Z Z)<|rA Z Z Z<|Q5 ?_
 have e:=DW h1;subst e
 exact Q9 false (DV (Nat.zero_le _) Z Z Z Z Z) h0
 intro v19 h0
 refine Q3<|Qp ?_
 have e:=DW h0;subst e
 exact Qo (fun _ _ h=>h) Z (Qn Z .nil) (.cons (.one (.d _)) .nil)
 replace h0:=Qg c18 h0
 refine Qh<|Qj<|Q3<|Q4 ?_
 refine QC (fun (v22:Bool)=>⟨[(2,.v (.one (dB v22)))],[(0,.cells 45 (cE a0))],[],1,87,[]⟩) (fun (v22:Bool)=>(some v22)=some r) ?_ ?_
 refine Qc h0 (fun w1_ h1 h0=>?_)
 refine Q0<|DY Z Z Z (Q2 JU Z)<|DY Z Z Z (Q6 JK Z Z Z)<|DY Z Z Z (Zy Z Z)<|DZ Z Z Z ?_
 refine Qv (d:=74) (c:=(a0.name==([]:List UInt8))) Z (fun c23=>?_) (fun c23=>?_)
 replace h1:=Qf c23 h1
 refine DY Z Z Z (Q2 Zt Z)<|DY Z Z Z (Qk QU Z Z Z Z) ?_
 refine Qc h1 (fun x24 hx24 h1=>?_)
 refine Qa Z Z (lb Z) (Qi (WA a0.ty x24 hx24) Z (.cons (.agg (.cons (.d _) (.cons (.d _) (.cons (.d _) (.cons (.d _) (.cons (.d _) .nil)))))) .nil))<|DY Z Z Z (Qd Z Z)<|DZ Z Z Z ?_
 refine Qv (d:=79) (c:=x24) Z (fun c25=>?_) (fun c25=>?_)
 replace h1:=Qf c25 h1
 refine DY Z Z Z (Q2 Gk Z)<|DY Z Z Z (Qk QU Z Z Z Z) ?_
 refine Qc h1 (fun x26 hx26 h1=>?_)
 refine Qa Z Z (lb Z) (Qi (WA a0.value x26 hx26) Z (.cons (.agg (.cons (.d _) (.cons (.d _) (.cons (.d _) (.cons (.d _) (.cons (.d _) .nil)))))) .nil))<|DY Z Z Z (Qd Z Z)<|DZ Z Z Z ?_
 refine Qv (d:=84) (c:=x26) Z (fun c27=>?_) (fun c27=>?_)
 replace h1:=Qf c27 h1
 refine DZ Z Z Z<|DY Z Z Z (Qd Z Z)<|rA Z Z Z<|Q5 ?_
 have e:=DW h1;subst e
 exact Q9 v5 (DV (Nat.zero_le _) Z Z Z Z Z) h0
 replace h1:=Qg c27 h1
 refine Q8 Z Z<|DY Z Z Z (Qb Z Z)<|rA Z Z Z<|Q5 ?_
 have e:=DW h1;subst e
 exact Q9 false (DV (Nat.zero_le _) Z Z Z Z Z) h0
 replace h1:=Qg c25 h1
 refine Q8 Z Z<|Q8 Z Z<|Q8 Z Z<|DY Z Z Z (Qb Z Z)<|DZ Z Z Z<|Q8 Z Z<|DY Z Z Z (Qb Z Z)<|rA Z Z Z<|Q5 ?_
 have e:=DW h1;subst e
 exact Q9 false (DV (Nat.zero_le _) Z Z Z Z Z) h0
 replace h1:=Qg c23 h1
 refine Q8 Z Z<|Q8 Z Z<|Q8 Z Z<|DY Z Z Z (Qb Z Z)<|DZ Z Z Z<|Q8 Z Z<|Q8 Z Z<|Q8 Z Z<|DY Z Z Z (Qb Z Z)<|DZ Z Z Z<|Q8 Z Z<|DY Z Z Z (Qb Z Z)<|rA Z Z Z<|Q5 ?_
 have e:=DW h1;subst e
 exact Q9 false (DV (Nat.zero_le _) Z Z Z Z Z) h0
 intro v22 h0
 refine Q3<|Qp ?_
 have e:=DW h0;subst e
 exact Qo (fun _ _ h=>h) Z (Qn Z .nil) (.cons (.one (.d _)) .nil)
def Xk (a0:Dcl) (s1:Int):Option (LO Int (Unit⊕Int)) :=
 cond (decide (s1 < (a0.funs.length:Int)))
   (Option.bind (Option.bind (JX a0.funs s1) fun (x8:Fn) =>
 cond (decide (x8.arity < 1))
   (some true)
   (Option.bind (JX a0.funs s1) fun (x10:Fn) =>
 some (decide (16 < x10.arity)))) (fun (v7:Bool)=>cond v7
   (some (.done (.inr 3)))
   (some (.next (Jb (s1+1))))))
   (some (.done (.inl ())))
def XY (p0_:Dcl):Option Int :=
 Option.bind (cond (p0_.kind==3)
   (cond (p0_.rcr.params != p0_.params)
   (cond (p0_.rcr.params != (Jb (p0_.params+1)))
   (some true)
   (cond ((p0_.rcr.rules.length:Int) != (p0_.ctors.length:Int))
   (some true)
   (Option.bind (Dw p0_) fun (b0_:Bool) =>
 some (!b0_))))
   (cond ((p0_.rcr.rules.length:Int) != (p0_.ctors.length:Int))
   (some true)
   (Option.bind (Dw p0_) fun (b1_:Bool) =>
 some (!b1_))))
   (some false)) (fun (b2_:Bool)=>cond b2_
   (some 3)
   (some 0))
def WX (p0_:Bool) (p1_:Dcl):Option Int :=
 cond p0_
   (some 2)
   (Option.bind (cond (decide (32 < (p1_.ctors.length:Int)))
   (some true)
   (cond (p1_.kind==4)
   (cond (decide ((p1_.funs.length:Int) < 1))
   (some true)
   (some (decide (8 < (p1_.funs.length:Int)))))
   (some false))) (fun (b0_:Bool)=>cond b0_
   (some 6)
   (Option.bind (QE (Xk p1_) QV 0) (Sum.elim (fun (b1_:Unit)=>XY p1_) (fun o=>some o)))))
def DO (a0:Dcl):Option Int :=
 Option.bind (cond (decide (a0.params < 0))
   (some true)
   (cond (decide (8 < a0.params))
   (some true)
   (some (decide (a0.fixed < 0))))) (fun (v1:Bool)=>WX v1 a0)
theorem m51_ok (a0:Dcl) (r:Int) (h0:DO a0=some r):Fun Try.prog 51 [.agg (cE a0)] (QM [.one (dI r)]):=by
 unfold DO at h0
 refine QB 9 96 Try.func51 Z en_51 Z (lb Z) (fun S w=>?_)
 simp only [J5]
 refine Q4<|Q0<|Qa Z Z (lb Z) (QN Z)<|rA Z Z Z<|Q5<|Q3<|Q4<|Q4 ?_
 refine QC (fun (v1:Bool)=>⟨[(1,.v (.one (.ptr 0 0))),(16,.v (.one (dB v1)))],[(0,.cells 45 (cE a0))],[],1,96,[]⟩) (fun (v1:Bool)=>(WX v1 a0)=some r) ?_ ?_
 refine Qc h0 (fun w1_ h1 h0=>?_)
 refine Q0<|DY Z Z Z (Q2 Jx Z)<|DY Z Z Z (Q6 QI Z Z Z)<|DY Z Z Z (Q7 Z Z Z)<|DZ Z Z Z ?_
 refine Qv (d:=7) (c:=(decide (a0.params < 0))) Z (fun c2=>?_) (fun c2=>?_)
 replace h1:=Qf c2 h1
 refine Q8 Z Z<|Q8 Z Z<|Q8 Z Z<|DY Z Z Z (Qd Z Z)<|DZ Z Z Z<|Q8 Z Z<|Q8 Z Z<|Q8 Z Z<|DY Z Z Z (Qd Z Z)<|Q5 ?_
 have e:=DW h1;subst e
 exact Q9 true (DV (Nat.zero_le _) Z Z Z Z Z) h0
 replace h1:=Qg c2 h1
 refine DY Z Z Z (Q2 Jx Z)<|DY Z Z Z (Q6 QI Z Z Z)<|DY Z Z Z (Q7 Z Z Z)<|DY Z Z Z (Qb Z Z)<|DZ Z Z Z ?_
 refine Qv (d:=12) (c:=(decide (8 < a0.params))) Z (fun c3=>?_) (fun c3=>?_)
 replace h1:=Qf c3 h1
 refine Q8 Z Z<|Q8 Z Z<|Q8 Z Z<|DY Z Z Z (Qd Z Z)<|Q5 ?_
 have e:=DW h1;subst e
 exact Q9 true (DV (Nat.zero_le _) Z Z Z Z Z) h0
 replace h1:=Qg c3 h1
 refine DY Z Z Z (Q2 KA Z)<|DY Z Z Z (Q6 QI Z Z Z)<|DY Z Z Z (Q7 Z Z Z)<|DY Z Z Z (Qb Z Z)<|Q5 ?_
 have e:=DW h1;subst e
 exact Q9 (decide (a0.fixed < 0)) (DV (Nat.zero_le _) Z Z Z Z Z) h0
 intro v1 h0
 unfold WX at h0
 refine Q3 ?_
 refine Qe (b:=v1) Z (fun c4=>?_) (fun c4=>?_)
 replace h0:=Qf c4 h0
 refine Q4<|Q0<|rA Z Z Z<|Q5<|Q3<|Qp ?_
 have e:=DW h0;subst e
 exact Qo (fun _ _ h=>h) Z (Qn Z .nil) (.cons (.one (.d _)) .nil)
 replace h0:=Qg c4 h0
 refine Qh<|Q3<|Q4<|Q4 ?_
 refine QC (fun (v5:Bool)=>⟨[(1,.v (.one (.ptr 0 0))),(37,.v (.one (dB v5)))],[(0,.cells 45 (cE a0))],[],1,96,[]⟩) (fun (v5:Bool)=>(cond v5
     (some 6)
     (Option.bind (QE (Xk a0) QV 0) (Sum.elim (fun (o7:Unit)=>XY a0) (fun o=>some o))))=some r) ?_ ?_
 refine Qc h0 (fun w1_ h1 h0=>?_)
 refine Q0<|DY Z Z Z (Q2 JC Z)<|DY Z Z Z (Q6 Ys Z Z Z)<|DY Z Z Z (Qx (α:=Ctr) Y1 Z (.d _))<|DY Z Z Z (Q7 Z Z Z)<|DZ Z Z Z ?_
 refine Qv (d:=21) (c:=(decide (32 < (a0.ctors.length:Int)))) Z (fun c6=>?_) (fun c6=>?_)
 replace h1:=Qf c6 h1
 refine Q8 Z Z<|Q8 Z Z<|Q8 Z Z<|Q8 Z Z<|Q8 Z Z<|Q8 Z Z<|Q8 Z Z<|Q8 Z Z<|Q8 Z Z<|Q8 Z Z<|Q8 Z Z<|Q8 Z Z<|Q8 Z Z<|Q8 Z Z ?_
 refine Q8 Z Z<|DY Z Z Z (Qd Z Z)<|Q5 ?_
 have e:=DW h1;subst e
 exact Q9 true (DV (Nat.zero_le _) Z Z Z Z Z) h0
 replace h1:=Qg c6 h1
 refine DY Z Z Z (Q2 JP Z)<|DY Z Z Z (Q6 QI Z Z Z)<|DY Z Z Z (Q7 Z Z Z)<|DZ Z Z Z ?_
 refine Qv (d:=25) (c:=(a0.kind==4)) Z (fun c7=>?_) (fun c7=>?_)
 replace h1:=Qf c7 h1
 refine DY Z Z Z (Q2 Jr Z)<|DY Z Z Z (Q6 Ya Z Z Z)<|DY Z Z Z (Qx (α:=Fn) JR Z (.d _))<|DY Z Z Z (Q7 Z Z Z)<|DZ Z Z Z ?_
 refine Qv (d:=30) (c:=(decide ((a0.funs.length:Int) < 1))) Z (fun c8=>?_) (fun c8=>?_)
 replace h1:=Qf c8 h1
 refine Q8 Z Z<|Q8 Z Z<|Q8 Z Z<|Q8 Z Z<|DY Z Z Z (Qd Z Z)<|DY Z Z Z (Qd Z Z)<|DY Z Z Z (Qb Z Z)<|Q5 ?_
 have e:=DW h1;subst e
 exact Q9 true (DV (Nat.zero_le _) Z Z Z Z Z) h0
 replace h1:=Qg c8 h1
 refine DY Z Z Z (Q2 Jr Z)<|DY Z Z Z (Q6 Ya Z Z Z)<|DY Z Z Z (Qx (α:=Fn) JR Z (.d _))<|DY Z Z Z (Q7 Z Z Z)<|DY Z Z Z (Qb Z Z)<|DY Z Z Z (Qd Z Z)<|DY Z Z Z (Qb Z Z)<|Q5 ?_
 have e:=DW h1;subst e
 exact Q9 (decide (8 < (a0.funs.length:Int))) (DV (Nat.zero_le _) Z Z Z Z Z) h0
 replace h1:=Qg c7 h1
 refine Q8 Z Z<|Q8 Z Z<|Q8 Z Z<|Q8 Z Z<|Q8 Z Z<|Q8 Z Z<|Q8 Z Z<|Q8 Z Z<|Q8 Z Z<|Q8 Z Z<|DY Z Z Z (Qb Z Z)<|DY Z Z Z (Qb Z Z)<|Q5 ?_
 have e:=DW h1;subst e
 exact Q9 false (DV (Nat.zero_le _) Z Z Z Z Z) h0
 intro v5 h0
 refine Q3 ?_
 refine Qe (b:=v5) Z (fun c9=>?_) (fun c9=>?_)
 replace h0:=Qf c9 h0
 refine Q4<|Q0<|rA Z Z Z<|Q5<|Q3<|Qp ?_
 have e:=DW h0;subst e
 exact Qo (fun _ _ h=>h) Z (Qn Z .nil) (.cons (.one (.d _)) .nil)
 replace h0:=Qg c9 h0
 refine Qh<|Q3<|Q4<|Q4<|Q0<|rA Z Z Z<|Q5<|Q3<|Ql ?_
 refine QS 0 (fun (o10:Unit)=>⟨[(1,.v (.one (.ptr 0 0)))],[(0,.cells 45 (cE a0))],[],1,96,[]⟩) (fun (o10:Unit)=>(XY a0)=some r) ?_ ?_
 refine Qc h0 (fun o11 hl1 h0=>?_)
 refine QR (Xk a0) (fun s1=>⟨[(1,.v (.one (.ptr 0 0))),(3,.v (.one (dI s1)))],[(0,.cells 45 (cE a0))],[],1,96,[]⟩) 0 o11 (DV (Nat.zero_le _) Z Z Z Z Z) hl1 (fun s1 n1 oo1 h1 ho1=>?_)
 unfold Xk at h1
 refine Q4<|Q4<|Q0<|DZ Z Z Z<|DY Z Z Z (Q2 Jr Z)<|DY Z Z Z (Q6 Ya Z Z Z)<|DY Z Z Z (Qx (α:=Fn) JR Z (.d _))<|DY Z Z Z (Q7 Z Z Z)<|Q5<|Q3 ?_
 refine Qe (b:=(decide (s1 < (a0.funs.length:Int)))) Z (fun c12=>?_) (fun c12=>?_)
 replace h1:=Qf c12 h1
 refine Qh<|Q3<|Q4<|Ql<|Q4 ?_
 refine QC (fun (v13:Bool)=>⟨[(1,.v (.one (.ptr 0 0))),(3,.v (.one (dI s1))),(60,.v (.one (dB v13)))],[(0,.cells 45 (cE a0))],[],1,96,[]⟩) (fun (v13:Bool)=>(cond v13
     (some (.done (.inr 3)))
     (some (.next (Jb (s1+1)))))=some oo1) ?_ ?_
 refine Qc h1 (fun w2_ h2 h1=>?_)
 refine Q0<|DY Z Z Z (Q2 Jr Z)<|DY Z Z Z (Q6 Ya Z Z Z)<|DZ Z Z Z ?_
 refine Qc h2 (fun x14 hx14 h2=>?_)
 refine DY Z Z Z (Qt (α:=Fn) JR Z (.d _) Z hx14)<|DY Z Z Z (J8 X2 Z)<|DY Z Z Z (Ji QI Z Z)<|DY Z Z Z (Q7 Z Z Z)<|DZ Z Z Z ?_
 refine Qv (d:=52) (c:=(decide (x14.arity < 1))) Z (fun c15=>?_) (fun c15=>?_)
 replace h2:=Qf c15 h2
 refine Q8 Z Z<|Q8 Z Z<|Q8 Z Z<|Q8 Z Z<|Q8 Z Z<|Q8 Z Z<|Q8 Z Z<|DY Z Z Z (Qd Z Z)<|Q5 ?_
 have e:=DW h2;subst e
 exact Q9 true (DV (Nat.zero_le _) Z Z Z Z Z) h1
 replace h2:=Qg c15 h2
 refine DY Z Z Z (Q2 Jr Z)<|DY Z Z Z (Q6 Ya Z Z Z)<|DZ Z Z Z ?_
 refine Qc h2 (fun x16 hx16 h2=>?_)
 refine DY Z Z Z (Qt (α:=Fn) JR Z (.d _) Z hx16)<|DY Z Z Z (J8 X2 Z)<|DY Z Z Z (Ji QI Z Z)<|DY Z Z Z (Q7 Z Z Z)<|DY Z Z Z (Qb Z Z)<|Q5 ?_
 have e:=DW h2;subst e
 exact Q9 (decide (16 < x16.arity)) (DV (Nat.zero_le _) Z Z Z Z Z) h1
 intro v13 h1
 refine Q3 ?_
 refine Qe (b:=v13) Z (fun c17=>?_) (fun c17=>?_)
 replace h1:=Qf c17 h1
 refine Q4<|Q0<|rA Z Z Z<|Q5<|Q3<|Qp ?_
 have e:=DW h1;subst e
 have e_:_=_:=ho1
 subst e_
 try dsimp only [Sum.elim_inl,Sum.elim_inr] at h0
 have e:=DW h0;subst e
 exact Qo (fun _ _ h=>h) Z (Qn Z .nil) (.cons (.one (.d _)) .nil)
 replace h1:=Qg c17 h1
 refine Qh<|Qj<|Q3<|Q0<|DZ Z Z Z<|DY Z Z Z (Q7 Z Z Z)<|rA Z Z Z<|Q5 ?_
 have e:=DW h1;subst e
 refine QL (Jb (s1+1)) (DV (Nat.zero_le _) Z Z Z Z Z) ho1
 replace h1:=Qg c12 h1
 refine QW<|Qq<|Qq ?_
 have e:=DW h1;subst e
 have e_:_=_:=ho1
 subst e_
 exact QQ () (DV (Nat.zero_le _) Z Z Z Z Z) h0
 intro o10 h0
 unfold XY at h0
 refine QF<|Q3<|Q4<|Q4 ?_
 refine QC (fun (v18:Bool)=>⟨[(95,.v (.one (dB v18)))],[(0,.cells 45 (cE a0))],[],1,96,[]⟩) (fun (v18:Bool)=>(cond v18
     (some 3)
     (some 0))=some r) ?_ ?_
 refine Qc h0 (fun w1_ h1 h0=>?_)
 refine Q0<|DY Z Z Z (Q2 JP Z)<|DY Z Z Z (Q6 QI Z Z Z)<|DY Z Z Z (Q7 Z Z Z)<|DZ Z Z Z ?_
 refine Qv (d:=64) (c:=(a0.kind==3)) Z (fun c19=>?_) (fun c19=>?_)
 replace h1:=Qf c19 h1
 refine DY Z Z Z (Q2 Jn Z)<|DY Z Z Z (Q2 YS Z)<|DY Z Z Z (Q6 QI Z Z Z)<|DY Z Z Z (Q2 Jx Z)<|DY Z Z Z (Q6 QI Z Z Z)<|DY Z Z Z (Q7 Z Z Z)<|DZ Z Z Z ?_
 refine Qv (d:=71) (c:=(a0.rcr.params != a0.params)) Z (fun c20=>?_) (fun c20=>?_)
 replace h1:=Qf c20 h1
 refine DY Z Z Z (Q2 Jn Z)<|DY Z Z Z (Q2 YS Z)<|DY Z Z Z (Q6 QI Z Z Z)<|DY Z Z Z (Q2 Jx Z)<|DY Z Z Z (Q6 QI Z Z Z)<|DY Z Z Z (Q7 Z Z Z)<|DY Z Z Z (Q7 Z Z Z)<|DY Z Z Z (Qd Z Z)<|DZ Z Z Z ?_
 refine Qv (d:=80) (c:=(a0.rcr.params != (Jb (a0.params+1)))) Z (fun c21=>?_) (fun c21=>?_)
 replace h1:=Qf c21 h1
 refine Q8 Z Z<|Q8 Z Z<|Q8 Z Z<|Q8 Z Z<|Q8 Z Z<|Q8 Z Z<|Q8 Z Z<|Q8 Z Z<|DY Z Z Z (Qd Z Z)<|DZ Z Z Z<|Q8 Z Z<|Q8 Z Z<|Q8 Z Z<|DY Z Z Z (Qd Z Z) ?_
 refine DY Z Z Z (Qd Z Z)<|Q5 ?_
 have e:=DW h1;subst e
 exact Q9 true (DV (Nat.zero_le _) Z Z Z Z Z) h0
 replace h1:=Qg c21 h1
 refine DY Z Z Z (Q2 Jn Z)<|DY Z Z Z (Q2 Zd Z)<|DY Z Z Z (Q6 JH Z Z Z)<|DY Z Z Z (Qx (α:=Tm) Jk Z (.d _))<|DY Z Z Z (Q2 JC Z)<|DY Z Z Z (Q6 Ys Z Z Z)<|DY Z Z Z (Qx (α:=Ctr) Y1 Z (.d _))<|DY Z Z Z (Q7 Z Z Z)<|DY Z Z Z (Qb Z Z)<|DZ Z Z Z ?_
 refine Qv (d:=90) (c:=((a0.rcr.rules.length:Int) != (a0.ctors.length:Int))) Z (fun c22=>?_) (fun c22=>?_)
 replace h1:=Qf c22 h1
 refine Q8 Z Z<|Q8 Z Z<|Q8 Z Z<|DY Z Z Z (Qd Z Z)<|DY Z Z Z (Qd Z Z)<|Q5 ?_
 have e:=DW h1;subst e
 exact Q9 true (DV (Nat.zero_le _) Z Z Z Z Z) h0
 replace h1:=Qg c22 h1
 refine DY Z Z Z (QH (a0:Dcl) JE Z Z) ?_
 refine Qc h1 (fun x23 hx23 h1=>?_)
 refine Qa Z Z (lb Z) (Qi (m70_ok a0 x23 hx23) Z (.cons (.agg (.cons (.d _) (.cons (.d _) (.cons (.d _) (.cons (.d _) (.cons (.d _) (.cons (.d _) (.cons (.d _) (.cons (.d _) (.cons (.d _) (.cons (.d _) (.cons (.d _) (.cons (.d _) (.cons (.d _) (.cons (.d _) (.cons (.d _) (.cons (.d _) (.cons (.d _) (.cons (.d _) (.cons (.d _) (.cons (.d _) (.cons (.d _) (.cons (.d _) (.cons (.d _) .nil)))))))))))))))))))))))) .nil))<|DY Z Z Z (Jg Z)<|DY Z Z Z (Qb Z Z)<|DY Z Z Z (Qd Z Z)<|Q5 ?_
 have e:=DW h1;subst e
 exact Q9 (!x23) (DV (Nat.zero_le _) Z Z Z Z Z) h0
 replace h1:=Qg c20 h1
 refine Q8 Z Z<|Q8 Z Z<|Q8 Z Z<|Q8 Z Z<|Q8 Z Z<|Q8 Z Z<|Q8 Z Z<|DY Z Z Z (Qb Z Z)<|DZ Z Z Z<|DY Z Z Z (Q2 Jn Z)<|DY Z Z Z (Q2 Zd Z)<|DY Z Z Z (Q6 JH Z Z Z)<|DY Z Z Z (Qx (α:=Tm) Jk Z (.d _))<|DY Z Z Z (Q2 JC Z) ?_
 refine DY Z Z Z (Q6 Ys Z Z Z)<|DY Z Z Z (Qx (α:=Ctr) Y1 Z (.d _))<|DY Z Z Z (Q7 Z Z Z)<|DY Z Z Z (Qb Z Z)<|DZ Z Z Z ?_
 refine Qv (d:=90) (c:=((a0.rcr.rules.length:Int) != (a0.ctors.length:Int))) Z (fun c24=>?_) (fun c24=>?_)
 replace h1:=Qf c24 h1
 refine Q8 Z Z<|Q8 Z Z<|Q8 Z Z<|DY Z Z Z (Qd Z Z)<|DY Z Z Z (Qd Z Z)<|Q5 ?_
 have e:=DW h1;subst e
 exact Q9 true (DV (Nat.zero_le _) Z Z Z Z Z) h0
 replace h1:=Qg c24 h1
 refine DY Z Z Z (QH (a0:Dcl) JE Z Z) ?_
 refine Qc h1 (fun x25 hx25 h1=>?_)
 refine Qa Z Z (lb Z) (Qi (m70_ok a0 x25 hx25) Z (.cons (.agg (.cons (.d _) (.cons (.d _) (.cons (.d _) (.cons (.d _) (.cons (.d _) (.cons (.d _) (.cons (.d _) (.cons (.d _) (.cons (.d _) (.cons (.d _) (.cons (.d _) (.cons (.d _) (.cons (.d _) (.cons (.d _) (.cons (.d _) (.cons (.d _) (.cons (.d _) (.cons (.d _) (.cons (.d _) (.cons (.d _) (.cons (.d _) (.cons (.d _) (.cons (.d _) .nil)))))))))))))))))))))))) .nil))<|DY Z Z Z (Jg Z)<|DY Z Z Z (Qb Z Z)<|DY Z Z Z (Qd Z Z)<|Q5 ?_
 have e:=DW h1;subst e
 exact Q9 (!x25) (DV (Nat.zero_le _) Z Z Z Z Z) h0
 replace h1:=Qg c19 h1
 refine Q8 Z Z<|Q8 Z Z<|Q8 Z Z<|Q8 Z Z<|Q8 Z Z<|Q8 Z Z<|Q8 Z Z<|Q8 Z Z<|Q8 Z Z<|Q8 Z Z<|Q8 Z Z<|Q8 Z Z<|Q8 Z Z<|Q8 Z Z ?_
 refine Q8 Z Z<|Q8 Z Z<|Q8 Z Z<|Q8 Z Z<|Q8 Z Z<|Q8 Z Z<|Q8 Z Z<|Q8 Z Z<|Q8 Z Z<|Q8 Z Z<|Q8 Z Z<|Q8 Z Z<|Q8 Z Z<|Q8 Z Z ?_
 refine Q8 Z Z<|Q8 Z Z<|DY Z Z Z (Qb Z Z)<|Q5 ?_
 have e:=DW h1;subst e
 exact Q9 false (DV (Nat.zero_le _) Z Z Z Z Z) h0
 intro v18 h0
 refine Q3 ?_
 refine Qe (b:=v18) Z (fun c26=>?_) (fun c26=>?_)
 replace h0:=Qf c26 h0
 refine Q4<|Q0<|rA Z Z Z<|Q5<|Q3<|Qp ?_
 have e:=DW h0;subst e
 exact Qo (fun _ _ h=>h) Z (Qn Z .nil) (.cons (.one (.d _)) .nil)
 replace h0:=Qg c26 h0
 refine Qh<|Q3<|Q4<|Q0<|rA Z Z Z<|Q5<|Q3<|Qp ?_
 have e:=DW h0;subst e
 exact Qo (fun _ _ h=>h) Z (Qn Z .nil) (.cons (.one (.d _)) .nil)
def DF (a0:Dcl) (a1:Int):Option Int :=
 Option.bind (JX a0.ctors a1) fun (x1:Ctr) =>
 Option.bind (m101 x1.ty) fun (x2:(List Tm)×Tm) =>
 some (max 0 (Jb ((x2.1.length:Int) - a0.fixed)))
theorem m88_ok (a0:Dcl) (a1:Int) (r:Int) (h0:DF a0 a1=some r):Fun Try.prog 88 [.agg (cE a0),.one (dI a1)] (QM [.one (dI r)]):=by
 unfold DF at h0
 refine QB 9 23 Try.func88 Z en_88 Z (lb Z) (fun S w=>?_)
 simp only [J5]
 refine Q4<|Q0<|Qa Z Z (lb Z) (QN Z)<|rA Z Z Z<|Q5<|Q3<|Q4<|Q0<|DY Z Z Z (Q2 JC Z)<|DY Z Z Z (Q6 Ys Z Z Z)<|DZ Z Z Z ?_
 refine Qc h0 (fun x1 hx1 h0=>?_)
 refine DY Z Z Z (Qt (α:=Ctr) Y1 Z (.d _) Z hx1)<|DY Z Z Z (J8 Zk Z)<|DY Z Z Z (Jw QU Z Z Z) ?_
 refine Qc h0 (fun x2 hx2 h0=>?_)
 refine Qa Z Z (lb Z) (Qi (m101_ok x1.ty x2 hx2) Z (.cons (.agg (.cons (.d _) (.cons (.d _) (.cons (.d _) (.cons (.d _) (.cons (.d _) .nil)))))) .nil))<|DZ Z Z Z<|DY Z Z Z (J2 Z Z)<|DY Z Z Z (J2 Z Z)<|Qa Z Z (lb Z) (Qu KN Z)<|rA Z Z Z<|QA Z Z (QD (x2.2:Tm) QU Z Z Z Z Z)<|Q5<|Q3<|Q4<|Q0<|DZ Z Z Z<|DY Z Z Z (Qx (α:=Tm) Jk Z (.d _))<|DY Z Z Z (Q2 KA Z) ?_
 refine DY Z Z Z (Q6 QI Z Z Z)<|DY Z Z Z (Q7 Z Z Z)<|DY Z Z Z (KC Z Z)<|rA Z Z Z<|Q5<|Q3<|Qp ?_
 have e:=DW h0;subst e
 exact Qo (fun _ _ h=>h) Z (Qn Z .nil) (.cons (.one (.d _)) .nil)
def K1 (a1:Tm) (rc:Rsc×Tm→Option Int) (a0:Rsc) (s1:Int):Option (LO Int (Unit⊕Int)) :=
 cond (decide (s1 < (a1.kids.length:Int)))
   (Option.bind (JX a1.kids s1) fun (x10:Tm) =>
 Option.bind (rc (a0,x10)) fun (x11:Int) =>
 cond (x11 != 0)
   (some (.done (.inr x11)))
   (some (.next (Jb (s1+1)))))
   (some (.done (.inl ())))
def UR (rc:Rsc×Tm→Option Int) (a0:Rsc) (a1:Tm):Option Int :=
 cond (a1.kind==3)
   (Option.bind (Dr a0.env a1.name) fun (x2:Ent×Int) =>
 cond (x2.2 != 0)
   (Option.bind (UM a0.own a1.name) fun (x4:Bool) =>
 cond (!x4)
   (some 9)
   (Option.bind (Dj a0.d (a0.env.length:Int) a1.name) fun (x6:Ent) =>
 cond ((a1.levels.length:Int) != x6.params)
   (some 15)
   (Option.bind (QE (K1 a1 rc a0) QV 0) (Sum.elim (fun (o8:Unit)=>some 0) (fun o=>some o)))))
   (cond ((a1.levels.length:Int) != x2.1.params)
   (some 15)
   (Option.bind (QE (K1 a1 rc a0) QV 0) (Sum.elim (fun (o15:Unit)=>some 0) (fun o=>some o)))))
   (Option.bind (QE (K1 a1 rc a0) QV 0) (Sum.elim (fun (o21:Unit)=>some 0) (fun o=>some o)))
def US (rc:Rsc×Tm→Option Int) (u:Rsc×Tm):Option Int:=UR rc u.1 u.2
def m87 (a0:Rsc) (a1:Tm):Option Int:=JQ US QV (a0,a1)
theorem m87s_ok (rc:Rsc×Tm→Option Int) (H:∀ (a0:Rsc) (a1:Tm) (r:Int),rc (a0,a1)=some r→Fun Try.prog 87 [.agg (cE a0),.agg (cE a1)] (QM [.one (dI r)])) (a0:Rsc) (a1:Tm) (r:Int) (h0:UR rc a0 a1=some r):Fun Try.prog 87 [.agg (cE a0),.agg (cE a1)] (QM [.one (dI r)]):=by
 unfold UR at h0
 refine QB 9 59 Try.func87 Z en_87 Z (lb Z) (fun S w=>?_)
 simp only [J5]
 refine Q4<|Q0<|Qa Z Z (lb Z) (QN Z)<|Qa Z Z (lb Z) (QN Z)<|rA Z Z Z<|Q5<|Q3<|Q4<|Q4<|Q0<|DY Z Z Z (Q2 JD Z)<|DY Z Z Z (Q6 QI Z Z Z)<|DY Z Z Z (Q7 Z Z Z)<|Q5 ?_
 refine Q3 ?_
 refine Qe (b:=(a1.kind==3)) Z (fun c1=>?_) (fun c1=>?_)
 replace h0:=Qf c1 h0
 refine Q4<|Q0<|DY Z Z Z (Q2 fo_116_0 Z)<|DY Z Z Z (Q6 WN Z Z Z)<|DY Z Z Z (Q2 Z3 Z)<|DY Z Z Z (Q6 JK Z Z Z) ?_
 refine Qc h0 (fun x2 hx2 h0=>?_)
 refine Qa Z Z (lb Z) (Qi (m15_ok a0.env a1.name x2 hx2) Z (.cons (.one (.d _)) (.cons (.one (.d _)) .nil)))<|DZ Z Z Z<|DY Z Z Z (J2 Z Z)<|DY Z Z Z (J2 Z Z)<|Qa Z Z (lb Z) (Qu Zg Z)<|QA Z Z (QD (x2.1:Ent) Ja Z Z Z Z Z)<|rA Z Z Z<|Q5<|Q3<|Q4<|Q4<|Q0<|DZ Z Z Z<|DY Z Z Z (Q7 Z Z Z) ?_
 refine Q5<|Q3 ?_
 refine Qe (b:=(x2.2 != 0)) Z (fun c3=>?_) (fun c3=>?_)
 replace h0:=Qf c3 h0
 refine Q4<|Q4<|Q0<|DY Z Z Z (Q2 ZS Z)<|DY Z Z Z (Q6 Ws Z Z Z)<|DY Z Z Z (Q2 Z3 Z)<|DY Z Z Z (Q6 JK Z Z Z) ?_
 refine Qc h0 (fun x4 hx4 h0=>?_)
 refine Qa Z Z (lb Z) (Qi (m33_ok a0.own a1.name x4 hx4) Z (.cons (.one (.d _)) (.cons (.one (.d _)) .nil)))<|DY Z Z Z (Jg Z)<|Q5<|Q3 ?_
 refine Qe (b:=(!x4)) Z (fun c5=>?_) (fun c5=>?_)
 replace h0:=Qf c5 h0
 refine Q4<|Q0<|rA Z Z Z<|Q5<|Q3<|Qp ?_
 have e:=DW h0;subst e
 exact Qo (fun _ _ h=>h) Z (Qn Z .nil) (.cons (.one (.d _)) .nil)
 replace h0:=Qg c5 h0
 refine Qh<|Q3<|Q0<|DY Z Z Z (Q2 fo_116_2 Z)<|DY Z Z Z (Qk JE Z Z Z Z)<|DY Z Z Z (Q2 fo_116_0 Z)<|DY Z Z Z (Q6 WN Z Z Z)<|DY Z Z Z (Qx (α:=Dcl) YP Z (.d _))<|DY Z Z Z (Q2 Z3 Z)<|DY Z Z Z (Q6 JK Z Z Z) ?_
 refine Qc h0 (fun x6 hx6 h0=>?_)
 refine Qa Z Z (lb Z) (Qi (m34_ok a0.d (a0.env.length:Int) a1.name x6 hx6) Z (.cons (.agg (.cons (.d _) (.cons (.d _) (.cons (.d _) (.cons (.d _) (.cons (.d _) (.cons (.d _) (.cons (.d _) (.cons (.d _) (.cons (.d _) (.cons (.d _) (.cons (.d _) (.cons (.d _) (.cons (.d _) (.cons (.d _) (.cons (.d _) (.cons (.d _) (.cons (.d _) (.cons (.d _) (.cons (.d _) (.cons (.d _) (.cons (.d _) (.cons (.d _) (.cons (.d _) .nil)))))))))))))))))))))))) (.cons (.one (.d _)) (.cons (.one (.d _)) .nil))))<|QA Z Z (QD (x6:Ent) Ja Z Z Z Z Z)<|Q5<|Q3<|Q4<|Q0<|DY Z Z Z (Q2 Yu Z)<|DY Z Z Z (Q6 ZU Z Z Z)<|DY Z Z Z (Qx (α:=Lvl) YO Z (.d _))<|DY Z Z Z (Q2 fo_35_3 Z)<|DY Z Z Z (Q6 QI Z Z Z)<|DY Z Z Z (Q7 Z Z Z)<|Q5<|Q3 ?_
 refine Qe (b:=((a1.levels.length:Int) != x6.params)) Z (fun c7=>?_) (fun c7=>?_)
 replace h0:=Qf c7 h0
 refine Q4<|Q0<|rA Z Z Z<|Q5<|Q3<|Qp ?_
 have e:=DW h0;subst e
 exact Qo (fun _ _ h=>h) Z (Qn Z .nil) (.cons (.one (.d _)) .nil)
 replace h0:=Qg c7 h0
 refine Qh<|Q3<|Q4<|Q4<|Q0<|rA Z Z Z<|Q5<|Q3<|Ql ?_
 refine QS 0 (fun (o8:Unit)=>⟨[],[(0,.cells 116 (cE a0)),(1,.cells 33 (cE a1)),(2,.cells 35 (cE x6))],[],3,59,[]⟩) (fun (o8:Unit)=>(some 0)=some r) ?_ ?_
 refine Qc h0 (fun o9 hl1 h0=>?_)
 refine QR (K1 a1 rc a0) (fun s1=>⟨[(2,.v (.one (.ptr 0 0))),(3,.v (.one (.ptr 1 0))),(7,.v (.one (dI s1)))],[(0,.cells 116 (cE a0)),(1,.cells 33 (cE a1)),(2,.cells 35 (cE x6))],[],3,59,[]⟩) 0 o9 (DV (Nat.zero_le _) Z Z Z Z Z) hl1 (fun s1 n1 oo1 h1 ho1=>?_)
 unfold K1 at h1
 refine Q4<|Q4<|Q0<|DZ Z Z Z<|DY Z Z Z (Q2 Js Z)<|DY Z Z Z (Q6 JH Z Z Z)<|DY Z Z Z (Qx (α:=Tm) Jk Z (.d _))<|DY Z Z Z (Q7 Z Z Z)<|Q5<|Q3 ?_
 refine Qe (b:=(decide (s1 < (a1.kids.length:Int)))) Z (fun c10=>?_) (fun c10=>?_)
 replace h1:=Qf c10 h1
 refine Qh<|Q3<|Q4<|Ql<|Q4 ?_
 refine J6 [] [] JT (by kernel_rfl) (by kernel_rfl) (by kernel_rfl) ?_
 refine RunA.rd Z Z Z (Q1 (QH (a0:Rsc) Z0 Z Z)) Z<|RunA.rd Z Z Z (Q1 (Q2 Js Z)) Z<|RunA.rd Z Z Z (Q1 (Q6 JH Z Z Z)) Z<|RunA.rd Z Z Z (Q1 (Qr Z)) Z ?_
 refine Qc h1 (fun x11 hx11 h1=>?_)
 refine RunA.rd Z Z Z (Q1 (Qt (α:=Tm) Jk Z (.d _) Z hx11)) Z<|RunA.rd Z Z Z (Q1 (Qw (x11:Tm) QU Z)) Z ?_
 refine Qc h1 (fun x12 hx12 h1=>?_)
 refine RunA.rd Z Z Z (Qi (H a0 x11 x12 hx12) Z (.cons (.agg (.cons (.d _) (.cons (.d _) (.cons (.d _) (.cons (.d _) (.cons (.d _) (.cons (.d _) (.cons (.d _) (.cons (.d _) (.cons (.d _) (.cons (.d _) (.cons (.d _) (.cons (.d _) (.cons (.d _) (.cons (.d _) (.cons (.d _) (.cons (.d _) (.cons (.d _) (.cons (.d _) (.cons (.d _) (.cons (.d _) (.cons (.d _) (.cons (.d _) (.cons (.d _) (.cons (.d _) (.cons (.d _) .nil)))))))))))))))))))))))))) (.cons (.agg (.cons (.d _) (.cons (.d _) (.cons (.d _) (.cons (.d _) (.cons (.d _) .nil)))))) .nil))) Z<|RunA.rd Z Z Z (Q1 (Jf Z)) Z ?_
 refine RunA.nil ⟨?ex,_,_,Z,?_⟩
 case ex=>exact trivial
 refine Jo (st':=⟨[(2,.v (.one (.ptr 0 0))),(3,.v (.one (.ptr 1 0))),(7,.v (.one (dI s1))),(8,.v (.one (dI x12)))],[(0,.cells 116 (cE a0)),(1,.cells 33 (cE a1)),(2,.cells 35 (cE x6))],[],3,59,[]⟩) (DV (Nat.zero_le _) Z Z Z Z Z)<|Q3<|Q4<|Q0<|DZ Z Z Z<|DY Z Z Z (Q7 Z Z Z)<|Q5<|Q3 ?_
 refine Qe (b:=(x12 != 0)) Z (fun c13=>?_) (fun c13=>?_)
 replace h1:=Qf c13 h1
 refine Q4<|Q0<|DZ Z Z Z<|rA Z Z Z<|Q5<|Q3<|Qp ?_
 have e:=DW h1;subst e
 have e_:_=_:=ho1
 subst e_
 try dsimp only [Sum.elim_inl,Sum.elim_inr] at h0
 have e:=DW h0;subst e
 exact Qo (fun _ _ h=>h) Z (Qn Z .nil) (.cons (.one (.d _)) .nil)
 replace h1:=Qg c13 h1
 refine Qh<|Qj<|Q3<|Q0<|DZ Z Z Z<|DY Z Z Z (Q7 Z Z Z)<|rA Z Z Z<|Q5 ?_
 have e:=DW h1;subst e
 refine QL (Jb (s1+1)) (DV (Nat.zero_le _) Z Z Z Z Z) ho1
 replace h1:=Qg c10 h1
 refine QW<|Qq<|Qq ?_
 have e:=DW h1;subst e
 have e_:_=_:=ho1
 subst e_
 exact QQ () (DV (Nat.zero_le _) Z Z Z Z Z) h0
 intro o8 h0
 refine QF<|Q3<|Q4<|Q0<|rA Z Z Z<|Q5<|Q3<|Qp ?_
 have e:=DW h0;subst e
 exact Qo (fun _ _ h=>h) Z (Qn Z .nil) (.cons (.one (.d _)) .nil)
 replace h0:=Qg c3 h0
 refine Qh<|Q3<|Q4<|Q0<|DY Z Z Z (Q2 Yu Z)<|DY Z Z Z (Q6 ZU Z Z Z)<|DY Z Z Z (Qx (α:=Lvl) YO Z (.d _))<|DY Z Z Z (Q2 fo_35_3 Z)<|DY Z Z Z (Q6 QI Z Z Z)<|DY Z Z Z (Q7 Z Z Z)<|Q5<|Q3 ?_
 refine Qe (b:=((a1.levels.length:Int) != x2.1.params)) Z (fun c14=>?_) (fun c14=>?_)
 replace h0:=Qf c14 h0
 refine Q4<|Q0<|rA Z Z Z<|Q5<|Q3<|Qp ?_
 have e:=DW h0;subst e
 exact Qo (fun _ _ h=>h) Z (Qn Z .nil) (.cons (.one (.d _)) .nil)
 replace h0:=Qg c14 h0
 refine Qh<|Q3<|Q4<|Q4<|Q0<|rA Z Z Z<|Q5<|Q3<|Ql ?_
 refine QS 0 (fun (o15:Unit)=>⟨[],[(0,.cells 116 (cE a0)),(1,.cells 33 (cE a1)),(2,.cells 35 (cE x2.1))],[],3,59,[]⟩) (fun (o15:Unit)=>(some 0)=some r) ?_ ?_
 refine Qc h0 (fun o16 hl1 h0=>?_)
 refine QR (K1 a1 rc a0) (fun s1=>⟨[(2,.v (.one (.ptr 0 0))),(3,.v (.one (.ptr 1 0))),(7,.v (.one (dI s1)))],[(0,.cells 116 (cE a0)),(1,.cells 33 (cE a1)),(2,.cells 35 (cE x2.1))],[],3,59,[]⟩) 0 o16 (DV (Nat.zero_le _) Z Z Z Z Z) hl1 (fun s1 n1 oo1 h1 ho1=>?_)
 unfold K1 at h1
 refine Q4<|Q4<|Q0<|DZ Z Z Z<|DY Z Z Z (Q2 Js Z)<|DY Z Z Z (Q6 JH Z Z Z)<|DY Z Z Z (Qx (α:=Tm) Jk Z (.d _))<|DY Z Z Z (Q7 Z Z Z)<|Q5<|Q3 ?_
 refine Qe (b:=(decide (s1 < (a1.kids.length:Int)))) Z (fun c17=>?_) (fun c17=>?_)
 replace h1:=Qf c17 h1
 refine Qh<|Q3<|Q4<|Ql<|Q4 ?_
 refine J6 [] [] JT (by kernel_rfl) (by kernel_rfl) (by kernel_rfl) ?_
 refine RunA.rd Z Z Z (Q1 (QH (a0:Rsc) Z0 Z Z)) Z<|RunA.rd Z Z Z (Q1 (Q2 Js Z)) Z<|RunA.rd Z Z Z (Q1 (Q6 JH Z Z Z)) Z<|RunA.rd Z Z Z (Q1 (Qr Z)) Z ?_
 refine Qc h1 (fun x18 hx18 h1=>?_)
 refine RunA.rd Z Z Z (Q1 (Qt (α:=Tm) Jk Z (.d _) Z hx18)) Z<|RunA.rd Z Z Z (Q1 (Qw (x18:Tm) QU Z)) Z ?_
 refine Qc h1 (fun x19 hx19 h1=>?_)
 refine RunA.rd Z Z Z (Qi (H a0 x18 x19 hx19) Z (.cons (.agg (.cons (.d _) (.cons (.d _) (.cons (.d _) (.cons (.d _) (.cons (.d _) (.cons (.d _) (.cons (.d _) (.cons (.d _) (.cons (.d _) (.cons (.d _) (.cons (.d _) (.cons (.d _) (.cons (.d _) (.cons (.d _) (.cons (.d _) (.cons (.d _) (.cons (.d _) (.cons (.d _) (.cons (.d _) (.cons (.d _) (.cons (.d _) (.cons (.d _) (.cons (.d _) (.cons (.d _) (.cons (.d _) .nil)))))))))))))))))))))))))) (.cons (.agg (.cons (.d _) (.cons (.d _) (.cons (.d _) (.cons (.d _) (.cons (.d _) .nil)))))) .nil))) Z<|RunA.rd Z Z Z (Q1 (Jf Z)) Z ?_
 refine RunA.nil ⟨?ex,_,_,Z,?_⟩
 case ex=>exact trivial
 refine Jo (st':=⟨[(2,.v (.one (.ptr 0 0))),(3,.v (.one (.ptr 1 0))),(7,.v (.one (dI s1))),(8,.v (.one (dI x19)))],[(0,.cells 116 (cE a0)),(1,.cells 33 (cE a1)),(2,.cells 35 (cE x2.1))],[],3,59,[]⟩) (DV (Nat.zero_le _) Z Z Z Z Z)<|Q3<|Q4<|Q0<|DZ Z Z Z<|DY Z Z Z (Q7 Z Z Z)<|Q5<|Q3 ?_
 refine Qe (b:=(x19 != 0)) Z (fun c20=>?_) (fun c20=>?_)
 replace h1:=Qf c20 h1
 refine Q4<|Q0<|DZ Z Z Z<|rA Z Z Z<|Q5<|Q3<|Qp ?_
 have e:=DW h1;subst e
 have e_:_=_:=ho1
 subst e_
 try dsimp only [Sum.elim_inl,Sum.elim_inr] at h0
 have e:=DW h0;subst e
 exact Qo (fun _ _ h=>h) Z (Qn Z .nil) (.cons (.one (.d _)) .nil)
 replace h1:=Qg c20 h1
 refine Qh<|Qj<|Q3<|Q0<|DZ Z Z Z<|DY Z Z Z (Q7 Z Z Z)<|rA Z Z Z<|Q5 ?_
 have e:=DW h1;subst e
 refine QL (Jb (s1+1)) (DV (Nat.zero_le _) Z Z Z Z Z) ho1
 replace h1:=Qg c17 h1
 refine QW<|Qq<|Qq ?_
 have e:=DW h1;subst e
 have e_:_=_:=ho1
 subst e_
 exact QQ () (DV (Nat.zero_le _) Z Z Z Z Z) h0
 intro o15 h0
 refine QF<|Q3<|Q4<|Q0<|rA Z Z Z<|Q5<|Q3<|Qp ?_
 have e:=DW h0;subst e
 exact Qo (fun _ _ h=>h) Z (Qn Z .nil) (.cons (.one (.d _)) .nil)
 replace h0:=Qg c1 h0
 refine Qh<|Q3<|Q4<|Q4<|Q0<|rA Z Z Z<|Q5<|Q3<|Ql ?_
 refine QS 0 (fun (o21:Unit)=>⟨[],[(0,.cells 116 (cE a0)),(1,.cells 33 (cE a1))],[],2,59,[]⟩) (fun (o21:Unit)=>(some 0)=some r) ?_ ?_
 refine Qc h0 (fun o22 hl1 h0=>?_)
 refine QR (K1 a1 rc a0) (fun s1=>⟨[(2,.v (.one (.ptr 0 0))),(3,.v (.one (.ptr 1 0))),(7,.v (.one (dI s1)))],[(0,.cells 116 (cE a0)),(1,.cells 33 (cE a1))],[],2,59,[]⟩) 0 o22 (DV (Nat.zero_le _) Z Z Z Z Z) hl1 (fun s1 n1 oo1 h1 ho1=>?_)
 unfold K1 at h1
 refine Q4<|Q4<|Q0<|DZ Z Z Z<|DY Z Z Z (Q2 Js Z)<|DY Z Z Z (Q6 JH Z Z Z)<|DY Z Z Z (Qx (α:=Tm) Jk Z (.d _))<|DY Z Z Z (Q7 Z Z Z)<|Q5<|Q3 ?_
 refine Qe (b:=(decide (s1 < (a1.kids.length:Int)))) Z (fun c23=>?_) (fun c23=>?_)
 replace h1:=Qf c23 h1
 refine Qh<|Q3<|Q4<|Ql<|Q4 ?_
 refine J6 [] [] JT (by kernel_rfl) (by kernel_rfl) (by kernel_rfl) ?_
 refine RunA.rd Z Z Z (Q1 (QH (a0:Rsc) Z0 Z Z)) Z<|RunA.rd Z Z Z (Q1 (Q2 Js Z)) Z<|RunA.rd Z Z Z (Q1 (Q6 JH Z Z Z)) Z<|RunA.rd Z Z Z (Q1 (Qr Z)) Z ?_
 refine Qc h1 (fun x24 hx24 h1=>?_)
 refine RunA.rd Z Z Z (Q1 (Qt (α:=Tm) Jk Z (.d _) Z hx24)) Z<|RunA.rd Z Z Z (Q1 (Qw (x24:Tm) QU Z)) Z ?_
 refine Qc h1 (fun x25 hx25 h1=>?_)
 refine RunA.rd Z Z Z (Qi (H a0 x24 x25 hx25) Z (.cons (.agg (.cons (.d _) (.cons (.d _) (.cons (.d _) (.cons (.d _) (.cons (.d _) (.cons (.d _) (.cons (.d _) (.cons (.d _) (.cons (.d _) (.cons (.d _) (.cons (.d _) (.cons (.d _) (.cons (.d _) (.cons (.d _) (.cons (.d _) (.cons (.d _) (.cons (.d _) (.cons (.d _) (.cons (.d _) (.cons (.d _) (.cons (.d _) (.cons (.d _) (.cons (.d _) (.cons (.d _) (.cons (.d _) .nil)))))))))))))))))))))))))) (.cons (.agg (.cons (.d _) (.cons (.d _) (.cons (.d _) (.cons (.d _) (.cons (.d _) .nil)))))) .nil))) Z<|RunA.rd Z Z Z (Q1 (Jf Z)) Z ?_
 refine RunA.nil ⟨?ex,_,_,Z,?_⟩
 case ex=>exact trivial
 refine Jo (st':=⟨[(2,.v (.one (.ptr 0 0))),(3,.v (.one (.ptr 1 0))),(7,.v (.one (dI s1))),(8,.v (.one (dI x25)))],[(0,.cells 116 (cE a0)),(1,.cells 33 (cE a1))],[],2,59,[]⟩) (DV (Nat.zero_le _) Z Z Z Z Z)<|Q3<|Q4<|Q0<|DZ Z Z Z<|DY Z Z Z (Q7 Z Z Z)<|Q5<|Q3 ?_
 refine Qe (b:=(x25 != 0)) Z (fun c26=>?_) (fun c26=>?_)
 replace h1:=Qf c26 h1
 refine Q4<|Q0<|DZ Z Z Z<|rA Z Z Z<|Q5<|Q3<|Qp ?_
 have e:=DW h1;subst e
 have e_:_=_:=ho1
 subst e_
 try dsimp only [Sum.elim_inl,Sum.elim_inr] at h0
 have e:=DW h0;subst e
 exact Qo (fun _ _ h=>h) Z (Qn Z .nil) (.cons (.one (.d _)) .nil)
 replace h1:=Qg c26 h1
 refine Qh<|Qj<|Q3<|Q0<|DZ Z Z Z<|DY Z Z Z (Q7 Z Z Z)<|rA Z Z Z<|Q5 ?_
 have e:=DW h1;subst e
 refine QL (Jb (s1+1)) (DV (Nat.zero_le _) Z Z Z Z Z) ho1
 replace h1:=Qg c23 h1
 refine QW<|Qq<|Qq ?_
 have e:=DW h1;subst e
 have e_:_=_:=ho1
 subst e_
 exact QQ () (DV (Nat.zero_le _) Z Z Z Z Z) h0
 intro o21 h0
 refine QF<|Q3<|Q4<|Q0<|rA Z Z Z<|Q5<|Q3<|Qp ?_
 have e:=DW h0;subst e
 exact Qo (fun _ _ h=>h) Z (Qn Z .nil) (.cons (.one (.d _)) .nil)
theorem m87_all (n:Nat) (u:Rsc×Tm) (r:Int) (h0:JQ US n u=some r):Fun Try.prog 87 [.agg (cE u.1),.agg (cE u.2)] (QM [.one (dI r)]) :=
 YG (C:=fun u r=>Fun Try.prog 87 [.agg (cE u.1),.agg (cE u.2)] (QM [.one (dI r)])) (fun rc H u r h=>m87s_ok rc (fun a0 a1 r h=>H (a0,a1) r h) u.1 u.2 r h) n u r h0
theorem m87_ok (a0:Rsc) (a1:Tm) (r:Int) (h0:m87 a0 a1=some r):Fun Try.prog 87 [.agg (cE a0),.agg (cE a1)] (QM [.one (dI r)]):=m87_all QV (a0,a1) r h0
def UI (a0:Rsc) (a1:Tm) (a2:Int) (a3:Int):Option Int :=
 Option.bind (DG a1 a2 a3 0 0) fun (x1:Int) =>
 cond (x1 != 0)
   (some x1)
   (Option.bind (m87 a0 a1) fun (x3:Int) =>
 some x3)
theorem Kn (a0:Rsc) (a1:Tm) (a2:Int) (a3:Int) (r:Int) (h0:UI a0 a1 a2 a3=some r):Fun Try.prog 72 [.agg (cE a0),.agg (cE a1),.one (dI a2),.one (dI a3)] (QM [.one (dI r)]):=by
 unfold UI at h0
 refine QB 9 20 Try.func72 Z en_72 Z (lb Z) (fun S w=>?_)
 simp only [J5]
 refine Q4<|Q0<|Qa Z Z (lb Z) (QN Z)<|Qa Z Z (lb Z) (QN Z)<|rA Z Z Z<|Q5<|Q3<|Q4<|Q4<|Q0<|DY Z Z Z (QH (a1:Tm) QU Z Z)<|DZ Z Z Z<|DZ Z Z Z ?_
 refine Qc h0 (fun x1 hx1 h0=>?_)
 refine Qa Z Z (lb Z) (Qi (m86_ok a1 a2 a3 0 0 x1 hx1) Z (.cons (.agg (.cons (.d _) (.cons (.d _) (.cons (.d _) (.cons (.d _) (.cons (.d _) .nil)))))) (.cons (.one (.d _)) (.cons (.one (.d _)) (.cons (.one (.d _)) (.cons (.one (.d _)) .nil))))))<|rA Z Z Z<|Q5<|Q3<|Q4<|Q0<|DZ Z Z Z<|DY Z Z Z (Q7 Z Z Z)<|Q5<|Q3 ?_
 refine Qe (b:=(x1 != 0)) Z (fun c2=>?_) (fun c2=>?_)
 replace h0:=Qf c2 h0
 refine Q4<|Q0<|DZ Z Z Z<|rA Z Z Z<|Q5<|Q3<|Qp ?_
 have e:=DW h0;subst e
 exact Qo (fun _ _ h=>h) Z (Qn Z .nil) (.cons (.one (.d _)) .nil)
 replace h0:=Qg c2 h0
 refine Qh<|Q3<|Q4<|Q0<|DY Z Z Z (QH (a0:Rsc) Z0 Z Z)<|DY Z Z Z (QH (a1:Tm) QU Z Z) ?_
 refine Qc h0 (fun x3 hx3 h0=>?_)
 refine Qa Z Z (lb Z) (Qi (m87_ok a0 a1 x3 hx3) Z (.cons (.agg (.cons (.d _) (.cons (.d _) (.cons (.d _) (.cons (.d _) (.cons (.d _) (.cons (.d _) (.cons (.d _) (.cons (.d _) (.cons (.d _) (.cons (.d _) (.cons (.d _) (.cons (.d _) (.cons (.d _) (.cons (.d _) (.cons (.d _) (.cons (.d _) (.cons (.d _) (.cons (.d _) (.cons (.d _) (.cons (.d _) (.cons (.d _) (.cons (.d _) (.cons (.d _) (.cons (.d _) (.cons (.d _) .nil)))))))))))))))))))))))))) (.cons (.agg (.cons (.d _) (.cons (.d _) (.cons (.d _) (.cons (.d _) (.cons (.d _) .nil)))))) .nil)))<|rA Z Z Z<|Q5<|Q3<|Qp ?_
 have e:=DW h0;subst e
 exact Qo (fun _ _ h=>h) Z (Qn Z .nil) (.cons (.one (.d _)) .nil)
def m73_k0 (p0_:Bool) (p1_:Br) (p2_:Int) (p3_:Rsc) (p4_:Ent×Int) (p5_:Rsc×Tr×Int×Int→Option Int) (p6_:Int) (p7_:Int):Option (LO Int (Unit⊕Int)) :=
 cond p0_
   (some (.done (.inr 9)))
   (cond p1_.absurd
   (Option.bind (DQ p1_.tree (Tr.mk 0 (Tm.mk 0 0 ([]:List UInt8) ([]:List Lvl) ([]:List Tm)) 0 ([]:List Br))) fun (b0_:Bool) =>
 cond (!b0_)
   (some (.done (.inr 3)))
   (some (.next (Jb (p2_+1)))))
   (Option.bind (JX p3_.env p4_.1.decl) fun (b1_:Dcl) =>
 Option.bind (DF b1_ p4_.1.item) fun (b2_:Int) =>
 Option.bind (p5_ (p3_,p1_.tree,(Jb (p6_+b2_)),(Jb (p7_+1)))) fun (b3_:Int) =>
 cond (b3_ != 0)
   (some (.done (.inr b3_)))
   (some (.next (Jb (p2_+1))))))
def XV (a1:Tr) (a0:Rsc) (rc:Rsc×Tr×Int×Int→Option Int) (a2:Int) (a3:Int) (s1:Int):Option (LO Int (Unit⊕Int)) :=
 cond (decide (s1 < (a1.branches.length:Int)))
   (Option.bind (JX a1.branches s1) fun (x15:Br) =>
 Option.bind (Dr a0.env x15.ctor) fun (x16:Ent×Int) =>
 Option.bind (cond (x16.2 != 0)
   (some true)
   (some (x16.1.kind != 4))) (fun (v17:Bool)=>m73_k0 v17 x15 s1 a0 x16 rc a2 a3))
   (some (.done (.inl ())))
def UU (rc:Rsc×Tr×Int×Int→Option Int) (a0:Rsc) (a1:Tr) (a2:Int) (a3:Int):Option Int :=
 cond (decide (200≤a3))
   (some 7)
   (cond (a1.kind==0)
   (Option.bind (cond (a1.var != 0)
   (some true)
   (some (decide (0 < (a1.branches.length:Int))))) (fun (v3:Bool)=>cond v3
   (some 3)
   (Option.bind (UI a0 a1.body a2 a0.d.params) fun (x5:Int) =>
 some x5)))
   (cond (a1.kind==1)
   (Option.bind (UW a1.body) fun (x8:Bool) =>
 cond (!x8)
   (some 3)
   (Option.bind (cond (decide (a1.var < 0))
   (some true)
   (some (decide (a2≤a1.var)))) (fun (v10:Bool)=>cond v10
   (some 24)
   (cond (decide (32 < (a1.branches.length:Int)))
   (some 6)
   (Option.bind (QE (XV a1 a0 rc a2 a3) QV 0) (Sum.elim (fun (o13:Unit)=>some 0) (fun o=>some o)))))))
   (some 3)))
def UV (rc:Rsc×Tr×Int×Int→Option Int) (u:Rsc×Tr×Int×Int):Option Int:=UU rc u.1 u.2.1 u.2.2.1 u.2.2.2
def m73 (a0:Rsc) (a1:Tr) (a2:Int) (a3:Int):Option Int:=JQ UV QV (a0,a1,a2,a3)
theorem m73s_ok (rc:Rsc×Tr×Int×Int→Option Int) (H:∀ (a0:Rsc) (a1:Tr) (a2:Int) (a3:Int) (r:Int),rc (a0,a1,a2,a3)=some r→Fun Try.prog 73 [.agg (cE a0),.agg (cE a1),.one (dI a2),.one (dI a3)] (QM [.one (dI r)])) (a0:Rsc) (a1:Tr) (a2:Int) (a3:Int) (r:Int) (h0:UU rc a0 a1 a2 a3=some r):Fun Try.prog 73 [.agg (cE a0),.agg (cE a1),.one (dI a2),.one (dI a3)] (QM [.one (dI r)]):=by
 unfold UU at h0
 refine QB 9 110 Try.func73 Z en_73 Z (lb Z) (fun S w=>?_)
 simp only [J5]
 refine Q4<|Q0<|Qa Z Z (lb Z) (QN Z)<|Qa Z Z (lb Z) (QN Z)<|rA Z Z Z<|Q5<|Q3<|Q4<|Q4<|Q0<|DZ Z Z Z<|DY Z Z Z (Q7 Z Z Z)<|Q5<|Q3 ?_
 refine Qe (b:=(decide (200≤a3))) Z (fun c1=>?_) (fun c1=>?_)
 replace h0:=Qf c1 h0
 refine Q4<|Q0<|rA Z Z Z<|Q5<|Q3<|Qp ?_
 have e:=DW h0;subst e
 exact Qo (fun _ _ h=>h) Z (Qn Z .nil) (.cons (.one (.d _)) .nil)
 replace h0:=Qg c1 h0
 refine Qh<|Q3<|Q4<|Q4<|Q0<|DY Z Z Z (Q2 XG Z)<|DY Z Z Z (Q6 QI Z Z Z)<|Q5<|Q3<|Ql<|Q4<|Q0<|DY Z Z Z (Q7 Z Z Z)<|rA Z Z Z ?_
 refine Q5<|Q3 ?_
 refine Qe (b:=(a1.kind==0)) Z (fun c2=>?_) (fun c2=>?_)
 replace h0:=Qf c2 h0
 refine Q4<|Q4 ?_
 refine QC (fun (v3:Bool)=>⟨[(2,.v (.one (dI a2))),(4,.v (.one (.ptr 0 0))),(5,.v (.one (.ptr 1 0))),(28,.v (.one (dB v3)))],[(0,.cells 116 (cE a0)),(1,.cells 74 (cE a1))],[],2,110,[]⟩) (fun (v3:Bool)=>(cond v3
     (some 3)
     (Option.bind (UI a0 a1.body a2 a0.d.params) fun (x5:Int) =>
   some x5))=some r) ?_ ?_
 refine Qc h0 (fun w1_ h1 h0=>?_)
 refine Q0<|DY Z Z Z (Q2 Kz Z)<|DY Z Z Z (Q6 QI Z Z Z)<|DY Z Z Z (Q7 Z Z Z)<|DZ Z Z Z ?_
 refine Qv (d:=23) (c:=(a1.var != 0)) Z (fun c4=>?_) (fun c4=>?_)
 replace h1:=Qf c4 h1
 refine Q8 Z Z<|Q8 Z Z<|Q8 Z Z<|Q8 Z Z<|DY Z Z Z (Qd Z Z)<|Q5 ?_
 have e:=DW h1;subst e
 exact Q9 true (DV (Nat.zero_le _) Z Z Z Z Z) h0
 replace h1:=Qg c4 h1
 refine DY Z Z Z (Q2 Y7 Z)<|DY Z Z Z (Q6 Zf Z Z Z)<|DY Z Z Z (Qx (α:=Br) Z4 Z (.d _))<|DY Z Z Z (Q7 Z Z Z)<|DY Z Z Z (Qb Z Z)<|Q5 ?_
 have e:=DW h1;subst e
 exact Q9 (decide (0 < (a1.branches.length:Int))) (DV (Nat.zero_le _) Z Z Z Z Z) h0
 intro v3 h0
 refine Q3 ?_
 refine Qe (b:=v3) Z (fun c5=>?_) (fun c5=>?_)
 replace h0:=Qf c5 h0
 refine Q4<|Q0<|rA Z Z Z<|Q5<|Q3<|Qp ?_
 have e:=DW h0;subst e
 exact Qo (fun _ _ h=>h) Z (Qn Z .nil) (.cons (.one (.d _)) .nil)
 replace h0:=Qg c5 h0
 refine Qh<|Q3<|Q4<|Q0<|DY Z Z Z (QH (a0:Rsc) Z0 Z Z)<|DY Z Z Z (Q2 Gj Z)<|DY Z Z Z (Qk QU Z Z Z Z)<|DZ Z Z Z<|DY Z Z Z (Q2 fo_116_2 Z)<|DY Z Z Z (Q2 Jx Z)<|DY Z Z Z (Q6 QI Z Z Z) ?_
 refine Qc h0 (fun x6 hx6 h0=>?_)
 refine Qa Z Z (lb Z) (Qi (Kn a0 a1.body a2 a0.d.params x6 hx6) Z (.cons (.agg (.cons (.d _) (.cons (.d _) (.cons (.d _) (.cons (.d _) (.cons (.d _) (.cons (.d _) (.cons (.d _) (.cons (.d _) (.cons (.d _) (.cons (.d _) (.cons (.d _) (.cons (.d _) (.cons (.d _) (.cons (.d _) (.cons (.d _) (.cons (.d _) (.cons (.d _) (.cons (.d _) (.cons (.d _) (.cons (.d _) (.cons (.d _) (.cons (.d _) (.cons (.d _) (.cons (.d _) (.cons (.d _) .nil)))))))))))))))))))))))))) (.cons (.agg (.cons (.d _) (.cons (.d _) (.cons (.d _) (.cons (.d _) (.cons (.d _) .nil)))))) (.cons (.one (.d _)) (.cons (.one (.d _)) .nil)))))<|rA Z Z Z<|Q5<|Q3<|Qp ?_
 have e:=DW h0;subst e
 exact Qo (fun _ _ h=>h) Z (Qn Z .nil) (.cons (.one (.d _)) .nil)
 replace h0:=Qg c2 h0
 refine Q4<|Q0<|DY Z Z Z (Q7 Z Z Z)<|rA Z Z Z<|Q5<|Q3 ?_
 refine Qe (b:=(a1.kind==1)) Z (fun c7=>?_) (fun c7=>?_)
 replace h0:=Qf c7 h0
 refine Q4<|Q0<|DY Z Z Z (Q2 Gj Z)<|DY Z Z Z (Qk QU Z Z Z Z) ?_
 refine Qc h0 (fun x8 hx8 h0=>?_)
 refine Qa Z Z (lb Z) (Qi (WA a1.body x8 hx8) Z (.cons (.agg (.cons (.d _) (.cons (.d _) (.cons (.d _) (.cons (.d _) (.cons (.d _) .nil)))))) .nil))<|DY Z Z Z (Jg Z)<|Q5<|Q3 ?_
 refine Qe (b:=(!x8)) Z (fun c9=>?_) (fun c9=>?_)
 replace h0:=Qf c9 h0
 refine Q4<|Q0<|rA Z Z Z<|Q5<|Q3<|Qp ?_
 have e:=DW h0;subst e
 exact Qo (fun _ _ h=>h) Z (Qn Z .nil) (.cons (.one (.d _)) .nil)
 replace h0:=Qg c9 h0
 refine Qh<|Qj<|Q3<|Q4<|Q4 ?_
 refine QC (fun (v10:Bool)=>⟨[(2,.v (.one (dI a2))),(3,.v (.one (dI a3))),(4,.v (.one (.ptr 0 0))),(5,.v (.one (.ptr 1 0))),(51,.v (.one (dB v10)))],[(0,.cells 116 (cE a0)),(1,.cells 74 (cE a1))],[],2,110,[]⟩) (fun (v10:Bool)=>(cond v10
     (some 24)
     (cond (decide (32 < (a1.branches.length:Int)))
     (some 6)
     (Option.bind (QE (XV a1 a0 rc a2 a3) QV 0) (Sum.elim (fun (o13:Unit)=>some 0) (fun o=>some o)))))=some r) ?_ ?_
 refine Qc h0 (fun w1_ h1 h0=>?_)
 refine Q0<|DY Z Z Z (Q2 Kz Z)<|DY Z Z Z (Q6 QI Z Z Z)<|DY Z Z Z (Q7 Z Z Z)<|DZ Z Z Z ?_
 refine Qv (d:=46) (c:=(decide (a1.var < 0))) Z (fun c11=>?_) (fun c11=>?_)
 replace h1:=Qf c11 h1
 refine Q8 Z Z<|Q8 Z Z<|Q8 Z Z<|Q8 Z Z<|DY Z Z Z (Qd Z Z)<|Q5 ?_
 have e:=DW h1;subst e
 exact Q9 true (DV (Nat.zero_le _) Z Z Z Z Z) h0
 replace h1:=Qg c11 h1
 refine DY Z Z Z (Q2 Kz Z)<|DY Z Z Z (Q6 QI Z Z Z)<|DZ Z Z Z<|DY Z Z Z (Q7 Z Z Z)<|DY Z Z Z (Qb Z Z)<|Q5 ?_
 have e:=DW h1;subst e
 exact Q9 (decide (a2≤a1.var)) (DV (Nat.zero_le _) Z Z Z Z Z) h0
 intro v10 h0
 refine Q3 ?_
 refine Qe (b:=v10) Z (fun c12=>?_) (fun c12=>?_)
 replace h0:=Qf c12 h0
 refine Q4<|Q0<|rA Z Z Z<|Q5<|Q3<|Qp ?_
 have e:=DW h0;subst e
 exact Qo (fun _ _ h=>h) Z (Qn Z .nil) (.cons (.one (.d _)) .nil)
 replace h0:=Qg c12 h0
 refine Qh<|Q3<|Q4<|Q4<|Q0<|DY Z Z Z (Q2 Y7 Z)<|DY Z Z Z (Q6 Zf Z Z Z)<|DY Z Z Z (Qx (α:=Br) Z4 Z (.d _))<|DY Z Z Z (Q7 Z Z Z)<|Q5<|Q3 ?_
 refine Qe (b:=(decide (32 < (a1.branches.length:Int)))) Z (fun c13=>?_) (fun c13=>?_)
 replace h0:=Qf c13 h0
 refine Q4<|Q0<|rA Z Z Z<|Q5<|Q3<|Qp ?_
 have e:=DW h0;subst e
 exact Qo (fun _ _ h=>h) Z (Qn Z .nil) (.cons (.one (.d _)) .nil)
 replace h0:=Qg c13 h0
 refine Qh<|Q3<|Q4<|Q4<|Q0<|rA Z Z Z<|Q5<|Q3<|Ql ?_
 refine QS 1 (fun (o14:Unit)=>⟨[],[(0,.cells 116 (cE a0)),(1,.cells 74 (cE a1))],[],2,110,[]⟩) (fun (o14:Unit)=>(some 0)=some r) ?_ ?_
 refine Qc h0 (fun o15 hl1 h0=>?_)
 refine QR (XV a1 a0 rc a2 a3) (fun s1=>⟨[(2,.v (.one (dI a2))),(3,.v (.one (dI a3))),(4,.v (.one (.ptr 0 0))),(5,.v (.one (.ptr 1 0))),(9,.v (.one (dI s1)))],[(0,.cells 116 (cE a0)),(1,.cells 74 (cE a1))],[],2,110,[]⟩) 0 o15 (DV (Nat.zero_le _) Z Z Z Z Z) hl1 (fun s1 n1 oo1 h1 ho1=>?_)
 unfold XV at h1
 refine Q4<|Q4<|Q0<|DZ Z Z Z<|DY Z Z Z (Q2 Y7 Z)<|DY Z Z Z (Q6 Zf Z Z Z)<|DY Z Z Z (Qx (α:=Br) Z4 Z (.d _))<|DY Z Z Z (Q7 Z Z Z)<|Q5<|Q3 ?_
 refine Qe (b:=(decide (s1 < (a1.branches.length:Int)))) Z (fun c16=>?_) (fun c16=>?_)
 replace h1:=Qf c16 h1
 refine Qh<|Q3<|Q4<|Ql<|Q4<|Q0<|DY Z Z Z (Q2 Y7 Z)<|DY Z Z Z (Q6 Zf Z Z Z)<|DZ Z Z Z ?_
 refine Qc h1 (fun x17 hx17 h1=>?_)
 refine DY Z Z Z (Qt (α:=Br) Z4 Z (.d _) Z hx17)<|DY Z Z Z (Qw (x17:Br) Zx Z)<|Qa Z Z (lb Z) (Qu Ue Z)<|QA Z Z (QD (x17:Br) Zx Z Z Z Z Z)<|Q5<|Q3<|Q4<|Q0<|DY Z Z Z (Q2 fo_116_0 Z)<|DY Z Z Z (Q6 WN Z Z Z)<|DY Z Z Z (Q2 GO Z)<|DY Z Z Z (Q6 JK Z Z Z) ?_
 refine Qc h1 (fun x18 hx18 h1=>?_)
 refine Qa Z Z (lb Z) (Qi (m15_ok a0.env x17.ctor x18 hx18) Z (.cons (.one (.d _)) (.cons (.one (.d _)) .nil)))<|DZ Z Z Z<|DY Z Z Z (J2 Z Z)<|DY Z Z Z (J2 Z Z)<|Qa Z Z (lb Z) (Qu Zg Z)<|QA Z Z (QD (x18.1:Ent) Ja Z Z Z Z Z)<|rA Z Z Z<|Q5<|Q3<|Q4<|Q4 ?_
 refine QC (fun (v19:Bool)=>⟨[(2,.v (.one (dI a2))),(3,.v (.one (dI a3))),(4,.v (.one (.ptr 0 0))),(5,.v (.one (.ptr 1 0))),(9,.v (.one (dI s1))),(10,.v (.one (.ptr 2 0))),(11,.v (.one (.ptr 3 0))),(82,.v (.one (dB v19)))],[(0,.cells 116 (cE a0)),(1,.cells 74 (cE a1)),(2,.cells 101 (cE x17)),(3,.cells 35 (cE x18.1))],[],4,110,[]⟩) (fun (v19:Bool)=>(m73_k0 v19 x17 s1 a0 x18 rc a2 a3)=some oo1) ?_ ?_
 refine Qc h1 (fun w2_ h2 h1=>?_)
 refine Q0<|DZ Z Z Z<|DY Z Z Z (Q7 Z Z Z)<|DZ Z Z Z ?_
 refine Qv (d:=78) (c:=(x18.2 != 0)) Z (fun c20=>?_) (fun c20=>?_)
 replace h2:=Qf c20 h2
 refine Q8 Z Z<|Q8 Z Z<|Q8 Z Z<|DY Z Z Z (Qd Z Z)<|Q5 ?_
 have e:=DW h2;subst e
 exact Q9 true (DV (Nat.zero_le _) Z Z Z Z Z) h1
 replace h2:=Qg c20 h2
 refine DY Z Z Z (Q2 YT Z)<|DY Z Z Z (Q6 QI Z Z Z)<|DY Z Z Z (Q7 Z Z Z)<|DY Z Z Z (Qb Z Z)<|Q5 ?_
 have e:=DW h2;subst e
 exact Q9 (x18.1.kind != 4) (DV (Nat.zero_le _) Z Z Z Z Z) h1
 intro v19 h1
 unfold m73_k0 at h1
 refine Q3 ?_
 refine Qe (b:=v19) Z (fun c21=>?_) (fun c21=>?_)
 replace h1:=Qf c21 h1
 refine Q4<|Q0<|rA Z Z Z<|Q5<|Q3<|Qp ?_
 have e:=DW h1;subst e
 have e_:_=_:=ho1
 subst e_
 try dsimp only [Sum.elim_inl,Sum.elim_inr] at h0
 have e:=DW h0;subst e
 exact Qo (fun _ _ h=>h) Z (Qn Z .nil) (.cons (.one (.d _)) .nil)
 replace h1:=Qg c21 h1
 refine Qh<|Q3<|Q4<|Q4<|Q0<|DY Z Z Z (Q2 fo_101_1 Z)<|DY Z Z Z (Q6 UE Z Z Z)<|Q5<|Q3 ?_
 refine Qe (b:=x17.absurd) Z (fun c22=>?_) (fun c22=>?_)
 replace h1:=Qf c22 h1
 refine Q4<|Q4<|Q0<|DY Z Z Z (Q2 G3 Z)<|DY Z Z Z (Qk X7 Z Z Z Z)<|DY Z Z Z (ZG bd_74 Z ) ?_
 refine Qc h1 (fun x23 hx23 h1=>?_)
 refine Qa Z Z (lb Z) (Qi (m36_ok x17.tree (Tr.mk 0 (Tm.mk 0 0 ([]:List UInt8) ([]:List Lvl) ([]:List Tm)) 0 ([]:List Br)) x23 hx23) Z (.cons (.agg (.cons (.d _) (.cons (.d _) (.cons (.d _) (.cons (.d _) (.cons (.d _) (.cons (.d _) (.cons (.d _) (.cons (.d _) .nil))))))))) (.cons (.agg (.cons (.d _) (.cons (.d _) (.cons (.d _) (.cons (.d _) (.cons (.nil _) (.cons (.nil _) (.cons (.d _) (.cons (.nil _) .nil))))))))) .nil)))<|DY Z Z Z (Jg Z)<|Q5<|Q3 ?_
 refine Qe (b:=(!x23)) Z (fun c24=>?_) (fun c24=>?_)
 replace h1:=Qf c24 h1
 refine Q4<|Q0<|rA Z Z Z<|Q5<|Q3<|Qp ?_
 have e:=DW h1;subst e
 have e_:_=_:=ho1
 subst e_
 try dsimp only [Sum.elim_inl,Sum.elim_inr] at h0
 have e:=DW h0;subst e
 exact Qo (fun _ _ h=>h) Z (Qn Z .nil) (.cons (.one (.d _)) .nil)
 replace h1:=Qg c24 h1
 refine Qh<|Q3<|QW<|Qq<|QF<|Q3<|Q0<|DZ Z Z Z<|DY Z Z Z (Q7 Z Z Z)<|rA Z Z Z<|Q5 ?_
 have e:=DW h1;subst e
 refine QL (Jb (s1+1)) (DV (Nat.zero_le _) Z Z Z Z Z) ho1
 replace h1:=Qg c22 h1
 refine Qh<|Q3<|Q4 ?_
 refine J6 [] [] JT (by kernel_rfl) (by kernel_rfl) (by kernel_rfl) ?_
 refine RunA.rd Z Z Z (Q1 (QH (a0:Rsc) Z0 Z Z)) Z<|RunA.rd Z Z Z (Q1 (Q2 G3 Z)) Z<|RunA.rd Z Z Z (Q1 (Qk X7 Z Z Z Z)) Z<|RunA.rd Z Z Z (Q1 (Qr Z)) Z<|RunA.rd Z Z Z (Q1 (Q2 fo_116_0 Z)) Z<|RunA.rd Z Z Z (Q1 (Q6 WN Z Z Z)) Z<|RunA.rd Z Z Z (Q1 (Q2 XH Z)) Z<|RunA.rd Z Z Z (Q1 (Q6 QI Z Z Z)) Z ?_
 refine Qc h1 (fun x25 hx25 h1=>?_)
 refine RunA.rd Z Z Z (Q1 (Qt (α:=Dcl) YP Z (.d _) Z hx25)) Z<|RunA.rd Z Z Z (Q1 (Qw (x25:Dcl) JE Z)) Z<|RunA.rd Z Z Z (Q1 (Q2 Wp Z)) Z<|RunA.rd Z Z Z (Q1 (Q6 QI Z Z Z)) Z ?_
 refine Qc h1 (fun x26 hx26 h1=>?_)
 refine RunA.rd Z Z Z (Qi (m88_ok x25 x18.1.item x26 hx26) Z (.cons (.agg (.cons (.d _) (.cons (.d _) (.cons (.d _) (.cons (.d _) (.cons (.d _) (.cons (.d _) (.cons (.d _) (.cons (.d _) (.cons (.d _) (.cons (.d _) (.cons (.d _) (.cons (.d _) (.cons (.d _) (.cons (.d _) (.cons (.d _) (.cons (.d _) (.cons (.d _) (.cons (.d _) (.cons (.d _) (.cons (.d _) (.cons (.d _) (.cons (.d _) (.cons (.d _) .nil)))))))))))))))))))))))) (.cons (.one (.d _)) .nil))) Z<|RunA.rd Z Z Z (Q1 (Q7 Z Z Z)) Z<|RunA.rd Z Z Z (Q1 (Qr Z)) Z<|RunA.rd Z Z Z (Q1 (Q7 Z Z Z)) Z ?_
 refine Qc h1 (fun x27 hx27 h1=>?_)
 refine RunA.rd Z Z Z (Qi (H a0 x17.tree (Jb (a2+x26)) (Jb (a3+1)) x27 hx27) Z (.cons (.agg (.cons (.d _) (.cons (.d _) (.cons (.d _) (.cons (.d _) (.cons (.d _) (.cons (.d _) (.cons (.d _) (.cons (.d _) (.cons (.d _) (.cons (.d _) (.cons (.d _) (.cons (.d _) (.cons (.d _) (.cons (.d _) (.cons (.d _) (.cons (.d _) (.cons (.d _) (.cons (.d _) (.cons (.d _) (.cons (.d _) (.cons (.d _) (.cons (.d _) (.cons (.d _) (.cons (.d _) (.cons (.d _) .nil)))))))))))))))))))))))))) (.cons (.agg (.cons (.d _) (.cons (.d _) (.cons (.d _) (.cons (.d _) (.cons (.d _) (.cons (.d _) (.cons (.d _) (.cons (.d _) .nil))))))))) (.cons (.one (.d _)) (.cons (.one (.d _)) .nil))))) Z<|RunA.rd Z Z Z (Q1 (Jf Z)) Z ?_
 refine RunA.nil ⟨?ex,_,_,Z,?_⟩
 case ex=>exact trivial
 refine Jo (st':=⟨[(2,.v (.one (dI a2))),(3,.v (.one (dI a3))),(4,.v (.one (.ptr 0 0))),(5,.v (.one (.ptr 1 0))),(9,.v (.one (dI s1))),(13,.v (.one (dI x27)))],[(0,.cells 116 (cE a0)),(1,.cells 74 (cE a1)),(2,.cells 101 (cE x17)),(3,.cells 35 (cE x18.1))],[],4,110,[]⟩) (DV (Nat.zero_le _) Z Z Z Z Z)<|Q3<|Q4<|Q0<|DZ Z Z Z<|DY Z Z Z (Q7 Z Z Z)<|Q5<|Q3 ?_
 refine Qe (b:=(x27 != 0)) Z (fun c28=>?_) (fun c28=>?_)
 replace h1:=Qf c28 h1
 refine Q4<|Q0<|DZ Z Z Z<|rA Z Z Z<|Q5<|Q3<|Qp ?_
 have e:=DW h1;subst e
 have e_:_=_:=ho1
 subst e_
 try dsimp only [Sum.elim_inl,Sum.elim_inr] at h0
 have e:=DW h0;subst e
 exact Qo (fun _ _ h=>h) Z (Qn Z .nil) (.cons (.one (.d _)) .nil)
 replace h1:=Qg c28 h1
 refine Qh<|Qj<|Q3<|Q0<|DZ Z Z Z<|DY Z Z Z (Q7 Z Z Z)<|rA Z Z Z<|Q5 ?_
 have e:=DW h1;subst e
 refine QL (Jb (s1+1)) (DV (Nat.zero_le _) Z Z Z Z Z) ho1
 replace h1:=Qg c16 h1
 refine QW<|Qq<|Qq ?_
 have e:=DW h1;subst e
 have e_:_=_:=ho1
 subst e_
 exact QQ () (DV (Nat.zero_le _) Z Z Z Z Z) h0
 intro o14 h0
 refine QF<|Q3<|Q4<|Q0<|rA Z Z Z<|Q5<|Q3<|Qp ?_
 have e:=DW h0;subst e
 exact Qo (fun _ _ h=>h) Z (Qn Z .nil) (.cons (.one (.d _)) .nil)
 replace h0:=Qg c7 h0
 refine Q4<|Q0<|rA Z Z Z<|Q5<|Q3<|Qp ?_
 have e:=DW h0;subst e
 exact Qo (fun _ _ h=>h) Z (Qn Z .nil) (.cons (.one (.d _)) .nil)
theorem m73_all (n:Nat) (u:Rsc×Tr×Int×Int) (r:Int) (h0:JQ UV n u=some r):Fun Try.prog 73 [.agg (cE u.1),.agg (cE u.2.1),.one (dI u.2.2.1),.one (dI u.2.2.2)] (QM [.one (dI r)]) :=
 YG (C:=fun u r=>Fun Try.prog 73 [.agg (cE u.1),.agg (cE u.2.1),.one (dI u.2.2.1),.one (dI u.2.2.2)] (QM [.one (dI r)])) (fun rc H u r h=>m73s_ok rc (fun a0 a1 a2 a3 r h=>H (a0,a1,a2,a3) r h) u.1 u.2.1 u.2.2.1 u.2.2.2 r h) n u r h0
theorem m73_ok (a0:Rsc) (a1:Tr) (a2:Int) (a3:Int) (r:Int) (h0:m73 a0 a1 a2 a3=some r):Fun Try.prog 73 [.agg (cE a0),.agg (cE a1),.one (dI a2),.one (dI a3)] (QM [.one (dI r)]):=m73_all QV (a0,a1,a2,a3) r h0
def XX (x1:(List Bs)) (a0:List Dcl) (s1:Int):Option (LO Int (Unit⊕Int)) :=
 cond (decide (s1 < (x1.length:Int)))
   (Option.bind (JX x1 s1) fun (x4:Bs) =>
 Option.bind (Do x4) fun (x5:Bool) =>
 cond (!x5)
   (some (.done (.inr 29)))
   (Option.bind (JX x1 s1) fun (x7:Bs) =>
 Option.bind (Dr a0 x7) fun (x8:Ent×Int) =>
 Option.bind (cond (x8.2==0)
   (some true)
   (Jv (cond (decide (0≤s1)) (Nat.ble s1.toNat x1.length) false)
 (Option.bind (JX x1 s1) fun (x12:Bs) =>
 Option.bind (UM (x1.take s1.toNat) x12) fun (x13:Bool) =>
 some x13))) (fun (v9:Bool)=>cond v9
   (some (.done (.inr 8)))
   (some (.next (Jb (s1+1)))))))
   (some (.done (.inl ())))
def Dy (a0:List Dcl) (a1:Dcl):Option Int :=
 Option.bind (D7 a1) fun (x1:(List Bs)) =>
 Option.bind (QE (XX x1 a0) QV 0) (Sum.elim (fun (o2:Unit)=>some 0) (fun o=>some o))
theorem m52_ok (a0:List Dcl) (a1:Dcl) (r:Int) (h0:Dy a0 a1=some r):Fun Try.prog 52 [.one (dS a0),.agg (cE a1)] (QM [.one (dI r)]):=by
 unfold Dy at h0
 refine QB 9 44 Try.func52 Z en_52 Z (lb Z) (fun S w=>?_)
 simp only [J5]
 refine Q4<|Q0<|Qa Z Z (lb Z) (QN Z)<|rA Z Z Z<|Q5<|Q3<|Q4<|Q0<|DY Z Z Z (QH (a1:Dcl) JE Z Z) ?_
 refine Qc h0 (fun x1 hx1 h0=>?_)
 refine Qa Z Z (lb Z) (Qi (WD a1 x1 hx1) Z (.cons (.agg (.cons (.d _) (.cons (.d _) (.cons (.d _) (.cons (.d _) (.cons (.d _) (.cons (.d _) (.cons (.d _) (.cons (.d _) (.cons (.d _) (.cons (.d _) (.cons (.d _) (.cons (.d _) (.cons (.d _) (.cons (.d _) (.cons (.d _) (.cons (.d _) (.cons (.d _) (.cons (.d _) (.cons (.d _) (.cons (.d _) (.cons (.d _) (.cons (.d _) (.cons (.d _) .nil)))))))))))))))))))))))) .nil))<|rA Z Z Z<|Q5<|Q3<|Q4<|Q4<|Q0<|rA Z Z Z<|Q5<|Q3<|Ql ?_
 refine QS 0 (fun (o2:Unit)=>⟨[],[(0,.cells 45 (cE a1))],[],1,44,[]⟩) (fun (o2:Unit)=>(some 0)=some r) ?_ ?_
 refine Qc h0 (fun o3 hl1 h0=>?_)
 refine QR (XX x1 a0) (fun s1=>⟨[(0,.v (.one (dS a0))),(5,.v (.one (dS x1))),(6,.v (.one (dI s1)))],[(0,.cells 45 (cE a1))],[],1,44,[]⟩) 0 o3 (DV (Nat.zero_le _) Z Z Z Z Z) hl1 (fun s1 n1 oo1 h1 ho1=>?_)
 unfold XX at h1
 refine Q4<|Q4<|Q0<|DZ Z Z Z<|DZ Z Z Z<|DY Z Z Z (Qx (α:=Bs) Y9 Z (.d _))<|DY Z Z Z (Q7 Z Z Z)<|Q5<|Q3 ?_
 refine Qe (b:=(decide (s1 < (x1.length:Int)))) Z (fun c4=>?_) (fun c4=>?_)
 replace h1:=Qf c4 h1
 refine Qh<|Q3<|Q4<|Ql<|Q4<|Q4<|Q0<|DZ Z Z Z<|DZ Z Z Z ?_
 refine Qc h1 (fun x5 hx5 h1=>?_)
 refine DY Z Z Z (Qt (α:=Bs) Y9 Z (.d _) Z hx5)<|DY Z Z Z (Ji JK Z Z) ?_
 refine Qc h1 (fun x6 hx6 h1=>?_)
 refine Qa Z Z (lb Z) (Qi (m71_ok x5 x6 hx6) Z (.cons (.one (.d _)) .nil))<|DY Z Z Z (Jg Z)<|Q5<|Q3 ?_
 refine Qe (b:=(!x6)) Z (fun c7=>?_) (fun c7=>?_)
 replace h1:=Qf c7 h1
 refine Q4<|Q0<|rA Z Z Z<|Q5<|Q3<|Qp ?_
 have e:=DW h1;subst e
 have e_:_=_:=ho1
 subst e_
 try dsimp only [Sum.elim_inl,Sum.elim_inr] at h0
 have e:=DW h0;subst e
 exact Qo (fun _ _ h=>h) Z (Qn Z .nil) (.cons (.one (.d _)) .nil)
 replace h1:=Qg c7 h1
 refine Qh<|Q3<|Q4<|Q0<|DZ Z Z Z<|DZ Z Z Z<|DZ Z Z Z ?_
 refine Qc h1 (fun x8 hx8 h1=>?_)
 refine DY Z Z Z (Qt (α:=Bs) Y9 Z (.d _) Z hx8)<|DY Z Z Z (Ji JK Z Z) ?_
 refine Qc h1 (fun x9 hx9 h1=>?_)
 refine Qa Z Z (lb Z) (Qi (m15_ok a0 x8 x9 hx9) Z (.cons (.one (.d _)) (.cons (.one (.d _)) .nil)))<|DZ Z Z Z<|DY Z Z Z (J2 Z Z)<|DY Z Z Z (J2 Z Z)<|Qa Z Z (lb Z) (Qu Zg Z)<|QA Z Z (QD (x9.1:Ent) Ja Z Z Z Z Z)<|rA Z Z Z<|Q5<|Q3<|Q4 ?_
 refine QC (fun (v10:Bool)=>⟨[(0,.v (.one (dS a0))),(5,.v (.one (dS x1))),(6,.v (.one (dI s1))),(43,.v (.one (dB v10)))],[(0,.cells 45 (cE a1)),(1,.cells 35 (cE x9.1))],[],2,44,[]⟩) (fun (v10:Bool)=>(cond v10
     (some (.done (.inr 8)))
     (some (.next (Jb (s1+1)))))=some oo1) ?_ ?_
 refine Qc h1 (fun w2_ h2 h1=>?_)
 refine J6 [] [] JT (by kernel_rfl) (by kernel_rfl) (by kernel_rfl) ?_
 refine RunA.rd Z Z Z (Q1 (Qr Z)) Z<|RunA.rd Z Z Z (Q1 (Q7 Z Z Z)) Z ?_
 refine JN (c:=(x9.2==0)) Z Z Z (Q1 (Qr Z)) Z (fun c11=>?_) (fun c11=>?_)
 replace h2:=Qf c11 h2
 refine RunA.no Z Z Z Z<|RunA.no Z Z Z Z<|RunA.no Z Z Z Z<|RunA.no Z Z Z Z<|RunA.no Z Z Z Z<|RunA.no Z Z Z Z<|RunA.no Z Z Z Z<|RunA.no Z Z Z Z<|RunA.rd Z Z Z (Q1 (Qd Z Z)) Z ?_
 refine RunA.nil ⟨?ex,_,_,Z,?_⟩
 case ex=>exact trivial
 have e:=DW h2;subst e
 exact Q9 true (DV (Nat.zero_le _) Z Z Z Z Z) h1
 replace h2:=Qg c11 h2
 refine RunA.rd Z Z Z (Q1 (Qr Z)) Z<|RunA.rd Z Z Z (Q1 (Qr Z)) Z ?_
 refine Yo h2 (fun g12 h2=>?_)
 refine RunA.rd Z Z Z (Q1 (G7 (α:=Bs) Y9 Z (.d _) Z g12)) Z<|RunA.rd Z Z Z (Q1 (Qr Z)) Z<|RunA.rd Z Z Z (Q1 (Qr Z)) Z ?_
 refine Qc h2 (fun x13 hx13 h2=>?_)
 refine RunA.rd Z Z Z (Q1 (Qt (α:=Bs) Y9 Z (.d _) Z hx13)) Z<|RunA.rd Z Z Z (Q1 (Ji JK Z Z)) Z ?_
 refine Qc h2 (fun x14 hx14 h2=>?_)
 refine RunA.rd Z Z Z (Qi (m33_ok (x1.take s1.toNat) x13 x14 hx14) Z (.cons (.one (.d _)) (.cons (.one (.d _)) .nil))) Z<|RunA.rd Z Z Z (Q1 (Qb Z Z)) Z ?_
 refine RunA.nil ⟨?ex,_,_,Z,?_⟩
 case ex=>exact trivial
 have e:=DW h2;subst e
 exact Q9 x14 (DV (Nat.zero_le _) Z Z Z Z Z) h1
 intro v10 h1
 refine Q3 ?_
 refine Qe (b:=v10) Z (fun c15=>?_) (fun c15=>?_)
 replace h1:=Qf c15 h1
 refine Q4<|Q0<|rA Z Z Z<|Q5<|Q3<|Qp ?_
 have e:=DW h1;subst e
 have e_:_=_:=ho1
 subst e_
 try dsimp only [Sum.elim_inl,Sum.elim_inr] at h0
 have e:=DW h0;subst e
 exact Qo (fun _ _ h=>h) Z (Qn Z .nil) (.cons (.one (.d _)) .nil)
 replace h1:=Qg c15 h1
 refine Qh<|Qj<|Q3<|Q0<|DZ Z Z Z<|DY Z Z Z (Q7 Z Z Z)<|rA Z Z Z<|Q5 ?_
 have e:=DW h1;subst e
 refine QL (Jb (s1+1)) (DV (Nat.zero_le _) Z Z Z Z Z) ho1
 replace h1:=Qg c4 h1
 refine QW<|Qq<|Qq ?_
 have e:=DW h1;subst e
 have e_:_=_:=ho1
 subst e_
 exact QQ () (DV (Nat.zero_le _) Z Z Z Z Z) h0
 intro o2 h0
 refine QF<|Q3<|Q4<|Q0<|rA Z Z Z<|Q5<|Q3<|Qp ?_
 have e:=DW h0;subst e
 exact Qo (fun _ _ h=>h) Z (Qn Z .nil) (.cons (.one (.d _)) .nil)
def GX (a1:Dcl) (a0:List Dcl) (s1:Int):Option (LO Int (Unit⊕Int)) :=
 cond (decide (s1 < (a1.ctors.length:Int)))
   (Option.bind (JX a1.ctors s1) fun (x10:Ctr) =>
 Option.bind (UI (⟨a0,[a1.name],a1⟩:Rsc) x10.ty 0 a1.params) fun (x11:Int) =>
 cond (x11 != 0)
   (some (.done (.inr x11)))
   (some (.next (Jb (s1+1)))))
   (some (.done (.inl ())))
def GW (a1:Dcl) (a0:List Dcl) (x9:(List Bs)) (s1:Int):Option (LO Int (Unit⊕Int)) :=
 cond (decide (s1 < (a1.rcr.rules.length:Int)))
   (Option.bind (JX a1.rcr.rules s1) fun (x15:Tm) =>
 Option.bind (UI (⟨a0,x9,a1⟩:Rsc) x15 0 a1.rcr.params) fun (x16:Int) =>
 cond (x16 != 0)
   (some (.done (.inr x16)))
   (some (.next (Jb (s1+1)))))
   (some (.done (.inl ())))
def Xj (p0_:Dcl) (p1_:List Dcl):Option Int :=
 Option.bind (D7 p0_) fun (b0_:(List Bs)) =>
 Jv (cond (decide (0≤(Jb ((b0_.length:Int) - 1)))) (Nat.ble (Jb ((b0_.length:Int) - 1)).toNat b0_.length) false)
 (Option.bind (UI (⟨p1_,(b0_.take (Jb ((b0_.length:Int) - 1)).toNat),p0_⟩:Rsc) p0_.rcr.ty 0 p0_.rcr.params) fun (b1_:Int) =>
 cond (b1_ != 0)
   (some b1_)
   (Option.bind (QE (GW p0_ p1_ b0_) QV 0) (Sum.elim (fun (b2_:Unit)=>some 0) (fun o=>some o))))
def Xi (a1:Dcl) (a0:List Dcl) (s1:Int):Option (LO Int (Unit⊕Int)) :=
 cond (decide (s1 < (a1.funs.length:Int)))
   (Option.bind (JX a1.funs s1) fun (x27:Fn) =>
 Option.bind (UI (⟨a0,([]:List Bs),a1⟩:Rsc) x27.ty 0 a1.params) fun (x28:Int) =>
 cond (x28 != 0)
   (some (.done (.inr x28)))
   (some (.next (Jb (s1+1)))))
   (some (.done (.inl ())))
def Gs (a1:Dcl) (a0:List Dcl) (x26:(List Bs)) (s1:Int):Option (LO Int (Unit⊕Int)) :=
 cond (decide (s1 < (a1.funs.length:Int)))
   (Option.bind (JX a1.funs s1) fun (x29:Fn) =>
 Option.bind (JX a1.funs s1) fun (x30:Fn) =>
 Option.bind (m73 (⟨a0,x26,a1⟩:Rsc) x29.tree x30.arity 0) fun (x31:Int) =>
 cond (x31 != 0)
   (some (.done (.inr x31)))
   (some (.next (Jb (s1+1)))))
   (some (.done (.inl ())))
def ZK (p0_:Bool) (p1_:List Dcl) (p2_:Dcl):Option Int :=
 cond p0_
   (Option.bind (UI (⟨p1_,([]:List Bs),p2_⟩:Rsc) p2_.value 0 p2_.params) fun (b0_:Int) =>
 some b0_)
   (cond (p2_.kind==3)
   (Option.bind (QE (GX p2_ p1_) QV 0) (Sum.elim (fun (b1_:Unit)=>Xj p2_ p1_) (fun o=>some o)))
   (cond (p2_.kind==4)
   (Option.bind (QE (Xi p2_ p1_) QV 0) (Sum.elim (fun (b2_:Unit)=>Option.bind (D7 p2_) fun (b3_:(List Bs)) =>
 Option.bind (QE (Gs p2_ p1_ b3_) QV 0) (Sum.elim (fun (b4_:Unit)=>some 0) (fun o=>some o))) (fun o=>some o)))
   (some 0)))
def Dx (a0:List Dcl) (a1:Dcl):Option Int :=
 cond (a1.kind != 4)
   (Option.bind (UI (⟨a0,([]:List Bs),a1⟩:Rsc) a1.ty 0 a1.params) fun (x2:Int) =>
 cond (x2 != 0)
   (some x2)
   (Option.bind (cond (a1.kind==1)
   (some (a1.kind==1))
   (some (a1.kind==2))) (fun (v4:Bool)=>ZK v4 a0 a1)))
   (Option.bind (cond (a1.kind==1)
   (some (a1.kind==1))
   (some (a1.kind==2))) (fun (v40:Bool)=>ZK v40 a0 a1))
end Go.Proofs.Ytafddfoefeploaa
namespace Go.Proofs.Ytafddfoefeploaa
open Go.RowKit Go.Shelf
set_option linter.unusedSimpArgs false
set_option linter.unusedVariables false
theorem z_116:JL Try.prog 116=some [.slice none 0 0,.slice none 0 0,.int .i64 0,.string ByteArray.empty,.int .i64 0,.int .i64 0,.int .i64 0,.string ByteArray.empty,.slice none 0 0,.slice none 0 0,.int .i64 0,.int .i64 0,.string ByteArray.empty,.slice none 0 0,.slice none 0 0,.int .i64 0,.slice none 0 0,.int .i64 0,.int .i64 0,.int .i64 0,.string ByteArray.empty,.slice none 0 0,.slice none 0 0,.slice none 0 0,.slice none 0 0]:=by kernel_rfl
theorem bd_116:Y4 Try.prog 116 [(0,1),(1,1),(2,23)] [.slice none 0 0,.slice none 0 0,.int .i64 0,.string ByteArray.empty,.int .i64 0,.int .i64 0,.int .i64 0,.string ByteArray.empty,.slice none 0 0,.slice none 0 0,.int .i64 0,.int .i64 0,.string ByteArray.empty,.slice none 0 0,.slice none 0 0,.int .i64 0,.slice none 0 0,.int .i64 0,.int .i64 0,.int .i64 0,.string ByteArray.empty,.slice none 0 0,.slice none 0 0,.slice none 0 0,.slice none 0 0]:=⟨by kernel_rfl,by kernel_rfl⟩
theorem en_12:QZ Try.prog 12:=enters_of Try.func12 (by kernel_rfl) rfl
theorem en_32:QZ Try.prog 32:=enters_of Try.func32 (by kernel_rfl) rfl
theorem en_53:QZ Try.prog 53:=enters_of Try.func53 (by kernel_rfl) rfl
theorem m53_ok (a0:List Dcl) (a1:Dcl) (r:Int) (h0:Dx a0 a1=some r):Fun Try.prog 53 [.one (dS a0),.agg (cE a1)] (QM [.one (dI r)]):=by
 unfold Dx at h0
 refine QB 9 161 Try.func53 Z en_53 Z (lb Z) (fun S w=>?_)
 simp only [J5]
 refine Q4<|Q0<|Qa Z Z (lb Z) (QN Z)<|rA Z Z Z<|Q5<|Q3<|Q4<|Q0<|DZ Z Z Z<|DY Z Z Z (QH (a1:Dcl) JE Z Z)<|DY Z Z Z (RO.build02 bd_116 Z Z Z Z Z)<|Qa Z Z (lb Z) (Qu z_116 Z)<|QA Z Z (YM Z0 Z Z Z Z Z Z)<|Q5 ?_
 refine Q3<|Q4<|Q4<|Q0<|DY Z Z Z (Q2 JP Z)<|DY Z Z Z (Q6 QI Z Z Z)<|DY Z Z Z (Q7 Z Z Z)<|Q5<|Q3 ?_
 refine Qe (b:=(a1.kind != 4)) Z (fun c1=>?_) (fun c1=>?_)
 replace h0:=Qf c1 h0
 refine Q4<|Q0<|DY Z Z Z (Qk Z0 Z Z Z Z)<|DY Z Z Z (Q2 Zt Z)<|DY Z Z Z (Qk QU Z Z Z Z)<|DY Z Z Z (Q2 Jx Z)<|DY Z Z Z (Q6 QI Z Z Z) ?_
 refine Qc h0 (fun x2 hx2 h0=>?_)
 refine Qa Z Z (lb Z) (Qi (Kn (⟨a0,([]:List Bs),a1⟩:Rsc) a1.ty 0 a1.params x2 hx2) Z (.cons (.agg (.cons (.d _) (.cons (.nil _) (.cons (.d _) (.cons (.d _) (.cons (.d _) (.cons (.d _) (.cons (.d _) (.cons (.d _) (.cons (.d _) (.cons (.d _) (.cons (.d _) (.cons (.d _) (.cons (.d _) (.cons (.d _) (.cons (.d _) (.cons (.d _) (.cons (.d _) (.cons (.d _) (.cons (.d _) (.cons (.d _) (.cons (.d _) (.cons (.d _) (.cons (.d _) (.cons (.d _) (.cons (.d _) .nil)))))))))))))))))))))))))) (.cons (.agg (.cons (.d _) (.cons (.d _) (.cons (.d _) (.cons (.d _) (.cons (.d _) .nil)))))) (.cons (.one (.d _)) (.cons (.one (.d _)) .nil)))))<|rA Z Z Z<|Q5<|Q3<|Q4<|Q0<|DZ Z Z Z<|DY Z Z Z (Q7 Z Z Z)<|Q5<|Q3 ?_
 refine Qe (b:=(x2 != 0)) Z (fun c3=>?_) (fun c3=>?_)
 replace h0:=Qf c3 h0
 refine Q4<|Q0<|DZ Z Z Z<|rA Z Z Z<|Q5<|Q3<|Qp ?_
 have e:=DW h0;subst e
 exact Qo (fun _ _ h=>h) Z (Qn Z .nil) (.cons (.one (.d _)) .nil)
 replace h0:=Qg c3 h0
 refine Qh<|Q3<|Q4<|Q4<|Q0<|DY Z Z Z (Q2 JP Z)<|DY Z Z Z (Q6 QI Z Z Z)<|Q5<|Q3<|Ql<|Q4<|Q4<|Q0<|DY Z Z Z (Q7 Z Z Z) ?_
 refine rA Z Z Z<|Q5<|Q3 ?_
 refine QC (fun (v4:Bool)=>⟨[(3,.v (.one (.ptr 0 0))),(5,.v (.one (.ptr 1 0))),(33,.v (.one (dI a1.kind))),(34,.v (.one (dB v4)))],[(0,.cells 45 (cE a1)),(1,.cells 116 [dS a0,dN,dI a1.kind,J3 a1.name,dI a1.params,dI a1.ty.kind,dI a1.ty.index,J3 a1.ty.name,dS a1.ty.levels,dS a1.ty.kids,dI a1.value.kind,dI a1.value.index,J3 a1.value.name,dS a1.value.levels,dS a1.value.kids,dI a1.fixed,dS a1.ctors,dI a1.rcr.params,dI a1.rcr.ty.kind,dI a1.rcr.ty.index,J3 a1.rcr.ty.name,dS a1.rcr.ty.levels,dS a1.rcr.ty.kids,dS a1.rcr.rules,dS a1.funs])],[],2,161,[]⟩) (fun (v4:Bool)=>(ZK v4 a0 a1)=some r) ?_ ?_
 refine Qc h0 (fun w1_ h1 h0=>?_)
 refine Qe (b:=(a1.kind==1)) Z (fun c5=>?_) (fun c5=>?_)
 replace h1:=Qf c5 h1
 refine Qh ?_
 have e:=DW h1;subst e
 exact Q9 (a1.kind==1) (DV (Nat.zero_le _) Z Z Z Z Z) h0
 replace h1:=Qg c5 h1
 refine Q0<|DY Z Z Z (Q7 Z Z Z)<|rA Z Z Z<|Q5 ?_
 have e:=DW h1;subst e
 exact Q9 (a1.kind==2) (DV (Nat.zero_le _) Z Z Z Z Z) h0
 intro v4 h0
 unfold ZK at h0
 refine Q3 ?_
 refine Qe (b:=v4) Z (fun c6=>?_) (fun c6=>?_)
 replace h0:=Qf c6 h0
 refine Q4<|Q0<|DY Z Z Z (Qk Z0 Z Z Z Z)<|DY Z Z Z (Q2 Gk Z)<|DY Z Z Z (Qk QU Z Z Z Z)<|DY Z Z Z (Q2 Jx Z)<|DY Z Z Z (Q6 QI Z Z Z) ?_
 refine Qc h0 (fun x7 hx7 h0=>?_)
 refine Qa Z Z (lb Z) (Qi (Kn (⟨a0,([]:List Bs),a1⟩:Rsc) a1.value 0 a1.params x7 hx7) Z (.cons (.agg (.cons (.d _) (.cons (.nil _) (.cons (.d _) (.cons (.d _) (.cons (.d _) (.cons (.d _) (.cons (.d _) (.cons (.d _) (.cons (.d _) (.cons (.d _) (.cons (.d _) (.cons (.d _) (.cons (.d _) (.cons (.d _) (.cons (.d _) (.cons (.d _) (.cons (.d _) (.cons (.d _) (.cons (.d _) (.cons (.d _) (.cons (.d _) (.cons (.d _) (.cons (.d _) (.cons (.d _) (.cons (.d _) .nil)))))))))))))))))))))))))) (.cons (.agg (.cons (.d _) (.cons (.d _) (.cons (.d _) (.cons (.d _) (.cons (.d _) .nil)))))) (.cons (.one (.d _)) (.cons (.one (.d _)) .nil)))))<|rA Z Z Z<|Q5<|Q3<|Qp ?_
 have e:=DW h0;subst e
 exact Qo (fun _ _ h=>h) Z (Qn Z .nil) (.cons (.one (.d _)) .nil)
 replace h0:=Qg c6 h0
 refine Q4<|Q0<|DY Z Z Z (Q7 Z Z Z)<|rA Z Z Z<|Q5<|Q3 ?_
 refine Qe (b:=(a1.kind==3)) Z (fun c8=>?_) (fun c8=>?_)
 replace h0:=Qf c8 h0
 refine Q4<|Q0<|DY Z Z Z (Q2 JU Z)<|DY Z Z Z (Q6 JK Z Z Z)<|Qa Z Z (lb Z) (JO (α:=Bs) (a1.name) Y9 UG Z Z (lb Z) (lb Z) Z Z (.cons (.d _) .nil) Z)<|DY Z Z Z (Q2 ZS Z)<|QA Z Z (Qz Ws Z Z Z Z (lb Z) Z)<|Q5<|Q3<|Q4<|Q4<|Q0<|rA Z Z Z<|Q5 ?_
 refine Q3<|Ql ?_
 refine QS 1 (fun (o9:Unit)=>⟨[(3,.v (.one (.ptr 0 0))),(5,.v (.one (.ptr 1 0)))],[(0,.cells 45 (cE a1)),(1,.cells 116 [dS a0,dA 2 ([a1.name]:List Bs),dI a1.kind,J3 a1.name,dI a1.params,dI a1.ty.kind,dI a1.ty.index,J3 a1.ty.name,dS a1.ty.levels,dS a1.ty.kids,dI a1.value.kind,dI a1.value.index,J3 a1.value.name,dS a1.value.levels,dS a1.value.kids,dI a1.fixed,dS a1.ctors,dI a1.rcr.params,dI a1.rcr.ty.kind,dI a1.rcr.ty.index,J3 a1.rcr.ty.name,dS a1.rcr.ty.levels,dS a1.rcr.ty.kids,dS a1.rcr.rules,dS a1.funs])],[(2,some ⟨9,1,(Enc.encL ([a1.name]:List Bs)).length,[]⟩)],3,161,[]⟩) (fun (o9:Unit)=>(Xj a1 a0)=some r) ?_ ?_
 refine Qc h0 (fun o10 hl1 h0=>?_)
 refine QR (GX a1 a0) (fun s1=>⟨[(3,.v (.one (.ptr 0 0))),(5,.v (.one (.ptr 1 0))),(7,.v (.one (dI s1)))],[(0,.cells 45 (cE a1)),(1,.cells 116 [dS a0,dA 2 ([a1.name]:List Bs),dI a1.kind,J3 a1.name,dI a1.params,dI a1.ty.kind,dI a1.ty.index,J3 a1.ty.name,dS a1.ty.levels,dS a1.ty.kids,dI a1.value.kind,dI a1.value.index,J3 a1.value.name,dS a1.value.levels,dS a1.value.kids,dI a1.fixed,dS a1.ctors,dI a1.rcr.params,dI a1.rcr.ty.kind,dI a1.rcr.ty.index,J3 a1.rcr.ty.name,dS a1.rcr.ty.levels,dS a1.rcr.ty.kids,dS a1.rcr.rules,dS a1.funs])],[(2,some ⟨9,1,(Enc.encL ([a1.name]:List Bs)).length,[]⟩)],3,161,[]⟩) 0 o10 (DV (Nat.zero_le _) Z Z Z Z Z) hl1 (fun s1 n1 oo1 h1 ho1=>?_)
 unfold GX at h1
 refine Q4<|Q4<|Q0<|DZ Z Z Z<|DY Z Z Z (Q2 JC Z)<|DY Z Z Z (Q6 Ys Z Z Z)<|DY Z Z Z (Qx (α:=Ctr) Y1 Z (.d _))<|DY Z Z Z (Q7 Z Z Z)<|Q5<|Q3 ?_
 refine Qe (b:=(decide (s1 < (a1.ctors.length:Int)))) Z (fun c11=>?_) (fun c11=>?_)
 replace h1:=Qf c11 h1
 refine Qh<|Q3<|Q4<|Ql<|Q4 ?_
 refine J6 [] [] JT (by kernel_rfl) (by kernel_rfl) (by kernel_rfl) ?_
 refine RunA.rd Z Z Z (Q1 (Qk Z0 Z Z Z Z)) Z<|RunA.rd Z Z Z (Q1 (Q2 JC Z)) Z<|RunA.rd Z Z Z (Q1 (Q6 Ys Z Z Z)) Z<|RunA.rd Z Z Z (Q1 (Qr Z)) Z ?_
 refine Qc h1 (fun x12 hx12 h1=>?_)
 refine RunA.rd Z Z Z (Q1 (Qt (α:=Ctr) Y1 Z (.d _) Z hx12)) Z<|RunA.rd Z Z Z (Q1 (J8 Zk Z)) Z<|RunA.rd Z Z Z (Q1 (Jw QU Z Z Z)) Z<|RunA.rd Z Z Z (Q1 (Q2 Jx Z)) Z<|RunA.rd Z Z Z (Q1 (Q6 QI Z Z Z)) Z ?_
 refine Qc h1 (fun x13 hx13 h1=>?_)
 refine RunA.rd Z Z Z (Qi (Kn (⟨a0,[a1.name],a1⟩:Rsc) x12.ty 0 a1.params x13 hx13) Z (.cons (.agg (.cons (.d _) (.cons (.app _ _ _) (.cons (.d _) (.cons (.d _) (.cons (.d _) (.cons (.d _) (.cons (.d _) (.cons (.d _) (.cons (.d _) (.cons (.d _) (.cons (.d _) (.cons (.d _) (.cons (.d _) (.cons (.d _) (.cons (.d _) (.cons (.d _) (.cons (.d _) (.cons (.d _) (.cons (.d _) (.cons (.d _) (.cons (.d _) (.cons (.d _) (.cons (.d _) (.cons (.d _) (.cons (.d _) .nil)))))))))))))))))))))))))) (.cons (.agg (.cons (.d _) (.cons (.d _) (.cons (.d _) (.cons (.d _) (.cons (.d _) .nil)))))) (.cons (.one (.d _)) (.cons (.one (.d _)) .nil))))) Z<|RunA.rd Z Z Z (Q1 (Jf Z)) Z ?_
 refine RunA.nil ⟨?ex,_,_,Z,?_⟩
 case ex=>exact trivial
 refine Jo (st':=⟨[(3,.v (.one (.ptr 0 0))),(5,.v (.one (.ptr 1 0))),(7,.v (.one (dI s1))),(8,.v (.one (dI x13)))],[(0,.cells 45 (cE a1)),(1,.cells 116 [dS a0,dA 2 ([a1.name]:List Bs),dI a1.kind,J3 a1.name,dI a1.params,dI a1.ty.kind,dI a1.ty.index,J3 a1.ty.name,dS a1.ty.levels,dS a1.ty.kids,dI a1.value.kind,dI a1.value.index,J3 a1.value.name,dS a1.value.levels,dS a1.value.kids,dI a1.fixed,dS a1.ctors,dI a1.rcr.params,dI a1.rcr.ty.kind,dI a1.rcr.ty.index,J3 a1.rcr.ty.name,dS a1.rcr.ty.levels,dS a1.rcr.ty.kids,dS a1.rcr.rules,dS a1.funs])],[(2,some ⟨9,1,(Enc.encL ([a1.name]:List Bs)).length,[]⟩)],3,161,[]⟩) (DV (Nat.zero_le _) Z Z Z Z Z)<|Q3<|Q4<|Q0<|DZ Z Z Z<|DY Z Z Z (Q7 Z Z Z)<|Q5<|Q3 ?_
 refine Qe (b:=(x13 != 0)) Z (fun c14=>?_) (fun c14=>?_)
 replace h1:=Qf c14 h1
 refine Q4<|Q0<|DZ Z Z Z<|rA Z Z Z<|Q5<|Q3<|Qp ?_
 have e:=DW h1;subst e
 have e_:_=_:=ho1
 subst e_
 try dsimp only [Sum.elim_inl,Sum.elim_inr] at h0
 have e:=DW h0;subst e
 exact Qo (fun _ _ h=>h) Z (Qn Z .nil) (.cons (.one (.d _)) .nil)
 replace h1:=Qg c14 h1
 refine Qh<|Qj<|Q3<|Q0<|DZ Z Z Z<|DY Z Z Z (Q7 Z Z Z)<|rA Z Z Z<|Q5 ?_
 have e:=DW h1;subst e
 refine QL (Jb (s1+1)) (DV (Nat.zero_le _) Z Z Z Z Z) ho1
 replace h1:=Qg c11 h1
 refine QW<|Qq<|Qq ?_
 have e:=DW h1;subst e
 have e_:_=_:=ho1
 subst e_
 exact QQ () (DV (Nat.zero_le _) Z Z Z Z Z) h0
 intro o9 h0
 unfold Xj at h0
 refine QF<|Q3<|Q4<|Q0<|DY Z Z Z (QH (a1:Dcl) JE Z Z) ?_
 refine Qc h0 (fun x15 hx15 h0=>?_)
 refine Qa Z Z (lb Z) (Qi (WD a1 x15 hx15) Z (.cons (.agg (.cons (.d _) (.cons (.d _) (.cons (.d _) (.cons (.d _) (.cons (.d _) (.cons (.d _) (.cons (.d _) (.cons (.d _) (.cons (.d _) (.cons (.d _) (.cons (.d _) (.cons (.d _) (.cons (.d _) (.cons (.d _) (.cons (.d _) (.cons (.d _) (.cons (.d _) (.cons (.d _) (.cons (.d _) (.cons (.d _) (.cons (.d _) (.cons (.d _) (.cons (.d _) .nil)))))))))))))))))))))))) .nil))<|rA Z Z Z<|Q5<|Q3<|Q4<|Q0<|DZ Z Z Z<|DZ Z Z Z<|DY Z Z Z (Qx (α:=Bs) Y9 Z (.d _))<|DY Z Z Z (Q7 Z Z Z) ?_
 refine Yo h0 (fun g16 h0=>?_)
 refine DY Z Z Z (G7 (α:=Bs) Y9 Z (.d _) Z g16)<|DY Z Z Z (Q2 ZS Z)<|QA Z Z (Qz Ws Z Z Z Z (lb Z) Z)<|Q5<|Q3<|Q4<|Q4<|Q0<|DY Z Z Z (Qk Z0 Z Z Z Z)<|DY Z Z Z (Q2 Jn Z)<|DY Z Z Z (Q2 ZR Z)<|DY Z Z Z (Qk QU Z Z Z Z)<|DY Z Z Z (Q2 Jn Z)<|DY Z Z Z (Q2 YS Z) ?_
 refine DY Z Z Z (Q6 QI Z Z Z) ?_
 refine Qc h0 (fun x17 hx17 h0=>?_)
 refine Qa Z Z (lb Z) (Qi (Kn (⟨a0,(x15.take (Jb ((x15.length:Int) - 1)).toNat),a1⟩:Rsc) a1.rcr.ty 0 a1.rcr.params x17 hx17) Z (.cons (.agg (.cons (.d _) (.cons (.d _) (.cons (.d _) (.cons (.d _) (.cons (.d _) (.cons (.d _) (.cons (.d _) (.cons (.d _) (.cons (.d _) (.cons (.d _) (.cons (.d _) (.cons (.d _) (.cons (.d _) (.cons (.d _) (.cons (.d _) (.cons (.d _) (.cons (.d _) (.cons (.d _) (.cons (.d _) (.cons (.d _) (.cons (.d _) (.cons (.d _) (.cons (.d _) (.cons (.d _) (.cons (.d _) .nil)))))))))))))))))))))))))) (.cons (.agg (.cons (.d _) (.cons (.d _) (.cons (.d _) (.cons (.d _) (.cons (.d _) .nil)))))) (.cons (.one (.d _)) (.cons (.one (.d _)) .nil)))))<|rA Z Z Z<|Q5<|Q3<|Q4<|Q0<|DZ Z Z Z<|DY Z Z Z (Q7 Z Z Z)<|Q5<|Q3 ?_
 refine Qe (b:=(x17 != 0)) Z (fun c18=>?_) (fun c18=>?_)
 replace h0:=Qf c18 h0
 refine Q4<|Q0<|DZ Z Z Z<|rA Z Z Z<|Q5<|Q3<|Qp ?_
 have e:=DW h0;subst e
 exact Qo (fun _ _ h=>h) Z (Qn Z .nil) (.cons (.one (.d _)) .nil)
 replace h0:=Qg c18 h0
 refine Qh<|Q3<|Q4<|Q0<|DZ Z Z Z<|DY Z Z Z (Q2 ZS Z)<|QA Z Z (Qz Ws Z Z Z Z (lb Z) Z)<|Q5<|Q3<|Q4<|Q0<|rA Z Z Z<|Q5<|Q3 ?_
 refine Ql ?_
 refine QS 3 (fun (o19:Unit)=>⟨[],[(0,.cells 45 (cE a1)),(1,.cells 116 [dS a0,dS x15,dI a1.kind,J3 a1.name,dI a1.params,dI a1.ty.kind,dI a1.ty.index,J3 a1.ty.name,dS a1.ty.levels,dS a1.ty.kids,dI a1.value.kind,dI a1.value.index,J3 a1.value.name,dS a1.value.levels,dS a1.value.kids,dI a1.fixed,dS a1.ctors,dI a1.rcr.params,dI a1.rcr.ty.kind,dI a1.rcr.ty.index,J3 a1.rcr.ty.name,dS a1.rcr.ty.levels,dS a1.rcr.ty.kids,dS a1.rcr.rules,dS a1.funs])],[(2,some ⟨9,1,(Enc.encL ([a1.name]:List Bs)).length,[]⟩)],3,161,[]⟩) (fun (o19:Unit)=>(some 0)=some r) ?_ ?_
 refine Qc h0 (fun o20 hl1 h0=>?_)
 refine QR (GW a1 a0 x15) (fun s1=>⟨[(3,.v (.one (.ptr 0 0))),(5,.v (.one (.ptr 1 0))),(11,.v (.one (dI s1)))],[(0,.cells 45 (cE a1)),(1,.cells 116 [dS a0,dS x15,dI a1.kind,J3 a1.name,dI a1.params,dI a1.ty.kind,dI a1.ty.index,J3 a1.ty.name,dS a1.ty.levels,dS a1.ty.kids,dI a1.value.kind,dI a1.value.index,J3 a1.value.name,dS a1.value.levels,dS a1.value.kids,dI a1.fixed,dS a1.ctors,dI a1.rcr.params,dI a1.rcr.ty.kind,dI a1.rcr.ty.index,J3 a1.rcr.ty.name,dS a1.rcr.ty.levels,dS a1.rcr.ty.kids,dS a1.rcr.rules,dS a1.funs])],[(2,some ⟨9,1,(Enc.encL ([a1.name]:List Bs)).length,[]⟩)],3,161,[]⟩) 0 o20 (DV (Nat.zero_le _) Z Z Z Z Z) hl1 (fun s1 n1 oo1 h1 ho1=>?_)
 unfold GW at h1
 refine Q4<|Q4<|Q0<|DZ Z Z Z<|DY Z Z Z (Q2 Jn Z)<|DY Z Z Z (Q2 Zd Z)<|DY Z Z Z (Q6 JH Z Z Z)<|DY Z Z Z (Qx (α:=Tm) Jk Z (.d _))<|DY Z Z Z (Q7 Z Z Z)<|Q5<|Q3 ?_
 refine Qe (b:=(decide (s1 < (a1.rcr.rules.length:Int)))) Z (fun c21=>?_) (fun c21=>?_)
 replace h1:=Qf c21 h1
 refine Qh<|Q3<|Q4<|Ql<|Q4 ?_
 refine J6 [] [] JT (by kernel_rfl) (by kernel_rfl) (by kernel_rfl) ?_
 refine RunA.rd Z Z Z (Q1 (Qk Z0 Z Z Z Z)) Z<|RunA.rd Z Z Z (Q1 (Q2 Jn Z)) Z<|RunA.rd Z Z Z (Q1 (Q2 Zd Z)) Z<|RunA.rd Z Z Z (Q1 (Q6 JH Z Z Z)) Z<|RunA.rd Z Z Z (Q1 (Qr Z)) Z ?_
 refine Qc h1 (fun x22 hx22 h1=>?_)
 refine RunA.rd Z Z Z (Q1 (Qt (α:=Tm) Jk Z (.d _) Z hx22)) Z<|RunA.rd Z Z Z (Q1 (Qw (x22:Tm) QU Z)) Z<|RunA.rd Z Z Z (Q1 (Q2 Jn Z)) Z<|RunA.rd Z Z Z (Q1 (Q2 YS Z)) Z<|RunA.rd Z Z Z (Q1 (Q6 QI Z Z Z)) Z ?_
 refine Qc h1 (fun x23 hx23 h1=>?_)
 refine RunA.rd Z Z Z (Qi (Kn (⟨a0,x15,a1⟩:Rsc) x22 0 a1.rcr.params x23 hx23) Z (.cons (.agg (.cons (.d _) (.cons (.d _) (.cons (.d _) (.cons (.d _) (.cons (.d _) (.cons (.d _) (.cons (.d _) (.cons (.d _) (.cons (.d _) (.cons (.d _) (.cons (.d _) (.cons (.d _) (.cons (.d _) (.cons (.d _) (.cons (.d _) (.cons (.d _) (.cons (.d _) (.cons (.d _) (.cons (.d _) (.cons (.d _) (.cons (.d _) (.cons (.d _) (.cons (.d _) (.cons (.d _) (.cons (.d _) .nil)))))))))))))))))))))))))) (.cons (.agg (.cons (.d _) (.cons (.d _) (.cons (.d _) (.cons (.d _) (.cons (.d _) .nil)))))) (.cons (.one (.d _)) (.cons (.one (.d _)) .nil))))) Z<|RunA.rd Z Z Z (Q1 (Jf Z)) Z ?_
 refine RunA.nil ⟨?ex,_,_,Z,?_⟩
 case ex=>exact trivial
 refine Jo (st':=⟨[(3,.v (.one (.ptr 0 0))),(5,.v (.one (.ptr 1 0))),(11,.v (.one (dI s1))),(12,.v (.one (dI x23)))],[(0,.cells 45 (cE a1)),(1,.cells 116 [dS a0,dS x15,dI a1.kind,J3 a1.name,dI a1.params,dI a1.ty.kind,dI a1.ty.index,J3 a1.ty.name,dS a1.ty.levels,dS a1.ty.kids,dI a1.value.kind,dI a1.value.index,J3 a1.value.name,dS a1.value.levels,dS a1.value.kids,dI a1.fixed,dS a1.ctors,dI a1.rcr.params,dI a1.rcr.ty.kind,dI a1.rcr.ty.index,J3 a1.rcr.ty.name,dS a1.rcr.ty.levels,dS a1.rcr.ty.kids,dS a1.rcr.rules,dS a1.funs])],[(2,some ⟨9,1,(Enc.encL ([a1.name]:List Bs)).length,[]⟩)],3,161,[]⟩) (DV (Nat.zero_le _) Z Z Z Z Z)<|Q3<|Q4<|Q0<|DZ Z Z Z<|DY Z Z Z (Q7 Z Z Z)<|Q5<|Q3 ?_
 refine Qe (b:=(x23 != 0)) Z (fun c24=>?_) (fun c24=>?_)
 replace h1:=Qf c24 h1
 refine Q4<|Q0<|DZ Z Z Z<|rA Z Z Z<|Q5<|Q3<|Qp ?_
 have e:=DW h1;subst e
 have e_:_=_:=ho1
 subst e_
 try dsimp only [Sum.elim_inl,Sum.elim_inr] at h0
 have e:=DW h0;subst e
 exact Qo (fun _ _ h=>h) Z (Qn Z .nil) (.cons (.one (.d _)) .nil)
 replace h1:=Qg c24 h1
 refine Qh<|Qj<|Q3<|Q0<|DZ Z Z Z<|DY Z Z Z (Q7 Z Z Z)<|rA Z Z Z<|Q5 ?_
 have e:=DW h1;subst e
 refine QL (Jb (s1+1)) (DV (Nat.zero_le _) Z Z Z Z Z) ho1
 replace h1:=Qg c21 h1
 refine QW<|Qq<|Qq ?_
 have e:=DW h1;subst e
 have e_:_=_:=ho1
 subst e_
 exact QQ () (DV (Nat.zero_le _) Z Z Z Z Z) h0
 intro o19 h0
 refine QF<|Qj<|Q3<|Q4<|Q0<|rA Z Z Z<|Q5<|Q3<|Qp ?_
 have e:=DW h0;subst e
 exact Qo (fun _ _ h=>h) Z (Qn Z .nil) (.cons (.one (.d _)) .nil)
 replace h0:=Qg c8 h0
 refine Q4<|Q0<|DY Z Z Z (Q7 Z Z Z)<|rA Z Z Z<|Q5<|Q3 ?_
 refine Qe (b:=(a1.kind==4)) Z (fun c25=>?_) (fun c25=>?_)
 replace h0:=Qf c25 h0
 refine Q4<|Q4<|Q0<|rA Z Z Z<|Q5<|Q3<|Ql ?_
 refine QS 5 (fun (o26:Unit)=>⟨[(3,.v (.one (.ptr 0 0))),(5,.v (.one (.ptr 1 0)))],[(0,.cells 45 (cE a1)),(1,.cells 116 [dS a0,dN,dI a1.kind,J3 a1.name,dI a1.params,dI a1.ty.kind,dI a1.ty.index,J3 a1.ty.name,dS a1.ty.levels,dS a1.ty.kids,dI a1.value.kind,dI a1.value.index,J3 a1.value.name,dS a1.value.levels,dS a1.value.kids,dI a1.fixed,dS a1.ctors,dI a1.rcr.params,dI a1.rcr.ty.kind,dI a1.rcr.ty.index,J3 a1.rcr.ty.name,dS a1.rcr.ty.levels,dS a1.rcr.ty.kids,dS a1.rcr.rules,dS a1.funs])],[],2,161,[]⟩) (fun (o26:Unit)=>(Option.bind (D7 a1) fun (x27:(List Bs)) =>
   Option.bind (QE (Gs a1 a0 x27) QV 0) (Sum.elim (fun (o28:Unit)=>some 0) (fun o=>some o)))=some r) ?_ ?_
 refine Qc h0 (fun o27 hl1 h0=>?_)
 refine QR (Xi a1 a0) (fun s1=>⟨[(3,.v (.one (.ptr 0 0))),(5,.v (.one (.ptr 1 0))),(13,.v (.one (dI s1)))],[(0,.cells 45 (cE a1)),(1,.cells 116 [dS a0,dN,dI a1.kind,J3 a1.name,dI a1.params,dI a1.ty.kind,dI a1.ty.index,J3 a1.ty.name,dS a1.ty.levels,dS a1.ty.kids,dI a1.value.kind,dI a1.value.index,J3 a1.value.name,dS a1.value.levels,dS a1.value.kids,dI a1.fixed,dS a1.ctors,dI a1.rcr.params,dI a1.rcr.ty.kind,dI a1.rcr.ty.index,J3 a1.rcr.ty.name,dS a1.rcr.ty.levels,dS a1.rcr.ty.kids,dS a1.rcr.rules,dS a1.funs])],[],2,161,[]⟩) 0 o27 (DV (Nat.zero_le _) Z Z Z Z Z) hl1 (fun s1 n1 oo1 h1 ho1=>?_)
 unfold Xi at h1
 refine Q4<|Q4<|Q0<|DZ Z Z Z<|DY Z Z Z (Q2 Jr Z)<|DY Z Z Z (Q6 Ya Z Z Z)<|DY Z Z Z (Qx (α:=Fn) JR Z (.d _))<|DY Z Z Z (Q7 Z Z Z)<|Q5<|Q3 ?_
 refine Qe (b:=(decide (s1 < (a1.funs.length:Int)))) Z (fun c28=>?_) (fun c28=>?_)
 replace h1:=Qf c28 h1
 refine Qh<|Q3<|Q4<|Ql<|Q4 ?_
 refine J6 [] [] JT (by kernel_rfl) (by kernel_rfl) (by kernel_rfl) ?_
 refine RunA.rd Z Z Z (Q1 (Qk Z0 Z Z Z Z)) Z<|RunA.rd Z Z Z (Q1 (Q2 Jr Z)) Z<|RunA.rd Z Z Z (Q1 (Q6 Ya Z Z Z)) Z<|RunA.rd Z Z Z (Q1 (Qr Z)) Z ?_
 refine Qc h1 (fun x29 hx29 h1=>?_)
 refine RunA.rd Z Z Z (Q1 (Qt (α:=Fn) JR Z (.d _) Z hx29)) Z<|RunA.rd Z Z Z (Q1 (J8 Ky Z)) Z<|RunA.rd Z Z Z (Q1 (Jw QU Z Z Z)) Z<|RunA.rd Z Z Z (Q1 (Q2 Jx Z)) Z<|RunA.rd Z Z Z (Q1 (Q6 QI Z Z Z)) Z ?_
 refine Qc h1 (fun x30 hx30 h1=>?_)
 refine RunA.rd Z Z Z (Qi (Kn (⟨a0,([]:List Bs),a1⟩:Rsc) x29.ty 0 a1.params x30 hx30) Z (.cons (.agg (.cons (.d _) (.cons (.nil _) (.cons (.d _) (.cons (.d _) (.cons (.d _) (.cons (.d _) (.cons (.d _) (.cons (.d _) (.cons (.d _) (.cons (.d _) (.cons (.d _) (.cons (.d _) (.cons (.d _) (.cons (.d _) (.cons (.d _) (.cons (.d _) (.cons (.d _) (.cons (.d _) (.cons (.d _) (.cons (.d _) (.cons (.d _) (.cons (.d _) (.cons (.d _) (.cons (.d _) (.cons (.d _) .nil)))))))))))))))))))))))))) (.cons (.agg (.cons (.d _) (.cons (.d _) (.cons (.d _) (.cons (.d _) (.cons (.d _) .nil)))))) (.cons (.one (.d _)) (.cons (.one (.d _)) .nil))))) Z<|RunA.rd Z Z Z (Q1 (Jf Z)) Z ?_
 refine RunA.nil ⟨?ex,_,_,Z,?_⟩
 case ex=>exact trivial
 refine Jo (st':=⟨[(3,.v (.one (.ptr 0 0))),(5,.v (.one (.ptr 1 0))),(13,.v (.one (dI s1))),(14,.v (.one (dI x30)))],[(0,.cells 45 (cE a1)),(1,.cells 116 [dS a0,dN,dI a1.kind,J3 a1.name,dI a1.params,dI a1.ty.kind,dI a1.ty.index,J3 a1.ty.name,dS a1.ty.levels,dS a1.ty.kids,dI a1.value.kind,dI a1.value.index,J3 a1.value.name,dS a1.value.levels,dS a1.value.kids,dI a1.fixed,dS a1.ctors,dI a1.rcr.params,dI a1.rcr.ty.kind,dI a1.rcr.ty.index,J3 a1.rcr.ty.name,dS a1.rcr.ty.levels,dS a1.rcr.ty.kids,dS a1.rcr.rules,dS a1.funs])],[],2,161,[]⟩) (DV (Nat.zero_le _) Z Z Z Z Z)<|Q3<|Q4<|Q0<|DZ Z Z Z<|DY Z Z Z (Q7 Z Z Z)<|Q5<|Q3 ?_
 refine Qe (b:=(x30 != 0)) Z (fun c31=>?_) (fun c31=>?_)
 replace h1:=Qf c31 h1
 refine Q4<|Q0<|DZ Z Z Z<|rA Z Z Z<|Q5<|Q3<|Qp ?_
 have e:=DW h1;subst e
 have e_:_=_:=ho1
 subst e_
 try dsimp only [Sum.elim_inl,Sum.elim_inr] at h0
 have e:=DW h0;subst e
 exact Qo (fun _ _ h=>h) Z (Qn Z .nil) (.cons (.one (.d _)) .nil)
 replace h1:=Qg c31 h1
 refine Qh<|Qj<|Q3<|Q0<|DZ Z Z Z<|DY Z Z Z (Q7 Z Z Z)<|rA Z Z Z<|Q5 ?_
 have e:=DW h1;subst e
 refine QL (Jb (s1+1)) (DV (Nat.zero_le _) Z Z Z Z Z) ho1
 replace h1:=Qg c28 h1
 refine QW<|Qq<|Qq ?_
 have e:=DW h1;subst e
 have e_:_=_:=ho1
 subst e_
 exact QQ () (DV (Nat.zero_le _) Z Z Z Z Z) h0
 intro o26 h0
 refine QF<|Q3<|Q4<|Q0<|DY Z Z Z (QH (a1:Dcl) JE Z Z) ?_
 refine Qc h0 (fun x32 hx32 h0=>?_)
 refine Qa Z Z (lb Z) (Qi (WD a1 x32 hx32) Z (.cons (.agg (.cons (.d _) (.cons (.d _) (.cons (.d _) (.cons (.d _) (.cons (.d _) (.cons (.d _) (.cons (.d _) (.cons (.d _) (.cons (.d _) (.cons (.d _) (.cons (.d _) (.cons (.d _) (.cons (.d _) (.cons (.d _) (.cons (.d _) (.cons (.d _) (.cons (.d _) (.cons (.d _) (.cons (.d _) (.cons (.d _) (.cons (.d _) (.cons (.d _) (.cons (.d _) .nil)))))))))))))))))))))))) .nil))<|DY Z Z Z (Q2 ZS Z)<|QA Z Z (Qz Ws Z Z Z Z (lb Z) Z)<|Q5<|Q3<|Q4<|Q0<|rA Z Z Z<|Q5<|Q3<|Ql ?_
 refine QS 7 (fun (o33:Unit)=>⟨[],[(0,.cells 45 (cE a1)),(1,.cells 116 [dS a0,dS x32,dI a1.kind,J3 a1.name,dI a1.params,dI a1.ty.kind,dI a1.ty.index,J3 a1.ty.name,dS a1.ty.levels,dS a1.ty.kids,dI a1.value.kind,dI a1.value.index,J3 a1.value.name,dS a1.value.levels,dS a1.value.kids,dI a1.fixed,dS a1.ctors,dI a1.rcr.params,dI a1.rcr.ty.kind,dI a1.rcr.ty.index,J3 a1.rcr.ty.name,dS a1.rcr.ty.levels,dS a1.rcr.ty.kids,dS a1.rcr.rules,dS a1.funs])],[],2,161,[]⟩) (fun (o33:Unit)=>(some 0)=some r) ?_ ?_
 refine Qc h0 (fun o34 hl1 h0=>?_)
 refine QR (Gs a1 a0 x32) (fun s1=>⟨[(3,.v (.one (.ptr 0 0))),(5,.v (.one (.ptr 1 0))),(15,.v (.one (dI s1)))],[(0,.cells 45 (cE a1)),(1,.cells 116 [dS a0,dS x32,dI a1.kind,J3 a1.name,dI a1.params,dI a1.ty.kind,dI a1.ty.index,J3 a1.ty.name,dS a1.ty.levels,dS a1.ty.kids,dI a1.value.kind,dI a1.value.index,J3 a1.value.name,dS a1.value.levels,dS a1.value.kids,dI a1.fixed,dS a1.ctors,dI a1.rcr.params,dI a1.rcr.ty.kind,dI a1.rcr.ty.index,J3 a1.rcr.ty.name,dS a1.rcr.ty.levels,dS a1.rcr.ty.kids,dS a1.rcr.rules,dS a1.funs])],[],2,161,[]⟩) 0 o34 (DV (Nat.zero_le _) Z Z Z Z Z) hl1 (fun s1 n1 oo1 h1 ho1=>?_)
 unfold Gs at h1
 refine Q4<|Q4<|Q0<|DZ Z Z Z<|DY Z Z Z (Q2 Jr Z)<|DY Z Z Z (Q6 Ya Z Z Z)<|DY Z Z Z (Qx (α:=Fn) JR Z (.d _))<|DY Z Z Z (Q7 Z Z Z)<|Q5<|Q3 ?_
 refine Qe (b:=(decide (s1 < (a1.funs.length:Int)))) Z (fun c35=>?_) (fun c35=>?_)
 replace h1:=Qf c35 h1
 refine Qh<|Q3<|Q4<|Ql<|Q4 ?_
 refine J6 [] [] JT (by kernel_rfl) (by kernel_rfl) (by kernel_rfl) ?_
 refine RunA.rd Z Z Z (Q1 (Qk Z0 Z Z Z Z)) Z<|RunA.rd Z Z Z (Q1 (Q2 Jr Z)) Z<|RunA.rd Z Z Z (Q1 (Q6 Ya Z Z Z)) Z<|RunA.rd Z Z Z (Q1 (Qr Z)) Z ?_
 refine Qc h1 (fun x36 hx36 h1=>?_)
 refine RunA.rd Z Z Z (Q1 (Qt (α:=Fn) JR Z (.d _) Z hx36)) Z<|RunA.rd Z Z Z (Q1 (J8 fo_76_3 Z)) Z<|RunA.rd Z Z Z (Q1 (Jw X7 Z Z Z)) Z<|RunA.rd Z Z Z (Q1 (Q2 Jr Z)) Z<|RunA.rd Z Z Z (Q1 (Q6 Ya Z Z Z)) Z<|RunA.rd Z Z Z (Q1 (Qr Z)) Z ?_
 refine Qc h1 (fun x37 hx37 h1=>?_)
 refine RunA.rd Z Z Z (Q1 (Qt (α:=Fn) JR Z (.d _) Z hx37)) Z<|RunA.rd Z Z Z (Q1 (J8 X2 Z)) Z<|RunA.rd Z Z Z (Q1 (Ji QI Z Z)) Z ?_
 refine Qc h1 (fun x38 hx38 h1=>?_)
 refine RunA.rd Z Z Z (Qi (m73_ok (⟨a0,x32,a1⟩:Rsc) x36.tree x37.arity 0 x38 hx38) Z (.cons (.agg (.cons (.d _) (.cons (.d _) (.cons (.d _) (.cons (.d _) (.cons (.d _) (.cons (.d _) (.cons (.d _) (.cons (.d _) (.cons (.d _) (.cons (.d _) (.cons (.d _) (.cons (.d _) (.cons (.d _) (.cons (.d _) (.cons (.d _) (.cons (.d _) (.cons (.d _) (.cons (.d _) (.cons (.d _) (.cons (.d _) (.cons (.d _) (.cons (.d _) (.cons (.d _) (.cons (.d _) (.cons (.d _) .nil)))))))))))))))))))))))))) (.cons (.agg (.cons (.d _) (.cons (.d _) (.cons (.d _) (.cons (.d _) (.cons (.d _) (.cons (.d _) (.cons (.d _) (.cons (.d _) .nil))))))))) (.cons (.one (.d _)) (.cons (.one (.d _)) .nil))))) Z<|RunA.rd Z Z Z (Q1 (Jf Z)) Z ?_
 refine RunA.nil ⟨?ex,_,_,Z,?_⟩
 case ex=>exact trivial
 refine Jo (st':=⟨[(3,.v (.one (.ptr 0 0))),(5,.v (.one (.ptr 1 0))),(15,.v (.one (dI s1))),(16,.v (.one (dI x38)))],[(0,.cells 45 (cE a1)),(1,.cells 116 [dS a0,dS x32,dI a1.kind,J3 a1.name,dI a1.params,dI a1.ty.kind,dI a1.ty.index,J3 a1.ty.name,dS a1.ty.levels,dS a1.ty.kids,dI a1.value.kind,dI a1.value.index,J3 a1.value.name,dS a1.value.levels,dS a1.value.kids,dI a1.fixed,dS a1.ctors,dI a1.rcr.params,dI a1.rcr.ty.kind,dI a1.rcr.ty.index,J3 a1.rcr.ty.name,dS a1.rcr.ty.levels,dS a1.rcr.ty.kids,dS a1.rcr.rules,dS a1.funs])],[],2,161,[]⟩) (DV (Nat.zero_le _) Z Z Z Z Z)<|Q3<|Q4<|Q0<|DZ Z Z Z<|DY Z Z Z (Q7 Z Z Z)<|Q5<|Q3 ?_
 refine Qe (b:=(x38 != 0)) Z (fun c39=>?_) (fun c39=>?_)
 replace h1:=Qf c39 h1
 refine Q4<|Q0<|DZ Z Z Z<|rA Z Z Z<|Q5<|Q3<|Qp ?_
 have e:=DW h1;subst e
 have e_:_=_:=ho1
 subst e_
 try dsimp only [Sum.elim_inl,Sum.elim_inr] at h0
 have e:=DW h0;subst e
 exact Qo (fun _ _ h=>h) Z (Qn Z .nil) (.cons (.one (.d _)) .nil)
 replace h1:=Qg c39 h1
 refine Qh<|Qj<|Q3<|Q0<|DZ Z Z Z<|DY Z Z Z (Q7 Z Z Z)<|rA Z Z Z<|Q5 ?_
 have e:=DW h1;subst e
 refine QL (Jb (s1+1)) (DV (Nat.zero_le _) Z Z Z Z Z) ho1
 replace h1:=Qg c35 h1
 refine QW<|Qq<|Qq ?_
 have e:=DW h1;subst e
 have e_:_=_:=ho1
 subst e_
 exact QQ () (DV (Nat.zero_le _) Z Z Z Z Z) h0
 intro o33 h0
 refine QF<|Qj<|Q3<|Q4<|Q0<|rA Z Z Z<|Q5<|Q3<|Qp ?_
 have e:=DW h0;subst e
 exact Qo (fun _ _ h=>h) Z (Qn Z .nil) (.cons (.one (.d _)) .nil)
 replace h0:=Qg c25 h0
 refine Qh<|Qj<|Q3<|Q4<|Q0<|rA Z Z Z<|Q5<|Q3<|Qp ?_
 have e:=DW h0;subst e
 exact Qo (fun _ _ h=>h) Z (Qn Z .nil) (.cons (.one (.d _)) .nil)
 replace h0:=Qg c1 h0
 refine Qh<|Q3<|Q4<|Q4<|Q0<|DY Z Z Z (Q2 JP Z)<|DY Z Z Z (Q6 QI Z Z Z)<|Q5<|Q3<|Ql<|Q4<|Q4<|Q0<|DY Z Z Z (Q7 Z Z Z) ?_
 refine rA Z Z Z<|Q5<|Q3 ?_
 refine QC (fun (v40:Bool)=>⟨[(3,.v (.one (.ptr 0 0))),(5,.v (.one (.ptr 1 0))),(33,.v (.one (dI a1.kind))),(34,.v (.one (dB v40)))],[(0,.cells 45 (cE a1)),(1,.cells 116 [dS a0,dN,dI a1.kind,J3 a1.name,dI a1.params,dI a1.ty.kind,dI a1.ty.index,J3 a1.ty.name,dS a1.ty.levels,dS a1.ty.kids,dI a1.value.kind,dI a1.value.index,J3 a1.value.name,dS a1.value.levels,dS a1.value.kids,dI a1.fixed,dS a1.ctors,dI a1.rcr.params,dI a1.rcr.ty.kind,dI a1.rcr.ty.index,J3 a1.rcr.ty.name,dS a1.rcr.ty.levels,dS a1.rcr.ty.kids,dS a1.rcr.rules,dS a1.funs])],[],2,161,[]⟩) (fun (v40:Bool)=>(ZK v40 a0 a1)=some r) ?_ ?_
 refine Qc h0 (fun w1_ h1 h0=>?_)
 refine Qe (b:=(a1.kind==1)) Z (fun c41=>?_) (fun c41=>?_)
 replace h1:=Qf c41 h1
 refine Qh ?_
 have e:=DW h1;subst e
 exact Q9 (a1.kind==1) (DV (Nat.zero_le _) Z Z Z Z Z) h0
 replace h1:=Qg c41 h1
 refine Q0<|DY Z Z Z (Q7 Z Z Z)<|rA Z Z Z<|Q5 ?_
 have e:=DW h1;subst e
 exact Q9 (a1.kind==2) (DV (Nat.zero_le _) Z Z Z Z Z) h0
 intro v40 h0
 unfold ZK at h0
 refine Q3 ?_
 refine Qe (b:=v40) Z (fun c42=>?_) (fun c42=>?_)
 replace h0:=Qf c42 h0
 refine Q4<|Q0<|DY Z Z Z (Qk Z0 Z Z Z Z)<|DY Z Z Z (Q2 Gk Z)<|DY Z Z Z (Qk QU Z Z Z Z)<|DY Z Z Z (Q2 Jx Z)<|DY Z Z Z (Q6 QI Z Z Z) ?_
 refine Qc h0 (fun x43 hx43 h0=>?_)
 refine Qa Z Z (lb Z) (Qi (Kn (⟨a0,([]:List Bs),a1⟩:Rsc) a1.value 0 a1.params x43 hx43) Z (.cons (.agg (.cons (.d _) (.cons (.nil _) (.cons (.d _) (.cons (.d _) (.cons (.d _) (.cons (.d _) (.cons (.d _) (.cons (.d _) (.cons (.d _) (.cons (.d _) (.cons (.d _) (.cons (.d _) (.cons (.d _) (.cons (.d _) (.cons (.d _) (.cons (.d _) (.cons (.d _) (.cons (.d _) (.cons (.d _) (.cons (.d _) (.cons (.d _) (.cons (.d _) (.cons (.d _) (.cons (.d _) (.cons (.d _) .nil)))))))))))))))))))))))))) (.cons (.agg (.cons (.d _) (.cons (.d _) (.cons (.d _) (.cons (.d _) (.cons (.d _) .nil)))))) (.cons (.one (.d _)) (.cons (.one (.d _)) .nil)))))<|rA Z Z Z<|Q5<|Q3<|Qp ?_
 have e:=DW h0;subst e
 exact Qo (fun _ _ h=>h) Z (Qn Z .nil) (.cons (.one (.d _)) .nil)
 replace h0:=Qg c42 h0
 refine Q4<|Q0<|DY Z Z Z (Q7 Z Z Z)<|rA Z Z Z<|Q5<|Q3 ?_
 refine Qe (b:=(a1.kind==3)) Z (fun c44=>?_) (fun c44=>?_)
 replace h0:=Qf c44 h0
 refine Q4<|Q0<|DY Z Z Z (Q2 JU Z)<|DY Z Z Z (Q6 JK Z Z Z)<|Qa Z Z (lb Z) (JO (α:=Bs) (a1.name) Y9 UG Z Z (lb Z) (lb Z) Z Z (.cons (.d _) .nil) Z)<|DY Z Z Z (Q2 ZS Z)<|QA Z Z (Qz Ws Z Z Z Z (lb Z) Z)<|Q5<|Q3<|Q4<|Q4<|Q0<|rA Z Z Z<|Q5 ?_
 refine Q3<|Ql ?_
 refine QS 1 (fun (o45:Unit)=>⟨[(3,.v (.one (.ptr 0 0))),(5,.v (.one (.ptr 1 0)))],[(0,.cells 45 (cE a1)),(1,.cells 116 [dS a0,dA 2 ([a1.name]:List Bs),dI a1.kind,J3 a1.name,dI a1.params,dI a1.ty.kind,dI a1.ty.index,J3 a1.ty.name,dS a1.ty.levels,dS a1.ty.kids,dI a1.value.kind,dI a1.value.index,J3 a1.value.name,dS a1.value.levels,dS a1.value.kids,dI a1.fixed,dS a1.ctors,dI a1.rcr.params,dI a1.rcr.ty.kind,dI a1.rcr.ty.index,J3 a1.rcr.ty.name,dS a1.rcr.ty.levels,dS a1.rcr.ty.kids,dS a1.rcr.rules,dS a1.funs])],[(2,some ⟨9,1,(Enc.encL ([a1.name]:List Bs)).length,[]⟩)],3,161,[]⟩) (fun (o45:Unit)=>(Xj a1 a0)=some r) ?_ ?_
 refine Qc h0 (fun o46 hl1 h0=>?_)
 refine QR (GX a1 a0) (fun s1=>⟨[(3,.v (.one (.ptr 0 0))),(5,.v (.one (.ptr 1 0))),(7,.v (.one (dI s1)))],[(0,.cells 45 (cE a1)),(1,.cells 116 [dS a0,dA 2 ([a1.name]:List Bs),dI a1.kind,J3 a1.name,dI a1.params,dI a1.ty.kind,dI a1.ty.index,J3 a1.ty.name,dS a1.ty.levels,dS a1.ty.kids,dI a1.value.kind,dI a1.value.index,J3 a1.value.name,dS a1.value.levels,dS a1.value.kids,dI a1.fixed,dS a1.ctors,dI a1.rcr.params,dI a1.rcr.ty.kind,dI a1.rcr.ty.index,J3 a1.rcr.ty.name,dS a1.rcr.ty.levels,dS a1.rcr.ty.kids,dS a1.rcr.rules,dS a1.funs])],[(2,some ⟨9,1,(Enc.encL ([a1.name]:List Bs)).length,[]⟩)],3,161,[]⟩) 0 o46 (DV (Nat.zero_le _) Z Z Z Z Z) hl1 (fun s1 n1 oo1 h1 ho1=>?_)
 unfold GX at h1
 refine Q4<|Q4<|Q0<|DZ Z Z Z<|DY Z Z Z (Q2 JC Z)<|DY Z Z Z (Q6 Ys Z Z Z)<|DY Z Z Z (Qx (α:=Ctr) Y1 Z (.d _))<|DY Z Z Z (Q7 Z Z Z)<|Q5<|Q3 ?_
 refine Qe (b:=(decide (s1 < (a1.ctors.length:Int)))) Z (fun c47=>?_) (fun c47=>?_)
 replace h1:=Qf c47 h1
 refine Qh<|Q3<|Q4<|Ql<|Q4 ?_
 refine J6 [] [] JT (by kernel_rfl) (by kernel_rfl) (by kernel_rfl) ?_
 refine RunA.rd Z Z Z (Q1 (Qk Z0 Z Z Z Z)) Z<|RunA.rd Z Z Z (Q1 (Q2 JC Z)) Z<|RunA.rd Z Z Z (Q1 (Q6 Ys Z Z Z)) Z<|RunA.rd Z Z Z (Q1 (Qr Z)) Z ?_
 refine Qc h1 (fun x48 hx48 h1=>?_)
 refine RunA.rd Z Z Z (Q1 (Qt (α:=Ctr) Y1 Z (.d _) Z hx48)) Z<|RunA.rd Z Z Z (Q1 (J8 Zk Z)) Z<|RunA.rd Z Z Z (Q1 (Jw QU Z Z Z)) Z<|RunA.rd Z Z Z (Q1 (Q2 Jx Z)) Z<|RunA.rd Z Z Z (Q1 (Q6 QI Z Z Z)) Z ?_
 refine Qc h1 (fun x49 hx49 h1=>?_)
 refine RunA.rd Z Z Z (Qi (Kn (⟨a0,[a1.name],a1⟩:Rsc) x48.ty 0 a1.params x49 hx49) Z (.cons (.agg (.cons (.d _) (.cons (.app _ _ _) (.cons (.d _) (.cons (.d _) (.cons (.d _) (.cons (.d _) (.cons (.d _) (.cons (.d _) (.cons (.d _) (.cons (.d _) (.cons (.d _) (.cons (.d _) (.cons (.d _) (.cons (.d _) (.cons (.d _) (.cons (.d _) (.cons (.d _) (.cons (.d _) (.cons (.d _) (.cons (.d _) (.cons (.d _) (.cons (.d _) (.cons (.d _) (.cons (.d _) (.cons (.d _) .nil)))))))))))))))))))))))))) (.cons (.agg (.cons (.d _) (.cons (.d _) (.cons (.d _) (.cons (.d _) (.cons (.d _) .nil)))))) (.cons (.one (.d _)) (.cons (.one (.d _)) .nil))))) Z<|RunA.rd Z Z Z (Q1 (Jf Z)) Z ?_
 refine RunA.nil ⟨?ex,_,_,Z,?_⟩
 case ex=>exact trivial
 refine Jo (st':=⟨[(3,.v (.one (.ptr 0 0))),(5,.v (.one (.ptr 1 0))),(7,.v (.one (dI s1))),(8,.v (.one (dI x49)))],[(0,.cells 45 (cE a1)),(1,.cells 116 [dS a0,dA 2 ([a1.name]:List Bs),dI a1.kind,J3 a1.name,dI a1.params,dI a1.ty.kind,dI a1.ty.index,J3 a1.ty.name,dS a1.ty.levels,dS a1.ty.kids,dI a1.value.kind,dI a1.value.index,J3 a1.value.name,dS a1.value.levels,dS a1.value.kids,dI a1.fixed,dS a1.ctors,dI a1.rcr.params,dI a1.rcr.ty.kind,dI a1.rcr.ty.index,J3 a1.rcr.ty.name,dS a1.rcr.ty.levels,dS a1.rcr.ty.kids,dS a1.rcr.rules,dS a1.funs])],[(2,some ⟨9,1,(Enc.encL ([a1.name]:List Bs)).length,[]⟩)],3,161,[]⟩) (DV (Nat.zero_le _) Z Z Z Z Z)<|Q3<|Q4<|Q0<|DZ Z Z Z<|DY Z Z Z (Q7 Z Z Z)<|Q5<|Q3 ?_
 refine Qe (b:=(x49 != 0)) Z (fun c50=>?_) (fun c50=>?_)
 replace h1:=Qf c50 h1
 refine Q4<|Q0<|DZ Z Z Z<|rA Z Z Z<|Q5<|Q3<|Qp ?_
 have e:=DW h1;subst e
 have e_:_=_:=ho1
 subst e_
 try dsimp only [Sum.elim_inl,Sum.elim_inr] at h0
 have e:=DW h0;subst e
 exact Qo (fun _ _ h=>h) Z (Qn Z .nil) (.cons (.one (.d _)) .nil)
 replace h1:=Qg c50 h1
 refine Qh<|Qj<|Q3<|Q0<|DZ Z Z Z<|DY Z Z Z (Q7 Z Z Z)<|rA Z Z Z<|Q5 ?_
 have e:=DW h1;subst e
 refine QL (Jb (s1+1)) (DV (Nat.zero_le _) Z Z Z Z Z) ho1
 replace h1:=Qg c47 h1
 refine QW<|Qq<|Qq ?_
 have e:=DW h1;subst e
 have e_:_=_:=ho1
 subst e_
 exact QQ () (DV (Nat.zero_le _) Z Z Z Z Z) h0
 intro o45 h0
 unfold Xj at h0
 refine QF<|Q3<|Q4<|Q0<|DY Z Z Z (QH (a1:Dcl) JE Z Z) ?_
 refine Qc h0 (fun x51 hx51 h0=>?_)
 refine Qa Z Z (lb Z) (Qi (WD a1 x51 hx51) Z (.cons (.agg (.cons (.d _) (.cons (.d _) (.cons (.d _) (.cons (.d _) (.cons (.d _) (.cons (.d _) (.cons (.d _) (.cons (.d _) (.cons (.d _) (.cons (.d _) (.cons (.d _) (.cons (.d _) (.cons (.d _) (.cons (.d _) (.cons (.d _) (.cons (.d _) (.cons (.d _) (.cons (.d _) (.cons (.d _) (.cons (.d _) (.cons (.d _) (.cons (.d _) (.cons (.d _) .nil)))))))))))))))))))))))) .nil))<|rA Z Z Z<|Q5<|Q3<|Q4<|Q0<|DZ Z Z Z<|DZ Z Z Z<|DY Z Z Z (Qx (α:=Bs) Y9 Z (.d _))<|DY Z Z Z (Q7 Z Z Z) ?_
 refine Yo h0 (fun g52 h0=>?_)
 refine DY Z Z Z (G7 (α:=Bs) Y9 Z (.d _) Z g52)<|DY Z Z Z (Q2 ZS Z)<|QA Z Z (Qz Ws Z Z Z Z (lb Z) Z)<|Q5<|Q3<|Q4<|Q4<|Q0<|DY Z Z Z (Qk Z0 Z Z Z Z)<|DY Z Z Z (Q2 Jn Z)<|DY Z Z Z (Q2 ZR Z)<|DY Z Z Z (Qk QU Z Z Z Z)<|DY Z Z Z (Q2 Jn Z)<|DY Z Z Z (Q2 YS Z) ?_
 refine DY Z Z Z (Q6 QI Z Z Z) ?_
 refine Qc h0 (fun x53 hx53 h0=>?_)
 refine Qa Z Z (lb Z) (Qi (Kn (⟨a0,(x51.take (Jb ((x51.length:Int) - 1)).toNat),a1⟩:Rsc) a1.rcr.ty 0 a1.rcr.params x53 hx53) Z (.cons (.agg (.cons (.d _) (.cons (.d _) (.cons (.d _) (.cons (.d _) (.cons (.d _) (.cons (.d _) (.cons (.d _) (.cons (.d _) (.cons (.d _) (.cons (.d _) (.cons (.d _) (.cons (.d _) (.cons (.d _) (.cons (.d _) (.cons (.d _) (.cons (.d _) (.cons (.d _) (.cons (.d _) (.cons (.d _) (.cons (.d _) (.cons (.d _) (.cons (.d _) (.cons (.d _) (.cons (.d _) (.cons (.d _) .nil)))))))))))))))))))))))))) (.cons (.agg (.cons (.d _) (.cons (.d _) (.cons (.d _) (.cons (.d _) (.cons (.d _) .nil)))))) (.cons (.one (.d _)) (.cons (.one (.d _)) .nil)))))<|rA Z Z Z<|Q5<|Q3<|Q4<|Q0<|DZ Z Z Z<|DY Z Z Z (Q7 Z Z Z)<|Q5<|Q3 ?_
 refine Qe (b:=(x53 != 0)) Z (fun c54=>?_) (fun c54=>?_)
 replace h0:=Qf c54 h0
 refine Q4<|Q0<|DZ Z Z Z<|rA Z Z Z<|Q5<|Q3<|Qp ?_
 have e:=DW h0;subst e
 exact Qo (fun _ _ h=>h) Z (Qn Z .nil) (.cons (.one (.d _)) .nil)
 replace h0:=Qg c54 h0
 refine Qh<|Q3<|Q4<|Q0<|DZ Z Z Z<|DY Z Z Z (Q2 ZS Z)<|QA Z Z (Qz Ws Z Z Z Z (lb Z) Z)<|Q5<|Q3<|Q4<|Q0<|rA Z Z Z<|Q5<|Q3 ?_
 refine Ql ?_
 refine QS 3 (fun (o55:Unit)=>⟨[],[(0,.cells 45 (cE a1)),(1,.cells 116 [dS a0,dS x51,dI a1.kind,J3 a1.name,dI a1.params,dI a1.ty.kind,dI a1.ty.index,J3 a1.ty.name,dS a1.ty.levels,dS a1.ty.kids,dI a1.value.kind,dI a1.value.index,J3 a1.value.name,dS a1.value.levels,dS a1.value.kids,dI a1.fixed,dS a1.ctors,dI a1.rcr.params,dI a1.rcr.ty.kind,dI a1.rcr.ty.index,J3 a1.rcr.ty.name,dS a1.rcr.ty.levels,dS a1.rcr.ty.kids,dS a1.rcr.rules,dS a1.funs])],[(2,some ⟨9,1,(Enc.encL ([a1.name]:List Bs)).length,[]⟩)],3,161,[]⟩) (fun (o55:Unit)=>(some 0)=some r) ?_ ?_
 refine Qc h0 (fun o56 hl1 h0=>?_)
 refine QR (GW a1 a0 x51) (fun s1=>⟨[(3,.v (.one (.ptr 0 0))),(5,.v (.one (.ptr 1 0))),(11,.v (.one (dI s1)))],[(0,.cells 45 (cE a1)),(1,.cells 116 [dS a0,dS x51,dI a1.kind,J3 a1.name,dI a1.params,dI a1.ty.kind,dI a1.ty.index,J3 a1.ty.name,dS a1.ty.levels,dS a1.ty.kids,dI a1.value.kind,dI a1.value.index,J3 a1.value.name,dS a1.value.levels,dS a1.value.kids,dI a1.fixed,dS a1.ctors,dI a1.rcr.params,dI a1.rcr.ty.kind,dI a1.rcr.ty.index,J3 a1.rcr.ty.name,dS a1.rcr.ty.levels,dS a1.rcr.ty.kids,dS a1.rcr.rules,dS a1.funs])],[(2,some ⟨9,1,(Enc.encL ([a1.name]:List Bs)).length,[]⟩)],3,161,[]⟩) 0 o56 (DV (Nat.zero_le _) Z Z Z Z Z) hl1 (fun s1 n1 oo1 h1 ho1=>?_)
 unfold GW at h1
 refine Q4<|Q4<|Q0<|DZ Z Z Z<|DY Z Z Z (Q2 Jn Z)<|DY Z Z Z (Q2 Zd Z)<|DY Z Z Z (Q6 JH Z Z Z)<|DY Z Z Z (Qx (α:=Tm) Jk Z (.d _))<|DY Z Z Z (Q7 Z Z Z)<|Q5<|Q3 ?_
 refine Qe (b:=(decide (s1 < (a1.rcr.rules.length:Int)))) Z (fun c57=>?_) (fun c57=>?_)
 replace h1:=Qf c57 h1
 refine Qh<|Q3<|Q4<|Ql<|Q4 ?_
 refine J6 [] [] JT (by kernel_rfl) (by kernel_rfl) (by kernel_rfl) ?_
 refine RunA.rd Z Z Z (Q1 (Qk Z0 Z Z Z Z)) Z<|RunA.rd Z Z Z (Q1 (Q2 Jn Z)) Z<|RunA.rd Z Z Z (Q1 (Q2 Zd Z)) Z<|RunA.rd Z Z Z (Q1 (Q6 JH Z Z Z)) Z<|RunA.rd Z Z Z (Q1 (Qr Z)) Z ?_
 refine Qc h1 (fun x58 hx58 h1=>?_)
 refine RunA.rd Z Z Z (Q1 (Qt (α:=Tm) Jk Z (.d _) Z hx58)) Z<|RunA.rd Z Z Z (Q1 (Qw (x58:Tm) QU Z)) Z<|RunA.rd Z Z Z (Q1 (Q2 Jn Z)) Z<|RunA.rd Z Z Z (Q1 (Q2 YS Z)) Z<|RunA.rd Z Z Z (Q1 (Q6 QI Z Z Z)) Z ?_
 refine Qc h1 (fun x59 hx59 h1=>?_)
 refine RunA.rd Z Z Z (Qi (Kn (⟨a0,x51,a1⟩:Rsc) x58 0 a1.rcr.params x59 hx59) Z (.cons (.agg (.cons (.d _) (.cons (.d _) (.cons (.d _) (.cons (.d _) (.cons (.d _) (.cons (.d _) (.cons (.d _) (.cons (.d _) (.cons (.d _) (.cons (.d _) (.cons (.d _) (.cons (.d _) (.cons (.d _) (.cons (.d _) (.cons (.d _) (.cons (.d _) (.cons (.d _) (.cons (.d _) (.cons (.d _) (.cons (.d _) (.cons (.d _) (.cons (.d _) (.cons (.d _) (.cons (.d _) (.cons (.d _) .nil)))))))))))))))))))))))))) (.cons (.agg (.cons (.d _) (.cons (.d _) (.cons (.d _) (.cons (.d _) (.cons (.d _) .nil)))))) (.cons (.one (.d _)) (.cons (.one (.d _)) .nil))))) Z<|RunA.rd Z Z Z (Q1 (Jf Z)) Z ?_
 refine RunA.nil ⟨?ex,_,_,Z,?_⟩
 case ex=>exact trivial
 refine Jo (st':=⟨[(3,.v (.one (.ptr 0 0))),(5,.v (.one (.ptr 1 0))),(11,.v (.one (dI s1))),(12,.v (.one (dI x59)))],[(0,.cells 45 (cE a1)),(1,.cells 116 [dS a0,dS x51,dI a1.kind,J3 a1.name,dI a1.params,dI a1.ty.kind,dI a1.ty.index,J3 a1.ty.name,dS a1.ty.levels,dS a1.ty.kids,dI a1.value.kind,dI a1.value.index,J3 a1.value.name,dS a1.value.levels,dS a1.value.kids,dI a1.fixed,dS a1.ctors,dI a1.rcr.params,dI a1.rcr.ty.kind,dI a1.rcr.ty.index,J3 a1.rcr.ty.name,dS a1.rcr.ty.levels,dS a1.rcr.ty.kids,dS a1.rcr.rules,dS a1.funs])],[(2,some ⟨9,1,(Enc.encL ([a1.name]:List Bs)).length,[]⟩)],3,161,[]⟩) (DV (Nat.zero_le _) Z Z Z Z Z)<|Q3<|Q4<|Q0<|DZ Z Z Z<|DY Z Z Z (Q7 Z Z Z)<|Q5<|Q3 ?_
 refine Qe (b:=(x59 != 0)) Z (fun c60=>?_) (fun c60=>?_)
 replace h1:=Qf c60 h1
 refine Q4<|Q0<|DZ Z Z Z<|rA Z Z Z<|Q5<|Q3<|Qp ?_
 have e:=DW h1;subst e
 have e_:_=_:=ho1
 subst e_
 try dsimp only [Sum.elim_inl,Sum.elim_inr] at h0
 have e:=DW h0;subst e
 exact Qo (fun _ _ h=>h) Z (Qn Z .nil) (.cons (.one (.d _)) .nil)
 replace h1:=Qg c60 h1
 refine Qh<|Qj<|Q3<|Q0<|DZ Z Z Z<|DY Z Z Z (Q7 Z Z Z)<|rA Z Z Z<|Q5 ?_
 have e:=DW h1;subst e
 refine QL (Jb (s1+1)) (DV (Nat.zero_le _) Z Z Z Z Z) ho1
 replace h1:=Qg c57 h1
 refine QW<|Qq<|Qq ?_
 have e:=DW h1;subst e
 have e_:_=_:=ho1
 subst e_
 exact QQ () (DV (Nat.zero_le _) Z Z Z Z Z) h0
 intro o55 h0
 refine QF<|Qj<|Q3<|Q4<|Q0<|rA Z Z Z<|Q5<|Q3<|Qp ?_
 have e:=DW h0;subst e
 exact Qo (fun _ _ h=>h) Z (Qn Z .nil) (.cons (.one (.d _)) .nil)
 replace h0:=Qg c44 h0
 refine Q4<|Q0<|DY Z Z Z (Q7 Z Z Z)<|rA Z Z Z<|Q5<|Q3 ?_
 refine Qe (b:=(a1.kind==4)) Z (fun c61=>?_) (fun c61=>?_)
 replace h0:=Qf c61 h0
 refine Q4<|Q4<|Q0<|rA Z Z Z<|Q5<|Q3<|Ql ?_
 refine QS 5 (fun (o62:Unit)=>⟨[(3,.v (.one (.ptr 0 0))),(5,.v (.one (.ptr 1 0)))],[(0,.cells 45 (cE a1)),(1,.cells 116 [dS a0,dN,dI a1.kind,J3 a1.name,dI a1.params,dI a1.ty.kind,dI a1.ty.index,J3 a1.ty.name,dS a1.ty.levels,dS a1.ty.kids,dI a1.value.kind,dI a1.value.index,J3 a1.value.name,dS a1.value.levels,dS a1.value.kids,dI a1.fixed,dS a1.ctors,dI a1.rcr.params,dI a1.rcr.ty.kind,dI a1.rcr.ty.index,J3 a1.rcr.ty.name,dS a1.rcr.ty.levels,dS a1.rcr.ty.kids,dS a1.rcr.rules,dS a1.funs])],[],2,161,[]⟩) (fun (o62:Unit)=>(Option.bind (D7 a1) fun (x63:(List Bs)) =>
   Option.bind (QE (Gs a1 a0 x63) QV 0) (Sum.elim (fun (o64:Unit)=>some 0) (fun o=>some o)))=some r) ?_ ?_
 refine Qc h0 (fun o63 hl1 h0=>?_)
 refine QR (Xi a1 a0) (fun s1=>⟨[(3,.v (.one (.ptr 0 0))),(5,.v (.one (.ptr 1 0))),(13,.v (.one (dI s1)))],[(0,.cells 45 (cE a1)),(1,.cells 116 [dS a0,dN,dI a1.kind,J3 a1.name,dI a1.params,dI a1.ty.kind,dI a1.ty.index,J3 a1.ty.name,dS a1.ty.levels,dS a1.ty.kids,dI a1.value.kind,dI a1.value.index,J3 a1.value.name,dS a1.value.levels,dS a1.value.kids,dI a1.fixed,dS a1.ctors,dI a1.rcr.params,dI a1.rcr.ty.kind,dI a1.rcr.ty.index,J3 a1.rcr.ty.name,dS a1.rcr.ty.levels,dS a1.rcr.ty.kids,dS a1.rcr.rules,dS a1.funs])],[],2,161,[]⟩) 0 o63 (DV (Nat.zero_le _) Z Z Z Z Z) hl1 (fun s1 n1 oo1 h1 ho1=>?_)
 unfold Xi at h1
 refine Q4<|Q4<|Q0<|DZ Z Z Z<|DY Z Z Z (Q2 Jr Z)<|DY Z Z Z (Q6 Ya Z Z Z)<|DY Z Z Z (Qx (α:=Fn) JR Z (.d _))<|DY Z Z Z (Q7 Z Z Z)<|Q5<|Q3 ?_
 refine Qe (b:=(decide (s1 < (a1.funs.length:Int)))) Z (fun c64=>?_) (fun c64=>?_)
 replace h1:=Qf c64 h1
 refine Qh<|Q3<|Q4<|Ql<|Q4 ?_
 refine J6 [] [] JT (by kernel_rfl) (by kernel_rfl) (by kernel_rfl) ?_
 refine RunA.rd Z Z Z (Q1 (Qk Z0 Z Z Z Z)) Z<|RunA.rd Z Z Z (Q1 (Q2 Jr Z)) Z<|RunA.rd Z Z Z (Q1 (Q6 Ya Z Z Z)) Z<|RunA.rd Z Z Z (Q1 (Qr Z)) Z ?_
 refine Qc h1 (fun x65 hx65 h1=>?_)
 refine RunA.rd Z Z Z (Q1 (Qt (α:=Fn) JR Z (.d _) Z hx65)) Z<|RunA.rd Z Z Z (Q1 (J8 Ky Z)) Z<|RunA.rd Z Z Z (Q1 (Jw QU Z Z Z)) Z<|RunA.rd Z Z Z (Q1 (Q2 Jx Z)) Z<|RunA.rd Z Z Z (Q1 (Q6 QI Z Z Z)) Z ?_
 refine Qc h1 (fun x66 hx66 h1=>?_)
 refine RunA.rd Z Z Z (Qi (Kn (⟨a0,([]:List Bs),a1⟩:Rsc) x65.ty 0 a1.params x66 hx66) Z (.cons (.agg (.cons (.d _) (.cons (.nil _) (.cons (.d _) (.cons (.d _) (.cons (.d _) (.cons (.d _) (.cons (.d _) (.cons (.d _) (.cons (.d _) (.cons (.d _) (.cons (.d _) (.cons (.d _) (.cons (.d _) (.cons (.d _) (.cons (.d _) (.cons (.d _) (.cons (.d _) (.cons (.d _) (.cons (.d _) (.cons (.d _) (.cons (.d _) (.cons (.d _) (.cons (.d _) (.cons (.d _) (.cons (.d _) .nil)))))))))))))))))))))))))) (.cons (.agg (.cons (.d _) (.cons (.d _) (.cons (.d _) (.cons (.d _) (.cons (.d _) .nil)))))) (.cons (.one (.d _)) (.cons (.one (.d _)) .nil))))) Z<|RunA.rd Z Z Z (Q1 (Jf Z)) Z ?_
 refine RunA.nil ⟨?ex,_,_,Z,?_⟩
 case ex=>exact trivial
 refine Jo (st':=⟨[(3,.v (.one (.ptr 0 0))),(5,.v (.one (.ptr 1 0))),(13,.v (.one (dI s1))),(14,.v (.one (dI x66)))],[(0,.cells 45 (cE a1)),(1,.cells 116 [dS a0,dN,dI a1.kind,J3 a1.name,dI a1.params,dI a1.ty.kind,dI a1.ty.index,J3 a1.ty.name,dS a1.ty.levels,dS a1.ty.kids,dI a1.value.kind,dI a1.value.index,J3 a1.value.name,dS a1.value.levels,dS a1.value.kids,dI a1.fixed,dS a1.ctors,dI a1.rcr.params,dI a1.rcr.ty.kind,dI a1.rcr.ty.index,J3 a1.rcr.ty.name,dS a1.rcr.ty.levels,dS a1.rcr.ty.kids,dS a1.rcr.rules,dS a1.funs])],[],2,161,[]⟩) (DV (Nat.zero_le _) Z Z Z Z Z)<|Q3<|Q4<|Q0<|DZ Z Z Z<|DY Z Z Z (Q7 Z Z Z)<|Q5<|Q3 ?_
 refine Qe (b:=(x66 != 0)) Z (fun c67=>?_) (fun c67=>?_)
 replace h1:=Qf c67 h1
 refine Q4<|Q0<|DZ Z Z Z<|rA Z Z Z<|Q5<|Q3<|Qp ?_
 have e:=DW h1;subst e
 have e_:_=_:=ho1
 subst e_
 try dsimp only [Sum.elim_inl,Sum.elim_inr] at h0
 have e:=DW h0;subst e
 exact Qo (fun _ _ h=>h) Z (Qn Z .nil) (.cons (.one (.d _)) .nil)
 replace h1:=Qg c67 h1
 refine Qh<|Qj<|Q3<|Q0<|DZ Z Z Z<|DY Z Z Z (Q7 Z Z Z)<|rA Z Z Z<|Q5 ?_
 have e:=DW h1;subst e
 refine QL (Jb (s1+1)) (DV (Nat.zero_le _) Z Z Z Z Z) ho1
 replace h1:=Qg c64 h1
 refine QW<|Qq<|Qq ?_
 have e:=DW h1;subst e
 have e_:_=_:=ho1
 subst e_
 exact QQ () (DV (Nat.zero_le _) Z Z Z Z Z) h0
 intro o62 h0
 refine QF<|Q3<|Q4<|Q0<|DY Z Z Z (QH (a1:Dcl) JE Z Z) ?_
 refine Qc h0 (fun x68 hx68 h0=>?_)
 refine Qa Z Z (lb Z) (Qi (WD a1 x68 hx68) Z (.cons (.agg (.cons (.d _) (.cons (.d _) (.cons (.d _) (.cons (.d _) (.cons (.d _) (.cons (.d _) (.cons (.d _) (.cons (.d _) (.cons (.d _) (.cons (.d _) (.cons (.d _) (.cons (.d _) (.cons (.d _) (.cons (.d _) (.cons (.d _) (.cons (.d _) (.cons (.d _) (.cons (.d _) (.cons (.d _) (.cons (.d _) (.cons (.d _) (.cons (.d _) (.cons (.d _) .nil)))))))))))))))))))))))) .nil))<|DY Z Z Z (Q2 ZS Z)<|QA Z Z (Qz Ws Z Z Z Z (lb Z) Z)<|Q5<|Q3<|Q4<|Q0<|rA Z Z Z<|Q5<|Q3<|Ql ?_
 refine QS 7 (fun (o69:Unit)=>⟨[],[(0,.cells 45 (cE a1)),(1,.cells 116 [dS a0,dS x68,dI a1.kind,J3 a1.name,dI a1.params,dI a1.ty.kind,dI a1.ty.index,J3 a1.ty.name,dS a1.ty.levels,dS a1.ty.kids,dI a1.value.kind,dI a1.value.index,J3 a1.value.name,dS a1.value.levels,dS a1.value.kids,dI a1.fixed,dS a1.ctors,dI a1.rcr.params,dI a1.rcr.ty.kind,dI a1.rcr.ty.index,J3 a1.rcr.ty.name,dS a1.rcr.ty.levels,dS a1.rcr.ty.kids,dS a1.rcr.rules,dS a1.funs])],[],2,161,[]⟩) (fun (o69:Unit)=>(some 0)=some r) ?_ ?_
 refine Qc h0 (fun o70 hl1 h0=>?_)
 refine QR (Gs a1 a0 x68) (fun s1=>⟨[(3,.v (.one (.ptr 0 0))),(5,.v (.one (.ptr 1 0))),(15,.v (.one (dI s1)))],[(0,.cells 45 (cE a1)),(1,.cells 116 [dS a0,dS x68,dI a1.kind,J3 a1.name,dI a1.params,dI a1.ty.kind,dI a1.ty.index,J3 a1.ty.name,dS a1.ty.levels,dS a1.ty.kids,dI a1.value.kind,dI a1.value.index,J3 a1.value.name,dS a1.value.levels,dS a1.value.kids,dI a1.fixed,dS a1.ctors,dI a1.rcr.params,dI a1.rcr.ty.kind,dI a1.rcr.ty.index,J3 a1.rcr.ty.name,dS a1.rcr.ty.levels,dS a1.rcr.ty.kids,dS a1.rcr.rules,dS a1.funs])],[],2,161,[]⟩) 0 o70 (DV (Nat.zero_le _) Z Z Z Z Z) hl1 (fun s1 n1 oo1 h1 ho1=>?_)
 unfold Gs at h1
 refine Q4<|Q4<|Q0<|DZ Z Z Z<|DY Z Z Z (Q2 Jr Z)<|DY Z Z Z (Q6 Ya Z Z Z)<|DY Z Z Z (Qx (α:=Fn) JR Z (.d _))<|DY Z Z Z (Q7 Z Z Z)<|Q5<|Q3 ?_
 refine Qe (b:=(decide (s1 < (a1.funs.length:Int)))) Z (fun c71=>?_) (fun c71=>?_)
 replace h1:=Qf c71 h1
 refine Qh<|Q3<|Q4<|Ql<|Q4 ?_
 refine J6 [] [] JT (by kernel_rfl) (by kernel_rfl) (by kernel_rfl) ?_
 refine RunA.rd Z Z Z (Q1 (Qk Z0 Z Z Z Z)) Z<|RunA.rd Z Z Z (Q1 (Q2 Jr Z)) Z<|RunA.rd Z Z Z (Q1 (Q6 Ya Z Z Z)) Z<|RunA.rd Z Z Z (Q1 (Qr Z)) Z ?_
 refine Qc h1 (fun x72 hx72 h1=>?_)
 refine RunA.rd Z Z Z (Q1 (Qt (α:=Fn) JR Z (.d _) Z hx72)) Z<|RunA.rd Z Z Z (Q1 (J8 fo_76_3 Z)) Z<|RunA.rd Z Z Z (Q1 (Jw X7 Z Z Z)) Z<|RunA.rd Z Z Z (Q1 (Q2 Jr Z)) Z<|RunA.rd Z Z Z (Q1 (Q6 Ya Z Z Z)) Z<|RunA.rd Z Z Z (Q1 (Qr Z)) Z ?_
 refine Qc h1 (fun x73 hx73 h1=>?_)
 refine RunA.rd Z Z Z (Q1 (Qt (α:=Fn) JR Z (.d _) Z hx73)) Z<|RunA.rd Z Z Z (Q1 (J8 X2 Z)) Z<|RunA.rd Z Z Z (Q1 (Ji QI Z Z)) Z ?_
 refine Qc h1 (fun x74 hx74 h1=>?_)
 refine RunA.rd Z Z Z (Qi (m73_ok (⟨a0,x68,a1⟩:Rsc) x72.tree x73.arity 0 x74 hx74) Z (.cons (.agg (.cons (.d _) (.cons (.d _) (.cons (.d _) (.cons (.d _) (.cons (.d _) (.cons (.d _) (.cons (.d _) (.cons (.d _) (.cons (.d _) (.cons (.d _) (.cons (.d _) (.cons (.d _) (.cons (.d _) (.cons (.d _) (.cons (.d _) (.cons (.d _) (.cons (.d _) (.cons (.d _) (.cons (.d _) (.cons (.d _) (.cons (.d _) (.cons (.d _) (.cons (.d _) (.cons (.d _) (.cons (.d _) .nil)))))))))))))))))))))))))) (.cons (.agg (.cons (.d _) (.cons (.d _) (.cons (.d _) (.cons (.d _) (.cons (.d _) (.cons (.d _) (.cons (.d _) (.cons (.d _) .nil))))))))) (.cons (.one (.d _)) (.cons (.one (.d _)) .nil))))) Z<|RunA.rd Z Z Z (Q1 (Jf Z)) Z ?_
 refine RunA.nil ⟨?ex,_,_,Z,?_⟩
 case ex=>exact trivial
 refine Jo (st':=⟨[(3,.v (.one (.ptr 0 0))),(5,.v (.one (.ptr 1 0))),(15,.v (.one (dI s1))),(16,.v (.one (dI x74)))],[(0,.cells 45 (cE a1)),(1,.cells 116 [dS a0,dS x68,dI a1.kind,J3 a1.name,dI a1.params,dI a1.ty.kind,dI a1.ty.index,J3 a1.ty.name,dS a1.ty.levels,dS a1.ty.kids,dI a1.value.kind,dI a1.value.index,J3 a1.value.name,dS a1.value.levels,dS a1.value.kids,dI a1.fixed,dS a1.ctors,dI a1.rcr.params,dI a1.rcr.ty.kind,dI a1.rcr.ty.index,J3 a1.rcr.ty.name,dS a1.rcr.ty.levels,dS a1.rcr.ty.kids,dS a1.rcr.rules,dS a1.funs])],[],2,161,[]⟩) (DV (Nat.zero_le _) Z Z Z Z Z)<|Q3<|Q4<|Q0<|DZ Z Z Z<|DY Z Z Z (Q7 Z Z Z)<|Q5<|Q3 ?_
 refine Qe (b:=(x74 != 0)) Z (fun c75=>?_) (fun c75=>?_)
 replace h1:=Qf c75 h1
 refine Q4<|Q0<|DZ Z Z Z<|rA Z Z Z<|Q5<|Q3<|Qp ?_
 have e:=DW h1;subst e
 have e_:_=_:=ho1
 subst e_
 try dsimp only [Sum.elim_inl,Sum.elim_inr] at h0
 have e:=DW h0;subst e
 exact Qo (fun _ _ h=>h) Z (Qn Z .nil) (.cons (.one (.d _)) .nil)
 replace h1:=Qg c75 h1
 refine Qh<|Qj<|Q3<|Q0<|DZ Z Z Z<|DY Z Z Z (Q7 Z Z Z)<|rA Z Z Z<|Q5 ?_
 have e:=DW h1;subst e
 refine QL (Jb (s1+1)) (DV (Nat.zero_le _) Z Z Z Z Z) ho1
 replace h1:=Qg c71 h1
 refine QW<|Qq<|Qq ?_
 have e:=DW h1;subst e
 have e_:_=_:=ho1
 subst e_
 exact QQ () (DV (Nat.zero_le _) Z Z Z Z Z) h0
 intro o69 h0
 refine QF<|Qj<|Q3<|Q4<|Q0<|rA Z Z Z<|Q5<|Q3<|Qp ?_
 have e:=DW h0;subst e
 exact Qo (fun _ _ h=>h) Z (Qn Z .nil) (.cons (.one (.d _)) .nil)
 replace h0:=Qg c61 h0
 refine Qh<|Qj<|Q3<|Q4<|Q0<|rA Z Z Z<|Q5<|Q3<|Qp ?_
 have e:=DW h0;subst e
 exact Qo (fun _ _ h=>h) Z (Qn Z .nil) (.cons (.one (.d _)) .nil)
def WZ (p0_:Bool) (p1_:Dcl) (p2_:List Dcl):Option Int :=
 cond p0_
   (some 1)
   (Option.bind (DP p1_) fun (b0_:Bool) =>
 cond (!b0_)
   (some 3)
   (Option.bind (DO p1_) fun (b1_:Int) =>
 cond (b1_ != 0)
   (some b1_)
   (Option.bind (Dy p2_ p1_) fun (b2_:Int) =>
 cond (b2_ != 0)
   (some b2_)
   (Option.bind (Dx p2_ p1_) fun (b3_:Int) =>
 some b3_))))
def Dk (a0:List Dcl) (a1:Dcl):Option Int :=
 Option.bind (cond (decide (a1.kind < 0))
   (some true)
   (some (decide (4 < a1.kind)))) (fun (v1:Bool)=>WZ v1 a1 a0)
theorem m32_ok (a0:List Dcl) (a1:Dcl) (r:Int) (h0:Dk a0 a1=some r):Fun Try.prog 32 [.one (dS a0),.agg (cE a1)] (QM [.one (dI r)]):=by
 unfold Dk at h0
 refine QB 9 32 Try.func32 Z en_32 Z (lb Z) (fun S w=>?_)
 simp only [J5]
 refine Q4<|Q0<|Qa Z Z (lb Z) (QN Z)<|rA Z Z Z<|Q5<|Q3<|Q4<|Q4 ?_
 refine QC (fun (v1:Bool)=>⟨[(0,.v (.one (dS a0))),(3,.v (.one (.ptr 0 0))),(14,.v (.one (dB v1)))],[(0,.cells 45 (cE a1))],[],1,32,[]⟩) (fun (v1:Bool)=>(WZ v1 a1 a0)=some r) ?_ ?_
 refine Qc h0 (fun w1_ h1 h0=>?_)
 refine Q0<|DY Z Z Z (Q2 JP Z)<|DY Z Z Z (Q6 QI Z Z Z)<|DY Z Z Z (Q7 Z Z Z)<|DZ Z Z Z ?_
 refine Qv (d:=10) (c:=(decide (a1.kind < 0))) Z (fun c2=>?_) (fun c2=>?_)
 replace h1:=Qf c2 h1
 refine Q8 Z Z<|Q8 Z Z<|Q8 Z Z<|DY Z Z Z (Qd Z Z)<|Q5 ?_
 have e:=DW h1;subst e
 exact Q9 true (DV (Nat.zero_le _) Z Z Z Z Z) h0
 replace h1:=Qg c2 h1
 refine DY Z Z Z (Q2 JP Z)<|DY Z Z Z (Q6 QI Z Z Z)<|DY Z Z Z (Q7 Z Z Z)<|DY Z Z Z (Qb Z Z)<|Q5 ?_
 have e:=DW h1;subst e
 exact Q9 (decide (4 < a1.kind)) (DV (Nat.zero_le _) Z Z Z Z Z) h0
 intro v1 h0
 unfold WZ at h0
 refine Q3 ?_
 refine Qe (b:=v1) Z (fun c3=>?_) (fun c3=>?_)
 replace h0:=Qf c3 h0
 refine Q4<|Q0<|rA Z Z Z<|Q5<|Q3<|Qp ?_
 have e:=DW h0;subst e
 exact Qo (fun _ _ h=>h) Z (Qn Z .nil) (.cons (.one (.d _)) .nil)
 replace h0:=Qg c3 h0
 refine Qh<|Q3<|Q4<|Q4<|Q0<|DY Z Z Z (QH (a1:Dcl) JE Z Z) ?_
 refine Qc h0 (fun x4 hx4 h0=>?_)
 refine Qa Z Z (lb Z) (Qi (m50_ok a1 x4 hx4) Z (.cons (.agg (.cons (.d _) (.cons (.d _) (.cons (.d _) (.cons (.d _) (.cons (.d _) (.cons (.d _) (.cons (.d _) (.cons (.d _) (.cons (.d _) (.cons (.d _) (.cons (.d _) (.cons (.d _) (.cons (.d _) (.cons (.d _) (.cons (.d _) (.cons (.d _) (.cons (.d _) (.cons (.d _) (.cons (.d _) (.cons (.d _) (.cons (.d _) (.cons (.d _) (.cons (.d _) .nil)))))))))))))))))))))))) .nil))<|DY Z Z Z (Jg Z)<|Q5<|Q3 ?_
 refine Qe (b:=(!x4)) Z (fun c5=>?_) (fun c5=>?_)
 replace h0:=Qf c5 h0
 refine Q4<|Q0<|rA Z Z Z<|Q5<|Q3<|Qp ?_
 have e:=DW h0;subst e
 exact Qo (fun _ _ h=>h) Z (Qn Z .nil) (.cons (.one (.d _)) .nil)
 replace h0:=Qg c5 h0
 refine Qh<|Q3<|Q4<|Q4<|Q0<|DY Z Z Z (QH (a1:Dcl) JE Z Z) ?_
 refine Qc h0 (fun x6 hx6 h0=>?_)
 refine Qa Z Z (lb Z) (Qi (m51_ok a1 x6 hx6) Z (.cons (.agg (.cons (.d _) (.cons (.d _) (.cons (.d _) (.cons (.d _) (.cons (.d _) (.cons (.d _) (.cons (.d _) (.cons (.d _) (.cons (.d _) (.cons (.d _) (.cons (.d _) (.cons (.d _) (.cons (.d _) (.cons (.d _) (.cons (.d _) (.cons (.d _) (.cons (.d _) (.cons (.d _) (.cons (.d _) (.cons (.d _) (.cons (.d _) (.cons (.d _) (.cons (.d _) .nil)))))))))))))))))))))))) .nil))<|rA Z Z Z<|Q5<|Q3<|Q4<|Q0<|DZ Z Z Z<|DY Z Z Z (Q7 Z Z Z)<|Q5<|Q3 ?_
 refine Qe (b:=(x6 != 0)) Z (fun c7=>?_) (fun c7=>?_)
 replace h0:=Qf c7 h0
 refine Q4<|Q0<|DZ Z Z Z<|rA Z Z Z<|Q5<|Q3<|Qp ?_
 have e:=DW h0;subst e
 exact Qo (fun _ _ h=>h) Z (Qn Z .nil) (.cons (.one (.d _)) .nil)
 replace h0:=Qg c7 h0
 refine Qh<|Q3<|Q4<|Q4<|Q0<|DZ Z Z Z<|DY Z Z Z (QH (a1:Dcl) JE Z Z) ?_
 refine Qc h0 (fun x8 hx8 h0=>?_)
 refine Qa Z Z (lb Z) (Qi (m52_ok a0 a1 x8 hx8) Z (.cons (.one (.d _)) (.cons (.agg (.cons (.d _) (.cons (.d _) (.cons (.d _) (.cons (.d _) (.cons (.d _) (.cons (.d _) (.cons (.d _) (.cons (.d _) (.cons (.d _) (.cons (.d _) (.cons (.d _) (.cons (.d _) (.cons (.d _) (.cons (.d _) (.cons (.d _) (.cons (.d _) (.cons (.d _) (.cons (.d _) (.cons (.d _) (.cons (.d _) (.cons (.d _) (.cons (.d _) (.cons (.d _) .nil)))))))))))))))))))))))) .nil)))<|rA Z Z Z<|Q5<|Q3<|Q4<|Q0<|DZ Z Z Z<|DY Z Z Z (Q7 Z Z Z)<|Q5<|Q3 ?_
 refine Qe (b:=(x8 != 0)) Z (fun c9=>?_) (fun c9=>?_)
 replace h0:=Qf c9 h0
 refine Q4<|Q0<|DZ Z Z Z<|rA Z Z Z<|Q5<|Q3<|Qp ?_
 have e:=DW h0;subst e
 exact Qo (fun _ _ h=>h) Z (Qn Z .nil) (.cons (.one (.d _)) .nil)
 replace h0:=Qg c9 h0
 refine Qh<|Q3<|Q4<|Q0<|DZ Z Z Z<|DY Z Z Z (QH (a1:Dcl) JE Z Z) ?_
 refine Qc h0 (fun x10 hx10 h0=>?_)
 refine Qa Z Z (lb Z) (Qi (m53_ok a0 a1 x10 hx10) Z (.cons (.one (.d _)) (.cons (.agg (.cons (.d _) (.cons (.d _) (.cons (.d _) (.cons (.d _) (.cons (.d _) (.cons (.d _) (.cons (.d _) (.cons (.d _) (.cons (.d _) (.cons (.d _) (.cons (.d _) (.cons (.d _) (.cons (.d _) (.cons (.d _) (.cons (.d _) (.cons (.d _) (.cons (.d _) (.cons (.d _) (.cons (.d _) (.cons (.d _) (.cons (.d _) (.cons (.d _) (.cons (.d _) .nil)))))))))))))))))))))))) .nil)))<|rA Z Z Z<|Q5<|Q3<|Qp ?_
 have e:=DW h0;subst e
 exact Qo (fun _ _ h=>h) Z (Qn Z .nil) (.cons (.one (.d _)) .nil)
def Wc (a0:List Dcl) (s1:Int):Option (LO Int (Unit⊕(Int×Int))) :=
 cond (decide (s1 < (a0.length:Int)))
   (Jv (cond (decide (0≤s1)) (Nat.ble s1.toNat a0.length) false)
 (Option.bind (JX a0 s1) fun (x5:Dcl) =>
 Option.bind (Dk (a0.take s1.toNat) x5) fun (x6:Int) =>
 cond (x6 != 0)
   (some (.done (.inr (s1,x6))))
   (some (.next (Jb (s1+1))))))
   (some (.done (.inl ())))
def DC (a0:List Dcl):Option (Int×Int) :=
 cond (decide (1000 < (a0.length:Int)))
   (some (1000,6))
   (Option.bind (QE (Wc a0) QV 0) (Sum.elim (fun (o2:Unit)=>some (0,0)) (fun o=>some o)))
theorem m12_ok (a0:List Dcl) (r:Int×Int) (h0:DC a0=some r):Fun Try.prog 12 [.one (dS a0)] (QM [.one (dI r.1),.one (dI r.2)]):=by
 unfold DC at h0
 refine QB 9 27 Try.func12 Z en_12 Z (lb Z) (fun S w=>?_)
 simp only [J5]
 refine Q4<|Q0<|rA Z Z Z<|rA Z Z Z<|Q5<|Q3<|Q4<|Q4<|Q0<|DZ Z Z Z<|DY Z Z Z (Qx (α:=Dcl) YP Z (.d _))<|DY Z Z Z (Q7 Z Z Z)<|Q5<|Q3 ?_
 refine Qe (b:=(decide (1000 < (a0.length:Int)))) Z (fun c1=>?_) (fun c1=>?_)
 replace h0:=Qf c1 h0
 refine Q4<|Q0<|rA Z Z Z<|rA Z Z Z<|Q5<|Q3<|Qp ?_
 have e:=DW h0;subst e
 exact Qo (fun _ _ h=>h) Z (Qn Z (Qn Z .nil)) (.cons (.one (.d _)) (.cons (.one (.d _)) .nil))
 replace h0:=Qg c1 h0
 refine Qh<|Q3<|Q4<|Q4<|Q0<|rA Z Z Z<|Q5<|Q3<|Ql ?_
 refine QS 0 (fun (o2:Unit)=>⟨[],[],[],0,27,[]⟩) (fun (o2:Unit)=>(some (0,0))=some r) ?_ ?_
 refine Qc h0 (fun o3 hl1 h0=>?_)
 refine QR (Wc a0) (fun s1=>⟨[(0,.v (.one (dS a0))),(4,.v (.one (dI s1)))],[],[],0,27,[]⟩) 0 o3 (DV (Nat.zero_le _) Z Z Z Z Z) hl1 (fun s1 n1 oo1 h1 ho1=>?_)
 unfold Wc at h1
 refine Q4<|Q4<|Q0<|DZ Z Z Z<|DZ Z Z Z<|DY Z Z Z (Qx (α:=Dcl) YP Z (.d _))<|DY Z Z Z (Q7 Z Z Z)<|Q5<|Q3 ?_
 refine Qe (b:=(decide (s1 < (a0.length:Int)))) Z (fun c4=>?_) (fun c4=>?_)
 replace h1:=Qf c4 h1
 refine Qh<|Q3<|Q4<|Ql<|Q4 ?_
 refine J6 [] [] JT (by kernel_rfl) (by kernel_rfl) (by kernel_rfl) ?_
 refine RunA.rd Z Z Z (Q1 (Qr Z)) Z<|RunA.rd Z Z Z (Q1 (Qr Z)) Z ?_
 refine Yo h1 (fun g5 h1=>?_)
 refine RunA.rd Z Z Z (Q1 (G7 (α:=Dcl) YP Z (.d _) Z g5)) Z<|RunA.rd Z Z Z (Q1 (Qr Z)) Z<|RunA.rd Z Z Z (Q1 (Qr Z)) Z ?_
 refine Qc h1 (fun x6 hx6 h1=>?_)
 refine RunA.rd Z Z Z (Q1 (Qt (α:=Dcl) YP Z (.d _) Z hx6)) Z<|RunA.rd Z Z Z (Q1 (Qw (x6:Dcl) JE Z)) Z ?_
 refine Qc h1 (fun x7 hx7 h1=>?_)
 refine RunA.rd Z Z Z (Qi (m32_ok (a0.take s1.toNat) x6 x7 hx7) Z (.cons (.one (.d _)) (.cons (.agg (.cons (.d _) (.cons (.d _) (.cons (.d _) (.cons (.d _) (.cons (.d _) (.cons (.d _) (.cons (.d _) (.cons (.d _) (.cons (.d _) (.cons (.d _) (.cons (.d _) (.cons (.d _) (.cons (.d _) (.cons (.d _) (.cons (.d _) (.cons (.d _) (.cons (.d _) (.cons (.d _) (.cons (.d _) (.cons (.d _) (.cons (.d _) (.cons (.d _) (.cons (.d _) .nil)))))))))))))))))))))))) .nil))) Z<|RunA.rd Z Z Z (Q1 (Jf Z)) Z ?_
 refine RunA.nil ⟨?ex,_,_,Z,?_⟩
 case ex=>exact trivial
 refine Jo (st':=⟨[(0,.v (.one (dS a0))),(4,.v (.one (dI s1))),(5,.v (.one (dI x7)))],[],[],0,27,[]⟩) (DV (Nat.zero_le _) Z Z Z Z Z)<|Q3<|Q4<|Q0<|DZ Z Z Z<|DY Z Z Z (Q7 Z Z Z)<|Q5<|Q3 ?_
 refine Qe (b:=(x7 != 0)) Z (fun c8=>?_) (fun c8=>?_)
 replace h1:=Qf c8 h1
 refine Q4<|Q0<|DZ Z Z Z<|DZ Z Z Z<|rA Z Z Z<|rA Z Z Z<|Q5<|Q3<|Qp ?_
 have e:=DW h1;subst e
 have e_:_=_:=ho1
 subst e_
 try dsimp only [Sum.elim_inl,Sum.elim_inr] at h0
 have e:=DW h0;subst e
 exact Qo (fun _ _ h=>h) Z (Qn Z (Qn Z .nil)) (.cons (.one (.d _)) (.cons (.one (.d _)) .nil))
 replace h1:=Qg c8 h1
 refine Qh<|Qj<|Q3<|Q0<|DZ Z Z Z<|DY Z Z Z (Q7 Z Z Z)<|rA Z Z Z<|Q5 ?_
 have e:=DW h1;subst e
 refine QL (Jb (s1+1)) (DV (Nat.zero_le _) Z Z Z Z Z) ho1
 replace h1:=Qg c4 h1
 refine QW<|Qq<|Qq ?_
 have e:=DW h1;subst e
 have e_:_=_:=ho1
 subst e_
 exact QQ () (DV (Nat.zero_le _) Z Z Z Z Z) h0
 intro o2 h0
 refine QF<|Q3<|Q4<|Q0<|rA Z Z Z<|rA Z Z Z<|Q5<|Q3<|Qp ?_
 have e:=DW h0;subst e
 exact Qo (fun _ _ h=>h) Z (Qn Z (Qn Z .nil)) (.cons (.one (.d _)) (.cons (.one (.d _)) .nil))
end Go.Proofs.Ytafddfoefeploaa
namespace Go.Proofs.Ytafddfoefeploaa
open Go.RowKit Go.Shelf
set_option linter.unusedSimpArgs false
set_option linter.unusedVariables false
set_option linter.unusedSectionVars false
def UF:Tm:=Tm.mk 0 0 ([]:List UInt8) ([]:List Lvl) ([]:List Tm)
theorem rec1 {σ β:Type} (F:(σ→Option β)→σ→Option β) (u:σ):JQ F QV u=F (JQ F 999999999) u:=rfl
def WG (t:Tm):Bool:=(t.kind==0)&&(t.index==0)&&(t.name==[])&&((t.levels.length:Int)==0)&&((t.kids.length:Int)==0)
theorem ZC {τ β:Type} {step:τ→Option (LO τ β)} {s:τ} {r:β} (h:step s=some (.done r)):QE step QV s=some r:=by
 show QE step (999999999+1) s=_
 simp only [QE,h]
theorem WW (t:Tm):De t=some (WG t):=by
 have h1:(t.levels.length:Int)=0→QE (Wz t UF) QV 0=some (.inl ()):=fun h=>ZC (by unfold Wz;rw [h];rfl)
 have h2:∀ rc,(t.kids.length:Int)=0→QE (Wy t UF rc) QV 0=some (.inl ()):=fun rc h=>ZC (by unfold Wy;rw [h];rfl)
 unfold De m78 WG
 rw [rec1]
 show Option.bind (UT _ t UF) _=_
 unfold UT
 show Option.bind (Option.bind (cond (t.kind==0) (cond (t.index==0) (cond (t.name==[]) (Option.bind (cond (!((t.levels.length:Int)==0)) (some false) (Option.bind (QE (Wz t UF) QV 0) (Sum.elim (fun (o8:Unit)=>some true) (fun o=>some o)))) (fun (y5:Bool)=>cond y5
  (Option.bind (cond (!((t.kids.length:Int)==0)) (some false) (Option.bind (QE (Wy t UF _) QV 0) (Sum.elim (fun (o19:Unit)=>some true) (fun o=>some o)))) (fun (y16:Bool)=>some y16)) (some false))) (some false)) (some false)) (some false)) _) _=_
 cases (t.kind==0) with
 | false=>rfl
 | true =>
  cases (t.index==0) with
  | false=>rfl
  | true =>
   cases (t.name==[]) with
   | false=>rfl
   | true =>
    rw [Yy,Yy]
    by_cases c:(t.levels.length:Int)=0
    ·rw [decide_eq_true c,h1 c]
     by_cases c2:(t.kids.length:Int)=0
     ·rw [decide_eq_true c2,h2 _ c2];rfl
     ·rw [decide_eq_false c2];rfl
    ·rw [decide_eq_false c];rfl
theorem m42_nil (l:List Lvl):Dz l []=some ((l.length:Int)==0):=by
 unfold Dz
 show cond (!((l.length:Int)==0)) _ _=_
 rw [Yy]
 by_cases c:(l.length:Int)=0
 ·rw [decide_eq_true c,ZC (r:=.inl ()) (by unfold m42_l0;rw [c];rfl)];rfl
 ·rw [decide_eq_false c];rfl
theorem WU (t:Tm):UW t=some (WG t):=by
 have h2:∀ rc,(t.kids.length:Int)=0→QE (W7 t UF rc) QV 0=some (.inl ()):=fun rc h=>ZC (by unfold W7;rw [h];rfl)
 unfold UW Dq WG
 rw [rec1]
 show Option.bind (D6 _ t UF) _=_
 unfold D6
 show Option.bind (Option.bind (cond (!(t.kind==0)) (some true) (cond (!(t.index==0)) (some true) (cond (!(t.name==[])) (some true) (Option.bind (Dz t.levels []) fun (x5:Bool)=>cond (!x5) (some true) (some (!((t.kids.length:Int)==0))))))) (fun (v1:Bool)=>cond v1 (some false) (Option.bind (QE (W7 t UF _) QV 0) (Sum.elim (fun (o3:Unit)=>some true) (fun o=>some o))))) _=_
 rw [m42_nil]
 cases (t.kind==0) with
 | false=>rfl
 | true =>
  cases (t.index==0) with
  | false=>rfl
  | true =>
   cases (t.name==[]) with
   | false=>rfl
   | true =>
    cases ((t.levels.length:Int)==0) with
    | false=>rfl
    | true =>
     rw [Yy]
     by_cases c2:(t.kids.length:Int)=0
     ·rw [decide_eq_true c2,h2 _ c2];rfl
     ·rw [decide_eq_false c2];rfl
def isZT (t:Tr):Bool:=(t.kind==0)&&(t.var==0)&&WG t.body&&((t.branches.length:Int)==0)
theorem m27_Z (t:Tm):Dq t UF=some (WG t):=by
 have:=WU t
 unfold UW at this
 obtain ⟨x,h1,h2⟩:=bindO this
 cases h2
 exact h1
theorem m36_Z (t:Tr):DQ t (Tr.mk 0 UF 0 [])=some (isZT t):=by
 have h2:∀ rc,(t.branches.length:Int)=0→QE (W4 t (Tr.mk 0 UF 0 []) rc) QV 0=some (.inl ()):=fun rc h=>ZC (by unfold W4;rw [h];rfl)
 unfold DQ isZT
 rw [rec1]
 show D5 _ t (Tr.mk 0 UF 0 [])=_
 unfold D5
 show Option.bind (cond (!(t.kind==0)) (some true) (cond (!(t.var==0)) (some true) (Option.bind (Dq t.body UF) fun (x4:Bool)=>cond (!x4) (some true) (some (!((t.branches.length:Int)==0)))))) (fun (v1:Bool)=>cond v1 (some false) (Option.bind (QE (W4 t (Tr.mk 0 UF 0 []) _) QV 0) (Sum.elim (fun (o3:Unit)=>some true) (fun o=>some o))))=_
 rw [m27_Z]
 cases (t.kind==0) with
 | false=>rfl
 | true =>
  cases (t.var==0) with
  | false=>rfl
  | true =>
   cases WG t.body with
   | false=>rfl
   | true =>
    rw [Yy]
    by_cases c2:(t.branches.length:Int)=0
    ·rw [decide_eq_true c2,h2 _ c2];rfl
    ·rw [decide_eq_false c2];rfl
def Bk (env:List Dcl) (M:Qm Bs Ent):Prop:=∀ n,Kg M n=GP env n
def Ow (own:List Bs) (d:Dcl) (k:Int) (O:Qm Bs Ent):Prop:=∀ n,(n∈own→n∈Ju d)∧Kg O n=if n∈own then YW d k n else none
structure Sok (s:Rsc) (M O:Qm Bs Ent):Prop where
 env:Ze s.env≤800000000
 own:s.own.length≤900000000
 d:s.d.size≤800000000
 bk:Bk s.env M
 ow:Ow s.own s.d (s.env.length:Int) O
theorem Xh (b:Bool) (c:Int):JF b c=some (cond b (.inl ()) (.inr ())):=by cases b <;> rfl
theorem kids_c (rc1:Rsc×Tm→Option Int) (rc2:Tm×(List Dcl)×(Qm ((List UInt8)) Ent)×(Qm ((List UInt8)) Ent)×Tm→Option (Bool⊕Int)) (s:Rsc) (M O:Qm Bs Ent) (root t:Tm) (h:t.size≤900000000)
  (ih:∀ x∈t.kids,∃ e:Int,rc1 (s,x)=some e∧(e=0→rc2 (x,s.env,M,O,root)=some (.inl true))∧(e ≠ 0→rc2 (x,s.env,M,O,root)=some (.inr e))) :
  ∃ e:Int,Option.bind (QE (K1 t rc1 s) QV 0) (Sum.elim (fun (o8:Unit)=>some 0) (fun o=>some o))=some e∧(e=0→GB t rc2 s.env M O root=some (.inl true))∧(e ≠ 0→GB t rc2 s.env M O root=some (.inr e)):=by
 have hl:=Xw t
 obtain ⟨e,h1,h2⟩:=YL (β1:=Unit⊕Int) (β2:=Unit⊕(Int⊕Int)) (step1:=K1 t rc1 s) (step2:=GA t rc2 s.env M O root) t.kids (.inl ()) (.inl ()) .inr (fun e=>.inr (.inr e)) (by omega) (fun a x b e=>by
  obtain ⟨q1,q2⟩:=YZ e
  obtain ⟨e',h1,h2,h3⟩:=ih x (by rw [e];simp)
  unfold K1 GA
  rw [q1,q2]
  simp only [cond_true,Option.bind_some]
  rw [h1]
  refine ⟨e',fun he=>?_,fun he=>?_⟩
  ·rw [h2 he];subst he;exact ⟨rfl,rfl⟩
  ·rw [h3 he];exact ⟨XA he _ _,rfl⟩)
  (by unfold K1;rw [Jm];rfl) (by unfold GA;rw [Jm];rfl)
 unfold GB
 by_cases he:e=0
 ·obtain ⟨e1,e2⟩:=h1 he
  rw [e1,e2];exact ⟨0,rfl,fun _=>rfl,fun h=>(h rfl).elim⟩
 ·obtain ⟨e1,e2⟩:=h2 he
  rw [e1,e2];exact ⟨e,rfl,fun h=>(he h).elim,fun _=>rfl⟩
theorem const_eq (s:Rsc) (M O:Qm Bs Ent) (hs:Sok s M O) (root:Tm):∀ (n:Nat) (t:Tm),t.size≤n→t.size≤900000000 →
  ∃ e:Int,JQ US n (s,t)=some e∧(e=0→JQ XU n (t,s.env,M,O,root)=some (.inl true))∧(e ≠ 0→JQ XU n (t,s.env,M,O,root)=some (.inr e))
 | 0,t,h,_=>by rw [t.size_eq] at h;omega
 | n+1,t,h,hb=>by
  show ∃ e:Int,UR (JQ US n) s t=some e∧(e=0→Wx (JQ XU n) t s.env M O root=some (.inl true))∧(e ≠ 0→Wx (JQ XU n) t s.env M O root=some (.inr e))
  obtain ⟨e,h1,h2,h3⟩:=kids_c (JQ US n) (JQ XU n) s M O root t hb fun x hx=>const_eq s M O hs root n x (by have:=Z1 hx;omega) (by have:=Z1 hx;omega)
  unfold UR Wx
  rw [Yy]
  by_cases hk:t.kind=3
  ·rw [decide_eq_true hk,cond_true,cond_true,m15_eq s.env t.name hs.env]
   have hM:=hs.bk t.name
   have hO:=(hs.ow t.name).2
   unfold Uw
   cases hf:GP s.env t.name with
   | some en =>
    rw [hf] at hM
    have g1:YE M t.name=true:=by unfold YE;rw [hM];rfl
    have g2:Qy M t.name=en:=by unfold Qy;rw [hM];rfl
    rw [g1,g2]
    show ∃ e:Int,cond ((t.levels.length:Int) != en.params) (some 15) _=some e∧_
    simp only [Bool.not_true,cond_false,Option.bind_some,Xh,cond_true,Sum.elim_inl]
    show ∃ e:Int,cond (!((t.levels.length:Int)==en.params)) _ _=_∧_
    cases ((t.levels.length:Int)==en.params) with
    | true=>exact ⟨e,h1,h2,h3⟩
    | false=>exact ⟨15,rfl,fun h=>by omega,fun _=>rfl⟩
   | none =>
    rw [hf] at hM
    have g1:YE M t.name=false:=by unfold YE;rw [hM];rfl
    rw [g1]
    show ∃ e:Int,Option.bind (UM s.own t.name) _=some e∧_
    rw [m33_eq s.own t.name hs.own]
    by_cases ho:t.name∈s.own
    ·rw [if_pos ho] at hO
     have hi:=XE s.d (s.env.length:Int) t.name
     rw [decide_eq_true ((hs.ow t.name).1 ho)] at hi
     cases hl:YW s.d (s.env.length:Int) t.name with
     | none=>rw [hl] at hi;cases hi
     | some en =>
      rw [hl] at hO
      have g3:YE O t.name=true:=by unfold YE;rw [hO];rfl
      have g4:Qy O t.name=en:=by unfold Qy;rw [hO];rfl
      rw [decide_eq_true ho,g3,g4]
      show ∃ e:Int,Option.bind (Dj s.d (s.env.length:Int) t.name) _=some e∧_
      rw [m34_eq s.d t.name _ en (by have:=hs.d;omega) hl]
      simp only [Bool.not_false,cond_true,Option.bind_some,Xh,Sum.elim_inl]
      show ∃ e:Int,cond (!((t.levels.length:Int)==en.params)) _ _=_∧_
      cases ((t.levels.length:Int)==en.params) with
      | true=>exact ⟨e,h1,h2,h3⟩
      | false=>exact ⟨15,rfl,fun h=>by omega,fun _=>rfl⟩
    ·rw [if_neg ho] at hO
     have g3:YE O t.name=false:=by unfold YE;rw [hO];rfl
     rw [decide_eq_false ho,g3]
     exact ⟨9,rfl,fun h=>by omega,fun _=>rfl⟩
  ·rw [decide_eq_false hk]
   exact ⟨e,h1,h2,h3⟩
theorem XZ (s:Rsc) (M O:Qm Bs Ent) (hs:Sok s M O) (t:Tm) (V P:Int) (h:t.size≤900000000) :
  ∃ e:Int,UI s t V P=some e∧(e=0→Gb t V P s.env M O=some (.inl ()))∧(e ≠ 0→Gb t V P s.env M O=some (.inr e)):=by
 obtain ⟨e,h1,h2⟩:=m66_eq t V P h
 obtain ⟨e',h3,h4,h5⟩:=const_eq s M O hs t QV t (by unfold QV;omega) h
 have h3':m87 s t=some e':=h3
 unfold UI Gb m83f9
 rw [h1,h2,h3']
 simp only [Option.bind_some,Xh]
 by_cases he:e=0
 ·subst he
  by_cases he':e'=0
  ·rw [h4 he'];exact ⟨e',rfl,fun _=>rfl,fun h=>(h he').elim⟩
  ·rw [h5 he'];exact ⟨e',rfl,fun h=>(he' h).elim,fun _=>rfl⟩
 ·rw [Ud he,show (e==0)=false from by rw [Yy];exact decide_eq_false he]
  exact ⟨e,rfl,fun h=>(he h).elim,fun _=>rfl⟩
end Go.Proofs.Ytafddfoefeploaa
