/- Part 5 of the proof: rules, mirrors and plain laws. The statement SignatureFindsUpto is proved here: for every list of declarations and every name the law returns true, and what it is given reads behind the call ars it did before; condition: the arguments are of bulk at most 1048576 (the second form). -/
import Derived.Test.YtafddfoefeploaaK44
set_option maxRecDepth 100000
set_option maxHeartbeats 2000000
set_option linter.unusedSimpArgs false
set_option linter.unusedVariables false
set_option linter.unusedSectionVars false
namespace Go.Proofs.Ytafddfoefeploaa
open Go.RowKit Go.Shelf
theorem z_59:JQ Try.prog 59=some [.pointer none]:=by kernel_rfl
theorem bd_62:Y9 Try.prog 62 [(0,1),(1,1)] [.slice none 0 0,.map none]:=⟨by kernel_rfl,by kernel_rfl⟩
theorem en_11:QY Try.prog 11:=enters_of Try.func11 (by kernel_rfl) rfl
theorem m11_ok (a0:List Dcl) (r:Int×Int) (h0:DV a0=some r):Fun Try.prog 11 [.one (dS a0)] (QM [.one (dI r.1),.one (dI r.2)]):=by
 unfold DV at h0
 refine QB 9 48 Try.func11 Z en_11 Z (lb Z) (fun S w=>?_)
 simp only [J3]
 refine Q4<|Q0<|rA Z Z Z<|rA Z Z Z<|Q5<|Q3<|Q4<|Q4<|Q0<|rM Z Z Z<|rR Z Z Z (Qx (α:=Dcl) YE Z (.d _))<|rR Z Z Z (Q8 Z Z Z)<|Q5<|Q3 ?_
 refine Qe (b:=(decide (1000 < (a0.length:Int)))) Z (fun c1=>?_) (fun c1=>?_)
 replace h0:=Qf c1 h0
 refine Q4<|Q0<|rA Z Z Z<|rA Z Z Z<|Q5<|Q3<|Qp ?_
 have e:=sI h0;subst e
 exact Qn (fun _ _ h=>h) Z (Qm Z (Qm Z .nil)) (.cons (.one (.d _)) (.cons (.one (.d _)) .nil))
 replace h0:=Qg c1 h0
 refine Qj<|Q3<|Q4<|Q0<|Qb Z Z (lb Z) (OpOK.makeMapG Bs Ent)<|rR Z Z Z (RO.build1 bd_62 Z Z Z)<|Qb Z Z (lb Z) (QN Z)<|Qb Z Z (lb Z) (Qv z_59 Z)<|QC Z Z (Qz W6 Z Z Z Z (lb Z) Z)<|Q5<|Q3<|Q4<|Q4<|Q0 ?_
 refine rM Z Z Z<|rR Z Z Z (Qx (α:=Dcl) YE Z (.d _))<|rM Z Z Z<|Q5<|Q3<|Ql ?_
 refine QQ 0 (fun (o2:(Qo Bs Ent)×(List Dcl))=>⟨[],[(0,.mp (J2 o2.1.1) o2.1.2),(1,.cells 62 [dS o2.2,.mp 0]),(2,.cells 59 [.ptr 1 0])],[],3,48,[]⟩) (fun (o2:(Qo Bs Ent)×(List Dcl))=>(some (0,0))=some r) ?_ ?_
 refine Qd h0 (fun o3 hl1 h0=>?_)
 refine QP (Wu a0) (fun s1=>⟨[(0,.v (.one (dS a0))),(4,.v (.one (.ptr 2 0))),(16,.v (.one (dS a0))),(17,.v (.one (dI (a0.length:Int)))),(18,.v (.one (dI s1.1)))],[(0,.mp (J2 s1.2.1.1) s1.2.1.2),(1,.cells 62 [dS s1.2.2,.mp 0]),(2,.cells 59 [.ptr 1 0])],[],3,48,[]⟩) (0,gmNil,([]:List Dcl)) o3 (QV (tA Z) (hR Z (hC Z (.cons (.sub (.nil _)) (.cons (.refl _) .nil)) (hA Z))) kZ Z (Nat.zero_le _) Z Z Z (bG Z (bA Z)) Z Z) hl1 (fun s1 n1 oo1 h1 ho1=>?_)
 unfold Wu at h1
 refine Q4<|Q0<|rR Z Z Z (Q8 Z Z Z)<|Q5<|Q3<|Q4 ?_
 refine Qe (b:=(decide (s1.1 < (a0.length:Int)))) Z (fun c4=>?_) (fun c4=>?_)
 replace h1:=Qf c4 h1
 refine Qj<|Q3<|Q4<|Ql<|Q4<|Q0<|rM Z Z Z ?_
 refine Qd h1 (fun x5 hx5 h1=>?_)
 refine rR Z Z Z (Qt (α:=Dcl) YE Z (.d _) Z hx5)<|rR Z Z Z (Qu (x5:Dcl) Jq Z)<|Qb Z Z (lb Z) (Qv WK Z)<|rA Z Z Z<|QC Z Z (QA (x5:Dcl) Jq Z Z Z Z Z)<|Q5<|Q3<|Q4 ?_
 refine J4 [6] [] JV (by kernel_rfl) (by kernel_rfl) (by kernel_rfl) ?_
 refine RunA.rd Z Z Z (Q1 (Q6 W6 Z Z Z)) Z<|RunA.rd Z Z Z (Q1 (Qq Z)) Z<|RunA.rd Z Z Z (Q1 (Qq Z)) Z ?_
 refine Yt h1 (fun g6 h1=>?_)
 refine RunA.rd Z Z Z (Q1 (Gl (α:=Dcl) YE Z (.d _) Z g6)) Z<|RunA.rd Z Z Z (Q1 (JB Z)) Z<|RunA.rd Z Z Z (Q1 (Q2 fo_62_0 Z)) Z<|RunA.eff Z Z Z (Qz U8 Z Z Z Z (lb Z) Z) Z ?_
 refine RunA.nil ⟨?ex,_,_,Z,?_⟩
 case ex=>exact trivial
 refine Jp (st':=⟨[(0,.v (.one (dS a0))),(4,.v (.one (.ptr 2 0))),(5,.v (.one (dI s1.1))),(6,.v (.one (.ptr 3 0))),(16,.v (.one (dS a0))),(17,.v (.one (dI (a0.length:Int)))),(18,.v (.one (dI s1.1)))],m11_h0 s1 a0 x5,[],4,48,[]⟩) (QV (tA Z) (hA Z) kZ Z (Nat.zero_le _) Z Z Z (bG Z (bA Z)) Z Z)<|Q3<|Q4<|Q4<|Q0<|rR Z Z Z (Q6 W6 Z Z Z)<|rR Z Z Z (QH (x5:Dcl) Jq Z Z) ?_
 refine Qd h1 (fun x7 hx7 h1=>?_)
 refine Qb Z Z (lb Z) (JC (hp1':=[(1,.cells 62 [dS ((a0.take s1.1.toNat):List Dcl),.mp 0]),(0,.mp (J2 s1.2.1.1) s1.2.1.2),(5,.cells 25 [dI x7])]) (tk1':=[]) (hpF:=[(2,.cells 59 [.ptr 1 0]),(3,.cells 45 (cE x5))]) (tkF:=[]) (res2:=QM [.one (dI x7)]) (nx2:=6) [1,0] Z Z (m30f4_ok x5 (a0.take s1.1.toNat) s1.2.1 x7 hx7) Z Z (qB Z Z (qG Z (qB Z Z qZ))) Z Z (gR Z (gG Z gZ)) jZ (hA Z) kZ Z Z Z Z Z (bB Z Z (bG Z bZ)) Z Z Z Z)<|rA Z Z Z<|Q5<|Q3<|Q4<|Q0<|rM Z Z Z<|rR Z Z Z (Q8 Z Z Z)<|Q5<|Q3 ?_
 refine Qe (b:=(x7 != 0)) Z (fun c8=>?_) (fun c8=>?_)
 replace h1:=Qf c8 h1
 refine Q4<|Q0<|rM Z Z Z<|rM Z Z Z<|rA Z Z Z<|rA Z Z Z<|Q5<|Q3<|Qp ?_
 have e:=sI h1;subst e
 have e_:_=_:=ho1
 subst e_
 try dsimp only [Sum.elim_inl,Sum.elim_inr] at h0
 have e:=sI h0;subst e
 exact Qn (fun _ _ h=>h) Z (Qm Z (Qm Z .nil)) (.cons (.one (.d _)) (.cons (.one (.d _)) .nil))
 replace h1:=Qg c8 h1
 refine Qj<|Q3<|Q4<|Q0<|rR Z Z Z (QH (x5:Dcl) Jq Z Z)<|rM Z Z Z ?_
 refine Qd h1 (fun y9 h2 h1=>?_)
 have hc10:CallM Try.prog 31 [.agg (cE x5),.one (dI s1.1)] ⟨m11_h1 s1 a0 x5 x7,[],6⟩ (QM [.one (.fn 49 [(7,0),(6,0)])]) ⟨m11_h2 s1 a0 x5 x7,[],8⟩:=by
  refine Jl ⟨[(4,.v (.one (.fn 49 [(7,0),(6,0)])))],m11_h2 s1 a0 x5 x7,[],8,6,[]⟩ Z Z en_31 (lb Z) Z (Qm Z .nil) (fun w0 M V0 Q hv2 hQ2=>?_)
  simp only [J3]
  refine Q4<|Q0<|Qb Z Z (lb Z) (QN Z)<|Qb Z Z (lb Z) (QN Z)<|rA Z Z Z<|Q5<|Q3<|Q4<|Q0<|rR Z Z Z (RO.makeFunc2 Z Z)<|rA Z Z Z<|Q5<|Q3<|Qp ?_
  have e:=sI h2;subst e
  exact hQ2 _ _ _ (.inr Z) Z (QV (tA Z) (hA Z) kZ Z (Nat.le_trans hv2 (lb Z)) Z Z Z (bG Z (bA Z)) Z Z)
 refine Qb Z Z (lb Z) (Yf Z Z Z hc10 Z (hA Z) kZ)<|Q5<|Q3<|Ql<|Xg (st':=⟨[(0,.v (.one (dS a0))),(4,.v (.one (.ptr 2 0))),(16,.v (.one (dS a0))),(17,.v (.one (dI (a0.length:Int)))),(18,.v (.one (dI s1.1))),(38,.v (.one (.fn 49 [(7,0),(6,0)])))],m11_h2 s1 a0 x5 x7,[],8,48,[]⟩) (QV (tA Z) (hA Z) kZ Z (Nat.zero_le _) Z Z Z (bG Z (bA Z)) Z Z) ?_
 refine Qd h1 (fun y11 h2 h1=>?_)
 have hc12:CallM Try.prog 49 [.one (.yld 9),.one (.ptr 7 0),.one (.ptr 6 0)] ⟨[(9,.loop .ready none [(0,.v (.one (dS a0))),(4,.v (.one (.ptr 2 0))),(16,.v (.one (dS a0))),(17,.v (.one (dI (a0.length:Int)))),(18,.v (.one (dI s1.1))),(38,.v (.one (.fn 49 [(7,0),(6,0)])))] 48 #[39,40] XK XJ 8),(8,.obj (.deferred (some []))),(0,.mp (J2 s1.2.1.1) s1.2.1.2),(1,.cells 62 [dS ((a0.take s1.1.toNat):List Dcl),.mp 0]),(2,.cells 59 [.ptr 1 0]),(3,.cells 45 (cE x5)),(5,.cells 25 [dI x7]),(6,.cells 45 (cE x5)),(7,.cells 3 [dI s1.1])],[],10⟩ (QM []) ⟨m11_h4 y11 a0 s1 x5 x7,[],11⟩:=by
  refine Jl ⟨[],m11_h4 y11 a0 s1 x5 x7,[],11,98,[]⟩ Z Z en_49 (lb Z) Z .nil (fun w0 M V0 Q hv2 hQ2=>?_)
  simp only [J3]
  refine Q4<|Q0<|rR Z Z Z (Q6 QG Z Z Z)<|rR Z Z Z (Q2 Jz Z)<|rR Z Z Z (Q6 QG Z Z Z)<|rR Z Z Z (Q2 Zl Z)<|rR Z Z Z (Qi QR Z Z Z Z)<|rR Z Z Z (ZN Zs Z Z Z Z Z)<|Qb Z Z (lb Z) (Qv Z7 Z)<|QC Z Z (Qz J8 Z Z Z Z (lb Z) Z)<|Q5<|Q3<|Q4<|Q0 ?_
  refine rR Z Z Z (Q2 JN Z)<|rR Z Z Z (Q6 QG Z Z Z)<|Q5<|Q3<|Ql<|Q4<|Q4<|Q0<|rR Z Z Z (Q8 Z Z Z)<|rA Z Z Z<|Q5<|Q3 ?_
  refine QD (fun (v13:Bool)=>⟨[(0,.v (.one (.yld 9))),(1,.v (.one (.ptr 7 0))),(2,.v (.one (.ptr 6 0))),(4,.v (.one (.ptr 10 0))),(16,.v (.one (dI x5.kind))),(17,.v (.one (dB v13)))],m11_h6 s1 a0 x5 x7,[],11,98,[]⟩) (fun (v13:Bool)=>(Uv v13 x5 s1)=some y11) ?_ ?_
  refine Qd h2 (fun w3_ h3 h2=>?_)
  refine Qe (b:=(x5.kind==0)) Z (fun c14=>?_) (fun c14=>?_)
  replace h3:=Qf c14 h3
  refine Qj ?_
  have e:=sI h3;subst e
  exact Q9 (x5.kind==0) (QV (tA Z) (hA Z) kZ Z (Nat.le_trans hv2 (lb Z)) Z Z Z (bG Z (bA Z)) Z Z) h2
  replace h3:=Qg c14 h3
  refine Q4<|Q0<|rR Z Z Z (Q8 Z Z Z)<|rA Z Z Z<|Q5<|Q3 ?_
  refine Qe (b:=(x5.kind==1)) Z (fun c15=>?_) (fun c15=>?_)
  replace h3:=Qf c15 h3
  refine Qj ?_
  have e:=sI h3;subst e
  exact Q9 (x5.kind==1) (QV (tA Z) (hA Z) kZ Z (Nat.le_trans hv2 (lb Z)) Z Z Z (bG Z (bA Z)) Z Z) h2
  replace h3:=Qg c15 h3
  refine Q0<|rR Z Z Z (Q8 Z Z Z)<|rA Z Z Z<|Q5 ?_
  have e:=sI h3;subst e
  exact Q9 (x5.kind==2) (QV (tA Z) (hA Z) kZ Z (Nat.le_trans hv2 (lb Z)) Z Z Z (bG Z (bA Z)) Z Z) h2
  intro v13 h2
  unfold Uv at h2
  refine Q3 ?_
  refine Qe (b:=v13) Z (fun c16=>?_) (fun c16=>?_)
  replace h2:=Qf c16 h2
  refine Q4<|Q0<|Qb Z Z (lb Z) (OpOK.lit3E (α:=Int) 0 1 2 U5 z_3 Z Z (lb Z) (lb Z) Z Z Z Z (.cons (.d _) (.cons (.d _) (.cons (.d _) .nil))) ⟨Z,Z,Z⟩)<|rR Z Z Z (Q2 JN Z)<|rR Z Z Z (Q6 QG Z Z Z) ?_
  refine Qd h2 (fun x17 hx17 h2=>?_)
  refine rR Z Z Z (Qt (α:=Int) U5 Z (.app _ _) Z hx17)<|rR Z Z Z (Jj QG Z Z)<|rR Z Z Z (Q2 Yx Z)<|QC Z Z (Qz QG Z Z Z Z (lb Z) Z)<|Q5<|Q3<|Q0<|rM Z Z Z<|rR Z Z Z (Q2 JY Z)<|rR Z Z Z (Q6 JG Z Z Z)<|rR Z Z Z (Qi J8 Z Z Z Z) ?_
  refine Qd h2 (fun y18 h3 h2=>?_)
  have ha19:ExecOK Try.prog (some 9) XK ⟨[(0,.v (.one (dS a0))),(4,.v (.one (.ptr 2 0))),(16,.v (.one (dS a0))),(17,.v (.one (dI (a0.length:Int)))),(18,.v (.one (dI s1.1))),(38,.v (.one (.fn 49 [(7,0),(6,0)]))),(39,.v (.one (J6 x5.name))),(40,.v (.agg [dI x17,dI s1.1,dI 0,dI x5.params,dI x5.ty.kind,dI x5.ty.index,J6 x5.ty.name,dS x5.ty.levels,dS x5.ty.kids]))],m11_h8 s1 a0 x5 x7 x17,[(11,some ⟨3,1,(Enc.encL ([0,1,2]:List Int)).length,[]⟩)],12,48,[]⟩ .normal ⟨[(4,.v (.one (.ptr 2 0))),(8,.v (.one (J6 x5.name))),(9,.v (.one (.ptr 12 0)))],m11_h11 s1 a0 x5 x7 x17,[(11,some ⟨3,1,(Enc.encL ([0,1,2]:List Int)).length,[]⟩)],13,48,[]⟩:=by
   refine QZ (fun w0 M V0 ro n Q hv3 hro3 hQn3=>?_)
   refine Q4<|Q0<|rA Z Z Z<|Q5<|Q3<|Q0<|Qb Z Z (lb Z) (Qv Z7 Z)<|QC Z Z (Qz J8 Z Z Z Z (lb Z) Z)<|Q5 ?_
   exact JO hQn3 (QV (tA Z) (hA Z) (kA Z) Z (Nat.le_trans hv3 (lb Z)) Z Z Z (bG Z (bA Z)) Z Z)
  have hb20:ExecOK Try.prog (some 9) XJ ⟨[(4,.v (.one (.ptr 2 0))),(8,.v (.one (J6 x5.name))),(9,.v (.one (.ptr 12 0)))],m11_h10 s1 a0 x5 x7 x17,[(11,some ⟨3,1,(Enc.encL ([0,1,2]:List Int)).length,[]⟩)],13,48,[]⟩ .normal ⟨[],m11_h13 s1 x5 x17 a0 x7,[(11,some ⟨3,1,(Enc.encL ([0,1,2]:List Int)).length,[]⟩)],13,48,[]⟩:=by
   refine QZ (fun w0 M V0 ro n Q hv3 hro3 hQn3=>?_)
   refine Ql ?_
   refine J4 [6] [] JV (by kernel_rfl) (by kernel_rfl) (by kernel_rfl) ?_
   refine RunA.rd Z Z Z (Q1 (Q6 W6 Z Z Z)) Z<|RunA.rd Z Z Z (Q1 (JB Z)) Z<|RunA.rd Z Z Z (Q1 (Q2 Kj Z)) Z<|RunA.rd Z Z Z (Q1 (Q6 YI Z Z Z)) Z<|RunA.rd Z Z Z (Q1 (Qq Z)) Z<|RunA.rd Z Z Z (Q1 (Qi J8 Z Z Z Z)) Z<|RunA.eff Z Z Z (Jw (M:=s1.2.1) (k:=x5.name) (v:=(⟨x17,s1.1,0,x5.params,x5.ty⟩:Ent)) Z0 Z Z Z Z Z) Z ?_
   refine RunA.nil ⟨?ex,_,_,Z,?_⟩
   case ex=>exact trivial
   refine Jp (st':=⟨[],m11_h14 s1 x5 x17 a0 x7,[(11,some ⟨3,1,(Enc.encL ([0,1,2]:List Int)).length,[]⟩)],13,48,[]⟩) (QV tZ (hA Z) (kA Z) Z (Nat.le_trans hv3 (lb Z)) Z Z Z (bG Z (bA Z)) Z Z)<|Qk ?_
   have e:=sI h3;subst e
   exact JO hQn3 (QV tZ (hA Z) (kA Z) Z (Nat.le_trans hv3 (lb Z)) Z Z Z (bG Z (bA Z)) Z Z)
  refine Qb Z Z (lb Z) (Jm (jump:=none) Z Z Z Z Z (QK ha19 (fun E hv=>(QV (tA Z) (hA Z) (kA Z) Z (Nat.le_trans hv (lb Z)) Z Z Z (bG Z (bA Z)) Z Z))) Z (QK hb20 (fun E hv=>(QV (tA Z) (hA Z) (kA Z) Z (Nat.le_trans hv (lb Z)) Z Z Z (bG Z (bA Z)) Z Z))) Z Z) ?_
  refine Q5<|Qk ?_
  have e:=sI h2;subst e
  exact hQ2 _ _ _ (.inl Z) Z (QV tZ (hA Z) kZ Z (Nat.le_trans hv2 (lb Z)) Z Z Z (bG Z (bA Z)) Z Z)
  replace h2:=Qg c16 h2
  refine Q4<|Q0<|rR Z Z Z (Q8 Z Z Z)<|rA Z Z Z<|Q5<|Q3 ?_
  refine Qe (b:=(x5.kind==3)) Z (fun c21=>?_) (fun c21=>?_)
  replace h2:=Qf c21 h2
  refine Q4<|Q0<|rR Z Z Z (Q2 Yx Z)<|QC Z Z (Qz QG Z Z Z Z (lb Z) Z)<|Q5<|Q3<|Q4<|Q4<|Q0<|rM Z Z Z<|rR Z Z Z (Q2 JY Z)<|rR Z Z Z (Q6 JG Z Z Z)<|rR Z Z Z (Qi J8 Z Z Z Z) ?_
  refine Qd h2 (fun y22 h3 h2=>?_)
  have ha23:ExecOK Try.prog (some 9) XK ⟨[(0,.v (.one (dS a0))),(4,.v (.one (.ptr 2 0))),(16,.v (.one (dS a0))),(17,.v (.one (dI (a0.length:Int)))),(18,.v (.one (dI s1.1))),(38,.v (.one (.fn 49 [(7,0),(6,0)]))),(39,.v (.one (J6 x5.name))),(40,.v (.agg [dI 3,dI s1.1,dI 0,dI x5.params,dI x5.ty.kind,dI x5.ty.index,J6 x5.ty.name,dS x5.ty.levels,dS x5.ty.kids]))],m11_h16 s1 a0 x5 x7,[],11,48,[]⟩ .normal ⟨[(4,.v (.one (.ptr 2 0))),(8,.v (.one (J6 x5.name))),(9,.v (.one (.ptr 11 0)))],m11_h18 s1 a0 x5 x7,[],12,48,[]⟩:=by
   refine QZ (fun w0 M V0 ro n Q hv3 hro3 hQn3=>?_)
   refine Q4<|Q0<|rA Z Z Z<|Q5<|Q3<|Q0<|Qb Z Z (lb Z) (Qv Z7 Z)<|QC Z Z (Qz J8 Z Z Z Z (lb Z) Z)<|Q5 ?_
   exact JO hQn3 (QV (tA Z) (hA Z) kZ Z (Nat.le_trans hv3 (lb Z)) Z Z Z (bG Z (bA Z)) Z Z)
  have hb24:ExecOK Try.prog (some 9) XJ ⟨[(4,.v (.one (.ptr 2 0))),(8,.v (.one (J6 x5.name))),(9,.v (.one (.ptr 11 0)))],m11_h17 s1 a0 x5 x7,[],12,48,[]⟩ .normal ⟨[],m11_h20 s1 x5 a0 x7,[],12,48,[]⟩:=by
   refine QZ (fun w0 M V0 ro n Q hv3 hro3 hQn3=>?_)
   refine Ql ?_
   refine J4 [6] [] JV (by kernel_rfl) (by kernel_rfl) (by kernel_rfl) ?_
   refine RunA.rd Z Z Z (Q1 (Q6 W6 Z Z Z)) Z<|RunA.rd Z Z Z (Q1 (JB Z)) Z<|RunA.rd Z Z Z (Q1 (Q2 Kj Z)) Z<|RunA.rd Z Z Z (Q1 (Q6 YI Z Z Z)) Z<|RunA.rd Z Z Z (Q1 (Qq Z)) Z<|RunA.rd Z Z Z (Q1 (Qi J8 Z Z Z Z)) Z<|RunA.eff Z Z Z (Jw (M:=s1.2.1) (k:=x5.name) (v:=(⟨3,s1.1,0,x5.params,x5.ty⟩:Ent)) Z0 Z Z Z Z Z) Z ?_
   refine RunA.nil ⟨?ex,_,_,Z,?_⟩
   case ex=>exact trivial
   refine Jp (st':=⟨[],m11_h21 s1 x5 a0 x7,[],12,48,[]⟩) (QV tZ (hA Z) kZ Z (Nat.le_trans hv3 (lb Z)) Z Z Z (bG Z (bA Z)) Z Z)<|Qk ?_
   have e:=sI h3;subst e
   exact JO hQn3 (QV tZ (hA Z) kZ Z (Nat.le_trans hv3 (lb Z)) Z Z Z (bG Z (bA Z)) Z Z)
  refine Qb Z Z (lb Z) (Jm (jump:=none) Z Z Z Z Z (QK ha23 (fun E hv=>(QV (tA Z) (hA Z) kZ Z (Nat.le_trans hv (lb Z)) Z Z Z (bG Z (bA Z)) Z Z))) Z (QK hb24 (fun E hv=>(QV (tA Z) (hA Z) kZ Z (Nat.le_trans hv (lb Z)) Z Z Z (bG Z (bA Z)) Z Z))) Z Z) ?_
  refine rR Z Z Z (Jc Z)<|Q5<|Q3 ?_
  refine Qe Z (fun h=>nomatch h) (fun _=>?_)
  refine Qj<|Q3<|Q4<|Q4<|Q0<|rR Z Z Z (Q2 Js Z)<|rR Z Z Z (Q6 Yd Z Z Z)<|rR Z Z Z (Qx (α:=Ctr) JX Z (.d _))<|rM Z Z Z<|Q5<|Q3<|Ql ?_
  refine QQ 1 (fun (o25:(Qo Bs Ent))=>⟨[(0,.v (.one (.yld 9))),(1,.v (.one (.ptr 7 0))),(2,.v (.one (.ptr 6 0)))],[(0,.mp (J2 o25.1) o25.2),(1,.cells 62 [dS ((a0.take s1.1.toNat):List Dcl),.mp 0]),(2,.cells 59 [.ptr 1 0]),(3,.cells 45 (cE x5)),(5,.cells 25 [dI x7]),(6,.cells 45 (cE x5)),(7,.cells 3 [dI s1.1]),(8,.obj (.deferred (some []))),(9,Zu a0 s1),(10,Yr s1 x5)],[],12,98,[]⟩) (fun (o25:(Qo Bs Ent))=>(Jy (Nat.ble (x5.name.length+([46,114,101,99]:List UInt8).length) 1000000000)
    (Option.bind (some ()) (fun (y27:Unit)=>some (Jb o25 (x5.name++([46,114,101,99]:List UInt8)) (⟨5,s1.1,0,x5.rcr.params,x5.rcr.ty⟩:Ent)))))=some y11) ?_ ?_
  refine Qd h2 (fun o26 hl3 h2=>?_)
  refine QP (m11_l0 x5 s1) (fun s3=>⟨[(0,.v (.one (.yld 9))),(1,.v (.one (.ptr 7 0))),(2,.v (.one (.ptr 6 0))),(42,.v (.one (dS x5.ctors))),(43,.v (.one (dI (x5.ctors.length:Int)))),(44,.v (.one (dI s3.1)))],[(0,.mp (J2 s3.2.1) s3.2.2),(1,.cells 62 [dS ((a0.take s1.1.toNat):List Dcl),.mp 0]),(2,.cells 59 [.ptr 1 0]),(3,.cells 45 (cE x5)),(5,.cells 25 [dI x7]),(6,.cells 45 (cE x5)),(7,.cells 3 [dI s1.1]),(8,.obj (.deferred (some []))),(9,Zu a0 s1),(10,Yr s1 x5)],[],12,98,[]⟩) (0,(Jb s1.2.1 x5.name (⟨3,s1.1,0,x5.params,x5.ty⟩:Ent))) o26 (QV (tA Z) (hA Z) kZ Z (Nat.le_trans hv2 (lb Z)) Z Z Z (bG Z (bA Z)) Z Z) hl3 (fun s3 n3 oo3 h3 ho3=>?_)
  unfold m11_l0 at h3
  refine Q4<|Q0<|rR Z Z Z (Q8 Z Z Z)<|Q5<|Q3<|Q4 ?_
  refine Qe (b:=(decide (s3.1 < (x5.ctors.length:Int)))) Z (fun c27=>?_) (fun c27=>?_)
  replace h3:=Qf c27 h3
  refine Qj<|Q3<|Q4<|Ql<|Q4<|Q0<|rM Z Z Z ?_
  refine Qd h3 (fun x28 hx28 h3=>?_)
  refine rR Z Z Z (Qt (α:=Ctr) JX Z (.d _) Z hx28)<|rR Z Z Z (Qu (x28:Ctr) KD Z)<|Qb Z Z (lb Z) (Qv UN Z)<|rA Z Z Z<|QC Z Z (QA (x28:Ctr) KD Z Z Z Z Z)<|Q5<|Q3<|Q4<|Q0<|rM Z Z Z<|rR Z Z Z (Q2 ZB Z)<|rR Z Z Z (Q6 JG Z Z Z)<|rR Z Z Z (Q6 QG Z Z Z)<|rM Z Z Z ?_
  refine rR Z Z Z (Q2 Jz Z)<|rR Z Z Z (Q6 QG Z Z Z)<|rR Z Z Z (Q2 Za Z)<|rR Z Z Z (Qi QR Z Z Z Z)<|rR Z Z Z (Y1 Zs Z (.cons Z (.cons Z (.cons Z (.cons Z (.cons Z .nil))))) Z) ?_
  refine Qd h3 (fun y29 h4 h3=>?_)
  have ha30:ExecOK Try.prog (some 9) XK ⟨[(0,.v (.one (dS a0))),(4,.v (.one (.ptr 2 0))),(16,.v (.one (dS a0))),(17,.v (.one (dI (a0.length:Int)))),(18,.v (.one (dI s1.1))),(38,.v (.one (.fn 49 [(7,0),(6,0)]))),(39,.v (.one (J6 x28.name))),(40,.v (.agg [dI 4,dI s1.1,dI s3.1,dI x5.params,dI x28.ty.kind,dI x28.ty.index,J6 x28.ty.name,dS x28.ty.levels,dS x28.ty.kids]))],m11_h22 s3 a0 s1 x5 x7 x28,[],13,48,[]⟩ .normal ⟨[(4,.v (.one (.ptr 2 0))),(8,.v (.one (J6 x28.name))),(9,.v (.one (.ptr 13 0)))],m11_h25 s3 a0 s1 x5 x7 x28,[],14,48,[]⟩:=by
   refine QZ (fun w0 M V0 ro n Q hv4 hro4 hQn4=>?_)
   refine Q4<|Q0<|rA Z Z Z<|Q5<|Q3<|Q0<|Qb Z Z (lb Z) (Qv Z7 Z)<|QC Z Z (Qz J8 Z Z Z Z (lb Z) Z)<|Q5 ?_
   exact JO hQn4 (QV (tA Z) (hA Z) kZ Z (Nat.le_trans hv4 (lb Z)) Z Z Z (bG Z (bA Z)) Z Z)
  have hb31:ExecOK Try.prog (some 9) XJ ⟨[(4,.v (.one (.ptr 2 0))),(8,.v (.one (J6 x28.name))),(9,.v (.one (.ptr 13 0)))],m11_h24 s3 a0 s1 x5 x7 x28,[],14,48,[]⟩ .normal ⟨[],m11_h27 s3 x28 s1 x5 a0 x7,[],14,48,[]⟩:=by
   refine QZ (fun w0 M V0 ro n Q hv4 hro4 hQn4=>?_)
   refine Ql ?_
   refine J4 [6] [] JV (by kernel_rfl) (by kernel_rfl) (by kernel_rfl) ?_
   refine RunA.rd Z Z Z (Q1 (Q6 W6 Z Z Z)) Z<|RunA.rd Z Z Z (Q1 (JB Z)) Z<|RunA.rd Z Z Z (Q1 (Q2 Kj Z)) Z<|RunA.rd Z Z Z (Q1 (Q6 YI Z Z Z)) Z<|RunA.rd Z Z Z (Q1 (Qq Z)) Z<|RunA.rd Z Z Z (Q1 (Qi J8 Z Z Z Z)) Z<|RunA.eff Z Z Z (Jw (M:=s3.2) (k:=x28.name) (v:=(⟨4,s1.1,s3.1,x5.params,x28.ty⟩:Ent)) Z0 Z Z Z Z Z) Z ?_
   refine RunA.nil ⟨?ex,_,_,Z,?_⟩
   case ex=>exact trivial
   refine Jp (st':=⟨[],m11_h28 s3 x28 s1 x5 a0 x7,[],14,48,[]⟩) (QV tZ (hA Z) kZ Z (Nat.le_trans hv4 (lb Z)) Z Z Z (bG Z (bA Z)) Z Z)<|Qk ?_
   have e:=sI h4;subst e
   exact JO hQn4 (QV tZ (hA Z) kZ Z (Nat.le_trans hv4 (lb Z)) Z Z Z (bG Z (bA Z)) Z Z)
  refine Qb Z Z (lb Z) (Jm (jump:=none) Z Z Z Z Z (QK ha30 (fun E hv=>(QV (tA Z) (hA Z) kZ Z (Nat.le_trans hv (lb Z)) Z Z Z (bG Z (bA Z)) Z Z))) Z (QK hb31 (fun E hv=>(QV (tA Z) (hA Z) kZ Z (Nat.le_trans hv (lb Z)) Z Z Z (bG Z (bA Z)) Z Z))) Z Z) ?_
  refine rR Z Z Z (Jc Z)<|Q5<|Q3 ?_
  refine Qe Z (fun h=>nomatch h) (fun _=>?_)
  refine Qj<|Qk<|Q3<|Q0<|rR Z Z Z (Q8 Z Z Z)<|rM Z Z Z<|Q5 ?_
  have e:=sI h3;subst e
  refine QJ ((Ja (s3.1+1)),(Jb s3.2 x28.name (⟨4,s1.1,s3.1,x5.params,x28.ty⟩:Ent))) (QV (tA Z) (hA Z) kZ Z (Nat.le_trans hv2 (lb Z)) Z Z Z (bG Z (bA Z)) Z Z) ho3
  replace h3:=Qg c27 h3
  refine QW<|Qr<|Qr ?_
  have e:=sI h3;subst e
  have e_:_=_:=ho3
  subst e_
  exact QO s3.2 (QV (tA Z) (hA Z) kZ Z (Nat.le_trans hv2 (lb Z)) Z Z Z (bG Z (bA Z)) Z Z) h2
  intro o25 h2
  refine QF<|Q3<|Q0<|rM Z Z Z<|rR Z Z Z (Q2 JY Z)<|rR Z Z Z (Q6 JG Z Z Z) ?_
  refine Yt h2 (fun g32 h2=>?_)
  refine rR Z Z Z (Xh Z Z g32)<|rR Z Z Z (Q6 QG Z Z Z)<|rR Z Z Z (Q2 Jo Z)<|rR Z Z Z (Q2 YJ Z)<|rR Z Z Z (Q6 QG Z Z Z)<|rR Z Z Z (Q2 Jo Z)<|rR Z Z Z (Q2 Zq Z)<|rR Z Z Z (Qi QR Z Z Z Z)<|rR Z Z Z (Y1 Zs Z (.cons Z (.cons Z (.cons Z (.cons Z .nil)))) Z) ?_
  refine Qd h2 (fun y33 h3 h2=>?_)
  have ha34:ExecOK Try.prog (some 9) XK ⟨[(0,.v (.one (dS a0))),(4,.v (.one (.ptr 2 0))),(16,.v (.one (dS a0))),(17,.v (.one (dI (a0.length:Int)))),(18,.v (.one (dI s1.1))),(38,.v (.one (.fn 49 [(7,0),(6,0)]))),(39,.v (.one (J6 (x5.name++([46,114,101,99]:List UInt8))))),(40,.v (.agg [dI 5,dI s1.1,dI 0,dI x5.rcr.params,dI x5.rcr.ty.kind,dI x5.rcr.ty.index,J6 x5.rcr.ty.name,dS x5.rcr.ty.levels,dS x5.rcr.ty.kids]))],m11_h29 o25 a0 s1 x5 x7,[],12,48,[]⟩ .normal ⟨[(4,.v (.one (.ptr 2 0))),(8,.v (.one (J6 (x5.name++([46,114,101,99]:List UInt8))))),(9,.v (.one (.ptr 12 0)))],m11_h32 o25 a0 s1 x5 x7,[],13,48,[]⟩:=by
   refine QZ (fun w0 M V0 ro n Q hv3 hro3 hQn3=>?_)
   refine Q4<|Q0<|rA Z Z Z<|Q5<|Q3<|Q0<|Qb Z Z (lb Z) (Qv Z7 Z)<|QC Z Z (Qz J8 Z Z Z Z (lb Z) Z)<|Q5 ?_
   exact JO hQn3 (QV (tA Z) (hA Z) kZ Z (Nat.le_trans hv3 (lb Z)) Z Z Z (bG Z (bA Z)) Z Z)
  have hb35:ExecOK Try.prog (some 9) XJ ⟨[(4,.v (.one (.ptr 2 0))),(8,.v (.one (J6 (x5.name++([46,114,101,99]:List UInt8))))),(9,.v (.one (.ptr 12 0)))],m11_h31 o25 a0 s1 x5 x7,[],13,48,[]⟩ .normal ⟨[],m11_h34 o25 x5 s1 a0 x7,[],13,48,[]⟩:=by
   refine QZ (fun w0 M V0 ro n Q hv3 hro3 hQn3=>?_)
   refine Ql ?_
   refine J4 [6] [] JV (by kernel_rfl) (by kernel_rfl) (by kernel_rfl) ?_
   refine RunA.rd Z Z Z (Q1 (Q6 W6 Z Z Z)) Z<|RunA.rd Z Z Z (Q1 (JB Z)) Z<|RunA.rd Z Z Z (Q1 (Q2 Kj Z)) Z<|RunA.rd Z Z Z (Q1 (Q6 YI Z Z Z)) Z<|RunA.rd Z Z Z (Q1 (Qq Z)) Z<|RunA.rd Z Z Z (Q1 (Qi J8 Z Z Z Z)) Z<|RunA.eff Z Z Z (Jw (M:=o25) (k:=(x5.name++([46,114,101,99]:List UInt8))) (v:=(⟨5,s1.1,0,x5.rcr.params,x5.rcr.ty⟩:Ent)) Z0 Z Z Z Z Z) Z ?_
   refine RunA.nil ⟨?ex,_,_,Z,?_⟩
   case ex=>exact trivial
   refine Jp (st':=⟨[],m11_h35 o25 x5 s1 a0 x7,[],13,48,[]⟩) (QV tZ (hA Z) kZ Z (Nat.le_trans hv3 (lb Z)) Z Z Z (bG Z (bA Z)) Z Z)<|Qk ?_
   have e:=sI h3;subst e
   exact JO hQn3 (QV tZ (hA Z) kZ Z (Nat.le_trans hv3 (lb Z)) Z Z Z (bG Z (bA Z)) Z Z)
  refine Qb Z Z (lb Z) (Jm (jump:=none) Z Z Z Z Z (QK ha34 (fun E hv=>(QV (tA Z) (hA Z) kZ Z (Nat.le_trans hv (lb Z)) Z Z Z (bG Z (bA Z)) Z Z))) Z (QK hb35 (fun E hv=>(QV (tA Z) (hA Z) kZ Z (Nat.le_trans hv (lb Z)) Z Z Z (bG Z (bA Z)) Z Z))) Z Z) ?_
  refine Q5<|Qk ?_
  have e:=sI h2;subst e
  exact hQ2 _ _ _ (.inl Z) Z (QV tZ (hA Z) kZ Z (Nat.le_trans hv2 (lb Z)) Z Z Z (bG Z (bA Z)) Z Z)
  replace h2:=Qg c21 h2
  refine Q4<|Q0<|rR Z Z Z (Q8 Z Z Z)<|rA Z Z Z<|Q5<|Q3 ?_
  refine Qe (b:=(x5.kind==4)) Z (fun c36=>?_) (fun c36=>?_)
  replace h2:=Qf c36 h2
  refine Q4<|Q0<|rR Z Z Z (Q2 Jf Z)<|rR Z Z Z (Q6 JU Z Z Z)<|rR Z Z Z (Qx (α:=Fn) JA Z (.d _))<|rM Z Z Z<|Q5<|Q3<|Ql ?_
  refine QQ 3 (fun (o37:(Qo Bs Ent))=>⟨[],[(0,.mp (J2 o37.1) o37.2),(1,.cells 62 [dS ((a0.take s1.1.toNat):List Dcl),.mp 0]),(2,.cells 59 [.ptr 1 0]),(3,.cells 45 (cE x5)),(5,.cells 25 [dI x7]),(6,.cells 45 (cE x5)),(7,.cells 3 [dI s1.1]),(8,.obj (.deferred (some []))),(9,Zu a0 s1),(10,XI s1 x5)],[],11,98,[]⟩) (fun (o37:(Qo Bs Ent))=>(some o37)=some y11) ?_ ?_
  refine Qd h2 (fun o38 hl3 h2=>?_)
  refine QP (m11_l1 x5 s1) (fun s3=>⟨[(0,.v (.one (.yld 9))),(1,.v (.one (.ptr 7 0))),(2,.v (.one (.ptr 6 0))),(78,.v (.one (dS x5.funs))),(79,.v (.one (dI (x5.funs.length:Int)))),(80,.v (.one (dI s3.1)))],[(0,.mp (J2 s3.2.1) s3.2.2),(1,.cells 62 [dS ((a0.take s1.1.toNat):List Dcl),.mp 0]),(2,.cells 59 [.ptr 1 0]),(3,.cells 45 (cE x5)),(5,.cells 25 [dI x7]),(6,.cells 45 (cE x5)),(7,.cells 3 [dI s1.1]),(8,.obj (.deferred (some []))),(9,Zu a0 s1),(10,XI s1 x5)],[],11,98,[]⟩) (0,s1.2.1) o38 (QV (tA Z) (hA Z) kZ Z (Nat.le_trans hv2 (lb Z)) Z Z Z (bG Z (bA Z)) Z Z) hl3 (fun s3 n3 oo3 h3 ho3=>?_)
  unfold m11_l1 at h3
  refine Q4<|Q0<|rR Z Z Z (Q8 Z Z Z)<|Q5<|Q3<|Q4 ?_
  refine Qe (b:=(decide (s3.1 < (x5.funs.length:Int)))) Z (fun c39=>?_) (fun c39=>?_)
  replace h3:=Qf c39 h3
  refine Qj<|Q3<|Q4<|Ql<|Q4<|Q0<|rM Z Z Z ?_
  refine Qd h3 (fun x40 hx40 h3=>?_)
  refine rR Z Z Z (Qt (α:=Fn) JA Z (.d _) Z hx40)<|rR Z Z Z (Qu (x40:Fn) Z5 Z)<|Qb Z Z (lb Z) (Qv U9 Z)<|rA Z Z Z<|QC Z Z (QA (x40:Fn) Z5 Z Z Z Z Z)<|Q5<|Q3<|Q4<|Q0<|rM Z Z Z<|rR Z Z Z (Q2 Ki Z)<|rR Z Z Z (Q6 JG Z Z Z)<|rR Z Z Z (Q6 QG Z Z Z)<|rM Z Z Z ?_
  refine rR Z Z Z (Q2 Jz Z)<|rR Z Z Z (Q6 QG Z Z Z)<|rR Z Z Z (Q2 ZZ Z)<|rR Z Z Z (Qi QR Z Z Z Z)<|rR Z Z Z (Y1 Zs Z (.cons Z (.cons Z (.cons Z (.cons Z (.cons Z .nil))))) Z) ?_
  refine Qd h3 (fun y41 h4 h3=>?_)
  have ha42:ExecOK Try.prog (some 9) XK ⟨[(0,.v (.one (dS a0))),(4,.v (.one (.ptr 2 0))),(16,.v (.one (dS a0))),(17,.v (.one (dI (a0.length:Int)))),(18,.v (.one (dI s1.1))),(38,.v (.one (.fn 49 [(7,0),(6,0)]))),(39,.v (.one (J6 x40.name))),(40,.v (.agg [dI 6,dI s1.1,dI s3.1,dI x5.params,dI x40.ty.kind,dI x40.ty.index,J6 x40.ty.name,dS x40.ty.levels,dS x40.ty.kids]))],m11_h36 s3 a0 s1 x5 x7 x40,[],12,48,[]⟩ .normal ⟨[(4,.v (.one (.ptr 2 0))),(8,.v (.one (J6 x40.name))),(9,.v (.one (.ptr 12 0)))],m11_h39 s3 a0 s1 x5 x7 x40,[],13,48,[]⟩:=by
   refine QZ (fun w0 M V0 ro n Q hv4 hro4 hQn4=>?_)
   refine Q4<|Q0<|rA Z Z Z<|Q5<|Q3<|Q0<|Qb Z Z (lb Z) (Qv Z7 Z)<|QC Z Z (Qz J8 Z Z Z Z (lb Z) Z)<|Q5 ?_
   exact JO hQn4 (QV (tA Z) (hA Z) kZ Z (Nat.le_trans hv4 (lb Z)) Z Z Z (bG Z (bA Z)) Z Z)
  have hb43:ExecOK Try.prog (some 9) XJ ⟨[(4,.v (.one (.ptr 2 0))),(8,.v (.one (J6 x40.name))),(9,.v (.one (.ptr 12 0)))],m11_h38 s3 a0 s1 x5 x7 x40,[],13,48,[]⟩ .normal ⟨[],m11_h41 s3 x40 s1 x5 a0 x7,[],13,48,[]⟩:=by
   refine QZ (fun w0 M V0 ro n Q hv4 hro4 hQn4=>?_)
   refine Ql ?_
   refine J4 [6] [] JV (by kernel_rfl) (by kernel_rfl) (by kernel_rfl) ?_
   refine RunA.rd Z Z Z (Q1 (Q6 W6 Z Z Z)) Z<|RunA.rd Z Z Z (Q1 (JB Z)) Z<|RunA.rd Z Z Z (Q1 (Q2 Kj Z)) Z<|RunA.rd Z Z Z (Q1 (Q6 YI Z Z Z)) Z<|RunA.rd Z Z Z (Q1 (Qq Z)) Z<|RunA.rd Z Z Z (Q1 (Qi J8 Z Z Z Z)) Z<|RunA.eff Z Z Z (Jw (M:=s3.2) (k:=x40.name) (v:=(⟨6,s1.1,s3.1,x5.params,x40.ty⟩:Ent)) Z0 Z Z Z Z Z) Z ?_
   refine RunA.nil ⟨?ex,_,_,Z,?_⟩
   case ex=>exact trivial
   refine Jp (st':=⟨[],m11_h42 s3 x40 s1 x5 a0 x7,[],13,48,[]⟩) (QV tZ (hA Z) kZ Z (Nat.le_trans hv4 (lb Z)) Z Z Z (bG Z (bA Z)) Z Z)<|Qk ?_
   have e:=sI h4;subst e
   exact JO hQn4 (QV tZ (hA Z) kZ Z (Nat.le_trans hv4 (lb Z)) Z Z Z (bG Z (bA Z)) Z Z)
  refine Qb Z Z (lb Z) (Jm (jump:=none) Z Z Z Z Z (QK ha42 (fun E hv=>(QV (tA Z) (hA Z) kZ Z (Nat.le_trans hv (lb Z)) Z Z Z (bG Z (bA Z)) Z Z))) Z (QK hb43 (fun E hv=>(QV (tA Z) (hA Z) kZ Z (Nat.le_trans hv (lb Z)) Z Z Z (bG Z (bA Z)) Z Z))) Z Z) ?_
  refine rR Z Z Z (Jc Z)<|Q5<|Q3 ?_
  refine Qe Z (fun h=>nomatch h) (fun _=>?_)
  refine Qj<|Qk<|Q3<|Q0<|rR Z Z Z (Q8 Z Z Z)<|rM Z Z Z<|Q5 ?_
  have e:=sI h3;subst e
  refine QJ ((Ja (s3.1+1)),(Jb s3.2 x40.name (⟨6,s1.1,s3.1,x5.params,x40.ty⟩:Ent))) (QV (tA Z) (hA Z) kZ Z (Nat.le_trans hv2 (lb Z)) Z Z Z (bG Z (bA Z)) Z Z) ho3
  replace h3:=Qg c39 h3
  refine QW<|Qr<|Qr ?_
  have e:=sI h3;subst e
  have e_:_=_:=ho3
  subst e_
  exact QO s3.2 (QV tZ (hA Z) kZ Z (Nat.le_trans hv2 (lb Z)) Z Z Z (bG Z (bA Z)) Z Z) h2
  intro o37 h2
  refine QF<|Qk ?_
  have e:=sI h2;subst e
  exact hQ2 _ _ _ (.inl Z) Z (QV tZ (hA Z) kZ Z (Nat.le_trans hv2 (lb Z)) Z Z Z (bG Z (bA Z)) Z Z)
  replace h2:=Qg c36 h2
  refine Qj<|Qk ?_
  have e:=sI h2;subst e
  exact hQ2 _ _ _ (.inl Z) Z (QV tZ (hA Z) kZ Z (Nat.le_trans hv2 (lb Z)) Z Z Z (bG Z (bA Z)) Z Z)
 refine KN (YA (e:=.normal) rfl hc12 rfl rfl (by intro h;cases h) rfl) rfl ?_
 refine Qk<|Qk<|Q3<|Q0<|rR Z Z Z (Q8 Z Z Z)<|rM Z Z Z<|Q5 ?_
 have e:=sI h1;subst e
 refine QJ ((Ja (s1.1+1)),y11,(a0.take s1.1.toNat)) (QV (tA Z) (hA Z) kZ Z (Nat.zero_le _) Z Z Z (bG Z (bA Z)) Z Z) ho1
 replace h1:=Qg c4 h1
 refine QW<|Qr<|Qr ?_
 have e:=sI h1;subst e
 have e_:_=_:=ho1
 subst e_
 exact QO (s1.2.1,s1.2.2) (QV tZ (hA Z) kZ Z (Nat.zero_le _) Z Z Z (bG Z (bA Z)) Z Z) h0
 intro o2 h0
 refine QF<|Q3<|Q4<|Q0<|rA Z Z Z<|rA Z Z Z<|Q5<|Q3<|Qp ?_
 have e:=sI h0;subst e
 exact Qn (fun _ _ h=>h) Z (Qm Z (Qm Z .nil)) (.cons (.one (.d _)) (.cons (.one (.d _)) .nil))
end Go.Proofs.Ytafddfoefeploaa
namespace Go.Proofs.Ytafddfoefeploaa
open Go.RowKit Go.Shelf
theorem en_71:QY Try.prog 71:=enters_of Try.func71 (by kernel_rfl) rfl
theorem en_85:QY Try.prog 85:=enters_of Try.func85 (by kernel_rfl) rfl
theorem en_86:QY Try.prog 86:=enters_of Try.func86 (by kernel_rfl) rfl
theorem en_100:QY Try.prog 100:=enters_of Try.func100 (by kernel_rfl) rfl
theorem en_105:QY Try.prog 105:=enters_of Try.func105 (by kernel_rfl) rfl
theorem en_106:QY Try.prog 106:=enters_of Try.func106 (by kernel_rfl) rfl
theorem en_107:QY Try.prog 107:=enters_of Try.func107 (by kernel_rfl) rfl
theorem en_109:QY Try.prog 109:=enters_of Try.func109 (by kernel_rfl) rfl
theorem en_110:QY Try.prog 110:=enters_of Try.func110 (by kernel_rfl) rfl
def m110_k0 (p0_:Bool) (p1_:Int) (p2_:Lvl) (p3_:LV):Option (LO Int (Unit⊕Bool)) :=
 cond p0_
   (some (.done (.inr false)))
   (Option.bind (cond (decide (0 < p1_))
   (Option.bind (JP p2_.vs (Ja (p1_ - 1))) fun (b0_:LV) =>
 some (decide (p3_.1≤b0_.1)))
   (some false)) (fun (b1_:Bool)=>cond b1_
   (some (.done (.inr false)))
   (Option.bind (cond (decide (0 < p2_.c))
   (some (decide (p2_.c≤p3_.2)))
   (some false)) (fun (b2_:Bool)=>cond b2_
   (some (.done (.inr false)))
   (some (.next (Ja (p1_+1))))))))
def Gs (a0:Lvl) (s1:Int):Option (LO Int (Unit⊕Bool)) :=
 cond (decide (s1 < (a0.vs.length:Int)))
   (Option.bind (JP a0.vs s1) fun (x5:LV) =>
 Option.bind (cond (decide (x5.1 < (-65536)))
   (some true)
   (cond (decide (8≤x5.1))
   (some true)
   (cond (decide (x5.2 < 0))
   (some true)
   (some (decide (100 < x5.2)))))) (fun (v6:Bool)=>m110_k0 v6 s1 a0 x5))
   (some (.done (.inl ())))
def Dg (a0:Lvl):Option Bool :=
 Option.bind (cond (decide (a0.c < 0))
   (some true)
   (some (decide (100 < a0.c)))) (fun (v1:Bool)=>cond v1
   (some false)
   (Option.bind (QE (Gs a0) QU 0) (Sum.elim (fun (o3:Unit)=>some true) (fun o=>some o))))
theorem m110_ok (a0:Lvl) (r:Bool) (h0:Dg a0=some r):Fun Try.prog 110 [.agg (cE a0)] (QM [.one (dB r)]):=by
 unfold Dg at h0
 refine QB 9 67 Try.func110 Z en_110 Z (lb Z) (fun S w=>?_)
 simp only [J3]
 refine Q4<|Q0<|Qb Z Z (lb Z) (QN Z)<|rA Z Z Z<|Q5<|Q3<|Q4<|Q4 ?_
 refine QD (fun (v1:Bool)=>⟨[(1,.v (.one (.ptr 0 0))),(12,.v (.one (dB v1)))],[(0,.cells 87 (cE a0))],[],1,67,[]⟩) (fun (v1:Bool)=>(cond v1
     (some false)
     (Option.bind (QE (Gs a0) QU 0) (Sum.elim (fun (o3:Unit)=>some true) (fun o=>some o))))=some r) ?_ ?_
 refine Qd h0 (fun w1_ h1 h0=>?_)
 refine Q0<|rR Z Z Z (Q2 ZA Z)<|rR Z Z Z (Q6 QG Z Z Z)<|rR Z Z Z (Q8 Z Z Z)<|rM Z Z Z ?_
 refine Qw (d:=8) (c:=(decide (a0.c < 0))) Z (fun c2=>?_) (fun c2=>?_)
 replace h1:=Qf c2 h1
 refine Q7 Z Z<|Q7 Z Z<|Q7 Z Z<|rR Z Z Z (Qc Z Z)<|Q5 ?_
 have e:=sI h1;subst e
 exact Q9 true (sL (Nat.zero_le _) Z Z Z Z Z) h0
 replace h1:=Qg c2 h1
 refine rR Z Z Z (Q2 ZA Z)<|rR Z Z Z (Q6 QG Z Z Z)<|rR Z Z Z (Q8 Z Z Z)<|rR Z Z Z (Qa Z Z)<|Q5 ?_
 have e:=sI h1;subst e
 exact Q9 (decide (100 < a0.c)) (sL (Nat.zero_le _) Z Z Z Z Z) h0
 intro v1 h0
 refine Q3 ?_
 refine Qe (b:=v1) Z (fun c3=>?_) (fun c3=>?_)
 replace h0:=Qf c3 h0
 refine Q4<|Q0<|rA Z Z Z<|Q5<|Q3<|Qp ?_
 have e:=sI h0;subst e
 exact Qn (fun _ _ h=>h) Z (Qm Z .nil) (.cons (.one (.d _)) .nil)
 replace h0:=Qg c3 h0
 refine Qj<|Q3<|Q4<|Q4<|Q0<|rA Z Z Z<|Q5<|Q3<|Ql ?_
 refine QQ 0 (fun (o4:Unit)=>⟨[],[(0,.cells 87 (cE a0))],[],1,67,[]⟩) (fun (o4:Unit)=>(some true)=some r) ?_ ?_
 refine Qd h0 (fun o5 hl1 h0=>?_)
 refine QP (Gs a0) (fun s1=>⟨[(1,.v (.one (.ptr 0 0))),(3,.v (.one (dI s1)))],[(0,.cells 87 (cE a0))],[],1,67,[]⟩) 0 o5 (sL (Nat.zero_le _) Z Z Z Z Z) hl1 (fun s1 n1 oo1 h1 ho1=>?_)
 unfold Gs at h1
 refine Q4<|Q4<|Q0<|rM Z Z Z<|rR Z Z Z (Q2 Yn Z)<|rR Z Z Z (Q6 Zy Z Z Z)<|rR Z Z Z (Qx (α:=LV) YU Z (.d _))<|rR Z Z Z (Q8 Z Z Z)<|Q5<|Q3 ?_
 refine Qe (b:=(decide (s1 < (a0.vs.length:Int)))) Z (fun c6=>?_) (fun c6=>?_)
 replace h1:=Qf c6 h1
 refine Qj<|Q3<|Q4<|Ql<|Q4<|Q0<|rR Z Z Z (Q2 Yn Z)<|rR Z Z Z (Q6 Zy Z Z Z)<|rM Z Z Z ?_
 refine Qd h1 (fun x7 hx7 h1=>?_)
 refine rR Z Z Z (Qt (α:=LV) YU Z (.d _) Z hx7)<|rR Z Z Z (Qu (x7:LV) Kf Z)<|Qb Z Z (lb Z) (Qv z_124 Z)<|QC Z Z (QA (x7:LV) Kf Z Z Z Z Z)<|Q5<|Q3<|Q4<|Q4 ?_
 refine QD (fun (v8:Bool)=>⟨[(1,.v (.one (.ptr 0 0))),(3,.v (.one (dI s1))),(4,.v (.one (.ptr 1 0))),(42,.v (.one (dB v8)))],[(0,.cells 87 (cE a0)),(1,.cells 124 (cE x7))],[],2,67,[]⟩) (fun (v8:Bool)=>(m110_k0 v8 s1 a0 x7)=some oo1) ?_ ?_
 refine Qd h1 (fun w2_ h2 h1=>?_)
 refine Q0<|rR Z Z Z (Q2 YH Z)<|rR Z Z Z (Q6 QG Z Z Z)<|rR Z Z Z (Q8 Z Z Z)<|rM Z Z Z ?_
 refine Qw (d:=28) (c:=(decide (x7.1 < (-65536)))) Z (fun c9=>?_) (fun c9=>?_)
 replace h2:=Qf c9 h2
 refine Q7 Z Z<|Q7 Z Z<|Q7 Z Z<|rR Z Z Z (Qc Z Z)<|rM Z Z Z<|Q7 Z Z<|Q7 Z Z<|Q7 Z Z<|rR Z Z Z (Qc Z Z)<|rM Z Z Z<|Q7 Z Z<|Q7 Z Z<|Q7 Z Z<|rR Z Z Z (Qc Z Z) ?_
 refine Q5 ?_
 have e:=sI h2;subst e
 exact Q9 true (sL (Nat.zero_le _) Z Z Z Z Z) h1
 replace h2:=Qg c9 h2
 refine rR Z Z Z (Q2 YH Z)<|rR Z Z Z (Q6 QG Z Z Z)<|rR Z Z Z (Q8 Z Z Z)<|rR Z Z Z (Qa Z Z)<|rM Z Z Z ?_
 refine Qw (d:=33) (c:=(decide (8≤x7.1))) Z (fun c10=>?_) (fun c10=>?_)
 replace h2:=Qf c10 h2
 refine Q7 Z Z<|Q7 Z Z<|Q7 Z Z<|rR Z Z Z (Qc Z Z)<|rM Z Z Z<|Q7 Z Z<|Q7 Z Z<|Q7 Z Z<|rR Z Z Z (Qc Z Z)<|Q5 ?_
 have e:=sI h2;subst e
 exact Q9 true (sL (Nat.zero_le _) Z Z Z Z Z) h1
 replace h2:=Qg c10 h2
 refine rR Z Z Z (Q2 X1 Z)<|rR Z Z Z (Q6 QG Z Z Z)<|rR Z Z Z (Q8 Z Z Z)<|rR Z Z Z (Qa Z Z)<|rM Z Z Z ?_
 refine Qw (d:=38) (c:=(decide (x7.2 < 0))) Z (fun c11=>?_) (fun c11=>?_)
 replace h2:=Qf c11 h2
 refine Q7 Z Z<|Q7 Z Z<|Q7 Z Z<|rR Z Z Z (Qc Z Z)<|Q5 ?_
 have e:=sI h2;subst e
 exact Q9 true (sL (Nat.zero_le _) Z Z Z Z Z) h1
 replace h2:=Qg c11 h2
 refine rR Z Z Z (Q2 X1 Z)<|rR Z Z Z (Q6 QG Z Z Z)<|rR Z Z Z (Q8 Z Z Z)<|rR Z Z Z (Qa Z Z)<|Q5 ?_
 have e:=sI h2;subst e
 exact Q9 (decide (100 < x7.2)) (sL (Nat.zero_le _) Z Z Z Z Z) h1
 intro v8 h1
 unfold m110_k0 at h1
 refine Q3 ?_
 refine Qe (b:=v8) Z (fun c12=>?_) (fun c12=>?_)
 replace h1:=Qf c12 h1
 refine Q4<|Q0<|rA Z Z Z<|Q5<|Q3<|Qp ?_
 have e:=sI h1;subst e
 have e_:_=_:=ho1
 subst e_
 try dsimp only [Sum.elim_inl,Sum.elim_inr] at h0
 have e:=sI h0;subst e
 exact Qn (fun _ _ h=>h) Z (Qm Z .nil) (.cons (.one (.d _)) .nil)
 replace h1:=Qg c12 h1
 refine Qj<|Q3<|Q4<|Q4 ?_
 refine QD (fun (v13:Bool)=>⟨[(1,.v (.one (.ptr 0 0))),(3,.v (.one (dI s1))),(4,.v (.one (.ptr 1 0))),(56,.v (.one (dB v13)))],[(0,.cells 87 (cE a0)),(1,.cells 124 (cE x7))],[],2,67,[]⟩) (fun (v13:Bool)=>(cond v13
     (some (.done (.inr false)))
     (Option.bind (cond (decide (0 < a0.c))
     (some (decide (a0.c≤x7.2)))
     (some false)) (fun (v15:Bool)=>cond v15
     (some (.done (.inr false)))
     (some (.next (Ja (s1+1)))))))=some oo1) ?_ ?_
 refine Qd h1 (fun w2_ h2 h1=>?_)
 refine J4 [] [] JV (by kernel_rfl) (by kernel_rfl) (by kernel_rfl) ?_
 refine RunA.rd Z Z Z (Q1 (Qq Z)) Z<|RunA.rd Z Z Z (Q1 (Q8 Z Z Z)) Z ?_
 refine JM (c:=(decide (0 < s1))) Z Z Z (Q1 (Qq Z)) Z (fun c14=>?_) (fun c14=>?_)
 replace h2:=Qf c14 h2
 refine RunA.rd Z Z Z (Q1 (Q2 Yn Z)) Z<|RunA.rd Z Z Z (Q1 (Q6 Zy Z Z Z)) Z<|RunA.rd Z Z Z (Q1 (Qq Z)) Z<|RunA.rd Z Z Z (Q1 (Q8 Z Z Z)) Z ?_
 refine Qd h2 (fun x15 hx15 h2=>?_)
 refine RunA.rd Z Z Z (Q1 (Qt (α:=LV) YU Z (.d _) Z hx15)) Z<|RunA.rd Z Z Z (Q1 (J5 YH Z)) Z<|RunA.rd Z Z Z (Q1 (Jj QG Z Z)) Z<|RunA.rd Z Z Z (Q1 (Q2 YH Z)) Z<|RunA.rd Z Z Z (Q1 (Q6 QG Z Z Z)) Z<|RunA.rd Z Z Z (Q1 (Q8 Z Z Z)) Z<|RunA.rd Z Z Z (Q1 (Qc Z Z)) Z ?_
 refine RunA.nil ⟨?ex,_,_,Z,?_⟩
 case ex=>exact trivial
 have e:=sI h2;subst e
 exact Q9 (decide (x7.1≤x15.1)) (sL (Nat.zero_le _) Z Z Z Z Z) h1
 replace h2:=Qg c14 h2
 refine RunA.no Z Z Z Z<|RunA.no Z Z Z Z<|RunA.no Z Z Z Z<|RunA.no Z Z Z Z<|RunA.no Z Z Z Z<|RunA.no Z Z Z Z<|RunA.no Z Z Z Z<|RunA.no Z Z Z Z<|RunA.no Z Z Z Z<|RunA.no Z Z Z Z<|RunA.rd Z Z Z (Q1 (Qa Z Z)) Z ?_
 refine RunA.nil ⟨?ex,_,_,Z,?_⟩
 case ex=>exact trivial
 have e:=sI h2;subst e
 exact Q9 false (sL (Nat.zero_le _) Z Z Z Z Z) h1
 intro v13 h1
 refine Q3 ?_
 refine Qe (b:=v13) Z (fun c16=>?_) (fun c16=>?_)
 replace h1:=Qf c16 h1
 refine Q4<|Q0<|rA Z Z Z<|Q5<|Q3<|Qp ?_
 have e:=sI h1;subst e
 have e_:_=_:=ho1
 subst e_
 try dsimp only [Sum.elim_inl,Sum.elim_inr] at h0
 have e:=sI h0;subst e
 exact Qn (fun _ _ h=>h) Z (Qm Z .nil) (.cons (.one (.d _)) .nil)
 replace h1:=Qg c16 h1
 refine Qj<|Q3<|Q4 ?_
 refine QD (fun (v17:Bool)=>⟨[(1,.v (.one (.ptr 0 0))),(3,.v (.one (dI s1))),(66,.v (.one (dB v17)))],[(0,.cells 87 (cE a0)),(1,.cells 124 (cE x7))],[],2,67,[]⟩) (fun (v17:Bool)=>(cond v17
     (some (.done (.inr false)))
     (some (.next (Ja (s1+1)))))=some oo1) ?_ ?_
 refine Qd h1 (fun w2_ h2 h1=>?_)
 refine Q0<|rR Z Z Z (Q2 ZA Z)<|rR Z Z Z (Q6 QG Z Z Z)<|rR Z Z Z (Q8 Z Z Z)<|rM Z Z Z ?_
 refine Qw (d:=60) (c:=(decide (0 < a0.c))) Z (fun c18=>?_) (fun c18=>?_)
 replace h2:=Qf c18 h2
 refine rR Z Z Z (Q2 X1 Z)<|rR Z Z Z (Q6 QG Z Z Z)<|rR Z Z Z (Q2 ZA Z)<|rR Z Z Z (Q6 QG Z Z Z)<|rR Z Z Z (Q8 Z Z Z)<|rR Z Z Z (Qc Z Z)<|Q5 ?_
 have e:=sI h2;subst e
 exact Q9 (decide (a0.c≤x7.2)) (sL (Nat.zero_le _) Z Z Z Z Z) h1
 replace h2:=Qg c18 h2
 refine Q7 Z Z<|Q7 Z Z<|Q7 Z Z<|Q7 Z Z<|Q7 Z Z<|rR Z Z Z (Qa Z Z)<|Q5 ?_
 have e:=sI h2;subst e
 exact Q9 false (sL (Nat.zero_le _) Z Z Z Z Z) h1
 intro v17 h1
 refine Q3 ?_
 refine Qe (b:=v17) Z (fun c19=>?_) (fun c19=>?_)
 replace h1:=Qf c19 h1
 refine Q4<|Q0<|rA Z Z Z<|Q5<|Q3<|Qp ?_
 have e:=sI h1;subst e
 have e_:_=_:=ho1
 subst e_
 try dsimp only [Sum.elim_inl,Sum.elim_inr] at h0
 have e:=sI h0;subst e
 exact Qn (fun _ _ h=>h) Z (Qm Z .nil) (.cons (.one (.d _)) .nil)
 replace h1:=Qg c19 h1
 refine Qj<|Qk<|Q3<|Q0<|rM Z Z Z<|rR Z Z Z (Q8 Z Z Z)<|rA Z Z Z<|Q5 ?_
 have e:=sI h1;subst e
 refine QJ (Ja (s1+1)) (sL (Nat.zero_le _) Z Z Z Z Z) ho1
 replace h1:=Qg c6 h1
 refine QW<|Qr<|Qr ?_
 have e:=sI h1;subst e
 have e_:_=_:=ho1
 subst e_
 exact QO () (sL (Nat.zero_le _) Z Z Z Z Z) h0
 intro o4 h0
 refine QF<|Q3<|Q4<|Q0<|rA Z Z Z<|Q5<|Q3<|Qp ?_
 have e:=sI h0;subst e
 exact Qn (fun _ _ h=>h) Z (Qm Z .nil) (.cons (.one (.d _)) .nil)
def m85 (a0:Byt):Option Bool :=
 Option.bind (cond (decide (97≤a0.n))
   (cond (decide (a0.n≤122))
   (some true)
   (cond (decide (65≤a0.n))
   (cond (decide (a0.n≤90))
   (some true)
   (some (a0.n==95)))
   (some (a0.n==95))))
   (cond (decide (65≤a0.n))
   (cond (decide (a0.n≤90))
   (some true)
   (some (a0.n==95)))
   (some (a0.n==95)))) (fun (v1:Bool)=>some v1)
theorem m85_ok (a0:Byt) (r:Bool) (h0:m85 a0=some r):Fun Try.prog 85 [.one (.d (.v (.int .u8 a0.n)))] (QM [.one (dB r)]):=by
 unfold m85 at h0
 refine QB 9 21 Try.func85 Z en_85 Z (lb Z) (fun S w=>?_)
 simp only [J3]
 refine Q4<|Q0<|rA Z Z Z<|Q5<|Q3<|Q4 ?_
 refine QD (fun (v1:Bool)=>⟨[(2,.v (.one (dB v1)))],[],[],0,21,[]⟩) (fun (v1:Bool)=>(some v1)=some r) ?_ ?_
 refine Qd h0 (fun w1_ h1 h0=>?_)
 refine Q0<|rM Z Z Z<|rR Z Z Z (Q8 Z Z Z)<|rM Z Z Z ?_
 refine Qw (d:=5) (c:=(decide (97≤a0.n))) Z (fun c2=>?_) (fun c2=>?_)
 replace h1:=Qf c2 h1
 refine rM Z Z Z<|rR Z Z Z (Q8 Z Z Z)<|rR Z Z Z (Qc Z Z)<|rM Z Z Z ?_
 refine Qw (d:=9) (c:=(decide (a0.n≤122))) Z (fun c3=>?_) (fun c3=>?_)
 replace h1:=Qf c3 h1
 refine Q7 Z Z<|Q7 Z Z<|Q7 Z Z<|Q7 Z Z<|Q7 Z Z<|Q7 Z Z<|rR Z Z Z (Qc Z Z)<|rM Z Z Z<|Q7 Z Z<|Q7 Z Z<|rR Z Z Z (Qc Z Z)<|rA Z Z Z<|Q5 ?_
 have e:=sI h1;subst e
 exact Q9 true (sL (Nat.zero_le _) Z Z Z Z Z) h0
 replace h1:=Qg c3 h1
 refine rM Z Z Z<|rR Z Z Z (Q8 Z Z Z)<|rM Z Z Z ?_
 refine Qw (d:=12) (c:=(decide (65≤a0.n))) Z (fun c4=>?_) (fun c4=>?_)
 replace h1:=Qf c4 h1
 refine rM Z Z Z<|rR Z Z Z (Q8 Z Z Z)<|rR Z Z Z (Qc Z Z)<|rR Z Z Z (Qa Z Z)<|rM Z Z Z ?_
 refine Qw (d:=17) (c:=(decide (a0.n≤90))) Z (fun c5=>?_) (fun c5=>?_)
 replace h1:=Qf c5 h1
 refine Q7 Z Z<|Q7 Z Z<|rR Z Z Z (Qc Z Z)<|rA Z Z Z<|Q5 ?_
 have e:=sI h1;subst e
 exact Q9 true (sL (Nat.zero_le _) Z Z Z Z Z) h0
 replace h1:=Qg c5 h1
 refine rM Z Z Z<|rR Z Z Z (Q8 Z Z Z)<|rR Z Z Z (Qa Z Z)<|rA Z Z Z<|Q5 ?_
 have e:=sI h1;subst e
 exact Q9 (a0.n==95) (sL (Nat.zero_le _) Z Z Z Z Z) h0
 replace h1:=Qg c4 h1
 refine Q7 Z Z<|Q7 Z Z<|rR Z Z Z (Qa Z Z)<|rR Z Z Z (Qa Z Z)<|rM Z Z Z<|rM Z Z Z<|rR Z Z Z (Q8 Z Z Z)<|rR Z Z Z (Qa Z Z)<|rA Z Z Z<|Q5 ?_
 have e:=sI h1;subst e
 exact Q9 (a0.n==95) (sL (Nat.zero_le _) Z Z Z Z Z) h0
 replace h1:=Qg c2 h1
 refine Q7 Z Z<|Q7 Z Z<|rR Z Z Z (Qa Z Z)<|rM Z Z Z<|rM Z Z Z<|rR Z Z Z (Q8 Z Z Z)<|rM Z Z Z ?_
 refine Qw (d:=12) (c:=(decide (65≤a0.n))) Z (fun c6=>?_) (fun c6=>?_)
 replace h1:=Qf c6 h1
 refine rM Z Z Z<|rR Z Z Z (Q8 Z Z Z)<|rR Z Z Z (Qc Z Z)<|rR Z Z Z (Qa Z Z)<|rM Z Z Z ?_
 refine Qw (d:=17) (c:=(decide (a0.n≤90))) Z (fun c7=>?_) (fun c7=>?_)
 replace h1:=Qf c7 h1
 refine Q7 Z Z<|Q7 Z Z<|rR Z Z Z (Qc Z Z)<|rA Z Z Z<|Q5 ?_
 have e:=sI h1;subst e
 exact Q9 true (sL (Nat.zero_le _) Z Z Z Z Z) h0
 replace h1:=Qg c7 h1
 refine rM Z Z Z<|rR Z Z Z (Q8 Z Z Z)<|rR Z Z Z (Qa Z Z)<|rA Z Z Z<|Q5 ?_
 have e:=sI h1;subst e
 exact Q9 (a0.n==95) (sL (Nat.zero_le _) Z Z Z Z Z) h0
 replace h1:=Qg c6 h1
 refine Q7 Z Z<|Q7 Z Z<|rR Z Z Z (Qa Z Z)<|rR Z Z Z (Qa Z Z)<|rM Z Z Z<|rM Z Z Z<|rR Z Z Z (Q8 Z Z Z)<|rR Z Z Z (Qa Z Z)<|rA Z Z Z<|Q5 ?_
 have e:=sI h1;subst e
 exact Q9 (a0.n==95) (sL (Nat.zero_le _) Z Z Z Z Z) h0
 intro v1 h0
 refine Q3<|Qp ?_
 have e:=sI h0;subst e
 exact Qn (fun _ _ h=>h) Z (Qm Z .nil) (.cons (.one (.d _)) .nil)
def Xq (a0:Bs) (s1:Bool×Int):Option (LO (Bool×Int) (Bool⊕Bool)) :=
 cond (decide (s1.2 < (a0.length:Int)))
   (Option.bind (JP a0 s1.2) fun (x5:UInt8) =>
 cond s1.1
   (Option.bind (m85 (⟨(x5.toNat:Int)⟩:Byt)) fun (x7:Bool) =>
 cond (!x7)
   (some (.done (.inr false)))
   (some (.next (false,(Ja (s1.2+1))))))
   (cond ((x5.toNat:Int)==46)
   (some (.next (true,(Ja (s1.2+1)))))
   (Option.bind (Option.bind (m85 (⟨(x5.toNat:Int)⟩:Byt)) fun (x11:Bool) =>
 cond (!x11)
   (cond ((x5.toNat:Int) != 39)
   (cond (decide ((x5.toNat:Int) < 48))
   (some true)
   (some (decide (57 < (x5.toNat:Int)))))
   (some false))
   (some false)) (fun (v10:Bool)=>cond v10
   (some (.done (.inr false)))
   (some (.next (s1.1,(Ja (s1.2+1)))))))))
   (some (.done (.inl s1.1)))
def DQ (a0:Bs):Option Bool :=
 Option.bind (cond (a0==([]:List UInt8))
   (some true)
   (some (decide (64 < (a0.length:Int))))) (fun (v1:Bool)=>cond v1
   (some false)
   (Option.bind (QE (Xq a0) QU (true,0)) (Sum.elim (fun (o3:Bool)=>some (!o3)) (fun o=>some o))))
theorem m71_ok (a0:Bs) (r:Bool) (h0:DQ a0=some r):Fun Try.prog 71 [.one (J6 a0)] (QM [.one (dB r)]):=by
 unfold DQ at h0
 refine QB 9 45 Try.func71 Z en_71 Z (lb Z) (fun S w=>?_)
 simp only [J3]
 refine Q4<|Q0<|rA Z Z Z<|Q5<|Q3<|Q4<|Q4 ?_
 refine QD (fun (v1:Bool)=>⟨[(0,.v (.one (J6 a0))),(12,.v (.one (dB v1)))],[],[],0,45,[]⟩) (fun (v1:Bool)=>(cond v1
     (some false)
     (Option.bind (QE (Xq a0) QU (true,0)) (Sum.elim (fun (o3:Bool)=>some (!o3)) (fun o=>some o))))=some r) ?_ ?_
 refine Qd h0 (fun w1_ h1 h0=>?_)
 refine Q0<|rM Z Z Z<|rR Z Z Z (ZG Z Z)<|rM Z Z Z ?_
 refine Qw (d:=8) (c:=(a0==([]:List UInt8))) Z (fun c2=>?_) (fun c2=>?_)
 replace h1:=Qf c2 h1
 refine Q7 Z Z<|Q7 Z Z<|Q7 Z Z<|rR Z Z Z (Qc Z Z)<|Q5 ?_
 have e:=sI h1;subst e
 exact Q9 true (sL (Nat.zero_le _) Z Z Z Z Z) h0
 replace h1:=Qg c2 h1
 refine rM Z Z Z<|rR Z Z Z (KP Ue Z)<|rR Z Z Z (Q8 Z Z Z)<|rR Z Z Z (Qa Z Z)<|Q5 ?_
 have e:=sI h1;subst e
 exact Q9 (decide (64 < (a0.length:Int))) (sL (Nat.zero_le _) Z Z Z Z Z) h0
 intro v1 h0
 refine Q3 ?_
 refine Qe (b:=v1) Z (fun c3=>?_) (fun c3=>?_)
 replace h0:=Qf c3 h0
 refine Q4<|Q0<|rA Z Z Z<|Q5<|Q3<|Qp ?_
 have e:=sI h0;subst e
 exact Qn (fun _ _ h=>h) Z (Qm Z .nil) (.cons (.one (.d _)) .nil)
 replace h0:=Qg c3 h0
 refine Qj<|Q3<|Q4<|Q0<|rA Z Z Z<|Q5<|Q3<|Q4<|Q4<|Q0<|rA Z Z Z<|Q5<|Q3<|Ql ?_
 refine QQ 0 (fun (o4:Bool)=>⟨[(3,.v (.one (dB o4)))],[],[],0,45,[]⟩) (fun (o4:Bool)=>(some (!o4))=some r) ?_ ?_
 refine Qd h0 (fun o5 hl1 h0=>?_)
 refine QP (Xq a0) (fun s1=>⟨[(0,.v (.one (J6 a0))),(3,.v (.one (dB s1.1))),(4,.v (.one (dI s1.2)))],[],[],0,45,[]⟩) (true,0) o5 (sL (Nat.zero_le _) Z Z Z Z Z) hl1 (fun s1 n1 oo1 h1 ho1=>?_)
 unfold Xq at h1
 refine Q4<|Q4<|Q0<|rM Z Z Z<|rM Z Z Z<|rR Z Z Z (KP Ue Z)<|rR Z Z Z (Q8 Z Z Z)<|Q5<|Q3 ?_
 refine Qe (b:=(decide (s1.2 < (a0.length:Int)))) Z (fun c6=>?_) (fun c6=>?_)
 replace h1:=Qf c6 h1
 refine Qj<|Q3<|Q4<|Ql<|Q4<|Q0<|rM Z Z Z<|rM Z Z Z ?_
 refine Qd h1 (fun x7 hx7 h1=>?_)
 refine rR Z Z Z (RO.ixS Ue Z Z hx7)<|rA Z Z Z<|Q5<|Q3<|Q4<|Q4<|Q0<|rM Z Z Z<|Q5<|Q3 ?_
 refine Qe (b:=s1.1) Z (fun c8=>?_) (fun c8=>?_)
 replace h1:=Qf c8 h1
 refine Q4<|Q4<|Q0<|rM Z Z Z ?_
 refine Qd h1 (fun x9 hx9 h1=>?_)
 refine Qb Z Z (lb Z) (Qh (m85_ok (⟨(x7.toNat:Int)⟩:Byt) x9 hx9) Z (.cons (.one (.d _)) .nil))<|rR Z Z Z (Jc Z)<|Q5<|Q3 ?_
 refine Qe (b:=(!x9)) Z (fun c10=>?_) (fun c10=>?_)
 replace h1:=Qf c10 h1
 refine Q4<|Q0<|rA Z Z Z<|Q5<|Q3<|Qp ?_
 have e:=sI h1;subst e
 have e_:_=_:=ho1
 subst e_
 try dsimp only [Sum.elim_inl,Sum.elim_inr] at h0
 have e:=sI h0;subst e
 exact Qn (fun _ _ h=>h) Z (Qm Z .nil) (.cons (.one (.d _)) .nil)
 replace h1:=Qg c10 h1
 refine Qj<|Q3<|Q4<|Q0<|rA Z Z Z<|Q5<|Q3<|QW<|Qr<|QF<|Q3<|Q0<|rM Z Z Z<|rR Z Z Z (Q8 Z Z Z) ?_
 refine rA Z Z Z<|Q5 ?_
 have e:=sI h1;subst e
 refine QJ (false,(Ja (s1.2+1))) (sL (Nat.zero_le _) Z Z Z Z Z) ho1
 replace h1:=Qg c8 h1
 refine Qj<|Q3<|Q4<|Q4<|Q0<|rM Z Z Z<|rR Z Z Z (Q8 Z Z Z)<|Q5<|Q3 ?_
 refine Qe (b:=((x7.toNat:Int)==46)) Z (fun c11=>?_) (fun c11=>?_)
 replace h1:=Qf c11 h1
 refine Q4<|Q0<|rA Z Z Z<|Q5<|Q3<|QW<|Qr<|QF<|Q3<|Q0<|rM Z Z Z<|rR Z Z Z (Q8 Z Z Z)<|rA Z Z Z<|Q5 ?_
 have e:=sI h1;subst e
 refine QJ (true,(Ja (s1.2+1))) (sL (Nat.zero_le _) Z Z Z Z Z) ho1
 replace h1:=Qg c11 h1
 refine Qj<|Q3<|Q4 ?_
 refine QD (fun (v12:Bool)=>⟨[(0,.v (.one (J6 a0))),(3,.v (.one (dB s1.1))),(4,.v (.one (dI s1.2))),(42,.v (.one (dB v12)))],[],[],0,45,[]⟩) (fun (v12:Bool)=>(cond v12
     (some (.done (.inr false)))
     (some (.next (s1.1,(Ja (s1.2+1))))))=some oo1) ?_ ?_
 refine Qd h1 (fun w2_ h2 h1=>?_)
 refine Q0<|rM Z Z Z ?_
 refine Qd h2 (fun x13 hx13 h2=>?_)
 refine Qb Z Z (lb Z) (Qh (m85_ok (⟨(x7.toNat:Int)⟩:Byt) x13 hx13) Z (.cons (.one (.d _)) .nil))<|rR Z Z Z (Jc Z)<|rM Z Z Z ?_
 refine Qw (d:=31) (c:=(!x13)) Z (fun c14=>?_) (fun c14=>?_)
 replace h2:=Qf c14 h2
 refine rM Z Z Z<|rR Z Z Z (Q8 Z Z Z)<|rR Z Z Z (Qc Z Z)<|rM Z Z Z ?_
 refine Qw (d:=35) (c:=((x7.toNat:Int) != 39)) Z (fun c15=>?_) (fun c15=>?_)
 replace h2:=Qf c15 h2
 refine rM Z Z Z<|rR Z Z Z (Q8 Z Z Z)<|rM Z Z Z ?_
 refine Qw (d:=38) (c:=(decide ((x7.toNat:Int) < 48))) Z (fun c16=>?_) (fun c16=>?_)
 replace h2:=Qf c16 h2
 refine Q7 Z Z<|Q7 Z Z<|rR Z Z Z (Qc Z Z)<|rR Z Z Z (Qc Z Z)<|Q5 ?_
 have e:=sI h2;subst e
 exact Q9 true (sL (Nat.zero_le _) Z Z Z Z Z) h1
 replace h2:=Qg c16 h2
 refine rM Z Z Z<|rR Z Z Z (Q8 Z Z Z)<|rR Z Z Z (Qa Z Z)<|rR Z Z Z (Qc Z Z)<|Q5 ?_
 have e:=sI h2;subst e
 exact Q9 (decide (57 < (x7.toNat:Int))) (sL (Nat.zero_le _) Z Z Z Z Z) h1
 replace h2:=Qg c15 h2
 refine Q7 Z Z<|Q7 Z Z<|Q7 Z Z<|Q7 Z Z<|Q7 Z Z<|Q7 Z Z<|rR Z Z Z (Qa Z Z)<|Q5 ?_
 have e:=sI h2;subst e
 exact Q9 false (sL (Nat.zero_le _) Z Z Z Z Z) h1
 replace h2:=Qg c14 h2
 refine Q7 Z Z<|Q7 Z Z<|rR Z Z Z (Qa Z Z)<|rM Z Z Z<|Q7 Z Z<|Q7 Z Z<|Q7 Z Z<|Q7 Z Z<|Q7 Z Z<|Q7 Z Z<|rR Z Z Z (Qa Z Z)<|Q5 ?_
 have e:=sI h2;subst e
 exact Q9 false (sL (Nat.zero_le _) Z Z Z Z Z) h1
 intro v12 h1
 refine Q3 ?_
 refine Qe (b:=v12) Z (fun c17=>?_) (fun c17=>?_)
 replace h1:=Qf c17 h1
 refine Q4<|Q0<|rA Z Z Z<|Q5<|Q3<|Qp ?_
 have e:=sI h1;subst e
 have e_:_=_:=ho1
 subst e_
 try dsimp only [Sum.elim_inl,Sum.elim_inr] at h0
 have e:=sI h0;subst e
 exact Qn (fun _ _ h=>h) Z (Qm Z .nil) (.cons (.one (.d _)) .nil)
 replace h1:=Qg c17 h1
 refine Qj<|Qk<|Q3<|Q0<|rM Z Z Z<|rR Z Z Z (Q8 Z Z Z)<|rA Z Z Z<|Q5 ?_
 have e:=sI h1;subst e
 refine QJ (s1.1,(Ja (s1.2+1))) (sL (Nat.zero_le _) Z Z Z Z Z) ho1
 replace h1:=Qg c6 h1
 refine QW<|Qr<|Qr ?_
 have e:=sI h1;subst e
 have e_:_=_:=ho1
 subst e_
 exact QO s1.1 (sL (Nat.zero_le _) Z Z Z Z Z) h0
 intro o4 h0
 refine QF<|Q3<|Q4<|Q0<|rM Z Z Z<|rR Z Z Z (Jc Z)<|rA Z Z Z<|Q5<|Q3<|Qp ?_
 have e:=sI h0;subst e
 exact Qn (fun _ _ h=>h) Z (Qm Z .nil) (.cons (.one (.d _)) .nil)
def m109_k0 (p0_:Bool) (p1_:Int):Option Int :=
 cond p0_
   (some 2)
   (Option.bind (cond (p1_==8)
   (some (p1_==8))
   (some (p1_==11))) (fun (b0_:Bool)=>cond b0_
   (some 3)
   (cond (p1_==9)
   (cond (p1_==9)
   (some 1)
   (some 0))
   (cond (p1_==10)
   (some 1)
   (some 0)))))
def m109 (a0:Int):Option Int :=
 Option.bind (cond (a0==4)
   (some (a0==4))
   (cond (a0==5)
   (some (a0==5))
   (cond (a0==6)
   (some (a0==6))
   (some (a0==7))))) (fun (v1:Bool)=>m109_k0 v1 a0)
theorem m109_ok (a0:Int) (r:Int) (h0:m109 a0=some r):Fun Try.prog 109 [.one (dI a0)] (QM [.one (dI r)]):=by
 unfold m109 at h0
 refine QB 9 15 Try.func109 Z en_109 Z (lb Z) (fun S w=>?_)
 simp only [J3]
 refine Q4<|Q0<|rA Z Z Z<|Q5<|Q3<|Q4<|Q4<|Q0<|rM Z Z Z<|Q5<|Q3<|Ql<|Q4<|Q4 ?_
 refine Q0<|rR Z Z Z (Q8 Z Z Z)<|rA Z Z Z<|Q5<|Q3 ?_
 refine QD (fun (v1:Bool)=>⟨[(3,.v (.one (dI a0))),(4,.v (.one (dB v1)))],[],[],0,15,[]⟩) (fun (v1:Bool)=>(m109_k0 v1 a0)=some r) ?_ ?_
 refine Qd h0 (fun w1_ h1 h0=>?_)
 refine Qe (b:=(a0==4)) Z (fun c2=>?_) (fun c2=>?_)
 replace h1:=Qf c2 h1
 refine Qj ?_
 have e:=sI h1;subst e
 exact Q9 (a0==4) (sL (Nat.zero_le _) Z Z Z Z Z) h0
 replace h1:=Qg c2 h1
 refine Q4<|Q0<|rR Z Z Z (Q8 Z Z Z)<|rA Z Z Z<|Q5<|Q3 ?_
 refine Qe (b:=(a0==5)) Z (fun c3=>?_) (fun c3=>?_)
 replace h1:=Qf c3 h1
 refine Qj ?_
 have e:=sI h1;subst e
 exact Q9 (a0==5) (sL (Nat.zero_le _) Z Z Z Z Z) h0
 replace h1:=Qg c3 h1
 refine Q4<|Q0<|rR Z Z Z (Q8 Z Z Z)<|rA Z Z Z<|Q5<|Q3 ?_
 refine Qe (b:=(a0==6)) Z (fun c4=>?_) (fun c4=>?_)
 replace h1:=Qf c4 h1
 refine Qj ?_
 have e:=sI h1;subst e
 exact Q9 (a0==6) (sL (Nat.zero_le _) Z Z Z Z Z) h0
 replace h1:=Qg c4 h1
 refine Q0<|rR Z Z Z (Q8 Z Z Z)<|rA Z Z Z<|Q5 ?_
 have e:=sI h1;subst e
 exact Q9 (a0==7) (sL (Nat.zero_le _) Z Z Z Z Z) h0
 intro v1 h0
 unfold m109_k0 at h0
 refine Q3 ?_
 refine Qe (b:=v1) Z (fun c5=>?_) (fun c5=>?_)
 replace h0:=Qf c5 h0
 refine Q4<|Q0<|rA Z Z Z<|Q5<|Q3<|Qp ?_
 have e:=sI h0;subst e
 exact Qn (fun _ _ h=>h) Z (Qm Z .nil) (.cons (.one (.d _)) .nil)
 replace h0:=Qg c5 h0
 refine Q4<|Q4<|Q0<|rR Z Z Z (Q8 Z Z Z)<|rA Z Z Z<|Q5<|Q3 ?_
 refine QD (fun (v6:Bool)=>⟨[(3,.v (.one (dI a0))),(9,.v (.one (dB v6)))],[],[],0,15,[]⟩) (fun (v6:Bool)=>(cond v6
     (some 3)
     (cond (a0==9)
     (cond (a0==9)
     (some 1)
     (some 0))
     (cond (a0==10)
     (some 1)
     (some 0))))=some r) ?_ ?_
 refine Qd h0 (fun w1_ h1 h0=>?_)
 refine Qe (b:=(a0==8)) Z (fun c7=>?_) (fun c7=>?_)
 replace h1:=Qf c7 h1
 refine Qj ?_
 have e:=sI h1;subst e
 exact Q9 (a0==8) (sL (Nat.zero_le _) Z Z Z Z Z) h0
 replace h1:=Qg c7 h1
 refine Q0<|rR Z Z Z (Q8 Z Z Z)<|rA Z Z Z<|Q5 ?_
 have e:=sI h1;subst e
 exact Q9 (a0==11) (sL (Nat.zero_le _) Z Z Z Z Z) h0
 intro v6 h0
 refine Q3 ?_
 refine Qe (b:=v6) Z (fun c8=>?_) (fun c8=>?_)
 replace h0:=Qf c8 h0
 refine Q4<|Q0<|rA Z Z Z<|Q5<|Q3<|Qp ?_
 have e:=sI h0;subst e
 exact Qn (fun _ _ h=>h) Z (Qm Z .nil) (.cons (.one (.d _)) .nil)
 replace h0:=Qg c8 h0
 refine Q4<|Q4<|Q0<|rR Z Z Z (Q8 Z Z Z)<|rA Z Z Z<|Q5<|Q3 ?_
 refine Qe (b:=(a0==9)) Z (fun c9=>?_) (fun c9=>?_)
 replace h0:=Qf c9 h0
 refine Qj<|Q3 ?_
 refine Qe (b:=(a0==9)) Z (fun c10=>?_) (fun c10=>?_)
 replace h0:=Qf c10 h0
 refine Q4<|Q0<|rA Z Z Z<|Q5<|Q3<|Qp ?_
 have e:=sI h0;subst e
 exact Qn (fun _ _ h=>h) Z (Qm Z .nil) (.cons (.one (.d _)) .nil)
 replace h0:=Qg c10 h0
 refine Qj<|Qk<|Q3<|Q4<|Q0<|rA Z Z Z<|Q5<|Q3<|Qp ?_
 have e:=sI h0;subst e
 exact Qn (fun _ _ h=>h) Z (Qm Z .nil) (.cons (.one (.d _)) .nil)
 replace h0:=Qg c9 h0
 refine Q0<|rR Z Z Z (Q8 Z Z Z)<|rA Z Z Z<|Q5<|Q3 ?_
 refine Qe (b:=(a0==10)) Z (fun c11=>?_) (fun c11=>?_)
 replace h0:=Qf c11 h0
 refine Q4<|Q0<|rA Z Z Z<|Q5<|Q3<|Qp ?_
 have e:=sI h0;subst e
 exact Qn (fun _ _ h=>h) Z (Qm Z .nil) (.cons (.one (.d _)) .nil)
 replace h0:=Qg c11 h0
 refine Qj<|Qk<|Q3<|Q4<|Q0<|rA Z Z Z<|Q5<|Q3<|Qp ?_
 have e:=sI h0;subst e
 exact Qn (fun _ _ h=>h) Z (Qm Z .nil) (.cons (.one (.d _)) .nil)
def Ux (a0:Int) (a1:Int):Option Int :=
 Option.bind (cond (a1==1)
   (cond (a0==5)
   (some true)
   (cond (a0==6)
   (some true)
   (cond (a0==7)
   (some true)
   (cond (a1==2)
   (some (a0==11))
   (some false)))))
   (cond (a1==2)
   (some (a0==11))
   (some false))) (fun (v1:Bool)=>cond v1
   (some 1)
   (some 0))
theorem m107_ok (a0:Int) (a1:Int) (r:Int) (h0:Ux a0 a1=some r):Fun Try.prog 107 [.one (dI a0),.one (dI a1)] (QM [.one (dI r)]):=by
 unfold Ux at h0
 refine QB 9 27 Try.func107 Z en_107 Z (lb Z) (fun S w=>?_)
 simp only [J3]
 refine Q4<|Q0<|rA Z Z Z<|Q5<|Q3<|Q4<|Q4 ?_
 refine QD (fun (v1:Bool)=>⟨[(26,.v (.one (dB v1)))],[],[],0,27,[]⟩) (fun (v1:Bool)=>(cond v1
     (some 1)
     (some 0))=some r) ?_ ?_
 refine Qd h0 (fun w1_ h1 h0=>?_)
 refine Q0<|rM Z Z Z<|rR Z Z Z (Q8 Z Z Z)<|rM Z Z Z ?_
 refine Qw (d:=7) (c:=(a1==1)) Z (fun c2=>?_) (fun c2=>?_)
 replace h1:=Qf c2 h1
 refine rM Z Z Z<|rR Z Z Z (Q8 Z Z Z)<|rM Z Z Z ?_
 refine Qw (d:=10) (c:=(a0==5)) Z (fun c3=>?_) (fun c3=>?_)
 replace h1:=Qf c3 h1
 refine Q7 Z Z<|Q7 Z Z<|rR Z Z Z (Qc Z Z)<|rM Z Z Z<|Q7 Z Z<|Q7 Z Z<|rR Z Z Z (Qc Z Z)<|rR Z Z Z (Qc Z Z)<|rM Z Z Z<|Q7 Z Z<|Q7 Z Z<|Q7 Z Z<|Q7 Z Z<|Q7 Z Z ?_
 refine Q7 Z Z<|rR Z Z Z (Qc Z Z)<|Q5 ?_
 have e:=sI h1;subst e
 exact Q9 true (sL (Nat.zero_le _) Z Z Z Z Z) h0
 replace h1:=Qg c3 h1
 refine rM Z Z Z<|rR Z Z Z (Q8 Z Z Z)<|rR Z Z Z (Qa Z Z)<|rM Z Z Z ?_
 refine Qw (d:=14) (c:=(a0==6)) Z (fun c4=>?_) (fun c4=>?_)
 replace h1:=Qf c4 h1
 refine Q7 Z Z<|Q7 Z Z<|rR Z Z Z (Qc Z Z)<|rR Z Z Z (Qc Z Z)<|rM Z Z Z<|Q7 Z Z<|Q7 Z Z<|Q7 Z Z<|Q7 Z Z<|Q7 Z Z<|Q7 Z Z<|rR Z Z Z (Qc Z Z)<|Q5 ?_
 have e:=sI h1;subst e
 exact Q9 true (sL (Nat.zero_le _) Z Z Z Z Z) h0
 replace h1:=Qg c4 h1
 refine rM Z Z Z<|rR Z Z Z (Q8 Z Z Z)<|rR Z Z Z (Qa Z Z)<|rR Z Z Z (Qc Z Z)<|rM Z Z Z ?_
 refine Qw (d:=19) (c:=(a0==7)) Z (fun c5=>?_) (fun c5=>?_)
 replace h1:=Qf c5 h1
 refine Q7 Z Z<|Q7 Z Z<|Q7 Z Z<|Q7 Z Z<|Q7 Z Z<|Q7 Z Z<|rR Z Z Z (Qc Z Z)<|Q5 ?_
 have e:=sI h1;subst e
 exact Q9 true (sL (Nat.zero_le _) Z Z Z Z Z) h0
 replace h1:=Qg c5 h1
 refine rM Z Z Z<|rR Z Z Z (Q8 Z Z Z)<|rM Z Z Z ?_
 refine Qw (d:=22) (c:=(a1==2)) Z (fun c6=>?_) (fun c6=>?_)
 replace h1:=Qf c6 h1
 refine rM Z Z Z<|rR Z Z Z (Q8 Z Z Z)<|rR Z Z Z (Qc Z Z)<|rR Z Z Z (Qa Z Z)<|Q5 ?_
 have e:=sI h1;subst e
 exact Q9 (a0==11) (sL (Nat.zero_le _) Z Z Z Z Z) h0
 replace h1:=Qg c6 h1
 refine Q7 Z Z<|Q7 Z Z<|rR Z Z Z (Qa Z Z)<|rR Z Z Z (Qa Z Z)<|Q5 ?_
 have e:=sI h1;subst e
 exact Q9 false (sL (Nat.zero_le _) Z Z Z Z Z) h0
 replace h1:=Qg c2 h1
 refine Q7 Z Z<|Q7 Z Z<|Q7 Z Z<|Q7 Z Z<|Q7 Z Z<|Q7 Z Z<|Q7 Z Z<|Q7 Z Z<|Q7 Z Z<|Q7 Z Z<|rR Z Z Z (Qa Z Z)<|rM Z Z Z<|rM Z Z Z<|rR Z Z Z (Q8 Z Z Z) ?_
 refine rM Z Z Z ?_
 refine Qw (d:=22) (c:=(a1==2)) Z (fun c7=>?_) (fun c7=>?_)
 replace h1:=Qf c7 h1
 refine rM Z Z Z<|rR Z Z Z (Q8 Z Z Z)<|rR Z Z Z (Qc Z Z)<|rR Z Z Z (Qa Z Z)<|Q5 ?_
 have e:=sI h1;subst e
 exact Q9 (a0==11) (sL (Nat.zero_le _) Z Z Z Z Z) h0
 replace h1:=Qg c7 h1
 refine Q7 Z Z<|Q7 Z Z<|rR Z Z Z (Qa Z Z)<|rR Z Z Z (Qa Z Z)<|Q5 ?_
 have e:=sI h1;subst e
 exact Q9 false (sL (Nat.zero_le _) Z Z Z Z Z) h0
 intro v1 h0
 refine Q3 ?_
 refine Qe (b:=v1) Z (fun c8=>?_) (fun c8=>?_)
 replace h0:=Qf c8 h0
 refine Q4<|Q0<|rA Z Z Z<|Q5<|Q3<|Qp ?_
 have e:=sI h0;subst e
 exact Qn (fun _ _ h=>h) Z (Qm Z .nil) (.cons (.one (.d _)) .nil)
 replace h0:=Qg c8 h0
 refine Qj<|Q3<|Q4<|Q0<|rA Z Z Z<|Q5<|Q3<|Qp ?_
 have e:=sI h0;subst e
 exact Qn (fun _ _ h=>h) Z (Qm Z .nil) (.cons (.one (.d _)) .nil)
def m105_k0 (p0_:Bool) (p1_:Tm):Option Bool :=
 cond p0_
   (some false)
   (Option.bind (cond (!(p1_.name==([]:List UInt8)))
   (some (p1_.kind != 3))
   (some false)) (fun (b0_:Bool)=>cond b0_
   (some false)
   (cond (p1_.kind==2)
   (some ((p1_.levels.length:Int)==1))
   (Option.bind (cond ((p1_.levels.length:Int)==0)
   (some true)
   (some (p1_.kind==3))) (fun (b1_:Bool)=>some b1_)))))
def UT (a0:Tm):Option Bool :=
 Option.bind (cond (decide (a0.kind < 0))
   (some true)
   (cond (decide (13≤a0.kind))
   (some true)
   (Option.bind (m109 a0.kind) fun (x4:Int) =>
 some ((a0.kids.length:Int) != x4)))) (fun (v1:Bool)=>cond v1
   (some false)
   (Option.bind (cond (a0.index != 0)
   (cond (a0.kind != 0)
   (some (a0.kind != 12))
   (some false))
   (some false)) (fun (v3:Bool)=>m105_k0 v3 a0)))
theorem m105_ok (a0:Tm) (r:Bool) (h0:UT a0=some r):Fun Try.prog 105 [.agg (cE a0)] (QM [.one (dB r)]):=by
 unfold UT at h0
 refine QB 9 57 Try.func105 Z en_105 Z (lb Z) (fun S w=>?_)
 simp only [J3]
 refine Q4<|Q0<|Qb Z Z (lb Z) (QN Z)<|rA Z Z Z<|Q5<|Q3<|Q4<|Q4 ?_
 refine QD (fun (v1:Bool)=>⟨[(1,.v (.one (.ptr 0 0))),(19,.v (.one (dB v1)))],[(0,.cells 33 (cE a0))],[],1,57,[]⟩) (fun (v1:Bool)=>(cond v1
     (some false)
     (Option.bind (cond (a0.index != 0)
     (cond (a0.kind != 0)
     (some (a0.kind != 12))
     (some false))
     (some false)) (fun (v3:Bool)=>m105_k0 v3 a0)))=some r) ?_ ?_
 refine Qd h0 (fun w1_ h1 h0=>?_)
 refine J4 [] [] JV (by kernel_rfl) (by kernel_rfl) (by kernel_rfl) ?_
 refine RunA.rd Z Z Z (Q1 (Q2 JF Z)) Z<|RunA.rd Z Z Z (Q1 (Q6 QG Z Z Z)) Z<|RunA.rd Z Z Z (Q1 (Q8 Z Z Z)) Z ?_
 refine JM (c:=(decide (a0.kind < 0))) Z Z Z (Q1 (Qq Z)) Z (fun c2=>?_) (fun c2=>?_)
 replace h1:=Qf c2 h1
 refine RunA.no Z Z Z Z<|RunA.no Z Z Z Z<|RunA.no Z Z Z Z<|RunA.rd Z Z Z (Q1 (Qc Z Z)) Z<|RunA.rd Z Z Z (Q1 (Qq Z)) Z<|RunA.no Z Z Z Z<|RunA.no Z Z Z Z<|RunA.no Z Z Z Z<|RunA.no Z Z Z Z<|RunA.no Z Z Z Z<|RunA.no Z Z Z Z<|RunA.no Z Z Z Z<|RunA.rd Z Z Z (Q1 (Qc Z Z)) Z ?_
 refine RunA.nil ⟨?ex,_,_,Z,?_⟩
 case ex=>exact trivial
 have e:=sI h1;subst e
 exact Q9 true (sL (Nat.zero_le _) Z Z Z Z Z) h0
 replace h1:=Qg c2 h1
 refine RunA.rd Z Z Z (Q1 (Q2 JF Z)) Z<|RunA.rd Z Z Z (Q1 (Q6 QG Z Z Z)) Z<|RunA.rd Z Z Z (Q1 (Q8 Z Z Z)) Z<|RunA.rd Z Z Z (Q1 (Qa Z Z)) Z ?_
 refine JM (c:=(decide (13≤a0.kind))) Z Z Z (Q1 (Qq Z)) Z (fun c3=>?_) (fun c3=>?_)
 replace h1:=Qf c3 h1
 refine RunA.no Z Z Z Z<|RunA.no Z Z Z Z<|RunA.no Z Z Z Z<|RunA.no Z Z Z Z<|RunA.no Z Z Z Z<|RunA.no Z Z Z Z<|RunA.no Z Z Z Z<|RunA.rd Z Z Z (Q1 (Qc Z Z)) Z ?_
 refine RunA.nil ⟨?ex,_,_,Z,?_⟩
 case ex=>exact trivial
 have e:=sI h1;subst e
 exact Q9 true (sL (Nat.zero_le _) Z Z Z Z Z) h0
 replace h1:=Qg c3 h1
 refine RunA.rd Z Z Z (Q1 (Q2 Jv Z)) Z<|RunA.rd Z Z Z (Q1 (Q6 JH Z Z Z)) Z<|RunA.rd Z Z Z (Q1 (Qx (α:=Tm) Jk Z (.d _))) Z<|RunA.rd Z Z Z (Q1 (Q2 JF Z)) Z<|RunA.rd Z Z Z (Q1 (Q6 QG Z Z Z)) Z ?_
 refine Qd h1 (fun x4 hx4 h1=>?_)
 refine RunA.rd Z Z Z (Qh (m109_ok a0.kind x4 hx4) Z (.cons (.one (.d _)) .nil)) Z<|RunA.rd Z Z Z (Q1 (Q8 Z Z Z)) Z<|RunA.rd Z Z Z (Q1 (Qa Z Z)) Z ?_
 refine RunA.nil ⟨?ex,_,_,Z,?_⟩
 case ex=>exact trivial
 have e:=sI h1;subst e
 exact Q9 ((a0.kids.length:Int) != x4) (sL (Nat.zero_le _) Z Z Z Z Z) h0
 intro v1 h0
 refine Q3 ?_
 refine Qe (b:=v1) Z (fun c5=>?_) (fun c5=>?_)
 replace h0:=Qf c5 h0
 refine Q4<|Q0<|rA Z Z Z<|Q5<|Q3<|Qp ?_
 have e:=sI h0;subst e
 exact Qn (fun _ _ h=>h) Z (Qm Z .nil) (.cons (.one (.d _)) .nil)
 replace h0:=Qg c5 h0
 refine Qj<|Q3<|Q4<|Q4 ?_
 refine QD (fun (v6:Bool)=>⟨[(1,.v (.one (.ptr 0 0))),(32,.v (.one (dB v6)))],[(0,.cells 33 (cE a0))],[],1,57,[]⟩) (fun (v6:Bool)=>(m105_k0 v6 a0)=some r) ?_ ?_
 refine Qd h0 (fun w1_ h1 h0=>?_)
 refine Q0<|rR Z Z Z (Q2 YK Z)<|rR Z Z Z (Q6 QG Z Z Z)<|rR Z Z Z (Q8 Z Z Z)<|rM Z Z Z ?_
 refine Qw (d:=23) (c:=(a0.index != 0)) Z (fun c7=>?_) (fun c7=>?_)
 replace h1:=Qf c7 h1
 refine rR Z Z Z (Q2 JF Z)<|rR Z Z Z (Q6 QG Z Z Z)<|rR Z Z Z (Q8 Z Z Z)<|rR Z Z Z (Qc Z Z)<|rM Z Z Z ?_
 refine Qw (d:=28) (c:=(a0.kind != 0)) Z (fun c8=>?_) (fun c8=>?_)
 replace h1:=Qf c8 h1
 refine rR Z Z Z (Q2 JF Z)<|rR Z Z Z (Q6 QG Z Z Z)<|rR Z Z Z (Q8 Z Z Z)<|rR Z Z Z (Qc Z Z)<|Q5 ?_
 have e:=sI h1;subst e
 exact Q9 (a0.kind != 12) (sL (Nat.zero_le _) Z Z Z Z Z) h0
 replace h1:=Qg c8 h1
 refine Q7 Z Z<|Q7 Z Z<|Q7 Z Z<|rR Z Z Z (Qa Z Z)<|Q5 ?_
 have e:=sI h1;subst e
 exact Q9 false (sL (Nat.zero_le _) Z Z Z Z Z) h0
 replace h1:=Qg c7 h1
 refine Q7 Z Z<|Q7 Z Z<|Q7 Z Z<|rR Z Z Z (Qa Z Z)<|rM Z Z Z<|Q7 Z Z<|Q7 Z Z<|Q7 Z Z<|rR Z Z Z (Qa Z Z)<|Q5 ?_
 have e:=sI h1;subst e
 exact Q9 false (sL (Nat.zero_le _) Z Z Z Z Z) h0
 intro v6 h0
 unfold m105_k0 at h0
 refine Q3 ?_
 refine Qe (b:=v6) Z (fun c9=>?_) (fun c9=>?_)
 replace h0:=Qf c9 h0
 refine Q4<|Q0<|rA Z Z Z<|Q5<|Q3<|Qp ?_
 have e:=sI h0;subst e
 exact Qn (fun _ _ h=>h) Z (Qm Z .nil) (.cons (.one (.d _)) .nil)
 replace h0:=Qg c9 h0
 refine Qj<|Q3<|Q4<|Q4 ?_
 refine QD (fun (v10:Bool)=>⟨[(1,.v (.one (.ptr 0 0))),(40,.v (.one (dB v10)))],[(0,.cells 33 (cE a0))],[],1,57,[]⟩) (fun (v10:Bool)=>(cond v10
     (some false)
     (cond (a0.kind==2)
     (some ((a0.levels.length:Int)==1))
     (Option.bind (cond ((a0.levels.length:Int)==0)
     (some true)
     (some (a0.kind==3))) (fun (v13:Bool)=>some v13))))=some r) ?_ ?_
 refine Qd h0 (fun w1_ h1 h0=>?_)
 refine Q0<|rR Z Z Z (Q2 Zb Z)<|rR Z Z Z (Q6 JG Z Z Z)<|rR Z Z Z (Wy Z Z)<|rM Z Z Z ?_
 refine Qw (d:=36) (c:=(!(a0.name==([]:List UInt8)))) Z (fun c11=>?_) (fun c11=>?_)
 replace h1:=Qf c11 h1
 refine rR Z Z Z (Q2 JF Z)<|rR Z Z Z (Q6 QG Z Z Z)<|rR Z Z Z (Q8 Z Z Z)<|rR Z Z Z (Qc Z Z)<|Q5 ?_
 have e:=sI h1;subst e
 exact Q9 (a0.kind != 3) (sL (Nat.zero_le _) Z Z Z Z Z) h0
 replace h1:=Qg c11 h1
 refine Q7 Z Z<|Q7 Z Z<|Q7 Z Z<|rR Z Z Z (Qa Z Z)<|Q5 ?_
 have e:=sI h1;subst e
 exact Q9 false (sL (Nat.zero_le _) Z Z Z Z Z) h0
 intro v10 h0
 refine Q3 ?_
 refine Qe (b:=v10) Z (fun c12=>?_) (fun c12=>?_)
 replace h0:=Qf c12 h0
 refine Q4<|Q0<|rA Z Z Z<|Q5<|Q3<|Qp ?_
 have e:=sI h0;subst e
 exact Qn (fun _ _ h=>h) Z (Qm Z .nil) (.cons (.one (.d _)) .nil)
 replace h0:=Qg c12 h0
 refine Qj<|Q3<|Q4<|Q4<|Q0<|rR Z Z Z (Q2 JF Z)<|rR Z Z Z (Q6 QG Z Z Z)<|rR Z Z Z (Q8 Z Z Z)<|Q5<|Q3 ?_
 refine Qe (b:=(a0.kind==2)) Z (fun c13=>?_) (fun c13=>?_)
 replace h0:=Qf c13 h0
 refine Q4<|Q0<|rR Z Z Z (Q2 Yy Z)<|rR Z Z Z (Q6 K4 Z Z Z)<|rR Z Z Z (Qx (α:=Lvl) YV Z (.d _))<|rR Z Z Z (Q8 Z Z Z)<|rA Z Z Z<|Q5<|Q3<|Qp ?_
 have e:=sI h0;subst e
 exact Qn (fun _ _ h=>h) Z (Qm Z .nil) (.cons (.one (.d _)) .nil)
 replace h0:=Qg c13 h0
 refine Qj<|Q3<|Q4 ?_
 refine QD (fun (v14:Bool)=>⟨[(2,.v (.one (dB v14)))],[(0,.cells 33 (cE a0))],[],1,57,[]⟩) (fun (v14:Bool)=>(some v14)=some r) ?_ ?_
 refine Qd h0 (fun w1_ h1 h0=>?_)
 refine Q0<|rR Z Z Z (Q2 Yy Z)<|rR Z Z Z (Q6 K4 Z Z Z)<|rR Z Z Z (Qx (α:=Lvl) YV Z (.d _))<|rR Z Z Z (Q8 Z Z Z)<|rM Z Z Z ?_
 refine Qw (d:=52) (c:=((a0.levels.length:Int)==0)) Z (fun c15=>?_) (fun c15=>?_)
 replace h1:=Qf c15 h1
 refine Q7 Z Z<|Q7 Z Z<|Q7 Z Z<|rR Z Z Z (Qc Z Z)<|rA Z Z Z<|Q5 ?_
 have e:=sI h1;subst e
 exact Q9 true (sL (Nat.zero_le _) Z Z Z Z Z) h0
 replace h1:=Qg c15 h1
 refine rR Z Z Z (Q2 JF Z)<|rR Z Z Z (Q6 QG Z Z Z)<|rR Z Z Z (Q8 Z Z Z)<|rR Z Z Z (Qa Z Z)<|rA Z Z Z<|Q5 ?_
 have e:=sI h1;subst e
 exact Q9 (a0.kind==3) (sL (Nat.zero_le _) Z Z Z Z Z) h0
 intro v14 h0
 refine Q3<|Qp ?_
 have e:=sI h0;subst e
 exact Qn (fun _ _ h=>h) Z (Qm Z .nil) (.cons (.one (.d _)) .nil)
def Xe (a0:Lvl) (a1:Int) (s1:Int):Option (LO Int (Unit⊕Int)) :=
 cond (decide (s1 < (a0.vs.length:Int)))
   (Option.bind (Option.bind (JP a0.vs s1) fun (x6:LV) =>
 cond (decide (0≤x6.1))
   (Option.bind (JP a0.vs s1) fun (x8:LV) =>
 some (decide (a1≤x8.1)))
   (some false)) (fun (v5:Bool)=>cond v5
   (some (.done (.inr 15)))
   (some (.next (Ja (s1+1))))))
   (some (.done (.inl ())))
def Gt (a0:Lvl) (a2:Int) (s1:Int):Option (LO Int (Unit⊕Int)) :=
 cond (decide (s1 < (a0.vs.length:Int)))
   (Option.bind (Option.bind (JP a0.vs s1) fun (x7:LV) =>
 cond (decide (x7.1 < 0))
   (Option.bind (JP a0.vs s1) fun (x9:LV) =>
 some (decide (a2≤(Ja ((-1) - x9.1)))))
   (some false)) (fun (v6:Bool)=>cond v6
   (some (.done (.inr 23)))
   (some (.next (Ja (s1+1))))))
   (some (.done (.inl ())))
def D9 (a0:Lvl) (a1:Int) (a2:Int):Option Int :=
 Option.bind (Dg a0) fun (x1:Bool) =>
 cond (!x1)
   (some 3)
   (Option.bind (QE (Xe a0 a1) QU 0) (Sum.elim (fun (o3:Unit)=>Option.bind (QE (Gt a0 a2) QU 0) (Sum.elim (fun (o4:Unit)=>some 0) (fun o=>some o))) (fun o=>some o)))
theorem m106_ok (a0:Lvl) (a1:Int) (a2:Int) (r:Int) (h0:D9 a0 a1 a2=some r):Fun Try.prog 106 [.agg (cE a0),.one (dI a1),.one (dI a2)] (QM [.one (dI r)]):=by
 unfold D9 at h0
 refine QB 9 61 Try.func106 Z en_106 Z (lb Z) (fun S w=>?_)
 simp only [J3]
 refine Q4<|Q0<|Qb Z Z (lb Z) (QN Z)<|rA Z Z Z<|Q5<|Q3<|Q4<|Q4<|Q0<|rR Z Z Z (QH (a0:Lvl) K8 Z Z) ?_
 refine Qd h0 (fun x1 hx1 h0=>?_)
 refine Qb Z Z (lb Z) (Qh (m110_ok a0 x1 hx1) Z (.cons (.agg (.cons (.d _) (.cons (.d _) .nil))) .nil))<|rR Z Z Z (Jc Z)<|Q5<|Q3 ?_
 refine Qe (b:=(!x1)) Z (fun c2=>?_) (fun c2=>?_)
 replace h0:=Qf c2 h0
 refine Q4<|Q0<|rA Z Z Z<|Q5<|Q3<|Qp ?_
 have e:=sI h0;subst e
 exact Qn (fun _ _ h=>h) Z (Qm Z .nil) (.cons (.one (.d _)) .nil)
 replace h0:=Qg c2 h0
 refine Qj<|Q3<|Q4<|Q4<|Q0<|rA Z Z Z<|Q5<|Q3<|Ql ?_
 refine QQ 0 (fun (o3:Unit)=>⟨[(2,.v (.one (dI a2))),(3,.v (.one (.ptr 0 0)))],[(0,.cells 87 (cE a0))],[],1,61,[]⟩) (fun (o3:Unit)=>(Option.bind (QE (Gt a0 a2) QU 0) (Sum.elim (fun (o4:Unit)=>some 0) (fun o=>some o)))=some r) ?_ ?_
 refine Qd h0 (fun o4 hl1 h0=>?_)
 refine QP (Xe a0 a1) (fun s1=>⟨[(1,.v (.one (dI a1))),(2,.v (.one (dI a2))),(3,.v (.one (.ptr 0 0))),(7,.v (.one (dI s1)))],[(0,.cells 87 (cE a0))],[],1,61,[]⟩) 0 o4 (sL (Nat.zero_le _) Z Z Z Z Z) hl1 (fun s1 n1 oo1 h1 ho1=>?_)
 unfold Xe at h1
 refine Q4<|Q4<|Q0<|rM Z Z Z<|rR Z Z Z (Q2 Yn Z)<|rR Z Z Z (Q6 Zy Z Z Z)<|rR Z Z Z (Qx (α:=LV) YU Z (.d _))<|rR Z Z Z (Q8 Z Z Z)<|Q5<|Q3 ?_
 refine Qe (b:=(decide (s1 < (a0.vs.length:Int)))) Z (fun c5=>?_) (fun c5=>?_)
 replace h1:=Qf c5 h1
 refine Qj<|Q3<|Q4<|Ql<|Q4 ?_
 refine QD (fun (v6:Bool)=>⟨[(1,.v (.one (dI a1))),(2,.v (.one (dI a2))),(3,.v (.one (.ptr 0 0))),(7,.v (.one (dI s1))),(35,.v (.one (dB v6)))],[(0,.cells 87 (cE a0))],[],1,61,[]⟩) (fun (v6:Bool)=>(cond v6
     (some (.done (.inr 15)))
     (some (.next (Ja (s1+1)))))=some oo1) ?_ ?_
 refine Qd h1 (fun w2_ h2 h1=>?_)
 refine Q0<|rR Z Z Z (Q2 Yn Z)<|rR Z Z Z (Q6 Zy Z Z Z)<|rM Z Z Z ?_
 refine Qd h2 (fun x7 hx7 h2=>?_)
 refine rR Z Z Z (Qt (α:=LV) YU Z (.d _) Z hx7)<|rR Z Z Z (J5 YH Z)<|rR Z Z Z (Jj QG Z Z)<|rR Z Z Z (Q8 Z Z Z)<|rM Z Z Z ?_
 refine Qw (d:=26) (c:=(decide (0≤x7.1))) Z (fun c8=>?_) (fun c8=>?_)
 replace h2:=Qf c8 h2
 refine rR Z Z Z (Q2 Yn Z)<|rR Z Z Z (Q6 Zy Z Z Z)<|rM Z Z Z ?_
 refine Qd h2 (fun x9 hx9 h2=>?_)
 refine rR Z Z Z (Qt (α:=LV) YU Z (.d _) Z hx9)<|rR Z Z Z (J5 YH Z)<|rR Z Z Z (Jj QG Z Z)<|rM Z Z Z<|rR Z Z Z (Q8 Z Z Z)<|rR Z Z Z (Qc Z Z)<|Q5 ?_
 have e:=sI h2;subst e
 exact Q9 (decide (a1≤x9.1)) (sL (Nat.zero_le _) Z Z Z Z Z) h1
 replace h2:=Qg c8 h2
 refine Q7 Z Z<|Q7 Z Z<|Q7 Z Z<|Q7 Z Z<|Q7 Z Z<|Q7 Z Z<|Q7 Z Z<|Q7 Z Z<|rR Z Z Z (Qa Z Z)<|Q5 ?_
 have e:=sI h2;subst e
 exact Q9 false (sL (Nat.zero_le _) Z Z Z Z Z) h1
 intro v6 h1
 refine Q3 ?_
 refine Qe (b:=v6) Z (fun c10=>?_) (fun c10=>?_)
 replace h1:=Qf c10 h1
 refine Q4<|Q0<|rA Z Z Z<|Q5<|Q3<|Qp ?_
 have e:=sI h1;subst e
 have e_:_=_:=ho1
 subst e_
 try dsimp only [Sum.elim_inl,Sum.elim_inr] at h0
 have e:=sI h0;subst e
 exact Qn (fun _ _ h=>h) Z (Qm Z .nil) (.cons (.one (.d _)) .nil)
 replace h1:=Qg c10 h1
 refine Qj<|Qk<|Q3<|Q0<|rM Z Z Z<|rR Z Z Z (Q8 Z Z Z)<|rA Z Z Z<|Q5 ?_
 have e:=sI h1;subst e
 refine QJ (Ja (s1+1)) (sL (Nat.zero_le _) Z Z Z Z Z) ho1
 replace h1:=Qg c5 h1
 refine QW<|Qr<|Qr ?_
 have e:=sI h1;subst e
 have e_:_=_:=ho1
 subst e_
 exact QO () (sL (Nat.zero_le _) Z Z Z Z Z) h0
 intro o3 h0
 refine QF<|Q3<|Q4<|Q4<|Q0<|rA Z Z Z<|Q5<|Q3<|Ql ?_
 refine QQ 2 (fun (o11:Unit)=>⟨[],[(0,.cells 87 (cE a0))],[],1,61,[]⟩) (fun (o11:Unit)=>(some 0)=some r) ?_ ?_
 refine Qd h0 (fun o12 hl1 h0=>?_)
 refine QP (Gt a0 a2) (fun s1=>⟨[(2,.v (.one (dI a2))),(3,.v (.one (.ptr 0 0))),(8,.v (.one (dI s1)))],[(0,.cells 87 (cE a0))],[],1,61,[]⟩) 0 o12 (sL (Nat.zero_le _) Z Z Z Z Z) hl1 (fun s1 n1 oo1 h1 ho1=>?_)
 unfold Gt at h1
 refine Q4<|Q4<|Q0<|rM Z Z Z<|rR Z Z Z (Q2 Yn Z)<|rR Z Z Z (Q6 Zy Z Z Z)<|rR Z Z Z (Qx (α:=LV) YU Z (.d _))<|rR Z Z Z (Q8 Z Z Z)<|Q5<|Q3 ?_
 refine Qe (b:=(decide (s1 < (a0.vs.length:Int)))) Z (fun c13=>?_) (fun c13=>?_)
 replace h1:=Qf c13 h1
 refine Qj<|Q3<|Q4<|Ql<|Q4 ?_
 refine QD (fun (v14:Bool)=>⟨[(2,.v (.one (dI a2))),(3,.v (.one (.ptr 0 0))),(8,.v (.one (dI s1))),(60,.v (.one (dB v14)))],[(0,.cells 87 (cE a0))],[],1,61,[]⟩) (fun (v14:Bool)=>(cond v14
     (some (.done (.inr 23)))
     (some (.next (Ja (s1+1)))))=some oo1) ?_ ?_
 refine Qd h1 (fun w2_ h2 h1=>?_)
 refine Q0<|rR Z Z Z (Q2 Yn Z)<|rR Z Z Z (Q6 Zy Z Z Z)<|rM Z Z Z ?_
 refine Qd h2 (fun x15 hx15 h2=>?_)
 refine rR Z Z Z (Qt (α:=LV) YU Z (.d _) Z hx15)<|rR Z Z Z (J5 YH Z)<|rR Z Z Z (Jj QG Z Z)<|rR Z Z Z (Q8 Z Z Z)<|rM Z Z Z ?_
 refine Qw (d:=50) (c:=(decide (x15.1 < 0))) Z (fun c16=>?_) (fun c16=>?_)
 replace h2:=Qf c16 h2
 refine rR Z Z Z (Q2 Yn Z)<|rR Z Z Z (Q6 Zy Z Z Z)<|rM Z Z Z ?_
 refine Qd h2 (fun x17 hx17 h2=>?_)
 refine rR Z Z Z (Qt (α:=LV) YU Z (.d _) Z hx17)<|rR Z Z Z (J5 YH Z)<|rR Z Z Z (Jj QG Z Z)<|rR Z Z Z (Q8 Z Z Z)<|rM Z Z Z<|rR Z Z Z (Q8 Z Z Z)<|rR Z Z Z (Qc Z Z)<|Q5 ?_
 have e:=sI h2;subst e
 exact Q9 (decide (a2≤(Ja ((-1) - x17.1)))) (sL (Nat.zero_le _) Z Z Z Z Z) h1
 replace h2:=Qg c16 h2
 refine Q7 Z Z<|Q7 Z Z<|Q7 Z Z<|Q7 Z Z<|Q7 Z Z<|Q7 Z Z<|Q7 Z Z<|Q7 Z Z<|Q7 Z Z<|rR Z Z Z (Qa Z Z)<|Q5 ?_
 have e:=sI h2;subst e
 exact Q9 false (sL (Nat.zero_le _) Z Z Z Z Z) h1
 intro v14 h1
 refine Q3 ?_
 refine Qe (b:=v14) Z (fun c18=>?_) (fun c18=>?_)
 replace h1:=Qf c18 h1
 refine Q4<|Q0<|rA Z Z Z<|Q5<|Q3<|Qp ?_
 have e:=sI h1;subst e
 have e_:_=_:=ho1
 subst e_
 try dsimp only [Sum.elim_inl,Sum.elim_inr] at h0
 have e:=sI h0;subst e
 exact Qn (fun _ _ h=>h) Z (Qm Z .nil) (.cons (.one (.d _)) .nil)
 replace h1:=Qg c18 h1
 refine Qj<|Qk<|Q3<|Q0<|rM Z Z Z<|rR Z Z Z (Q8 Z Z Z)<|rA Z Z Z<|Q5 ?_
 have e:=sI h1;subst e
 refine QJ (Ja (s1+1)) (sL (Nat.zero_le _) Z Z Z Z Z) ho1
 replace h1:=Qg c13 h1
 refine QW<|Qr<|Qr ?_
 have e:=sI h1;subst e
 have e_:_=_:=ho1
 subst e_
 exact QO () (sL (Nat.zero_le _) Z Z Z Z Z) h0
 intro o11 h0
 refine QF<|Q3<|Q4<|Q0<|rA Z Z Z<|Q5<|Q3<|Qp ?_
 have e:=sI h0;subst e
 exact Qn (fun _ _ h=>h) Z (Qm Z .nil) (.cons (.one (.d _)) .nil)
def KJ (a0:Tm) (a3:Int) (a5:Int) (s1:Int):Option (LO Int (Unit⊕Int)) :=
 cond (decide (s1 < (a0.levels.length:Int)))
   (Option.bind (JP a0.levels s1) fun (x8:Lvl) =>
 Option.bind (D9 x8 a3 a5) fun (x9:Int) =>
 cond (x9 != 0)
   (some (.done (.inr x9)))
   (some (.next (Ja (s1+1)))))
   (some (.done (.inl ())))
def KI (a0:Tm) (rc:Tm×Int×Int×Int×Int×Int→Option Int) (a1:Int) (a2:Int) (a3:Int) (a4:Int) (a5:Int) (s1:Int):Option (LO Int (Unit⊕Int)) :=
 cond (decide (s1 < (a0.kids.length:Int)))
   (Option.bind (JP a0.kids s1) fun (x13:Tm) =>
 Option.bind (Ux a0.kind s1) fun (x14:Int) =>
 Option.bind (rc (x13,(Ja (a1+x14)),a2,a3,a4,a5)) fun (x15:Int) =>
 cond (x15 != 0)
   (some (.done (.inr x15)))
   (some (.next (Ja (s1+1)))))
   (some (.done (.inl ())))
def Kh (p0_:Bool) (p1_:Tm) (p2_:Int) (p3_:Tm×Int×Int×Int×Int×Int→Option Int) (p4_:Int) (p5_:Int) (p6_:Int) (p7_:Int):Option Int :=
 cond p0_
   (some 24)
   (Option.bind (cond (p1_.kind==12)
   (cond (decide (p1_.index < 0))
   (some true)
   (some (decide (p2_≤p1_.index))))
   (some false)) (fun (b0_:Bool)=>cond b0_
   (some 23)
   (Option.bind (QE (KI p1_ p3_ p4_ p5_ p6_ p2_ p7_) QU 0) (Sum.elim (fun (b1_:Unit)=>some 0) (fun o=>some o)))))
def m100_k3 (p0_:Bool) (p1_:Tm) (p2_:Int) (p3_:Int) (p4_:Int) (p5_:Int) (p6_:Int) (p7_:Tm×Int×Int×Int×Int×Int→Option Int):Option Int :=
 cond p0_
   (some 29)
   (cond (decide (8 < (p1_.levels.length:Int)))
   (some 6)
   (Option.bind (QE (KJ p1_ p2_ p3_) QU 0) (Sum.elim (fun (b0_:Unit)=>Option.bind (cond (p1_.kind==0)
   (cond (decide (p1_.index < 0))
   (some true)
   (some (decide (p4_≤(Ja (p1_.index - p5_))))))
   (some false)) (fun (b1_:Bool)=>Kh b1_ p1_ p6_ p7_ p5_ p4_ p2_ p3_)) (fun o=>some o))))
def UK (rc:Tm×Int×Int×Int×Int×Int→Option Int) (a0:Tm) (a1:Int) (a2:Int) (a3:Int) (a4:Int) (a5:Int):Option Int :=
 Option.bind (UT a0) fun (x1:Bool) =>
 cond (!x1)
   (some 3)
   (Option.bind (cond (a0.kind==3)
   (Option.bind (DQ a0.name) fun (x5:Bool) =>
 some (!x5))
   (some false)) (fun (v3:Bool)=>m100_k3 v3 a0 a3 a5 a2 a1 a4 rc))
def Uy (rc:Tm×Int×Int×Int×Int×Int→Option Int) (u:Tm×Int×Int×Int×Int×Int):Option Int:=UK rc u.1 u.2.1 u.2.2.1 u.2.2.2.1 u.2.2.2.2.1 u.2.2.2.2.2
def m100 (a0:Tm) (a1:Int) (a2:Int) (a3:Int) (a4:Int) (a5:Int):Option Int:=JR Uy QU (a0,a1,a2,a3,a4,a5)
theorem m100s_ok (rc:Tm×Int×Int×Int×Int×Int→Option Int) (H:∀ (a0:Tm) (a1:Int) (a2:Int) (a3:Int) (a4:Int) (a5:Int) (r:Int),rc (a0,a1,a2,a3,a4,a5)=some r→Fun Try.prog 100 [.agg (cE a0),.one (dI a1),.one (dI a2),.one (dI a3),.one (dI a4),.one (dI a5)] (QM [.one (dI r)])) (a0:Tm) (a1:Int) (a2:Int) (a3:Int) (a4:Int) (a5:Int) (r:Int) (h0:UK rc a0 a1 a2 a3 a4 a5=some r):Fun Try.prog 100 [.agg (cE a0),.one (dI a1),.one (dI a2),.one (dI a3),.one (dI a4),.one (dI a5)] (QM [.one (dI r)]):=by
 unfold UK at h0
 refine QB 9 107 Try.func100 Z en_100 Z (lb Z) (fun S w=>?_)
 simp only [J3]
 refine Q4<|Q0<|Qb Z Z (lb Z) (QN Z)<|rA Z Z Z<|Q5<|Q3<|Q4<|Q4<|Q0<|rR Z Z Z (QH (a0:Tm) QR Z Z) ?_
 refine Qd h0 (fun x1 hx1 h0=>?_)
 refine Qb Z Z (lb Z) (Qh (m105_ok a0 x1 hx1) Z (.cons (.agg (.cons (.d _) (.cons (.d _) (.cons (.d _) (.cons (.d _) (.cons (.d _) .nil)))))) .nil))<|rR Z Z Z (Jc Z)<|Q5<|Q3 ?_
 refine Qe (b:=(!x1)) Z (fun c2=>?_) (fun c2=>?_)
 replace h0:=Qf c2 h0
 refine Q4<|Q0<|rA Z Z Z<|Q5<|Q3<|Qp ?_
 have e:=sI h0;subst e
 exact Qn (fun _ _ h=>h) Z (Qm Z .nil) (.cons (.one (.d _)) .nil)
 replace h0:=Qg c2 h0
 refine Qj<|Q3<|Q4<|Q4 ?_
 refine QD (fun (v3:Bool)=>⟨[(1,.v (.one (dI a1))),(2,.v (.one (dI a2))),(3,.v (.one (dI a3))),(4,.v (.one (dI a4))),(5,.v (.one (dI a5))),(6,.v (.one (.ptr 0 0))),(28,.v (.one (dB v3)))],[(0,.cells 33 (cE a0))],[],1,107,[]⟩) (fun (v3:Bool)=>(m100_k3 v3 a0 a3 a5 a2 a1 a4 rc)=some r) ?_ ?_
 refine Qd h0 (fun w1_ h1 h0=>?_)
 refine Q0<|rR Z Z Z (Q2 JF Z)<|rR Z Z Z (Q6 QG Z Z Z)<|rR Z Z Z (Q8 Z Z Z)<|rM Z Z Z ?_
 refine Qw (d:=23) (c:=(a0.kind==3)) Z (fun c4=>?_) (fun c4=>?_)
 replace h1:=Qf c4 h1
 refine rR Z Z Z (Q2 Zb Z)<|rR Z Z Z (Q6 JG Z Z Z) ?_
 refine Qd h1 (fun x5 hx5 h1=>?_)
 refine Qb Z Z (lb Z) (Qh (m71_ok a0.name x5 hx5) Z (.cons (.one (.d _)) .nil))<|rR Z Z Z (Jc Z)<|rR Z Z Z (Qc Z Z)<|Q5 ?_
 have e:=sI h1;subst e
 exact Q9 (!x5) (sL (Nat.zero_le _) Z Z Z Z Z) h0
 replace h1:=Qg c4 h1
 refine Q7 Z Z<|Q7 Z Z<|Q7 Z Z<|Q7 Z Z<|rR Z Z Z (Qa Z Z)<|Q5 ?_
 have e:=sI h1;subst e
 exact Q9 false (sL (Nat.zero_le _) Z Z Z Z Z) h0
 intro v3 h0
 unfold m100_k3 at h0
 refine Q3 ?_
 refine Qe (b:=v3) Z (fun c6=>?_) (fun c6=>?_)
 replace h0:=Qf c6 h0
 refine Q4<|Q0<|rA Z Z Z<|Q5<|Q3<|Qp ?_
 have e:=sI h0;subst e
 exact Qn (fun _ _ h=>h) Z (Qm Z .nil) (.cons (.one (.d _)) .nil)
 replace h0:=Qg c6 h0
 refine Qj<|Q3<|Q4<|Q4<|Q0<|rR Z Z Z (Q2 Yy Z)<|rR Z Z Z (Q6 K4 Z Z Z)<|rR Z Z Z (Qx (α:=Lvl) YV Z (.d _))<|rR Z Z Z (Q8 Z Z Z)<|Q5<|Q3 ?_
 refine Qe (b:=(decide (8 < (a0.levels.length:Int)))) Z (fun c7=>?_) (fun c7=>?_)
 replace h0:=Qf c7 h0
 refine Q4<|Q0<|rA Z Z Z<|Q5<|Q3<|Qp ?_
 have e:=sI h0;subst e
 exact Qn (fun _ _ h=>h) Z (Qm Z .nil) (.cons (.one (.d _)) .nil)
 replace h0:=Qg c7 h0
 refine Qj<|Q3<|Q4<|Q4<|Q0<|rA Z Z Z<|Q5<|Q3<|Ql ?_
 refine QQ 0 (fun (o8:Unit)=>⟨[(1,.v (.one (dI a1))),(2,.v (.one (dI a2))),(3,.v (.one (dI a3))),(4,.v (.one (dI a4))),(5,.v (.one (dI a5))),(6,.v (.one (.ptr 0 0)))],[(0,.cells 33 (cE a0))],[],1,107,[]⟩) (fun (o8:Unit)=>(Option.bind (cond (a0.kind==0)
     (cond (decide (a0.index < 0))
     (some true)
     (some (decide (a2≤(Ja (a0.index - a1))))))
     (some false)) (fun (v9:Bool)=>Kh v9 a0 a4 rc a1 a2 a3 a5))=some r) ?_ ?_
 refine Qd h0 (fun o9 hl1 h0=>?_)
 refine QP (KJ a0 a3 a5) (fun s1=>⟨[(1,.v (.one (dI a1))),(2,.v (.one (dI a2))),(3,.v (.one (dI a3))),(4,.v (.one (dI a4))),(5,.v (.one (dI a5))),(6,.v (.one (.ptr 0 0))),(13,.v (.one (dI s1)))],[(0,.cells 33 (cE a0))],[],1,107,[]⟩) 0 o9 (sL (Nat.zero_le _) Z Z Z Z Z) hl1 (fun s1 n1 oo1 h1 ho1=>?_)
 unfold KJ at h1
 refine Q4<|Q4<|Q0<|rM Z Z Z<|rR Z Z Z (Q2 Yy Z)<|rR Z Z Z (Q6 K4 Z Z Z)<|rR Z Z Z (Qx (α:=Lvl) YV Z (.d _))<|rR Z Z Z (Q8 Z Z Z)<|Q5<|Q3 ?_
 refine Qe (b:=(decide (s1 < (a0.levels.length:Int)))) Z (fun c10=>?_) (fun c10=>?_)
 replace h1:=Qf c10 h1
 refine Qj<|Q3<|Q4<|Ql<|Q4<|Q0<|rR Z Z Z (Q2 Yy Z)<|rR Z Z Z (Q6 K4 Z Z Z)<|rM Z Z Z ?_
 refine Qd h1 (fun x11 hx11 h1=>?_)
 refine rR Z Z Z (Qt (α:=Lvl) YV Z (.d _) Z hx11)<|rR Z Z Z (Qu (x11:Lvl) K8 Z)<|rM Z Z Z<|rM Z Z Z ?_
 refine Qd h1 (fun x12 hx12 h1=>?_)
 refine Qb Z Z (lb Z) (Qh (m106_ok x11 a3 a5 x12 hx12) Z (.cons (.agg (.cons (.d _) (.cons (.d _) .nil))) (.cons (.one (.d _)) (.cons (.one (.d _)) .nil))))<|rA Z Z Z<|Q5<|Q3<|Q4<|Q0<|rM Z Z Z<|rR Z Z Z (Q8 Z Z Z)<|Q5<|Q3 ?_
 refine Qe (b:=(x12 != 0)) Z (fun c13=>?_) (fun c13=>?_)
 replace h1:=Qf c13 h1
 refine Q4<|Q0<|rM Z Z Z<|rA Z Z Z<|Q5<|Q3<|Qp ?_
 have e:=sI h1;subst e
 have e_:_=_:=ho1
 subst e_
 try dsimp only [Sum.elim_inl,Sum.elim_inr] at h0
 have e:=sI h0;subst e
 exact Qn (fun _ _ h=>h) Z (Qm Z .nil) (.cons (.one (.d _)) .nil)
 replace h1:=Qg c13 h1
 refine Qj<|Qk<|Q3<|Q0<|rM Z Z Z<|rR Z Z Z (Q8 Z Z Z)<|rA Z Z Z<|Q5 ?_
 have e:=sI h1;subst e
 refine QJ (Ja (s1+1)) (sL (Nat.zero_le _) Z Z Z Z Z) ho1
 replace h1:=Qg c10 h1
 refine QW<|Qr<|Qr ?_
 have e:=sI h1;subst e
 have e_:_=_:=ho1
 subst e_
 exact QO () (sL (Nat.zero_le _) Z Z Z Z Z) h0
 intro o8 h0
 refine QF<|Q3<|Q4<|Q4 ?_
 refine QD (fun (v14:Bool)=>⟨[(1,.v (.one (dI a1))),(2,.v (.one (dI a2))),(3,.v (.one (dI a3))),(4,.v (.one (dI a4))),(5,.v (.one (dI a5))),(6,.v (.one (.ptr 0 0))),(66,.v (.one (dB v14)))],[(0,.cells 33 (cE a0))],[],1,107,[]⟩) (fun (v14:Bool)=>(Kh v14 a0 a4 rc a1 a2 a3 a5)=some r) ?_ ?_
 refine Qd h0 (fun w1_ h1 h0=>?_)
 refine Q0<|rR Z Z Z (Q2 JF Z)<|rR Z Z Z (Q6 QG Z Z Z)<|rR Z Z Z (Q8 Z Z Z)<|rM Z Z Z ?_
 refine Qw (d:=54) (c:=(a0.kind==0)) Z (fun c15=>?_) (fun c15=>?_)
 replace h1:=Qf c15 h1
 refine rR Z Z Z (Q2 YK Z)<|rR Z Z Z (Q6 QG Z Z Z)<|rR Z Z Z (Q8 Z Z Z)<|rM Z Z Z ?_
 refine Qw (d:=58) (c:=(decide (a0.index < 0))) Z (fun c16=>?_) (fun c16=>?_)
 replace h1:=Qf c16 h1
 refine Q7 Z Z<|Q7 Z Z<|Q7 Z Z<|Q7 Z Z<|Q7 Z Z<|Q7 Z Z<|rR Z Z Z (Qc Z Z)<|rR Z Z Z (Qc Z Z)<|Q5 ?_
 have e:=sI h1;subst e
 exact Q9 true (sL (Nat.zero_le _) Z Z Z Z Z) h0
 replace h1:=Qg c16 h1
 refine rR Z Z Z (Q2 YK Z)<|rR Z Z Z (Q6 QG Z Z Z)<|rM Z Z Z<|rR Z Z Z (Q8 Z Z Z)<|rM Z Z Z<|rR Z Z Z (Q8 Z Z Z)<|rR Z Z Z (Qa Z Z)<|rR Z Z Z (Qc Z Z)<|Q5 ?_
 have e:=sI h1;subst e
 exact Q9 (decide (a2≤(Ja (a0.index - a1)))) (sL (Nat.zero_le _) Z Z Z Z Z) h0
 replace h1:=Qg c15 h1
 refine Q7 Z Z<|Q7 Z Z<|Q7 Z Z<|Q7 Z Z<|Q7 Z Z<|Q7 Z Z<|Q7 Z Z<|Q7 Z Z<|Q7 Z Z<|Q7 Z Z<|Q7 Z Z<|rR Z Z Z (Qa Z Z)<|Q5 ?_
 have e:=sI h1;subst e
 exact Q9 false (sL (Nat.zero_le _) Z Z Z Z Z) h0
 intro v14 h0
 unfold Kh at h0
 refine Q3 ?_
 refine Qe (b:=v14) Z (fun c17=>?_) (fun c17=>?_)
 replace h0:=Qf c17 h0
 refine Q4<|Q0<|rA Z Z Z<|Q5<|Q3<|Qp ?_
 have e:=sI h0;subst e
 exact Qn (fun _ _ h=>h) Z (Qm Z .nil) (.cons (.one (.d _)) .nil)
 replace h0:=Qg c17 h0
 refine Qj<|Q3<|Q4<|Q4 ?_
 refine QD (fun (v18:Bool)=>⟨[(1,.v (.one (dI a1))),(2,.v (.one (dI a2))),(3,.v (.one (dI a3))),(4,.v (.one (dI a4))),(5,.v (.one (dI a5))),(6,.v (.one (.ptr 0 0))),(80,.v (.one (dB v18)))],[(0,.cells 33 (cE a0))],[],1,107,[]⟩) (fun (v18:Bool)=>(cond v18
     (some 23)
     (Option.bind (QE (KI a0 rc a1 a2 a3 a4 a5) QU 0) (Sum.elim (fun (o20:Unit)=>some 0) (fun o=>some o))))=some r) ?_ ?_
 refine Qd h0 (fun w1_ h1 h0=>?_)
 refine Q0<|rR Z Z Z (Q2 JF Z)<|rR Z Z Z (Q6 QG Z Z Z)<|rR Z Z Z (Q8 Z Z Z)<|rM Z Z Z ?_
 refine Qw (d:=70) (c:=(a0.kind==12)) Z (fun c19=>?_) (fun c19=>?_)
 replace h1:=Qf c19 h1
 refine rR Z Z Z (Q2 YK Z)<|rR Z Z Z (Q6 QG Z Z Z)<|rR Z Z Z (Q8 Z Z Z)<|rM Z Z Z ?_
 refine Qw (d:=74) (c:=(decide (a0.index < 0))) Z (fun c20=>?_) (fun c20=>?_)
 replace h1:=Qf c20 h1
 refine Q7 Z Z<|Q7 Z Z<|Q7 Z Z<|Q7 Z Z<|rR Z Z Z (Qc Z Z)<|rR Z Z Z (Qc Z Z)<|Q5 ?_
 have e:=sI h1;subst e
 exact Q9 true (sL (Nat.zero_le _) Z Z Z Z Z) h0
 replace h1:=Qg c20 h1
 refine rR Z Z Z (Q2 YK Z)<|rR Z Z Z (Q6 QG Z Z Z)<|rM Z Z Z<|rR Z Z Z (Q8 Z Z Z)<|rR Z Z Z (Qa Z Z)<|rR Z Z Z (Qc Z Z)<|Q5 ?_
 have e:=sI h1;subst e
 exact Q9 (decide (a4≤a0.index)) (sL (Nat.zero_le _) Z Z Z Z Z) h0
 replace h1:=Qg c19 h1
 refine Q7 Z Z<|Q7 Z Z<|Q7 Z Z<|Q7 Z Z<|Q7 Z Z<|Q7 Z Z<|Q7 Z Z<|Q7 Z Z<|Q7 Z Z<|rR Z Z Z (Qa Z Z)<|Q5 ?_
 have e:=sI h1;subst e
 exact Q9 false (sL (Nat.zero_le _) Z Z Z Z Z) h0
 intro v18 h0
 refine Q3 ?_
 refine Qe (b:=v18) Z (fun c21=>?_) (fun c21=>?_)
 replace h0:=Qf c21 h0
 refine Q4<|Q0<|rA Z Z Z<|Q5<|Q3<|Qp ?_
 have e:=sI h0;subst e
 exact Qn (fun _ _ h=>h) Z (Qm Z .nil) (.cons (.one (.d _)) .nil)
 replace h0:=Qg c21 h0
 refine Qj<|Q3<|Q4<|Q4<|Q0<|rA Z Z Z<|Q5<|Q3<|Ql ?_
 refine QQ 2 (fun (o22:Unit)=>⟨[],[(0,.cells 33 (cE a0))],[],1,107,[]⟩) (fun (o22:Unit)=>(some 0)=some r) ?_ ?_
 refine Qd h0 (fun o23 hl1 h0=>?_)
 refine QP (KI a0 rc a1 a2 a3 a4 a5) (fun s1=>⟨[(1,.v (.one (dI a1))),(2,.v (.one (dI a2))),(3,.v (.one (dI a3))),(4,.v (.one (dI a4))),(5,.v (.one (dI a5))),(6,.v (.one (.ptr 0 0))),(15,.v (.one (dI s1)))],[(0,.cells 33 (cE a0))],[],1,107,[]⟩) 0 o23 (sL (Nat.zero_le _) Z Z Z Z Z) hl1 (fun s1 n1 oo1 h1 ho1=>?_)
 unfold KI at h1
 refine Q4<|Q4<|Q0<|rM Z Z Z<|rR Z Z Z (Q2 Jv Z)<|rR Z Z Z (Q6 JH Z Z Z)<|rR Z Z Z (Qx (α:=Tm) Jk Z (.d _))<|rR Z Z Z (Q8 Z Z Z)<|Q5<|Q3 ?_
 refine Qe (b:=(decide (s1 < (a0.kids.length:Int)))) Z (fun c24=>?_) (fun c24=>?_)
 replace h1:=Qf c24 h1
 refine Qj<|Q3<|Q4<|Ql<|Q4 ?_
 refine J4 [] [] JV (by kernel_rfl) (by kernel_rfl) (by kernel_rfl) ?_
 refine RunA.rd Z Z Z (Q1 (Q2 Jv Z)) Z<|RunA.rd Z Z Z (Q1 (Q6 JH Z Z Z)) Z<|RunA.rd Z Z Z (Q1 (Qq Z)) Z ?_
 refine Qd h1 (fun x25 hx25 h1=>?_)
 refine RunA.rd Z Z Z (Q1 (Qt (α:=Tm) Jk Z (.d _) Z hx25)) Z<|RunA.rd Z Z Z (Q1 (Qu (x25:Tm) QR Z)) Z<|RunA.rd Z Z Z (Q1 (Qq Z)) Z<|RunA.rd Z Z Z (Q1 (Q2 JF Z)) Z<|RunA.rd Z Z Z (Q1 (Q6 QG Z Z Z)) Z<|RunA.rd Z Z Z (Q1 (Qq Z)) Z ?_
 refine Qd h1 (fun x26 hx26 h1=>?_)
 refine RunA.rd Z Z Z (Qh (m107_ok a0.kind s1 x26 hx26) Z (.cons (.one (.d _)) (.cons (.one (.d _)) .nil))) Z<|RunA.rd Z Z Z (Q1 (Q8 Z Z Z)) Z<|RunA.rd Z Z Z (Q1 (Qq Z)) Z<|RunA.rd Z Z Z (Q1 (Qq Z)) Z<|RunA.rd Z Z Z (Q1 (Qq Z)) Z<|RunA.rd Z Z Z (Q1 (Qq Z)) Z ?_
 refine Qd h1 (fun x27 hx27 h1=>?_)
 refine RunA.rd Z Z Z (Qh (H x25 (Ja (a1+x26)) a2 a3 a4 a5 x27 hx27) Z (.cons (.agg (.cons (.d _) (.cons (.d _) (.cons (.d _) (.cons (.d _) (.cons (.d _) .nil)))))) (.cons (.one (.d _)) (.cons (.one (.d _)) (.cons (.one (.d _)) (.cons (.one (.d _)) (.cons (.one (.d _)) .nil))))))) Z<|RunA.rd Z Z Z (Q1 (Jd Z)) Z ?_
 refine RunA.nil ⟨?ex,_,_,Z,?_⟩
 case ex=>exact trivial
 refine Jp (st':=⟨[(1,.v (.one (dI a1))),(2,.v (.one (dI a2))),(3,.v (.one (dI a3))),(4,.v (.one (dI a4))),(5,.v (.one (dI a5))),(6,.v (.one (.ptr 0 0))),(15,.v (.one (dI s1))),(16,.v (.one (dI x27)))],[(0,.cells 33 (cE a0))],[],1,107,[]⟩) (sL (Nat.zero_le _) Z Z Z Z Z)<|Q3<|Q4<|Q0<|rM Z Z Z<|rR Z Z Z (Q8 Z Z Z)<|Q5<|Q3 ?_
 refine Qe (b:=(x27 != 0)) Z (fun c28=>?_) (fun c28=>?_)
 replace h1:=Qf c28 h1
 refine Q4<|Q0<|rM Z Z Z<|rA Z Z Z<|Q5<|Q3<|Qp ?_
 have e:=sI h1;subst e
 have e_:_=_:=ho1
 subst e_
 try dsimp only [Sum.elim_inl,Sum.elim_inr] at h0
 have e:=sI h0;subst e
 exact Qn (fun _ _ h=>h) Z (Qm Z .nil) (.cons (.one (.d _)) .nil)
 replace h1:=Qg c28 h1
 refine Qj<|Qk<|Q3<|Q0<|rM Z Z Z<|rR Z Z Z (Q8 Z Z Z)<|rA Z Z Z<|Q5 ?_
 have e:=sI h1;subst e
 refine QJ (Ja (s1+1)) (sL (Nat.zero_le _) Z Z Z Z Z) ho1
 replace h1:=Qg c24 h1
 refine QW<|Qr<|Qr ?_
 have e:=sI h1;subst e
 have e_:_=_:=ho1
 subst e_
 exact QO () (sL (Nat.zero_le _) Z Z Z Z Z) h0
 intro o22 h0
 refine QF<|Q3<|Q4<|Q0<|rA Z Z Z<|Q5<|Q3<|Qp ?_
 have e:=sI h0;subst e
 exact Qn (fun _ _ h=>h) Z (Qm Z .nil) (.cons (.one (.d _)) .nil)
theorem m100_all (n:Nat) (u:Tm×Int×Int×Int×Int×Int) (r:Int) (h0:JR Uy n u=some r):Fun Try.prog 100 [.agg (cE u.1),.one (dI u.2.1),.one (dI u.2.2.1),.one (dI u.2.2.2.1),.one (dI u.2.2.2.2.1),.one (dI u.2.2.2.2.2)] (QM [.one (dI r)]) :=
 YN (C:=fun u r=>Fun Try.prog 100 [.agg (cE u.1),.one (dI u.2.1),.one (dI u.2.2.1),.one (dI u.2.2.2.1),.one (dI u.2.2.2.2.1),.one (dI u.2.2.2.2.2)] (QM [.one (dI r)])) (fun rc H u r h=>m100s_ok rc (fun a0 a1 a2 a3 a4 a5 r h=>H (a0,a1,a2,a3,a4,a5) r h) u.1 u.2.1 u.2.2.1 u.2.2.2.1 u.2.2.2.2.1 u.2.2.2.2.2 r h) n u r h0
theorem m100_ok (a0:Tm) (a1:Int) (a2:Int) (a3:Int) (a4:Int) (a5:Int) (r:Int) (h0:m100 a0 a1 a2 a3 a4 a5=some r):Fun Try.prog 100 [.agg (cE a0),.one (dI a1),.one (dI a2),.one (dI a3),.one (dI a4),.one (dI a5)] (QM [.one (dI r)]):=m100_all QU (a0,a1,a2,a3,a4,a5) r h0
def m86 (a0:Tm) (a1:Int) (a2:Int) (a3:Int) (a4:Int):Option Int :=
 Option.bind (m100 a0 0 (max a1 0) a2 a3 a4) fun (x1:Int) =>
 cond (x1 != 0)
   (some x1)
   (Option.bind (m55 a0) fun (x3:Int) =>
 cond (decide (4096 < x3))
   (some 5)
   (Option.bind (m56 a0) fun (x5:Int) =>
 cond (decide (200 < x5))
   (some 7)
   (some 0)))
theorem m86_ok (a0:Tm) (a1:Int) (a2:Int) (a3:Int) (a4:Int) (r:Int) (h0:m86 a0 a1 a2 a3 a4=some r):Fun Try.prog 86 [.agg (cE a0),.one (dI a1),.one (dI a2),.one (dI a3),.one (dI a4)] (QM [.one (dI r)]):=by
 unfold m86 at h0
 refine QB 9 28 Try.func86 Z en_86 Z (lb Z) (fun S w=>?_)
 simp only [J3]
 refine Q4<|Q0<|Qb Z Z (lb Z) (QN Z)<|rA Z Z Z<|Q5<|Q3<|Q4<|Q4<|Q0<|rR Z Z Z (QH (a0:Tm) QR Z Z)<|rM Z Z Z<|rR Z Z Z (KO Z Z)<|rM Z Z Z<|rM Z Z Z ?_
 refine rM Z Z Z ?_
 refine Qd h0 (fun x1 hx1 h0=>?_)
 refine Qb Z Z (lb Z) (Qh (m100_ok a0 0 (max a1 0) a2 a3 a4 x1 hx1) Z (.cons (.agg (.cons (.d _) (.cons (.d _) (.cons (.d _) (.cons (.d _) (.cons (.d _) .nil)))))) (.cons (.one (.d _)) (.cons (.one (.d _)) (.cons (.one (.d _)) (.cons (.one (.d _)) (.cons (.one (.d _)) .nil)))))))<|rA Z Z Z<|Q5<|Q3<|Q4<|Q0<|rM Z Z Z<|rR Z Z Z (Q8 Z Z Z)<|Q5<|Q3 ?_
 refine Qe (b:=(x1 != 0)) Z (fun c2=>?_) (fun c2=>?_)
 replace h0:=Qf c2 h0
 refine Q4<|Q0<|rM Z Z Z<|rA Z Z Z<|Q5<|Q3<|Qp ?_
 have e:=sI h0;subst e
 exact Qn (fun _ _ h=>h) Z (Qm Z .nil) (.cons (.one (.d _)) .nil)
 replace h0:=Qg c2 h0
 refine Qj<|Q3<|Q4<|Q4<|Q0<|rR Z Z Z (QH (a0:Tm) QR Z Z) ?_
 refine Qd h0 (fun x3 hx3 h0=>?_)
 refine Qb Z Z (lb Z) (Qh (m55_ok a0 x3 hx3) Z (.cons (.agg (.cons (.d _) (.cons (.d _) (.cons (.d _) (.cons (.d _) (.cons (.d _) .nil)))))) .nil))<|rR Z Z Z (Q8 Z Z Z)<|Q5<|Q3 ?_
 refine Qe (b:=(decide (4096 < x3))) Z (fun c4=>?_) (fun c4=>?_)
 replace h0:=Qf c4 h0
 refine Q4<|Q0<|rA Z Z Z<|Q5<|Q3<|Qp ?_
 have e:=sI h0;subst e
 exact Qn (fun _ _ h=>h) Z (Qm Z .nil) (.cons (.one (.d _)) .nil)
 replace h0:=Qg c4 h0
 refine Qj<|Q3<|Q4<|Q4<|Q0<|rR Z Z Z (QH (a0:Tm) QR Z Z) ?_
 refine Qd h0 (fun x5 hx5 h0=>?_)
 refine Qb Z Z (lb Z) (Qh (m56_ok a0 x5 hx5) Z (.cons (.agg (.cons (.d _) (.cons (.d _) (.cons (.d _) (.cons (.d _) (.cons (.d _) .nil)))))) .nil))<|rR Z Z Z (Q8 Z Z Z)<|Q5<|Q3 ?_
 refine Qe (b:=(decide (200 < x5))) Z (fun c6=>?_) (fun c6=>?_)
 replace h0:=Qf c6 h0
 refine Q4<|Q0<|rA Z Z Z<|Q5<|Q3<|Qp ?_
 have e:=sI h0;subst e
 exact Qn (fun _ _ h=>h) Z (Qm Z .nil) (.cons (.one (.d _)) .nil)
 replace h0:=Qg c6 h0
 refine Qj<|Q3<|Q4<|Q0<|rA Z Z Z<|Q5<|Q3<|Qp ?_
 have e:=sI h0;subst e
 exact Qn (fun _ _ h=>h) Z (Qm Z .nil) (.cons (.one (.d _)) .nil)
end Go.Proofs.Ytafddfoefeploaa
namespace Go.Proofs.Ytafddfoefeploaa
open Go.RowKit Go.Shelf
def DD {α σ β:Type} (f:σ→α→σ⊕β) (e:σ→β):List α→σ→β
 | [],s=>e s
 | x::l,s=>Sum.elim (fun s'=>DD f e l s') (fun r=>r) (f s x)
theorem loop_sm {α σ τ β:Type} {step:τ→Option (LO τ β)} (l:List α) (mk:Int→σ→τ) (f:σ→α→σ⊕β) (e:σ→β) (I:List α→σ→Prop) (hlen:l.length≤900000000)
  (hin:∀ (a:List α) (x:α) (b:List α) (s:σ),l=a++x::b→I a s→step (mk (a.length:Int) s)=some (Sum.elim (fun s'=>.next (mk (Ja ((a.length:Int)+1)) s')) .done (f s x))∧∀ s',f s x=.inl s'→I (a++[x]) s')
  (hout:∀ s,I l s→step (mk (l.length:Int) s)=some (.done (e s))) (s0:σ) (h0:I [] s0):QE step QU (mk 0 s0)=some (DD f e l s0):=by
 obtain ⟨r,h1,h2⟩:=YG (step:=step) l mk (fun a s=>I a s∧∀ b,l=a++b→DD f e l s0=DD f e b s) (fun r=>r=DD f e l s0) hlen
  (fun a x b s hl hI=>by
   obtain ⟨h3,h4⟩:=hin a x b s hl hI.1
   have h5:=hI.2 (x::b) hl
   cases hf:f s x with
   | inl s' =>
    refine .inr ⟨s',by rw [h3,hf];rfl,h4 s' hf,fun b' hb=>?_⟩
    have:b'=b:=by
     rw [hl,List.append_assoc] at hb
     exact (List.cons.inj (List.append_cancel_left hb)).2.symm
    rw [this,h5,DD,hf];rfl
   | inr r=>exact .inl ⟨r,by rw [h3,hf];rfl,by rw [h5,DD,hf];rfl⟩)
  (fun s hI=>⟨e s,hout s hI.1,by rw [hI.2 [] (by simp)];rfl⟩) s0 ⟨h0,fun b hb=>by rw [List.nil_append] at hb;rw [hb]⟩
 rw [h1,h2]
theorem loop_bad {α β:Type} {step:Int→Option (LO Int β)} (l:List α) (bad:List α→α→Prop) (r0 r1:β) (hlen:l.length≤900000000)
  (hin:∀ (a:List α) (x:α) (b:List α),l=a++x::b→(bad a x→step (a.length:Int)=some (.done r0))∧(¬ bad a x→step (a.length:Int)=some (.next (Ja ((a.length:Int)+1)))))
  (hout:step (l.length:Int)=some (.done r1)):∃ r,QE step QU 0=some r∧((r=r1∧∀ a x b,l=a++x::b→¬ bad a x)∨(r=r0∧∃ a x b,l=a++x::b∧bad a x)):=by
 refine YG (step:=step) l (fun i (_:Unit)=>i) (fun a _=>∀ a' x b',a=a'++x::b'→¬ bad a' x) (fun r=>(r=r1∧∀ a x b,l=a++x::b→¬ bad a x)∨(r=r0∧∃ a x b,l=a++x::b∧bad a x)) hlen
  (fun a x b s hl hI=>?_) (fun s hI=>⟨r1,hout,.inl ⟨rfl,hI⟩⟩) () (fun a' x b' h=>by cases a' <;> cases h)
 by_cases hb:bad a x
 ·exact .inl ⟨r0,(hin a x b hl).1 hb,.inr ⟨rfl,a,x,b,hl,hb⟩⟩
 ·refine .inr ⟨(),(hin a x b hl).2 hb,fun a' y b' h=>?_⟩
  rcases List.append_eq_append_iff.1 h with ⟨c,h1,h2⟩ | ⟨c,h1,h2⟩
  ·cases c with
   | nil =>
    rw [List.nil_append] at h2
    cases h2
    rw [List.append_nil] at h1
    rw [h1];exact hb
   | cons z c =>
    exfalso
    have:=congrArg List.length h2
    simp at this
  ·cases c with
   | nil =>
    rw [List.nil_append] at h2
    cases h2
    rw [List.append_nil] at h1
    rw [← h1];exact hb
   | cons z c =>
    rw [List.cons_append] at h2
    cases h2
    exact hI a' y c h1
def Wv (c:Int):Bool:=(decide (97≤c)&&decide (c≤122))||(decide (65≤c)&&decide (c≤90))||(c==95)
theorem m79_eq (c:Int):m79 ⟨c⟩=some (Wv c):=by
 unfold m79 Wv
 cases decide (97≤c) <;> cases decide (c≤122) <;> cases decide (65≤c) <;> cases decide (c≤90) <;> rfl
theorem m85_eq (c:Int):m85 ⟨c⟩=some (Wv c):=m79_eq c
def DH (st:Bool) (b:UInt8):Bool⊕(Bool⊕Bool) :=
 if Wv (b.toNat:Int)=true then .inl false else if st=true then .inr (.inr false) else if (b.toNat:Int)=46 then .inl true else
  if (b.toNat:Int) < 48∨57 < (b.toNat:Int) then (if (b.toNat:Int)=39 then .inl st else .inr (.inr false)) else .inl st
def DZ (s:Bs):Bool⊕Bool:=DD DH .inl s true
theorem m65_l0_eq (s:Bs) (h:s.length≤900000000):QE (Wf s) QU (true,0)=some (DZ s):=by
 refine loop_sm (step:=Wf s) s (fun i (st:Bool)=>(st,i)) DH .inl (fun _ _=>True) h (fun a x b st e _=>⟨?_,fun _ _=>trivial⟩) (fun st _=>by unfold Wf;dsimp only;rw [Ji];rfl) true trivial
 unfold Wf DH
 dsimp only
 rw [e,Y4,JK]
 simp only [cond_true,Option.bind_some]
 rw [m79_eq,Option.bind_some]
 cases Wv (x.toNat:Int) with
 | true=>rfl
 | false =>
  cases st with
  | true=>rfl
  | false =>
   simp only [cond_false,YC,Bool.false_eq_true,if_false]
   by_cases h1:(x.toNat:Int)=46
   ·rw [decide_eq_true h1,if_pos h1];rfl
   ·rw [decide_eq_false h1,if_neg h1,cond_false]
    by_cases h2:(x.toNat:Int) < 48
    ·rw [decide_eq_true h2,if_pos (Or.inl h2)]
     by_cases h4:(x.toNat:Int)=39
     ·rw [if_pos h4,h4];rfl
     ·rw [if_neg h4]
      have:((x.toNat:Int) != 39)=true:=bne_iff_ne.2 h4
      simp only [cond_true,Option.bind_some,this];rfl
    ·rw [decide_eq_false h2]
     by_cases h3:57 < (x.toNat:Int)
     ·rw [decide_eq_true h3,if_pos (Or.inr h3)]
      by_cases h4:(x.toNat:Int)=39
      ·omega
      ·rw [if_neg h4]
       have:((x.toNat:Int) != 39)=true:=bne_iff_ne.2 h4
       simp only [cond_true,cond_false,Option.bind_some,this];rfl
     ·rw [decide_eq_false h3,if_neg (by omega)];rfl
theorem m71_l0_eq (s:Bs) (h:s.length≤900000000):QE (Xq s) QU (true,0)=some (DZ s):=by
 refine loop_sm (step:=Xq s) s (fun i (st:Bool)=>(st,i)) DH .inl (fun _ _=>True) h (fun a x b st e _=>⟨?_,fun _ _=>trivial⟩) (fun st _=>by unfold Xq;dsimp only;rw [Ji];rfl) true trivial
 unfold Xq DH
 dsimp only
 rw [e,Y4,JK]
 simp only [cond_true,Option.bind_some]
 rw [m85_eq,Option.bind_some]
 cases st with
 | true=>cases Wv (x.toNat:Int) <;> rfl
 | false =>
  simp only [cond_false,YC,Bool.false_eq_true,if_false]
  by_cases h1:(x.toNat:Int)=46
  ·rw [decide_eq_true h1,if_pos h1,if_neg (by rw [h1];decide)];rfl
  ·rw [decide_eq_false h1,if_neg h1,cond_false]
   cases Wv (x.toNat:Int) with
   | true=>rfl
   | false =>
    rw [Option.bind_some,if_neg (by decide)]
    simp only [Bool.not_false,cond_true]
    by_cases h4:(x.toNat:Int)=39
    ·have:((x.toNat:Int) != 39)=false:=by rw [h4];rfl
     simp only [cond_false,Option.bind_some,this,if_pos h4]
     split <;> rfl
    ·have:((x.toNat:Int) != 39)=true:=bne_iff_ne.2 h4
     simp only [cond_true,this,if_neg h4]
     by_cases h2:(x.toNat:Int) < 48
     ·rw [decide_eq_true h2,if_pos (Or.inl h2)];rfl
     ·rw [decide_eq_false h2]
      by_cases h3:57 < (x.toNat:Int)
      ·rw [decide_eq_true h3,if_pos (Or.inr h3)];rfl
      ·rw [decide_eq_false h3,if_neg (by omega)];rfl
theorem nm_false:∀ (s:Bs) (st b:Bool),DD DH .inl s st=.inr b→b=false
 | [],st,b,h=>by cases h
 | x::s,st,b,h=>by
  rw [DD] at h
  cases hf:DH st x with
  | inl st'=>rw [hf] at h;exact nm_false s st' b h
  | inr r =>
   rw [hf] at h
   unfold DH at hf
   have:r=.inr false:=by
    revert hf
    repeat' split
    all_goals intro hf;cases hf;try rfl
   rw [this] at h
   cases h;rfl
def Xm (s:Bs):Bool:=Sum.elim (fun st=>!st&&decide ((s.length:Int)≤64)) (fun b=>b) (DZ s)
theorem m65_eq (s:Bs) (h:s.length≤900000000):DR s=some (Xm s):=by
 unfold DR Xm
 rw [m65_l0_eq s h,Option.bind_some]
 cases DZ s with
 | inl st=>cases st <;> rfl
 | inr b=>rfl
theorem m71_eq (s:Bs) (h:s.length≤900000000):DQ s=some (Xm s):=by
 unfold DQ Xm
 rw [UG,m71_l0_eq s h]
 by_cases h0:s=[]
 ·subst h0;rfl
 ·rw [decide_eq_false h0,cond_false]
  by_cases h1:64 < (s.length:Int)
  ·rw [decide_eq_true h1,decide_eq_false (by omega)]
   cases hn:DZ s with
   | inl st=>cases st <;> rfl
   | inr b=>have:=nm_false s true b hn;subst this;rfl
  ·rw [decide_eq_false h1,decide_eq_true (by omega)]
   cases hn:DZ s with
   | inl st=>cases st <;> rfl
   | inr b=>rfl
end Go.Proofs.Ytafddfoefeploaa
namespace Go.Proofs.Ytafddfoefeploaa
open Go.RowKit Go.Shelf
theorem idx_some {α:Type} {l:List α} {i:Int} (h0:0≤i) (h1:i < (l.length:Int)):∃ x,JP l i=some x:=by
 cases i with
 | ofNat k=>exact ⟨l[k]'(by have:(Int.ofNat k) < (l.length:Int):=h1;simp at this;omega),List.getElem?_eq_getElem _⟩
 | negSucc k=>omega
def UU (l:Lvl) (a:List LV) (x:LV):Prop:=x.1 < -65536∨7 < x.1∨x.2 < 0∨100 < x.2∨(0 < a.length∧∃ y,JP l.vs (Ja ((a.length:Int) - 1))=some y∧x.1≤y.1)
theorem prev_some {l:List LV} {a:List LV} {x:LV} {b:List LV} (h:l.length≤900000000) (e:l=a++x::b) (ha:0 < a.length):∃ y,JP l (Ja ((a.length:Int) - 1))=some y:=by
 have:=Xn e
 rw [WL (by omega) (by omega)]
 exact idx_some (by omega) (by omega)
theorem m113_eq (l:List LV) (u:Lvl) (h:l.length≤900000000):∃ b,Uw l u=some b∧(b=true↔∃ x∈l,u.c≤x.2):=by
 have h1:∃ r,QE (ZJ l u) QU 0=some r∧((r=.inl ())∧(∀ x∈l,¬ u.c≤x.2)∨∃ k:Nat,r=.inr (k:Int)∧∃ x∈l,u.c≤x.2):=by
  refine YG (step:=ZJ l u) l (fun i (_:Unit)=>i) (fun a _=>∀ x∈a,¬ u.c≤x.2) (fun r=>((r=.inl ())∧(∀ x∈l,¬ u.c≤x.2)∨∃ k:Nat,r=.inr (k:Int)∧∃ x∈l,u.c≤x.2)) h
   (fun a x b s e hI=>?_) (fun s hI=>⟨.inl (),by unfold ZJ;rw [Ji];rfl,.inl ⟨rfl,hI⟩⟩) () (fun x hx=>by cases hx)
  by_cases hx:u.c≤x.2
  ·refine .inl ⟨.inr (a.length:Int),?_,.inr ⟨a.length,rfl,x,by rw [e];simp,hx⟩⟩
   unfold ZJ
   rw [e,Y4,JK]
   show cond (decide (u.c≤x.2)) _ _=_
   rw [decide_eq_true hx];rfl
  ·refine .inr ⟨(),?_,fun y hy=>?_⟩
   ·unfold ZJ
    rw [e,Y4,JK]
    show cond (decide (u.c≤x.2)) _ _=_
    rw [decide_eq_false hx];rfl
   ·rcases List.mem_append.1 hy with hy | hy
    ·exact hI y hy
    ·rw [List.mem_singleton.1 hy];exact hx
 obtain ⟨r,h2,h3⟩:=h1
 unfold Uw m113f1
 rw [h2]
 rcases h3 with ⟨rfl,h4⟩ | ⟨k,rfl,h4⟩
 ·exact ⟨false,rfl,⟨fun h=>(by cases h),fun ⟨x,hx,h⟩=>(h4 x hx h).elim⟩⟩
 ·refine ⟨true,?_,⟨fun _=>h4,fun _=>rfl⟩⟩
  show some (decide ((0:Int)≤(k:Int)))=_
  rw [decide_eq_true (by omega)]
def lvP (l:Lvl):Prop:=0≤l.c∧l.c≤100∧(0 < l.c→∀ x∈l.vs,¬ l.c≤x.2)∧∀ a x b,l.vs=a++x::b→¬ UU l a x
theorem m103_eq (l:Lvl) (h:l.vs.length≤900000000):∃ b,Dh l=some b∧(b=true↔lvP l):=by
 have hloop:=loop_bad (β:=Unit⊕Bool) (step:=Gu l) l.vs (UU l) (.inr false) (.inl ()) h (fun a x b e=>by
  have hprev:=fun ha=>prev_some (x:=x) (b:=b) h e ha
  have:Gu l (a.length:Int)=Option.bind (cond (decide (x.1 < (-65536))) (some true) (cond (decide (7 < x.1)) (some true) (cond (decide (x.2 < 0)) (some true) (cond (decide (100 < x.2)) (some true)
    (cond (decide (0 < (a.length:Int))) (Option.bind (JP l.vs (Ja ((a.length:Int) - 1))) fun (x12:LV)=>some (decide (x.1≤x12.1))) (some false)))))) (fun (v6:Bool)=>cond v6 (some (.done (.inr false))) (some (.next (Ja ((a.length:Int)+1))))):=by
   unfold Gu
   have e2:l.vs=a++x::b:=e
   rw [show decide ((a.length:Int) < (l.vs.length:Int))=true from by rw [e2];exact Y4 a x b,show JP l.vs (a.length:Int)=some x from by rw [e2];exact JK a x b]
   rfl
  rw [this]
  unfold UU
  by_cases c1:x.1 < -65536
  ·rw [decide_eq_true c1];exact ⟨fun _=>rfl,fun h=>(h (.inl c1)).elim⟩
  rw [decide_eq_false c1,cond_false]
  by_cases c2:7 < x.1
  ·rw [decide_eq_true c2];exact ⟨fun _=>rfl,fun h=>(h (.inr (.inl c2))).elim⟩
  rw [decide_eq_false c2,cond_false]
  by_cases c3:x.2 < 0
  ·rw [decide_eq_true c3];exact ⟨fun _=>rfl,fun h=>(h (.inr (.inr (.inl c3)))).elim⟩
  rw [decide_eq_false c3,cond_false]
  by_cases c4:100 < x.2
  ·rw [decide_eq_true c4];exact ⟨fun _=>rfl,fun h=>(h (.inr (.inr (.inr (.inl c4))))).elim⟩
  rw [decide_eq_false c4,cond_false]
  by_cases c5:0 < a.length
  ·rw [decide_eq_true (show 0 < (a.length:Int) by omega),cond_true]
   obtain ⟨y,hy⟩:=hprev c5
   rw [hy,Option.bind_some]
   by_cases c6:x.1≤y.1
   ·rw [decide_eq_true c6];exact ⟨fun _=>rfl,fun h=>(h (.inr (.inr (.inr (.inr ⟨c5,y,rfl,c6⟩))))).elim⟩
   ·rw [decide_eq_false c6]
    refine ⟨fun h=>?_,fun _=>rfl⟩
    rcases h with h | h | h | h | ⟨-,z,hz,h⟩
    ·exact (c1 h).elim
    ·exact (c2 h).elim
    ·exact (c3 h).elim
    ·exact (c4 h).elim
    ·cases hz;exact (c6 h).elim
  ·rw [decide_eq_false (show ¬ 0 < (a.length:Int) by omega)]
   refine ⟨fun h=>?_,fun _=>rfl⟩
   rcases h with h | h | h | h | ⟨h,-⟩
   ·exact (c1 h).elim
   ·exact (c2 h).elim
   ·exact (c3 h).elim
   ·exact (c4 h).elim
   ·exact (c5 h).elim) (by unfold Gu;rw [Ji];rfl)
 obtain ⟨r,h1,h2⟩:=hloop
 obtain ⟨b,h3,h4⟩:=m113_eq l.vs l h
 unfold Dh
 rw [h3,h1]
 by_cases c1:l.c < 0
 ·rw [decide_eq_true c1];exact ⟨false,rfl,⟨fun h=>(Bool.false_ne_true h).elim,fun h=>by have:=h.1;omega⟩⟩
 rw [decide_eq_false c1,cond_false]
 by_cases c2:100 < l.c
 ·rw [decide_eq_true c2];exact ⟨false,rfl,⟨fun h=>(Bool.false_ne_true h).elim,fun h=>by have:=h.2.1;omega⟩⟩
 rw [decide_eq_false c2,cond_false]
 have key:(∃ x,(0 < l.c∧(∃ x∈l.vs,l.c≤x.2)→x=false)∧(¬ (0 < l.c∧∃ x∈l.vs,l.c≤x.2)→Option.bind (some r) (Sum.elim (fun (o3:Unit)=>some true) (fun o=>some o))=some x)∧cond (decide (0 < l.c)) (Option.bind (Option.bind (some b) fun (x7:Bool)=>some x7) (fun (y5:Bool)=>some y5)) (some false)=some (decide (0 < l.c∧∃ x∈l.vs,l.c≤x.2))∧(x=true→r=.inl ())∧(¬ (0 < l.c∧∃ x∈l.vs,l.c≤x.2)→r=.inl ()→x=true)):=by
  by_cases c3:0 < l.c
  ·rw [decide_eq_true c3]
   cases b with
   | true =>
    have h5:=h4.1 rfl
    exact ⟨false,fun _=>rfl,fun h=>(h ⟨c3,h5⟩).elim,by rw [decide_eq_true ⟨c3,h5⟩];rfl,fun h=>(by cases h),fun h=>(h ⟨c3,h5⟩).elim⟩
   | false =>
    have h5:¬ ∃ x∈l.vs,l.c≤x.2:=fun h=>by have:=h4.2 h;cases this
    rcases h2 with ⟨rfl,-⟩ | ⟨rfl,-⟩
    ·exact ⟨true,fun h=>(h5 h.2).elim,fun _=>rfl,by rw [decide_eq_false fun h=>h5 h.2];rfl,fun _=>rfl,fun _ _=>rfl⟩
    ·exact ⟨false,fun h=>(h5 h.2).elim,fun _=>rfl,by rw [decide_eq_false fun h=>h5 h.2];rfl,fun h=>(by cases h),fun _ h=>by cases h⟩
  ·rw [decide_eq_false c3]
   rcases h2 with ⟨rfl,-⟩ | ⟨rfl,-⟩
   ·exact ⟨true,fun h=>(c3 h.1).elim,fun _=>rfl,by rw [decide_eq_false fun h=>c3 h.1];rfl,fun _=>rfl,fun _ _=>rfl⟩
   ·exact ⟨false,fun h=>(c3 h.1).elim,fun _=>rfl,by rw [decide_eq_false fun h=>c3 h.1];rfl,fun h=>(by cases h),fun _ h=>by cases h⟩
 obtain ⟨x,k1,k2,k3,k4,k5⟩:=key
 rw [k3,Option.bind_some]
 by_cases c4:0 < l.c∧∃ x∈l.vs,l.c≤x.2
 ·rw [decide_eq_true c4]
  refine ⟨false,Z,fun h=>(Bool.false_ne_true h).elim,fun h=>?_⟩
  obtain ⟨y,hy,hy2⟩:=c4.2
  exact (h.2.2.1 c4.1 y hy hy2).elim
 ·rw [decide_eq_false c4]
  refine ⟨x,k2 c4,fun h=>?_,fun h=>?_⟩
  ·have h6:=k4 h
   rcases h2 with ⟨-,h7⟩ | ⟨h7,-⟩
   ·exact ⟨by omega,by omega,fun h8 y hy h9=>c4 ⟨h8,y,hy,h9⟩,h7⟩
   ·rw [h7] at h6;cases h6
  ·refine k5 c4 ?_
   rcases h2 with ⟨h7,-⟩ | ⟨-,a,y,c,h7,h8⟩
   ·exact h7
   ·exact (h.2.2.2 a y c h7 h8).elim
theorem m110_eq (l:Lvl) (h:l.vs.length≤900000000):∃ b,Dg l=some b∧(b=true↔lvP l):=by
 have hloop:=loop_bad (β:=Unit⊕Bool) (step:=Gs l) l.vs (fun a x=>UU l a x∨(0 < l.c∧l.c≤x.2)) (.inr false) (.inl ()) h (fun a x b e=>by
  have hprev:=fun ha=>prev_some (x:=x) (b:=b) h e ha
  have:Gs l (a.length:Int)=Option.bind (cond (decide (x.1 < (-65536))) (some true) (cond (decide (8≤x.1)) (some true) (cond (decide (x.2 < 0)) (some true) (some (decide (100 < x.2)))))) (fun (v6:Bool)=>m110_k0 v6 (a.length:Int) l x):=by
   unfold Gs
   have e2:l.vs=a++x::b:=e
   rw [show decide ((a.length:Int) < (l.vs.length:Int))=true from by rw [e2];exact Y4 a x b,show JP l.vs (a.length:Int)=some x from by rw [e2];exact JK a x b]
   rfl
  rw [this]
  unfold UU
  by_cases c1:x.1 < -65536
  ·rw [decide_eq_true c1];exact ⟨fun _=>rfl,fun h=>(h (.inl (.inl c1))).elim⟩
  rw [decide_eq_false c1,cond_false]
  by_cases c2:7 < x.1
  ·rw [decide_eq_true (show 8≤x.1 by omega)];exact ⟨fun _=>rfl,fun h=>(h (.inl (.inr (.inl c2)))).elim⟩
  rw [decide_eq_false (show ¬ 8≤x.1 by omega),cond_false]
  by_cases c3:x.2 < 0
  ·rw [decide_eq_true c3];exact ⟨fun _=>rfl,fun h=>(h (.inl (.inr (.inr (.inl c3))))).elim⟩
  rw [decide_eq_false c3,cond_false]
  by_cases c4:100 < x.2
  ·rw [decide_eq_true c4];exact ⟨fun _=>rfl,fun h=>(h (.inl (.inr (.inr (.inr (.inl c4)))))).elim⟩
  rw [decide_eq_false c4,Option.bind_some]
  show (_→Option.bind (cond (decide (0 < (a.length:Int))) (Option.bind (JP l.vs (Ja ((a.length:Int) - 1))) fun (b0_:LV)=>some (decide (x.1≤b0_.1))) (some false)) _=_)∧(_→Option.bind (cond (decide (0 < (a.length:Int))) (Option.bind (JP l.vs (Ja ((a.length:Int) - 1))) fun (b0_:LV)=>some (decide (x.1≤b0_.1))) (some false)) _=_)
  have hlast:∀ (hno:¬ (0 < a.length∧∃ y,JP l.vs (Ja ((a.length:Int) - 1))=some y∧x.1≤y.1)),((((x.1 < -65536∨7 < x.1∨x.2 < 0∨100 < x.2∨(0 < a.length∧∃ y,JP l.vs (Ja ((a.length:Int) - 1))=some y∧x.1≤y.1)))∨(0 < l.c∧l.c≤x.2))→Option.bind (cond (decide (0 < l.c)) (some (decide (l.c≤x.2))) (some false)) (fun (b2_:Bool)=>(cond b2_ (some (.done (.inr false))) (some (.next (Ja ((a.length:Int)+1)))):Option (LO Int (Unit⊕Bool))))=some (.done (.inr false:Unit⊕Bool)))∧(¬ (((x.1 < -65536∨7 < x.1∨x.2 < 0∨100 < x.2∨(0 < a.length∧∃ y,JP l.vs (Ja ((a.length:Int) - 1))=some y∧x.1≤y.1)))∨(0 < l.c∧l.c≤x.2))→Option.bind (cond (decide (0 < l.c)) (some (decide (l.c≤x.2))) (some false)) (fun (b2_:Bool)=>(cond b2_ (some (.done (.inr false))) (some (.next (Ja ((a.length:Int)+1)))):Option (LO Int (Unit⊕Bool))))=some (.next (β:=Unit⊕Bool) (Ja ((a.length:Int)+1)))):=by
   intro hno
   by_cases c7:0 < l.c
   ·rw [decide_eq_true c7]
    by_cases c8:l.c≤x.2
    ·rw [decide_eq_true c8];exact ⟨fun _=>rfl,fun h=>(h (.inr ⟨c7,c8⟩)).elim⟩
    ·rw [decide_eq_false c8]
     refine ⟨fun h=>?_,fun _=>rfl⟩
     rcases h with (h | h | h | h | h) | ⟨-,h⟩
     ·exact (c1 h).elim
     ·exact (c2 h).elim
     ·exact (c3 h).elim
     ·exact (c4 h).elim
     ·exact (hno h).elim
     ·exact (c8 h).elim
   ·rw [decide_eq_false c7]
    refine ⟨fun h=>?_,fun _=>rfl⟩
    rcases h with (h | h | h | h | h) | ⟨h,-⟩
    ·exact (c1 h).elim
    ·exact (c2 h).elim
    ·exact (c3 h).elim
    ·exact (c4 h).elim
    ·exact (hno h).elim
    ·exact (c7 h).elim
  by_cases c5:0 < a.length
  ·rw [decide_eq_true (show 0 < (a.length:Int) by omega),cond_true]
   obtain ⟨y,hy⟩:=hprev c5
   rw [hy,Option.bind_some]
   rw [hy] at hlast
   by_cases c6:x.1≤y.1
   ·rw [decide_eq_true c6];exact ⟨fun _=>rfl,fun h=>(h (.inl (.inr (.inr (.inr (.inr ⟨c5,y,rfl,c6⟩)))))).elim⟩
   ·rw [decide_eq_false c6]
    exact hlast fun ⟨_,z,hz,h⟩=>by cases hz;exact c6 h
  ·rw [decide_eq_false (show ¬ 0 < (a.length:Int) by omega)]
   exact hlast fun h=>c5 h.1) (by unfold Gs;rw [Ji];rfl)
 obtain ⟨r,h1,h2⟩:=hloop
 unfold Dg
 rw [h1]
 by_cases c1:l.c < 0
 ·rw [decide_eq_true c1];exact ⟨false,rfl,⟨fun h=>(Bool.false_ne_true h).elim,fun h=>by have:=h.1;omega⟩⟩
 rw [decide_eq_false c1,cond_false]
 by_cases c2:100 < l.c
 ·rw [decide_eq_true c2];exact ⟨false,rfl,⟨fun h=>(Bool.false_ne_true h).elim,fun h=>by have:=h.2.1;omega⟩⟩
 rw [decide_eq_false c2,Option.bind_some,cond_false]
 rcases h2 with ⟨rfl,h3⟩ | ⟨rfl,a,x,b,e,h3⟩
 ·refine ⟨true,rfl,fun _=>⟨by omega,by omega,fun h4 y hy h5=>?_,fun a x b e h4=>h3 a x b e (.inl h4)⟩,fun _=>rfl⟩
  obtain ⟨a,b,e⟩:=List.append_of_mem hy
  exact h3 a y b e (.inr ⟨h4,h5⟩)
 ·refine ⟨false,rfl,fun h=>(Bool.false_ne_true h).elim,fun h4=>?_⟩
  rcases h3 with h3 | ⟨h3,h5⟩
  ·exact (h4.2.2.2 a x b e h3).elim
  ·exact (h4.2.2.1 h3 x (by rw [e];simp) h5).elim
theorem lv_same (l:Lvl) (h:l.vs.length≤900000000):∃ b,Dh l=some b∧Dg l=some b∧(b=true→lvP l):=by
 obtain ⟨b,h1,h2⟩:=m103_eq l h
 obtain ⟨c,h3,h4⟩:=m110_eq l h
 have:b=c:=Bool.eq_iff_iff.2 (h2.trans h4.symm)
 exact ⟨b,h1,by rw [this];exact h3,h2.1⟩
end Go.Proofs.Ytafddfoefeploaa
namespace Go.Proofs.Ytafddfoefeploaa
open Go.RowKit Go.Shelf
theorem loop2 {α σ1 τ1 β1 σ2 τ2 β2:Type} {step1:τ1→Option (LO τ1 β1)} {step2:τ2→Option (LO τ2 β2)} (l:List α) (mk1:Int→σ1→τ1) (mk2:Int→σ2→τ2) (I:List α→σ1→σ2→Prop) (Q:β1→β2→Prop) (hlen:l.length≤900000000)
  (hin:∀ (a:List α) (x:α) (b:List α) (s1:σ1) (s2:σ2),l=a++x::b→I a s1 s2 →
   (∃ r1 r2,step1 (mk1 (a.length:Int) s1)=some (.done r1)∧step2 (mk2 (a.length:Int) s2)=some (.done r2)∧Q r1 r2) ∨
   ∃ s1' s2',step1 (mk1 (a.length:Int) s1)=some (.next (mk1 (Ja ((a.length:Int)+1)) s1'))∧step2 (mk2 (a.length:Int) s2)=some (.next (mk2 (Ja ((a.length:Int)+1)) s2'))∧I (a++[x]) s1' s2')
  (hout:∀ s1 s2,I l s1 s2→∃ r1 r2,step1 (mk1 (l.length:Int) s1)=some (.done r1)∧step2 (mk2 (l.length:Int) s2)=some (.done r2)∧Q r1 r2) (s1:σ1) (s2:σ2) (h0:I [] s1 s2) :
  ∃ r1 r2,QE step1 QU (mk1 0 s1)=some r1∧QE step2 QU (mk2 0 s2)=some r2∧Q r1 r2:=by
 have key:∀ (b a:List α) (s1:σ1) (s2:σ2) (n:Nat),l=a++b→b.length < n→I a s1 s2→∃ r1 r2,QE step1 n (mk1 (a.length:Int) s1)=some r1∧QE step2 n (mk2 (a.length:Int) s2)=some r2∧Q r1 r2:=by
  intro b
  induction b with
  | nil =>
   intro a s1 s2 n hl hn hI
   rw [List.append_nil] at hl
   subst hl
   obtain ⟨r1,r2,h1,h2,h3⟩:=hout s1 s2 hI
   cases n with
   | zero=>omega
   | succ n=>exact ⟨r1,r2,by simp only [QE,h1],by simp only [QE,h2],h3⟩
  | cons x b ih =>
   intro a s1 s2 n hl hn hI
   cases n with
   | zero=>omega
   | succ n =>
    rcases hin a x b s1 s2 hl hI with ⟨r1,r2,h1,h2,h3⟩ | ⟨s1',s2',h1,h2,h3⟩
    ·exact ⟨r1,r2,by simp only [QE,h1],by simp only [QE,h2],h3⟩
    ·have hal:a.length≤900000000:=by rw [hl,List.length_append] at hlen;omega
     rw [Uc (by omega)] at h1 h2
     obtain ⟨r1,r2,h4,h5,h6⟩:=ih (a++[x]) s1' s2' n (by rw [hl,List.append_assoc];rfl) (by simp only [List.length_cons] at hn;omega) h3
     rw [List.length_append] at h4 h5
     exact ⟨r1,r2,by simp only [QE,h1];exact h4,by simp only [QE,h2];exact h5,h6⟩
 exact key l [] s1 s2 QU rfl (by unfold QU;omega) h0
theorem YS {α β1 β2:Type} {step1:Int→Option (LO Int β1)} {step2:Int→Option (LO Int β2)} (l:List α) (z1:β1) (z2:β2) (g1:Int→β1) (g2:Int→β2) (hlen:l.length≤900000000)
  (hin:∀ (a:List α) (x:α) (b:List α),l=a++x::b→∃ e:Int,(e=0→step1 (a.length:Int)=some (.next (Ja ((a.length:Int)+1)))∧step2 (a.length:Int)=some (.next (Ja ((a.length:Int)+1))))∧(e ≠ 0→step1 (a.length:Int)=some (.done (g1 e))∧step2 (a.length:Int)=some (.done (g2 e))))
  (hout1:step1 (l.length:Int)=some (.done z1)) (hout2:step2 (l.length:Int)=some (.done z2)) :
  ∃ e:Int,(e=0→QE step1 QU 0=some z1∧QE step2 QU 0=some z2)∧(e ≠ 0→QE step1 QU 0=some (g1 e)∧QE step2 QU 0=some (g2 e)):=by
 obtain ⟨r1,r2,h1,h2,e,h3,h4⟩:=loop2 (step1:=step1) (step2:=step2) l (fun i (_:Unit)=>i) (fun i (_:Unit)=>i) (fun _ _ _=>True) (fun r1 r2=>∃ e:Int,(e=0→r1=z1∧r2=z2)∧(e ≠ 0→r1=g1 e∧r2=g2 e)) hlen
  (fun a x b _ _ hl _=>by
   obtain ⟨e,h1,h2⟩:=hin a x b hl
   by_cases he:e=0
   ·exact .inr ⟨(),(),(h1 he).1,(h1 he).2,trivial⟩
   ·exact .inl ⟨_,_,(h2 he).1,(h2 he).2,e,fun h=>(he h).elim,fun _=>⟨rfl,rfl⟩⟩)
  (fun _ _ _=>⟨z1,z2,hout1,hout2,0,fun _=>⟨rfl,rfl⟩,fun h=>(h rfl).elim⟩) () () trivial
 refine ⟨e,fun he=>?_,fun he=>?_⟩
 ·rw [h1,h2,(h3 he).1,(h3 he).2];exact ⟨rfl,rfl⟩
 ·rw [h1,h2,(h4 he).1,(h4 he).2];exact ⟨rfl,rfl⟩
theorem Z4 {α:Type} {l a b:List α} {x:α} (e:l=a++x::b):decide ((a.length:Int) < (l.length:Int))=true∧JP l (a.length:Int)=some x:=by
 rw [e];exact ⟨Y4 a x b,JK a x b⟩
def formU (ix nm ln A N L K:Bool):Option Bool :=
 Option.bind (cond ix (cond nm (cond ln (some K) (cond L (some K) (some false))) (cond N (cond ln (some K) (cond L (some K) (some false))) (some false)))
  (cond A (cond nm (cond ln (some K) (cond L (some K) (some false))) (cond N (cond ln (some K) (cond L (some K) (some false))) (some false))) (some false))) (fun b=>some b)
theorem formU_eq (ix nm ln A N L K:Bool):formU ix nm ln A N L K=some ((ix||A)&&(nm||N)&&(ln||L)&&K):=by
 cases ix <;> cases nm <;> cases ln <;> cases A <;> cases N <;> cases L <;> cases K <;> rfl
def formV (k0 k12 k3 k2 A N L0 L1 K:Bool):Option Bool :=
 cond (!K) (some false) (Option.bind (cond (!A) (cond (!k0) (some (!k12)) (some false)) (some false)) (fun v3=>cond v3 (some false) (Option.bind (cond (!N) (some (!k3)) (some false)) (fun b0_=>cond b0_ (some false) (cond k2 (some L1) (Option.bind (cond L0 (some true) (some k3)) (fun b1_=>some b1_)))))))
theorem formV_eq (k0 k12 k3 k2 A N L0 L1 K:Bool):formV k0 k12 k3 k2 A N L0 L1 K=some (((k0||k12)||A)&&(k3||N)&&(cond k2 L1 (L0||k3))&&K):=by
 cases k0 <;> cases k12 <;> cases k3 <;> cases k2 <;> cases A <;> cases N <;> cases L0 <;> cases L1 <;> cases K <;> rfl
theorem form_eq (t:Tm):∃ b,DI t=some b∧UT t=some b∧(b=true→0≤t.kind∧t.kind < 13∧(t.kind ≠ 3→(t.levels.length:Int)≤1)):=by
 by_cases h1:t.kind < 0
 ·exact ⟨false,by unfold DI;rw [decide_eq_true h1];rfl,by unfold UT;rw [decide_eq_true h1];rfl,fun h=>by cases h⟩
 by_cases h2:13≤t.kind
 ·exact ⟨false,by unfold DI;rw [decide_eq_false h1,decide_eq_true h2];rfl,by unfold UT;rw [decide_eq_false h1,decide_eq_true h2];rfl,fun h=>by cases h⟩
 have hk:t.kind=0∨t.kind=1∨t.kind=2∨t.kind=3∨t.kind=4∨t.kind=5∨t.kind=6∨t.kind=7∨t.kind=8∨t.kind=9∨t.kind=10∨t.kind=11∨t.kind=12:=by omega
 have fin:∀ (ix nm ln:Bool) (lv kd:Int) (k0 k12 k3 k2:Bool),DI t=formU ix nm ln (t.index==0) (t.name==[]) ((t.levels.length:Int)==lv) ((t.kids.length:Int)==kd) →
   UT t=formV k0 k12 k3 k2 (t.index==0) (t.name==[]) ((t.levels.length:Int)==0) ((t.levels.length:Int)==1) ((t.kids.length:Int)==kd) →
   ix=(k0||k12)→nm=k3→(ln||(t.levels.length:Int)==lv)=(cond k2 ((t.levels.length:Int)==1) ((t.levels.length:Int)==0||k3))→(k3=false→ln=false∧lv≤1)→(t.kind ≠ 3→k3=false) →
   ∃ b,DI t=some b∧UT t=some b∧(b=true→0≤t.kind∧t.kind < 13∧(t.kind ≠ 3→(t.levels.length:Int)≤1)):=by
  intro ix nm ln lv kd k0 k12 k3 k2 e1 e2 e3 e4 e5 e6 e7
  rw [formU_eq] at e1
  rw [formV_eq,← e5,← e3,← e4] at e2
  refine ⟨_,e1,e2,fun h=>⟨by omega,by omega,fun h3=>?_⟩⟩
  obtain ⟨h4,h5⟩:=e6 (e7 h3)
  rw [h4,Bool.false_or,Bool.and_eq_true,Bool.and_eq_true] at h
  have h6:=eq_of_beq h.1.2
  omega
 obtain ⟨k,i,n,ls,ks⟩:=t
 dsimp only [Tm.kind,Tm.index,Tm.name,Tm.levels,Tm.kids] at *
 rcases hk with hk | hk | hk | hk | hk | hk | hk | hk | hk | hk | hk | hk | hk <;> subst hk
 ·exact fin true false false 0 0 true false false false rfl rfl rfl rfl (by cases ((ls.length:Int)==0) <;> rfl) (fun _=>⟨rfl,by omega⟩) (fun _=>rfl)
 ·exact fin false false false 0 0 false false false false rfl rfl rfl rfl (by cases ((ls.length:Int)==0) <;> rfl) (fun _=>⟨rfl,by omega⟩) (fun _=>rfl)
 ·exact fin false false false 1 0 false false false true rfl rfl rfl rfl rfl (fun _=>⟨rfl,by omega⟩) (fun _=>rfl)
 ·exact fin false true true (-1) 0 false false true false rfl rfl rfl rfl (by cases ((ls.length:Int)==0) <;> rfl) (fun h=>by cases h) (fun h=>(h rfl).elim)
 ·exact fin false false false 0 2 false false false false rfl rfl rfl rfl (by cases ((ls.length:Int)==0) <;> rfl) (fun _=>⟨rfl,by omega⟩) (fun _=>rfl)
 ·exact fin false false false 0 2 false false false false rfl rfl rfl rfl (by cases ((ls.length:Int)==0) <;> rfl) (fun _=>⟨rfl,by omega⟩) (fun _=>rfl)
 ·exact fin false false false 0 2 false false false false rfl rfl rfl rfl (by cases ((ls.length:Int)==0) <;> rfl) (fun _=>⟨rfl,by omega⟩) (fun _=>rfl)
 ·exact fin false false false 0 2 false false false false rfl rfl rfl rfl (by cases ((ls.length:Int)==0) <;> rfl) (fun _=>⟨rfl,by omega⟩) (fun _=>rfl)
 ·exact fin false false false 0 3 false false false false rfl rfl rfl rfl (by cases ((ls.length:Int)==0) <;> rfl) (fun _=>⟨rfl,by omega⟩) (fun _=>rfl)
 ·exact fin false false false 0 1 false false false false rfl rfl rfl rfl (by cases ((ls.length:Int)==0) <;> rfl) (fun _=>⟨rfl,by omega⟩) (fun _=>rfl)
 ·exact fin false false false 0 1 false false false false rfl rfl rfl rfl (by cases ((ls.length:Int)==0) <;> rfl) (fun _=>⟨rfl,by omega⟩) (fun _=>rfl)
 ·exact fin false false false 0 3 false false false false rfl rfl rfl rfl (by cases ((ls.length:Int)==0) <;> rfl) (fun _=>⟨rfl,by omega⟩) (fun _=>rfl)
 ·exact fin true false false 0 0 false true false false rfl rfl rfl rfl (by cases ((ls.length:Int)==0) <;> rfl) (fun _=>⟨rfl,by omega⟩) (fun _=>rfl)
def Kx (V P:Int):Scp:=⟨max V 0,max P 0,max 0 0,max 0 0⟩
theorem lv_code (V P:Int) (x:Lvl) (h:x.vs.length≤900000000):∃ e,DP (Kx V P) x=some e∧D9 x P 0=some e:=by
 obtain ⟨b,h1,h2,-⟩:=lv_same x h
 unfold DP D9
 rw [h1,h2]
 cases b with
 | false=>exact ⟨3,rfl,rfl⟩
 | true =>
  show ∃ e,Option.bind (QE (Wc x (Kx V P)) QU 0) _=_∧Option.bind (QE (Xe x P) QU 0) _=_
  obtain ⟨e,h3,h4⟩:=YS (β1:=Unit⊕Int) (β2:=Unit⊕Int) (step1:=Wc x (Kx V P)) (step2:=Xe x P) x.vs (.inl ()) (.inl ()) .inr .inr h (fun a y b e=>by
   obtain ⟨q1,q2⟩:=Z4 e
   unfold Wc Xe
   rw [q1,q2]
   show ∃ e:Int,(_→cond (decide (max P 0≤y.1)) _ _=_∧Option.bind (cond (decide (0≤y.1)) (some (decide (P≤y.1))) (some false)) _=_)∧(_→cond (decide (max P 0≤y.1)) _ _=_∧Option.bind (cond (decide (0≤y.1)) (some (decide (P≤y.1))) (some false)) _=_)
   by_cases c:max P 0≤y.1
   ·rw [decide_eq_true c,decide_eq_true (show 0≤y.1 by omega),decide_eq_true (show P≤y.1 by omega)]
    exact ⟨15,fun h=>by omega,fun _=>⟨rfl,rfl⟩⟩
   ·rw [decide_eq_false c]
    refine ⟨0,fun _=>⟨Z,?_⟩,fun h=>(h Z).elim⟩
    by_cases c2:0≤y.1
    ·rw [decide_eq_true c2,decide_eq_false (show ¬ P≤y.1 by omega)];rfl
    ·rw [decide_eq_false c2];rfl)
   (by unfold Wc;rw [Ji];rfl) (by unfold Xe;rw [Ji];rfl)
  by_cases he:e=0
  ·obtain ⟨e1,e2⟩:=h3 he
   rw [e1,e2]
   show ∃ e,Option.bind (QE (Xo x (Kx V P)) QU 0) _=_∧Option.bind (QE (Gt x 0) QU 0) _=_
   obtain ⟨e',h5,h6⟩:=YS (β1:=Unit⊕Int) (β2:=Unit⊕Int) (step1:=Xo x (Kx V P)) (step2:=Gt x 0) x.vs (.inl ()) (.inl ()) .inr .inr h (fun a y b e=>by
    obtain ⟨q1,q2⟩:=Z4 e
    unfold Xo Gt
    rw [q1,q2]
    show ∃ e:Int,(_→Option.bind (cond (decide (y.1 < 0)) (some (decide (0≤(Ja ((-1) - y.1))))) (some false)) _=_∧Option.bind (cond (decide (y.1 < 0)) (some (decide (0≤(Ja ((-1) - y.1))))) (some false)) _=_)∧(_→Option.bind (cond (decide (y.1 < 0)) (some (decide (0≤(Ja ((-1) - y.1))))) (some false)) _=_∧Option.bind (cond (decide (y.1 < 0)) (some (decide (0≤(Ja ((-1) - y.1))))) (some false)) _=_)
    cases decide (y.1 < 0) with
    | false=>exact ⟨0,fun _=>⟨rfl,rfl⟩,fun h=>(h rfl).elim⟩
    | true =>
     cases decide (0≤(Ja ((-1) - y.1))) with
     | false=>exact ⟨0,fun _=>⟨rfl,rfl⟩,fun h=>(h rfl).elim⟩
     | true=>exact ⟨23,fun h=>by omega,fun _=>⟨rfl,rfl⟩⟩)
    (by unfold Xo;rw [Ji];rfl) (by unfold Gt;rw [Ji];rfl)
   by_cases he':e'=0
   ·obtain ⟨e1,e2⟩:=h5 he'
    rw [e1,e2];exact ⟨0,rfl,rfl⟩
   ·obtain ⟨e1,e2⟩:=h6 he'
    rw [e1,e2];exact ⟨e',rfl,rfl⟩
  ·obtain ⟨e1,e2⟩:=h4 he
   rw [e1,e2];exact ⟨e,rfl,rfl⟩
theorem levels_len (t:Tm):(t.levels.map lvz).sum < t.size:=by rw [t.size_eq];omega
theorem lvz_len (l:Lvl):l.vs.length < lvz l:=by
 have:=ZY (fun _:LV=>1) (fun _=>Nat.le_refl 1) l.vs
 unfold lvz;omega
theorem UF {e:Int} (h:e ≠ 0):(e != 0)=true:=bne_iff_ne.2 h
theorem XR {α:Type} {e:Int} (he:e ≠ 0) (x:Int→Option α) (y:Option α):Option.bind (some e) (fun v=>cond (v != 0) (x v) y)=x e:=by
 rw [Option.bind_some,UF he];rfl
def UV (rc:Tm×Int×Int×Int×Int×Int→Option Int) (t:Tm) (dep V P:Int):Option Int:=Option.bind (QE (KI t rc dep V P 0 0) QU 0) (Sum.elim (fun (b1_:Unit)=>some 0) (fun o=>some o))
theorem node_tail (t:Tm) (dep V P:Int) (h:t.size≤900000000):∃ e,Option.bind (QE (Ky t (Kx V P)) QU 0) (Sum.elim (fun (o7:Unit)=>G6 t (Kx V P) dep) (fun o=>some o))=some e ∧
  ∀ rc,(Option.bind (QE (KJ t P 0) QU 0) (Sum.elim (fun (b0_:Unit)=>Option.bind (cond (t.kind==0) (cond (decide (t.index < 0)) (some true) (some (decide (max V 0≤(Ja (t.index - dep)))))) (some false)) (fun (b1_:Bool)=>Kh b1_ t 0 rc dep (max V 0) P 0)) (fun o=>some o)))=if e=0 then UV rc t dep (max V 0) P else some e:=by
 have hl:=levels_len t
 have hl2:=ZY lvz (fun l=>by unfold lvz;omega) t.levels
 obtain ⟨e,h3,h4⟩:=YS (β1:=Unit⊕Int) (β2:=Unit⊕Int) (step1:=Ky t (Kx V P)) (step2:=KJ t P 0) t.levels (.inl ()) (.inl ()) .inr .inr (by omega) (fun a y b e=>by
  obtain ⟨q1,q2⟩:=Z4 e
  have hy:y.vs.length≤900000000:=by
   have:=lvz_len y
   have:=Z9 lvz (show y∈t.levels from by rw [e];simp)
   omega
  obtain ⟨e,h1,h2⟩:=lv_code V P y hy
  unfold Ky KJ
  rw [q1,q2]
  show ∃ e:Int,(_→Option.bind (DP (Kx V P) y) _=_∧Option.bind (D9 y P 0) _=_)∧(_→Option.bind (DP (Kx V P) y) _=_∧Option.bind (D9 y P 0) _=_)
  rw [h1,h2]
  refine ⟨e,fun he=>?_,fun he=>?_⟩
  ·subst he;exact ⟨rfl,rfl⟩
  ·exact ⟨XR he _ _,XR he _ _⟩)
  (by unfold Ky;rw [Ji];rfl) (by unfold KJ;rw [Ji];rfl)
 by_cases he:e=0
 ·obtain ⟨e1,e2⟩:=h3 he
  rw [e1,e2]
  show ∃ e,G6 t (Kx V P) dep=some e∧∀ rc,Option.bind (cond (t.kind==0) (cond (decide (t.index < 0)) (some true) (some (decide (max V 0≤(Ja (t.index - dep)))))) (some false)) (fun (b1_:Bool)=>Kh b1_ t 0 rc dep (max V 0) P 0)=if e=0 then UV rc t dep (max V 0) P else some e
  unfold G6
  show ∃ e,Option.bind (cond (t.kind==0) (cond (decide (t.index < 0)) (some true) (some (decide (max V 0≤(Ja (t.index - dep)))))) (some false)) _=some e∧_
  obtain ⟨v,hv⟩:∃ v,cond (t.kind==0) (cond (decide (t.index < 0)) (some true) (some (decide (max V 0≤(Ja (t.index - dep)))))) (some false)=some v:=by
   cases (t.kind==0) <;> cases decide (t.index < 0) <;> exact ⟨_,rfl⟩
  rw [hv]
  ·cases v with
   | true=>exact ⟨24,rfl,fun rc=>rfl⟩
   | false =>
    show ∃ e,Option.bind (cond (t.kind==12) (cond (decide (t.index < 0)) (some true) (some (decide ((0:Int)≤t.index)))) (some false)) _=some e∧∀ rc,Kh false t 0 rc dep (max V 0) P 0=_
    unfold Kh
    simp only [cond_false]
    cases t.kind==12 with
    | false=>exact ⟨0,rfl,fun rc=>rfl⟩
    | true =>
     cases decide (t.index < 0) with
     | true=>exact ⟨23,rfl,fun rc=>rfl⟩
     | false =>
      cases decide ((0:Int)≤t.index) with
      | true=>exact ⟨23,rfl,fun rc=>rfl⟩
      | false=>exact ⟨0,rfl,fun rc=>rfl⟩
 ·obtain ⟨e1,e2⟩:=h4 he
  rw [e1,e2]
  exact ⟨e,rfl,fun rc=>by rw [if_neg he];rfl⟩
theorem node_eq (t:Tm) (dep V P:Int) (h:t.size≤900000000):∃ e,m80 (Kx V P) t dep=some e∧(∀ rc,UK rc t dep (max V 0) P 0 0=if e=0 then UV rc t dep (max V 0) P else some e)∧(e=0→0≤t.kind∧t.kind < 13):=by
 obtain ⟨b,h1,h2,h3⟩:=form_eq t
 unfold m80 UK
 rw [h1,h2]
 cases b with
 | false=>exact ⟨3,rfl,fun rc=>rfl,fun h=>by omega⟩
 | true =>
  obtain ⟨k1,k2,k3⟩:=h3 rfl
  obtain ⟨e,h4,h5⟩:=node_tail t dep V P h
  have hn:t.name.length≤900000000:=by have:=t.size_eq;omega
  show ∃ e,cond (t.kind==3) (Option.bind (DR t.name) _) _=some e∧(∀ rc,Option.bind (cond (t.kind==3) (Option.bind (DQ t.name) _) _) _=_)∧_
  rw [m65_eq _ hn,m71_eq _ hn,YC]
  by_cases hk:t.kind=3
  ·rw [decide_eq_true hk]
   cases Xm t.name with
   | false=>exact ⟨29,rfl,fun rc=>rfl,fun h=>by omega⟩
   | true =>
    show ∃ e,cond (decide (8 < (t.levels.length:Int))) (some 6) (Option.bind (QE (Ky t (Kx V P)) QU 0) (Sum.elim (fun (o7:Unit)=>G6 t (Kx V P) dep) (fun o=>some o)))=some e∧(∀ rc,cond (decide (8 < (t.levels.length:Int))) (some 6) (Option.bind (QE (KJ t P 0) QU 0) (Sum.elim (fun (b0_:Unit)=>Option.bind (cond (t.kind==0) (cond (decide (t.index < 0)) (some true) (some (decide (max V 0≤(Ja (t.index - dep)))))) (some false)) (fun (b1_:Bool)=>Kh b1_ t 0 rc dep (max V 0) P 0)) (fun o=>some o)))=_)∧_
    cases decide (8 < (t.levels.length:Int)) with
    | true=>exact ⟨6,rfl,fun rc=>rfl,fun h=>by omega⟩
    | false=>exact ⟨e,h4,h5,fun _=>⟨k1,k2⟩⟩
  ·rw [decide_eq_false hk]
   show ∃ e,Option.bind (QE (Ky t (Kx V P)) QU 0) (Sum.elim (fun (o7:Unit)=>G6 t (Kx V P) dep) (fun o=>some o))=some e∧(∀ rc,cond (decide (8 < (t.levels.length:Int))) (some 6) (Option.bind (QE (KJ t P 0) QU 0) (Sum.elim (fun (b0_:Unit)=>Option.bind (cond (t.kind==0) (cond (decide (t.index < 0)) (some true) (some (decide (max V 0≤(Ja (t.index - dep)))))) (some false)) (fun (b1_:Bool)=>Kh b1_ t 0 rc dep (max V 0) P 0)) (fun o=>some o)))=_)∧_
   rw [decide_eq_false (show ¬ 8 < (t.levels.length:Int) by have:=k3 hk;omega)]
   exact ⟨e,h4,h5,fun _=>⟨k1,k2⟩⟩
end Go.Proofs.Ytafddfoefeploaa
namespace Go.Proofs.Ytafddfoefeploaa
open Go.RowKit Go.Shelf
def Tm.num:Tm→Nat
 | .mk _ _ _ _ ks=>1+(ks.attach.map fun k=>Tm.num k.1).sum
termination_by t=>SizeOf.sizeOf t
decreasing_by
 have:=List.sizeOf_lt_of_mem k.2
 simp only [Tm.mk.sizeOf_spec];omega
theorem Tm.num_eq (t:Tm):t.num=1+(t.kids.map Tm.num).sum:=by
 cases t
 rw [Tm.num,List.attach_map_val];rfl
theorem sum_le2 {α:Type} (f g:α→Nat):∀ l:List α,(∀ x∈l,f x≤g x)→(l.map f).sum≤(l.map g).sum
 | [],_=>Nat.le_refl _
 | x::l,h=>by
  rw [List.map_cons,List.sum_cons,List.map_cons,List.sum_cons]
  have h1:=h x (List.mem_cons_self ..)
  have h2:=sum_le2 f g l fun y hy=>h y (List.mem_cons_of_mem _ hy)
  omega
theorem Tm.num_le (t:Tm):t.num≤t.size:=by
 induction t using Tm.ind with
 | h t ih =>
  rw [t.num_eq,t.size_eq]
  have:=sum_le2 Tm.num Tm.size t.kids ih
  omega
theorem num_le2 {t:Tm} {a b:List Tm} {x:Tm} (e:t.kids=a++x::b):(a.map Tm.num).sum+x.size < t.size∧(a.map Tm.num).sum+x.num < t.num:=by
 have h1:=t.size_eq
 have h2:=t.num_eq
 rw [e,sum_split] at h1 h2
 have h3:=sum_le2 Tm.num Tm.size a fun x _=>x.num_le
 constructor <;> omega
theorem num_walk:∀ (n:Nat) (t:Tm),t.size≤n→t.size≤900000000→JR UO n t=some (t.num:Int)
 | 0,t,h,_=>by rw [t.size_eq] at h;omega
 | n+1,t,h,h2=>by
  show D5 (JR UO n) t=_
  unfold D5
  have hl:=GY t
  have hn:=t.num_le
  obtain ⟨r,e1,e2⟩:=YG (step:=GC t (JR UO n)) t.kids (fun i (s:Nat)=>((s:Int),i)) (fun a s=>s=1+(a.map Tm.num).sum) (fun r=>r=(t.num:Int)) (by omega)
   (fun a x b s e hI=>by
    have hx:=YR (t:=t) (k:=x) (by rw [e];simp)
    have hr:=num_walk n x (by omega) (by omega)
    have h3:=num_le2 e
    obtain ⟨q1,q2⟩:=Z4 e
    refine .inr ⟨s+x.num,?_,?_⟩
    ·unfold GC
     dsimp only
     rw [q1,q2]
     simp only [cond_true,Option.bind_some]
     rw [hr]
     simp only [Option.bind_some]
     rw [WL (n:=(s:Int)+(x.num:Int)) (by omega) (by omega)]
     rfl
    ·rw [hI,List.map_append,List.sum_append];simp;omega)
   (fun s hI=>⟨(s:Int),by unfold GC;dsimp only;rw [Ji];rfl,by rw [hI,t.num_eq]⟩) 1 rfl
  have e3:QE (GC t (JR UO n)) QU (1,0)=some r:=e1
  rw [e3,e2];rfl
theorem m81_eq:m81=m56:=rfl
theorem bind_eq (k:Int) (h0:0≤k) (h1:k < 13):∃ v,JP ([(-1),(-1),(-1),(-1),(-1),1,1,1,(-1),(-1),(-1),2,(-1)]:List Int) k=some v∧∀ j:Nat,Ux k (j:Int)=some (if (j:Int)=v then 1 else 0):=by
 have hk:k=0∨k=1∨k=2∨k=3∨k=4∨k=5∨k=6∨k=7∨k=8∨k=9∨k=10∨k=11∨k=12:=by omega
 have no:∀ (c:Bool→Option Int) (j:Nat),Ux k (j:Int)=some 0→Ux k (j:Int)=some (if (j:Int) = -1 then 1 else 0):=fun _ j h=>by rw [h,if_neg (by omega)]
 rcases hk with hk | hk | hk | hk | hk | hk | hk | hk | hk | hk | hk | hk | hk <;> subst hk
 case inr.inr.inr.inr.inr.inl=>exact ⟨1,rfl,fun j=>by
  unfold Ux;rw [YC (j:Int) 1,YC (j:Int) 2]
  by_cases h:(j:Int)=1
  ·rw [decide_eq_true h,if_pos h];rfl
  ·rw [decide_eq_false h,if_neg h]
   cases decide ((j:Int)=2) <;> rfl⟩
 case inr.inr.inr.inr.inr.inr.inl=>exact ⟨1,rfl,fun j=>by
  unfold Ux;rw [YC (j:Int) 1,YC (j:Int) 2]
  by_cases h:(j:Int)=1
  ·rw [decide_eq_true h,if_pos h];rfl
  ·rw [decide_eq_false h,if_neg h]
   cases decide ((j:Int)=2) <;> rfl⟩
 case inr.inr.inr.inr.inr.inr.inr.inl=>exact ⟨1,rfl,fun j=>by
  unfold Ux;rw [YC (j:Int) 1,YC (j:Int) 2]
  by_cases h:(j:Int)=1
  ·rw [decide_eq_true h,if_pos h];rfl
  ·rw [decide_eq_false h,if_neg h]
   cases decide ((j:Int)=2) <;> rfl⟩
 case inr.inr.inr.inr.inr.inr.inr.inr.inr.inr.inr.inl=>exact ⟨2,rfl,fun j=>by
  unfold Ux;rw [YC (j:Int) 1,YC (j:Int) 2]
  by_cases h:(j:Int)=2
  ·rw [decide_eq_true h,if_pos h,decide_eq_false (show ¬ (j:Int)=1 by omega)];rfl
  ·rw [decide_eq_false h,if_neg h]
   cases decide ((j:Int)=1) <;> rfl⟩
 all_goals exact ⟨-1,rfl,fun j=>no (fun _=>none) j (by
  unfold Ux;rw [YC (j:Int) 1,YC (j:Int) 2]
  cases decide ((j:Int)=1) <;> cases decide ((j:Int)=2) <;> rfl)⟩
theorem walk_eq (V P:Int) (root:Tm):∀ (n:Nat) (t:Tm) (dep cnt:Nat),t.size≤n→dep+t.size≤900000000→cnt+t.size≤900000000 →
  ∃ e:Int,JR Uy n (t,(dep:Int),max V 0,P,0,0)=some e∧(e=0→JR G5 n (t,(dep:Int),root,0,Kx V P,(cnt:Int),root)=some (.inr (true,((cnt+t.num:Nat):Int)))) ∧
   (e ≠ 0→∃ c,JR G5 n (t,(dep:Int),root,0,Kx V P,(cnt:Int),root)=some (.inl (e,c)))
 | 0,t,_,_,h,_,_=>by rw [t.size_eq] at h;omega
 | n+1,t,dep,cnt,h,hd,hc=>by
  show ∃ e:Int,UK (JR Uy n) t (dep:Int) (max V 0) P 0 0=some e∧(e=0→WO (JR G5 n) t (dep:Int) root 0 (Kx V P) (cnt:Int) root=_)∧(e ≠ 0→∃ c,WO (JR G5 n) t (dep:Int) root 0 (Kx V P) (cnt:Int) root=some (.inl (e,c)))
  obtain ⟨e,h1,h2,h3⟩:=node_eq t (dep:Int) V P (by omega)
  have hl:=GY t
  have hnum:=t.num_le
  rw [h2]
  unfold WO
  rw [h1]
  by_cases he:e=0
  ·subst he
   obtain ⟨k0,k1⟩:=h3 rfl
   obtain ⟨v,hv,hj⟩:=bind_eq t.kind k0 k1
   rw [if_pos rfl]
   rw [decide_eq_true k0,decide_eq_true k1]
   show ∃ e:Int,UV (JR Uy n) t (dep:Int) (max V 0) P=some e∧(e=0→GK true t (dep:Int) (JR G5 n) root 0 (Kx V P) root (cnt:Int)=_)∧(e ≠ 0→∃ c,GK true t (dep:Int) (JR G5 n) root 0 (Kx V P) root (cnt:Int)=some (.inl (e,c)))
   have hg:Jy (cond (decide (0≤t.kind)) (Nat.blt t.kind.toNat 13) false) (some v)=some v:=by
    rw [decide_eq_true k0,cond_true,show Nat.blt t.kind.toNat 13=true from Nat.ble_eq_true_of_le (by omega)];rfl
   unfold GK UV
   rw [hv]
   simp only [cond_true,Option.bind_some]
   rw [hg,Option.bind_some,Uc (by omega)]
   obtain ⟨r1,r2,e1,e2,e3⟩:=loop2 (β1:=Unit⊕Int) (β2:=Int⊕((Int×Int)⊕(Bool×Int))) (step1:=KI t (JR Uy n) (dep:Int) (max V 0) P 0 0) (step2:=Km t v (dep:Int) (JR G5 n) root 0 (Kx V P) root) t.kids (fun i (_:Unit)=>i) (fun i (c:Nat)=>(i,(c:Int)))
    (fun a _ c=>c=cnt+1+(a.map Tm.num).sum) (fun r1 r2=>(r1=.inl ()∧r2=.inl ((cnt+t.num:Nat):Int))∨∃ e c,e ≠ 0∧r1=.inr e∧r2=.inr (.inl (e,c))) (by omega)
    (fun a x b _ c e hI=>by
     obtain ⟨q1,q2⟩:=Z4 e
     have hx:=num_le2 e
     have hxs:=YR (t:=t) (k:=x) (by rw [e];simp)
     unfold KI Km
     dsimp only
     rw [q1,q2]
     simp only [cond_true,Option.bind_some]
     rw [hj a.length,YC]
     obtain ⟨d',hd1,hd2,hd3⟩:∃ d':Nat,Ja ((dep:Int)+(if (a.length:Int)=v then 1 else 0))=(d':Int)∧(cond (decide ((a.length:Int)=v)) (some (Ja ((dep:Int)+1))) (some (dep:Int)))=some (d':Int)∧d'≤dep+1:=by
      by_cases hh:(a.length:Int)=v
      ·rw [if_pos hh,decide_eq_true hh,Uc (by omega)];exact ⟨dep+1,rfl,rfl,Nat.le_refl _⟩
      ·rw [if_neg hh,decide_eq_false hh,WL (by omega) (by omega)];exact ⟨dep,by omega,rfl,by omega⟩
     rw [hd2]
     simp only [Option.bind_some]
     rw [hd1]
     obtain ⟨e',w1,w2,w3⟩:=walk_eq V P root n x d' c (by omega) (by omega) (by omega)
     unfold m91f3_k0
     rw [w1]
     simp only [Option.bind_some]
     by_cases he':e'=0
     ·rw [w2 he']
      subst he'
      refine .inr ⟨(),c+x.num,Z,Z,?_⟩
      rw [hI,List.map_append,List.sum_append];simp;omega
     ·obtain ⟨c',w4⟩:=w3 he'
      rw [w4,UF he']
      exact .inl ⟨_,_,Z,Z,.inr ⟨e',c',he',Z,Z⟩⟩)
    (fun _ c hI=>⟨_,_,by unfold KI;rw [Ji];rfl,by unfold Km;dsimp only;rw [Ji];rfl,.inl ⟨rfl,by rw [hI,t.num_eq];congr 2;omega⟩⟩) () (cnt+1) (by simp)
   have e1':QE (KI t (JR Uy n) (dep:Int) (max V 0) P 0 0) QU 0=some r1:=e1
   have e2':QE (Km t v (dep:Int) (JR G5 n) root 0 (Kx V P) root) QU (0,((cnt+1:Nat):Int))=some r2:=e2
   rw [e1',e2']
   rcases e3 with ⟨rfl,rfl⟩ | ⟨e',c',he',rfl,rfl⟩
   ·exact ⟨0,rfl,fun _=>rfl,fun h=>(h rfl).elim⟩
   ·exact ⟨e',rfl,fun h=>(he' h).elim,fun _=>⟨c',rfl⟩⟩
  ·rw [if_neg he]
   refine ⟨e,Z,fun h=>(he h).elim,fun _=>⟨(cnt:Int),?_⟩⟩
   simp only [Option.bind_some,UF he,cond_true];rfl
theorem m66_eq (t:Tm) (V P:Int) (h:t.size≤900000000):∃ e,m86 t V P 0 0=some e∧m66 t V P 0 0=some e:=by
 obtain ⟨e,h1,h2,h3⟩:=walk_eq V P t QU t 0 0 (by unfold QU;omega) (by omega) (by omega)
 obtain ⟨d,h4⟩:=depth_some QU t (by unfold QU;omega) h
 have h5:m55 t=some (t.num:Int):=num_walk QU t (by unfold QU;omega) h
 have h6:m56 t=some d:=h4
 have h1':m100 t 0 (max V 0) P 0 0=some e:=h1
 have h7:∀ r,JR G5 QU (t,((0:Nat):Int),t,0,Kx V P,((0:Nat):Int),t)=some r→m91f3 t 0 t 0 (⟨(max V 0),(max P 0),(max 0 0),(max 0 0)⟩:Scp) 0 t=some r:=fun r h=>h
 unfold m86 m66
 rw [h1',m81_eq,h5,h6]
 by_cases he:e=0
 ·have h8:=h7 _ (h2 he)
  rw [h8]
  subst he
  show ∃ e,cond (decide (4096 < (t.num:Int))) (some 5) (cond (decide (200 < d)) (some 7) (some 0))=some e∧cond (decide (4096 < ((0+t.num:Nat):Int))) (some 5) (cond (decide (200 < d)) (some 7) (some 0))=some e
  rw [Nat.zero_add]
  cases decide (4096 < (t.num:Int)) with
  | true=>exact ⟨5,rfl,rfl⟩
  | false=>cases decide (200 < d) <;> exact ⟨_,rfl,rfl⟩
 ·obtain ⟨c,h9⟩:=h3 he
  rw [h7 _ h9]
  simp only [Option.bind_some,UF he,cond_true]
  exact ⟨e,Z,Z⟩
end Go.Proofs.Ytafddfoefeploaa
namespace Go.Proofs.Ytafddfoefeploaa
open Go.RowKit Go.Shelf
theorem fo_116_0:J1 Try.prog 116 0=some 0:=by kernel_rfl
theorem K2:J1 Try.prog 116 1=some 1:=by kernel_rfl
theorem fo_116_2:J1 Try.prog 116 2=some 2:=by kernel_rfl
theorem Z6:JI Try.prog 116=some (true,25):=by kernel_rfl
theorem bd_74:Y9 Try.prog 74 [(0,1),(1,5),(6,1),(7,1)] [.int .i64 0,.int .i64 0,.int .i64 0,.string ByteArray.empty,.slice none 0 0,.slice none 0 0,.int .i64 0,.slice none 0 0]:=⟨by kernel_rfl,by kernel_rfl⟩
theorem en_50:QY Try.prog 50:=enters_of Try.func50 (by kernel_rfl) rfl
theorem en_51:QY Try.prog 51:=enters_of Try.func51 (by kernel_rfl) rfl
theorem en_52:QY Try.prog 52:=enters_of Try.func52 (by kernel_rfl) rfl
theorem en_69:QY Try.prog 69:=enters_of Try.func69 (by kernel_rfl) rfl
theorem en_70:QY Try.prog 70:=enters_of Try.func70 (by kernel_rfl) rfl
theorem en_72:QY Try.prog 72:=enters_of Try.func72 (by kernel_rfl) rfl
theorem en_73:QY Try.prog 73:=enters_of Try.func73 (by kernel_rfl) rfl
theorem en_84:QY Try.prog 84:=enters_of Try.func84 (by kernel_rfl) rfl
theorem en_87:QY Try.prog 87:=enters_of Try.func87 (by kernel_rfl) rfl
theorem en_88:QY Try.prog 88:=enters_of Try.func88 (by kernel_rfl) rfl
theorem en_101:QY Try.prog 101:=enters_of Try.func101 (by kernel_rfl) rfl
def m101_k0 (p0_:Bool) (p1_:(List Tm)×Int×Int×Bs×(List Lvl)×(List Tm)):Option (LO ((List Tm)×Int×Int×Bs×(List Lvl)×(List Tm)) (((List Tm)×Int×Int×Bs×(List Lvl)×(List Tm)))) :=
 cond p0_
   (Option.bind (JP p1_.2.2.2.2.2 0) fun (b0_:Tm) =>
 Jy (Nat.ble (p1_.1.length+([b0_]).length) 1000000000)
 (Option.bind (JP p1_.2.2.2.2.2 1) fun (b1_:Tm) =>
 some (.next ((p1_.1++([b0_])),b1_.kind,b1_.index,b1_.name,b1_.levels,b1_.kids))))
   (some (.done (p1_.1,p1_.2.1,p1_.2.2.1,p1_.2.2.2.1,p1_.2.2.2.2.1,p1_.2.2.2.2.2)))
def Kg  (s1:(List Tm)×Int×Int×Bs×(List Lvl)×(List Tm)):Option (LO ((List Tm)×Int×Int×Bs×(List Lvl)×(List Tm)) (((List Tm)×Int×Int×Bs×(List Lvl)×(List Tm)))) :=
 Option.bind (cond (s1.2.1==6)
   (some ((s1.2.2.2.2.2.length:Int)==2))
   (some false)) (fun (v2:Bool)=>m101_k0 v2 s1)
def m101 (a0:Tm):Option ((List Tm)×Tm) :=
 Option.bind (QE (Kg) QU (([]:List Tm),a0.kind,a0.index,a0.name,a0.levels,a0.kids)) (fun (o1:(List Tm)×Int×Int×Bs×(List Lvl)×(List Tm))=>some (o1.1,(Tm.mk o1.2.1 o1.2.2.1 o1.2.2.2.1 o1.2.2.2.2.1 o1.2.2.2.2.2)))
theorem m101_ok (a0:Tm) (r:(List Tm)×Tm) (h0:m101 a0=some r):Fun Try.prog 101 [.agg (cE a0)] (QM [.one (dS r.1),.agg (cE r.2)]):=by
 unfold m101 at h0
 refine QB 9 27 Try.func101 Z en_101 Z (lb Z) (fun S w=>?_)
 simp only [J3]
 refine Q4<|Q0<|Qb Z Z (lb Z) (QN Z)<|rA Z Z Z<|Qb Z Z (lb Z) (Qv G1 Z)<|Q5<|Q3<|Q4<|Q0<|rA Z Z Z<|Q5<|Q3<|Q4<|Ql ?_
 refine QQ 0 (fun (o1:(List Tm)×Int×Int×Bs×(List Lvl)×(List Tm))=>⟨[(1,.v (.one (.ptr 0 0))),(3,.v (.one (.ptr 1 0))),(4,.v (.one (dA 2 o1.1)))],[(0,.cells 33 [dI o1.2.1,dI o1.2.2.1,J6 o1.2.2.2.1,dS o1.2.2.2.2.1,dS o1.2.2.2.2.2]),(1,.cells 33 [dI 0,dI 0,J6 ([]:List UInt8),dN,dN])],[(2,some ⟨33,5,(Enc.encL o1.1).length,[]⟩)],3,27,[]⟩) (fun (o1:(List Tm)×Int×Int×Bs×(List Lvl)×(List Tm))=>(some (o1.1,(Tm.mk o1.2.1 o1.2.2.1 o1.2.2.2.1 o1.2.2.2.2.1 o1.2.2.2.2.2)))=some r) ?_ ?_
 refine XC.adoptT (t:=4) 33 5 Z ?_
 refine Qd h0 (fun o2 hl1 h0=>?_)
 refine QP (Kg) (fun s1=>⟨[(1,.v (.one (.ptr 0 0))),(3,.v (.one (.ptr 1 0))),(4,.v (.one (dA 2 s1.1)))],[(0,.cells 33 [dI s1.2.1,dI s1.2.2.1,J6 s1.2.2.2.1,dS s1.2.2.2.2.1,dS s1.2.2.2.2.2]),(1,.cells 33 [dI 0,dI 0,J6 ([]:List UInt8),dN,dN])],[(2,some ⟨33,5,(Enc.encL s1.1).length,[]⟩)],3,27,[]⟩) (([]:List Tm),a0.kind,a0.index,a0.name,a0.levels,a0.kids) o2 (sL (Nat.zero_le _) Z Z Z Z Z) hl1 (fun s1 n1 oo1 h1 ho1=>?_)
 unfold Kg at h1
 refine Q4<|Q4 ?_
 refine QD (fun (v3:Bool)=>⟨[(1,.v (.one (.ptr 0 0))),(3,.v (.one (.ptr 1 0))),(4,.v (.one (dA 2 s1.1))),(13,.v (.one (dB v3)))],[(0,.cells 33 [dI s1.2.1,dI s1.2.2.1,J6 s1.2.2.2.1,dS s1.2.2.2.2.1,dS s1.2.2.2.2.2]),(1,.cells 33 [dI 0,dI 0,J6 ([]:List UInt8),dN,dN])],[(2,some ⟨33,5,(Enc.encL s1.1).length,[]⟩)],3,27,[]⟩) (fun (v3:Bool)=>(m101_k0 v3 s1)=some oo1) ?_ ?_
 refine Qd h1 (fun w2_ h2 h1=>?_)
 refine Q0<|rR Z Z Z (Q2 JF Z)<|rR Z Z Z (Q6 QG Z Z Z)<|rR Z Z Z (Q8 Z Z Z)<|rM Z Z Z ?_
 refine Qw (d:=8) (c:=(s1.2.1==6)) Z (fun c4=>?_) (fun c4=>?_)
 replace h2:=Qf c4 h2
 refine rR Z Z Z (Q2 Jv Z)<|rR Z Z Z (Q6 JH Z Z Z)<|rR Z Z Z (Qx (α:=Tm) Jk Z (.d _))<|rR Z Z Z (Q8 Z Z Z)<|rR Z Z Z (Qc Z Z)<|Q5 ?_
 have e:=sI h2;subst e
 exact Q9 ((s1.2.2.2.2.2.length:Int)==2) (sL (Nat.zero_le _) Z Z Z Z Z) h1
 replace h2:=Qg c4 h2
 refine Q7 Z Z<|Q7 Z Z<|Q7 Z Z<|Q7 Z Z<|rR Z Z Z (Qa Z Z)<|Q5 ?_
 have e:=sI h2;subst e
 exact Q9 false (sL (Nat.zero_le _) Z Z Z Z Z) h1
 intro v3 h1
 unfold m101_k0 at h1
 refine Q3 ?_
 refine Qe (b:=v3) Z (fun c5=>?_) (fun c5=>?_)
 replace h1:=Qf c5 h1
 refine Qj<|Q3<|Ql<|Q4<|Q0<|rM Z Z Z<|rR Z Z Z (Q2 Jv Z)<|rR Z Z Z (Q6 JH Z Z Z) ?_
 refine Qd h1 (fun x6 hx6 h1=>?_)
 refine rR Z Z Z (Qt (α:=Tm) Jk Z (.d _) Z hx6)<|rR Z Z Z (Qu (x6:Tm) QR Z)<|Qb Z Z (lb Z) (JW (α:=Tm) (x6) Jk G1 Z Z (lb Z) (lb Z) Z Z (.cons (.d _) (.cons (.d _) (.cons (.d _) (.cons (.d _) (.cons (.d _) .nil))))) Z) ?_
 refine Yt h1 (fun g7 h1=>?_)
 refine Qb Z Z (lb Z) (Yz (α:=Tm) Jk el_33 Z Z Z Z Z (.app _ _) g7)<|rA Z Z Z<|Q5<|Q3<|Q0<|rR Z Z Z (Q2 Jv Z)<|rR Z Z Z (Q6 JH Z Z Z) ?_
 refine Qd h1 (fun x8 hx8 h1=>?_)
 refine rR Z Z Z (Qt (α:=Tm) Jk Z (.d _) Z hx8)<|rR Z Z Z (Qu (x8:Tm) QR Z)<|QC Z Z (QA (x8:Tm) QR Z Z Z Z Z)<|Q5<|Qk ?_
 have e:=sI h1;subst e
 refine QJ ((s1.1++([x6])),x8.kind,x8.index,x8.name,x8.levels,x8.kids) (sL (Nat.zero_le _) Z Z Z Z Z) ho1
 replace h1:=Qg c5 h1
 refine QW<|Qr<|Qr ?_
 have e:=sI h1;subst e
 have e_:_=_:=ho1
 subst e_
 exact QO (s1.1,s1.2.1,s1.2.2.1,s1.2.2.2.1,s1.2.2.2.2.1,s1.2.2.2.2.2) (sL (Nat.zero_le _) Z Z Z Z Z) h0
 intro o1 h0
 refine QF<|Q3<|Q4 ?_
 refine J4 [3] [] JV (by kernel_rfl) (by kernel_rfl) (by kernel_rfl) ?_
 refine RunA.rd Z Z Z (Q1 (Qq Z)) Z<|RunA.rd Z Z Z (Q1 (Qi QR Z Z Z Z)) Z<|RunA.rd Z Z Z (Q1 (Jd Z)) Z<|RunA.eff Z Z Z (Qz QR Z Z Z Z (lb Z) Z) Z ?_
 refine RunA.nil ⟨?ex,_,_,Z,?_⟩
 case ex=>exact trivial
 refine Jp (st':=⟨[(2,.v (.one (dA 2 o1.1))),(3,.v (.one (.ptr 1 0)))],[(0,.cells 33 [dI o1.2.1,dI o1.2.2.1,J6 o1.2.2.2.1,dS o1.2.2.2.2.1,dS o1.2.2.2.2.2]),(1,.cells 33 [dI o1.2.1,dI o1.2.2.1,J6 o1.2.2.2.1,dS o1.2.2.2.2.1,dS o1.2.2.2.2.2])],[(2,some ⟨33,5,(Enc.encL o1.1).length,[]⟩)],3,27,[]⟩) (sL (Nat.zero_le _) Z Z Z Z Z)<|Q3<|Qp ?_
 have e:=sI h0;subst e
 exact Qn (fun _ _ h=>h) Z (Qm Z (JZ QR Z Z Z Z .nil)) (.cons (.one (.app _ _ _)) (.cons (.agg (.cons (.d _) (.cons (.d _) (.cons (.d _) (.cons (.d _) (.cons (.d _) .nil)))))) .nil))
def Dt (a0:Tm):Option Bool :=
 Option.bind (D8 a0 (Tm.mk 0 0 ([]:List UInt8) ([]:List Lvl) ([]:List Tm))) fun (x1:Bool) =>
 some x1
theorem WS (a0:Tm) (r:Bool) (h0:Dt a0=some r):Fun Try.prog 69 [.agg (cE a0)] (QM [.one (dB r)]):=by
 unfold Dt at h0
 refine QB 9 6 Try.func69 Z en_69 Z (lb Z) (fun S w=>?_)
 simp only [J3]
 refine Q4<|Q0<|Qb Z Z (lb Z) (QN Z)<|rA Z Z Z<|Q5<|Q3<|Q4<|Q0<|rR Z Z Z (QH (a0:Tm) QR Z Z)<|rR Z Z Z (Zi UZ Z ) ?_
 refine Qd h0 (fun x1 hx1 h0=>?_)
 refine Qb Z Z (lb Z) (Qh (GE a0 (Tm.mk 0 0 ([]:List UInt8) ([]:List Lvl) ([]:List Tm)) x1 hx1) Z (.cons (.agg (.cons (.d _) (.cons (.d _) (.cons (.d _) (.cons (.d _) (.cons (.d _) .nil)))))) (.cons (.agg (.cons (.d _) (.cons (.d _) (.cons (.d _) (.cons (.nil _) (.cons (.nil _) .nil)))))) .nil)))<|rA Z Z Z<|Q5<|Q3<|Qp ?_
 have e:=sI h0;subst e
 exact Qn (fun _ _ h=>h) Z (Qm Z .nil) (.cons (.one (.d _)) .nil)
def GB  (s1:Int×Int×Int×Bs×(List Lvl)×(List Tm)):Option (LO (Int×Int×Int×Bs×(List Lvl)×(List Tm)) ((Int×Int×Int×Bs×(List Lvl)×(List Tm)))) :=
 Option.bind (cond (s1.2.1==6)
   (some ((s1.2.2.2.2.2.length:Int)==2))
   (some false)) (fun (v2:Bool)=>cond v2
   (Option.bind (JP s1.2.2.2.2.2 1) fun (x4:Tm) =>
 some (.next ((Ja (s1.1+1)),x4.kind,x4.index,x4.name,x4.levels,x4.kids)))
   (some (.done (s1.1,s1.2.1,s1.2.2.1,s1.2.2.2.1,s1.2.2.2.2.1,s1.2.2.2.2.2))))
def DJ (a0:Tm):Option Int :=
 Option.bind (QE (GB) QU (0,a0.kind,a0.index,a0.name,a0.levels,a0.kids)) (fun (o1:Int×Int×Int×Bs×(List Lvl)×(List Tm))=>some o1.1)
theorem m84_ok (a0:Tm) (r:Int) (h0:DJ a0=some r):Fun Try.prog 84 [.agg (cE a0)] (QM [.one (dI r)]):=by
 unfold DJ at h0
 refine QB 9 20 Try.func84 Z en_84 Z (lb Z) (fun S w=>?_)
 simp only [J3]
 refine Q4<|Q0<|Qb Z Z (lb Z) (QN Z)<|rA Z Z Z<|Q5<|Q3<|Q4<|Q0<|rA Z Z Z<|Q5<|Q3<|Q4<|Ql ?_
 refine QQ 0 (fun (o1:Int×Int×Int×Bs×(List Lvl)×(List Tm))=>⟨[(3,.v (.one (dI o1.1)))],[(0,.cells 33 [dI o1.2.1,dI o1.2.2.1,J6 o1.2.2.2.1,dS o1.2.2.2.2.1,dS o1.2.2.2.2.2])],[],1,20,[]⟩) (fun (o1:Int×Int×Int×Bs×(List Lvl)×(List Tm))=>(some o1.1)=some r) ?_ ?_
 refine Qd h0 (fun o2 hl1 h0=>?_)
 refine QP (GB) (fun s1=>⟨[(1,.v (.one (.ptr 0 0))),(3,.v (.one (dI s1.1)))],[(0,.cells 33 [dI s1.2.1,dI s1.2.2.1,J6 s1.2.2.2.1,dS s1.2.2.2.2.1,dS s1.2.2.2.2.2])],[],1,20,[]⟩) (0,a0.kind,a0.index,a0.name,a0.levels,a0.kids) o2 (sL (Nat.zero_le _) Z Z Z Z Z) hl1 (fun s1 n1 oo1 h1 ho1=>?_)
 unfold GB at h1
 refine Q4<|Q4 ?_
 refine QD (fun (v3:Bool)=>⟨[(1,.v (.one (.ptr 0 0))),(3,.v (.one (dI s1.1))),(12,.v (.one (dB v3)))],[(0,.cells 33 [dI s1.2.1,dI s1.2.2.1,J6 s1.2.2.2.1,dS s1.2.2.2.2.1,dS s1.2.2.2.2.2])],[],1,20,[]⟩) (fun (v3:Bool)=>(cond v3
     (Option.bind (JP s1.2.2.2.2.2 1) fun (x5:Tm) =>
   some (.next ((Ja (s1.1+1)),x5.kind,x5.index,x5.name,x5.levels,x5.kids)))
     (some (.done (s1.1,s1.2.1,s1.2.2.1,s1.2.2.2.1,s1.2.2.2.2.1,s1.2.2.2.2.2))))=some oo1) ?_ ?_
 refine Qd h1 (fun w2_ h2 h1=>?_)
 refine Q0<|rR Z Z Z (Q2 JF Z)<|rR Z Z Z (Q6 QG Z Z Z)<|rR Z Z Z (Q8 Z Z Z)<|rM Z Z Z ?_
 refine Qw (d:=7) (c:=(s1.2.1==6)) Z (fun c4=>?_) (fun c4=>?_)
 replace h2:=Qf c4 h2
 refine rR Z Z Z (Q2 Jv Z)<|rR Z Z Z (Q6 JH Z Z Z)<|rR Z Z Z (Qx (α:=Tm) Jk Z (.d _))<|rR Z Z Z (Q8 Z Z Z)<|rR Z Z Z (Qc Z Z)<|Q5 ?_
 have e:=sI h2;subst e
 exact Q9 ((s1.2.2.2.2.2.length:Int)==2) (sL (Nat.zero_le _) Z Z Z Z Z) h1
 replace h2:=Qg c4 h2
 refine Q7 Z Z<|Q7 Z Z<|Q7 Z Z<|Q7 Z Z<|rR Z Z Z (Qa Z Z)<|Q5 ?_
 have e:=sI h2;subst e
 exact Q9 false (sL (Nat.zero_le _) Z Z Z Z Z) h1
 intro v3 h1
 refine Q3 ?_
 refine Qe (b:=v3) Z (fun c5=>?_) (fun c5=>?_)
 replace h1:=Qf c5 h1
 refine Qj<|Q3<|Ql<|Q4<|Q0<|rM Z Z Z<|rR Z Z Z (Q8 Z Z Z)<|rA Z Z Z<|Q5<|Q3<|Q0<|rR Z Z Z (Q2 Jv Z)<|rR Z Z Z (Q6 JH Z Z Z) ?_
 refine Qd h1 (fun x6 hx6 h1=>?_)
 refine rR Z Z Z (Qt (α:=Tm) Jk Z (.d _) Z hx6)<|rR Z Z Z (Qu (x6:Tm) QR Z)<|QC Z Z (QA (x6:Tm) QR Z Z Z Z Z)<|Q5<|Qk ?_
 have e:=sI h1;subst e
 refine QJ ((Ja (s1.1+1)),x6.kind,x6.index,x6.name,x6.levels,x6.kids) (sL (Nat.zero_le _) Z Z Z Z Z) ho1
 replace h1:=Qg c5 h1
 refine QW<|Qr<|Qr ?_
 have e:=sI h1;subst e
 have e_:_=_:=ho1
 subst e_
 exact QO (s1.1,s1.2.1,s1.2.2.1,s1.2.2.2.1,s1.2.2.2.2.1,s1.2.2.2.2.2) (sL (Nat.zero_le _) Z Z Z Z Z) h0
 intro o1 h0
 refine QF<|Q3<|Q4<|Q0<|rM Z Z Z<|rA Z Z Z<|Q5<|Q3<|Qp ?_
 have e:=sI h0;subst e
 exact Qn (fun _ _ h=>h) Z (Qm Z .nil) (.cons (.one (.d _)) .nil)
def Xr (a0:Dcl) (s1:Bool×Int):Option (LO (Bool×Int) Bool) :=
 cond (decide (s1.2 < (a0.ctors.length:Int)))
   (Option.bind (cond s1.1
   (Option.bind (JP a0.ctors s1.2) fun (x6:Ctr) =>
 Option.bind (DJ x6.ty) fun (x7:Int) =>
 some (decide (a0.fixed≤x7)))
   (some false)) (fun (v4:Bool)=>some (.next (v4,(Ja (s1.2+1))))))
   (some (.done s1.1))
def m70 (a0:Dcl):Option Bool :=
 Option.bind (DJ a0.ty) fun (x1:Int) =>
 Option.bind (QE (Xr a0) QU ((decide (a0.fixed≤x1)),0)) (fun (o2:Bool)=>some o2)
theorem m70_ok (a0:Dcl) (r:Bool) (h0:m70 a0=some r):Fun Try.prog 70 [.agg (cE a0)] (QM [.one (dB r)]):=by
 unfold m70 at h0
 refine QB 9 32 Try.func70 Z en_70 Z (lb Z) (fun S w=>?_)
 simp only [J3]
 refine Q4<|Q0<|Qb Z Z (lb Z) (QN Z)<|rA Z Z Z<|Q5<|Q3<|Q4 ?_
 refine J4 [] [] JV (by kernel_rfl) (by kernel_rfl) (by kernel_rfl) ?_
 refine RunA.rd Z Z Z (Q1 (Q2 Zl Z)) Z<|RunA.rd Z Z Z (Q1 (Qi QR Z Z Z Z)) Z ?_
 refine Qd h0 (fun x1 hx1 h0=>?_)
 refine RunA.rd Z Z Z (Qh (m84_ok a0.ty x1 hx1) Z (.cons (.agg (.cons (.d _) (.cons (.d _) (.cons (.d _) (.cons (.d _) (.cons (.d _) .nil)))))) .nil)) Z<|RunA.rd Z Z Z (Q1 (Q2 K0 Z)) Z<|RunA.rd Z Z Z (Q1 (Q6 QG Z Z Z)) Z<|RunA.rd Z Z Z (Q1 (Q8 Z Z Z)) Z<|RunA.rd Z Z Z (Q1 (Jd Z)) Z ?_
 refine RunA.nil ⟨?ex,_,_,Z,?_⟩
 case ex=>exact trivial
 refine Jp (st':=⟨[(1,.v (.one (.ptr 0 0))),(3,.v (.one (dB (decide (a0.fixed≤x1)))))],[(0,.cells 45 (cE a0))],[],1,32,[]⟩) (sL (Nat.zero_le _) Z Z Z Z Z)<|Q3<|Q4<|Q4<|Q0<|rA Z Z Z<|Q5<|Q3<|Ql ?_
 refine QQ 0 (fun (o2:Bool)=>⟨[(3,.v (.one (dB o2)))],[(0,.cells 45 (cE a0))],[],1,32,[]⟩) (fun (o2:Bool)=>(some o2)=some r) ?_ ?_
 refine Qd h0 (fun o3 hl1 h0=>?_)
 refine QP (Xr a0) (fun s1=>⟨[(1,.v (.one (.ptr 0 0))),(3,.v (.one (dB s1.1))),(4,.v (.one (dI s1.2)))],[(0,.cells 45 (cE a0))],[],1,32,[]⟩) ((decide (a0.fixed≤x1)),0) o3 (sL (Nat.zero_le _) Z Z Z Z Z) hl1 (fun s1 n1 oo1 h1 ho1=>?_)
 unfold Xr at h1
 refine Q4<|Q4<|Q0<|rM Z Z Z<|rR Z Z Z (Q2 Js Z)<|rR Z Z Z (Q6 Yd Z Z Z)<|rR Z Z Z (Qx (α:=Ctr) JX Z (.d _))<|rR Z Z Z (Q8 Z Z Z)<|Q5<|Q3 ?_
 refine Qe (b:=(decide (s1.2 < (a0.ctors.length:Int)))) Z (fun c4=>?_) (fun c4=>?_)
 replace h1:=Qf c4 h1
 refine Qj<|Q3<|Q4<|Ql ?_
 refine QD (fun (v5:Bool)=>⟨[(1,.v (.one (.ptr 0 0))),(3,.v (.one (dB v5))),(4,.v (.one (dI s1.2)))],[(0,.cells 45 (cE a0))],[],1,32,[]⟩) (fun (v5:Bool)=>(some (.next (v5,(Ja (s1.2+1)))))=some oo1) ?_ ?_
 refine Qd h1 (fun w2_ h2 h1=>?_)
 refine J4 [] [] JV (by kernel_rfl) (by kernel_rfl) (by kernel_rfl) ?_
 refine RunA.rd Z Z Z (Q1 (Qq Z)) Z ?_
 refine JM (c:=s1.1) Z Z Z (Q1 (Qq Z)) Z (fun c6=>?_) (fun c6=>?_)
 replace h2:=Qf c6 h2
 refine RunA.rd Z Z Z (Q1 (Q2 Js Z)) Z<|RunA.rd Z Z Z (Q1 (Q6 Yd Z Z Z)) Z<|RunA.rd Z Z Z (Q1 (Qq Z)) Z ?_
 refine Qd h2 (fun x7 hx7 h2=>?_)
 refine RunA.rd Z Z Z (Q1 (Qt (α:=Ctr) JX Z (.d _) Z hx7)) Z<|RunA.rd Z Z Z (Q1 (J5 Za Z)) Z<|RunA.rd Z Z Z (Q1 (Jr QR Z Z Z)) Z ?_
 refine Qd h2 (fun x8 hx8 h2=>?_)
 refine RunA.rd Z Z Z (Qh (m84_ok x7.ty x8 hx8) Z (.cons (.agg (.cons (.d _) (.cons (.d _) (.cons (.d _) (.cons (.d _) (.cons (.d _) .nil)))))) .nil)) Z<|RunA.rd Z Z Z (Q1 (Q2 K0 Z)) Z<|RunA.rd Z Z Z (Q1 (Q6 QG Z Z Z)) Z<|RunA.rd Z Z Z (Q1 (Q8 Z Z Z)) Z<|RunA.rd Z Z Z (Q1 (Qc Z Z)) Z<|RunA.rd Z Z Z (Q1 (Jd Z)) Z ?_
 refine RunA.nil ⟨?ex,_,_,Z,?_⟩
 case ex=>exact trivial
 have e:=sI h2;subst e
 exact Q9 (decide (a0.fixed≤x8)) (sL (Nat.zero_le _) Z Z Z Z Z) h1
 replace h2:=Qg c6 h2
 refine RunA.no Z Z Z Z<|RunA.no Z Z Z Z<|RunA.no Z Z Z Z<|RunA.no Z Z Z Z<|RunA.no Z Z Z Z<|RunA.no Z Z Z Z<|RunA.no Z Z Z Z<|RunA.no Z Z Z Z<|RunA.no Z Z Z Z<|RunA.no Z Z Z Z<|RunA.rd Z Z Z (Q1 (Qa Z Z)) Z<|RunA.rd Z Z Z (Q1 (Jd Z)) Z ?_
 refine RunA.nil ⟨?ex,_,_,Z,?_⟩
 case ex=>exact trivial
 have e:=sI h2;subst e
 exact Q9 false (sL (Nat.zero_le _) Z Z Z Z Z) h1
 intro v5 h1
 refine Qk<|Q3<|Q0<|rM Z Z Z<|rR Z Z Z (Q8 Z Z Z)<|rA Z Z Z<|Q5 ?_
 have e:=sI h1;subst e
 refine QJ (v5,(Ja (s1.2+1))) (sL (Nat.zero_le _) Z Z Z Z Z) ho1
 replace h1:=Qg c4 h1
 refine QW<|Qr<|Qr ?_
 have e:=sI h1;subst e
 have e_:_=_:=ho1
 subst e_
 exact QO s1.1 (sL (Nat.zero_le _) Z Z Z Z Z) h0
 intro o2 h0
 refine QF<|Q3<|Q4<|Q0<|rM Z Z Z<|rA Z Z Z<|Q5<|Q3<|Qp ?_
 have e:=sI h0;subst e
 exact Qn (fun _ _ h=>h) Z (Qm Z .nil) (.cons (.one (.d _)) .nil)
def m50_k0 (p0_:Bool) (p1_:Bool) (p2_:Dcl):Option Bool :=
 cond p0_
   (Option.bind (cond p1_
   (some ((p2_.funs.length:Int)==0))
   (some false)) (fun (b0_:Bool)=>some b0_))
   (cond (p2_.kind==3)
   (Option.bind (Option.bind (Dt p2_.value) fun (b1_:Bool) =>
 cond b1_
   (some ((p2_.funs.length:Int)==0))
   (some false)) (fun (b2_:Bool)=>some b2_))
   (Option.bind (cond (p2_.name==([]:List UInt8))
   (Option.bind (Dt p2_.ty) fun (b3_:Bool) =>
 cond b3_
   (Option.bind (Dt p2_.value) fun (b4_:Bool) =>
 cond b4_
   (some p1_)
   (some false))
   (some false))
   (some false)) (fun (b5_:Bool)=>some b5_)))
def Un (p0_:Dcl) (p1_:Bool):Option Bool :=
 cond (p0_.kind==0)
   (Option.bind (Option.bind (Dt p0_.value) fun (b0_:Bool) =>
 cond b0_
   (cond p1_
   (some ((p0_.funs.length:Int)==0))
   (some false))
   (some false)) (fun (b1_:Bool)=>some b1_))
   (Option.bind (cond (p0_.kind==1)
   (some (p0_.kind==1))
   (some (p0_.kind==2))) (fun (b2_:Bool)=>m50_k0 b2_ p1_ p0_))
def m50 (a0:Dcl):Option Bool :=
 Option.bind (cond (a0.rcr.params==0)
   (Option.bind (Dt a0.rcr.ty) fun (x3:Bool) =>
 cond x3
   (some ((a0.rcr.rules.length:Int)==0))
   (some false))
   (some false)) (fun (v1:Bool)=>Option.bind (cond (a0.fixed==0)
   (cond ((a0.ctors.length:Int)==0)
   (some v1)
   (some false))
   (some false)) (fun (v2:Bool)=>Un a0 v2))
theorem m50_ok (a0:Dcl) (r:Bool) (h0:m50 a0=some r):Fun Try.prog 50 [.agg (cE a0)] (QM [.one (dB r)]):=by
 unfold m50 at h0
 refine QB 9 87 Try.func50 Z en_50 Z (lb Z) (fun S w=>?_)
 simp only [J3]
 refine Q4<|Q0<|Qb Z Z (lb Z) (QN Z)<|rA Z Z Z<|Q5<|Q3<|Q4 ?_
 refine QD (fun (v1:Bool)=>⟨[(1,.v (.one (.ptr 0 0))),(3,.v (.one (dB v1)))],[(0,.cells 45 (cE a0))],[],1,87,[]⟩) (fun (v1:Bool)=>(Option.bind (cond (a0.fixed==0)
     (cond ((a0.ctors.length:Int)==0)
     (some v1)
     (some false))
     (some false)) (fun (v2:Bool)=>Un a0 v2))=some r) ?_ ?_
 refine Qd h0 (fun w1_ h1 h0=>?_)
 refine Q0<|rR Z Z Z (Q2 Jo Z)<|rR Z Z Z (Q2 YJ Z)<|rR Z Z Z (Q6 QG Z Z Z)<|rR Z Z Z (Q8 Z Z Z)<|rM Z Z Z ?_
 refine Qw (d:=9) (c:=(a0.rcr.params==0)) Z (fun c2=>?_) (fun c2=>?_)
 replace h1:=Qf c2 h1
 refine rR Z Z Z (Q2 Jo Z)<|rR Z Z Z (Q2 Zq Z)<|rR Z Z Z (Qi QR Z Z Z Z) ?_
 refine Qd h1 (fun x3 hx3 h1=>?_)
 refine Qb Z Z (lb Z) (Qh (WS a0.rcr.ty x3 hx3) Z (.cons (.agg (.cons (.d _) (.cons (.d _) (.cons (.d _) (.cons (.d _) (.cons (.d _) .nil)))))) .nil))<|rR Z Z Z (Qc Z Z)<|rM Z Z Z ?_
 refine Qw (d:=15) (c:=x3) Z (fun c4=>?_) (fun c4=>?_)
 replace h1:=Qf c4 h1
 refine rR Z Z Z (Q2 Jo Z)<|rR Z Z Z (Q2 YZ Z)<|rR Z Z Z (Q6 JH Z Z Z)<|rR Z Z Z (Qx (α:=Tm) Jk Z (.d _))<|rR Z Z Z (Q8 Z Z Z)<|rR Z Z Z (Qc Z Z)<|rA Z Z Z<|Q5 ?_
 have e:=sI h1;subst e
 exact Q9 ((a0.rcr.rules.length:Int)==0) (sL (Nat.zero_le _) Z Z Z Z Z) h0
 replace h1:=Qg c4 h1
 refine Q7 Z Z<|Q7 Z Z<|Q7 Z Z<|Q7 Z Z<|Q7 Z Z<|rR Z Z Z (Qa Z Z)<|rA Z Z Z<|Q5 ?_
 have e:=sI h1;subst e
 exact Q9 false (sL (Nat.zero_le _) Z Z Z Z Z) h0
 replace h1:=Qg c2 h1
 refine Q7 Z Z<|Q7 Z Z<|Q7 Z Z<|Q7 Z Z<|rR Z Z Z (Qa Z Z)<|rM Z Z Z<|Q7 Z Z<|Q7 Z Z<|Q7 Z Z<|Q7 Z Z<|Q7 Z Z<|rR Z Z Z (Qa Z Z)<|rA Z Z Z<|Q5 ?_
 have e:=sI h1;subst e
 exact Q9 false (sL (Nat.zero_le _) Z Z Z Z Z) h0
 intro v1 h0
 refine Q3<|Q4 ?_
 refine QD (fun (v5:Bool)=>⟨[(1,.v (.one (.ptr 0 0))),(4,.v (.one (dB v5)))],[(0,.cells 45 (cE a0))],[],1,87,[]⟩) (fun (v5:Bool)=>(Un a0 v5)=some r) ?_ ?_
 refine Qd h0 (fun w1_ h1 h0=>?_)
 refine Q0<|rR Z Z Z (Q2 K0 Z)<|rR Z Z Z (Q6 QG Z Z Z)<|rR Z Z Z (Q8 Z Z Z)<|rM Z Z Z ?_
 refine Qw (d:=25) (c:=(a0.fixed==0)) Z (fun c6=>?_) (fun c6=>?_)
 replace h1:=Qf c6 h1
 refine rR Z Z Z (Q2 Js Z)<|rR Z Z Z (Q6 Yd Z Z Z)<|rR Z Z Z (Qx (α:=Ctr) JX Z (.d _))<|rR Z Z Z (Q8 Z Z Z)<|rR Z Z Z (Qc Z Z)<|rM Z Z Z ?_
 refine Qw (d:=31) (c:=((a0.ctors.length:Int)==0)) Z (fun c7=>?_) (fun c7=>?_)
 replace h1:=Qf c7 h1
 refine rM Z Z Z<|rR Z Z Z (Qc Z Z)<|rA Z Z Z<|Q5 ?_
 have e:=sI h1;subst e
 exact Q9 v1 (sL (Nat.zero_le _) Z Z Z Z Z) h0
 replace h1:=Qg c7 h1
 refine Q7 Z Z<|rR Z Z Z (Qa Z Z)<|rA Z Z Z<|Q5 ?_
 have e:=sI h1;subst e
 exact Q9 false (sL (Nat.zero_le _) Z Z Z Z Z) h0
 replace h1:=Qg c6 h1
 refine Q7 Z Z<|Q7 Z Z<|Q7 Z Z<|Q7 Z Z<|rR Z Z Z (Qa Z Z)<|rM Z Z Z<|Q7 Z Z<|rR Z Z Z (Qa Z Z)<|rA Z Z Z<|Q5 ?_
 have e:=sI h1;subst e
 exact Q9 false (sL (Nat.zero_le _) Z Z Z Z Z) h0
 intro v5 h0
 unfold Un at h0
 refine Q3<|Q4<|Q4<|Q0<|rR Z Z Z (Q2 JN Z)<|rR Z Z Z (Q6 QG Z Z Z)<|Q5<|Q3<|Ql<|Q4<|Q0<|rR Z Z Z (Q8 Z Z Z)<|rA Z Z Z<|Q5 ?_
 refine Q3 ?_
 refine Qe (b:=(a0.kind==0)) Z (fun c8=>?_) (fun c8=>?_)
 replace h0:=Qf c8 h0
 refine Q4 ?_
 refine QD (fun (v9:Bool)=>⟨[(2,.v (.one (dB v9)))],[(0,.cells 45 (cE a0))],[],1,87,[]⟩) (fun (v9:Bool)=>(some v9)=some r) ?_ ?_
 refine Qd h0 (fun w1_ h1 h0=>?_)
 refine Q0<|rR Z Z Z (Q2 Kk Z)<|rR Z Z Z (Qi QR Z Z Z Z) ?_
 refine Qd h1 (fun x10 hx10 h1=>?_)
 refine Qb Z Z (lb Z) (Qh (WS a0.value x10 hx10) Z (.cons (.agg (.cons (.d _) (.cons (.d _) (.cons (.d _) (.cons (.d _) (.cons (.d _) .nil)))))) .nil))<|rM Z Z Z ?_
 refine Qw (d:=41) (c:=x10) Z (fun c11=>?_) (fun c11=>?_)
 replace h1:=Qf c11 h1
 refine rM Z Z Z<|rR Z Z Z (Qc Z Z)<|rM Z Z Z ?_
 refine Qw (d:=44) (c:=v5) Z (fun c12=>?_) (fun c12=>?_)
 replace h1:=Qf c12 h1
 refine rR Z Z Z (Q2 Jf Z)<|rR Z Z Z (Q6 JU Z Z Z)<|rR Z Z Z (Qx (α:=Fn) JA Z (.d _))<|rR Z Z Z (Q8 Z Z Z)<|rR Z Z Z (Qc Z Z)<|rA Z Z Z<|Q5 ?_
 have e:=sI h1;subst e
 exact Q9 ((a0.funs.length:Int)==0) (sL (Nat.zero_le _) Z Z Z Z Z) h0
 replace h1:=Qg c12 h1
 refine Q7 Z Z<|Q7 Z Z<|Q7 Z Z<|Q7 Z Z<|rR Z Z Z (Qa Z Z)<|rA Z Z Z<|Q5 ?_
 have e:=sI h1;subst e
 exact Q9 false (sL (Nat.zero_le _) Z Z Z Z Z) h0
 replace h1:=Qg c11 h1
 refine Q7 Z Z<|rR Z Z Z (Qa Z Z)<|rM Z Z Z<|Q7 Z Z<|Q7 Z Z<|Q7 Z Z<|Q7 Z Z<|rR Z Z Z (Qa Z Z)<|rA Z Z Z<|Q5 ?_
 have e:=sI h1;subst e
 exact Q9 false (sL (Nat.zero_le _) Z Z Z Z Z) h0
 intro v9 h0
 refine Q3<|Qp ?_
 have e:=sI h0;subst e
 exact Qn (fun _ _ h=>h) Z (Qm Z .nil) (.cons (.one (.d _)) .nil)
 replace h0:=Qg c8 h0
 refine Q4<|Q4<|Q0<|rR Z Z Z (Q8 Z Z Z)<|rA Z Z Z<|Q5<|Q3 ?_
 refine QD (fun (v13:Bool)=>⟨[(1,.v (.one (.ptr 0 0))),(4,.v (.one (dB v5))),(35,.v (.one (dI a0.kind))),(50,.v (.one (dB v13)))],[(0,.cells 45 (cE a0))],[],1,87,[]⟩) (fun (v13:Bool)=>(m50_k0 v13 v5 a0)=some r) ?_ ?_
 refine Qd h0 (fun w1_ h1 h0=>?_)
 refine Qe (b:=(a0.kind==1)) Z (fun c14=>?_) (fun c14=>?_)
 replace h1:=Qf c14 h1
 refine Qj ?_
 have e:=sI h1;subst e
 exact Q9 (a0.kind==1) (sL (Nat.zero_le _) Z Z Z Z Z) h0
 replace h1:=Qg c14 h1
 refine Q0<|rR Z Z Z (Q8 Z Z Z)<|rA Z Z Z<|Q5 ?_
 have e:=sI h1;subst e
 exact Q9 (a0.kind==2) (sL (Nat.zero_le _) Z Z Z Z Z) h0
 intro v13 h0
 unfold m50_k0 at h0
 refine Q3 ?_
 refine Qe (b:=v13) Z (fun c15=>?_) (fun c15=>?_)
 replace h0:=Qf c15 h0
 refine Q4 ?_
 refine QD (fun (v16:Bool)=>⟨[(2,.v (.one (dB v16)))],[(0,.cells 45 (cE a0))],[],1,87,[]⟩) (fun (v16:Bool)=>(some v16)=some r) ?_ ?_
 refine Qd h0 (fun w1_ h1 h0=>?_)
 refine Q0<|rM Z Z Z<|rM Z Z Z ?_
 refine Qw (d:=54) (c:=v5) Z (fun c17=>?_) (fun c17=>?_)
 replace h1:=Qf c17 h1
 refine rR Z Z Z (Q2 Jf Z)<|rR Z Z Z (Q6 JU Z Z Z)<|rR Z Z Z (Qx (α:=Fn) JA Z (.d _))<|rR Z Z Z (Q8 Z Z Z)<|rR Z Z Z (Qc Z Z)<|rA Z Z Z<|Q5 ?_
 have e:=sI h1;subst e
 exact Q9 ((a0.funs.length:Int)==0) (sL (Nat.zero_le _) Z Z Z Z Z) h0
 replace h1:=Qg c17 h1
 refine Q7 Z Z<|Q7 Z Z<|Q7 Z Z<|Q7 Z Z<|rR Z Z Z (Qa Z Z)<|rA Z Z Z<|Q5 ?_
 have e:=sI h1;subst e
 exact Q9 false (sL (Nat.zero_le _) Z Z Z Z Z) h0
 intro v16 h0
 refine Q3<|Qp ?_
 have e:=sI h0;subst e
 exact Qn (fun _ _ h=>h) Z (Qm Z .nil) (.cons (.one (.d _)) .nil)
 replace h0:=Qg c15 h0
 refine Q4<|Q0<|rR Z Z Z (Q8 Z Z Z)<|rA Z Z Z<|Q5<|Q3 ?_
 refine Qe (b:=(a0.kind==3)) Z (fun c18=>?_) (fun c18=>?_)
 replace h0:=Qf c18 h0
 refine Q4 ?_
 refine QD (fun (v19:Bool)=>⟨[(2,.v (.one (dB v19)))],[(0,.cells 45 (cE a0))],[],1,87,[]⟩) (fun (v19:Bool)=>(some v19)=some r) ?_ ?_
 refine Qd h0 (fun w1_ h1 h0=>?_)
 refine Q0<|rR Z Z Z (Q2 Kk Z)<|rR Z Z Z (Qi QR Z Z Z Z) ?_
 refine Qd h1 (fun x20 hx20 h1=>?_)
 refine Qb Z Z (lb Z) (Qh (WS a0.value x20 hx20) Z (.cons (.agg (.cons (.d _) (.cons (.d _) (.cons (.d _) (.cons (.d _) (.cons (.d _) .nil)))))) .nil))<|rM Z Z Z ?_
 refine Qw (d:=65) (c:=x20) Z (fun c21=>?_) (fun c21=>?_)
 replace h1:=Qf c21 h1
 refine rR Z Z Z (Q2 Jf Z)<|rR Z Z Z (Q6 JU Z Z Z)<|rR Z Z Z (Qx (α:=Fn) JA Z (.d _))<|rR Z Z Z (Q8 Z Z Z)<|rR Z Z Z (Qc Z Z)<|rA Z Z Z<|Q5 ?_
 have e:=sI h1;subst e
 exact Q9 ((a0.funs.length:Int)==0) (sL (Nat.zero_le _) Z Z Z Z Z) h0
 replace h1:=Qg c21 h1
 refine Q7 Z Z<|Q7 Z Z<|Q7 Z Z<|Q7 Z Z<|rR Z Z Z (Qa Z Z)<|rA Z Z Z<|Q5 ?_
 have e:=sI h1;subst e
 exact Q9 false (sL (Nat.zero_le _) Z Z Z Z Z) h0
 intro v19 h0
 refine Q3<|Qp ?_
 have e:=sI h0;subst e
 exact Qn (fun _ _ h=>h) Z (Qm Z .nil) (.cons (.one (.d _)) .nil)
 replace h0:=Qg c18 h0
 refine Qj<|Qk<|Q3<|Q4 ?_
 refine QD (fun (v22:Bool)=>⟨[(2,.v (.one (dB v22)))],[(0,.cells 45 (cE a0))],[],1,87,[]⟩) (fun (v22:Bool)=>(some v22)=some r) ?_ ?_
 refine Qd h0 (fun w1_ h1 h0=>?_)
 refine Q0<|rR Z Z Z (Q2 JY Z)<|rR Z Z Z (Q6 JG Z Z Z)<|rR Z Z Z (ZG Z Z)<|rM Z Z Z ?_
 refine Qw (d:=74) (c:=(a0.name==([]:List UInt8))) Z (fun c23=>?_) (fun c23=>?_)
 replace h1:=Qf c23 h1
 refine rR Z Z Z (Q2 Zl Z)<|rR Z Z Z (Qi QR Z Z Z Z) ?_
 refine Qd h1 (fun x24 hx24 h1=>?_)
 refine Qb Z Z (lb Z) (Qh (WS a0.ty x24 hx24) Z (.cons (.agg (.cons (.d _) (.cons (.d _) (.cons (.d _) (.cons (.d _) (.cons (.d _) .nil)))))) .nil))<|rR Z Z Z (Qc Z Z)<|rM Z Z Z ?_
 refine Qw (d:=79) (c:=x24) Z (fun c25=>?_) (fun c25=>?_)
 replace h1:=Qf c25 h1
 refine rR Z Z Z (Q2 Kk Z)<|rR Z Z Z (Qi QR Z Z Z Z) ?_
 refine Qd h1 (fun x26 hx26 h1=>?_)
 refine Qb Z Z (lb Z) (Qh (WS a0.value x26 hx26) Z (.cons (.agg (.cons (.d _) (.cons (.d _) (.cons (.d _) (.cons (.d _) (.cons (.d _) .nil)))))) .nil))<|rR Z Z Z (Qc Z Z)<|rM Z Z Z ?_
 refine Qw (d:=84) (c:=x26) Z (fun c27=>?_) (fun c27=>?_)
 replace h1:=Qf c27 h1
 refine rM Z Z Z<|rR Z Z Z (Qc Z Z)<|rA Z Z Z<|Q5 ?_
 have e:=sI h1;subst e
 exact Q9 v5 (sL (Nat.zero_le _) Z Z Z Z Z) h0
 replace h1:=Qg c27 h1
 refine Q7 Z Z<|rR Z Z Z (Qa Z Z)<|rA Z Z Z<|Q5 ?_
 have e:=sI h1;subst e
 exact Q9 false (sL (Nat.zero_le _) Z Z Z Z Z) h0
 replace h1:=Qg c25 h1
 refine Q7 Z Z<|Q7 Z Z<|Q7 Z Z<|rR Z Z Z (Qa Z Z)<|rM Z Z Z<|Q7 Z Z<|rR Z Z Z (Qa Z Z)<|rA Z Z Z<|Q5 ?_
 have e:=sI h1;subst e
 exact Q9 false (sL (Nat.zero_le _) Z Z Z Z Z) h0
 replace h1:=Qg c23 h1
 refine Q7 Z Z<|Q7 Z Z<|Q7 Z Z<|rR Z Z Z (Qa Z Z)<|rM Z Z Z<|Q7 Z Z<|Q7 Z Z<|Q7 Z Z<|rR Z Z Z (Qa Z Z)<|rM Z Z Z<|Q7 Z Z<|rR Z Z Z (Qa Z Z)<|rA Z Z Z<|Q5 ?_
 have e:=sI h1;subst e
 exact Q9 false (sL (Nat.zero_le _) Z Z Z Z Z) h0
 intro v22 h0
 refine Q3<|Qp ?_
 have e:=sI h0;subst e
 exact Qn (fun _ _ h=>h) Z (Qm Z .nil) (.cons (.one (.d _)) .nil)
def Xw (a0:Dcl) (s1:Int):Option (LO Int (Unit⊕Int)) :=
 cond (decide (s1 < (a0.funs.length:Int)))
   (Option.bind (Option.bind (JP a0.funs s1) fun (x8:Fn) =>
 cond (decide (x8.arity < 1))
   (some true)
   (Option.bind (JP a0.funs s1) fun (x10:Fn) =>
 some (decide (16 < x10.arity)))) (fun (v7:Bool)=>cond v7
   (some (.done (.inr 3)))
   (some (.next (Ja (s1+1))))))
   (some (.done (.inl ())))
def Wh (p0_:Dcl):Option Int :=
 Option.bind (cond (p0_.kind==3)
   (cond (p0_.rcr.params != p0_.params)
   (cond (p0_.rcr.params != (Ja (p0_.params+1)))
   (some true)
   (cond ((p0_.rcr.rules.length:Int) != (p0_.ctors.length:Int))
   (some true)
   (Option.bind (m70 p0_) fun (b0_:Bool) =>
 some (!b0_))))
   (cond ((p0_.rcr.rules.length:Int) != (p0_.ctors.length:Int))
   (some true)
   (Option.bind (m70 p0_) fun (b1_:Bool) =>
 some (!b1_))))
   (some false)) (fun (b2_:Bool)=>cond b2_
   (some 3)
   (some 0))
def Um (p0_:Bool) (p1_:Dcl):Option Int :=
 cond p0_
   (some 2)
   (Option.bind (cond (decide (32 < (p1_.ctors.length:Int)))
   (some true)
   (cond (p1_.kind==4)
   (cond (decide ((p1_.funs.length:Int) < 1))
   (some true)
   (some (decide (8 < (p1_.funs.length:Int)))))
   (some false))) (fun (b0_:Bool)=>cond b0_
   (some 6)
   (Option.bind (QE (Xw p1_) QU 0) (Sum.elim (fun (b1_:Unit)=>Wh p1_) (fun o=>some o)))))
def m51 (a0:Dcl):Option Int :=
 Option.bind (cond (decide (a0.params < 0))
   (some true)
   (cond (decide (8 < a0.params))
   (some true)
   (some (decide (a0.fixed < 0))))) (fun (v1:Bool)=>Um v1 a0)
theorem m51_ok (a0:Dcl) (r:Int) (h0:m51 a0=some r):Fun Try.prog 51 [.agg (cE a0)] (QM [.one (dI r)]):=by
 unfold m51 at h0
 refine QB 9 96 Try.func51 Z en_51 Z (lb Z) (fun S w=>?_)
 simp only [J3]
 refine Q4<|Q0<|Qb Z Z (lb Z) (QN Z)<|rA Z Z Z<|Q5<|Q3<|Q4<|Q4 ?_
 refine QD (fun (v1:Bool)=>⟨[(1,.v (.one (.ptr 0 0))),(16,.v (.one (dB v1)))],[(0,.cells 45 (cE a0))],[],1,96,[]⟩) (fun (v1:Bool)=>(Um v1 a0)=some r) ?_ ?_
 refine Qd h0 (fun w1_ h1 h0=>?_)
 refine Q0<|rR Z Z Z (Q2 Jz Z)<|rR Z Z Z (Q6 QG Z Z Z)<|rR Z Z Z (Q8 Z Z Z)<|rM Z Z Z ?_
 refine Qw (d:=7) (c:=(decide (a0.params < 0))) Z (fun c2=>?_) (fun c2=>?_)
 replace h1:=Qf c2 h1
 refine Q7 Z Z<|Q7 Z Z<|Q7 Z Z<|rR Z Z Z (Qc Z Z)<|rM Z Z Z<|Q7 Z Z<|Q7 Z Z<|Q7 Z Z<|rR Z Z Z (Qc Z Z)<|Q5 ?_
 have e:=sI h1;subst e
 exact Q9 true (sL (Nat.zero_le _) Z Z Z Z Z) h0
 replace h1:=Qg c2 h1
 refine rR Z Z Z (Q2 Jz Z)<|rR Z Z Z (Q6 QG Z Z Z)<|rR Z Z Z (Q8 Z Z Z)<|rR Z Z Z (Qa Z Z)<|rM Z Z Z ?_
 refine Qw (d:=12) (c:=(decide (8 < a0.params))) Z (fun c3=>?_) (fun c3=>?_)
 replace h1:=Qf c3 h1
 refine Q7 Z Z<|Q7 Z Z<|Q7 Z Z<|rR Z Z Z (Qc Z Z)<|Q5 ?_
 have e:=sI h1;subst e
 exact Q9 true (sL (Nat.zero_le _) Z Z Z Z Z) h0
 replace h1:=Qg c3 h1
 refine rR Z Z Z (Q2 K0 Z)<|rR Z Z Z (Q6 QG Z Z Z)<|rR Z Z Z (Q8 Z Z Z)<|rR Z Z Z (Qa Z Z)<|Q5 ?_
 have e:=sI h1;subst e
 exact Q9 (decide (a0.fixed < 0)) (sL (Nat.zero_le _) Z Z Z Z Z) h0
 intro v1 h0
 unfold Um at h0
 refine Q3 ?_
 refine Qe (b:=v1) Z (fun c4=>?_) (fun c4=>?_)
 replace h0:=Qf c4 h0
 refine Q4<|Q0<|rA Z Z Z<|Q5<|Q3<|Qp ?_
 have e:=sI h0;subst e
 exact Qn (fun _ _ h=>h) Z (Qm Z .nil) (.cons (.one (.d _)) .nil)
 replace h0:=Qg c4 h0
 refine Qj<|Q3<|Q4<|Q4 ?_
 refine QD (fun (v5:Bool)=>⟨[(1,.v (.one (.ptr 0 0))),(37,.v (.one (dB v5)))],[(0,.cells 45 (cE a0))],[],1,96,[]⟩) (fun (v5:Bool)=>(cond v5
     (some 6)
     (Option.bind (QE (Xw a0) QU 0) (Sum.elim (fun (o7:Unit)=>Wh a0) (fun o=>some o))))=some r) ?_ ?_
 refine Qd h0 (fun w1_ h1 h0=>?_)
 refine Q0<|rR Z Z Z (Q2 Js Z)<|rR Z Z Z (Q6 Yd Z Z Z)<|rR Z Z Z (Qx (α:=Ctr) JX Z (.d _))<|rR Z Z Z (Q8 Z Z Z)<|rM Z Z Z ?_
 refine Qw (d:=21) (c:=(decide (32 < (a0.ctors.length:Int)))) Z (fun c6=>?_) (fun c6=>?_)
 replace h1:=Qf c6 h1
 refine Q7 Z Z<|Q7 Z Z<|Q7 Z Z<|Q7 Z Z<|Q7 Z Z<|Q7 Z Z<|Q7 Z Z<|Q7 Z Z<|Q7 Z Z<|Q7 Z Z<|Q7 Z Z<|Q7 Z Z<|Q7 Z Z<|Q7 Z Z ?_
 refine Q7 Z Z<|rR Z Z Z (Qc Z Z)<|Q5 ?_
 have e:=sI h1;subst e
 exact Q9 true (sL (Nat.zero_le _) Z Z Z Z Z) h0
 replace h1:=Qg c6 h1
 refine rR Z Z Z (Q2 JN Z)<|rR Z Z Z (Q6 QG Z Z Z)<|rR Z Z Z (Q8 Z Z Z)<|rM Z Z Z ?_
 refine Qw (d:=25) (c:=(a0.kind==4)) Z (fun c7=>?_) (fun c7=>?_)
 replace h1:=Qf c7 h1
 refine rR Z Z Z (Q2 Jf Z)<|rR Z Z Z (Q6 JU Z Z Z)<|rR Z Z Z (Qx (α:=Fn) JA Z (.d _))<|rR Z Z Z (Q8 Z Z Z)<|rM Z Z Z ?_
 refine Qw (d:=30) (c:=(decide ((a0.funs.length:Int) < 1))) Z (fun c8=>?_) (fun c8=>?_)
 replace h1:=Qf c8 h1
 refine Q7 Z Z<|Q7 Z Z<|Q7 Z Z<|Q7 Z Z<|rR Z Z Z (Qc Z Z)<|rR Z Z Z (Qc Z Z)<|rR Z Z Z (Qa Z Z)<|Q5 ?_
 have e:=sI h1;subst e
 exact Q9 true (sL (Nat.zero_le _) Z Z Z Z Z) h0
 replace h1:=Qg c8 h1
 refine rR Z Z Z (Q2 Jf Z)<|rR Z Z Z (Q6 JU Z Z Z)<|rR Z Z Z (Qx (α:=Fn) JA Z (.d _))<|rR Z Z Z (Q8 Z Z Z)<|rR Z Z Z (Qa Z Z)<|rR Z Z Z (Qc Z Z)<|rR Z Z Z (Qa Z Z)<|Q5 ?_
 have e:=sI h1;subst e
 exact Q9 (decide (8 < (a0.funs.length:Int))) (sL (Nat.zero_le _) Z Z Z Z Z) h0
 replace h1:=Qg c7 h1
 refine Q7 Z Z<|Q7 Z Z<|Q7 Z Z<|Q7 Z Z<|Q7 Z Z<|Q7 Z Z<|Q7 Z Z<|Q7 Z Z<|Q7 Z Z<|Q7 Z Z<|rR Z Z Z (Qa Z Z)<|rR Z Z Z (Qa Z Z)<|Q5 ?_
 have e:=sI h1;subst e
 exact Q9 false (sL (Nat.zero_le _) Z Z Z Z Z) h0
 intro v5 h0
 refine Q3 ?_
 refine Qe (b:=v5) Z (fun c9=>?_) (fun c9=>?_)
 replace h0:=Qf c9 h0
 refine Q4<|Q0<|rA Z Z Z<|Q5<|Q3<|Qp ?_
 have e:=sI h0;subst e
 exact Qn (fun _ _ h=>h) Z (Qm Z .nil) (.cons (.one (.d _)) .nil)
 replace h0:=Qg c9 h0
 refine Qj<|Q3<|Q4<|Q4<|Q0<|rA Z Z Z<|Q5<|Q3<|Ql ?_
 refine QQ 0 (fun (o10:Unit)=>⟨[(1,.v (.one (.ptr 0 0)))],[(0,.cells 45 (cE a0))],[],1,96,[]⟩) (fun (o10:Unit)=>(Wh a0)=some r) ?_ ?_
 refine Qd h0 (fun o11 hl1 h0=>?_)
 refine QP (Xw a0) (fun s1=>⟨[(1,.v (.one (.ptr 0 0))),(3,.v (.one (dI s1)))],[(0,.cells 45 (cE a0))],[],1,96,[]⟩) 0 o11 (sL (Nat.zero_le _) Z Z Z Z Z) hl1 (fun s1 n1 oo1 h1 ho1=>?_)
 unfold Xw at h1
 refine Q4<|Q4<|Q0<|rM Z Z Z<|rR Z Z Z (Q2 Jf Z)<|rR Z Z Z (Q6 JU Z Z Z)<|rR Z Z Z (Qx (α:=Fn) JA Z (.d _))<|rR Z Z Z (Q8 Z Z Z)<|Q5<|Q3 ?_
 refine Qe (b:=(decide (s1 < (a0.funs.length:Int)))) Z (fun c12=>?_) (fun c12=>?_)
 replace h1:=Qf c12 h1
 refine Qj<|Q3<|Q4<|Ql<|Q4 ?_
 refine QD (fun (v13:Bool)=>⟨[(1,.v (.one (.ptr 0 0))),(3,.v (.one (dI s1))),(60,.v (.one (dB v13)))],[(0,.cells 45 (cE a0))],[],1,96,[]⟩) (fun (v13:Bool)=>(cond v13
     (some (.done (.inr 3)))
     (some (.next (Ja (s1+1)))))=some oo1) ?_ ?_
 refine Qd h1 (fun w2_ h2 h1=>?_)
 refine Q0<|rR Z Z Z (Q2 Jf Z)<|rR Z Z Z (Q6 JU Z Z Z)<|rM Z Z Z ?_
 refine Qd h2 (fun x14 hx14 h2=>?_)
 refine rR Z Z Z (Qt (α:=Fn) JA Z (.d _) Z hx14)<|rR Z Z Z (J5 KK Z)<|rR Z Z Z (Jj QG Z Z)<|rR Z Z Z (Q8 Z Z Z)<|rM Z Z Z ?_
 refine Qw (d:=52) (c:=(decide (x14.arity < 1))) Z (fun c15=>?_) (fun c15=>?_)
 replace h2:=Qf c15 h2
 refine Q7 Z Z<|Q7 Z Z<|Q7 Z Z<|Q7 Z Z<|Q7 Z Z<|Q7 Z Z<|Q7 Z Z<|rR Z Z Z (Qc Z Z)<|Q5 ?_
 have e:=sI h2;subst e
 exact Q9 true (sL (Nat.zero_le _) Z Z Z Z Z) h1
 replace h2:=Qg c15 h2
 refine rR Z Z Z (Q2 Jf Z)<|rR Z Z Z (Q6 JU Z Z Z)<|rM Z Z Z ?_
 refine Qd h2 (fun x16 hx16 h2=>?_)
 refine rR Z Z Z (Qt (α:=Fn) JA Z (.d _) Z hx16)<|rR Z Z Z (J5 KK Z)<|rR Z Z Z (Jj QG Z Z)<|rR Z Z Z (Q8 Z Z Z)<|rR Z Z Z (Qa Z Z)<|Q5 ?_
 have e:=sI h2;subst e
 exact Q9 (decide (16 < x16.arity)) (sL (Nat.zero_le _) Z Z Z Z Z) h1
 intro v13 h1
 refine Q3 ?_
 refine Qe (b:=v13) Z (fun c17=>?_) (fun c17=>?_)
 replace h1:=Qf c17 h1
 refine Q4<|Q0<|rA Z Z Z<|Q5<|Q3<|Qp ?_
 have e:=sI h1;subst e
 have e_:_=_:=ho1
 subst e_
 try dsimp only [Sum.elim_inl,Sum.elim_inr] at h0
 have e:=sI h0;subst e
 exact Qn (fun _ _ h=>h) Z (Qm Z .nil) (.cons (.one (.d _)) .nil)
 replace h1:=Qg c17 h1
 refine Qj<|Qk<|Q3<|Q0<|rM Z Z Z<|rR Z Z Z (Q8 Z Z Z)<|rA Z Z Z<|Q5 ?_
 have e:=sI h1;subst e
 refine QJ (Ja (s1+1)) (sL (Nat.zero_le _) Z Z Z Z Z) ho1
 replace h1:=Qg c12 h1
 refine QW<|Qr<|Qr ?_
 have e:=sI h1;subst e
 have e_:_=_:=ho1
 subst e_
 exact QO () (sL (Nat.zero_le _) Z Z Z Z Z) h0
 intro o10 h0
 unfold Wh at h0
 refine QF<|Q3<|Q4<|Q4 ?_
 refine QD (fun (v18:Bool)=>⟨[(95,.v (.one (dB v18)))],[(0,.cells 45 (cE a0))],[],1,96,[]⟩) (fun (v18:Bool)=>(cond v18
     (some 3)
     (some 0))=some r) ?_ ?_
 refine Qd h0 (fun w1_ h1 h0=>?_)
 refine Q0<|rR Z Z Z (Q2 JN Z)<|rR Z Z Z (Q6 QG Z Z Z)<|rR Z Z Z (Q8 Z Z Z)<|rM Z Z Z ?_
 refine Qw (d:=64) (c:=(a0.kind==3)) Z (fun c19=>?_) (fun c19=>?_)
 replace h1:=Qf c19 h1
 refine rR Z Z Z (Q2 Jo Z)<|rR Z Z Z (Q2 YJ Z)<|rR Z Z Z (Q6 QG Z Z Z)<|rR Z Z Z (Q2 Jz Z)<|rR Z Z Z (Q6 QG Z Z Z)<|rR Z Z Z (Q8 Z Z Z)<|rM Z Z Z ?_
 refine Qw (d:=71) (c:=(a0.rcr.params != a0.params)) Z (fun c20=>?_) (fun c20=>?_)
 replace h1:=Qf c20 h1
 refine rR Z Z Z (Q2 Jo Z)<|rR Z Z Z (Q2 YJ Z)<|rR Z Z Z (Q6 QG Z Z Z)<|rR Z Z Z (Q2 Jz Z)<|rR Z Z Z (Q6 QG Z Z Z)<|rR Z Z Z (Q8 Z Z Z)<|rR Z Z Z (Q8 Z Z Z)<|rR Z Z Z (Qc Z Z)<|rM Z Z Z ?_
 refine Qw (d:=80) (c:=(a0.rcr.params != (Ja (a0.params+1)))) Z (fun c21=>?_) (fun c21=>?_)
 replace h1:=Qf c21 h1
 refine Q7 Z Z<|Q7 Z Z<|Q7 Z Z<|Q7 Z Z<|Q7 Z Z<|Q7 Z Z<|Q7 Z Z<|Q7 Z Z<|rR Z Z Z (Qc Z Z)<|rM Z Z Z<|Q7 Z Z<|Q7 Z Z<|Q7 Z Z<|rR Z Z Z (Qc Z Z) ?_
 refine rR Z Z Z (Qc Z Z)<|Q5 ?_
 have e:=sI h1;subst e
 exact Q9 true (sL (Nat.zero_le _) Z Z Z Z Z) h0
 replace h1:=Qg c21 h1
 refine rR Z Z Z (Q2 Jo Z)<|rR Z Z Z (Q2 YZ Z)<|rR Z Z Z (Q6 JH Z Z Z)<|rR Z Z Z (Qx (α:=Tm) Jk Z (.d _))<|rR Z Z Z (Q2 Js Z)<|rR Z Z Z (Q6 Yd Z Z Z)<|rR Z Z Z (Qx (α:=Ctr) JX Z (.d _))<|rR Z Z Z (Q8 Z Z Z)<|rR Z Z Z (Qa Z Z)<|rM Z Z Z ?_
 refine Qw (d:=90) (c:=((a0.rcr.rules.length:Int) != (a0.ctors.length:Int))) Z (fun c22=>?_) (fun c22=>?_)
 replace h1:=Qf c22 h1
 refine Q7 Z Z<|Q7 Z Z<|Q7 Z Z<|rR Z Z Z (Qc Z Z)<|rR Z Z Z (Qc Z Z)<|Q5 ?_
 have e:=sI h1;subst e
 exact Q9 true (sL (Nat.zero_le _) Z Z Z Z Z) h0
 replace h1:=Qg c22 h1
 refine rR Z Z Z (QH (a0:Dcl) Jq Z Z) ?_
 refine Qd h1 (fun x23 hx23 h1=>?_)
 refine Qb Z Z (lb Z) (Qh (m70_ok a0 x23 hx23) Z (.cons (.agg (.cons (.d _) (.cons (.d _) (.cons (.d _) (.cons (.d _) (.cons (.d _) (.cons (.d _) (.cons (.d _) (.cons (.d _) (.cons (.d _) (.cons (.d _) (.cons (.d _) (.cons (.d _) (.cons (.d _) (.cons (.d _) (.cons (.d _) (.cons (.d _) (.cons (.d _) (.cons (.d _) (.cons (.d _) (.cons (.d _) (.cons (.d _) (.cons (.d _) (.cons (.d _) .nil)))))))))))))))))))))))) .nil))<|rR Z Z Z (Jc Z)<|rR Z Z Z (Qa Z Z)<|rR Z Z Z (Qc Z Z)<|Q5 ?_
 have e:=sI h1;subst e
 exact Q9 (!x23) (sL (Nat.zero_le _) Z Z Z Z Z) h0
 replace h1:=Qg c20 h1
 refine Q7 Z Z<|Q7 Z Z<|Q7 Z Z<|Q7 Z Z<|Q7 Z Z<|Q7 Z Z<|Q7 Z Z<|rR Z Z Z (Qa Z Z)<|rM Z Z Z<|rR Z Z Z (Q2 Jo Z)<|rR Z Z Z (Q2 YZ Z)<|rR Z Z Z (Q6 JH Z Z Z)<|rR Z Z Z (Qx (α:=Tm) Jk Z (.d _))<|rR Z Z Z (Q2 Js Z) ?_
 refine rR Z Z Z (Q6 Yd Z Z Z)<|rR Z Z Z (Qx (α:=Ctr) JX Z (.d _))<|rR Z Z Z (Q8 Z Z Z)<|rR Z Z Z (Qa Z Z)<|rM Z Z Z ?_
 refine Qw (d:=90) (c:=((a0.rcr.rules.length:Int) != (a0.ctors.length:Int))) Z (fun c24=>?_) (fun c24=>?_)
 replace h1:=Qf c24 h1
 refine Q7 Z Z<|Q7 Z Z<|Q7 Z Z<|rR Z Z Z (Qc Z Z)<|rR Z Z Z (Qc Z Z)<|Q5 ?_
 have e:=sI h1;subst e
 exact Q9 true (sL (Nat.zero_le _) Z Z Z Z Z) h0
 replace h1:=Qg c24 h1
 refine rR Z Z Z (QH (a0:Dcl) Jq Z Z) ?_
 refine Qd h1 (fun x25 hx25 h1=>?_)
 refine Qb Z Z (lb Z) (Qh (m70_ok a0 x25 hx25) Z (.cons (.agg (.cons (.d _) (.cons (.d _) (.cons (.d _) (.cons (.d _) (.cons (.d _) (.cons (.d _) (.cons (.d _) (.cons (.d _) (.cons (.d _) (.cons (.d _) (.cons (.d _) (.cons (.d _) (.cons (.d _) (.cons (.d _) (.cons (.d _) (.cons (.d _) (.cons (.d _) (.cons (.d _) (.cons (.d _) (.cons (.d _) (.cons (.d _) (.cons (.d _) (.cons (.d _) .nil)))))))))))))))))))))))) .nil))<|rR Z Z Z (Jc Z)<|rR Z Z Z (Qa Z Z)<|rR Z Z Z (Qc Z Z)<|Q5 ?_
 have e:=sI h1;subst e
 exact Q9 (!x25) (sL (Nat.zero_le _) Z Z Z Z Z) h0
 replace h1:=Qg c19 h1
 refine Q7 Z Z<|Q7 Z Z<|Q7 Z Z<|Q7 Z Z<|Q7 Z Z<|Q7 Z Z<|Q7 Z Z<|Q7 Z Z<|Q7 Z Z<|Q7 Z Z<|Q7 Z Z<|Q7 Z Z<|Q7 Z Z<|Q7 Z Z ?_
 refine Q7 Z Z<|Q7 Z Z<|Q7 Z Z<|Q7 Z Z<|Q7 Z Z<|Q7 Z Z<|Q7 Z Z<|Q7 Z Z<|Q7 Z Z<|Q7 Z Z<|Q7 Z Z<|Q7 Z Z<|Q7 Z Z<|Q7 Z Z ?_
 refine Q7 Z Z<|Q7 Z Z<|rR Z Z Z (Qa Z Z)<|Q5 ?_
 have e:=sI h1;subst e
 exact Q9 false (sL (Nat.zero_le _) Z Z Z Z Z) h0
 intro v18 h0
 refine Q3 ?_
 refine Qe (b:=v18) Z (fun c26=>?_) (fun c26=>?_)
 replace h0:=Qf c26 h0
 refine Q4<|Q0<|rA Z Z Z<|Q5<|Q3<|Qp ?_
 have e:=sI h0;subst e
 exact Qn (fun _ _ h=>h) Z (Qm Z .nil) (.cons (.one (.d _)) .nil)
 replace h0:=Qg c26 h0
 refine Qj<|Q3<|Q4<|Q0<|rA Z Z Z<|Q5<|Q3<|Qp ?_
 have e:=sI h0;subst e
 exact Qn (fun _ _ h=>h) Z (Qm Z .nil) (.cons (.one (.d _)) .nil)
def m88 (a0:Dcl) (a1:Int):Option Int :=
 Option.bind (JP a0.ctors a1) fun (x1:Ctr) =>
 Option.bind (m101 x1.ty) fun (x2:(List Tm)×Tm) =>
 some (max 0 (Ja ((x2.1.length:Int) - a0.fixed)))
theorem m88_ok (a0:Dcl) (a1:Int) (r:Int) (h0:m88 a0 a1=some r):Fun Try.prog 88 [.agg (cE a0),.one (dI a1)] (QM [.one (dI r)]):=by
 unfold m88 at h0
 refine QB 9 23 Try.func88 Z en_88 Z (lb Z) (fun S w=>?_)
 simp only [J3]
 refine Q4<|Q0<|Qb Z Z (lb Z) (QN Z)<|rA Z Z Z<|Q5<|Q3<|Q4<|Q0<|rR Z Z Z (Q2 Js Z)<|rR Z Z Z (Q6 Yd Z Z Z)<|rM Z Z Z ?_
 refine Qd h0 (fun x1 hx1 h0=>?_)
 refine rR Z Z Z (Qt (α:=Ctr) JX Z (.d _) Z hx1)<|rR Z Z Z (J5 Za Z)<|rR Z Z Z (Jr QR Z Z Z) ?_
 refine Qd h0 (fun x2 hx2 h0=>?_)
 refine Qb Z Z (lb Z) (Qh (m101_ok x1.ty x2 hx2) Z (.cons (.agg (.cons (.d _) (.cons (.d _) (.cons (.d _) (.cons (.d _) (.cons (.d _) .nil)))))) .nil))<|rM Z Z Z<|rR Z Z Z (QX Z Z)<|rR Z Z Z (QX Z Z)<|Qb Z Z (lb Z) (Qv G1 Z)<|rA Z Z Z<|QC Z Z (QA (x2.2:Tm) QR Z Z Z Z Z)<|Q5<|Q3<|Q4<|Q0<|rM Z Z Z<|rR Z Z Z (Qx (α:=Tm) Jk Z (.d _))<|rR Z Z Z (Q2 K0 Z) ?_
 refine rR Z Z Z (Q6 QG Z Z Z)<|rR Z Z Z (Q8 Z Z Z)<|rR Z Z Z (KO Z Z)<|rA Z Z Z<|Q5<|Q3<|Qp ?_
 have e:=sI h0;subst e
 exact Qn (fun _ _ h=>h) Z (Qm Z .nil) (.cons (.one (.d _)) .nil)
def Kb (a1:Tm) (rc:Rsc×Tm→Option Int) (a0:Rsc) (s1:Int):Option (LO Int (Unit⊕Int)) :=
 cond (decide (s1 < (a1.kids.length:Int)))
   (Option.bind (JP a1.kids s1) fun (x10:Tm) =>
 Option.bind (rc (a0,x10)) fun (x11:Int) =>
 cond (x11 != 0)
   (some (.done (.inr x11)))
   (some (.next (Ja (s1+1)))))
   (some (.done (.inl ())))
def Do (rc:Rsc×Tm→Option Int) (a0:Rsc) (a1:Tm):Option Int :=
 cond (a1.kind==3)
   (Option.bind (DG a0.env a1.name) fun (x2:Ent×Int) =>
 cond (x2.2 != 0)
   (Option.bind (Dj a0.own a1.name) fun (x4:Bool) =>
 cond (!x4)
   (some 9)
   (Option.bind (DL a0.d (a0.env.length:Int) a1.name) fun (x6:Ent) =>
 cond ((a1.levels.length:Int) != x6.params)
   (some 15)
   (Option.bind (QE (Kb a1 rc a0) QU 0) (Sum.elim (fun (o8:Unit)=>some 0) (fun o=>some o)))))
   (cond ((a1.levels.length:Int) != x2.1.params)
   (some 15)
   (Option.bind (QE (Kb a1 rc a0) QU 0) (Sum.elim (fun (o15:Unit)=>some 0) (fun o=>some o)))))
   (Option.bind (QE (Kb a1 rc a0) QU 0) (Sum.elim (fun (o21:Unit)=>some 0) (fun o=>some o)))
def Dp (rc:Rsc×Tm→Option Int) (u:Rsc×Tm):Option Int:=Do rc u.1 u.2
def m87 (a0:Rsc) (a1:Tm):Option Int:=JR Dp QU (a0,a1)
theorem m87s_ok (rc:Rsc×Tm→Option Int) (H:∀ (a0:Rsc) (a1:Tm) (r:Int),rc (a0,a1)=some r→Fun Try.prog 87 [.agg (cE a0),.agg (cE a1)] (QM [.one (dI r)])) (a0:Rsc) (a1:Tm) (r:Int) (h0:Do rc a0 a1=some r):Fun Try.prog 87 [.agg (cE a0),.agg (cE a1)] (QM [.one (dI r)]):=by
 unfold Do at h0
 refine QB 9 59 Try.func87 Z en_87 Z (lb Z) (fun S w=>?_)
 simp only [J3]
 refine Q4<|Q0<|Qb Z Z (lb Z) (QN Z)<|Qb Z Z (lb Z) (QN Z)<|rA Z Z Z<|Q5<|Q3<|Q4<|Q4<|Q0<|rR Z Z Z (Q2 JF Z)<|rR Z Z Z (Q6 QG Z Z Z)<|rR Z Z Z (Q8 Z Z Z)<|Q5 ?_
 refine Q3 ?_
 refine Qe (b:=(a1.kind==3)) Z (fun c1=>?_) (fun c1=>?_)
 replace h0:=Qf c1 h0
 refine Q4<|Q0<|rR Z Z Z (Q2 fo_116_0 Z)<|rR Z Z Z (Q6 U8 Z Z Z)<|rR Z Z Z (Q2 Zb Z)<|rR Z Z Z (Q6 JG Z Z Z) ?_
 refine Qd h0 (fun x2 hx2 h0=>?_)
 refine Qb Z Z (lb Z) (Qh (Uq a0.env a1.name x2 hx2) Z (.cons (.one (.d _)) (.cons (.one (.d _)) .nil)))<|rM Z Z Z<|rR Z Z Z (QX Z Z)<|rR Z Z Z (QX Z Z)<|Qb Z Z (lb Z) (Qv Z7 Z)<|QC Z Z (QA (x2.1:Ent) J8 Z Z Z Z Z)<|rA Z Z Z<|Q5<|Q3<|Q4<|Q4<|Q0<|rM Z Z Z<|rR Z Z Z (Q8 Z Z Z) ?_
 refine Q5<|Q3 ?_
 refine Qe (b:=(x2.2 != 0)) Z (fun c3=>?_) (fun c3=>?_)
 replace h0:=Qf c3 h0
 refine Q4<|Q4<|Q0<|rR Z Z Z (Q2 K2 Z)<|rR Z Z Z (Q6 WJ Z Z Z)<|rR Z Z Z (Q2 Zb Z)<|rR Z Z Z (Q6 JG Z Z Z) ?_
 refine Qd h0 (fun x4 hx4 h0=>?_)
 refine Qb Z Z (lb Z) (Qh (m33_ok a0.own a1.name x4 hx4) Z (.cons (.one (.d _)) (.cons (.one (.d _)) .nil)))<|rR Z Z Z (Jc Z)<|Q5<|Q3 ?_
 refine Qe (b:=(!x4)) Z (fun c5=>?_) (fun c5=>?_)
 replace h0:=Qf c5 h0
 refine Q4<|Q0<|rA Z Z Z<|Q5<|Q3<|Qp ?_
 have e:=sI h0;subst e
 exact Qn (fun _ _ h=>h) Z (Qm Z .nil) (.cons (.one (.d _)) .nil)
 replace h0:=Qg c5 h0
 refine Qj<|Q3<|Q0<|rR Z Z Z (Q2 fo_116_2 Z)<|rR Z Z Z (Qi Jq Z Z Z Z)<|rR Z Z Z (Q2 fo_116_0 Z)<|rR Z Z Z (Q6 U8 Z Z Z)<|rR Z Z Z (Qx (α:=Dcl) YE Z (.d _))<|rR Z Z Z (Q2 Zb Z)<|rR Z Z Z (Q6 JG Z Z Z) ?_
 refine Qd h0 (fun x6 hx6 h0=>?_)
 refine Qb Z Z (lb Z) (Qh (m34_ok a0.d (a0.env.length:Int) a1.name x6 hx6) Z (.cons (.agg (.cons (.d _) (.cons (.d _) (.cons (.d _) (.cons (.d _) (.cons (.d _) (.cons (.d _) (.cons (.d _) (.cons (.d _) (.cons (.d _) (.cons (.d _) (.cons (.d _) (.cons (.d _) (.cons (.d _) (.cons (.d _) (.cons (.d _) (.cons (.d _) (.cons (.d _) (.cons (.d _) (.cons (.d _) (.cons (.d _) (.cons (.d _) (.cons (.d _) (.cons (.d _) .nil)))))))))))))))))))))))) (.cons (.one (.d _)) (.cons (.one (.d _)) .nil))))<|QC Z Z (QA (x6:Ent) J8 Z Z Z Z Z)<|Q5<|Q3<|Q4<|Q0<|rR Z Z Z (Q2 Yy Z)<|rR Z Z Z (Q6 K4 Z Z Z)<|rR Z Z Z (Qx (α:=Lvl) YV Z (.d _))<|rR Z Z Z (Q2 XZ Z)<|rR Z Z Z (Q6 QG Z Z Z)<|rR Z Z Z (Q8 Z Z Z)<|Q5<|Q3 ?_
 refine Qe (b:=((a1.levels.length:Int) != x6.params)) Z (fun c7=>?_) (fun c7=>?_)
 replace h0:=Qf c7 h0
 refine Q4<|Q0<|rA Z Z Z<|Q5<|Q3<|Qp ?_
 have e:=sI h0;subst e
 exact Qn (fun _ _ h=>h) Z (Qm Z .nil) (.cons (.one (.d _)) .nil)
 replace h0:=Qg c7 h0
 refine Qj<|Q3<|Q4<|Q4<|Q0<|rA Z Z Z<|Q5<|Q3<|Ql ?_
 refine QQ 0 (fun (o8:Unit)=>⟨[],[(0,.cells 116 (cE a0)),(1,.cells 33 (cE a1)),(2,.cells 35 (cE x6))],[],3,59,[]⟩) (fun (o8:Unit)=>(some 0)=some r) ?_ ?_
 refine Qd h0 (fun o9 hl1 h0=>?_)
 refine QP (Kb a1 rc a0) (fun s1=>⟨[(2,.v (.one (.ptr 0 0))),(3,.v (.one (.ptr 1 0))),(7,.v (.one (dI s1)))],[(0,.cells 116 (cE a0)),(1,.cells 33 (cE a1)),(2,.cells 35 (cE x6))],[],3,59,[]⟩) 0 o9 (sL (Nat.zero_le _) Z Z Z Z Z) hl1 (fun s1 n1 oo1 h1 ho1=>?_)
 unfold Kb at h1
 refine Q4<|Q4<|Q0<|rM Z Z Z<|rR Z Z Z (Q2 Jv Z)<|rR Z Z Z (Q6 JH Z Z Z)<|rR Z Z Z (Qx (α:=Tm) Jk Z (.d _))<|rR Z Z Z (Q8 Z Z Z)<|Q5<|Q3 ?_
 refine Qe (b:=(decide (s1 < (a1.kids.length:Int)))) Z (fun c10=>?_) (fun c10=>?_)
 replace h1:=Qf c10 h1
 refine Qj<|Q3<|Q4<|Ql<|Q4 ?_
 refine J4 [] [] JV (by kernel_rfl) (by kernel_rfl) (by kernel_rfl) ?_
 refine RunA.rd Z Z Z (Q1 (QH (a0:Rsc) Z6 Z Z)) Z<|RunA.rd Z Z Z (Q1 (Q2 Jv Z)) Z<|RunA.rd Z Z Z (Q1 (Q6 JH Z Z Z)) Z<|RunA.rd Z Z Z (Q1 (Qq Z)) Z ?_
 refine Qd h1 (fun x11 hx11 h1=>?_)
 refine RunA.rd Z Z Z (Q1 (Qt (α:=Tm) Jk Z (.d _) Z hx11)) Z<|RunA.rd Z Z Z (Q1 (Qu (x11:Tm) QR Z)) Z ?_
 refine Qd h1 (fun x12 hx12 h1=>?_)
 refine RunA.rd Z Z Z (Qh (H a0 x11 x12 hx12) Z (.cons (.agg (.cons (.d _) (.cons (.d _) (.cons (.d _) (.cons (.d _) (.cons (.d _) (.cons (.d _) (.cons (.d _) (.cons (.d _) (.cons (.d _) (.cons (.d _) (.cons (.d _) (.cons (.d _) (.cons (.d _) (.cons (.d _) (.cons (.d _) (.cons (.d _) (.cons (.d _) (.cons (.d _) (.cons (.d _) (.cons (.d _) (.cons (.d _) (.cons (.d _) (.cons (.d _) (.cons (.d _) (.cons (.d _) .nil)))))))))))))))))))))))))) (.cons (.agg (.cons (.d _) (.cons (.d _) (.cons (.d _) (.cons (.d _) (.cons (.d _) .nil)))))) .nil))) Z<|RunA.rd Z Z Z (Q1 (Jd Z)) Z ?_
 refine RunA.nil ⟨?ex,_,_,Z,?_⟩
 case ex=>exact trivial
 refine Jp (st':=⟨[(2,.v (.one (.ptr 0 0))),(3,.v (.one (.ptr 1 0))),(7,.v (.one (dI s1))),(8,.v (.one (dI x12)))],[(0,.cells 116 (cE a0)),(1,.cells 33 (cE a1)),(2,.cells 35 (cE x6))],[],3,59,[]⟩) (sL (Nat.zero_le _) Z Z Z Z Z)<|Q3<|Q4<|Q0<|rM Z Z Z<|rR Z Z Z (Q8 Z Z Z)<|Q5<|Q3 ?_
 refine Qe (b:=(x12 != 0)) Z (fun c13=>?_) (fun c13=>?_)
 replace h1:=Qf c13 h1
 refine Q4<|Q0<|rM Z Z Z<|rA Z Z Z<|Q5<|Q3<|Qp ?_
 have e:=sI h1;subst e
 have e_:_=_:=ho1
 subst e_
 try dsimp only [Sum.elim_inl,Sum.elim_inr] at h0
 have e:=sI h0;subst e
 exact Qn (fun _ _ h=>h) Z (Qm Z .nil) (.cons (.one (.d _)) .nil)
 replace h1:=Qg c13 h1
 refine Qj<|Qk<|Q3<|Q0<|rM Z Z Z<|rR Z Z Z (Q8 Z Z Z)<|rA Z Z Z<|Q5 ?_
 have e:=sI h1;subst e
 refine QJ (Ja (s1+1)) (sL (Nat.zero_le _) Z Z Z Z Z) ho1
 replace h1:=Qg c10 h1
 refine QW<|Qr<|Qr ?_
 have e:=sI h1;subst e
 have e_:_=_:=ho1
 subst e_
 exact QO () (sL (Nat.zero_le _) Z Z Z Z Z) h0
 intro o8 h0
 refine QF<|Q3<|Q4<|Q0<|rA Z Z Z<|Q5<|Q3<|Qp ?_
 have e:=sI h0;subst e
 exact Qn (fun _ _ h=>h) Z (Qm Z .nil) (.cons (.one (.d _)) .nil)
 replace h0:=Qg c3 h0
 refine Qj<|Q3<|Q4<|Q0<|rR Z Z Z (Q2 Yy Z)<|rR Z Z Z (Q6 K4 Z Z Z)<|rR Z Z Z (Qx (α:=Lvl) YV Z (.d _))<|rR Z Z Z (Q2 XZ Z)<|rR Z Z Z (Q6 QG Z Z Z)<|rR Z Z Z (Q8 Z Z Z)<|Q5<|Q3 ?_
 refine Qe (b:=((a1.levels.length:Int) != x2.1.params)) Z (fun c14=>?_) (fun c14=>?_)
 replace h0:=Qf c14 h0
 refine Q4<|Q0<|rA Z Z Z<|Q5<|Q3<|Qp ?_
 have e:=sI h0;subst e
 exact Qn (fun _ _ h=>h) Z (Qm Z .nil) (.cons (.one (.d _)) .nil)
 replace h0:=Qg c14 h0
 refine Qj<|Q3<|Q4<|Q4<|Q0<|rA Z Z Z<|Q5<|Q3<|Ql ?_
 refine QQ 0 (fun (o15:Unit)=>⟨[],[(0,.cells 116 (cE a0)),(1,.cells 33 (cE a1)),(2,.cells 35 (cE x2.1))],[],3,59,[]⟩) (fun (o15:Unit)=>(some 0)=some r) ?_ ?_
 refine Qd h0 (fun o16 hl1 h0=>?_)
 refine QP (Kb a1 rc a0) (fun s1=>⟨[(2,.v (.one (.ptr 0 0))),(3,.v (.one (.ptr 1 0))),(7,.v (.one (dI s1)))],[(0,.cells 116 (cE a0)),(1,.cells 33 (cE a1)),(2,.cells 35 (cE x2.1))],[],3,59,[]⟩) 0 o16 (sL (Nat.zero_le _) Z Z Z Z Z) hl1 (fun s1 n1 oo1 h1 ho1=>?_)
 unfold Kb at h1
 refine Q4<|Q4<|Q0<|rM Z Z Z<|rR Z Z Z (Q2 Jv Z)<|rR Z Z Z (Q6 JH Z Z Z)<|rR Z Z Z (Qx (α:=Tm) Jk Z (.d _))<|rR Z Z Z (Q8 Z Z Z)<|Q5<|Q3 ?_
 refine Qe (b:=(decide (s1 < (a1.kids.length:Int)))) Z (fun c17=>?_) (fun c17=>?_)
 replace h1:=Qf c17 h1
 refine Qj<|Q3<|Q4<|Ql<|Q4 ?_
 refine J4 [] [] JV (by kernel_rfl) (by kernel_rfl) (by kernel_rfl) ?_
 refine RunA.rd Z Z Z (Q1 (QH (a0:Rsc) Z6 Z Z)) Z<|RunA.rd Z Z Z (Q1 (Q2 Jv Z)) Z<|RunA.rd Z Z Z (Q1 (Q6 JH Z Z Z)) Z<|RunA.rd Z Z Z (Q1 (Qq Z)) Z ?_
 refine Qd h1 (fun x18 hx18 h1=>?_)
 refine RunA.rd Z Z Z (Q1 (Qt (α:=Tm) Jk Z (.d _) Z hx18)) Z<|RunA.rd Z Z Z (Q1 (Qu (x18:Tm) QR Z)) Z ?_
 refine Qd h1 (fun x19 hx19 h1=>?_)
 refine RunA.rd Z Z Z (Qh (H a0 x18 x19 hx19) Z (.cons (.agg (.cons (.d _) (.cons (.d _) (.cons (.d _) (.cons (.d _) (.cons (.d _) (.cons (.d _) (.cons (.d _) (.cons (.d _) (.cons (.d _) (.cons (.d _) (.cons (.d _) (.cons (.d _) (.cons (.d _) (.cons (.d _) (.cons (.d _) (.cons (.d _) (.cons (.d _) (.cons (.d _) (.cons (.d _) (.cons (.d _) (.cons (.d _) (.cons (.d _) (.cons (.d _) (.cons (.d _) (.cons (.d _) .nil)))))))))))))))))))))))))) (.cons (.agg (.cons (.d _) (.cons (.d _) (.cons (.d _) (.cons (.d _) (.cons (.d _) .nil)))))) .nil))) Z<|RunA.rd Z Z Z (Q1 (Jd Z)) Z ?_
 refine RunA.nil ⟨?ex,_,_,Z,?_⟩
 case ex=>exact trivial
 refine Jp (st':=⟨[(2,.v (.one (.ptr 0 0))),(3,.v (.one (.ptr 1 0))),(7,.v (.one (dI s1))),(8,.v (.one (dI x19)))],[(0,.cells 116 (cE a0)),(1,.cells 33 (cE a1)),(2,.cells 35 (cE x2.1))],[],3,59,[]⟩) (sL (Nat.zero_le _) Z Z Z Z Z)<|Q3<|Q4<|Q0<|rM Z Z Z<|rR Z Z Z (Q8 Z Z Z)<|Q5<|Q3 ?_
 refine Qe (b:=(x19 != 0)) Z (fun c20=>?_) (fun c20=>?_)
 replace h1:=Qf c20 h1
 refine Q4<|Q0<|rM Z Z Z<|rA Z Z Z<|Q5<|Q3<|Qp ?_
 have e:=sI h1;subst e
 have e_:_=_:=ho1
 subst e_
 try dsimp only [Sum.elim_inl,Sum.elim_inr] at h0
 have e:=sI h0;subst e
 exact Qn (fun _ _ h=>h) Z (Qm Z .nil) (.cons (.one (.d _)) .nil)
 replace h1:=Qg c20 h1
 refine Qj<|Qk<|Q3<|Q0<|rM Z Z Z<|rR Z Z Z (Q8 Z Z Z)<|rA Z Z Z<|Q5 ?_
 have e:=sI h1;subst e
 refine QJ (Ja (s1+1)) (sL (Nat.zero_le _) Z Z Z Z Z) ho1
 replace h1:=Qg c17 h1
 refine QW<|Qr<|Qr ?_
 have e:=sI h1;subst e
 have e_:_=_:=ho1
 subst e_
 exact QO () (sL (Nat.zero_le _) Z Z Z Z Z) h0
 intro o15 h0
 refine QF<|Q3<|Q4<|Q0<|rA Z Z Z<|Q5<|Q3<|Qp ?_
 have e:=sI h0;subst e
 exact Qn (fun _ _ h=>h) Z (Qm Z .nil) (.cons (.one (.d _)) .nil)
 replace h0:=Qg c1 h0
 refine Qj<|Q3<|Q4<|Q4<|Q0<|rA Z Z Z<|Q5<|Q3<|Ql ?_
 refine QQ 0 (fun (o21:Unit)=>⟨[],[(0,.cells 116 (cE a0)),(1,.cells 33 (cE a1))],[],2,59,[]⟩) (fun (o21:Unit)=>(some 0)=some r) ?_ ?_
 refine Qd h0 (fun o22 hl1 h0=>?_)
 refine QP (Kb a1 rc a0) (fun s1=>⟨[(2,.v (.one (.ptr 0 0))),(3,.v (.one (.ptr 1 0))),(7,.v (.one (dI s1)))],[(0,.cells 116 (cE a0)),(1,.cells 33 (cE a1))],[],2,59,[]⟩) 0 o22 (sL (Nat.zero_le _) Z Z Z Z Z) hl1 (fun s1 n1 oo1 h1 ho1=>?_)
 unfold Kb at h1
 refine Q4<|Q4<|Q0<|rM Z Z Z<|rR Z Z Z (Q2 Jv Z)<|rR Z Z Z (Q6 JH Z Z Z)<|rR Z Z Z (Qx (α:=Tm) Jk Z (.d _))<|rR Z Z Z (Q8 Z Z Z)<|Q5<|Q3 ?_
 refine Qe (b:=(decide (s1 < (a1.kids.length:Int)))) Z (fun c23=>?_) (fun c23=>?_)
 replace h1:=Qf c23 h1
 refine Qj<|Q3<|Q4<|Ql<|Q4 ?_
 refine J4 [] [] JV (by kernel_rfl) (by kernel_rfl) (by kernel_rfl) ?_
 refine RunA.rd Z Z Z (Q1 (QH (a0:Rsc) Z6 Z Z)) Z<|RunA.rd Z Z Z (Q1 (Q2 Jv Z)) Z<|RunA.rd Z Z Z (Q1 (Q6 JH Z Z Z)) Z<|RunA.rd Z Z Z (Q1 (Qq Z)) Z ?_
 refine Qd h1 (fun x24 hx24 h1=>?_)
 refine RunA.rd Z Z Z (Q1 (Qt (α:=Tm) Jk Z (.d _) Z hx24)) Z<|RunA.rd Z Z Z (Q1 (Qu (x24:Tm) QR Z)) Z ?_
 refine Qd h1 (fun x25 hx25 h1=>?_)
 refine RunA.rd Z Z Z (Qh (H a0 x24 x25 hx25) Z (.cons (.agg (.cons (.d _) (.cons (.d _) (.cons (.d _) (.cons (.d _) (.cons (.d _) (.cons (.d _) (.cons (.d _) (.cons (.d _) (.cons (.d _) (.cons (.d _) (.cons (.d _) (.cons (.d _) (.cons (.d _) (.cons (.d _) (.cons (.d _) (.cons (.d _) (.cons (.d _) (.cons (.d _) (.cons (.d _) (.cons (.d _) (.cons (.d _) (.cons (.d _) (.cons (.d _) (.cons (.d _) (.cons (.d _) .nil)))))))))))))))))))))))))) (.cons (.agg (.cons (.d _) (.cons (.d _) (.cons (.d _) (.cons (.d _) (.cons (.d _) .nil)))))) .nil))) Z<|RunA.rd Z Z Z (Q1 (Jd Z)) Z ?_
 refine RunA.nil ⟨?ex,_,_,Z,?_⟩
 case ex=>exact trivial
 refine Jp (st':=⟨[(2,.v (.one (.ptr 0 0))),(3,.v (.one (.ptr 1 0))),(7,.v (.one (dI s1))),(8,.v (.one (dI x25)))],[(0,.cells 116 (cE a0)),(1,.cells 33 (cE a1))],[],2,59,[]⟩) (sL (Nat.zero_le _) Z Z Z Z Z)<|Q3<|Q4<|Q0<|rM Z Z Z<|rR Z Z Z (Q8 Z Z Z)<|Q5<|Q3 ?_
 refine Qe (b:=(x25 != 0)) Z (fun c26=>?_) (fun c26=>?_)
 replace h1:=Qf c26 h1
 refine Q4<|Q0<|rM Z Z Z<|rA Z Z Z<|Q5<|Q3<|Qp ?_
 have e:=sI h1;subst e
 have e_:_=_:=ho1
 subst e_
 try dsimp only [Sum.elim_inl,Sum.elim_inr] at h0
 have e:=sI h0;subst e
 exact Qn (fun _ _ h=>h) Z (Qm Z .nil) (.cons (.one (.d _)) .nil)
 replace h1:=Qg c26 h1
 refine Qj<|Qk<|Q3<|Q0<|rM Z Z Z<|rR Z Z Z (Q8 Z Z Z)<|rA Z Z Z<|Q5 ?_
 have e:=sI h1;subst e
 refine QJ (Ja (s1+1)) (sL (Nat.zero_le _) Z Z Z Z Z) ho1
 replace h1:=Qg c23 h1
 refine QW<|Qr<|Qr ?_
 have e:=sI h1;subst e
 have e_:_=_:=ho1
 subst e_
 exact QO () (sL (Nat.zero_le _) Z Z Z Z Z) h0
 intro o21 h0
 refine QF<|Q3<|Q4<|Q0<|rA Z Z Z<|Q5<|Q3<|Qp ?_
 have e:=sI h0;subst e
 exact Qn (fun _ _ h=>h) Z (Qm Z .nil) (.cons (.one (.d _)) .nil)
theorem m87_all (n:Nat) (u:Rsc×Tm) (r:Int) (h0:JR Dp n u=some r):Fun Try.prog 87 [.agg (cE u.1),.agg (cE u.2)] (QM [.one (dI r)]) :=
 YN (C:=fun u r=>Fun Try.prog 87 [.agg (cE u.1),.agg (cE u.2)] (QM [.one (dI r)])) (fun rc H u r h=>m87s_ok rc (fun a0 a1 r h=>H (a0,a1) r h) u.1 u.2 r h) n u r h0
theorem m87_ok (a0:Rsc) (a1:Tm) (r:Int) (h0:m87 a0 a1=some r):Fun Try.prog 87 [.agg (cE a0),.agg (cE a1)] (QM [.one (dI r)]):=m87_all QU (a0,a1) r h0
def Df (a0:Rsc) (a1:Tm) (a2:Int) (a3:Int):Option Int :=
 Option.bind (m86 a1 a2 a3 0 0) fun (x1:Int) =>
 cond (x1 != 0)
   (some x1)
   (Option.bind (m87 a0 a1) fun (x3:Int) =>
 some x3)
theorem Kz (a0:Rsc) (a1:Tm) (a2:Int) (a3:Int) (r:Int) (h0:Df a0 a1 a2 a3=some r):Fun Try.prog 72 [.agg (cE a0),.agg (cE a1),.one (dI a2),.one (dI a3)] (QM [.one (dI r)]):=by
 unfold Df at h0
 refine QB 9 20 Try.func72 Z en_72 Z (lb Z) (fun S w=>?_)
 simp only [J3]
 refine Q4<|Q0<|Qb Z Z (lb Z) (QN Z)<|Qb Z Z (lb Z) (QN Z)<|rA Z Z Z<|Q5<|Q3<|Q4<|Q4<|Q0<|rR Z Z Z (QH (a1:Tm) QR Z Z)<|rM Z Z Z<|rM Z Z Z ?_
 refine Qd h0 (fun x1 hx1 h0=>?_)
 refine Qb Z Z (lb Z) (Qh (m86_ok a1 a2 a3 0 0 x1 hx1) Z (.cons (.agg (.cons (.d _) (.cons (.d _) (.cons (.d _) (.cons (.d _) (.cons (.d _) .nil)))))) (.cons (.one (.d _)) (.cons (.one (.d _)) (.cons (.one (.d _)) (.cons (.one (.d _)) .nil))))))<|rA Z Z Z<|Q5<|Q3<|Q4<|Q0<|rM Z Z Z<|rR Z Z Z (Q8 Z Z Z)<|Q5<|Q3 ?_
 refine Qe (b:=(x1 != 0)) Z (fun c2=>?_) (fun c2=>?_)
 replace h0:=Qf c2 h0
 refine Q4<|Q0<|rM Z Z Z<|rA Z Z Z<|Q5<|Q3<|Qp ?_
 have e:=sI h0;subst e
 exact Qn (fun _ _ h=>h) Z (Qm Z .nil) (.cons (.one (.d _)) .nil)
 replace h0:=Qg c2 h0
 refine Qj<|Q3<|Q4<|Q0<|rR Z Z Z (QH (a0:Rsc) Z6 Z Z)<|rR Z Z Z (QH (a1:Tm) QR Z Z) ?_
 refine Qd h0 (fun x3 hx3 h0=>?_)
 refine Qb Z Z (lb Z) (Qh (m87_ok a0 a1 x3 hx3) Z (.cons (.agg (.cons (.d _) (.cons (.d _) (.cons (.d _) (.cons (.d _) (.cons (.d _) (.cons (.d _) (.cons (.d _) (.cons (.d _) (.cons (.d _) (.cons (.d _) (.cons (.d _) (.cons (.d _) (.cons (.d _) (.cons (.d _) (.cons (.d _) (.cons (.d _) (.cons (.d _) (.cons (.d _) (.cons (.d _) (.cons (.d _) (.cons (.d _) (.cons (.d _) (.cons (.d _) (.cons (.d _) (.cons (.d _) .nil)))))))))))))))))))))))))) (.cons (.agg (.cons (.d _) (.cons (.d _) (.cons (.d _) (.cons (.d _) (.cons (.d _) .nil)))))) .nil)))<|rA Z Z Z<|Q5<|Q3<|Qp ?_
 have e:=sI h0;subst e
 exact Qn (fun _ _ h=>h) Z (Qm Z .nil) (.cons (.one (.d _)) .nil)
def m73_k0 (p0_:Bool) (p1_:Br) (p2_:Int) (p3_:Rsc) (p4_:Ent×Int) (p5_:Rsc×Tr×Int×Int→Option Int) (p6_:Int) (p7_:Int):Option (LO Int (Unit⊕Int)) :=
 cond p0_
   (some (.done (.inr 9)))
   (cond p1_.absurd
   (Option.bind (DS p1_.tree (Tr.mk 0 (Tm.mk 0 0 ([]:List UInt8) ([]:List Lvl) ([]:List Tm)) 0 ([]:List Br))) fun (b0_:Bool) =>
 cond (!b0_)
   (some (.done (.inr 3)))
   (some (.next (Ja (p2_+1)))))
   (Option.bind (JP p3_.env p4_.1.decl) fun (b1_:Dcl) =>
 Option.bind (m88 b1_ p4_.1.item) fun (b2_:Int) =>
 Option.bind (p5_ (p3_,p1_.tree,(Ja (p6_+b2_)),(Ja (p7_+1)))) fun (b3_:Int) =>
 cond (b3_ != 0)
   (some (.done (.inr b3_)))
   (some (.next (Ja (p2_+1))))))
def We (a1:Tr) (a0:Rsc) (rc:Rsc×Tr×Int×Int→Option Int) (a2:Int) (a3:Int) (s1:Int):Option (LO Int (Unit⊕Int)) :=
 cond (decide (s1 < (a1.branches.length:Int)))
   (Option.bind (JP a1.branches s1) fun (x15:Br) =>
 Option.bind (DG a0.env x15.ctor) fun (x16:Ent×Int) =>
 Option.bind (cond (x16.2 != 0)
   (some true)
   (some (x16.1.kind != 4))) (fun (v17:Bool)=>m73_k0 v17 x15 s1 a0 x16 rc a2 a3))
   (some (.done (.inl ())))
def Dr (rc:Rsc×Tr×Int×Int→Option Int) (a0:Rsc) (a1:Tr) (a2:Int) (a3:Int):Option Int :=
 cond (decide (200≤a3))
   (some 7)
   (cond (a1.kind==0)
   (Option.bind (cond (a1.var != 0)
   (some true)
   (some (decide (0 < (a1.branches.length:Int))))) (fun (v3:Bool)=>cond v3
   (some 3)
   (Option.bind (Df a0 a1.body a2 a0.d.params) fun (x5:Int) =>
 some x5)))
   (cond (a1.kind==1)
   (Option.bind (Dt a1.body) fun (x8:Bool) =>
 cond (!x8)
   (some 3)
   (Option.bind (cond (decide (a1.var < 0))
   (some true)
   (some (decide (a2≤a1.var)))) (fun (v10:Bool)=>cond v10
   (some 24)
   (cond (decide (32 < (a1.branches.length:Int)))
   (some 6)
   (Option.bind (QE (We a1 a0 rc a2 a3) QU 0) (Sum.elim (fun (o13:Unit)=>some 0) (fun o=>some o)))))))
   (some 3)))
def Ds (rc:Rsc×Tr×Int×Int→Option Int) (u:Rsc×Tr×Int×Int):Option Int:=Dr rc u.1 u.2.1 u.2.2.1 u.2.2.2
def m73 (a0:Rsc) (a1:Tr) (a2:Int) (a3:Int):Option Int:=JR Ds QU (a0,a1,a2,a3)
theorem m73s_ok (rc:Rsc×Tr×Int×Int→Option Int) (H:∀ (a0:Rsc) (a1:Tr) (a2:Int) (a3:Int) (r:Int),rc (a0,a1,a2,a3)=some r→Fun Try.prog 73 [.agg (cE a0),.agg (cE a1),.one (dI a2),.one (dI a3)] (QM [.one (dI r)])) (a0:Rsc) (a1:Tr) (a2:Int) (a3:Int) (r:Int) (h0:Dr rc a0 a1 a2 a3=some r):Fun Try.prog 73 [.agg (cE a0),.agg (cE a1),.one (dI a2),.one (dI a3)] (QM [.one (dI r)]):=by
 unfold Dr at h0
 refine QB 9 110 Try.func73 Z en_73 Z (lb Z) (fun S w=>?_)
 simp only [J3]
 refine Q4<|Q0<|Qb Z Z (lb Z) (QN Z)<|Qb Z Z (lb Z) (QN Z)<|rA Z Z Z<|Q5<|Q3<|Q4<|Q4<|Q0<|rM Z Z Z<|rR Z Z Z (Q8 Z Z Z)<|Q5<|Q3 ?_
 refine Qe (b:=(decide (200≤a3))) Z (fun c1=>?_) (fun c1=>?_)
 replace h0:=Qf c1 h0
 refine Q4<|Q0<|rA Z Z Z<|Q5<|Q3<|Qp ?_
 have e:=sI h0;subst e
 exact Qn (fun _ _ h=>h) Z (Qm Z .nil) (.cons (.one (.d _)) .nil)
 replace h0:=Qg c1 h0
 refine Qj<|Q3<|Q4<|Q4<|Q0<|rR Z Z Z (Q2 XY Z)<|rR Z Z Z (Q6 QG Z Z Z)<|Q5<|Q3<|Ql<|Q4<|Q0<|rR Z Z Z (Q8 Z Z Z)<|rA Z Z Z ?_
 refine Q5<|Q3 ?_
 refine Qe (b:=(a1.kind==0)) Z (fun c2=>?_) (fun c2=>?_)
 replace h0:=Qf c2 h0
 refine Q4<|Q4 ?_
 refine QD (fun (v3:Bool)=>⟨[(2,.v (.one (dI a2))),(4,.v (.one (.ptr 0 0))),(5,.v (.one (.ptr 1 0))),(28,.v (.one (dB v3)))],[(0,.cells 116 (cE a0)),(1,.cells 74 (cE a1))],[],2,110,[]⟩) (fun (v3:Bool)=>(cond v3
     (some 3)
     (Option.bind (Df a0 a1.body a2 a0.d.params) fun (x5:Int) =>
   some x5))=some r) ?_ ?_
 refine Qd h0 (fun w1_ h1 h0=>?_)
 refine Q0<|rR Z Z Z (Q2 KL Z)<|rR Z Z Z (Q6 QG Z Z Z)<|rR Z Z Z (Q8 Z Z Z)<|rM Z Z Z ?_
 refine Qw (d:=23) (c:=(a1.var != 0)) Z (fun c4=>?_) (fun c4=>?_)
 replace h1:=Qf c4 h1
 refine Q7 Z Z<|Q7 Z Z<|Q7 Z Z<|Q7 Z Z<|rR Z Z Z (Qc Z Z)<|Q5 ?_
 have e:=sI h1;subst e
 exact Q9 true (sL (Nat.zero_le _) Z Z Z Z Z) h0
 replace h1:=Qg c4 h1
 refine rR Z Z Z (Q2 Yc Z)<|rR Z Z Z (Q6 Zm Z Z Z)<|rR Z Z Z (Qx (α:=Br) Zc Z (.d _))<|rR Z Z Z (Q8 Z Z Z)<|rR Z Z Z (Qa Z Z)<|Q5 ?_
 have e:=sI h1;subst e
 exact Q9 (decide (0 < (a1.branches.length:Int))) (sL (Nat.zero_le _) Z Z Z Z Z) h0
 intro v3 h0
 refine Q3 ?_
 refine Qe (b:=v3) Z (fun c5=>?_) (fun c5=>?_)
 replace h0:=Qf c5 h0
 refine Q4<|Q0<|rA Z Z Z<|Q5<|Q3<|Qp ?_
 have e:=sI h0;subst e
 exact Qn (fun _ _ h=>h) Z (Qm Z .nil) (.cons (.one (.d _)) .nil)
 replace h0:=Qg c5 h0
 refine Qj<|Q3<|Q4<|Q0<|rR Z Z Z (QH (a0:Rsc) Z6 Z Z)<|rR Z Z Z (Q2 Gw Z)<|rR Z Z Z (Qi QR Z Z Z Z)<|rM Z Z Z<|rR Z Z Z (Q2 fo_116_2 Z)<|rR Z Z Z (Q2 Jz Z)<|rR Z Z Z (Q6 QG Z Z Z) ?_
 refine Qd h0 (fun x6 hx6 h0=>?_)
 refine Qb Z Z (lb Z) (Qh (Kz a0 a1.body a2 a0.d.params x6 hx6) Z (.cons (.agg (.cons (.d _) (.cons (.d _) (.cons (.d _) (.cons (.d _) (.cons (.d _) (.cons (.d _) (.cons (.d _) (.cons (.d _) (.cons (.d _) (.cons (.d _) (.cons (.d _) (.cons (.d _) (.cons (.d _) (.cons (.d _) (.cons (.d _) (.cons (.d _) (.cons (.d _) (.cons (.d _) (.cons (.d _) (.cons (.d _) (.cons (.d _) (.cons (.d _) (.cons (.d _) (.cons (.d _) (.cons (.d _) .nil)))))))))))))))))))))))))) (.cons (.agg (.cons (.d _) (.cons (.d _) (.cons (.d _) (.cons (.d _) (.cons (.d _) .nil)))))) (.cons (.one (.d _)) (.cons (.one (.d _)) .nil)))))<|rA Z Z Z<|Q5<|Q3<|Qp ?_
 have e:=sI h0;subst e
 exact Qn (fun _ _ h=>h) Z (Qm Z .nil) (.cons (.one (.d _)) .nil)
 replace h0:=Qg c2 h0
 refine Q4<|Q0<|rR Z Z Z (Q8 Z Z Z)<|rA Z Z Z<|Q5<|Q3 ?_
 refine Qe (b:=(a1.kind==1)) Z (fun c7=>?_) (fun c7=>?_)
 replace h0:=Qf c7 h0
 refine Q4<|Q0<|rR Z Z Z (Q2 Gw Z)<|rR Z Z Z (Qi QR Z Z Z Z) ?_
 refine Qd h0 (fun x8 hx8 h0=>?_)
 refine Qb Z Z (lb Z) (Qh (WS a1.body x8 hx8) Z (.cons (.agg (.cons (.d _) (.cons (.d _) (.cons (.d _) (.cons (.d _) (.cons (.d _) .nil)))))) .nil))<|rR Z Z Z (Jc Z)<|Q5<|Q3 ?_
 refine Qe (b:=(!x8)) Z (fun c9=>?_) (fun c9=>?_)
 replace h0:=Qf c9 h0
 refine Q4<|Q0<|rA Z Z Z<|Q5<|Q3<|Qp ?_
 have e:=sI h0;subst e
 exact Qn (fun _ _ h=>h) Z (Qm Z .nil) (.cons (.one (.d _)) .nil)
 replace h0:=Qg c9 h0
 refine Qj<|Qk<|Q3<|Q4<|Q4 ?_
 refine QD (fun (v10:Bool)=>⟨[(2,.v (.one (dI a2))),(3,.v (.one (dI a3))),(4,.v (.one (.ptr 0 0))),(5,.v (.one (.ptr 1 0))),(51,.v (.one (dB v10)))],[(0,.cells 116 (cE a0)),(1,.cells 74 (cE a1))],[],2,110,[]⟩) (fun (v10:Bool)=>(cond v10
     (some 24)
     (cond (decide (32 < (a1.branches.length:Int)))
     (some 6)
     (Option.bind (QE (We a1 a0 rc a2 a3) QU 0) (Sum.elim (fun (o13:Unit)=>some 0) (fun o=>some o)))))=some r) ?_ ?_
 refine Qd h0 (fun w1_ h1 h0=>?_)
 refine Q0<|rR Z Z Z (Q2 KL Z)<|rR Z Z Z (Q6 QG Z Z Z)<|rR Z Z Z (Q8 Z Z Z)<|rM Z Z Z ?_
 refine Qw (d:=46) (c:=(decide (a1.var < 0))) Z (fun c11=>?_) (fun c11=>?_)
 replace h1:=Qf c11 h1
 refine Q7 Z Z<|Q7 Z Z<|Q7 Z Z<|Q7 Z Z<|rR Z Z Z (Qc Z Z)<|Q5 ?_
 have e:=sI h1;subst e
 exact Q9 true (sL (Nat.zero_le _) Z Z Z Z Z) h0
 replace h1:=Qg c11 h1
 refine rR Z Z Z (Q2 KL Z)<|rR Z Z Z (Q6 QG Z Z Z)<|rM Z Z Z<|rR Z Z Z (Q8 Z Z Z)<|rR Z Z Z (Qa Z Z)<|Q5 ?_
 have e:=sI h1;subst e
 exact Q9 (decide (a2≤a1.var)) (sL (Nat.zero_le _) Z Z Z Z Z) h0
 intro v10 h0
 refine Q3 ?_
 refine Qe (b:=v10) Z (fun c12=>?_) (fun c12=>?_)
 replace h0:=Qf c12 h0
 refine Q4<|Q0<|rA Z Z Z<|Q5<|Q3<|Qp ?_
 have e:=sI h0;subst e
 exact Qn (fun _ _ h=>h) Z (Qm Z .nil) (.cons (.one (.d _)) .nil)
 replace h0:=Qg c12 h0
 refine Qj<|Q3<|Q4<|Q4<|Q0<|rR Z Z Z (Q2 Yc Z)<|rR Z Z Z (Q6 Zm Z Z Z)<|rR Z Z Z (Qx (α:=Br) Zc Z (.d _))<|rR Z Z Z (Q8 Z Z Z)<|Q5<|Q3 ?_
 refine Qe (b:=(decide (32 < (a1.branches.length:Int)))) Z (fun c13=>?_) (fun c13=>?_)
 replace h0:=Qf c13 h0
 refine Q4<|Q0<|rA Z Z Z<|Q5<|Q3<|Qp ?_
 have e:=sI h0;subst e
 exact Qn (fun _ _ h=>h) Z (Qm Z .nil) (.cons (.one (.d _)) .nil)
 replace h0:=Qg c13 h0
 refine Qj<|Q3<|Q4<|Q4<|Q0<|rA Z Z Z<|Q5<|Q3<|Ql ?_
 refine QQ 1 (fun (o14:Unit)=>⟨[],[(0,.cells 116 (cE a0)),(1,.cells 74 (cE a1))],[],2,110,[]⟩) (fun (o14:Unit)=>(some 0)=some r) ?_ ?_
 refine Qd h0 (fun o15 hl1 h0=>?_)
 refine QP (We a1 a0 rc a2 a3) (fun s1=>⟨[(2,.v (.one (dI a2))),(3,.v (.one (dI a3))),(4,.v (.one (.ptr 0 0))),(5,.v (.one (.ptr 1 0))),(9,.v (.one (dI s1)))],[(0,.cells 116 (cE a0)),(1,.cells 74 (cE a1))],[],2,110,[]⟩) 0 o15 (sL (Nat.zero_le _) Z Z Z Z Z) hl1 (fun s1 n1 oo1 h1 ho1=>?_)
 unfold We at h1
 refine Q4<|Q4<|Q0<|rM Z Z Z<|rR Z Z Z (Q2 Yc Z)<|rR Z Z Z (Q6 Zm Z Z Z)<|rR Z Z Z (Qx (α:=Br) Zc Z (.d _))<|rR Z Z Z (Q8 Z Z Z)<|Q5<|Q3 ?_
 refine Qe (b:=(decide (s1 < (a1.branches.length:Int)))) Z (fun c16=>?_) (fun c16=>?_)
 replace h1:=Qf c16 h1
 refine Qj<|Q3<|Q4<|Ql<|Q4<|Q0<|rR Z Z Z (Q2 Yc Z)<|rR Z Z Z (Q6 Zm Z Z Z)<|rM Z Z Z ?_
 refine Qd h1 (fun x17 hx17 h1=>?_)
 refine rR Z Z Z (Qt (α:=Br) Zc Z (.d _) Z hx17)<|rR Z Z Z (Qu (x17:Br) ZF Z)<|Qb Z Z (lb Z) (Qv UH Z)<|QC Z Z (QA (x17:Br) ZF Z Z Z Z Z)<|Q5<|Q3<|Q4<|Q0<|rR Z Z Z (Q2 fo_116_0 Z)<|rR Z Z Z (Q6 U8 Z Z Z)<|rR Z Z Z (Q2 X2 Z)<|rR Z Z Z (Q6 JG Z Z Z) ?_
 refine Qd h1 (fun x18 hx18 h1=>?_)
 refine Qb Z Z (lb Z) (Qh (Uq a0.env x17.ctor x18 hx18) Z (.cons (.one (.d _)) (.cons (.one (.d _)) .nil)))<|rM Z Z Z<|rR Z Z Z (QX Z Z)<|rR Z Z Z (QX Z Z)<|Qb Z Z (lb Z) (Qv Z7 Z)<|QC Z Z (QA (x18.1:Ent) J8 Z Z Z Z Z)<|rA Z Z Z<|Q5<|Q3<|Q4<|Q4 ?_
 refine QD (fun (v19:Bool)=>⟨[(2,.v (.one (dI a2))),(3,.v (.one (dI a3))),(4,.v (.one (.ptr 0 0))),(5,.v (.one (.ptr 1 0))),(9,.v (.one (dI s1))),(10,.v (.one (.ptr 2 0))),(11,.v (.one (.ptr 3 0))),(82,.v (.one (dB v19)))],[(0,.cells 116 (cE a0)),(1,.cells 74 (cE a1)),(2,.cells 101 (cE x17)),(3,.cells 35 (cE x18.1))],[],4,110,[]⟩) (fun (v19:Bool)=>(m73_k0 v19 x17 s1 a0 x18 rc a2 a3)=some oo1) ?_ ?_
 refine Qd h1 (fun w2_ h2 h1=>?_)
 refine Q0<|rM Z Z Z<|rR Z Z Z (Q8 Z Z Z)<|rM Z Z Z ?_
 refine Qw (d:=78) (c:=(x18.2 != 0)) Z (fun c20=>?_) (fun c20=>?_)
 replace h2:=Qf c20 h2
 refine Q7 Z Z<|Q7 Z Z<|Q7 Z Z<|rR Z Z Z (Qc Z Z)<|Q5 ?_
 have e:=sI h2;subst e
 exact Q9 true (sL (Nat.zero_le _) Z Z Z Z Z) h1
 replace h2:=Qg c20 h2
 refine rR Z Z Z (Q2 Yx Z)<|rR Z Z Z (Q6 QG Z Z Z)<|rR Z Z Z (Q8 Z Z Z)<|rR Z Z Z (Qa Z Z)<|Q5 ?_
 have e:=sI h2;subst e
 exact Q9 (x18.1.kind != 4) (sL (Nat.zero_le _) Z Z Z Z Z) h1
 intro v19 h1
 unfold m73_k0 at h1
 refine Q3 ?_
 refine Qe (b:=v19) Z (fun c21=>?_) (fun c21=>?_)
 replace h1:=Qf c21 h1
 refine Q4<|Q0<|rA Z Z Z<|Q5<|Q3<|Qp ?_
 have e:=sI h1;subst e
 have e_:_=_:=ho1
 subst e_
 try dsimp only [Sum.elim_inl,Sum.elim_inr] at h0
 have e:=sI h0;subst e
 exact Qn (fun _ _ h=>h) Z (Qm Z .nil) (.cons (.one (.d _)) .nil)
 replace h1:=Qg c21 h1
 refine Qj<|Q3<|Q4<|Q4<|Q0<|rR Z Z Z (Q2 fo_101_1 Z)<|rR Z Z Z (Q6 Db Z Z Z)<|Q5<|Q3 ?_
 refine Qe (b:=x17.absurd) Z (fun c22=>?_) (fun c22=>?_)
 replace h1:=Qf c22 h1
 refine Q4<|Q4<|Q0<|rR Z Z Z (Q2 Gh Z)<|rR Z Z Z (Qi Gy Z Z Z Z)<|rR Z Z Z (Zi bd_74 Z ) ?_
 refine Qd h1 (fun x23 hx23 h1=>?_)
 refine Qb Z Z (lb Z) (Qh (m36_ok x17.tree (Tr.mk 0 (Tm.mk 0 0 ([]:List UInt8) ([]:List Lvl) ([]:List Tm)) 0 ([]:List Br)) x23 hx23) Z (.cons (.agg (.cons (.d _) (.cons (.d _) (.cons (.d _) (.cons (.d _) (.cons (.d _) (.cons (.d _) (.cons (.d _) (.cons (.d _) .nil))))))))) (.cons (.agg (.cons (.d _) (.cons (.d _) (.cons (.d _) (.cons (.d _) (.cons (.nil _) (.cons (.nil _) (.cons (.d _) (.cons (.nil _) .nil))))))))) .nil)))<|rR Z Z Z (Jc Z)<|Q5<|Q3 ?_
 refine Qe (b:=(!x23)) Z (fun c24=>?_) (fun c24=>?_)
 replace h1:=Qf c24 h1
 refine Q4<|Q0<|rA Z Z Z<|Q5<|Q3<|Qp ?_
 have e:=sI h1;subst e
 have e_:_=_:=ho1
 subst e_
 try dsimp only [Sum.elim_inl,Sum.elim_inr] at h0
 have e:=sI h0;subst e
 exact Qn (fun _ _ h=>h) Z (Qm Z .nil) (.cons (.one (.d _)) .nil)
 replace h1:=Qg c24 h1
 refine Qj<|Q3<|QW<|Qr<|QF<|Q3<|Q0<|rM Z Z Z<|rR Z Z Z (Q8 Z Z Z)<|rA Z Z Z<|Q5 ?_
 have e:=sI h1;subst e
 refine QJ (Ja (s1+1)) (sL (Nat.zero_le _) Z Z Z Z Z) ho1
 replace h1:=Qg c22 h1
 refine Qj<|Q3<|Q4 ?_
 refine J4 [] [] JV (by kernel_rfl) (by kernel_rfl) (by kernel_rfl) ?_
 refine RunA.rd Z Z Z (Q1 (QH (a0:Rsc) Z6 Z Z)) Z<|RunA.rd Z Z Z (Q1 (Q2 Gh Z)) Z<|RunA.rd Z Z Z (Q1 (Qi Gy Z Z Z Z)) Z<|RunA.rd Z Z Z (Q1 (Qq Z)) Z<|RunA.rd Z Z Z (Q1 (Q2 fo_116_0 Z)) Z<|RunA.rd Z Z Z (Q1 (Q6 U8 Z Z Z)) Z<|RunA.rd Z Z Z (Q1 (Q2 K1 Z)) Z<|RunA.rd Z Z Z (Q1 (Q6 QG Z Z Z)) Z ?_
 refine Qd h1 (fun x25 hx25 h1=>?_)
 refine RunA.rd Z Z Z (Q1 (Qt (α:=Dcl) YE Z (.d _) Z hx25)) Z<|RunA.rd Z Z Z (Q1 (Qu (x25:Dcl) Jq Z)) Z<|RunA.rd Z Z Z (Q1 (Q2 KM Z)) Z<|RunA.rd Z Z Z (Q1 (Q6 QG Z Z Z)) Z ?_
 refine Qd h1 (fun x26 hx26 h1=>?_)
 refine RunA.rd Z Z Z (Qh (m88_ok x25 x18.1.item x26 hx26) Z (.cons (.agg (.cons (.d _) (.cons (.d _) (.cons (.d _) (.cons (.d _) (.cons (.d _) (.cons (.d _) (.cons (.d _) (.cons (.d _) (.cons (.d _) (.cons (.d _) (.cons (.d _) (.cons (.d _) (.cons (.d _) (.cons (.d _) (.cons (.d _) (.cons (.d _) (.cons (.d _) (.cons (.d _) (.cons (.d _) (.cons (.d _) (.cons (.d _) (.cons (.d _) (.cons (.d _) .nil)))))))))))))))))))))))) (.cons (.one (.d _)) .nil))) Z<|RunA.rd Z Z Z (Q1 (Q8 Z Z Z)) Z<|RunA.rd Z Z Z (Q1 (Qq Z)) Z<|RunA.rd Z Z Z (Q1 (Q8 Z Z Z)) Z ?_
 refine Qd h1 (fun x27 hx27 h1=>?_)
 refine RunA.rd Z Z Z (Qh (H a0 x17.tree (Ja (a2+x26)) (Ja (a3+1)) x27 hx27) Z (.cons (.agg (.cons (.d _) (.cons (.d _) (.cons (.d _) (.cons (.d _) (.cons (.d _) (.cons (.d _) (.cons (.d _) (.cons (.d _) (.cons (.d _) (.cons (.d _) (.cons (.d _) (.cons (.d _) (.cons (.d _) (.cons (.d _) (.cons (.d _) (.cons (.d _) (.cons (.d _) (.cons (.d _) (.cons (.d _) (.cons (.d _) (.cons (.d _) (.cons (.d _) (.cons (.d _) (.cons (.d _) (.cons (.d _) .nil)))))))))))))))))))))))))) (.cons (.agg (.cons (.d _) (.cons (.d _) (.cons (.d _) (.cons (.d _) (.cons (.d _) (.cons (.d _) (.cons (.d _) (.cons (.d _) .nil))))))))) (.cons (.one (.d _)) (.cons (.one (.d _)) .nil))))) Z<|RunA.rd Z Z Z (Q1 (Jd Z)) Z ?_
 refine RunA.nil ⟨?ex,_,_,Z,?_⟩
 case ex=>exact trivial
 refine Jp (st':=⟨[(2,.v (.one (dI a2))),(3,.v (.one (dI a3))),(4,.v (.one (.ptr 0 0))),(5,.v (.one (.ptr 1 0))),(9,.v (.one (dI s1))),(13,.v (.one (dI x27)))],[(0,.cells 116 (cE a0)),(1,.cells 74 (cE a1)),(2,.cells 101 (cE x17)),(3,.cells 35 (cE x18.1))],[],4,110,[]⟩) (sL (Nat.zero_le _) Z Z Z Z Z)<|Q3<|Q4<|Q0<|rM Z Z Z<|rR Z Z Z (Q8 Z Z Z)<|Q5<|Q3 ?_
 refine Qe (b:=(x27 != 0)) Z (fun c28=>?_) (fun c28=>?_)
 replace h1:=Qf c28 h1
 refine Q4<|Q0<|rM Z Z Z<|rA Z Z Z<|Q5<|Q3<|Qp ?_
 have e:=sI h1;subst e
 have e_:_=_:=ho1
 subst e_
 try dsimp only [Sum.elim_inl,Sum.elim_inr] at h0
 have e:=sI h0;subst e
 exact Qn (fun _ _ h=>h) Z (Qm Z .nil) (.cons (.one (.d _)) .nil)
 replace h1:=Qg c28 h1
 refine Qj<|Qk<|Q3<|Q0<|rM Z Z Z<|rR Z Z Z (Q8 Z Z Z)<|rA Z Z Z<|Q5 ?_
 have e:=sI h1;subst e
 refine QJ (Ja (s1+1)) (sL (Nat.zero_le _) Z Z Z Z Z) ho1
 replace h1:=Qg c16 h1
 refine QW<|Qr<|Qr ?_
 have e:=sI h1;subst e
 have e_:_=_:=ho1
 subst e_
 exact QO () (sL (Nat.zero_le _) Z Z Z Z Z) h0
 intro o14 h0
 refine QF<|Q3<|Q4<|Q0<|rA Z Z Z<|Q5<|Q3<|Qp ?_
 have e:=sI h0;subst e
 exact Qn (fun _ _ h=>h) Z (Qm Z .nil) (.cons (.one (.d _)) .nil)
 replace h0:=Qg c7 h0
 refine Q4<|Q0<|rA Z Z Z<|Q5<|Q3<|Qp ?_
 have e:=sI h0;subst e
 exact Qn (fun _ _ h=>h) Z (Qm Z .nil) (.cons (.one (.d _)) .nil)
theorem m73_all (n:Nat) (u:Rsc×Tr×Int×Int) (r:Int) (h0:JR Ds n u=some r):Fun Try.prog 73 [.agg (cE u.1),.agg (cE u.2.1),.one (dI u.2.2.1),.one (dI u.2.2.2)] (QM [.one (dI r)]) :=
 YN (C:=fun u r=>Fun Try.prog 73 [.agg (cE u.1),.agg (cE u.2.1),.one (dI u.2.2.1),.one (dI u.2.2.2)] (QM [.one (dI r)])) (fun rc H u r h=>m73s_ok rc (fun a0 a1 a2 a3 r h=>H (a0,a1,a2,a3) r h) u.1 u.2.1 u.2.2.1 u.2.2.2 r h) n u r h0
theorem m73_ok (a0:Rsc) (a1:Tr) (a2:Int) (a3:Int) (r:Int) (h0:m73 a0 a1 a2 a3=some r):Fun Try.prog 73 [.agg (cE a0),.agg (cE a1),.one (dI a2),.one (dI a3)] (QM [.one (dI r)]):=m73_all QU (a0,a1,a2,a3) r h0
def Wg (x1:(List Bs)) (a0:List Dcl) (s1:Int):Option (LO Int (Unit⊕Int)) :=
 cond (decide (s1 < (x1.length:Int)))
   (Option.bind (JP x1 s1) fun (x4:Bs) =>
 Option.bind (DQ x4) fun (x5:Bool) =>
 cond (!x5)
   (some (.done (.inr 29)))
   (Option.bind (JP x1 s1) fun (x7:Bs) =>
 Option.bind (DG a0 x7) fun (x8:Ent×Int) =>
 Option.bind (cond (x8.2==0)
   (some true)
   (Jy (cond (decide (0≤s1)) (Nat.ble s1.toNat x1.length) false)
 (Option.bind (JP x1 s1) fun (x12:Bs) =>
 Option.bind (Dj (x1.take s1.toNat) x12) fun (x13:Bool) =>
 some x13))) (fun (v9:Bool)=>cond v9
   (some (.done (.inr 8)))
   (some (.next (Ja (s1+1)))))))
   (some (.done (.inl ())))
def m52 (a0:List Dcl) (a1:Dcl):Option Int :=
 Option.bind (Dz a1) fun (x1:(List Bs)) =>
 Option.bind (QE (Wg x1 a0) QU 0) (Sum.elim (fun (o2:Unit)=>some 0) (fun o=>some o))
theorem m52_ok (a0:List Dcl) (a1:Dcl) (r:Int) (h0:m52 a0 a1=some r):Fun Try.prog 52 [.one (dS a0),.agg (cE a1)] (QM [.one (dI r)]):=by
 unfold m52 at h0
 refine QB 9 44 Try.func52 Z en_52 Z (lb Z) (fun S w=>?_)
 simp only [J3]
 refine Q4<|Q0<|Qb Z Z (lb Z) (QN Z)<|rA Z Z Z<|Q5<|Q3<|Q4<|Q0<|rR Z Z Z (QH (a1:Dcl) Jq Z Z) ?_
 refine Qd h0 (fun x1 hx1 h0=>?_)
 refine Qb Z Z (lb Z) (Qh (WX a1 x1 hx1) Z (.cons (.agg (.cons (.d _) (.cons (.d _) (.cons (.d _) (.cons (.d _) (.cons (.d _) (.cons (.d _) (.cons (.d _) (.cons (.d _) (.cons (.d _) (.cons (.d _) (.cons (.d _) (.cons (.d _) (.cons (.d _) (.cons (.d _) (.cons (.d _) (.cons (.d _) (.cons (.d _) (.cons (.d _) (.cons (.d _) (.cons (.d _) (.cons (.d _) (.cons (.d _) (.cons (.d _) .nil)))))))))))))))))))))))) .nil))<|rA Z Z Z<|Q5<|Q3<|Q4<|Q4<|Q0<|rA Z Z Z<|Q5<|Q3<|Ql ?_
 refine QQ 0 (fun (o2:Unit)=>⟨[],[(0,.cells 45 (cE a1))],[],1,44,[]⟩) (fun (o2:Unit)=>(some 0)=some r) ?_ ?_
 refine Qd h0 (fun o3 hl1 h0=>?_)
 refine QP (Wg x1 a0) (fun s1=>⟨[(0,.v (.one (dS a0))),(5,.v (.one (dS x1))),(6,.v (.one (dI s1)))],[(0,.cells 45 (cE a1))],[],1,44,[]⟩) 0 o3 (sL (Nat.zero_le _) Z Z Z Z Z) hl1 (fun s1 n1 oo1 h1 ho1=>?_)
 unfold Wg at h1
 refine Q4<|Q4<|Q0<|rM Z Z Z<|rM Z Z Z<|rR Z Z Z (Qx (α:=Bs) Ye Z (.d _))<|rR Z Z Z (Q8 Z Z Z)<|Q5<|Q3 ?_
 refine Qe (b:=(decide (s1 < (x1.length:Int)))) Z (fun c4=>?_) (fun c4=>?_)
 replace h1:=Qf c4 h1
 refine Qj<|Q3<|Q4<|Ql<|Q4<|Q4<|Q0<|rM Z Z Z<|rM Z Z Z ?_
 refine Qd h1 (fun x5 hx5 h1=>?_)
 refine rR Z Z Z (Qt (α:=Bs) Ye Z (.d _) Z hx5)<|rR Z Z Z (Jj JG Z Z) ?_
 refine Qd h1 (fun x6 hx6 h1=>?_)
 refine Qb Z Z (lb Z) (Qh (m71_ok x5 x6 hx6) Z (.cons (.one (.d _)) .nil))<|rR Z Z Z (Jc Z)<|Q5<|Q3 ?_
 refine Qe (b:=(!x6)) Z (fun c7=>?_) (fun c7=>?_)
 replace h1:=Qf c7 h1
 refine Q4<|Q0<|rA Z Z Z<|Q5<|Q3<|Qp ?_
 have e:=sI h1;subst e
 have e_:_=_:=ho1
 subst e_
 try dsimp only [Sum.elim_inl,Sum.elim_inr] at h0
 have e:=sI h0;subst e
 exact Qn (fun _ _ h=>h) Z (Qm Z .nil) (.cons (.one (.d _)) .nil)
 replace h1:=Qg c7 h1
 refine Qj<|Q3<|Q4<|Q0<|rM Z Z Z<|rM Z Z Z<|rM Z Z Z ?_
 refine Qd h1 (fun x8 hx8 h1=>?_)
 refine rR Z Z Z (Qt (α:=Bs) Ye Z (.d _) Z hx8)<|rR Z Z Z (Jj JG Z Z) ?_
 refine Qd h1 (fun x9 hx9 h1=>?_)
 refine Qb Z Z (lb Z) (Qh (Uq a0 x8 x9 hx9) Z (.cons (.one (.d _)) (.cons (.one (.d _)) .nil)))<|rM Z Z Z<|rR Z Z Z (QX Z Z)<|rR Z Z Z (QX Z Z)<|Qb Z Z (lb Z) (Qv Z7 Z)<|QC Z Z (QA (x9.1:Ent) J8 Z Z Z Z Z)<|rA Z Z Z<|Q5<|Q3<|Q4 ?_
 refine QD (fun (v10:Bool)=>⟨[(0,.v (.one (dS a0))),(5,.v (.one (dS x1))),(6,.v (.one (dI s1))),(43,.v (.one (dB v10)))],[(0,.cells 45 (cE a1)),(1,.cells 35 (cE x9.1))],[],2,44,[]⟩) (fun (v10:Bool)=>(cond v10
     (some (.done (.inr 8)))
     (some (.next (Ja (s1+1)))))=some oo1) ?_ ?_
 refine Qd h1 (fun w2_ h2 h1=>?_)
 refine J4 [] [] JV (by kernel_rfl) (by kernel_rfl) (by kernel_rfl) ?_
 refine RunA.rd Z Z Z (Q1 (Qq Z)) Z<|RunA.rd Z Z Z (Q1 (Q8 Z Z Z)) Z ?_
 refine JM (c:=(x9.2==0)) Z Z Z (Q1 (Qq Z)) Z (fun c11=>?_) (fun c11=>?_)
 replace h2:=Qf c11 h2
 refine RunA.no Z Z Z Z<|RunA.no Z Z Z Z<|RunA.no Z Z Z Z<|RunA.no Z Z Z Z<|RunA.no Z Z Z Z<|RunA.no Z Z Z Z<|RunA.no Z Z Z Z<|RunA.no Z Z Z Z<|RunA.rd Z Z Z (Q1 (Qc Z Z)) Z ?_
 refine RunA.nil ⟨?ex,_,_,Z,?_⟩
 case ex=>exact trivial
 have e:=sI h2;subst e
 exact Q9 true (sL (Nat.zero_le _) Z Z Z Z Z) h1
 replace h2:=Qg c11 h2
 refine RunA.rd Z Z Z (Q1 (Qq Z)) Z<|RunA.rd Z Z Z (Q1 (Qq Z)) Z ?_
 refine Yt h2 (fun g12 h2=>?_)
 refine RunA.rd Z Z Z (Q1 (Gl (α:=Bs) Ye Z (.d _) Z g12)) Z<|RunA.rd Z Z Z (Q1 (Qq Z)) Z<|RunA.rd Z Z Z (Q1 (Qq Z)) Z ?_
 refine Qd h2 (fun x13 hx13 h2=>?_)
 refine RunA.rd Z Z Z (Q1 (Qt (α:=Bs) Ye Z (.d _) Z hx13)) Z<|RunA.rd Z Z Z (Q1 (Jj JG Z Z)) Z ?_
 refine Qd h2 (fun x14 hx14 h2=>?_)
 refine RunA.rd Z Z Z (Qh (m33_ok (x1.take s1.toNat) x13 x14 hx14) Z (.cons (.one (.d _)) (.cons (.one (.d _)) .nil))) Z<|RunA.rd Z Z Z (Q1 (Qa Z Z)) Z ?_
 refine RunA.nil ⟨?ex,_,_,Z,?_⟩
 case ex=>exact trivial
 have e:=sI h2;subst e
 exact Q9 x14 (sL (Nat.zero_le _) Z Z Z Z Z) h1
 intro v10 h1
 refine Q3 ?_
 refine Qe (b:=v10) Z (fun c15=>?_) (fun c15=>?_)
 replace h1:=Qf c15 h1
 refine Q4<|Q0<|rA Z Z Z<|Q5<|Q3<|Qp ?_
 have e:=sI h1;subst e
 have e_:_=_:=ho1
 subst e_
 try dsimp only [Sum.elim_inl,Sum.elim_inr] at h0
 have e:=sI h0;subst e
 exact Qn (fun _ _ h=>h) Z (Qm Z .nil) (.cons (.one (.d _)) .nil)
 replace h1:=Qg c15 h1
 refine Qj<|Qk<|Q3<|Q0<|rM Z Z Z<|rR Z Z Z (Q8 Z Z Z)<|rA Z Z Z<|Q5 ?_
 have e:=sI h1;subst e
 refine QJ (Ja (s1+1)) (sL (Nat.zero_le _) Z Z Z Z Z) ho1
 replace h1:=Qg c4 h1
 refine QW<|Qr<|Qr ?_
 have e:=sI h1;subst e
 have e_:_=_:=ho1
 subst e_
 exact QO () (sL (Nat.zero_le _) Z Z Z Z Z) h0
 intro o2 h0
 refine QF<|Q3<|Q4<|Q0<|rA Z Z Z<|Q5<|Q3<|Qp ?_
 have e:=sI h0;subst e
 exact Qn (fun _ _ h=>h) Z (Qm Z .nil) (.cons (.one (.d _)) .nil)
def X9 (a1:Dcl) (a0:List Dcl) (s1:Int):Option (LO Int (Unit⊕Int)) :=
 cond (decide (s1 < (a1.ctors.length:Int)))
   (Option.bind (JP a1.ctors s1) fun (x10:Ctr) =>
 Option.bind (Df (⟨a0,[a1.name],a1⟩:Rsc) x10.ty 0 a1.params) fun (x11:Int) =>
 cond (x11 != 0)
   (some (.done (.inr x11)))
   (some (.next (Ja (s1+1)))))
   (some (.done (.inl ())))
def X8 (a1:Dcl) (a0:List Dcl) (x9:(List Bs)) (s1:Int):Option (LO Int (Unit⊕Int)) :=
 cond (decide (s1 < (a1.rcr.rules.length:Int)))
   (Option.bind (JP a1.rcr.rules s1) fun (x15:Tm) =>
 Option.bind (Df (⟨a0,x9,a1⟩:Rsc) x15 0 a1.rcr.params) fun (x16:Int) =>
 cond (x16 != 0)
   (some (.done (.inr x16)))
   (some (.next (Ja (s1+1)))))
   (some (.done (.inl ())))
def Xv (p0_:Dcl) (p1_:List Dcl):Option Int :=
 Option.bind (Dz p0_) fun (b0_:(List Bs)) =>
 Jy (cond (decide (0≤(Ja ((b0_.length:Int) - 1)))) (Nat.ble (Ja ((b0_.length:Int) - 1)).toNat b0_.length) false)
 (Option.bind (Df (⟨p1_,(b0_.take (Ja ((b0_.length:Int) - 1)).toNat),p0_⟩:Rsc) p0_.rcr.ty 0 p0_.rcr.params) fun (b1_:Int) =>
 cond (b1_ != 0)
   (some b1_)
   (Option.bind (QE (X8 p0_ p1_ b0_) QU 0) (Sum.elim (fun (b2_:Unit)=>some 0) (fun o=>some o))))
def Xu (a1:Dcl) (a0:List Dcl) (s1:Int):Option (LO Int (Unit⊕Int)) :=
 cond (decide (s1 < (a1.funs.length:Int)))
   (Option.bind (JP a1.funs s1) fun (x27:Fn) =>
 Option.bind (Df (⟨a0,([]:List Bs),a1⟩:Rsc) x27.ty 0 a1.params) fun (x28:Int) =>
 cond (x28 != 0)
   (some (.done (.inr x28)))
   (some (.next (Ja (s1+1)))))
   (some (.done (.inl ())))
def GD (a1:Dcl) (a0:List Dcl) (x26:(List Bs)) (s1:Int):Option (LO Int (Unit⊕Int)) :=
 cond (decide (s1 < (a1.funs.length:Int)))
   (Option.bind (JP a1.funs s1) fun (x29:Fn) =>
 Option.bind (JP a1.funs s1) fun (x30:Fn) =>
 Option.bind (m73 (⟨a0,x26,a1⟩:Rsc) x29.tree x30.arity 0) fun (x31:Int) =>
 cond (x31 != 0)
   (some (.done (.inr x31)))
   (some (.next (Ja (s1+1)))))
   (some (.done (.inl ())))
def ZR (p0_:Bool) (p1_:List Dcl) (p2_:Dcl):Option Int :=
 cond p0_
   (Option.bind (Df (⟨p1_,([]:List Bs),p2_⟩:Rsc) p2_.value 0 p2_.params) fun (b0_:Int) =>
 some b0_)
   (cond (p2_.kind==3)
   (Option.bind (QE (X9 p2_ p1_) QU 0) (Sum.elim (fun (b1_:Unit)=>Xv p2_ p1_) (fun o=>some o)))
   (cond (p2_.kind==4)
   (Option.bind (QE (Xu p2_ p1_) QU 0) (Sum.elim (fun (b2_:Unit)=>Option.bind (Dz p2_) fun (b3_:(List Bs)) =>
 Option.bind (QE (GD p2_ p1_ b3_) QU 0) (Sum.elim (fun (b4_:Unit)=>some 0) (fun o=>some o))) (fun o=>some o)))
   (some 0)))
def m53 (a0:List Dcl) (a1:Dcl):Option Int :=
 cond (a1.kind != 4)
   (Option.bind (Df (⟨a0,([]:List Bs),a1⟩:Rsc) a1.ty 0 a1.params) fun (x2:Int) =>
 cond (x2 != 0)
   (some x2)
   (Option.bind (cond (a1.kind==1)
   (some (a1.kind==1))
   (some (a1.kind==2))) (fun (v4:Bool)=>ZR v4 a0 a1)))
   (Option.bind (cond (a1.kind==1)
   (some (a1.kind==1))
   (some (a1.kind==2))) (fun (v40:Bool)=>ZR v40 a0 a1))
end Go.Proofs.Ytafddfoefeploaa
namespace Go.Proofs.Ytafddfoefeploaa
open Go.RowKit Go.Shelf
theorem z_116:JQ Try.prog 116=some [.slice none 0 0,.slice none 0 0,.int .i64 0,.string ByteArray.empty,.int .i64 0,.int .i64 0,.int .i64 0,.string ByteArray.empty,.slice none 0 0,.slice none 0 0,.int .i64 0,.int .i64 0,.string ByteArray.empty,.slice none 0 0,.slice none 0 0,.int .i64 0,.slice none 0 0,.int .i64 0,.int .i64 0,.int .i64 0,.string ByteArray.empty,.slice none 0 0,.slice none 0 0,.slice none 0 0,.slice none 0 0]:=by kernel_rfl
theorem bd_116:Y9 Try.prog 116 [(0,1),(1,1),(2,23)] [.slice none 0 0,.slice none 0 0,.int .i64 0,.string ByteArray.empty,.int .i64 0,.int .i64 0,.int .i64 0,.string ByteArray.empty,.slice none 0 0,.slice none 0 0,.int .i64 0,.int .i64 0,.string ByteArray.empty,.slice none 0 0,.slice none 0 0,.int .i64 0,.slice none 0 0,.int .i64 0,.int .i64 0,.int .i64 0,.string ByteArray.empty,.slice none 0 0,.slice none 0 0,.slice none 0 0,.slice none 0 0]:=⟨by kernel_rfl,by kernel_rfl⟩
theorem en_12:QY Try.prog 12:=enters_of Try.func12 (by kernel_rfl) rfl
theorem en_32:QY Try.prog 32:=enters_of Try.func32 (by kernel_rfl) rfl
theorem en_53:QY Try.prog 53:=enters_of Try.func53 (by kernel_rfl) rfl
theorem m53_ok (a0:List Dcl) (a1:Dcl) (r:Int) (h0:m53 a0 a1=some r):Fun Try.prog 53 [.one (dS a0),.agg (cE a1)] (QM [.one (dI r)]):=by
 unfold m53 at h0
 refine QB 9 161 Try.func53 Z en_53 Z (lb Z) (fun S w=>?_)
 simp only [J3]
 refine Q4<|Q0<|Qb Z Z (lb Z) (QN Z)<|rA Z Z Z<|Q5<|Q3<|Q4<|Q0<|rM Z Z Z<|rR Z Z Z (QH (a1:Dcl) Jq Z Z)<|rR Z Z Z (RO.build02 bd_116 Z Z Z Z Z)<|Qb Z Z (lb Z) (Qv z_116 Z)<|QC Z Z (YT Z6 Z Z Z Z Z Z)<|Q5 ?_
 refine Q3<|Q4<|Q4<|Q0<|rR Z Z Z (Q2 JN Z)<|rR Z Z Z (Q6 QG Z Z Z)<|rR Z Z Z (Q8 Z Z Z)<|Q5<|Q3 ?_
 refine Qe (b:=(a1.kind != 4)) Z (fun c1=>?_) (fun c1=>?_)
 replace h0:=Qf c1 h0
 refine Q4<|Q0<|rR Z Z Z (Qi Z6 Z Z Z Z)<|rR Z Z Z (Q2 Zl Z)<|rR Z Z Z (Qi QR Z Z Z Z)<|rR Z Z Z (Q2 Jz Z)<|rR Z Z Z (Q6 QG Z Z Z) ?_
 refine Qd h0 (fun x2 hx2 h0=>?_)
 refine Qb Z Z (lb Z) (Qh (Kz (⟨a0,([]:List Bs),a1⟩:Rsc) a1.ty 0 a1.params x2 hx2) Z (.cons (.agg (.cons (.d _) (.cons (.nil _) (.cons (.d _) (.cons (.d _) (.cons (.d _) (.cons (.d _) (.cons (.d _) (.cons (.d _) (.cons (.d _) (.cons (.d _) (.cons (.d _) (.cons (.d _) (.cons (.d _) (.cons (.d _) (.cons (.d _) (.cons (.d _) (.cons (.d _) (.cons (.d _) (.cons (.d _) (.cons (.d _) (.cons (.d _) (.cons (.d _) (.cons (.d _) (.cons (.d _) (.cons (.d _) .nil)))))))))))))))))))))))))) (.cons (.agg (.cons (.d _) (.cons (.d _) (.cons (.d _) (.cons (.d _) (.cons (.d _) .nil)))))) (.cons (.one (.d _)) (.cons (.one (.d _)) .nil)))))<|rA Z Z Z<|Q5<|Q3<|Q4<|Q0<|rM Z Z Z<|rR Z Z Z (Q8 Z Z Z)<|Q5<|Q3 ?_
 refine Qe (b:=(x2 != 0)) Z (fun c3=>?_) (fun c3=>?_)
 replace h0:=Qf c3 h0
 refine Q4<|Q0<|rM Z Z Z<|rA Z Z Z<|Q5<|Q3<|Qp ?_
 have e:=sI h0;subst e
 exact Qn (fun _ _ h=>h) Z (Qm Z .nil) (.cons (.one (.d _)) .nil)
 replace h0:=Qg c3 h0
 refine Qj<|Q3<|Q4<|Q4<|Q0<|rR Z Z Z (Q2 JN Z)<|rR Z Z Z (Q6 QG Z Z Z)<|Q5<|Q3<|Ql<|Q4<|Q4<|Q0<|rR Z Z Z (Q8 Z Z Z) ?_
 refine rA Z Z Z<|Q5<|Q3 ?_
 refine QD (fun (v4:Bool)=>⟨[(3,.v (.one (.ptr 0 0))),(5,.v (.one (.ptr 1 0))),(33,.v (.one (dI a1.kind))),(34,.v (.one (dB v4)))],[(0,.cells 45 (cE a1)),(1,.cells 116 [dS a0,dN,dI a1.kind,J6 a1.name,dI a1.params,dI a1.ty.kind,dI a1.ty.index,J6 a1.ty.name,dS a1.ty.levels,dS a1.ty.kids,dI a1.value.kind,dI a1.value.index,J6 a1.value.name,dS a1.value.levels,dS a1.value.kids,dI a1.fixed,dS a1.ctors,dI a1.rcr.params,dI a1.rcr.ty.kind,dI a1.rcr.ty.index,J6 a1.rcr.ty.name,dS a1.rcr.ty.levels,dS a1.rcr.ty.kids,dS a1.rcr.rules,dS a1.funs])],[],2,161,[]⟩) (fun (v4:Bool)=>(ZR v4 a0 a1)=some r) ?_ ?_
 refine Qd h0 (fun w1_ h1 h0=>?_)
 refine Qe (b:=(a1.kind==1)) Z (fun c5=>?_) (fun c5=>?_)
 replace h1:=Qf c5 h1
 refine Qj ?_
 have e:=sI h1;subst e
 exact Q9 (a1.kind==1) (sL (Nat.zero_le _) Z Z Z Z Z) h0
 replace h1:=Qg c5 h1
 refine Q0<|rR Z Z Z (Q8 Z Z Z)<|rA Z Z Z<|Q5 ?_
 have e:=sI h1;subst e
 exact Q9 (a1.kind==2) (sL (Nat.zero_le _) Z Z Z Z Z) h0
 intro v4 h0
 unfold ZR at h0
 refine Q3 ?_
 refine Qe (b:=v4) Z (fun c6=>?_) (fun c6=>?_)
 replace h0:=Qf c6 h0
 refine Q4<|Q0<|rR Z Z Z (Qi Z6 Z Z Z Z)<|rR Z Z Z (Q2 Kk Z)<|rR Z Z Z (Qi QR Z Z Z Z)<|rR Z Z Z (Q2 Jz Z)<|rR Z Z Z (Q6 QG Z Z Z) ?_
 refine Qd h0 (fun x7 hx7 h0=>?_)
 refine Qb Z Z (lb Z) (Qh (Kz (⟨a0,([]:List Bs),a1⟩:Rsc) a1.value 0 a1.params x7 hx7) Z (.cons (.agg (.cons (.d _) (.cons (.nil _) (.cons (.d _) (.cons (.d _) (.cons (.d _) (.cons (.d _) (.cons (.d _) (.cons (.d _) (.cons (.d _) (.cons (.d _) (.cons (.d _) (.cons (.d _) (.cons (.d _) (.cons (.d _) (.cons (.d _) (.cons (.d _) (.cons (.d _) (.cons (.d _) (.cons (.d _) (.cons (.d _) (.cons (.d _) (.cons (.d _) (.cons (.d _) (.cons (.d _) (.cons (.d _) .nil)))))))))))))))))))))))))) (.cons (.agg (.cons (.d _) (.cons (.d _) (.cons (.d _) (.cons (.d _) (.cons (.d _) .nil)))))) (.cons (.one (.d _)) (.cons (.one (.d _)) .nil)))))<|rA Z Z Z<|Q5<|Q3<|Qp ?_
 have e:=sI h0;subst e
 exact Qn (fun _ _ h=>h) Z (Qm Z .nil) (.cons (.one (.d _)) .nil)
 replace h0:=Qg c6 h0
 refine Q4<|Q0<|rR Z Z Z (Q8 Z Z Z)<|rA Z Z Z<|Q5<|Q3 ?_
 refine Qe (b:=(a1.kind==3)) Z (fun c8=>?_) (fun c8=>?_)
 replace h0:=Qf c8 h0
 refine Q4<|Q0<|rR Z Z Z (Q2 JY Z)<|rR Z Z Z (Q6 JG Z Z Z)<|Qb Z Z (lb Z) (JW (α:=Bs) (a1.name) Ye Dd Z Z (lb Z) (lb Z) Z Z (.cons (.d _) .nil) Z)<|rR Z Z Z (Q2 K2 Z)<|QC Z Z (Qz WJ Z Z Z Z (lb Z) Z)<|Q5<|Q3<|Q4<|Q4<|Q0<|rA Z Z Z<|Q5 ?_
 refine Q3<|Ql ?_
 refine QQ 1 (fun (o9:Unit)=>⟨[(3,.v (.one (.ptr 0 0))),(5,.v (.one (.ptr 1 0)))],[(0,.cells 45 (cE a1)),(1,.cells 116 [dS a0,dA 2 ([a1.name]:List Bs),dI a1.kind,J6 a1.name,dI a1.params,dI a1.ty.kind,dI a1.ty.index,J6 a1.ty.name,dS a1.ty.levels,dS a1.ty.kids,dI a1.value.kind,dI a1.value.index,J6 a1.value.name,dS a1.value.levels,dS a1.value.kids,dI a1.fixed,dS a1.ctors,dI a1.rcr.params,dI a1.rcr.ty.kind,dI a1.rcr.ty.index,J6 a1.rcr.ty.name,dS a1.rcr.ty.levels,dS a1.rcr.ty.kids,dS a1.rcr.rules,dS a1.funs])],[(2,some ⟨9,1,(Enc.encL ([a1.name]:List Bs)).length,[]⟩)],3,161,[]⟩) (fun (o9:Unit)=>(Xv a1 a0)=some r) ?_ ?_
 refine Qd h0 (fun o10 hl1 h0=>?_)
 refine QP (X9 a1 a0) (fun s1=>⟨[(3,.v (.one (.ptr 0 0))),(5,.v (.one (.ptr 1 0))),(7,.v (.one (dI s1)))],[(0,.cells 45 (cE a1)),(1,.cells 116 [dS a0,dA 2 ([a1.name]:List Bs),dI a1.kind,J6 a1.name,dI a1.params,dI a1.ty.kind,dI a1.ty.index,J6 a1.ty.name,dS a1.ty.levels,dS a1.ty.kids,dI a1.value.kind,dI a1.value.index,J6 a1.value.name,dS a1.value.levels,dS a1.value.kids,dI a1.fixed,dS a1.ctors,dI a1.rcr.params,dI a1.rcr.ty.kind,dI a1.rcr.ty.index,J6 a1.rcr.ty.name,dS a1.rcr.ty.levels,dS a1.rcr.ty.kids,dS a1.rcr.rules,dS a1.funs])],[(2,some ⟨9,1,(Enc.encL ([a1.name]:List Bs)).length,[]⟩)],3,161,[]⟩) 0 o10 (sL (Nat.zero_le _) Z Z Z Z Z) hl1 (fun s1 n1 oo1 h1 ho1=>?_)
 unfold X9 at h1
 refine Q4<|Q4<|Q0<|rM Z Z Z<|rR Z Z Z (Q2 Js Z)<|rR Z Z Z (Q6 Yd Z Z Z)<|rR Z Z Z (Qx (α:=Ctr) JX Z (.d _))<|rR Z Z Z (Q8 Z Z Z)<|Q5<|Q3 ?_
 refine Qe (b:=(decide (s1 < (a1.ctors.length:Int)))) Z (fun c11=>?_) (fun c11=>?_)
 replace h1:=Qf c11 h1
 refine Qj<|Q3<|Q4<|Ql<|Q4 ?_
 refine J4 [] [] JV (by kernel_rfl) (by kernel_rfl) (by kernel_rfl) ?_
 refine RunA.rd Z Z Z (Q1 (Qi Z6 Z Z Z Z)) Z<|RunA.rd Z Z Z (Q1 (Q2 Js Z)) Z<|RunA.rd Z Z Z (Q1 (Q6 Yd Z Z Z)) Z<|RunA.rd Z Z Z (Q1 (Qq Z)) Z ?_
 refine Qd h1 (fun x12 hx12 h1=>?_)
 refine RunA.rd Z Z Z (Q1 (Qt (α:=Ctr) JX Z (.d _) Z hx12)) Z<|RunA.rd Z Z Z (Q1 (J5 Za Z)) Z<|RunA.rd Z Z Z (Q1 (Jr QR Z Z Z)) Z<|RunA.rd Z Z Z (Q1 (Q2 Jz Z)) Z<|RunA.rd Z Z Z (Q1 (Q6 QG Z Z Z)) Z ?_
 refine Qd h1 (fun x13 hx13 h1=>?_)
 refine RunA.rd Z Z Z (Qh (Kz (⟨a0,[a1.name],a1⟩:Rsc) x12.ty 0 a1.params x13 hx13) Z (.cons (.agg (.cons (.d _) (.cons (.app _ _ _) (.cons (.d _) (.cons (.d _) (.cons (.d _) (.cons (.d _) (.cons (.d _) (.cons (.d _) (.cons (.d _) (.cons (.d _) (.cons (.d _) (.cons (.d _) (.cons (.d _) (.cons (.d _) (.cons (.d _) (.cons (.d _) (.cons (.d _) (.cons (.d _) (.cons (.d _) (.cons (.d _) (.cons (.d _) (.cons (.d _) (.cons (.d _) (.cons (.d _) (.cons (.d _) .nil)))))))))))))))))))))))))) (.cons (.agg (.cons (.d _) (.cons (.d _) (.cons (.d _) (.cons (.d _) (.cons (.d _) .nil)))))) (.cons (.one (.d _)) (.cons (.one (.d _)) .nil))))) Z<|RunA.rd Z Z Z (Q1 (Jd Z)) Z ?_
 refine RunA.nil ⟨?ex,_,_,Z,?_⟩
 case ex=>exact trivial
 refine Jp (st':=⟨[(3,.v (.one (.ptr 0 0))),(5,.v (.one (.ptr 1 0))),(7,.v (.one (dI s1))),(8,.v (.one (dI x13)))],[(0,.cells 45 (cE a1)),(1,.cells 116 [dS a0,dA 2 ([a1.name]:List Bs),dI a1.kind,J6 a1.name,dI a1.params,dI a1.ty.kind,dI a1.ty.index,J6 a1.ty.name,dS a1.ty.levels,dS a1.ty.kids,dI a1.value.kind,dI a1.value.index,J6 a1.value.name,dS a1.value.levels,dS a1.value.kids,dI a1.fixed,dS a1.ctors,dI a1.rcr.params,dI a1.rcr.ty.kind,dI a1.rcr.ty.index,J6 a1.rcr.ty.name,dS a1.rcr.ty.levels,dS a1.rcr.ty.kids,dS a1.rcr.rules,dS a1.funs])],[(2,some ⟨9,1,(Enc.encL ([a1.name]:List Bs)).length,[]⟩)],3,161,[]⟩) (sL (Nat.zero_le _) Z Z Z Z Z)<|Q3<|Q4<|Q0<|rM Z Z Z<|rR Z Z Z (Q8 Z Z Z)<|Q5<|Q3 ?_
 refine Qe (b:=(x13 != 0)) Z (fun c14=>?_) (fun c14=>?_)
 replace h1:=Qf c14 h1
 refine Q4<|Q0<|rM Z Z Z<|rA Z Z Z<|Q5<|Q3<|Qp ?_
 have e:=sI h1;subst e
 have e_:_=_:=ho1
 subst e_
 try dsimp only [Sum.elim_inl,Sum.elim_inr] at h0
 have e:=sI h0;subst e
 exact Qn (fun _ _ h=>h) Z (Qm Z .nil) (.cons (.one (.d _)) .nil)
 replace h1:=Qg c14 h1
 refine Qj<|Qk<|Q3<|Q0<|rM Z Z Z<|rR Z Z Z (Q8 Z Z Z)<|rA Z Z Z<|Q5 ?_
 have e:=sI h1;subst e
 refine QJ (Ja (s1+1)) (sL (Nat.zero_le _) Z Z Z Z Z) ho1
 replace h1:=Qg c11 h1
 refine QW<|Qr<|Qr ?_
 have e:=sI h1;subst e
 have e_:_=_:=ho1
 subst e_
 exact QO () (sL (Nat.zero_le _) Z Z Z Z Z) h0
 intro o9 h0
 unfold Xv at h0
 refine QF<|Q3<|Q4<|Q0<|rR Z Z Z (QH (a1:Dcl) Jq Z Z) ?_
 refine Qd h0 (fun x15 hx15 h0=>?_)
 refine Qb Z Z (lb Z) (Qh (WX a1 x15 hx15) Z (.cons (.agg (.cons (.d _) (.cons (.d _) (.cons (.d _) (.cons (.d _) (.cons (.d _) (.cons (.d _) (.cons (.d _) (.cons (.d _) (.cons (.d _) (.cons (.d _) (.cons (.d _) (.cons (.d _) (.cons (.d _) (.cons (.d _) (.cons (.d _) (.cons (.d _) (.cons (.d _) (.cons (.d _) (.cons (.d _) (.cons (.d _) (.cons (.d _) (.cons (.d _) (.cons (.d _) .nil)))))))))))))))))))))))) .nil))<|rA Z Z Z<|Q5<|Q3<|Q4<|Q0<|rM Z Z Z<|rM Z Z Z<|rR Z Z Z (Qx (α:=Bs) Ye Z (.d _))<|rR Z Z Z (Q8 Z Z Z) ?_
 refine Yt h0 (fun g16 h0=>?_)
 refine rR Z Z Z (Gl (α:=Bs) Ye Z (.d _) Z g16)<|rR Z Z Z (Q2 K2 Z)<|QC Z Z (Qz WJ Z Z Z Z (lb Z) Z)<|Q5<|Q3<|Q4<|Q4<|Q0<|rR Z Z Z (Qi Z6 Z Z Z Z)<|rR Z Z Z (Q2 Jo Z)<|rR Z Z Z (Q2 Zq Z)<|rR Z Z Z (Qi QR Z Z Z Z)<|rR Z Z Z (Q2 Jo Z)<|rR Z Z Z (Q2 YJ Z) ?_
 refine rR Z Z Z (Q6 QG Z Z Z) ?_
 refine Qd h0 (fun x17 hx17 h0=>?_)
 refine Qb Z Z (lb Z) (Qh (Kz (⟨a0,(x15.take (Ja ((x15.length:Int) - 1)).toNat),a1⟩:Rsc) a1.rcr.ty 0 a1.rcr.params x17 hx17) Z (.cons (.agg (.cons (.d _) (.cons (.d _) (.cons (.d _) (.cons (.d _) (.cons (.d _) (.cons (.d _) (.cons (.d _) (.cons (.d _) (.cons (.d _) (.cons (.d _) (.cons (.d _) (.cons (.d _) (.cons (.d _) (.cons (.d _) (.cons (.d _) (.cons (.d _) (.cons (.d _) (.cons (.d _) (.cons (.d _) (.cons (.d _) (.cons (.d _) (.cons (.d _) (.cons (.d _) (.cons (.d _) (.cons (.d _) .nil)))))))))))))))))))))))))) (.cons (.agg (.cons (.d _) (.cons (.d _) (.cons (.d _) (.cons (.d _) (.cons (.d _) .nil)))))) (.cons (.one (.d _)) (.cons (.one (.d _)) .nil)))))<|rA Z Z Z<|Q5<|Q3<|Q4<|Q0<|rM Z Z Z<|rR Z Z Z (Q8 Z Z Z)<|Q5<|Q3 ?_
 refine Qe (b:=(x17 != 0)) Z (fun c18=>?_) (fun c18=>?_)
 replace h0:=Qf c18 h0
 refine Q4<|Q0<|rM Z Z Z<|rA Z Z Z<|Q5<|Q3<|Qp ?_
 have e:=sI h0;subst e
 exact Qn (fun _ _ h=>h) Z (Qm Z .nil) (.cons (.one (.d _)) .nil)
 replace h0:=Qg c18 h0
 refine Qj<|Q3<|Q4<|Q0<|rM Z Z Z<|rR Z Z Z (Q2 K2 Z)<|QC Z Z (Qz WJ Z Z Z Z (lb Z) Z)<|Q5<|Q3<|Q4<|Q0<|rA Z Z Z<|Q5<|Q3 ?_
 refine Ql ?_
 refine QQ 3 (fun (o19:Unit)=>⟨[],[(0,.cells 45 (cE a1)),(1,.cells 116 [dS a0,dS x15,dI a1.kind,J6 a1.name,dI a1.params,dI a1.ty.kind,dI a1.ty.index,J6 a1.ty.name,dS a1.ty.levels,dS a1.ty.kids,dI a1.value.kind,dI a1.value.index,J6 a1.value.name,dS a1.value.levels,dS a1.value.kids,dI a1.fixed,dS a1.ctors,dI a1.rcr.params,dI a1.rcr.ty.kind,dI a1.rcr.ty.index,J6 a1.rcr.ty.name,dS a1.rcr.ty.levels,dS a1.rcr.ty.kids,dS a1.rcr.rules,dS a1.funs])],[(2,some ⟨9,1,(Enc.encL ([a1.name]:List Bs)).length,[]⟩)],3,161,[]⟩) (fun (o19:Unit)=>(some 0)=some r) ?_ ?_
 refine Qd h0 (fun o20 hl1 h0=>?_)
 refine QP (X8 a1 a0 x15) (fun s1=>⟨[(3,.v (.one (.ptr 0 0))),(5,.v (.one (.ptr 1 0))),(11,.v (.one (dI s1)))],[(0,.cells 45 (cE a1)),(1,.cells 116 [dS a0,dS x15,dI a1.kind,J6 a1.name,dI a1.params,dI a1.ty.kind,dI a1.ty.index,J6 a1.ty.name,dS a1.ty.levels,dS a1.ty.kids,dI a1.value.kind,dI a1.value.index,J6 a1.value.name,dS a1.value.levels,dS a1.value.kids,dI a1.fixed,dS a1.ctors,dI a1.rcr.params,dI a1.rcr.ty.kind,dI a1.rcr.ty.index,J6 a1.rcr.ty.name,dS a1.rcr.ty.levels,dS a1.rcr.ty.kids,dS a1.rcr.rules,dS a1.funs])],[(2,some ⟨9,1,(Enc.encL ([a1.name]:List Bs)).length,[]⟩)],3,161,[]⟩) 0 o20 (sL (Nat.zero_le _) Z Z Z Z Z) hl1 (fun s1 n1 oo1 h1 ho1=>?_)
 unfold X8 at h1
 refine Q4<|Q4<|Q0<|rM Z Z Z<|rR Z Z Z (Q2 Jo Z)<|rR Z Z Z (Q2 YZ Z)<|rR Z Z Z (Q6 JH Z Z Z)<|rR Z Z Z (Qx (α:=Tm) Jk Z (.d _))<|rR Z Z Z (Q8 Z Z Z)<|Q5<|Q3 ?_
 refine Qe (b:=(decide (s1 < (a1.rcr.rules.length:Int)))) Z (fun c21=>?_) (fun c21=>?_)
 replace h1:=Qf c21 h1
 refine Qj<|Q3<|Q4<|Ql<|Q4 ?_
 refine J4 [] [] JV (by kernel_rfl) (by kernel_rfl) (by kernel_rfl) ?_
 refine RunA.rd Z Z Z (Q1 (Qi Z6 Z Z Z Z)) Z<|RunA.rd Z Z Z (Q1 (Q2 Jo Z)) Z<|RunA.rd Z Z Z (Q1 (Q2 YZ Z)) Z<|RunA.rd Z Z Z (Q1 (Q6 JH Z Z Z)) Z<|RunA.rd Z Z Z (Q1 (Qq Z)) Z ?_
 refine Qd h1 (fun x22 hx22 h1=>?_)
 refine RunA.rd Z Z Z (Q1 (Qt (α:=Tm) Jk Z (.d _) Z hx22)) Z<|RunA.rd Z Z Z (Q1 (Qu (x22:Tm) QR Z)) Z<|RunA.rd Z Z Z (Q1 (Q2 Jo Z)) Z<|RunA.rd Z Z Z (Q1 (Q2 YJ Z)) Z<|RunA.rd Z Z Z (Q1 (Q6 QG Z Z Z)) Z ?_
 refine Qd h1 (fun x23 hx23 h1=>?_)
 refine RunA.rd Z Z Z (Qh (Kz (⟨a0,x15,a1⟩:Rsc) x22 0 a1.rcr.params x23 hx23) Z (.cons (.agg (.cons (.d _) (.cons (.d _) (.cons (.d _) (.cons (.d _) (.cons (.d _) (.cons (.d _) (.cons (.d _) (.cons (.d _) (.cons (.d _) (.cons (.d _) (.cons (.d _) (.cons (.d _) (.cons (.d _) (.cons (.d _) (.cons (.d _) (.cons (.d _) (.cons (.d _) (.cons (.d _) (.cons (.d _) (.cons (.d _) (.cons (.d _) (.cons (.d _) (.cons (.d _) (.cons (.d _) (.cons (.d _) .nil)))))))))))))))))))))))))) (.cons (.agg (.cons (.d _) (.cons (.d _) (.cons (.d _) (.cons (.d _) (.cons (.d _) .nil)))))) (.cons (.one (.d _)) (.cons (.one (.d _)) .nil))))) Z<|RunA.rd Z Z Z (Q1 (Jd Z)) Z ?_
 refine RunA.nil ⟨?ex,_,_,Z,?_⟩
 case ex=>exact trivial
 refine Jp (st':=⟨[(3,.v (.one (.ptr 0 0))),(5,.v (.one (.ptr 1 0))),(11,.v (.one (dI s1))),(12,.v (.one (dI x23)))],[(0,.cells 45 (cE a1)),(1,.cells 116 [dS a0,dS x15,dI a1.kind,J6 a1.name,dI a1.params,dI a1.ty.kind,dI a1.ty.index,J6 a1.ty.name,dS a1.ty.levels,dS a1.ty.kids,dI a1.value.kind,dI a1.value.index,J6 a1.value.name,dS a1.value.levels,dS a1.value.kids,dI a1.fixed,dS a1.ctors,dI a1.rcr.params,dI a1.rcr.ty.kind,dI a1.rcr.ty.index,J6 a1.rcr.ty.name,dS a1.rcr.ty.levels,dS a1.rcr.ty.kids,dS a1.rcr.rules,dS a1.funs])],[(2,some ⟨9,1,(Enc.encL ([a1.name]:List Bs)).length,[]⟩)],3,161,[]⟩) (sL (Nat.zero_le _) Z Z Z Z Z)<|Q3<|Q4<|Q0<|rM Z Z Z<|rR Z Z Z (Q8 Z Z Z)<|Q5<|Q3 ?_
 refine Qe (b:=(x23 != 0)) Z (fun c24=>?_) (fun c24=>?_)
 replace h1:=Qf c24 h1
 refine Q4<|Q0<|rM Z Z Z<|rA Z Z Z<|Q5<|Q3<|Qp ?_
 have e:=sI h1;subst e
 have e_:_=_:=ho1
 subst e_
 try dsimp only [Sum.elim_inl,Sum.elim_inr] at h0
 have e:=sI h0;subst e
 exact Qn (fun _ _ h=>h) Z (Qm Z .nil) (.cons (.one (.d _)) .nil)
 replace h1:=Qg c24 h1
 refine Qj<|Qk<|Q3<|Q0<|rM Z Z Z<|rR Z Z Z (Q8 Z Z Z)<|rA Z Z Z<|Q5 ?_
 have e:=sI h1;subst e
 refine QJ (Ja (s1+1)) (sL (Nat.zero_le _) Z Z Z Z Z) ho1
 replace h1:=Qg c21 h1
 refine QW<|Qr<|Qr ?_
 have e:=sI h1;subst e
 have e_:_=_:=ho1
 subst e_
 exact QO () (sL (Nat.zero_le _) Z Z Z Z Z) h0
 intro o19 h0
 refine QF<|Qk<|Q3<|Q4<|Q0<|rA Z Z Z<|Q5<|Q3<|Qp ?_
 have e:=sI h0;subst e
 exact Qn (fun _ _ h=>h) Z (Qm Z .nil) (.cons (.one (.d _)) .nil)
 replace h0:=Qg c8 h0
 refine Q4<|Q0<|rR Z Z Z (Q8 Z Z Z)<|rA Z Z Z<|Q5<|Q3 ?_
 refine Qe (b:=(a1.kind==4)) Z (fun c25=>?_) (fun c25=>?_)
 replace h0:=Qf c25 h0
 refine Q4<|Q4<|Q0<|rA Z Z Z<|Q5<|Q3<|Ql ?_
 refine QQ 5 (fun (o26:Unit)=>⟨[(3,.v (.one (.ptr 0 0))),(5,.v (.one (.ptr 1 0)))],[(0,.cells 45 (cE a1)),(1,.cells 116 [dS a0,dN,dI a1.kind,J6 a1.name,dI a1.params,dI a1.ty.kind,dI a1.ty.index,J6 a1.ty.name,dS a1.ty.levels,dS a1.ty.kids,dI a1.value.kind,dI a1.value.index,J6 a1.value.name,dS a1.value.levels,dS a1.value.kids,dI a1.fixed,dS a1.ctors,dI a1.rcr.params,dI a1.rcr.ty.kind,dI a1.rcr.ty.index,J6 a1.rcr.ty.name,dS a1.rcr.ty.levels,dS a1.rcr.ty.kids,dS a1.rcr.rules,dS a1.funs])],[],2,161,[]⟩) (fun (o26:Unit)=>(Option.bind (Dz a1) fun (x27:(List Bs)) =>
   Option.bind (QE (GD a1 a0 x27) QU 0) (Sum.elim (fun (o28:Unit)=>some 0) (fun o=>some o)))=some r) ?_ ?_
 refine Qd h0 (fun o27 hl1 h0=>?_)
 refine QP (Xu a1 a0) (fun s1=>⟨[(3,.v (.one (.ptr 0 0))),(5,.v (.one (.ptr 1 0))),(13,.v (.one (dI s1)))],[(0,.cells 45 (cE a1)),(1,.cells 116 [dS a0,dN,dI a1.kind,J6 a1.name,dI a1.params,dI a1.ty.kind,dI a1.ty.index,J6 a1.ty.name,dS a1.ty.levels,dS a1.ty.kids,dI a1.value.kind,dI a1.value.index,J6 a1.value.name,dS a1.value.levels,dS a1.value.kids,dI a1.fixed,dS a1.ctors,dI a1.rcr.params,dI a1.rcr.ty.kind,dI a1.rcr.ty.index,J6 a1.rcr.ty.name,dS a1.rcr.ty.levels,dS a1.rcr.ty.kids,dS a1.rcr.rules,dS a1.funs])],[],2,161,[]⟩) 0 o27 (sL (Nat.zero_le _) Z Z Z Z Z) hl1 (fun s1 n1 oo1 h1 ho1=>?_)
 unfold Xu at h1
 refine Q4<|Q4<|Q0<|rM Z Z Z<|rR Z Z Z (Q2 Jf Z)<|rR Z Z Z (Q6 JU Z Z Z)<|rR Z Z Z (Qx (α:=Fn) JA Z (.d _))<|rR Z Z Z (Q8 Z Z Z)<|Q5<|Q3 ?_
 refine Qe (b:=(decide (s1 < (a1.funs.length:Int)))) Z (fun c28=>?_) (fun c28=>?_)
 replace h1:=Qf c28 h1
 refine Qj<|Q3<|Q4<|Ql<|Q4 ?_
 refine J4 [] [] JV (by kernel_rfl) (by kernel_rfl) (by kernel_rfl) ?_
 refine RunA.rd Z Z Z (Q1 (Qi Z6 Z Z Z Z)) Z<|RunA.rd Z Z Z (Q1 (Q2 Jf Z)) Z<|RunA.rd Z Z Z (Q1 (Q6 JU Z Z Z)) Z<|RunA.rd Z Z Z (Q1 (Qq Z)) Z ?_
 refine Qd h1 (fun x29 hx29 h1=>?_)
 refine RunA.rd Z Z Z (Q1 (Qt (α:=Fn) JA Z (.d _) Z hx29)) Z<|RunA.rd Z Z Z (Q1 (J5 ZZ Z)) Z<|RunA.rd Z Z Z (Q1 (Jr QR Z Z Z)) Z<|RunA.rd Z Z Z (Q1 (Q2 Jz Z)) Z<|RunA.rd Z Z Z (Q1 (Q6 QG Z Z Z)) Z ?_
 refine Qd h1 (fun x30 hx30 h1=>?_)
 refine RunA.rd Z Z Z (Qh (Kz (⟨a0,([]:List Bs),a1⟩:Rsc) x29.ty 0 a1.params x30 hx30) Z (.cons (.agg (.cons (.d _) (.cons (.nil _) (.cons (.d _) (.cons (.d _) (.cons (.d _) (.cons (.d _) (.cons (.d _) (.cons (.d _) (.cons (.d _) (.cons (.d _) (.cons (.d _) (.cons (.d _) (.cons (.d _) (.cons (.d _) (.cons (.d _) (.cons (.d _) (.cons (.d _) (.cons (.d _) (.cons (.d _) (.cons (.d _) (.cons (.d _) (.cons (.d _) (.cons (.d _) (.cons (.d _) (.cons (.d _) .nil)))))))))))))))))))))))))) (.cons (.agg (.cons (.d _) (.cons (.d _) (.cons (.d _) (.cons (.d _) (.cons (.d _) .nil)))))) (.cons (.one (.d _)) (.cons (.one (.d _)) .nil))))) Z<|RunA.rd Z Z Z (Q1 (Jd Z)) Z ?_
 refine RunA.nil ⟨?ex,_,_,Z,?_⟩
 case ex=>exact trivial
 refine Jp (st':=⟨[(3,.v (.one (.ptr 0 0))),(5,.v (.one (.ptr 1 0))),(13,.v (.one (dI s1))),(14,.v (.one (dI x30)))],[(0,.cells 45 (cE a1)),(1,.cells 116 [dS a0,dN,dI a1.kind,J6 a1.name,dI a1.params,dI a1.ty.kind,dI a1.ty.index,J6 a1.ty.name,dS a1.ty.levels,dS a1.ty.kids,dI a1.value.kind,dI a1.value.index,J6 a1.value.name,dS a1.value.levels,dS a1.value.kids,dI a1.fixed,dS a1.ctors,dI a1.rcr.params,dI a1.rcr.ty.kind,dI a1.rcr.ty.index,J6 a1.rcr.ty.name,dS a1.rcr.ty.levels,dS a1.rcr.ty.kids,dS a1.rcr.rules,dS a1.funs])],[],2,161,[]⟩) (sL (Nat.zero_le _) Z Z Z Z Z)<|Q3<|Q4<|Q0<|rM Z Z Z<|rR Z Z Z (Q8 Z Z Z)<|Q5<|Q3 ?_
 refine Qe (b:=(x30 != 0)) Z (fun c31=>?_) (fun c31=>?_)
 replace h1:=Qf c31 h1
 refine Q4<|Q0<|rM Z Z Z<|rA Z Z Z<|Q5<|Q3<|Qp ?_
 have e:=sI h1;subst e
 have e_:_=_:=ho1
 subst e_
 try dsimp only [Sum.elim_inl,Sum.elim_inr] at h0
 have e:=sI h0;subst e
 exact Qn (fun _ _ h=>h) Z (Qm Z .nil) (.cons (.one (.d _)) .nil)
 replace h1:=Qg c31 h1
 refine Qj<|Qk<|Q3<|Q0<|rM Z Z Z<|rR Z Z Z (Q8 Z Z Z)<|rA Z Z Z<|Q5 ?_
 have e:=sI h1;subst e
 refine QJ (Ja (s1+1)) (sL (Nat.zero_le _) Z Z Z Z Z) ho1
 replace h1:=Qg c28 h1
 refine QW<|Qr<|Qr ?_
 have e:=sI h1;subst e
 have e_:_=_:=ho1
 subst e_
 exact QO () (sL (Nat.zero_le _) Z Z Z Z Z) h0
 intro o26 h0
 refine QF<|Q3<|Q4<|Q0<|rR Z Z Z (QH (a1:Dcl) Jq Z Z) ?_
 refine Qd h0 (fun x32 hx32 h0=>?_)
 refine Qb Z Z (lb Z) (Qh (WX a1 x32 hx32) Z (.cons (.agg (.cons (.d _) (.cons (.d _) (.cons (.d _) (.cons (.d _) (.cons (.d _) (.cons (.d _) (.cons (.d _) (.cons (.d _) (.cons (.d _) (.cons (.d _) (.cons (.d _) (.cons (.d _) (.cons (.d _) (.cons (.d _) (.cons (.d _) (.cons (.d _) (.cons (.d _) (.cons (.d _) (.cons (.d _) (.cons (.d _) (.cons (.d _) (.cons (.d _) (.cons (.d _) .nil)))))))))))))))))))))))) .nil))<|rR Z Z Z (Q2 K2 Z)<|QC Z Z (Qz WJ Z Z Z Z (lb Z) Z)<|Q5<|Q3<|Q4<|Q0<|rA Z Z Z<|Q5<|Q3<|Ql ?_
 refine QQ 7 (fun (o33:Unit)=>⟨[],[(0,.cells 45 (cE a1)),(1,.cells 116 [dS a0,dS x32,dI a1.kind,J6 a1.name,dI a1.params,dI a1.ty.kind,dI a1.ty.index,J6 a1.ty.name,dS a1.ty.levels,dS a1.ty.kids,dI a1.value.kind,dI a1.value.index,J6 a1.value.name,dS a1.value.levels,dS a1.value.kids,dI a1.fixed,dS a1.ctors,dI a1.rcr.params,dI a1.rcr.ty.kind,dI a1.rcr.ty.index,J6 a1.rcr.ty.name,dS a1.rcr.ty.levels,dS a1.rcr.ty.kids,dS a1.rcr.rules,dS a1.funs])],[],2,161,[]⟩) (fun (o33:Unit)=>(some 0)=some r) ?_ ?_
 refine Qd h0 (fun o34 hl1 h0=>?_)
 refine QP (GD a1 a0 x32) (fun s1=>⟨[(3,.v (.one (.ptr 0 0))),(5,.v (.one (.ptr 1 0))),(15,.v (.one (dI s1)))],[(0,.cells 45 (cE a1)),(1,.cells 116 [dS a0,dS x32,dI a1.kind,J6 a1.name,dI a1.params,dI a1.ty.kind,dI a1.ty.index,J6 a1.ty.name,dS a1.ty.levels,dS a1.ty.kids,dI a1.value.kind,dI a1.value.index,J6 a1.value.name,dS a1.value.levels,dS a1.value.kids,dI a1.fixed,dS a1.ctors,dI a1.rcr.params,dI a1.rcr.ty.kind,dI a1.rcr.ty.index,J6 a1.rcr.ty.name,dS a1.rcr.ty.levels,dS a1.rcr.ty.kids,dS a1.rcr.rules,dS a1.funs])],[],2,161,[]⟩) 0 o34 (sL (Nat.zero_le _) Z Z Z Z Z) hl1 (fun s1 n1 oo1 h1 ho1=>?_)
 unfold GD at h1
 refine Q4<|Q4<|Q0<|rM Z Z Z<|rR Z Z Z (Q2 Jf Z)<|rR Z Z Z (Q6 JU Z Z Z)<|rR Z Z Z (Qx (α:=Fn) JA Z (.d _))<|rR Z Z Z (Q8 Z Z Z)<|Q5<|Q3 ?_
 refine Qe (b:=(decide (s1 < (a1.funs.length:Int)))) Z (fun c35=>?_) (fun c35=>?_)
 replace h1:=Qf c35 h1
 refine Qj<|Q3<|Q4<|Ql<|Q4 ?_
 refine J4 [] [] JV (by kernel_rfl) (by kernel_rfl) (by kernel_rfl) ?_
 refine RunA.rd Z Z Z (Q1 (Qi Z6 Z Z Z Z)) Z<|RunA.rd Z Z Z (Q1 (Q2 Jf Z)) Z<|RunA.rd Z Z Z (Q1 (Q6 JU Z Z Z)) Z<|RunA.rd Z Z Z (Q1 (Qq Z)) Z ?_
 refine Qd h1 (fun x36 hx36 h1=>?_)
 refine RunA.rd Z Z Z (Q1 (Qt (α:=Fn) JA Z (.d _) Z hx36)) Z<|RunA.rd Z Z Z (Q1 (J5 XX Z)) Z<|RunA.rd Z Z Z (Q1 (Jr Gy Z Z Z)) Z<|RunA.rd Z Z Z (Q1 (Q2 Jf Z)) Z<|RunA.rd Z Z Z (Q1 (Q6 JU Z Z Z)) Z<|RunA.rd Z Z Z (Q1 (Qq Z)) Z ?_
 refine Qd h1 (fun x37 hx37 h1=>?_)
 refine RunA.rd Z Z Z (Q1 (Qt (α:=Fn) JA Z (.d _) Z hx37)) Z<|RunA.rd Z Z Z (Q1 (J5 KK Z)) Z<|RunA.rd Z Z Z (Q1 (Jj QG Z Z)) Z ?_
 refine Qd h1 (fun x38 hx38 h1=>?_)
 refine RunA.rd Z Z Z (Qh (m73_ok (⟨a0,x32,a1⟩:Rsc) x36.tree x37.arity 0 x38 hx38) Z (.cons (.agg (.cons (.d _) (.cons (.d _) (.cons (.d _) (.cons (.d _) (.cons (.d _) (.cons (.d _) (.cons (.d _) (.cons (.d _) (.cons (.d _) (.cons (.d _) (.cons (.d _) (.cons (.d _) (.cons (.d _) (.cons (.d _) (.cons (.d _) (.cons (.d _) (.cons (.d _) (.cons (.d _) (.cons (.d _) (.cons (.d _) (.cons (.d _) (.cons (.d _) (.cons (.d _) (.cons (.d _) (.cons (.d _) .nil)))))))))))))))))))))))))) (.cons (.agg (.cons (.d _) (.cons (.d _) (.cons (.d _) (.cons (.d _) (.cons (.d _) (.cons (.d _) (.cons (.d _) (.cons (.d _) .nil))))))))) (.cons (.one (.d _)) (.cons (.one (.d _)) .nil))))) Z<|RunA.rd Z Z Z (Q1 (Jd Z)) Z ?_
 refine RunA.nil ⟨?ex,_,_,Z,?_⟩
 case ex=>exact trivial
 refine Jp (st':=⟨[(3,.v (.one (.ptr 0 0))),(5,.v (.one (.ptr 1 0))),(15,.v (.one (dI s1))),(16,.v (.one (dI x38)))],[(0,.cells 45 (cE a1)),(1,.cells 116 [dS a0,dS x32,dI a1.kind,J6 a1.name,dI a1.params,dI a1.ty.kind,dI a1.ty.index,J6 a1.ty.name,dS a1.ty.levels,dS a1.ty.kids,dI a1.value.kind,dI a1.value.index,J6 a1.value.name,dS a1.value.levels,dS a1.value.kids,dI a1.fixed,dS a1.ctors,dI a1.rcr.params,dI a1.rcr.ty.kind,dI a1.rcr.ty.index,J6 a1.rcr.ty.name,dS a1.rcr.ty.levels,dS a1.rcr.ty.kids,dS a1.rcr.rules,dS a1.funs])],[],2,161,[]⟩) (sL (Nat.zero_le _) Z Z Z Z Z)<|Q3<|Q4<|Q0<|rM Z Z Z<|rR Z Z Z (Q8 Z Z Z)<|Q5<|Q3 ?_
 refine Qe (b:=(x38 != 0)) Z (fun c39=>?_) (fun c39=>?_)
 replace h1:=Qf c39 h1
 refine Q4<|Q0<|rM Z Z Z<|rA Z Z Z<|Q5<|Q3<|Qp ?_
 have e:=sI h1;subst e
 have e_:_=_:=ho1
 subst e_
 try dsimp only [Sum.elim_inl,Sum.elim_inr] at h0
 have e:=sI h0;subst e
 exact Qn (fun _ _ h=>h) Z (Qm Z .nil) (.cons (.one (.d _)) .nil)
 replace h1:=Qg c39 h1
 refine Qj<|Qk<|Q3<|Q0<|rM Z Z Z<|rR Z Z Z (Q8 Z Z Z)<|rA Z Z Z<|Q5 ?_
 have e:=sI h1;subst e
 refine QJ (Ja (s1+1)) (sL (Nat.zero_le _) Z Z Z Z Z) ho1
 replace h1:=Qg c35 h1
 refine QW<|Qr<|Qr ?_
 have e:=sI h1;subst e
 have e_:_=_:=ho1
 subst e_
 exact QO () (sL (Nat.zero_le _) Z Z Z Z Z) h0
 intro o33 h0
 refine QF<|Qk<|Q3<|Q4<|Q0<|rA Z Z Z<|Q5<|Q3<|Qp ?_
 have e:=sI h0;subst e
 exact Qn (fun _ _ h=>h) Z (Qm Z .nil) (.cons (.one (.d _)) .nil)
 replace h0:=Qg c25 h0
 refine Qj<|Qk<|Q3<|Q4<|Q0<|rA Z Z Z<|Q5<|Q3<|Qp ?_
 have e:=sI h0;subst e
 exact Qn (fun _ _ h=>h) Z (Qm Z .nil) (.cons (.one (.d _)) .nil)
 replace h0:=Qg c1 h0
 refine Qj<|Q3<|Q4<|Q4<|Q0<|rR Z Z Z (Q2 JN Z)<|rR Z Z Z (Q6 QG Z Z Z)<|Q5<|Q3<|Ql<|Q4<|Q4<|Q0<|rR Z Z Z (Q8 Z Z Z) ?_
 refine rA Z Z Z<|Q5<|Q3 ?_
 refine QD (fun (v40:Bool)=>⟨[(3,.v (.one (.ptr 0 0))),(5,.v (.one (.ptr 1 0))),(33,.v (.one (dI a1.kind))),(34,.v (.one (dB v40)))],[(0,.cells 45 (cE a1)),(1,.cells 116 [dS a0,dN,dI a1.kind,J6 a1.name,dI a1.params,dI a1.ty.kind,dI a1.ty.index,J6 a1.ty.name,dS a1.ty.levels,dS a1.ty.kids,dI a1.value.kind,dI a1.value.index,J6 a1.value.name,dS a1.value.levels,dS a1.value.kids,dI a1.fixed,dS a1.ctors,dI a1.rcr.params,dI a1.rcr.ty.kind,dI a1.rcr.ty.index,J6 a1.rcr.ty.name,dS a1.rcr.ty.levels,dS a1.rcr.ty.kids,dS a1.rcr.rules,dS a1.funs])],[],2,161,[]⟩) (fun (v40:Bool)=>(ZR v40 a0 a1)=some r) ?_ ?_
 refine Qd h0 (fun w1_ h1 h0=>?_)
 refine Qe (b:=(a1.kind==1)) Z (fun c41=>?_) (fun c41=>?_)
 replace h1:=Qf c41 h1
 refine Qj ?_
 have e:=sI h1;subst e
 exact Q9 (a1.kind==1) (sL (Nat.zero_le _) Z Z Z Z Z) h0
 replace h1:=Qg c41 h1
 refine Q0<|rR Z Z Z (Q8 Z Z Z)<|rA Z Z Z<|Q5 ?_
 have e:=sI h1;subst e
 exact Q9 (a1.kind==2) (sL (Nat.zero_le _) Z Z Z Z Z) h0
 intro v40 h0
 unfold ZR at h0
 refine Q3 ?_
 refine Qe (b:=v40) Z (fun c42=>?_) (fun c42=>?_)
 replace h0:=Qf c42 h0
 refine Q4<|Q0<|rR Z Z Z (Qi Z6 Z Z Z Z)<|rR Z Z Z (Q2 Kk Z)<|rR Z Z Z (Qi QR Z Z Z Z)<|rR Z Z Z (Q2 Jz Z)<|rR Z Z Z (Q6 QG Z Z Z) ?_
 refine Qd h0 (fun x43 hx43 h0=>?_)
 refine Qb Z Z (lb Z) (Qh (Kz (⟨a0,([]:List Bs),a1⟩:Rsc) a1.value 0 a1.params x43 hx43) Z (.cons (.agg (.cons (.d _) (.cons (.nil _) (.cons (.d _) (.cons (.d _) (.cons (.d _) (.cons (.d _) (.cons (.d _) (.cons (.d _) (.cons (.d _) (.cons (.d _) (.cons (.d _) (.cons (.d _) (.cons (.d _) (.cons (.d _) (.cons (.d _) (.cons (.d _) (.cons (.d _) (.cons (.d _) (.cons (.d _) (.cons (.d _) (.cons (.d _) (.cons (.d _) (.cons (.d _) (.cons (.d _) (.cons (.d _) .nil)))))))))))))))))))))))))) (.cons (.agg (.cons (.d _) (.cons (.d _) (.cons (.d _) (.cons (.d _) (.cons (.d _) .nil)))))) (.cons (.one (.d _)) (.cons (.one (.d _)) .nil)))))<|rA Z Z Z<|Q5<|Q3<|Qp ?_
 have e:=sI h0;subst e
 exact Qn (fun _ _ h=>h) Z (Qm Z .nil) (.cons (.one (.d _)) .nil)
 replace h0:=Qg c42 h0
 refine Q4<|Q0<|rR Z Z Z (Q8 Z Z Z)<|rA Z Z Z<|Q5<|Q3 ?_
 refine Qe (b:=(a1.kind==3)) Z (fun c44=>?_) (fun c44=>?_)
 replace h0:=Qf c44 h0
 refine Q4<|Q0<|rR Z Z Z (Q2 JY Z)<|rR Z Z Z (Q6 JG Z Z Z)<|Qb Z Z (lb Z) (JW (α:=Bs) (a1.name) Ye Dd Z Z (lb Z) (lb Z) Z Z (.cons (.d _) .nil) Z)<|rR Z Z Z (Q2 K2 Z)<|QC Z Z (Qz WJ Z Z Z Z (lb Z) Z)<|Q5<|Q3<|Q4<|Q4<|Q0<|rA Z Z Z<|Q5 ?_
 refine Q3<|Ql ?_
 refine QQ 1 (fun (o45:Unit)=>⟨[(3,.v (.one (.ptr 0 0))),(5,.v (.one (.ptr 1 0)))],[(0,.cells 45 (cE a1)),(1,.cells 116 [dS a0,dA 2 ([a1.name]:List Bs),dI a1.kind,J6 a1.name,dI a1.params,dI a1.ty.kind,dI a1.ty.index,J6 a1.ty.name,dS a1.ty.levels,dS a1.ty.kids,dI a1.value.kind,dI a1.value.index,J6 a1.value.name,dS a1.value.levels,dS a1.value.kids,dI a1.fixed,dS a1.ctors,dI a1.rcr.params,dI a1.rcr.ty.kind,dI a1.rcr.ty.index,J6 a1.rcr.ty.name,dS a1.rcr.ty.levels,dS a1.rcr.ty.kids,dS a1.rcr.rules,dS a1.funs])],[(2,some ⟨9,1,(Enc.encL ([a1.name]:List Bs)).length,[]⟩)],3,161,[]⟩) (fun (o45:Unit)=>(Xv a1 a0)=some r) ?_ ?_
 refine Qd h0 (fun o46 hl1 h0=>?_)
 refine QP (X9 a1 a0) (fun s1=>⟨[(3,.v (.one (.ptr 0 0))),(5,.v (.one (.ptr 1 0))),(7,.v (.one (dI s1)))],[(0,.cells 45 (cE a1)),(1,.cells 116 [dS a0,dA 2 ([a1.name]:List Bs),dI a1.kind,J6 a1.name,dI a1.params,dI a1.ty.kind,dI a1.ty.index,J6 a1.ty.name,dS a1.ty.levels,dS a1.ty.kids,dI a1.value.kind,dI a1.value.index,J6 a1.value.name,dS a1.value.levels,dS a1.value.kids,dI a1.fixed,dS a1.ctors,dI a1.rcr.params,dI a1.rcr.ty.kind,dI a1.rcr.ty.index,J6 a1.rcr.ty.name,dS a1.rcr.ty.levels,dS a1.rcr.ty.kids,dS a1.rcr.rules,dS a1.funs])],[(2,some ⟨9,1,(Enc.encL ([a1.name]:List Bs)).length,[]⟩)],3,161,[]⟩) 0 o46 (sL (Nat.zero_le _) Z Z Z Z Z) hl1 (fun s1 n1 oo1 h1 ho1=>?_)
 unfold X9 at h1
 refine Q4<|Q4<|Q0<|rM Z Z Z<|rR Z Z Z (Q2 Js Z)<|rR Z Z Z (Q6 Yd Z Z Z)<|rR Z Z Z (Qx (α:=Ctr) JX Z (.d _))<|rR Z Z Z (Q8 Z Z Z)<|Q5<|Q3 ?_
 refine Qe (b:=(decide (s1 < (a1.ctors.length:Int)))) Z (fun c47=>?_) (fun c47=>?_)
 replace h1:=Qf c47 h1
 refine Qj<|Q3<|Q4<|Ql<|Q4 ?_
 refine J4 [] [] JV (by kernel_rfl) (by kernel_rfl) (by kernel_rfl) ?_
 refine RunA.rd Z Z Z (Q1 (Qi Z6 Z Z Z Z)) Z<|RunA.rd Z Z Z (Q1 (Q2 Js Z)) Z<|RunA.rd Z Z Z (Q1 (Q6 Yd Z Z Z)) Z<|RunA.rd Z Z Z (Q1 (Qq Z)) Z ?_
 refine Qd h1 (fun x48 hx48 h1=>?_)
 refine RunA.rd Z Z Z (Q1 (Qt (α:=Ctr) JX Z (.d _) Z hx48)) Z<|RunA.rd Z Z Z (Q1 (J5 Za Z)) Z<|RunA.rd Z Z Z (Q1 (Jr QR Z Z Z)) Z<|RunA.rd Z Z Z (Q1 (Q2 Jz Z)) Z<|RunA.rd Z Z Z (Q1 (Q6 QG Z Z Z)) Z ?_
 refine Qd h1 (fun x49 hx49 h1=>?_)
 refine RunA.rd Z Z Z (Qh (Kz (⟨a0,[a1.name],a1⟩:Rsc) x48.ty 0 a1.params x49 hx49) Z (.cons (.agg (.cons (.d _) (.cons (.app _ _ _) (.cons (.d _) (.cons (.d _) (.cons (.d _) (.cons (.d _) (.cons (.d _) (.cons (.d _) (.cons (.d _) (.cons (.d _) (.cons (.d _) (.cons (.d _) (.cons (.d _) (.cons (.d _) (.cons (.d _) (.cons (.d _) (.cons (.d _) (.cons (.d _) (.cons (.d _) (.cons (.d _) (.cons (.d _) (.cons (.d _) (.cons (.d _) (.cons (.d _) (.cons (.d _) .nil)))))))))))))))))))))))))) (.cons (.agg (.cons (.d _) (.cons (.d _) (.cons (.d _) (.cons (.d _) (.cons (.d _) .nil)))))) (.cons (.one (.d _)) (.cons (.one (.d _)) .nil))))) Z<|RunA.rd Z Z Z (Q1 (Jd Z)) Z ?_
 refine RunA.nil ⟨?ex,_,_,Z,?_⟩
 case ex=>exact trivial
 refine Jp (st':=⟨[(3,.v (.one (.ptr 0 0))),(5,.v (.one (.ptr 1 0))),(7,.v (.one (dI s1))),(8,.v (.one (dI x49)))],[(0,.cells 45 (cE a1)),(1,.cells 116 [dS a0,dA 2 ([a1.name]:List Bs),dI a1.kind,J6 a1.name,dI a1.params,dI a1.ty.kind,dI a1.ty.index,J6 a1.ty.name,dS a1.ty.levels,dS a1.ty.kids,dI a1.value.kind,dI a1.value.index,J6 a1.value.name,dS a1.value.levels,dS a1.value.kids,dI a1.fixed,dS a1.ctors,dI a1.rcr.params,dI a1.rcr.ty.kind,dI a1.rcr.ty.index,J6 a1.rcr.ty.name,dS a1.rcr.ty.levels,dS a1.rcr.ty.kids,dS a1.rcr.rules,dS a1.funs])],[(2,some ⟨9,1,(Enc.encL ([a1.name]:List Bs)).length,[]⟩)],3,161,[]⟩) (sL (Nat.zero_le _) Z Z Z Z Z)<|Q3<|Q4<|Q0<|rM Z Z Z<|rR Z Z Z (Q8 Z Z Z)<|Q5<|Q3 ?_
 refine Qe (b:=(x49 != 0)) Z (fun c50=>?_) (fun c50=>?_)
 replace h1:=Qf c50 h1
 refine Q4<|Q0<|rM Z Z Z<|rA Z Z Z<|Q5<|Q3<|Qp ?_
 have e:=sI h1;subst e
 have e_:_=_:=ho1
 subst e_
 try dsimp only [Sum.elim_inl,Sum.elim_inr] at h0
 have e:=sI h0;subst e
 exact Qn (fun _ _ h=>h) Z (Qm Z .nil) (.cons (.one (.d _)) .nil)
 replace h1:=Qg c50 h1
 refine Qj<|Qk<|Q3<|Q0<|rM Z Z Z<|rR Z Z Z (Q8 Z Z Z)<|rA Z Z Z<|Q5 ?_
 have e:=sI h1;subst e
 refine QJ (Ja (s1+1)) (sL (Nat.zero_le _) Z Z Z Z Z) ho1
 replace h1:=Qg c47 h1
 refine QW<|Qr<|Qr ?_
 have e:=sI h1;subst e
 have e_:_=_:=ho1
 subst e_
 exact QO () (sL (Nat.zero_le _) Z Z Z Z Z) h0
 intro o45 h0
 unfold Xv at h0
 refine QF<|Q3<|Q4<|Q0<|rR Z Z Z (QH (a1:Dcl) Jq Z Z) ?_
 refine Qd h0 (fun x51 hx51 h0=>?_)
 refine Qb Z Z (lb Z) (Qh (WX a1 x51 hx51) Z (.cons (.agg (.cons (.d _) (.cons (.d _) (.cons (.d _) (.cons (.d _) (.cons (.d _) (.cons (.d _) (.cons (.d _) (.cons (.d _) (.cons (.d _) (.cons (.d _) (.cons (.d _) (.cons (.d _) (.cons (.d _) (.cons (.d _) (.cons (.d _) (.cons (.d _) (.cons (.d _) (.cons (.d _) (.cons (.d _) (.cons (.d _) (.cons (.d _) (.cons (.d _) (.cons (.d _) .nil)))))))))))))))))))))))) .nil))<|rA Z Z Z<|Q5<|Q3<|Q4<|Q0<|rM Z Z Z<|rM Z Z Z<|rR Z Z Z (Qx (α:=Bs) Ye Z (.d _))<|rR Z Z Z (Q8 Z Z Z) ?_
 refine Yt h0 (fun g52 h0=>?_)
 refine rR Z Z Z (Gl (α:=Bs) Ye Z (.d _) Z g52)<|rR Z Z Z (Q2 K2 Z)<|QC Z Z (Qz WJ Z Z Z Z (lb Z) Z)<|Q5<|Q3<|Q4<|Q4<|Q0<|rR Z Z Z (Qi Z6 Z Z Z Z)<|rR Z Z Z (Q2 Jo Z)<|rR Z Z Z (Q2 Zq Z)<|rR Z Z Z (Qi QR Z Z Z Z)<|rR Z Z Z (Q2 Jo Z)<|rR Z Z Z (Q2 YJ Z) ?_
 refine rR Z Z Z (Q6 QG Z Z Z) ?_
 refine Qd h0 (fun x53 hx53 h0=>?_)
 refine Qb Z Z (lb Z) (Qh (Kz (⟨a0,(x51.take (Ja ((x51.length:Int) - 1)).toNat),a1⟩:Rsc) a1.rcr.ty 0 a1.rcr.params x53 hx53) Z (.cons (.agg (.cons (.d _) (.cons (.d _) (.cons (.d _) (.cons (.d _) (.cons (.d _) (.cons (.d _) (.cons (.d _) (.cons (.d _) (.cons (.d _) (.cons (.d _) (.cons (.d _) (.cons (.d _) (.cons (.d _) (.cons (.d _) (.cons (.d _) (.cons (.d _) (.cons (.d _) (.cons (.d _) (.cons (.d _) (.cons (.d _) (.cons (.d _) (.cons (.d _) (.cons (.d _) (.cons (.d _) (.cons (.d _) .nil)))))))))))))))))))))))))) (.cons (.agg (.cons (.d _) (.cons (.d _) (.cons (.d _) (.cons (.d _) (.cons (.d _) .nil)))))) (.cons (.one (.d _)) (.cons (.one (.d _)) .nil)))))<|rA Z Z Z<|Q5<|Q3<|Q4<|Q0<|rM Z Z Z<|rR Z Z Z (Q8 Z Z Z)<|Q5<|Q3 ?_
 refine Qe (b:=(x53 != 0)) Z (fun c54=>?_) (fun c54=>?_)
 replace h0:=Qf c54 h0
 refine Q4<|Q0<|rM Z Z Z<|rA Z Z Z<|Q5<|Q3<|Qp ?_
 have e:=sI h0;subst e
 exact Qn (fun _ _ h=>h) Z (Qm Z .nil) (.cons (.one (.d _)) .nil)
 replace h0:=Qg c54 h0
 refine Qj<|Q3<|Q4<|Q0<|rM Z Z Z<|rR Z Z Z (Q2 K2 Z)<|QC Z Z (Qz WJ Z Z Z Z (lb Z) Z)<|Q5<|Q3<|Q4<|Q0<|rA Z Z Z<|Q5<|Q3 ?_
 refine Ql ?_
 refine QQ 3 (fun (o55:Unit)=>⟨[],[(0,.cells 45 (cE a1)),(1,.cells 116 [dS a0,dS x51,dI a1.kind,J6 a1.name,dI a1.params,dI a1.ty.kind,dI a1.ty.index,J6 a1.ty.name,dS a1.ty.levels,dS a1.ty.kids,dI a1.value.kind,dI a1.value.index,J6 a1.value.name,dS a1.value.levels,dS a1.value.kids,dI a1.fixed,dS a1.ctors,dI a1.rcr.params,dI a1.rcr.ty.kind,dI a1.rcr.ty.index,J6 a1.rcr.ty.name,dS a1.rcr.ty.levels,dS a1.rcr.ty.kids,dS a1.rcr.rules,dS a1.funs])],[(2,some ⟨9,1,(Enc.encL ([a1.name]:List Bs)).length,[]⟩)],3,161,[]⟩) (fun (o55:Unit)=>(some 0)=some r) ?_ ?_
 refine Qd h0 (fun o56 hl1 h0=>?_)
 refine QP (X8 a1 a0 x51) (fun s1=>⟨[(3,.v (.one (.ptr 0 0))),(5,.v (.one (.ptr 1 0))),(11,.v (.one (dI s1)))],[(0,.cells 45 (cE a1)),(1,.cells 116 [dS a0,dS x51,dI a1.kind,J6 a1.name,dI a1.params,dI a1.ty.kind,dI a1.ty.index,J6 a1.ty.name,dS a1.ty.levels,dS a1.ty.kids,dI a1.value.kind,dI a1.value.index,J6 a1.value.name,dS a1.value.levels,dS a1.value.kids,dI a1.fixed,dS a1.ctors,dI a1.rcr.params,dI a1.rcr.ty.kind,dI a1.rcr.ty.index,J6 a1.rcr.ty.name,dS a1.rcr.ty.levels,dS a1.rcr.ty.kids,dS a1.rcr.rules,dS a1.funs])],[(2,some ⟨9,1,(Enc.encL ([a1.name]:List Bs)).length,[]⟩)],3,161,[]⟩) 0 o56 (sL (Nat.zero_le _) Z Z Z Z Z) hl1 (fun s1 n1 oo1 h1 ho1=>?_)
 unfold X8 at h1
 refine Q4<|Q4<|Q0<|rM Z Z Z<|rR Z Z Z (Q2 Jo Z)<|rR Z Z Z (Q2 YZ Z)<|rR Z Z Z (Q6 JH Z Z Z)<|rR Z Z Z (Qx (α:=Tm) Jk Z (.d _))<|rR Z Z Z (Q8 Z Z Z)<|Q5<|Q3 ?_
 refine Qe (b:=(decide (s1 < (a1.rcr.rules.length:Int)))) Z (fun c57=>?_) (fun c57=>?_)
 replace h1:=Qf c57 h1
 refine Qj<|Q3<|Q4<|Ql<|Q4 ?_
 refine J4 [] [] JV (by kernel_rfl) (by kernel_rfl) (by kernel_rfl) ?_
 refine RunA.rd Z Z Z (Q1 (Qi Z6 Z Z Z Z)) Z<|RunA.rd Z Z Z (Q1 (Q2 Jo Z)) Z<|RunA.rd Z Z Z (Q1 (Q2 YZ Z)) Z<|RunA.rd Z Z Z (Q1 (Q6 JH Z Z Z)) Z<|RunA.rd Z Z Z (Q1 (Qq Z)) Z ?_
 refine Qd h1 (fun x58 hx58 h1=>?_)
 refine RunA.rd Z Z Z (Q1 (Qt (α:=Tm) Jk Z (.d _) Z hx58)) Z<|RunA.rd Z Z Z (Q1 (Qu (x58:Tm) QR Z)) Z<|RunA.rd Z Z Z (Q1 (Q2 Jo Z)) Z<|RunA.rd Z Z Z (Q1 (Q2 YJ Z)) Z<|RunA.rd Z Z Z (Q1 (Q6 QG Z Z Z)) Z ?_
 refine Qd h1 (fun x59 hx59 h1=>?_)
 refine RunA.rd Z Z Z (Qh (Kz (⟨a0,x51,a1⟩:Rsc) x58 0 a1.rcr.params x59 hx59) Z (.cons (.agg (.cons (.d _) (.cons (.d _) (.cons (.d _) (.cons (.d _) (.cons (.d _) (.cons (.d _) (.cons (.d _) (.cons (.d _) (.cons (.d _) (.cons (.d _) (.cons (.d _) (.cons (.d _) (.cons (.d _) (.cons (.d _) (.cons (.d _) (.cons (.d _) (.cons (.d _) (.cons (.d _) (.cons (.d _) (.cons (.d _) (.cons (.d _) (.cons (.d _) (.cons (.d _) (.cons (.d _) (.cons (.d _) .nil)))))))))))))))))))))))))) (.cons (.agg (.cons (.d _) (.cons (.d _) (.cons (.d _) (.cons (.d _) (.cons (.d _) .nil)))))) (.cons (.one (.d _)) (.cons (.one (.d _)) .nil))))) Z<|RunA.rd Z Z Z (Q1 (Jd Z)) Z ?_
 refine RunA.nil ⟨?ex,_,_,Z,?_⟩
 case ex=>exact trivial
 refine Jp (st':=⟨[(3,.v (.one (.ptr 0 0))),(5,.v (.one (.ptr 1 0))),(11,.v (.one (dI s1))),(12,.v (.one (dI x59)))],[(0,.cells 45 (cE a1)),(1,.cells 116 [dS a0,dS x51,dI a1.kind,J6 a1.name,dI a1.params,dI a1.ty.kind,dI a1.ty.index,J6 a1.ty.name,dS a1.ty.levels,dS a1.ty.kids,dI a1.value.kind,dI a1.value.index,J6 a1.value.name,dS a1.value.levels,dS a1.value.kids,dI a1.fixed,dS a1.ctors,dI a1.rcr.params,dI a1.rcr.ty.kind,dI a1.rcr.ty.index,J6 a1.rcr.ty.name,dS a1.rcr.ty.levels,dS a1.rcr.ty.kids,dS a1.rcr.rules,dS a1.funs])],[(2,some ⟨9,1,(Enc.encL ([a1.name]:List Bs)).length,[]⟩)],3,161,[]⟩) (sL (Nat.zero_le _) Z Z Z Z Z)<|Q3<|Q4<|Q0<|rM Z Z Z<|rR Z Z Z (Q8 Z Z Z)<|Q5<|Q3 ?_
 refine Qe (b:=(x59 != 0)) Z (fun c60=>?_) (fun c60=>?_)
 replace h1:=Qf c60 h1
 refine Q4<|Q0<|rM Z Z Z<|rA Z Z Z<|Q5<|Q3<|Qp ?_
 have e:=sI h1;subst e
 have e_:_=_:=ho1
 subst e_
 try dsimp only [Sum.elim_inl,Sum.elim_inr] at h0
 have e:=sI h0;subst e
 exact Qn (fun _ _ h=>h) Z (Qm Z .nil) (.cons (.one (.d _)) .nil)
 replace h1:=Qg c60 h1
 refine Qj<|Qk<|Q3<|Q0<|rM Z Z Z<|rR Z Z Z (Q8 Z Z Z)<|rA Z Z Z<|Q5 ?_
 have e:=sI h1;subst e
 refine QJ (Ja (s1+1)) (sL (Nat.zero_le _) Z Z Z Z Z) ho1
 replace h1:=Qg c57 h1
 refine QW<|Qr<|Qr ?_
 have e:=sI h1;subst e
 have e_:_=_:=ho1
 subst e_
 exact QO () (sL (Nat.zero_le _) Z Z Z Z Z) h0
 intro o55 h0
 refine QF<|Qk<|Q3<|Q4<|Q0<|rA Z Z Z<|Q5<|Q3<|Qp ?_
 have e:=sI h0;subst e
 exact Qn (fun _ _ h=>h) Z (Qm Z .nil) (.cons (.one (.d _)) .nil)
 replace h0:=Qg c44 h0
 refine Q4<|Q0<|rR Z Z Z (Q8 Z Z Z)<|rA Z Z Z<|Q5<|Q3 ?_
 refine Qe (b:=(a1.kind==4)) Z (fun c61=>?_) (fun c61=>?_)
 replace h0:=Qf c61 h0
 refine Q4<|Q4<|Q0<|rA Z Z Z<|Q5<|Q3<|Ql ?_
 refine QQ 5 (fun (o62:Unit)=>⟨[(3,.v (.one (.ptr 0 0))),(5,.v (.one (.ptr 1 0)))],[(0,.cells 45 (cE a1)),(1,.cells 116 [dS a0,dN,dI a1.kind,J6 a1.name,dI a1.params,dI a1.ty.kind,dI a1.ty.index,J6 a1.ty.name,dS a1.ty.levels,dS a1.ty.kids,dI a1.value.kind,dI a1.value.index,J6 a1.value.name,dS a1.value.levels,dS a1.value.kids,dI a1.fixed,dS a1.ctors,dI a1.rcr.params,dI a1.rcr.ty.kind,dI a1.rcr.ty.index,J6 a1.rcr.ty.name,dS a1.rcr.ty.levels,dS a1.rcr.ty.kids,dS a1.rcr.rules,dS a1.funs])],[],2,161,[]⟩) (fun (o62:Unit)=>(Option.bind (Dz a1) fun (x63:(List Bs)) =>
   Option.bind (QE (GD a1 a0 x63) QU 0) (Sum.elim (fun (o64:Unit)=>some 0) (fun o=>some o)))=some r) ?_ ?_
 refine Qd h0 (fun o63 hl1 h0=>?_)
 refine QP (Xu a1 a0) (fun s1=>⟨[(3,.v (.one (.ptr 0 0))),(5,.v (.one (.ptr 1 0))),(13,.v (.one (dI s1)))],[(0,.cells 45 (cE a1)),(1,.cells 116 [dS a0,dN,dI a1.kind,J6 a1.name,dI a1.params,dI a1.ty.kind,dI a1.ty.index,J6 a1.ty.name,dS a1.ty.levels,dS a1.ty.kids,dI a1.value.kind,dI a1.value.index,J6 a1.value.name,dS a1.value.levels,dS a1.value.kids,dI a1.fixed,dS a1.ctors,dI a1.rcr.params,dI a1.rcr.ty.kind,dI a1.rcr.ty.index,J6 a1.rcr.ty.name,dS a1.rcr.ty.levels,dS a1.rcr.ty.kids,dS a1.rcr.rules,dS a1.funs])],[],2,161,[]⟩) 0 o63 (sL (Nat.zero_le _) Z Z Z Z Z) hl1 (fun s1 n1 oo1 h1 ho1=>?_)
 unfold Xu at h1
 refine Q4<|Q4<|Q0<|rM Z Z Z<|rR Z Z Z (Q2 Jf Z)<|rR Z Z Z (Q6 JU Z Z Z)<|rR Z Z Z (Qx (α:=Fn) JA Z (.d _))<|rR Z Z Z (Q8 Z Z Z)<|Q5<|Q3 ?_
 refine Qe (b:=(decide (s1 < (a1.funs.length:Int)))) Z (fun c64=>?_) (fun c64=>?_)
 replace h1:=Qf c64 h1
 refine Qj<|Q3<|Q4<|Ql<|Q4 ?_
 refine J4 [] [] JV (by kernel_rfl) (by kernel_rfl) (by kernel_rfl) ?_
 refine RunA.rd Z Z Z (Q1 (Qi Z6 Z Z Z Z)) Z<|RunA.rd Z Z Z (Q1 (Q2 Jf Z)) Z<|RunA.rd Z Z Z (Q1 (Q6 JU Z Z Z)) Z<|RunA.rd Z Z Z (Q1 (Qq Z)) Z ?_
 refine Qd h1 (fun x65 hx65 h1=>?_)
 refine RunA.rd Z Z Z (Q1 (Qt (α:=Fn) JA Z (.d _) Z hx65)) Z<|RunA.rd Z Z Z (Q1 (J5 ZZ Z)) Z<|RunA.rd Z Z Z (Q1 (Jr QR Z Z Z)) Z<|RunA.rd Z Z Z (Q1 (Q2 Jz Z)) Z<|RunA.rd Z Z Z (Q1 (Q6 QG Z Z Z)) Z ?_
 refine Qd h1 (fun x66 hx66 h1=>?_)
 refine RunA.rd Z Z Z (Qh (Kz (⟨a0,([]:List Bs),a1⟩:Rsc) x65.ty 0 a1.params x66 hx66) Z (.cons (.agg (.cons (.d _) (.cons (.nil _) (.cons (.d _) (.cons (.d _) (.cons (.d _) (.cons (.d _) (.cons (.d _) (.cons (.d _) (.cons (.d _) (.cons (.d _) (.cons (.d _) (.cons (.d _) (.cons (.d _) (.cons (.d _) (.cons (.d _) (.cons (.d _) (.cons (.d _) (.cons (.d _) (.cons (.d _) (.cons (.d _) (.cons (.d _) (.cons (.d _) (.cons (.d _) (.cons (.d _) (.cons (.d _) .nil)))))))))))))))))))))))))) (.cons (.agg (.cons (.d _) (.cons (.d _) (.cons (.d _) (.cons (.d _) (.cons (.d _) .nil)))))) (.cons (.one (.d _)) (.cons (.one (.d _)) .nil))))) Z<|RunA.rd Z Z Z (Q1 (Jd Z)) Z ?_
 refine RunA.nil ⟨?ex,_,_,Z,?_⟩
 case ex=>exact trivial
 refine Jp (st':=⟨[(3,.v (.one (.ptr 0 0))),(5,.v (.one (.ptr 1 0))),(13,.v (.one (dI s1))),(14,.v (.one (dI x66)))],[(0,.cells 45 (cE a1)),(1,.cells 116 [dS a0,dN,dI a1.kind,J6 a1.name,dI a1.params,dI a1.ty.kind,dI a1.ty.index,J6 a1.ty.name,dS a1.ty.levels,dS a1.ty.kids,dI a1.value.kind,dI a1.value.index,J6 a1.value.name,dS a1.value.levels,dS a1.value.kids,dI a1.fixed,dS a1.ctors,dI a1.rcr.params,dI a1.rcr.ty.kind,dI a1.rcr.ty.index,J6 a1.rcr.ty.name,dS a1.rcr.ty.levels,dS a1.rcr.ty.kids,dS a1.rcr.rules,dS a1.funs])],[],2,161,[]⟩) (sL (Nat.zero_le _) Z Z Z Z Z)<|Q3<|Q4<|Q0<|rM Z Z Z<|rR Z Z Z (Q8 Z Z Z)<|Q5<|Q3 ?_
 refine Qe (b:=(x66 != 0)) Z (fun c67=>?_) (fun c67=>?_)
 replace h1:=Qf c67 h1
 refine Q4<|Q0<|rM Z Z Z<|rA Z Z Z<|Q5<|Q3<|Qp ?_
 have e:=sI h1;subst e
 have e_:_=_:=ho1
 subst e_
 try dsimp only [Sum.elim_inl,Sum.elim_inr] at h0
 have e:=sI h0;subst e
 exact Qn (fun _ _ h=>h) Z (Qm Z .nil) (.cons (.one (.d _)) .nil)
 replace h1:=Qg c67 h1
 refine Qj<|Qk<|Q3<|Q0<|rM Z Z Z<|rR Z Z Z (Q8 Z Z Z)<|rA Z Z Z<|Q5 ?_
 have e:=sI h1;subst e
 refine QJ (Ja (s1+1)) (sL (Nat.zero_le _) Z Z Z Z Z) ho1
 replace h1:=Qg c64 h1
 refine QW<|Qr<|Qr ?_
 have e:=sI h1;subst e
 have e_:_=_:=ho1
 subst e_
 exact QO () (sL (Nat.zero_le _) Z Z Z Z Z) h0
 intro o62 h0
 refine QF<|Q3<|Q4<|Q0<|rR Z Z Z (QH (a1:Dcl) Jq Z Z) ?_
 refine Qd h0 (fun x68 hx68 h0=>?_)
 refine Qb Z Z (lb Z) (Qh (WX a1 x68 hx68) Z (.cons (.agg (.cons (.d _) (.cons (.d _) (.cons (.d _) (.cons (.d _) (.cons (.d _) (.cons (.d _) (.cons (.d _) (.cons (.d _) (.cons (.d _) (.cons (.d _) (.cons (.d _) (.cons (.d _) (.cons (.d _) (.cons (.d _) (.cons (.d _) (.cons (.d _) (.cons (.d _) (.cons (.d _) (.cons (.d _) (.cons (.d _) (.cons (.d _) (.cons (.d _) (.cons (.d _) .nil)))))))))))))))))))))))) .nil))<|rR Z Z Z (Q2 K2 Z)<|QC Z Z (Qz WJ Z Z Z Z (lb Z) Z)<|Q5<|Q3<|Q4<|Q0<|rA Z Z Z<|Q5<|Q3<|Ql ?_
 refine QQ 7 (fun (o69:Unit)=>⟨[],[(0,.cells 45 (cE a1)),(1,.cells 116 [dS a0,dS x68,dI a1.kind,J6 a1.name,dI a1.params,dI a1.ty.kind,dI a1.ty.index,J6 a1.ty.name,dS a1.ty.levels,dS a1.ty.kids,dI a1.value.kind,dI a1.value.index,J6 a1.value.name,dS a1.value.levels,dS a1.value.kids,dI a1.fixed,dS a1.ctors,dI a1.rcr.params,dI a1.rcr.ty.kind,dI a1.rcr.ty.index,J6 a1.rcr.ty.name,dS a1.rcr.ty.levels,dS a1.rcr.ty.kids,dS a1.rcr.rules,dS a1.funs])],[],2,161,[]⟩) (fun (o69:Unit)=>(some 0)=some r) ?_ ?_
 refine Qd h0 (fun o70 hl1 h0=>?_)
 refine QP (GD a1 a0 x68) (fun s1=>⟨[(3,.v (.one (.ptr 0 0))),(5,.v (.one (.ptr 1 0))),(15,.v (.one (dI s1)))],[(0,.cells 45 (cE a1)),(1,.cells 116 [dS a0,dS x68,dI a1.kind,J6 a1.name,dI a1.params,dI a1.ty.kind,dI a1.ty.index,J6 a1.ty.name,dS a1.ty.levels,dS a1.ty.kids,dI a1.value.kind,dI a1.value.index,J6 a1.value.name,dS a1.value.levels,dS a1.value.kids,dI a1.fixed,dS a1.ctors,dI a1.rcr.params,dI a1.rcr.ty.kind,dI a1.rcr.ty.index,J6 a1.rcr.ty.name,dS a1.rcr.ty.levels,dS a1.rcr.ty.kids,dS a1.rcr.rules,dS a1.funs])],[],2,161,[]⟩) 0 o70 (sL (Nat.zero_le _) Z Z Z Z Z) hl1 (fun s1 n1 oo1 h1 ho1=>?_)
 unfold GD at h1
 refine Q4<|Q4<|Q0<|rM Z Z Z<|rR Z Z Z (Q2 Jf Z)<|rR Z Z Z (Q6 JU Z Z Z)<|rR Z Z Z (Qx (α:=Fn) JA Z (.d _))<|rR Z Z Z (Q8 Z Z Z)<|Q5<|Q3 ?_
 refine Qe (b:=(decide (s1 < (a1.funs.length:Int)))) Z (fun c71=>?_) (fun c71=>?_)
 replace h1:=Qf c71 h1
 refine Qj<|Q3<|Q4<|Ql<|Q4 ?_
 refine J4 [] [] JV (by kernel_rfl) (by kernel_rfl) (by kernel_rfl) ?_
 refine RunA.rd Z Z Z (Q1 (Qi Z6 Z Z Z Z)) Z<|RunA.rd Z Z Z (Q1 (Q2 Jf Z)) Z<|RunA.rd Z Z Z (Q1 (Q6 JU Z Z Z)) Z<|RunA.rd Z Z Z (Q1 (Qq Z)) Z ?_
 refine Qd h1 (fun x72 hx72 h1=>?_)
 refine RunA.rd Z Z Z (Q1 (Qt (α:=Fn) JA Z (.d _) Z hx72)) Z<|RunA.rd Z Z Z (Q1 (J5 XX Z)) Z<|RunA.rd Z Z Z (Q1 (Jr Gy Z Z Z)) Z<|RunA.rd Z Z Z (Q1 (Q2 Jf Z)) Z<|RunA.rd Z Z Z (Q1 (Q6 JU Z Z Z)) Z<|RunA.rd Z Z Z (Q1 (Qq Z)) Z ?_
 refine Qd h1 (fun x73 hx73 h1=>?_)
 refine RunA.rd Z Z Z (Q1 (Qt (α:=Fn) JA Z (.d _) Z hx73)) Z<|RunA.rd Z Z Z (Q1 (J5 KK Z)) Z<|RunA.rd Z Z Z (Q1 (Jj QG Z Z)) Z ?_
 refine Qd h1 (fun x74 hx74 h1=>?_)
 refine RunA.rd Z Z Z (Qh (m73_ok (⟨a0,x68,a1⟩:Rsc) x72.tree x73.arity 0 x74 hx74) Z (.cons (.agg (.cons (.d _) (.cons (.d _) (.cons (.d _) (.cons (.d _) (.cons (.d _) (.cons (.d _) (.cons (.d _) (.cons (.d _) (.cons (.d _) (.cons (.d _) (.cons (.d _) (.cons (.d _) (.cons (.d _) (.cons (.d _) (.cons (.d _) (.cons (.d _) (.cons (.d _) (.cons (.d _) (.cons (.d _) (.cons (.d _) (.cons (.d _) (.cons (.d _) (.cons (.d _) (.cons (.d _) (.cons (.d _) .nil)))))))))))))))))))))))))) (.cons (.agg (.cons (.d _) (.cons (.d _) (.cons (.d _) (.cons (.d _) (.cons (.d _) (.cons (.d _) (.cons (.d _) (.cons (.d _) .nil))))))))) (.cons (.one (.d _)) (.cons (.one (.d _)) .nil))))) Z<|RunA.rd Z Z Z (Q1 (Jd Z)) Z ?_
 refine RunA.nil ⟨?ex,_,_,Z,?_⟩
 case ex=>exact trivial
 refine Jp (st':=⟨[(3,.v (.one (.ptr 0 0))),(5,.v (.one (.ptr 1 0))),(15,.v (.one (dI s1))),(16,.v (.one (dI x74)))],[(0,.cells 45 (cE a1)),(1,.cells 116 [dS a0,dS x68,dI a1.kind,J6 a1.name,dI a1.params,dI a1.ty.kind,dI a1.ty.index,J6 a1.ty.name,dS a1.ty.levels,dS a1.ty.kids,dI a1.value.kind,dI a1.value.index,J6 a1.value.name,dS a1.value.levels,dS a1.value.kids,dI a1.fixed,dS a1.ctors,dI a1.rcr.params,dI a1.rcr.ty.kind,dI a1.rcr.ty.index,J6 a1.rcr.ty.name,dS a1.rcr.ty.levels,dS a1.rcr.ty.kids,dS a1.rcr.rules,dS a1.funs])],[],2,161,[]⟩) (sL (Nat.zero_le _) Z Z Z Z Z)<|Q3<|Q4<|Q0<|rM Z Z Z<|rR Z Z Z (Q8 Z Z Z)<|Q5<|Q3 ?_
 refine Qe (b:=(x74 != 0)) Z (fun c75=>?_) (fun c75=>?_)
 replace h1:=Qf c75 h1
 refine Q4<|Q0<|rM Z Z Z<|rA Z Z Z<|Q5<|Q3<|Qp ?_
 have e:=sI h1;subst e
 have e_:_=_:=ho1
 subst e_
 try dsimp only [Sum.elim_inl,Sum.elim_inr] at h0
 have e:=sI h0;subst e
 exact Qn (fun _ _ h=>h) Z (Qm Z .nil) (.cons (.one (.d _)) .nil)
 replace h1:=Qg c75 h1
 refine Qj<|Qk<|Q3<|Q0<|rM Z Z Z<|rR Z Z Z (Q8 Z Z Z)<|rA Z Z Z<|Q5 ?_
 have e:=sI h1;subst e
 refine QJ (Ja (s1+1)) (sL (Nat.zero_le _) Z Z Z Z Z) ho1
 replace h1:=Qg c71 h1
 refine QW<|Qr<|Qr ?_
 have e:=sI h1;subst e
 have e_:_=_:=ho1
 subst e_
 exact QO () (sL (Nat.zero_le _) Z Z Z Z Z) h0
 intro o69 h0
 refine QF<|Qk<|Q3<|Q4<|Q0<|rA Z Z Z<|Q5<|Q3<|Qp ?_
 have e:=sI h0;subst e
 exact Qn (fun _ _ h=>h) Z (Qm Z .nil) (.cons (.one (.d _)) .nil)
 replace h0:=Qg c61 h0
 refine Qj<|Qk<|Q3<|Q4<|Q0<|rA Z Z Z<|Q5<|Q3<|Qp ?_
 have e:=sI h0;subst e
 exact Qn (fun _ _ h=>h) Z (Qm Z .nil) (.cons (.one (.d _)) .nil)
def Up (p0_:Bool) (p1_:Dcl) (p2_:List Dcl):Option Int :=
 cond p0_
   (some 1)
   (Option.bind (m50 p1_) fun (b0_:Bool) =>
 cond (!b0_)
   (some 3)
   (Option.bind (m51 p1_) fun (b1_:Int) =>
 cond (b1_ != 0)
   (some b1_)
   (Option.bind (m52 p2_ p1_) fun (b2_:Int) =>
 cond (b2_ != 0)
   (some b2_)
   (Option.bind (m53 p2_ p1_) fun (b3_:Int) =>
 some b3_))))
def DM (a0:List Dcl) (a1:Dcl):Option Int :=
 Option.bind (cond (decide (a1.kind < 0))
   (some true)
   (some (decide (4 < a1.kind)))) (fun (v1:Bool)=>Up v1 a1 a0)
theorem m32_ok (a0:List Dcl) (a1:Dcl) (r:Int) (h0:DM a0 a1=some r):Fun Try.prog 32 [.one (dS a0),.agg (cE a1)] (QM [.one (dI r)]):=by
 unfold DM at h0
 refine QB 9 32 Try.func32 Z en_32 Z (lb Z) (fun S w=>?_)
 simp only [J3]
 refine Q4<|Q0<|Qb Z Z (lb Z) (QN Z)<|rA Z Z Z<|Q5<|Q3<|Q4<|Q4 ?_
 refine QD (fun (v1:Bool)=>⟨[(0,.v (.one (dS a0))),(3,.v (.one (.ptr 0 0))),(14,.v (.one (dB v1)))],[(0,.cells 45 (cE a1))],[],1,32,[]⟩) (fun (v1:Bool)=>(Up v1 a1 a0)=some r) ?_ ?_
 refine Qd h0 (fun w1_ h1 h0=>?_)
 refine Q0<|rR Z Z Z (Q2 JN Z)<|rR Z Z Z (Q6 QG Z Z Z)<|rR Z Z Z (Q8 Z Z Z)<|rM Z Z Z ?_
 refine Qw (d:=10) (c:=(decide (a1.kind < 0))) Z (fun c2=>?_) (fun c2=>?_)
 replace h1:=Qf c2 h1
 refine Q7 Z Z<|Q7 Z Z<|Q7 Z Z<|rR Z Z Z (Qc Z Z)<|Q5 ?_
 have e:=sI h1;subst e
 exact Q9 true (sL (Nat.zero_le _) Z Z Z Z Z) h0
 replace h1:=Qg c2 h1
 refine rR Z Z Z (Q2 JN Z)<|rR Z Z Z (Q6 QG Z Z Z)<|rR Z Z Z (Q8 Z Z Z)<|rR Z Z Z (Qa Z Z)<|Q5 ?_
 have e:=sI h1;subst e
 exact Q9 (decide (4 < a1.kind)) (sL (Nat.zero_le _) Z Z Z Z Z) h0
 intro v1 h0
 unfold Up at h0
 refine Q3 ?_
 refine Qe (b:=v1) Z (fun c3=>?_) (fun c3=>?_)
 replace h0:=Qf c3 h0
 refine Q4<|Q0<|rA Z Z Z<|Q5<|Q3<|Qp ?_
 have e:=sI h0;subst e
 exact Qn (fun _ _ h=>h) Z (Qm Z .nil) (.cons (.one (.d _)) .nil)
 replace h0:=Qg c3 h0
 refine Qj<|Q3<|Q4<|Q4<|Q0<|rR Z Z Z (QH (a1:Dcl) Jq Z Z) ?_
 refine Qd h0 (fun x4 hx4 h0=>?_)
 refine Qb Z Z (lb Z) (Qh (m50_ok a1 x4 hx4) Z (.cons (.agg (.cons (.d _) (.cons (.d _) (.cons (.d _) (.cons (.d _) (.cons (.d _) (.cons (.d _) (.cons (.d _) (.cons (.d _) (.cons (.d _) (.cons (.d _) (.cons (.d _) (.cons (.d _) (.cons (.d _) (.cons (.d _) (.cons (.d _) (.cons (.d _) (.cons (.d _) (.cons (.d _) (.cons (.d _) (.cons (.d _) (.cons (.d _) (.cons (.d _) (.cons (.d _) .nil)))))))))))))))))))))))) .nil))<|rR Z Z Z (Jc Z)<|Q5<|Q3 ?_
 refine Qe (b:=(!x4)) Z (fun c5=>?_) (fun c5=>?_)
 replace h0:=Qf c5 h0
 refine Q4<|Q0<|rA Z Z Z<|Q5<|Q3<|Qp ?_
 have e:=sI h0;subst e
 exact Qn (fun _ _ h=>h) Z (Qm Z .nil) (.cons (.one (.d _)) .nil)
 replace h0:=Qg c5 h0
 refine Qj<|Q3<|Q4<|Q4<|Q0<|rR Z Z Z (QH (a1:Dcl) Jq Z Z) ?_
 refine Qd h0 (fun x6 hx6 h0=>?_)
 refine Qb Z Z (lb Z) (Qh (m51_ok a1 x6 hx6) Z (.cons (.agg (.cons (.d _) (.cons (.d _) (.cons (.d _) (.cons (.d _) (.cons (.d _) (.cons (.d _) (.cons (.d _) (.cons (.d _) (.cons (.d _) (.cons (.d _) (.cons (.d _) (.cons (.d _) (.cons (.d _) (.cons (.d _) (.cons (.d _) (.cons (.d _) (.cons (.d _) (.cons (.d _) (.cons (.d _) (.cons (.d _) (.cons (.d _) (.cons (.d _) (.cons (.d _) .nil)))))))))))))))))))))))) .nil))<|rA Z Z Z<|Q5<|Q3<|Q4<|Q0<|rM Z Z Z<|rR Z Z Z (Q8 Z Z Z)<|Q5<|Q3 ?_
 refine Qe (b:=(x6 != 0)) Z (fun c7=>?_) (fun c7=>?_)
 replace h0:=Qf c7 h0
 refine Q4<|Q0<|rM Z Z Z<|rA Z Z Z<|Q5<|Q3<|Qp ?_
 have e:=sI h0;subst e
 exact Qn (fun _ _ h=>h) Z (Qm Z .nil) (.cons (.one (.d _)) .nil)
 replace h0:=Qg c7 h0
 refine Qj<|Q3<|Q4<|Q4<|Q0<|rM Z Z Z<|rR Z Z Z (QH (a1:Dcl) Jq Z Z) ?_
 refine Qd h0 (fun x8 hx8 h0=>?_)
 refine Qb Z Z (lb Z) (Qh (m52_ok a0 a1 x8 hx8) Z (.cons (.one (.d _)) (.cons (.agg (.cons (.d _) (.cons (.d _) (.cons (.d _) (.cons (.d _) (.cons (.d _) (.cons (.d _) (.cons (.d _) (.cons (.d _) (.cons (.d _) (.cons (.d _) (.cons (.d _) (.cons (.d _) (.cons (.d _) (.cons (.d _) (.cons (.d _) (.cons (.d _) (.cons (.d _) (.cons (.d _) (.cons (.d _) (.cons (.d _) (.cons (.d _) (.cons (.d _) (.cons (.d _) .nil)))))))))))))))))))))))) .nil)))<|rA Z Z Z<|Q5<|Q3<|Q4<|Q0<|rM Z Z Z<|rR Z Z Z (Q8 Z Z Z)<|Q5<|Q3 ?_
 refine Qe (b:=(x8 != 0)) Z (fun c9=>?_) (fun c9=>?_)
 replace h0:=Qf c9 h0
 refine Q4<|Q0<|rM Z Z Z<|rA Z Z Z<|Q5<|Q3<|Qp ?_
 have e:=sI h0;subst e
 exact Qn (fun _ _ h=>h) Z (Qm Z .nil) (.cons (.one (.d _)) .nil)
 replace h0:=Qg c9 h0
 refine Qj<|Q3<|Q4<|Q0<|rM Z Z Z<|rR Z Z Z (QH (a1:Dcl) Jq Z Z) ?_
 refine Qd h0 (fun x10 hx10 h0=>?_)
 refine Qb Z Z (lb Z) (Qh (m53_ok a0 a1 x10 hx10) Z (.cons (.one (.d _)) (.cons (.agg (.cons (.d _) (.cons (.d _) (.cons (.d _) (.cons (.d _) (.cons (.d _) (.cons (.d _) (.cons (.d _) (.cons (.d _) (.cons (.d _) (.cons (.d _) (.cons (.d _) (.cons (.d _) (.cons (.d _) (.cons (.d _) (.cons (.d _) (.cons (.d _) (.cons (.d _) (.cons (.d _) (.cons (.d _) (.cons (.d _) (.cons (.d _) (.cons (.d _) (.cons (.d _) .nil)))))))))))))))))))))))) .nil)))<|rA Z Z Z<|Q5<|Q3<|Qp ?_
 have e:=sI h0;subst e
 exact Qn (fun _ _ h=>h) Z (Qm Z .nil) (.cons (.one (.d _)) .nil)
def Wt (a0:List Dcl) (s1:Int):Option (LO Int (Unit⊕(Int×Int))) :=
 cond (decide (s1 < (a0.length:Int)))
   (Jy (cond (decide (0≤s1)) (Nat.ble s1.toNat a0.length) false)
 (Option.bind (JP a0 s1) fun (x5:Dcl) =>
 Option.bind (DM (a0.take s1.toNat) x5) fun (x6:Int) =>
 cond (x6 != 0)
   (some (.done (.inr (s1,x6))))
   (some (.next (Ja (s1+1))))))
   (some (.done (.inl ())))
def DU (a0:List Dcl):Option (Int×Int) :=
 cond (decide (1000 < (a0.length:Int)))
   (some (1000,6))
   (Option.bind (QE (Wt a0) QU 0) (Sum.elim (fun (o2:Unit)=>some (0,0)) (fun o=>some o)))
theorem m12_ok (a0:List Dcl) (r:Int×Int) (h0:DU a0=some r):Fun Try.prog 12 [.one (dS a0)] (QM [.one (dI r.1),.one (dI r.2)]):=by
 unfold DU at h0
 refine QB 9 27 Try.func12 Z en_12 Z (lb Z) (fun S w=>?_)
 simp only [J3]
 refine Q4<|Q0<|rA Z Z Z<|rA Z Z Z<|Q5<|Q3<|Q4<|Q4<|Q0<|rM Z Z Z<|rR Z Z Z (Qx (α:=Dcl) YE Z (.d _))<|rR Z Z Z (Q8 Z Z Z)<|Q5<|Q3 ?_
 refine Qe (b:=(decide (1000 < (a0.length:Int)))) Z (fun c1=>?_) (fun c1=>?_)
 replace h0:=Qf c1 h0
 refine Q4<|Q0<|rA Z Z Z<|rA Z Z Z<|Q5<|Q3<|Qp ?_
 have e:=sI h0;subst e
 exact Qn (fun _ _ h=>h) Z (Qm Z (Qm Z .nil)) (.cons (.one (.d _)) (.cons (.one (.d _)) .nil))
 replace h0:=Qg c1 h0
 refine Qj<|Q3<|Q4<|Q4<|Q0<|rA Z Z Z<|Q5<|Q3<|Ql ?_
 refine QQ 0 (fun (o2:Unit)=>⟨[],[],[],0,27,[]⟩) (fun (o2:Unit)=>(some (0,0))=some r) ?_ ?_
 refine Qd h0 (fun o3 hl1 h0=>?_)
 refine QP (Wt a0) (fun s1=>⟨[(0,.v (.one (dS a0))),(4,.v (.one (dI s1)))],[],[],0,27,[]⟩) 0 o3 (sL (Nat.zero_le _) Z Z Z Z Z) hl1 (fun s1 n1 oo1 h1 ho1=>?_)
 unfold Wt at h1
 refine Q4<|Q4<|Q0<|rM Z Z Z<|rM Z Z Z<|rR Z Z Z (Qx (α:=Dcl) YE Z (.d _))<|rR Z Z Z (Q8 Z Z Z)<|Q5<|Q3 ?_
 refine Qe (b:=(decide (s1 < (a0.length:Int)))) Z (fun c4=>?_) (fun c4=>?_)
 replace h1:=Qf c4 h1
 refine Qj<|Q3<|Q4<|Ql<|Q4 ?_
 refine J4 [] [] JV (by kernel_rfl) (by kernel_rfl) (by kernel_rfl) ?_
 refine RunA.rd Z Z Z (Q1 (Qq Z)) Z<|RunA.rd Z Z Z (Q1 (Qq Z)) Z ?_
 refine Yt h1 (fun g5 h1=>?_)
 refine RunA.rd Z Z Z (Q1 (Gl (α:=Dcl) YE Z (.d _) Z g5)) Z<|RunA.rd Z Z Z (Q1 (Qq Z)) Z<|RunA.rd Z Z Z (Q1 (Qq Z)) Z ?_
 refine Qd h1 (fun x6 hx6 h1=>?_)
 refine RunA.rd Z Z Z (Q1 (Qt (α:=Dcl) YE Z (.d _) Z hx6)) Z<|RunA.rd Z Z Z (Q1 (Qu (x6:Dcl) Jq Z)) Z ?_
 refine Qd h1 (fun x7 hx7 h1=>?_)
 refine RunA.rd Z Z Z (Qh (m32_ok (a0.take s1.toNat) x6 x7 hx7) Z (.cons (.one (.d _)) (.cons (.agg (.cons (.d _) (.cons (.d _) (.cons (.d _) (.cons (.d _) (.cons (.d _) (.cons (.d _) (.cons (.d _) (.cons (.d _) (.cons (.d _) (.cons (.d _) (.cons (.d _) (.cons (.d _) (.cons (.d _) (.cons (.d _) (.cons (.d _) (.cons (.d _) (.cons (.d _) (.cons (.d _) (.cons (.d _) (.cons (.d _) (.cons (.d _) (.cons (.d _) (.cons (.d _) .nil)))))))))))))))))))))))) .nil))) Z<|RunA.rd Z Z Z (Q1 (Jd Z)) Z ?_
 refine RunA.nil ⟨?ex,_,_,Z,?_⟩
 case ex=>exact trivial
 refine Jp (st':=⟨[(0,.v (.one (dS a0))),(4,.v (.one (dI s1))),(5,.v (.one (dI x7)))],[],[],0,27,[]⟩) (sL (Nat.zero_le _) Z Z Z Z Z)<|Q3<|Q4<|Q0<|rM Z Z Z<|rR Z Z Z (Q8 Z Z Z)<|Q5<|Q3 ?_
 refine Qe (b:=(x7 != 0)) Z (fun c8=>?_) (fun c8=>?_)
 replace h1:=Qf c8 h1
 refine Q4<|Q0<|rM Z Z Z<|rM Z Z Z<|rA Z Z Z<|rA Z Z Z<|Q5<|Q3<|Qp ?_
 have e:=sI h1;subst e
 have e_:_=_:=ho1
 subst e_
 try dsimp only [Sum.elim_inl,Sum.elim_inr] at h0
 have e:=sI h0;subst e
 exact Qn (fun _ _ h=>h) Z (Qm Z (Qm Z .nil)) (.cons (.one (.d _)) (.cons (.one (.d _)) .nil))
 replace h1:=Qg c8 h1
 refine Qj<|Qk<|Q3<|Q0<|rM Z Z Z<|rR Z Z Z (Q8 Z Z Z)<|rA Z Z Z<|Q5 ?_
 have e:=sI h1;subst e
 refine QJ (Ja (s1+1)) (sL (Nat.zero_le _) Z Z Z Z Z) ho1
 replace h1:=Qg c4 h1
 refine QW<|Qr<|Qr ?_
 have e:=sI h1;subst e
 have e_:_=_:=ho1
 subst e_
 exact QO () (sL (Nat.zero_le _) Z Z Z Z Z) h0
 intro o2 h0
 refine QF<|Q3<|Q4<|Q0<|rA Z Z Z<|rA Z Z Z<|Q5<|Q3<|Qp ?_
 have e:=sI h0;subst e
 exact Qn (fun _ _ h=>h) Z (Qm Z (Qm Z .nil)) (.cons (.one (.d _)) (.cons (.one (.d _)) .nil))
end Go.Proofs.Ytafddfoefeploaa
namespace Go.Proofs.Ytafddfoefeploaa
open Go.RowKit Go.Shelf
def tmZ:Tm:=Tm.mk 0 0 ([]:List UInt8) ([]:List Lvl) ([]:List Tm)
theorem rec1 {σ β:Type} (F:(σ→Option β)→σ→Option β) (u:σ):JR F QU u=F (JR F 999999999) u:=rfl
def U0 (t:Tm):Bool:=(t.kind==0)&&(t.index==0)&&(t.name==[])&&((t.levels.length:Int)==0)&&((t.kids.length:Int)==0)
theorem ZK {τ β:Type} {step:τ→Option (LO τ β)} {s:τ} {r:β} (h:step s=some (.done r)):QE step QU s=some r:=by
 show QE step (999999999+1) s=_
 simp only [QE,h]
theorem Uk (t:Tm):DE t=some (U0 t):=by
 have h1:(t.levels.length:Int)=0→QE (WR t tmZ) QU 0=some (.inl ()):=fun h=>ZK (by unfold WR;rw [h];rfl)
 have h2:∀ rc,(t.kids.length:Int)=0→QE (WQ t tmZ rc) QU 0=some (.inl ()):=fun rc h=>ZK (by unfold WQ;rw [h];rfl)
 unfold DE m78 U0
 rw [rec1]
 show Option.bind (Dq _ t tmZ) _=_
 unfold Dq
 show Option.bind (Option.bind (cond (t.kind==0) (cond (t.index==0) (cond (t.name==[]) (Option.bind (cond (!((t.levels.length:Int)==0)) (some false) (Option.bind (QE (WR t tmZ) QU 0) (Sum.elim (fun (o8:Unit)=>some true) (fun o=>some o)))) (fun (y5:Bool)=>cond y5
  (Option.bind (cond (!((t.kids.length:Int)==0)) (some false) (Option.bind (QE (WQ t tmZ _) QU 0) (Sum.elim (fun (o19:Unit)=>some true) (fun o=>some o)))) (fun (y16:Bool)=>some y16)) (some false))) (some false)) (some false)) (some false)) _) _=_
 cases (t.kind==0) with
 | false=>rfl
 | true =>
  cases (t.index==0) with
  | false=>rfl
  | true =>
   cases (t.name==[]) with
   | false=>rfl
   | true =>
    rw [YC,YC]
    by_cases c:(t.levels.length:Int)=0
    ·rw [decide_eq_true c,h1 c]
     by_cases c2:(t.kids.length:Int)=0
     ·rw [decide_eq_true c2,h2 _ c2];rfl
     ·rw [decide_eq_false c2];rfl
    ·rw [decide_eq_false c];rfl
theorem m42_nil (l:List Lvl):DK l []=some ((l.length:Int)==0):=by
 unfold DK
 show cond (!((l.length:Int)==0)) _ _=_
 rw [YC]
 by_cases c:(l.length:Int)=0
 ·rw [decide_eq_true c,ZK (r:=.inl ()) (by unfold WW;rw [c];rfl)];rfl
 ·rw [decide_eq_false c];rfl
theorem Ui (t:Tm):Dt t=some (U0 t):=by
 have h2:∀ rc,(t.kids.length:Int)=0→QE (Xc t tmZ rc) QU 0=some (.inl ()):=fun rc h=>ZK (by unfold Xc;rw [h];rfl)
 unfold Dt D8 U0
 rw [rec1]
 show Option.bind (D7 _ t tmZ) _=_
 unfold D7
 show Option.bind (Option.bind (cond (!(t.kind==0)) (some true) (cond (!(t.index==0)) (some true) (cond (!(t.name==[])) (some true) (Option.bind (DK t.levels []) fun (x5:Bool)=>cond (!x5) (some true) (some (!((t.kids.length:Int)==0))))))) (fun (v1:Bool)=>cond v1 (some false) (Option.bind (QE (Xc t tmZ _) QU 0) (Sum.elim (fun (o3:Unit)=>some true) (fun o=>some o))))) _=_
 rw [m42_nil]
 cases (t.kind==0) with
 | false=>rfl
 | true =>
  cases (t.index==0) with
  | false=>rfl
  | true =>
   cases (t.name==[]) with
   | false=>rfl
   | true =>
    cases ((t.levels.length:Int)==0) with
    | false=>rfl
    | true =>
     rw [YC]
     by_cases c2:(t.kids.length:Int)=0
     ·rw [decide_eq_true c2,h2 _ c2];rfl
     ·rw [decide_eq_false c2];rfl
def isZT (t:Tr):Bool:=(t.kind==0)&&(t.var==0)&&U0 t.body&&((t.branches.length:Int)==0)
theorem m27_Z (t:Tm):D8 t tmZ=some (U0 t):=by
 have:=Ui t
 unfold Dt at this
 obtain ⟨x,h1,h2⟩:=bindO this
 cases h2
 exact h1
theorem m36_Z (t:Tr):DS t (Tr.mk 0 tmZ 0 [])=some (isZT t):=by
 have h2:∀ rc,(t.branches.length:Int)=0→QE (Xb t (Tr.mk 0 tmZ 0 []) rc) QU 0=some (.inl ()):=fun rc h=>ZK (by unfold Xb;rw [h];rfl)
 unfold DS isZT
 rw [rec1]
 show D6 _ t (Tr.mk 0 tmZ 0 [])=_
 unfold D6
 show Option.bind (cond (!(t.kind==0)) (some true) (cond (!(t.var==0)) (some true) (Option.bind (D8 t.body tmZ) fun (x4:Bool)=>cond (!x4) (some true) (some (!((t.branches.length:Int)==0)))))) (fun (v1:Bool)=>cond v1 (some false) (Option.bind (QE (Xb t (Tr.mk 0 tmZ 0 []) _) QU 0) (Sum.elim (fun (o3:Unit)=>some true) (fun o=>some o))))=_
 rw [m27_Z]
 cases (t.kind==0) with
 | false=>rfl
 | true =>
  cases (t.var==0) with
  | false=>rfl
  | true =>
   cases U0 t.body with
   | false=>rfl
   | true =>
    rw [YC]
    by_cases c2:(t.branches.length:Int)=0
    ·rw [decide_eq_true c2,h2 _ c2];rfl
    ·rw [decide_eq_false c2];rfl
def Bk (env:List Dcl) (M:Qo Bs Ent):Prop:=∀ n,Ks M n=KC env n
def Ow (own:List Bs) (d:Dcl) (k:Int) (O:Qo Bs Ent):Prop:=∀ n,(n∈own→n∈Jx d)∧Ks O n=if n∈own then Ys d k n else none
structure Sok (s:Rsc) (M O:Qo Bs Ent):Prop where
 env:YX s.env≤800000000
 own:s.own.length≤900000000
 d:s.d.size≤800000000
 bk:Bk s.env M
 ow:Ow s.own s.d (s.env.length:Int) O
theorem Xt (b:Bool) (c:Int):JJ b c=some (cond b (.inl ()) (.inr ())):=by cases b <;> rfl
theorem kids_c (rc1:Rsc×Tm→Option Int) (rc2:Tm×(List Dcl)×(Qo ((List UInt8)) Ent)×(Qo ((List UInt8)) Ent)×Tm→Option (Bool⊕Int)) (s:Rsc) (M O:Qo Bs Ent) (root t:Tm) (h:t.size≤900000000)
  (ih:∀ x∈t.kids,∃ e:Int,rc1 (s,x)=some e∧(e=0→rc2 (x,s.env,M,O,root)=some (.inl true))∧(e ≠ 0→rc2 (x,s.env,M,O,root)=some (.inr e))) :
  ∃ e:Int,Option.bind (QE (Kb t rc1 s) QU 0) (Sum.elim (fun (o8:Unit)=>some 0) (fun o=>some o))=some e∧(e=0→GN t rc2 s.env M O root=some (.inl true))∧(e ≠ 0→GN t rc2 s.env M O root=some (.inr e)):=by
 have hl:=GY t
 obtain ⟨e,h1,h2⟩:=YS (β1:=Unit⊕Int) (β2:=Unit⊕(Int⊕Int)) (step1:=Kb t rc1 s) (step2:=GM t rc2 s.env M O root) t.kids (.inl ()) (.inl ()) .inr (fun e=>.inr (.inr e)) (by omega) (fun a x b e=>by
  obtain ⟨q1,q2⟩:=Z4 e
  obtain ⟨e',h1,h2,h3⟩:=ih x (by rw [e];simp)
  unfold Kb GM
  rw [q1,q2]
  simp only [cond_true,Option.bind_some]
  rw [h1]
  refine ⟨e',fun he=>?_,fun he=>?_⟩
  ·rw [h2 he];subst he;exact ⟨rfl,rfl⟩
  ·rw [h3 he];exact ⟨XR he _ _,rfl⟩)
  (by unfold Kb;rw [Ji];rfl) (by unfold GM;rw [Ji];rfl)
 unfold GN
 by_cases he:e=0
 ·obtain ⟨e1,e2⟩:=h1 he
  rw [e1,e2];exact ⟨0,rfl,fun _=>rfl,fun h=>(h rfl).elim⟩
 ·obtain ⟨e1,e2⟩:=h2 he
  rw [e1,e2];exact ⟨e,rfl,fun h=>(he h).elim,fun _=>rfl⟩
theorem const_eq (s:Rsc) (M O:Qo Bs Ent) (hs:Sok s M O) (root:Tm):∀ (n:Nat) (t:Tm),t.size≤n→t.size≤900000000 →
  ∃ e:Int,JR Dp n (s,t)=some e∧(e=0→JR Wd n (t,s.env,M,O,root)=some (.inl true))∧(e ≠ 0→JR Wd n (t,s.env,M,O,root)=some (.inr e))
 | 0,t,h,_=>by rw [t.size_eq] at h;omega
 | n+1,t,h,hb=>by
  show ∃ e:Int,Do (JR Dp n) s t=some e∧(e=0→WP (JR Wd n) t s.env M O root=some (.inl true))∧(e ≠ 0→WP (JR Wd n) t s.env M O root=some (.inr e))
  obtain ⟨e,h1,h2,h3⟩:=kids_c (JR Dp n) (JR Wd n) s M O root t hb fun x hx=>const_eq s M O hs root n x (by have:=YR hx;omega) (by have:=YR hx;omega)
  unfold Do WP
  rw [YC]
  by_cases hk:t.kind=3
  ·rw [decide_eq_true hk,cond_true,cond_true,Us s.env t.name hs.env]
   have hM:=hs.bk t.name
   have hO:=(hs.ow t.name).2
   unfold W5
   cases hf:KC s.env t.name with
   | some en =>
    rw [hf] at hM
    have g1:YL M t.name=true:=by unfold YL;rw [hM];rfl
    have g2:Qy M t.name=en:=by unfold Qy;rw [hM];rfl
    rw [g1,g2]
    show ∃ e:Int,cond ((t.levels.length:Int) != en.params) (some 15) _=some e∧_
    simp only [Bool.not_true,cond_false,Option.bind_some,Xt,cond_true,Sum.elim_inl]
    show ∃ e:Int,cond (!((t.levels.length:Int)==en.params)) _ _=_∧_
    cases ((t.levels.length:Int)==en.params) with
    | true=>exact ⟨e,h1,h2,h3⟩
    | false=>exact ⟨15,rfl,fun h=>by omega,fun _=>rfl⟩
   | none =>
    rw [hf] at hM
    have g1:YL M t.name=false:=by unfold YL;rw [hM];rfl
    rw [g1]
    show ∃ e:Int,Option.bind (Dj s.own t.name) _=some e∧_
    rw [m33_eq s.own t.name hs.own]
    by_cases ho:t.name∈s.own
    ·rw [if_pos ho] at hO
     have hi:=XV s.d (s.env.length:Int) t.name
     rw [decide_eq_true ((hs.ow t.name).1 ho)] at hi
     cases hl:Ys s.d (s.env.length:Int) t.name with
     | none=>rw [hl] at hi;cases hi
     | some en =>
      rw [hl] at hO
      have g3:YL O t.name=true:=by unfold YL;rw [hO];rfl
      have g4:Qy O t.name=en:=by unfold Qy;rw [hO];rfl
      rw [decide_eq_true ho,g3,g4]
      show ∃ e:Int,Option.bind (DL s.d (s.env.length:Int) t.name) _=some e∧_
      rw [m34_eq s.d t.name _ en (by have:=hs.d;omega) hl]
      simp only [Bool.not_false,cond_true,Option.bind_some,Xt,Sum.elim_inl]
      show ∃ e:Int,cond (!((t.levels.length:Int)==en.params)) _ _=_∧_
      cases ((t.levels.length:Int)==en.params) with
      | true=>exact ⟨e,h1,h2,h3⟩
      | false=>exact ⟨15,rfl,fun h=>by omega,fun _=>rfl⟩
    ·rw [if_neg ho] at hO
     have g3:YL O t.name=false:=by unfold YL;rw [hO];rfl
     rw [decide_eq_false ho,g3]
     exact ⟨9,rfl,fun h=>by omega,fun _=>rfl⟩
  ·rw [decide_eq_false hk]
   exact ⟨e,h1,h2,h3⟩
theorem Wi (s:Rsc) (M O:Qo Bs Ent) (hs:Sok s M O) (t:Tm) (V P:Int) (h:t.size≤900000000) :
  ∃ e:Int,Df s t V P=some e∧(e=0→Gq t V P s.env M O=some (.inl ()))∧(e ≠ 0→Gq t V P s.env M O=some (.inr e)):=by
 obtain ⟨e,h1,h2⟩:=m66_eq t V P h
 obtain ⟨e',h3,h4,h5⟩:=const_eq s M O hs t QU t (by unfold QU;omega) h
 have h3':m87 s t=some e':=h3
 unfold Df Gq m83f9
 rw [h1,h2,h3']
 simp only [Option.bind_some,Xt]
 by_cases he:e=0
 ·subst he
  by_cases he':e'=0
  ·rw [h4 he'];exact ⟨e',rfl,fun _=>rfl,fun h=>(h he').elim⟩
  ·rw [h5 he'];exact ⟨e',rfl,fun h=>(he' h).elim,fun _=>rfl⟩
 ·rw [UF he,show (e==0)=false from by rw [YC];exact decide_eq_false he]
  exact ⟨e,rfl,fun h=>(he h).elim,fun _=>rfl⟩
end Go.Proofs.Ytafddfoefeploaa
