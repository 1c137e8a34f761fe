/- The statement SignatureCoversUpto is proved here: for every list of declarations the law returns true, and what it is given reads behind the call ars it did before; condition: the arguments are of bulk at most 1048576 (the second form). -/
import Derived.Test.YtafddfoefeploaaK85
import Derived.Deep.Slices
import Derived.ChangeSame
import Derived.Test.YtafddfoefeploaaRows
import Derived.Test.YtafddfoefeploaaProg
import Derived.Test.YtafddfoefeploaaChecked
import Derived.ProofKit
import Derived.Carry
import Derived.JoinedCond
set_option maxRecDepth 100000
set_option maxHeartbeats 2000000
set_option linter.unusedSimpArgs false
set_option linter.unusedVariables false
set_option linter.unusedSectionVars false
namespace Go.Proofs.Ytafddfoefeploaa
open Go.RowKit Go.Shelf
theorem en_8:J4 Try.prog 8:=enters_of Try.func8 (by kernel_rfl) rfl
def Uz (x8:(List Bs)) (a0:List Dcl) (s1:Int) (s2:Int):Option (LO Int (Unit⊕Bool)) :=
 cond (decide (s2 < (x8.length:Int)))
   (Option.bind (JC x8 s2) fun (x14:Bs) =>
 Option.bind (m14 a0 x14) fun (x15:Ent×Int) =>
 Option.bind (cond (x15.2 != 0)
   (some true)
   (some (x15.1.decl != s1))) (fun (v16:Bool)=>cond v16
   (some (.done (.inr false)))
   (some (.next (J9 (s2+1))))))
   (some (.done (.inl ())))
def Um (x10:(List Bs)) (a0:List Dcl) (s1:Int) (s2:Int):Option (LO Int (Unit⊕Bool)) :=
 cond (decide (s2 < (x10.length:Int)))
   (Option.bind (JC x10 s2) fun (x15:Bs) =>
 Option.bind (m14 a0 x15) fun (x16:Ent×Int) =>
 Option.bind (cond (x16.2 != 0)
   (some true)
   (some (decide (s1≤x16.1.decl)))) (fun (v17:Bool)=>cond v17
   (some (.done (.inr false)))
   (some (.next (J9 (s2+1))))))
   (some (.done (.inl ())))
def Uy (a0:List Dcl) (s1:Int):Option (LO Int (Unit⊕Bool)) :=
 cond (decide (s1 < (a0.length:Int)))
   (Option.bind (JC a0 s1) fun (x7:Dcl) =>
 Option.bind (m20 x7) fun (x8:(List Bs)) =>
 Option.bind (JC a0 s1) fun (x9:Dcl) =>
 Option.bind (m24 x9) fun (x10:(List Bs)) =>
 cond ((x8.length:Int)==0)
   (some (.done (.inr false)))
   (Option.bind (Qp (Uz x8 a0 s1) QF 0) (Sum.elim (fun (o12:Unit)=>Option.bind (Qp (Um x10 a0 s1) QF 0) (Sum.elim (fun (o13:Unit)=>some (.next (J9 (s1+1)))) (fun o=>some (.done (.inr o))))) (fun o=>some (.done (.inr o))))))
   (some (.done (.inl ())))
noncomputable def m8 (a0:List Dcl):Option Bool :=
 Option.bind (m9 a0) fun (x1:Bool) =>
 cond (!x1)
   (some true)
   (Option.bind (m11 a0) fun (x3:Int×Int) =>
 cond (x3.2 != 0)
   (some true)
   (Option.bind (Qp (Uy a0) QF 0) (Sum.elim (fun (o5:Unit)=>some true) (fun o=>some o))))
theorem m8_ok (a0:List Dcl) (r:Bool) (h0:m8 a0=some r):Fun Try.prog 8 [.one (dS a0)] (QK [.one (dB r)]):=by
 unfold m8 at h0
 refine QZ 9 92 Try.func8 J en_8 J (lb J) (fun S w=>?_)
 simp only [Ja]
 refine Q5<|Q0<|rA J J J<|Q3<|Q4<|Q5<|Q5<|Q0<|rM J J J ?_
 refine Qb h0 (fun x1 hx1 h0=>?_)
 refine Q9 J J (lb J) (Qq (m9_ok a0 x1 hx1) J (.cons (.one (.d _)) .nil))<|rR J J J (Ji J)<|Q3<|Q4 ?_
 refine Qh (b:=(!x1)) J (fun c2=>?_) (fun c2=>?_)
 replace h0:=Qk c2 h0
 refine Q5<|Q0<|Q9 J J (lb J) (Qq (awake_fun) J .nil)<|rA J J J<|Q3<|Q4<|QD ?_
 have e:=sI h0;subst e
 exact QL (fun _ _ h=>h) J (QC J .nil) (.cons (.one (.d _)) .nil)
 replace h0:=Ql c2 h0
 refine Qm<|Q4<|Q5<|Q5<|Q0<|rM J J J ?_
 refine Qb h0 (fun x3 hx3 h0=>?_)
 refine Q9 J J (lb J) (Qq (m11_ok a0 x3 hx3) J (.cons (.one (.d _)) .nil))<|rM J J J<|rR J J J (J8 J J)<|rR J J J (J8 J J)<|rA J J J<|rA J J J<|Q3<|Q4<|Q5<|Q0<|rM J J J<|rR J J J (Q7 J J J)<|Q3<|Q4 ?_
 refine Qh (b:=(x3.2 != 0)) J (fun c4=>?_) (fun c4=>?_)
 replace h0:=Qk c4 h0
 refine Q5<|Q0<|Q9 J J (lb J) (Qq (awake_fun) J .nil)<|rA J J J<|Q3<|Q4<|QD ?_
 have e:=sI h0;subst e
 exact QL (fun _ _ h=>h) J (QC J .nil) (.cons (.one (.d _)) .nil)
 replace h0:=Ql c4 h0
 refine Qm<|Q4<|Q5<|Q5<|Q0<|rA J J J<|Q3<|Q4<|Qf ?_
 refine QY 0 (fun (o5:Unit)=>⟨[],[],[],0,92,[]⟩) (fun (o5:Unit)=>(some true)=some r) ?_ ?_
 refine Qb h0 (fun o6 hl1 h0=>?_)
 refine QX (Uy a0) (fun s1=>⟨[(0,.v (.one (dS a0))),(5,.v (.one (dI s1)))],[],[],0,92,[]⟩) 0 o6 (sL (Nat.zero_le _) J J J J J) hl1 (fun s1 n1 oo1 h1 ho1=>?_)
 unfold Uy at h1
 refine Q5<|Q5<|Q0<|rM J J J<|rM J J J<|rR J J J (QA (α:=Dcl) Zi J (.d _))<|rR J J J (Q7 J J J)<|Q3<|Q4 ?_
 refine Qh (b:=(decide (s1 < (a0.length:Int)))) J (fun c7=>?_) (fun c7=>?_)
 replace h1:=Qk c7 h1
 refine Qm<|Q4<|Q5<|Qf<|Q5 ?_
 refine Jv [] [] YQ (by kernel_rfl) (by kernel_rfl) (by kernel_rfl) ?_
 refine RunA.rd J J J (Q1 (Qr J)) J<|RunA.rd J J J (Q1 (Qr J)) J ?_
 refine Qb h1 (fun x8 hx8 h1=>?_)
 refine RunA.rd J J J (Q1 (Qy (α:=Dcl) Zi J (.d _) J hx8)) J<|RunA.rd J J J (Q1 (Qv (x8:Dcl) JX J)) J ?_
 refine Qb h1 (fun x9 hx9 h1=>?_)
 refine RunA.rd J J J (Qq (m20_ok x8 x9 hx9) J (.cons (.agg (.cons (.d _) (.cons (.d _) (.cons (.d _) (.cons (.d _) (.cons (.d _) (.cons (.d _) (.cons (.d _) (.cons (.d _) (.cons (.d _) (.cons (.d _) (.cons (.d _) (.cons (.d _) (.cons (.d _) (.cons (.d _) (.cons (.d _) (.cons (.d _) (.cons (.d _) (.cons (.d _) (.cons (.d _) (.cons (.d _) (.cons (.d _) (.cons (.d _) (.cons (.d _) .nil)))))))))))))))))))))))) .nil)) J<|RunA.rd J J J (Q1 (Qr J)) J<|RunA.rd J J J (Q1 (Qr J)) J ?_
 refine Qb h1 (fun x10 hx10 h1=>?_)
 refine RunA.rd J J J (Q1 (Qy (α:=Dcl) Zi J (.d _) J hx10)) J<|RunA.rd J J J (Q1 (Qv (x10:Dcl) JX J)) J ?_
 refine Qb h1 (fun x11 hx11 h1=>?_)
 refine RunA.rd J J J (Qq (m24_ok x10 x11 hx11) J (.cons (.agg (.cons (.d _) (.cons (.d _) (.cons (.d _) (.cons (.d _) (.cons (.d _) (.cons (.d _) (.cons (.d _) (.cons (.d _) (.cons (.d _) (.cons (.d _) (.cons (.d _) (.cons (.d _) (.cons (.d _) (.cons (.d _) (.cons (.d _) (.cons (.d _) (.cons (.d _) (.cons (.d _) (.cons (.d _) (.cons (.d _) (.cons (.d _) (.cons (.d _) (.cons (.d _) .nil)))))))))))))))))))))))) .nil)) J<|RunA.rd J J J (Q1 (JH J)) J<|RunA.rd J J J (Q1 (JH J)) J ?_
 refine RunA.nil ⟨?ex,_,_,J,?_⟩
 case ex=>exact trivial
 refine JW (st':=⟨[(0,.v (.one (dS a0))),(5,.v (.one (dI s1))),(6,.v (.one (dS x9))),(7,.v (.one (dS x11)))],[],[],0,92,[]⟩) (sL (Nat.zero_le _) J J J J J)<|Q4<|Q5<|Q5<|Q0<|rM J J J<|rR J J J (QA (α:=Bs) Yc J (.d _))<|rR J J J (Q7 J J J)<|Q3<|Q4 ?_
 refine Qh (b:=((x9.length:Int)==0)) J (fun c12=>?_) (fun c12=>?_)
 replace h1:=Qk c12 h1
 refine Q5<|Q0<|rA J J J<|Q3<|Q4<|QD ?_
 have e:=sI h1;subst e
 have e_:_=_:=ho1
 subst e_
 try dsimp only [Sum.elim_inl,Sum.elim_inr] at h0
 have e:=sI h0;subst e
 exact QL (fun _ _ h=>h) J (QC J .nil) (.cons (.one (.d _)) .nil)
 replace h1:=Ql c12 h1
 refine Qm<|Q4<|Q5<|Q5<|Q0<|rA J J J<|Q3<|Q4<|Qf ?_
 refine QY 2 (fun (o13:Unit)=>⟨[(0,.v (.one (dS a0))),(5,.v (.one (dI s1))),(7,.v (.one (dS x11)))],[],[],0,92,[]⟩) (fun (o13:Unit)=>(Option.bind (Qp (Um x11 a0 s1) QF 0) (Sum.elim (fun (o14:Unit)=>some (.next (J9 (s1+1)))) (fun o=>some (.done (.inr o)))))=some oo1) ?_ ?_
 refine Qb h1 (fun o14 hl2 h1=>?_)
 refine QX (Uz x9 a0 s1) (fun s2=>⟨[(0,.v (.one (dS a0))),(5,.v (.one (dI s1))),(6,.v (.one (dS x9))),(7,.v (.one (dS x11))),(8,.v (.one (dI s2)))],[],[],0,92,[]⟩) 0 o14 (sL (Nat.zero_le _) J J J J J) hl2 (fun s2 n2 oo2 h2 ho2=>?_)
 unfold Uz at h2
 refine Q5<|Q5<|Q0<|rM J J J<|rM J J J<|rR J J J (QA (α:=Bs) Yc J (.d _))<|rR J J J (Q7 J J J)<|Q3<|Q4 ?_
 refine Qh (b:=(decide (s2 < (x9.length:Int)))) J (fun c15=>?_) (fun c15=>?_)
 replace h2:=Qk c15 h2
 refine Qm<|Q4<|Q5<|Qf<|Q5<|Q0<|rM J J J<|rM J J J<|rM J J J ?_
 refine Qb h2 (fun x16 hx16 h2=>?_)
 refine rR J J J (Qy (α:=Bs) Yc J (.d _) J hx16)<|rR J J J (JQ JV J J) ?_
 refine Qb h2 (fun x17 hx17 h2=>?_)
 refine Q9 J J (lb J) (Qq (m14_ok a0 x16 x17 hx17) J (.cons (.one (.d _)) (.cons (.one (.d _)) .nil)))<|rM J J J<|rR J J J (J8 J J)<|rR J J J (J8 J J)<|Q9 J J (lb J) (Qj Zl J)<|Qx J J (Qz (x17.1:Ent) Jm J J J J J)<|rA J J J<|Q3<|Q4<|Q5 ?_
 refine QS (fun (v18:Bool)=>⟨[(0,.v (.one (dS a0))),(5,.v (.one (dI s1))),(6,.v (.one (dS x9))),(7,.v (.one (dS x11))),(8,.v (.one (dI s2))),(67,.v (.one (dB v18)))],[(0,.cells 35 (cE x17.1))],[],1,92,[]⟩) (fun (v18:Bool)=>(cond v18
     (some (.done (.inr false)))
     (some (.next (J9 (s2+1)))))=some oo2) ?_ ?_
 refine Qb h2 (fun w3_ h3 h2=>?_)
 refine Q0<|rM J J J<|rR J J J (Q7 J J J)<|rM J J J ?_
 refine QG (d:=62) (c:=(x17.2 != 0)) J (fun c19=>?_) (fun c19=>?_)
 replace h3:=Qk c19 h3
 refine Q8 J J<|Q8 J J<|Q8 J J<|Q8 J J<|rR J J J (Qg J J)<|Q3 ?_
 have e:=sI h3;subst e
 exact Qd true (sL (Nat.zero_le _) J J J J J) h2
 replace h3:=Ql c19 h3
 refine rR J J J (Q2 Xd J)<|rR J J J (Q6 QU J J J)<|rM J J J<|rR J J J (Q7 J J J)<|rR J J J (Qc J J)<|Q3 ?_
 have e:=sI h3;subst e
 exact Qd (x17.1.decl != s1) (sL (Nat.zero_le _) J J J J J) h2
 intro v18 h2
 refine Q4 ?_
 refine Qh (b:=v18) J (fun c20=>?_) (fun c20=>?_)
 replace h2:=Qk c20 h2
 refine Q5<|Q0<|rA J J J<|Q3<|Q4<|QD ?_
 have e:=sI h2;subst e
 have e_:_=_:=ho2
 subst e_
 try dsimp only [Sum.elim_inl,Sum.elim_inr] at h1
 have e:=sI h1;subst e
 have e_:_=_:=ho1
 subst e_
 try dsimp only [Sum.elim_inl,Sum.elim_inr] at h0
 have e:=sI h0;subst e
 exact QL (fun _ _ h=>h) J (QC J .nil) (.cons (.one (.d _)) .nil)
 replace h2:=Ql c20 h2
 refine Qm<|Qe<|Q4<|Q0<|rM J J J<|rR J J J (Q7 J J J)<|rA J J J<|Q3 ?_
 have e:=sI h2;subst e
 refine QR (J9 (s2+1)) (sL (Nat.zero_le _) J J J J J) ho2
 replace h2:=Ql c15 h2
 refine J5<|Qo<|Qo ?_
 have e:=sI h2;subst e
 have e_:_=_:=ho2
 subst e_
 exact QW () (sL (Nat.zero_le _) J J J J J) h1
 intro o13 h1
 refine QM<|Q4<|Q5<|Q0<|rA J J J<|Q3<|Q4<|Qf ?_
 refine QY 4 (fun (o21:Unit)=>⟨[(0,.v (.one (dS a0))),(5,.v (.one (dI s1)))],[],[],0,92,[]⟩) (fun (o21:Unit)=>(some (.next (J9 (s1+1))))=some oo1) ?_ ?_
 refine Qb h1 (fun o22 hl2 h1=>?_)
 refine QX (Um x11 a0 s1) (fun s2=>⟨[(0,.v (.one (dS a0))),(5,.v (.one (dI s1))),(7,.v (.one (dS x11))),(11,.v (.one (dI s2)))],[],[],0,92,[]⟩) 0 o22 (sL (Nat.zero_le _) J J J J J) hl2 (fun s2 n2 oo2 h2 ho2=>?_)
 unfold Um at h2
 refine Q5<|Q5<|Q0<|rM J J J<|rM J J J<|rR J J J (QA (α:=Bs) Yc J (.d _))<|rR J J J (Q7 J J J)<|Q3<|Q4 ?_
 refine Qh (b:=(decide (s2 < (x11.length:Int)))) J (fun c23=>?_) (fun c23=>?_)
 replace h2:=Qk c23 h2
 refine Qm<|Q4<|Q5<|Qf<|Q5<|Q0<|rM J J J<|rM J J J<|rM J J J ?_
 refine Qb h2 (fun x24 hx24 h2=>?_)
 refine rR J J J (Qy (α:=Bs) Yc J (.d _) J hx24)<|rR J J J (JQ JV J J) ?_
 refine Qb h2 (fun x25 hx25 h2=>?_)
 refine Q9 J J (lb J) (Qq (m14_ok a0 x24 x25 hx25) J (.cons (.one (.d _)) (.cons (.one (.d _)) .nil)))<|rM J J J<|rR J J J (J8 J J)<|rR J J J (J8 J J)<|Q9 J J (lb J) (Qj Zl J)<|Qx J J (Qz (x25.1:Ent) Jm J J J J J)<|rA J J J<|Q3<|Q4<|Q5 ?_
 refine QS (fun (v26:Bool)=>⟨[(0,.v (.one (dS a0))),(5,.v (.one (dI s1))),(7,.v (.one (dS x11))),(11,.v (.one (dI s2))),(90,.v (.one (dB v26)))],[(0,.cells 35 (cE x25.1))],[],1,92,[]⟩) (fun (v26:Bool)=>(cond v26
     (some (.done (.inr false)))
     (some (.next (J9 (s2+1)))))=some oo2) ?_ ?_
 refine Qb h2 (fun w3_ h3 h2=>?_)
 refine Q0<|rM J J J<|rR J J J (Q7 J J J)<|rM J J J ?_
 refine QG (d:=85) (c:=(x25.2 != 0)) J (fun c27=>?_) (fun c27=>?_)
 replace h3:=Qk c27 h3
 refine Q8 J J<|Q8 J J<|Q8 J J<|Q8 J J<|rR J J J (Qg J J)<|Q3 ?_
 have e:=sI h3;subst e
 exact Qd true (sL (Nat.zero_le _) J J J J J) h2
 replace h3:=Ql c27 h3
 refine rR J J J (Q2 Xd J)<|rR J J J (Q6 QU J J J)<|rM J J J<|rR J J J (Q7 J J J)<|rR J J J (Qc J J)<|Q3 ?_
 have e:=sI h3;subst e
 exact Qd (decide (s1≤x25.1.decl)) (sL (Nat.zero_le _) J J J J J) h2
 intro v26 h2
 refine Q4 ?_
 refine Qh (b:=v26) J (fun c28=>?_) (fun c28=>?_)
 replace h2:=Qk c28 h2
 refine Q5<|Q0<|rA J J J<|Q3<|Q4<|QD ?_
 have e:=sI h2;subst e
 have e_:_=_:=ho2
 subst e_
 try dsimp only [Sum.elim_inl,Sum.elim_inr] at h1
 have e:=sI h1;subst e
 have e_:_=_:=ho1
 subst e_
 try dsimp only [Sum.elim_inl,Sum.elim_inr] at h0
 have e:=sI h0;subst e
 exact QL (fun _ _ h=>h) J (QC J .nil) (.cons (.one (.d _)) .nil)
 replace h2:=Ql c28 h2
 refine Qm<|Qe<|Q4<|Q0<|rM J J J<|rR J J J (Q7 J J J)<|rA J J J<|Q3 ?_
 have e:=sI h2;subst e
 refine QR (J9 (s2+1)) (sL (Nat.zero_le _) J J J J J) ho2
 replace h2:=Ql c23 h2
 refine J5<|Qo<|Qo ?_
 have e:=sI h2;subst e
 have e_:_=_:=ho2
 subst e_
 exact QW () (sL (Nat.zero_le _) J J J J J) h1
 intro o21 h1
 refine QM<|Qe<|Q4<|Q0<|rM J J J<|rR J J J (Q7 J J J)<|rA J J J<|Q3 ?_
 have e:=sI h1;subst e
 refine QR (J9 (s1+1)) (sL (Nat.zero_le _) J J J J J) ho1
 replace h1:=Ql c7 h1
 refine J5<|Qo<|Qo ?_
 have e:=sI h1;subst e
 have e_:_=_:=ho1
 subst e_
 exact QW () (sL (Nat.zero_le _) J J J J J) h0
 intro o5 h0
 refine QM<|Q4<|Q5<|Q0<|Q9 J J (lb J) (Qq (awake_fun) J .nil)<|rA J J J<|Q3<|Q4<|QD ?_
 have e:=sI h0;subst e
 exact QL (fun _ _ h=>h) J (QC J .nil) (.cons (.one (.d _)) .nil)
end Go.Proofs.Ytafddfoefeploaa
namespace Go.Proofs.Ytafddfoefeploaa
open Go.RowKit Go.Shelf
theorem m8_l0_eq (env:List Dcl) (l:List Bs) (i:Int) (he:Yn env≤900000000) (hl:l.length≤900000000) (h:∀ n∈l,∃ e,Y2 env n=some e∧e.decl=i):Qp (Uz l env i) QF 0=some (.inl ()):=by
 obtain ⟨r,h1,h2⟩:=JG (step:=Uz l env i) l (fun i (_:Unit)=>i) (fun _ _=>True) (fun r=>r=.inl ()) hl (fun a x b s e _=>by
  obtain ⟨q1,q2⟩:=Y3 e
  obtain ⟨en,h1,h2⟩:=h x (by rw [e];simp)
  refine .inr ⟨(),?_,trivial⟩
  unfold Uz
  rw [q1,q2]
  simp only [cond_true,Option.bind_some]
  rw [m14_eq env x he]
  unfold XP
  rw [h1]
  have e0:((0:Int) != 0)=false:=rfl
  simp only [Option.elim_some,Option.bind_some,e0,cond_false]
  rw [show (en.decl != i)=false from by rw [h2];simp];rfl)
  (fun s _=>⟨_,by unfold Uz;rw [J7];rfl,rfl⟩) () trivial
 rw [← h2];exact h1
theorem m8_l1_eq (env:List Dcl) (l:List Bs) (i:Int) (he:Yn env≤900000000) (hl:l.length≤900000000) (h:∀ n∈l,∃ e,Y2 env n=some e∧e.decl < i):Qp (Um l env i) QF 0=some (.inl ()):=by
 obtain ⟨r,h1,h2⟩:=JG (step:=Um l env i) l (fun i (_:Unit)=>i) (fun _ _=>True) (fun r=>r=.inl ()) hl (fun a x b s e _=>by
  obtain ⟨q1,q2⟩:=Y3 e
  obtain ⟨en,h1,h2⟩:=h x (by rw [e];simp)
  refine .inr ⟨(),?_,trivial⟩
  unfold Um
  rw [q1,q2]
  simp only [cond_true,Option.bind_some]
  rw [m14_eq env x he]
  unfold XP
  rw [h1]
  have e0:((0:Int) != 0)=false:=rfl
  simp only [Option.elim_some,Option.bind_some,e0,cond_false]
  rw [decide_eq_false (by omega)];rfl)
  (fun s _=>⟨_,by unfold Um;rw [J7];rfl,rfl⟩) () trivial
 rw [← h2];exact h1
theorem m8_true (env:List Dcl) (he:Yn env≤100000000) (hr:∀ d∈env,Us d.rcr.params):m8 env=some true:=by
 obtain ⟨b,h1,h0⟩:=m9_some env (by omega)
 have hl:=WV env
 unfold m8
 rw [h1]
 cases b with
 | false=>rfl
 | true =>
  have hlen:=h0 rfl
  obtain ⟨r,h2,-,h3⟩:=check_is env (by omega) hr
  show Option.bind (m11 env) _=_
  rw [h2,Option.bind_some]
  rcases h3 (by omega) with ⟨rfl,hg⟩ | ⟨a,x,b,e,-,-,-,h4,rfl⟩
  ·obtain ⟨q,e1,e2⟩:=JG (step:=Uy env) env (fun i (_:Unit)=>i) (fun _ _=>True) (fun q=>q=.inl ()) (by omega)
    (fun a x b s e _=>by
     obtain ⟨q1,q2⟩:=Y3 e
     have hsz:Yn a+x.size≤100000000:=by
      rw [e,envSz_app] at he
      have:Yn (x::b)=x.size+Yn b:=rfl
      omega
     obtain ⟨hz,hnm⟩:=hg a x b e
     have hne:=names_ne hz
     have hnl:=KI x
     have hul:=uses_len x
     refine .inr ⟨(),?_,trivial⟩
     unfold Uy
     rw [q1,q2]
     simp only [cond_true,Option.bind_some]
     rw [m20_eq x (by omega),m24_eq x (by omega)]
     simp only [Option.bind_some]
     rw [show (((J3 x).length:Int)==0)=false from by rw [Yf,decide_eq_false];intro hc;exact hne (List.length_eq_zero_iff.1 (by omega))]
     rw [m8_l0_eq env (J3 x) (a.length:Int) (by omega) (by omega) (fun n hn=>by
      obtain ⟨en,hen⟩:=look_some (a.length:Int) hn
      refine ⟨en,?_,look_decl hen⟩
      rw [e,findO_split,hnm.2.1 n hn,hen];rfl)]
     simp only [cond_false,Option.bind_some,Sum.elim_inl]
     rw [m8_l1_eq env (Dh x) (a.length:Int) (by omega) (by omega) (fun n hn=>by
      have hk:=uses_known hz (by omega) (by omega) n hn
      cases hf:Y2 a n with
      | none=>rw [hf] at hk;cases hk
      | some en =>
       refine ⟨en,?_,(findO_at hf).2⟩
       rw [e,findO_split,hf];rfl)]
     rfl)
    (fun s _=>⟨.inl (),by unfold Uy;rw [J7];rfl,rfl⟩) () trivial
   have e1':Qp (Uy env) QF 0=some q:=e1
   rw [e1',e2];rfl
  ·show cond (e != 0) _ _=_
   rw [WY h4];rfl
end Go.Proofs.Ytafddfoefeploaa
namespace Go.Proofs.Ytafddfoefeploaa
open Go.RowKit Go.ChangeShapes Go.WideShapes
def Ds (w:World):Nat→Nat→Prop:=fun b _=>b < w.heap.size
def RC (w:World) (e:List C) (cs:List Value):Prop:=cs.length=e.length∧∀ (j:Nat) (c:C),e[j]?=some c→∃ u,cs[j]?=some u∧Reads (Ds w) w c u
theorem RC.app {w:World} {e0 e1:List C} {cs:List Value} (h0:RC w e0 (cs.take e0.length)) (h1:RC w e1 (cs.drop e0.length)) (hl:cs.length=e0.length+e1.length):RC w (e0++e1) cs:=by
 refine ⟨by rw [hl,List.length_append],fun j c hj=>?_⟩
 rcases Nat.lt_or_ge j e0.length with h | h
 ·rw [List.getElem?_append_left h] at hj
  obtain ⟨u,h2,h3⟩:=h0.2 j c hj
  rw [List.getElem?_take,if_pos h] at h2
  exact ⟨u,h2,h3⟩
 ·rw [List.getElem?_append_right h] at hj
  obtain ⟨u,h2,h3⟩:=h1.2 _ c hj
  rw [List.getElem?_drop,show e0.length+(j - e0.length)=j by omega] at h2
  exact ⟨u,h2,h3⟩
section
variable {H:Type} (enc:TypeId×Value→H) (P:Program) (w:World)
end
section
variable {H:Type} {enc:TypeId×Value→H} {P:Program} {w:World}
end
end Go.Proofs.Ytafddfoefeploaa
namespace Go.Proofs.Ytafddfoefeploaa
open Go.RowKit Go.ChangeShapes Go.WideShapes
theorem GY {H:Type} (d:DataW H):1≤Rows.uptoBulk d:=by
 cases d with
 | lit l=>cases l <;> simp [Rows.uptoBulk]
 | nil=>simp [Rows.uptoBulk]
 | ptr d=>simp [Rows.uptoBulk]
 | slice elems spare=>simp [Rows.uptoBulk]
 | agg parts=>simp [Rows.uptoBulk]
 | iface t d=>simp [Rows.uptoBulk]
 | map entries=>simp [Rows.uptoBulk]
 | held h=>simp [Rows.uptoBulk]
theorem bulk_all {H:Type}:∀ l:List (DataW H),Rows.uptoBulkAll l=(l.map Rows.uptoBulk).sum
 | []=>by simp [Rows.uptoBulkAll]
 | x::l=>by simp only [Rows.uptoBulkAll,List.map_cons,List.sum_cons,bulk_all l]
theorem RC.nil {w:World} {cs:List Value}:RC w [] (cs.take 0):=⟨by simp,fun j c h=>by cases h⟩
theorem RC.snoc {w:World} {e0 e1:List C} {cs:List Value} {m k:Nat} (h0:RC w e0 (cs.take m)) (h1:RC w e1 ((cs.drop m).take k)) (hm:e0.length=m):RC w (e0++e1) (cs.take (m+k)):=by
 have h2:=h0.1
 have h3:=h1.1
 refine RC.app ?_ ?_ ?_
 ·rw [List.take_take,hm,Nat.min_eq_left (by omega)];exact h0
 ·rw [hm,List.drop_take,Nat.add_sub_cancel_left];exact h1
 ·rw [← h3,hm]
  simp only [List.length_take,List.length_drop] at h2 ⊢
  omega
section
variable {H:Type} (enc:TypeId×Value→H) (P:Program) (w:World)
def Jg (N:Nat) (t:TypeId) (α:Type) [Enc α] (μ:α→Nat):Prop:=∀ (fuel:Nat) (cs:List Value) (x:DataW H×List MemPlace),DataW.trod enc P w 0 (fun _=>true) true fuel t cs=some x→Rows.uptoBulk x.1≤N→∃ v:α,RC w (Enc.enc v) cs∧μ v≤Rows.uptoBulk x.1
end
section
variable {H:Type} {enc:TypeId×Value→H} {P:Program} {w:World} {N:Nat}
theorem Xl {t:TypeId} (ht:P.underlying t=some (.int .i64)):Jg enc P w N t Int (fun _=>1):=by
 intro fuel cs x h hb
 obtain ⟨n,rfl,rfl,-⟩:=DataW.trod_int ht h
 refine ⟨n,⟨J,fun j c hj=>?_⟩,GY _⟩
 cases j with
 | zero=>cases hj;exact ⟨_,rfl,Reads.v _ rfl⟩
 | succ j=>cases hj
theorem z_bool {t:TypeId} (ht:P.underlying t=some .bool):Jg enc P w N t Bool (fun _=>1):=by
 intro fuel cs x h hb
 obtain ⟨n,rfl,rfl⟩:=DataW.trod_bool ht h
 refine ⟨n,⟨J,fun j c hj=>?_⟩,GY _⟩
 cases j with
 | zero=>cases hj;exact ⟨_,rfl,Reads.v _ rfl⟩
 | succ j=>cases hj
theorem Df {t:TypeId} (ht:P.underlying t=some .string):Jg enc P w N t Bs (fun s=>1+s.length):=by
 intro fuel cs x h hb
 obtain ⟨s,rfl,rfl,-⟩:=DataW.trod_string ht h
 refine ⟨s.data.toList,⟨rfl,fun j c hj=>?_⟩,by simp [Rows.uptoBulk];omega⟩
 cases j with
 | zero=>cases hj;exact ⟨_,rfl,by rw [show sB s.data.toList=s from rfl];exact Reads.v _ rfl⟩
 | succ j=>cases hj
theorem Gj {α:Type} [Enc α] [EncLen α] {μ:α→Nat} {t e:TypeId} (ht:P.underlying t=some (.slice e)) (hc:P.cellsOf e=Enc.sz α) (ho:Jg enc P w N e α μ):Jg enc P w N t (List α) (fun l=>1+(l.map μ).sum):=by
 intro fuel cs x h hb
 rcases Deep.open_slice ht h with ⟨rfl,rfl⟩ | ⟨a,len,cap,m,n,D,Pl,rfl,-,hlc,-,hm,rfl,hel⟩
 ·refine ⟨[],⟨rfl,fun j c hj=>?_⟩,by simp [Rows.uptoBulk]⟩
  cases j with
  | zero =>
   cases hj
   refine ⟨_,J,?_⟩
   rw [Enc.nil]
   exact .sl _ [] none 0 0 0 (fun _ _=>undef) (Nat.le_refl _) (fun h=>absurd rfl h) (fun i e h=>by simp at h) (fun i e j c h=>by simp at h) (fun i e j c h=>by simp at h) (fun i e j c h=>by simp at h)
  | succ j=>cases hj
 ·have hm':m=cap:=by rw [hm];rfl
  have hbk:((List.range len).map fun i=>Rows.uptoBulk (D i)).sum+1≤Rows.uptoBulk (DataW.slice (H:=H) ((List.range len).map D) ((List.range (m - len)).map fun j=>D (len+j))):=by
   simp only [Rows.uptoBulk,bulk_all,List.map_map]
   have:(List.map (Rows.uptoBulk ∘ D) (List.range len)).sum=((List.range len).map fun i=>Rows.uptoBulk (D i)).sum:=rfl
   omega
  dsimp only at hb
  have hD:∀ k,k < len→Rows.uptoBulk (D k)≤N:=fun k hk=>by
   have:=ZI (fun i=>Rows.uptoBulk (D i)) (List.mem_range.2 hk)
   omega
  have hall:∀ k,k≤len→∃ l:List α,l.length=k∧(l.map μ).sum≤((List.range k).map fun i=>Rows.uptoBulk (D i)).sum∧∀ (i:Nat) (v:α),l[i]?=some v→∃ cs',w.cells? 0 (a.add (i * Enc.sz α)) (Enc.sz α)=some cs'∧RC w (Enc.enc v) cs':=by
   intro k
   induction k with
   | zero=>intro _;exact ⟨[],rfl,Nat.le_refl _,fun i v h=>by simp at h⟩
   | succ k ih =>
    intro hk
    obtain ⟨l,h1,hsum,h2⟩:=ih (by omega)
    obtain ⟨cs',h3,h4⟩:=hel k (by omega)
    rw [hc] at h3
    obtain ⟨v,hv,hμ⟩:=ho _ _ _ h4 (hD k (by omega))
    refine ⟨l++[v],by simp [h1],?_,fun i v' hi=>?_⟩
    ·rw [List.range_succ]
     simp only [List.map_append,List.map_cons,List.map_nil,List.sum_append,List.sum_cons,List.sum_nil]
     dsimp only at hμ
     omega
    rcases Nat.lt_or_ge i l.length with h | h
    ·rw [List.getElem?_append_left h] at hi;exact h2 i v' hi
    ·rw [List.getElem?_append_right h] at hi
     have hi0:i - l.length=0:=by
      rcases Nat.eq_zero_or_pos (i - l.length) with h0 | h0
      ·exact h0
      ·rw [List.getElem?_eq_none (by simp only [List.length_singleton];omega)] at hi;cases hi
     have hik:i=k:=by omega
     rw [hi0] at hi;cases hi
     rw [hik];exact ⟨cs',h3,hv⟩
  obtain ⟨l,hl,hsum,hcells⟩:=hall len (Nat.le_refl _)
  have hpos:0 < Enc.sz α:=EncLen.pos
  have hspot:l ≠ []→a.spot=none∧a.block < w.heap.size:=by
   intro hne
   obtain ⟨v,r,rfl⟩:=List.exists_cons_of_ne_nil hne
   obtain ⟨cs',h1,h2⟩:=hcells 0 v rfl
   obtain ⟨-,h3,h4⟩:=World.cells?_some h1
   have h5:=h4 0 hpos
   rw [Nat.zero_mul,Deep.add_add,Nat.zero_add] at h5
   have h6:(cs'[0]?).isSome:=by rw [List.getElem?_eq_getElem (by omega)];rfl
   rw [← h5] at h6
   have h7:(a.add 0)=a:=by simp [Addr.add]
   rw [h7] at h6
   unfold World.cell? at h6
   split at h6
   ·rename_i c _ _ hb
    refine ⟨?_,(Array.getElem?_eq_some_iff.1 hb).1⟩
    split at h6
    ·cases h6
    ·rename_i hs
     cases hsp:a.spot with
     | none=>rfl
     | some q=>rw [hsp] at hs;exact absurd rfl hs
   ·cases h6
  have hadd:l ≠ []→∀ k,a.add k=⟨a.block,a.off+k,none⟩:=by
   intro hne k
   have h1:=(hspot hne).1
   unfold Addr.add
   split
   ·rename_i h0;subst h0
    obtain ⟨b,o,sp⟩:=a
    simp only at h1;subst h1;rfl
   ·rfl
  have hcell:∀ (i:Nat) (e':List C) (j:Nat) (c:C),(Enc.encL l)[i]?=some e'→e'[j]?=some c→∃ u,w.cell? ⟨a.block,a.off+i * Enc.sz α+j,none⟩=some u∧Reads (Ds w) w c u:=by
   intro i e' j c hi hj
   rw [Enc.map,List.getElem?_map] at hi
   cases hx:l[i]? with
   | none=>rw [hx] at hi;cases hi
   | some v =>
    rw [hx] at hi;cases hi
    have hne:l ≠ []:=by intro h0;rw [h0] at hx;simp at hx
    obtain ⟨cs',h1,h2⟩:=hcells i v hx
    obtain ⟨u,h3,h4⟩:=h2.2 j c hj
    obtain ⟨-,h5,h6⟩:=World.cells?_some h1
    have hjl:j < Enc.sz α:=by have:=(List.getElem?_eq_some_iff.1 h3).1;omega
    have h7:=h6 j hjl
    rw [Deep.add_add,hadd hne,h3,← Nat.add_assoc] at h7
    exact ⟨u,h7,h4⟩
  refine ⟨l,⟨rfl,fun j c hj=>?_⟩,by dsimp only;omega⟩
  cases j with
  | succ j=>cases hj
  | zero =>
   cases hj
   refine ⟨_,J,?_⟩
   have hR:=Reads.sl (S:=Ds w) (w:=w) (Enc.sz α) (Enc.encL l) (some a) cap a.block a.off (fun i j=>(w.cell? ⟨a.block,a.off+i * Enc.sz α+j,none⟩).getD undef) (by rw [Enc.len,hl];exact hlc)
    (fun hne=>by
     have hne':l ≠ []:=by intro h0;rw [h0,Enc.nil] at hne;exact hne rfl
     have h7:(a.add 0)=a:=by simp [Addr.add]
     rw [← h7,hadd hne'])
    (fun i e' hi=>GX l e' (List.mem_of_getElem? hi))
    (fun i e' j c hi hj=>by obtain ⟨u,h1,-⟩:=hcell i e' j c hi hj;rw [h1];rfl)
    (fun i e' j c hi hj=>by
     have hne:l ≠ []:=by intro h0;rw [h0,Enc.nil] at hi;simp at hi
     exact (hspot hne).2)
    (fun i e' j c hi hj=>by obtain ⟨u,h1,h2⟩:=hcell i e' j c hi hj;rw [h1];exact h2)
   rw [Enc.len,hl] at hR
   exact hR
theorem Uj {α:Type} [Enc α] {μ:α→Nat} {t:TypeId} (h:∀ N,Jg enc P w N t α μ→Jg enc P w (N+1) t α μ):∀ N,Jg enc P w N t α μ
 | 0=>fun fuel cs x _ hb=>by have:=GY x.1;omega
 | N+1=>h N (Uj h N)
end
section
variable {H:Type} {enc:TypeId×Value→H} {w:World} {N:Nat}
theorem Zv:Try.prog.cellsOf 3=1:=by kernel_rfl
theorem cells_4:Try.prog.cellsOf 4=1:=by kernel_rfl
theorem WW:Try.prog.cellsOf 9=1:=by kernel_rfl
theorem cells_30:Try.prog.cellsOf 30=1:=by kernel_rfl
theorem cells_31:Try.prog.cellsOf 31=1:=by kernel_rfl
theorem Gf:Try.prog.cellsOf 33=5:=by kernel_rfl
theorem cells_40:Try.prog.cellsOf 40=1:=by kernel_rfl
theorem cells_42:Try.prog.cellsOf 42=7:=by kernel_rfl
theorem cells_43:Try.prog.cellsOf 43=1:=by kernel_rfl
theorem cells_45:Try.prog.cellsOf 45=23:=by kernel_rfl
theorem cells_71:Try.prog.cellsOf 71=6:=by kernel_rfl
theorem cells_72:Try.prog.cellsOf 72=1:=by kernel_rfl
theorem cells_74:Try.prog.cellsOf 74=8:=by kernel_rfl
theorem cells_76:Try.prog.cellsOf 76=15:=by kernel_rfl
theorem cells_85:Try.prog.cellsOf 85=1:=by kernel_rfl
theorem cells_87:Try.prog.cellsOf 87=2:=by kernel_rfl
theorem cells_101:Try.prog.cellsOf 101=10:=by kernel_rfl
theorem cells_124:Try.prog.cellsOf 124=2:=by kernel_rfl
theorem z_lv:Jg enc Try.prog w (N+1) 124 LV (fun _=>1):=by
 intro fuel cs x h hb
 obtain ⟨xs,n,_,rfl,hl,hlen,hf⟩:=DataW.trod_struct Try.underlying124 h
 match xs,hlen with
 | [y0,y1],_ =>
  have hb':Rows.uptoBulk y0.1+Rows.uptoBulk y1.1+1≤Rows.uptoBulk (DataW.agg (H:=H) [y0.1,y1.1]):=by simp only [Rows.uptoBulk,Rows.uptoBulkAll];omega
  have hb2:Rows.uptoBulk (DataW.agg (H:=H) [y0.1,y1.1])≤N+1:=hb
  obtain ⟨v0,r0,m0⟩:=(Xl Try.underlying3:Jg enc Try.prog w N _ _ _) n _ _ (hf 0 _ rfl) (by omega)
  change RC w (Enc.enc v0) ((cs.drop 0).take (Try.prog.cellsOf 3)) at r0
  rw [Zv] at r0
  obtain ⟨v1,r1,m1⟩:=(Xl Try.underlying3:Jg enc Try.prog w N _ _ _) n _ _ (hf 1 _ rfl) (by omega)
  change RC w (Enc.enc v1) ((cs.drop 1).take (Try.prog.cellsOf 3)) at r1
  rw [Zv] at r1
  have hcs:cs.take 2=cs:=List.take_of_length_le (by rw [hl];exact Nat.le_of_eq cells_124)
  have hR:=((((RC.nil).snoc (k:=1) r0 rfl)).snoc (k:=1) r1 rfl)
  refine ⟨(v0,v1),by rw [← hcs];exact hR,Nat.le_trans ?_ hb'⟩
  show 1≤_
  omega
theorem z_lv':Jg enc Try.prog w N 124 LV (fun _=>1):=Uj (fun _ _=>z_lv) N
theorem z_lvl:Jg enc Try.prog w (N+1) 87 Lvl lvz:=by
 intro fuel cs x h hb
 obtain ⟨xs,n,_,rfl,hl,hlen,hf⟩:=DataW.trod_struct Try.underlying87 h
 match xs,hlen with
 | [y0,y1],_ =>
  have hb':Rows.uptoBulk y0.1+Rows.uptoBulk y1.1+1≤Rows.uptoBulk (DataW.agg (H:=H) [y0.1,y1.1]):=by simp only [Rows.uptoBulk,Rows.uptoBulkAll];omega
  have hb2:Rows.uptoBulk (DataW.agg (H:=H) [y0.1,y1.1])≤N+1:=hb
  obtain ⟨v0,r0,m0⟩:=(Xl Try.underlying3:Jg enc Try.prog w N _ _ _) n _ _ (hf 0 _ rfl) (by omega)
  change RC w (Enc.enc v0) ((cs.drop 0).take (Try.prog.cellsOf 3)) at r0
  rw [Zv] at r0
  obtain ⟨v1,r1,m1⟩:=(Gj Try.underlying85 (by kernel_rfl) z_lv':Jg enc Try.prog w N _ _ _) n _ _ (hf 1 _ rfl) (by omega)
  change RC w (Enc.enc v1) ((cs.drop 1).take (Try.prog.cellsOf 85)) at r1
  rw [cells_85] at r1
  have hcs:cs.take 2=cs:=List.take_of_length_le (by rw [hl];exact Nat.le_of_eq cells_87)
  have hR:=((((RC.nil).snoc (k:=1) r0 rfl)).snoc (k:=1) r1 rfl)
  refine ⟨⟨v0,v1⟩,by rw [← hcs];exact hR,Nat.le_trans ?_ hb'⟩
  show lvz ⟨v0,v1⟩≤_
  unfold lvz
  dsimp only at m0 m1 ⊢
  omega
theorem z_lvl':Jg enc Try.prog w N 87 Lvl lvz:=Uj (fun _ _=>z_lvl) N
theorem z_tm (hk:Jg enc Try.prog w N 33 Tm Tm.size):Jg enc Try.prog w (N+1) 33 Tm Tm.size:=by
 intro fuel cs x h hb
 obtain ⟨xs,n,_,rfl,hl,hlen,hf⟩:=DataW.trod_struct Try.underlying33 h
 match xs,hlen with
 | [y0,y1,y2,y3,y4],_ =>
  have hb':Rows.uptoBulk y0.1+Rows.uptoBulk y1.1+Rows.uptoBulk y2.1+Rows.uptoBulk y3.1+Rows.uptoBulk y4.1+1≤Rows.uptoBulk (DataW.agg (H:=H) [y0.1,y1.1,y2.1,y3.1,y4.1]):=by simp only [Rows.uptoBulk,Rows.uptoBulkAll];omega
  have hb2:Rows.uptoBulk (DataW.agg (H:=H) [y0.1,y1.1,y2.1,y3.1,y4.1])≤N+1:=hb
  obtain ⟨v0,r0,m0⟩:=(Xl Try.underlying3:Jg enc Try.prog w N _ _ _) n _ _ (hf 0 _ rfl) (by omega)
  change RC w (Enc.enc v0) ((cs.drop 0).take (Try.prog.cellsOf 3)) at r0
  rw [Zv] at r0
  obtain ⟨v1,r1,m1⟩:=(Xl Try.underlying3:Jg enc Try.prog w N _ _ _) n _ _ (hf 1 _ rfl) (by omega)
  change RC w (Enc.enc v1) ((cs.drop 1).take (Try.prog.cellsOf 3)) at r1
  rw [Zv] at r1
  obtain ⟨v2,r2,m2⟩:=(Df Try.underlying9:Jg enc Try.prog w N _ _ _) n _ _ (hf 2 _ rfl) (by omega)
  change RC w (Enc.enc v2) ((cs.drop 2).take (Try.prog.cellsOf 9)) at r2
  rw [WW] at r2
  obtain ⟨v3,r3,m3⟩:=(Gj Try.underlying30 (by kernel_rfl) z_lvl':Jg enc Try.prog w N _ _ _) n _ _ (hf 3 _ rfl) (by omega)
  change RC w (Enc.enc v3) ((cs.drop 3).take (Try.prog.cellsOf 30)) at r3
  rw [cells_30] at r3
  obtain ⟨v4,r4,m4⟩:=(Gj Try.underlying31 (by kernel_rfl) hk:Jg enc Try.prog w N _ _ _) n _ _ (hf 4 _ rfl) (by omega)
  change RC w (Enc.enc v4) ((cs.drop 4).take (Try.prog.cellsOf 31)) at r4
  rw [cells_31] at r4
  have hcs:cs.take 5=cs:=List.take_of_length_le (by rw [hl];exact Nat.le_of_eq Gf)
  have hR:=((((((((((RC.nil).snoc (k:=1) r0 rfl)).snoc (k:=1) r1 rfl)).snoc (k:=1) r2 rfl)).snoc (k:=1) r3 rfl)).snoc (k:=1) r4 rfl)
  refine ⟨Tm.mk v0 v1 v2 v3 v4,by rw [← hcs];exact hR,Nat.le_trans ?_ hb'⟩
  rw [Tm.size_eq]
  simp only [Tm.name,Tm.kids,Tm.levels]
  dsimp only at m0 m1 m2 m3 m4 ⊢
  omega
theorem Ut:Jg enc Try.prog w N 33 Tm Tm.size:=Uj (fun _ h=>z_tm h) N
theorem z_ctr:Jg enc Try.prog w (N+1) 71 Ctr csz:=by
 intro fuel cs x h hb
 obtain ⟨xs,n,_,rfl,hl,hlen,hf⟩:=DataW.trod_struct Try.underlying71 h
 match xs,hlen with
 | [y0,y1],_ =>
  have hb':Rows.uptoBulk y0.1+Rows.uptoBulk y1.1+1≤Rows.uptoBulk (DataW.agg (H:=H) [y0.1,y1.1]):=by simp only [Rows.uptoBulk,Rows.uptoBulkAll];omega
  have hb2:Rows.uptoBulk (DataW.agg (H:=H) [y0.1,y1.1])≤N+1:=hb
  obtain ⟨v0,r0,m0⟩:=(Df Try.underlying9:Jg enc Try.prog w N _ _ _) n _ _ (hf 0 _ rfl) (by omega)
  change RC w (Enc.enc v0) ((cs.drop 0).take (Try.prog.cellsOf 9)) at r0
  rw [WW] at r0
  obtain ⟨v1,r1,m1⟩:=(Ut:Jg enc Try.prog w N _ _ _) n _ _ (hf 1 _ rfl) (by omega)
  change RC w (Enc.enc v1) ((cs.drop 1).take (Try.prog.cellsOf 33)) at r1
  rw [Gf] at r1
  have hcs:cs.take 6=cs:=List.take_of_length_le (by rw [hl];exact Nat.le_of_eq cells_71)
  have hR:=((((RC.nil).snoc (k:=1) r0 rfl)).snoc (k:=5) r1 rfl)
  refine ⟨⟨v0,v1⟩,by rw [← hcs];exact hR,Nat.le_trans ?_ hb'⟩
  show csz ⟨v0,v1⟩≤_
  unfold csz
  dsimp only at m0 m1 ⊢
  omega
theorem z_ctr':Jg enc Try.prog w N 71 Ctr csz:=Uj (fun _ _=>z_ctr) N
theorem z_tr (hk:Jg enc Try.prog w N 101 Br bsz):Jg enc Try.prog w (N+1) 74 Tr Tr.size:=by
 intro fuel cs x h hb
 obtain ⟨xs,n,_,rfl,hl,hlen,hf⟩:=DataW.trod_struct Try.underlying74 h
 match xs,hlen with
 | [y0,y1,y2,y3],_ =>
  have hb':Rows.uptoBulk y0.1+Rows.uptoBulk y1.1+Rows.uptoBulk y2.1+Rows.uptoBulk y3.1+1≤Rows.uptoBulk (DataW.agg (H:=H) [y0.1,y1.1,y2.1,y3.1]):=by simp only [Rows.uptoBulk,Rows.uptoBulkAll];omega
  have hb2:Rows.uptoBulk (DataW.agg (H:=H) [y0.1,y1.1,y2.1,y3.1])≤N+1:=hb
  obtain ⟨v0,r0,m0⟩:=(Xl Try.underlying3:Jg enc Try.prog w N _ _ _) n _ _ (hf 0 _ rfl) (by omega)
  change RC w (Enc.enc v0) ((cs.drop 0).take (Try.prog.cellsOf 3)) at r0
  rw [Zv] at r0
  obtain ⟨v1,r1,m1⟩:=(Ut:Jg enc Try.prog w N _ _ _) n _ _ (hf 1 _ rfl) (by omega)
  change RC w (Enc.enc v1) ((cs.drop 1).take (Try.prog.cellsOf 33)) at r1
  rw [Gf] at r1
  obtain ⟨v2,r2,m2⟩:=(Xl Try.underlying3:Jg enc Try.prog w N _ _ _) n _ _ (hf 2 _ rfl) (by omega)
  change RC w (Enc.enc v2) ((cs.drop 6).take (Try.prog.cellsOf 3)) at r2
  rw [Zv] at r2
  obtain ⟨v3,r3,m3⟩:=(Gj Try.underlying72 (by kernel_rfl) hk:Jg enc Try.prog w N _ _ _) n _ _ (hf 3 _ rfl) (by omega)
  change RC w (Enc.enc v3) ((cs.drop 7).take (Try.prog.cellsOf 72)) at r3
  rw [cells_72] at r3
  have hcs:cs.take 8=cs:=List.take_of_length_le (by rw [hl];exact Nat.le_of_eq cells_74)
  have hR:=((((((((RC.nil).snoc (k:=1) r0 rfl)).snoc (k:=5) r1 rfl)).snoc (k:=1) r2 rfl)).snoc (k:=1) r3 rfl)
  refine ⟨Tr.mk v0 v1 v2 v3,by rw [← hcs];exact hR,Nat.le_trans ?_ hb'⟩
  rw [Tr.size_eq]
  simp only [Tr.body,Tr.branches]
  dsimp only at m0 m1 m2 m3 ⊢
  omega
theorem z_br (hk:Jg enc Try.prog w N 74 Tr Tr.size):Jg enc Try.prog w (N+1) 101 Br bsz:=by
 intro fuel cs x h hb
 obtain ⟨xs,n,_,rfl,hl,hlen,hf⟩:=DataW.trod_struct Try.underlying101 h
 match xs,hlen with
 | [y0,y1,y2],_ =>
  have hb':Rows.uptoBulk y0.1+Rows.uptoBulk y1.1+Rows.uptoBulk y2.1+1≤Rows.uptoBulk (DataW.agg (H:=H) [y0.1,y1.1,y2.1]):=by simp only [Rows.uptoBulk,Rows.uptoBulkAll];omega
  have hb2:Rows.uptoBulk (DataW.agg (H:=H) [y0.1,y1.1,y2.1])≤N+1:=hb
  obtain ⟨v0,r0,m0⟩:=(Df Try.underlying9:Jg enc Try.prog w N _ _ _) n _ _ (hf 0 _ rfl) (by omega)
  change RC w (Enc.enc v0) ((cs.drop 0).take (Try.prog.cellsOf 9)) at r0
  rw [WW] at r0
  obtain ⟨v1,r1,m1⟩:=(z_bool Try.underlying4:Jg enc Try.prog w N _ _ _) n _ _ (hf 1 _ rfl) (by omega)
  change RC w (Enc.enc v1) ((cs.drop 1).take (Try.prog.cellsOf 4)) at r1
  rw [cells_4] at r1
  obtain ⟨v2,r2,m2⟩:=hk n _ _ (hf 2 _ rfl) (by omega)
  change RC w (Enc.enc v2) ((cs.drop 2).take (Try.prog.cellsOf 74)) at r2
  rw [cells_74] at r2
  have hcs:cs.take 10=cs:=List.take_of_length_le (by rw [hl];exact Nat.le_of_eq cells_101)
  have hR:=((((((RC.nil).snoc (k:=1) r0 rfl)).snoc (k:=1) r1 rfl)).snoc (k:=8) r2 rfl)
  refine ⟨⟨v0,v1,v2⟩,by rw [← hcs];exact hR,Nat.le_trans ?_ hb'⟩
  show bsz ⟨v0,v1,v2⟩≤_
  unfold bsz
  dsimp only at m0 m1 m2 ⊢
  omega
theorem z_trbr:∀ N,Jg enc Try.prog w N 74 Tr Tr.size∧Jg enc Try.prog w N 101 Br bsz
 | 0=>⟨fun fuel cs x _ hb=>by have:=GY x.1;omega,fun fuel cs x _ hb=>by have:=GY x.1;omega⟩
 | N+1=>⟨z_tr (z_trbr N).2,z_br (z_trbr N).1⟩
theorem z_fn:Jg enc Try.prog w (N+1) 76 Fn fsz:=by
 intro fuel cs x h hb
 obtain ⟨xs,n,_,rfl,hl,hlen,hf⟩:=DataW.trod_struct Try.underlying76 h
 match xs,hlen with
 | [y0,y1,y2,y3],_ =>
  have hb':Rows.uptoBulk y0.1+Rows.uptoBulk y1.1+Rows.uptoBulk y2.1+Rows.uptoBulk y3.1+1≤Rows.uptoBulk (DataW.agg (H:=H) [y0.1,y1.1,y2.1,y3.1]):=by simp only [Rows.uptoBulk,Rows.uptoBulkAll];omega
  have hb2:Rows.uptoBulk (DataW.agg (H:=H) [y0.1,y1.1,y2.1,y3.1])≤N+1:=hb
  obtain ⟨v0,r0,m0⟩:=(Df Try.underlying9:Jg enc Try.prog w N _ _ _) n _ _ (hf 0 _ rfl) (by omega)
  change RC w (Enc.enc v0) ((cs.drop 0).take (Try.prog.cellsOf 9)) at r0
  rw [WW] at r0
  obtain ⟨v1,r1,m1⟩:=(Ut:Jg enc Try.prog w N _ _ _) n _ _ (hf 1 _ rfl) (by omega)
  change RC w (Enc.enc v1) ((cs.drop 1).take (Try.prog.cellsOf 33)) at r1
  rw [Gf] at r1
  obtain ⟨v2,r2,m2⟩:=(Xl Try.underlying3:Jg enc Try.prog w N _ _ _) n _ _ (hf 2 _ rfl) (by omega)
  change RC w (Enc.enc v2) ((cs.drop 6).take (Try.prog.cellsOf 3)) at r2
  rw [Zv] at r2
  obtain ⟨v3,r3,m3⟩:=(z_trbr N).1 n _ _ (hf 3 _ rfl) (by omega)
  change RC w (Enc.enc v3) ((cs.drop 7).take (Try.prog.cellsOf 74)) at r3
  rw [cells_74] at r3
  have hcs:cs.take 15=cs:=List.take_of_length_le (by rw [hl];exact Nat.le_of_eq cells_76)
  have hR:=((((((((RC.nil).snoc (k:=1) r0 rfl)).snoc (k:=5) r1 rfl)).snoc (k:=1) r2 rfl)).snoc (k:=8) r3 rfl)
  refine ⟨⟨v0,v1,v2,v3⟩,by rw [← hcs];exact hR,Nat.le_trans ?_ hb'⟩
  show fsz ⟨v0,v1,v2,v3⟩≤_
  unfold fsz
  dsimp only at m0 m1 m2 m3 ⊢
  omega
theorem z_fn':Jg enc Try.prog w N 76 Fn fsz:=Uj (fun _ _=>z_fn) N
end
end Go.Proofs.Ytafddfoefeploaa
namespace Go.Proofs.Ytafddfoefeploaa
open Go.ChangeShapes Go.WideShapes Go.ChangeAt Go.RowKit Go.WideElems
theorem own:ownKnob Try.prog.godebug=none:=by kernel_rfl
theorem laidOut:laidOutB Try.prog=true:=by kernel_rfl
theorem slice_readsZ {H:Type} {enc:TypeId×Value→H} {α:Type} [Enc α] [EncLen α] {μ:List α→Nat} {W:World} {base:Nat} {t e:TypeId} {v:Value} {d:DataW H} {p:List MemPlace} (ht:Try.prog.underlying t=some (.slice e)) (ho:∀ N,Jg enc Try.prog W N t (List α) μ)
  (hval:Value.okWide Try.prog W .any base t v) (h:DataW.Trod enc Try.prog W 0 (fun _=>true) true t v d p):∃ l:List α,Reads (Ds W) W (.sl (Enc.sz α) (Enc.encL l)) v∧μ l≤Rows.uptoBulk d:=by
 obtain ⟨fuel,hf⟩:=h
 obtain ⟨l,hl,hμ⟩:=ho _ _ _ _ hf (Nat.le_refl _)
 refine ⟨l,?_,hμ⟩
 obtain ⟨u,h2,h3⟩:=hl.2 0 _ rfl
 have h4:v.cells=#[v]:=by
  have h5:=hl.1
  cases v with
  | agg cs =>
   exfalso
   obtain ⟨s,n,c,h7⟩:=okWide_slice ht hval
   cases h7
  | _=>rfl
 rw [h4] at h2
 cases h2
 exact h3
end Go.Proofs.Ytafddfoefeploaa
namespace Go.Proofs.Ytafddfoefeploaa
open Go.ChangeShapes Go.WideShapes Go.ChangeAt Go.RowKit Go.WideElems
def IntR:Type:={n:Int // Us n}
def RcrR:Type:={r:Rcr // Us r.params}
def DclR:Type:={d:Dcl // Us d.rcr.params}
noncomputable def intRC (n:IntR):List C:=[.v (.int .i64 n.1)]
noncomputable def rcrRC (r:RcrR):List C:=rcrC r.1
noncomputable def dclRC (d:DclR):List C:=DP d.1
noncomputable instance:Enc IntR:=⟨1,intRC,fun l=>l.map intRC,rfl,fun a b=>List.map_append,fun _=>rfl⟩
noncomputable instance:Enc RcrR:=⟨7,rcrRC,fun l=>l.map rcrRC,rfl,fun a b=>List.map_append,fun _=>rfl⟩
noncomputable instance:Enc DclR:=⟨23,dclRC,fun l=>l.map dclRC,rfl,fun a b=>List.map_append,fun _=>rfl⟩
instance:EncLen DclR:=⟨fun t=>rfl,Nat.succ_pos 22⟩
section
variable {H:Type} {enc:TypeId×Value→H} {w:World} {N:Nat}
theorem z_intR {P:Program} {t:TypeId} (ht:P.underlying t=some (.int .i64)):Jg enc P w N t IntR (fun _=>1):=by
 intro fuel cs x h hb
 obtain ⟨n,rfl,rfl,hw⟩:=DataW.trod_int ht h
 have h1:Us n:=by
  unfold Lit.wf at hw
  rw [Bool.and_eq_true,decide_eq_true_eq,decide_eq_true_eq] at hw
  exact hw
 refine ⟨⟨n,h1⟩,⟨J,fun j c hj=>?_⟩,GY _⟩
 cases j with
 | zero=>cases hj;exact ⟨_,rfl,Reads.v _ rfl⟩
 | succ j=>cases hj
theorem z_rcrR:Jg enc Try.prog w (N+1) 42 RcrR (fun r=>r.1.ty.size+(r.1.rules.map Tm.size).sum):=by
 intro fuel cs x h hb
 obtain ⟨xs,n,_,rfl,hl,hlen,hf⟩:=DataW.trod_struct Try.underlying42 h
 match xs,hlen with
 | [y0,y1,y2],_ =>
  have hb':Rows.uptoBulk y0.1+Rows.uptoBulk y1.1+Rows.uptoBulk y2.1+1≤Rows.uptoBulk (DataW.agg (H:=H) [y0.1,y1.1,y2.1]):=by simp only [Rows.uptoBulk,Rows.uptoBulkAll];omega
  have hb2:Rows.uptoBulk (DataW.agg (H:=H) [y0.1,y1.1,y2.1])≤N+1:=hb
  obtain ⟨v0,r0,m0⟩:=(z_intR Try.underlying3:Jg enc Try.prog w N _ _ _) n _ _ (hf 0 _ rfl) (by omega)
  change RC w (Enc.enc v0) ((cs.drop 0).take (Try.prog.cellsOf 3)) at r0
  rw [Zv] at r0
  obtain ⟨v1,r1,m1⟩:=(Ut:Jg enc Try.prog w N _ _ _) n _ _ (hf 1 _ rfl) (by omega)
  change RC w (Enc.enc v1) ((cs.drop 1).take (Try.prog.cellsOf 33)) at r1
  rw [Gf] at r1
  obtain ⟨v2,r2,m2⟩:=(Gj Try.underlying31 (by kernel_rfl) Ut:Jg enc Try.prog w N _ _ _) n _ _ (hf 2 _ rfl) (by omega)
  change RC w (Enc.enc v2) ((cs.drop 6).take (Try.prog.cellsOf 31)) at r2
  rw [cells_31] at r2
  have hcs:cs.take 7=cs:=List.take_of_length_le (by rw [hl];exact Nat.le_of_eq cells_42)
  have hR:=((((((RC.nil).snoc (k:=1) r0 rfl)).snoc (k:=5) r1 rfl)).snoc (k:=1) r2 rfl)
  refine ⟨⟨⟨v0.1,v1,v2⟩,v0.2⟩,by rw [← hcs];exact hR,Nat.le_trans ?_ hb'⟩
  dsimp only at m0 m1 m2 ⊢
  omega
theorem z_rcrR':Jg enc Try.prog w N 42 RcrR (fun r=>r.1.ty.size+(r.1.rules.map Tm.size).sum):=Uj (fun _ _=>z_rcrR) N
theorem z_dclR:Jg enc Try.prog w (N+1) 45 DclR (fun d=>d.1.size):=by
 intro fuel cs x h hb
 obtain ⟨xs,n,_,rfl,hl,hlen,hf⟩:=DataW.trod_struct Try.underlying45 h
 match xs,hlen with
 | [y0,y1,y2,y3,y4,y5,y6,y7,y8],_ =>
  have hb':Rows.uptoBulk y0.1+Rows.uptoBulk y1.1+Rows.uptoBulk y2.1+Rows.uptoBulk y3.1+Rows.uptoBulk y4.1+Rows.uptoBulk y5.1+Rows.uptoBulk y6.1+Rows.uptoBulk y7.1+Rows.uptoBulk y8.1+1≤Rows.uptoBulk (DataW.agg (H:=H) [y0.1,y1.1,y2.1,y3.1,y4.1,y5.1,y6.1,y7.1,y8.1]):=by simp only [Rows.uptoBulk,Rows.uptoBulkAll];omega
  have hb2:Rows.uptoBulk (DataW.agg (H:=H) [y0.1,y1.1,y2.1,y3.1,y4.1,y5.1,y6.1,y7.1,y8.1])≤N+1:=hb
  obtain ⟨v0,r0,m0⟩:=(Xl Try.underlying3:Jg enc Try.prog w N _ _ _) n _ _ (hf 0 _ rfl) (by omega)
  change RC w (Enc.enc v0) ((cs.drop 0).take (Try.prog.cellsOf 3)) at r0
  rw [Zv] at r0
  obtain ⟨v1,r1,m1⟩:=(Df Try.underlying9:Jg enc Try.prog w N _ _ _) n _ _ (hf 1 _ rfl) (by omega)
  change RC w (Enc.enc v1) ((cs.drop 1).take (Try.prog.cellsOf 9)) at r1
  rw [WW] at r1
  obtain ⟨v2,r2,m2⟩:=(Xl Try.underlying3:Jg enc Try.prog w N _ _ _) n _ _ (hf 2 _ rfl) (by omega)
  change RC w (Enc.enc v2) ((cs.drop 2).take (Try.prog.cellsOf 3)) at r2
  rw [Zv] at r2
  obtain ⟨v3,r3,m3⟩:=(Ut:Jg enc Try.prog w N _ _ _) n _ _ (hf 3 _ rfl) (by omega)
  change RC w (Enc.enc v3) ((cs.drop 3).take (Try.prog.cellsOf 33)) at r3
  rw [Gf] at r3
  obtain ⟨v4,r4,m4⟩:=(Ut:Jg enc Try.prog w N _ _ _) n _ _ (hf 4 _ rfl) (by omega)
  change RC w (Enc.enc v4) ((cs.drop 8).take (Try.prog.cellsOf 33)) at r4
  rw [Gf] at r4
  obtain ⟨v5,r5,m5⟩:=(Xl Try.underlying3:Jg enc Try.prog w N _ _ _) n _ _ (hf 5 _ rfl) (by omega)
  change RC w (Enc.enc v5) ((cs.drop 13).take (Try.prog.cellsOf 3)) at r5
  rw [Zv] at r5
  obtain ⟨v6,r6,m6⟩:=(Gj Try.underlying40 (by kernel_rfl) z_ctr':Jg enc Try.prog w N _ _ _) n _ _ (hf 6 _ rfl) (by omega)
  change RC w (Enc.enc v6) ((cs.drop 14).take (Try.prog.cellsOf 40)) at r6
  rw [cells_40] at r6
  obtain ⟨v7,r7,m7⟩:=(z_rcrR':Jg enc Try.prog w N _ _ _) n _ _ (hf 7 _ rfl) (by omega)
  change RC w (Enc.enc v7) ((cs.drop 15).take (Try.prog.cellsOf 42)) at r7
  rw [cells_42] at r7
  obtain ⟨v8,r8,m8⟩:=(Gj Try.underlying43 (by kernel_rfl) z_fn':Jg enc Try.prog w N _ _ _) n _ _ (hf 8 _ rfl) (by omega)
  change RC w (Enc.enc v8) ((cs.drop 22).take (Try.prog.cellsOf 43)) at r8
  rw [cells_43] at r8
  have hcs:cs.take 23=cs:=List.take_of_length_le (by rw [hl];exact Nat.le_of_eq cells_45)
  have hR:=((((((((((((((((((RC.nil).snoc (k:=1) r0 rfl)).snoc (k:=1) r1 rfl)).snoc (k:=1) r2 rfl)).snoc (k:=5) r3 rfl)).snoc (k:=5) r4 rfl)).snoc (k:=1) r5 rfl)).snoc (k:=1) r6 rfl)).snoc (k:=7) r7 rfl)).snoc (k:=1) r8 rfl)
  refine ⟨⟨⟨v0,v1,v2,v3,v4,v5,v6,v7.1,v8⟩,v7.2⟩,by rw [← hcs];exact hR,Nat.le_trans ?_ hb'⟩
  show Dcl.size ⟨v0,v1,v2,v3,v4,v5,v6,v7.1,v8⟩≤_
  unfold Dcl.size
  dsimp only at m0 m1 m2 m3 m4 m5 m6 m7 m8 ⊢
  omega
theorem z_dclR':Jg enc Try.prog w N 45 DclR (fun d=>d.1.size):=Uj (fun _ _=>z_dclR) N
theorem z_envR:Jg enc Try.prog w N 22 (List DclR) (fun l=>1+(l.map fun d=>d.1.size).sum):=Gj Try.underlying22 (by kernel_rfl) z_dclR'
end
theorem env_readsR {H:Type} {enc:TypeId×Value→H} {W:World} {base:Nat} {v:Value} {d:DataW H} {p:List MemPlace}
  (hval:Value.okWide Try.prog W .any base 22 v) (h:DataW.Trod enc Try.prog W 0 (fun _=>true) true 22 v d p):∃ l:List Dcl,Reads (Ds W) W (.sl 23 (Enc.encL l)) v∧1+Yn l≤Rows.uptoBulk d∧∀ x∈l,Us x.rcr.params:=by
 obtain ⟨l,h1,h2⟩:=slice_readsZ Try.underlying22 (fun N=>z_envR) hval h
 refine ⟨l.map (·.1),?_,?_,fun x hx=>?_⟩
 ·have:Enc.encL (l.map (·.1))=Enc.encL l:=by
   show (l.map (·.1)).map DP=l.map dclRC
   rw [List.map_map];rfl
  rw [this];exact h1
 ·unfold Yn
  rw [List.map_map];exact h2
 ·obtain ⟨y,-,rfl⟩:=List.mem_map.1 hx
  exact y.2
end Go.Proofs.Ytafddfoefeploaa
namespace Go.Proofs.Ytafddfoefeploaa
open Go.ChangeShapes Go.WideShapes Go.ChangeAt Go.RowKit Go.WideElems
theorem law8 {W:World} (a0:List Dcl) (hs:Yn a0≤100000000) (hr:∀ d∈a0,Us d.rcr.params) {v0:Value} (hv0:Reads (Ds W) W (.sl 23 (Enc.encL a0)) v0):Calls Try.prog 8 #[v0] W fun e W'=>e=.returned (.bool true)∧Below W.heap.size W W':=by
 have hF:=m8_ok a0 true (m8_true a0 hs hr)
 refine Calls.mono (hF.2 (Ds W) W #[v0] (fun b o h=>h) ⟨J,fun i y hy=>?_⟩) ?_
 ·match i,hy with
  | 0,hy=>cases hy;exact ⟨_,rfl,hv0⟩
 ·rintro e W' ⟨u,S',rfl,hx,-,-,hu⟩
  have e1:u=.bool true:=by cases hu;rfl
  rw [e1]
  exact ⟨J,hx.os,hx.tape,hx.output,hx.size,fun k hk=>hx.block k hk (fun h=>h)⟩
theorem contract (H:Type) (enc:TypeId×Value→H) (W:World) (base:Nat) (args:Array Value) (ds gs:List (DataW H)) (before:List MemPlace) (hk:Rows.uptoSmall H (ds++gs)=true)
  (hval0:∀ (j:Nat) t v,Try.f8.params[j]?=some t→args[j]?=some v→Value.okWide Try.prog W .any base t v)
  (hW:DataW.Whole enc Try.prog Try.f8.params.toList Rows.signatureCoversSpec.vars false W args.toList ds gs before) :
  Calls Try.prog 8 args W fun e W'=>∃ v,e=.returned v∧Rows.signatureCoversSpec.post enc Try.prog Try.f8 false true false false W args v W':=by
 have hval:∀ (j:Nat) t v,Try.f8.params[j]?=some t→args[j]?=some v→Value.okWide Try.prog W .any base t v:=hval0
 have hW':=hW
 obtain ⟨p,q,hA0,hV,rfl,hfz,hnd⟩:=hW
 have hA:DataW.TrodAll enc Try.prog W 0 (fun _=>true) true Try.f8.params.toList args.toList ds p:=hA0
 rw [Try.params8] at hA hval
 obtain ⟨v0,d0,rfl,rfl,h0⟩:=trodAll_one hA
 obtain ⟨rfl,rfl⟩:=trodVars_none hV
 have h0k:=h0
 obtain ⟨a0,hv0,hz,hr⟩:=env_readsR (hval 0 22 v0 rfl rfl) h0
 have hbk:Rows.uptoBulkAll ([d0]++([]:List (DataW H)))≤1048576:=of_decide_eq_true hk
 simp only [List.append_nil,Rows.uptoBulkAll] at hbk
 clear hA0 hval0
 simp only [List.append_nil] at hW'
 have hlt:∀ x∈p,x.block < W.heap.size:=fun x hx=>by simpa using hW'.lt x hx
 refine (law8 a0 (by omega) hr hv0).mono fun e W' ⟨he,hb⟩=>?_
 subst he
 have hargs:∀ sp:Nat→Bool,(∀ x∈p,sp x.block=true)→DataW.TrodAll enc Try.prog W' 0 sp true [22] [v0] [d0] p:=fun sp hsp =>
  trodAll_mk1 (WideElems.Trod_stays laidOut (by kernel_rfl) (of_decide_eq_true (by kernel_rfl)) h0k (fun x hx=>hb.same (hlt x hx)) (fun x hx=>hsp x hx))
 exact ⟨_,rfl,_,_,_,[],p,[],hW',trodAll_mk1 (shut_bool Try.underlying4 true),hargs _ (fun x hx=>by simpa using hlt x hx),rfl,hb.frame _,fun h=>by cases h⟩
theorem lifted (os:Os) (started:os.Started) (H:Type) (enc:TypeId×Value→H) (F:Stop.Interp) :
  ReturnsInHanded {} Try.checked os 8 .any ((Rows.OpenSpec.upto Rows.signatureCoversSpec).pre6 enc Try.prog Try.f8 Rows.signatureCoversUptoRow.domain false) (((Rows.OpenSpec.upto Rows.signatureCoversSpec).at F).post enc Try.prog Try.f8 false true false false):=by
 refine returnsInHanded_of_cond (C:=Try.checked) (s:=Rows.OpenSpec.upto Rows.signatureCoversSpec) (k:=Rows.uptoSmall) rfl own started (by kernel_rfl) Try.func8
  (OpenSpec.witness (enc:=enc) (C:=Try.checked) (s:=Rows.OpenSpec.upto Rows.signatureCoversSpec) (k:=Rows.uptoSmall) rfl false ⟨#[],#[.slice none 0 0],[]⟩ 8 (by kernel_rfl) (by kernel_rfl) (by kernel_rfl)
   (x:=([.nil],[],[])) (by kernel_rfl) rfl (by kernel_rfl)) ?_
 intro W base args ds gs before hval hW _ hk _
 exact contract H enc W base args ds gs before hk hval hW
theorem over:Rows.signatureCoversUptoRow.holds Try.pinned (Rows.OpenSpec.upto Rows.signatureCoversSpec) :=
 OpenClaim.holds_of_cond 8 Try.f8 rfl rfl rfl rfl rfl rfl rfl ⟨rfl,rfl,rfl,rfl,rfl⟩ rfl rfl rfl rfl rfl (by kernel_rfl) Try.func8 (by kernel_rfl)
  (of_decide_eq_true (by kernel_rfl)) (by unfold Func.isWrapper;first | (rw [if_pos (by decide +kernel)];kernel_rfl) | (rw [if_neg (by decide +kernel)];exact ⟨rfl,rfl⟩))
  (fun os started H enc _ F=>lifted os started H enc F)
theorem signatureCoversUpto:Rows.SignatureCoversUptoSaid:=over
#print axioms signatureCoversUpto
end Go.Proofs.Ytafddfoefeploaa
