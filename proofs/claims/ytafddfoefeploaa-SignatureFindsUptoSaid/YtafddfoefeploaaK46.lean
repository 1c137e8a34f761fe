/- The statement SignatureFindsUpto is proved here: for every list of declarations and every name the law returns true, and what it is given reads behind the call ars it did before; condition: the arguments are of bulk at most 1048576 (the second form). -/
import Derived.Test.YtafddfoefeploaaK45
import Derived.Deep.Slices
import Derived.ChangeSame
import Derived.Test.YtafddfoefeploaaRows
import Derived.Test.YtafddfoefeploaaProg
import Derived.Test.YtafddfoefeploaaChecked
import Derived.ProofKit
import Derived.Carry
import Derived.JoinedCond
set_option maxRecDepth 100000
set_option maxHeartbeats 2000000
set_option linter.unusedSimpArgs false
set_option linter.unusedVariables false
set_option linter.unusedSectionVars false
namespace Go.Proofs.Ytafddfoefeploaa
open Go.RowKit Go.Shelf
theorem m64_eq:m64=m101:=rfl
theorem listTwo {α:Type} {l:List α} (h:(l.length:Int)=2):∃ x y,l=[x,y]:=by
 match l,h with
 | [x,y],_=>exact ⟨x,y,rfl⟩
 | [],h=>simp at h
 | [x],h=>simp at h
 | x::y::z::l,h=>simp at h;omega
theorem pis_walk:∀ (n:Nat) (t:Tm) (acc:List Tm),t.size≤n→acc.length+t.size≤900000000→∃ (c:Nat) (r1:(List Tm)×Int×Int×Bs×(List Lvl)×(List Tm)) (r2:Int×Int×Int×Bs×(List Lvl)×(List Tm)),
  QE Kg n (acc,t.kind,t.index,t.name,t.levels,t.kids)=some r1∧QE GB n ((acc.length:Int),t.kind,t.index,t.name,t.levels,t.kids)=some r2∧r1.1.length=c∧r2.1=(c:Int)∧c≤900000000
 | 0,t,_,h,_=>by rw [t.size_eq] at h;omega
 | n+1,t,acc,h,hb=>by
  have stop:(cond (t.kind==6) (some ((t.kids.length:Int)==2)) (some false))=some false→∃ (c:Nat) (r1:(List Tm)×Int×Int×Bs×(List Lvl)×(List Tm)) (r2:Int×Int×Int×Bs×(List Lvl)×(List Tm)),
    QE Kg (n+1) (acc,t.kind,t.index,t.name,t.levels,t.kids)=some r1∧QE GB (n+1) ((acc.length:Int),t.kind,t.index,t.name,t.levels,t.kids)=some r2∧r1.1.length=c∧r2.1=(c:Int)∧c≤900000000:=by
   intro hs
   have e1:Kg (acc,t.kind,t.index,t.name,t.levels,t.kids)=some (.done (acc,t.kind,t.index,t.name,t.levels,t.kids)):=by unfold Kg;dsimp only;rw [hs];rfl
   have e2:GB ((acc.length:Int),t.kind,t.index,t.name,t.levels,t.kids)=some (.done ((acc.length:Int),t.kind,t.index,t.name,t.levels,t.kids)):=by unfold GB;dsimp only;rw [hs];rfl
   exact ⟨acc.length,(acc,t.kind,t.index,t.name,t.levels,t.kids),((acc.length:Int),t.kind,t.index,t.name,t.levels,t.kids),by simp only [QE,e1],by simp only [QE,e2],rfl,rfl,by omega⟩
  by_cases hk:t.kind=6
  ·by_cases hl:(t.kids.length:Int)=2
   ·obtain ⟨x,y,hxy⟩:=listTwo hl
    have hy:=YR (t:=t) (k:=y) (by rw [hxy];simp)
    obtain ⟨c,r1,r2,h1,h2,h3,h4,h5⟩:=pis_walk n y (acc++[x]) (by omega) (by rw [List.length_append,List.length_singleton];omega)
    have e1:Kg (acc,t.kind,t.index,t.name,t.levels,t.kids)=some (.next (acc++[x],y.kind,y.index,y.name,y.levels,y.kids)):=by
     unfold Kg;dsimp only;rw [hk,hxy]
     show Jy (Nat.ble (acc.length+1) 1000000000) _=_
     rw [Yo (by omega)];rfl
    have e2:GB ((acc.length:Int),t.kind,t.index,t.name,t.levels,t.kids)=some (.next (((acc++[x]).length:Int),y.kind,y.index,y.name,y.levels,y.kids)):=by
     unfold GB;dsimp only;rw [hk,hxy]
     show some (LO.next (Ja ((acc.length:Int)+1),y.kind,y.index,y.name,y.levels,y.kids))=_
     rw [Uc (by omega),List.length_append];rfl
    exact ⟨c,r1,r2,by simp only [QE,e1];exact h1,by simp only [QE,e2];exact h2,h3,h4,h5⟩
   ·exact stop (by rw [YC,YC,decide_eq_false hl];cases decide (t.kind=6) <;> rfl)
  ·exact stop (by rw [YC,decide_eq_false hk];rfl)
def Wb (t:Tm):Int:=(DJ t).getD 0
theorem pis_eq (t:Tm) (h:t.size≤900000000):DJ t=some (Wb t)∧∃ r,m101 t=some r∧(r.1.length:Int)=Wb t:=by
 obtain ⟨c,r1,r2,h1,h2,h3,h4,-⟩:=pis_walk QU t [] (by unfold QU;omega) (by simp;omega)
 have e1:DJ t=some (c:Int):=by
  have h2':QE GB QU (0,t.kind,t.index,t.name,t.levels,t.kids)=some r2:=h2
  unfold DJ
  rw [h2',← h4];rfl
 have e2:Wb t=(c:Int):=by unfold Wb;rw [e1];rfl
 refine ⟨by rw [e1,e2],(r1.1,Tm.mk r1.2.1 r1.2.2.1 r1.2.2.2.1 r1.2.2.2.2.1 r1.2.2.2.2.2),?_,by rw [e2,← h3]⟩
 have h1':QE Kg QU (([]:List Tm),t.kind,t.index,t.name,t.levels,t.kids)=some r1:=h1
 unfold m101
 rw [h1'];rfl
theorem KZ {d:Dcl} {c:Ctr} (h:c∈d.ctors):c.ty.size+c.name.length < d.size:=by
 have h1:=Z9 csz h
 have h2:csz c=1+c.name.length+c.ty.size:=rfl
 unfold Dcl.size
 omega
theorem m88_eq (d:Dcl) (i:Int) (c:Ctr) (hi:JP d.ctors i=some c) (h:d.size≤900000000):∃ r,m88 d i=some r∧m68 d i=some r:=by
 have hc:c.ty.size≤900000000:=by
  have:c∈d.ctors:=by
   cases i with
   | ofNat k=>exact List.mem_of_getElem? hi
   | negSucc k=>cases hi
  have:=KZ this
  omega
 obtain ⟨-,r,h1,-⟩:=pis_eq c.ty hc
 unfold m88 m68
 rw [hi,m64_eq]
 simp only [Option.bind_some]
 rw [h1]
 exact ⟨_,Z,Z⟩
theorem firstN_some {α:Type} (nm:α→Bs) (n:Bs) {i:Nat} {x:α}:∀ (l:List α) (k:Nat),JT nm n l k=some (i,x)→k≤i∧l[i - k]?=some x
 | [],k,h=>by cases h
 | y::l,k,h=>by
  rw [JT] at h
  split at h
  ·cases h;exact ⟨Nat.le_refl _,by rw [Nat.sub_self];rfl⟩
  ·obtain ⟨h1,h2⟩:=firstN_some nm n l (k+1) h
   refine ⟨by omega,?_⟩
   rw [show i - k=(i - (k+1))+1 from by omega];exact h2
theorem look_ctor {d:Dcl} {k:Int} {n:Bs} {e:Ent} (h:Ys d k n=some e) (h4:e.kind=4):∃ c,JP d.ctors e.item=some c:=by
 unfold Ys at h
 split at h
 ·next hk =>
  split at h
  ·cases h;exfalso;have h4':d.kind=4:=h4;omega
  ·cases h
 ·split at h
  ·split at h
   ·cases h;exfalso;have h4':(3:Int)=4:=h4;omega
   ·split at h
    ·next i c hf =>
     cases h
     obtain ⟨-,h2⟩:=firstN_some _ _ _ _ hf
     exact ⟨c,h2⟩
    ·split at h
     ·cases h;exfalso;have h4':(5:Int)=4:=h4;omega
     ·cases h
  ·split at h
   ·split at h
    ·cases h;exfalso;have h4':(6:Int)=4:=h4;omega
    ·cases h
   ·cases h
def Sm2 (e:Int) (p:Option (Unit⊕Int)):Prop:=(e=0→p=some (.inl ()))∧(e ≠ 0→p=some (.inr e))
theorem Sm2.ok {p:Option (Unit⊕Int)} (h:p=some (.inl ())):Sm2 0 p:=⟨fun _=>h,fun h=>(h rfl).elim⟩
theorem Sm2.no {p:Option (Unit⊕Int)} {e:Int} (he:e ≠ 0) (h:p=some (.inr e)):Sm2 e p:=⟨fun h=>(he h).elim,fun _=>h⟩
theorem bodysz (t:Tr):t.body.size < t.size:=by rw [t.size_eq];omega
theorem tree_eq (s:Rsc) (M O:Qo Bs Ent) (hs:Sok s M O):∀ (n:Nat) (t:Tr) (V D:Int),t.size≤n→t.size≤900000000 →
  ∃ e:Int,JR Ds n (s,t,V,D)=some e∧Sm2 e (JR Xa n (t,V,D,s.d.params,s.env,M,O))
 | 0,t,_,_,h,_=>by rw [t.size_eq] at h;omega
 | n+1,t,V,D,h,hb=>by
  show ∃ e:Int,Dr (JR Ds n) s t V D=some e∧Sm2 e (WE (JR Xa n) t V D s.d.params s.env M O)
  have hbody:=bodysz t
  have hbl:=branches_len t
  unfold Dr WE
  rw [Xt]
  by_cases hD:200≤D
  ·rw [decide_eq_true hD,decide_eq_false (show ¬ D < 200 by omega)]
   exact ⟨7,rfl,.no (by omega) rfl⟩
  rw [decide_eq_false hD,decide_eq_true (show D < 200 by omega)]
  simp only [cond_true,cond_false,Option.bind_some,Sum.elim_inl]
  rw [YC]
  by_cases k0:t.kind=0
  ·rw [decide_eq_true k0,cond_true,cond_true]
   show ∃ e:Int,Option.bind (cond (!(t.var==0)) (some true) (some (decide (0 < (t.branches.length:Int))))) _=_∧_
   cases (t.var==0) with
   | false=>exact ⟨3,rfl,.no (by omega) rfl⟩
   | true =>
    rw [YC]
    by_cases c:(t.branches.length:Int)=0
    ·rw [decide_eq_true c,decide_eq_false (show ¬ 0 < (t.branches.length:Int) by omega)]
     obtain ⟨e,h1,h2,h3⟩:=Wi s M O hs t.body V s.d.params (by omega)
     rw [h1]
     refine ⟨e,Z,fun he=>?_,fun he=>?_⟩
     ·rw [h2 he];rfl
     ·rw [h3 he];rfl
    ·rw [decide_eq_false c,decide_eq_true (show 0 < (t.branches.length:Int) by omega)]
     exact ⟨3,rfl,.no (by omega) rfl⟩
  rw [decide_eq_false k0,cond_false,cond_false,YC]
  by_cases k1:t.kind=1
  ·rw [decide_eq_true k1,cond_true,cond_true,Uk,Ui]
   cases U0 t.body with
   | false=>exact ⟨3,rfl,.no (by omega) rfl⟩
   | true =>
    show ∃ e:Int,Option.bind (cond (decide (t.var < 0)) (some true) (some (decide (V≤t.var)))) _=some e∧Sm2 e (GO t V M s.env (JR Xa n) D s.d.params O)
    unfold GO
    by_cases c1:t.var < 0
    ·rw [decide_eq_true c1,decide_eq_false (show ¬ 0≤t.var by omega)]
     exact ⟨24,rfl,.no (by omega) rfl⟩
    rw [decide_eq_false c1,decide_eq_true (show 0≤t.var by omega)]
    by_cases c2:V≤t.var
    ·rw [decide_eq_true c2,decide_eq_false (show ¬ t.var < V by omega)]
     exact ⟨24,rfl,.no (by omega) rfl⟩
    rw [decide_eq_false c2,decide_eq_true (show t.var < V by omega)]
    show ∃ e:Int,cond (decide (32 < (t.branches.length:Int))) _ _=some e∧Sm2 e (GP t M s.env (JR Xa n) V D s.d.params O)
    unfold GP
    rw [Xt]
    by_cases c3:32 < (t.branches.length:Int)
    ·rw [decide_eq_true c3,decide_eq_false (show ¬ (t.branches.length:Int)≤32 by omega)]
     exact ⟨6,rfl,.no (by omega) rfl⟩
    rw [decide_eq_false c3,decide_eq_true (show (t.branches.length:Int)≤32 by omega)]
    obtain ⟨e,h1,h2⟩:=YS (β1:=Unit⊕Int) (β2:=Unit⊕(Unit⊕Int)) (step1:=We t s (JR Ds n) V D) (step2:=KS t M s.env (JR Xa n) V D s.d.params O) t.branches (.inl ()) (.inl ()) .inr (fun e=>.inr (.inr e)) (by omega) (fun a b c e=>by
     obtain ⟨q1,q2⟩:=Z4 e
     have hbt:=Tr.kid_size (t:=t) (b:=b) (by rw [e];simp)
     unfold We KS
     rw [q1,q2]
     simp only [cond_true,Option.bind_some]
     rw [Us s.env b.ctor hs.env]
     have hM:=hs.bk b.ctor
     unfold W5
     cases hf:KC s.env b.ctor with
     | none =>
      rw [hf] at hM
      have g1:YL M b.ctor=false:=by unfold YL;rw [hM];rfl
      rw [g1]
      exact ⟨9,fun h=>by omega,fun _=>⟨rfl,rfl⟩⟩
     | some en =>
      rw [hf] at hM
      have g1:YL M b.ctor=true:=by unfold YL;rw [hM];rfl
      have g2:Qy M b.ctor=en:=by unfold Qy;rw [hM];rfl
      obtain ⟨i,d,hi,hd⟩:=fsI_some _ _ _ hf
      rw [Nat.zero_add] at hd
      unfold m48f11_k0 m73_k0
      rw [g1,g2,Xt]
      by_cases c4:en.kind=4
      ·have hdec:JP s.env en.decl=some d:=by rw [look_decl hd];exact idx_at hi
       obtain ⟨ct,hct⟩:=look_ctor hd c4
       obtain ⟨r,hr1,hr2⟩:=m88_eq d en.item ct hct (by have:=XU (List.mem_of_getElem? hi);have:=hs.env;omega)
       have e1:(en.kind != 4)=false:=by rw [c4];rfl
       have e2:(en.kind==4)=true:=by rw [c4];rfl
       have e0:((0:Int) != 0)=false:=rfl
       simp only [Option.elim_some,Option.bind_some,e0,e1,e2,cond_true,cond_false,Sum.elim_inl]
       cases b.absurd with
       | true =>
        simp only [cond_true]
        have e3:DS b.tree (Tr.mk 0 (Tm.mk 0 0 ([]:List UInt8) ([]:List Lvl) ([]:List Tm)) 0 ([]:List Br))=some (isZT b.tree):=m36_Z b.tree
        rw [e3,Uk]
        unfold isZT
        cases (b.tree.kind==0) with
        | false=>exact ⟨3,fun h=>by omega,fun _=>⟨rfl,rfl⟩⟩
        | true =>
         cases (b.tree.var==0) with
         | false=>exact ⟨3,fun h=>by omega,fun _=>⟨rfl,rfl⟩⟩
         | true =>
          cases ((b.tree.branches.length:Int)==0) with
          | false=>exact ⟨3,fun h=>by omega,fun _=>⟨by rw [Bool.and_false];rfl,rfl⟩⟩
          | true =>
           cases U0 b.tree.body with
           | false=>exact ⟨3,fun h=>by omega,fun _=>⟨rfl,rfl⟩⟩
           | true=>exact ⟨0,fun _=>⟨rfl,rfl⟩,fun h=>(h rfl).elim⟩
       | false =>
        simp only [cond_false]
        rw [hdec]
        simp only [Option.bind_some]
        rw [hr1,hr2]
        simp only [Option.bind_some]
        obtain ⟨e',w1,w2,w3⟩:=tree_eq s M O hs n b.tree (Ja (V+r)) (Ja (D+1)) (by omega) (by omega)
        rw [w1]
        refine ⟨e',fun he=>?_,fun he=>?_⟩
        ·rw [w2 he];subst he;exact ⟨rfl,rfl⟩
        ·rw [w3 he];exact ⟨XR he _ _,rfl⟩
      ·have e1:(en.kind != 4)=true:=bne_iff_ne.2 c4
       have e2:(en.kind==4)=false:=by rw [YC];exact decide_eq_false c4
       have e0:((0:Int) != 0)=false:=rfl
       simp only [Option.elim_some,Option.bind_some,e0,e1,e2,cond_true,cond_false,Sum.elim_inl]
       exact ⟨9,fun h=>by omega,fun _=>⟨rfl,rfl⟩⟩)
     (by unfold We;rw [Ji];rfl) (by unfold KS;rw [Ji];rfl)
    by_cases he:e=0
    ·obtain ⟨e1,e2⟩:=h1 he
     rw [e1]
     refine ⟨0,Z,.ok ?_⟩
     show Option.bind (QE _ QU 0) _=_
     rw [e2];rfl
    ·obtain ⟨e1,e2⟩:=h2 he
     rw [e1]
     refine ⟨e,Z,.no he ?_⟩
     show Option.bind (QE _ QU 0) _=_
     rw [e2];rfl
  ·rw [decide_eq_false k1]
   exact ⟨3,rfl,.no (by omega) rfl⟩
end Go.Proofs.Ytafddfoefeploaa
namespace Go.Proofs.Ytafddfoefeploaa
open Go.RowKit Go.Shelf
def U4 (d:Dcl):Bool :=
 (d.kind==1||d.kind==2||U0 d.value)&&(d.kind==4||(d.funs.length:Int)==0)&&(!(d.kind==4)||(d.name==[]&&U0 d.ty)) &&
 (d.kind==3||(d.fixed==0&&(d.ctors.length:Int)==0&&(d.rcr.params==0&&U0 d.rcr.ty&&(d.rcr.rules.length:Int)==0)))
theorem m44_used (d:Dcl) (h0:0≤d.kind) (h4:d.kind≤4):U7 d=cond (U4 d) (Zv d) (some (.inr 3)):=by
 have hk:d.kind=0∨d.kind=1∨d.kind=2∨d.kind=3∨d.kind=4:=by omega
 have e0:U7 d=GR (d.kind==1||d.kind==2) d:=by
  unfold U7
  rw [decide_eq_true h0,decide_eq_true h4]
  show Option.bind (cond (d.kind==1) (some true) (some (d.kind==2))) _=_
  cases (d.kind==1) <;> rfl
 rw [e0]
 have e6:∀ b:Bool,G8 d b=cond (d.kind==3||(d.fixed==0&&(d.ctors.length:Int)==0&&b)) (Zv d) (some (.inr 3)):=by
  intro b
  unfold G8
  cases (d.kind==3) <;> cases (d.fixed==0) <;> cases ((d.ctors.length:Int)==0) <;> cases b <;> rfl
 have e7:Xy d=cond ((!(d.kind==4)||(d.name==[]&&U0 d.ty))&&(d.kind==3||(d.fixed==0&&(d.ctors.length:Int)==0&&(d.rcr.params==0&&U0 d.rcr.ty&&(d.rcr.rules.length:Int)==0)))) (Zv d) (some (.inr 3)):=by
  unfold Xy
  rw [Uk,Uk]
  have e8:∀ o:Unit⊕(Unit⊕Int),o=.inl ()→Sum.elim (fun (b7_:Unit)=>Option.bind (cond (d.rcr.params==0) (Option.bind (some (U0 d.rcr.ty)) fun (b0_:Bool)=>cond b0_ (some ((d.rcr.rules.length:Int)==0)) (some false)) (some false)) (fun (b8_:Bool)=>G8 d b8_)) (fun o=>some o) o=cond (d.kind==3||(d.fixed==0&&(d.ctors.length:Int)==0&&(d.rcr.params==0&&U0 d.rcr.ty&&(d.rcr.rules.length:Int)==0))) (Zv d) (some (.inr 3)):=by
   intro o ho
   subst ho
   rw [← e6]
   show Option.bind (cond (d.rcr.params==0) _ _) _=_
   cases (d.rcr.params==0) <;> cases U0 d.rcr.ty <;> rfl
  cases (d.kind==4) with
  | false=>exact e8 (.inl ()) rfl
  | true =>
   cases (d.name==[]) with
   | false=>rfl
   | true =>
    cases U0 d.ty with
    | false=>rfl
    | true=>exact e8 (.inl ()) rfl
 have e8:Xx d=cond ((d.kind==4||(d.funs.length:Int)==0)&&((!(d.kind==4)||(d.name==[]&&U0 d.ty))&&(d.kind==3||(d.fixed==0&&(d.ctors.length:Int)==0&&(d.rcr.params==0&&U0 d.rcr.ty&&(d.rcr.rules.length:Int)==0))))) (Zv d) (some (.inr 3)):=by
  unfold Xx
  cases h:(d.kind==4||(d.funs.length:Int)==0) with
  | true =>
   rw [Bool.true_and,← e7]
   revert h
   cases (d.kind==4) with
   | true=>intro _;rfl
   | false=>intro h;rw [Bool.false_or] at h;rw [h];rfl
  | false =>
   rw [Bool.or_eq_false_iff] at h
   rw [h.1,h.2];rfl
 unfold GR U4
 rw [Uk,Bool.and_assoc,Bool.and_assoc]
 cases (d.kind==1||d.kind==2) with
 | true=>rw [Bool.true_or,Bool.true_and,← e8];rfl
 | false =>
  rw [Bool.false_or]
  cases U0 d.value with
  | true=>rw [Bool.true_and,← e8];rfl
  | false=>rfl
theorem m50_eq (d:Dcl) (h0:0≤d.kind) (h4:d.kind≤4):m50 d=some (U4 d):=by
 have hk:d.kind=0∨d.kind=1∨d.kind=2∨d.kind=3∨d.kind=4:=by omega
 have e1:∀ K:Bool→Option Bool,Option.bind (cond (d.rcr.params==0) (Option.bind (some (U0 d.rcr.ty)) fun (x3:Bool)=>cond x3 (some ((d.rcr.rules.length:Int)==0)) (some false)) (some false)) K=K (d.rcr.params==0&&U0 d.rcr.ty&&(d.rcr.rules.length:Int)==0):=by
  intro K
  cases (d.rcr.params==0) <;> cases U0 d.rcr.ty <;> rfl
 have e2:∀ (b:Bool) (K:Bool→Option Bool),Option.bind (cond (d.fixed==0) (cond ((d.ctors.length:Int)==0) (some b) (some false)) (some false)) K=K (d.fixed==0&&(d.ctors.length:Int)==0&&b):=by
  intro b K
  cases (d.fixed==0) <;> cases ((d.ctors.length:Int)==0) <;> rfl
 unfold m50
 rw [Ui,e1,e2]
 unfold Un m50_k0 U4
 rw [Ui,Ui]
 rcases hk with hk | hk | hk | hk | hk
 all_goals
  rw [hk]
  generalize (d.fixed==0&&(d.ctors.length:Int)==0&&(d.rcr.params==0&&U0 d.rcr.ty&&(d.rcr.rules.length:Int)==0))=w
  generalize ((d.funs.length:Int)==0)=f
  cases U0 d.value <;> cases U0 d.ty <;> cases (d.name==[]) <;> cases w <;> cases f <;> rfl
theorem ty_size (d:Dcl):d.ty.size < d.size:=by unfold Dcl.size;omega
def pisP (d:Dcl):Prop:=d.fixed≤Wb d.ty∧∀ c∈d.ctors,d.fixed≤Wb c.ty
theorem m70_eq (d:Dcl) (h:d.size≤900000000):∃ b,m70 d=some b∧(b=true↔pisP d):=by
 have hc:=YM d
 have ht:=ty_size d
 obtain ⟨b,h1,h2⟩:=YG (step:=Xr d) d.ctors (fun i (s:Bool)=>(s,i)) (fun a s=>s=true↔(d.fixed≤Wb d.ty∧∀ c∈a,d.fixed≤Wb c.ty)) (fun r=>r=true↔pisP d) (by omega)
  (fun a x b s e hI=>by
   obtain ⟨q1,q2⟩:=Z4 e
   have hx:=KZ (d:=d) (c:=x) (by rw [e];simp)
   have hp:=(pis_eq x.ty (by omega)).1
   cases s with
   | false =>
    refine .inr ⟨false,?_,?_⟩
    ·unfold Xr;dsimp only;rw [q1];rfl
    ·refine ⟨fun h=>(by cases h),fun h=>?_⟩
     exact hI.2 ⟨h.1,fun c hc=>h.2 c (List.mem_append_left _ hc)⟩
   | true =>
    refine .inr ⟨decide (d.fixed≤Wb x.ty),?_,?_⟩
    ·unfold Xr;dsimp only;rw [q1,q2]
     simp only [cond_true,Option.bind_some]
     rw [hp];rfl
    ·have h3:=hI.1 rfl
     rw [decide_eq_true_eq]
     refine ⟨fun h=>⟨h3.1,fun c hc=>?_⟩,fun h=>h.2 x (by simp)⟩
     rcases List.mem_append.1 hc with hc | hc
     ·exact h3.2 c hc
     ·rw [List.mem_singleton.1 hc];exact h)
  (fun s hI=>⟨s,by unfold Xr;dsimp only;rw [Ji];rfl,hI⟩) (decide (d.fixed≤Wb d.ty)) (by rw [decide_eq_true_eq];exact ⟨fun h=>⟨h,fun c hc=>by cases hc⟩,fun h=>h.1⟩)
 refine ⟨b,?_,h2⟩
 unfold m70
 rw [(pis_eq d.ty (by omega)).1,Option.bind_some]
 have h1':QE (Xr d) QU (decide (d.fixed≤Wb d.ty),0)=some b:=h1
 rw [h1'];rfl
theorem types_eq (d:Dcl) (h:d.size≤900000000):QE (Kn d) QU ([d.ty],0)=some (d.ty::d.ctors.map (·.ty)):=by
 have hc:=YM d
 refine (YG (step:=Kn d) d.ctors (fun i (s:List Tm)=>(s,i)) (fun a s=>s=d.ty::a.map (·.ty)) (fun r=>r=d.ty::d.ctors.map (·.ty)) (by omega)
  (fun a x b s e hI=>by
   obtain ⟨q1,q2⟩:=Z4 e
   have:=Xn e
   refine .inr ⟨s++[x.ty],?_,by rw [hI];simp⟩
   unfold Kn;dsimp only;rw [q1,q2]
   simp only [cond_true,Option.bind_some]
   rw [Yo (by rw [hI];simp;omega)])
  (fun s hI=>⟨s,by unfold Kn;dsimp only;rw [Ji];rfl,hI⟩) [d.ty] rfl).elim fun r hr=>by rw [← hr.2];exact hr.1
theorem l2_eq (d:Dcl) (l:List Tm) (hl:l.length≤900000000) (h:∀ t∈l,t.size≤900000000):∃ r,QE (ZU l d) QU 0=some r∧((r=.inl ()∧∀ t∈l,d.fixed≤Wb t)∨(r=.inr (.inr 3)∧¬ ∀ t∈l,d.fixed≤Wb t)):=by
 obtain ⟨r,h1,h2⟩:=loop_bad (β:=Unit⊕(Unit⊕Int)) (step:=ZU l d) l (fun _ t=>¬ d.fixed≤Wb t) (.inr (.inr 3)) (.inl ()) hl (fun a x b e=>by
  obtain ⟨q1,q2⟩:=Z4 e
  obtain ⟨-,r,e1,e2⟩:=pis_eq x (h x (by rw [e];simp))
  unfold ZU
  rw [q1,q2]
  simp only [cond_true,Option.bind_some]
  rw [m64_eq,e1,Option.bind_some,e2,Xt]
  refine ⟨fun hn=>?_,fun hn=>?_⟩
  ·rw [decide_eq_false hn];rfl
  ·rw [decide_eq_true (Decidable.not_not.1 hn)];rfl) (by unfold ZU;rw [Ji];rfl)
 refine ⟨r,h1,?_⟩
 rcases h2 with ⟨h2,h3⟩ | ⟨h2,a,x,b,e,h3⟩
 ·refine .inl ⟨h2,fun t ht=>?_⟩
  obtain ⟨a,b,e⟩:=List.append_of_mem ht
  exact Decidable.not_not.1 (h3 a t b e)
 ·exact .inr ⟨h2,fun hh=>h3 (hh x (by rw [e];simp))⟩
def U2 (n:Int):Prop:=-9223372036854775808≤n∧n≤9223372036854775807
theorem w64_mod (n:Int) (h:U2 n) (p:Int) (h0:0≤p) (h8:p≤8) (k:Int) (k0:0≤k) (k1:k≤1):Ja (n - p)=k↔n=p+k:=by
 obtain ⟨h1,h2⟩:=h
 show IntKind.i64.wrap (n - p)=k↔_
 rw [IntKind.wrap_i64]
 omega
theorem k3_eq (d:Dcl) (h:d.size≤900000000) (hr:U2 d.rcr.params) (hp0:0≤d.params) (hp8:d.params≤8):∃ e,Wh d=some e∧Sm2 e (G9 d):=by
 have hc:=YM d
 obtain ⟨b,h1,h2⟩:=m70_eq d h
 obtain ⟨r,h3,h4⟩:=l2_eq d (d.ty::d.ctors.map (·.ty)) (by simp;omega) (fun t ht=>by
  rcases List.mem_cons.1 ht with rfl | ht
  ·have:=ty_size d;omega
  ·obtain ⟨c,hc,rfl⟩:=List.mem_map.1 ht
   have:=KZ hc;omega)
 have hall:(∀ t∈d.ty::d.ctors.map (·.ty),d.fixed≤Wb t)↔pisP d:=by
  unfold pisP
  simp only [List.mem_cons,List.mem_map,forall_eq_or_imp,forall_exists_index,and_imp,forall_apply_eq_imp_iff₂]
 unfold Wh G9
 rw [types_eq d h,YC]
 by_cases hk:d.kind=3
 ·rw [decide_eq_true hk]
  simp only [cond_true,Option.bind_some]
  rw [h1,h3]
  have e1:∀ K:Bool→Option Int,Option.bind (cond (d.rcr.params != d.params) (cond (d.rcr.params != (Ja (d.params+1))) (some true) (cond ((d.rcr.rules.length:Int) != (d.ctors.length:Int)) (some true) (Option.bind (some b) fun (b0_:Bool)=>some (!b0_)))) (cond ((d.rcr.rules.length:Int) != (d.ctors.length:Int)) (some true) (Option.bind (some b) fun (b1_:Bool)=>some (!b1_)))) K
    = K (!(decide (d.rcr.params=d.params∨d.rcr.params=d.params+1)&&((d.rcr.rules.length:Int)==(d.ctors.length:Int))&&b)):=by
   intro K
   rw [WL (n:=d.params+1) (by omega) (by omega)]
   show Option.bind (cond (!(d.rcr.params==d.params)) (cond (!(d.rcr.params==d.params+1)) (some true) (cond (!((d.rcr.rules.length:Int)==(d.ctors.length:Int))) (some true) (some (!b)))) (cond (!((d.rcr.rules.length:Int)==(d.ctors.length:Int))) (some true) (some (!b)))) K=_
   rw [YC,YC]
   cases ((d.rcr.rules.length:Int)==(d.ctors.length:Int)) <;> by_cases c1:d.rcr.params=d.params
   ·rw [decide_eq_true c1,decide_eq_true (Or.inl c1)];rfl
   ·rw [decide_eq_false c1]
    by_cases c2:d.rcr.params=d.params+1
    ·rw [decide_eq_true c2,decide_eq_true (Or.inr c2)];rfl
    ·rw [decide_eq_false c2,decide_eq_false (by omega)];rfl
   ·rw [decide_eq_true c1,decide_eq_true (Or.inl c1)];rfl
   ·rw [decide_eq_false c1]
    by_cases c2:d.rcr.params=d.params+1
    ·rw [decide_eq_true c2,decide_eq_true (Or.inr c2)];rfl
    ·rw [decide_eq_false c2,decide_eq_false (by omega)];rfl
  rw [e1]
  have e2:∀ K:Unit⊕(Unit⊕Int)→Option (Unit⊕Int),Option.bind (cond ((Ja (d.rcr.params - d.params))==0) (Option.bind (JJ ((d.rcr.rules.length:Int)==(d.ctors.length:Int)) 3) (Sum.elim (fun (b0_:Unit)=>some (.inl ())) (fun (b1_:Unit)=>some (.inr (.inr 3)))))
    (cond ((Ja (d.rcr.params - d.params))==1) (Option.bind (JJ ((d.rcr.rules.length:Int)==(d.ctors.length:Int)) 3) (Sum.elim (fun (b2_:Unit)=>some (.inl ())) (fun (b3_:Unit)=>some (.inr (.inr 3))))) (Option.bind (JJ false 3) (Sum.elim (fun (b4_:Unit)=>some (.inl ())) (fun (b5_:Unit)=>some (.inr (.inr 3))))))) K
    = cond (decide (d.rcr.params=d.params∨d.rcr.params=d.params+1)&&((d.rcr.rules.length:Int)==(d.ctors.length:Int))) (K (.inl ())) (K (.inr (.inr 3))):=by
   intro K
   have g0:=w64_mod d.rcr.params hr d.params hp0 hp8 0 (by omega) (by omega)
   have g1:=w64_mod d.rcr.params hr d.params hp0 hp8 1 (by omega) (by omega)
   rw [Int.add_zero] at g0
   rw [YC (Ja (d.rcr.params - d.params)) 0,YC (Ja (d.rcr.params - d.params)) 1]
   by_cases c1:d.rcr.params=d.params
   ·rw [decide_eq_true (g0.2 c1),decide_eq_true (Or.inl c1)]
    cases ((d.rcr.rules.length:Int)==(d.ctors.length:Int)) <;> rfl
   ·rw [decide_eq_false (fun h=>c1 (g0.1 h))]
    by_cases c2:d.rcr.params=d.params+1
    ·rw [decide_eq_true (g1.2 c2),decide_eq_true (Or.inr c2)]
     cases ((d.rcr.rules.length:Int)==(d.ctors.length:Int)) <;> rfl
    ·rw [decide_eq_false (fun h=>c2 (g1.1 h)),decide_eq_false (by omega)];rfl
  rw [e2]
  cases (decide (d.rcr.params=d.params∨d.rcr.params=d.params+1)&&((d.rcr.rules.length:Int)==(d.ctors.length:Int))) with
  | false=>exact ⟨3,rfl,.no (by omega) rfl⟩
  | true =>
   rcases h4 with ⟨rfl,h5⟩ | ⟨rfl,h5⟩
   ·rw [h2.2 (hall.1 h5)];exact ⟨0,rfl,.ok rfl⟩
   ·have:b=false:=by rw [Bool.eq_false_iff];exact fun h=>h5 (hall.2 (h2.1 h))
    rw [this];exact ⟨3,rfl,.no (by omega) rfl⟩
 ·rw [decide_eq_false hk];exact ⟨0,rfl,.ok rfl⟩
theorem k4_eq (d:Dcl) (h:d.size≤900000000) (hr:U2 d.rcr.params):∃ e,m51 d=some e∧Sm2 e (Zv d):=by
 have hf:=Zw d
 unfold m51 Zv
 by_cases c1:d.params < 0
 ·rw [decide_eq_true c1,decide_eq_false (show ¬ 0≤d.params by omega)];exact ⟨2,rfl,.no (by omega) rfl⟩
 rw [decide_eq_false c1,decide_eq_true (show 0≤d.params by omega)]
 by_cases c2:8 < d.params
 ·rw [decide_eq_true c2,decide_eq_false (show ¬ d.params≤8 by omega)];exact ⟨2,rfl,.no (by omega) rfl⟩
 rw [decide_eq_false c2,decide_eq_true (show d.params≤8 by omega)]
 by_cases c3:d.fixed < 0
 ·rw [decide_eq_true c3,decide_eq_false (show ¬ 0≤d.fixed by omega)];exact ⟨2,rfl,.no (by omega) rfl⟩
 rw [decide_eq_false c3,decide_eq_true (show 0≤d.fixed by omega)]
 show ∃ e,Um false d=some e∧Sm2 e (Xz d)
 unfold Um Xz
 have tail:∃ e,Option.bind (QE (Xw d) QU 0) (Sum.elim (fun (b1_:Unit)=>Wh d) (fun o=>some o))=some e∧Sm2 e (Option.bind (QE (Ko d) QU 0) (Sum.elim (fun (b9_:Unit)=>G9 d) (fun o=>some o))):=by
  obtain ⟨e,h1,h2⟩:=YS (β1:=Unit⊕Int) (β2:=Unit⊕(Unit⊕Int)) (step1:=Xw d) (step2:=Ko d) d.funs (.inl ()) (.inl ()) .inr (fun e=>.inr (.inr e)) (by omega) (fun a x b e=>by
   obtain ⟨q1,q2⟩:=Z4 e
   unfold Xw Ko
   rw [q1,q2]
   simp only [cond_true,Option.bind_some]
   by_cases a1:x.arity < 1
   ·rw [decide_eq_true a1,decide_eq_false (show ¬ 1≤x.arity by omega)];exact ⟨3,fun h=>by omega,fun _=>⟨rfl,rfl⟩⟩
   rw [decide_eq_false a1,decide_eq_true (show 1≤x.arity by omega)]
   by_cases a2:16 < x.arity
   ·rw [decide_eq_true a2,decide_eq_false (show ¬ x.arity≤16 by omega)];exact ⟨3,fun h=>by omega,fun _=>⟨rfl,rfl⟩⟩
   rw [decide_eq_false a2,decide_eq_true (show x.arity≤16 by omega)]
   exact ⟨0,fun _=>⟨Z,Z⟩,fun h=>(h Z).elim⟩)
   (by unfold Xw;rw [Ji];rfl) (by unfold Ko;rw [Ji];rfl)
  by_cases he:e=0
  ·obtain ⟨e1,e2⟩:=h1 he
   rw [e1,e2]
   exact k3_eq d h hr (by omega) (by omega)
  ·obtain ⟨e1,e2⟩:=h2 he
   rw [e1,e2];exact ⟨e,rfl,.no he rfl⟩
 by_cases c4:32 < (d.ctors.length:Int)
 ·rw [decide_eq_true c4,decide_eq_false (show ¬ (d.ctors.length:Int)≤32 by omega)];exact ⟨6,rfl,.no (by omega) rfl⟩
 rw [decide_eq_false c4,decide_eq_true (show (d.ctors.length:Int)≤32 by omega)]
 cases (d.kind==4) with
 | false=>exact tail
 | true =>
  by_cases c5:(d.funs.length:Int) < 1
  ·rw [decide_eq_true c5,decide_eq_false (show ¬ 1≤(d.funs.length:Int) by omega)];exact ⟨6,rfl,.no (by omega) rfl⟩
  rw [decide_eq_false c5,decide_eq_true (show 1≤(d.funs.length:Int) by omega)]
  by_cases c6:8 < (d.funs.length:Int)
  ·rw [decide_eq_true c6,decide_eq_false (show ¬ (d.funs.length:Int)≤8 by omega)];exact ⟨6,rfl,.no (by omega) rfl⟩
  rw [decide_eq_false c6,decide_eq_true (show (d.funs.length:Int)≤8 by omega)]
  exact tail
end Go.Proofs.Ytafddfoefeploaa
namespace Go.Proofs.Ytafddfoefeploaa
open Go.RowKit Go.Shelf
def Dc (d:Dcl) (k:Int) (M M':Qo Bs Ent):Prop:=∀ n,Ks M' n=(Ys d k n).elim (Ks M n) some
theorem firstN_snoc {α:Type} (nm:α→Bs) (n:Bs) (x:α):∀ (l:List α) (k:Nat),JT nm n (l++[x]) k=(JT nm n l k).elim (if nm x=n then some (k+l.length,x) else none) some
 | [],k=>by
  rw [List.nil_append,JT,JT]
  split <;> rfl
 | y::l,k=>by
  rw [List.cons_append,JT,JT]
  by_cases h:nm y=n
  ·rw [if_pos h,if_pos h];rfl
  ·rw [if_neg h,if_neg h,firstN_snoc nm n x l (k+1),List.length_cons,show k+1+l.length=k+(l.length+1) from by omega]
theorem firstN_no {α:Type} (nm:α→Bs) (n:Bs) (l:List α) (k:Nat) (h:n∉l.map nm):JT nm n l k=none:=by
 have:=firstN_is nm n l k
 rw [decide_eq_false h] at this
 cases hf:JT nm n l k with
 | none=>rfl
 | some p=>rw [hf] at this;cases this
theorem fold_book {α:Type} {step:Int×(Qo Bs Ent)→Option (LO (Int×(Qo Bs Ent)) (Qo Bs Ent))} (nm:α→Bs) (g:Int→α→Ent) (l:List α) (M:Qo Bs Ent) (hlen:l.length≤900000000) (hnd:(l.map nm).Nodup)
  (hin:∀ (a:List α) (x:α) (b:List α) (s:Qo Bs Ent),l=a++x::b→step ((a.length:Int),s)=some (.next (Ja ((a.length:Int)+1),Jb s (nm x) (g (a.length:Int) x))))
  (hout:∀ s,step ((l.length:Int),s)=some (.done s)):∃ M',QE step QU (0,M)=some M'∧∀ n,Ks M' n=(JT nm n l 0).elim (Ks M n) fun p=>some (g (p.1:Int) p.2):=by
 refine YG (step:=step) l (fun i (s:Qo Bs Ent)=>(i,s)) (fun a s=>∀ n,Ks s n=(JT nm n a 0).elim (Ks M n) fun p=>some (g (p.1:Int) p.2)) (fun M'=>∀ n,Ks M' n=(JT nm n l 0).elim (Ks M n) fun p=>some (g (p.1:Int) p.2)) hlen
  (fun a x b s e hI=>.inr ⟨_,hin a x b s e,fun n=>?_⟩) (fun s hI=>⟨s,hout s,hI⟩) M (fun n=>rfl)
 rw [KY,firstN_snoc,Nat.zero_add]
 by_cases h:n=nm x
 ·have hno:n∉a.map nm:=by
   rw [e,List.map_append,List.map_cons] at hnd
   intro hm
   exact (List.nodup_append.1 hnd).2.2 n hm (nm x) (List.mem_cons_self ..) h
  rw [if_pos h,firstN_no nm n a 0 hno,if_pos h.symm];rfl
 ·rw [if_neg h,hI n,if_neg (fun h'=>h h'.symm)]
  cases JT nm n a 0 <;> rfl
theorem rec_ne (d:Dcl) (h:d.size≤800000000):d.name.length+4≤1000000000:=by
 have:=name_len d;omega
theorem decl_book (d:Dcl) (env:List Dcl) (M:Qo Bs Ent) (h:d.size≤800000000) (hnd:(Jx d).Nodup):∃ M',Option.bind (cond (d.kind==0) (some (d.kind==0)) (cond (d.kind==1) (some (d.kind==1)) (some (d.kind==2)))) (fun (b1_:Bool)=>GT b1_ d M env)=some M'∧Dc d (env.length:Int) M M':=by
 have hc:=YM d
 have hf:=Zw d
 rw [kinds_eq]
 show ∃ M',GT (decide (d.kind=0∨d.kind=1∨d.kind=2)) d M env=some M'∧_
 unfold GT
 by_cases hk:d.kind=0∨d.kind=1∨d.kind=2
 ·rw [decide_eq_true hk]
  have e1:JP ([0,1,2]:List Int) d.kind=some d.kind:=by rcases hk with e | e | e <;> rw [e] <;> rfl
  rw [cond_true,e1]
  refine ⟨_,Z,fun n=>?_⟩
  unfold Ys
  rw [KY,if_pos hk]
  by_cases hn:n=d.name
  ·rw [if_pos hn,if_pos hn.symm];rfl
  ·rw [if_neg hn,if_neg (fun h=>hn h.symm)];rfl
 ·rw [decide_eq_false hk,cond_false,YC]
  by_cases h3:d.kind=3
  ·rw [decide_eq_true h3,cond_true]
   have hn3:Jx d=(d.name::d.ctors.map (·.name))++[d.name++Ug]:=by unfold Jx;rw [if_neg hk,if_pos h3];rfl
   rw [hn3] at hnd
   have hd1:=(List.nodup_append.1 hnd).1
   have hd2:=(List.nodup_cons.1 hd1)
   have hd3:=(List.nodup_append.1 hnd).2.2
   obtain ⟨M',e1,e2⟩:=fold_book (step:=Gc d env) (·.name) (fun i (c:Ctr)=>⟨4,(env.length:Int),i,d.params,c.ty⟩) d.ctors (Jb M d.name (⟨3,(env.length:Int),0,d.params,d.ty⟩:Ent)) (by omega) hd2.2
    (fun a x b s e=>by obtain ⟨q1,q2⟩:=Z4 e;unfold Gc;dsimp only;rw [q1,q2];rfl) (fun s=>by unfold Gc;dsimp only;rw [Ji];rfl)
   show ∃ M',Option.bind (QE (Gc d env) QU (0,Jb M d.name (⟨3,(env.length:Int),0,d.params,d.ty⟩:Ent))) (fun b3_=>XA d b3_ env)=some M'∧_
   rw [e1]
   simp only [Option.bind_some]
   unfold XA
   rw [Yo (by have:=rec_ne d h;show d.name.length+4≤_;omega)]
   refine ⟨_,Z,fun n=>?_⟩
   rw [KY,e2,KY]
   unfold Ys
   rw [if_neg hk,if_pos h3]
   show (if n=d.name++Ug then _ else _)=_
   by_cases hr:n=d.name++Ug
   ·have hne:¬ d.name=n:=fun h=>hd3 d.name (List.mem_cons_self ..) _ (List.mem_singleton_self _) (by rw [← hr];exact h)
    have hno:n∉d.ctors.map (·.name):=fun hm=>hd3 n (List.mem_cons_of_mem _ hm) _ (List.mem_singleton_self _) hr
    rw [if_pos hr,if_neg hne,firstN_no _ _ _ _ hno]
    simp only
    rw [if_pos hr.symm];rfl
   ·rw [if_neg hr]
    by_cases hn:n=d.name
    ·have hno:n∉d.ctors.map (·.name):=by rw [hn];exact hd2.1
     rw [firstN_no _ _ _ _ hno,if_pos hn,if_pos hn.symm];rfl
    ·rw [if_neg hn,if_neg (fun h=>hn h.symm)]
     cases hf:JT (·.name) n d.ctors 0 with
     | none=>simp only;rw [if_neg (fun h=>hr h.symm)];rfl
     | some p=>rfl
  ·rw [decide_eq_false h3,cond_false,YC]
   by_cases h4:d.kind=4
   ·rw [decide_eq_true h4,cond_true]
    have hn4:Jx d=d.funs.map (·.name):=by unfold Jx;rw [if_neg hk,if_neg h3,if_pos h4]
    rw [hn4] at hnd
    obtain ⟨M',e1,e2⟩:=fold_book (step:=GS d env) (·.name) (fun i (c:Fn)=>⟨6,(env.length:Int),i,d.params,c.ty⟩) d.funs M (by omega) hnd
     (fun a x b s e=>by obtain ⟨q1,q2⟩:=Z4 e;unfold GS;dsimp only;rw [q1,q2];rfl) (fun s=>by unfold GS;dsimp only;rw [Ji];rfl)
    rw [e1]
    refine ⟨M',Z,fun n=>?_⟩
    rw [e2]
    unfold Ys
    rw [if_neg hk,if_neg h3,if_pos h4]
    cases JT (·.name) n d.funs 0 <;> rfl
   ·rw [decide_eq_false h4]
    refine ⟨M,Z,fun n=>?_⟩
    unfold Ys
    rw [if_neg hk,if_neg h3,if_neg h4];rfl
theorem decl_own (d:Dcl) (env:List Dcl) (h:d.size≤800000000) (hnd:(Jx d).Nodup):∃ M',Option.bind (cond (d.kind==0) (some (d.kind==0)) (cond (d.kind==1) (some (d.kind==1)) (some (d.kind==2)))) (fun (v5:Bool)=>m47f10_k3 v5 d env)=some M'∧Dc d (env.length:Int) gmNil M':=decl_book d env gmNil h hnd
theorem decl_next (d:Dcl) (env:List Dcl) (M:Qo Bs Ent) (x:List Dcl) (h:d.size≤800000000) (hnd:(Jx d).Nodup):∃ M',Option.bind (cond (d.kind==0) (some (d.kind==0)) (cond (d.kind==1) (some (d.kind==1)) (some (d.kind==2)))) (fun (v12:Bool)=>Uv v12 d ((env.length:Int),M,x))=some M'∧Dc d (env.length:Int) M M':=decl_book d env M h hnd
theorem Ow.nil (d:Dcl) (k:Int):Ow [] d k gmNil:=fun n=>⟨fun h=>(by cases h),by rw [if_neg (by intro h;cases h)];rfl⟩
theorem Ow.snoc {own:List Bs} {d:Dcl} {k:Int} {O Y:Qo Bs Ent} (h:Ow own d k O) (hY:Dc d k gmNil Y) (s:Bs) (hs:s∈Jx d):Ow (own++[s]) d k (Jb O s (⟨(Qy Y s).kind,(Qy Y s).decl,(Qy Y s).item,(Qy Y s).params,((Qy Y s).ty)⟩:Ent)):=by
 intro n
 refine ⟨fun hn=>?_,?_⟩
 ·rcases List.mem_append.1 hn with hn | hn
  ·exact (h n).1 hn
  ·rw [List.mem_singleton.1 hn];exact hs
 ·rw [KY]
  by_cases e:n=s
  ·rw [if_pos e,if_pos (by rw [e];simp),e]
   have hi:=XV d k s
   rw [decide_eq_true hs] at hi
   have hy:=hY s
   cases hl:Ys d k s with
   | none=>rw [hl] at hi;cases hi
   | some en =>
    rw [hl] at hy
    have:Qy Y s=en:=by unfold Qy;rw [hy];rfl
    rw [this]
  ·rw [if_neg e,(h n).2]
   by_cases hn:n∈own
   ·rw [if_pos hn,if_pos (List.mem_append_left _ hn)]
   ·rw [if_neg hn,if_neg (by rw [List.mem_append,List.mem_singleton];exact fun h=>h.elim hn e)]
theorem Dc.ow {d:Dcl} {k:Int} {Y:Qo Bs Ent} (hY:Dc d k gmNil Y):Ow (Jx d) d k Y:=by
 intro n
 refine ⟨fun h=>h,?_⟩
 rw [hY n]
 by_cases hn:n∈Jx d
 ·rw [if_pos hn]
  have hi:=XV d k n
  rw [decide_eq_true hn] at hi
  cases hl:Ys d k n with
  | none=>rw [hl] at hi;cases hi
  | some en=>rfl
 ·rw [if_neg hn]
  have hi:=XV d k n
  rw [decide_eq_false hn] at hi
  cases hl:Ys d k n with
  | none=>rfl
  | some en=>rw [hl] at hi;cases hi
theorem findO_snoc (a:List Dcl) (x:Dcl) (n:Bs):KC (a++[x]) n=(KC a n).elim (Ys x (a.length:Int) n) some:=by
 unfold KC
 rw [fsI_app,Nat.zero_add]
 congr 1
 show (Ys x (a.length:Int) n).elim none some=_
 cases Ys x (a.length:Int) n <;> rfl
theorem Bk.next {a:List Dcl} {x:Dcl} {M M':Qo Bs Ent} (h:Bk a M) (hd:Dc x (a.length:Int) M M') (hf:∀ n∈Jx x,KC a n=none):Bk (a++[x]) M':=by
 intro n
 rw [hd n,h n,findO_snoc]
 have hi:=XV x (a.length:Int) n
 by_cases hn:n∈Jx x
 ·rw [hf n hn]
  cases Ys x (a.length:Int) n <;> rfl
 ·rw [decide_eq_false hn] at hi
  cases hl:Ys x (a.length:Int) n with
  | none=>cases KC a n <;> rfl
  | some en=>rw [hl] at hi;cases hi
end Go.Proofs.Ytafddfoefeploaa
namespace Go.Proofs.Ytafddfoefeploaa
open Go.RowKit Go.Shelf
theorem fn_size {d:Dcl} {f:Fn} (h:f∈d.funs):f.ty.size+f.tree.size+f.name.length < d.size:=by
 have h1:=Z9 fsz h
 have h2:fsz f=1+f.name.length+f.ty.size+f.tree.size:=rfl
 unfold Dcl.size;omega
theorem names_mem_len {d:Dcl} {n:Bs} (h:n∈Jx d):n.length≤d.size+4:=by
 have hd:=name_len d
 unfold Jx at h
 split at h
 ·rw [List.mem_singleton.1 h];omega
 ·split at h
  ·rcases List.mem_append.1 h with h | h
   ·rcases List.mem_cons.1 h with h | h
    ·rw [h];omega
    ·obtain ⟨c,hc,rfl⟩:=List.mem_map.1 h
     have:=KZ hc
     omega
   ·rw [List.mem_singleton.1 h,List.length_append]
    show d.name.length+4≤_
    omega
  ·split at h
   ·obtain ⟨c,hc,rfl⟩:=List.mem_map.1 h
    have:=fn_size hc
    omega
   ·cases h
theorem take_mid {α:Type} {l a b:List α} (e:l=a++b):l.take a.length=a:=by rw [e];simp
def NmOk (env:List Dcl) (d:Dcl):Prop:=(Jx d).Nodup∧(∀ n∈Jx d,KC env n=none)∧∀ n∈Jx d,Xm n=true
theorem names_ok (env:List Dcl) (d:Dcl) (M:Qo Bs Ent) (hM:Bk env M) (he:YX env≤800000000) (hd:d.size≤800000000) :
  ∃ e:Int,m52 env d=some e∧Sm2 e (UJ d env M)∧(e=0→NmOk env d):=by
 have hnl:=names_len d
 unfold m52 UJ
 rw [m23_eq d (by omega),m20_eq d (by omega),Option.bind_some,Option.bind_some]
 obtain ⟨r1,r2,h1,h2,h3⟩:=loop2 (β1:=Unit⊕Int) (β2:=(Qo Bs Bool)⊕(Unit⊕Int)) (step1:=Wg (Jx d) env) (step2:=G7 (Jx d) M) (Jx d) (fun i (_:Unit)=>i) (fun i (s:Qo Bs Bool)=>(i,s))
  (fun a _ s=>(∀ n,Qy s n=decide (n∈a))∧a.Nodup∧(∀ n∈a,KC env n=none)∧∀ n∈a,Xm n=true) (fun r1 r2=>(r1=.inl ()∧∃ s,r2=.inl s∧NmOk env d)∨∃ e,e ≠ 0∧r1=.inr e∧r2=.inr (.inr e)) (by omega)
  (fun a x b _ s e hI=>by
   obtain ⟨q1,q2⟩:=Z4 e
   have hx:x.length≤900000000:=by have:=names_mem_len (d:=d) (n:=x) (by rw [e];simp);omega
   have hm:=Xn e
   obtain ⟨hs,hnd,hfr,hnk⟩:=hI
   unfold Wg G7
   dsimp only
   rw [q1,q2]
   simp only [cond_true,Option.bind_some]
   rw [m71_eq x hx,m65_eq x hx,Option.bind_some,Option.bind_some,Xt]
   cases hnx:Xm x with
   | false=>exact .inl ⟨_,_,rfl,rfl,.inr ⟨29,by omega,rfl,rfl⟩⟩
   | true =>
    have hMx:=hM x
    simp only [Bool.not_true,cond_false,cond_true,Option.bind_some,Sum.elim_inl]
    rw [Us env x he]
    unfold W5
    cases hf:KC env x with
    | some en =>
     rw [hf] at hMx
     have g1:YL M x=true:=by unfold YL;rw [hMx];rfl
     rw [g1]
     exact .inl ⟨_,_,rfl,rfl,.inr ⟨8,by omega,rfl,rfl⟩⟩
    | none =>
     rw [hf] at hMx
     have g1:YL M x=false:=by unfold YL;rw [hMx];rfl
     rw [g1,hs x]
     have g2:Jy (cond (decide ((0:Int)≤(a.length:Int))) (Nat.ble ((a.length:Int)).toNat (Jx d).length) false) (Option.bind (Dj ((Jx d).take ((a.length:Int)).toNat) x) fun (x13:Bool)=>some x13)=some (decide (x∈a)):=by
      rw [decide_eq_true (show (0:Int)≤(a.length:Int) by omega),cond_true]
      show Jy (Nat.ble a.length (Jx d).length) (Option.bind (Dj ((Jx d).take a.length) x) _)=_
      rw [Yo (by omega),take_mid e,m33_eq a x (by omega)];rfl
     show (∃ r1 r2,Option.bind (Jy (cond (decide ((0:Int)≤(a.length:Int))) (Nat.ble ((a.length:Int)).toNat (Jx d).length) false) (Option.bind (Dj ((Jx d).take ((a.length:Int)).toNat) x) fun (x13:Bool)=>some x13)) _=_∧_)∨(∃ s1' s2',Option.bind (Jy (cond (decide ((0:Int)≤(a.length:Int))) (Nat.ble ((a.length:Int)).toNat (Jx d).length) false) (Option.bind (Dj ((Jx d).take ((a.length:Int)).toNat) x) fun (x13:Bool)=>some x13)) _=_∧_)
     rw [g2]
     by_cases hxa:x∈a
     ·rw [decide_eq_true hxa]
      exact .inl ⟨_,_,rfl,rfl,.inr ⟨8,by omega,rfl,rfl⟩⟩
     ·rw [decide_eq_false hxa]
      refine .inr ⟨(),Jb s x true,Z,Z,fun n=>?_,?_,fun n hn=>?_,fun n hn=>?_⟩
      ·rw [gmVal_set]
       by_cases hn:n=x
       ·rw [if_pos hn,decide_eq_true (by rw [hn];simp)]
       ·rw [if_neg hn,hs n]
        congr 1
        rw [List.mem_append,List.mem_singleton,eq_iff_iff]
        exact ⟨.inl,fun h=>h.resolve_right hn⟩
      ·rw [List.nodup_append]
       refine ⟨hnd,by simp,fun y hy z hz=>?_⟩
       rw [List.mem_singleton.1 hz]
       exact fun h=>hxa (h▸hy)
      ·rcases List.mem_append.1 hn with hn | hn
       ·exact hfr n hn
       ·rw [List.mem_singleton.1 hn];exact hf
      ·rcases List.mem_append.1 hn with hn | hn
       ·exact hnk n hn
       ·rw [List.mem_singleton.1 hn];exact hnx)
  (fun _ s hI=>⟨.inl (),.inl s,by unfold Wg;rw [Ji];rfl,by unfold G7;dsimp only;rw [Ji];rfl,.inl ⟨rfl,s,rfl,hI.2⟩⟩) () gmNil ⟨fun n=>by rw [decide_eq_false (by intro h;cases h)];rfl,List.nodup_nil,(fun n hn=>by cases hn),fun n hn=>by cases hn⟩
 have h2':QE (G7 (Jx d) M) QU (0,gmNil)=some r2:=h2
 have h1':QE (Wg (Jx d) env) QU 0=some r1:=h1
 rw [h1',h2']
 rcases h3 with ⟨rfl,s,rfl,h4⟩ | ⟨e,h4,rfl,rfl⟩
 ·exact ⟨0,rfl,.ok rfl,fun _=>h4⟩
 ·exact ⟨e,rfl,.no h4 rfl,fun h=>(h4 h).elim⟩
theorem rule_size {d:Dcl} {r:Tm} (h:r∈d.rcr.rules):r.size < d.size:=by
 have:=Z9 Tm.size h
 unfold Dcl.size;omega
theorem rty_size (d:Dcl):d.rcr.ty.size < d.size:=by unfold Dcl.size;omega
theorem value_size (d:Dcl):d.value.size < d.size:=by unfold Dcl.size;omega
theorem ind_eq (env:List Dcl) (d:Dcl) (M:Qo Bs Ent) (hM:Bk env M) (he:YX env≤800000000) (hd:d.size≤800000000) (hnd:(Jx d).Nodup) (hk:d.kind=3) :
  ∃ e:Int,Option.bind (QE (X9 d env) QU 0) (Sum.elim (fun (b1_:Unit)=>Xv d env) (fun o=>some o))=some e ∧
   (e=0→∃ O,WV d env M gmNil=some (.inl O))∧(e ≠ 0→∃ O,WV d env M gmNil=some (.inr (e,O))):=by
 have hc:=YM d
 have hrl:=rules_len d
 have hn3:Jx d=(d.name::d.ctors.map (·.name))++[d.name++Ug]:=by unfold Jx;rw [if_neg (by rw [hk];decide),if_pos hk];rfl
 obtain ⟨Y,hY1,hY2⟩:=decl_own d env hd hnd
 have hO1:Ow [d.name] d (env.length:Int) (Jb gmNil d.name (⟨(Qy Y d.name).kind,(Qy Y d.name).decl,(Qy Y d.name).item,(Qy Y d.name).params,((Qy Y d.name).ty)⟩:Ent)) :=
  (Ow.nil d (env.length:Int)).snoc hY2 d.name (by rw [hn3];simp)
 have hmem:∀ c∈d.ctors,c.name∈Jx d:=fun c hc=>by rw [hn3];exact List.mem_append_left _ (List.mem_cons_of_mem _ (List.mem_map.2 ⟨c,hc,rfl⟩))
 unfold WV
 rw [hY1]
 simp only [Option.bind_some]
 obtain ⟨e,h1,h2⟩:=YS (β1:=Unit⊕Int) (β2:=Unit⊕((Qo Bs Ent)⊕(Int×(Qo Bs Ent)))) (step1:=X9 d env) (step2:=KU d env M gmNil Y) d.ctors (.inl ()) (.inl ()) .inr (fun e=>.inr (.inr (e,_))) (by omega) (fun a x b e=>by
  obtain ⟨q1,q2⟩:=Z4 e
  have hx:=KZ (d:=d) (c:=x) (by rw [e];simp)
  obtain ⟨e',w1,w2,w3⟩:=Wi ⟨env,[d.name],d⟩ M _ ⟨he,by simp,hd,hM,hO1⟩ x.ty 0 d.params (by omega)
  unfold X9 KU
  rw [q1,q2]
  simp only [cond_true,Option.bind_some]
  rw [w1]
  refine ⟨e',fun he=>?_,fun he=>?_⟩
  ·have w4:=w2 he
   rw [w4];subst he;exact ⟨rfl,rfl⟩
  ·have w4:=w3 he
   rw [w4];exact ⟨XR he _ _,rfl⟩)
  (by unfold X9;rw [Ji];rfl) (by unfold KU;rw [Ji];rfl)
 by_cases he1:e ≠ 0
 ·obtain ⟨e1,e2⟩:=h2 he1
  rw [e1,e2]
  exact ⟨e,Z,fun h=>(he1 h).elim,fun _=>⟨_,Z⟩⟩
 obtain ⟨e1,e2⟩:=h1 (Decidable.not_not.1 he1)
 rw [e1,e2]
 show ∃ e:Int,Xv d env=some e∧(e=0→∃ O,KV d Y gmNil env M=some (.inl O))∧(e ≠ 0→∃ O,KV d Y gmNil env M=some (.inr (e,O)))
 obtain ⟨O2,h3,h4⟩:=YG (step:=Kc d Y) d.ctors (fun i (s:Qo Bs Ent)=>(i,s)) (fun a s=>Ow (d.name::a.map (·.name)) d (env.length:Int) s) (fun s=>Ow (d.name::d.ctors.map (·.name)) d (env.length:Int) s) (by omega)
  (fun a x b s e hI=>by
   obtain ⟨q1,q2⟩:=Z4 e
   refine .inr ⟨_,by unfold Kc;dsimp only;rw [q1,q2];rfl,?_⟩
   have:=hI.snoc hY2 x.name (hmem x (by rw [e];simp))
   rw [List.map_append]
   exact this)
  (fun s hI=>⟨s,by unfold Kc;dsimp only;rw [Ji];rfl,hI⟩) _ hO1
 have h3':QE (Kc d Y) QU (0,(Jb gmNil d.name (⟨(Qy Y d.name).kind,(Qy Y d.name).decl,(Qy Y d.name).item,(Qy Y d.name).params,((Qy Y d.name).ty)⟩:Ent)))=some O2:=h3
 unfold KV
 rw [h3',Option.bind_some]
 unfold m47f10_k8 Xv
 rw [m23_eq d (by omega),Option.bind_some]
 have hlen:(Jx d).length=d.ctors.length+2:=by rw [hn3];simp
 have hw:Ja (((Jx d).length:Int) - 1)=((d.ctors.length+1:Nat):Int):=by rw [hlen,WL (by omega) (by omega)];omega
 rw [hw,decide_eq_true (show (0:Int)≤((d.ctors.length+1:Nat):Int) by omega),cond_true]
 show ∃ e:Int,Jy (Nat.ble (d.ctors.length+1) (Jx d).length) (Option.bind (Df ⟨env,(Jx d).take (d.ctors.length+1),d⟩ d.rcr.ty 0 d.rcr.params) _)=some e∧_
 have htake:(Jx d).take (d.ctors.length+1)=d.name::d.ctors.map (·.name):=by
  rw [hn3]
  have:d.ctors.length+1=(d.name::d.ctors.map (·.name)).length:=by simp
  rw [this,List.take_left']
  rfl
 rw [Yo (by omega),htake]
 obtain ⟨e',w1,w2,w3⟩:=Wi ⟨env,d.name::d.ctors.map (·.name),d⟩ M O2 ⟨he,by simp;omega,hd,hM,h4⟩ d.rcr.ty 0 d.rcr.params (by have:=rty_size d;omega)
 rw [w1]
 by_cases he2:e' ≠ 0
 ·have w4:=w3 he2
  rw [w4]
  simp only [Option.bind_some,UF he2,cond_true]
  exact ⟨e',Z,fun h=>(he2 h).elim,fun _=>⟨_,Z⟩⟩
 have he2':=Decidable.not_not.1 he2
 have w4:=w2 he2'
 subst he2'
 rw [w4]
 simp only [Option.bind_some,Sum.elim_inl]
 rw [Yo (by have:=rec_ne d hd;show d.name.length+4≤_;omega)]
 show ∃ e:Int,Option.bind (QE (X8 d env (Jx d)) QU 0) _=some e∧_
 have hO3:Ow (Jx d) d (env.length:Int) (Jb O2 (d.name++([46,114,101,99]:List UInt8)) (⟨(Qy Y (d.name++([46,114,101,99]:List UInt8))).kind,(Qy Y (d.name++([46,114,101,99]:List UInt8))).decl,(Qy Y (d.name++([46,114,101,99]:List UInt8))).item,(Qy Y (d.name++([46,114,101,99]:List UInt8))).params,((Qy Y (d.name++([46,114,101,99]:List UInt8))).ty)⟩:Ent)):=by
  have:=h4.snoc hY2 (d.name++Ug) (by rw [hn3];simp)
  rw [← hn3] at this
  exact this
 obtain ⟨e,h5,h6⟩:=YS (β1:=Unit⊕Int) (β2:=Unit⊕((Qo Bs Ent)⊕(Int×(Qo Bs Ent)))) (step1:=X8 d env (Jx d)) (step2:=KT d env M O2 Y) d.rcr.rules (.inl ()) (.inl ()) .inr (fun e=>.inr (.inr (e,_))) (by omega) (fun a x b e=>by
  obtain ⟨q1,q2⟩:=Z4 e
  have hx:=rule_size (d:=d) (r:=x) (by rw [e];simp)
  obtain ⟨e',w1,w2,w3⟩:=Wi ⟨env,Jx d,d⟩ M _ ⟨he,by show (Jx d).length≤_;omega,hd,hM,hO3⟩ x 0 d.rcr.params (by omega)
  unfold X8 KT
  rw [q1,q2]
  simp only [cond_true,Option.bind_some]
  rw [w1]
  refine ⟨e',fun he=>?_,fun he=>?_⟩
  ·have w4:=w2 he
   rw [w4];subst he;exact ⟨rfl,rfl⟩
  ·have w4:=w3 he
   rw [w4];exact ⟨XR he _ _,rfl⟩)
  (by unfold X8;rw [Ji];rfl) (by unfold KT;rw [Ji];rfl)
 by_cases he3:e ≠ 0
 ·obtain ⟨e1,e2⟩:=h6 he3
  rw [e1,e2]
  exact ⟨e,Z,fun h=>(he3 h).elim,fun _=>⟨_,Z⟩⟩
 obtain ⟨e1,e2⟩:=h5 (Decidable.not_not.1 he3)
 rw [e1,e2]
 exact ⟨0,Z,fun _=>⟨_,Z⟩,fun h=>(h Z).elim⟩
end Go.Proofs.Ytafddfoefeploaa
namespace Go.Proofs.Ytafddfoefeploaa
open Go.RowKit Go.Shelf
theorem elim_some {r:Unit⊕Int} {e:Int} (h:(e=0→r=.inl ())∧(e ≠ 0→r=.inr e)):Sum.elim (fun (_:Unit)=>(0:Int)) (fun x=>x) r=e:=by
 by_cases he:e=0
 ·rw [h.1 he];exact he.symm
 ·rw [h.2 he];rfl
theorem tail_nil (env:List Dcl) (d:Dcl) (M O:Qo Bs Ent) (hd:d.size≤800000000) (hnd:(Jx d).Nodup) (hf:d.funs=[]):Gd d O env M=some 0:=by
 obtain ⟨M',h1,-⟩:=decl_book d env O hd hnd
 unfold Gd
 rw [h1]
 simp only [Option.bind_some]
 rw [ZK (r:=.inl ()) (by unfold Gb;rw [hf];rfl)]
 rfl
theorem k7_nil (env:List Dcl) (d:Dcl) (M:Qo Bs Ent) (hd:d.size≤800000000) (hnd:(Jx d).Nodup) (hf:d.funs=[]) (h3:d.kind ≠ 3):ZX d env M=some 0:=by
 unfold ZX
 rw [YC,decide_eq_false h3]
 simp only [cond_false,Option.bind_some,Sum.elim_inl]
 rw [ZK (r:=.inl ()) (by unfold ZV;rw [hf];rfl)]
 exact tail_nil env d M gmNil hd hnd hf
theorem k7_ind (env:List Dcl) (d:Dcl) (M:Qo Bs Ent) (hM:Bk env M) (he:YX env≤800000000) (hd:d.size≤800000000) (hnd:(Jx d).Nodup) (hf:d.funs=[]) (h3:d.kind=3) :
  ∃ e:Int,ZR false env d=some e∧ZX d env M=some e:=by
 obtain ⟨e,h1,h2,h4⟩:=ind_eq env d M hM he hd hnd h3
 unfold ZR ZX
 rw [YC,decide_eq_true h3]
 simp only [cond_true,cond_false]
 rw [h1]
 by_cases he0:e=0
 ·obtain ⟨O,h5⟩:=h2 he0
  rw [h5]
  simp only [Option.bind_some,Sum.elim_inl]
  rw [ZK (r:=.inl ()) (by unfold ZV;rw [hf];rfl)]
  exact ⟨e,rfl,by rw [he0];exact tail_nil env d M O hd hnd hf⟩
 ·obtain ⟨O,h5⟩:=h4 he0
  rw [h5]
  exact ⟨e,Z,Z⟩
theorem k7_fam (env:List Dcl) (d:Dcl) (M:Qo Bs Ent) (hM:Bk env M) (he:YX env≤800000000) (hd:d.size≤800000000) (hnd:(Jx d).Nodup) (h4:d.kind=4) :
  ∃ e:Int,ZR false env d=some e∧ZX d env M=some e:=by
 have hfl:=Zw d
 have hnl:=names_len d
 have e3:decide (d.kind=3)=false:=decide_eq_false (by rw [h4];decide)
 have e4:decide (d.kind=4)=true:=decide_eq_true h4
 unfold ZR ZX
 rw [YC,e3,YC,e4]
 simp only [cond_true,cond_false,Option.bind_some,Sum.elim_inl]
 obtain ⟨e,h1,h2⟩:=YS (β1:=Unit⊕Int) (β2:=Unit⊕Int) (step1:=Xu d env) (step2:=ZV d env M gmNil) d.funs (.inl ()) (.inl ()) .inr .inr (by omega) (fun a x b e=>by
  obtain ⟨q1,q2⟩:=Z4 e
  have hx:=fn_size (d:=d) (f:=x) (by rw [e];simp)
  obtain ⟨e',w1,w2,w3⟩:=Wi ⟨env,[],d⟩ M gmNil ⟨he,by simp,hd,hM,Ow.nil _ _⟩ x.ty 0 d.params (by omega)
  unfold Xu ZV
  rw [q1,q2]
  simp only [cond_true,Option.bind_some]
  rw [w1]
  refine ⟨e',fun he=>?_,fun he=>?_⟩
  ·have w4:=w2 he
   rw [w4];subst he;exact ⟨rfl,rfl⟩
  ·have w4:=w3 he
   rw [w4];exact ⟨XR he _ _,rfl⟩)
  (by unfold Xu;rw [Ji];rfl) (by unfold ZV;rw [Ji];rfl)
 by_cases he1:e ≠ 0
 ·obtain ⟨e1,e2⟩:=h2 he1
  rw [e1,e2];exact ⟨e,rfl,rfl⟩
 obtain ⟨e1,e2⟩:=h1 (Decidable.not_not.1 he1)
 rw [e1,e2]
 simp only [Option.bind_some,Sum.elim_inl]
 rw [m23_eq d (by omega),Option.bind_some]
 obtain ⟨O,h3,hO⟩:=decl_book d env gmNil hd hnd
 unfold Gd
 rw [h3]
 simp only [Option.bind_some]
 obtain ⟨e,h5,h6⟩:=YS (β1:=Unit⊕Int) (β2:=Unit⊕Int) (step1:=GD d env (Jx d)) (step2:=Gb d env M O) d.funs (.inl ()) (.inl ()) .inr .inr (by omega) (fun a x b e=>by
  obtain ⟨q1,q2⟩:=Z4 e
  have hx:=fn_size (d:=d) (f:=x) (by rw [e];simp)
  obtain ⟨e',w1,w2,w3⟩:=tree_eq ⟨env,Jx d,d⟩ M O ⟨he,by show (Jx d).length≤_;omega,hd,hM,hO.ow⟩ QU x.tree x.arity 0 (by unfold QU;omega) (by omega)
  have w1':m73 (⟨env,Jx d,d⟩:Rsc) x.tree x.arity 0=some e':=w1
  unfold GD Gb
  rw [q1,q2]
  simp only [cond_true,Option.bind_some]
  rw [w1']
  refine ⟨e',fun he=>?_,fun he=>?_⟩
  ·have w4:m48f11 x.tree x.arity 0 d.params env M O=some (.inl ()):=w2 he
   rw [w4];subst he;exact ⟨rfl,rfl⟩
  ·have w4:m48f11 x.tree x.arity 0 d.params env M O=some (.inr e'):=w3 he
   rw [w4];exact ⟨XR he _ _,rfl⟩)
  (by unfold GD;rw [Ji];rfl) (by unfold Gb;rw [Ji];rfl)
 by_cases he2:e=0
 ·obtain ⟨e1,e2⟩:=h5 he2
  rw [e1,e2];exact ⟨0,rfl,rfl⟩
 ·obtain ⟨e1,e2⟩:=h6 he2
  rw [e1,e2];exact ⟨e,rfl,rfl⟩
theorem used_funs {d:Dcl} (h:U4 d=true) (h4:d.kind ≠ 4):d.funs=[]:=by
 unfold U4 at h
 rw [Bool.and_eq_true,Bool.and_eq_true,Bool.and_eq_true] at h
 have h1:=h.1.1.2
 rw [YC,decide_eq_false h4,Bool.false_or] at h1
 have h2:(d.funs.length:Int)=0:=eq_of_beq h1
 exact List.length_eq_zero_iff.1 (by omega)
noncomputable def bodyP (d:Dcl) (env:List Dcl) (M:Qo Bs Ent):Option Int :=
 Option.bind (cond (d.kind != 4) (Option.bind (Gq d.ty 0 d.params env M gmNil) (Sum.elim (fun (x10:Unit)=>some (.inl ())) (fun (x11:Int)=>some (.inr x11)))) (some (.inl ())))
  (Sum.elim (fun (v7:Unit)=>Option.bind (cond (d.kind==1) (some true) (some (d.kind==2))) (fun (v8:Bool)=>ZW v8 d env M)) (fun o=>some o))
theorem body_eq (env:List Dcl) (d:Dcl) (M:Qo Bs Ent) (hM:Bk env M) (he:YX env≤800000000) (hd:d.size≤800000000) (hnd:(Jx d).Nodup) (h0:0≤d.kind) (h4:d.kind≤4) (hu:U4 d=true) :
  ∃ e:Int,m53 env d=some e∧bodyP d env M=some e:=by
 have hS:Sok ⟨env,[],d⟩ M gmNil:=⟨he,by simp,hd,hM,Ow.nil _ _⟩
 have hty:=ty_size d
 have hva:=value_size d
 have rest:∃ e:Int,Option.bind (cond (d.kind==1) (some (d.kind==1)) (some (d.kind==2))) (fun (v4:Bool)=>ZR v4 env d)=some e∧Option.bind (cond (d.kind==1) (some true) (some (d.kind==2))) (fun (v8:Bool)=>ZW v8 d env M)=some e:=by
  have e1:(cond (d.kind==1) (some (d.kind==1)) (some (d.kind==2)))=some (decide (d.kind=1∨d.kind=2)):=by
   rw [YC,YC]
   by_cases c1:d.kind=1
   ·rw [decide_eq_true c1,decide_eq_true (Or.inl c1)];rfl
   ·rw [decide_eq_false c1]
    show some (decide (d.kind=2))=_
    congr 2
    rw [eq_iff_iff]
    exact ⟨.inr,fun h=>h.resolve_left c1⟩
  have e2:(cond (d.kind==1) (some true) (some (d.kind==2)))=some (decide (d.kind=1∨d.kind=2)):=by
   rw [← e1]
   cases h:(d.kind==1) <;> rfl
  rw [e1,e2]
  show ∃ e:Int,ZR (decide (d.kind=1∨d.kind=2)) env d=some e∧ZW (decide (d.kind=1∨d.kind=2)) d env M=some e
  by_cases c:d.kind=1∨d.kind=2
  ·rw [decide_eq_true c]
   have hf:=used_funs hu (by omega)
   obtain ⟨e,w1,w2,w3⟩:=Wi ⟨env,[],d⟩ M gmNil hS d.value 0 d.params (by omega)
   unfold ZR ZW
   simp only [cond_true]
   rw [w1]
   by_cases he0:e=0
   ·have w4:=w2 he0
    rw [w4]
    simp only [Option.bind_some,Sum.elim_inl]
    rw [k7_nil env d M hd hnd hf (by omega)]
    exact ⟨e,rfl,by rw [he0]⟩
   ·have w4:=w3 he0
    rw [w4];exact ⟨e,rfl,rfl⟩
  ·rw [decide_eq_false c]
   unfold ZW
   simp only [cond_false,Option.bind_some,Sum.elim_inl]
   by_cases c3:d.kind=3
   ·exact k7_ind env d M hM he hd hnd (used_funs hu (by omega)) c3
   ·by_cases c4:d.kind=4
    ·exact k7_fam env d M hM he hd hnd c4
    ·rw [k7_nil env d M hd hnd (used_funs hu c4) c3]
     unfold ZR
     rw [YC,decide_eq_false c3,YC,decide_eq_false c4]
     exact ⟨0,Z,Z⟩
 unfold m53 bodyP
 by_cases c4:d.kind=4
 ·rw [show (d.kind != 4)=false from by rw [c4];rfl]
  exact rest
 ·rw [show (d.kind != 4)=true from bne_iff_ne.2 c4]
  simp only [cond_true]
  obtain ⟨e,w1,w2,w3⟩:=Wi ⟨env,[],d⟩ M gmNil hS d.ty 0 d.params (by omega)
  rw [w1]
  by_cases he0:e=0
  ·have w4:=w2 he0
   rw [w4];subst he0;exact rest
  ·have w4:=w3 he0
   rw [w4]
   simp only [Option.bind_some,UF he0,cond_true]
   exact ⟨e,Z,Z⟩
theorem dcl_eq (env:List Dcl) (d:Dcl) (M:Qo Bs Ent) (hM:Bk env M) (he:YX env≤800000000) (hd:d.size≤800000000) (hr:U2 d.rcr.params) :
  ∃ e:Int,DM env d=some e∧WF d env M=some e∧(e=0→NmOk env d):=by
 unfold DM
 by_cases c1:d.kind < 0
 ·have:WF d env M=some 1:=by unfold WF U7;rw [decide_eq_false (show ¬ 0≤d.kind by omega)];rfl
  rw [decide_eq_true c1,this]
  exact ⟨1,rfl,rfl,fun h=>by omega⟩
 rw [decide_eq_false c1]
 by_cases c2:4 < d.kind
 ·have:WF d env M=some 1:=by unfold WF U7;rw [decide_eq_true (show 0≤d.kind by omega),decide_eq_false (show ¬ d.kind≤4 by omega)];rfl
  rw [decide_eq_true c2,this]
  exact ⟨1,rfl,rfl,fun h=>by omega⟩
 rw [decide_eq_false c2]
 show ∃ e:Int,Up false d env=some e∧_
 unfold Up WF
 rw [m44_used d (by omega) (by omega),m50_eq d (by omega) (by omega)]
 cases hu:U4 d with
 | false=>exact ⟨3,rfl,rfl,fun h=>by omega⟩
 | true =>
  simp only [cond_false,cond_true,Option.bind_some,Bool.not_true]
  obtain ⟨e,h1,h2,h3⟩:=k4_eq d (by omega) hr
  rw [h1]
  by_cases he0:e ≠ 0
  ·rw [h3 he0]
   simp only [Option.bind_some,UF he0,cond_true]
   exact ⟨e,Z,Z,fun h=>(he0 h).elim⟩
  have he0':=Decidable.not_not.1 he0
  rw [h2 he0']
  subst he0'
  obtain ⟨e,h4,⟨h5,h6⟩,h7⟩:=names_ok env d M hM he hd
  show ∃ e:Int,Option.bind (m52 env d) _=some e∧Option.bind (UJ d env M) _=some e∧_
  rw [h4]
  by_cases he1:e ≠ 0
  ·rw [h6 he1]
   simp only [Option.bind_some,UF he1,cond_true]
   exact ⟨e,Z,Z,fun h=>(he1 h).elim⟩
  have he1':=Decidable.not_not.1 he1
  rw [h5 he1']
  subst he1'
  have h8:=h7 rfl
  obtain ⟨e,h10,h11⟩:=body_eq env d M hM he hd h8.1 (by omega) (by omega) hu
  show ∃ e:Int,Option.bind (m53 env d) _=some e∧bodyP d env M=some e∧_
  rw [h10,h11]
  exact ⟨e,Z,Z,fun _=>h8⟩
theorem envSz_app (a b:List Dcl):YX (a++b)=YX a+YX b:=by unfold YX;rw [List.map_append,List.sum_append]
def OkD (a:List Dcl) (x:Dcl):Prop:=DM a x=some 0∧NmOk a x
def Good (l:List Dcl):Prop:=∀ a x b,l=a++x::b→OkD a x
theorem snoc_split {α:Type} {a a' b':List α} {x y:α} (h:a++[x]=a'++y::b'):(a'=a∧y=x)∨∃ c,a=a'++y::c:=by
 rcases List.append_eq_append_iff.1 h with ⟨c,h1,h2⟩ | ⟨c,h1,h2⟩
 ·cases c with
  | nil =>
   rw [List.nil_append] at h2
   cases h2
   rw [List.append_nil] at h1
   exact .inl ⟨h1,Z⟩
  | cons z c =>
   exfalso
   have:=congrArg List.length h2
   simp at this
 ·cases c with
  | nil =>
   rw [List.nil_append] at h2
   cases h2
   rw [List.append_nil] at h1
   exact .inl ⟨h1.symm,Z⟩
  | cons z c =>
   rw [List.cons_append] at h2
   cases h2
   exact .inr ⟨c,h1⟩
theorem Good.nil:Good []:=fun a x b h=>by cases a <;> cases h
theorem Good.snoc {a:List Dcl} {x:Dcl} (h:Good a) (hx:OkD a x):Good (a++[x]):=fun a' y b' e=>by
 rcases snoc_split e with ⟨rfl,rfl⟩ | ⟨c,e⟩
 ·exact hx
 ·exact h a' y c e
theorem check_is (env:List Dcl) (he:YX env≤800000000) (hr:∀ d∈env,U2 d.rcr.params):∃ r,DV env=some r∧DU env=some r ∧
  (env.length≤1000→(r=(0,0)∧Good env)∨∃ a x b e,env=a++x::b∧Good a∧DM a x=some e∧e ≠ 0∧r=((a.length:Int),e)):=by
 have hl:=env_len env
 unfold DV DU
 by_cases hc:1000 < (env.length:Int)
 ·rw [decide_eq_true hc];exact ⟨_,rfl,rfl,fun h=>by omega⟩
 ·rw [decide_eq_false hc]
  simp only [cond_false]
  obtain ⟨r1,r2,h1,h2,h3⟩:=loop2 (β1:=Unit⊕(Int×Int)) (β2:=((Qo Bs Ent)×(List Dcl))⊕(Int×Int)) (step1:=Wt env) (step2:=Wu env) env (fun i (_:Unit)=>i) (fun i (s:(Qo Bs Ent)×(List Dcl))=>(i,s.1,s.2))
   (fun a _ s=>Bk a s.1∧Good a) (fun r1 r2=>(r1=.inl ()∧(∃ s,r2=.inl s)∧Good env)∨∃ a x b e,env=a++x::b∧Good a∧DM a x=some e∧e ≠ 0∧r1=.inr ((a.length:Int),e)∧r2=.inr ((a.length:Int),e)) (by omega)
   (fun a x b _ s e hI=>by
    obtain ⟨q1,q2⟩:=Z4 e
    have hm:=Xn e
    have hsz:YX a+x.size≤800000000:=by
     rw [e,envSz_app] at he
     have:YX (x::b)=x.size+YX b:=rfl
     omega
    obtain ⟨ec,w1,w2,w3⟩:=dcl_eq a x s.1 hI.1 (by omega) (by omega) (hr x (by rw [e];simp))
    have g1:∀ {α:Type} (o:Option α),Jy (cond (decide ((0:Int)≤(a.length:Int))) (Nat.ble ((a.length:Int)).toNat env.length) false) o=o:=fun o=>by
     rw [decide_eq_true (show (0:Int)≤(a.length:Int) by omega),cond_true]
     show Jy (Nat.ble a.length env.length) o=o
     rw [Yo (by omega)]
    have g2:env.take ((a.length:Int)).toNat=a:=take_mid e
    unfold Wt Wu
    dsimp only
    rw [q1,q2,g2]
    simp only [cond_true,Option.bind_some]
    rw [g1,g1,w1,w2]
    by_cases he0:ec=0
    ·have hok:=w3 he0
     obtain ⟨M',n1,n2⟩:=decl_next x a s.1 s.2 (by omega) hok.1
     subst he0
     simp only [Option.bind_some]
     refine .inr ⟨(),(M',a),Z,?_,hI.1.next n2 hok.2.1,hI.2.snoc ⟨w1,hok⟩⟩
     show Option.bind (Option.bind (cond (x.kind==0) (some (x.kind==0)) (cond (x.kind==1) (some (x.kind==1)) (some (x.kind==2)))) (fun (v12:Bool)=>Uv v12 x ((a.length:Int),s.1,s.2))) _=_
     rw [n1];rfl
    ·simp only [Option.bind_some,UF he0,cond_true]
     exact .inl ⟨_,_,Z,Z,.inr ⟨a,x,b,ec,e,hI.2,w1,he0,Z,Z⟩⟩)
   (fun _ s hI=>⟨.inl (),.inl s,by unfold Wt;rw [Ji];rfl,by unfold Wu;dsimp only;rw [Ji];rfl,.inl ⟨rfl,⟨s,rfl⟩,hI.2⟩⟩) () (gmNil,[]) ⟨fun n=>rfl,Good.nil⟩
  have h1':QE (Wt env) QU 0=some r1:=h1
  have h2':QE (Wu env) QU (0,gmNil,([]:List Dcl))=some r2:=h2
  rw [h1',h2']
  rcases h3 with ⟨rfl,⟨s,rfl⟩,h3⟩ | ⟨a,x,b,e,h4,h5,h6,h7,rfl,rfl⟩
  ·exact ⟨_,rfl,rfl,fun _=>.inl ⟨rfl,h3⟩⟩
  ·exact ⟨_,rfl,rfl,fun _=>.inr ⟨a,x,b,e,h4,h5,h6,h7,rfl⟩⟩
theorem check_eq (env:List Dcl) (he:YX env≤800000000) (hr:∀ d∈env,U2 d.rcr.params):∃ r,DV env=some r∧DU env=some r :=
 let ⟨r,h1,h2,_⟩:=check_is env he hr
 ⟨r,h1,h2⟩
end Go.Proofs.Ytafddfoefeploaa
namespace Go.Proofs.Ytafddfoefeploaa
open Go.RowKit Go.Shelf
theorem Ka {α:Type} {step:Int→Option (LO Int (Unit⊕Bool))} (l:List α) (h:l.length≤900000000)
  (hin:∀ (a:List α) (x:α) (c:List α),l=a++x::c→step (a.length:Int)=some (.next (Ja ((a.length:Int)+1)))) (hout:step (l.length:Int)=some (.done (.inl ()))):QE step QU 0=some (.inl ()):=by
 obtain ⟨r,e,rfl⟩:=YG (step:=step) l (fun i (s:Unit)=>i) (fun _ _=>True) (fun r=>r=.inl ()) h
  (fun a x c s e _=>.inr ⟨(),hin a x c e,trivial⟩) (fun s _=>⟨_,hout,rfl⟩) () trivial
 exact e
theorem Zz (a:Int):(a != a)=false:=by simp
theorem Kv (a:Int):(a==a)=true:=by simp
theorem XO (a:Bs):(a==a)=true:=by simp
theorem eq_selfb (a:Bool):(a==a)=true:=by simp
theorem m61_self (l:Lvl) (h:lvz l≤900000000):m61 l l=some true:=by
 have hl:=ZY (fun _:LV=>1) (fun _=>Nat.le_refl _) l.vs
 unfold lvz at h
 unfold m61
 rw [Zz,Zz]
 simp only [cond_false,Option.bind_some]
 rw [Ka l.vs (by omega)]
 ·rfl
 ·intro a x c e
  unfold WT
  rw [e,Y4,JK]
  simp only [cond_true,Option.bind_some,Kv,Bool.and_self,Bool.not_true,cond_false]
 ·unfold WT;rw [Ji];rfl
theorem m42_self (ls:List Lvl) (h:(ls.map lvz).sum≤900000000):DK ls ls=some true:=by
 have hl:=ZY lvz (fun _=>by unfold lvz;omega) ls
 unfold DK
 rw [Zz]
 simp only [cond_false]
 rw [Ka ls (by omega)]
 ·rfl
 ·intro a x c e
  have hx:=Z9 lvz (show x∈ls by rw [e];simp)
  unfold WW
  rw [e,Y4,JK]
  simp only [cond_true,Option.bind_some]
  rw [m61_self x (by omega)]
  rfl
 ·unfold WW;rw [Ji];rfl
theorem m27_selfN:∀ (n:Nat) (t:Tm),t.size≤n→t.size≤900000000→JR m27F n (t,t)=some true
 | 0,t,h,_=>by rw [t.size_eq] at h;omega
 | n+1,t,h,hs=>by
  have hl:=GY t
  have he:=t.size_eq
  show D7 (JR m27F n) t t=some true
  unfold D7
  rw [Zz,Zz,Zz,XO,m42_self t.levels (by omega)]
  simp only [cond_false,Option.bind_some,Bool.not_true]
  rw [Ka t.kids (by omega)]
  ·rfl
  ·intro a x c e
   have hx:=YR (t:=t) (k:=x) (by rw [e];simp)
   unfold Xc
   rw [show JP t.kids (a.length:Int)=some x from by rw [e,JK],show decide ((a.length:Int) < (t.kids.length:Int))=true from by rw [e,Y4]]
   simp only [cond_true,Option.bind_some]
   rw [m27_selfN n x (by omega) (by omega)]
   rfl
  ·unfold Xc;rw [Ji];rfl
theorem Kr (t:Tm) (h:t.size≤900000000):D8 t t=some true:=m27_selfN QU t (by unfold QU;omega) h
theorem m54_self (l:List Tm) (h:(l.map Tm.size).sum≤900000000):m54 l l=some true:=by
 have hl:=ZY Tm.size (fun t=>by rw [t.size_eq];omega) l
 unfold m54
 rw [Zz]
 simp only [cond_false]
 rw [Ka l (by omega)]
 ·rfl
 ·intro a x c e
  have hx:=Z9 Tm.size (show x∈l by rw [e];simp)
  unfold Ul
  rw [e,Y4,JK]
  simp only [cond_true,Option.bind_some]
  rw [Kr x (by omega)]
  rfl
 ·unfold Ul;rw [Ji];rfl
theorem m35_self (r:Rcr) (h1:r.ty.size≤900000000) (h2:(r.rules.map Tm.size).sum≤900000000):m35 r r=some true:=by
 unfold m35
 rw [Kv,Kr r.ty h1,m54_self r.rules h2]
 rfl
theorem m36_selfN:∀ (n:Nat) (t:Tr),t.size≤n→t.size≤900000000→JR m36F n (t,t)=some true
 | 0,t,h,_=>by rw [t.size_eq] at h;omega
 | n+1,t,h,hs=>by
  have hl:=branches_len t
  have he:=t.size_eq
  show D6 (JR m36F n) t t=some true
  unfold D6
  rw [Zz,Zz,Zz,Kr t.body (by omega)]
  simp only [cond_false,Option.bind_some,Bool.not_true]
  rw [Ka t.branches (by omega)]
  ·rfl
  ·intro a x c e
   have hx:=Tr.kid_size (t:=t) (b:=x) (by rw [e];simp)
   unfold Xb
   rw [show JP t.branches (a.length:Int)=some x from by rw [e,JK],show decide ((a.length:Int) < (t.branches.length:Int))=true from by rw [e,Y4]]
   simp only [cond_true,Option.bind_some,XO,eq_selfb,Bool.not_true,cond_false]
   rw [m36_selfN n x.tree (by omega) (by omega)]
   rfl
  ·unfold Xb;rw [Ji];rfl
theorem m36_self (t:Tr) (h:t.size≤900000000):DS t t=some true:=m36_selfN QU t (by unfold QU;omega) h
theorem m19_self (d:Dcl) (h:d.size≤900000000):m19 d d=some true:=by
 have hc:=YM d
 have hf:=Zw d
 have hs:d.size=1+d.name.length+d.ty.size+d.value.size+(d.ctors.map csz).sum+d.rcr.ty.size+(d.rcr.rules.map Tm.size).sum+(d.funs.map fsz).sum:=rfl
 unfold m19
 simp only [Zz,XO,Bool.not_true,cond_false]
 rw [Kr d.ty (by omega),Kr d.value (by omega),m35_self d.rcr (by omega) (by omega)]
 simp only [Option.bind_some,Bool.not_true,cond_false]
 rw [Ka d.ctors (by omega),Ka d.funs (by omega)]
 ·rfl
 ·intro a x c e
  have hx:=Z9 fsz (show x∈d.funs by rw [e];simp)
  have hx2:fsz x=1+x.name.length+x.ty.size+x.tree.size:=rfl
  unfold XD
  rw [show JP d.funs (a.length:Int)=some x from by rw [e,JK],show decide ((a.length:Int) < (d.funs.length:Int))=true from by rw [e,Y4]]
  simp only [cond_true,Option.bind_some,XO,Zz,Bool.not_true,cond_false]
  rw [Kr x.ty (by omega),m36_self x.tree (by omega)]
  rfl
 ·unfold XD;rw [Ji];rfl
 ·intro a x c e
  have hx:=Z9 csz (show x∈d.ctors by rw [e];simp)
  have hx2:csz x=1+x.name.length+x.ty.size:=rfl
  unfold Wr
  rw [show JP d.ctors (a.length:Int)=some x from by rw [e,JK],show decide ((a.length:Int) < (d.ctors.length:Int))=true from by rw [e,Y4]]
  simp only [cond_true,Option.bind_some,XO,Bool.not_true,cond_false]
  rw [Kr x.ty (by omega)]
  rfl
 ·unfold Wr;rw [Ji];rfl
end Go.Proofs.Ytafddfoefeploaa
namespace Go.Proofs.Ytafddfoefeploaa
open Go.RowKit
section
variable {E:Env} {st:St} {d:Option Tmp} {ty:TypeId} {pos:String} {af:Array Edge} {g:Option (Nat×Bool)}
theorem OpOK.data4E {α:Type} [Enc α] (v1 v2 v3 v4:α) {t e:Nat} {zs:List Value} {o1 o2 o3 o4:Operand} {x1 x2 x3 x4:AV} {ys:List CA} (ht:JD E.P t=some (e,Enc.sz α)) (hze:JQ E.P e=some zs) (hzl:zs.length=Enc.sz α) (hz:zs.all (·.oneCell')=true) (hlen:4 * Enc.sz α≤16777216)
  (h1:ev st.tm o1=some (.v x1)) (h2:ev st.tm o2=some (.v x2)) (h3:ev st.tm o3=some (.v x3)) (h4:ev st.tm o4=some (.v x4)) (hf:Zr (Y3 (Enc.sz α) 4) (Ya zs 4) [(0,x1),(1,x2),(2,x3),(3,x4)]=some ys) (hs:CSubs ys (Enc.enc v1++(Enc.enc v2++(Enc.enc v3++(Enc.enc v4))))) (hel:(Enc.enc v1).length=Enc.sz α∧(Enc.enc v2).length=Enc.sz α∧(Enc.enc v3).length=Enc.sz α∧(Enc.enc v4).length=Enc.sz α) :
  OpOK E ⟨d,.buildSlice t 4 #[(0,o1),(1,o2),(2,o3),(3,o4)],ty,pos,af,g⟩ st (.v (.one (.d (.sl (Enc.sz α) (Enc.encL [v1,v2,v3,v4]))))) ⟨st.hp,st.tk,st.nx⟩ :=
 OpOK.litData (avs:=[(0,x1),(1,x2),(2,x3),(3,x4)]) (Enc.encL [v1,v2,v3,v4]) ht hze hzl hz hlen rfl (fun j i x hx=>by
  match j,hx with
  | 0,hx=>cases hx;exact ⟨o1,rfl,h1⟩
  | 1,hx=>cases hx;exact ⟨o2,rfl,h2⟩
  | 2,hx=>cases hx;exact ⟨o3,rfl,h3⟩
  | 3,hx=>cases hx;exact ⟨o4,rfl,h4⟩) hf (by rw [Enc.cons,Enc.cons,Enc.cons,Enc.one];simpa using hs) (fun x hx=>by
   rw [Enc.cons,Enc.cons,Enc.cons,Enc.one] at hx;simp at hx
   rcases hx with rfl | rfl | rfl | rfl
   ·exact hel.1
   ·exact hel.2.1
   ·exact hel.2.2.1
   ·exact hel.2.2.2) (by rw [Enc.len];rfl)
end
end Go.Proofs.Ytafddfoefeploaa
namespace Go.Proofs.Ytafddfoefeploaa
open Go.RowKit Go.Shelf
theorem bd_42:Y9 Try.prog 42 [(0,1),(1,5),(6,1)] [.int .i64 0,.int .i64 0,.int .i64 0,.string ByteArray.empty,.slice none 0 0,.slice none 0 0,.slice none 0 0]:=⟨by kernel_rfl,by kernel_rfl⟩
theorem bd_71:Y9 Try.prog 71 [(0,1),(1,5)] [.string ByteArray.empty,.int .i64 0,.int .i64 0,.string ByteArray.empty,.slice none 0 0,.slice none 0 0]:=⟨by kernel_rfl,by kernel_rfl⟩
theorem bd_87:Y9 Try.prog 87 [(0,1),(1,1)] [.int .i64 0,.slice none 0 0]:=⟨by kernel_rfl,by kernel_rfl⟩
theorem en_10:QY Try.prog 10:=enters_of Try.func10 (by kernel_rfl) rfl
theorem en_26:QY Try.prog 26:=enters_of Try.func26 (by kernel_rfl) rfl
theorem en_28:QY Try.prog 28:=enters_of Try.func28 (by kernel_rfl) rfl
theorem en_29:QY Try.prog 29:=enters_of Try.func29 (by kernel_rfl) rfl
def m29 (a0:Bs):Option Tm :=
 some (Tm.mk 3 0 a0 ([]:List Lvl) ([]:List Tm))
theorem m29_ok (a0:Bs) (r:Tm) (h0:m29 a0=some r):Fun Try.prog 29 [.one (J6 a0)] (QM [.agg (cE r)]):=by
 unfold m29 at h0
 refine QB 9 5 Try.func29 Z en_29 Z (lb Z) (fun S w=>?_)
 simp only [J3]
 refine Q4<|Q0<|Qb Z Z (lb Z) (Qv G1 Z)<|Q5<|Q3<|Q4<|Q0<|rM Z Z Z<|rR Z Z Z (Jt UZ Z Z Z Z)<|QC Z Z (Qz QR Z Z Z Z (lb Z) Z)<|Q5<|Q3<|Qp ?_
 have e:=sI h0;subst e
 exact Qn (fun _ _ h=>h) Z (JZ QR Z Z Z Z .nil) (.cons (.agg (.cons (.d _) (.cons (.d _) (.cons (.d _) (.cons (.nil _) (.cons (.nil _) .nil)))))) .nil)
def m28 (a0:Tm) (a1:Tm):Option Tm :=
 some (Tm.mk 6 0 ([]:List UInt8) ([]:List Lvl) [a0,a1])
theorem m28_ok (a0:Tm) (a1:Tm) (r:Tm) (h0:m28 a0 a1=some r):Fun Try.prog 28 [.agg (cE a0),.agg (cE a1)] (QM [.agg (cE r)]):=by
 unfold m28 at h0
 refine QB 9 9 Try.func28 Z en_28 Z (lb Z) (fun S w=>?_)
 simp only [J3]
 refine Q4<|Q0<|Qb Z Z (lb Z) (QN Z)<|Qb Z Z (lb Z) (QN Z)<|Qb Z Z (lb Z) (Qv G1 Z)<|Q5<|Q3<|Q4<|Q0<|rR Z Z Z (QH (a0:Tm) QR Z Z)<|rR Z Z Z (QH (a1:Tm) QR Z Z)<|Qb Z Z (lb Z) (OpOK.lit2E (α:=Tm) a0 a1 Jk G1 Z Z (lb Z) (lb Z) Z Z Z (.cons (.d _) (.cons (.d _) (.cons (.d _) (.cons (.d _) (.cons (.d _) (.cons (.d _) (.cons (.d _) (.cons (.d _) (.cons (.d _) (.cons (.d _) .nil)))))))))) ⟨Z,Z⟩)<|rR Z Z Z (Jt UZ Z Z Z Z)<|QC Z Z (Qz QR Z Z Z Z (lb Z) Z) ?_
 refine Q5<|Q3<|Qp ?_
 have e:=sI h0;subst e
 exact Qn (fun _ _ h=>h) Z (JZ QR Z Z Z Z .nil) (.cons (.agg (.cons (.d _) (.cons (.d _) (.cons (.d _) (.cons (.nil _) (.cons (.app _ _ _) .nil)))))) .nil)
noncomputable abbrev m26_h0 (p0_:Tm) (p1_:Tm):HB :=
 .cells 45 [dI 3,J6 ([78,97,116]:List UInt8),dI 0,dI 2,dI 0,J6 ([]:List UInt8),dA 2 ([(⟨0,([]:List LV)⟩:Lvl)]:List Lvl),dN,dI 0,dI 0,J6 ([]:List UInt8),dN,dN,dI 0,dS ([(⟨([78,97,116,46,122,101,114,111]:List UInt8),p0_⟩:Ctr),(⟨([78,97,116,46,115,117,99,99]:List UInt8),p1_⟩:Ctr)]:List Ctr),dI 1,dI p0_.kind,dI p0_.index,J6 p0_.name,dS p0_.levels,dS p0_.kids,dS ([p0_,p0_]:List Tm),dN]
noncomputable abbrev m26_h1 :HB :=
 .cells 33 [dI 2,dI 0,J6 ([]:List UInt8),dA 2 ([(⟨0,([]:List LV)⟩:Lvl)]:List Lvl),dN]
def m26 :Option Dcl :=
 Option.bind (m29 ([78,97,116]:List UInt8)) fun (x1:Tm) =>
 Option.bind (m28 x1 x1) fun (x2:Tm) =>
 some (⟨3,([78,97,116]:List UInt8),0,(Tm.mk 2 0 ([]:List UInt8) [(⟨0,([]:List LV)⟩:Lvl)] ([]:List Tm)),(Tm.mk 0 0 ([]:List UInt8) ([]:List Lvl) ([]:List Tm)),0,[(⟨([78,97,116,46,122,101,114,111]:List UInt8),x1⟩:Ctr),(⟨([78,97,116,46,115,117,99,99]:List UInt8),x2⟩:Ctr)],(⟨1,x1,[x1,x1]⟩:Rcr),([]:List Fn)⟩:Dcl)
theorem m26_ok  (r:Dcl) (h0:m26 =some r):Fun Try.prog 26 [] (QM [.agg (cE r)]):=by
 unfold m26 at h0
 refine QB 9 21 Try.func26 Z en_26 Z (lb Z) (fun S w=>?_)
 simp only [J3]
 refine Q4<|Q0<|Qb Z Z (lb Z) (Qv WK Z)<|Q5<|Q3<|Q4<|Q0 ?_
 refine Qd h0 (fun x1 hx1 h0=>?_)
 refine Qb Z Z (lb Z) (Qh (m29_ok ([78,97,116]:List UInt8) x1 hx1) Z (.cons (.one (.d _)) .nil))<|Qb Z Z (lb Z) (Qv G1 Z)<|QC Z Z (QA (x1:Tm) QR Z Z Z Z Z)<|Q5<|Q3<|Q4<|Q0<|rR Z Z Z (Zi bd_87 Z )<|Qb Z Z (lb Z) (JW (α:=Lvl) ((⟨0,([]:List LV)⟩:Lvl)) YV Dk Z Z (lb Z) (lb Z) Z Z (.cons (.d _) (.cons (.nil _) .nil)) Z)<|rR Z Z Z (Jt UZ Z Z Z Z)<|Qb Z Z (lb Z) (Qv G1 Z)<|QC Z Z (Qz QR Z Z Z Z (lb Z) Z)<|Q5<|Q3 ?_
 refine Q4 ?_
 refine J4 [14] [] JV (by kernel_rfl) (by kernel_rfl) (by kernel_rfl) ?_
 refine RunA.rd Z Z Z (Q1 (Qi QR Z Z Z Z)) Z<|RunA.rd Z Z Z (Q1 (QH (x1:Tm) QR Z Z)) Z<|RunA.rd Z Z Z (Q1 (Jt bd_71 Z Z Z Z)) Z<|RunA.rd Z Z Z (Q1 (QH (x1:Tm) QR Z Z)) Z<|RunA.rd Z Z Z (Q1 (QH (x1:Tm) QR Z Z)) Z ?_
 refine Qd h0 (fun x2 hx2 h0=>?_)
 refine RunA.rd Z Z Z (Qh (m28_ok x1 x1 x2 hx2) Z (.cons (.agg (.cons (.d _) (.cons (.d _) (.cons (.d _) (.cons (.d _) (.cons (.d _) .nil)))))) (.cons (.agg (.cons (.d _) (.cons (.d _) (.cons (.d _) (.cons (.d _) (.cons (.d _) .nil)))))) .nil))) Z<|RunA.rd Z Z Z (Q1 (Jt bd_71 Z Z Z Z)) Z<|RunA.rd Z Z Z (OpOK.data2E (α:=Ctr) (⟨([78,97,116,46,122,101,114,111]:List UInt8),x1⟩:Ctr) (⟨([78,97,116,46,115,117,99,99]:List UInt8),x2⟩:Ctr) JX UN Z Z (lb Z) Z Z Z (.cons (.d _) (.cons (.d _) (.cons (.d _) (.cons (.d _) (.cons (.d _) (.cons (.d _) (.cons (.d _) (.cons (.d _) (.cons (.d _) (.cons (.d _) (.cons (.d _) (.cons (.d _) .nil)))))))))))) ⟨Z,Z⟩) Z<|RunA.rd Z Z Z (Q1 (QH (x1:Tm) QR Z Z)) Z<|RunA.rd Z Z Z (Q1 (QH (x1:Tm) QR Z Z)) Z<|RunA.rd Z Z Z (Q1 (QH (x1:Tm) QR Z Z)) Z<|RunA.rd Z Z Z (OpOK.data2E (α:=Tm) x1 x1 Jk G1 Z Z (lb Z) Z Z Z (.cons (.d _) (.cons (.d _) (.cons (.d _) (.cons (.d _) (.cons (.d _) (.cons (.d _) (.cons (.d _) (.cons (.d _) (.cons (.d _) (.cons (.d _) .nil)))))))))) ⟨Z,Z⟩) Z<|RunA.rd Z Z Z (Q1 (ZN bd_42 Z Z Z Z Z)) Z<|RunA.rd Z Z Z (Q1 (Y1 UY Z (.cons Z (.cons Z (.cons Z (.cons Z (.cons Z .nil))))) Z)) Z<|RunA.eff Z Z Z (YT Jq Z Z Z Z Z Z) Z ?_
 refine RunA.nil ⟨?ex,_,_,Z,?_⟩
 case ex=>exact trivial
 refine Jp (st':=⟨[(0,.v (.one (.ptr 0 0)))],[(0,m26_h0 x1 x2),(1,.cells 33 (cE x1)),(3,m26_h1)],[(2,some ⟨87,2,(Enc.encL ([(⟨0,([]:List LV)⟩:Lvl)]:List Lvl)).length,[]⟩)],4,21,[]⟩) (sL (Nat.zero_le _) Z Z Z Z Z)<|Q3<|Qp ?_
 have e:=sI h0;subst e
 exact Qn (fun _ _ h=>h) Z (JZ Jq Z Z Z Z .nil) (.cons (.agg (.cons (.d _) (.cons (.d _) (.cons (.d _) (.cons (.d _) (.cons (.d _) (.cons (.d _) (.cons (.app _ _ _) (.cons (.nil _) (.cons (.d _) (.cons (.d _) (.cons (.d _) (.cons (.nil _) (.cons (.nil _) (.cons (.d _) (.cons (.d _) (.cons (.d _) (.cons (.d _) (.cons (.d _) (.cons (.d _) (.cons (.d _) (.cons (.d _) (.cons (.d _) (.cons (.nil _) .nil)))))))))))))))))))))))) .nil)
noncomputable abbrev m10_h0 (p0_:Dcl) (p1_:Ent×Int) (p2_:Dcl×Int×Bool):List (Nat×HB) :=
 [(0,.cells 45 (cE p0_)),(4,.cells 35 (cE p1_.1)),(6,.cells 45 (cE p2_.1))]
noncomputable def m10 :Option Bool :=
 Option.bind (m26 ) fun (x1:Dcl) =>
 Option.bind (m20 x1) fun (x2:(List Bs)) =>
 Option.bind (DV ([x1])) fun (x3:Int×Int) =>
 Option.bind (DV ([x1,x1])) fun (x4:Int×Int) =>
 Option.bind (DT ([x1]) ([78,97,116,46,115,117,99,99]:List UInt8)) fun (x5:Ent×Int) =>
 Option.bind (DN ([x1]) ([78,97,116,46,114,101,99]:List UInt8)) fun (x6:Dcl×Int×Bool) =>
 Option.bind (Option.bind (m22 x2 ([([78,97,116]:List UInt8),([78,97,116,46,122,101,114,111]:List UInt8),([78,97,116,46,115,117,99,99]:List UInt8),([78,97,116,46,114,101,99]:List UInt8)])) fun (x8:Bool) =>
 cond x8
   (cond (x3.2==0)
   (cond (x4.1==1)
   (cond (x4.2==8)
   (cond (x5.2==0)
   (cond (x5.1.kind==4)
   (cond (x5.1.decl==0)
   (cond (x5.1.item==1)
   (cond (x5.1.params==0)
   (Option.bind (m29 ([78,97,116]:List UInt8)) fun (x18:Tm) =>
 Option.bind (m29 ([78,97,116]:List UInt8)) fun (x19:Tm) =>
 Option.bind (m28 x18 x19) fun (x20:Tm) =>
 Option.bind (D8 x5.1.ty x20) fun (x21:Bool) =>
 cond x21
   (cond x6.2.2
   (some (x6.2.1==(-2)))
   (some false))
   (some false))
   (some false))
   (some false))
   (some false))
   (some false))
   (some false))
   (some false))
   (some false))
   (some false))
   (some false)) (fun (v7:Bool)=>some v7)
theorem m10_ok  (r:Bool) (h0:m10 =some r):Fun Try.prog 10 [] (QM [.one (dB r)]):=by
 unfold m10 at h0
 refine QB 9 95 Try.func10 Z en_10 Z (lb Z) (fun S w=>?_)
 simp only [J3]
 refine Q4<|Q0<|rA Z Z Z<|Q5<|Q3<|Q4<|Q0 ?_
 refine Qd h0 (fun x1 hx1 h0=>?_)
 refine Qb Z Z (lb Z) (Qh (m26_ok  x1 hx1) Z .nil)<|Qb Z Z (lb Z) (Qv WK Z)<|QC Z Z (QA (x1:Dcl) Jq Z Z Z Z Z)<|Q5<|Q3<|Q4<|Q0<|rR Z Z Z (QH (x1:Dcl) Jq Z Z) ?_
 refine Qd h0 (fun x2 hx2 h0=>?_)
 refine Qb Z Z (lb Z) (Qh (m20_ok x1 x2 hx2) Z (.cons (.agg (.cons (.d _) (.cons (.d _) (.cons (.d _) (.cons (.d _) (.cons (.d _) (.cons (.d _) (.cons (.d _) (.cons (.d _) (.cons (.d _) (.cons (.d _) (.cons (.d _) (.cons (.d _) (.cons (.d _) (.cons (.d _) (.cons (.d _) (.cons (.d _) (.cons (.d _) (.cons (.d _) (.cons (.d _) (.cons (.d _) (.cons (.d _) (.cons (.d _) (.cons (.d _) .nil)))))))))))))))))))))))) .nil))<|rA Z Z Z<|Q5<|Q3<|Q4<|Q0<|rR Z Z Z (QH (x1:Dcl) Jq Z Z)<|Qb Z Z (lb Z) (OpOK.lit1CE (x1:Dcl) YE WK Z Z (lb Z) Z) ?_
 refine Qd h0 (fun x3 hx3 h0=>?_)
 refine Qb Z Z (lb Z) (Qh (m11_ok ([x1]) x3 hx3) Z (.cons (.one (.app _ _ _)) .nil))<|rM Z Z Z<|rR Z Z Z (QX Z Z)<|rR Z Z Z (QX Z Z)<|rA Z Z Z<|rA Z Z Z<|Q5<|Q3<|Q4<|Q0<|rR Z Z Z (QH (x1:Dcl) Jq Z Z)<|rR Z Z Z (QH (x1:Dcl) Jq Z Z)<|Qb Z Z (lb Z) (OpOK.lit2CE (x1:Dcl) (x1:Dcl) YE WK Z Z (lb Z) Z Z) ?_
 refine Qd h0 (fun x4 hx4 h0=>?_)
 refine Qb Z Z (lb Z) (Qh (m11_ok ([x1,x1]) x4 hx4) Z (.cons (.one (.app _ _ _)) .nil))<|rM Z Z Z<|rR Z Z Z (QX Z Z)<|rR Z Z Z (QX Z Z)<|rA Z Z Z<|rA Z Z Z<|Q5<|Q3<|Q4<|Q0<|rR Z Z Z (QH (x1:Dcl) Jq Z Z)<|Qb Z Z (lb Z) (OpOK.lit1CE (x1:Dcl) YE WK Z Z (lb Z) Z) ?_
 refine Qd h0 (fun x5 hx5 h0=>?_)
 refine Qb Z Z (lb Z) (Qh (m14_ok ([x1]) ([78,97,116,46,115,117,99,99]:List UInt8) x5 hx5) Z (.cons (.one (.app _ _ _)) (.cons (.one (.d _)) .nil)))<|rM Z Z Z<|rR Z Z Z (QX Z Z)<|rR Z Z Z (QX Z Z)<|Qb Z Z (lb Z) (Qv Z7 Z)<|QC Z Z (QA (x5.1:Ent) J8 Z Z Z Z Z)<|rA Z Z Z<|Q5<|Q3<|Q4<|Q0<|rR Z Z Z (QH (x1:Dcl) Jq Z Z)<|Qb Z Z (lb Z) (OpOK.lit1CE (x1:Dcl) YE WK Z Z (lb Z) Z) ?_
 refine Qd h0 (fun x6 hx6 h0=>?_)
 refine Qb Z Z (lb Z) (Qh (m16_ok ([x1]) ([78,97,116,46,114,101,99]:List UInt8) x6 hx6) Z (.cons (.one (.app _ _ _)) (.cons (.one (.d _)) .nil)))<|rM Z Z Z<|rR Z Z Z (QX Z Z)<|rR Z Z Z (QX Z Z)<|rR Z Z Z (QX Z Z)<|Qb Z Z (lb Z) (Qv WK Z)<|QC Z Z (QA (x6.1:Dcl) Jq Z Z Z Z Z)<|rA Z Z Z<|rA Z Z Z<|Q5<|Q3<|Q4 ?_
 refine QD (fun (v7:Bool)=>⟨[(0,.v (.one (dB v7)))],m10_h0 x1 x5 x6,[(1,some ⟨45,23,(Enc.encL ([x1]:List Dcl)).length,[]⟩),(2,some ⟨45,23,(Enc.encL ([x1,x1]:List Dcl)).length,[]⟩),(3,some ⟨45,23,(Enc.encL ([x1]:List Dcl)).length,[]⟩),(5,some ⟨45,23,(Enc.encL ([x1]:List Dcl)).length,[]⟩)],7,95,[]⟩) (fun (v7:Bool)=>(some v7)=some r) ?_ ?_
 refine Qd h0 (fun w1_ h1 h0=>?_)
 refine J4 [] [] JV (by kernel_rfl) (by kernel_rfl) (by kernel_rfl) ?_
 refine RunA.rd Z Z Z (Q1 (Qq Z)) Z<|RunA.rd Z Z Z (OpOK.data4E (α:=Bs) ([78,97,116]:List UInt8) ([78,97,116,46,122,101,114,111]:List UInt8) ([78,97,116,46,115,117,99,99]:List UInt8) ([78,97,116,46,114,101,99]:List UInt8) Ye Dd Z Z (lb Z) Z Z Z Z Z (.cons (.d _) (.cons (.d _) (.cons (.d _) (.cons (.d _) .nil)))) ⟨Z,Z,Z,Z⟩) Z ?_
 refine Qd h1 (fun x8 hx8 h1=>?_)
 refine RunA.rd Z Z Z (Qh (m22_ok x2 ([([78,97,116]:List UInt8),([78,97,116,46,122,101,114,111]:List UInt8),([78,97,116,46,115,117,99,99]:List UInt8),([78,97,116,46,114,101,99]:List UInt8)]) x8 hx8) Z (.cons (.one (.d _)) (.cons (.one (.d _)) .nil))) Z ?_
 refine JM (c:=x8) Z Z Z (Q1 (Qq Z)) Z (fun c9=>?_) (fun c9=>?_)
 replace h1:=Qf c9 h1
 refine RunA.rd Z Z Z (Q1 (Qq Z)) Z<|RunA.rd Z Z Z (Q1 (Q8 Z Z Z)) Z<|RunA.rd Z Z Z (Q1 (Qc Z Z)) Z ?_
 refine JM (c:=(x3.2==0)) Z Z Z (Q1 (Qq Z)) Z (fun c10=>?_) (fun c10=>?_)
 replace h1:=Qf c10 h1
 refine RunA.rd Z Z Z (Q1 (Qq Z)) Z<|RunA.rd Z Z Z (Q1 (Q8 Z Z Z)) Z<|RunA.rd Z Z Z (Q1 (Qc Z Z)) Z ?_
 refine JM (c:=(x4.1==1)) Z Z Z (Q1 (Qq Z)) Z (fun c11=>?_) (fun c11=>?_)
 replace h1:=Qf c11 h1
 refine RunA.rd Z Z Z (Q1 (Qq Z)) Z<|RunA.rd Z Z Z (Q1 (Q8 Z Z Z)) Z<|RunA.rd Z Z Z (Q1 (Qc Z Z)) Z ?_
 refine JM (c:=(x4.2==8)) Z Z Z (Q1 (Qq Z)) Z (fun c12=>?_) (fun c12=>?_)
 replace h1:=Qf c12 h1
 refine RunA.rd Z Z Z (Q1 (Qq Z)) Z<|RunA.rd Z Z Z (Q1 (Q8 Z Z Z)) Z<|RunA.rd Z Z Z (Q1 (Qc Z Z)) Z ?_
 refine JM (c:=(x5.2==0)) Z Z Z (Q1 (Qq Z)) Z (fun c13=>?_) (fun c13=>?_)
 replace h1:=Qf c13 h1
 refine RunA.rd Z Z Z (Q1 (Q2 Yx Z)) Z<|RunA.rd Z Z Z (Q1 (Q6 QG Z Z Z)) Z<|RunA.rd Z Z Z (Q1 (Q8 Z Z Z)) Z<|RunA.rd Z Z Z (Q1 (Qc Z Z)) Z ?_
 refine JM (c:=(x5.1.kind==4)) Z Z Z (Q1 (Qq Z)) Z (fun c14=>?_) (fun c14=>?_)
 replace h1:=Qf c14 h1
 refine RunA.rd Z Z Z (Q1 (Q2 K1 Z)) Z<|RunA.rd Z Z Z (Q1 (Q6 QG Z Z Z)) Z<|RunA.rd Z Z Z (Q1 (Q8 Z Z Z)) Z<|RunA.rd Z Z Z (Q1 (Qc Z Z)) Z ?_
 refine JM (c:=(x5.1.decl==0)) Z Z Z (Q1 (Qq Z)) Z (fun c15=>?_) (fun c15=>?_)
 replace h1:=Qf c15 h1
 refine RunA.rd Z Z Z (Q1 (Q2 KM Z)) Z<|RunA.rd Z Z Z (Q1 (Q6 QG Z Z Z)) Z<|RunA.rd Z Z Z (Q1 (Q8 Z Z Z)) Z<|RunA.rd Z Z Z (Q1 (Qc Z Z)) Z ?_
 refine JM (c:=(x5.1.item==1)) Z Z Z (Q1 (Qq Z)) Z (fun c16=>?_) (fun c16=>?_)
 replace h1:=Qf c16 h1
 refine RunA.rd Z Z Z (Q1 (Q2 XZ Z)) Z<|RunA.rd Z Z Z (Q1 (Q6 QG Z Z Z)) Z<|RunA.rd Z Z Z (Q1 (Q8 Z Z Z)) Z<|RunA.rd Z Z Z (Q1 (Qc Z Z)) Z ?_
 refine JM (c:=(x5.1.params==0)) Z Z Z (Q1 (Qq Z)) Z (fun c17=>?_) (fun c17=>?_)
 replace h1:=Qf c17 h1
 refine RunA.rd Z Z Z (Q1 (Q2 fo_35_4 Z)) Z<|RunA.rd Z Z Z (Q1 (Qi QR Z Z Z Z)) Z ?_
 refine Qd h1 (fun x18 hx18 h1=>?_)
 refine RunA.rd Z Z Z (Qh (m29_ok ([78,97,116]:List UInt8) x18 hx18) Z (.cons (.one (.d _)) .nil)) Z ?_
 refine Qd h1 (fun x19 hx19 h1=>?_)
 refine RunA.rd Z Z Z (Qh (m29_ok ([78,97,116]:List UInt8) x19 hx19) Z (.cons (.one (.d _)) .nil)) Z ?_
 refine Qd h1 (fun x20 hx20 h1=>?_)
 refine RunA.rd Z Z Z (Qh (m28_ok x18 x19 x20 hx20) Z (.cons (.agg (.cons (.d _) (.cons (.d _) (.cons (.d _) (.cons (.d _) (.cons (.d _) .nil)))))) (.cons (.agg (.cons (.d _) (.cons (.d _) (.cons (.d _) (.cons (.d _) (.cons (.d _) .nil)))))) .nil))) Z ?_
 refine Qd h1 (fun x21 hx21 h1=>?_)
 refine RunA.rd Z Z Z (Qh (GE x5.1.ty x20 x21 hx21) Z (.cons (.agg (.cons (.d _) (.cons (.d _) (.cons (.d _) (.cons (.d _) (.cons (.d _) .nil)))))) (.cons (.agg (.cons (.d _) (.cons (.d _) (.cons (.d _) (.cons (.d _) (.cons (.d _) .nil)))))) .nil))) Z<|RunA.rd Z Z Z (Q1 (Qc Z Z)) Z ?_
 refine JM (c:=x21) Z Z Z (Q1 (Qq Z)) Z (fun c22=>?_) (fun c22=>?_)
 replace h1:=Qf c22 h1
 refine RunA.rd Z Z Z (Q1 (Qq Z)) Z<|RunA.rd Z Z Z (Q1 (Qc Z Z)) Z ?_
 refine JM (c:=x6.2.2) Z Z Z (Q1 (Qq Z)) Z (fun c23=>?_) (fun c23=>?_)
 replace h1:=Qf c23 h1
 refine RunA.rd Z Z Z (Q1 (Qq Z)) Z<|RunA.rd Z Z Z (Q1 (Q8 Z Z Z)) Z<|RunA.rd Z Z Z (Q1 (Qc Z Z)) Z<|RunA.rd Z Z Z (Q1 (Jd Z)) Z ?_
 refine RunA.nil ⟨?ex,_,_,Z,?_⟩
 case ex=>exact trivial
 have e:=sI h1;subst e
 exact Q9 (x6.2.1==(-2)) (sL (Nat.zero_le _) Z Z Z Z Z) h0
 replace h1:=Qg c23 h1
 refine RunA.no Z Z Z Z<|RunA.no Z Z Z Z<|RunA.rd Z Z Z (Q1 (Qa Z Z)) Z<|RunA.rd Z Z Z (Q1 (Jd Z)) Z ?_
 refine RunA.nil ⟨?ex,_,_,Z,?_⟩
 case ex=>exact trivial
 have e:=sI h1;subst e
 exact Q9 false (sL (Nat.zero_le _) Z Z Z Z Z) h0
 replace h1:=Qg c22 h1
 refine RunA.no Z Z Z Z<|RunA.rd Z Z Z (Q1 (Qa Z Z)) Z<|RunA.rd Z Z Z (Q1 (Qq Z)) Z<|RunA.no Z Z Z Z<|RunA.no Z Z Z Z<|RunA.rd Z Z Z (Q1 (Qa Z Z)) Z<|RunA.rd Z Z Z (Q1 (Jd Z)) Z ?_
 refine RunA.nil ⟨?ex,_,_,Z,?_⟩
 case ex=>exact trivial
 have e:=sI h1;subst e
 exact Q9 false (sL (Nat.zero_le _) Z Z Z Z Z) h0
 replace h1:=Qg c17 h1
 refine RunA.no Z Z Z Z<|RunA.no Z Z Z Z<|RunA.no Z Z Z Z<|RunA.no Z Z Z Z<|RunA.no Z Z Z Z<|RunA.no Z Z Z Z<|RunA.rd Z Z Z (Q1 (Qa Z Z)) Z<|RunA.rd Z Z Z (Q1 (Qq Z)) Z<|RunA.no Z Z Z Z<|RunA.rd Z Z Z (Q1 (Qa Z Z)) Z<|RunA.rd Z Z Z (Q1 (Qq Z)) Z<|RunA.no Z Z Z Z<|RunA.no Z Z Z Z<|RunA.rd Z Z Z (Q1 (Qa Z Z)) Z ?_
 refine RunA.rd Z Z Z (Q1 (Jd Z)) Z ?_
 refine RunA.nil ⟨?ex,_,_,Z,?_⟩
 case ex=>exact trivial
 have e:=sI h1;subst e
 exact Q9 false (sL (Nat.zero_le _) Z Z Z Z Z) h0
 replace h1:=Qg c16 h1
 refine RunA.no Z Z Z Z<|RunA.no Z Z Z Z<|RunA.no Z Z Z Z<|RunA.rd Z Z Z (Q1 (Qa Z Z)) Z<|RunA.rd Z Z Z (Q1 (Qq Z)) Z<|RunA.no Z Z Z Z<|RunA.no Z Z Z Z<|RunA.no Z Z Z Z<|RunA.no Z Z Z Z<|RunA.no Z Z Z Z<|RunA.no Z Z Z Z<|RunA.rd Z Z Z (Q1 (Qa Z Z)) Z<|RunA.rd Z Z Z (Q1 (Qq Z)) Z<|RunA.no Z Z Z Z ?_
 refine RunA.rd Z Z Z (Q1 (Qa Z Z)) Z<|RunA.rd Z Z Z (Q1 (Qq Z)) Z<|RunA.no Z Z Z Z<|RunA.no Z Z Z Z<|RunA.rd Z Z Z (Q1 (Qa Z Z)) Z<|RunA.rd Z Z Z (Q1 (Jd Z)) Z ?_
 refine RunA.nil ⟨?ex,_,_,Z,?_⟩
 case ex=>exact trivial
 have e:=sI h1;subst e
 exact Q9 false (sL (Nat.zero_le _) Z Z Z Z Z) h0
 replace h1:=Qg c15 h1
 refine RunA.no Z Z Z Z<|RunA.no Z Z Z Z<|RunA.no Z Z Z Z<|RunA.rd Z Z Z (Q1 (Qa Z Z)) Z<|RunA.rd Z Z Z (Q1 (Qq Z)) Z<|RunA.no Z Z Z Z<|RunA.no Z Z Z Z<|RunA.no Z Z Z Z<|RunA.rd Z Z Z (Q1 (Qa Z Z)) Z<|RunA.rd Z Z Z (Q1 (Qq Z)) Z<|RunA.no Z Z Z Z<|RunA.no Z Z Z Z<|RunA.no Z Z Z Z<|RunA.no Z Z Z Z ?_
 refine RunA.no Z Z Z Z<|RunA.no Z Z Z Z<|RunA.rd Z Z Z (Q1 (Qa Z Z)) Z<|RunA.rd Z Z Z (Q1 (Qq Z)) Z<|RunA.no Z Z Z Z<|RunA.rd Z Z Z (Q1 (Qa Z Z)) Z<|RunA.rd Z Z Z (Q1 (Qq Z)) Z<|RunA.no Z Z Z Z<|RunA.no Z Z Z Z<|RunA.rd Z Z Z (Q1 (Qa Z Z)) Z<|RunA.rd Z Z Z (Q1 (Jd Z)) Z ?_
 refine RunA.nil ⟨?ex,_,_,Z,?_⟩
 case ex=>exact trivial
 have e:=sI h1;subst e
 exact Q9 false (sL (Nat.zero_le _) Z Z Z Z Z) h0
 replace h1:=Qg c14 h1
 refine RunA.no Z Z Z Z<|RunA.no Z Z Z Z<|RunA.no Z Z Z Z<|RunA.rd Z Z Z (Q1 (Qa Z Z)) Z<|RunA.rd Z Z Z (Q1 (Qq Z)) Z<|RunA.no Z Z Z Z<|RunA.no Z Z Z Z<|RunA.no Z Z Z Z<|RunA.rd Z Z Z (Q1 (Qa Z Z)) Z<|RunA.rd Z Z Z (Q1 (Qq Z)) Z<|RunA.no Z Z Z Z<|RunA.no Z Z Z Z<|RunA.no Z Z Z Z<|RunA.rd Z Z Z (Q1 (Qa Z Z)) Z ?_
 refine RunA.rd Z Z Z (Q1 (Qq Z)) Z<|RunA.no Z Z Z Z<|RunA.no Z Z Z Z<|RunA.no Z Z Z Z<|RunA.no Z Z Z Z<|RunA.no Z Z Z Z<|RunA.no Z Z Z Z<|RunA.rd Z Z Z (Q1 (Qa Z Z)) Z<|RunA.rd Z Z Z (Q1 (Qq Z)) Z<|RunA.no Z Z Z Z<|RunA.rd Z Z Z (Q1 (Qa Z Z)) Z<|RunA.rd Z Z Z (Q1 (Qq Z)) Z<|RunA.no Z Z Z Z<|RunA.no Z Z Z Z ?_
 refine RunA.rd Z Z Z (Q1 (Qa Z Z)) Z<|RunA.rd Z Z Z (Q1 (Jd Z)) Z ?_
 refine RunA.nil ⟨?ex,_,_,Z,?_⟩
 case ex=>exact trivial
 have e:=sI h1;subst e
 exact Q9 false (sL (Nat.zero_le _) Z Z Z Z Z) h0
 replace h1:=Qg c13 h1
 refine RunA.no Z Z Z Z<|RunA.no Z Z Z Z<|RunA.no Z Z Z Z<|RunA.rd Z Z Z (Q1 (Qa Z Z)) Z<|RunA.rd Z Z Z (Q1 (Qq Z)) Z<|RunA.no Z Z Z Z<|RunA.no Z Z Z Z<|RunA.no Z Z Z Z<|RunA.rd Z Z Z (Q1 (Qa Z Z)) Z<|RunA.rd Z Z Z (Q1 (Qq Z)) Z<|RunA.no Z Z Z Z<|RunA.no Z Z Z Z<|RunA.no Z Z Z Z<|RunA.rd Z Z Z (Q1 (Qa Z Z)) Z ?_
 refine RunA.rd Z Z Z (Q1 (Qq Z)) Z<|RunA.no Z Z Z Z<|RunA.no Z Z Z Z<|RunA.no Z Z Z Z<|RunA.rd Z Z Z (Q1 (Qa Z Z)) Z<|RunA.rd Z Z Z (Q1 (Qq Z)) Z<|RunA.no Z Z Z Z<|RunA.no Z Z Z Z<|RunA.no Z Z Z Z<|RunA.no Z Z Z Z<|RunA.no Z Z Z Z<|RunA.no Z Z Z Z<|RunA.rd Z Z Z (Q1 (Qa Z Z)) Z<|RunA.rd Z Z Z (Q1 (Qq Z)) Z ?_
 refine RunA.no Z Z Z Z<|RunA.rd Z Z Z (Q1 (Qa Z Z)) Z<|RunA.rd Z Z Z (Q1 (Qq Z)) Z<|RunA.no Z Z Z Z<|RunA.no Z Z Z Z<|RunA.rd Z Z Z (Q1 (Qa Z Z)) Z<|RunA.rd Z Z Z (Q1 (Jd Z)) Z ?_
 refine RunA.nil ⟨?ex,_,_,Z,?_⟩
 case ex=>exact trivial
 have e:=sI h1;subst e
 exact Q9 false (sL (Nat.zero_le _) Z Z Z Z Z) h0
 replace h1:=Qg c12 h1
 refine RunA.no Z Z Z Z<|RunA.no Z Z Z Z<|RunA.rd Z Z Z (Q1 (Qa Z Z)) Z<|RunA.rd Z Z Z (Q1 (Qq Z)) Z<|RunA.no Z Z Z Z<|RunA.no Z Z Z Z<|RunA.no Z Z Z Z<|RunA.rd Z Z Z (Q1 (Qa Z Z)) Z<|RunA.rd Z Z Z (Q1 (Qq Z)) Z<|RunA.no Z Z Z Z<|RunA.no Z Z Z Z<|RunA.no Z Z Z Z<|RunA.rd Z Z Z (Q1 (Qa Z Z)) Z<|RunA.rd Z Z Z (Q1 (Qq Z)) Z ?_
 refine RunA.no Z Z Z Z<|RunA.no Z Z Z Z<|RunA.no Z Z Z Z<|RunA.rd Z Z Z (Q1 (Qa Z Z)) Z<|RunA.rd Z Z Z (Q1 (Qq Z)) Z<|RunA.no Z Z Z Z<|RunA.no Z Z Z Z<|RunA.no Z Z Z Z<|RunA.rd Z Z Z (Q1 (Qa Z Z)) Z<|RunA.rd Z Z Z (Q1 (Qq Z)) Z<|RunA.no Z Z Z Z<|RunA.no Z Z Z Z<|RunA.no Z Z Z Z<|RunA.no Z Z Z Z ?_
 refine RunA.no Z Z Z Z<|RunA.no Z Z Z Z<|RunA.rd Z Z Z (Q1 (Qa Z Z)) Z<|RunA.rd Z Z Z (Q1 (Qq Z)) Z<|RunA.no Z Z Z Z<|RunA.rd Z Z Z (Q1 (Qa Z Z)) Z<|RunA.rd Z Z Z (Q1 (Qq Z)) Z<|RunA.no Z Z Z Z<|RunA.no Z Z Z Z<|RunA.rd Z Z Z (Q1 (Qa Z Z)) Z<|RunA.rd Z Z Z (Q1 (Jd Z)) Z ?_
 refine RunA.nil ⟨?ex,_,_,Z,?_⟩
 case ex=>exact trivial
 have e:=sI h1;subst e
 exact Q9 false (sL (Nat.zero_le _) Z Z Z Z Z) h0
 replace h1:=Qg c11 h1
 refine RunA.no Z Z Z Z<|RunA.no Z Z Z Z<|RunA.rd Z Z Z (Q1 (Qa Z Z)) Z<|RunA.rd Z Z Z (Q1 (Qq Z)) Z<|RunA.no Z Z Z Z<|RunA.no Z Z Z Z<|RunA.rd Z Z Z (Q1 (Qa Z Z)) Z<|RunA.rd Z Z Z (Q1 (Qq Z)) Z<|RunA.no Z Z Z Z<|RunA.no Z Z Z Z<|RunA.no Z Z Z Z<|RunA.rd Z Z Z (Q1 (Qa Z Z)) Z<|RunA.rd Z Z Z (Q1 (Qq Z)) Z<|RunA.no Z Z Z Z ?_
 refine RunA.no Z Z Z Z<|RunA.no Z Z Z Z<|RunA.rd Z Z Z (Q1 (Qa Z Z)) Z<|RunA.rd Z Z Z (Q1 (Qq Z)) Z<|RunA.no Z Z Z Z<|RunA.no Z Z Z Z<|RunA.no Z Z Z Z<|RunA.rd Z Z Z (Q1 (Qa Z Z)) Z<|RunA.rd Z Z Z (Q1 (Qq Z)) Z<|RunA.no Z Z Z Z<|RunA.no Z Z Z Z<|RunA.no Z Z Z Z<|RunA.rd Z Z Z (Q1 (Qa Z Z)) Z<|RunA.rd Z Z Z (Q1 (Qq Z)) Z ?_
 refine RunA.no Z Z Z Z<|RunA.no Z Z Z Z<|RunA.no Z Z Z Z<|RunA.no Z Z Z Z<|RunA.no Z Z Z Z<|RunA.no Z Z Z Z<|RunA.rd Z Z Z (Q1 (Qa Z Z)) Z<|RunA.rd Z Z Z (Q1 (Qq Z)) Z<|RunA.no Z Z Z Z<|RunA.rd Z Z Z (Q1 (Qa Z Z)) Z<|RunA.rd Z Z Z (Q1 (Qq Z)) Z<|RunA.no Z Z Z Z<|RunA.no Z Z Z Z<|RunA.rd Z Z Z (Q1 (Qa Z Z)) Z ?_
 refine RunA.rd Z Z Z (Q1 (Jd Z)) Z ?_
 refine RunA.nil ⟨?ex,_,_,Z,?_⟩
 case ex=>exact trivial
 have e:=sI h1;subst e
 exact Q9 false (sL (Nat.zero_le _) Z Z Z Z Z) h0
 replace h1:=Qg c10 h1
 refine RunA.no Z Z Z Z<|RunA.no Z Z Z Z<|RunA.rd Z Z Z (Q1 (Qa Z Z)) Z<|RunA.rd Z Z Z (Q1 (Qq Z)) Z<|RunA.no Z Z Z Z<|RunA.no Z Z Z Z<|RunA.rd Z Z Z (Q1 (Qa Z Z)) Z<|RunA.rd Z Z Z (Q1 (Qq Z)) Z<|RunA.no Z Z Z Z<|RunA.no Z Z Z Z<|RunA.rd Z Z Z (Q1 (Qa Z Z)) Z<|RunA.rd Z Z Z (Q1 (Qq Z)) Z<|RunA.no Z Z Z Z<|RunA.no Z Z Z Z ?_
 refine RunA.no Z Z Z Z<|RunA.rd Z Z Z (Q1 (Qa Z Z)) Z<|RunA.rd Z Z Z (Q1 (Qq Z)) Z<|RunA.no Z Z Z Z<|RunA.no Z Z Z Z<|RunA.no Z Z Z Z<|RunA.rd Z Z Z (Q1 (Qa Z Z)) Z<|RunA.rd Z Z Z (Q1 (Qq Z)) Z<|RunA.no Z Z Z Z<|RunA.no Z Z Z Z<|RunA.no Z Z Z Z<|RunA.rd Z Z Z (Q1 (Qa Z Z)) Z<|RunA.rd Z Z Z (Q1 (Qq Z)) Z<|RunA.no Z Z Z Z ?_
 refine RunA.no Z Z Z Z<|RunA.no Z Z Z Z<|RunA.rd Z Z Z (Q1 (Qa Z Z)) Z<|RunA.rd Z Z Z (Q1 (Qq Z)) Z<|RunA.no Z Z Z Z<|RunA.no Z Z Z Z<|RunA.no Z Z Z Z<|RunA.no Z Z Z Z<|RunA.no Z Z Z Z<|RunA.no Z Z Z Z<|RunA.rd Z Z Z (Q1 (Qa Z Z)) Z<|RunA.rd Z Z Z (Q1 (Qq Z)) Z<|RunA.no Z Z Z Z<|RunA.rd Z Z Z (Q1 (Qa Z Z)) Z ?_
 refine RunA.rd Z Z Z (Q1 (Qq Z)) Z<|RunA.no Z Z Z Z<|RunA.no Z Z Z Z<|RunA.rd Z Z Z (Q1 (Qa Z Z)) Z<|RunA.rd Z Z Z (Q1 (Jd Z)) Z ?_
 refine RunA.nil ⟨?ex,_,_,Z,?_⟩
 case ex=>exact trivial
 have e:=sI h1;subst e
 exact Q9 false (sL (Nat.zero_le _) Z Z Z Z Z) h0
 replace h1:=Qg c9 h1
 refine RunA.no Z Z Z Z<|RunA.no Z Z Z Z<|RunA.rd Z Z Z (Q1 (Qa Z Z)) Z<|RunA.rd Z Z Z (Q1 (Qq Z)) Z<|RunA.no Z Z Z Z<|RunA.no Z Z Z Z<|RunA.rd Z Z Z (Q1 (Qa Z Z)) Z<|RunA.rd Z Z Z (Q1 (Qq Z)) Z<|RunA.no Z Z Z Z<|RunA.no Z Z Z Z<|RunA.rd Z Z Z (Q1 (Qa Z Z)) Z<|RunA.rd Z Z Z (Q1 (Qq Z)) Z<|RunA.no Z Z Z Z<|RunA.no Z Z Z Z ?_
 refine RunA.rd Z Z Z (Q1 (Qa Z Z)) Z<|RunA.rd Z Z Z (Q1 (Qq Z)) Z<|RunA.no Z Z Z Z<|RunA.no Z Z Z Z<|RunA.no Z Z Z Z<|RunA.rd Z Z Z (Q1 (Qa Z Z)) Z<|RunA.rd Z Z Z (Q1 (Qq Z)) Z<|RunA.no Z Z Z Z<|RunA.no Z Z Z Z<|RunA.no Z Z Z Z<|RunA.rd Z Z Z (Q1 (Qa Z Z)) Z<|RunA.rd Z Z Z (Q1 (Qq Z)) Z<|RunA.no Z Z Z Z<|RunA.no Z Z Z Z ?_
 refine RunA.no Z Z Z Z<|RunA.rd Z Z Z (Q1 (Qa Z Z)) Z<|RunA.rd Z Z Z (Q1 (Qq Z)) Z<|RunA.no Z Z Z Z<|RunA.no Z Z Z Z<|RunA.no Z Z Z Z<|RunA.rd Z Z Z (Q1 (Qa Z Z)) Z<|RunA.rd Z Z Z (Q1 (Qq Z)) Z<|RunA.no Z Z Z Z<|RunA.no Z Z Z Z<|RunA.no Z Z Z Z<|RunA.no Z Z Z Z<|RunA.no Z Z Z Z<|RunA.no Z Z Z Z ?_
 refine RunA.rd Z Z Z (Q1 (Qa Z Z)) Z<|RunA.rd Z Z Z (Q1 (Qq Z)) Z<|RunA.no Z Z Z Z<|RunA.rd Z Z Z (Q1 (Qa Z Z)) Z<|RunA.rd Z Z Z (Q1 (Qq Z)) Z<|RunA.no Z Z Z Z<|RunA.no Z Z Z Z<|RunA.rd Z Z Z (Q1 (Qa Z Z)) Z<|RunA.rd Z Z Z (Q1 (Jd Z)) Z ?_
 refine RunA.nil ⟨?ex,_,_,Z,?_⟩
 case ex=>exact trivial
 have e:=sI h1;subst e
 exact Q9 false (sL (Nat.zero_le _) Z Z Z Z Z) h0
 intro v7 h0
 refine Q3<|Qp ?_
 have e:=sI h0;subst e
 exact Qn (fun _ _ h=>h) Z (Qm Z .nil) (.cons (.one (.d _)) .nil)
theorem m10_true:m10=some true:=by kernel_rfl
theorem awake_fun:Fun Try.prog 10 [] (QM [.one (dB true)]):=m10_ok true m10_true
end Go.Proofs.Ytafddfoefeploaa
namespace Go.Proofs.Ytafddfoefeploaa
open Go.RowKit Go.Shelf
theorem en_4:QY Try.prog 4:=enters_of Try.func4 (by kernel_rfl) rfl
theorem en_13:QY Try.prog 13:=enters_of Try.func13 (by kernel_rfl) rfl
def m13 (a0:List Dcl):Option Bool :=
 Option.bind (m9 a0) fun (x1:Bool) =>
 cond (!x1)
   (some false)
   (Option.bind (DU a0) fun (x3:Int×Int) =>
 some (x3.2==0))
theorem m13_ok (a0:List Dcl) (r:Bool) (h0:m13 a0=some r):Fun Try.prog 13 [.one (dS a0)] (QM [.one (dB r)]):=by
 unfold m13 at h0
 refine QB 9 15 Try.func13 Z en_13 Z (lb Z) (fun S w=>?_)
 simp only [J3]
 refine Q4<|Q0<|rA Z Z Z<|Q5<|Q3<|Q4<|Q4<|Q0<|rM Z Z Z ?_
 refine Qd h0 (fun x1 hx1 h0=>?_)
 refine Qb Z Z (lb Z) (Qh (m9_ok a0 x1 hx1) Z (.cons (.one (.d _)) .nil))<|rR Z Z Z (Jc Z)<|Q5<|Q3 ?_
 refine Qe (b:=(!x1)) Z (fun c2=>?_) (fun c2=>?_)
 replace h0:=Qf c2 h0
 refine Q4<|Q0<|rA Z Z Z<|Q5<|Q3<|Qp ?_
 have e:=sI h0;subst e
 exact Qn (fun _ _ h=>h) Z (Qm Z .nil) (.cons (.one (.d _)) .nil)
 replace h0:=Qg c2 h0
 refine Qj<|Q3<|Q4<|Q0<|rM Z Z Z ?_
 refine Qd h0 (fun x3 hx3 h0=>?_)
 refine Qb Z Z (lb Z) (Qh (m12_ok a0 x3 hx3) Z (.cons (.one (.d _)) .nil))<|rM Z Z Z<|rR Z Z Z (QX Z Z)<|rR Z Z Z (QX Z Z)<|rA Z Z Z<|rA Z Z Z<|Q5<|Q3<|Q4<|Q0<|rM Z Z Z<|rR Z Z Z (Q8 Z Z Z)<|rA Z Z Z<|Q5 ?_
 refine Q3<|Qp ?_
 have e:=sI h0;subst e
 exact Qn (fun _ _ h=>h) Z (Qm Z .nil) (.cons (.one (.d _)) .nil)
def Uo (p0_:Bool) (p1_:List Dcl) (p2_:Bs):Option Bool :=
 cond p0_
   (some true)
   (Option.bind (DT p1_ p2_) fun (b0_:Ent×Int) =>
 Option.bind (DG p1_ p2_) fun (b1_:Ent×Int) =>
 Option.bind (DN p1_ p2_) fun (b2_:Dcl×Int×Bool) =>
 Option.bind (m17 p1_ p2_) fun (b3_:Dcl×Int×Bool) =>
 Option.bind (Option.bind (m18 b0_.1 b1_.1) fun (b4_:Bool) =>
 cond b4_
   (cond (b0_.2==b1_.2)
   (Option.bind (m19 b2_.1 b3_.1) fun (b5_:Bool) =>
 cond b5_
   (cond (b2_.2.1==b3_.2.1)
   (some (b2_.2.2==b3_.2.2))
   (some false))
   (some false))
   (some false))
   (some false)) (fun (b6_:Bool)=>some b6_))
noncomputable abbrev m4_h0 (p0_:Ent×Int) (p1_:Ent×Int) (p2_:Dcl×Int×Bool) (p3_:Dcl×Int×Bool):List (Nat×HB) :=
 [(0,.cells 35 (cE p0_.1)),(1,.cells 35 (cE p1_.1)),(2,.cells 45 (cE p2_.1)),(3,.cells 45 (cE p3_.1))]
def m4 (a0:List Dcl) (a1:Bs):Option Bool :=
 Option.bind (Option.bind (m13 a0) fun (x2:Bool) =>
 cond (!x2)
   (some true)
   (some (decide (200 < (a1.length:Int))))) (fun (v1:Bool)=>Uo v1 a0 a1)
theorem m4_ok (a0:List Dcl) (a1:Bs) (r:Bool) (h0:m4 a0 a1=some r):Fun Try.prog 4 [.one (dS a0),.one (J6 a1)] (QM [.one (dB r)]):=by
 unfold m4 at h0
 refine QB 9 76 Try.func4 Z en_4 Z (lb Z) (fun S w=>?_)
 simp only [J3]
 refine Q4<|Q0<|rA Z Z Z<|Q5<|Q3<|Q4<|Q4 ?_
 refine QD (fun (v1:Bool)=>⟨[(0,.v (.one (dS a0))),(1,.v (.one (J6 a1))),(22,.v (.one (dB v1)))],[],[],0,76,[]⟩) (fun (v1:Bool)=>(Uo v1 a0 a1)=some r) ?_ ?_
 refine Qd h0 (fun w1_ h1 h0=>?_)
 refine Q0<|rM Z Z Z ?_
 refine Qd h1 (fun x2 hx2 h1=>?_)
 refine Qb Z Z (lb Z) (Qh (m13_ok a0 x2 hx2) Z (.cons (.one (.d _)) .nil))<|rR Z Z Z (Jc Z)<|rM Z Z Z ?_
 refine Qw (d:=18) (c:=(!x2)) Z (fun c3=>?_) (fun c3=>?_)
 replace h1:=Qf c3 h1
 refine Q7 Z Z<|Q7 Z Z<|Q7 Z Z<|rR Z Z Z (Qc Z Z)<|Q5 ?_
 have e:=sI h1;subst e
 exact Q9 true (sL (Nat.zero_le _) Z Z Z Z Z) h0
 replace h1:=Qg c3 h1
 refine rM Z Z Z<|rR Z Z Z (KP Ue Z)<|rR Z Z Z (Q8 Z Z Z)<|rR Z Z Z (Qa Z Z)<|Q5 ?_
 have e:=sI h1;subst e
 exact Q9 (decide (200 < (a1.length:Int))) (sL (Nat.zero_le _) Z Z Z Z Z) h0
 intro v1 h0
 unfold Uo at h0
 refine Q3 ?_
 refine Qe (b:=v1) Z (fun c4=>?_) (fun c4=>?_)
 replace h0:=Qf c4 h0
 refine Q4<|Q0<|Qb Z Z (lb Z) (Qh (awake_fun) Z .nil)<|rA Z Z Z<|Q5<|Q3<|Qp ?_
 have e:=sI h0;subst e
 exact Qn (fun _ _ h=>h) Z (Qm Z .nil) (.cons (.one (.d _)) .nil)
 replace h0:=Qg c4 h0
 refine Qj<|Q3<|Q4<|Q0<|rM Z Z Z<|rM Z Z Z ?_
 refine Qd h0 (fun x5 hx5 h0=>?_)
 refine Qb Z Z (lb Z) (Qh (m14_ok a0 a1 x5 hx5) Z (.cons (.one (.d _)) (.cons (.one (.d _)) .nil)))<|rM Z Z Z<|rR Z Z Z (QX Z Z)<|rR Z Z Z (QX Z Z)<|Qb Z Z (lb Z) (Qv Z7 Z)<|QC Z Z (QA (x5.1:Ent) J8 Z Z Z Z Z)<|rA Z Z Z<|Q5<|Q3<|Q4<|Q0<|rM Z Z Z<|rM Z Z Z ?_
 refine Qd h0 (fun x6 hx6 h0=>?_)
 refine Qb Z Z (lb Z) (Qh (Uq a0 a1 x6 hx6) Z (.cons (.one (.d _)) (.cons (.one (.d _)) .nil)))<|rM Z Z Z<|rR Z Z Z (QX Z Z)<|rR Z Z Z (QX Z Z)<|Qb Z Z (lb Z) (Qv Z7 Z)<|QC Z Z (QA (x6.1:Ent) J8 Z Z Z Z Z)<|rA Z Z Z<|Q5<|Q3<|Q4<|Q0<|rM Z Z Z<|rM Z Z Z ?_
 refine Qd h0 (fun x7 hx7 h0=>?_)
 refine Qb Z Z (lb Z) (Qh (m16_ok a0 a1 x7 hx7) Z (.cons (.one (.d _)) (.cons (.one (.d _)) .nil)))<|rM Z Z Z<|rR Z Z Z (QX Z Z)<|rR Z Z Z (QX Z Z)<|rR Z Z Z (QX Z Z)<|Qb Z Z (lb Z) (Qv WK Z)<|QC Z Z (QA (x7.1:Dcl) Jq Z Z Z Z Z)<|rA Z Z Z<|rA Z Z Z<|Q5<|Q3<|Q4<|Q0<|rM Z Z Z ?_
 refine rM Z Z Z ?_
 refine Qd h0 (fun x8 hx8 h0=>?_)
 refine Qb Z Z (lb Z) (Qh (m17_ok a0 a1 x8 hx8) Z (.cons (.one (.d _)) (.cons (.one (.d _)) .nil)))<|rM Z Z Z<|rR Z Z Z (QX Z Z)<|rR Z Z Z (QX Z Z)<|rR Z Z Z (QX Z Z)<|Qb Z Z (lb Z) (Qv WK Z)<|QC Z Z (QA (x8.1:Dcl) Jq Z Z Z Z Z)<|rA Z Z Z<|rA Z Z Z<|Q5<|Q3<|Q4 ?_
 refine QD (fun (v9:Bool)=>⟨[(4,.v (.one (dB v9)))],m4_h0 x5 x6 x7 x8,[],4,76,[]⟩) (fun (v9:Bool)=>(some v9)=some r) ?_ ?_
 refine Qd h0 (fun w1_ h1 h0=>?_)
 refine Q0<|Qb Z Z (lb Z) (Qh (awake_fun) Z .nil)<|rM Z Z Z<|rR Z Z Z (QH (x5.1:Ent) J8 Z Z)<|rR Z Z Z (QH (x6.1:Ent) J8 Z Z) ?_
 refine Qd h1 (fun x10 hx10 h1=>?_)
 refine Qb Z Z (lb Z) (Qh (m18_ok x5.1 x6.1 x10 hx10) Z (.cons (.agg (.cons (.d _) (.cons (.d _) (.cons (.d _) (.cons (.d _) (.cons (.d _) (.cons (.d _) (.cons (.d _) (.cons (.d _) (.cons (.d _) .nil)))))))))) (.cons (.agg (.cons (.d _) (.cons (.d _) (.cons (.d _) (.cons (.d _) (.cons (.d _) (.cons (.d _) (.cons (.d _) (.cons (.d _) (.cons (.d _) .nil)))))))))) .nil)))<|rR Z Z Z (Qc Z Z)<|rM Z Z Z ?_
 refine Qw (d:=56) (c:=x10) Z (fun c11=>?_) (fun c11=>?_)
 replace h1:=Qf c11 h1
 refine rM Z Z Z<|rM Z Z Z<|rR Z Z Z (Q8 Z Z Z)<|rR Z Z Z (Qc Z Z)<|rM Z Z Z ?_
 refine Qw (d:=61) (c:=(x5.2==x6.2)) Z (fun c12=>?_) (fun c12=>?_)
 replace h1:=Qf c12 h1
 refine rR Z Z Z (QH (x7.1:Dcl) Jq Z Z)<|rR Z Z Z (QH (x8.1:Dcl) Jq Z Z) ?_
 refine Qd h1 (fun x13 hx13 h1=>?_)
 refine Qb Z Z (lb Z) (Qh (m19_ok x7.1 x8.1 x13 hx13) Z (.cons (.agg (.cons (.d _) (.cons (.d _) (.cons (.d _) (.cons (.d _) (.cons (.d _) (.cons (.d _) (.cons (.d _) (.cons (.d _) (.cons (.d _) (.cons (.d _) (.cons (.d _) (.cons (.d _) (.cons (.d _) (.cons (.d _) (.cons (.d _) (.cons (.d _) (.cons (.d _) (.cons (.d _) (.cons (.d _) (.cons (.d _) (.cons (.d _) (.cons (.d _) (.cons (.d _) .nil)))))))))))))))))))))))) (.cons (.agg (.cons (.d _) (.cons (.d _) (.cons (.d _) (.cons (.d _) (.cons (.d _) (.cons (.d _) (.cons (.d _) (.cons (.d _) (.cons (.d _) (.cons (.d _) (.cons (.d _) (.cons (.d _) (.cons (.d _) (.cons (.d _) (.cons (.d _) (.cons (.d _) (.cons (.d _) (.cons (.d _) (.cons (.d _) (.cons (.d _) (.cons (.d _) (.cons (.d _) (.cons (.d _) .nil)))))))))))))))))))))))) .nil)))<|rR Z Z Z (Qc Z Z)<|rM Z Z Z ?_
 refine Qw (d:=66) (c:=x13) Z (fun c14=>?_) (fun c14=>?_)
 replace h1:=Qf c14 h1
 refine rM Z Z Z<|rM Z Z Z<|rR Z Z Z (Q8 Z Z Z)<|rR Z Z Z (Qc Z Z)<|rM Z Z Z ?_
 refine Qw (d:=71) (c:=(x7.2.1==x8.2.1)) Z (fun c15=>?_) (fun c15=>?_)
 replace h1:=Qf c15 h1
 refine rM Z Z Z<|rM Z Z Z<|rR Z Z Z (RO.eqBool ib_4 Z Z)<|rR Z Z Z (Qc Z Z)<|rA Z Z Z<|Q5 ?_
 have e:=sI h1;subst e
 exact Q9 (x7.2.2==x8.2.2) (sL (Nat.zero_le _) Z Z Z Z Z) h0
 replace h1:=Qg c15 h1
 refine Q7 Z Z<|Q7 Z Z<|Q7 Z Z<|rR Z Z Z (Qa Z Z)<|rA Z Z Z<|Q5 ?_
 have e:=sI h1;subst e
 exact Q9 false (sL (Nat.zero_le _) Z Z Z Z Z) h0
 replace h1:=Qg c14 h1
 refine Q7 Z Z<|Q7 Z Z<|Q7 Z Z<|rR Z Z Z (Qa Z Z)<|rM Z Z Z<|Q7 Z Z<|Q7 Z Z<|Q7 Z Z<|rR Z Z Z (Qa Z Z)<|rA Z Z Z<|Q5 ?_
 have e:=sI h1;subst e
 exact Q9 false (sL (Nat.zero_le _) Z Z Z Z Z) h0
 replace h1:=Qg c12 h1
 refine Q7 Z Z<|Q7 Z Z<|Q7 Z Z<|rR Z Z Z (Qa Z Z)<|rM Z Z Z<|Q7 Z Z<|Q7 Z Z<|Q7 Z Z<|rR Z Z Z (Qa Z Z)<|rM Z Z Z<|Q7 Z Z<|Q7 Z Z<|Q7 Z Z<|rR Z Z Z (Qa Z Z) ?_
 refine rA Z Z Z<|Q5 ?_
 have e:=sI h1;subst e
 exact Q9 false (sL (Nat.zero_le _) Z Z Z Z Z) h0
 replace h1:=Qg c11 h1
 refine Q7 Z Z<|Q7 Z Z<|Q7 Z Z<|rR Z Z Z (Qa Z Z)<|rM Z Z Z<|Q7 Z Z<|Q7 Z Z<|Q7 Z Z<|rR Z Z Z (Qa Z Z)<|rM Z Z Z<|Q7 Z Z<|Q7 Z Z<|Q7 Z Z<|rR Z Z Z (Qa Z Z) ?_
 refine rM Z Z Z<|Q7 Z Z<|Q7 Z Z<|Q7 Z Z<|rR Z Z Z (Qa Z Z)<|rA Z Z Z<|Q5 ?_
 have e:=sI h1;subst e
 exact Q9 false (sL (Nat.zero_le _) Z Z Z Z Z) h0
 intro v9 h0
 refine Q3<|Qp ?_
 have e:=sI h0;subst e
 exact Qn (fun _ _ h=>h) Z (Qm Z .nil) (.cons (.one (.d _)) .nil)
end Go.Proofs.Ytafddfoefeploaa
namespace Go.Proofs.Ytafddfoefeploaa
open Go.RowKit Go.Shelf
theorem look_ty {d:Dcl} {k:Int} {n:Bs} {e:Ent} (h:Ys d k n=some e):e.ty.size≤d.size:=by
 have h1:=ty_size d
 have h2:=rty_size d
 unfold Ys at h
 split at h
 ·split at h
  ·cases h;exact Nat.le_of_lt h1
  ·cases h
 ·split at h
  ·split at h
   ·cases h;exact Nat.le_of_lt h1
   ·split at h
    ·next i c hf =>
     cases h
     obtain ⟨-,h3⟩:=firstN_some _ _ _ _ hf
     have:=KZ (List.mem_of_getElem? h3)
     show c.ty.size≤d.size
     omega
    ·split at h
     ·cases h;exact Nat.le_of_lt h2
     ·cases h
  ·split at h
   ·split at h
    ·next i c hf =>
     cases h
     obtain ⟨-,h3⟩:=firstN_some _ _ _ _ hf
     have:=fn_size (List.mem_of_getElem? h3)
     show c.ty.size≤d.size
     omega
    ·cases h
   ·cases h
theorem tmZ_size:tmZ.size=1:=by rw [Tm.size_eq];rfl
theorem findR_ty (env:List Dcl) (n:Bs) (h:YX env≤800000000):(W5 env n).1.ty.size≤800000000:=by
 unfold W5
 cases hf:KC env n with
 | none =>
  show tmZ.size≤_
  rw [tmZ_size];omega
 | some e =>
  obtain ⟨i,d,h1,h2⟩:=fsI_some _ _ _ hf
  have h3:=look_ty h2
  have h4:=XU (List.mem_of_getElem? h1)
  show e.ty.size≤_
  omega
def dclZ:Dcl:=⟨0,([]:List UInt8),0,tmZ,tmZ,0,([]:List Ctr),(⟨0,tmZ,([]:List Tm)⟩:Rcr),([]:List Fn)⟩
theorem dclZ_size:dclZ.size=4:=by
 unfold Dcl.size dclZ
 simp only [tmZ_size];rfl
theorem m16_size (env:List Dcl) (n:Bs) (h:YX env≤800000000):∃ r,DN env n=some r∧r.1.size≤800000000:=by
 have hz:dclZ.size≤800000000:=by rw [dclZ_size];omega
 unfold DN
 rw [m14_eq env n (by omega)]
 unfold W5
 cases hf:KC env n with
 | none=>exact ⟨_,rfl,hz⟩
 | some e =>
  obtain ⟨i,d,h1,h2⟩:=fsI_some _ _ _ hf
  have h3:JP env e.decl=some d:=by rw [look_decl h2,Nat.zero_add];exact idx_at h1
  have h4:=XU (List.mem_of_getElem? h1)
  show ∃ r,Option.bind (some (e,(0:Int))) _=some r∧_
  rw [Option.bind_some]
  dsimp only
  rw [h3]
  have h5:d.size≤800000000:=by omega
  cases (e.kind==3) with
  | true=>exact ⟨_,rfl,h5⟩
  | false =>
   cases (e.kind==4) with
   | true=>exact ⟨_,rfl,h5⟩
   | false =>
    cases (e.kind==5) with
    | true=>exact ⟨_,rfl,h5⟩
    | false=>exact ⟨_,rfl,hz⟩
theorem m18_self (e:Ent) (h:e.ty.size≤900000000):m18 e e=some true:=by
 unfold m18
 rw [Kv,Kv,Kv,Kv,Kr e.ty h];rfl
theorem m4_true (env:List Dcl) (n:Bs) (he:YX env≤100000000) (hr:∀ d∈env,U2 d.rcr.params):m4 env n=some true:=by
 obtain ⟨b,h1,-⟩:=m9_some env (by omega)
 obtain ⟨r,h2,h3⟩:=check_eq env (by omega) hr
 obtain ⟨q,h4,h5⟩:=m16_size env n (by omega)
 have h6:m17 env n=some q:=by rw [m17_eq env n (by omega)];exact h4
 have h7:=findR_ty env n (by omega)
 have key:Uo false env n=some true:=by
  unfold Uo
  rw [m14_eq env n (by omega),Us env n (by omega),h4,h6]
  simp only [Option.bind_some,cond_false]
  rw [m18_self _ (by omega),m19_self q.1 (by omega),Kv,Kv,eq_selfb];rfl
 have key2:Uo true env n=some true:=rfl
 unfold m4 m13
 rw [h1]
 cases b with
 | false=>exact key2
 | true =>
  show Option.bind (Option.bind (Option.bind (DU env) _) _) _=_
  rw [h3]
  simp only [Option.bind_some]
  cases (r.2==0) with
  | false=>exact key2
  | true =>
   show Uo (decide (200 < (n.length:Int))) env n=_
   cases decide (200 < (n.length:Int)) with
   | true=>exact key2
   | false=>exact key
end Go.Proofs.Ytafddfoefeploaa
namespace Go.Proofs.Ytafddfoefeploaa
open Go.RowKit Go.ChangeShapes Go.WideShapes
def Da (w:World):Nat→Nat→Prop:=fun b _=>b < w.heap.size
def RC (w:World) (e:List C) (cs:List Value):Prop:=cs.length=e.length∧∀ (j:Nat) (c:C),e[j]?=some c→∃ u,cs[j]?=some u∧Reads (Da w) w c u
theorem RC.app {w:World} {e0 e1:List C} {cs:List Value} (h0:RC w e0 (cs.take e0.length)) (h1:RC w e1 (cs.drop e0.length)) (hl:cs.length=e0.length+e1.length):RC w (e0++e1) cs:=by
 refine ⟨by rw [hl,List.length_append],fun j c hj=>?_⟩
 rcases Nat.lt_or_ge j e0.length with h | h
 ·rw [List.getElem?_append_left h] at hj
  obtain ⟨u,h2,h3⟩:=h0.2 j c hj
  rw [List.getElem?_take,if_pos h] at h2
  exact ⟨u,h2,h3⟩
 ·rw [List.getElem?_append_right h] at hj
  obtain ⟨u,h2,h3⟩:=h1.2 _ c hj
  rw [List.getElem?_drop,show e0.length+(j - e0.length)=j by omega] at h2
  exact ⟨u,h2,h3⟩
section
variable {H:Type} (enc:TypeId×Value→H) (P:Program) (w:World)
end
section
variable {H:Type} {enc:TypeId×Value→H} {P:Program} {w:World}
end
end Go.Proofs.Ytafddfoefeploaa
namespace Go.Proofs.Ytafddfoefeploaa
open Go.RowKit Go.ChangeShapes Go.WideShapes
theorem X4 {H:Type} (d:DataW H):1≤Rows.uptoBulk d:=by
 cases d with
 | lit l=>cases l <;> simp [Rows.uptoBulk]
 | nil=>simp [Rows.uptoBulk]
 | ptr d=>simp [Rows.uptoBulk]
 | slice elems spare=>simp [Rows.uptoBulk]
 | agg parts=>simp [Rows.uptoBulk]
 | iface t d=>simp [Rows.uptoBulk]
 | map entries=>simp [Rows.uptoBulk]
 | held h=>simp [Rows.uptoBulk]
theorem bulk_all {H:Type}:∀ l:List (DataW H),Rows.uptoBulkAll l=(l.map Rows.uptoBulk).sum
 | []=>by simp [Rows.uptoBulkAll]
 | x::l=>by simp only [Rows.uptoBulkAll,List.map_cons,List.sum_cons,bulk_all l]
theorem RC.nil {w:World} {cs:List Value}:RC w [] (cs.take 0):=⟨by simp,fun j c h=>by cases h⟩
theorem RC.snoc {w:World} {e0 e1:List C} {cs:List Value} {m k:Nat} (h0:RC w e0 (cs.take m)) (h1:RC w e1 ((cs.drop m).take k)) (hm:e0.length=m):RC w (e0++e1) (cs.take (m+k)):=by
 have h2:=h0.1
 have h3:=h1.1
 refine RC.app ?_ ?_ ?_
 ·rw [List.take_take,hm,Nat.min_eq_left (by omega)];exact h0
 ·rw [hm,List.drop_take,Nat.add_sub_cancel_left];exact h1
 ·rw [← h3,hm]
  simp only [List.length_take,List.length_drop] at h2 ⊢
  omega
section
variable {H:Type} (enc:TypeId×Value→H) (P:Program) (w:World)
def Jh (N:Nat) (t:TypeId) (α:Type) [Enc α] (μ:α→Nat):Prop:=∀ (fuel:Nat) (cs:List Value) (x:DataW H×List MemPlace),DataW.trod enc P w 0 (fun _=>true) true fuel t cs=some x→Rows.uptoBulk x.1≤N→∃ v:α,RC w (Enc.enc v) cs∧μ v≤Rows.uptoBulk x.1
end
section
variable {H:Type} {enc:TypeId×Value→H} {P:Program} {w:World} {N:Nat}
theorem Xk {t:TypeId} (ht:P.underlying t=some (.int .i64)):Jh enc P w N t Int (fun _=>1):=by
 intro fuel cs x h hb
 obtain ⟨n,rfl,rfl,-⟩:=DataW.trod_int ht h
 refine ⟨n,⟨Z,fun j c hj=>?_⟩,X4 _⟩
 cases j with
 | zero=>cases hj;exact ⟨_,rfl,Reads.v _ rfl⟩
 | succ j=>cases hj
theorem z_bool {t:TypeId} (ht:P.underlying t=some .bool):Jh enc P w N t Bool (fun _=>1):=by
 intro fuel cs x h hb
 obtain ⟨n,rfl,rfl⟩:=DataW.trod_bool ht h
 refine ⟨n,⟨Z,fun j c hj=>?_⟩,X4 _⟩
 cases j with
 | zero=>cases hj;exact ⟨_,rfl,Reads.v _ rfl⟩
 | succ j=>cases hj
theorem UQ {t:TypeId} (ht:P.underlying t=some .string):Jh enc P w N t Bs (fun s=>1+s.length):=by
 intro fuel cs x h hb
 obtain ⟨s,rfl,rfl,-⟩:=DataW.trod_string ht h
 refine ⟨s.data.toList,⟨rfl,fun j c hj=>?_⟩,by simp [Rows.uptoBulk];omega⟩
 cases j with
 | zero=>cases hj;exact ⟨_,rfl,by rw [show sB s.data.toList=s from rfl];exact Reads.v _ rfl⟩
 | succ j=>cases hj
theorem Gn {α:Type} [Enc α] [EncLen α] {μ:α→Nat} {t e:TypeId} (ht:P.underlying t=some (.slice e)) (hc:P.cellsOf e=Enc.sz α) (ho:Jh enc P w N e α μ):Jh enc P w N t (List α) (fun l=>1+(l.map μ).sum):=by
 intro fuel cs x h hb
 rcases Deep.open_slice ht h with ⟨rfl,rfl⟩ | ⟨a,len,cap,m,n,D,Pl,rfl,-,hlc,-,hm,rfl,hel⟩
 ·refine ⟨[],⟨rfl,fun j c hj=>?_⟩,by simp [Rows.uptoBulk]⟩
  cases j with
  | zero =>
   cases hj
   refine ⟨_,Z,?_⟩
   rw [Enc.nil]
   exact .sl _ [] none 0 0 0 (fun _ _=>undef) (Nat.le_refl _) (fun h=>absurd rfl h) (fun i e h=>by simp at h) (fun i e j c h=>by simp at h) (fun i e j c h=>by simp at h) (fun i e j c h=>by simp at h)
  | succ j=>cases hj
 ·have hm':m=cap:=by rw [hm];rfl
  have hbk:((List.range len).map fun i=>Rows.uptoBulk (D i)).sum+1≤Rows.uptoBulk (DataW.slice (H:=H) ((List.range len).map D) ((List.range (m - len)).map fun j=>D (len+j))):=by
   simp only [Rows.uptoBulk,bulk_all,List.map_map]
   have:(List.map (Rows.uptoBulk ∘ D) (List.range len)).sum=((List.range len).map fun i=>Rows.uptoBulk (D i)).sum:=rfl
   omega
  dsimp only at hb
  have hD:∀ k,k < len→Rows.uptoBulk (D k)≤N:=fun k hk=>by
   have:=Z9 (fun i=>Rows.uptoBulk (D i)) (List.mem_range.2 hk)
   omega
  have hall:∀ k,k≤len→∃ l:List α,l.length=k∧(l.map μ).sum≤((List.range k).map fun i=>Rows.uptoBulk (D i)).sum∧∀ (i:Nat) (v:α),l[i]?=some v→∃ cs',w.cells? 0 (a.add (i * Enc.sz α)) (Enc.sz α)=some cs'∧RC w (Enc.enc v) cs':=by
   intro k
   induction k with
   | zero=>intro _;exact ⟨[],rfl,Nat.le_refl _,fun i v h=>by simp at h⟩
   | succ k ih =>
    intro hk
    obtain ⟨l,h1,hsum,h2⟩:=ih (by omega)
    obtain ⟨cs',h3,h4⟩:=hel k (by omega)
    rw [hc] at h3
    obtain ⟨v,hv,hμ⟩:=ho _ _ _ h4 (hD k (by omega))
    refine ⟨l++[v],by simp [h1],?_,fun i v' hi=>?_⟩
    ·rw [List.range_succ]
     simp only [List.map_append,List.map_cons,List.map_nil,List.sum_append,List.sum_cons,List.sum_nil]
     dsimp only at hμ
     omega
    rcases Nat.lt_or_ge i l.length with h | h
    ·rw [List.getElem?_append_left h] at hi;exact h2 i v' hi
    ·rw [List.getElem?_append_right h] at hi
     have hi0:i - l.length=0:=by
      rcases Nat.eq_zero_or_pos (i - l.length) with h0 | h0
      ·exact h0
      ·rw [List.getElem?_eq_none (by simp only [List.length_singleton];omega)] at hi;cases hi
     have hik:i=k:=by omega
     rw [hi0] at hi;cases hi
     rw [hik];exact ⟨cs',h3,hv⟩
  obtain ⟨l,hl,hsum,hcells⟩:=hall len (Nat.le_refl _)
  have hpos:0 < Enc.sz α:=EncLen.pos
  have hspot:l ≠ []→a.spot=none∧a.block < w.heap.size:=by
   intro hne
   obtain ⟨v,r,rfl⟩:=List.exists_cons_of_ne_nil hne
   obtain ⟨cs',h1,h2⟩:=hcells 0 v rfl
   obtain ⟨-,h3,h4⟩:=World.cells?_some h1
   have h5:=h4 0 hpos
   rw [Nat.zero_mul,Deep.add_add,Nat.zero_add] at h5
   have h6:(cs'[0]?).isSome:=by rw [List.getElem?_eq_getElem (by omega)];rfl
   rw [← h5] at h6
   have h7:(a.add 0)=a:=by simp [Addr.add]
   rw [h7] at h6
   unfold World.cell? at h6
   split at h6
   ·rename_i c _ _ hb
    refine ⟨?_,(Array.getElem?_eq_some_iff.1 hb).1⟩
    split at h6
    ·cases h6
    ·rename_i hs
     cases hsp:a.spot with
     | none=>rfl
     | some q=>rw [hsp] at hs;exact absurd rfl hs
   ·cases h6
  have hadd:l ≠ []→∀ k,a.add k=⟨a.block,a.off+k,none⟩:=by
   intro hne k
   have h1:=(hspot hne).1
   unfold Addr.add
   split
   ·rename_i h0;subst h0
    obtain ⟨b,o,sp⟩:=a
    simp only at h1;subst h1;rfl
   ·rfl
  have hcell:∀ (i:Nat) (e':List C) (j:Nat) (c:C),(Enc.encL l)[i]?=some e'→e'[j]?=some c→∃ u,w.cell? ⟨a.block,a.off+i * Enc.sz α+j,none⟩=some u∧Reads (Da w) w c u:=by
   intro i e' j c hi hj
   rw [Enc.map,List.getElem?_map] at hi
   cases hx:l[i]? with
   | none=>rw [hx] at hi;cases hi
   | some v =>
    rw [hx] at hi;cases hi
    have hne:l ≠ []:=by intro h0;rw [h0] at hx;simp at hx
    obtain ⟨cs',h1,h2⟩:=hcells i v hx
    obtain ⟨u,h3,h4⟩:=h2.2 j c hj
    obtain ⟨-,h5,h6⟩:=World.cells?_some h1
    have hjl:j < Enc.sz α:=by have:=(List.getElem?_eq_some_iff.1 h3).1;omega
    have h7:=h6 j hjl
    rw [Deep.add_add,hadd hne,h3,← Nat.add_assoc] at h7
    exact ⟨u,h7,h4⟩
  refine ⟨l,⟨rfl,fun j c hj=>?_⟩,by dsimp only;omega⟩
  cases j with
  | succ j=>cases hj
  | zero =>
   cases hj
   refine ⟨_,Z,?_⟩
   have hR:=Reads.sl (S:=Da w) (w:=w) (Enc.sz α) (Enc.encL l) (some a) cap a.block a.off (fun i j=>(w.cell? ⟨a.block,a.off+i * Enc.sz α+j,none⟩).getD undef) (by rw [Enc.len,hl];exact hlc)
    (fun hne=>by
     have hne':l ≠ []:=by intro h0;rw [h0,Enc.nil] at hne;exact hne rfl
     have h7:(a.add 0)=a:=by simp [Addr.add]
     rw [← h7,hadd hne'])
    (fun i e' hi=>encL_lens l e' (List.mem_of_getElem? hi))
    (fun i e' j c hi hj=>by obtain ⟨u,h1,-⟩:=hcell i e' j c hi hj;rw [h1];rfl)
    (fun i e' j c hi hj=>by
     have hne:l ≠ []:=by intro h0;rw [h0,Enc.nil] at hi;simp at hi
     exact (hspot hne).2)
    (fun i e' j c hi hj=>by obtain ⟨u,h1,h2⟩:=hcell i e' j c hi hj;rw [h1];exact h2)
   rw [Enc.len,hl] at hR
   exact hR
theorem U3 {α:Type} [Enc α] {μ:α→Nat} {t:TypeId} (h:∀ N,Jh enc P w N t α μ→Jh enc P w (N+1) t α μ):∀ N,Jh enc P w N t α μ
 | 0=>fun fuel cs x _ hb=>by have:=X4 x.1;omega
 | N+1=>h N (U3 h N)
end
section
variable {H:Type} {enc:TypeId×Value→H} {w:World} {N:Nat}
theorem ZC:Try.prog.cellsOf 3=1:=by kernel_rfl
theorem cells_4:Try.prog.cellsOf 4=1:=by kernel_rfl
theorem WH:Try.prog.cellsOf 9=1:=by kernel_rfl
theorem cells_30:Try.prog.cellsOf 30=1:=by kernel_rfl
theorem cells_31:Try.prog.cellsOf 31=1:=by kernel_rfl
theorem Gi:Try.prog.cellsOf 33=5:=by kernel_rfl
theorem cells_40:Try.prog.cellsOf 40=1:=by kernel_rfl
theorem cells_42:Try.prog.cellsOf 42=7:=by kernel_rfl
theorem cells_43:Try.prog.cellsOf 43=1:=by kernel_rfl
theorem cells_45:Try.prog.cellsOf 45=23:=by kernel_rfl
theorem cells_71:Try.prog.cellsOf 71=6:=by kernel_rfl
theorem cells_72:Try.prog.cellsOf 72=1:=by kernel_rfl
theorem cells_74:Try.prog.cellsOf 74=8:=by kernel_rfl
theorem cells_76:Try.prog.cellsOf 76=15:=by kernel_rfl
theorem cells_85:Try.prog.cellsOf 85=1:=by kernel_rfl
theorem cells_87:Try.prog.cellsOf 87=2:=by kernel_rfl
theorem cells_101:Try.prog.cellsOf 101=10:=by kernel_rfl
theorem cells_124:Try.prog.cellsOf 124=2:=by kernel_rfl
theorem z_lv:Jh enc Try.prog w (N+1) 124 LV (fun _=>1):=by
 intro fuel cs x h hb
 obtain ⟨xs,n,_,rfl,hl,hlen,hf⟩:=DataW.trod_struct Try.underlying124 h
 match xs,hlen with
 | [y0,y1],_ =>
  have hb':Rows.uptoBulk y0.1+Rows.uptoBulk y1.1+1≤Rows.uptoBulk (DataW.agg (H:=H) [y0.1,y1.1]):=by simp only [Rows.uptoBulk,Rows.uptoBulkAll];omega
  have hb2:Rows.uptoBulk (DataW.agg (H:=H) [y0.1,y1.1])≤N+1:=hb
  obtain ⟨v0,r0,m0⟩:=(Xk Try.underlying3:Jh enc Try.prog w N _ _ _) n _ _ (hf 0 _ rfl) (by omega)
  change RC w (Enc.enc v0) ((cs.drop 0).take (Try.prog.cellsOf 3)) at r0
  rw [ZC] at r0
  obtain ⟨v1,r1,m1⟩:=(Xk Try.underlying3:Jh enc Try.prog w N _ _ _) n _ _ (hf 1 _ rfl) (by omega)
  change RC w (Enc.enc v1) ((cs.drop 1).take (Try.prog.cellsOf 3)) at r1
  rw [ZC] at r1
  have hcs:cs.take 2=cs:=List.take_of_length_le (by rw [hl];exact Nat.le_of_eq cells_124)
  have hR:=((((RC.nil).snoc (k:=1) r0 rfl)).snoc (k:=1) r1 rfl)
  refine ⟨(v0,v1),by rw [← hcs];exact hR,Nat.le_trans ?_ hb'⟩
  show 1≤_
  omega
theorem z_lv':Jh enc Try.prog w N 124 LV (fun _=>1):=U3 (fun _ _=>z_lv) N
theorem z_lvl:Jh enc Try.prog w (N+1) 87 Lvl lvz:=by
 intro fuel cs x h hb
 obtain ⟨xs,n,_,rfl,hl,hlen,hf⟩:=DataW.trod_struct Try.underlying87 h
 match xs,hlen with
 | [y0,y1],_ =>
  have hb':Rows.uptoBulk y0.1+Rows.uptoBulk y1.1+1≤Rows.uptoBulk (DataW.agg (H:=H) [y0.1,y1.1]):=by simp only [Rows.uptoBulk,Rows.uptoBulkAll];omega
  have hb2:Rows.uptoBulk (DataW.agg (H:=H) [y0.1,y1.1])≤N+1:=hb
  obtain ⟨v0,r0,m0⟩:=(Xk Try.underlying3:Jh enc Try.prog w N _ _ _) n _ _ (hf 0 _ rfl) (by omega)
  change RC w (Enc.enc v0) ((cs.drop 0).take (Try.prog.cellsOf 3)) at r0
  rw [ZC] at r0
  obtain ⟨v1,r1,m1⟩:=(Gn Try.underlying85 (by kernel_rfl) z_lv':Jh enc Try.prog w N _ _ _) n _ _ (hf 1 _ rfl) (by omega)
  change RC w (Enc.enc v1) ((cs.drop 1).take (Try.prog.cellsOf 85)) at r1
  rw [cells_85] at r1
  have hcs:cs.take 2=cs:=List.take_of_length_le (by rw [hl];exact Nat.le_of_eq cells_87)
  have hR:=((((RC.nil).snoc (k:=1) r0 rfl)).snoc (k:=1) r1 rfl)
  refine ⟨⟨v0,v1⟩,by rw [← hcs];exact hR,Nat.le_trans ?_ hb'⟩
  show lvz ⟨v0,v1⟩≤_
  unfold lvz
  dsimp only at m0 m1 ⊢
  omega
theorem z_lvl':Jh enc Try.prog w N 87 Lvl lvz:=U3 (fun _ _=>z_lvl) N
theorem z_tm (hk:Jh enc Try.prog w N 33 Tm Tm.size):Jh enc Try.prog w (N+1) 33 Tm Tm.size:=by
 intro fuel cs x h hb
 obtain ⟨xs,n,_,rfl,hl,hlen,hf⟩:=DataW.trod_struct Try.underlying33 h
 match xs,hlen with
 | [y0,y1,y2,y3,y4],_ =>
  have hb':Rows.uptoBulk y0.1+Rows.uptoBulk y1.1+Rows.uptoBulk y2.1+Rows.uptoBulk y3.1+Rows.uptoBulk y4.1+1≤Rows.uptoBulk (DataW.agg (H:=H) [y0.1,y1.1,y2.1,y3.1,y4.1]):=by simp only [Rows.uptoBulk,Rows.uptoBulkAll];omega
  have hb2:Rows.uptoBulk (DataW.agg (H:=H) [y0.1,y1.1,y2.1,y3.1,y4.1])≤N+1:=hb
  obtain ⟨v0,r0,m0⟩:=(Xk Try.underlying3:Jh enc Try.prog w N _ _ _) n _ _ (hf 0 _ rfl) (by omega)
  change RC w (Enc.enc v0) ((cs.drop 0).take (Try.prog.cellsOf 3)) at r0
  rw [ZC] at r0
  obtain ⟨v1,r1,m1⟩:=(Xk Try.underlying3:Jh enc Try.prog w N _ _ _) n _ _ (hf 1 _ rfl) (by omega)
  change RC w (Enc.enc v1) ((cs.drop 1).take (Try.prog.cellsOf 3)) at r1
  rw [ZC] at r1
  obtain ⟨v2,r2,m2⟩:=(UQ Try.underlying9:Jh enc Try.prog w N _ _ _) n _ _ (hf 2 _ rfl) (by omega)
  change RC w (Enc.enc v2) ((cs.drop 2).take (Try.prog.cellsOf 9)) at r2
  rw [WH] at r2
  obtain ⟨v3,r3,m3⟩:=(Gn Try.underlying30 (by kernel_rfl) z_lvl':Jh enc Try.prog w N _ _ _) n _ _ (hf 3 _ rfl) (by omega)
  change RC w (Enc.enc v3) ((cs.drop 3).take (Try.prog.cellsOf 30)) at r3
  rw [cells_30] at r3
  obtain ⟨v4,r4,m4⟩:=(Gn Try.underlying31 (by kernel_rfl) hk:Jh enc Try.prog w N _ _ _) n _ _ (hf 4 _ rfl) (by omega)
  change RC w (Enc.enc v4) ((cs.drop 4).take (Try.prog.cellsOf 31)) at r4
  rw [cells_31] at r4
  have hcs:cs.take 5=cs:=List.take_of_length_le (by rw [hl];exact Nat.le_of_eq Gi)
  have hR:=((((((((((RC.nil).snoc (k:=1) r0 rfl)).snoc (k:=1) r1 rfl)).snoc (k:=1) r2 rfl)).snoc (k:=1) r3 rfl)).snoc (k:=1) r4 rfl)
  refine ⟨Tm.mk v0 v1 v2 v3 v4,by rw [← hcs];exact hR,Nat.le_trans ?_ hb'⟩
  rw [Tm.size_eq]
  simp only [Tm.name,Tm.kids,Tm.levels]
  dsimp only at m0 m1 m2 m3 m4 ⊢
  omega
theorem Ub:Jh enc Try.prog w N 33 Tm Tm.size:=U3 (fun _ h=>z_tm h) N
theorem z_ctr:Jh enc Try.prog w (N+1) 71 Ctr csz:=by
 intro fuel cs x h hb
 obtain ⟨xs,n,_,rfl,hl,hlen,hf⟩:=DataW.trod_struct Try.underlying71 h
 match xs,hlen with
 | [y0,y1],_ =>
  have hb':Rows.uptoBulk y0.1+Rows.uptoBulk y1.1+1≤Rows.uptoBulk (DataW.agg (H:=H) [y0.1,y1.1]):=by simp only [Rows.uptoBulk,Rows.uptoBulkAll];omega
  have hb2:Rows.uptoBulk (DataW.agg (H:=H) [y0.1,y1.1])≤N+1:=hb
  obtain ⟨v0,r0,m0⟩:=(UQ Try.underlying9:Jh enc Try.prog w N _ _ _) n _ _ (hf 0 _ rfl) (by omega)
  change RC w (Enc.enc v0) ((cs.drop 0).take (Try.prog.cellsOf 9)) at r0
  rw [WH] at r0
  obtain ⟨v1,r1,m1⟩:=(Ub:Jh enc Try.prog w N _ _ _) n _ _ (hf 1 _ rfl) (by omega)
  change RC w (Enc.enc v1) ((cs.drop 1).take (Try.prog.cellsOf 33)) at r1
  rw [Gi] at r1
  have hcs:cs.take 6=cs:=List.take_of_length_le (by rw [hl];exact Nat.le_of_eq cells_71)
  have hR:=((((RC.nil).snoc (k:=1) r0 rfl)).snoc (k:=5) r1 rfl)
  refine ⟨⟨v0,v1⟩,by rw [← hcs];exact hR,Nat.le_trans ?_ hb'⟩
  show csz ⟨v0,v1⟩≤_
  unfold csz
  dsimp only at m0 m1 ⊢
  omega
theorem z_ctr':Jh enc Try.prog w N 71 Ctr csz:=U3 (fun _ _=>z_ctr) N
theorem z_tr (hk:Jh enc Try.prog w N 101 Br bsz):Jh enc Try.prog w (N+1) 74 Tr Tr.size:=by
 intro fuel cs x h hb
 obtain ⟨xs,n,_,rfl,hl,hlen,hf⟩:=DataW.trod_struct Try.underlying74 h
 match xs,hlen with
 | [y0,y1,y2,y3],_ =>
  have hb':Rows.uptoBulk y0.1+Rows.uptoBulk y1.1+Rows.uptoBulk y2.1+Rows.uptoBulk y3.1+1≤Rows.uptoBulk (DataW.agg (H:=H) [y0.1,y1.1,y2.1,y3.1]):=by simp only [Rows.uptoBulk,Rows.uptoBulkAll];omega
  have hb2:Rows.uptoBulk (DataW.agg (H:=H) [y0.1,y1.1,y2.1,y3.1])≤N+1:=hb
  obtain ⟨v0,r0,m0⟩:=(Xk Try.underlying3:Jh enc Try.prog w N _ _ _) n _ _ (hf 0 _ rfl) (by omega)
  change RC w (Enc.enc v0) ((cs.drop 0).take (Try.prog.cellsOf 3)) at r0
  rw [ZC] at r0
  obtain ⟨v1,r1,m1⟩:=(Ub:Jh enc Try.prog w N _ _ _) n _ _ (hf 1 _ rfl) (by omega)
  change RC w (Enc.enc v1) ((cs.drop 1).take (Try.prog.cellsOf 33)) at r1
  rw [Gi] at r1
  obtain ⟨v2,r2,m2⟩:=(Xk Try.underlying3:Jh enc Try.prog w N _ _ _) n _ _ (hf 2 _ rfl) (by omega)
  change RC w (Enc.enc v2) ((cs.drop 6).take (Try.prog.cellsOf 3)) at r2
  rw [ZC] at r2
  obtain ⟨v3,r3,m3⟩:=(Gn Try.underlying72 (by kernel_rfl) hk:Jh enc Try.prog w N _ _ _) n _ _ (hf 3 _ rfl) (by omega)
  change RC w (Enc.enc v3) ((cs.drop 7).take (Try.prog.cellsOf 72)) at r3
  rw [cells_72] at r3
  have hcs:cs.take 8=cs:=List.take_of_length_le (by rw [hl];exact Nat.le_of_eq cells_74)
  have hR:=((((((((RC.nil).snoc (k:=1) r0 rfl)).snoc (k:=5) r1 rfl)).snoc (k:=1) r2 rfl)).snoc (k:=1) r3 rfl)
  refine ⟨Tr.mk v0 v1 v2 v3,by rw [← hcs];exact hR,Nat.le_trans ?_ hb'⟩
  rw [Tr.size_eq]
  simp only [Tr.body,Tr.branches]
  dsimp only at m0 m1 m2 m3 ⊢
  omega
theorem z_br (hk:Jh enc Try.prog w N 74 Tr Tr.size):Jh enc Try.prog w (N+1) 101 Br bsz:=by
 intro fuel cs x h hb
 obtain ⟨xs,n,_,rfl,hl,hlen,hf⟩:=DataW.trod_struct Try.underlying101 h
 match xs,hlen with
 | [y0,y1,y2],_ =>
  have hb':Rows.uptoBulk y0.1+Rows.uptoBulk y1.1+Rows.uptoBulk y2.1+1≤Rows.uptoBulk (DataW.agg (H:=H) [y0.1,y1.1,y2.1]):=by simp only [Rows.uptoBulk,Rows.uptoBulkAll];omega
  have hb2:Rows.uptoBulk (DataW.agg (H:=H) [y0.1,y1.1,y2.1])≤N+1:=hb
  obtain ⟨v0,r0,m0⟩:=(UQ Try.underlying9:Jh enc Try.prog w N _ _ _) n _ _ (hf 0 _ rfl) (by omega)
  change RC w (Enc.enc v0) ((cs.drop 0).take (Try.prog.cellsOf 9)) at r0
  rw [WH] at r0
  obtain ⟨v1,r1,m1⟩:=(z_bool Try.underlying4:Jh enc Try.prog w N _ _ _) n _ _ (hf 1 _ rfl) (by omega)
  change RC w (Enc.enc v1) ((cs.drop 1).take (Try.prog.cellsOf 4)) at r1
  rw [cells_4] at r1
  obtain ⟨v2,r2,m2⟩:=hk n _ _ (hf 2 _ rfl) (by omega)
  change RC w (Enc.enc v2) ((cs.drop 2).take (Try.prog.cellsOf 74)) at r2
  rw [cells_74] at r2
  have hcs:cs.take 10=cs:=List.take_of_length_le (by rw [hl];exact Nat.le_of_eq cells_101)
  have hR:=((((((RC.nil).snoc (k:=1) r0 rfl)).snoc (k:=1) r1 rfl)).snoc (k:=8) r2 rfl)
  refine ⟨⟨v0,v1,v2⟩,by rw [← hcs];exact hR,Nat.le_trans ?_ hb'⟩
  show bsz ⟨v0,v1,v2⟩≤_
  unfold bsz
  dsimp only at m0 m1 m2 ⊢
  omega
theorem z_trbr:∀ N,Jh enc Try.prog w N 74 Tr Tr.size∧Jh enc Try.prog w N 101 Br bsz
 | 0=>⟨fun fuel cs x _ hb=>by have:=X4 x.1;omega,fun fuel cs x _ hb=>by have:=X4 x.1;omega⟩
 | N+1=>⟨z_tr (z_trbr N).2,z_br (z_trbr N).1⟩
theorem z_fn:Jh enc Try.prog w (N+1) 76 Fn fsz:=by
 intro fuel cs x h hb
 obtain ⟨xs,n,_,rfl,hl,hlen,hf⟩:=DataW.trod_struct Try.underlying76 h
 match xs,hlen with
 | [y0,y1,y2,y3],_ =>
  have hb':Rows.uptoBulk y0.1+Rows.uptoBulk y1.1+Rows.uptoBulk y2.1+Rows.uptoBulk y3.1+1≤Rows.uptoBulk (DataW.agg (H:=H) [y0.1,y1.1,y2.1,y3.1]):=by simp only [Rows.uptoBulk,Rows.uptoBulkAll];omega
  have hb2:Rows.uptoBulk (DataW.agg (H:=H) [y0.1,y1.1,y2.1,y3.1])≤N+1:=hb
  obtain ⟨v0,r0,m0⟩:=(UQ Try.underlying9:Jh enc Try.prog w N _ _ _) n _ _ (hf 0 _ rfl) (by omega)
  change RC w (Enc.enc v0) ((cs.drop 0).take (Try.prog.cellsOf 9)) at r0
  rw [WH] at r0
  obtain ⟨v1,r1,m1⟩:=(Ub:Jh enc Try.prog w N _ _ _) n _ _ (hf 1 _ rfl) (by omega)
  change RC w (Enc.enc v1) ((cs.drop 1).take (Try.prog.cellsOf 33)) at r1
  rw [Gi] at r1
  obtain ⟨v2,r2,m2⟩:=(Xk Try.underlying3:Jh enc Try.prog w N _ _ _) n _ _ (hf 2 _ rfl) (by omega)
  change RC w (Enc.enc v2) ((cs.drop 6).take (Try.prog.cellsOf 3)) at r2
  rw [ZC] at r2
  obtain ⟨v3,r3,m3⟩:=(z_trbr N).1 n _ _ (hf 3 _ rfl) (by omega)
  change RC w (Enc.enc v3) ((cs.drop 7).take (Try.prog.cellsOf 74)) at r3
  rw [cells_74] at r3
  have hcs:cs.take 15=cs:=List.take_of_length_le (by rw [hl];exact Nat.le_of_eq cells_76)
  have hR:=((((((((RC.nil).snoc (k:=1) r0 rfl)).snoc (k:=5) r1 rfl)).snoc (k:=1) r2 rfl)).snoc (k:=8) r3 rfl)
  refine ⟨⟨v0,v1,v2,v3⟩,by rw [← hcs];exact hR,Nat.le_trans ?_ hb'⟩
  show fsz ⟨v0,v1,v2,v3⟩≤_
  unfold fsz
  dsimp only at m0 m1 m2 m3 ⊢
  omega
theorem z_fn':Jh enc Try.prog w N 76 Fn fsz:=U3 (fun _ _=>z_fn) N
end
end Go.Proofs.Ytafddfoefeploaa
namespace Go.Proofs.Ytafddfoefeploaa
open Go.ChangeShapes Go.WideShapes Go.ChangeAt Go.RowKit Go.WideElems
theorem own:ownKnob Try.prog.godebug=none:=by kernel_rfl
theorem laidOut:laidOutB Try.prog=true:=by kernel_rfl
theorem slice_readsZ {H:Type} {enc:TypeId×Value→H} {α:Type} [Enc α] [EncLen α] {μ:List α→Nat} {W:World} {base:Nat} {t e:TypeId} {v:Value} {d:DataW H} {p:List MemPlace} (ht:Try.prog.underlying t=some (.slice e)) (ho:∀ N,Jh enc Try.prog W N t (List α) μ)
  (hval:Value.okWide Try.prog W .any base t v) (h:DataW.Trod enc Try.prog W 0 (fun _=>true) true t v d p):∃ l:List α,Reads (Da W) W (.sl (Enc.sz α) (Enc.encL l)) v∧μ l≤Rows.uptoBulk d:=by
 obtain ⟨fuel,hf⟩:=h
 obtain ⟨l,hl,hμ⟩:=ho _ _ _ _ hf (Nat.le_refl _)
 refine ⟨l,?_,hμ⟩
 obtain ⟨u,h2,h3⟩:=hl.2 0 _ rfl
 have h4:v.cells=#[v]:=by
  have h5:=hl.1
  cases v with
  | agg cs =>
   exfalso
   obtain ⟨s,n,c,h7⟩:=okWide_slice ht hval
   cases h7
  | _=>rfl
 rw [h4] at h2
 cases h2
 exact h3
end Go.Proofs.Ytafddfoefeploaa
namespace Go.Proofs.Ytafddfoefeploaa
open Go.ChangeShapes Go.WideShapes Go.ChangeAt Go.RowKit Go.WideElems
def IntR:Type:={n:Int // U2 n}
def RcrR:Type:={r:Rcr // U2 r.params}
def DclR:Type:={d:Dcl // U2 d.rcr.params}
noncomputable def intRC (n:IntR):List C:=[.v (.int .i64 n.1)]
noncomputable def rcrRC (r:RcrR):List C:=rcrC r.1
noncomputable def dclRC (d:DclR):List C:=DB d.1
noncomputable instance:Enc IntR:=⟨1,intRC,fun l=>l.map intRC,rfl,fun a b=>List.map_append,fun _=>rfl⟩
noncomputable instance:Enc RcrR:=⟨7,rcrRC,fun l=>l.map rcrRC,rfl,fun a b=>List.map_append,fun _=>rfl⟩
noncomputable instance:Enc DclR:=⟨23,dclRC,fun l=>l.map dclRC,rfl,fun a b=>List.map_append,fun _=>rfl⟩
instance:EncLen DclR:=⟨fun t=>rfl,Nat.succ_pos 22⟩
section
variable {H:Type} {enc:TypeId×Value→H} {w:World} {N:Nat}
theorem z_intR {P:Program} {t:TypeId} (ht:P.underlying t=some (.int .i64)):Jh enc P w N t IntR (fun _=>1):=by
 intro fuel cs x h hb
 obtain ⟨n,rfl,rfl,hw⟩:=DataW.trod_int ht h
 have h1:U2 n:=by
  unfold Lit.wf at hw
  rw [Bool.and_eq_true,decide_eq_true_eq,decide_eq_true_eq] at hw
  exact hw
 refine ⟨⟨n,h1⟩,⟨Z,fun j c hj=>?_⟩,X4 _⟩
 cases j with
 | zero=>cases hj;exact ⟨_,rfl,Reads.v _ rfl⟩
 | succ j=>cases hj
theorem z_rcrR:Jh enc Try.prog w (N+1) 42 RcrR (fun r=>r.1.ty.size+(r.1.rules.map Tm.size).sum):=by
 intro fuel cs x h hb
 obtain ⟨xs,n,_,rfl,hl,hlen,hf⟩:=DataW.trod_struct Try.underlying42 h
 match xs,hlen with
 | [y0,y1,y2],_ =>
  have hb':Rows.uptoBulk y0.1+Rows.uptoBulk y1.1+Rows.uptoBulk y2.1+1≤Rows.uptoBulk (DataW.agg (H:=H) [y0.1,y1.1,y2.1]):=by simp only [Rows.uptoBulk,Rows.uptoBulkAll];omega
  have hb2:Rows.uptoBulk (DataW.agg (H:=H) [y0.1,y1.1,y2.1])≤N+1:=hb
  obtain ⟨v0,r0,m0⟩:=(z_intR Try.underlying3:Jh enc Try.prog w N _ _ _) n _ _ (hf 0 _ rfl) (by omega)
  change RC w (Enc.enc v0) ((cs.drop 0).take (Try.prog.cellsOf 3)) at r0
  rw [ZC] at r0
  obtain ⟨v1,r1,m1⟩:=(Ub:Jh enc Try.prog w N _ _ _) n _ _ (hf 1 _ rfl) (by omega)
  change RC w (Enc.enc v1) ((cs.drop 1).take (Try.prog.cellsOf 33)) at r1
  rw [Gi] at r1
  obtain ⟨v2,r2,m2⟩:=(Gn Try.underlying31 (by kernel_rfl) Ub:Jh enc Try.prog w N _ _ _) n _ _ (hf 2 _ rfl) (by omega)
  change RC w (Enc.enc v2) ((cs.drop 6).take (Try.prog.cellsOf 31)) at r2
  rw [cells_31] at r2
  have hcs:cs.take 7=cs:=List.take_of_length_le (by rw [hl];exact Nat.le_of_eq cells_42)
  have hR:=((((((RC.nil).snoc (k:=1) r0 rfl)).snoc (k:=5) r1 rfl)).snoc (k:=1) r2 rfl)
  refine ⟨⟨⟨v0.1,v1,v2⟩,v0.2⟩,by rw [← hcs];exact hR,Nat.le_trans ?_ hb'⟩
  dsimp only at m0 m1 m2 ⊢
  omega
theorem z_rcrR':Jh enc Try.prog w N 42 RcrR (fun r=>r.1.ty.size+(r.1.rules.map Tm.size).sum):=U3 (fun _ _=>z_rcrR) N
theorem z_dclR:Jh enc Try.prog w (N+1) 45 DclR (fun d=>d.1.size):=by
 intro fuel cs x h hb
 obtain ⟨xs,n,_,rfl,hl,hlen,hf⟩:=DataW.trod_struct Try.underlying45 h
 match xs,hlen with
 | [y0,y1,y2,y3,y4,y5,y6,y7,y8],_ =>
  have hb':Rows.uptoBulk y0.1+Rows.uptoBulk y1.1+Rows.uptoBulk y2.1+Rows.uptoBulk y3.1+Rows.uptoBulk y4.1+Rows.uptoBulk y5.1+Rows.uptoBulk y6.1+Rows.uptoBulk y7.1+Rows.uptoBulk y8.1+1≤Rows.uptoBulk (DataW.agg (H:=H) [y0.1,y1.1,y2.1,y3.1,y4.1,y5.1,y6.1,y7.1,y8.1]):=by simp only [Rows.uptoBulk,Rows.uptoBulkAll];omega
  have hb2:Rows.uptoBulk (DataW.agg (H:=H) [y0.1,y1.1,y2.1,y3.1,y4.1,y5.1,y6.1,y7.1,y8.1])≤N+1:=hb
  obtain ⟨v0,r0,m0⟩:=(Xk Try.underlying3:Jh enc Try.prog w N _ _ _) n _ _ (hf 0 _ rfl) (by omega)
  change RC w (Enc.enc v0) ((cs.drop 0).take (Try.prog.cellsOf 3)) at r0
  rw [ZC] at r0
  obtain ⟨v1,r1,m1⟩:=(UQ Try.underlying9:Jh enc Try.prog w N _ _ _) n _ _ (hf 1 _ rfl) (by omega)
  change RC w (Enc.enc v1) ((cs.drop 1).take (Try.prog.cellsOf 9)) at r1
  rw [WH] at r1
  obtain ⟨v2,r2,m2⟩:=(Xk Try.underlying3:Jh enc Try.prog w N _ _ _) n _ _ (hf 2 _ rfl) (by omega)
  change RC w (Enc.enc v2) ((cs.drop 2).take (Try.prog.cellsOf 3)) at r2
  rw [ZC] at r2
  obtain ⟨v3,r3,m3⟩:=(Ub:Jh enc Try.prog w N _ _ _) n _ _ (hf 3 _ rfl) (by omega)
  change RC w (Enc.enc v3) ((cs.drop 3).take (Try.prog.cellsOf 33)) at r3
  rw [Gi] at r3
  obtain ⟨v4,r4,m4⟩:=(Ub:Jh enc Try.prog w N _ _ _) n _ _ (hf 4 _ rfl) (by omega)
  change RC w (Enc.enc v4) ((cs.drop 8).take (Try.prog.cellsOf 33)) at r4
  rw [Gi] at r4
  obtain ⟨v5,r5,m5⟩:=(Xk Try.underlying3:Jh enc Try.prog w N _ _ _) n _ _ (hf 5 _ rfl) (by omega)
  change RC w (Enc.enc v5) ((cs.drop 13).take (Try.prog.cellsOf 3)) at r5
  rw [ZC] at r5
  obtain ⟨v6,r6,m6⟩:=(Gn Try.underlying40 (by kernel_rfl) z_ctr':Jh enc Try.prog w N _ _ _) n _ _ (hf 6 _ rfl) (by omega)
  change RC w (Enc.enc v6) ((cs.drop 14).take (Try.prog.cellsOf 40)) at r6
  rw [cells_40] at r6
  obtain ⟨v7,r7,m7⟩:=(z_rcrR':Jh enc Try.prog w N _ _ _) n _ _ (hf 7 _ rfl) (by omega)
  change RC w (Enc.enc v7) ((cs.drop 15).take (Try.prog.cellsOf 42)) at r7
  rw [cells_42] at r7
  obtain ⟨v8,r8,m8⟩:=(Gn Try.underlying43 (by kernel_rfl) z_fn':Jh enc Try.prog w N _ _ _) n _ _ (hf 8 _ rfl) (by omega)
  change RC w (Enc.enc v8) ((cs.drop 22).take (Try.prog.cellsOf 43)) at r8
  rw [cells_43] at r8
  have hcs:cs.take 23=cs:=List.take_of_length_le (by rw [hl];exact Nat.le_of_eq cells_45)
  have hR:=((((((((((((((((((RC.nil).snoc (k:=1) r0 rfl)).snoc (k:=1) r1 rfl)).snoc (k:=1) r2 rfl)).snoc (k:=5) r3 rfl)).snoc (k:=5) r4 rfl)).snoc (k:=1) r5 rfl)).snoc (k:=1) r6 rfl)).snoc (k:=7) r7 rfl)).snoc (k:=1) r8 rfl)
  refine ⟨⟨⟨v0,v1,v2,v3,v4,v5,v6,v7.1,v8⟩,v7.2⟩,by rw [← hcs];exact hR,Nat.le_trans ?_ hb'⟩
  show Dcl.size ⟨v0,v1,v2,v3,v4,v5,v6,v7.1,v8⟩≤_
  unfold Dcl.size
  dsimp only at m0 m1 m2 m3 m4 m5 m6 m7 m8 ⊢
  omega
theorem z_dclR':Jh enc Try.prog w N 45 DclR (fun d=>d.1.size):=U3 (fun _ _=>z_dclR) N
theorem z_envR:Jh enc Try.prog w N 22 (List DclR) (fun l=>1+(l.map fun d=>d.1.size).sum):=Gn Try.underlying22 (by kernel_rfl) z_dclR'
end
theorem env_readsR {H:Type} {enc:TypeId×Value→H} {W:World} {base:Nat} {v:Value} {d:DataW H} {p:List MemPlace}
  (hval:Value.okWide Try.prog W .any base 22 v) (h:DataW.Trod enc Try.prog W 0 (fun _=>true) true 22 v d p):∃ l:List Dcl,Reads (Da W) W (.sl 23 (Enc.encL l)) v∧1+YX l≤Rows.uptoBulk d∧∀ x∈l,U2 x.rcr.params:=by
 obtain ⟨l,h1,h2⟩:=slice_readsZ Try.underlying22 (fun N=>z_envR) hval h
 refine ⟨l.map (·.1),?_,?_,fun x hx=>?_⟩
 ·have:Enc.encL (l.map (·.1))=Enc.encL l:=by
   show (l.map (·.1)).map DB=l.map dclRC
   rw [List.map_map];rfl
  rw [this];exact h1
 ·unfold YX
  rw [List.map_map];exact h2
 ·obtain ⟨y,-,rfl⟩:=List.mem_map.1 hx
  exact y.2
end Go.Proofs.Ytafddfoefeploaa
namespace Go.Proofs.Ytafddfoefeploaa
open Go.ChangeShapes Go.WideShapes Go.ChangeAt Go.RowKit Go.WideElems
theorem str_reads {W:World} {base:Nat} {v:Value} (hval:Value.okWide Try.prog W .any base 9 v):∃ s:Bs,v=.string (sB s):=by
 obtain ⟨s,rfl⟩:=okWide_string Try.underlying9 hval
 exact ⟨s.data.toList,Z⟩
theorem law4 {W:World} (a0:List Dcl) (a1:Bs) (hs:YX a0≤100000000) (hr:∀ d∈a0,U2 d.rcr.params) {v0:Value} (hv0:Reads (Da W) W (.sl 23 (Enc.encL a0)) v0):Calls Try.prog 4 #[v0,.string (sB a1)] W fun e W'=>e=.returned (.bool true)∧Below W.heap.size W W':=by
 have hF:=m4_ok a0 a1 true (m4_true a0 a1 hs hr)
 refine Calls.mono (hF.2 (Da W) W #[v0,.string (sB a1)] (fun b o h=>h) ⟨Z,fun i y hy=>?_⟩) ?_
 ·match i,hy with
  | 0,hy=>cases hy;exact ⟨_,rfl,hv0⟩
  | 1,hy=>cases hy;exact ⟨_,rfl,Reads.v _ rfl⟩
 ·rintro e W' ⟨u,S',rfl,hx,-,-,hu⟩
  have e1:u=.bool true:=by cases hu;rfl
  rw [e1]
  exact ⟨Z,hx.os,hx.tape,hx.output,hx.size,fun k hk=>hx.block k hk (fun h=>h)⟩
theorem contract (H:Type) (enc:TypeId×Value→H) (W:World) (base:Nat) (args:Array Value) (ds gs:List (DataW H)) (before:List MemPlace) (hk:Rows.uptoSmall H (ds++gs)=true)
  (hval0:∀ (j:Nat) t v,Try.f4.params[j]?=some t→args[j]?=some v→Value.okWide Try.prog W .any base t v)
  (hW:DataW.Whole enc Try.prog Try.f4.params.toList Rows.signatureFindsSpec.vars false W args.toList ds gs before) :
  Calls Try.prog 4 args W fun e W'=>∃ v,e=.returned v∧Rows.signatureFindsSpec.post enc Try.prog Try.f4 false true false false W args v W':=by
 have hval:∀ (j:Nat) t v,Try.f4.params[j]?=some t→args[j]?=some v→Value.okWide Try.prog W .any base t v:=hval0
 have hW':=hW
 obtain ⟨p,q,hA0,hV,rfl,hfz,hnd⟩:=hW
 have hA:DataW.TrodAll enc Try.prog W 0 (fun _=>true) true Try.f4.params.toList args.toList ds p:=hA0
 rw [Try.params4] at hA hval
 obtain ⟨v0,v1,d0,d1,p0,p1,rfl,rfl,rfl,h0,h1⟩:=trodAll_two hA
 obtain ⟨rfl,rfl⟩:=trodVars_none hV
 have h0k:=h0
 have h1k:=h1
 obtain ⟨a0,hv0,hz,hr⟩:=env_readsR (hval 0 22 v0 rfl rfl) h0
 obtain ⟨a1,rfl⟩:∃ a1:Bs,v1=.string (sB a1):=str_reads (hval 1 9 v1 rfl rfl)
 have hbk:Rows.uptoBulkAll ([d0,d1]++([]:List (DataW H)))≤1048576:=of_decide_eq_true hk
 simp only [List.append_nil,Rows.uptoBulkAll] at hbk
 clear hA0 hval0
 simp only [List.append_nil] at hW'
 have hlt:∀ x∈p0++p1,x.block < W.heap.size:=fun x hx=>by simpa using hW'.lt x hx
 refine (law4 a0 a1 (by omega) hr hv0).mono fun e W' ⟨he,hb⟩=>?_
 subst he
 have hargs:∀ sp:Nat→Bool,(∀ x∈p0++p1,sp x.block=true)→DataW.TrodAll enc Try.prog W' 0 sp true [22,9] [v0,.string (sB a1)] [d0,d1] (p0++p1):=fun sp hsp =>
  trodAll_mk2 (WideElems.Trod_stays laidOut (by kernel_rfl) (of_decide_eq_true (by kernel_rfl)) h0k (fun x hx=>hb.same (hlt x (by simp [hx]))) (fun x hx=>hsp x (by simp [hx]))) (WideElems.Trod_stays laidOut (by kernel_rfl) (of_decide_eq_true (by kernel_rfl)) h1k (fun x hx=>hb.same (hlt x (by simp [hx]))) (fun x hx=>hsp x (by simp [hx])))
 exact ⟨_,rfl,_,_,_,[],p0++p1,[],hW',trodAll_mk1 (shut_bool Try.underlying4 true),hargs _ (fun x hx=>by simpa using hlt x hx),rfl,hb.frame _,fun h=>by cases h⟩
theorem lifted (os:Os) (started:os.Started) (H:Type) (enc:TypeId×Value→H) (F:Stop.Interp) :
  ReturnsInHanded {} Try.checked os 4 .any ((Rows.OpenSpec.upto Rows.signatureFindsSpec).pre6 enc Try.prog Try.f4 Rows.signatureFindsUptoRow.domain false) (((Rows.OpenSpec.upto Rows.signatureFindsSpec).at F).post enc Try.prog Try.f4 false true false false):=by
 refine returnsInHanded_of_cond (C:=Try.checked) (s:=Rows.OpenSpec.upto Rows.signatureFindsSpec) (k:=Rows.uptoSmall) rfl own started (by kernel_rfl) Try.func4
  (OpenSpec.witness (enc:=enc) (C:=Try.checked) (s:=Rows.OpenSpec.upto Rows.signatureFindsSpec) (k:=Rows.uptoSmall) rfl false ⟨#[],#[.slice none 0 0,.string ByteArray.empty],[]⟩ 8 (by kernel_rfl) (by kernel_rfl) (by kernel_rfl)
   (x:=([.nil,.lit (.string [])],[],[])) (by kernel_rfl) rfl (by kernel_rfl)) ?_
 intro W base args ds gs before hval hW _ hk _
 exact contract H enc W base args ds gs before hk hval hW
theorem over:Rows.signatureFindsUptoRow.holds Try.pinned (Rows.OpenSpec.upto Rows.signatureFindsSpec) :=
 OpenClaim.holds_of_cond 4 Try.f4 rfl rfl rfl rfl rfl rfl rfl ⟨rfl,rfl,rfl,rfl,rfl⟩ rfl rfl rfl rfl rfl (by kernel_rfl) Try.func4 (by kernel_rfl)
  (of_decide_eq_true (by kernel_rfl)) (by unfold Func.isWrapper;first | (rw [if_pos (by decide +kernel)];kernel_rfl) | (rw [if_neg (by decide +kernel)];exact ⟨rfl,rfl⟩))
  (fun os started H enc _ F=>lifted os started H enc F)
theorem signatureFindsUpto:Rows.SignatureFindsUptoSaid:=over
#print axioms signatureFindsUpto
end Go.Proofs.Ytafddfoefeploaa
