/- The statement SignatureChecksUpto is proved here: for every list of declarations the law returns true, and what it is given reads behind the call ars it did before; condition: the arguments are of bulk at most 1048576 (the second form). -/
import Derived.Test.YtafddfoefeploaaK35
import Derived.Deep.Slices
import Derived.ChangeSame
import Derived.Test.YtafddfoefeploaaRows
import Derived.Test.YtafddfoefeploaaProg
import Derived.Test.YtafddfoefeploaaChecked
import Derived.ProofKit
import Derived.Carry
import Derived.JoinedCond
set_option maxRecDepth 100000
set_option maxHeartbeats 2000000
namespace Go.Proofs.Ytafddfoefeploaa
open Go.RowKit Go.Shelf
set_option linter.unusedSimpArgs false
set_option linter.unusedVariables false
set_option linter.unusedSectionVars false
theorem m64_eq:DM=m101:=rfl
theorem listTwo {α:Type} {l:List α} (h:(l.length:Int)=2):∃ x y,l=[x,y]:=by
 match l,h with
 | [x,y],_=>exact ⟨x,y,rfl⟩
 | [],h=>simp at h
 | [x],h=>simp at h
 | x::y::z::l,h=>simp at h;omega
theorem pis_walk:∀ (n:Nat) (t:Tm) (acc:List Tm),t.size≤n→acc.length+t.size≤900000000→∃ (c:Nat) (r1:(List Tm)×Int×Int×Bs×(List Lvl)×(List Tm)) (r2:Int×Int×Int×Bs×(List Lvl)×(List Tm)),
  QE K6 n (acc,t.kind,t.index,t.name,t.levels,t.kids)=some r1∧QE Gq n ((acc.length:Int),t.kind,t.index,t.name,t.levels,t.kids)=some r2∧r1.1.length=c∧r2.1=(c:Int)∧c≤900000000
 | 0,t,_,h,_=>by rw [t.size_eq] at h;omega
 | n+1,t,acc,h,hb=>by
  have stop:(cond (t.kind==6) (some ((t.kids.length:Int)==2)) (some false))=some false→∃ (c:Nat) (r1:(List Tm)×Int×Int×Bs×(List Lvl)×(List Tm)) (r2:Int×Int×Int×Bs×(List Lvl)×(List Tm)),
    QE K6 (n+1) (acc,t.kind,t.index,t.name,t.levels,t.kids)=some r1∧QE Gq (n+1) ((acc.length:Int),t.kind,t.index,t.name,t.levels,t.kids)=some r2∧r1.1.length=c∧r2.1=(c:Int)∧c≤900000000:=by
   intro hs
   have e1:K6 (acc,t.kind,t.index,t.name,t.levels,t.kids)=some (.done (acc,t.kind,t.index,t.name,t.levels,t.kids)):=by unfold K6;dsimp only;rw [hs];rfl
   have e2:Gq ((acc.length:Int),t.kind,t.index,t.name,t.levels,t.kids)=some (.done ((acc.length:Int),t.kind,t.index,t.name,t.levels,t.kids)):=by unfold Gq;dsimp only;rw [hs];rfl
   exact ⟨acc.length,(acc,t.kind,t.index,t.name,t.levels,t.kids),((acc.length:Int),t.kind,t.index,t.name,t.levels,t.kids),by simp only [QE,e1],by simp only [QE,e2],rfl,rfl,by omega⟩
  by_cases hk:t.kind=6
  ·by_cases hl:(t.kids.length:Int)=2
   ·obtain ⟨x,y,hxy⟩:=listTwo hl
    have hy:=Z1 (t:=t) (k:=y) (by rw [hxy];simp)
    obtain ⟨c,r1,r2,h1,h2,h3,h4,h5⟩:=pis_walk n y (acc++[x]) (by omega) (by rw [List.length_append,List.length_singleton];omega)
    have e1:K6 (acc,t.kind,t.index,t.name,t.levels,t.kids)=some (.next (acc++[x],y.kind,y.index,y.name,y.levels,y.kids)):=by
     unfold K6;dsimp only;rw [hk,hxy]
     show Jv (Nat.ble (acc.length+1) 1000000000) _=_
     rw [Yr (by omega)];rfl
    have e2:Gq ((acc.length:Int),t.kind,t.index,t.name,t.levels,t.kids)=some (.next (((acc++[x]).length:Int),y.kind,y.index,y.name,y.levels,y.kids)):=by
     unfold Gq;dsimp only;rw [hk,hxy]
     show some (LO.next (Jb ((acc.length:Int)+1),y.kind,y.index,y.name,y.levels,y.kids))=_
     rw [WQ (by omega),List.length_append];rfl
    exact ⟨c,r1,r2,by simp only [QE,e1];exact h1,by simp only [QE,e2];exact h2,h3,h4,h5⟩
   ·exact stop (by rw [Yy,Yy,decide_eq_false hl];cases decide (t.kind=6) <;> rfl)
  ·exact stop (by rw [Yy,decide_eq_false hk];rfl)
def XS (t:Tm):Int:=(Di t).getD 0
theorem pis_eq (t:Tm) (h:t.size≤900000000):Di t=some (XS t)∧∃ r,m101 t=some r∧(r.1.length:Int)=XS t:=by
 obtain ⟨c,r1,r2,h1,h2,h3,h4,-⟩:=pis_walk QV t [] (by unfold QV;omega) (by simp;omega)
 have e1:Di t=some (c:Int):=by
  have h2':QE Gq QV (0,t.kind,t.index,t.name,t.levels,t.kids)=some r2:=h2
  unfold Di
  rw [h2',← h4];rfl
 have e2:XS t=(c:Int):=by unfold XS;rw [e1];rfl
 refine ⟨by rw [e1,e2],(r1.1,Tm.mk r1.2.1 r1.2.2.1 r1.2.2.2.1 r1.2.2.2.2.1 r1.2.2.2.2.2),?_,by rw [e2,← h3]⟩
 have h1':QE K6 QV (([]:List Tm),t.kind,t.index,t.name,t.levels,t.kids)=some r1:=h1
 unfold m101
 rw [h1'];rfl
theorem GR {d:Dcl} {c:Ctr} (h:c∈d.ctors):c.ty.size+c.name.length < d.size:=by
 have h1:=ZH csz h
 have h2:csz c=1+c.name.length+c.ty.size:=rfl
 unfold Dcl.size
 omega
theorem m88_eq (d:Dcl) (i:Int) (c:Ctr) (hi:JX d.ctors i=some c) (h:d.size≤900000000):∃ r,DF d i=some r∧DK d i=some r:=by
 have hc:c.ty.size≤900000000:=by
  have:c∈d.ctors:=by
   cases i with
   | ofNat k=>exact List.mem_of_getElem? hi
   | negSucc k=>cases hi
  have:=GR this
  omega
 obtain ⟨-,r,h1,-⟩:=pis_eq c.ty hc
 unfold DF DK
 rw [hi,m64_eq]
 simp only [Option.bind_some]
 rw [h1]
 exact ⟨_,Z,Z⟩
theorem firstN_some {α:Type} (nm:α→Bs) (n:Bs) {i:Nat} {x:α}:∀ (l:List α) (k:Nat),JV nm n l k=some (i,x)→k≤i∧l[i - k]?=some x
 | [],k,h=>by cases h
 | y::l,k,h=>by
  rw [JV] at h
  split at h
  ·cases h;exact ⟨Nat.le_refl _,by rw [Nat.sub_self];rfl⟩
  ·obtain ⟨h1,h2⟩:=firstN_some nm n l (k+1) h
   refine ⟨by omega,?_⟩
   rw [show i - k=(i - (k+1))+1 from by omega];exact h2
theorem look_ctor {d:Dcl} {k:Int} {n:Bs} {e:Ent} (h:YW d k n=some e) (h4:e.kind=4):∃ c,JX d.ctors e.item=some c:=by
 unfold YW at h
 split at h
 ·next hk =>
  split at h
  ·cases h;exfalso;have h4':d.kind=4:=h4;omega
  ·cases h
 ·split at h
  ·split at h
   ·cases h;exfalso;have h4':(3:Int)=4:=h4;omega
   ·split at h
    ·next i c hf =>
     cases h
     obtain ⟨-,h2⟩:=firstN_some _ _ _ _ hf
     exact ⟨c,h2⟩
    ·split at h
     ·cases h;exfalso;have h4':(5:Int)=4:=h4;omega
     ·cases h
  ·split at h
   ·split at h
    ·cases h;exfalso;have h4':(6:Int)=4:=h4;omega
    ·cases h
   ·cases h
def Sm2 (e:Int) (p:Option (Unit⊕Int)):Prop:=(e=0→p=some (.inl ()))∧(e ≠ 0→p=some (.inr e))
theorem Sm2.ok {p:Option (Unit⊕Int)} (h:p=some (.inl ())):Sm2 0 p:=⟨fun _=>h,fun h=>(h rfl).elim⟩
theorem Sm2.no {p:Option (Unit⊕Int)} {e:Int} (he:e ≠ 0) (h:p=some (.inr e)):Sm2 e p:=⟨fun h=>(he h).elim,fun _=>h⟩
theorem bodysz (t:Tr):t.body.size < t.size:=by rw [t.size_eq];omega
theorem tree_eq (s:Rsc) (M O:Qm Bs Ent) (hs:Sok s M O):∀ (n:Nat) (t:Tr) (V D:Int),t.size≤n→t.size≤900000000 →
  ∃ e:Int,JQ UV n (s,t,V,D)=some e∧Sm2 e (JQ GY n (t,V,D,s.d.params,s.env,M,O))
 | 0,t,_,_,h,_=>by rw [t.size_eq] at h;omega
 | n+1,t,V,D,h,hb=>by
  show ∃ e:Int,UU (JQ UV n) s t V D=some e∧Sm2 e (Wm (JQ GY n) t V D s.d.params s.env M O)
  have hbody:=bodysz t
  have hbl:=branches_len t
  unfold UU Wm
  rw [Xh]
  by_cases hD:200≤D
  ·rw [decide_eq_true hD,decide_eq_false (show ¬ D < 200 by omega)]
   exact ⟨7,rfl,.no (by omega) rfl⟩
  rw [decide_eq_false hD,decide_eq_true (show D < 200 by omega)]
  simp only [cond_true,cond_false,Option.bind_some,Sum.elim_inl]
  rw [Yy]
  by_cases k0:t.kind=0
  ·rw [decide_eq_true k0,cond_true,cond_true]
   show ∃ e:Int,Option.bind (cond (!(t.var==0)) (some true) (some (decide (0 < (t.branches.length:Int))))) _=_∧_
   cases (t.var==0) with
   | false=>exact ⟨3,rfl,.no (by omega) rfl⟩
   | true =>
    rw [Yy]
    by_cases c:(t.branches.length:Int)=0
    ·rw [decide_eq_true c,decide_eq_false (show ¬ 0 < (t.branches.length:Int) by omega)]
     obtain ⟨e,h1,h2,h3⟩:=XZ s M O hs t.body V s.d.params (by omega)
     rw [h1]
     refine ⟨e,Z,fun he=>?_,fun he=>?_⟩
     ·rw [h2 he];rfl
     ·rw [h3 he];rfl
    ·rw [decide_eq_false c,decide_eq_true (show 0 < (t.branches.length:Int) by omega)]
     exact ⟨3,rfl,.no (by omega) rfl⟩
  rw [decide_eq_false k0,cond_false,cond_false,Yy]
  by_cases k1:t.kind=1
  ·rw [decide_eq_true k1,cond_true,cond_true,WW,WU]
   cases WG t.body with
   | false=>exact ⟨3,rfl,.no (by omega) rfl⟩
   | true =>
    show ∃ e:Int,Option.bind (cond (decide (t.var < 0)) (some true) (some (decide (V≤t.var)))) _=some e∧Sm2 e (GC t V M s.env (JQ GY n) D s.d.params O)
    unfold GC
    by_cases c1:t.var < 0
    ·rw [decide_eq_true c1,decide_eq_false (show ¬ 0≤t.var by omega)]
     exact ⟨24,rfl,.no (by omega) rfl⟩
    rw [decide_eq_false c1,decide_eq_true (show 0≤t.var by omega)]
    by_cases c2:V≤t.var
    ·rw [decide_eq_true c2,decide_eq_false (show ¬ t.var < V by omega)]
     exact ⟨24,rfl,.no (by omega) rfl⟩
    rw [decide_eq_false c2,decide_eq_true (show t.var < V by omega)]
    show ∃ e:Int,cond (decide (32 < (t.branches.length:Int))) _ _=some e∧Sm2 e (GD t M s.env (JQ GY n) V D s.d.params O)
    unfold GD
    rw [Xh]
    by_cases c3:32 < (t.branches.length:Int)
    ·rw [decide_eq_true c3,decide_eq_false (show ¬ (t.branches.length:Int)≤32 by omega)]
     exact ⟨6,rfl,.no (by omega) rfl⟩
    rw [decide_eq_false c3,decide_eq_true (show (t.branches.length:Int)≤32 by omega)]
    obtain ⟨e,h1,h2⟩:=YL (β1:=Unit⊕Int) (β2:=Unit⊕(Unit⊕Int)) (step1:=XV t s (JQ UV n) V D) (step2:=KF t M s.env (JQ GY n) V D s.d.params O) t.branches (.inl ()) (.inl ()) .inr (fun e=>.inr (.inr e)) (by omega) (fun a b c e=>by
     obtain ⟨q1,q2⟩:=YZ e
     have hbt:=Tr.kid_size (t:=t) (b:=b) (by rw [e];simp)
     unfold XV KF
     rw [q1,q2]
     simp only [cond_true,Option.bind_some]
     rw [m15_eq s.env b.ctor hs.env]
     have hM:=hs.bk b.ctor
     unfold Uw
     cases hf:GP s.env b.ctor with
     | none =>
      rw [hf] at hM
      have g1:YE M b.ctor=false:=by unfold YE;rw [hM];rfl
      rw [g1]
      exact ⟨9,fun h=>by omega,fun _=>⟨rfl,rfl⟩⟩
     | some en =>
      rw [hf] at hM
      have g1:YE M b.ctor=true:=by unfold YE;rw [hM];rfl
      have g2:Qy M b.ctor=en:=by unfold Qy;rw [hM];rfl
      obtain ⟨i,d,hi,hd⟩:=fsI_some _ _ _ hf
      rw [Nat.zero_add] at hd
      unfold m48f11_k0 m73_k0
      rw [g1,g2,Xh]
      by_cases c4:en.kind=4
      ·have hdec:JX s.env en.decl=some d:=by rw [look_decl hd];exact idx_at hi
       obtain ⟨ct,hct⟩:=look_ctor hd c4
       obtain ⟨r,hr1,hr2⟩:=m88_eq d en.item ct hct (by have:=size_le (List.mem_of_getElem? hi);have:=hs.env;omega)
       have e1:(en.kind != 4)=false:=by rw [c4];rfl
       have e2:(en.kind==4)=true:=by rw [c4];rfl
       have e0:((0:Int) != 0)=false:=rfl
       simp only [Option.elim_some,Option.bind_some,e0,e1,e2,cond_true,cond_false,Sum.elim_inl]
       cases b.absurd with
       | true =>
        simp only [cond_true]
        have e3:DQ b.tree (Tr.mk 0 (Tm.mk 0 0 ([]:List UInt8) ([]:List Lvl) ([]:List Tm)) 0 ([]:List Br))=some (isZT b.tree):=m36_Z b.tree
        rw [e3,WW]
        unfold isZT
        cases (b.tree.kind==0) with
        | false=>exact ⟨3,fun h=>by omega,fun _=>⟨rfl,rfl⟩⟩
        | true =>
         cases (b.tree.var==0) with
         | false=>exact ⟨3,fun h=>by omega,fun _=>⟨rfl,rfl⟩⟩
         | true =>
          cases ((b.tree.branches.length:Int)==0) with
          | false=>exact ⟨3,fun h=>by omega,fun _=>⟨by rw [Bool.and_false];rfl,rfl⟩⟩
          | true =>
           cases WG b.tree.body with
           | false=>exact ⟨3,fun h=>by omega,fun _=>⟨rfl,rfl⟩⟩
           | true=>exact ⟨0,fun _=>⟨rfl,rfl⟩,fun h=>(h rfl).elim⟩
       | false =>
        simp only [cond_false]
        rw [hdec]
        simp only [Option.bind_some]
        rw [hr1,hr2]
        simp only [Option.bind_some]
        obtain ⟨e',w1,w2,w3⟩:=tree_eq s M O hs n b.tree (Jb (V+r)) (Jb (D+1)) (by omega) (by omega)
        rw [w1]
        refine ⟨e',fun he=>?_,fun he=>?_⟩
        ·rw [w2 he];subst he;exact ⟨rfl,rfl⟩
        ·rw [w3 he];exact ⟨XA he _ _,rfl⟩
      ·have e1:(en.kind != 4)=true:=bne_iff_ne.2 c4
       have e2:(en.kind==4)=false:=by rw [Yy];exact decide_eq_false c4
       have e0:((0:Int) != 0)=false:=rfl
       simp only [Option.elim_some,Option.bind_some,e0,e1,e2,cond_true,cond_false,Sum.elim_inl]
       exact ⟨9,fun h=>by omega,fun _=>⟨rfl,rfl⟩⟩)
     (by unfold XV;rw [Jm];rfl) (by unfold KF;rw [Jm];rfl)
    by_cases he:e=0
    ·obtain ⟨e1,e2⟩:=h1 he
     rw [e1]
     refine ⟨0,Z,.ok ?_⟩
     show Option.bind (QE _ QV 0) _=_
     rw [e2];rfl
    ·obtain ⟨e1,e2⟩:=h2 he
     rw [e1]
     refine ⟨e,Z,.no he ?_⟩
     show Option.bind (QE _ QV 0) _=_
     rw [e2];rfl
  ·rw [decide_eq_false k1]
   exact ⟨3,rfl,.no (by omega) rfl⟩
end Go.Proofs.Ytafddfoefeploaa
namespace Go.Proofs.Ytafddfoefeploaa
open Go.RowKit Go.Shelf
set_option linter.unusedSimpArgs false
set_option linter.unusedVariables false
set_option linter.unusedSectionVars false
def WJ (d:Dcl):Bool :=
 (d.kind==1||d.kind==2||WG d.value)&&(d.kind==4||(d.funs.length:Int)==0)&&(!(d.kind==4)||(d.name==[]&&WG d.ty)) &&
 (d.kind==3||(d.fixed==0&&(d.ctors.length:Int)==0&&(d.rcr.params==0&&WG d.rcr.ty&&(d.rcr.rules.length:Int)==0)))
theorem m44_used (d:Dcl) (h0:0≤d.kind) (h4:d.kind≤4):WM d=cond (WJ d) (Zp d) (some (.inr 3)):=by
 have hk:d.kind=0∨d.kind=1∨d.kind=2∨d.kind=3∨d.kind=4:=by omega
 have e0:WM d=GF (d.kind==1||d.kind==2) d:=by
  unfold WM
  rw [decide_eq_true h0,decide_eq_true h4]
  show Option.bind (cond (d.kind==1) (some true) (some (d.kind==2))) _=_
  cases (d.kind==1) <;> rfl
 rw [e0]
 have e6:∀ b:Bool,KU d b=cond (d.kind==3||(d.fixed==0&&(d.ctors.length:Int)==0&&b)) (Zp d) (some (.inr 3)):=by
  intro b
  unfold KU
  cases (d.kind==3) <;> cases (d.fixed==0) <;> cases ((d.ctors.length:Int)==0) <;> cases b <;> rfl
 have e7:Xm d=cond ((!(d.kind==4)||(d.name==[]&&WG d.ty))&&(d.kind==3||(d.fixed==0&&(d.ctors.length:Int)==0&&(d.rcr.params==0&&WG d.rcr.ty&&(d.rcr.rules.length:Int)==0)))) (Zp d) (some (.inr 3)):=by
  unfold Xm
  rw [WW,WW]
  have e8:∀ o:Unit⊕(Unit⊕Int),o=.inl ()→Sum.elim (fun (b7_:Unit)=>Option.bind (cond (d.rcr.params==0) (Option.bind (some (WG d.rcr.ty)) fun (b0_:Bool)=>cond b0_ (some ((d.rcr.rules.length:Int)==0)) (some false)) (some false)) (fun (b8_:Bool)=>KU d b8_)) (fun o=>some o) o=cond (d.kind==3||(d.fixed==0&&(d.ctors.length:Int)==0&&(d.rcr.params==0&&WG d.rcr.ty&&(d.rcr.rules.length:Int)==0))) (Zp d) (some (.inr 3)):=by
   intro o ho
   subst ho
   rw [← e6]
   show Option.bind (cond (d.rcr.params==0) _ _) _=_
   cases (d.rcr.params==0) <;> cases WG d.rcr.ty <;> rfl
  cases (d.kind==4) with
  | false=>exact e8 (.inl ()) rfl
  | true =>
   cases (d.name==[]) with
   | false=>rfl
   | true =>
    cases WG d.ty with
    | false=>rfl
    | true=>exact e8 (.inl ()) rfl
 have e8:Xl d=cond ((d.kind==4||(d.funs.length:Int)==0)&&((!(d.kind==4)||(d.name==[]&&WG d.ty))&&(d.kind==3||(d.fixed==0&&(d.ctors.length:Int)==0&&(d.rcr.params==0&&WG d.rcr.ty&&(d.rcr.rules.length:Int)==0))))) (Zp d) (some (.inr 3)):=by
  unfold Xl
  cases h:(d.kind==4||(d.funs.length:Int)==0) with
  | true =>
   rw [Bool.true_and,← e7]
   revert h
   cases (d.kind==4) with
   | true=>intro _;rfl
   | false=>intro h;rw [Bool.false_or] at h;rw [h];rfl
  | false =>
   rw [Bool.or_eq_false_iff] at h
   rw [h.1,h.2];rfl
 unfold GF WJ
 rw [WW,Bool.and_assoc,Bool.and_assoc]
 cases (d.kind==1||d.kind==2) with
 | true=>rw [Bool.true_or,Bool.true_and,← e8];rfl
 | false =>
  rw [Bool.false_or]
  cases WG d.value with
  | true=>rw [Bool.true_and,← e8];rfl
  | false=>rfl
theorem m50_eq (d:Dcl) (h0:0≤d.kind) (h4:d.kind≤4):DP d=some (WJ d):=by
 have hk:d.kind=0∨d.kind=1∨d.kind=2∨d.kind=3∨d.kind=4:=by omega
 have e1:∀ K:Bool→Option Bool,Option.bind (cond (d.rcr.params==0) (Option.bind (some (WG d.rcr.ty)) fun (x3:Bool)=>cond x3 (some ((d.rcr.rules.length:Int)==0)) (some false)) (some false)) K=K (d.rcr.params==0&&WG d.rcr.ty&&(d.rcr.rules.length:Int)==0):=by
  intro K
  cases (d.rcr.params==0) <;> cases WG d.rcr.ty <;> rfl
 have e2:∀ (b:Bool) (K:Bool→Option Bool),Option.bind (cond (d.fixed==0) (cond ((d.ctors.length:Int)==0) (some b) (some false)) (some false)) K=K (d.fixed==0&&(d.ctors.length:Int)==0&&b):=by
  intro b K
  cases (d.fixed==0) <;> cases ((d.ctors.length:Int)==0) <;> rfl
 unfold DP
 rw [WU,e1,e2]
 unfold WY m50_k0 WJ
 rw [WU,WU]
 rcases hk with hk | hk | hk | hk | hk
 all_goals
  rw [hk]
  generalize (d.fixed==0&&(d.ctors.length:Int)==0&&(d.rcr.params==0&&WG d.rcr.ty&&(d.rcr.rules.length:Int)==0))=w
  generalize ((d.funs.length:Int)==0)=f
  cases WG d.value <;> cases WG d.ty <;> cases (d.name==[]) <;> cases w <;> cases f <;> rfl
theorem ty_size (d:Dcl):d.ty.size < d.size:=by unfold Dcl.size;omega
def pisP (d:Dcl):Prop:=d.fixed≤XS d.ty∧∀ c∈d.ctors,d.fixed≤XS c.ty
theorem m70_eq (d:Dcl) (h:d.size≤900000000):∃ b,Dw d=some b∧(b=true↔pisP d):=by
 have hc:=Za d
 have ht:=ty_size d
 obtain ⟨b,h1,h2⟩:=YJ (step:=Xf d) d.ctors (fun i (s:Bool)=>(s,i)) (fun a s=>s=true↔(d.fixed≤XS d.ty∧∀ c∈a,d.fixed≤XS c.ty)) (fun r=>r=true↔pisP d) (by omega)
  (fun a x b s e hI=>by
   obtain ⟨q1,q2⟩:=YZ e
   have hx:=GR (d:=d) (c:=x) (by rw [e];simp)
   have hp:=(pis_eq x.ty (by omega)).1
   cases s with
   | false =>
    refine .inr ⟨false,?_,?_⟩
    ·unfold Xf;dsimp only;rw [q1];rfl
    ·refine ⟨fun h=>(by cases h),fun h=>?_⟩
     exact hI.2 ⟨h.1,fun c hc=>h.2 c (List.mem_append_left _ hc)⟩
   | true =>
    refine .inr ⟨decide (d.fixed≤XS x.ty),?_,?_⟩
    ·unfold Xf;dsimp only;rw [q1,q2]
     simp only [cond_true,Option.bind_some]
     rw [hp];rfl
    ·have h3:=hI.1 rfl
     rw [decide_eq_true_eq]
     refine ⟨fun h=>⟨h3.1,fun c hc=>?_⟩,fun h=>h.2 x (by simp)⟩
     rcases List.mem_append.1 hc with hc | hc
     ·exact h3.2 c hc
     ·rw [List.mem_singleton.1 hc];exact h)
  (fun s hI=>⟨s,by unfold Xf;dsimp only;rw [Jm];rfl,hI⟩) (decide (d.fixed≤XS d.ty)) (by rw [decide_eq_true_eq];exact ⟨fun h=>⟨h,fun c hc=>by cases hc⟩,fun h=>h.1⟩)
 refine ⟨b,?_,h2⟩
 unfold Dw
 rw [(pis_eq d.ty (by omega)).1,Option.bind_some]
 have h1':QE (Xf d) QV (decide (d.fixed≤XS d.ty),0)=some b:=h1
 rw [h1'];rfl
theorem types_eq (d:Dcl) (h:d.size≤900000000):QE (Kc d) QV ([d.ty],0)=some (d.ty::d.ctors.map (·.ty)):=by
 have hc:=Za d
 refine (YJ (step:=Kc d) d.ctors (fun i (s:List Tm)=>(s,i)) (fun a s=>s=d.ty::a.map (·.ty)) (fun r=>r=d.ty::d.ctors.map (·.ty)) (by omega)
  (fun a x b s e hI=>by
   obtain ⟨q1,q2⟩:=YZ e
   have:=Xb e
   refine .inr ⟨s++[x.ty],?_,by rw [hI];simp⟩
   unfold Kc;dsimp only;rw [q1,q2]
   simp only [cond_true,Option.bind_some]
   rw [Yr (by rw [hI];simp;omega)])
  (fun s hI=>⟨s,by unfold Kc;dsimp only;rw [Jm];rfl,hI⟩) [d.ty] rfl).elim fun r hr=>by rw [← hr.2];exact hr.1
theorem l2_eq (d:Dcl) (l:List Tm) (hl:l.length≤900000000) (h:∀ t∈l,t.size≤900000000):∃ r,QE (ZN l d) QV 0=some r∧((r=.inl ()∧∀ t∈l,d.fixed≤XS t)∨(r=.inr (.inr 3)∧¬ ∀ t∈l,d.fixed≤XS t)):=by
 obtain ⟨r,h1,h2⟩:=loop_bad (β:=Unit⊕(Unit⊕Int)) (step:=ZN l d) l (fun _ t=>¬ d.fixed≤XS t) (.inr (.inr 3)) (.inl ()) hl (fun a x b e=>by
  obtain ⟨q1,q2⟩:=YZ e
  obtain ⟨-,r,e1,e2⟩:=pis_eq x (h x (by rw [e];simp))
  unfold ZN
  rw [q1,q2]
  simp only [cond_true,Option.bind_some]
  rw [m64_eq,e1,Option.bind_some,e2,Xh]
  refine ⟨fun hn=>?_,fun hn=>?_⟩
  ·rw [decide_eq_false hn];rfl
  ·rw [decide_eq_true (Decidable.not_not.1 hn)];rfl) (by unfold ZN;rw [Jm];rfl)
 refine ⟨r,h1,?_⟩
 rcases h2 with ⟨h2,h3⟩ | ⟨h2,a,x,b,e,h3⟩
 ·refine .inl ⟨h2,fun t ht=>?_⟩
  obtain ⟨a,b,e⟩:=List.append_of_mem ht
  exact Decidable.not_not.1 (h3 a t b e)
 ·exact .inr ⟨h2,fun hh=>h3 (hh x (by rw [e];simp))⟩
def WH (n:Int):Prop:=-9223372036854775808≤n∧n≤9223372036854775807
theorem w64_mod (n:Int) (h:WH n) (p:Int) (h0:0≤p) (h8:p≤8) (k:Int) (k0:0≤k) (k1:k≤1):Jb (n - p)=k↔n=p+k:=by
 obtain ⟨h1,h2⟩:=h
 show IntKind.i64.wrap (n - p)=k↔_
 rw [IntKind.wrap_i64]
 omega
theorem k3_eq (d:Dcl) (h:d.size≤900000000) (hr:WH d.rcr.params) (hp0:0≤d.params) (hp8:d.params≤8):∃ e,XY d=some e∧Sm2 e (KV d):=by
 have hc:=Za d
 obtain ⟨b,h1,h2⟩:=m70_eq d h
 obtain ⟨r,h3,h4⟩:=l2_eq d (d.ty::d.ctors.map (·.ty)) (by simp;omega) (fun t ht=>by
  rcases List.mem_cons.1 ht with rfl | ht
  ·have:=ty_size d;omega
  ·obtain ⟨c,hc,rfl⟩:=List.mem_map.1 ht
   have:=GR hc;omega)
 have hall:(∀ t∈d.ty::d.ctors.map (·.ty),d.fixed≤XS t)↔pisP d:=by
  unfold pisP
  simp only [List.mem_cons,List.mem_map,forall_eq_or_imp,forall_exists_index,and_imp,forall_apply_eq_imp_iff₂]
 unfold XY KV
 rw [types_eq d h,Yy]
 by_cases hk:d.kind=3
 ·rw [decide_eq_true hk]
  simp only [cond_true,Option.bind_some]
  rw [h1,h3]
  have e1:∀ K:Bool→Option Int,Option.bind (cond (d.rcr.params != d.params) (cond (d.rcr.params != (Jb (d.params+1))) (some true) (cond ((d.rcr.rules.length:Int) != (d.ctors.length:Int)) (some true) (Option.bind (some b) fun (b0_:Bool)=>some (!b0_)))) (cond ((d.rcr.rules.length:Int) != (d.ctors.length:Int)) (some true) (Option.bind (some b) fun (b1_:Bool)=>some (!b1_)))) K
    = K (!(decide (d.rcr.params=d.params∨d.rcr.params=d.params+1)&&((d.rcr.rules.length:Int)==(d.ctors.length:Int))&&b)):=by
   intro K
   rw [Wt (n:=d.params+1) (by omega) (by omega)]
   show Option.bind (cond (!(d.rcr.params==d.params)) (cond (!(d.rcr.params==d.params+1)) (some true) (cond (!((d.rcr.rules.length:Int)==(d.ctors.length:Int))) (some true) (some (!b)))) (cond (!((d.rcr.rules.length:Int)==(d.ctors.length:Int))) (some true) (some (!b)))) K=_
   rw [Yy,Yy]
   cases ((d.rcr.rules.length:Int)==(d.ctors.length:Int)) <;> by_cases c1:d.rcr.params=d.params
   ·rw [decide_eq_true c1,decide_eq_true (Or.inl c1)];rfl
   ·rw [decide_eq_false c1]
    by_cases c2:d.rcr.params=d.params+1
    ·rw [decide_eq_true c2,decide_eq_true (Or.inr c2)];rfl
    ·rw [decide_eq_false c2,decide_eq_false (by omega)];rfl
   ·rw [decide_eq_true c1,decide_eq_true (Or.inl c1)];rfl
   ·rw [decide_eq_false c1]
    by_cases c2:d.rcr.params=d.params+1
    ·rw [decide_eq_true c2,decide_eq_true (Or.inr c2)];rfl
    ·rw [decide_eq_false c2,decide_eq_false (by omega)];rfl
  rw [e1]
  have e2:∀ K:Unit⊕(Unit⊕Int)→Option (Unit⊕Int),Option.bind (cond ((Jb (d.rcr.params - d.params))==0) (Option.bind (JF ((d.rcr.rules.length:Int)==(d.ctors.length:Int)) 3) (Sum.elim (fun (b0_:Unit)=>some (.inl ())) (fun (b1_:Unit)=>some (.inr (.inr 3)))))
    (cond ((Jb (d.rcr.params - d.params))==1) (Option.bind (JF ((d.rcr.rules.length:Int)==(d.ctors.length:Int)) 3) (Sum.elim (fun (b2_:Unit)=>some (.inl ())) (fun (b3_:Unit)=>some (.inr (.inr 3))))) (Option.bind (JF false 3) (Sum.elim (fun (b4_:Unit)=>some (.inl ())) (fun (b5_:Unit)=>some (.inr (.inr 3))))))) K
    = cond (decide (d.rcr.params=d.params∨d.rcr.params=d.params+1)&&((d.rcr.rules.length:Int)==(d.ctors.length:Int))) (K (.inl ())) (K (.inr (.inr 3))):=by
   intro K
   have g0:=w64_mod d.rcr.params hr d.params hp0 hp8 0 (by omega) (by omega)
   have g1:=w64_mod d.rcr.params hr d.params hp0 hp8 1 (by omega) (by omega)
   rw [Int.add_zero] at g0
   rw [Yy (Jb (d.rcr.params - d.params)) 0,Yy (Jb (d.rcr.params - d.params)) 1]
   by_cases c1:d.rcr.params=d.params
   ·rw [decide_eq_true (g0.2 c1),decide_eq_true (Or.inl c1)]
    cases ((d.rcr.rules.length:Int)==(d.ctors.length:Int)) <;> rfl
   ·rw [decide_eq_false (fun h=>c1 (g0.1 h))]
    by_cases c2:d.rcr.params=d.params+1
    ·rw [decide_eq_true (g1.2 c2),decide_eq_true (Or.inr c2)]
     cases ((d.rcr.rules.length:Int)==(d.ctors.length:Int)) <;> rfl
    ·rw [decide_eq_false (fun h=>c2 (g1.1 h)),decide_eq_false (by omega)];rfl
  rw [e2]
  cases (decide (d.rcr.params=d.params∨d.rcr.params=d.params+1)&&((d.rcr.rules.length:Int)==(d.ctors.length:Int))) with
  | false=>exact ⟨3,rfl,.no (by omega) rfl⟩
  | true =>
   rcases h4 with ⟨rfl,h5⟩ | ⟨rfl,h5⟩
   ·rw [h2.2 (hall.1 h5)];exact ⟨0,rfl,.ok rfl⟩
   ·have:b=false:=by rw [Bool.eq_false_iff];exact fun h=>h5 (hall.2 (h2.1 h))
    rw [this];exact ⟨3,rfl,.no (by omega) rfl⟩
 ·rw [decide_eq_false hk];exact ⟨0,rfl,.ok rfl⟩
theorem k4_eq (d:Dcl) (h:d.size≤900000000) (hr:WH d.rcr.params):∃ e,DO d=some e∧Sm2 e (Zp d):=by
 have hf:=Kh d
 unfold DO Zp
 by_cases c1:d.params < 0
 ·rw [decide_eq_true c1,decide_eq_false (show ¬ 0≤d.params by omega)];exact ⟨2,rfl,.no (by omega) rfl⟩
 rw [decide_eq_false c1,decide_eq_true (show 0≤d.params by omega)]
 by_cases c2:8 < d.params
 ·rw [decide_eq_true c2,decide_eq_false (show ¬ d.params≤8 by omega)];exact ⟨2,rfl,.no (by omega) rfl⟩
 rw [decide_eq_false c2,decide_eq_true (show d.params≤8 by omega)]
 by_cases c3:d.fixed < 0
 ·rw [decide_eq_true c3,decide_eq_false (show ¬ 0≤d.fixed by omega)];exact ⟨2,rfl,.no (by omega) rfl⟩
 rw [decide_eq_false c3,decide_eq_true (show 0≤d.fixed by omega)]
 show ∃ e,WX false d=some e∧Sm2 e (Xn d)
 unfold WX Xn
 have tail:∃ e,Option.bind (QE (Xk d) QV 0) (Sum.elim (fun (b1_:Unit)=>XY d) (fun o=>some o))=some e∧Sm2 e (Option.bind (QE (Kd d) QV 0) (Sum.elim (fun (b9_:Unit)=>KV d) (fun o=>some o))):=by
  obtain ⟨e,h1,h2⟩:=YL (β1:=Unit⊕Int) (β2:=Unit⊕(Unit⊕Int)) (step1:=Xk d) (step2:=Kd d) d.funs (.inl ()) (.inl ()) .inr (fun e=>.inr (.inr e)) (by omega) (fun a x b e=>by
   obtain ⟨q1,q2⟩:=YZ e
   unfold Xk Kd
   rw [q1,q2]
   simp only [cond_true,Option.bind_some]
   by_cases a1:x.arity < 1
   ·rw [decide_eq_true a1,decide_eq_false (show ¬ 1≤x.arity by omega)];exact ⟨3,fun h=>by omega,fun _=>⟨rfl,rfl⟩⟩
   rw [decide_eq_false a1,decide_eq_true (show 1≤x.arity by omega)]
   by_cases a2:16 < x.arity
   ·rw [decide_eq_true a2,decide_eq_false (show ¬ x.arity≤16 by omega)];exact ⟨3,fun h=>by omega,fun _=>⟨rfl,rfl⟩⟩
   rw [decide_eq_false a2,decide_eq_true (show x.arity≤16 by omega)]
   exact ⟨0,fun _=>⟨Z,Z⟩,fun h=>(h Z).elim⟩)
   (by unfold Xk;rw [Jm];rfl) (by unfold Kd;rw [Jm];rfl)
  by_cases he:e=0
  ·obtain ⟨e1,e2⟩:=h1 he
   rw [e1,e2]
   exact k3_eq d h hr (by omega) (by omega)
  ·obtain ⟨e1,e2⟩:=h2 he
   rw [e1,e2];exact ⟨e,rfl,.no he rfl⟩
 by_cases c4:32 < (d.ctors.length:Int)
 ·rw [decide_eq_true c4,decide_eq_false (show ¬ (d.ctors.length:Int)≤32 by omega)];exact ⟨6,rfl,.no (by omega) rfl⟩
 rw [decide_eq_false c4,decide_eq_true (show (d.ctors.length:Int)≤32 by omega)]
 cases (d.kind==4) with
 | false=>exact tail
 | true =>
  by_cases c5:(d.funs.length:Int) < 1
  ·rw [decide_eq_true c5,decide_eq_false (show ¬ 1≤(d.funs.length:Int) by omega)];exact ⟨6,rfl,.no (by omega) rfl⟩
  rw [decide_eq_false c5,decide_eq_true (show 1≤(d.funs.length:Int) by omega)]
  by_cases c6:8 < (d.funs.length:Int)
  ·rw [decide_eq_true c6,decide_eq_false (show ¬ (d.funs.length:Int)≤8 by omega)];exact ⟨6,rfl,.no (by omega) rfl⟩
  rw [decide_eq_false c6,decide_eq_true (show (d.funs.length:Int)≤8 by omega)]
  exact tail
end Go.Proofs.Ytafddfoefeploaa
namespace Go.Proofs.Ytafddfoefeploaa
open Go.RowKit Go.Shelf
set_option linter.unusedSimpArgs false
set_option linter.unusedVariables false
set_option linter.unusedSectionVars false
def Dc (d:Dcl) (k:Int) (M M':Qm Bs Ent):Prop:=∀ n,Kg M' n=(YW d k n).elim (Kg M n) some
theorem firstN_snoc {α:Type} (nm:α→Bs) (n:Bs) (x:α):∀ (l:List α) (k:Nat),JV nm n (l++[x]) k=(JV nm n l k).elim (if nm x=n then some (k+l.length,x) else none) some
 | [],k=>by
  rw [List.nil_append,JV,JV]
  split <;> rfl
 | y::l,k=>by
  rw [List.cons_append,JV,JV]
  by_cases h:nm y=n
  ·rw [if_pos h,if_pos h];rfl
  ·rw [if_neg h,if_neg h,firstN_snoc nm n x l (k+1),List.length_cons,show k+1+l.length=k+(l.length+1) from by omega]
theorem firstN_no {α:Type} (nm:α→Bs) (n:Bs) (l:List α) (k:Nat) (h:n∉l.map nm):JV nm n l k=none:=by
 have:=firstN_is nm n l k
 rw [decide_eq_false h] at this
 cases hf:JV nm n l k with
 | none=>rfl
 | some p=>rw [hf] at this;cases this
theorem fold_book {α:Type} {step:Int×(Qm Bs Ent)→Option (LO (Int×(Qm Bs Ent)) (Qm Bs Ent))} (nm:α→Bs) (g:Int→α→Ent) (l:List α) (M:Qm Bs Ent) (hlen:l.length≤900000000) (hnd:(l.map nm).Nodup)
  (hin:∀ (a:List α) (x:α) (b:List α) (s:Qm Bs Ent),l=a++x::b→step ((a.length:Int),s)=some (.next (Jb ((a.length:Int)+1),J9 s (nm x) (g (a.length:Int) x))))
  (hout:∀ s,step ((l.length:Int),s)=some (.done s)):∃ M',QE step QV (0,M)=some M'∧∀ n,Kg M' n=(JV nm n l 0).elim (Kg M n) fun p=>some (g (p.1:Int) p.2):=by
 refine YJ (step:=step) l (fun i (s:Qm Bs Ent)=>(i,s)) (fun a s=>∀ n,Kg s n=(JV nm n a 0).elim (Kg M n) fun p=>some (g (p.1:Int) p.2)) (fun M'=>∀ n,Kg M' n=(JV nm n l 0).elim (Kg M n) fun p=>some (g (p.1:Int) p.2)) hlen
  (fun a x b s e hI=>.inr ⟨_,hin a x b s e,fun n=>?_⟩) (fun s hI=>⟨s,hout s,hI⟩) M (fun n=>rfl)
 rw [KL,firstN_snoc,Nat.zero_add]
 by_cases h:n=nm x
 ·have hno:n∉a.map nm:=by
   rw [e,List.map_append,List.map_cons] at hnd
   intro hm
   exact (List.nodup_append.1 hnd).2.2 n hm (nm x) (List.mem_cons_self ..) h
  rw [if_pos h,firstN_no nm n a 0 hno,if_pos h.symm];rfl
 ·rw [if_neg h,hI n,if_neg (fun h'=>h h'.symm)]
  cases JV nm n a 0 <;> rfl
theorem rec_ne (d:Dcl) (h:d.size≤800000000):d.name.length+4≤1000000000:=by
 have:=name_len d;omega
theorem decl_book (d:Dcl) (env:List Dcl) (M:Qm Bs Ent) (h:d.size≤800000000) (hnd:(Ju d).Nodup):∃ M',Option.bind (cond (d.kind==0) (some (d.kind==0)) (cond (d.kind==1) (some (d.kind==1)) (some (d.kind==2)))) (fun (b1_:Bool)=>GH b1_ d M env)=some M'∧Dc d (env.length:Int) M M':=by
 have hc:=Za d
 have hf:=Kh d
 rw [kinds_eq]
 show ∃ M',GH (decide (d.kind=0∨d.kind=1∨d.kind=2)) d M env=some M'∧_
 unfold GH
 by_cases hk:d.kind=0∨d.kind=1∨d.kind=2
 ·rw [decide_eq_true hk]
  have e1:JX ([0,1,2]:List Int) d.kind=some d.kind:=by rcases hk with e | e | e <;> rw [e] <;> rfl
  rw [cond_true,e1]
  refine ⟨_,Z,fun n=>?_⟩
  unfold YW
  rw [KL,if_pos hk]
  by_cases hn:n=d.name
  ·rw [if_pos hn,if_pos hn.symm];rfl
  ·rw [if_neg hn,if_neg (fun h=>hn h.symm)];rfl
 ·rw [decide_eq_false hk,cond_false,Yy]
  by_cases h3:d.kind=3
  ·rw [decide_eq_true h3,cond_true]
   have hn3:Ju d=(d.name::d.ctors.map (·.name))++[d.name++Ul]:=by unfold Ju;rw [if_neg hk,if_pos h3];rfl
   rw [hn3] at hnd
   have hd1:=(List.nodup_append.1 hnd).1
   have hd2:=(List.nodup_cons.1 hd1)
   have hd3:=(List.nodup_append.1 hnd).2.2
   obtain ⟨M',e1,e2⟩:=fold_book (step:=KY d env) (·.name) (fun i (c:Ctr)=>⟨4,(env.length:Int),i,d.params,c.ty⟩) d.ctors (J9 M d.name (⟨3,(env.length:Int),0,d.params,d.ty⟩:Ent)) (by omega) hd2.2
    (fun a x b s e=>by obtain ⟨q1,q2⟩:=YZ e;unfold KY;dsimp only;rw [q1,q2];rfl) (fun s=>by unfold KY;dsimp only;rw [Jm];rfl)
   show ∃ M',Option.bind (QE (KY d env) QV (0,J9 M d.name (⟨3,(env.length:Int),0,d.params,d.ty⟩:Ent))) (fun b3_=>Xo d b3_ env)=some M'∧_
   rw [e1]
   simp only [Option.bind_some]
   unfold Xo
   rw [Yr (by have:=rec_ne d h;show d.name.length+4≤_;omega)]
   refine ⟨_,Z,fun n=>?_⟩
   rw [KL,e2,KL]
   unfold YW
   rw [if_neg hk,if_pos h3]
   show (if n=d.name++Ul then _ else _)=_
   by_cases hr:n=d.name++Ul
   ·have hne:¬ d.name=n:=fun h=>hd3 d.name (List.mem_cons_self ..) _ (List.mem_singleton_self _) (by rw [← hr];exact h)
    have hno:n∉d.ctors.map (·.name):=fun hm=>hd3 n (List.mem_cons_of_mem _ hm) _ (List.mem_singleton_self _) hr
    rw [if_pos hr,if_neg hne,firstN_no _ _ _ _ hno]
    simp only
    rw [if_pos hr.symm];rfl
   ·rw [if_neg hr]
    by_cases hn:n=d.name
    ·have hno:n∉d.ctors.map (·.name):=by rw [hn];exact hd2.1
     rw [firstN_no _ _ _ _ hno,if_pos hn,if_pos hn.symm];rfl
    ·rw [if_neg hn,if_neg (fun h=>hn h.symm)]
     cases hf:JV (·.name) n d.ctors 0 with
     | none=>simp only;rw [if_neg (fun h=>hr h.symm)];rfl
     | some p=>rfl
  ·rw [decide_eq_false h3,cond_false,Yy]
   by_cases h4:d.kind=4
   ·rw [decide_eq_true h4,cond_true]
    have hn4:Ju d=d.funs.map (·.name):=by unfold Ju;rw [if_neg hk,if_neg h3,if_pos h4]
    rw [hn4] at hnd
    obtain ⟨M',e1,e2⟩:=fold_book (step:=GG d env) (·.name) (fun i (c:Fn)=>⟨6,(env.length:Int),i,d.params,c.ty⟩) d.funs M (by omega) hnd
     (fun a x b s e=>by obtain ⟨q1,q2⟩:=YZ e;unfold GG;dsimp only;rw [q1,q2];rfl) (fun s=>by unfold GG;dsimp only;rw [Jm];rfl)
    rw [e1]
    refine ⟨M',Z,fun n=>?_⟩
    rw [e2]
    unfold YW
    rw [if_neg hk,if_neg h3,if_pos h4]
    cases JV (·.name) n d.funs 0 <;> rfl
   ·rw [decide_eq_false h4]
    refine ⟨M,Z,fun n=>?_⟩
    unfold YW
    rw [if_neg hk,if_neg h3,if_neg h4];rfl
theorem decl_own (d:Dcl) (env:List Dcl) (h:d.size≤800000000) (hnd:(Ju d).Nodup):∃ M',Option.bind (cond (d.kind==0) (some (d.kind==0)) (cond (d.kind==1) (some (d.kind==1)) (some (d.kind==2)))) (fun (v5:Bool)=>m47f10_k3 v5 d env)=some M'∧Dc d (env.length:Int) gmNil M':=decl_book d env gmNil h hnd
theorem decl_next (d:Dcl) (env:List Dcl) (M:Qm Bs Ent) (x:List Dcl) (h:d.size≤800000000) (hnd:(Ju d).Nodup):∃ M',Option.bind (cond (d.kind==0) (some (d.kind==0)) (cond (d.kind==1) (some (d.kind==1)) (some (d.kind==2)))) (fun (v12:Bool)=>U1 v12 d ((env.length:Int),M,x))=some M'∧Dc d (env.length:Int) M M':=decl_book d env M h hnd
theorem Ow.nil (d:Dcl) (k:Int):Ow [] d k gmNil:=fun n=>⟨fun h=>(by cases h),by rw [if_neg (by intro h;cases h)];rfl⟩
theorem Ow.snoc {own:List Bs} {d:Dcl} {k:Int} {O Y:Qm Bs Ent} (h:Ow own d k O) (hY:Dc d k gmNil Y) (s:Bs) (hs:s∈Ju d):Ow (own++[s]) d k (J9 O s (⟨(Qy Y s).kind,(Qy Y s).decl,(Qy Y s).item,(Qy Y s).params,((Qy Y s).ty)⟩:Ent)):=by
 intro n
 refine ⟨fun hn=>?_,?_⟩
 ·rcases List.mem_append.1 hn with hn | hn
  ·exact (h n).1 hn
  ·rw [List.mem_singleton.1 hn];exact hs
 ·rw [KL]
  by_cases e:n=s
  ·rw [if_pos e,if_pos (by rw [e];simp),e]
   have hi:=XE d k s
   rw [decide_eq_true hs] at hi
   have hy:=hY s
   cases hl:YW d k s with
   | none=>rw [hl] at hi;cases hi
   | some en =>
    rw [hl] at hy
    have:Qy Y s=en:=by unfold Qy;rw [hy];rfl
    rw [this]
  ·rw [if_neg e,(h n).2]
   by_cases hn:n∈own
   ·rw [if_pos hn,if_pos (List.mem_append_left _ hn)]
   ·rw [if_neg hn,if_neg (by rw [List.mem_append,List.mem_singleton];exact fun h=>h.elim hn e)]
theorem Dc.ow {d:Dcl} {k:Int} {Y:Qm Bs Ent} (hY:Dc d k gmNil Y):Ow (Ju d) d k Y:=by
 intro n
 refine ⟨fun h=>h,?_⟩
 rw [hY n]
 by_cases hn:n∈Ju d
 ·rw [if_pos hn]
  have hi:=XE d k n
  rw [decide_eq_true hn] at hi
  cases hl:YW d k n with
  | none=>rw [hl] at hi;cases hi
  | some en=>rfl
 ·rw [if_neg hn]
  have hi:=XE d k n
  rw [decide_eq_false hn] at hi
  cases hl:YW d k n with
  | none=>rfl
  | some en=>rw [hl] at hi;cases hi
theorem findO_snoc (a:List Dcl) (x:Dcl) (n:Bs):GP (a++[x]) n=(GP a n).elim (YW x (a.length:Int) n) some:=by
 unfold GP
 rw [fsI_app,Nat.zero_add]
 congr 1
 show (YW x (a.length:Int) n).elim none some=_
 cases YW x (a.length:Int) n <;> rfl
theorem Bk.next {a:List Dcl} {x:Dcl} {M M':Qm Bs Ent} (h:Bk a M) (hd:Dc x (a.length:Int) M M') (hf:∀ n∈Ju x,GP a n=none):Bk (a++[x]) M':=by
 intro n
 rw [hd n,h n,findO_snoc]
 have hi:=XE x (a.length:Int) n
 by_cases hn:n∈Ju x
 ·rw [hf n hn]
  cases YW x (a.length:Int) n <;> rfl
 ·rw [decide_eq_false hn] at hi
  cases hl:YW x (a.length:Int) n with
  | none=>cases GP a n <;> rfl
  | some en=>rw [hl] at hi;cases hi
end Go.Proofs.Ytafddfoefeploaa
namespace Go.Proofs.Ytafddfoefeploaa
open Go.RowKit Go.Shelf
set_option linter.unusedSimpArgs false
set_option linter.unusedVariables false
set_option linter.unusedSectionVars false
theorem fn_size {d:Dcl} {f:Fn} (h:f∈d.funs):f.ty.size+f.tree.size+f.name.length < d.size:=by
 have h1:=ZH fsz h
 have h2:fsz f=1+f.name.length+f.ty.size+f.tree.size:=rfl
 unfold Dcl.size;omega
theorem names_mem_len {d:Dcl} {n:Bs} (h:n∈Ju d):n.length≤d.size+4:=by
 have hd:=name_len d
 unfold Ju at h
 split at h
 ·rw [List.mem_singleton.1 h];omega
 ·split at h
  ·rcases List.mem_append.1 h with h | h
   ·rcases List.mem_cons.1 h with h | h
    ·rw [h];omega
    ·obtain ⟨c,hc,rfl⟩:=List.mem_map.1 h
     have:=GR hc
     omega
   ·rw [List.mem_singleton.1 h,List.length_append]
    show d.name.length+4≤_
    omega
  ·split at h
   ·obtain ⟨c,hc,rfl⟩:=List.mem_map.1 h
    have:=fn_size hc
    omega
   ·cases h
theorem take_mid {α:Type} {l a b:List α} (e:l=a++b):l.take a.length=a:=by rw [e];simp
def NmOk (env:List Dcl) (d:Dcl):Prop:=(Ju d).Nodup∧(∀ n∈Ju d,GP env n=none)∧∀ n∈Ju d,Xa n=true
theorem names_ok (env:List Dcl) (d:Dcl) (M:Qm Bs Ent) (hM:Bk env M) (he:Ze env≤800000000) (hd:d.size≤800000000) :
  ∃ e:Int,Dy env d=some e∧Sm2 e (Ug d env M)∧(e=0→NmOk env d):=by
 have hnl:=names_len d
 unfold Dy Ug
 rw [m23_eq d (by omega),m20_eq d (by omega),Option.bind_some,Option.bind_some]
 obtain ⟨r1,r2,h1,h2,h3⟩:=loop2 (β1:=Unit⊕Int) (β2:=(Qm Bs Bool)⊕(Unit⊕Int)) (step1:=XX (Ju d) env) (step2:=KT (Ju d) M) (Ju d) (fun i (_:Unit)=>i) (fun i (s:Qm Bs Bool)=>(i,s))
  (fun a _ s=>(∀ n,Qy s n=decide (n∈a))∧a.Nodup∧(∀ n∈a,GP env n=none)∧∀ n∈a,Xa n=true) (fun r1 r2=>(r1=.inl ()∧∃ s,r2=.inl s∧NmOk env d)∨∃ e,e ≠ 0∧r1=.inr e∧r2=.inr (.inr e)) (by omega)
  (fun a x b _ s e hI=>by
   obtain ⟨q1,q2⟩:=YZ e
   have hx:x.length≤900000000:=by have:=names_mem_len (d:=d) (n:=x) (by rw [e];simp);omega
   have hm:=Xb e
   obtain ⟨hs,hnd,hfr,hnk⟩:=hI
   unfold XX KT
   dsimp only
   rw [q1,q2]
   simp only [cond_true,Option.bind_some]
   rw [m71_eq x hx,m65_eq x hx,Option.bind_some,Option.bind_some,Xh]
   cases hnx:Xa x with
   | false=>exact .inl ⟨_,_,rfl,rfl,.inr ⟨29,by omega,rfl,rfl⟩⟩
   | true =>
    have hMx:=hM x
    simp only [Bool.not_true,cond_false,cond_true,Option.bind_some,Sum.elim_inl]
    rw [m15_eq env x he]
    unfold Uw
    cases hf:GP env x with
    | some en =>
     rw [hf] at hMx
     have g1:YE M x=true:=by unfold YE;rw [hMx];rfl
     rw [g1]
     exact .inl ⟨_,_,rfl,rfl,.inr ⟨8,by omega,rfl,rfl⟩⟩
    | none =>
     rw [hf] at hMx
     have g1:YE M x=false:=by unfold YE;rw [hMx];rfl
     rw [g1,hs x]
     have g2:Jv (cond (decide ((0:Int)≤(a.length:Int))) (Nat.ble ((a.length:Int)).toNat (Ju d).length) false) (Option.bind (UM ((Ju d).take ((a.length:Int)).toNat) x) fun (x13:Bool)=>some x13)=some (decide (x∈a)):=by
      rw [decide_eq_true (show (0:Int)≤(a.length:Int) by omega),cond_true]
      show Jv (Nat.ble a.length (Ju d).length) (Option.bind (UM ((Ju d).take a.length) x) _)=_
      rw [Yr (by omega),take_mid e,m33_eq a x (by omega)];rfl
     show (∃ r1 r2,Option.bind (Jv (cond (decide ((0:Int)≤(a.length:Int))) (Nat.ble ((a.length:Int)).toNat (Ju d).length) false) (Option.bind (UM ((Ju d).take ((a.length:Int)).toNat) x) fun (x13:Bool)=>some x13)) _=_∧_)∨(∃ s1' s2',Option.bind (Jv (cond (decide ((0:Int)≤(a.length:Int))) (Nat.ble ((a.length:Int)).toNat (Ju d).length) false) (Option.bind (UM ((Ju d).take ((a.length:Int)).toNat) x) fun (x13:Bool)=>some x13)) _=_∧_)
     rw [g2]
     by_cases hxa:x∈a
     ·rw [decide_eq_true hxa]
      exact .inl ⟨_,_,rfl,rfl,.inr ⟨8,by omega,rfl,rfl⟩⟩
     ·rw [decide_eq_false hxa]
      refine .inr ⟨(),J9 s x true,Z,Z,fun n=>?_,?_,fun n hn=>?_,fun n hn=>?_⟩
      ·rw [gmVal_set]
       by_cases hn:n=x
       ·rw [if_pos hn,decide_eq_true (by rw [hn];simp)]
       ·rw [if_neg hn,hs n]
        congr 1
        rw [List.mem_append,List.mem_singleton,eq_iff_iff]
        exact ⟨.inl,fun h=>h.resolve_right hn⟩
      ·rw [List.nodup_append]
       refine ⟨hnd,by simp,fun y hy z hz=>?_⟩
       rw [List.mem_singleton.1 hz]
       exact fun h=>hxa (h▸hy)
      ·rcases List.mem_append.1 hn with hn | hn
       ·exact hfr n hn
       ·rw [List.mem_singleton.1 hn];exact hf
      ·rcases List.mem_append.1 hn with hn | hn
       ·exact hnk n hn
       ·rw [List.mem_singleton.1 hn];exact hnx)
  (fun _ s hI=>⟨.inl (),.inl s,by unfold XX;rw [Jm];rfl,by unfold KT;dsimp only;rw [Jm];rfl,.inl ⟨rfl,s,rfl,hI.2⟩⟩) () gmNil ⟨fun n=>by rw [decide_eq_false (by intro h;cases h)];rfl,List.nodup_nil,(fun n hn=>by cases hn),fun n hn=>by cases hn⟩
 have h2':QE (KT (Ju d) M) QV (0,gmNil)=some r2:=h2
 have h1':QE (XX (Ju d) env) QV 0=some r1:=h1
 rw [h1',h2']
 rcases h3 with ⟨rfl,s,rfl,h4⟩ | ⟨e,h4,rfl,rfl⟩
 ·exact ⟨0,rfl,.ok rfl,fun _=>h4⟩
 ·exact ⟨e,rfl,.no h4 rfl,fun h=>(h4 h).elim⟩
theorem rule_size {d:Dcl} {r:Tm} (h:r∈d.rcr.rules):r.size < d.size:=by
 have:=ZH Tm.size h
 unfold Dcl.size;omega
theorem rty_size (d:Dcl):d.rcr.ty.size < d.size:=by unfold Dcl.size;omega
theorem value_size (d:Dcl):d.value.size < d.size:=by unfold Dcl.size;omega
theorem ind_eq (env:List Dcl) (d:Dcl) (M:Qm Bs Ent) (hM:Bk env M) (he:Ze env≤800000000) (hd:d.size≤800000000) (hnd:(Ju d).Nodup) (hk:d.kind=3) :
  ∃ e:Int,Option.bind (QE (GX d env) QV 0) (Sum.elim (fun (b1_:Unit)=>Xj d env) (fun o=>some o))=some e ∧
   (e=0→∃ O,WC d env M gmNil=some (.inl O))∧(e ≠ 0→∃ O,WC d env M gmNil=some (.inr (e,O))):=by
 have hc:=Za d
 have hrl:=rules_len d
 have hn3:Ju d=(d.name::d.ctors.map (·.name))++[d.name++Ul]:=by unfold Ju;rw [if_neg (by rw [hk];decide),if_pos hk];rfl
 obtain ⟨Y,hY1,hY2⟩:=decl_own d env hd hnd
 have hO1:Ow [d.name] d (env.length:Int) (J9 gmNil d.name (⟨(Qy Y d.name).kind,(Qy Y d.name).decl,(Qy Y d.name).item,(Qy Y d.name).params,((Qy Y d.name).ty)⟩:Ent)) :=
  (Ow.nil d (env.length:Int)).snoc hY2 d.name (by rw [hn3];simp)
 have hmem:∀ c∈d.ctors,c.name∈Ju d:=fun c hc=>by rw [hn3];exact List.mem_append_left _ (List.mem_cons_of_mem _ (List.mem_map.2 ⟨c,hc,rfl⟩))
 unfold WC
 rw [hY1]
 simp only [Option.bind_some]
 obtain ⟨e,h1,h2⟩:=YL (β1:=Unit⊕Int) (β2:=Unit⊕((Qm Bs Ent)⊕(Int×(Qm Bs Ent)))) (step1:=GX d env) (step2:=KH d env M gmNil Y) d.ctors (.inl ()) (.inl ()) .inr (fun e=>.inr (.inr (e,_))) (by omega) (fun a x b e=>by
  obtain ⟨q1,q2⟩:=YZ e
  have hx:=GR (d:=d) (c:=x) (by rw [e];simp)
  obtain ⟨e',w1,w2,w3⟩:=XZ ⟨env,[d.name],d⟩ M _ ⟨he,by simp,hd,hM,hO1⟩ x.ty 0 d.params (by omega)
  unfold GX KH
  rw [q1,q2]
  simp only [cond_true,Option.bind_some]
  rw [w1]
  refine ⟨e',fun he=>?_,fun he=>?_⟩
  ·have w4:=w2 he
   rw [w4];subst he;exact ⟨rfl,rfl⟩
  ·have w4:=w3 he
   rw [w4];exact ⟨XA he _ _,rfl⟩)
  (by unfold GX;rw [Jm];rfl) (by unfold KH;rw [Jm];rfl)
 by_cases he1:e ≠ 0
 ·obtain ⟨e1,e2⟩:=h2 he1
  rw [e1,e2]
  exact ⟨e,Z,fun h=>(he1 h).elim,fun _=>⟨_,Z⟩⟩
 obtain ⟨e1,e2⟩:=h1 (Decidable.not_not.1 he1)
 rw [e1,e2]
 show ∃ e:Int,Xj d env=some e∧(e=0→∃ O,KI d Y gmNil env M=some (.inl O))∧(e ≠ 0→∃ O,KI d Y gmNil env M=some (.inr (e,O)))
 obtain ⟨O2,h3,h4⟩:=YJ (step:=K2 d Y) d.ctors (fun i (s:Qm Bs Ent)=>(i,s)) (fun a s=>Ow (d.name::a.map (·.name)) d (env.length:Int) s) (fun s=>Ow (d.name::d.ctors.map (·.name)) d (env.length:Int) s) (by omega)
  (fun a x b s e hI=>by
   obtain ⟨q1,q2⟩:=YZ e
   refine .inr ⟨_,by unfold K2;dsimp only;rw [q1,q2];rfl,?_⟩
   have:=hI.snoc hY2 x.name (hmem x (by rw [e];simp))
   rw [List.map_append]
   exact this)
  (fun s hI=>⟨s,by unfold K2;dsimp only;rw [Jm];rfl,hI⟩) _ hO1
 have h3':QE (K2 d Y) QV (0,(J9 gmNil d.name (⟨(Qy Y d.name).kind,(Qy Y d.name).decl,(Qy Y d.name).item,(Qy Y d.name).params,((Qy Y d.name).ty)⟩:Ent)))=some O2:=h3
 unfold KI
 rw [h3',Option.bind_some]
 unfold m47f10_k8 Xj
 rw [m23_eq d (by omega),Option.bind_some]
 have hlen:(Ju d).length=d.ctors.length+2:=by rw [hn3];simp
 have hw:Jb (((Ju d).length:Int) - 1)=((d.ctors.length+1:Nat):Int):=by rw [hlen,Wt (by omega) (by omega)];omega
 rw [hw,decide_eq_true (show (0:Int)≤((d.ctors.length+1:Nat):Int) by omega),cond_true]
 show ∃ e:Int,Jv (Nat.ble (d.ctors.length+1) (Ju d).length) (Option.bind (UI ⟨env,(Ju d).take (d.ctors.length+1),d⟩ d.rcr.ty 0 d.rcr.params) _)=some e∧_
 have htake:(Ju d).take (d.ctors.length+1)=d.name::d.ctors.map (·.name):=by
  rw [hn3]
  have:d.ctors.length+1=(d.name::d.ctors.map (·.name)).length:=by simp
  rw [this,List.take_left']
  rfl
 rw [Yr (by omega),htake]
 obtain ⟨e',w1,w2,w3⟩:=XZ ⟨env,d.name::d.ctors.map (·.name),d⟩ M O2 ⟨he,by simp;omega,hd,hM,h4⟩ d.rcr.ty 0 d.rcr.params (by have:=rty_size d;omega)
 rw [w1]
 by_cases he2:e' ≠ 0
 ·have w4:=w3 he2
  rw [w4]
  simp only [Option.bind_some,Ud he2,cond_true]
  exact ⟨e',Z,fun h=>(he2 h).elim,fun _=>⟨_,Z⟩⟩
 have he2':=Decidable.not_not.1 he2
 have w4:=w2 he2'
 subst he2'
 rw [w4]
 simp only [Option.bind_some,Sum.elim_inl]
 rw [Yr (by have:=rec_ne d hd;show d.name.length+4≤_;omega)]
 show ∃ e:Int,Option.bind (QE (GW d env (Ju d)) QV 0) _=some e∧_
 have hO3:Ow (Ju d) d (env.length:Int) (J9 O2 (d.name++([46,114,101,99]:List UInt8)) (⟨(Qy Y (d.name++([46,114,101,99]:List UInt8))).kind,(Qy Y (d.name++([46,114,101,99]:List UInt8))).decl,(Qy Y (d.name++([46,114,101,99]:List UInt8))).item,(Qy Y (d.name++([46,114,101,99]:List UInt8))).params,((Qy Y (d.name++([46,114,101,99]:List UInt8))).ty)⟩:Ent)):=by
  have:=h4.snoc hY2 (d.name++Ul) (by rw [hn3];simp)
  rw [← hn3] at this
  exact this
 obtain ⟨e,h5,h6⟩:=YL (β1:=Unit⊕Int) (β2:=Unit⊕((Qm Bs Ent)⊕(Int×(Qm Bs Ent)))) (step1:=GW d env (Ju d)) (step2:=KG d env M O2 Y) d.rcr.rules (.inl ()) (.inl ()) .inr (fun e=>.inr (.inr (e,_))) (by omega) (fun a x b e=>by
  obtain ⟨q1,q2⟩:=YZ e
  have hx:=rule_size (d:=d) (r:=x) (by rw [e];simp)
  obtain ⟨e',w1,w2,w3⟩:=XZ ⟨env,Ju d,d⟩ M _ ⟨he,by show (Ju d).length≤_;omega,hd,hM,hO3⟩ x 0 d.rcr.params (by omega)
  unfold GW KG
  rw [q1,q2]
  simp only [cond_true,Option.bind_some]
  rw [w1]
  refine ⟨e',fun he=>?_,fun he=>?_⟩
  ·have w4:=w2 he
   rw [w4];subst he;exact ⟨rfl,rfl⟩
  ·have w4:=w3 he
   rw [w4];exact ⟨XA he _ _,rfl⟩)
  (by unfold GW;rw [Jm];rfl) (by unfold KG;rw [Jm];rfl)
 by_cases he3:e ≠ 0
 ·obtain ⟨e1,e2⟩:=h6 he3
  rw [e1,e2]
  exact ⟨e,Z,fun h=>(he3 h).elim,fun _=>⟨_,Z⟩⟩
 obtain ⟨e1,e2⟩:=h5 (Decidable.not_not.1 he3)
 rw [e1,e2]
 exact ⟨0,Z,fun _=>⟨_,Z⟩,fun h=>(h Z).elim⟩
end Go.Proofs.Ytafddfoefeploaa
namespace Go.Proofs.Ytafddfoefeploaa
open Go.RowKit Go.Shelf
set_option linter.unusedSimpArgs false
set_option linter.unusedVariables false
set_option linter.unusedSectionVars false
theorem elim_some {r:Unit⊕Int} {e:Int} (h:(e=0→r=.inl ())∧(e ≠ 0→r=.inr e)):Sum.elim (fun (_:Unit)=>(0:Int)) (fun x=>x) r=e:=by
 by_cases he:e=0
 ·rw [h.1 he];exact he.symm
 ·rw [h.2 he];rfl
theorem tail_nil (env:List Dcl) (d:Dcl) (M O:Qm Bs Ent) (hd:d.size≤800000000) (hnd:(Ju d).Nodup) (hf:d.funs=[]):KZ d O env M=some 0:=by
 obtain ⟨M',h1,-⟩:=decl_book d env O hd hnd
 unfold KZ
 rw [h1]
 simp only [Option.bind_some]
 rw [ZC (r:=.inl ()) (by unfold KX;rw [hf];rfl)]
 rfl
theorem k7_nil (env:List Dcl) (d:Dcl) (M:Qm Bs Ent) (hd:d.size≤800000000) (hnd:(Ju d).Nodup) (hf:d.funs=[]) (h3:d.kind ≠ 3):ZQ d env M=some 0:=by
 unfold ZQ
 rw [Yy,decide_eq_false h3]
 simp only [cond_false,Option.bind_some,Sum.elim_inl]
 rw [ZC (r:=.inl ()) (by unfold ZO;rw [hf];rfl)]
 exact tail_nil env d M gmNil hd hnd hf
theorem k7_ind (env:List Dcl) (d:Dcl) (M:Qm Bs Ent) (hM:Bk env M) (he:Ze env≤800000000) (hd:d.size≤800000000) (hnd:(Ju d).Nodup) (hf:d.funs=[]) (h3:d.kind=3) :
  ∃ e:Int,ZK false env d=some e∧ZQ d env M=some e:=by
 obtain ⟨e,h1,h2,h4⟩:=ind_eq env d M hM he hd hnd h3
 unfold ZK ZQ
 rw [Yy,decide_eq_true h3]
 simp only [cond_true,cond_false]
 rw [h1]
 by_cases he0:e=0
 ·obtain ⟨O,h5⟩:=h2 he0
  rw [h5]
  simp only [Option.bind_some,Sum.elim_inl]
  rw [ZC (r:=.inl ()) (by unfold ZO;rw [hf];rfl)]
  exact ⟨e,rfl,by rw [he0];exact tail_nil env d M O hd hnd hf⟩
 ·obtain ⟨O,h5⟩:=h4 he0
  rw [h5]
  exact ⟨e,Z,Z⟩
theorem k7_fam (env:List Dcl) (d:Dcl) (M:Qm Bs Ent) (hM:Bk env M) (he:Ze env≤800000000) (hd:d.size≤800000000) (hnd:(Ju d).Nodup) (h4:d.kind=4) :
  ∃ e:Int,ZK false env d=some e∧ZQ d env M=some e:=by
 have hfl:=Kh d
 have hnl:=names_len d
 have e3:decide (d.kind=3)=false:=decide_eq_false (by rw [h4];decide)
 have e4:decide (d.kind=4)=true:=decide_eq_true h4
 unfold ZK ZQ
 rw [Yy,e3,Yy,e4]
 simp only [cond_true,cond_false,Option.bind_some,Sum.elim_inl]
 obtain ⟨e,h1,h2⟩:=YL (β1:=Unit⊕Int) (β2:=Unit⊕Int) (step1:=Xi d env) (step2:=ZO d env M gmNil) d.funs (.inl ()) (.inl ()) .inr .inr (by omega) (fun a x b e=>by
  obtain ⟨q1,q2⟩:=YZ e
  have hx:=fn_size (d:=d) (f:=x) (by rw [e];simp)
  obtain ⟨e',w1,w2,w3⟩:=XZ ⟨env,[],d⟩ M gmNil ⟨he,by simp,hd,hM,Ow.nil _ _⟩ x.ty 0 d.params (by omega)
  unfold Xi ZO
  rw [q1,q2]
  simp only [cond_true,Option.bind_some]
  rw [w1]
  refine ⟨e',fun he=>?_,fun he=>?_⟩
  ·have w4:=w2 he
   rw [w4];subst he;exact ⟨rfl,rfl⟩
  ·have w4:=w3 he
   rw [w4];exact ⟨XA he _ _,rfl⟩)
  (by unfold Xi;rw [Jm];rfl) (by unfold ZO;rw [Jm];rfl)
 by_cases he1:e ≠ 0
 ·obtain ⟨e1,e2⟩:=h2 he1
  rw [e1,e2];exact ⟨e,rfl,rfl⟩
 obtain ⟨e1,e2⟩:=h1 (Decidable.not_not.1 he1)
 rw [e1,e2]
 simp only [Option.bind_some,Sum.elim_inl]
 rw [m23_eq d (by omega),Option.bind_some]
 obtain ⟨O,h3,hO⟩:=decl_book d env gmNil hd hnd
 unfold KZ
 rw [h3]
 simp only [Option.bind_some]
 obtain ⟨e,h5,h6⟩:=YL (β1:=Unit⊕Int) (β2:=Unit⊕Int) (step1:=Gs d env (Ju d)) (step2:=KX d env M O) d.funs (.inl ()) (.inl ()) .inr .inr (by omega) (fun a x b e=>by
  obtain ⟨q1,q2⟩:=YZ e
  have hx:=fn_size (d:=d) (f:=x) (by rw [e];simp)
  obtain ⟨e',w1,w2,w3⟩:=tree_eq ⟨env,Ju d,d⟩ M O ⟨he,by show (Ju d).length≤_;omega,hd,hM,hO.ow⟩ QV x.tree x.arity 0 (by unfold QV;omega) (by omega)
  have w1':m73 (⟨env,Ju d,d⟩:Rsc) x.tree x.arity 0=some e':=w1
  unfold Gs KX
  rw [q1,q2]
  simp only [cond_true,Option.bind_some]
  rw [w1']
  refine ⟨e',fun he=>?_,fun he=>?_⟩
  ·have w4:m48f11 x.tree x.arity 0 d.params env M O=some (.inl ()):=w2 he
   rw [w4];subst he;exact ⟨rfl,rfl⟩
  ·have w4:m48f11 x.tree x.arity 0 d.params env M O=some (.inr e'):=w3 he
   rw [w4];exact ⟨XA he _ _,rfl⟩)
  (by unfold Gs;rw [Jm];rfl) (by unfold KX;rw [Jm];rfl)
 by_cases he2:e=0
 ·obtain ⟨e1,e2⟩:=h5 he2
  rw [e1,e2];exact ⟨0,rfl,rfl⟩
 ·obtain ⟨e1,e2⟩:=h6 he2
  rw [e1,e2];exact ⟨e,rfl,rfl⟩
theorem used_funs {d:Dcl} (h:WJ d=true) (h4:d.kind ≠ 4):d.funs=[]:=by
 unfold WJ at h
 rw [Bool.and_eq_true,Bool.and_eq_true,Bool.and_eq_true] at h
 have h1:=h.1.1.2
 rw [Yy,decide_eq_false h4,Bool.false_or] at h1
 have h2:(d.funs.length:Int)=0:=eq_of_beq h1
 exact List.length_eq_zero_iff.1 (by omega)
noncomputable def bodyP (d:Dcl) (env:List Dcl) (M:Qm Bs Ent):Option Int :=
 Option.bind (cond (d.kind != 4) (Option.bind (Gb d.ty 0 d.params env M gmNil) (Sum.elim (fun (x10:Unit)=>some (.inl ())) (fun (x11:Int)=>some (.inr x11)))) (some (.inl ())))
  (Sum.elim (fun (v7:Unit)=>Option.bind (cond (d.kind==1) (some true) (some (d.kind==2))) (fun (v8:Bool)=>ZP v8 d env M)) (fun o=>some o))
theorem body_eq (env:List Dcl) (d:Dcl) (M:Qm Bs Ent) (hM:Bk env M) (he:Ze env≤800000000) (hd:d.size≤800000000) (hnd:(Ju d).Nodup) (h0:0≤d.kind) (h4:d.kind≤4) (hu:WJ d=true) :
  ∃ e:Int,Dx env d=some e∧bodyP d env M=some e:=by
 have hS:Sok ⟨env,[],d⟩ M gmNil:=⟨he,by simp,hd,hM,Ow.nil _ _⟩
 have hty:=ty_size d
 have hva:=value_size d
 have rest:∃ e:Int,Option.bind (cond (d.kind==1) (some (d.kind==1)) (some (d.kind==2))) (fun (v4:Bool)=>ZK v4 env d)=some e∧Option.bind (cond (d.kind==1) (some true) (some (d.kind==2))) (fun (v8:Bool)=>ZP v8 d env M)=some e:=by
  have e1:(cond (d.kind==1) (some (d.kind==1)) (some (d.kind==2)))=some (decide (d.kind=1∨d.kind=2)):=by
   rw [Yy,Yy]
   by_cases c1:d.kind=1
   ·rw [decide_eq_true c1,decide_eq_true (Or.inl c1)];rfl
   ·rw [decide_eq_false c1]
    show some (decide (d.kind=2))=_
    congr 2
    rw [eq_iff_iff]
    exact ⟨.inr,fun h=>h.resolve_left c1⟩
  have e2:(cond (d.kind==1) (some true) (some (d.kind==2)))=some (decide (d.kind=1∨d.kind=2)):=by
   rw [← e1]
   cases h:(d.kind==1) <;> rfl
  rw [e1,e2]
  show ∃ e:Int,ZK (decide (d.kind=1∨d.kind=2)) env d=some e∧ZP (decide (d.kind=1∨d.kind=2)) d env M=some e
  by_cases c:d.kind=1∨d.kind=2
  ·rw [decide_eq_true c]
   have hf:=used_funs hu (by omega)
   obtain ⟨e,w1,w2,w3⟩:=XZ ⟨env,[],d⟩ M gmNil hS d.value 0 d.params (by omega)
   unfold ZK ZP
   simp only [cond_true]
   rw [w1]
   by_cases he0:e=0
   ·have w4:=w2 he0
    rw [w4]
    simp only [Option.bind_some,Sum.elim_inl]
    rw [k7_nil env d M hd hnd hf (by omega)]
    exact ⟨e,rfl,by rw [he0]⟩
   ·have w4:=w3 he0
    rw [w4];exact ⟨e,rfl,rfl⟩
  ·rw [decide_eq_false c]
   unfold ZP
   simp only [cond_false,Option.bind_some,Sum.elim_inl]
   by_cases c3:d.kind=3
   ·exact k7_ind env d M hM he hd hnd (used_funs hu (by omega)) c3
   ·by_cases c4:d.kind=4
    ·exact k7_fam env d M hM he hd hnd c4
    ·rw [k7_nil env d M hd hnd (used_funs hu c4) c3]
     unfold ZK
     rw [Yy,decide_eq_false c3,Yy,decide_eq_false c4]
     exact ⟨0,Z,Z⟩
 unfold Dx bodyP
 by_cases c4:d.kind=4
 ·rw [show (d.kind != 4)=false from by rw [c4];rfl]
  exact rest
 ·rw [show (d.kind != 4)=true from bne_iff_ne.2 c4]
  simp only [cond_true]
  obtain ⟨e,w1,w2,w3⟩:=XZ ⟨env,[],d⟩ M gmNil hS d.ty 0 d.params (by omega)
  rw [w1]
  by_cases he0:e=0
  ·have w4:=w2 he0
   rw [w4];subst he0;exact rest
  ·have w4:=w3 he0
   rw [w4]
   simp only [Option.bind_some,Ud he0,cond_true]
   exact ⟨e,Z,Z⟩
theorem dcl_eq (env:List Dcl) (d:Dcl) (M:Qm Bs Ent) (hM:Bk env M) (he:Ze env≤800000000) (hd:d.size≤800000000) (hr:WH d.rcr.params) :
  ∃ e:Int,Dk env d=some e∧Wn d env M=some e∧(e=0→NmOk env d):=by
 unfold Dk
 by_cases c1:d.kind < 0
 ·have:Wn d env M=some 1:=by unfold Wn WM;rw [decide_eq_false (show ¬ 0≤d.kind by omega)];rfl
  rw [decide_eq_true c1,this]
  exact ⟨1,rfl,rfl,fun h=>by omega⟩
 rw [decide_eq_false c1]
 by_cases c2:4 < d.kind
 ·have:Wn d env M=some 1:=by unfold Wn WM;rw [decide_eq_true (show 0≤d.kind by omega),decide_eq_false (show ¬ d.kind≤4 by omega)];rfl
  rw [decide_eq_true c2,this]
  exact ⟨1,rfl,rfl,fun h=>by omega⟩
 rw [decide_eq_false c2]
 show ∃ e:Int,WZ false d env=some e∧_
 unfold WZ Wn
 rw [m44_used d (by omega) (by omega),m50_eq d (by omega) (by omega)]
 cases hu:WJ d with
 | false=>exact ⟨3,rfl,rfl,fun h=>by omega⟩
 | true =>
  simp only [cond_false,cond_true,Option.bind_some,Bool.not_true]
  obtain ⟨e,h1,h2,h3⟩:=k4_eq d (by omega) hr
  rw [h1]
  by_cases he0:e ≠ 0
  ·rw [h3 he0]
   simp only [Option.bind_some,Ud he0,cond_true]
   exact ⟨e,Z,Z,fun h=>(he0 h).elim⟩
  have he0':=Decidable.not_not.1 he0
  rw [h2 he0']
  subst he0'
  obtain ⟨e,h4,⟨h5,h6⟩,h7⟩:=names_ok env d M hM he hd
  show ∃ e:Int,Option.bind (Dy env d) _=some e∧Option.bind (Ug d env M) _=some e∧_
  rw [h4]
  by_cases he1:e ≠ 0
  ·rw [h6 he1]
   simp only [Option.bind_some,Ud he1,cond_true]
   exact ⟨e,Z,Z,fun h=>(he1 h).elim⟩
  have he1':=Decidable.not_not.1 he1
  rw [h5 he1']
  subst he1'
  have h8:=h7 rfl
  obtain ⟨e,h10,h11⟩:=body_eq env d M hM he hd h8.1 (by omega) (by omega) hu
  show ∃ e:Int,Option.bind (Dx env d) _=some e∧bodyP d env M=some e∧_
  rw [h10,h11]
  exact ⟨e,Z,Z,fun _=>h8⟩
theorem envSz_app (a b:List Dcl):Ze (a++b)=Ze a+Ze b:=by unfold Ze;rw [List.map_append,List.sum_append]
def OkD (a:List Dcl) (x:Dcl):Prop:=Dk a x=some 0∧NmOk a x
def Good (l:List Dcl):Prop:=∀ a x b,l=a++x::b→OkD a x
theorem snoc_split {α:Type} {a a' b':List α} {x y:α} (h:a++[x]=a'++y::b'):(a'=a∧y=x)∨∃ c,a=a'++y::c:=by
 rcases List.append_eq_append_iff.1 h with ⟨c,h1,h2⟩ | ⟨c,h1,h2⟩
 ·cases c with
  | nil =>
   rw [List.nil_append] at h2
   cases h2
   rw [List.append_nil] at h1
   exact .inl ⟨h1,Z⟩
  | cons z c =>
   exfalso
   have:=congrArg List.length h2
   simp at this
 ·cases c with
  | nil =>
   rw [List.nil_append] at h2
   cases h2
   rw [List.append_nil] at h1
   exact .inl ⟨h1.symm,Z⟩
  | cons z c =>
   rw [List.cons_append] at h2
   cases h2
   exact .inr ⟨c,h1⟩
theorem Good.nil:Good []:=fun a x b h=>by cases a <;> cases h
theorem Good.snoc {a:List Dcl} {x:Dcl} (h:Good a) (hx:OkD a x):Good (a++[x]):=fun a' y b' e=>by
 rcases snoc_split e with ⟨rfl,rfl⟩ | ⟨c,e⟩
 ·exact hx
 ·exact h a' y c e
theorem check_is (env:List Dcl) (he:Ze env≤800000000) (hr:∀ d∈env,WH d.rcr.params):∃ r,Dl env=some r∧DC env=some r ∧
  (env.length≤1000→(r=(0,0)∧Good env)∨∃ a x b e,env=a++x::b∧Good a∧Dk a x=some e∧e ≠ 0∧r=((a.length:Int),e)):=by
 have hl:=env_len env
 unfold Dl DC
 by_cases hc:1000 < (env.length:Int)
 ·rw [decide_eq_true hc];exact ⟨_,rfl,rfl,fun h=>by omega⟩
 ·rw [decide_eq_false hc]
  simp only [cond_false]
  obtain ⟨r1,r2,h1,h2,h3⟩:=loop2 (β1:=Unit⊕(Int×Int)) (β2:=((Qm Bs Ent)×(List Dcl))⊕(Int×Int)) (step1:=Wc env) (step2:=Wd env) env (fun i (_:Unit)=>i) (fun i (s:(Qm Bs Ent)×(List Dcl))=>(i,s.1,s.2))
   (fun a _ s=>Bk a s.1∧Good a) (fun r1 r2=>(r1=.inl ()∧(∃ s,r2=.inl s)∧Good env)∨∃ a x b e,env=a++x::b∧Good a∧Dk a x=some e∧e ≠ 0∧r1=.inr ((a.length:Int),e)∧r2=.inr ((a.length:Int),e)) (by omega)
   (fun a x b _ s e hI=>by
    obtain ⟨q1,q2⟩:=YZ e
    have hm:=Xb e
    have hsz:Ze a+x.size≤800000000:=by
     rw [e,envSz_app] at he
     have:Ze (x::b)=x.size+Ze b:=rfl
     omega
    obtain ⟨ec,w1,w2,w3⟩:=dcl_eq a x s.1 hI.1 (by omega) (by omega) (hr x (by rw [e];simp))
    have g1:∀ {α:Type} (o:Option α),Jv (cond (decide ((0:Int)≤(a.length:Int))) (Nat.ble ((a.length:Int)).toNat env.length) false) o=o:=fun o=>by
     rw [decide_eq_true (show (0:Int)≤(a.length:Int) by omega),cond_true]
     show Jv (Nat.ble a.length env.length) o=o
     rw [Yr (by omega)]
    have g2:env.take ((a.length:Int)).toNat=a:=take_mid e
    unfold Wc Wd
    dsimp only
    rw [q1,q2,g2]
    simp only [cond_true,Option.bind_some]
    rw [g1,g1,w1,w2]
    by_cases he0:ec=0
    ·have hok:=w3 he0
     obtain ⟨M',n1,n2⟩:=decl_next x a s.1 s.2 (by omega) hok.1
     subst he0
     simp only [Option.bind_some]
     refine .inr ⟨(),(M',a),Z,?_,hI.1.next n2 hok.2.1,hI.2.snoc ⟨w1,hok⟩⟩
     show Option.bind (Option.bind (cond (x.kind==0) (some (x.kind==0)) (cond (x.kind==1) (some (x.kind==1)) (some (x.kind==2)))) (fun (v12:Bool)=>U1 v12 x ((a.length:Int),s.1,s.2))) _=_
     rw [n1];rfl
    ·simp only [Option.bind_some,Ud he0,cond_true]
     exact .inl ⟨_,_,Z,Z,.inr ⟨a,x,b,ec,e,hI.2,w1,he0,Z,Z⟩⟩)
   (fun _ s hI=>⟨.inl (),.inl s,by unfold Wc;rw [Jm];rfl,by unfold Wd;dsimp only;rw [Jm];rfl,.inl ⟨rfl,⟨s,rfl⟩,hI.2⟩⟩) () (gmNil,[]) ⟨fun n=>rfl,Good.nil⟩
  have h1':QE (Wc env) QV 0=some r1:=h1
  have h2':QE (Wd env) QV (0,gmNil,([]:List Dcl))=some r2:=h2
  rw [h1',h2']
  rcases h3 with ⟨rfl,⟨s,rfl⟩,h3⟩ | ⟨a,x,b,e,h4,h5,h6,h7,rfl,rfl⟩
  ·exact ⟨_,rfl,rfl,fun _=>.inl ⟨rfl,h3⟩⟩
  ·exact ⟨_,rfl,rfl,fun _=>.inr ⟨a,x,b,e,h4,h5,h6,h7,rfl⟩⟩
theorem check_eq (env:List Dcl) (he:Ze env≤800000000) (hr:∀ d∈env,WH d.rcr.params):∃ r,Dl env=some r∧DC env=some r :=
 let ⟨r,h1,h2,_⟩:=check_is env he hr
 ⟨r,h1,h2⟩
end Go.Proofs.Ytafddfoefeploaa
namespace Go.Proofs.Ytafddfoefeploaa
open Go.RowKit
set_option linter.unusedSimpArgs false
set_option linter.unusedVariables false
set_option linter.unusedSectionVars false
section
variable {E:Env} {st:St} {d:Option Tmp} {ty:TypeId} {pos:String} {af:Array Edge} {g:Option (Nat×Bool)}
theorem OpOK.data4E {α:Type} [Enc α] (v1 v2 v3 v4:α) {t e:Nat} {zs:List Value} {o1 o2 o3 o4:Operand} {x1 x2 x3 x4:AV} {ys:List CA} (ht:JA E.P t=some (e,Enc.sz α)) (hze:JL E.P e=some zs) (hzl:zs.length=Enc.sz α) (hz:zs.all (·.oneCell')=true) (hlen:4 * Enc.sz α≤16777216)
  (h1:ev st.tm o1=some (.v x1)) (h2:ev st.tm o2=some (.v x2)) (h3:ev st.tm o3=some (.v x3)) (h4:ev st.tm o4=some (.v x4)) (hf:Zl (JZ (Enc.sz α) 4) (Y5 zs 4) [(0,x1),(1,x2),(2,x3),(3,x4)]=some ys) (hs:CSubs ys (Enc.enc v1++(Enc.enc v2++(Enc.enc v3++(Enc.enc v4))))) (hel:(Enc.enc v1).length=Enc.sz α∧(Enc.enc v2).length=Enc.sz α∧(Enc.enc v3).length=Enc.sz α∧(Enc.enc v4).length=Enc.sz α) :
  OpOK E ⟨d,.buildSlice t 4 #[(0,o1),(1,o2),(2,o3),(3,o4)],ty,pos,af,g⟩ st (.v (.one (.d (.sl (Enc.sz α) (Enc.encL [v1,v2,v3,v4]))))) ⟨st.hp,st.tk,st.nx⟩ :=
 OpOK.litData (avs:=[(0,x1),(1,x2),(2,x3),(3,x4)]) (Enc.encL [v1,v2,v3,v4]) ht hze hzl hz hlen rfl (fun j i x hx=>by
  match j,hx with
  | 0,hx=>cases hx;exact ⟨o1,rfl,h1⟩
  | 1,hx=>cases hx;exact ⟨o2,rfl,h2⟩
  | 2,hx=>cases hx;exact ⟨o3,rfl,h3⟩
  | 3,hx=>cases hx;exact ⟨o4,rfl,h4⟩) hf (by rw [Enc.cons,Enc.cons,Enc.cons,Enc.one];simpa using hs) (fun x hx=>by
   rw [Enc.cons,Enc.cons,Enc.cons,Enc.one] at hx;simp at hx
   rcases hx with rfl | rfl | rfl | rfl
   ·exact hel.1
   ·exact hel.2.1
   ·exact hel.2.2.1
   ·exact hel.2.2.2) (by rw [Enc.len];rfl)
end
end Go.Proofs.Ytafddfoefeploaa
namespace Go.Proofs.Ytafddfoefeploaa
open Go.RowKit Go.Shelf
set_option linter.unusedSimpArgs false
set_option linter.unusedVariables false
theorem bd_42:Y4 Try.prog 42 [(0,1),(1,5),(6,1)] [.int .i64 0,.int .i64 0,.int .i64 0,.string ByteArray.empty,.slice none 0 0,.slice none 0 0,.slice none 0 0]:=⟨by kernel_rfl,by kernel_rfl⟩
theorem bd_71:Y4 Try.prog 71 [(0,1),(1,5)] [.string ByteArray.empty,.int .i64 0,.int .i64 0,.string ByteArray.empty,.slice none 0 0,.slice none 0 0]:=⟨by kernel_rfl,by kernel_rfl⟩
theorem bd_87:Y4 Try.prog 87 [(0,1),(1,1)] [.int .i64 0,.slice none 0 0]:=⟨by kernel_rfl,by kernel_rfl⟩
theorem en_10:QZ Try.prog 10:=enters_of Try.func10 (by kernel_rfl) rfl
theorem en_26:QZ Try.prog 26:=enters_of Try.func26 (by kernel_rfl) rfl
theorem en_28:QZ Try.prog 28:=enters_of Try.func28 (by kernel_rfl) rfl
theorem en_29:QZ Try.prog 29:=enters_of Try.func29 (by kernel_rfl) rfl
def DR (a0:Bs):Option Tm :=
 some (Tm.mk 3 0 a0 ([]:List Lvl) ([]:List Tm))
theorem m29_ok (a0:Bs) (r:Tm) (h0:DR a0=some r):Fun Try.prog 29 [.one (J3 a0)] (QM [.agg (cE r)]):=by
 unfold DR at h0
 refine QB 9 5 Try.func29 Z en_29 Z (lb Z) (fun S w=>?_)
 simp only [J5]
 refine Q4<|Q0<|Qa Z Z (lb Z) (Qu KN Z)<|Q5<|Q3<|Q4<|Q0<|DZ Z Z Z<|DY Z Z Z (Jp Uy Z Z Z Z)<|QA Z Z (Qz QU Z Z Z Z (lb Z) Z)<|Q5<|Q3<|Qp ?_
 have e:=DW h0;subst e
 exact Qo (fun _ _ h=>h) Z (Y8 QU Z Z Z Z .nil) (.cons (.agg (.cons (.d _) (.cons (.d _) (.cons (.d _) (.cons (.nil _) (.cons (.nil _) .nil)))))) .nil)
def m28 (a0:Tm) (a1:Tm):Option Tm :=
 some (Tm.mk 6 0 ([]:List UInt8) ([]:List Lvl) [a0,a1])
theorem m28_ok (a0:Tm) (a1:Tm) (r:Tm) (h0:m28 a0 a1=some r):Fun Try.prog 28 [.agg (cE a0),.agg (cE a1)] (QM [.agg (cE r)]):=by
 unfold m28 at h0
 refine QB 9 9 Try.func28 Z en_28 Z (lb Z) (fun S w=>?_)
 simp only [J5]
 refine Q4<|Q0<|Qa Z Z (lb Z) (QN Z)<|Qa Z Z (lb Z) (QN Z)<|Qa Z Z (lb Z) (Qu KN Z)<|Q5<|Q3<|Q4<|Q0<|DY Z Z Z (QH (a0:Tm) QU Z Z)<|DY Z Z Z (QH (a1:Tm) QU Z Z)<|Qa Z Z (lb Z) (OpOK.lit2E (α:=Tm) a0 a1 Jk KN Z Z (lb Z) (lb Z) Z Z Z (.cons (.d _) (.cons (.d _) (.cons (.d _) (.cons (.d _) (.cons (.d _) (.cons (.d _) (.cons (.d _) (.cons (.d _) (.cons (.d _) (.cons (.d _) .nil)))))))))) ⟨Z,Z⟩)<|DY Z Z Z (Jp Uy Z Z Z Z)<|QA Z Z (Qz QU Z Z Z Z (lb Z) Z) ?_
 refine Q5<|Q3<|Qp ?_
 have e:=DW h0;subst e
 exact Qo (fun _ _ h=>h) Z (Y8 QU Z Z Z Z .nil) (.cons (.agg (.cons (.d _) (.cons (.d _) (.cons (.d _) (.cons (.nil _) (.cons (.app _ _ _) .nil)))))) .nil)
noncomputable abbrev m26_h0 (p0_:Tm) (p1_:Tm):HB :=
 .cells 45 [dI 3,J3 ([78,97,116]:List UInt8),dI 0,dI 2,dI 0,J3 ([]:List UInt8),dA 2 ([(⟨0,([]:List LV)⟩:Lvl)]:List Lvl),dN,dI 0,dI 0,J3 ([]:List UInt8),dN,dN,dI 0,dS ([(⟨([78,97,116,46,122,101,114,111]:List UInt8),p0_⟩:Ctr),(⟨([78,97,116,46,115,117,99,99]:List UInt8),p1_⟩:Ctr)]:List Ctr),dI 1,dI p0_.kind,dI p0_.index,J3 p0_.name,dS p0_.levels,dS p0_.kids,dS ([p0_,p0_]:List Tm),dN]
noncomputable abbrev m26_h1 :HB :=
 .cells 33 [dI 2,dI 0,J3 ([]:List UInt8),dA 2 ([(⟨0,([]:List LV)⟩:Lvl)]:List Lvl),dN]
def m26 :Option Dcl :=
 Option.bind (DR ([78,97,116]:List UInt8)) fun (x1:Tm) =>
 Option.bind (m28 x1 x1) fun (x2:Tm) =>
 some (⟨3,([78,97,116]:List UInt8),0,(Tm.mk 2 0 ([]:List UInt8) [(⟨0,([]:List LV)⟩:Lvl)] ([]:List Tm)),(Tm.mk 0 0 ([]:List UInt8) ([]:List Lvl) ([]:List Tm)),0,[(⟨([78,97,116,46,122,101,114,111]:List UInt8),x1⟩:Ctr),(⟨([78,97,116,46,115,117,99,99]:List UInt8),x2⟩:Ctr)],(⟨1,x1,[x1,x1]⟩:Rcr),([]:List Fn)⟩:Dcl)
theorem m26_ok  (r:Dcl) (h0:m26 =some r):Fun Try.prog 26 [] (QM [.agg (cE r)]):=by
 unfold m26 at h0
 refine QB 9 21 Try.func26 Z en_26 Z (lb Z) (fun S w=>?_)
 simp only [J5]
 refine Q4<|Q0<|Qa Z Z (lb Z) (Qu Ub Z)<|Q5<|Q3<|Q4<|Q0 ?_
 refine Qc h0 (fun x1 hx1 h0=>?_)
 refine Qa Z Z (lb Z) (Qi (m29_ok ([78,97,116]:List UInt8) x1 hx1) Z (.cons (.one (.d _)) .nil))<|Qa Z Z (lb Z) (Qu KN Z)<|QA Z Z (QD (x1:Tm) QU Z Z Z Z Z)<|Q5<|Q3<|Q4<|Q0<|DY Z Z Z (ZG bd_87 Z )<|Qa Z Z (lb Z) (JO (α:=Lvl) ((⟨0,([]:List LV)⟩:Lvl)) YO UN Z Z (lb Z) (lb Z) Z Z (.cons (.d _) (.cons (.nil _) .nil)) Z)<|DY Z Z Z (Jp Uy Z Z Z Z)<|Qa Z Z (lb Z) (Qu KN Z)<|QA Z Z (Qz QU Z Z Z Z (lb Z) Z)<|Q5<|Q3 ?_
 refine Q4 ?_
 refine J6 [14] [] JT (by kernel_rfl) (by kernel_rfl) (by kernel_rfl) ?_
 refine RunA.rd Z Z Z (Q1 (Qk QU Z Z Z Z)) Z<|RunA.rd Z Z Z (Q1 (QH (x1:Tm) QU Z Z)) Z<|RunA.rd Z Z Z (Q1 (Jp bd_71 Z Z Z Z)) Z<|RunA.rd Z Z Z (Q1 (QH (x1:Tm) QU Z Z)) Z<|RunA.rd Z Z Z (Q1 (QH (x1:Tm) QU Z Z)) Z ?_
 refine Qc h0 (fun x2 hx2 h0=>?_)
 refine RunA.rd Z Z Z (Qi (m28_ok x1 x1 x2 hx2) Z (.cons (.agg (.cons (.d _) (.cons (.d _) (.cons (.d _) (.cons (.d _) (.cons (.d _) .nil)))))) (.cons (.agg (.cons (.d _) (.cons (.d _) (.cons (.d _) (.cons (.d _) (.cons (.d _) .nil)))))) .nil))) Z<|RunA.rd Z Z Z (Q1 (Jp bd_71 Z Z Z Z)) Z<|RunA.rd Z Z Z (OpOK.data2E (α:=Ctr) (⟨([78,97,116,46,122,101,114,111]:List UInt8),x1⟩:Ctr) (⟨([78,97,116,46,115,117,99,99]:List UInt8),x2⟩:Ctr) Y1 Uk Z Z (lb Z) Z Z Z (.cons (.d _) (.cons (.d _) (.cons (.d _) (.cons (.d _) (.cons (.d _) (.cons (.d _) (.cons (.d _) (.cons (.d _) (.cons (.d _) (.cons (.d _) (.cons (.d _) (.cons (.d _) .nil)))))))))))) ⟨Z,Z⟩) Z<|RunA.rd Z Z Z (Q1 (QH (x1:Tm) QU Z Z)) Z<|RunA.rd Z Z Z (Q1 (QH (x1:Tm) QU Z Z)) Z<|RunA.rd Z Z Z (Q1 (QH (x1:Tm) QU Z Z)) Z<|RunA.rd Z Z Z (OpOK.data2E (α:=Tm) x1 x1 Jk KN Z Z (lb Z) Z Z Z (.cons (.d _) (.cons (.d _) (.cons (.d _) (.cons (.d _) (.cons (.d _) (.cons (.d _) (.cons (.d _) (.cons (.d _) (.cons (.d _) (.cons (.d _) .nil)))))))))) ⟨Z,Z⟩) Z<|RunA.rd Z Z Z (Q1 (ZF bd_42 Z Z Z Z Z)) Z<|RunA.rd Z Z Z (Q1 (JW bd_45 Z (.cons Z (.cons Z (.cons Z (.cons Z (.cons Z .nil))))) Z)) Z<|RunA.eff Z Z Z (YM JE Z Z Z Z Z Z) Z ?_
 refine RunA.nil ⟨?ex,_,_,Z,?_⟩
 case ex=>exact trivial
 refine Jo (st':=⟨[(0,.v (.one (.ptr 0 0)))],[(0,m26_h0 x1 x2),(1,.cells 33 (cE x1)),(3,m26_h1)],[(2,some ⟨87,2,(Enc.encL ([(⟨0,([]:List LV)⟩:Lvl)]:List Lvl)).length,[]⟩)],4,21,[]⟩) (DV (Nat.zero_le _) Z Z Z Z Z)<|Q3<|Qp ?_
 have e:=DW h0;subst e
 exact Qo (fun _ _ h=>h) Z (Y8 JE Z Z Z Z .nil) (.cons (.agg (.cons (.d _) (.cons (.d _) (.cons (.d _) (.cons (.d _) (.cons (.d _) (.cons (.d _) (.cons (.app _ _ _) (.cons (.nil _) (.cons (.d _) (.cons (.d _) (.cons (.d _) (.cons (.nil _) (.cons (.nil _) (.cons (.d _) (.cons (.d _) (.cons (.d _) (.cons (.d _) (.cons (.d _) (.cons (.d _) (.cons (.d _) (.cons (.d _) (.cons (.d _) (.cons (.nil _) .nil)))))))))))))))))))))))) .nil)
noncomputable abbrev m10_h0 (p0_:Dcl) (p1_:Ent×Int) (p2_:Dcl×Int×Bool):List (Nat×HB) :=
 [(0,.cells 45 (cE p0_)),(4,.cells 35 (cE p1_.1)),(6,.cells 45 (cE p2_.1))]
noncomputable def m10 :Option Bool :=
 Option.bind (m26 ) fun (x1:Dcl) =>
 Option.bind (DB x1) fun (x2:(List Bs)) =>
 Option.bind (Dl ([x1])) fun (x3:Int×Int) =>
 Option.bind (Dl ([x1,x1])) fun (x4:Int×Int) =>
 Option.bind (m14 ([x1]) ([78,97,116,46,115,117,99,99]:List UInt8)) fun (x5:Ent×Int) =>
 Option.bind (m16 ([x1]) ([78,97,116,46,114,101,99]:List UInt8)) fun (x6:Dcl×Int×Bool) =>
 Option.bind (Option.bind (m22 x2 ([([78,97,116]:List UInt8),([78,97,116,46,122,101,114,111]:List UInt8),([78,97,116,46,115,117,99,99]:List UInt8),([78,97,116,46,114,101,99]:List UInt8)])) fun (x8:Bool) =>
 cond x8
   (cond (x3.2==0)
   (cond (x4.1==1)
   (cond (x4.2==8)
   (cond (x5.2==0)
   (cond (x5.1.kind==4)
   (cond (x5.1.decl==0)
   (cond (x5.1.item==1)
   (cond (x5.1.params==0)
   (Option.bind (DR ([78,97,116]:List UInt8)) fun (x18:Tm) =>
 Option.bind (DR ([78,97,116]:List UInt8)) fun (x19:Tm) =>
 Option.bind (m28 x18 x19) fun (x20:Tm) =>
 Option.bind (Dq x5.1.ty x20) fun (x21:Bool) =>
 cond x21
   (cond x6.2.2
   (some (x6.2.1==(-2)))
   (some false))
   (some false))
   (some false))
   (some false))
   (some false))
   (some false))
   (some false))
   (some false))
   (some false))
   (some false))
   (some false)) (fun (v7:Bool)=>some v7)
theorem m10_ok  (r:Bool) (h0:m10 =some r):Fun Try.prog 10 [] (QM [.one (dB r)]):=by
 unfold m10 at h0
 refine QB 9 95 Try.func10 Z en_10 Z (lb Z) (fun S w=>?_)
 simp only [J5]
 refine Q4<|Q0<|rA Z Z Z<|Q5<|Q3<|Q4<|Q0 ?_
 refine Qc h0 (fun x1 hx1 h0=>?_)
 refine Qa Z Z (lb Z) (Qi (m26_ok  x1 hx1) Z .nil)<|Qa Z Z (lb Z) (Qu Ub Z)<|QA Z Z (QD (x1:Dcl) JE Z Z Z Z Z)<|Q5<|Q3<|Q4<|Q0<|DY Z Z Z (QH (x1:Dcl) JE Z Z) ?_
 refine Qc h0 (fun x2 hx2 h0=>?_)
 refine Qa Z Z (lb Z) (Qi (m20_ok x1 x2 hx2) Z (.cons (.agg (.cons (.d _) (.cons (.d _) (.cons (.d _) (.cons (.d _) (.cons (.d _) (.cons (.d _) (.cons (.d _) (.cons (.d _) (.cons (.d _) (.cons (.d _) (.cons (.d _) (.cons (.d _) (.cons (.d _) (.cons (.d _) (.cons (.d _) (.cons (.d _) (.cons (.d _) (.cons (.d _) (.cons (.d _) (.cons (.d _) (.cons (.d _) (.cons (.d _) (.cons (.d _) .nil)))))))))))))))))))))))) .nil))<|rA Z Z Z<|Q5<|Q3<|Q4<|Q0<|DY Z Z Z (QH (x1:Dcl) JE Z Z)<|Qa Z Z (lb Z) (OpOK.lit1CE (x1:Dcl) YP Ub Z Z (lb Z) Z) ?_
 refine Qc h0 (fun x3 hx3 h0=>?_)
 refine Qa Z Z (lb Z) (Qi (m11_ok ([x1]) x3 hx3) Z (.cons (.one (.app _ _ _)) .nil))<|DZ Z Z Z<|DY Z Z Z (J2 Z Z)<|DY Z Z Z (J2 Z Z)<|rA Z Z Z<|rA Z Z Z<|Q5<|Q3<|Q4<|Q0<|DY Z Z Z (QH (x1:Dcl) JE Z Z)<|DY Z Z Z (QH (x1:Dcl) JE Z Z)<|Qa Z Z (lb Z) (OpOK.lit2CE (x1:Dcl) (x1:Dcl) YP Ub Z Z (lb Z) Z Z) ?_
 refine Qc h0 (fun x4 hx4 h0=>?_)
 refine Qa Z Z (lb Z) (Qi (m11_ok ([x1,x1]) x4 hx4) Z (.cons (.one (.app _ _ _)) .nil))<|DZ Z Z Z<|DY Z Z Z (J2 Z Z)<|DY Z Z Z (J2 Z Z)<|rA Z Z Z<|rA Z Z Z<|Q5<|Q3<|Q4<|Q0<|DY Z Z Z (QH (x1:Dcl) JE Z Z)<|Qa Z Z (lb Z) (OpOK.lit1CE (x1:Dcl) YP Ub Z Z (lb Z) Z) ?_
 refine Qc h0 (fun x5 hx5 h0=>?_)
 refine Qa Z Z (lb Z) (Qi (m14_ok ([x1]) ([78,97,116,46,115,117,99,99]:List UInt8) x5 hx5) Z (.cons (.one (.app _ _ _)) (.cons (.one (.d _)) .nil)))<|DZ Z Z Z<|DY Z Z Z (J2 Z Z)<|DY Z Z Z (J2 Z Z)<|Qa Z Z (lb Z) (Qu Zg Z)<|QA Z Z (QD (x5.1:Ent) Ja Z Z Z Z Z)<|rA Z Z Z<|Q5<|Q3<|Q4<|Q0<|DY Z Z Z (QH (x1:Dcl) JE Z Z)<|Qa Z Z (lb Z) (OpOK.lit1CE (x1:Dcl) YP Ub Z Z (lb Z) Z) ?_
 refine Qc h0 (fun x6 hx6 h0=>?_)
 refine Qa Z Z (lb Z) (Qi (m16_ok ([x1]) ([78,97,116,46,114,101,99]:List UInt8) x6 hx6) Z (.cons (.one (.app _ _ _)) (.cons (.one (.d _)) .nil)))<|DZ Z Z Z<|DY Z Z Z (J2 Z Z)<|DY Z Z Z (J2 Z Z)<|DY Z Z Z (J2 Z Z)<|Qa Z Z (lb Z) (Qu Ub Z)<|QA Z Z (QD (x6.1:Dcl) JE Z Z Z Z Z)<|rA Z Z Z<|rA Z Z Z<|Q5<|Q3<|Q4 ?_
 refine QC (fun (v7:Bool)=>⟨[(0,.v (.one (dB v7)))],m10_h0 x1 x5 x6,[(1,some ⟨45,23,(Enc.encL ([x1]:List Dcl)).length,[]⟩),(2,some ⟨45,23,(Enc.encL ([x1,x1]:List Dcl)).length,[]⟩),(3,some ⟨45,23,(Enc.encL ([x1]:List Dcl)).length,[]⟩),(5,some ⟨45,23,(Enc.encL ([x1]:List Dcl)).length,[]⟩)],7,95,[]⟩) (fun (v7:Bool)=>(some v7)=some r) ?_ ?_
 refine Qc h0 (fun w1_ h1 h0=>?_)
 refine J6 [] [] JT (by kernel_rfl) (by kernel_rfl) (by kernel_rfl) ?_
 refine RunA.rd Z Z Z (Q1 (Qr Z)) Z<|RunA.rd Z Z Z (OpOK.data4E (α:=Bs) ([78,97,116]:List UInt8) ([78,97,116,46,122,101,114,111]:List UInt8) ([78,97,116,46,115,117,99,99]:List UInt8) ([78,97,116,46,114,101,99]:List UInt8) Y9 UG Z Z (lb Z) Z Z Z Z Z (.cons (.d _) (.cons (.d _) (.cons (.d _) (.cons (.d _) .nil)))) ⟨Z,Z,Z,Z⟩) Z ?_
 refine Qc h1 (fun x8 hx8 h1=>?_)
 refine RunA.rd Z Z Z (Qi (m22_ok x2 ([([78,97,116]:List UInt8),([78,97,116,46,122,101,114,111]:List UInt8),([78,97,116,46,115,117,99,99]:List UInt8),([78,97,116,46,114,101,99]:List UInt8)]) x8 hx8) Z (.cons (.one (.d _)) (.cons (.one (.d _)) .nil))) Z ?_
 refine JN (c:=x8) Z Z Z (Q1 (Qr Z)) Z (fun c9=>?_) (fun c9=>?_)
 replace h1:=Qf c9 h1
 refine RunA.rd Z Z Z (Q1 (Qr Z)) Z<|RunA.rd Z Z Z (Q1 (Q7 Z Z Z)) Z<|RunA.rd Z Z Z (Q1 (Qd Z Z)) Z ?_
 refine JN (c:=(x3.2==0)) Z Z Z (Q1 (Qr Z)) Z (fun c10=>?_) (fun c10=>?_)
 replace h1:=Qf c10 h1
 refine RunA.rd Z Z Z (Q1 (Qr Z)) Z<|RunA.rd Z Z Z (Q1 (Q7 Z Z Z)) Z<|RunA.rd Z Z Z (Q1 (Qd Z Z)) Z ?_
 refine JN (c:=(x4.1==1)) Z Z Z (Q1 (Qr Z)) Z (fun c11=>?_) (fun c11=>?_)
 replace h1:=Qf c11 h1
 refine RunA.rd Z Z Z (Q1 (Qr Z)) Z<|RunA.rd Z Z Z (Q1 (Q7 Z Z Z)) Z<|RunA.rd Z Z Z (Q1 (Qd Z Z)) Z ?_
 refine JN (c:=(x4.2==8)) Z Z Z (Q1 (Qr Z)) Z (fun c12=>?_) (fun c12=>?_)
 replace h1:=Qf c12 h1
 refine RunA.rd Z Z Z (Q1 (Qr Z)) Z<|RunA.rd Z Z Z (Q1 (Q7 Z Z Z)) Z<|RunA.rd Z Z Z (Q1 (Qd Z Z)) Z ?_
 refine JN (c:=(x5.2==0)) Z Z Z (Q1 (Qr Z)) Z (fun c13=>?_) (fun c13=>?_)
 replace h1:=Qf c13 h1
 refine RunA.rd Z Z Z (Q1 (Q2 YT Z)) Z<|RunA.rd Z Z Z (Q1 (Q6 QI Z Z Z)) Z<|RunA.rd Z Z Z (Q1 (Q7 Z Z Z)) Z<|RunA.rd Z Z Z (Q1 (Qd Z Z)) Z ?_
 refine JN (c:=(x5.1.kind==4)) Z Z Z (Q1 (Qr Z)) Z (fun c14=>?_) (fun c14=>?_)
 replace h1:=Qf c14 h1
 refine RunA.rd Z Z Z (Q1 (Q2 XH Z)) Z<|RunA.rd Z Z Z (Q1 (Q6 QI Z Z Z)) Z<|RunA.rd Z Z Z (Q1 (Q7 Z Z Z)) Z<|RunA.rd Z Z Z (Q1 (Qd Z Z)) Z ?_
 refine JN (c:=(x5.1.decl==0)) Z Z Z (Q1 (Qr Z)) Z (fun c15=>?_) (fun c15=>?_)
 replace h1:=Qf c15 h1
 refine RunA.rd Z Z Z (Q1 (Q2 Wp Z)) Z<|RunA.rd Z Z Z (Q1 (Q6 QI Z Z Z)) Z<|RunA.rd Z Z Z (Q1 (Q7 Z Z Z)) Z<|RunA.rd Z Z Z (Q1 (Qd Z Z)) Z ?_
 refine JN (c:=(x5.1.item==1)) Z Z Z (Q1 (Qr Z)) Z (fun c16=>?_) (fun c16=>?_)
 replace h1:=Qf c16 h1
 refine RunA.rd Z Z Z (Q1 (Q2 fo_35_3 Z)) Z<|RunA.rd Z Z Z (Q1 (Q6 QI Z Z Z)) Z<|RunA.rd Z Z Z (Q1 (Q7 Z Z Z)) Z<|RunA.rd Z Z Z (Q1 (Qd Z Z)) Z ?_
 refine JN (c:=(x5.1.params==0)) Z Z Z (Q1 (Qr Z)) Z (fun c17=>?_) (fun c17=>?_)
 replace h1:=Qf c17 h1
 refine RunA.rd Z Z Z (Q1 (Q2 fo_35_4 Z)) Z<|RunA.rd Z Z Z (Q1 (Qk QU Z Z Z Z)) Z ?_
 refine Qc h1 (fun x18 hx18 h1=>?_)
 refine RunA.rd Z Z Z (Qi (m29_ok ([78,97,116]:List UInt8) x18 hx18) Z (.cons (.one (.d _)) .nil)) Z ?_
 refine Qc h1 (fun x19 hx19 h1=>?_)
 refine RunA.rd Z Z Z (Qi (m29_ok ([78,97,116]:List UInt8) x19 hx19) Z (.cons (.one (.d _)) .nil)) Z ?_
 refine Qc h1 (fun x20 hx20 h1=>?_)
 refine RunA.rd Z Z Z (Qi (m28_ok x18 x19 x20 hx20) Z (.cons (.agg (.cons (.d _) (.cons (.d _) (.cons (.d _) (.cons (.d _) (.cons (.d _) .nil)))))) (.cons (.agg (.cons (.d _) (.cons (.d _) (.cons (.d _) (.cons (.d _) (.cons (.d _) .nil)))))) .nil))) Z ?_
 refine Qc h1 (fun x21 hx21 h1=>?_)
 refine RunA.rd Z Z Z (Qi (m27_ok x5.1.ty x20 x21 hx21) Z (.cons (.agg (.cons (.d _) (.cons (.d _) (.cons (.d _) (.cons (.d _) (.cons (.d _) .nil)))))) (.cons (.agg (.cons (.d _) (.cons (.d _) (.cons (.d _) (.cons (.d _) (.cons (.d _) .nil)))))) .nil))) Z<|RunA.rd Z Z Z (Q1 (Qd Z Z)) Z ?_
 refine JN (c:=x21) Z Z Z (Q1 (Qr Z)) Z (fun c22=>?_) (fun c22=>?_)
 replace h1:=Qf c22 h1
 refine RunA.rd Z Z Z (Q1 (Qr Z)) Z<|RunA.rd Z Z Z (Q1 (Qd Z Z)) Z ?_
 refine JN (c:=x6.2.2) Z Z Z (Q1 (Qr Z)) Z (fun c23=>?_) (fun c23=>?_)
 replace h1:=Qf c23 h1
 refine RunA.rd Z Z Z (Q1 (Qr Z)) Z<|RunA.rd Z Z Z (Q1 (Q7 Z Z Z)) Z<|RunA.rd Z Z Z (Q1 (Qd Z Z)) Z<|RunA.rd Z Z Z (Q1 (Jf Z)) Z ?_
 refine RunA.nil ⟨?ex,_,_,Z,?_⟩
 case ex=>exact trivial
 have e:=DW h1;subst e
 exact Q9 (x6.2.1==(-2)) (DV (Nat.zero_le _) Z Z Z Z Z) h0
 replace h1:=Qg c23 h1
 refine RunA.no Z Z Z Z<|RunA.no Z Z Z Z<|RunA.rd Z Z Z (Q1 (Qb Z Z)) Z<|RunA.rd Z Z Z (Q1 (Jf Z)) Z ?_
 refine RunA.nil ⟨?ex,_,_,Z,?_⟩
 case ex=>exact trivial
 have e:=DW h1;subst e
 exact Q9 false (DV (Nat.zero_le _) Z Z Z Z Z) h0
 replace h1:=Qg c22 h1
 refine RunA.no Z Z Z Z<|RunA.rd Z Z Z (Q1 (Qb Z Z)) Z<|RunA.rd Z Z Z (Q1 (Qr Z)) Z<|RunA.no Z Z Z Z<|RunA.no Z Z Z Z<|RunA.rd Z Z Z (Q1 (Qb Z Z)) Z<|RunA.rd Z Z Z (Q1 (Jf Z)) Z ?_
 refine RunA.nil ⟨?ex,_,_,Z,?_⟩
 case ex=>exact trivial
 have e:=DW h1;subst e
 exact Q9 false (DV (Nat.zero_le _) Z Z Z Z Z) h0
 replace h1:=Qg c17 h1
 refine RunA.no Z Z Z Z<|RunA.no Z Z Z Z<|RunA.no Z Z Z Z<|RunA.no Z Z Z Z<|RunA.no Z Z Z Z<|RunA.no Z Z Z Z<|RunA.rd Z Z Z (Q1 (Qb Z Z)) Z<|RunA.rd Z Z Z (Q1 (Qr Z)) Z<|RunA.no Z Z Z Z<|RunA.rd Z Z Z (Q1 (Qb Z Z)) Z<|RunA.rd Z Z Z (Q1 (Qr Z)) Z<|RunA.no Z Z Z Z<|RunA.no Z Z Z Z<|RunA.rd Z Z Z (Q1 (Qb Z Z)) Z ?_
 refine RunA.rd Z Z Z (Q1 (Jf Z)) Z ?_
 refine RunA.nil ⟨?ex,_,_,Z,?_⟩
 case ex=>exact trivial
 have e:=DW h1;subst e
 exact Q9 false (DV (Nat.zero_le _) Z Z Z Z Z) h0
 replace h1:=Qg c16 h1
 refine RunA.no Z Z Z Z<|RunA.no Z Z Z Z<|RunA.no Z Z Z Z<|RunA.rd Z Z Z (Q1 (Qb Z Z)) Z<|RunA.rd Z Z Z (Q1 (Qr Z)) Z<|RunA.no Z Z Z Z<|RunA.no Z Z Z Z<|RunA.no Z Z Z Z<|RunA.no Z Z Z Z<|RunA.no Z Z Z Z<|RunA.no Z Z Z Z<|RunA.rd Z Z Z (Q1 (Qb Z Z)) Z<|RunA.rd Z Z Z (Q1 (Qr Z)) Z<|RunA.no Z Z Z Z ?_
 refine RunA.rd Z Z Z (Q1 (Qb Z Z)) Z<|RunA.rd Z Z Z (Q1 (Qr Z)) Z<|RunA.no Z Z Z Z<|RunA.no Z Z Z Z<|RunA.rd Z Z Z (Q1 (Qb Z Z)) Z<|RunA.rd Z Z Z (Q1 (Jf Z)) Z ?_
 refine RunA.nil ⟨?ex,_,_,Z,?_⟩
 case ex=>exact trivial
 have e:=DW h1;subst e
 exact Q9 false (DV (Nat.zero_le _) Z Z Z Z Z) h0
 replace h1:=Qg c15 h1
 refine RunA.no Z Z Z Z<|RunA.no Z Z Z Z<|RunA.no Z Z Z Z<|RunA.rd Z Z Z (Q1 (Qb Z Z)) Z<|RunA.rd Z Z Z (Q1 (Qr Z)) Z<|RunA.no Z Z Z Z<|RunA.no Z Z Z Z<|RunA.no Z Z Z Z<|RunA.rd Z Z Z (Q1 (Qb Z Z)) Z<|RunA.rd Z Z Z (Q1 (Qr Z)) Z<|RunA.no Z Z Z Z<|RunA.no Z Z Z Z<|RunA.no Z Z Z Z<|RunA.no Z Z Z Z ?_
 refine RunA.no Z Z Z Z<|RunA.no Z Z Z Z<|RunA.rd Z Z Z (Q1 (Qb Z Z)) Z<|RunA.rd Z Z Z (Q1 (Qr Z)) Z<|RunA.no Z Z Z Z<|RunA.rd Z Z Z (Q1 (Qb Z Z)) Z<|RunA.rd Z Z Z (Q1 (Qr Z)) Z<|RunA.no Z Z Z Z<|RunA.no Z Z Z Z<|RunA.rd Z Z Z (Q1 (Qb Z Z)) Z<|RunA.rd Z Z Z (Q1 (Jf Z)) Z ?_
 refine RunA.nil ⟨?ex,_,_,Z,?_⟩
 case ex=>exact trivial
 have e:=DW h1;subst e
 exact Q9 false (DV (Nat.zero_le _) Z Z Z Z Z) h0
 replace h1:=Qg c14 h1
 refine RunA.no Z Z Z Z<|RunA.no Z Z Z Z<|RunA.no Z Z Z Z<|RunA.rd Z Z Z (Q1 (Qb Z Z)) Z<|RunA.rd Z Z Z (Q1 (Qr Z)) Z<|RunA.no Z Z Z Z<|RunA.no Z Z Z Z<|RunA.no Z Z Z Z<|RunA.rd Z Z Z (Q1 (Qb Z Z)) Z<|RunA.rd Z Z Z (Q1 (Qr Z)) Z<|RunA.no Z Z Z Z<|RunA.no Z Z Z Z<|RunA.no Z Z Z Z<|RunA.rd Z Z Z (Q1 (Qb Z Z)) Z ?_
 refine RunA.rd Z Z Z (Q1 (Qr Z)) Z<|RunA.no Z Z Z Z<|RunA.no Z Z Z Z<|RunA.no Z Z Z Z<|RunA.no Z Z Z Z<|RunA.no Z Z Z Z<|RunA.no Z Z Z Z<|RunA.rd Z Z Z (Q1 (Qb Z Z)) Z<|RunA.rd Z Z Z (Q1 (Qr Z)) Z<|RunA.no Z Z Z Z<|RunA.rd Z Z Z (Q1 (Qb Z Z)) Z<|RunA.rd Z Z Z (Q1 (Qr Z)) Z<|RunA.no Z Z Z Z<|RunA.no Z Z Z Z ?_
 refine RunA.rd Z Z Z (Q1 (Qb Z Z)) Z<|RunA.rd Z Z Z (Q1 (Jf Z)) Z ?_
 refine RunA.nil ⟨?ex,_,_,Z,?_⟩
 case ex=>exact trivial
 have e:=DW h1;subst e
 exact Q9 false (DV (Nat.zero_le _) Z Z Z Z Z) h0
 replace h1:=Qg c13 h1
 refine RunA.no Z Z Z Z<|RunA.no Z Z Z Z<|RunA.no Z Z Z Z<|RunA.rd Z Z Z (Q1 (Qb Z Z)) Z<|RunA.rd Z Z Z (Q1 (Qr Z)) Z<|RunA.no Z Z Z Z<|RunA.no Z Z Z Z<|RunA.no Z Z Z Z<|RunA.rd Z Z Z (Q1 (Qb Z Z)) Z<|RunA.rd Z Z Z (Q1 (Qr Z)) Z<|RunA.no Z Z Z Z<|RunA.no Z Z Z Z<|RunA.no Z Z Z Z<|RunA.rd Z Z Z (Q1 (Qb Z Z)) Z ?_
 refine RunA.rd Z Z Z (Q1 (Qr Z)) Z<|RunA.no Z Z Z Z<|RunA.no Z Z Z Z<|RunA.no Z Z Z Z<|RunA.rd Z Z Z (Q1 (Qb Z Z)) Z<|RunA.rd Z Z Z (Q1 (Qr Z)) Z<|RunA.no Z Z Z Z<|RunA.no Z Z Z Z<|RunA.no Z Z Z Z<|RunA.no Z Z Z Z<|RunA.no Z Z Z Z<|RunA.no Z Z Z Z<|RunA.rd Z Z Z (Q1 (Qb Z Z)) Z<|RunA.rd Z Z Z (Q1 (Qr Z)) Z ?_
 refine RunA.no Z Z Z Z<|RunA.rd Z Z Z (Q1 (Qb Z Z)) Z<|RunA.rd Z Z Z (Q1 (Qr Z)) Z<|RunA.no Z Z Z Z<|RunA.no Z Z Z Z<|RunA.rd Z Z Z (Q1 (Qb Z Z)) Z<|RunA.rd Z Z Z (Q1 (Jf Z)) Z ?_
 refine RunA.nil ⟨?ex,_,_,Z,?_⟩
 case ex=>exact trivial
 have e:=DW h1;subst e
 exact Q9 false (DV (Nat.zero_le _) Z Z Z Z Z) h0
 replace h1:=Qg c12 h1
 refine RunA.no Z Z Z Z<|RunA.no Z Z Z Z<|RunA.rd Z Z Z (Q1 (Qb Z Z)) Z<|RunA.rd Z Z Z (Q1 (Qr Z)) Z<|RunA.no Z Z Z Z<|RunA.no Z Z Z Z<|RunA.no Z Z Z Z<|RunA.rd Z Z Z (Q1 (Qb Z Z)) Z<|RunA.rd Z Z Z (Q1 (Qr Z)) Z<|RunA.no Z Z Z Z<|RunA.no Z Z Z Z<|RunA.no Z Z Z Z<|RunA.rd Z Z Z (Q1 (Qb Z Z)) Z<|RunA.rd Z Z Z (Q1 (Qr Z)) Z ?_
 refine RunA.no Z Z Z Z<|RunA.no Z Z Z Z<|RunA.no Z Z Z Z<|RunA.rd Z Z Z (Q1 (Qb Z Z)) Z<|RunA.rd Z Z Z (Q1 (Qr Z)) Z<|RunA.no Z Z Z Z<|RunA.no Z Z Z Z<|RunA.no Z Z Z Z<|RunA.rd Z Z Z (Q1 (Qb Z Z)) Z<|RunA.rd Z Z Z (Q1 (Qr Z)) Z<|RunA.no Z Z Z Z<|RunA.no Z Z Z Z<|RunA.no Z Z Z Z<|RunA.no Z Z Z Z ?_
 refine RunA.no Z Z Z Z<|RunA.no Z Z Z Z<|RunA.rd Z Z Z (Q1 (Qb Z Z)) Z<|RunA.rd Z Z Z (Q1 (Qr Z)) Z<|RunA.no Z Z Z Z<|RunA.rd Z Z Z (Q1 (Qb Z Z)) Z<|RunA.rd Z Z Z (Q1 (Qr Z)) Z<|RunA.no Z Z Z Z<|RunA.no Z Z Z Z<|RunA.rd Z Z Z (Q1 (Qb Z Z)) Z<|RunA.rd Z Z Z (Q1 (Jf Z)) Z ?_
 refine RunA.nil ⟨?ex,_,_,Z,?_⟩
 case ex=>exact trivial
 have e:=DW h1;subst e
 exact Q9 false (DV (Nat.zero_le _) Z Z Z Z Z) h0
 replace h1:=Qg c11 h1
 refine RunA.no Z Z Z Z<|RunA.no Z Z Z Z<|RunA.rd Z Z Z (Q1 (Qb Z Z)) Z<|RunA.rd Z Z Z (Q1 (Qr Z)) Z<|RunA.no Z Z Z Z<|RunA.no Z Z Z Z<|RunA.rd Z Z Z (Q1 (Qb Z Z)) Z<|RunA.rd Z Z Z (Q1 (Qr Z)) Z<|RunA.no Z Z Z Z<|RunA.no Z Z Z Z<|RunA.no Z Z Z Z<|RunA.rd Z Z Z (Q1 (Qb Z Z)) Z<|RunA.rd Z Z Z (Q1 (Qr Z)) Z<|RunA.no Z Z Z Z ?_
 refine RunA.no Z Z Z Z<|RunA.no Z Z Z Z<|RunA.rd Z Z Z (Q1 (Qb Z Z)) Z<|RunA.rd Z Z Z (Q1 (Qr Z)) Z<|RunA.no Z Z Z Z<|RunA.no Z Z Z Z<|RunA.no Z Z Z Z<|RunA.rd Z Z Z (Q1 (Qb Z Z)) Z<|RunA.rd Z Z Z (Q1 (Qr Z)) Z<|RunA.no Z Z Z Z<|RunA.no Z Z Z Z<|RunA.no Z Z Z Z<|RunA.rd Z Z Z (Q1 (Qb Z Z)) Z<|RunA.rd Z Z Z (Q1 (Qr Z)) Z ?_
 refine RunA.no Z Z Z Z<|RunA.no Z Z Z Z<|RunA.no Z Z Z Z<|RunA.no Z Z Z Z<|RunA.no Z Z Z Z<|RunA.no Z Z Z Z<|RunA.rd Z Z Z (Q1 (Qb Z Z)) Z<|RunA.rd Z Z Z (Q1 (Qr Z)) Z<|RunA.no Z Z Z Z<|RunA.rd Z Z Z (Q1 (Qb Z Z)) Z<|RunA.rd Z Z Z (Q1 (Qr Z)) Z<|RunA.no Z Z Z Z<|RunA.no Z Z Z Z<|RunA.rd Z Z Z (Q1 (Qb Z Z)) Z ?_
 refine RunA.rd Z Z Z (Q1 (Jf Z)) Z ?_
 refine RunA.nil ⟨?ex,_,_,Z,?_⟩
 case ex=>exact trivial
 have e:=DW h1;subst e
 exact Q9 false (DV (Nat.zero_le _) Z Z Z Z Z) h0
 replace h1:=Qg c10 h1
 refine RunA.no Z Z Z Z<|RunA.no Z Z Z Z<|RunA.rd Z Z Z (Q1 (Qb Z Z)) Z<|RunA.rd Z Z Z (Q1 (Qr Z)) Z<|RunA.no Z Z Z Z<|RunA.no Z Z Z Z<|RunA.rd Z Z Z (Q1 (Qb Z Z)) Z<|RunA.rd Z Z Z (Q1 (Qr Z)) Z<|RunA.no Z Z Z Z<|RunA.no Z Z Z Z<|RunA.rd Z Z Z (Q1 (Qb Z Z)) Z<|RunA.rd Z Z Z (Q1 (Qr Z)) Z<|RunA.no Z Z Z Z<|RunA.no Z Z Z Z ?_
 refine RunA.no Z Z Z Z<|RunA.rd Z Z Z (Q1 (Qb Z Z)) Z<|RunA.rd Z Z Z (Q1 (Qr Z)) Z<|RunA.no Z Z Z Z<|RunA.no Z Z Z Z<|RunA.no Z Z Z Z<|RunA.rd Z Z Z (Q1 (Qb Z Z)) Z<|RunA.rd Z Z Z (Q1 (Qr Z)) Z<|RunA.no Z Z Z Z<|RunA.no Z Z Z Z<|RunA.no Z Z Z Z<|RunA.rd Z Z Z (Q1 (Qb Z Z)) Z<|RunA.rd Z Z Z (Q1 (Qr Z)) Z<|RunA.no Z Z Z Z ?_
 refine RunA.no Z Z Z Z<|RunA.no Z Z Z Z<|RunA.rd Z Z Z (Q1 (Qb Z Z)) Z<|RunA.rd Z Z Z (Q1 (Qr Z)) Z<|RunA.no Z Z Z Z<|RunA.no Z Z Z Z<|RunA.no Z Z Z Z<|RunA.no Z Z Z Z<|RunA.no Z Z Z Z<|RunA.no Z Z Z Z<|RunA.rd Z Z Z (Q1 (Qb Z Z)) Z<|RunA.rd Z Z Z (Q1 (Qr Z)) Z<|RunA.no Z Z Z Z<|RunA.rd Z Z Z (Q1 (Qb Z Z)) Z ?_
 refine RunA.rd Z Z Z (Q1 (Qr Z)) Z<|RunA.no Z Z Z Z<|RunA.no Z Z Z Z<|RunA.rd Z Z Z (Q1 (Qb Z Z)) Z<|RunA.rd Z Z Z (Q1 (Jf Z)) Z ?_
 refine RunA.nil ⟨?ex,_,_,Z,?_⟩
 case ex=>exact trivial
 have e:=DW h1;subst e
 exact Q9 false (DV (Nat.zero_le _) Z Z Z Z Z) h0
 replace h1:=Qg c9 h1
 refine RunA.no Z Z Z Z<|RunA.no Z Z Z Z<|RunA.rd Z Z Z (Q1 (Qb Z Z)) Z<|RunA.rd Z Z Z (Q1 (Qr Z)) Z<|RunA.no Z Z Z Z<|RunA.no Z Z Z Z<|RunA.rd Z Z Z (Q1 (Qb Z Z)) Z<|RunA.rd Z Z Z (Q1 (Qr Z)) Z<|RunA.no Z Z Z Z<|RunA.no Z Z Z Z<|RunA.rd Z Z Z (Q1 (Qb Z Z)) Z<|RunA.rd Z Z Z (Q1 (Qr Z)) Z<|RunA.no Z Z Z Z<|RunA.no Z Z Z Z ?_
 refine RunA.rd Z Z Z (Q1 (Qb Z Z)) Z<|RunA.rd Z Z Z (Q1 (Qr Z)) Z<|RunA.no Z Z Z Z<|RunA.no Z Z Z Z<|RunA.no Z Z Z Z<|RunA.rd Z Z Z (Q1 (Qb Z Z)) Z<|RunA.rd Z Z Z (Q1 (Qr Z)) Z<|RunA.no Z Z Z Z<|RunA.no Z Z Z Z<|RunA.no Z Z Z Z<|RunA.rd Z Z Z (Q1 (Qb Z Z)) Z<|RunA.rd Z Z Z (Q1 (Qr Z)) Z<|RunA.no Z Z Z Z<|RunA.no Z Z Z Z ?_
 refine RunA.no Z Z Z Z<|RunA.rd Z Z Z (Q1 (Qb Z Z)) Z<|RunA.rd Z Z Z (Q1 (Qr Z)) Z<|RunA.no Z Z Z Z<|RunA.no Z Z Z Z<|RunA.no Z Z Z Z<|RunA.rd Z Z Z (Q1 (Qb Z Z)) Z<|RunA.rd Z Z Z (Q1 (Qr Z)) Z<|RunA.no Z Z Z Z<|RunA.no Z Z Z Z<|RunA.no Z Z Z Z<|RunA.no Z Z Z Z<|RunA.no Z Z Z Z<|RunA.no Z Z Z Z ?_
 refine RunA.rd Z Z Z (Q1 (Qb Z Z)) Z<|RunA.rd Z Z Z (Q1 (Qr Z)) Z<|RunA.no Z Z Z Z<|RunA.rd Z Z Z (Q1 (Qb Z Z)) Z<|RunA.rd Z Z Z (Q1 (Qr Z)) Z<|RunA.no Z Z Z Z<|RunA.no Z Z Z Z<|RunA.rd Z Z Z (Q1 (Qb Z Z)) Z<|RunA.rd Z Z Z (Q1 (Jf Z)) Z ?_
 refine RunA.nil ⟨?ex,_,_,Z,?_⟩
 case ex=>exact trivial
 have e:=DW h1;subst e
 exact Q9 false (DV (Nat.zero_le _) Z Z Z Z Z) h0
 intro v7 h0
 refine Q3<|Qp ?_
 have e:=DW h0;subst e
 exact Qo (fun _ _ h=>h) Z (Qn Z .nil) (.cons (.one (.d _)) .nil)
theorem m10_true:m10=some true:=by kernel_rfl
theorem awake_fun:Fun Try.prog 10 [] (QM [.one (dB true)]):=m10_ok true m10_true
end Go.Proofs.Ytafddfoefeploaa
namespace Go.Proofs.Ytafddfoefeploaa
open Go.RowKit Go.Shelf
set_option linter.unusedSimpArgs false
set_option linter.unusedVariables false
theorem en_3:QZ Try.prog 3:=enters_of Try.func3 (by kernel_rfl) rfl
noncomputable def m3 (a0:List Dcl):Option Bool :=
 Option.bind (m9 a0) fun (x1:Bool) =>
 cond (!x1)
   (some true)
   (Option.bind (Dl a0) fun (x3:Int×Int) =>
 Option.bind (DC a0) fun (x4:Int×Int) =>
 Option.bind (cond (x3.1==x4.1)
   (some (x3.2==x4.2))
   (some false)) (fun (v5:Bool)=>some v5))
theorem m3_ok (a0:List Dcl) (r:Bool) (h0:m3 a0=some r):Fun Try.prog 3 [.one (dS a0)] (QM [.one (dB r)]):=by
 unfold m3 at h0
 refine QB 9 32 Try.func3 Z en_3 Z (lb Z) (fun S w=>?_)
 simp only [J5]
 refine Q4<|Q0<|rA Z Z Z<|Q5<|Q3<|Q4<|Q4<|Q0<|DZ Z Z Z ?_
 refine Qc h0 (fun x1 hx1 h0=>?_)
 refine Qa Z Z (lb Z) (Qi (m9_ok a0 x1 hx1) Z (.cons (.one (.d _)) .nil))<|DY Z Z Z (Jg Z)<|Q5<|Q3 ?_
 refine Qe (b:=(!x1)) Z (fun c2=>?_) (fun c2=>?_)
 replace h0:=Qf c2 h0
 refine Q4<|Q0<|Qa Z Z (lb Z) (Qi (awake_fun) Z .nil)<|rA Z Z Z<|Q5<|Q3<|Qp ?_
 have e:=DW h0;subst e
 exact Qo (fun _ _ h=>h) Z (Qn Z .nil) (.cons (.one (.d _)) .nil)
 replace h0:=Qg c2 h0
 refine Qh<|Q3<|Q4<|Q0<|DZ Z Z Z ?_
 refine Qc h0 (fun x3 hx3 h0=>?_)
 refine Qa Z Z (lb Z) (Qi (m11_ok a0 x3 hx3) Z (.cons (.one (.d _)) .nil))<|DZ Z Z Z<|DY Z Z Z (J2 Z Z)<|DY Z Z Z (J2 Z Z)<|rA Z Z Z<|rA Z Z Z<|Q5<|Q3<|Q4<|Q0<|DZ Z Z Z ?_
 refine Qc h0 (fun x4 hx4 h0=>?_)
 refine Qa Z Z (lb Z) (Qi (m12_ok a0 x4 hx4) Z (.cons (.one (.d _)) .nil))<|DZ Z Z Z<|DY Z Z Z (J2 Z Z)<|DY Z Z Z (J2 Z Z)<|rA Z Z Z<|rA Z Z Z<|Q5<|Q3<|Q4 ?_
 refine QC (fun (v5:Bool)=>⟨[(2,.v (.one (dB v5)))],[],[],0,32,[]⟩) (fun (v5:Bool)=>(some v5)=some r) ?_ ?_
 refine Qc h0 (fun w1_ h1 h0=>?_)
 refine Q0<|Qa Z Z (lb Z) (Qi (awake_fun) Z .nil)<|DZ Z Z Z<|DZ Z Z Z<|DZ Z Z Z<|DY Z Z Z (Q7 Z Z Z)<|DY Z Z Z (Qd Z Z)<|DZ Z Z Z ?_
 refine Qv (d:=27) (c:=(x3.1==x4.1)) Z (fun c6=>?_) (fun c6=>?_)
 replace h1:=Qf c6 h1
 refine DZ Z Z Z<|DZ Z Z Z<|DY Z Z Z (Q7 Z Z Z)<|DY Z Z Z (Qd Z Z)<|rA Z Z Z<|Q5 ?_
 have e:=DW h1;subst e
 exact Q9 (x3.2==x4.2) (DV (Nat.zero_le _) Z Z Z Z Z) h0
 replace h1:=Qg c6 h1
 refine Q8 Z Z<|Q8 Z Z<|Q8 Z Z<|DY Z Z Z (Qb Z Z)<|rA Z Z Z<|Q5 ?_
 have e:=DW h1;subst e
 exact Q9 false (DV (Nat.zero_le _) Z Z Z Z Z) h0
 intro v5 h0
 refine Q3<|Qp ?_
 have e:=DW h0;subst e
 exact Qo (fun _ _ h=>h) Z (Qn Z .nil) (.cons (.one (.d _)) .nil)
end Go.Proofs.Ytafddfoefeploaa
namespace Go.Proofs.Ytafddfoefeploaa
open Go.RowKit Go.Shelf
set_option linter.unusedSimpArgs false
set_option linter.unusedVariables false
set_option linter.unusedSectionVars false
theorem m3_true (env:List Dcl) (he:Ze env≤100000000) (hr:∀ d∈env,WH d.rcr.params):m3 env=some true:=by
 obtain ⟨b,h1,-⟩:=m9_some env (by omega)
 obtain ⟨r,h2,h3⟩:=check_eq env (by omega) hr
 unfold m3
 rw [h1,h2,h3]
 cases b with
 | false=>rfl
 | true =>
  show Option.bind (cond (r.1==r.1) (some (r.2==r.2)) (some false)) _=_
  rw [Yy,Yy,decide_eq_true rfl,decide_eq_true rfl];rfl
end Go.Proofs.Ytafddfoefeploaa
namespace Go.Proofs.Ytafddfoefeploaa
open Go.RowKit Go.ChangeShapes Go.WideShapes
set_option linter.unusedSimpArgs false
set_option linter.unusedVariables false
set_option linter.unusedSectionVars false
def UD (w:World):Nat→Nat→Prop:=fun b _=>b < w.heap.size
def RC (w:World) (e:List C) (cs:List Value):Prop:=cs.length=e.length∧∀ (j:Nat) (c:C),e[j]?=some c→∃ u,cs[j]?=some u∧Reads (UD w) w c u
theorem RC.app {w:World} {e0 e1:List C} {cs:List Value} (h0:RC w e0 (cs.take e0.length)) (h1:RC w e1 (cs.drop e0.length)) (hl:cs.length=e0.length+e1.length):RC w (e0++e1) cs:=by
 refine ⟨by rw [hl,List.length_append],fun j c hj=>?_⟩
 rcases Nat.lt_or_ge j e0.length with h | h
 ·rw [List.getElem?_append_left h] at hj
  obtain ⟨u,h2,h3⟩:=h0.2 j c hj
  rw [List.getElem?_take,if_pos h] at h2
  exact ⟨u,h2,h3⟩
 ·rw [List.getElem?_append_right h] at hj
  obtain ⟨u,h2,h3⟩:=h1.2 _ c hj
  rw [List.getElem?_drop,show e0.length+(j - e0.length)=j by omega] at h2
  exact ⟨u,h2,h3⟩
section
variable {H:Type} (enc:TypeId×Value→H) (P:Program) (w:World)
end
section
variable {H:Type} {enc:TypeId×Value→H} {P:Program} {w:World}
end
end Go.Proofs.Ytafddfoefeploaa
namespace Go.Proofs.Ytafddfoefeploaa
open Go.RowKit Go.ChangeShapes Go.WideShapes
set_option linter.unusedSimpArgs false
set_option linter.unusedVariables false
set_option linter.unusedSectionVars false
theorem GS {H:Type} (d:DataW H):1≤Rows.uptoBulk d:=by
 cases d with
 | lit l=>cases l <;> simp [Rows.uptoBulk]
 | nil=>simp [Rows.uptoBulk]
 | ptr d=>simp [Rows.uptoBulk]
 | slice elems spare=>simp [Rows.uptoBulk]
 | agg parts=>simp [Rows.uptoBulk]
 | iface t d=>simp [Rows.uptoBulk]
 | map entries=>simp [Rows.uptoBulk]
 | held h=>simp [Rows.uptoBulk]
theorem bulk_all {H:Type}:∀ l:List (DataW H),Rows.uptoBulkAll l=(l.map Rows.uptoBulk).sum
 | []=>by simp [Rows.uptoBulkAll]
 | x::l=>by simp only [Rows.uptoBulkAll,List.map_cons,List.sum_cons,bulk_all l]
theorem RC.nil {w:World} {cs:List Value}:RC w [] (cs.take 0):=⟨by simp,fun j c h=>by cases h⟩
theorem RC.snoc {w:World} {e0 e1:List C} {cs:List Value} {m k:Nat} (h0:RC w e0 (cs.take m)) (h1:RC w e1 ((cs.drop m).take k)) (hm:e0.length=m):RC w (e0++e1) (cs.take (m+k)):=by
 have h2:=h0.1
 have h3:=h1.1
 refine RC.app ?_ ?_ ?_
 ·rw [List.take_take,hm,Nat.min_eq_left (by omega)];exact h0
 ·rw [hm,List.drop_take,Nat.add_sub_cancel_left];exact h1
 ·rw [← h3,hm]
  simp only [List.length_take,List.length_drop] at h2 ⊢
  omega
section
variable {H:Type} (enc:TypeId×Value→H) (P:Program) (w:World)
def Je (N:Nat) (t:TypeId) (α:Type) [Enc α] (μ:α→Nat):Prop:=∀ (fuel:Nat) (cs:List Value) (x:DataW H×List MemPlace),DataW.trod enc P w 0 (fun _=>true) true fuel t cs=some x→Rows.uptoBulk x.1≤N→∃ v:α,RC w (Enc.enc v) cs∧μ v≤Rows.uptoBulk x.1
end
section
variable {H:Type} {enc:TypeId×Value→H} {P:Program} {w:World} {N:Nat}
theorem X8 {t:TypeId} (ht:P.underlying t=some (.int .i64)):Je enc P w N t Int (fun _=>1):=by
 intro fuel cs x h hb
 obtain ⟨n,rfl,rfl,-⟩:=DataW.trod_int ht h
 refine ⟨n,⟨Z,fun j c hj=>?_⟩,GS _⟩
 cases j with
 | zero=>cases hj;exact ⟨_,rfl,Reads.v _ rfl⟩
 | succ j=>cases hj
theorem z_bool {t:TypeId} (ht:P.underlying t=some .bool):Je enc P w N t Bool (fun _=>1):=by
 intro fuel cs x h hb
 obtain ⟨n,rfl,rfl⟩:=DataW.trod_bool ht h
 refine ⟨n,⟨Z,fun j c hj=>?_⟩,GS _⟩
 cases j with
 | zero=>cases hj;exact ⟨_,rfl,Reads.v _ rfl⟩
 | succ j=>cases hj
theorem Uo {t:TypeId} (ht:P.underlying t=some .string):Je enc P w N t Bs (fun s=>1+s.length):=by
 intro fuel cs x h hb
 obtain ⟨s,rfl,rfl,-⟩:=DataW.trod_string ht h
 refine ⟨s.data.toList,⟨rfl,fun j c hj=>?_⟩,by simp [Rows.uptoBulk];omega⟩
 cases j with
 | zero=>cases hj;exact ⟨_,rfl,by rw [show DX s.data.toList=s from rfl];exact Reads.v _ rfl⟩
 | succ j=>cases hj
theorem G9 {α:Type} [Enc α] [EncLen α] {μ:α→Nat} {t e:TypeId} (ht:P.underlying t=some (.slice e)) (hc:P.cellsOf e=Enc.sz α) (ho:Je enc P w N e α μ):Je enc P w N t (List α) (fun l=>1+(l.map μ).sum):=by
 intro fuel cs x h hb
 rcases Deep.open_slice ht h with ⟨rfl,rfl⟩ | ⟨a,len,cap,m,n,D,Pl,rfl,-,hlc,-,hm,rfl,hel⟩
 ·refine ⟨[],⟨rfl,fun j c hj=>?_⟩,by simp [Rows.uptoBulk]⟩
  cases j with
  | zero =>
   cases hj
   refine ⟨_,Z,?_⟩
   rw [Enc.nil]
   exact .sl _ [] none 0 0 0 (fun _ _=>undef) (Nat.le_refl _) (fun h=>absurd rfl h) (fun i e h=>by simp at h) (fun i e j c h=>by simp at h) (fun i e j c h=>by simp at h) (fun i e j c h=>by simp at h)
  | succ j=>cases hj
 ·have hm':m=cap:=by rw [hm];rfl
  have hbk:((List.range len).map fun i=>Rows.uptoBulk (D i)).sum+1≤Rows.uptoBulk (DataW.slice (H:=H) ((List.range len).map D) ((List.range (m - len)).map fun j=>D (len+j))):=by
   simp only [Rows.uptoBulk,bulk_all,List.map_map]
   have:(List.map (Rows.uptoBulk ∘ D) (List.range len)).sum=((List.range len).map fun i=>Rows.uptoBulk (D i)).sum:=rfl
   omega
  dsimp only at hb
  have hD:∀ k,k < len→Rows.uptoBulk (D k)≤N:=fun k hk=>by
   have:=ZH (fun i=>Rows.uptoBulk (D i)) (List.mem_range.2 hk)
   omega
  have hall:∀ k,k≤len→∃ l:List α,l.length=k∧(l.map μ).sum≤((List.range k).map fun i=>Rows.uptoBulk (D i)).sum∧∀ (i:Nat) (v:α),l[i]?=some v→∃ cs',w.cells? 0 (a.add (i * Enc.sz α)) (Enc.sz α)=some cs'∧RC w (Enc.enc v) cs':=by
   intro k
   induction k with
   | zero=>intro _;exact ⟨[],rfl,Nat.le_refl _,fun i v h=>by simp at h⟩
   | succ k ih =>
    intro hk
    obtain ⟨l,h1,hsum,h2⟩:=ih (by omega)
    obtain ⟨cs',h3,h4⟩:=hel k (by omega)
    rw [hc] at h3
    obtain ⟨v,hv,hμ⟩:=ho _ _ _ h4 (hD k (by omega))
    refine ⟨l++[v],by simp [h1],?_,fun i v' hi=>?_⟩
    ·rw [List.range_succ]
     simp only [List.map_append,List.map_cons,List.map_nil,List.sum_append,List.sum_cons,List.sum_nil]
     dsimp only at hμ
     omega
    rcases Nat.lt_or_ge i l.length with h | h
    ·rw [List.getElem?_append_left h] at hi;exact h2 i v' hi
    ·rw [List.getElem?_append_right h] at hi
     have hi0:i - l.length=0:=by
      rcases Nat.eq_zero_or_pos (i - l.length) with h0 | h0
      ·exact h0
      ·rw [List.getElem?_eq_none (by simp only [List.length_singleton];omega)] at hi;cases hi
     have hik:i=k:=by omega
     rw [hi0] at hi;cases hi
     rw [hik];exact ⟨cs',h3,hv⟩
  obtain ⟨l,hl,hsum,hcells⟩:=hall len (Nat.le_refl _)
  have hpos:0 < Enc.sz α:=EncLen.pos
  have hspot:l ≠ []→a.spot=none∧a.block < w.heap.size:=by
   intro hne
   obtain ⟨v,r,rfl⟩:=List.exists_cons_of_ne_nil hne
   obtain ⟨cs',h1,h2⟩:=hcells 0 v rfl
   obtain ⟨-,h3,h4⟩:=World.cells?_some h1
   have h5:=h4 0 hpos
   rw [Nat.zero_mul,Deep.add_add,Nat.zero_add] at h5
   have h6:(cs'[0]?).isSome:=by rw [List.getElem?_eq_getElem (by omega)];rfl
   rw [← h5] at h6
   have h7:(a.add 0)=a:=by simp [Addr.add]
   rw [h7] at h6
   unfold World.cell? at h6
   split at h6
   ·rename_i c _ _ hb
    refine ⟨?_,(Array.getElem?_eq_some_iff.1 hb).1⟩
    split at h6
    ·cases h6
    ·rename_i hs
     cases hsp:a.spot with
     | none=>rfl
     | some q=>rw [hsp] at hs;exact absurd rfl hs
   ·cases h6
  have hadd:l ≠ []→∀ k,a.add k=⟨a.block,a.off+k,none⟩:=by
   intro hne k
   have h1:=(hspot hne).1
   unfold Addr.add
   split
   ·rename_i h0;subst h0
    obtain ⟨b,o,sp⟩:=a
    simp only at h1;subst h1;rfl
   ·rfl
  have hcell:∀ (i:Nat) (e':List C) (j:Nat) (c:C),(Enc.encL l)[i]?=some e'→e'[j]?=some c→∃ u,w.cell? ⟨a.block,a.off+i * Enc.sz α+j,none⟩=some u∧Reads (UD w) w c u:=by
   intro i e' j c hi hj
   rw [Enc.map,List.getElem?_map] at hi
   cases hx:l[i]? with
   | none=>rw [hx] at hi;cases hi
   | some v =>
    rw [hx] at hi;cases hi
    have hne:l ≠ []:=by intro h0;rw [h0] at hx;simp at hx
    obtain ⟨cs',h1,h2⟩:=hcells i v hx
    obtain ⟨u,h3,h4⟩:=h2.2 j c hj
    obtain ⟨-,h5,h6⟩:=World.cells?_some h1
    have hjl:j < Enc.sz α:=by have:=(List.getElem?_eq_some_iff.1 h3).1;omega
    have h7:=h6 j hjl
    rw [Deep.add_add,hadd hne,h3,← Nat.add_assoc] at h7
    exact ⟨u,h7,h4⟩
  refine ⟨l,⟨rfl,fun j c hj=>?_⟩,by dsimp only;omega⟩
  cases j with
  | succ j=>cases hj
  | zero =>
   cases hj
   refine ⟨_,Z,?_⟩
   have hR:=Reads.sl (S:=UD w) (w:=w) (Enc.sz α) (Enc.encL l) (some a) cap a.block a.off (fun i j=>(w.cell? ⟨a.block,a.off+i * Enc.sz α+j,none⟩).getD undef) (by rw [Enc.len,hl];exact hlc)
    (fun hne=>by
     have hne':l ≠ []:=by intro h0;rw [h0,Enc.nil] at hne;exact hne rfl
     have h7:(a.add 0)=a:=by simp [Addr.add]
     rw [← h7,hadd hne'])
    (fun i e' hi=>encL_lens l e' (List.mem_of_getElem? hi))
    (fun i e' j c hi hj=>by obtain ⟨u,h1,-⟩:=hcell i e' j c hi hj;rw [h1];rfl)
    (fun i e' j c hi hj=>by
     have hne:l ≠ []:=by intro h0;rw [h0,Enc.nil] at hi;simp at hi
     exact (hspot hne).2)
    (fun i e' j c hi hj=>by obtain ⟨u,h1,h2⟩:=hcell i e' j c hi hj;rw [h1];exact h2)
   rw [Enc.len,hl] at hR
   exact hR
theorem WI {α:Type} [Enc α] {μ:α→Nat} {t:TypeId} (h:∀ N,Je enc P w N t α μ→Je enc P w (N+1) t α μ):∀ N,Je enc P w N t α μ
 | 0=>fun fuel cs x _ hb=>by have:=GS x.1;omega
 | N+1=>h N (WI h N)
end
section
variable {H:Type} {enc:TypeId×Value→H} {w:World} {N:Nat}
theorem Zu:Try.prog.cellsOf 3=1:=by kernel_rfl
theorem cells_4:Try.prog.cellsOf 4=1:=by kernel_rfl
theorem Wq:Try.prog.cellsOf 9=1:=by kernel_rfl
theorem cells_30:Try.prog.cellsOf 30=1:=by kernel_rfl
theorem cells_31:Try.prog.cellsOf 31=1:=by kernel_rfl
theorem G4:Try.prog.cellsOf 33=5:=by kernel_rfl
theorem cells_40:Try.prog.cellsOf 40=1:=by kernel_rfl
theorem cells_42:Try.prog.cellsOf 42=7:=by kernel_rfl
theorem cells_43:Try.prog.cellsOf 43=1:=by kernel_rfl
theorem cells_45:Try.prog.cellsOf 45=23:=by kernel_rfl
theorem cells_71:Try.prog.cellsOf 71=6:=by kernel_rfl
theorem cells_72:Try.prog.cellsOf 72=1:=by kernel_rfl
theorem cells_74:Try.prog.cellsOf 74=8:=by kernel_rfl
theorem cells_76:Try.prog.cellsOf 76=15:=by kernel_rfl
theorem cells_85:Try.prog.cellsOf 85=1:=by kernel_rfl
theorem cells_87:Try.prog.cellsOf 87=2:=by kernel_rfl
theorem cells_101:Try.prog.cellsOf 101=10:=by kernel_rfl
theorem cells_124:Try.prog.cellsOf 124=2:=by kernel_rfl
theorem z_lv:Je enc Try.prog w (N+1) 124 LV (fun _=>1):=by
 intro fuel cs x h hb
 obtain ⟨xs,n,_,rfl,hl,hlen,hf⟩:=DataW.trod_struct Try.underlying124 h
 match xs,hlen with
 | [y0,y1],_ =>
  have hb':Rows.uptoBulk y0.1+Rows.uptoBulk y1.1+1≤Rows.uptoBulk (DataW.agg (H:=H) [y0.1,y1.1]):=by simp only [Rows.uptoBulk,Rows.uptoBulkAll];omega
  have hb2:Rows.uptoBulk (DataW.agg (H:=H) [y0.1,y1.1])≤N+1:=hb
  obtain ⟨v0,r0,m0⟩:=(X8 Try.underlying3:Je enc Try.prog w N _ _ _) n _ _ (hf 0 _ rfl) (by omega)
  change RC w (Enc.enc v0) ((cs.drop 0).take (Try.prog.cellsOf 3)) at r0
  rw [Zu] at r0
  obtain ⟨v1,r1,m1⟩:=(X8 Try.underlying3:Je enc Try.prog w N _ _ _) n _ _ (hf 1 _ rfl) (by omega)
  change RC w (Enc.enc v1) ((cs.drop 1).take (Try.prog.cellsOf 3)) at r1
  rw [Zu] at r1
  have hcs:cs.take 2=cs:=List.take_of_length_le (by rw [hl];exact Nat.le_of_eq cells_124)
  have hR:=((((RC.nil).snoc (k:=1) r0 rfl)).snoc (k:=1) r1 rfl)
  refine ⟨(v0,v1),by rw [← hcs];exact hR,Nat.le_trans ?_ hb'⟩
  show 1≤_
  omega
theorem z_lv':Je enc Try.prog w N 124 LV (fun _=>1):=WI (fun _ _=>z_lv) N
theorem z_lvl:Je enc Try.prog w (N+1) 87 Lvl lvz:=by
 intro fuel cs x h hb
 obtain ⟨xs,n,_,rfl,hl,hlen,hf⟩:=DataW.trod_struct Try.underlying87 h
 match xs,hlen with
 | [y0,y1],_ =>
  have hb':Rows.uptoBulk y0.1+Rows.uptoBulk y1.1+1≤Rows.uptoBulk (DataW.agg (H:=H) [y0.1,y1.1]):=by simp only [Rows.uptoBulk,Rows.uptoBulkAll];omega
  have hb2:Rows.uptoBulk (DataW.agg (H:=H) [y0.1,y1.1])≤N+1:=hb
  obtain ⟨v0,r0,m0⟩:=(X8 Try.underlying3:Je enc Try.prog w N _ _ _) n _ _ (hf 0 _ rfl) (by omega)
  change RC w (Enc.enc v0) ((cs.drop 0).take (Try.prog.cellsOf 3)) at r0
  rw [Zu] at r0
  obtain ⟨v1,r1,m1⟩:=(G9 Try.underlying85 (by kernel_rfl) z_lv':Je enc Try.prog w N _ _ _) n _ _ (hf 1 _ rfl) (by omega)
  change RC w (Enc.enc v1) ((cs.drop 1).take (Try.prog.cellsOf 85)) at r1
  rw [cells_85] at r1
  have hcs:cs.take 2=cs:=List.take_of_length_le (by rw [hl];exact Nat.le_of_eq cells_87)
  have hR:=((((RC.nil).snoc (k:=1) r0 rfl)).snoc (k:=1) r1 rfl)
  refine ⟨⟨v0,v1⟩,by rw [← hcs];exact hR,Nat.le_trans ?_ hb'⟩
  show lvz ⟨v0,v1⟩≤_
  unfold lvz
  dsimp only at m0 m1 ⊢
  omega
theorem z_lvl':Je enc Try.prog w N 87 Lvl lvz:=WI (fun _ _=>z_lvl) N
theorem z_tm (hk:Je enc Try.prog w N 33 Tm Tm.size):Je enc Try.prog w (N+1) 33 Tm Tm.size:=by
 intro fuel cs x h hb
 obtain ⟨xs,n,_,rfl,hl,hlen,hf⟩:=DataW.trod_struct Try.underlying33 h
 match xs,hlen with
 | [y0,y1,y2,y3,y4],_ =>
  have hb':Rows.uptoBulk y0.1+Rows.uptoBulk y1.1+Rows.uptoBulk y2.1+Rows.uptoBulk y3.1+Rows.uptoBulk y4.1+1≤Rows.uptoBulk (DataW.agg (H:=H) [y0.1,y1.1,y2.1,y3.1,y4.1]):=by simp only [Rows.uptoBulk,Rows.uptoBulkAll];omega
  have hb2:Rows.uptoBulk (DataW.agg (H:=H) [y0.1,y1.1,y2.1,y3.1,y4.1])≤N+1:=hb
  obtain ⟨v0,r0,m0⟩:=(X8 Try.underlying3:Je enc Try.prog w N _ _ _) n _ _ (hf 0 _ rfl) (by omega)
  change RC w (Enc.enc v0) ((cs.drop 0).take (Try.prog.cellsOf 3)) at r0
  rw [Zu] at r0
  obtain ⟨v1,r1,m1⟩:=(X8 Try.underlying3:Je enc Try.prog w N _ _ _) n _ _ (hf 1 _ rfl) (by omega)
  change RC w (Enc.enc v1) ((cs.drop 1).take (Try.prog.cellsOf 3)) at r1
  rw [Zu] at r1
  obtain ⟨v2,r2,m2⟩:=(Uo Try.underlying9:Je enc Try.prog w N _ _ _) n _ _ (hf 2 _ rfl) (by omega)
  change RC w (Enc.enc v2) ((cs.drop 2).take (Try.prog.cellsOf 9)) at r2
  rw [Wq] at r2
  obtain ⟨v3,r3,m3⟩:=(G9 Try.underlying30 (by kernel_rfl) z_lvl':Je enc Try.prog w N _ _ _) n _ _ (hf 3 _ rfl) (by omega)
  change RC w (Enc.enc v3) ((cs.drop 3).take (Try.prog.cellsOf 30)) at r3
  rw [cells_30] at r3
  obtain ⟨v4,r4,m4⟩:=(G9 Try.underlying31 (by kernel_rfl) hk:Je enc Try.prog w N _ _ _) n _ _ (hf 4 _ rfl) (by omega)
  change RC w (Enc.enc v4) ((cs.drop 4).take (Try.prog.cellsOf 31)) at r4
  rw [cells_31] at r4
  have hcs:cs.take 5=cs:=List.take_of_length_le (by rw [hl];exact Nat.le_of_eq G4)
  have hR:=((((((((((RC.nil).snoc (k:=1) r0 rfl)).snoc (k:=1) r1 rfl)).snoc (k:=1) r2 rfl)).snoc (k:=1) r3 rfl)).snoc (k:=1) r4 rfl)
  refine ⟨Tm.mk v0 v1 v2 v3 v4,by rw [← hcs];exact hR,Nat.le_trans ?_ hb'⟩
  rw [Tm.size_eq]
  simp only [Tm.name,Tm.kids,Tm.levels]
  dsimp only at m0 m1 m2 m3 m4 ⊢
  omega
theorem WP:Je enc Try.prog w N 33 Tm Tm.size:=WI (fun _ h=>z_tm h) N
theorem z_ctr:Je enc Try.prog w (N+1) 71 Ctr csz:=by
 intro fuel cs x h hb
 obtain ⟨xs,n,_,rfl,hl,hlen,hf⟩:=DataW.trod_struct Try.underlying71 h
 match xs,hlen with
 | [y0,y1],_ =>
  have hb':Rows.uptoBulk y0.1+Rows.uptoBulk y1.1+1≤Rows.uptoBulk (DataW.agg (H:=H) [y0.1,y1.1]):=by simp only [Rows.uptoBulk,Rows.uptoBulkAll];omega
  have hb2:Rows.uptoBulk (DataW.agg (H:=H) [y0.1,y1.1])≤N+1:=hb
  obtain ⟨v0,r0,m0⟩:=(Uo Try.underlying9:Je enc Try.prog w N _ _ _) n _ _ (hf 0 _ rfl) (by omega)
  change RC w (Enc.enc v0) ((cs.drop 0).take (Try.prog.cellsOf 9)) at r0
  rw [Wq] at r0
  obtain ⟨v1,r1,m1⟩:=(WP:Je enc Try.prog w N _ _ _) n _ _ (hf 1 _ rfl) (by omega)
  change RC w (Enc.enc v1) ((cs.drop 1).take (Try.prog.cellsOf 33)) at r1
  rw [G4] at r1
  have hcs:cs.take 6=cs:=List.take_of_length_le (by rw [hl];exact Nat.le_of_eq cells_71)
  have hR:=((((RC.nil).snoc (k:=1) r0 rfl)).snoc (k:=5) r1 rfl)
  refine ⟨⟨v0,v1⟩,by rw [← hcs];exact hR,Nat.le_trans ?_ hb'⟩
  show csz ⟨v0,v1⟩≤_
  unfold csz
  dsimp only at m0 m1 ⊢
  omega
theorem z_ctr':Je enc Try.prog w N 71 Ctr csz:=WI (fun _ _=>z_ctr) N
theorem z_tr (hk:Je enc Try.prog w N 101 Br bsz):Je enc Try.prog w (N+1) 74 Tr Tr.size:=by
 intro fuel cs x h hb
 obtain ⟨xs,n,_,rfl,hl,hlen,hf⟩:=DataW.trod_struct Try.underlying74 h
 match xs,hlen with
 | [y0,y1,y2,y3],_ =>
  have hb':Rows.uptoBulk y0.1+Rows.uptoBulk y1.1+Rows.uptoBulk y2.1+Rows.uptoBulk y3.1+1≤Rows.uptoBulk (DataW.agg (H:=H) [y0.1,y1.1,y2.1,y3.1]):=by simp only [Rows.uptoBulk,Rows.uptoBulkAll];omega
  have hb2:Rows.uptoBulk (DataW.agg (H:=H) [y0.1,y1.1,y2.1,y3.1])≤N+1:=hb
  obtain ⟨v0,r0,m0⟩:=(X8 Try.underlying3:Je enc Try.prog w N _ _ _) n _ _ (hf 0 _ rfl) (by omega)
  change RC w (Enc.enc v0) ((cs.drop 0).take (Try.prog.cellsOf 3)) at r0
  rw [Zu] at r0
  obtain ⟨v1,r1,m1⟩:=(WP:Je enc Try.prog w N _ _ _) n _ _ (hf 1 _ rfl) (by omega)
  change RC w (Enc.enc v1) ((cs.drop 1).take (Try.prog.cellsOf 33)) at r1
  rw [G4] at r1
  obtain ⟨v2,r2,m2⟩:=(X8 Try.underlying3:Je enc Try.prog w N _ _ _) n _ _ (hf 2 _ rfl) (by omega)
  change RC w (Enc.enc v2) ((cs.drop 6).take (Try.prog.cellsOf 3)) at r2
  rw [Zu] at r2
  obtain ⟨v3,r3,m3⟩:=(G9 Try.underlying72 (by kernel_rfl) hk:Je enc Try.prog w N _ _ _) n _ _ (hf 3 _ rfl) (by omega)
  change RC w (Enc.enc v3) ((cs.drop 7).take (Try.prog.cellsOf 72)) at r3
  rw [cells_72] at r3
  have hcs:cs.take 8=cs:=List.take_of_length_le (by rw [hl];exact Nat.le_of_eq cells_74)
  have hR:=((((((((RC.nil).snoc (k:=1) r0 rfl)).snoc (k:=5) r1 rfl)).snoc (k:=1) r2 rfl)).snoc (k:=1) r3 rfl)
  refine ⟨Tr.mk v0 v1 v2 v3,by rw [← hcs];exact hR,Nat.le_trans ?_ hb'⟩
  rw [Tr.size_eq]
  simp only [Tr.body,Tr.branches]
  dsimp only at m0 m1 m2 m3 ⊢
  omega
theorem z_br (hk:Je enc Try.prog w N 74 Tr Tr.size):Je enc Try.prog w (N+1) 101 Br bsz:=by
 intro fuel cs x h hb
 obtain ⟨xs,n,_,rfl,hl,hlen,hf⟩:=DataW.trod_struct Try.underlying101 h
 match xs,hlen with
 | [y0,y1,y2],_ =>
  have hb':Rows.uptoBulk y0.1+Rows.uptoBulk y1.1+Rows.uptoBulk y2.1+1≤Rows.uptoBulk (DataW.agg (H:=H) [y0.1,y1.1,y2.1]):=by simp only [Rows.uptoBulk,Rows.uptoBulkAll];omega
  have hb2:Rows.uptoBulk (DataW.agg (H:=H) [y0.1,y1.1,y2.1])≤N+1:=hb
  obtain ⟨v0,r0,m0⟩:=(Uo Try.underlying9:Je enc Try.prog w N _ _ _) n _ _ (hf 0 _ rfl) (by omega)
  change RC w (Enc.enc v0) ((cs.drop 0).take (Try.prog.cellsOf 9)) at r0
  rw [Wq] at r0
  obtain ⟨v1,r1,m1⟩:=(z_bool Try.underlying4:Je enc Try.prog w N _ _ _) n _ _ (hf 1 _ rfl) (by omega)
  change RC w (Enc.enc v1) ((cs.drop 1).take (Try.prog.cellsOf 4)) at r1
  rw [cells_4] at r1
  obtain ⟨v2,r2,m2⟩:=hk n _ _ (hf 2 _ rfl) (by omega)
  change RC w (Enc.enc v2) ((cs.drop 2).take (Try.prog.cellsOf 74)) at r2
  rw [cells_74] at r2
  have hcs:cs.take 10=cs:=List.take_of_length_le (by rw [hl];exact Nat.le_of_eq cells_101)
  have hR:=((((((RC.nil).snoc (k:=1) r0 rfl)).snoc (k:=1) r1 rfl)).snoc (k:=8) r2 rfl)
  refine ⟨⟨v0,v1,v2⟩,by rw [← hcs];exact hR,Nat.le_trans ?_ hb'⟩
  show bsz ⟨v0,v1,v2⟩≤_
  unfold bsz
  dsimp only at m0 m1 m2 ⊢
  omega
theorem z_trbr:∀ N,Je enc Try.prog w N 74 Tr Tr.size∧Je enc Try.prog w N 101 Br bsz
 | 0=>⟨fun fuel cs x _ hb=>by have:=GS x.1;omega,fun fuel cs x _ hb=>by have:=GS x.1;omega⟩
 | N+1=>⟨z_tr (z_trbr N).2,z_br (z_trbr N).1⟩
theorem z_fn:Je enc Try.prog w (N+1) 76 Fn fsz:=by
 intro fuel cs x h hb
 obtain ⟨xs,n,_,rfl,hl,hlen,hf⟩:=DataW.trod_struct Try.underlying76 h
 match xs,hlen with
 | [y0,y1,y2,y3],_ =>
  have hb':Rows.uptoBulk y0.1+Rows.uptoBulk y1.1+Rows.uptoBulk y2.1+Rows.uptoBulk y3.1+1≤Rows.uptoBulk (DataW.agg (H:=H) [y0.1,y1.1,y2.1,y3.1]):=by simp only [Rows.uptoBulk,Rows.uptoBulkAll];omega
  have hb2:Rows.uptoBulk (DataW.agg (H:=H) [y0.1,y1.1,y2.1,y3.1])≤N+1:=hb
  obtain ⟨v0,r0,m0⟩:=(Uo Try.underlying9:Je enc Try.prog w N _ _ _) n _ _ (hf 0 _ rfl) (by omega)
  change RC w (Enc.enc v0) ((cs.drop 0).take (Try.prog.cellsOf 9)) at r0
  rw [Wq] at r0
  obtain ⟨v1,r1,m1⟩:=(WP:Je enc Try.prog w N _ _ _) n _ _ (hf 1 _ rfl) (by omega)
  change RC w (Enc.enc v1) ((cs.drop 1).take (Try.prog.cellsOf 33)) at r1
  rw [G4] at r1
  obtain ⟨v2,r2,m2⟩:=(X8 Try.underlying3:Je enc Try.prog w N _ _ _) n _ _ (hf 2 _ rfl) (by omega)
  change RC w (Enc.enc v2) ((cs.drop 6).take (Try.prog.cellsOf 3)) at r2
  rw [Zu] at r2
  obtain ⟨v3,r3,m3⟩:=(z_trbr N).1 n _ _ (hf 3 _ rfl) (by omega)
  change RC w (Enc.enc v3) ((cs.drop 7).take (Try.prog.cellsOf 74)) at r3
  rw [cells_74] at r3
  have hcs:cs.take 15=cs:=List.take_of_length_le (by rw [hl];exact Nat.le_of_eq cells_76)
  have hR:=((((((((RC.nil).snoc (k:=1) r0 rfl)).snoc (k:=5) r1 rfl)).snoc (k:=1) r2 rfl)).snoc (k:=8) r3 rfl)
  refine ⟨⟨v0,v1,v2,v3⟩,by rw [← hcs];exact hR,Nat.le_trans ?_ hb'⟩
  show fsz ⟨v0,v1,v2,v3⟩≤_
  unfold fsz
  dsimp only at m0 m1 m2 m3 ⊢
  omega
theorem z_fn':Je enc Try.prog w N 76 Fn fsz:=WI (fun _ _=>z_fn) N
end
end Go.Proofs.Ytafddfoefeploaa
namespace Go.Proofs.Ytafddfoefeploaa
open Go.ChangeShapes Go.WideShapes Go.ChangeAt Go.RowKit Go.WideElems
set_option linter.unusedSimpArgs false
set_option linter.unusedVariables false
set_option linter.unusedSectionVars false
theorem own:ownKnob Try.prog.godebug=none:=by kernel_rfl
theorem laidOut:laidOutB Try.prog=true:=by kernel_rfl
theorem slice_readsZ {H:Type} {enc:TypeId×Value→H} {α:Type} [Enc α] [EncLen α] {μ:List α→Nat} {W:World} {base:Nat} {t e:TypeId} {v:Value} {d:DataW H} {p:List MemPlace} (ht:Try.prog.underlying t=some (.slice e)) (ho:∀ N,Je enc Try.prog W N t (List α) μ)
  (hval:Value.okWide Try.prog W .any base t v) (h:DataW.Trod enc Try.prog W 0 (fun _=>true) true t v d p):∃ l:List α,Reads (UD W) W (.sl (Enc.sz α) (Enc.encL l)) v∧μ l≤Rows.uptoBulk d:=by
 obtain ⟨fuel,hf⟩:=h
 obtain ⟨l,hl,hμ⟩:=ho _ _ _ _ hf (Nat.le_refl _)
 refine ⟨l,?_,hμ⟩
 obtain ⟨u,h2,h3⟩:=hl.2 0 _ rfl
 have h4:v.cells=#[v]:=by
  have h5:=hl.1
  cases v with
  | agg cs =>
   exfalso
   obtain ⟨s,n,c,h7⟩:=okWide_slice ht hval
   cases h7
  | _=>rfl
 rw [h4] at h2
 cases h2
 exact h3
end Go.Proofs.Ytafddfoefeploaa
namespace Go.Proofs.Ytafddfoefeploaa
open Go.ChangeShapes Go.WideShapes Go.ChangeAt Go.RowKit Go.WideElems
set_option linter.unusedSimpArgs false
set_option linter.unusedVariables false
set_option linter.unusedSectionVars false
def IntR:Type:={n:Int // WH n}
def RcrR:Type:={r:Rcr // WH r.params}
def DclR:Type:={d:Dcl // WH d.rcr.params}
noncomputable def intRC (n:IntR):List C:=[.v (.int .i64 n.1)]
noncomputable def rcrRC (r:RcrR):List C:=rcrC r.1
noncomputable def dclRC (d:DclR):List C:=D9 d.1
noncomputable instance:Enc IntR:=⟨1,intRC,fun l=>l.map intRC,rfl,fun a b=>List.map_append,fun _=>rfl⟩
noncomputable instance:Enc RcrR:=⟨7,rcrRC,fun l=>l.map rcrRC,rfl,fun a b=>List.map_append,fun _=>rfl⟩
noncomputable instance:Enc DclR:=⟨23,dclRC,fun l=>l.map dclRC,rfl,fun a b=>List.map_append,fun _=>rfl⟩
instance:EncLen DclR:=⟨fun t=>rfl,Nat.succ_pos 22⟩
section
variable {H:Type} {enc:TypeId×Value→H} {w:World} {N:Nat}
theorem z_intR {P:Program} {t:TypeId} (ht:P.underlying t=some (.int .i64)):Je enc P w N t IntR (fun _=>1):=by
 intro fuel cs x h hb
 obtain ⟨n,rfl,rfl,hw⟩:=DataW.trod_int ht h
 have h1:WH n:=by
  unfold Lit.wf at hw
  rw [Bool.and_eq_true,decide_eq_true_eq,decide_eq_true_eq] at hw
  exact hw
 refine ⟨⟨n,h1⟩,⟨Z,fun j c hj=>?_⟩,GS _⟩
 cases j with
 | zero=>cases hj;exact ⟨_,rfl,Reads.v _ rfl⟩
 | succ j=>cases hj
theorem z_rcrR:Je enc Try.prog w (N+1) 42 RcrR (fun r=>r.1.ty.size+(r.1.rules.map Tm.size).sum):=by
 intro fuel cs x h hb
 obtain ⟨xs,n,_,rfl,hl,hlen,hf⟩:=DataW.trod_struct Try.underlying42 h
 match xs,hlen with
 | [y0,y1,y2],_ =>
  have hb':Rows.uptoBulk y0.1+Rows.uptoBulk y1.1+Rows.uptoBulk y2.1+1≤Rows.uptoBulk (DataW.agg (H:=H) [y0.1,y1.1,y2.1]):=by simp only [Rows.uptoBulk,Rows.uptoBulkAll];omega
  have hb2:Rows.uptoBulk (DataW.agg (H:=H) [y0.1,y1.1,y2.1])≤N+1:=hb
  obtain ⟨v0,r0,m0⟩:=(z_intR Try.underlying3:Je enc Try.prog w N _ _ _) n _ _ (hf 0 _ rfl) (by omega)
  change RC w (Enc.enc v0) ((cs.drop 0).take (Try.prog.cellsOf 3)) at r0
  rw [Zu] at r0
  obtain ⟨v1,r1,m1⟩:=(WP:Je enc Try.prog w N _ _ _) n _ _ (hf 1 _ rfl) (by omega)
  change RC w (Enc.enc v1) ((cs.drop 1).take (Try.prog.cellsOf 33)) at r1
  rw [G4] at r1
  obtain ⟨v2,r2,m2⟩:=(G9 Try.underlying31 (by kernel_rfl) WP:Je enc Try.prog w N _ _ _) n _ _ (hf 2 _ rfl) (by omega)
  change RC w (Enc.enc v2) ((cs.drop 6).take (Try.prog.cellsOf 31)) at r2
  rw [cells_31] at r2
  have hcs:cs.take 7=cs:=List.take_of_length_le (by rw [hl];exact Nat.le_of_eq cells_42)
  have hR:=((((((RC.nil).snoc (k:=1) r0 rfl)).snoc (k:=5) r1 rfl)).snoc (k:=1) r2 rfl)
  refine ⟨⟨⟨v0.1,v1,v2⟩,v0.2⟩,by rw [← hcs];exact hR,Nat.le_trans ?_ hb'⟩
  dsimp only at m0 m1 m2 ⊢
  omega
theorem z_rcrR':Je enc Try.prog w N 42 RcrR (fun r=>r.1.ty.size+(r.1.rules.map Tm.size).sum):=WI (fun _ _=>z_rcrR) N
theorem z_dclR:Je enc Try.prog w (N+1) 45 DclR (fun d=>d.1.size):=by
 intro fuel cs x h hb
 obtain ⟨xs,n,_,rfl,hl,hlen,hf⟩:=DataW.trod_struct Try.underlying45 h
 match xs,hlen with
 | [y0,y1,y2,y3,y4,y5,y6,y7,y8],_ =>
  have hb':Rows.uptoBulk y0.1+Rows.uptoBulk y1.1+Rows.uptoBulk y2.1+Rows.uptoBulk y3.1+Rows.uptoBulk y4.1+Rows.uptoBulk y5.1+Rows.uptoBulk y6.1+Rows.uptoBulk y7.1+Rows.uptoBulk y8.1+1≤Rows.uptoBulk (DataW.agg (H:=H) [y0.1,y1.1,y2.1,y3.1,y4.1,y5.1,y6.1,y7.1,y8.1]):=by simp only [Rows.uptoBulk,Rows.uptoBulkAll];omega
  have hb2:Rows.uptoBulk (DataW.agg (H:=H) [y0.1,y1.1,y2.1,y3.1,y4.1,y5.1,y6.1,y7.1,y8.1])≤N+1:=hb
  obtain ⟨v0,r0,m0⟩:=(X8 Try.underlying3:Je enc Try.prog w N _ _ _) n _ _ (hf 0 _ rfl) (by omega)
  change RC w (Enc.enc v0) ((cs.drop 0).take (Try.prog.cellsOf 3)) at r0
  rw [Zu] at r0
  obtain ⟨v1,r1,m1⟩:=(Uo Try.underlying9:Je enc Try.prog w N _ _ _) n _ _ (hf 1 _ rfl) (by omega)
  change RC w (Enc.enc v1) ((cs.drop 1).take (Try.prog.cellsOf 9)) at r1
  rw [Wq] at r1
  obtain ⟨v2,r2,m2⟩:=(X8 Try.underlying3:Je enc Try.prog w N _ _ _) n _ _ (hf 2 _ rfl) (by omega)
  change RC w (Enc.enc v2) ((cs.drop 2).take (Try.prog.cellsOf 3)) at r2
  rw [Zu] at r2
  obtain ⟨v3,r3,m3⟩:=(WP:Je enc Try.prog w N _ _ _) n _ _ (hf 3 _ rfl) (by omega)
  change RC w (Enc.enc v3) ((cs.drop 3).take (Try.prog.cellsOf 33)) at r3
  rw [G4] at r3
  obtain ⟨v4,r4,m4⟩:=(WP:Je enc Try.prog w N _ _ _) n _ _ (hf 4 _ rfl) (by omega)
  change RC w (Enc.enc v4) ((cs.drop 8).take (Try.prog.cellsOf 33)) at r4
  rw [G4] at r4
  obtain ⟨v5,r5,m5⟩:=(X8 Try.underlying3:Je enc Try.prog w N _ _ _) n _ _ (hf 5 _ rfl) (by omega)
  change RC w (Enc.enc v5) ((cs.drop 13).take (Try.prog.cellsOf 3)) at r5
  rw [Zu] at r5
  obtain ⟨v6,r6,m6⟩:=(G9 Try.underlying40 (by kernel_rfl) z_ctr':Je enc Try.prog w N _ _ _) n _ _ (hf 6 _ rfl) (by omega)
  change RC w (Enc.enc v6) ((cs.drop 14).take (Try.prog.cellsOf 40)) at r6
  rw [cells_40] at r6
  obtain ⟨v7,r7,m7⟩:=(z_rcrR':Je enc Try.prog w N _ _ _) n _ _ (hf 7 _ rfl) (by omega)
  change RC w (Enc.enc v7) ((cs.drop 15).take (Try.prog.cellsOf 42)) at r7
  rw [cells_42] at r7
  obtain ⟨v8,r8,m8⟩:=(G9 Try.underlying43 (by kernel_rfl) z_fn':Je enc Try.prog w N _ _ _) n _ _ (hf 8 _ rfl) (by omega)
  change RC w (Enc.enc v8) ((cs.drop 22).take (Try.prog.cellsOf 43)) at r8
  rw [cells_43] at r8
  have hcs:cs.take 23=cs:=List.take_of_length_le (by rw [hl];exact Nat.le_of_eq cells_45)
  have hR:=((((((((((((((((((RC.nil).snoc (k:=1) r0 rfl)).snoc (k:=1) r1 rfl)).snoc (k:=1) r2 rfl)).snoc (k:=5) r3 rfl)).snoc (k:=5) r4 rfl)).snoc (k:=1) r5 rfl)).snoc (k:=1) r6 rfl)).snoc (k:=7) r7 rfl)).snoc (k:=1) r8 rfl)
  refine ⟨⟨⟨v0,v1,v2,v3,v4,v5,v6,v7.1,v8⟩,v7.2⟩,by rw [← hcs];exact hR,Nat.le_trans ?_ hb'⟩
  show Dcl.size ⟨v0,v1,v2,v3,v4,v5,v6,v7.1,v8⟩≤_
  unfold Dcl.size
  dsimp only at m0 m1 m2 m3 m4 m5 m6 m7 m8 ⊢
  omega
theorem z_dclR':Je enc Try.prog w N 45 DclR (fun d=>d.1.size):=WI (fun _ _=>z_dclR) N
theorem z_envR:Je enc Try.prog w N 22 (List DclR) (fun l=>1+(l.map fun d=>d.1.size).sum):=G9 Try.underlying22 (by kernel_rfl) z_dclR'
end
theorem env_readsR {H:Type} {enc:TypeId×Value→H} {W:World} {base:Nat} {v:Value} {d:DataW H} {p:List MemPlace}
  (hval:Value.okWide Try.prog W .any base 22 v) (h:DataW.Trod enc Try.prog W 0 (fun _=>true) true 22 v d p):∃ l:List Dcl,Reads (UD W) W (.sl 23 (Enc.encL l)) v∧1+Ze l≤Rows.uptoBulk d∧∀ x∈l,WH x.rcr.params:=by
 obtain ⟨l,h1,h2⟩:=slice_readsZ Try.underlying22 (fun N=>z_envR) hval h
 refine ⟨l.map (·.1),?_,?_,fun x hx=>?_⟩
 ·have:Enc.encL (l.map (·.1))=Enc.encL l:=by
   show (l.map (·.1)).map D9=l.map dclRC
   rw [List.map_map];rfl
  rw [this];exact h1
 ·unfold Ze
  rw [List.map_map];exact h2
 ·obtain ⟨y,-,rfl⟩:=List.mem_map.1 hx
  exact y.2
end Go.Proofs.Ytafddfoefeploaa
namespace Go.Proofs.Ytafddfoefeploaa
open Go.ChangeShapes Go.WideShapes Go.ChangeAt Go.RowKit Go.WideElems
set_option linter.unusedSimpArgs false
set_option linter.unusedVariables false
set_option linter.unusedSectionVars false
theorem law3 {W:World} (a0:List Dcl) (hs:Ze a0≤100000000) (hr:∀ d∈a0,WH d.rcr.params) {v0:Value} (hv0:Reads (UD W) W (.sl 23 (Enc.encL a0)) v0):Calls Try.prog 3 #[v0] W fun e W'=>e=.returned (.bool true)∧Below W.heap.size W W':=by
 have hF:=m3_ok a0 true (m3_true a0 hs hr)
 refine Calls.mono (hF.2 (UD W) W #[v0] (fun b o h=>h) ⟨Z,fun i y hy=>?_⟩) ?_
 ·match i,hy with
  | 0,hy=>cases hy;exact ⟨_,rfl,hv0⟩
 ·rintro e W' ⟨u,S',rfl,hx,-,-,hu⟩
  have e1:u=.bool true:=by cases hu;rfl
  rw [e1]
  exact ⟨Z,hx.os,hx.tape,hx.output,hx.size,fun k hk=>hx.block k hk (fun h=>h)⟩
theorem contract (H:Type) (enc:TypeId×Value→H) (W:World) (base:Nat) (args:Array Value) (ds gs:List (DataW H)) (before:List MemPlace) (hk:Rows.uptoSmall H (ds++gs)=true)
  (hval0:∀ (j:Nat) t v,Try.f3.params[j]?=some t→args[j]?=some v→Value.okWide Try.prog W .any base t v)
  (hW:DataW.Whole enc Try.prog Try.f3.params.toList Rows.signatureChecksSpec.vars false W args.toList ds gs before) :
  Calls Try.prog 3 args W fun e W'=>∃ v,e=.returned v∧Rows.signatureChecksSpec.post enc Try.prog Try.f3 false true false false W args v W':=by
 have hval:∀ (j:Nat) t v,Try.f3.params[j]?=some t→args[j]?=some v→Value.okWide Try.prog W .any base t v:=hval0
 have hW':=hW
 obtain ⟨p,q,hA0,hV,rfl,hfz,hnd⟩:=hW
 have hA:DataW.TrodAll enc Try.prog W 0 (fun _=>true) true Try.f3.params.toList args.toList ds p:=hA0
 rw [Try.params3] at hA hval
 obtain ⟨v0,d0,rfl,rfl,h0⟩:=trodAll_one hA
 obtain ⟨rfl,rfl⟩:=trodVars_none hV
 have h0k:=h0
 obtain ⟨a0,hv0,hz,hr⟩:=env_readsR (hval 0 22 v0 rfl rfl) h0
 have hbk:Rows.uptoBulkAll ([d0]++([]:List (DataW H)))≤1048576:=of_decide_eq_true hk
 simp only [List.append_nil,Rows.uptoBulkAll] at hbk
 clear hA0 hval0
 simp only [List.append_nil] at hW'
 have hlt:∀ x∈p,x.block < W.heap.size:=fun x hx=>by simpa using hW'.lt x hx
 refine (law3 a0 (by omega) hr hv0).mono fun e W' ⟨he,hb⟩=>?_
 subst he
 have hargs:∀ sp:Nat→Bool,(∀ x∈p,sp x.block=true)→DataW.TrodAll enc Try.prog W' 0 sp true [22] [v0] [d0] p:=fun sp hsp =>
  trodAll_mk1 (WideElems.Trod_stays laidOut (by kernel_rfl) (of_decide_eq_true (by kernel_rfl)) h0k (fun x hx=>hb.same (hlt x hx)) (fun x hx=>hsp x hx))
 exact ⟨_,rfl,_,_,_,[],p,[],hW',trodAll_mk1 (shut_bool Try.underlying4 true),hargs _ (fun x hx=>by simpa using hlt x hx),rfl,hb.frame _,fun h=>by cases h⟩
theorem lifted (os:Os) (started:os.Started) (H:Type) (enc:TypeId×Value→H) (F:Stop.Interp) :
  ReturnsInHanded {} Try.checked os 3 .any ((Rows.OpenSpec.upto Rows.signatureChecksSpec).pre6 enc Try.prog Try.f3 Rows.signatureChecksUptoRow.domain false) (((Rows.OpenSpec.upto Rows.signatureChecksSpec).at F).post enc Try.prog Try.f3 false true false false):=by
 refine returnsInHanded_of_cond (C:=Try.checked) (s:=Rows.OpenSpec.upto Rows.signatureChecksSpec) (k:=Rows.uptoSmall) rfl own started (by kernel_rfl) Try.func3
  (OpenSpec.witness (enc:=enc) (C:=Try.checked) (s:=Rows.OpenSpec.upto Rows.signatureChecksSpec) (k:=Rows.uptoSmall) rfl false ⟨#[],#[.slice none 0 0],[]⟩ 8 (by kernel_rfl) (by kernel_rfl) (by kernel_rfl)
   (x:=([.nil],[],[])) (by kernel_rfl) rfl (by kernel_rfl)) ?_
 intro W base args ds gs before hval hW _ hk _
 exact contract H enc W base args ds gs before hk hval hW
theorem over:Rows.signatureChecksUptoRow.holds Try.pinned (Rows.OpenSpec.upto Rows.signatureChecksSpec) :=
 OpenClaim.holds_of_cond 3 Try.f3 rfl rfl rfl rfl rfl rfl rfl ⟨rfl,rfl,rfl,rfl,rfl⟩ rfl rfl rfl rfl rfl (by kernel_rfl) Try.func3 (by kernel_rfl)
  (of_decide_eq_true (by kernel_rfl)) (by unfold Func.isWrapper;first | (rw [if_pos (by decide +kernel)];kernel_rfl) | (rw [if_neg (by decide +kernel)];exact ⟨rfl,rfl⟩))
  (fun os started H enc _ F=>lifted os started H enc F)
theorem signatureChecksUpto:Rows.SignatureChecksUptoSaid:=over
#print axioms signatureChecksUpto
end Go.Proofs.Ytafddfoefeploaa
