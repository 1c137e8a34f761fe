/- The statement SignatureBeginsUpto is proved here: for every list of declarations the law returns true, and what it is given reads behind the call ars it did before; condition: the arguments are of bulk at most 1048576 (the second form). -/
import Derived.Test.YtafddfoefeploaaK54
import Derived.Deep.Slices
import Derived.ChangeSame
import Derived.Test.YtafddfoefeploaaRows
import Derived.Test.YtafddfoefeploaaProg
import Derived.Test.YtafddfoefeploaaChecked
import Derived.ProofKit
import Derived.Carry
import Derived.JoinedCond
set_option maxRecDepth 100000
set_option maxHeartbeats 2000000
set_option linter.unusedSimpArgs false
set_option linter.unusedVariables false
set_option linter.unusedSectionVars false
namespace Go.Proofs.Ytafddfoefeploaa
open Go.RowKit Go.Shelf
theorem m64_eq:UK=m101:=rfl
theorem listTwo {α:Type} {l:List α} (h:(l.length:Int)=2):∃ x y,l=[x,y]:=by
 match l,h with
 | [x,y],_=>exact ⟨x,y,rfl⟩
 | [],h=>simp at h
 | [x],h=>simp at h
 | x::y::z::l,h=>simp at h;omega
theorem pis_walk:∀ (n:Nat) (t:Tm) (acc:List Tm),t.size≤n→acc.length+t.size≤900000000→∃ (c:Nat) (r1:(List Tm)×Int×Int×Dx×(List Lvl)×(List Tm)) (r2:Int×Int×Int×Dx×(List Lvl)×(List Tm)),
  Qr KF n (acc,t.kind,t.index,t.name,t.levels,t.kids)=some r1∧Qr GE n ((acc.length:Int),t.kind,t.index,t.name,t.levels,t.kids)=some r2∧r1.1.length=c∧r2.1=(c:Int)∧c≤900000000
 | 0,t,_,h,_=>by rw [t.size_eq] at h;omega
 | n+1,t,acc,h,hb=>by
  have stop:(cond (t.kind==6) (some ((t.kids.length:Int)==2)) (some false))=some false→∃ (c:Nat) (r1:(List Tm)×Int×Int×Dx×(List Lvl)×(List Tm)) (r2:Int×Int×Int×Dx×(List Lvl)×(List Tm)),
    Qr KF (n+1) (acc,t.kind,t.index,t.name,t.levels,t.kids)=some r1∧Qr GE (n+1) ((acc.length:Int),t.kind,t.index,t.name,t.levels,t.kids)=some r2∧r1.1.length=c∧r2.1=(c:Int)∧c≤900000000:=by
   intro hs
   have e1:KF (acc,t.kind,t.index,t.name,t.levels,t.kids)=some (.done (acc,t.kind,t.index,t.name,t.levels,t.kids)):=by unfold KF;dsimp only;rw [hs];rfl
   have e2:GE ((acc.length:Int),t.kind,t.index,t.name,t.levels,t.kids)=some (.done ((acc.length:Int),t.kind,t.index,t.name,t.levels,t.kids)):=by unfold GE;dsimp only;rw [hs];rfl
   exact ⟨acc.length,(acc,t.kind,t.index,t.name,t.levels,t.kids),((acc.length:Int),t.kind,t.index,t.name,t.levels,t.kids),by simp only [Qr,e1],by simp only [Qr,e2],rfl,rfl,by omega⟩
  by_cases hk:t.kind=6
  ·by_cases hl:(t.kids.length:Int)=2
   ·obtain ⟨x,y,hxy⟩:=listTwo hl
    have hy:=YE (t:=t) (k:=y) (by rw [hxy];simp)
    obtain ⟨c,r1,r2,h1,h2,h3,h4,h5⟩:=pis_walk n y (acc++[x]) (by omega) (by rw [List.length_append,List.length_singleton];omega)
    have e1:KF (acc,t.kind,t.index,t.name,t.levels,t.kids)=some (.next (acc++[x],y.kind,y.index,y.name,y.levels,y.kids)):=by
     unfold KF;dsimp only;rw [hk,hxy]
     show Jl (Nat.ble (acc.length+1) 1000000000) _=_
     rw [JX (by omega)];rfl
    have e2:GE ((acc.length:Int),t.kind,t.index,t.name,t.levels,t.kids)=some (.next (((acc++[x]).length:Int),y.kind,y.index,y.name,y.levels,y.kids)):=by
     unfold GE;dsimp only;rw [hk,hxy]
     show some (LO.next (J9 ((acc.length:Int)+1),y.kind,y.index,y.name,y.levels,y.kids))=_
     rw [W7 (by omega),List.length_append];rfl
    exact ⟨c,r1,r2,by simp only [Qr,e1];exact h1,by simp only [Qr,e2];exact h2,h3,h4,h5⟩
   ·exact stop (by rw [Y9,Y9,decide_eq_false hl];cases decide (t.kind=6) <;> rfl)
  ·exact stop (by rw [Y9,decide_eq_false hk];rfl)
def Xe (t:Tm):Int:=(Uy t).getD 0
theorem pis_eq (t:Tm) (h:t.size≤900000000):Uy t=some (Xe t)∧∃ r,m101 t=some r∧(r.1.length:Int)=Xe t:=by
 obtain ⟨c,r1,r2,h1,h2,h3,h4,-⟩:=pis_walk QI t [] (by unfold QI;omega) (by simp;omega)
 have e1:Uy t=some (c:Int):=by
  have h2':Qr GE QI (0,t.kind,t.index,t.name,t.levels,t.kids)=some r2:=h2
  unfold Uy
  rw [h2',← h4];rfl
 have e2:Xe t=(c:Int):=by unfold Xe;rw [e1];rfl
 refine ⟨by rw [e1,e2],(r1.1,Tm.mk r1.2.1 r1.2.2.1 r1.2.2.2.1 r1.2.2.2.2.1 r1.2.2.2.2.2),?_,by rw [e2,← h3]⟩
 have h1':Qr KF QI (([]:List Tm),t.kind,t.index,t.name,t.levels,t.kids)=some r1:=h1
 unfold m101
 rw [h1'];rfl
theorem Gg {d:Dcl} {c:Ctr} (h:c∈d.ctors):c.ty.size+c.name.length < d.size:=by
 have h1:=Zh csz h
 have h2:csz c=1+c.name.length+c.ty.size:=rfl
 unfold Dcl.size
 omega
theorem m88_eq (d:Dcl) (i:Int) (c:Ctr) (hi:JC d.ctors i=some c) (h:d.size≤900000000):∃ r,m88 d i=some r∧UI d i=some r:=by
 have hc:c.ty.size≤900000000:=by
  have:c∈d.ctors:=by
   cases i with
   | ofNat k=>exact List.mem_of_getElem? hi
   | negSucc k=>cases hi
  have:=Gg this
  omega
 obtain ⟨-,r,h1,-⟩:=pis_eq c.ty hc
 unfold m88 UI
 rw [hi,m64_eq]
 simp only [Option.bind_some]
 rw [h1]
 exact ⟨_,Z,Z⟩
theorem firstN_some {α:Type} (nm:α→Dx) (n:Dx) {i:Nat} {x:α}:∀ (l:List α) (k:Nat),JB nm n l k=some (i,x)→k≤i∧l[i - k]?=some x
 | [],k,h=>by cases h
 | y::l,k,h=>by
  rw [JB] at h
  split at h
  ·cases h;exact ⟨Nat.le_refl _,by rw [Nat.sub_self];rfl⟩
  ·obtain ⟨h1,h2⟩:=firstN_some nm n l (k+1) h
   refine ⟨by omega,?_⟩
   rw [show i - k=(i - (k+1))+1 from by omega];exact h2
theorem look_ctor {d:Dcl} {k:Int} {n:Dx} {e:Ent} (h:Yz d k n=some e) (h4:e.kind=4):∃ c,JC d.ctors e.item=some c:=by
 unfold Yz at h
 split at h
 ·next hk =>
  split at h
  ·cases h;exfalso;have h4':d.kind=4:=h4;omega
  ·cases h
 ·split at h
  ·split at h
   ·cases h;exfalso;have h4':(3:Int)=4:=h4;omega
   ·split at h
    ·next i c hf =>
     cases h
     obtain ⟨-,h2⟩:=firstN_some _ _ _ _ hf
     exact ⟨c,h2⟩
    ·split at h
     ·cases h;exfalso;have h4':(5:Int)=4:=h4;omega
     ·cases h
  ·split at h
   ·split at h
    ·cases h;exfalso;have h4':(6:Int)=4:=h4;omega
    ·cases h
   ·cases h
def Sm2 (e:Int) (p:Option (Unit⊕Int)):Prop:=(e=0→p=some (.inl ()))∧(e ≠ 0→p=some (.inr e))
theorem Sm2.ok {p:Option (Unit⊕Int)} (h:p=some (.inl ())):Sm2 0 p:=⟨fun _=>h,fun h=>(h rfl).elim⟩
theorem Sm2.no {p:Option (Unit⊕Int)} {e:Int} (he:e ≠ 0) (h:p=some (.inr e)):Sm2 e p:=⟨fun h=>(he h).elim,fun _=>h⟩
theorem bodysz (t:Tr):t.body.size < t.size:=by rw [t.size_eq];omega
theorem tree_eq (s:Rsc) (M O:Qc Dx Ent) (hs:Sok s M O):∀ (n:Nat) (t:Tr) (V D:Int),t.size≤n→t.size≤900000000 →
  ∃ e:Int,JA m73F n (s,t,V,D)=some e∧Sm2 e (JA Gm n (t,V,D,s.d.params,s.env,M,O))
 | 0,t,_,_,h,_=>by rw [t.size_eq] at h;omega
 | n+1,t,V,D,h,hb=>by
  show ∃ e:Int,m73s (JA m73F n) s t V D=some e∧Sm2 e (Xx (JA Gm n) t V D s.d.params s.env M O)
  have hbody:=bodysz t
  have hbl:=branches_len t
  unfold m73s Xx
  rw [GH]
  by_cases hD:200≤D
  ·rw [decide_eq_true hD,decide_eq_false (show ¬ D < 200 by omega)]
   exact ⟨7,rfl,.no (by omega) rfl⟩
  rw [decide_eq_false hD,decide_eq_true (show D < 200 by omega)]
  simp only [cond_true,cond_false,Option.bind_some,Sum.elim_inl]
  rw [Y9]
  by_cases k0:t.kind=0
  ·rw [decide_eq_true k0,cond_true,cond_true]
   show ∃ e:Int,Option.bind (cond (!(t.var==0)) (some true) (some (decide (0 < (t.branches.length:Int))))) _=_∧_
   cases (t.var==0) with
   | false=>exact ⟨3,rfl,.no (by omega) rfl⟩
   | true =>
    rw [Y9]
    by_cases c:(t.branches.length:Int)=0
    ·rw [decide_eq_true c,decide_eq_false (show ¬ 0 < (t.branches.length:Int) by omega)]
     obtain ⟨e,h1,h2,h3⟩:=Xj s M O hs t.body V s.d.params (by omega)
     rw [h1]
     refine ⟨e,Z,fun he=>?_,fun he=>?_⟩
     ·rw [h2 he];rfl
     ·rw [h3 he];rfl
    ·rw [decide_eq_false c,decide_eq_true (show 0 < (t.branches.length:Int) by omega)]
     exact ⟨3,rfl,.no (by omega) rfl⟩
  rw [decide_eq_false k0,cond_false,cond_false,Y9]
  by_cases k1:t.kind=1
  ·rw [decide_eq_true k1,cond_true,cond_true,We,Wc]
   cases XU t.body with
   | false=>exact ⟨3,rfl,.no (by omega) rfl⟩
   | true =>
    show ∃ e:Int,Option.bind (cond (decide (t.var < 0)) (some true) (some (decide (V≤t.var)))) _=some e∧Sm2 e (G4 t V M s.env (JA Gm n) D s.d.params O)
    unfold G4
    by_cases c1:t.var < 0
    ·rw [decide_eq_true c1,decide_eq_false (show ¬ 0≤t.var by omega)]
     exact ⟨24,rfl,.no (by omega) rfl⟩
    rw [decide_eq_false c1,decide_eq_true (show 0≤t.var by omega)]
    by_cases c2:V≤t.var
    ·rw [decide_eq_true c2,decide_eq_false (show ¬ t.var < V by omega)]
     exact ⟨24,rfl,.no (by omega) rfl⟩
    rw [decide_eq_false c2,decide_eq_true (show t.var < V by omega)]
    show ∃ e:Int,cond (decide (32 < (t.branches.length:Int))) _ _=some e∧Sm2 e (G5 t M s.env (JA Gm n) V D s.d.params O)
    unfold G5
    rw [GH]
    by_cases c3:32 < (t.branches.length:Int)
    ·rw [decide_eq_true c3,decide_eq_false (show ¬ (t.branches.length:Int)≤32 by omega)]
     exact ⟨6,rfl,.no (by omega) rfl⟩
    rw [decide_eq_false c3,decide_eq_true (show (t.branches.length:Int)≤32 by omega)]
    obtain ⟨e,h1,h2⟩:=Ys (β1:=Unit⊕Int) (β2:=Unit⊕(Unit⊕Int)) (step1:=m73_l1 t s (JA m73F n) V D) (step2:=K8 t M s.env (JA Gm n) V D s.d.params O) t.branches (.inl ()) (.inl ()) .inr (fun e=>.inr (.inr e)) (by omega) (fun a b c e=>by
     obtain ⟨q1,q2⟩:=YB e
     have hbt:=Tr.kid_size (t:=t) (b:=b) (by rw [e];simp)
     unfold m73_l1 K8
     rw [q1,q2]
     simp only [cond_true,Option.bind_some]
     rw [m15_eq s.env b.ctor hs.env]
     have hM:=hs.bk b.ctor
     unfold WO
     cases hf:Gf s.env b.ctor with
     | none =>
      rw [hf] at hM
      have g1:Yl M b.ctor=false:=by unfold Yl;rw [hM];rfl
      rw [g1]
      exact ⟨9,fun h=>by omega,fun _=>⟨rfl,rfl⟩⟩
     | some en =>
      rw [hf] at hM
      have g1:Yl M b.ctor=true:=by unfold Yl;rw [hM];rfl
      have g2:Ql M b.ctor=en:=by unfold Ql;rw [hM];rfl
      obtain ⟨i,d,hi,hd⟩:=fsI_some _ _ _ hf
      rw [Nat.zero_add] at hd
      unfold m48f11_k0 m73_k0
      rw [g1,g2,GH]
      by_cases c4:en.kind=4
      ·have hdec:JC s.env en.decl=some d:=by rw [look_decl hd];exact idx_at hi
       obtain ⟨ct,hct⟩:=look_ctor hd c4
       obtain ⟨r,hr1,hr2⟩:=m88_eq d en.item ct hct (by have:=size_le (List.mem_of_getElem? hi);have:=hs.env;omega)
       have e1:(en.kind != 4)=false:=by rw [c4];rfl
       have e2:(en.kind==4)=true:=by rw [c4];rfl
       have e0:((0:Int) != 0)=false:=rfl
       simp only [Option.elim_some,Option.bind_some,e0,e1,e2,cond_true,cond_false,Sum.elim_inl]
       cases b.absurd with
       | true =>
        simp only [cond_true]
        have e3:m36 b.tree (Tr.mk 0 (Tm.mk 0 0 ([]:List UInt8) ([]:List Lvl) ([]:List Tm)) 0 ([]:List Dy))=some (isZT b.tree):=m36_Z b.tree
        rw [e3,We]
        unfold isZT
        cases (b.tree.kind==0) with
        | false=>exact ⟨3,fun h=>by omega,fun _=>⟨rfl,rfl⟩⟩
        | true =>
         cases (b.tree.var==0) with
         | false=>exact ⟨3,fun h=>by omega,fun _=>⟨rfl,rfl⟩⟩
         | true =>
          cases ((b.tree.branches.length:Int)==0) with
          | false=>exact ⟨3,fun h=>by omega,fun _=>⟨by rw [Bool.and_false];rfl,rfl⟩⟩
          | true =>
           cases XU b.tree.body with
           | false=>exact ⟨3,fun h=>by omega,fun _=>⟨rfl,rfl⟩⟩
           | true=>exact ⟨0,fun _=>⟨rfl,rfl⟩,fun h=>(h rfl).elim⟩
       | false =>
        simp only [cond_false]
        rw [hdec]
        simp only [Option.bind_some]
        rw [hr1,hr2]
        simp only [Option.bind_some]
        obtain ⟨e',w1,w2,w3⟩:=tree_eq s M O hs n b.tree (J9 (V+r)) (J9 (D+1)) (by omega) (by omega)
        rw [w1]
        refine ⟨e',fun he=>?_,fun he=>?_⟩
        ·rw [w2 he];subst he;exact ⟨rfl,rfl⟩
        ·rw [w3 he];exact ⟨GW he _ _,rfl⟩
      ·have e1:(en.kind != 4)=true:=bne_iff_ne.2 c4
       have e2:(en.kind==4)=false:=by rw [Y9];exact decide_eq_false c4
       have e0:((0:Int) != 0)=false:=rfl
       simp only [Option.elim_some,Option.bind_some,e0,e1,e2,cond_true,cond_false,Sum.elim_inl]
       exact ⟨9,fun h=>by omega,fun _=>⟨rfl,rfl⟩⟩)
     (by unfold m73_l1;rw [Je];rfl) (by unfold K8;rw [Je];rfl)
    by_cases he:e=0
    ·obtain ⟨e1,e2⟩:=h1 he
     rw [e1]
     refine ⟨0,Z,.ok ?_⟩
     show Option.bind (Qr _ QI 0) _=_
     rw [e2];rfl
    ·obtain ⟨e1,e2⟩:=h2 he
     rw [e1]
     refine ⟨e,Z,.no he ?_⟩
     show Option.bind (Qr _ QI 0) _=_
     rw [e2];rfl
  ·rw [decide_eq_false k1]
   exact ⟨3,rfl,.no (by omega) rfl⟩
end Go.Proofs.Ytafddfoefeploaa
namespace Go.Proofs.Ytafddfoefeploaa
open Go.RowKit Go.Shelf
def XX (d:Dcl):Bool :=
 (d.kind==1||d.kind==2||XU d.value)&&(d.kind==4||(d.funs.length:Int)==0)&&(!(d.kind==4)||(d.name==[]&&XU d.ty)) &&
 (d.kind==3||(d.fixed==0&&(d.ctors.length:Int)==0&&(d.rcr.params==0&&XU d.rcr.ty&&(d.rcr.rules.length:Int)==0)))
theorem m44_used (d:Dcl) (h0:0≤d.kind) (h4:d.kind≤4):W0 d=cond (XX d) (Z2 d) (some (.inr 3)):=by
 have hk:d.kind=0∨d.kind=1∨d.kind=2∨d.kind=3∨d.kind=4:=by omega
 have e0:W0 d=G7 (d.kind==1||d.kind==2) d:=by
  unfold W0
  rw [decide_eq_true h0,decide_eq_true h4]
  show Option.bind (cond (d.kind==1) (some true) (some (d.kind==2))) _=_
  cases (d.kind==1) <;> rfl
 rw [e0]
 have e6:∀ b:Bool,Kl d b=cond (d.kind==3||(d.fixed==0&&(d.ctors.length:Int)==0&&b)) (Z2 d) (some (.inr 3)):=by
  intro b
  unfold Kl
  cases (d.kind==3) <;> cases (d.fixed==0) <;> cases ((d.ctors.length:Int)==0) <;> cases b <;> rfl
 have e7:GJ d=cond ((!(d.kind==4)||(d.name==[]&&XU d.ty))&&(d.kind==3||(d.fixed==0&&(d.ctors.length:Int)==0&&(d.rcr.params==0&&XU d.rcr.ty&&(d.rcr.rules.length:Int)==0)))) (Z2 d) (some (.inr 3)):=by
  unfold GJ
  rw [We,We]
  have e8:∀ o:Unit⊕(Unit⊕Int),o=.inl ()→Sum.elim (fun (b7_:Unit)=>Option.bind (cond (d.rcr.params==0) (Option.bind (some (XU d.rcr.ty)) fun (b0_:Bool)=>cond b0_ (some ((d.rcr.rules.length:Int)==0)) (some false)) (some false)) (fun (b8_:Bool)=>Kl d b8_)) (fun o=>some o) o=cond (d.kind==3||(d.fixed==0&&(d.ctors.length:Int)==0&&(d.rcr.params==0&&XU d.rcr.ty&&(d.rcr.rules.length:Int)==0))) (Z2 d) (some (.inr 3)):=by
   intro o ho
   subst ho
   rw [← e6]
   show Option.bind (cond (d.rcr.params==0) _ _) _=_
   cases (d.rcr.params==0) <;> cases XU d.rcr.ty <;> rfl
  cases (d.kind==4) with
  | false=>exact e8 (.inl ()) rfl
  | true =>
   cases (d.name==[]) with
   | false=>rfl
   | true =>
    cases XU d.ty with
    | false=>rfl
    | true=>exact e8 (.inl ()) rfl
 have e8:GI d=cond ((d.kind==4||(d.funs.length:Int)==0)&&((!(d.kind==4)||(d.name==[]&&XU d.ty))&&(d.kind==3||(d.fixed==0&&(d.ctors.length:Int)==0&&(d.rcr.params==0&&XU d.rcr.ty&&(d.rcr.rules.length:Int)==0))))) (Z2 d) (some (.inr 3)):=by
  unfold GI
  cases h:(d.kind==4||(d.funs.length:Int)==0) with
  | true =>
   rw [Bool.true_and,← e7]
   revert h
   cases (d.kind==4) with
   | true=>intro _;rfl
   | false=>intro h;rw [Bool.false_or] at h;rw [h];rfl
  | false =>
   rw [Bool.or_eq_false_iff] at h
   rw [h.1,h.2];rfl
 unfold G7 XX
 rw [We,Bool.and_assoc,Bool.and_assoc]
 cases (d.kind==1||d.kind==2) with
 | true=>rw [Bool.true_or,Bool.true_and,← e8];rfl
 | false =>
  rw [Bool.false_or]
  cases XU d.value with
  | true=>rw [Bool.true_and,← e8];rfl
  | false=>rfl
theorem m50_eq (d:Dcl) (h0:0≤d.kind) (h4:d.kind≤4):m50 d=some (XX d):=by
 have hk:d.kind=0∨d.kind=1∨d.kind=2∨d.kind=3∨d.kind=4:=by omega
 have e1:∀ K:Bool→Option Bool,Option.bind (cond (d.rcr.params==0) (Option.bind (some (XU d.rcr.ty)) fun (x3:Bool)=>cond x3 (some ((d.rcr.rules.length:Int)==0)) (some false)) (some false)) K=K (d.rcr.params==0&&XU d.rcr.ty&&(d.rcr.rules.length:Int)==0):=by
  intro K
  cases (d.rcr.params==0) <;> cases XU d.rcr.ty <;> rfl
 have e2:∀ (b:Bool) (K:Bool→Option Bool),Option.bind (cond (d.fixed==0) (cond ((d.ctors.length:Int)==0) (some b) (some false)) (some false)) K=K (d.fixed==0&&(d.ctors.length:Int)==0&&b):=by
  intro b K
  cases (d.fixed==0) <;> cases ((d.ctors.length:Int)==0) <;> rfl
 unfold m50
 rw [Wc,e1,e2]
 unfold m50_k1 m50_k0 XX
 rw [Wc,Wc]
 rcases hk with hk | hk | hk | hk | hk
 all_goals
  rw [hk]
  generalize (d.fixed==0&&(d.ctors.length:Int)==0&&(d.rcr.params==0&&XU d.rcr.ty&&(d.rcr.rules.length:Int)==0))=w
  generalize ((d.funs.length:Int)==0)=f
  cases XU d.value <;> cases XU d.ty <;> cases (d.name==[]) <;> cases w <;> cases f <;> rfl
theorem ty_size (d:Dcl):d.ty.size < d.size:=by unfold Dcl.size;omega
def pisP (d:Dcl):Prop:=d.fixed≤Xe d.ty∧∀ c∈d.ctors,d.fixed≤Xe c.ty
theorem m70_eq (d:Dcl) (h:d.size≤900000000):∃ b,m70 d=some b∧(b=true↔pisP d):=by
 have hc:=YK d
 have ht:=ty_size d
 obtain ⟨b,h1,h2⟩:=Yf (step:=XO d) d.ctors (fun i (s:Bool)=>(s,i)) (fun a s=>s=true↔(d.fixed≤Xe d.ty∧∀ c∈a,d.fixed≤Xe c.ty)) (fun r=>r=true↔pisP d) (by omega)
  (fun a x b s e hI=>by
   obtain ⟨q1,q2⟩:=YB e
   have hx:=Gg (d:=d) (c:=x) (by rw [e];simp)
   have hp:=(pis_eq x.ty (by omega)).1
   cases s with
   | false =>
    refine .inr ⟨false,?_,?_⟩
    ·unfold XO;dsimp only;rw [q1];rfl
    ·refine ⟨fun h=>(by cases h),fun h=>?_⟩
     exact hI.2 ⟨h.1,fun c hc=>h.2 c (List.mem_append_left _ hc)⟩
   | true =>
    refine .inr ⟨decide (d.fixed≤Xe x.ty),?_,?_⟩
    ·unfold XO;dsimp only;rw [q1,q2]
     simp only [cond_true,Option.bind_some]
     rw [hp];rfl
    ·have h3:=hI.1 rfl
     rw [decide_eq_true_eq]
     refine ⟨fun h=>⟨h3.1,fun c hc=>?_⟩,fun h=>h.2 x (by simp)⟩
     rcases List.mem_append.1 hc with hc | hc
     ·exact h3.2 c hc
     ·rw [List.mem_singleton.1 hc];exact h)
  (fun s hI=>⟨s,by unfold XO;dsimp only;rw [Je];rfl,hI⟩) (decide (d.fixed≤Xe d.ty)) (by rw [decide_eq_true_eq];exact ⟨fun h=>⟨h,fun c hc=>by cases hc⟩,fun h=>h.1⟩)
 refine ⟨b,?_,h2⟩
 unfold m70
 rw [(pis_eq d.ty (by omega)).1,Option.bind_some]
 have h1':Qr (XO d) QI (decide (d.fixed≤Xe d.ty),0)=some b:=h1
 rw [h1'];rfl
theorem types_eq (d:Dcl) (h:d.size≤900000000):Qr (ZH d) QI ([d.ty],0)=some (d.ty::d.ctors.map (·.ty)):=by
 have hc:=YK d
 refine (Yf (step:=ZH d) d.ctors (fun i (s:List Tm)=>(s,i)) (fun a s=>s=d.ty::a.map (·.ty)) (fun r=>r=d.ty::d.ctors.map (·.ty)) (by omega)
  (fun a x b s e hI=>by
   obtain ⟨q1,q2⟩:=YB e
   have:=Gk e
   refine .inr ⟨s++[x.ty],?_,by rw [hI];simp⟩
   unfold ZH;dsimp only;rw [q1,q2]
   simp only [cond_true,Option.bind_some]
   rw [JX (by rw [hI];simp;omega)])
  (fun s hI=>⟨s,by unfold ZH;dsimp only;rw [Je];rfl,hI⟩) [d.ty] rfl).elim fun r hr=>by rw [← hr.2];exact hr.1
theorem l2_eq (d:Dcl) (l:List Tm) (hl:l.length≤900000000) (h:∀ t∈l,t.size≤900000000):∃ r,Qr (Zn l d) QI 0=some r∧((r=.inl ()∧∀ t∈l,d.fixed≤Xe t)∨(r=.inr (.inr 3)∧¬ ∀ t∈l,d.fixed≤Xe t)):=by
 obtain ⟨r,h1,h2⟩:=loop_bad (β:=Unit⊕(Unit⊕Int)) (step:=Zn l d) l (fun _ t=>¬ d.fixed≤Xe t) (.inr (.inr 3)) (.inl ()) hl (fun a x b e=>by
  obtain ⟨q1,q2⟩:=YB e
  obtain ⟨-,r,e1,e2⟩:=pis_eq x (h x (by rw [e];simp))
  unfold Zn
  rw [q1,q2]
  simp only [cond_true,Option.bind_some]
  rw [m64_eq,e1,Option.bind_some,e2,GH]
  refine ⟨fun hn=>?_,fun hn=>?_⟩
  ·rw [decide_eq_false hn];rfl
  ·rw [decide_eq_true (Decidable.not_not.1 hn)];rfl) (by unfold Zn;rw [Je];rfl)
 refine ⟨r,h1,?_⟩
 rcases h2 with ⟨h2,h3⟩ | ⟨h2,a,x,b,e,h3⟩
 ·refine .inl ⟨h2,fun t ht=>?_⟩
  obtain ⟨a,b,e⟩:=List.append_of_mem ht
  exact Decidable.not_not.1 (h3 a t b e)
 ·exact .inr ⟨h2,fun hh=>h3 (hh x (by rw [e];simp))⟩
def XV (n:Int):Prop:=-9223372036854775808≤n∧n≤9223372036854775807
theorem w64_mod (n:Int) (h:XV n) (p:Int) (h0:0≤p) (h8:p≤8) (k:Int) (k0:0≤k) (k1:k≤1):J9 (n - p)=k↔n=p+k:=by
 obtain ⟨h1,h2⟩:=h
 show IntKind.i64.wrap (n - p)=k↔_
 rw [IntKind.wrap_i64]
 omega
theorem k3_eq (d:Dcl) (h:d.size≤900000000) (hr:XV d.rcr.params) (hp0:0≤d.params) (hp8:d.params≤8):∃ e,m51_k1 d=some e∧Sm2 e (Km d):=by
 have hc:=YK d
 obtain ⟨b,h1,h2⟩:=m70_eq d h
 obtain ⟨r,h3,h4⟩:=l2_eq d (d.ty::d.ctors.map (·.ty)) (by simp;omega) (fun t ht=>by
  rcases List.mem_cons.1 ht with rfl | ht
  ·have:=ty_size d;omega
  ·obtain ⟨c,hc,rfl⟩:=List.mem_map.1 ht
   have:=Gg hc;omega)
 have hall:(∀ t∈d.ty::d.ctors.map (·.ty),d.fixed≤Xe t)↔pisP d:=by
  unfold pisP
  simp only [List.mem_cons,List.mem_map,forall_eq_or_imp,forall_exists_index,and_imp,forall_apply_eq_imp_iff₂]
 unfold m51_k1 Km
 rw [types_eq d h,Y9]
 by_cases hk:d.kind=3
 ·rw [decide_eq_true hk]
  simp only [cond_true,Option.bind_some]
  rw [h1,h3]
  have e1:∀ K:Bool→Option Int,Option.bind (cond (d.rcr.params != d.params) (cond (d.rcr.params != (J9 (d.params+1))) (some true) (cond ((d.rcr.rules.length:Int) != (d.ctors.length:Int)) (some true) (Option.bind (some b) fun (b0_:Bool)=>some (!b0_)))) (cond ((d.rcr.rules.length:Int) != (d.ctors.length:Int)) (some true) (Option.bind (some b) fun (b1_:Bool)=>some (!b1_)))) K
    = K (!(decide (d.rcr.params=d.params∨d.rcr.params=d.params+1)&&((d.rcr.rules.length:Int)==(d.ctors.length:Int))&&b)):=by
   intro K
   rw [XG (n:=d.params+1) (by omega) (by omega)]
   show Option.bind (cond (!(d.rcr.params==d.params)) (cond (!(d.rcr.params==d.params+1)) (some true) (cond (!((d.rcr.rules.length:Int)==(d.ctors.length:Int))) (some true) (some (!b)))) (cond (!((d.rcr.rules.length:Int)==(d.ctors.length:Int))) (some true) (some (!b)))) K=_
   rw [Y9,Y9]
   cases ((d.rcr.rules.length:Int)==(d.ctors.length:Int)) <;> by_cases c1:d.rcr.params=d.params
   ·rw [decide_eq_true c1,decide_eq_true (Or.inl c1)];rfl
   ·rw [decide_eq_false c1]
    by_cases c2:d.rcr.params=d.params+1
    ·rw [decide_eq_true c2,decide_eq_true (Or.inr c2)];rfl
    ·rw [decide_eq_false c2,decide_eq_false (by omega)];rfl
   ·rw [decide_eq_true c1,decide_eq_true (Or.inl c1)];rfl
   ·rw [decide_eq_false c1]
    by_cases c2:d.rcr.params=d.params+1
    ·rw [decide_eq_true c2,decide_eq_true (Or.inr c2)];rfl
    ·rw [decide_eq_false c2,decide_eq_false (by omega)];rfl
  rw [e1]
  have e2:∀ K:Unit⊕(Unit⊕Int)→Option (Unit⊕Int),Option.bind (cond ((J9 (d.rcr.params - d.params))==0) (Option.bind (Jr ((d.rcr.rules.length:Int)==(d.ctors.length:Int)) 3) (Sum.elim (fun (b0_:Unit)=>some (.inl ())) (fun (b1_:Unit)=>some (.inr (.inr 3)))))
    (cond ((J9 (d.rcr.params - d.params))==1) (Option.bind (Jr ((d.rcr.rules.length:Int)==(d.ctors.length:Int)) 3) (Sum.elim (fun (b2_:Unit)=>some (.inl ())) (fun (b3_:Unit)=>some (.inr (.inr 3))))) (Option.bind (Jr false 3) (Sum.elim (fun (b4_:Unit)=>some (.inl ())) (fun (b5_:Unit)=>some (.inr (.inr 3))))))) K
    = cond (decide (d.rcr.params=d.params∨d.rcr.params=d.params+1)&&((d.rcr.rules.length:Int)==(d.ctors.length:Int))) (K (.inl ())) (K (.inr (.inr 3))):=by
   intro K
   have g0:=w64_mod d.rcr.params hr d.params hp0 hp8 0 (by omega) (by omega)
   have g1:=w64_mod d.rcr.params hr d.params hp0 hp8 1 (by omega) (by omega)
   rw [Int.add_zero] at g0
   rw [Y9 (J9 (d.rcr.params - d.params)) 0,Y9 (J9 (d.rcr.params - d.params)) 1]
   by_cases c1:d.rcr.params=d.params
   ·rw [decide_eq_true (g0.2 c1),decide_eq_true (Or.inl c1)]
    cases ((d.rcr.rules.length:Int)==(d.ctors.length:Int)) <;> rfl
   ·rw [decide_eq_false (fun h=>c1 (g0.1 h))]
    by_cases c2:d.rcr.params=d.params+1
    ·rw [decide_eq_true (g1.2 c2),decide_eq_true (Or.inr c2)]
     cases ((d.rcr.rules.length:Int)==(d.ctors.length:Int)) <;> rfl
    ·rw [decide_eq_false (fun h=>c2 (g1.1 h)),decide_eq_false (by omega)];rfl
  rw [e2]
  cases (decide (d.rcr.params=d.params∨d.rcr.params=d.params+1)&&((d.rcr.rules.length:Int)==(d.ctors.length:Int))) with
  | false=>exact ⟨3,rfl,.no (by omega) rfl⟩
  | true =>
   rcases h4 with ⟨rfl,h5⟩ | ⟨rfl,h5⟩
   ·rw [h2.2 (hall.1 h5)];exact ⟨0,rfl,.ok rfl⟩
   ·have:b=false:=by rw [Bool.eq_false_iff];exact fun h=>h5 (hall.2 (h2.1 h))
    rw [this];exact ⟨3,rfl,.no (by omega) rfl⟩
 ·rw [decide_eq_false hk];exact ⟨0,rfl,.ok rfl⟩
theorem k4_eq (d:Dcl) (h:d.size≤900000000) (hr:XV d.rcr.params):∃ e,m51 d=some e∧Sm2 e (Z2 d):=by
 have hf:=ZN d
 unfold m51 Z2
 by_cases c1:d.params < 0
 ·rw [decide_eq_true c1,decide_eq_false (show ¬ 0≤d.params by omega)];exact ⟨2,rfl,.no (by omega) rfl⟩
 rw [decide_eq_false c1,decide_eq_true (show 0≤d.params by omega)]
 by_cases c2:8 < d.params
 ·rw [decide_eq_true c2,decide_eq_false (show ¬ d.params≤8 by omega)];exact ⟨2,rfl,.no (by omega) rfl⟩
 rw [decide_eq_false c2,decide_eq_true (show d.params≤8 by omega)]
 by_cases c3:d.fixed < 0
 ·rw [decide_eq_true c3,decide_eq_false (show ¬ 0≤d.fixed by omega)];exact ⟨2,rfl,.no (by omega) rfl⟩
 rw [decide_eq_false c3,decide_eq_true (show 0≤d.fixed by omega)]
 show ∃ e,m51_k2 false d=some e∧Sm2 e (GK d)
 unfold m51_k2 GK
 have tail:∃ e,Option.bind (Qr (Wj d) QI 0) (Sum.elim (fun (b1_:Unit)=>m51_k1 d) (fun o=>some o))=some e∧Sm2 e (Option.bind (Qr (ZI d) QI 0) (Sum.elim (fun (b9_:Unit)=>Km d) (fun o=>some o))):=by
  obtain ⟨e,h1,h2⟩:=Ys (β1:=Unit⊕Int) (β2:=Unit⊕(Unit⊕Int)) (step1:=Wj d) (step2:=ZI d) d.funs (.inl ()) (.inl ()) .inr (fun e=>.inr (.inr e)) (by omega) (fun a x b e=>by
   obtain ⟨q1,q2⟩:=YB e
   unfold Wj ZI
   rw [q1,q2]
   simp only [cond_true,Option.bind_some]
   by_cases a1:x.arity < 1
   ·rw [decide_eq_true a1,decide_eq_false (show ¬ 1≤x.arity by omega)];exact ⟨3,fun h=>by omega,fun _=>⟨rfl,rfl⟩⟩
   rw [decide_eq_false a1,decide_eq_true (show 1≤x.arity by omega)]
   by_cases a2:16 < x.arity
   ·rw [decide_eq_true a2,decide_eq_false (show ¬ x.arity≤16 by omega)];exact ⟨3,fun h=>by omega,fun _=>⟨rfl,rfl⟩⟩
   rw [decide_eq_false a2,decide_eq_true (show x.arity≤16 by omega)]
   exact ⟨0,fun _=>⟨Z,Z⟩,fun h=>(h Z).elim⟩)
   (by unfold Wj;rw [Je];rfl) (by unfold ZI;rw [Je];rfl)
  by_cases he:e=0
  ·obtain ⟨e1,e2⟩:=h1 he
   rw [e1,e2]
   exact k3_eq d h hr (by omega) (by omega)
  ·obtain ⟨e1,e2⟩:=h2 he
   rw [e1,e2];exact ⟨e,rfl,.no he rfl⟩
 by_cases c4:32 < (d.ctors.length:Int)
 ·rw [decide_eq_true c4,decide_eq_false (show ¬ (d.ctors.length:Int)≤32 by omega)];exact ⟨6,rfl,.no (by omega) rfl⟩
 rw [decide_eq_false c4,decide_eq_true (show (d.ctors.length:Int)≤32 by omega)]
 cases (d.kind==4) with
 | false=>exact tail
 | true =>
  by_cases c5:(d.funs.length:Int) < 1
  ·rw [decide_eq_true c5,decide_eq_false (show ¬ 1≤(d.funs.length:Int) by omega)];exact ⟨6,rfl,.no (by omega) rfl⟩
  rw [decide_eq_false c5,decide_eq_true (show 1≤(d.funs.length:Int) by omega)]
  by_cases c6:8 < (d.funs.length:Int)
  ·rw [decide_eq_true c6,decide_eq_false (show ¬ (d.funs.length:Int)≤8 by omega)];exact ⟨6,rfl,.no (by omega) rfl⟩
  rw [decide_eq_false c6,decide_eq_true (show (d.funs.length:Int)≤8 by omega)]
  exact tail
end Go.Proofs.Ytafddfoefeploaa
namespace Go.Proofs.Ytafddfoefeploaa
open Go.RowKit Go.Shelf
def Dc (d:Dcl) (k:Int) (M M':Qc Dx Ent):Prop:=∀ n,ZL M' n=(Yz d k n).elim (ZL M n) some
theorem firstN_snoc {α:Type} (nm:α→Dx) (n:Dx) (x:α):∀ (l:List α) (k:Nat),JB nm n (l++[x]) k=(JB nm n l k).elim (if nm x=n then some (k+l.length,x) else none) some
 | [],k=>by
  rw [List.nil_append,JB,JB]
  split <;> rfl
 | y::l,k=>by
  rw [List.cons_append,JB,JB]
  by_cases h:nm y=n
  ·rw [if_pos h,if_pos h];rfl
  ·rw [if_neg h,if_neg h,firstN_snoc nm n x l (k+1),List.length_cons,show k+1+l.length=k+(l.length+1) from by omega]
theorem firstN_no {α:Type} (nm:α→Dx) (n:Dx) (l:List α) (k:Nat) (h:n∉l.map nm):JB nm n l k=none:=by
 have:=firstN_is nm n l k
 rw [decide_eq_false h] at this
 cases hf:JB nm n l k with
 | none=>rfl
 | some p=>rw [hf] at this;cases this
theorem fold_book {α:Type} {step:Int×(Qc Dx Ent)→Option (LO (Int×(Qc Dx Ent)) (Qc Dx Ent))} (nm:α→Dx) (g:Int→α→Ent) (l:List α) (M:Qc Dx Ent) (hlen:l.length≤900000000) (hnd:(l.map nm).Nodup)
  (hin:∀ (a:List α) (x:α) (b:List α) (s:Qc Dx Ent),l=a++x::b→step ((a.length:Int),s)=some (.next (J9 ((a.length:Int)+1),QZ s (nm x) (g (a.length:Int) x))))
  (hout:∀ s,step ((l.length:Int),s)=some (.done s)):∃ M',Qr step QI (0,M)=some M'∧∀ n,ZL M' n=(JB nm n l 0).elim (ZL M n) fun p=>some (g (p.1:Int) p.2):=by
 refine Yf (step:=step) l (fun i (s:Qc Dx Ent)=>(i,s)) (fun a s=>∀ n,ZL s n=(JB nm n a 0).elim (ZL M n) fun p=>some (g (p.1:Int) p.2)) (fun M'=>∀ n,ZL M' n=(JB nm n l 0).elim (ZL M n) fun p=>some (g (p.1:Int) p.2)) hlen
  (fun a x b s e hI=>.inr ⟨_,hin a x b s e,fun n=>?_⟩) (fun s hI=>⟨s,hout s,hI⟩) M (fun n=>rfl)
 rw [Ke,firstN_snoc,Nat.zero_add]
 by_cases h:n=nm x
 ·have hno:n∉a.map nm:=by
   rw [e,List.map_append,List.map_cons] at hnd
   intro hm
   exact (List.nodup_append.1 hnd).2.2 n hm (nm x) (List.mem_cons_self ..) h
  rw [if_pos h,firstN_no nm n a 0 hno,if_pos h.symm];rfl
 ·rw [if_neg h,hI n,if_neg (fun h'=>h h'.symm)]
  cases JB nm n a 0 <;> rfl
theorem rec_ne (d:Dcl) (h:d.size≤800000000):d.name.length+4≤1000000000:=by
 have:=name_len d;omega
theorem decl_book (d:Dcl) (env:List Dcl) (M:Qc Dx Ent) (h:d.size≤800000000) (hnd:(Ji d).Nodup):∃ M',Option.bind (cond (d.kind==0) (some (d.kind==0)) (cond (d.kind==1) (some (d.kind==1)) (some (d.kind==2)))) (fun (b1_:Bool)=>G9 b1_ d M env)=some M'∧Dc d (env.length:Int) M M':=by
 have hc:=YK d
 have hf:=ZN d
 rw [kinds_eq]
 show ∃ M',G9 (decide (d.kind=0∨d.kind=1∨d.kind=2)) d M env=some M'∧_
 unfold G9
 by_cases hk:d.kind=0∨d.kind=1∨d.kind=2
 ·rw [decide_eq_true hk]
  have e1:JC ([0,1,2]:List Int) d.kind=some d.kind:=by rcases hk with e | e | e <;> rw [e] <;> rfl
  rw [cond_true,e1]
  refine ⟨_,Z,fun n=>?_⟩
  unfold Yz
  rw [Ke,if_pos hk]
  by_cases hn:n=d.name
  ·rw [if_pos hn,if_pos hn.symm];rfl
  ·rw [if_neg hn,if_neg (fun h=>hn h.symm)];rfl
 ·rw [decide_eq_false hk,cond_false,Y9]
  by_cases h3:d.kind=3
  ·rw [decide_eq_true h3,cond_true]
   have hn3:Ji d=(d.name::d.ctors.map (·.name))++[d.name++WE]:=by unfold Ji;rw [if_neg hk,if_pos h3];rfl
   rw [hn3] at hnd
   have hd1:=(List.nodup_append.1 hnd).1
   have hd2:=(List.nodup_cons.1 hd1)
   have hd3:=(List.nodup_append.1 hnd).2.2
   obtain ⟨M',e1,e2⟩:=fold_book (step:=Kp d env) (·.name) (fun i (c:Ctr)=>⟨4,(env.length:Int),i,d.params,c.ty⟩) d.ctors (QZ M d.name (⟨3,(env.length:Int),0,d.params,d.ty⟩:Ent)) (by omega) hd2.2
    (fun a x b s e=>by obtain ⟨q1,q2⟩:=YB e;unfold Kp;dsimp only;rw [q1,q2];rfl) (fun s=>by unfold Kp;dsimp only;rw [Je];rfl)
   show ∃ M',Option.bind (Qr (Kp d env) QI (0,QZ M d.name (⟨3,(env.length:Int),0,d.params,d.ty⟩:Ent))) (fun b3_=>GL d b3_ env)=some M'∧_
   rw [e1]
   simp only [Option.bind_some]
   unfold GL
   rw [JX (by have:=rec_ne d h;show d.name.length+4≤_;omega)]
   refine ⟨_,Z,fun n=>?_⟩
   rw [Ke,e2,Ke]
   unfold Yz
   rw [if_neg hk,if_pos h3]
   show (if n=d.name++WE then _ else _)=_
   by_cases hr:n=d.name++WE
   ·have hne:¬ d.name=n:=fun h=>hd3 d.name (List.mem_cons_self ..) _ (List.mem_singleton_self _) (by rw [← hr];exact h)
    have hno:n∉d.ctors.map (·.name):=fun hm=>hd3 n (List.mem_cons_of_mem _ hm) _ (List.mem_singleton_self _) hr
    rw [if_pos hr,if_neg hne,firstN_no _ _ _ _ hno]
    simp only
    rw [if_pos hr.symm];rfl
   ·rw [if_neg hr]
    by_cases hn:n=d.name
    ·have hno:n∉d.ctors.map (·.name):=by rw [hn];exact hd2.1
     rw [firstN_no _ _ _ _ hno,if_pos hn,if_pos hn.symm];rfl
    ·rw [if_neg hn,if_neg (fun h=>hn h.symm)]
     cases hf:JB (·.name) n d.ctors 0 with
     | none=>simp only;rw [if_neg (fun h=>hr h.symm)];rfl
     | some p=>rfl
  ·rw [decide_eq_false h3,cond_false,Y9]
   by_cases h4:d.kind=4
   ·rw [decide_eq_true h4,cond_true]
    have hn4:Ji d=d.funs.map (·.name):=by unfold Ji;rw [if_neg hk,if_neg h3,if_pos h4]
    rw [hn4] at hnd
    obtain ⟨M',e1,e2⟩:=fold_book (step:=G8 d env) (·.name) (fun i (c:Fn)=>⟨6,(env.length:Int),i,d.params,c.ty⟩) d.funs M (by omega) hnd
     (fun a x b s e=>by obtain ⟨q1,q2⟩:=YB e;unfold G8;dsimp only;rw [q1,q2];rfl) (fun s=>by unfold G8;dsimp only;rw [Je];rfl)
    rw [e1]
    refine ⟨M',Z,fun n=>?_⟩
    rw [e2]
    unfold Yz
    rw [if_neg hk,if_neg h3,if_pos h4]
    cases JB (·.name) n d.funs 0 <;> rfl
   ·rw [decide_eq_false h4]
    refine ⟨M,Z,fun n=>?_⟩
    unfold Yz
    rw [if_neg hk,if_neg h3,if_neg h4];rfl
theorem decl_own (d:Dcl) (env:List Dcl) (h:d.size≤800000000) (hnd:(Ji d).Nodup):∃ M',Option.bind (cond (d.kind==0) (some (d.kind==0)) (cond (d.kind==1) (some (d.kind==1)) (some (d.kind==2)))) (fun (v5:Bool)=>m47f10_k3 v5 d env)=some M'∧Dc d (env.length:Int) gmNil M':=decl_book d env gmNil h hnd
theorem decl_next (d:Dcl) (env:List Dcl) (M:Qc Dx Ent) (x:List Dcl) (h:d.size≤800000000) (hnd:(Ji d).Nodup):∃ M',Option.bind (cond (d.kind==0) (some (d.kind==0)) (cond (d.kind==1) (some (d.kind==1)) (some (d.kind==2)))) (fun (v12:Bool)=>Wn v12 d ((env.length:Int),M,x))=some M'∧Dc d (env.length:Int) M M':=decl_book d env M h hnd
theorem Ow.nil (d:Dcl) (k:Int):Ow [] d k gmNil:=fun n=>⟨fun h=>(by cases h),by rw [if_neg (by intro h;cases h)];rfl⟩
theorem Ow.snoc {own:List Dx} {d:Dcl} {k:Int} {O Y:Qc Dx Ent} (h:Ow own d k O) (hY:Dc d k gmNil Y) (s:Dx) (hs:s∈Ji d):Ow (own++[s]) d k (QZ O s (⟨(Ql Y s).kind,(Ql Y s).decl,(Ql Y s).item,(Ql Y s).params,((Ql Y s).ty)⟩:Ent)):=by
 intro n
 refine ⟨fun hn=>?_,?_⟩
 ·rcases List.mem_append.1 hn with hn | hn
  ·exact (h n).1 hn
  ·rw [List.mem_singleton.1 hn];exact hs
 ·rw [Ke]
  by_cases e:n=s
  ·rw [if_pos e,if_pos (by rw [e];simp),e]
   have hi:=X0 d k s
   rw [decide_eq_true hs] at hi
   have hy:=hY s
   cases hl:Yz d k s with
   | none=>rw [hl] at hi;cases hi
   | some en =>
    rw [hl] at hy
    have:Ql Y s=en:=by unfold Ql;rw [hy];rfl
    rw [this]
  ·rw [if_neg e,(h n).2]
   by_cases hn:n∈own
   ·rw [if_pos hn,if_pos (List.mem_append_left _ hn)]
   ·rw [if_neg hn,if_neg (by rw [List.mem_append,List.mem_singleton];exact fun h=>h.elim hn e)]
theorem Dc.ow {d:Dcl} {k:Int} {Y:Qc Dx Ent} (hY:Dc d k gmNil Y):Ow (Ji d) d k Y:=by
 intro n
 refine ⟨fun h=>h,?_⟩
 rw [hY n]
 by_cases hn:n∈Ji d
 ·rw [if_pos hn]
  have hi:=X0 d k n
  rw [decide_eq_true hn] at hi
  cases hl:Yz d k n with
  | none=>rw [hl] at hi;cases hi
  | some en=>rfl
 ·rw [if_neg hn]
  have hi:=X0 d k n
  rw [decide_eq_false hn] at hi
  cases hl:Yz d k n with
  | none=>rfl
  | some en=>rw [hl] at hi;cases hi
theorem findO_snoc (a:List Dcl) (x:Dcl) (n:Dx):Gf (a++[x]) n=(Gf a n).elim (Yz x (a.length:Int) n) some:=by
 unfold Gf
 rw [fsI_app,Nat.zero_add]
 congr 1
 show (Yz x (a.length:Int) n).elim none some=_
 cases Yz x (a.length:Int) n <;> rfl
theorem Bk.next {a:List Dcl} {x:Dcl} {M M':Qc Dx Ent} (h:Bk a M) (hd:Dc x (a.length:Int) M M') (hf:∀ n∈Ji x,Gf a n=none):Bk (a++[x]) M':=by
 intro n
 rw [hd n,h n,findO_snoc]
 have hi:=X0 x (a.length:Int) n
 by_cases hn:n∈Ji x
 ·rw [hf n hn]
  cases Yz x (a.length:Int) n <;> rfl
 ·rw [decide_eq_false hn] at hi
  cases hl:Yz x (a.length:Int) n with
  | none=>cases Gf a n <;> rfl
  | some en=>rw [hl] at hi;cases hi
end Go.Proofs.Ytafddfoefeploaa
namespace Go.Proofs.Ytafddfoefeploaa
open Go.RowKit Go.Shelf
theorem fn_size {d:Dcl} {f:Fn} (h:f∈d.funs):f.ty.size+f.tree.size+f.name.length < d.size:=by
 have h1:=Zh fsz h
 have h2:fsz f=1+f.name.length+f.ty.size+f.tree.size:=rfl
 unfold Dcl.size;omega
theorem names_mem_len {d:Dcl} {n:Dx} (h:n∈Ji d):n.length≤d.size+4:=by
 have hd:=name_len d
 unfold Ji at h
 split at h
 ·rw [List.mem_singleton.1 h];omega
 ·split at h
  ·rcases List.mem_append.1 h with h | h
   ·rcases List.mem_cons.1 h with h | h
    ·rw [h];omega
    ·obtain ⟨c,hc,rfl⟩:=List.mem_map.1 h
     have:=Gg hc
     omega
   ·rw [List.mem_singleton.1 h,List.length_append]
    show d.name.length+4≤_
    omega
  ·split at h
   ·obtain ⟨c,hc,rfl⟩:=List.mem_map.1 h
    have:=fn_size hc
    omega
   ·cases h
theorem take_mid {α:Type} {l a b:List α} (e:l=a++b):l.take a.length=a:=by rw [e];simp
def NmOk (env:List Dcl) (d:Dcl):Prop:=(Ji d).Nodup∧(∀ n∈Ji d,Gf env n=none)∧∀ n∈Ji d,GC n=true
theorem names_ok (env:List Dcl) (d:Dcl) (M:Qc Dx Ent) (hM:Bk env M) (he:YD env≤800000000) (hd:d.size≤800000000) :
  ∃ e:Int,m52 env d=some e∧Sm2 e (Wy d env M)∧(e=0→NmOk env d):=by
 have hnl:=names_len d
 unfold m52 Wy
 rw [m23_eq d (by omega),m20_eq d (by omega),Option.bind_some,Option.bind_some]
 obtain ⟨r1,r2,h1,h2,h3⟩:=loop2 (β1:=Unit⊕Int) (β2:=(Qc Dx Bool)⊕(Unit⊕Int)) (step1:=Wi (Ji d) env) (step2:=Kk (Ji d) M) (Ji d) (fun i (_:Unit)=>i) (fun i (s:Qc Dx Bool)=>(i,s))
  (fun a _ s=>(∀ n,Ql s n=decide (n∈a))∧a.Nodup∧(∀ n∈a,Gf env n=none)∧∀ n∈a,GC n=true) (fun r1 r2=>(r1=.inl ()∧∃ s,r2=.inl s∧NmOk env d)∨∃ e,e ≠ 0∧r1=.inr e∧r2=.inr (.inr e)) (by omega)
  (fun a x b _ s e hI=>by
   obtain ⟨q1,q2⟩:=YB e
   have hx:x.length≤900000000:=by have:=names_mem_len (d:=d) (n:=x) (by rw [e];simp);omega
   have hm:=Gk e
   obtain ⟨hs,hnd,hfr,hnk⟩:=hI
   unfold Wi Kk
   dsimp only
   rw [q1,q2]
   simp only [cond_true,Option.bind_some]
   rw [m71_eq x hx,m65_eq x hx,Option.bind_some,Option.bind_some,GH]
   cases hnx:GC x with
   | false=>exact .inl ⟨_,_,rfl,rfl,.inr ⟨29,by omega,rfl,rfl⟩⟩
   | true =>
    have hMx:=hM x
    simp only [Bool.not_true,cond_false,cond_true,Option.bind_some,Sum.elim_inl]
    rw [m15_eq env x he]
    unfold WO
    cases hf:Gf env x with
    | some en =>
     rw [hf] at hMx
     have g1:Yl M x=true:=by unfold Yl;rw [hMx];rfl
     rw [g1]
     exact .inl ⟨_,_,rfl,rfl,.inr ⟨8,by omega,rfl,rfl⟩⟩
    | none =>
     rw [hf] at hMx
     have g1:Yl M x=false:=by unfold Yl;rw [hMx];rfl
     rw [g1,hs x]
     have g2:Jl (cond (decide ((0:Int)≤(a.length:Int))) (Nat.ble ((a.length:Int)).toNat (Ji d).length) false) (Option.bind (Uj ((Ji d).take ((a.length:Int)).toNat) x) fun (x13:Bool)=>some x13)=some (decide (x∈a)):=by
      rw [decide_eq_true (show (0:Int)≤(a.length:Int) by omega),cond_true]
      show Jl (Nat.ble a.length (Ji d).length) (Option.bind (Uj ((Ji d).take a.length) x) _)=_
      rw [JX (by omega),take_mid e,m33_eq a x (by omega)];rfl
     show (∃ r1 r2,Option.bind (Jl (cond (decide ((0:Int)≤(a.length:Int))) (Nat.ble ((a.length:Int)).toNat (Ji d).length) false) (Option.bind (Uj ((Ji d).take ((a.length:Int)).toNat) x) fun (x13:Bool)=>some x13)) _=_∧_)∨(∃ s1' s2',Option.bind (Jl (cond (decide ((0:Int)≤(a.length:Int))) (Nat.ble ((a.length:Int)).toNat (Ji d).length) false) (Option.bind (Uj ((Ji d).take ((a.length:Int)).toNat) x) fun (x13:Bool)=>some x13)) _=_∧_)
     rw [g2]
     by_cases hxa:x∈a
     ·rw [decide_eq_true hxa]
      exact .inl ⟨_,_,rfl,rfl,.inr ⟨8,by omega,rfl,rfl⟩⟩
     ·rw [decide_eq_false hxa]
      refine .inr ⟨(),QZ s x true,Z,Z,fun n=>?_,?_,fun n hn=>?_,fun n hn=>?_⟩
      ·rw [gmVal_set]
       by_cases hn:n=x
       ·rw [if_pos hn,decide_eq_true (by rw [hn];simp)]
       ·rw [if_neg hn,hs n]
        congr 1
        rw [List.mem_append,List.mem_singleton,eq_iff_iff]
        exact ⟨.inl,fun h=>h.resolve_right hn⟩
      ·rw [List.nodup_append]
       refine ⟨hnd,by simp,fun y hy z hz=>?_⟩
       rw [List.mem_singleton.1 hz]
       exact fun h=>hxa (h▸hy)
      ·rcases List.mem_append.1 hn with hn | hn
       ·exact hfr n hn
       ·rw [List.mem_singleton.1 hn];exact hf
      ·rcases List.mem_append.1 hn with hn | hn
       ·exact hnk n hn
       ·rw [List.mem_singleton.1 hn];exact hnx)
  (fun _ s hI=>⟨.inl (),.inl s,by unfold Wi;rw [Je];rfl,by unfold Kk;dsimp only;rw [Je];rfl,.inl ⟨rfl,s,rfl,hI.2⟩⟩) () gmNil ⟨fun n=>by rw [decide_eq_false (by intro h;cases h)];rfl,List.nodup_nil,(fun n hn=>by cases hn),fun n hn=>by cases hn⟩
 have h2':Qr (Kk (Ji d) M) QI (0,gmNil)=some r2:=h2
 have h1':Qr (Wi (Ji d) env) QI 0=some r1:=h1
 rw [h1',h2']
 rcases h3 with ⟨rfl,s,rfl,h4⟩ | ⟨e,h4,rfl,rfl⟩
 ·exact ⟨0,rfl,.ok rfl,fun _=>h4⟩
 ·exact ⟨e,rfl,.no h4 rfl,fun h=>(h4 h).elim⟩
theorem rule_size {d:Dcl} {r:Tm} (h:r∈d.rcr.rules):r.size < d.size:=by
 have:=Zh Tm.size h
 unfold Dcl.size;omega
theorem rty_size (d:Dcl):d.rcr.ty.size < d.size:=by unfold Dcl.size;omega
theorem value_size (d:Dcl):d.value.size < d.size:=by unfold Dcl.size;omega
theorem ind_eq (env:List Dcl) (d:Dcl) (M:Qc Dx Ent) (hM:Bk env M) (he:YD env≤800000000) (hd:d.size≤800000000) (hnd:(Ji d).Nodup) (hk:d.kind=3) :
  ∃ e:Int,Option.bind (Qr (Wh d env) QI 0) (Sum.elim (fun (b1_:Unit)=>m53_k2 d env) (fun o=>some o))=some e ∧
   (e=0→∃ O,XR d env M gmNil=some (.inl O))∧(e ≠ 0→∃ O,XR d env M gmNil=some (.inr (e,O))):=by
 have hc:=YK d
 have hrl:=rules_len d
 have hn3:Ji d=(d.name::d.ctors.map (·.name))++[d.name++WE]:=by unfold Ji;rw [if_neg (by rw [hk];decide),if_pos hk];rfl
 obtain ⟨Y,hY1,hY2⟩:=decl_own d env hd hnd
 have hO1:Ow [d.name] d (env.length:Int) (QZ gmNil d.name (⟨(Ql Y d.name).kind,(Ql Y d.name).decl,(Ql Y d.name).item,(Ql Y d.name).params,((Ql Y d.name).ty)⟩:Ent)) :=
  (Ow.nil d (env.length:Int)).snoc hY2 d.name (by rw [hn3];simp)
 have hmem:∀ c∈d.ctors,c.name∈Ji d:=fun c hc=>by rw [hn3];exact List.mem_append_left _ (List.mem_cons_of_mem _ (List.mem_map.2 ⟨c,hc,rfl⟩))
 unfold XR
 rw [hY1]
 simp only [Option.bind_some]
 obtain ⟨e,h1,h2⟩:=Ys (β1:=Unit⊕Int) (β2:=Unit⊕((Qc Dx Ent)⊕(Int×(Qc Dx Ent)))) (step1:=Wh d env) (step2:=Ka d env M gmNil Y) d.ctors (.inl ()) (.inl ()) .inr (fun e=>.inr (.inr (e,_))) (by omega) (fun a x b e=>by
  obtain ⟨q1,q2⟩:=YB e
  have hx:=Gg (d:=d) (c:=x) (by rw [e];simp)
  obtain ⟨e',w1,w2,w3⟩:=Xj ⟨env,[d.name],d⟩ M _ ⟨he,by simp,hd,hM,hO1⟩ x.ty 0 d.params (by omega)
  unfold Wh Ka
  rw [q1,q2]
  simp only [cond_true,Option.bind_some]
  rw [w1]
  refine ⟨e',fun he=>?_,fun he=>?_⟩
  ·have w4:=w2 he
   rw [w4];subst he;exact ⟨rfl,rfl⟩
  ·have w4:=w3 he
   rw [w4];exact ⟨GW he _ _,rfl⟩)
  (by unfold Wh;rw [Je];rfl) (by unfold Ka;rw [Je];rfl)
 by_cases he1:e ≠ 0
 ·obtain ⟨e1,e2⟩:=h2 he1
  rw [e1,e2]
  exact ⟨e,Z,fun h=>(he1 h).elim,fun _=>⟨_,Z⟩⟩
 obtain ⟨e1,e2⟩:=h1 (Decidable.not_not.1 he1)
 rw [e1,e2]
 show ∃ e:Int,m53_k2 d env=some e∧(e=0→∃ O,Kb d Y gmNil env M=some (.inl O))∧(e ≠ 0→∃ O,Kb d Y gmNil env M=some (.inr (e,O)))
 obtain ⟨O2,h3,h4⟩:=Yf (step:=ZB d Y) d.ctors (fun i (s:Qc Dx Ent)=>(i,s)) (fun a s=>Ow (d.name::a.map (·.name)) d (env.length:Int) s) (fun s=>Ow (d.name::d.ctors.map (·.name)) d (env.length:Int) s) (by omega)
  (fun a x b s e hI=>by
   obtain ⟨q1,q2⟩:=YB e
   refine .inr ⟨_,by unfold ZB;dsimp only;rw [q1,q2];rfl,?_⟩
   have:=hI.snoc hY2 x.name (hmem x (by rw [e];simp))
   rw [List.map_append]
   exact this)
  (fun s hI=>⟨s,by unfold ZB;dsimp only;rw [Je];rfl,hI⟩) _ hO1
 have h3':Qr (ZB d Y) QI (0,(QZ gmNil d.name (⟨(Ql Y d.name).kind,(Ql Y d.name).decl,(Ql Y d.name).item,(Ql Y d.name).params,((Ql Y d.name).ty)⟩:Ent)))=some O2:=h3
 unfold Kb
 rw [h3',Option.bind_some]
 unfold m47f10_k8 m53_k2
 rw [m23_eq d (by omega),Option.bind_some]
 have hlen:(Ji d).length=d.ctors.length+2:=by rw [hn3];simp
 have hw:J9 (((Ji d).length:Int) - 1)=((d.ctors.length+1:Nat):Int):=by rw [hlen,XG (by omega) (by omega)];omega
 rw [hw,decide_eq_true (show (0:Int)≤((d.ctors.length+1:Nat):Int) by omega),cond_true]
 show ∃ e:Int,Jl (Nat.ble (d.ctors.length+1) (Ji d).length) (Option.bind (Uh ⟨env,(Ji d).take (d.ctors.length+1),d⟩ d.rcr.ty 0 d.rcr.params) _)=some e∧_
 have htake:(Ji d).take (d.ctors.length+1)=d.name::d.ctors.map (·.name):=by
  rw [hn3]
  have:d.ctors.length+1=(d.name::d.ctors.map (·.name)).length:=by simp
  rw [this,List.take_left']
  rfl
 rw [JX (by omega),htake]
 obtain ⟨e',w1,w2,w3⟩:=Xj ⟨env,d.name::d.ctors.map (·.name),d⟩ M O2 ⟨he,by simp;omega,hd,hM,h4⟩ d.rcr.ty 0 d.rcr.params (by have:=rty_size d;omega)
 rw [w1]
 by_cases he2:e' ≠ 0
 ·have w4:=w3 he2
  rw [w4]
  simp only [Option.bind_some,Ww he2,cond_true]
  exact ⟨e',Z,fun h=>(he2 h).elim,fun _=>⟨_,Z⟩⟩
 have he2':=Decidable.not_not.1 he2
 have w4:=w2 he2'
 subst he2'
 rw [w4]
 simp only [Option.bind_some,Sum.elim_inl]
 rw [JX (by have:=rec_ne d hd;show d.name.length+4≤_;omega)]
 show ∃ e:Int,Option.bind (Qr (Wg d env (Ji d)) QI 0) _=some e∧_
 have hO3:Ow (Ji d) d (env.length:Int) (QZ O2 (d.name++([46,114,101,99]:List UInt8)) (⟨(Ql Y (d.name++([46,114,101,99]:List UInt8))).kind,(Ql Y (d.name++([46,114,101,99]:List UInt8))).decl,(Ql Y (d.name++([46,114,101,99]:List UInt8))).item,(Ql Y (d.name++([46,114,101,99]:List UInt8))).params,((Ql Y (d.name++([46,114,101,99]:List UInt8))).ty)⟩:Ent)):=by
  have:=h4.snoc hY2 (d.name++WE) (by rw [hn3];simp)
  rw [← hn3] at this
  exact this
 obtain ⟨e,h5,h6⟩:=Ys (β1:=Unit⊕Int) (β2:=Unit⊕((Qc Dx Ent)⊕(Int×(Qc Dx Ent)))) (step1:=Wg d env (Ji d)) (step2:=K9 d env M O2 Y) d.rcr.rules (.inl ()) (.inl ()) .inr (fun e=>.inr (.inr (e,_))) (by omega) (fun a x b e=>by
  obtain ⟨q1,q2⟩:=YB e
  have hx:=rule_size (d:=d) (r:=x) (by rw [e];simp)
  obtain ⟨e',w1,w2,w3⟩:=Xj ⟨env,Ji d,d⟩ M _ ⟨he,by show (Ji d).length≤_;omega,hd,hM,hO3⟩ x 0 d.rcr.params (by omega)
  unfold Wg K9
  rw [q1,q2]
  simp only [cond_true,Option.bind_some]
  rw [w1]
  refine ⟨e',fun he=>?_,fun he=>?_⟩
  ·have w4:=w2 he
   rw [w4];subst he;exact ⟨rfl,rfl⟩
  ·have w4:=w3 he
   rw [w4];exact ⟨GW he _ _,rfl⟩)
  (by unfold Wg;rw [Je];rfl) (by unfold K9;rw [Je];rfl)
 by_cases he3:e ≠ 0
 ·obtain ⟨e1,e2⟩:=h6 he3
  rw [e1,e2]
  exact ⟨e,Z,fun h=>(he3 h).elim,fun _=>⟨_,Z⟩⟩
 obtain ⟨e1,e2⟩:=h5 (Decidable.not_not.1 he3)
 rw [e1,e2]
 exact ⟨0,Z,fun _=>⟨_,Z⟩,fun h=>(h Z).elim⟩
end Go.Proofs.Ytafddfoefeploaa
namespace Go.Proofs.Ytafddfoefeploaa
open Go.RowKit Go.Shelf
theorem elim_some {r:Unit⊕Int} {e:Int} (h:(e=0→r=.inl ())∧(e ≠ 0→r=.inr e)):Sum.elim (fun (_:Unit)=>(0:Int)) (fun x=>x) r=e:=by
 by_cases he:e=0
 ·rw [h.1 he];exact he.symm
 ·rw [h.2 he];rfl
theorem tail_nil (env:List Dcl) (d:Dcl) (M O:Qc Dx Ent) (hd:d.size≤800000000) (hnd:(Ji d).Nodup) (hf:d.funs=[]):Kq d O env M=some 0:=by
 obtain ⟨M',h1,-⟩:=decl_book d env O hd hnd
 unfold Kq
 rw [h1]
 simp only [Option.bind_some]
 rw [Zc (r:=.inl ()) (by unfold Ko;rw [hf];rfl)]
 rfl
theorem k7_nil (env:List Dcl) (d:Dcl) (M:Qc Dx Ent) (hd:d.size≤800000000) (hnd:(Ji d).Nodup) (hf:d.funs=[]) (h3:d.kind ≠ 3):Zq d env M=some 0:=by
 unfold Zq
 rw [Y9,decide_eq_false h3]
 simp only [cond_false,Option.bind_some,Sum.elim_inl]
 rw [Zc (r:=.inl ()) (by unfold Zo;rw [hf];rfl)]
 exact tail_nil env d M gmNil hd hnd hf
theorem k7_ind (env:List Dcl) (d:Dcl) (M:Qc Dx Ent) (hM:Bk env M) (he:YD env≤800000000) (hd:d.size≤800000000) (hnd:(Ji d).Nodup) (hf:d.funs=[]) (h3:d.kind=3) :
  ∃ e:Int,KS false env d=some e∧Zq d env M=some e:=by
 obtain ⟨e,h1,h2,h4⟩:=ind_eq env d M hM he hd hnd h3
 unfold KS Zq
 rw [Y9,decide_eq_true h3]
 simp only [cond_true,cond_false]
 rw [h1]
 by_cases he0:e=0
 ·obtain ⟨O,h5⟩:=h2 he0
  rw [h5]
  simp only [Option.bind_some,Sum.elim_inl]
  rw [Zc (r:=.inl ()) (by unfold Zo;rw [hf];rfl)]
  exact ⟨e,rfl,by rw [he0];exact tail_nil env d M O hd hnd hf⟩
 ·obtain ⟨O,h5⟩:=h4 he0
  rw [h5]
  exact ⟨e,Z,Z⟩
theorem k7_fam (env:List Dcl) (d:Dcl) (M:Qc Dx Ent) (hM:Bk env M) (he:YD env≤800000000) (hd:d.size≤800000000) (hnd:(Ji d).Nodup) (h4:d.kind=4) :
  ∃ e:Int,KS false env d=some e∧Zq d env M=some e:=by
 have hfl:=ZN d
 have hnl:=names_len d
 have e3:decide (d.kind=3)=false:=decide_eq_false (by rw [h4];decide)
 have e4:decide (d.kind=4)=true:=decide_eq_true h4
 unfold KS Zq
 rw [Y9,e3,Y9,e4]
 simp only [cond_true,cond_false,Option.bind_some,Sum.elim_inl]
 obtain ⟨e,h1,h2⟩:=Ys (β1:=Unit⊕Int) (β2:=Unit⊕Int) (step1:=m53_l3 d env) (step2:=Zo d env M gmNil) d.funs (.inl ()) (.inl ()) .inr .inr (by omega) (fun a x b e=>by
  obtain ⟨q1,q2⟩:=YB e
  have hx:=fn_size (d:=d) (f:=x) (by rw [e];simp)
  obtain ⟨e',w1,w2,w3⟩:=Xj ⟨env,[],d⟩ M gmNil ⟨he,by simp,hd,hM,Ow.nil _ _⟩ x.ty 0 d.params (by omega)
  unfold m53_l3 Zo
  rw [q1,q2]
  simp only [cond_true,Option.bind_some]
  rw [w1]
  refine ⟨e',fun he=>?_,fun he=>?_⟩
  ·have w4:=w2 he
   rw [w4];subst he;exact ⟨rfl,rfl⟩
  ·have w4:=w3 he
   rw [w4];exact ⟨GW he _ _,rfl⟩)
  (by unfold m53_l3;rw [Je];rfl) (by unfold Zo;rw [Je];rfl)
 by_cases he1:e ≠ 0
 ·obtain ⟨e1,e2⟩:=h2 he1
  rw [e1,e2];exact ⟨e,rfl,rfl⟩
 obtain ⟨e1,e2⟩:=h1 (Decidable.not_not.1 he1)
 rw [e1,e2]
 simp only [Option.bind_some,Sum.elim_inl]
 rw [m23_eq d (by omega),Option.bind_some]
 obtain ⟨O,h3,hO⟩:=decl_book d env gmNil hd hnd
 unfold Kq
 rw [h3]
 simp only [Option.bind_some]
 obtain ⟨e,h5,h6⟩:=Ys (β1:=Unit⊕Int) (β2:=Unit⊕Int) (step1:=m53_l4 d env (Ji d)) (step2:=Ko d env M O) d.funs (.inl ()) (.inl ()) .inr .inr (by omega) (fun a x b e=>by
  obtain ⟨q1,q2⟩:=YB e
  have hx:=fn_size (d:=d) (f:=x) (by rw [e];simp)
  obtain ⟨e',w1,w2,w3⟩:=tree_eq ⟨env,Ji d,d⟩ M O ⟨he,by show (Ji d).length≤_;omega,hd,hM,hO.ow⟩ QI x.tree x.arity 0 (by unfold QI;omega) (by omega)
  have w1':m73 (⟨env,Ji d,d⟩:Rsc) x.tree x.arity 0=some e':=w1
  unfold m53_l4 Ko
  rw [q1,q2]
  simp only [cond_true,Option.bind_some]
  rw [w1']
  refine ⟨e',fun he=>?_,fun he=>?_⟩
  ·have w4:m48f11 x.tree x.arity 0 d.params env M O=some (.inl ()):=w2 he
   rw [w4];subst he;exact ⟨rfl,rfl⟩
  ·have w4:m48f11 x.tree x.arity 0 d.params env M O=some (.inr e'):=w3 he
   rw [w4];exact ⟨GW he _ _,rfl⟩)
  (by unfold m53_l4;rw [Je];rfl) (by unfold Ko;rw [Je];rfl)
 by_cases he2:e=0
 ·obtain ⟨e1,e2⟩:=h5 he2
  rw [e1,e2];exact ⟨0,rfl,rfl⟩
 ·obtain ⟨e1,e2⟩:=h6 he2
  rw [e1,e2];exact ⟨e,rfl,rfl⟩
theorem used_funs {d:Dcl} (h:XX d=true) (h4:d.kind ≠ 4):d.funs=[]:=by
 unfold XX at h
 rw [Bool.and_eq_true,Bool.and_eq_true,Bool.and_eq_true] at h
 have h1:=h.1.1.2
 rw [Y9,decide_eq_false h4,Bool.false_or] at h1
 have h2:(d.funs.length:Int)=0:=eq_of_beq h1
 exact List.length_eq_zero_iff.1 (by omega)
noncomputable def bodyP (d:Dcl) (env:List Dcl) (M:Qc Dx Ent):Option Int :=
 Option.bind (cond (d.kind != 4) (Option.bind (KC d.ty 0 d.params env M gmNil) (Sum.elim (fun (x10:Unit)=>some (.inl ())) (fun (x11:Int)=>some (.inr x11)))) (some (.inl ())))
  (Sum.elim (fun (v7:Unit)=>Option.bind (cond (d.kind==1) (some true) (some (d.kind==2))) (fun (v8:Bool)=>Zp v8 d env M)) (fun o=>some o))
theorem body_eq (env:List Dcl) (d:Dcl) (M:Qc Dx Ent) (hM:Bk env M) (he:YD env≤800000000) (hd:d.size≤800000000) (hnd:(Ji d).Nodup) (h0:0≤d.kind) (h4:d.kind≤4) (hu:XX d=true) :
  ∃ e:Int,m53 env d=some e∧bodyP d env M=some e:=by
 have hS:Sok ⟨env,[],d⟩ M gmNil:=⟨he,by simp,hd,hM,Ow.nil _ _⟩
 have hty:=ty_size d
 have hva:=value_size d
 have rest:∃ e:Int,Option.bind (cond (d.kind==1) (some (d.kind==1)) (some (d.kind==2))) (fun (v4:Bool)=>KS v4 env d)=some e∧Option.bind (cond (d.kind==1) (some true) (some (d.kind==2))) (fun (v8:Bool)=>Zp v8 d env M)=some e:=by
  have e1:(cond (d.kind==1) (some (d.kind==1)) (some (d.kind==2)))=some (decide (d.kind=1∨d.kind=2)):=by
   rw [Y9,Y9]
   by_cases c1:d.kind=1
   ·rw [decide_eq_true c1,decide_eq_true (Or.inl c1)];rfl
   ·rw [decide_eq_false c1]
    show some (decide (d.kind=2))=_
    congr 2
    rw [eq_iff_iff]
    exact ⟨.inr,fun h=>h.resolve_left c1⟩
  have e2:(cond (d.kind==1) (some true) (some (d.kind==2)))=some (decide (d.kind=1∨d.kind=2)):=by
   rw [← e1]
   cases h:(d.kind==1) <;> rfl
  rw [e1,e2]
  show ∃ e:Int,KS (decide (d.kind=1∨d.kind=2)) env d=some e∧Zp (decide (d.kind=1∨d.kind=2)) d env M=some e
  by_cases c:d.kind=1∨d.kind=2
  ·rw [decide_eq_true c]
   have hf:=used_funs hu (by omega)
   obtain ⟨e,w1,w2,w3⟩:=Xj ⟨env,[],d⟩ M gmNil hS d.value 0 d.params (by omega)
   unfold KS Zp
   simp only [cond_true]
   rw [w1]
   by_cases he0:e=0
   ·have w4:=w2 he0
    rw [w4]
    simp only [Option.bind_some,Sum.elim_inl]
    rw [k7_nil env d M hd hnd hf (by omega)]
    exact ⟨e,rfl,by rw [he0]⟩
   ·have w4:=w3 he0
    rw [w4];exact ⟨e,rfl,rfl⟩
  ·rw [decide_eq_false c]
   unfold Zp
   simp only [cond_false,Option.bind_some,Sum.elim_inl]
   by_cases c3:d.kind=3
   ·exact k7_ind env d M hM he hd hnd (used_funs hu (by omega)) c3
   ·by_cases c4:d.kind=4
    ·exact k7_fam env d M hM he hd hnd c4
    ·rw [k7_nil env d M hd hnd (used_funs hu c4) c3]
     unfold KS
     rw [Y9,decide_eq_false c3,Y9,decide_eq_false c4]
     exact ⟨0,Z,Z⟩
 unfold m53 bodyP
 by_cases c4:d.kind=4
 ·rw [show (d.kind != 4)=false from by rw [c4];rfl]
  exact rest
 ·rw [show (d.kind != 4)=true from bne_iff_ne.2 c4]
  simp only [cond_true]
  obtain ⟨e,w1,w2,w3⟩:=Xj ⟨env,[],d⟩ M gmNil hS d.ty 0 d.params (by omega)
  rw [w1]
  by_cases he0:e=0
  ·have w4:=w2 he0
   rw [w4];subst he0;exact rest
  ·have w4:=w3 he0
   rw [w4]
   simp only [Option.bind_some,Ww he0,cond_true]
   exact ⟨e,Z,Z⟩
theorem dcl_eq (env:List Dcl) (d:Dcl) (M:Qc Dx Ent) (hM:Bk env M) (he:YD env≤800000000) (hd:d.size≤800000000) (hr:XV d.rcr.params) :
  ∃ e:Int,Ur env d=some e∧Xy d env M=some e∧(e=0→NmOk env d):=by
 unfold Ur
 by_cases c1:d.kind < 0
 ·have:Xy d env M=some 1:=by unfold Xy W0;rw [decide_eq_false (show ¬ 0≤d.kind by omega)];rfl
  rw [decide_eq_true c1,this]
  exact ⟨1,rfl,rfl,fun h=>by omega⟩
 rw [decide_eq_false c1]
 by_cases c2:4 < d.kind
 ·have:Xy d env M=some 1:=by unfold Xy W0;rw [decide_eq_true (show 0≤d.kind by omega),decide_eq_false (show ¬ d.kind≤4 by omega)];rfl
  rw [decide_eq_true c2,this]
  exact ⟨1,rfl,rfl,fun h=>by omega⟩
 rw [decide_eq_false c2]
 show ∃ e:Int,m32_k0 false d env=some e∧_
 unfold m32_k0 Xy
 rw [m44_used d (by omega) (by omega),m50_eq d (by omega) (by omega)]
 cases hu:XX d with
 | false=>exact ⟨3,rfl,rfl,fun h=>by omega⟩
 | true =>
  simp only [cond_false,cond_true,Option.bind_some,Bool.not_true]
  obtain ⟨e,h1,h2,h3⟩:=k4_eq d (by omega) hr
  rw [h1]
  by_cases he0:e ≠ 0
  ·rw [h3 he0]
   simp only [Option.bind_some,Ww he0,cond_true]
   exact ⟨e,Z,Z,fun h=>(he0 h).elim⟩
  have he0':=Decidable.not_not.1 he0
  rw [h2 he0']
  subst he0'
  obtain ⟨e,h4,⟨h5,h6⟩,h7⟩:=names_ok env d M hM he hd
  show ∃ e:Int,Option.bind (m52 env d) _=some e∧Option.bind (Wy d env M) _=some e∧_
  rw [h4]
  by_cases he1:e ≠ 0
  ·rw [h6 he1]
   simp only [Option.bind_some,Ww he1,cond_true]
   exact ⟨e,Z,Z,fun h=>(he1 h).elim⟩
  have he1':=Decidable.not_not.1 he1
  rw [h5 he1']
  subst he1'
  have h8:=h7 rfl
  obtain ⟨e,h10,h11⟩:=body_eq env d M hM he hd h8.1 (by omega) (by omega) hu
  show ∃ e:Int,Option.bind (m53 env d) _=some e∧bodyP d env M=some e∧_
  rw [h10,h11]
  exact ⟨e,Z,Z,fun _=>h8⟩
theorem envSz_app (a b:List Dcl):YD (a++b)=YD a+YD b:=by unfold YD;rw [List.map_append,List.sum_append]
def OkD (a:List Dcl) (x:Dcl):Prop:=Ur a x=some 0∧NmOk a x
def Good (l:List Dcl):Prop:=∀ a x b,l=a++x::b→OkD a x
theorem snoc_split {α:Type} {a a' b':List α} {x y:α} (h:a++[x]=a'++y::b'):(a'=a∧y=x)∨∃ c,a=a'++y::c:=by
 rcases List.append_eq_append_iff.1 h with ⟨c,h1,h2⟩ | ⟨c,h1,h2⟩
 ·cases c with
  | nil =>
   rw [List.nil_append] at h2
   cases h2
   rw [List.append_nil] at h1
   exact .inl ⟨h1,Z⟩
  | cons z c =>
   exfalso
   have:=congrArg List.length h2
   simp at this
 ·cases c with
  | nil =>
   rw [List.nil_append] at h2
   cases h2
   rw [List.append_nil] at h1
   exact .inl ⟨h1.symm,Z⟩
  | cons z c =>
   rw [List.cons_append] at h2
   cases h2
   exact .inr ⟨c,h1⟩
theorem Good.nil:Good []:=fun a x b h=>by cases a <;> cases h
theorem Good.snoc {a:List Dcl} {x:Dcl} (h:Good a) (hx:OkD a x):Good (a++[x]):=fun a' y b' e=>by
 rcases snoc_split e with ⟨rfl,rfl⟩ | ⟨c,e⟩
 ·exact hx
 ·exact h a' y c e
theorem check_is (env:List Dcl) (he:YD env≤800000000) (hr:∀ d∈env,XV d.rcr.params):∃ r,WY env=some r∧m12 env=some r ∧
  (env.length≤1000→(r=(0,0)∧Good env)∨∃ a x b e,env=a++x::b∧Good a∧Ur a x=some e∧e ≠ 0∧r=((a.length:Int),e)):=by
 have hl:=env_len env
 unfold WY m12
 by_cases hc:1000 < (env.length:Int)
 ·rw [decide_eq_true hc];exact ⟨_,rfl,rfl,fun h=>by omega⟩
 ·rw [decide_eq_false hc]
  simp only [cond_false]
  obtain ⟨r1,r2,h1,h2,h3⟩:=loop2 (β1:=Unit⊕(Int×Int)) (β2:=((Qc Dx Ent)×(List Dcl))⊕(Int×Int)) (step1:=Wm env) (step2:=Xp env) env (fun i (_:Unit)=>i) (fun i (s:(Qc Dx Ent)×(List Dcl))=>(i,s.1,s.2))
   (fun a _ s=>Bk a s.1∧Good a) (fun r1 r2=>(r1=.inl ()∧(∃ s,r2=.inl s)∧Good env)∨∃ a x b e,env=a++x::b∧Good a∧Ur a x=some e∧e ≠ 0∧r1=.inr ((a.length:Int),e)∧r2=.inr ((a.length:Int),e)) (by omega)
   (fun a x b _ s e hI=>by
    obtain ⟨q1,q2⟩:=YB e
    have hm:=Gk e
    have hsz:YD a+x.size≤800000000:=by
     rw [e,envSz_app] at he
     have:YD (x::b)=x.size+YD b:=rfl
     omega
    obtain ⟨ec,w1,w2,w3⟩:=dcl_eq a x s.1 hI.1 (by omega) (by omega) (hr x (by rw [e];simp))
    have g1:∀ {α:Type} (o:Option α),Jl (cond (decide ((0:Int)≤(a.length:Int))) (Nat.ble ((a.length:Int)).toNat env.length) false) o=o:=fun o=>by
     rw [decide_eq_true (show (0:Int)≤(a.length:Int) by omega),cond_true]
     show Jl (Nat.ble a.length env.length) o=o
     rw [JX (by omega)]
    have g2:env.take ((a.length:Int)).toNat=a:=take_mid e
    unfold Wm Xp
    dsimp only
    rw [q1,q2,g2]
    simp only [cond_true,Option.bind_some]
    rw [g1,g1,w1,w2]
    by_cases he0:ec=0
    ·have hok:=w3 he0
     obtain ⟨M',n1,n2⟩:=decl_next x a s.1 s.2 (by omega) hok.1
     subst he0
     simp only [Option.bind_some]
     refine .inr ⟨(),(M',a),Z,?_,hI.1.next n2 hok.2.1,hI.2.snoc ⟨w1,hok⟩⟩
     show Option.bind (Option.bind (cond (x.kind==0) (some (x.kind==0)) (cond (x.kind==1) (some (x.kind==1)) (some (x.kind==2)))) (fun (v12:Bool)=>Wn v12 x ((a.length:Int),s.1,s.2))) _=_
     rw [n1];rfl
    ·simp only [Option.bind_some,Ww he0,cond_true]
     exact .inl ⟨_,_,Z,Z,.inr ⟨a,x,b,ec,e,hI.2,w1,he0,Z,Z⟩⟩)
   (fun _ s hI=>⟨.inl (),.inl s,by unfold Wm;rw [Je];rfl,by unfold Xp;dsimp only;rw [Je];rfl,.inl ⟨rfl,⟨s,rfl⟩,hI.2⟩⟩) () (gmNil,[]) ⟨fun n=>rfl,Good.nil⟩
  have h1':Qr (Wm env) QI 0=some r1:=h1
  have h2':Qr (Xp env) QI (0,gmNil,([]:List Dcl))=some r2:=h2
  rw [h1',h2']
  rcases h3 with ⟨rfl,⟨s,rfl⟩,h3⟩ | ⟨a,x,b,e,h4,h5,h6,h7,rfl,rfl⟩
  ·exact ⟨_,rfl,rfl,fun _=>.inl ⟨rfl,h3⟩⟩
  ·exact ⟨_,rfl,rfl,fun _=>.inr ⟨a,x,b,e,h4,h5,h6,h7,rfl⟩⟩
end Go.Proofs.Ytafddfoefeploaa
namespace Go.Proofs.Ytafddfoefeploaa
open Go.RowKit
section
variable {E:Env} {st:St} {d:Option Tmp} {ty:TypeId} {pos:String} {af:Array Edge} {g:Option (Nat×Bool)}
theorem OpOK.data4E {α:Type} [Enc α] (v1 v2 v3 v4:α) {t e:Nat} {zs:List Value} {o1 o2 o3 o4:Operand} {x1 x2 x3 x4:AV} {ys:List CA} (ht:Jp E.P t=some (e,Enc.sz α)) (hze:Jz E.P e=some zs) (hzl:zs.length=Enc.sz α) (hz:zs.all (·.oneCell')=true) (hlen:4 * Enc.sz α≤16777216)
  (h1:ev st.tm o1=some (.v x1)) (h2:ev st.tm o2=some (.v x2)) (h3:ev st.tm o3=some (.v x3)) (h4:ev st.tm o4=some (.v x4)) (hf:Zd (JE (Enc.sz α) 4) (JI zs 4) [(0,x1),(1,x2),(2,x3),(3,x4)]=some ys) (hs:CSubs ys (Enc.enc v1++(Enc.enc v2++(Enc.enc v3++(Enc.enc v4))))) (hel:(Enc.enc v1).length=Enc.sz α∧(Enc.enc v2).length=Enc.sz α∧(Enc.enc v3).length=Enc.sz α∧(Enc.enc v4).length=Enc.sz α) :
  OpOK E ⟨d,.buildSlice t 4 #[(0,o1),(1,o2),(2,o3),(3,o4)],ty,pos,af,g⟩ st (.v (.one (.d (.sl (Enc.sz α) (Enc.encL [v1,v2,v3,v4]))))) ⟨st.hp,st.tk,st.nx⟩ :=
 OpOK.litData (avs:=[(0,x1),(1,x2),(2,x3),(3,x4)]) (Enc.encL [v1,v2,v3,v4]) ht hze hzl hz hlen rfl (fun j i x hx=>by
  match j,hx with
  | 0,hx=>cases hx;exact ⟨o1,rfl,h1⟩
  | 1,hx=>cases hx;exact ⟨o2,rfl,h2⟩
  | 2,hx=>cases hx;exact ⟨o3,rfl,h3⟩
  | 3,hx=>cases hx;exact ⟨o4,rfl,h4⟩) hf (by rw [Enc.cons,Enc.cons,Enc.cons,Enc.one];simpa using hs) (fun x hx=>by
   rw [Enc.cons,Enc.cons,Enc.cons,Enc.one] at hx;simp at hx
   rcases hx with rfl | rfl | rfl | rfl
   ·exact hel.1
   ·exact hel.2.1
   ·exact hel.2.2.1
   ·exact hel.2.2.2) (by rw [Enc.len];rfl)
end
end Go.Proofs.Ytafddfoefeploaa
namespace Go.Proofs.Ytafddfoefeploaa
open Go.RowKit Go.Shelf
theorem bd_42:Y0 Try.prog 42 [(0,1),(1,5),(6,1)] [.int .i64 0,.int .i64 0,.int .i64 0,.string ByteArray.empty,.slice none 0 0,.slice none 0 0,.slice none 0 0]:=⟨by kernel_rfl,by kernel_rfl⟩
theorem bd_71:Y0 Try.prog 71 [(0,1),(1,5)] [.string ByteArray.empty,.int .i64 0,.int .i64 0,.string ByteArray.empty,.slice none 0 0,.slice none 0 0]:=⟨by kernel_rfl,by kernel_rfl⟩
theorem bd_87:Y0 Try.prog 87 [(0,1),(1,1)] [.int .i64 0,.slice none 0 0]:=⟨by kernel_rfl,by kernel_rfl⟩
theorem en_10:J3 Try.prog 10:=enters_of Try.func10 (by kernel_rfl) rfl
theorem en_26:J3 Try.prog 26:=enters_of Try.func26 (by kernel_rfl) rfl
theorem en_28:J3 Try.prog 28:=enters_of Try.func28 (by kernel_rfl) rfl
theorem en_29:J3 Try.prog 29:=enters_of Try.func29 (by kernel_rfl) rfl
def UM (a0:Dx):Option Tm :=
 some (Tm.mk 3 0 a0 ([]:List Lvl) ([]:List Tm))
theorem m29_ok (a0:Dx) (r:Tm) (h0:UM a0=some r):Fun Try.prog 29 [.one (Jm a0)] (QN [.agg (Dk r)]):=by
 unfold UM at h0
 refine QT 9 5 Try.func29 Z en_29 Z (D6 Z) (fun S w=>?_)
 simp only [Ja]
 refine Q6<|Q0<|Q9 Z Z (D6 Z) (Qm KV Z)<|Q3<|Q4<|Q6<|Q0<|UV Z Z Z<|UU Z Z Z (Jk bd_33 Z Z Z Z)<|Qy Z Z (Qu QW Z Z Z Z (D6 Z) Z)<|Q3<|Q4<|QB ?_
 have e:=US h0;subst e
 exact QJ (fun _ _ h=>h) Z (YW QW Z Z Z Z .nil) (.cons (.agg (.cons (.d _) (.cons (.d _) (.cons (.d _) (.cons (.nil _) (.cons (.nil _) .nil)))))) .nil)
def m28 (a0:Tm) (a1:Tm):Option Tm :=
 some (Tm.mk 6 0 ([]:List UInt8) ([]:List Lvl) [a0,a1])
theorem m28_ok (a0:Tm) (a1:Tm) (r:Tm) (h0:m28 a0 a1=some r):Fun Try.prog 28 [.agg (Dk a0),.agg (Dk a1)] (QN [.agg (Dk r)]):=by
 unfold m28 at h0
 refine QT 9 9 Try.func28 Z en_28 Z (D6 Z) (fun S w=>?_)
 simp only [Ja]
 refine Q6<|Q0<|Q9 Z Z (D6 Z) (QU Z)<|Q9 Z Z (D6 Z) (QU Z)<|Q9 Z Z (D6 Z) (Qm KV Z)<|Q3<|Q4<|Q6<|Q0<|UU Z Z Z (QM (a0:Tm) QW Z Z)<|UU Z Z Z (QM (a1:Tm) QW Z Z)<|Q9 Z Z (D6 Z) (OpOK.lit2E (α:=Tm) a0 a1 Jx KV Z Z (D6 Z) (D6 Z) Z Z Z (.cons (.d _) (.cons (.d _) (.cons (.d _) (.cons (.d _) (.cons (.d _) (.cons (.d _) (.cons (.d _) (.cons (.d _) (.cons (.d _) (.cons (.d _) .nil)))))))))) ⟨Z,Z⟩)<|UU Z Z Z (Jk bd_33 Z Z Z Z)<|Qy Z Z (Qu QW Z Z Z Z (D6 Z) Z) ?_
 refine Q3<|Q4<|QB ?_
 have e:=US h0;subst e
 exact QJ (fun _ _ h=>h) Z (YW QW Z Z Z Z .nil) (.cons (.agg (.cons (.d _) (.cons (.d _) (.cons (.d _) (.cons (.nil _) (.cons (.app _ _ _) .nil)))))) .nil)
noncomputable abbrev m26_h0 (p0_:Tm) (p1_:Tm):HB :=
 .cells 45 [Dh 3,Jm ([78,97,116]:List UInt8),Dh 0,Dh 2,Dh 0,Jm ([]:List UInt8),Dj 2 ([(⟨0,([]:List Dv)⟩:Lvl)]:List Lvl),Dg,Dh 0,Dh 0,Jm ([]:List UInt8),Dg,Dg,Dh 0,Df ([(⟨([78,97,116,46,122,101,114,111]:List UInt8),p0_⟩:Ctr),(⟨([78,97,116,46,115,117,99,99]:List UInt8),p1_⟩:Ctr)]:List Ctr),Dh 1,Dh p0_.kind,Dh p0_.index,Jm p0_.name,Df p0_.levels,Df p0_.kids,Df ([p0_,p0_]:List Tm),Dg]
noncomputable abbrev m26_h1 :HB :=
 .cells 33 [Dh 2,Dh 0,Jm ([]:List UInt8),Dj 2 ([(⟨0,([]:List Dv)⟩:Lvl)]:List Lvl),Dg]
def m26 :Option Dcl :=
 Option.bind (UM ([78,97,116]:List UInt8)) fun (x1:Tm) =>
 Option.bind (m28 x1 x1) fun (x2:Tm) =>
 some (⟨3,([78,97,116]:List UInt8),0,(Tm.mk 2 0 ([]:List UInt8) [(⟨0,([]:List Dv)⟩:Lvl)] ([]:List Tm)),(Tm.mk 0 0 ([]:List UInt8) ([]:List Lvl) ([]:List Tm)),0,[(⟨([78,97,116,46,122,101,114,111]:List UInt8),x1⟩:Ctr),(⟨([78,97,116,46,115,117,99,99]:List UInt8),x2⟩:Ctr)],(⟨1,x1,[x1,x1]⟩:Rcr),([]:List Fn)⟩:Dcl)
theorem m26_ok  (r:Dcl) (h0:m26 =some r):Fun Try.prog 26 [] (QN [.agg (Dk r)]):=by
 unfold m26 at h0
 refine QT 9 21 Try.func26 Z en_26 Z (D6 Z) (fun S w=>?_)
 simp only [Ja]
 refine Q6<|Q0<|Q9 Z Z (D6 Z) (Qm Wv Z)<|Q3<|Q4<|Q6<|Q0 ?_
 refine Qd h0 (fun x1 hx1 h0=>?_)
 refine Q9 Z Z (D6 Z) (Qp (m29_ok ([78,97,116]:List UInt8) x1 hx1) Z (.cons (.one (.d _)) .nil))<|Q9 Z Z (D6 Z) (Qm KV Z)<|Qy Z Z (QD (x1:Tm) QW Z Z Z Z Z)<|Q3<|Q4<|Q6<|Q0<|UU Z Z Z (Gj bd_87 Z )<|Q9 Z Z (D6 Z) (Yt (α:=Lvl) ((⟨0,([]:List Dv)⟩:Lvl)) YZ WZ Z Z (D6 Z) (D6 Z) Z Z (.cons (.d _) (.cons (.nil _) .nil)) Z)<|UU Z Z Z (Jk bd_33 Z Z Z Z)<|Q9 Z Z (D6 Z) (Qm KV Z)<|Qy Z Z (Qu QW Z Z Z Z (D6 Z) Z)<|Q3<|Q4 ?_
 refine Q6 ?_
 refine Jt [14] [] YP (by kernel_rfl) (by kernel_rfl) (by kernel_rfl) ?_
 refine RunA.rd Z Z Z (Q1 (Qi QW Z Z Z Z)) Z<|RunA.rd Z Z Z (Q1 (QM (x1:Tm) QW Z Z)) Z<|RunA.rd Z Z Z (Q1 (Jk bd_71 Z Z Z Z)) Z<|RunA.rd Z Z Z (Q1 (QM (x1:Tm) QW Z Z)) Z<|RunA.rd Z Z Z (Q1 (QM (x1:Tm) QW Z Z)) Z ?_
 refine Qd h0 (fun x2 hx2 h0=>?_)
 refine RunA.rd Z Z Z (Qp (m28_ok x1 x1 x2 hx2) Z (.cons (.agg (.cons (.d _) (.cons (.d _) (.cons (.d _) (.cons (.d _) (.cons (.d _) .nil)))))) (.cons (.agg (.cons (.d _) (.cons (.d _) (.cons (.d _) (.cons (.d _) (.cons (.d _) .nil)))))) .nil))) Z<|RunA.rd Z Z Z (Q1 (Jk bd_71 Z Z Z Z)) Z<|RunA.rd Z Z Z (OpOK.data2E (α:=Ctr) (⟨([78,97,116,46,122,101,114,111]:List UInt8),x1⟩:Ctr) (⟨([78,97,116,46,115,117,99,99]:List UInt8),x2⟩:Ctr) YC WD Z Z (D6 Z) Z Z Z (.cons (.d _) (.cons (.d _) (.cons (.d _) (.cons (.d _) (.cons (.d _) (.cons (.d _) (.cons (.d _) (.cons (.d _) (.cons (.d _) (.cons (.d _) (.cons (.d _) (.cons (.d _) .nil)))))))))))) ⟨Z,Z⟩) Z<|RunA.rd Z Z Z (Q1 (QM (x1:Tm) QW Z Z)) Z<|RunA.rd Z Z Z (Q1 (QM (x1:Tm) QW Z Z)) Z<|RunA.rd Z Z Z (Q1 (QM (x1:Tm) QW Z Z)) Z<|RunA.rd Z Z Z (OpOK.data2E (α:=Tm) x1 x1 Jx KV Z Z (D6 Z) Z Z Z (.cons (.d _) (.cons (.d _) (.cons (.d _) (.cons (.d _) (.cons (.d _) (.cons (.d _) (.cons (.d _) (.cons (.d _) (.cons (.d _) (.cons (.d _) .nil)))))))))) ⟨Z,Z⟩) Z<|RunA.rd Z Z Z (Q1 (ZD bd_42 Z Z Z Z Z)) Z<|RunA.rd Z Z Z (Q1 (JM bd_45 Z (.cons Z (.cons Z (.cons Z (.cons Z (.cons Z .nil))))) Z)) Z<|RunA.eff Z Z Z (YM JN Z Z Z Z Z Z) Z ?_
 refine RunA.nil ⟨?ex,_,_,Z,?_⟩
 case ex=>exact trivial
 refine JW (st':=⟨[(0,.v (.one (.ptr 0 0)))],[(0,m26_h0 x1 x2),(1,.cells 33 (Dk x1)),(3,m26_h1)],[(2,some ⟨87,2,(Enc.encL ([(⟨0,([]:List Dv)⟩:Lvl)]:List Lvl)).length,[]⟩)],4,21,[]⟩) (UR (Nat.zero_le _) Z Z Z Z Z)<|Q4<|QB ?_
 have e:=US h0;subst e
 exact QJ (fun _ _ h=>h) Z (YW JN Z Z Z Z .nil) (.cons (.agg (.cons (.d _) (.cons (.d _) (.cons (.d _) (.cons (.d _) (.cons (.d _) (.cons (.d _) (.cons (.app _ _ _) (.cons (.nil _) (.cons (.d _) (.cons (.d _) (.cons (.d _) (.cons (.nil _) (.cons (.nil _) (.cons (.d _) (.cons (.d _) (.cons (.d _) (.cons (.d _) (.cons (.d _) (.cons (.d _) (.cons (.d _) (.cons (.d _) (.cons (.d _) (.cons (.nil _) .nil)))))))))))))))))))))))) .nil)
noncomputable abbrev m10_h0 (p0_:Dcl) (p1_:Ent×Int) (p2_:Dcl×Int×Bool):List (Nat×HB) :=
 [(0,.cells 45 (Dk p0_)),(4,.cells 35 (Dk p1_.1)),(6,.cells 45 (Dk p2_.1))]
noncomputable def m10 :Option Bool :=
 Option.bind (m26 ) fun (x1:Dcl) =>
 Option.bind (UC x1) fun (x2:(List Dx)) =>
 Option.bind (WY ([x1])) fun (x3:Int×Int) =>
 Option.bind (WY ([x1,x1])) fun (x4:Int×Int) =>
 Option.bind (m14 ([x1]) ([78,97,116,46,115,117,99,99]:List UInt8)) fun (x5:Ent×Int) =>
 Option.bind (m16 ([x1]) ([78,97,116,46,114,101,99]:List UInt8)) fun (x6:Dcl×Int×Bool) =>
 Option.bind (Option.bind (m22 x2 ([([78,97,116]:List UInt8),([78,97,116,46,122,101,114,111]:List UInt8),([78,97,116,46,115,117,99,99]:List UInt8),([78,97,116,46,114,101,99]:List UInt8)])) fun (x8:Bool) =>
 cond x8
   (cond (x3.2==0)
   (cond (x4.1==1)
   (cond (x4.2==8)
   (cond (x5.2==0)
   (cond (x5.1.kind==4)
   (cond (x5.1.decl==0)
   (cond (x5.1.item==1)
   (cond (x5.1.params==0)
   (Option.bind (UM ([78,97,116]:List UInt8)) fun (x18:Tm) =>
 Option.bind (UM ([78,97,116]:List UInt8)) fun (x19:Tm) =>
 Option.bind (m28 x18 x19) fun (x20:Tm) =>
 Option.bind (Us x5.1.ty x20) fun (x21:Bool) =>
 cond x21
   (cond x6.2.2
   (some (x6.2.1==(-2)))
   (some false))
   (some false))
   (some false))
   (some false))
   (some false))
   (some false))
   (some false))
   (some false))
   (some false))
   (some false))
   (some false)) (fun (v7:Bool)=>some v7)
theorem m10_ok  (r:Bool) (h0:m10 =some r):Fun Try.prog 10 [] (QN [.one (Di r)]):=by
 unfold m10 at h0
 refine QT 9 95 Try.func10 Z en_10 Z (D6 Z) (fun S w=>?_)
 simp only [Ja]
 refine Q6<|Q0<|UW Z Z Z<|Q3<|Q4<|Q6<|Q0 ?_
 refine Qd h0 (fun x1 hx1 h0=>?_)
 refine Q9 Z Z (D6 Z) (Qp (m26_ok  x1 hx1) Z .nil)<|Q9 Z Z (D6 Z) (Qm Wv Z)<|Qy Z Z (QD (x1:Dcl) JN Z Z Z Z Z)<|Q3<|Q4<|Q6<|Q0<|UU Z Z Z (QM (x1:Dcl) JN Z Z) ?_
 refine Qd h0 (fun x2 hx2 h0=>?_)
 refine Q9 Z Z (D6 Z) (Qp (m20_ok x1 x2 hx2) Z (.cons (.agg (.cons (.d _) (.cons (.d _) (.cons (.d _) (.cons (.d _) (.cons (.d _) (.cons (.d _) (.cons (.d _) (.cons (.d _) (.cons (.d _) (.cons (.d _) (.cons (.d _) (.cons (.d _) (.cons (.d _) (.cons (.d _) (.cons (.d _) (.cons (.d _) (.cons (.d _) (.cons (.d _) (.cons (.d _) (.cons (.d _) (.cons (.d _) (.cons (.d _) (.cons (.d _) .nil)))))))))))))))))))))))) .nil))<|UW Z Z Z<|Q3<|Q4<|Q6<|Q0<|UU Z Z Z (QM (x1:Dcl) JN Z Z)<|Q9 Z Z (D6 Z) (OpOK.lit1CE (x1:Dcl) Z0 Wv Z Z (D6 Z) Z) ?_
 refine Qd h0 (fun x3 hx3 h0=>?_)
 refine Q9 Z Z (D6 Z) (Qp (m11_ok ([x1]) x3 hx3) Z (.cons (.one (.app _ _ _)) .nil))<|UV Z Z Z<|UU Z Z Z (J4 Z Z)<|UU Z Z Z (J4 Z Z)<|UW Z Z Z<|UW Z Z Z<|Q3<|Q4<|Q6<|Q0<|UU Z Z Z (QM (x1:Dcl) JN Z Z)<|UU Z Z Z (QM (x1:Dcl) JN Z Z)<|Q9 Z Z (D6 Z) (OpOK.lit2CE (x1:Dcl) (x1:Dcl) Z0 Wv Z Z (D6 Z) Z Z) ?_
 refine Qd h0 (fun x4 hx4 h0=>?_)
 refine Q9 Z Z (D6 Z) (Qp (m11_ok ([x1,x1]) x4 hx4) Z (.cons (.one (.app _ _ _)) .nil))<|UV Z Z Z<|UU Z Z Z (J4 Z Z)<|UU Z Z Z (J4 Z Z)<|UW Z Z Z<|UW Z Z Z<|Q3<|Q4<|Q6<|Q0<|UU Z Z Z (QM (x1:Dcl) JN Z Z)<|Q9 Z Z (D6 Z) (OpOK.lit1CE (x1:Dcl) Z0 Wv Z Z (D6 Z) Z) ?_
 refine Qd h0 (fun x5 hx5 h0=>?_)
 refine Q9 Z Z (D6 Z) (Qp (m14_ok ([x1]) ([78,97,116,46,115,117,99,99]:List UInt8) x5 hx5) Z (.cons (.one (.app _ _ _)) (.cons (.one (.d _)) .nil)))<|UV Z Z Z<|UU Z Z Z (J4 Z Z)<|UU Z Z Z (J4 Z Z)<|Q9 Z Z (D6 Z) (Qm Zg Z)<|Qy Z Z (QD (x5.1:Ent) Jf Z Z Z Z Z)<|UW Z Z Z<|Q3<|Q4<|Q6<|Q0<|UU Z Z Z (QM (x1:Dcl) JN Z Z)<|Q9 Z Z (D6 Z) (OpOK.lit1CE (x1:Dcl) Z0 Wv Z Z (D6 Z) Z) ?_
 refine Qd h0 (fun x6 hx6 h0=>?_)
 refine Q9 Z Z (D6 Z) (Qp (m16_ok ([x1]) ([78,97,116,46,114,101,99]:List UInt8) x6 hx6) Z (.cons (.one (.app _ _ _)) (.cons (.one (.d _)) .nil)))<|UV Z Z Z<|UU Z Z Z (J4 Z Z)<|UU Z Z Z (J4 Z Z)<|UU Z Z Z (J4 Z Z)<|Q9 Z Z (D6 Z) (Qm Wv Z)<|Qy Z Z (QD (x6.1:Dcl) JN Z Z Z Z Z)<|UW Z Z Z<|UW Z Z Z<|Q3<|Q4<|Q6 ?_
 refine QP (fun (v7:Bool)=>⟨[(0,.v (.one (Di v7)))],m10_h0 x1 x5 x6,[(1,some ⟨45,23,(Enc.encL ([x1]:List Dcl)).length,[]⟩),(2,some ⟨45,23,(Enc.encL ([x1,x1]:List Dcl)).length,[]⟩),(3,some ⟨45,23,(Enc.encL ([x1]:List Dcl)).length,[]⟩),(5,some ⟨45,23,(Enc.encL ([x1]:List Dcl)).length,[]⟩)],7,95,[]⟩) (fun (v7:Bool)=>(some v7)=some r) ?_ ?_
 refine Qd h0 (fun w1_ h1 h0=>?_)
 refine Jt [] [] YP (by kernel_rfl) (by kernel_rfl) (by kernel_rfl) ?_
 refine RunA.rd Z Z Z (Q1 (Qo Z)) Z<|RunA.rd Z Z Z (OpOK.data4E (α:=Dx) ([78,97,116]:List UInt8) ([78,97,116,46,122,101,114,111]:List UInt8) ([78,97,116,46,115,117,99,99]:List UInt8) ([78,97,116,46,114,101,99]:List UInt8) Zy Uv Z Z (D6 Z) Z Z Z Z Z (.cons (.d _) (.cons (.d _) (.cons (.d _) (.cons (.d _) .nil)))) ⟨Z,Z,Z,Z⟩) Z ?_
 refine Qd h1 (fun x8 hx8 h1=>?_)
 refine RunA.rd Z Z Z (Qp (m22_ok x2 ([([78,97,116]:List UInt8),([78,97,116,46,122,101,114,111]:List UInt8),([78,97,116,46,115,117,99,99]:List UInt8),([78,97,116,46,114,101,99]:List UInt8)]) x8 hx8) Z (.cons (.one (.d _)) (.cons (.one (.d _)) .nil))) Z ?_
 refine JL (c:=x8) Z Z Z (Q1 (Qo Z)) Z (fun c9=>?_) (fun c9=>?_)
 replace h1:=Qj c9 h1
 refine RunA.rd Z Z Z (Q1 (Qo Z)) Z<|RunA.rd Z Z Z (Q1 (Q7 Z Z Z)) Z<|RunA.rd Z Z Z (Q1 (Qe Z Z)) Z ?_
 refine JL (c:=(x3.2==0)) Z Z Z (Q1 (Qo Z)) Z (fun c10=>?_) (fun c10=>?_)
 replace h1:=Qj c10 h1
 refine RunA.rd Z Z Z (Q1 (Qo Z)) Z<|RunA.rd Z Z Z (Q1 (Q7 Z Z Z)) Z<|RunA.rd Z Z Z (Q1 (Qe Z Z)) Z ?_
 refine JL (c:=(x4.1==1)) Z Z Z (Q1 (Qo Z)) Z (fun c11=>?_) (fun c11=>?_)
 replace h1:=Qj c11 h1
 refine RunA.rd Z Z Z (Q1 (Qo Z)) Z<|RunA.rd Z Z Z (Q1 (Q7 Z Z Z)) Z<|RunA.rd Z Z Z (Q1 (Qe Z Z)) Z ?_
 refine JL (c:=(x4.2==8)) Z Z Z (Q1 (Qo Z)) Z (fun c12=>?_) (fun c12=>?_)
 replace h1:=Qj c12 h1
 refine RunA.rd Z Z Z (Q1 (Qo Z)) Z<|RunA.rd Z Z Z (Q1 (Q7 Z Z Z)) Z<|RunA.rd Z Z Z (Q1 (Qe Z Z)) Z ?_
 refine JL (c:=(x5.2==0)) Z Z Z (Q1 (Qo Z)) Z (fun c13=>?_) (fun c13=>?_)
 replace h1:=Qj c13 h1
 refine RunA.rd Z Z Z (Q1 (Q2 Zr Z)) Z<|RunA.rd Z Z Z (Q1 (Q5 QO Z Z Z)) Z<|RunA.rd Z Z Z (Q1 (Q7 Z Z Z)) Z<|RunA.rd Z Z Z (Q1 (Qe Z Z)) Z ?_
 refine JL (c:=(x5.1.kind==4)) Z Z Z (Q1 (Qo Z)) Z (fun c14=>?_) (fun c14=>?_)
 replace h1:=Qj c14 h1
 refine RunA.rd Z Z Z (Q1 (Q2 XD Z)) Z<|RunA.rd Z Z Z (Q1 (Q5 QO Z Z Z)) Z<|RunA.rd Z Z Z (Q1 (Q7 Z Z Z)) Z<|RunA.rd Z Z Z (Q1 (Qe Z Z)) Z ?_
 refine JL (c:=(x5.1.decl==0)) Z Z Z (Q1 (Qo Z)) Z (fun c15=>?_) (fun c15=>?_)
 replace h1:=Qj c15 h1
 refine RunA.rd Z Z Z (Q1 (Q2 fo_35_2 Z)) Z<|RunA.rd Z Z Z (Q1 (Q5 QO Z Z Z)) Z<|RunA.rd Z Z Z (Q1 (Q7 Z Z Z)) Z<|RunA.rd Z Z Z (Q1 (Qe Z Z)) Z ?_
 refine JL (c:=(x5.1.item==1)) Z Z Z (Q1 (Qo Z)) Z (fun c16=>?_) (fun c16=>?_)
 replace h1:=Qj c16 h1
 refine RunA.rd Z Z Z (Q1 (Q2 fo_35_3 Z)) Z<|RunA.rd Z Z Z (Q1 (Q5 QO Z Z Z)) Z<|RunA.rd Z Z Z (Q1 (Q7 Z Z Z)) Z<|RunA.rd Z Z Z (Q1 (Qe Z Z)) Z ?_
 refine JL (c:=(x5.1.params==0)) Z Z Z (Q1 (Qo Z)) Z (fun c17=>?_) (fun c17=>?_)
 replace h1:=Qj c17 h1
 refine RunA.rd Z Z Z (Q1 (Q2 fo_35_4 Z)) Z<|RunA.rd Z Z Z (Q1 (Qi QW Z Z Z Z)) Z ?_
 refine Qd h1 (fun x18 hx18 h1=>?_)
 refine RunA.rd Z Z Z (Qp (m29_ok ([78,97,116]:List UInt8) x18 hx18) Z (.cons (.one (.d _)) .nil)) Z ?_
 refine Qd h1 (fun x19 hx19 h1=>?_)
 refine RunA.rd Z Z Z (Qp (m29_ok ([78,97,116]:List UInt8) x19 hx19) Z (.cons (.one (.d _)) .nil)) Z ?_
 refine Qd h1 (fun x20 hx20 h1=>?_)
 refine RunA.rd Z Z Z (Qp (m28_ok x18 x19 x20 hx20) Z (.cons (.agg (.cons (.d _) (.cons (.d _) (.cons (.d _) (.cons (.d _) (.cons (.d _) .nil)))))) (.cons (.agg (.cons (.d _) (.cons (.d _) (.cons (.d _) (.cons (.d _) (.cons (.d _) .nil)))))) .nil))) Z ?_
 refine Qd h1 (fun x21 hx21 h1=>?_)
 refine RunA.rd Z Z Z (Qp (m27_ok x5.1.ty x20 x21 hx21) Z (.cons (.agg (.cons (.d _) (.cons (.d _) (.cons (.d _) (.cons (.d _) (.cons (.d _) .nil)))))) (.cons (.agg (.cons (.d _) (.cons (.d _) (.cons (.d _) (.cons (.d _) (.cons (.d _) .nil)))))) .nil))) Z<|RunA.rd Z Z Z (Q1 (Qe Z Z)) Z ?_
 refine JL (c:=x21) Z Z Z (Q1 (Qo Z)) Z (fun c22=>?_) (fun c22=>?_)
 replace h1:=Qj c22 h1
 refine RunA.rd Z Z Z (Q1 (Qo Z)) Z<|RunA.rd Z Z Z (Q1 (Qe Z Z)) Z ?_
 refine JL (c:=x6.2.2) Z Z Z (Q1 (Qo Z)) Z (fun c23=>?_) (fun c23=>?_)
 replace h1:=Qj c23 h1
 refine RunA.rd Z Z Z (Q1 (Qo Z)) Z<|RunA.rd Z Z Z (Q1 (Q7 Z Z Z)) Z<|RunA.rd Z Z Z (Q1 (Qe Z Z)) Z<|RunA.rd Z Z Z (Q1 (JF Z)) Z ?_
 refine RunA.nil ⟨?ex,_,_,Z,?_⟩
 case ex=>exact trivial
 have e:=US h1;subst e
 exact Qb (x6.2.1==(-2)) (UR (Nat.zero_le _) Z Z Z Z Z) h0
 replace h1:=Qk c23 h1
 refine RunA.no Z Z Z Z<|RunA.no Z Z Z Z<|RunA.rd Z Z Z (Q1 (Qa Z Z)) Z<|RunA.rd Z Z Z (Q1 (JF Z)) Z ?_
 refine RunA.nil ⟨?ex,_,_,Z,?_⟩
 case ex=>exact trivial
 have e:=US h1;subst e
 exact Qb false (UR (Nat.zero_le _) Z Z Z Z Z) h0
 replace h1:=Qk c22 h1
 refine RunA.no Z Z Z Z<|RunA.rd Z Z Z (Q1 (Qa Z Z)) Z<|RunA.rd Z Z Z (Q1 (Qo Z)) Z<|RunA.no Z Z Z Z<|RunA.no Z Z Z Z<|RunA.rd Z Z Z (Q1 (Qa Z Z)) Z<|RunA.rd Z Z Z (Q1 (JF Z)) Z ?_
 refine RunA.nil ⟨?ex,_,_,Z,?_⟩
 case ex=>exact trivial
 have e:=US h1;subst e
 exact Qb false (UR (Nat.zero_le _) Z Z Z Z Z) h0
 replace h1:=Qk c17 h1
 refine RunA.no Z Z Z Z<|RunA.no Z Z Z Z<|RunA.no Z Z Z Z<|RunA.no Z Z Z Z<|RunA.no Z Z Z Z<|RunA.no Z Z Z Z<|RunA.rd Z Z Z (Q1 (Qa Z Z)) Z<|RunA.rd Z Z Z (Q1 (Qo Z)) Z<|RunA.no Z Z Z Z<|RunA.rd Z Z Z (Q1 (Qa Z Z)) Z<|RunA.rd Z Z Z (Q1 (Qo Z)) Z<|RunA.no Z Z Z Z<|RunA.no Z Z Z Z<|RunA.rd Z Z Z (Q1 (Qa Z Z)) Z ?_
 refine RunA.rd Z Z Z (Q1 (JF Z)) Z ?_
 refine RunA.nil ⟨?ex,_,_,Z,?_⟩
 case ex=>exact trivial
 have e:=US h1;subst e
 exact Qb false (UR (Nat.zero_le _) Z Z Z Z Z) h0
 replace h1:=Qk c16 h1
 refine RunA.no Z Z Z Z<|RunA.no Z Z Z Z<|RunA.no Z Z Z Z<|RunA.rd Z Z Z (Q1 (Qa Z Z)) Z<|RunA.rd Z Z Z (Q1 (Qo Z)) Z<|RunA.no Z Z Z Z<|RunA.no Z Z Z Z<|RunA.no Z Z Z Z<|RunA.no Z Z Z Z<|RunA.no Z Z Z Z<|RunA.no Z Z Z Z<|RunA.rd Z Z Z (Q1 (Qa Z Z)) Z<|RunA.rd Z Z Z (Q1 (Qo Z)) Z<|RunA.no Z Z Z Z ?_
 refine RunA.rd Z Z Z (Q1 (Qa Z Z)) Z<|RunA.rd Z Z Z (Q1 (Qo Z)) Z<|RunA.no Z Z Z Z<|RunA.no Z Z Z Z<|RunA.rd Z Z Z (Q1 (Qa Z Z)) Z<|RunA.rd Z Z Z (Q1 (JF Z)) Z ?_
 refine RunA.nil ⟨?ex,_,_,Z,?_⟩
 case ex=>exact trivial
 have e:=US h1;subst e
 exact Qb false (UR (Nat.zero_le _) Z Z Z Z Z) h0
 replace h1:=Qk c15 h1
 refine RunA.no Z Z Z Z<|RunA.no Z Z Z Z<|RunA.no Z Z Z Z<|RunA.rd Z Z Z (Q1 (Qa Z Z)) Z<|RunA.rd Z Z Z (Q1 (Qo Z)) Z<|RunA.no Z Z Z Z<|RunA.no Z Z Z Z<|RunA.no Z Z Z Z<|RunA.rd Z Z Z (Q1 (Qa Z Z)) Z<|RunA.rd Z Z Z (Q1 (Qo Z)) Z<|RunA.no Z Z Z Z<|RunA.no Z Z Z Z<|RunA.no Z Z Z Z<|RunA.no Z Z Z Z ?_
 refine RunA.no Z Z Z Z<|RunA.no Z Z Z Z<|RunA.rd Z Z Z (Q1 (Qa Z Z)) Z<|RunA.rd Z Z Z (Q1 (Qo Z)) Z<|RunA.no Z Z Z Z<|RunA.rd Z Z Z (Q1 (Qa Z Z)) Z<|RunA.rd Z Z Z (Q1 (Qo Z)) Z<|RunA.no Z Z Z Z<|RunA.no Z Z Z Z<|RunA.rd Z Z Z (Q1 (Qa Z Z)) Z<|RunA.rd Z Z Z (Q1 (JF Z)) Z ?_
 refine RunA.nil ⟨?ex,_,_,Z,?_⟩
 case ex=>exact trivial
 have e:=US h1;subst e
 exact Qb false (UR (Nat.zero_le _) Z Z Z Z Z) h0
 replace h1:=Qk c14 h1
 refine RunA.no Z Z Z Z<|RunA.no Z Z Z Z<|RunA.no Z Z Z Z<|RunA.rd Z Z Z (Q1 (Qa Z Z)) Z<|RunA.rd Z Z Z (Q1 (Qo Z)) Z<|RunA.no Z Z Z Z<|RunA.no Z Z Z Z<|RunA.no Z Z Z Z<|RunA.rd Z Z Z (Q1 (Qa Z Z)) Z<|RunA.rd Z Z Z (Q1 (Qo Z)) Z<|RunA.no Z Z Z Z<|RunA.no Z Z Z Z<|RunA.no Z Z Z Z<|RunA.rd Z Z Z (Q1 (Qa Z Z)) Z ?_
 refine RunA.rd Z Z Z (Q1 (Qo Z)) Z<|RunA.no Z Z Z Z<|RunA.no Z Z Z Z<|RunA.no Z Z Z Z<|RunA.no Z Z Z Z<|RunA.no Z Z Z Z<|RunA.no Z Z Z Z<|RunA.rd Z Z Z (Q1 (Qa Z Z)) Z<|RunA.rd Z Z Z (Q1 (Qo Z)) Z<|RunA.no Z Z Z Z<|RunA.rd Z Z Z (Q1 (Qa Z Z)) Z<|RunA.rd Z Z Z (Q1 (Qo Z)) Z<|RunA.no Z Z Z Z<|RunA.no Z Z Z Z ?_
 refine RunA.rd Z Z Z (Q1 (Qa Z Z)) Z<|RunA.rd Z Z Z (Q1 (JF Z)) Z ?_
 refine RunA.nil ⟨?ex,_,_,Z,?_⟩
 case ex=>exact trivial
 have e:=US h1;subst e
 exact Qb false (UR (Nat.zero_le _) Z Z Z Z Z) h0
 replace h1:=Qk c13 h1
 refine RunA.no Z Z Z Z<|RunA.no Z Z Z Z<|RunA.no Z Z Z Z<|RunA.rd Z Z Z (Q1 (Qa Z Z)) Z<|RunA.rd Z Z Z (Q1 (Qo Z)) Z<|RunA.no Z Z Z Z<|RunA.no Z Z Z Z<|RunA.no Z Z Z Z<|RunA.rd Z Z Z (Q1 (Qa Z Z)) Z<|RunA.rd Z Z Z (Q1 (Qo Z)) Z<|RunA.no Z Z Z Z<|RunA.no Z Z Z Z<|RunA.no Z Z Z Z<|RunA.rd Z Z Z (Q1 (Qa Z Z)) Z ?_
 refine RunA.rd Z Z Z (Q1 (Qo Z)) Z<|RunA.no Z Z Z Z<|RunA.no Z Z Z Z<|RunA.no Z Z Z Z<|RunA.rd Z Z Z (Q1 (Qa Z Z)) Z<|RunA.rd Z Z Z (Q1 (Qo Z)) Z<|RunA.no Z Z Z Z<|RunA.no Z Z Z Z<|RunA.no Z Z Z Z<|RunA.no Z Z Z Z<|RunA.no Z Z Z Z<|RunA.no Z Z Z Z<|RunA.rd Z Z Z (Q1 (Qa Z Z)) Z<|RunA.rd Z Z Z (Q1 (Qo Z)) Z ?_
 refine RunA.no Z Z Z Z<|RunA.rd Z Z Z (Q1 (Qa Z Z)) Z<|RunA.rd Z Z Z (Q1 (Qo Z)) Z<|RunA.no Z Z Z Z<|RunA.no Z Z Z Z<|RunA.rd Z Z Z (Q1 (Qa Z Z)) Z<|RunA.rd Z Z Z (Q1 (JF Z)) Z ?_
 refine RunA.nil ⟨?ex,_,_,Z,?_⟩
 case ex=>exact trivial
 have e:=US h1;subst e
 exact Qb false (UR (Nat.zero_le _) Z Z Z Z Z) h0
 replace h1:=Qk c12 h1
 refine RunA.no Z Z Z Z<|RunA.no Z Z Z Z<|RunA.rd Z Z Z (Q1 (Qa Z Z)) Z<|RunA.rd Z Z Z (Q1 (Qo Z)) Z<|RunA.no Z Z Z Z<|RunA.no Z Z Z Z<|RunA.no Z Z Z Z<|RunA.rd Z Z Z (Q1 (Qa Z Z)) Z<|RunA.rd Z Z Z (Q1 (Qo Z)) Z<|RunA.no Z Z Z Z<|RunA.no Z Z Z Z<|RunA.no Z Z Z Z<|RunA.rd Z Z Z (Q1 (Qa Z Z)) Z<|RunA.rd Z Z Z (Q1 (Qo Z)) Z ?_
 refine RunA.no Z Z Z Z<|RunA.no Z Z Z Z<|RunA.no Z Z Z Z<|RunA.rd Z Z Z (Q1 (Qa Z Z)) Z<|RunA.rd Z Z Z (Q1 (Qo Z)) Z<|RunA.no Z Z Z Z<|RunA.no Z Z Z Z<|RunA.no Z Z Z Z<|RunA.rd Z Z Z (Q1 (Qa Z Z)) Z<|RunA.rd Z Z Z (Q1 (Qo Z)) Z<|RunA.no Z Z Z Z<|RunA.no Z Z Z Z<|RunA.no Z Z Z Z<|RunA.no Z Z Z Z ?_
 refine RunA.no Z Z Z Z<|RunA.no Z Z Z Z<|RunA.rd Z Z Z (Q1 (Qa Z Z)) Z<|RunA.rd Z Z Z (Q1 (Qo Z)) Z<|RunA.no Z Z Z Z<|RunA.rd Z Z Z (Q1 (Qa Z Z)) Z<|RunA.rd Z Z Z (Q1 (Qo Z)) Z<|RunA.no Z Z Z Z<|RunA.no Z Z Z Z<|RunA.rd Z Z Z (Q1 (Qa Z Z)) Z<|RunA.rd Z Z Z (Q1 (JF Z)) Z ?_
 refine RunA.nil ⟨?ex,_,_,Z,?_⟩
 case ex=>exact trivial
 have e:=US h1;subst e
 exact Qb false (UR (Nat.zero_le _) Z Z Z Z Z) h0
 replace h1:=Qk c11 h1
 refine RunA.no Z Z Z Z<|RunA.no Z Z Z Z<|RunA.rd Z Z Z (Q1 (Qa Z Z)) Z<|RunA.rd Z Z Z (Q1 (Qo Z)) Z<|RunA.no Z Z Z Z<|RunA.no Z Z Z Z<|RunA.rd Z Z Z (Q1 (Qa Z Z)) Z<|RunA.rd Z Z Z (Q1 (Qo Z)) Z<|RunA.no Z Z Z Z<|RunA.no Z Z Z Z<|RunA.no Z Z Z Z<|RunA.rd Z Z Z (Q1 (Qa Z Z)) Z<|RunA.rd Z Z Z (Q1 (Qo Z)) Z<|RunA.no Z Z Z Z ?_
 refine RunA.no Z Z Z Z<|RunA.no Z Z Z Z<|RunA.rd Z Z Z (Q1 (Qa Z Z)) Z<|RunA.rd Z Z Z (Q1 (Qo Z)) Z<|RunA.no Z Z Z Z<|RunA.no Z Z Z Z<|RunA.no Z Z Z Z<|RunA.rd Z Z Z (Q1 (Qa Z Z)) Z<|RunA.rd Z Z Z (Q1 (Qo Z)) Z<|RunA.no Z Z Z Z<|RunA.no Z Z Z Z<|RunA.no Z Z Z Z<|RunA.rd Z Z Z (Q1 (Qa Z Z)) Z<|RunA.rd Z Z Z (Q1 (Qo Z)) Z ?_
 refine RunA.no Z Z Z Z<|RunA.no Z Z Z Z<|RunA.no Z Z Z Z<|RunA.no Z Z Z Z<|RunA.no Z Z Z Z<|RunA.no Z Z Z Z<|RunA.rd Z Z Z (Q1 (Qa Z Z)) Z<|RunA.rd Z Z Z (Q1 (Qo Z)) Z<|RunA.no Z Z Z Z<|RunA.rd Z Z Z (Q1 (Qa Z Z)) Z<|RunA.rd Z Z Z (Q1 (Qo Z)) Z<|RunA.no Z Z Z Z<|RunA.no Z Z Z Z<|RunA.rd Z Z Z (Q1 (Qa Z Z)) Z ?_
 refine RunA.rd Z Z Z (Q1 (JF Z)) Z ?_
 refine RunA.nil ⟨?ex,_,_,Z,?_⟩
 case ex=>exact trivial
 have e:=US h1;subst e
 exact Qb false (UR (Nat.zero_le _) Z Z Z Z Z) h0
 replace h1:=Qk c10 h1
 refine RunA.no Z Z Z Z<|RunA.no Z Z Z Z<|RunA.rd Z Z Z (Q1 (Qa Z Z)) Z<|RunA.rd Z Z Z (Q1 (Qo Z)) Z<|RunA.no Z Z Z Z<|RunA.no Z Z Z Z<|RunA.rd Z Z Z (Q1 (Qa Z Z)) Z<|RunA.rd Z Z Z (Q1 (Qo Z)) Z<|RunA.no Z Z Z Z<|RunA.no Z Z Z Z<|RunA.rd Z Z Z (Q1 (Qa Z Z)) Z<|RunA.rd Z Z Z (Q1 (Qo Z)) Z<|RunA.no Z Z Z Z<|RunA.no Z Z Z Z ?_
 refine RunA.no Z Z Z Z<|RunA.rd Z Z Z (Q1 (Qa Z Z)) Z<|RunA.rd Z Z Z (Q1 (Qo Z)) Z<|RunA.no Z Z Z Z<|RunA.no Z Z Z Z<|RunA.no Z Z Z Z<|RunA.rd Z Z Z (Q1 (Qa Z Z)) Z<|RunA.rd Z Z Z (Q1 (Qo Z)) Z<|RunA.no Z Z Z Z<|RunA.no Z Z Z Z<|RunA.no Z Z Z Z<|RunA.rd Z Z Z (Q1 (Qa Z Z)) Z<|RunA.rd Z Z Z (Q1 (Qo Z)) Z<|RunA.no Z Z Z Z ?_
 refine RunA.no Z Z Z Z<|RunA.no Z Z Z Z<|RunA.rd Z Z Z (Q1 (Qa Z Z)) Z<|RunA.rd Z Z Z (Q1 (Qo Z)) Z<|RunA.no Z Z Z Z<|RunA.no Z Z Z Z<|RunA.no Z Z Z Z<|RunA.no Z Z Z Z<|RunA.no Z Z Z Z<|RunA.no Z Z Z Z<|RunA.rd Z Z Z (Q1 (Qa Z Z)) Z<|RunA.rd Z Z Z (Q1 (Qo Z)) Z<|RunA.no Z Z Z Z<|RunA.rd Z Z Z (Q1 (Qa Z Z)) Z ?_
 refine RunA.rd Z Z Z (Q1 (Qo Z)) Z<|RunA.no Z Z Z Z<|RunA.no Z Z Z Z<|RunA.rd Z Z Z (Q1 (Qa Z Z)) Z<|RunA.rd Z Z Z (Q1 (JF Z)) Z ?_
 refine RunA.nil ⟨?ex,_,_,Z,?_⟩
 case ex=>exact trivial
 have e:=US h1;subst e
 exact Qb false (UR (Nat.zero_le _) Z Z Z Z Z) h0
 replace h1:=Qk c9 h1
 refine RunA.no Z Z Z Z<|RunA.no Z Z Z Z<|RunA.rd Z Z Z (Q1 (Qa Z Z)) Z<|RunA.rd Z Z Z (Q1 (Qo Z)) Z<|RunA.no Z Z Z Z<|RunA.no Z Z Z Z<|RunA.rd Z Z Z (Q1 (Qa Z Z)) Z<|RunA.rd Z Z Z (Q1 (Qo Z)) Z<|RunA.no Z Z Z Z<|RunA.no Z Z Z Z<|RunA.rd Z Z Z (Q1 (Qa Z Z)) Z<|RunA.rd Z Z Z (Q1 (Qo Z)) Z<|RunA.no Z Z Z Z<|RunA.no Z Z Z Z ?_
 refine RunA.rd Z Z Z (Q1 (Qa Z Z)) Z<|RunA.rd Z Z Z (Q1 (Qo Z)) Z<|RunA.no Z Z Z Z<|RunA.no Z Z Z Z<|RunA.no Z Z Z Z<|RunA.rd Z Z Z (Q1 (Qa Z Z)) Z<|RunA.rd Z Z Z (Q1 (Qo Z)) Z<|RunA.no Z Z Z Z<|RunA.no Z Z Z Z<|RunA.no Z Z Z Z<|RunA.rd Z Z Z (Q1 (Qa Z Z)) Z<|RunA.rd Z Z Z (Q1 (Qo Z)) Z<|RunA.no Z Z Z Z<|RunA.no Z Z Z Z ?_
 refine RunA.no Z Z Z Z<|RunA.rd Z Z Z (Q1 (Qa Z Z)) Z<|RunA.rd Z Z Z (Q1 (Qo Z)) Z<|RunA.no Z Z Z Z<|RunA.no Z Z Z Z<|RunA.no Z Z Z Z<|RunA.rd Z Z Z (Q1 (Qa Z Z)) Z<|RunA.rd Z Z Z (Q1 (Qo Z)) Z<|RunA.no Z Z Z Z<|RunA.no Z Z Z Z<|RunA.no Z Z Z Z<|RunA.no Z Z Z Z<|RunA.no Z Z Z Z<|RunA.no Z Z Z Z ?_
 refine RunA.rd Z Z Z (Q1 (Qa Z Z)) Z<|RunA.rd Z Z Z (Q1 (Qo Z)) Z<|RunA.no Z Z Z Z<|RunA.rd Z Z Z (Q1 (Qa Z Z)) Z<|RunA.rd Z Z Z (Q1 (Qo Z)) Z<|RunA.no Z Z Z Z<|RunA.no Z Z Z Z<|RunA.rd Z Z Z (Q1 (Qa Z Z)) Z<|RunA.rd Z Z Z (Q1 (JF Z)) Z ?_
 refine RunA.nil ⟨?ex,_,_,Z,?_⟩
 case ex=>exact trivial
 have e:=US h1;subst e
 exact Qb false (UR (Nat.zero_le _) Z Z Z Z Z) h0
 intro v7 h0
 refine Q4<|QB ?_
 have e:=US h0;subst e
 exact QJ (fun _ _ h=>h) Z (Qz Z .nil) (.cons (.one (.d _)) .nil)
theorem m10_true:m10=some true:=by kernel_rfl
theorem awake_fun:Fun Try.prog 10 [] (QN [.one (Di true)]):=m10_ok true m10_true
end Go.Proofs.Ytafddfoefeploaa
namespace Go.Proofs.Ytafddfoefeploaa
open Go.RowKit Go.Shelf
theorem en_5:J3 Try.prog 5:=enters_of Try.func5 (by kernel_rfl) rfl
def m5_k0 (p0_:Bool) (p1_:Int×Int) (p2_:Int) (p3_:Int×Int):Option (LO Int (Unit⊕Bool)) :=
 cond p0_
   (Option.bind (cond (p1_.1 != 0)
   (some true)
   (some (p1_.2 != 0))) (fun (b0_:Bool)=>cond b0_
   (some (.done (.inr false)))
   (some (.next (J9 (p2_+1))))))
   (Option.bind (cond (p1_.1 != p3_.1)
   (some true)
   (some (p1_.2 != p3_.2))) (fun (b1_:Bool)=>cond b1_
   (some (.done (.inr false)))
   (some (.next (J9 (p2_+1))))))
noncomputable def Wf (a0:List Dcl) (x3:Int×Int) (s1:Int):Option (LO Int (Unit⊕Bool)) :=
 cond (decide (s1≤(a0.length:Int)))
   (Jl (cond (decide (0≤s1)) (Nat.ble s1.toNat a0.length) false)
 (Option.bind (WY (a0.take s1.toNat)) fun (x7:Int×Int) =>
 Option.bind (cond (x3.2==0)
   (some true)
   (some (decide (s1≤x3.1)))) (fun (v8:Bool)=>m5_k0 v8 x7 s1 x3)))
   (some (.done (.inl ())))
noncomputable def D4 (a0:List Dcl):Option Bool :=
 Option.bind (D3 a0) fun (x1:Bool) =>
 cond (!x1)
   (some true)
   (Option.bind (WY a0) fun (x3:Int×Int) =>
 Option.bind (Qr (Wf a0 x3) QI 0) (Sum.elim (fun (o4:Unit)=>some true) (fun o=>some o)))
theorem m5_ok (a0:List Dcl) (r:Bool) (h0:D4 a0=some r):Fun Try.prog 5 [.one (Df a0)] (QN [.one (Di r)]):=by
 unfold D4 at h0
 refine QT 9 52 Try.func5 Z en_5 Z (D6 Z) (fun S w=>?_)
 simp only [Ja]
 refine Q6<|Q0<|UW Z Z Z<|Q3<|Q4<|Q6<|Q6<|Q0<|UV Z Z Z ?_
 refine Qd h0 (fun x1 hx1 h0=>?_)
 refine Q9 Z Z (D6 Z) (Qp (m9_ok a0 x1 hx1) Z (.cons (.one (.d _)) .nil))<|UU Z Z Z (Jj Z)<|Q3<|Q4 ?_
 refine Qg (b:=(!x1)) Z (fun c2=>?_) (fun c2=>?_)
 replace h0:=Qj c2 h0
 refine Q6<|Q0<|Q9 Z Z (D6 Z) (Qp (awake_fun) Z .nil)<|UW Z Z Z<|Q3<|Q4<|QB ?_
 have e:=US h0;subst e
 exact QJ (fun _ _ h=>h) Z (Qz Z .nil) (.cons (.one (.d _)) .nil)
 replace h0:=Qk c2 h0
 refine Qn<|Q4<|Q6<|Q0<|UV Z Z Z ?_
 refine Qd h0 (fun x3 hx3 h0=>?_)
 refine Q9 Z Z (D6 Z) (Qp (m11_ok a0 x3 hx3) Z (.cons (.one (.d _)) .nil))<|UV Z Z Z<|UU Z Z Z (J4 Z Z)<|UU Z Z Z (J4 Z Z)<|UW Z Z Z<|UW Z Z Z<|Q3<|Q4<|Q6<|Q6<|Q0<|UW Z Z Z<|Q3<|Q4 ?_
 refine Qh ?_
 refine J2 0 (fun (o4:Unit)=>⟨[],[],[],0,52,[]⟩) (fun (o4:Unit)=>(some true)=some r) ?_ ?_
 refine Qd h0 (fun o5 hl1 h0=>?_)
 refine J1 (Wf a0 x3) (fun s1=>⟨[(0,.v (.one (Df a0))),(3,.v (.one (Dh x3.1))),(4,.v (.one (Dh x3.2))),(5,.v (.one (Dh s1)))],[],[],0,52,[]⟩) 0 o5 (UR (Nat.zero_le _) Z Z Z Z Z) hl1 (fun s1 n1 oo1 h1 ho1=>?_)
 unfold Wf at h1
 refine Q6<|Q6<|Q0<|UV Z Z Z<|UV Z Z Z<|UU Z Z Z (QA (α:=Dcl) Z0 Z (.d _))<|UU Z Z Z (Q7 Z Z Z)<|Q3<|Q4 ?_
 refine Qg (b:=(decide (s1≤(a0.length:Int)))) Z (fun c6=>?_) (fun c6=>?_)
 replace h1:=Qj c6 h1
 refine Qn<|Q4<|Q6<|Qh<|Q6<|Q0<|UV Z Z Z<|UV Z Z Z ?_
 refine YR h1 (fun g7 h1=>?_)
 refine UU Z Z Z (RO.sliceTo (α:=Dcl) Z0 Z (.d _) Z g7) ?_
 refine Qd h1 (fun x8 hx8 h1=>?_)
 refine Q9 Z Z (D6 Z) (Qp (m11_ok (a0.take s1.toNat) x8 hx8) Z (.cons (.one (.d _)) .nil))<|UV Z Z Z<|UU Z Z Z (J4 Z Z)<|UU Z Z Z (J4 Z Z)<|UW Z Z Z<|UW Z Z Z<|Q3<|Q4<|Q6 ?_
 refine QP (fun (v9:Bool)=>⟨[(0,.v (.one (Df a0))),(3,.v (.one (Dh x3.1))),(4,.v (.one (Dh x3.2))),(5,.v (.one (Dh s1))),(6,.v (.one (Dh x8.1))),(7,.v (.one (Dh x8.2))),(36,.v (.one (Di v9)))],[],[],0,52,[]⟩) (fun (v9:Bool)=>(m5_k0 v9 x8 s1 x3)=some oo1) ?_ ?_
 refine Qd h1 (fun w2_ h2 h1=>?_)
 refine Q0<|UV Z Z Z<|UU Z Z Z (Q7 Z Z Z)<|UV Z Z Z ?_
 refine QG (d:=32) (c:=(x3.2==0)) Z (fun c10=>?_) (fun c10=>?_)
 replace h2:=Qj c10 h2
 refine Q8 Z Z<|Q8 Z Z<|Q8 Z Z<|UU Z Z Z (Qe Z Z)<|Q3 ?_
 have e:=US h2;subst e
 exact Qb true (UR (Nat.zero_le _) Z Z Z Z Z) h1
 replace h2:=Qk c10 h2
 refine UV Z Z Z<|UV Z Z Z<|UU Z Z Z (Q7 Z Z Z)<|UU Z Z Z (Qa Z Z)<|Q3 ?_
 have e:=US h2;subst e
 exact Qb (decide (s1≤x3.1)) (UR (Nat.zero_le _) Z Z Z Z Z) h1
 intro v9 h1
 unfold m5_k0 at h1
 refine Q4 ?_
 refine Qg (b:=v9) Z (fun c11=>?_) (fun c11=>?_)
 replace h1:=Qj c11 h1
 refine Q6 ?_
 refine QP (fun (v12:Bool)=>⟨[(0,.v (.one (Df a0))),(3,.v (.one (Dh x3.1))),(4,.v (.one (Dh x3.2))),(5,.v (.one (Dh s1))),(42,.v (.one (Di v12)))],[],[],0,52,[]⟩) (fun (v12:Bool)=>(cond v12
     (some (.done (.inr false)))
     (some (.next (J9 (s1+1)))))=some oo1) ?_ ?_
 refine Qd h1 (fun w2_ h2 h1=>?_)
 refine Q0<|UV Z Z Z<|UU Z Z Z (Q7 Z Z Z)<|UV Z Z Z ?_
 refine QG (d:=39) (c:=(x8.1 != 0)) Z (fun c13=>?_) (fun c13=>?_)
 replace h2:=Qj c13 h2
 refine Q8 Z Z<|Q8 Z Z<|UU Z Z Z (Qe Z Z)<|Q3 ?_
 have e:=US h2;subst e
 exact Qb true (UR (Nat.zero_le _) Z Z Z Z Z) h1
 replace h2:=Qk c13 h2
 refine UV Z Z Z<|UU Z Z Z (Q7 Z Z Z)<|UU Z Z Z (Qa Z Z)<|Q3 ?_
 have e:=US h2;subst e
 exact Qb (x8.2 != 0) (UR (Nat.zero_le _) Z Z Z Z Z) h1
 intro v12 h1
 refine Q4 ?_
 refine Qg (b:=v12) Z (fun c14=>?_) (fun c14=>?_)
 replace h1:=Qj c14 h1
 refine Q6<|Q0<|UW Z Z Z<|Q3<|Q4<|QB ?_
 have e:=US h1;subst e
 have e_:_=_:=ho1
 subst e_
 try dsimp only [Sum.elim_inl,Sum.elim_inr] at h0
 have e:=US h0;subst e
 exact QJ (fun _ _ h=>h) Z (Qz Z .nil) (.cons (.one (.d _)) .nil)
 replace h1:=Qk c14 h1
 refine Qn<|Qf<|Q4<|Q0<|UV Z Z Z<|UU Z Z Z (Q7 Z Z Z)<|UW Z Z Z<|Q3 ?_
 have e:=US h1;subst e
 refine QV (J9 (s1+1)) (UR (Nat.zero_le _) Z Z Z Z Z) ho1
 replace h1:=Qk c11 h1
 refine Q6 ?_
 refine QP (fun (v15:Bool)=>⟨[(0,.v (.one (Df a0))),(3,.v (.one (Dh x3.1))),(4,.v (.one (Dh x3.2))),(5,.v (.one (Dh s1))),(50,.v (.one (Di v15)))],[],[],0,52,[]⟩) (fun (v15:Bool)=>(cond v15
     (some (.done (.inr false)))
     (some (.next (J9 (s1+1)))))=some oo1) ?_ ?_
 refine Qd h1 (fun w2_ h2 h1=>?_)
 refine Q0<|UV Z Z Z<|UV Z Z Z<|UU Z Z Z (Q7 Z Z Z)<|UV Z Z Z ?_
 refine QG (d:=46) (c:=(x8.1 != x3.1)) Z (fun c16=>?_) (fun c16=>?_)
 replace h2:=Qj c16 h2
 refine Q8 Z Z<|Q8 Z Z<|Q8 Z Z<|UU Z Z Z (Qe Z Z)<|Q3 ?_
 have e:=US h2;subst e
 exact Qb true (UR (Nat.zero_le _) Z Z Z Z Z) h1
 replace h2:=Qk c16 h2
 refine UV Z Z Z<|UV Z Z Z<|UU Z Z Z (Q7 Z Z Z)<|UU Z Z Z (Qa Z Z)<|Q3 ?_
 have e:=US h2;subst e
 exact Qb (x8.2 != x3.2) (UR (Nat.zero_le _) Z Z Z Z Z) h1
 intro v15 h1
 refine Q4 ?_
 refine Qg (b:=v15) Z (fun c17=>?_) (fun c17=>?_)
 replace h1:=Qj c17 h1
 refine Q6<|Q0<|UW Z Z Z<|Q3<|Q4<|QB ?_
 have e:=US h1;subst e
 have e_:_=_:=ho1
 subst e_
 try dsimp only [Sum.elim_inl,Sum.elim_inr] at h0
 have e:=US h0;subst e
 exact QJ (fun _ _ h=>h) Z (Qz Z .nil) (.cons (.one (.d _)) .nil)
 replace h1:=Qk c17 h1
 refine Qn<|Qf<|Q4<|Q0<|UV Z Z Z<|UU Z Z Z (Q7 Z Z Z)<|UW Z Z Z<|Q3 ?_
 have e:=US h1;subst e
 refine QV (J9 (s1+1)) (UR (Nat.zero_le _) Z Z Z Z Z) ho1
 replace h1:=Qk c6 h1
 refine J8<|Qq<|Qq ?_
 have e:=US h1;subst e
 have e_:_=_:=ho1
 subst e_
 exact J0 () (UR (Nat.zero_le _) Z Z Z Z Z) h0
 intro o4 h0
 refine QQ<|Q4<|Q6<|Q0<|Q9 Z Z (D6 Z) (Qp (awake_fun) Z .nil)<|UW Z Z Z<|Q3<|Q4<|QB ?_
 have e:=US h0;subst e
 exact QJ (fun _ _ h=>h) Z (Qz Z .nil) (.cons (.one (.d _)) .nil)
end Go.Proofs.Ytafddfoefeploaa
namespace Go.Proofs.Ytafddfoefeploaa
open Go.RowKit Go.Shelf
theorem OkD.ne {a:List Dcl} {x:Dcl} {e:Int} (h:OkD a x) (h2:Ur a x=some e) (he:e ≠ 0):False:=by
 rw [h.1] at h2;cases h2;exact he rfl
theorem envSz_take (env:List Dcl) (k:Nat):YD (env.take k)≤YD env:=by
 have:=envSz_app (env.take k) (env.drop k)
 rw [List.take_append_drop] at this
 omega
theorem begin_is (env:List Dcl) (he:YD env≤800000000) (hr:∀ d∈env,XV d.rcr.params) (hlen:env.length≤1000) (k:Nat) (hk:k≤env.length):∃ r r',WY env=some r∧WY (env.take k)=some r' ∧
  ((r.2=0∨(k:Int)≤r.1)→r'=(0,0))∧(¬ (r.2=0∨(k:Int)≤r.1)→r'=r):=by
 obtain ⟨r,h1,-,h2⟩:=check_is env he hr
 have hs:=envSz_take env k
 have htl:(env.take k).length=k:=by rw [List.length_take];omega
 obtain ⟨r',h3,-,h4⟩:=check_is (env.take k) (by omega) (fun d hd=>hr d (List.mem_of_mem_take hd))
 refine ⟨r,r',h1,h3,fun hc=>?_,fun hc=>?_⟩
 ·rcases h4 (by omega) with ⟨h5,-⟩ | ⟨a',x',b',e',q1,q2,q3,q4,-⟩
  ·exact h5
  ·exfalso
   have hx:env=a'++x'::(b'++env.drop k):=by
    have:=congrArg (·++env.drop k) q1
    simp only [List.take_append_drop,List.append_assoc,List.cons_append] at this
    exact this
   rcases h2 hlen with ⟨-,h5⟩ | ⟨a,x,b,e,p1,p2,p3,p4,p5⟩
   ·exact (h5 a' x' _ hx).ne q3 q4
   ·rw [p5] at hc
    have hka:k≤a.length:=by
     rcases hc with hc | hc
     ·exact (p4 hc).elim
     ·have hc':(k:Int)≤(a.length:Int):=hc
      omega
    have ht:env.take k=a.take k:=by rw [p1,List.take_append_of_le_length hka]
    have ha:a=a'++x'::(b'++a.drop k):=by
     rw [ht] at q1
     have:=congrArg (·++a.drop k) q1
     simp only [List.take_append_drop,List.append_assoc,List.cons_append] at this
     exact this
    exact (p2 a' x' _ ha).ne q3 q4
 ·rcases h2 hlen with ⟨h5,-⟩ | ⟨a,x,b,e,p1,p2,p3,p4,p5⟩
  ·exact (hc (.inl (by rw [h5]))).elim
  ·have hka:a.length < k:=by
    have:¬ ((k:Int)≤(a.length:Int)):=fun h=>hc (.inr (by rw [p5];exact h))
    omega
   have ht:env.take k=a++x::b.take (k - a.length - 1):=by
    obtain ⟨j,hj⟩:∃ j,k=a.length+(j+1):=⟨k - a.length - 1,by omega⟩
    rw [hj,p1,List.take_length_add_append,List.take_succ_cons]
    congr 3
    omega
   rcases h4 (by omega) with ⟨-,h5⟩ | ⟨a',x',b',e',q1,q2,q3,q4,q5⟩
   ·exact ((h5 a x _ ht).ne p3 p4).elim
   ·rw [ht] at q1
    have key:a'=a∧x'=x:=by
     rcases List.append_eq_append_iff.1 q1 with ⟨c,e1,e2⟩ | ⟨c,e1,e2⟩
     ·cases c with
      | nil =>
       rw [List.nil_append] at e2
       rw [List.append_nil] at e1
       exact ⟨e1,(List.cons.inj e2).1.symm⟩
      | cons z c =>
       rw [List.cons_append] at e2
       obtain ⟨rfl,e3⟩:=List.cons.inj e2
       exact ((q2 a x c e1).ne p3 p4).elim
     ·cases c with
      | nil =>
       rw [List.nil_append] at e2
       rw [List.append_nil] at e1
       exact ⟨e1.symm,(List.cons.inj e2).1⟩
      | cons z c =>
       rw [List.cons_append] at e2
       obtain ⟨rfl,e3⟩:=List.cons.inj e2
       exact ((p2 a' x' c e1).ne q3 q4).elim
    obtain ⟨rfl,rfl⟩:=key
    rw [p3] at q3
    cases q3
    rw [q5,p5]
theorem m5_true (env:List Dcl) (he:YD env≤100000000) (hr:∀ d∈env,XV d.rcr.params):D4 env=some true:=by
 obtain ⟨b,h1,h0⟩:=m9_some env (by omega)
 have hl:=env_len env
 unfold D4
 rw [h1]
 cases b with
 | false=>rfl
 | true =>
  have hlen:=h0 rfl
  obtain ⟨r,h2,-⟩:=check_is env (by omega) hr
  show Option.bind (WY env) _=_
  rw [h2,Option.bind_some]
  obtain ⟨q,e1,e2⟩:=Yf (step:=Wf env r) (List.replicate (env.length+1) ()) (fun i (_:Unit)=>i) (fun _ _=>True) (fun q=>q=.inl ()) (by rw [List.length_replicate];omega)
   (fun a x b s e _=>by
    have hm:=Gk e
    rw [List.length_replicate] at hm
    obtain ⟨r0,r',h3,h4,h5,h6⟩:=begin_is env (by omega) hr (by omega) a.length (by omega)
    rw [h2] at h3
    cases h3
    refine .inr ⟨(),?_,trivial⟩
    unfold Wf
    rw [decide_eq_true (show (a.length:Int)≤(env.length:Int) by omega),decide_eq_true (show (0:Int)≤(a.length:Int) by omega)]
    show Jl (Nat.ble a.length env.length) (Option.bind (WY (env.take a.length)) _)=_
    rw [JX (by omega),h4,Option.bind_some,Y9]
    by_cases hc:r.2=0∨(a.length:Int)≤r.1
    ·have hv:cond (decide (r.2=0)) (some true) (some (decide ((a.length:Int)≤r.1)))=some true:=by
      rcases hc with hc | hc
      ·rw [decide_eq_true hc];rfl
      ·rw [decide_eq_true hc];cases decide (r.2=0) <;> rfl
     rw [hv,h5 hc];rfl
    ·have hv:cond (decide (r.2=0)) (some true) (some (decide ((a.length:Int)≤r.1)))=some false:=by
      rw [decide_eq_false (fun h=>hc (.inl h)),decide_eq_false (fun h=>hc (.inr h))];rfl
     rw [hv,h6 hc,Option.bind_some]
     unfold m5_k0
     show Option.bind (cond (!(r.1==r.1)) (some true) (some (!(r.2==r.2)))) _=_
     rw [Y9,Y9,decide_eq_true rfl,decide_eq_true rfl];rfl)
   (fun s _=>⟨.inl (),by unfold Wf;rw [List.length_replicate,decide_eq_false (by omega)];rfl,rfl⟩) () trivial
  have e1':Qr (Wf env r) QI 0=some q:=e1
  rw [e1',e2];rfl
end Go.Proofs.Ytafddfoefeploaa
namespace Go.Proofs.Ytafddfoefeploaa
open Go.RowKit Go.ChangeShapes Go.WideShapes
def WS (w:World):Nat→Nat→Prop:=fun b _=>b < w.heap.size
def RC (w:World) (e:List C) (cs:List Value):Prop:=cs.length=e.length∧∀ (j:Nat) (c:C),e[j]?=some c→∃ u,cs[j]?=some u∧Reads (WS w) w c u
theorem RC.app {w:World} {e0 e1:List C} {cs:List Value} (h0:RC w e0 (cs.take e0.length)) (h1:RC w e1 (cs.drop e0.length)) (hl:cs.length=e0.length+e1.length):RC w (e0++e1) cs:=by
 refine ⟨by rw [hl,List.length_append],fun j c hj=>?_⟩
 rcases Nat.lt_or_ge j e0.length with h | h
 ·rw [List.getElem?_append_left h] at hj
  obtain ⟨u,h2,h3⟩:=h0.2 j c hj
  rw [List.getElem?_take,if_pos h] at h2
  exact ⟨u,h2,h3⟩
 ·rw [List.getElem?_append_right h] at hj
  obtain ⟨u,h2,h3⟩:=h1.2 _ c hj
  rw [List.getElem?_drop,show e0.length+(j - e0.length)=j by omega] at h2
  exact ⟨u,h2,h3⟩
section
variable {H:Type} (enc:TypeId×Value→H) (P:Program) (w:World)
end
section
variable {H:Type} {enc:TypeId×Value→H} {P:Program} {w:World}
end
end Go.Proofs.Ytafddfoefeploaa
namespace Go.Proofs.Ytafddfoefeploaa
open Go.RowKit Go.ChangeShapes Go.WideShapes
theorem Gh {H:Type} (d:DataW H):1≤Rows.uptoBulk d:=by
 cases d with
 | lit l=>cases l <;> simp [Rows.uptoBulk]
 | nil=>simp [Rows.uptoBulk]
 | ptr d=>simp [Rows.uptoBulk]
 | slice elems spare=>simp [Rows.uptoBulk]
 | agg parts=>simp [Rows.uptoBulk]
 | iface t d=>simp [Rows.uptoBulk]
 | map entries=>simp [Rows.uptoBulk]
 | held h=>simp [Rows.uptoBulk]
theorem bulk_all {H:Type}:∀ l:List (DataW H),Rows.uptoBulkAll l=(l.map Rows.uptoBulk).sum
 | []=>by simp [Rows.uptoBulkAll]
 | x::l=>by simp only [Rows.uptoBulkAll,List.map_cons,List.sum_cons,bulk_all l]
theorem RC.nil {w:World} {cs:List Value}:RC w [] (cs.take 0):=⟨by simp,fun j c h=>by cases h⟩
theorem RC.snoc {w:World} {e0 e1:List C} {cs:List Value} {m k:Nat} (h0:RC w e0 (cs.take m)) (h1:RC w e1 ((cs.drop m).take k)) (hm:e0.length=m):RC w (e0++e1) (cs.take (m+k)):=by
 have h2:=h0.1
 have h3:=h1.1
 refine RC.app ?_ ?_ ?_
 ·rw [List.take_take,hm,Nat.min_eq_left (by omega)];exact h0
 ·rw [hm,List.drop_take,Nat.add_sub_cancel_left];exact h1
 ·rw [← h3,hm]
  simp only [List.length_take,List.length_drop] at h2 ⊢
  omega
section
variable {H:Type} (enc:TypeId×Value→H) (P:Program) (w:World)
def J7 (N:Nat) (t:TypeId) (α:Type) [Enc α] (μ:α→Nat):Prop:=∀ (fuel:Nat) (cs:List Value) (x:DataW H×List MemPlace),DataW.trod enc P w 0 (fun _=>true) true fuel t cs=some x→Rows.uptoBulk x.1≤N→∃ v:α,RC w (Enc.enc v) cs∧μ v≤Rows.uptoBulk x.1
end
section
variable {H:Type} {enc:TypeId×Value→H} {P:Program} {w:World} {N:Nat}
theorem GB {t:TypeId} (ht:P.underlying t=some (.int .i64)):J7 enc P w N t Int (fun _=>1):=by
 intro fuel cs x h hb
 obtain ⟨n,rfl,rfl,-⟩:=DataW.trod_int ht h
 refine ⟨n,⟨Z,fun j c hj=>?_⟩,Gh _⟩
 cases j with
 | zero=>cases hj;exact ⟨_,rfl,Reads.v _ rfl⟩
 | succ j=>cases hj
theorem z_bool {t:TypeId} (ht:P.underlying t=some .bool):J7 enc P w N t Bool (fun _=>1):=by
 intro fuel cs x h hb
 obtain ⟨n,rfl,rfl⟩:=DataW.trod_bool ht h
 refine ⟨n,⟨Z,fun j c hj=>?_⟩,Gh _⟩
 cases j with
 | zero=>cases hj;exact ⟨_,rfl,Reads.v _ rfl⟩
 | succ j=>cases hj
theorem WI {t:TypeId} (ht:P.underlying t=some .string):J7 enc P w N t Dx (fun s=>1+s.length):=by
 intro fuel cs x h hb
 obtain ⟨s,rfl,rfl,-⟩:=DataW.trod_string ht h
 refine ⟨s.data.toList,⟨rfl,fun j c hj=>?_⟩,by simp [Rows.uptoBulk];omega⟩
 cases j with
 | zero=>cases hj;exact ⟨_,rfl,by rw [show UT s.data.toList=s from rfl];exact Reads.v _ rfl⟩
 | succ j=>cases hj
theorem KA {α:Type} [Enc α] [EncLen α] {μ:α→Nat} {t e:TypeId} (ht:P.underlying t=some (.slice e)) (hc:P.cellsOf e=Enc.sz α) (ho:J7 enc P w N e α μ):J7 enc P w N t (List α) (fun l=>1+(l.map μ).sum):=by
 intro fuel cs x h hb
 rcases Deep.open_slice ht h with ⟨rfl,rfl⟩ | ⟨a,len,cap,m,n,D,Pl,rfl,-,hlc,-,hm,rfl,hel⟩
 ·refine ⟨[],⟨rfl,fun j c hj=>?_⟩,by simp [Rows.uptoBulk]⟩
  cases j with
  | zero =>
   cases hj
   refine ⟨_,Z,?_⟩
   rw [Enc.nil]
   exact .sl _ [] none 0 0 0 (fun _ _=>undef) (Nat.le_refl _) (fun h=>absurd rfl h) (fun i e h=>by simp at h) (fun i e j c h=>by simp at h) (fun i e j c h=>by simp at h) (fun i e j c h=>by simp at h)
  | succ j=>cases hj
 ·have hm':m=cap:=by rw [hm];rfl
  have hbk:((List.range len).map fun i=>Rows.uptoBulk (D i)).sum+1≤Rows.uptoBulk (DataW.slice (H:=H) ((List.range len).map D) ((List.range (m - len)).map fun j=>D (len+j))):=by
   simp only [Rows.uptoBulk,bulk_all,List.map_map]
   have:(List.map (Rows.uptoBulk ∘ D) (List.range len)).sum=((List.range len).map fun i=>Rows.uptoBulk (D i)).sum:=rfl
   omega
  dsimp only at hb
  have hD:∀ k,k < len→Rows.uptoBulk (D k)≤N:=fun k hk=>by
   have:=Zh (fun i=>Rows.uptoBulk (D i)) (List.mem_range.2 hk)
   omega
  have hall:∀ k,k≤len→∃ l:List α,l.length=k∧(l.map μ).sum≤((List.range k).map fun i=>Rows.uptoBulk (D i)).sum∧∀ (i:Nat) (v:α),l[i]?=some v→∃ cs',w.cells? 0 (a.add (i * Enc.sz α)) (Enc.sz α)=some cs'∧RC w (Enc.enc v) cs':=by
   intro k
   induction k with
   | zero=>intro _;exact ⟨[],rfl,Nat.le_refl _,fun i v h=>by simp at h⟩
   | succ k ih =>
    intro hk
    obtain ⟨l,h1,hsum,h2⟩:=ih (by omega)
    obtain ⟨cs',h3,h4⟩:=hel k (by omega)
    rw [hc] at h3
    obtain ⟨v,hv,hμ⟩:=ho _ _ _ h4 (hD k (by omega))
    refine ⟨l++[v],by simp [h1],?_,fun i v' hi=>?_⟩
    ·rw [List.range_succ]
     simp only [List.map_append,List.map_cons,List.map_nil,List.sum_append,List.sum_cons,List.sum_nil]
     dsimp only at hμ
     omega
    rcases Nat.lt_or_ge i l.length with h | h
    ·rw [List.getElem?_append_left h] at hi;exact h2 i v' hi
    ·rw [List.getElem?_append_right h] at hi
     have hi0:i - l.length=0:=by
      rcases Nat.eq_zero_or_pos (i - l.length) with h0 | h0
      ·exact h0
      ·rw [List.getElem?_eq_none (by simp only [List.length_singleton];omega)] at hi;cases hi
     have hik:i=k:=by omega
     rw [hi0] at hi;cases hi
     rw [hik];exact ⟨cs',h3,hv⟩
  obtain ⟨l,hl,hsum,hcells⟩:=hall len (Nat.le_refl _)
  have hpos:0 < Enc.sz α:=EncLen.pos
  have hspot:l ≠ []→a.spot=none∧a.block < w.heap.size:=by
   intro hne
   obtain ⟨v,r,rfl⟩:=List.exists_cons_of_ne_nil hne
   obtain ⟨cs',h1,h2⟩:=hcells 0 v rfl
   obtain ⟨-,h3,h4⟩:=World.cells?_some h1
   have h5:=h4 0 hpos
   rw [Nat.zero_mul,Deep.add_add,Nat.zero_add] at h5
   have h6:(cs'[0]?).isSome:=by rw [List.getElem?_eq_getElem (by omega)];rfl
   rw [← h5] at h6
   have h7:(a.add 0)=a:=by simp [Addr.add]
   rw [h7] at h6
   unfold World.cell? at h6
   split at h6
   ·rename_i c _ _ hb
    refine ⟨?_,(Array.getElem?_eq_some_iff.1 hb).1⟩
    split at h6
    ·cases h6
    ·rename_i hs
     cases hsp:a.spot with
     | none=>rfl
     | some q=>rw [hsp] at hs;exact absurd rfl hs
   ·cases h6
  have hadd:l ≠ []→∀ k,a.add k=⟨a.block,a.off+k,none⟩:=by
   intro hne k
   have h1:=(hspot hne).1
   unfold Addr.add
   split
   ·rename_i h0;subst h0
    obtain ⟨b,o,sp⟩:=a
    simp only at h1;subst h1;rfl
   ·rfl
  have hcell:∀ (i:Nat) (e':List C) (j:Nat) (c:C),(Enc.encL l)[i]?=some e'→e'[j]?=some c→∃ u,w.cell? ⟨a.block,a.off+i * Enc.sz α+j,none⟩=some u∧Reads (WS w) w c u:=by
   intro i e' j c hi hj
   rw [Enc.map,List.getElem?_map] at hi
   cases hx:l[i]? with
   | none=>rw [hx] at hi;cases hi
   | some v =>
    rw [hx] at hi;cases hi
    have hne:l ≠ []:=by intro h0;rw [h0] at hx;simp at hx
    obtain ⟨cs',h1,h2⟩:=hcells i v hx
    obtain ⟨u,h3,h4⟩:=h2.2 j c hj
    obtain ⟨-,h5,h6⟩:=World.cells?_some h1
    have hjl:j < Enc.sz α:=by have:=(List.getElem?_eq_some_iff.1 h3).1;omega
    have h7:=h6 j hjl
    rw [Deep.add_add,hadd hne,h3,← Nat.add_assoc] at h7
    exact ⟨u,h7,h4⟩
  refine ⟨l,⟨rfl,fun j c hj=>?_⟩,by dsimp only;omega⟩
  cases j with
  | succ j=>cases hj
  | zero =>
   cases hj
   refine ⟨_,Z,?_⟩
   have Da:=Reads.sl (S:=WS w) (w:=w) (Enc.sz α) (Enc.encL l) (some a) cap a.block a.off (fun i j=>(w.cell? ⟨a.block,a.off+i * Enc.sz α+j,none⟩).getD undef) (by rw [Enc.len,hl];exact hlc)
    (fun hne=>by
     have hne':l ≠ []:=by intro h0;rw [h0,Enc.nil] at hne;exact hne rfl
     have h7:(a.add 0)=a:=by simp [Addr.add]
     rw [← h7,hadd hne'])
    (fun i e' hi=>encL_lens l e' (List.mem_of_getElem? hi))
    (fun i e' j c hi hj=>by obtain ⟨u,h1,-⟩:=hcell i e' j c hi hj;rw [h1];rfl)
    (fun i e' j c hi hj=>by
     have hne:l ≠ []:=by intro h0;rw [h0,Enc.nil] at hi;simp at hi
     exact (hspot hne).2)
    (fun i e' j c hi hj=>by obtain ⟨u,h1,h2⟩:=hcell i e' j c hi hj;rw [h1];exact h2)
   rw [Enc.len,hl] at Da
   exact Da
theorem XW {α:Type} [Enc α] {μ:α→Nat} {t:TypeId} (h:∀ N,J7 enc P w N t α μ→J7 enc P w (N+1) t α μ):∀ N,J7 enc P w N t α μ
 | 0=>fun fuel cs x _ hb=>by have:=Gh x.1;omega
 | N+1=>h N (XW h N)
end
section
variable {H:Type} {enc:TypeId×Value→H} {w:World} {N:Nat}
theorem Z6:Try.prog.cellsOf 3=1:=by kernel_rfl
theorem cells_4:Try.prog.cellsOf 4=1:=by kernel_rfl
theorem XE:Try.prog.cellsOf 9=1:=by kernel_rfl
theorem cells_30:Try.prog.cellsOf 30=1:=by kernel_rfl
theorem cells_31:Try.prog.cellsOf 31=1:=by kernel_rfl
theorem Kv:Try.prog.cellsOf 33=5:=by kernel_rfl
theorem cells_40:Try.prog.cellsOf 40=1:=by kernel_rfl
theorem cells_42:Try.prog.cellsOf 42=7:=by kernel_rfl
theorem cells_43:Try.prog.cellsOf 43=1:=by kernel_rfl
theorem cells_45:Try.prog.cellsOf 45=23:=by kernel_rfl
theorem cells_71:Try.prog.cellsOf 71=6:=by kernel_rfl
theorem cells_72:Try.prog.cellsOf 72=1:=by kernel_rfl
theorem cells_74:Try.prog.cellsOf 74=8:=by kernel_rfl
theorem cells_76:Try.prog.cellsOf 76=15:=by kernel_rfl
theorem cells_85:Try.prog.cellsOf 85=1:=by kernel_rfl
theorem cells_87:Try.prog.cellsOf 87=2:=by kernel_rfl
theorem cells_101:Try.prog.cellsOf 101=10:=by kernel_rfl
theorem cells_124:Try.prog.cellsOf 124=2:=by kernel_rfl
theorem z_lv:J7 enc Try.prog w (N+1) 124 Dv (fun _=>1):=by
 intro fuel cs x h hb
 obtain ⟨xs,n,_,rfl,hl,hlen,hf⟩:=DataW.trod_struct Try.underlying124 h
 match xs,hlen with
 | [y0,y1],_ =>
  have hb':Rows.uptoBulk y0.1+Rows.uptoBulk y1.1+1≤Rows.uptoBulk (DataW.agg (H:=H) [y0.1,y1.1]):=by simp only [Rows.uptoBulk,Rows.uptoBulkAll];omega
  have hb2:Rows.uptoBulk (DataW.agg (H:=H) [y0.1,y1.1])≤N+1:=hb
  obtain ⟨v0,r0,m0⟩:=(GB Try.underlying3:J7 enc Try.prog w N _ _ _) n _ _ (hf 0 _ rfl) (by omega)
  change RC w (Enc.enc v0) ((cs.drop 0).take (Try.prog.cellsOf 3)) at r0
  rw [Z6] at r0
  obtain ⟨v1,r1,m1⟩:=(GB Try.underlying3:J7 enc Try.prog w N _ _ _) n _ _ (hf 1 _ rfl) (by omega)
  change RC w (Enc.enc v1) ((cs.drop 1).take (Try.prog.cellsOf 3)) at r1
  rw [Z6] at r1
  have hcs:cs.take 2=cs:=List.take_of_length_le (by rw [hl];exact Nat.le_of_eq cells_124)
  have Da:=((((RC.nil).snoc (k:=1) r0 rfl)).snoc (k:=1) r1 rfl)
  refine ⟨(v0,v1),by rw [← hcs];exact Da,Nat.le_trans ?_ hb'⟩
  show 1≤_
  omega
theorem z_lv':J7 enc Try.prog w N 124 Dv (fun _=>1):=XW (fun _ _=>z_lv) N
theorem z_lvl:J7 enc Try.prog w (N+1) 87 Lvl lvz:=by
 intro fuel cs x h hb
 obtain ⟨xs,n,_,rfl,hl,hlen,hf⟩:=DataW.trod_struct Try.underlying87 h
 match xs,hlen with
 | [y0,y1],_ =>
  have hb':Rows.uptoBulk y0.1+Rows.uptoBulk y1.1+1≤Rows.uptoBulk (DataW.agg (H:=H) [y0.1,y1.1]):=by simp only [Rows.uptoBulk,Rows.uptoBulkAll];omega
  have hb2:Rows.uptoBulk (DataW.agg (H:=H) [y0.1,y1.1])≤N+1:=hb
  obtain ⟨v0,r0,m0⟩:=(GB Try.underlying3:J7 enc Try.prog w N _ _ _) n _ _ (hf 0 _ rfl) (by omega)
  change RC w (Enc.enc v0) ((cs.drop 0).take (Try.prog.cellsOf 3)) at r0
  rw [Z6] at r0
  obtain ⟨v1,r1,m1⟩:=(KA Try.underlying85 (by kernel_rfl) z_lv':J7 enc Try.prog w N _ _ _) n _ _ (hf 1 _ rfl) (by omega)
  change RC w (Enc.enc v1) ((cs.drop 1).take (Try.prog.cellsOf 85)) at r1
  rw [cells_85] at r1
  have hcs:cs.take 2=cs:=List.take_of_length_le (by rw [hl];exact Nat.le_of_eq cells_87)
  have Da:=((((RC.nil).snoc (k:=1) r0 rfl)).snoc (k:=1) r1 rfl)
  refine ⟨⟨v0,v1⟩,by rw [← hcs];exact Da,Nat.le_trans ?_ hb'⟩
  show lvz ⟨v0,v1⟩≤_
  unfold lvz
  dsimp only at m0 m1 ⊢
  omega
theorem z_lvl':J7 enc Try.prog w N 87 Lvl lvz:=XW (fun _ _=>z_lvl) N
theorem z_tm (hk:J7 enc Try.prog w N 33 Tm Tm.size):J7 enc Try.prog w (N+1) 33 Tm Tm.size:=by
 intro fuel cs x h hb
 obtain ⟨xs,n,_,rfl,hl,hlen,hf⟩:=DataW.trod_struct Try.underlying33 h
 match xs,hlen with
 | [y0,y1,y2,y3,y4],_ =>
  have hb':Rows.uptoBulk y0.1+Rows.uptoBulk y1.1+Rows.uptoBulk y2.1+Rows.uptoBulk y3.1+Rows.uptoBulk y4.1+1≤Rows.uptoBulk (DataW.agg (H:=H) [y0.1,y1.1,y2.1,y3.1,y4.1]):=by simp only [Rows.uptoBulk,Rows.uptoBulkAll];omega
  have hb2:Rows.uptoBulk (DataW.agg (H:=H) [y0.1,y1.1,y2.1,y3.1,y4.1])≤N+1:=hb
  obtain ⟨v0,r0,m0⟩:=(GB Try.underlying3:J7 enc Try.prog w N _ _ _) n _ _ (hf 0 _ rfl) (by omega)
  change RC w (Enc.enc v0) ((cs.drop 0).take (Try.prog.cellsOf 3)) at r0
  rw [Z6] at r0
  obtain ⟨v1,r1,m1⟩:=(GB Try.underlying3:J7 enc Try.prog w N _ _ _) n _ _ (hf 1 _ rfl) (by omega)
  change RC w (Enc.enc v1) ((cs.drop 1).take (Try.prog.cellsOf 3)) at r1
  rw [Z6] at r1
  obtain ⟨v2,r2,m2⟩:=(WI Try.underlying9:J7 enc Try.prog w N _ _ _) n _ _ (hf 2 _ rfl) (by omega)
  change RC w (Enc.enc v2) ((cs.drop 2).take (Try.prog.cellsOf 9)) at r2
  rw [XE] at r2
  obtain ⟨v3,r3,m3⟩:=(KA Try.underlying30 (by kernel_rfl) z_lvl':J7 enc Try.prog w N _ _ _) n _ _ (hf 3 _ rfl) (by omega)
  change RC w (Enc.enc v3) ((cs.drop 3).take (Try.prog.cellsOf 30)) at r3
  rw [cells_30] at r3
  obtain ⟨v4,r4,m4⟩:=(KA Try.underlying31 (by kernel_rfl) hk:J7 enc Try.prog w N _ _ _) n _ _ (hf 4 _ rfl) (by omega)
  change RC w (Enc.enc v4) ((cs.drop 4).take (Try.prog.cellsOf 31)) at r4
  rw [cells_31] at r4
  have hcs:cs.take 5=cs:=List.take_of_length_le (by rw [hl];exact Nat.le_of_eq Kv)
  have Da:=((((((((((RC.nil).snoc (k:=1) r0 rfl)).snoc (k:=1) r1 rfl)).snoc (k:=1) r2 rfl)).snoc (k:=1) r3 rfl)).snoc (k:=1) r4 rfl)
  refine ⟨Tm.mk v0 v1 v2 v3 v4,by rw [← hcs];exact Da,Nat.le_trans ?_ hb'⟩
  rw [Tm.size_eq]
  simp only [Tm.name,Tm.kids,Tm.levels]
  dsimp only at m0 m1 m2 m3 m4 ⊢
  omega
theorem W6:J7 enc Try.prog w N 33 Tm Tm.size:=XW (fun _ h=>z_tm h) N
theorem z_ctr:J7 enc Try.prog w (N+1) 71 Ctr csz:=by
 intro fuel cs x h hb
 obtain ⟨xs,n,_,rfl,hl,hlen,hf⟩:=DataW.trod_struct Try.underlying71 h
 match xs,hlen with
 | [y0,y1],_ =>
  have hb':Rows.uptoBulk y0.1+Rows.uptoBulk y1.1+1≤Rows.uptoBulk (DataW.agg (H:=H) [y0.1,y1.1]):=by simp only [Rows.uptoBulk,Rows.uptoBulkAll];omega
  have hb2:Rows.uptoBulk (DataW.agg (H:=H) [y0.1,y1.1])≤N+1:=hb
  obtain ⟨v0,r0,m0⟩:=(WI Try.underlying9:J7 enc Try.prog w N _ _ _) n _ _ (hf 0 _ rfl) (by omega)
  change RC w (Enc.enc v0) ((cs.drop 0).take (Try.prog.cellsOf 9)) at r0
  rw [XE] at r0
  obtain ⟨v1,r1,m1⟩:=(W6:J7 enc Try.prog w N _ _ _) n _ _ (hf 1 _ rfl) (by omega)
  change RC w (Enc.enc v1) ((cs.drop 1).take (Try.prog.cellsOf 33)) at r1
  rw [Kv] at r1
  have hcs:cs.take 6=cs:=List.take_of_length_le (by rw [hl];exact Nat.le_of_eq cells_71)
  have Da:=((((RC.nil).snoc (k:=1) r0 rfl)).snoc (k:=5) r1 rfl)
  refine ⟨⟨v0,v1⟩,by rw [← hcs];exact Da,Nat.le_trans ?_ hb'⟩
  show csz ⟨v0,v1⟩≤_
  unfold csz
  dsimp only at m0 m1 ⊢
  omega
theorem z_ctr':J7 enc Try.prog w N 71 Ctr csz:=XW (fun _ _=>z_ctr) N
theorem z_tr (hk:J7 enc Try.prog w N 101 Dy bsz):J7 enc Try.prog w (N+1) 74 Tr Tr.size:=by
 intro fuel cs x h hb
 obtain ⟨xs,n,_,rfl,hl,hlen,hf⟩:=DataW.trod_struct Try.underlying74 h
 match xs,hlen with
 | [y0,y1,y2,y3],_ =>
  have hb':Rows.uptoBulk y0.1+Rows.uptoBulk y1.1+Rows.uptoBulk y2.1+Rows.uptoBulk y3.1+1≤Rows.uptoBulk (DataW.agg (H:=H) [y0.1,y1.1,y2.1,y3.1]):=by simp only [Rows.uptoBulk,Rows.uptoBulkAll];omega
  have hb2:Rows.uptoBulk (DataW.agg (H:=H) [y0.1,y1.1,y2.1,y3.1])≤N+1:=hb
  obtain ⟨v0,r0,m0⟩:=(GB Try.underlying3:J7 enc Try.prog w N _ _ _) n _ _ (hf 0 _ rfl) (by omega)
  change RC w (Enc.enc v0) ((cs.drop 0).take (Try.prog.cellsOf 3)) at r0
  rw [Z6] at r0
  obtain ⟨v1,r1,m1⟩:=(W6:J7 enc Try.prog w N _ _ _) n _ _ (hf 1 _ rfl) (by omega)
  change RC w (Enc.enc v1) ((cs.drop 1).take (Try.prog.cellsOf 33)) at r1
  rw [Kv] at r1
  obtain ⟨v2,r2,m2⟩:=(GB Try.underlying3:J7 enc Try.prog w N _ _ _) n _ _ (hf 2 _ rfl) (by omega)
  change RC w (Enc.enc v2) ((cs.drop 6).take (Try.prog.cellsOf 3)) at r2
  rw [Z6] at r2
  obtain ⟨v3,r3,m3⟩:=(KA Try.underlying72 (by kernel_rfl) hk:J7 enc Try.prog w N _ _ _) n _ _ (hf 3 _ rfl) (by omega)
  change RC w (Enc.enc v3) ((cs.drop 7).take (Try.prog.cellsOf 72)) at r3
  rw [cells_72] at r3
  have hcs:cs.take 8=cs:=List.take_of_length_le (by rw [hl];exact Nat.le_of_eq cells_74)
  have Da:=((((((((RC.nil).snoc (k:=1) r0 rfl)).snoc (k:=5) r1 rfl)).snoc (k:=1) r2 rfl)).snoc (k:=1) r3 rfl)
  refine ⟨Tr.mk v0 v1 v2 v3,by rw [← hcs];exact Da,Nat.le_trans ?_ hb'⟩
  rw [Tr.size_eq]
  simp only [Tr.body,Tr.branches]
  dsimp only at m0 m1 m2 m3 ⊢
  omega
theorem z_br (hk:J7 enc Try.prog w N 74 Tr Tr.size):J7 enc Try.prog w (N+1) 101 Dy bsz:=by
 intro fuel cs x h hb
 obtain ⟨xs,n,_,rfl,hl,hlen,hf⟩:=DataW.trod_struct Try.underlying101 h
 match xs,hlen with
 | [y0,y1,y2],_ =>
  have hb':Rows.uptoBulk y0.1+Rows.uptoBulk y1.1+Rows.uptoBulk y2.1+1≤Rows.uptoBulk (DataW.agg (H:=H) [y0.1,y1.1,y2.1]):=by simp only [Rows.uptoBulk,Rows.uptoBulkAll];omega
  have hb2:Rows.uptoBulk (DataW.agg (H:=H) [y0.1,y1.1,y2.1])≤N+1:=hb
  obtain ⟨v0,r0,m0⟩:=(WI Try.underlying9:J7 enc Try.prog w N _ _ _) n _ _ (hf 0 _ rfl) (by omega)
  change RC w (Enc.enc v0) ((cs.drop 0).take (Try.prog.cellsOf 9)) at r0
  rw [XE] at r0
  obtain ⟨v1,r1,m1⟩:=(z_bool Try.underlying4:J7 enc Try.prog w N _ _ _) n _ _ (hf 1 _ rfl) (by omega)
  change RC w (Enc.enc v1) ((cs.drop 1).take (Try.prog.cellsOf 4)) at r1
  rw [cells_4] at r1
  obtain ⟨v2,r2,m2⟩:=hk n _ _ (hf 2 _ rfl) (by omega)
  change RC w (Enc.enc v2) ((cs.drop 2).take (Try.prog.cellsOf 74)) at r2
  rw [cells_74] at r2
  have hcs:cs.take 10=cs:=List.take_of_length_le (by rw [hl];exact Nat.le_of_eq cells_101)
  have Da:=((((((RC.nil).snoc (k:=1) r0 rfl)).snoc (k:=1) r1 rfl)).snoc (k:=8) r2 rfl)
  refine ⟨⟨v0,v1,v2⟩,by rw [← hcs];exact Da,Nat.le_trans ?_ hb'⟩
  show bsz ⟨v0,v1,v2⟩≤_
  unfold bsz
  dsimp only at m0 m1 m2 ⊢
  omega
theorem z_trbr:∀ N,J7 enc Try.prog w N 74 Tr Tr.size∧J7 enc Try.prog w N 101 Dy bsz
 | 0=>⟨fun fuel cs x _ hb=>by have:=Gh x.1;omega,fun fuel cs x _ hb=>by have:=Gh x.1;omega⟩
 | N+1=>⟨z_tr (z_trbr N).2,z_br (z_trbr N).1⟩
theorem z_fn:J7 enc Try.prog w (N+1) 76 Fn fsz:=by
 intro fuel cs x h hb
 obtain ⟨xs,n,_,rfl,hl,hlen,hf⟩:=DataW.trod_struct Try.underlying76 h
 match xs,hlen with
 | [y0,y1,y2,y3],_ =>
  have hb':Rows.uptoBulk y0.1+Rows.uptoBulk y1.1+Rows.uptoBulk y2.1+Rows.uptoBulk y3.1+1≤Rows.uptoBulk (DataW.agg (H:=H) [y0.1,y1.1,y2.1,y3.1]):=by simp only [Rows.uptoBulk,Rows.uptoBulkAll];omega
  have hb2:Rows.uptoBulk (DataW.agg (H:=H) [y0.1,y1.1,y2.1,y3.1])≤N+1:=hb
  obtain ⟨v0,r0,m0⟩:=(WI Try.underlying9:J7 enc Try.prog w N _ _ _) n _ _ (hf 0 _ rfl) (by omega)
  change RC w (Enc.enc v0) ((cs.drop 0).take (Try.prog.cellsOf 9)) at r0
  rw [XE] at r0
  obtain ⟨v1,r1,m1⟩:=(W6:J7 enc Try.prog w N _ _ _) n _ _ (hf 1 _ rfl) (by omega)
  change RC w (Enc.enc v1) ((cs.drop 1).take (Try.prog.cellsOf 33)) at r1
  rw [Kv] at r1
  obtain ⟨v2,r2,m2⟩:=(GB Try.underlying3:J7 enc Try.prog w N _ _ _) n _ _ (hf 2 _ rfl) (by omega)
  change RC w (Enc.enc v2) ((cs.drop 6).take (Try.prog.cellsOf 3)) at r2
  rw [Z6] at r2
  obtain ⟨v3,r3,m3⟩:=(z_trbr N).1 n _ _ (hf 3 _ rfl) (by omega)
  change RC w (Enc.enc v3) ((cs.drop 7).take (Try.prog.cellsOf 74)) at r3
  rw [cells_74] at r3
  have hcs:cs.take 15=cs:=List.take_of_length_le (by rw [hl];exact Nat.le_of_eq cells_76)
  have Da:=((((((((RC.nil).snoc (k:=1) r0 rfl)).snoc (k:=5) r1 rfl)).snoc (k:=1) r2 rfl)).snoc (k:=8) r3 rfl)
  refine ⟨⟨v0,v1,v2,v3⟩,by rw [← hcs];exact Da,Nat.le_trans ?_ hb'⟩
  show fsz ⟨v0,v1,v2,v3⟩≤_
  unfold fsz
  dsimp only at m0 m1 m2 m3 ⊢
  omega
theorem z_fn':J7 enc Try.prog w N 76 Fn fsz:=XW (fun _ _=>z_fn) N
end
end Go.Proofs.Ytafddfoefeploaa
namespace Go.Proofs.Ytafddfoefeploaa
open Go.ChangeShapes Go.WideShapes Go.ChangeAt Go.RowKit Go.WideElems
theorem own:ownKnob Try.prog.godebug=none:=by kernel_rfl
theorem laidOut:laidOutB Try.prog=true:=by kernel_rfl
theorem slice_readsZ {H:Type} {enc:TypeId×Value→H} {α:Type} [Enc α] [EncLen α] {μ:List α→Nat} {W:World} {base:Nat} {t e:TypeId} {v:Value} {d:DataW H} {p:List MemPlace} (ht:Try.prog.underlying t=some (.slice e)) (ho:∀ N,J7 enc Try.prog W N t (List α) μ)
  (hval:Value.okWide Try.prog W .any base t v) (h:DataW.Trod enc Try.prog W 0 (fun _=>true) true t v d p):∃ l:List α,Reads (WS W) W (.sl (Enc.sz α) (Enc.encL l)) v∧μ l≤Rows.uptoBulk d:=by
 obtain ⟨fuel,hf⟩:=h
 obtain ⟨l,hl,hμ⟩:=ho _ _ _ _ hf (Nat.le_refl _)
 refine ⟨l,?_,hμ⟩
 obtain ⟨u,h2,h3⟩:=hl.2 0 _ rfl
 have h4:v.cells=#[v]:=by
  have h5:=hl.1
  cases v with
  | agg cs =>
   exfalso
   obtain ⟨s,n,c,h7⟩:=okWide_slice ht hval
   cases h7
  | _=>rfl
 rw [h4] at h2
 cases h2
 exact h3
end Go.Proofs.Ytafddfoefeploaa
namespace Go.Proofs.Ytafddfoefeploaa
open Go.ChangeShapes Go.WideShapes Go.ChangeAt Go.RowKit Go.WideElems
def IntR:Type:={n:Int // XV n}
def RcrR:Type:={r:Rcr // XV r.params}
def DclR:Type:={d:Dcl // XV d.rcr.params}
noncomputable def intRC (n:IntR):List C:=[.v (.int .i64 n.1)]
noncomputable def rcrRC (r:RcrR):List C:=rcrC r.1
noncomputable def dclRC (d:DclR):List C:=Uc d.1
noncomputable instance:Enc IntR:=⟨1,intRC,fun l=>l.map intRC,rfl,fun a b=>List.map_append,fun _=>rfl⟩
noncomputable instance:Enc RcrR:=⟨7,rcrRC,fun l=>l.map rcrRC,rfl,fun a b=>List.map_append,fun _=>rfl⟩
noncomputable instance:Enc DclR:=⟨23,dclRC,fun l=>l.map dclRC,rfl,fun a b=>List.map_append,fun _=>rfl⟩
instance:EncLen DclR:=⟨fun t=>rfl,Nat.succ_pos 22⟩
section
variable {H:Type} {enc:TypeId×Value→H} {w:World} {N:Nat}
theorem z_intR {P:Program} {t:TypeId} (ht:P.underlying t=some (.int .i64)):J7 enc P w N t IntR (fun _=>1):=by
 intro fuel cs x h hb
 obtain ⟨n,rfl,rfl,hw⟩:=DataW.trod_int ht h
 have h1:XV n:=by
  unfold Lit.wf at hw
  rw [Bool.and_eq_true,decide_eq_true_eq,decide_eq_true_eq] at hw
  exact hw
 refine ⟨⟨n,h1⟩,⟨Z,fun j c hj=>?_⟩,Gh _⟩
 cases j with
 | zero=>cases hj;exact ⟨_,rfl,Reads.v _ rfl⟩
 | succ j=>cases hj
theorem z_rcrR:J7 enc Try.prog w (N+1) 42 RcrR (fun r=>r.1.ty.size+(r.1.rules.map Tm.size).sum):=by
 intro fuel cs x h hb
 obtain ⟨xs,n,_,rfl,hl,hlen,hf⟩:=DataW.trod_struct Try.underlying42 h
 match xs,hlen with
 | [y0,y1,y2],_ =>
  have hb':Rows.uptoBulk y0.1+Rows.uptoBulk y1.1+Rows.uptoBulk y2.1+1≤Rows.uptoBulk (DataW.agg (H:=H) [y0.1,y1.1,y2.1]):=by simp only [Rows.uptoBulk,Rows.uptoBulkAll];omega
  have hb2:Rows.uptoBulk (DataW.agg (H:=H) [y0.1,y1.1,y2.1])≤N+1:=hb
  obtain ⟨v0,r0,m0⟩:=(z_intR Try.underlying3:J7 enc Try.prog w N _ _ _) n _ _ (hf 0 _ rfl) (by omega)
  change RC w (Enc.enc v0) ((cs.drop 0).take (Try.prog.cellsOf 3)) at r0
  rw [Z6] at r0
  obtain ⟨v1,r1,m1⟩:=(W6:J7 enc Try.prog w N _ _ _) n _ _ (hf 1 _ rfl) (by omega)
  change RC w (Enc.enc v1) ((cs.drop 1).take (Try.prog.cellsOf 33)) at r1
  rw [Kv] at r1
  obtain ⟨v2,r2,m2⟩:=(KA Try.underlying31 (by kernel_rfl) W6:J7 enc Try.prog w N _ _ _) n _ _ (hf 2 _ rfl) (by omega)
  change RC w (Enc.enc v2) ((cs.drop 6).take (Try.prog.cellsOf 31)) at r2
  rw [cells_31] at r2
  have hcs:cs.take 7=cs:=List.take_of_length_le (by rw [hl];exact Nat.le_of_eq cells_42)
  have Da:=((((((RC.nil).snoc (k:=1) r0 rfl)).snoc (k:=5) r1 rfl)).snoc (k:=1) r2 rfl)
  refine ⟨⟨⟨v0.1,v1,v2⟩,v0.2⟩,by rw [← hcs];exact Da,Nat.le_trans ?_ hb'⟩
  dsimp only at m0 m1 m2 ⊢
  omega
theorem z_rcrR':J7 enc Try.prog w N 42 RcrR (fun r=>r.1.ty.size+(r.1.rules.map Tm.size).sum):=XW (fun _ _=>z_rcrR) N
theorem z_dclR:J7 enc Try.prog w (N+1) 45 DclR (fun d=>d.1.size):=by
 intro fuel cs x h hb
 obtain ⟨xs,n,_,rfl,hl,hlen,hf⟩:=DataW.trod_struct Try.underlying45 h
 match xs,hlen with
 | [y0,y1,y2,y3,y4,y5,y6,y7,y8],_ =>
  have hb':Rows.uptoBulk y0.1+Rows.uptoBulk y1.1+Rows.uptoBulk y2.1+Rows.uptoBulk y3.1+Rows.uptoBulk y4.1+Rows.uptoBulk y5.1+Rows.uptoBulk y6.1+Rows.uptoBulk y7.1+Rows.uptoBulk y8.1+1≤Rows.uptoBulk (DataW.agg (H:=H) [y0.1,y1.1,y2.1,y3.1,y4.1,y5.1,y6.1,y7.1,y8.1]):=by simp only [Rows.uptoBulk,Rows.uptoBulkAll];omega
  have hb2:Rows.uptoBulk (DataW.agg (H:=H) [y0.1,y1.1,y2.1,y3.1,y4.1,y5.1,y6.1,y7.1,y8.1])≤N+1:=hb
  obtain ⟨v0,r0,m0⟩:=(GB Try.underlying3:J7 enc Try.prog w N _ _ _) n _ _ (hf 0 _ rfl) (by omega)
  change RC w (Enc.enc v0) ((cs.drop 0).take (Try.prog.cellsOf 3)) at r0
  rw [Z6] at r0
  obtain ⟨v1,r1,m1⟩:=(WI Try.underlying9:J7 enc Try.prog w N _ _ _) n _ _ (hf 1 _ rfl) (by omega)
  change RC w (Enc.enc v1) ((cs.drop 1).take (Try.prog.cellsOf 9)) at r1
  rw [XE] at r1
  obtain ⟨v2,r2,m2⟩:=(GB Try.underlying3:J7 enc Try.prog w N _ _ _) n _ _ (hf 2 _ rfl) (by omega)
  change RC w (Enc.enc v2) ((cs.drop 2).take (Try.prog.cellsOf 3)) at r2
  rw [Z6] at r2
  obtain ⟨v3,r3,m3⟩:=(W6:J7 enc Try.prog w N _ _ _) n _ _ (hf 3 _ rfl) (by omega)
  change RC w (Enc.enc v3) ((cs.drop 3).take (Try.prog.cellsOf 33)) at r3
  rw [Kv] at r3
  obtain ⟨v4,r4,m4⟩:=(W6:J7 enc Try.prog w N _ _ _) n _ _ (hf 4 _ rfl) (by omega)
  change RC w (Enc.enc v4) ((cs.drop 8).take (Try.prog.cellsOf 33)) at r4
  rw [Kv] at r4
  obtain ⟨v5,r5,D4⟩:=(GB Try.underlying3:J7 enc Try.prog w N _ _ _) n _ _ (hf 5 _ rfl) (by omega)
  change RC w (Enc.enc v5) ((cs.drop 13).take (Try.prog.cellsOf 3)) at r5
  rw [Z6] at r5
  obtain ⟨v6,r6,m6⟩:=(KA Try.underlying40 (by kernel_rfl) z_ctr':J7 enc Try.prog w N _ _ _) n _ _ (hf 6 _ rfl) (by omega)
  change RC w (Enc.enc v6) ((cs.drop 14).take (Try.prog.cellsOf 40)) at r6
  rw [cells_40] at r6
  obtain ⟨v7,r7,m7⟩:=(z_rcrR':J7 enc Try.prog w N _ _ _) n _ _ (hf 7 _ rfl) (by omega)
  change RC w (Enc.enc v7) ((cs.drop 15).take (Try.prog.cellsOf 42)) at r7
  rw [cells_42] at r7
  obtain ⟨v8,r8,m8⟩:=(KA Try.underlying43 (by kernel_rfl) z_fn':J7 enc Try.prog w N _ _ _) n _ _ (hf 8 _ rfl) (by omega)
  change RC w (Enc.enc v8) ((cs.drop 22).take (Try.prog.cellsOf 43)) at r8
  rw [cells_43] at r8
  have hcs:cs.take 23=cs:=List.take_of_length_le (by rw [hl];exact Nat.le_of_eq cells_45)
  have Da:=((((((((((((((((((RC.nil).snoc (k:=1) r0 rfl)).snoc (k:=1) r1 rfl)).snoc (k:=1) r2 rfl)).snoc (k:=5) r3 rfl)).snoc (k:=5) r4 rfl)).snoc (k:=1) r5 rfl)).snoc (k:=1) r6 rfl)).snoc (k:=7) r7 rfl)).snoc (k:=1) r8 rfl)
  refine ⟨⟨⟨v0,v1,v2,v3,v4,v5,v6,v7.1,v8⟩,v7.2⟩,by rw [← hcs];exact Da,Nat.le_trans ?_ hb'⟩
  show Dcl.size ⟨v0,v1,v2,v3,v4,v5,v6,v7.1,v8⟩≤_
  unfold Dcl.size
  dsimp only at m0 m1 m2 m3 m4 D4 m6 m7 m8 ⊢
  omega
theorem z_dclR':J7 enc Try.prog w N 45 DclR (fun d=>d.1.size):=XW (fun _ _=>z_dclR) N
theorem z_envR:J7 enc Try.prog w N 22 (List DclR) (fun l=>1+(l.map fun d=>d.1.size).sum):=KA Try.underlying22 (by kernel_rfl) z_dclR'
end
theorem env_readsR {H:Type} {enc:TypeId×Value→H} {W:World} {base:Nat} {v:Value} {d:DataW H} {p:List MemPlace}
  (hval:Value.okWide Try.prog W .any base 22 v) (h:DataW.Trod enc Try.prog W 0 (fun _=>true) true 22 v d p):∃ l:List Dcl,Reads (WS W) W (.sl 23 (Enc.encL l)) v∧1+YD l≤Rows.uptoBulk d∧∀ x∈l,XV x.rcr.params:=by
 obtain ⟨l,h1,h2⟩:=slice_readsZ Try.underlying22 (fun N=>z_envR) hval h
 refine ⟨l.map (·.1),?_,?_,fun x hx=>?_⟩
 ·have:Enc.encL (l.map (·.1))=Enc.encL l:=by
   show (l.map (·.1)).map Uc=l.map dclRC
   rw [List.map_map];rfl
  rw [this];exact h1
 ·unfold YD
  rw [List.map_map];exact h2
 ·obtain ⟨y,-,rfl⟩:=List.mem_map.1 hx
  exact y.2
end Go.Proofs.Ytafddfoefeploaa
namespace Go.Proofs.Ytafddfoefeploaa
open Go.ChangeShapes Go.WideShapes Go.ChangeAt Go.RowKit Go.WideElems
theorem law5 {W:World} (a0:List Dcl) (hs:YD a0≤100000000) (hr:∀ d∈a0,XV d.rcr.params) {v0:Value} (hv0:Reads (WS W) W (.sl 23 (Enc.encL a0)) v0):Calls Try.prog 5 #[v0] W fun e W'=>e=.returned (.bool true)∧Below W.heap.size W W':=by
 have hF:=m5_ok a0 true (m5_true a0 hs hr)
 refine Calls.mono (hF.2 (WS W) W #[v0] (fun b o h=>h) ⟨Z,fun i y hy=>?_⟩) ?_
 ·match i,hy with
  | 0,hy=>cases hy;exact ⟨_,rfl,hv0⟩
 ·rintro e W' ⟨u,S',rfl,hx,-,-,hu⟩
  have e1:u=.bool true:=by cases hu;rfl
  rw [e1]
  exact ⟨Z,hx.os,hx.tape,hx.output,hx.size,fun k hk=>hx.block k hk (fun h=>h)⟩
theorem contract (H:Type) (enc:TypeId×Value→H) (W:World) (base:Nat) (args:Array Value) (ds gs:List (DataW H)) (before:List MemPlace) (hk:Rows.uptoSmall H (ds++gs)=true)
  (hval0:∀ (j:Nat) t v,Try.f5.params[j]?=some t→args[j]?=some v→Value.okWide Try.prog W .any base t v)
  (hW:DataW.Whole enc Try.prog Try.f5.params.toList Rows.signatureBeginsSpec.vars false W args.toList ds gs before) :
  Calls Try.prog 5 args W fun e W'=>∃ v,e=.returned v∧Rows.signatureBeginsSpec.post enc Try.prog Try.f5 false true false false W args v W':=by
 have hval:∀ (j:Nat) t v,Try.f5.params[j]?=some t→args[j]?=some v→Value.okWide Try.prog W .any base t v:=hval0
 have hW':=hW
 obtain ⟨p,q,hA0,hV,rfl,hfz,hnd⟩:=hW
 have hA:DataW.TrodAll enc Try.prog W 0 (fun _=>true) true Try.f5.params.toList args.toList ds p:=hA0
 rw [Try.params5] at hA hval
 obtain ⟨v0,d0,rfl,rfl,h0⟩:=trodAll_one hA
 obtain ⟨rfl,rfl⟩:=trodVars_none hV
 have h0k:=h0
 obtain ⟨a0,hv0,hz,hr⟩:=env_readsR (hval 0 22 v0 rfl rfl) h0
 have hbk:Rows.uptoBulkAll ([d0]++([]:List (DataW H)))≤1048576:=of_decide_eq_true hk
 simp only [List.append_nil,Rows.uptoBulkAll] at hbk
 clear hA0 hval0
 simp only [List.append_nil] at hW'
 have hlt:∀ x∈p,x.block < W.heap.size:=fun x hx=>by simpa using hW'.lt x hx
 refine (law5 a0 (by omega) hr hv0).mono fun e W' ⟨he,hb⟩=>?_
 subst he
 have hargs:∀ sp:Nat→Bool,(∀ x∈p,sp x.block=true)→DataW.TrodAll enc Try.prog W' 0 sp true [22] [v0] [d0] p:=fun sp hsp =>
  trodAll_mk1 (WideElems.Trod_stays laidOut (by kernel_rfl) (of_decide_eq_true (by kernel_rfl)) h0k (fun x hx=>hb.same (hlt x hx)) (fun x hx=>hsp x hx))
 exact ⟨_,rfl,_,_,_,[],p,[],hW',trodAll_mk1 (shut_bool Try.underlying4 true),hargs _ (fun x hx=>by simpa using hlt x hx),rfl,hb.frame _,fun h=>by cases h⟩
theorem lifted (os:Os) (started:os.Started) (H:Type) (enc:TypeId×Value→H) (F:Stop.Interp) :
  ReturnsInHanded {} Try.checked os 5 .any ((Rows.OpenSpec.upto Rows.signatureBeginsSpec).pre6 enc Try.prog Try.f5 Rows.signatureBeginsUptoRow.domain false) (((Rows.OpenSpec.upto Rows.signatureBeginsSpec).at F).post enc Try.prog Try.f5 false true false false):=by
 refine returnsInHanded_of_cond (C:=Try.checked) (s:=Rows.OpenSpec.upto Rows.signatureBeginsSpec) (k:=Rows.uptoSmall) rfl own started (by kernel_rfl) Try.func5
  (OpenSpec.witness (enc:=enc) (C:=Try.checked) (s:=Rows.OpenSpec.upto Rows.signatureBeginsSpec) (k:=Rows.uptoSmall) rfl false ⟨#[],#[.slice none 0 0],[]⟩ 8 (by kernel_rfl) (by kernel_rfl) (by kernel_rfl)
   (x:=([.nil],[],[])) (by kernel_rfl) rfl (by kernel_rfl)) ?_
 intro W base args ds gs before hval hW _ hk _
 exact contract H enc W base args ds gs before hk hval hW
theorem over:Rows.signatureBeginsUptoRow.holds Try.pinned (Rows.OpenSpec.upto Rows.signatureBeginsSpec) :=
 OpenClaim.holds_of_cond 5 Try.f5 rfl rfl rfl rfl rfl rfl rfl ⟨rfl,rfl,rfl,rfl,rfl⟩ rfl rfl rfl rfl rfl (by kernel_rfl) Try.func5 (by kernel_rfl)
  (of_decide_eq_true (by kernel_rfl)) (by unfold Func.isWrapper;first | (rw [if_pos (by decide +kernel)];kernel_rfl) | (rw [if_neg (by decide +kernel)];exact ⟨rfl,rfl⟩))
  (fun os started H enc _ F=>lifted os started H enc F)
theorem signatureBeginsUpto:Rows.SignatureBeginsUptoSaid:=over
#print axioms signatureBeginsUpto
end Go.Proofs.Ytafddfoefeploaa
