/- The statement SignatureExtendsUpto is proved here: for every list of declarations and every name the law returns true, and what it is given reads behind the call ars it did before; condition: the arguments are of bulk at most 1048576 (the second form). -/
import Derived.Test.YtafddfoefeploaaK64
import Derived.Deep.Slices
import Derived.ChangeSame
import Derived.Test.YtafddfoefeploaaRows
import Derived.Test.YtafddfoefeploaaProg
import Derived.Test.YtafddfoefeploaaChecked
import Derived.ProofKit
import Derived.Carry
import Derived.JoinedCond
set_option maxRecDepth 100000
set_option maxHeartbeats 2000000
set_option linter.unusedSimpArgs false
set_option linter.unusedVariables false
set_option linter.unusedSectionVars false
namespace Go.Proofs.Ytafddfoefeploaa
open Go.RowKit Go.Shelf
theorem m64_eq:Dt=m101:=rfl
theorem listTwo {α:Type} {l:List α} (h:(l.length:Int)=2):∃ x y,l=[x,y]:=by
 match l,h with
 | [x,y],_=>exact ⟨x,y,rfl⟩
 | [],h=>simp at h
 | [x],h=>simp at h
 | x::y::z::l,h=>simp at h;omega
theorem pis_walk:∀ (n:Nat) (t:Tm) (acc:List Tm),t.size≤n→acc.length+t.size≤900000000→∃ (c:Nat) (r1:(List Tm)×Int×Int×Bs×(List Lvl)×(List Tm)) (r2:Int×Int×Int×Bs×(List Lvl)×(List Tm)),
  Qq KO n (acc,t.kind,t.index,t.name,t.levels,t.kids)=some r1∧Qq GS n ((acc.length:Int),t.kind,t.index,t.name,t.levels,t.kids)=some r2∧r1.1.length=c∧r2.1=(c:Int)∧c≤900000000
 | 0,t,_,h,_=>by rw [t.size_eq] at h;omega
 | n+1,t,acc,h,hb=>by
  have stop:(cond (t.kind==6) (some ((t.kids.length:Int)==2)) (some false))=some false→∃ (c:Nat) (r1:(List Tm)×Int×Int×Bs×(List Lvl)×(List Tm)) (r2:Int×Int×Int×Bs×(List Lvl)×(List Tm)),
    Qq KO (n+1) (acc,t.kind,t.index,t.name,t.levels,t.kids)=some r1∧Qq GS (n+1) ((acc.length:Int),t.kind,t.index,t.name,t.levels,t.kids)=some r2∧r1.1.length=c∧r2.1=(c:Int)∧c≤900000000:=by
   intro hs
   have e1:KO (acc,t.kind,t.index,t.name,t.levels,t.kids)=some (.done (acc,t.kind,t.index,t.name,t.levels,t.kids)):=by unfold KO;dsimp only;rw [hs];rfl
   have e2:GS ((acc.length:Int),t.kind,t.index,t.name,t.levels,t.kids)=some (.done ((acc.length:Int),t.kind,t.index,t.name,t.levels,t.kids)):=by unfold GS;dsimp only;rw [hs];rfl
   exact ⟨acc.length,(acc,t.kind,t.index,t.name,t.levels,t.kids),((acc.length:Int),t.kind,t.index,t.name,t.levels,t.kids),by simp only [Qq,e1],by simp only [Qq,e2],rfl,rfl,by omega⟩
  by_cases hk:t.kind=6
  ·by_cases hl:(t.kids.length:Int)=2
   ·obtain ⟨x,y,hxy⟩:=listTwo hl
    have hy:=YA (t:=t) (k:=y) (by rw [hxy];simp)
    obtain ⟨c,r1,r2,h1,h2,h3,h4,h5⟩:=pis_walk n y (acc++[x]) (by omega) (by rw [List.length_append,List.length_singleton];omega)
    have e1:KO (acc,t.kind,t.index,t.name,t.levels,t.kids)=some (.next (acc++[x],y.kind,y.index,y.name,y.levels,y.kids)):=by
     unfold KO;dsimp only;rw [hk,hxy]
     show Jh (Nat.ble (acc.length+1) 1000000000) _=_
     rw [JI (by omega)];rfl
    have e2:GS ((acc.length:Int),t.kind,t.index,t.name,t.levels,t.kids)=some (.next (((acc++[x]).length:Int),y.kind,y.index,y.name,y.levels,y.kids)):=by
     unfold GS;dsimp only;rw [hk,hxy]
     show some (LO.next (Ja ((acc.length:Int)+1),y.kind,y.index,y.name,y.levels,y.kids))=_
     rw [Wx (by omega),List.length_append];rfl
    exact ⟨c,r1,r2,by simp only [Qq,e1];exact h1,by simp only [Qq,e2];exact h2,h3,h4,h5⟩
   ·exact stop (by rw [Yk,Yk,decide_eq_false hl];cases decide (t.kind=6) <;> rfl)
  ·exact stop (by rw [Yk,decide_eq_false hk];rfl)
def Xw (t:Tm):Int:=(Dl t).getD 0
theorem pis_eq (t:Tm) (h:t.size≤900000000):Dl t=some (Xw t)∧∃ r,m101 t=some r∧(r.1.length:Int)=Xw t:=by
 obtain ⟨c,r1,r2,h1,h2,h3,h4,-⟩:=pis_walk QI t [] (by unfold QI;omega) (by simp;omega)
 have e1:Dl t=some (c:Int):=by
  have h2':Qq GS QI (0,t.kind,t.index,t.name,t.levels,t.kids)=some r2:=h2
  unfold Dl
  rw [h2',← h4];rfl
 have e2:Xw t=(c:Int):=by unfold Xw;rw [e1];rfl
 refine ⟨by rw [e1,e2],(r1.1,Tm.mk r1.2.1 r1.2.2.1 r1.2.2.2.1 r1.2.2.2.2.1 r1.2.2.2.2.2),?_,by rw [e2,← h3]⟩
 have h1':Qq KO QI (([]:List Tm),t.kind,t.index,t.name,t.levels,t.kids)=some r1:=h1
 unfold m101
 rw [h1'];rfl
theorem Kk {d:Dcl} {c:Ctr} (h:c∈d.ctors):c.ty.size+c.name.length < d.size:=by
 have h1:=Zc csz h
 have h2:csz c=1+c.name.length+c.ty.size:=rfl
 unfold Dcl.size
 omega
theorem m88_eq (d:Dcl) (i:Int) (c:Ctr) (hi:Jx d.ctors i=some c) (h:d.size≤900000000):∃ r,m88 d i=some r∧Dr d i=some r:=by
 have hc:c.ty.size≤900000000:=by
  have:c∈d.ctors:=by
   cases i with
   | ofNat k=>exact List.mem_of_getElem? hi
   | negSucc k=>cases hi
  have:=Kk this
  omega
 obtain ⟨-,r,h1,-⟩:=pis_eq c.ty hc
 unfold m88 Dr
 rw [hi,m64_eq]
 simp only [Option.bind_some]
 rw [h1]
 exact ⟨_,Z,Z⟩
theorem firstN_some {α:Type} (nm:α→Bs) (n:Bs) {i:Nat} {x:α}:∀ (l:List α) (k:Nat),JB nm n l k=some (i,x)→k≤i∧l[i - k]?=some x
 | [],k,h=>by cases h
 | y::l,k,h=>by
  rw [JB] at h
  split at h
  ·cases h;exact ⟨Nat.le_refl _,by rw [Nat.sub_self];rfl⟩
  ·obtain ⟨h1,h2⟩:=firstN_some nm n l (k+1) h
   refine ⟨by omega,?_⟩
   rw [show i - k=(i - (k+1))+1 from by omega];exact h2
theorem look_ctor {d:Dcl} {k:Int} {n:Bs} {e:Ent} (h:JN d k n=some e) (h4:e.kind=4):∃ c,Jx d.ctors e.item=some c:=by
 unfold JN at h
 split at h
 ·next hk =>
  split at h
  ·cases h;exfalso;have h4':d.kind=4:=h4;omega
  ·cases h
 ·split at h
  ·split at h
   ·cases h;exfalso;have h4':(3:Int)=4:=h4;omega
   ·split at h
    ·next i c hf =>
     cases h
     obtain ⟨-,h2⟩:=firstN_some _ _ _ _ hf
     exact ⟨c,h2⟩
    ·split at h
     ·cases h;exfalso;have h4':(5:Int)=4:=h4;omega
     ·cases h
  ·split at h
   ·split at h
    ·cases h;exfalso;have h4':(6:Int)=4:=h4;omega
    ·cases h
   ·cases h
def Sm2 (e:Int) (p:Option (Unit⊕Int)):Prop:=(e=0→p=some (.inl ()))∧(e ≠ 0→p=some (.inr e))
theorem Sm2.ok {p:Option (Unit⊕Int)} (h:p=some (.inl ())):Sm2 0 p:=⟨fun _=>h,fun h=>(h rfl).elim⟩
theorem Sm2.no {p:Option (Unit⊕Int)} {e:Int} (he:e ≠ 0) (h:p=some (.inr e)):Sm2 e p:=⟨fun h=>(he h).elim,fun _=>h⟩
theorem bodysz (t:Tr):t.body.size < t.size:=by rw [t.size_eq];omega
theorem tree_eq (s:Rsc) (M O:Qc Bs Ent) (hs:Sok s M O):∀ (n:Nat) (t:Tr) (V D:Int),t.size≤n→t.size≤900000000 →
  ∃ e:Int,JE m73F n (s,t,V,D)=some e∧Sm2 e (JE Gw n (t,V,D,s.d.params,s.env,M,O))
 | 0,t,_,_,h,_=>by rw [t.size_eq] at h;omega
 | n+1,t,V,D,h,hb=>by
  show ∃ e:Int,m73s (JE m73F n) s t V D=some e∧Sm2 e (XU (JE Gw n) t V D s.d.params s.env M O)
  have hbody:=bodysz t
  have hbl:=branches_len t
  unfold m73s XU
  rw [GV]
  by_cases hD:200≤D
  ·rw [decide_eq_true hD,decide_eq_false (show ¬ D < 200 by omega)]
   exact ⟨7,rfl,.no (by omega) rfl⟩
  rw [decide_eq_false hD,decide_eq_true (show D < 200 by omega)]
  simp only [cond_true,cond_false,Option.bind_some,Sum.elim_inl]
  rw [Yk]
  by_cases k0:t.kind=0
  ·rw [decide_eq_true k0,cond_true,cond_true]
   show ∃ e:Int,Option.bind (cond (!(t.var==0)) (some true) (some (decide (0 < (t.branches.length:Int))))) _=_∧_
   cases (t.var==0) with
   | false=>exact ⟨3,rfl,.no (by omega) rfl⟩
   | true =>
    rw [Yk]
    by_cases c:(t.branches.length:Int)=0
    ·rw [decide_eq_true c,decide_eq_false (show ¬ 0 < (t.branches.length:Int) by omega)]
     obtain ⟨e,h1,h2,h3⟩:=XB s M O hs t.body V s.d.params (by omega)
     rw [h1]
     refine ⟨e,Z,fun he=>?_,fun he=>?_⟩
     ·rw [h2 he];rfl
     ·rw [h3 he];rfl
    ·rw [decide_eq_false c,decide_eq_true (show 0 < (t.branches.length:Int) by omega)]
     exact ⟨3,rfl,.no (by omega) rfl⟩
  rw [decide_eq_false k0,cond_false,cond_false,Yk]
  by_cases k1:t.kind=1
  ·rw [decide_eq_true k1,cond_true,cond_true,WG,WE]
   cases Wn t.body with
   | false=>exact ⟨3,rfl,.no (by omega) rfl⟩
   | true =>
    show ∃ e:Int,Option.bind (cond (decide (t.var < 0)) (some true) (some (decide (V≤t.var)))) _=some e∧Sm2 e (Gd t V M s.env (JE Gw n) D s.d.params O)
    unfold Gd
    by_cases c1:t.var < 0
    ·rw [decide_eq_true c1,decide_eq_false (show ¬ 0≤t.var by omega)]
     exact ⟨24,rfl,.no (by omega) rfl⟩
    rw [decide_eq_false c1,decide_eq_true (show 0≤t.var by omega)]
    by_cases c2:V≤t.var
    ·rw [decide_eq_true c2,decide_eq_false (show ¬ t.var < V by omega)]
     exact ⟨24,rfl,.no (by omega) rfl⟩
    rw [decide_eq_false c2,decide_eq_true (show t.var < V by omega)]
    show ∃ e:Int,cond (decide (32 < (t.branches.length:Int))) _ _=some e∧Sm2 e (Ge t M s.env (JE Gw n) V D s.d.params O)
    unfold Ge
    rw [GV]
    by_cases c3:32 < (t.branches.length:Int)
    ·rw [decide_eq_true c3,decide_eq_false (show ¬ (t.branches.length:Int)≤32 by omega)]
     exact ⟨6,rfl,.no (by omega) rfl⟩
    rw [decide_eq_false c3,decide_eq_true (show (t.branches.length:Int)≤32 by omega)]
    obtain ⟨e,h1,h2⟩:=YC (β1:=Unit⊕Int) (β2:=Unit⊕(Unit⊕Int)) (step1:=m73_l1 t s (JE m73F n) V D) (step2:=Kd t M s.env (JE Gw n) V D s.d.params O) t.branches (.inl ()) (.inl ()) .inr (fun e=>.inr (.inr e)) (by omega) (fun a b c e=>by
     obtain ⟨q1,q2⟩:=Yv e
     have hbt:=Tr.kid_size (t:=t) (b:=b) (by rw [e];simp)
     unfold m73_l1 Kd
     rw [q1,q2]
     simp only [cond_true,Option.bind_some]
     rw [WL s.env b.ctor hs.env]
     have hM:=hs.bk b.ctor
     unfold ZD
     cases hf:Yu s.env b.ctor with
     | none =>
      rw [hf] at hM
      have g1:Yt M b.ctor=false:=by unfold Yt;rw [hM];rfl
      rw [g1]
      exact ⟨9,fun h=>by omega,fun _=>⟨rfl,rfl⟩⟩
     | some en =>
      rw [hf] at hM
      have g1:Yt M b.ctor=true:=by unfold Yt;rw [hM];rfl
      have g2:Qm M b.ctor=en:=by unfold Qm;rw [hM];rfl
      obtain ⟨i,d,hi,hd⟩:=fsI_some _ _ _ hf
      rw [Nat.zero_add] at hd
      unfold m48f11_k0 m73_k0
      rw [g1,g2,GV]
      by_cases c4:en.kind=4
      ·have hdec:Jx s.env en.decl=some d:=by rw [look_decl hd];exact idx_at hi
       obtain ⟨ct,hct⟩:=look_ctor hd c4
       obtain ⟨r,hr1,hr2⟩:=m88_eq d en.item ct hct (by have:=Xe (List.mem_of_getElem? hi);have:=hs.env;omega)
       have e1:(en.kind != 4)=false:=by rw [c4];rfl
       have e2:(en.kind==4)=true:=by rw [c4];rfl
       have e0:((0:Int) != 0)=false:=rfl
       simp only [Option.elim_some,Option.bind_some,e0,e1,e2,cond_true,cond_false,Sum.elim_inl]
       cases b.absurd with
       | true =>
        simp only [cond_true]
        have e3:Dv b.tree (Tr.mk 0 (Tm.mk 0 0 ([]:List UInt8) ([]:List Lvl) ([]:List Tm)) 0 ([]:List Br))=some (isZT b.tree):=m36_Z b.tree
        rw [e3,WG]
        unfold isZT
        cases (b.tree.kind==0) with
        | false=>exact ⟨3,fun h=>by omega,fun _=>⟨rfl,rfl⟩⟩
        | true =>
         cases (b.tree.var==0) with
         | false=>exact ⟨3,fun h=>by omega,fun _=>⟨rfl,rfl⟩⟩
         | true =>
          cases ((b.tree.branches.length:Int)==0) with
          | false=>exact ⟨3,fun h=>by omega,fun _=>⟨by rw [Bool.and_false];rfl,rfl⟩⟩
          | true =>
           cases Wn b.tree.body with
           | false=>exact ⟨3,fun h=>by omega,fun _=>⟨rfl,rfl⟩⟩
           | true=>exact ⟨0,fun _=>⟨rfl,rfl⟩,fun h=>(h rfl).elim⟩
       | false =>
        simp only [cond_false]
        rw [hdec]
        simp only [Option.bind_some]
        rw [hr1,hr2]
        simp only [Option.bind_some]
        obtain ⟨e',w1,w2,w3⟩:=tree_eq s M O hs n b.tree (Ja (V+r)) (Ja (D+1)) (by omega) (by omega)
        rw [w1]
        refine ⟨e',fun he=>?_,fun he=>?_⟩
        ·rw [w2 he];subst he;exact ⟨rfl,rfl⟩
        ·rw [w3 he];exact ⟨Xb he _ _,rfl⟩
      ·have e1:(en.kind != 4)=true:=bne_iff_ne.2 c4
       have e2:(en.kind==4)=false:=by rw [Yk];exact decide_eq_false c4
       have e0:((0:Int) != 0)=false:=rfl
       simp only [Option.elim_some,Option.bind_some,e0,e1,e2,cond_true,cond_false,Sum.elim_inl]
       exact ⟨9,fun h=>by omega,fun _=>⟨rfl,rfl⟩⟩)
     (by unfold m73_l1;rw [J9];rfl) (by unfold Kd;rw [J9];rfl)
    by_cases he:e=0
    ·obtain ⟨e1,e2⟩:=h1 he
     rw [e1]
     refine ⟨0,Z,.ok ?_⟩
     show Option.bind (Qq _ QI 0) _=_
     rw [e2];rfl
    ·obtain ⟨e1,e2⟩:=h2 he
     rw [e1]
     refine ⟨e,Z,.no he ?_⟩
     show Option.bind (Qq _ QI 0) _=_
     rw [e2];rfl
  ·rw [decide_eq_false k1]
   exact ⟨3,rfl,.no (by omega) rfl⟩
end Go.Proofs.Ytafddfoefeploaa
namespace Go.Proofs.Ytafddfoefeploaa
open Go.RowKit Go.Shelf
def Xm (d:Dcl):Bool :=
 (d.kind==1||d.kind==2||Wn d.value)&&(d.kind==4||(d.funs.length:Int)==0)&&(!(d.kind==4)||(d.name==[]&&Wn d.ty)) &&
 (d.kind==3||(d.fixed==0&&(d.ctors.length:Int)==0&&(d.rcr.params==0&&Wn d.rcr.ty&&(d.rcr.rules.length:Int)==0)))
theorem m44_used (d:Dcl) (h0:0≤d.kind) (h4:d.kind≤4):Ws d=cond (Xm d) (Za d) (some (.inr 3)):=by
 have hk:d.kind=0∨d.kind=1∨d.kind=2∨d.kind=3∨d.kind=4:=by omega
 have e0:Ws d=Gg (d.kind==1||d.kind==2) d:=by
  unfold Ws
  rw [decide_eq_true h0,decide_eq_true h4]
  show Option.bind (cond (d.kind==1) (some true) (some (d.kind==2))) _=_
  cases (d.kind==1) <;> rfl
 rw [e0]
 have e6:∀ b:Bool,Kt d b=cond (d.kind==3||(d.fixed==0&&(d.ctors.length:Int)==0&&b)) (Za d) (some (.inr 3)):=by
  intro b
  unfold Kt
  cases (d.kind==3) <;> cases (d.fixed==0) <;> cases ((d.ctors.length:Int)==0) <;> cases b <;> rfl
 have e7:GX d=cond ((!(d.kind==4)||(d.name==[]&&Wn d.ty))&&(d.kind==3||(d.fixed==0&&(d.ctors.length:Int)==0&&(d.rcr.params==0&&Wn d.rcr.ty&&(d.rcr.rules.length:Int)==0)))) (Za d) (some (.inr 3)):=by
  unfold GX
  rw [WG,WG]
  have e8:∀ o:Unit⊕(Unit⊕Int),o=.inl ()→Sum.elim (fun (b7_:Unit)=>Option.bind (cond (d.rcr.params==0) (Option.bind (some (Wn d.rcr.ty)) fun (b0_:Bool)=>cond b0_ (some ((d.rcr.rules.length:Int)==0)) (some false)) (some false)) (fun (b8_:Bool)=>Kt d b8_)) (fun o=>some o) o=cond (d.kind==3||(d.fixed==0&&(d.ctors.length:Int)==0&&(d.rcr.params==0&&Wn d.rcr.ty&&(d.rcr.rules.length:Int)==0))) (Za d) (some (.inr 3)):=by
   intro o ho
   subst ho
   rw [← e6]
   show Option.bind (cond (d.rcr.params==0) _ _) _=_
   cases (d.rcr.params==0) <;> cases Wn d.rcr.ty <;> rfl
  cases (d.kind==4) with
  | false=>exact e8 (.inl ()) rfl
  | true =>
   cases (d.name==[]) with
   | false=>rfl
   | true =>
    cases Wn d.ty with
    | false=>rfl
    | true=>exact e8 (.inl ()) rfl
 have e8:GW d=cond ((d.kind==4||(d.funs.length:Int)==0)&&((!(d.kind==4)||(d.name==[]&&Wn d.ty))&&(d.kind==3||(d.fixed==0&&(d.ctors.length:Int)==0&&(d.rcr.params==0&&Wn d.rcr.ty&&(d.rcr.rules.length:Int)==0))))) (Za d) (some (.inr 3)):=by
  unfold GW
  cases h:(d.kind==4||(d.funs.length:Int)==0) with
  | true =>
   rw [Bool.true_and,← e7]
   revert h
   cases (d.kind==4) with
   | true=>intro _;rfl
   | false=>intro h;rw [Bool.false_or] at h;rw [h];rfl
  | false =>
   rw [Bool.or_eq_false_iff] at h
   rw [h.1,h.2];rfl
 unfold Gg Xm
 rw [WG,Bool.and_assoc,Bool.and_assoc]
 cases (d.kind==1||d.kind==2) with
 | true=>rw [Bool.true_or,Bool.true_and,← e8];rfl
 | false =>
  rw [Bool.false_or]
  cases Wn d.value with
  | true=>rw [Bool.true_and,← e8];rfl
  | false=>rfl
theorem m50_eq (d:Dcl) (h0:0≤d.kind) (h4:d.kind≤4):m50 d=some (Xm d):=by
 have hk:d.kind=0∨d.kind=1∨d.kind=2∨d.kind=3∨d.kind=4:=by omega
 have e1:∀ K:Bool→Option Bool,Option.bind (cond (d.rcr.params==0) (Option.bind (some (Wn d.rcr.ty)) fun (x3:Bool)=>cond x3 (some ((d.rcr.rules.length:Int)==0)) (some false)) (some false)) K=K (d.rcr.params==0&&Wn d.rcr.ty&&(d.rcr.rules.length:Int)==0):=by
  intro K
  cases (d.rcr.params==0) <;> cases Wn d.rcr.ty <;> rfl
 have e2:∀ (b:Bool) (K:Bool→Option Bool),Option.bind (cond (d.fixed==0) (cond ((d.ctors.length:Int)==0) (some b) (some false)) (some false)) K=K (d.fixed==0&&(d.ctors.length:Int)==0&&b):=by
  intro b K
  cases (d.fixed==0) <;> cases ((d.ctors.length:Int)==0) <;> rfl
 unfold m50
 rw [WE,e1,e2]
 unfold m50_k1 m50_k0 Xm
 rw [WE,WE]
 rcases hk with hk | hk | hk | hk | hk
 all_goals
  rw [hk]
  generalize (d.fixed==0&&(d.ctors.length:Int)==0&&(d.rcr.params==0&&Wn d.rcr.ty&&(d.rcr.rules.length:Int)==0))=w
  generalize ((d.funs.length:Int)==0)=f
  cases Wn d.value <;> cases Wn d.ty <;> cases (d.name==[]) <;> cases w <;> cases f <;> rfl
theorem ty_size (d:Dcl):d.ty.size < d.size:=by unfold Dcl.size;omega
def pisP (d:Dcl):Prop:=d.fixed≤Xw d.ty∧∀ c∈d.ctors,d.fixed≤Xw c.ty
theorem m70_eq (d:Dcl) (h:d.size≤900000000):∃ b,m70 d=some b∧(b=true↔pisP d):=by
 have hc:=YK d
 have ht:=ty_size d
 obtain ⟨b,h1,h2⟩:=Y3 (step:=Wd d) d.ctors (fun i (s:Bool)=>(s,i)) (fun a s=>s=true↔(d.fixed≤Xw d.ty∧∀ c∈a,d.fixed≤Xw c.ty)) (fun r=>r=true↔pisP d) (by omega)
  (fun a x b s e hI=>by
   obtain ⟨q1,q2⟩:=Yv e
   have hx:=Kk (d:=d) (c:=x) (by rw [e];simp)
   have hp:=(pis_eq x.ty (by omega)).1
   cases s with
   | false =>
    refine .inr ⟨false,?_,?_⟩
    ·unfold Wd;dsimp only;rw [q1];rfl
    ·refine ⟨fun h=>(by cases h),fun h=>?_⟩
     exact hI.2 ⟨h.1,fun c hc=>h.2 c (List.mem_append_left _ hc)⟩
   | true =>
    refine .inr ⟨decide (d.fixed≤Xw x.ty),?_,?_⟩
    ·unfold Wd;dsimp only;rw [q1,q2]
     simp only [cond_true,Option.bind_some]
     rw [hp];rfl
    ·have h3:=hI.1 rfl
     rw [decide_eq_true_eq]
     refine ⟨fun h=>⟨h3.1,fun c hc=>?_⟩,fun h=>h.2 x (by simp)⟩
     rcases List.mem_append.1 hc with hc | hc
     ·exact h3.2 c hc
     ·rw [List.mem_singleton.1 hc];exact h)
  (fun s hI=>⟨s,by unfold Wd;dsimp only;rw [J9];rfl,hI⟩) (decide (d.fixed≤Xw d.ty)) (by rw [decide_eq_true_eq];exact ⟨fun h=>⟨h,fun c hc=>by cases hc⟩,fun h=>h.1⟩)
 refine ⟨b,?_,h2⟩
 unfold m70
 rw [(pis_eq d.ty (by omega)).1,Option.bind_some]
 have h1':Qq (Wd d) QI (decide (d.fixed≤Xw d.ty),0)=some b:=h1
 rw [h1'];rfl
theorem types_eq (d:Dcl) (h:d.size≤900000000):Qq (ZP d) QI ([d.ty],0)=some (d.ty::d.ctors.map (·.ty)):=by
 have hc:=YK d
 refine (Y3 (step:=ZP d) d.ctors (fun i (s:List Tm)=>(s,i)) (fun a s=>s=d.ty::a.map (·.ty)) (fun r=>r=d.ty::d.ctors.map (·.ty)) (by omega)
  (fun a x b s e hI=>by
   obtain ⟨q1,q2⟩:=Yv e
   have:=GP e
   refine .inr ⟨s++[x.ty],?_,by rw [hI];simp⟩
   unfold ZP;dsimp only;rw [q1,q2]
   simp only [cond_true,Option.bind_some]
   rw [JI (by rw [hI];simp;omega)])
  (fun s hI=>⟨s,by unfold ZP;dsimp only;rw [J9];rfl,hI⟩) [d.ty] rfl).elim fun r hr=>by rw [← hr.2];exact hr.1
theorem l2_eq (d:Dcl) (l:List Tm) (hl:l.length≤900000000) (h:∀ t∈l,t.size≤900000000):∃ r,Qq (Zt l d) QI 0=some r∧((r=.inl ()∧∀ t∈l,d.fixed≤Xw t)∨(r=.inr (.inr 3)∧¬ ∀ t∈l,d.fixed≤Xw t)):=by
 obtain ⟨r,h1,h2⟩:=loop_bad (β:=Unit⊕(Unit⊕Int)) (step:=Zt l d) l (fun _ t=>¬ d.fixed≤Xw t) (.inr (.inr 3)) (.inl ()) hl (fun a x b e=>by
  obtain ⟨q1,q2⟩:=Yv e
  obtain ⟨-,r,e1,e2⟩:=pis_eq x (h x (by rw [e];simp))
  unfold Zt
  rw [q1,q2]
  simp only [cond_true,Option.bind_some]
  rw [m64_eq,e1,Option.bind_some,e2,GV]
  refine ⟨fun hn=>?_,fun hn=>?_⟩
  ·rw [decide_eq_false hn];rfl
  ·rw [decide_eq_true (Decidable.not_not.1 hn)];rfl) (by unfold Zt;rw [J9];rfl)
 refine ⟨r,h1,?_⟩
 rcases h2 with ⟨h2,h3⟩ | ⟨h2,a,x,b,e,h3⟩
 ·refine .inl ⟨h2,fun t ht=>?_⟩
  obtain ⟨a,b,e⟩:=List.append_of_mem ht
  exact Decidable.not_not.1 (h3 a t b e)
 ·exact .inr ⟨h2,fun hh=>h3 (hh x (by rw [e];simp))⟩
def XM (n:Int):Prop:=-9223372036854775808≤n∧n≤9223372036854775807
theorem w64_mod (n:Int) (h:XM n) (p:Int) (h0:0≤p) (h8:p≤8) (k:Int) (k0:0≤k) (k1:k≤1):Ja (n - p)=k↔n=p+k:=by
 obtain ⟨h1,h2⟩:=h
 show IntKind.i64.wrap (n - p)=k↔_
 rw [IntKind.wrap_i64]
 omega
theorem k3_eq (d:Dcl) (h:d.size≤900000000) (hr:XM d.rcr.params) (hp0:0≤d.params) (hp8:d.params≤8):∃ e,m51_k1 d=some e∧Sm2 e (Ku d):=by
 have hc:=YK d
 obtain ⟨b,h1,h2⟩:=m70_eq d h
 obtain ⟨r,h3,h4⟩:=l2_eq d (d.ty::d.ctors.map (·.ty)) (by simp;omega) (fun t ht=>by
  rcases List.mem_cons.1 ht with rfl | ht
  ·have:=ty_size d;omega
  ·obtain ⟨c,hc,rfl⟩:=List.mem_map.1 ht
   have:=Kk hc;omega)
 have hall:(∀ t∈d.ty::d.ctors.map (·.ty),d.fixed≤Xw t)↔pisP d:=by
  unfold pisP
  simp only [List.mem_cons,List.mem_map,forall_eq_or_imp,forall_exists_index,and_imp,forall_apply_eq_imp_iff₂]
 unfold m51_k1 Ku
 rw [types_eq d h,Yk]
 by_cases hk:d.kind=3
 ·rw [decide_eq_true hk]
  simp only [cond_true,Option.bind_some]
  rw [h1,h3]
  have e1:∀ K:Bool→Option Int,Option.bind (cond (d.rcr.params != d.params) (cond (d.rcr.params != (Ja (d.params+1))) (some true) (cond ((d.rcr.rules.length:Int) != (d.ctors.length:Int)) (some true) (Option.bind (some b) fun (b0_:Bool)=>some (!b0_)))) (cond ((d.rcr.rules.length:Int) != (d.ctors.length:Int)) (some true) (Option.bind (some b) fun (b1_:Bool)=>some (!b1_)))) K
    = K (!(decide (d.rcr.params=d.params∨d.rcr.params=d.params+1)&&((d.rcr.rules.length:Int)==(d.ctors.length:Int))&&b)):=by
   intro K
   rw [W6 (n:=d.params+1) (by omega) (by omega)]
   show Option.bind (cond (!(d.rcr.params==d.params)) (cond (!(d.rcr.params==d.params+1)) (some true) (cond (!((d.rcr.rules.length:Int)==(d.ctors.length:Int))) (some true) (some (!b)))) (cond (!((d.rcr.rules.length:Int)==(d.ctors.length:Int))) (some true) (some (!b)))) K=_
   rw [Yk,Yk]
   cases ((d.rcr.rules.length:Int)==(d.ctors.length:Int)) <;> by_cases c1:d.rcr.params=d.params
   ·rw [decide_eq_true c1,decide_eq_true (Or.inl c1)];rfl
   ·rw [decide_eq_false c1]
    by_cases c2:d.rcr.params=d.params+1
    ·rw [decide_eq_true c2,decide_eq_true (Or.inr c2)];rfl
    ·rw [decide_eq_false c2,decide_eq_false (by omega)];rfl
   ·rw [decide_eq_true c1,decide_eq_true (Or.inl c1)];rfl
   ·rw [decide_eq_false c1]
    by_cases c2:d.rcr.params=d.params+1
    ·rw [decide_eq_true c2,decide_eq_true (Or.inr c2)];rfl
    ·rw [decide_eq_false c2,decide_eq_false (by omega)];rfl
  rw [e1]
  have e2:∀ K:Unit⊕(Unit⊕Int)→Option (Unit⊕Int),Option.bind (cond ((Ja (d.rcr.params - d.params))==0) (Option.bind (Jt ((d.rcr.rules.length:Int)==(d.ctors.length:Int)) 3) (Sum.elim (fun (b0_:Unit)=>some (.inl ())) (fun (b1_:Unit)=>some (.inr (.inr 3)))))
    (cond ((Ja (d.rcr.params - d.params))==1) (Option.bind (Jt ((d.rcr.rules.length:Int)==(d.ctors.length:Int)) 3) (Sum.elim (fun (b2_:Unit)=>some (.inl ())) (fun (b3_:Unit)=>some (.inr (.inr 3))))) (Option.bind (Jt false 3) (Sum.elim (fun (b4_:Unit)=>some (.inl ())) (fun (b5_:Unit)=>some (.inr (.inr 3))))))) K
    = cond (decide (d.rcr.params=d.params∨d.rcr.params=d.params+1)&&((d.rcr.rules.length:Int)==(d.ctors.length:Int))) (K (.inl ())) (K (.inr (.inr 3))):=by
   intro K
   have g0:=w64_mod d.rcr.params hr d.params hp0 hp8 0 (by omega) (by omega)
   have g1:=w64_mod d.rcr.params hr d.params hp0 hp8 1 (by omega) (by omega)
   rw [Int.add_zero] at g0
   rw [Yk (Ja (d.rcr.params - d.params)) 0,Yk (Ja (d.rcr.params - d.params)) 1]
   by_cases c1:d.rcr.params=d.params
   ·rw [decide_eq_true (g0.2 c1),decide_eq_true (Or.inl c1)]
    cases ((d.rcr.rules.length:Int)==(d.ctors.length:Int)) <;> rfl
   ·rw [decide_eq_false (fun h=>c1 (g0.1 h))]
    by_cases c2:d.rcr.params=d.params+1
    ·rw [decide_eq_true (g1.2 c2),decide_eq_true (Or.inr c2)]
     cases ((d.rcr.rules.length:Int)==(d.ctors.length:Int)) <;> rfl
    ·rw [decide_eq_false (fun h=>c2 (g1.1 h)),decide_eq_false (by omega)];rfl
  rw [e2]
  cases (decide (d.rcr.params=d.params∨d.rcr.params=d.params+1)&&((d.rcr.rules.length:Int)==(d.ctors.length:Int))) with
  | false=>exact ⟨3,rfl,.no (by omega) rfl⟩
  | true =>
   rcases h4 with ⟨rfl,h5⟩ | ⟨rfl,h5⟩
   ·rw [h2.2 (hall.1 h5)];exact ⟨0,rfl,.ok rfl⟩
   ·have:b=false:=by rw [Bool.eq_false_iff];exact fun h=>h5 (hall.2 (h2.1 h))
    rw [this];exact ⟨3,rfl,.no (by omega) rfl⟩
 ·rw [decide_eq_false hk];exact ⟨0,rfl,.ok rfl⟩
theorem k4_eq (d:Dcl) (h:d.size≤900000000) (hr:XM d.rcr.params):∃ e,D4 d=some e∧Sm2 e (Za d):=by
 have hf:=Zx d
 unfold D4 Za
 by_cases c1:d.params < 0
 ·rw [decide_eq_true c1,decide_eq_false (show ¬ 0≤d.params by omega)];exact ⟨2,rfl,.no (by omega) rfl⟩
 rw [decide_eq_false c1,decide_eq_true (show 0≤d.params by omega)]
 by_cases c2:8 < d.params
 ·rw [decide_eq_true c2,decide_eq_false (show ¬ d.params≤8 by omega)];exact ⟨2,rfl,.no (by omega) rfl⟩
 rw [decide_eq_false c2,decide_eq_true (show d.params≤8 by omega)]
 by_cases c3:d.fixed < 0
 ·rw [decide_eq_true c3,decide_eq_false (show ¬ 0≤d.fixed by omega)];exact ⟨2,rfl,.no (by omega) rfl⟩
 rw [decide_eq_false c3,decide_eq_true (show 0≤d.fixed by omega)]
 show ∃ e,XA false d=some e∧Sm2 e (GY d)
 unfold XA GY
 have tail:∃ e,Option.bind (Qq (Wg d) QI 0) (Sum.elim (fun (b1_:Unit)=>m51_k1 d) (fun o=>some o))=some e∧Sm2 e (Option.bind (Qq (ZQ d) QI 0) (Sum.elim (fun (b9_:Unit)=>Ku d) (fun o=>some o))):=by
  obtain ⟨e,h1,h2⟩:=YC (β1:=Unit⊕Int) (β2:=Unit⊕(Unit⊕Int)) (step1:=Wg d) (step2:=ZQ d) d.funs (.inl ()) (.inl ()) .inr (fun e=>.inr (.inr e)) (by omega) (fun a x b e=>by
   obtain ⟨q1,q2⟩:=Yv e
   unfold Wg ZQ
   rw [q1,q2]
   simp only [cond_true,Option.bind_some]
   by_cases a1:x.arity < 1
   ·rw [decide_eq_true a1,decide_eq_false (show ¬ 1≤x.arity by omega)];exact ⟨3,fun h=>by omega,fun _=>⟨rfl,rfl⟩⟩
   rw [decide_eq_false a1,decide_eq_true (show 1≤x.arity by omega)]
   by_cases a2:16 < x.arity
   ·rw [decide_eq_true a2,decide_eq_false (show ¬ x.arity≤16 by omega)];exact ⟨3,fun h=>by omega,fun _=>⟨rfl,rfl⟩⟩
   rw [decide_eq_false a2,decide_eq_true (show x.arity≤16 by omega)]
   exact ⟨0,fun _=>⟨Z,Z⟩,fun h=>(h Z).elim⟩)
   (by unfold Wg;rw [J9];rfl) (by unfold ZQ;rw [J9];rfl)
  by_cases he:e=0
  ·obtain ⟨e1,e2⟩:=h1 he
   rw [e1,e2]
   exact k3_eq d h hr (by omega) (by omega)
  ·obtain ⟨e1,e2⟩:=h2 he
   rw [e1,e2];exact ⟨e,rfl,.no he rfl⟩
 by_cases c4:32 < (d.ctors.length:Int)
 ·rw [decide_eq_true c4,decide_eq_false (show ¬ (d.ctors.length:Int)≤32 by omega)];exact ⟨6,rfl,.no (by omega) rfl⟩
 rw [decide_eq_false c4,decide_eq_true (show (d.ctors.length:Int)≤32 by omega)]
 cases (d.kind==4) with
 | false=>exact tail
 | true =>
  by_cases c5:(d.funs.length:Int) < 1
  ·rw [decide_eq_true c5,decide_eq_false (show ¬ 1≤(d.funs.length:Int) by omega)];exact ⟨6,rfl,.no (by omega) rfl⟩
  rw [decide_eq_false c5,decide_eq_true (show 1≤(d.funs.length:Int) by omega)]
  by_cases c6:8 < (d.funs.length:Int)
  ·rw [decide_eq_true c6,decide_eq_false (show ¬ (d.funs.length:Int)≤8 by omega)];exact ⟨6,rfl,.no (by omega) rfl⟩
  rw [decide_eq_false c6,decide_eq_true (show (d.funs.length:Int)≤8 by omega)]
  exact tail
end Go.Proofs.Ytafddfoefeploaa
namespace Go.Proofs.Ytafddfoefeploaa
open Go.RowKit Go.Shelf
def Dc (d:Dcl) (k:Int) (M M':Qc Bs Ent):Prop:=∀ n,ZT M' n=(JN d k n).elim (ZT M n) some
theorem firstN_snoc {α:Type} (nm:α→Bs) (n:Bs) (x:α):∀ (l:List α) (k:Nat),JB nm n (l++[x]) k=(JB nm n l k).elim (if nm x=n then some (k+l.length,x) else none) some
 | [],k=>by
  rw [List.nil_append,JB,JB]
  split <;> rfl
 | y::l,k=>by
  rw [List.cons_append,JB,JB]
  by_cases h:nm y=n
  ·rw [if_pos h,if_pos h];rfl
  ·rw [if_neg h,if_neg h,firstN_snoc nm n x l (k+1),List.length_cons,show k+1+l.length=k+(l.length+1) from by omega]
theorem firstN_no {α:Type} (nm:α→Bs) (n:Bs) (l:List α) (k:Nat) (h:n∉l.map nm):JB nm n l k=none:=by
 have:=firstN_is nm n l k
 rw [decide_eq_false h] at this
 cases hf:JB nm n l k with
 | none=>rfl
 | some p=>rw [hf] at this;cases this
theorem fold_book {α:Type} {step:Int×(Qc Bs Ent)→Option (LO (Int×(Qc Bs Ent)) (Qc Bs Ent))} (nm:α→Bs) (g:Int→α→Ent) (l:List α) (M:Qc Bs Ent) (hlen:l.length≤900000000) (hnd:(l.map nm).Nodup)
  (hin:∀ (a:List α) (x:α) (b:List α) (s:Qc Bs Ent),l=a++x::b→step ((a.length:Int),s)=some (.next (Ja ((a.length:Int)+1),J3 s (nm x) (g (a.length:Int) x))))
  (hout:∀ s,step ((l.length:Int),s)=some (.done s)):∃ M',Qq step QI (0,M)=some M'∧∀ n,ZT M' n=(JB nm n l 0).elim (ZT M n) fun p=>some (g (p.1:Int) p.2):=by
 refine Y3 (step:=step) l (fun i (s:Qc Bs Ent)=>(i,s)) (fun a s=>∀ n,ZT s n=(JB nm n a 0).elim (ZT M n) fun p=>some (g (p.1:Int) p.2)) (fun M'=>∀ n,ZT M' n=(JB nm n l 0).elim (ZT M n) fun p=>some (g (p.1:Int) p.2)) hlen
  (fun a x b s e hI=>.inr ⟨_,hin a x b s e,fun n=>?_⟩) (fun s hI=>⟨s,hout s,hI⟩) M (fun n=>rfl)
 rw [Kj,firstN_snoc,Nat.zero_add]
 by_cases h:n=nm x
 ·have hno:n∉a.map nm:=by
   rw [e,List.map_append,List.map_cons] at hnd
   intro hm
   exact (List.nodup_append.1 hnd).2.2 n hm (nm x) (List.mem_cons_self ..) h
  rw [if_pos h,firstN_no nm n a 0 hno,if_pos h.symm];rfl
 ·rw [if_neg h,hI n,if_neg (fun h'=>h h'.symm)]
  cases JB nm n a 0 <;> rfl
theorem rec_ne (d:Dcl) (h:d.size≤800000000):d.name.length+4≤1000000000:=by
 have:=name_len d;omega
theorem decl_book (d:Dcl) (env:List Dcl) (M:Qc Bs Ent) (h:d.size≤800000000) (hnd:(Je d).Nodup):∃ M',Option.bind (cond (d.kind==0) (some (d.kind==0)) (cond (d.kind==1) (some (d.kind==1)) (some (d.kind==2)))) (fun (b1_:Bool)=>Gi b1_ d M env)=some M'∧Dc d (env.length:Int) M M':=by
 have hc:=YK d
 have hf:=Zx d
 rw [kinds_eq]
 show ∃ M',Gi (decide (d.kind=0∨d.kind=1∨d.kind=2)) d M env=some M'∧_
 unfold Gi
 by_cases hk:d.kind=0∨d.kind=1∨d.kind=2
 ·rw [decide_eq_true hk]
  have e1:Jx ([0,1,2]:List Int) d.kind=some d.kind:=by rcases hk with e | e | e <;> rw [e] <;> rfl
  rw [cond_true,e1]
  refine ⟨_,Z,fun n=>?_⟩
  unfold JN
  rw [Kj,if_pos hk]
  by_cases hn:n=d.name
  ·rw [if_pos hn,if_pos hn.symm];rfl
  ·rw [if_neg hn,if_neg (fun h=>hn h.symm)];rfl
 ·rw [decide_eq_false hk,cond_false,Yk]
  by_cases h3:d.kind=3
  ·rw [decide_eq_true h3,cond_true]
   have hn3:Je d=(d.name::d.ctors.map (·.name))++[d.name++WA]:=by unfold Je;rw [if_neg hk,if_pos h3];rfl
   rw [hn3] at hnd
   have hd1:=(List.nodup_append.1 hnd).1
   have hd2:=(List.nodup_cons.1 hd1)
   have hd3:=(List.nodup_append.1 hnd).2.2
   obtain ⟨M',e1,e2⟩:=fold_book (step:=Kx d env) (·.name) (fun i (c:Ctr)=>⟨4,(env.length:Int),i,d.params,c.ty⟩) d.ctors (J3 M d.name (⟨3,(env.length:Int),0,d.params,d.ty⟩:Ent)) (by omega) hd2.2
    (fun a x b s e=>by obtain ⟨q1,q2⟩:=Yv e;unfold Kx;dsimp only;rw [q1,q2];rfl) (fun s=>by unfold Kx;dsimp only;rw [J9];rfl)
   show ∃ M',Option.bind (Qq (Kx d env) QI (0,J3 M d.name (⟨3,(env.length:Int),0,d.params,d.ty⟩:Ent))) (fun b3_=>GZ d b3_ env)=some M'∧_
   rw [e1]
   simp only [Option.bind_some]
   unfold GZ
   rw [JI (by have:=rec_ne d h;show d.name.length+4≤_;omega)]
   refine ⟨_,Z,fun n=>?_⟩
   rw [Kj,e2,Kj]
   unfold JN
   rw [if_neg hk,if_pos h3]
   show (if n=d.name++WA then _ else _)=_
   by_cases hr:n=d.name++WA
   ·have hne:¬ d.name=n:=fun h=>hd3 d.name (List.mem_cons_self ..) _ (List.mem_singleton_self _) (by rw [← hr];exact h)
    have hno:n∉d.ctors.map (·.name):=fun hm=>hd3 n (List.mem_cons_of_mem _ hm) _ (List.mem_singleton_self _) hr
    rw [if_pos hr,if_neg hne,firstN_no _ _ _ _ hno]
    simp only
    rw [if_pos hr.symm];rfl
   ·rw [if_neg hr]
    by_cases hn:n=d.name
    ·have hno:n∉d.ctors.map (·.name):=by rw [hn];exact hd2.1
     rw [firstN_no _ _ _ _ hno,if_pos hn,if_pos hn.symm];rfl
    ·rw [if_neg hn,if_neg (fun h=>hn h.symm)]
     cases hf:JB (·.name) n d.ctors 0 with
     | none=>simp only;rw [if_neg (fun h=>hr h.symm)];rfl
     | some p=>rfl
  ·rw [decide_eq_false h3,cond_false,Yk]
   by_cases h4:d.kind=4
   ·rw [decide_eq_true h4,cond_true]
    have hn4:Je d=d.funs.map (·.name):=by unfold Je;rw [if_neg hk,if_neg h3,if_pos h4]
    rw [hn4] at hnd
    obtain ⟨M',e1,e2⟩:=fold_book (step:=Gh d env) (·.name) (fun i (c:Fn)=>⟨6,(env.length:Int),i,d.params,c.ty⟩) d.funs M (by omega) hnd
     (fun a x b s e=>by obtain ⟨q1,q2⟩:=Yv e;unfold Gh;dsimp only;rw [q1,q2];rfl) (fun s=>by unfold Gh;dsimp only;rw [J9];rfl)
    rw [e1]
    refine ⟨M',Z,fun n=>?_⟩
    rw [e2]
    unfold JN
    rw [if_neg hk,if_neg h3,if_pos h4]
    cases JB (·.name) n d.funs 0 <;> rfl
   ·rw [decide_eq_false h4]
    refine ⟨M,Z,fun n=>?_⟩
    unfold JN
    rw [if_neg hk,if_neg h3,if_neg h4];rfl
theorem decl_own (d:Dcl) (env:List Dcl) (h:d.size≤800000000) (hnd:(Je d).Nodup):∃ M',Option.bind (cond (d.kind==0) (some (d.kind==0)) (cond (d.kind==1) (some (d.kind==1)) (some (d.kind==2)))) (fun (v5:Bool)=>m47f10_k3 v5 d env)=some M'∧Dc d (env.length:Int) gmNil M':=decl_book d env gmNil h hnd
theorem decl_next (d:Dcl) (env:List Dcl) (M:Qc Bs Ent) (x:List Dcl) (h:d.size≤800000000) (hnd:(Je d).Nodup):∃ M',Option.bind (cond (d.kind==0) (some (d.kind==0)) (cond (d.kind==1) (some (d.kind==1)) (some (d.kind==2)))) (fun (v12:Bool)=>WQ v12 d ((env.length:Int),M,x))=some M'∧Dc d (env.length:Int) M M':=decl_book d env M h hnd
theorem Ow.nil (d:Dcl) (k:Int):Ow [] d k gmNil:=fun n=>⟨fun h=>(by cases h),by rw [if_neg (by intro h;cases h)];rfl⟩
theorem Ow.snoc {own:List Bs} {d:Dcl} {k:Int} {O Y:Qc Bs Ent} (h:Ow own d k O) (hY:Dc d k gmNil Y) (s:Bs) (hs:s∈Je d):Ow (own++[s]) d k (J3 O s (⟨(Qm Y s).kind,(Qm Y s).decl,(Qm Y s).item,(Qm Y s).params,((Qm Y s).ty)⟩:Ent)):=by
 intro n
 refine ⟨fun hn=>?_,?_⟩
 ·rcases List.mem_append.1 hn with hn | hn
  ·exact (h n).1 hn
  ·rw [List.mem_singleton.1 hn];exact hs
 ·rw [Kj]
  by_cases e:n=s
  ·rw [if_pos e,if_pos (by rw [e];simp),e]
   have hi:=GC d k s
   rw [decide_eq_true hs] at hi
   have hy:=hY s
   cases hl:JN d k s with
   | none=>rw [hl] at hi;cases hi
   | some en =>
    rw [hl] at hy
    have:Qm Y s=en:=by unfold Qm;rw [hy];rfl
    rw [this]
  ·rw [if_neg e,(h n).2]
   by_cases hn:n∈own
   ·rw [if_pos hn,if_pos (List.mem_append_left _ hn)]
   ·rw [if_neg hn,if_neg (by rw [List.mem_append,List.mem_singleton];exact fun h=>h.elim hn e)]
theorem Dc.ow {d:Dcl} {k:Int} {Y:Qc Bs Ent} (hY:Dc d k gmNil Y):Ow (Je d) d k Y:=by
 intro n
 refine ⟨fun h=>h,?_⟩
 rw [hY n]
 by_cases hn:n∈Je d
 ·rw [if_pos hn]
  have hi:=GC d k n
  rw [decide_eq_true hn] at hi
  cases hl:JN d k n with
  | none=>rw [hl] at hi;cases hi
  | some en=>rfl
 ·rw [if_neg hn]
  have hi:=GC d k n
  rw [decide_eq_false hn] at hi
  cases hl:JN d k n with
  | none=>rfl
  | some en=>rw [hl] at hi;cases hi
theorem findO_snoc (a:List Dcl) (x:Dcl) (n:Bs):Yu (a++[x]) n=(Yu a n).elim (JN x (a.length:Int) n) some:=by
 unfold Yu
 rw [XZ,Nat.zero_add]
 congr 1
 show (JN x (a.length:Int) n).elim none some=_
 cases JN x (a.length:Int) n <;> rfl
theorem Bk.next {a:List Dcl} {x:Dcl} {M M':Qc Bs Ent} (h:Bk a M) (hd:Dc x (a.length:Int) M M') (hf:∀ n∈Je x,Yu a n=none):Bk (a++[x]) M':=by
 intro n
 rw [hd n,h n,findO_snoc]
 have hi:=GC x (a.length:Int) n
 by_cases hn:n∈Je x
 ·rw [hf n hn]
  cases JN x (a.length:Int) n <;> rfl
 ·rw [decide_eq_false hn] at hi
  cases hl:JN x (a.length:Int) n with
  | none=>cases Yu a n <;> rfl
  | some en=>rw [hl] at hi;cases hi
end Go.Proofs.Ytafddfoefeploaa
namespace Go.Proofs.Ytafddfoefeploaa
open Go.RowKit Go.Shelf
theorem fn_size {d:Dcl} {f:Fn} (h:f∈d.funs):f.ty.size+f.tree.size+f.name.length < d.size:=by
 have h1:=Zc fsz h
 have h2:fsz f=1+f.name.length+f.ty.size+f.tree.size:=rfl
 unfold Dcl.size;omega
theorem names_mem_len {d:Dcl} {n:Bs} (h:n∈Je d):n.length≤d.size+4:=by
 have hd:=name_len d
 unfold Je at h
 split at h
 ·rw [List.mem_singleton.1 h];omega
 ·split at h
  ·rcases List.mem_append.1 h with h | h
   ·rcases List.mem_cons.1 h with h | h
    ·rw [h];omega
    ·obtain ⟨c,hc,rfl⟩:=List.mem_map.1 h
     have:=Kk hc
     omega
   ·rw [List.mem_singleton.1 h,List.length_append]
    show d.name.length+4≤_
    omega
  ·split at h
   ·obtain ⟨c,hc,rfl⟩:=List.mem_map.1 h
    have:=fn_size hc
    omega
   ·cases h
theorem take_mid {α:Type} {l a b:List α} (e:l=a++b):l.take a.length=a:=by rw [e];simp
def NmOk (env:List Dcl) (d:Dcl):Prop:=(Je d).Nodup∧(∀ n∈Je d,Yu env n=none)∧∀ n∈Je d,ZH n=true
theorem names_ok (env:List Dcl) (d:Dcl) (M:Qc Bs Ent) (hM:Bk env M) (he:Yc env≤800000000) (hd:d.size≤800000000) :
  ∃ e:Int,UU env d=some e∧Sm2 e (U1 d env M)∧(e=0→NmOk env d):=by
 have hnl:=G8 d
 unfold UU U1
 rw [Wj d (by omega),m20_eq d (by omega),Option.bind_some,Option.bind_some]
 obtain ⟨r1,r2,h1,h2,h3⟩:=loop2 (β1:=Unit⊕Int) (β2:=(Qc Bs Bool)⊕(Unit⊕Int)) (step1:=G1 (Je d) env) (step2:=Ks (Je d) M) (Je d) (fun i (_:Unit)=>i) (fun i (s:Qc Bs Bool)=>(i,s))
  (fun a _ s=>(∀ n,Qm s n=decide (n∈a))∧a.Nodup∧(∀ n∈a,Yu env n=none)∧∀ n∈a,ZH n=true) (fun r1 r2=>(r1=.inl ()∧∃ s,r2=.inl s∧NmOk env d)∨∃ e,e ≠ 0∧r1=.inr e∧r2=.inr (.inr e)) (by omega)
  (fun a x b _ s e hI=>by
   obtain ⟨q1,q2⟩:=Yv e
   have hx:x.length≤900000000:=by have:=names_mem_len (d:=d) (n:=x) (by rw [e];simp);omega
   have hm:=GP e
   obtain ⟨hs,hnd,hfr,hnk⟩:=hI
   unfold G1 Ks
   dsimp only
   rw [q1,q2]
   simp only [cond_true,Option.bind_some]
   rw [m71_eq x hx,m65_eq x hx,Option.bind_some,Option.bind_some,GV]
   cases hnx:ZH x with
   | false=>exact .inl ⟨_,_,rfl,rfl,.inr ⟨29,by omega,rfl,rfl⟩⟩
   | true =>
    have hMx:=hM x
    simp only [Bool.not_true,cond_false,cond_true,Option.bind_some,Sum.elim_inl]
    rw [WL env x he]
    unfold ZD
    cases hf:Yu env x with
    | some en =>
     rw [hf] at hMx
     have g1:Yt M x=true:=by unfold Yt;rw [hMx];rfl
     rw [g1]
     exact .inl ⟨_,_,rfl,rfl,.inr ⟨8,by omega,rfl,rfl⟩⟩
    | none =>
     rw [hf] at hMx
     have g1:Yt M x=false:=by unfold Yt;rw [hMx];rfl
     rw [g1,hs x]
     have g2:Jh (cond (decide ((0:Int)≤(a.length:Int))) (Nat.ble ((a.length:Int)).toNat (Je d).length) false) (Option.bind (UB ((Je d).take ((a.length:Int)).toNat) x) fun (x13:Bool)=>some x13)=some (decide (x∈a)):=by
      rw [decide_eq_true (show (0:Int)≤(a.length:Int) by omega),cond_true]
      show Jh (Nat.ble a.length (Je d).length) (Option.bind (UB ((Je d).take a.length) x) _)=_
      rw [JI (by omega),take_mid e,m33_eq a x (by omega)];rfl
     show (∃ r1 r2,Option.bind (Jh (cond (decide ((0:Int)≤(a.length:Int))) (Nat.ble ((a.length:Int)).toNat (Je d).length) false) (Option.bind (UB ((Je d).take ((a.length:Int)).toNat) x) fun (x13:Bool)=>some x13)) _=_∧_)∨(∃ s1' s2',Option.bind (Jh (cond (decide ((0:Int)≤(a.length:Int))) (Nat.ble ((a.length:Int)).toNat (Je d).length) false) (Option.bind (UB ((Je d).take ((a.length:Int)).toNat) x) fun (x13:Bool)=>some x13)) _=_∧_)
     rw [g2]
     by_cases hxa:x∈a
     ·rw [decide_eq_true hxa]
      exact .inl ⟨_,_,rfl,rfl,.inr ⟨8,by omega,rfl,rfl⟩⟩
     ·rw [decide_eq_false hxa]
      refine .inr ⟨(),J3 s x true,Z,Z,fun n=>?_,?_,fun n hn=>?_,fun n hn=>?_⟩
      ·rw [gmVal_set]
       by_cases hn:n=x
       ·rw [if_pos hn,decide_eq_true (by rw [hn];simp)]
       ·rw [if_neg hn,hs n]
        congr 1
        rw [List.mem_append,List.mem_singleton,eq_iff_iff]
        exact ⟨.inl,fun h=>h.resolve_right hn⟩
      ·rw [List.nodup_append]
       refine ⟨hnd,by simp,fun y hy z hz=>?_⟩
       rw [List.mem_singleton.1 hz]
       exact fun h=>hxa (h▸hy)
      ·rcases List.mem_append.1 hn with hn | hn
       ·exact hfr n hn
       ·rw [List.mem_singleton.1 hn];exact hf
      ·rcases List.mem_append.1 hn with hn | hn
       ·exact hnk n hn
       ·rw [List.mem_singleton.1 hn];exact hnx)
  (fun _ s hI=>⟨.inl (),.inl s,by unfold G1;rw [J9];rfl,by unfold Ks;dsimp only;rw [J9];rfl,.inl ⟨rfl,s,rfl,hI.2⟩⟩) () gmNil ⟨fun n=>by rw [decide_eq_false (by intro h;cases h)];rfl,List.nodup_nil,(fun n hn=>by cases hn),fun n hn=>by cases hn⟩
 have h2':Qq (Ks (Je d) M) QI (0,gmNil)=some r2:=h2
 have h1':Qq (G1 (Je d) env) QI 0=some r1:=h1
 rw [h1',h2']
 rcases h3 with ⟨rfl,s,rfl,h4⟩ | ⟨e,h4,rfl,rfl⟩
 ·exact ⟨0,rfl,.ok rfl,fun _=>h4⟩
 ·exact ⟨e,rfl,.no h4 rfl,fun h=>(h4 h).elim⟩
theorem rule_size {d:Dcl} {r:Tm} (h:r∈d.rcr.rules):r.size < d.size:=by
 have:=Zc Tm.size h
 unfold Dcl.size;omega
theorem rty_size (d:Dcl):d.rcr.ty.size < d.size:=by unfold Dcl.size;omega
theorem value_size (d:Dcl):d.value.size < d.size:=by unfold Dcl.size;omega
theorem ind_eq (env:List Dcl) (d:Dcl) (M:Qc Bs Ent) (hM:Bk env M) (he:Yc env≤800000000) (hd:d.size≤800000000) (hnd:(Je d).Nodup) (hk:d.kind=3) :
  ∃ e:Int,Option.bind (Qq (WI d env) QI 0) (Sum.elim (fun (b1_:Unit)=>m53_k2 d env) (fun o=>some o))=some e ∧
   (e=0→∃ O,Wh d env M gmNil=some (.inl O))∧(e ≠ 0→∃ O,Wh d env M gmNil=some (.inr (e,O))):=by
 have hc:=YK d
 have hrl:=rules_len d
 have hn3:Je d=(d.name::d.ctors.map (·.name))++[d.name++WA]:=by unfold Je;rw [if_neg (by rw [hk];decide),if_pos hk];rfl
 obtain ⟨Y,hY1,hY2⟩:=decl_own d env hd hnd
 have hO1:Ow [d.name] d (env.length:Int) (J3 gmNil d.name (⟨(Qm Y d.name).kind,(Qm Y d.name).decl,(Qm Y d.name).item,(Qm Y d.name).params,((Qm Y d.name).ty)⟩:Ent)) :=
  (Ow.nil d (env.length:Int)).snoc hY2 d.name (by rw [hn3];simp)
 have hmem:∀ c∈d.ctors,c.name∈Je d:=fun c hc=>by rw [hn3];exact List.mem_append_left _ (List.mem_cons_of_mem _ (List.mem_map.2 ⟨c,hc,rfl⟩))
 unfold Wh
 rw [hY1]
 simp only [Option.bind_some]
 obtain ⟨e,h1,h2⟩:=YC (β1:=Unit⊕Int) (β2:=Unit⊕((Qc Bs Ent)⊕(Int×(Qc Bs Ent)))) (step1:=WI d env) (step2:=Kf d env M gmNil Y) d.ctors (.inl ()) (.inl ()) .inr (fun e=>.inr (.inr (e,_))) (by omega) (fun a x b e=>by
  obtain ⟨q1,q2⟩:=Yv e
  have hx:=Kk (d:=d) (c:=x) (by rw [e];simp)
  obtain ⟨e',w1,w2,w3⟩:=XB ⟨env,[d.name],d⟩ M _ ⟨he,by simp,hd,hM,hO1⟩ x.ty 0 d.params (by omega)
  unfold WI Kf
  rw [q1,q2]
  simp only [cond_true,Option.bind_some]
  rw [w1]
  refine ⟨e',fun he=>?_,fun he=>?_⟩
  ·have w4:=w2 he
   rw [w4];subst he;exact ⟨rfl,rfl⟩
  ·have w4:=w3 he
   rw [w4];exact ⟨Xb he _ _,rfl⟩)
  (by unfold WI;rw [J9];rfl) (by unfold Kf;rw [J9];rfl)
 by_cases he1:e ≠ 0
 ·obtain ⟨e1,e2⟩:=h2 he1
  rw [e1,e2]
  exact ⟨e,Z,fun h=>(he1 h).elim,fun _=>⟨_,Z⟩⟩
 obtain ⟨e1,e2⟩:=h1 (Decidable.not_not.1 he1)
 rw [e1,e2]
 show ∃ e:Int,m53_k2 d env=some e∧(e=0→∃ O,Kg d Y gmNil env M=some (.inl O))∧(e ≠ 0→∃ O,Kg d Y gmNil env M=some (.inr (e,O)))
 obtain ⟨O2,h3,h4⟩:=Y3 (step:=ZJ d Y) d.ctors (fun i (s:Qc Bs Ent)=>(i,s)) (fun a s=>Ow (d.name::a.map (·.name)) d (env.length:Int) s) (fun s=>Ow (d.name::d.ctors.map (·.name)) d (env.length:Int) s) (by omega)
  (fun a x b s e hI=>by
   obtain ⟨q1,q2⟩:=Yv e
   refine .inr ⟨_,by unfold ZJ;dsimp only;rw [q1,q2];rfl,?_⟩
   have:=hI.snoc hY2 x.name (hmem x (by rw [e];simp))
   rw [List.map_append]
   exact this)
  (fun s hI=>⟨s,by unfold ZJ;dsimp only;rw [J9];rfl,hI⟩) _ hO1
 have h3':Qq (ZJ d Y) QI (0,(J3 gmNil d.name (⟨(Qm Y d.name).kind,(Qm Y d.name).decl,(Qm Y d.name).item,(Qm Y d.name).params,((Qm Y d.name).ty)⟩:Ent)))=some O2:=h3
 unfold Kg
 rw [h3',Option.bind_some]
 unfold m47f10_k8 m53_k2
 rw [Wj d (by omega),Option.bind_some]
 have hlen:(Je d).length=d.ctors.length+2:=by rw [hn3];simp
 have hw:Ja (((Je d).length:Int) - 1)=((d.ctors.length+1:Nat):Int):=by rw [hlen,W6 (by omega) (by omega)];omega
 rw [hw,decide_eq_true (show (0:Int)≤((d.ctors.length+1:Nat):Int) by omega),cond_true]
 show ∃ e:Int,Jh (Nat.ble (d.ctors.length+1) (Je d).length) (Option.bind (Uw ⟨env,(Je d).take (d.ctors.length+1),d⟩ d.rcr.ty 0 d.rcr.params) _)=some e∧_
 have htake:(Je d).take (d.ctors.length+1)=d.name::d.ctors.map (·.name):=by
  rw [hn3]
  have:d.ctors.length+1=(d.name::d.ctors.map (·.name)).length:=by simp
  rw [this,List.take_left']
  rfl
 rw [JI (by omega),htake]
 obtain ⟨e',w1,w2,w3⟩:=XB ⟨env,d.name::d.ctors.map (·.name),d⟩ M O2 ⟨he,by simp;omega,hd,hM,h4⟩ d.rcr.ty 0 d.rcr.params (by have:=rty_size d;omega)
 rw [w1]
 by_cases he2:e' ≠ 0
 ·have w4:=w3 he2
  rw [w4]
  simp only [Option.bind_some,W5 he2,cond_true]
  exact ⟨e',Z,fun h=>(he2 h).elim,fun _=>⟨_,Z⟩⟩
 have he2':=Decidable.not_not.1 he2
 have w4:=w2 he2'
 subst he2'
 rw [w4]
 simp only [Option.bind_some,Sum.elim_inl]
 rw [JI (by have:=rec_ne d hd;show d.name.length+4≤_;omega)]
 show ∃ e:Int,Option.bind (Qq (WH d env (Je d)) QI 0) _=some e∧_
 have hO3:Ow (Je d) d (env.length:Int) (J3 O2 (d.name++([46,114,101,99]:List UInt8)) (⟨(Qm Y (d.name++([46,114,101,99]:List UInt8))).kind,(Qm Y (d.name++([46,114,101,99]:List UInt8))).decl,(Qm Y (d.name++([46,114,101,99]:List UInt8))).item,(Qm Y (d.name++([46,114,101,99]:List UInt8))).params,((Qm Y (d.name++([46,114,101,99]:List UInt8))).ty)⟩:Ent)):=by
  have:=h4.snoc hY2 (d.name++WA) (by rw [hn3];simp)
  rw [← hn3] at this
  exact this
 obtain ⟨e,h5,h6⟩:=YC (β1:=Unit⊕Int) (β2:=Unit⊕((Qc Bs Ent)⊕(Int×(Qc Bs Ent)))) (step1:=WH d env (Je d)) (step2:=Ke d env M O2 Y) d.rcr.rules (.inl ()) (.inl ()) .inr (fun e=>.inr (.inr (e,_))) (by omega) (fun a x b e=>by
  obtain ⟨q1,q2⟩:=Yv e
  have hx:=rule_size (d:=d) (r:=x) (by rw [e];simp)
  obtain ⟨e',w1,w2,w3⟩:=XB ⟨env,Je d,d⟩ M _ ⟨he,by show (Je d).length≤_;omega,hd,hM,hO3⟩ x 0 d.rcr.params (by omega)
  unfold WH Ke
  rw [q1,q2]
  simp only [cond_true,Option.bind_some]
  rw [w1]
  refine ⟨e',fun he=>?_,fun he=>?_⟩
  ·have w4:=w2 he
   rw [w4];subst he;exact ⟨rfl,rfl⟩
  ·have w4:=w3 he
   rw [w4];exact ⟨Xb he _ _,rfl⟩)
  (by unfold WH;rw [J9];rfl) (by unfold Ke;rw [J9];rfl)
 by_cases he3:e ≠ 0
 ·obtain ⟨e1,e2⟩:=h6 he3
  rw [e1,e2]
  exact ⟨e,Z,fun h=>(he3 h).elim,fun _=>⟨_,Z⟩⟩
 obtain ⟨e1,e2⟩:=h5 (Decidable.not_not.1 he3)
 rw [e1,e2]
 exact ⟨0,Z,fun _=>⟨_,Z⟩,fun h=>(h Z).elim⟩
end Go.Proofs.Ytafddfoefeploaa
namespace Go.Proofs.Ytafddfoefeploaa
open Go.RowKit Go.Shelf
theorem elim_some {r:Unit⊕Int} {e:Int} (h:(e=0→r=.inl ())∧(e ≠ 0→r=.inr e)):Sum.elim (fun (_:Unit)=>(0:Int)) (fun x=>x) r=e:=by
 by_cases he:e=0
 ·rw [h.1 he];exact he.symm
 ·rw [h.2 he];rfl
theorem tail_nil (env:List Dcl) (d:Dcl) (M O:Qc Bs Ent) (hd:d.size≤800000000) (hnd:(Je d).Nodup) (hf:d.funs=[]):Ky d O env M=some 0:=by
 obtain ⟨M',h1,-⟩:=decl_book d env O hd hnd
 unfold Ky
 rw [h1]
 simp only [Option.bind_some]
 rw [JM (r:=.inl ()) (by unfold Kw;rw [hf];rfl)]
 rfl
theorem k7_nil (env:List Dcl) (d:Dcl) (M:Qc Bs Ent) (hd:d.size≤800000000) (hnd:(Je d).Nodup) (hf:d.funs=[]) (h3:d.kind ≠ 3):Zw d env M=some 0:=by
 unfold Zw
 rw [Yk,decide_eq_false h3]
 simp only [cond_false,Option.bind_some,Sum.elim_inl]
 rw [JM (r:=.inl ()) (by unfold Zu;rw [hf];rfl)]
 exact tail_nil env d M gmNil hd hnd hf
theorem k7_ind (env:List Dcl) (d:Dcl) (M:Qc Bs Ent) (hM:Bk env M) (he:Yc env≤800000000) (hd:d.size≤800000000) (hnd:(Je d).Nodup) (hf:d.funs=[]) (h3:d.kind=3) :
  ∃ e:Int,G0 false env d=some e∧Zw d env M=some e:=by
 obtain ⟨e,h1,h2,h4⟩:=ind_eq env d M hM he hd hnd h3
 unfold G0 Zw
 rw [Yk,decide_eq_true h3]
 simp only [cond_true,cond_false]
 rw [h1]
 by_cases he0:e=0
 ·obtain ⟨O,h5⟩:=h2 he0
  rw [h5]
  simp only [Option.bind_some,Sum.elim_inl]
  rw [JM (r:=.inl ()) (by unfold Zu;rw [hf];rfl)]
  exact ⟨e,rfl,by rw [he0];exact tail_nil env d M O hd hnd hf⟩
 ·obtain ⟨O,h5⟩:=h4 he0
  rw [h5]
  exact ⟨e,Z,Z⟩
theorem k7_fam (env:List Dcl) (d:Dcl) (M:Qc Bs Ent) (hM:Bk env M) (he:Yc env≤800000000) (hd:d.size≤800000000) (hnd:(Je d).Nodup) (h4:d.kind=4) :
  ∃ e:Int,G0 false env d=some e∧Zw d env M=some e:=by
 have hfl:=Zx d
 have hnl:=G8 d
 have e3:decide (d.kind=3)=false:=decide_eq_false (by rw [h4];decide)
 have e4:decide (d.kind=4)=true:=decide_eq_true h4
 unfold G0 Zw
 rw [Yk,e3,Yk,e4]
 simp only [cond_true,cond_false,Option.bind_some,Sum.elim_inl]
 obtain ⟨e,h1,h2⟩:=YC (β1:=Unit⊕Int) (β2:=Unit⊕Int) (step1:=m53_l3 d env) (step2:=Zu d env M gmNil) d.funs (.inl ()) (.inl ()) .inr .inr (by omega) (fun a x b e=>by
  obtain ⟨q1,q2⟩:=Yv e
  have hx:=fn_size (d:=d) (f:=x) (by rw [e];simp)
  obtain ⟨e',w1,w2,w3⟩:=XB ⟨env,[],d⟩ M gmNil ⟨he,by simp,hd,hM,Ow.nil _ _⟩ x.ty 0 d.params (by omega)
  unfold m53_l3 Zu
  rw [q1,q2]
  simp only [cond_true,Option.bind_some]
  rw [w1]
  refine ⟨e',fun he=>?_,fun he=>?_⟩
  ·have w4:=w2 he
   rw [w4];subst he;exact ⟨rfl,rfl⟩
  ·have w4:=w3 he
   rw [w4];exact ⟨Xb he _ _,rfl⟩)
  (by unfold m53_l3;rw [J9];rfl) (by unfold Zu;rw [J9];rfl)
 by_cases he1:e ≠ 0
 ·obtain ⟨e1,e2⟩:=h2 he1
  rw [e1,e2];exact ⟨e,rfl,rfl⟩
 obtain ⟨e1,e2⟩:=h1 (Decidable.not_not.1 he1)
 rw [e1,e2]
 simp only [Option.bind_some,Sum.elim_inl]
 rw [Wj d (by omega),Option.bind_some]
 obtain ⟨O,h3,hO⟩:=decl_book d env gmNil hd hnd
 unfold Ky
 rw [h3]
 simp only [Option.bind_some]
 obtain ⟨e,h5,h6⟩:=YC (β1:=Unit⊕Int) (β2:=Unit⊕Int) (step1:=m53_l4 d env (Je d)) (step2:=Kw d env M O) d.funs (.inl ()) (.inl ()) .inr .inr (by omega) (fun a x b e=>by
  obtain ⟨q1,q2⟩:=Yv e
  have hx:=fn_size (d:=d) (f:=x) (by rw [e];simp)
  obtain ⟨e',w1,w2,w3⟩:=tree_eq ⟨env,Je d,d⟩ M O ⟨he,by show (Je d).length≤_;omega,hd,hM,hO.ow⟩ QI x.tree x.arity 0 (by unfold QI;omega) (by omega)
  have w1':m73 (⟨env,Je d,d⟩:Rsc) x.tree x.arity 0=some e':=w1
  unfold m53_l4 Kw
  rw [q1,q2]
  simp only [cond_true,Option.bind_some]
  rw [w1']
  refine ⟨e',fun he=>?_,fun he=>?_⟩
  ·have w4:m48f11 x.tree x.arity 0 d.params env M O=some (.inl ()):=w2 he
   rw [w4];subst he;exact ⟨rfl,rfl⟩
  ·have w4:m48f11 x.tree x.arity 0 d.params env M O=some (.inr e'):=w3 he
   rw [w4];exact ⟨Xb he _ _,rfl⟩)
  (by unfold m53_l4;rw [J9];rfl) (by unfold Kw;rw [J9];rfl)
 by_cases he2:e=0
 ·obtain ⟨e1,e2⟩:=h5 he2
  rw [e1,e2];exact ⟨0,rfl,rfl⟩
 ·obtain ⟨e1,e2⟩:=h6 he2
  rw [e1,e2];exact ⟨e,rfl,rfl⟩
theorem used_funs {d:Dcl} (h:Xm d=true) (h4:d.kind ≠ 4):d.funs=[]:=by
 unfold Xm at h
 rw [Bool.and_eq_true,Bool.and_eq_true,Bool.and_eq_true] at h
 have h1:=h.1.1.2
 rw [Yk,decide_eq_false h4,Bool.false_or] at h1
 have h2:(d.funs.length:Int)=0:=eq_of_beq h1
 exact List.length_eq_zero_iff.1 (by omega)
noncomputable def bodyP (d:Dcl) (env:List Dcl) (M:Qc Bs Ent):Option Int :=
 Option.bind (cond (d.kind != 4) (Option.bind (KL d.ty 0 d.params env M gmNil) (Sum.elim (fun (x10:Unit)=>some (.inl ())) (fun (x11:Int)=>some (.inr x11)))) (some (.inl ())))
  (Sum.elim (fun (v7:Unit)=>Option.bind (cond (d.kind==1) (some true) (some (d.kind==2))) (fun (v8:Bool)=>Zv v8 d env M)) (fun o=>some o))
theorem body_eq (env:List Dcl) (d:Dcl) (M:Qc Bs Ent) (hM:Bk env M) (he:Yc env≤800000000) (hd:d.size≤800000000) (hnd:(Je d).Nodup) (h0:0≤d.kind) (h4:d.kind≤4) (hu:Xm d=true) :
  ∃ e:Int,D3 env d=some e∧bodyP d env M=some e:=by
 have hS:Sok ⟨env,[],d⟩ M gmNil:=⟨he,by simp,hd,hM,Ow.nil _ _⟩
 have hty:=ty_size d
 have hva:=value_size d
 have rest:∃ e:Int,Option.bind (cond (d.kind==1) (some (d.kind==1)) (some (d.kind==2))) (fun (v4:Bool)=>G0 v4 env d)=some e∧Option.bind (cond (d.kind==1) (some true) (some (d.kind==2))) (fun (v8:Bool)=>Zv v8 d env M)=some e:=by
  have e1:(cond (d.kind==1) (some (d.kind==1)) (some (d.kind==2)))=some (decide (d.kind=1∨d.kind=2)):=by
   rw [Yk,Yk]
   by_cases c1:d.kind=1
   ·rw [decide_eq_true c1,decide_eq_true (Or.inl c1)];rfl
   ·rw [decide_eq_false c1]
    show some (decide (d.kind=2))=_
    congr 2
    rw [eq_iff_iff]
    exact ⟨.inr,fun h=>h.resolve_left c1⟩
  have e2:(cond (d.kind==1) (some true) (some (d.kind==2)))=some (decide (d.kind=1∨d.kind=2)):=by
   rw [← e1]
   cases h:(d.kind==1) <;> rfl
  rw [e1,e2]
  show ∃ e:Int,G0 (decide (d.kind=1∨d.kind=2)) env d=some e∧Zv (decide (d.kind=1∨d.kind=2)) d env M=some e
  by_cases c:d.kind=1∨d.kind=2
  ·rw [decide_eq_true c]
   have hf:=used_funs hu (by omega)
   obtain ⟨e,w1,w2,w3⟩:=XB ⟨env,[],d⟩ M gmNil hS d.value 0 d.params (by omega)
   unfold G0 Zv
   simp only [cond_true]
   rw [w1]
   by_cases he0:e=0
   ·have w4:=w2 he0
    rw [w4]
    simp only [Option.bind_some,Sum.elim_inl]
    rw [k7_nil env d M hd hnd hf (by omega)]
    exact ⟨e,rfl,by rw [he0]⟩
   ·have w4:=w3 he0
    rw [w4];exact ⟨e,rfl,rfl⟩
  ·rw [decide_eq_false c]
   unfold Zv
   simp only [cond_false,Option.bind_some,Sum.elim_inl]
   by_cases c3:d.kind=3
   ·exact k7_ind env d M hM he hd hnd (used_funs hu (by omega)) c3
   ·by_cases c4:d.kind=4
    ·exact k7_fam env d M hM he hd hnd c4
    ·rw [k7_nil env d M hd hnd (used_funs hu c4) c3]
     unfold G0
     rw [Yk,decide_eq_false c3,Yk,decide_eq_false c4]
     exact ⟨0,Z,Z⟩
 unfold D3 bodyP
 by_cases c4:d.kind=4
 ·rw [show (d.kind != 4)=false from by rw [c4];rfl]
  exact rest
 ·rw [show (d.kind != 4)=true from bne_iff_ne.2 c4]
  simp only [cond_true]
  obtain ⟨e,w1,w2,w3⟩:=XB ⟨env,[],d⟩ M gmNil hS d.ty 0 d.params (by omega)
  rw [w1]
  by_cases he0:e=0
  ·have w4:=w2 he0
   rw [w4];subst he0;exact rest
  ·have w4:=w3 he0
   rw [w4]
   simp only [Option.bind_some,W5 he0,cond_true]
   exact ⟨e,Z,Z⟩
theorem dcl_eq (env:List Dcl) (d:Dcl) (M:Qc Bs Ent) (hM:Bk env M) (he:Yc env≤800000000) (hd:d.size≤800000000) (hr:XM d.rcr.params) :
  ∃ e:Int,Ut env d=some e∧XV d env M=some e∧(e=0→NmOk env d):=by
 unfold Ut
 by_cases c1:d.kind < 0
 ·have:XV d env M=some 1:=by unfold XV Ws;rw [decide_eq_false (show ¬ 0≤d.kind by omega)];rfl
  rw [decide_eq_true c1,this]
  exact ⟨1,rfl,rfl,fun h=>by omega⟩
 rw [decide_eq_false c1]
 by_cases c2:4 < d.kind
 ·have:XV d env M=some 1:=by unfold XV Ws;rw [decide_eq_true (show 0≤d.kind by omega),decide_eq_false (show ¬ d.kind≤4 by omega)];rfl
  rw [decide_eq_true c2,this]
  exact ⟨1,rfl,rfl,fun h=>by omega⟩
 rw [decide_eq_false c2]
 show ∃ e:Int,Gx false d env=some e∧_
 unfold Gx XV
 rw [m44_used d (by omega) (by omega),m50_eq d (by omega) (by omega)]
 cases hu:Xm d with
 | false=>exact ⟨3,rfl,rfl,fun h=>by omega⟩
 | true =>
  simp only [cond_false,cond_true,Option.bind_some,Bool.not_true]
  obtain ⟨e,h1,h2,h3⟩:=k4_eq d (by omega) hr
  rw [h1]
  by_cases he0:e ≠ 0
  ·rw [h3 he0]
   simp only [Option.bind_some,W5 he0,cond_true]
   exact ⟨e,Z,Z,fun h=>(he0 h).elim⟩
  have he0':=Decidable.not_not.1 he0
  rw [h2 he0']
  subst he0'
  obtain ⟨e,h4,⟨h5,h6⟩,h7⟩:=names_ok env d M hM he hd
  show ∃ e:Int,Option.bind (UU env d) _=some e∧Option.bind (U1 d env M) _=some e∧_
  rw [h4]
  by_cases he1:e ≠ 0
  ·rw [h6 he1]
   simp only [Option.bind_some,W5 he1,cond_true]
   exact ⟨e,Z,Z,fun h=>(he1 h).elim⟩
  have he1':=Decidable.not_not.1 he1
  rw [h5 he1']
  subst he1'
  have h8:=h7 rfl
  obtain ⟨e,h10,h11⟩:=body_eq env d M hM he hd h8.1 (by omega) (by omega) hu
  show ∃ e:Int,Option.bind (D3 env d) _=some e∧bodyP d env M=some e∧_
  rw [h10,h11]
  exact ⟨e,Z,Z,fun _=>h8⟩
theorem envSz_app (a b:List Dcl):Yc (a++b)=Yc a+Yc b:=by unfold Yc;rw [List.map_append,List.sum_append]
def OkD (a:List Dcl) (x:Dcl):Prop:=Ut a x=some 0∧NmOk a x
def Good (l:List Dcl):Prop:=∀ a x b,l=a++x::b→OkD a x
theorem snoc_split {α:Type} {a a' b':List α} {x y:α} (h:a++[x]=a'++y::b'):(a'=a∧y=x)∨∃ c,a=a'++y::c:=by
 rcases List.append_eq_append_iff.1 h with ⟨c,h1,h2⟩ | ⟨c,h1,h2⟩
 ·cases c with
  | nil =>
   rw [List.nil_append] at h2
   cases h2
   rw [List.append_nil] at h1
   exact .inl ⟨h1,Z⟩
  | cons z c =>
   exfalso
   have:=congrArg List.length h2
   simp at this
 ·cases c with
  | nil =>
   rw [List.nil_append] at h2
   cases h2
   rw [List.append_nil] at h1
   exact .inl ⟨h1.symm,Z⟩
  | cons z c =>
   rw [List.cons_append] at h2
   cases h2
   exact .inr ⟨c,h1⟩
theorem Good.nil:Good []:=fun a x b h=>by cases a <;> cases h
theorem Good.snoc {a:List Dcl} {x:Dcl} (h:Good a) (hx:OkD a x):Good (a++[x]):=fun a' y b' e=>by
 rcases snoc_split e with ⟨rfl,rfl⟩ | ⟨c,e⟩
 ·exact hx
 ·exact h a' y c e
theorem check_is (env:List Dcl) (he:Yc env≤800000000) (hr:∀ d∈env,XM d.rcr.params):∃ r,Ux env=some r∧m12 env=some r ∧
  (env.length≤1000→(r=(0,0)∧Good env)∨∃ a x b e,env=a++x::b∧Good a∧Ut a x=some e∧e ≠ 0∧r=((a.length:Int),e)):=by
 have hl:=W0 env
 unfold Ux m12
 by_cases hc:1000 < (env.length:Int)
 ·rw [decide_eq_true hc];exact ⟨_,rfl,rfl,fun h=>by omega⟩
 ·rw [decide_eq_false hc]
  simp only [cond_false]
  obtain ⟨r1,r2,h1,h2,h3⟩:=loop2 (β1:=Unit⊕(Int×Int)) (β2:=((Qc Bs Ent)×(List Dcl))⊕(Int×Int)) (step1:=WO env) (step2:=XI env) env (fun i (_:Unit)=>i) (fun i (s:(Qc Bs Ent)×(List Dcl))=>(i,s.1,s.2))
   (fun a _ s=>Bk a s.1∧Good a) (fun r1 r2=>(r1=.inl ()∧(∃ s,r2=.inl s)∧Good env)∨∃ a x b e,env=a++x::b∧Good a∧Ut a x=some e∧e ≠ 0∧r1=.inr ((a.length:Int),e)∧r2=.inr ((a.length:Int),e)) (by omega)
   (fun a x b _ s e hI=>by
    obtain ⟨q1,q2⟩:=Yv e
    have hm:=GP e
    have hsz:Yc a+x.size≤800000000:=by
     rw [e,envSz_app] at he
     have:Yc (x::b)=x.size+Yc b:=rfl
     omega
    obtain ⟨ec,w1,w2,w3⟩:=dcl_eq a x s.1 hI.1 (by omega) (by omega) (hr x (by rw [e];simp))
    have g1:∀ {α:Type} (o:Option α),Jh (cond (decide ((0:Int)≤(a.length:Int))) (Nat.ble ((a.length:Int)).toNat env.length) false) o=o:=fun o=>by
     rw [decide_eq_true (show (0:Int)≤(a.length:Int) by omega),cond_true]
     show Jh (Nat.ble a.length env.length) o=o
     rw [JI (by omega)]
    have g2:env.take ((a.length:Int)).toNat=a:=take_mid e
    unfold WO XI
    dsimp only
    rw [q1,q2,g2]
    simp only [cond_true,Option.bind_some]
    rw [g1,g1,w1,w2]
    by_cases he0:ec=0
    ·have hok:=w3 he0
     obtain ⟨M',n1,n2⟩:=decl_next x a s.1 s.2 (by omega) hok.1
     subst he0
     simp only [Option.bind_some]
     refine .inr ⟨(),(M',a),Z,?_,hI.1.next n2 hok.2.1,hI.2.snoc ⟨w1,hok⟩⟩
     show Option.bind (Option.bind (cond (x.kind==0) (some (x.kind==0)) (cond (x.kind==1) (some (x.kind==1)) (some (x.kind==2)))) (fun (v12:Bool)=>WQ v12 x ((a.length:Int),s.1,s.2))) _=_
     rw [n1];rfl
    ·simp only [Option.bind_some,W5 he0,cond_true]
     exact .inl ⟨_,_,Z,Z,.inr ⟨a,x,b,ec,e,hI.2,w1,he0,Z,Z⟩⟩)
   (fun _ s hI=>⟨.inl (),.inl s,by unfold WO;rw [J9];rfl,by unfold XI;dsimp only;rw [J9];rfl,.inl ⟨rfl,⟨s,rfl⟩,hI.2⟩⟩) () (gmNil,[]) ⟨fun n=>rfl,Good.nil⟩
  have h1':Qq (WO env) QI 0=some r1:=h1
  have h2':Qq (XI env) QI (0,gmNil,([]:List Dcl))=some r2:=h2
  rw [h1',h2']
  rcases h3 with ⟨rfl,⟨s,rfl⟩,h3⟩ | ⟨a,x,b,e,h4,h5,h6,h7,rfl,rfl⟩
  ·exact ⟨_,rfl,rfl,fun _=>.inl ⟨rfl,h3⟩⟩
  ·exact ⟨_,rfl,rfl,fun _=>.inr ⟨a,x,b,e,h4,h5,h6,h7,rfl⟩⟩
end Go.Proofs.Ytafddfoefeploaa
namespace Go.Proofs.Ytafddfoefeploaa
open Go.RowKit Go.Shelf
theorem bind_zero {c:Option Int} {K:Option Int} (h:(Option.bind c fun v=>cond (v != 0) (some v) K)=some 0):c=some 0∧K=some 0:=by
 obtain ⟨v,h1,h2⟩:=U6 h
 by_cases hv:v=0
 ·subst hv;exact ⟨h1,h2⟩
 ·rw [W5 hv] at h2
  cases h2
  exact (hv Z).elim
theorem Uv {e:Int} (h:some e=some (0:Int)) (he:e ≠ 0):False:=by cases h;exact he rfl
end Go.Proofs.Ytafddfoefeploaa
namespace Go.Proofs.Ytafddfoefeploaa
open Go.RowKit Go.Shelf
theorem m32_zero {a:List Dcl} {x:Dcl} (h:Ut a x=some 0):0≤x.kind∧x.kind≤4∧Xm x=true∧D4 x=some 0∧UU a x=some 0∧D3 a x=some 0:=by
 unfold Ut at h
 by_cases c1:x.kind < 0
 ·rw [decide_eq_true c1] at h;exact (Uv h (by omega)).elim
 by_cases c2:4 < x.kind
 ·rw [decide_eq_false c1,decide_eq_true c2] at h;exact (Uv h (by omega)).elim
 rw [decide_eq_false c1,decide_eq_false c2] at h
 have h':Gx false x a=some 0:=h
 unfold Gx at h'
 rw [m50_eq x (by omega) (by omega)] at h'
 cases hu:Xm x with
 | false=>rw [hu] at h';exact (Uv h' (by omega)).elim
 | true =>
  rw [hu] at h'
  have h2:Option.bind (D4 x) (fun b1_=>cond (b1_ != 0) (some b1_) (Option.bind (UU a x) fun b2_=>cond (b2_ != 0) (some b2_) (Option.bind (D3 a x) fun b3_=>some b3_)))=some 0:=h'
  obtain ⟨h3,h4⟩:=bind_zero h2
  obtain ⟨h5,h6⟩:=bind_zero h4
  obtain ⟨v,h7,h8⟩:=U6 h6
  cases h8
  exact ⟨by omega,by omega,rfl,h3,h5,h7⟩
theorem names_ne {a:List Dcl} {x:Dcl} (h:Ut a x=some 0):Je x ≠ []:=by
 obtain ⟨k0,k4,-,h51,-,-⟩:=m32_zero h
 unfold Je
 split
 ·simp
 ·split
  ·simp
  ·split
   ·next c4 =>
    intro hn
    have hf:x.funs=[]:=List.map_eq_nil_iff.1 hn
    unfold D4 at h51
    obtain ⟨v,-,h1⟩:=U6 h51
    cases v with
    | true=>exact Uv h1 (by omega)
    | false =>
     have h2:XA false x=some 0:=h1
     unfold XA at h2
     rw [hf,c4] at h2
     obtain ⟨v,h3,h4⟩:=U6 (show Option.bind (cond (decide (32 < (x.ctors.length:Int))) (some true) (some true)) _=_ from h2)
     have hv:v=true:=by cases hd:decide (32 < (x.ctors.length:Int)) <;> rw [hd] at h3 <;> cases h3 <;> rfl
     rw [hv] at h4
     exact Uv h4 (by omega)
   ·omega
theorem findO_split (a b:List Dcl) (x:Dcl) (n:Bs):Yu (a++x::b) n=(Yu a n).elim ((JN x (a.length:Int) n).elim (U5 (fun k d=>JN d (k:Int) n) b (a.length+1)) some) some:=by
 unfold Yu
 rw [XZ,Nat.zero_add];rfl
theorem look_some {x:Dcl} (k:Int) {n:Bs} (h:n∈Je x):∃ e,JN x k n=some e:=by
 have hi:=GC x k n
 rw [decide_eq_true h] at hi
 cases hl:JN x k n with
 | none=>rw [hl] at hi;cases hi
 | some e=>exact ⟨e,rfl⟩
theorem findO_mem {a:List Dcl} {x:Dcl} (hx:x∈a) {n:Bs} (h:n∈Je x):∃ e,Yu a n=some e:=by
 obtain ⟨p,q,rfl⟩:=List.append_of_mem hx
 obtain ⟨e,he⟩:=look_some (p.length:Int) h
 rw [findO_split,he]
 cases Yu p n with
 | none=>exact ⟨e,rfl⟩
 | some e'=>exact ⟨e',rfl⟩
end Go.Proofs.Ytafddfoefeploaa
namespace Go.Proofs.Ytafddfoefeploaa
open Go.RowKit Go.Shelf
theorem self_loop {α:Type} {step:Int→Option (LO Int (Unit⊕Bool))} (l:List α) (h:l.length≤900000000)
  (hin:∀ (a:List α) (x:α) (c:List α),l=a++x::c→step (a.length:Int)=some (.next (Ja ((a.length:Int)+1)))) (hout:step (l.length:Int)=some (.done (.inl ()))):Qq step QI 0=some (.inl ()):=by
 obtain ⟨r,e,rfl⟩:=Y3 (step:=step) l (fun i (s:Unit)=>i) (fun _ _=>True) (fun r=>r=.inl ()) h
  (fun a x c s e _=>.inr ⟨(),hin a x c e,trivial⟩) (fun s _=>⟨_,hout,rfl⟩) () trivial
 exact e
theorem KK (a:Int):(a != a)=false:=by simp
theorem Gq (a:Int):(a==a)=true:=by simp
theorem eq_selfB (a:Bs):(a==a)=true:=by simp
theorem m61_self (l:Lvl) (h:lvz l≤900000000):Du l l=some true:=by
 have hl:=ZL (fun _:LV=>1) (fun _=>Nat.le_refl _) l.vs
 unfold lvz at h
 unfold Du
 rw [KK,KK]
 simp only [cond_false,Option.bind_some]
 rw [self_loop l.vs (by omega)]
 ·rfl
 ·intro a x c e
  unfold We
  rw [e,JS,JF]
  simp only [cond_true,Option.bind_some,Gq,Bool.and_self,Bool.not_true,cond_false]
 ·unfold We;rw [J9];rfl
theorem m42_self (ls:List Lvl) (h:(ls.map lvz).sum≤900000000):D5 ls ls=some true:=by
 have hl:=ZL lvz (fun _=>by unfold lvz;omega) ls
 unfold D5
 rw [KK]
 simp only [cond_false]
 rw [self_loop ls (by omega)]
 ·rfl
 ·intro a x c e
  have hx:=Zc lvz (show x∈ls by rw [e];simp)
  unfold Wi
  rw [e,JS,JF]
  simp only [cond_true,Option.bind_some]
  rw [m61_self x (by omega)]
  rfl
 ·unfold Wi;rw [J9];rfl
theorem m27_selfN:∀ (n:Nat) (t:Tm),t.size≤n→t.size≤900000000→JE m27F n (t,t)=some true
 | 0,t,h,_=>by rw [t.size_eq] at h;omega
 | n+1,t,h,hs=>by
  have hl:=Gn t
  have he:=t.size_eq
  show Uq (JE m27F n) t t=some true
  unfold Uq
  rw [KK,KK,KK,eq_selfB,m42_self t.levels (by omega)]
  simp only [cond_false,Option.bind_some,Bool.not_true]
  rw [self_loop t.kids (by omega)]
  ·rfl
  ·intro a x c e
   have hx:=YA (t:=t) (k:=x) (by rw [e];simp)
   unfold Gy
   rw [show Jx t.kids (a.length:Int)=some x from by rw [e,JF],show decide ((a.length:Int) < (t.kids.length:Int))=true from by rw [e,JS]]
   simp only [cond_true,Option.bind_some]
   rw [m27_selfN n x (by omega) (by omega)]
   rfl
  ·unfold Gy;rw [J9];rfl
theorem m27_self (t:Tm) (h:t.size≤900000000):Ur t t=some true:=m27_selfN QI t (by unfold QI;omega) h
end Go.Proofs.Ytafddfoefeploaa
namespace Go.Proofs.Ytafddfoefeploaa
open Go.RowKit
section
variable {E:Env} {st:St} {d:Option Tmp} {ty:TypeId} {pos:String} {af:Array Edge} {g:Option (Nat×Bool)}
theorem OpOK.data4E {α:Type} [Enc α] (v1 v2 v3 v4:α) {t e:Nat} {zs:List Value} {o1 o2 o3 o4:Operand} {x1 x2 x3 x4:AV} {ys:List CA} (ht:Jn E.P t=some (e,Enc.sz α)) (hze:Jy E.P e=some zs) (hzl:zs.length=Enc.sz α) (hz:zs.all (·.oneCell')=true) (hlen:4 * Enc.sz α≤16777216)
  (h1:ev st.tm o1=some (.v x1)) (h2:ev st.tm o2=some (.v x2)) (h3:ev st.tm o3=some (.v x3)) (h4:ev st.tm o4=some (.v x4)) (hf:YX (Ju (Enc.sz α) 4) (Jq zs 4) [(0,x1),(1,x2),(2,x3),(3,x4)]=some ys) (hs:CSubs ys (Enc.enc v1++(Enc.enc v2++(Enc.enc v3++(Enc.enc v4))))) (hel:(Enc.enc v1).length=Enc.sz α∧(Enc.enc v2).length=Enc.sz α∧(Enc.enc v3).length=Enc.sz α∧(Enc.enc v4).length=Enc.sz α) :
  OpOK E ⟨d,.buildSlice t 4 #[(0,o1),(1,o2),(2,o3),(3,o4)],ty,pos,af,g⟩ st (.v (.one (.d (.sl (Enc.sz α) (Enc.encL [v1,v2,v3,v4]))))) ⟨st.hp,st.tk,st.nx⟩ :=
 OpOK.litData (avs:=[(0,x1),(1,x2),(2,x3),(3,x4)]) (Enc.encL [v1,v2,v3,v4]) ht hze hzl hz hlen rfl (fun j i x hx=>by
  match j,hx with
  | 0,hx=>cases hx;exact ⟨o1,rfl,h1⟩
  | 1,hx=>cases hx;exact ⟨o2,rfl,h2⟩
  | 2,hx=>cases hx;exact ⟨o3,rfl,h3⟩
  | 3,hx=>cases hx;exact ⟨o4,rfl,h4⟩) hf (by rw [Enc.cons,Enc.cons,Enc.cons,Enc.one];simpa using hs) (fun x hx=>by
   rw [Enc.cons,Enc.cons,Enc.cons,Enc.one] at hx;simp at hx
   rcases hx with rfl | rfl | rfl | rfl
   ·exact hel.1
   ·exact hel.2.1
   ·exact hel.2.2.1
   ·exact hel.2.2.2) (by rw [Enc.len];rfl)
end
end Go.Proofs.Ytafddfoefeploaa
namespace Go.Proofs.Ytafddfoefeploaa
open Go.RowKit Go.Shelf
theorem bd_42:Y6 Try.prog 42 [(0,1),(1,5),(6,1)] [.int .i64 0,.int .i64 0,.int .i64 0,.string ByteArray.empty,.slice none 0 0,.slice none 0 0,.slice none 0 0]:=⟨by kernel_rfl,by kernel_rfl⟩
theorem bd_71:Y6 Try.prog 71 [(0,1),(1,5)] [.string ByteArray.empty,.int .i64 0,.int .i64 0,.string ByteArray.empty,.slice none 0 0,.slice none 0 0]:=⟨by kernel_rfl,by kernel_rfl⟩
theorem bd_87:Y6 Try.prog 87 [(0,1),(1,1)] [.int .i64 0,.slice none 0 0]:=⟨by kernel_rfl,by kernel_rfl⟩
theorem en_10:J4 Try.prog 10:=enters_of Try.func10 (by kernel_rfl) rfl
theorem en_26:J4 Try.prog 26:=enters_of Try.func26 (by kernel_rfl) rfl
theorem en_28:J4 Try.prog 28:=enters_of Try.func28 (by kernel_rfl) rfl
theorem en_29:J4 Try.prog 29:=enters_of Try.func29 (by kernel_rfl) rfl
def Dw (a0:Bs):Option Tm :=
 some (Tm.mk 3 0 a0 ([]:List Lvl) ([]:List Tm))
theorem m29_ok (a0:Bs) (r:Tm) (h0:Dw a0=some r):Fun Try.prog 29 [.one (Jl a0)] (QP [.agg (DZ r)]):=by
 unfold Dw at h0
 refine QS 9 5 Try.func29 Z en_29 Z (DM Z) (fun S w=>?_)
 simp only [Jb]
 refine Q6<|Q0<|Q9 Z Z (DM Z) (Ql G4 Z)<|Q3<|Q4<|Q6<|Q0<|DE Z Z Z<|DD Z Z Z (Jm Ul Z Z Z Z)<|Qz Z Z (Qv QX Z Z Z Z (DM Z) Z)<|Q3<|Q4<|QE ?_
 have e:=DB h0;subst e
 exact QJ (fun _ _ h=>h) Z (Z4 QX Z Z Z Z .nil) (.cons (.agg (.cons (.d _) (.cons (.d _) (.cons (.d _) (.cons (.nil _) (.cons (.nil _) .nil)))))) .nil)
def m28 (a0:Tm) (a1:Tm):Option Tm :=
 some (Tm.mk 6 0 ([]:List UInt8) ([]:List Lvl) [a0,a1])
theorem m28_ok (a0:Tm) (a1:Tm) (r:Tm) (h0:m28 a0 a1=some r):Fun Try.prog 28 [.agg (DZ a0),.agg (DZ a1)] (QP [.agg (DZ r)]):=by
 unfold m28 at h0
 refine QS 9 9 Try.func28 Z en_28 Z (DM Z) (fun S w=>?_)
 simp only [Jb]
 refine Q6<|Q0<|Q9 Z Z (DM Z) (QV Z)<|Q9 Z Z (DM Z) (QV Z)<|Q9 Z Z (DM Z) (Ql G4 Z)<|Q3<|Q4<|Q6<|Q0<|DD Z Z Z (QM (a0:Tm) QX Z Z)<|DD Z Z Z (QM (a1:Tm) QX Z Z)<|Q9 Z Z (DM Z) (OpOK.lit2E (α:=Tm) a0 a1 JC G4 Z Z (DM Z) (DM Z) Z Z Z (.cons (.d _) (.cons (.d _) (.cons (.d _) (.cons (.d _) (.cons (.d _) (.cons (.d _) (.cons (.d _) (.cons (.d _) (.cons (.d _) (.cons (.d _) .nil)))))))))) ⟨Z,Z⟩)<|DD Z Z Z (Jm Ul Z Z Z Z)<|Qz Z Z (Qv QX Z Z Z Z (DM Z) Z) ?_
 refine Q3<|Q4<|QE ?_
 have e:=DB h0;subst e
 exact QJ (fun _ _ h=>h) Z (Z4 QX Z Z Z Z .nil) (.cons (.agg (.cons (.d _) (.cons (.d _) (.cons (.d _) (.cons (.nil _) (.cons (.app _ _ _) .nil)))))) .nil)
noncomputable abbrev m26_h0 (p0_:Tm) (p1_:Tm):HB :=
 .cells 45 [DW 3,Jl ([78,97,116]:List UInt8),DW 0,DW 2,DW 0,Jl ([]:List UInt8),DY 2 ([(⟨0,([]:List LV)⟩:Lvl)]:List Lvl),DV,DW 0,DW 0,Jl ([]:List UInt8),DV,DV,DW 0,DU ([(⟨([78,97,116,46,122,101,114,111]:List UInt8),p0_⟩:Ctr),(⟨([78,97,116,46,115,117,99,99]:List UInt8),p1_⟩:Ctr)]:List Ctr),DW 1,DW p0_.kind,DW p0_.index,Jl p0_.name,DU p0_.levels,DU p0_.kids,DU ([p0_,p0_]:List Tm),DV]
noncomputable abbrev m26_h1 :HB :=
 .cells 33 [DW 2,DW 0,Jl ([]:List UInt8),DY 2 ([(⟨0,([]:List LV)⟩:Lvl)]:List Lvl),DV]
def m26 :Option Dcl :=
 Option.bind (Dw ([78,97,116]:List UInt8)) fun (x1:Tm) =>
 Option.bind (m28 x1 x1) fun (x2:Tm) =>
 some (⟨3,([78,97,116]:List UInt8),0,(Tm.mk 2 0 ([]:List UInt8) [(⟨0,([]:List LV)⟩:Lvl)] ([]:List Tm)),(Tm.mk 0 0 ([]:List UInt8) ([]:List Lvl) ([]:List Tm)),0,[(⟨([78,97,116,46,122,101,114,111]:List UInt8),x1⟩:Ctr),(⟨([78,97,116,46,115,117,99,99]:List UInt8),x2⟩:Ctr)],(⟨1,x1,[x1,x1]⟩:Rcr),([]:List Fn)⟩:Dcl)
theorem m26_ok  (r:Dcl) (h0:m26 =some r):Fun Try.prog 26 [] (QP [.agg (DZ r)]):=by
 unfold m26 at h0
 refine QS 9 21 Try.func26 Z en_26 Z (DM Z) (fun S w=>?_)
 simp only [Jb]
 refine Q6<|Q0<|Q9 Z Z (DM Z) (Ql Xk Z)<|Q3<|Q4<|Q6<|Q0 ?_
 refine Qd h0 (fun x1 hx1 h0=>?_)
 refine Q9 Z Z (DM Z) (Qo (m29_ok ([78,97,116]:List UInt8) x1 hx1) Z (.cons (.one (.d _)) .nil))<|Q9 Z Z (DM Z) (Ql G4 Z)<|Qz Z Z (QC (x1:Tm) QX Z Z Z Z Z)<|Q3<|Q4<|Q6<|Q0<|DD Z Z Z (Gu bd_87 Z )<|Q9 Z Z (DM Z) (Yq (α:=Lvl) ((⟨0,([]:List LV)⟩:Lvl)) Z8 UC Z Z (DM Z) (DM Z) Z Z (.cons (.d _) (.cons (.nil _) .nil)) Z)<|DD Z Z Z (Jm Ul Z Z Z Z)<|Q9 Z Z (DM Z) (Ql G4 Z)<|Qz Z Z (Qv QX Z Z Z Z (DM Z) Z)<|Q3<|Q4 ?_
 refine Q6 ?_
 refine Js [14] [] YU (by kernel_rfl) (by kernel_rfl) (by kernel_rfl) ?_
 refine RunA.rd Z Z Z (Q1 (Qk QX Z Z Z Z)) Z<|RunA.rd Z Z Z (Q1 (QM (x1:Tm) QX Z Z)) Z<|RunA.rd Z Z Z (Q1 (Jm bd_71 Z Z Z Z)) Z<|RunA.rd Z Z Z (Q1 (QM (x1:Tm) QX Z Z)) Z<|RunA.rd Z Z Z (Q1 (QM (x1:Tm) QX Z Z)) Z ?_
 refine Qd h0 (fun x2 hx2 h0=>?_)
 refine RunA.rd Z Z Z (Qo (m28_ok x1 x1 x2 hx2) Z (.cons (.agg (.cons (.d _) (.cons (.d _) (.cons (.d _) (.cons (.d _) (.cons (.d _) .nil)))))) (.cons (.agg (.cons (.d _) (.cons (.d _) (.cons (.d _) (.cons (.d _) (.cons (.d _) .nil)))))) .nil))) Z<|RunA.rd Z Z Z (Q1 (Jm bd_71 Z Z Z Z)) Z<|RunA.rd Z Z Z (OpOK.data2E (α:=Ctr) (⟨([78,97,116,46,122,101,114,111]:List UInt8),x1⟩:Ctr) (⟨([78,97,116,46,115,117,99,99]:List UInt8),x2⟩:Ctr) YL U9 Z Z (DM Z) Z Z Z (.cons (.d _) (.cons (.d _) (.cons (.d _) (.cons (.d _) (.cons (.d _) (.cons (.d _) (.cons (.d _) (.cons (.d _) (.cons (.d _) (.cons (.d _) (.cons (.d _) (.cons (.d _) .nil)))))))))))) ⟨Z,Z⟩) Z<|RunA.rd Z Z Z (Q1 (QM (x1:Tm) QX Z Z)) Z<|RunA.rd Z Z Z (Q1 (QM (x1:Tm) QX Z Z)) Z<|RunA.rd Z Z Z (Q1 (QM (x1:Tm) QX Z Z)) Z<|RunA.rd Z Z Z (OpOK.data2E (α:=Tm) x1 x1 JC G4 Z Z (DM Z) Z Z Z (.cons (.d _) (.cons (.d _) (.cons (.d _) (.cons (.d _) (.cons (.d _) (.cons (.d _) (.cons (.d _) (.cons (.d _) (.cons (.d _) (.cons (.d _) .nil)))))))))) ⟨Z,Z⟩) Z<|RunA.rd Z Z Z (Q1 (Zn bd_42 Z Z Z Z Z)) Z<|RunA.rd Z Z Z (Q1 (JR bd_45 Z (.cons Z (.cons Z (.cons Z (.cons Z (.cons Z .nil))))) Z)) Z<|RunA.eff Z Z Z (YS JK Z Z Z Z Z Z) Z ?_
 refine RunA.nil ⟨?ex,_,_,Z,?_⟩
 case ex=>exact trivial
 refine JV (st':=⟨[(0,.v (.one (.ptr 0 0)))],[(0,m26_h0 x1 x2),(1,.cells 33 (DZ x1)),(3,m26_h1)],[(2,some ⟨87,2,(Enc.encL ([(⟨0,([]:List LV)⟩:Lvl)]:List Lvl)).length,[]⟩)],4,21,[]⟩) (DA (Nat.zero_le _) Z Z Z Z Z)<|Q4<|QE ?_
 have e:=DB h0;subst e
 exact QJ (fun _ _ h=>h) Z (Z4 JK Z Z Z Z .nil) (.cons (.agg (.cons (.d _) (.cons (.d _) (.cons (.d _) (.cons (.d _) (.cons (.d _) (.cons (.d _) (.cons (.app _ _ _) (.cons (.nil _) (.cons (.d _) (.cons (.d _) (.cons (.d _) (.cons (.nil _) (.cons (.nil _) (.cons (.d _) (.cons (.d _) (.cons (.d _) (.cons (.d _) (.cons (.d _) (.cons (.d _) (.cons (.d _) (.cons (.d _) (.cons (.d _) (.cons (.nil _) .nil)))))))))))))))))))))))) .nil)
noncomputable abbrev m10_h0 (p0_:Dcl) (p1_:Ent×Int) (p2_:Dcl×Int×Bool):List (Nat×HB) :=
 [(0,.cells 45 (DZ p0_)),(4,.cells 35 (DZ p1_.1)),(6,.cells 45 (DZ p2_.1))]
noncomputable def m10 :Option Bool :=
 Option.bind (m26 ) fun (x1:Dcl) =>
 Option.bind (De x1) fun (x2:(List Bs)) =>
 Option.bind (Ux ([x1])) fun (x3:Int×Int) =>
 Option.bind (Ux ([x1,x1])) fun (x4:Int×Int) =>
 Option.bind (Un ([x1]) ([78,97,116,46,115,117,99,99]:List UInt8)) fun (x5:Ent×Int) =>
 Option.bind (m16 ([x1]) ([78,97,116,46,114,101,99]:List UInt8)) fun (x6:Dcl×Int×Bool) =>
 Option.bind (Option.bind (m22 x2 ([([78,97,116]:List UInt8),([78,97,116,46,122,101,114,111]:List UInt8),([78,97,116,46,115,117,99,99]:List UInt8),([78,97,116,46,114,101,99]:List UInt8)])) fun (x8:Bool) =>
 cond x8
   (cond (x3.2==0)
   (cond (x4.1==1)
   (cond (x4.2==8)
   (cond (x5.2==0)
   (cond (x5.1.kind==4)
   (cond (x5.1.decl==0)
   (cond (x5.1.item==1)
   (cond (x5.1.params==0)
   (Option.bind (Dw ([78,97,116]:List UInt8)) fun (x18:Tm) =>
 Option.bind (Dw ([78,97,116]:List UInt8)) fun (x19:Tm) =>
 Option.bind (m28 x18 x19) fun (x20:Tm) =>
 Option.bind (Ur x5.1.ty x20) fun (x21:Bool) =>
 cond x21
   (cond x6.2.2
   (some (x6.2.1==(-2)))
   (some false))
   (some false))
   (some false))
   (some false))
   (some false))
   (some false))
   (some false))
   (some false))
   (some false))
   (some false))
   (some false)) (fun (v7:Bool)=>some v7)
theorem m10_ok  (r:Bool) (h0:m10 =some r):Fun Try.prog 10 [] (QP [.one (DX r)]):=by
 unfold m10 at h0
 refine QS 9 95 Try.func10 Z en_10 Z (DM Z) (fun S w=>?_)
 simp only [Jb]
 refine Q6<|Q0<|DF Z Z Z<|Q3<|Q4<|Q6<|Q0 ?_
 refine Qd h0 (fun x1 hx1 h0=>?_)
 refine Q9 Z Z (DM Z) (Qo (m26_ok  x1 hx1) Z .nil)<|Q9 Z Z (DM Z) (Ql Xk Z)<|Qz Z Z (QC (x1:Dcl) JK Z Z Z Z Z)<|Q3<|Q4<|Q6<|Q0<|DD Z Z Z (QM (x1:Dcl) JK Z Z) ?_
 refine Qd h0 (fun x2 hx2 h0=>?_)
 refine Q9 Z Z (DM Z) (Qo (m20_ok x1 x2 hx2) Z (.cons (.agg (.cons (.d _) (.cons (.d _) (.cons (.d _) (.cons (.d _) (.cons (.d _) (.cons (.d _) (.cons (.d _) (.cons (.d _) (.cons (.d _) (.cons (.d _) (.cons (.d _) (.cons (.d _) (.cons (.d _) (.cons (.d _) (.cons (.d _) (.cons (.d _) (.cons (.d _) (.cons (.d _) (.cons (.d _) (.cons (.d _) (.cons (.d _) (.cons (.d _) (.cons (.d _) .nil)))))))))))))))))))))))) .nil))<|DF Z Z Z<|Q3<|Q4<|Q6<|Q0<|DD Z Z Z (QM (x1:Dcl) JK Z Z)<|Q9 Z Z (DM Z) (OpOK.lit1CE (x1:Dcl) JW Xk Z Z (DM Z) Z) ?_
 refine Qd h0 (fun x3 hx3 h0=>?_)
 refine Q9 Z Z (DM Z) (Qo (WP ([x1]) x3 hx3) Z (.cons (.one (.app _ _ _)) .nil))<|DE Z Z Z<|DD Z Z Z (QR Z Z)<|DD Z Z Z (QR Z Z)<|DF Z Z Z<|DF Z Z Z<|Q3<|Q4<|Q6<|Q0<|DD Z Z Z (QM (x1:Dcl) JK Z Z)<|DD Z Z Z (QM (x1:Dcl) JK Z Z)<|Q9 Z Z (DM Z) (OpOK.lit2CE (x1:Dcl) (x1:Dcl) JW Xk Z Z (DM Z) Z Z) ?_
 refine Qd h0 (fun x4 hx4 h0=>?_)
 refine Q9 Z Z (DM Z) (Qo (WP ([x1,x1]) x4 hx4) Z (.cons (.one (.app _ _ _)) .nil))<|DE Z Z Z<|DD Z Z Z (QR Z Z)<|DD Z Z Z (QR Z Z)<|DF Z Z Z<|DF Z Z Z<|Q3<|Q4<|Q6<|Q0<|DD Z Z Z (QM (x1:Dcl) JK Z Z)<|Q9 Z Z (DM Z) (OpOK.lit1CE (x1:Dcl) JW Xk Z Z (DM Z) Z) ?_
 refine Qd h0 (fun x5 hx5 h0=>?_)
 refine Q9 Z Z (DM Z) (Qo (Wk ([x1]) ([78,97,116,46,115,117,99,99]:List UInt8) x5 hx5) Z (.cons (.one (.app _ _ _)) (.cons (.one (.d _)) .nil)))<|DE Z Z Z<|DD Z Z Z (QR Z Z)<|DD Z Z Z (QR Z Z)<|Q9 Z Z (DM Z) (Ql YZ Z)<|Qz Z Z (QC (x5.1:Ent) Jg Z Z Z Z Z)<|DF Z Z Z<|Q3<|Q4<|Q6<|Q0<|DD Z Z Z (QM (x1:Dcl) JK Z Z)<|Q9 Z Z (DM Z) (OpOK.lit1CE (x1:Dcl) JW Xk Z Z (DM Z) Z) ?_
 refine Qd h0 (fun x6 hx6 h0=>?_)
 refine Q9 Z Z (DM Z) (Qo (m16_ok ([x1]) ([78,97,116,46,114,101,99]:List UInt8) x6 hx6) Z (.cons (.one (.app _ _ _)) (.cons (.one (.d _)) .nil)))<|DE Z Z Z<|DD Z Z Z (QR Z Z)<|DD Z Z Z (QR Z Z)<|DD Z Z Z (QR Z Z)<|Q9 Z Z (DM Z) (Ql Xk Z)<|Qz Z Z (QC (x6.1:Dcl) JK Z Z Z Z Z)<|DF Z Z Z<|DF Z Z Z<|Q3<|Q4<|Q6 ?_
 refine QO (fun (v7:Bool)=>⟨[(0,.v (.one (DX v7)))],m10_h0 x1 x5 x6,[(1,some ⟨45,23,(Enc.encL ([x1]:List Dcl)).length,[]⟩),(2,some ⟨45,23,(Enc.encL ([x1,x1]:List Dcl)).length,[]⟩),(3,some ⟨45,23,(Enc.encL ([x1]:List Dcl)).length,[]⟩),(5,some ⟨45,23,(Enc.encL ([x1]:List Dcl)).length,[]⟩)],7,95,[]⟩) (fun (v7:Bool)=>(some v7)=some r) ?_ ?_
 refine Qd h0 (fun w1_ h1 h0=>?_)
 refine Js [] [] YU (by kernel_rfl) (by kernel_rfl) (by kernel_rfl) ?_
 refine RunA.rd Z Z Z (Q1 (Qp Z)) Z<|RunA.rd Z Z Z (OpOK.data4E (α:=Bs) ([78,97,116]:List UInt8) ([78,97,116,46,122,101,114,111]:List UInt8) ([78,97,116,46,115,117,99,99]:List UInt8) ([78,97,116,46,114,101,99]:List UInt8) Z7 Di Z Z (DM Z) Z Z Z Z Z (.cons (.d _) (.cons (.d _) (.cons (.d _) (.cons (.d _) .nil)))) ⟨Z,Z,Z,Z⟩) Z ?_
 refine Qd h1 (fun x8 hx8 h1=>?_)
 refine RunA.rd Z Z Z (Qo (m22_ok x2 ([([78,97,116]:List UInt8),([78,97,116,46,122,101,114,111]:List UInt8),([78,97,116,46,115,117,99,99]:List UInt8),([78,97,116,46,114,101,99]:List UInt8)]) x8 hx8) Z (.cons (.one (.d _)) (.cons (.one (.d _)) .nil))) Z ?_
 refine JQ (c:=x8) Z Z Z (Q1 (Qp Z)) Z (fun c9=>?_) (fun c9=>?_)
 replace h1:=Qi c9 h1
 refine RunA.rd Z Z Z (Q1 (Qp Z)) Z<|RunA.rd Z Z Z (Q1 (Q8 Z Z Z)) Z<|RunA.rd Z Z Z (Q1 (Qe Z Z)) Z ?_
 refine JQ (c:=(x3.2==0)) Z Z Z (Q1 (Qp Z)) Z (fun c10=>?_) (fun c10=>?_)
 replace h1:=Qi c10 h1
 refine RunA.rd Z Z Z (Q1 (Qp Z)) Z<|RunA.rd Z Z Z (Q1 (Q8 Z Z Z)) Z<|RunA.rd Z Z Z (Q1 (Qe Z Z)) Z ?_
 refine JQ (c:=(x4.1==1)) Z Z Z (Q1 (Qp Z)) Z (fun c11=>?_) (fun c11=>?_)
 replace h1:=Qi c11 h1
 refine RunA.rd Z Z Z (Q1 (Qp Z)) Z<|RunA.rd Z Z Z (Q1 (Q8 Z Z Z)) Z<|RunA.rd Z Z Z (Q1 (Qe Z Z)) Z ?_
 refine JQ (c:=(x4.2==8)) Z Z Z (Q1 (Qp Z)) Z (fun c12=>?_) (fun c12=>?_)
 replace h1:=Qi c12 h1
 refine RunA.rd Z Z Z (Q1 (Qp Z)) Z<|RunA.rd Z Z Z (Q1 (Q8 Z Z Z)) Z<|RunA.rd Z Z Z (Q1 (Qe Z Z)) Z ?_
 refine JQ (c:=(x5.2==0)) Z Z Z (Q1 (Qp Z)) Z (fun c13=>?_) (fun c13=>?_)
 replace h1:=Qi c13 h1
 refine RunA.rd Z Z Z (Q1 (Q2 YW Z)) Z<|RunA.rd Z Z Z (Q1 (Q5 QN Z Z Z)) Z<|RunA.rd Z Z Z (Q1 (Q8 Z Z Z)) Z<|RunA.rd Z Z Z (Q1 (Qe Z Z)) Z ?_
 refine JQ (c:=(x5.1.kind==4)) Z Z Z (Q1 (Qp Z)) Z (fun c14=>?_) (fun c14=>?_)
 replace h1:=Qi c14 h1
 refine RunA.rd Z Z Z (Q1 (Q2 KW Z)) Z<|RunA.rd Z Z Z (Q1 (Q5 QN Z Z Z)) Z<|RunA.rd Z Z Z (Q1 (Q8 Z Z Z)) Z<|RunA.rd Z Z Z (Q1 (Qe Z Z)) Z ?_
 refine JQ (c:=(x5.1.decl==0)) Z Z Z (Q1 (Qp Z)) Z (fun c15=>?_) (fun c15=>?_)
 replace h1:=Qi c15 h1
 refine RunA.rd Z Z Z (Q1 (Q2 Xi Z)) Z<|RunA.rd Z Z Z (Q1 (Q5 QN Z Z Z)) Z<|RunA.rd Z Z Z (Q1 (Q8 Z Z Z)) Z<|RunA.rd Z Z Z (Q1 (Qe Z Z)) Z ?_
 refine JQ (c:=(x5.1.item==1)) Z Z Z (Q1 (Qp Z)) Z (fun c16=>?_) (fun c16=>?_)
 replace h1:=Qi c16 h1
 refine RunA.rd Z Z Z (Q1 (Q2 fo_35_3 Z)) Z<|RunA.rd Z Z Z (Q1 (Q5 QN Z Z Z)) Z<|RunA.rd Z Z Z (Q1 (Q8 Z Z Z)) Z<|RunA.rd Z Z Z (Q1 (Qe Z Z)) Z ?_
 refine JQ (c:=(x5.1.params==0)) Z Z Z (Q1 (Qp Z)) Z (fun c17=>?_) (fun c17=>?_)
 replace h1:=Qi c17 h1
 refine RunA.rd Z Z Z (Q1 (Q2 fo_35_4 Z)) Z<|RunA.rd Z Z Z (Q1 (Qk QX Z Z Z Z)) Z ?_
 refine Qd h1 (fun x18 hx18 h1=>?_)
 refine RunA.rd Z Z Z (Qo (m29_ok ([78,97,116]:List UInt8) x18 hx18) Z (.cons (.one (.d _)) .nil)) Z ?_
 refine Qd h1 (fun x19 hx19 h1=>?_)
 refine RunA.rd Z Z Z (Qo (m29_ok ([78,97,116]:List UInt8) x19 hx19) Z (.cons (.one (.d _)) .nil)) Z ?_
 refine Qd h1 (fun x20 hx20 h1=>?_)
 refine RunA.rd Z Z Z (Qo (m28_ok x18 x19 x20 hx20) Z (.cons (.agg (.cons (.d _) (.cons (.d _) (.cons (.d _) (.cons (.d _) (.cons (.d _) .nil)))))) (.cons (.agg (.cons (.d _) (.cons (.d _) (.cons (.d _) (.cons (.d _) (.cons (.d _) .nil)))))) .nil))) Z ?_
 refine Qd h1 (fun x21 hx21 h1=>?_)
 refine RunA.rd Z Z Z (Qo (m27_ok x5.1.ty x20 x21 hx21) Z (.cons (.agg (.cons (.d _) (.cons (.d _) (.cons (.d _) (.cons (.d _) (.cons (.d _) .nil)))))) (.cons (.agg (.cons (.d _) (.cons (.d _) (.cons (.d _) (.cons (.d _) (.cons (.d _) .nil)))))) .nil))) Z<|RunA.rd Z Z Z (Q1 (Qe Z Z)) Z ?_
 refine JQ (c:=x21) Z Z Z (Q1 (Qp Z)) Z (fun c22=>?_) (fun c22=>?_)
 replace h1:=Qi c22 h1
 refine RunA.rd Z Z Z (Q1 (Qp Z)) Z<|RunA.rd Z Z Z (Q1 (Qe Z Z)) Z ?_
 refine JQ (c:=x6.2.2) Z Z Z (Q1 (Qp Z)) Z (fun c23=>?_) (fun c23=>?_)
 replace h1:=Qi c23 h1
 refine RunA.rd Z Z Z (Q1 (Qp Z)) Z<|RunA.rd Z Z Z (Q1 (Q8 Z Z Z)) Z<|RunA.rd Z Z Z (Q1 (Qe Z Z)) Z<|RunA.rd Z Z Z (Q1 (JD Z)) Z ?_
 refine RunA.nil ⟨?ex,_,_,Z,?_⟩
 case ex=>exact trivial
 have e:=DB h1;subst e
 exact Qb (x6.2.1==(-2)) (DA (Nat.zero_le _) Z Z Z Z Z) h0
 replace h1:=Qj c23 h1
 refine RunA.no Z Z Z Z<|RunA.no Z Z Z Z<|RunA.rd Z Z Z (Q1 (Qa Z Z)) Z<|RunA.rd Z Z Z (Q1 (JD Z)) Z ?_
 refine RunA.nil ⟨?ex,_,_,Z,?_⟩
 case ex=>exact trivial
 have e:=DB h1;subst e
 exact Qb false (DA (Nat.zero_le _) Z Z Z Z Z) h0
 replace h1:=Qj c22 h1
 refine RunA.no Z Z Z Z<|RunA.rd Z Z Z (Q1 (Qa Z Z)) Z<|RunA.rd Z Z Z (Q1 (Qp Z)) Z<|RunA.no Z Z Z Z<|RunA.no Z Z Z Z<|RunA.rd Z Z Z (Q1 (Qa Z Z)) Z<|RunA.rd Z Z Z (Q1 (JD Z)) Z ?_
 refine RunA.nil ⟨?ex,_,_,Z,?_⟩
 case ex=>exact trivial
 have e:=DB h1;subst e
 exact Qb false (DA (Nat.zero_le _) Z Z Z Z Z) h0
 replace h1:=Qj c17 h1
 refine RunA.no Z Z Z Z<|RunA.no Z Z Z Z<|RunA.no Z Z Z Z<|RunA.no Z Z Z Z<|RunA.no Z Z Z Z<|RunA.no Z Z Z Z<|RunA.rd Z Z Z (Q1 (Qa Z Z)) Z<|RunA.rd Z Z Z (Q1 (Qp Z)) Z<|RunA.no Z Z Z Z<|RunA.rd Z Z Z (Q1 (Qa Z Z)) Z<|RunA.rd Z Z Z (Q1 (Qp Z)) Z<|RunA.no Z Z Z Z<|RunA.no Z Z Z Z<|RunA.rd Z Z Z (Q1 (Qa Z Z)) Z ?_
 refine RunA.rd Z Z Z (Q1 (JD Z)) Z ?_
 refine RunA.nil ⟨?ex,_,_,Z,?_⟩
 case ex=>exact trivial
 have e:=DB h1;subst e
 exact Qb false (DA (Nat.zero_le _) Z Z Z Z Z) h0
 replace h1:=Qj c16 h1
 refine RunA.no Z Z Z Z<|RunA.no Z Z Z Z<|RunA.no Z Z Z Z<|RunA.rd Z Z Z (Q1 (Qa Z Z)) Z<|RunA.rd Z Z Z (Q1 (Qp Z)) Z<|RunA.no Z Z Z Z<|RunA.no Z Z Z Z<|RunA.no Z Z Z Z<|RunA.no Z Z Z Z<|RunA.no Z Z Z Z<|RunA.no Z Z Z Z<|RunA.rd Z Z Z (Q1 (Qa Z Z)) Z<|RunA.rd Z Z Z (Q1 (Qp Z)) Z<|RunA.no Z Z Z Z ?_
 refine RunA.rd Z Z Z (Q1 (Qa Z Z)) Z<|RunA.rd Z Z Z (Q1 (Qp Z)) Z<|RunA.no Z Z Z Z<|RunA.no Z Z Z Z<|RunA.rd Z Z Z (Q1 (Qa Z Z)) Z<|RunA.rd Z Z Z (Q1 (JD Z)) Z ?_
 refine RunA.nil ⟨?ex,_,_,Z,?_⟩
 case ex=>exact trivial
 have e:=DB h1;subst e
 exact Qb false (DA (Nat.zero_le _) Z Z Z Z Z) h0
 replace h1:=Qj c15 h1
 refine RunA.no Z Z Z Z<|RunA.no Z Z Z Z<|RunA.no Z Z Z Z<|RunA.rd Z Z Z (Q1 (Qa Z Z)) Z<|RunA.rd Z Z Z (Q1 (Qp Z)) Z<|RunA.no Z Z Z Z<|RunA.no Z Z Z Z<|RunA.no Z Z Z Z<|RunA.rd Z Z Z (Q1 (Qa Z Z)) Z<|RunA.rd Z Z Z (Q1 (Qp Z)) Z<|RunA.no Z Z Z Z<|RunA.no Z Z Z Z<|RunA.no Z Z Z Z<|RunA.no Z Z Z Z ?_
 refine RunA.no Z Z Z Z<|RunA.no Z Z Z Z<|RunA.rd Z Z Z (Q1 (Qa Z Z)) Z<|RunA.rd Z Z Z (Q1 (Qp Z)) Z<|RunA.no Z Z Z Z<|RunA.rd Z Z Z (Q1 (Qa Z Z)) Z<|RunA.rd Z Z Z (Q1 (Qp Z)) Z<|RunA.no Z Z Z Z<|RunA.no Z Z Z Z<|RunA.rd Z Z Z (Q1 (Qa Z Z)) Z<|RunA.rd Z Z Z (Q1 (JD Z)) Z ?_
 refine RunA.nil ⟨?ex,_,_,Z,?_⟩
 case ex=>exact trivial
 have e:=DB h1;subst e
 exact Qb false (DA (Nat.zero_le _) Z Z Z Z Z) h0
 replace h1:=Qj c14 h1
 refine RunA.no Z Z Z Z<|RunA.no Z Z Z Z<|RunA.no Z Z Z Z<|RunA.rd Z Z Z (Q1 (Qa Z Z)) Z<|RunA.rd Z Z Z (Q1 (Qp Z)) Z<|RunA.no Z Z Z Z<|RunA.no Z Z Z Z<|RunA.no Z Z Z Z<|RunA.rd Z Z Z (Q1 (Qa Z Z)) Z<|RunA.rd Z Z Z (Q1 (Qp Z)) Z<|RunA.no Z Z Z Z<|RunA.no Z Z Z Z<|RunA.no Z Z Z Z<|RunA.rd Z Z Z (Q1 (Qa Z Z)) Z ?_
 refine RunA.rd Z Z Z (Q1 (Qp Z)) Z<|RunA.no Z Z Z Z<|RunA.no Z Z Z Z<|RunA.no Z Z Z Z<|RunA.no Z Z Z Z<|RunA.no Z Z Z Z<|RunA.no Z Z Z Z<|RunA.rd Z Z Z (Q1 (Qa Z Z)) Z<|RunA.rd Z Z Z (Q1 (Qp Z)) Z<|RunA.no Z Z Z Z<|RunA.rd Z Z Z (Q1 (Qa Z Z)) Z<|RunA.rd Z Z Z (Q1 (Qp Z)) Z<|RunA.no Z Z Z Z<|RunA.no Z Z Z Z ?_
 refine RunA.rd Z Z Z (Q1 (Qa Z Z)) Z<|RunA.rd Z Z Z (Q1 (JD Z)) Z ?_
 refine RunA.nil ⟨?ex,_,_,Z,?_⟩
 case ex=>exact trivial
 have e:=DB h1;subst e
 exact Qb false (DA (Nat.zero_le _) Z Z Z Z Z) h0
 replace h1:=Qj c13 h1
 refine RunA.no Z Z Z Z<|RunA.no Z Z Z Z<|RunA.no Z Z Z Z<|RunA.rd Z Z Z (Q1 (Qa Z Z)) Z<|RunA.rd Z Z Z (Q1 (Qp Z)) Z<|RunA.no Z Z Z Z<|RunA.no Z Z Z Z<|RunA.no Z Z Z Z<|RunA.rd Z Z Z (Q1 (Qa Z Z)) Z<|RunA.rd Z Z Z (Q1 (Qp Z)) Z<|RunA.no Z Z Z Z<|RunA.no Z Z Z Z<|RunA.no Z Z Z Z<|RunA.rd Z Z Z (Q1 (Qa Z Z)) Z ?_
 refine RunA.rd Z Z Z (Q1 (Qp Z)) Z<|RunA.no Z Z Z Z<|RunA.no Z Z Z Z<|RunA.no Z Z Z Z<|RunA.rd Z Z Z (Q1 (Qa Z Z)) Z<|RunA.rd Z Z Z (Q1 (Qp Z)) Z<|RunA.no Z Z Z Z<|RunA.no Z Z Z Z<|RunA.no Z Z Z Z<|RunA.no Z Z Z Z<|RunA.no Z Z Z Z<|RunA.no Z Z Z Z<|RunA.rd Z Z Z (Q1 (Qa Z Z)) Z<|RunA.rd Z Z Z (Q1 (Qp Z)) Z ?_
 refine RunA.no Z Z Z Z<|RunA.rd Z Z Z (Q1 (Qa Z Z)) Z<|RunA.rd Z Z Z (Q1 (Qp Z)) Z<|RunA.no Z Z Z Z<|RunA.no Z Z Z Z<|RunA.rd Z Z Z (Q1 (Qa Z Z)) Z<|RunA.rd Z Z Z (Q1 (JD Z)) Z ?_
 refine RunA.nil ⟨?ex,_,_,Z,?_⟩
 case ex=>exact trivial
 have e:=DB h1;subst e
 exact Qb false (DA (Nat.zero_le _) Z Z Z Z Z) h0
 replace h1:=Qj c12 h1
 refine RunA.no Z Z Z Z<|RunA.no Z Z Z Z<|RunA.rd Z Z Z (Q1 (Qa Z Z)) Z<|RunA.rd Z Z Z (Q1 (Qp Z)) Z<|RunA.no Z Z Z Z<|RunA.no Z Z Z Z<|RunA.no Z Z Z Z<|RunA.rd Z Z Z (Q1 (Qa Z Z)) Z<|RunA.rd Z Z Z (Q1 (Qp Z)) Z<|RunA.no Z Z Z Z<|RunA.no Z Z Z Z<|RunA.no Z Z Z Z<|RunA.rd Z Z Z (Q1 (Qa Z Z)) Z<|RunA.rd Z Z Z (Q1 (Qp Z)) Z ?_
 refine RunA.no Z Z Z Z<|RunA.no Z Z Z Z<|RunA.no Z Z Z Z<|RunA.rd Z Z Z (Q1 (Qa Z Z)) Z<|RunA.rd Z Z Z (Q1 (Qp Z)) Z<|RunA.no Z Z Z Z<|RunA.no Z Z Z Z<|RunA.no Z Z Z Z<|RunA.rd Z Z Z (Q1 (Qa Z Z)) Z<|RunA.rd Z Z Z (Q1 (Qp Z)) Z<|RunA.no Z Z Z Z<|RunA.no Z Z Z Z<|RunA.no Z Z Z Z<|RunA.no Z Z Z Z ?_
 refine RunA.no Z Z Z Z<|RunA.no Z Z Z Z<|RunA.rd Z Z Z (Q1 (Qa Z Z)) Z<|RunA.rd Z Z Z (Q1 (Qp Z)) Z<|RunA.no Z Z Z Z<|RunA.rd Z Z Z (Q1 (Qa Z Z)) Z<|RunA.rd Z Z Z (Q1 (Qp Z)) Z<|RunA.no Z Z Z Z<|RunA.no Z Z Z Z<|RunA.rd Z Z Z (Q1 (Qa Z Z)) Z<|RunA.rd Z Z Z (Q1 (JD Z)) Z ?_
 refine RunA.nil ⟨?ex,_,_,Z,?_⟩
 case ex=>exact trivial
 have e:=DB h1;subst e
 exact Qb false (DA (Nat.zero_le _) Z Z Z Z Z) h0
 replace h1:=Qj c11 h1
 refine RunA.no Z Z Z Z<|RunA.no Z Z Z Z<|RunA.rd Z Z Z (Q1 (Qa Z Z)) Z<|RunA.rd Z Z Z (Q1 (Qp Z)) Z<|RunA.no Z Z Z Z<|RunA.no Z Z Z Z<|RunA.rd Z Z Z (Q1 (Qa Z Z)) Z<|RunA.rd Z Z Z (Q1 (Qp Z)) Z<|RunA.no Z Z Z Z<|RunA.no Z Z Z Z<|RunA.no Z Z Z Z<|RunA.rd Z Z Z (Q1 (Qa Z Z)) Z<|RunA.rd Z Z Z (Q1 (Qp Z)) Z<|RunA.no Z Z Z Z ?_
 refine RunA.no Z Z Z Z<|RunA.no Z Z Z Z<|RunA.rd Z Z Z (Q1 (Qa Z Z)) Z<|RunA.rd Z Z Z (Q1 (Qp Z)) Z<|RunA.no Z Z Z Z<|RunA.no Z Z Z Z<|RunA.no Z Z Z Z<|RunA.rd Z Z Z (Q1 (Qa Z Z)) Z<|RunA.rd Z Z Z (Q1 (Qp Z)) Z<|RunA.no Z Z Z Z<|RunA.no Z Z Z Z<|RunA.no Z Z Z Z<|RunA.rd Z Z Z (Q1 (Qa Z Z)) Z<|RunA.rd Z Z Z (Q1 (Qp Z)) Z ?_
 refine RunA.no Z Z Z Z<|RunA.no Z Z Z Z<|RunA.no Z Z Z Z<|RunA.no Z Z Z Z<|RunA.no Z Z Z Z<|RunA.no Z Z Z Z<|RunA.rd Z Z Z (Q1 (Qa Z Z)) Z<|RunA.rd Z Z Z (Q1 (Qp Z)) Z<|RunA.no Z Z Z Z<|RunA.rd Z Z Z (Q1 (Qa Z Z)) Z<|RunA.rd Z Z Z (Q1 (Qp Z)) Z<|RunA.no Z Z Z Z<|RunA.no Z Z Z Z<|RunA.rd Z Z Z (Q1 (Qa Z Z)) Z ?_
 refine RunA.rd Z Z Z (Q1 (JD Z)) Z ?_
 refine RunA.nil ⟨?ex,_,_,Z,?_⟩
 case ex=>exact trivial
 have e:=DB h1;subst e
 exact Qb false (DA (Nat.zero_le _) Z Z Z Z Z) h0
 replace h1:=Qj c10 h1
 refine RunA.no Z Z Z Z<|RunA.no Z Z Z Z<|RunA.rd Z Z Z (Q1 (Qa Z Z)) Z<|RunA.rd Z Z Z (Q1 (Qp Z)) Z<|RunA.no Z Z Z Z<|RunA.no Z Z Z Z<|RunA.rd Z Z Z (Q1 (Qa Z Z)) Z<|RunA.rd Z Z Z (Q1 (Qp Z)) Z<|RunA.no Z Z Z Z<|RunA.no Z Z Z Z<|RunA.rd Z Z Z (Q1 (Qa Z Z)) Z<|RunA.rd Z Z Z (Q1 (Qp Z)) Z<|RunA.no Z Z Z Z<|RunA.no Z Z Z Z ?_
 refine RunA.no Z Z Z Z<|RunA.rd Z Z Z (Q1 (Qa Z Z)) Z<|RunA.rd Z Z Z (Q1 (Qp Z)) Z<|RunA.no Z Z Z Z<|RunA.no Z Z Z Z<|RunA.no Z Z Z Z<|RunA.rd Z Z Z (Q1 (Qa Z Z)) Z<|RunA.rd Z Z Z (Q1 (Qp Z)) Z<|RunA.no Z Z Z Z<|RunA.no Z Z Z Z<|RunA.no Z Z Z Z<|RunA.rd Z Z Z (Q1 (Qa Z Z)) Z<|RunA.rd Z Z Z (Q1 (Qp Z)) Z<|RunA.no Z Z Z Z ?_
 refine RunA.no Z Z Z Z<|RunA.no Z Z Z Z<|RunA.rd Z Z Z (Q1 (Qa Z Z)) Z<|RunA.rd Z Z Z (Q1 (Qp Z)) Z<|RunA.no Z Z Z Z<|RunA.no Z Z Z Z<|RunA.no Z Z Z Z<|RunA.no Z Z Z Z<|RunA.no Z Z Z Z<|RunA.no Z Z Z Z<|RunA.rd Z Z Z (Q1 (Qa Z Z)) Z<|RunA.rd Z Z Z (Q1 (Qp Z)) Z<|RunA.no Z Z Z Z<|RunA.rd Z Z Z (Q1 (Qa Z Z)) Z ?_
 refine RunA.rd Z Z Z (Q1 (Qp Z)) Z<|RunA.no Z Z Z Z<|RunA.no Z Z Z Z<|RunA.rd Z Z Z (Q1 (Qa Z Z)) Z<|RunA.rd Z Z Z (Q1 (JD Z)) Z ?_
 refine RunA.nil ⟨?ex,_,_,Z,?_⟩
 case ex=>exact trivial
 have e:=DB h1;subst e
 exact Qb false (DA (Nat.zero_le _) Z Z Z Z Z) h0
 replace h1:=Qj c9 h1
 refine RunA.no Z Z Z Z<|RunA.no Z Z Z Z<|RunA.rd Z Z Z (Q1 (Qa Z Z)) Z<|RunA.rd Z Z Z (Q1 (Qp Z)) Z<|RunA.no Z Z Z Z<|RunA.no Z Z Z Z<|RunA.rd Z Z Z (Q1 (Qa Z Z)) Z<|RunA.rd Z Z Z (Q1 (Qp Z)) Z<|RunA.no Z Z Z Z<|RunA.no Z Z Z Z<|RunA.rd Z Z Z (Q1 (Qa Z Z)) Z<|RunA.rd Z Z Z (Q1 (Qp Z)) Z<|RunA.no Z Z Z Z<|RunA.no Z Z Z Z ?_
 refine RunA.rd Z Z Z (Q1 (Qa Z Z)) Z<|RunA.rd Z Z Z (Q1 (Qp Z)) Z<|RunA.no Z Z Z Z<|RunA.no Z Z Z Z<|RunA.no Z Z Z Z<|RunA.rd Z Z Z (Q1 (Qa Z Z)) Z<|RunA.rd Z Z Z (Q1 (Qp Z)) Z<|RunA.no Z Z Z Z<|RunA.no Z Z Z Z<|RunA.no Z Z Z Z<|RunA.rd Z Z Z (Q1 (Qa Z Z)) Z<|RunA.rd Z Z Z (Q1 (Qp Z)) Z<|RunA.no Z Z Z Z<|RunA.no Z Z Z Z ?_
 refine RunA.no Z Z Z Z<|RunA.rd Z Z Z (Q1 (Qa Z Z)) Z<|RunA.rd Z Z Z (Q1 (Qp Z)) Z<|RunA.no Z Z Z Z<|RunA.no Z Z Z Z<|RunA.no Z Z Z Z<|RunA.rd Z Z Z (Q1 (Qa Z Z)) Z<|RunA.rd Z Z Z (Q1 (Qp Z)) Z<|RunA.no Z Z Z Z<|RunA.no Z Z Z Z<|RunA.no Z Z Z Z<|RunA.no Z Z Z Z<|RunA.no Z Z Z Z<|RunA.no Z Z Z Z ?_
 refine RunA.rd Z Z Z (Q1 (Qa Z Z)) Z<|RunA.rd Z Z Z (Q1 (Qp Z)) Z<|RunA.no Z Z Z Z<|RunA.rd Z Z Z (Q1 (Qa Z Z)) Z<|RunA.rd Z Z Z (Q1 (Qp Z)) Z<|RunA.no Z Z Z Z<|RunA.no Z Z Z Z<|RunA.rd Z Z Z (Q1 (Qa Z Z)) Z<|RunA.rd Z Z Z (Q1 (JD Z)) Z ?_
 refine RunA.nil ⟨?ex,_,_,Z,?_⟩
 case ex=>exact trivial
 have e:=DB h1;subst e
 exact Qb false (DA (Nat.zero_le _) Z Z Z Z Z) h0
 intro v7 h0
 refine Q4<|QE ?_
 have e:=DB h0;subst e
 exact QJ (fun _ _ h=>h) Z (QB Z .nil) (.cons (.one (.d _)) .nil)
theorem m10_true:m10=some true:=by kernel_rfl
theorem awake_fun:Fun Try.prog 10 [] (QP [.one (DX true)]):=m10_ok true m10_true
end Go.Proofs.Ytafddfoefeploaa
namespace Go.Proofs.Ytafddfoefeploaa
open Go.RowKit Go.Shelf
def m13 (a0:List Dcl):Option Bool :=
 Option.bind (DJ a0) fun (x1:Bool) =>
 cond (!x1)
   (some false)
   (Option.bind (m12 a0) fun (x3:Int×Int) =>
 some (x3.2==0))
def m4_k0 (p0_:Bool) (p1_:List Dcl) (p2_:Bs):Option Bool :=
 cond p0_
   (some true)
   (Option.bind (Un p1_ p2_) fun (b0_:Ent×Int) =>
 Option.bind (UX p1_ p2_) fun (b1_:Ent×Int) =>
 Option.bind (m16 p1_ p2_) fun (b2_:Dcl×Int×Bool) =>
 Option.bind (m17 p1_ p2_) fun (b3_:Dcl×Int×Bool) =>
 Option.bind (Option.bind (Df b0_.1 b1_.1) fun (b4_:Bool) =>
 cond b4_
   (cond (b0_.2==b1_.2)
   (Option.bind (m19 b2_.1 b3_.1) fun (b5_:Bool) =>
 cond b5_
   (cond (b2_.2.1==b3_.2.1)
   (some (b2_.2.2==b3_.2.2))
   (some false))
   (some false))
   (some false))
   (some false)) (fun (b6_:Bool)=>some b6_))
def m4 (a0:List Dcl) (a1:Bs):Option Bool :=
 Option.bind (Option.bind (m13 a0) fun (x2:Bool) =>
 cond (!x2)
   (some true)
   (some (decide (200 < (a1.length:Int))))) (fun (v1:Bool)=>m4_k0 v1 a0 a1)
end Go.Proofs.Ytafddfoefeploaa
namespace Go.Proofs.Ytafddfoefeploaa
open Go.RowKit Go.Shelf
theorem look_ty {d:Dcl} {k:Int} {n:Bs} {e:Ent} (h:JN d k n=some e):e.ty.size≤d.size:=by
 have h1:=ty_size d
 have h2:=rty_size d
 unfold JN at h
 split at h
 ·split at h
  ·cases h;exact Nat.le_of_lt h1
  ·cases h
 ·split at h
  ·split at h
   ·cases h;exact Nat.le_of_lt h1
   ·split at h
    ·next i c hf =>
     cases h
     obtain ⟨-,h3⟩:=firstN_some _ _ _ _ hf
     have:=Kk (List.mem_of_getElem? h3)
     show c.ty.size≤d.size
     omega
    ·split at h
     ·cases h;exact Nat.le_of_lt h2
     ·cases h
  ·split at h
   ·split at h
    ·next i c hf =>
     cases h
     obtain ⟨-,h3⟩:=firstN_some _ _ _ _ hf
     have:=fn_size (List.mem_of_getElem? h3)
     show c.ty.size≤d.size
     omega
    ·cases h
   ·cases h
theorem tmZ_size:tmZ.size=1:=by rw [Tm.size_eq];rfl
theorem findR_ty (env:List Dcl) (n:Bs) (h:Yc env≤800000000):(ZD env n).1.ty.size≤800000000:=by
 unfold ZD
 cases hf:Yu env n with
 | none =>
  show tmZ.size≤_
  rw [tmZ_size];omega
 | some e =>
  obtain ⟨i,d,h1,h2⟩:=fsI_some _ _ _ hf
  have h3:=look_ty h2
  have h4:=Xe (List.mem_of_getElem? h1)
  show e.ty.size≤_
  omega
theorem m18_self (e:Ent) (h:e.ty.size≤900000000):Df e e=some true:=by
 unfold Df
 rw [Gq,Gq,Gq,Gq,m27_self e.ty h];rfl
end Go.Proofs.Ytafddfoefeploaa
namespace Go.Proofs.Ytafddfoefeploaa
open Go.RowKit
section
variable {E:Env} {st:St} {dd:Option Tmp} {ty:TypeId} {pos:String} {af:Array Edge} {g:Option (Nat×Bool)} {α:Type} [Enc α] [EncLen α]
theorem fill1W {zs:List Value} {ys:List CA} {n:Nat} (hl:ys.length=n) (hzl:zs.length=n):YX (Ju n 1) (Jq zs 1) [(0,.agg ys)]=some ys:=by
 have h0:(Jq zs 1).length=n:=by simp [Jq,hzl]
 have h2:(Ju n 1)[0]?=some (0,n):=by simp [Ju]
 have h3:setL (Jq zs 1) 0 ys=ys:=by
  have:=Ko ys (Jq zs 1) [] (by rw [h0,hl])
  rwa [List.append_nil,List.append_nil] at this
 simp only [YX,h2]
 show cond (Nat.beq ys.length n&&Nat.ble (0+n) (Jq zs 1).length) (some (setL (Jq zs 1) 0 ys)) none=some ys
 rw [hl,h0,h3,Nat.zero_add,Nat.beq_refl,Nat.ble_eq_true_of_le (Nat.le_refl _)]
 rfl
theorem OpOK.lit1W (v:α) {t e:Nat} {zs:List Value} {ys:List CA} {o1:Operand} (ht:Jn E.P t=some (e,Enc.sz α)) (hze:Jy E.P e=some zs) (hzl:zs.length=Enc.sz α) (hz:zs.all (·.oneCell')=true) (hlen:1 * Enc.sz α≤16777216)
  (h1:ev st.tm o1=some (.v (.agg ys))) (hl:ys.length=Enc.sz α) (hs:CSubs ys (Enc.enc v)) :
  OpOK E ⟨dd,.buildSlice t 1 #[(0,o1)],ty,pos,af,g⟩ st (.v (.one (.app st.nx (Enc.sz α) (Enc.encL [v])))) ⟨st.hp,(st.nx,some ⟨e,Enc.sz α,(Enc.encL [v]).length,[]⟩)::st.tk,st.nx+1⟩ :=
 Yq v ht hze hzl hz EncLen.pos hlen h1 (fill1W hl hzl) hs (EncLen.len v)
end
end Go.Proofs.Ytafddfoefeploaa
namespace Go.Proofs.Ytafddfoefeploaa
open Go.RowKit Go.Shelf
theorem el_45:Km Try.prog 45=some (23,360):=by kernel_rfl
theorem en_6:J4 Try.prog 6:=enters_of Try.func6 (by kernel_rfl) rfl
def WD (x20:(List Bs)) (a0:List Dcl) (a1:Bs) (s2:Int):Option (LO Int (Unit⊕Bool)) :=
 cond (decide (s2 < (x20.length:Int)))
   (Option.bind (Jx x20 s2) fun (x23:Bs) =>
 Option.bind (Un a0 x23) fun (x24:Ent×Int) =>
 Option.bind (Jx x20 s2) fun (x25:Bs) =>
 Option.bind (Un ((([]:List Dcl)++a0)++([(⟨0,a1,0,(Tm.mk 1 0 ([]:List UInt8) ([]:List Lvl) ([]:List Tm)),(Tm.mk 0 0 ([]:List UInt8) ([]:List Lvl) ([]:List Tm)),0,([]:List Ctr),(⟨0,(Tm.mk 0 0 ([]:List UInt8) ([]:List Lvl) ([]:List Tm)),([]:List Tm)⟩:Rcr),([]:List Fn)⟩:Dcl)])) x25) fun (x26:Ent×Int) =>
 Option.bind (cond (x24.2 != x26.2)
   (some true)
   (Option.bind (Df x24.1 x26.1) fun (x29:Bool) =>
 some (!x29))) (fun (v27:Bool)=>cond v27
   (some (.done (.inr false)))
   (some (.next (Ja (s2+1))))))
   (some (.done (.inl ())))
noncomputable def Uh (p0_:List Dcl) (p1_:Int):Option (LO Int (Unit⊕Bool)) :=
 Jh (Nat.ble (([]:List Dcl).length+p0_.length) 1000000000)
 (Option.bind (Jx p0_ p1_) fun (b0_:Dcl) =>
 Jh (Nat.ble ((([]:List Dcl)++p0_).length+([b0_]).length) 1000000000)
 (Option.bind (Ux ((([]:List Dcl)++p0_)++([b0_]))) fun (b1_:Int×Int) =>
 Option.bind (cond (b1_.1 != (p0_.length:Int))
   (some true)
   (some (b1_.2 != 8))) (fun (b2_:Bool)=>cond b2_
   (some (.done (.inr false)))
   (some (.next (Ja (p1_+1)))))))
noncomputable def XT (a0:List Dcl) (a1:Bs) (s1:Int):Option (LO Int (Unit⊕Bool)) :=
 cond (decide (s1 < (a0.length:Int)))
   (Option.bind (Jx a0 s1) fun (x19:Dcl) =>
 Option.bind (De x19) fun (x20:(List Bs)) =>
 Option.bind (Qq (WD x20 a0 a1) QI 0) (Sum.elim (fun (o21:Unit)=>Uh a0 s1) (fun o=>some (.done (.inr o)))))
   (some (.done (.inl ())))
noncomputable def U0 (p0_:Bool) (p1_:List Dcl) (p2_:Bs):Option Bool :=
 cond p0_
   (some true)
   (Option.bind (Ux p1_) fun (b0_:Int×Int) =>
 cond (b0_.2 != 0)
   (some true)
   (Jh (Nat.ble (([]:List Dcl).length+p1_.length) 1000000000)
 (Jh (Nat.ble ((([]:List Dcl)++p1_).length+([(⟨0,p2_,0,(Tm.mk 1 0 ([]:List UInt8) ([]:List Lvl) ([]:List Tm)),(Tm.mk 0 0 ([]:List UInt8) ([]:List Lvl) ([]:List Tm)),0,([]:List Ctr),(⟨0,(Tm.mk 0 0 ([]:List UInt8) ([]:List Lvl) ([]:List Tm)),([]:List Tm)⟩:Rcr),([]:List Fn)⟩:Dcl)]).length) 1000000000)
 (Option.bind (Ux ((([]:List Dcl)++p1_)++([(⟨0,p2_,0,(Tm.mk 1 0 ([]:List UInt8) ([]:List Lvl) ([]:List Tm)),(Tm.mk 0 0 ([]:List UInt8) ([]:List Lvl) ([]:List Tm)),0,([]:List Ctr),(⟨0,(Tm.mk 0 0 ([]:List UInt8) ([]:List Lvl) ([]:List Tm)),([]:List Tm)⟩:Rcr),([]:List Fn)⟩:Dcl)]))) fun (b1_:Int×Int) =>
 Option.bind (Un p1_ p2_) fun (b2_:Ent×Int) =>
 cond (b1_.2 != 0)
   (Option.bind (cond (b1_.1==(p1_.length:Int))
   (cond (b1_.2==29)
   (some true)
   (cond (b1_.2==8)
   (some (b2_.2==0))
   (some false)))
   (some false)) (fun (b3_:Bool)=>some b3_))
   (Option.bind (Un ((([]:List Dcl)++p1_)++([(⟨0,p2_,0,(Tm.mk 1 0 ([]:List UInt8) ([]:List Lvl) ([]:List Tm)),(Tm.mk 0 0 ([]:List UInt8) ([]:List Lvl) ([]:List Tm)),0,([]:List Ctr),(⟨0,(Tm.mk 0 0 ([]:List UInt8) ([]:List Lvl) ([]:List Tm)),([]:List Tm)⟩:Rcr),([]:List Fn)⟩:Dcl)])) p2_) fun (b4_:Ent×Int) =>
 Option.bind (cond (b2_.2 != 9)
   (some true)
   (cond (b4_.2 != 0)
   (some true)
   (cond (b4_.1.decl != (p1_.length:Int))
   (some true)
   (some (b4_.1.kind != 0))))) (fun (b5_:Bool)=>cond b5_
   (some false)
   (Option.bind (Qq (XT p1_ p2_) QI 0) (Sum.elim (fun (b6_:Unit)=>some true) (fun o=>some o)))))))))
noncomputable abbrev m6_h0 (p0_:Ent×Int) (p1_:Ent×Int) (p2_:Ent×Int) (p3_:Ent×Int):List (Nat×HB) :=
 [(2,.cells 35 (DZ p0_.1)),(3,.cells 35 (DZ p1_.1)),(4,.cells 35 (DZ p2_.1)),(5,.cells 35 (DZ p3_.1))]
noncomputable def DK (a0:List Dcl) (a1:Bs):Option Bool :=
 Option.bind (Option.bind (DJ a0) fun (x2:Bool) =>
 cond (!x2)
   (some true)
   (some (decide (200 < (a1.length:Int))))) (fun (v1:Bool)=>U0 v1 a0 a1)
theorem m6_ok (a0:List Dcl) (a1:Bs) (r:Bool) (h0:DK a0 a1=some r):Fun Try.prog 6 [.one (DU a0),.one (Jl a1)] (QP [.one (DX r)]):=by
 unfold DK at h0
 refine QS 9 170 Try.func6 Z en_6 Z (DM Z) (fun S w=>?_)
 simp only [Jb]
 refine Q6<|Q0<|DF Z Z Z<|Q3<|Q4<|Q6<|Q6 ?_
 refine QO (fun (v1:Bool)=>⟨[(0,.v (.one (DU a0))),(1,.v (.one (Jl a1))),(30,.v (.one (DX v1)))],[],[],0,170,[]⟩) (fun (v1:Bool)=>(U0 v1 a0 a1)=some r) ?_ ?_
 refine Qd h0 (fun w1_ h1 h0=>?_)
 refine Q0<|DE Z Z Z ?_
 refine Qd h1 (fun x2 hx2 h1=>?_)
 refine Q9 Z Z (DM Z) (Qo (m9_ok a0 x2 hx2) Z (.cons (.one (.d _)) .nil))<|DD Z Z Z (Jj Z)<|DE Z Z Z ?_
 refine QA (d:=26) (c:=(!x2)) Z (fun c3=>?_) (fun c3=>?_)
 replace h1:=Qi c3 h1
 refine Q7 Z Z<|Q7 Z Z<|Q7 Z Z<|DD Z Z Z (Qe Z Z)<|Q3 ?_
 have e:=DB h1;subst e
 exact Qb true (DA (Nat.zero_le _) Z Z Z Z Z) h0
 replace h1:=Qj c3 h1
 refine DE Z Z Z<|DD Z Z Z (GI Uf Z)<|DD Z Z Z (Q8 Z Z Z)<|DD Z Z Z (Qa Z Z)<|Q3 ?_
 have e:=DB h1;subst e
 exact Qb (decide (200 < (a1.length:Int))) (DA (Nat.zero_le _) Z Z Z Z Z) h0
 intro v1 h0
 unfold U0 at h0
 refine Q4 ?_
 refine Qg (b:=v1) Z (fun c4=>?_) (fun c4=>?_)
 replace h0:=Qi c4 h0
 refine Q6<|Q0<|Q9 Z Z (DM Z) (Qo (awake_fun) Z .nil)<|DF Z Z Z<|Q3<|Q4<|QE ?_
 have e:=DB h0;subst e
 exact QJ (fun _ _ h=>h) Z (QB Z .nil) (.cons (.one (.d _)) .nil)
 replace h0:=Qj c4 h0
 refine Qn<|Q4<|Q6<|Q6<|Q0<|DE Z Z Z ?_
 refine Qd h0 (fun x5 hx5 h0=>?_)
 refine Q9 Z Z (DM Z) (Qo (WP a0 x5 hx5) Z (.cons (.one (.d _)) .nil))<|DE Z Z Z<|DD Z Z Z (QR Z Z)<|DD Z Z Z (QR Z Z)<|DF Z Z Z<|DF Z Z Z<|Q3<|Q4<|Q6<|Q0<|DE Z Z Z<|DD Z Z Z (Q8 Z Z Z)<|Q3<|Q4 ?_
 refine Qg (b:=(x5.2 != 0)) Z (fun c6=>?_) (fun c6=>?_)
 replace h0:=Qi c6 h0
 refine Q6<|Q0<|Q9 Z Z (DM Z) (Qo (awake_fun) Z .nil)<|DF Z Z Z<|Q3<|Q4<|QE ?_
 have e:=DB h0;subst e
 exact QJ (fun _ _ h=>h) Z (QB Z .nil) (.cons (.one (.d _)) .nil)
 replace h0:=Qj c6 h0
 refine Qn<|Q4<|Q6<|Q0<|Q9 Z Z (DM Z) (OpOK.lit0E (α:=Dcl) JW Xk Z Z (DM Z))<|DE Z Z Z ?_
 refine YI h0 (fun g7 h0=>?_)
 refine Q9 Z Z (DM Z) (Yh (α:=Dcl) JW el_45 Z Z Z Z Z (.d _) g7)<|DE Z Z Z<|DD Z Z Z (Gt Ul Z Z Z)<|DD Z Z Z (Zn (ys:=[DW 0,Jl a1,DW 0,DW 1,DW 0,Jl ([]:List UInt8),DV,DV,DW 0,DW 0,Jl ([]:List UInt8),DV,DV,DW 0,DV,DW 0,DW 0,DW 0,Jl ([]:List UInt8),DV,DV,DV,DV]) bd_45 Z Z Z Z Z)<|Q9 Z Z (DM Z) (OpOK.lit1W (ys:=[DW 0,Jl a1,DW 0,DW 1,DW 0,Jl ([]:List UInt8),DV,DV,DW 0,DW 0,Jl ([]:List UInt8),DV,DV,DW 0,DV,DW 0,DW 0,DW 0,Jl ([]:List UInt8),DV,DV,DV,DV]) ((⟨0,a1,0,(Tm.mk 1 0 ([]:List UInt8) ([]:List Lvl) ([]:List Tm)),(Tm.mk 0 0 ([]:List UInt8) ([]:List Lvl) ([]:List Tm)),0,([]:List Ctr),(⟨0,(Tm.mk 0 0 ([]:List UInt8) ([]:List Lvl) ([]:List Tm)),([]:List Tm)⟩:Rcr),([]:List Fn)⟩:Dcl):Dcl) JW Xk Z Z (DM Z) Z Z (.cons (.d _) (.cons (.d _) (.cons (.d _) (.cons (.d _) (.cons (.d _) (.cons (.d _) (.cons (.nil _) (.cons (.nil _) (.cons (.d _) (.cons (.d _) (.cons (.d _) (.cons (.nil _) (.cons (.nil _) (.cons (.d _) (.cons (.nil _) (.cons (.d _) (.cons (.d _) (.cons (.d _) (.cons (.d _) (.cons (.nil _) (.cons (.nil _) (.cons (.nil _) (.cons (.nil _) .nil)))))))))))))))))))))))) ?_
 refine YI h0 (fun g8 h0=>?_)
 refine Q9 Z Z (DM Z) (Yh (α:=Dcl) JW el_45 Z Z Z Z Z (.app _ _) g8)<|DF Z Z Z<|Q3<|Q4<|Q6<|Q0<|DE Z Z Z ?_
 refine Qd h0 (fun x9 hx9 h0=>?_)
 refine Q9 Z Z (DM Z) (Qo (WP ((([]:List Dcl)++a0)++([(⟨0,a1,0,(Tm.mk 1 0 ([]:List UInt8) ([]:List Lvl) ([]:List Tm)),(Tm.mk 0 0 ([]:List UInt8) ([]:List Lvl) ([]:List Tm)),0,([]:List Ctr),(⟨0,(Tm.mk 0 0 ([]:List UInt8) ([]:List Lvl) ([]:List Tm)),([]:List Tm)⟩:Rcr),([]:List Fn)⟩:Dcl)])) x9 hx9) Z (.cons (.one (.app _ _ _)) .nil))<|DE Z Z Z<|DD Z Z Z (QR Z Z)<|DD Z Z Z (QR Z Z)<|DF Z Z Z<|DF Z Z Z<|Q3<|Q4<|Q6<|Q0<|DE Z Z Z<|DE Z Z Z ?_
 refine Qd h0 (fun x10 hx10 h0=>?_)
 refine Q9 Z Z (DM Z) (Qo (Wk a0 a1 x10 hx10) Z (.cons (.one (.d _)) (.cons (.one (.d _)) .nil)))<|DE Z Z Z<|DD Z Z Z (QR Z Z)<|DD Z Z Z (QR Z Z)<|Q9 Z Z (DM Z) (Ql YZ Z)<|Qz Z Z (QC (x10.1:Ent) Jg Z Z Z Z Z)<|DF Z Z Z<|Q3<|Q4<|Q6<|Q6<|Q0<|DE Z Z Z<|DD Z Z Z (Q8 Z Z Z) ?_
 refine Q3<|Q4 ?_
 refine Qg (b:=(x9.2 != 0)) Z (fun c11=>?_) (fun c11=>?_)
 replace h0:=Qi c11 h0
 refine Q6 ?_
 refine QO (fun (v12:Bool)=>⟨[(4,.v (.one (DX v12)))],[(2,.cells 35 (DZ x10.1))],[(0,some ⟨45,23,(Enc.encL (((([]:List Dcl)++a0)++([(⟨0,a1,0,(Tm.mk 1 0 ([]:List UInt8) ([]:List Lvl) ([]:List Tm)),(Tm.mk 0 0 ([]:List UInt8) ([]:List Lvl) ([]:List Tm)),0,([]:List Ctr),(⟨0,(Tm.mk 0 0 ([]:List UInt8) ([]:List Lvl) ([]:List Tm)),([]:List Tm)⟩:Rcr),([]:List Fn)⟩:Dcl)])):List Dcl)).length,[]⟩),(1,some ⟨45,23,(Enc.encL ([(⟨0,a1,0,(Tm.mk 1 0 ([]:List UInt8) ([]:List Lvl) ([]:List Tm)),(Tm.mk 0 0 ([]:List UInt8) ([]:List Lvl) ([]:List Tm)),0,([]:List Ctr),(⟨0,(Tm.mk 0 0 ([]:List UInt8) ([]:List Lvl) ([]:List Tm)),([]:List Tm)⟩:Rcr),([]:List Fn)⟩:Dcl)]:List Dcl)).length,[]⟩)],3,170,[]⟩) (fun (v12:Bool)=>(some v12)=some r) ?_ ?_
 refine Qd h0 (fun w1_ h1 h0=>?_)
 refine Q0<|Q9 Z Z (DM Z) (Qo (awake_fun) Z .nil)<|DE Z Z Z<|DE Z Z Z<|DE Z Z Z<|DD Z Z Z (QD (α:=Dcl) JW Z (.d _))<|DD Z Z Z (Q8 Z Z Z)<|DD Z Z Z (Qe Z Z)<|DE Z Z Z ?_
 refine QA (d:=68) (c:=(x9.1==(a0.length:Int))) Z (fun c13=>?_) (fun c13=>?_)
 replace h1:=Qi c13 h1
 refine DE Z Z Z<|DD Z Z Z (Q8 Z Z Z)<|DE Z Z Z ?_
 refine QA (d:=71) (c:=(x9.2==29)) Z (fun c14=>?_) (fun c14=>?_)
 replace h1:=Qi c14 h1
 refine Q7 Z Z<|Q7 Z Z<|Q7 Z Z<|Q7 Z Z<|Q7 Z Z<|Q7 Z Z<|DD Z Z Z (Qe Z Z)<|DD Z Z Z (Qe Z Z)<|DF Z Z Z<|Q3 ?_
 have e:=DB h1;subst e
 exact Qb true (DA (Nat.zero_le _) Z Z Z Z Z) h0
 replace h1:=Qj c14 h1
 refine DE Z Z Z<|DD Z Z Z (Q8 Z Z Z)<|DE Z Z Z ?_
 refine QA (d:=74) (c:=(x9.2==8)) Z (fun c15=>?_) (fun c15=>?_)
 replace h1:=Qi c15 h1
 refine DE Z Z Z<|DD Z Z Z (Q8 Z Z Z)<|DD Z Z Z (Qe Z Z)<|DD Z Z Z (Qa Z Z)<|DD Z Z Z (Qe Z Z)<|DF Z Z Z<|Q3 ?_
 have e:=DB h1;subst e
 exact Qb (x10.2==0) (DA (Nat.zero_le _) Z Z Z Z Z) h0
 replace h1:=Qj c15 h1
 refine Q7 Z Z<|Q7 Z Z<|DD Z Z Z (Qa Z Z)<|DD Z Z Z (Qa Z Z)<|DD Z Z Z (Qe Z Z)<|DF Z Z Z<|Q3 ?_
 have e:=DB h1;subst e
 exact Qb false (DA (Nat.zero_le _) Z Z Z Z Z) h0
 replace h1:=Qj c13 h1
 refine Q7 Z Z<|Q7 Z Z<|Q7 Z Z<|Q7 Z Z<|Q7 Z Z<|Q7 Z Z<|Q7 Z Z<|Q7 Z Z<|Q7 Z Z<|Q7 Z Z<|DD Z Z Z (Qa Z Z)<|DF Z Z Z<|Q3 ?_
 have e:=DB h1;subst e
 exact Qb false (DA (Nat.zero_le _) Z Z Z Z Z) h0
 intro v12 h0
 refine Q4<|QE ?_
 have e:=DB h0;subst e
 exact QJ (fun _ _ h=>h) Z (QB Z .nil) (.cons (.one (.d _)) .nil)
 replace h0:=Qj c11 h0
 refine Qn<|Q4<|Q6<|Q0<|DE Z Z Z<|DE Z Z Z ?_
 refine Qd h0 (fun x16 hx16 h0=>?_)
 refine Q9 Z Z (DM Z) (Qo (Wk ((([]:List Dcl)++a0)++([(⟨0,a1,0,(Tm.mk 1 0 ([]:List UInt8) ([]:List Lvl) ([]:List Tm)),(Tm.mk 0 0 ([]:List UInt8) ([]:List Lvl) ([]:List Tm)),0,([]:List Ctr),(⟨0,(Tm.mk 0 0 ([]:List UInt8) ([]:List Lvl) ([]:List Tm)),([]:List Tm)⟩:Rcr),([]:List Fn)⟩:Dcl)])) a1 x16 hx16) Z (.cons (.one (.app _ _ _)) (.cons (.one (.d _)) .nil)))<|DE Z Z Z<|DD Z Z Z (QR Z Z)<|DD Z Z Z (QR Z Z)<|Q9 Z Z (DM Z) (Ql YZ Z)<|Qz Z Z (QC (x16.1:Ent) Jg Z Z Z Z Z)<|DF Z Z Z<|Q3<|Q4<|Q6<|Q6 ?_
 refine QO (fun (v17:Bool)=>⟨[(0,.v (.one (DU a0))),(7,.v (.one (DY 0 (((([]:List Dcl)++a0)++([(⟨0,a1,0,(Tm.mk 1 0 ([]:List UInt8) ([]:List Lvl) ([]:List Tm)),(Tm.mk 0 0 ([]:List UInt8) ([]:List Lvl) ([]:List Tm)),0,([]:List Ctr),(⟨0,(Tm.mk 0 0 ([]:List UInt8) ([]:List Lvl) ([]:List Tm)),([]:List Tm)⟩:Rcr),([]:List Fn)⟩:Dcl)])):List Dcl)))),(103,.v (.one (DX v17)))],[(2,.cells 35 (DZ x10.1)),(3,.cells 35 (DZ x16.1))],[(0,some ⟨45,23,(Enc.encL (((([]:List Dcl)++a0)++([(⟨0,a1,0,(Tm.mk 1 0 ([]:List UInt8) ([]:List Lvl) ([]:List Tm)),(Tm.mk 0 0 ([]:List UInt8) ([]:List Lvl) ([]:List Tm)),0,([]:List Ctr),(⟨0,(Tm.mk 0 0 ([]:List UInt8) ([]:List Lvl) ([]:List Tm)),([]:List Tm)⟩:Rcr),([]:List Fn)⟩:Dcl)])):List Dcl)).length,[]⟩),(1,some ⟨45,23,(Enc.encL ([(⟨0,a1,0,(Tm.mk 1 0 ([]:List UInt8) ([]:List Lvl) ([]:List Tm)),(Tm.mk 0 0 ([]:List UInt8) ([]:List Lvl) ([]:List Tm)),0,([]:List Ctr),(⟨0,(Tm.mk 0 0 ([]:List UInt8) ([]:List Lvl) ([]:List Tm)),([]:List Tm)⟩:Rcr),([]:List Fn)⟩:Dcl)]:List Dcl)).length,[]⟩)],4,170,[]⟩) (fun (v17:Bool)=>(cond v17
     (some false)
     (Option.bind (Qq (XT a0 a1) QI 0) (Sum.elim (fun (o19:Unit)=>some true) (fun o=>some o))))=some r) ?_ ?_
 refine Qd h0 (fun w1_ h1 h0=>?_)
 refine Q0<|DE Z Z Z<|DD Z Z Z (Q8 Z Z Z)<|DE Z Z Z ?_
 refine QA (d:=88) (c:=(x10.2 != 9)) Z (fun c18=>?_) (fun c18=>?_)
 replace h1:=Qi c18 h1
 refine Q7 Z Z<|Q7 Z Z<|DD Z Z Z (Qe Z Z)<|DE Z Z Z<|Q7 Z Z<|Q7 Z Z<|Q7 Z Z<|Q7 Z Z<|Q7 Z Z<|DD Z Z Z (Qe Z Z)<|DE Z Z Z<|Q7 Z Z<|Q7 Z Z<|Q7 Z Z ?_
 refine DD Z Z Z (Qe Z Z)<|Q3 ?_
 have e:=DB h1;subst e
 exact Qb true (DA (Nat.zero_le _) Z Z Z Z Z) h0
 replace h1:=Qj c18 h1
 refine DE Z Z Z<|DD Z Z Z (Q8 Z Z Z)<|DD Z Z Z (Qa Z Z)<|DE Z Z Z ?_
 refine QA (d:=92) (c:=(x16.2 != 0)) Z (fun c19=>?_) (fun c19=>?_)
 replace h1:=Qi c19 h1
 refine Q7 Z Z<|Q7 Z Z<|Q7 Z Z<|Q7 Z Z<|Q7 Z Z<|DD Z Z Z (Qe Z Z)<|DE Z Z Z<|Q7 Z Z<|Q7 Z Z<|Q7 Z Z<|DD Z Z Z (Qe Z Z)<|Q3 ?_
 have e:=DB h1;subst e
 exact Qb true (DA (Nat.zero_le _) Z Z Z Z Z) h0
 replace h1:=Qj c19 h1
 refine DD Z Z Z (Q2 KW Z)<|DD Z Z Z (Q5 QN Z Z Z)<|DE Z Z Z<|DD Z Z Z (QD (α:=Dcl) JW Z (.d _))<|DD Z Z Z (Q8 Z Z Z)<|DD Z Z Z (Qa Z Z)<|DE Z Z Z ?_
 refine QA (d:=99) (c:=(x16.1.decl != (a0.length:Int))) Z (fun c20=>?_) (fun c20=>?_)
 replace h1:=Qi c20 h1
 refine Q7 Z Z<|Q7 Z Z<|Q7 Z Z<|DD Z Z Z (Qe Z Z)<|Q3 ?_
 have e:=DB h1;subst e
 exact Qb true (DA (Nat.zero_le _) Z Z Z Z Z) h0
 replace h1:=Qj c20 h1
 refine DD Z Z Z (Q2 YW Z)<|DD Z Z Z (Q5 QN Z Z Z)<|DD Z Z Z (Q8 Z Z Z)<|DD Z Z Z (Qa Z Z)<|Q3 ?_
 have e:=DB h1;subst e
 exact Qb (x16.1.kind != 0) (DA (Nat.zero_le _) Z Z Z Z Z) h0
 intro v17 h0
 refine Q4 ?_
 refine Qg (b:=v17) Z (fun c21=>?_) (fun c21=>?_)
 replace h0:=Qi c21 h0
 refine Q6<|Q0<|DF Z Z Z<|Q3<|Q4<|QE ?_
 have e:=DB h0;subst e
 exact QJ (fun _ _ h=>h) Z (QB Z .nil) (.cons (.one (.d _)) .nil)
 replace h0:=Qj c21 h0
 refine Qn<|Q4<|Q6<|Q6<|Q0<|DF Z Z Z<|Q3<|Q4<|Qh ?_
 refine J2 0 (fun (o22:Unit)=>⟨[],[(2,.cells 35 (DZ x10.1)),(3,.cells 35 (DZ x16.1))],[(0,some ⟨45,23,(Enc.encL (((([]:List Dcl)++a0)++([(⟨0,a1,0,(Tm.mk 1 0 ([]:List UInt8) ([]:List Lvl) ([]:List Tm)),(Tm.mk 0 0 ([]:List UInt8) ([]:List Lvl) ([]:List Tm)),0,([]:List Ctr),(⟨0,(Tm.mk 0 0 ([]:List UInt8) ([]:List Lvl) ([]:List Tm)),([]:List Tm)⟩:Rcr),([]:List Fn)⟩:Dcl)])):List Dcl)).length,[]⟩),(1,some ⟨45,23,(Enc.encL ([(⟨0,a1,0,(Tm.mk 1 0 ([]:List UInt8) ([]:List Lvl) ([]:List Tm)),(Tm.mk 0 0 ([]:List UInt8) ([]:List Lvl) ([]:List Tm)),0,([]:List Ctr),(⟨0,(Tm.mk 0 0 ([]:List UInt8) ([]:List Lvl) ([]:List Tm)),([]:List Tm)⟩:Rcr),([]:List Fn)⟩:Dcl)]:List Dcl)).length,[]⟩)],4,170,[]⟩) (fun (o22:Unit)=>(some true)=some r) ?_ ?_
 refine Qd h0 (fun o23 hl1 h0=>?_)
 refine J1 (XT a0 a1) (fun s1=>⟨[(0,.v (.one (DU a0))),(7,.v (.one (DY 0 (((([]:List Dcl)++a0)++([(⟨0,a1,0,(Tm.mk 1 0 ([]:List UInt8) ([]:List Lvl) ([]:List Tm)),(Tm.mk 0 0 ([]:List UInt8) ([]:List Lvl) ([]:List Tm)),0,([]:List Ctr),(⟨0,(Tm.mk 0 0 ([]:List UInt8) ([]:List Lvl) ([]:List Tm)),([]:List Tm)⟩:Rcr),([]:List Fn)⟩:Dcl)])):List Dcl)))),(14,.v (.one (DW s1)))],[(2,.cells 35 (DZ x10.1)),(3,.cells 35 (DZ x16.1))],[(0,some ⟨45,23,(Enc.encL (((([]:List Dcl)++a0)++([(⟨0,a1,0,(Tm.mk 1 0 ([]:List UInt8) ([]:List Lvl) ([]:List Tm)),(Tm.mk 0 0 ([]:List UInt8) ([]:List Lvl) ([]:List Tm)),0,([]:List Ctr),(⟨0,(Tm.mk 0 0 ([]:List UInt8) ([]:List Lvl) ([]:List Tm)),([]:List Tm)⟩:Rcr),([]:List Fn)⟩:Dcl)])):List Dcl)).length,[]⟩),(1,some ⟨45,23,(Enc.encL ([(⟨0,a1,0,(Tm.mk 1 0 ([]:List UInt8) ([]:List Lvl) ([]:List Tm)),(Tm.mk 0 0 ([]:List UInt8) ([]:List Lvl) ([]:List Tm)),0,([]:List Ctr),(⟨0,(Tm.mk 0 0 ([]:List UInt8) ([]:List Lvl) ([]:List Tm)),([]:List Tm)⟩:Rcr),([]:List Fn)⟩:Dcl)]:List Dcl)).length,[]⟩)],4,170,[]⟩) 0 o23 (DA (Nat.zero_le _) Z Z Z Z Z) hl1 (fun s1 n1 oo1 h1 ho1=>?_)
 unfold XT at h1
 refine Q6<|Q6<|Q0<|DE Z Z Z<|DE Z Z Z<|DD Z Z Z (QD (α:=Dcl) JW Z (.d _))<|DD Z Z Z (Q8 Z Z Z)<|Q3<|Q4 ?_
 refine Qg (b:=(decide (s1 < (a0.length:Int)))) Z (fun c24=>?_) (fun c24=>?_)
 replace h1:=Qi c24 h1
 refine Qn<|Q4<|Q6<|Qh<|Q6<|Q0<|DE Z Z Z<|DE Z Z Z ?_
 refine Qd h1 (fun x25 hx25 h1=>?_)
 refine DD Z Z Z (Qy (α:=Dcl) JW Z (.d _) Z hx25)<|DD Z Z Z (Qt (x25:Dcl) JK Z) ?_
 refine Qd h1 (fun x26 hx26 h1=>?_)
 refine Q9 Z Z (DM Z) (Qo (m20_ok x25 x26 hx26) Z (.cons (.agg (.cons (.d _) (.cons (.d _) (.cons (.d _) (.cons (.d _) (.cons (.d _) (.cons (.d _) (.cons (.d _) (.cons (.d _) (.cons (.d _) (.cons (.d _) (.cons (.d _) (.cons (.d _) (.cons (.d _) (.cons (.d _) (.cons (.d _) (.cons (.d _) (.cons (.d _) (.cons (.d _) (.cons (.d _) (.cons (.d _) (.cons (.d _) (.cons (.d _) (.cons (.d _) .nil)))))))))))))))))))))))) .nil))<|DF Z Z Z<|Q3<|Q4<|Q6<|Q6<|Q0<|DF Z Z Z<|Q3<|Q4<|Qh ?_
 refine J2 2 (fun (o27:Unit)=>⟨[(0,.v (.one (DU a0))),(7,.v (.one (DY 0 (((([]:List Dcl)++a0)++([(⟨0,a1,0,(Tm.mk 1 0 ([]:List UInt8) ([]:List Lvl) ([]:List Tm)),(Tm.mk 0 0 ([]:List UInt8) ([]:List Lvl) ([]:List Tm)),0,([]:List Ctr),(⟨0,(Tm.mk 0 0 ([]:List UInt8) ([]:List Lvl) ([]:List Tm)),([]:List Tm)⟩:Rcr),([]:List Fn)⟩:Dcl)])):List Dcl)))),(14,.v (.one (DW s1)))],[(2,.cells 35 (DZ x10.1)),(3,.cells 35 (DZ x16.1))],[(0,some ⟨45,23,(Enc.encL (((([]:List Dcl)++a0)++([(⟨0,a1,0,(Tm.mk 1 0 ([]:List UInt8) ([]:List Lvl) ([]:List Tm)),(Tm.mk 0 0 ([]:List UInt8) ([]:List Lvl) ([]:List Tm)),0,([]:List Ctr),(⟨0,(Tm.mk 0 0 ([]:List UInt8) ([]:List Lvl) ([]:List Tm)),([]:List Tm)⟩:Rcr),([]:List Fn)⟩:Dcl)])):List Dcl)).length,[]⟩),(1,some ⟨45,23,(Enc.encL ([(⟨0,a1,0,(Tm.mk 1 0 ([]:List UInt8) ([]:List Lvl) ([]:List Tm)),(Tm.mk 0 0 ([]:List UInt8) ([]:List Lvl) ([]:List Tm)),0,([]:List Ctr),(⟨0,(Tm.mk 0 0 ([]:List UInt8) ([]:List Lvl) ([]:List Tm)),([]:List Tm)⟩:Rcr),([]:List Fn)⟩:Dcl)]:List Dcl)).length,[]⟩)],4,170,[]⟩) (fun (o27:Unit)=>(Uh a0 s1)=some oo1) ?_ ?_
 refine Qd h1 (fun o28 hl2 h1=>?_)
 refine J1 (WD x26 a0 a1) (fun s2=>⟨[(0,.v (.one (DU a0))),(7,.v (.one (DY 0 (((([]:List Dcl)++a0)++([(⟨0,a1,0,(Tm.mk 1 0 ([]:List UInt8) ([]:List Lvl) ([]:List Tm)),(Tm.mk 0 0 ([]:List UInt8) ([]:List Lvl) ([]:List Tm)),0,([]:List Ctr),(⟨0,(Tm.mk 0 0 ([]:List UInt8) ([]:List Lvl) ([]:List Tm)),([]:List Tm)⟩:Rcr),([]:List Fn)⟩:Dcl)])):List Dcl)))),(14,.v (.one (DW s1))),(15,.v (.one (DU x26))),(16,.v (.one (DW s2)))],[(2,.cells 35 (DZ x10.1)),(3,.cells 35 (DZ x16.1))],[(0,some ⟨45,23,(Enc.encL (((([]:List Dcl)++a0)++([(⟨0,a1,0,(Tm.mk 1 0 ([]:List UInt8) ([]:List Lvl) ([]:List Tm)),(Tm.mk 0 0 ([]:List UInt8) ([]:List Lvl) ([]:List Tm)),0,([]:List Ctr),(⟨0,(Tm.mk 0 0 ([]:List UInt8) ([]:List Lvl) ([]:List Tm)),([]:List Tm)⟩:Rcr),([]:List Fn)⟩:Dcl)])):List Dcl)).length,[]⟩),(1,some ⟨45,23,(Enc.encL ([(⟨0,a1,0,(Tm.mk 1 0 ([]:List UInt8) ([]:List Lvl) ([]:List Tm)),(Tm.mk 0 0 ([]:List UInt8) ([]:List Lvl) ([]:List Tm)),0,([]:List Ctr),(⟨0,(Tm.mk 0 0 ([]:List UInt8) ([]:List Lvl) ([]:List Tm)),([]:List Tm)⟩:Rcr),([]:List Fn)⟩:Dcl)]:List Dcl)).length,[]⟩)],4,170,[]⟩) 0 o28 (DA (Nat.zero_le _) Z Z Z Z Z) hl2 (fun s2 n2 oo2 h2 ho2=>?_)
 unfold WD at h2
 refine Q6<|Q6<|Q0<|DE Z Z Z<|DE Z Z Z<|DD Z Z Z (QD (α:=Bs) Z7 Z (.d _))<|DD Z Z Z (Q8 Z Z Z)<|Q3<|Q4 ?_
 refine Qg (b:=(decide (s2 < (x26.length:Int)))) Z (fun c29=>?_) (fun c29=>?_)
 replace h2:=Qi c29 h2
 refine Qn<|Q4<|Q6<|Qh<|Q6<|Q0<|DE Z Z Z<|DE Z Z Z<|DE Z Z Z ?_
 refine Qd h2 (fun x30 hx30 h2=>?_)
 refine DD Z Z Z (Qy (α:=Bs) Z7 Z (.d _) Z hx30)<|DD Z Z Z (Y1 JT Z Z) ?_
 refine Qd h2 (fun x31 hx31 h2=>?_)
 refine Q9 Z Z (DM Z) (Qo (Wk a0 x30 x31 hx31) Z (.cons (.one (.d _)) (.cons (.one (.d _)) .nil)))<|DE Z Z Z<|DD Z Z Z (QR Z Z)<|DD Z Z Z (QR Z Z)<|Q9 Z Z (DM Z) (Ql YZ Z)<|Qz Z Z (QC (x31.1:Ent) Jg Z Z Z Z Z)<|DF Z Z Z<|Q3<|Q4<|Q6<|Q0<|DE Z Z Z<|DE Z Z Z<|DE Z Z Z ?_
 refine Qd h2 (fun x32 hx32 h2=>?_)
 refine DD Z Z Z (Qy (α:=Bs) Z7 Z (.d _) Z hx32)<|DD Z Z Z (Y1 JT Z Z) ?_
 refine Qd h2 (fun x33 hx33 h2=>?_)
 refine Q9 Z Z (DM Z) (Qo (Wk ((([]:List Dcl)++a0)++([(⟨0,a1,0,(Tm.mk 1 0 ([]:List UInt8) ([]:List Lvl) ([]:List Tm)),(Tm.mk 0 0 ([]:List UInt8) ([]:List Lvl) ([]:List Tm)),0,([]:List Ctr),(⟨0,(Tm.mk 0 0 ([]:List UInt8) ([]:List Lvl) ([]:List Tm)),([]:List Tm)⟩:Rcr),([]:List Fn)⟩:Dcl)])) x32 x33 hx33) Z (.cons (.one (.app _ _ _)) (.cons (.one (.d _)) .nil)))<|DE Z Z Z<|DD Z Z Z (QR Z Z)<|DD Z Z Z (QR Z Z)<|Q9 Z Z (DM Z) (Ql YZ Z)<|Qz Z Z (QC (x33.1:Ent) Jg Z Z Z Z Z)<|DF Z Z Z<|Q3<|Q4<|Q6 ?_
 refine QO (fun (v34:Bool)=>⟨[(0,.v (.one (DU a0))),(7,.v (.one (DY 0 (((([]:List Dcl)++a0)++([(⟨0,a1,0,(Tm.mk 1 0 ([]:List UInt8) ([]:List Lvl) ([]:List Tm)),(Tm.mk 0 0 ([]:List UInt8) ([]:List Lvl) ([]:List Tm)),0,([]:List Ctr),(⟨0,(Tm.mk 0 0 ([]:List UInt8) ([]:List Lvl) ([]:List Tm)),([]:List Tm)⟩:Rcr),([]:List Fn)⟩:Dcl)])):List Dcl)))),(14,.v (.one (DW s1))),(15,.v (.one (DU x26))),(16,.v (.one (DW s2))),(147,.v (.one (DX v34)))],m6_h0 x10 x16 x31 x33,[(0,some ⟨45,23,(Enc.encL (((([]:List Dcl)++a0)++([(⟨0,a1,0,(Tm.mk 1 0 ([]:List UInt8) ([]:List Lvl) ([]:List Tm)),(Tm.mk 0 0 ([]:List UInt8) ([]:List Lvl) ([]:List Tm)),0,([]:List Ctr),(⟨0,(Tm.mk 0 0 ([]:List UInt8) ([]:List Lvl) ([]:List Tm)),([]:List Tm)⟩:Rcr),([]:List Fn)⟩:Dcl)])):List Dcl)).length,[]⟩),(1,some ⟨45,23,(Enc.encL ([(⟨0,a1,0,(Tm.mk 1 0 ([]:List UInt8) ([]:List Lvl) ([]:List Tm)),(Tm.mk 0 0 ([]:List UInt8) ([]:List Lvl) ([]:List Tm)),0,([]:List Ctr),(⟨0,(Tm.mk 0 0 ([]:List UInt8) ([]:List Lvl) ([]:List Tm)),([]:List Tm)⟩:Rcr),([]:List Fn)⟩:Dcl)]:List Dcl)).length,[]⟩)],6,170,[]⟩) (fun (v34:Bool)=>(cond v34
     (some (.done (.inr false)))
     (some (.next (Ja (s2+1)))))=some oo2) ?_ ?_
 refine Qd h2 (fun w3_ h3 h2=>?_)
 refine Q0<|DE Z Z Z<|DE Z Z Z<|DD Z Z Z (Q8 Z Z Z)<|DE Z Z Z ?_
 refine QA (d:=142) (c:=(x31.2 != x33.2)) Z (fun c35=>?_) (fun c35=>?_)
 replace h3:=Qi c35 h3
 refine Q7 Z Z<|Q7 Z Z<|Q7 Z Z<|Q7 Z Z<|DD Z Z Z (Qe Z Z)<|Q3 ?_
 have e:=DB h3;subst e
 exact Qb true (DA (Nat.zero_le _) Z Z Z Z Z) h2
 replace h3:=Qj c35 h3
 refine DD Z Z Z (QM (x31.1:Ent) Jg Z Z)<|DD Z Z Z (QM (x33.1:Ent) Jg Z Z) ?_
 refine Qd h3 (fun x36 hx36 h3=>?_)
 refine Q9 Z Z (DM Z) (Qo (m18_ok x31.1 x33.1 x36 hx36) Z (.cons (.agg (.cons (.d _) (.cons (.d _) (.cons (.d _) (.cons (.d _) (.cons (.d _) (.cons (.d _) (.cons (.d _) (.cons (.d _) (.cons (.d _) .nil)))))))))) (.cons (.agg (.cons (.d _) (.cons (.d _) (.cons (.d _) (.cons (.d _) (.cons (.d _) (.cons (.d _) (.cons (.d _) (.cons (.d _) (.cons (.d _) .nil)))))))))) .nil)))<|DD Z Z Z (Jj Z)<|DD Z Z Z (Qa Z Z)<|Q3 ?_
 have e:=DB h3;subst e
 exact Qb (!x36) (DA (Nat.zero_le _) Z Z Z Z Z) h2
 intro v34 h2
 refine Q4 ?_
 refine Qg (b:=v34) Z (fun c37=>?_) (fun c37=>?_)
 replace h2:=Qi c37 h2
 refine Q6<|Q0<|DF Z Z Z<|Q3<|Q4<|QE ?_
 have e:=DB h2;subst e
 have e_:_=_:=ho2
 subst e_
 try dsimp only [Sum.elim_inl,Sum.elim_inr] at h1
 have e:=DB h1;subst e
 have e_:_=_:=ho1
 subst e_
 try dsimp only [Sum.elim_inl,Sum.elim_inr] at h0
 have e:=DB h0;subst e
 exact QJ (fun _ _ h=>h) Z (QB Z .nil) (.cons (.one (.d _)) .nil)
 replace h2:=Qj c37 h2
 refine Qn<|Qf<|Q4<|Q0<|DE Z Z Z<|DD Z Z Z (Q8 Z Z Z)<|DF Z Z Z<|Q3 ?_
 have e:=DB h2;subst e
 refine QW (Ja (s2+1)) (DA (Nat.zero_le _) Z Z Z Z Z) ho2
 replace h2:=Qj c29 h2
 refine J8<|Qr<|Qr ?_
 have e:=DB h2;subst e
 have e_:_=_:=ho2
 subst e_
 exact J0 () (DA (Nat.zero_le _) Z Z Z Z Z) h1
 intro o27 h1
 unfold Uh at h1
 refine QQ<|Q4<|Q6 ?_
 refine Js [0,2,8] [(1,0),(3,0),(3,1),(4,0),(4,1),(5,0),(5,1),(6,0),(6,1),(7,0),(7,1)] YU (by kernel_rfl) (by kernel_rfl) (by kernel_rfl) ?_
 refine RunA.eff Z Z Z (OpOK.lit0E (α:=Dcl) JW Xk Z Z (DM Z)) Z<|RunA.rd Z Z Z (Q1 (Qp Z)) Z ?_
 refine YI h1 (fun g38 h1=>?_)
 refine RunA.eff Z Z Z (Yh (α:=Dcl) JW el_45 Z Z Z Z Z (.d _) g38) Z<|RunA.rd Z Z Z (Q1 (Qp Z)) Z<|RunA.rd Z Z Z (Q1 (Qp Z)) Z ?_
 refine Qd h1 (fun x39 hx39 h1=>?_)
 refine RunA.rd Z Z Z (Q1 (Qy (α:=Dcl) JW Z (.d _) Z hx39)) Z<|RunA.rd Z Z Z (Q1 (Qt (x39:Dcl) JK Z)) Z<|RunA.rd Z Z Z (OpOK.data1CE (x39:Dcl) JW Xk Z Z (DM Z) Z) Z ?_
 refine YI h1 (fun g40 h1=>?_)
 refine RunA.eff Z Z Z (Yh (α:=Dcl) JW el_45 Z Z Z Z Z (.d _) g40) Z ?_
 refine Qd h1 (fun x41 hx41 h1=>?_)
 refine RunA.rd Z Z Z (Qo (WP ((([]:List Dcl)++a0)++([x39])) x41 hx41) Z (.cons (.one (.app _ _ _)) .nil)) Z<|RunA.rd Z Z Z (Q1 (Qp Z)) Z<|RunA.rd Z Z Z (Q1 (QR Z Z)) Z<|RunA.rd Z Z Z (Q1 (QR Z Z)) Z<|RunA.rd Z Z Z (Q1 (JD Z)) Z<|RunA.rd Z Z Z (Q1 (JD Z)) Z ?_
 refine RunA.nil ⟨?ex,_,_,Z,?_⟩
 case ex=>exact ⟨⟨_,rfl,_,_,rfl,rfl,rfl,.inl ⟨rfl,_,Q1 (Qp rfl),rfl⟩⟩,⟨_,rfl,_,_,rfl,rfl,rfl,.inl ⟨rfl,_,Q1 (Qp rfl),rfl⟩⟩,⟨_,rfl,_,_,rfl,rfl,rfl,.inl ⟨rfl,_,Q1 (Qp rfl),rfl⟩⟩,⟨_,rfl,_,_,rfl,rfl,rfl,.inl ⟨rfl,_,Q1 (Qp rfl),rfl⟩⟩,⟨_,rfl,_,_,rfl,rfl,rfl,.inl ⟨rfl,_,Q1 (Qp rfl),rfl⟩⟩,⟨_,rfl,_,_,rfl,rfl,rfl,.inl ⟨rfl,_,Q1 (Qy (α:=Dcl) JW rfl (.d _) rfl hx39),rfl⟩⟩,⟨_,rfl,_,_,rfl,rfl,rfl,.inl ⟨rfl,_,Q1 (Qy (α:=Dcl) JW rfl (.d _) rfl hx39),rfl⟩⟩,⟨_,rfl,_,_,rfl,rfl,rfl,.inl ⟨rfl,_,Q1 (Qt (x39:Dcl) JK rfl),rfl⟩⟩,⟨_,rfl,_,_,rfl,rfl,rfl,.inl ⟨rfl,_,Q1 (Qt (x39:Dcl) JK rfl),rfl⟩⟩,⟨_,rfl,_,_,rfl,rfl,rfl,.inl ⟨rfl,_,OpOK.data1CE (x39:Dcl) JW Xk rfl rfl (DM rfl) rfl,rfl⟩⟩,⟨_,rfl,_,_,rfl,rfl,rfl,.inl ⟨rfl,_,OpOK.data1CE (x39:Dcl) JW Xk rfl rfl (DM rfl) rfl,rfl⟩⟩,trivial⟩
 refine JV (st':=⟨[(0,.v (.one (DU a0))),(7,.v (.one (DY 0 (((([]:List Dcl)++a0)++([(⟨0,a1,0,(Tm.mk 1 0 ([]:List UInt8) ([]:List Lvl) ([]:List Tm)),(Tm.mk 0 0 ([]:List UInt8) ([]:List Lvl) ([]:List Tm)),0,([]:List Ctr),(⟨0,(Tm.mk 0 0 ([]:List UInt8) ([]:List Lvl) ([]:List Tm)),([]:List Tm)⟩:Rcr),([]:List Fn)⟩:Dcl)])):List Dcl)))),(14,.v (.one (DW s1))),(21,.v (.one (DW x41.1))),(22,.v (.one (DW x41.2)))],[(2,.cells 35 (DZ x10.1)),(3,.cells 35 (DZ x16.1))],[(0,some ⟨45,23,(Enc.encL (((([]:List Dcl)++a0)++([(⟨0,a1,0,(Tm.mk 1 0 ([]:List UInt8) ([]:List Lvl) ([]:List Tm)),(Tm.mk 0 0 ([]:List UInt8) ([]:List Lvl) ([]:List Tm)),0,([]:List Ctr),(⟨0,(Tm.mk 0 0 ([]:List UInt8) ([]:List Lvl) ([]:List Tm)),([]:List Tm)⟩:Rcr),([]:List Fn)⟩:Dcl)])):List Dcl)).length,[]⟩),(1,some ⟨45,23,(Enc.encL ([(⟨0,a1,0,(Tm.mk 1 0 ([]:List UInt8) ([]:List Lvl) ([]:List Tm)),(Tm.mk 0 0 ([]:List UInt8) ([]:List Lvl) ([]:List Tm)),0,([]:List Ctr),(⟨0,(Tm.mk 0 0 ([]:List UInt8) ([]:List Lvl) ([]:List Tm)),([]:List Tm)⟩:Rcr),([]:List Fn)⟩:Dcl)]:List Dcl)).length,[]⟩),(4,some ⟨45,23,(Enc.encL (((([]:List Dcl)++a0)++([x39])):List Dcl)).length,[]⟩)],5,170,[]⟩) (DA (Nat.zero_le _) Z Z Z Z Z)<|Q4<|Q6 ?_
 refine QO (fun (v42:Bool)=>⟨[(0,.v (.one (DU a0))),(7,.v (.one (DY 0 (((([]:List Dcl)++a0)++([(⟨0,a1,0,(Tm.mk 1 0 ([]:List UInt8) ([]:List Lvl) ([]:List Tm)),(Tm.mk 0 0 ([]:List UInt8) ([]:List Lvl) ([]:List Tm)),0,([]:List Ctr),(⟨0,(Tm.mk 0 0 ([]:List UInt8) ([]:List Lvl) ([]:List Tm)),([]:List Tm)⟩:Rcr),([]:List Fn)⟩:Dcl)])):List Dcl)))),(14,.v (.one (DW s1))),(168,.v (.one (DX v42)))],[(2,.cells 35 (DZ x10.1)),(3,.cells 35 (DZ x16.1))],[(0,some ⟨45,23,(Enc.encL (((([]:List Dcl)++a0)++([(⟨0,a1,0,(Tm.mk 1 0 ([]:List UInt8) ([]:List Lvl) ([]:List Tm)),(Tm.mk 0 0 ([]:List UInt8) ([]:List Lvl) ([]:List Tm)),0,([]:List Ctr),(⟨0,(Tm.mk 0 0 ([]:List UInt8) ([]:List Lvl) ([]:List Tm)),([]:List Tm)⟩:Rcr),([]:List Fn)⟩:Dcl)])):List Dcl)).length,[]⟩),(1,some ⟨45,23,(Enc.encL ([(⟨0,a1,0,(Tm.mk 1 0 ([]:List UInt8) ([]:List Lvl) ([]:List Tm)),(Tm.mk 0 0 ([]:List UInt8) ([]:List Lvl) ([]:List Tm)),0,([]:List Ctr),(⟨0,(Tm.mk 0 0 ([]:List UInt8) ([]:List Lvl) ([]:List Tm)),([]:List Tm)⟩:Rcr),([]:List Fn)⟩:Dcl)]:List Dcl)).length,[]⟩),(4,some ⟨45,23,(Enc.encL (((([]:List Dcl)++a0)++([x39])):List Dcl)).length,[]⟩)],5,170,[]⟩) (fun (v42:Bool)=>(cond v42
     (some (.done (.inr false)))
     (some (.next (Ja (s1+1)))))=some oo1) ?_ ?_
 refine Qd h1 (fun w2_ h2 h1=>?_)
 refine Q0<|DE Z Z Z<|DE Z Z Z<|DD Z Z Z (QD (α:=Dcl) JW Z (.d _))<|DD Z Z Z (Q8 Z Z Z)<|DE Z Z Z ?_
 refine QA (d:=165) (c:=(x41.1 != (a0.length:Int))) Z (fun c43=>?_) (fun c43=>?_)
 replace h2:=Qi c43 h2
 refine Q7 Z Z<|Q7 Z Z<|DD Z Z Z (Qe Z Z)<|Q3 ?_
 have e:=DB h2;subst e
 exact Qb true (DA (Nat.zero_le _) Z Z Z Z Z) h1
 replace h2:=Qj c43 h2
 refine DE Z Z Z<|DD Z Z Z (Q8 Z Z Z)<|DD Z Z Z (Qa Z Z)<|Q3 ?_
 have e:=DB h2;subst e
 exact Qb (x41.2 != 8) (DA (Nat.zero_le _) Z Z Z Z Z) h1
 intro v42 h1
 refine Q4 ?_
 refine Qg (b:=v42) Z (fun c44=>?_) (fun c44=>?_)
 replace h1:=Qi c44 h1
 refine Q6<|Q0<|DF Z Z Z<|Q3<|Q4<|QE ?_
 have e:=DB h1;subst e
 have e_:_=_:=ho1
 subst e_
 try dsimp only [Sum.elim_inl,Sum.elim_inr] at h0
 have e:=DB h0;subst e
 exact QJ (fun _ _ h=>h) Z (QB Z .nil) (.cons (.one (.d _)) .nil)
 replace h1:=Qj c44 h1
 refine Qn<|Qf<|Q4<|Q0<|DE Z Z Z<|DD Z Z Z (Q8 Z Z Z)<|DF Z Z Z<|Q3 ?_
 have e:=DB h1;subst e
 refine QW (Ja (s1+1)) (DA (Nat.zero_le _) Z Z Z Z Z) ho1
 replace h1:=Qj c24 h1
 refine J8<|Qr<|Qr ?_
 have e:=DB h1;subst e
 have e_:_=_:=ho1
 subst e_
 exact J0 () (DA (Nat.zero_le _) Z Z Z Z Z) h0
 intro o22 h0
 refine QQ<|Q4<|Q6<|Q0<|Q9 Z Z (DM Z) (Qo (awake_fun) Z .nil)<|DF Z Z Z<|Q3<|Q4<|QE ?_
 have e:=DB h0;subst e
 exact QJ (fun _ _ h=>h) Z (QB Z .nil) (.cons (.one (.d _)) .nil)
end Go.Proofs.Ytafddfoefeploaa
namespace Go.Proofs.Ytafddfoefeploaa
open Go.RowKit Go.Shelf
def Xl (n:Bs):Dcl:=⟨0,n,0,(Tm.mk 1 0 ([]:List UInt8) ([]:List Lvl) ([]:List Tm)),tmZ,0,([]:List Ctr),(⟨0,tmZ,([]:List Tm)⟩:Rcr),([]:List Fn)⟩
theorem axD_names (n:Bs):Je (Xl n)=[n]:=by unfold Je;rw [if_pos (show (Xl n).kind=0∨(Xl n).kind=1∨(Xl n).kind=2 from Or.inl rfl)];rfl
theorem axD_size (n:Bs):(Xl n).size=5+n.length - 1:=by
 have h1:(Tm.mk 1 0 ([]:List UInt8) ([]:List Lvl) ([]:List Tm)).size=1:=by rw [Tm.size_eq];rfl
 unfold Dcl.size Xl
 simp only [tmZ_size,h1,List.map_nil,List.sum_nil]
 omega
theorem axD_look (n:Bs) (k:Int) (m:Bs):JN (Xl n) k m=if n=m then some ⟨0,k,0,0,(Tm.mk 1 0 ([]:List UInt8) ([]:List Lvl) ([]:List Tm))⟩ else none:=by
 unfold JN
 rw [if_pos (show (Xl n).kind=0∨(Xl n).kind=1∨(Xl n).kind=2 from Or.inl rfl)];rfl
theorem loop_twice {τ β:Type} {step:τ→Option (LO τ β)} {s s':τ} {r:β} (h1:step s=some (.next s')) (h2:step s'=some (.done r)):Qq step QI s=some r:=by
 show Qq step (999999998+1+1) s=_
 simp only [Qq,h1,h2]
theorem m72_univ (s:Rsc) (P:Int):Uw s (Tm.mk 1 0 ([]:List UInt8) ([]:List Lvl) ([]:List Tm)) 0 P=some 0:=by
 have h100:m100 (Tm.mk 1 0 ([]:List UInt8) ([]:List Lvl) ([]:List Tm)) 0 (max 0 0) P 0 0=some 0:=by
  unfold m100
  rw [Uo]
  show Ui _ (Tm.mk 1 0 [] [] []) 0 (max 0 0) P 0 0=_
  obtain ⟨e,h1,h2,h3⟩:=node_eq (Tm.mk 1 0 ([]:List UInt8) ([]:List Lvl) ([]:List Tm)) 0 0 P (by rw [Tm.size_eq];decide)
  rw [h2]
  have h4:D8 (ZG 0 P) (Tm.mk 1 0 ([]:List UInt8) ([]:List Lvl) ([]:List Tm)) 0=some 0:=by
   unfold D8
   rw [JM (step:=ZI (Tm.mk 1 0 [] [] []) (ZG 0 P)) (s:=0) (r:=.inl ()) rfl];rfl
  rw [h4] at h1
  cases h1
  rw [if_pos rfl]
  unfold U4
  rw [JM (r:=.inl ()) rfl];rfl
 have h55:Db (Tm.mk 1 0 ([]:List UInt8) ([]:List Lvl) ([]:List Tm))=some 1:=by
  unfold Db
  rw [Uo]
  show Ua _ (Tm.mk 1 0 [] [] [])=_
  unfold Ua
  rw [JM (r:=1) rfl];rfl
 have h56:m56 (Tm.mk 1 0 ([]:List UInt8) ([]:List Lvl) ([]:List Tm))=some 1:=by
  unfold m56
  rw [Uo]
  show Up _ (Tm.mk 1 0 [] [] [])=_
  unfold Up
  rw [JM (r:=0) rfl];rfl
 have h87:m87 s (Tm.mk 1 0 ([]:List UInt8) ([]:List Lvl) ([]:List Tm))=some 0:=by
  unfold m87
  rw [Uo]
  show UF _ s (Tm.mk 1 0 [] [] [])=_
  unfold UF
  rw [JM (step:=GR (Tm.mk 1 0 [] [] []) (JE UG 999999999) s) (s:=0) (r:=.inl ()) rfl];rfl
 unfold Uw m86
 rw [h100,h55,h56,h87];rfl
def Dh (a:List Dcl) (n:Bs):Int:=if ZH n=true then (if (Yu a n).isSome=true then 8 else 0) else 29
theorem m52_ax (a:List Dcl) (n:Bs) (he:Yc a≤800000000) (hn:n.length≤700000000):UU a (Xl n)=some (Dh a n):=by
 unfold UU
 rw [Wj (Xl n) (by rw [axD_size];omega),Option.bind_some,axD_names]
 have s0:G1 [n] a 0=some (if ZH n=true then (if (Yu a n).isSome=true then .done (.inr 8) else .next 1) else .done (.inr 29)):=by
  unfold G1
  show Option.bind (D9 n) _=_
  rw [m71_eq n (by omega),Option.bind_some]
  cases ZH n with
  | false=>rfl
  | true =>
   show Option.bind (UX a n) _=_
   rw [WL a n he]
   unfold ZD
   cases Yu a n with
   | some e=>rfl
   | none =>
    simp only [Option.elim_none,Option.bind_some]
    have hg:(Jh (cond (decide ((0:Int)≤0)) (Nat.ble ((0:Int)).toNat ([n]:List Bs).length) false) (Option.bind (Jx [n] 0) fun (x12:Bs)=>Option.bind (UB (([n]:List Bs).take ((0:Int)).toNat) x12) fun (x13:Bool)=>some x13))=some false:=by
     show Option.bind (UB [] n) _=_
     rw [m33_eq [] n (by simp)];rfl
    rw [hg];rfl
 have s1:G1 [n] a 1=some (.done (.inl ())):=by unfold G1;rfl
 unfold Dh
 by_cases c1:ZH n=true
 ·rw [if_pos c1] at s0
  rw [if_pos c1]
  by_cases c2:(Yu a n).isSome=true
  ·rw [if_pos c2] at s0
   rw [if_pos c2,JM s0];rfl
  ·rw [if_neg c2] at s0
   rw [if_neg c2,loop_twice s0 s1];rfl
 ·rw [if_neg c1] at s0
  rw [if_neg c1,JM s0];rfl
theorem m32_ax (a:List Dcl) (n:Bs) (he:Yc a≤800000000) (hn:n.length≤700000000):Ut a (Xl n)=some (Dh a n):=by
 have h50:m50 (Xl n)=some true:=m50_eq (Xl n) (show (0:Int)≤0 by omega) (show (0:Int)≤4 by omega)
 have h51:D4 (Xl n)=some 0:=by
  unfold D4
  show XA false (Xl n)=_
  unfold XA
  rw [JM (step:=Wg (Xl n)) (s:=0) (r:=.inl ()) rfl];rfl
 have h53:D3 a (Xl n)=some 0:=by
  unfold D3
  show Option.bind (Uw (⟨a,[],Xl n⟩:Rsc) (Tm.mk 1 0 [] [] []) 0 0) _=_
  rw [m72_univ];rfl
 unfold Ut
 show Gx false (Xl n) a=_
 unfold Gx
 rw [h50,h51,m52_ax a n he hn,h53]
 show cond (Dh a n != 0) (some (Dh a n)) (some 0)=_
 by_cases c:Dh a n=0
 ·rw [c];rfl
 ·rw [W5 c];rfl
theorem add_is (a:List Dcl) (x:Dcl) (hg:Good a) (hlen:a.length≤900) (he:Yc a+x.size≤800000000) (hr:∀ d∈a,XM d.rcr.params) (hx:XM x.rcr.params) :
  ∃ r,Ux (a++[x])=some r∧((r=(0,0)∧OkD a x)∨∃ e,Ut a x=some e∧e ≠ 0∧r=((a.length:Int),e)):=by
 obtain ⟨r,h1,-,h2⟩:=check_is (a++[x]) (by rw [envSz_app];show Yc a+(x.size+0)≤_;omega) (fun d hd=>by
  rcases List.mem_append.1 hd with hd | hd
  ·exact hr d hd
  ·rw [List.mem_singleton.1 hd];exact hx)
 refine ⟨r,h1,?_⟩
 rcases h2 (by rw [List.length_append,List.length_singleton];omega) with ⟨h3,h4⟩ | ⟨a',x',b',e,h3,h4,h5,h6,h7⟩
 ·exact .inl ⟨h3,h4 a x [] rfl⟩
 ·rcases snoc_split h3 with ⟨rfl,rfl⟩ | ⟨c,h8⟩
  ·exact .inr ⟨e,h5,h6,h7⟩
  ·have:=(hg a' x' c h8).1
   rw [this] at h5
   cases h5
   exact (h6 Z).elim
theorem again (a a1:List Dcl) (x:Dcl) (h:OkD a1 x) (hx:x∈a) (he:Yc a≤800000000) (hs:x.size≤700000000):Ut a x=some 8:=by
 obtain ⟨k0,k4,hu,h51,-,-⟩:=m32_zero h.1
 have hne:=names_ne h.1
 have hnl:=G8 x
 have h52:UU a x=some 8:=by
  unfold UU
  rw [Wj x (by omega),Option.bind_some]
  cases hn:Je x with
  | nil=>exact (hne hn).elim
  | cons n l =>
   have hmem:n∈Je x:=by rw [hn];exact List.mem_cons_self ..
   obtain ⟨e,hf⟩:=findO_mem hx hmem
   rw [JM (r:=.inr 8)]
   ·rfl
   ·unfold G1
    rw [show decide (0 < ((n::l).length:Int))=true from decide_eq_true (by rw [List.length_cons];omega)]
    show Option.bind (D9 n) _=_
    rw [m71_eq n (by have:=names_mem_len hmem;omega),Option.bind_some,h.2.2.2 n hmem]
    show Option.bind (UX a n) _=_
    rw [WL a n he]
    unfold ZD
    rw [hf];rfl
 unfold Ut
 rw [decide_eq_false (show ¬ x.kind < 0 by omega),decide_eq_false (show ¬ 4 < x.kind by omega)]
 show Gx false x a=_
 unfold Gx
 rw [m50_eq x k0 k4,hu,h51,h52];rfl
theorem m6_l0_eq (l:List Bs) (a:List Dcl) (n:Bs) (hl:l.length≤900000000) (he:Yc (a++[Xl n])≤800000000) (h:∀ m∈l,∃ e,Yu a m=some e):Qq (WD l a n) QI 0=some (.inl ()):=by
 have he0:Yc a≤800000000:=by rw [envSz_app] at he;omega
 obtain ⟨r,h1,h2⟩:=Y3 (step:=WD l a n) l (fun i (_:Unit)=>i) (fun _ _=>True) (fun r=>r=.inl ()) hl (fun p x q s e _=>by
  obtain ⟨q1,q2⟩:=Yv e
  obtain ⟨en,h1⟩:=h x (by rw [e];simp)
  have h2:Yu (a++[Xl n]) x=some en:=by rw [findO_snoc,h1];rfl
  have h3:Un a x=some (en,0):=by rw [m14_eq a x (by omega)];unfold ZD;rw [h1];rfl
  have h4:Un ((([]:List Dcl)++a)++[Xl n]) x=some (en,0):=by
   rw [List.nil_append,m14_eq _ x (by omega)];unfold ZD;rw [h2];rfl
  have h5:en.ty.size≤800000000:=by
   have:=findR_ty a x he0
   unfold ZD at this
   rw [h1] at this
   exact this
  refine .inr ⟨(),?_,trivial⟩
  unfold WD
  rw [q1,q2]
  simp only [cond_true,Option.bind_some]
  rw [h3]
  show Option.bind (Un ((([]:List Dcl)++a)++[Xl n]) x) _=_
  rw [h4]
  show Option.bind (Option.bind (Df en en) _) _=_
  rw [m18_self en (by omega)];rfl)
  (fun s _=>⟨_,by unfold WD;rw [J9];rfl,rfl⟩) () trivial
 rw [← h2];exact h1
theorem m6_true (env:List Dcl) (n:Bs) (he:Yc env≤100000000) (hr:∀ d∈env,XM d.rcr.params):DK env n=some true:=by
 obtain ⟨b,h1,h0⟩:=m9_some env (by omega)
 have hl:=W0 env
 have key2:U0 true env n=some true:=rfl
 unfold DK
 rw [h1]
 cases b with
 | false=>exact key2
 | true =>
 have hlen:=h0 rfl
 show U0 (decide (200 < (n.length:Int))) env n=_
 by_cases hn:200 < (n.length:Int)
 ·rw [decide_eq_true hn];exact key2
 rw [decide_eq_false hn]
 obtain ⟨r,h2,-,h3⟩:=check_is env (by omega) hr
 unfold U0
 rw [h2]
 simp only [cond_false,Option.bind_some]
 rcases h3 (by omega) with ⟨rfl,hg⟩ | ⟨a,x,b,e,-,-,-,h4,rfl⟩
 ·have hsz:=axD_size n
  have hax:XM (Xl n).rcr.params:=⟨by show (-9223372036854775808:Int)≤0;omega,by show (0:Int)≤9223372036854775807;omega⟩
  have hea:Yc (env++[Xl n])≤800000000:=by rw [envSz_app];show Yc env+((Xl n).size+0)≤_;omega
  obtain ⟨r,h5,h6⟩:=add_is env (Xl n) hg (by omega) (by omega) hr hax
  have h32:=m32_ax env n (by omega) (by omega)
  show Jh (Nat.ble (0+env.length) 1000000000) (Jh (Nat.ble ((([]:List Dcl)++env).length+1) 1000000000) (Option.bind (Ux ((([]:List Dcl)++env)++[Xl n])) _))=_
  rw [JI (by omega),List.nil_append,JI (by omega),h5,Option.bind_some,m14_eq env n (by omega),Option.bind_some]
  rcases h6 with ⟨rfl,hok⟩ | ⟨e,h7,h8,rfl⟩
  ·have hz:=hok.1
   rw [h32] at hz
   have hf:Yu env n=none:=hok.2.2.1 n (by rw [axD_names];exact List.mem_singleton_self _)
   have hf2:Yu (env++[Xl n]) n=some ⟨0,(env.length:Int),0,0,(Tm.mk 1 0 ([]:List UInt8) ([]:List Lvl) ([]:List Tm))⟩:=by
    rw [findO_snoc,hf,axD_look,if_pos rfl];rfl
   have h14:Un (env++[Xl n]) n=some (⟨0,(env.length:Int),0,0,(Tm.mk 1 0 ([]:List UInt8) ([]:List Lvl) ([]:List Tm))⟩,0):=by
    rw [m14_eq _ n (by omega)];unfold ZD;rw [hf2];rfl
   unfold ZD
   rw [hf]
   show Option.bind (Un (env++[Xl n]) n) _=_
   rw [h14]
   show Option.bind (cond ((env.length:Int) != (env.length:Int)) (some true) (some false)) _=_
   rw [KK]
   show Option.bind (Qq (XT env n) QI 0) _=_
   obtain ⟨q,e1,e2⟩:=Y3 (step:=XT env n) env (fun i (_:Unit)=>i) (fun _ _=>True) (fun q=>q=.inl ()) (by omega)
    (fun a x b s e _=>by
     obtain ⟨q1,q2⟩:=Yv e
     have hx:x∈env:=by rw [e];simp
     have hxs:=Xe hx
     have hnl:=G8 x
     have hok:=hg a x b e
     obtain ⟨r,w1,w2⟩:=add_is env x hg (by omega) (by omega) hr (hr x hx)
     have w3:=again env a x hok hx (by omega) (by omega)
     have w4:Ux (env++[x])=some ((env.length:Int),8):=by
      rcases w2 with ⟨-,w5⟩ | ⟨e',w5,-,w6⟩
      ·have:=w5.1
       rw [w3] at this
       exact (Uv this (by omega)).elim
      ·rw [w3] at w5
       cases w5
       rw [w1,w6]
     refine .inr ⟨(),?_,trivial⟩
     unfold XT
     rw [q1,q2]
     simp only [cond_true,Option.bind_some]
     rw [m20_eq x (by omega)]
     simp only [Option.bind_some]
     rw [m6_l0_eq (Je x) env n (by omega) hea (fun m hm=>findO_mem hx hm)]
     show Uh env (a.length:Int)=_
     unfold Uh
     rw [q2]
     show Jh (Nat.ble (0+env.length) 1000000000) (Jh (Nat.ble ((([]:List Dcl)++env).length+1) 1000000000) (Option.bind (Ux ((([]:List Dcl)++env)++[x])) _))=_
     rw [JI (by omega),List.nil_append,JI (by omega),w4]
     show Option.bind (cond ((env.length:Int) != (env.length:Int)) (some true) (some false)) _=_
     rw [KK];rfl)
    (fun s _=>⟨.inl (),by unfold XT;rw [J9];rfl,rfl⟩) () trivial
   have e1':Qq (XT env n) QI 0=some q:=e1
   rw [e1',e2];rfl
  ·show cond (e != 0) (Option.bind (cond ((env.length:Int)==(env.length:Int)) (cond (e==29) (some true) (cond (e==8) (some ((ZD env n).2==0)) (some false))) (some false)) _) _=_
   rw [W5 h8,Gq]
   rw [h32] at h7
   cases h7
   unfold Dh at h8 ⊢
   by_cases c1:ZH n=true
   ·rw [if_pos c1] at h8 ⊢
    by_cases c2:(Yu env n).isSome=true
    ·rw [if_pos c2]
     unfold ZD
     cases hf:Yu env n with
     | none=>rw [hf] at c2;cases c2
     | some en=>rfl
    ·rw [if_neg c2] at h8;exact (h8 rfl).elim
   ·rw [if_neg c1];rfl
 ·show cond (e != 0) _ _=_
  rw [W5 h4];rfl
end Go.Proofs.Ytafddfoefeploaa
namespace Go.Proofs.Ytafddfoefeploaa
open Go.RowKit Go.ChangeShapes Go.WideShapes
def Us (w:World):Nat→Nat→Prop:=fun b _=>b < w.heap.size
def RC (w:World) (e:List C) (cs:List Value):Prop:=cs.length=e.length∧∀ (j:Nat) (c:C),e[j]?=some c→∃ u,cs[j]?=some u∧Reads (Us w) w c u
theorem RC.app {w:World} {e0 e1:List C} {cs:List Value} (h0:RC w e0 (cs.take e0.length)) (h1:RC w e1 (cs.drop e0.length)) (hl:cs.length=e0.length+e1.length):RC w (e0++e1) cs:=by
 refine ⟨by rw [hl,List.length_append],fun j c hj=>?_⟩
 rcases Nat.lt_or_ge j e0.length with h | h
 ·rw [List.getElem?_append_left h] at hj
  obtain ⟨u,h2,h3⟩:=h0.2 j c hj
  rw [List.getElem?_take,if_pos h] at h2
  exact ⟨u,h2,h3⟩
 ·rw [List.getElem?_append_right h] at hj
  obtain ⟨u,h2,h3⟩:=h1.2 _ c hj
  rw [List.getElem?_drop,show e0.length+(j - e0.length)=j by omega] at h2
  exact ⟨u,h2,h3⟩
section
variable {H:Type} (enc:TypeId×Value→H) (P:Program) (w:World)
end
section
variable {H:Type} {enc:TypeId×Value→H} {P:Program} {w:World}
end
end Go.Proofs.Ytafddfoefeploaa
namespace Go.Proofs.Ytafddfoefeploaa
open Go.RowKit Go.ChangeShapes Go.WideShapes
theorem Gr {H:Type} (d:DataW H):1≤Rows.uptoBulk d:=by
 cases d with
 | lit l=>cases l <;> simp [Rows.uptoBulk]
 | nil=>simp [Rows.uptoBulk]
 | ptr d=>simp [Rows.uptoBulk]
 | slice elems spare=>simp [Rows.uptoBulk]
 | agg parts=>simp [Rows.uptoBulk]
 | iface t d=>simp [Rows.uptoBulk]
 | map entries=>simp [Rows.uptoBulk]
 | held h=>simp [Rows.uptoBulk]
theorem bulk_all {H:Type}:∀ l:List (DataW H),Rows.uptoBulkAll l=(l.map Rows.uptoBulk).sum
 | []=>by simp [Rows.uptoBulkAll]
 | x::l=>by simp only [Rows.uptoBulkAll,List.map_cons,List.sum_cons,bulk_all l]
theorem RC.nil {w:World} {cs:List Value}:RC w [] (cs.take 0):=⟨by simp,fun j c h=>by cases h⟩
theorem RC.snoc {w:World} {e0 e1:List C} {cs:List Value} {m k:Nat} (h0:RC w e0 (cs.take m)) (h1:RC w e1 ((cs.drop m).take k)) (hm:e0.length=m):RC w (e0++e1) (cs.take (m+k)):=by
 have h2:=h0.1
 have h3:=h1.1
 refine RC.app ?_ ?_ ?_
 ·rw [List.take_take,hm,Nat.min_eq_left (by omega)];exact h0
 ·rw [hm,List.drop_take,Nat.add_sub_cancel_left];exact h1
 ·rw [← h3,hm]
  simp only [List.length_take,List.length_drop] at h2 ⊢
  omega
section
variable {H:Type} (enc:TypeId×Value→H) (P:Program) (w:World)
def J7 (N:Nat) (t:TypeId) (α:Type) [Enc α] (μ:α→Nat):Prop:=∀ (fuel:Nat) (cs:List Value) (x:DataW H×List MemPlace),DataW.trod enc P w 0 (fun _=>true) true fuel t cs=some x→Rows.uptoBulk x.1≤N→∃ v:α,RC w (Enc.enc v) cs∧μ v≤Rows.uptoBulk x.1
end
section
variable {H:Type} {enc:TypeId×Value→H} {P:Program} {w:World} {N:Nat}
theorem GO {t:TypeId} (ht:P.underlying t=some (.int .i64)):J7 enc P w N t Int (fun _=>1):=by
 intro fuel cs x h hb
 obtain ⟨n,rfl,rfl,-⟩:=DataW.trod_int ht h
 refine ⟨n,⟨Z,fun j c hj=>?_⟩,Gr _⟩
 cases j with
 | zero=>cases hj;exact ⟨_,rfl,Reads.v _ rfl⟩
 | succ j=>cases hj
theorem z_bool {t:TypeId} (ht:P.underlying t=some .bool):J7 enc P w N t Bool (fun _=>1):=by
 intro fuel cs x h hb
 obtain ⟨n,rfl,rfl⟩:=DataW.trod_bool ht h
 refine ⟨n,⟨Z,fun j c hj=>?_⟩,Gr _⟩
 cases j with
 | zero=>cases hj;exact ⟨_,rfl,Reads.v _ rfl⟩
 | succ j=>cases hj
theorem Ud {t:TypeId} (ht:P.underlying t=some .string):J7 enc P w N t Bs (fun s=>1+s.length):=by
 intro fuel cs x h hb
 obtain ⟨s,rfl,rfl,-⟩:=DataW.trod_string ht h
 refine ⟨s.data.toList,⟨rfl,fun j c hj=>?_⟩,by simp [Rows.uptoBulk];omega⟩
 cases j with
 | zero=>cases hj;exact ⟨_,rfl,by rw [show DC s.data.toList=s from rfl];exact Reads.v _ rfl⟩
 | succ j=>cases hj
theorem KI {α:Type} [Enc α] [EncLen α] {μ:α→Nat} {t e:TypeId} (ht:P.underlying t=some (.slice e)) (hc:P.cellsOf e=Enc.sz α) (ho:J7 enc P w N e α μ):J7 enc P w N t (List α) (fun l=>1+(l.map μ).sum):=by
 intro fuel cs x h hb
 rcases Deep.open_slice ht h with ⟨rfl,rfl⟩ | ⟨a,len,cap,m,n,D,Pl,rfl,-,hlc,-,hm,rfl,hel⟩
 ·refine ⟨[],⟨rfl,fun j c hj=>?_⟩,by simp [Rows.uptoBulk]⟩
  cases j with
  | zero =>
   cases hj
   refine ⟨_,Z,?_⟩
   rw [Enc.nil]
   exact .sl _ [] none 0 0 0 (fun _ _=>undef) (Nat.le_refl _) (fun h=>absurd rfl h) (fun i e h=>by simp at h) (fun i e j c h=>by simp at h) (fun i e j c h=>by simp at h) (fun i e j c h=>by simp at h)
  | succ j=>cases hj
 ·have hm':m=cap:=by rw [hm];rfl
  have hbk:((List.range len).map fun i=>Rows.uptoBulk (D i)).sum+1≤Rows.uptoBulk (DataW.slice (H:=H) ((List.range len).map D) ((List.range (m - len)).map fun j=>D (len+j))):=by
   simp only [Rows.uptoBulk,bulk_all,List.map_map]
   have:(List.map (Rows.uptoBulk ∘ D) (List.range len)).sum=((List.range len).map fun i=>Rows.uptoBulk (D i)).sum:=rfl
   omega
  dsimp only at hb
  have hD:∀ k,k < len→Rows.uptoBulk (D k)≤N:=fun k hk=>by
   have:=Zc (fun i=>Rows.uptoBulk (D i)) (List.mem_range.2 hk)
   omega
  have hall:∀ k,k≤len→∃ l:List α,l.length=k∧(l.map μ).sum≤((List.range k).map fun i=>Rows.uptoBulk (D i)).sum∧∀ (i:Nat) (v:α),l[i]?=some v→∃ cs',w.cells? 0 (a.add (i * Enc.sz α)) (Enc.sz α)=some cs'∧RC w (Enc.enc v) cs':=by
   intro k
   induction k with
   | zero=>intro _;exact ⟨[],rfl,Nat.le_refl _,fun i v h=>by simp at h⟩
   | succ k ih =>
    intro hk
    obtain ⟨l,h1,hsum,h2⟩:=ih (by omega)
    obtain ⟨cs',h3,h4⟩:=hel k (by omega)
    rw [hc] at h3
    obtain ⟨v,hv,hμ⟩:=ho _ _ _ h4 (hD k (by omega))
    refine ⟨l++[v],by simp [h1],?_,fun i v' hi=>?_⟩
    ·rw [List.range_succ]
     simp only [List.map_append,List.map_cons,List.map_nil,List.sum_append,List.sum_cons,List.sum_nil]
     dsimp only at hμ
     omega
    rcases Nat.lt_or_ge i l.length with h | h
    ·rw [List.getElem?_append_left h] at hi;exact h2 i v' hi
    ·rw [List.getElem?_append_right h] at hi
     have hi0:i - l.length=0:=by
      rcases Nat.eq_zero_or_pos (i - l.length) with h0 | h0
      ·exact h0
      ·rw [List.getElem?_eq_none (by simp only [List.length_singleton];omega)] at hi;cases hi
     have hik:i=k:=by omega
     rw [hi0] at hi;cases hi
     rw [hik];exact ⟨cs',h3,hv⟩
  obtain ⟨l,hl,hsum,hcells⟩:=hall len (Nat.le_refl _)
  have hpos:0 < Enc.sz α:=EncLen.pos
  have hspot:l ≠ []→a.spot=none∧a.block < w.heap.size:=by
   intro hne
   obtain ⟨v,r,rfl⟩:=List.exists_cons_of_ne_nil hne
   obtain ⟨cs',h1,h2⟩:=hcells 0 v rfl
   obtain ⟨-,h3,h4⟩:=World.cells?_some h1
   have h5:=h4 0 hpos
   rw [Nat.zero_mul,Deep.add_add,Nat.zero_add] at h5
   have h6:(cs'[0]?).isSome:=by rw [List.getElem?_eq_getElem (by omega)];rfl
   rw [← h5] at h6
   have h7:(a.add 0)=a:=by simp [Addr.add]
   rw [h7] at h6
   unfold World.cell? at h6
   split at h6
   ·rename_i c _ _ hb
    refine ⟨?_,(Array.getElem?_eq_some_iff.1 hb).1⟩
    split at h6
    ·cases h6
    ·rename_i hs
     cases hsp:a.spot with
     | none=>rfl
     | some q=>rw [hsp] at hs;exact absurd rfl hs
   ·cases h6
  have hadd:l ≠ []→∀ k,a.add k=⟨a.block,a.off+k,none⟩:=by
   intro hne k
   have h1:=(hspot hne).1
   unfold Addr.add
   split
   ·rename_i h0;subst h0
    obtain ⟨b,o,sp⟩:=a
    simp only at h1;subst h1;rfl
   ·rfl
  have hcell:∀ (i:Nat) (e':List C) (j:Nat) (c:C),(Enc.encL l)[i]?=some e'→e'[j]?=some c→∃ u,w.cell? ⟨a.block,a.off+i * Enc.sz α+j,none⟩=some u∧Reads (Us w) w c u:=by
   intro i e' j c hi hj
   rw [Enc.map,List.getElem?_map] at hi
   cases hx:l[i]? with
   | none=>rw [hx] at hi;cases hi
   | some v =>
    rw [hx] at hi;cases hi
    have hne:l ≠ []:=by intro h0;rw [h0] at hx;simp at hx
    obtain ⟨cs',h1,h2⟩:=hcells i v hx
    obtain ⟨u,h3,h4⟩:=h2.2 j c hj
    obtain ⟨-,h5,h6⟩:=World.cells?_some h1
    have hjl:j < Enc.sz α:=by have:=(List.getElem?_eq_some_iff.1 h3).1;omega
    have h7:=h6 j hjl
    rw [Deep.add_add,hadd hne,h3,← Nat.add_assoc] at h7
    exact ⟨u,h7,h4⟩
  refine ⟨l,⟨rfl,fun j c hj=>?_⟩,by dsimp only;omega⟩
  cases j with
  | succ j=>cases hj
  | zero =>
   cases hj
   refine ⟨_,Z,?_⟩
   have DQ:=Reads.sl (S:=Us w) (w:=w) (Enc.sz α) (Enc.encL l) (some a) cap a.block a.off (fun i j=>(w.cell? ⟨a.block,a.off+i * Enc.sz α+j,none⟩).getD undef) (by rw [Enc.len,hl];exact hlc)
    (fun hne=>by
     have hne':l ≠ []:=by intro h0;rw [h0,Enc.nil] at hne;exact hne rfl
     have h7:(a.add 0)=a:=by simp [Addr.add]
     rw [← h7,hadd hne'])
    (fun i e' hi=>encL_lens l e' (List.mem_of_getElem? hi))
    (fun i e' j c hi hj=>by obtain ⟨u,h1,-⟩:=hcell i e' j c hi hj;rw [h1];rfl)
    (fun i e' j c hi hj=>by
     have hne:l ≠ []:=by intro h0;rw [h0,Enc.nil] at hi;simp at hi
     exact (hspot hne).2)
    (fun i e' j c hi hj=>by obtain ⟨u,h1,h2⟩:=hcell i e' j c hi hj;rw [h1];exact h2)
   rw [Enc.len,hl] at DQ
   exact DQ
theorem Wp {α:Type} [Enc α] {μ:α→Nat} {t:TypeId} (h:∀ N,J7 enc P w N t α μ→J7 enc P w (N+1) t α μ):∀ N,J7 enc P w N t α μ
 | 0=>fun fuel cs x _ hb=>by have:=Gr x.1;omega
 | N+1=>h N (Wp h N)
end
section
variable {H:Type} {enc:TypeId×Value→H} {w:World} {N:Nat}
theorem Zf:Try.prog.cellsOf 3=1:=by kernel_rfl
theorem cells_4:Try.prog.cellsOf 4=1:=by kernel_rfl
theorem W3:Try.prog.cellsOf 9=1:=by kernel_rfl
theorem cells_30:Try.prog.cellsOf 30=1:=by kernel_rfl
theorem cells_31:Try.prog.cellsOf 31=1:=by kernel_rfl
theorem KD:Try.prog.cellsOf 33=5:=by kernel_rfl
theorem cells_40:Try.prog.cellsOf 40=1:=by kernel_rfl
theorem cells_42:Try.prog.cellsOf 42=7:=by kernel_rfl
theorem cells_43:Try.prog.cellsOf 43=1:=by kernel_rfl
theorem cells_45:Try.prog.cellsOf 45=23:=by kernel_rfl
theorem cells_71:Try.prog.cellsOf 71=6:=by kernel_rfl
theorem cells_72:Try.prog.cellsOf 72=1:=by kernel_rfl
theorem cells_74:Try.prog.cellsOf 74=8:=by kernel_rfl
theorem cells_76:Try.prog.cellsOf 76=15:=by kernel_rfl
theorem cells_85:Try.prog.cellsOf 85=1:=by kernel_rfl
theorem cells_87:Try.prog.cellsOf 87=2:=by kernel_rfl
theorem cells_101:Try.prog.cellsOf 101=10:=by kernel_rfl
theorem cells_124:Try.prog.cellsOf 124=2:=by kernel_rfl
theorem z_lv:J7 enc Try.prog w (N+1) 124 LV (fun _=>1):=by
 intro fuel cs x h hb
 obtain ⟨xs,n,_,rfl,hl,hlen,hf⟩:=DataW.trod_struct Try.underlying124 h
 match xs,hlen with
 | [y0,y1],_ =>
  have hb':Rows.uptoBulk y0.1+Rows.uptoBulk y1.1+1≤Rows.uptoBulk (DataW.agg (H:=H) [y0.1,y1.1]):=by simp only [Rows.uptoBulk,Rows.uptoBulkAll];omega
  have hb2:Rows.uptoBulk (DataW.agg (H:=H) [y0.1,y1.1])≤N+1:=hb
  obtain ⟨v0,r0,m0⟩:=(GO Try.underlying3:J7 enc Try.prog w N _ _ _) n _ _ (hf 0 _ rfl) (by omega)
  change RC w (Enc.enc v0) ((cs.drop 0).take (Try.prog.cellsOf 3)) at r0
  rw [Zf] at r0
  obtain ⟨v1,r1,m1⟩:=(GO Try.underlying3:J7 enc Try.prog w N _ _ _) n _ _ (hf 1 _ rfl) (by omega)
  change RC w (Enc.enc v1) ((cs.drop 1).take (Try.prog.cellsOf 3)) at r1
  rw [Zf] at r1
  have hcs:cs.take 2=cs:=List.take_of_length_le (by rw [hl];exact Nat.le_of_eq cells_124)
  have DQ:=((((RC.nil).snoc (k:=1) r0 rfl)).snoc (k:=1) r1 rfl)
  refine ⟨(v0,v1),by rw [← hcs];exact DQ,Nat.le_trans ?_ hb'⟩
  show 1≤_
  omega
theorem z_lv':J7 enc Try.prog w N 124 LV (fun _=>1):=Wp (fun _ _=>z_lv) N
theorem z_lvl:J7 enc Try.prog w (N+1) 87 Lvl lvz:=by
 intro fuel cs x h hb
 obtain ⟨xs,n,_,rfl,hl,hlen,hf⟩:=DataW.trod_struct Try.underlying87 h
 match xs,hlen with
 | [y0,y1],_ =>
  have hb':Rows.uptoBulk y0.1+Rows.uptoBulk y1.1+1≤Rows.uptoBulk (DataW.agg (H:=H) [y0.1,y1.1]):=by simp only [Rows.uptoBulk,Rows.uptoBulkAll];omega
  have hb2:Rows.uptoBulk (DataW.agg (H:=H) [y0.1,y1.1])≤N+1:=hb
  obtain ⟨v0,r0,m0⟩:=(GO Try.underlying3:J7 enc Try.prog w N _ _ _) n _ _ (hf 0 _ rfl) (by omega)
  change RC w (Enc.enc v0) ((cs.drop 0).take (Try.prog.cellsOf 3)) at r0
  rw [Zf] at r0
  obtain ⟨v1,r1,m1⟩:=(KI Try.underlying85 (by kernel_rfl) z_lv':J7 enc Try.prog w N _ _ _) n _ _ (hf 1 _ rfl) (by omega)
  change RC w (Enc.enc v1) ((cs.drop 1).take (Try.prog.cellsOf 85)) at r1
  rw [cells_85] at r1
  have hcs:cs.take 2=cs:=List.take_of_length_le (by rw [hl];exact Nat.le_of_eq cells_87)
  have DQ:=((((RC.nil).snoc (k:=1) r0 rfl)).snoc (k:=1) r1 rfl)
  refine ⟨⟨v0,v1⟩,by rw [← hcs];exact DQ,Nat.le_trans ?_ hb'⟩
  show lvz ⟨v0,v1⟩≤_
  unfold lvz
  dsimp only at m0 m1 ⊢
  omega
theorem z_lvl':J7 enc Try.prog w N 87 Lvl lvz:=Wp (fun _ _=>z_lvl) N
theorem z_tm (hk:J7 enc Try.prog w N 33 Tm Tm.size):J7 enc Try.prog w (N+1) 33 Tm Tm.size:=by
 intro fuel cs x h hb
 obtain ⟨xs,n,_,rfl,hl,hlen,hf⟩:=DataW.trod_struct Try.underlying33 h
 match xs,hlen with
 | [y0,y1,y2,y3,y4],_ =>
  have hb':Rows.uptoBulk y0.1+Rows.uptoBulk y1.1+Rows.uptoBulk y2.1+Rows.uptoBulk y3.1+Rows.uptoBulk y4.1+1≤Rows.uptoBulk (DataW.agg (H:=H) [y0.1,y1.1,y2.1,y3.1,y4.1]):=by simp only [Rows.uptoBulk,Rows.uptoBulkAll];omega
  have hb2:Rows.uptoBulk (DataW.agg (H:=H) [y0.1,y1.1,y2.1,y3.1,y4.1])≤N+1:=hb
  obtain ⟨v0,r0,m0⟩:=(GO Try.underlying3:J7 enc Try.prog w N _ _ _) n _ _ (hf 0 _ rfl) (by omega)
  change RC w (Enc.enc v0) ((cs.drop 0).take (Try.prog.cellsOf 3)) at r0
  rw [Zf] at r0
  obtain ⟨v1,r1,m1⟩:=(GO Try.underlying3:J7 enc Try.prog w N _ _ _) n _ _ (hf 1 _ rfl) (by omega)
  change RC w (Enc.enc v1) ((cs.drop 1).take (Try.prog.cellsOf 3)) at r1
  rw [Zf] at r1
  obtain ⟨v2,r2,m2⟩:=(Ud Try.underlying9:J7 enc Try.prog w N _ _ _) n _ _ (hf 2 _ rfl) (by omega)
  change RC w (Enc.enc v2) ((cs.drop 2).take (Try.prog.cellsOf 9)) at r2
  rw [W3] at r2
  obtain ⟨v3,r3,m3⟩:=(KI Try.underlying30 (by kernel_rfl) z_lvl':J7 enc Try.prog w N _ _ _) n _ _ (hf 3 _ rfl) (by omega)
  change RC w (Enc.enc v3) ((cs.drop 3).take (Try.prog.cellsOf 30)) at r3
  rw [cells_30] at r3
  obtain ⟨v4,r4,m4⟩:=(KI Try.underlying31 (by kernel_rfl) hk:J7 enc Try.prog w N _ _ _) n _ _ (hf 4 _ rfl) (by omega)
  change RC w (Enc.enc v4) ((cs.drop 4).take (Try.prog.cellsOf 31)) at r4
  rw [cells_31] at r4
  have hcs:cs.take 5=cs:=List.take_of_length_le (by rw [hl];exact Nat.le_of_eq KD)
  have DQ:=((((((((((RC.nil).snoc (k:=1) r0 rfl)).snoc (k:=1) r1 rfl)).snoc (k:=1) r2 rfl)).snoc (k:=1) r3 rfl)).snoc (k:=1) r4 rfl)
  refine ⟨Tm.mk v0 v1 v2 v3 v4,by rw [← hcs];exact DQ,Nat.le_trans ?_ hb'⟩
  rw [Tm.size_eq]
  simp only [Tm.name,Tm.kids,Tm.levels]
  dsimp only at m0 m1 m2 m3 m4 ⊢
  omega
theorem Ww:J7 enc Try.prog w N 33 Tm Tm.size:=Wp (fun _ h=>z_tm h) N
theorem z_ctr:J7 enc Try.prog w (N+1) 71 Ctr csz:=by
 intro fuel cs x h hb
 obtain ⟨xs,n,_,rfl,hl,hlen,hf⟩:=DataW.trod_struct Try.underlying71 h
 match xs,hlen with
 | [y0,y1],_ =>
  have hb':Rows.uptoBulk y0.1+Rows.uptoBulk y1.1+1≤Rows.uptoBulk (DataW.agg (H:=H) [y0.1,y1.1]):=by simp only [Rows.uptoBulk,Rows.uptoBulkAll];omega
  have hb2:Rows.uptoBulk (DataW.agg (H:=H) [y0.1,y1.1])≤N+1:=hb
  obtain ⟨v0,r0,m0⟩:=(Ud Try.underlying9:J7 enc Try.prog w N _ _ _) n _ _ (hf 0 _ rfl) (by omega)
  change RC w (Enc.enc v0) ((cs.drop 0).take (Try.prog.cellsOf 9)) at r0
  rw [W3] at r0
  obtain ⟨v1,r1,m1⟩:=(Ww:J7 enc Try.prog w N _ _ _) n _ _ (hf 1 _ rfl) (by omega)
  change RC w (Enc.enc v1) ((cs.drop 1).take (Try.prog.cellsOf 33)) at r1
  rw [KD] at r1
  have hcs:cs.take 6=cs:=List.take_of_length_le (by rw [hl];exact Nat.le_of_eq cells_71)
  have DQ:=((((RC.nil).snoc (k:=1) r0 rfl)).snoc (k:=5) r1 rfl)
  refine ⟨⟨v0,v1⟩,by rw [← hcs];exact DQ,Nat.le_trans ?_ hb'⟩
  show csz ⟨v0,v1⟩≤_
  unfold csz
  dsimp only at m0 m1 ⊢
  omega
theorem z_ctr':J7 enc Try.prog w N 71 Ctr csz:=Wp (fun _ _=>z_ctr) N
theorem z_tr (hk:J7 enc Try.prog w N 101 Br bsz):J7 enc Try.prog w (N+1) 74 Tr Tr.size:=by
 intro fuel cs x h hb
 obtain ⟨xs,n,_,rfl,hl,hlen,hf⟩:=DataW.trod_struct Try.underlying74 h
 match xs,hlen with
 | [y0,y1,y2,y3],_ =>
  have hb':Rows.uptoBulk y0.1+Rows.uptoBulk y1.1+Rows.uptoBulk y2.1+Rows.uptoBulk y3.1+1≤Rows.uptoBulk (DataW.agg (H:=H) [y0.1,y1.1,y2.1,y3.1]):=by simp only [Rows.uptoBulk,Rows.uptoBulkAll];omega
  have hb2:Rows.uptoBulk (DataW.agg (H:=H) [y0.1,y1.1,y2.1,y3.1])≤N+1:=hb
  obtain ⟨v0,r0,m0⟩:=(GO Try.underlying3:J7 enc Try.prog w N _ _ _) n _ _ (hf 0 _ rfl) (by omega)
  change RC w (Enc.enc v0) ((cs.drop 0).take (Try.prog.cellsOf 3)) at r0
  rw [Zf] at r0
  obtain ⟨v1,r1,m1⟩:=(Ww:J7 enc Try.prog w N _ _ _) n _ _ (hf 1 _ rfl) (by omega)
  change RC w (Enc.enc v1) ((cs.drop 1).take (Try.prog.cellsOf 33)) at r1
  rw [KD] at r1
  obtain ⟨v2,r2,m2⟩:=(GO Try.underlying3:J7 enc Try.prog w N _ _ _) n _ _ (hf 2 _ rfl) (by omega)
  change RC w (Enc.enc v2) ((cs.drop 6).take (Try.prog.cellsOf 3)) at r2
  rw [Zf] at r2
  obtain ⟨v3,r3,m3⟩:=(KI Try.underlying72 (by kernel_rfl) hk:J7 enc Try.prog w N _ _ _) n _ _ (hf 3 _ rfl) (by omega)
  change RC w (Enc.enc v3) ((cs.drop 7).take (Try.prog.cellsOf 72)) at r3
  rw [cells_72] at r3
  have hcs:cs.take 8=cs:=List.take_of_length_le (by rw [hl];exact Nat.le_of_eq cells_74)
  have DQ:=((((((((RC.nil).snoc (k:=1) r0 rfl)).snoc (k:=5) r1 rfl)).snoc (k:=1) r2 rfl)).snoc (k:=1) r3 rfl)
  refine ⟨Tr.mk v0 v1 v2 v3,by rw [← hcs];exact DQ,Nat.le_trans ?_ hb'⟩
  rw [Tr.size_eq]
  simp only [Tr.body,Tr.branches]
  dsimp only at m0 m1 m2 m3 ⊢
  omega
theorem z_br (hk:J7 enc Try.prog w N 74 Tr Tr.size):J7 enc Try.prog w (N+1) 101 Br bsz:=by
 intro fuel cs x h hb
 obtain ⟨xs,n,_,rfl,hl,hlen,hf⟩:=DataW.trod_struct Try.underlying101 h
 match xs,hlen with
 | [y0,y1,y2],_ =>
  have hb':Rows.uptoBulk y0.1+Rows.uptoBulk y1.1+Rows.uptoBulk y2.1+1≤Rows.uptoBulk (DataW.agg (H:=H) [y0.1,y1.1,y2.1]):=by simp only [Rows.uptoBulk,Rows.uptoBulkAll];omega
  have hb2:Rows.uptoBulk (DataW.agg (H:=H) [y0.1,y1.1,y2.1])≤N+1:=hb
  obtain ⟨v0,r0,m0⟩:=(Ud Try.underlying9:J7 enc Try.prog w N _ _ _) n _ _ (hf 0 _ rfl) (by omega)
  change RC w (Enc.enc v0) ((cs.drop 0).take (Try.prog.cellsOf 9)) at r0
  rw [W3] at r0
  obtain ⟨v1,r1,m1⟩:=(z_bool Try.underlying4:J7 enc Try.prog w N _ _ _) n _ _ (hf 1 _ rfl) (by omega)
  change RC w (Enc.enc v1) ((cs.drop 1).take (Try.prog.cellsOf 4)) at r1
  rw [cells_4] at r1
  obtain ⟨v2,r2,m2⟩:=hk n _ _ (hf 2 _ rfl) (by omega)
  change RC w (Enc.enc v2) ((cs.drop 2).take (Try.prog.cellsOf 74)) at r2
  rw [cells_74] at r2
  have hcs:cs.take 10=cs:=List.take_of_length_le (by rw [hl];exact Nat.le_of_eq cells_101)
  have DQ:=((((((RC.nil).snoc (k:=1) r0 rfl)).snoc (k:=1) r1 rfl)).snoc (k:=8) r2 rfl)
  refine ⟨⟨v0,v1,v2⟩,by rw [← hcs];exact DQ,Nat.le_trans ?_ hb'⟩
  show bsz ⟨v0,v1,v2⟩≤_
  unfold bsz
  dsimp only at m0 m1 m2 ⊢
  omega
theorem z_trbr:∀ N,J7 enc Try.prog w N 74 Tr Tr.size∧J7 enc Try.prog w N 101 Br bsz
 | 0=>⟨fun fuel cs x _ hb=>by have:=Gr x.1;omega,fun fuel cs x _ hb=>by have:=Gr x.1;omega⟩
 | N+1=>⟨z_tr (z_trbr N).2,z_br (z_trbr N).1⟩
theorem z_fn:J7 enc Try.prog w (N+1) 76 Fn fsz:=by
 intro fuel cs x h hb
 obtain ⟨xs,n,_,rfl,hl,hlen,hf⟩:=DataW.trod_struct Try.underlying76 h
 match xs,hlen with
 | [y0,y1,y2,y3],_ =>
  have hb':Rows.uptoBulk y0.1+Rows.uptoBulk y1.1+Rows.uptoBulk y2.1+Rows.uptoBulk y3.1+1≤Rows.uptoBulk (DataW.agg (H:=H) [y0.1,y1.1,y2.1,y3.1]):=by simp only [Rows.uptoBulk,Rows.uptoBulkAll];omega
  have hb2:Rows.uptoBulk (DataW.agg (H:=H) [y0.1,y1.1,y2.1,y3.1])≤N+1:=hb
  obtain ⟨v0,r0,m0⟩:=(Ud Try.underlying9:J7 enc Try.prog w N _ _ _) n _ _ (hf 0 _ rfl) (by omega)
  change RC w (Enc.enc v0) ((cs.drop 0).take (Try.prog.cellsOf 9)) at r0
  rw [W3] at r0
  obtain ⟨v1,r1,m1⟩:=(Ww:J7 enc Try.prog w N _ _ _) n _ _ (hf 1 _ rfl) (by omega)
  change RC w (Enc.enc v1) ((cs.drop 1).take (Try.prog.cellsOf 33)) at r1
  rw [KD] at r1
  obtain ⟨v2,r2,m2⟩:=(GO Try.underlying3:J7 enc Try.prog w N _ _ _) n _ _ (hf 2 _ rfl) (by omega)
  change RC w (Enc.enc v2) ((cs.drop 6).take (Try.prog.cellsOf 3)) at r2
  rw [Zf] at r2
  obtain ⟨v3,r3,m3⟩:=(z_trbr N).1 n _ _ (hf 3 _ rfl) (by omega)
  change RC w (Enc.enc v3) ((cs.drop 7).take (Try.prog.cellsOf 74)) at r3
  rw [cells_74] at r3
  have hcs:cs.take 15=cs:=List.take_of_length_le (by rw [hl];exact Nat.le_of_eq cells_76)
  have DQ:=((((((((RC.nil).snoc (k:=1) r0 rfl)).snoc (k:=5) r1 rfl)).snoc (k:=1) r2 rfl)).snoc (k:=8) r3 rfl)
  refine ⟨⟨v0,v1,v2,v3⟩,by rw [← hcs];exact DQ,Nat.le_trans ?_ hb'⟩
  show fsz ⟨v0,v1,v2,v3⟩≤_
  unfold fsz
  dsimp only at m0 m1 m2 m3 ⊢
  omega
theorem z_fn':J7 enc Try.prog w N 76 Fn fsz:=Wp (fun _ _=>z_fn) N
end
end Go.Proofs.Ytafddfoefeploaa
namespace Go.Proofs.Ytafddfoefeploaa
open Go.ChangeShapes Go.WideShapes Go.ChangeAt Go.RowKit Go.WideElems
theorem own:ownKnob Try.prog.godebug=none:=by kernel_rfl
theorem laidOut:laidOutB Try.prog=true:=by kernel_rfl
theorem slice_readsZ {H:Type} {enc:TypeId×Value→H} {α:Type} [Enc α] [EncLen α] {μ:List α→Nat} {W:World} {base:Nat} {t e:TypeId} {v:Value} {d:DataW H} {p:List MemPlace} (ht:Try.prog.underlying t=some (.slice e)) (ho:∀ N,J7 enc Try.prog W N t (List α) μ)
  (hval:Value.okWide Try.prog W .any base t v) (h:DataW.Trod enc Try.prog W 0 (fun _=>true) true t v d p):∃ l:List α,Reads (Us W) W (.sl (Enc.sz α) (Enc.encL l)) v∧μ l≤Rows.uptoBulk d:=by
 obtain ⟨fuel,hf⟩:=h
 obtain ⟨l,hl,hμ⟩:=ho _ _ _ _ hf (Nat.le_refl _)
 refine ⟨l,?_,hμ⟩
 obtain ⟨u,h2,h3⟩:=hl.2 0 _ rfl
 have h4:v.cells=#[v]:=by
  have h5:=hl.1
  cases v with
  | agg cs =>
   exfalso
   obtain ⟨s,n,c,h7⟩:=okWide_slice ht hval
   cases h7
  | _=>rfl
 rw [h4] at h2
 cases h2
 exact h3
end Go.Proofs.Ytafddfoefeploaa
namespace Go.Proofs.Ytafddfoefeploaa
open Go.ChangeShapes Go.WideShapes Go.ChangeAt Go.RowKit Go.WideElems
def IntR:Type:={n:Int // XM n}
def RcrR:Type:={r:Rcr // XM r.params}
def DclR:Type:={d:Dcl // XM d.rcr.params}
noncomputable def intRC (n:IntR):List C:=[.v (.int .i64 n.1)]
noncomputable def rcrRC (r:RcrR):List C:=rcrC r.1
noncomputable def dclRC (d:DclR):List C:=UP d.1
noncomputable instance:Enc IntR:=⟨1,intRC,fun l=>l.map intRC,rfl,fun a b=>List.map_append,fun _=>rfl⟩
noncomputable instance:Enc RcrR:=⟨7,rcrRC,fun l=>l.map rcrRC,rfl,fun a b=>List.map_append,fun _=>rfl⟩
noncomputable instance:Enc DclR:=⟨23,dclRC,fun l=>l.map dclRC,rfl,fun a b=>List.map_append,fun _=>rfl⟩
instance:EncLen DclR:=⟨fun t=>rfl,Nat.succ_pos 22⟩
section
variable {H:Type} {enc:TypeId×Value→H} {w:World} {N:Nat}
theorem z_intR {P:Program} {t:TypeId} (ht:P.underlying t=some (.int .i64)):J7 enc P w N t IntR (fun _=>1):=by
 intro fuel cs x h hb
 obtain ⟨n,rfl,rfl,hw⟩:=DataW.trod_int ht h
 have h1:XM n:=by
  unfold Lit.wf at hw
  rw [Bool.and_eq_true,decide_eq_true_eq,decide_eq_true_eq] at hw
  exact hw
 refine ⟨⟨n,h1⟩,⟨Z,fun j c hj=>?_⟩,Gr _⟩
 cases j with
 | zero=>cases hj;exact ⟨_,rfl,Reads.v _ rfl⟩
 | succ j=>cases hj
theorem z_rcrR:J7 enc Try.prog w (N+1) 42 RcrR (fun r=>r.1.ty.size+(r.1.rules.map Tm.size).sum):=by
 intro fuel cs x h hb
 obtain ⟨xs,n,_,rfl,hl,hlen,hf⟩:=DataW.trod_struct Try.underlying42 h
 match xs,hlen with
 | [y0,y1,y2],_ =>
  have hb':Rows.uptoBulk y0.1+Rows.uptoBulk y1.1+Rows.uptoBulk y2.1+1≤Rows.uptoBulk (DataW.agg (H:=H) [y0.1,y1.1,y2.1]):=by simp only [Rows.uptoBulk,Rows.uptoBulkAll];omega
  have hb2:Rows.uptoBulk (DataW.agg (H:=H) [y0.1,y1.1,y2.1])≤N+1:=hb
  obtain ⟨v0,r0,m0⟩:=(z_intR Try.underlying3:J7 enc Try.prog w N _ _ _) n _ _ (hf 0 _ rfl) (by omega)
  change RC w (Enc.enc v0) ((cs.drop 0).take (Try.prog.cellsOf 3)) at r0
  rw [Zf] at r0
  obtain ⟨v1,r1,m1⟩:=(Ww:J7 enc Try.prog w N _ _ _) n _ _ (hf 1 _ rfl) (by omega)
  change RC w (Enc.enc v1) ((cs.drop 1).take (Try.prog.cellsOf 33)) at r1
  rw [KD] at r1
  obtain ⟨v2,r2,m2⟩:=(KI Try.underlying31 (by kernel_rfl) Ww:J7 enc Try.prog w N _ _ _) n _ _ (hf 2 _ rfl) (by omega)
  change RC w (Enc.enc v2) ((cs.drop 6).take (Try.prog.cellsOf 31)) at r2
  rw [cells_31] at r2
  have hcs:cs.take 7=cs:=List.take_of_length_le (by rw [hl];exact Nat.le_of_eq cells_42)
  have DQ:=((((((RC.nil).snoc (k:=1) r0 rfl)).snoc (k:=5) r1 rfl)).snoc (k:=1) r2 rfl)
  refine ⟨⟨⟨v0.1,v1,v2⟩,v0.2⟩,by rw [← hcs];exact DQ,Nat.le_trans ?_ hb'⟩
  dsimp only at m0 m1 m2 ⊢
  omega
theorem z_rcrR':J7 enc Try.prog w N 42 RcrR (fun r=>r.1.ty.size+(r.1.rules.map Tm.size).sum):=Wp (fun _ _=>z_rcrR) N
theorem z_dclR:J7 enc Try.prog w (N+1) 45 DclR (fun d=>d.1.size):=by
 intro fuel cs x h hb
 obtain ⟨xs,n,_,rfl,hl,hlen,hf⟩:=DataW.trod_struct Try.underlying45 h
 match xs,hlen with
 | [y0,y1,y2,y3,y4,y5,y6,y7,y8],_ =>
  have hb':Rows.uptoBulk y0.1+Rows.uptoBulk y1.1+Rows.uptoBulk y2.1+Rows.uptoBulk y3.1+Rows.uptoBulk y4.1+Rows.uptoBulk y5.1+Rows.uptoBulk y6.1+Rows.uptoBulk y7.1+Rows.uptoBulk y8.1+1≤Rows.uptoBulk (DataW.agg (H:=H) [y0.1,y1.1,y2.1,y3.1,y4.1,y5.1,y6.1,y7.1,y8.1]):=by simp only [Rows.uptoBulk,Rows.uptoBulkAll];omega
  have hb2:Rows.uptoBulk (DataW.agg (H:=H) [y0.1,y1.1,y2.1,y3.1,y4.1,y5.1,y6.1,y7.1,y8.1])≤N+1:=hb
  obtain ⟨v0,r0,m0⟩:=(GO Try.underlying3:J7 enc Try.prog w N _ _ _) n _ _ (hf 0 _ rfl) (by omega)
  change RC w (Enc.enc v0) ((cs.drop 0).take (Try.prog.cellsOf 3)) at r0
  rw [Zf] at r0
  obtain ⟨v1,r1,m1⟩:=(Ud Try.underlying9:J7 enc Try.prog w N _ _ _) n _ _ (hf 1 _ rfl) (by omega)
  change RC w (Enc.enc v1) ((cs.drop 1).take (Try.prog.cellsOf 9)) at r1
  rw [W3] at r1
  obtain ⟨v2,r2,m2⟩:=(GO Try.underlying3:J7 enc Try.prog w N _ _ _) n _ _ (hf 2 _ rfl) (by omega)
  change RC w (Enc.enc v2) ((cs.drop 2).take (Try.prog.cellsOf 3)) at r2
  rw [Zf] at r2
  obtain ⟨v3,r3,m3⟩:=(Ww:J7 enc Try.prog w N _ _ _) n _ _ (hf 3 _ rfl) (by omega)
  change RC w (Enc.enc v3) ((cs.drop 3).take (Try.prog.cellsOf 33)) at r3
  rw [KD] at r3
  obtain ⟨v4,r4,m4⟩:=(Ww:J7 enc Try.prog w N _ _ _) n _ _ (hf 4 _ rfl) (by omega)
  change RC w (Enc.enc v4) ((cs.drop 8).take (Try.prog.cellsOf 33)) at r4
  rw [KD] at r4
  obtain ⟨v5,r5,m5⟩:=(GO Try.underlying3:J7 enc Try.prog w N _ _ _) n _ _ (hf 5 _ rfl) (by omega)
  change RC w (Enc.enc v5) ((cs.drop 13).take (Try.prog.cellsOf 3)) at r5
  rw [Zf] at r5
  obtain ⟨v6,r6,DK⟩:=(KI Try.underlying40 (by kernel_rfl) z_ctr':J7 enc Try.prog w N _ _ _) n _ _ (hf 6 _ rfl) (by omega)
  change RC w (Enc.enc v6) ((cs.drop 14).take (Try.prog.cellsOf 40)) at r6
  rw [cells_40] at r6
  obtain ⟨v7,r7,m7⟩:=(z_rcrR':J7 enc Try.prog w N _ _ _) n _ _ (hf 7 _ rfl) (by omega)
  change RC w (Enc.enc v7) ((cs.drop 15).take (Try.prog.cellsOf 42)) at r7
  rw [cells_42] at r7
  obtain ⟨v8,r8,m8⟩:=(KI Try.underlying43 (by kernel_rfl) z_fn':J7 enc Try.prog w N _ _ _) n _ _ (hf 8 _ rfl) (by omega)
  change RC w (Enc.enc v8) ((cs.drop 22).take (Try.prog.cellsOf 43)) at r8
  rw [cells_43] at r8
  have hcs:cs.take 23=cs:=List.take_of_length_le (by rw [hl];exact Nat.le_of_eq cells_45)
  have DQ:=((((((((((((((((((RC.nil).snoc (k:=1) r0 rfl)).snoc (k:=1) r1 rfl)).snoc (k:=1) r2 rfl)).snoc (k:=5) r3 rfl)).snoc (k:=5) r4 rfl)).snoc (k:=1) r5 rfl)).snoc (k:=1) r6 rfl)).snoc (k:=7) r7 rfl)).snoc (k:=1) r8 rfl)
  refine ⟨⟨⟨v0,v1,v2,v3,v4,v5,v6,v7.1,v8⟩,v7.2⟩,by rw [← hcs];exact DQ,Nat.le_trans ?_ hb'⟩
  show Dcl.size ⟨v0,v1,v2,v3,v4,v5,v6,v7.1,v8⟩≤_
  unfold Dcl.size
  dsimp only at m0 m1 m2 m3 m4 m5 DK m7 m8 ⊢
  omega
theorem z_dclR':J7 enc Try.prog w N 45 DclR (fun d=>d.1.size):=Wp (fun _ _=>z_dclR) N
theorem z_envR:J7 enc Try.prog w N 22 (List DclR) (fun l=>1+(l.map fun d=>d.1.size).sum):=KI Try.underlying22 (by kernel_rfl) z_dclR'
end
theorem env_readsR {H:Type} {enc:TypeId×Value→H} {W:World} {base:Nat} {v:Value} {d:DataW H} {p:List MemPlace}
  (hval:Value.okWide Try.prog W .any base 22 v) (h:DataW.Trod enc Try.prog W 0 (fun _=>true) true 22 v d p):∃ l:List Dcl,Reads (Us W) W (.sl 23 (Enc.encL l)) v∧1+Yc l≤Rows.uptoBulk d∧∀ x∈l,XM x.rcr.params:=by
 obtain ⟨l,h1,h2⟩:=slice_readsZ Try.underlying22 (fun N=>z_envR) hval h
 refine ⟨l.map (·.1),?_,?_,fun x hx=>?_⟩
 ·have:Enc.encL (l.map (·.1))=Enc.encL l:=by
   show (l.map (·.1)).map UP=l.map dclRC
   rw [List.map_map];rfl
  rw [this];exact h1
 ·unfold Yc
  rw [List.map_map];exact h2
 ·obtain ⟨y,-,rfl⟩:=List.mem_map.1 hx
  exact y.2
end Go.Proofs.Ytafddfoefeploaa
namespace Go.Proofs.Ytafddfoefeploaa
open Go.ChangeShapes Go.WideShapes Go.ChangeAt Go.RowKit Go.WideElems
theorem str_reads {W:World} {base:Nat} {v:Value} (hval:Value.okWide Try.prog W .any base 9 v):∃ s:Bs,v=.string (DC s):=by
 obtain ⟨s,rfl⟩:=okWide_string Try.underlying9 hval
 exact ⟨s.data.toList,Z⟩
theorem law6 {W:World} (a0:List Dcl) (a1:Bs) (hs:Yc a0≤100000000) (hr:∀ d∈a0,XM d.rcr.params) {v0:Value} (hv0:Reads (Us W) W (.sl 23 (Enc.encL a0)) v0):Calls Try.prog 6 #[v0,.string (DC a1)] W fun e W'=>e=.returned (.bool true)∧Below W.heap.size W W':=by
 have hF:=m6_ok a0 a1 true (m6_true a0 a1 hs hr)
 refine Calls.mono (hF.2 (Us W) W #[v0,.string (DC a1)] (fun b o h=>h) ⟨Z,fun i y hy=>?_⟩) ?_
 ·match i,hy with
  | 0,hy=>cases hy;exact ⟨_,rfl,hv0⟩
  | 1,hy=>cases hy;exact ⟨_,rfl,Reads.v _ rfl⟩
 ·rintro e W' ⟨u,S',rfl,hx,-,-,hu⟩
  have e1:u=.bool true:=by cases hu;rfl
  rw [e1]
  exact ⟨Z,hx.os,hx.tape,hx.output,hx.size,fun k hk=>hx.block k hk (fun h=>h)⟩
theorem contract (H:Type) (enc:TypeId×Value→H) (W:World) (base:Nat) (args:Array Value) (ds gs:List (DataW H)) (before:List MemPlace) (hk:Rows.uptoSmall H (ds++gs)=true)
  (hval0:∀ (j:Nat) t v,Try.f6.params[j]?=some t→args[j]?=some v→Value.okWide Try.prog W .any base t v)
  (hW:DataW.Whole enc Try.prog Try.f6.params.toList Rows.signatureExtendsSpec.vars false W args.toList ds gs before) :
  Calls Try.prog 6 args W fun e W'=>∃ v,e=.returned v∧Rows.signatureExtendsSpec.post enc Try.prog Try.f6 false true false false W args v W':=by
 have hval:∀ (j:Nat) t v,Try.f6.params[j]?=some t→args[j]?=some v→Value.okWide Try.prog W .any base t v:=hval0
 have hW':=hW
 obtain ⟨p,q,hA0,hV,rfl,hfz,hnd⟩:=hW
 have hA:DataW.TrodAll enc Try.prog W 0 (fun _=>true) true Try.f6.params.toList args.toList ds p:=hA0
 rw [Try.params6] at hA hval
 obtain ⟨v0,v1,d0,d1,p0,p1,rfl,rfl,rfl,h0,h1⟩:=trodAll_two hA
 obtain ⟨rfl,rfl⟩:=trodVars_none hV
 have h0k:=h0
 have h1k:=h1
 obtain ⟨a0,hv0,hz,hr⟩:=env_readsR (hval 0 22 v0 rfl rfl) h0
 obtain ⟨a1,rfl⟩:∃ a1:Bs,v1=.string (DC a1):=str_reads (hval 1 9 v1 rfl rfl)
 have hbk:Rows.uptoBulkAll ([d0,d1]++([]:List (DataW H)))≤1048576:=of_decide_eq_true hk
 simp only [List.append_nil,Rows.uptoBulkAll] at hbk
 clear hA0 hval0
 simp only [List.append_nil] at hW'
 have hlt:∀ x∈p0++p1,x.block < W.heap.size:=fun x hx=>by simpa using hW'.lt x hx
 refine (law6 a0 a1 (by omega) hr hv0).mono fun e W' ⟨he,hb⟩=>?_
 subst he
 have hargs:∀ sp:Nat→Bool,(∀ x∈p0++p1,sp x.block=true)→DataW.TrodAll enc Try.prog W' 0 sp true [22,9] [v0,.string (DC a1)] [d0,d1] (p0++p1):=fun sp hsp =>
  trodAll_mk2 (WideElems.Trod_stays laidOut (by kernel_rfl) (of_decide_eq_true (by kernel_rfl)) h0k (fun x hx=>hb.same (hlt x (by simp [hx]))) (fun x hx=>hsp x (by simp [hx]))) (WideElems.Trod_stays laidOut (by kernel_rfl) (of_decide_eq_true (by kernel_rfl)) h1k (fun x hx=>hb.same (hlt x (by simp [hx]))) (fun x hx=>hsp x (by simp [hx])))
 exact ⟨_,rfl,_,_,_,[],p0++p1,[],hW',trodAll_mk1 (shut_bool Try.underlying4 true),hargs _ (fun x hx=>by simpa using hlt x hx),rfl,hb.frame _,fun h=>by cases h⟩
theorem lifted (os:Os) (started:os.Started) (H:Type) (enc:TypeId×Value→H) (F:Stop.Interp) :
  ReturnsInHanded {} Try.checked os 6 .any ((Rows.OpenSpec.upto Rows.signatureExtendsSpec).pre6 enc Try.prog Try.f6 Rows.signatureExtendsUptoRow.domain false) (((Rows.OpenSpec.upto Rows.signatureExtendsSpec).at F).post enc Try.prog Try.f6 false true false false):=by
 refine returnsInHanded_of_cond (C:=Try.checked) (s:=Rows.OpenSpec.upto Rows.signatureExtendsSpec) (k:=Rows.uptoSmall) rfl own started (by kernel_rfl) Try.func6
  (OpenSpec.witness (enc:=enc) (C:=Try.checked) (s:=Rows.OpenSpec.upto Rows.signatureExtendsSpec) (k:=Rows.uptoSmall) rfl false ⟨#[],#[.slice none 0 0,.string ByteArray.empty],[]⟩ 8 (by kernel_rfl) (by kernel_rfl) (by kernel_rfl)
   (x:=([.nil,.lit (.string [])],[],[])) (by kernel_rfl) rfl (by kernel_rfl)) ?_
 intro W base args ds gs before hval hW _ hk _
 exact contract H enc W base args ds gs before hk hval hW
theorem over:Rows.signatureExtendsUptoRow.holds Try.pinned (Rows.OpenSpec.upto Rows.signatureExtendsSpec) :=
 OpenClaim.holds_of_cond 6 Try.f6 rfl rfl rfl rfl rfl rfl rfl ⟨rfl,rfl,rfl,rfl,rfl⟩ rfl rfl rfl rfl rfl (by kernel_rfl) Try.func6 (by kernel_rfl)
  (of_decide_eq_true (by kernel_rfl)) (by unfold Func.isWrapper;first | (rw [if_pos (by decide +kernel)];kernel_rfl) | (rw [if_neg (by decide +kernel)];exact ⟨rfl,rfl⟩))
  (fun os started H enc _ F=>lifted os started H enc F)
theorem signatureExtendsUpto:Rows.SignatureExtendsUptoSaid:=over
#print axioms signatureExtendsUpto
end Go.Proofs.Ytafddfoefeploaa
