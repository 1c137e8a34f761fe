/- The card of TextPrints (second form) is proved here: for every term the law returns true, and the arguments read behind the call as they did before; conditions: what is read is of bulk at most 1048576, and the listed package-level variables hold what the text of the program lays (tied). -/
import Derived.Test.YtjcfppnjamjjhaaGreatDoorK34
import Derived.Deep.Slices
import Derived.ChangeSame
import Derived.Test.YtjcfppnjamjjhaaGreatDoorRows
import Derived.Test.YtjcfppnjamjjhaaGreatDoorProg
import Derived.Test.YtjcfppnjamjjhaaGreatDoorCards
import Derived.Test.YtjcfppnjamjjhaaGreatDoorTie
import Derived.ProofKit
import Derived.Carry
import Derived.Lay
import Derived.JoinedCond
import Derived.SevenTiedAt
import Derived.Deep.DeepHandedRow
set_option maxHeartbeats 2000000
set_option maxRecDepth 100000
set_option linter.unusedSimpArgs false
set_option linter.unusedVariables false
set_option linter.unusedSectionVars false
namespace Go.Proofs.YtjcfppnjamjjhaaGreatDoor
open Go.RowKit Go.Shelf
theorem loop2 {α σ1 τ1 β1 σ2 τ2 β2:Type} {step1:τ1→Option (LO τ1 β1)} {step2:τ2→Option (LO τ2 β2)} (l:List α) (mk1:Int→σ1→τ1) (mk2:Int→σ2→τ2) (I:List α→σ1→σ2→Prop) (Q:β1→β2→Prop) (hlen:l.length≤900000000)
  (hin:∀ (a:List α) (x:α) (b:List α) (s1:σ1) (s2:σ2),l=a++x::b→I a s1 s2 →
   (∃ r1 r2,step1 (mk1 (a.length:Int) s1)=some (.done r1)∧step2 (mk2 (a.length:Int) s2)=some (.done r2)∧Q r1 r2) ∨
   ∃ s1' s2',step1 (mk1 (a.length:Int) s1)=some (.next (mk1 (QG ((a.length:Int)+1)) s1'))∧step2 (mk2 (a.length:Int) s2)=some (.next (mk2 (QG ((a.length:Int)+1)) s2'))∧I (a++[x]) s1' s2')
  (hout:∀ s1 s2,I l s1 s2→∃ r1 r2,step1 (mk1 (l.length:Int) s1)=some (.done r1)∧step2 (mk2 (l.length:Int) s2)=some (.done r2)∧Q r1 r2) (s1:σ1) (s2:σ2) (h0:I [] s1 s2) :
  ∃ r1 r2,Qo step1 Qt (mk1 0 s1)=some r1∧Qo step2 Qt (mk2 0 s2)=some r2∧Q r1 r2:=by
 have key:∀ (b a:List α) (s1:σ1) (s2:σ2) (n:Nat),l=a++b→b.length < n→I a s1 s2→∃ r1 r2,Qo step1 n (mk1 (a.length:Int) s1)=some r1∧Qo step2 n (mk2 (a.length:Int) s2)=some r2∧Q r1 r2:=by
  intro b
  induction b with
  | nil =>
   intro a s1 s2 n hl hn hI
   rw [List.append_nil] at hl
   subst hl
   obtain ⟨r1,r2,h1,h2,h3⟩:=hout s1 s2 hI
   cases n with
   | zero=>omega
   | succ n=>exact ⟨r1,r2,by simp only [Qo,h1],by simp only [Qo,h2],h3⟩
  | cons x b ih =>
   intro a s1 s2 n hl hn hI
   cases n with
   | zero=>omega
   | succ n =>
    rcases hin a x b s1 s2 hl hI with ⟨r1,r2,h1,h2,h3⟩ | ⟨s1',s2',h1,h2,h3⟩
    ·exact ⟨r1,r2,by simp only [Qo,h1],by simp only [Qo,h2],h3⟩
    ·have hal:a.length≤900000000:=by rw [hl,List.length_append] at hlen;omega
     rw [XX (by omega)] at h1 h2
     obtain ⟨r1,r2,h4,h5,h6⟩:=ih (a++[x]) s1' s2' n (by rw [hl,List.append_assoc];rfl) (by simp only [List.length_cons] at hn;omega) h3
     rw [List.length_append] at h4 h5
     exact ⟨r1,r2,by simp only [Qo,h1];exact h4,by simp only [Qo,h2];exact h5,h6⟩
 exact key l [] s1 s2 Qt rfl (by unfold Qt;omega) h0
theorem loop_code2 {α β1 β2:Type} {step1:Int→Option (LO Int β1)} {step2:Int→Option (LO Int β2)} (l:List α) (z1:β1) (z2:β2) (g1:Int→β1) (g2:Int→β2) (hlen:l.length≤900000000)
  (hin:∀ (a:List α) (x:α) (b:List α),l=a++x::b→∃ e:Int,(e=0→step1 (a.length:Int)=some (.next (QG ((a.length:Int)+1)))∧step2 (a.length:Int)=some (.next (QG ((a.length:Int)+1))))∧(e ≠ 0→step1 (a.length:Int)=some (.done (g1 e))∧step2 (a.length:Int)=some (.done (g2 e))))
  (hout1:step1 (l.length:Int)=some (.done z1)) (hout2:step2 (l.length:Int)=some (.done z2)) :
  ∃ e:Int,(e=0→Qo step1 Qt 0=some z1∧Qo step2 Qt 0=some z2)∧(e ≠ 0→Qo step1 Qt 0=some (g1 e)∧Qo step2 Qt 0=some (g2 e)):=by
 obtain ⟨r1,r2,h1,h2,e,h3,h4⟩:=loop2 (step1:=step1) (step2:=step2) l (fun i (_:Unit)=>i) (fun i (_:Unit)=>i) (fun _ _ _=>True) (fun r1 r2=>∃ e:Int,(e=0→r1=z1∧r2=z2)∧(e ≠ 0→r1=g1 e∧r2=g2 e)) hlen
  (fun a x b _ _ hl _=>by
   obtain ⟨e,h1,h2⟩:=hin a x b hl
   by_cases he:e=0
   ·exact .inr ⟨(),(),(h1 he).1,(h1 he).2,trivial⟩
   ·exact .inl ⟨_,_,(h2 he).1,(h2 he).2,e,fun h=>(he h).elim,fun _=>⟨rfl,rfl⟩⟩)
  (fun _ _ _=>⟨z1,z2,hout1,hout2,0,fun _=>⟨rfl,rfl⟩,fun h=>(h rfl).elim⟩) () () trivial
 refine ⟨e,fun he=>?_,fun he=>?_⟩
 ·rw [h1,h2,(h3 he).1,(h3 he).2];exact ⟨rfl,rfl⟩
 ·rw [h1,h2,(h4 he).1,(h4 he).2];exact ⟨rfl,rfl⟩
theorem Zj {α:Type} {l a b:List α} {x:α} (e:l=a++x::b):decide ((a.length:Int) < (l.length:Int))=true∧Jy l (a.length:Int)=some x:=by
 rw [e];exact ⟨Gi a x b,Kd a x b⟩
def formU (ix nm ln A N L K:Bool):Option Bool :=
 Option.bind (cond ix (cond nm (cond ln (some K) (cond L (some K) (some false))) (cond N (cond ln (some K) (cond L (some K) (some false))) (some false)))
  (cond A (cond nm (cond ln (some K) (cond L (some K) (some false))) (cond N (cond ln (some K) (cond L (some K) (some false))) (some false))) (some false))) (fun b=>some b)
theorem formU_eq (ix nm ln A N L K:Bool):formU ix nm ln A N L K=some ((ix||A)&&(nm||N)&&(ln||L)&&K):=by
 cases ix <;> cases nm <;> cases ln <;> cases A <;> cases N <;> cases L <;> cases K <;> rfl
def formV (k0 k12 k3 k2 A N L0 L1 K:Bool):Option Bool :=
 cond (!K) (some false) (Option.bind (cond (!A) (cond (!k0) (some (!k12)) (some false)) (some false)) (fun v3=>cond v3 (some false) (Option.bind (cond (!N) (some (!k3)) (some false)) (fun b0_=>cond b0_ (some false) (cond k2 (some L1) (Option.bind (cond L0 (some true) (some k3)) (fun b1_=>some b1_)))))))
theorem formV_eq (k0 k12 k3 k2 A N L0 L1 K:Bool):formV k0 k12 k3 k2 A N L0 L1 K=some (((k0||k12)||A)&&(k3||N)&&(cond k2 L1 (L0||k3))&&K):=by
 cases k0 <;> cases k12 <;> cases k3 <;> cases k2 <;> cases A <;> cases N <;> cases L0 <;> cases L1 <;> cases K <;> rfl
theorem form_eq (t:Tm):∃ b,Xs t=some b∧Ue t=some b∧(b=true→0≤t.kind∧t.kind < 13∧(t.kind ≠ 3→(t.levels.length:Int)≤1)):=by
 by_cases h1:t.kind < 0
 ·exact ⟨false,by unfold Xs;rw [decide_eq_true h1];rfl,by unfold Ue;rw [decide_eq_true h1];rfl,fun h=>by cases h⟩
 by_cases h2:13≤t.kind
 ·exact ⟨false,by unfold Xs;rw [decide_eq_false h1,decide_eq_true h2];rfl,by unfold Ue;rw [decide_eq_false h1,decide_eq_true h2];rfl,fun h=>by cases h⟩
 have hk:t.kind=0∨t.kind=1∨t.kind=2∨t.kind=3∨t.kind=4∨t.kind=5∨t.kind=6∨t.kind=7∨t.kind=8∨t.kind=9∨t.kind=10∨t.kind=11∨t.kind=12:=by omega
 have fin:∀ (ix nm ln:Bool) (lv kd:Int) (k0 k12 k3 k2:Bool),Xs t=formU ix nm ln (t.index==0) (t.name==[]) ((t.levels.length:Int)==lv) ((t.kids.length:Int)==kd) →
   Ue t=formV k0 k12 k3 k2 (t.index==0) (t.name==[]) ((t.levels.length:Int)==0) ((t.levels.length:Int)==1) ((t.kids.length:Int)==kd) →
   ix=(k0||k12)→nm=k3→(ln||(t.levels.length:Int)==lv)=(cond k2 ((t.levels.length:Int)==1) ((t.levels.length:Int)==0||k3))→(k3=false→ln=false∧lv≤1)→(t.kind ≠ 3→k3=false) →
   ∃ b,Xs t=some b∧Ue t=some b∧(b=true→0≤t.kind∧t.kind < 13∧(t.kind ≠ 3→(t.levels.length:Int)≤1)):=by
  intro ix nm ln lv kd k0 k12 k3 k2 e1 e2 e3 e4 e5 e6 e7
  rw [formU_eq] at e1
  rw [formV_eq,← e5,← e3,← e4] at e2
  refine ⟨_,e1,e2,fun h=>⟨by omega,by omega,fun h3=>?_⟩⟩
  obtain ⟨h4,h5⟩:=e6 (e7 h3)
  rw [h4,Bool.false_or,Bool.and_eq_true,Bool.and_eq_true] at h
  have h6:=eq_of_beq h.1.2
  omega
 obtain ⟨k,i,n,ls,ks⟩:=t
 dsimp only [Tm.kind,Tm.index,Tm.name,Tm.levels,Tm.kids] at *
 rcases hk with hk | hk | hk | hk | hk | hk | hk | hk | hk | hk | hk | hk | hk <;> subst hk
 ·exact fin true false false 0 0 true false false false rfl rfl rfl rfl (by cases ((ls.length:Int)==0) <;> rfl) (fun _=>⟨rfl,by omega⟩) (fun _=>rfl)
 ·exact fin false false false 0 0 false false false false rfl rfl rfl rfl (by cases ((ls.length:Int)==0) <;> rfl) (fun _=>⟨rfl,by omega⟩) (fun _=>rfl)
 ·exact fin false false false 1 0 false false false true rfl rfl rfl rfl rfl (fun _=>⟨rfl,by omega⟩) (fun _=>rfl)
 ·exact fin false true true (-1) 0 false false true false rfl rfl rfl rfl (by cases ((ls.length:Int)==0) <;> rfl) (fun h=>by cases h) (fun h=>(h rfl).elim)
 ·exact fin false false false 0 2 false false false false rfl rfl rfl rfl (by cases ((ls.length:Int)==0) <;> rfl) (fun _=>⟨rfl,by omega⟩) (fun _=>rfl)
 ·exact fin false false false 0 2 false false false false rfl rfl rfl rfl (by cases ((ls.length:Int)==0) <;> rfl) (fun _=>⟨rfl,by omega⟩) (fun _=>rfl)
 ·exact fin false false false 0 2 false false false false rfl rfl rfl rfl (by cases ((ls.length:Int)==0) <;> rfl) (fun _=>⟨rfl,by omega⟩) (fun _=>rfl)
 ·exact fin false false false 0 2 false false false false rfl rfl rfl rfl (by cases ((ls.length:Int)==0) <;> rfl) (fun _=>⟨rfl,by omega⟩) (fun _=>rfl)
 ·exact fin false false false 0 3 false false false false rfl rfl rfl rfl (by cases ((ls.length:Int)==0) <;> rfl) (fun _=>⟨rfl,by omega⟩) (fun _=>rfl)
 ·exact fin false false false 0 1 false false false false rfl rfl rfl rfl (by cases ((ls.length:Int)==0) <;> rfl) (fun _=>⟨rfl,by omega⟩) (fun _=>rfl)
 ·exact fin false false false 0 1 false false false false rfl rfl rfl rfl (by cases ((ls.length:Int)==0) <;> rfl) (fun _=>⟨rfl,by omega⟩) (fun _=>rfl)
 ·exact fin false false false 0 3 false false false false rfl rfl rfl rfl (by cases ((ls.length:Int)==0) <;> rfl) (fun _=>⟨rfl,by omega⟩) (fun _=>rfl)
 ·exact fin true false false 0 0 false true false false rfl rfl rfl rfl (by cases ((ls.length:Int)==0) <;> rfl) (fun _=>⟨rfl,by omega⟩) (fun _=>rfl)
def Yi (V P:Int):Scp:=⟨max V 0,max P 0,1000000,1000000⟩
theorem lv_code (V P:Int) (x:Lvl) (h:x.vs.length≤900000000):∃ e,Wa (Yi V P) x=some e∧Uz x P 1000000=some e:=by
 obtain ⟨b,h1,h2,-⟩:=lv_same x h
 unfold Wa Uz
 rw [h1,h2]
 cases b with
 | false=>exact ⟨3,rfl,rfl⟩
 | true =>
  show ∃ e,Option.bind (Qo (KU x (Yi V P)) Qt 0) _=_∧Option.bind (Qo (KT x P) Qt 0) _=_
  obtain ⟨e,h3,h4⟩:=loop_code2 (β1:=Unit⊕Int) (β2:=Unit⊕Int) (step1:=KU x (Yi V P)) (step2:=KT x P) x.vs (.inl ()) (.inl ()) .inr .inr h (fun a y b e=>by
   obtain ⟨q1,q2⟩:=Zj e
   unfold KU KT
   rw [q1,q2]
   show ∃ e:Int,(_→cond (decide (max P 0≤y.1)) _ _=_∧Option.bind (cond (decide (0≤y.1)) (some (decide (P≤y.1))) (some false)) _=_)∧(_→cond (decide (max P 0≤y.1)) _ _=_∧Option.bind (cond (decide (0≤y.1)) (some (decide (P≤y.1))) (some false)) _=_)
   by_cases c:max P 0≤y.1
   ·rw [decide_eq_true c,decide_eq_true (show 0≤y.1 by omega),decide_eq_true (show P≤y.1 by omega)]
    exact ⟨15,fun h=>by omega,fun _=>⟨rfl,rfl⟩⟩
   ·rw [decide_eq_false c]
    refine ⟨0,fun _=>⟨Z,?_⟩,fun h=>(h Z).elim⟩
    by_cases c2:0≤y.1
    ·rw [decide_eq_true c2,decide_eq_false (show ¬ P≤y.1 by omega)];rfl
    ·rw [decide_eq_false c2];rfl)
   (by unfold KU;rw [JD];rfl) (by unfold KT;rw [JD];rfl)
  by_cases he:e=0
  ·obtain ⟨e1,e2⟩:=h3 he
   rw [e1,e2]
   show ∃ e,Option.bind (Qo (Kb x (Yi V P)) Qt 0) _=_∧Option.bind (Qo (Ka x 1000000) Qt 0) _=_
   obtain ⟨e',h5,h6⟩:=loop_code2 (β1:=Unit⊕Int) (β2:=Unit⊕Int) (step1:=Kb x (Yi V P)) (step2:=Ka x 1000000) x.vs (.inl ()) (.inl ()) .inr .inr h (fun a y b e=>by
    obtain ⟨q1,q2⟩:=Zj e
    unfold Kb Ka
    rw [q1,q2]
    show ∃ e:Int,(_→Option.bind (cond (decide (y.1 < 0)) (some (decide (1000000≤(QG ((-1) - y.1))))) (some false)) _=_∧Option.bind (cond (decide (y.1 < 0)) (some (decide (1000000≤(QG ((-1) - y.1))))) (some false)) _=_)∧(_→Option.bind (cond (decide (y.1 < 0)) (some (decide (1000000≤(QG ((-1) - y.1))))) (some false)) _=_∧Option.bind (cond (decide (y.1 < 0)) (some (decide (1000000≤(QG ((-1) - y.1))))) (some false)) _=_)
    cases decide (y.1 < 0) with
    | false=>exact ⟨0,fun _=>⟨rfl,rfl⟩,fun h=>(h rfl).elim⟩
    | true =>
     cases decide (1000000≤(QG ((-1) - y.1))) with
     | false=>exact ⟨0,fun _=>⟨rfl,rfl⟩,fun h=>(h rfl).elim⟩
     | true=>exact ⟨23,fun h=>by omega,fun _=>⟨rfl,rfl⟩⟩)
    (by unfold Kb;rw [JD];rfl) (by unfold Ka;rw [JD];rfl)
   by_cases he':e'=0
   ·obtain ⟨e1,e2⟩:=h5 he'
    rw [e1,e2];exact ⟨0,rfl,rfl⟩
   ·obtain ⟨e1,e2⟩:=h6 he'
    rw [e1,e2];exact ⟨e',rfl,rfl⟩
  ·obtain ⟨e1,e2⟩:=h4 he
   rw [e1,e2];exact ⟨e,rfl,rfl⟩
theorem levels_len (t:Tm):(t.levels.map lvz).sum < t.size:=by rw [t.size_eq];omega
theorem lvz_len (l:Lvl):l.vs.length < lvz l:=by
 have:=Xb (fun _:LV=>1) (fun _=>Nat.le_refl 1) l.vs
 unfold lvz;omega
theorem Un {e:Int} (h:e ≠ 0):(e != 0)=true:=bne_iff_ne.2 h
theorem bindNe {α:Type} {e:Int} (he:e ≠ 0) (x:Int→Option α) (y:Option α):Option.bind (some e) (fun v=>cond (v != 0) (x v) y)=x e:=by
 rw [Option.bind_some,Un he];rfl
def WK (rc:Tm×Int×Int×Int×Int×Int→Option Int) (t:Tm) (dep V P:Int):Option Int:=Option.bind (Qo (Z2 t rc dep V P 1000000 1000000) Qt 0) (Sum.elim (fun (b1_:Unit)=>some 0) (fun o=>some o))
theorem node_tail (t:Tm) (dep V P:Int) (h:t.size≤900000000):∃ e,Option.bind (Qo (Ye t (Yi V P)) Qt 0) (Sum.elim (fun (o7:Unit)=>Z3 t (Yi V P) dep) (fun o=>some o))=some e ∧
  ∀ rc,(Option.bind (Qo (KQ t P 1000000) Qt 0) (Sum.elim (fun (b0_:Unit)=>Option.bind (cond (t.kind==0) (cond (decide (t.index < 0)) (some true) (some (decide (max V 0≤(QG (t.index - dep)))))) (some false)) (fun (b1_:Bool)=>Kn b1_ t 1000000 rc dep (max V 0) P 1000000)) (fun o=>some o)))=if e=0 then WK rc t dep (max V 0) P else some e:=by
 have hl:=levels_len t
 have hl2:=Xb lvz (fun l=>by unfold lvz;omega) t.levels
 obtain ⟨e,h3,h4⟩:=loop_code2 (β1:=Unit⊕Int) (β2:=Unit⊕Int) (step1:=Ye t (Yi V P)) (step2:=KQ t P 1000000) t.levels (.inl ()) (.inl ()) .inr .inr (by omega) (fun a y b e=>by
  obtain ⟨q1,q2⟩:=Zj e
  have hy:y.vs.length≤900000000:=by
   have:=lvz_len y
   have:=Gw lvz (show y∈t.levels from by rw [e];simp)
   omega
  obtain ⟨e,h1,h2⟩:=lv_code V P y hy
  unfold Ye KQ
  rw [q1,q2]
  show ∃ e:Int,(_→Option.bind (Wa (Yi V P) y) _=_∧Option.bind (Uz y P 1000000) _=_)∧(_→Option.bind (Wa (Yi V P) y) _=_∧Option.bind (Uz y P 1000000) _=_)
  rw [h1,h2]
  refine ⟨e,fun he=>?_,fun he=>?_⟩
  ·subst he;exact ⟨rfl,rfl⟩
  ·exact ⟨bindNe he _ _,bindNe he _ _⟩)
  (by unfold Ye;rw [JD];rfl) (by unfold KQ;rw [JD];rfl)
 by_cases he:e=0
 ·obtain ⟨e1,e2⟩:=h3 he
  rw [e1,e2]
  show ∃ e,Z3 t (Yi V P) dep=some e∧∀ rc,Option.bind (cond (t.kind==0) (cond (decide (t.index < 0)) (some true) (some (decide (max V 0≤(QG (t.index - dep)))))) (some false)) (fun (b1_:Bool)=>Kn b1_ t 1000000 rc dep (max V 0) P 1000000)=if e=0 then WK rc t dep (max V 0) P else some e
  unfold Z3
  show ∃ e,Option.bind (cond (t.kind==0) (cond (decide (t.index < 0)) (some true) (some (decide (max V 0≤(QG (t.index - dep)))))) (some false)) _=some e∧_
  obtain ⟨v,hv⟩:∃ v,cond (t.kind==0) (cond (decide (t.index < 0)) (some true) (some (decide (max V 0≤(QG (t.index - dep)))))) (some false)=some v:=by
   cases (t.kind==0) <;> cases decide (t.index < 0) <;> exact ⟨_,rfl⟩
  rw [hv]
  ·cases v with
   | true=>exact ⟨24,rfl,fun rc=>rfl⟩
   | false =>
    show ∃ e,Option.bind (cond (t.kind==12) (cond (decide (t.index < 0)) (some true) (some (decide ((1000000:Int)≤t.index)))) (some false)) _=some e∧∀ rc,Kn false t 1000000 rc dep (max V 0) P 1000000=_
    unfold Kn
    simp only [cond_false]
    cases t.kind==12 with
    | false=>exact ⟨0,rfl,fun rc=>rfl⟩
    | true =>
     cases decide (t.index < 0) with
     | true=>exact ⟨23,rfl,fun rc=>rfl⟩
     | false =>
      cases decide ((1000000:Int)≤t.index) with
      | true=>exact ⟨23,rfl,fun rc=>rfl⟩
      | false=>exact ⟨0,rfl,fun rc=>rfl⟩
 ·obtain ⟨e1,e2⟩:=h4 he
  rw [e1,e2]
  exact ⟨e,rfl,fun rc=>by rw [if_neg he];rfl⟩
theorem node_eq (t:Tm) (dep V P:Int) (h:t.size≤900000000):∃ e,Dw (Yi V P) t dep=some e∧(∀ rc,Uu rc t dep (max V 0) P 1000000 1000000=if e=0 then WK rc t dep (max V 0) P else some e)∧(e=0→0≤t.kind∧t.kind < 13):=by
 obtain ⟨b,h1,h2,h3⟩:=form_eq t
 unfold Dw Uu
 rw [h1,h2]
 cases b with
 | false=>exact ⟨3,rfl,fun rc=>rfl,fun h=>by omega⟩
 | true =>
  obtain ⟨k1,k2,k3⟩:=h3 rfl
  obtain ⟨e,h4,h5⟩:=node_tail t dep V P h
  have hn:t.name.length≤900000000:=by have:=t.size_eq;omega
  show ∃ e,cond (t.kind==3) (Option.bind (Uf t.name) _) _=some e∧(∀ rc,Option.bind (cond (t.kind==3) (Option.bind (DE t.name) _) _) _=_)∧_
  rw [m110_eq _ hn,m98_eq _ hn,KG]
  by_cases hk:t.kind=3
  ·rw [decide_eq_true hk]
   cases KO t.name with
   | false=>exact ⟨29,rfl,fun rc=>rfl,fun h=>by omega⟩
   | true =>
    show ∃ e,cond (decide (8 < (t.levels.length:Int))) (some 6) (Option.bind (Qo (Ye t (Yi V P)) Qt 0) (Sum.elim (fun (o7:Unit)=>Z3 t (Yi V P) dep) (fun o=>some o)))=some e∧(∀ rc,cond (decide (8 < (t.levels.length:Int))) (some 6) (Option.bind (Qo (KQ t P 1000000) Qt 0) (Sum.elim (fun (b0_:Unit)=>Option.bind (cond (t.kind==0) (cond (decide (t.index < 0)) (some true) (some (decide (max V 0≤(QG (t.index - dep)))))) (some false)) (fun (b1_:Bool)=>Kn b1_ t 1000000 rc dep (max V 0) P 1000000)) (fun o=>some o)))=_)∧_
    cases decide (8 < (t.levels.length:Int)) with
    | true=>exact ⟨6,rfl,fun rc=>rfl,fun h=>by omega⟩
    | false=>exact ⟨e,h4,h5,fun _=>⟨k1,k2⟩⟩
  ·rw [decide_eq_false hk]
   show ∃ e,Option.bind (Qo (Ye t (Yi V P)) Qt 0) (Sum.elim (fun (o7:Unit)=>Z3 t (Yi V P) dep) (fun o=>some o))=some e∧(∀ rc,cond (decide (8 < (t.levels.length:Int))) (some 6) (Option.bind (Qo (KQ t P 1000000) Qt 0) (Sum.elim (fun (b0_:Unit)=>Option.bind (cond (t.kind==0) (cond (decide (t.index < 0)) (some true) (some (decide (max V 0≤(QG (t.index - dep)))))) (some false)) (fun (b1_:Bool)=>Kn b1_ t 1000000 rc dep (max V 0) P 1000000)) (fun o=>some o)))=_)∧_
   rw [decide_eq_false (show ¬ 8 < (t.levels.length:Int) by have:=k3 hk;omega)]
   exact ⟨e,h4,h5,fun _=>⟨k1,k2⟩⟩
end Go.Proofs.YtjcfppnjamjjhaaGreatDoor
namespace Go.Proofs.YtjcfppnjamjjhaaGreatDoor
open Go.RowKit Go.Shelf
def Tm.num:Tm→Nat
 | .mk _ _ _ _ ks=>1+(ks.attach.map fun k=>Tm.num k.1).sum
termination_by t=>SizeOf.sizeOf t
decreasing_by
 have:=List.sizeOf_lt_of_mem k.2
 simp only [Tm.mk.sizeOf_spec];omega
theorem Tm.num_eq (t:Tm):t.num=1+(t.kids.map Tm.num).sum:=by
 cases t
 rw [Tm.num,List.attach_map_val];rfl
theorem sum_le2 {α:Type} (f g:α→Nat):∀ l:List α,(∀ x∈l,f x≤g x)→(l.map f).sum≤(l.map g).sum
 | [],_=>Nat.le_refl _
 | x::l,h=>by
  rw [List.map_cons,List.sum_cons,List.map_cons,List.sum_cons]
  have h1:=h x (List.mem_cons_self ..)
  have h2:=sum_le2 f g l fun y hy=>h y (List.mem_cons_of_mem _ hy)
  omega
theorem Tm.num_le (t:Tm):t.num≤t.size:=by
 induction t using Tm.ind with
 | h t ih =>
  rw [t.num_eq,t.size_eq]
  have:=sum_le2 Tm.num Tm.size t.kids ih
  omega
theorem num_le2 {t:Tm} {a b:List Tm} {x:Tm} (e:t.kids=a++x::b):(a.map Tm.num).sum+x.size < t.size∧(a.map Tm.num).sum+x.num < t.num:=by
 have h1:=t.size_eq
 have h2:=t.num_eq
 rw [e,sum_split] at h1 h2
 have h3:=sum_le2 Tm.num Tm.size a fun x _=>x.num_le
 constructor <;> omega
theorem num_walk:∀ (n:Nat) (t:Tm),t.size≤n→t.size≤900000000→Jc UM n t=some (t.num:Int)
 | 0,t,h,_=>by rw [t.size_eq] at h;omega
 | n+1,t,h,h2=>by
  show D7 (Jc UM n) t=_
  unfold D7
  have hl:=ZW t
  have hn:=t.num_le
  obtain ⟨r,e1,e2⟩:=Yk (step:=GV t (Jc UM n)) t.kids (fun i (s:Nat)=>((s:Int),i)) (fun a s=>s=1+(a.map Tm.num).sum) (fun r=>r=(t.num:Int)) (by omega)
   (fun a x b s e hI=>by
    have hx:=Js (t:=t) (k:=x) (by rw [e];simp)
    have hr:=num_walk n x (by omega) (by omega)
    have h3:=num_le2 e
    obtain ⟨q1,q2⟩:=Zj e
    refine .inr ⟨s+x.num,?_,?_⟩
    ·unfold GV
     dsimp only
     rw [q1,q2]
     simp only [cond_true,Option.bind_some]
     rw [hr]
     simp only [Option.bind_some]
     rw [Ys (n:=(s:Int)+(x.num:Int)) (by omega) (by omega)]
     rfl
    ·rw [hI,List.map_append,List.sum_append];simp;omega)
   (fun s hI=>⟨(s:Int),by unfold GV;dsimp only;rw [JD];rfl,by rw [hI,t.num_eq]⟩) 1 rfl
  have e3:Qo (GV t (Jc UM n)) Qt (1,0)=some r:=e1
  rw [e3,e2];rfl
theorem m60_eq:m60=m67:=rfl
theorem bind_eq (k:Int) (h0:0≤k) (h1:k < 13):∃ v,Jy ([(-1),(-1),(-1),(-1),(-1),1,1,1,(-1),(-1),(-1),2,(-1)]:List Int) k=some v∧∀ j:Nat,W9 k (j:Int)=some (if (j:Int)=v then 1 else 0):=by
 have hk:k=0∨k=1∨k=2∨k=3∨k=4∨k=5∨k=6∨k=7∨k=8∨k=9∨k=10∨k=11∨k=12:=by omega
 have no:∀ (c:Bool→Option Int) (j:Nat),W9 k (j:Int)=some 0→W9 k (j:Int)=some (if (j:Int) = -1 then 1 else 0):=fun _ j h=>by rw [h,if_neg (by omega)]
 rcases hk with hk | hk | hk | hk | hk | hk | hk | hk | hk | hk | hk | hk | hk <;> subst hk
 case inr.inr.inr.inr.inr.inl=>exact ⟨1,rfl,fun j=>by
  unfold W9;rw [KG (j:Int) 1,KG (j:Int) 2]
  by_cases h:(j:Int)=1
  ·rw [decide_eq_true h,if_pos h];rfl
  ·rw [decide_eq_false h,if_neg h]
   cases decide ((j:Int)=2) <;> rfl⟩
 case inr.inr.inr.inr.inr.inr.inl=>exact ⟨1,rfl,fun j=>by
  unfold W9;rw [KG (j:Int) 1,KG (j:Int) 2]
  by_cases h:(j:Int)=1
  ·rw [decide_eq_true h,if_pos h];rfl
  ·rw [decide_eq_false h,if_neg h]
   cases decide ((j:Int)=2) <;> rfl⟩
 case inr.inr.inr.inr.inr.inr.inr.inl=>exact ⟨1,rfl,fun j=>by
  unfold W9;rw [KG (j:Int) 1,KG (j:Int) 2]
  by_cases h:(j:Int)=1
  ·rw [decide_eq_true h,if_pos h];rfl
  ·rw [decide_eq_false h,if_neg h]
   cases decide ((j:Int)=2) <;> rfl⟩
 case inr.inr.inr.inr.inr.inr.inr.inr.inr.inr.inr.inl=>exact ⟨2,rfl,fun j=>by
  unfold W9;rw [KG (j:Int) 1,KG (j:Int) 2]
  by_cases h:(j:Int)=2
  ·rw [decide_eq_true h,if_pos h,decide_eq_false (show ¬ (j:Int)=1 by omega)];rfl
  ·rw [decide_eq_false h,if_neg h]
   cases decide ((j:Int)=1) <;> rfl⟩
 all_goals exact ⟨-1,rfl,fun j=>no (fun _=>none) j (by
  unfold W9;rw [KG (j:Int) 1,KG (j:Int) 2]
  cases decide ((j:Int)=1) <;> cases decide ((j:Int)=2) <;> rfl)⟩
theorem walk_eq (V P:Int) (root:Tm):∀ (n:Nat) (t:Tm) (dep cnt:Nat),t.size≤n→dep+t.size≤900000000→cnt+t.size≤900000000 →
  ∃ e:Int,Jc XT n (t,(dep:Int),max V 0,P,1000000,1000000)=some e∧(e=0→Jc Z5 n (t,(dep:Int),root,0,Yi V P,(cnt:Int),root)=some (.inr (true,((cnt+t.num:Nat):Int)))) ∧
   (e ≠ 0→∃ c,Jc Z5 n (t,(dep:Int),root,0,Yi V P,(cnt:Int),root)=some (.inl (e,c)))
 | 0,t,_,_,h,_,_=>by rw [t.size_eq] at h;omega
 | n+1,t,dep,cnt,h,hd,hc=>by
  show ∃ e:Int,Uu (Jc XT n) t (dep:Int) (max V 0) P 1000000 1000000=some e∧(e=0→Gy (Jc Z5 n) t (dep:Int) root 0 (Yi V P) (cnt:Int) root=_)∧(e ≠ 0→∃ c,Gy (Jc Z5 n) t (dep:Int) root 0 (Yi V P) (cnt:Int) root=some (.inl (e,c)))
  obtain ⟨e,h1,h2,h3⟩:=node_eq t (dep:Int) V P (by omega)
  have hl:=ZW t
  have hnum:=t.num_le
  rw [h2]
  unfold Gy
  rw [h1]
  by_cases he:e=0
  ·subst he
   obtain ⟨k0,k1⟩:=h3 rfl
   obtain ⟨v,hv,hj⟩:=bind_eq t.kind k0 k1
   rw [if_pos rfl]
   rw [decide_eq_true k0,decide_eq_true k1]
   show ∃ e:Int,WK (Jc XT n) t (dep:Int) (max V 0) P=some e∧(e=0→ZJ true t (dep:Int) (Jc Z5 n) root 0 (Yi V P) root (cnt:Int)=_)∧(e ≠ 0→∃ c,ZJ true t (dep:Int) (Jc Z5 n) root 0 (Yi V P) root (cnt:Int)=some (.inl (e,c)))
   have hg:Qd (cond (decide (0≤t.kind)) (Nat.blt t.kind.toNat 13) false) (some v)=some v:=by
    rw [decide_eq_true k0,cond_true,show Nat.blt t.kind.toNat 13=true from Nat.ble_eq_true_of_le (by omega)];rfl
   unfold ZJ WK
   rw [hv]
   simp only [cond_true,Option.bind_some]
   rw [hg,Option.bind_some,XX (by omega)]
   obtain ⟨r1,r2,e1,e2,e3⟩:=loop2 (β1:=Unit⊕Int) (β2:=Int⊕((Int×Int)⊕(Bool×Int))) (step1:=Z2 t (Jc XT n) (dep:Int) (max V 0) P 1000000 1000000) (step2:=YN t v (dep:Int) (Jc Z5 n) root 0 (Yi V P) root) t.kids (fun i (_:Unit)=>i) (fun i (c:Nat)=>(i,(c:Int)))
    (fun a _ c=>c=cnt+1+(a.map Tm.num).sum) (fun r1 r2=>(r1=.inl ()∧r2=.inl ((cnt+t.num:Nat):Int))∨∃ e c,e ≠ 0∧r1=.inr e∧r2=.inr (.inl (e,c))) (by omega)
    (fun a x b _ c e hI=>by
     obtain ⟨q1,q2⟩:=Zj e
     have hx:=num_le2 e
     have hxs:=Js (t:=t) (k:=x) (by rw [e];simp)
     unfold Z2 YN
     dsimp only
     rw [q1,q2]
     simp only [cond_true,Option.bind_some]
     rw [hj a.length,KG]
     obtain ⟨d',hd1,hd2,hd3⟩:∃ d':Nat,QG ((dep:Int)+(if (a.length:Int)=v then 1 else 0))=(d':Int)∧(cond (decide ((a.length:Int)=v)) (some (QG ((dep:Int)+1))) (some (dep:Int)))=some (d':Int)∧d'≤dep+1:=by
      by_cases hh:(a.length:Int)=v
      ·rw [if_pos hh,decide_eq_true hh,XX (by omega)];exact ⟨dep+1,rfl,rfl,Nat.le_refl _⟩
      ·rw [if_neg hh,decide_eq_false hh,Ys (by omega) (by omega)];exact ⟨dep,by omega,rfl,by omega⟩
     rw [hd2]
     simp only [Option.bind_some]
     rw [hd1]
     obtain ⟨e',w1,w2,w3⟩:=walk_eq V P root n x d' c (by omega) (by omega) (by omega)
     unfold m108f3_k0
     rw [w1]
     simp only [Option.bind_some]
     by_cases he':e'=0
     ·rw [w2 he']
      subst he'
      refine .inr ⟨(),c+x.num,Z,Z,?_⟩
      rw [hI,List.map_append,List.sum_append];simp;omega
     ·obtain ⟨c',w4⟩:=w3 he'
      rw [w4,Un he']
      exact .inl ⟨_,_,Z,Z,.inr ⟨e',c',he',Z,Z⟩⟩)
    (fun _ c hI=>⟨_,_,by unfold Z2;rw [JD];rfl,by unfold YN;dsimp only;rw [JD];rfl,.inl ⟨rfl,by rw [hI,t.num_eq];congr 2;omega⟩⟩) () (cnt+1) (by simp)
   have e1':Qo (Z2 t (Jc XT n) (dep:Int) (max V 0) P 1000000 1000000) Qt 0=some r1:=e1
   have e2':Qo (YN t v (dep:Int) (Jc Z5 n) root 0 (Yi V P) root) Qt (0,((cnt+1:Nat):Int))=some r2:=e2
   rw [e1',e2']
   rcases e3 with ⟨rfl,rfl⟩ | ⟨e',c',he',rfl,rfl⟩
   ·exact ⟨0,rfl,fun _=>rfl,fun h=>(h rfl).elim⟩
   ·exact ⟨e',rfl,fun h=>(he' h).elim,fun _=>⟨c',rfl⟩⟩
  ·rw [if_neg he]
   refine ⟨e,Z,fun h=>(he h).elim,fun _=>⟨(cnt:Int),?_⟩⟩
   simp only [Option.bind_some,Un he,cond_true];rfl
theorem m27_eq (t:Tm) (V P:Int) (h:t.size≤900000000):∃ e,Dn t V P 1000000 1000000=some e∧Dx t V P 1000000 1000000=some e:=by
 obtain ⟨e,h1,h2,h3⟩:=walk_eq V P t Qt t 0 0 (by unfold Qt;omega) (by omega) (by omega)
 obtain ⟨d,h4⟩:=depth_some Qt t (by unfold Qt;omega) h
 have h5:m66 t=some (t.num:Int):=num_walk Qt t (by unfold Qt;omega) h
 have h6:m67 t=some d:=h4
 have h1':m65 t 0 (max V 0) P 1000000 1000000=some e:=h1
 have h7:∀ r,Jc Z5 Qt (t,((0:Nat):Int),t,0,Yi V P,((0:Nat):Int),t)=some r→m108f3 t 0 t 0 (⟨(max V 0),(max P 0),(max 1000000 0),(max 1000000 0)⟩:Scp) 0 t=some r:=fun r h=>h
 unfold Dn Dx
 rw [h1',m60_eq,h5,h6]
 by_cases he:e=0
 ·have h8:=h7 _ (h2 he)
  rw [h8]
  subst he
  show ∃ e,cond (decide (4096 < (t.num:Int))) (some 5) (cond (decide (200 < d)) (some 7) (some 0))=some e∧cond (decide (4096 < ((0+t.num:Nat):Int))) (some 5) (cond (decide (200 < d)) (some 7) (some 0))=some e
  rw [Nat.zero_add]
  cases decide (4096 < (t.num:Int)) with
  | true=>exact ⟨5,rfl,rfl⟩
  | false=>cases decide (200 < d) <;> exact ⟨_,rfl,rfl⟩
 ·obtain ⟨c,h9⟩:=h3 he
  rw [h7 _ h9]
  simp only [Option.bind_some,Un he,cond_true]
  exact ⟨e,Z,Z⟩
end Go.Proofs.YtjcfppnjamjjhaaGreatDoor
namespace Go.Proofs.YtjcfppnjamjjhaaGreatDoor
open Go.RowKit
set_option maxRecDepth 100000
def m127 (s:List UInt8):Option (Lvl×Int):=none
noncomputable def k127:KF UV:=⟨[.str],[.stc .t82,.int .i64],fun s=>m127 s⟩
theorem k127_ok:Ya DV W0 Tryz.prog 127 k127:=⟨rfl,fun v r h=>by cases h⟩
theorem en_145:Qg Tryz.prog 145:=enters_of Tryz.func145 (by kernel_rfl) rfl
def m145 (a0:Int):Option (Bool) :=
 Option.bind (cond ((decide (97≤a0))) (cond ((decide (a0≤122))) (some true) (cond ((decide (65≤a0))) (cond ((decide (a0≤90))) (some true) (cond ((decide (48≤a0))) (cond ((decide (a0≤57))) (some true) (cond ((a0==95)) (some true) (cond ((a0==39)) (some true) (some (a0==46))))) (cond ((a0==95)) (some true) (cond ((a0==39)) (some true) (some (a0==46)))))) (cond ((decide (48≤a0))) (cond ((decide (a0≤57))) (some true) (cond ((a0==95)) (some true) (cond ((a0==39)) (some true) (some (a0==46))))) (cond ((a0==95)) (some true) (cond ((a0==39)) (some true) (some (a0==46))))))) (cond ((decide (65≤a0))) (cond ((decide (a0≤90))) (some true) (cond ((decide (48≤a0))) (cond ((decide (a0≤57))) (some true) (cond ((a0==95)) (some true) (cond ((a0==39)) (some true) (some (a0==46))))) (cond ((a0==95)) (some true) (cond ((a0==39)) (some true) (some (a0==46)))))) (cond ((decide (48≤a0))) (cond ((decide (a0≤57))) (some true) (cond ((a0==95)) (some true) (cond ((a0==39)) (some true) (some (a0==46))))) (cond ((a0==95)) (some true) (cond ((a0==39)) (some true) (some (a0==46))))))) fun (v1:Bool)=>some v1
noncomputable def k145:KF UV:=⟨[.int .u8],[.bool],fun v=>m145 v⟩
noncomputable def H145:Hints UV:=⟨[(1,⟨[([.reg 2],.bool)],[],false⟩)],[]⟩
theorem k145_ok:Ya DV W0 Tryz.prog 145 k145:=Yy (C:=CV) rfl QK Qw (QJ (tb:=[]) Qw trivial) JS Tryz.func145 en_145 H145 k145 rfl (fun v=>by kernel_rfl)
theorem en_144:Qg Tryz.prog 144:=enters_of Tryz.func144 (by kernel_rfl) rfl
def m144 (a0:List UInt8) (a1:Int):Option (Int) :=
 Option.bind (Qo (σ:=Int) (β:=Int) (fun s11=>Option.bind (cond ((decide (s11 < (a0.length:Int)))) (Option.bind (Jy a0 s11) fun (x16:UInt8)=>Option.bind (m145 (x16.toNat:Int)) fun (x17:Bool)=>some x17) (some false)) fun (v15:Bool)=>cond v15 (some (.next (QG (s11+1)))) (some (.done s11))) Qt a1) fun (v12:Int)=>some v12
noncomputable def k144:KF UV:=⟨[.str,.int .i64],[.int .i64],fun v=>m144 v.1 v.2⟩
noncomputable def H144:Hints UV:=⟨[(1,⟨[([.reg 1],.int .i64)],[([.reg 1],.int .i64)],false⟩),(2,⟨[([.reg 14],.bool)],[],false⟩)],[]⟩
theorem k144_ok:Ya DV W0 Tryz.prog 144 k144:=Yy (C:=CV) rfl QK Qw (QJ (tb:=[(145,k145)]) Qw ⟨k145_ok,trivial⟩) JS Tryz.func144 en_144 H144 k144 rfl (fun v=>by kernel_rfl)
theorem en_125:Qg Tryz.prog 125:=enters_of Tryz.func125 (by kernel_rfl) rfl
def m125 (a0:List UInt8):Option (Int×Bool) :=
 Option.bind (cond ((decide (6 < (a0.length:Int)))) (some true) (cond ((a0==([]:List UInt8))) (some true) (Option.bind (m146 a0 ([48,49,50,51,52,53,54,55,56,57]:List UInt8)) fun (x4:(List UInt8))=>cond ((!(x4==([]:List UInt8)))) (some true) (cond ((decide (1 < (a0.length:Int)))) (Option.bind (Jy a0 0) fun (x5:UInt8)=>some ((x5.toNat:Int)==48)) (some false))))) fun (v3:Bool)=>cond v3 (some (0,false)) (Option.bind (Qd (cond (Nat.ble a0.length 18) (Lib.atoi a0).isSome false) (some ((Lib.atoi a0).getD 0))) fun (x6:Int)=>some (x6,true))
noncomputable def k125:KF UV:=⟨[.str],[.int .i64,.bool],fun v=>m125 v⟩
noncomputable def H125:Hints UV:=⟨[(1,⟨[([.reg 27],.bool)],[],false⟩)],[(5,[])]⟩
theorem k125_ok:Ya DV W0 Tryz.prog 125 k125:=Yy (C:=CV) rfl QK Qw (kOr_ok (QJ (tb:=[(146,k146)]) Qw ⟨k146_ok,trivial⟩) atK_ok) JS Tryz.func125 en_125 H125 k125 rfl (fun v=>by kernel_rfl)
theorem en_123:Qg Tryz.prog 123:=enters_of Tryz.func123 (by kernel_rfl) rfl
def m123 (a0:List UInt8) (a1:Int):Option (Int) :=
 Option.bind (Jy a0 a1) fun (x1:UInt8)=>Option.bind (cond (((x1.toNat:Int)==40)) (some true) (some ((x1.toNat:Int)==41))) fun (v2:Bool)=>cond v2 (some (QG (a1+1))) (Option.bind (α:=Unit⊕Int) (cond (((x1.toNat:Int)==91)) (Qd (US a1 a0.length) (Option.bind (m122 (List.drop a1.toNat a0) 93) fun (x30:Int)=>cond ((decide (0≤x30))) (some (.inr (QG ((QG (a1+x30))+1)))) (some (.inl ())))) (Option.bind (cond (((x1.toNat:Int)==35)) (some true) (some ((x1.toNat:Int)==63))) fun (v31:Bool)=>Option.bind (α:=Unit⊕Int) (cond v31 (Option.bind (m144 a0 (QG (a1+1))) fun (x44:Int)=>Qd (cond (decide (0≤(QG (a1+1)))) (cond (Nat.ble (QG (a1+1)).toNat x44.toNat) (US x44 a0.length) false) false) (Option.bind (m125 (List.drop (QG (a1+1)).toNat (List.take x44.toNat a0))) fun (x45:Int×Bool)=>cond x45.2 (some (.inr x44)) (some (.inl ())))) (Option.bind (m145 (x1.toNat:Int)) fun (x46:Bool)=>Option.bind (α:=Unit⊕Int) (cond x46 (Option.bind (m144 a0 a1) fun (x51:Int)=>Qd (cond (decide (0≤a1)) (cond (Nat.ble a1.toNat x51.toNat) (US x51 a0.length) false) false) (Option.bind (m125 (List.drop a1.toNat (List.take x51.toNat a0))) fun (x52:Int×Bool)=>Option.bind (cond x52.2 (some true) (cond ((decide ((x1.toNat:Int) < 48))) (some true) (some (decide (57 < (x1.toNat:Int)))))) fun (v53:Bool)=>cond v53 (some (.inr x51)) (some (.inl ())))) (some (.inl ()))) (Sum.elim (fun (v50:Unit)=>some (.inl ())) (fun (o54:Int)=>some (.inr o54))))) (Sum.elim (fun (v43:Unit)=>some (.inl ())) (fun (o55:Int)=>some (.inr o55))))) (Sum.elim (fun (v29:Unit)=>some a1) (fun (o56:Int)=>some o56)))
noncomputable def k123:KF UV:=⟨[.str,.int .i64],[.int .i64],fun v=>m123 v.1 v.2⟩
noncomputable def H123:Hints UV:=⟨[(3,⟨[([.reg 16],.bool)],[],false⟩),(7,⟨[],[],true⟩),(12,⟨[([.reg 38],.bool)],[],false⟩),(13,⟨[],[],true⟩),(20,⟨[],[],true⟩),(23,⟨[([.reg 82],.bool)],[],false⟩)],[]⟩
theorem k123_ok:Ya DV W0 Tryz.prog 123 k123:=Yy (C:=CV) rfl QK Qw (QJ (tb:=[(122,k122),(125,k125),(144,k144),(145,k145)]) Qw ⟨k122_ok,k125_ok,k144_ok,k145_ok,trivial⟩) JS Tryz.func123 en_123 H123 k123 rfl (fun v=>by kernel_rfl)
theorem en_78:Qg Tryz.prog 78:=enters_of Tryz.func78 (by kernel_rfl) rfl
def m78 (a0:Int):Option (Int) :=
 Option.bind (cond ((a0==8)) (some (a0==8)) (some (a0==11))) fun (v1:Bool)=>cond v1 (some 3) (Option.bind (cond ((a0==9)) (some (a0==9)) (some (a0==10))) fun (v2:Bool)=>cond v2 (some 1) (some 2))
noncomputable def k78:KF UV:=⟨[.int .i64],[.int .i64],fun v=>m78 v⟩
noncomputable def H78:Hints UV:=⟨[(4,⟨[([.reg 4],.bool)],[],false⟩),(9,⟨[([.reg 7],.bool)],[],false⟩)],[]⟩
theorem k78_ok:Ya DV W0 Tryz.prog 78 k78:=Yy (C:=CV) rfl QK Qw (QJ (tb:=[]) Qw trivial) JS Tryz.func78 en_78 H78 k78 rfl (fun v=>by kernel_rfl)
theorem en_74:Qg Tryz.prog 74:=enters_of Tryz.func74 (by kernel_rfl) rfl
def Dr (b:Rdr):Option ((Rdr×((List UInt8)))⊕(Unit×Rdr)) :=
 Option.bind (Jy b.l b.n) fun (x1:Tkn)=>some (.inl (b,x1.text))
noncomputable def k74:PF UV:=⟨.stc 127 .t127,[],[.str],.p0 127,fun b v=>Dr b⟩
noncomputable def H74:Hints UV:=⟨[],[(1,[])]⟩
theorem GZ:GH DV W0 Tryz.prog 74 k74:=Ga (C:=CV) rfl QK Qw (QJ (tb:=[]) Qw trivial) JS Tryz.func74 en_74 H74 k74 rfl rfl (fun b v=>by kernel_rfl)
theorem en_72:Qg Tryz.prog 72:=enters_of Tryz.func72 (by kernel_rfl) rfl
def m72 (b:Rdr) (a1:List UInt8):Option ((Rdr×Bool)⊕(Unit×Rdr)) :=
 Option.bind (K1 (Dr b)) fun (r1:Rdr×((List UInt8)))=>some (.inl (r1.1,(r1.2==a1)))
noncomputable def k72:PF UV:=⟨.stc 127 .t127,[.str],[.bool],.p0 127,fun b v=>m72 b v⟩
noncomputable def H72:Hints UV:=⟨[],[]⟩
theorem k72_ok:GH DV W0 Tryz.prog 72 k72:=Ga (C:=CV) rfl QK Qw (QJ (tb:=[]) Qw trivial) (ZD (tb:=[(74,k74)]) Qw ⟨GZ,trivial⟩) Tryz.func72 en_72 H72 k72 rfl rfl (fun b v=>by kernel_rfl)
theorem en_124:Qg Tryz.prog 124:=enters_of Tryz.func124 (by kernel_rfl) rfl
def m124 (b:Rdr):Option ((Rdr×Unit)⊕((Int×Int)×Rdr)) :=
 Option.bind (Jy b.l b.n) fun (x1:Tkn)=>some (.inr ((4,x1.at_),b))
noncomputable def k124:PF UV:=⟨.stc 127 .t127,[],[],.p2 69,fun b v=>m124 b⟩
noncomputable def H124:Hints UV:=⟨[],[(0,[13])]⟩
theorem k124_ok:GH DV W0 Tryz.prog 124 k124:=Ga (C:=CV) rfl QK Qw (QJ (tb:=[]) Qw trivial) JS Tryz.func124 en_124 H124 k124 rfl rfl (fun b v=>by kernel_rfl)
theorem en_77:Qg Tryz.prog 77:=enters_of Tryz.func77 (by kernel_rfl) rfl
def Dq (b:Rdr) (a1:Bool):Option ((Rdr×Unit)⊕((Int×Int)×Rdr)) :=
 Option.bind (α:=((List Tkn)×Int)⊕((Rdr×Unit)⊕((Int×Int)×Rdr))) (cond ((!a1)) (Option.bind (m124 b) (Sum.elim (fun (r4:Rdr×Unit)=>some (.inl (r4.1.l,r4.1.n))) (fun (e5:(Int×Int)×Rdr)=>some (.inr (.inr ((e5.1.1,e5.1.2),e5.2)))))) (some (.inl (b.l,b.n)))) (Sum.elim (fun (v3:(List Tkn)×Int)=>some (.inl ((Rdr.mk v3.1 v3.2),()))) (fun (o6:(Rdr×Unit)⊕((Int×Int)×Rdr))=>some o6))
noncomputable def k77:PF UV:=⟨.stc 127 .t127,[.bool],[],.p2 69,fun b v=>Dq b v⟩
noncomputable def H77:Hints UV:=⟨[(1,⟨[([.at 0 0],.sl .t132),([.at 0 1],.int .i64)],[],true⟩)],[]⟩
theorem Wf:GH DV W0 Tryz.prog 77 k77:=Ga (C:=CV) rfl QK Qw (QJ (tb:=[]) Qw trivial) (ZE (tb:=[(124,k124)]) Qw ⟨k124_ok,trivial⟩) Tryz.func77 en_77 H77 k77 rfl rfl (fun b v=>by kernel_rfl)
theorem en_79:Qg Tryz.prog 79:=enters_of Tryz.func79 (by kernel_rfl) rfl
def m79 (b:Rdr) (a1:List UInt8):Option ((Rdr×Unit)⊕((Int×Int)×Rdr)) :=
 Option.bind (K1 (Dr b)) fun (r1:Rdr×((List UInt8)))=>Option.bind (Dq r1.1 (r1.2==a1)) (Sum.elim (fun (r3:Rdr×Unit)=>some (.inl ((Rdr.mk r3.1.l (QG (r3.1.n+1))),()))) (fun (e4:(Int×Int)×Rdr)=>some (.inr ((e4.1.1,e4.1.2),e4.2))))
noncomputable def k79:PF UV:=⟨.stc 127 .t127,[.str],[],.p2 69,fun b v=>m79 b v⟩
noncomputable def H79:Hints UV:=⟨[],[]⟩
theorem k79_ok:GH DV W0 Tryz.prog 79 k79:=Ga (C:=CV) rfl QK Qw (QJ (tb:=[]) Qw trivial) (Km (ZD (tb:=[(74,k74)]) Qw ⟨GZ,trivial⟩) (ZE (tb:=[(77,k77)]) Qw ⟨Wf,trivial⟩)) Tryz.func79 en_79 H79 k79 rfl rfl (fun b v=>by kernel_rfl)
theorem en_76:Qg Tryz.prog 76:=enters_of Tryz.func76 (by kernel_rfl) rfl
def m76 (b:Rdr):Option ((Rdr×((List UInt8)))⊕((Int×Int)×Rdr)) :=
 Option.bind (K1 (Dr b)) fun (r1:Rdr×((List UInt8)))=>Option.bind (Uf r1.2) fun (x3:Bool)=>Option.bind (Dq r1.1 x3) (Sum.elim (fun (r4:Rdr×Unit)=>some (.inl ((Rdr.mk r4.1.l (QG (r4.1.n+1))),r1.2))) (fun (e5:(Int×Int)×Rdr)=>some (.inr ((e5.1.1,e5.1.2),e5.2))))
noncomputable def k76:PF UV:=⟨.stc 127 .t127,[],[.str],.p2 69,fun b v=>m76 b⟩
noncomputable def H76:Hints UV:=⟨[],[]⟩
theorem k76_ok:GH DV W0 Tryz.prog 76 k76:=Ga (C:=CV) rfl QK Qw (QJ (tb:=[(110,k110)]) Qw ⟨k110_ok,trivial⟩) (Km (ZD (tb:=[(74,k74)]) Qw ⟨GZ,trivial⟩) (ZE (tb:=[(77,k77)]) Qw ⟨Wf,trivial⟩)) Tryz.func76 en_76 H76 k76 rfl rfl (fun b v=>by kernel_rfl)
theorem en_75:Qg Tryz.prog 75:=enters_of Tryz.func75 (by kernel_rfl) rfl
def m75 (b:Rdr):Option ((Rdr×Lvl)⊕((Int×Int)×Rdr)) :=
 Option.bind (K1 (Dr b)) fun (r1:Rdr×((List UInt8)))=>Option.bind (m126 r1.2 ([91]:List UInt8)) fun (x3:Bool)=>Option.bind (Dq r1.1 x3) (Sum.elim (fun (r4:Rdr×Unit)=>Qd (cond (decide (0≤(1:Int))) (cond (Nat.ble (1:Int).toNat (QG ((r1.2.length:Int) - 1)).toNat) (US (QG ((r1.2.length:Int) - 1)) r1.2.length) false) false) (Option.bind (m127 (List.drop (1:Int).toNat (List.take (QG ((r1.2.length:Int) - 1)).toNat r1.2))) fun (x6:Lvl×Int)=>Option.bind (Dq r4.1 (x6.2==0)) (Sum.elim (fun (r7:Rdr×Unit)=>some (.inl ((Rdr.mk r7.1.l (QG (r7.1.n+1))),x6.1))) (fun (e8:(Int×Int)×Rdr)=>some (.inr ((e8.1.1,e8.1.2),e8.2)))))) (fun (e5:(Int×Int)×Rdr)=>some (.inr ((e5.1.1,e5.1.2),e5.2))))
noncomputable def k75:PF UV:=⟨.stc 127 .t127,[],[.stc .t82],.p2 69,fun b v=>m75 b⟩
noncomputable def H75:Hints UV:=⟨[],[]⟩
theorem k75_ok:GH DV W0 Tryz.prog 75 k75:=Ga (C:=CV) rfl QK Qw (QJ (tb:=[(126,k126),(127,k127)]) Qw ⟨k126_ok,k127_ok,trivial⟩) (Km (ZD (tb:=[(74,k74)]) Qw ⟨GZ,trivial⟩) (ZE (tb:=[(77,k77)]) Qw ⟨Wf,trivial⟩)) Tryz.func75 en_75 H75 k75 rfl rfl (fun b v=>by kernel_rfl)
theorem en_73:Qg Tryz.prog 73:=enters_of Tryz.func73 (by kernel_rfl) rfl
def m73 (b:Rdr):Option ((Rdr×Tm)⊕((Int×Int)×Rdr)) :=
 Option.bind (K1 (Dr b)) fun (r1:Rdr×((List UInt8)))=>Option.bind (α:=((List Tkn)×Int)⊕((Rdr×Tm)⊕((Int×Int)×Rdr))) (cond ((r1.2==([]:List UInt8))) (Option.bind (m124 r1.1) (Sum.elim (fun (r13:Rdr×Unit)=>some (.inl (r13.1.l,r13.1.n))) (fun (e14:(Int×Int)×Rdr)=>some (.inr (.inr ((e14.1.1,e14.1.2),e14.2)))))) (cond ((r1.2==([112,114,111,112]:List UInt8))) (some (.inr (.inl ((Rdr.mk r1.1.l (QG (r1.1.n+1))),(Tm.mk 1 0 ([]:List UInt8) ([]) ([])))))) (Option.bind (Option.bind (Jy r1.2 0) fun (x18:UInt8)=>cond (((x18.toNat:Int)==35)) (some true) (Option.bind (Jy r1.2 0) fun (x19:UInt8)=>some ((x19.toNat:Int)==63))) fun (v17:Bool)=>cond v17 (Qd (US (1:Int) r1.2.length) (Option.bind (m125 (List.drop (1:Int).toNat r1.2)) fun (x20:Int×Bool)=>Option.bind (Jy r1.2 0) fun (x21:UInt8)=>cond (((x21.toNat:Int)==63)) (some (.inr (.inl ((Rdr.mk r1.1.l (QG (r1.1.n+1))),(Tm.mk 12 x20.1 ([]:List UInt8) ([]) ([])))))) (some (.inr (.inl ((Rdr.mk r1.1.l (QG (r1.1.n+1))),(Tm.mk 0 x20.1 ([]:List UInt8) ([]) ([])))))))) (some (.inl (r1.1.l,r1.1.n)))))) (Sum.elim (fun (v12:(List Tkn)×Int)=>Option.bind (m76 (Rdr.mk v12.1 v12.2)) (Sum.elim (fun (r23:Rdr×((List UInt8)))=>some (.inl (r23.1,(Tm.mk 3 0 r23.2 ([]) ([]))))) (fun (e24:(Int×Int)×Rdr)=>some (.inr ((e24.1.1,e24.1.2),e24.2))))) (fun (o22:(Rdr×Tm)⊕((Int×Int)×Rdr))=>some o22))
noncomputable def k73:PF UV:=⟨.stc 127 .t127,[],[.stc .t25],.p2 69,fun b v=>m73 b⟩
noncomputable def H73:Hints UV:=⟨[(4,⟨[([.at 0 0],.sl .t132),([.at 0 1],.int .i64)],[],true⟩),(10,⟨[([.reg 24],.bool)],[],false⟩)],[]⟩
theorem k73_ok:GH DV W0 Tryz.prog 73 k73:=Ga (C:=CV) rfl QK Qw (QJ (tb:=[(125,k125)]) Qw ⟨k125_ok,trivial⟩) (Km (ZD (tb:=[(74,k74)]) Qw ⟨GZ,trivial⟩) (ZE (tb:=[(76,k76),(124,k124)]) Qw ⟨k76_ok,k124_ok,trivial⟩)) Tryz.func73 en_73 H73 k73 rfl rfl (fun b v=>by kernel_rfl)
theorem en_36:Qg Tryz.prog 36:=enters_of Tryz.func36 (by kernel_rfl) rfl
theorem en_64:Qg Tryz.prog 64:=enters_of Tryz.func64 (by kernel_rfl) rfl
noncomputable def B64_36:IH UV:=⟨Tryz.f64,⟨[],[]⟩,.st⟩
def m36s (rc:Rdr×Unit→Option ((Rdr×Tm)⊕((Int×Int)×Rdr))) (b:Rdr):Option ((Rdr×Tm)⊕((Int×Int)×Rdr)) :=
 Option.bind (K1 (m72 b ([40]:List UInt8))) fun (r1:Rdr×Bool)=>cond ((!r1.2)) (Option.bind (m73 r1.1) (Sum.elim (fun (r3:Rdr×Tm)=>some (.inl (r3.1,r3.2))) (fun (e4:(Int×Int)×Rdr)=>some (.inr ((e4.1.1,e4.1.2),e4.2))))) (Option.bind (K1 (Dr (Rdr.mk r1.1.l (QG (r1.1.n+1))))) fun (r5:Rdr×((List UInt8)))=>cond ((r5.2==([115,111,114,116]:List UInt8))) (Option.bind (m75 (Rdr.mk r5.1.l (QG (r5.1.n+1)))) (Sum.elim (fun (r7:Rdr×Lvl)=>Option.bind (m79 r7.1 ([41]:List UInt8)) (Sum.elim (fun (r9:Rdr×Unit)=>some (.inl (r9.1,(Tm.mk 2 0 ([]:List UInt8) ([r7.2]:List Lvl) ([]))))) (fun (e10:(Int×Int)×Rdr)=>some (.inr ((e10.1.1,e10.1.2),e10.2))))) (fun (e8:(Int×Int)×Rdr)=>some (.inr ((e8.1.1,e8.1.2),e8.2))))) (cond ((r5.2==([99,111,110,115,116]:List UInt8))) (Option.bind (m76 (Rdr.mk r5.1.l (QG (r5.1.n+1)))) (Sum.elim (fun (r11:Rdr×((List UInt8)))=>Option.bind (Qo (σ:=(List Tkn)×Int×(List Lvl)) (β:=((List Tkn)×Int×(List Lvl))⊕((Rdr×Tm)⊕((Int×Int)×Rdr))) (fun s25=>Option.bind (K1 (m72 (Rdr.mk s25.1 s25.2.1) ([41]:List UInt8))) fun (r27:Rdr×Bool)=>cond ((!r27.2)) (Option.bind (m75 r27.1) (Sum.elim (fun (r29:Rdr×Lvl)=>Qd (Nat.ble (s25.2.2.length+([r29.2]:List Lvl).length) 1000000000) (some (.next (r29.1.l,r29.1.n,(s25.2.2++([r29.2]:List Lvl)))))) (fun (e30:(Int×Int)×Rdr)=>some (.done (.inr (.inr ((e30.1.1,e30.1.2),e30.2))))))) (some (.done (.inl (r27.1.l,r27.1.n,s25.2.2))))) Qt (r11.1.l,r11.1.n,([]:List Lvl))) (Sum.elim (fun (v26:(List Tkn)×Int×(List Lvl))=>Option.bind (m79 (Rdr.mk v26.1 v26.2.1) ([41]:List UInt8)) (Sum.elim (fun (r31:Rdr×Unit)=>some (.inl (r31.1,(Tm.mk 3 0 r11.2 v26.2.2 ([]))))) (fun (e32:(Int×Int)×Rdr)=>some (.inr ((e32.1.1,e32.1.2),e32.2))))) (fun (o33:(Rdr×Tm)⊕((Int×Int)×Rdr))=>some o33))) (fun (e12:(Int×Int)×Rdr)=>some (.inr ((e12.1.1,e12.1.2),e12.2))))) (Option.bind (Qo (σ:=Int×Int) (β:=Int) (fun s40=>cond ((decide (s40.1 < 8))) (Option.bind (Jy ([([97,112,112]:List UInt8),([108,97,109]:List UInt8),([112,105]:List UInt8),([115,105,103,109,97]:List UInt8),([112,97,105,114]:List UInt8),([102,115,116]:List UInt8),([115,110,100]:List UInt8),([108,101,116]:List UInt8)]:List (List UInt8)) s40.1) fun (x42:List UInt8)=>Option.bind (cond ((x42==r5.2)) (some (QG (4+s40.1))) (some s40.2)) fun (v43:Int)=>some (.next ((QG (s40.1+1)),v43))) (some (.done s40.2))) Qt (0,0)) fun (v41:Int)=>Option.bind (Dq r5.1 (v41 != 0)) (Sum.elim (fun (r44:Rdr×Unit)=>Option.bind (m78 v41) fun (x46:Int)=>Option.bind (Qo (σ:=Int×(List Tkn)×Int×(List Tm)) (β:=((List Tkn)×Int×(List Tm))⊕((Rdr×Tm)⊕((Int×Int)×Rdr))) (fun s53=>cond ((decide (s53.1 < x46))) (Option.bind (rc ((Rdr.mk s53.2.1 s53.2.2.1),())) (Sum.elim (fun (r55:Rdr×Tm)=>Qd (Nat.ble (s53.2.2.2.length+([r55.2]:List Tm).length) 1000000000) (some (.next ((QG (s53.1+1)),r55.1.l,r55.1.n,(s53.2.2.2++([r55.2]:List Tm)))))) (fun (e56:(Int×Int)×Rdr)=>some (.done (.inr (.inr ((e56.1.1,e56.1.2),e56.2))))))) (some (.done (.inl (s53.2.1,s53.2.2.1,s53.2.2.2))))) Qt (0,r44.1.l,(QG (r44.1.n+1)),([]:List Tm))) (Sum.elim (fun (v54:(List Tkn)×Int×(List Tm))=>Option.bind (m79 (Rdr.mk v54.1 v54.2.1) ([41]:List UInt8)) (Sum.elim (fun (r57:Rdr×Unit)=>some (.inl (r57.1,(Tm.mk v41 0 ([]:List UInt8) ([]) v54.2.2)))) (fun (e58:(Int×Int)×Rdr)=>some (.inr ((e58.1.1,e58.1.2),e58.2))))) (fun (o59:(Rdr×Tm)⊕((Int×Int)×Rdr))=>some o59))) (fun (e45:(Int×Int)×Rdr)=>some (.inr ((e45.1.1,e45.1.2),e45.2)))))))
def m36r:Rdr×Unit→Option ((Rdr×Tm)⊕((Int×Int)×Rdr)):=Jc (fun rc v=>m36s rc v.1) Qt
def m36 (b:Rdr):Option ((Rdr×Tm)⊕((Int×Int)×Rdr)):=m36r (b,())
noncomputable def k36:PF UV:=⟨.stc 127 .t127,[],[.stc .t25],.p2 69,fun b v=>m36 b⟩
noncomputable def H36:Hints UV:=⟨[(17,⟨[([.at 0 0],.sl .t132),([.at 0 1],.int .i64),([.at 3 3],.app 82 .t82)],[([.at 0 0],.sl .t132),([.at 0 1],.int .i64),([.at 3 3],.app 82 .t82)],true⟩),(23,⟨[([.reg 24],.int .i64),([.at 3 0],.int .i64)],[([.at 3 0],.int .i64)],false⟩),(29,⟨[([.at 3 0],.int .i64)],[],false⟩),(35,⟨[([.reg 50],.int .i64),([.at 0 0],.sl .t132),([.at 0 1],.int .i64),([.at 3 4],.app 25 .t25)],[([.at 0 0],.sl .t132),([.at 0 1],.int .i64),([.at 3 4],.app 25 .t25)],true⟩)],[(21,[3,4,5,7]),(39,[3,4,5,7])]⟩
theorem k36s_ok (rc:Rdr×Unit→Option ((Rdr×Tm)⊕((Int×Int)×Rdr))) (H:∀ (u:Rdr×Unit) (r:(Rdr×Tm)⊕((Int×Int)×Rdr)),rc u=some r→CallO W0 Tryz.prog 36 (.one (.ptr 0 0)::QO DV k36.args u.2) ((WD k36.bx u.1).er DV) (UZ DV k36.bx k36.res k36.pk r)):GH DV W0 Tryz.prog 36 ⟨k36.bx,k36.args,k36.res,k36.pk,fun b v=>m36s rc b⟩:=Ga (C:=CV) rfl QK Qw (QJ (tb:=[(78,k78)]) Qw ⟨k78_ok,trivial⟩) (Gz (C:=CV) rfl QK Qw (QJ (tb:=[(78,k78)]) Qw ⟨k78_ok,trivial⟩) (Km (ZD (tb:=[(72,k72),(74,k74)]) Qw ⟨k72_ok,GZ,trivial⟩) (ZE (tb:=[(36,(⟨k36.bx,k36.args,k36.res,k36.pk,fun b v=>rc (b,v)⟩:PF UV)),(73,k73),(75,k75),(76,k76),(77,k77),(79,k79)]) Qw ⟨⟨⟨rfl,rfl⟩,fun b v y h=>H (b,v) y h⟩,k73_ok,k75_ok,k76_ok,Wf,k79_ok,trivial⟩)) (I:=[(64,B64_36)]) ⟨⟨Tryz.func64,en_64⟩,trivial⟩ 8) Tryz.func36 en_36 H36 _ rfl rfl (fun b v=>by kernel_rfl)
theorem k36_ok:GH DV W0 Tryz.prog 36 k36:=⟨⟨rfl,rfl⟩,fun b v r h=>Y6 (C:=fun (u:Rdr×Unit) (r:(Rdr×Tm)⊕((Int×Int)×Rdr))=>CallO W0 Tryz.prog 36 (.one (.ptr 0 0)::QO DV k36.args u.2) ((WD k36.bx u.1).er DV) (UZ DV k36.bx k36.res k36.pk r)) (fun rc H u r h=>(k36s_ok rc H).2 u.1 u.2 r h) Qt (b,v) r h⟩
theorem en_37:Qg Tryz.prog 37:=enters_of Tryz.func37 (by kernel_rfl) rfl
def m37 (b:Rdr) (a1:List UInt8):Option ((Rdr×Unit)⊕((Int×Int)×Rdr)) :=
 Option.bind (α:=((List Tkn)×Int)⊕((Rdr×Unit)⊕((Int×Int)×Rdr))) (Option.bind (K1 (Dr b)) fun (r9:Rdr×((List UInt8)))=>cond ((r9.2==([]:List UInt8))) (Option.bind (Jy r9.1.l r9.1.n) fun (x11:Tkn)=>Option.bind (Dq r9.1 (x11.at_==(a1.length:Int))) (Sum.elim (fun (r12:Rdr×Unit)=>some (.inl (r12.1.l,r12.1.n))) (fun (e13:(Int×Int)×Rdr)=>some (.inr (.inr ((e13.1.1,e13.1.2),e13.2)))))) (Option.bind (Dq r9.1 false) (Sum.elim (fun (r14:Rdr×Unit)=>some (.inl (r14.1.l,r14.1.n))) (fun (e15:(Int×Int)×Rdr)=>some (.inr (.inr ((e15.1.1,e15.1.2),e15.2))))))) (Sum.elim (fun (v8:(List Tkn)×Int)=>some (.inl ((Rdr.mk v8.1 v8.2),()))) (fun (o16:(Rdr×Unit)⊕((Int×Int)×Rdr))=>some o16))
noncomputable def k37:PF UV:=⟨.stc 127 .t127,[.str],[],.p2 69,fun b v=>m37 b v⟩
noncomputable def H37:Hints UV:=⟨[(0,⟨[([.at 0 0],.sl .t132),([.at 0 1],.int .i64)],[],true⟩)],[(0,[2,20])]⟩
theorem k37_ok:GH DV W0 Tryz.prog 37 k37:=Ga (C:=CV) rfl QK Qw (QJ (tb:=[]) Qw trivial) (Km (ZD (tb:=[(74,k74)]) Qw ⟨GZ,trivial⟩) (ZE (tb:=[(77,k77)]) Qw ⟨Wf,trivial⟩)) Tryz.func37 en_37 H37 k37 rfl rfl (fun b v=>by kernel_rfl)
theorem en_139:Qg Tryz.prog 139:=enters_of Tryz.func139 (by kernel_rfl) rfl
def Ux (a0:List UInt8) (a1:Int) (a2:Int):Option ((List UInt8)) :=
 Option.bind (D8 a1) fun (x1:(List UInt8))=>Qd (Nat.ble (a0.length+x1.length) 1000000000) (Option.bind (cond ((decide (0 < a2))) (Option.bind (D8 a2) fun (x4:(List UInt8))=>Qd (Nat.ble (([32,43,32]:List UInt8).length+x4.length) 1000000000) (Qd (Nat.ble ((a0++x1).length+(([32,43,32]:List UInt8)++x4).length) 1000000000) (some ((a0++x1)++(([32,43,32]:List UInt8)++x4))))) (some (a0++x1))) fun (v3:(List UInt8))=>some v3)
noncomputable def k139:KF UV:=⟨[.str,.int .i64,.int .i64],[.str],fun v=>Ux v.1 v.2.1 v.2.2⟩
noncomputable def H139:Hints UV:=⟨[(3,⟨[([.reg 7],.str)],[],false⟩)],[]⟩
theorem k139_ok:Ya DV W0 Tryz.prog 139 k139:=Yy (C:=CV) rfl QK Qw (QJ (tb:=[(62,k62)]) Qw ⟨X0,trivial⟩) JS Tryz.func139 en_139 H139 k139 rfl (fun v=>by kernel_rfl)
theorem en_114:Qg Tryz.prog 114:=enters_of Tryz.func114 (by kernel_rfl) rfl
theorem en_140:Qg Tryz.prog 140:=enters_of Tryz.func140 (by kernel_rfl) rfl
theorem en_163:Qg Tryz.prog 163:=enters_of Tryz.func163 (by kernel_rfl) rfl
noncomputable def B140_114:IH UV:=⟨Tryz.f140,⟨[],[]⟩,.st⟩
noncomputable def B163_114:IH UV:=⟨Tryz.f163,⟨[(1,⟨[([.reg 3],.int .i64),([.fat 0 4 0],.app 9 .t9)],[([.fat 0 4 0],.app 9 .t9)],false⟩),(4,⟨[([.fat 0 4 0],.app 9 .t9)],[],false⟩)],[]⟩,.st⟩
def m114 (a0:Lvl):Option ((List UInt8)×Int) :=
 Option.bind (Ub a0) fun (x1:Bool)=>cond ((!x1)) (some (([]:List UInt8),3)) (Option.bind (cond ((decide (0 < a0.c))) (some true) (some ((a0.vs.length:Int)==0))) fun (v2:Bool)=>Option.bind (cond v2 (Option.bind (D8 a0.c) fun (x5:(List UInt8))=>Qd (Nat.ble (([]:List ((List UInt8))).length+([x5]:List ((List UInt8))).length) 1000000000) (some (([]:List ((List UInt8)))++([x5]:List ((List UInt8)))))) (some ([]:List ((List UInt8))))) fun (v4:(List ((List UInt8))))=>Option.bind (Qo (σ:=Int×(List ((List UInt8)))) (β:=(List ((List UInt8)))) (fun s12=>cond ((decide (s12.1 < (a0.vs.length:Int)))) (Option.bind (Jy a0.vs s12.1) fun (x14:LV)=>cond ((decide (0≤x14.1))) (Option.bind (Ux ([117]:List UInt8) x14.1 x14.2) fun (x15:(List UInt8))=>Qd (Nat.ble (s12.2.length+([x15]:List ((List UInt8))).length) 1000000000) (some (.next ((QG (s12.1+1)),(s12.2++([x15]:List ((List UInt8)))))))) (some (.next ((QG (s12.1+1)),s12.2)))) (some (.done s12.2))) Qt (0,v4)) fun (v13:(List ((List UInt8))))=>Option.bind (Qo (σ:=Int×(List ((List UInt8)))) (β:=(List ((List UInt8)))) (fun s31=>cond ((decide (0≤s31.1))) (Option.bind (Option.bind (Jy a0.vs s31.1) fun (x36:LV)=>cond ((decide (x36.1 < 0))) (Option.bind (Ux ([63]:List UInt8) (QG ((-1) - x36.1)) x36.2) fun (x37:(List UInt8))=>Qd (Nat.ble (s31.2.length+([x37]:List ((List UInt8))).length) 1000000000) (some (s31.2++([x37]:List ((List UInt8)))))) (some s31.2)) fun (v35:(List ((List UInt8))))=>some (.next ((QG (s31.1 - 1)),v35))) (some (.done s31.2))) Qt ((QG ((a0.vs.length:Int) - 1)),v13)) fun (v32:(List ((List UInt8))))=>cond (((v32.length:Int)==1)) (Option.bind (Jy v32 0) fun (x38:(List UInt8))=>some (x38,0)) (Option.bind (m141 v32 ([44,32]:List UInt8)) fun (x39:(List UInt8))=>Qd (Nat.ble (([109,97,120,40]:List UInt8).length+x39.length) 1000000000) (Qd (Nat.ble ((([109,97,120,40]:List UInt8)++x39).length+([41]:List UInt8).length) 1000000000) (some (((([109,97,120,40]:List UInt8)++x39)++([41]:List UInt8)),0)))))
noncomputable def k114:KF UV:=⟨[.stc .t82],[.str,.int .i64],fun v=>m114 v⟩
noncomputable def H114:Hints UV:=⟨[(5,⟨[([.reg 20],.bool)],[],false⟩),(6,⟨[([.at 4 0],.app 9 .t9)],[],false⟩),(9,⟨[([.reg 30],.int .i64),([.at 4 0],.app 9 .t9)],[([.at 4 0],.app 9 .t9)],false⟩)],[(7,[4,5,6]),(16,[6,7,8]),(24,[7,8,9])]⟩
theorem k114_ok:Ya DV W0 Tryz.prog 114 k114:=Yy (C:=CV) rfl QK Qw (QJ (tb:=[(62,k62),(136,k136),(139,k139),(141,k141)]) Qw ⟨X0,k136_ok,k139_ok,k141_ok,trivial⟩) (Gz (C:=CV) rfl QK Qw (QJ (tb:=[(62,k62),(136,k136),(139,k139),(141,k141)]) Qw ⟨X0,k136_ok,k139_ok,k141_ok,trivial⟩) JS (I:=[(140,B140_114),(163,B163_114)]) ⟨⟨Tryz.func140,en_140⟩,⟨Tryz.func163,en_163⟩,trivial⟩ 8) Tryz.func114 en_114 H114 k114 rfl (fun v=>by kernel_rfl)
theorem en_63:Qg Tryz.prog 63:=enters_of Tryz.func63 (by kernel_rfl) rfl
def Ds (a0:Lvl):Option ((List UInt8)) :=
 Option.bind (m114 a0) fun (x1:(List UInt8)×Int)=>Qd (Nat.ble (([91]:List UInt8).length+x1.1.length) 1000000000) (Qd (Nat.ble ((([91]:List UInt8)++x1.1).length+([93]:List UInt8).length) 1000000000) (some ((([91]:List UInt8)++x1.1)++([93]:List UInt8))))
noncomputable def k63:KF UV:=⟨[.stc .t82],[.str],fun v=>Ds v⟩
noncomputable def H63:Hints UV:=⟨[],[]⟩
theorem k63_ok:Ya DV W0 Tryz.prog 63 k63:=Yy (C:=CV) rfl QK Qw (QJ (tb:=[(114,k114)]) Qw ⟨k114_ok,trivial⟩) JS Tryz.func63 en_63 H63 k63 rfl (fun v=>by kernel_rfl)
theorem en_28:Qg Tryz.prog 28:=enters_of Tryz.func28 (by kernel_rfl) rfl
theorem en_61:Qg Tryz.prog 61:=enters_of Tryz.func61 (by kernel_rfl) rfl
noncomputable def B61_28:IH UV:=⟨Tryz.f61,⟨[],[]⟩,.st⟩
noncomputable def B64_28:IH UV:=⟨Tryz.f64,⟨[],[]⟩,.st⟩
def Uw (rc:(List Byt)×Tm→Option (((List Byt)×Unit)⊕(Unit×(List Byt)))) (b:List Byt) (a1:Tm):Option (((List Byt)×Unit)⊕(Unit×(List Byt))) :=
 Option.bind (α:=((List Byt))⊕(((List Byt)×Unit)⊕(Unit×(List Byt)))) (cond ((a1.kind==0)) (Option.bind (D8 a1.index) fun (x467:(List UInt8))=>Qd (Nat.ble (([35]:List UInt8).length+x467.length) 1000000000) (Qd (Nat.ble (b.length+(([35]:List UInt8)++x467).length) 1000000000) (some (.inl (b++(List.map (fun b:UInt8=>(⟨b.toNat⟩:Byt)) (([35]:List UInt8)++x467))))))) (Option.bind (α:=((List Byt))⊕(((List Byt)×Unit)⊕(Unit×(List Byt)))) (cond ((a1.kind==12)) (Option.bind (D8 a1.index) fun (x700:(List UInt8))=>Qd (Nat.ble (([63]:List UInt8).length+x700.length) 1000000000) (Qd (Nat.ble (b.length+(([63]:List UInt8)++x700).length) 1000000000) (some (.inl (b++(List.map (fun b:UInt8=>(⟨b.toNat⟩:Byt)) (([63]:List UInt8)++x700))))))) (Option.bind (α:=((List Byt))⊕(((List Byt)×Unit)⊕(Unit×(List Byt)))) (cond ((a1.kind==1)) (Qd (Nat.ble (b.length+([112,114,111,112]:List UInt8).length) 1000000000) (some (.inl (b++(List.map (fun b:UInt8=>(⟨b.toNat⟩:Byt)) ([112,114,111,112]:List UInt8)))))) (Option.bind (α:=((List Byt))⊕(((List Byt)×Unit)⊕(Unit×(List Byt)))) (cond ((a1.kind==2)) (Option.bind (Jy a1.levels 0) fun (x873:Lvl)=>Option.bind (Ds x873) fun (x874:(List UInt8))=>Qd (Nat.ble (([40,115,111,114,116,32]:List UInt8).length+x874.length) 1000000000) (Qd (Nat.ble ((([40,115,111,114,116,32]:List UInt8)++x874).length+([41]:List UInt8).length) 1000000000) (Qd (Nat.ble (b.length+((([40,115,111,114,116,32]:List UInt8)++x874)++([41]:List UInt8)).length) 1000000000) (some (.inl (b++(List.map (fun b:UInt8=>(⟨b.toNat⟩:Byt)) ((([40,115,111,114,116,32]:List UInt8)++x874)++([41]:List UInt8))))))))) (Option.bind (α:=((List Byt))⊕(((List Byt)×Unit)⊕(Unit×(List Byt)))) (cond ((a1.kind==3)) (Option.bind (cond (((a1.levels.length:Int)==0)) (some (!(a1.name==([112,114,111,112]:List UInt8)))) (some false)) fun (v902:Bool)=>cond v902 (Qd (Nat.ble (b.length+a1.name.length) 1000000000) (some (.inr (.inl ((b++(List.map (fun b:UInt8=>(⟨b.toNat⟩:Byt)) a1.name)),()))))) (Qd (Nat.ble (([40,99,111,110,115,116,32]:List UInt8).length+a1.name.length) 1000000000) (Qd (Nat.ble (b.length+(([40,99,111,110,115,116,32]:List UInt8)++a1.name).length) 1000000000) (Option.bind (Qo (σ:=Int×(List Byt)) (β:=(List Byt)) (fun s909=>cond ((decide (s909.1 < (a1.levels.length:Int)))) (Option.bind (Jy a1.levels s909.1) fun (x911:Lvl)=>Option.bind (Ds x911) fun (x912:(List UInt8))=>Qd (Nat.ble (([32]:List UInt8).length+x912.length) 1000000000) (Qd (Nat.ble (s909.2.length+(([32]:List UInt8)++x912).length) 1000000000) (some (.next ((QG (s909.1+1)),(s909.2++(List.map (fun b:UInt8=>(⟨b.toNat⟩:Byt)) (([32]:List UInt8)++x912)))))))) (some (.done s909.2))) Qt (0,(b++(List.map (fun b:UInt8=>(⟨b.toNat⟩:Byt)) (([40,99,111,110,115,116,32]:List UInt8)++a1.name))))) fun (v910:(List Byt))=>Qd (Nat.ble (v910.length+([41]:List UInt8).length) 1000000000) (some (.inl (v910++(List.map (fun b:UInt8=>(⟨b.toNat⟩:Byt)) ([41]:List UInt8))))))))) (Option.bind (Jy ([([97,112,112]:List UInt8),([108,97,109]:List UInt8),([112,105]:List UInt8),([115,105,103,109,97]:List UInt8),([112,97,105,114]:List UInt8),([102,115,116]:List UInt8),([115,110,100]:List UInt8),([108,101,116]:List UInt8)]:List (List UInt8)) (QG (a1.kind - 4))) fun (x913:List UInt8)=>Qd (Nat.ble (([40]:List UInt8).length+x913.length) 1000000000) (Qd (Nat.ble (b.length+(([40]:List UInt8)++x913).length) 1000000000) (Option.bind (Qo (σ:=Int×(List Byt)) (β:=(List Byt)) (fun s923=>cond ((decide (s923.1 < (a1.kids.length:Int)))) (Option.bind (Jy a1.kids s923.1) fun (x925:Tm)=>Qd (Nat.ble (s923.2.length+([32]:List UInt8).length) 1000000000) (Option.bind (K1 (rc ((s923.2++(List.map (fun b:UInt8=>(⟨b.toNat⟩:Byt)) ([32]:List UInt8))),x925))) fun (r926:(List Byt)×Unit)=>some (.next ((QG (s923.1+1)),r926.1)))) (some (.done s923.2))) Qt (0,(b++(List.map (fun b:UInt8=>(⟨b.toNat⟩:Byt)) (([40]:List UInt8)++x913))))) fun (v924:(List Byt))=>Qd (Nat.ble (v924.length+([41]:List UInt8).length) 1000000000) (some (.inl (v924++(List.map (fun b:UInt8=>(⟨b.toNat⟩:Byt)) ([41]:List UInt8))))))))) (Sum.elim (fun (v901:(List Byt))=>some (.inl v901)) (fun (o928:((List Byt)×Unit)⊕(Unit×(List Byt)))=>some (.inr o928))))) (Sum.elim (fun (v872:(List Byt))=>some (.inl v872)) (fun (o929:((List Byt)×Unit)⊕(Unit×(List Byt)))=>some (.inr o929))))) (Sum.elim (fun (v815:(List Byt))=>some (.inl v815)) (fun (o930:((List Byt)×Unit)⊕(Unit×(List Byt)))=>some (.inr o930))))) (Sum.elim (fun (v699:(List Byt))=>some (.inl v699)) (fun (o931:((List Byt)×Unit)⊕(Unit×(List Byt)))=>some (.inr o931))))) (Sum.elim (fun (v466:(List Byt))=>some (.inl (v466,()))) (fun (o932:((List Byt)×Unit)⊕(Unit×(List Byt)))=>some o932))
def m28r:(List Byt)×Tm→Option (((List Byt)×Unit)⊕(Unit×(List Byt))):=Jc (fun rc v=>Uw rc v.1 v.2) Qt
def m28 (b:List Byt) (a1:Tm):Option (((List Byt)×Unit)⊕(Unit×(List Byt))):=m28r (b,a1)
noncomputable def k28:PF UV:=⟨.bld 62 5 .t5,[.stc .t25],[],.p0 62,fun b v=>m28 b v⟩
noncomputable def H28:Hints UV:=⟨[(4,⟨[([.at 0 1],.app 5 .t5)],[],true⟩),(7,⟨[([.at 0 1],.app 5 .t5)],[],true⟩),(10,⟨[([.at 0 1],.app 5 .t5)],[],true⟩),(13,⟨[([.at 0 1],.app 5 .t5)],[],true⟩),(16,⟨[([.at 0 1],.app 5 .t5)],[],true⟩),(17,⟨[([.reg 74],.bool)],[],false⟩),(22,⟨[([.reg 87],.int .i64),([.at 0 1],.app 5 .t5)],[([.at 0 1],.app 5 .t5)],false⟩),(32,⟨[([.reg 21],.int .i64),([.at 0 1],.app 5 .t5)],[([.at 0 1],.app 5 .t5)],false⟩)],[(30,[1,7])]⟩
theorem k28s_ok (rc:(List Byt)×Tm→Option (((List Byt)×Unit)⊕(Unit×(List Byt)))) (H:∀ (u:(List Byt)×Tm) (r:((List Byt)×Unit)⊕(Unit×(List Byt))),rc u=some r→CallO W0 Tryz.prog 28 (.one (.ptr 0 0)::QO DV k28.args u.2) ((WD k28.bx u.1).er DV) (UZ DV k28.bx k28.res k28.pk r)):GH DV W0 Tryz.prog 28 ⟨k28.bx,k28.args,k28.res,k28.pk,fun b v=>Uw rc b v⟩:=Ga (C:=CV) rfl QK Qw (QJ (tb:=[(62,k62),(63,k63)]) Qw ⟨X0,k63_ok,trivial⟩) (Gz (C:=CV) rfl QK Qw (QJ (tb:=[(62,k62),(63,k63)]) Qw ⟨X0,k63_ok,trivial⟩) (Km cc_ok (ZD (tb:=[(28,(⟨k28.bx,k28.args,k28.res,k28.pk,fun b v=>rc (b,v)⟩:PF UV))]) Qw ⟨⟨⟨rfl,rfl⟩,fun b v y h=>H (b,v) y h⟩,trivial⟩)) (I:=[(61,B61_28),(64,B64_28)]) ⟨⟨Tryz.func61,en_61⟩,⟨Tryz.func64,en_64⟩,trivial⟩ 8) Tryz.func28 en_28 H28 _ rfl rfl (fun b v=>by kernel_rfl)
theorem k28_ok:GH DV W0 Tryz.prog 28 k28:=⟨⟨rfl,rfl⟩,fun b v r h=>Y6 (C:=fun (u:(List Byt)×Tm) (r:((List Byt)×Unit)⊕(Unit×(List Byt)))=>CallO W0 Tryz.prog 28 (.one (.ptr 0 0)::QO DV k28.args u.2) ((WD k28.bx u.1).er DV) (UZ DV k28.bx k28.res k28.pk r)) (fun rc H u r h=>(k28s_ok rc H).2 u.1 u.2 r h) Qt (b,v) r h⟩
theorem en_13:Qg Tryz.prog 13:=enters_of Tryz.func13 (by kernel_rfl) rfl
theorem en_29:Qg Tryz.prog 29:=enters_of Tryz.func29 (by kernel_rfl) rfl
noncomputable def B28_13:IH UV:=⟨Tryz.f28,⟨[(17,⟨[([.reg 74],.bool)],[],false⟩),(22,⟨[([.reg 87],.int .i64),([.at 0 1],.app 5 .t5)],[([.at 0 1],.app 5 .t5)],false⟩),(32,⟨[([.reg 21],.int .i64),([.at 0 1],.app 5 .t5)],[([.at 0 1],.app 5 .t5)],false⟩)],[(30,[1,7])]⟩,.st⟩
noncomputable def B29_13:IH UV:=⟨Tryz.f29,⟨[],[]⟩,.lab [([.reg 2],.int .i64)]⟩
noncomputable def B61_13:IH UV:=⟨Tryz.f61,⟨[],[]⟩,.st⟩
noncomputable def B64_13:IH UV:=⟨Tryz.f64,⟨[],[]⟩,.st⟩
def Dt (a0:Tm):Option ((List UInt8)×Int) :=
 Option.bind (Dx a0 1000000 1000000 1000000 1000000) fun (x1:Int)=>cond ((x1 != 0)) (some (([]:List UInt8),x1)) (cond ((a0.kind==0)) (Option.bind (D8 a0.index) fun (x2:(List UInt8))=>Qd (Nat.ble (([35]:List UInt8).length+x2.length) 1000000000) (Qd (Nat.ble (([35]:List UInt8)++x2).length 1000000000) (Option.bind (some ((List.map (fun b:UInt8=>(⟨b.toNat⟩:Byt)) (([35]:List UInt8)++x2)).length:Int)) fun (v3:Int)=>cond ((decide (65536 < v3))) (some (([]:List UInt8),5)) (Qd (cond (List.all (List.map (fun b:UInt8=>(⟨b.toNat⟩:Byt)) (([35]:List UInt8)++x2)) (fun x:Byt=>cond (decide (0≤x.n)) (decide (x.n < 256)) false)) (!(List.isEmpty (List.map (fun b:UInt8=>(⟨b.toNat⟩:Byt)) (([35]:List UInt8)++x2)))) false) (some ((List.map Byt.u8 (List.map (fun b:UInt8=>(⟨b.toNat⟩:Byt)) (([35]:List UInt8)++x2))),0)))))) (cond ((a0.kind==12)) (Option.bind (D8 a0.index) fun (x4:(List UInt8))=>Qd (Nat.ble (([63]:List UInt8).length+x4.length) 1000000000) (Qd (Nat.ble (([63]:List UInt8)++x4).length 1000000000) (Option.bind (some ((List.map (fun b:UInt8=>(⟨b.toNat⟩:Byt)) (([63]:List UInt8)++x4)).length:Int)) fun (v5:Int)=>cond ((decide (65536 < v5))) (some (([]:List UInt8),5)) (Qd (cond (List.all (List.map (fun b:UInt8=>(⟨b.toNat⟩:Byt)) (([63]:List UInt8)++x4)) (fun x:Byt=>cond (decide (0≤x.n)) (decide (x.n < 256)) false)) (!(List.isEmpty (List.map (fun b:UInt8=>(⟨b.toNat⟩:Byt)) (([63]:List UInt8)++x4)))) false) (some ((List.map Byt.u8 (List.map (fun b:UInt8=>(⟨b.toNat⟩:Byt)) (([63]:List UInt8)++x4))),0)))))) (cond ((a0.kind==1)) (Qd (Nat.ble ([112,114,111,112]:List UInt8).length 1000000000) (Option.bind (some ((List.map (fun b:UInt8=>(⟨b.toNat⟩:Byt)) ([112,114,111,112]:List UInt8)).length:Int)) fun (v6:Int)=>cond ((decide (65536 < v6))) (some (([]:List UInt8),5)) (Qd (cond (List.all (List.map (fun b:UInt8=>(⟨b.toNat⟩:Byt)) ([112,114,111,112]:List UInt8)) (fun x:Byt=>cond (decide (0≤x.n)) (decide (x.n < 256)) false)) (!(List.isEmpty (List.map (fun b:UInt8=>(⟨b.toNat⟩:Byt)) ([112,114,111,112]:List UInt8)))) false) (some ((List.map Byt.u8 (List.map (fun b:UInt8=>(⟨b.toNat⟩:Byt)) ([112,114,111,112]:List UInt8))),0))))) (cond ((a0.kind==2)) (Option.bind (Jy a0.levels 0) fun (x7:Lvl)=>Option.bind (Ds x7) fun (x8:(List UInt8))=>Qd (Nat.ble (([40,115,111,114,116,32]:List UInt8).length+x8.length) 1000000000) (Qd (Nat.ble ((([40,115,111,114,116,32]:List UInt8)++x8).length+([41]:List UInt8).length) 1000000000) (Qd (Nat.ble ((([40,115,111,114,116,32]:List UInt8)++x8)++([41]:List UInt8)).length 1000000000) (Option.bind (some ((List.map (fun b:UInt8=>(⟨b.toNat⟩:Byt)) ((([40,115,111,114,116,32]:List UInt8)++x8)++([41]:List UInt8))).length:Int)) fun (v9:Int)=>cond ((decide (65536 < v9))) (some (([]:List UInt8),5)) (Qd (cond (List.all (List.map (fun b:UInt8=>(⟨b.toNat⟩:Byt)) ((([40,115,111,114,116,32]:List UInt8)++x8)++([41]:List UInt8))) (fun x:Byt=>cond (decide (0≤x.n)) (decide (x.n < 256)) false)) (!(List.isEmpty (List.map (fun b:UInt8=>(⟨b.toNat⟩:Byt)) ((([40,115,111,114,116,32]:List UInt8)++x8)++([41]:List UInt8))))) false) (some ((List.map Byt.u8 (List.map (fun b:UInt8=>(⟨b.toNat⟩:Byt)) ((([40,115,111,114,116,32]:List UInt8)++x8)++([41]:List UInt8)))),0))))))) (cond ((a0.kind==3)) (Option.bind (cond (((a0.levels.length:Int)==0)) (some (!(a0.name==([112,114,111,112]:List UInt8)))) (some false)) fun (v10:Bool)=>cond v10 (Qd (Nat.ble a0.name.length 1000000000) (Option.bind (some ((List.map (fun b:UInt8=>(⟨b.toNat⟩:Byt)) a0.name).length:Int)) fun (v11:Int)=>cond ((decide (65536 < v11))) (some (([]:List UInt8),5)) (Qd (cond (List.all (List.map (fun b:UInt8=>(⟨b.toNat⟩:Byt)) a0.name) (fun x:Byt=>cond (decide (0≤x.n)) (decide (x.n < 256)) false)) (!(List.isEmpty (List.map (fun b:UInt8=>(⟨b.toNat⟩:Byt)) a0.name))) false) (some ((List.map Byt.u8 (List.map (fun b:UInt8=>(⟨b.toNat⟩:Byt)) a0.name)),0))))) (Qd (Nat.ble (([40,99,111,110,115,116,32]:List UInt8).length+a0.name.length) 1000000000) (Qd (Nat.ble (([40,99,111,110,115,116,32]:List UInt8)++a0.name).length 1000000000) (Option.bind (Qo (σ:=Int×(List Byt)) (β:=(List Byt)) (fun s18=>cond ((decide (s18.1 < (a0.levels.length:Int)))) (Option.bind (Jy a0.levels s18.1) fun (x20:Lvl)=>Option.bind (Ds x20) fun (x21:(List UInt8))=>Qd (Nat.ble (([32]:List UInt8).length+x21.length) 1000000000) (Qd (Nat.ble (s18.2.length+(([32]:List UInt8)++x21).length) 1000000000) (some (.next ((QG (s18.1+1)),(s18.2++(List.map (fun b:UInt8=>(⟨b.toNat⟩:Byt)) (([32]:List UInt8)++x21)))))))) (some (.done s18.2))) Qt (0,(List.map (fun b:UInt8=>(⟨b.toNat⟩:Byt)) (([40,99,111,110,115,116,32]:List UInt8)++a0.name)))) fun (v19:(List Byt))=>Qd (Nat.ble (v19.length+([41]:List UInt8).length) 1000000000) (Option.bind (some ((v19++(List.map (fun b:UInt8=>(⟨b.toNat⟩:Byt)) ([41]:List UInt8))).length:Int)) fun (v22:Int)=>cond ((decide (65536 < v22))) (some (([]:List UInt8),5)) (Qd (cond (List.all (v19++(List.map (fun b:UInt8=>(⟨b.toNat⟩:Byt)) ([41]:List UInt8))) (fun x:Byt=>cond (decide (0≤x.n)) (decide (x.n < 256)) false)) (!(List.isEmpty (v19++(List.map (fun b:UInt8=>(⟨b.toNat⟩:Byt)) ([41]:List UInt8))))) false) (some ((List.map Byt.u8 (v19++(List.map (fun b:UInt8=>(⟨b.toNat⟩:Byt)) ([41]:List UInt8)))),0)))))))) (Option.bind (Jy ([([97,112,112]:List UInt8),([108,97,109]:List UInt8),([112,105]:List UInt8),([115,105,103,109,97]:List UInt8),([112,97,105,114]:List UInt8),([102,115,116]:List UInt8),([115,110,100]:List UInt8),([108,101,116]:List UInt8)]:List (List UInt8)) (QG (a0.kind - 4))) fun (x23:List UInt8)=>Qd (Nat.ble (([40]:List UInt8).length+x23.length) 1000000000) (Qd (Nat.ble (([40]:List UInt8)++x23).length 1000000000) (Option.bind (Qo (σ:=Int×(List Byt)) (β:=(List Byt)) (fun s33=>cond ((decide (s33.1 < (a0.kids.length:Int)))) (Option.bind (Jy a0.kids s33.1) fun (x35:Tm)=>Qd (Nat.ble (s33.2.length+([32]:List UInt8).length) 1000000000) (Option.bind (K1 (m28 (s33.2++(List.map (fun b:UInt8=>(⟨b.toNat⟩:Byt)) ([32]:List UInt8))) x35)) fun (r36:(List Byt)×Unit)=>some (.next ((QG (s33.1+1)),r36.1)))) (some (.done s33.2))) Qt (0,(List.map (fun b:UInt8=>(⟨b.toNat⟩:Byt)) (([40]:List UInt8)++x23)))) fun (v34:(List Byt))=>Qd (Nat.ble (v34.length+([41]:List UInt8).length) 1000000000) (Option.bind (some ((v34++(List.map (fun b:UInt8=>(⟨b.toNat⟩:Byt)) ([41]:List UInt8))).length:Int)) fun (v38:Int)=>cond ((decide (65536 < v38))) (some (([]:List UInt8),5)) (Qd (cond (List.all (v34++(List.map (fun b:UInt8=>(⟨b.toNat⟩:Byt)) ([41]:List UInt8))) (fun x:Byt=>cond (decide (0≤x.n)) (decide (x.n < 256)) false)) (!(List.isEmpty (v34++(List.map (fun b:UInt8=>(⟨b.toNat⟩:Byt)) ([41]:List UInt8))))) false) (some ((List.map Byt.u8 (v34++(List.map (fun b:UInt8=>(⟨b.toNat⟩:Byt)) ([41]:List UInt8)))),0))))))))))))
noncomputable def k13:KF UV:=⟨[.stc .t25],[.str,.int .i64],fun v=>Dt v⟩
noncomputable def H13:Hints UV:=⟨[],[]⟩
theorem k13_ok:Ya DV W0 Tryz.prog 13 k13:=Yy (C:=CV) rfl QK Qw (QJ (tb:=[(27,k27),(62,k62),(63,k63)]) Qw ⟨k27_ok,X0,k63_ok,trivial⟩) (Gz (C:=CV) rfl QK Qw (QJ (tb:=[(27,k27),(62,k62),(63,k63)]) Qw ⟨k27_ok,X0,k63_ok,trivial⟩) (Km cc_ok (Km st_ok (ZD (tb:=[(28,k28)]) Qw ⟨k28_ok,trivial⟩))) (I:=[(28,B28_13),(29,B29_13),(61,B61_13),(64,B64_13)]) ⟨⟨Tryz.func28,en_28⟩,⟨Tryz.func29,en_29⟩,⟨Tryz.func61,en_61⟩,⟨Tryz.func64,en_64⟩,trivial⟩ 8) Tryz.func13 en_13 H13 k13 rfl (fun v=>by kernel_rfl)
theorem en_15:Qg Tryz.prog 15:=enters_of Tryz.func15 (by kernel_rfl) rfl
theorem en_33:Qg Tryz.prog 33:=enters_of Tryz.func33 (by kernel_rfl) rfl
theorem en_34:Qg Tryz.prog 34:=enters_of Tryz.func34 (by kernel_rfl) rfl
theorem en_35:Qg Tryz.prog 35:=enters_of Tryz.func35 (by kernel_rfl) rfl
theorem en_71:Qg Tryz.prog 71:=enters_of Tryz.func71 (by kernel_rfl) rfl
theorem en_121:Qg Tryz.prog 121:=enters_of Tryz.func121 (by kernel_rfl) rfl
noncomputable def B33_15:IH UV:=⟨Tryz.f33,⟨[],[(4,[5,6,7])]⟩,.st⟩
noncomputable def B34_15:IH UV:=⟨Tryz.f34,⟨[],[]⟩,.st⟩
noncomputable def B35_15:IH UV:=⟨Tryz.f35,⟨[],[(6,[6,7,10])]⟩,.st⟩
noncomputable def B71_15:IH UV:=⟨Tryz.f71,⟨[],[]⟩,.st⟩
noncomputable def B121_15:IH UV:=⟨Tryz.f121,⟨[(1,⟨[([.reg 3],.int .i64),([.fat 0 6 0],.app 132 .t132)],[],true⟩),(3,⟨[([.reg 3],.int .i64)],[([.reg 3],.int .i64)],false⟩),(4,⟨[([.reg 15],.bool)],[],false⟩),(10,⟨[([.reg 4],.int .i64)],[],false⟩)],[]⟩,.lab [([.fat 0 6 0],.app 132 .t132)]⟩
def m15 (a0:List UInt8):Option (Tm×Int×Int) :=
 cond ((decide (65536 < (a0.length:Int)))) (some ((Tm.mk 0 0 ([]:List UInt8) ([]) ([])),0,5)) (Option.bind (Option.bind (Qo (σ:=Int×(List Tkn)) (β:=Unit⊕((List Tkn))) (fun s42=>Option.bind (Qo (σ:=Int) (β:=Int) (fun s54=>Option.bind (cond ((decide (s54 < (a0.length:Int)))) (Option.bind (Jy a0 s54) fun (x59:UInt8)=>Option.bind (m122 ([32,9,13,10]:List UInt8) (x59.toNat:Int)) fun (x60:Int)=>some (decide (0≤x60))) (some false)) fun (v58:Bool)=>cond v58 (some (.next (QG (s54+1)))) (some (.done s54))) Qt s42.1) fun (v55:Int)=>Option.bind (cond ((decide (v55 < (a0.length:Int)))) (Option.bind (m123 a0 v55) fun (x63:Int)=>some x63) (some v55)) fun (v62:Int)=>Qd (cond (decide (0≤v55)) (cond (Nat.ble v55.toNat v62.toNat) (US v62 a0.length) false) false) (Qd (Nat.ble (s42.2.length+([(Tkn.mk (List.drop v55.toNat (List.take v62.toNat a0)) v55)]:List Tkn).length) 1000000000) (cond ((v62==v55)) (some (.done (.inr (s42.2++([(Tkn.mk (List.drop v55.toNat (List.take v62.toNat a0)) v55)]:List Tkn))))) (some (.next (v62,(s42.2++([(Tkn.mk (List.drop v55.toNat (List.take v62.toNat a0)) v55)]:List Tkn)))))))) Qt (0,([]:List Tkn))) (Sum.elim (fun (v43:Unit)=>some ([]:List Tkn)) (fun (o64:(List Tkn))=>some o64))) fun (v1:(List Tkn))=>Option.bind (m36 (Rdr.mk v1 0)) (Sum.elim (fun (r65:Rdr×Tm)=>Option.bind (m37 r65.1 a0) (Sum.elim (fun (r67:Rdr×Unit)=>Option.bind (Dt r65.2) fun (x69:(List UInt8)×Int)=>cond ((x69.2 != 0)) (some ((Tm.mk 0 0 ([]:List UInt8) ([]) ([])),0,x69.2)) (some (r65.2,0,0))) (fun (e68:(Int×Int)×Rdr)=>some ((Tm.mk 0 0 ([]:List UInt8) ([]) ([])),e68.1.2,e68.1.1)))) (fun (e66:(Int×Int)×Rdr)=>some ((Tm.mk 0 0 ([]:List UInt8) ([]) ([])),e66.1.2,e66.1.1))))
noncomputable def k15:KF UV:=⟨[.str],[.stc .t25,.int .i64,.int .i64],fun v=>m15 v⟩
noncomputable def H15:Hints UV:=⟨[],[]⟩
theorem k15_ok:Ya DV W0 Tryz.prog 15 k15:=Yy (C:=CV) rfl QK Qw (QJ (tb:=[(13,k13),(122,k122),(123,k123)]) Qw ⟨k13_ok,k122_ok,k123_ok,trivial⟩) (Gz (C:=CV) rfl QK Qw (QJ (tb:=[(13,k13),(122,k122),(123,k123)]) Qw ⟨k13_ok,k122_ok,k123_ok,trivial⟩) (ZE (tb:=[(36,k36),(37,k37)]) Qw ⟨k36_ok,k37_ok,trivial⟩) (I:=[(33,B33_15),(34,B34_15),(35,B35_15),(71,B71_15),(121,B121_15)]) ⟨⟨Tryz.func33,en_33⟩,⟨Tryz.func34,en_34⟩,⟨Tryz.func35,en_35⟩,⟨Tryz.func71,en_71⟩,⟨Tryz.func121,en_121⟩,trivial⟩ 8) Tryz.func15 en_15 H15 k15 rfl (fun v=>by kernel_rfl)
end Go.Proofs.YtjcfppnjamjjhaaGreatDoor
namespace Go.Proofs.YtjcfppnjamjjhaaGreatDoor
open Go.RowKit
set_option maxRecDepth 100000
theorem en_119:Qg Tryz.prog 119:=enters_of Tryz.func119 (by kernel_rfl) rfl
def Uc (rc:Int→Option ((List UInt8))) (a0:Int):Option ((List UInt8)) :=
 cond ((decide (a0 < 10))) (some (List.map Byt.u8 ([(Byt.mk (IntKind.wrap .u8 (48+(IntKind.wrap .u8 a0))))]:List Byt))) (Option.bind (rc (QG (Int.tdiv a0 10))) fun (x1:(List UInt8))=>Qd (!(10==0)) (Qd (Nat.ble (x1.length+(List.map Byt.u8 ([(Byt.mk (IntKind.wrap .u8 (48+(IntKind.wrap .u8 (Int.tmod a0 10)))))]:List Byt)).length) 1000000000) (some (x1++(List.map Byt.u8 ([(Byt.mk (IntKind.wrap .u8 (48+(IntKind.wrap .u8 (Int.tmod a0 10)))))]:List Byt))))))
def m119r:Int→Option ((List UInt8)):=Jc (fun rc v=>Uc rc v) Qt
def UN (a0:Int):Option ((List UInt8)):=m119r a0
noncomputable def k119:KF UV:=⟨[.int .i64],[.str],fun v=>UN v⟩
noncomputable def H119:Hints UV:=⟨[],[(4,[7])]⟩
theorem k119s_ok (rc:tup k119.args→Option (tup k119.res)) (H:∀ u r,rc u=some r→FunW W0 Tryz.prog 119 (QO DV k119.args u) (Qu (QO DV k119.res r))):Ya DV W0 Tryz.prog 119 ⟨k119.args,k119.res,fun v=>Uc rc v⟩:=Yy (C:=CV) rfl QK Qw (QJ (tb:=[(119,(⟨k119.args,k119.res,rc⟩:KF UV))]) Qw ⟨⟨rfl,H⟩,trivial⟩) JS Tryz.func119 en_119 H119 _ rfl (fun v=>by kernel_rfl)
theorem k119_ok:Ya DV W0 Tryz.prog 119 k119:=⟨rfl,fun v r h=>Y6 (C:=fun u r=>FunW W0 Tryz.prog 119 (QO DV k119.args u) (Qu (QO DV k119.res r))) (fun rc H u r h=>(k119s_ok rc H).2 u r h) Qt v r h⟩
theorem en_120:Qg Tryz.prog 120:=enters_of Tryz.func120 (by kernel_rfl) rfl
def Uy (a0:List UInt8) (a1:Int) (a2:Int):Option ((List UInt8)) :=
 Option.bind (UN a1) fun (x1:(List UInt8))=>Qd (Nat.ble (a0.length+x1.length) 1000000000) (Option.bind (cond ((decide (0 < a2))) (Option.bind (UN a2) fun (x4:(List UInt8))=>Qd (Nat.ble (([32,43,32]:List UInt8).length+x4.length) 1000000000) (Qd (Nat.ble ((a0++x1).length+(([32,43,32]:List UInt8)++x4).length) 1000000000) (some ((a0++x1)++(([32,43,32]:List UInt8)++x4))))) (some (a0++x1))) fun (v3:(List UInt8))=>some v3)
noncomputable def k120:KF UV:=⟨[.str,.int .i64,.int .i64],[.str],fun v=>Uy v.1 v.2.1 v.2.2⟩
noncomputable def H120:Hints UV:=⟨[(3,⟨[([.reg 7],.str)],[],false⟩)],[]⟩
theorem k120_ok:Ya DV W0 Tryz.prog 120 k120:=Yy (C:=CV) rfl QK Qw (QJ (tb:=[(119,k119)]) Qw ⟨k119_ok,trivial⟩) JS Tryz.func120 en_120 H120 k120 rfl (fun v=>by kernel_rfl)
theorem en_69:Qg Tryz.prog 69:=enters_of Tryz.func69 (by kernel_rfl) rfl
def DF (a0:Lvl):Option ((List UInt8)×Int) :=
 Option.bind (Ud a0) fun (x1:Bool)=>cond ((!x1)) (some (([]:List UInt8),3)) (Option.bind (cond ((decide (0 < a0.c))) (some true) (some ((a0.vs.length:Int)==0))) fun (v2:Bool)=>Option.bind (cond v2 (Option.bind (UN a0.c) fun (x5:(List UInt8))=>Qd (Nat.ble (([]:List ((List UInt8))).length+([x5]:List ((List UInt8))).length) 1000000000) (some (([]:List ((List UInt8)))++([x5]:List ((List UInt8)))))) (some ([]:List ((List UInt8))))) fun (v4:(List ((List UInt8))))=>Option.bind (Qo (σ:=(List ((List UInt8)))×Int) (β:=(List ((List UInt8)))) (fun s14=>cond ((decide (s14.2 < (a0.vs.length:Int)))) (Option.bind (Jy a0.vs s14.2) fun (x16:LV)=>cond ((decide (0≤x16.1))) (Option.bind (Jy a0.vs s14.2) fun (x17:LV)=>Option.bind (Jy a0.vs s14.2) fun (x18:LV)=>Option.bind (Uy ([117]:List UInt8) x17.1 x18.2) fun (x19:(List UInt8))=>Qd (Nat.ble (s14.1.length+([x19]:List ((List UInt8))).length) 1000000000) (some (.next ((s14.1++([x19]:List ((List UInt8)))),(QG (s14.2+1)))))) (some (.next (s14.1,(QG (s14.2+1)))))) (some (.done s14.1))) Qt (v4,0)) fun (v15:(List ((List UInt8))))=>Option.bind (Qo (σ:=(List ((List UInt8)))×Int) (β:=(List ((List UInt8)))) (fun s28=>cond ((decide (0≤s28.2))) (Option.bind (Jy a0.vs s28.2) fun (x30:LV)=>cond ((decide (x30.1 < 0))) (Option.bind (Jy a0.vs s28.2) fun (x31:LV)=>Option.bind (Jy a0.vs s28.2) fun (x32:LV)=>Option.bind (Uy ([63]:List UInt8) (QG ((-1) - x31.1)) x32.2) fun (x33:(List UInt8))=>Qd (Nat.ble (s28.1.length+([x33]:List ((List UInt8))).length) 1000000000) (some (.next ((s28.1++([x33]:List ((List UInt8)))),(QG (s28.2 - 1)))))) (some (.next (s28.1,(QG (s28.2 - 1)))))) (some (.done s28.1))) Qt (v15,(QG ((a0.vs.length:Int) - 1)))) fun (v29:(List ((List UInt8))))=>cond (((v29.length:Int)==1)) (Option.bind (Jy v29 0) fun (x34:(List UInt8))=>some (x34,0)) (Option.bind (Qo (σ:=(List UInt8)×Int) (β:=(List UInt8)) (fun s39=>cond ((decide (s39.2 < (v29.length:Int)))) (Option.bind (cond ((decide (0 < s39.2))) (Qd (Nat.ble (s39.1.length+([44,32]:List UInt8).length) 1000000000) (some (s39.1++([44,32]:List UInt8)))) (some s39.1)) fun (v41:(List UInt8))=>Option.bind (Jy v29 s39.2) fun (x42:(List UInt8))=>Qd (Nat.ble (v41.length+x42.length) 1000000000) (some (.next ((v41++x42),(QG (s39.2+1)))))) (some (.done s39.1))) Qt (([109,97,120,40]:List UInt8),0)) fun (v40:(List UInt8))=>Qd (Nat.ble (v40.length+([41]:List UInt8).length) 1000000000) (some ((v40++([41]:List UInt8)),0))))
noncomputable def k69:KF UV:=⟨[.stc .t82],[.str,.int .i64],fun v=>DF v⟩
noncomputable def H69:Hints UV:=⟨[(5,⟨[([.reg 20],.bool)],[],false⟩),(6,⟨[([.reg 4],.app 9 .t9)],[],false⟩),(9,⟨[([.reg 4],.app 9 .t9),([.reg 5],.int .i64)],[([.reg 4],.app 9 .t9)],false⟩),(18,⟨[([.reg 4],.app 9 .t9),([.reg 6],.int .i64)],[([.reg 4],.app 9 .t9)],false⟩),(31,⟨[([.reg 7],.str),([.reg 8],.int .i64)],[([.reg 7],.str)],false⟩),(36,⟨[([.reg 7],.str)],[],false⟩)],[(15,[14,15]),(24,[15,16])]⟩
theorem k69_ok:Ya DV W0 Tryz.prog 69 k69:=Yy (C:=CV) rfl QK Qw (QJ (tb:=[(118,k118),(119,k119),(120,k120)]) Qw ⟨k118_ok,k119_ok,k120_ok,trivial⟩) JS Tryz.func69 en_69 H69 k69 rfl (fun v=>by kernel_rfl)
theorem en_68:Qg Tryz.prog 68:=enters_of Tryz.func68 (by kernel_rfl) rfl
def UL (rc:Int→Option ((List UInt8))) (a0:Int):Option ((List UInt8)) :=
 cond ((decide (a0 < 10))) (Qd (cond (decide (0≤a0)) (cond (Nat.ble a0.toNat (QG (a0+1)).toNat) (US (QG (a0+1)) ([48,49,50,51,52,53,54,55,56,57]:List UInt8).length) false) false) (some (List.drop a0.toNat (List.take (QG (a0+1)).toNat ([48,49,50,51,52,53,54,55,56,57]:List UInt8))))) (Option.bind (rc (QG (Int.tdiv a0 10))) fun (x1:(List UInt8))=>Qd (!(10==0)) (Option.bind (rc (Int.tmod a0 10)) fun (x2:(List UInt8))=>Qd (Nat.ble (x1.length+x2.length) 1000000000) (some (x1++x2))))
def m68r:Int→Option ((List UInt8)):=Jc (fun rc v=>UL rc v) Qt
def m68 (a0:Int):Option ((List UInt8)):=m68r a0
noncomputable def k68:KF UV:=⟨[.int .i64],[.str],fun v=>m68 v⟩
noncomputable def H68:Hints UV:=⟨[],[]⟩
theorem k68s_ok (rc:tup k68.args→Option (tup k68.res)) (H:∀ u r,rc u=some r→FunW W0 Tryz.prog 68 (QO DV k68.args u) (Qu (QO DV k68.res r))):Ya DV W0 Tryz.prog 68 ⟨k68.args,k68.res,fun v=>UL rc v⟩:=Yy (C:=CV) rfl QK Qw (QJ (tb:=[(68,(⟨k68.args,k68.res,rc⟩:KF UV))]) Qw ⟨⟨rfl,H⟩,trivial⟩) JS Tryz.func68 en_68 H68 _ rfl (fun v=>by kernel_rfl)
theorem k68_ok:Ya DV W0 Tryz.prog 68 k68:=⟨rfl,fun v r h=>Y6 (C:=fun u r=>FunW W0 Tryz.prog 68 (QO DV k68.args u) (Qu (QO DV k68.res r))) (fun rc H u r h=>(k68s_ok rc H).2 u r h) Qt v r h⟩
theorem en_70:Qg Tryz.prog 70:=enters_of Tryz.func70 (by kernel_rfl) rfl
def m70 (a0:Int):Option ((List UInt8)) :=
 Option.bind (cond ((decide (a0 < 4))) (some true) (some (decide (11 < a0)))) fun (v1:Bool)=>cond v1 (some ([]:List UInt8)) (Option.bind (Jy ([([97,112,112]:List UInt8),([108,97,109]:List UInt8),([112,105]:List UInt8),([115,105,103,109,97]:List UInt8),([112,97,105,114]:List UInt8),([102,115,116]:List UInt8),([115,110,100]:List UInt8),([108,101,116]:List UInt8)]:List ((List UInt8))) (QG (a0 - 4))) fun (x2:(List UInt8))=>some x2)
noncomputable def k70:KF UV:=⟨[.int .i64],[.str],fun v=>m70 v⟩
noncomputable def H70:Hints UV:=⟨[(2,⟨[([.reg 10],.bool)],[],false⟩)],[]⟩
theorem k70_ok:Ya DV W0 Tryz.prog 70 k70:=Yy (C:=CV) rfl QK Qw (QJ (tb:=[]) Qw trivial) JS Tryz.func70 en_70 H70 k70 rfl (fun v=>by kernel_rfl)
theorem en_32:Qg Tryz.prog 32:=enters_of Tryz.func32 (by kernel_rfl) rfl
def Uv (rc:Tm→Option ((List UInt8))) (a0:Tm):Option ((List UInt8)) :=
 cond ((a0.kind==0)) (Option.bind (m68 a0.index) fun (x1:(List UInt8))=>Qd (Nat.ble (([35]:List UInt8).length+x1.length) 1000000000) (some (([35]:List UInt8)++x1))) (cond ((a0.kind==12)) (Option.bind (m68 a0.index) fun (x2:(List UInt8))=>Qd (Nat.ble (([63]:List UInt8).length+x2.length) 1000000000) (some (([63]:List UInt8)++x2))) (cond ((a0.kind==1)) (some ([112,114,111,112]:List UInt8)) (cond ((a0.kind==2)) (Option.bind (Jy a0.levels 0) fun (x3:Lvl)=>Option.bind (DF x3) fun (x4:(List UInt8)×Int)=>Qd (Nat.ble (([40,115,111,114,116,32,91]:List UInt8).length+x4.1.length) 1000000000) (Qd (Nat.ble ((([40,115,111,114,116,32,91]:List UInt8)++x4.1).length+([93,41]:List UInt8).length) 1000000000) (some ((([40,115,111,114,116,32,91]:List UInt8)++x4.1)++([93,41]:List UInt8))))) (cond ((a0.kind==3)) (Option.bind (cond (((a0.levels.length:Int)==0)) (some (!(a0.name==([112,114,111,112]:List UInt8)))) (some false)) fun (v5:Bool)=>cond v5 (some a0.name) (Qd (Nat.ble (([40,99,111,110,115,116,32]:List UInt8).length+a0.name.length) 1000000000) (Option.bind (Qo (σ:=(List UInt8)×Int) (β:=(List UInt8)) (fun s10=>cond ((decide (s10.2 < (a0.levels.length:Int)))) (Option.bind (Jy a0.levels s10.2) fun (x12:Lvl)=>Option.bind (DF x12) fun (x13:(List UInt8)×Int)=>Qd (Nat.ble (([32,91]:List UInt8).length+x13.1.length) 1000000000) (Qd (Nat.ble ((([32,91]:List UInt8)++x13.1).length+([93]:List UInt8).length) 1000000000) (Qd (Nat.ble (s10.1.length+((([32,91]:List UInt8)++x13.1)++([93]:List UInt8)).length) 1000000000) (some (.next ((s10.1++((([32,91]:List UInt8)++x13.1)++([93]:List UInt8))),(QG (s10.2+1)))))))) (some (.done s10.1))) Qt ((([40,99,111,110,115,116,32]:List UInt8)++a0.name),0)) fun (v11:(List UInt8))=>Qd (Nat.ble (v11.length+([41]:List UInt8).length) 1000000000) (some (v11++([41]:List UInt8)))))) (Option.bind (m70 a0.kind) fun (x14:(List UInt8))=>Qd (Nat.ble (([40]:List UInt8).length+x14.length) 1000000000) (Option.bind (Qo (σ:=(List UInt8)×Int) (β:=(List UInt8)) (fun s19=>cond ((decide (s19.2 < (a0.kids.length:Int)))) (Option.bind (Jy a0.kids s19.2) fun (x21:Tm)=>Option.bind (rc x21) fun (x22:(List UInt8))=>Qd (Nat.ble (([32]:List UInt8).length+x22.length) 1000000000) (Qd (Nat.ble (s19.1.length+(([32]:List UInt8)++x22).length) 1000000000) (some (.next ((s19.1++(([32]:List UInt8)++x22)),(QG (s19.2+1))))))) (some (.done s19.1))) Qt ((([40]:List UInt8)++x14),0)) fun (v20:(List UInt8))=>Qd (Nat.ble (v20.length+([41]:List UInt8).length) 1000000000) (some (v20++([41]:List UInt8)))))))))
def m32r:Tm→Option ((List UInt8)):=Jc (fun rc v=>Uv rc v) Qt
def m32 (a0:Tm):Option ((List UInt8)):=m32r a0
noncomputable def k32:KF UV:=⟨[.stc .t25],[.str],fun v=>m32 v⟩
noncomputable def H32:Hints UV:=⟨[(18,⟨[([.reg 50],.bool)],[],false⟩),(23,⟨[([.reg 5],.str),([.reg 6],.int .i64)],[([.reg 5],.str)],false⟩),(33,⟨[([.reg 9],.str),([.reg 10],.int .i64)],[([.reg 9],.str)],false⟩)],[]⟩
theorem k32s_ok (rc:tup k32.args→Option (tup k32.res)) (H:∀ u r,rc u=some r→FunW W0 Tryz.prog 32 (QO DV k32.args u) (Qu (QO DV k32.res r))):Ya DV W0 Tryz.prog 32 ⟨k32.args,k32.res,fun v=>Uv rc v⟩:=Yy (C:=CV) rfl QK Qw (QJ (tb:=[(32,(⟨k32.args,k32.res,rc⟩:KF UV)),(68,k68),(69,k69),(70,k70)]) Qw ⟨⟨rfl,H⟩,k68_ok,k69_ok,k70_ok,trivial⟩) JS Tryz.func32 en_32 H32 _ rfl (fun v=>by kernel_rfl)
theorem k32_ok:Ya DV W0 Tryz.prog 32 k32:=⟨rfl,fun v r h=>Y6 (C:=fun u r=>FunW W0 Tryz.prog 32 (QO DV k32.args u) (Qu (QO DV k32.res r))) (fun rc H u r h=>(k32s_ok rc H).2 u r h) Qt v r h⟩
theorem en_14:Qg Tryz.prog 14:=enters_of Tryz.func14 (by kernel_rfl) rfl
def DN (a0:Tm):Option ((List UInt8)×Int) :=
 Option.bind (Dn a0 1000000 1000000 1000000 1000000) fun (x1:Int)=>cond ((x1 != 0)) (some (([]:List UInt8),x1)) (Option.bind (m32 a0) fun (x2:(List UInt8))=>cond ((decide (65536 < (x2.length:Int)))) (some (([]:List UInt8),5)) (some (x2,0)))
noncomputable def k14:KF UV:=⟨[.stc .t25],[.str,.int .i64],fun v=>DN v⟩
noncomputable def H14:Hints UV:=⟨[],[]⟩
theorem k14_ok:Ya DV W0 Tryz.prog 14 k14:=Yy (C:=CV) rfl QK Qw (QJ (tb:=[(31,k31),(32,k32)]) Qw ⟨k31_ok,k32_ok,trivial⟩) JS Tryz.func14 en_14 H14 k14 rfl (fun v=>by kernel_rfl)
end Go.Proofs.YtjcfppnjamjjhaaGreatDoor
namespace Go.Proofs.YtjcfppnjamjjhaaGreatDoor
open Go.RowKit Go.Shelf
theorem ZL {σ β:Type} {step:σ→Option (LO σ β)} (I:σ→Prop) (μ:σ→Nat) (spec:σ→β)
  (h:∀ s,I s→(step s=some (.done (spec s)))∨(∃ s',step s=some (.next s')∧I s'∧μ s' < μ s∧spec s'=spec s)):∀ (n:Nat) (s:σ),I s→μ s < n→Qo step n s=some (spec s)
 | 0,_,_,h0=>absurd h0 (Nat.not_lt_zero _)
 | n+1,s,hs,hn=>by
  rcases h s hs with h1 | ⟨s',h1,h2,h3,h4⟩
  ·simp only [Qo,h1]
  ·simp only [Qo,h1]
   rw [ZL I μ spec h n s' h2 (by omega),h4]
theorem GA {α:Type} {l:List α} {i:Int} {x:α} (h0:0≤i) (hx:l[i.toNat]?=some x):Jy l i=some x:=by
 obtain ⟨k,rfl⟩:=Int.eq_ofNat_of_zero_le h0
 simpa [Jy] using hx
theorem w64_next {k n:Nat} (h:k < n) (hn:n≤1000000000):QG ((k:Int)+1)=((k+1:Nat):Int):=by rw [Ys (by omega) (by omega)];rfl
theorem w64_neg {n:Int} (h:-65536≤n∧n≤7):QG (-1 - n) = -1 - n:=Ys (by omega) (by omega)
def okV (v:LV):Prop:=-65536≤v.1∧v.1≤7∧0≤v.2∧v.2≤100
theorem YL {l:Lvl} (h:Wb l) {x:LV} (hx:x∈l.vs):okV x:=by
 obtain ⟨a,b,e⟩:=List.append_of_mem hx
 have:=h.2.2.2 a x b e
 unfold Wc at this
 simp only [not_or,Int.not_lt] at this
 exact ⟨this.1,this.2.1,this.2.2.1,this.2.2.2.1⟩
theorem asc_at {l:Lvl} (h:Wb l) (hn:l.vs.length≤900000000):∀ (k:Nat) (x:LV),l.vs[k]?=some x→-65536+(k:Int)≤x.1
 | 0,x,hx=>by have:=(YL h (List.mem_of_getElem? hx)).1;omega
 | k+1,x,hx=>by
  obtain ⟨hk,e⟩:=List.getElem?_eq_some_iff.1 hx
  obtain ⟨y,hy⟩:∃ y,l.vs[k]?=some y:=⟨_,List.getElem?_eq_getElem (by omega)⟩
  have ih:=asc_at h hn k y hy
  have e1:l.vs=l.vs.take (k+1)++x::l.vs.drop (k+2):=by
   conv=>lhs;rw [← List.take_append_drop (k+1) l.vs,List.drop_eq_getElem_cons hk,e]
  have h1:=h.2.2.2 _ _ _ e1
  unfold Wc at h1
  simp only [not_or] at h1
  have hl:(l.vs.take (k+1)).length=k+1:=by rw [List.length_take];omega
  rw [hl] at h1
  have h2:=h1.2.2.2.2
  by_cases hc:x.1≤y.1
  ·refine (h2 ⟨by omega,y,?_,hc⟩).elim
   rw [Ys (by omega) (by omega),show ((k+1:Nat):Int) - 1=(k:Int) by omega]
   exact hy
  ·omega
theorem asc_len {l:Lvl} (h:Wb l) (hn:l.vs.length≤900000000):l.vs.length≤65544:=by
 rcases Nat.eq_zero_or_pos l.vs.length with h0 | h0
 ·omega
 ·obtain ⟨x,hx⟩:∃ x,l.vs[l.vs.length - 1]?=some x:=⟨_,List.getElem?_eq_getElem (by omega)⟩
  have h1:=asc_at h hn _ x hx
  have h2:=(YL h (List.mem_of_getElem? hx)).2.1
  omega
abbrev KY (n:Nat):Bs:=Lib.decDigits n
theorem Wj {n:Nat} (h:n < 10):KY n=[UInt8.ofNat (48+n)]:=by unfold KY Lib.decDigits;rw [dif_pos h]
theorem dec_ge {n:Nat} (h:¬ n < 10):KY n=KY (n / 10)++[UInt8.ofNat (48+n % 10)]:=by
 show Lib.decDigits n=_
 rw [Lib.decDigits,dif_neg h]
theorem GC:∀ (k n:Nat),n < 10 ^ (k+1)→(KY n).length≤k+1
 | 0,n,h=>by rw [Wj (by omega)];exact Nat.le_refl _
 | k+1,n,h=>by
  by_cases h1:n < 10
  ·rw [Wj h1];exact Nat.succ_le_succ (Nat.zero_le _)
  ·rw [dec_ge h1,List.length_append]
   have:=GC k (n / 10) (by rw [Nat.pow_succ] at h;omega)
   simp;omega
def U5 (p:Int):Bs:=if 0 < p then [32,43,32]++KY p.toNat else []
def WU (c:UInt8) (n:Nat) (p:Int):Bs:=c::(KY n++U5 p)
def Wx (x:LV):Bs:=if 0≤x.1 then WU 117 x.1.toNat x.2 else WU 63 (-1 - x.1).toNat x.2
def X9:List Bs→Bs
 | []=>[]
 | [x]=>x
 | x::y::r=>x++([44,32]++X9 (y::r))
theorem Qv {α:Type} {b:Bool} {x:Option α} (h:b=true):Qd b x=x:=by unfold Qd;rw [h];rfl
theorem byt_dig {k:Int} {n:Nat} (h0:IntKind.wrap .u8 k=(n:Int)) (hn:n < 10):([(⟨(IntKind.wrap .u8 (48+(IntKind.wrap .u8 k)))⟩:Byt)]).map Byt.u8=[UInt8.ofNat (48+n)]:=by
 rw [h0]
 have:IntKind.wrap .u8 (48+(n:Int))=((48+n:Nat):Int):=by
  have:n=0∨n=1∨n=2∨n=3∨n=4∨n=5∨n=6∨n=7∨n=8∨n=9:=by omega
  rcases this with rfl | rfl | rfl | rfl | rfl | rfl | rfl | rfl | rfl | rfl <;> rfl
 rw [this]
 rfl
theorem wrap_dig {n:Nat} (hn:n < 10):IntKind.wrap .u8 (n:Int)=(n:Int):=by
 have:n=0∨n=1∨n=2∨n=3∨n=4∨n=5∨n=6∨n=7∨n=8∨n=9:=by omega
 rcases this with rfl | rfl | rfl | rfl | rfl | rfl | rfl | rfl | rfl | rfl <;> rfl
def m119F (rc:Int→Option (List UInt8)) (u:Int):Option (List UInt8):=Uc rc u
theorem m119_rec:∀ (f n:Nat),n < 10 ^ f→n < 1000000→Jc m119F f (n:Int)=some (KY n)∨(f=0)
 | 0,n,h,hn=>.inr rfl
 | f+1,n,h,hn=>by
  refine .inl ?_
  show Uc (Jc m119F f) (n:Int)=_
  unfold Uc
  by_cases h1:n < 10
  ·rw [decide_eq_true (by omega:(n:Int) < 10),cond_true,byt_dig (wrap_dig h1) h1,Wj h1]
  ·rw [decide_eq_false (by omega:¬ (n:Int) < 10),cond_false]
   have ed:Int.tdiv (n:Int) 10=((n / 10:Nat):Int):=rfl
   have em:Int.tmod (n:Int) 10=((n % 10:Nat):Int):=rfl
   rw [ed,em,Ys (by omega) (by omega)]
   have hr:Jc m119F f ((n / 10:Nat):Int)=some (KY (n / 10)):=by
    rcases m119_rec f (n / 10) (by rw [Nat.pow_succ] at h;omega) (by omega) with h2 | h2
    ·exact h2
    ·subst h2;omega
   rw [hr,Option.bind_some,byt_dig (wrap_dig (by omega:n % 10 < 10)) (by omega)]
   rw [Qv (Nat.ble_eq_true_of_le (by
    have:=GC 5 (n / 10) (by omega)
    simp only [List.length_cons,List.length_nil];omega)),← dec_ge h1]
   exact Qv Z
theorem m119_eq {a:Int} (h0:0≤a) (h1:a < 1000000):UN a=some (KY a.toNat):=by
 obtain ⟨n,rfl⟩:=Int.eq_ofNat_of_zero_le h0
 have hn:n < 1000000:=by omega
 rw [Int.toNat_natCast]
 unfold UN
 rcases m119_rec Qt n (Nat.lt_of_lt_of_le (by omega:n < 10 ^ 6) (Nat.pow_le_pow_right (by omega) (by unfold Qt;omega))) hn with h2 | h2
 ·exact h2
 ·unfold Qt at h2;omega
theorem itoa_nn {a:Int} (h0:0≤a):Lib.itoa a=KY a.toNat:=by unfold Lib.itoa;rw [if_neg (by omega)]
theorem YP {a:Int} (h1:a < 1000000):(KY a.toNat).length≤6:=GC 5 _ (by omega)
theorem m62_eq {a:Int} (h0:0≤a) (h1:a < 1000000):D8 a=some (KY a.toNat):=by
 unfold D8
 rw [Qv (by rw [decide_eq_true (by omega),decide_eq_true (by omega)];rfl),itoa_nn h0]
theorem m139_eq {c:UInt8} {a p:Int} (h0:0≤a) (h1:a < 1000000) (p0:0≤p) (p1:p≤100):Ux [c] a p=some (WU c a.toNat p):=by
 have la:=YP h1
 have lp:=YP (a:=p) (by omega)
 unfold Ux WU U5
 rw [m62_eq h0 h1,Option.bind_some]
 rw [Qv (Nat.ble_eq_true_of_le (by simp only [List.length_cons,List.length_nil];omega))]
 by_cases hp:0 < p
 ·rw [decide_eq_true hp,cond_true,if_pos hp,m62_eq p0 (by omega),Option.bind_some]
  rw [Qv (Nat.ble_eq_true_of_le (by simp only [List.length_cons,List.length_nil];omega)),Qv (Nat.ble_eq_true_of_le (by simp only [List.length_append,List.length_cons,List.length_nil];omega))]
  simp
 ·rw [decide_eq_false hp,cond_false,if_neg hp]
  simp
theorem m120_eq {c:UInt8} {a p:Int} (h0:0≤a) (h1:a < 1000000) (p0:0≤p) (p1:p≤100):Uy [c] a p=some (WU c a.toNat p):=by
 have la:=YP h1
 have lp:=YP (a:=p) (by omega)
 unfold Uy WU U5
 rw [m119_eq h0 h1,Option.bind_some]
 rw [Qv (Nat.ble_eq_true_of_le (by simp only [List.length_cons,List.length_nil];omega))]
 by_cases hp:0 < p
 ·rw [decide_eq_true hp,cond_true,if_pos hp,m119_eq p0 (by omega),Option.bind_some]
  rw [Qv (Nat.ble_eq_true_of_le (by simp only [List.length_cons,List.length_nil];omega)),Qv (Nat.ble_eq_true_of_le (by simp only [List.length_append,List.length_cons,List.length_nil];omega))]
  simp
 ·rw [decide_eq_false hp,cond_false,if_neg hp]
  simp
theorem varX_pos {x:LV} (h:0≤x.1):Wx x=WU 117 x.1.toNat x.2:=by unfold Wx;rw [if_pos h]
theorem varX_neg {x:LV} (h:x.1 < 0):Wx x=WU 63 (-1 - x.1).toNat x.2:=by unfold Wx;rw [if_neg (by omega)]
abbrev XO (vs:List LV):List Bs:=(vs.filter fun x=>decide (0≤x.1)).map Wx
abbrev XS (vs:List LV):List Bs:=(vs.filter fun x=>decide (x.1 < 0)).map Wx
theorem posV_cons (x:LV) (vs:List LV):XO (x::vs)=(if 0≤x.1 then [Wx x] else [])++XO vs:=by
 unfold XO
 rw [List.filter_cons]
 by_cases h:0≤x.1
 ·rw [if_pos (decide_eq_true h),if_pos h];rfl
 ·rw [if_neg (by simpa using h),if_neg h];rfl
theorem negV_cons (x:LV) (vs:List LV):XS (x::vs)=(if x.1 < 0 then [Wx x] else [])++XS vs:=by
 unfold XS
 rw [List.filter_cons]
 by_cases h:x.1 < 0
 ·rw [if_pos (decide_eq_true h),if_pos h];rfl
 ·rw [if_neg (by simpa using h),if_neg h];rfl
theorem dropAt {α:Type} {l:List α} {k:Nat} {x:α} (h:l[k]?=some x):l.drop k=x::l.drop (k+1):=by
 obtain ⟨hk,e⟩:=List.getElem?_eq_some_iff.1 h
 rw [List.drop_eq_getElem_cons hk,e]
theorem take_at {α:Type} {l:List α} {k:Nat} {x:α} (h:l[k]?=some x):(l.take (k+1)).reverse=x::(l.take k).reverse:=by
 obtain ⟨hk,e⟩:=List.getElem?_eq_some_iff.1 h
 rw [List.take_add_one,h,List.reverse_append]
 rfl
def tL0 (a0:Lvl):(Int×(List ((List UInt8))))→Option (LO (Int×(List ((List UInt8)))) ((List ((List UInt8))))):=(fun s12=>cond ((decide (s12.1 < (a0.vs.length:Int)))) (Option.bind (Jy a0.vs s12.1) fun (x14:LV)=>cond ((decide (0≤x14.1))) (Option.bind (Ux ([117]:List UInt8) x14.1 x14.2) fun (x15:(List UInt8))=>Qd (Nat.ble (s12.2.length+([x15]:List ((List UInt8))).length) 1000000000) (some (.next ((QG (s12.1+1)),(s12.2++([x15]:List ((List UInt8)))))))) (some (.next ((QG (s12.1+1)),s12.2)))) (some (.done s12.2)))
def tL1 (a0:Lvl):(Int×(List ((List UInt8))))→Option (LO (Int×(List ((List UInt8)))) ((List ((List UInt8))))):=(fun s31=>cond ((decide (0≤s31.1))) (Option.bind (Option.bind (Jy a0.vs s31.1) fun (x36:LV)=>cond ((decide (x36.1 < 0))) (Option.bind (Ux ([63]:List UInt8) (QG ((-1) - x36.1)) x36.2) fun (x37:(List UInt8))=>Qd (Nat.ble (s31.2.length+([x37]:List ((List UInt8))).length) 1000000000) (some (s31.2++([x37]:List ((List UInt8)))))) (some s31.2)) fun (v35:(List ((List UInt8))))=>some (.next ((QG (s31.1 - 1)),v35))) (some (.done s31.2)))
def rL0 (a0:Lvl):((List ((List UInt8)))×Int)→Option (LO ((List ((List UInt8)))×Int) ((List ((List UInt8))))):=(fun s14=>cond ((decide (s14.2 < (a0.vs.length:Int)))) (Option.bind (Jy a0.vs s14.2) fun (x16:LV)=>cond ((decide (0≤x16.1))) (Option.bind (Jy a0.vs s14.2) fun (x17:LV)=>Option.bind (Jy a0.vs s14.2) fun (x18:LV)=>Option.bind (Uy ([117]:List UInt8) x17.1 x18.2) fun (x19:(List UInt8))=>Qd (Nat.ble (s14.1.length+([x19]:List ((List UInt8))).length) 1000000000) (some (.next ((s14.1++([x19]:List ((List UInt8)))),(QG (s14.2+1)))))) (some (.next (s14.1,(QG (s14.2+1)))))) (some (.done s14.1)))
def rL1 (a0:Lvl):((List ((List UInt8)))×Int)→Option (LO ((List ((List UInt8)))×Int) ((List ((List UInt8))))):=(fun s28=>cond ((decide (0≤s28.2))) (Option.bind (Jy a0.vs s28.2) fun (x30:LV)=>cond ((decide (x30.1 < 0))) (Option.bind (Jy a0.vs s28.2) fun (x31:LV)=>Option.bind (Jy a0.vs s28.2) fun (x32:LV)=>Option.bind (Uy ([63]:List UInt8) (QG ((-1) - x31.1)) x32.2) fun (x33:(List UInt8))=>Qd (Nat.ble (s28.1.length+([x33]:List ((List UInt8))).length) 1000000000) (some (.next ((s28.1++([x33]:List ((List UInt8)))),(QG (s28.2 - 1)))))) (some (.next (s28.1,(QG (s28.2 - 1)))))) (some (.done s28.1)))
def rL2 (o:List Bs):((List UInt8)×Int)→Option (LO ((List UInt8)×Int) ((List UInt8))):=(fun s39=>cond ((decide (s39.2 < (o.length:Int)))) (Option.bind (cond ((decide (0 < s39.2))) (Qd (Nat.ble (s39.1.length+([44,32]:List UInt8).length) 1000000000) (some (s39.1++([44,32]:List UInt8)))) (some s39.1)) fun (v41:(List UInt8))=>Option.bind (Jy o s39.2) fun (x42:(List UInt8))=>Qd (Nat.ble (v41.length+x42.length) 1000000000) (some (.next ((v41++x42),(QG (s39.2+1)))))) (some (.done s39.1)))
section
variable {l:Lvl} (hv:Wb l) (hl:l.vs.length≤65544)
include hv hl
theorem text_l0 (k:Nat) (acc:List Bs) (hk:k≤l.vs.length) (ha:acc.length≤20+k):Qo (tL0 l) Qt ((k:Int),acc)=some (acc++XO (l.vs.drop k)):=by
 refine (ZL (step:=tL0 l) (fun s=>∃ j:Nat,s.1=(j:Int)∧j≤l.vs.length∧s.2.length≤20+j) (fun s=>l.vs.length - s.1.toNat) (fun s=>s.2++XO (l.vs.drop s.1.toNat)) ?_ Qt ((k:Int),acc) ⟨k,rfl,hk,ha⟩ ?_).trans (by rw [Int.toNat_natCast])
 ·rintro ⟨i,ac⟩ ⟨j,rfl,hj,hb⟩
  dsimp only at hb ⊢
  rw [Int.toNat_natCast]
  by_cases hlt:j < l.vs.length
  ·refine .inr ?_
   obtain ⟨x,hx⟩:∃ x,l.vs[j]?=some x:=⟨_,List.getElem?_eq_getElem hlt⟩
   have ok:=YL hv (List.mem_of_getElem? hx)
   obtain ⟨o1,o2,o3,o4⟩:=ok
   unfold tL0
   rw [decide_eq_true (by omega:(j:Int) < l.vs.length),cond_true,GA (Int.natCast_nonneg _) (by simpa using hx),Option.bind_some,w64_next hlt (by omega),dropAt hx,posV_cons]
   by_cases h0:0≤x.1
   ·rw [decide_eq_true h0,cond_true,m139_eq h0 (by omega) o3 o4,Option.bind_some,Qv (Nat.ble_eq_true_of_le (by simp only [List.length_cons,List.length_nil];omega)),if_pos h0,varX_pos h0]
    exact ⟨_,rfl,⟨j+1,rfl,hlt,by simp only [List.length_append,List.length_cons,List.length_nil];omega⟩,by simp only [Int.toNat_natCast];omega,by simp only [Int.toNat_natCast];simp⟩
   ·rw [decide_eq_false h0,cond_false,if_neg h0]
    exact ⟨_,rfl,⟨j+1,rfl,hlt,by dsimp only;omega⟩,by simp only [Int.toNat_natCast];omega,by simp only [Int.toNat_natCast];simp⟩
  ·refine .inl ?_
   unfold tL0
   rw [decide_eq_false (by omega),cond_false,List.drop_eq_nil_of_le (by omega)]
   simp
 ·simp only [Int.toNat_natCast];unfold Qt;omega
theorem ref_l0 (k:Nat) (acc:List Bs) (hk:k≤l.vs.length) (ha:acc.length≤20+k):Qo (rL0 l) Qt (acc,(k:Int))=some (acc++XO (l.vs.drop k)):=by
 refine (ZL (step:=rL0 l) (fun s=>∃ j:Nat,s.2=(j:Int)∧j≤l.vs.length∧s.1.length≤20+j) (fun s=>l.vs.length - s.2.toNat) (fun s=>s.1++XO (l.vs.drop s.2.toNat)) ?_ Qt (acc,(k:Int)) ⟨k,rfl,hk,ha⟩ ?_).trans (by rw [Int.toNat_natCast])
 ·rintro ⟨ac,i⟩ ⟨j,rfl,hj,hb⟩
  dsimp only at hb ⊢
  rw [Int.toNat_natCast]
  by_cases hlt:j < l.vs.length
  ·refine .inr ?_
   obtain ⟨x,hx⟩:∃ x,l.vs[j]?=some x:=⟨_,List.getElem?_eq_getElem hlt⟩
   have ok:=YL hv (List.mem_of_getElem? hx)
   obtain ⟨o1,o2,o3,o4⟩:=ok
   unfold rL0
   rw [decide_eq_true (by omega:(j:Int) < l.vs.length),cond_true]
   dsimp only
   rw [GA (Int.natCast_nonneg _) (by simpa using hx),Option.bind_some,w64_next hlt (by omega),dropAt hx,posV_cons]
   by_cases h0:0≤x.1
   ·rw [decide_eq_true h0,cond_true,Option.bind_some,Option.bind_some,m120_eq h0 (by omega) o3 o4,Option.bind_some,Qv (Nat.ble_eq_true_of_le (by simp only [List.length_cons,List.length_nil];omega)),if_pos h0,varX_pos h0]
    exact ⟨_,rfl,⟨j+1,rfl,hlt,by simp only [List.length_append,List.length_cons,List.length_nil];omega⟩,by simp only [Int.toNat_natCast];omega,by simp only [Int.toNat_natCast];simp⟩
   ·rw [decide_eq_false h0,cond_false,if_neg h0]
    exact ⟨_,rfl,⟨j+1,rfl,hlt,by dsimp only;omega⟩,by simp only [Int.toNat_natCast];omega,by simp only [Int.toNat_natCast];simp⟩
  ·refine .inl ?_
   unfold rL0
   rw [decide_eq_false (by omega),cond_false,List.drop_eq_nil_of_le (by omega)]
   simp
 ·simp only [Int.toNat_natCast];unfold Qt;omega
theorem text_l1 (acc:List Bs) (ha:acc.length≤100000):Qo (tL1 l) Qt ((l.vs.length:Int) - 1,acc)=some (acc++XS l.vs.reverse):=by
 refine (ZL (step:=tL1 l) (fun s=>∃ j:Nat,s.1=(j:Int) - 1∧j≤l.vs.length∧s.2.length+j≤200000) (fun s=>(s.1+1).toNat) (fun s=>s.2++XS (l.vs.take (s.1+1).toNat).reverse) ?_ Qt ((l.vs.length:Int) - 1,acc) ⟨l.vs.length,rfl,Nat.le_refl _,by dsimp only;omega⟩ ?_).trans (by
  rw [show ((l.vs.length:Int) - 1+1).toNat=l.vs.length by omega,List.take_length])
 ·rintro ⟨i,ac⟩ ⟨j,rfl,hj,hb⟩
  dsimp only at hb ⊢
  rw [show ((j:Int) - 1+1).toNat=j by omega]
  cases j with
  | zero =>
   refine .inl ?_
   unfold tL1
   rw [decide_eq_false (by dsimp only;omega),cond_false]
   simp
  | succ k =>
   refine .inr ?_
   rw [show ((k+1:Nat):Int) - 1=(k:Int) by omega]
   obtain ⟨x,hx⟩:∃ x,l.vs[k]?=some x:=⟨_,List.getElem?_eq_getElem (by omega)⟩
   have ok:=YL hv (List.mem_of_getElem? hx)
   obtain ⟨o1,o2,o3,o4⟩:=ok
   unfold tL1
   dsimp only
   rw [decide_eq_true (by omega:(0:Int)≤(k:Int)),cond_true,GA (Int.natCast_nonneg _) (by simpa using hx),Option.bind_some,Ys (n:=(k:Int) - 1) (by omega) (by omega),take_at hx,negV_cons]
   by_cases h0:x.1 < 0
   ·rw [decide_eq_true h0,cond_true,w64_neg ⟨o1,o2⟩,m139_eq (by omega) (by omega) o3 o4,Option.bind_some,Qv (Nat.ble_eq_true_of_le (by simp only [List.length_cons,List.length_nil];omega)),Option.bind_some,if_pos h0,varX_neg h0]
    exact ⟨_,rfl,⟨k,rfl,by omega,by simp only [List.length_append,List.length_cons,List.length_nil];omega⟩,by dsimp only;omega,by
     dsimp only;rw [show ((k:Int) - 1+1).toNat=k by omega];simp⟩
   ·rw [decide_eq_false h0,cond_false,Option.bind_some,if_neg h0]
    exact ⟨_,rfl,⟨k,rfl,by omega,by dsimp only;omega⟩,by dsimp only;omega,by
     dsimp only;rw [show ((k:Int) - 1+1).toNat=k by omega];simp⟩
 ·dsimp only;unfold Qt;omega
theorem ref_l1 (acc:List Bs) (ha:acc.length≤100000):Qo (rL1 l) Qt (acc,(l.vs.length:Int) - 1)=some (acc++XS l.vs.reverse):=by
 refine (ZL (step:=rL1 l) (fun s=>∃ j:Nat,s.2=(j:Int) - 1∧j≤l.vs.length∧s.1.length+j≤200000) (fun s=>(s.2+1).toNat) (fun s=>s.1++XS (l.vs.take (s.2+1).toNat).reverse) ?_ Qt (acc,(l.vs.length:Int) - 1) ⟨l.vs.length,rfl,Nat.le_refl _,by dsimp only;omega⟩ ?_).trans (by
  rw [show ((l.vs.length:Int) - 1+1).toNat=l.vs.length by omega,List.take_length])
 ·rintro ⟨ac,i⟩ ⟨j,rfl,hj,hb⟩
  dsimp only at hb ⊢
  rw [show ((j:Int) - 1+1).toNat=j by omega]
  cases j with
  | zero =>
   refine .inl ?_
   unfold rL1
   rw [decide_eq_false (by dsimp only;omega),cond_false]
   simp
  | succ k =>
   refine .inr ?_
   rw [show ((k+1:Nat):Int) - 1=(k:Int) by omega]
   obtain ⟨x,hx⟩:∃ x,l.vs[k]?=some x:=⟨_,List.getElem?_eq_getElem (by omega)⟩
   have ok:=YL hv (List.mem_of_getElem? hx)
   obtain ⟨o1,o2,o3,o4⟩:=ok
   unfold rL1
   dsimp only
   rw [decide_eq_true (by omega:(0:Int)≤(k:Int)),cond_true,GA (Int.natCast_nonneg _) (by simpa using hx),Option.bind_some,Ys (n:=(k:Int) - 1) (by omega) (by omega),take_at hx,negV_cons]
   by_cases h0:x.1 < 0
   ·rw [decide_eq_true h0,cond_true,Option.bind_some,Option.bind_some,w64_neg ⟨o1,o2⟩,m120_eq (by omega) (by omega) o3 o4,Option.bind_some,Qv (Nat.ble_eq_true_of_le (by simp only [List.length_cons,List.length_nil];omega)),if_pos h0,varX_neg h0]
    exact ⟨_,rfl,⟨k,rfl,by omega,by simp only [List.length_append,List.length_cons,List.length_nil];omega⟩,by dsimp only;omega,by
     dsimp only;rw [show ((k:Int) - 1+1).toNat=k by omega];simp⟩
   ·rw [decide_eq_false h0,cond_false,if_neg h0]
    exact ⟨_,rfl,⟨k,rfl,by omega,by dsimp only;omega⟩,by dsimp only;omega,by
     dsimp only;rw [show ((k:Int) - 1+1).toNat=k by omega];simp⟩
 ·dsimp only;unfold Qt;omega
end
def XJ (r:List Bs):Bs:=(r.map ([44,32]++·)).flatten
theorem sepT_cons (x:Bs):∀ r:List Bs,X9 (x::r)=x++XJ r
 | []=>by simp [X9,XJ]
 | y::r=>by
  have:=sepT_cons y r
  simp only [X9] at this ⊢
  rw [this]
  simp [XJ]
theorem sepT_join (r:List Bs):Lib.join r [44,32]=X9 r:=by
 cases r with
 | nil=>rfl
 | cons x r=>rw [sepT_cons,Lib.join_cons];rfl
theorem flatT_len:∀ (r:List Bs),(∀ x∈r,x.length≤16)→(XJ r).length≤18 * r.length
 | [],h=>Nat.zero_le _
 | x::r,h=>by
  have:=flatT_len r fun y hy=>h y (List.mem_cons_of_mem _ hy)
  have hx:=h x List.mem_cons_self
  unfold XJ at this ⊢
  simp only [List.map_cons,List.flatten_cons,List.length_append,List.length_cons,List.length_nil] at this ⊢
  omega
theorem sepT_le (r:List Bs) (h:∀ x∈r,x.length≤16):(X9 r).length≤18 * r.length:=by
 cases r with
 | nil=>exact Nat.zero_le _
 | cons x r =>
  rw [sepT_cons,List.length_append]
  have:=flatT_len r fun y hy=>h y (List.mem_cons_of_mem _ hy)
  have:=h x List.mem_cons_self
  simp only [List.length_cons];omega
theorem ref_l2 {o:List Bs} (ho:o.length≤200000) (hx16:∀ x∈o,x.length≤16) (s:Bs) (hs:s.length≤4):Qo (rL2 o) Qt (s,0)=some (s++X9 o):=by
 refine (ZL (step:=rL2 o) (fun t=>∃ j:Nat,t.2=(j:Int)∧j≤o.length∧t.1.length≤4+18 * j) (fun t=>o.length - t.2.toNat) (fun t=>t.1++(if t.2=0 then X9 o else XJ (o.drop t.2.toNat))) ?_ Qt (s,0) ⟨0,rfl,Nat.zero_le _,by dsimp only;omega⟩ ?_).trans (by rw [if_pos rfl])
 ·rintro ⟨ac,i⟩ ⟨j,rfl,hj,hb⟩
  dsimp only at hb ⊢
  rw [Int.toNat_natCast]
  by_cases hlt:j < o.length
  ·refine .inr ?_
   obtain ⟨x,hx⟩:∃ x,o[j]?=some x:=⟨_,List.getElem?_eq_getElem hlt⟩
   have hl:=hx16 x (List.mem_of_getElem? hx)
   unfold rL2
   dsimp only
   rw [decide_eq_true (by omega:(j:Int) < o.length),cond_true,w64_next hlt (by omega)]
   by_cases h0:j=0
   ·subst h0
    rw [decide_eq_false (by omega),cond_false,Option.bind_some,GA (Int.natCast_nonneg _) (by simpa using hx),Option.bind_some,Qv (Nat.ble_eq_true_of_le (by omega))]
    refine ⟨_,rfl,⟨1,rfl,hlt,by simp only [List.length_append];omega⟩,by simp only [Int.toNat_natCast];omega,?_⟩
    dsimp only
    rw [if_neg (by omega:¬ ((0+1:Nat):Int)=0),if_pos (by rfl:((0:Nat):Int)=0),Int.toNat_natCast]
    have:o=x::o.drop 1:=by have:=dropAt hx;simpa using this
    conv=>rhs;rw [this,sepT_cons]
    simp
   ·rw [decide_eq_true (by omega:(0:Int) < j),cond_true,Qv (Nat.ble_eq_true_of_le (by simp only [List.length_cons,List.length_nil];omega)),Option.bind_some,GA (Int.natCast_nonneg _) (by simpa using hx),Option.bind_some,
     Qv (Nat.ble_eq_true_of_le (by simp only [List.length_append,List.length_cons,List.length_nil];omega))]
    refine ⟨_,rfl,⟨j+1,rfl,hlt,by simp only [List.length_append,List.length_cons,List.length_nil];omega⟩,by simp only [Int.toNat_natCast];omega,?_⟩
    dsimp only
    rw [if_neg (by omega),if_neg (by omega),Int.toNat_natCast,dropAt hx]
    simp [XJ]
  ·refine .inl ?_
   unfold rL2
   dsimp only
   rw [decide_eq_false (by omega),cond_false]
   by_cases h0:(j:Int)=0
   ·have e:o=[]:=List.eq_nil_of_length_eq_zero (by omega)
    rw [if_pos h0,e];simp [X9]
   ·rw [if_neg h0,List.drop_eq_nil_of_le (by omega)];simp [XJ]
 ·dsimp only;unfold Qt;simp only [Int.toNat_zero];omega
def JJ (l:Lvl):List Bs:=(if 0 < l.c∨l.vs=[] then [KY l.c.toNat] else [])++XO l.vs++XS l.vs.reverse
theorem varX_16 {x:LV} (h:okV x):(Wx x).length≤16:=by
 obtain ⟨h1,h2,h3,h4⟩:=h
 have hp:(U5 x.2).length≤9:=by
  unfold U5
  split
  ·have:=YP (a:=x.2) (by omega)
   simp only [List.length_append,List.length_cons,List.length_nil];omega
  ·exact Nat.zero_le _
 unfold Wx WU
 split
 ·have:=YP (a:=x.1) (by omega)
  simp only [List.length_cons,List.length_append];omega
 ·have:=YP (a:=-1 - x.1) (by omega)
  simp only [List.length_cons,List.length_append];omega
theorem parts_16 {l:Lvl} (h:Wb l):∀ x∈JJ l,x.length≤16:=by
 intro x hx
 unfold JJ XO XS at hx
 rcases List.mem_append.1 hx with hx | hx
 ·rcases List.mem_append.1 hx with hx | hx
  ·split at hx
   ·rw [List.mem_singleton.1 hx]
    have:=YP (a:=l.c) (by have:=h.2.1;omega)
    omega
   ·cases hx
  ·obtain ⟨y,hy,rfl⟩:=List.mem_map.1 hx
   exact varX_16 (YL h (List.mem_filter.1 hy).1)
 ·obtain ⟨y,hy,rfl⟩:=List.mem_map.1 hx
  exact varX_16 (YL h (List.mem_reverse.1 (List.mem_filter.1 hy).1))
theorem parts_len (l:Lvl):(JJ l).length≤2 * l.vs.length+1:=by
 unfold JJ XO XS
 have h1:=List.length_filter_le (fun x:LV=>decide (0≤x.1)) l.vs
 have h2:=List.length_filter_le (fun x:LV=>decide (x.1 < 0)) l.vs.reverse
 rw [List.length_reverse] at h2
 simp only [List.length_append,List.length_map]
 split <;> simp only [List.length_cons,List.length_nil] <;> omega
def U1 (l:Lvl):Bs:=if (JJ l).length=1 then X9 (JJ l) else [109,97,120,40]++X9 (JJ l)++[41]
theorem textL_parts (l:Lvl):U1 l=(if (JJ l).length=1 then X9 (JJ l) else [109,97,120,40]++X9 (JJ l)++[41]):=rfl
theorem textL_len {l:Lvl} (h:Wb l):(U1 l).length≤36 * l.vs.length+23:=by
 rw [textL_parts]
 have h1:=sepT_le _ (parts_16 h)
 have h2:=parts_len l
 split
 ·omega
 ·simp only [List.length_append,List.length_cons,List.length_nil];omega
theorem first_parts (l:Lvl):(cond (decide (0 < l.c)) (some true) (some ((l.vs.length:Int)==0)))=some (decide (0 < l.c∨l.vs=[])):=by
 by_cases h0:0 < l.c
 ·rw [decide_eq_true h0,cond_true,decide_eq_true (.inl h0)]
 ·rw [decide_eq_false h0,cond_false]
  cases hl:l.vs with
  | nil=>simp
  | cons x r=>simp [h0];omega
theorem one_get {o:List Bs} (h:o.length=1):Jy o 0=some (X9 o):=by
 match o,h with
 | [x],_=>rfl
theorem J3 {α β:Type} {x:Option α} {k:α→Option β} (a:α) (h:x=some a) {r:Option β} (h2:k a=r):Option.bind x k=r:=by rw [h];exact h2
theorem m114_eq {l:Lvl} (hv:Wb l) (hn:l.vs.length≤900000000):m114 l=some (U1 l,0):=by
 have hl:=asc_len hv hn
 obtain ⟨b,hb1,hb2⟩:=m136_eq l hn
 have hb:b=true:=hb2.2 hv
 subst hb
 have hc:0≤l.c∧l.c≤100:=⟨hv.1,hv.2.1⟩
 unfold m114
 rw [hb1]
 refine J3 _ (first_parts l) ?_
 have l0:(if 0 < l.c∨l.vs=[] then [KY l.c.toNat] else []).length≤1:=by split <;> simp
 refine J3 (if 0 < l.c∨l.vs=[] then [KY l.c.toNat] else []) ?_ ?_
 ·by_cases h:0 < l.c∨l.vs=[]
  ·rw [decide_eq_true h,cond_true,if_pos h,m62_eq hc.1 (by omega)];rfl
  ·rw [decide_eq_false h,cond_false,if_neg h]
 refine J3 _ (text_l0 hv hl 0 _ (Nat.zero_le _) (by omega)) ?_
 rw [List.drop_zero]
 have l1:=List.length_filter_le (fun x:LV=>decide (0≤x.1)) l.vs
 rw [Ys (by omega) (by omega)]
 refine J3 _ (text_l1 hv hl _ (by rw [List.length_append,List.length_map];omega)) ?_
 have ep:(if 0 < l.c∨l.vs=[] then [KY l.c.toNat] else [])++XO l.vs++XS l.vs.reverse=JJ l:=rfl
 rw [ep]
 have h16:=parts_16 hv
 have hn:=parts_len l
 have hs:=sepT_le _ h16
 rw [textL_parts]
 by_cases h1:(JJ l).length=1
 ·rw [if_pos h1,show (((JJ l).length:Int)==1)=true by rw [h1];rfl,cond_true,one_get h1,Option.bind_some]
 ·rw [if_neg h1,show (((JJ l).length:Int)==1)=false by rw [beq_eq_false_iff_ne];omega,cond_false]
  unfold m141
  rw [sepT_join,Qv (by rw [Nat.ble_eq_true_of_le (by omega),Nat.ble_eq_true_of_le (by omega)];rfl),Option.bind_some,Qv (Nat.ble_eq_true_of_le (by simp only [List.length_cons,List.length_nil];omega)),Qv (Nat.ble_eq_true_of_le (by simp only [List.length_append,List.length_cons,List.length_nil];omega))]
theorem m69_eq {l:Lvl} (hv:Wb l) (hn:l.vs.length≤900000000):DF l=some (U1 l,0):=by
 have hl:=asc_len hv hn
 obtain ⟨b,hb1,hb2⟩:=m118_eq l hn
 have hb:b=true:=hb2.2 hv
 subst hb
 have hc:0≤l.c∧l.c≤100:=⟨hv.1,hv.2.1⟩
 unfold DF
 rw [hb1]
 refine J3 _ (first_parts l) ?_
 have l0:(if 0 < l.c∨l.vs=[] then [KY l.c.toNat] else []).length≤1:=by split <;> simp
 refine J3 (if 0 < l.c∨l.vs=[] then [KY l.c.toNat] else []) ?_ ?_
 ·by_cases h:0 < l.c∨l.vs=[]
  ·rw [decide_eq_true h,cond_true,if_pos h,m119_eq hc.1 (by omega)];rfl
  ·rw [decide_eq_false h,cond_false,if_neg h]
 refine J3 _ (ref_l0 hv hl 0 _ (Nat.zero_le _) (by omega)) ?_
 rw [List.drop_zero]
 have l1:=List.length_filter_le (fun x:LV=>decide (0≤x.1)) l.vs
 rw [Ys (by omega) (by omega)]
 refine J3 _ (ref_l1 hv hl _ (by rw [List.length_append,List.length_map];omega)) ?_
 have ep:(if 0 < l.c∨l.vs=[] then [KY l.c.toNat] else [])++XO l.vs++XS l.vs.reverse=JJ l:=rfl
 rw [ep]
 have h16:=parts_16 hv
 have hn:=parts_len l
 have hs:=sepT_le _ h16
 rw [textL_parts]
 by_cases h1:(JJ l).length=1
 ·rw [if_pos h1,show (((JJ l).length:Int)==1)=true by rw [h1];rfl,cond_true,one_get h1,Option.bind_some]
 ·rw [if_neg h1,show (((JJ l).length:Int)==1)=false by rw [beq_eq_false_iff_ne];omega,cond_false]
  refine J3 _ (ref_l2 (by omega) h16 _ (by simp)) ?_
  rw [Qv (Nat.ble_eq_true_of_le (by simp only [List.length_append,List.length_cons,List.length_nil];omega))]
end Go.Proofs.YtjcfppnjamjjhaaGreatDoor
namespace Go.Proofs.YtjcfppnjamjjhaaGreatDoor
open Go.RowKit Go.Shelf
def arity (k:Int):Nat:=if k=4∨k=5∨k=6∨k=7 then 2 else if k=8∨k=11 then 3 else if k=9∨k=10 then 1 else 0
structure NodeP (t:Tm):Prop where
 k:0≤t.kind∧t.kind < 13
 ix:t.kind ≠ 0→t.kind ≠ 12→t.index=0
 ix0:0≤t.index
 ix1:t.index < 1000000000
 me:t.kind=12→t.index < 1000000
 nm:t.kind ≠ 3→t.name=[]
 nk:t.kind=3→KO t.name=true
 l2:t.kind=2→t.levels.length=1
 l0:t.kind ≠ 2→t.kind ≠ 3→t.levels=[]
 l3:t.levels.length≤8
 kd:t.kids.length=arity t.kind
 lv:∀ l∈t.levels,Wb l
inductive OkT:Tm→Prop
 | mk {t:Tm} (h:NodeP t) (hk:∀ k∈t.kids,OkT k):OkT t
theorem OkT.node {t:Tm} (h:OkT t):NodeP t:=by cases h;assumption
theorem OkT.kid {t k:Tm} (h:OkT t) (hk:k∈t.kids):OkT k:=by cases h with | mk _ h=>exact h k hk
structure FormP (t:Tm):Prop where
 k:0≤t.kind∧t.kind < 13
 ix:t.kind ≠ 0→t.kind ≠ 12→t.index=0
 nm:t.kind ≠ 3→t.name=[]
 l2:t.kind=2→t.levels.length=1
 l0:t.kind ≠ 2→t.kind ≠ 3→t.levels=[]
 kd:t.kids.length=arity t.kind
theorem fits_ok (t:Tm) (h:Xs t=some true):FormP t:=by
 by_cases h1:t.kind < 0
 ·exfalso;unfold Xs at h;rw [decide_eq_true h1] at h;cases h
 by_cases h2:13≤t.kind
 ·exfalso;unfold Xs at h;rw [decide_eq_false h1,decide_eq_true h2] at h;cases h
 have hk:t.kind=0∨t.kind=1∨t.kind=2∨t.kind=3∨t.kind=4∨t.kind=5∨t.kind=6∨t.kind=7∨t.kind=8∨t.kind=9∨t.kind=10∨t.kind=11∨t.kind=12:=by omega
 have fin:∀ (ix nm ln:Bool) (lv kd:Int),Xs t=formU ix nm ln (t.index==0) (t.name==[]) ((t.levels.length:Int)==lv) ((t.kids.length:Int)==kd) →
   (ix=false→t.index=0)∧(nm=false→t.name=[])∧(ln=false→(t.levels.length:Int)=lv)∧(t.kids.length:Int)=kd:=by
  intro ix nm ln lv kd e
  rw [h,formU_eq] at e
  have e:=(Option.some.inj e).symm
  simp only [Bool.and_eq_true,Bool.or_eq_true,beq_iff_eq] at e
  obtain ⟨⟨⟨e1,e2⟩,e3⟩,e4⟩:=e
  exact ⟨fun h=>by rcases e1 with e | e;rw [h] at e;cases e;exact e,fun h=>by rcases e2 with e | e;rw [h] at e;cases e;exact e,fun h=>by rcases e3 with e | e;rw [h] at e;cases e;exact e,e4⟩
 obtain ⟨k,i,n,ls,ks⟩:=t
 dsimp only [Tm.kind,Tm.index,Tm.name,Tm.levels,Tm.kids] at *
 have mk:∀ {ix nm ln:Bool} {lv kd:Int},Xs (Tm.mk k i n ls ks)=formU ix nm ln (i==0) (n==[]) ((ls.length:Int)==lv) ((ks.length:Int)==kd)→(k ≠ 0→k ≠ 12→ix=false)→(k ≠ 3→nm=false)→(k=2→ln=false∧lv=1)→(k ≠ 2→k ≠ 3→ln=false∧lv=0)→kd=(arity k:Nat)→FormP (Tm.mk k i n ls ks):=by
  intro ix nm ln lv kd e h3 h4 h5 h6 h7
  obtain ⟨f1,f2,f3,f4⟩:=fin ix nm ln lv kd e
  refine ⟨⟨by show 0≤k;omega,by show k < 13;omega⟩,fun a b=>f1 (h3 a b),fun a=>f2 (h4 a),fun a=>?_,fun a b=>?_,?_⟩
  ·obtain ⟨g1,g2⟩:=h5 a
   have:=f3 g1
   show ls.length=1;omega
  ·obtain ⟨g1,g2⟩:=h6 a b
   have:=f3 g1
   show ls=[]
   exact List.eq_nil_of_length_eq_zero (by omega)
  ·show ks.length=arity k;omega
 rcases hk with hk | hk | hk | hk | hk | hk | hk | hk | hk | hk | hk | hk | hk <;> subst hk
 ·exact mk (ix:=true) (nm:=false) (ln:=false) (lv:=0) (kd:=0) rfl (fun a=>(a rfl).elim) (fun _=>rfl) (fun a=>by omega) (fun _ _=>⟨rfl,rfl⟩) rfl
 ·exact mk (ix:=false) (nm:=false) (ln:=false) (lv:=0) (kd:=0) rfl (fun _ _=>rfl) (fun _=>rfl) (fun a=>by omega) (fun _ _=>⟨rfl,rfl⟩) rfl
 ·exact mk (ix:=false) (nm:=false) (ln:=false) (lv:=1) (kd:=0) rfl (fun _ _=>rfl) (fun _=>rfl) (fun _=>⟨rfl,rfl⟩) (fun a=>(a rfl).elim) rfl
 ·exact mk (ix:=false) (nm:=true) (ln:=true) (lv:=-1) (kd:=0) rfl (fun _ _=>rfl) (fun a=>(a rfl).elim) (fun a=>by omega) (fun _ a=>(a rfl).elim) rfl
 ·exact mk (ix:=false) (nm:=false) (ln:=false) (lv:=0) (kd:=2) rfl (fun _ _=>rfl) (fun _=>rfl) (fun a=>by omega) (fun _ _=>⟨rfl,rfl⟩) rfl
 ·exact mk (ix:=false) (nm:=false) (ln:=false) (lv:=0) (kd:=2) rfl (fun _ _=>rfl) (fun _=>rfl) (fun a=>by omega) (fun _ _=>⟨rfl,rfl⟩) rfl
 ·exact mk (ix:=false) (nm:=false) (ln:=false) (lv:=0) (kd:=2) rfl (fun _ _=>rfl) (fun _=>rfl) (fun a=>by omega) (fun _ _=>⟨rfl,rfl⟩) rfl
 ·exact mk (ix:=false) (nm:=false) (ln:=false) (lv:=0) (kd:=2) rfl (fun _ _=>rfl) (fun _=>rfl) (fun a=>by omega) (fun _ _=>⟨rfl,rfl⟩) rfl
 ·exact mk (ix:=false) (nm:=false) (ln:=false) (lv:=0) (kd:=3) rfl (fun _ _=>rfl) (fun _=>rfl) (fun a=>by omega) (fun _ _=>⟨rfl,rfl⟩) rfl
 ·exact mk (ix:=false) (nm:=false) (ln:=false) (lv:=0) (kd:=1) rfl (fun _ _=>rfl) (fun _=>rfl) (fun a=>by omega) (fun _ _=>⟨rfl,rfl⟩) rfl
 ·exact mk (ix:=false) (nm:=false) (ln:=false) (lv:=0) (kd:=1) rfl (fun _ _=>rfl) (fun _=>rfl) (fun a=>by omega) (fun _ _=>⟨rfl,rfl⟩) rfl
 ·exact mk (ix:=false) (nm:=false) (ln:=false) (lv:=0) (kd:=3) rfl (fun _ _=>rfl) (fun _=>rfl) (fun a=>by omega) (fun _ _=>⟨rfl,rfl⟩) rfl
 ·exact mk (ix:=true) (nm:=false) (ln:=false) (lv:=0) (kd:=0) rfl (fun _ a=>(a rfl).elim) (fun _=>rfl) (fun a=>by omega) (fun _ _=>⟨rfl,rfl⟩) rfl
theorem lv_ok {V P:Int} {x:Lvl} (h:x.vs.length≤900000000) (h0:Wa (Yi V P) x=some 0):Wb x:=by
 obtain ⟨b,hb1,hb2⟩:=m136_eq x h
 unfold Wa at h0
 rw [hb1] at h0
 cases b with
 | false=>cases h0
 | true=>exact hb2.1 rfl
theorem lvs_ok (t:Tm) (V P:Int) (h:t.size≤900000000):∃ r,Qo (Ye t (Yi V P)) Qt 0=some r∧((r=.inl ()∧∀ l∈t.levels,Wb l)∨∃ e:Int,e ≠ 0∧r=.inr e):=by
 have hl:=levels_len t
 have hl2:=Xb lvz (fun l=>by unfold lvz;omega) t.levels
 refine Yk (step:=Ye t (Yi V P)) t.levels (fun i (_:Unit)=>i) (fun a _=>∀ l∈a,Wb l) (fun r=>(r=.inl ()∧∀ l∈t.levels,Wb l)∨∃ e:Int,e ≠ 0∧r=.inr e) (by omega)
  (fun a y b _ e hI=>?_) (fun _ hI=>⟨.inl (),by unfold Ye;rw [JD];rfl,.inl ⟨rfl,hI⟩⟩) () (fun x hx=>by cases hx)
 obtain ⟨q1,q2⟩:=Zj e
 have hy:y.vs.length≤900000000:=by
  have:=lvz_len y
  have:=Gw lvz (show y∈t.levels from by rw [e];simp)
  omega
 obtain ⟨c,h1,-⟩:=lv_code V P y hy
 by_cases hc:c=0
 ·subst hc
  refine .inr ⟨(),?_,fun z hz=>?_⟩
  ·unfold Ye
   rw [q1,q2]
   show Option.bind (Wa (Yi V P) y) _=_
   rw [h1];rfl
  ·rcases List.mem_append.1 hz with hz | hz
   ·exact hI z hz
   ·rw [List.mem_singleton.1 hz];exact lv_ok hy h1
 ·refine .inl ⟨.inr c,?_,.inr ⟨c,hc,rfl⟩⟩
  unfold Ye
  rw [q1,q2]
  show Option.bind (Wa (Yi V P) y) _=_
  rw [h1]
  exact bindNe hc _ _
theorem node_ok (t:Tm) (dep:Nat) (P:Int) (h:t.size≤900000000) (hd:dep≤900000000) (h0:Dw (Yi 1000000 P) t (dep:Int)=some 0):NodeP t:=by
 obtain ⟨b,hb,-⟩:=form_eq t
 have hi:=ir_in (n:=t.index) (by have:=t.size_eq;omega)
 have hn:t.name.length≤900000000:=by have:=t.size_eq;omega
 unfold Dw at h0
 rw [hb] at h0
 cases b with
 | false=>cases h0
 | true =>
  have f:=fits_ok t hb
  obtain ⟨r,hr1,hr2⟩:=lvs_ok t 1000000 P h
  have tail:Option.bind (Qo (Ye t (Yi 1000000 P)) Qt 0) (Sum.elim (fun (o7:Unit)=>Z3 t (Yi 1000000 P) (dep:Int)) (fun o=>some o))=some 0→(∀ l∈t.levels,Wb l)∧0≤t.index∧t.index < 1000000000∧(t.kind=12→t.index < 1000000):=by
   intro h1
   rw [hr1] at h1
   rcases hr2 with ⟨rfl,hv⟩ | ⟨e,he,rfl⟩
   ·have h1:Z3 t (Yi 1000000 P) (dep:Int)=some 0:=h1
    refine ⟨hv,?_⟩
    unfold Z3 at h1
    rw [KG t.kind 0,KG t.kind 12] at h1
    by_cases k0:t.kind=0
    ·rw [decide_eq_true k0,decide_eq_false (show ¬ t.kind=12 by omega)] at h1
     by_cases c1:t.index < 0
     ·rw [decide_eq_true c1] at h1;cases h1
     ·rw [decide_eq_false c1] at h1
      by_cases c2:max 1000000 0≤QG (t.index - (dep:Int))
      ·rw [show decide ((Yi 1000000 P).vars≤QG (t.index - (dep:Int)))=true from decide_eq_true c2] at h1;cases h1
      ·rw [Ys (by omega) (by omega)] at c2
       exact ⟨by omega,by omega,fun a=>by omega⟩
    ·rw [decide_eq_false k0] at h1
     by_cases k1:t.kind=12
     ·rw [decide_eq_true k1] at h1
      by_cases c1:t.index < 0
      ·rw [decide_eq_true c1] at h1;cases h1
      ·rw [decide_eq_false c1] at h1
       by_cases c2:1000000≤t.index
       ·rw [show decide ((Yi 1000000 P).metas≤t.index)=true from decide_eq_true c2] at h1;cases h1
       ·exact ⟨by omega,by omega,fun a=>by omega⟩
     ·have:=f.ix k0 k1
      exact ⟨by omega,by omega,fun a=>by omega⟩
   ·cases h1;exact (he rfl).elim
  have fin:(t.kind=3→KO t.name=true∧t.levels.length≤8)→(∀ l∈t.levels,Wb l)∧0≤t.index∧t.index < 1000000000∧(t.kind=12→t.index < 1000000)→NodeP t:=fun h1 h2=>by
   refine ⟨f.k,f.ix,h2.2.1,h2.2.2.1,h2.2.2.2,f.nm,fun a=>(h1 a).1,f.l2,f.l0,?_,f.kd,h2.1⟩
   by_cases a:t.kind=3
   ·exact (h1 a).2
   ·by_cases a2:t.kind=2
    ·have:=f.l2 a2;omega
    ·rw [f.l0 a2 a];exact Nat.zero_le _
  simp only [Option.bind_some,Bool.not_true,cond_false] at h0
  rw [KG] at h0
  by_cases k3:t.kind=3
  ·rw [decide_eq_true k3,cond_true,m110_eq _ hn,Option.bind_some] at h0
   cases hN:KO t.name with
   | false=>rw [hN] at h0;cases h0
   | true =>
    rw [hN] at h0
    by_cases h8:8 < (t.levels.length:Int)
    ·rw [decide_eq_true h8] at h0;cases h0
    ·rw [decide_eq_false h8] at h0
     exact fin (fun _=>⟨hN,by omega⟩) (tail h0)
  ·rw [decide_eq_false k3] at h0
   exact fin (fun a=>(k3 a).elim) (tail h0)
theorem walk_ok (P:Int):∀ (n:Nat) (t:Tm) (dep:Nat),t.size≤n→dep+t.size≤900000000→Jc XT n (t,(dep:Int),max 1000000 0,P,1000000,1000000)=some 0→OkT t
 | 0,t,_,h,_,_=>by rw [t.size_eq] at h;omega
 | n+1,t,dep,h,hd,h0=>by
  have h0:Uu (Jc XT n) t (dep:Int) (max 1000000 0) P 1000000 1000000=some 0:=h0
  obtain ⟨e,h1,h2,h3⟩:=node_eq t (dep:Int) 1000000 P (by omega)
  rw [h2] at h0
  by_cases he:e=0
  ·subst he
   rw [if_pos rfl] at h0
   have hN:=node_ok t dep P (by omega) (by omega) h1
   obtain ⟨k0,k1⟩:=hN.k
   obtain ⟨v,hv,hj⟩:=bind_eq t.kind k0 k1
   have hl:=ZW t
   have key:∃ r,Qo (Z2 t (Jc XT n) (dep:Int) (max 1000000 0) P 1000000 1000000) Qt 0=some r∧((r=.inl ()∧∀ k∈t.kids,OkT k)∨∃ e:Int,e ≠ 0∧r=.inr e):=by
    refine Yk (step:=Z2 t (Jc XT n) (dep:Int) (max 1000000 0) P 1000000 1000000) t.kids (fun i (_:Unit)=>i) (fun a _=>∀ k∈a,OkT k) (fun r=>(r=.inl ()∧∀ k∈t.kids,OkT k)∨∃ e:Int,e ≠ 0∧r=.inr e) (by omega)
     (fun a x b _ e hI=>?_) (fun _ hI=>⟨.inl (),by unfold Z2;rw [JD];rfl,.inl ⟨rfl,hI⟩⟩) () (fun x hx=>by cases hx)
    obtain ⟨q1,q2⟩:=Zj e
    have hxs:=Js (t:=t) (k:=x) (by rw [e];simp)
    have hx:=num_le2 e
    obtain ⟨d',hd1,hd3⟩:∃ d':Nat,QG ((dep:Int)+(if (a.length:Int)=v then 1 else 0))=(d':Int)∧d'≤dep+1:=by
     by_cases hh:(a.length:Int)=v
     ·rw [if_pos hh,XX (by omega)];exact ⟨dep+1,rfl,Nat.le_refl _⟩
     ·rw [if_neg hh,Ys (by omega) (by omega)];exact ⟨dep,by omega,by omega⟩
    obtain ⟨e',w1,-,-⟩:=walk_eq 1000000 P t n x d' 0 (by omega) (by omega) (by omega)
    have st:Z2 t (Jc XT n) (dep:Int) (max 1000000 0) P 1000000 1000000 (a.length:Int)=cond (e' != 0) (some (.done (.inr e'))) (some (.next (QG ((a.length:Int)+1)))):=by
     unfold Z2
     rw [q1,q2]
     simp only [cond_true,Option.bind_some]
     rw [hj a.length]
     simp only [Option.bind_some]
     rw [hd1,w1];rfl
    by_cases he:e'=0
    ·subst he
     refine .inr ⟨(),st,fun z hz=>?_⟩
     rcases List.mem_append.1 hz with hz | hz
     ·exact hI z hz
     ·rw [List.mem_singleton.1 hz];exact walk_ok P n x d' (by omega) (by omega) w1
    ·refine .inl ⟨_,by rw [st,Un he];rfl,.inr ⟨e',he,rfl⟩⟩
   obtain ⟨r,hr1,hr2⟩:=key
   unfold WK at h0
   rw [hr1] at h0
   rcases hr2 with ⟨rfl,hk⟩ | ⟨e,he,rfl⟩
   ·exact .mk hN hk
   ·cases h0;exact (he rfl).elim
  ·rw [if_neg he] at h0;cases h0;exact (he rfl).elim
theorem check_ok (t:Tm) (h:t.size≤900000000) (h0:Dn t 1000000 1000000 1000000 1000000=some 0):OkT t:=by
 obtain ⟨e,h1,-,-⟩:=walk_eq 1000000 1000000 t Qt t 0 0 (by unfold Qt;omega) (by omega) (by omega)
 have h2:m65 t 0 (max 1000000 0) 1000000 1000000 1000000=some e:=h1
 unfold Dn at h0
 rw [h2,Option.bind_some] at h0
 by_cases he:e=0
 ·subst he
  exact walk_ok 1000000 Qt t 0 (by unfold Qt;omega) (by omega) h1
 ·rw [Un he] at h0;cases h0;exact (he rfl).elim
end Go.Proofs.YtjcfppnjamjjhaaGreatDoor
namespace Go.Proofs.YtjcfppnjamjjhaaGreatDoor
open Go.RowKit Go.Shelf
abbrev Ym (s:Bs):List Byt:=List.map (fun b:UInt8=>(⟨b.toNat⟩:Byt)) s
def wordsT:List Bs:=[[97,112,112],[108,97,109],[112,105],[115,105,103,109,97],[112,97,105,114],[102,115,116],[115,110,100],[108,101,116]]
def ZP (k:Int):Bs:=(wordsT[(k - 4).toNat]?).getD []
def Ur (l:Lvl):Bs:=[91]++U1 l++[93]
def Xt (ls:List Lvl):Bs:=(ls.map fun l=>[32]++Ur l).flatten
def JK:Tm→Bs
 | .mk k i n ls ks=>if k=0 then [35]++KY i.toNat else if k=12 then [63]++KY i.toNat else if k=1 then [112,114,111,112] else
  if k=2 then [40,115,111,114,116,32]++(ls.map Ur).headD []++[41] else
  if k=3 then (if ls=[]∧n ≠ [112,114,111,112] then n else [40,99,111,110,115,116,32]++n++Xt ls++[41]) else
  [40]++ZP k++(ks.attach.map fun k=>[32]++JK k.1).flatten++[41]
termination_by t=>SizeOf.sizeOf t
decreasing_by
 have:=List.sizeOf_lt_of_mem k.2
 simp only [Tm.mk.sizeOf_spec];omega
def Kc (ks:List Tm):Bs:=(ks.map fun k=>[32]++JK k).flatten
theorem ZR (k i:Int) (n:Bs) (ls:List Lvl) (ks:List Tm):JK (.mk k i n ls ks)=if k=0 then [35]++KY i.toNat else if k=12 then [63]++KY i.toNat else if k=1 then [112,114,111,112] else
  if k=2 then [40,115,111,114,116,32]++(ls.map Ur).headD []++[41] else
  if k=3 then (if ls=[]∧n ≠ [112,114,111,112] then n else [40,99,111,110,115,116,32]++n++Xt ls++[41]) else
  [40]++ZP k++Kc ks++[41]:=by
 rw [JK]
 have:(ks.attach.map fun k=>[32]++JK k.1).flatten=Kc ks:=by
  unfold Kc
  rw [List.attach_map_val (f:=fun k=>[32]++JK k)]
 rw [this]
theorem K3 {i:Int} (h0:0≤i) (h:i < 1000000000):(KY i.toNat).length≤9:=GC 8 _ (by omega)
theorem wordT_len {k:Int} (h:4≤k) (h2:k < 12):(ZP k).length≤5∧wordsT[(k - 4).toNat]?=some (ZP k):=by
 have:k=4∨k=5∨k=6∨k=7∨k=8∨k=9∨k=10∨k=11:=by omega
 rcases this with rfl | rfl | rfl | rfl | rfl | rfl | rfl | rfl <;> exact ⟨by decide,rfl⟩
theorem brT_len {l:Lvl} (h:Wb l):(Ur l).length+1≤36 * lvz l:=by
 have h1:=textL_len h
 have h2:lvz l=1+l.vs.length:=by unfold lvz;rw [List.map_const',List.sum_replicate_nat];omega
 unfold Ur
 simp only [List.length_append,List.length_cons,List.length_nil]
 omega
theorem flatLe {α:Type} (f:α→Bs) (g:α→Nat):∀ l:List α,(∀ x∈l,(f x).length≤g x)→(l.map f).flatten.length≤(l.map g).sum
 | [],h=>Nat.le_refl _
 | x::l,h=>by
  simp only [List.map_cons,List.flatten_cons,List.length_append,List.sum_cons]
  have h1:=h x List.mem_cons_self
  have h2:=flatLe f g l fun y hy=>h y (List.mem_cons_of_mem _ hy)
  omega
theorem sum_mul {α:Type} (c:Nat) (g:α→Nat):∀ l:List α,(l.map fun x=>c * g x).sum=c * (l.map g).sum
 | []=>rfl
 | x::l=>by simp only [List.map_cons,List.sum_cons,sum_mul c g l,Nat.mul_add]
theorem lvsT_len {ls:List Lvl} (h:∀ l∈ls,Wb l):(Xt ls).length≤36 * (ls.map lvz).sum:=by
 rw [← sum_mul]
 refine flatLe _ _ ls fun l hl=>?_
 have:=brT_len (h l hl)
 simp only [List.length_append,List.length_cons,List.length_nil];omega
theorem textT_len (t:Tm):OkT t→(JK t).length+1≤60 * t.size:=by
 induction t using Tm.ind with
 | h t ih =>
  intro h
  have hN:=h.node
  have hk:(Kc t.kids).length≤60 * (t.kids.map Tm.size).sum:=by
   rw [← sum_mul]
   refine flatLe _ _ _ fun k hk=>?_
   have:=ih k hk (h.kid hk)
   simp only [List.length_append,List.length_cons,List.length_nil];omega
  have hv:=lvsT_len hN.lv
  have hs:=t.size_eq
  have hd:=K3 hN.ix0 hN.ix1
  obtain ⟨k,i,n,ls,ks⟩:=t
  obtain ⟨⟨c1,c2⟩,-,-,-,-,-,-,l2,-,-,-,lv⟩:=hN
  dsimp only [Tm.kind,Tm.index,Tm.name,Tm.levels,Tm.kids] at *
  rw [ZR]
  split
  ·simp only [List.length_append,List.length_cons,List.length_nil];omega
  split
  ·simp only [List.length_append,List.length_cons,List.length_nil];omega
  split
  ·simp only [List.length_cons,List.length_nil];omega
  split
  ·rename_i h2
   have:=l2 h2
   match ls,this with
   | [l],_ =>
    have:=brT_len (lv l (by simp))
    simp only [List.map_cons,List.map_nil,List.headD_cons,List.length_append,List.length_cons,List.length_nil,List.sum_cons,List.sum_nil] at *
    omega
  split
  ·split
   ·omega
   ·simp only [List.length_append,List.length_cons,List.length_nil];omega
  ·have:=(wordT_len (k:=k) (by omega) (by omega)).1
   simp only [List.length_append,List.length_cons,List.length_nil];omega
theorem m62_9 {a:Int} (h0:0≤a) (h1:a < 1000000000):D8 a=some (KY a.toNat):=by
 unfold D8
 rw [Qv (by rw [decide_eq_true (by omega),decide_eq_true (by omega)];rfl),itoa_nn h0]
def m68F (rc:Int→Option Bs) (u:Int):Option Bs:=UL rc u
theorem m68_dig (rc:Int→Option Bs) {n:Nat} (h:n < 10):UL rc (n:Int)=some (KY n):=by
 have:n=0∨n=1∨n=2∨n=3∨n=4∨n=5∨n=6∨n=7∨n=8∨n=9:=by omega
 rcases this with rfl | rfl | rfl | rfl | rfl | rfl | rfl | rfl | rfl | rfl <;> (rw [Wj (by omega)];rfl)
theorem m68_rec:∀ (f n:Nat),n < 10 ^ f→n < 1000000000→Jc m68F f (n:Int)=some (KY n)∨(f=0)
 | 0,n,h,hn=>.inr rfl
 | f+1,n,h,hn=>by
  refine .inl ?_
  show UL (Jc m68F f) (n:Int)=_
  by_cases h1:n < 10
  ·exact m68_dig _ h1
  ·unfold UL
   rw [decide_eq_false (by omega:¬ (n:Int) < 10),cond_false]
   have ed:Int.tdiv (n:Int) 10=((n / 10:Nat):Int):=rfl
   have em:Int.tmod (n:Int) 10=((n % 10:Nat):Int):=rfl
   rw [ed,em,Ys (by omega) (by omega)]
   have hf:f ≠ 0:=fun hf=>by subst hf;omega
   have hr:Jc m68F f ((n / 10:Nat):Int)=some (KY (n / 10)):=by
    rcases m68_rec f (n / 10) (by rw [Nat.pow_succ] at h;omega) (by omega) with h2 | h2
    ·exact h2
    ·exact (hf h2).elim
   have hm:Jc m68F f ((n % 10:Nat):Int)=some (KY (n % 10)):=by
    cases f with
    | zero=>exact (hf rfl).elim
    | succ f=>exact m68_dig _ (by omega)
   have e10:KY n=KY (n / 10)++KY (n % 10):=by rw [dec_ge h1,Wj (n:=n % 10) (by omega)]
   rw [hr,Option.bind_some]
   refine (Qv Z).trans ?_
   rw [hm,Option.bind_some,← e10]
   refine Qv (Nat.ble_eq_true_of_le ?_)
   have h3:=GC 8 (n / 10) (by omega)
   have h4:=GC 8 (n % 10) (by omega)
   omega
theorem m68_eq {a:Int} (h0:0≤a) (h1:a < 1000000000):m68 a=some (KY a.toNat):=by
 obtain ⟨n,rfl⟩:=Int.eq_ofNat_of_zero_le h0
 rw [Int.toNat_natCast]
 rcases m68_rec Qt n (Nat.lt_of_lt_of_le (by omega:n < 10 ^ 9) (Nat.pow_le_pow_right (by omega) (by unfold Qt;omega))) (by omega) with h2 | h2
 ·exact h2
 ·unfold Qt at h2;omega
theorem m63_eq {l:Lvl} (h:Wb l) (hn:l.vs.length≤2000000):Ds l=some (Ur l):=by
 have h1:=textL_len h
 unfold Ds Ur
 rw [m114_eq h (by omega),Option.bind_some]
 rw [Qv (Nat.ble_eq_true_of_le (by simp only [List.length_cons,List.length_nil];omega)),Qv (Nat.ble_eq_true_of_le (by simp only [List.length_append,List.length_cons,List.length_nil];omega))]
theorem app_loop {α β:Type} {step:Int×List β→Option (LO (Int×List β) (List β))} (l:List α) (g:α→List β) (b0:List β) (hlen:l.length≤900000000)
  (hin:∀ (a:List α) (x:α) (b:List α) (s:List β),l=a++x::b→s=b0++(a.map g).flatten→step ((a.length:Int),s)=some (.next (QG ((a.length:Int)+1),s++g x)))
  (hout:∀ s,step ((l.length:Int),s)=some (.done s)):Qo step Qt (0,b0)=some (b0++(l.map g).flatten):=by
 obtain ⟨r,h1,h2⟩:=Yk (step:=step) l (fun i (s:List β)=>(i,s)) (fun a s=>s=b0++(a.map g).flatten) (fun r=>r=b0++(l.map g).flatten) hlen
  (fun a x b s e hI=>.inr ⟨s++g x,hin a x b s e hI,by rw [hI,List.map_append,List.flatten_append];simp⟩) (fun s hI=>⟨s,hout s,hI⟩) b0 (by simp)
 exact h1.trans (by rw [h2])
theorem app_loop2 {α β:Type} {step:List β×Int→Option (LO (List β×Int) (List β))} (l:List α) (g:α→List β) (b0:List β) (hlen:l.length≤900000000)
  (hin:∀ (a:List α) (x:α) (b:List α) (s:List β),l=a++x::b→s=b0++(a.map g).flatten→step (s,(a.length:Int))=some (.next (s++g x,QG ((a.length:Int)+1))))
  (hout:∀ s,step (s,(l.length:Int))=some (.done s)):Qo step Qt (b0,0)=some (b0++(l.map g).flatten):=by
 obtain ⟨r,h1,h2⟩:=Yk (step:=step) l (fun i (s:List β)=>(s,i)) (fun a s=>s=b0++(a.map g).flatten) (fun r=>r=b0++(l.map g).flatten) hlen
  (fun a x b s e hI=>.inr ⟨s++g x,hin a x b s e hI,by rw [hI,List.map_append,List.flatten_append];simp⟩) (fun s hI=>⟨s,hout s,hI⟩) b0 (by simp)
 exact h1.trans (by rw [h2])
theorem Kh (a b:Bs):Ym (a++b)=Ym a++Ym b:=List.map_append
theorem bts_len (a:Bs):(Ym a).length=a.length:=List.length_map ..
theorem flat_bts {α:Type} (f:α→Bs):∀ l:List α,(l.map fun x=>Ym (f x)).flatten=Ym (l.map f).flatten
 | []=>rfl
 | x::l=>by simp only [List.map_cons,List.flatten_cons,flat_bts f l,Kh]
theorem pre_len {α:Type} (f:α→Bs) {l a b:List α} {x:α} (e:l=a++x::b):(a.map f).flatten.length+(f x).length≤(l.map f).flatten.length:=by
 rw [e];simp
end Go.Proofs.YtjcfppnjamjjhaaGreatDoor
namespace Go.Proofs.YtjcfppnjamjjhaaGreatDoor
open Go.RowKit Go.Shelf
def wL0  (a1:Tm):(Int×(List Byt))→Option (LO (Int×(List Byt)) ((List Byt))):=(fun s909=>cond ((decide (s909.1 < (a1.levels.length:Int)))) (Option.bind (Jy a1.levels s909.1) fun (x911:Lvl)=>Option.bind (Ds x911) fun (x912:(List UInt8))=>Qd (Nat.ble (([32]:List UInt8).length+x912.length) 1000000000) (Qd (Nat.ble (s909.2.length+(([32]:List UInt8)++x912).length) 1000000000) (some (.next ((QG (s909.1+1)),(s909.2++(List.map (fun b:UInt8=>(⟨b.toNat⟩:Byt)) (([32]:List UInt8)++x912)))))))) (some (.done s909.2)))
def wL1 (rc:(List Byt)×Tm→Option (((List Byt)×Unit)⊕(Unit×(List Byt)))) (a1:Tm):(Int×(List Byt))→Option (LO (Int×(List Byt)) ((List Byt))):=(fun s923=>cond ((decide (s923.1 < (a1.kids.length:Int)))) (Option.bind (Jy a1.kids s923.1) fun (x925:Tm)=>Qd (Nat.ble (s923.2.length+([32]:List UInt8).length) 1000000000) (Option.bind (K1 (rc ((s923.2++(List.map (fun b:UInt8=>(⟨b.toNat⟩:Byt)) ([32]:List UInt8))),x925))) fun (r926:(List Byt)×Unit)=>some (.next ((QG (s923.1+1)),r926.1)))) (some (.done s923.2)))
def qL0  (a0:Tm):((List UInt8)×Int)→Option (LO ((List UInt8)×Int) ((List UInt8))):=(fun s10=>cond ((decide (s10.2 < (a0.levels.length:Int)))) (Option.bind (Jy a0.levels s10.2) fun (x12:Lvl)=>Option.bind (DF x12) fun (x13:(List UInt8)×Int)=>Qd (Nat.ble (([32,91]:List UInt8).length+x13.1.length) 1000000000) (Qd (Nat.ble ((([32,91]:List UInt8)++x13.1).length+([93]:List UInt8).length) 1000000000) (Qd (Nat.ble (s10.1.length+((([32,91]:List UInt8)++x13.1)++([93]:List UInt8)).length) 1000000000) (some (.next ((s10.1++((([32,91]:List UInt8)++x13.1)++([93]:List UInt8))),(QG (s10.2+1)))))))) (some (.done s10.1)))
def qL1 (rc:Tm→Option (List UInt8)) (a0:Tm):((List UInt8)×Int)→Option (LO ((List UInt8)×Int) ((List UInt8))):=(fun s19=>cond ((decide (s19.2 < (a0.kids.length:Int)))) (Option.bind (Jy a0.kids s19.2) fun (x21:Tm)=>Option.bind (rc x21) fun (x22:(List UInt8))=>Qd (Nat.ble (([32]:List UInt8).length+x22.length) 1000000000) (Qd (Nat.ble (s19.1.length+(([32]:List UInt8)++x22).length) 1000000000) (some (.next ((s19.1++(([32]:List UInt8)++x22)),(QG (s19.2+1))))))) (some (.done s19.1)))
theorem app_loopB {α:Type} {step:Int×List Byt→Option (LO (Int×List Byt) (List Byt))} (l:List α) (f:α→Bs) (b0:List Byt) (hlen:l.length≤900000000) (hb:b0.length+(l.map f).flatten.length≤900000000)
  (hin:∀ (a:List α) (x:α) (b:List α) (s:List Byt),l=a++x::b→s.length+(f x).length≤900000000→step ((a.length:Int),s)=some (.next (QG ((a.length:Int)+1),s++Ym (f x))))
  (hout:∀ s,step ((l.length:Int),s)=some (.done s)):Qo step Qt (0,b0)=some (b0++Ym (l.map f).flatten):=by
 rw [← flat_bts]
 refine app_loop l (fun x=>Ym (f x)) b0 hlen (fun a x b s e hs=>hin a x b s e ?_) hout
 have:=pre_len f e
 rw [hs,flat_bts,List.length_append,bts_len]
 omega
theorem app_loopS {α:Type} {step:Bs×Int→Option (LO (Bs×Int) Bs)} (l:List α) (f:α→Bs) (b0:Bs) (hlen:l.length≤900000000) (hb:b0.length+(l.map f).flatten.length≤900000000)
  (hin:∀ (a:List α) (x:α) (b:List α) (s:Bs),l=a++x::b→s.length+(f x).length≤900000000→step (s,(a.length:Int))=some (.next (s++f x,QG ((a.length:Int)+1))))
  (hout:∀ s,step (s,(l.length:Int))=some (.done s)):Qo step Qt (b0,0)=some (b0++(l.map f).flatten):=by
 refine app_loop2 l f b0 hlen (fun a x b s e hs=>hin a x b s e ?_) hout
 have:=pre_len f e
 rw [hs,List.length_append]
 omega
theorem Gh {t:Tm} (h:t.size≤2000000) {l:Lvl} (hl:l∈t.levels):l.vs.length≤2000000:=by
 have h1:=levels_len t
 have h2:=lvz_len l
 have h3:=Gw lvz hl
 omega
theorem lvs_small {t:Tm}:t.levels.length≤t.size:=by
 have h1:=levels_len t
 have h2:=Xb lvz (fun l=>by unfold lvz;omega) t.levels
 omega
theorem wL0_eq (t:Tm) (hv:∀ l∈t.levels,Wb l) (hs:t.size≤2000000) (b0:List Byt) (hb:b0.length+(Xt t.levels).length≤900000000):Qo (wL0 t) Qt (0,b0)=some (b0++Ym (Xt t.levels)):=by
 refine app_loopB (step:=wL0 t) t.levels (fun l=>[32]++Ur l) b0 (by have:=lvs_small (t:=t);omega) hb (fun a x b s e hx=>?_) (fun s=>by unfold wL0;dsimp only;rw [JD];rfl)
 obtain ⟨q1,q2⟩:=Zj e
 have hm:x∈t.levels:=by rw [e];simp
 simp only [List.length_append,List.length_cons,List.length_nil] at hx
 unfold wL0
 dsimp only
 rw [q1,q2,cond_true,Option.bind_some,m63_eq (hv x hm) (Gh hs hm),Option.bind_some,Qv (Nat.ble_eq_true_of_le (by simp only [List.length_cons,List.length_nil];omega)),Qv (Nat.ble_eq_true_of_le (by simp only [List.length_append,List.length_cons,List.length_nil];omega))]
theorem wL1_eq (rc:(List Byt)×Tm→Option (((List Byt)×Unit)⊕(Unit×(List Byt)))) (t:Tm) (hs:t.size≤2000000) (b0:List Byt) (hb:b0.length+(Kc t.kids).length≤900000000)
  (hr:∀ k∈t.kids,∀ b:List Byt,b.length+(JK k).length≤900000000→rc (b,k)=some (.inl (b++Ym (JK k),()))):Qo (wL1 rc t) Qt (0,b0)=some (b0++Ym (Kc t.kids)):=by
 refine app_loopB (step:=wL1 rc t) t.kids (fun k=>[32]++JK k) b0 (by have:=ZW t;omega) hb (fun a x b s e hx=>?_) (fun s=>by unfold wL1;dsimp only;rw [JD];rfl)
 obtain ⟨q1,q2⟩:=Zj e
 have hm:x∈t.kids:=by rw [e];simp
 simp only [List.length_append,List.length_cons,List.length_nil] at hx
 unfold wL1
 dsimp only
 rw [q1,q2,cond_true,Option.bind_some,Qv (Nat.ble_eq_true_of_le (by simp only [List.length_cons,List.length_nil];omega)),hr x hm _ (by simp only [List.length_append,List.length_cons,List.length_nil,List.length_map];omega)]
 show some _=some _
 rw [Kh,List.append_assoc]
theorem word_idx {k:Int} (h:4≤k) (h2:k < 12):Jy wordsT (QG (k - 4))=some (ZP k):=by
 rw [Ys (by omega) (by omega)]
 have h1:=(wordT_len h h2).2
 obtain ⟨n,hn⟩:=Int.eq_ofNat_of_zero_le (show 0≤k - 4 by omega)
 rw [hn] at h1 ⊢
 exact h1
theorem JC {a b:Int} (h:a ≠ b):(a==b)=false:=by rw [KG,decide_eq_false h]
theorem GG {a b:Int} (h:a=b):(a==b)=true:=by rw [KG,decide_eq_true h]
theorem one_level {t:Tm} (h:t.levels.length=1):∃ l,t.levels=[l]:=by
 match hl:t.levels,h with
 | [l],_=>exact ⟨l,rfl⟩
theorem bsne (a b:Bs):(!(a==b))=decide (a ≠ b):=by rw [beqB];by_cases h:a=b <;> simp [h]
theorem text0 {t:Tm} (h:t.kind=0):JK t=[35]++KY t.index.toNat:=by obtain ⟨k,i,n,ls,ks⟩:=t;rw [ZR];exact if_pos h
theorem text12 {t:Tm} (h:t.kind=12):JK t=[63]++KY t.index.toNat:=by obtain ⟨k,i,n,ls,ks⟩:=t;have h:k=12:=h;rw [ZR,if_neg (by omega),if_pos h];rfl
theorem text1 {t:Tm} (h:t.kind=1):JK t=[112,114,111,112]:=by obtain ⟨k,i,n,ls,ks⟩:=t;have h:k=1:=h;rw [ZR,if_neg (by omega),if_neg (by omega),if_pos h]
theorem text2 {t:Tm} {l:Lvl} (h:t.kind=2) (hl:t.levels=[l]):JK t=[40,115,111,114,116,32]++Ur l++[41]:=by
 obtain ⟨k,i,n,ls,ks⟩:=t
 have h:k=2:=h
 have hl:ls=[l]:=hl
 rw [ZR,if_neg (by omega),if_neg (by omega),if_neg (by omega),if_pos h,hl];rfl
theorem text3 {t:Tm} (h:t.kind=3):JK t=if t.levels=[]∧t.name ≠ [112,114,111,112] then t.name else [40,99,111,110,115,116,32]++t.name++Xt t.levels++[41]:=by
 obtain ⟨k,i,n,ls,ks⟩:=t
 have h:k=3:=h
 rw [ZR,if_neg (by omega),if_neg (by omega),if_neg (by omega),if_neg (by omega),if_pos h];rfl
theorem text4 {t:Tm} (h:4≤t.kind) (h2:t.kind ≠ 12):JK t=[40]++ZP t.kind++Kc t.kids++[41]:=by
 obtain ⟨k,i,n,ls,ks⟩:=t
 have h:4≤k:=h
 have h2:k ≠ 12:=h2
 rw [ZR,if_neg (by omega),if_neg (by omega),if_neg (by omega),if_neg (by omega),if_neg (by omega)];rfl
theorem named_cond (t:Tm):(cond (((t.levels.length:Int)==0)) (some (!(t.name==([112,114,111,112]:List UInt8)))) (some false))=some (decide (t.levels=[]∧t.name ≠ [112,114,111,112])):=by
 rw [KG,bsne]
 by_cases h:t.levels=[]
 ·rw [h];simp
 ·have:t.levels.length ≠ 0:=fun h2=>h (List.eq_nil_of_length_eq_zero h2)
  rw [decide_eq_false (p:=(t.levels.length:Int)=0) (by omega),decide_eq_false (p:=t.levels=[]∧t.name ≠ [112,114,111,112]) (fun h2=>h h2.1)];rfl
theorem app3 (b:List Byt) (x y z:Bs):b++Ym x++Ym y++Ym z=b++Ym (x++y++z):=by rw [Kh,Kh];simp
theorem write_rec:∀ (n:Nat) (t:Tm) (b:List Byt),t.size≤n→t.size≤2000000→OkT t→b.length+(JK t).length≤900000000→Jc (fun rc v=>Uw rc v.1 v.2) n (b,t)=some (.inl (b++Ym (JK t),()))
 | 0,t,b,h,_,_,_=>by rw [t.size_eq] at h;omega
 | n+1,t,b,h,h2,ht,hb=>by
  show Uw (Jc (fun rc v=>Uw rc v.1 v.2) n) b t=_
  have hN:=ht.node
  obtain ⟨k0,k1⟩:=hN.k
  unfold Uw
  by_cases e0:t.kind=0
  ·rw [text0 e0] at hb ⊢
   refine J3 (.inl (b++Ym ([35]++KY t.index.toNat))) ?_ Z
   rw [GG e0,cond_true,m62_9 hN.ix0 hN.ix1,Option.bind_some]
   have:=K3 hN.ix0 hN.ix1
   simp only [List.length_append,List.length_cons,List.length_nil] at hb
   rw [Qv (Nat.ble_eq_true_of_le (by simp only [List.length_cons,List.length_nil];omega)),Qv (Nat.ble_eq_true_of_le (by simp only [List.length_append,List.length_cons,List.length_nil];omega))]
  by_cases e12:t.kind=12
  ·rw [text12 e12] at hb ⊢
   refine J3 (.inl (b++Ym ([63]++KY t.index.toNat))) ?_ Z
   rw [JC e0,cond_false]
   refine J3 (.inl (b++Ym ([63]++KY t.index.toNat))) ?_ Z
   rw [GG e12,cond_true,m62_9 hN.ix0 hN.ix1,Option.bind_some]
   have:=K3 hN.ix0 hN.ix1
   simp only [List.length_append,List.length_cons,List.length_nil] at hb
   rw [Qv (Nat.ble_eq_true_of_le (by simp only [List.length_cons,List.length_nil];omega)),Qv (Nat.ble_eq_true_of_le (by simp only [List.length_append,List.length_cons,List.length_nil];omega))]
  by_cases e1:t.kind=1
  ·rw [text1 e1] at hb ⊢
   refine J3 (.inl (b++Ym [112,114,111,112])) ?_ Z
   rw [JC e0,cond_false]
   refine J3 (.inl (b++Ym [112,114,111,112])) ?_ Z
   rw [JC e12,cond_false]
   refine J3 (.inl (b++Ym [112,114,111,112])) ?_ Z
   rw [GG e1,cond_true,Qv (Nat.ble_eq_true_of_le (by omega))]
  by_cases e2:t.kind=2
  ·obtain ⟨l,hl⟩:=one_level (hN.l2 e2)
   have hv:=hN.lv l (by rw [hl];simp)
   rw [text2 e2 hl] at hb ⊢
   refine J3 (.inl (b++Ym ([40,115,111,114,116,32]++Ur l++[41]))) ?_ Z
   rw [JC e0,cond_false]
   refine J3 (.inl (b++Ym ([40,115,111,114,116,32]++Ur l++[41]))) ?_ Z
   rw [JC e12,cond_false]
   refine J3 (.inl (b++Ym ([40,115,111,114,116,32]++Ur l++[41]))) ?_ Z
   rw [JC e1,cond_false]
   refine J3 (.inl (b++Ym ([40,115,111,114,116,32]++Ur l++[41]))) ?_ Z
   simp only [List.length_append,List.length_cons,List.length_nil] at hb
   rw [GG e2,cond_true,hl,show Jy [l] 0=some l from rfl,Option.bind_some,m63_eq hv (Gh h2 (by rw [hl];simp)),Option.bind_some,Qv (Nat.ble_eq_true_of_le (by simp only [List.length_cons,List.length_nil];omega)),Qv (Nat.ble_eq_true_of_le (by simp only [List.length_append,List.length_cons,List.length_nil];omega)),Qv (Nat.ble_eq_true_of_le (by simp only [List.length_append,List.length_cons,List.length_nil];omega))]
  by_cases e3:t.kind=3
  ·rw [text3 e3] at hb ⊢
   by_cases hc:t.levels=[]∧t.name ≠ [112,114,111,112]
   ·rw [if_pos hc] at hb ⊢
    refine J3 (.inr (.inl (b++Ym t.name,()))) ?_ Z
    rw [JC e0,cond_false]
    refine J3 (.inr (.inl (b++Ym t.name,()))) ?_ Z
    rw [JC e12,cond_false]
    refine J3 (.inr (.inl (b++Ym t.name,()))) ?_ Z
    rw [JC e1,cond_false]
    refine J3 (.inr (.inl (b++Ym t.name,()))) ?_ Z
    rw [JC e2,cond_false]
    refine J3 (.inr (.inl (b++Ym t.name,()))) ?_ Z
    rw [GG e3,cond_true,named_cond,Option.bind_some,decide_eq_true hc,cond_true,Qv (Nat.ble_eq_true_of_le (by omega))]
   ·rw [if_neg hc] at hb ⊢
    rw [← app3]
    simp only [List.length_append,List.length_cons,List.length_nil] at hb
    have hL:=wL0_eq t hN.lv h2 (b++Ym ([40,99,111,110,115,116,32]++t.name)) (by simp only [List.length_append,List.length_cons,List.length_nil,List.length_map];omega)
    refine J3 (.inl (b++Ym ([40,99,111,110,115,116,32]++t.name)++Ym (Xt t.levels)++Ym [41])) ?_ Z
    rw [JC e0,cond_false]
    refine J3 (.inl (b++Ym ([40,99,111,110,115,116,32]++t.name)++Ym (Xt t.levels)++Ym [41])) ?_ Z
    rw [JC e12,cond_false]
    refine J3 (.inl (b++Ym ([40,99,111,110,115,116,32]++t.name)++Ym (Xt t.levels)++Ym [41])) ?_ Z
    rw [JC e1,cond_false]
    refine J3 (.inl (b++Ym ([40,99,111,110,115,116,32]++t.name)++Ym (Xt t.levels)++Ym [41])) ?_ Z
    rw [JC e2,cond_false]
    refine J3 (.inl (b++Ym ([40,99,111,110,115,116,32]++t.name)++Ym (Xt t.levels)++Ym [41])) ?_ Z
    rw [GG e3,cond_true,named_cond,Option.bind_some,decide_eq_false hc,cond_false,Qv (Nat.ble_eq_true_of_le (by simp only [List.length_cons,List.length_nil];omega)),Qv (Nat.ble_eq_true_of_le (by simp only [List.length_append,List.length_cons,List.length_nil];omega))]
    refine J3 _ hL ?_
    rw [Qv (Nat.ble_eq_true_of_le (by simp only [List.length_append,List.length_cons,List.length_nil,List.length_map];omega))]
  ·rw [text4 (by omega) e12] at hb ⊢
   rw [← app3]
   simp only [List.length_append,List.length_cons,List.length_nil] at hb
   have hw:=wordT_len (k:=t.kind) (by omega) (by omega)
   have hL:=wL1_eq (Jc (fun rc v=>Uw rc v.1 v.2) n) t h2 (b++Ym ([40]++ZP t.kind)) (by simp only [List.length_append,List.length_cons,List.length_nil,List.length_map];omega) (fun k hk b' hb'=>write_rec n k b' (by have:=Js hk;omega) (by have:=Js hk;omega) (ht.kid hk) hb')
   refine J3 (.inl (b++Ym ([40]++ZP t.kind)++Ym (Kc t.kids)++Ym [41])) ?_ Z
   rw [JC e0,cond_false]
   refine J3 (.inl (b++Ym ([40]++ZP t.kind)++Ym (Kc t.kids)++Ym [41])) ?_ Z
   rw [JC e12,cond_false]
   refine J3 (.inl (b++Ym ([40]++ZP t.kind)++Ym (Kc t.kids)++Ym [41])) ?_ Z
   rw [JC e1,cond_false]
   refine J3 (.inl (b++Ym ([40]++ZP t.kind)++Ym (Kc t.kids)++Ym [41])) ?_ Z
   rw [JC e2,cond_false]
   refine J3 (.inl (b++Ym ([40]++ZP t.kind)++Ym (Kc t.kids)++Ym [41])) ?_ Z
   rw [JC e3,cond_false]
   refine J3 _ (word_idx (by omega) (by omega)) ?_
   rw [Qv (Nat.ble_eq_true_of_le (by simp only [List.length_cons,List.length_nil];omega)),Qv (Nat.ble_eq_true_of_le (by simp only [List.length_append,List.length_cons,List.length_nil];omega))]
   refine J3 _ hL ?_
   rw [Qv (Nat.ble_eq_true_of_le (by simp only [List.length_append,List.length_cons,List.length_nil,List.length_map];omega))]
theorem m28_eq {t:Tm} {b:List Byt} (h:t.size≤2000000) (ht:OkT t) (hb:b.length+(JK t).length≤900000000):m28 b t=some (.inl (b++Ym (JK t),())) :=
 write_rec Qt t b (by unfold Qt;omega) h ht hb
theorem cap {b:Nat} (h:b≤900000000):Nat.ble b 1000000000=true:=Nat.ble_eq_true_of_le (by omega)
theorem qL0_eq (t:Tm) (hv:∀ l∈t.levels,Wb l) (hs:t.size≤2000000) (b0:Bs) (hb:b0.length+(Xt t.levels).length≤900000000):Qo (qL0 t) Qt (b0,0)=some (b0++Xt t.levels):=by
 refine app_loopS (step:=qL0 t) t.levels (fun l=>[32]++Ur l) b0 (by have:=lvs_small (t:=t);omega) hb (fun a x b s e hx=>?_) (fun s=>by unfold qL0;dsimp only;rw [JD];rfl)
 obtain ⟨q1,q2⟩:=Zj e
 have hm:x∈t.levels:=by rw [e];simp
 have ht:=textL_len (hv x hm)
 have hl:=Gh hs hm
 unfold Ur at hx ⊢
 simp only [List.length_append,List.length_cons,List.length_nil] at hx
 unfold qL0
 dsimp only
 rw [q1,q2,cond_true,Option.bind_some,m69_eq (hv x hm) (by omega),Option.bind_some,Qv (Nat.ble_eq_true_of_le (by simp only [List.length_cons,List.length_nil];omega)),Qv (Nat.ble_eq_true_of_le (by simp only [List.length_append,List.length_cons,List.length_nil];omega)),Qv (Nat.ble_eq_true_of_le (by simp only [List.length_append,List.length_cons,List.length_nil];omega))]
 simp
theorem qL1_eq (rc:Tm→Option (List UInt8)) (t:Tm) (hs:t.size≤2000000) (b0:Bs) (hb:b0.length+(Kc t.kids).length≤900000000)
  (hr:∀ k∈t.kids,rc k=some (JK k)):Qo (qL1 rc t) Qt (b0,0)=some (b0++Kc t.kids):=by
 refine app_loopS (step:=qL1 rc t) t.kids (fun k=>[32]++JK k) b0 (by have:=ZW t;omega) hb (fun a x b s e hx=>?_) (fun s=>by unfold qL1;dsimp only;rw [JD];rfl)
 obtain ⟨q1,q2⟩:=Zj e
 have hm:x∈t.kids:=by rw [e];simp
 simp only [List.length_append,List.length_cons,List.length_nil] at hx
 unfold qL1
 dsimp only
 rw [q1,q2,cond_true,Option.bind_some,hr x hm,Option.bind_some,Qv (Nat.ble_eq_true_of_le (by simp only [List.length_cons,List.length_nil];omega)),Qv (Nat.ble_eq_true_of_le (by simp only [List.length_append,List.length_cons,List.length_nil];omega))]
theorem m70_eq {k:Int} (h:4≤k) (h2:k < 12):m70 k=some (ZP k):=by
 unfold m70
 rw [decide_eq_false (by omega),decide_eq_false (by omega),cond_false,Option.bind_some,cond_false]
 exact J3 _ (word_idx h h2) Z
theorem ref_rec:∀ (n:Nat) (t:Tm),t.size≤n→t.size≤2000000→OkT t→Jc (fun rc v=>Uv rc v) n t=some (JK t)
 | 0,t,h,_,_=>by rw [t.size_eq] at h;omega
 | n+1,t,h,h2,ht=>by
  show Uv (Jc (fun rc v=>Uv rc v) n) t=_
  have hN:=ht.node
  obtain ⟨k0,k1⟩:=hN.k
  have hb:=textT_len t ht
  unfold Uv
  by_cases e0:t.kind=0
  ·rw [text0 e0]
   have:=K3 hN.ix0 hN.ix1
   rw [GG e0,cond_true,m68_eq hN.ix0 hN.ix1,Option.bind_some,Qv (Nat.ble_eq_true_of_le (by simp only [List.length_cons,List.length_nil];omega))]
  by_cases e12:t.kind=12
  ·rw [text12 e12]
   have:=K3 hN.ix0 hN.ix1
   rw [JC e0,cond_false,GG e12,cond_true,m68_eq hN.ix0 hN.ix1,Option.bind_some,Qv (Nat.ble_eq_true_of_le (by simp only [List.length_cons,List.length_nil];omega))]
  by_cases e1:t.kind=1
  ·rw [text1 e1,JC e0,cond_false,JC e12,cond_false,GG e1,cond_true]
  by_cases e2:t.kind=2
  ·obtain ⟨l,hl⟩:=one_level (hN.l2 e2)
   have hm:l∈t.levels:=by rw [hl];simp
   have hv:=hN.lv l hm
   have hL:=textL_len hv
   have hs:=Gh h2 hm
   rw [text2 e2 hl,JC e0,cond_false,JC e12,cond_false,JC e1,cond_false,GG e2,cond_true,hl,show Jy [l] 0=some l from rfl,Option.bind_some,m69_eq hv (by omega),Option.bind_some,
    Qv (Nat.ble_eq_true_of_le (by simp only [List.length_cons,List.length_nil];omega)),Qv (Nat.ble_eq_true_of_le (by simp only [List.length_append,List.length_cons,List.length_nil];omega))]
   unfold Ur;simp
  by_cases e3:t.kind=3
  ·rw [text3 e3] at hb ⊢
   rw [JC e0,cond_false,JC e12,cond_false,JC e1,cond_false,JC e2,cond_false,GG e3,cond_true,named_cond,Option.bind_some]
   by_cases hc:t.levels=[]∧t.name ≠ [112,114,111,112]
   ·rw [if_pos hc,decide_eq_true hc,cond_true]
   ·rw [if_neg hc] at hb ⊢
    simp only [List.length_append,List.length_cons,List.length_nil] at hb
    rw [decide_eq_false hc,cond_false,Qv (Nat.ble_eq_true_of_le (by simp only [List.length_cons,List.length_nil];omega))]
    refine J3 _ (qL0_eq t hN.lv h2 ([40,99,111,110,115,116,32]++t.name) (by simp only [List.length_append,List.length_cons,List.length_nil];omega)) ?_
    rw [Qv (Nat.ble_eq_true_of_le (by simp only [List.length_append,List.length_cons,List.length_nil];omega))]
  ·rw [text4 (by omega) e12] at hb ⊢
   simp only [List.length_append,List.length_cons,List.length_nil] at hb
   rw [JC e0,cond_false,JC e12,cond_false,JC e1,cond_false,JC e2,cond_false,JC e3,cond_false,m70_eq (by omega) (by omega),Option.bind_some,Qv (Nat.ble_eq_true_of_le (by simp only [List.length_cons,List.length_nil];omega))]
   refine J3 _ (qL1_eq (Jc (fun rc v=>Uv rc v) n) t h2 ([40]++ZP t.kind) (by simp only [List.length_append,List.length_cons,List.length_nil];omega) (fun k hk=>ref_rec n k (by have:=Js hk;omega) (by have:=Js hk;omega) (ht.kid hk))) ?_
   rw [Qv (Nat.ble_eq_true_of_le (by simp only [List.length_append,List.length_cons,List.length_nil];omega))]
theorem m32_eq {t:Tm} (h:t.size≤2000000) (ht:OkT t):m32 t=some (JK t):=ref_rec Qt t (by unfold Qt;omega) h ht
def Xp (e:Int) (t:Tm):Bs×Int:=if e=0 then (if 65536 < (JK t).length then ([],5) else (JK t,0)) else ([],e)
theorem m14_eq {t:Tm} {e:Int} (h:t.size≤2000000) (he:Dn t 1000000 1000000 1000000 1000000=some e):DN t=some (Xp e t):=by
 unfold DN Xp
 rw [he,Option.bind_some]
 by_cases h0:e=0
 ·subst h0
  rw [if_pos rfl,m32_eq h (check_ok t (by omega) he)]
  show cond (decide (65536 < ((JK t).length:Int))) _ _=_
  by_cases hl:65536 < (JK t).length
  ·rw [if_pos hl,decide_eq_true (by omega)];rfl
  ·rw [if_neg hl,decide_eq_false (by omega)];rfl
 ·rw [Un h0,if_neg h0];rfl
theorem u8_bts (s:Bs):List.map Byt.u8 (Ym s)=s:=by
 unfold Ym
 rw [List.map_map]
 conv=>rhs;rw [← List.map_id s]
 refine List.map_congr_left fun b _=>?_
 show Byt.u8 ⟨(b.toNat:Int)⟩=b
 unfold Byt.u8
 simp
theorem all_bts (s:Bs):List.all (Ym s) (fun x:Byt=>cond (decide (0≤x.n)) (decide (x.n < 256)) false)=true:=by
 rw [List.all_eq_true]
 intro x hx
 obtain ⟨b,_,rfl⟩:=List.mem_map.1 hx
 have:=b.toNat_lt
 show cond (decide (0≤(b.toNat:Int))) (decide ((b.toNat:Int) < 256)) false=true
 rw [decide_eq_true (by omega),decide_eq_true (by omega)];rfl
theorem X2 (v:List Byt) (s:Bs) (hv:v=Ym s) (hs:s ≠ []):Option.bind (some (v.length:Int)) (fun n=>cond (decide (65536 < n)) (some (([]:List UInt8),(5:Int))) (Qd (cond (List.all v (fun x:Byt=>cond (decide (0≤x.n)) (decide (x.n < 256)) false)) (!(List.isEmpty v)) false) (some ((List.map Byt.u8 v),0))))=some (if 65536 < s.length then ([],5) else (s,0)):=by
 subst hv
 rw [Option.bind_some,bts_len]
 by_cases hl:65536 < s.length
 ·rw [if_pos hl,decide_eq_true (by omega)];rfl
 ·rw [if_neg hl,decide_eq_false (by omega),cond_false,Qv (by
   rw [all_bts,cond_true]
   cases s with
   | nil=>exact (hs rfl).elim
   | cons x s=>rfl),u8_bts]
theorem name_ne {s:Bs} (h:KO s=true):s ≠ []:=by
 rintro rfl
 revert h
 decide
end Go.Proofs.YtjcfppnjamjjhaaGreatDoor
namespace Go.Proofs.YtjcfppnjamjjhaaGreatDoor
open Go.RowKit
set_option maxRecDepth 100000
theorem en_26:Qg Tryz.prog 26:=enters_of Tryz.func26 (by kernel_rfl) rfl
def Ua (rc:Tm×Int→Option (Int)) (a0:Tm) (a1:Int):Option (Int) :=
 Option.bind (Qo (σ:=Int×Int) (β:=Int) (fun s5=>Option.bind (cond ((decide (s5.2 < (a0.levels.length:Int)))) (some (decide (0≤s5.1))) (some false)) fun (v7:Bool)=>cond v7 (Option.bind (Jy a0.levels s5.2) fun (x8:Lvl)=>some (.next ((QG (s5.1 - (x8.vs.length:Int))),(QG (s5.2+1))))) (some (.done s5.1))) Qt ((QG ((QG (a1 - 1)) - (a0.levels.length:Int))),0)) fun (v6:Int)=>Option.bind (Qo (σ:=Int×Int) (β:=Int) (fun s15=>Option.bind (cond ((decide (s15.2 < (a0.kids.length:Int)))) (some (decide (0≤s15.1))) (some false)) fun (v17:Bool)=>cond v17 (Option.bind (Jy a0.kids s15.2) fun (x18:Tm)=>Option.bind (rc (x18,s15.1)) fun (x19:Int)=>some (.next (x19,(QG (s15.2+1))))) (some (.done s15.1))) Qt (v6,0)) fun (v16:Int)=>cond ((decide (100 < (a0.name.length:Int)))) (some (-1)) (some v16)
def m26r:Tm×Int→Option (Int):=Jc (fun rc v=>Ua rc v.1 v.2) Qt
def m26 (a0:Tm) (a1:Int):Option (Int):=m26r (a0,a1)
noncomputable def k26:KF UV:=⟨[.stc .t25,.int .i64],[.int .i64],fun v=>m26 v.1 v.2⟩
noncomputable def H26:Hints UV:=⟨[(3,⟨[([.reg 1],.int .i64),([.reg 5],.int .i64)],[([.reg 1],.int .i64)],false⟩),(4,⟨[([.reg 21],.bool)],[],false⟩),(10,⟨[([.reg 1],.int .i64),([.reg 6],.int .i64)],[([.reg 1],.int .i64)],false⟩),(11,⟨[([.reg 41],.bool)],[],false⟩)],[]⟩
theorem k26s_ok (rc:tup k26.args→Option (tup k26.res)) (H:∀ u r,rc u=some r→FunW W0 Tryz.prog 26 (QO DV k26.args u) (Qu (QO DV k26.res r))):Ya DV W0 Tryz.prog 26 ⟨k26.args,k26.res,fun v=>Ua rc v.1 v.2⟩:=Yy (C:=CV) rfl QK Qw (QJ (tb:=[(26,(⟨k26.args,k26.res,rc⟩:KF UV))]) Qw ⟨⟨rfl,H⟩,trivial⟩) JS Tryz.func26 en_26 H26 _ rfl (fun v=>by kernel_rfl)
theorem k26_ok:Ya DV W0 Tryz.prog 26 k26:=⟨rfl,fun v r h=>Y6 (C:=fun u r=>FunW W0 Tryz.prog 26 (QO DV k26.args u) (Qu (QO DV k26.res r))) (fun rc H u r h=>(k26s_ok rc H).2 u r h) Qt v r h⟩
theorem en_11:Qg Tryz.prog 11:=enters_of Tryz.func11 (by kernel_rfl) rfl
def m11 (a0:Tm) (a1:Int):Option (Bool) :=
 Option.bind (m26 a0 a1) fun (x1:Int)=>some (decide (0≤x1))
noncomputable def k11:KF UV:=⟨[.stc .t25,.int .i64],[.bool],fun v=>m11 v.1 v.2⟩
noncomputable def H11:Hints UV:=⟨[],[]⟩
theorem k11_ok:Ya DV W0 Tryz.prog 11 k11:=Yy (C:=CV) rfl QK Qw (QJ (tb:=[(26,k26)]) Qw ⟨k26_ok,trivial⟩) JS Tryz.func11 en_11 H11 k11 rfl (fun v=>by kernel_rfl)
theorem en_12:Qg Tryz.prog 12:=enters_of Tryz.func12 (by kernel_rfl) rfl
def m12:Option (Bool) :=
 Option.bind (m15 ([40,32,108,97,109,10,112,114,111,112,32,35,48,32,41]:List UInt8)) fun (x1:Tm×Int×Int)=>Option.bind (Dt x1.1) fun (x2:(List UInt8)×Int)=>Option.bind (m15 ([40,97,112,112,32,102,41]:List UInt8)) fun (x3:Tm×Int×Int)=>Option.bind (m15 ([35,48,49]:List UInt8)) fun (x4:Tm×Int×Int)=>Option.bind (cond ((x1.2.2==0)) (cond ((x2.2==0)) (cond ((x2.1==([40,108,97,109,32,112,114,111,112,32,35,48,41]:List UInt8))) (cond ((x3.2.1==6)) (cond ((x3.2.2==4)) (cond ((x4.2.1==0)) (some (x4.2.2==4)) (some false)) (some false)) (some false)) (some false)) (some false)) (some false)) fun (v5:Bool)=>some v5
noncomputable def k12:KF UV:=⟨[],[.bool],fun v=>m12⟩
noncomputable def H12:Hints UV:=⟨[(5,⟨[([.reg 0],.bool)],[],false⟩)],[]⟩
theorem k12_ok:Ya DV W0 Tryz.prog 12 k12:=Yy (C:=CV) rfl QK Qw (QJ (tb:=[(13,k13),(15,k15)]) Qw ⟨k13_ok,k15_ok,trivial⟩) JS Tryz.func12 en_12 H12 k12 rfl (fun v=>by kernel_rfl)
theorem en_3:Qg Tryz.prog 3:=enters_of Tryz.func3 (by kernel_rfl) rfl
def m3 (a0:Tm):Option (Bool) :=
 Option.bind (m11 a0 200) fun (x1:Bool)=>cond ((!x1)) (Option.bind (m12) fun (x2:Bool)=>some x2) (Option.bind (Dt a0) fun (x3:(List UInt8)×Int)=>Option.bind (DN a0) fun (x4:(List UInt8)×Int)=>Option.bind (Option.bind (m12) fun (x7:Bool)=>cond x7 (cond ((x3.1==x4.1)) (some (x3.2==x4.2)) (some false)) (some false)) fun (v6:Bool)=>some v6)
noncomputable def k3:KF UV:=⟨[.stc .t25],[.bool],fun v=>m3 v⟩
noncomputable def H3:Hints UV:=⟨[(6,⟨[([.reg 2],.bool)],[],false⟩)],[]⟩
theorem k3_ok:Ya DV W0 Tryz.prog 3 k3:=Yy (C:=CV) rfl QK Qw (QJ (tb:=[(11,k11),(12,k12),(13,k13),(14,k14)]) Qw ⟨k11_ok,k12_ok,k13_ok,k14_ok,trivial⟩) JS Tryz.func3 en_3 H3 k3 rfl (fun v=>by kernel_rfl)
end Go.Proofs.YtjcfppnjamjjhaaGreatDoor
namespace Go.Proofs.YtjcfppnjamjjhaaGreatDoor
open Go.RowKit Go.Shelf
theorem m13_ok1 {t:Tm} (h:t.size≤2000000) (ht:OkT t) (he:Dx t 1000000 1000000 1000000 1000000=some 0):Dt t=some (if 65536 < (JK t).length then ([],5) else (JK t,0)):=by
 have hN:=ht.node
 obtain ⟨k0,k1⟩:=hN.k
 have hb:=textT_len t ht
 unfold Dt
 rw [he,Option.bind_some,show ((0:Int) != 0)=false from rfl,cond_false]
 by_cases e0:t.kind=0
 ·rw [text0 e0]
  have:=K3 hN.ix0 hN.ix1
  rw [GG e0,cond_true,m62_9 hN.ix0 hN.ix1,Option.bind_some]
  rw [Qv (Nat.ble_eq_true_of_le (by simp only [List.length_cons,List.length_nil];omega)),Qv (Nat.ble_eq_true_of_le (by simp only [List.length_append,List.length_cons,List.length_nil];omega))]
  exact X2 _ _ rfl (by simp)
 by_cases e12:t.kind=12
 ·rw [text12 e12]
  have:=K3 hN.ix0 hN.ix1
  rw [JC e0,cond_false,GG e12,cond_true,m62_9 hN.ix0 hN.ix1,Option.bind_some]
  rw [Qv (Nat.ble_eq_true_of_le (by simp only [List.length_cons,List.length_nil];omega)),Qv (Nat.ble_eq_true_of_le (by simp only [List.length_append,List.length_cons,List.length_nil];omega))]
  exact X2 _ _ rfl (by simp)
 by_cases e1:t.kind=1
 ·rw [text1 e1,JC e0,cond_false,JC e12,cond_false,GG e1,cond_true,Qv (Nat.ble_eq_true_of_le (by decide))]
  exact X2 _ _ rfl (by simp)
 by_cases e2:t.kind=2
 ·obtain ⟨l,hl⟩:=one_level (hN.l2 e2)
  have hm:l∈t.levels:=by rw [hl];simp
  have hv:=hN.lv l hm
  rw [text2 e2 hl] at hb ⊢
  simp only [List.length_append,List.length_cons,List.length_nil] at hb
  rw [JC e0,cond_false,JC e12,cond_false,JC e1,cond_false,GG e2,cond_true,hl,show Jy [l] 0=some l from rfl,Option.bind_some,m63_eq hv (Gh h hm),Option.bind_some,Qv (Nat.ble_eq_true_of_le (by simp only [List.length_cons,List.length_nil];omega)),Qv (Nat.ble_eq_true_of_le (by simp only [List.length_append,List.length_cons,List.length_nil];omega)),Qv (Nat.ble_eq_true_of_le (by simp only [List.length_append,List.length_cons,List.length_nil];omega))]
  exact X2 _ _ rfl (by simp)
 by_cases e3:t.kind=3
 ·rw [text3 e3] at hb ⊢
  rw [JC e0,cond_false,JC e12,cond_false,JC e1,cond_false,JC e2,cond_false,GG e3,cond_true,named_cond,Option.bind_some]
  by_cases hc:t.levels=[]∧t.name ≠ [112,114,111,112]
  ·rw [if_pos hc] at hb ⊢
   rw [decide_eq_true hc,cond_true,Qv (Nat.ble_eq_true_of_le (by omega))]
   exact X2 _ _ Z (name_ne (hN.nk e3))
  ·rw [if_neg hc] at hb ⊢
   simp only [List.length_append,List.length_cons,List.length_nil] at hb
   rw [decide_eq_false hc,cond_false,Qv (Nat.ble_eq_true_of_le (by simp only [List.length_cons,List.length_nil];omega)),Qv (Nat.ble_eq_true_of_le (by simp only [List.length_append,List.length_cons,List.length_nil];omega))]
   refine J3 _ (wL0_eq t hN.lv h (Ym ([40,99,111,110,115,116,32]++t.name)) (by simp only [List.length_append,List.length_cons,List.length_nil,List.length_map];omega)) ?_
   rw [Qv (Nat.ble_eq_true_of_le (by simp only [List.length_append,List.length_cons,List.length_nil,List.length_map];omega))]
   exact X2 _ _ (by rw [← Kh,← Kh]) (by simp)
 ·rw [text4 (by omega) e12] at hb ⊢
  simp only [List.length_append,List.length_cons,List.length_nil] at hb
  rw [JC e0,cond_false,JC e12,cond_false,JC e1,cond_false,JC e2,cond_false,JC e3,cond_false]
  refine J3 _ (word_idx (by omega) (by omega)) ?_
  rw [Qv (Nat.ble_eq_true_of_le (by simp only [List.length_cons,List.length_nil];omega)),Qv (Nat.ble_eq_true_of_le (by simp only [List.length_append,List.length_cons,List.length_nil];omega))]
  refine J3 _ (wL1_eq m28r t h (Ym ([40]++ZP t.kind)) (by simp only [List.length_append,List.length_cons,List.length_nil,List.length_map];omega) (fun k hk b' hb'=>m28_eq (by have:=Js hk;omega) (ht.kid hk) hb')) ?_
  rw [Qv (Nat.ble_eq_true_of_le (by simp only [List.length_append,List.length_cons,List.length_nil,List.length_map];omega))]
  exact X2 _ _ (by rw [← Kh,← Kh]) (by simp)
theorem print_eq (t:Tm) (h:t.size≤2000000):∃ e,Dt t=some (Xp e t)∧DN t=some (Xp e t):=by
 obtain ⟨e,h1,h2⟩:=m27_eq t 1000000 1000000 (by omega)
 refine ⟨e,?_,m14_eq h h1⟩
 by_cases h0:e=0
 ·subst h0
  unfold Xp
  rw [if_pos rfl]
  exact m13_ok1 h (check_ok t (by omega) h1) h2
 ·unfold Dt Xp
  rw [h2,Option.bind_some,Un h0,if_neg h0];rfl
theorem awake_true:m12=some true:=by kernel_rfl
theorem nodes_some:∀ (n:Nat) (t:Tm) (a:Int),t.size≤n→t.size≤2000000→∃ r,Jc (fun rc v=>Ua rc v.1 v.2) n (t,a)=some r
 | 0,t,a,h,_=>by rw [t.size_eq] at h;omega
 | n+1,t,a,h,h2=>by
  have hl:=ZW t
  have hv:=lvs_small (t:=t)
  show ∃ r,Ua (Jc (fun rc v=>Ua rc v.1 v.2) n) t a=some r
  unfold Ua
  obtain ⟨r1,h3,-⟩:=Yk (step:=fun (s5:Int×Int)=>Option.bind (cond ((decide (s5.2 < (t.levels.length:Int)))) (some (decide (0≤s5.1))) (some false)) fun (v7:Bool)=>cond v7 (Option.bind (Jy t.levels s5.2) fun (x8:Lvl)=>some (LO.next (β:=Int) ((QG (s5.1 - (x8.vs.length:Int))),(QG (s5.2+1))))) (some (.done s5.1)))
   t.levels (fun i (s:Int)=>(s,i)) (fun _ _=>True) (fun _=>True) (by omega)
   (fun x y b s e _=>by
    obtain ⟨q1,q2⟩:=Zj e
    dsimp only
    rw [q1,q2]
    cases hd:decide (0≤s) with
    | false=>exact .inl ⟨_,rfl,trivial⟩
    | true=>exact .inr ⟨_,rfl,trivial⟩)
   (fun s _=>⟨s,by dsimp only;rw [JD];rfl,trivial⟩) (QG ((QG (a - 1)) - (t.levels.length:Int))) trivial
  obtain ⟨r2,h4,-⟩:=Yk (step:=fun (s15:Int×Int)=>Option.bind (cond ((decide (s15.2 < (t.kids.length:Int)))) (some (decide (0≤s15.1))) (some false)) fun (v17:Bool)=>cond v17 (Option.bind (Jy t.kids s15.2) fun (x18:Tm)=>Option.bind (Jc (fun rc v=>Ua rc v.1 v.2) n (x18,s15.1)) fun (x19:Int)=>some (LO.next (β:=Int) (x19,(QG (s15.2+1))))) (some (.done s15.1)))
   t.kids (fun i (s:Int)=>(s,i)) (fun _ _=>True) (fun _=>True) (by omega)
   (fun x y b s e _=>by
    obtain ⟨q1,q2⟩:=Zj e
    have hy:=Js (t:=t) (k:=y) (by rw [e];simp)
    obtain ⟨r,hr⟩:=nodes_some n y s (by omega) (by omega)
    dsimp only
    rw [q1,q2]
    cases hd:decide (0≤s) with
    | false=>exact .inl ⟨_,rfl,trivial⟩
    | true =>
     refine .inr ⟨r,?_,trivial⟩
     show Option.bind (Jc (fun rc v=>Ua rc v.1 v.2) n (y,s)) _=_
     rw [hr];rfl)
   (fun s _=>⟨s,by dsimp only;rw [JD];rfl,trivial⟩) r1 trivial
  have key:∃ r,(cond ((decide (100 < (t.name.length:Int)))) (some (-1)) (some r2))=some r:=by cases decide (100 < (t.name.length:Int)) <;> exact ⟨_,rfl⟩
  obtain ⟨r,hr⟩:=key
  exact ⟨r,J3 _ h3 (J3 _ h4 hr)⟩
theorem few_some (t:Tm) (a:Int) (h:t.size≤2000000):∃ b,m11 t a=some b:=by
 obtain ⟨r,hr⟩:=nodes_some Qt t a (by unfold Qt;omega) h
 exact ⟨_,J3 (x:=m26 t a) r hr Z⟩
theorem m3_true (t:Tm) (h:t.size≤2000000):m3 t=some true:=by
 obtain ⟨b,hb⟩:=few_some t 200 h
 obtain ⟨e,h1,h2⟩:=print_eq t h
 unfold m3
 rw [hb,Option.bind_some,awake_true]
 cases b with
 | false=>rfl
 | true =>
  rw [h1,h2]
  simp
end Go.Proofs.YtjcfppnjamjjhaaGreatDoor
namespace Go.Proofs.YtjcfppnjamjjhaaGreatDoor
open Go.RowKit Go.ChangeShapes Go.WideShapes
def Uo (w:World):Nat→Nat→Prop:=fun b _=>b < w.heap.size
def RC (w:World) (e:List C) (cs:List Value):Prop:=cs.length=e.length∧∀ (j:Nat) (c:C),e[j]?=some c→∃ u,cs[j]?=some u∧Reads (Uo w) w c u
theorem RC.app {w:World} {e0 e1:List C} {cs:List Value} (h0:RC w e0 (cs.take e0.length)) (h1:RC w e1 (cs.drop e0.length)) (hl:cs.length=e0.length+e1.length):RC w (e0++e1) cs:=by
 refine ⟨by rw [hl,List.length_append],fun j c hj=>?_⟩
 rcases Nat.lt_or_ge j e0.length with h | h
 ·rw [List.getElem?_append_left h] at hj
  obtain ⟨u,h2,h3⟩:=h0.2 j c hj
  rw [List.getElem?_take,if_pos h] at h2
  exact ⟨u,h2,h3⟩
 ·rw [List.getElem?_append_right h] at hj
  obtain ⟨u,h2,h3⟩:=h1.2 _ c hj
  rw [List.getElem?_drop,show e0.length+(j - e0.length)=j by omega] at h2
  exact ⟨u,h2,h3⟩
section
variable {H:Type} (enc:TypeId×Value→H) (P:Program) (w:World)
end
section
variable {H:Type} {enc:TypeId×Value→H} {P:Program} {w:World}
end
end Go.Proofs.YtjcfppnjamjjhaaGreatDoor
namespace Go.Proofs.YtjcfppnjamjjhaaGreatDoor
open Go.RowKit Go.ChangeShapes Go.WideShapes
theorem bulk_pos {H:Type} (d:DataW H):1≤Rows.uptoBulk d:=by
 cases d with
 | lit l=>cases l <;> simp [Rows.uptoBulk]
 | nil=>simp [Rows.uptoBulk]
 | ptr d=>simp [Rows.uptoBulk]
 | slice elems spare=>simp [Rows.uptoBulk]
 | agg parts=>simp [Rows.uptoBulk]
 | iface t d=>simp [Rows.uptoBulk]
 | map entries=>simp [Rows.uptoBulk]
 | held h=>simp [Rows.uptoBulk]
theorem bulk_all {H:Type}:∀ l:List (DataW H),Rows.uptoBulkAll l=(l.map Rows.uptoBulk).sum
 | []=>by simp [Rows.uptoBulkAll]
 | x::l=>by simp only [Rows.uptoBulkAll,List.map_cons,List.sum_cons,bulk_all l]
theorem RC.nil {w:World} {cs:List Value}:RC w [] (cs.take 0):=⟨by simp,fun j c h=>by cases h⟩
theorem RC.snoc {w:World} {e0 e1:List C} {cs:List Value} {m k:Nat} (h0:RC w e0 (cs.take m)) (h1:RC w e1 ((cs.drop m).take k)) (hm:e0.length=m):RC w (e0++e1) (cs.take (m+k)):=by
 have h2:=h0.1
 have h3:=h1.1
 refine RC.app ?_ ?_ ?_
 ·rw [List.take_take,hm,Nat.min_eq_left (by omega)];exact h0
 ·rw [hm,List.drop_take,Nat.add_sub_cancel_left];exact h1
 ·rw [← h3,hm]
  simp only [List.length_take,List.length_drop] at h2 ⊢
  omega
section
variable {H:Type} (enc:TypeId×Value→H) (P:Program) (w:World)
def Jx (N:Nat) (t:TypeId) (α:Type) [Enc α] (μ:α→Nat):Prop:=∀ (fuel:Nat) (cs:List Value) (x:DataW H×List MemPlace),DataW.trod enc P w 0 (fun _=>true) true fuel t cs=some x→Rows.uptoBulk x.1≤N→∃ v:α,RC w (Enc.enc v) cs∧μ v≤Rows.uptoBulk x.1
end
section
variable {H:Type} {enc:TypeId×Value→H} {P:Program} {w:World} {N:Nat}
theorem z_int {t:TypeId} (ht:P.underlying t=some (.int .i64)):Jx enc P w N t Int (fun _=>1):=by
 intro fuel cs x h hb
 obtain ⟨n,rfl,rfl,-⟩:=DataW.trod_int ht h
 refine ⟨n,⟨Z,fun j c hj=>?_⟩,bulk_pos _⟩
 cases j with
 | zero=>cases hj;exact ⟨_,rfl,Reads.v _ rfl⟩
 | succ j=>cases hj
theorem z_intR {t:TypeId} (ht:P.underlying t=some (.int .i64)):Jx enc P w N t Int (fun n=>1+ir n):=by
 intro fuel cs x h hb
 obtain ⟨n,rfl,rfl,hw⟩:=DataW.trod_int ht h
 have hi:ir n=0:=by
  obtain ⟨h1,h2⟩:=Bool.and_eq_true_iff.1 hw
  have h1:-9223372036854775808≤n:=of_decide_eq_true h1
  have h2:n≤9223372036854775807:=of_decide_eq_true h2
  unfold ir
  rw [if_pos ⟨h1,h2⟩]
 refine ⟨n,⟨rfl,fun j c hj=>?_⟩,by dsimp only;rw [hi];exact bulk_pos _⟩
 cases j with
 | zero=>cases hj;exact ⟨_,rfl,Reads.v _ rfl⟩
 | succ j=>cases hj
theorem z_str {t:TypeId} (ht:P.underlying t=some .string):Jx enc P w N t Bs (fun s=>1+s.length):=by
 intro fuel cs x h hb
 obtain ⟨s,rfl,rfl,-⟩:=DataW.trod_string ht h
 refine ⟨s.data.toList,⟨rfl,fun j c hj=>?_⟩,by simp [Rows.uptoBulk];omega⟩
 cases j with
 | zero=>cases hj;exact ⟨_,rfl,by rw [show DT s.data.toList=s from rfl];exact Reads.v _ rfl⟩
 | succ j=>cases hj
theorem z_slice {α:Type} [Enc α] [EncLen α] {μ:α→Nat} {t e:TypeId} (ht:P.underlying t=some (.slice e)) (hc:P.cellsOf e=Enc.sz α) (ho:Jx enc P w N e α μ):Jx enc P w N t (List α) (fun l=>1+(l.map μ).sum):=by
 intro fuel cs x h hb
 rcases Deep.open_slice ht h with ⟨rfl,rfl⟩ | ⟨a,len,cap,m,n,D,Pl,rfl,-,hlc,-,hm,rfl,hel⟩
 ·refine ⟨[],⟨rfl,fun j c hj=>?_⟩,by simp [Rows.uptoBulk]⟩
  cases j with
  | zero =>
   cases hj
   refine ⟨_,Z,?_⟩
   rw [Enc.nil]
   exact .sl _ [] none 0 0 0 (fun _ _=>undef) (Nat.le_refl _) (fun h=>absurd rfl h) (fun i e h=>by simp at h) (fun i e j c h=>by simp at h) (fun i e j c h=>by simp at h) (fun i e j c h=>by simp at h)
  | succ j=>cases hj
 ·have hm':m=cap:=by rw [hm];rfl
  have hbk:((List.range len).map fun i=>Rows.uptoBulk (D i)).sum+1≤Rows.uptoBulk (DataW.slice (H:=H) ((List.range len).map D) ((List.range (m - len)).map fun j=>D (len+j))):=by
   simp only [Rows.uptoBulk,bulk_all,List.map_map]
   have:(List.map (Rows.uptoBulk ∘ D) (List.range len)).sum=((List.range len).map fun i=>Rows.uptoBulk (D i)).sum:=rfl
   omega
  dsimp only at hb
  have hD:∀ k,k < len→Rows.uptoBulk (D k)≤N:=fun k hk=>by
   have:=Gw (fun i=>Rows.uptoBulk (D i)) (List.mem_range.2 hk)
   omega
  have hall:∀ k,k≤len→∃ l:List α,l.length=k∧(l.map μ).sum≤((List.range k).map fun i=>Rows.uptoBulk (D i)).sum∧∀ (i:Nat) (v:α),l[i]?=some v→∃ cs',w.cells? 0 (a.add (i * Enc.sz α)) (Enc.sz α)=some cs'∧RC w (Enc.enc v) cs':=by
   intro k
   induction k with
   | zero=>intro _;exact ⟨[],rfl,Nat.le_refl _,fun i v h=>by simp at h⟩
   | succ k ih =>
    intro hk
    obtain ⟨l,h1,hsum,h2⟩:=ih (by omega)
    obtain ⟨cs',h3,h4⟩:=hel k (by omega)
    rw [hc] at h3
    obtain ⟨v,hv,hμ⟩:=ho _ _ _ h4 (hD k (by omega))
    refine ⟨l++[v],by simp [h1],?_,fun i v' hi=>?_⟩
    ·rw [List.range_succ]
     simp only [List.map_append,List.map_cons,List.map_nil,List.sum_append,List.sum_cons,List.sum_nil]
     dsimp only at hμ
     omega
    rcases Nat.lt_or_ge i l.length with h | h
    ·rw [List.getElem?_append_left h] at hi;exact h2 i v' hi
    ·rw [List.getElem?_append_right h] at hi
     have hi0:i - l.length=0:=by
      rcases Nat.eq_zero_or_pos (i - l.length) with h0 | h0
      ·exact h0
      ·rw [List.getElem?_eq_none (by simp only [List.length_singleton];omega)] at hi;cases hi
     have hik:i=k:=by omega
     rw [hi0] at hi;cases hi
     rw [hik];exact ⟨cs',h3,hv⟩
  obtain ⟨l,hl,hsum,hcells⟩:=hall len (Nat.le_refl _)
  have hpos:0 < Enc.sz α:=EncLen.pos
  have hspot:l ≠ []→a.spot=none∧a.block < w.heap.size:=by
   intro hne
   obtain ⟨v,r,rfl⟩:=List.exists_cons_of_ne_nil hne
   obtain ⟨cs',h1,h2⟩:=hcells 0 v rfl
   obtain ⟨-,h3,h4⟩:=World.cells?_some h1
   have h5:=h4 0 hpos
   rw [Nat.zero_mul,Deep.add_add,Nat.zero_add] at h5
   have h6:(cs'[0]?).isSome:=by rw [List.getElem?_eq_getElem (by omega)];rfl
   rw [← h5] at h6
   have h7:(a.add 0)=a:=by simp [Addr.add]
   rw [h7] at h6
   unfold World.cell? at h6
   split at h6
   ·rename_i c _ _ hb
    refine ⟨?_,(Array.getElem?_eq_some_iff.1 hb).1⟩
    split at h6
    ·cases h6
    ·rename_i hs
     cases hsp:a.spot with
     | none=>rfl
     | some q=>rw [hsp] at hs;exact absurd rfl hs
   ·cases h6
  have hadd:l ≠ []→∀ k,a.add k=⟨a.block,a.off+k,none⟩:=by
   intro hne k
   have h1:=(hspot hne).1
   unfold Addr.add
   split
   ·rename_i h0;subst h0
    obtain ⟨b,o,sp⟩:=a
    simp only at h1;subst h1;rfl
   ·rfl
  have hcell:∀ (i:Nat) (e':List C) (j:Nat) (c:C),(Enc.encL l)[i]?=some e'→e'[j]?=some c→∃ u,w.cell? ⟨a.block,a.off+i * Enc.sz α+j,none⟩=some u∧Reads (Uo w) w c u:=by
   intro i e' j c hi hj
   rw [Enc.map,List.getElem?_map] at hi
   cases hx:l[i]? with
   | none=>rw [hx] at hi;cases hi
   | some v =>
    rw [hx] at hi;cases hi
    have hne:l ≠ []:=by intro h0;rw [h0] at hx;simp at hx
    obtain ⟨cs',h1,h2⟩:=hcells i v hx
    obtain ⟨u,h3,h4⟩:=h2.2 j c hj
    obtain ⟨-,h5,h6⟩:=World.cells?_some h1
    have hjl:j < Enc.sz α:=by have:=(List.getElem?_eq_some_iff.1 h3).1;omega
    have h7:=h6 j hjl
    rw [Deep.add_add,hadd hne,h3,← Nat.add_assoc] at h7
    exact ⟨u,h7,h4⟩
  refine ⟨l,⟨rfl,fun j c hj=>?_⟩,by dsimp only;omega⟩
  cases j with
  | succ j=>cases hj
  | zero =>
   cases hj
   refine ⟨_,Z,?_⟩
   have hR:=Reads.sl (S:=Uo w) (w:=w) (Enc.sz α) (Enc.encL l) (some a) cap a.block a.off (fun i j=>(w.cell? ⟨a.block,a.off+i * Enc.sz α+j,none⟩).getD undef) (by rw [Enc.len,hl];exact hlc)
    (fun hne=>by
     have hne':l ≠ []:=by intro h0;rw [h0,Enc.nil] at hne;exact hne rfl
     have h7:(a.add 0)=a:=by simp [Addr.add]
     rw [← h7,hadd hne'])
    (fun i e' hi=>encL_lens l e' (List.mem_of_getElem? hi))
    (fun i e' j c hi hj=>by obtain ⟨u,h1,-⟩:=hcell i e' j c hi hj;rw [h1];rfl)
    (fun i e' j c hi hj=>by
     have hne:l ≠ []:=by intro h0;rw [h0,Enc.nil] at hi;simp at hi
     exact (hspot hne).2)
    (fun i e' j c hi hj=>by obtain ⟨u,h1,h2⟩:=hcell i e' j c hi hj;rw [h1];exact h2)
   rw [Enc.len,hl] at hR
   exact hR
theorem z_pos {α:Type} [Enc α] {μ:α→Nat} {t:TypeId} (h:∀ N,Jx enc P w N t α μ→Jx enc P w (N+1) t α μ):∀ N,Jx enc P w N t α μ
 | 0=>fun fuel cs x _ hb=>by have:=bulk_pos x.1;omega
 | N+1=>h N (z_pos h N)
end
section
variable {H:Type} {enc:TypeId×Value→H} {w:World} {N:Nat}
theorem Xe:Tryz.prog.cellsOf 3=1:=by kernel_rfl
theorem cells_9:Tryz.prog.cellsOf 9=1:=by kernel_rfl
theorem cells_22:Tryz.prog.cellsOf 22=1:=by kernel_rfl
theorem cells_23:Tryz.prog.cellsOf 23=1:=by kernel_rfl
theorem cells_25:Tryz.prog.cellsOf 25=5:=by kernel_rfl
theorem cells_80:Tryz.prog.cellsOf 80=1:=by kernel_rfl
theorem cells_82:Tryz.prog.cellsOf 82=2:=by kernel_rfl
theorem cells_142:Tryz.prog.cellsOf 142=2:=by kernel_rfl
theorem z_lv:Jx enc Tryz.prog w (N+1) 142 LV (fun _=>1):=by
 intro fuel cs x h hb
 obtain ⟨xs,n,_,rfl,hl,hlen,hf⟩:=DataW.trod_struct Tryz.underlying142 h
 match xs,hlen with
 | [y0,y1],_ =>
  have hb':Rows.uptoBulk y0.1+Rows.uptoBulk y1.1+1≤Rows.uptoBulk (DataW.agg (H:=H) [y0.1,y1.1]):=by simp only [Rows.uptoBulk,Rows.uptoBulkAll];omega
  have hb2:Rows.uptoBulk (DataW.agg (H:=H) [y0.1,y1.1])≤N+1:=hb
  obtain ⟨v0,r0,m0⟩:=(z_int Tryz.underlying3:Jx enc Tryz.prog w N _ _ _) n _ _ (hf 0 _ rfl) (by omega)
  change RC w (Enc.enc v0) ((cs.drop 0).take (Tryz.prog.cellsOf 3)) at r0
  rw [Xe] at r0
  obtain ⟨v1,r1,m1⟩:=(z_int Tryz.underlying3:Jx enc Tryz.prog w N _ _ _) n _ _ (hf 1 _ rfl) (by omega)
  change RC w (Enc.enc v1) ((cs.drop 1).take (Tryz.prog.cellsOf 3)) at r1
  rw [Xe] at r1
  have hcs:cs.take 2=cs:=List.take_of_length_le (by rw [hl];exact Nat.le_of_eq cells_142)
  have hR:=((((RC.nil).snoc (k:=1) r0 rfl)).snoc (k:=1) r1 rfl)
  refine ⟨(v0,v1),by rw [← hcs];exact hR,Nat.le_trans ?_ hb'⟩
  show 1≤_
  omega
theorem z_lv':Jx enc Tryz.prog w N 142 LV (fun _=>1):=z_pos (fun _ _=>z_lv) N
theorem z_lvl:Jx enc Tryz.prog w (N+1) 82 Lvl lvz:=by
 intro fuel cs x h hb
 obtain ⟨xs,n,_,rfl,hl,hlen,hf⟩:=DataW.trod_struct Tryz.underlying82 h
 match xs,hlen with
 | [y0,y1],_ =>
  have hb':Rows.uptoBulk y0.1+Rows.uptoBulk y1.1+1≤Rows.uptoBulk (DataW.agg (H:=H) [y0.1,y1.1]):=by simp only [Rows.uptoBulk,Rows.uptoBulkAll];omega
  have hb2:Rows.uptoBulk (DataW.agg (H:=H) [y0.1,y1.1])≤N+1:=hb
  obtain ⟨v0,r0,m0⟩:=(z_int Tryz.underlying3:Jx enc Tryz.prog w N _ _ _) n _ _ (hf 0 _ rfl) (by omega)
  change RC w (Enc.enc v0) ((cs.drop 0).take (Tryz.prog.cellsOf 3)) at r0
  rw [Xe] at r0
  obtain ⟨v1,r1,m1⟩:=(z_slice Tryz.underlying80 (by kernel_rfl) z_lv':Jx enc Tryz.prog w N _ _ _) n _ _ (hf 1 _ rfl) (by omega)
  change RC w (Enc.enc v1) ((cs.drop 1).take (Tryz.prog.cellsOf 80)) at r1
  rw [cells_80] at r1
  have hcs:cs.take 2=cs:=List.take_of_length_le (by rw [hl];exact Nat.le_of_eq cells_82)
  have hR:=((((RC.nil).snoc (k:=1) r0 rfl)).snoc (k:=1) r1 rfl)
  refine ⟨⟨v0,v1⟩,by rw [← hcs];exact hR,Nat.le_trans ?_ hb'⟩
  show lvz ⟨v0,v1⟩≤_
  unfold lvz
  dsimp only at m0 m1 ⊢
  omega
theorem z_lvl':Jx enc Tryz.prog w N 82 Lvl lvz:=z_pos (fun _ _=>z_lvl) N
theorem z_tm (hk:Jx enc Tryz.prog w N 25 Tm Tm.size):Jx enc Tryz.prog w (N+1) 25 Tm Tm.size:=by
 intro fuel cs x h hb
 obtain ⟨xs,n,_,rfl,hl,hlen,hf⟩:=DataW.trod_struct Tryz.underlying25 h
 match xs,hlen with
 | [y0,y1,y2,y3,y4],_ =>
  have hb':Rows.uptoBulk y0.1+Rows.uptoBulk y1.1+Rows.uptoBulk y2.1+Rows.uptoBulk y3.1+Rows.uptoBulk y4.1+1≤Rows.uptoBulk (DataW.agg (H:=H) [y0.1,y1.1,y2.1,y3.1,y4.1]):=by simp only [Rows.uptoBulk,Rows.uptoBulkAll];omega
  have hb2:Rows.uptoBulk (DataW.agg (H:=H) [y0.1,y1.1,y2.1,y3.1,y4.1])≤N+1:=hb
  obtain ⟨v0,r0,m0⟩:=(z_int Tryz.underlying3:Jx enc Tryz.prog w N _ _ _) n _ _ (hf 0 _ rfl) (by omega)
  change RC w (Enc.enc v0) ((cs.drop 0).take (Tryz.prog.cellsOf 3)) at r0
  rw [Xe] at r0
  obtain ⟨v1,r1,m1⟩:=(z_intR Tryz.underlying3:Jx enc Tryz.prog w N _ _ _) n _ _ (hf 1 _ rfl) (by omega)
  change RC w (Enc.enc v1) ((cs.drop 1).take (Tryz.prog.cellsOf 3)) at r1
  rw [Xe] at r1
  obtain ⟨v2,r2,m2⟩:=(z_str Tryz.underlying9:Jx enc Tryz.prog w N _ _ _) n _ _ (hf 2 _ rfl) (by omega)
  change RC w (Enc.enc v2) ((cs.drop 2).take (Tryz.prog.cellsOf 9)) at r2
  rw [cells_9] at r2
  obtain ⟨v3,r3,m3⟩:=(z_slice Tryz.underlying22 (by kernel_rfl) z_lvl':Jx enc Tryz.prog w N _ _ _) n _ _ (hf 3 _ rfl) (by omega)
  change RC w (Enc.enc v3) ((cs.drop 3).take (Tryz.prog.cellsOf 22)) at r3
  rw [cells_22] at r3
  obtain ⟨v4,r4,m4⟩:=(z_slice Tryz.underlying23 (by kernel_rfl) hk:Jx enc Tryz.prog w N _ _ _) n _ _ (hf 4 _ rfl) (by omega)
  change RC w (Enc.enc v4) ((cs.drop 4).take (Tryz.prog.cellsOf 23)) at r4
  rw [cells_23] at r4
  have hcs:cs.take 5=cs:=List.take_of_length_le (by rw [hl];exact Nat.le_of_eq cells_25)
  have hR:=((((((((((RC.nil).snoc (k:=1) r0 rfl)).snoc (k:=1) r1 rfl)).snoc (k:=1) r2 rfl)).snoc (k:=1) r3 rfl)).snoc (k:=1) r4 rfl)
  refine ⟨Tm.mk v0 v1 v2 v3 v4,by rw [← hcs];exact hR,Nat.le_trans ?_ hb'⟩
  rw [Tm.size_eq]
  simp only [Tm.name,Tm.kids,Tm.levels,Tm.index]
  dsimp only at m0 m1 m2 m3 m4 ⊢
  omega
theorem z_tm':Jx enc Tryz.prog w N 25 Tm Tm.size:=z_pos (fun _ h=>z_tm h) N
end
end Go.Proofs.YtjcfppnjamjjhaaGreatDoor
namespace Go.Proofs.YtjcfppnjamjjhaaGreatDoor
open Go.ChangeShapes Go.WideShapes Go.ChangeAt Go.RowKit Go.WideElems
theorem own:ownKnob Tryz.prog.godebug=none:=by kernel_rfl
theorem laidOut:laidOutB Tryz.prog=true:=by kernel_rfl
theorem stc_readsZ {H:Type} {enc:TypeId×Value→H} {α:Type} [Enc α] {μ:α→Nat} {t:TypeId} {fs:Array Field} (ht:Tryz.prog.underlying t=some (.struct fs)) (ho:∀ W N,Jx enc Tryz.prog W N t α μ) {W:World} {base:Nat} {v:Value} {d:DataW H} {p:List MemPlace}
  (hval:Value.okWide Tryz.prog W .any base t v) (h:DataW.Trod enc Tryz.prog W 0 (fun _=>true) true t v d p):∃ L:α,(AV.agg (cE L)).rel (Y2 (Uo W)) W v∧μ L≤Rows.uptoBulk d:=by
 obtain ⟨fuel,hf⟩:=h
 obtain ⟨L,hl,hμ⟩:=ho W (Rows.uptoBulk d) _ _ _ hf (Nat.le_refl _)
 obtain ⟨cs,rfl,-⟩:=okWide_struct ht hval
 have hc:(Value.agg cs).cells=cs:=rfl
 rw [hc] at hl
 refine ⟨L,⟨cs,Z,?_,fun i x hx=>?_⟩,hμ⟩
 ·have:=hl.1
  rw [Array.length_toList] at this
  rw [this,List.length_map]
 ·rw [List.getElem?_map] at hx
  cases hy:(Enc.enc L)[i]? with
  | none=>rw [hy] at hx;cases hx
  | some c =>
   rw [hy] at hx
   cases hx
   obtain ⟨u,hu,hr⟩:=hl.2 i c hy
   exact ⟨u,by simpa using hu,hr⟩
theorem tabs_laid {W : World} {laid : List (String × DataW Unit)} {x0 x1 : String × DataW Unit} {r : List (String × DataW Unit)} (e : laid = x0 :: x1 :: ("internal/strconv.uint64pow10", Rows.laid_internal_strconv_uint64pow10) :: r) (hp : (laid.all fun x => x.2.handleName?.isNone) = true) (h : laidMetH Tryz.prog laid W) : Tabs Tryz.prog (Uo W) W := by
 rw [MakeChecks.laidMetH_plain _ _ _ hp] at h
 subst e
 obtain ⟨ps,hv,-,-⟩:=h
 obtain ⟨_,_,_,_,_,q1,_,_,_,_,hv1,_⟩:=hv
 obtain ⟨_,_,_,_,_,q2,_,_,_,_,hv2,_⟩:=hv1
 obtain ⟨g',t',cs,fuel,p,q,hg',ht',hvar,hd,_,_⟩:=hv2
 have hg : Tryz.prog.globalNamed "internal/strconv.uint64pow10" = some 0 := by kernel_rfl
 obtain rfl:=Option.some.inj (hg.symm.trans hg')
 obtain rfl:=Option.some.inj ((show (Tryz.prog.globals[0]?).map (·.type)=some 230 by kernel_rfl).symm.trans ht')
 have e:cs.toList=Lib.pow10Tab.map fun z=>Value.int .u64 z :=
  Lib.cells_of_tab (t:=230) (e:=195) (n:=20) (by kernel_rfl) (by kernel_rfl) (by kernel_rfl) (by kernel_rfl) hd
 have hT : Lib.TabIs Tryz.prog W "internal/strconv.uint64pow10" .u64 Lib.pow10Tab := by
  unfold Lib.TabIs
  rw [hvar,← e]
 refine Tabs.of hg (fun o=>?_) hT
 show 0 < W.heap.size
 unfold World.var? at hvar
 rw [hg] at hvar
 simp only [Option.bind_some] at hvar
 split at hvar
 ·rename_i hh;exact (Array.getElem?_eq_some_iff.1 hh).1
 ·cases hvar
theorem witness_laid {H:Type} {enc:TypeId×Value→H} {C:Checked} {os:Os} {f:FuncId} {fn:Func} {s:OpenSpec} {conds:List PathCond} {apart:Bool} {laid:List (String×DataW Unit)} (modest:Bool) (w0:World) (args:Array Value) (hos:w0.os=os)
  (hsh:(w0.forCall (fun _ _=>0) ⟨#[],args,[]⟩).Shaped C.prog)
  (hok:Input.okWideB C.prog (w0.forCall (fun _ _=>0) ⟨#[],args,[]⟩) f ⟨#[],args,[]⟩=true)
  (hrow:s.preRow enc C.prog fn conds apart laid (w0.forCall (fun _ _=>0) ⟨#[],args,[]⟩).memory args) :
  ∃ (w:World) (tape:Tape) (i:Input),w.os=os∧(w.forCall tape i).Shaped C.prog∧i.vars=[]∧Input.okWide C.prog (w.forCall tape i) .any w.heap.size f i ∧
   s.preRow enc C.prog fn conds apart laid (w.forCall tape i).memory i.args∧({ modest:=modest }:Assume).holds C.prog (lone (Frame.enter C.prog f i.args .normal) [] (w.forCall tape i)) :=
 ⟨w0,fun _ _=>0,⟨#[],args,[]⟩,hos,hsh,(Input.okWide_of_okWideB (base:=0) hok).1,(Input.okWide_of_okWideB hok).2,hrow,by
  simp only [Assume.holds]
  exact ⟨by simp,by simp,fun _=>Modest.zero,by simp,by simp⟩⟩
end Go.Proofs.YtjcfppnjamjjhaaGreatDoor
namespace Go.Proofs.YtjcfppnjamjjhaaGreatDoor
open Go.ChangeShapes Go.WideShapes Go.ChangeAt Go.RowKit Go.WideElems
theorem law3 {W:World} (hT:Tabs Tryz.prog (Uo W) W) (a0:Tm) (hs0:a0.size≤2000000) {v0:Value} (hv0:(AV.agg (cE a0)).rel (Y2 (Uo W)) W v0):Calls Tryz.prog 3 #[v0] W fun e W'=>e=.returned (.bool true)∧Below W.heap.size W W':=by
 have hF:FunW W0 Tryz.prog 3 [.agg (cE a0)] (Qu [.one (dB true)]):=Eq.mp (show FunW W0 Tryz.prog 3 (QO DV k3.args a0) (Qu (QO DV k3.res true))=_ from by kernel_rfl) (k3_ok.2 a0 true (m3_true a0 hs0))
 refine Calls.mono (hF.2 (Uo W) W #[v0] (fun b o h=>h) hT ⟨Z,fun i y hy=>?_⟩) ?_
 ·match i,hy with
  | 0,hy=>cases hy;exact ⟨_,rfl,hv0⟩
 ·rintro e W' ⟨u,S',rfl,hx,-,-,hu⟩
  have e1:u=.bool true:=by cases hu;rfl
  rw [e1]
  exact ⟨Z,hx.os,hx.tape,hx.output,hx.size,fun k hk=>hx.block k hk (fun h=>h)⟩
theorem contract (H:Type) (enc:TypeId×Value→H) (W:World) (base:Nat) (args:Array Value) (ds gs:List (DataW H)) (before:List MemPlace) (hk:Rows.uptoSmall H (ds++gs)=true)
  (hval0:∀ (j:Nat) t v,Tryz.f3.params[j]?=some t→args[j]?=some v→Value.okWide Tryz.prog W .any base t v)
  (hW:DataW.Whole enc Tryz.prog Tryz.f3.params.toList Rows.textPrintsSpec.vars false W args.toList ds gs before) (hL:laidMetH Tryz.prog Rows.textPrintsUptoRow.laid W) :
  Calls Tryz.prog 3 args W fun e W'=>∃ v,e=.returned v∧Rows.textPrintsSpec.post enc Tryz.prog Tryz.f3 false true false false W args v W':=by
 have hval:∀ (j:Nat) t v,Tryz.f3.params[j]?=some t→args[j]?=some v→Value.okWide Tryz.prog W .any base t v:=hval0
 have hW':=hW
 obtain ⟨p,q,hA0,hV,rfl,hfz,hnd⟩:=hW
 have hA:DataW.TrodAll enc Tryz.prog W 0 (fun _=>true) true Tryz.f3.params.toList args.toList ds p:=hA0
 rw [Tryz.params3] at hA hval
 obtain ⟨v0,d0,rfl,rfl,h0⟩:=trodAll_one hA
 obtain ⟨rfl,rfl⟩:=trodVars_none hV
 have h0k:=h0
 obtain ⟨a0,hv0,hz0⟩:=stc_readsZ Tryz.underlying25 (fun W N=>z_tm' (w:=W) (N:=N)) (hval 0 25 v0 rfl rfl) h0
 have hbk:Rows.uptoBulkAll ([d0]++([]:List (DataW H)))≤1048576:=of_decide_eq_true hk
 simp only [List.append_nil,Rows.uptoBulkAll] at hbk
 clear hA0 hval0
 simp only [List.append_nil] at hW'
 have hlt:∀ x∈p,x.block < W.heap.size:=fun x hx=>by simpa using hW'.lt x hx
 refine (law3 (tabs_laid rfl (by kernel_rfl) hL) a0 (by omega) hv0).mono fun e W' ⟨he,hb⟩=>?_
 subst he
 have hargs:∀ sp:Nat→Bool,(∀ x∈p,sp x.block=true)→DataW.TrodAll enc Tryz.prog W' 0 sp true [25] [v0] [d0] p:=fun sp hsp =>
  trodAll_mk1 (WideElems.Trod_stays laidOut (by kernel_rfl) (of_decide_eq_true (by kernel_rfl)) h0k (fun x hx=>hb.same (hlt x hx)) (fun x hx=>hsp x hx))
 exact ⟨_,rfl,_,_,_,[],p,[],hW',trodAll_mk1 (shut_bool Tryz.underlying4 true),hargs _ (fun x hx=>by simpa using hlt x hx),rfl,hb.frame _,fun h=>by cases h⟩
theorem lifted (os:Os) (started:os.Started) (H:Type) (enc:TypeId×Value→H) (F:Stop.Interp) :
  ReturnsInHanded {} Tryz.checked os 3 .any ((Rows.OpenSpec.upto Rows.textPrintsSpec).preRow enc Tryz.prog Tryz.f3 Rows.textPrintsUptoRow.domain false Rows.textPrintsUptoRow.laid) (((Rows.OpenSpec.upto Rows.textPrintsSpec).at F).post enc Tryz.prog Tryz.f3 false true false false):=by
 refine returnsInHanded_of_row (C:=Tryz.checked) (s:=Rows.OpenSpec.upto Rows.textPrintsSpec) own started (by kernel_rfl) Tryz.func3
  (witness_laid (enc:=enc) (C:=Tryz.checked) (os:=os) false (World.laidAll Tryz.prog os Rows.textPrintsUptoRow.laid) #[.agg #[.int .i64 0,.int .i64 0,.string ByteArray.empty,.slice none 0 0,.slice none 0 0]] (World.laidAll_os _ _ _)
   (World.shaped_of_ZipB (by kernel_rfl) (by kernel_rfl)) (by kernel_rfl)
   (OpenSpec.preRow_of_cond 8 (x:=([.agg [.lit (.int .i64 0),.lit (.int .i64 0),.lit (.string []),.nil,.nil]],[],[])) (by kernel_rfl) (by kernel_rfl) (fun k hk=>by cases hk;kernel_rfl) (by kernel_rfl)
    (by rw [MakeChecks.laidMetH_plain _ _ _ (by kernel_rfl)];exact laidMet_laidAll _ (by kernel_rfl) (by kernel_rfl)))) ?_
 intro W base args ds gs before hval hW _ hk _ hL _ _
 exact contract H enc W base args ds gs before (hk _ Z) hval hW hL
theorem over:Rows.textPrintsUptoRow.holds Tryz.pinned (Rows.OpenSpec.upto Rows.textPrintsSpec) :=
 OpenClaim.holds_of_cond 3 Tryz.f3 rfl rfl rfl rfl rfl rfl rfl ⟨rfl,rfl,rfl,rfl,rfl⟩ rfl rfl rfl rfl rfl (by kernel_rfl) Tryz.func3 (by kernel_rfl)
  (of_decide_eq_true (by kernel_rfl)) (by unfold Func.isWrapper;first | (rw [if_pos (by decide +kernel)];kernel_rfl) | (rw [if_neg (by decide +kernel)];exact ⟨rfl,rfl⟩))
  (fun os started H enc _ F=>by rw [OpenClaim.pre_eq_preRow];exact lifted os started H enc F)
theorem textPrintsUptoCard:Rows.TextPrintsUptoCardSaid :=
 Claim7.holds_tied_plain_at .later [] _ _ _ _ over (fun _ h=>by cases h) (by kernel_rfl) (fun _ h=>by cases h) textPrintsUpto_row_tie rfl ⟨rfl,rfl⟩ (by kernel_rfl) rfl
  (fun f fn hf hfn=>by
   obtain rfl : f = 3 := Option.some.inj ((show Tryz.prog.funcNamed "euclid/euclidlaw06.TextPrints" = some 3 by kernel_rfl).symm.trans hf) |>.symm
   obtain rfl:fn=Tryz.f3:=(Option.some.inj (Tryz.func3.symm.trans hfn)).symm
   exact ⟨by kernel_rfl,fun j t ht=>by
    rw [Tryz.params3] at ht
    have hm:t∈[25]:=by simpa using Array.mem_of_getElem? ht
    have hall:([25].all fun u=>!Tryz.prog.wantsStandIn u)=true:=by kernel_rfl
    exact (show Tryz.prog.wantsStandIn t=false by simpa using List.all_eq_true.1 hall t hm)⟩)
  (by kernel_rfl)
#print axioms textPrintsUptoCard
end Go.Proofs.YtjcfppnjamjjhaaGreatDoor
