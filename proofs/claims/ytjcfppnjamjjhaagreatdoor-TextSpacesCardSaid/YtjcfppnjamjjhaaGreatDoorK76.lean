/- The card of TextSpaces is proved here: for every string and every byte the law returns true, and the arguments read behind the call as they did before; condition: the listed package-level variables hold what the text of the program lays (tied). -/
import Derived.Test.YtjcfppnjamjjhaaGreatDoorK75
import Derived.Deep.Slices
import Derived.ChangeSame
import Derived.Test.YtjcfppnjamjjhaaGreatDoorRows
import Derived.Test.YtjcfppnjamjjhaaGreatDoorProg
import Derived.Test.YtjcfppnjamjjhaaGreatDoorCards
import Derived.Test.YtjcfppnjamjjhaaGreatDoorTie
import Derived.ProofKit
import Derived.Carry
import Derived.Lay
import Derived.JoinedCond
import Derived.SevenTiedAt
import Derived.Deep.DeepHandedRow
import Derived.ChangeMaps5
set_option maxHeartbeats 2000000
set_option maxRecDepth 100000
set_option linter.unusedSimpArgs false
set_option linter.unusedVariables false
set_option linter.unusedSectionVars false
namespace Go.Proofs.YtjcfppnjamjjhaaGreatDoor
noncomputable section
open Go.RowKit Go.Shelf
theorem drop_foldl {α σ:Type} {f:σ→α→σ} {l:List α} {k:Nat} {x:α} {s:σ} (h:l[k]?=some x):(l.drop k).foldl f s=(l.drop (k+1)).foldl f (f s x):=by
 have:l.drop k=x::l.drop (k+1):=by
  obtain ⟨hk,rfl⟩:=Cg.1 h
  exact PE hk
 rw [this];rfl
theorem Q70 {α σ:Type} {step:Int×σ→Option (LO (Int×σ) σ)} {l:List α} (f:σ→α→σ) (P:Nat→σ→Prop) (hlen:l.length≤900000)
  (hin:∀ (k:Nat) (x:α) (s:σ),l[k]?=some x→P k s→step ((k:Int),s)=some (.next (Qm ((k:Int)+1),f s x))∧P (k+1) (f s x))
  (hout:∀ s,P l.length s→step ((l.length:Int),s)=some (.done s)) (s0:σ) (h0:P 0 s0):Q9 step Qd (0,s0)=some (l.foldl f s0)∧P l.length (l.foldl f s0):=by
 have key:=Kx (step:=step) (fun s=>∃ k:Nat,s.1=(k:Int)∧k≤l.length∧P k s.2) (fun s=>l.length - s.1.toNat) (fun s=>(l.drop s.1.toNat).foldl f s.2) (fun s hs=>by
  obtain ⟨i,s⟩:=s
  obtain ⟨k,rfl,hk,hp⟩:=hs
  dsimp only at hp ⊢
  rcases P1 k l.length with hlt | hge
  ·obtain ⟨x,hx⟩:∃ x,l[k]?=some x:=⟨_,Cp hlt⟩
   obtain ⟨h1,h2⟩:=hin k x s hx hp
   right
   rw [Qa6 hlt (by omega)] at h1
   refine ⟨_,h1,⟨k+1,Z,hlt,h2⟩,?_,?_⟩
   ·simp only [CN];omega
   ·simp only [CN];exact (drop_foldl hx).symm
  ·left
   obtain rfl:k=l.length:=by omega
   rw [hout s hp]
   simp) Qd (0,s0) ⟨0,rfl,Co _,h0⟩ (by show l.length - 0 < Qd;unfold Qd;omega)
 refine ⟨by simpa using key,?_⟩
 have hind:∀ (k:Nat),k≤l.length→P k ((l.take k).foldl f s0):=by
  intro k
  induction k with
  | zero=>intro _;exact h0
  | succ k ih =>
   intro hk
   have hx:l[k]?=some l[k]:=Cp (by omega)
   have:=(hin k _ _ hx (ih (by omega))).2
   rw [SF,hx,List.foldl_append]
   exact this
 have:=hind l.length (Ck _)
 rwa [List.take_length] at this
structure ImInv (n:Nat) (M:Qt):Prop where
 len:M.1.length≤n
 keys:(M.1.map fun e=>e.1).Nodup
 born:(M.1.map fun e=>e.2.2).Nodup
 old:∀ e∈M.1,e.2.2 < M.2
 rng:∀ e∈M.1,-9223372036854775808≤e.1∧e.1≤9223372036854775807
theorem ImInv.nil:ImInv 0 imNil:=⟨Ck _,Si,Si,(fun e h=>by cases h),(fun e h=>by cases h)⟩
def mx:Option Int→Int→Option Int
 | none,p=>some p
 | some o,p=>some (max o p)
def Qlg:Option Int→Option Int→Option Int
 | a,none=>a
 | a,some p=>mx a p
def G4 (vs:List Qrf) (k:Int):Option Int:=(vs.find? fun x=>k==x.1).map fun x=>x.2
abbrev Asc (l:List Qrf):Prop:=l.Pairwise (fun a b=>a.1 < b.1)
theorem Q41 (k:Int):G4 [] k=none:=rfl
theorem Zj (x:Qrf) (l:List Qrf):G4 (x::l) x.1=some x.2:=by simp [G4]
theorem Yh {x:Qrf} {l:List Qrf} {k:Int} (h:k ≠ x.1):G4 (x::l) k=G4 l k:=by
 have:(k==x.1)=false:=by simpa using h
 simp [G4,Sv,this]
theorem Q0i {l:List Qrf} {k:Int} (h:∀ y∈l,y.1 ≠ k):G4 l k=none:=by
 induction l with
 | nil=>rfl
 | cons x l ih=>rw [Yh (fun e=>h x Ci e.symm)];exact ih fun y hy=>h y (Ch _ hy)
theorem YS {l:List Qrf} (h:Asc l) {k p:Int}:G4 l k=some p↔(k,p)∈l:=by
 induction l with
 | nil=>simp [G4]
 | cons x l ih =>
  obtain ⟨h1,h2⟩:=CL.1 h
  by_cases hk:k=x.1
  ·subst hk
   rw [Zj]
   constructor
   ·intro e;cases e;exact Ci
   ·intro hm
    rcases Cq.1 hm with e | hm
    ·rw [← e]
    ·have:=h1 _ hm;simp at this
  ·rw [Yh hk,ih h2]
   constructor
   ·exact fun hm=>Ch _ hm
   ·intro hm
    rcases Cq.1 hm with e | hm
    ·exact absurd (by rw [← e]) hk
    ·exact hm
theorem Qgj {x:Qrf} {l:List Qrf} {k:Int} (h:Asc (x::l)) (hk:k < x.1):G4 (x::l) k=none:=by
 refine Q0i fun y hy e=>?_
 rcases Cq.1 hy with rfl | hy
 ·omega
 ·have:=(CL.1 h).1 y hy;omega
theorem Wo (a:Option Int):Qlg none a=a:=by cases a <;> rfl
theorem K3 (a:Option Int):Qlg a none=a:=by cases a <;> rfl
theorem ZJ:∀ (a b:List Qrf),Asc a→Asc b→∀ k,G4 (Jb a b) k=Qlg (G4 a k) (G4 b k)
 | [],b,_,_,k=>by rw [Zg,Q41,Wo]
 | x::a,[],_,_,k=>by rw [Zf,Q41,K3]
 | x::a,y::b,ha,hb,k=>by
  obtain ⟨a1,a2⟩:=CL.1 ha
  obtain ⟨b1,b2⟩:=CL.1 hb
  rw [Jb]
  split
  ·rename_i hxy
   by_cases hk:k=x.1
   ·subst hk;rw [Zj,Zj,Qgj hb hxy,K3]
   ·rw [Yh hk,Yh hk];exact ZJ a (y::b) a2 hb k
  ·split
   ·rename_i hyx
    by_cases hk:k=y.1
    ·subst hk;rw [Zj,Zj,Qgj ha hyx,Wo]
    ·rw [Yh hk,Yh (x:=y) hk];exact ZJ (x::a) b ha b2 k
   ·rename_i h1 h2
    have e:x.1=y.1:=by omega
    by_cases hk:k=x.1
    ·subst hk
     rw [Zj (x.1,max x.2 y.2),Zj,e,Zj];rfl
    ·have hk2:k ≠ y.1:=by rw [← e];exact hk
     rw [Yh (x:=(x.1,max x.2 y.2)) hk,Yh hk,Yh hk2]
     exact ZJ a b a2 b2 k
termination_by a b=>a.length+b.length
theorem Q2t {c m:Int} {vs:List Qrf}:Z1 c vs≤m↔c≤m∧∀ x∈vs,x.2≤m:=by
 unfold Z1
 induction vs generalizing c with
 | nil=>simp
 | cons y l ih =>
  rw [PH,ih]
  constructor
  ·rintro ⟨h1,h2⟩
   refine ⟨by omega,fun x hx=>?_⟩
   rcases Cq.1 hx with rfl | hx
   ·omega
   ·exact h2 x hx
  ·rintro ⟨h1,h2⟩
   exact ⟨by have:=h2 y Ci;omega,fun x hx=>h2 x (Ch _ hx)⟩
theorem Q3s {c:Int} {vs:List Qrf} {x:Qrf} (h:x∈vs):x.2≤Z1 c vs:=(Q2t.1 (Int.le_refl _)).2 x h
theorem Qi4 (c:Int) (vs:List Qrf):c≤Z1 c vs:=(Q2t.1 (Int.le_refl _)).1
theorem topOf_at {vs:List Qrf} (hne:vs ≠ []) (h0:∀ x∈vs,0≤x.2):∃ x∈vs,Z1 0 vs=x.2:=by
 have key:∀ (l:List Qrf) (c:Int),Z1 c l=c∨∃ x∈l,Z1 c l=x.2:=by
  intro l
  induction l with
  | nil=>intro c;exact .inl rfl
  | cons y l ih =>
   intro c
   have e:Z1 c (y::l)=Z1 (max c y.2) l:=rfl
   rw [e]
   rcases ih (max c y.2) with h | ⟨x,hx,h⟩
   ·rw [h]
    rcases Int.le_total c y.2 with h1 | h1
    ·right;exact ⟨y,Ci,by omega⟩
    ·left;omega
   ·right;exact ⟨x,Ch _ hx,h⟩
 rcases key vs 0 with h | h
 ·obtain ⟨x,r,rfl⟩:=S7 hne
  have h1:=h0 x Ci
  have h2:=Q3s (c:=0) (vs:=x::r) Ci
  exact ⟨x,Ci,by omega⟩
 ·exact h
def Q0z (C:Int) (vs:List Qrf):Int:=if vs ≠ []∧C≤Z1 0 vs then 0 else C
theorem Q9e (A B:Lvl):Q3w A B=⟨Q0z (max A.c B.c) (Jb A.vs B.vs),Jb A.vs B.vs⟩:=by
 unfold Q3w Q0z
 split <;> rfl
theorem trimC_more {C b:Int} {vs m:List Qrf} (Qqi:0≤C) (hb:0≤b) (hm:vs ≠ []→m ≠ []) (ht:Z1 0 vs≤Z1 0 m):Q0z (max (Q0z C vs) b) m=Q0z (max C b) m:=by
 unfold Q0z
 have h0:=Qi4 0 m
 by_cases h1:vs ≠ []∧C≤Z1 0 vs
 ·rw [Cd h1]
  have hm':=hm h1.1
  by_cases h2:b≤Z1 0 m
  ·rw [Cd ⟨hm',by omega⟩,Cd ⟨hm',by omega⟩]
  ·rw [C5 (fun h=>h2 (by omega)),C5 (fun h=>h2 (by omega))];omega
 ·rw [C5 h1]
theorem Qem {C:Int} {vs:List Qrf} (Qqi:0≤C) (h0:∀ x∈vs,0≤x.2):Z9 ⟨C,vs⟩=⟨Q0z C vs,vs⟩:=by
 unfold Z9 Q0z Q4m
 by_cases h1:vs ≠ []∧C≤Z1 0 vs
 ·rw [Cd h1]
  obtain ⟨x,hx,he⟩:=topOf_at h1.1 h0
  rw [Cd]
  exact CS.2 ⟨x,hx,by simp;omega⟩
 ·rw [C5 h1,C5]
  intro h2
  obtain ⟨x,hx,he⟩:=CS.1 h2
  have hx':x∈vs:=hx
  have:=Q3s (c:=0) hx'
  simp at he
  exact h1 ⟨(by intro h;rw [h] at hx';cases hx'),by omega⟩
theorem Q1i {l:List Qrf} (h:Asc l) {x:Qrf} (hx:x∈l):G4 l x.1=some x.2:=(YS h).2 hx
theorem merge_ge_l {a b:List Qrf} (ha:WF a) (hb:WF b) {x:Qrf} (hx:x∈a):∃ y∈Jb a b,y.1=x.1∧x.2≤y.2:=by
 have h1:=ZJ a b ha.1 hb.1 x.1
 rw [Q1i ha.1 hx] at h1
 have hm:=(KE a b ha hb).1
 cases h2:G4 b x.1 with
 | none=>rw [h2] at h1;exact ⟨(x.1,x.2),(YS hm).1 h1,rfl,Int.le_refl _⟩
 | some p=>rw [h2] at h1;exact ⟨(x.1,max x.2 p),(YS hm).1 h1,rfl,by dsimp only;omega⟩
theorem Q69 {a b:List Qrf} (ha:WF a) (hb:WF b) {y:Qrf} (hy:y∈Jb a b):y∈a∨y∈b:=by
 have hm:=(KE a b ha hb).1
 have h1:=ZJ a b ha.1 hb.1 y.1
 rw [Q1i hm hy] at h1
 cases h2:G4 a y.1 with
 | none =>
  rw [h2,Wo] at h1
  exact .inr ((YS hb.1).1 h1.symm)
 | some p =>
  cases h3:G4 b y.1 with
  | none =>
   rw [h2,h3,K3] at h1
   have:=(YS ha.1).1 h2
   cases h1;exact .inl this
  | some q =>
   rw [h2,h3] at h1
   have h4:=(YS ha.1).1 h2
   have h5:=(YS hb.1).1 h3
   have h6:y.2=max p q:=Cv h1
   rcases Int.le_total p q with h7 | h7
   ·right
    rw [show max p q=q by omega] at h6
    rwa [← h6] at h5
   ·left
    rw [show max p q=p by omega] at h6
    rwa [← h6] at h4
theorem merge_ne_l {a b:List Qrf} (h:a ≠ []):Jb a b ≠ []:=by
 cases a with
 | nil=>exact absurd rfl h
 | cons x a=>cases b with
  | nil=>rw [Zf];exact h
  | cons y b =>
   rw [Jb]
   repeat' split
   all_goals exact List.cons_ne_nil _ _
theorem topOf_mono {a m:List Qrf} (h:∀ x∈a,∃ y∈m,x.2≤y.2):Z1 0 a≤Z1 0 m:=by
 refine Q2t.2 ⟨Qi4 0 m,fun x hx=>?_⟩
 obtain ⟨y,hy,h1⟩:=h x hx
 have:=Q3s (c:=0) hy
 omega
def Qa0 (M:Qt) (x:Qrf):Qt:=cond (cond (!(Dn M x.1)) true (decide (YM M x.1 < x.2))) (Wf M x.1 x.2) M
def Qkw (M:Qt):Prop:=∃ n,ImInv n M
structure RMap (M:Qt) (vs:List Qrf):Prop where
 good:Qkw M
 wf:WF vs
 eq:∀ k,Kb M k=G4 vs k
theorem RMap.nil:RMap imNil []:=⟨⟨0,ImInv.nil⟩,DN,fun k=>rfl⟩
def Qbh (k:Int) (l:List (Int×Int×Nat)):Option Int:=(l.find? fun e=>k==e.1).map fun e=>e.2.1
theorem Uz (k:Int):∀ (l:List (Int×Int×Nat)) (i:Nat),(Yl k l i).map (·.2)=Qbh k l
 | [],i=>rfl
 | e::l,i=>by
  simp only [Yl,Qbh,Sv]
  cases h:k==e.1 with
  | true=>rfl
  | false=>simp only [Ce];exact Uz k l (i+1)
theorem Q0h (M:Qt) (k:Int):Kb M k=Qbh k M.1:=Uz k M.1 0
theorem lkp_append (k:Int) (l r:List (Int×Int×Nat)):Qbh k (l++r)=(Qbh k l).or (Qbh k r):=by
 simp only [Qbh,List.find?_append]
 cases l.find? fun e=>k==e.1 <;> rfl
theorem Ur {k v:Int} {k':Int}:∀ {l:List (Int×Int×Nat)} {i j:Nat} {u:Int},Yl k l i=some (j,u)→i≤j∧j - i < l.length∧Qbh k' (l.modify (j - i) fun e=>(k,v,e.2.2))=if k'=k then some v else Qbh k' l
 | [],i,j,u,h=>by cases h
 | e::l,i,j,u,h=>by
  simp only [Yl] at h
  cases hk:k==e.1 with
  | true =>
   rw [hk] at h;cases h
   have hke:k=e.1:=by simpa using hk
   refine ⟨Ck _,by simp,?_⟩
   rw [PA,List.modify_zero_cons]
   simp only [Qbh,Sv]
   by_cases hkk:k'=k
   ·subst hkk;simp
   ·have h1:(k'==k)=false:=by simpa using hkk
    have h2:(k'==e.1)=false:=by rw [← hke];exact h1
    rw [h1,h2,C5 hkk]
  | false =>
   rw [hk] at h
   simp only [Ce] at h
   obtain ⟨h1,h2,h3⟩:=Ur (v:=v) (k':=k') h
   refine ⟨by omega,by simp only [C2];omega,?_⟩
   rw [show j - i=(j - (i+1))+1 by omega,List.modify_succ_cons]
   simp only [Qbh,Sv] at h3 ⊢
   cases hk':k'==e.1 with
   | true =>
    have:k' ≠ k:=by
     intro e1;subst e1;rw [hk] at hk';cases hk'
    rw [C5 this]
   | false=>exact h3
theorem Q6x (M:Qt) (k v k':Int):Kb (Wf M k v) k'=if k'=k then some v else Kb M k':=by
 rw [Q0h,Q0h]
 unfold Wf
 cases h:Yl k M.1 0 with
 | some p =>
  obtain ⟨j,u⟩:=p
  have:=(Ur (v:=v) (k':=k') h).2.2
  simpa using this
 | none =>
  have h0:Qbh k M.1=none:=by rw [← Uz k M.1 0,h];rfl
  dsimp only
  rw [lkp_append]
  by_cases hkk:k'=k
  ·subst hkk
   rw [h0];simp [Qbh]
  ·rw [C5 hkk]
   have:Qbh k' [(k,v,M.2)]=none:=by
    have h1:(k'==k)=false:=by simpa using hkk
    simp [Qbh,h1]
   rw [this];cases Qbh k' M.1 <;> rfl
theorem Ul {α β:Type} (g:α→β) (f:α→α):∀ (l:List α) (j:Nat),(∀ x,l[j]?=some x→g (f x)=g x)→(l.modify j f).map g=l.map g
 | [],j,_=>by cases j <;> rfl
 | x::l,0,h=>by rw [List.modify_zero_cons,CF,CF,h x rfl]
 | x::l,j+1,h=>by rw [List.modify_succ_cons,CF,CF,Ul g f l j (fun y hy=>h y (by simpa using hy))]
theorem Q40 {k:Int}:∀ {l:List (Int×Int×Nat)} {i j:Nat} {u:Int},Yl k l i=some (j,u)→∃ e,l[j - i]?=some e∧e.1=k
 | [],i,j,u,h=>by cases h
 | e::l,i,j,u,h=>by
  simp only [Yl] at h
  cases hk:k==e.1 with
  | true=>rw [hk] at h;cases h;exact ⟨e,by simp,(by simpa using hk:k=e.1).symm⟩
  | false =>
   rw [hk] at h
   simp only [Ce] at h
   obtain ⟨e',h1,h2⟩:=Q40 h
   have:=(Ur (v:=0) (k':=0) h).1
   exact ⟨e',by rw [show j - i=(j - (i+1))+1 by omega,List.getElem?_cons_succ];exact h1,h2⟩
theorem Q1h {k:Int}:∀ {l:List (Int×Int×Nat)} {i:Nat},Yl k l i=none→∀ e∈l,e.1 ≠ k
 | [],i,_,e,he=>by cases he
 | x::l,i,h,e,he=>by
  simp only [Yl] at h
  cases hk:k==x.1 with
  | true=>rw [hk] at h;cases h
  | false =>
   rw [hk] at h
   rcases Cq.1 he with rfl | he
   ·intro e1;rw [e1] at hk;simp at hk
   ·exact Q1h h e he
theorem ImInv.set {n:Nat} {M:Qt} (h:ImInv n M) {k:Int} (v:Int) (hk:-9223372036854775808≤k∧k≤9223372036854775807):ImInv (n+1) (Wf M k v):=by
 unfold Wf
 cases hf:Yl k M.1 0 with
 | some p =>
  obtain ⟨j,u⟩:=p
  obtain ⟨e0,h1,h2⟩:=Q40 hf
  rw [Sy] at h1
  have m1:(M.1.modify j fun e=>(k,v,e.2.2)).map (fun e=>e.1)=M.1.map fun e=>e.1:=Ul _ _ _ _ (fun x hx=>by rw [h1] at hx;cases hx;exact h2.symm)
  have m2:(M.1.modify j fun e=>(k,v,e.2.2)).map (fun e=>e.2.2)=M.1.map fun e=>e.2.2:=Ul _ _ _ _ (fun x hx=>rfl)
  refine ⟨by rw [List.length_modify];exact SJ h.len,by dsimp only;rw [m1];exact h.keys,by dsimp only;rw [m2];exact h.born,fun e he=>?_,fun e he=>?_⟩
  ·have:e.2.2∈M.1.map fun e=>e.2.2:=by rw [← m2];exact List.mem_map_of_mem he
   obtain ⟨e',h3,h4⟩:=Cw.1 this
   dsimp only at h4 ⊢
   rw [← h4];exact h.old e' h3
  ·have:e.1∈M.1.map fun e=>e.1:=by rw [← m1];exact List.mem_map_of_mem he
   obtain ⟨e',h3,h4⟩:=Cw.1 this
   rw [← h4];exact h.rng e' h3
 | none =>
  have hn:=Q1h hf
  refine ⟨by simp only [C7,List.length_singleton];have:=h.len;omega,?_,?_,fun e he=>?_,fun e he=>?_⟩
  ·rw [Cr,SG]
   refine ⟨h.keys,by simp,fun a ha b hb=>?_⟩
   obtain ⟨e,h3,rfl⟩:=Cw.1 ha
   simp at hb;subst hb
   exact hn e h3
  ·rw [Cr,SG]
   refine ⟨h.born,by simp,fun a ha b hb=>?_⟩
   obtain ⟨e,h3,rfl⟩:=Cw.1 ha
   simp at hb;subst hb
   exact Nat.ne_of_lt (h.old e h3)
  ·rcases CQ.1 he with he | he
   ·exact Nat.lt_succ_of_lt (h.old e he)
   ·simp at he;subst he;exact Ct _
  ·rcases CQ.1 he with he | he
   ·exact h.rng e he
   ·simp at he;subst he;exact hk
theorem DY {α:Type} [BEq α] [LawfulBEq α]:∀ {l:List α},l.Nodup→Uj l=true
 | [],_=>rfl
 | x::l,h=>by
  obtain ⟨h1,h2⟩:=CT.1 h
  simp only [Uj]
  cases h3:l.any fun y=>x==y with
  | true =>
   obtain ⟨y,h4,h5⟩:=CS.1 h3
   rw [show x=y by simpa using h5] at h1
   exact absurd h4 h1
  | false=>exact DY h2
theorem ImInv.ok {n:Nat} {M:Qt} (h:ImInv n M) (hn:n≤1000000):Q5h M=true:=by
 unfold Q5h
 rw [Cb (Ca h.len hn),DY h.keys,DY h.born]
 have:(M.1.all fun e=>cond (Nat.ble (e.2.2+1) M.2) (cond (decide (-9223372036854775808≤e.1)) (decide (e.1≤9223372036854775807)) false) false)=true:=by
  refine Cf.2 fun e he=>?_
  rw [Cb (h.old e he),C9 (h.rng e he).1,C9 (h.rng e he).2];rfl
 rw [this];rfl
theorem Q3f {M:Qt} {k:Int}:k∈JC M↔(Kb M k).isSome:=by
 rw [Q0h]
 unfold JC Qbh
 rw [(ZB _).mem_iff,Option.isSome_map,List.find?_isSome]
 constructor
 ·intro h
  obtain ⟨e,h1,h2⟩:=Cw.1 h
  exact ⟨e,h1,by simp [h2]⟩
 ·rintro ⟨e,h1,h2⟩
  exact Cw.2 ⟨e,h1,(by simpa using h2:k=e.1).symm⟩
theorem Q3z {n:Nat} {M:Qt} (h:ImInv n M):(JC M).Pairwise (· < ·):=by
 have h1:(JC M).Nodup:=(ZB _).nodup_iff.2 h.keys
 have h2:=X3 (M.1.map fun e=>e.1)
 exact (h2.and h1).imp fun ⟨a,b⟩=>Int.lt_iff_le_and_ne.2 ⟨a,b⟩
theorem Asc.nodup {l:List Qrf} (h:Asc l):l.Nodup:=h.imp fun hab e=>by rw [e] at hab;omega
theorem asc_ext {a b:List Qrf} (ha:Asc a) (hb:Asc b) (h:∀ k,G4 a k=G4 b k):a=b:=by
 have hp:a.Perm b:=(List.perm_ext_iff_of_nodup ha.nodup hb.nodup).2 fun x=>by
  obtain ⟨k,p⟩:=x
  rw [← YS ha,← YS hb,h]
 exact List.Perm.eq_of_pairwise (le:=fun x y:Qrf=>x.1 < y.1) (fun x y _ _ h1 h2=>by omega) ha hb hp
theorem rz_get (M:Qt) (x:Qrf) (k:Int):Kb (Qa0 M x) k=if k=x.1 then mx (Kb M k) x.2 else Kb M k:=by
 unfold Qa0 Dn YM
 cases h:Kb M x.1 with
 | none =>
  simp only [P5,S6,C6]
  rw [Q6x]
  by_cases hk:k=x.1
  ·subst hk;rw [Cd rfl,Cd rfl,h];rfl
  ·rw [C5 hk,C5 hk]
 | some o =>
  simp only [Pv,PN,Ce,Pu]
  by_cases ho:o < x.2
  ·rw [C9 ho,C6,Q6x]
   by_cases hk:k=x.1
   ·subst hk;rw [Cd rfl,Cd rfl,h]
    have:max o x.2=x.2:=by omega
    simp only [mx,this]
   ·rw [C5 hk,C5 hk]
  ·rw [C8 ho,Ce]
   by_cases hk:k=x.1
   ·subst hk;rw [Cd rfl,h]
    have:max o x.2=o:=by omega
    simp only [mx,this]
   ·rw [C5 hk]
theorem rz_good {M:Qt} (h:Qkw M) {x:Qrf} (hx:-65536≤x.1∧x.1≤7):Qkw (Qa0 M x):=by
 unfold Qa0
 obtain ⟨n,hn⟩:=h
 cases cond (!(Dn M x.1)) true (decide (YM M x.1 < x.2)) with
 | true=>exact ⟨_,hn.set x.2 ⟨by omega,by omega⟩⟩
 | false=>exact ⟨n,hn⟩
theorem Qev:∀ (l:List Qrf) (M:Qt),Asc l→∀ k,Kb (l.foldl Qa0 M) k=Qlg (Kb M k) (G4 l k)
 | [],M,_,k=>by rw [Q41,K3];rfl
 | x::l,M,h,k=>by
  obtain ⟨h1,h2⟩:=CL.1 h
  rw [PH,Qev l _ h2,rz_get]
  by_cases hk:k=x.1
  ·subst hk
   have:G4 l x.1=none:=Q0i fun y hy e=>by have:=h1 y hy;omega
   rw [Cd rfl,this,Zj,K3];rfl
  ·rw [C5 hk,Yh hk]
theorem UX:∀ (l:List Qrf) (M:Qt),Qkw M→(∀ x∈l,-65536≤x.1∧x.1≤7)→Qkw (l.foldl Qa0 M)
 | [],_,h,_=>h
 | x::l,M,h,hl=>UX l _ (rz_good h (hl x Ci)) fun y hy=>hl y (Ch _ hy)
theorem RMap.merge {M:Qt} {vs l:List Qrf} (h:RMap M vs) (hl:WF l):RMap (l.foldl Qa0 M) (Jb vs l) :=
 ⟨UX l M h.good hl.2,KE _ _ h.wf hl,fun k=>by rw [Qev l M hl.1,h.eq,ZJ vs l h.wf.1 hl.1]⟩
theorem RMap.ok {M:Qt} {vs:List Qrf} (h:RMap M vs):Q5h M=true∧(JC M).map (fun k=>(k,YM M k))=vs:=by
 obtain ⟨n,hn⟩:=h.good
 have h1:(JC M).map (fun k=>(k,YM M k))=vs:=by
  refine asc_ext ?_ h.wf.1 fun k=>?_
  ·unfold Asc
   rw [SL];exact Q3z hn
  ·have ha:Asc ((JC M).map fun k=>(k,YM M k)):=by unfold Asc;rw [SL];exact Q3z hn
   rw [← h.eq k]
   cases hg:Kb M k with
   | none =>
    refine Q0i fun y hy e=>?_
    obtain ⟨k',hk',rfl⟩:=Cw.1 hy
    have:=Q3f.1 hk'
    dsimp only at e;subst e
    rw [hg] at this;cases this
   | some p =>
    have hk:k∈JC M:=Q3f.2 (by rw [hg];rfl)
    refine (YS ha).2 (Cw.2 ⟨k,hk,?_⟩)
    unfold YM;rw [hg];rfl
 refine ⟨ImInv.ok (n:=M.1.length) { hn with len:=Ck _ } ?_,h1⟩
 have h2:vs.length=M.1.length:=by
  rw [← h1,Cm]
  exact (ZB _).length_eq.trans (Cm _)
 have:=h.wf.len
 omega
theorem Q7i {a b:Nat} (h:a≤b):Nat.ble a b=true:=Cb h
theorem Ge {α:Type} {b:Bool} {x:Option α} (h:b=true):Q7 b x=x:=by rw [h];rfl
theorem rz_stepM (M:Qt) (k p:Int):(Option.bind (cond (!(Dn M k))
  (some true)
  (some (decide ((YM M k) < p)))) (fun (v19:Bool)=>cond v19
  (some (Wf M k p))
  (some M)))=some (Qa0 M (k,p)):=by
 unfold Qa0
 cases Dn M k with
 | false=>rfl
 | true =>
  simp only [PN,Ce,C1]
  cases decide (YM M k < p) <;> rfl
theorem Q43 {α β:Type} (f:α→β):∀ (l:List α) (out:List β),l.foldl (fun o x=>o++[f x]) out=out++l.map f
 | [],out=>by simp
 | x::l,out=>by rw [PH,Q43 f l];simp
structure GoodL (A:Lvl):Prop where
 wf:WF A.vs
 c:0≤A.c
 v:∀ x∈A.vs,0≤x.2
theorem trim_vs (A:Lvl):(Z9 A).vs=A.vs:=by unfold Z9;split <;> rfl
theorem good_merge {A B:Lvl} (ha:GoodL A) (hb:GoodL B):GoodL ⟨max A.c B.c,Jb A.vs B.vs⟩:=⟨KE _ _ ha.wf hb.wf,by have:=ha.c;show 0≤max A.c B.c;omega,fun x hx=>(Q69 ha.wf hb.wf hx).elim (ha.v x) (hb.v x)⟩
theorem Qqm {a b:Nat} (h1:a≤100000) (h2:b≤100000):cond (Nat.ble a 100000) (Nat.ble b 100000) false=true:=by rw [Q7i h1,Q7i h2];rfl
def Ql1 (b:UInt8):Bool:=decide (48≤b.toNat)&&decide (b.toNat≤57)
def K9 (s:Qrl):Qrl:=s.takeWhile Ql1
def Ql9 (ds:Qrl):Nat:=ds.foldl (fun a b=>10 * a+(b.toNat - 48)) 0
def Qkh (ds:Qrl):Bool:=decide (ds.length=0)||decide (6 < ds.length)||(decide (1 < ds.length)&&(ds.head?==some 48))
def Q20 (s:Qrl):Option (Nat×Qrl):=if Qkh (K9 s) then none else some (Ql9 (K9 s),s.drop (K9 s).length)
def sp (s:Qrl):Qrl:=s.dropWhile (·==32)
def DK (c:UInt8):Qrl→Option Qrl
 | b::r=>if b=c then some r else none
 | []=>none
def WR (i n:Int):Lvl×Int:=if i < -65536∨7 < i∨n < 0 then (⟨0,[]⟩,2) else if 100 < n then (⟨0,[]⟩,15) else (⟨0,[(i,n)]⟩,0)
def Qhf (n:Int):Lvl×Int:=if n < 0 then (⟨0,[]⟩,2) else if 100 < n then (⟨0,[]⟩,15) else (⟨n,[]⟩,0)
def Qhs (neg:Bool) (t:Qrl):Option ((Lvl×Int)×Qrl):=match Q20 t with
 | none=>none
 | some (n,r)=>match DK 43 (sp r) with
  | none=>some (WR (if neg then -1 - (n:Int) else n) 0,sp r)
  | some r2=>match Q20 (sp r2) with
   | none=>none
   | some (p,r3)=>some (WR (if neg then -1 - (n:Int) else n) p,r3)
def Gb (t:Qrl):Option ((Lvl×Int)×Qrl):=match DK 117 t with
 | some t'=>Qhs false t'
 | none=>match DK 63 t with
  | some t'=>Qhs true t'
  | none=>match Q20 t with
   | none=>none
   | some (n,r)=>some (Qhf n,r)
def Xx:Nat→Qrl→Option (List (Lvl×Int)×Qrl)
 | 0,_=>none
 | n+1,t=>match Gb (sp t) with
  | none=>none
  | some (x,r)=>match DK 44 (sp r) with
   | none=>some ([x],sp r)
   | some r2=>match Xx n r2 with
    | none=>none
    | some (xs,r3)=>some (x::xs,r3)
def Q8b (s:Qrl):Option (List (Lvl×Int)) :=
 if Lib.hasPrefix (sp s) [109,97,120] then match DK 40 (sp ((sp s).drop 3)) with
  | none=>none
  | some t=>match Xx (s.length+1) t with
   | none=>none
   | some (xs,r)=>match DK 41 r with
    | none=>none
    | some r2=>if sp r2=[] then some xs else none
 else match Gb (sp s) with
  | none=>none
  | some (x,r)=>if sp r=[] then some [x] else none
def Gq (e:Int) (xs:List (Lvl×Int)):Int:=xs.foldl (fun e x=>if e=0 then x.2 else e) e
def Wb (o:Lvl) (xs:List (Lvl×Int)):Lvl:=xs.foldl (fun o x=>Q3w o x.1) o
def Q5c (s:Qrl):Lvl×Int:=match Q8b s with
 | none=>(⟨0,[]⟩,4)
 | some []=>(⟨0,[]⟩,4)
 | some (x::xs)=>if Gq 0 (x::xs)=0 then (Wb x.1 xs,0) else (⟨0,[]⟩,Gq 0 (x::xs))
theorem Qi2 {p:UInt8→Bool}:∀ (s:Qrl) (k:Nat),k < (s.takeWhile p).length→∃ b,s[k]?=some b∧p b=true
 | [],k,h=>by simp at h
 | b::s,k,h=>by
  rw [P8] at h
  split at h
  ·rename_i hb
   cases k with
   | zero=>exact ⟨b,rfl,hb⟩
   | succ k=>exact Qi2 s k (by simpa using h)
  ·simp at h
theorem Qi3 {p:UInt8→Bool}:∀ (s:Qrl) (b:UInt8),s[(s.takeWhile p).length]?=some b→p b=false
 | [],b,h=>by simp at h
 | c::s,b,h=>by
  rw [P8] at h
  split at h
  ·rename_i hc
   exact Qi3 s b (by simpa using h)
  ·rename_i hc
   simp at h;subst h;simpa using hc
theorem tw_take {p:UInt8→Bool} (s:Qrl):s.take (s.takeWhile p).length=s.takeWhile p:=by
 conv=>lhs;rw [← Cz (p:=p) (l:=s)]
 have h:((s.takeWhile p++s.dropWhile p).takeWhile p).length=(s.takeWhile p).length:=by rw [Cz]
 rw [h,List.take_left']
 rfl
theorem Qaa {p:UInt8→Bool} (s:Qrl):(s.takeWhile p).length≤s.length:=by
 have:=congrArg List.length (Cz (p:=p) (l:=s))
 rw [C7] at this;omega
theorem YO (s:Qrl):(sp s).length≤s.length:=by
 have:=congrArg List.length (Cz (p:=fun b:UInt8=>b==32) (l:=s))
 rw [C7] at this;unfold sp;omega
theorem Yc {c:UInt8} {t r:Qrl} (h:DK c t=some r):t=c::r:=by
 cases t with
 | nil=>cases h
 | cons b t =>
  unfold DK at h
  dsimp only at h
  split at h
  ·rename_i hb
   have:=Cv h
   subst this hb;rfl
  ·cases h
theorem ZP (c:UInt8) (t:Qrl):Lib.hasPrefix t [c]=(DK c t).isSome∧Lib.trimPrefix t [c]=(DK c t).getD t:=by
 unfold Lib.trimPrefix Lib.hasPrefix
 cases t with
 | nil=>exact ⟨rfl,rfl⟩
 | cons b t =>
  unfold DK
  dsimp only
  by_cases h:b=c
  ·subst h
   rw [Cd rfl]
   simp [List.isPrefixOf]
  ·rw [C5 h]
   have:(c==b)=false:=by simpa using fun e=>h e.symm
   simp [List.isPrefixOf,this]
theorem D9 {t r:Qrl} {v:Nat} (h:Q20 t=some (v,r)):r.length < t.length∧r=t.drop (K9 t).length∧v=Ql9 (K9 t)∧Qkh (K9 t)=false:=by
 unfold Q20 at h
 split at h
 ·cases h
 ·rename_i hb
  cases h
  refine ⟨?_,rfl,rfl,by simpa using hb⟩
  have h1:(K9 t).length ≠ 0:=fun h0=>by simp [Qkh,h0] at hb
  have h2:(K9 t).length≤t.length:=Qaa t
  rw [Cu];omega
theorem Qjs {neg:Bool} {t r:Qrl} {x:Lvl×Int} (h:Qhs neg t=some (x,r)):r.length < t.length:=by
 unfold Qhs at h
 split at h
 ·cases h
 ·rename_i n r1 h1
  have l1:=(D9 h1).1
  have l2:=YO r1
  split at h
  ·cases h;omega
  ·rename_i r2 h2
   have l3:=congrArg List.length (Yc h2)
   rw [C2] at l3
   have l4:=YO r2
   split at h
   ·cases h
   ·rename_i p r3 h3
    have l5:=(D9 h3).1
    cases h;omega
theorem UZ {t r:Qrl} {x:Lvl×Int} (h:Gb t=some (x,r)):r.length < t.length:=by
 unfold Gb at h
 split at h
 ·rename_i t' h1
  have l1:=congrArg List.length (Yc h1)
  rw [C2] at l1
  have:=Qjs h;omega
 ·split at h
  ·rename_i t' h1
   have l1:=congrArg List.length (Yc h1)
   rw [C2] at l1
   have:=Qjs h;omega
  ·split at h
   ·cases h
   ·rename_i n r1 h1
    cases h;exact (D9 h1).1
theorem Qc2:∀ (ds:Qrl) (acc:Nat),(∀ b∈ds,Ql1 b=true)→Lib.decFrom acc ds=some (ds.foldl (fun a b=>10 * a+(b.toNat - 48)) acc)
 | [],acc,_=>rfl
 | b::ds,acc,h=>by
  have hb:=h b Ci
  simp only [Ql1,CD,CX] at hb
  have hd:Lib.digitVal b=some (b.toNat - 48):=by unfold Lib.digitVal;rw [Cd hb]
  unfold Lib.decFrom
  rw [hd]
  dsimp only
  rw [Qc2 ds _ (fun c hc=>h c (Ch _ hc)),PH,SM acc 10]
theorem Qgr {s:Qrl}:∀ b∈K9 s,Ql1 b=true:=fun b hb=>by
 have:=SD (p:=Ql1) (l:=s)
 exact Cf.1 this b hb
theorem atoi_dig {s:Qrl} (h:K9 s ≠ []):Lib.atoi (K9 s)=some ((Ql9 (K9 s):Nat):Int):=by
 have hd:=Qgr (s:=s)
 generalize K9 s=ds at h hd
 cases ds with
 | nil=>exact absurd rfl h
 | cons b ds =>
  have hb:=hd b Ci
  simp only [Ql1,CD,CX] at hb
  unfold Lib.atoi
  dsimp only
  have h1:(b==45)=false:=by
   cases hc:(b==45) with
   | false=>rfl
   | true=>have:=eq_of_beq hc;subst this;exact absurd hb.1 (by decide)
  have h2:(b==43)=false:=by
   cases hc:(b==43) with
   | false=>rfl
   | true=>have:=eq_of_beq hc;subst this;exact absurd hb.1 (by decide)
  rw [h1,h2,C5 Cn,C5 Cn]
  unfold Lib.decNat
  rw [show (b::ds).isEmpty=false from rfl,C5 Cn,Qc2 _ 0 hd]
  rfl
theorem Qjo {s:Qrl} {k:Nat} {b:UInt8} (h:s[k]?=some b):J0 s (k:Int)=some b:=h
theorem Qgd (b:UInt8):Ql1 b=(decide (48≤(b.toNat:Int))&&decide ((b.toNat:Int)≤57)):=by
 unfold Ql1
 congr 1 <;> (apply Bool.eq_iff_iff.2;simp only [CX];omega)
theorem Qfe:∀ (ds:Qrl) (acc:Nat),(∀ b∈ds,Ql1 b=true)→ds.foldl (fun a b=>10 * a+(b.toNat - 48)) acc+1≤(acc+1) * 10 ^ ds.length
 | [],acc,_=>by simp
 | b::ds,acc,h=>by
  have hb:=h b Ci
  simp only [Ql1,CD,CX] at hb
  rw [PH]
  refine Ca (Qfe ds _ (fun c hc=>h c (Ch _ hc))) ?_
  rw [C2,Nat.pow_succ,SM _ 10,← Nat.mul_assoc]
  refine Pi _ ?_
  omega
theorem num_small {t r:Qrl} {v:Nat} (h:Q20 t=some (v,r)):v < 1000000:=by
 obtain ⟨-,-,h2,h3⟩:=D9 h
 have h4:=Qfe (K9 t) 0 Qgr
 have h5:(K9 t).length≤6:=by
  simp [Qkh] at h3;omega
 have h6:10 ^ (K9 t).length≤10 ^ 6:=Nat.pow_le_pow_right (by decide) h5
 have h7:(10:Nat) ^ 6=1000000:=by decide
 unfold Ql9 at h2
 omega
theorem Qbc {s:Qrl} (hs:s.length≤100000):Q9 (GE s) Qd 0=some ((K9 s).length:Int):=by
 refine Kx (fun i=>∃ k:Nat,i=(k:Int)∧k≤(K9 s).length) (fun i=>(K9 s).length - i.toNat) (fun _=>((K9 s).length:Int)) ?_ Qd 0 ⟨0,Z,Co _⟩ ?_
 ·rintro i ⟨k,rfl,hk⟩
  have hle:(K9 s).length≤s.length:=Qaa s
  unfold GE
  by_cases hlt:k < (K9 s).length
  ·obtain ⟨b,hb,hd⟩:=Qi2 s k hlt
   rw [Qgd] at hd
   simp only [CD] at hd
   right
   refine ⟨((k+1:Nat):Int),?_,⟨k+1,rfl,hlt⟩,by simp only [CN];omega,rfl⟩
   rw [C9 (by omega:(k:Int) < s.length),C6,Qjo hb]
   simp only [C1,hd.1,hd.2,C6]
   rw [Y4 (by omega) (by omega)];rfl
  ·have hk':k=(K9 s).length:=by omega
   subst hk'
   left
   cases hb:s[(K9 s).length]? with
   | none =>
    have:=Pr.1 hb
    rw [C8 (by omega:¬ ((K9 s).length:Int) < s.length)]
    rfl
   | some b =>
    have hd:=Qi3 s b hb
    have:=(Cg.1 hb).1
    rw [C9 (by omega:((K9 s).length:Int) < s.length),C6,Qjo hb]
    rw [Qgd] at hd
    simp only [C1]
    cases h1:decide (48≤(b.toNat:Int)) with
    | false=>rfl
    | true =>
     rw [h1,Bool.true_and] at hd
     rw [hd];rfl
 ·have:(K9 s).length≤s.length:=Qaa s
  show (K9 s).length - 0 < Qd
  unfold Qd;omega
theorem Q8m {s:Qrl} (hs:s.length≤100000) (bad:Bool) (e C:Int) (M:Qt):∃ x,YP s bad e C M=some x∧match Q20 s with
  | some (v,r)=>x=((v:Int),r,bad)
  | none=>x.2.2=true:=by
 have hle:(K9 s).length≤s.length:=Qaa s
 unfold YP
 rw [Qbc hs,C1]
 have g:(cond (decide (0≤((K9 s).length:Int))) (Nat.ble ((K9 s).length:Int).toNat s.length) false)=true:=by
  rw [C9 (by omega),C6];exact Q7i (by simpa using hle)
 rw [Ge g,Ge g,CN]
 have ht:s.take (K9 s).length=K9 s:=tw_take s
 rw [ht]
 unfold Q20 Qkh
 by_cases h0:(K9 s).length=0
 ·rw [show (((K9 s).length:Int)==0)=true by simpa using h0,C6]
  refine ⟨_,Z,?_⟩
  rw [Cd (by simp [h0])]
 ·rw [show (((K9 s).length:Int)==0)=false by simpa using h0,Ce]
  by_cases h6:6 < (K9 s).length
  ·rw [C9 (by omega:(6:Int) < (K9 s).length),C6]
   refine ⟨_,Z,?_⟩
   rw [Cd (by simp [h6])]
  ·rw [C8 (by omega:¬ (6:Int) < (K9 s).length),Ce]
   have hne:K9 s ≠ []:=fun h=>h0 (by rw [h];rfl)
   have ha:=atoi_dig hne
   obtain ⟨b,ds,hds⟩:∃ b ds,K9 s=b::ds:=by
    cases h:K9 s with
    | nil=>exact absurd h hne
    | cons b ds=>exact ⟨b,ds,rfl⟩
   have Qqm:(cond (Nat.ble (K9 s).length 18) (Lib.atoi (K9 s)).isSome false)=true:=by rw [Q7i (by omega),C6,ha];rfl
   have hi:J0 (K9 s) 0=some b:=by rw [hds];rfl
   have hh:(K9 s).head?=some b:=by rw [hds];rfl
   by_cases h1:1 < (K9 s).length
   ·rw [C9 (by omega:(1:Int) < (K9 s).length),C6,hi,hh]
    simp only [C1]
    by_cases hb:b=48
    ·subst hb
     refine ⟨_,Z,?_⟩
     rw [Cd (by simp [h1])]
    ·have e1:((b.toNat:Int)==48)=false:=by
      have:b.toNat ≠ 48:=fun e=>hb (Su.1 e)
      simpa using fun e:(b.toNat:Int)=48=>this (by omega)
     rw [e1,Ce,Ge Qqm]
     refine ⟨_,Z,?_⟩
     rw [C5 (by simp [h0,h6,hb])]
     dsimp only
     unfold Q1n
     rw [ha];rfl
   ·rw [C8 (by omega:¬ (1:Int) < (K9 s).length),Ce,C1,Ce,Ge Qqm]
    refine ⟨_,Z,?_⟩
    rw [C5 (by simp [h0,h6,h1])]
    dsimp only
    unfold Q1n
    rw [ha];rfl
theorem Q3l (i n:Int):(Option.bind (cond (decide (i < (-65536))) (some true) (cond (decide (7 < i)) (some true) (some (decide (n < 0))))) (fun (v12:Bool)=>cond v12 (some (2,([]:List Qrf))) (cond (decide (100 < n)) (some (15,([]:List Qrf))) (some (0,[(i,n)])))):Option (Int×List Qrf))=some ((WR i n).2,(WR i n).1.vs)∧(WR i n).1.c=0:=by
 unfold WR
 by_cases h1:i < -65536
 ·simp [h1]
 ·by_cases h2:7 < i
  ·simp [h1,h2]
  ·by_cases h3:n < 0
   ·simp [h1,h2,h3]
   ·by_cases h4:100 < n
    ·simp [h1,h2,h3,h4]
    ·simp [h1,h2,h3,h4]
theorem Qj8 (n:Int):(cond (decide (n < 0)) (some (2,0)) (cond (decide (100 < n)) (some (15,0)) (some (0,n))):Option (Int×Int))=some ((Qhf n).2,(Qhf n).1.c)∧(Qhf n).1.vs=[]:=by
 unfold Qhf
 by_cases h3:n < 0
 ·simp [h3]
 ·by_cases h4:100 < n
  ·simp [h3,h4]
  ·simp [h3,h4]
structure PartOK (x:Lvl×Int):Prop where
 c:0≤x.1.c∧x.1.c≤100
 v:∀ y∈x.1.vs,Qoy y
 wf:WF x.1.vs
 tr:Z9 x.1=x.1
theorem Q7y (i n:Int):PartOK (WR i n):=by
 unfold WR
 split
 ·exact ⟨⟨(by show (0:Int)≤0;omega),(by show (0:Int)≤100;omega)⟩,(fun y hy=>by cases hy),DN,rfl⟩
 ·rename_i h
  split
  ·exact ⟨⟨(by show (0:Int)≤0;omega),(by show (0:Int)≤100;omega)⟩,(fun y hy=>by cases hy),DN,rfl⟩
  ·rename_i h2
   refine ⟨⟨(by show (0:Int)≤0;omega),(by show (0:Int)≤100;omega)⟩,(fun y hy=>?_),wf_one ⟨by omega,by omega⟩,?_⟩
   ·simp at hy;subst hy;exact ⟨by omega,by omega,by omega,by omega⟩
   ·unfold Z9;split <;> rfl
theorem Qmg (i n:Int):PartOK (⟨0,(WR i n).1.vs⟩,(WR i n).2):=by
 have h:=Q7y i n
 have e:(WR i n).1=⟨0,(WR i n).1.vs⟩:=by
  have:=(Q3l i n).2
  generalize (WR i n).1=L at this ⊢
  cases L;dsimp only at this ⊢;rw [this]
 exact ⟨⟨Int.le_refl _,(by show (0:Int)≤100;decide)⟩,h.v,h.wf,by show Z9 ⟨0,(WR i n).1.vs⟩=_;rw [← e];exact h.tr⟩
theorem Qiu (n:Int):PartOK (Qhf n):=by
 unfold Qhf
 split
 ·exact ⟨⟨(by show (0:Int)≤0;omega),(by show (0:Int)≤100;omega)⟩,(fun y hy=>by cases hy),DN,rfl⟩
 ·split
  ·exact ⟨⟨(by show (0:Int)≤0;omega),(by show (0:Int)≤100;omega)⟩,(fun y hy=>by cases hy),DN,rfl⟩
  ·refine ⟨⟨by show (0:Int)≤n;omega,by show n≤100;omega⟩,(fun y hy=>by cases hy),DN,rfl⟩
theorem Qgi {neg:Bool} {t r:Qrl} {x:Lvl×Int} (h:Qhs neg t=some (x,r)):PartOK x:=by
 unfold Qhs at h
 split at h
 ·cases h
 ·split at h
  ·cases h;exact Q7y _ _
  ·split at h
   ·cases h
   ·cases h;exact Q7y _ _
theorem Q8a {t r:Qrl} {x:Lvl×Int} (h:Gb t=some (x,r)):PartOK x:=by
 unfold Gb at h
 split at h
 ·exact Qgi h
 ·split at h
  ·exact Qgi h
  ·split at h
   ·cases h
   ·cases h;exact Qiu _
theorem m71_eq {L:Lvl} (hL:PartOK (L,0)) (C:Int) (M:Qt):Xd L 0 C M=some (L.vs.foldl Qa0 M):=by
 unfold Xd
 have hv:=hL.v
 have key:=Q70 (step:=Ku L 0) (l:=L.vs) Qa0 (fun _ _=>True) (by have:=hL.wf.len;exact Ca this (by decide)) (fun k y s hy _=>by
  have hk:=(Cg.1 hy).1
  have hy':Qoy y:=hv y (Cs hy)
  refine ⟨?_,trivial⟩
  unfold Ku
  dsimp only
  rw [C9 (by omega:(k:Int) < L.vs.length),C6,Q2h (PT _) (by simpa using hy),C1]
  unfold Q8q
  rw [Y4 (n:=y.2+0) (by have:=hy'.2.2;omega) (by have:=hy'.2.2;omega),Int.add_zero,rz_stepM]
  rfl) (fun s _=>by unfold Ku;dsimp only;rw [C8 (by omega),Ce]) M trivial
 rw [key.1];rfl
theorem Xb (c:UInt8) (s:Qrl) (bad:Bool) (e C:Int) (M:Qt):Yk [c] s bad e C M=some ((DK c s).getD s):=by
 unfold Yk
 obtain ⟨h1,h2⟩:=ZP c s
 rw [h1,h2]
 cases DK c s <;> rfl
theorem Qj5 {t:Qrl} (ht:t.length≤100000) (e C:Int) (M:Qt):∃ x,W4 t false e C M=some x∧match Gb t with
  | some (L,r)=>x=(r,false,(if e=0 then L.2 else e),max C L.1.c,L.1.vs.foldl Qa0 M)
  | none=>x.2.1=true:=by
 have fin:∀ (L:Lvl×Int) (r:Qrl) (bad:Bool),PartOK L→(Option.bind (cond (e==0) (some L.2) (some e)) fun v4=>Option.bind (Xd L.1 0 C M) fun x5=>some (r,bad,v4,max C (Qm (L.1.c+0)),x5))=some (r,bad,(if e=0 then L.2 else e),max C L.1.c,L.1.vs.foldl Qa0 M):=by
  intro L r bad hL
  rw [m71_eq (L:=L.1) ⟨hL.c,hL.v,hL.wf,hL.tr⟩]
  have hc:=hL.c
  rw [Int.add_zero,Y4 (by omega) (by omega)]
  by_cases he:e=0
  ·rw [show (e==0)=true by simpa using he,Cd he];rfl
  ·rw [show (e==0)=false by simpa using he,C5 he];rfl
 have var:∀ (t':Qrl) (neg:Bool),t'.length≤100000→∃ y:Int×Int×List Qrf×Qrl×Bool×Int×List Qrf,(Option.bind (YP t' false e C M) fun x5=>Option.bind (cond neg (some (Qm (-1 - x5.1))) (some x5.1)) fun v6=>Option.bind (JI x5.2.1 x5.2.2 e C M) fun _ =>
   Option.bind (Yk [43] (x5.2.1.dropWhile (·==32)) x5.2.2 e C M) fun x8=>Option.bind (cond (Lib.hasPrefix (x5.2.1.dropWhile (·==32)) [43]) (Option.bind (JI x8 x5.2.2 e C M) fun _=>Option.bind (YP (x8.dropWhile (·==32)) x5.2.2 e C M) fun x12=>some (x12.1,x12.2.1,x12.2.2)) (some (0,x8,x5.2.2))) fun v9 =>
   Option.bind (Option.bind (cond (decide (v6 < (-65536))) (some true) (cond (decide (7 < v6)) (some true) (some (decide (v9.1 < 0))))) (fun (v12:Bool)=>cond v12 (some (2,([]:List Qrf))) (cond (decide (100 < v9.1)) (some (15,([]:List Qrf))) (some (0,[(v6,v9.1)]))))) (fun (y10:Int×(List Qrf))=>some (y10.1,0,y10.2,v9.2.1,v9.2.2,0,y10.2)))=some y∧match Qhs neg t' with
   | some (L,r)=>y=(L.2,L.1.c,L.1.vs,r,false,0,L.1.vs)
   | none=>y.2.2.2.2.1=true∧PartOK (⟨y.2.1,y.2.2.1⟩,y.1):=by
  intro t' neg ht'
  obtain ⟨x5,h5,h5'⟩:=Q8m ht' false e C M
  rw [h5,C1]
  unfold Qhs
  have e6:∀ z:Int,∃ v6,(cond neg (some (Qm (-1 - z))) (some z):Option Int)=some v6:=fun z=>by cases neg <;> exact ⟨_,rfl⟩
  cases hn:Q20 t' with
  | none =>
   rw [hn] at h5'
   have hb:x5.2.2=true:=h5'
   obtain ⟨v6,hv6⟩:=e6 x5.1
   rw [hv6,C1]
   unfold JI
   simp only [C1]
   rw [Xb,C1,(ZP 43 _).1,hb]
   cases ht43:DK 43 (x5.2.1.dropWhile (·==32)) with
   | none =>
    simp only [P5,Ce,C1]
    rw [(Q3l _ _).1]
    exact ⟨_,Z,Z,Qmg _ _⟩
   | some r2 =>
    simp only [Pv,C6,C1,Pu]
    have key:∃ z,YP (r2.dropWhile (·==32)) true e C M=some z∧z.2.2=true:=by
     by_cases hl:(r2.dropWhile (·==32)).length≤100000
     ·obtain ⟨z,hz,hz'⟩:=Q8m hl true e C M
      refine ⟨z,hz,?_⟩
      cases hq:Q20 (r2.dropWhile (·==32)) with
      | none=>rw [hq] at hz';exact hz'
      | some q=>rw [hq] at hz';dsimp only at hz';rw [hz']
     ·exact (hl (by
       have a1:=YO r2
       have a2:=congrArg List.length (Yc ht43)
       rw [C2] at a2
       have a3:=YO x5.2.1
       have a4:x5.2.1.length≤t'.length:=by
        unfold YP at h5
        rw [Qbc ht',C1] at h5
        have g:(cond (decide (0≤((K9 t').length:Int))) (Nat.ble ((K9 t').length:Int).toNat t'.length) false)=true:=by
         rw [C9 (by omega),C6];exact Q7i (by rw [CN];exact Qaa t')
        rw [Ge g,Ge g] at h5
        obtain ⟨v4,-,h5⟩:=YW h5
        cases v4 with
        | true=>cases h5;simp
        | false =>
         simp only [Ce] at h5
         obtain ⟨-,h5⟩:=KQ h5
         cases h5;simp
       unfold sp at a1 a3
       omega)).elim
    obtain ⟨z,hz,hz'⟩:=key
    rw [hz]
    simp only [C1]
    rw [(Q3l _ _).1]
    exact ⟨_,Z,hz',Qmg _ _⟩
  | some p =>
   obtain ⟨n,r⟩:=p
   rw [hn] at h5'
   dsimp only at h5' ⊢
   subst h5'
   have hr:=D9 hn
   dsimp only
   have e7:(cond neg (some (Qm (-1 - (n:Int)))) (some (n:Int)):Option Int)=some (if neg then -1 - (n:Int) else n):=by
    cases neg with
    | false=>rfl
    | true =>
     have hbig:=num_small hn
     rw [Cd rfl,C6,Y4 (by omega) (by omega)]
   rw [e7,C1]
   unfold JI
   simp only [C1]
   rw [Xb,C1,(ZP 43 _).1]
   show ∃ y,_∧_
   cases ht43:DK 43 (r.dropWhile (·==32)) with
   | none =>
    have ht43':DK 43 (sp r)=none:=ht43
    rw [ht43']
    simp only [P5,Ce,C1,Option.getD_none]
    rw [(Q3l _ _).1]
    exact ⟨_,rfl,by rw [(Q3l _ _).2];rfl⟩
   | some r2 =>
    have ht43':DK 43 (sp r)=some r2:=ht43
    rw [ht43']
    simp only [Pv,C6,C1,Pu]
    have hl:(sp r2).length≤100000:=by
     have a1:=YO r2
     have a2:=congrArg List.length (Yc ht43')
     rw [C2] at a2
     have a3:=YO r
     omega
    obtain ⟨z,hz,hz'⟩:=Q8m hl false e C M
    have hz2:YP (r2.dropWhile (·==32)) false e C M=some z:=hz
    rw [hz2]
    simp only [C1]
    rw [(Q3l _ _).1]
    cases hq:Q20 (sp r2) with
    | none=>rw [hq] at hz';exact ⟨_,rfl,hz',Qmg _ _⟩
    | some q =>
     obtain ⟨q1,q2⟩:=q
     rw [hq] at hz'
     dsimp only at hz'
     subst hz'
     exact ⟨_,rfl,by dsimp only;rw [(Q3l _ _).2]⟩
 unfold W4 Gb
 rw [Xb,C1,(ZP 117 t).1]
 cases h117:DK 117 t with
 | some t' =>
  have hl:t'.length≤100000:=by
   have a2:=congrArg List.length (Yc h117)
   rw [C2] at a2;omega
  obtain ⟨y,hy,hy'⟩:=var t' false hl
  simp only [Pv,C6,C1,Pu,PN]
  rw [hy,C1]
  cases hg:Qhs false t' with
  | none =>
   rw [hg] at hy'
   rw [show (⟨y.2.1,y.2.2.1⟩:Lvl)=(((⟨y.2.1,y.2.2.1⟩:Lvl),y.1):Lvl×Int).1 from rfl]
   have:=fin (⟨y.2.1,y.2.2.1⟩,y.1) y.2.2.2.1 y.2.2.2.2.1 hy'.2
   exact ⟨_,this,hy'.1⟩
  | some q =>
   rw [hg] at hy'
   obtain ⟨L,r⟩:=q
   dsimp only at hy' ⊢
   subst hy'
   exact ⟨_,fin L r false (Qgi hg),Z⟩
 | none =>
  simp only [P5,Ce,Option.getD_none,S6]
  rw [Xb,(ZP 63 t).1]
  cases h63:DK 63 t with
  | some t' =>
   have hl:t'.length≤100000:=by
    have a2:=congrArg List.length (Yc h63)
    rw [C2] at a2;omega
   obtain ⟨y,hy,hy'⟩:=var t' true hl
   simp only [Pv,C6,C1,Pu]
   simp only [C6,C1] at hy
   rw [hy,C1]
   cases hg:Qhs true t' with
   | none =>
    rw [hg] at hy'
    have:=fin (⟨y.2.1,y.2.2.1⟩,y.1) y.2.2.2.1 y.2.2.2.2.1 hy'.2
    exact ⟨_,this,hy'.1⟩
   | some q =>
    rw [hg] at hy'
    obtain ⟨L,r⟩:=q
    dsimp only at hy' ⊢
    subst hy'
    exact ⟨_,fin L r false (Qgi hg),Z⟩
  | none =>
   simp only [P5,Ce,C1,Option.getD_none]
   obtain ⟨x5,h5,h5'⟩:=Q8m ht false e C M
   rw [h5]
   simp only [C1]
   rw [(Qj8 _).1]
   simp only [C1]
   have:=fin (Qhf x5.1) x5.2.1 x5.2.2 (Qiu _)
   have e9:Qhf x5.1=(⟨(Qhf x5.1).1.c,[]⟩,(Qhf x5.1).2):=by
    have h9:=(Qj8 x5.1).2
    generalize Qhf x5.1=o9 at h9 ⊢
    obtain ⟨⟨c9,v9⟩,z9⟩:=o9
    have h9:v9=[]:=h9
    rw [h9]
   rw [e9] at this
   refine ⟨_,this,?_⟩
   cases hn:Q20 t with
   | none=>rw [hn] at h5';exact h5'
   | some q=>rw [hn] at h5';dsimp only at h5' ⊢;subst h5';dsimp only;rw [(Qj8 _).2]
def Qgm (M:Qt) (xs:List (Lvl×Int)):Qt:=xs.foldl (fun M x=>x.1.vs.foldl Qa0 M) M
def Wh (C:Int) (xs:List (Lvl×Int)):Int:=xs.foldl (fun C x=>max C x.1.c) C
theorem Q5y:∀ (n:Nat) (t:Qrl) (M:Qt) (C e:Int) (fuel:Nat),t.length < n→t.length≤100000→n+2≤fuel→∃ o,Q9 ZS fuel (true,M,C,t,false,e)=some o∧match Xx n t with
  | some (xs,r)=>o=(Qgm M xs,Wh C xs,r,false,Gq e xs)
  | none=>o.2.2.2.1=true
 | 0,t,M,C,e,fuel,h,_,_=>by omega
 | n+1,t,M,C,e,fuel,h,hl,hf=>by
  obtain ⟨f,rfl⟩:∃ f,fuel=f+1:=⟨fuel - 1,by omega⟩
  have a1:=YO t
  obtain ⟨x,hx,hx'⟩:=Qj5 (t:=sp t) (by omega) e C M
  have hx2:W4 (t.dropWhile (·==32)) false e C M=some x:=hx
  have step:ZS (true,M,C,t,false,e)=some (.next ((DK 44 (sp x.1)).isSome,x.2.2.2.2,x.2.2.2.1,(DK 44 (sp x.1)).getD (sp x.1),x.2.1,x.2.2.1)):=by
   unfold ZS JI
   simp only [C6,S6,C1]
   rw [hx2,C1]
   have e1:=Xb 44 (x.1.dropWhile (·==32)) x.2.1 x.2.2.1 x.2.2.2.1 x.2.2.2.2
   rw [e1,C1,(ZP 44 _).1]
   rfl
  rw [Q9,step]
  dsimp only
  unfold Xx
  have stop:∀ (more:Bool) (M':Qt) (C':Int) (r:Qrl) (e':Int),Q9 ZS f (more,M',C',r,true,e')=some (M',C',r,true,e'):=fun more M' C' r e'=>by
   obtain ⟨f',rfl⟩:∃ f',f=f'+1:=⟨f - 1,by omega⟩
   rw [Q9]
   unfold ZS
   cases more <;> rfl
  cases hp:Gb (sp t) with
  | none =>
   rw [hp] at hx'
   have hb:x.2.1=true:=hx'
   rw [hb,stop]
   exact ⟨_,Z,Z⟩
  | some q =>
   obtain ⟨L,r⟩:=q
   rw [hp] at hx'
   dsimp only at hx' ⊢
   subst hx'
   dsimp only
   have l1:=UZ hp
   have l2:=YO r
   cases h44:DK 44 (sp r) with
   | none =>
    obtain ⟨f',rfl⟩:∃ f',f=f'+1:=⟨f - 1,by omega⟩
    rw [Q9]
    refine ⟨(L.1.vs.foldl Qa0 M,max C L.1.c,sp r,false,if e=0 then L.2 else e),?_,Z⟩
    unfold ZS
    rfl
   | some r2 =>
    have l3:=congrArg List.length (Yc h44)
    rw [C2] at l3
    obtain ⟨o,ho,ho'⟩:=Q5y n r2 (L.1.vs.foldl Qa0 M) (max C L.1.c) (if e=0 then L.2 else e) f (by omega) (by omega) (by omega)
    refine ⟨o,ho,?_⟩
    dsimp only
    cases hr:Xx n r2 with
    | none=>rw [hr] at ho';exact ho'
    | some q =>
     rw [hr] at ho'
     exact ho'
theorem Qae:∀ (xs:List (Lvl×Int)) (M:Qt) (C:Int) (vs:List Qrf),(∀ x∈xs,PartOK x)→RMap M vs→GoodL ⟨C,vs⟩→C≤100→(∀ y∈vs,y.2≤100) →
  ∃ vs',RMap (Qgm M xs) vs'∧GoodL ⟨Wh C xs,vs'⟩∧Wh C xs≤100∧(∀ y∈vs',y.2≤100)∧Wb (Z9 ⟨C,vs⟩) xs=Z9 ⟨Wh C xs,vs'⟩
 | [],M,C,vs,_,h1,h2,h3,h4=>⟨vs,h1,h2,h3,h4,rfl⟩
 | x::xs,M,C,vs,hx,h1,h2,h3,h4=>by
  have p:=hx x Ci
  have gx:GoodL x.1:=⟨p.wf,p.c.1,fun y hy=>(p.v y hy).2.2.1⟩
  have g:=good_merge h2 gx
  have e:Q3w (Z9 ⟨C,vs⟩) x.1=Z9 ⟨max C x.1.c,Jb vs x.1.vs⟩:=by
   rw [Q9e,trim_vs,Qem h2.c h2.v,Qem g.c g.v]
   have hmono:Z1 0 vs≤Z1 0 (Jb vs x.1.vs):=topOf_mono fun y hy=>by
    obtain ⟨z,hz,-,h⟩:=merge_ge_l h2.wf p.wf hy
    exact ⟨z,hz,h⟩
   rw [trimC_more h2.c p.c.1 merge_ne_l hmono]
  have:=Qae xs (x.1.vs.foldl Qa0 M) (max C x.1.c) (Jb vs x.1.vs) (fun y hy=>hx y (Ch _ hy)) (h1.merge p.wf) g (by have:=p.c.2;omega) (fun y hy=>(Q69 h2.wf p.wf hy).elim (h4 y) fun h=>(p.v y h).2.2.2)
  obtain ⟨vs',b1,b2,b3,b4,b5⟩:=this
  refine ⟨vs',b1,b2,b3,b4,?_⟩
  show Wb (Q3w (Z9 ⟨C,vs⟩) x.1) xs=_
  rw [e];exact b5
theorem sum_all {x:Lvl×Int} {xs:List (Lvl×Int)} (hx:∀ y∈x::xs,PartOK y):∃ vs',RMap (Qgm imNil (x::xs)) vs'∧GoodL ⟨Wh 0 (x::xs),vs'⟩∧Wh 0 (x::xs)≤100∧(∀ y∈vs',y.2≤100)∧Wb x.1 xs=Z9 ⟨Wh 0 (x::xs),vs'⟩:=by
 have p:=hx x Ci
 have gx:GoodL x.1:=⟨p.wf,p.c.1,fun y hy=>(p.v y hy).2.2.1⟩
 have h:=Qae xs (x.1.vs.foldl Qa0 imNil) x.1.c x.1.vs (fun y hy=>hx y (Ch _ hy)) (by have:=RMap.nil.merge p.wf;rw [Zg] at this;exact this) gx p.c.2 (fun y hy=>(p.v y hy).2.2.2)
 have e1:Z9 ⟨x.1.c,x.1.vs⟩=x.1:=p.tr
 rw [e1] at h
 have e2:Wh 0 (x::xs)=Wh x.1.c xs:=by
  show Wh (max 0 x.1.c) xs=_
  have:=p.c.1
  rw [show max 0 x.1.c=x.1.c by omega]
 rw [e2]
 exact h
theorem m211_loop (C:Int) (vs:List Qrf) (hlen:vs.length≤100000):∃ o,Q9 (Yw vs C vs) Qd 0=some o∧(Q4m C vs=true↔∃ i:Nat,o=.inr (i:Int))∧(Q4m C vs=false→o=.inl ()):=by
 have key:=JN (step:=Yw vs C vs) vs (fun i (_:Unit)=>i) (fun a _=>Q4m C a=false) (fun o=>(Q4m C vs=true↔∃ i:Nat,o=.inr (i:Int))∧(Q4m C vs=false→o=.inl ())) (by omega)
  (fun a x b s e hI=>by
   have hs:Yw vs C vs (a.length:Int)=cond (decide (C≤x.2)) (some (.done (.inr (a.length:Int)))) (some (.next (Qm ((a.length:Int)+1)))):=by
    unfold Yw Q2e
    rw [e,ZI,Yq];rfl
   rw [hs]
   cases hd:decide (C≤x.2) with
   | true =>
    have hc:Q4m C vs=true:=by unfold Q4m;rw [e];exact CS.2 ⟨x,by simp,hd⟩
    exact .inl ⟨_,rfl,⟨fun _=>⟨a.length,rfl⟩,fun _=>hc⟩,fun h=>by rw [hc] at h;cases h⟩
   | false =>
    refine .inr ⟨(),Z,?_⟩
    unfold Q4m at hI ⊢
    rw [List.any_append,hI]
    simp [hd])
  (fun s hI=>by
   refine ⟨.inl (),by unfold Yw;rw [Jn];rfl,?_,fun _=>rfl⟩
   rw [hI]
   constructor
   ·intro h;cases h
   ·rintro ⟨i,h⟩;cases h) () rfl
 exact key
theorem m183_eq {C:Int} {vs:List Qrf} (hlen:vs.length≤100000) (h3:C≤100) (h4:∀ y∈vs,y.2≤100):Q01 C vs=some (0,(Z9 ⟨C,vs⟩).c,(Z9 ⟨C,vs⟩).vs):=by
 have l0:Q9 (ZD vs) Qd 0=some (.inl ()):=by
  have key:=JN (step:=ZD vs) vs (fun i (_:Unit)=>i) (fun _ _=>True) (fun o=>o=.inl ()) (by omega)
   (fun a x b s e _=>by
    have hx:x.2≤100:=h4 x (by rw [e];simp)
    refine .inr ⟨(),?_,trivial⟩
    unfold ZD
    rw [e,ZI,Yq,C6,C1,C8 (by omega)];rfl)
   (fun s _=>⟨_,by unfold ZD;rw [Jn];rfl,rfl⟩) () trivial
  obtain ⟨o,h1,h2⟩:=key
  rw [h1,h2]
 unfold Q01
 rw [l0]
 show (cond (decide (100 < C)) _ _:Option (Int×Int×List Qrf))=_
 rw [C8 (by omega),Ce]
 obtain ⟨o,h1,h2,h5⟩:=m211_loop C vs hlen
 unfold Q3m Q2f Q2d Z9
 rw [h1]
 cases hc:Q4m C vs with
 | true =>
  obtain ⟨i,rfl⟩:=h2.1 hc
  rw [Cd rfl]
  dsimp only [Option.bind_some,Sum.elim_inr]
  rw [C9 (by omega:(0:Int)≤(i:Int))];rfl
 | false =>
  rw [h5 hc,C5 Cn];rfl
theorem m56_eq {C:Int} {M:Qt} {vs:List Qrf} (h:RMap M vs) (hg:GoodL ⟨C,vs⟩) (h3:C≤100) (h4:∀ y∈vs,y.2≤100):W3 C M=some (0,(Z9 ⟨C,vs⟩).c,(Z9 ⟨C,vs⟩).vs):=by
 have h2:=h.ok.2
 have hlen:(JC M).length≤100000:=by
  have:=h.wf.len
  rw [← h2,Cm] at this;exact this
 have key:=Q70 (step:=Kv M) (l:=JC M) (fun out k=>out++[(k,YM M k)]) (fun k s=>s.length=k) (by omega) (fun k y s hy hs=>by
  have hk:=(Cg.1 hy).1
  refine ⟨?_,by simp [hs]⟩
  unfold Kv
  dsimp only
  rw [C9 (by omega:(k:Int) < (JC M).length),C6,Q2h (PT _) (by simpa using hy),C1,Ge (Q7i (by simp;omega))]) (fun s _=>by unfold Kv;dsimp only;rw [C8 (by omega),Ce]) [] rfl
 unfold W3 Q8r
 rw [C1,Ge h.ok.1,key.1,Q43,CU,h2,C1,m183_eq h.wf.len h3 h4];rfl
theorem Qey:∀ (n:Nat) (t:Qrl) (xs:List (Lvl×Int)) (r:Qrl),Xx n t=some (xs,r)→(∀ x∈xs,PartOK x)∧xs ≠ []∧r.length≤t.length
 | 0,t,xs,r,h=>by cases h
 | n+1,t,xs,r,h=>by
  unfold Xx at h
  cases hp:Gb (sp t) with
  | none=>rw [hp] at h;cases h
  | some q =>
   obtain ⟨x,r1⟩:=q
   rw [hp] at h
   dsimp only at h
   have l1:=UZ hp
   have l2:=YO t
   have l3:=YO r1
   cases h44:DK 44 (sp r1) with
   | none =>
    rw [h44] at h
    cases h
    exact ⟨fun y hy=>by simp at hy;subst hy;exact Q8a hp,by simp,by omega⟩
   | some r2 =>
    rw [h44] at h
    dsimp only at h
    have l4:=congrArg List.length (Yc h44)
    rw [C2] at l4
    cases hr:Xx n r2 with
    | none=>rw [hr] at h;cases h
    | some q =>
     obtain ⟨xs',r3⟩:=q
     rw [hr] at h
     cases h
     obtain ⟨a1,-,a3⟩:=Qey n r2 xs' r hr
     refine ⟨fun y hy=>?_,by simp,by omega⟩
     rcases Cq.1 hy with rfl | hy
     ·exact Q8a hp
     ·exact a1 y hy
theorem eq_nil (t:Qrl):(t==([]:Qrl))=t.isEmpty:=by cases t <;> rfl
theorem Qat {x:Lvl×Int} {xs:List (Lvl×Int)} (hx:∀ y∈x::xs,PartOK y) (r:Qrl) :
  (Option.bind (cond false (some true) (some (!((r.dropWhile (·==32))==([]:Qrl))))) fun v8=>cond v8 (some ((⟨0,[]⟩:Lvl),(4:Int))) (cond (Gq 0 (x::xs) != 0) (some ((⟨0,[]⟩:Lvl),Gq 0 (x::xs))) (Option.bind (W3 (Wh 0 (x::xs)) (Qgm imNil (x::xs))) fun x11=>some ((⟨x11.2.1,x11.2.2⟩:Lvl),x11.1)))) =
  some (if sp r=[] then (if Gq 0 (x::xs)=0 then (Wb x.1 xs,0) else (⟨0,[]⟩,Gq 0 (x::xs))) else (⟨0,[]⟩,4)):=by
 rw [Ce,C1]
 have e0:(r.dropWhile (·==32))=sp r:=rfl
 rw [e0,eq_nil]
 cases h:sp r with
 | cons a b=>rfl
 | nil =>
  rw [show (!(([]:Qrl)).isEmpty)=false from rfl,Ce,Cd rfl]
  by_cases he:Gq 0 (x::xs)=0
  ·rw [Cd he,show (Gq 0 (x::xs) != 0)=false by simp [he],Ce]
   obtain ⟨vs,b1,b2,b3,b4,b5⟩:=sum_all hx
   rw [m56_eq b1 b2 b3 b4,b5]
   rfl
  ·rw [C5 he,show (Gq 0 (x::xs) != 0)=true by simp [he],C6]
theorem m54_pre (p s:Qrl) (bad:Bool) (e C:Int) (M:Qt):Yk p s bad e C M=some (Lib.trimPrefix s p):=by
 unfold Yk Lib.trimPrefix
 cases Lib.hasPrefix s p <;> rfl
theorem m127_eq {s:Qrl} (hs:s.length≤65536):Db s=some (Q5c s):=by
 unfold Db Q5c Q8b JI
 rw [C8 (by omega:¬ (65536:Int) < s.length),Ce]
 simp only [C1]
 rw [m54_pre,C1]
 have e0:(s.dropWhile (·==32))=sp s:=rfl
 rw [e0]
 have l0:=YO s
 cases hp:Lib.hasPrefix (sp s) [109,97,120] with
 | true =>
  rw [Cd rfl,C6,Xb,C1]
  have e1:Lib.trimPrefix (sp s) [109,97,120]=(sp s).drop 3:=by unfold Lib.trimPrefix;rw [hp,Cd rfl];rfl
  rw [e1]
  have e2:(((sp s).drop 3).dropWhile (·==32))=sp ((sp s).drop 3):=rfl
  rw [e2,(ZP 40 _).1]
  have l1:=YO ((sp s).drop 3)
  rw [Cu] at l1
  cases h40:DK 40 (sp ((sp s).drop 3)) with
  | none =>
   simp only [P5,S6]
   have:Q9 ZS Qd (true,imNil,0,(none:Option Qrl).getD (sp ((sp s).drop 3)),true,0)=some (imNil,0,(none:Option Qrl).getD (sp ((sp s).drop 3)),true,0):=by
    unfold Qd
    rw [Q9]
    rfl
   rw [this,C1]
   dsimp only
   rw [Xb,C1,(ZP 41 _).1]
   cases DK 41 ((none:Option Qrl).getD (sp ((sp s).drop 3))) <;> rfl
  | some t =>
   have l2:=congrArg List.length (Yc h40)
   rw [C2] at l2
   simp only [Pv,PN,Pu]
   obtain ⟨o,ho,ho'⟩:=Q5y (s.length+1) t imNil 0 0 Qd (by omega) (by omega) (by unfold Qd;omega)
   rw [ho,C1]
   cases hr:Xx (s.length+1) t with
   | none =>
    rw [hr] at ho'
    have hb:o.2.2.2.1=true:=ho'
    rw [Xb,C1,(ZP 41 _).1,hb]
    cases DK 41 o.2.2.1 <;> rfl
   | some q =>
    obtain ⟨xs,r⟩:=q
    rw [hr] at ho'
    dsimp only at ho' ⊢
    subst ho'
    dsimp only
    rw [Xb,C1,(ZP 41 _).1]
    obtain ⟨a1,a2,a3⟩:=Qey _ _ _ _ hr
    cases h41:DK 41 r with
    | none=>rfl
    | some r2 =>
     simp only [Pv,PN,Ce,C1,Pu]
     cases xs with
     | nil=>exact absurd rfl a2
     | cons x xs =>
      have:=Qat a1 r2
      simp only [Ce,C1] at this
      rw [this]
      by_cases h:sp r2=[]
      ·rw [Cd h,Cd h]
      ·rw [C5 h,C5 h]
 | false =>
  rw [C5 Cn,Ce]
  have e1:Lib.trimPrefix (sp s) [109,97,120]=sp s:=by unfold Lib.trimPrefix;rw [hp,C5 Cn]
  rw [e1]
  obtain ⟨x,hx,hx'⟩:=Qj5 (t:=sp s) (by omega) 0 0 imNil
  rw [hx]
  simp only [C1]
  cases hq:Gb (sp s) with
  | none =>
   rw [hq] at hx'
   have hb:x.2.1=true:=hx'
   rw [hb];rfl
  | some q =>
   obtain ⟨L,r⟩:=q
   rw [hq] at hx'
   dsimp only at hx' ⊢
   subst hx'
   dsimp only
   refine Eq.trans (Qat (x:=L) (xs:=[]) (fun y hy=>by simp at hy;subst hy;exact Q8a hq) r) ?_
   by_cases h:sp r=[]
   ·rw [Cd h,Cd h]
   ·rw [C5 h,C5 h]
theorem WC:∀ (n:Nat) (a b:List Qrf),a.length+b.length≤n→(Jb a b).length≤a.length+b.length
 | _,[],b,_=>by rw [Zg];simp
 | _,x::a,[],_=>by rw [Zf];simp
 | 0,x::a,y::b,h=>by simp at h
 | n+1,x::a,y::b,h=>by
  simp only [C2] at h
  rw [Jb]
  split
  ·have:=WC n a (y::b) (by simp only [C2];omega)
   simp only [C2] at this ⊢;omega
  ·split
   ·have:=WC n (x::a) b (by simp only [C2];omega)
    simp only [C2] at this ⊢;omega
   ·have:=WC n a b (by omega)
    simp only [C2];omega
theorem Q6v:∀ (xs:List (Lvl×Int)) (o:Lvl),(∀ x∈xs,x.1.vs.length≤1)→(Wb o xs).vs.length≤o.vs.length+xs.length
 | [],o,_=>Ck _
 | x::xs,o,h=>by
  have h1:=Q6v xs (Q3w o x.1) fun y hy=>h y (Ch _ hy)
  have h2:=WC _ o.vs x.1.vs (Ck _)
  have h3:=h x Ci
  rw [Q9e] at h1
  show (Wb (Q3w o x.1) xs).vs.length≤_
  rw [Q9e]
  dsimp only at h1 ⊢
  rw [C2];omega
theorem Qa7 (i n:Int):(WR i n).1.vs.length≤1:=by
 unfold WR
 split
 ·exact Co _
 ·split
  ·exact Co _
  ·exact Ck _
theorem Qjr {neg:Bool} {t r:Qrl} {x:Lvl×Int} (h:Qhs neg t=some (x,r)):x.1.vs.length≤1:=by
 unfold Qhs at h
 split at h
 ·cases h
 ·split at h
  ·cases h;exact Qa7 _ _
  ·split at h
   ·cases h
   ·cases h;exact Qa7 _ _
theorem DW {t r:Qrl} {x:Lvl×Int} (h:Gb t=some (x,r)):x.1.vs.length≤1:=by
 unfold Gb at h
 split at h
 ·exact Qjr h
 ·split at h
  ·exact Qjr h
  ·split at h
   ·cases h
   ·cases h
    unfold Qhf
    split
    ·exact Co _
    ·split <;> exact Co _
theorem Qaj:∀ (n:Nat) (t:Qrl) (xs:List (Lvl×Int)) (r:Qrl),Xx n t=some (xs,r)→(∀ x∈xs,x.1.vs.length≤1)∧xs.length≤t.length
 | 0,t,xs,r,h=>by cases h
 | n+1,t,xs,r,h=>by
  unfold Xx at h
  cases hp:Gb (sp t) with
  | none=>rw [hp] at h;cases h
  | some q =>
   obtain ⟨x,r1⟩:=q
   rw [hp] at h
   dsimp only at h
   have l1:=UZ hp
   have l2:=YO t
   have l3:=YO r1
   cases h44:DK 44 (sp r1) with
   | none =>
    rw [h44] at h
    cases h
    exact ⟨fun y hy=>by simp at hy;subst hy;exact DW hp,by simp only [C2,Cc];omega⟩
   | some r2 =>
    rw [h44] at h
    dsimp only at h
    have l4:=congrArg List.length (Yc h44)
    rw [C2] at l4
    cases hr:Xx n r2 with
    | none=>rw [hr] at h;cases h
    | some q =>
     obtain ⟨xs',r3⟩:=q
     rw [hr] at h
     cases h
     obtain ⟨a1,a3⟩:=Qaj n r2 xs' r hr
     refine ⟨fun y hy=>?_,by rw [C2];omega⟩
     rcases Cq.1 hy with rfl | hy
     ·exact DW hp
     ·exact a1 y hy
theorem resP_len (s:Qrl):(Q5c s).1.vs.length≤s.length:=by
 unfold Q5c
 cases hp:Q8b s with
 | none=>exact Co _
 | some l =>
  cases l with
  | nil=>exact Co _
  | cons x xs =>
   dsimp only
   split
   ·have hx:(∀ y∈x::xs,y.1.vs.length≤1)∧(x::xs).length≤s.length:=by
     have l0:=YO s
     unfold Q8b at hp
     split at hp
     ·split at hp
      ·cases hp
      ·rename_i t h40
       have l1:=congrArg List.length (Yc h40)
       have l2:=YO ((sp s).drop 3)
       rw [Cu] at l2
       rw [C2] at l1
       split at hp
       ·cases hp
       ·rename_i hr
        split at hp
        ·cases hp
        ·split at hp
         ·cases hp
          obtain ⟨h1,h2⟩:=Qaj _ _ _ _ hr
          exact ⟨h1,by omega⟩
         ·cases hp
     ·split at hp
      ·cases hp
      ·rename_i hq
       split at hp
       ·cases hp
        have l1:=UZ hq
        refine ⟨fun y hy=>?_,by simp only [C2,Cc];omega⟩
        simp at hy;subst hy;exact DW hq
       ·cases hp
    have h1:=Q6v xs x.1 fun y hy=>hx.1 y (Ch _ hy)
    have h2:=hx.1 x Ci
    have h3:=hx.2
    rw [C2] at h3
    show (Wb x.1 xs).vs.length≤_
    omega
   ·exact Co _
end
noncomputable section
open Go.RowKit
set_option maxRecDepth 100000
theorem en_88:Qc Tryz.prog 88:=enters_of Tryz.func88 (by kernel_rfl) rfl
def Qp0 (a0:List Qrf) (a1:List Qrf):Option (Bool) :=
 cond (((a0.length:Int) != (a1.length:Int))) (some false) (Option.bind (Q9 (σ:=Int) (β:=Unit⊕Bool) (fun s3=>cond ((decide (s3 < (a0.length:Int)))) (Option.bind (J0 a0 s3) fun (x5:Qrf)=>Option.bind (J0 a1 s3) fun (x6:Qrf)=>cond ((!((x5.1==x6.1)&&(x5.2==x6.2)))) (some (.done (.inr false))) (some (.next (Qm (s3+1))))) (some (.done (.inl ())))) Qd 0) (Sum.elim (fun (v4:Unit)=>some true) (fun (o7:Bool)=>some o7)))
def k88:KF UV:=⟨[.sl .t142,.sl .t142],[.bool],fun v=>Qp0 v.1 v.2⟩
def H88:Hints UV:=⟨[(5,⟨[([.reg 13],.int .i64)],[],true⟩)],[(10,[])]⟩
theorem k88_ok:Yb DV W0 Tryz.prog 88 k88:=YL (C:=Qrk) rfl QC Ql (QB (tb:=[]) Ql trivial) JH Tryz.func88 en_88 H88 k88 rfl (fun v=>by kernel_rfl)
theorem en_42:Qc Tryz.prog 42:=enters_of Tryz.func42 (by kernel_rfl) rfl
def Qo4 (a0:Lvl) (a1:Lvl):Option (Bool) :=
 Option.bind (cond ((a0.c==a1.c)) (Option.bind (Qp0 a0.vs a1.vs) fun (x3:Bool)=>some x3) (some false)) fun (v2:Bool)=>some v2
def k42:KF UV:=⟨[.stc .t82,.stc .t82],[.bool],fun v=>Qo4 v.1 v.2⟩
def H42:Hints UV:=⟨[(1,⟨[([.reg 4],.bool)],[],false⟩)],[]⟩
theorem Qjk:Yb DV W0 Tryz.prog 42 k42:=YL (C:=Qrk) rfl QC Ql (QB (tb:=[(88,k88)]) Ql ⟨k88_ok,trivial⟩) JH Tryz.func42 en_42 H42 k42 rfl (fun v=>by kernel_rfl)
theorem en_19:Qc Tryz.prog 19:=enters_of Tryz.func19 (by kernel_rfl) rfl
theorem en_41:Qc Tryz.prog 41:=enters_of Tryz.func41 (by kernel_rfl) rfl
theorem en_43:Qc Tryz.prog 43:=enters_of Tryz.func43 (by kernel_rfl) rfl
def B41_19:IH UV:=⟨Tryz.f41,⟨[(5,⟨[([.reg 17],.int .i64)],[],true⟩)],[]⟩,.lab [([.reg 6],.bool)]⟩
def B43_19:IH UV:=⟨Tryz.f43,⟨[(5,⟨[([.reg 17],.int .i64)],[],true⟩)],[]⟩,.lab [([.reg 6],.bool)]⟩
def Qdh (rc:Tm×Tm→Option (Bool)) (a0:Tm) (a1:Tm):Option (Bool) :=
 Option.bind (cond ((a0.kind==a1.kind)) (cond ((a0.index==a1.index)) (cond ((a0.name==a1.name)) (Option.bind (cond (((a0.levels.length:Int) != (a1.levels.length:Int))) (some false) (Option.bind (Q9 (σ:=Int) (β:=Unit⊕Bool) (fun s26=>cond ((decide (s26 < (a0.levels.length:Int)))) (Option.bind (J0 a0.levels s26) fun (x28:Lvl)=>Option.bind (J0 a1.levels s26) fun (x29:Lvl)=>Option.bind (Qo4 x28 x29) fun (x30:Bool)=>cond ((!x30)) (some (.done (.inr false))) (some (.next (Qm (s26+1))))) (some (.done (.inl ())))) Qd 0) (Sum.elim (fun (v27:Unit)=>some true) (fun (o31:Bool)=>some o31)))) fun (v22:Bool)=>cond v22 (Option.bind (cond (((a0.kids.length:Int) != (a1.kids.length:Int))) (some false) (Option.bind (Q9 (σ:=Int) (β:=Unit⊕Bool) (fun s36=>cond ((decide (s36 < (a0.kids.length:Int)))) (Option.bind (J0 a0.kids s36) fun (x38:Tm)=>Option.bind (J0 a1.kids s36) fun (x39:Tm)=>Option.bind (rc (x38,x39)) fun (x40:Bool)=>cond ((!x40)) (some (.done (.inr false))) (some (.next (Qm (s36+1))))) (some (.done (.inl ())))) Qd 0) (Sum.elim (fun (v37:Unit)=>some true) (fun (o41:Bool)=>some o41)))) fun (v32:Bool)=>some v32) (some false)) (some false)) (some false)) (some false)) fun (v21:Bool)=>some v21
def m19r:Tm×Tm→Option (Bool):=Jv (fun rc v=>Qdh rc v.1 v.2) Qd
def m19 (a0:Tm) (a1:Tm):Option (Bool):=m19r (a0,a1)
def k19:KF UV:=⟨[.stc .t25,.stc .t25],[.bool],fun v=>m19 v.1 v.2⟩
def H19:Hints UV:=⟨[(1,⟨[([.reg 4],.bool)],[],false⟩)],[]⟩
theorem k19s_ok (rc:tup k19.args→Option (tup k19.res)) (H:∀ u r,rc u=some r→FunW W0 Tryz.prog 19 (QM DV k19.args u) (Qh (QM DV k19.res r))):Yb DV W0 Tryz.prog 19 ⟨k19.args,k19.res,fun v=>Qdh rc v.1 v.2⟩:=YL (C:=Qrk) rfl QC Ql (QB (tb:=[(19,(⟨k19.args,k19.res,rc⟩:KF UV)),(42,k42)]) Ql ⟨⟨rfl,H⟩,Qjk,trivial⟩) (Gd (C:=Qrk) rfl QC Ql (QB (tb:=[(19,(⟨k19.args,k19.res,rc⟩:KF UV)),(42,k42)]) Ql ⟨⟨rfl,H⟩,Qjk,trivial⟩) JH (I:=[(41,B41_19),(43,B43_19)]) ⟨⟨Tryz.func41,en_41⟩,⟨Tryz.func43,en_43⟩,trivial⟩ 8) Tryz.func19 en_19 H19 _ rfl (fun v=>by kernel_rfl)
theorem k19_ok:Yb DV W0 Tryz.prog 19 k19:=⟨rfl,fun v r h=>GB (C:=fun u r=>FunW W0 Tryz.prog 19 (QM DV k19.args u) (Qh (QM DV k19.res r))) (fun rc H u r h=>(k19s_ok rc H).2 u r h) Qd v r h⟩
def m5 (a0:List UInt8) (a1:List UInt8):Option (Bool) :=
 Option.bind (cond ((decide (600 < (a0.length:Int)))) (some true) (some (decide (200 < (a1.length:Int))))) fun (v1:Bool)=>cond v1 (Option.bind (Qfu) fun (x2:Bool)=>some x2) (Option.bind (Qfl a0) fun (x3:Tm×Int×Int)=>Option.bind (cond ((x3.2.2 != 4)) (some true) (cond ((decide (x3.2.1 < 0))) (some true) (cond ((decide ((a0.length:Int)≤x3.2.1))) (some true) (Option.bind (J0 a0 x3.2.1) fun (x7:UInt8)=>cond (((x7.toNat:Int) != 40)) (Option.bind (J0 a0 x3.2.1) fun (x8:UInt8)=>some ((x8.toNat:Int) != 41)) (some false))))) fun (v6:Bool)=>cond v6 (Option.bind (Option.bind (Qfu) fun (x11:Bool)=>cond x11 (cond ((x3.2.2 != 4)) (some true) (cond ((decide (0≤x3.2.1))) (some (decide (x3.2.1≤(a0.length:Int)))) (some false))) (some false)) fun (v10:Bool)=>some v10) (Q7 (Q22 (Qm (x3.2.1+1)) a0.length) (Q7 (Nat.ble ((List.take (Qm (x3.2.1+1)).toNat a0).length+a1.length) 1000000000) (Option.bind (Qfl ((List.take (Qm (x3.2.1+1)).toNat a0)++a1)) fun (x12:Tm×Int×Int)=>Option.bind (Option.bind (Qfu) fun (x15:Bool)=>cond x15 (cond ((x12.2.2==4)) (some (x12.2.1==x3.2.1)) (some false)) (some false)) fun (v14:Bool)=>some v14))))
def k5:KF UV:=⟨[.str,.str],[.bool],fun v=>m5 v.1 v.2⟩
def H5:Hints UV:=⟨[(1,⟨[([.reg 18],.bool)],[],false⟩),(5,⟨[([.reg 49],.bool)],[],false⟩),(7,⟨[([.reg 4],.bool)],[],false⟩),(9,⟨[([.reg 4],.bool)],[],false⟩)],[]⟩
theorem en_7:Qc Tryz.prog 7:=enters_of Tryz.func7 (by kernel_rfl) rfl
def Qq7 (a0:List UInt8) (a1:Int):Option (Bool) :=
 cond ((decide (600 < (a0.length:Int)))) (Option.bind (Qfu) fun (x1:Bool)=>some x1) (Q7 (!(4==0)) (Option.bind (J0 ([([32]:List UInt8),([10]:List UInt8),([9,32]:List UInt8),([13,10]:List UInt8)]:List ((List UInt8))) (Int.tmod a1 4)) fun (x2:(List UInt8))=>Option.bind (Q9 (σ:=(List UInt8)×Bool×Int) (β:=(List UInt8)) (fun s9=>cond ((decide (s9.2.2 < (a0.length:Int)))) (Q7 (cond (decide (0≤s9.2.2)) (cond (Nat.ble s9.2.2.toNat (Qm (s9.2.2+1)).toNat) (Q22 (Qm (s9.2.2+1)) a0.length) false) false) (Option.bind (cond (((List.drop s9.2.2.toNat (List.take (Qm (s9.2.2+1)).toNat a0))==([91]:List UInt8))) (some true) (cond s9.2.1 (some (!((List.drop s9.2.2.toNat (List.take (Qm (s9.2.2+1)).toNat a0))==([93]:List UInt8)))) (some false))) fun (v11:Bool)=>Q7 (Nat.ble (s9.1.length+(List.drop s9.2.2.toNat (List.take (Qm (s9.2.2+1)).toNat a0)).length) 1000000000) (Option.bind (cond ((!v11)) (cond (((List.drop s9.2.2.toNat (List.take (Qm (s9.2.2+1)).toNat a0))==([40]:List UInt8))) (some true) (cond (((List.drop s9.2.2.toNat (List.take (Qm (s9.2.2+1)).toNat a0))==([41]:List UInt8))) (some true) (some ((List.drop s9.2.2.toNat (List.take (Qm (s9.2.2+1)).toNat a0))==([32]:List UInt8))))) (some false)) fun (v12:Bool)=>Option.bind (cond v12 (Q7 (Nat.ble ((s9.1++(List.drop s9.2.2.toNat (List.take (Qm (s9.2.2+1)).toNat a0))).length+x2.length) 1000000000) (some ((s9.1++(List.drop s9.2.2.toNat (List.take (Qm (s9.2.2+1)).toNat a0)))++x2))) (some (s9.1++(List.drop s9.2.2.toNat (List.take (Qm (s9.2.2+1)).toNat a0))))) fun (v13:(List UInt8))=>some (.next (v13,v11,(Qm (s9.2.2+1))))))) (some (.done s9.1))) Qd (([]:List UInt8),false,0)) fun (v10:(List UInt8))=>Option.bind (Qfl a0) fun (x14:Tm×Int×Int)=>Option.bind (Qfl v10) fun (x15:Tm×Int×Int)=>Option.bind (Option.bind (Qfu) fun (x19:Bool)=>cond x19 (cond ((x14.2.2==x15.2.2)) (Option.bind (m19 x14.1 x15.1) fun (x20:Bool)=>some x20) (some false)) (some false)) fun (v18:Bool)=>some v18))
def k7:KF UV:=⟨[.str,.int .u8],[.bool],fun v=>Qq7 v.1 v.2⟩
def H7:Hints UV:=⟨[(8,⟨[([.reg 7],.str),([.reg 8],.bool),([.reg 9],.int .i64)],[([.reg 7],.str)],false⟩),(13,⟨[([.reg 8],.bool)],[],false⟩),(15,⟨[([.reg 63],.bool)],[],false⟩),(16,⟨[([.reg 7],.str)],[],false⟩),(21,⟨[([.reg 4],.bool)],[],false⟩)],[]⟩
theorem k7_ok:Yb DV W0 Tryz.prog 7 k7:=YL (C:=Qrk) rfl QC Ql (QB (tb:=[(12,k12),(15,k15),(19,k19)]) Ql ⟨k12_ok,Qjm,k19_ok,trivial⟩) JH Tryz.func7 en_7 H7 k7 rfl (fun v=>by kernel_rfl)
def m18 (a0:List UInt8):Option (Bool) :=
 Option.bind (Q9 (σ:=Int) (β:=Unit⊕Bool) (fun s24=>cond ((decide ((Qm (s24+7)) < (a0.length:Int)))) (Option.bind (Q9 (σ:=Int) (β:=Int) (fun s40=>Option.bind (Option.bind (J0 a0 s24) fun (x46:UInt8)=>cond (((x46.toNat:Int)==35)) (cond ((decide ((Qm ((Qm (s24+s40))+1)) < (a0.length:Int)))) (Option.bind (J0 a0 (Qm ((Qm (s24+s40))+1))) fun (x47:UInt8)=>cond ((decide (48≤(x47.toNat:Int)))) (Option.bind (J0 a0 (Qm ((Qm (s24+s40))+1))) fun (x48:UInt8)=>some (decide ((x48.toNat:Int)≤57))) (some false)) (some false)) (some false)) fun (v45:Bool)=>cond v45 (some (.next (Qm (s40+1)))) (some (.done s40))) Qd 0) fun (v41:Int)=>cond ((decide (6 < v41))) (some (.done (.inr true))) (some (.next (Qm (s24+1))))) (some (.done (.inl ())))) Qd 0) (Sum.elim (fun (v25:Unit)=>some false) (fun (o49:Bool)=>some o49))
def m6 (a0:Tm):Option (Bool) :=
 Option.bind (Qpm a0 200) fun (x1:Bool)=>cond ((!x1)) (Option.bind (Qfu) fun (x2:Bool)=>some x2) (Option.bind (Qhr a0) fun (x3:(List UInt8)×Int)=>cond ((x3.2 != 0)) (Option.bind (Option.bind (Qfu) fun (x6:Bool)=>cond x6 (some (x3.1==([]:List UInt8))) (some false)) fun (v5:Bool)=>some v5) (Option.bind (m18 x3.1) fun (x7:Bool)=>cond x7 (Option.bind (Qfu) fun (x8:Bool)=>some x8) (Option.bind (Qfl x3.1) fun (x9:Tm×Int×Int)=>Option.bind (cond ((x9.2.2 != 0)) (some true) (cond ((x9.2.1 != 0)) (some true) (Option.bind (m19 a0 x9.1) fun (x12:Bool)=>cond ((!x12)) (some true) (some (x3.1==([]:List UInt8)))))) fun (v11:Bool)=>cond v11 (some false) (Option.bind (J0 x3.1 0) fun (x13:UInt8)=>cond (((x13.toNat:Int) != 40)) (Option.bind (Qfu) fun (x14:Bool)=>some x14) (Q7 (Q22 (Qm ((x3.1.length:Int) - 1)) x3.1.length) (Option.bind (Qfl (List.take (Qm ((x3.1.length:Int) - 1)).toNat x3.1)) fun (x15:Tm×Int×Int)=>Q7 (Nat.ble (x3.1.length+([32,120]:List UInt8).length) 1000000000) (Option.bind (Qfl (x3.1++([32,120]:List UInt8))) fun (x16:Tm×Int×Int)=>Option.bind (Option.bind (Qfu) fun (x19:Bool)=>cond x19 (cond ((x15.2.2==4)) (cond ((x15.2.1==(Qm ((x3.1.length:Int) - 1)))) (cond ((x16.2.2==4)) (some (x16.2.1==(Qm ((x3.1.length:Int)+1)))) (some false)) (some false)) (some false)) (some false)) fun (v18:Bool)=>some v18)))))))
def Qqc:KF UV:=⟨[.stc .t25],[.bool],fun v=>m6 v⟩
def Qrh:Hints UV:=⟨[(7,⟨[([.reg 2],.bool)],[],false⟩),(12,⟨[([.reg 51],.bool)],[],false⟩),(20,⟨[([.reg 2],.bool)],[],false⟩)],[]⟩
end
noncomputable section
open Go.RowKit Go.Shelf
theorem hl127:∀ s:Qrl,s.length≤65536→Db s=some (Q5c s):=fun s h=>m127_eq h
theorem Qds:∀ s:Qrl,s.length≤65536→(Q5c s).1.vs.length≤s.length:=fun s _=>resP_len s
theorem Q8s (s:Qrl) (h:s.length≤65536):Qfl s=Ui Q5c s:=m15_eq hl127 s h
theorem m88_refl (l:List Qrf) (h:l.length≤900000000):Qp0 l l=some true:=by
 unfold Qp0
 rw [show (((l.length:Int)) != (l.length:Int))=false by simp,Ce]
 obtain ⟨r,h1,h2⟩:=JN (step:=(fun s3=>cond ((decide (s3 < (l.length:Int)))) (Option.bind (J0 l s3) fun (x5:Qrf)=>Option.bind (J0 l s3) fun (x6:Qrf)=>cond ((!((x5.1==x6.1)&&(x5.2==x6.2)))) (some (LO.done (.inr false))) (some (.next (Qm (s3+1))))) (some (.done (.inl ())))))
  l (fun i (_:Unit)=>i) (fun _ _=>True) (fun (o:Unit⊕Bool)=>o=.inl ()) h
  (fun a x b s e _=>.inr ⟨(),by rw [e,ZI,Yq];simp,trivial⟩)
  (fun s _=>⟨_,by rw [Jn];rfl,rfl⟩) () trivial
 rw [h1,h2];rfl
theorem m42_refl (l:Lvl) (h:l.vs.length≤900000000):Qo4 l l=some true:=by
 unfold Qo4
 rw [CV.2 (rfl:l.c=l.c),C6,m88_refl _ h];rfl
theorem Qfk:∀ (n:Nat) (t:Tm),t.size≤n→t.size≤2000000→Jv (fun rc v=>Qdh rc v.1 v.2) n (t,t)=some true
 | 0,t,h,_=>by rw [t.size_eq] at h;omega
 | n+1,t,h,h2=>by
  have hl:=GJ t
  have hv:=Q6o (t:=t)
  show Qdh (Jv (fun rc v=>Qdh rc v.1 v.2) n) t t=some true
  have ih:=Qfk n
  generalize Jv (fun rc v=>Qdh rc v.1 v.2) n=R at ih ⊢
  unfold Qdh
  rw [CV.2 (rfl:t.kind=t.kind),CV.2 (rfl:t.index=t.index),CV.2 (rfl:t.name=t.name),C6,C6,C6,
   show (((t.levels.length:Int)) != (t.levels.length:Int))=false by simp,show (((t.kids.length:Int)) != (t.kids.length:Int))=false by simp,Ce,Ce]
  obtain ⟨r1,h3,h4⟩:=JN (step:=(fun s26=>cond ((decide (s26 < (t.levels.length:Int)))) (Option.bind (J0 t.levels s26) fun (x28:Lvl)=>Option.bind (J0 t.levels s26) fun (x29:Lvl)=>Option.bind (Qo4 x28 x29) fun (x30:Bool)=>cond ((!x30)) (some (LO.done (.inr false))) (some (.next (Qm (s26+1))))) (some (.done (.inl ())))))
   t.levels (fun i (_:Unit)=>i) (fun _ _=>True) (fun (o:Unit⊕Bool)=>o=.inl ()) (by omega)
   (fun a x b s e _=>.inr ⟨(),by
    have hx:=Dg h2 (l:=x) (by rw [e];simp)
    have hm:=m42_refl x (by omega)
    rw [e,ZI,Yq,C6,C1,C1,hm];rfl,trivial⟩)
   (fun s _=>⟨_,by rw [Jn];rfl,rfl⟩) () trivial
  obtain ⟨r2,h5,h6⟩:=JN (step:=(fun s36=>cond ((decide (s36 < (t.kids.length:Int)))) (Option.bind (J0 t.kids s36) fun (x38:Tm)=>Option.bind (J0 t.kids s36) fun (x39:Tm)=>Option.bind (R (x38,x39)) fun (x40:Bool)=>cond ((!x40)) (some (LO.done (.inr false))) (some (.next (Qm (s36+1))))) (some (.done (.inl ())))))
   t.kids (fun i (_:Unit)=>i) (fun _ _=>True) (fun (o:Unit⊕Bool)=>o=.inl ()) (by omega)
   (fun a x b s e _=>.inr ⟨(),by
    have hx:=JQ (t:=t) (k:=x) (by rw [e];simp)
    have hm:=ih x (by omega) (by omega)
    rw [e,ZI,Yq,C6,C1,C1,hm];rfl,trivial⟩)
   (fun s _=>⟨_,by rw [Jn];rfl,rfl⟩) () trivial
  rw [h3,h4,h5,h6];rfl
theorem Q3k (t:Tm) (h:t.size≤2000000):m19 t t=some true:=Qfk Qd t (by unfold Qd;omega) h
theorem Qlj:zT.size≤2000000:=by
 unfold zT
 rw [Tm.size_eq]
 show 1+Qqg 0+0+0+0≤_
 rw [show Qqg 0=0 from rfl];decide
def Qek (a0 x2:Qrl):(List UInt8)×Bool×Int→Option (LO ((List UInt8)×Bool×Int) (List UInt8)):=(fun s9=>cond ((decide (s9.2.2 < (a0.length:Int)))) (Q7 (cond (decide (0≤s9.2.2)) (cond (Nat.ble s9.2.2.toNat (Qm (s9.2.2+1)).toNat) (Q22 (Qm (s9.2.2+1)) a0.length) false) false) (Option.bind (cond (((List.drop s9.2.2.toNat (List.take (Qm (s9.2.2+1)).toNat a0))==([91]:List UInt8))) (some true) (cond s9.2.1 (some (!((List.drop s9.2.2.toNat (List.take (Qm (s9.2.2+1)).toNat a0))==([93]:List UInt8)))) (some false))) fun (v11:Bool)=>Q7 (Nat.ble (s9.1.length+(List.drop s9.2.2.toNat (List.take (Qm (s9.2.2+1)).toNat a0)).length) 1000000000) (Option.bind (cond ((!v11)) (cond (((List.drop s9.2.2.toNat (List.take (Qm (s9.2.2+1)).toNat a0))==([40]:List UInt8))) (some true) (cond (((List.drop s9.2.2.toNat (List.take (Qm (s9.2.2+1)).toNat a0))==([41]:List UInt8))) (some true) (some ((List.drop s9.2.2.toNat (List.take (Qm (s9.2.2+1)).toNat a0))==([32]:List UInt8))))) (some false)) fun (v12:Bool)=>Option.bind (cond v12 (Q7 (Nat.ble ((s9.1++(List.drop s9.2.2.toNat (List.take (Qm (s9.2.2+1)).toNat a0))).length+x2.length) 1000000000) (some ((s9.1++(List.drop s9.2.2.toNat (List.take (Qm (s9.2.2+1)).toNat a0)))++x2))) (some (s9.1++(List.drop s9.2.2.toNat (List.take (Qm (s9.2.2+1)).toNat a0))))) fun (v13:(List UInt8))=>some (.next (v13,v11,(Qm (s9.2.2+1))))))) (some (.done s9.1)))
theorem one_slice {s:Qrl} {k:Nat} {c:UInt8} (h:s[k]?=some c):List.drop k (List.take (k+1) s)=[c]:=by
 rw [List.drop_take,show k+1 - k=1 by omega,Q9k h];rfl
theorem D7 (c d:UInt8):(([c]:Qrl)==[d])=(c==d):=by
 by_cases h:c=d
 ·subst h;simp
 ·rw [CJ.2 h,CJ.2];intro e;exact h (Pj e).1
theorem Q5m (s sp:Qrl) (hs:s.length≤600) (hp:sp.length≤2):∀ (n k:Nat) (b:Bool) (acc:Qrl),s.length < n+k→k≤s.length→acc.length≤3 * k→Q9 (Qek s sp) n (acc,b,(k:Int))=some (acc++QL sp b (s.drop k))
 | 0,k,b,acc,h,hk,_=>by omega
 | n+1,k,b,acc,h,hk,ha=>by
  simp only [Q9]
  unfold Qek
  dsimp only
  rcases P1 k s.length with hlt | hge
  ·have hc:s[k]?=some s[k]:=Cp hlt
   have hd:=Q9k hc
   generalize s[k]=c at hc hd
   have hw:Qm ((k:Int)+1)=((k+1:Nat):Int):=Gl (by omega)
   rw [C9 (by omega),C6,hw,Qw (UT (by omega) (by omega))]
   have hsl:List.drop (k:Int).toNat (List.take ((k+1:Nat):Int).toNat s)=[c]:=one_slice hc
   rw [hsl,D7,D7,D7,D7,D7]
   rw [hd]
   have hwf:QL sp b (c::s.drop (k+1))=c::((if (!((c==91)||(b&&c != 93))&&(c==40||c==41||c==32))=true then sp else [])++QL sp ((c==91)||(b&&c != 93)) (s.drop (k+1))):=rfl
   rw [hwf]
   clear hwf
   have hv:(cond (c==91) (some true) (cond b (some (!(c==93))) (some false)))=some ((c==91)||(b&&c != 93)):=by
    unfold bne
    cases (c==91) <;> cases b <;> rfl
   rw [hv,C1,Wg (by simp only [C2,Cc];omega)]
   generalize ((c==91)||(b&&c != 93))=b' at *
   have hq:(cond (!b') (cond (c==40) (some true) (cond (c==41) (some true) (some (c==32)))) (some false))=some (!b'&&(c==40||c==41||c==32)):=by
    cases b' <;> cases (c==40) <;> cases (c==41) <;> rfl
   rw [hq,C1]
   have hu:(cond (!b'&&(c==40||c==41||c==32)) (Q7 (Nat.ble ((acc++[c]).length+sp.length) 1000000000) (some ((acc++[c])++sp))) (some (acc++[c])))=some (acc++(c::(if (!b'&&(c==40||c==41||c==32))=true then sp else []))):=by
    rw [Wg (by rw [C7];simp only [C2,Cc];omega)]
    cases (!b'&&(c==40||c==41||c==32)) with
    | true=>rw [C6,Cd rfl,CB];rfl
    | false=>rw [Ce,C5 Cn]
   rw [hu,C1]
   show Q9 (Qek s sp) n (_,b',((k+1:Nat):Int))=_
   rw [Q5m s sp hs hp n (k+1) b' _ (by omega) (by omega) (by
    rw [C7,C2]
    split
    ·omega
    ·simp only [Cc];omega),CB]
   rfl
  ·have:k=s.length:=by omega
   subst this
   rw [C8 (by omega),Ce,List.drop_length]
   show some acc=some (acc++[])
   rw [Cy]
theorem Qa5 {sp:Qrl} (hp:sp.length≤2):∀ (r:Qrl) (b:Bool),(QL sp b r).length≤3 * r.length
 | [],_=>Co _
 | c::r,b=>by
  unfold QL
  have:=Qa5 hp r ((c==91)||(b&&c != 93))
  rw [C2,C7,C2]
  split
  ·omega
  ·simp only [Cc];omega
theorem m7_true (s:Qrl) (k:Int) (h0:0≤k) (h1:k < 256):Qq7 s k=some true:=by
 have aw:=awake_true
 unfold Qq7
 rw [aw]
 by_cases h6:600 < s.length
 ·rw [C9 (by omega)];rfl
 ·rw [C8 (by omega),Ce,Qw (by decide)]
  have hsp:∃ sp:Qrl,J0 ([([32]:List UInt8),([10]:List UInt8),([9,32]:List UInt8),([13,10]:List UInt8)]:List ((List UInt8))) (Int.tmod k 4)=some sp∧sp.length≤2∧∀ b∈sp,isSp b=true:=by
   have hm:Int.tmod k 4=0∨Int.tmod k 4=1∨Int.tmod k 4=2∨Int.tmod k 4=3:=by
    rw [Int.tmod_eq_emod_of_nonneg h0];omega
   rcases hm with e | e | e | e <;> rw [e]
   ·exact ⟨_,rfl,by decide,by decide⟩
   ·exact ⟨_,rfl,by decide,by decide⟩
   ·exact ⟨_,rfl,by decide,by decide⟩
   ·exact ⟨_,rfl,by decide,by decide⟩
  obtain ⟨sp,e1,e2,e3⟩:=hsp
  rw [e1,C1]
  have hl:=Q5m s sp (by omega) e2 Qd 0 false [] (by unfold Qd;omega) (Co _) (Co _)
  show Option.bind (Q9 (Qek s sp) Qd (([]:List UInt8),false,((0:Nat):Int))) _=_
  rw [hl,CU,PB,C1]
  have hwl:=Qa5 e2 s false
  have hws:(QL sp false s).length≤65536:=by omega
  rcases read_wide (lv:=Q5c) e3 (by omega) hws with ⟨t,r1,r2⟩ | ⟨i,j,r1,r2⟩
  ·obtain ⟨e,a1,a2,a3⟩:=Qaw Qds (s:=s) (by omega) r1
   obtain ⟨e',b1,b2,b3⟩:=Qaw Qds hws r2
   have hz:=Q5w Qds (s:=s) (by omega) r1
   rw [a2] at b2
   have hpe:=Cv b2
   rw [Q8s s (by omega),Q8s _ hws,a3,b3,← hpe]
   simp only [C1]
   by_cases h0:(X8 e t).2=0
   ·rw [Cd h0]
    dsimp only
    rw [show ((0:Int)==0)=true from rfl,Q3k t hz];rfl
   ·rw [C5 h0]
    dsimp only
    rw [CV.2 (rfl:(X8 e t).2=_),Q3k zT Qlj];rfl
  ·have p1:Ui Q5c s=some (zT,i,4):=by unfold Ui;rw [r1]
   have p2:Ui Q5c (QL sp false s)=some (zT,j,4):=by unfold Ui;rw [r2]
   rw [Q8s s (by omega),Q8s _ hws,p1,p2]
   simp only [C1]
   rw [show ((4:Int)==4)=true from rfl,Q3k zT Qlj];rfl
end
noncomputable section
open Go.RowKit Go.ChangeShapes Go.WideShapes
def Qn6 (w:World):Nat→Nat→Prop:=fun b _=>b < w.heap.size
end
noncomputable section
open Go.ChangeShapes Go.WideShapes Go.ChangeAt Go.RowKit Go.WideElems
theorem own:ownKnob Tryz.prog.godebug=none:=by kernel_rfl
theorem Qg2:laidOutB Tryz.prog=true:=by kernel_rfl
theorem tabs_laid {W : World} {laid : List (String × DataW Unit)} {x0 x1 : String × DataW Unit} {r : List (String × DataW Unit)} (e : laid = x0 :: x1 :: ("internal/strconv.uint64pow10", Rows.laid_internal_strconv_uint64pow10) :: r) (hp : (laid.all fun x => x.2.handleName?.isNone) = true) (h : laidMetH Tryz.prog laid W) : Tabs Tryz.prog (Qn6 W) W := by
 rw [MakeChecks.laidMetH_plain _ _ _ hp] at h
 subst e
 obtain ⟨ps,hv,-,-⟩:=h
 obtain ⟨_,_,_,_,_,q1,_,_,_,_,hv1,_⟩:=hv
 obtain ⟨_,_,_,_,_,q2,_,_,_,_,hv2,_⟩:=hv1
 obtain ⟨g',t',cs,fuel,p,q,hg',ht',hvar,hd,_,_⟩:=hv2
 have hg : Tryz.prog.globalNamed "internal/strconv.uint64pow10" = some 0 := by kernel_rfl
 obtain rfl:=Cv (hg.symm.trans hg')
 obtain rfl:=Cv ((show (Tryz.prog.globals[0]?).map (·.type)=some 230 by kernel_rfl).symm.trans ht')
 have e:cs.toList=Lib.pow10Tab.map fun z=>Value.int .u64 z :=
  Lib.cells_of_tab (t:=230) (e:=195) (n:=20) (by kernel_rfl) (by kernel_rfl) (by kernel_rfl) (by kernel_rfl) hd
 have hT : Lib.TabIs Tryz.prog W "internal/strconv.uint64pow10" .u64 Lib.pow10Tab := by
  unfold Lib.TabIs
  rw [hvar,← e]
 refine Tabs.of hg (fun o=>?_) hT
 show 0 < W.heap.size
 unfold World.var? at hvar
 rw [hg] at hvar
 simp only [C1] at hvar
 split at hvar
 ·rename_i hh;exact (CP.1 hh).1
 ·cases hvar
end
noncomputable section
open Go.ChangeShapes Go.WideShapes Go.ChangeAt Go.RowKit Go.WideElems
theorem law7 {W:World} (hT:Tabs Tryz.prog (Qn6 W) W) (a0:List UInt8) (a1:Int) (h1:0≤a1∧a1 < 256):Calls Tryz.prog 7 #[.string (Qpz a0),.int .u8 a1] W fun e W'=>e=.returned (.bool true)∧Below W.heap.size W W':=by
 have hF:FunW W0 Tryz.prog 7 (QM DV k7.args (a0,a1)) (Qh (QM DV k7.res true)):=k7_ok.2 (a0,a1) true (m7_true a0 a1 h1.1 h1.2)
 refine Calls.mono (hF.2 (Qn6 W) W #[.string (Qpz a0),.int .u8 a1] (fun b o h=>h) hT ⟨Z,fun i y hy=>?_⟩) ?_
 ·match i,hy with
  | 0,hy=>cases hy;exact ⟨_,rfl,Reads.v _ rfl⟩
  | 1,hy=>cases hy;exact ⟨_,rfl,Reads.v _ rfl⟩
 ·rintro e W' ⟨u,S',rfl,hx,-,-,hu⟩
  have e1:u=.bool true:=by cases hu;rfl
  rw [e1]
  exact ⟨Z,hx.os,hx.tape,hx.output,hx.size,fun k hk=>hx.block k hk (fun h=>h)⟩
theorem lifted (os:Os) (started:os.Started) (H:Type) (enc:TypeId×Value→H) :
  ReturnsInHanded {} Tryz.checked os 7 .any (fun w args=>(Rows.textSpacesSpec.pre enc Tryz.prog Tryz.f7 [] false w args∧laidMetH Tryz.prog Rows.textSpacesRow.laid w)∧sizedMet enc Tryz.prog Tryz.f7 (OpenSpec.ofChange Rows.textSpacesSpec) false w args)
   (Rows.textSpacesSpec.post enc Tryz.prog Tryz.f7 false true false false):=by
 refine returnsInHanded_of_change_and (C:=Tryz.checked) (X:=fun w _=>laidMetH Tryz.prog Rows.textSpacesRow.laid w) (fun _ _ _ hh h=>h.of_heap hh) own started (by kernel_rfl) Tryz.func7
  (ChangeSpec.witness_shaped (enc:=enc) (C:=Tryz.checked) (os:=os) (X:=fun w _=>laidMetH Tryz.prog Rows.textSpacesRow.laid w) false (World.laidAll Tryz.prog os Rows.textSpacesRow.laid) #[.string ByteArray.empty,.int .u8 0] 8 (World.laidAll_os _ _ _)
   (World.shaped_of_ZipB (by kernel_rfl) (by kernel_rfl)) (by kernel_rfl) (by kernel_rfl) (by kernel_rfl)
   (by rw [MakeChecks.laidMetH_plain _ _ _ (by kernel_rfl)];exact laidMet_laidAll _ (by kernel_rfl) (by kernel_rfl))) ?_
 intro W base args ds gs before hval0 hW _ _ hL _
 have hval:∀ (j:Nat) t v,Tryz.f7.params[j]?=some t→args[j]?=some v→Value.okWide Tryz.prog W .any base t v:=hval0
 have hW':=hW
 obtain ⟨p,q,hA0,hV,rfl,hfz,hnd⟩:=hW
 have hA:DataW.TrodAll enc Tryz.prog W 0 (fun _=>true) true Tryz.f7.params.toList args.toList ds p:=hA0
 rw [Tryz.params7] at hA hval
 obtain ⟨v0,v1,d0,d1,p0,p1,rfl,rfl,rfl,h0,h1⟩:=trodAll_two hA
 obtain ⟨rfl,rfl⟩:=trodVars_none hV
 have h0k:=h0
 obtain ⟨s0,rfl,-,-⟩:=Go.ChangeMaps.open_string Tryz.underlying9 (hval 0 9 v0 rfl rfl) h0
 obtain ⟨a0,rfl⟩:∃ l,s0=Qpz l:=⟨s0.data.toList,(Qlq s0).symm⟩
 have h1k:=h1
 obtain ⟨a1,rfl,-,-,hw1⟩:=open_int Tryz.underlying5 (hval 1 5 v1 rfl rfl) h1
 have hr1:0≤a1∧a1 < 256:=by
  simp only [Lit.wf,CD,CX] at hw1
  exact ⟨hw1.1,Int.lt_of_le_of_lt hw1.2 (by decide)⟩
 clear hA0 hval0
 simp only [Cy] at hW'
 have hlt:∀ x∈p0++p1,x.block < W.heap.size:=fun x hx=>by simpa using hW'.lt x hx
 refine (law7 (tabs_laid rfl (by kernel_rfl) hL) a0 a1 hr1).mono fun e W' ⟨he,hb⟩=>?_
 subst he
 have hargs:∀ sp:Nat→Bool,(∀ x∈p0++p1,sp x.block=true)→DataW.TrodAll enc Tryz.prog W' 0 sp true [9,5] [.string (Qpz a0),.int .u8 a1] [d0,d1] (p0++p1):=fun sp hsp =>
  trodAll_mk2 (WideElems.Trod_stays Qg2 (by kernel_rfl) (CH (by kernel_rfl)) h0k (fun x hx=>hb.same (hlt x (by simp [hx]))) (fun x hx=>hsp x (by simp [hx]))) (WideElems.Trod_stays Qg2 (by kernel_rfl) (CH (by kernel_rfl)) h1k (fun x hx=>hb.same (hlt x (by simp [hx]))) (fun x hx=>hsp x (by simp [hx])))
 exact ⟨_,rfl,_,_,_,[],p0++p1,[],hW',trodAll_mk1 (shut_bool Tryz.underlying4 true),hargs _ (fun x hx=>by simpa using hlt x hx),rfl,hb.frame _,fun h=>by cases h⟩
theorem over:Rows.textSpacesRow.holds Tryz.pinned (OpenSpec.ofChange Rows.textSpacesSpec) :=
 OpenClaim.holds_of_wide 7 Tryz.f7 rfl rfl rfl rfl rfl rfl rfl ⟨rfl,rfl,rfl,rfl,rfl⟩ rfl rfl rfl rfl rfl (by kernel_rfl) Tryz.func7 (by kernel_rfl)
  (CH (by kernel_rfl)) (by unfold Func.isWrapper;first | (rw [Cd (by decide +kernel)];kernel_rfl) | (rw [C5 (by decide +kernel)];exact ⟨rfl,rfl⟩))
  (fun os started H enc _=>lifted os started H enc)
theorem textSpacesCard:Rows.TextSpacesCardSaid :=
 Claim7.holds_tied_plain_at .later [] _ _ _ _ over (fun _ h=>by cases h) (by kernel_rfl) (fun _ h=>by cases h) textSpaces_row_tie rfl ⟨rfl,rfl⟩ (by kernel_rfl) rfl
  (fun f fn hf hfn=>by
   obtain rfl : f = 7 := Cv ((show Tryz.prog.funcNamed "euclid/euclidlaw06.TextSpaces" = some 7 by kernel_rfl).symm.trans hf) |>.symm
   obtain rfl:fn=Tryz.f7:=(Cv (Tryz.func7.symm.trans hfn)).symm
   exact ⟨by kernel_rfl,fun j t ht=>by
    rw [Tryz.params7] at ht
    have hm:t∈[9,5]:=by simpa using Array.mem_of_getElem? ht
    have hall:([9,5].all fun u=>!Tryz.prog.wantsStandIn u)=true:=by kernel_rfl
    exact (show Tryz.prog.wantsStandIn t=false by simpa using Cf.1 hall t hm)⟩)
  (by kernel_rfl)
#print axioms textSpacesCard
end
end Go.Proofs.YtjcfppnjamjjhaaGreatDoor
