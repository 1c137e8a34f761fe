/- The card of TextOffsets is proved here: for all strings the law returns true, and the arguments read behind the call as they did before; condition: the listed package-level variables hold what the text of the program lays (tied). -/
import Derived.Test.YtjcfppnjamjjhaaGreatDoorK55
import Derived.Deep.Slices
import Derived.ChangeSame
import Derived.Test.YtjcfppnjamjjhaaGreatDoorRows
import Derived.Test.YtjcfppnjamjjhaaGreatDoorProg
import Derived.Test.YtjcfppnjamjjhaaGreatDoorCards
import Derived.Test.YtjcfppnjamjjhaaGreatDoorTie
import Derived.ProofKit
import Derived.Carry
import Derived.Lay
import Derived.JoinedCond
import Derived.SevenTiedAt
import Derived.Deep.DeepHandedRow
import Derived.ChangeMaps5
set_option maxHeartbeats 2000000
set_option maxRecDepth 100000
set_option linter.unusedSimpArgs false
set_option linter.unusedVariables false
set_option linter.unusedSectionVars false
namespace Go.Proofs.YtjcfppnjamjjhaaGreatDoor
noncomputable section
open Go.RowKit Go.Shelf
theorem drop_foldl {α σ:Type} {f:σ→α→σ} {l:List α} {k:Nat} {x:α} {s:σ} (h:l[k]?=some x):(l.drop k).foldl f s=(l.drop (k+1)).foldl f (f s x):=by
 have:l.drop k=x::l.drop (k+1):=by
  obtain ⟨hk,rfl⟩:=Cf.1 h
  exact PH hk
 rw [this];rfl
theorem Q70 {α σ:Type} {step:Int×σ→Option (LO (Int×σ) σ)} {l:List α} (f:σ→α→σ) (P:Nat→σ→Prop) (hlen:l.length≤900000)
  (hin:∀ (k:Nat) (x:α) (s:σ),l[k]?=some x→P k s→step ((k:Int),s)=some (.next (Qo ((k:Int)+1),f s x))∧P (k+1) (f s x))
  (hout:∀ s,P l.length s→step ((l.length:Int),s)=some (.done s)) (s0:σ) (h0:P 0 s0):Qa step Qd (0,s0)=some (l.foldl f s0)∧P l.length (l.foldl f s0):=by
 have key:=Ku (step:=step) (fun s=>∃ k:Nat,s.1=(k:Int)∧k≤l.length∧P k s.2) (fun s=>l.length - s.1.toNat) (fun s=>(l.drop s.1.toNat).foldl f s.2) (fun s hs=>by
  obtain ⟨i,s⟩:=s
  obtain ⟨k,rfl,hk,hp⟩:=hs
  dsimp only at hp ⊢
  rcases P1 k l.length with hlt | hge
  ·obtain ⟨x,hx⟩:∃ x,l[k]?=some x:=⟨_,Co hlt⟩
   obtain ⟨h1,h2⟩:=hin k x s hx hp
   right
   rw [Qa0 hlt (by omega)] at h1
   refine ⟨_,h1,⟨k+1,Z,hlt,h2⟩,?_,?_⟩
   ·simp only [CN];omega
   ·simp only [CN];exact (drop_foldl hx).symm
  ·left
   obtain rfl:k=l.length:=by omega
   rw [hout s hp]
   simp) Qd (0,s0) ⟨0,rfl,Cp _,h0⟩ (by show l.length - 0 < Qd;unfold Qd;omega)
 refine ⟨by simpa using key,?_⟩
 have hind:∀ (k:Nat),k≤l.length→P k ((l.take k).foldl f s0):=by
  intro k
  induction k with
  | zero=>intro _;exact h0
  | succ k ih =>
   intro hk
   have hx:l[k]?=some l[k]:=Co (by omega)
   have:=(hin k _ _ hx (ih (by omega))).2
   rw [Sh,hx,List.foldl_append]
   exact this
 have:=hind l.length (Ck _)
 rwa [List.take_length] at this
structure ImInv (n:Nat) (M:Qt):Prop where
 len:M.1.length≤n
 keys:(M.1.map fun e=>e.1).Nodup
 born:(M.1.map fun e=>e.2.2).Nodup
 old:∀ e∈M.1,e.2.2 < M.2
 rng:∀ e∈M.1,-9223372036854775808≤e.1∧e.1≤9223372036854775807
theorem ImInv.nil:ImInv 0 imNil:=⟨Ck _,Sg,Sg,(fun e h=>by cases h),(fun e h=>by cases h)⟩
def mx:Option Int→Int→Option Int
 | none,p=>some p
 | some o,p=>some (max o p)
def Ql3:Option Int→Option Int→Option Int
 | a,none=>a
 | a,some p=>mx a p
def G1 (vs:List Qr1) (k:Int):Option Int:=(vs.find? fun x=>k==x.1).map fun x=>x.2
abbrev Asc (l:List Qr1):Prop:=l.Pairwise (fun a b=>a.1 < b.1)
theorem Q44 (k:Int):G1 [] k=none:=rfl
theorem Zi (x:Qr1) (l:List Qr1):G1 (x::l) x.1=some x.2:=by simp [G1]
theorem Ye {x:Qr1} {l:List Qr1} {k:Int} (h:k ≠ x.1):G1 (x::l) k=G1 l k:=by
 have:(k==x.1)=false:=by simpa using h
 simp [G1,Sp,this]
theorem Q0f {l:List Qr1} {k:Int} (h:∀ y∈l,y.1 ≠ k):G1 l k=none:=by
 induction l with
 | nil=>rfl
 | cons x l ih=>rw [Ye (fun e=>h x Ch e.symm)];exact ih fun y hy=>h y (Ci _ hy)
theorem YO {l:List Qr1} (h:Asc l) {k p:Int}:G1 l k=some p↔(k,p)∈l:=by
 induction l with
 | nil=>simp [G1]
 | cons x l ih =>
  obtain ⟨h1,h2⟩:=CL.1 h
  by_cases hk:k=x.1
  ·subst hk
   rw [Zi]
   constructor
   ·intro e;cases e;exact Ch
   ·intro hm
    rcases Cq.1 hm with e | hm
    ·rw [← e]
    ·have:=h1 _ hm;simp at this
  ·rw [Ye hk,ih h2]
   constructor
   ·exact fun hm=>Ci _ hm
   ·intro hm
    rcases Cq.1 hm with e | hm
    ·exact absurd (by rw [← e]) hk
    ·exact hm
theorem Qg5 {x:Qr1} {l:List Qr1} {k:Int} (h:Asc (x::l)) (hk:k < x.1):G1 (x::l) k=none:=by
 refine Q0f fun y hy e=>?_
 rcases Cq.1 hy with rfl | hy
 ·omega
 ·have:=(CL.1 h).1 y hy;omega
theorem Wm (a:Option Int):Ql3 none a=a:=by cases a <;> rfl
theorem K0 (a:Option Int):Ql3 a none=a:=by cases a <;> rfl
theorem ZG:∀ (a b:List Qr1),Asc a→Asc b→∀ k,G1 (Ja a b) k=Ql3 (G1 a k) (G1 b k)
 | [],b,_,_,k=>by rw [Zd,Q44,Wm]
 | x::a,[],_,_,k=>by rw [Zc,Q44,K0]
 | x::a,y::b,ha,hb,k=>by
  obtain ⟨a1,a2⟩:=CL.1 ha
  obtain ⟨b1,b2⟩:=CL.1 hb
  rw [Ja]
  split
  ·rename_i hxy
   by_cases hk:k=x.1
   ·subst hk;rw [Zi,Zi,Qg5 hb hxy,K0]
   ·rw [Ye hk,Ye hk];exact ZG a (y::b) a2 hb k
  ·split
   ·rename_i hyx
    by_cases hk:k=y.1
    ·subst hk;rw [Zi,Zi,Qg5 ha hyx,Wm]
    ·rw [Ye hk,Ye (x:=y) hk];exact ZG (x::a) b ha b2 k
   ·rename_i h1 h2
    have e:x.1=y.1:=by omega
    by_cases hk:k=x.1
    ·subst hk
     rw [Zi (x.1,max x.2 y.2),Zi,e,Zi];rfl
    ·have hk2:k ≠ y.1:=by rw [← e];exact hk
     rw [Ye (x:=(x.1,max x.2 y.2)) hk,Ye hk,Ye hk2]
     exact ZG a b a2 b2 k
termination_by a b=>a.length+b.length
theorem Q2t {c m:Int} {vs:List Qr1}:YY c vs≤m↔c≤m∧∀ x∈vs,x.2≤m:=by
 unfold YY
 induction vs generalizing c with
 | nil=>simp
 | cons y l ih =>
  rw [PI,ih]
  constructor
  ·rintro ⟨h1,h2⟩
   refine ⟨by omega,fun x hx=>?_⟩
   rcases Cq.1 hx with rfl | hx
   ·omega
   ·exact h2 x hx
  ·rintro ⟨h1,h2⟩
   exact ⟨by have:=h2 y Ch;omega,fun x hx=>h2 x (Ci _ hx)⟩
theorem Q3v {c:Int} {vs:List Qr1} {x:Qr1} (h:x∈vs):x.2≤YY c vs:=(Q2t.1 (Int.le_refl _)).2 x h
theorem Qhq (c:Int) (vs:List Qr1):c≤YY c vs:=(Q2t.1 (Int.le_refl _)).1
theorem topOf_at {vs:List Qr1} (hne:vs ≠ []) (h0:∀ x∈vs,0≤x.2):∃ x∈vs,YY 0 vs=x.2:=by
 have key:∀ (l:List Qr1) (c:Int),YY c l=c∨∃ x∈l,YY c l=x.2:=by
  intro l
  induction l with
  | nil=>intro c;exact .inl rfl
  | cons y l ih =>
   intro c
   have e:YY c (y::l)=YY (max c y.2) l:=rfl
   rw [e]
   rcases ih (max c y.2) with h | ⟨x,hx,h⟩
   ·rw [h]
    rcases Int.le_total c y.2 with h1 | h1
    ·right;exact ⟨y,Ch,by omega⟩
    ·left;omega
   ·right;exact ⟨x,Ci _ hx,h⟩
 rcases key vs 0 with h | h
 ·obtain ⟨x,r,rfl⟩:=Sz hne
  have h1:=h0 x Ch
  have h2:=Q3v (c:=0) (vs:=x::r) Ch
  exact ⟨x,Ch,by omega⟩
 ·exact h
def Q0w (C:Int) (vs:List Qr1):Int:=if vs ≠ []∧C≤YY 0 vs then 0 else C
theorem Q99 (A B:Lvl):Q3z A B=⟨Q0w (max A.c B.c) (Ja A.vs B.vs),Ja A.vs B.vs⟩:=by
 unfold Q3z Q0w
 split <;> rfl
theorem trimC_more {C b:Int} {vs m:List Qr1} (Qq4:0≤C) (hb:0≤b) (hm:vs ≠ []→m ≠ []) (ht:YY 0 vs≤YY 0 m):Q0w (max (Q0w C vs) b) m=Q0w (max C b) m:=by
 unfold Q0w
 have h0:=Qhq 0 m
 by_cases h1:vs ≠ []∧C≤YY 0 vs
 ·rw [Cc h1]
  have hm':=hm h1.1
  by_cases h2:b≤YY 0 m
  ·rw [Cc ⟨hm',by omega⟩,Cc ⟨hm',by omega⟩]
  ·rw [C8 (fun h=>h2 (by omega)),C8 (fun h=>h2 (by omega))];omega
 ·rw [C8 h1]
theorem Qea {C:Int} {vs:List Qr1} (Qq4:0≤C) (h0:∀ x∈vs,0≤x.2):Z7 ⟨C,vs⟩=⟨Q0w C vs,vs⟩:=by
 unfold Z7 Q0w Q4p
 by_cases h1:vs ≠ []∧C≤YY 0 vs
 ·rw [Cc h1]
  obtain ⟨x,hx,he⟩:=topOf_at h1.1 h0
  rw [Cc]
  exact CS.2 ⟨x,hx,by simp;omega⟩
 ·rw [C8 h1,C8]
  intro h2
  obtain ⟨x,hx,he⟩:=CS.1 h2
  have hx':x∈vs:=hx
  have:=Q3v (c:=0) hx'
  simp at he
  exact h1 ⟨(by intro h;rw [h] at hx';cases hx'),by omega⟩
theorem Q1f {l:List Qr1} (h:Asc l) {x:Qr1} (hx:x∈l):G1 l x.1=some x.2:=(YO h).2 hx
theorem merge_ge_l {a b:List Qr1} (ha:WF a) (hb:WF b) {x:Qr1} (hx:x∈a):∃ y∈Ja a b,y.1=x.1∧x.2≤y.2:=by
 have h1:=ZG a b ha.1 hb.1 x.1
 rw [Q1f ha.1 hx] at h1
 have hm:=(KB a b ha hb).1
 cases h2:G1 b x.1 with
 | none=>rw [h2] at h1;exact ⟨(x.1,x.2),(YO hm).1 h1,rfl,Int.le_refl _⟩
 | some p=>rw [h2] at h1;exact ⟨(x.1,max x.2 p),(YO hm).1 h1,rfl,by dsimp only;omega⟩
theorem Q6a {a b:List Qr1} (ha:WF a) (hb:WF b) {y:Qr1} (hy:y∈Ja a b):y∈a∨y∈b:=by
 have hm:=(KB a b ha hb).1
 have h1:=ZG a b ha.1 hb.1 y.1
 rw [Q1f hm hy] at h1
 cases h2:G1 a y.1 with
 | none =>
  rw [h2,Wm] at h1
  exact .inr ((YO hb.1).1 h1.symm)
 | some p =>
  cases h3:G1 b y.1 with
  | none =>
   rw [h2,h3,K0] at h1
   have:=(YO ha.1).1 h2
   cases h1;exact .inl this
  | some q =>
   rw [h2,h3] at h1
   have h4:=(YO ha.1).1 h2
   have h5:=(YO hb.1).1 h3
   have h6:y.2=max p q:=Cw h1
   rcases Int.le_total p q with h7 | h7
   ·right
    rw [show max p q=q by omega] at h6
    rwa [← h6] at h5
   ·left
    rw [show max p q=p by omega] at h6
    rwa [← h6] at h4
theorem merge_ne_l {a b:List Qr1} (h:a ≠ []):Ja a b ≠ []:=by
 cases a with
 | nil=>exact absurd rfl h
 | cons x a=>cases b with
  | nil=>rw [Zc];exact h
  | cons y b =>
   rw [Ja]
   repeat' split
   all_goals exact List.cons_ne_nil _ _
theorem topOf_mono {a m:List Qr1} (h:∀ x∈a,∃ y∈m,x.2≤y.2):YY 0 a≤YY 0 m:=by
 refine Q2t.2 ⟨Qhq 0 m,fun x hx=>?_⟩
 obtain ⟨y,hy,h1⟩:=h x hx
 have:=Q3v (c:=0) hy
 omega
def Q9u (M:Qt) (x:Qr1):Qt:=cond (cond (!(Dk M x.1)) true (decide (YI M x.1 < x.2))) (We M x.1 x.2) M
def Qkj (M:Qt):Prop:=∃ n,ImInv n M
structure RMap (M:Qt) (vs:List Qr1):Prop where
 good:Qkj M
 wf:WF vs
 eq:∀ k,K8 M k=G1 vs k
theorem RMap.nil:RMap imNil []:=⟨⟨0,ImInv.nil⟩,DM,fun k=>rfl⟩
def Qb8 (k:Int) (l:List (Int×Int×Nat)):Option Int:=(l.find? fun e=>k==e.1).map fun e=>e.2.1
theorem Uy (k:Int):∀ (l:List (Int×Int×Nat)) (i:Nat),(Yi k l i).map (·.2)=Qb8 k l
 | [],i=>rfl
 | e::l,i=>by
  simp only [Yi,Qb8,Sp]
  cases h:k==e.1 with
  | true=>rfl
  | false=>simp only [Cd];exact Uy k l (i+1)
theorem Q0e (M:Qt) (k:Int):K8 M k=Qb8 k M.1:=Uy k M.1 0
theorem lkp_append (k:Int) (l r:List (Int×Int×Nat)):Qb8 k (l++r)=(Qb8 k l).or (Qb8 k r):=by
 simp only [Qb8,List.find?_append]
 cases l.find? fun e=>k==e.1 <;> rfl
theorem Uq {k v:Int} {k':Int}:∀ {l:List (Int×Int×Nat)} {i j:Nat} {u:Int},Yi k l i=some (j,u)→i≤j∧j - i < l.length∧Qb8 k' (l.modify (j - i) fun e=>(k,v,e.2.2))=if k'=k then some v else Qb8 k' l
 | [],i,j,u,h=>by cases h
 | e::l,i,j,u,h=>by
  simp only [Yi] at h
  cases hk:k==e.1 with
  | true =>
   rw [hk] at h;cases h
   have hke:k=e.1:=by simpa using hk
   refine ⟨Ck _,by simp,?_⟩
   rw [PC,List.modify_zero_cons]
   simp only [Qb8,Sp]
   by_cases hkk:k'=k
   ·subst hkk;simp
   ·have h1:(k'==k)=false:=by simpa using hkk
    have h2:(k'==e.1)=false:=by rw [← hke];exact h1
    rw [h1,h2,C8 hkk]
  | false =>
   rw [hk] at h
   simp only [Cd] at h
   obtain ⟨h1,h2,h3⟩:=Uq (v:=v) (k':=k') h
   refine ⟨by omega,by simp only [C2];omega,?_⟩
   rw [show j - i=(j - (i+1))+1 by omega,List.modify_succ_cons]
   simp only [Qb8,Sp] at h3 ⊢
   cases hk':k'==e.1 with
   | true =>
    have:k' ≠ k:=by
     intro e1;subst e1;rw [hk] at hk';cases hk'
    rw [C8 this]
   | false=>exact h3
theorem Q6x (M:Qt) (k v k':Int):K8 (We M k v) k'=if k'=k then some v else K8 M k':=by
 rw [Q0e,Q0e]
 unfold We
 cases h:Yi k M.1 0 with
 | some p =>
  obtain ⟨j,u⟩:=p
  have:=(Uq (v:=v) (k':=k') h).2.2
  simpa using this
 | none =>
  have h0:Qb8 k M.1=none:=by rw [← Uy k M.1 0,h];rfl
  dsimp only
  rw [lkp_append]
  by_cases hkk:k'=k
  ·subst hkk
   rw [h0];simp [Qb8]
  ·rw [C8 hkk]
   have:Qb8 k' [(k,v,M.2)]=none:=by
    have h1:(k'==k)=false:=by simpa using hkk
    simp [Qb8,h1]
   rw [this];cases Qb8 k' M.1 <;> rfl
theorem Uk {α β:Type} (g:α→β) (f:α→α):∀ (l:List α) (j:Nat),(∀ x,l[j]?=some x→g (f x)=g x)→(l.modify j f).map g=l.map g
 | [],j,_=>by cases j <;> rfl
 | x::l,0,h=>by rw [List.modify_zero_cons,CF,CF,h x rfl]
 | x::l,j+1,h=>by rw [List.modify_succ_cons,CF,CF,Uk g f l j (fun y hy=>h y (by simpa using hy))]
theorem Q43 {k:Int}:∀ {l:List (Int×Int×Nat)} {i j:Nat} {u:Int},Yi k l i=some (j,u)→∃ e,l[j - i]?=some e∧e.1=k
 | [],i,j,u,h=>by cases h
 | e::l,i,j,u,h=>by
  simp only [Yi] at h
  cases hk:k==e.1 with
  | true=>rw [hk] at h;cases h;exact ⟨e,by simp,(by simpa using hk:k=e.1).symm⟩
  | false =>
   rw [hk] at h
   simp only [Cd] at h
   obtain ⟨e',h1,h2⟩:=Q43 h
   have:=(Uq (v:=0) (k':=0) h).1
   exact ⟨e',by rw [show j - i=(j - (i+1))+1 by omega,List.getElem?_cons_succ];exact h1,h2⟩
theorem Q1e {k:Int}:∀ {l:List (Int×Int×Nat)} {i:Nat},Yi k l i=none→∀ e∈l,e.1 ≠ k
 | [],i,_,e,he=>by cases he
 | x::l,i,h,e,he=>by
  simp only [Yi] at h
  cases hk:k==x.1 with
  | true=>rw [hk] at h;cases h
  | false =>
   rw [hk] at h
   rcases Cq.1 he with rfl | he
   ·intro e1;rw [e1] at hk;simp at hk
   ·exact Q1e h e he
theorem ImInv.set {n:Nat} {M:Qt} (h:ImInv n M) {k:Int} (v:Int) (hk:-9223372036854775808≤k∧k≤9223372036854775807):ImInv (n+1) (We M k v):=by
 unfold We
 cases hf:Yi k M.1 0 with
 | some p =>
  obtain ⟨j,u⟩:=p
  obtain ⟨e0,h1,h2⟩:=Q43 hf
  rw [Ss] at h1
  have m1:(M.1.modify j fun e=>(k,v,e.2.2)).map (fun e=>e.1)=M.1.map fun e=>e.1:=Uk _ _ _ _ (fun x hx=>by rw [h1] at hx;cases hx;exact h2.symm)
  have m2:(M.1.modify j fun e=>(k,v,e.2.2)).map (fun e=>e.2.2)=M.1.map fun e=>e.2.2:=Uk _ _ _ _ (fun x hx=>rfl)
  refine ⟨by rw [List.length_modify];exact SD h.len,by dsimp only;rw [m1];exact h.keys,by dsimp only;rw [m2];exact h.born,fun e he=>?_,fun e he=>?_⟩
  ·have:e.2.2∈M.1.map fun e=>e.2.2:=by rw [← m2];exact List.mem_map_of_mem he
   obtain ⟨e',h3,h4⟩:=Cv.1 this
   dsimp only at h4 ⊢
   rw [← h4];exact h.old e' h3
  ·have:e.1∈M.1.map fun e=>e.1:=by rw [← m1];exact List.mem_map_of_mem he
   obtain ⟨e',h3,h4⟩:=Cv.1 this
   rw [← h4];exact h.rng e' h3
 | none =>
  have hn:=Q1e hf
  refine ⟨by simp only [C9,List.length_singleton];have:=h.len;omega,?_,?_,fun e he=>?_,fun e he=>?_⟩
  ·rw [Cr,SB]
   refine ⟨h.keys,by simp,fun a ha b hb=>?_⟩
   obtain ⟨e,h3,rfl⟩:=Cv.1 ha
   simp at hb;subst hb
   exact hn e h3
  ·rw [Cr,SB]
   refine ⟨h.born,by simp,fun a ha b hb=>?_⟩
   obtain ⟨e,h3,rfl⟩:=Cv.1 ha
   simp at hb;subst hb
   exact Nat.ne_of_lt (h.old e h3)
  ·rcases CQ.1 he with he | he
   ·exact Nat.lt_succ_of_lt (h.old e he)
   ·simp at he;subst he;exact Ct _
  ·rcases CQ.1 he with he | he
   ·exact h.rng e he
   ·simp at he;subst he;exact hk
theorem DX {α:Type} [BEq α] [LawfulBEq α]:∀ {l:List α},l.Nodup→Ui l=true
 | [],_=>rfl
 | x::l,h=>by
  obtain ⟨h1,h2⟩:=CT.1 h
  simp only [Ui]
  cases h3:l.any fun y=>x==y with
  | true =>
   obtain ⟨y,h4,h5⟩:=CS.1 h3
   rw [show x=y by simpa using h5] at h1
   exact absurd h4 h1
  | false=>exact DX h2
theorem ImInv.ok {n:Nat} {M:Qt} (h:ImInv n M) (hn:n≤1000000):Q5k M=true:=by
 unfold Q5k
 rw [Cb (Ca h.len hn),DX h.keys,DX h.born]
 have:(M.1.all fun e=>cond (Nat.ble (e.2.2+1) M.2) (cond (decide (-9223372036854775808≤e.1)) (decide (e.1≤9223372036854775807)) false) false)=true:=by
  refine Cg.2 fun e he=>?_
  rw [Cb (h.old e he),C5 (h.rng e he).1,C5 (h.rng e he).2];rfl
 rw [this];rfl
theorem Q3h {M:Qt} {k:Int}:k∈JC M↔(K8 M k).isSome:=by
 rw [Q0e]
 unfold JC Qb8
 rw [(Zz _).mem_iff,Option.isSome_map,List.find?_isSome]
 constructor
 ·intro h
  obtain ⟨e,h1,h2⟩:=Cv.1 h
  exact ⟨e,h1,by simp [h2]⟩
 ·rintro ⟨e,h1,h2⟩
  exact Cv.2 ⟨e,h1,(by simpa using h2:k=e.1).symm⟩
theorem Q42 {n:Nat} {M:Qt} (h:ImInv n M):(JC M).Pairwise (· < ·):=by
 have h1:(JC M).Nodup:=(Zz _).nodup_iff.2 h.keys
 have h2:=X1 (M.1.map fun e=>e.1)
 exact (h2.and h1).imp fun ⟨a,b⟩=>Int.lt_iff_le_and_ne.2 ⟨a,b⟩
theorem Asc.nodup {l:List Qr1} (h:Asc l):l.Nodup:=h.imp fun hab e=>by rw [e] at hab;omega
theorem asc_ext {a b:List Qr1} (ha:Asc a) (hb:Asc b) (h:∀ k,G1 a k=G1 b k):a=b:=by
 have hp:a.Perm b:=(List.perm_ext_iff_of_nodup ha.nodup hb.nodup).2 fun x=>by
  obtain ⟨k,p⟩:=x
  rw [← YO ha,← YO hb,h]
 exact List.Perm.eq_of_pairwise (le:=fun x y:Qr1=>x.1 < y.1) (fun x y _ _ h1 h2=>by omega) ha hb hp
theorem rz_get (M:Qt) (x:Qr1) (k:Int):K8 (Q9u M x) k=if k=x.1 then mx (K8 M k) x.2 else K8 M k:=by
 unfold Q9u Dk YI
 cases h:K8 M x.1 with
 | none =>
  simp only [P2,S7,C7]
  rw [Q6x]
  by_cases hk:k=x.1
  ·subst hk;rw [Cc rfl,Cc rfl,h];rfl
  ·rw [C8 hk,C8 hk]
 | some o =>
  simp only [Pw,PO,Cd,Pv]
  by_cases ho:o < x.2
  ·rw [C5 ho,C7,Q6x]
   by_cases hk:k=x.1
   ·subst hk;rw [Cc rfl,Cc rfl,h]
    have:max o x.2=x.2:=by omega
    simp only [mx,this]
   ·rw [C8 hk,C8 hk]
  ·rw [C6 ho,Cd]
   by_cases hk:k=x.1
   ·subst hk;rw [Cc rfl,h]
    have:max o x.2=o:=by omega
    simp only [mx,this]
   ·rw [C8 hk]
theorem rz_good {M:Qt} (h:Qkj M) {x:Qr1} (hx:-65536≤x.1∧x.1≤7):Qkj (Q9u M x):=by
 unfold Q9u
 obtain ⟨n,hn⟩:=h
 cases cond (!(Dk M x.1)) true (decide (YI M x.1 < x.2)) with
 | true=>exact ⟨_,hn.set x.2 ⟨by omega,by omega⟩⟩
 | false=>exact ⟨n,hn⟩
theorem Qej:∀ (l:List Qr1) (M:Qt),Asc l→∀ k,K8 (l.foldl Q9u M) k=Ql3 (K8 M k) (G1 l k)
 | [],M,_,k=>by rw [Q44,K0];rfl
 | x::l,M,h,k=>by
  obtain ⟨h1,h2⟩:=CL.1 h
  rw [PI,Qej l _ h2,rz_get]
  by_cases hk:k=x.1
  ·subst hk
   have:G1 l x.1=none:=Q0f fun y hy e=>by have:=h1 y hy;omega
   rw [Cc rfl,this,Zi,K0];rfl
  ·rw [C8 hk,Ye hk]
theorem UW:∀ (l:List Qr1) (M:Qt),Qkj M→(∀ x∈l,-65536≤x.1∧x.1≤7)→Qkj (l.foldl Q9u M)
 | [],_,h,_=>h
 | x::l,M,h,hl=>UW l _ (rz_good h (hl x Ch)) fun y hy=>hl y (Ci _ hy)
theorem RMap.merge {M:Qt} {vs l:List Qr1} (h:RMap M vs) (hl:WF l):RMap (l.foldl Q9u M) (Ja vs l) :=
 ⟨UW l M h.good hl.2,KB _ _ h.wf hl,fun k=>by rw [Qej l M hl.1,h.eq,ZG vs l h.wf.1 hl.1]⟩
theorem RMap.ok {M:Qt} {vs:List Qr1} (h:RMap M vs):Q5k M=true∧(JC M).map (fun k=>(k,YI M k))=vs:=by
 obtain ⟨n,hn⟩:=h.good
 have h1:(JC M).map (fun k=>(k,YI M k))=vs:=by
  refine asc_ext ?_ h.wf.1 fun k=>?_
  ·unfold Asc
   rw [SF];exact Q42 hn
  ·have ha:Asc ((JC M).map fun k=>(k,YI M k)):=by unfold Asc;rw [SF];exact Q42 hn
   rw [← h.eq k]
   cases hg:K8 M k with
   | none =>
    refine Q0f fun y hy e=>?_
    obtain ⟨k',hk',rfl⟩:=Cv.1 hy
    have:=Q3h.1 hk'
    dsimp only at e;subst e
    rw [hg] at this;cases this
   | some p =>
    have hk:k∈JC M:=Q3h.2 (by rw [hg];rfl)
    refine (YO ha).2 (Cv.2 ⟨k,hk,?_⟩)
    unfold YI;rw [hg];rfl
 refine ⟨ImInv.ok (n:=M.1.length) { hn with len:=Ck _ } ?_,h1⟩
 have h2:vs.length=M.1.length:=by
  rw [← h1,Cm]
  exact (Zz _).length_eq.trans (Cm _)
 have:=h.wf.len
 omega
theorem Q7i {a b:Nat} (h:a≤b):Nat.ble a b=true:=Cb h
theorem Gc {α:Type} {b:Bool} {x:Option α} (h:b=true):Q7 b x=x:=by rw [h];rfl
theorem rz_stepM (M:Qt) (k p:Int):(Option.bind (cond (!(Dk M k))
  (some true)
  (some (decide ((YI M k) < p)))) (fun (v19:Bool)=>cond v19
  (some (We M k p))
  (some M)))=some (Q9u M (k,p)):=by
 unfold Q9u
 cases Dk M k with
 | false=>rfl
 | true =>
  simp only [PO,Cd,C1]
  cases decide (YI M k < p) <;> rfl
theorem Q46 {α β:Type} (f:α→β):∀ (l:List α) (out:List β),l.foldl (fun o x=>o++[f x]) out=out++l.map f
 | [],out=>by simp
 | x::l,out=>by rw [PI,Q46 f l];simp
structure GoodL (A:Lvl):Prop where
 wf:WF A.vs
 c:0≤A.c
 v:∀ x∈A.vs,0≤x.2
theorem trim_vs (A:Lvl):(Z7 A).vs=A.vs:=by unfold Z7;split <;> rfl
theorem good_merge {A B:Lvl} (ha:GoodL A) (hb:GoodL B):GoodL ⟨max A.c B.c,Ja A.vs B.vs⟩:=⟨KB _ _ ha.wf hb.wf,by have:=ha.c;show 0≤max A.c B.c;omega,fun x hx=>(Q6a ha.wf hb.wf hx).elim (ha.v x) (hb.v x)⟩
theorem Qq8 {a b:Nat} (h1:a≤100000) (h2:b≤100000):cond (Nat.ble a 100000) (Nat.ble b 100000) false=true:=by rw [Q7i h1,Q7i h2];rfl
def Qko (b:UInt8):Bool:=decide (48≤b.toNat)&&decide (b.toNat≤57)
def K6 (s:Qr7):Qr7:=s.takeWhile Qko
def Qkw (ds:Qr7):Nat:=ds.foldl (fun a b=>10 * a+(b.toNat - 48)) 0
def Qk4 (ds:Qr7):Bool:=decide (ds.length=0)||decide (6 < ds.length)||(decide (1 < ds.length)&&(ds.head?==some 48))
def Q1x (s:Qr7):Option (Nat×Qr7):=if Qk4 (K6 s) then none else some (Qkw (K6 s),s.drop (K6 s).length)
def Qph (s:Qr7):Qr7:=s.dropWhile (·==32)
def DJ (c:UInt8):Qr7→Option Qr7
 | b::r=>if b=c then some r else none
 | []=>none
def WQ (i n:Int):Lvl×Int:=if i < -65536∨7 < i∨n < 0 then (⟨0,[]⟩,2) else if 100 < n then (⟨0,[]⟩,15) else (⟨0,[(i,n)]⟩,0)
def Qh1 (n:Int):Lvl×Int:=if n < 0 then (⟨0,[]⟩,2) else if 100 < n then (⟨0,[]⟩,15) else (⟨n,[]⟩,0)
def Qhe (neg:Bool) (t:Qr7):Option ((Lvl×Int)×Qr7):=match Q1x t with
 | none=>none
 | some (n,r)=>match DJ 43 (Qph r) with
  | none=>some (WQ (if neg then -1 - (n:Int) else n) 0,Qph r)
  | some r2=>match Q1x (Qph r2) with
   | none=>none
   | some (p,r3)=>some (WQ (if neg then -1 - (n:Int) else n) p,r3)
def Ga (t:Qr7):Option ((Lvl×Int)×Qr7):=match DJ 117 t with
 | some t'=>Qhe false t'
 | none=>match DJ 63 t with
  | some t'=>Qhe true t'
  | none=>match Q1x t with
   | none=>none
   | some (n,r)=>some (Qh1 n,r)
def Xw:Nat→Qr7→Option (List (Lvl×Int)×Qr7)
 | 0,_=>none
 | n+1,t=>match Ga (Qph t) with
  | none=>none
  | some (x,r)=>match DJ 44 (Qph r) with
   | none=>some ([x],Qph r)
   | some r2=>match Xw n r2 with
    | none=>none
    | some (xs,r3)=>some (x::xs,r3)
def Q89 (s:Qr7):Option (List (Lvl×Int)) :=
 if Lib.hasPrefix (Qph s) [109,97,120] then match DJ 40 (Qph ((Qph s).drop 3)) with
  | none=>none
  | some t=>match Xw (s.length+1) t with
   | none=>none
   | some (xs,r)=>match DJ 41 r with
    | none=>none
    | some r2=>if Qph r2=[] then some xs else none
 else match Ga (Qph s) with
  | none=>none
  | some (x,r)=>if Qph r=[] then some [x] else none
def Gq (e:Int) (xs:List (Lvl×Int)):Int:=xs.foldl (fun e x=>if e=0 then x.2 else e) e
def Wa (o:Lvl) (xs:List (Lvl×Int)):Lvl:=xs.foldl (fun o x=>Q3z o x.1) o
def Q5f (s:Qr7):Lvl×Int:=match Q89 s with
 | none=>(⟨0,[]⟩,4)
 | some []=>(⟨0,[]⟩,4)
 | some (x::xs)=>if Gq 0 (x::xs)=0 then (Wa x.1 xs,0) else (⟨0,[]⟩,Gq 0 (x::xs))
theorem Qho {p:UInt8→Bool}:∀ (s:Qr7) (k:Nat),k < (s.takeWhile p).length→∃ b,s[k]?=some b∧p b=true
 | [],k,h=>by simp at h
 | b::s,k,h=>by
  rw [P9] at h
  split at h
  ·rename_i hb
   cases k with
   | zero=>exact ⟨b,rfl,hb⟩
   | succ k=>exact Qho s k (by simpa using h)
  ·simp at h
theorem Qhp {p:UInt8→Bool}:∀ (s:Qr7) (b:UInt8),s[(s.takeWhile p).length]?=some b→p b=false
 | [],b,h=>by simp at h
 | c::s,b,h=>by
  rw [P9] at h
  split at h
  ·rename_i hc
   exact Qhp s b (by simpa using h)
  ·rename_i hc
   simp at h;subst h;simpa using hc
theorem tw_take {p:UInt8→Bool} (s:Qr7):s.take (s.takeWhile p).length=s.takeWhile p:=by
 conv=>lhs;rw [← Cz (p:=p) (l:=s)]
 have h:((s.takeWhile p++s.dropWhile p).takeWhile p).length=(s.takeWhile p).length:=by rw [Cz]
 rw [h,List.take_left']
 rfl
theorem Qa3 {p:UInt8→Bool} (s:Qr7):(s.takeWhile p).length≤s.length:=by
 have:=congrArg List.length (Cz (p:=p) (l:=s))
 rw [C9] at this;omega
theorem YK (s:Qr7):(Qph s).length≤s.length:=by
 have:=congrArg List.length (Cz (p:=fun b:UInt8=>b==32) (l:=s))
 rw [C9] at this;unfold Qph;omega
theorem Y9 {c:UInt8} {t r:Qr7} (h:DJ c t=some r):t=c::r:=by
 cases t with
 | nil=>cases h
 | cons b t =>
  unfold DJ at h
  dsimp only at h
  split at h
  ·rename_i hb
   have:=Cw h
   subst this hb;rfl
  ·cases h
theorem ZN (c:UInt8) (t:Qr7):Lib.hasPrefix t [c]=(DJ c t).isSome∧Lib.trimPrefix t [c]=(DJ c t).getD t:=by
 unfold Lib.trimPrefix Lib.hasPrefix
 cases t with
 | nil=>exact ⟨rfl,rfl⟩
 | cons b t =>
  unfold DJ
  dsimp only
  by_cases h:b=c
  ·subst h
   rw [Cc rfl]
   simp [List.isPrefixOf]
  ·rw [C8 h]
   have:(c==b)=false:=by simpa using fun e=>h e.symm
   simp [List.isPrefixOf,this]
theorem D8 {t r:Qr7} {v:Nat} (h:Q1x t=some (v,r)):r.length < t.length∧r=t.drop (K6 t).length∧v=Qkw (K6 t)∧Qk4 (K6 t)=false:=by
 unfold Q1x at h
 split at h
 ·cases h
 ·rename_i hb
  cases h
  refine ⟨?_,rfl,rfl,by simpa using hb⟩
  have h1:(K6 t).length ≠ 0:=fun h0=>by simp [Qk4,h0] at hb
  have h2:(K6 t).length≤t.length:=Qa3 t
  rw [Cu];omega
theorem Qjf {neg:Bool} {t r:Qr7} {x:Lvl×Int} (h:Qhe neg t=some (x,r)):r.length < t.length:=by
 unfold Qhe at h
 split at h
 ·cases h
 ·rename_i n r1 h1
  have l1:=(D8 h1).1
  have l2:=YK r1
  split at h
  ·cases h;omega
  ·rename_i r2 h2
   have l3:=congrArg List.length (Y9 h2)
   rw [C2] at l3
   have l4:=YK r2
   split at h
   ·cases h
   ·rename_i p r3 h3
    have l5:=(D8 h3).1
    cases h;omega
theorem UY {t r:Qr7} {x:Lvl×Int} (h:Ga t=some (x,r)):r.length < t.length:=by
 unfold Ga at h
 split at h
 ·rename_i t' h1
  have l1:=congrArg List.length (Y9 h1)
  rw [C2] at l1
  have:=Qjf h;omega
 ·split at h
  ·rename_i t' h1
   have l1:=congrArg List.length (Y9 h1)
   rw [C2] at l1
   have:=Qjf h;omega
  ·split at h
   ·cases h
   ·rename_i n r1 h1
    cases h;exact (D8 h1).1
theorem Qbs:∀ (ds:Qr7) (acc:Nat),(∀ b∈ds,Qko b=true)→Lib.decFrom acc ds=some (ds.foldl (fun a b=>10 * a+(b.toNat - 48)) acc)
 | [],acc,_=>rfl
 | b::ds,acc,h=>by
  have hb:=h b Ch
  simp only [Qko,CD,CX] at hb
  have hd:Lib.digitVal b=some (b.toNat - 48):=by unfold Lib.digitVal;rw [Cc hb]
  unfold Lib.decFrom
  rw [hd]
  dsimp only
  rw [Qbs ds _ (fun c hc=>h c (Ci _ hc)),PI,SG acc 10]
theorem Qgd {s:Qr7}:∀ b∈K6 s,Qko b=true:=fun b hb=>by
 have:=Sy (p:=Qko) (l:=s)
 exact Cg.1 this b hb
theorem atoi_dig {s:Qr7} (h:K6 s ≠ []):Lib.atoi (K6 s)=some ((Qkw (K6 s):Nat):Int):=by
 have hd:=Qgd (s:=s)
 generalize K6 s=ds at h hd
 cases ds with
 | nil=>exact absurd rfl h
 | cons b ds =>
  have hb:=hd b Ch
  simp only [Qko,CD,CX] at hb
  unfold Lib.atoi
  dsimp only
  have h1:(b==45)=false:=by
   cases hc:(b==45) with
   | false=>rfl
   | true=>have:=eq_of_beq hc;subst this;exact absurd hb.1 (by decide)
  have h2:(b==43)=false:=by
   cases hc:(b==43) with
   | false=>rfl
   | true=>have:=eq_of_beq hc;subst this;exact absurd hb.1 (by decide)
  rw [h1,h2,C8 Cn,C8 Cn]
  unfold Lib.decNat
  rw [show (b::ds).isEmpty=false from rfl,C8 Cn,Qbs _ 0 hd]
  rfl
theorem Qjb {s:Qr7} {k:Nat} {b:UInt8} (h:s[k]?=some b):J0 s (k:Int)=some b:=h
theorem Qfz (b:UInt8):Qko b=(decide (48≤(b.toNat:Int))&&decide ((b.toNat:Int)≤57)):=by
 unfold Qko
 congr 1 <;> (apply Bool.eq_iff_iff.2;simp only [CX];omega)
theorem Qf2:∀ (ds:Qr7) (acc:Nat),(∀ b∈ds,Qko b=true)→ds.foldl (fun a b=>10 * a+(b.toNat - 48)) acc+1≤(acc+1) * 10 ^ ds.length
 | [],acc,_=>by simp
 | b::ds,acc,h=>by
  have hb:=h b Ch
  simp only [Qko,CD,CX] at hb
  rw [PI]
  refine Ca (Qf2 ds _ (fun c hc=>h c (Ci _ hc))) ?_
  rw [C2,Nat.pow_succ,SG _ 10,← Nat.mul_assoc]
  refine Pg _ ?_
  omega
theorem num_small {t r:Qr7} {v:Nat} (h:Q1x t=some (v,r)):v < 1000000:=by
 obtain ⟨-,-,h2,h3⟩:=D8 h
 have h4:=Qf2 (K6 t) 0 Qgd
 have h5:(K6 t).length≤6:=by
  simp [Qk4] at h3;omega
 have h6:10 ^ (K6 t).length≤10 ^ 6:=Nat.pow_le_pow_right (by decide) h5
 have h7:(10:Nat) ^ 6=1000000:=by decide
 unfold Qkw at h2
 omega
theorem Qb3 {s:Qr7} (hs:s.length≤100000):Qa (GD s) Qd 0=some ((K6 s).length:Int):=by
 refine Ku (fun i=>∃ k:Nat,i=(k:Int)∧k≤(K6 s).length) (fun i=>(K6 s).length - i.toNat) (fun _=>((K6 s).length:Int)) ?_ Qd 0 ⟨0,Z,Cp _⟩ ?_
 ·rintro i ⟨k,rfl,hk⟩
  have hle:(K6 s).length≤s.length:=Qa3 s
  unfold GD
  by_cases hlt:k < (K6 s).length
  ·obtain ⟨b,hb,hd⟩:=Qho s k hlt
   rw [Qfz] at hd
   simp only [CD] at hd
   right
   refine ⟨((k+1:Nat):Int),?_,⟨k+1,rfl,hlt⟩,by simp only [CN];omega,rfl⟩
   rw [C5 (by omega:(k:Int) < s.length),C7,Qjb hb]
   simp only [C1,hd.1,hd.2,C7]
   rw [Y2 (by omega) (by omega)];rfl
  ·have hk':k=(K6 s).length:=by omega
   subst hk'
   left
   cases hb:s[(K6 s).length]? with
   | none =>
    have:=Pr.1 hb
    rw [C6 (by omega:¬ ((K6 s).length:Int) < s.length)]
    rfl
   | some b =>
    have hd:=Qhp s b hb
    have:=(Cf.1 hb).1
    rw [C5 (by omega:((K6 s).length:Int) < s.length),C7,Qjb hb]
    rw [Qfz] at hd
    simp only [C1]
    cases h1:decide (48≤(b.toNat:Int)) with
    | false=>rfl
    | true =>
     rw [h1,Bool.true_and] at hd
     rw [hd];rfl
 ·have:(K6 s).length≤s.length:=Qa3 s
  show (K6 s).length - 0 < Qd
  unfold Qd;omega
theorem Q8k {s:Qr7} (hs:s.length≤100000) (bad:Bool) (e C:Int) (M:Qt):∃ x,YL s bad e C M=some x∧match Q1x s with
  | some (v,r)=>x=((v:Int),r,bad)
  | none=>x.2.2=true:=by
 have hle:(K6 s).length≤s.length:=Qa3 s
 unfold YL
 rw [Qb3 hs,C1]
 have g:(cond (decide (0≤((K6 s).length:Int))) (Nat.ble ((K6 s).length:Int).toNat s.length) false)=true:=by
  rw [C5 (by omega),C7];exact Q7i (by simpa using hle)
 rw [Gc g,Gc g,CN]
 have ht:s.take (K6 s).length=K6 s:=tw_take s
 rw [ht]
 unfold Q1x Qk4
 by_cases h0:(K6 s).length=0
 ·rw [show (((K6 s).length:Int)==0)=true by simpa using h0,C7]
  refine ⟨_,Z,?_⟩
  rw [Cc (by simp [h0])]
 ·rw [show (((K6 s).length:Int)==0)=false by simpa using h0,Cd]
  by_cases h6:6 < (K6 s).length
  ·rw [C5 (by omega:(6:Int) < (K6 s).length),C7]
   refine ⟨_,Z,?_⟩
   rw [Cc (by simp [h6])]
  ·rw [C6 (by omega:¬ (6:Int) < (K6 s).length),Cd]
   have hne:K6 s ≠ []:=fun h=>h0 (by rw [h];rfl)
   have ha:=atoi_dig hne
   obtain ⟨b,ds,hds⟩:∃ b ds,K6 s=b::ds:=by
    cases h:K6 s with
    | nil=>exact absurd h hne
    | cons b ds=>exact ⟨b,ds,rfl⟩
   have Qq8:(cond (Nat.ble (K6 s).length 18) (Lib.atoi (K6 s)).isSome false)=true:=by rw [Q7i (by omega),C7,ha];rfl
   have hi:J0 (K6 s) 0=some b:=by rw [hds];rfl
   have hh:(K6 s).head?=some b:=by rw [hds];rfl
   by_cases h1:1 < (K6 s).length
   ·rw [C5 (by omega:(1:Int) < (K6 s).length),C7,hi,hh]
    simp only [C1]
    by_cases hb:b=48
    ·subst hb
     refine ⟨_,Z,?_⟩
     rw [Cc (by simp [h1])]
    ·have e1:((b.toNat:Int)==48)=false:=by
      have:b.toNat ≠ 48:=fun e=>hb (So.1 e)
      simpa using fun e:(b.toNat:Int)=48=>this (by omega)
     rw [e1,Cd,Gc Qq8]
     refine ⟨_,Z,?_⟩
     rw [C8 (by simp [h0,h6,hb])]
     dsimp only
     unfold Q1k
     rw [ha];rfl
   ·rw [C6 (by omega:¬ (1:Int) < (K6 s).length),Cd,C1,Cd,Gc Qq8]
    refine ⟨_,Z,?_⟩
    rw [C8 (by simp [h0,h6,h1])]
    dsimp only
    unfold Q1k
    rw [ha];rfl
theorem Q3m (i n:Int):(Option.bind (cond (decide (i < (-65536))) (some true) (cond (decide (7 < i)) (some true) (some (decide (n < 0))))) (fun (v12:Bool)=>cond v12 (some (2,([]:List Qr1))) (cond (decide (100 < n)) (some (15,([]:List Qr1))) (some (0,[(i,n)])))):Option (Int×List Qr1))=some ((WQ i n).2,(WQ i n).1.vs)∧(WQ i n).1.c=0:=by
 unfold WQ
 by_cases h1:i < -65536
 ·simp [h1]
 ·by_cases h2:7 < i
  ·simp [h1,h2]
  ·by_cases h3:n < 0
   ·simp [h1,h2,h3]
   ·by_cases h4:100 < n
    ·simp [h1,h2,h3,h4]
    ·simp [h1,h2,h3,h4]
theorem Qiw (n:Int):(cond (decide (n < 0)) (some (2,0)) (cond (decide (100 < n)) (some (15,0)) (some (0,n))):Option (Int×Int))=some ((Qh1 n).2,(Qh1 n).1.c)∧(Qh1 n).1.vs=[]:=by
 unfold Qh1
 by_cases h3:n < 0
 ·simp [h3]
 ·by_cases h4:100 < n
  ·simp [h3,h4]
  ·simp [h3,h4]
structure PartOK (x:Lvl×Int):Prop where
 c:0≤x.1.c∧x.1.c≤100
 v:∀ y∈x.1.vs,Qoi y
 wf:WF x.1.vs
 tr:Z7 x.1=x.1
theorem Q7x (i n:Int):PartOK (WQ i n):=by
 unfold WQ
 split
 ·exact ⟨⟨(by show (0:Int)≤0;omega),(by show (0:Int)≤100;omega)⟩,(fun y hy=>by cases hy),DM,rfl⟩
 ·rename_i h
  split
  ·exact ⟨⟨(by show (0:Int)≤0;omega),(by show (0:Int)≤100;omega)⟩,(fun y hy=>by cases hy),DM,rfl⟩
  ·rename_i h2
   refine ⟨⟨(by show (0:Int)≤0;omega),(by show (0:Int)≤100;omega)⟩,(fun y hy=>?_),wf_one ⟨by omega,by omega⟩,?_⟩
   ·simp at hy;subst hy;exact ⟨by omega,by omega,by omega,by omega⟩
   ·unfold Z7;split <;> rfl
theorem Qm1 (i n:Int):PartOK (⟨0,(WQ i n).1.vs⟩,(WQ i n).2):=by
 have h:=Q7x i n
 have e:(WQ i n).1=⟨0,(WQ i n).1.vs⟩:=by
  have:=(Q3m i n).2
  generalize (WQ i n).1=L at this ⊢
  cases L;dsimp only at this ⊢;rw [this]
 exact ⟨⟨Int.le_refl _,(by show (0:Int)≤100;decide)⟩,h.v,h.wf,by show Z7 ⟨0,(WQ i n).1.vs⟩=_;rw [← e];exact h.tr⟩
theorem Qih (n:Int):PartOK (Qh1 n):=by
 unfold Qh1
 split
 ·exact ⟨⟨(by show (0:Int)≤0;omega),(by show (0:Int)≤100;omega)⟩,(fun y hy=>by cases hy),DM,rfl⟩
 ·split
  ·exact ⟨⟨(by show (0:Int)≤0;omega),(by show (0:Int)≤100;omega)⟩,(fun y hy=>by cases hy),DM,rfl⟩
  ·refine ⟨⟨by show (0:Int)≤n;omega,by show n≤100;omega⟩,(fun y hy=>by cases hy),DM,rfl⟩
theorem Qg4 {neg:Bool} {t r:Qr7} {x:Lvl×Int} (h:Qhe neg t=some (x,r)):PartOK x:=by
 unfold Qhe at h
 split at h
 ·cases h
 ·split at h
  ·cases h;exact Q7x _ _
  ·split at h
   ·cases h
   ·cases h;exact Q7x _ _
theorem Q88 {t r:Qr7} {x:Lvl×Int} (h:Ga t=some (x,r)):PartOK x:=by
 unfold Ga at h
 split at h
 ·exact Qg4 h
 ·split at h
  ·exact Qg4 h
  ·split at h
   ·cases h
   ·cases h;exact Qih _
theorem m71_eq {L:Lvl} (hL:PartOK (L,0)) (C:Int) (M:Qt):Xb L 0 C M=some (L.vs.foldl Q9u M):=by
 unfold Xb
 have hv:=hL.v
 have key:=Q70 (step:=Kr L 0) (l:=L.vs) Q9u (fun _ _=>True) (by have:=hL.wf.len;exact Ca this (by decide)) (fun k y s hy _=>by
  have hk:=(Cf.1 hy).1
  have hy':Qoi y:=hv y (Cs hy)
  refine ⟨?_,trivial⟩
  unfold Kr
  dsimp only
  rw [C5 (by omega:(k:Int) < L.vs.length),C7,Q2f (PT _) (by simpa using hy),C1]
  unfold Q8o
  rw [Y2 (n:=y.2+0) (by have:=hy'.2.2;omega) (by have:=hy'.2.2;omega),Int.add_zero,rz_stepM]
  rfl) (fun s _=>by unfold Kr;dsimp only;rw [C6 (by omega),Cd]) M trivial
 rw [key.1];rfl
theorem X9 (c:UInt8) (s:Qr7) (bad:Bool) (e C:Int) (M:Qt):Yh [c] s bad e C M=some ((DJ c s).getD s):=by
 unfold Yh
 obtain ⟨h1,h2⟩:=ZN c s
 rw [h1,h2]
 cases DJ c s <;> rfl
theorem Qis {t:Qr7} (ht:t.length≤100000) (e C:Int) (M:Qt):∃ x,W1 t false e C M=some x∧match Ga t with
  | some (L,r)=>x=(r,false,(if e=0 then L.2 else e),max C L.1.c,L.1.vs.foldl Q9u M)
  | none=>x.2.1=true:=by
 have fin:∀ (L:Lvl×Int) (r:Qr7) (bad:Bool),PartOK L→(Option.bind (cond (e==0) (some L.2) (some e)) fun v4=>Option.bind (Xb L.1 0 C M) fun x5=>some (r,bad,v4,max C (Qo (L.1.c+0)),x5))=some (r,bad,(if e=0 then L.2 else e),max C L.1.c,L.1.vs.foldl Q9u M):=by
  intro L r bad hL
  rw [m71_eq (L:=L.1) ⟨hL.c,hL.v,hL.wf,hL.tr⟩]
  have hc:=hL.c
  rw [Int.add_zero,Y2 (by omega) (by omega)]
  by_cases he:e=0
  ·rw [show (e==0)=true by simpa using he,Cc he];rfl
  ·rw [show (e==0)=false by simpa using he,C8 he];rfl
 have var:∀ (t':Qr7) (neg:Bool),t'.length≤100000→∃ y:Int×Int×List Qr1×Qr7×Bool×Int×List Qr1,(Option.bind (YL t' false e C M) fun x5=>Option.bind (cond neg (some (Qo (-1 - x5.1))) (some x5.1)) fun v6=>Option.bind (JH x5.2.1 x5.2.2 e C M) fun _ =>
   Option.bind (Yh [43] (x5.2.1.dropWhile (·==32)) x5.2.2 e C M) fun x8=>Option.bind (cond (Lib.hasPrefix (x5.2.1.dropWhile (·==32)) [43]) (Option.bind (JH x8 x5.2.2 e C M) fun _=>Option.bind (YL (x8.dropWhile (·==32)) x5.2.2 e C M) fun x12=>some (x12.1,x12.2.1,x12.2.2)) (some (0,x8,x5.2.2))) fun v9 =>
   Option.bind (Option.bind (cond (decide (v6 < (-65536))) (some true) (cond (decide (7 < v6)) (some true) (some (decide (v9.1 < 0))))) (fun (v12:Bool)=>cond v12 (some (2,([]:List Qr1))) (cond (decide (100 < v9.1)) (some (15,([]:List Qr1))) (some (0,[(v6,v9.1)]))))) (fun (y10:Int×(List Qr1))=>some (y10.1,0,y10.2,v9.2.1,v9.2.2,0,y10.2)))=some y∧match Qhe neg t' with
   | some (L,r)=>y=(L.2,L.1.c,L.1.vs,r,false,0,L.1.vs)
   | none=>y.2.2.2.2.1=true∧PartOK (⟨y.2.1,y.2.2.1⟩,y.1):=by
  intro t' neg ht'
  obtain ⟨x5,h5,h5'⟩:=Q8k ht' false e C M
  rw [h5,C1]
  unfold Qhe
  have e6:∀ z:Int,∃ v6,(cond neg (some (Qo (-1 - z))) (some z):Option Int)=some v6:=fun z=>by cases neg <;> exact ⟨_,rfl⟩
  cases hn:Q1x t' with
  | none =>
   rw [hn] at h5'
   have hb:x5.2.2=true:=h5'
   obtain ⟨v6,hv6⟩:=e6 x5.1
   rw [hv6,C1]
   unfold JH
   simp only [C1]
   rw [X9,C1,(ZN 43 _).1,hb]
   cases ht43:DJ 43 (x5.2.1.dropWhile (·==32)) with
   | none =>
    simp only [P2,Cd,C1]
    rw [(Q3m _ _).1]
    exact ⟨_,Z,Z,Qm1 _ _⟩
   | some r2 =>
    simp only [Pw,C7,C1,Pv]
    have key:∃ z,YL (r2.dropWhile (·==32)) true e C M=some z∧z.2.2=true:=by
     by_cases hl:(r2.dropWhile (·==32)).length≤100000
     ·obtain ⟨z,hz,hz'⟩:=Q8k hl true e C M
      refine ⟨z,hz,?_⟩
      cases hq:Q1x (r2.dropWhile (·==32)) with
      | none=>rw [hq] at hz';exact hz'
      | some q=>rw [hq] at hz';dsimp only at hz';rw [hz']
     ·exact (hl (by
       have a1:=YK r2
       have a2:=congrArg List.length (Y9 ht43)
       rw [C2] at a2
       have a3:=YK x5.2.1
       have a4:x5.2.1.length≤t'.length:=by
        unfold YL at h5
        rw [Qb3 ht',C1] at h5
        have g:(cond (decide (0≤((K6 t').length:Int))) (Nat.ble ((K6 t').length:Int).toNat t'.length) false)=true:=by
         rw [C5 (by omega),C7];exact Q7i (by rw [CN];exact Qa3 t')
        rw [Gc g,Gc g] at h5
        obtain ⟨v4,-,h5⟩:=YS h5
        cases v4 with
        | true=>cases h5;simp
        | false =>
         simp only [Cd] at h5
         obtain ⟨-,h5⟩:=KM h5
         cases h5;simp
       unfold Qph at a1 a3
       omega)).elim
    obtain ⟨z,hz,hz'⟩:=key
    rw [hz]
    simp only [C1]
    rw [(Q3m _ _).1]
    exact ⟨_,Z,hz',Qm1 _ _⟩
  | some p =>
   obtain ⟨n,r⟩:=p
   rw [hn] at h5'
   dsimp only at h5' ⊢
   subst h5'
   have hr:=D8 hn
   dsimp only
   have e7:(cond neg (some (Qo (-1 - (n:Int)))) (some (n:Int)):Option Int)=some (if neg then -1 - (n:Int) else n):=by
    cases neg with
    | false=>rfl
    | true =>
     have hbig:=num_small hn
     rw [Cc rfl,C7,Y2 (by omega) (by omega)]
   rw [e7,C1]
   unfold JH
   simp only [C1]
   rw [X9,C1,(ZN 43 _).1]
   show ∃ y,_∧_
   cases ht43:DJ 43 (r.dropWhile (·==32)) with
   | none =>
    have ht43':DJ 43 (Qph r)=none:=ht43
    rw [ht43']
    simp only [P2,Cd,C1,Option.getD_none]
    rw [(Q3m _ _).1]
    exact ⟨_,rfl,by rw [(Q3m _ _).2];rfl⟩
   | some r2 =>
    have ht43':DJ 43 (Qph r)=some r2:=ht43
    rw [ht43']
    simp only [Pw,C7,C1,Pv]
    have hl:(Qph r2).length≤100000:=by
     have a1:=YK r2
     have a2:=congrArg List.length (Y9 ht43')
     rw [C2] at a2
     have a3:=YK r
     omega
    obtain ⟨z,hz,hz'⟩:=Q8k hl false e C M
    have hz2:YL (r2.dropWhile (·==32)) false e C M=some z:=hz
    rw [hz2]
    simp only [C1]
    rw [(Q3m _ _).1]
    cases hq:Q1x (Qph r2) with
    | none=>rw [hq] at hz';exact ⟨_,rfl,hz',Qm1 _ _⟩
    | some q =>
     obtain ⟨q1,q2⟩:=q
     rw [hq] at hz'
     dsimp only at hz'
     subst hz'
     exact ⟨_,rfl,by dsimp only;rw [(Q3m _ _).2]⟩
 unfold W1 Ga
 rw [X9,C1,(ZN 117 t).1]
 cases h117:DJ 117 t with
 | some t' =>
  have hl:t'.length≤100000:=by
   have a2:=congrArg List.length (Y9 h117)
   rw [C2] at a2;omega
  obtain ⟨y,hy,hy'⟩:=var t' false hl
  simp only [Pw,C7,C1,Pv,PO]
  rw [hy,C1]
  cases hg:Qhe false t' with
  | none =>
   rw [hg] at hy'
   rw [show (⟨y.2.1,y.2.2.1⟩:Lvl)=(((⟨y.2.1,y.2.2.1⟩:Lvl),y.1):Lvl×Int).1 from rfl]
   have:=fin (⟨y.2.1,y.2.2.1⟩,y.1) y.2.2.2.1 y.2.2.2.2.1 hy'.2
   exact ⟨_,this,hy'.1⟩
  | some q =>
   rw [hg] at hy'
   obtain ⟨L,r⟩:=q
   dsimp only at hy' ⊢
   subst hy'
   exact ⟨_,fin L r false (Qg4 hg),Z⟩
 | none =>
  simp only [P2,Cd,Option.getD_none,S7]
  rw [X9,(ZN 63 t).1]
  cases h63:DJ 63 t with
  | some t' =>
   have hl:t'.length≤100000:=by
    have a2:=congrArg List.length (Y9 h63)
    rw [C2] at a2;omega
   obtain ⟨y,hy,hy'⟩:=var t' true hl
   simp only [Pw,C7,C1,Pv]
   simp only [C7,C1] at hy
   rw [hy,C1]
   cases hg:Qhe true t' with
   | none =>
    rw [hg] at hy'
    have:=fin (⟨y.2.1,y.2.2.1⟩,y.1) y.2.2.2.1 y.2.2.2.2.1 hy'.2
    exact ⟨_,this,hy'.1⟩
   | some q =>
    rw [hg] at hy'
    obtain ⟨L,r⟩:=q
    dsimp only at hy' ⊢
    subst hy'
    exact ⟨_,fin L r false (Qg4 hg),Z⟩
  | none =>
   simp only [P2,Cd,C1,Option.getD_none]
   obtain ⟨x5,h5,h5'⟩:=Q8k ht false e C M
   rw [h5]
   simp only [C1]
   rw [(Qiw _).1]
   simp only [C1]
   have:=fin (Qh1 x5.1) x5.2.1 x5.2.2 (Qih _)
   have e9:Qh1 x5.1=(⟨(Qh1 x5.1).1.c,[]⟩,(Qh1 x5.1).2):=by
    have h9:=(Qiw x5.1).2
    generalize Qh1 x5.1=o9 at h9 ⊢
    obtain ⟨⟨c9,v9⟩,z9⟩:=o9
    have h9:v9=[]:=h9
    rw [h9]
   rw [e9] at this
   refine ⟨_,this,?_⟩
   cases hn:Q1x t with
   | none=>rw [hn] at h5';exact h5'
   | some q=>rw [hn] at h5';dsimp only at h5' ⊢;subst h5';dsimp only;rw [(Qiw _).2]
def Qg8 (M:Qt) (xs:List (Lvl×Int)):Qt:=xs.foldl (fun M x=>x.1.vs.foldl Q9u M) M
def Wf (C:Int) (xs:List (Lvl×Int)):Int:=xs.foldl (fun C x=>max C x.1.c) C
theorem Q5y:∀ (n:Nat) (t:Qr7) (M:Qt) (C e:Int) (fuel:Nat),t.length < n→t.length≤100000→n+2≤fuel→∃ o,Qa ZQ fuel (true,M,C,t,false,e)=some o∧match Xw n t with
  | some (xs,r)=>o=(Qg8 M xs,Wf C xs,r,false,Gq e xs)
  | none=>o.2.2.2.1=true
 | 0,t,M,C,e,fuel,h,_,_=>by omega
 | n+1,t,M,C,e,fuel,h,hl,hf=>by
  obtain ⟨f,rfl⟩:∃ f,fuel=f+1:=⟨fuel - 1,by omega⟩
  have a1:=YK t
  obtain ⟨x,hx,hx'⟩:=Qis (t:=Qph t) (by omega) e C M
  have hx2:W1 (t.dropWhile (·==32)) false e C M=some x:=hx
  have step:ZQ (true,M,C,t,false,e)=some (.next ((DJ 44 (Qph x.1)).isSome,x.2.2.2.2,x.2.2.2.1,(DJ 44 (Qph x.1)).getD (Qph x.1),x.2.1,x.2.2.1)):=by
   unfold ZQ JH
   simp only [C7,S7,C1]
   rw [hx2,C1]
   have e1:=X9 44 (x.1.dropWhile (·==32)) x.2.1 x.2.2.1 x.2.2.2.1 x.2.2.2.2
   rw [e1,C1,(ZN 44 _).1]
   rfl
  rw [Qa,step]
  dsimp only
  unfold Xw
  have stop:∀ (more:Bool) (M':Qt) (C':Int) (r:Qr7) (e':Int),Qa ZQ f (more,M',C',r,true,e')=some (M',C',r,true,e'):=fun more M' C' r e'=>by
   obtain ⟨f',rfl⟩:∃ f',f=f'+1:=⟨f - 1,by omega⟩
   rw [Qa]
   unfold ZQ
   cases more <;> rfl
  cases hp:Ga (Qph t) with
  | none =>
   rw [hp] at hx'
   have hb:x.2.1=true:=hx'
   rw [hb,stop]
   exact ⟨_,Z,Z⟩
  | some q =>
   obtain ⟨L,r⟩:=q
   rw [hp] at hx'
   dsimp only at hx' ⊢
   subst hx'
   dsimp only
   have l1:=UY hp
   have l2:=YK r
   cases h44:DJ 44 (Qph r) with
   | none =>
    obtain ⟨f',rfl⟩:∃ f',f=f'+1:=⟨f - 1,by omega⟩
    rw [Qa]
    refine ⟨(L.1.vs.foldl Q9u M,max C L.1.c,Qph r,false,if e=0 then L.2 else e),?_,Z⟩
    unfold ZQ
    rfl
   | some r2 =>
    have l3:=congrArg List.length (Y9 h44)
    rw [C2] at l3
    obtain ⟨o,ho,ho'⟩:=Q5y n r2 (L.1.vs.foldl Q9u M) (max C L.1.c) (if e=0 then L.2 else e) f (by omega) (by omega) (by omega)
    refine ⟨o,ho,?_⟩
    dsimp only
    cases hr:Xw n r2 with
    | none=>rw [hr] at ho';exact ho'
    | some q =>
     rw [hr] at ho'
     exact ho'
theorem Qa7:∀ (xs:List (Lvl×Int)) (M:Qt) (C:Int) (vs:List Qr1),(∀ x∈xs,PartOK x)→RMap M vs→GoodL ⟨C,vs⟩→C≤100→(∀ y∈vs,y.2≤100) →
  ∃ vs',RMap (Qg8 M xs) vs'∧GoodL ⟨Wf C xs,vs'⟩∧Wf C xs≤100∧(∀ y∈vs',y.2≤100)∧Wa (Z7 ⟨C,vs⟩) xs=Z7 ⟨Wf C xs,vs'⟩
 | [],M,C,vs,_,h1,h2,h3,h4=>⟨vs,h1,h2,h3,h4,rfl⟩
 | x::xs,M,C,vs,hx,h1,h2,h3,h4=>by
  have p:=hx x Ch
  have gx:GoodL x.1:=⟨p.wf,p.c.1,fun y hy=>(p.v y hy).2.2.1⟩
  have g:=good_merge h2 gx
  have e:Q3z (Z7 ⟨C,vs⟩) x.1=Z7 ⟨max C x.1.c,Ja vs x.1.vs⟩:=by
   rw [Q99,trim_vs,Qea h2.c h2.v,Qea g.c g.v]
   have hmono:YY 0 vs≤YY 0 (Ja vs x.1.vs):=topOf_mono fun y hy=>by
    obtain ⟨z,hz,-,h⟩:=merge_ge_l h2.wf p.wf hy
    exact ⟨z,hz,h⟩
   rw [trimC_more h2.c p.c.1 merge_ne_l hmono]
  have:=Qa7 xs (x.1.vs.foldl Q9u M) (max C x.1.c) (Ja vs x.1.vs) (fun y hy=>hx y (Ci _ hy)) (h1.merge p.wf) g (by have:=p.c.2;omega) (fun y hy=>(Q6a h2.wf p.wf hy).elim (h4 y) fun h=>(p.v y h).2.2.2)
  obtain ⟨vs',b1,b2,b3,b4,b5⟩:=this
  refine ⟨vs',b1,b2,b3,b4,?_⟩
  show Wa (Q3z (Z7 ⟨C,vs⟩) x.1) xs=_
  rw [e];exact b5
theorem sum_all {x:Lvl×Int} {xs:List (Lvl×Int)} (hx:∀ y∈x::xs,PartOK y):∃ vs',RMap (Qg8 imNil (x::xs)) vs'∧GoodL ⟨Wf 0 (x::xs),vs'⟩∧Wf 0 (x::xs)≤100∧(∀ y∈vs',y.2≤100)∧Wa x.1 xs=Z7 ⟨Wf 0 (x::xs),vs'⟩:=by
 have p:=hx x Ch
 have gx:GoodL x.1:=⟨p.wf,p.c.1,fun y hy=>(p.v y hy).2.2.1⟩
 have h:=Qa7 xs (x.1.vs.foldl Q9u imNil) x.1.c x.1.vs (fun y hy=>hx y (Ci _ hy)) (by have:=RMap.nil.merge p.wf;rw [Zd] at this;exact this) gx p.c.2 (fun y hy=>(p.v y hy).2.2.2)
 have e1:Z7 ⟨x.1.c,x.1.vs⟩=x.1:=p.tr
 rw [e1] at h
 have e2:Wf 0 (x::xs)=Wf x.1.c xs:=by
  show Wf (max 0 x.1.c) xs=_
  have:=p.c.1
  rw [show max 0 x.1.c=x.1.c by omega]
 rw [e2]
 exact h
theorem m211_loop (C:Int) (vs:List Qr1) (hlen:vs.length≤100000):∃ o,Qa (Yr vs C vs) Qd 0=some o∧(Q4p C vs=true↔∃ i:Nat,o=.inr (i:Int))∧(Q4p C vs=false→o=.inl ()):=by
 have key:=Ys (step:=Yr vs C vs) vs (fun i (_:Unit)=>i) (fun a _=>Q4p C a=false) (fun o=>(Q4p C vs=true↔∃ i:Nat,o=.inr (i:Int))∧(Q4p C vs=false→o=.inl ())) (by omega)
  (fun a x b s e hI=>by
   have hs:Yr vs C vs (a.length:Int)=cond (decide (C≤x.2)) (some (.done (.inr (a.length:Int)))) (some (.next (Qo ((a.length:Int)+1)))):=by
    unfold Yr Q2c
    rw [e,Gm,Zh];rfl
   rw [hs]
   cases hd:decide (C≤x.2) with
   | true =>
    have hc:Q4p C vs=true:=by unfold Q4p;rw [e];exact CS.2 ⟨x,by simp,hd⟩
    exact .inl ⟨_,rfl,⟨fun _=>⟨a.length,rfl⟩,fun _=>hc⟩,fun h=>by rw [hc] at h;cases h⟩
   | false =>
    refine .inr ⟨(),Z,?_⟩
    unfold Q4p at hI ⊢
    rw [List.any_append,hI]
    simp [hd])
  (fun s hI=>by
   refine ⟨.inl (),by unfold Yr;rw [JA];rfl,?_,fun _=>rfl⟩
   rw [hI]
   constructor
   ·intro h;cases h
   ·rintro ⟨i,h⟩;cases h) () rfl
 exact key
theorem m183_eq {C:Int} {vs:List Qr1} (hlen:vs.length≤100000) (h3:C≤100) (h4:∀ y∈vs,y.2≤100):Q00 C vs=some (0,(Z7 ⟨C,vs⟩).c,(Z7 ⟨C,vs⟩).vs):=by
 have l0:Qa (ZB vs) Qd 0=some (.inl ()):=by
  have key:=Ys (step:=ZB vs) vs (fun i (_:Unit)=>i) (fun _ _=>True) (fun o=>o=.inl ()) (by omega)
   (fun a x b s e _=>by
    have hx:x.2≤100:=h4 x (by rw [e];simp)
    refine .inr ⟨(),?_,trivial⟩
    unfold ZB
    rw [e,Gm,Zh,C7,C1,C6 (by omega)];rfl)
   (fun s _=>⟨_,by unfold ZB;rw [JA];rfl,rfl⟩) () trivial
  obtain ⟨o,h1,h2⟩:=key
  rw [h1,h2]
 unfold Q00
 rw [l0]
 show (cond (decide (100 < C)) _ _:Option (Int×Int×List Qr1))=_
 rw [C6 (by omega),Cd]
 obtain ⟨o,h1,h2,h5⟩:=m211_loop C vs hlen
 unfold Q3n Q2d Q2b Z7
 rw [h1]
 cases hc:Q4p C vs with
 | true =>
  obtain ⟨i,rfl⟩:=h2.1 hc
  rw [Cc rfl]
  dsimp only [Option.bind_some,Sum.elim_inr]
  rw [C5 (by omega:(0:Int)≤(i:Int))];rfl
 | false =>
  rw [h5 hc,C8 Cn];rfl
theorem m56_eq {C:Int} {M:Qt} {vs:List Qr1} (h:RMap M vs) (hg:GoodL ⟨C,vs⟩) (h3:C≤100) (h4:∀ y∈vs,y.2≤100):XZ C M=some (0,(Z7 ⟨C,vs⟩).c,(Z7 ⟨C,vs⟩).vs):=by
 have h2:=h.ok.2
 have hlen:(JC M).length≤100000:=by
  have:=h.wf.len
  rw [← h2,Cm] at this;exact this
 have key:=Q70 (step:=Ks M) (l:=JC M) (fun out k=>out++[(k,YI M k)]) (fun k s=>s.length=k) (by omega) (fun k y s hy hs=>by
  have hk:=(Cf.1 hy).1
  refine ⟨?_,by simp [hs]⟩
  unfold Ks
  dsimp only
  rw [C5 (by omega:(k:Int) < (JC M).length),C7,Q2f (PT _) (by simpa using hy),C1,Gc (Q7i (by simp;omega))]) (fun s _=>by unfold Ks;dsimp only;rw [C6 (by omega),Cd]) [] rfl
 unfold XZ Q8p
 rw [C1,Gc h.ok.1,key.1,Q46,P7,h2,C1,m183_eq h.wf.len h3 h4];rfl
theorem Qem:∀ (n:Nat) (t:Qr7) (xs:List (Lvl×Int)) (r:Qr7),Xw n t=some (xs,r)→(∀ x∈xs,PartOK x)∧xs ≠ []∧r.length≤t.length
 | 0,t,xs,r,h=>by cases h
 | n+1,t,xs,r,h=>by
  unfold Xw at h
  cases hp:Ga (Qph t) with
  | none=>rw [hp] at h;cases h
  | some q =>
   obtain ⟨x,r1⟩:=q
   rw [hp] at h
   dsimp only at h
   have l1:=UY hp
   have l2:=YK t
   have l3:=YK r1
   cases h44:DJ 44 (Qph r1) with
   | none =>
    rw [h44] at h
    cases h
    exact ⟨fun y hy=>by simp at hy;subst hy;exact Q88 hp,by simp,by omega⟩
   | some r2 =>
    rw [h44] at h
    dsimp only at h
    have l4:=congrArg List.length (Y9 h44)
    rw [C2] at l4
    cases hr:Xw n r2 with
    | none=>rw [hr] at h;cases h
    | some q =>
     obtain ⟨xs',r3⟩:=q
     rw [hr] at h
     cases h
     obtain ⟨a1,-,a3⟩:=Qem n r2 xs' r hr
     refine ⟨fun y hy=>?_,by simp,by omega⟩
     rcases Cq.1 hy with rfl | hy
     ·exact Q88 hp
     ·exact a1 y hy
theorem eq_nil (t:Qr7):(t==([]:Qr7))=t.isEmpty:=by cases t <;> rfl
theorem Qam {x:Lvl×Int} {xs:List (Lvl×Int)} (hx:∀ y∈x::xs,PartOK y) (r:Qr7) :
  (Option.bind (cond false (some true) (some (!((r.dropWhile (·==32))==([]:Qr7))))) fun v8=>cond v8 (some ((⟨0,[]⟩:Lvl),(4:Int))) (cond (Gq 0 (x::xs) != 0) (some ((⟨0,[]⟩:Lvl),Gq 0 (x::xs))) (Option.bind (XZ (Wf 0 (x::xs)) (Qg8 imNil (x::xs))) fun x11=>some ((⟨x11.2.1,x11.2.2⟩:Lvl),x11.1)))) =
  some (if Qph r=[] then (if Gq 0 (x::xs)=0 then (Wa x.1 xs,0) else (⟨0,[]⟩,Gq 0 (x::xs))) else (⟨0,[]⟩,4)):=by
 rw [Cd,C1]
 have e0:(r.dropWhile (·==32))=Qph r:=rfl
 rw [e0,eq_nil]
 cases h:Qph r with
 | cons a b=>rfl
 | nil =>
  rw [show (!(([]:Qr7)).isEmpty)=false from rfl,Cd,Cc rfl]
  by_cases he:Gq 0 (x::xs)=0
  ·rw [Cc he,show (Gq 0 (x::xs) != 0)=false by simp [he],Cd]
   obtain ⟨vs,b1,b2,b3,b4,b5⟩:=sum_all hx
   rw [m56_eq b1 b2 b3 b4,b5]
   rfl
  ·rw [C8 he,show (Gq 0 (x::xs) != 0)=true by simp [he],C7]
theorem m54_pre (p s:Qr7) (bad:Bool) (e C:Int) (M:Qt):Yh p s bad e C M=some (Lib.trimPrefix s p):=by
 unfold Yh Lib.trimPrefix
 cases Lib.hasPrefix s p <;> rfl
theorem m127_eq {s:Qr7} (hs:s.length≤65536):Da s=some (Q5f s):=by
 unfold Da Q5f Q89 JH
 rw [C6 (by omega:¬ (65536:Int) < s.length),Cd]
 simp only [C1]
 rw [m54_pre,C1]
 have e0:(s.dropWhile (·==32))=Qph s:=rfl
 rw [e0]
 have l0:=YK s
 cases hp:Lib.hasPrefix (Qph s) [109,97,120] with
 | true =>
  rw [Cc rfl,C7,X9,C1]
  have e1:Lib.trimPrefix (Qph s) [109,97,120]=(Qph s).drop 3:=by unfold Lib.trimPrefix;rw [hp,Cc rfl];rfl
  rw [e1]
  have e2:(((Qph s).drop 3).dropWhile (·==32))=Qph ((Qph s).drop 3):=rfl
  rw [e2,(ZN 40 _).1]
  have l1:=YK ((Qph s).drop 3)
  rw [Cu] at l1
  cases h40:DJ 40 (Qph ((Qph s).drop 3)) with
  | none =>
   simp only [P2,S7]
   have:Qa ZQ Qd (true,imNil,0,(none:Option Qr7).getD (Qph ((Qph s).drop 3)),true,0)=some (imNil,0,(none:Option Qr7).getD (Qph ((Qph s).drop 3)),true,0):=by
    unfold Qd
    rw [Qa]
    rfl
   rw [this,C1]
   dsimp only
   rw [X9,C1,(ZN 41 _).1]
   cases DJ 41 ((none:Option Qr7).getD (Qph ((Qph s).drop 3))) <;> rfl
  | some t =>
   have l2:=congrArg List.length (Y9 h40)
   rw [C2] at l2
   simp only [Pw,PO,Pv]
   obtain ⟨o,ho,ho'⟩:=Q5y (s.length+1) t imNil 0 0 Qd (by omega) (by omega) (by unfold Qd;omega)
   rw [ho,C1]
   cases hr:Xw (s.length+1) t with
   | none =>
    rw [hr] at ho'
    have hb:o.2.2.2.1=true:=ho'
    rw [X9,C1,(ZN 41 _).1,hb]
    cases DJ 41 o.2.2.1 <;> rfl
   | some q =>
    obtain ⟨xs,r⟩:=q
    rw [hr] at ho'
    dsimp only at ho' ⊢
    subst ho'
    dsimp only
    rw [X9,C1,(ZN 41 _).1]
    obtain ⟨a1,a2,a3⟩:=Qem _ _ _ _ hr
    cases h41:DJ 41 r with
    | none=>rfl
    | some r2 =>
     simp only [Pw,PO,Cd,C1,Pv]
     cases xs with
     | nil=>exact absurd rfl a2
     | cons x xs =>
      have:=Qam a1 r2
      simp only [Cd,C1] at this
      rw [this]
      by_cases h:Qph r2=[]
      ·rw [Cc h,Cc h]
      ·rw [C8 h,C8 h]
 | false =>
  rw [C8 Cn,Cd]
  have e1:Lib.trimPrefix (Qph s) [109,97,120]=Qph s:=by unfold Lib.trimPrefix;rw [hp,C8 Cn]
  rw [e1]
  obtain ⟨x,hx,hx'⟩:=Qis (t:=Qph s) (by omega) 0 0 imNil
  rw [hx]
  simp only [C1]
  cases hq:Ga (Qph s) with
  | none =>
   rw [hq] at hx'
   have hb:x.2.1=true:=hx'
   rw [hb];rfl
  | some q =>
   obtain ⟨L,r⟩:=q
   rw [hq] at hx'
   dsimp only at hx' ⊢
   subst hx'
   dsimp only
   refine Eq.trans (Qam (x:=L) (xs:=[]) (fun y hy=>by simp at hy;subst hy;exact Q88 hq) r) ?_
   by_cases h:Qph r=[]
   ·rw [Cc h,Cc h]
   ·rw [C8 h,C8 h]
theorem WA:∀ (n:Nat) (a b:List Qr1),a.length+b.length≤n→(Ja a b).length≤a.length+b.length
 | _,[],b,_=>by rw [Zd];simp
 | _,x::a,[],_=>by rw [Zc];simp
 | 0,x::a,y::b,h=>by simp at h
 | n+1,x::a,y::b,h=>by
  simp only [C2] at h
  rw [Ja]
  split
  ·have:=WA n a (y::b) (by simp only [C2];omega)
   simp only [C2] at this ⊢;omega
  ·split
   ·have:=WA n (x::a) b (by simp only [C2];omega)
    simp only [C2] at this ⊢;omega
   ·have:=WA n a b (by omega)
    simp only [C2];omega
theorem Q6v:∀ (xs:List (Lvl×Int)) (o:Lvl),(∀ x∈xs,x.1.vs.length≤1)→(Wa o xs).vs.length≤o.vs.length+xs.length
 | [],o,_=>Ck _
 | x::xs,o,h=>by
  have h1:=Q6v xs (Q3z o x.1) fun y hy=>h y (Ci _ hy)
  have h2:=WA _ o.vs x.1.vs (Ck _)
  have h3:=h x Ch
  rw [Q99] at h1
  show (Wa (Q3z o x.1) xs).vs.length≤_
  rw [Q99]
  dsimp only at h1 ⊢
  rw [C2];omega
theorem Qa1 (i n:Int):(WQ i n).1.vs.length≤1:=by
 unfold WQ
 split
 ·exact Cp _
 ·split
  ·exact Cp _
  ·exact Ck _
theorem Qje {neg:Bool} {t r:Qr7} {x:Lvl×Int} (h:Qhe neg t=some (x,r)):x.1.vs.length≤1:=by
 unfold Qhe at h
 split at h
 ·cases h
 ·split at h
  ·cases h;exact Qa1 _ _
  ·split at h
   ·cases h
   ·cases h;exact Qa1 _ _
theorem DU {t r:Qr7} {x:Lvl×Int} (h:Ga t=some (x,r)):x.1.vs.length≤1:=by
 unfold Ga at h
 split at h
 ·exact Qje h
 ·split at h
  ·exact Qje h
  ·split at h
   ·cases h
   ·cases h
    unfold Qh1
    split
    ·exact Cp _
    ·split <;> exact Cp _
theorem Qac:∀ (n:Nat) (t:Qr7) (xs:List (Lvl×Int)) (r:Qr7),Xw n t=some (xs,r)→(∀ x∈xs,x.1.vs.length≤1)∧xs.length≤t.length
 | 0,t,xs,r,h=>by cases h
 | n+1,t,xs,r,h=>by
  unfold Xw at h
  cases hp:Ga (Qph t) with
  | none=>rw [hp] at h;cases h
  | some q =>
   obtain ⟨x,r1⟩:=q
   rw [hp] at h
   dsimp only at h
   have l1:=UY hp
   have l2:=YK t
   have l3:=YK r1
   cases h44:DJ 44 (Qph r1) with
   | none =>
    rw [h44] at h
    cases h
    exact ⟨fun y hy=>by simp at hy;subst hy;exact DU hp,by simp only [C2,Ce];omega⟩
   | some r2 =>
    rw [h44] at h
    dsimp only at h
    have l4:=congrArg List.length (Y9 h44)
    rw [C2] at l4
    cases hr:Xw n r2 with
    | none=>rw [hr] at h;cases h
    | some q =>
     obtain ⟨xs',r3⟩:=q
     rw [hr] at h
     cases h
     obtain ⟨a1,a3⟩:=Qac n r2 xs' r hr
     refine ⟨fun y hy=>?_,by rw [C2];omega⟩
     rcases Cq.1 hy with rfl | hy
     ·exact DU hp
     ·exact a1 y hy
theorem resP_len (s:Qr7):(Q5f s).1.vs.length≤s.length:=by
 unfold Q5f
 cases hp:Q89 s with
 | none=>exact Cp _
 | some l =>
  cases l with
  | nil=>exact Cp _
  | cons x xs =>
   dsimp only
   split
   ·have hx:(∀ y∈x::xs,y.1.vs.length≤1)∧(x::xs).length≤s.length:=by
     have l0:=YK s
     unfold Q89 at hp
     split at hp
     ·split at hp
      ·cases hp
      ·rename_i t h40
       have l1:=congrArg List.length (Y9 h40)
       have l2:=YK ((Qph s).drop 3)
       rw [Cu] at l2
       rw [C2] at l1
       split at hp
       ·cases hp
       ·rename_i hr
        split at hp
        ·cases hp
        ·split at hp
         ·cases hp
          obtain ⟨h1,h2⟩:=Qac _ _ _ _ hr
          exact ⟨h1,by omega⟩
         ·cases hp
     ·split at hp
      ·cases hp
      ·rename_i hq
       split at hp
       ·cases hp
        have l1:=UY hq
        refine ⟨fun y hy=>?_,by simp only [C2,Ce];omega⟩
        simp at hy;subst hy;exact DU hq
       ·cases hp
    have h1:=Q6v xs x.1 fun y hy=>hx.1 y (Ci _ hy)
    have h2:=hx.1 x Ch
    have h3:=hx.2
    rw [C2] at h3
    show (Wa x.1 xs).vs.length≤_
    omega
   ·exact Cp _
end
noncomputable section
open Go.RowKit
set_option maxRecDepth 100000
def m88 (a0:List Qr1) (a1:List Qr1):Option (Bool) :=
 cond (((a0.length:Int) != (a1.length:Int))) (some false) (Option.bind (Qa (σ:=Int) (β:=Unit⊕Bool) (fun s3=>cond ((decide (s3 < (a0.length:Int)))) (Option.bind (J0 a0 s3) fun (x5:Qr1)=>Option.bind (J0 a1 s3) fun (x6:Qr1)=>cond ((!((x5.1==x6.1)&&(x5.2==x6.2)))) (some (.done (.inr false))) (some (.next (Qo (s3+1))))) (some (.done (.inl ())))) Qd 0) (Sum.elim (fun (v4:Unit)=>some true) (fun (o7:Bool)=>some o7)))
def m42 (a0:Lvl) (a1:Lvl):Option (Bool) :=
 Option.bind (cond ((a0.c==a1.c)) (Option.bind (m88 a0.vs a1.vs) fun (x3:Bool)=>some x3) (some false)) fun (v2:Bool)=>some v2
def m19s (rc:Tm×Tm→Option (Bool)) (a0:Tm) (a1:Tm):Option (Bool) :=
 Option.bind (cond ((a0.kind==a1.kind)) (cond ((a0.index==a1.index)) (cond ((a0.name==a1.name)) (Option.bind (cond (((a0.levels.length:Int) != (a1.levels.length:Int))) (some false) (Option.bind (Qa (σ:=Int) (β:=Unit⊕Bool) (fun s26=>cond ((decide (s26 < (a0.levels.length:Int)))) (Option.bind (J0 a0.levels s26) fun (x28:Lvl)=>Option.bind (J0 a1.levels s26) fun (x29:Lvl)=>Option.bind (m42 x28 x29) fun (x30:Bool)=>cond ((!x30)) (some (.done (.inr false))) (some (.next (Qo (s26+1))))) (some (.done (.inl ())))) Qd 0) (Sum.elim (fun (v27:Unit)=>some true) (fun (o31:Bool)=>some o31)))) fun (v22:Bool)=>cond v22 (Option.bind (cond (((a0.kids.length:Int) != (a1.kids.length:Int))) (some false) (Option.bind (Qa (σ:=Int) (β:=Unit⊕Bool) (fun s36=>cond ((decide (s36 < (a0.kids.length:Int)))) (Option.bind (J0 a0.kids s36) fun (x38:Tm)=>Option.bind (J0 a1.kids s36) fun (x39:Tm)=>Option.bind (rc (x38,x39)) fun (x40:Bool)=>cond ((!x40)) (some (.done (.inr false))) (some (.next (Qo (s36+1))))) (some (.done (.inl ())))) Qd 0) (Sum.elim (fun (v37:Unit)=>some true) (fun (o41:Bool)=>some o41)))) fun (v32:Bool)=>some v32) (some false)) (some false)) (some false)) (some false)) fun (v21:Bool)=>some v21
def m19r:Tm×Tm→Option (Bool):=Jz (fun rc v=>m19s rc v.1 v.2) Qd
def m19 (a0:Tm) (a1:Tm):Option (Bool):=m19r (a0,a1)
theorem en_5:Qc Tryz.prog 5:=enters_of Tryz.func5 (by kernel_rfl) rfl
def Qps (a0:List UInt8) (a1:List UInt8):Option (Bool) :=
 Option.bind (cond ((decide (600 < (a0.length:Int)))) (some true) (some (decide (200 < (a1.length:Int))))) fun (v1:Bool)=>cond v1 (Option.bind (Qfg) fun (x2:Bool)=>some x2) (Option.bind (Q9w a0) fun (x3:Tm×Int×Int)=>Option.bind (cond ((x3.2.2 != 4)) (some true) (cond ((decide (x3.2.1 < 0))) (some true) (cond ((decide ((a0.length:Int)≤x3.2.1))) (some true) (Option.bind (J0 a0 x3.2.1) fun (x7:UInt8)=>cond (((x7.toNat:Int) != 40)) (Option.bind (J0 a0 x3.2.1) fun (x8:UInt8)=>some ((x8.toNat:Int) != 41)) (some false))))) fun (v6:Bool)=>cond v6 (Option.bind (Option.bind (Qfg) fun (x11:Bool)=>cond x11 (cond ((x3.2.2 != 4)) (some true) (cond ((decide (0≤x3.2.1))) (some (decide (x3.2.1≤(a0.length:Int)))) (some false))) (some false)) fun (v10:Bool)=>some v10) (Q7 (Q1z (Qo (x3.2.1+1)) a0.length) (Q7 (Nat.ble ((List.take (Qo (x3.2.1+1)).toNat a0).length+a1.length) 1000000000) (Option.bind (Q9w ((List.take (Qo (x3.2.1+1)).toNat a0)++a1)) fun (x12:Tm×Int×Int)=>Option.bind (Option.bind (Qfg) fun (x15:Bool)=>cond x15 (cond ((x12.2.2==4)) (some (x12.2.1==x3.2.1)) (some false)) (some false)) fun (v14:Bool)=>some v14))))
def k5:KF UV:=⟨[.str,.str],[.bool],fun v=>Qps v.1 v.2⟩
def H5:Hints UV:=⟨[(1,⟨[([.reg 18],.bool)],[],false⟩),(5,⟨[([.reg 49],.bool)],[],false⟩),(7,⟨[([.reg 4],.bool)],[],false⟩),(9,⟨[([.reg 4],.bool)],[],false⟩)],[]⟩
theorem k5_ok:Yy DV W0 Tryz.prog 5 k5:=Zf (C:=Qr6) rfl QH Ql (QG (tb:=[(12,k12),(15,k15)]) Ql ⟨k12_ok,Qj9,trivial⟩) Y5 Tryz.func5 en_5 H5 k5 rfl (fun v=>by kernel_rfl)
def m7 (a0:List UInt8) (a1:Int):Option (Bool) :=
 cond ((decide (600 < (a0.length:Int)))) (Option.bind (Qfg) fun (x1:Bool)=>some x1) (Q7 (!(4==0)) (Option.bind (J0 ([([32]:List UInt8),([10]:List UInt8),([9,32]:List UInt8),([13,10]:List UInt8)]:List ((List UInt8))) (Int.tmod a1 4)) fun (x2:(List UInt8))=>Option.bind (Qa (σ:=(List UInt8)×Bool×Int) (β:=(List UInt8)) (fun s9=>cond ((decide (s9.2.2 < (a0.length:Int)))) (Q7 (cond (decide (0≤s9.2.2)) (cond (Nat.ble s9.2.2.toNat (Qo (s9.2.2+1)).toNat) (Q1z (Qo (s9.2.2+1)) a0.length) false) false) (Option.bind (cond (((List.drop s9.2.2.toNat (List.take (Qo (s9.2.2+1)).toNat a0))==([91]:List UInt8))) (some true) (cond s9.2.1 (some (!((List.drop s9.2.2.toNat (List.take (Qo (s9.2.2+1)).toNat a0))==([93]:List UInt8)))) (some false))) fun (v11:Bool)=>Q7 (Nat.ble (s9.1.length+(List.drop s9.2.2.toNat (List.take (Qo (s9.2.2+1)).toNat a0)).length) 1000000000) (Option.bind (cond ((!v11)) (cond (((List.drop s9.2.2.toNat (List.take (Qo (s9.2.2+1)).toNat a0))==([40]:List UInt8))) (some true) (cond (((List.drop s9.2.2.toNat (List.take (Qo (s9.2.2+1)).toNat a0))==([41]:List UInt8))) (some true) (some ((List.drop s9.2.2.toNat (List.take (Qo (s9.2.2+1)).toNat a0))==([32]:List UInt8))))) (some false)) fun (v12:Bool)=>Option.bind (cond v12 (Q7 (Nat.ble ((s9.1++(List.drop s9.2.2.toNat (List.take (Qo (s9.2.2+1)).toNat a0))).length+x2.length) 1000000000) (some ((s9.1++(List.drop s9.2.2.toNat (List.take (Qo (s9.2.2+1)).toNat a0)))++x2))) (some (s9.1++(List.drop s9.2.2.toNat (List.take (Qo (s9.2.2+1)).toNat a0))))) fun (v13:(List UInt8))=>some (.next (v13,v11,(Qo (s9.2.2+1))))))) (some (.done s9.1))) Qd (([]:List UInt8),false,0)) fun (v10:(List UInt8))=>Option.bind (Q9w a0) fun (x14:Tm×Int×Int)=>Option.bind (Q9w v10) fun (x15:Tm×Int×Int)=>Option.bind (Option.bind (Qfg) fun (x19:Bool)=>cond x19 (cond ((x14.2.2==x15.2.2)) (Option.bind (m19 x14.1 x15.1) fun (x20:Bool)=>some x20) (some false)) (some false)) fun (v18:Bool)=>some v18))
def Qpx:KF UV:=⟨[.str,.int .u8],[.bool],fun v=>m7 v.1 v.2⟩
def m18 (a0:List UInt8):Option (Bool) :=
 Option.bind (Qa (σ:=Int) (β:=Unit⊕Bool) (fun s24=>cond ((decide ((Qo (s24+7)) < (a0.length:Int)))) (Option.bind (Qa (σ:=Int) (β:=Int) (fun s40=>Option.bind (Option.bind (J0 a0 s24) fun (x46:UInt8)=>cond (((x46.toNat:Int)==35)) (cond ((decide ((Qo ((Qo (s24+s40))+1)) < (a0.length:Int)))) (Option.bind (J0 a0 (Qo ((Qo (s24+s40))+1))) fun (x47:UInt8)=>cond ((decide (48≤(x47.toNat:Int)))) (Option.bind (J0 a0 (Qo ((Qo (s24+s40))+1))) fun (x48:UInt8)=>some (decide ((x48.toNat:Int)≤57))) (some false)) (some false)) (some false)) fun (v45:Bool)=>cond v45 (some (.next (Qo (s40+1)))) (some (.done s40))) Qd 0) fun (v41:Int)=>cond ((decide (6 < v41))) (some (.done (.inr true))) (some (.next (Qo (s24+1))))) (some (.done (.inl ())))) Qd 0) (Sum.elim (fun (v25:Unit)=>some false) (fun (o49:Bool)=>some o49))
def m6 (a0:Tm):Option (Bool) :=
 Option.bind (Qp5 a0 200) fun (x1:Bool)=>cond ((!x1)) (Option.bind (Qfg) fun (x2:Bool)=>some x2) (Option.bind (Qhd a0) fun (x3:(List UInt8)×Int)=>cond ((x3.2 != 0)) (Option.bind (Option.bind (Qfg) fun (x6:Bool)=>cond x6 (some (x3.1==([]:List UInt8))) (some false)) fun (v5:Bool)=>some v5) (Option.bind (m18 x3.1) fun (x7:Bool)=>cond x7 (Option.bind (Qfg) fun (x8:Bool)=>some x8) (Option.bind (Q9w x3.1) fun (x9:Tm×Int×Int)=>Option.bind (cond ((x9.2.2 != 0)) (some true) (cond ((x9.2.1 != 0)) (some true) (Option.bind (m19 a0 x9.1) fun (x12:Bool)=>cond ((!x12)) (some true) (some (x3.1==([]:List UInt8)))))) fun (v11:Bool)=>cond v11 (some false) (Option.bind (J0 x3.1 0) fun (x13:UInt8)=>cond (((x13.toNat:Int) != 40)) (Option.bind (Qfg) fun (x14:Bool)=>some x14) (Q7 (Q1z (Qo ((x3.1.length:Int) - 1)) x3.1.length) (Option.bind (Q9w (List.take (Qo ((x3.1.length:Int) - 1)).toNat x3.1)) fun (x15:Tm×Int×Int)=>Q7 (Nat.ble (x3.1.length+([32,120]:List UInt8).length) 1000000000) (Option.bind (Q9w (x3.1++([32,120]:List UInt8))) fun (x16:Tm×Int×Int)=>Option.bind (Option.bind (Qfg) fun (x19:Bool)=>cond x19 (cond ((x15.2.2==4)) (cond ((x15.2.1==(Qo ((x3.1.length:Int) - 1)))) (cond ((x16.2.2==4)) (some (x16.2.1==(Qo ((x3.1.length:Int)+1)))) (some false)) (some false)) (some false)) (some false)) fun (v18:Bool)=>some v18)))))))
def Qpy:KF UV:=⟨[.stc .t25],[.bool],fun v=>m6 v⟩
def Qr3:Hints UV:=⟨[(7,⟨[([.reg 2],.bool)],[],false⟩),(12,⟨[([.reg 51],.bool)],[],false⟩),(20,⟨[([.reg 2],.bool)],[],false⟩)],[]⟩
end
noncomputable section
open Go.RowKit Go.Shelf
theorem hl127:∀ s:Qr7,s.length≤65536→Da s=some (Q5f s):=fun s h=>m127_eq h
theorem hlv127:∀ s:Qr7,s.length≤65536→(Q5f s).1.vs.length≤s.length:=fun s _=>resP_len s
theorem Qiv (s:Qr7) (h:s.length≤65536):Q9w s=Q3c Q5f s:=m15_eq hl127 s h
theorem parse_cases (s:Qr7) (h:s.length≤65536):(∃ t e,G9 Q5f s=.ok t∧e ≠ 4∧Q9w s=some (if e=0 then (t,0,0) else (Qpa,0,e)))∨∃ i,G9 Q5f s=.bad i∧Q9w s=some (Qpa,i,4):=by
 rw [Qiv s h]
 cases hr:G9 Q5f s with
 | ok t =>
  obtain ⟨e,h1,h2,h3⟩:=parse_ok hlv127 h hr
  exact .inl ⟨t,_,Z,printT_4 h1 t,h3⟩
 | bad i=>exact .inr ⟨i,rfl,by unfold Q3c;rw [hr]⟩
theorem m5_true (s r:Qr7):Qps s r=some true:=by
 have aw:=awake_true
 unfold Qps
 rw [aw]
 by_cases h6:600 < s.length
 ·rw [C5 (by omega)];rfl
 ·rw [C6 (by omega)]
  by_cases h2:200 < r.length
  ·rw [C5 (by omega)];rfl
  ·rw [C6 (by omega),Cd,C1,Cd]
   rcases parse_cases s (by omega) with ⟨t,e,h1,h3,h4⟩ | ⟨i,h1,h3⟩
   ·rw [h4,C1]
    have he:((if e=0 then (t,(0:Int),(0:Int)) else (Qpa,0,e)).2.2 != 4)=true:=by
     by_cases h0:e=0
     ·rw [Cc h0];rfl
     ·rw [C8 h0];simpa using h3
    rw [he,C7];rfl
   ·rw [h3,C1]
    obtain ⟨b0,b1⟩:=read_bad (by omega) h1
    dsimp only
    rw [show ((4:Int) != 4)=false from rfl,Cd,C6 (by omega),Cd]
    by_cases hge:(s.length:Int)≤i
    ·rw [C5 hge,C7,C1,C7]
     have q1:decide (0≤i)=true:=C5 b0
     have q2:decide (i≤(s.length:Int))=true:=C5 b1
     simp only [C7,Cd,C1,q1,q2]
    ·obtain ⟨n,rfl⟩:=PS b0
     have hn:n < s.length:=by omega
     have hc:s[n]?=some s[n]:=Co hn
     rw [C6 hge,Cd,show J0 s (n:Int)=some s[n] from hc]
     simp only [C1]
     have hp:(cond (((s[n].toNat:Int) != 40)) (some ((s[n].toNat:Int) != 41)) (some false))=some (!(decide (s[n]=40∨s[n]=41))):=by
      have e1:((s[n].toNat:Int) != 40)=!decide (s[n]=40):=by unfold bne;rw [show ((s[n].toNat:Int)==40)=decide (s[n]=40) from Q2o s[n] 40]
      have e2:((s[n].toNat:Int) != 41)=!decide (s[n]=41):=by unfold bne;rw [show ((s[n].toNat:Int)==41)=decide (s[n]=41) from Q2o s[n] 41]
      rw [e1,e2]
      by_cases a:s[n]=40
      ·rw [C5 a,C5 (show s[n]=40∨s[n]=41 from .inl a)];rfl
      ·rw [C6 a]
       by_cases b:s[n]=41
       ·rw [C5 b,C5 (show s[n]=40∨s[n]=41 from .inr b)];rfl
       ·rw [C6 b,C6 (show ¬(s[n]=40∨s[n]=41) from fun e=>e.elim a b)];rfl
     rw [hp,C1]
     by_cases hq:s[n]=40∨s[n]=41
     ·rw [C5 hq,show (!true)=false from rfl,Cd]
      have hw:Qo ((n:Int)+1)=((n+1:Nat):Int):=Gj (by omega)
      rw [hw,Qw (by unfold Q1z;rw [C5 (by omega),C7];exact Cb (by show n+1≤_;omega))]
      have hlen:(s.take (n+1)++r).length≤65536:=by rw [C9,CI];omega
      rw [Dl (by show (s.take (n+1)).length+r.length≤_;rw [CI];omega)]
      have hb:=read_prefix (rest:=r) (by omega) hlen hc hq h1
      have h15:Q9w (List.take ((n+1:Nat):Int).toNat s++r)=some (Qpa,(n:Int),4):=by
       show Q9w (s.take (n+1)++r)=_
       rw [Qiv _ hlen]
       unfold Q3c
       rw [hb]
      rw [h15,C1]
      dsimp only
      rw [show ((4:Int)==4)=true from rfl,CZ.2 rfl]
      simp
     ·rw [C6 hq,show (!false)=true from rfl,C7]
      have q1:decide (0≤(n:Int))=true:=C5 b0
      have q2:decide ((n:Int)≤(s.length:Int))=true:=C5 b1
      simp only [C7,Cd,C1,q1,q2]
end
noncomputable section
open Go.RowKit Go.ChangeShapes Go.WideShapes
def Qmr (w:World):Nat→Nat→Prop:=fun b _=>b < w.heap.size
end
noncomputable section
open Go.ChangeShapes Go.WideShapes Go.ChangeAt Go.RowKit Go.WideElems
theorem own:ownKnob Tryz.prog.godebug=none:=by kernel_rfl
theorem Qfo:laidOutB Tryz.prog=true:=by kernel_rfl
theorem tabs_laid {W : World} {laid : List (String × DataW Unit)} {x0 x1 : String × DataW Unit} {r : List (String × DataW Unit)} (e : laid = x0 :: x1 :: ("internal/strconv.uint64pow10", Rows.laid_internal_strconv_uint64pow10) :: r) (hp : (laid.all fun x => x.2.handleName?.isNone) = true) (h : laidMetH Tryz.prog laid W) : Tabs Tryz.prog (Qmr W) W := by
 rw [MakeChecks.laidMetH_plain _ _ _ hp] at h
 subst e
 obtain ⟨ps,hv,-,-⟩:=h
 obtain ⟨_,_,_,_,_,q1,_,_,_,_,hv1,_⟩:=hv
 obtain ⟨_,_,_,_,_,q2,_,_,_,_,hv2,_⟩:=hv1
 obtain ⟨g',t',cs,fuel,p,q,hg',ht',hvar,hd,_,_⟩:=hv2
 have hg : Tryz.prog.globalNamed "internal/strconv.uint64pow10" = some 0 := by kernel_rfl
 obtain rfl:=Cw (hg.symm.trans hg')
 obtain rfl:=Cw ((show (Tryz.prog.globals[0]?).map (·.type)=some 230 by kernel_rfl).symm.trans ht')
 have e:cs.toList=Lib.pow10Tab.map fun z=>Value.int .u64 z :=
  Lib.cells_of_tab (t:=230) (e:=195) (n:=20) (by kernel_rfl) (by kernel_rfl) (by kernel_rfl) (by kernel_rfl) hd
 have hT : Lib.TabIs Tryz.prog W "internal/strconv.uint64pow10" .u64 Lib.pow10Tab := by
  unfold Lib.TabIs
  rw [hvar,← e]
 refine Tabs.of hg (fun o=>?_) hT
 show 0 < W.heap.size
 unfold World.var? at hvar
 rw [hg] at hvar
 simp only [C1] at hvar
 split at hvar
 ·rename_i hh;exact (CP.1 hh).1
 ·cases hvar
end
noncomputable section
open Go.ChangeShapes Go.WideShapes Go.ChangeAt Go.RowKit Go.WideElems
theorem law5 {W:World} (hT:Tabs Tryz.prog (Qmr W) W) (a0:List UInt8) (a1:List UInt8):Calls Tryz.prog 5 #[.string (Qpk a0),.string (Qpk a1)] W fun e W'=>e=.returned (.bool true)∧Below W.heap.size W W':=by
 have hF:FunW W0 Tryz.prog 5 (QN DV k5.args (a0,a1)) (Qh (QN DV k5.res true)):=k5_ok.2 (a0,a1) true (m5_true a0 a1)
 refine Calls.mono (hF.2 (Qmr W) W #[.string (Qpk a0),.string (Qpk a1)] (fun b o h=>h) hT ⟨Z,fun i y hy=>?_⟩) ?_
 ·match i,hy with
  | 0,hy=>cases hy;exact ⟨_,rfl,Reads.v _ rfl⟩
  | 1,hy=>cases hy;exact ⟨_,rfl,Reads.v _ rfl⟩
 ·rintro e W' ⟨u,S',rfl,hx,-,-,hu⟩
  have e1:u=.bool true:=by cases hu;rfl
  rw [e1]
  exact ⟨Z,hx.os,hx.tape,hx.output,hx.size,fun k hk=>hx.block k hk (fun h=>h)⟩
theorem lifted (os:Os) (started:os.Started) (H:Type) (enc:TypeId×Value→H) :
  ReturnsInHanded {} Tryz.checked os 5 .any (fun w args=>(Rows.textOffsetsSpec.pre enc Tryz.prog Tryz.f5 [] false w args∧laidMetH Tryz.prog Rows.textOffsetsRow.laid w)∧sizedMet enc Tryz.prog Tryz.f5 (OpenSpec.ofChange Rows.textOffsetsSpec) false w args)
   (Rows.textOffsetsSpec.post enc Tryz.prog Tryz.f5 false true false false):=by
 refine returnsInHanded_of_change_and (C:=Tryz.checked) (X:=fun w _=>laidMetH Tryz.prog Rows.textOffsetsRow.laid w) (fun _ _ _ hh h=>h.of_heap hh) own started (by kernel_rfl) Tryz.func5
  (ChangeSpec.witness_shaped (enc:=enc) (C:=Tryz.checked) (os:=os) (X:=fun w _=>laidMetH Tryz.prog Rows.textOffsetsRow.laid w) false (World.laidAll Tryz.prog os Rows.textOffsetsRow.laid) #[.string ByteArray.empty,.string ByteArray.empty] 8 (World.laidAll_os _ _ _)
   (World.shaped_of_ZipB (by kernel_rfl) (by kernel_rfl)) (by kernel_rfl) (by kernel_rfl) (by kernel_rfl)
   (by rw [MakeChecks.laidMetH_plain _ _ _ (by kernel_rfl)];exact laidMet_laidAll _ (by kernel_rfl) (by kernel_rfl))) ?_
 intro W base args ds gs before hval0 hW _ _ hL _
 have hval:∀ (j:Nat) t v,Tryz.f5.params[j]?=some t→args[j]?=some v→Value.okWide Tryz.prog W .any base t v:=hval0
 have hW':=hW
 obtain ⟨p,q,hA0,hV,rfl,hfz,hnd⟩:=hW
 have hA:DataW.TrodAll enc Tryz.prog W 0 (fun _=>true) true Tryz.f5.params.toList args.toList ds p:=hA0
 rw [Tryz.params5] at hA hval
 obtain ⟨v0,v1,d0,d1,p0,p1,rfl,rfl,rfl,h0,h1⟩:=trodAll_two hA
 obtain ⟨rfl,rfl⟩:=trodVars_none hV
 have h0k:=h0
 obtain ⟨s0,rfl,-,-⟩:=Go.ChangeMaps.open_string Tryz.underlying9 (hval 0 9 v0 rfl rfl) h0
 obtain ⟨a0,rfl⟩:∃ l,s0=Qpk l:=⟨s0.data.toList,(Qhw s0).symm⟩
 have h1k:=h1
 obtain ⟨s1,rfl,-,-⟩:=Go.ChangeMaps.open_string Tryz.underlying9 (hval 1 9 v1 rfl rfl) h1
 obtain ⟨a1,rfl⟩:∃ l,s1=Qpk l:=⟨s1.data.toList,(Qhw s1).symm⟩
 clear hA0 hval0
 simp only [CH] at hW'
 have hlt:∀ x∈p0++p1,x.block < W.heap.size:=fun x hx=>by simpa using hW'.lt x hx
 refine (law5 (tabs_laid rfl (by kernel_rfl) hL) a0 a1).mono fun e W' ⟨he,hb⟩=>?_
 subst he
 have hargs:∀ Qph:Nat→Bool,(∀ x∈p0++p1,Qph x.block=true)→DataW.TrodAll enc Tryz.prog W' 0 Qph true [9,9] [.string (Qpk a0),.string (Qpk a1)] [d0,d1] (p0++p1):=fun Qph hsp =>
  trodAll_mk2 (WideElems.Trod_stays Qfo (by kernel_rfl) (CG (by kernel_rfl)) h0k (fun x hx=>hb.same (hlt x (by simp [hx]))) (fun x hx=>hsp x (by simp [hx]))) (WideElems.Trod_stays Qfo (by kernel_rfl) (CG (by kernel_rfl)) h1k (fun x hx=>hb.same (hlt x (by simp [hx]))) (fun x hx=>hsp x (by simp [hx])))
 exact ⟨_,rfl,_,_,_,[],p0++p1,[],hW',trodAll_mk1 (shut_bool Tryz.underlying4 true),hargs _ (fun x hx=>by simpa using hlt x hx),rfl,hb.frame _,fun h=>by cases h⟩
theorem over:Rows.textOffsetsRow.holds Tryz.pinned (OpenSpec.ofChange Rows.textOffsetsSpec) :=
 OpenClaim.holds_of_wide 5 Tryz.f5 rfl rfl rfl rfl rfl rfl rfl ⟨rfl,rfl,rfl,rfl,rfl⟩ rfl rfl rfl rfl rfl (by kernel_rfl) Tryz.func5 (by kernel_rfl)
  (CG (by kernel_rfl)) (by unfold Func.isWrapper;first | (rw [Cc (by decide +kernel)];kernel_rfl) | (rw [C8 (by decide +kernel)];exact ⟨rfl,rfl⟩))
  (fun os started H enc _=>lifted os started H enc)
theorem textOffsetsCard:Rows.TextOffsetsCardSaid :=
 Claim7.holds_tied_plain_at .later [] _ _ _ _ over (fun _ h=>by cases h) (by kernel_rfl) (fun _ h=>by cases h) textOffsets_row_tie rfl ⟨rfl,rfl⟩ (by kernel_rfl) rfl
  (fun f fn hf hfn=>by
   obtain rfl : f = 5 := Cw ((show Tryz.prog.funcNamed "euclid/euclidlaw06.TextOffsets" = some 5 by kernel_rfl).symm.trans hf) |>.symm
   obtain rfl:fn=Tryz.f5:=(Cw (Tryz.func5.symm.trans hfn)).symm
   exact ⟨by kernel_rfl,fun j t ht=>by
    rw [Tryz.params5] at ht
    have hm:t∈[9,9]:=by simpa using Array.mem_of_getElem? ht
    have hall:([9,9].all fun u=>!Tryz.prog.wantsStandIn u)=true:=by kernel_rfl
    exact (show Tryz.prog.wantsStandIn t=false by simpa using Cg.1 hall t hm)⟩)
  (by kernel_rfl)
#print axioms textOffsetsCard
end
end Go.Proofs.YtjcfppnjamjjhaaGreatDoor
