/- The card of TextBack (second form) is proved here: for every term the law returns true, and the arguments read behind the call as they did before; conditions: what is read is of bulk at most 1048576, and the listed package-level variables hold what the text of the program lays (tied). -/
import Derived.Test.YtjcfppnjamjjhaaGreatDoorK64
import Derived.Lib.AtoiBound
import Derived.Deep.Slices
import Derived.ChangeSame
import Derived.Test.YtjcfppnjamjjhaaGreatDoorRows
import Derived.Test.YtjcfppnjamjjhaaGreatDoorCards
import Derived.Test.YtjcfppnjamjjhaaGreatDoorTie
import Derived.ProofKit
import Derived.Lay
import Derived.JoinedCond
import Derived.SevenTiedAt
import Derived.Deep.DeepHandedRow
set_option maxHeartbeats 2000000
set_option maxRecDepth 100000
set_option linter.unusedSimpArgs false
set_option linter.unusedVariables false
set_option linter.unusedSectionVars false
namespace Go.Proofs.YtjcfppnjamjjhaaGreatDoor
open Go.Proofs.Tryz
noncomputable section
section
open Go.RowKit Go.Shelf
abbrev Jbx(α:Type):=(α×Nat)⊕Nat
def QD{α β:Type}(r:Jbx α)(f:α->Nat->Jbx β):Jbx β:=match r with|.inl (v,m)=>f v m|.inr m=>.inr m
def ix{α:Type}:Jbx α->Nat|.inl (_,m)=>m|.inr m=>m+1
structure PG{α:Type}(p:(Nat->Jc6)->Nat->Jbx α):Prop where
 mono:∀X k,k<ix (p X k)
 rng:∀X N k,(∀j,X j≠[]->j+1<N)->k<N->(∀v m,p X k=.inl (v,m)->m<N)/\∀m,p X k=.inr m->m<N
 dep:∀X X' k,(∀j,j<ix (p X k)->X j=X' j)->p X' k=p X k
theorem Qz5{α β:Type}{r:Jbx α}{f:α->Nat->Jbx β}(h:∀v m,r=.inl (v,m)->m<ix (f v m)):ix r<=ix (QD r f):=by rcases r with⟨v,m⟩|m;exact Nat.le_of_lt (h v m rfl);exact Ck _
theorem PG.bind{α β:Type}{p:(Nat->Jc6)->Nat->Jbx α}{f:α->(Nat->Jc6)->Nat->Jbx β}(hp:PG p)(hf:∀v,PG (f v)):PG (λX k=>QD (p X k) λv m=>f v X m) where
 mono X k:=by
  have h:=hp.mono X k
  have:=Qz5 (r:=p X k) (f:=λv m=>f v X m) λv m _=>(hf v).mono X m
  exact Cj h this
 rng X N k hX hk:=by
  have h:=hp.rng X N k hX hk
  show(∀v m,QD (p X k) _=_->_)/\∀m,QD (p X k) _=_->_
  cases hr:p X k with
  |inl r=>
   obtain⟨v,m⟩:=r
   exact(hf v).rng X N m hX (h.1 v m hr)
  |inr m=>exact⟨λv m e=>(by cases e),λm' e=>(by cases e;exact h.2 m hr)⟩
 dep X X' k hX:=by
  have h1:ix (p X k)<=ix (QD (p X k) λv m=>f v X m):=Qz5 λv m _=>(hf v).mono X m
  have h2:=hp.dep X X' k λj hj=>hX j (Cj hj h1)
  show QD (p X' k) _=QD (p X k) _
  rw[h2]
  cases hr:p X k with
  |inl r=>
   obtain⟨v,m⟩:=r
   refine(hf v).dep X X' m λj hj=>hX j ?_
   show j<ix (QD (p X k) λv m=>f v X m)
   rw[hr];exact hj
  |inr m=>rfl
theorem PG.map{α β:Type}{p:(Nat->Jc6)->Nat->Jbx α}(hp:PG p)(g:α->β):PG (λX k=>QD (p X k) λv m=>.inl (g v,m)) where
 mono X k:=by
  have h:=hp.mono X k
  show k<ix (QD (p X k) _)
  cases hr:p X k with
  |inl r=>rw[hr]at h;exact h
  |inr m=>rw[hr]at h;exact h
 rng X N k hX hk:=by
  have h:=hp.rng X N k hX hk
  show(∀v m,QD (p X k) _=_->_)/\∀m,QD (p X k) _=_->_
  cases hr:p X k with
  |inl r=>
   obtain⟨v,m⟩:=r
   exact⟨λv' m' e=>(by cases e;exact h.1 v m hr),λm' e=>(by cases e)⟩
  |inr m=>exact⟨λv m e=>(by cases e),λm' e=>(by cases e;exact h.2 m hr)⟩
 dep X X' k hX:=by
  have h1:ix (p X k)=ix (QD (p X k) λv m=>(.inl (g v,m):Jbx β)):=by
   cases p X k with
   |inl r=>rfl
   |inr m=>rfl
  have h2:=hp.dep X X' k λj hj=>hX j (h1▸hj)
  show QD (p X' k) _=QD (p X k) _
  rw[h2]
def ZG{α:Type}(c:Jc6->Option α)(s:Jc6)(k:Nat):Jbx α:=match c s with|some v=>.inl (v,k+1)|none=>.inr k
theorem Y3{α:Type}{c:Jc6->Option α}{s:Jc6}{k:Nat}{v:α}(h:c s=some v):ZG c s k=.inl (v,k+1):=by unfold ZG;rw[h]
theorem ZF{α:Type}{c:Jc6->Option α}{s:Jc6}{k:Nat}(h:c s=none):ZG c s k=.inr k:=by unfold ZG;rw[h]
theorem PG.one{α:Type}(c:Jc6->Option α)(hc:c []=none):PG (λX k=>ZG c (X k) k) where
 mono X k:=by
  show k<ix (ZG c (X k) k)
  cases h:c (X k)with
  |some v=>rw[Y3 h];exact Cx k
  |none=>rw[ZF h];exact Cx k
 rng X N k hX hk:=by
  show(∀v m,ZG c (X k) k=_->_)/\∀m,ZG c (X k) k=_->_
  cases hr:c (X k)with
  |some v=>rw[Y3 hr];exact⟨λv m e=>(by cases e;exact hX k λe=>(by rw[e,hc]at hr;cases hr)),λm e=>(by cases e)⟩
  |none=>rw[ZF hr];exact⟨λv m e=>(by cases e),λm e=>(by cases e;exact hk)⟩
 dep X X' k hX:=by
  have:X k=X' k:=hX k (by
   show k<ix (ZG c (X k) k)
   cases h:c (X k)with
   |some v=>rw[Y3 h];exact Cx k
   |none=>rw[ZF h];exact Cx k)
  show ZG c (X' k) k=ZG c (X k) k
  rw[this]
theorem PG.look{α:Type}(c:Jc6->Bool){p q:(Nat->Jc6)->Nat->Jbx α}(hp:PG p)(hq:PG q):PG (λX k=>if c (X k)=true then p X k else q X k) where
 mono X k:=by
  show k<ix (if c (X k)=true then p X k else q X k)
  split
  ·exact hp.mono X k
  ·exact hq.mono X k
 rng X N k hX hk:=by
  show(∀v m,(if c (X k)=true then p X k else q X k)=_->_)/\∀m,(if c (X k)=true then p X k else q X k)=_->_
  split
  ·exact hp.rng X N k hX hk
  ·exact hq.rng X N k hX hk
 dep X X' k hX:=by
  have hX':∀j,j<ix (if c (X k)=true then p X k else q X k)->X j=X' j:=hX
  show(if c (X' k)=true then p X' k else q X' k)=(if c (X k)=true then p X k else q X k)
  by_cases h:c (X k)=true
  ·rw[Ca h]at hX'
   rw[<-hX' k (hp.mono X k),Ca h,Ca h]
   exact hp.dep X X' k hX'
  ·rw[C4 h]at hX'
   rw[<-hX' k (hq.mono X k),C4 h,C4 h]
   exact hq.dep X X' k hX'
theorem PG.step{α:Type}(c:Jc6->Bool)(hc:c []=false){p q:(Nat->Jc6)->Nat->Jbx α}(hp:PG p)(hq:PG q):PG (λX k=>if c (X k)=true then p X (k+1)else q X k) where
 mono X k:=by
  show k<ix (if c (X k)=true then p X (k+1)else q X k)
  split
  ·exact SK (Cx k) (hp.mono X (k+1))
  ·exact hq.mono X k
 rng X N k hX hk:=by
  show(∀v m,(if c (X k)=true then p X (k+1)else q X k)=_->_)/\∀m,(if c (X k)=true then p X (k+1)else q X k)=_->_
  split
  ·rename_i h
   exact hp.rng X N (k+1) hX (hX k λe=>(by rw[e,hc]at h;cases h))
  ·exact hq.rng X N k hX hk
 dep X X' k hX:=by
  have hX':∀j,j<ix (if c (X k)=true then p X (k+1)else q X k)->X j=X' j:=hX
  show(if c (X' k)=true then p X' (k+1)else q X' k)=(if c (X k)=true then p X (k+1)else q X k)
  by_cases h:c (X k)=true
  ·rw[Ca h]at hX'
   rw[<-hX' k (SK (Cx k) (hp.mono X (k+1))),Ca h,Ca h]
   exact hp.dep X X' (k+1) hX'
  ·rw[C4 h]at hX'
   rw[<-hX' k (hq.mono X k),C4 h,C4 h]
   exact hq.dep X X' k hX'
theorem PG.refuse{α:Type}:PG (α:=α) (λ_ k=>.inr k) where
 mono X k:=Cx k
 rng X N k hX hk:=⟨λv m e=>(by cases e),λm e=>(by cases e;exact hk)⟩
 dep X X' k hX:=rfl
variable(lv:Jc6->Lvl×Int)
def Qme(w s:Jc6):Option Unit:=if s=w then some ()else none
def Kn(w:Jc6)(X:Nat->Jc6)(k:Nat):Jbx Unit:=ZG (Qme w) (X k) k
def Q9q(s:Jc6):Option Jc6:=if JL s=true then some s else none
def pName(X:Nat->Jc6)(k:Nat):Jbx Jc6:=ZG Q9q (X k) k
def Wj(s:Jc6):Int×Bool:=(Q5h s).getD (0,false)
def Qbd(s:Jc6):Jc6:=(s.take (s.length-1)).drop 1
def Qu7(s:Jc6):Option Lvl:=if Lib.hasPrefix s [91]=true then(if(lv (Qbd s)).2=0 then some (lv (Qbd s)).1 else none)else none
def UK(X:Nat->Jc6)(k:Nat):Jbx Lvl:=ZG (Qu7 lv) (X k) k
def Q2x(s:Jc6):Option Tm:=match s with|[]=>none|c::r=>if s=[112,114,111,112]then some (Tm.mk 1 0 [] [] [])else if c=35 then some (Tm.mk 0 (Wj r).1 [] [] [])else if c=63 then some (Tm.mk 12 (Wj r).1 [] [] [])else if JL s=true then some (Tm.mk 3 0 s [] [])else none
def pAtom(X:Nat->Jc6)(k:Nat):Jbx Tm:=ZG Q2x (X k) k
def Yw:Nat->(Nat->Jc6)->Nat->Jbx (List Lvl)|0,_,k=>.inr k|f+1,X,k=>if(X k==[41])=true then .inl ([],k+1)else QD (UK lv X k) λl m=>QD (Yw f X m) λls m'=>.inl (l::ls,m')
def GT(rc:(Nat->Jc6)->Nat->Jbx Tm):Nat->(Nat->Jc6)->Nat->Jbx (List Tm)|0,X,k=>QD (Kn [41] X k) λ_ m=>.inl ([],m)|c+1,X,k=>QD (rc X k) λt m=>QD (GT rc c X m) λts m'=>.inl (t::ts,m')
def wordsW:List Jc6:=[[97,112,112],[108,97,109],[112,105],[115,105,103,109,97],[112,97,105,114],[102,115,116],[115,110,100],[108,101,116]]
def G5(h:Jc6):Int×Int->Option (LO (Int×Int) Int):=(λs40=>cond ((decide (s40.1<8))) (Option.bind (QT ([([97,112,112]:List UInt8),([108,97,109]:List UInt8),([112,105]:List UInt8),([115,105,103,109,97]:List UInt8),([112,97,105,114]:List UInt8),([102,115,116]:List UInt8),([115,110,100]:List UInt8),([108,101,116]:List UInt8)]:List (List UInt8)) s40.1) λ(x42:List UInt8)=>Option.bind (cond ((x42==h)) (some (Qm (4+s40.1))) (some s40.2)) λ(v43:Int)=>some (.next ((Qm (s40.1+1)),v43))) (some (.done s40.2)))
def QY(h:Jc6):Int:=(Qa (G5 h) Qd (0,0)).getD 0
def Wm(k:Int):Nat:=if k=8\/k=11 then 3 else if k=9\/k=10 then 1 else 2
def Q8b(X:Nat->Jc6)(k:Nat):Jbx Tm:=QD (UK lv X k) λl m=>QD (Kn [41] X m) λ_ m'=>.inl (Tm.mk 2 0 [] [l] [],m')
def Q0t(X:Nat->Jc6)(k:Nat):Jbx Tm:=QD (pName X k) λnm m=>QD (Yw lv 1000000 X m) λls m'=>.inl (Tm.mk 3 0 nm ls [],m')
def Dx(rc:(Nat->Jc6)->Nat->Jbx Tm)(kd:Int)(X:Nat->Jc6)(k:Nat):Jbx Tm:=QD (GT rc (Wm kd) X k) λts m=>.inl (Tm.mk kd 0 [] [] ts,m)
def Ur(rc:(Nat->Jc6)->Nat->Jbx Tm)(X:Nat->Jc6)(k:Nat):Jbx Tm:=if(X k==[115,111,114,116])=true then Q8b lv X (k+1)else if(X k==[99,111,110,115,116])=true then Q0t lv X (k+1)else if QY (X k)=0 then .inr k else Dx rc (QY (X k)) X (k+1)
def Jaq:Nat->(Nat->Jc6)->Nat->Jbx Tm|0,_,k=>.inr k|n+1,X,k=>if(X k==[40])=true then Ur lv (Jaq n) X (k+1)else pAtom X k
theorem Q5p:QY []=0:=by kernel_rfl
theorem Qdx{w:Jc6}(hw:w≠[]):PG (Kn w):=PG.one (Qme w) (C4 λh=>hw h.symm)
theorem DE:JL []=false:=by kernel_rfl
theorem pName_ok:PG pName:=PG.one Q9q (C4 (by rw[DE];intro h;cases h))
theorem Xs:PG (UK lv):=PG.one (Qu7 lv) (C4 (by decide))
theorem Qri:PG pAtom:=PG.one Q2x rfl
theorem Qna{α:Type}(v:α):PG (λX k=>(if(X k==[41])=true then(.inl (v,k+1):Jbx α)else .inr k)):=by
 have h:=PG.one (α:=α) (λs=>if s=[41]then some v else none) (C4 (by decide));have e:(λ(X:Nat->Jc6) k=>(if(X k==[41])=true then(.inl (v,k+1):Jbx α)else .inr k))=λX k=>ZG (λs=>if s=[41]then some v else none) (X k) k:=by funext X k;by_cases h:X k=[41];rw[Ca (CN.2 h),Y3 (Ca h)];rw[C4 (λe=>h (CN.1 e)),ZF (C4 h)]
 rw[e];exact h
theorem Qdy:∀f,PG (Yw lv f)|0=>PG.refuse|f+1=>by have h1:PG (λX k=>QD (UK lv X k) λl m=>QD (Yw lv f X m) λls m'=>.inl (l::ls,m')):=(Xs lv).bind (f:=λl X m=>QD (Yw lv f X m) λls m'=>.inl (l::ls,m')) λl=>(Qdy f).map (l::·);have h2:=PG.look (λs=>s==[41]) (Qna ([]:List Lvl)) h1;(have e:Yw lv (f+1)=λX k=>if(X k==[41])=true then(if(X k==[41])=true then(.inl ([],k+1):Jbx (List Lvl))else .inr k)else QD (UK lv X k) λl m=>QD (Yw lv f X m) λls m'=>.inl (l::ls,m'):=by funext X k;show(if(X k==[41])=true then _ else _)=_;by_cases h:(X k==[41])=true;rw[Ca h,Ca h,Ca h];rw[C4 h,C4 h]);rw[e];exact h2
theorem Qe0{rc:(Nat->Jc6)->Nat->Jbx Tm}(h:PG rc):∀c,PG (GT rc c)|0=>(Qdx (by decide)).map λ_=>[]|c+1=>h.bind (f:=λt X m=>QD (GT rc c X m) λts m'=>.inl (t::ts,m')) λt=>(Qe0 h c).map (t::·)
theorem Qrf:PG (Q8b lv):=(Xs lv).bind (f:=λl X m=>QD (Kn [41] X m) λ_ m'=>.inl (Tm.mk 2 0 [] [l] [],m')) λl=>(Qdx (by decide)).map λ_=>Tm.mk 2 0 [] [l] []
theorem Qn9:PG (Q0t lv):=pName_ok.bind (f:=λnm X m=>QD (Yw lv 1000000 X m) λls m'=>.inl (Tm.mk 3 0 nm ls [],m')) λnm=>(Qdy lv 1000000).map λls=>Tm.mk 3 0 nm ls []
theorem Qrh{rc:(Nat->Jc6)->Nat->Jbx Tm}(h:PG rc)(kd:Int):PG (Dx rc kd):=(Qe0 h (Wm kd)).map λts=>Tm.mk kd 0 [] [] ts
theorem PG.next{α:Type}(c:Jc6->Bool)(hc:c []=false){p:Jc6->(Nat->Jc6)->Nat->Jbx α}(hp:∀s,PG (p s)):PG (λX k=>if c (X k)=true then p (X k) X (k+1)else .inr k) where
 mono X k:=by
  show k<ix (if c (X k)=true then p (X k) X (k+1)else .inr k)
  split
  ·exact SK (Cx k) ((hp _).mono X (k+1))
  ·exact Cx k
 rng X N k hX hk:=by
  show(∀v m,(if c (X k)=true then p (X k) X (k+1)else .inr k)=_->_)/\∀m,(if c (X k)=true then p (X k) X (k+1)else .inr k)=_->_
  split
  ·rename_i h
   exact(hp _).rng X N (k+1) hX (hX k λe=>(by rw[e,hc]at h;cases h))
  ·exact⟨λv m e=>(by cases e),λm e=>(by cases e;exact hk)⟩
 dep X X' k hX:=by
  have hX':∀j,j<ix (if c (X k)=true then p (X k) X (k+1)else .inr k)->X j=X' j:=hX
  have e:X k=X' k:=hX' k (by
   split
   ·exact SK (Cx k) ((hp _).mono X (k+1))
   ·exact Cx k)
  show(if c (X' k)=true then p (X' k) X' (k+1)else .inr k)=(if c (X k)=true then p (X k) X (k+1)else .inr k)
  rw[<-e]
  by_cases h:c (X k)=true
  ·rw[Ca h]at hX'
   rw[Ca h,Ca h]
   exact(hp _).dep X X' (k+1) hX'
  ·rw[C4 h,C4 h]
theorem Q51(rc:(Nat->Jc6)->Nat->Jbx Tm):Ur lv rc=λX k=>if(X k==[115,111,114,116])=true then Q8b lv X (k+1)else if(X k==[99,111,110,115,116])=true then Q0t lv X (k+1)else if(QY (X k)!=0)=true then Dx rc (QY (X k)) X (k+1)else .inr k:=by
 funext X k;unfold Ur;have:(if QY (X k)=0 then(.inr k:Jbx Tm)else Dx rc (QY (X k)) X (k+1))=if(QY (X k)!=0)=true then Dx rc (QY (X k)) X (k+1)else .inr k:=by by_cases h:QY (X k)=0;rw[Ca h,C4 (by rw[h];decide)];rw[C4 h,Ca (by simpa using h)]
 rw[this]
theorem Qrg{rc:(Nat->Jc6)->Nat->Jbx Tm}(h:PG rc):PG (Ur lv rc):=by have h1:=PG.next (λs=>QY s != 0) (by rw[Q5p];rfl) (p:=λs=>Dx rc (QY s)) λs=>Qrh h _;have h2:=PG.step (λs=>s==[99,111,110,115,116]) rfl (Qn9 lv) h1;have h3:=PG.step (λs=>s==[115,111,114,116]) rfl (Qrf lv) h2;rw[Q51];exact h3
theorem Qkj:∀n,PG (Jaq lv n)|0=>PG.refuse|n+1=>PG.step (λs=>s==[40]) rfl (Qrg lv (Qkj n)) Qri
end
section
open Go.RowKit Go.Shelf
theorem Uy:∀(s:Jc6)(acc:Nat),(∀b∈s,48<=b.toNat/\b.toNat<=57)->∃n,Lib.decFrom acc s=some n|[],acc,_=>⟨_,rfl⟩|b::s,acc,h=>by(have hd:Lib.digitVal b=some (b.toNat-48):=by unfold Lib.digitVal;rw[Ca (h b Cd)]);obtain⟨n,hn⟩:=Uy s (acc*10+(b.toNat-48)) λc hc=>h c (Cg _ hc);exact⟨n,by unfold Lib.decFrom;rw[hd];exact hn⟩
theorem Qp3{s:Jc6}(h:s≠[])(hd:∀b∈s,48<=b.toNat/\b.toNat<=57):∃n,Lib.atoi s=some n:=by cases s with|nil=>exact absurd rfl h|cons b s=>have hb:=hd b Cd;(have h1:(b==45)=false:=by cases hc:(b==45)with|false=>rfl|true=>have:=eq_of_beq hc;subst this;exact absurd hb.1 (by decide));(have h2:(b==43)=false:=by cases hc:(b==43)with|false=>rfl|true=>have:=eq_of_beq hc;subst this;exact absurd hb.1 (by decide));obtain⟨n,hn⟩:=Uy (b::s) 0 hd;refine⟨(n:Int),?_⟩;unfold Lib.atoi;dsimp only;rw[h1,h2,C4 Cl,C4 Cl];unfold Lib.decNat;rw[show(b::s).isEmpty=false from rfl,C4 Cl,hn];rfl
theorem Q00{p:UInt8->Bool}{s:Jc6}(h:s.dropWhile p=[]):∀b∈s,p b=true:=by have e:=CL (p:=p) (l:=s);rw[h,Cy]at e;intro b hb;rw[<-e]at hb;exact Ch.1 (List.all_takeWhile (p:=p) (l:=s)) b hb
abbrev digits:Jc6:=[48,49,50,51,52,53,54,55,56,57]
theorem Qii{b:UInt8}(h:digits.contains b=true):48<=b.toNat/\b.toNat<=57:=by
 have:b∈digits:=by simpa using h
 simp only[digits,Co,List.not_mem_nil,or_false]at this;rcases this with rfl|rfl|rfl|rfl|rfl|rfl|rfl|rfl|rfl|rfl <;> decide
theorem Qq8{s:Jc6}(h:Lib.trimS s digits=[]):∀b∈s,48<=b.toNat/\b.toNat<=57:=by intro b hb;unfold Lib.trimS Lib.trimLeftS Lib.trimRightS at h;have h1:=Q00 h;by_cases hc:digits.contains b=true;exact Qii hc;exfalso;cases hr:s.reverse.dropWhile (digits.contains ·)with|nil=>exact hc (Q00 hr b (List.mem_reverse.2 hb))|cons c r=>(have h2:digits.contains c=false:=by have:=List.head?_dropWhile_not (digits.contains ·) s.reverse;rw[hr]at this;simpa using this);have h4:=h1 c (List.mem_reverse.2 (by rw[hr];exact Cd));rw[h2]at h4;cases h4
theorem Q12(s:Jc6)(h:s.length<=100000):Q5h s=some (Wj s):=by
 have key:∃r,Q5h s=some r:=by unfold Q5h;cases h6:decide (6<(s.length:Int))with|true=>exact⟨_,rfl⟩|false=>cases h0:(s==([]:List UInt8))with|true=>exact⟨_,rfl⟩|false=>(have hm:Qo2 s digits=some (Lib.trimS s digits):=by unfold Qo2;refine Qv ?_;rw[Cb (by omega)];rfl);rw[show Qo2 s ([48,49,50,51,52,53,54,55,56,57]:List UInt8)=some (Lib.trimS s digits)from hm];rw[Cf,Cf,C0];cases ht:(!(Lib.trimS s digits==([]:List UInt8)))with|true=>exact⟨_,rfl⟩|false=>(have ht':Lib.trimS s digits=[]:=by simpa using ht);(have hne:s≠[]:=by intro e;rw[e]at h0;cases h0);obtain⟨n,hn⟩:=Qp3 hne (Qq8 ht');(have hg:(cond (Nat.ble s.length 18) (Lib.atoi s).isSome false)=true:=by have:¬6<(s.length:Int):=Sk h6;rw[Cb (by omega),hn];rfl);rw[Cf,hg];cases h1:decide (1<(s.length:Int))with|false=>exact⟨_,rfl⟩|true=>rw[C9];obtain⟨c,r,rfl⟩:=Pm hne;rw[show QT (c::r) 0=some c from rfl,C0,C0];cases((c.toNat:Int)==48) <;> exact⟨_,rfl⟩
 obtain⟨r,hr⟩:=key;unfold Wj;rw[hr];rfl
def Jn(L:List Tkn)(k:Nat):Jc6:=(L[k]?.map Tkn.text).getD []
def Qcw(L:List Tkn)(k:Nat):Int:=(L[k]?.map Tkn.at_).getD 0
structure GL(L:List Tkn):Prop where
 len:L.length<=100000
 last:∀j,Jn L j≠[]->j+1<L.length
 short:∀j,(Jn L j).length<=65536
 br:∀j,Lib.hasPrefix (Jn L j) [91]=true->2<=(Jn L j).length
def Jbf{α:Type}(L:List Tkn):Jbx α->(Rdr×α)⊕((Int×Int)×Rdr)|.inl (v,m)=>.inl (⟨L,(m:Int)⟩,v)|.inr m=>.inr ((4,Qcw L m),⟨L,(m:Int)⟩)
variable{L:List Tkn}{k:Nat}{lv:Jc6->Lvl×Int}
theorem Qug(hk:k<L.length):∃x,L[k]?=some x/\Jn L k=x.text/\Qcw L k=x.at_:=⟨L[k],Cq hk,by unfold Jn;rw[Cq hk];rfl,by unfold Qcw;rw[Cq hk];rfl⟩
theorem UO(hk:k<L.length):Qrt ⟨L,(k:Int)⟩=some (.inl (⟨L,(k:Int)⟩,Jn L k)):=by obtain⟨x,h1,h2,-⟩:=Qug hk;unfold Qrt;rw[show QT L (k:Int)=some x from h1,h2];rfl
theorem Ub{α β:Type}(a:α):Zz (some (.inl a:α⊕β))=some a:=rfl
theorem Qhb(hk:k<L.length)(w:Jc6):J43 ⟨L,(k:Int)⟩ w=some (.inl (⟨L,(k:Int)⟩,(Jn L k==w))):=by unfold J43;rw[UO hk];rfl
theorem Ql2(hk:k<L.length):Qo3 ⟨L,(k:Int)⟩=some (.inr ((4,Qcw L k),⟨L,(k:Int)⟩)):=by obtain⟨x,h1,-,h2⟩:=Qug hk;unfold Qo3;rw[show QT L (k:Int)=some x from h1,h2];rfl
theorem Q8l:Qeb ⟨L,(k:Int)⟩ true=some (.inl (⟨L,(k:Int)⟩,())):=rfl
theorem Q5c(hk:k<L.length):Qeb ⟨L,(k:Int)⟩ false=some (.inr ((4,Qcw L k),⟨L,(k:Int)⟩)):=by unfold Qeb;rw[Ql2 hk];rfl
theorem Qv5(h:GL L)(hk:k<L.length):Qm ((k:Int)+1)=((k+1:Nat):Int):=Gz (by have:=h.len;omega)
theorem Qha(h:GL L)(hk:k<L.length)(w:Jc6):Qrq ⟨L,(k:Int)⟩ w=some (Jbf L (Kn w (Jn L) k)):=by unfold Qrq Kn ZG Qme;rw[UO hk];show Option.bind (Qeb ⟨L,(k:Int)⟩ (Jn L k==w)) _=_;by_cases hw:Jn L k=w;rw[Ca hw,CN.2 hw,Q8l];show some (Sum.inl (Rdr.mk L (Qm ((k:Int)+1)),()))=_;rw[Qv5 h hk];rfl;rw[C4 hw,show(Jn L k==w)=false from P4.2 hw,Q5c hk];rfl
theorem Qrr(h:GL L)(hk:k<L.length):J0d ⟨L,(k:Int)⟩=some (Jbf L (pName (Jn L) k)):=by unfold J0d pName ZG Q9q;rw[UO hk];show Option.bind (Q13 (Jn L k)) _=_;rw[Qba _ (by have:=h.short k;omega)];show Option.bind (Qeb ⟨L,(k:Int)⟩ (JL (Jn L k))) _=_;cases hn:JL (Jn L k)with|true=>rw[Q8l,Ca rfl];show some (Sum.inl (Rdr.mk L (Qm ((k:Int)+1)),Jn L k))=_;rw[Qv5 h hk];rfl|false=>rw[Q5c hk,C4 Cl];rfl
theorem Qrs(hl:∀s:Jc6,s.length<=65536->DF s=some (lv s))(h:GL L)(hk:k<L.length):J0e ⟨L,(k:Int)⟩=some (Jbf L (UK lv (Jn L) k)):=by unfold J0e UK ZG Qu7;rw[UO hk,Ub,C0];dsimp only;rw[show J5e (Jn L k) ([91]:List UInt8)=some (Lib.hasPrefix (Jn L k) [91])from rfl,C0];cases hp:Lib.hasPrefix (Jn L k) [91]with|false=>rw[Q5c hk,C4 Cl];rfl|true=>have h1:=h.br k hp;have h2:=h.short k;(have hw:Qm (((Jn L k).length:Int)-1)=(((Jn L k).length-1:Nat):Int):=by rw[J7 (by omega) (by omega)];omega);rw[Q8l,Ca rfl];show Q7 (cond (decide (0<=(1:Int))) (cond (Nat.ble (1:Int).toNat (Qm (((Jn L k).length:Int)-1)).toNat) (inB (Qm (((Jn L k).length:Int)-1)) (Jn L k).length) false) false) _=_;rw[hw];(have hg:(cond (decide (0<=(1:Int))) (cond (Nat.ble (1:Int).toNat (((Jn L k).length-1:Nat):Int).toNat) (inB (((Jn L k).length-1:Nat):Int) (Jn L k).length) false) false)=true:=by rw[show decide (0<=(1:Int))=true from rfl,C9,Cb (by show 1<=_;omega),C9];unfold inB;rw[C7 (by omega),C9];exact Cb (by omega));rw[Qv hg];have hs:DF (List.drop (1:Int).toNat (List.take (((Jn L k).length-1:Nat):Int).toNat (Jn L k)))=some (lv (Qbd (Jn L k))):=hl _ (by rw[CB,CP];omega);rw[hs];show Option.bind (Qeb ⟨L,(k:Int)⟩ ((lv (Qbd (Jn L k))).2==0)) _=_;by_cases h0:(lv (Qbd (Jn L k))).2=0;rw[Ca h0,CN.2 h0,Q8l];show some (Sum.inl (Rdr.mk L (Qm ((k:Int)+1)),(lv (Qbd (Jn L k))).1))=_;rw[Qv5 h hk];rfl;rw[C4 h0,show((lv (Qbd (Jn L k))).2==0)=false from P4.2 h0,Q5c hk];rfl
theorem J0f(h:GL L)(hk:k<L.length):J56 ⟨L,(k:Int)⟩=some (Jbf L (pAtom (Jn L) k)):=by
 unfold J56 pAtom ZG;rw[UO hk,Ub,C0];dsimp only;have hsh:=h.short k;have h76:=Qrr h hk;unfold pName ZG Q9q at h76;generalize hX:Jn L k=s at hsh h76⊢;cases s with
 |nil=>show Option.bind (Option.bind (Qo3 ⟨L,(k:Int)⟩) _) _=_;rw[Ql2 hk];rfl
 |cons c r=>
  by_cases hp:c::r=[112,114,111,112];obtain⟨rfl,rfl⟩:=Pc hp;show some (Sum.inl (Rdr.mk L (Qm ((k:Int)+1)),Tm.mk 1 0 [] [] []))=_;rw[Qv5 h hk];rfl;have e1:((c::r)==([]:List UInt8))=false:=rfl;have e2:((c::r)==([112,114,111,112]:List UInt8))=false:=P4.2 hp;have e3:QT (c::r) 0=some c:=rfl;have hbr:inB (1:Int) (c::r).length=true:=by show Nat.ble 1 (c::r).length=true;exact Cb (by simp)
  have h125:Q5h (List.drop (1:Int).toNat (c::r))=some (Wj r):=Q12 r (by have:(c::r).length=r.length+1:=rfl;omega);have c35:((c.toNat:Int)==35)=decide (c=35):=by rw[ZQ];by_cases e:c=35;subst e;rfl;rw[C8 e,C8];intro h';exact e (Sj.1 (by show c.toNat=35;omega))
  have c63:((c.toNat:Int)==63)=decide (c=63):=by rw[ZQ];by_cases e:c=63;subst e;rfl;rw[C8 e,C8];intro h';exact e (Sj.1 (by show c.toNat=63;omega))
  simp only[e1,e2,e3,Cf,C0,c35,c63,hbr,h125];unfold Q2x;dsimp only;rw[C4 hp];by_cases h35:c=35;subst h35;rw[Ca rfl];show some (Sum.inl (Rdr.mk L (Qm ((k:Int)+1)),Tm.mk 0 (Wj r).1 [] [] []))=_;rw[Qv5 h hk];rfl;rw[C4 h35,C8 h35,Cf];by_cases h63:c=63;subst h63;rw[Ca rfl];show some (Sum.inl (Rdr.mk L (Qm ((k:Int)+1)),Tm.mk 12 (Wj r).1 [] [] []))=_;rw[Qv5 h hk];rfl;rw[C4 h63,C8 h63];show Option.bind (J0d ⟨L,(k:Int)⟩) _=_;rw[h76];by_cases hn:JL (c::r)=true;rw[Ca hn,Ca hn];rfl;rw[C4 hn,C4 hn];rfl
theorem Qog(s:Jc6):Qa (G5 s) Qd (0,0)=some (QY s):=by
 have key:∃r,Qa (G5 s) Qd (0,0)=some r:=by
  obtain⟨r,h,-⟩:=Jm (step:=G5 s) wordsW (λi (x:Int)=>(i,x)) (λ_ _=>True) (λ_=>True) (by decide) (λa x b st e _=>by
    have hl:a.length<8:=by have:=congrArg List.length e;rw[C3,C2,show wordsW.length=8 from rfl]at this;omega
    refine .inr ⟨cond (x==s) (Qm (4+(a.length:Int))) st,?_,trivial⟩
    unfold G5
    dsimp only
    rw[C7 (by omega),C9]
    have:QT wordsW (a.length:Int)=some x:=by rw[e];exact Yu a x b
    rw[show QT ([([97,112,112]:List UInt8),([108,97,109]:List UInt8),([112,105]:List UInt8),([115,105,103,109,97]:List UInt8),([112,97,105,114]:List UInt8),([102,115,116]:List UInt8),([115,110,100]:List UInt8),([108,101,116]:List UInt8)]:List (List UInt8)) (a.length:Int)=some x from this,C0]
    cases(x==s) <;> rfl)
   (λst _=>⟨st,by unfold G5;dsimp only;rw[show(wordsW.length:Int)=8 from rfl];rfl,trivial⟩) 0 trivial
  exact⟨r,h⟩
 obtain⟨r,hr⟩:=key;unfold QY;rw[hr];rfl
end
section
open Go.RowKit Go.Shelf
theorem J0c(a:Int):J55 a=some (Wm a:Int):=by unfold J55 Wm;rw[ZQ,ZQ,ZQ,ZQ];by_cases h8:a=8;subst h8;rfl;by_cases h11:a=11;subst h11;rfl;rw[C8 h8,C8 h11,C4 (by omega)];by_cases h9:a=9;subst h9;rfl;by_cases h10:a=10;subst h10;rfl;rw[C8 h9,C8 h10,C4 (by omega)];rfl
abbrev Qyh:=(Rdr×Tm)⊕((Int×Int)×Rdr)
def Q6n:(List Tkn)×Int×(List Lvl)->Option (LO ((List Tkn)×Int×(List Lvl)) (((List Tkn)×Int×(List Lvl))⊕Qyh)):=(λs25=>Option.bind (Zz (J43 (Rdr.mk s25.1 s25.2.1) ([41]:List UInt8))) λ(r27:Rdr×Bool)=>cond ((!r27.2)) (Option.bind (J0e r27.1) (Sum.elim (λ(r29:Rdr×Lvl)=>Q7 (Nat.ble (s25.2.2.length+([r29.2]:List Lvl).length) 1000000000) (some (.next (r29.1.l,r29.1.n,(s25.2.2++([r29.2]:List Lvl)))))) (λ(e30:(Int×Int)×Rdr)=>some (.done (.inr (.inr ((e30.1.1,e30.1.2),e30.2))))))) (some (.done (.inl (r27.1.l,r27.1.n,s25.2.2)))))
def J8r(nm:Jc6):((List Tkn)×Int×(List Lvl))⊕Qyh->Option Qyh:=(Sum.elim (λ(v26:(List Tkn)×Int×(List Lvl))=>Option.bind (Qrq (Rdr.mk v26.1 v26.2.1) ([41]:List UInt8)) (Sum.elim (λ(r31:Rdr×Unit)=>some (.inl (r31.1,(Tm.mk 3 0 nm v26.2.2 ([]))))) (λ(e32:(Int×Int)×Rdr)=>some (.inr ((e32.1.1,e32.1.2),e32.2))))) (λ(o33:(Rdr×Tm)⊕((Int×Int)×Rdr))=>some o33))
def Q2o(rc:Rdr×Unit->Option Qyh)(x46:Int):Int×(List Tkn)×Int×(List Tm)->Option (LO (Int×(List Tkn)×Int×(List Tm)) (((List Tkn)×Int×(List Tm))⊕Qyh)):=(λs53=>cond ((decide (s53.1<x46))) (Option.bind (rc ((Rdr.mk s53.2.1 s53.2.2.1),())) (Sum.elim (λ(r55:Rdr×Tm)=>Q7 (Nat.ble (s53.2.2.2.length+([r55.2]:List Tm).length) 1000000000) (some (.next ((Qm (s53.1+1)),r55.1.l,r55.1.n,(s53.2.2.2++([r55.2]:List Tm)))))) (λ(e56:(Int×Int)×Rdr)=>some (.done (.inr (.inr ((e56.1.1,e56.1.2),e56.2))))))) (some (.done (.inl (s53.2.1,s53.2.2.1,s53.2.2.2)))))
def J5l(v41:Int):((List Tkn)×Int×(List Tm))⊕Qyh->Option Qyh:=(Sum.elim (λ(v54:(List Tkn)×Int×(List Tm))=>Option.bind (Qrq (Rdr.mk v54.1 v54.2.1) ([41]:List UInt8)) (Sum.elim (λ(r57:Rdr×Unit)=>some (.inl (r57.1,(Tm.mk v41 0 ([]:List UInt8) ([]) v54.2.2)))) (λ(e58:(Int×Int)×Rdr)=>some (.inr ((e58.1.1,e58.1.2),e58.2))))) (λ(o59:(Rdr×Tm)⊕((Int×Int)×Rdr))=>some o59))
theorem Qed{σ β:Type}{step:σ->Option (LO σ β)}{n:Nat}{s s':σ}(h:step s=some (.next s')):Qa step (n+1) s=Qa step n s':=by simp only[Qa,h]
theorem DN{σ β:Type}{step:σ->Option (LO σ β)}{n:Nat}{s:σ}{r:β}(h:step s=some (.done r)):Qa step (n+1) s=some r:=by simp only[Qa,h]
section
variable{L:List Tkn}{lv:Jc6->Lvl×Int}
theorem Q2n(hl:∀s:Jc6,s.length<=65536->DF s=some (lv s))(h:GL L)(nm:Jc6):∀(f n k:Nat)(acc:List Lvl),L.length<=f+k->L.length<=n+k->k<L.length->acc.length<=k -> Option.bind (Qa Q6n n (L,(k:Int),acc)) (J8r nm)=some (Jbf L (QD (Yw lv f (Jn L) k) λls m=>.inl (Tm.mk 3 0 nm (acc++ls) [],m)))|0,_,k,acc,h1,_,hk,_=>by omega|_+1,0,k,acc,_,h2,hk,_=>by omega|f+1,n+1,k,acc,h1,h2,hk,ha=>by unfold Yw;have hlen:=h.len;cases h41:(Jn L k==[41])with|true=>(have hst:Q6n (L,(k:Int),acc)=some (.done (.inl (L,(k:Int),acc))):=by unfold Q6n;dsimp only;rw[Qhb hk,Ub,C0,h41];rfl);rw[DN hst,C0,Ca rfl];show Option.bind (Qrq ⟨L,(k:Int)⟩ [41]) _=_;rw[Qha h hk];unfold Kn;rw[Y3 (Ca (CN.1 h41))];show _=some (Jbf L (.inl (Tm.mk 3 0 nm (acc++[]) [],k+1)));rw[Cy];rfl|false=>rw[C4 Cl];(have hst:Q6n (L,(k:Int),acc)=Option.bind (some (Jbf L (UK lv (Jn L) k))) (Sum.elim (λ(r29:Rdr×Lvl)=>Q7 (Nat.ble (acc.length+([r29.2]:List Lvl).length) 1000000000) (some (.next (r29.1.l,r29.1.n,(acc++([r29.2]:List Lvl)))))) (λ(e30:(Int×Int)×Rdr)=>some (.done (.inr (.inr ((e30.1.1,e30.1.2),e30.2)))))):=by unfold Q6n;dsimp only;rw[Qhb hk,Ub,C0,h41,show(!(((⟨L,(k:Int)⟩:Rdr),false):Rdr×Bool).2)=true from rfl,C9,Qrs hl h hk]);cases hr:UK lv (Jn L) k with|inr m=>rw[hr]at hst;have hst':Q6n (L,(k:Int),acc)=some (.done (.inr (.inr ((4,Qcw L m),⟨L,(m:Int)⟩)))):=hst;rw[DN hst'];rfl|inl r=>obtain⟨l,m⟩:=r;have hm:=((Xs lv).rng (Jn L) L.length k h.last hk).1 l m hr;have hm2:=(Xs lv).mono (Jn L) k;rw[hr]at hm2 hst;have hm3:k<m:=hm2;have hst':Q6n (L,(k:Int),acc)=Q7 (Nat.ble (acc.length+1) 1000000000) (some (.next (L,(m:Int),acc++[l]))):=hst;rw[DT (by omega)]at hst';rw[Qed hst'];show _=some (Jbf L (QD (QD (Yw lv f (Jn L) m) λls m'=>.inl (l::ls,m')) λls m=>.inl (Tm.mk 3 0 nm (acc++ls) [],m)));rw[Q2n hl h nm f n m (acc++[l]) (by omega) (by omega) hm (by rw[C3];simp only[C2,Ci];omega)];cases Yw lv f (Jn L) m with|inl r=>(obtain⟨ls,m'⟩:=r;show some (Jbf L (.inl (Tm.mk 3 0 nm ((acc++[l])++ls) [],m')))=some (Jbf L (.inl (Tm.mk 3 0 nm (acc++l::ls) [],m')));rw[Ct];rfl)|inr m=>rfl
theorem Q93(h:GL L){rc:Rdr×Unit->Option Qyh}{rcS:(Nat->Jc6)->Nat->Jbx Tm}(hS:PG rcS)(k0:Nat)(hrc:∀m,k0<=m->m<L.length->rc (⟨L,(m:Int)⟩,())=some (Jbf L (rcS (Jn L) m)))(kd:Int)(x:Nat)(hx:x<=3):∀(c n i k:Nat)(acc:List Tm),i+c=x->c<n->k0<=k->k<L.length->acc.length<=k -> Option.bind (Qa (Q2o rc (x:Int)) n ((i:Int),L,(k:Int),acc)) (J5l kd)=some (Jbf L (QD (GT rcS c (Jn L) k) λts m=>.inl (Tm.mk kd 0 [] [] (acc++ts),m)))|_,0,i,k,acc,_,hn,_,_,_=>by omega|0,n+1,i,k,acc,hi,_,hk0,hk,ha=>(by(have hst:Q2o rc (x:Int) ((i:Int),L,(k:Int),acc)=some (.done (.inl (L,(k:Int),acc))):=by unfold Q2o;dsimp only;rw[C8 (by omega),Cf]);rw[DN hst,C0];show Option.bind (Qrq ⟨L,(k:Int)⟩ [41]) _=_;rw[Qha h hk];unfold GT;cases Kn [41] (Jn L) k with|inl r=>(obtain⟨v,m⟩:=r;show _=some (Jbf L (.inl (Tm.mk kd 0 [] [] (acc++[]),m)));rw[Cy];rfl)|inr m=>rfl)|c+1,n+1,i,k,acc,hi,hn,hk0,hk,ha=>by have hlen:=h.len;(have hst:Q2o rc (x:Int) ((i:Int),L,(k:Int),acc)=Option.bind (some (Jbf L (rcS (Jn L) k))) (Sum.elim (λ(r55:Rdr×Tm)=>Q7 (Nat.ble (acc.length+([r55.2]:List Tm).length) 1000000000) (some (.next ((Qm ((i:Int)+1)),r55.1.l,r55.1.n,(acc++([r55.2]:List Tm)))))) (λ(e56:(Int×Int)×Rdr)=>some (.done (.inr (.inr ((e56.1.1,e56.1.2),e56.2)))))):=by unfold Q2o;dsimp only;rw[C7 (by omega),C9,hrc k hk0 hk]);unfold GT;cases hr:rcS (Jn L) k with|inr m=>rw[hr]at hst;have hst':Q2o rc (x:Int) ((i:Int),L,(k:Int),acc)=some (.done (.inr (.inr ((4,Qcw L m),⟨L,(m:Int)⟩)))):=hst;rw[DN hst'];rfl|inl r=>obtain⟨t,m⟩:=r;have hm:=(hS.rng (Jn L) L.length k h.last hk).1 t m hr;have hm2:=hS.mono (Jn L) k;rw[hr]at hm2 hst;have hm3:k<m:=hm2;have hst':Q2o rc (x:Int) ((i:Int),L,(k:Int),acc)=Q7 (Nat.ble (acc.length+1) 1000000000) (some (.next ((Qm ((i:Int)+1)),L,(m:Int),acc++[t]))):=hst;rw[DT (by omega),Gz (by omega)]at hst';rw[Qed hst'];show _=some (Jbf L (QD (QD (GT rcS c (Jn L) m) λts m'=>.inl (t::ts,m')) λts m=>.inl (Tm.mk kd 0 [] [] (acc++ts),m)));rw[Q93 h hS k0 hrc kd x hx c n (i+1) m (acc++[t]) (by omega) (by omega) (by omega) hm (by rw[C3];simp only[C2,Ci];omega)];cases GT rcS c (Jn L) m with|inl r=>(obtain⟨ts,m'⟩:=r;show some (Jbf L (.inl (Tm.mk kd 0 [] [] ((acc++[t])++ts),m')))=some (Jbf L (.inl (Tm.mk kd 0 [] [] (acc++t::ts),m')));rw[Ct];rfl)|inr m=>rfl
theorem Q0w{s w:Jc6}(h:(s==w)=true)(hw:w≠[]):s≠[]:=λe=>by rw[e]at h;exact hw (CN.1 h).symm
theorem Qwl(hl:∀s:Jc6,s.length<=65536->DF s=some (lv s))(h:GL L){rc:Rdr×Unit->Option Qyh}{rcS:(Nat->Jc6)->Nat->Jbx Tm}(hS:PG rcS){k:Nat}(hk:k<L.length)(hrc:∀m,k<m->m<L.length->rc (⟨L,(m:Int)⟩,())=some (Jbf L (rcS (Jn L) m))):Qrz rc ⟨L,(k:Int)⟩=some (Jbf L (if(Jn L k==[40])=true then Ur lv rcS (Jn L) (k+1)else pAtom (Jn L) k)):=by have hlen:=h.len;unfold Qrz;rw[Qhb hk];show cond (!(Jn L k==[40])) _ _=_;cases h40:(Jn L k==[40])with|false=>(rw[C4 Cl];show Option.bind (J56 ⟨L,(k:Int)⟩) _=_;rw[J0f h hk];cases pAtom (Jn L) k with|inl r=>rfl|inr m=>rfl)|true=>have hk1:k+1<L.length:=h.last k (Q0w h40 (by decide));rw[Ca rfl];show Option.bind (Zz (Qrt (Rdr.mk L (Qm ((k:Int)+1))))) _=_;rw[Qv5 h hk,UO hk1];unfold Ur;show cond (Jn L (k+1)==[115,111,114,116]) _ _=_;cases hs:(Jn L (k+1)==[115,111,114,116])with|true=>(have hk2:k+1+1<L.length:=h.last (k+1) (Q0w hs (by decide));rw[Ca rfl,C9];show Option.bind (J0e (Rdr.mk L (Qm (((k+1:Nat):Int)+1)))) _=_;rw[Qv5 h hk1,Qrs hl h hk2];unfold Q8b;cases hr:UK lv (Jn L) (k+1+1)with|inr m=>rfl|inl r=>obtain⟨l,m⟩:=r;have hm:=((Xs lv).rng (Jn L) L.length _ h.last hk2).1 l m hr;show Option.bind (Qrq ⟨L,(m:Int)⟩ [41]) _=some (Jbf L (QD (Kn [41] (Jn L) m) _));rw[Qha h hm];cases Kn [41] (Jn L) m with|inl r=>rfl|inr m=>rfl)|false=>rw[C4 Cl,Cf];show cond (Jn L (k+1)==[99,111,110,115,116]) _ _=_;cases hc:(Jn L (k+1)==[99,111,110,115,116])with|true=>(have hk2:k+1+1<L.length:=h.last (k+1) (Q0w hc (by decide));rw[Ca rfl,C9];show Option.bind (J0d (Rdr.mk L (Qm (((k+1:Nat):Int)+1)))) _=_;rw[Qv5 h hk1,Qrr h hk2];unfold Q0t;cases hr:pName (Jn L) (k+1+1)with|inr m=>rfl|inl r=>obtain⟨nm,m⟩:=r;have hm:=(pName_ok.rng (Jn L) L.length _ h.last hk2).1 nm m hr;have key:=Q2n hl h nm 1000000 Qd m [] (by omega) (by unfold Qd;omega) hm (Cs _);exact key)|false=>rw[C4 Cl,Cf];show Option.bind (Qa (G5 (Jn L (k+1))) Qd (0,0)) _=_;rw[Qog,C0];show Option.bind (Qeb ⟨L,((k+1:Nat):Int)⟩ (QY (Jn L (k+1))!=0)) _=_;by_cases h0:QY (Jn L (k+1))=0;rw[Ca h0,h0,show((0:Int)!=0)=false from rfl,Q5c hk1];rfl;have hk2:k+1+1<L.length:=h.last (k+1) λe=>h0 (by rw[e];exact Q5p);rw[C4 h0,show(QY (Jn L (k+1))!=0)=true from by simpa using h0,Q8l];show Option.bind (J55 (QY (Jn L (k+1)))) _=_;rw[J0c,C0];show Option.bind (Qa (Q2o rc (Wm (QY (Jn L (k+1))):Int)) Qd (0,L,Qm (((k+1:Nat):Int)+1),[])) (J5l (QY (Jn L (k+1))))=_;rw[Qv5 h hk1];(have hn3:Wm (QY (Jn L (k+1)))<=3:=by unfold Wm;split <;> (try split) <;> omega);have key:=Q93 h hS (k+1+1) (λm h1 h2=>hrc m (by omega) h2) (QY (Jn L (k+1))) (Wm (QY (Jn L (k+1)))) hn3 (Wm (QY (Jn L (k+1)))) Qd 0 (k+1+1) [] (by omega) (by unfold Qd;omega) (Ck _) hk2 (Cs _);exact key
theorem Qd8(hl:∀s:Jc6,s.length<=65536->DF s=some (lv s))(h:GL L):∀(n k:Nat),L.length<=n+k->k<L.length->Jo (λrc v=>Qrz rc v.1) n (⟨L,(k:Int)⟩,())=some (Jbf L (Jaq lv n (Jn L) k))|0,k,h1,hk=>by omega|n+1,k,h1,hk=>Qwl hl h (Qkj lv n) hk λm hkm hm=>Qd8 hl h n m (by omega) hm
theorem J0q(hl:∀s:Jc6,s.length<=65536->DF s=some (lv s))(h:GL L)(h0:0<L.length):J7n ⟨L,0⟩=some (Jbf L (Jaq lv Qd (Jn L) 0)):=Qd8 hl h Qd 0 (by have:=h.len;unfold Qd;omega) h0
theorem J0p{k:Nat}(hk:k<L.length)(s:Jc6):J59 ⟨L,(k:Int)⟩ s=some (if Jn L k=[]/\Qcw L k=(s.length:Int)then .inl (⟨L,(k:Int)⟩,())else .inr ((4,Qcw L k),⟨L,(k:Int)⟩)):=by obtain⟨x,h1,h2,h3⟩:=Qug hk;unfold J59;rw[UO hk];show Option.bind (cond (Jn L k==([]:List UInt8)) _ _) _=_;by_cases h0:Jn L k=[];rw[CN.2 h0,C9];show Option.bind (Option.bind (QT L (k:Int)) _) _=_;rw[show QT L (k:Int)=some x from h1,C0];show Option.bind (Option.bind (Qeb ⟨L,(k:Int)⟩ (x.at_==(s.length:Int))) _) _=_;rw[<-h3];by_cases ha:Qcw L k=(s.length:Int);rw[Ca ⟨h0,ha⟩,CN.2 ha,Q8l];rfl;rw[C4 (λe=>ha e.2),show(Qcw L k==(s.length:Int))=false from P4.2 ha,Q5c hk];rfl;rw[show(Jn L k==([]:List UInt8))=false from P4.2 h0,Cf,C4 (λe=>h0 e.1)];show Option.bind (Option.bind (Qeb ⟨L,(k:Int)⟩ false) _) _=_;rw[Q5c hk];rfl
end
end
section
open Go.RowKit Go.Shelf
theorem GP{p:UInt8->Bool}(s:Jc6):(s.takeWhile p).length<=s.length:=by have:=congrArg List.length (CL (p:=p) (l:=s));rw[C3]at this;omega
theorem Qgm{p:UInt8->Bool}(s:Jc6):s.drop (s.takeWhile p).length=s.dropWhile p:=by
 conv=>lhs;rw[<-CL (p:=p) (l:=s)]
 have h:((s.takeWhile p++s.dropWhile p).takeWhile p).length=(s.takeWhile p).length:=by rw[CL]
 rw[h,List.drop_left'];rfl
theorem US(s:Jc6)(p:UInt8->Bool){step:Int->Option (LO Int Int)}(hlen:s.length<=900000000)(h1:∀(k:Nat) b,s[k]?=some b->step (k:Int)=some (cond (p b) (.next (Qm ((k:Int)+1))) (.done (k:Int))))(h2:step (s.length:Int)=some (.done (s.length:Int))):∀k:Nat,k<=s.length->Qa step Qd (k:Int)=some ((k+((s.drop k).takeWhile p).length:Nat):Int):=by intro k hk;have key:=KN (step:=step) (λi=>0<=i/\i.toNat<=s.length) (λi=>s.length-i.toNat) (λi=>((i.toNat+((s.drop i.toNat).takeWhile p).length:Nat):Int)) (λi hi=>by obtain⟨n,rfl⟩:=Sm hi.1;have hi2:n<=s.length:=hi.2;rcases P2 n s.length with hlt|hge;have hb:s[n]?=some s[n]:=Cq hlt;have e:=h1 n _ hb;have hd:s.drop n=s[n]::s.drop (n+1):=PQ hlt;(cases hp:p s[n]with|true=>rw[hp,C9,Gz (by omega)]at e;refine .inr ⟨((n+1:Nat):Int),e,⟨by omega,by show n+1<=_;omega⟩,by show s.length-(n+1)<s.length-n;omega,?_⟩;show((n+1+((s.drop (n+1)).takeWhile p).length:Nat):Int)=((n+((s.drop n).takeWhile p).length:Nat):Int);rw[hd,P0,Ca hp,C2];omega|false=>rw[hp,Cf]at e;refine .inl ?_;rw[e];show some (LO.done (n:Int))=some (LO.done ((n+((s.drop n).takeWhile p).length:Nat):Int));rw[hd,P0,C4 (by rw[hp];exact Cl)];rfl);(have:n=s.length:=by omega);subst this;refine .inl ?_;rw[h2];show some (LO.done (s.length:Int))=some (LO.done ((s.length+((s.drop s.length).takeWhile p).length:Nat):Int));rw[List.drop_length];rfl) Qd (k:Int) ⟨by omega,hk⟩ (by show s.length-k<Qd;unfold Qd;omega);exact key
def Qbt(c:Int):Bool:=(decide (97<=c)&&decide (c<=122))||(decide (65<=c)&&decide (c<=90))||(decide (48<=c)&&decide (c<=57))||(c==95)||(c==39)||(c==46)
def GK(b:UInt8):Bool:=Qbt (b.toNat:Int)
theorem Qkv(c:Int):Qs3 c=some (Qbt c):=by unfold Qs3 Qbt;cases decide (97<=c) <;> cases decide (c<=122) <;> cases decide (65<=c) <;> cases decide (c<=90) <;> cases decide (48<=c) <;> cases decide (c<=57) <;> cases(c==95) <;> cases(c==39) <;> rfl
theorem Qkw(s:Jc6)(hs:s.length<=900000000){k:Nat}(hk:k<=s.length):Qs4 s (k:Int)=some ((k+((s.drop k).takeWhile GK).length:Nat):Int):=by unfold Qs4;rw[US s GK hs (λj b hb=>?_) ?_ k hk];rfl;rw[Jb];rfl;rw[C7 (by have:=(Ce.1 hb).1;omega),C9,show QT s (j:Int)=some b from hb,C0,Qkv];show cond (Qbt (b.toNat:Int)) _ _=some (cond (Qbt (b.toNat:Int)) _ _);cases Qbt (b.toNat:Int) <;> rfl
def J6:Jc6->Nat
 |[]=>0
 |c::r=>if c=40\/c=41 then 1 else
   if c=91 then(if((c::r).takeWhile (· != 93)).length<(c::r).length then((c::r).takeWhile (· != 93)).length+1 else 0)else
    if c=35\/c=63 then(if(Wj (r.takeWhile GK)).2=true then 1+(r.takeWhile GK).length else 0)else
     if GK c=true then(if(Wj ((c::r).takeWhile GK)).2=true\/c.toNat<48\/57<c.toNat then((c::r).takeWhile GK).length else 0)else 0
theorem YZ(c:UInt8)(r:Jc6):J6 (c::r)=if c=40\/c=41 then 1 else if c=91 then(if((c::r).takeWhile (· != 93)).length<(c::r).length then((c::r).takeWhile (· != 93)).length+1 else 0)else if c=35\/c=63 then(if(Wj (r.takeWhile GK)).2=true then 1+(r.takeWhile GK).length else 0)else if GK c=true then(if(Wj ((c::r).takeWhile GK)).2=true\/c.toNat<48\/57<c.toNat then((c::r).takeWhile GK).length else 0)else 0:=rfl
theorem GR(s:Jc6):J6 s<=s.length:=by cases s with|nil=>exact Ck _|cons c r=>have h1:=GP (p:=GK) r;have h2:=GP (p:=GK) (c::r);rw[YZ];rw[C2]at *;split;omega;split;split <;> omega;split;split <;> omega;split;split <;> omega;omega
theorem DR(c:UInt8):∀s:Jc6,Lib.indexByte s c=if(s.takeWhile (· != c)).length<s.length then((s.takeWhile (· != c)).length:Int)else -1|[]=>rfl|b::s=>by unfold Lib.indexByte;cases h:(b==c)with|true=>(have h':(b != c)=false:=by unfold bne;rw[h];rfl);(have e1:(b::s).takeWhile (· != c)=[]:=by rw[P0,C4 (by rw[h'];exact Cl)]);rw[Ca rfl,e1,Ca (by simp)];rfl|false=>(have h':(b != c)=true:=by unfold bne;rw[h];rfl);(have e1:(b::s).takeWhile (· != c)=b::s.takeWhile (· != c):=by rw[P0,Ca h']);rw[C4 Cl,e1,DR c s,C2,C2];by_cases hl:(s.takeWhile (· != c)).length<s.length;rw[Ca hl,C4 (by simp),Ca (by omega)];omega;rw[C4 hl,Ca (by rfl),C4 (by omega)]
theorem J06(b:UInt8):((b.toNat:Int).toNat).toUInt8=b:=by simp
theorem Um(c:UInt8)(n:UInt8):((c.toNat:Int)==(n.toNat:Int))=decide (c=n):=by rw[ZQ];by_cases e:c=n;subst e;simp;rw[C8 e,C8];intro h';exact e (Sj.1 (by omega))
theorem J7q(a b:Bool):(cond a (some true) (some b))=some (a||b):=by cases a <;> rfl
theorem Q4m{a b n:Nat}(h1:a<=b)(h2:b<=n):(cond (decide (0<=(a:Int))) (cond (Nat.ble (a:Int).toNat (b:Int).toNat) (inB (b:Int) n) false) false)=true:=by rw[C7 (by omega),C9,Cb (by show a<=b;exact h1),C9];unfold inB;rw[C7 (by omega),C9];exact Cb h2
theorem Q4n(s:Jc6){a b:Nat}(h:a<=b):List.drop (a:Int).toNat (List.take (b:Int).toNat s)=(s.drop a).take (b-a):=by show List.drop a (List.take b s)=_;rw[List.drop_take]
theorem Q4h{p:UInt8->Bool}(s:Jc6):s.take (s.takeWhile p).length=s.takeWhile p:=by
 conv=>lhs;rw[<-CL (p:=p) (l:=s)]
 have h:((s.takeWhile p++s.dropWhile p).takeWhile p).length=(s.takeWhile p).length:=by rw[CL]
 rw[h,List.take_left'];rfl
theorem Qwx(s:Jc6)(hs:s.length<=65536){k:Nat}(hk:k<s.length):Qo4 s (k:Int)=some ((k+J6 (s.drop k):Nat):Int):=by
 obtain⟨c,hc⟩:∃c,s[k]?=some c:=⟨_,Cq hk⟩;have hd:s.drop k=c::s.drop (k+1):=Qih hc;have hnx:Qm ((k:Int)+1)=((k+1:Nat):Int):=Gz (by omega);unfold Qo4;rw[show QT s (k:Int)=some c from hc,C0,J7q,C0,hd,hnx,YZ];rw[show((c.toNat:Int)==40)=decide (c=40)from Um c 40,show((c.toNat:Int)==41)=decide (c=41)from Um c 41,
  show((c.toNat:Int)==91)=decide (c=91)from Um c 91,show((c.toNat:Int)==35)=decide (c=35)from Um c 35,show((c.toNat:Int)==63)=decide (c=63)from Um c 63]
 by_cases hp:c=40\/c=41;rw[Ca hp,show(decide (c=40)||decide (c=41))=true by rcases hp with rfl|rfl <;> rfl];rfl;have e1:decide (c=40)=false:=C8 λe=>hp (.inl e);have e2:decide (c=41)=false:=C8 λe=>hp (.inr e);rw[C4 hp,e1,e2,Bool.or_false,Cf];by_cases hb:c=91;rw[Ca hb,C7 hb,C9];have hin:inB (k:Int) s.length=true:=by unfold inB;rw[C7 (by omega),C9];exact Cb (by show k<=_;omega)
 rw[Qv hin];have h122:Qhq (List.drop (k:Int).toNat s) 93=some (Lib.indexByte (c::s.drop (k+1)) 93):=by rw[<-hd];rfl
 rw[h122,C0,DR];have hlen:(c::s.drop (k+1)).length=s.length-k:=by rw[<-hd,CB]
 by_cases hl:((c::s.drop (k+1)).takeWhile (· != 93)).length<(c::s.drop (k+1)).length;rw[Ca hl,Ca hl];generalize ((c::s.drop (k+1)).takeWhile (· != 93)).length=n at hl;rw[C7 (by omega),C9];rw[J7 (n:=(k:Int)+(n:Int)) (by omega) (by omega),J7 (by omega) (by omega)];show some ((k:Int)+(n:Int)+1)=_;congr 1;rw[C4 hl,C4 hl];rfl;rw[C4 hb,C8 hb,Cf,J7q,C0];by_cases hh:c=35\/c=63;rw[Ca hh,show(decide (c=35)||decide (c=63))=true by rcases hh with rfl|rfl <;> rfl,C9];rw[Qkw s (by omega) (k:=k+1) (by omega),C0];have hw:=GP (p:=GK) (s.drop (k+1));rw[CB]at hw;rw[Qv (Q4m (by omega) (by omega)),Q4n s (by omega),Pj,Q4h];rw[Q12 _ (by have:=GP (p:=GK) (s.drop (k+1));rw[CB]at this;omega),C0];cases(Wj ((s.drop (k+1)).takeWhile GK)).2 with|true=>rw[C9,Ca rfl];show some ((k+1+((s.drop (k+1)).takeWhile GK).length:Nat):Int)=_;rw[Pn]|false=>rw[Cf,C4 Cl];rfl
 have e3:decide (c=35)=false:=C8 λe=>hh (.inl e);have e4:decide (c=63)=false:=C8 λe=>hh (.inr e);rw[C4 hh,e3,e4,Bool.or_false,Cf,Qkv,C0];show Option.bind (Option.bind (Option.bind (cond (GK c) _ _) _) _) _=_;cases hi:GK c with|false=>rw[C4 Cl];rfl|true=>rw[Ca rfl,C9,Qkw s (by omega) (by omega),C0,hd];have hw:=GP (p:=GK) (c::s.drop (k+1));rw[<-hd]at hw⊢;rw[CB]at hw;rw[Qv (Q4m (by omega) (by omega)),Q4n s (by omega),Pj,Q4h];rw[Q12 _ (by have:=GP (p:=GK) (s.drop k);rw[CB]at this;omega),C0];have e5:decide ((c.toNat:Int)<48)=decide (c.toNat<48):=decide_eq_decide.2 (by omega);have e6:decide (57<(c.toNat:Int))=decide (57<c.toNat):=decide_eq_decide.2 (by omega);rw[J7q,e5,e6,J7q,C0];by_cases hz:(Wj ((s.drop k).takeWhile GK)).2=true\/c.toNat<48\/57<c.toNat;rw[Ca hz,show((Wj ((s.drop k).takeWhile GK)).2||(decide (c.toNat<48)||decide (57<c.toNat)))=true by simpa using hz];rfl;rw[C4 hz,show((Wj ((s.drop k).takeWhile GK)).2||(decide (c.toNat<48)||decide (57<c.toNat)))=false by simpa using hz];rfl
def isSp(b:UInt8):Bool:=([32,9,13,10]:List UInt8).contains b
def Zg:Nat->Jc6->Nat->List Tkn
 |0,_,_=>[]
 |n+1,r,k=>if J6 (r.dropWhile isSp)=0 then[⟨[],((k+(r.takeWhile isSp).length:Nat):Int)⟩]else
   ⟨(r.dropWhile isSp).take (J6 (r.dropWhile isSp)),((k+(r.takeWhile isSp).length:Nat):Int)⟩::Zg n ((r.dropWhile isSp).drop (J6 (r.dropWhile isSp))) (k+(r.takeWhile isSp).length+J6 (r.dropWhile isSp))
def toks(s:Jc6):List Tkn:=Zg (s.length+1) s 0
theorem J4p(b:UInt8):decide (0<=Lib.indexByte ([32,9,13,10]:List UInt8) b)=isSp b:=by
 by_cases h1:b=32;subst h1;rfl;by_cases h2:b=9;subst h2;rfl;by_cases h3:b=13;subst h3;rfl;by_cases h4:b=10;subst h4;rfl;have e1:Lib.indexByte ([32,9,13,10]:List UInt8) b = -1:=by simp[Lib.indexByte,Ne.symm h1,Ne.symm h2,Ne.symm h3,Ne.symm h4]
 have e2:isSp b=false:=by unfold isSp;simp[h1,h2,h3,h4]
 rw[e1,e2];rfl
def Q4i(a0:Jc6):Int×(List Tkn)->Option (LO (Int×(List Tkn)) (Unit⊕(List Tkn))):=(λs42=>Option.bind (Qa (σ:=Int) (β:=Int) (λs54=>Option.bind (cond ((decide (s54<(a0.length:Int)))) (Option.bind (QT a0 s54) λ(x59:UInt8)=>Option.bind (Qhq ([32,9,13,10]:List UInt8) (x59.toNat:Int)) λ(x60:Int)=>some (decide (0<=x60))) (some false)) λ(v58:Bool)=>cond v58 (some (.next (Qm (s54+1)))) (some (.done s54))) Qd s42.1) λ(v55:Int)=>Option.bind (cond ((decide (v55<(a0.length:Int)))) (Option.bind (Qo4 a0 v55) λ(x63:Int)=>some x63) (some v55)) λ(v62:Int)=>Q7 (cond (decide (0<=v55)) (cond (Nat.ble v55.toNat v62.toNat) (inB v62 a0.length) false) false) (Q7 (Nat.ble (s42.2.length+([(Tkn.mk (List.drop v55.toNat (List.take v62.toNat a0)) v55)]:List Tkn).length) 1000000000) (cond ((v62==v55)) (some (.done (.inr (s42.2++([(Tkn.mk (List.drop v55.toNat (List.take v62.toNat a0)) v55)]:List Tkn))))) (some (.next (v62,(s42.2++([(Tkn.mk (List.drop v55.toNat (List.take v62.toNat a0)) v55)]:List Tkn))))))))
theorem Qvm(s:Jc6)(hs:s.length<=900000000){k:Nat}(hk:k<=s.length):Qa (σ:=Int) (β:=Int) (λs54=>Option.bind (cond ((decide (s54<(s.length:Int)))) (Option.bind (QT s s54) λ(x59:UInt8)=>Option.bind (Qhq ([32,9,13,10]:List UInt8) (x59.toNat:Int)) λ(x60:Int)=>some (decide (0<=x60))) (some false)) λ(v58:Bool)=>cond v58 (some (.next (Qm (s54+1)))) (some (.done s54))) Qd (k:Int)=some ((k+((s.drop k).takeWhile isSp).length:Nat):Int):=by refine US s isSp hs (λj b hb=>?_) ?_ k hk;rw[C7 (by have:=(Ce.1 hb).1;omega),C9,show QT s (j:Int)=some b from hb,C0];rw[show Qhq ([32,9,13,10]:List UInt8) (b.toNat:Int)=some (Lib.indexByte ([32,9,13,10]:List UInt8) b) by unfold Qhq;rw[J06],C0,J4p,C0];cases isSp b <;> rfl;rw[Jb];rfl
theorem X2{p:UInt8->Bool}(s:Jc6):(s.takeWhile p).length+(s.dropWhile p).length=s.length:=by rw[<-C3,CL]
theorem Qd5(s:Jc6)(hs:s.length<=65536):∀(n k:Nat)(acc:List Tkn),k<=s.length->s.length<n+k->acc.length<=k->Qa (Q4i s) n ((k:Int),acc)=some (.inr (acc++Zg n (s.drop k) k))
 |0,k,acc,h1,h2,h3=>by omega
 |n+1,k,acc,h1,h2,h3=>by
  have hdl:=X2 (p:=isSp) (s.drop k);rw[CB]at hdl;have hsp:s.drop (k+((s.drop k).takeWhile isSp).length)=(s.drop k).dropWhile isSp:=by rw[<-Qgm,List.drop_drop]
  have hsc:=GR ((s.drop k).dropWhile isSp);have hsl:=Qvm s (by omega) h1;have hlx:Zg (n+1) (s.drop k) k=if J6 ((s.drop k).dropWhile isSp)=0 then[⟨[],((k+((s.drop k).takeWhile isSp).length:Nat):Int)⟩]else⟨((s.drop k).dropWhile isSp).take (J6 ((s.drop k).dropWhile isSp)),((k+((s.drop k).takeWhile isSp).length:Nat):Int)⟩::Zg n (((s.drop k).dropWhile isSp).drop (J6 ((s.drop k).dropWhile isSp))) (k+((s.drop k).takeWhile isSp).length+J6 ((s.drop k).dropWhile isSp)):=rfl
  rw[hlx];rw[<-hsp]at hdl hsc⊢;generalize ((s.drop k).takeWhile isSp).length=t at *;rw[CB]at hdl hsc;have hto:(cond ((decide (((k+t:Nat):Int)<(s.length:Int)))) (Option.bind (Qo4 s ((k+t:Nat):Int)) λ(x63:Int)=>some x63) (some ((k+t:Nat):Int)))=some ((k+t+J6 (s.drop (k+t)):Nat):Int):=by by_cases hlt:k+t<s.length;rw[C7 (by omega),C9,Qwx s hs hlt];rfl;rw[C8 (by omega),Cf,List.drop_eq_nil_of_le (by omega)];rfl
  have hst:Q4i s ((k:Int),acc)=cond (((k+t+J6 (s.drop (k+t)):Nat):Int)==((k+t:Nat):Int)) (some (.done (.inr (acc++[⟨(s.drop (k+t)).take (J6 (s.drop (k+t))),((k+t:Nat):Int)⟩])))) (some (.next (((k+t+J6 (s.drop (k+t)):Nat):Int),acc++[⟨(s.drop (k+t)).take (J6 (s.drop (k+t))),((k+t:Nat):Int)⟩]))):=by unfold Q4i;dsimp only;rw[hsl,C0,hto,C0,Qv (Q4m (by omega) (by omega)),DT (by simp only[C2,Ci];omega),Q4n s (by omega),Pj]
  simp only[Qa];rw[hst];by_cases h0:J6 (s.drop (k+t))=0;rw[Ca h0,h0,Pt,CN.2 rfl,C9];rfl;rw[C4 h0,show((((k+t+J6 (s.drop (k+t)):Nat):Int)==((k+t:Nat):Int))=false)from P4.2 (by omega),Cf];show Qa (Q4i s) n (((k+t+J6 (s.drop (k+t)):Nat):Int),acc++[_])=_;rw[Qd5 s hs n (k+t+J6 (s.drop (k+t))) _ (by omega) (by omega) (by rw[C3];simp only[C2,Ci];omega),Ct,List.drop_drop];rfl
theorem Qld:∀(n:Nat)(r:Jc6)(k:Nat),(Zg n r k).length<=n|0,_,_=>Ck _|n+1,r,k=>by unfold Zg;split;show 1<=n+1;omega;rw[C2];have:=Qld n ((r.dropWhile isSp).drop (J6 (r.dropWhile isSp))) (k+(r.takeWhile isSp).length+J6 (r.dropWhile isSp));omega
theorem Qla(n:Nat)(r:Jc6)(k:Nat):0<(Zg (n+1) r k).length:=by unfold Zg;split;exact Nat.zero_lt_one;exact Pu _
theorem Q4g(x:Tkn)(l:List Tkn):Jn (x::l) 0=x.text:=rfl
theorem GM(x:Tkn)(l:List Tkn)(j:Nat):Jn (x::l) (j+1)=Jn l j:=rfl
theorem Qab(j:Nat):Jn [] j=[]:=by unfold Jn;simp
theorem Qvo{r:Jc6}(h:J6 r≠0)(hb:Lib.hasPrefix (r.take (J6 r)) [91]=true):2<=J6 r/\J6 r<=r.length:=by refine⟨?_,GR r⟩;cases r with|nil=>exact absurd rfl h|cons c r=>(have hc:c=91:=by obtain⟨n,hn⟩:=Nat.exists_eq_succ_of_ne_zero h;rw[hn,List.take_succ_cons]at hb;unfold Lib.hasPrefix at hb;simp only[List.isPrefixOf,Bool.and_true]at hb;exact(CN.1 hb).symm);subst hc;rw[YZ,C4 (by decide),Ca rfl]at h⊢;split;rw[P0,Ca (by decide),C2];omega;rename_i h';rw[C4 h']at h;exact absurd rfl h
theorem Qbk:∀(n:Nat)(r:Jc6)(k:Nat),r.length<n->r.length<=65536->(∀j,Jn (Zg n r k) j≠[]->j+1<(Zg n r k).length)/\(∀j,(Jn (Zg n r k) j).length<=65536)/\∀j,Lib.hasPrefix (Jn (Zg n r k) j) [91]=true->2<=(Jn (Zg n r k) j).length
 |0,r,k,h,_=>by omega
 |n+1,r,k,h,h6=>by
  have hdl:=X2 (p:=isSp) r;have hsc:=GR (r.dropWhile isSp);unfold Zg;split;refine⟨λj hj=>?_,λj=>?_,λj hj=>?_⟩;cases j with|zero=>exact absurd rfl hj|succ j=>rw[GM,Qab]at hj;exact absurd rfl hj
  cases j with|zero=>exact Cs _|succ j=>rw[GM,Qab];exact Cs _
  cases j with|zero=>rw[Q4g]at hj;cases hj|succ j=>rw[GM,Qab]at hj;cases hj
  rename_i h0;obtain⟨i1,i2,i3⟩:=Qbk n ((r.dropWhile isSp).drop (J6 (r.dropWhile isSp))) (k+(r.takeWhile isSp).length+J6 (r.dropWhile isSp)) (by rw[CB];omega) (by rw[CB];omega);refine⟨λj hj=>?_,λj=>?_,λj hj=>?_⟩;cases j with|zero=>rw[C2];(have:0<(Zg n ((r.dropWhile isSp).drop (J6 (r.dropWhile isSp))) (k+(r.takeWhile isSp).length+J6 (r.dropWhile isSp))).length:=by cases n with|zero=>omega|succ n=>exact Qla n _ _);omega|succ j=>rw[GM]at hj;rw[C2];have:=i1 j hj;omega
  cases j with|zero=>rw[Q4g];show(List.take _ _).length<=_;rw[CP];omega|succ j=>rw[GM];exact i2 j
  cases j with|zero=>rw[Q4g]at hj⊢;have:=Qvo h0 hj;show 2<=(List.take _ _).length;rw[CP];omega|succ j=>rw[GM]at hj⊢;exact i3 j hj
theorem Qvd(s:Jc6)(h:s.length<=65536):GL (toks s) where
 len:=by have:=Qld (s.length+1) s 0;unfold toks;omega
 last:=(Qbk (s.length+1) s 0 (by omega) h).1
 short:=(Qbk (s.length+1) s 0 (by omega) h).2.1
 br:=(Qbk (s.length+1) s 0 (by omega) h).2.2
def Jab:Tm:=Tm.mk 0 0 [] [] []
inductive RdE where
 |ok (t:Tm)
 |bad (i:Int)
def Dv(lv:Jc6->Lvl×Int)(s:Jc6):RdE:=match Jaq lv Qd (Jn (toks s)) 0 with|.inl (t,m)=>if Jn (toks s) m=[]/\Qcw (toks s) m=(s.length:Int)then .ok t else .bad (Qcw (toks s) m)|.inr m=>.bad (Qcw (toks s) m)
theorem J0z{lv:Jc6->Lvl×Int}(hl:∀s:Jc6,s.length<=65536->DF s=some (lv s))(s:Jc6)(h:s.length<=65536):Qcv s=match Dv lv s with
  |.ok t=>Option.bind (Qs5 t) λ(x69:(List UInt8)×Int)=>cond ((x69.2 != 0)) (some (Jab,0,x69.2)) (some (t,0,0))
  |.bad i=>some (Jab,i,4):=by
 have hG:=Qvd s h
 have h0:0<(toks s).length:=Qla _ _ _
 have ht:Qa (Q4i s) Qd ((0:Int),[])=some (.inr (toks s)):=by
  have key:∀n,s.length+1<=n->Qa (Q4i s) n ((0:Int),[])=some (.inr (Zg n s 0)):=λn hn=>Qd5 s h n 0 [] (Cs _) (by omega) (Cs _)
  have e:∀(n:Nat)(r:Jc6)(k:Nat),r.length<n->Zg (n+1) r k=Zg n r k:=by
   intro n
   induction n with
   |zero=>intro r k hr;omega
   |succ n ih=>
    intro r k hr
    have hdl:=X2 (p:=isSp) r
    have hsc:=GR (r.dropWhile isSp)
    show(if J6 (r.dropWhile isSp)=0 then _ else _::Zg (n+1) _ _)=(if J6 (r.dropWhile isSp)=0 then _ else _::Zg n _ _)
    by_cases hz:J6 (r.dropWhile isSp)=0
    ·rw[Ca hz,Ca hz]
    ·rw[C4 hz,C4 hz,ih _ _ (by rw[CB];omega)]
  have e2:∀d,Zg (s.length+1+d) s 0=toks s:=by
   intro d
   induction d with
   |zero=>rfl
   |succ d ih=>rw[<-Pn,e _ _ _ (by omega),ih]
  rw[key Qd (by unfold Qd;omega)]
  obtain⟨d,hd⟩:∃d,Qd=s.length+1+d:=⟨Qd-(s.length+1),by unfold Qd;omega⟩
  rw[hd,e2]
 unfold Qcv
 rw[C8 (by omega),Cf]
 show Option.bind (Option.bind (Qa (Q4i s) Qd ((0:Int),[])) _) _=_
 rw[ht]
 show Option.bind (J7n ⟨toks s,0⟩) _=_
 rw[J0q hl hG h0]
 unfold Dv
 cases hr:Jaq lv Qd (Jn (toks s)) 0 with
 |inr m=>rfl
 |inl r=>
  obtain⟨t,m⟩:=r
  have hm:=((Qkj lv Qd).rng (Jn (toks s)) (toks s).length 0 hG.last h0).1 t m hr
  show Option.bind (J59 ⟨toks s,(m:Int)⟩ s) _=_
  rw[J0p hm]
  by_cases he:Jn (toks s) m=[]/\Qcw (toks s) m=(s.length:Int)
  ·rw[Ca he];dsimp only;rw[Ca he];rfl
  ·rw[C4 he];dsimp only;rw[C4 he];rfl
end
section
open Go.RowKit Go.Shelf
theorem Q0m{p:UInt8->Bool}:∀(w:Jc6)(x:UInt8)(t:Jc6),(∀b∈w,p b=true)->p x=false->(w++x::t).takeWhile p=w|[],x,t,_,hx=>by rw[P3,P0,C4 (by rw[hx];exact Cl)]|b::w,x,t,hw,hx=>by rw[P5,P0,Ca (hw b Cd),Q0m w x t (λc hc=>hw c (Cg _ hc)) hx]
theorem KO(n:Nat)(r:Jc6)(k:Nat):Zg (n+1) r k=if J6 (r.dropWhile isSp)=0 then[⟨[],((k+(r.takeWhile isSp).length:Nat):Int)⟩]else⟨(r.dropWhile isSp).take (J6 (r.dropWhile isSp)),((k+(r.takeWhile isSp).length:Nat):Int)⟩::Zg n ((r.dropWhile isSp).drop (J6 (r.dropWhile isSp))) (k+(r.takeWhile isSp).length+J6 (r.dropWhile isSp)):=rfl
theorem Qr4{c:UInt8}(hc:c=40\/c=41)(r:Jc6):J6 (c::r)=1:=by rw[YZ,Ca hc]
theorem Qzz{c:UInt8}(hc:c=40\/c=41):isSp c=false:=by rcases hc with rfl|rfl <;> decide
end
section
open Go.RowKit Go.Shelf
def arity(k:Int):Nat:=if k=4\/k=5\/k=6\/k=7 then 2 else if k=8\/k=11 then 3 else if k=9\/k=10 then 1 else 0
structure NodeP(t:Tm):Prop where
 k:0<=t.kind/\t.kind<13
 ix:t.kind≠0->t.kind≠12->t.index=0
 ix0:0<=t.index
 ix1:t.index<1000000000
 me:t.kind=12->t.index<1000000
 nm:t.kind≠3->t.name=[]
 nk:t.kind=3->JL t.name=true
 l2:t.kind=2->t.levels.length=1
 l0:t.kind≠2->t.kind≠3->t.levels=[]
 l3:t.levels.length<=8
 kd:t.kids.length=arity t.kind
 lv:∀l∈t.levels,DM l
inductive OkT:Tm->Prop
 |mk {t:Tm} (h:NodeP t) (hk:∀k∈t.kids,OkT k):OkT t
theorem OkT.node{t:Tm}(h:OkT t):NodeP t:=by cases h;assumption
theorem OkT.kid{t k:Tm}(h:OkT t)(hk:k∈t.kids):OkT k:=by cases h with|mk _ h=>exact h k hk
structure FormP(t:Tm):Prop where
 k:0<=t.kind/\t.kind<13
 ix:t.kind≠0->t.kind≠12->t.index=0
 nm:t.kind≠3->t.name=[]
 l2:t.kind=2->t.levels.length=1
 l0:t.kind≠2->t.kind≠3->t.levels=[]
 kd:t.kids.length=arity t.kind
theorem Qxu(t:Tm)(h:Uj t=some true):FormP t:=by
 by_cases h1:t.kind<0;exfalso;unfold Uj at h;rw[C7 h1]at h;cases h;by_cases h2:13<=t.kind;exfalso;unfold Uj at h;rw[C8 h1,C7 h2]at h;cases h;have hk:t.kind=0\/t.kind=1\/t.kind=2\/t.kind=3\/t.kind=4\/t.kind=5\/t.kind=6\/t.kind=7\/t.kind=8\/t.kind=9\/t.kind=10\/t.kind=11\/t.kind=12:=by omega
 have fin:∀(ix nm ln:Bool)(lv kd:Int),Uj t=Qlw ix nm ln (t.index==0) (t.name==[]) ((t.levels.length:Int)==lv) ((t.kids.length:Int)==kd) -> (ix=false->t.index=0)/\(nm=false->t.name=[])/\(ln=false->(t.levels.length:Int)=lv)/\(t.kids.length:Int)=kd:=by intro ix nm ln lv kd e;rw[h,Qer]at e;have e:=(CC e).symm;simp only[CD,Px,CN]at e;obtain⟨⟨⟨e1,e2⟩,e3⟩,e4⟩:=e;exact⟨λh=>by rcases e1 with e|e;rw[h]at e;cases e;exact e,λh=>by rcases e2 with e|e;rw[h]at e;cases e;exact e,λh=>by rcases e3 with e|e;rw[h]at e;cases e;exact e,e4⟩
 obtain⟨k,i,n,ls,ks⟩:=t;dsimp only[Tm.kind,Tm.index,Tm.name,Tm.levels,Tm.kids]at *;have mk:∀{ix nm ln:Bool}{lv kd:Int},Uj (Tm.mk k i n ls ks)=Qlw ix nm ln (i==0) (n==[]) ((ls.length:Int)==lv) ((ks.length:Int)==kd)->(k≠0->k≠12->ix=false)->(k≠3->nm=false)->(k=2->ln=false/\lv=1)->(k≠2->k≠3->ln=false/\lv=0)->kd=(arity k:Nat)->FormP (Tm.mk k i n ls ks):=by intro ix nm ln lv kd e h3 h4 h5 h6 h7;obtain⟨f1,f2,f3,f4⟩:=fin ix nm ln lv kd e;refine⟨⟨by show 0<=k;omega,by show k<13;omega⟩,λa b=>f1 (h3 a b),λa=>f2 (h4 a),λa=>?_,λa b=>?_,?_⟩;obtain⟨g1,Jb9⟩:=h5 a;have:=f3 g1;show ls.length=1;omega;obtain⟨g1,Jb9⟩:=h6 a b;have:=f3 g1;show ls=[];exact Cv (by omega);show ks.length=arity k;omega
 rcases hk with hk|hk|hk|hk|hk|hk|hk|hk|hk|hk|hk|hk|hk <;> subst hk;exact mk (ix:=true) (nm:=false) (ln:=false) (lv:=0) (kd:=0) rfl (λa=>(a rfl).elim) (λ_=>rfl) (λa=>by omega) (λ_ _=>⟨rfl,rfl⟩) rfl;exact mk (ix:=false) (nm:=false) (ln:=false) (lv:=0) (kd:=0) rfl (λ_ _=>rfl) (λ_=>rfl) (λa=>by omega) (λ_ _=>⟨rfl,rfl⟩) rfl;exact mk (ix:=false) (nm:=false) (ln:=false) (lv:=1) (kd:=0) rfl (λ_ _=>rfl) (λ_=>rfl) (λ_=>⟨rfl,rfl⟩) (λa=>(a rfl).elim) rfl;exact mk (ix:=false) (nm:=true) (ln:=true) (lv:=-1) (kd:=0) rfl (λ_ _=>rfl) (λa=>(a rfl).elim) (λa=>by omega) (λ_ a=>(a rfl).elim) rfl;exact mk (ix:=false) (nm:=false) (ln:=false) (lv:=0) (kd:=2) rfl (λ_ _=>rfl) (λ_=>rfl) (λa=>by omega) (λ_ _=>⟨rfl,rfl⟩) rfl;exact mk (ix:=false) (nm:=false) (ln:=false) (lv:=0) (kd:=2) rfl (λ_ _=>rfl) (λ_=>rfl) (λa=>by omega) (λ_ _=>⟨rfl,rfl⟩) rfl;exact mk (ix:=false) (nm:=false) (ln:=false) (lv:=0) (kd:=2) rfl (λ_ _=>rfl) (λ_=>rfl) (λa=>by omega) (λ_ _=>⟨rfl,rfl⟩) rfl;exact mk (ix:=false) (nm:=false) (ln:=false) (lv:=0) (kd:=2) rfl (λ_ _=>rfl) (λ_=>rfl) (λa=>by omega) (λ_ _=>⟨rfl,rfl⟩) rfl;exact mk (ix:=false) (nm:=false) (ln:=false) (lv:=0) (kd:=3) rfl (λ_ _=>rfl) (λ_=>rfl) (λa=>by omega) (λ_ _=>⟨rfl,rfl⟩) rfl;exact mk (ix:=false) (nm:=false) (ln:=false) (lv:=0) (kd:=1) rfl (λ_ _=>rfl) (λ_=>rfl) (λa=>by omega) (λ_ _=>⟨rfl,rfl⟩) rfl;exact mk (ix:=false) (nm:=false) (ln:=false) (lv:=0) (kd:=1) rfl (λ_ _=>rfl) (λ_=>rfl) (λa=>by omega) (λ_ _=>⟨rfl,rfl⟩) rfl;exact mk (ix:=false) (nm:=false) (ln:=false) (lv:=0) (kd:=3) rfl (λ_ _=>rfl) (λ_=>rfl) (λa=>by omega) (λ_ _=>⟨rfl,rfl⟩) rfl;exact mk (ix:=true) (nm:=false) (ln:=false) (lv:=0) (kd:=0) rfl (λ_ a=>(a rfl).elim) (λ_=>rfl) (λa=>by omega) (λ_ _=>⟨rfl,rfl⟩) rfl
theorem J5j{V P:Int}{x:Lvl}(h:x.vs.length<=900000000)(h0:Q5i (Yv V P) x=some 0):DM x:=by obtain⟨b,hb1,hb2⟩:=Qb8 x h;unfold Q5i at h0;rw[hb1]at h0;cases b with|false=>cases h0|true=>exact hb2.1 rfl
theorem J13(t:Tm)(V P:Int)(h:t.size<=900000000):∃r,Qa (Zd t (Yv V P)) Qd 0=some r/\((r=.inl ()/\∀l∈t.levels,DM l)\/∃e:Int,e≠0/\r=.inr e):=by
 have hl:=XB t;have hl2:=DP lvz (λl=>by unfold lvz;omega) t.levels;refine Jm (step:=Zd t (Yv V P)) t.levels (λi (_:Unit)=>i) (λa _=>∀l∈a,DM l) (λr=>(r=.inl ()/\∀l∈t.levels,DM l)\/∃e:Int,e≠0/\r=.inr e) (by omega) (λa y b _ e hI=>?_) (λ_ hI=>⟨.inl (),by unfold Zd;rw[Jb];rfl,.inl ⟨rfl,hI⟩⟩) () (λx hx=>by cases hx);obtain⟨q1,q2⟩:=ZR e;have hy:y.vs.length<=900000000:=by have:=Qbc y;have:=WW lvz (show y∈t.levels from by rw[e];simp);omega
 obtain⟨c,h1,-⟩:=Ql7 V P y hy;by_cases hc:c=0;subst hc;refine .inr ⟨(),?_,λz hz=>?_⟩;unfold Zd;rw[q1,q2];show Option.bind (Q5i (Yv V P) y) _=_;rw[h1];rfl;rcases Cz.1 hz with hz|hz;exact hI z hz;rw[Cw.1 hz];exact J5j hy h1;refine .inl ⟨.inr c,?_,.inr ⟨c,hc,rfl⟩⟩;unfold Zd;rw[q1,q2];show Option.bind (Q5i (Yv V P) y) _=_;rw[h1];exact Qir hc _ _
theorem Qwc(t:Tm)(dep:Nat)(P:Int)(h:t.size<=900000000)(hd:dep<=900000000)(h0:Qwj (Yv 1000000 P) t (dep:Int)=some 0):NodeP t:=by
 obtain⟨b,hb,-⟩:=Qlv t;have hi:=J5n (n:=t.index) (by have:=t.size_eq;omega);have hn:t.name.length<=900000000:=by have:=t.size_eq;omega
 unfold Qwj at h0;rw[hb]at h0;cases b with
 |false=>cases h0
 |true=>
  have f:=Qxu t hb;obtain⟨r,hr1,hr2⟩:=J13 t 1000000 P h;have tail:Option.bind (Qa (Zd t (Yv 1000000 P)) Qd 0) (Sum.elim (λ(o7:Unit)=>GB t (Yv 1000000 P) (dep:Int)) (λo=>some o))=some 0->(∀l∈t.levels,DM l)/\0<=t.index/\t.index<1000000000/\(t.kind=12->t.index<1000000):=by intro h1;rw[hr1]at h1;rcases hr2 with⟨rfl,hv⟩|⟨e,he,rfl⟩;have h1:GB t (Yv 1000000 P) (dep:Int)=some 0:=h1;refine⟨hv,?_⟩;unfold GB at h1;rw[ZQ t.kind 0,ZQ t.kind 12]at h1;by_cases k0:t.kind=0;rw[C7 k0,C8 (show ¬t.kind=12 by omega)]at h1;by_cases c1:t.index<0;rw[C7 c1]at h1;cases h1;rw[C8 c1]at h1;by_cases c2:max 1000000 0<=Qm (t.index-(dep:Int));rw[show decide ((Yv 1000000 P).vars<=Qm (t.index-(dep:Int)))=true from C7 c2]at h1;cases h1;rw[J7 (by omega) (by omega)]at c2;exact⟨by omega,by omega,λa=>by omega⟩;rw[C8 k0]at h1;by_cases k1:t.kind=12;rw[C7 k1]at h1;by_cases c1:t.index<0;rw[C7 c1]at h1;cases h1;rw[C8 c1]at h1;by_cases c2:1000000<=t.index;rw[show decide ((Yv 1000000 P).metas<=t.index)=true from C7 c2]at h1;cases h1;exact⟨by omega,by omega,λa=>by omega⟩;have:=f.ix k0 k1;exact⟨by omega,by omega,λa=>by omega⟩;cases h1;exact(he rfl).elim
  have fin:(t.kind=3->JL t.name=true/\t.levels.length<=8)->(∀l∈t.levels,DM l)/\0<=t.index/\t.index<1000000000/\(t.kind=12->t.index<1000000)->NodeP t:=λh1 h2=>by refine⟨f.k,f.ix,h2.2.1,h2.2.2.1,h2.2.2.2,f.nm,λa=>(h1 a).1,f.l2,f.l0,?_,f.kd,h2.1⟩;by_cases a:t.kind=3;exact(h1 a).2;by_cases a2:t.kind=2;have:=f.l2 a2;omega;rw[f.l0 a2 a];exact Cs _
  simp only[C0,PV,Cf]at h0;rw[ZQ]at h0;by_cases Jb0:t.kind=3;rw[C7 Jb0,C9,Qba _ hn,C0]at h0;cases hN:JL t.name with|false=>rw[hN]at h0;cases h0|true=>rw[hN]at h0;by_cases h8:8<(t.levels.length:Int);rw[C7 h8]at h0;cases h0;rw[C8 h8]at h0;exact fin (λ_=>⟨hN,by omega⟩) (tail h0)
  rw[C8 Jb0]at h0;exact fin (λa=>(Jb0 a).elim) (tail h0)
theorem Qjq(P:Int):∀(n:Nat)(t:Tm)(dep:Nat),t.size<=n->dep+t.size<=900000000->Jo Q5e n (t,(dep:Int),max 1000000 0,P,1000000,1000000)=some 0->OkT t|0,t,_,h,_,_=>by rw[t.size_eq]at h;omega|n+1,t,dep,h,hd,h0=>by have h0:Qrv (Jo Q5e n) t (dep:Int) (max 1000000 0) P 1000000 1000000=some 0:=h0;obtain⟨e,h1,h2,h3⟩:=Qko t (dep:Int) 1000000 P (by omega);rw[h2]at h0;by_cases he:e=0;subst he;rw[Ca rfl]at h0;have hN:=Qwc t dep P (by omega) (by omega) h1;obtain⟨k0,k1⟩:=hN.k;obtain⟨v,hv,hj⟩:=Qmi t.kind k0 k1;have hl:=K6 t;(have key:∃r,Qa (G4 t (Jo Q5e n) (dep:Int) (max 1000000 0) P 1000000 1000000) Qd 0=some r/\((r=.inl ()/\∀k∈t.kids,OkT k)\/∃e:Int,e≠0/\r=.inr e):=by refine Jm (step:=G4 t (Jo Q5e n) (dep:Int) (max 1000000 0) P 1000000 1000000) t.kids (λi (_:Unit)=>i) (λa _=>∀k∈a,OkT k) (λr=>(r=.inl ()/\∀k∈t.kids,OkT k)\/∃e:Int,e≠0/\r=.inr e) (by omega) (λa x b _ e hI=>?_) (λ_ hI=>⟨.inl (),by unfold G4;rw[Jb];rfl,.inl ⟨rfl,hI⟩⟩) () (λx hx=>by cases hx);obtain⟨q1,q2⟩:=ZR e;have hxs:=J4 (t:=t) (k:=x) (by rw[e];simp);have hx:=Qav e;(obtain⟨d',hd1,hd3⟩:∃d':Nat,Qm ((dep:Int)+(if(a.length:Int)=v then 1 else 0))=(d':Int)/\d'<=dep+1:=by by_cases hh:(a.length:Int)=v;rw[Ca hh,Gz (by omega)];exact⟨dep+1,rfl,Ck _⟩;rw[C4 hh,J7 (by omega) (by omega)];exact⟨dep,by omega,by omega⟩);obtain⟨e',w1,-,-⟩:=Q3l 1000000 P t n x d' 0 (by omega) (by omega) (by omega);(have st:G4 t (Jo Q5e n) (dep:Int) (max 1000000 0) P 1000000 1000000 (a.length:Int)=cond (e' != 0) (some (.done (.inr e'))) (some (.next (Qm ((a.length:Int)+1)))):=by unfold G4;rw[q1,q2];simp only[C9,C0];rw[hj a.length];simp only[C0];rw[hd1,w1];rfl);by_cases he:e'=0;subst he;refine .inr ⟨(),st,λz hz=>?_⟩;rcases Cz.1 hz with hz|hz;exact hI z hz;rw[Cw.1 hz];exact Qjq P n x d' (by omega) (by omega) w1;refine .inl ⟨_,by rw[st,Qfg he];rfl,.inr ⟨e',he,rfl⟩⟩);obtain⟨r,hr1,hr2⟩:=key;unfold Q94 at h0;rw[hr1]at h0;rcases hr2 with⟨rfl,hk⟩|⟨e,he,rfl⟩;exact .mk hN hk;cases h0;exact(he rfl).elim;rw[C4 he]at h0;cases h0;exact(he rfl).elim
theorem Qf6(t:Tm)(h:t.size<=900000000)(h0:J5a t 1000000 1000000 1000000 1000000=some 0):OkT t:=by obtain⟨e,h1,-,-⟩:=Q3l 1000000 1000000 t Qd t 0 0 (by unfold Qd;omega) (by omega) (by omega);have h2:J85 t 0 (max 1000000 0) 1000000 1000000 1000000=some e:=h1;unfold J5a at h0;rw[h2,C0]at h0;by_cases he:e=0;subst he;exact Qjq 1000000 Qd t 0 (by unfold Qd;omega) (by omega) h1;rw[Qfg he]at h0;cases h0;exact(he rfl).elim
end
section
open Go.RowKit Go.Shelf
abbrev YC(s:Jc6):List Byt:=List.map (λb:UInt8=>(⟨b.toNat⟩:Byt)) s
def Qgc:List Jc6:=[[97,112,112],[108,97,109],[112,105],[115,105,103,109,97],[112,97,105,114],[102,115,116],[115,110,100],[108,101,116]]
def Jz(k:Int):Jc6:=(Qgc[(k-4).toNat]?).getD []
def Dh(l:Lvl):Jc6:=[91]++Zx l++[93]
def XZ(ls:List Lvl):Jc6:=(ls.map λl=>[32]++Dh l).flatten
def Ql:Tm->Jc6
 |.mk k i n ls ks=>if k=0 then[35]++JO i.toNat else if k=12 then[63]++JO i.toNat else if k=1 then[112,114,111,112]else
  if k=2 then[40,115,111,114,116,32]++(ls.map Dh).headD []++[41]else
  if k=3 then(if ls=[]/\n≠[112,114,111,112]then n else[40,99,111,110,115,116,32]++n++XZ ls++[41])else
  [40]++Jz k++(ks.attach.map λk=>[32]++Ql k.1).flatten++[41]
termination_by t=>SizeOf.sizeOf t
decreasing_by
 have:=Pi k.2
 simp only[Tm.mk.sizeOf_spec];omega
def JT(ks:List Tm):Jc6:=(ks.map λk=>[32]++Ql k).flatten
theorem K3(k i:Int)(n:Jc6)(ls:List Lvl)(ks:List Tm):Ql (.mk k i n ls ks)=if k=0 then[35]++JO i.toNat else if k=12 then[63]++JO i.toNat else if k=1 then[112,114,111,112]else if k=2 then[40,115,111,114,116,32]++(ls.map Dh).headD []++[41]else if k=3 then(if ls=[]/\n≠[112,114,111,112]then n else[40,99,111,110,115,116,32]++n++XZ ls++[41])else[40]++Jz k++JT ks++[41]:=by
 rw[Ql];have:(ks.attach.map λk=>[32]++Ql k.1).flatten=JT ks:=by unfold JT;rw[Sf (f:=λk=>[32]++Ql k)]
 rw[this]
theorem X3{i:Int}(h0:0<=i)(h:i<1000000000):(JO i.toNat).length<=9:=Q02 8 _ (by omega)
theorem WU{k:Int}(h:4<=k)(h2:k<12):(Jz k).length<=5/\Qgc[(k-4).toNat]?=some (Jz k):=by
 have:k=4\/k=5\/k=6\/k=7\/k=8\/k=9\/k=10\/k=11:=by omega
 rcases this with rfl|rfl|rfl|rfl|rfl|rfl|rfl|rfl <;> exact⟨by decide,rfl⟩
theorem Qmg{l:Lvl}(h:DM l):(Dh l).length+1<=36*lvz l:=by
 have h1:=Q0l h;have h2:lvz l=1+l.vs.length:=by unfold lvz;rw[List.map_const',List.sum_replicate_nat];omega
 unfold Dh;simp only[C3,C2,Ci];omega
theorem Qi9{α:Type}(f:α->Jc6)(g:α->Nat):∀l:List α,(∀x∈l,(f x).length<=g x)->(l.map f).flatten.length<=(l.map g).sum|[],h=>Ck _|x::l,h=>by simp only[CH,PH,C3,PE];have h1:=h x Cd;have h2:=Qi9 f g l λy hy=>h y (Cg _ hy);omega
theorem Qae{α:Type}(c:Nat)(g:α->Nat):∀l:List α,(l.map λx=>c*g x).sum=c*(l.map g).sum|[]=>rfl|x::l=>by simp only[CH,PE,Qae c g l,Nat.mul_add]
theorem Qs8{ls:List Lvl}(h:∀l∈ls,DM l):(XZ ls).length<=36*(ls.map lvz).sum:=by rw[<-Qae];refine Qi9 _ _ ls λl hl=>?_;have:=Qmg (h l hl);simp only[C3,C2,Ci];omega
theorem Qmw(t:Tm):OkT t->(Ql t).length+1<=60*t.size:=by induction t using Qut with|h t ih=>intro h;have hN:=h.node;(have hk:(JT t.kids).length<=60*(t.kids.map Tm.size).sum:=by rw[<-Qae];refine Qi9 _ _ _ λk hk=>?_;have:=ih k hk (h.kid hk);simp only[C3,C2,Ci];omega);have hv:=Qs8 hN.lv;have hs:=t.size_eq;have hd:=X3 hN.ix0 hN.ix1;obtain⟨k,i,n,ls,ks⟩:=t;obtain⟨⟨c1,c2⟩,-,-,-,-,-,-,l2,-,-,-,lv⟩:=hN;dsimp only[Tm.kind,Tm.index,Tm.name,Tm.levels,Tm.kids]at *;rw[K3];split;simp only[C3,C2,Ci];omega;split;simp only[C3,C2,Ci];omega;split;simp only[C2,Ci];omega;split;rename_i h2;have:=l2 h2;(match ls,this with|[l],_=>have:=Qmg (lv l (by simp));simp only[CH,List.map_nil,List.headD_cons,C3,C2,Ci,PE,List.sum_nil]at *;omega);split;split;omega;simp only[C3,C2,Ci];omega;have:=(WU (k:=k) (by omega) (by omega)).1;simp only[C3,C2,Ci];omega
theorem Qks{a:Int}(h0:0<=a)(h1:a<1000000000):Qrw a=some (JO a.toNat):=by unfold Qrw;rw[Qv (by rw[C7 (by omega),C7 (by omega)];rfl),Qln h0]
theorem Qhc{l:Lvl}(h:DM l)(hn:l.vs.length<=2000000):Qz1 l=some (Dh l):=by have h1:=Q0l h;unfold Qz1 Dh;rw[Qx0 h (by omega),C0];rw[Qv (Cb (by simp only[C2,Ci];omega)),Qv (Cb (by simp only[C3,C2,Ci];omega))]
theorem Quj{α β:Type}{step:Int×List β->Option (LO (Int×List β) (List β))}(l:List α)(g:α->List β)(b0:List β)(hlen:l.length<=900000000)(hin:∀(a:List α)(x:α)(b:List α)(s:List β),l=a++x::b->s=b0++(a.map g).flatten->step ((a.length:Int),s)=some (.next (Qm ((a.length:Int)+1),s++g x)))(hout:∀s,step ((l.length:Int),s)=some (.done s)):Qa step Qd (0,b0)=some (b0++(l.map g).flatten):=by obtain⟨r,h1,h2⟩:=Jm (step:=step) l (λi (s:List β)=>(i,s)) (λa s=>s=b0++(a.map g).flatten) (λr=>r=b0++(l.map g).flatten) hlen (λa x b s e hI=>.inr ⟨s++g x,hin a x b s e hI,by rw[hI,Cp,List.flatten_append];simp⟩) (λs hI=>⟨s,hout s,hI⟩) b0 (by simp);exact h1.trans (by rw[h2])
theorem Gv(a b:Jc6):YC (a++b)=YC a++YC b:=Cp
theorem Qmf(a:Jc6):(YC a).length=a.length:=Cn ..
theorem Q65{α:Type}(f:α->Jc6):∀l:List α,(l.map λx=>YC (f x)).flatten=YC (l.map f).flatten|[]=>rfl|x::l=>by simp only[CH,PH,Q65 f l,Gv]
theorem Qw3{α:Type}(f:α->Jc6){l a b:List α}{x:α}(e:l=a++x::b):(a.map f).flatten.length+(f x).length<=(l.map f).flatten.length:=by rw[e];simp
end
section
open Go.RowKit Go.Shelf
structure PC{α:Type}(p:(Nat->Jc6)->Nat->Jbx α):Prop where
 emp:∀X k,X k=[]->p X k=.inr k
 cut:∀X X' k v m c,p X k=.inl (v,m)->k<=c->c<m->(∀j,j<c->X j=X' j)->X' c=[]->p X' k=.inr c
theorem PC.bind{α β:Type}{p:(Nat->Jc6)->Nat->Jbx α}{f:α->(Nat->Jc6)->Nat->Jbx β}(gp:PG p)(hp:PC p)(hf:∀v,PC (f v)):PC (λX k=>QD (p X k) λv m=>f v X m) where
 emp X k h:=by show QD (p X k) _=_;rw[hp.emp X k h];rfl
 cut X X' k v m c h hk hc hX h0:=by
  have h':QD (p X k) (λv m=>f v X m)=.inl (v,m):=h
  show QD (p X' k) (λv m=>f v X' m)=.inr c
  cases hr:p X k with
  |inr j=>rw[hr]at h';cases h'
  |inl x=>
   obtain⟨u,j⟩:=x
   rw[hr]at h'
   rcases P2 c j with hcj|hcj
   ·rw[hp.cut X X' k u j c hr hk hcj hX h0];rfl
   ·rw[gp.dep X X' k λi hi=>hX i (by rw[hr]at hi;exact Cj hi hcj),hr]
    exact(hf u).cut X X' j v m c h' hcj hc hX h0
theorem PC.map{α β:Type}{p:(Nat->Jc6)->Nat->Jbx α}(hp:PC p)(g:α->β):PC (λX k=>QD (p X k) λv m=>.inl (g v,m)) where
 emp X k h:=by show QD (p X k) _=_;rw[hp.emp X k h];rfl
 cut X X' k v m c h hk hc hX h0:=by
  have h':QD (p X k) (λv m=>(.inl (g v,m):Jbx β))=.inl (v,m):=h
  show QD (p X' k) (λv m=>(.inl (g v,m):Jbx β))=.inr c
  cases hr:p X k with
  |inr j=>rw[hr]at h';cases h'
  |inl x=>
   obtain⟨u,j⟩:=x
   rw[hr]at h'
   cases h'
   rw[hp.cut X X' k u m c hr hk hc hX h0];rfl
theorem PC.one{α:Type}(c:Jc6->Option α)(hc:c []=none):PC (λX k=>ZG c (X k) k) where
 emp X k h:=by show ZG c (X k) k=_;rw[h];exact ZF hc
 cut X X' k v m d h hk hd hX h0:=by
  have h':ZG c (X k) k=.inl (v,m):=h
  show ZG c (X' k) k=.inr d
  cases hr:c (X k)with
  |none=>rw[ZF hr]at h';cases h'
  |some u=>
   rw[Y3 hr]at h'
   cases h'
   have:d=k:=by omega
   subst this
   rw[h0];exact ZF hc
theorem PC.step{α:Type}(c:Jc6->Bool)(hc:c []=false){p q:(Nat->Jc6)->Nat->Jbx α}(hp:PC p)(hq:PC q):PC (λX k=>if c (X k)=true then p X (k+1)else q X k) where
 emp X k h:=by show(if c (X k)=true then _ else _)=_;rw[h,hc,C4 Cl];exact hq.emp X k h
 cut X X' k v m d h hk hd hX h0:=by
  have h':(if c (X k)=true then p X (k+1)else q X k)=.inl (v,m):=h
  show(if c (X' k)=true then p X' (k+1)else q X' k)=.inr d
  rcases Nat.eq_or_lt_of_le hk with e|hlt
  ·subst e
   rw[h0,hc,C4 Cl];exact hq.emp X' k h0
  ·rw[<-hX k hlt]
   by_cases hcx:c (X k)=true
   ·rw[Ca hcx]at h'⊢
    exact hp.cut X X' (k+1) v m d h' hlt hd hX h0
   ·rw[C4 hcx]at h'⊢
    exact hq.cut X X' k v m d h' hk hd hX h0
theorem PC.next{α:Type}(c:Jc6->Bool)(hc:c []=false){p:Jc6->(Nat->Jc6)->Nat->Jbx α}(hp:∀s,PC (p s)):PC (λX k=>if c (X k)=true then p (X k) X (k+1)else .inr k) where
 emp X k h:=by show(if c (X k)=true then _ else _)=_;rw[h,hc,C4 Cl]
 cut X X' k v m d h hk hd hX h0:=by
  have h':(if c (X k)=true then p (X k) X (k+1)else .inr k)=.inl (v,m):=h
  show(if c (X' k)=true then p (X' k) X' (k+1)else .inr k)=.inr d
  rcases Nat.eq_or_lt_of_le hk with e|hlt
  ·subst e
   rw[h0,hc,C4 Cl]
  ·rw[<-hX k hlt]
   by_cases hcx:c (X k)=true
   ·rw[Ca hcx]at h'⊢
    exact(hp _).cut X X' (k+1) v m d h' hlt hd hX h0
   ·rw[C4 hcx]at h';cases h'
theorem PC.refuse{α:Type}:PC (α:=α) (λ_ k=>.inr k) where
 emp X k h:=rfl
 cut X X' k v m d h hk hd hX h0:=by cases h
section
variable(lv:Jc6->Lvl×Int)
theorem Q8a{w:Jc6}(hw:w≠[]):PC (Kn w):=PC.one (Qme w) (C4 λh=>hw h.symm)
theorem Qn7:PC pName:=PC.one Q9q (C4 (by rw[DE];intro h;cases h))
theorem Qdz:PC (UK lv):=PC.one (Qu7 lv) (C4 (by decide))
theorem Qnb:PC pAtom:=PC.one Q2x rfl
theorem Q8c:∀f,PC (Yw lv f)|0=>PC.refuse|f+1=>by have h1:PC (λX k=>QD (UK lv X k) λl m=>QD (Yw lv f X m) λls m'=>.inl (l::ls,m')):=PC.bind (f:=λl X m=>QD (Yw lv f X m) λls m'=>.inl (l::ls,m')) (Xs lv) (Qdz lv) λl=>(Q8c f).map (l::·);constructor;intro X k h;show(if(X k==[41])=true then _ else _)=_;rw[h,C4 (by decide)];exact h1.emp X k h;intro X X' k v m d h hk hd hX h0;have h':(if(X k==[41])=true then .inl ([],k+1)else QD (UK lv X k) λl m=>QD (Yw lv f X m) λls m'=>.inl (l::ls,m'):Jbx (List Lvl))=.inl (v,m):=h;show(if(X' k==[41])=true then .inl ([],k+1)else QD (UK lv X' k) λl m=>QD (Yw lv f X' m) λls m'=>.inl (l::ls,m'):Jbx (List Lvl))=.inr d;rcases Nat.eq_or_lt_of_le hk with e|hlt;subst e;rw[h0,C4 (by decide)];exact h1.emp X' k h0;rw[<-hX k hlt];by_cases hcx:(X k==[41])=true;rw[Ca hcx]at h';cases h';omega;rw[C4 hcx]at h'⊢;exact h1.cut X X' k v m d h' hk hd hX h0
theorem Q8d{rc:(Nat->Jc6)->Nat->Jbx Tm}(g:PG rc)(h:PC rc):∀c,PC (GT rc c)|0=>(Q8a (by decide)).map λ_=>[]|c+1=>PC.bind (f:=λt X m=>QD (GT rc c X m) λts m'=>.inl (t::ts,m')) g h λt=>(Q8d g h c).map (t::·)
theorem Qn8{rc:(Nat->Jc6)->Nat->Jbx Tm}(g:PG rc)(h:PC rc):PC (Ur lv rc):=by have hs:PC (Q8b lv):=PC.bind (f:=λl X m=>QD (Kn [41] X m) λ_ m'=>.inl (Tm.mk 2 0 [] [l] [],m')) (Xs lv) (Qdz lv) λl=>(Q8a (by decide)).map λ_=>Tm.mk 2 0 [] [l] [];have hk:PC (Q0t lv):=PC.bind (f:=λnm X m=>QD (Yw lv 1000000 X m) λls m'=>.inl (Tm.mk 3 0 nm ls [],m')) pName_ok Qn7 λnm=>(Q8c lv 1000000).map λls=>Tm.mk 3 0 nm ls [];have hf:∀kd,PC (Dx rc kd):=λkd=>(Q8d g h (Wm kd)).map λts=>Tm.mk kd 0 [] [] ts;have h1:=PC.next (λs=>QY s != 0) (by rw[Q5p];rfl) (p:=λs=>Dx rc (QY s)) λs=>hf _;have h2:=PC.step (λs=>s==[99,111,110,115,116]) rfl hk h1;have h3:=PC.step (λs=>s==[115,111,114,116]) rfl hs h2;rw[Q51];exact h3
theorem Qre:∀n,PC (Jaq lv n)|0=>PC.refuse|n+1=>PC.step (λs=>s==[40]) rfl (Qn8 lv (Qkj lv n) (Qre n)) Qnb
end
def ZC:Tm->List Jc6
 |.mk k i n ls ks=>if k=0 then[[35]++JO i.toNat]else if k=12 then[[63]++JO i.toNat]else if k=1 then[[112,114,111,112]]else
  if k=2 then[[40],[115,111,114,116]]++ls.map Dh++[[41]]else
  if k=3 then(if ls=[]/\n≠[112,114,111,112]then[n]else[[40],[99,111,110,115,116],n]++ls.map Dh++[[41]])else
  [[40],Jz k]++(ks.attach.map λk=>ZC k.1).flatten++[[41]]
termination_by t=>SizeOf.sizeOf t
decreasing_by
 have:=Pi k.2
 simp only[Tm.mk.sizeOf_spec];omega
def Kl(ks:List Tm):List Jc6:=(ks.map ZC).flatten
theorem Qjt(k i:Int)(n:Jc6)(ls:List Lvl)(ks:List Tm):ZC (Tm.mk k i n ls ks)=if k=0 then[[35]++JO i.toNat]else if k=12 then[[63]++JO i.toNat]else if k=1 then[[112,114,111,112]]else if k=2 then[[40],[115,111,114,116]]++ls.map Dh++[[41]]else if k=3 then(if ls=[]/\n≠[112,114,111,112]then[n]else[[40],[99,111,110,115,116],n]++ls.map Dh++[[41]])else[[40],Jz k]++Kl ks++[[41]]:=by
 rw[ZC];have:(ks.attach.map λk=>ZC k.1).flatten=Kl ks:=by unfold Kl;rw[Sf (f:=ZC)]
 rw[this]
def Has(X:Nat->Jc6):Nat->List Jc6->Prop|_,[]=>True|k,x::l=>X k=x/\Has X (k+1) l
theorem Has.app{X:Nat->Jc6}:∀{k:Nat}{a b:List Jc6},Has X k (a++b)->Has X k a/\Has X (k+a.length) b|k,[],b,h=>⟨trivial,h⟩|k,x::a,b,h=>by obtain⟨h1,h2⟩:=h;obtain⟨h3,h4⟩:=Has.app (a:=a) h2;refine⟨⟨h1,h3⟩,?_⟩;rw[C2,show k+(a.length+1)=k+1+a.length by omega];exact h4
inductive IxT:Tm->Prop
 |mk {t:Tm} (h:t.index<1000000) (hk:∀k∈t.kids,IxT k):IxT t
theorem IxT.here{t:Tm}(h:IxT t):t.index<1000000:=by cases h;assumption
theorem IxT.kid{t k:Tm}(h:IxT t)(hk:k∈t.kids):IxT k:=by cases h with|mk _ h=>exact h k hk
theorem Q45:∀(n:Nat),∀b∈JO n,48<=b.toNat/\b.toNat<=57:=by intro n;induction n using Nat.strongRecOn with|ind n ih=>intro b hb;by_cases h:n<10;rw[Gd h]at hb;simp only[Cw]at hb;subst hb;rw[ZZ h];omega;rw[Zm h,Cz]at hb;rcases hb with hb|hb;exact ih (n / 10) (by omega) b hb;simp only[Cw]at hb;subst hb;rw[ZZ (by omega)];omega
theorem Qbz:∀n:Nat,∀acc,Lib.decFrom acc (JO n)=some (acc*10 ^ (JO n).length+n):=by
 intro n;induction n using Nat.strongRecOn with
 |ind n ih=>
  intro acc;have dv:∀k,k<10->Lib.digitVal (UInt8.ofNat (48+k))=some k:=λk hk=>by unfold Lib.digitVal;rw[ZZ hk,Ca (by omega)];congr 1;omega
  have app:∀(a b:Jc6)(x:Nat),Lib.decFrom x (a++b)=(Lib.decFrom x a).bind λy=>Lib.decFrom y b:=by
   intro a;induction a with
   |nil=>intro b x;rfl
   |cons c a iha=>
    intro b x;show(match Lib.digitVal c with
     |some d=>Lib.decFrom (x*10+d) (a++b)
     |none=>none)=Option.bind (match Lib.digitVal c with
     |some d=>Lib.decFrom (x*10+d) a
     |none=>none) λy=>Lib.decFrom y b
    cases Lib.digitVal c with|none=>rfl|some d=>exact iha b _
  by_cases h:n<10;rw[Gd h];unfold Lib.decFrom;rw[dv n h];show Lib.decFrom (acc*10+n) []=some (acc*10 ^ 1+n);rw[Nat.pow_one];rfl;rw[Zm h,app,ih (n / 10) (by omega),C0];unfold Lib.decFrom;rw[dv _ (Nat.mod_lt n (by omega))];show some _=some _;congr 1;rw[C3,List.length_singleton,Nat.pow_succ,<-Nat.mul_assoc,Sr];omega
theorem Qou{n:Nat}(h:1<(JO n).length):∃c r,JO n=c::r/\c≠48:=by
 have key:∀n:Nat,0<n->∃c r,JO n=c::r/\c≠48:=by intro n;induction n using Nat.strongRecOn with|ind n ih=>intro h0;by_cases h:n<10;refine⟨_,[],Gd h,λe=>?_⟩;have:=congrArg UInt8.toNat e;rw[ZZ h,show(48:UInt8).toNat=48 from rfl]at this;omega;obtain⟨c,r,h1,h2⟩:=ih (n / 10) (by omega) (by omega);exact⟨c,r++[UInt8.ofNat (48+n%10)],by rw[Zm h,h1];rfl,h2⟩
 refine key n ?_;rcases S0 n with h0|h0;subst h0;rw[Gd (by omega)]at h;simp at h;exact h0
theorem Qqb{s:Jc6}(h:∀b∈s,48<=b.toNat/\b.toNat<=57):Lib.trimS s digits=[]:=by
 have dm:∀b:UInt8,48<=b.toNat/\b.toNat<=57->digits.contains b=true:=by intro b hb;(have e:b=UInt8.ofNat (48+(b.toNat-48)):=by apply Sj.1;rw[ZZ (by omega)];omega);(have hk:b.toNat-48<10:=by omega);generalize b.toNat-48=k at e hk;subst e;match k,hk with|0,_=>rfl|1,_=>rfl|2,_=>rfl|3,_=>rfl|4,_=>rfl|5,_=>rfl|6,_=>rfl|7,_=>rfl|8,_=>rfl|9,_=>rfl
 have dw:∀s:Jc6,(∀b∈s,48<=b.toNat/\b.toNat<=57)->s.dropWhile (digits.contains ·)=[]:=by intro s;induction s with|nil=>intro _;rfl|cons b s ih=>intro h;rw[Sg,Ca (dm b (h b Cd))];exact ih λc hc=>h c (Cg _ hc)
 unfold Lib.trimS Lib.trimRightS Lib.trimLeftS;rw[dw s.reverse λb hb=>h b (List.mem_reverse.1 hb)];rfl
theorem Q57{n:Nat}(h:n<1000000):Wj (JO n)=((n:Int),true):=by
 have hl:(JO n).length<=6:=Q02 5 n (by omega);have hp:=Q01 n;have h1:=Q45 n;have ha:Lib.atoi (JO n)=some (n:Int):=by have e:=Qbz n 0;rw[Nat.zero_mul,CY]at e;cases hd:JO n with|nil=>rw[hd]at hp;cases hp|cons b s=>rw[hd]at e h1;have hb:=h1 b Cd;(have n1:(b==45)=false:=P4.2 λe=>by subst e;exact absurd hb.1 (by decide));(have n2:(b==43)=false:=P4.2 λe=>by subst e;exact absurd hb.1 (by decide));unfold Lib.atoi;dsimp only;rw[n1,n2,C4 Cl,C4 Cl];unfold Lib.decNat;rw[show(b::s).isEmpty=false from rfl,C4 Cl,e];rfl
 have hm:Q5h (JO n)=some ((n:Int),true):=by
  unfold Q5h;have hne:(JO n==([]:List UInt8))=false:=by cases hd:JO n with|nil=>rw[hd]at hp;cases hp|cons b s=>rfl
  have h146:Qo2 (JO n) ([48,49,50,51,52,53,54,55,56,57]:List UInt8)=some []:=by unfold Qo2;rw[Qv (by rw[Cb (by omega)];rfl),show Lib.trimS (JO n) ([48,49,50,51,52,53,54,55,56,57]:List UInt8)=[]from Qqb h1]
  rw[C8 (by omega),Cf,hne,Cf,h146,C0,show(!(([]:List UInt8)==([]:List UInt8)))=false from rfl,Cf];have hz:(cond ((decide (1<((JO n).length:Int)))) (Option.bind (QT (JO n) 0) λ(x5:UInt8)=>some ((x5.toNat:Int)==48)) (some false))=some false:=by by_cases h1:1<(JO n).length;obtain⟨c,r,hc,hc48⟩:=Qou h1;rw[C7 (by omega),C9,hc,show QT (c::r) 0=some c from rfl,C0,show((c.toNat:Int)==48)=decide (c=48)from Um c 48,C8 hc48];rw[C8 (by omega),Cf]
  rw[hz,C0,Cf,Qv (by rw[Cb (by omega),ha];rfl),C0,ha];rfl
 unfold Wj;rw[hm];rfl
theorem Qof{k:Int}(h:4<=k)(h2:k<12):QY (Jz k)=k:=by
 have:k=4\/k=5\/k=6\/k=7\/k=8\/k=9\/k=10\/k=11:=by omega
 have h4:QY (Jz 4)=4:=by kernel_rfl
 have h5:QY (Jz 5)=5:=by kernel_rfl
 have h6:QY (Jz 6)=6:=by kernel_rfl
 have h7:QY (Jz 7)=7:=by kernel_rfl
 have h8:QY (Jz 8)=8:=by kernel_rfl
 have h9:QY (Jz 9)=9:=by kernel_rfl
 have h10:QY (Jz 10)=10:=by kernel_rfl
 have h11:QY (Jz 11)=11:=by kernel_rfl
 rcases this with rfl|rfl|rfl|rfl|rfl|rfl|rfl|rfl <;> assumption
theorem Qpw{k:Int}(h:4<=k)(h2:k<12):(Jz k==[115,111,114,116])=false/\(Jz k==[99,111,110,115,116])=false:=by
 have:k=4\/k=5\/k=6\/k=7\/k=8\/k=9\/k=10\/k=11:=by omega
 rcases this with rfl|rfl|rfl|rfl|rfl|rfl|rfl|rfl <;> exact⟨by kernel_rfl,by kernel_rfl⟩
section
variable{lv:Jc6->Lvl×Int}{X:Nat->Jc6}
theorem Qx5(l:Lvl):Qbd (Dh l)=Zx l:=by
 have e1:(Dh l).length-1=(([91]:Jc6)++Zx l).length:=by unfold Dh;rw[C3,C3];rfl
 have e2:(Dh l).take ((([91]:Jc6)++Zx l).length)=([91]:Jc6)++Zx l:=List.take_left' rfl;unfold Qbd;rw[e1,e2];rfl
theorem Qec{l:Lvl}(hT:lv (Zx l)=(l,0)){k:Nat}(h:X k=Dh l):UK lv X k=.inl (l,k+1):=by exact Y3 (by unfold Qu7;rw[h,Qx5,hT,Ca (by rfl),Ca rfl])
theorem Q8x:∀(ls:List Lvl)(f k:Nat),(∀l∈ls,lv (Zx l)=(l,0))->ls.length<f->Has X k (ls.map Dh++[[41]])->Yw lv f X k=.inl (ls,k+ls.length+1)|_,0,_,_,h,_=>by omega|[],f+1,k,_,_,h=>by unfold Yw;rw[show X k=[41]from h.1,Ca (CN.2 rfl)];rfl|l::ls,f+1,k,hT,hf,h=>by obtain⟨h1,h2⟩:=h;unfold Yw;(have hne:¬(X k==[41])=true:=by rw[h1];intro e;exact absurd (Pc (CN.1 e)).1 (by decide));rw[C4 hne,Qec (hT l Cd) h1];show QD (Yw lv f X (k+1)) _=_;rw[Q8x ls f (k+1) (λx hx=>hT x (Cg _ hx)) (by simp only[C2]at hf;omega) h2];show(.inl (l::ls,k+1+ls.length+1):Jbx (List Lvl))=_;rw[C2,show k+1+ls.length+1=k+(ls.length+1)+1 by omega]
theorem Q92{rc:(Nat->Jc6)->Nat->Jbx Tm}:∀(ts:List Tm)(k:Nat),(∀t∈ts,∀k,Has X k (ZC t)->rc X k=.inl (t,k+(ZC t).length))->Has X k (Kl ts++[[41]])->GT rc ts.length X k=.inl (ts,k+(Kl ts).length+1)|[],k,_,h=>by show QD (Kn [41] X k) _=_;unfold Kn;rw[Y3 (Ca (show X k=[41]from h.1))];rfl|t::ts,k,hrc,h=>by have e:Kl (t::ts)=ZC t++Kl ts:=rfl;rw[e,Ct]at h;obtain⟨h1,h2⟩:=h.app;show QD (rc X k) _=_;rw[hrc t Cd k h1];show QD (GT rc ts.length X (k+(ZC t).length)) _=_;rw[Q92 ts _ (λx hx=>hrc x (Cg _ hx)) h2];show(.inl (t::ts,k+(ZC t).length+(Kl ts).length+1):Jbx (List Tm))=_;rw[e,C3,show k+((ZC t).length+(Kl ts).length)+1=k+(ZC t).length+(Kl ts).length+1 by omega]
theorem Qix{k:Int}(h:4<=k)(h2:k<12):arity k=Wm k:=by
 have:k=4\/k=5\/k=6\/k=7\/k=8\/k=9\/k=10\/k=11:=by omega
 rcases this with rfl|rfl|rfl|rfl|rfl|rfl|rfl|rfl <;> rfl
theorem Qe7{n:Jc6}(h:JL n=true)(h1:n≠[112,114,111,112]):Q2x n=some (Tm.mk 3 0 n [] [])/\(n==[40])=false:=by cases n with|nil=>rw[DE]at h;cases h|cons c r=>(have hc:∀x:UInt8,Kj (x.toNat:Int)=false->c≠x:=by intro x hx e;subst e;(have hn:Qz0 (c::r)=.inr false:=by show Qg7 Qkp .inl (c::r) true=_;unfold Qg7 Qkp;rw[hx,C4 Cl,Ca rfl];rfl);unfold JL at h;rw[hn]at h;cases h);refine⟨?_,P4.2 λe=>hc 40 (by decide) (Pc e).1⟩;unfold Q2x;dsimp only;rw[C4 h1,C4 (hc 35 (by decide)),C4 (hc 63 (by decide)),Ca h]
theorem WZ(hT:∀l,DM l->lv (Zx l)=(l,0)):∀(n:Nat)(t:Tm)(k:Nat),t.size<=n->OkT t->IxT t->Has X k (ZC t)->Jaq lv n X k=.inl (t,k+(ZC t).length)
 |0,t,k,h,_,_,_=>by rw[t.size_eq]at h;omega
 |n+1,t,k,hn,ht,hi,h=>by
  have hN:=ht.node;obtain⟨k0,k1⟩:=hN.k;have hix:=hi.here;have hkid:∀x∈t.kids,∀k,Has X k (ZC x)->Jaq lv n X k=.inl (x,k+(ZC x).length):=λx hx k hk=>WZ hT n x k (by have:=J4 hx;omega) (ht.kid hx) (hi.kid hx) hk;obtain⟨kd,i,nm,ls,ks⟩:=t;rw[Qjt]at h⊢;have hix0:0<=i:=hN.ix0;have hks:ks.length=arity kd:=hN.kd;have hlv:∀l∈ls,lv (Zx l)=(l,0):=λl hl=>hT l (hN.lv l hl);have hls8:ls.length<=8:=hN.l3;unfold Jaq;by_cases e0:kd=0;subst e0;have hl0:ls=[]:=hN.l0 (by show(0:Int)≠2;decide) (by show(0:Int)≠3;decide);have hnm:nm=[]:=hN.nm (by show(0:Int)≠3;decide);have hk0:ks=[]:=Cv hks;subst hl0 hnm hk0;rw[Ca rfl]at h⊢;have hx:X k=35::JO i.toNat:=h.1;rw[hx,C4 (by intro e;exact absurd (Pc (CN.1 e)).1 (by decide))];unfold pAtom ZG Q2x;rw[hx];dsimp only;rw[C4 (by intro e;exact absurd (Pc e).1 (by decide)),Ca rfl,Q57 (show i.toNat<1000000 by have:i<1000000:=hix;omega)];show(.inl (Tm.mk 0 (i.toNat:Int) [] [] [],k+1):Jbx Tm)=_;rw[CV hix0];rfl;rw[C4 e0]at h⊢;by_cases e12:kd=12;subst e12;have hl0:ls=[]:=hN.l0 (by show(12:Int)≠2;decide) (by show(12:Int)≠3;decide);have hnm:nm=[]:=hN.nm (by show(12:Int)≠3;decide);have hk0:ks=[]:=Cv hks;subst hl0 hnm hk0;rw[Ca rfl]at h⊢;have hx:X k=63::JO i.toNat:=h.1;rw[hx,C4 (by intro e;exact absurd (Pc (CN.1 e)).1 (by decide))];unfold pAtom ZG Q2x;rw[hx];dsimp only;rw[C4 (by intro e;exact absurd (Pc e).1 (by decide)),C4 (by decide),Ca rfl,Q57 (show i.toNat<1000000 by have:i<1000000:=hix;omega)];show(.inl (Tm.mk 12 (i.toNat:Int) [] [] [],k+1):Jbx Tm)=_;rw[CV hix0];rfl;rw[C4 e12]at h⊢;have hi0:i=0:=hN.ix e0 e12;by_cases e1:kd=1;subst e1 hi0;have hl0:ls=[]:=hN.l0 (by show(1:Int)≠2;decide) (by show(1:Int)≠3;decide);have hnm:nm=[]:=hN.nm (by show(1:Int)≠3;decide);have hk0:ks=[]:=Cv hks;subst hl0 hnm hk0;rw[Ca rfl]at h⊢;have hx:X k=[112,114,111,112]:=h.1;unfold pAtom;rw[hx];rfl;rw[C4 e1]at h⊢;by_cases e2:kd=2;subst e2 hi0;have hnm:nm=[]:=hN.nm (by show(2:Int)≠3;decide);have hk0:ks=[]:=Cv hks;have hl1:ls.length=1:=hN.l2 rfl;obtain⟨l,rfl⟩:∃l,ls=[l]:=by cases ls with|nil=>cases hl1|cons l r=>cases r with|nil=>exact⟨l,rfl⟩|cons _ _=>simp at hl1
  subst hnm hk0;rw[Ca rfl]at h⊢;obtain⟨x0,x1,x2,x3,-⟩:=h;rw[x0,Ca (CN.2 rfl)];unfold Ur;rw[x1,Ca (CN.2 rfl)];unfold Q8b;rw[Qec (hlv l Cd) x2];show QD (Kn [41] X (k+1+1+1)) _=_;unfold Kn;rw[Y3 (Ca x3)];rfl;rw[C4 e2]at h⊢;by_cases e3:kd=3;subst e3 hi0;have hk0:ks=[]:=Cv hks;have hnk:JL nm=true:=hN.nk rfl;subst hk0;rw[Ca rfl]at h⊢;by_cases hc:ls=[]/\nm≠[112,114,111,112];obtain⟨hl0,hp⟩:=hc;subst hl0;have hc2:(([]:List Lvl)=[]/\nm≠[112,114,111,112]):=⟨rfl,hp⟩;rw[Ca hc2]at h⊢;have hx:X k=nm:=h.1;obtain⟨c1,c2⟩:=Qe7 hnk hp;rw[hx,c2,C4 Cl];unfold pAtom;rw[hx,Y3 c1];rfl;rw[C4 hc]at h⊢;obtain⟨x0,x1,x2,x3⟩:=h;rw[x0,Ca (CN.2 rfl)];unfold Ur;rw[x1,C4 (by decide),Ca (CN.2 rfl)];unfold Q0t pName;rw[Y3 (c:=Q9q) (v:=X (k+1+1)) (Ca (by rw[x2];exact hnk))];show QD (Yw lv 1000000 X (k+1+1+1)) _=_;rw[Q8x ls 1000000 _ hlv (by omega) x3];show(.inl (Tm.mk 3 0 (X (k+1+1)) ls [],k+1+1+1+ls.length+1):Jbx Tm)=_;rw[x2];congr 2;simp only[C3,C2,Ci,Cn];omega;rw[C4 e3]at h⊢;have hk4:4<=kd:=by have:0<=kd:=k0;omega
  have hk12:kd<12:=by have:kd<13:=k1;omega
  have hl0:ls=[]:=hN.l0 e2 e3;have hnm:nm=[]:=hN.nm e3;subst hl0 hnm hi0;rw[Ct]at h;obtain⟨x0,x1,x2⟩:=h;obtain⟨w1,w2⟩:=Qpw hk4 hk12;rw[x0,Ca (CN.2 rfl)];unfold Ur;rw[x1,w1,w2,C4 Cl,C4 Cl,Qof hk4 hk12,C4 (by omega)];unfold Dx;rw[<-Qix hk4 hk12,<-hks,Q92 ks _ hkid x2];show(.inl (Tm.mk kd 0 [] [] ks,k+1+1+(Kl ks).length+1):Jbx Tm)=_;congr 2;simp only[C3,C2,Ci];omega
end
end
section
open Go.RowKit Go.Shelf
def Q7m(r:Jc6)(k:Nat):List Tkn:=Zg (r.length+1) r k
theorem Q16:∀(n m:Nat)(r:Jc6)(k:Nat),r.length<n->r.length<m->Zg n r k=Zg m r k|0,_,r,_,h,_=>by omega|_+1,0,r,_,_,h=>by omega|n+1,m+1,r,k,h,h'=>by have hdl:=X2 (p:=isSp) r;have hsc:=GR (r.dropWhile isSp);rw[KO,KO];by_cases h0:J6 (r.dropWhile isSp)=0;rw[Ca h0,Ca h0];rw[C4 h0,C4 h0,Q16 n m _ _ (by rw[CB];omega) (by rw[CB];omega)]
def Qv1(r:Jc6):Prop:=∀b,r.head?=some b->GK b=false
def LexTo(s:Jc6)(ts:List Jc6):Prop:=∀r k,Qv1 r->∃A:List Tkn,A.map Tkn.text=ts/\Q7m (s++r) k=A++Q7m r (k+s.length)
def LexAny(s:Jc6)(ts:List Jc6):Prop:=∀r k,∃A:List Tkn,A.map Tkn.text=ts/\Q7m (s++r) k=A++Q7m r (k+s.length)
theorem LexAny.to{s:Jc6}{ts:List Jc6}(h:LexAny s ts):LexTo s ts:=λr k _=>h r k
theorem LexAny.app{a b:Jc6}{ts us:List Jc6}(ha:LexAny a ts)(hb:LexTo b us):LexTo (a++b) (ts++us):=λr k hr=>by obtain⟨A,h1,h2⟩:=ha (b++r) k;obtain⟨B,h3,h4⟩:=hb r (k+a.length) hr;refine⟨A++B,by rw[Cp,h1,h3],?_⟩;rw[Ct,h2,h4,Ct,C3,Pn]
theorem LexAny.app2{a b:Jc6}{ts us:List Jc6}(ha:LexAny a ts)(hb:LexAny b us):LexAny (a++b) (ts++us):=λr k=>by obtain⟨A,h1,h2⟩:=ha (b++r) k;obtain⟨B,h3,h4⟩:=hb r (k+a.length);refine⟨A++B,by rw[Cp,h1,h3],?_⟩;rw[Ct,h2,h4,Ct,C3,Pn]
theorem LexTo.app{a b:Jc6}{ts us:List Jc6}(ha:LexTo a ts)(hb:LexTo b us){c:UInt8}(hc:b.head?=some c)(hw:GK c=false):LexTo (a++b) (ts++us):=λr k hr=>by
 obtain⟨A,h1,h2⟩:=ha (b++r) k (λx hx=>by
  cases b with
  |nil=>cases hc
  |cons y b=>cases hc;cases hx;exact hw)
 obtain⟨B,h3,h4⟩:=hb r (k+a.length) hr;refine⟨A++B,by rw[Cp,h1,h3],?_⟩;rw[Ct,h2,h4,Ct,C3,Pn]
theorem lex_nil:LexAny [] []:=λr k=>⟨[],rfl,rfl⟩
theorem lex_sp:LexAny [32] []:=λr k=>by refine⟨[],Z,?_⟩;show Zg (r.length+1+1) (32::r) k=Zg (r.length+1) r (k+1);have hdl:=X2 (p:=isSp) r;have hsc:=GR (r.dropWhile isSp);rw[KO (r.length+1) (32::r) k,KO r.length r (k+1)];rw[show(32::r:Jc6).dropWhile isSp=r.dropWhile isSp by rw[Sg,Ca (by decide)],show(32::r:Jc6).takeWhile isSp=32::r.takeWhile isSp by rw[P0,Ca (by decide)],C2];rw[show k+((r.takeWhile isSp).length+1)=k+1+(r.takeWhile isSp).length by omega];by_cases h0:J6 (r.dropWhile isSp)=0;rw[Ca h0,Ca h0];rw[C4 h0,C4 h0,Q16 (r.length+1) r.length _ _ (by rw[CB];omega) (by rw[CB];omega)]
theorem Q3y{w r:Jc6}{k:Nat}{c:UInt8}(hc:(w++r).head?=some c)(hs:isSp c=false)(h:J6 (w++r)=w.length)(hw:w≠[]):Q7m (w++r) k=[⟨w,((k:Nat):Int)⟩]++Q7m r (k+w.length):=by
 have hd:(w++r).dropWhile isSp=w++r:=by cases h':w++r with|nil=>rfl|cons x y=>rw[h']at hc;cases hc;rw[Sg,C4 (by rw[hs];exact Cl)]
 have ht:(w++r).takeWhile isSp=[]:=by cases h':w++r with|nil=>rfl|cons x y=>rw[h']at hc;cases hc;rw[P0,C4 (by rw[hs];exact Cl)]
 have hl:w.length≠0:=λe=>hw (Cv e);unfold Q7m;rw[KO,hd,ht,h,C4 hl,List.take_left',List.drop_left'];show _::_=_::_;rw[show k+([]:Jc6).length+w.length=k+w.length from rfl,Q16 (w++r).length (r.length+1) r _ (by rw[C3];omega) (by omega)];rfl;rfl;rfl
theorem Q3z{c:UInt8}(hc:c=40\/c=41):LexAny [c] [[c]]:=λr k=>⟨[⟨[c],(k:Int)⟩],rfl,Q3y (w:=[c]) (c:=c) rfl (Qzz hc) (Qr4 hc r) (List.cons_ne_nil _ _)⟩
theorem Q2b{w r:Jc6}(hw:∀b∈w,GK b=true)(hr:Qv1 r):(w++r).takeWhile GK=w:=by cases r with|nil=>(rw[Cy];induction w with|nil=>rfl|cons b w ih=>rw[P0,Ca (hw b Cd),ih λc hc=>hw c (Cg _ hc)])|cons x t=>exact Q0m w x t hw (hr x rfl)
theorem J1s{c:UInt8}(h:GK c=true):¬(c=40\/c=41)/\c≠91/\¬(c=35\/c=63)/\isSp c=false:=by
 have n:∀x:UInt8,GK x=false->c≠x:=λx hx e=>by subst e;rw[hx]at h;cases h
 refine⟨λe=>?_,n 91 (by decide),λe=>?_,?_⟩;rcases e with e|e;exact n 40 (by decide) e;exact n 41 (by decide) e;rcases e with e|e;exact n 35 (by decide) e;exact n 63 (by decide) e;cases hs:isSp c with|false=>rfl|true=>(have:c∈([32,9,13,10]:List UInt8):=by unfold isSp at hs;simpa using hs);simp only[Co,List.not_mem_nil,or_false]at this;rcases this with e|e|e|e;exact absurd e (n 32 (by decide));exact absurd e (n 9 (by decide));exact absurd e (n 13 (by decide));exact absurd e (n 10 (by decide))
theorem X0{w:Jc6}{c:UInt8}{t:Jc6}(e:w=c::t)(hw:∀b∈w,GK b=true)(hd:c.toNat<48\/57<c.toNat):LexTo w [w]:=λr k hr=>by have hc:GK c=true:=hw c (by rw[e];exact Cd);obtain⟨n1,n2,n3,n4⟩:=J1s hc;refine⟨[⟨w,(k:Int)⟩],rfl,Q3y (w:=w) (c:=c) (by rw[e];rfl) n4 ?_ (by rw[e];exact List.cons_ne_nil _ _)⟩;have ht:=Q2b hw hr;rw[e]at ht⊢;rw[P5]at ht⊢;rw[YZ,C4 n1,C4 n2,C4 n3,Ca hc,Ca (.inr hd),ht]
theorem Qlb{c:UInt8}(hc:c=35\/c=63){n:Nat}(hn:n<1000000):LexTo ([c]++JO n) [[c]++JO n]:=λr k hr=>by
 have hd:∀b∈JO n,GK b=true:=λb hb=>by have:=Q45 n b hb;unfold GK Qbt;rw[show decide (48<=(b.toNat:Int))=true from C7 (by omega),show decide ((b.toNat:Int)<=57)=true from C7 (by omega)];simp
 have hs:isSp c=false:=by rcases hc with rfl|rfl <;> decide
 refine⟨[⟨[c]++JO n,(k:Int)⟩],Z,Q3y (w:=[c]++JO n) (c:=c) Z hs ?_ (List.cons_ne_nil _ _)⟩;show J6 (c::(JO n++r))=_;rw[YZ,C4 (by rcases hc with rfl|rfl <;> decide),C4 (by rcases hc with rfl|rfl <;> decide),Ca hc,Q2b hd hr,Q57 hn,Ca rfl,C3];rfl
theorem J16{s:Jc6}(h:∀b∈s,(b != 93)=true):LexAny ([91]++s++[93]) [[91]++s++[93]]:=λr k=>by
 refine⟨[⟨[91]++s++[93],(k:Int)⟩],rfl,Q3y (w:=[91]++s++[93]) (c:=91) rfl (by decide) ?_ (List.cons_ne_nil _ _)⟩;have e:[91]++s++[93]++r=(91::s)++93::r:=by simp
 have ht:((91::s)++93::r).takeWhile (· != 93)=91::s:=Q0m (91::s) 93 r (λb hb=>by rcases Co.1 hb with rfl|hb;decide;exact h b hb) (by decide);rw[e];rw[P5]at ht⊢;rw[YZ,C4 (by decide),Ca rfl,ht,Ca (by simp)];simp
theorem Q0x{s:Jc6}(h:JL s=true):(∀b∈s,GK b=true)/\∃c t,s=c::t/\(c.toNat<48\/57<c.toNat):=by
 have lw:∀b:UInt8,Kj (b.toNat:Int)=true->GK b=true/\(b.toNat<48\/57<b.toNat):=λb hb=>by unfold Kj at hb;unfold GK Qbt;simp only[Px,CD,CS,CN]at hb⊢;refine⟨?_,by omega⟩;rcases hb with(hb|hb)|hb;exact .inl (.inl (.inl (.inl (.inl hb))));exact .inl (.inl (.inl (.inl (.inr hb))));exact .inl (.inl (.inr hb))
 have all:∀(s:Jc6)(st st':Bool),Qg7 Qkp .inl s st=.inl st'->∀b∈s,GK b=true:=by intro s;induction s with|nil=>intro _ _ _ b hb;cases hb|cons c s ih=>intro st st' e b hb;unfold Qg7 Qkp at e;by_cases hl:Kj (c.toNat:Int)=true;rw[Ca hl]at e;rcases Co.1 hb with rfl|hb;exact(lw b hl).1;exact ih _ _ e b hb;rw[C4 hl]at e;cases st with|true=>rw[Ca rfl]at e;cases e|false=>rw[C4 Cl]at e;by_cases h46:(c.toNat:Int)=46;rw[Ca h46]at e;rcases Co.1 hb with rfl|hb;unfold GK;rw[h46];rfl;exact ih _ _ e b hb;rw[C4 h46]at e;by_cases hd:(c.toNat:Int)<48\/57<(c.toNat:Int);rw[Ca hd]at e;by_cases h39:(c.toNat:Int)=39;rw[Ca h39]at e;rcases Co.1 hb with rfl|hb;unfold GK;rw[h39];rfl;exact ih _ _ e b hb;rw[C4 h39]at e;cases e;rw[C4 hd]at e;rcases Co.1 hb with rfl|hb;unfold GK Qbt;rw[show decide (48<=(b.toNat:Int))=true from C7 (by omega),show decide ((b.toNat:Int)<=57)=true from C7 (by omega)];simp;exact ih _ _ e b hb
 have h':=h;unfold JL Qz0 at h';cases hn:Qg7 Qkp .inl s true with|inr b=>rw[hn]at h';rw[Q58 s true b hn]at h';cases h'|inl st=>refine⟨all s true st hn,?_⟩;cases s with|nil=>rw[DE]at h;cases h|cons c t=>refine⟨c,t,Z,?_⟩;unfold Qg7 Qkp at hn;by_cases hl:Kj (c.toNat:Int)=true;exact(lw c hl).2;rw[C4 hl,Ca rfl]at hn;cases hn
theorem Q5m{s:Jc6}(h:JL s=true):LexTo s [s]:=by obtain⟨h1,c,t,h2,h3⟩:=Q0x h;exact X0 h2 h1 h3
theorem Qse{k:Int}(h:4<=k)(h2:k<12):LexTo (Jz k) [Jz k]:=by
 have:k=4\/k=5\/k=6\/k=7\/k=8\/k=9\/k=10\/k=11:=by omega
 rcases this with rfl|rfl|rfl|rfl|rfl|rfl|rfl|rfl <;> exact X0 rfl (by decide) (by decide)
theorem J8s:(∀b∈([32,43,32]:Jc6),(b != 93)=true)/\(∀b∈([44,32]:Jc6),(b != 93)=true)/\∀b∈([109,97,120,40]:Jc6),(b != 93)=true:=by decide
theorem Qby{n:Nat}:∀b∈JO n,(b != 93)=true:=λb hb=>by have:=Q45 n b hb;simp only[Sz,ne_eq];intro e;subst e;exact absurd this.2 (by decide)
theorem Qqf{l:Lvl}:∀b∈Zx l,(b != 93)=true:=by
 have pl:∀p:Int,∀b∈G1 p,(b != 93)=true:=λp b hb=>by unfold G1 at hb;split at hb;rcases Cz.1 hb with hb|hb;exact J8s.1 b hb;exact Qby b hb;cases hb
 have vx:∀x:Jc0,∀b∈W6 x,(b != 93)=true:=λx b hb=>by unfold W6 Q0k at hb;split at hb;rcases Co.1 hb with rfl|hb;decide;rcases Cz.1 hb with hb|hb;exact Qby b hb;exact pl _ b hb;rcases Co.1 hb with rfl|hb;decide;rcases Cz.1 hb with hb|hb;exact Qby b hb;exact pl _ b hb
 have pt:∀x∈JJ l,∀b∈x,(b != 93)=true:=λx hx b hb=>by unfold JJ at hx;rw[Cz,Cz]at hx;rcases hx with(hx|hx)|hx;split at hx;rw[Cw]at hx;subst hx;exact Qby b hb;cases hx;obtain⟨y,-,rfl⟩:=Cu.1 hx;exact vx y b hb;obtain⟨y,-,rfl⟩:=Cu.1 hx;exact vx y b hb
 have sp:∀r:List Jc6,(∀x∈r,∀b∈x,(b != 93)=true)->∀b∈Zv r,(b != 93)=true:=by intro r;cases r with|nil=>intro _ b hb;cases hb|cons x r=>intro h b hb;rw[WY]at hb;rcases Cz.1 hb with hb|hb;exact h x Cd b hb;unfold Q9d at hb;obtain⟨y,hy,hb⟩:=List.mem_flatten.1 hb;obtain⟨z,hz,rfl⟩:=Cu.1 hy;rcases Cz.1 hb with hb|hb;exact J8s.2.1 b hb;exact h z (Cg _ hz) b hb
 intro b hb;unfold Zx at hb;split at hb;exact sp _ pt b hb;rcases Cz.1 hb with hb|hb;rcases Cz.1 hb with hb|hb;exact J8s.2.2 b hb;exact sp _ pt b hb;rw[Cw]at hb;subst hb;decide
theorem Qlc(l:Lvl):LexAny (Dh l) [Dh l]:=J16 Qqf
theorem Qeh:∀ls:List Lvl,LexAny (XZ ls) (ls.map Dh)|[]=>lex_nil|l::ls=>by have h:=(lex_sp.app2 (Qlc l)).app2 (Qeh ls);exact h
structure Body(t:Tm)(u:Jc6)(us:List Jc6):Prop where
 text:Ql t=u++[41]
 toks:ZC t=us++[[41]]
 lex:LexTo u us
theorem Qsf{ks:List Tm}(h:∀k:Tm,k∈ks->LexTo (Ql k) (ZC k)):LexTo (JT ks) (Kl ks):=by induction ks with|nil=>exact lex_nil.to|cons k ks ih=>have i:=ih λx hx=>h x (Cg _ hx);have e1:JT (k::ks)=([32]++Ql k)++JT ks:=rfl;have e2:Kl (k::ks)=ZC k++Kl ks:=rfl;rw[e1,e2];have h1:LexTo ([32]++Ql k) (ZC k):=lex_sp.app (h k Cd);cases ks with|nil=>show LexTo ([32]++Ql k++[]) (ZC k++[]);rw[Cy,Cy];exact h1|cons y ys=>exact h1.app i (c:=32) rfl (by decide)
theorem DO:∀(n:Nat)(t:Tm),t.size<=n->OkT t->IxT t->LexTo (Ql t) (ZC t)/\((Ql t).head?=some 40->∃u us,Body t u us)
 |0,t,h,_,_=>by rw[t.size_eq]at h;omega
 |n+1,t,hn,ht,hi=>by
  have hN:=ht.node;obtain⟨k0,k1⟩:=hN.k;have hix:=hi.here;have hkid:∀x∈t.kids,LexTo (Ql x) (ZC x):=λx hx=>(DO n x (by have:=J4 hx;omega) (ht.kid hx) (hi.kid hx)).1;obtain⟨kd,i,nm,ls,ks⟩:=t;have hix0:0<=i:=hN.ix0;have hit:i.toNat<1000000:=by have:i<1000000:=hix;omega
  have fin:∀{u us},Body (.mk kd i nm ls ks) u us->LexTo (Ql (.mk kd i nm ls ks)) (ZC (.mk kd i nm ls ks))/\((Ql (.mk kd i nm ls ks)).head?=some 40->∃u us,Body (.mk kd i nm ls ks) u us):=λ{u us} hb=>⟨by rw[hb.text,hb.toks];exact hb.lex.app (Q3z (.inr rfl)).to (c:=41) rfl (by decide),λ_=>⟨u,us,hb⟩⟩;have hT:=K3 kd i nm ls ks;have hK:=Qjt kd i nm ls ks;by_cases e0:kd=0;rw[Ca e0]at hT hK;rw[hT,hK];exact⟨Qlb (.inl rfl) hit,λh=>by cases h⟩;rw[C4 e0]at hT hK;by_cases e12:kd=12;rw[Ca e12]at hT hK;rw[hT,hK];exact⟨Qlb (.inr rfl) hit,λh=>by cases h⟩;rw[C4 e12]at hT hK;by_cases e1:kd=1;rw[Ca e1]at hT hK;rw[hT,hK];exact⟨X0 rfl (by decide) (by decide),λh=>by cases h⟩;rw[C4 e1]at hT hK;by_cases e2:kd=2;rw[Ca e2]at hT hK;have hl1:ls.length=1:=hN.l2 e2;obtain⟨l,rfl⟩:∃l,ls=[l]:=by cases ls with|nil=>cases hl1|cons l r=>cases r with|nil=>exact⟨l,rfl⟩|cons _ _=>simp at hl1
  have w:LexTo ([115,111,114,116]:Jc6) [[115,111,114,116]]:=X0 rfl (by decide) (by decide);have h:=(Q3z (c:=40) (.inl rfl)).app (w.app (lex_sp.app2 (Qlc l)).to (c:=32) rfl (by decide));refine fin ⟨hT,hK,?_⟩;exact h;rw[C4 e2]at hT hK;by_cases e3:kd=3;rw[Ca e3]at hT hK;have hnk:JL nm=true:=hN.nk e3;by_cases hc:ls=[]/\nm≠[112,114,111,112];rw[Ca hc]at hT hK;rw[hT,hK];refine⟨Q5m hnk,λh=>?_⟩;obtain⟨-,c,t,e,-⟩:=Q0x hnk;have:=(Qe7 hnk hc.2).2;rw[e]at h;cases h;have h40:=(Q0x hnk).1 40 (by rw[e];exact Cd);exact absurd h40 (by decide);rw[C4 hc]at hT hK;have w:LexTo ([99,111,110,115,116]:Jc6) [[99,111,110,115,116]]:=X0 rfl (by decide) (by decide);have hl:=Qeh ls;have hnl:LexTo (nm++XZ ls) ([nm]++ls.map Dh):=by cases ls with|nil=>show LexTo (nm++[]) ([nm]++[]);rw[Cy];exact Q5m hnk|cons l r=>exact(Q5m hnk).app hl.to (c:=32) rfl (by decide)
  have h:=(Q3z (c:=40) (.inl rfl)).app (w.app (lex_sp.app hnl) (c:=32) rfl (by decide));refine fin ⟨hT,hK,?_⟩;have e:[40,99,111,110,115,116,32]++nm++XZ ls=[40]++([99,111,110,115,116]++([32]++(nm++XZ ls))):=by simp
  rw[e];exact h;rw[C4 e3]at hT hK;have hk4:4<=kd:=by have:0<=kd:=k0;omega
  have hk12:kd<12:=by have:kd<13:=k1;omega
  have hks:ks.length=arity kd:=hN.kd;have hkk:LexTo (JT ks) (Kl ks):=Qsf hkid;have w:=Qse hk4 hk12;have hw:LexTo (Jz kd++JT ks) ([Jz kd]++Kl ks):=by cases ks with|nil=>show LexTo (Jz kd++[]) ([Jz kd]++[]);rw[Cy];exact w|cons y ys=>exact w.app hkk (c:=32) rfl (by decide)
  have h:=(Q3z (c:=40) (.inl rfl)).app hw;refine fin ⟨hT,hK,?_⟩;rw[Ct];exact h
end
section
open Go.RowKit Go.Shelf
def J7f  (a1:Tm):(Int×(List Byt))->Option (LO (Int×(List Byt)) ((List Byt))):=(λs909=>cond ((decide (s909.1<(a1.levels.length:Int)))) (Option.bind (QT a1.levels s909.1) λ(x911:Lvl)=>Option.bind (Qz1 x911) λ(x912:(List UInt8))=>Q7 (Nat.ble (([32]:List UInt8).length+x912.length) 1000000000) (Q7 (Nat.ble (s909.2.length+(([32]:List UInt8)++x912).length) 1000000000) (some (.next ((Qm (s909.1+1)),(s909.2++(List.map (λb:UInt8=>(⟨b.toNat⟩:Byt)) (([32]:List UInt8)++x912)))))))) (some (.done s909.2)))
def J7e(rc:(List Byt)×Tm->Option (((List Byt)×Unit)⊕(Unit×(List Byt))))(a1:Tm):(Int×(List Byt))->Option (LO (Int×(List Byt)) ((List Byt))):=(λs923=>cond ((decide (s923.1<(a1.kids.length:Int)))) (Option.bind (QT a1.kids s923.1) λ(x925:Tm)=>Q7 (Nat.ble (s923.2.length+([32]:List UInt8).length) 1000000000) (Option.bind (Zz (rc ((s923.2++(List.map (λb:UInt8=>(⟨b.toNat⟩:Byt)) ([32]:List UInt8))),x925))) λ(r926:(List Byt)×Unit)=>some (.next ((Qm (s923.1+1)),r926.1)))) (some (.done s923.2)))
theorem Q9y{α:Type}{step:Int×List Byt->Option (LO (Int×List Byt) (List Byt))}(l:List α)(f:α->Jc6)(b0:List Byt)(hlen:l.length<=900000000)(hb:b0.length+(l.map f).flatten.length<=900000000)(hin:∀(a:List α)(x:α)(b:List α)(s:List Byt),l=a++x::b->s.length+(f x).length<=900000000->step ((a.length:Int),s)=some (.next (Qm ((a.length:Int)+1),s++YC (f x))))(hout:∀s,step ((l.length:Int),s)=some (.done s)):Qa step Qd (0,b0)=some (b0++YC (l.map f).flatten):=by rw[<-Q65];refine Quj l (λx=>YC (f x)) b0 hlen (λa x b s e hs=>hin a x b s e ?_) hout;have:=Qw3 f e;rw[hs,Q65,C3,Qmf];omega
theorem Wr{t:Tm}(h:t.size<=2000000){l:Lvl}(hl:l∈t.levels):l.vs.length<=2000000:=by have h1:=XB t;have h2:=Qbc l;have h3:=WW lvz hl;omega
theorem U7{t:Tm}:t.levels.length<=t.size:=by have h1:=XB t;have h2:=DP lvz (λl=>by unfold lvz;omega) t.levels;omega
theorem Qpz(t:Tm)(hv:∀l∈t.levels,DM l)(hs:t.size<=2000000)(b0:List Byt)(hb:b0.length+(XZ t.levels).length<=900000000):Qa (J7f t) Qd (0,b0)=some (b0++YC (XZ t.levels)):=by
 refine Q9y (step:=J7f t) t.levels (λl=>[32]++Dh l) b0 (by have:=U7 (t:=t);omega) hb (λa x b s e hx=>?_) (λs=>by unfold J7f;dsimp only;rw[Jb];rfl);obtain⟨q1,q2⟩:=ZR e;have hm:x∈t.levels:=by rw[e];simp
 simp only[C3,C2,Ci]at hx;unfold J7f;dsimp only;rw[q1,q2,C9,C0,Qhc (hv x hm) (Wr hs hm),C0,Qv (Cb (by simp only[C2,Ci];omega)),Qv (Cb (by simp only[C3,C2,Ci];omega))]
theorem Qpy(rc:(List Byt)×Tm->Option (((List Byt)×Unit)⊕(Unit×(List Byt))))(t:Tm)(hs:t.size<=2000000)(b0:List Byt)(hb:b0.length+(JT t.kids).length<=900000000)(hr:∀k∈t.kids,∀b:List Byt,b.length+(Ql k).length<=900000000->rc (b,k)=some (.inl (b++YC (Ql k),()))):Qa (J7e rc t) Qd (0,b0)=some (b0++YC (JT t.kids)):=by
 refine Q9y (step:=J7e rc t) t.kids (λk=>[32]++Ql k) b0 (by have:=K6 t;omega) hb (λa x b s e hx=>?_) (λs=>by unfold J7e;dsimp only;rw[Jb];rfl);obtain⟨q1,q2⟩:=ZR e;have hm:x∈t.kids:=by rw[e];simp
 simp only[C3,C2,Ci]at hx;unfold J7e;dsimp only;rw[q1,q2,C9,C0,Qv (Cb (by simp only[C2,Ci];omega)),hr x hm _ (by simp only[C3,C2,Ci,Cn];omega)];show some _=some _;rw[Gv,Ct]
theorem Qd1{k:Int}(h:4<=k)(h2:k<12):QT Qgc (Qm (k-4))=some (Jz k):=by rw[J7 (by omega) (by omega)];have h1:=(WU h h2).2;obtain⟨n,hn⟩:=Sm (show 0<=k-4 by omega);rw[hn]at h1⊢;exact h1
theorem YG{a b:Int}(h:a≠b):(a==b)=false:=by rw[ZQ,C8 h]
theorem Q6s{a b:Int}(h:a=b):(a==b)=true:=by rw[ZQ,C7 h]
theorem U0{t:Tm}(h:t.levels.length=1):∃l,t.levels=[l]:=by match hl:t.levels,h with|[l],_=>exact⟨l,rfl⟩
theorem J8u(a b:Jc6):(!(a==b))=decide (a≠b):=by rw[J76];by_cases h:a=b <;> simp[h]
theorem Qd7{t:Tm}(h:t.kind=0):Ql t=[35]++JO t.index.toNat:=by obtain⟨k,i,n,ls,ks⟩:=t;rw[K3];exact Ca h
theorem Qad{t:Tm}(h:t.kind=12):Ql t=[63]++JO t.index.toNat:=by obtain⟨k,i,n,ls,ks⟩:=t;have h:k=12:=h;rw[K3,C4 (by omega),Ca h];rfl
theorem Qjy{t:Tm}(h:t.kind=1):Ql t=[112,114,111,112]:=by obtain⟨k,i,n,ls,ks⟩:=t;have h:k=1:=h;rw[K3,C4 (by omega),C4 (by omega),Ca h]
theorem Qjx{t:Tm}{l:Lvl}(h:t.kind=2)(hl:t.levels=[l]):Ql t=[40,115,111,114,116,32]++Dh l++[41]:=by obtain⟨k,i,n,ls,ks⟩:=t;have h:k=2:=h;have hl:ls=[l]:=hl;rw[K3,C4 (by omega),C4 (by omega),C4 (by omega),Ca h,hl];rfl
theorem Qjw{t:Tm}(h:t.kind=3):Ql t=if t.levels=[]/\t.name≠[112,114,111,112]then t.name else[40,99,111,110,115,116,32]++t.name++XZ t.levels++[41]:=by obtain⟨k,i,n,ls,ks⟩:=t;have h:k=3:=h;rw[K3,C4 (by omega),C4 (by omega),C4 (by omega),C4 (by omega),Ca h];rfl
theorem Qd6{t:Tm}(h:4<=t.kind)(h2:t.kind≠12):Ql t=[40]++Jz t.kind++JT t.kids++[41]:=by obtain⟨k,i,n,ls,ks⟩:=t;have h:4<=k:=h;have h2:k≠12:=h2;rw[K3,C4 (by omega),C4 (by omega),C4 (by omega),C4 (by omega),C4 (by omega)];rfl
theorem UM(t:Tm):(cond (((t.levels.length:Int)==0)) (some (!(t.name==([112,114,111,112]:List UInt8)))) (some false))=some (decide (t.levels=[]/\t.name≠[112,114,111,112])):=by rw[ZQ,J8u];by_cases h:t.levels=[];rw[h];simp;have:t.levels.length≠0:=λh2=>h (Cv h2);rw[C8 (p:=(t.levels.length:Int)=0) (by omega),C8 (p:=t.levels=[]/\t.name≠[112,114,111,112]) (λh2=>h h2.1)];rfl
theorem J77(b:List Byt)(x y z:Jc6):b++YC x++YC y++YC z=b++YC (x++y++z):=by rw[Gv,Gv];simp
theorem Q7x:∀(n:Nat)(t:Tm)(b:List Byt),t.size<=n->t.size<=2000000->OkT t->b.length+(Ql t).length<=900000000->Jo (λrc v=>Qhe rc v.1 v.2) n (b,t)=some (.inl (b++YC (Ql t),()))|0,t,b,h,_,_,_=>by rw[t.size_eq]at h;omega|n+1,t,b,h,h2,ht,hb=>by show Qhe (Jo (λrc v=>Qhe rc v.1 v.2) n) b t=_;have hN:=ht.node;obtain⟨k0,k1⟩:=hN.k;unfold Qhe;by_cases e0:t.kind=0;rw[Qd7 e0]at hb⊢;refine Jh (.inl (b++YC ([35]++JO t.index.toNat))) ?_ Z;rw[Q6s e0,C9,Qks hN.ix0 hN.ix1,C0];have:=X3 hN.ix0 hN.ix1;simp only[C3,C2,Ci]at hb;rw[Qv (Cb (by simp only[C2,Ci];omega)),Qv (Cb (by simp only[C3,C2,Ci];omega))];by_cases e12:t.kind=12;rw[Qad e12]at hb⊢;refine Jh (.inl (b++YC ([63]++JO t.index.toNat))) ?_ Z;rw[YG e0,Cf];refine Jh (.inl (b++YC ([63]++JO t.index.toNat))) ?_ Z;rw[Q6s e12,C9,Qks hN.ix0 hN.ix1,C0];have:=X3 hN.ix0 hN.ix1;simp only[C3,C2,Ci]at hb;rw[Qv (Cb (by simp only[C2,Ci];omega)),Qv (Cb (by simp only[C3,C2,Ci];omega))];by_cases e1:t.kind=1;rw[Qjy e1]at hb⊢;refine Jh (.inl (b++YC [112,114,111,112])) ?_ Z;rw[YG e0,Cf];refine Jh (.inl (b++YC [112,114,111,112])) ?_ Z;rw[YG e12,Cf];refine Jh (.inl (b++YC [112,114,111,112])) ?_ Z;rw[Q6s e1,C9,Qv (Cb (by omega))];by_cases e2:t.kind=2;obtain⟨l,hl⟩:=U0 (hN.l2 e2);have hv:=hN.lv l (by rw[hl];simp);rw[Qjx e2 hl]at hb⊢;refine Jh (.inl (b++YC ([40,115,111,114,116,32]++Dh l++[41]))) ?_ Z;rw[YG e0,Cf];refine Jh (.inl (b++YC ([40,115,111,114,116,32]++Dh l++[41]))) ?_ Z;rw[YG e12,Cf];refine Jh (.inl (b++YC ([40,115,111,114,116,32]++Dh l++[41]))) ?_ Z;rw[YG e1,Cf];refine Jh (.inl (b++YC ([40,115,111,114,116,32]++Dh l++[41]))) ?_ Z;simp only[C3,C2,Ci]at hb;rw[Q6s e2,C9,hl,show QT [l] 0=some l from rfl,C0,Qhc hv (Wr h2 (by rw[hl];simp)),C0,Qv (Cb (by simp only[C2,Ci];omega)),Qv (Cb (by simp only[C3,C2,Ci];omega)),Qv (Cb (by simp only[C3,C2,Ci];omega))];by_cases e3:t.kind=3;rw[Qjw e3]at hb⊢;by_cases hc:t.levels=[]/\t.name≠[112,114,111,112];rw[Ca hc]at hb⊢;refine Jh (.inr (.inl (b++YC t.name,()))) ?_ Z;rw[YG e0,Cf];refine Jh (.inr (.inl (b++YC t.name,()))) ?_ Z;rw[YG e12,Cf];refine Jh (.inr (.inl (b++YC t.name,()))) ?_ Z;rw[YG e1,Cf];refine Jh (.inr (.inl (b++YC t.name,()))) ?_ Z;rw[YG e2,Cf];refine Jh (.inr (.inl (b++YC t.name,()))) ?_ Z;rw[Q6s e3,C9,UM,C0,C7 hc,C9,Qv (Cb (by omega))];rw[C4 hc]at hb⊢;rw[<-J77];simp only[C3,C2,Ci]at hb;have hL:=Qpz t hN.lv h2 (b++YC ([40,99,111,110,115,116,32]++t.name)) (by simp only[C3,C2,Ci,Cn];omega);refine Jh (.inl (b++YC ([40,99,111,110,115,116,32]++t.name)++YC (XZ t.levels)++YC [41])) ?_ Z;rw[YG e0,Cf];refine Jh (.inl (b++YC ([40,99,111,110,115,116,32]++t.name)++YC (XZ t.levels)++YC [41])) ?_ Z;rw[YG e12,Cf];refine Jh (.inl (b++YC ([40,99,111,110,115,116,32]++t.name)++YC (XZ t.levels)++YC [41])) ?_ Z;rw[YG e1,Cf];refine Jh (.inl (b++YC ([40,99,111,110,115,116,32]++t.name)++YC (XZ t.levels)++YC [41])) ?_ Z;rw[YG e2,Cf];refine Jh (.inl (b++YC ([40,99,111,110,115,116,32]++t.name)++YC (XZ t.levels)++YC [41])) ?_ Z;rw[Q6s e3,C9,UM,C0,C8 hc,Cf,Qv (Cb (by simp only[C2,Ci];omega)),Qv (Cb (by simp only[C3,C2,Ci];omega))];refine Jh _ hL ?_;rw[Qv (Cb (by simp only[C3,C2,Ci,Cn];omega))];rw[Qd6 (by omega) e12]at hb⊢;rw[<-J77];simp only[C3,C2,Ci]at hb;have hw:=WU (k:=t.kind) (by omega) (by omega);have hL:=Qpy (Jo (λrc v=>Qhe rc v.1 v.2) n) t h2 (b++YC ([40]++Jz t.kind)) (by simp only[C3,C2,Ci,Cn];omega) (λk hk b' hb'=>Q7x n k b' (by have:=J4 hk;omega) (by have:=J4 hk;omega) (ht.kid hk) hb');refine Jh (.inl (b++YC ([40]++Jz t.kind)++YC (JT t.kids)++YC [41])) ?_ Z;rw[YG e0,Cf];refine Jh (.inl (b++YC ([40]++Jz t.kind)++YC (JT t.kids)++YC [41])) ?_ Z;rw[YG e12,Cf];refine Jh (.inl (b++YC ([40]++Jz t.kind)++YC (JT t.kids)++YC [41])) ?_ Z;rw[YG e1,Cf];refine Jh (.inl (b++YC ([40]++Jz t.kind)++YC (JT t.kids)++YC [41])) ?_ Z;rw[YG e2,Cf];refine Jh (.inl (b++YC ([40]++Jz t.kind)++YC (JT t.kids)++YC [41])) ?_ Z;rw[YG e3,Cf];refine Jh _ (Qd1 (by omega) (by omega)) ?_;rw[Qv (Cb (by simp only[C2,Ci];omega)),Qv (Cb (by simp only[C3,C2,Ci];omega))];refine Jh _ hL ?_;rw[Qv (Cb (by simp only[C3,C2,Ci,Cn];omega))]
theorem J0r{t:Tm}{b:List Byt}(h:t.size<=2000000)(ht:OkT t)(hb:b.length+(Ql t).length<=900000000):J8a b t=some (.inl (b++YC (Ql t),())):=Q7x Qd t b (by unfold Qd;omega) h ht hb
theorem cap{b:Nat}(h:b<=900000000):Nat.ble b 1000000000=true:=Cb (by omega)
def Xq(e:Int)(t:Tm):Jc6×Int:=if e=0 then(if 65536<(Ql t).length then([],5)else(Ql t,0))else([],e)
theorem Qzo(s:Jc6):List.map Byt.u8 (YC s)=s:=by
 unfold YC;rw[CK];conv=>rhs;rw[<-List.map_id s]
 refine CE λb _=>?_;show Byt.u8 ⟨(b.toNat:Int)⟩=b;unfold Byt.u8;simp
theorem Qyd(s:Jc6):List.all (YC s) (λx:Byt=>cond (decide (0<=x.n)) (decide (x.n<256)) false)=true:=by rw[Ch];intro x hx;obtain⟨b,_,rfl⟩:=Cu.1 hx;have:=b.toNat_lt;show cond (decide (0<=(b.toNat:Int))) (decide ((b.toNat:Int)<256)) false=true;rw[C7 (by omega),C7 (by omega)];rfl
theorem D9(v:List Byt)(s:Jc6)(hv:v=YC s)(hs:s≠[]):Option.bind (some (v.length:Int)) (λn=>cond (decide (65536<n)) (some (([]:List UInt8),(5:Int))) (Q7 (cond (List.all v (λx:Byt=>cond (decide (0<=x.n)) (decide (x.n<256)) false)) (!(List.isEmpty v)) false) (some ((List.map Byt.u8 v),0))))=some (if 65536<s.length then([],5)else(s,0)):=by
 subst hv;rw[C0,Qmf];by_cases hl:65536<s.length;rw[Ca hl,C7 (by omega)];rfl;rw[C4 hl,C8 (by omega),Cf,Qv (by
  rw[Qyd,C9];cases s with
  |nil=>exact(hs rfl).elim
  |cons x s=>rfl),Qzo]
theorem Qkq{s:Jc6}(h:JL s=true):s≠[]:=by rintro rfl;revert h;decide
end
section
open Go.RowKit
set_option maxRecDepth 100000
theorem J6u:Qb prog 26:=enters_of func26 (by kernel_rfl) rfl
def Q0z(rc:Tm×Int->Option (Int))(a0:Tm)(a1:Int):Option (Int):=Option.bind (Qa (σ:=Int×Int) (β:=Int) (λs5=>Option.bind (cond ((decide (s5.2<(a0.levels.length:Int)))) (some (decide (0<=s5.1))) (some false)) λ(v7:Bool)=>cond v7 (Option.bind (QT a0.levels s5.2) λ(x8:Lvl)=>some (.next ((Qm (s5.1-(x8.vs.length:Int))),(Qm (s5.2+1))))) (some (.done s5.1))) Qd ((Qm ((Qm (a1-1))-(a0.levels.length:Int))),0)) λ(v6:Int)=>Option.bind (Qa (σ:=Int×Int) (β:=Int) (λs15=>Option.bind (cond ((decide (s15.2<(a0.kids.length:Int)))) (some (decide (0<=s15.1))) (some false)) λ(v17:Bool)=>cond v17 (Option.bind (QT a0.kids s15.2) λ(x18:Tm)=>Option.bind (rc (x18,s15.1)) λ(x19:Int)=>some (.next (x19,(Qm (s15.2+1))))) (some (.done s15.1))) Qd (v6,0)) λ(v16:Int)=>cond ((decide (100<(a0.name.length:Int)))) (some (-1)) (some v16)
def J8b:Tm×Int->Option (Int):=Jo (λrc v=>Q0z rc v.1 v.2) Qd
def J7o(a0:Tm)(a1:Int):Option (Int):=J8b (a0,a1)
def k26:KF UV:=⟨[.stc .t25,.int .i64],[.int .i64],λv=>J7o v.1 v.2⟩
def Ja4:Hints UV:=⟨[(3,⟨[([.reg 1],.int .i64),([.reg 5],.int .i64)],[([.reg 1],.int .i64)],false⟩),(4,⟨[([.reg 21],.bool)],[],false⟩),(10,⟨[([.reg 1],.int .i64),([.reg 6],.int .i64)],[([.reg 1],.int .i64)],false⟩),(11,⟨[([.reg 41],.bool)],[],false⟩)],[]⟩
theorem Qxf(rc:tup k26.args->Option (tup k26.res))(H:∀u r,rc u=some r->FunW W0 prog 26 (QE DV k26.args u) (Qg (QE DV k26.res r))):JY DV W0 prog 26 ⟨k26.args,k26.res,λv=>Q0z rc v.1 v.2⟩:=Yj (C:=Jc5) rfl Qx Qj (Qw (tb:=[(26,(⟨k26.args,k26.res,rc⟩:KF UV))]) Qj ⟨⟨rfl,H⟩,trivial⟩) Jx func26 J6u Ja4 _ rfl (λv=>by kernel_rfl)
theorem J1k:JY DV W0 prog 26 k26:=⟨rfl,λv r h=>KY (C:=λu r=>FunW W0 prog 26 (QE DV k26.args u) (Qg (QE DV k26.res r))) (λrc H u r h=>(Qxf rc H).2 u r h) Qd v r h⟩
theorem J70:Qb prog 11:=enters_of func11 (by kernel_rfl) rfl
def J44(a0:Tm)(a1:Int):Option (Bool):=Option.bind (J7o a0 a1) λ(x1:Int)=>some (decide (0<=x1))
def k11:KF UV:=⟨[.stc .t25,.int .i64],[.bool],λv=>J44 v.1 v.2⟩
def Jaa:Hints UV:=⟨[],[]⟩
theorem J1o:JY DV W0 prog 11 k11:=Yj (C:=Jc5) rfl Qx Qj (Qw (tb:=[(26,k26)]) Qj ⟨J1k,trivial⟩) Jx func11 J70 Jaa k11 rfl (λv=>by kernel_rfl)
theorem J6z:Qb prog 12:=enters_of func12 (by kernel_rfl) rfl
def Ql3:Option (Bool):=Option.bind (Qcv ([40,32,108,97,109,10,112,114,111,112,32,35,48,32,41]:List UInt8)) λ(x1:Tm×Int×Int)=>Option.bind (Qs5 x1.1) λ(x2:(List UInt8)×Int)=>Option.bind (Qcv ([40,97,112,112,32,102,41]:List UInt8)) λ(x3:Tm×Int×Int)=>Option.bind (Qcv ([35,48,49]:List UInt8)) λ(x4:Tm×Int×Int)=>Option.bind (cond ((x1.2.2==0)) (cond ((x2.2==0)) (cond ((x2.1==([40,108,97,109,32,112,114,111,112,32,35,48,41]:List UInt8))) (cond ((x3.2.1==6)) (cond ((x3.2.2==4)) (cond ((x4.2.1==0)) (some (x4.2.2==4)) (some false)) (some false)) (some false)) (some false)) (some false)) (some false)) λ(v5:Bool)=>some v5
def k12:KF UV:=⟨[],[.bool],λv=>Ql3⟩
def Ja9:Hints UV:=⟨[(5,⟨[([.reg 0],.bool)],[],false⟩)],[]⟩
theorem J1n:JY DV W0 prog 12 k12:=Yj (C:=Jc5) rfl Qx Qj (Qw (tb:=[(13,k13),(15,k15)]) Qj ⟨Qbp,Qsm,trivial⟩) Jx func12 J6z Ja9 k12 rfl (λv=>by kernel_rfl)
def Jau(a0:Tm):Option (Bool):=Option.bind (J44 a0 200) λ(x1:Bool)=>cond ((!x1)) (Option.bind (Ql3) λ(x2:Bool)=>some x2) (Option.bind (Qs5 a0) λ(x3:(List UInt8)×Int)=>Option.bind (J9n a0) λ(x4:(List UInt8)×Int)=>Option.bind (Option.bind (Ql3) λ(x7:Bool)=>cond x7 (cond ((x3.1==x4.1)) (some (x3.2==x4.2)) (some false)) (some false)) λ(v6:Bool)=>some v6)
def Jb0:KF UV:=⟨[.stc .t25],[.bool],λv=>Jau v⟩
def H3:Hints UV:=⟨[(6,⟨[([.reg 2],.bool)],[],false⟩)],[]⟩
end
section
open Go.RowKit Go.Shelf
theorem Qwq{t:Tm}(h:t.size<=2000000)(ht:OkT t)(he:J0x t 1000000 1000000 1000000 1000000=some 0):Qs5 t=some (if 65536<(Ql t).length then([],5)else(Ql t,0)):=by
 have hN:=ht.node;obtain⟨k0,k1⟩:=hN.k;have hb:=Qmw t ht;unfold Qs5;rw[he,C0,show((0:Int)!=0)=false from rfl,Cf];by_cases e0:t.kind=0;rw[Qd7 e0];have:=X3 hN.ix0 hN.ix1;rw[Q6s e0,C9,Qks hN.ix0 hN.ix1,C0];rw[Qv (Cb (by simp only[C2,Ci];omega)),Qv (Cb (by simp only[C3,C2,Ci];omega))];exact D9 _ _ rfl (by simp);by_cases e12:t.kind=12;rw[Qad e12];have:=X3 hN.ix0 hN.ix1;rw[YG e0,Cf,Q6s e12,C9,Qks hN.ix0 hN.ix1,C0];rw[Qv (Cb (by simp only[C2,Ci];omega)),Qv (Cb (by simp only[C3,C2,Ci];omega))];exact D9 _ _ rfl (by simp);by_cases e1:t.kind=1;rw[Qjy e1,YG e0,Cf,YG e12,Cf,Q6s e1,C9,Qv (Cb (by decide))];exact D9 _ _ rfl (by simp);by_cases e2:t.kind=2;obtain⟨l,hl⟩:=U0 (hN.l2 e2);have hm:l∈t.levels:=by rw[hl];simp
 have hv:=hN.lv l hm;rw[Qjx e2 hl]at hb⊢;simp only[C3,C2,Ci]at hb;rw[YG e0,Cf,YG e12,Cf,YG e1,Cf,Q6s e2,C9,hl,show QT [l] 0=some l from rfl,C0,Qhc hv (Wr h hm),C0,Qv (Cb (by simp only[C2,Ci];omega)),Qv (Cb (by simp only[C3,C2,Ci];omega)),Qv (Cb (by simp only[C3,C2,Ci];omega))];exact D9 _ _ rfl (by simp);by_cases e3:t.kind=3;rw[Qjw e3]at hb⊢;rw[YG e0,Cf,YG e12,Cf,YG e1,Cf,YG e2,Cf,Q6s e3,C9,UM,C0];by_cases hc:t.levels=[]/\t.name≠[112,114,111,112];rw[Ca hc]at hb⊢;rw[C7 hc,C9,Qv (Cb (by omega))];exact D9 _ _ Z (Qkq (hN.nk e3));rw[C4 hc]at hb⊢;simp only[C3,C2,Ci]at hb;rw[C8 hc,Cf,Qv (Cb (by simp only[C2,Ci];omega)),Qv (Cb (by simp only[C3,C2,Ci];omega))];refine Jh _ (Qpz t hN.lv h (YC ([40,99,111,110,115,116,32]++t.name)) (by simp only[C3,C2,Ci,Cn];omega)) ?_;rw[Qv (Cb (by simp only[C3,C2,Ci,Cn];omega))];exact D9 _ _ (by rw[<-Gv,<-Gv]) (by simp);rw[Qd6 (by omega) e12]at hb⊢;simp only[C3,C2,Ci]at hb;rw[YG e0,Cf,YG e12,Cf,YG e1,Cf,YG e2,Cf,YG e3,Cf];refine Jh _ (Qd1 (by omega) (by omega)) ?_;rw[Qv (Cb (by simp only[C2,Ci];omega)),Qv (Cb (by simp only[C3,C2,Ci];omega))];refine Jh _ (Qpy J5b t h (YC ([40]++Jz t.kind)) (by simp only[C3,C2,Ci,Cn];omega) (λk hk b' hb'=>J0r (by have:=J4 hk;omega) (ht.kid hk) hb')) ?_;rw[Qv (Cb (by simp only[C3,C2,Ci,Cn];omega))];exact D9 _ _ (by rw[<-Gv,<-Gv]) (by simp)
theorem Qit:Ql3=some true:=by kernel_rfl
theorem Xt:∀(n:Nat)(t:Tm)(a:Int),t.size<=n->t.size<=2000000->∃r,Jo (λrc v=>Q0z rc v.1 v.2) n (t,a)=some r
 |0,t,a,h,_=>by rw[t.size_eq]at h;omega
 |n+1,t,a,h,h2=>by
  have hl:=K6 t;have hv:=U7 (t:=t);show ∃r,Q0z (Jo (λrc v=>Q0z rc v.1 v.2) n) t a=some r;unfold Q0z;obtain⟨r1,h3,-⟩:=Jm (step:=λ(s5:Int×Int)=>Option.bind (cond ((decide (s5.2<(t.levels.length:Int)))) (some (decide (0<=s5.1))) (some false)) λ(v7:Bool)=>cond v7 (Option.bind (QT t.levels s5.2) λ(x8:Lvl)=>some (LO.next (β:=Int) ((Qm (s5.1-(x8.vs.length:Int))),(Qm (s5.2+1))))) (some (.done s5.1))) t.levels (λi (s:Int)=>(s,i)) (λ_ _=>True) (λ_=>True) (by omega) (λx y b s e _=>by
    obtain⟨q1,q2⟩:=ZR e
    dsimp only
    rw[q1,q2]
    cases hd:decide (0<=s)with
    |false=>exact .inl ⟨_,rfl,trivial⟩
    |true=>exact .inr ⟨_,rfl,trivial⟩)
   (λs _=>⟨s,by dsimp only;rw[Jb];rfl,trivial⟩) (Qm ((Qm (a-1))-(t.levels.length:Int))) trivial
  obtain⟨r2,h4,-⟩:=Jm (step:=λ(s15:Int×Int)=>Option.bind (cond ((decide (s15.2<(t.kids.length:Int)))) (some (decide (0<=s15.1))) (some false)) λ(v17:Bool)=>cond v17 (Option.bind (QT t.kids s15.2) λ(x18:Tm)=>Option.bind (Jo (λrc v=>Q0z rc v.1 v.2) n (x18,s15.1)) λ(x19:Int)=>some (LO.next (β:=Int) (x19,(Qm (s15.2+1))))) (some (.done s15.1))) t.kids (λi (s:Int)=>(s,i)) (λ_ _=>True) (λ_=>True) (by omega) (λx y b s e _=>by
    obtain⟨q1,q2⟩:=ZR e
    have hy:=J4 (t:=t) (k:=y) (by rw[e];simp)
    obtain⟨r,hr⟩:=Xt n y s (by omega) (by omega)
    dsimp only
    rw[q1,q2]
    cases hd:decide (0<=s)with
    |false=>exact .inl ⟨_,rfl,trivial⟩
    |true=>
     refine .inr ⟨r,?_,trivial⟩
     show Option.bind (Jo (λrc v=>Q0z rc v.1 v.2) n (y,s)) _=_
     rw[hr];rfl)
   (λs _=>⟨s,by dsimp only;rw[Jb];rfl,trivial⟩) r1 trivial
  have key:∃r,(cond ((decide (100<(t.name.length:Int)))) (some (-1)) (some r2))=some r:=by cases decide (100<(t.name.length:Int)) <;> exact⟨_,rfl⟩
  obtain⟨r,hr⟩:=key;exact⟨r,Jh _ h3 (Jh _ h4 hr)⟩
theorem Qta(t:Tm)(a:Int)(h:t.size<=2000000):∃b,J44 t a=some b:=by obtain⟨r,hr⟩:=Xt Qd t a (by unfold Qd;omega) h;exact⟨_,Jh (x:=J7o t a) r hr Z⟩
end
section
open Go.RowKit Go.Shelf
def Qas(lv:Jc6->Lvl×Int)(s:Jc6):Option (Tm×Int×Int):=match Dv lv s with|.ok t=>Option.bind (Qs5 t) λ(x69:(List UInt8)×Int)=>cond ((x69.2 != 0)) (some (Jab,0,x69.2)) (some (t,0,0))|.bad i=>some (Jab,i,4)
end
section
open Go.RowKit Go.Shelf
theorem Qig{α σ:Type}{f:σ->α->σ}{l:List α}{k:Nat}{x:α}{s:σ}(h:l[k]?=some x):(l.drop k).foldl f s=(l.drop (k+1)).foldl f (f s x):=by
 have:l.drop k=x::l.drop (k+1):=by obtain⟨hk,rfl⟩:=Ce.1 h;exact PQ hk
 rw[this];rfl
theorem Q9b{α σ:Type}{step:Int×σ->Option (LO (Int×σ) σ)}{l:List α}(f:σ->α->σ)(P:Nat->σ->Prop)(hlen:l.length<=900000)(hin:∀(k:Nat)(x:α)(s:σ),l[k]?=some x->P k s->step ((k:Int),s)=some (.next (Qm ((k:Int)+1),f s x))/\P (k+1) (f s x))(hout:∀s,P l.length s->step ((l.length:Int),s)=some (.done s))(s0:σ)(h0:P 0 s0):Qa step Qd (0,s0)=some (l.foldl f s0)/\P l.length (l.foldl f s0):=by
 have key:=KN (step:=step) (λs=>∃k:Nat,s.1=(k:Int)/\k<=l.length/\P k s.2) (λs=>l.length-s.1.toNat) (λs=>(l.drop s.1.toNat).foldl f s.2) (λs hs=>by obtain⟨i,s⟩:=s;obtain⟨k,rfl,hk,hp⟩:=hs;dsimp only at hp⊢;rcases P2 k l.length with hlt|hge;obtain⟨x,hx⟩:∃x,l[k]?=some x:=⟨_,Cq hlt⟩;obtain⟨h1,h2⟩:=hin k x s hx hp;right;rw[Qd2 hlt (by omega)]at h1;refine⟨_,h1,⟨k+1,Z,hlt,h2⟩,?_,?_⟩;simp only[CT];omega;simp only[CT];exact(Qig hx).symm;left;(obtain rfl:k=l.length:=by omega);rw[hout s hp];simp) Qd (0,s0) ⟨0,rfl,Cs _,h0⟩ (by show l.length-0<Qd;unfold Qd;omega);refine⟨by simpa using key,?_⟩;have hind:∀(k:Nat),k<=l.length->P k ((l.take k).foldl f s0):=by intro k;induction k with|zero=>intro _;exact h0|succ k ih=>intro hk;have hx:l[k]?=some l[k]:=Cq (by omega);have:=(hin k _ _ hx (ih (by omega))).2;rw[SC,hx,List.foldl_append];exact this
 have:=hind l.length (Ck _);rwa [List.take_length]at this
structure ImInv(n:Nat)(M:Qr):Prop where
 len:M.1.length<=n
 keys:(M.1.map λe=>e.1).Nodup
 born:(M.1.map λe=>e.2.2).Nodup
 old:∀e∈M.1,e.2.2<M.2
 rng:∀e∈M.1,-9223372036854775808<=e.1/\e.1<=9223372036854775807
theorem ImInv.nil:ImInv 0 imNil:=⟨Ck _,Sn,Sn,(λe h=>by cases h),(λe h=>by cases h)⟩
def mx:Option Int->Int->Option Int|none,p=>some p|some o,p=>some (max o p)
def Qy5:Option Int->Option Int->Option Int|a,none=>a|a,some p=>mx a p
def Kk(vs:List Jc0)(k:Int):Option Int:=(vs.find? λx=>k==x.1).map λx=>x.2
abbrev Asc(l:List Jc0):Prop:=l.Pairwise (λa b=>a.1<b.1)
theorem Q5z(k:Int):Kk [] k=none:=rfl
theorem Zi(x:Jc0)(l:List Jc0):Kk (x::l) x.1=some x.2:=by simp[Kk]
theorem Yn{x:Jc0}{l:List Jc0}{k:Int}(h:k≠x.1):Kk (x::l) k=Kk l k:=by
 have:(k==x.1)=false:=by simpa using h
 simp[Kk,Sv,this]
theorem Q1g{l:List Jc0}{k:Int}(h:∀y∈l,y.1≠k):Kk l k=none:=by induction l with|nil=>rfl|cons x l ih=>rw[Yn (λe=>h x Cd e.symm)];exact ih λy hy=>h y (Cg _ hy)
theorem JU{l:List Jc0}(h:Asc l){k p:Int}:Kk l k=some p↔(k,p)∈l:=by induction l with|nil=>simp[Kk]|cons x l ih=>obtain⟨h1,h2⟩:=CJ.1 h;by_cases hk:k=x.1;subst hk;rw[Zi];constructor;intro e;cases e;exact Cd;intro hm;rcases Co.1 hm with e|hm;rw[<-e];have:=h1 _ hm;simp at this;rw[Yn hk,ih h2];constructor;exact λhm=>Cg _ hm;intro hm;rcases Co.1 hm with e|hm;exact absurd (by rw[<-e]) hk;exact hm
theorem Qlu{x:Jc0}{l:List Jc0}{k:Int}(h:Asc (x::l))(hk:k<x.1):Kk (x::l) k=none:=by refine Q1g λy hy e=>?_;rcases Co.1 hy with rfl|hy;omega;have:=(CJ.1 h).1 y hy;omega
theorem WJ(a:Option Int):Qy5 none a=a:=by cases a <;> rfl
theorem Kc(a:Option Int):Qy5 a none=a:=by cases a <;> rfl
theorem Z0:∀(a b:List Jc0),Asc a->Asc b->∀k,Kk (J5 a b) k=Qy5 (Kk a k) (Kk b k)|[],b,_,_,k=>by rw[Kz,Q5z,WJ]|x::a,[],_,_,k=>by rw[Ky,Q5z,Kc]|x::a,y::b,ha,hb,k=>by obtain⟨a1,a2⟩:=CJ.1 ha;obtain⟨b1,b2⟩:=CJ.1 hb;rw[J5];split;rename_i hxy;by_cases hk:k=x.1;subst hk;rw[Zi,Zi,Qlu hb hxy,Kc];rw[Yn hk,Yn hk];exact Z0 a (y::b) a2 hb k;split;rename_i hyx;by_cases hk:k=y.1;subst hk;rw[Zi,Zi,Qlu ha hyx,WJ];rw[Yn hk,Yn (x:=y) hk];exact Z0 (x::a) b ha b2 k;rename_i h1 h2;(have e:x.1=y.1:=by omega);by_cases hk:k=x.1;subst hk;rw[Zi (x.1,max x.2 y.2),Zi,e,Zi];rfl;(have hk2:k≠y.1:=by rw[<-e];exact hk);rw[Yn (x:=(x.1,max x.2 y.2)) hk,Yn hk,Yn hk2];exact Z0 a b a2 b2 k
termination_by a b=>a.length+b.length
theorem Dm{c m:Int}{vs:List Jc0}:YM c vs<=m↔c<=m/\∀x∈vs,x.2<=m:=by unfold YM;induction vs generalizing c with|nil=>simp|cons y l ih=>rw[PI,ih];constructor;rintro⟨h1,h2⟩;refine⟨by omega,λx hx=>?_⟩;rcases Co.1 hx with rfl|hx;omega;exact h2 x hx;rintro⟨h1,h2⟩;exact⟨by have:=h2 y Cd;omega,λx hx=>h2 x (Cg _ hx)⟩
theorem Wu{c:Int}{vs:List Jc0}{x:Jc0}(h:x∈vs):x.2<=YM c vs:=(Dm.1 (Int.le_refl _)).2 x h
theorem Xi(c:Int)(vs:List Jc0):c<=YM c vs:=(Dm.1 (Int.le_refl _)).1
theorem Qqc{vs:List Jc0}(hne:vs≠[])(h0:∀x∈vs,0<=x.2):∃x∈vs,YM 0 vs=x.2:=by
 have key:∀(l:List Jc0)(c:Int),YM c l=c\/∃x∈l,YM c l=x.2:=by intro l;induction l with|nil=>intro c;exact .inl rfl|cons y l ih=>intro c;have e:YM c (y::l)=YM (max c y.2) l:=rfl;rw[e];rcases ih (max c y.2)with h|⟨x,hx,h⟩;rw[h];rcases Int.le_total c y.2 with h1|h1;right;exact⟨y,Cd,by omega⟩;left;omega;right;exact⟨x,Cg _ hx,h⟩
 rcases key vs 0 with h|h;obtain⟨x,r,rfl⟩:=Pm hne;have h1:=h0 x Cd;have h2:=Wu (c:=0) (vs:=x::r) Cd;exact⟨x,Cd,by omega⟩;exact h
def Q28(C:Int)(vs:List Jc0):Int:=if vs≠[]/\C<=YM 0 vs then 0 else C
theorem Qlm(A B:Lvl):Uv A B=⟨Q28 (max A.c B.c) (J5 A.vs B.vs),J5 A.vs B.vs⟩:=by unfold Uv Q28;split <;> rfl
theorem Qgi{C b:Int}{vs m:List Jc0}(Jb5:0<=C)(hb:0<=b)(hm:vs≠[]->m≠[])(ht:YM 0 vs<=YM 0 m):Q28 (max (Q28 C vs) b) m=Q28 (max C b) m:=by unfold Q28;have h0:=Xi 0 m;by_cases h1:vs≠[]/\C<=YM 0 vs;rw[Ca h1];have hm':=hm h1.1;by_cases h2:b<=YM 0 m;rw[Ca ⟨hm',by omega⟩,Ca ⟨hm',by omega⟩];rw[C4 (λh=>h2 (by omega)),C4 (λh=>h2 (by omega))];omega;rw[C4 h1]
theorem Qac{C:Int}{vs:List Jc0}(Jb5:0<=C)(h0:∀x∈vs,0<=x.2):Yh ⟨C,vs⟩=⟨Q28 C vs,vs⟩:=by unfold Yh Q28 XJ;by_cases h1:vs≠[]/\C<=YM 0 vs;rw[Ca h1];obtain⟨x,hx,he⟩:=Qqc h1.1 h0;rw[Ca];exact CX.2 ⟨x,hx,by simp;omega⟩;rw[C4 h1,C4];intro h2;obtain⟨x,hx,he⟩:=CX.1 h2;have hx':x∈vs:=hx;have:=Wu (c:=0) hx';simp at he;exact h1 ⟨(by intro h;rw[h]at hx';cases hx'),by omega⟩
theorem Z4{l:List Jc0}(h:Asc l){x:Jc0}(hx:x∈l):Kk l x.1=some x.2:=(JU h).2 hx
theorem Q59{a b:List Jc0}(ha:WF a)(hb:WF b){x:Jc0}(hx:x∈a):∃y∈J5 a b,y.1=x.1/\x.2<=y.2:=by have h1:=Z0 a b ha.1 hb.1 x.1;rw[Z4 ha.1 hx]at h1;have hm:=(K2 a b ha hb).1;cases h2:Kk b x.1 with|none=>rw[h2]at h1;exact⟨(x.1,x.2),(JU hm).1 h1,rfl,Int.le_refl _⟩|some p=>rw[h2]at h1;exact⟨(x.1,max x.2 p),(JU hm).1 h1,rfl,by dsimp only;omega⟩
theorem GU{a b:List Jc0}(ha:WF a)(hb:WF b){y:Jc0}(hy:y∈J5 a b):y∈a\/y∈b:=by have hm:=(K2 a b ha hb).1;have h1:=Z0 a b ha.1 hb.1 y.1;rw[Z4 hm hy]at h1;cases h2:Kk a y.1 with|none=>rw[h2,WJ]at h1;exact .inr ((JU hb.1).1 h1.symm)|some p=>cases h3:Kk b y.1 with|none=>rw[h2,h3,Kc]at h1;have:=(JU ha.1).1 h2;cases h1;exact .inl this|some q=>rw[h2,h3]at h1;have h4:=(JU ha.1).1 h2;have h5:=(JU hb.1).1 h3;have h6:y.2=max p q:=CC h1;rcases Int.le_total p q with h7|h7;right;rw[show max p q=q by omega]at h6;rwa [<-h6]at h5;left;rw[show max p q=p by omega]at h6;rwa [<-h6]at h4
theorem Qh7{a b:List Jc0}(h:a≠[]):J5 a b≠[]:=by
 cases a with
 |nil=>exact absurd rfl h
 |cons x a=>cases b with
  |nil=>rw[Ky];exact h
  |cons y b=>
   rw[J5]
   repeat' split
   all_goals exact List.cons_ne_nil _ _
theorem Qgk{a m:List Jc0}(h:∀x∈a,∃y∈m,x.2<=y.2):YM 0 a<=YM 0 m:=by refine Dm.2 ⟨Xi 0 m,λx hx=>?_⟩;obtain⟨y,hy,h1⟩:=h x hx;have:=Wu (c:=0) hy;omega
def Qct(M:Qr)(x:Jc0):Qr:=cond (cond (!(DS M x.1)) true (decide (YN M x.1<x.2))) (WB M x.1 x.2) M
def Quz(M:Qr):Prop:=∃n,ImInv n M
structure RMap(M:Qr)(vs:List Jc0):Prop where
 good:Quz M
 wf:WF vs
 eq:∀k,Ko M k=Kk vs k
theorem RMap.nil:RMap imNil []:=⟨⟨0,ImInv.nil⟩,Q0j,λk=>rfl⟩
def Qef(k:Int)(l:List (Int×Int×Nat)):Option Int:=(l.find? λe=>k==e.1).map λe=>e.2.1
theorem D5(k:Int):∀(l:List (Int×Int×Nat))(i:Nat),(Yr k l i).map (·.2)=Qef k l|[],i=>rfl|e::l,i=>by simp only[Yr,Qef,Sv];cases h:k==e.1 with|true=>rfl|false=>simp only[Cf];exact D5 k l (i+1)
theorem Q1f(M:Qr)(k:Int):Ko M k=Qef k M.1:=D5 k M.1 0
theorem Qhy(k:Int)(l r:List (Int×Int×Nat)):Qef k (l++r)=(Qef k l).or (Qef k r):=by simp only[Qef,List.find?_append];cases l.find? λe=>k==e.1 <;> rfl
theorem UU{k v:Int}{k':Int}:∀{l:List (Int×Int×Nat)}{i j:Nat}{u:Int},Yr k l i=some (j,u)->i<=j/\j-i<l.length/\Qef k' (l.modify (j-i) λe=>(k,v,e.2.2))=if k'=k then some v else Qef k' l|[],i,j,u,h=>by cases h|e::l,i,j,u,h=>by simp only[Yr]at h;cases hk:k==e.1 with|true=>rw[hk]at h;cases h;(have hke:k=e.1:=by simpa using hk);refine⟨Ck _,by simp,?_⟩;rw[PL,List.modify_zero_cons];simp only[Qef,Sv];by_cases hkk:k'=k;subst hkk;simp;(have h1:(k'==k)=false:=by simpa using hkk);(have h2:(k'==e.1)=false:=by rw[<-hke];exact h1);rw[h1,h2,C4 hkk]|false=>rw[hk]at h;simp only[Cf]at h;obtain⟨h1,h2,h3⟩:=UU (v:=v) (k':=k') h;refine⟨by omega,by simp only[C2];omega,?_⟩;rw[show j-i=(j-(i+1))+1 by omega,List.modify_succ_cons];simp only[Qef,Sv]at h3⊢;cases hk':k'==e.1 with|true=>(have:k'≠k:=by intro e1;subst e1;rw[hk]at hk';cases hk');rw[C4 this]|false=>exact h3
theorem Q98(M:Qr)(k v k':Int):Ko (WB M k v) k'=if k'=k then some v else Ko M k':=by rw[Q1f,Q1f];unfold WB;cases h:Yr k M.1 0 with|some p=>(obtain⟨j,u⟩:=p;have:=(UU (v:=v) (k':=k') h).2.2;simpa using this)|none=>(have h0:Qef k M.1=none:=by rw[<-D5 k M.1 0,h];rfl);dsimp only;rw[Qhy];by_cases hkk:k'=k;subst hkk;rw[h0];simp[Qef];rw[C4 hkk];(have:Qef k' [(k,v,M.2)]=none:=by(have h1:(k'==k)=false:=by simpa using hkk);simp[Qef,h1]);rw[this];cases Qef k' M.1 <;> rfl
theorem UN{α β:Type}(g:α->β)(f:α->α):∀(l:List α)(j:Nat),(∀x,l[j]?=some x->g (f x)=g x)->(l.modify j f).map g=l.map g|[],j,_=>by cases j <;> rfl|x::l,0,h=>by rw[List.modify_zero_cons,CH,CH,h x rfl]|x::l,j+1,h=>by rw[List.modify_succ_cons,CH,CH,UN g f l j (λy hy=>h y (by simpa using hy))]
theorem Q5y{k:Int}:∀{l:List (Int×Int×Nat)}{i j:Nat}{u:Int},Yr k l i=some (j,u)->∃e,l[j-i]?=some e/\e.1=k|[],i,j,u,h=>by cases h|e::l,i,j,u,h=>by simp only[Yr]at h;cases hk:k==e.1 with|true=>rw[hk]at h;cases h;exact⟨e,by simp,(by simpa using hk:k=e.1).symm⟩|false=>rw[hk]at h;simp only[Cf]at h;obtain⟨e',h1,h2⟩:=Q5y h;have:=(UU (v:=0) (k':=0) h).1;exact⟨e',by rw[show j-i=(j-(i+1))+1 by omega,List.getElem?_cons_succ];exact h1,h2⟩
theorem Q2s{k:Int}:∀{l:List (Int×Int×Nat)}{i:Nat},Yr k l i=none->∀e∈l,e.1≠k|[],i,_,e,he=>by cases he|x::l,i,h,e,he=>by simp only[Yr]at h;cases hk:k==x.1 with|true=>rw[hk]at h;cases h|false=>rw[hk]at h;rcases Co.1 he with rfl|he;intro e1;rw[e1]at hk;simp at hk;exact Q2s h e he
theorem ImInv.set{n:Nat}{M:Qr}(h:ImInv n M){k:Int}(v:Int)(hk:-9223372036854775808<=k/\k<=9223372036854775807):ImInv (n+1) (WB M k v):=by unfold WB;cases hf:Yr k M.1 0 with|some p=>(obtain⟨j,u⟩:=p;obtain⟨e0,h1,h2⟩:=Q5y hf;rw[Sx]at h1;have m1:(M.1.modify j λe=>(k,v,e.2.2)).map (λe=>e.1)=M.1.map λe=>e.1:=UN _ _ _ _ (λx hx=>by rw[h1]at hx;cases hx;exact h2.symm);have m2:(M.1.modify j λe=>(k,v,e.2.2)).map (λe=>e.2.2)=M.1.map λe=>e.2.2:=UN _ _ _ _ (λx hx=>rfl);refine⟨by rw[List.length_modify];exact SF h.len,by dsimp only;rw[m1];exact h.keys,by dsimp only;rw[m2];exact h.born,λe he=>?_,λe he=>?_⟩;(have:e.2.2∈M.1.map λe=>e.2.2:=by rw[<-m2];exact List.mem_map_of_mem he);obtain⟨e',h3,h4⟩:=Cu.1 this;dsimp only at h4⊢;rw[<-h4];exact h.old e' h3;(have:e.1∈M.1.map λe=>e.1:=by rw[<-m1];exact List.mem_map_of_mem he);obtain⟨e',h3,h4⟩:=Cu.1 this;rw[<-h4];exact h.rng e' h3)|none=>have hn:=Q2s hf;refine⟨by simp only[C3,List.length_singleton];have:=h.len;omega,?_,?_,λe he=>?_,λe he=>?_⟩;rw[Cp,SD];refine⟨h.keys,by simp,λa ha b hb=>?_⟩;obtain⟨e,h3,rfl⟩:=Cu.1 ha;simp at hb;subst hb;exact hn e h3;rw[Cp,SD];refine⟨h.born,by simp,λa ha b hb=>?_⟩;obtain⟨e,h3,rfl⟩:=Cu.1 ha;simp at hb;subst hb;exact Nat.ne_of_lt (h.old e h3);rcases Cz.1 he with he|he;exact Nat.lt_succ_of_lt (h.old e he);simp at he;subst he;exact Cx _;rcases Cz.1 he with he|he;exact h.rng e he;simp at he;subst he;exact hk
theorem Q0v{α:Type}[BEq α][LawfulBEq α]:∀{l:List α},l.Nodup->UL l=true|[],_=>rfl|x::l,h=>by obtain⟨h1,h2⟩:=CZ.1 h;simp only[UL];cases h3:l.any λy=>x==y with|true=>(obtain⟨y,h4,h5⟩:=CX.1 h3;rw[show x=y by simpa using h5]at h1;exact absurd h4 h1)|false=>exact Q0v h2
theorem ImInv.ok{n:Nat}{M:Qr}(h:ImInv n M)(hn:n<=1000000):Q7o M=true:=by
 unfold Q7o;rw[Cb (Cc h.len hn),Q0v h.keys,Q0v h.born];have:(M.1.all λe=>cond (Nat.ble (e.2.2+1) M.2) (cond (decide (-9223372036854775808<=e.1)) (decide (e.1<=9223372036854775807)) false) false)=true:=by refine Ch.2 λe he=>?_;rw[Cb (h.old e he),C7 (h.rng e he).1,C7 (h.rng e he).2];rfl
 rw[this];rfl
theorem Q5a{M:Qr}{k:Int}:k∈JF M↔(Ko M k).isSome:=by rw[Q1f];unfold JF Qef;rw[(ZE _).mem_iff,Option.isSome_map,List.find?_isSome];constructor;intro h;obtain⟨e,h1,h2⟩:=Cu.1 h;exact⟨e,h1,by simp[h2]⟩;rintro⟨e,h1,h2⟩;exact Cu.2 ⟨e,h1,(by simpa using h2:k=e.1).symm⟩
theorem Q5x{n:Nat}{M:Qr}(h:ImInv n M):(JF M).Pairwise (· < ·):=by have h1:(JF M).Nodup:=(ZE _).nodup_iff.2 h.keys;have h2:=Xl (M.1.map λe=>e.1);exact(h2.and h1).imp λ⟨a,b⟩=>Int.lt_iff_le_and_ne.2 ⟨a,b⟩
theorem Asc.nodup{l:List Jc0}(h:Asc l):l.Nodup:=h.imp λhab e=>by rw[e]at hab;omega
theorem Qmj{a b:List Jc0}(ha:Asc a)(hb:Asc b)(h:∀k,Kk a k=Kk b k):a=b:=by
 have hp:a.Perm b:=(List.perm_ext_iff_of_nodup ha.nodup hb.nodup).2 λx=>by obtain⟨k,p⟩:=x;rw[<-JU ha,<-JU hb,h]
 exact List.Perm.eq_of_pairwise (le:=λx y:Jc0=>x.1<y.1) (λx y _ _ h1 h2=>by omega) ha hb hp
theorem Qzt(M:Qr)(x:Jc0)(k:Int):Ko (Qct M x) k=if k=x.1 then mx (Ko M k) x.2 else Ko M k:=by unfold Qct DS YN;cases h:Ko M x.1 with|none=>simp only[Pb,Sc,C9];rw[Q98];by_cases hk:k=x.1;subst hk;rw[Ca rfl,Ca rfl,h];rfl;rw[C4 hk,C4 hk]|some o=>simp only[PD,PV,Cf,PB];by_cases ho:o<x.2;rw[C7 ho,C9,Q98];by_cases hk:k=x.1;subst hk;rw[Ca rfl,Ca rfl,h];(have:max o x.2=x.2:=by omega);simp only[mx,this];rw[C4 hk,C4 hk];rw[C8 ho,Cf];by_cases hk:k=x.1;subst hk;rw[Ca rfl,h];(have:max o x.2=o:=by omega);simp only[mx,this];rw[C4 hk]
theorem Qvp{M:Qr}(h:Quz M){x:Jc0}(hx:-65536<=x.1/\x.1<=7):Quz (Qct M x):=by unfold Qct;obtain⟨n,hn⟩:=h;cases cond (!(DS M x.1)) true (decide (YN M x.1<x.2))with|true=>exact⟨_,hn.set x.2 ⟨by omega,by omega⟩⟩|false=>exact⟨n,hn⟩
theorem Qk4:∀(l:List Jc0)(M:Qr),Asc l->∀k,Ko (l.foldl Qct M) k=Qy5 (Ko M k) (Kk l k)|[],M,_,k=>by rw[Q5z,Kc];rfl|x::l,M,h,k=>by obtain⟨h1,h2⟩:=CJ.1 h;rw[PI,Qk4 l _ h2,Qzt];by_cases hk:k=x.1;subst hk;(have:Kk l x.1=none:=Q1g λy hy e=>by have:=h1 y hy;omega);rw[Ca rfl,this,Zi,Kc];rfl;rw[C4 hk,Yn hk]
theorem Dt:∀(l:List Jc0)(M:Qr),Quz M->(∀x∈l,-65536<=x.1/\x.1<=7)->Quz (l.foldl Qct M)|[],_,h,_=>h|x::l,M,h,hl=>Dt l _ (Qvp h (hl x Cd)) λy hy=>hl y (Cg _ hy)
theorem RMap.merge{M:Qr}{vs l:List Jc0}(h:RMap M vs)(hl:WF l):RMap (l.foldl Qct M) (J5 vs l):=⟨Dt l M h.good hl.2,K2 _ _ h.wf hl,λk=>by rw[Qk4 l M hl.1,h.eq,Z0 vs l h.wf.1 hl.1]⟩
theorem RMap.ok{M:Qr}{vs:List Jc0}(h:RMap M vs):Q7o M=true/\(JF M).map (λk=>(k,YN M k))=vs:=by
 obtain⟨n,hn⟩:=h.good;have h1:(JF M).map (λk=>(k,YN M k))=vs:=by refine Qmj ?_ h.wf.1 λk=>?_;unfold Asc;rw[SH];exact Q5x hn;(have ha:Asc ((JF M).map λk=>(k,YN M k)):=by unfold Asc;rw[SH];exact Q5x hn);rw[<-h.eq k];cases hg:Ko M k with|none=>(refine Q1g λy hy e=>?_;obtain⟨k',hk',rfl⟩:=Cu.1 hy;have:=Q5a.1 hk';dsimp only at e;subst e;rw[hg]at this;cases this)|some p=>have hk:k∈JF M:=Q5a.2 (by rw[hg];rfl);refine(JU ha).2 (Cu.2 ⟨k,hk,?_⟩);unfold YN;rw[hg];rfl
 refine⟨ImInv.ok (n:=M.1.length) {hn with len:=Ck _} ?_,h1⟩;have h2:vs.length=M.1.length:=by rw[<-h1,Cn];exact(ZE _).length_eq.trans (Cn _)
 have:=h.wf.len;omega
theorem Q9t{a b:Nat}(h:a<=b):Nat.ble a b=true:=Cb h
theorem Gs{α:Type}{b:Bool}{x:Option α}(h:b=true):Q7 b x=x:=by rw[h];rfl
theorem Qqk(M:Qr)(k p:Int):(Option.bind (cond (!(DS M k)) (some true) (some (decide ((YN M k)<p)))) (λ(v19:Bool)=>cond v19 (some (WB M k p)) (some M)))=some (Qct M (k,p)):=by unfold Qct;cases DS M k with|false=>rfl|true=>simp only[PV,Cf,C0];cases decide (YN M k<p) <;> rfl
theorem Q61{α β:Type}(f:α->β):∀(l:List α)(out:List β),l.foldl (λo x=>o++[f x]) out=out++l.map f|[],out=>by simp|x::l,out=>by rw[PI,Q61 f l];simp
structure GoodL(A:Lvl):Prop where
 wf:WF A.vs
 c:0<=A.c
 v:∀x∈A.vs,0<=x.2
theorem Qvb(A:Lvl):(Yh A).vs=A.vs:=by unfold Yh;split <;> rfl
theorem D7{A B:Lvl}(ha:GoodL A)(hb:GoodL B):GoodL ⟨max A.c B.c,J5 A.vs B.vs⟩:=⟨K2 _ _ ha.wf hb.wf,by have:=ha.c;show 0<=max A.c B.c;omega,λx hx=>(GU ha.wf hb.wf hx).elim (ha.v x) (hb.v x)⟩
theorem Jb9{a b:Nat}(h1:a<=100000)(h2:b<=100000):cond (Nat.ble a 100000) (Nat.ble b 100000) false=true:=by rw[Q9t h1,Q9t h2];rfl
def Qg8(b:UInt8):Bool:=decide (48<=b.toNat)&&decide (b.toNat<=57)
def Kb(s:Jc6):Jc6:=s.takeWhile Qg8
def Qaw(ds:Jc6):Nat:=ds.foldl (λa b=>10*a+(b.toNat-48)) 0
def Qis(ds:Jc6):Bool:=decide (ds.length=0)||decide (6<ds.length)||(decide (1<ds.length)&&(ds.head?==some 48))
def DC(s:Jc6):Option (Nat×Jc6):=if Qis (Kb s)then none else some (Qaw (Kb s),s.drop (Kb s).length)
def sp(s:Jc6):Jc6:=s.dropWhile (·==32)
def XX(c:UInt8):Jc6->Option Jc6|b::r=>if b=c then some r else none|[]=>none
def W7(i n:Int):Lvl×Int:=if i < -65536\/7<i\/n<0 then(⟨0,[]⟩,2)else if 100<n then(⟨0,[]⟩,15)else(⟨0,[(i,n)]⟩,0)
def Qkm(n:Int):Lvl×Int:=if n<0 then(⟨0,[]⟩,2)else if 100<n then(⟨0,[]⟩,15)else(⟨n,[]⟩,0)
def Qpr(neg:Bool)(t:Jc6):Option ((Lvl×Int)×Jc6):=match DC t with|none=>none|some (n,r)=>match XX 43 (sp r)with|none=>some (W7 (if neg then -1-(n:Int)else n) 0,sp r)|some r2=>match DC (sp r2)with|none=>none|some (p,r3)=>some (W7 (if neg then -1-(n:Int)else n) p,r3)
def Zy(t:Jc6):Option ((Lvl×Int)×Jc6):=match XX 117 t with|some t'=>Qpr false t'|none=>match XX 63 t with|some t'=>Qpr true t'|none=>match DC t with|none=>none|some (n,r)=>some (Qkm n,r)
def KX:Nat->Jc6->Option (List (Lvl×Int)×Jc6)|0,_=>none|n+1,t=>match Zy (sp t)with|none=>none|some (x,r)=>match XX 44 (sp r)with|none=>some ([x],sp r)|some r2=>match KX n r2 with|none=>none|some (xs,r3)=>some (x::xs,r3)
def Q0s(s:Jc6):Option (List (Lvl×Int)):=
 if Lib.hasPrefix (sp s) [109,97,120]then match XX 40 (sp ((sp s).drop 3))with|none=>none|some t=>match KX (s.length+1) t with|none=>none|some (xs,r)=>match XX 41 r with|none=>none|some r2=>if sp r2=[]then some xs else none
 else match Zy (sp s)with|none=>none|some (x,r)=>if sp r=[]then some [x]else none
def ZO(e:Int)(xs:List (Lvl×Int)):Int:=xs.foldl (λe x=>if e=0 then x.2 else e) e
def XE(o:Lvl)(xs:List (Lvl×Int)):Lvl:=xs.foldl (λo x=>Uv o x.1) o
def Qgy(s:Jc6):Lvl×Int:=match Q0s s with|none=>(⟨0,[]⟩,4)|some []=>(⟨0,[]⟩,4)|some (x::xs)=>if ZO 0 (x::xs)=0 then(XE x.1 xs,0)else(⟨0,[]⟩,ZO 0 (x::xs))
theorem Qq6{p:UInt8->Bool}:∀(s:Jc6)(k:Nat),k<(s.takeWhile p).length->∃b,s[k]?=some b/\p b=true|[],k,h=>by simp at h|b::s,k,h=>by rw[P0]at h;split at h;rename_i hb;(cases k with|zero=>exact⟨b,rfl,hb⟩|succ k=>exact Qq6 s k (by simpa using h));simp at h
theorem Qq7{p:UInt8->Bool}:∀(s:Jc6)(b:UInt8),s[(s.takeWhile p).length]?=some b->p b=false|[],b,h=>by simp at h|c::s,b,h=>by rw[P0]at h;split at h;rename_i hc;exact Qq7 s b (by simpa using h);rename_i hc;simp at h;subst h;simpa using hc
theorem Qv9{p:UInt8->Bool}(s:Jc6):s.take (s.takeWhile p).length=s.takeWhile p:=by
 conv=>lhs;rw[<-CL (p:=p) (l:=s)]
 have h:((s.takeWhile p++s.dropWhile p).takeWhile p).length=(s.takeWhile p).length:=by rw[CL]
 rw[h,List.take_left'];rfl
theorem Qd4{p:UInt8->Bool}(s:Jc6):(s.takeWhile p).length<=s.length:=by have:=congrArg List.length (CL (p:=p) (l:=s));rw[C3]at this;omega
theorem Kh(s:Jc6):(sp s).length<=s.length:=by have:=congrArg List.length (CL (p:=λb:UInt8=>b==32) (l:=s));rw[C3]at this;unfold sp;omega
theorem YR{c:UInt8}{t r:Jc6}(h:XX c t=some r):t=c::r:=by cases t with|nil=>cases h|cons b t=>unfold XX at h;dsimp only at h;split at h;rename_i hb;have:=CC h;subst this hb;rfl;cases h
theorem ZV(c:UInt8)(t:Jc6):Lib.hasPrefix t [c]=(XX c t).isSome/\Lib.trimPrefix t [c]=(XX c t).getD t:=by unfold Lib.trimPrefix Lib.hasPrefix;cases t with|nil=>exact⟨rfl,rfl⟩|cons b t=>unfold XX;dsimp only;by_cases h:b=c;subst h;rw[Ca rfl];simp[List.isPrefixOf];rw[C4 h];(have:(c==b)=false:=by simpa using λe=>h e.symm);simp[List.isPrefixOf,this]
theorem DB{t r:Jc6}{v:Nat}(h:DC t=some (v,r)):r.length<t.length/\r=t.drop (Kb t).length/\v=Qaw (Kb t)/\Qis (Kb t)=false:=by
 unfold DC at h;split at h;cases h;rename_i hb;cases h;refine⟨?_,rfl,rfl,by simpa using hb⟩;have h1:(Kb t).length≠0:=λh0=>by simp[Qis,h0]at hb
 have h2:(Kb t).length<=t.length:=Qd4 t;rw[CB];omega
theorem Qsx{neg:Bool}{t r:Jc6}{x:Lvl×Int}(h:Qpr neg t=some (x,r)):r.length<t.length:=by unfold Qpr at h;split at h;cases h;rename_i n r1 h1;have l1:=(DB h1).1;have l2:=Kh r1;split at h;cases h;omega;rename_i r2 h2;have l3:=congrArg List.length (YR h2);rw[C2]at l3;have l4:=Kh r2;split at h;cases h;rename_i p r3 h3;have l5:=(DB h3).1;cases h;omega
theorem Qdu{t r:Jc6}{x:Lvl×Int}(h:Zy t=some (x,r)):r.length<t.length:=by unfold Zy at h;split at h;rename_i t' h1;have l1:=congrArg List.length (YR h1);rw[C2]at l1;have:=Qsx h;omega;split at h;rename_i t' h1;have l1:=congrArg List.length (YR h1);rw[C2]at l1;have:=Qsx h;omega;split at h;cases h;rename_i n r1 h1;cases h;exact(DB h1).1
theorem Qf3:∀(ds:Jc6)(acc:Nat),(∀b∈ds,Qg8 b=true)->Lib.decFrom acc ds=some (ds.foldl (λa b=>10*a+(b.toNat-48)) acc)|[],acc,_=>rfl|b::ds,acc,h=>by have hb:=h b Cd;simp only[Qg8,CD,CS]at hb;(have hd:Lib.digitVal b=some (b.toNat-48):=by unfold Lib.digitVal;rw[Ca hb]);unfold Lib.decFrom;rw[hd];dsimp only;rw[Qf3 ds _ (λc hc=>h c (Cg _ hc)),PI,SJ acc 10]
theorem Qm3{s:Jc6}:∀b∈Kb s,Qg8 b=true:=λb hb=>by have:=List.all_takeWhile (p:=Qg8) (l:=s);exact Ch.1 this b hb
theorem Quf{s:Jc6}(h:Kb s≠[]):Lib.atoi (Kb s)=some ((Qaw (Kb s):Nat):Int):=by have hd:=Qm3 (s:=s);generalize Kb s=ds at h hd;cases ds with|nil=>exact absurd rfl h|cons b ds=>have hb:=hd b Cd;simp only[Qg8,CD,CS]at hb;unfold Lib.atoi;dsimp only;(have h1:(b==45)=false:=by cases hc:(b==45)with|false=>rfl|true=>have:=eq_of_beq hc;subst this;exact absurd hb.1 (by decide));(have h2:(b==43)=false:=by cases hc:(b==43)with|false=>rfl|true=>have:=eq_of_beq hc;subst this;exact absurd hb.1 (by decide));rw[h1,h2,C4 Cl,C4 Cl];unfold Lib.decNat;rw[show(b::ds).isEmpty=false from rfl,C4 Cl,Qf3 _ 0 hd];rfl
theorem Qst{s:Jc6}{k:Nat}{b:UInt8}(h:s[k]?=some b):QT s (k:Int)=some b:=h
theorem Qlo(b:UInt8):Qg8 b=(decide (48<=(b.toNat:Int))&&decide ((b.toNat:Int)<=57)):=by unfold Qg8;congr 1 <;> (apply Bool.eq_iff_iff.2;simp only[CS];omega)
theorem Qkn:∀(ds:Jc6)(acc:Nat),(∀b∈ds,Qg8 b=true)->ds.foldl (λa b=>10*a+(b.toNat-48)) acc+1<=(acc+1)*10 ^ ds.length|[],acc,_=>by simp|b::ds,acc,h=>by have hb:=h b Cd;simp only[Qg8,CD,CS]at hb;rw[PI];refine Cc (Qkn ds _ (λc hc=>h c (Cg _ hc))) ?_;rw[C2,Nat.pow_succ,SJ _ 10,<-Nat.mul_assoc];refine Pr _ ?_;omega
theorem Qnc{t r:Jc6}{v:Nat}(h:DC t=some (v,r)):v<1000000:=by
 obtain⟨-,-,h2,h3⟩:=DB h;have h4:=Qkn (Kb t) 0 Qm3;have h5:(Kb t).length<=6:=by simp[Qis]at h3;omega
 have h6:10 ^ (Kb t).length<=10 ^ 6:=Nat.pow_le_pow_right (by decide) h5;have h7:(10:Nat) ^ 6=1000000:=by decide
 unfold Qaw at h2;omega
theorem Qea{s:Jc6}(hs:s.length<=100000):Qa (GV s) Qd 0=some ((Kb s).length:Int):=by
 refine KN (λi=>∃k:Nat,i=(k:Int)/\k<=(Kb s).length) (λi=>(Kb s).length-i.toNat) (λ_=>((Kb s).length:Int)) ?_ Qd 0 ⟨0,Z,Cs _⟩ ?_;rintro i ⟨k,rfl,hk⟩;have hle:(Kb s).length<=s.length:=Qd4 s;unfold GV;by_cases hlt:k<(Kb s).length;obtain⟨b,hb,hd⟩:=Qq6 s k hlt;rw[Qlo]at hd;simp only[CD]at hd;right;refine⟨((k+1:Nat):Int),?_,⟨k+1,rfl,hlt⟩,by simp only[CT];omega,rfl⟩;rw[C7 (by omega:(k:Int)<s.length),C9,Qst hb];simp only[C0,hd.1,hd.2,C9];rw[J7 (by omega) (by omega)];rfl;have hk':k=(Kb s).length:=by omega
 subst hk';left;cases hb:s[(Kb s).length]? with|none=>have:=Py.1 hb;rw[C8 (by omega:¬((Kb s).length:Int)<s.length)];rfl|some b=>have hd:=Qq7 s b hb;have:=(Ce.1 hb).1;rw[C7 (by omega:((Kb s).length:Int)<s.length),C9,Qst hb];rw[Qlo]at hd;simp only[C0];cases h1:decide (48<=(b.toNat:Int))with|false=>rfl|true=>rw[h1,Bool.true_and]at hd;rw[hd];rfl
 have:(Kb s).length<=s.length:=Qd4 s;show(Kb s).length-0<Qd;unfold Qd;omega
theorem Qb2{s:Jc6}(hs:s.length<=100000)(bad:Bool)(e C:Int)(M:Qr):∃x,YP s bad e C M=some x/\match DC s with
  |some (v,r)=>x=((v:Int),r,bad)
  |none=>x.2.2=true:=by
 have hle:(Kb s).length<=s.length:=Qd4 s
 unfold YP
 rw[Qea hs,C0]
 have g:(cond (decide (0<=((Kb s).length:Int))) (Nat.ble ((Kb s).length:Int).toNat s.length) false)=true:=by
  rw[C7 (by omega),C9];exact Q9t (by simpa using hle)
 rw[Gs g,Gs g,CT]
 have ht:s.take (Kb s).length=Kb s:=Qv9 s
 rw[ht]
 unfold DC Qis
 by_cases h0:(Kb s).length=0
 ·rw[show(((Kb s).length:Int)==0)=true by simpa using h0,C9]
  refine⟨_,Z,?_⟩
  rw[Ca (by simp[h0])]
 ·rw[show(((Kb s).length:Int)==0)=false by simpa using h0,Cf]
  by_cases h6:6<(Kb s).length
  ·rw[C7 (by omega:(6:Int)<(Kb s).length),C9]
   refine⟨_,Z,?_⟩
   rw[Ca (by simp[h6])]
  ·rw[C8 (by omega:¬(6:Int)<(Kb s).length),Cf]
   have hne:Kb s≠[]:=λh=>h0 (by rw[h];rfl)
   have ha:=Quf hne
   obtain⟨b,ds,hds⟩:∃b ds,Kb s=b::ds:=by
    cases h:Kb s with
    |nil=>exact absurd h hne
    |cons b ds=>exact⟨b,ds,rfl⟩
   have Jb9:(cond (Nat.ble (Kb s).length 18) (Lib.atoi (Kb s)).isSome false)=true:=by rw[Q9t (by omega),C9,ha];rfl
   have hi:QT (Kb s) 0=some b:=by rw[hds];rfl
   have hh:(Kb s).head?=some b:=by rw[hds];rfl
   by_cases h1:1<(Kb s).length
   ·rw[C7 (by omega:(1:Int)<(Kb s).length),C9,hi,hh]
    simp only[C0]
    by_cases hb:b=48
    ·subst hb
     refine⟨_,Z,?_⟩
     rw[Ca (by simp[h1])]
    ·have e1:((b.toNat:Int)==48)=false:=by
      have:b.toNat≠48:=λe=>hb (Sj.1 e)
      simpa using λe:(b.toNat:Int)=48=>this (by omega)
     rw[e1,Cf,Gs Jb9]
     refine⟨_,Z,?_⟩
     rw[C4 (by simp[h0,h6,hb])]
     dsimp only
     unfold Q2y
     rw[ha];rfl
   ·rw[C8 (by omega:¬(1:Int)<(Kb s).length),Cf,C0,Cf,Gs Jb9]
    refine⟨_,Z,?_⟩
    rw[C4 (by simp[h0,h6,h1])]
    dsimp only
    unfold Q2y
    rw[ha];rfl
theorem Q5f(i n:Int):(Option.bind (cond (decide (i<(-65536))) (some true) (cond (decide (7<i)) (some true) (some (decide (n<0))))) (λ(v12:Bool)=>cond v12 (some (2,([]:List Jc0))) (cond (decide (100<n)) (some (15,([]:List Jc0))) (some (0,[(i,n)])))):Option (Int×List Jc0))=some ((W7 i n).2,(W7 i n).1.vs)/\(W7 i n).1.c=0:=by unfold W7;by_cases h1:i < -65536;simp[h1];by_cases h2:7<i;simp[h1,h2];by_cases h3:n<0;simp[h1,h2,h3];by_cases h4:100<n;simp[h1,h2,h3,h4];simp[h1,h2,h3,h4]
theorem Qs2(n:Int):(cond (decide (n<0)) (some (2,0)) (cond (decide (100<n)) (some (15,0)) (some (0,n))):Option (Int×Int))=some ((Qkm n).2,(Qkm n).1.c)/\(Qkm n).1.vs=[]:=by unfold Qkm;by_cases h3:n<0;simp[h3];by_cases h4:100<n;simp[h3,h4];simp[h3,h4]
structure PartOK(x:Lvl×Int):Prop where
 c:0<=x.1.c/\x.1.c<=100
 v:∀y∈x.1.vs,Qwa y
 wf:WF x.1.vs
 tr:Yh x.1=x.1
theorem Qa9(i n:Int):PartOK (W7 i n):=by unfold W7;split;exact⟨⟨(by show(0:Int)<=0;omega),(by show(0:Int)<=100;omega)⟩,(λy hy=>by cases hy),Q0j,rfl⟩;rename_i h;split;exact⟨⟨(by show(0:Int)<=0;omega),(by show(0:Int)<=100;omega)⟩,(λy hy=>by cases hy),Q0j,rfl⟩;rename_i h2;refine⟨⟨(by show(0:Int)<=0;omega),(by show(0:Int)<=100;omega)⟩,(λy hy=>?_),Qzk ⟨by omega,by omega⟩,?_⟩;simp at hy;subst hy;exact⟨by omega,by omega,by omega,by omega⟩;unfold Yh;split <;> rfl
theorem Qzm(i n:Int):PartOK (⟨0,(W7 i n).1.vs⟩,(W7 i n).2):=by
 have h:=Qa9 i n;have e:(W7 i n).1=⟨0,(W7 i n).1.vs⟩:=by have:=(Q5f i n).2;generalize (W7 i n).1=L at this⊢;cases L;dsimp only at this⊢;rw[this]
 exact⟨⟨Int.le_refl _,(by show(0:Int)<=100;decide)⟩,h.v,h.wf,by show Yh ⟨0,(W7 i n).1.vs⟩=_;rw[<-e];exact h.tr⟩
theorem Qrj(n:Int):PartOK (Qkm n):=by unfold Qkm;split;exact⟨⟨(by show(0:Int)<=0;omega),(by show(0:Int)<=100;omega)⟩,(λy hy=>by cases hy),Q0j,rfl⟩;split;exact⟨⟨(by show(0:Int)<=0;omega),(by show(0:Int)<=100;omega)⟩,(λy hy=>by cases hy),Q0j,rfl⟩;refine⟨⟨by show(0:Int)<=n;omega,by show n<=100;omega⟩,(λy hy=>by cases hy),Q0j,rfl⟩
theorem Qlt{neg:Bool}{t r:Jc6}{x:Lvl×Int}(h:Qpr neg t=some (x,r)):PartOK x:=by unfold Qpr at h;split at h;cases h;split at h;cases h;exact Qa9 _ _;split at h;cases h;cases h;exact Qa9 _ _
theorem Qar{t r:Jc6}{x:Lvl×Int}(h:Zy t=some (x,r)):PartOK x:=by unfold Zy at h;split at h;exact Qlt h;split at h;exact Qlt h;split at h;cases h;cases h;exact Qrj _
theorem J0g{L:Lvl}(hL:PartOK (L,0))(C:Int)(M:Qr):Xx L 0 C M=some (L.vs.foldl Qct M):=by unfold Xx;have hv:=hL.v;have key:=Q9b (step:=KJ L 0) (l:=L.vs) Qct (λ_ _=>True) (by have:=hL.wf.len;exact Cc this (by decide)) (λk y s hy _=>by have hk:=(Ce.1 hy).1;have hy':Qwa y:=hv y (Cr hy);refine⟨?_,trivial⟩;unfold KJ;dsimp only;rw[C7 (by omega:(k:Int)<L.vs.length),C9,Q40 (S2 _) (by simpa using hy),C0];unfold Qb6;rw[J7 (n:=y.2+0) (by have:=hy'.2.2;omega) (by have:=hy'.2.2;omega),Int.add_zero,Qqk];rfl) (λs _=>by unfold KJ;dsimp only;rw[C8 (by omega),Cf]) M trivial;rw[key.1];rfl
theorem Xv(c:UInt8)(s:Jc6)(bad:Bool)(e C:Int)(M:Qr):Yq [c] s bad e C M=some ((XX c s).getD s):=by unfold Yq;obtain⟨h1,h2⟩:=ZV c s;rw[h1,h2];cases XX c s <;> rfl
theorem Qrx{t:Jc6}(ht:t.length<=100000)(e C:Int)(M:Qr):∃x,Wq t false e C M=some x/\match Zy t with
  |some (L,r)=>x=(r,false,(if e=0 then L.2 else e),max C L.1.c,L.1.vs.foldl Qct M)
  |none=>x.2.1=true:=by
 have fin:∀(L:Lvl×Int)(r:Jc6)(bad:Bool),PartOK L->(Option.bind (cond (e==0) (some L.2) (some e)) λv4=>Option.bind (Xx L.1 0 C M) λx5=>some (r,bad,v4,max C (Qm (L.1.c+0)),x5))=some (r,bad,(if e=0 then L.2 else e),max C L.1.c,L.1.vs.foldl Qct M):=by
  intro L r bad hL
  rw[J0g (L:=L.1) ⟨hL.c,hL.v,hL.wf,hL.tr⟩]
  have hc:=hL.c
  rw[Int.add_zero,J7 (by omega) (by omega)]
  by_cases he:e=0
  ·rw[show(e==0)=true by simpa using he,Ca he];rfl
  ·rw[show(e==0)=false by simpa using he,C4 he];rfl
 have var:∀(t':Jc6)(neg:Bool),t'.length<=100000->∃y:Int×Int×List Jc0×Jc6×Bool×Int×List Jc0,(Option.bind (YP t' false e C M) λx5=>Option.bind (cond neg (some (Qm (-1-x5.1))) (some x5.1)) λv6=>Option.bind (JM x5.2.1 x5.2.2 e C M) λ_=>
   Option.bind (Yq [43] (x5.2.1.dropWhile (·==32)) x5.2.2 e C M) λx8=>Option.bind (cond (Lib.hasPrefix (x5.2.1.dropWhile (·==32)) [43]) (Option.bind (JM x8 x5.2.2 e C M) λ_=>Option.bind (YP (x8.dropWhile (·==32)) x5.2.2 e C M) λx12=>some (x12.1,x12.2.1,x12.2.2)) (some (0,x8,x5.2.2))) λv9=>
   Option.bind (Option.bind (cond (decide (v6<(-65536))) (some true) (cond (decide (7<v6)) (some true) (some (decide (v9.1<0))))) (λ(v12:Bool)=>cond v12 (some (2,([]:List Jc0))) (cond (decide (100<v9.1)) (some (15,([]:List Jc0))) (some (0,[(v6,v9.1)]))))) (λ(y10:Int×(List Jc0))=>some (y10.1,0,y10.2,v9.2.1,v9.2.2,0,y10.2)))=some y/\match Qpr neg t' with
   |some (L,r)=>y=(L.2,L.1.c,L.1.vs,r,false,0,L.1.vs)
   |none=>y.2.2.2.2.1=true/\PartOK (⟨y.2.1,y.2.2.1⟩,y.1):=by
  intro t' neg ht'
  obtain⟨x5,h5,h5'⟩:=Qb2 ht' false e C M
  rw[h5,C0]
  unfold Qpr
  have e6:∀z:Int,∃v6,(cond neg (some (Qm (-1-z))) (some z):Option Int)=some v6:=λz=>by cases neg <;> exact⟨_,rfl⟩
  cases hn:DC t' with
  |none=>
   rw[hn]at h5'
   have hb:x5.2.2=true:=h5'
   obtain⟨v6,hv6⟩:=e6 x5.1
   rw[hv6,C0]
   unfold JM
   simp only[C0]
   rw[Xv,C0,(ZV 43 _).1,hb]
   cases ht43:XX 43 (x5.2.1.dropWhile (·==32))with
   |none=>
    simp only[Pb,Cf,C0]
    rw[(Q5f _ _).1]
    exact⟨_,Z,Z,Qzm _ _⟩
   |some r2=>
    simp only[PD,C9,C0,PB]
    have key:∃z,YP (r2.dropWhile (·==32)) true e C M=some z/\z.2.2=true:=by
     by_cases hl:(r2.dropWhile (·==32)).length<=100000
     ·obtain⟨z,hz,hz'⟩:=Qb2 hl true e C M
      refine⟨z,hz,?_⟩
      cases hq:DC (r2.dropWhile (·==32))with
      |none=>rw[hq]at hz';exact hz'
      |some q=>rw[hq]at hz';dsimp only at hz';rw[hz']
     ·exact(hl (by
       have a1:=Kh r2
       have a2:=congrArg List.length (YR ht43)
       rw[C2]at a2
       have a3:=Kh x5.2.1
       have a4:x5.2.1.length<=t'.length:=by
        unfold YP at h5
        rw[Qea ht',C0]at h5
        have g:(cond (decide (0<=((Kb t').length:Int))) (Nat.ble ((Kb t').length:Int).toNat t'.length) false)=true:=by
         rw[C7 (by omega),C9];exact Q9t (by rw[CT];exact Qd4 t')
        rw[Gs g,Gs g]at h5
        obtain⟨v4,-,h5⟩:=YW h5
        cases v4 with
        |true=>cases h5;simp
        |false=>
         simp only[Cf]at h5
         obtain⟨-,h5⟩:=G7 h5
         cases h5;simp
       unfold sp at a1 a3
       omega)).elim
    obtain⟨z,hz,hz'⟩:=key
    rw[hz]
    simp only[C0]
    rw[(Q5f _ _).1]
    exact⟨_,Z,hz',Qzm _ _⟩
  |some p=>
   obtain⟨n,r⟩:=p
   rw[hn]at h5'
   dsimp only at h5'⊢
   subst h5'
   have hr:=DB hn
   dsimp only
   have e7:(cond neg (some (Qm (-1-(n:Int)))) (some (n:Int)):Option Int)=some (if neg then -1-(n:Int)else n):=by
    cases neg with
    |false=>rfl
    |true=>
     have hbig:=Qnc hn
     rw[Ca rfl,C9,J7 (by omega) (by omega)]
   rw[e7,C0]
   unfold JM
   simp only[C0]
   rw[Xv,C0,(ZV 43 _).1]
   show ∃y,_/\_
   cases ht43:XX 43 (r.dropWhile (·==32))with
   |none=>
    have ht43':XX 43 (sp r)=none:=ht43
    rw[ht43']
    simp only[Pb,Cf,C0,Option.getD_none]
    rw[(Q5f _ _).1]
    exact⟨_,rfl,by rw[(Q5f _ _).2];rfl⟩
   |some r2=>
    have ht43':XX 43 (sp r)=some r2:=ht43
    rw[ht43']
    simp only[PD,C9,C0,PB]
    have hl:(sp r2).length<=100000:=by
     have a1:=Kh r2
     have a2:=congrArg List.length (YR ht43')
     rw[C2]at a2
     have a3:=Kh r
     omega
    obtain⟨z,hz,hz'⟩:=Qb2 hl false e C M
    have hz2:YP (r2.dropWhile (·==32)) false e C M=some z:=hz
    rw[hz2]
    simp only[C0]
    rw[(Q5f _ _).1]
    cases hq:DC (sp r2)with
    |none=>rw[hq]at hz';exact⟨_,rfl,hz',Qzm _ _⟩
    |some q=>
     obtain⟨q1,q2⟩:=q
     rw[hq]at hz'
     dsimp only at hz'
     subst hz'
     exact⟨_,rfl,by dsimp only;rw[(Q5f _ _).2]⟩
 unfold Wq Zy
 rw[Xv,C0,(ZV 117 t).1]
 cases h117:XX 117 t with
 |some t'=>
  have hl:t'.length<=100000:=by
   have a2:=congrArg List.length (YR h117)
   rw[C2]at a2;omega
  obtain⟨y,hy,hy'⟩:=var t' false hl
  simp only[PD,C9,C0,PB,PV]
  rw[hy,C0]
  cases hg:Qpr false t' with
  |none=>
   rw[hg]at hy'
   rw[show(⟨y.2.1,y.2.2.1⟩:Lvl)=(((⟨y.2.1,y.2.2.1⟩:Lvl),y.1):Lvl×Int).1 from rfl]
   have:=fin (⟨y.2.1,y.2.2.1⟩,y.1) y.2.2.2.1 y.2.2.2.2.1 hy'.2
   exact⟨_,this,hy'.1⟩
  |some q=>
   rw[hg]at hy'
   obtain⟨L,r⟩:=q
   dsimp only at hy'⊢
   subst hy'
   exact⟨_,fin L r false (Qlt hg),Z⟩
 |none=>
  simp only[Pb,Cf,Option.getD_none,Sc]
  rw[Xv,(ZV 63 t).1]
  cases h63:XX 63 t with
  |some t'=>
   have hl:t'.length<=100000:=by
    have a2:=congrArg List.length (YR h63)
    rw[C2]at a2;omega
   obtain⟨y,hy,hy'⟩:=var t' true hl
   simp only[PD,C9,C0,PB]
   simp only[C9,C0]at hy
   rw[hy,C0]
   cases hg:Qpr true t' with
   |none=>
    rw[hg]at hy'
    have:=fin (⟨y.2.1,y.2.2.1⟩,y.1) y.2.2.2.1 y.2.2.2.2.1 hy'.2
    exact⟨_,this,hy'.1⟩
   |some q=>
    rw[hg]at hy'
    obtain⟨L,r⟩:=q
    dsimp only at hy'⊢
    subst hy'
    exact⟨_,fin L r false (Qlt hg),Z⟩
  |none=>
   simp only[Pb,Cf,C0,Option.getD_none]
   obtain⟨x5,h5,h5'⟩:=Qb2 ht false e C M
   rw[h5]
   simp only[C0]
   rw[(Qs2 _).1]
   simp only[C0]
   have:=fin (Qkm x5.1) x5.2.1 x5.2.2 (Qrj _)
   have e9:Qkm x5.1=(⟨(Qkm x5.1).1.c,[]⟩,(Qkm x5.1).2):=by
    have h9:=(Qs2 x5.1).2
    generalize Qkm x5.1=o9 at h9⊢
    obtain⟨⟨c9,v9⟩,z9⟩:=o9
    have h9:v9=[]:=h9
    rw[h9]
   rw[e9]at this
   refine⟨_,this,?_⟩
   cases hn:DC t with
   |none=>rw[hn]at h5';exact h5'
   |some q=>rw[hn]at h5';dsimp only at h5'⊢;subst h5';dsimp only;rw[(Qs2 _).2]
def Qlx(M:Qr)(xs:List (Lvl×Int)):Qr:=xs.foldl (λM x=>x.1.vs.foldl Qct M) M
def WC(C:Int)(xs:List (Lvl×Int)):Int:=xs.foldl (λC x=>max C x.1.c) C
theorem Q86:∀(n:Nat)(t:Jc6)(M:Qr)(C e:Int)(fuel:Nat),t.length<n->t.length<=100000->n+2<=fuel->∃o,Qa ZY fuel (true,M,C,t,false,e)=some o/\match KX n t with
  |some (xs,r)=>o=(Qlx M xs,WC C xs,r,false,ZO e xs)
  |none=>o.2.2.2.1=true
 |0,t,M,C,e,fuel,h,_,_=>by omega
 |n+1,t,M,C,e,fuel,h,hl,hf=>by
  obtain⟨f,rfl⟩:∃f,fuel=f+1:=⟨fuel-1,by omega⟩
  have a1:=Kh t
  obtain⟨x,hx,hx'⟩:=Qrx (t:=sp t) (by omega) e C M
  have hx2:Wq (t.dropWhile (·==32)) false e C M=some x:=hx
  have step:ZY (true,M,C,t,false,e)=some (.next ((XX 44 (sp x.1)).isSome,x.2.2.2.2,x.2.2.2.1,(XX 44 (sp x.1)).getD (sp x.1),x.2.1,x.2.2.1)):=by
   unfold ZY JM
   simp only[C9,Sc,C0]
   rw[hx2,C0]
   have e1:=Xv 44 (x.1.dropWhile (·==32)) x.2.1 x.2.2.1 x.2.2.2.1 x.2.2.2.2
   rw[e1,C0,(ZV 44 _).1]
   rfl
  rw[Qa,step]
  dsimp only
  unfold KX
  have stop:∀(more:Bool)(M':Qr)(C':Int)(r:Jc6)(e':Int),Qa ZY f (more,M',C',r,true,e')=some (M',C',r,true,e'):=λmore M' C' r e'=>by
   obtain⟨f',rfl⟩:∃f',f=f'+1:=⟨f-1,by omega⟩
   rw[Qa]
   unfold ZY
   cases more <;> rfl
  cases hp:Zy (sp t)with
  |none=>
   rw[hp]at hx'
   have hb:x.2.1=true:=hx'
   rw[hb,stop]
   exact⟨_,Z,Z⟩
  |some q=>
   obtain⟨L,r⟩:=q
   rw[hp]at hx'
   dsimp only at hx'⊢
   subst hx'
   dsimp only
   have l1:=Qdu hp
   have l2:=Kh r
   cases h44:XX 44 (sp r)with
   |none=>
    obtain⟨f',rfl⟩:∃f',f=f'+1:=⟨f-1,by omega⟩
    rw[Qa]
    refine⟨(L.1.vs.foldl Qct M,max C L.1.c,sp r,false,if e=0 then L.2 else e),?_,Z⟩
    unfold ZY
    rfl
   |some r2=>
    have l3:=congrArg List.length (YR h44)
    rw[C2]at l3
    obtain⟨o,ho,ho'⟩:=Q86 n r2 (L.1.vs.foldl Qct M) (max C L.1.c) (if e=0 then L.2 else e) f (by omega) (by omega) (by omega)
    refine⟨o,ho,?_⟩
    dsimp only
    cases hr:KX n r2 with
    |none=>rw[hr]at ho';exact ho'
    |some q=>
     rw[hr]at ho'
     exact ho'
theorem Qda:∀(xs:List (Lvl×Int))(M:Qr)(C:Int)(vs:List Jc0),(∀x∈xs,PartOK x)->RMap M vs->GoodL ⟨C,vs⟩->C<=100->(∀y∈vs,y.2<=100) -> ∃vs',RMap (Qlx M xs) vs'/\GoodL ⟨WC C xs,vs'⟩/\WC C xs<=100/\(∀y∈vs',y.2<=100)/\XE (Yh ⟨C,vs⟩) xs=Yh ⟨WC C xs,vs'⟩|[],M,C,vs,_,h1,h2,h3,h4=>⟨vs,h1,h2,h3,h4,rfl⟩|x::xs,M,C,vs,hx,h1,h2,h3,h4=>by have p:=hx x Cd;have gx:GoodL x.1:=⟨p.wf,p.c.1,λy hy=>(p.v y hy).2.2.1⟩;have g:=D7 h2 gx;(have e:Uv (Yh ⟨C,vs⟩) x.1=Yh ⟨max C x.1.c,J5 vs x.1.vs⟩:=by rw[Qlm,Qvb,Qac h2.c h2.v,Qac g.c g.v];(have hmono:YM 0 vs<=YM 0 (J5 vs x.1.vs):=Qgk λy hy=>by obtain⟨z,hz,-,h⟩:=Q59 h2.wf p.wf hy;exact⟨z,hz,h⟩);rw[Qgi h2.c p.c.1 Qh7 hmono]);have:=Qda xs (x.1.vs.foldl Qct M) (max C x.1.c) (J5 vs x.1.vs) (λy hy=>hx y (Cg _ hy)) (h1.merge p.wf) g (by have:=p.c.2;omega) (λy hy=>(GU h2.wf p.wf hy).elim (h4 y) λh=>(p.v y h).2.2.2);obtain⟨vs',b1,b2,b3,b4,b5⟩:=this;refine⟨vs',b1,b2,b3,b4,?_⟩;show XE (Uv (Yh ⟨C,vs⟩) x.1) xs=_;rw[e];exact b5
theorem Qvk{x:Lvl×Int}{xs:List (Lvl×Int)}(hx:∀y∈x::xs,PartOK y):∃vs',RMap (Qlx imNil (x::xs)) vs'/\GoodL ⟨WC 0 (x::xs),vs'⟩/\WC 0 (x::xs)<=100/\(∀y∈vs',y.2<=100)/\XE x.1 xs=Yh ⟨WC 0 (x::xs),vs'⟩:=by
 have p:=hx x Cd;have gx:GoodL x.1:=⟨p.wf,p.c.1,λy hy=>(p.v y hy).2.2.1⟩;have h:=Qda xs (x.1.vs.foldl Qct imNil) x.1.c x.1.vs (λy hy=>hx y (Cg _ hy)) (by have:=RMap.nil.merge p.wf;rw[Kz]at this;exact this) gx p.c.2 (λy hy=>(p.v y hy).2.2.2);have e1:Yh ⟨x.1.c,x.1.vs⟩=x.1:=p.tr;rw[e1]at h;have e2:WC 0 (x::xs)=WC x.1.c xs:=by show WC (max 0 x.1.c) xs=_;have:=p.c.1;rw[show max 0 x.1.c=x.1.c by omega]
 rw[e2];exact h
theorem Qnj(C:Int)(vs:List Jc0)(hlen:vs.length<=100000):∃o,Qa (Yy vs C vs) Qd 0=some o/\(XJ C vs=true↔∃i:Nat,o=.inr (i:Int))/\(XJ C vs=false->o=.inl ()):=by
 have key:=Jm (step:=Yy vs C vs) vs (λi (_:Unit)=>i) (λa _=>XJ C a=false) (λo=>(XJ C vs=true↔∃i:Nat,o=.inr (i:Int))/\(XJ C vs=false->o=.inl ())) (by omega) (λa x b s e hI=>by
   have hs:Yy vs C vs (a.length:Int)=cond (decide (C<=x.2)) (some (.done (.inr (a.length:Int)))) (some (.next (Qm ((a.length:Int)+1)))):=by
    unfold Yy Q3v
    rw[e,ZM,Yu];rfl
   rw[hs]
   cases hd:decide (C<=x.2)with
   |true=>
    have hc:XJ C vs=true:=by unfold XJ;rw[e];exact CX.2 ⟨x,by simp,hd⟩
    exact .inl ⟨_,rfl,⟨λ_=>⟨a.length,rfl⟩,λ_=>hc⟩,λh=>by rw[hc]at h;cases h⟩
   |false=>
    refine .inr ⟨(),Z,?_⟩
    unfold XJ at hI⊢
    rw[List.any_append,hI]
    simp[hd])
  (λs hI=>by
   refine⟨.inl (),by unfold Yy;rw[Jb];rfl,?_,λ_=>rfl⟩
   rw[hI]
   constructor
   ·intro h;cases h
   ·rintro⟨i,h⟩;cases h) () rfl
 exact key
theorem Qwo{C:Int}{vs:List Jc0}(hlen:vs.length<=100000)(h3:C<=100)(h4:∀y∈vs,y.2<=100):Q10 C vs=some (0,(Yh ⟨C,vs⟩).c,(Yh ⟨C,vs⟩).vs):=by
 have l0:Qa (ZI vs) Qd 0=some (.inl ()):=by
  have key:=Jm (step:=ZI vs) vs (λi (_:Unit)=>i) (λ_ _=>True) (λo=>o=.inl ()) (by omega) (λa x b s e _=>by
    have hx:x.2<=100:=h4 x (by rw[e];simp)
    refine .inr ⟨(),?_,trivial⟩
    unfold ZI
    rw[e,ZM,Yu,C9,C0,C8 (by omega)];rfl)
   (λs _=>⟨_,by unfold ZI;rw[Jb];rfl,rfl⟩) () trivial
  obtain⟨o,h1,h2⟩:=key;rw[h1,h2]
 unfold Q10;rw[l0];show(cond (decide (100<C)) _ _:Option (Int×Int×List Jc0))=_;rw[C8 (by omega),Cf];obtain⟨o,h1,h2,h5⟩:=Qnj C vs hlen;unfold Q5g Q3w Q3u Yh;rw[h1];cases hc:XJ C vs with|true=>(obtain⟨i,rfl⟩:=h2.1 hc;rw[Ca rfl];dsimp only[Option.bind_some,Sum.elim_inr];rw[C7 (by omega:(0:Int)<=(i:Int))];rfl)|false=>rw[h5 hc,C4 Cl];rfl
theorem J0o{C:Int}{M:Qr}{vs:List Jc0}(h:RMap M vs)(hg:GoodL ⟨C,vs⟩)(h3:C<=100)(h4:∀y∈vs,y.2<=100):Wp C M=some (0,(Yh ⟨C,vs⟩).c,(Yh ⟨C,vs⟩).vs):=by
 have h2:=h.ok.2;have hlen:(JF M).length<=100000:=by have:=h.wf.len;rw[<-h2,Cn]at this;exact this
 have key:=Q9b (step:=KK M) (l:=JF M) (λout k=>out++[(k,YN M k)]) (λk s=>s.length=k) (by omega) (λk y s hy hs=>by have hk:=(Ce.1 hy).1;refine⟨?_,by simp[hs]⟩;unfold KK;dsimp only;rw[C7 (by omega:(k:Int)<(JF M).length),C9,Q40 (S2 _) (by simpa using hy),C0,Gs (Q9t (by simp;omega))]) (λs _=>by unfold KK;dsimp only;rw[C8 (by omega),Cf]) [] rfl;unfold Wp Qb7;rw[C0,Gs h.ok.1,key.1,Q61,P3,h2,C0,Qwo h.wf.len h3 h4];rfl
theorem Qk7:∀(n:Nat)(t:Jc6)(xs:List (Lvl×Int))(r:Jc6),KX n t=some (xs,r)->(∀x∈xs,PartOK x)/\xs≠[]/\r.length<=t.length|0,t,xs,r,h=>by cases h|n+1,t,xs,r,h=>by unfold KX at h;cases hp:Zy (sp t)with|none=>rw[hp]at h;cases h|some q=>obtain⟨x,r1⟩:=q;rw[hp]at h;dsimp only at h;have l1:=Qdu hp;have l2:=Kh t;have l3:=Kh r1;cases h44:XX 44 (sp r1)with|none=>rw[h44]at h;cases h;exact⟨λy hy=>by simp at hy;subst hy;exact Qar hp,by simp,by omega⟩|some r2=>rw[h44]at h;dsimp only at h;have l4:=congrArg List.length (YR h44);rw[C2]at l4;cases hr:KX n r2 with|none=>rw[hr]at h;cases h|some q=>obtain⟨xs',r3⟩:=q;rw[hr]at h;cases h;obtain⟨a1,-,a3⟩:=Qk7 n r2 xs' r hr;refine⟨λy hy=>?_,by simp,by omega⟩;rcases Co.1 hy with rfl|hy;exact Qar hp;exact a1 y hy
theorem J1y(t:Jc6):(t==([]:Jc6))=t.isEmpty:=by cases t <;> rfl
theorem Qdr{x:Lvl×Int}{xs:List (Lvl×Int)}(hx:∀y∈x::xs,PartOK y)(r:Jc6):(Option.bind (cond false (some true) (some (!((r.dropWhile (·==32))==([]:Jc6))))) λv8=>cond v8 (some ((⟨0,[]⟩:Lvl),(4:Int))) (cond (ZO 0 (x::xs)!=0) (some ((⟨0,[]⟩:Lvl),ZO 0 (x::xs))) (Option.bind (Wp (WC 0 (x::xs)) (Qlx imNil (x::xs))) λx11=>some ((⟨x11.2.1,x11.2.2⟩:Lvl),x11.1)))) = some (if sp r=[]then(if ZO 0 (x::xs)=0 then(XE x.1 xs,0)else(⟨0,[]⟩,ZO 0 (x::xs)))else(⟨0,[]⟩,4)):=by rw[Cf,C0];have e0:(r.dropWhile (·==32))=sp r:=rfl;rw[e0,J1y];cases h:sp r with|cons a b=>rfl|nil=>rw[show(!(([]:Jc6)).isEmpty)=false from rfl,Cf,Ca rfl];by_cases he:ZO 0 (x::xs)=0;rw[Ca he,show(ZO 0 (x::xs)!=0)=false by simp[he],Cf];obtain⟨vs,b1,b2,b3,b4,b5⟩:=Qvk hx;rw[J0o b1 b2 b3 b4,b5];rfl;rw[C4 he,show(ZO 0 (x::xs)!=0)=true by simp[he],C9]
theorem Qwk(p s:Jc6)(bad:Bool)(e C:Int)(M:Qr):Yq p s bad e C M=some (Lib.trimPrefix s p):=by unfold Yq Lib.trimPrefix;cases Lib.hasPrefix s p <;> rfl
theorem Qww{s:Jc6}(hs:s.length<=65536):DF s=some (Qgy s):=by unfold DF Qgy Q0s JM;rw[C8 (by omega:¬(65536:Int)<s.length),Cf];simp only[C0];rw[Qwk,C0];have e0:(s.dropWhile (·==32))=sp s:=rfl;rw[e0];have l0:=Kh s;cases hp:Lib.hasPrefix (sp s) [109,97,120]with|true=>(rw[Ca rfl,C9,Xv,C0];(have e1:Lib.trimPrefix (sp s) [109,97,120]=(sp s).drop 3:=by unfold Lib.trimPrefix;rw[hp,Ca rfl];rfl);rw[e1];have e2:(((sp s).drop 3).dropWhile (·==32))=sp ((sp s).drop 3):=rfl;rw[e2,(ZV 40 _).1];have l1:=Kh ((sp s).drop 3);rw[CB]at l1;cases h40:XX 40 (sp ((sp s).drop 3))with|none=>simp only[Pb,Sc];(have:Qa ZY Qd (true,imNil,0,(none:Option Jc6).getD (sp ((sp s).drop 3)),true,0)=some (imNil,0,(none:Option Jc6).getD (sp ((sp s).drop 3)),true,0):=by unfold Qd;rw[Qa];rfl);rw[this,C0];dsimp only;rw[Xv,C0,(ZV 41 _).1];cases XX 41 ((none:Option Jc6).getD (sp ((sp s).drop 3))) <;> rfl|some t=>have l2:=congrArg List.length (YR h40);rw[C2]at l2;simp only[PD,PV,PB];obtain⟨o,ho,ho'⟩:=Q86 (s.length+1) t imNil 0 0 Qd (by omega) (by omega) (by unfold Qd;omega);rw[ho,C0];cases hr:KX (s.length+1) t with|none=>rw[hr]at ho';have hb:o.2.2.2.1=true:=ho';rw[Xv,C0,(ZV 41 _).1,hb];cases XX 41 o.2.2.1 <;> rfl|some q=>obtain⟨xs,r⟩:=q;rw[hr]at ho';dsimp only at ho'⊢;subst ho';dsimp only;rw[Xv,C0,(ZV 41 _).1];obtain⟨a1,a2,a3⟩:=Qk7 _ _ _ _ hr;cases h41:XX 41 r with|none=>rfl|some r2=>simp only[PD,PV,Cf,C0,PB];cases xs with|nil=>exact absurd rfl a2|cons x xs=>have:=Qdr a1 r2;simp only[Cf,C0]at this;rw[this];by_cases h:sp r2=[];rw[Ca h,Ca h];rw[C4 h,C4 h])|false=>rw[C4 Cl,Cf];(have e1:Lib.trimPrefix (sp s) [109,97,120]=sp s:=by unfold Lib.trimPrefix;rw[hp,C4 Cl]);rw[e1];obtain⟨x,hx,hx'⟩:=Qrx (t:=sp s) (by omega) 0 0 imNil;rw[hx];simp only[C0];cases hq:Zy (sp s)with|none=>rw[hq]at hx';have hb:x.2.1=true:=hx';rw[hb];rfl|some q=>obtain⟨L,r⟩:=q;rw[hq]at hx';dsimp only at hx'⊢;subst hx';dsimp only;refine Eq.trans (Qdr (x:=L) (xs:=[]) (λy hy=>by simp at hy;subst hy;exact Qar hq) r) ?_;by_cases h:sp r=[];rw[Ca h,Ca h];rw[C4 h,C4 h]
end
section
open Go.RowKit
set_option maxRecDepth 100000
theorem J64:Qb prog 88:=enters_of func88 (by kernel_rfl) rfl
def J7l(a0:List Jc0)(a1:List Jc0):Option (Bool):=cond (((a0.length:Int)!=(a1.length:Int))) (some false) (Option.bind (Qa (σ:=Int) (β:=Unit⊕Bool) (λs3=>cond ((decide (s3<(a0.length:Int)))) (Option.bind (QT a0 s3) λ(x5:Jc0)=>Option.bind (QT a1 s3) λ(x6:Jc0)=>cond ((!((x5.1==x6.1)&&(x5.2==x6.2)))) (some (.done (.inr false))) (some (.next (Qm (s3+1))))) (some (.done (.inl ())))) Qd 0) (Sum.elim (λ(v4:Unit)=>some true) (λ(o7:Bool)=>some o7)))
def k88:KF UV:=⟨[.sl .t142,.sl .t142],[.bool],λv=>J7l v.1 v.2⟩
def J9q:Hints UV:=⟨[(5,⟨[([.reg 13],.int .i64)],[],true⟩)],[(10,[])]⟩
theorem J1c:JY DV W0 prog 88 k88:=Yj (C:=Jc5) rfl Qx Qj (Qw (tb:=[]) Qj trivial) Jx func88 J64 J9q k88 rfl (λv=>by kernel_rfl)
theorem J6k:Qb prog 42:=enters_of func42 (by kernel_rfl) rfl
def J58(a0:Lvl)(a1:Lvl):Option (Bool):=Option.bind (cond ((a0.c==a1.c)) (Option.bind (J7l a0.vs a1.vs) λ(x3:Bool)=>some x3) (some false)) λ(v2:Bool)=>some v2
def k42:KF UV:=⟨[.stc .t82,.stc .t82],[.bool],λv=>J58 v.1 v.2⟩
def Ja0:Hints UV:=⟨[(1,⟨[([.reg 4],.bool)],[],false⟩)],[]⟩
theorem Qsk:JY DV W0 prog 42 k42:=Yj (C:=Jc5) rfl Qx Qj (Qw (tb:=[(88,k88)]) Qj ⟨J1c,trivial⟩) Jx func42 J6k Ja0 k42 rfl (λv=>by kernel_rfl)
theorem J6v:Qb prog 19:=enters_of func19 (by kernel_rfl) rfl
theorem J6l:Qb prog 41:=enters_of func41 (by kernel_rfl) rfl
theorem J6j:Qb prog 43:=enters_of func43 (by kernel_rfl) rfl
def J3u:IH UV:=⟨f41,⟨[(5,⟨[([.reg 17],.int .i64)],[],true⟩)],[]⟩,.lab [([.reg 6],.bool)]⟩
def J3t:IH UV:=⟨f43,⟨[(5,⟨[([.reg 17],.int .i64)],[],true⟩)],[]⟩,.lab [([.reg 6],.bool)]⟩
def Qhj(rc:Tm×Tm->Option (Bool))(a0:Tm)(a1:Tm):Option (Bool):=Option.bind (cond ((a0.kind==a1.kind)) (cond ((a0.index==a1.index)) (cond ((a0.name==a1.name)) (Option.bind (cond (((a0.levels.length:Int)!=(a1.levels.length:Int))) (some false) (Option.bind (Qa (σ:=Int) (β:=Unit⊕Bool) (λs26=>cond ((decide (s26<(a0.levels.length:Int)))) (Option.bind (QT a0.levels s26) λ(x28:Lvl)=>Option.bind (QT a1.levels s26) λ(x29:Lvl)=>Option.bind (J58 x28 x29) λ(x30:Bool)=>cond ((!x30)) (some (.done (.inr false))) (some (.next (Qm (s26+1))))) (some (.done (.inl ())))) Qd 0) (Sum.elim (λ(v27:Unit)=>some true) (λ(o31:Bool)=>some o31)))) λ(v22:Bool)=>cond v22 (Option.bind (cond (((a0.kids.length:Int)!=(a1.kids.length:Int))) (some false) (Option.bind (Qa (σ:=Int) (β:=Unit⊕Bool) (λs36=>cond ((decide (s36<(a0.kids.length:Int)))) (Option.bind (QT a0.kids s36) λ(x38:Tm)=>Option.bind (QT a1.kids s36) λ(x39:Tm)=>Option.bind (rc (x38,x39)) λ(x40:Bool)=>cond ((!x40)) (some (.done (.inr false))) (some (.next (Qm (s36+1))))) (some (.done (.inl ())))) Qd 0) (Sum.elim (λ(v37:Unit)=>some true) (λ(o41:Bool)=>some o41)))) λ(v32:Bool)=>some v32) (some false)) (some false)) (some false)) (some false)) λ(v21:Bool)=>some v21
def J8c:Tm×Tm->Option (Bool):=Jo (λrc v=>Qhj rc v.1 v.2) Qd
def m19(a0:Tm)(a1:Tm):Option (Bool):=J8c (a0,a1)
def k19:KF UV:=⟨[.stc .t25,.stc .t25],[.bool],λv=>m19 v.1 v.2⟩
def Ja5:Hints UV:=⟨[(1,⟨[([.reg 4],.bool)],[],false⟩)],[]⟩
theorem Qxg(rc:tup k19.args->Option (tup k19.res))(H:∀u r,rc u=some r->FunW W0 prog 19 (QE DV k19.args u) (Qg (QE DV k19.res r))):JY DV W0 prog 19 ⟨k19.args,k19.res,λv=>Qhj rc v.1 v.2⟩:=Yj (C:=Jc5) rfl Qx Qj (Qw (tb:=[(19,(⟨k19.args,k19.res,rc⟩:KF UV)),(42,k42)]) Qj ⟨⟨rfl,H⟩,Qsk,trivial⟩) (Gr (C:=Jc5) rfl Qx Qj (Qw (tb:=[(19,(⟨k19.args,k19.res,rc⟩:KF UV)),(42,k42)]) Qj ⟨⟨rfl,H⟩,Qsk,trivial⟩) Jx (I:=[(41,J3u),(43,J3t)]) ⟨⟨func41,J6l⟩,⟨func43,J6j⟩,trivial⟩ 8) func19 J6v Ja5 _ rfl (λv=>by kernel_rfl)
theorem J1l:JY DV W0 prog 19 k19:=⟨rfl,λv r h=>KY (C:=λu r=>FunW W0 prog 19 (QE DV k19.args u) (Qg (QE DV k19.res r))) (λrc H u r h=>(Qxg rc H).2 u r h) Qd v r h⟩
def Jat(a0:List UInt8)(a1:List UInt8):Option (Bool):=Option.bind (cond ((decide (600<(a0.length:Int)))) (some true) (some (decide (200<(a1.length:Int))))) λ(v1:Bool)=>cond v1 (Option.bind (Ql3) λ(x2:Bool)=>some x2) (Option.bind (Qcv a0) λ(x3:Tm×Int×Int)=>Option.bind (cond ((x3.2.2 != 4)) (some true) (cond ((decide (x3.2.1<0))) (some true) (cond ((decide ((a0.length:Int)<=x3.2.1))) (some true) (Option.bind (QT a0 x3.2.1) λ(x7:UInt8)=>cond (((x7.toNat:Int)!=40)) (Option.bind (QT a0 x3.2.1) λ(x8:UInt8)=>some ((x8.toNat:Int)!=41)) (some false))))) λ(v6:Bool)=>cond v6 (Option.bind (Option.bind (Ql3) λ(x11:Bool)=>cond x11 (cond ((x3.2.2 != 4)) (some true) (cond ((decide (0<=x3.2.1))) (some (decide (x3.2.1<=(a0.length:Int)))) (some false))) (some false)) λ(v10:Bool)=>some v10) (Q7 (inB (Qm (x3.2.1+1)) a0.length) (Q7 (Nat.ble ((List.take (Qm (x3.2.1+1)).toNat a0).length+a1.length) 1000000000) (Option.bind (Qcv ((List.take (Qm (x3.2.1+1)).toNat a0)++a1)) λ(x12:Tm×Int×Int)=>Option.bind (Option.bind (Ql3) λ(x15:Bool)=>cond x15 (cond ((x12.2.2==4)) (some (x12.2.1==x3.2.1)) (some false)) (some false)) λ(v14:Bool)=>some v14))))
def k5:KF UV:=⟨[.str,.str],[.bool],λv=>Jat v.1 v.2⟩
def H5:Hints UV:=⟨[(1,⟨[([.reg 18],.bool)],[],false⟩),(5,⟨[([.reg 49],.bool)],[],false⟩),(7,⟨[([.reg 4],.bool)],[],false⟩),(9,⟨[([.reg 4],.bool)],[],false⟩)],[]⟩
def Jar(a0:List UInt8)(a1:Int):Option (Bool):=cond ((decide (600<(a0.length:Int)))) (Option.bind (Ql3) λ(x1:Bool)=>some x1) (Q7 (!(4==0)) (Option.bind (QT ([([32]:List UInt8),([10]:List UInt8),([9,32]:List UInt8),([13,10]:List UInt8)]:List ((List UInt8))) (Int.tmod a1 4)) λ(x2:(List UInt8))=>Option.bind (Qa (σ:=(List UInt8)×Bool×Int) (β:=(List UInt8)) (λs9=>cond ((decide (s9.2.2<(a0.length:Int)))) (Q7 (cond (decide (0<=s9.2.2)) (cond (Nat.ble s9.2.2.toNat (Qm (s9.2.2+1)).toNat) (inB (Qm (s9.2.2+1)) a0.length) false) false) (Option.bind (cond (((List.drop s9.2.2.toNat (List.take (Qm (s9.2.2+1)).toNat a0))==([91]:List UInt8))) (some true) (cond s9.2.1 (some (!((List.drop s9.2.2.toNat (List.take (Qm (s9.2.2+1)).toNat a0))==([93]:List UInt8)))) (some false))) λ(v11:Bool)=>Q7 (Nat.ble (s9.1.length+(List.drop s9.2.2.toNat (List.take (Qm (s9.2.2+1)).toNat a0)).length) 1000000000) (Option.bind (cond ((!v11)) (cond (((List.drop s9.2.2.toNat (List.take (Qm (s9.2.2+1)).toNat a0))==([40]:List UInt8))) (some true) (cond (((List.drop s9.2.2.toNat (List.take (Qm (s9.2.2+1)).toNat a0))==([41]:List UInt8))) (some true) (some ((List.drop s9.2.2.toNat (List.take (Qm (s9.2.2+1)).toNat a0))==([32]:List UInt8))))) (some false)) λ(v12:Bool)=>Option.bind (cond v12 (Q7 (Nat.ble ((s9.1++(List.drop s9.2.2.toNat (List.take (Qm (s9.2.2+1)).toNat a0))).length+x2.length) 1000000000) (some ((s9.1++(List.drop s9.2.2.toNat (List.take (Qm (s9.2.2+1)).toNat a0)))++x2))) (some (s9.1++(List.drop s9.2.2.toNat (List.take (Qm (s9.2.2+1)).toNat a0))))) λ(v13:(List UInt8))=>some (.next (v13,v11,(Qm (s9.2.2+1))))))) (some (.done s9.1))) Qd (([]:List UInt8),false,0)) λ(v10:(List UInt8))=>Option.bind (Qcv a0) λ(x14:Tm×Int×Int)=>Option.bind (Qcv v10) λ(x15:Tm×Int×Int)=>Option.bind (Option.bind (Ql3) λ(x19:Bool)=>cond x19 (cond ((x14.2.2==x15.2.2)) (Option.bind (m19 x14.1 x15.1) λ(x20:Bool)=>some x20) (some false)) (some false)) λ(v18:Bool)=>some v18))
def Jaz:KF UV:=⟨[.str,.int .u8],[.bool],λv=>Jar v.1 v.2⟩
theorem J6w:Qb prog 18:=enters_of func18 (by kernel_rfl) rfl
def m18(a0:List UInt8):Option (Bool):=Option.bind (Qa (σ:=Int) (β:=Unit⊕Bool) (λs24=>cond ((decide ((Qm (s24+7))<(a0.length:Int)))) (Option.bind (Qa (σ:=Int) (β:=Int) (λs40=>Option.bind (Option.bind (QT a0 s24) λ(x46:UInt8)=>cond (((x46.toNat:Int)==35)) (cond ((decide ((Qm ((Qm (s24+s40))+1))<(a0.length:Int)))) (Option.bind (QT a0 (Qm ((Qm (s24+s40))+1))) λ(x47:UInt8)=>cond ((decide (48<=(x47.toNat:Int)))) (Option.bind (QT a0 (Qm ((Qm (s24+s40))+1))) λ(x48:UInt8)=>some (decide ((x48.toNat:Int)<=57))) (some false)) (some false)) (some false)) λ(v45:Bool)=>cond v45 (some (.next (Qm (s40+1)))) (some (.done s40))) Qd 0) λ(v41:Int)=>cond ((decide (6<v41))) (some (.done (.inr true))) (some (.next (Qm (s24+1))))) (some (.done (.inl ())))) Qd 0) (Sum.elim (λ(v25:Unit)=>some false) (λ(o49:Bool)=>some o49))
def k18:KF UV:=⟨[.str],[.bool],λv=>m18 v⟩
def Ja6:Hints UV:=⟨[(2,⟨[([.reg 3],.int .i64)],[],true⟩),(7,⟨[([.reg 4],.int .i64)],[([.reg 4],.int .i64)],false⟩),(8,⟨[([.reg 42],.bool)],[],false⟩)],[]⟩
theorem J1m:JY DV W0 prog 18 k18:=Yj (C:=Jc5) rfl Qx Qj (Qw (tb:=[]) Qj trivial) Jx func18 J6w Ja6 k18 rfl (λv=>by kernel_rfl)
theorem J8o:Qb prog 6:=enters_of func6 (by kernel_rfl) rfl
def Jas(a0:Tm):Option (Bool):=Option.bind (J44 a0 200) λ(x1:Bool)=>cond ((!x1)) (Option.bind (Ql3) λ(x2:Bool)=>some x2) (Option.bind (Qs5 a0) λ(x3:(List UInt8)×Int)=>cond ((x3.2 != 0)) (Option.bind (Option.bind (Ql3) λ(x6:Bool)=>cond x6 (some (x3.1==([]:List UInt8))) (some false)) λ(v5:Bool)=>some v5) (Option.bind (m18 x3.1) λ(x7:Bool)=>cond x7 (Option.bind (Ql3) λ(x8:Bool)=>some x8) (Option.bind (Qcv x3.1) λ(x9:Tm×Int×Int)=>Option.bind (cond ((x9.2.2 != 0)) (some true) (cond ((x9.2.1 != 0)) (some true) (Option.bind (m19 a0 x9.1) λ(x12:Bool)=>cond ((!x12)) (some true) (some (x3.1==([]:List UInt8)))))) λ(v11:Bool)=>cond v11 (some false) (Option.bind (QT x3.1 0) λ(x13:UInt8)=>cond (((x13.toNat:Int)!=40)) (Option.bind (Ql3) λ(x14:Bool)=>some x14) (Q7 (inB (Qm ((x3.1.length:Int)-1)) x3.1.length) (Option.bind (Qcv (List.take (Qm ((x3.1.length:Int)-1)).toNat x3.1)) λ(x15:Tm×Int×Int)=>Q7 (Nat.ble (x3.1.length+([32,120]:List UInt8).length) 1000000000) (Option.bind (Qcv (x3.1++([32,120]:List UInt8))) λ(x16:Tm×Int×Int)=>Option.bind (Option.bind (Ql3) λ(x19:Bool)=>cond x19 (cond ((x15.2.2==4)) (cond ((x15.2.1==(Qm ((x3.1.length:Int)-1)))) (cond ((x16.2.2==4)) (some (x16.2.1==(Qm ((x3.1.length:Int)+1)))) (some false)) (some false)) (some false)) (some false)) λ(v18:Bool)=>some v18)))))))
def k6:KF UV:=⟨[.stc .t25],[.bool],λv=>Jas v⟩
def Jc2:Hints UV:=⟨[(7,⟨[([.reg 2],.bool)],[],false⟩),(12,⟨[([.reg 51],.bool)],[],false⟩),(20,⟨[([.reg 2],.bool)],[],false⟩)],[]⟩
theorem J5m:JY DV W0 prog 6 k6:=Yj (C:=Jc5) rfl Qx Qj (Qw (tb:=[(11,k11),(12,k12),(13,k13),(15,k15),(18,k18),(19,k19)]) Qj ⟨J1o,J1n,Qbp,Qsm,J1m,J1l,trivial⟩) Jx func6 J8o Jc2 k6 rfl (λv=>by kernel_rfl)
end
section
open Go.RowKit Go.Shelf
theorem J61:∀s:Jc6,s.length<=65536->DF s=some (Qgy s):=λs h=>Qww h
theorem Qhn(s:Jc6)(h:s.length<=65536):Qcv s=Qas Qgy s:=J0z J61 s h
theorem Qrp(l:List Jc0)(h:l.length<=900000000):J7l l l=some true:=by unfold J7l;rw[show(((l.length:Int))!=(l.length:Int))=false by simp,Cf];obtain⟨r,h1,h2⟩:=Jm (step:=(λs3=>cond ((decide (s3<(l.length:Int)))) (Option.bind (QT l s3) λ(x5:Jc0)=>Option.bind (QT l s3) λ(x6:Jc0)=>cond ((!((x5.1==x6.1)&&(x5.2==x6.2)))) (some (LO.done (.inr false))) (some (.next (Qm (s3+1))))) (some (.done (.inl ()))))) l (λi (_:Unit)=>i) (λ_ _=>True) (λ(o:Unit⊕Bool)=>o=.inl ()) h (λa x b s e _=>.inr ⟨(),by rw[e,ZM,Yu];simp,trivial⟩) (λs _=>⟨_,by rw[Jb];rfl,rfl⟩) () trivial;rw[h1,h2];rfl
theorem Qry(l:Lvl)(h:l.vs.length<=900000000):J58 l l=some true:=by unfold J58;rw[CN.2 (rfl:l.c=l.c),C9,Qrp _ h];rfl
theorem Qku:∀(n:Nat)(t:Tm),t.size<=n->t.size<=2000000->Jo (λrc v=>Qhj rc v.1 v.2) n (t,t)=some true
 |0,t,h,_=>by rw[t.size_eq]at h;omega
 |n+1,t,h,h2=>by
  have hl:=K6 t;have hv:=U7 (t:=t);show Qhj (Jo (λrc v=>Qhj rc v.1 v.2) n) t t=some true;have ih:=Qku n;generalize Jo (λrc v=>Qhj rc v.1 v.2) n=R at ih⊢;unfold Qhj;rw[CN.2 (rfl:t.kind=t.kind),CN.2 (rfl:t.index=t.index),CN.2 (rfl:t.name=t.name),C9,C9,C9,show(((t.levels.length:Int))!=(t.levels.length:Int))=false by simp,show(((t.kids.length:Int))!=(t.kids.length:Int))=false by simp,Cf,Cf];obtain⟨r1,h3,h4⟩:=Jm (step:=(λs26=>cond ((decide (s26<(t.levels.length:Int)))) (Option.bind (QT t.levels s26) λ(x28:Lvl)=>Option.bind (QT t.levels s26) λ(x29:Lvl)=>Option.bind (J58 x28 x29) λ(x30:Bool)=>cond ((!x30)) (some (LO.done (.inr false))) (some (.next (Qm (s26+1))))) (some (.done (.inl ()))))) t.levels (λi (_:Unit)=>i) (λ_ _=>True) (λ(o:Unit⊕Bool)=>o=.inl ()) (by omega) (λa x b s e _=>.inr ⟨(),by
    have hx:=Wr h2 (l:=x) (by rw[e];simp)
    have hm:=Qry x (by omega)
    rw[e,ZM,Yu,C9,C0,C0,hm];rfl,trivial⟩)
   (λs _=>⟨_,by rw[Jb];rfl,rfl⟩) () trivial
  obtain⟨r2,h5,h6⟩:=Jm (step:=(λs36=>cond ((decide (s36<(t.kids.length:Int)))) (Option.bind (QT t.kids s36) λ(x38:Tm)=>Option.bind (QT t.kids s36) λ(x39:Tm)=>Option.bind (R (x38,x39)) λ(x40:Bool)=>cond ((!x40)) (some (LO.done (.inr false))) (some (.next (Qm (s36+1))))) (some (.done (.inl ()))))) t.kids (λi (_:Unit)=>i) (λ_ _=>True) (λ(o:Unit⊕Bool)=>o=.inl ()) (by omega) (λa x b s e _=>.inr ⟨(),by
    have hx:=J4 (t:=t) (k:=x) (by rw[e];simp)
    have hm:=ih x (by omega) (by omega)
    rw[e,ZM,Yu,C9,C0,C0,hm];rfl,trivial⟩)
   (λs _=>⟨_,by rw[Jb];rfl,rfl⟩) () trivial
  rw[h3,h4,h5,h6];rfl
theorem Qs1(t:Tm)(h:t.size<=2000000):m19 t t=some true:=Qku Qd t (by unfold Qd;omega) h
end
section
open Go.RowKit Go.Shelf
def Q7f(ls:List Lvl):Nat:=(ls.map λl=>l.vs.length).sum
theorem Qq0(a:List Lvl)(x:Lvl):Q7f (a++[x])=Q7f a+x.vs.length:=by unfold Q7f;rw[Cp,List.sum_append];simp
theorem Qu8{l:Lvl}(h:DM l):(Dh l).length<=36*l.vs.length+25:=by have:=Q0l h;unfold Dh;rw[C3,C3];show 1+_+1<=_;omega
theorem Ql6:∀(ls:List Lvl),(∀l∈ls,DM l)->(XZ ls).length<=36*Q7f ls+26*ls.length|[],_=>Cs _|l::ls,h=>by have h1:=Qu8 (h l Cd);have h2:=Ql6 ls λx hx=>h x (Cg _ hx);have e1:XZ (l::ls)=[32]++Dh l++XZ ls:=rfl;have e2:Q7f (l::ls)=l.vs.length+Q7f ls:=rfl;rw[e1,e2,C3,C3,show(l::ls).length=ls.length+1 from rfl];show 1+_+_<=_;omega
theorem Qoi(a:List Tm)(x:Tm):(JT (a++[x])).length=(JT a).length+((Ql x).length+1):=by unfold JT;rw[Cp,List.flatten_append,C3];simp
theorem Qrk{t:Tm}(h:NodeP t)(hn:t.name.length<=100):(Ql t).length<=150+36*Q7f t.levels+26*t.levels.length+(JT t.kids).length:=by
 obtain⟨k0,k1⟩:=h.k;have h0:=h.ix0;have h1:=h.ix1;have hd:(JO t.index.toNat).length<=9:=X3 h0 h1;by_cases e0:t.kind=0;rw[Qd7 e0,C3];show 1+_<=_;omega;by_cases e12:t.kind=12;rw[Qad e12,C3];show 1+_<=_;omega;by_cases e1:t.kind=1;rw[Qjy e1];show 4<=_;omega;by_cases e2:t.kind=2;obtain⟨l,hl⟩:=U0 (h.l2 e2);have hb:=Qu8 (h.lv l (by rw[hl];exact Cd));have ev:Q7f t.levels=l.vs.length:=by rw[hl];show l.vs.length+0=_;omega
 rw[Qjx e2 hl,C3,C3];show 6+_+1<=_;omega;by_cases e3:t.kind=3;have hb:=Ql6 t.levels h.lv;rw[Qjw e3];split;omega;rw[C3,C3,C3];show 7+_+_+1<=_;omega;have hw:=(WU (k:=t.kind) (by omega) (by omega)).1;rw[Qd6 (by omega) e12,C3,C3,C3];show 1+_+_+1<=_;omega
theorem Qlz:∀(n:Nat)(t:Tm)(a r:Int),t.size<=n->t.size<=2000000->OkT t->0<=a->a<=1000->Jo (λrc v=>Q0z rc v.1 v.2) n (t,a)=some r->0<=r->r<=a/\((Ql t).length:Int)+1<=200*(a-r)
 |0,t,a,r,h,_,_,_,_,_,_=>by rw[t.size_eq]at h;omega
 |n+1,t,a,r,h,h2,ht,ha0,ha1,hr,hr0=>by
  have hl:=K6 t;have hv:=U7 (t:=t);have ih:=Qlz n;have hs:=Xt n;replace hr:Q0z (Jo (λrc v=>Q0z rc v.1 v.2) n) t a=some r:=hr;generalize Jo (λrc v=>Q0z rc v.1 v.2) n=R at ih hs hr;unfold Q0z at hr;have hw1:Qm ((Qm (a-1))-(t.levels.length:Int))=a-1-(t.levels.length:Int):=by rw[J7 (n:=a-1) (by omega) (by omega),J7 (by omega) (by omega)]
  rw[hw1]at hr;obtain⟨r1,h3,q1⟩:=Jm (step:=λ(s5:Int×Int)=>Option.bind (cond ((decide (s5.2<(t.levels.length:Int)))) (some (decide (0<=s5.1))) (some false)) λ(v7:Bool)=>cond v7 (Option.bind (QT t.levels s5.2) λ(x8:Lvl)=>some (LO.next (β:=Int) ((Qm (s5.1-(x8.vs.length:Int))),(Qm (s5.2+1))))) (some (.done s5.1))) t.levels (λi (s:Int)=>(s,i)) (λb s=>s=a-1-(t.levels.length:Int)-(Q7f b:Int)) (λs=>0<=s->s=a-1-(t.levels.length:Int)-(Q7f t.levels:Int)) (by omega) (λx y b s e hI=>by
    obtain⟨p1,p2⟩:=ZR e
    have hy:=Wr h2 (l:=y) (by rw[e];simp)
    dsimp only
    rw[p1,p2]
    by_cases hd:0<=s
    ·rw[C7 hd]
     refine .inr ⟨s-(y.vs.length:Int),?_,?_⟩
     ·rw[C9,C0,C9,C0,J7 (n:=s-(y.vs.length:Int)) (by omega) (by omega)]
     ·rw[Qq0,hI];omega
    ·rw[C8 hd]
     exact .inl ⟨_,Z,λh=>absurd h hd⟩)
   (λs hI=>⟨s,by dsimp only;rw[Jb];rfl,λ_=>hI⟩) (a-1-(t.levels.length:Int)) (by show _=_-((0:Nat):Int);omega)
  rw[h3,C0]at hr;obtain⟨r2,h4,q2⟩:=Jm (step:=λ(s15:Int×Int)=>Option.bind (cond ((decide (s15.2<(t.kids.length:Int)))) (some (decide (0<=s15.1))) (some false)) λ(v17:Bool)=>cond v17 (Option.bind (QT t.kids s15.2) λ(x18:Tm)=>Option.bind (R (x18,s15.1)) λ(x19:Int)=>some (LO.next (β:=Int) (x19,(Qm (s15.2+1))))) (some (.done s15.1))) t.kids (λi (s:Int)=>(s,i)) (λb s=>0<=s->0<=r1/\s<=r1/\((JT b).length:Int)<=200*(r1-s)) (λs=>0<=s->0<=r1/\s<=r1/\((JT t.kids).length:Int)<=200*(r1-s)) (by omega) (λx y b s e hI=>by
    obtain⟨p1,p2⟩:=ZR e
    have hmem:y∈t.kids:=by rw[e];simp
    have hy:=J4 (t:=t) (k:=y) hmem
    obtain⟨r',hr'⟩:=hs y s (by omega) (by omega)
    dsimp only
    rw[p1,p2]
    by_cases hd:0<=s
    ·rw[C7 hd]
     refine .inr ⟨r',?_,λh0=>?_⟩
     ·rw[C9,C0,C9,C0,hr'];rfl
     ·obtain⟨i1,i2,i3⟩:=hI hd
      have i4:=q1 i1
      obtain⟨j1,j2⟩:=ih y s r' (by omega) (by omega) (ht.kid hmem) hd (by omega) hr' h0
      refine⟨i1,by omega,?_⟩
      rw[Qoi];omega
    ·rw[C8 hd]
     exact .inl ⟨_,Z,λh=>absurd h hd⟩)
   (λs hI=>⟨s,by dsimp only;rw[Jb];rfl,hI⟩) r1 (λh0=>⟨h0,Int.le_refl _,by show((0:Nat):Int)<=_;omega⟩)
  rw[h4,C0]at hr;by_cases hn:100<t.name.length;rw[C7 (by omega),C9]at hr;cases hr;omega;rw[C8 (by omega),Cf]at hr;cases hr;obtain⟨i1,i2,i3⟩:=q2 hr0;have i4:=q1 i1;have i5:=Qrk ht.node (by omega);exact⟨by omega,by omega⟩
theorem Qt9{t:Tm}(h2:t.size<=2000000)(ht:OkT t)(h:J44 t 200=some true):(Ql t).length<=40000:=by obtain⟨r,hr⟩:=Xt Qd t 200 (by unfold Qd;omega) h2;have e:J44 t 200=some (decide (0<=r)):=Jh (x:=J7o t 200) r hr rfl;rw[e]at h;have h0:0<=r:=CG (CC h);obtain⟨-,i2⟩:=Qlz Qd t 200 r (by unfold Qd;omega) h2 ht (by omega) (by omega) hr h0;omega
end
section
open Go.RowKit Go.Shelf
theorem Qh8{a b:List Jc0}(ha:WF a)(hb:WF b){x:Jc0}(hx:x∈b):∃y∈J5 a b,y.1=x.1/\x.2<=y.2:=by have h1:=Z0 a b ha.1 hb.1 x.1;rw[Z4 hb.1 hx]at h1;have hm:=(K2 a b ha hb).1;cases h2:Kk a x.1 with|none=>rw[h2]at h1;exact⟨(x.1,x.2),(JU hm).1 h1,rfl,Int.le_refl _⟩|some p=>rw[h2]at h1;exact⟨(x.1,max p x.2),(JU hm).1 h1,rfl,by dsimp only;omega⟩
theorem Q55{L:Lvl}(h:Ja L=true){v:Jc0}(hv:v∈L.vs):Qwa v:=by obtain⟨k,hk⟩:=Pf hv;exact Q26 h hk
def inBv(v:Jc0)(B:Lvl):Prop:=∃y∈B.vs,y.1=v.1/\v.2<=y.2
def Xk(B:Lvl):Int:=YM B.c B.vs
def leL(A B:Lvl):Prop:=A.c<=Xk B/\∀x∈A.vs,inBv x B
theorem inBv.top{v:Jc0}{B:Lvl}(h:inBv v B):v.2<=Xk B:=by obtain⟨y,hy,-,h2⟩:=h;have:=Wu (c:=B.c) hy;unfold Xk;omega
theorem Xj{B:Lvl}{m:Int}:Xk B<=m↔B.c<=m/\∀x∈B.vs,x.2<=m:=Dm
theorem leL.top{A B:Lvl}(h:leL A B):Xk A<=Xk B:=Xj.2 ⟨h.1,λx hx=>(h.2 x hx).top⟩
theorem leL.inB{A B:Lvl}{v:Jc0}(h:leL A B)(hv:inBv v A):inBv v B:=by obtain⟨y,hy,e,h2⟩:=hv;obtain⟨z,hz,e2,h3⟩:=h.2 y hy;exact⟨z,hz,by omega,by omega⟩
theorem leL.refl(A:Lvl):leL A A:=⟨Xi _ _,λx hx=>⟨x,hx,rfl,Int.le_refl _⟩⟩
theorem leL.trans{A B C:Lvl}(h:leL A B)(k:leL B C):leL A C:=⟨Int.le_trans h.1 k.top,λx hx=>k.inB (h.2 x hx)⟩
theorem Qom{a b:List Jc0}(ha:WF a)(hb:WF b){B:Lvl}:(∀x∈J5 a b,inBv x B)↔(∀x∈a,inBv x B)/\∀x∈b,inBv x B:=by constructor;intro h;refine⟨λx hx=>?_,λx hx=>?_⟩;obtain⟨y,hy,e,h2⟩:=Q59 ha hb hx;obtain⟨z,hz,e2,h3⟩:=h y hy;exact⟨z,hz,by omega,by omega⟩;obtain⟨y,hy,e,h2⟩:=Qh8 ha hb hx;obtain⟨z,hz,e2,h3⟩:=h y hy;exact⟨z,hz,by omega,by omega⟩;rintro⟨h1,h2⟩ x hx;exact(GU ha hb hx).elim (h1 x) (h2 x)
theorem Qma{c:Int}{vs:List Jc0}:XJ c vs=true↔∃x∈vs,c<=x.2:=by simp[XJ]
theorem Qqa{A:Lvl}(h:0<=A.c):leL (Yh A) A/\leL A (Yh A):=by unfold Yh;by_cases hc:XJ A.c A.vs=true;rw[Ca hc];obtain⟨x,hx,h2⟩:=Qma.1 hc;have h3:=Xi A.c A.vs;refine⟨⟨by show(0:Int)<=Xk A;unfold Xk;omega,(leL.refl A).2⟩,?_,(leL.refl A).2⟩;have:=Wu (c:=0) hx;show A.c<=YM 0 A.vs;omega;rw[C4 hc];exact⟨leL.refl _,leL.refl _⟩
theorem ZN{A:Lvl}(h:Ja A=true):GoodL A:=⟨W5 h,(Ks h).1,λx hx=>(Q55 h hx).2.2.1⟩
theorem Qgd{A:Lvl}(h:GoodL A)(ht:Xk A<=100):Ja (Yh A)=true:=by
 obtain⟨h1,h2⟩:=Xj.1 ht;have h0:=h.c;have ha:A.vs.all Q54=true:=Ch.2 λx hx=>by have:=h.v x hx;have:=h2 x hx;have:=h.wf.2 x hx;simp[Q54];omega
 have hs:Q3f A.vs=true:=Qfh.2 h.wf.1;unfold Yh;by_cases hc:XJ A.c A.vs=true;rw[Ca hc];simp[Ja,ha,hs];rw[C4 hc];simp[Ja,ha,hs,hc,h0,h1]
theorem Q95{A B:Lvl}(ha:GoodL A)(hb:GoodL B):Uv A B=Yh ⟨max A.c B.c,J5 A.vs B.vs⟩:=by have h1:=ha.c;rw[Qlm,Qac (by omega) λx hx=>(GU ha.wf hb.wf hx).elim (ha.v x) (hb.v x)]
theorem Qro{A B C:Lvl}(ha:GoodL A)(hb:GoodL B):leL ⟨max A.c B.c,J5 A.vs B.vs⟩ C↔leL A C/\leL B C:=by
 unfold leL;rw[Qom ha.wf hb.wf];dsimp only;have:max A.c B.c<=Xk C↔A.c<=Xk C/\B.c<=Xk C:=by omega
 rw[this];constructor;rintro⟨⟨h1,h2⟩,h3,h4⟩;exact⟨⟨h1,h3⟩,h2,h4⟩;rintro⟨⟨h1,h3⟩,h2,h4⟩;exact⟨⟨h1,h2⟩,h3,h4⟩
theorem Qxn{A B C:Lvl}(ha:GoodL A)(hb:GoodL B):leL (Uv A B) C↔leL A C/\leL B C:=by rw[<-Qro ha hb,Q95 ha hb];have h:=Qqa (D7 ha hb).c;exact⟨λk=>h.2.trans k,λk=>h.1.trans k⟩
theorem Q5t{A B:Lvl}(ha:Ja A=true)(hb:Ja B=true):Ja (Uv A B)=true:=by rw[Q95 (ZN ha) (ZN hb)];refine Qgd (D7 (ZN ha) (ZN hb)) (Xj.2 ⟨?_,λx hx=>?_⟩);have:=Ks ha;have:=Ks hb;show max A.c B.c<=100;omega;rcases GU (W5 ha) (W5 hb) hx with h|h;exact(Q55 ha h).2.2.2;exact(Q55 hb h).2.2.2
theorem Qnd(ds:Jc6)(b:UInt8):Qaw (ds++[b])=10*Qaw ds+(b.toNat-48):=by unfold Qaw;rw[List.foldl_append];rfl
theorem J8w{A B:Lvl}(ha:Ja A=true)(hb:Ja B=true)(h:leL A B)(k:leL B A):A=B:=by
 have wa:=(W5 ha).1;have wb:=(W5 hb).1;have ev:A.vs=B.vs:=by refine Qmj wa wb λi=>?_;cases hA:Kk A.vs i with|none=>(cases hB:Kk B.vs i with|none=>rfl|some q=>obtain⟨y,hy,e,-⟩:=k.2 _ ((JU wb).1 hB);have:=Z4 wa hy;rw[e]at this;rw[this]at hA;cases hA)|some p=>obtain⟨y,hy,e,hp⟩:=h.2 _ ((JU wa).1 hA);have h1:=Z4 wb hy;obtain⟨z,hz,e2,hq⟩:=k.2 y hy;have h2:=Z4 wa hz;dsimp only at e hp;rw[e2,e,hA]at h2;rw[e]at h1;rw[h1];(have:p=z.2:=by injection h2);exact congrArg some (by omega)
 have et:Xk A=Xk B:=Int.le_antisymm h.top k.top;have nc:∀{L:Lvl},Ja L=true->0<L.c->∀x∈L.vs,x.2<L.c:=λ{L} hv hc x hx=>by have:=((Gl L).1 hv).2.2.1 hc;refine Int.not_le.1 λhn=>?_;rw[Qma.2 ⟨x,hx,hn⟩]at this;cases this
 have ec:A.c=B.c:=by have a0:=(Ks ha).1;have b0:=(Ks hb).1;have Jag:0<A.c->Xk A=A.c:=λhc=>Int.le_antisymm (Xj.2 ⟨Int.le_refl _,λx hx=>by have:=nc ha hc x hx;omega⟩) (Xi _ _);have Jaf:0<B.c->Xk B=B.c:=λhc=>Int.le_antisymm (Xj.2 ⟨Int.le_refl _,λx hx=>by have:=nc hb hc x hx;omega⟩) (Xi _ _);by_cases h1:0<A.c;by_cases h2:0<B.c;have:=Jag h1;have:=Jaf h2;omega;exfalso;have e1:=Jag h1;have:Xk B<=A.c-1:=Xj.2 ⟨by omega,λx hx=>by have:=nc ha h1 x (by rw[ev];exact hx);omega⟩;omega;by_cases h2:0<B.c;exfalso;have e1:=Jaf h2;have:Xk A<=B.c-1:=Xj.2 ⟨by omega,λx hx=>by have:=nc hb h2 x (by rw[<-ev];exact hx);omega⟩;omega;omega
 cases A;cases B;dsimp only at ev ec;rw[ev,ec]
theorem Qf2:∀(n:Nat),∀b∈JO n,Qg8 b=true:=by intro n;induction n using Nat.strongRecOn with|ind n ih=>intro b hb;by_cases h:n<10;rw[Gd h,Cw]at hb;subst hb;unfold Qg8;rw[ZZ h];simp;omega;rw[Zm h,Cz,Cw]at hb;rcases hb with hb|rfl;exact ih _ (by omega) b hb;unfold Qg8;rw[ZZ (by omega)];simp;omega
theorem Qxz(n:Nat):Qaw (JO n)=n:=by induction n using Nat.strongRecOn with|ind n ih=>by_cases h:n<10;rw[Gd h];unfold Qaw;simp only[PI,List.foldl_nil];rw[ZZ h];omega;rw[Zm h,Qnd,ih _ (by omega),ZZ (by omega)];omega
theorem Qtp{n:Nat}(h:0<n):(JO n).head? ≠ some 48:=by induction n using Nat.strongRecOn with|ind n ih=>by_cases h1:n<10;rw[Gd h1];intro e;(have e2:UInt8.ofNat (48+n)=48:=by simpa using e);have:=congrArg UInt8.toNat e2;rw[ZZ h1]at this;have h48:(48:UInt8).toNat=48:=rfl;omega;rw[Zm h1];have hp:=Q01 (n / 10);(have e:(JO (n / 10)++[UInt8.ofNat (48+n%10)]).head?=(JO (n / 10)).head?:=by cases hd:JO (n / 10)with|nil=>rw[hd]at hp;cases hp|cons b t=>rfl);rw[e];exact ih _ (by omega) (by omega)
theorem Qy0{n:Nat}(h:n<1000000):Qis (JO n)=false:=by unfold Qis;have h1:=Q01 n;have h2:=Q02 5 n (by omega);rw[C8 (by omega),C8 (by omega)];by_cases h3:n<10;rw[Gd h3];rfl;have:=Qtp (n:=n) (by omega);simp only[Bool.false_or,Bool.and_eq_false_iff];exact .inr (by rw[P4];exact this)
def Stop(r:Jc6):Prop:=∀b,r.head?=some b->Qg8 b=false
theorem Qxy{n:Nat}{r:Jc6}(h:Stop r):Kb (JO n++r)=JO n:=by unfold Kb;rw[List.takeWhile_append_of_pos (Qf2 n)];cases r with|nil=>simp|cons b r=>rw[P0,C4 (by rw[h b rfl];exact Cl),Cy]
theorem Q3t{n:Nat}{r:Jc6}(hn:n<1000000)(h:Stop r):DC (JO n++r)=some (n,r):=by unfold DC;rw[Qxy h,Qy0 hn,Qxz,List.drop_left];rfl
theorem Q6i(n:Nat):∃b t,JO n=b::t/\Qg8 b=true:=by have h:=Q01 n;cases hd:JO n with|nil=>rw[hd]at h;cases h|cons b t=>exact⟨b,t,rfl,Qf2 n b (by rw[hd];exact Cd)⟩
def End(r:Jc6):Prop:=r=[]\/∃b t,r=b::t/\(b=44\/b=41)
theorem End.stop{r:Jc6}(h:End r):Stop r:=by rcases h with rfl|⟨b,t,rfl,rfl|rfl⟩;intro b h;cases h;intro b h;cases h;rfl;intro b h;cases h;rfl
theorem End.sp{r:Jc6}(h:End r):sp r=r:=by rcases h with rfl|⟨b,t,rfl,rfl|rfl⟩ <;> rfl
theorem End.no{r:Jc6}(h:End r):XX 43 r=none:=by rcases h with rfl|⟨b,t,rfl,rfl|rfl⟩ <;> rfl
theorem Q5u{b:UInt8}(h:Qg8 b=true):b≠32/\b≠117/\b≠63/\b≠109:=by refine⟨?_,?_,?_,?_⟩ <;> (intro e;subst e;revert h;decide)
theorem Qjz{b:UInt8}{t:Jc6}(h:b≠32):sp (b::t)=b::t:=by unfold sp;rw[Sg,C4 (by simpa using h)]
theorem Qsy{neg:Bool}{n:Nat}{p:Int}{r:Jc6}(hn:n<1000000)(h0:0<=p)(hp:p<=100)(h:End r):Qpr neg (JO n++(G1 p++r))=some (W7 (if neg then -1-(n:Int)else n) p,r):=by
 unfold Qpr G1;by_cases h1:0<p;rw[Ca h1];have st:Stop ([32,43,32]++JO p.toNat++r):=by intro b hb;cases hb;rfl
 rw[Q3t hn st];dsimp only;have e1:sp ([32,43,32]++JO p.toNat++r)=43::32::(JO p.toNat++r):=rfl;have e2:XX 43 (43::32::(JO p.toNat++r))=some (32::(JO p.toNat++r)):=rfl;have e3:sp (32::(JO p.toNat++r))=JO p.toNat++r:=by obtain⟨b,t,hd,hb⟩:=Q6i p.toNat;rw[hd,P5];have:sp (32::b::(t++r))=sp (b::(t++r)):=rfl;rw[this,Qjz (Q5u hb).1]
 rw[e1,e2];dsimp only;rw[e3,Q3t (by omega) h.stop];dsimp only;rw[CV h0];rw[C4 h1,P3,Q3t hn h.stop];dsimp only;rw[h.sp,h.no];dsimp only;have:p=0:=by omega
 rw[this]
theorem Qjs{i p:Int}(h:Qwa (i,p)):W7 i p=(⟨0,[(i,p)]⟩,0):=by obtain⟨h1,h2,h3,h4⟩:=h;dsimp only at h1 h2 h3 h4;unfold W7;rw[C4 (by omega),C4 (by omega)]
theorem J04{n:Int}(h0:0<=n)(h:n<=100):Qkm n=(⟨n,[]⟩,0):=by unfold Qkm;rw[C4 (by omega),C4 (by omega)]
inductive Itm where
 |c (n:Nat)
 |v (x:Jc0)
def Itm.ok:Itm->Prop|.c n=>n<=100|.v x=>Qwa x
def Itm.text:Itm->Jc6|.c n=>JO n|.v x=>W6 x
def Itm.lvl:Itm->Lvl|.c n=>⟨n,[]⟩|.v x=>⟨0,[x]⟩
theorem Itm.head(i:Itm):∃b t,i.text=b::t/\b≠32/\b≠109:=by cases i with|c n=>(obtain⟨b,t,h,hb⟩:=Q6i n;exact⟨b,t,h,(Q5u hb).1,(Q5u hb).2.2.2⟩)|v x=>show ∃b t,W6 x=b::t/\_;unfold W6 Q0k;split;exact⟨_,_,rfl,by decide,by decide⟩;exact⟨_,_,rfl,by decide,by decide⟩
theorem Itm.sp(i:Itm)(r:Jc6):Go.Proofs.YtjcfppnjamjjhaaGreatDoor.sp (i.text++r)=i.text++r:=by obtain⟨b,t,h,hb,-⟩:=i.head;rw[h,P5,Qjz hb]
theorem Itm.part{i:Itm}(hi:i.ok){r:Jc6}(h:End r):Zy (i.text++r)=some ((i.lvl,0),r):=by cases i with|c n=>(have hn:n<=100:=hi;obtain⟨b,t,hd,hb⟩:=Q6i n;(have e1:XX 117 (JO n++r)=none:=by rw[hd];exact C4 (Q5u hb).2.1);(have e2:XX 63 (JO n++r)=none:=by rw[hd];exact C4 (Q5u hb).2.2.1);show Zy (JO n++r)=_;unfold Zy;rw[e1,e2,Q3t (by omega) h.stop];dsimp only;rw[J04 (by omega) (by omega)];rfl)|v x=>have hx:Qwa x:=hi;obtain⟨h1,h2,h3,h4⟩:=id hx;show Zy (W6 x++r)=_;unfold W6;split;rename_i h0;(have e:Q0k 117 x.1.toNat x.2++r=117::(JO x.1.toNat++(G1 x.2++r)):=by unfold Q0k;simp);have e1:XX 117 (117::(JO x.1.toNat++(G1 x.2++r)))=some (JO x.1.toNat++(G1 x.2++r)):=rfl;rw[e];unfold Zy;rw[e1];dsimp only;rw[Qsy (by omega) h3 h4 h];rw[C4 Cl,CV h0,Qjs hx];rfl;rename_i h0;(have e:Q0k 63 (-1-x.1).toNat x.2++r=63::(JO (-1-x.1).toNat++(G1 x.2++r)):=by unfold Q0k;simp);have e0:XX 117 (63::(JO (-1-x.1).toNat++(G1 x.2++r)))=none:=rfl;have e1:XX 63 (63::(JO (-1-x.1).toNat++(G1 x.2++r)))=some (JO (-1-x.1).toNat++(G1 x.2++r)):=rfl;rw[e];unfold Zy;rw[e0,e1];dsimp only;rw[Qsy (by omega) h3 h4 h];rw[Ca rfl,CV (by omega),show -1-(-1-x.1)=x.1 by omega,Qjs hx];rfl
theorem Qdh:∀(xs:List Itm)(x:Itm)(n:Nat)(r:Jc6),(∀y∈x::xs,y.ok)->xs.length<n->(∀b,r.head?=some b->b=41) -> KX n (Zv ((x::xs).map Itm.text)++r)=some ((x::xs).map λi=>(i.lvl,0),r)|[],x,0,r,hok,hn,hr=>absurd hn (PR _)|[],x,n+1,r,hok,hn,hr=>by(have he:End r:=by cases r with|nil=>exact .inl rfl|cons b t=>exact .inr ⟨b,t,rfl,.inr (hr b rfl)⟩);unfold KX;show(match Zy (sp (x.text++r))with|none=>none|some (x,r)=>_)=_;rw[Itm.sp,Itm.part (hok x Cd) he];dsimp only;rw[he.sp];(have:XX 44 r=none:=by cases r with|nil=>rfl|cons b t=>exact C4 (by rw[hr b rfl];decide));rw[this];rfl|y::ys,x,0,r,hok,hn,hr=>absurd hn (PR _)|y::ys,x,n+1,r,hok,hn,hr=>by(have e:Zv ((x::y::ys).map Itm.text)++r=x.text++(44::32::(Zv ((y::ys).map Itm.text)++r)):=by simp only[CH,Zv];simp);have ih:=Qdh ys y n r (λz hz=>hok z (Cg _ hz)) (by simp at hn;omega) hr;(have hsp:∀m t,KX m (32::t)=KX m t:=λm t=>by cases m with|zero=>rfl|succ m=>unfold KX;rfl);rw[e];unfold KX;rw[Itm.sp,Itm.part (hok x Cd) (.inr ⟨44,_,rfl,.inl rfl⟩)];dsimp only;have e2:XX 44 (sp (44::32::(Zv ((y::ys).map Itm.text)++r)))=some (32::(Zv ((y::ys).map Itm.text)++r)):=rfl;rw[e2];dsimp only;rw[hsp,ih];rfl
def UC(xs:List Itm):Jc6:=match xs with|[x]=>x.text|xs=>[109,97,120,40]++Zv (xs.map Itm.text)++[41]
theorem Qdf:∀(xs:List Itm),xs.length<=(Zv (xs.map Itm.text)).length|[]=>Cs _|[x]=>(by obtain⟨b,t,h,-⟩:=x.head;simp only[CH,List.map_nil,Zv];rw[h];simp)|x::y::r=>by have:=Qdf (y::r);simp only[CH,Zv,C3,C2,Ci]at this⊢;omega
theorem Qh2(x:Itm)(xs:List Itm)(hok:∀y∈x::xs,y.ok):Q0s (UC (x::xs))=some ((x::xs).map λi=>(i.lvl,0)):=by cases xs with|nil=>(show Q0s x.text=_;obtain⟨b,t,h,hb,hm⟩:=x.head;(have hs:sp x.text=x.text:=by have:=Itm.sp x [];rwa [Cy]at this);(have hp:Lib.hasPrefix (sp x.text) [109,97,120]=false:=by rw[hs,h];unfold Lib.hasPrefix;simp[List.isPrefixOf];intro e;exact absurd e.symm hm);unfold Q0s;rw[hp,C4 Cl,hs];have:=Itm.part (hok x Cd) (r:=[]) (.inl rfl);rw[Cy]at this;rw[this];rfl)|cons y ys=>(have e:UC (x::y::ys)=109::97::120::40::(Zv ((x::y::ys).map Itm.text)++[41]):=by simp[UC]);have hr:=Qdh (y::ys) x ((UC (x::y::ys)).length+1) [41] hok (by have:=Qdf (x::y::ys);rw[e];simp only[C2,C3,Ci]at this⊢;omega) (λb hb=>by cases hb;rfl);unfold Q0s;generalize hL:(UC (x::y::ys)).length+1=L at hr;rw[e];have e1:sp (109::97::120::40::(Zv ((x::y::ys).map Itm.text)++[41]))=109::97::120::40::(Zv ((x::y::ys).map Itm.text)++[41]):=rfl;rw[e1];(have e2:Lib.hasPrefix (109::97::120::40::(Zv ((x::y::ys).map Itm.text)++[41])) [109,97,120]=true:=by unfold Lib.hasPrefix;simp[List.isPrefixOf]);rw[e2,Ca rfl];have e3:XX 40 (sp ((109::97::120::40::(Zv ((x::y::ys).map Itm.text)++[41])).drop 3))=some (Zv ((x::y::ys).map Itm.text)++[41]):=rfl;rw[e3];dsimp only;rw[hr];rfl
def Yt(l:Lvl):List Itm:=(if 0<l.c\/l.vs=[]then[.c l.c.toNat]else[])++(l.vs.filter λx=>decide (0<=x.1)).map .v++(l.vs.reverse.filter λx=>decide (x.1<0)).map .v
def Qjv(l:Lvl):Jc6:=UC (Yt l)
theorem Q23{i:Itm}(h:i.ok):Ja i.lvl=true:=by cases i with|c n=>have hn:n<=100:=h;refine Q4c (show(0:Int)<=n by omega) (show(n:Int)<=100 by omega) (λ_=>rfl) (λk hk=>absurd hk (PR _))|v x=>obtain⟨h1,h2,h3,h4⟩:Qwa x:=h;show Ja ⟨0,[x]⟩=true;unfold Ja;simp[Q54,Q3f,h1,h2,h3,h4]
theorem Q2p:∀(xs:List Itm)(o:Lvl),Ja o=true->(∀i∈xs,i.ok)->Ja (XE o (xs.map λi=>(i.lvl,0)))=true|[],o,ho,h=>ho|x::xs,o,ho,h=>Q2p xs _ (Q5t ho (Q23 (h x Cd))) λi hi=>h i (Cg _ hi)
theorem Q5s:∀(xs:List Itm)(o C:Lvl),Ja o=true->(∀i∈xs,i.ok)->(leL (XE o (xs.map λi=>(i.lvl,0))) C↔leL o C/\∀i∈xs,leL i.lvl C)|[],o,C,ho,h=>⟨λk=>⟨k,λi hi=>by cases hi⟩,λk=>k.1⟩|x::xs,o,C,ho,h=>by have hx:=Q23 (h x Cd);have:=Q5s xs (Uv o x.lvl) C (Q5t ho hx) λi hi=>h i (Cg _ hi);show leL (XE (Uv o x.lvl) (xs.map λi=>(i.lvl,0))) C↔_;rw[this,Qxn (ZN ho) (ZN hx)];simp only[Co,forall_eq_or_imp];exact and_assoc
theorem Qt8(xs:List Itm):ZO 0 (xs.map λi=>(i.lvl,0))=0:=by unfold ZO;induction xs with|nil=>rfl|cons x xs ih=>simpa using ih
theorem Qsn{l:Lvl}(h:Ja l=true):∀i∈Yt l,i.ok:=by intro i hi;unfold Yt at hi;have hc:=Ks h;simp only[Cz,Cu,Pq]at hi;rcases hi with(hi|⟨x,⟨hx,-⟩,rfl⟩)|⟨x,⟨hx,-⟩,rfl⟩;split at hi;rw[Cw]at hi;subst hi;show l.c.toNat<=100;omega;cases hi;exact Q55 h hx;exact Q55 h (List.mem_reverse.1 hx)
theorem Q96{l:Lvl}{x:Jc0}(hx:x∈l.vs):Itm.v x∈Yt l:=by unfold Yt;simp only[Cz,Cu,Pq];by_cases h0:0<=x.1;exact .inl (.inr ⟨x,⟨hx,by simpa using h0⟩,rfl⟩);exact .inr ⟨x,⟨List.mem_reverse.2 hx,by simpa using h0⟩,rfl⟩
theorem Qsp{l:Lvl}(h:Ja l=true):∀i∈Yt l,leL i.lvl l:=by intro i hi;unfold Yt at hi;have hc:=Ks h;simp only[Cz,Cu,Pq]at hi;have hv:∀x∈l.vs,leL (Itm.v x).lvl l:=λx hx=>⟨Int.le_trans hc.1 (Xi _ _),λy hy=>by rw[show(Itm.v x).lvl.vs=[x]from rfl,Cw]at hy;subst hy;exact⟨y,hx,rfl,Int.le_refl _⟩⟩;rcases hi with(hi|⟨x,⟨hx,-⟩,rfl⟩)|⟨x,⟨hx,-⟩,rfl⟩;split at hi;rw[Cw]at hi;subst hi;refine⟨?_,λy hy=>by cases hy⟩;show((l.c.toNat:Nat):Int)<=_;rw[CV hc.1];exact Xi _ _;cases hi;exact hv x hx;exact hv x (List.mem_reverse.1 hx)
theorem Qsg{l J:Lvl}(h:Ja l=true)(hJ:Ja J=true)(k:∀i∈Yt l,leL i.lvl J):leL l J:=by refine⟨?_,λx hx=>(k _ (Q96 hx)).2 x (Cw.2 Z)⟩;by_cases h0:0<l.c;have:=(k (.c l.c.toNat) (by unfold Yt;rw[Ca (.inl h0)];simp)).1;have e:(Itm.c l.c.toNat).lvl.c=l.c:=CV (Ks h).1;rwa [e]at this;have:=Xi J.c J.vs;have:=(Ks hJ).1;unfold Xk;omega
theorem Qso(l:Lvl):Yt l≠[]:=by intro e;by_cases h:l.vs=[];unfold Yt at e;rw[Ca (.inr h)]at e;cases e;obtain⟨x,r,hx⟩:=Pm h;have:=Q96 (l:=l) (x:=x) (by rw[hx];exact Cd);rw[e]at this;cases this
theorem Qqr{l:Lvl}(h:Ja l=true):Qgy (Qjv l)=(l,0):=by
 obtain⟨x,xs,e⟩:=Pm (Qso l);have hok:=Qsn h;have hle:=Qsp h;have hge:=λJ hJ=>Qsg (J:=J) h hJ;unfold Qjv;rw[e]at hok hle hge⊢;unfold Qgy;rw[Qh2 x xs hok];show(if ZO 0 ((x::xs).map λi=>(i.lvl,0))=0 then _ else _)=_;rw[Qt8,Ca rfl];have hx:=Q23 (hok x Cd);have hxs:∀i∈xs,i.ok:=λi hi=>hok i (Cg _ hi);have hJ:=Q2p xs x.lvl hx hxs;have:XE x.lvl (xs.map λi=>(i.lvl,0))=l:=J8w hJ h ((Q5s xs x.lvl l hx hxs).2 ⟨hle x Cd,λi hi=>hle i (Cg _ hi)⟩) (hge _ hJ λi hi=>by
  have:=(Q5s xs x.lvl _ hx hxs).1 (leL.refl _);rcases Co.1 hi with rfl|hi
  · exact this.1
  · exact this.2 i hi)
 exact congrArg (·,0) this
theorem Qvh(l:Lvl):Zx l=Qjv l:=by
 have e:JJ l=(Yt l).map Itm.text:=by unfold JJ Yt;rw[Cp,Cp,CK,CK];congr 1;congr 1;split <;> rfl
 unfold Zx Qjv UC;rw[e,Cn];cases Yt l with|nil=>rfl|cons x xs=>cases xs with|nil=>rfl|cons y ys=>rw[C4 (by simp)]
theorem Qob{l:Lvl}(h:DM l):l.vs.length<=65544:=by
 by_cases hn:l.vs.length<=900000000;exact Qc7 h hn;exfalso;have hlen:(l.vs.take 900000000).length=900000000:=by rw[CP];omega
 have h':DM ⟨l.c,l.vs.take 900000000⟩:=by
  refine⟨h.1,h.2.1,λhc x hx=>h.2.2.1 hc x (List.mem_of_mem_take hx),λa x b e=>?_⟩;have e0:l.vs.take 900000000=a++x::b:=e;have e':l.vs=a++x::(b++l.vs.drop 900000000):=by rw[<-P5,<-Ct,<-e0,PO]
  refine λhb=>h.2.2.2 a x _ e' ?_;rcases hb with hb|hb|hb|hb|⟨h0,y,hy,hxy⟩;exact .inl hb;exact .inr (.inl hb);exact .inr (.inr (.inl hb));exact .inr (.inr (.inr (.inl hb)));refine .inr (.inr (.inr (.inr ⟨h0,y,?_,hxy⟩)));have hal:a.length<900000000:=by have:=congrArg List.length e0;rw[hlen,C3,C2]at this;omega
  have hw:Qm ((a.length:Int)-1)=((a.length-1:Nat):Int):=by rw[J7 (by omega) (by omega)];omega
  rw[hw]at hy⊢;have hy:(l.vs.take 900000000)[a.length-1]?=some y:=hy;show l.vs[a.length-1]?=some y;rwa [P7,Ca (by omega)]at hy
 have:=Qc7 h' (by show(l.vs.take 900000000).length<=_;omega);have:(l.vs.take 900000000).length<=65544:=this;omega
theorem Qoa{l:Lvl}(h:DM l):Ja l=true:=by
 have hn:=Qob h;refine Q4c h.1 h.2.1 (λhc=>?_) (λk hk x hx=>?_);unfold XJ;rw[Pp];intro x hx;simpa using h.2.2.1 hc x hx;have hm:x∈l.vs:=Cr hx;obtain⟨a1,a2,a3,a4⟩:=ZH h hm;refine⟨by unfold Q54;simp[a1,a2,a3,a4],λy h0 hy=>?_⟩;have e:l.vs=l.vs.take k++x::l.vs.drop (k+1):=by have h1:=PO k l.vs;rw[Qih hx]at h1;exact h1.symm
 have hb:=h.2.2.2 _ x _ e;refine Int.not_le.1 λhle=>hb (.inr (.inr (.inr (.inr ?_))));have hl:(l.vs.take k).length=k:=by rw[CP];omega
 rw[hl];refine⟨h0,y,?_,hle⟩;rw[J7 (by omega) (by omega),show(k:Int)-1=((k-1:Nat):Int) by omega];exact hy
theorem Qn4(l:Lvl)(h:DM l):Qgy (Zx l)=(l,0):=by rw[Qvh];exact Qqr (Qoa h)
end
section
open Go.RowKit Go.Shelf
theorem Qoc{σ β:Type}{step:σ->Option (LO σ β)}{s:σ}{r:β}(h:step s=some (.done r)):Qa step Qd s=some r:=by unfold Qd;rw[Qa,h]
theorem Q3p(A B:List Tkn)(j:Nat):Jn (A++B) (A.length+j)=Jn B j:=by unfold Jn;rw[CM (by omega),Pj]
theorem Qc5(A B:List Tkn)(j:Nat):Qcw (A++B) (A.length+j)=Qcw B j:=by unfold Qcw;rw[CM (by omega),Pj]
theorem Q41(B:List Tkn):∀(A P:List Tkn),Has (Jn (P++(A++B))) P.length (A.map Tkn.text)|[],P=>trivial|x::A,P=>by refine⟨?_,?_⟩;have:=Q3p P (x::A++B) 0;rw[Pt]at this;exact this;have:=Q41 B A (P++[x]);rw[Ct,C3]at this;exact this
theorem Q5n(k:Nat):Q7m [] k=[⟨[],(k:Int)⟩]:=rfl
theorem Q1k:Qv1 []:=λb h=>by cases h
theorem Qqe{t:Tm}(h:OkT t):Ql t≠[]:=by have hN:=h.node;obtain⟨k0,k1⟩:=hN.k;by_cases e0:t.kind=0;rw[Qd7 e0];exact List.cons_ne_nil _ _;by_cases e12:t.kind=12;rw[Qad e12];exact List.cons_ne_nil _ _;by_cases e1:t.kind=1;rw[Qjy e1];exact List.cons_ne_nil _ _;by_cases e2:t.kind=2;obtain⟨l,hl⟩:=U0 (hN.l2 e2);rw[Qjx e2 hl];exact List.cons_ne_nil _ _;by_cases e3:t.kind=3;rw[Qjw e3];split;exact Qkq (hN.nk e3);exact List.cons_ne_nil _ _;rw[Qd6 (by omega) e12];exact List.cons_ne_nil _ _
section
variable{lv:Jc6->Lvl×Int}(hT:∀l,DM l->lv (Zx l)=(l,0)){t:Tm}(ht:OkT t)(hi:IxT t)(hz:t.size<=2000000)
include hT ht hi hz
theorem Qya:Dv lv (Ql t)=.ok t:=by
 obtain⟨A,h1,h2⟩:=(DO t.size t (Ck _) ht hi).1 [] 0 Q1k;rw[Cy,Q5n,CY]at h2;have h3:toks (Ql t)=A++[⟨[],((Ql t).length:Int)⟩]:=h2;have hh:=Q41 [⟨[],((Ql t).length:Int)⟩] A [];rw[P3,h1]at hh;have hl:A.length=(ZC t).length:=by rw[<-h1,Cn]
 unfold Dv;rw[h3,WZ hT Qd t 0 (by unfold Qd;omega) ht hi hh];dsimp only;rw[CY,<-hl];have e1:=Q3p A [⟨[],((Ql t).length:Int)⟩] 0;have e2:=Qc5 A [⟨[],((Ql t).length:Int)⟩] 0;rw[Pt A.length]at e1 e2;rw[Ca ⟨e1,e2⟩]
theorem Qp1:Dv lv (Ql t++[32,120])=.bad ((Ql t).length+1:Nat):=by
 obtain⟨A,h1,h2⟩:=(DO t.size t (Ck _) ht hi).1 [32,120] 0 (λb h=>by cases h;decide);have hx:Q7m ([32,120]:Jc6) (Ql t).length=[⟨[120],(((Ql t).length+1:Nat):Int)⟩,⟨[],(((Ql t).length+2:Nat):Int)⟩]:=by have hw:LexTo ([120]:Jc6) [[120]]:=X0 rfl (by decide) (by decide);unfold Q7m;rw[KO];rfl
 rw[CY,hx]at h2;have h3:toks (Ql t++[32,120])=A++[⟨[120],(((Ql t).length+1:Nat):Int)⟩,⟨[],(((Ql t).length+2:Nat):Int)⟩]:=h2;have hh:=Q41 [⟨[120],(((Ql t).length+1:Nat):Int)⟩,⟨[],(((Ql t).length+2:Nat):Int)⟩] A [];rw[P3,h1]at hh;have hl:A.length=(ZC t).length:=by rw[<-h1,Cn]
 unfold Dv;rw[h3,WZ hT Qd t 0 (by unfold Qd;omega) ht hi hh];dsimp only;rw[CY,<-hl];have e1:=Q3p A [⟨[120],(((Ql t).length+1:Nat):Int)⟩,⟨[],(((Ql t).length+2:Nat):Int)⟩] 0;have e2:=Qc5 A [⟨[120],(((Ql t).length+1:Nat):Int)⟩,⟨[],(((Ql t).length+2:Nat):Int)⟩] 0;rw[Pt A.length]at e1 e2;rw[C4 (by rw[e1];exact λh=>absurd h.1 (List.cons_ne_nil _ _)),e2];rfl
theorem Qp2(h40:(Ql t).head?=some 40):Dv lv ((Ql t).take ((Ql t).length-1))=.bad ((Ql t).length-1:Nat):=by
 obtain⟨hlex,hb⟩:=DO t.size t (Ck _) ht hi;obtain⟨u,us,hb⟩:=hb h40;obtain⟨A,h1,h2⟩:=hlex [] 0 Q1k;rw[Cy,Q5n,CY]at h2;have hh:=Q41 [⟨[],((Ql t).length:Int)⟩] A [];rw[P3,h1]at hh;have hr:=WZ hT Qd t 0 (by unfold Qd;omega) ht hi hh;rw[hb.toks,C3,CY]at hr;obtain⟨A',h1',h2'⟩:=hb.lex [] 0 Q1k;rw[Cy,Q5n,CY]at h2';have hl':A'.length=us.length:=by rw[<-h1',Cn]
 have hlen:(Ql t).length-1=u.length:=by rw[hb.text,C3];rfl
 have htk:(Ql t).take ((Ql t).length-1)=u:=by rw[hlen,hb.text,List.take_left' rfl]
 have h3':toks u=A'++[⟨[],(u.length:Int)⟩]:=h2';have e1:=Q3p A' [⟨[],(u.length:Int)⟩] 0;have e2:=Qc5 A' [⟨[],(u.length:Int)⟩] 0;rw[Pt A'.length]at e1 e2;have hag:∀j,j<A'.length->Jn (A++[⟨[],((Ql t).length:Int)⟩]) j=Jn (A'++[⟨[],(u.length:Int)⟩]) j:=λj hj=>by(have hA:A.map Tkn.text=us++[[41]]:=by rw[h1,hb.toks]);(have hjA:j<A.length:=by have:=congrArg List.length hA;rw[Cn,C3]at this;omega);unfold Jn;rw[CF hjA,CF hj,<-Cm,<-Cm,hA,h1',CF (by omega)]
 have hc:=(Qre lv Qd).cut _ (Jn (A'++[⟨[],(u.length:Int)⟩])) 0 t _ A'.length hr (Cs _) (by rw[hl'];exact Cx _) hag e1;rw[htk,hlen];unfold Dv;rw[h3',hc];dsimp only;rw[e2];rfl
end
def Qem(b:UInt8):Bool:=decide (48<=(b.toNat:Int))&&decide ((b.toNat:Int)<=57)
def J40(a0:Jc6)(s24:Int):Int->Option (LO Int Int):=(λs40=>Option.bind (Option.bind (QT a0 s24) λ(x46:UInt8)=>cond (((x46.toNat:Int)==35)) (cond ((decide ((Qm ((Qm (s24+s40))+1))<(a0.length:Int)))) (Option.bind (QT a0 (Qm ((Qm (s24+s40))+1))) λ(x47:UInt8)=>cond ((decide (48<=(x47.toNat:Int)))) (Option.bind (QT a0 (Qm ((Qm (s24+s40))+1))) λ(x48:UInt8)=>some (decide ((x48.toNat:Int)<=57))) (some false)) (some false)) (some false)) λ(v45:Bool)=>cond v45 (some (.next (Qm (s40+1)))) (some (.done s40)))
theorem Qzl(s:Jc6)(hs:s.length<=100000){i:Nat}{c:UInt8}(hc:s[i]?=some c):Qa (J40 s (i:Int)) Qd 0=some (((if c=35 then((s.drop (i+1)).takeWhile Qem).length else 0:Nat)):Int):=by
 have hi:i<s.length:=(Ce.1 hc).1;by_cases h35:c=35;rw[Ca h35];have key:=US (s.drop (i+1)) Qem (step:=J40 s (i:Int)) (by rw[CB];omega) (λk b hb=>by
  have hk:=(Ce.1 hb).1;rw[CB]at hk;rw[CU]at hb;have hw:Qm (Qm ((i:Int)+(k:Int))+1)=((i+1+k:Nat):Int):=by rw[J7 (n:=(i:Int)+(k:Int)) (by omega) (by omega),J7 (by omega) (by omega)];omega
  unfold J40;try dsimp only
  rw[show QT s (i:Int)=some c from hc,C0,hw,C7 (by omega),show QT s ((i+1+k:Nat):Int)=some b from hb,C0,C0,show((c.toNat:Int)==35)=decide (c=35)from Um c 35,C7 h35];unfold Qem;cases decide (48<=(b.toNat:Int)) <;> cases decide ((b.toNat:Int)<=57) <;> rfl) (by
  have hw:Qm (Qm ((i:Int)+((s.drop (i+1)).length:Int))+1)=(s.length:Int):=by rw[CB,J7 (n:=(i:Int)+((s.length-(i+1):Nat):Int)) (by omega) (by omega),J7 (by omega) (by omega)];omega
  unfold J40;try dsimp only
  rw[show QT s (i:Int)=some c from hc,C0,hw,C8 (by omega),show((c.toNat:Int)==35)=decide (c=35)from Um c 35,C7 h35];rfl) 0 (Cs _)
 rw[PM,CY]at key;exact key;rw[C4 h35];refine Qoc ?_;unfold J40;try dsimp only
 rw[show QT s (i:Int)=some c from hc,C0,show((c.toNat:Int)==35)=decide (c=35)from Um c 35,C8 h35];rfl
theorem Qmt(s:Jc6)(hs:s.length<=100000):∃b,m18 s=some b/\(b=false->∀(a ds r:Jc6),s=a++35::(ds++r)->(∀d∈ds,Qem d=true)->ds.length<=6):=by
 obtain⟨r,h1,h2⟩:=Q5k (step:=(λs24=>cond ((decide ((Qm (s24+7))<(s.length:Int)))) (Option.bind (Qa (J40 s s24) Qd 0) λ(v41:Int)=>cond ((decide (6<v41))) (some (LO.done (β:=Unit⊕Bool) (.inr true))) (some (.next (Qm (s24+1))))) (some (.done (.inl ()))))) (s.take (s.length-7)) (λa x=>x=35/\6<((s.drop (a.length+1)).takeWhile Qem).length) (.inr true) (.inl ()) (by rw[CP];omega) (λa x b e=>by
     have hal:a.length<s.length-7:=by have:=congrArg List.length e;rw[CP,C3,C2]at this;omega
     have hx:s[a.length]?=some x:=by
       have h3:(s.take (s.length-7))[a.length]?=some x:=by rw[e];simp
       rw[P7,Ca hal]at h3;exact h3
     have hw:Qm ((a.length:Int)+7)=((a.length+7:Nat):Int):=by rw[J7 (by omega) (by omega)];rfl
     try dsimp only
     rw[hw,C7 (by omega),C9,Qzl s hs hx,C0]
     refine⟨λhb=>?_,λhb=>?_⟩
     · rw[Ca hb.1,C7 (by have:=hb.2;omega)];rfl
     · by_cases h35:x=35
       · rw[Ca h35,C8 (by intro h6;exact hb ⟨h35,by omega⟩)];rfl
       · rw[C4 h35];rfl)
   (by
     have hl:(s.take (s.length-7)).length=s.length-7:=by rw[CP];omega
     try dsimp only
     rw[hl,J7 (by omega) (by omega),C8 (by omega)];rfl)
 have hm:m18 s=Option.bind (some r) (Sum.elim (λ(v25:Unit)=>some false) (λ(o49:Bool)=>some o49)):=by rw[<-h1];rfl
 rw[hm];rcases h2 with⟨rfl,h3⟩|⟨rfl,-⟩
 · refine⟨false,rfl,λ_ a ds q e hd=>?_⟩
   refine PX λh7=>?_
   have hlen:=congrArg List.length e
   rw[C3,C2,C3]at hlen
   have e1:s.take (s.length-7)=a++35::((ds++q).take (s.length-7-a.length-1)):=by
     generalize hm:s.length-7=m
     obtain⟨k,hk⟩:∃k,m-a.length=k+1:=⟨m-a.length-1,by omega⟩
     rw[e,List.take_append,Pa (show a.length<=m by omega),hk,List.take_succ_cons,Nat.add_sub_cancel]
   refine h3 a 35 _ e1 ⟨Z,?_⟩
   have hd2:s.drop (a.length+1)=ds++q:=by
     rw[e,show a++35::(ds++q)=(a++[35])++(ds++q) by simp,List.drop_left' (by simp)]
   rw[hd2]
   have:ds.length<=((ds++q).takeWhile Qem).length:=by
     clear h7 hlen e1 hd2 e
     induction ds with
     |nil=>exact Cs _
     |cons d ds ih=>
       rw[P5,P0,Ca (hd d Cd),C2,C2]
       have:=ih λx hx=>hd x (Cg _ hx)
       omega
   omega
 · exact⟨true,rfl,λh=>by cases h⟩
theorem Qz4(s:Jc6)(hs:∀(a ds r:Jc6),s=a++35::(ds++r)->(∀d∈ds,Qem d=true)->ds.length<=6):∀(n:Nat)(t:Tm)(p q:Jc6),t.size<=n->OkT t->s=p++(Ql t++q)->IxT t
 |0,t,p,q,h,_,_=>by rw[t.size_eq]at h;omega
 |n+1,t,p,q,hn,ht,e=>by
  have hN:=ht.node;obtain⟨k0,k1⟩:=hN.k;refine .mk ?_ λk hk=>?_;by_cases e0:t.kind=0;rw[Qd7 e0]at e;have h6:=hs p (JO t.index.toNat) q (by rw[e];rfl) λd hd=>by have:=Q45 t.index.toNat d hd;unfold Qem;rw[C7 (by omega),C7 (by omega)];rfl
  have hx:=hN.ix0;refine Int.not_le.1 λhge=>?_;have:∀m:Nat,1000000<=m->7<=(JO m).length:=λm hm=>by(have g1:¬m<10:=by omega);(have Jb9:¬m / 10<10:=by omega);(have g3:¬m / 10 / 10<10:=by omega);(have g4:¬m / 10 / 10 / 10<10:=by omega);(have g5:¬m / 10 / 10 / 10 / 10<10:=by omega);(have g6:¬m / 10 / 10 / 10 / 10 / 10<10:=by omega);have p:=Q01 (m / 10 / 10 / 10 / 10 / 10 / 10);rw[Zm g1,Zm Jb9,Zm g3,Zm g4,Zm g5,Zm g6];simp only[C3,C2,Ci];omega
  have:=this t.index.toNat (by omega);omega;by_cases e12:t.kind=12;exact hN.me e12;rw[hN.ix e0 e12];decide;have hk4:4<=t.kind/\t.kind≠12:=by have hkd:=hN.kd;have:0<t.kids.length:=List.length_pos_of_mem hk;unfold arity at hkd;split at hkd;omega;split at hkd;omega;split at hkd <;> omega
  rw[Qd6 hk4.1 hk4.2]at e;obtain⟨a,b,hab⟩:=List.append_of_mem hk;have hkt:JT t.kids=JT a++([32]++Ql k++JT b):=by unfold JT;rw[hab,Cp,List.flatten_append,CH,PH]
  refine Qz4 s hs n k (p++([40]++Jz t.kind++JT a++[32])) (JT b++[41]++q) (by have:=J4 hk;omega) (ht.kid hk) ?_;rw[e,hkt];simp only[Ct]
theorem Qwh(t:Tm)(hz:t.size<=2000000):Jas t=some true:=by
 have hT:=Qn4;obtain⟨b,hb⟩:=Qta t 200 hz;obtain⟨e,h1,h2⟩:=J0w t 1000000 1000000 (by omega);have h13:Qs5 t=some (Xq e t):=by by_cases h0:e=0;subst h0;unfold Xq;rw[Ca rfl];exact Qwq hz (Qf6 t (by omega) h1) h2;unfold Qs5 Xq;rw[h2,C0,Qfg h0,C4 h0];rfl
 unfold Jas;rw[hb,C0,Qit,h13];cases b with
 |false=>rfl
 |true=>
  rw[show(!true)=false from rfl,Cf,C0];by_cases h0:(Xq e t).2=0;have he:e=0/\(Ql t).length<=65536/\Xq e t=(Ql t,0):=by unfold Xq at h0⊢;by_cases he:e=0;rw[Ca he]at h0⊢;by_cases hl:65536<(Ql t).length;rw[Ca hl]at h0;cases h0;rw[C4 hl];exact⟨he,by omega,rfl⟩;rw[C4 he]at h0;exact absurd h0 he
  obtain⟨he,hl,hp⟩:=he;subst he;rw[hp]at h13⊢;have ht:=Qf6 t (by omega) h1;obtain⟨w,hw,hwf⟩:=Qmt (Ql t) (by omega);rw[show((Ql t,(0:Int)).2 != 0)=false from rfl,Cf];dsimp only;rw[hw,C0];cases w with|true=>rfl|false=>rw[Cf];have hi:=Qz4 (Ql t) (hwf rfl) t.size t [] [] (Ck _) ht (by simp);have r1:=Qya hT ht hi hz;(have p1:Qcv (Ql t)=some (t,0,0):=by rw[Qhn _ hl];unfold Qas;rw[r1];dsimp only;rw[h13];rfl);rw[p1,C0];dsimp only;have hne:=Qqe ht;rw[show((0:Int)!=0)=false from rfl,Cf,Cf,Qs1 t hz,C0,show(!true)=false from rfl,Cf,P4.2 hne,C0,Cf];obtain⟨c,r,hcr⟩:=Pm hne;(have hix:QT (Ql t) 0=some c:=by rw[hcr];rfl);rw[hix,C0,show((c.toNat:Int)!=40)=!decide (c=40) by unfold bne;rw[show((c.toNat:Int)==40)=decide (c=40)from Um c 40]];by_cases h40:c=40;have hlp:0<(Ql t).length:=PW.2 hne;(have hw1:Qm (((Ql t).length:Int)-1)=(((Ql t).length-1:Nat):Int):=by rw[J7 (by omega) (by omega)];omega);have hw2:Qm (((Ql t).length:Int)+1)=(((Ql t).length+1:Nat):Int):=Gz (by omega);rw[C7 h40,show(!true)=false from rfl,Cf,hw1,hw2,Qv (by unfold inB;rw[C7 (by omega),C9];exact Cb (by show(Ql t).length-1<=_;omega))];have r2:=Qp2 hT ht hi hz (by rw[hcr,h40];rfl);have r3:=Qp1 hT ht hi hz;(have p2:Qcv (List.take (((Ql t).length-1:Nat):Int).toNat (Ql t))=some (Jab,(((Ql t).length-1:Nat):Int),4):=by show Qcv ((Ql t).take ((Ql t).length-1))=_;rw[Qhn _ (by rw[CP];omega)];unfold Qas;rw[r2]);rw[p2,C0,DT (by show(Ql t).length+2<=_;omega)];by_cases hlen:(Ql t).length+2<=65536;(have p3:Qcv (Ql t++[32,120])=some (Jab,(((Ql t).length+1:Nat):Int),4):=by rw[Qhn _ (by rw[C3];show(Ql t).length+2<=_;omega)];unfold Qas;rw[r3]);rw[p3,C0];dsimp only;rw[show((4:Int)==4)=true from rfl,CN.2 rfl,CN.2 rfl];rfl;exact absurd (Qt9 hz ht hb) (by omega);rw[C8 h40];rfl
  have hp:Xq e t=([],(Xq e t).2):=by unfold Xq at h0⊢;by_cases he:e=0;rw[Ca he]at h0⊢;by_cases hl:65536<(Ql t).length;rw[Ca hl];rw[C4 hl]at h0;exact absurd rfl h0;rw[C4 he]
  rw[Qfg h0,C9,hp];rfl
end
section
open Go.RowKit Go.ChangeShapes Go.WideShapes
def Qfl(w:World):Nat->Nat->Prop:=λb _=>b<w.heap.size
def RC(w:World)(e:List C)(cs:List Value):Prop:=cs.length=e.length/\∀(j:Nat)(c:C),e[j]?=some c->∃u,cs[j]?=some u/\Reads (Qfl w) w c u
theorem RC.app{w:World}{e0 e1:List C}{cs:List Value}(h0:RC w e0 (cs.take e0.length))(h1:RC w e1 (cs.drop e0.length))(hl:cs.length=e0.length+e1.length):RC w (e0++e1) cs:=by refine⟨by rw[hl,C3],λj c hj=>?_⟩;rcases P2 j e0.length with h|h;rw[CF h]at hj;obtain⟨u,h2,h3⟩:=h0.2 j c hj;rw[P7,Ca h]at h2;exact⟨u,h2,h3⟩;rw[CM h]at hj;obtain⟨u,h2,h3⟩:=h1.2 _ c hj;rw[CU,show e0.length+(j-e0.length)=j by omega]at h2;exact⟨u,h2,h3⟩
end
section
open Go.RowKit Go.ChangeShapes Go.WideShapes
theorem Q6o{H:Type}(d:DataW H):1<=Rows.uptoBulk d:=by cases d with|lit l=>cases l <;> simp[Rows.uptoBulk]|nil=>simp[Rows.uptoBulk]|ptr d=>simp[Rows.uptoBulk]|slice elems spare=>simp[Rows.uptoBulk]|agg parts=>simp[Rows.uptoBulk]|iface t d=>simp[Rows.uptoBulk]|map entries=>simp[Rows.uptoBulk]|held h=>simp[Rows.uptoBulk]
theorem Qfe{H:Type}:∀l:List (DataW H),Rows.uptoBulkAll l=(l.map Rows.uptoBulk).sum|[]=>by simp[Rows.uptoBulkAll]|x::l=>by simp only[Rows.uptoBulkAll,CH,PE,Qfe l]
theorem RC.nil{w:World}{cs:List Value}:RC w [] (cs.take 0):=⟨by simp,λj c h=>by cases h⟩
theorem RC.snoc{w:World}{e0 e1:List C}{cs:List Value}{m k:Nat}(h0:RC w e0 (cs.take m))(h1:RC w e1 ((cs.drop m).take k))(hm:e0.length=m):RC w (e0++e1) (cs.take (m+k)):=by have h2:=h0.1;have h3:=h1.1;refine RC.app ?_ ?_ ?_;rw[List.take_take,hm,Nat.min_eq_left (by omega)];exact h0;rw[hm,List.drop_take,Pj];exact h1;rw[<-h3,hm];simp only[CP,CB]at h2⊢;omega
section
variable{H:Type}(enc:TypeId×Value->H)(P:Program)(w:World)
def Jy(N:Nat)(t:TypeId)(α:Type)[Enc α](μ:α->Nat):Prop:=∀(fuel:Nat)(cs:List Value)(x:DataW H×List MemPlace),DataW.trod enc P w 0 (λ_=>true) true fuel t cs=some x->Rows.uptoBulk x.1<=N->∃v:α,RC w (Enc.enc v) cs/\μ v<=Rows.uptoBulk x.1
end
section
variable{H:Type}{enc:TypeId×Value->H}{P:Program}{w:World}{N:Nat}
theorem Qjn{t:TypeId}(ht:P.underlying t=some (.int .i64)):Jy enc P w N t Int (λ_=>1):=by intro fuel cs x h hb;obtain⟨n,rfl,rfl,-⟩:=DataW.trod_int ht h;refine⟨n,⟨Z,λj c hj=>?_⟩,Q6o _⟩;cases j with|zero=>cases hj;exact⟨_,rfl,Reads.v _ rfl⟩|succ j=>cases hj
theorem Qzi{t:TypeId}(ht:P.underlying t=some (.int .i64)):Jy enc P w N t Int (λn=>1+Jb3 n):=by
 intro fuel cs x h hb;obtain⟨n,rfl,rfl,hw⟩:=DataW.trod_int ht h;have hi:Jb3 n=0:=by obtain⟨h1,h2⟩:=C1.1 hw;have h1:-9223372036854775808<=n:=CG h1;have h2:n<=9223372036854775807:=CG h2;unfold Jb3;rw[Ca ⟨h1,h2⟩]
 refine⟨n,⟨rfl,λj c hj=>?_⟩,by dsimp only;rw[hi];exact Q6o _⟩;cases j with|zero=>cases hj;exact⟨_,rfl,Reads.v _ rfl⟩|succ j=>cases hj
theorem J48{t:TypeId}(ht:P.underlying t=some .string):Jy enc P w N t Jc6 (λs=>1+s.length):=by intro fuel cs x h hb;obtain⟨s,rfl,rfl,-⟩:=DataW.trod_string ht h;refine⟨s.data.toList,⟨rfl,λj c hj=>?_⟩,by simp[Rows.uptoBulk];omega⟩;cases j with|zero=>cases hj;exact⟨_,rfl,by rw[show Jaj s.data.toList=s from rfl];exact Reads.v _ rfl⟩|succ j=>cases hj
theorem Qa7{α:Type}[Enc α][EncLen α]{μ:α->Nat}{t e:TypeId}(ht:P.underlying t=some (.slice e))(hc:P.cellsOf e=Enc.sz α)(ho:Jy enc P w N e α μ):Jy enc P w N t (List α) (λl=>1+(l.map μ).sum):=by
 intro fuel cs x h hb;rcases Deep.open_slice ht h with⟨rfl,rfl⟩|⟨a,len,cap,m,n,D,Pl,rfl,-,hlc,-,hm,rfl,hel⟩;refine⟨[],⟨rfl,λj c hj=>?_⟩,by simp[Rows.uptoBulk]⟩;cases j with|zero=>cases hj;refine⟨_,Z,?_⟩;rw[Enc.nil];exact .sl _ [] none 0 0 0 (λ_ _=>undef) (Ck _) (λh=>absurd rfl h) (λi e h=>by simp at h) (λi e j c h=>by simp at h) (λi e j c h=>by simp at h) (λi e j c h=>by simp at h)|succ j=>cases hj
 have hm':m=cap:=by rw[hm];rfl
 have hbk:((List.range len).map λi=>Rows.uptoBulk (D i)).sum+1<=Rows.uptoBulk (DataW.slice (H:=H) ((List.range len).map D) ((List.range (m-len)).map λj=>D (len+j))):=by simp only[Rows.uptoBulk,Qfe,CK];have:(List.map (Rows.uptoBulk∘D) (List.range len)).sum=((List.range len).map λi=>Rows.uptoBulk (D i)).sum:=rfl;omega
 dsimp only at hb;have hD:∀k,k<len->Rows.uptoBulk (D k)<=N:=λk hk=>by have:=WW (λi=>Rows.uptoBulk (D i)) (List.mem_range.2 hk);omega
 have hall:∀k,k<=len->∃l:List α,l.length=k/\(l.map μ).sum<=((List.range k).map λi=>Rows.uptoBulk (D i)).sum/\∀(i:Nat)(v:α),l[i]?=some v->∃cs',w.cells? 0 (a.add (i*Enc.sz α)) (Enc.sz α)=some cs'/\RC w (Enc.enc v) cs':=by intro k;induction k with|zero=>intro _;exact⟨[],rfl,Ck _,λi v h=>by simp at h⟩|succ k ih=>intro hk;obtain⟨l,h1,hsum,h2⟩:=ih (by omega);obtain⟨cs',h3,h4⟩:=hel k (by omega);rw[hc]at h3;obtain⟨v,hv,hμ⟩:=ho _ _ _ h4 (hD k (by omega));refine⟨l++[v],by simp[h1],?_,λi v' hi=>?_⟩;rw[List.range_succ];simp only[Cp,CH,List.map_nil,List.sum_append,PE,List.sum_nil];dsimp only at hμ;omega;rcases P2 i l.length with h|h;rw[CF h]at hi;exact h2 i v' hi;rw[CM h]at hi;(have hi0:i-l.length=0:=by rcases S0 (i-l.length)with h0|h0;exact h0;rw[Ph (by simp only[List.length_singleton];omega)]at hi;cases hi);(have hik:i=k:=by omega);rw[hi0]at hi;cases hi;rw[hik];exact⟨cs',h3,hv⟩
 obtain⟨l,hl,hsum,hcells⟩:=hall len (Ck _);have hpos:0<Enc.sz α:=EncLen.pos;have hspot:l≠[]->a.spot=none/\a.block<w.heap.size:=by
  intro hne;obtain⟨v,r,rfl⟩:=Pm hne;obtain⟨cs',h1,h2⟩:=hcells 0 v rfl;obtain⟨-,h3,h4⟩:=World.cells?_some h1;have h5:=h4 0 hpos;rw[Nat.zero_mul,Deep.add_add,CY]at h5;have h6:(cs'[0]?).isSome:=by rw[Cq (by omega)];rfl
  rw[<-h5]at h6;have h7:(a.add 0)=a:=by simp[Addr.add]
  rw[h7]at h6;unfold World.cell? at h6;split at h6;rename_i c _ _ hb;refine⟨?_,(CQ.1 hb).1⟩;split at h6;cases h6;rename_i hs;cases hsp:a.spot with|none=>rfl|some q=>rw[hsp]at hs;exact absurd rfl hs
  cases h6
 have hadd:l≠[]->∀k,a.add k=⟨a.block,a.off+k,none⟩:=by intro hne k;have h1:=(hspot hne).1;unfold Addr.add;split;rename_i h0;subst h0;obtain⟨b,o,sp⟩:=a;simp only at h1;subst h1;rfl;rfl
 have hcell:∀(i:Nat)(e':List C)(j:Nat)(c:C),(Enc.encL l)[i]?=some e'->e'[j]?=some c->∃u,w.cell? ⟨a.block,a.off+i*Enc.sz α+j,none⟩=some u/\Reads (Qfl w) w c u:=by intro i e' j c hi hj;rw[Enc.map,Cm]at hi;cases hx:l[i]? with|none=>rw[hx]at hi;cases hi|some v=>rw[hx]at hi;cases hi;(have hne:l≠[]:=by intro h0;rw[h0]at hx;simp at hx);obtain⟨cs',h1,h2⟩:=hcells i v hx;obtain⟨u,h3,h4⟩:=h2.2 j c hj;obtain⟨-,h5,h6⟩:=World.cells?_some h1;(have hjl:j<Enc.sz α:=by have:=(Ce.1 h3).1;omega);have h7:=h6 j hjl;rw[Deep.add_add,hadd hne,h3,<-Pn]at h7;exact⟨u,h7,h4⟩
 refine⟨l,⟨rfl,λj c hj=>?_⟩,by dsimp only;omega⟩;cases j with
 |succ j=>cases hj
 |zero=>
  cases hj;refine⟨_,Z,?_⟩;have hR:=Reads.sl (S:=Qfl w) (w:=w) (Enc.sz α) (Enc.encL l) (some a) cap a.block a.off (λi j=>(w.cell? ⟨a.block,a.off+i*Enc.sz α+j,none⟩).getD undef) (by rw[Enc.len,hl];exact hlc) (λhne=>by
    have hne':l≠[]:=by intro h0;rw[h0,Enc.nil]at hne;exact hne rfl
    have h7:(a.add 0)=a:=by simp[Addr.add]
    rw[<-h7,hadd hne'])
   (λi e' hi=>Q1j l e' (Cr hi))
   (λi e' j c hi hj=>by obtain⟨u,h1,-⟩:=hcell i e' j c hi hj;rw[h1];rfl)
   (λi e' j c hi hj=>by
    have hne:l≠[]:=by intro h0;rw[h0,Enc.nil]at hi;simp at hi
    exact(hspot hne).2)
   (λi e' j c hi hj=>by obtain⟨u,h1,h2⟩:=hcell i e' j c hi hj;rw[h1];exact h2)
  rw[Enc.len,hl]at hR;exact hR
theorem Qjm{α:Type}[Enc α]{μ:α->Nat}{t:TypeId}(h:∀N,Jy enc P w N t α μ->Jy enc P w (N+1) t α μ):∀N,Jy enc P w N t α μ|0=>λfuel cs x _ hb=>by have:=Q6o x.1;omega|N+1=>h N (Qjm h N)
end
section
variable{H:Type}{enc:TypeId×Value->H}{w:World}{N:Nat}
theorem Q05:prog.cellsOf 3=1:=by kernel_rfl
theorem Qy6:prog.cellsOf 9=1:=by kernel_rfl
theorem Qu2:prog.cellsOf 22=1:=by kernel_rfl
theorem Qu1:prog.cellsOf 23=1:=by kernel_rfl
theorem Qu0:prog.cellsOf 25=5:=by kernel_rfl
theorem Qtz:prog.cellsOf 80=1:=by kernel_rfl
theorem Qty:prog.cellsOf 82=2:=by kernel_rfl
theorem Qoy:prog.cellsOf 142=2:=by kernel_rfl
theorem J7t:Jy enc prog w (N+1) 142 Jc0 (λ_=>1):=by intro fuel cs x h hb;obtain⟨xs,n,_,rfl,hl,hlen,hf⟩:=DataW.trod_struct underlying142 h;match xs,hlen with|[y0,y1],_=>(have hb':Rows.uptoBulk y0.1+Rows.uptoBulk y1.1+1<=Rows.uptoBulk (DataW.agg (H:=H) [y0.1,y1.1]):=by simp only[Rows.uptoBulk,Rows.uptoBulkAll];omega);have hb2:Rows.uptoBulk (DataW.agg (H:=H) [y0.1,y1.1])<=N+1:=hb;obtain⟨v0,r0,m0⟩:=(Qjn underlying3:Jy enc prog w N _ _ _) n _ _ (hf 0 _ rfl) (by omega);change RC w (Enc.enc v0) ((cs.drop 0).take (prog.cellsOf 3))at r0;rw[Q05]at r0;obtain⟨v1,r1,m1⟩:=(Qjn underlying3:Jy enc prog w N _ _ _) n _ _ (hf 1 _ rfl) (by omega);change RC w (Enc.enc v1) ((cs.drop 1).take (prog.cellsOf 3))at r1;rw[Q05]at r1;have hcs:cs.take 2=cs:=Pa (by rw[hl];exact P8 Qoy);have hR:=((((RC.nil).snoc (k:=1) r0 rfl)).snoc (k:=1) r1 rfl);refine⟨(v0,v1),by rw[<-hcs];exact hR,Cc ?_ hb'⟩;show 1<=_;omega
theorem J4a:Jy enc prog w N 142 Jc0 (λ_=>1):=Qjm (λ_ _=>J7t) N
theorem J49:Jy enc prog w (N+1) 82 Lvl lvz:=by intro fuel cs x h hb;obtain⟨xs,n,_,rfl,hl,hlen,hf⟩:=DataW.trod_struct underlying82 h;match xs,hlen with|[y0,y1],_=>(have hb':Rows.uptoBulk y0.1+Rows.uptoBulk y1.1+1<=Rows.uptoBulk (DataW.agg (H:=H) [y0.1,y1.1]):=by simp only[Rows.uptoBulk,Rows.uptoBulkAll];omega);have hb2:Rows.uptoBulk (DataW.agg (H:=H) [y0.1,y1.1])<=N+1:=hb;obtain⟨v0,r0,m0⟩:=(Qjn underlying3:Jy enc prog w N _ _ _) n _ _ (hf 0 _ rfl) (by omega);change RC w (Enc.enc v0) ((cs.drop 0).take (prog.cellsOf 3))at r0;rw[Q05]at r0;obtain⟨v1,r1,m1⟩:=(Qa7 underlying80 (by kernel_rfl) J4a:Jy enc prog w N _ _ _) n _ _ (hf 1 _ rfl) (by omega);change RC w (Enc.enc v1) ((cs.drop 1).take (prog.cellsOf 80))at r1;rw[Qtz]at r1;have hcs:cs.take 2=cs:=Pa (by rw[hl];exact P8 Qty);have hR:=((((RC.nil).snoc (k:=1) r0 rfl)).snoc (k:=1) r1 rfl);refine⟨⟨v0,v1⟩,by rw[<-hcs];exact hR,Cc ?_ hb'⟩;show lvz ⟨v0,v1⟩<=_;unfold lvz;dsimp only at m0 m1⊢;omega
theorem Qzh:Jy enc prog w N 82 Lvl lvz:=Qjm (λ_ _=>J49) N
theorem J7s(hk:Jy enc prog w N 25 Tm Tm.size):Jy enc prog w (N+1) 25 Tm Tm.size:=by intro fuel cs x h hb;obtain⟨xs,n,_,rfl,hl,hlen,hf⟩:=DataW.trod_struct underlying25 h;match xs,hlen with|[y0,y1,y2,y3,y4],_=>(have hb':Rows.uptoBulk y0.1+Rows.uptoBulk y1.1+Rows.uptoBulk y2.1+Rows.uptoBulk y3.1+Rows.uptoBulk y4.1+1<=Rows.uptoBulk (DataW.agg (H:=H) [y0.1,y1.1,y2.1,y3.1,y4.1]):=by simp only[Rows.uptoBulk,Rows.uptoBulkAll];omega);have hb2:Rows.uptoBulk (DataW.agg (H:=H) [y0.1,y1.1,y2.1,y3.1,y4.1])<=N+1:=hb;obtain⟨v0,r0,m0⟩:=(Qjn underlying3:Jy enc prog w N _ _ _) n _ _ (hf 0 _ rfl) (by omega);change RC w (Enc.enc v0) ((cs.drop 0).take (prog.cellsOf 3))at r0;rw[Q05]at r0;obtain⟨v1,r1,m1⟩:=(Qzi underlying3:Jy enc prog w N _ _ _) n _ _ (hf 1 _ rfl) (by omega);change RC w (Enc.enc v1) ((cs.drop 1).take (prog.cellsOf 3))at r1;rw[Q05]at r1;obtain⟨v2,r2,m2⟩:=(J48 underlying9:Jy enc prog w N _ _ _) n _ _ (hf 2 _ rfl) (by omega);change RC w (Enc.enc v2) ((cs.drop 2).take (prog.cellsOf 9))at r2;rw[Qy6]at r2;obtain⟨v3,r3,Jau⟩:=(Qa7 underlying22 (by kernel_rfl) Qzh:Jy enc prog w N _ _ _) n _ _ (hf 3 _ rfl) (by omega);change RC w (Enc.enc v3) ((cs.drop 3).take (prog.cellsOf 22))at r3;rw[Qu2]at r3;obtain⟨v4,r4,m4⟩:=(Qa7 underlying23 (by kernel_rfl) hk:Jy enc prog w N _ _ _) n _ _ (hf 4 _ rfl) (by omega);change RC w (Enc.enc v4) ((cs.drop 4).take (prog.cellsOf 23))at r4;rw[Qu1]at r4;have hcs:cs.take 5=cs:=Pa (by rw[hl];exact P8 Qu0);have hR:=((((((((((RC.nil).snoc (k:=1) r0 rfl)).snoc (k:=1) r1 rfl)).snoc (k:=1) r2 rfl)).snoc (k:=1) r3 rfl)).snoc (k:=1) r4 rfl);refine⟨Tm.mk v0 v1 v2 v3 v4,by rw[<-hcs];exact hR,Cc ?_ hb'⟩;rw[Tm.size_eq];simp only[Tm.name,Tm.kids,Tm.levels,Tm.index];dsimp only at m0 m1 m2 Jau m4⊢;omega
theorem J47:Jy enc prog w N 25 Tm Tm.size:=Qjm (λ_ h=>J7s h) N
end
end
section
open Go.ChangeShapes Go.WideShapes Go.ChangeAt Go.RowKit Go.WideElems
theorem own:ownKnob prog.godebug=none:=by kernel_rfl
theorem Qxa:laidOutB prog=true:=by kernel_rfl
theorem Qgp{H:Type}{enc:TypeId×Value->H}{α:Type}[Enc α]{μ:α->Nat}{t:TypeId}{fs:Array Field}(ht:prog.underlying t=some (.struct fs))(ho:∀W N,Jy enc prog W N t α μ){W:World}{base:Nat}{v:Value}{d:DataW H}{p:List MemPlace}(hval:Value.okWide prog W .any base t v)(h:DataW.Trod enc prog W 0 (λ_=>true) true t v d p):∃L:α,(AV.agg (Jbg L)).rel (Yb (Qfl W)) W v/\μ L<=Rows.uptoBulk d:=by obtain⟨fuel,hf⟩:=h;obtain⟨L,hl,hμ⟩:=ho W (Rows.uptoBulk d) _ _ _ hf (Ck _);obtain⟨cs,rfl,-⟩:=okWide_struct ht hval;have hc:(Value.agg cs).cells=cs:=rfl;rw[hc]at hl;refine⟨L,⟨cs,Z,?_,λi x hx=>?_⟩,hμ⟩;have:=hl.1;rw[Po]at this;rw[this,Cn];rw[Cm]at hx;cases hy:(Enc.enc L)[i]? with|none=>rw[hy]at hx;cases hx|some c=>rw[hy]at hx;cases hx;obtain⟨u,hu,hr⟩:=hl.2 i c hy;exact⟨u,by simpa using hu,hr⟩
theorem Qmx{W:World}{laid:List (String × DataW Unit)}{x0 x1:String × DataW Unit}{r:List (String × DataW Unit)}(e:laid = x0 :: x1 :: ("internal/strconv.uint64pow10", Rows.laid_internal_strconv_uint64pow10) :: r)(hp:(laid.all λx=> x.2.handleName?.isNone) = true)(h:laidMetH prog laid W):Tabs prog (Qfl W) W:= by
 rw[MakeChecks.laidMetH_plain _ _ _ hp]at h
 subst e
 obtain⟨ps,hv,-,-⟩:=h
 obtain⟨_,_,_,_,_,q1,_,_,_,_,hv1,_⟩:=hv
 obtain⟨_,_,_,_,_,q2,_,_,_,_,hv2,_⟩:=hv1
 obtain⟨g',t',cs,fuel,p,q,hg',ht',hvar,hd,_,_⟩:=hv2
 have hg:prog.globalNamed "internal/strconv.uint64pow10" = some 0:= by kernel_rfl
 obtain rfl:=CC (hg.symm.trans hg')
 obtain rfl:=CC ((show(prog.globals[0]?).map (·.type)=some 230 by kernel_rfl).symm.trans ht')
 have e:cs.toList=Lib.pow10Tab.map λz=>Value.int .u64 z:=
  Lib.cells_of_tab (t:=230) (e:=195) (n:=20) (by kernel_rfl) (by kernel_rfl) (by kernel_rfl) (by kernel_rfl) hd
 have hT:Lib.TabIs prog W "internal/strconv.uint64pow10" .u64 Lib.pow10Tab:= by
  unfold Lib.TabIs
  rw[hvar,<-e]
 refine Qyi hg (λo=>?_) hT
 show 0<W.heap.size
 unfold World.var? at hvar
 rw[hg]at hvar
 simp only[C0]at hvar
 split at hvar
 ·rename_i hh;exact(CQ.1 hh).1
 ·cases hvar
theorem Qa8{H:Type}{enc:TypeId×Value->H}{C:Checked}{os:Os}{f:FuncId}{fn:Func}{s:OpenSpec}{conds:List PathCond}{apart:Bool}{laid:List (String×DataW Unit)}(modest:Bool)(w0:World)(args:Array Value)(hos:w0.os=os)(hsh:(w0.forCall (λ_ _=>0) ⟨#[],args,[]⟩).Shaped C.prog)(hok:Input.okWideB C.prog (w0.forCall (λ_ _=>0) ⟨#[],args,[]⟩) f ⟨#[],args,[]⟩=true)(hrow:s.preRow enc C.prog fn conds apart laid (w0.forCall (λ_ _=>0) ⟨#[],args,[]⟩).memory args):∃(w:World)(tape:Tape)(i:Input),w.os=os/\(w.forCall tape i).Shaped C.prog/\i.vars=[]/\Input.okWide C.prog (w.forCall tape i) .any w.heap.size f i /\ s.preRow enc C.prog fn conds apart laid (w.forCall tape i).memory i.args/\({modest:=modest}:Assume).holds C.prog (lone (Frame.enter C.prog f i.args .normal) [] (w.forCall tape i)):=⟨w0,λ_ _=>0,⟨#[],args,[]⟩,hos,hsh,(Input.okWide_of_okWideB (base:=0) hok).1,(Input.okWide_of_okWideB hok).2,hrow,by simp only[Assume.holds];exact⟨by simp,by simp,λ_=>Modest.zero,by simp,by simp⟩⟩
end
section
open Go.ChangeShapes Go.WideShapes Go.ChangeAt Go.RowKit Go.WideElems
theorem law6{W:World}(hT:Tabs prog (Qfl W) W)(a0:Tm)(hs0:a0.size<=2000000){v0:Value}(hv0:(AV.agg (Jbg a0)).rel (Yb (Qfl W)) W v0):Calls prog 6 #[v0] W λe W'=>e=.returned (.bool true)/\Below W.heap.size W W':=by
 have hF:FunW W0 prog 6 [.agg (Jbg a0)] (Qg [.one (Jbd true)]):=Eq.mp (show FunW W0 prog 6 (QE DV k6.args a0) (Qg (QE DV k6.res true))=_ from by kernel_rfl) (J5m.2 a0 true (Qwh a0 hs0));refine Calls.mono (hF.2 (Qfl W) W #[v0] (λb o h=>h) hT ⟨Z,λi y hy=>?_⟩) ?_;match i,hy with|0,hy=>cases hy;exact⟨_,rfl,hv0⟩
 rintro e W' ⟨u,S',rfl,hx,-,-,hu⟩;have e1:u=.bool true:=by cases hu;rfl
 rw[e1];exact⟨Z,hx.os,hx.tape,hx.output,hx.size,λk hk=>hx.block k hk (λh=>h)⟩
theorem contract(H:Type)(enc:TypeId×Value->H)(W:World)(base:Nat)(args:Array Value)(ds gs:List (DataW H))(before:List MemPlace)(hk:Rows.uptoSmall H (ds++gs)=true)(hval0:∀(j:Nat) t v,Tryz.f6.params[j]?=some t->args[j]?=some v->Value.okWide prog W .any base t v)(hW:DataW.Whole enc prog Tryz.f6.params.toList Rows.textBackSpec.vars false W args.toList ds gs before)(hL:laidMetH prog Rows.textBackUptoRow.laid W):Calls prog 6 args W λe W'=>∃v,e=.returned v/\Rows.textBackSpec.post enc prog Tryz.f6 false true false false W args v W':=by
 have hval:∀(j:Nat) t v,Tryz.f6.params[j]?=some t->args[j]?=some v->Value.okWide prog W .any base t v:=hval0;have hW':=hW;obtain⟨p,q,hA0,hV,rfl,hfz,hnd⟩:=hW;have hA:DataW.TrodAll enc prog W 0 (λ_=>true) true Tryz.f6.params.toList args.toList ds p:=hA0;rw[params6]at hA hval;obtain⟨v0,d0,rfl,rfl,h0⟩:=trodAll_one hA;obtain⟨rfl,rfl⟩:=trodVars_none hV;have h0k:=h0;obtain⟨a0,hv0,hz0⟩:=Qgp underlying25 (λW N=>J47 (w:=W) (N:=N)) (hval 0 25 v0 rfl rfl) h0;have hbk:Rows.uptoBulkAll ([d0]++([]:List (DataW H)))<=1048576:=CG hk;simp only[Cy,Rows.uptoBulkAll]at hbk;clear hA0 hval0;simp only[Cy]at hW';have hlt:∀x∈p,x.block<W.heap.size:=λx hx=>by simpa using hW'.lt x hx
 refine(law6 (Qmx rfl (by kernel_rfl) hL) a0 (by omega) hv0).mono λe W' ⟨he,hb⟩=>?_;subst he;have hargs:∀sp:Nat->Bool,(∀x∈p,sp x.block=true)->DataW.TrodAll enc prog W' 0 sp true [25] [v0] [d0] p:=λsp hsp=>trodAll_mk1 (WideElems.Trod_stays Qxa (by kernel_rfl) (CG (by kernel_rfl)) h0k (λx hx=>hb.same (hlt x hx)) (λx hx=>hsp x hx));exact⟨_,rfl,_,_,_,[],p,[],hW',trodAll_mk1 (shut_bool underlying4 true),hargs _ (λx hx=>by simpa using hlt x hx),rfl,hb.frame _,λh=>by cases h⟩
theorem lifted(os:Os)(started:os.Started)(H:Type)(enc:TypeId×Value->H)(F:Stop.Interp):ReturnsInHanded {} Tryz.checked os 6 .any ((Rows.OpenSpec.upto Rows.textBackSpec).preRow enc prog Tryz.f6 Rows.textBackUptoRow.domain false Rows.textBackUptoRow.laid) (((Rows.OpenSpec.upto Rows.textBackSpec).at F).post enc prog Tryz.f6 false true false false):=by refine returnsInHanded_of_row (C:=Tryz.checked) (s:=Rows.OpenSpec.upto Rows.textBackSpec) own started (by kernel_rfl) func6 (Qa8 (enc:=enc) (C:=Tryz.checked) (os:=os) false (World.laidAll prog os Rows.textBackUptoRow.laid) #[.agg #[.int .i64 0,.int .i64 0,.string ByteArray.empty,.slice none 0 0,.slice none 0 0]] (World.laidAll_os _ _ _) (World.shaped_of_ZipB (by kernel_rfl) (by kernel_rfl)) (by kernel_rfl) (OpenSpec.preRow_of_cond 8 (x:=([.agg [.lit (.int .i64 0),.lit (.int .i64 0),.lit (.string []),.nil,.nil]],[],[])) (by kernel_rfl) (by kernel_rfl) (λk hk=>by cases hk;kernel_rfl) (by kernel_rfl) (by rw[MakeChecks.laidMetH_plain _ _ _ (by kernel_rfl)];exact laidMet_laidAll _ (by kernel_rfl) (by kernel_rfl)))) ?_;intro W base args ds gs before hval hW _ hk _ hL _ _;exact contract H enc W base args ds gs before (hk _ Z) hval hW hL
theorem over:Rows.textBackUptoRow.holds Tryz.pinned (Rows.OpenSpec.upto Rows.textBackSpec):=OpenClaim.holds_of_cond 6 Tryz.f6 rfl rfl rfl rfl rfl rfl rfl ⟨rfl,rfl,rfl,rfl,rfl⟩ rfl rfl rfl rfl rfl (by kernel_rfl) func6 (by kernel_rfl) (CG (by kernel_rfl)) (by unfold Func.isWrapper;first|(rw[Ca (by decide +kernel)];kernel_rfl)|(rw[C4 (by decide +kernel)];exact⟨rfl,rfl⟩)) (λos started H enc _ F=>by rw[OpenClaim.pre_eq_preRow];exact lifted os started H enc F)
theorem textBackUptoCard:Rows.TextBackUptoCardSaid:=
 Claim7.holds_tied_plain_at .later [] _ _ _ _ over (λ_ h=>by cases h) (by kernel_rfl) (λ_ h=>by cases h) textBackUpto_row_tie rfl ⟨rfl,rfl⟩ (by kernel_rfl) rfl
  (λf fn hf hfn=>by
   obtain rfl:f = 6:= CC ((show prog.funcNamed "euclid/euclidlaw06.TextBack" = some 6 by kernel_rfl).symm.trans hf) |>.symm
   obtain rfl:fn=Tryz.f6:=(CC (func6.symm.trans hfn)).symm
   exact⟨by kernel_rfl,λj t ht=>by
    rw[params6]at ht
    have hm:t∈[25]:=by simpa using Array.mem_of_getElem? ht
    have hall:([25].all λu=>!prog.wantsStandIn u)=true:=by kernel_rfl
    exact(show prog.wantsStandIn t=false by simpa using Ch.1 hall t hm)⟩)
  (by kernel_rfl)
#print axioms textBackUptoCard
end
end
end Go.Proofs.YtjcfppnjamjjhaaGreatDoor
