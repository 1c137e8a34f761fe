/- Part 2 of the proof: rules, mirrors and plain laws. -/
import Derived.Test.YtjcfppnjamjjhaaGreatDoorK41
import Derived.Lib.Bytes
import Derived.Laws.Cover3
import Derived.Laws.BytesArg
import Derived.Shelf.Abstract
import Derived.Shelf.Strings.SlTrimAscii
import Derived.Shelf.Strings.Prefix
import Derived.Shelf.Small.Strs
import Derived.Shelf.Strings.OnBuilder
import Derived.Shelf.Strconv.Atoi
import Derived.Shelf.Strconv.Itoa3
import Derived.Ground.NamesProg
import Derived.Lib.AppendStr
set_option maxHeartbeats 2000000
set_option maxRecDepth 100000
set_option linter.unusedSimpArgs false
set_option linter.unusedVariables false
set_option linter.unusedSectionVars false
namespace Go.Proofs.YtjcfppnjamjjhaaGreatDoor
open Go.Proofs.Tryz
noncomputable section
section
open Go.RowKit
theorem Q06{w w':World}{b e s n:Nat}{v:Value}{xs:List Value}(h:w.ownsRow b e s v n xs)(hs:∀g,v.ownBlock=some g->w'.heap[g]?=w.heap[g]?):w'.ownsRow b e s v n xs:=by obtain⟨h1,h2⟩:=h;refine⟨h1,h2.imp id ?_⟩;rintro⟨g,cap,cur,rfl,h3,h4,h5⟩;exact⟨g,cap,cur,Z,h3,(hs g Z).trans h4,h5⟩
def Wz(V:Vu)(hp:List (Nat×HB))(tk:List (Nat×Option Tok))(k:Nat):Prop:=(∃i B,lk hp i=some B/\V.ι i=k)\/∃i T,lk tk i=some (some T)/\(V.κ i T.n).ownBlock=some k
theorem Qtc{α:Type}:∀(a b:List (Nat×α))(i:Nat),lk (a++b) i=match lk a i with
    |some x=>some x
    |none=>lk b i
  |[],b,i=>rfl
  |(k,x)::a,b,i=>by
    rw[PN,Q8,Q8]
    split
    · rfl
    · exact Qtc a b i
theorem Yl{α:Type}{a b:List (Nat×α)}{i:Nat}{x:α}(h:lk (a++b) i=some x):lk a i=some x\/lk b i=some x:=by rw[Qtc]at h;cases h1:lk a i with|none=>rw[h1]at h;exact .inr h|some y=>rw[h1]at h;exact .inl h
theorem Qc0{α:Type}:∀{a:List (Nat×α)}{i:Nat}{x:α},lk a i=some x->(i,x)∈a
 |[],i,x,h=>by cases h
 |(k,y)::a,i,x,h=>by
  rw[Q8]at h;split at h
  · rename_i e;subst e;cases h;exact Cj
  · exact Ck _ (Qc0 h)
def G1:List Nat->Nat->Nat->Nat|[],n,i=>n+i|j::_,_,0=>j|_::r,n,i+1=>G1 r n i
theorem Qb4:∀{rs:List Nat}{n i:Nat},i<rs.length->∃j,rs[i]?=some j/\G1 rs n i=j|[],n,i,h=>by simp at h|j::r,n,0,h=>⟨j,rfl,rfl⟩|j::r,n,i+1,h=>Qb4 (rs:=r) (n:=n) (i:=i) (by simpa using h)
theorem Di:∀{rs:List Nat}{n i:Nat},rs.length<=i->G1 rs n i=n+(i-rs.length)|[],n,i,h=>rfl|j::r,n,0,h=>by simp at h|j::r,n,i+1,h=>by(have h1:r.length<=i:=by simpa using h);have h2:=Di (rs:=r) (n:=n) (i:=i) h1;simp only[G1,C1];omega
theorem GQ{rs:List Nat}{n i:Nat}(h:i<rs.length):G1 rs n i∈rs:=by obtain⟨j,h1,h2⟩:=Qb4 (n:=n) h;rw[h2];exact Cr h1
theorem Q8y{α:Type}:∀{l:List α}{i j:Nat}{a:α},l.Nodup->l[i]?=some a->l[j]?=some a->i=j|[],i,j,a,_,h,_=>by simp at h|x::l,0,0,a,_,_,_=>rfl|x::l,0,j+1,a,hn,h1,h2=>by simp at h1 h2;subst h1;exact absurd (Cr h2) (CX.1 hn).1|x::l,i+1,0,a,hn,h1,h2=>by simp at h1 h2;subst h2;exact absurd (Cr h1) (CX.1 hn).1|x::l,i+1,j+1,a,hn,h1,h2=>by simp at h1 h2;rw[Q8y (CX.1 hn).2 h1 h2]
theorem Qkv{rs:List Nat}{n:Nat}(hnd:rs.Nodup)(hlt:∀j∈rs,j<n){i j:Nat}(h:G1 rs n i=G1 rs n j):i=j:=by by_cases h1:i<rs.length <;> by_cases h2:j<rs.length;obtain⟨a,h3,h4⟩:=Qb4 (n:=n) h1;obtain⟨b,h5,h6⟩:=Qb4 (n:=n) h2;rw[h4,h6]at h;subst h;exact Q8y hnd h3 h5;have:=hlt _ (GQ (n:=n) h1);rw[h,Di (Se h2)]at this;omega;have:=hlt _ (GQ (n:=n) h2);rw[<-h,Di (Se h1)]at this;omega;rw[Di (Se h1),Di (Se h2)]at h;omega
def CA.ren(ρ:Nat->Nat):CA->CA|.d c=>.d c|.ptr i off=>.ptr (ρ i) off|.pel e off=>.pel e off|.fn f caps=>.fn f (caps.map λp=>(ρ p.1,p.2))|.app i sz es=>.app (ρ i) sz es|.apv i sz n es=>.apv (ρ i) sz n es|.tp i n off=>.tp (ρ i) n off|.osl i off len cap=>.osl (ρ i) off len cap|.mp i=>.mp (ρ i)|.yld i=>.yld (ρ i)|.clo f caps=>.clo f caps|.any=>.any
def AV.ren(ρ:Nat->Nat):AV->AV|.one x=>.one (x.ren ρ)|.agg xs=>.agg (xs.map (CA.ren ρ))
def TV.ren(ρ:Nat->Nat):TV->TV|.v x=>.v (x.ren ρ)|.tup xs=>.tup (xs.map (AV.ren ρ))|.unk=>.unk
def HB.ren(ρ:Nat->Nat):HB->HB|.cells T xs=>.cells T (xs.map (CA.ren ρ))|.obj o=>.obj o|.loop s p tm nt ps assign body D=>.loop s p (tm.map λq=>(q.1,q.2.ren ρ)) nt ps assign body (ρ D)|.mp es c=>.mp (es.map λe=>(e.1,e.2.1.ren ρ,e.2.2)) c
def JM(ρ:Nat->Nat)(l:List (Nat×HB)):List (Nat×HB):=l.map λp=>(ρ p.1,p.2.ren ρ)
def Ys(ρ:Nat->Nat)(l:List (Nat×Option Tok)):List (Nat×Option Tok):=l.map λp=>(ρ p.1,p.2)
theorem Qc1{α β:Type}(f:α->β):∀(l:List (Nat×α))(t:Nat),lk (l.map λq=>(q.1,f q.2)) t=(lk l t).map f
 |[],t=>rfl
 |(k,x)::l,t=>by
  rw[CJ,Q8,Q8];split
  · rfl
  · exact Qc1 f l t
theorem Qby{α β:Type}{ρ:Nat->Nat}{f:α->β}(inj:∀i j,ρ i=ρ j->i=j):∀(l:List (Nat×α))(i:Nat),lk (l.map λp=>(ρ p.1,f p.2)) (ρ i)=(lk l i).map f
 |[],i=>rfl
 |(k,x)::l,i=>by
  rw[CJ,Q8,Q8];by_cases h:k=i
  · subst h;rw[Cf rfl,Cf rfl];rfl
  · rw[Ca h,Ca (λe=>h (inj _ _ e))];exact Qby inj l i
theorem Q64{α β:Type}{ρ:Nat->Nat}{f:α->β}(inj:∀i j,ρ i=ρ j->i=j){l:List (Nat×α)}{j:Nat}{y:β}(h:lk (l.map λp=>(ρ p.1,f p.2)) j=some y):∃i x,ρ i=j/\lk l i=some x/\y=f x:=by obtain⟨p,h1,h2⟩:=Cx.1 (Qc0 h);have h3:ρ p.1=j:=(Prod.mk.inj h2).1;subst h3;rw[Qby inj]at h;cases h4:lk l p.1 with|none=>rw[h4]at h;cases h|some x=>rw[h4]at h;cases h;exact⟨p.1,x,rfl,h4,rfl⟩
def pull(ρ:Nat->Nat)(V:Vu)(m:Nat):Vu:=⟨m,λi=>V.ι (ρ i),λi=>V.κ (ρ i),λi=>V.cu (ρ i),V.S⟩
theorem CA.rel.pull{ρ:Nat->Nat}{V:Vu}{w:World}{m:Nat}{x:CA}{v:Value}(h:(x.ren ρ).rel V w v)(hb:x.below m):x.rel (pull ρ V m) w v:=by cases x with|ptr i off=>exact⟨hb,h.2⟩|fn f caps=>have:=h.2;rw[CL]at this;exact⟨hb,this⟩|app i sz es=>exact⟨hb,h.2⟩|apv i sz n es=>exact⟨hb,h.2⟩|tp i n off=>exact⟨hb,h.2⟩|osl i off len cap=>exact⟨hb,h.2⟩|mp i=>exact⟨hb,h.2⟩|yld i=>exact⟨hb,h.2⟩|d c=>exact h|pel e off=>exact h|clo f caps=>exact h|any=>exact h
theorem rels.pull{ρ:Nat->Nat}{V:Vu}{w:World}{m:Nat}{xs:List CA}{vs:Array Value}(h:rels V w (xs.map (CA.ren ρ)) vs)(hb:∀x∈xs,x.below m):rels (pull ρ V m) w xs vs:=⟨by simpa using h.1,λi x hx=>let⟨u,h1,h2⟩:=h.2 i (x.ren ρ) (by rw[Cn,hx];rfl);⟨u,h1,h2.pull (hb x (Cr hx))⟩⟩
theorem AV.rel.pull{ρ:Nat->Nat}{V:Vu}{w:World}{m:Nat}{x:AV}{v:Value}(h:(x.ren ρ).rel V w v)(hb:x.below m):x.rel (pull ρ V m) w v:=by cases x with|one x=>exact CA.rel.pull h hb|agg xs=>obtain⟨vs,h1,h2⟩:=h;exact⟨vs,h1,h2.pull hb⟩
theorem TV.rel.pull{ρ:Nat->Nat}{V:Vu}{w:World}{m:Nat}{x:TV}{v:Value}(h:(x.ren ρ).rel V w v)(hb:x.below m):x.rel (pull ρ V m) w v:=by cases x with|v x=>exact AV.rel.pull h hb|tup xs=>(obtain⟨vs,h1,h2,h3⟩:=h;exact⟨vs,h1,by simpa using h2,λi x hx=>let⟨u,h4,h5⟩:=h3 i (x.ren ρ) (by rw[Cn,hx];rfl);⟨u,h4,h5.pull (hb x (Cr hx))⟩⟩)|unk=>trivial
theorem HB.rel.pull{ρ:Nat->Nat}{V:Vu}{w:World}{m:Nat}{x:HB}{o:Obj}(h:(x.ren ρ).rel V w o)(hb:x.below m):x.rel (pull ρ V m) w o:=by cases x with|cells T xs=>(obtain⟨vs,h3,h4⟩:=h;exact⟨vs,h3,h4.pull hb⟩)|obj o'=>exact h|loop s p tm nt ps assign body D=>(obtain⟨-,fn,tmps,h3,h4,h5⟩:=h;exact⟨hb.1,fn,tmps,h3,h4,λt x hx=>(h5 t (x.ren ρ) (by rw[Qc1,hx];rfl)).pull (hb.2 t x hx)⟩)|mp es clock=>obtain⟨ents,h3,h4,h5⟩:=h;exact⟨ents,h3,by simpa using h4,λi k x b hi=>let⟨v,h6,h7⟩:=h5 i k (x.ren ρ) b (by rw[Cn,hi];rfl);⟨v,h6,h7.pull (hb _ (Cr hi))⟩⟩
structure Via(ρ:Nat->Nat)(V1 V2:Vu):Prop where
 ι:∀i,i<V1.nx->ρ i<V2.nx/\V2.ι (ρ i)=V1.ι i
 cu:∀i,i<V1.nx->V2.cu (ρ i)=V1.cu i
 κ:∀i,i<V1.nx->V2.κ (ρ i)=V1.κ i
 S:∀b o,V1.S b o->V2.S b o
section
variable{ρ:Nat->Nat}{V1 V2:Vu}{w:World}
theorem CA.rel.via(hV:Via ρ V1 V2){x:CA}{v:Value}(h:x.rel V1 w v):(x.ren ρ).rel V2 w v:=by cases x with|ptr i off=>exact⟨(hV.ι i h.1).1,by rw[(hV.ι i h.1).2];exact h.2⟩|fn f caps=>(refine⟨λp hp=>?_,?_⟩;obtain⟨q,hq,rfl⟩:=Cx.1 hp;exact(hV.ι _ (h.1 q hq)).1;rw[h.2,CL];congr 2;exact Cy λp hp=>by show _=Value.pointer (some ⟨V2.ι (ρ p.1),p.2,none⟩);rw[(hV.ι _ (h.1 p hp)).2])|app i sz es=>exact⟨(hV.ι i h.1).1,by rw[hV.cu i h.1];exact h.2.1,by rw[hV.κ i h.1];exact h.2.2.1,Reads.mono hV.S (λ_ _ _=>rfl) h.2.2.2⟩|apv i sz n es=>(obtain⟨h1,h2,h3,a,cap,h4,h5,h6⟩:=h;exact⟨(hV.ι i h1).1,by rw[hV.cu i h1];exact h2,by rw[hV.κ i h1];exact h3,a,cap,h4,h5,Reads.mono hV.S (λ_ _ _=>rfl) h6⟩)|tp i n off=>(obtain⟨h1,h2,g,cap,h3,h4⟩:=h;exact⟨(hV.ι i h1).1,by rw[hV.cu i h1];exact h2,g,cap,by rw[hV.κ i h1];exact h3,h4⟩)|osl i off len cap=>exact⟨(hV.ι i h.1).1,by rw[(hV.ι i h.1).2];exact h.2⟩|mp i=>exact⟨(hV.ι i h.1).1,by rw[(hV.ι i h.1).2];exact h.2⟩|yld i=>exact⟨(hV.ι i h.1).1,by rw[(hV.ι i h.1).2];exact h.2⟩|d c=>exact Reads.mono hV.S (λ_ _ _=>rfl) h|pel e off=>exact pelRel.mono hV.S (λ_ _ _=>rfl) h|clo f caps=>(obtain⟨ps,h1,h2,h3⟩:=h;exact⟨ps,h1,h2,λi e off hi=>let⟨p,h4,h5⟩:=h3 i e off hi;⟨p,h4,h5.mono hV.S (λ_ _ _=>rfl)⟩⟩)|any=>exact h
theorem rels.via(hV:Via ρ V1 V2){xs:List CA}{vs:Array Value}(h:rels V1 w xs vs):rels V2 w (xs.map (CA.ren ρ)) vs:=
 ⟨by simpa using h.1,λi x hx=>by
  rw[Cn]at hx;cases h1:xs[i]? with
  |none=>rw[h1]at hx;cases hx
  |some y=>rw[h1]at hx;cases hx;obtain⟨u,h2,h3⟩:=h.2 i y h1;exact⟨u,h2,h3.via hV⟩⟩
theorem AV.rel.via(hV:Via ρ V1 V2){x:AV}{v:Value}(h:x.rel V1 w v):(x.ren ρ).rel V2 w v:=by cases x with|one x=>exact CA.rel.via hV h|agg xs=>obtain⟨vs,h1,h2⟩:=h;exact⟨vs,h1,h2.via hV⟩
theorem TV.rel.via(hV:Via ρ V1 V2){x:TV}{v:Value}(h:x.rel V1 w v):(x.ren ρ).rel V2 w v:=by cases x with|v x=>exact AV.rel.via hV h|tup xs=>(obtain⟨vs,h1,h2,h3⟩:=h;refine⟨vs,h1,by simpa using h2,λi x hx=>?_⟩;rw[Cn]at hx;cases h4:xs[i]? with|none=>rw[h4]at hx;cases hx|some y=>rw[h4]at hx;cases hx;obtain⟨u,h5,h6⟩:=h3 i y h4;exact⟨u,h5,h6.via hV⟩)|unk=>trivial
theorem HB.rel.via(hV:Via ρ V1 V2){x:HB}{o:Obj}(h:x.rel V1 w o):(x.ren ρ).rel V2 w o:=by cases x with|cells T xs=>(obtain⟨vs,h3,h4⟩:=h;exact⟨vs,h3,h4.via hV⟩)|obj o'=>exact h|loop s p tm nt ps assign body D=>(obtain⟨h1,fn,tmps,h3,h4,h5⟩:=h;refine⟨(hV.ι D h1).1,fn,tmps,by rw[(hV.ι D h1).2];exact h3,h4,λt x hx=>?_⟩;rw[Qc1]at hx;cases h6:lk tm t with|none=>rw[h6]at hx;cases hx|some y=>rw[h6]at hx;cases hx;exact(h5 t y h6).via hV)|mp es clock=>obtain⟨ents,h3,h4,h5⟩:=h;refine⟨ents,h3,by simpa using h4,λi k x b hi=>?_⟩;rw[Cn]at hi;cases h6:es[i]? with|none=>rw[h6]at hi;cases hi|some y=>obtain⟨k',x',b'⟩:=y;rw[h6]at hi;cases hi;obtain⟨v,h7,h8⟩:=h5 i _ _ _ h6;exact⟨v,h7,h8.via hV⟩
end
open Classical in
def Kc(ρ:Nat->Nat)(V V1:Vu)(n:Nat):Vu:=⟨n,λj=>if h:∃i,ρ i=j then V1.ι h.choose else V.ι j,λj=>if h:∃i,ρ i=j then V1.κ h.choose else V.κ j,λj=>if h:∃i,ρ i=j then V1.cu h.choose else V.cu j,V1.S⟩
section
open Classical
variable{ρ:Nat->Nat}{V V1:Vu}{n:Nat}
theorem DF(inj:∀i j,ρ i=ρ j->i=j){i:Nat}(h:∃k,ρ k=ρ i):h.choose=i:=inj _ _ h.choose_spec
theorem K4(inj:∀i j,ρ i=ρ j->i=j)(i:Nat):(Kc ρ V V1 n).ι (ρ i)=V1.ι i:=by have h:∃k,ρ k=ρ i:=⟨i,rfl⟩;show(if h:∃k,ρ k=ρ i then V1.ι h.choose else V.ι (ρ i))=_;rw[dif_pos h,DF inj h]
theorem XF(inj:∀i j,ρ i=ρ j->i=j)(i:Nat):(Kc ρ V V1 n).κ (ρ i)=V1.κ i:=by have h:∃k,ρ k=ρ i:=⟨i,rfl⟩;show(if h:∃k,ρ k=ρ i then V1.κ h.choose else V.κ (ρ i))=_;rw[dif_pos h,DF inj h]
theorem Q7c(inj:∀i j,ρ i=ρ j->i=j)(i:Nat):(Kc ρ V V1 n).cu (ρ i)=V1.cu i:=by have h:∃k,ρ k=ρ i:=⟨i,rfl⟩;show(if h:∃k,ρ k=ρ i then V1.cu h.choose else V.cu (ρ i))=_;rw[dif_pos h,DF inj h]
theorem ZK{j:Nat}(h:¬ ∃i,ρ i=j):(Kc ρ V V1 n).ι j=V.ι j:=dif_neg h
theorem Gg{j:Nat}(h:¬ ∃i,ρ i=j):(Kc ρ V V1 n).κ j=V.κ j:=dif_neg h
theorem Qad{j:Nat}(h:¬ ∃i,ρ i=j):(Kc ρ V V1 n).cu j=V.cu j:=dif_neg h
end
section
variable{E:Env}{V V1:Vu}{hp hp0 hp1 hpF:List (Nat×HB)}{tk tk0 tk1 tkF:List (Nat×Option Tok)}{w w':World}{ρ:Nat->Nat}{nx0 n:Nat}
theorem HRel.part(inj:∀i j,ρ i=ρ j->i=j)(h:HRel E V (JM ρ hp0) (Ys ρ tk0) w)(b0:hpBelow nx0 hp0)(c0:tkBelow nx0 tk0):HRel ⟨E.P,w,Wz V (JM ρ hp0) (Ys ρ tk0),pull ρ V nx0⟩ (pull ρ V nx0) hp0 tk0 w:=by
 have eH:∀i B,lk hp0 i=some B->lk (JM ρ hp0) (ρ i)=some (B.ren ρ):=λi B hi=>by have:=Qby (f:=HB.ren ρ) inj hp0 i;rw[hi]at this;exact this
 have eT:∀i T,lk tk0 i=some T->lk (Ys ρ tk0) (ρ i)=some T:=λi T hi=>by have:=Qby (f:=λx:Option Tok=>x) inj tk0 i;rw[hi]at this;exact this
 refine⟨ExtM.refl _ _,Vu.Le.refl _ _,h.sz,λb o hs=>.inl hs,λi B hi=>?_,λi j A B hi hj e=>?_,λi B hi=>⟨.inr (.inl ⟨ρ i,_,eH i B hi,Z⟩),(h.new _ _ (eH i B hi)).2⟩,λi T hi=>?_,λi j T U g hi hj ei ej=>?_⟩;obtain⟨h1,h2⟩:=b0.get i B hi;obtain⟨-,o,h3,h4⟩:=h.own _ _ (eH i B hi);exact⟨h1,o,h3,h4.pull h2⟩;exact inj _ _ (h.inj _ _ _ _ (eH i A hi) (eH j B hj) e);obtain⟨-,h2,xs,h3,h4⟩:=h.tok _ _ (eT i _ hi);exact⟨c0.get i _ hi,h2,xs,h3,λg hg=>⟨.inr (.inr ⟨ρ i,T,eT i _ hi,hg⟩),(h4 g hg).2.1,λj B hj=>(h4 g hg).2.2 _ _ (eH j B hj)⟩⟩;exact inj _ _ (h.tki _ _ T U g (eT i _ hi) (eT j _ hj) ei ej)
theorem HRel.turn(inj:∀i j,ρ i=ρ j->i=j)(h:HRel E V hp tk w)(hh:hpLe hp (JM ρ hp0))(ht:tkLe tk (Ys ρ tk0))(hhF:hpLe hp hpF)(htF:tkLe tk tkF)(old:∀i,i<nx0->ρ i<V.nx)(new:∀i,nx0<=i->ρ i=V.nx+(i-nx0))(dF:∀i B,lk hpF i=some B->∀k,k<nx0->ρ k≠i)(dT:∀i T,lk tkF i=some (some T)->∀k,k<nx0->ρ k≠i)(b0:hpBelow nx0 hp0)(c0:tkBelow nx0 tk0)(hn:V1.nx+V.nx=n+nx0)(hle:nx0<=V1.nx)(H:HRel ⟨E.P,w,Wz V (JM ρ hp0) (Ys ρ tk0),pull ρ V nx0⟩ V1 hp1 tk1 w'):HRel E (Kc ρ V V1 n) (JM ρ hp1++hpF) (Ys ρ tk1++tkF) w'/\V.Le (Kc ρ V V1 n) w w'/\Via ρ V1 (Kc ρ V V1 n):=by
 have L:=H.le0;have h0:=h.forgetLe hh ht;have hF:=h.forgetLe hhF htF;have eHi:∀{l:List (Nat×HB)}{j B},lk (JM ρ l) j=some B->∃i x,ρ i=j/\lk l i=some x/\B=x.ren ρ:=λhj=>Q64 inj hj;have eTi:∀{l:List (Nat×Option Tok)}{j T},lk (Ys ρ l) j=some T->∃i x,ρ i=j/\lk l i=some x/\T=x:=λhj=>Q64 (f:=λx:Option Tok=>x) inj hj;have pE:∀k,Wz V (JM ρ hp0) (Ys ρ tk0) k->E.w0.heap.size<=k\/E.M k:=by rintro k (⟨i,B,hi,rfl⟩|⟨i,T,hi,hg⟩);exact(h0.new i B hi).1;obtain⟨-,-,xs,-,h4⟩:=h0.tok i T hi;exact(h4 k hg).1
 have Fl:∀i B,lk hpF i=some B->V.ι i<w.heap.size:=λi B hi=>by obtain⟨-,o,ho,-⟩:=hF.own i B hi;exact YF ho
 have Tl:∀i T g,lk tkF i=some (some T)->(V.κ i T.n).ownBlock=some g->g<w.heap.size:=λi T g hi hg=>by obtain⟨-,-,xs,h3,-⟩:=hF.tok i T hi;exact(h3.1.lt g hg).2
 have nF:∀i,i<V.nx->(∀k,k<nx0->ρ k≠i)->¬ ∃k,ρ k=i:=by rintro i hi hk ⟨k,hk2⟩;rcases P2 k nx0 with h1|h1;exact hk k h1 hk2;rw[new k h1]at hk2;omega
 have Fn:∀i B,lk hpF i=some B->¬ ∃k,ρ k=i:=λi B hi=>nF i (hF.own i B hi).1 (dF i B hi);have Tn:∀i T,lk tkF i=some (some T)->¬ ∃k,ρ k=i:=λi T hi=>nF i (hF.tok i T hi).1 (dT i T hi);have Fp:∀i B,lk hpF i=some B->¬Wz V (JM ρ hp0) (Ys ρ tk0) (V.ι i):=by rintro i B hi (⟨j,C,hj,e⟩|⟨j,T,hj,hg⟩);obtain⟨x,hx,-⟩:=hh.get j C hj;obtain⟨y,hy,-⟩:=hhF.get i B hi;have:=h.inj j i x y hx hy e;subst this;obtain⟨k,-,hk,-⟩:=eHi hj;exact Fn _ B hi ⟨k,hk⟩;obtain⟨y,hy,-⟩:=hhF.get i B hi;obtain⟨-,-,xs,-,h4⟩:=h.tok j T (ht.get j T hj);exact(h4 _ hg).2.2 i y hy Z
 have Tp:∀i T g,lk tkF i=some (some T)->(V.κ i T.n).ownBlock=some g->¬Wz V (JM ρ hp0) (Ys ρ tk0) g:=by rintro i T g hi hg (⟨j,C,hj,e⟩|⟨j,U,hj,hg'⟩);obtain⟨x,hx,-⟩:=hh.get j C hj;obtain⟨-,-,xs,-,h4⟩:=h.tok i T (htF.get i T hi);exact(h4 _ hg).2.2 j x hx e;have:=h.tki i j T U g (htF.get i T hi) (ht.get j U hj) hg hg';subst this;obtain⟨k,-,hk,-⟩:=eTi hj;exact Tn _ T hi ⟨k,hk⟩
 have S1:∀b o,V1.S b o->V.S b o\/w.heap.size<=b\/Wz V (JM ρ hp0) (Ys ρ tk0) b:=H.sub;have nn:∀i,i<V1.nx->ρ i<n:=λi hi=>by rcases P2 i nx0 with h1|h1;have:=old i h1;omega;rw[new i h1];omega
 have A2:Via ρ V1 (Kc ρ V V1 n):=⟨λi hi=>⟨nn i hi,K4 inj i⟩,λi hi=>Q7c inj i,λi hi=>XF inj i,λb o hs=>hs⟩;have isNew:∀k,ρ k<V.nx->k<nx0:=λk hk=>by rcases P2 k nx0 with h1|h1;exact h1;rw[new k h1]at hk;omega
 have A1:V.Le (Kc ρ V V1 n) w w':=by refine⟨by show V.nx<=n;omega,λi hi=>?_,λi hi=>?_,λi hi m hm=>?_,L.S,L.cell,L.dk⟩;by_cases hq:∃k,ρ k=i;obtain⟨k,rfl⟩:=hq;rw[K4 inj];exact L.ι k (isNew k hi);exact ZK hq;by_cases hq:∃k,ρ k=i;obtain⟨k,rfl⟩:=hq;rw[Q7c inj];exact L.cu k (isNew k hi);rw[Qad hq];exact Cl _;by_cases hq:∃k,ρ k=i;obtain⟨k,rfl⟩:=hq;rw[XF inj];exact L.κ k (isNew k hi) m hm;rw[Gg hq]
 have hsize:w.heap.size<=w'.heap.size:=H.ext.size;have keep:∀k,k<w.heap.size->¬Wz V (JM ρ hp0) (Ys ρ tk0) k->w'.heap[k]?=w.heap[k]?:=H.ext.block;have inE:∀k,(w.heap.size<=k\/Wz V (JM ρ hp0) (Ys ρ tk0) k)->E.w0.heap.size<=k\/E.M k:=λk hk=>by rcases hk with h1|h1;exact .inl (Cg h.ext.size h1);exact pE k h1
 refine⟨⟨?_,h.le0.trans A1,H.sz,?_,?_,?_,?_,?_,?_⟩,A1,A2⟩;refine⟨H.ext.os.trans h.ext.os,H.ext.tape.trans h.ext.tape,H.ext.output.trans h.ext.output,Cg h.ext.size hsize,λk hk hM=>?_⟩;refine(keep k (Ci hk h.ext.size) λhp=>?_).trans (h.ext.block k hk hM);rcases pE k hp with h1|h1;omega;exact hM h1;intro b o hs;rcases S1 b o hs with h1|h1;exact h.sub b o h1;exact .inr (inE b h1);intro i B hi;rcases Yl hi with hi|hi;obtain⟨k,x,rfl,hk,rfl⟩:=eHi hi;obtain⟨h1,o,h3,h4⟩:=H.own k x hk;exact⟨nn k h1,o,by rw[K4 inj];exact h3,h4.via A2⟩;obtain⟨h1,o,h3,h4⟩:=hF.own i B hi;exact⟨by show i<n;omega,o,by rw[ZK (Fn i B hi),keep _ (Fl i B hi) (Fp i B hi)];exact h3,h4.mono A1⟩;have mix:∀i j A B,lk (JM ρ hp1) i=some A->lk hpF j=some B->(Kc ρ V V1 n).ι i=(Kc ρ V V1 n).ι j->False:=λi j A B hi hj e=>by obtain⟨k,x,rfl,hk,-⟩:=eHi hi;rw[K4 inj,ZK (Fn j B hj)]at e;rcases(H.new k x hk).1 with h2|h2;rw[e]at h2;exact absurd h2 (SA.2 (Fl j B hj));rw[e]at h2;exact Fp j B hj h2
 intro i j A B hi hj e;rcases Yl hi with hi|hi <;> rcases Yl hj with hj|hj;obtain⟨k,x,rfl,hk,-⟩:=eHi hi;obtain⟨k',x',rfl,hk',-⟩:=eHi hj;rw[K4 inj,K4 inj]at e;rw[H.inj k k' x x' hk hk' e];exact(mix i j A B hi hj e).elim;exact(mix j i B A hj hi e.symm).elim;rw[ZK (Fn i A hi),ZK (Fn j B hj)]at e;exact hF.inj i j A B hi hj e;intro i B hi;rcases Yl hi with hi|hi;obtain⟨k,x,rfl,hk,-⟩:=eHi hi;obtain⟨h2,h3⟩:=H.new k x hk;rw[K4 inj];exact⟨inE _ h2,h3⟩;obtain⟨h2,h3⟩:=hF.new i B hi;rw[ZK (Fn i B hi)];refine⟨h2,λo hs=>?_⟩;rcases S1 _ o hs with h4|h4|h4;exact h3 o h4;exact absurd h4 (SA.2 (Fl i B hi));exact Fp i B hi h4;intro i T hi;rcases Yl hi with hi|hi;obtain⟨k,x,rfl,hk,e⟩:=eTi hi;subst e;obtain⟨h1,h2,xs,h3,h4⟩:=H.tok k T hk;refine⟨nn k h1,by rw[Q7c inj];exact h2,xs,⟨by rw[XF inj];exact h3.1,h3.2⟩,λg hg=>?_⟩;rw[XF inj]at hg;obtain⟨h5,h6,h7⟩:=h4 g hg;refine⟨inE g h5,h6,λj B hj=>?_⟩;rcases Yl hj with hj|hj;obtain⟨k',x',rfl,hk',-⟩:=eHi hj;rw[K4 inj];exact h7 k' x' hk';intro e;rw[ZK (Fn j B hj)]at e;rcases h5 with h5|h5;have:=Fl j B hj;rw[e]at this;exact absurd h5 (SA.2 this);exact Fp j B hj (by rw[e];exact h5);have hq:=Tn i T hi;obtain⟨h1,h2,xs,h3,h4⟩:=hF.tok i T hi;refine⟨by show i<n;omega,by rw[Qad hq];exact h2,xs,?_,λg hg=>?_⟩;exact h3.keepW (congrFun (Gg hq) T.n) (Q06 h3.1 λg hg=>keep g (Tl i T g hi hg) (Tp i T g hi hg)) A1.lx;rw[Gg hq]at hg;obtain⟨h5,h6,h7⟩:=h4 g hg;refine⟨h5,λo hs=>?_,λj B hj=>?_⟩;rcases S1 _ o hs with h8|h8|h8;exact h6 o h8;exact absurd h8 (SA.2 (Tl i T g hi hg));exact absurd h8 (Tp i T g hi hg);rcases Yl hj with hj|hj;intro e;obtain⟨k',x',rfl,hk',-⟩:=eHi hj;rw[K4 inj]at e;rcases(H.new k' x' hk').1 with h9|h9;rw[e]at h9;exact absurd h9 (SA.2 (Tl i T g hi hg));rw[e]at h9;exact Tp i T g hi hg h9;rw[ZK (Fn j B hj)];exact h7 j B hj;have mix:∀i j T U g,lk (Ys ρ tk1) i=some (some T)->lk tkF j=some (some U)->((Kc ρ V V1 n).κ i T.n).ownBlock=some g->((Kc ρ V V1 n).κ j U.n).ownBlock=some g->False:=λi j T U g hi hj ei ej=>by obtain⟨k,x,rfl,hk,e⟩:=eTi hi;subst e;rw[XF inj]at ei;rw[Gg (Tn j U hj)]at ej;obtain⟨-,-,xs,-,h4⟩:=H.tok k T hk;rcases(h4 g ei).1 with h5|h5;exact absurd h5 (SA.2 (Tl j U g hj ej));exact Tp j U g hj ej h5
 intro i j T U g hi hj ei ej;rcases Yl hi with hi|hi <;> rcases Yl hj with hj|hj;obtain⟨k,x,rfl,hk,e⟩:=eTi hi;subst e;obtain⟨k',x',rfl,hk',e⟩:=eTi hj;subst e;rw[XF inj]at ei ej;rw[H.tki k k' T U g hk hk' ei ej];exact(mix i j T U g hi hj ei ej).elim;exact(mix j i U T g hj hi ej ei).elim;rw[Gg (Tn i T hi)]at ei;rw[Gg (Tn j U hj)]at ej;exact hF.tki i j T U g hi hj ei ej
end
theorem Q2s{m:Nat}:∀{l:List (Nat×Option Tok)},(l.all λp=>Nat.blt p.1 m)=true->tkBelow m l|[],_=>trivial|(i,x)::l,h=>by rw[List.all_cons,CD]at h;exact⟨Uh h.1,Q2s h.2⟩
def Gt:List Nat->Bool|[]=>true|x::l=>cond (l.any λy=>Nat.beq x y) false (Gt l)
theorem Uw:∀{l:List Nat},Gt l=true->l.Nodup|[],_=>Sl|x::l,h=>by unfold Gt at h;cases h1:(l.any λy=>Nat.beq x y)with|true=>rw[h1]at h;cases h|false=>rw[h1]at h;refine CX.2 ⟨λhm=>?_,Uw h⟩;have:=Pt.1 h1 x hm;simp at this
def Qjt{α:Type}(rs:List Nat)(l:List (Nat×α)):Bool:=l.all λp=>rs.all λq=>cond (Nat.beq q p.1) false true
theorem Qai{α:Type}{rs:List Nat}{l:List (Nat×α)}(h:Qjt rs l=true){i:Nat}{x:α}(hi:lk l i=some x):i∉rs:=λhm=>by
 have h1:=Ch.1 (Ch.1 h _ (Qc0 hi)) i hm;have h2:Nat.beq i i=true:=by simp
 dsimp only at h1;rw[h2]at h1;cases h1
theorem QE{E:Env}{st:St}{dd:Option Tmp}{ty:TypeId}{pos:String}{af:Array Edge}{g:Option (Nat×Bool)}{x:Operand}{f:FuncId}{caps:List (Nat×Nat)}{ars:Array Operand}{args args0:List AV}{ats:Array TypeId}{res res2:TV}{hp0 hp1 hp1' hpF:List (Nat×HB)}{tk0 tk1 tk1' tkF:List (Nat×Option Tok)}{nx0 nx1 nx2 n:Nat}(rs:List Nat)(hx:ev st.tm x=some (.v (.one (.fn f caps))))(ha:Z7 st.tm ars.toList=some args)(hc:CallM E.P f args0 ⟨hp0,tk0,nx0⟩ res ⟨hp1,tk1,nx1⟩)(hst:st.nx=n)(he:args++K9 caps=args0.map (AV.ren (G1 rs n)))(e3:JM (G1 rs n) hp1=hp1')(e4:Ys (G1 rs n) tk1=tk1')(e5:res.ren (G1 rs n)=res2)(hh:hpLe st.hp (JM (G1 rs n) hp0))(ht:tkLe st.tk (Ys (G1 rs n) tk0))(hhF:hpLe st.hp hpF)(htF:tkLe st.tk tkF)(hl:Nat.beq rs.length nx0=true)(hnd:Gt rs=true)(hlt:(rs.all λj=>Nat.blt j n)=true)(d1:Qjt rs hpF=true)(d2:Qjt rs tkF=true)(b0:hpBelow nx0 hp0)(c0:(tk0.all λp=>Nat.blt p.1 nx0)=true)(ba:(args0.all λy=>y.belowB nx0)=true)(hle:Nat.ble nx0 nx1=true)(hn:Nat.beq (nx1+n) (nx2+nx0)=true):OpOK E ⟨dd,.call {callee:=.value x,args:=ars,argTypes:=ats},ty,pos,af,g⟩ st res2 ⟨hp1'++hpF,tk1'++tkF,nx2⟩:=by
 subst hst e3 e4 e5;have c0':=Q2s c0;have hl':rs.length=nx0:=Cc hl;have hlt':∀j∈rs,j<st.nx:=λj hj=>Uh (Ch.1 hlt j hj);have inj:∀i j,G1 rs st.nx i=G1 rs st.nx j->i=j:=λi j h=>Qkv (Uw hnd) hlt' h;intro V a w hr ro n K Q hK;refine⟨λ_ _=>trivial,?_⟩;rw[Oper.semAt_eq _ _ _ (by intro c h;cases h)];obtain⟨hv1,hv2⟩:=hr.ev hx;have hrun:(execOp a.eval ⟨dd,.call {callee:=.value x,args:=ars,argTypes:=ats},ty,pos,af,g⟩).run E.P w=.ok (.enter f (ars.map a.eval++(caps.map λp=>Value.pointer (some ⟨V.ι p.1,p.2,none⟩)).toArray)) w:=by have:=hc.1 (ars.map a.eval++(caps.map λp=>Value.pointer (some ⟨V.ι p.1,p.2,none⟩)).toArray) w;simp[execOp,resolve,hv2,Deferred.ofValue,invoke];simpa using this
 rw[hrun];refine⟨(by intro h;cases h),?_⟩;have h0:=(hr.h.forgetLe hh ht).part inj b0 c0';have har:argsRel (pull (G1 rs st.nx) V nx0) w args0 (ars.map a.eval++(caps.map λp=>Value.pointer (some ⟨V.ι p.1,p.2,none⟩)).toArray):=by obtain⟨h1,h2⟩:=(KI hr ha).append (ZR hv1);rw[he]at h1 h2;refine⟨by simpa using h1,λi y hy=>?_⟩;obtain⟨u,hu,hyu⟩:=h2 i (y.ren _) (by rw[Cn,hy];rfl);exact⟨u,hu,hyu.pull (G9 (Ch.1 ba y (Cr hy)))⟩
 have hc':CallsIn Fence.wide (n-1) E.P f _ w _:=callsIn_wide.2 (hc.2 ⟨E.P,w,Wz V _ _,pull (G1 rs st.nx) V nx0⟩ _ w _ rfl h0 rfl har);refine CallsIn.mono (F:=FR ro) hc' ?_;rintro e w' ⟨v,V1,rfl,H,hn1,L,hres⟩;have hn2:=Cc hn;have hnx:=hr.nx;dsimp only at hn1;obtain⟨H2,L2,L3⟩:=hr.h.turn (n:=nx2) inj hh ht hhF htF (λi hi=>by rw[hnx];exact hlt' _ (GQ (by omega))) (λi hi=>by rw[Di (by omega),hnx,hl']) (λi B hi k hk e=>Qai d1 hi (by rw[<-e];exact GQ (by omega))) (λi T hi k hk e=>Qai d2 hi (by rw[<-e];exact GQ (by omega))) b0 c0' (by rw[hn1,hnx];exact hn2) (by rw[hn1];exact C9 hle) H;exact hK _ w' v H2 Z L2 (hres.via L3)
theorem qZ{ρ:Nat->Nat}:JM ρ []=[]:=rfl
theorem qB{ρ:Nat->Nat}{i j:Nat}{x y:HB}{r r':List (Nat×HB)}(h1:ρ i=j)(h2:x.ren ρ=y)(h:JM ρ r=r'):JM ρ ((i,x)::r)=(j,y)::r':=by subst h1 h2 h;rfl
theorem qM{ρ:Nat->Nat}{i j c:Nat}{xs:List (Int×Int×Nat)}{r r':List (Nat×HB)}(h1:ρ i=j)(h:JM ρ r=r'):JM ρ ((i,.mp (JW xs) c)::r)=(j,.mp (JW xs) c)::r':=qB h1 (by show HB.mp ((JW xs).map _) c=_;unfold JW;rw[CL];rfl) h
section
variable{ρ:Nat->Nat}{hp:List (Nat×HB)}{tk:List (Nat×Option Tok)}
theorem gZ:hpLe hp (JM ρ []):=trivial
theorem gR{i:Nat}{x:HB}{r:List (Nat×HB)}(h:lk hp (ρ i)=some (x.ren ρ))(l:hpLe hp (JM ρ r)):hpLe hp (JM ρ ((i,x)::r)):=⟨⟨_,h,.refl _⟩,l⟩
theorem gM{i c:Nat}{xs:List (Int×Int×Nat)}{r:List (Nat×HB)}(h:lk hp (ρ i)=some (.mp (JW xs) c))(l:hpLe hp (JM ρ r)):hpLe hp (JM ρ ((i,.mp (JW xs) c)::r)):=gR (by show _=some (HB.mp ((JW xs).map _) c);unfold JW at h⊢;rw[CL];exact h) l
theorem jZ:tkLe tk (Ys ρ []):=trivial
theorem jR{i:Nat}{T:Tok}{r:List (Nat×Option Tok)}(h:lk tk (ρ i)=some (some T))(l:tkLe tk (Ys ρ r)):tkLe tk (Ys ρ ((i,some T)::r)):=⟨λT' e=>by cases e;exact h,l⟩
end
def Jm{σ β:Type}(F:(σ->Option β)->σ->Option β):Nat->σ->Option β|0,_=>none|n+1,u=>F (Jm F n) u
theorem Yt{σ β:Type}{F:(σ->Option β)->σ->Option β}{C:σ->β->Prop}(h:∀rc:σ->Option β,(∀u y,rc u=some y->C u y)->∀u y,F rc u=some y->C u y):∀(n:Nat)(u:σ)(y:β),Jm F n u=some y->C u y|0,u,y,e=>by cases e|n+1,u,y,e=>h _ (Yt h n) u y e
end
section
open Go.RowKit
def sB(l:List UInt8):ByteArray:=⟨l.toArray⟩
theorem Qzz(s:ByteArray):sB s.data.toList=s:=by cases s;simp[sB]
theorem Za(l:List UInt8):(sB l).size=l.length:=by simp[sB,ByteArray.size]
theorem Q8m(l:List UInt8):(sB l).toList=l:=by rw[Go.Lib.toList_data];rfl
theorem Qnz(a b:List UInt8):sB a++sB b=sB (a++b):=by apply ByteArray.ext;simp[sB,ByteArray.data_append]
theorem J11(l:List UInt8)(k:Nat):(sB l)[k]?=l[k]?:=by by_cases h:k<l.length;rw[Cm h,getElem?_pos (sB l) k (by rw[Za];exact h)];simp[sB,ByteArray.get,ByteArray.getElem_eq_getElem_data];rw[Pn (by omega),getElem?_neg (sB l) k (by rw[Za];exact h)]
theorem Dh(l:List UInt8)(a b:Nat):(sB l).extract a b=sB ((l.take b).drop a):=by apply ByteArray.ext;simp[sB,ByteArray.data_extract,List.extract_eq_take_drop,List.drop_take]
def Q7z(s:List UInt8):List C:=[.v (.string (sB s))]
instance:Enc (List UInt8):=⟨1,Q7z,λl=>l.map Q7z,rfl,λa b=>Ct,λ_=>rfl⟩
abbrev K8(l:List UInt8):CA:=.d (.v (.string (sB l)))
abbrev TS(l:List UInt8):TV:=Gh (.string (sB l))
section
variable{E:Env}{st:St}{d:Option Tmp}{ty:TypeId}{pos:String}{af:Array Edge}{g:Option (Nat×Bool)}
theorem Qzt{t t':TypeId}{x y:Operand}{a b:List UInt8}(hx:ev st.tm x=some (TS a))(hy:ev st.tm y=some (TS b))(hg:Nat.ble (a.length+b.length) 1000000000=true):RO E ⟨d,.binOp .add t x y t',ty,pos,af,g⟩ st (TS (a++b)):=by have:=Q2l (E:=E) (d:=d) (ty:=ty) (pos:=pos) (af:=af) (g:=g) (t:=t) (t':=t') (op:=.add) hx hy (v:=.string (sB a++sB b)) (by have h1:=C9 hg;(have h2:decide ((((sB a).size+(sB b).size:Nat):Int)>IntKind.i64.max)=false:=by rw[Za,Za];refine C3 ?_;(have:IntKind.i64.max=9223372036854775807:=by decide);omega);simp only[Q15,h2,C6]);rw[Qnz]at this;exact this
theorem Qd5{t t':TypeId}{x y:Operand}{a b:List UInt8}(hx:ev st.tm x=some (TS a))(hy:ev st.tm y=some (TS b)):RO E ⟨d,.binOp .eql t x y t',ty,pos,af,g⟩ st (TB (a==b)):=by have:=Q2l (E:=E) (d:=d) (ty:=ty) (pos:=pos) (af:=af) (g:=g) (t:=t) (t':=t') (op:=.eql) hx hy (v:=.bool (a==b)) (by simp only[Q15,Q8m]);exact this
theorem Qk2{t t':TypeId}{x y:Operand}{a b:List UInt8}(hx:ev st.tm x=some (TS a))(hy:ev st.tm y=some (TS b)):RO E ⟨d,.binOp .neq t x y t',ty,pos,af,g⟩ st (TB (!(a==b))):=by have:=Q2l (E:=E) (d:=d) (ty:=ty) (pos:=pos) (af:=af) (g:=g) (t:=t) (t':=t') (op:=.neq) hx hy (v:=.bool (!(a==b))) (by simp only[Q15,Q8m]);exact this
theorem Q0y{t:TypeId}{x:Operand}{a:List UInt8}(ht:JS E.P t=true)(hx:ev st.tm x=some (TS a)):RO E ⟨d,.call {callee:=.builtin .len,args:=#[x],argTypes:=#[t]},ty,pos,af,g⟩ st (TI a.length):=by have:=Qpz (E:=E) (d:=d) (ty:=ty) (pos:=pos) (af:=af) (g:=g) ht hx;rw[Za]at this;exact this
theorem Q7n{t:TypeId}{x y:Operand}{a:List UInt8}{k:IntKind}{m:Int}{b:UInt8}(ht:JS E.P t=true)(hx:ev st.tm x=some (TS a))(hy:ev st.tm y=some (Gh (.int k m)))(hv:QP a m=some b):RO E ⟨d,.index t x y,ty,pos,af,g⟩ st (Gh (.int .u8 b.toNat)):=by obtain⟨j,hj,hl⟩:=Qpc hv;exact Qgg ht hx hy hj (by rw[J11];exact hl)
theorem Qgh{t:TypeId}{o lo:Operand}{a:List UInt8}{m:Int}(ht:JS E.P t=true)(hx:ev st.tm o=some (TS a))(hlo:ev st.tm lo=some (TI m))(hm:(cond (decide (0<=m)) (Nat.ble m.toNat a.length) false)=true):RO E ⟨d,.slice t o (some lo) none none,ty,pos,af,g⟩ st (TS (a.drop m.toNat)):=by have h0:0<=m:=CF (J9 hm);have hb:=J5 hm;obtain⟨k,rfl⟩:∃k:Nat,m=(k:Int):=⟨m.toNat,(Pl h0).symm⟩;simp only[Cu]at hb⊢;have:=Uk (E:=E) (st:=st) (d:=d) (ty:=ty) (pos:=pos) (af:=af) (g:=g) (l:=k) (h:=a.length) ht hx (lo:=some lo) (hi:=none) (mx:=none) (by have:ev st.tm lo=some (.v (.one (.d (.v (.int .i64 (.ofNat k)))))):=hlo;rw[Za];simp only[Zs,Qj3,Qf4,this,hb,C5]);rw[Dh,List.take_length]at this;exact this
theorem Qve{t:TypeId}{o hi:Operand}{a:List UInt8}{m:Int}(ht:JS E.P t=true)(hx:ev st.tm o=some (TS a))(hhi:ev st.tm hi=some (TI m))(hm:(cond (decide (0<=m)) (Nat.ble m.toNat a.length) false)=true):RO E ⟨d,.slice t o none (some hi) none,ty,pos,af,g⟩ st (TS (a.take m.toNat)):=by have h0:0<=m:=CF (J9 hm);have hb:=J5 hm;obtain⟨k,rfl⟩:∃k:Nat,m=(k:Int):=⟨m.toNat,(Pl h0).symm⟩;simp only[Cu]at hb⊢;have:=Uk (E:=E) (st:=st) (d:=d) (ty:=ty) (pos:=pos) (af:=af) (g:=g) (l:=0) (h:=k) ht hx (lo:=none) (hi:=some hi) (mx:=none) (by have:ev st.tm hi=some (.v (.one (.d (.v (.int .i64 (.ofNat k)))))):=hhi;rw[Za];simp only[Zs,Qj3,Qf4,this,hb,C5]);rw[Dh,Pp]at this;exact this
theorem Qzs{t:TypeId}{o lo hi:Operand}{a:List UInt8}{m n:Int}(ht:JS E.P t=true)(hx:ev st.tm o=some (TS a))(hlo:ev st.tm lo=some (TI m))(hhi:ev st.tm hi=some (TI n))(hm:(cond (decide (0<=m)) (cond (Nat.ble m.toNat n.toNat) (cond (decide (0<=n)) (Nat.ble n.toNat a.length) false) false) false)=true):RO E ⟨d,.slice t o (some lo) (some hi) none,ty,pos,af,g⟩ st (TS ((a.take n.toNat).drop m.toNat)):=by have h0:0<=m:=CF (J9 hm);have h1:=J9 (J5 hm);have h2:0<=n:=CF (J9 (J5 (J5 hm)));have h3:=J5 (J5 (J5 hm));obtain⟨k,rfl⟩:∃k:Nat,m=(k:Int):=⟨m.toNat,(Pl h0).symm⟩;obtain⟨j,rfl⟩:∃j:Nat,n=(j:Int):=⟨n.toNat,(Pl h2).symm⟩;simp only[Cu]at h1 h3⊢;have:=Uk (E:=E) (st:=st) (d:=d) (ty:=ty) (pos:=pos) (af:=af) (g:=g) (l:=k) (h:=j) ht hx (lo:=some lo) (hi:=some hi) (mx:=none) (by have e1:ev st.tm lo=some (.v (.one (.d (.v (.int .i64 (.ofNat k)))))):=hlo;have e2:ev st.tm hi=some (.v (.one (.d (.v (.int .i64 (.ofNat j)))))):=hhi;rw[Za];simp only[Zs,Qj3,Qf4,e1,e2,h3,h1,C5]);rw[Dh]at this;exact this
end
end
section
open Go.RowKit
noncomputable section
abbrev Bs:=List UInt8
inductive Tm where
 |mk (kind index:Int) (name:Bs) (levels:List Lvl) (kids:List Tm)
def Tm.kind:Tm->Int|.mk k _ _ _ _=>k
def Tm.index:Tm->Int|.mk _ i _ _ _=>i
def Tm.name:Tm->Bs|.mk _ _ n _ _=>n
def Tm.levels:Tm->List Lvl|.mk _ _ _ l _=>l
def Tm.kids:Tm->List Tm|.mk _ _ _ _ ks=>ks
theorem Tm.kids_lt(t:Tm):SizeOf.sizeOf t.kids<SizeOf.sizeOf t:=by cases t;simp only[Tm.kids,Tm.mk.sizeOf_spec];omega
def J6f:Nat->List Tm->List (List C)|0,_=>[]|n+1,l=>l.map λt=>[.v (.int .i64 t.kind),.v (.int .i64 t.index),.v (.string (sB t.name)),.sl 2 (Enc.encL t.levels),.sl 5 (J6f n t.kids)]
theorem Qqw:∀(n m:Nat)(l:List Tm),SizeOf.sizeOf l<=n->SizeOf.sizeOf l<=m->J6f n l=J6f m l|0,_,l,h,_=>by cases l <;> simp at h|_,0,l,_,h=>by cases l <;> simp at h|n+1,m+1,l,h1,h2=>by unfold J6f;refine Cy λt ht=>?_;have h3:=Po ht;have h4:=t.kids_lt;rw[Qqw n m t.kids (by omega) (by omega)]
def Ja9(l:List Tm):List (List C):=J6f (SizeOf.sizeOf l) l
def tmC(t:Tm):List C:=[.v (.int .i64 t.kind),.v (.int .i64 t.index),.v (.string (sB t.name)),.sl 2 (Enc.encL t.levels),.sl 5 (Ja9 t.kids)]
theorem DT(l:List Tm):Ja9 l=l.map tmC:=by
 unfold Ja9;have hpos:0<SizeOf.sizeOf l:=by cases l <;> simp <;> omega
 obtain⟨k,hk⟩:∃k,SizeOf.sizeOf l=k+1:=⟨SizeOf.sizeOf l-1,by omega⟩;rw[hk];unfold J6f tmC;refine Cy λt ht=>?_;have h3:=Po ht;have h4:=t.kids_lt;rw[Qqw k (SizeOf.sizeOf t.kids) t.kids (by omega) (Cl _)];rfl
instance:Enc Tm:=⟨5,tmC,Ja9,DT [],λa b=>by rw[DT,DT,DT,Ct],λx=>DT [x]⟩
structure BrF(α:Type) where
 ctor:Bs
 absurd:Bool
 tree:α
inductive Tr where
 |mk (kind:Int) (body:Tm) (var:Int) (branches:List (BrF Tr))
abbrev Br:=BrF Tr
def Tr.kind:Tr->Int|.mk k _ _ _=>k
def Tr.body:Tr->Tm|.mk _ b _ _=>b
def Tr.var:Tr->Int|.mk _ _ v _=>v
def Tr.branches:Tr->List Br|.mk _ _ _ l=>l
theorem Tr.branches_lt(t:Tr):SizeOf.sizeOf t.branches<SizeOf.sizeOf t:=by cases t;simp only[Tr.branches,Tr.mk.sizeOf_spec];omega
theorem BrF.tree_lt(b:Br):SizeOf.sizeOf b.tree<SizeOf.sizeOf b:=by cases b;simp only[BrF.mk.sizeOf_spec];omega
def J6l:Nat->List Br->List (List C)|0,_=>[]|n+1,l=>l.map λb=>[.v (.string (sB b.ctor)),.v (.bool b.absurd),.v (.int .i64 b.tree.kind),.v (.int .i64 b.tree.body.kind),.v (.int .i64 b.tree.body.index),.v (.string (sB b.tree.body.name)),.sl 2 (Enc.encL b.tree.body.levels),.sl 5 (Enc.encL b.tree.body.kids),.v (.int .i64 b.tree.var),.sl 10 (J6l n b.tree.branches)]
theorem Quu:∀(n m:Nat)(l:List Br),SizeOf.sizeOf l<=n->SizeOf.sizeOf l<=m->J6l n l=J6l m l|0,_,l,h,_=>by cases l <;> simp at h|_,0,l,_,h=>by cases l <;> simp at h|n+1,m+1,l,h1,h2=>by unfold J6l;refine Cy λt ht=>?_;have h3:=Po ht;have h4:=t.tree_lt;have h5:=t.tree.branches_lt;rw[Quu n m t.tree.branches (by omega) (by omega)]
def brL(l:List Br):List (List C):=J6l (SizeOf.sizeOf l) l
def brC(b:Br):List C:=[.v (.string (sB b.ctor)),.v (.bool b.absurd),.v (.int .i64 b.tree.kind),.v (.int .i64 b.tree.body.kind),.v (.int .i64 b.tree.body.index),.v (.string (sB b.tree.body.name)),.sl 2 (Enc.encL b.tree.body.levels),.sl 5 (Enc.encL b.tree.body.kids),.v (.int .i64 b.tree.var),.sl 10 (brL b.tree.branches)]
theorem Q0q(l:List Br):brL l=l.map brC:=by
 unfold brL;have hpos:0<SizeOf.sizeOf l:=by cases l <;> simp <;> omega
 obtain⟨k,hk⟩:∃k,SizeOf.sizeOf l=k+1:=⟨SizeOf.sizeOf l-1,by omega⟩;rw[hk];unfold J6l brC;refine Cy λt ht=>?_;have h3:=Po ht;have h4:=t.tree_lt;have h5:=t.tree.branches_lt;rw[Quu k (SizeOf.sizeOf t.tree.branches) t.tree.branches (by omega) (Cl _)];rfl
instance:Enc Br:=⟨10,brC,brL,Q0q [],λa b=>by rw[Q0q,Q0q,Q0q,Ct],λx=>Q0q [x]⟩
def Jcl(t:Tr):List C:=[.v (.int .i64 t.kind),.v (.int .i64 t.body.kind),.v (.int .i64 t.body.index),.v (.string (sB t.body.name)),.sl 2 (Enc.encL t.body.levels),.sl 5 (Enc.encL t.body.kids),.v (.int .i64 t.var),.sl 10 (Enc.encL t.branches)]
instance:Enc Tr:=⟨8,Jcl,λl=>l.map Jcl,rfl,λa b=>Ct,λ_=>rfl⟩
structure Ctr where
 name:Bs
 ty:Tm
def J9x(c:Ctr):List C:=[.v (.string (sB c.name)),.v (.int .i64 c.ty.kind),.v (.int .i64 c.ty.index),.v (.string (sB c.ty.name)),.sl 2 (Enc.encL c.ty.levels),.sl 5 (Enc.encL c.ty.kids)]
instance:Enc Ctr:=⟨6,J9x,λl=>l.map J9x,rfl,λa b=>Ct,λ_=>rfl⟩
structure Rcr where
 params:Int
 ty:Tm
 rules:List Tm
def J7d(r:Rcr):List C:=[.v (.int .i64 r.params),.v (.int .i64 r.ty.kind),.v (.int .i64 r.ty.index),.v (.string (sB r.ty.name)),.sl 2 (Enc.encL r.ty.levels),.sl 5 (Enc.encL r.ty.kids),.sl 5 (Enc.encL r.rules)]
instance:Enc Rcr:=⟨7,J7d,λl=>l.map J7d,rfl,λa b=>Ct,λ_=>rfl⟩
structure Fn where
 name:Bs
 ty:Tm
 arity:Int
 tree:Tr
def Jcq(f:Fn):List C:=[.v (.string (sB f.name)),.v (.int .i64 f.ty.kind),.v (.int .i64 f.ty.index),.v (.string (sB f.ty.name)),.sl 2 (Enc.encL f.ty.levels),.sl 5 (Enc.encL f.ty.kids),.v (.int .i64 f.arity),.v (.int .i64 f.tree.kind),.v (.int .i64 f.tree.body.kind),.v (.int .i64 f.tree.body.index),.v (.string (sB f.tree.body.name)),.sl 2 (Enc.encL f.tree.body.levels),.sl 5 (Enc.encL f.tree.body.kids),.v (.int .i64 f.tree.var),.sl 10 (Enc.encL f.tree.branches)]
instance:Enc Fn:=⟨15,Jcq,λl=>l.map Jcq,rfl,λa b=>Ct,λ_=>rfl⟩
structure Dcl where
 kind:Int
 name:Bs
 params:Int
 ty:Tm
 value:Tm
 fixed:Int
 ctors:List Ctr
 rcr:Rcr
 funs:List Fn
def J5h(d:Dcl):List C:=[.v (.int .i64 d.kind),.v (.string (sB d.name)),.v (.int .i64 d.params),.v (.int .i64 d.ty.kind),.v (.int .i64 d.ty.index),.v (.string (sB d.ty.name)),.sl 2 (Enc.encL d.ty.levels),.sl 5 (Enc.encL d.ty.kids),.v (.int .i64 d.value.kind),.v (.int .i64 d.value.index),.v (.string (sB d.value.name)),.sl 2 (Enc.encL d.value.levels),.sl 5 (Enc.encL d.value.kids),.v (.int .i64 d.fixed),.sl 6 (Enc.encL d.ctors),.v (.int .i64 d.rcr.params),.v (.int .i64 d.rcr.ty.kind),.v (.int .i64 d.rcr.ty.index),.v (.string (sB d.rcr.ty.name)),.sl 2 (Enc.encL d.rcr.ty.levels),.sl 5 (Enc.encL d.rcr.ty.kids),.sl 5 (Enc.encL d.rcr.rules),.sl 15 (Enc.encL d.funs)]
instance:Enc Dcl:=⟨23,J5h,λl=>l.map J5h,rfl,λa b=>Ct,λ_=>rfl⟩
structure Ent where
 kind:Int
 decl:Int
 item:Int
 params:Int
 ty:Tm
def J8h(e:Ent):List C:=[.v (.int .i64 e.kind),.v (.int .i64 e.decl),.v (.int .i64 e.item),.v (.int .i64 e.params),.v (.int .i64 e.ty.kind),.v (.int .i64 e.ty.index),.v (.string (sB e.ty.name)),.sl 2 (Enc.encL e.ty.levels),.sl 5 (Enc.encL e.ty.kids)]
instance:Enc Ent:=⟨9,J8h,λl=>l.map J8h,rfl,λa b=>Ct,λ_=>rfl⟩
def tm0:Tm:=.mk 0 0 [] [] []
def Jbp:Ent:=⟨0,0,0,0,tm0⟩
end
end
section
open Go.RowKit
class MK(κ:Type) extends BEq κ where
 ib:Bool
 val:κ->Value
 key:∀a,keyOf ib (val a)=true
 eq:∀a b,U5 (val a) (val b)=some (a==b)
class MV(β:Type) where
 av:β->AV
 z:β
 ren:∀ρ x,(av x).ren ρ=av x
 below:∀m x,(av x).below m
instance:MK Int:={ib:=true,val:=λn=>.int .i64 n,key:=λ_=>rfl,eq:=λ_ _=>rfl}
theorem J75(a b:List UInt8):U5 (.string (sB a)) (.string (sB b))=some (a==b):=by show some (sB a==sB b)=some (a==b);congr 1;show(a.toArray==b.toArray)=(a==b);rw[Bool.eq_iff_iff,P3,P3];exact⟨λh=>by have:=congrArg Array.toList h;simpa using this,λh=>by rw[h]⟩
instance:MK (List UInt8):={ib:=false,val:=λs=>.string (sB s),key:=λ_=>rfl,eq:=J75}
instance:MV Bool:=⟨λb=>.one (dB b),false,λ_ _=>rfl,λ_ _=>trivial⟩
instance:MV Int:=⟨λn=>.one (dI n),0,λ_ _=>rfl,λ_ _=>trivial⟩
instance:MV Ent:=⟨λe=>.agg (cE e),Jbp,λ_ _=>rfl,λm x y hy=>by obtain⟨c,-,rfl⟩:=Cx.1 hy;trivial⟩
inductive Parts(st:St):List (Nat×Operand)->List (Nat×AV)->Prop
 |nil:Parts st [] []
 |cons {i:Nat} {o:Operand} {x:AV} {ps:List (Nat×Operand)} {xs:List (Nat×AV)} (h:ev st.tm o=some (.v x)) (t:Parts st ps xs):Parts st ((i,o)::ps) ((i,x)::xs)
theorem Parts.spec{st:St}{ps:List (Nat×Operand)}{xs:List (Nat×AV)}(h:Parts st ps xs):ps.length=xs.length/\∀(j i:Nat)(x:AV),xs[j]?=some (i,x)->∃o,ps[j]?=some (i,o)/\ev st.tm o=some (.v x):=by induction h with|nil=>exact⟨rfl,λj i x hx=>by simp at hx⟩|cons h t ih=>refine⟨by simp[ih.1],λj i x hx=>?_⟩;cases j with|zero=>(simp at hx;obtain⟨rfl,rfl⟩:=hx;exact⟨_,rfl,h⟩)|succ j=>exact ih.2 j i x (by simpa using hx)
section
variable{E:Env}{st:St}{dd:Option Tmp}{ty:TypeId}{pos:String}{af:Array Edge}{g:Option (Nat×Bool)}
theorem Q2k{t:TypeId}{pl:List (Nat×Nat)}{zs:List Value}{parts:Array (Nat×Operand)}{avs:List (Nat×AV)}{ys:List CA}(ht:YA E.P t pl zs)(hz:zs.all (·.oneCell')=true)(hp:Parts st parts.toList avs)(hf:Gz pl (zs.map λz=>.d (.v z)) avs=some ys):RO E ⟨dd,.build t parts,ty,pos,af,g⟩ st (.v (.agg ys)):=XO ht hz hp.spec.1 hp.spec.2 hf
end
end
section
open Go.RowKit
instance:EncLen Tm:=⟨λt=>by cases t;rfl,Pu 4⟩
instance:EncLen Br:=⟨λt=>by cases t;rfl,Pu 9⟩
instance:EncLen Tr:=⟨λt=>rfl,Pu 7⟩
instance:EncLen Ctr:=⟨λt=>rfl,Pu 5⟩
instance:EncLen Rcr:=⟨λt=>rfl,Pu 6⟩
instance:EncLen Fn:=⟨λt=>rfl,Pu 14⟩
instance:EncLen Dcl:=⟨λt=>rfl,Pu 22⟩
instance:EncLen Ent:=⟨λt=>rfl,Pu 8⟩
instance:EncLen (List UInt8):=⟨λ_=>rfl,Pu 0⟩
instance:EncLen Bool:=⟨λ_=>rfl,Pu 0⟩
instance{α:Type}[Enc α]:EncLen (List α):=⟨λ_=>rfl,Pu 0⟩
section
variable{E:Env}{st:St}{dd:Option Tmp}{ty:TypeId}{pos:String}{af:Array Edge}{g:Option (Nat×Bool)}{α:Type}[Enc α][EncLen α]
theorem Yf{t i:Nat}{T:TypeId}{x:Operand}(v:α)(ht:Jw E.P t=some (true,Enc.sz α))(hx:ev st.tm x=some (.v (.one (.ptr i 0))))(hi:lk st.hp i=some (.cells T (cE v))):RO E ⟨dd,.load t x,ty,pos,af,g⟩ st (.v (.agg (cE v))):=by
 have hl:(cE v).length=Enc.sz α:=by rw[Co,EncLen.len]
 exact JX ht hx hi (by rw[Pp,PM (Pc hl)]) hl
theorem JV{t:Nat}{x:Operand}(v:α)(ht:Jw E.P t=some (true,Enc.sz α))(hx:ev st.tm x=some (.v (.one (.pel (Enc.enc v) 0)))):RO E ⟨dd,.load t x,ty,pos,af,g⟩ st (.v (.agg (cE v))):=D8 ht hx (by rw[Pp,PM (Pc (EncLen.len v))]) (EncLen.len v)
theorem Zd{t i:Nat}{ag:Bool}{T:TypeId}{xs:List CA}{o1 o2:Operand}(v:α)(ht:Jw E.P t=some (ag,Enc.sz α))(h1:ev st.tm o1=some (.v (.one (.ptr i 0))))(h2:ev st.tm o2=some (.v (.agg (cE v))))(hi:lk st.hp i=some (.cells T xs))(hl:xs.length=Enc.sz α)(hdd:dd=none):OpOK E ⟨dd,.store t o1 o2,ty,pos,af,g⟩ st (.tup []) ⟨(i,.cells T (cE v))::QT i st.hp,st.tk,st.nx⟩:=by
 have hc:(AV.agg (cE v)).cells.length=Enc.sz α:=by show(cE v).length=_;rw[Co,EncLen.len]
 have:=Qz (dd:=dd) (ty:=ty) (pos:=pos) (af:=af) (g:=g) ht h1 h2 hi hc (by omega) hdd;have e1:setL xs 0 (AV.agg (cE v)).cells=cE v:=by have:=Q5e (AV.agg (cE v)).cells xs [] (by rw[hc,hl]);rw[CC,CC]at this;exact this
 rw[e1]at this;exact this
end
end
section
open Go.RowKit
structure SwInv(E:Env)(ops:Array Oper)(st:St)(fx:List (Nat×TV))(effs:List Nat)(dns:List (List Nat))(ms:List Mem)(listed:Array Bool)(a:Act)(w:World)(V:Vu)(j:Nat)(d:List Nat)(m:Mem):Prop where
 size:listed.size=ops.size
 closed:∀i,listed.getD i false=true->∀k∈QM ops i,listed.getD k false=true
 stage:dns[j]?=some d
 done:∀e∈d,listed.getD e false=true
 todo:∀e∈effs,e∉d->listed.getD e false=false
 mem:ms[j]?=some m
 rel:Rel E V ⟨Ud (JG ops) st.tm,m.hp,m.tk,m.nx,st.nt,st.df⟩ a w
 fact:∀i,listed.getD i false=true->∀d x,Jz ops i=some d->lk fx i=some x->x.rel V w (a.tmps.getD d undef)
 old:∀t x,lk st.tm t=some x->(∀k,Jz ops k=some t->listed.getD k false=false)->x.rel V w (a.tmps.getD t undef)
end
section
open Go.RowKit
section
variable{E:Env}{st:St}{dd d:Option Tmp}{ty:TypeId}{pos:String}{af:Array Edge}{g:Option (Nat×Bool)}
theorem Qq2{t n sz i off:Nat}{x y:Operand}{m:Int}(ht:Q52 E.P t=some (n,sz))(hx:ev st.tm x=some (.v (.one (.ptr i off))))(hy:ev st.tm y=some (TI m))(hm:(cond (decide (0<=m)) (Nat.blt m.toNat n) false)=true):RO E ⟨d,.indexAddr t x y,ty,pos,af,g⟩ st (.v (.one (.ptr i (off+m.toNat*sz)))):=Q7o ht hx hy (Pl (CF (J9 hm))).symm (Uh (J5 hm))
theorem HRel.skip{V:Vu}{hp:List (Nat×HB)}{tk:List (Nat×Option Tok)}{w:World}(h:HRel E V hp tk w)(N:Nat)(hN:V.nx<=N):HRel E {V with nx:=N} hp tk w/\V.Le {V with nx:=N} w w:=by have hle:V.Le {V with nx:=N} w w:=⟨hN,λ_ _=>rfl,λ_ _=>Cl _,λ_ _ _ _=>rfl,λ_ _ h=>h,λ_ _ _=>rfl,λ_ _ _ _ h=>h⟩;refine⟨⟨h.ext,h.le0.trans hle,h.sz,h.sub,λi B hi=>?_,h.inj,h.new,λi T hi=>?_,h.tki⟩,hle⟩;obtain⟨h1,o,h2,h3⟩:=h.own i B hi;exact⟨Ci h1 hN,o,h2,h3.mono hle⟩;obtain⟨h1,h2⟩:=h.tok i T hi;exact⟨Ci h1 hN,h2⟩
theorem Qps{e_:Exit}{Q:Exit->Act->World->Prop}(N:Nat)(hN:st.nx<=N)(k:XQ E Q e_ ⟨st.tm,st.hp,st.tk,N,st.nt,st.df⟩):XQ E Q e_ st:=λV a w hr=>by obtain⟨H,L⟩:=hr.h.skip N (by rw[hr.nx];exact hN);exact k _ a w ⟨H,Z,hr.nt,hr.df.le L,λt x hx=>(hr.tm t x hx).mono L⟩
theorem Qpu{e_:Exit}{Q:Exit->Act->World->Prop}{t:Nat}(e sz:Nat)(h:lk st.tm t=some (Gh (.slice none 0 0)))(k:XQ E Q e_ ⟨(t,.v (.one (.app st.nx sz [])))::st.tm,st.hp,(st.nx,some ⟨e,sz,0,[]⟩)::st.tk,st.nx+1,st.nt,st.df⟩):XQ E Q e_ st:=by intro V a w hr;obtain⟨H,L⟩:=hr.h.tokNil e sz;refine k (V.tok V.nx 0 (.slice none 0 0) 0 0) a w ⟨by dsimp only;rw[<-hr.nx];exact H,?_,hr.nt,hr.df.le L,λt' x hx=>?_⟩;show max V.nx (V.nx+1)=st.nx+1;rw[hr.nx];omega;dsimp only at hx;rw[Q8]at hx;split at hx;rename_i e1;subst e1;cases hx;have:=J8 (hr.tm _ _ h);rw[this,<-hr.nx];exact KJ e sz;exact(hr.tm t' x hx).mono L
theorem Qpv{e_:Exit}{Q:Exit->Act->World->Prop}{i off:Nat}{T:TypeId}{xs:List CA}(e sz:Nat)(hi:lk st.hp i=some (.cells T xs))(hx:xs[off]?=some (.d (.v (.slice none 0 0))))(k:XQ E Q e_ ⟨st.tm,(i,.cells T (xs.set off (.app st.nx sz [])))::st.hp,(st.nx,some ⟨e,sz,0,[]⟩)::st.tk,st.nx+1,st.nt,st.df⟩):XQ E Q e_ st:=by
 intro V a w hr;obtain⟨H,L⟩:=hr.h.tokNil e sz;have hnx:(V.tok V.nx 0 (.slice none 0 0) 0 0).nx=st.nx+1:=by show max V.nx (V.nx+1)=_;rw[hr.nx];omega
 have hl:∀(A:HB) j,j≠i->lk ((i,A)::st.hp) j=lk st.hp j:=λA j hj=>by rw[Q8,Ca (λh=>hj h.symm)]
 obtain⟨hb,o,ho,vs,hvo,hvs⟩:=H.own i _ hi;have hcell:(xs[off]?).isSome:=by rw[hx];rfl
 obtain⟨u,hu,hur⟩:=hvs.2 off _ hx;have hu0:u=.slice none 0 0:=by cases hur;rfl
 refine k _ a w ⟨?_,hnx,hr.nt,hr.df.le L,λt' x hx=>(hr.tm t' x hx).mono L⟩;have H':=H;rw[hr.nx]at H';refine⟨H.ext,H.le0,H.sz,H.sub,?_,?_,?_,?_,?_⟩;intro j B hj;dsimp only at hj;by_cases e1:j=i;subst e1;rw[Q8,Cf rfl]at hj;cases hj;refine⟨hb,o,ho,vs,hvo,by rw[S7];exact hvs.1,λm y hy=>?_⟩;rw[Sb]at hy;split at hy;rename_i e2;subst e2;split at hy;cases hy;exact⟨u,hu,by rw[hu0,<-hr.nx];exact KJ e sz⟩;cases hy;exact hvs.2 m y hy;rw[hl _ j e1]at hj;exact H.own j B hj;intro j m A B hj hm e1;dsimp only at hj hm;rw[Q8]at hj hm;split at hj <;> split at hm;rename_i a1 a2;exact a1.symm.trans a2;rename_i a1 a2;subst a1;exact H.inj _ _ _ _ hi hm e1;rename_i a1 a2;subst a2;exact H.inj _ _ _ _ hj hi e1;exact H.inj _ _ _ _ hj hm e1;intro j B hj;dsimp only at hj;rw[Q8]at hj;split at hj;rename_i a1;subst a1;exact H.new _ _ hi;exact H.new _ _ hj;intro j T' hj;rw[<-hr.nx]at hj;obtain⟨b1,b2,ys,b3,b4⟩:=H.tok j T' hj;refine⟨b1,b2,ys,b3,λg' hg'=>⟨(b4 g' hg').1,(b4 g' hg').2.1,λm B hm=>?_⟩⟩;dsimp only at hm;rw[Q8]at hm;split at hm;rename_i a1;subst a1;exact(b4 g' hg').2.2 _ _ hi;exact(b4 g' hg').2.2 _ _ hm;intro j m T' U g' hj hm;rw[<-hr.nx]at hj hm;exact H.tki j m T' U g' hj hm
end
end
section
open Go.RowKit
structure Byt where
 n:Int
def Byt.u8(b:Byt):UInt8:=UInt8.ofNat b.n.toNat
def bytC(b:Byt):List C:=[.v (.int .u8 b.n)]
instance:Enc Byt:=⟨1,bytC,λl=>l.map bytC,rfl,λa b=>Ct,λ_=>rfl⟩
instance:EncLen Byt:=⟨λ_=>rfl,by decide⟩
theorem Qat{P:Program}{s:TypeId}(h:Q4a P s=true):∃e,P.underlying s=some (.slice e)/\P.underlying e=some (.int .u8):=by unfold Q4a at h;split at h;rename_i e he;split at h;rename_i h2;exact⟨e,he,h2⟩;cases h;cases h
section
variable{E:Env}{st:St}{d:Option Tmp}{ty:TypeId}{pos:String}{af:Array Edge}{g:Option (Nat×Bool)}
theorem Qq6{s t:TypeId}{x:Operand}{y:CA}{l:List Byt}(hs:Q4a E.P s=true)(ht:JS E.P t=true)(hx:ev st.tm x=some (.v (.one y)))(hl:SlOf y 1 (Enc.encL l)):RO E ⟨d,.convert s t x,ty,pos,af,g⟩ st (TS (l.map Byt.u8)):=by
 refine⟨(λ_ h=>nomatch h),λV a w hr=>⟨.string (sB (l.map Byt.u8)),?_,Jl Z⟩⟩;obtain⟨e,h1,h2⟩:=Qat hs;have h3:E.P.underlying t=some .string:=by unfold JS at ht;split at ht;rename_i h;exact h;cases ht
 have hR:=hl.reads (hr.ev hx);have key:(convert s t (a.eval x)).run E.P w=.ok (.string (sB (l.map Byt.u8))) w:=by generalize hv:a.eval x=v at hR;(have hle:∀es:List (List C),es=Enc.encL l->Reads V.S w (.sl 1 es) v->(convert s t v).run E.P w=.ok (.string (sB (l.map Byt.u8))) w:=by intro es hes hR;cases hR with|sl _ _ ad cap b off f hcap ha hln hc _ hr'=>(have hlen:es.length=l.length:=by rw[hes,Enc.len]);(have cells:∀i,i<l.length->w.cell? ⟨b,off+i,none⟩=some (.int .u8 ((l.map Byt.n).getD i 0)):=λi hi=>by(have hg:es[i]?=some [.v (.int .u8 (l[i]).n)]:=by rw[hes];exact Enc.get (Cm hi));have c1:=hc i _ 0 _ hg rfl;have c2:=hr' i _ 0 _ hg rfl;generalize hf:f i 0=u at c1 c2;cases c2;rw[show off+i*1+0=off+i by omega]at c1;rw[c1];simp[List.getD,hi]);by_cases h0:es=[];have hl0:l=[]:=Cz (by rw[<-hlen,h0];rfl);subst hl0;rw[h0];rw[run_convert_bytes_string w s t e ad _ cap h1 h2 h3];(cases ad with|none=>simp[Conv.bytesToString];rfl|some ad=>rw[run_bytesToString w ad _ cap [] (by have:=run_loadCells_list (P:=E.P) w ad [] (λj v hj=>by simp at hj);simpa using this)];rfl);rw[ha h0,hlen];rw[run_convert_bytes_arg w s e h1 h2 b off l.length cap (l.map Byt.n) (by simp) cells t h3];congr 2;unfold strOfNums sB;rw[CL];rfl);exact hle _ Z hR
 simp only[execOp,Sem.run_bind,key,Result.andThen_ok];rfl
end
end
section
open Go.RowKit
section
variable{E:Env}{st:St}{dd:Option Tmp}{ty:TypeId}{pos:String}{af:Array Edge}{g:Option (Nat×Bool)}
theorem Qk5{t b m0 sz f:Nat}{T:TypeId}{xs:List CA}{x:Operand}{col:List Int}{m v:Int}(ht:Jw E.P t=some (false,m0))(hx:ev st.tm x=some (.v (.one (.ptr b (0+m.toNat*sz+f)))))(hb:lk st.hp b=some (.cells T xs))(hc:(List.range col.length).map (λj=>xs[j*sz+f]?)=col.map λn=>some (dI n))(hv:QP col m=some v):RO E ⟨dd,.load t x,ty,pos,af,g⟩ st (TI v):=by obtain⟨k,rfl,hk⟩:=Qpc hv;have h1:=congrArg (λl:List (Option CA)=>l[k]?) hc;have hlt:=(Ce.1 hk).1;rw[Cn,Cn,List.getElem?_range hlt,hk]at h1;have h2:=Cw h1;refine Q6 (y:=dI v) ht hx hb ?_;rw[Cu,Pd];exact h2
end
section
variable{E:Env}{st:St}{dd:Option Tmp}{ty:TypeId}{pos:String}{af:Array Edge}{g:Option (Nat×Bool)}
theorem Qd4{f:FuncId}{o1 o2 o3:Operand}{i1 k1 i2 k2 i3 k3:Nat}{dd:Option Tmp}(h1:ev st.tm o1=some (.v (.one (.ptr i1 k1))))(h2:ev st.tm o2=some (.v (.one (.ptr i2 k2))))(h3:ev st.tm o3=some (.v (.one (.ptr i3 k3)))):RO E ⟨dd,.makeFunc (.func f) #[] #[o1,o2,o3],ty,pos,af,g⟩ st (.v (.one (.fn f [(i1,k1),(i2,k2),(i3,k3)]))):=
 Ul rfl (λk p hk=>by
  match k,hk with
  |0,hk=>cases hk;exact⟨o1,rfl,h1⟩
  |1,hk=>cases hk;exact⟨o2,rfl,h2⟩
  |2,hk=>cases hk;exact⟨o3,rfl,h3⟩)
end
end
section
open Go.RowKit
def Ja6(P:Program)(f:FuncId)(args:List AV)(m:Mem)(pv:Value)(m':Mem):Prop:=Qd P f/\∀(E:Env)(V:Vu)(w:World)(vs:Array Value),E.P=P->HRel E V m.hp m.tk w->V.nx=m.nx->argsRel V w args vs -> Calls P f vs w λe w'=>∃V',e=.panicked (Kz pv)/\HRel E V' m'.hp m'.tk w'/\V'.nx=m'.nx/\V.Le V' w w'
inductive EK where
 |ret (xs:List AV)
 |pan (v:Value)
def CallE(P:Program)(f:FuncId)(args:List AV)(m:Mem)(k:EK)(m':Mem):Prop:=match k with|.ret xs=>CallM P f args m (Qj xs) m'|.pan v=>Ja6 P f args m v m'
def EK.ok(P:Program)(st:St)(rs:List ResultVar):EK->Prop|.ret xs=>RAs P st rs xs|.pan _=>True
def EK.by:EK->Exit->Prop|.ret _,e=>e=.normal\/e=.ret|.pan v,e=>e=.panic (Kz v)
theorem Jas{xs:List AV}:EK.by (.ret xs) .ret:=.inr rfl
theorem Jcn{P:Program}{st:St}{rs:List ResultVar}{xs:List AV}(h:RAs P st rs xs):EK.ok P st rs (.ret xs):=h
theorem CallE.m{P:Program}{f:FuncId}{args:List AV}{m m':Mem}{xs:List AV}(h:CallE P f args m (.ret xs) m'):CallM P f args m (Qj xs) m':=h
theorem J6y{α β γ δ:Type}(ι:α⊕β->δ){o:Option δ}{y:α⊕β}{f:α->Option γ}{g:β->Option γ}{r:γ}{G:Prop}(ho:o=some (ι y))(h:Sum.elim f g y=some r)(k1:∀a,o=some (ι (.inl a))->f a=some r->G)(k2:∀b,o=some (ι (.inr b))->g b=some r->G):G:=by cases y with|inl a=>exact k1 a ho h|inr b=>exact k2 b ho h
def OpD(E:Env)(o:Oper)(st:St)(pv:Value)(m:Mem):Prop:=∀V a w,Rel E V st a w->∀(ro:Option Nat)(n:Nat)(K:Act->World->Prop)(Q:Exit->Act->World->Prop),(∀V' w',HRel E V' m.hp m.tk w'->V'.nx=m.nx->V.Le V' w w'->Q (.panic (Kz pv)) a w')->o.wpIn (FR ro) n E.P a w K Q
section
variable{E:Env}{ro:Option Nat}{n:Nat}{ops:Array Oper}{Q:Exit->Act->World->Prop}{rest:List Oper}{st:St}{o:Oper}{x:TV}{d dd:Option Tmp}{ty:TypeId}{pos:String}{af:Array Edge}{g:Option (Nat×Bool)}
theorem Qvb{pv:Value}{hp:List (Nat×HB)}{tk:List (Nat×Option Tok)}{nx:Nat}(hg:QQ ops st.tm o=some true)(ho:OpD E o st pv ⟨hp,tk,nx⟩)(k:XQ E Q (.panic (Kz pv)) ⟨st.tm,hp,tk,nx,st.nt,st.df⟩):XL E ro n ops Q (o::rest) st:=by intro V a w h;unfold wpListIn;rw[Cf (Z9 h hg)];exact ho V a w h ro n _ Q (λV' w' H hn L=>k V' a w' (h.mem H hn L))
theorem DieOp.mk{fx:List (Nat×TV)}{i:Nat}{m m':Mem}{pv:Value}(ho:ops[i]?=some o)(hw:QQ ops (QI ops st fx i m).tm o=some true)(h:OpD E o (QI ops st fx i m) pv m')(k:XQ E Q (.panic (Kz pv)) ⟨(QI ops st fx i m).tm,m'.hp,m'.tk,m'.nx,st.nt,st.df⟩):DieOp E Q ops st fx i m:=⟨o,ho,hw,λV a w hr ro n K=>h V a w hr ro n K Q (λV' w' H hn L=>k V' a w' (hr.mem H hn L))⟩
theorem OpD.panic{x:Operand}{v:Value}{T:TypeId}(hx:ev st.tm x=some (Gh (.iface T v))):OpD E ⟨dd,.panic x,ty,pos,af,g⟩ st (.iface T v) st.mem:=by
 intro V a w hr ro n K Q hK;refine⟨λ_ _=>trivial,?_⟩;rw[Oper.semAt_eq _ _ _ (by intro c h;cases h)];have h1:=J8 (hr.ev hx);have h2:(execOp a.eval ⟨dd,.panic x,ty,pos,af,g⟩).run E.P w=.halt (.panic (.iface T v)) w:=by simp[execOp,Instr.panic,h1,goPanic]
 rw[h2];exact hK V w hr.h hr.nx (Vu.Le.refl _ _)
end
theorem U2{E:Env}{hp:List (Nat×HB)}{tk:List (Nat×Option Tok)}{F:Fence}{n:Nat}{P:Program}{fn:Func}{tmps:Array Value}{R:Ending->World->Prop}{u:FrameMode}(hu:u ≠ .run){rest:List Deferred}:∀(bs:List Nat)(w:World)(V:Vu),HRel E V hp tk w->bs.Nodup -> (∀b∈bs,V.S b 0/\w.heap[b]?=some (.deferred (some []))/\∀o,¬E.V0.S b o) -> (∀w' V',HRel E V' hp tk w'->V'.nx=V.nx->V'.ι=V.ι->V.Lx V' w w'->(∀b o,b∉bs->V.S b o->V'.S b o)->(∀b,b∉bs->w'.heap[b]?=w.heap[b]?)->LeavesInM F n P fn tmps R rest u w') -> LeavesInM F n P fn tmps R (bs.map (λb=>{target:=.collected b,args:=#[]})++rest) u w|[],w,V,h,_,_,hK=>hK w V h rfl rfl (Vu.Lx.refl _ _) (λ_ _ _ h=>h) (λ_ _=>rfl)|b::bs,w,V,h,hn,hb,hK=>by obtain⟨h1,h2,h3⟩:=hb b (by simp);obtain⟨h4,h5⟩:=CX.1 hn;obtain⟨H,L⟩:=h.take h1 h2 h3;refine⟨hu,.inl ⟨b,_,Z,run_takeDeferred h2,?_⟩⟩;refine U2 hu bs _ _ H h5 (λb' hb'=>?_) (λw' V' hw' hn' hι' L' hS' hh'=>hK w' V' hw' hn' hι' (L.trans L') (λb' o hm hs=>hS' b' o (λh=>hm (by simp[h])) ⟨hs,λe=>hm (by simp[e])⟩) (λb' hm=>(hh' b' (λh=>hm (by simp[h]))).trans (World.putObj_heap_other (λe=>hm (by simp[e])))));obtain⟨h6,h7,h8⟩:=hb b' (by simp[hb']);have hne:b'≠b:=λe=>h4 (by rw[<-e];exact hb');exact⟨⟨h6,hne⟩,(World.putObj_heap_other hne).trans h7,h8⟩
theorem Ds{E:Env}{V:Vu}{st:St}{a:Act}{w:World}(hr:Rel E V st a w)(hd:st.df=[]){F:Fence}{n:Nat}{P:Program}{fn:Func}{tmps:Array Value}{R:Ending->World->Prop}{ch:List PanicEntry}(hK:∀w' V',HRel E V' st.hp st.tk w'->V'.nx=V.nx->V.Lx V' w w'->R (.panicked ch) w'):LeavesInM F n P fn tmps R a.defers (.panicking ch) w:=by obtain⟨bs,h1,h2,h3⟩:=hr.df.of_nil hd;rw[h1,<-CC (List.map _ bs)];exact U2 (by simp) bs w V hr.h h2 h3 (λw' V' H hn hι L _ _=>hK w' V' H hn L)
theorem Q8e{P:Program}{f:FuncId}{fn:Func}{c:Code}{args:List AV}{m:Mem}{Y:Type}(y:Y)(stf:Y->St)(kf:Y->EK)(hf:P.funcs[f]?=some fn)(hb:fn.body=some c)(hen:Qd P f)(hnt:args.length<=fn.ntmps)(hdf:∀y,(stf y).df=[])(hres:∀y,(kf y).ok P (stf y) fn.results.toList)(h:∀(w0:World)(M:Nat->Prop)(V0:Vu)(Q:Exit->Act->World->Prop),V0.nx<=m.nx -> (∀(e:Exit)(st':St),(kf y).by e->st'.df=[]->StLe ⟨P,w0,M,V0⟩ st' (stf y)->XQ ⟨P,w0,M,V0⟩ Q e st')->XC ⟨P,w0,M,V0⟩ none 0 Q c ⟨J4 0 args,m.hp,m.tk,m.nx,fn.ntmps,[]⟩)(hP0:P=prog:=by rfl):CallE P f args m (kf y) ⟨(stf y).hp,(stf y).tk,(stf y).nx⟩:=by have hd:=hdf y;have hr:=hres y;generalize stf y=st1 at hd hr h⊢;cases hk:kf y with|ret xs=>rw[hk]at hr;refine QF st1 hf hb hen hnt hd hr (λw0 M V0 Q hv hQ=>h w0 M V0 Q hv (λe st' he hdf' hle=>?_)) hP0;rw[hk]at he;exact hQ e st' st'.hp he (by rw[hdf'];rfl) (by cases st';dsimp only at hdf';subst hdf';exact hle)|pan pv=>refine⟨hen,λE V w vs hP H hn hargs=>?_⟩;refine(callsIn_wide (n:=0)).1 (K3 (F:=Fence.wide) (Q2p hP0 hf) hf hb trivial ?_);(have hR0:Rel (E.at V w) V ⟨J4 0 args,m.hp,m.tk,m.nx,fn.ntmps,[]⟩ {tmps:=vs++Array.replicate (fn.ntmps-vs.size) undef,defers:=[]} w:=by refine⟨H.rebase,hn,by simp[hargs.1];omega,dfRel.nil,λt x hx=>?_⟩;obtain⟨k,y,h1,h2,rfl⟩:=Xw args 0 t x hx;obtain⟨u,hu,hy⟩:=hargs.2 k y h2;have hk:k<vs.size:=(CP.1 hu).1;(have:(vs++Array.replicate (fn.ntmps-vs.size) undef).getD t undef=u:=by rw[show t=k by omega,P8,P9 hk,hu];rfl);rw[this];exact hy);(have hgo:∀E':Env,E'=E.at V w->E'.P=P->E'.V0=V->XC E' none 0 (bodyPostM Fence.wide 0 P fn (λe w'=>∃V',e=.panicked (Kz pv)/\HRel E V' st1.hp st1.tk w'/\V'.nx=st1.nx/\V.Le V' w w')) c ⟨J4 0 args,m.hp,m.tk,m.nx,fn.ntmps,[]⟩:=by rintro⟨P',w0,M,V0⟩ he hP' hV';dsimp only at hP' hV';subst hP';refine h w0 M V0 _ (by rw[hV',hn];exact Cl _) ?_;intro e st' hby hdf' hle;rw[hk]at hby;cases(show e=.panic (Kz pv)from hby);intro V1 a1 w1 hr1;rw[he]at hr1 hle;obtain⟨V2,hr2⟩:=hr1.less hle;refine Ds hr2 hd (λw' V' H' hn' L'=>?_);obtain⟨H5,L5⟩:=H.back H';exact⟨V',Z,H5,hn'.trans hr2.nx,L5⟩);have:=hgo (E.at V w) rfl hP rfl V _ w hR0;rw[show(E.at V w).P=P from hP]at this;exact this
end
section
open Go.RowKit
noncomputable section
structure Use where
 index:Bool
 name:Bool
 levels:Int
 kids:Int
 below:Int
def J6s(u:Use):List C:=[.v (.bool u.index),.v (.bool u.name),.v (.int .i64 u.levels),.v (.int .i64 u.kids),.v (.int .i64 u.below)]
instance:Enc Use:=⟨5,J6s,λl=>l.map J6s,rfl,λa b=>Ct,λ_=>rfl⟩
instance:EncLen Use:=⟨λ_=>rfl,by decide⟩
structure Scp where
 vars:Int
 params:Int
 metas:Int
 levels:Int
def J74(u:Scp):List C:=[.v (.int .i64 u.vars),.v (.int .i64 u.params),.v (.int .i64 u.metas),.v (.int .i64 u.levels)]
instance:Enc Scp:=⟨4,J74,λl=>l.map J74,rfl,λa b=>Ct,λ_=>rfl⟩
instance:EncLen Scp:=⟨λ_=>rfl,by decide⟩
end
section
variable{E:Env}{st:St}{d:Option Tmp}{ty:TypeId}{pos:String}{af:Array Edge}{g:Option (Nat×Bool)}
def Qh3(P:Program)(t:TypeId):Option (Nat×Nat):=match P.underlying t with|some (.array n e)=>(match Jw P e with|some (true,sz)=>some (n,sz)|_=>none)|_=>none
theorem Q3o{α:Type}[Enc α][EncLen α]{t n:Nat}{x y:Operand}{xs:List CA}{tbl:List α}{m:Int}{v:α}(ht:Qh3 E.P t=some (n,Enc.sz α))(hx:ev st.tm x=some (.v (.agg xs)))(hxs:xs=Q6l tbl)(hn:Nat.beq tbl.length n=true)(hy:ev st.tm y=some (TI m))(hv:QP tbl m=some v):RO E ⟨d,.index t x y,ty,pos,af,g⟩ st (.v (.agg (cE v))):=by
 refine⟨(λ_ h=>nomatch h),λV a w hr=>?_⟩;obtain⟨k,rfl,hk⟩:=Qpc hv;obtain⟨vs,h1,h2,h3⟩:=hr.ev hx;subst hxs;have hlt:k<tbl.length:=(Ce.1 hk).1;have hn':=Cc hn;unfold Qh3 at ht;split at ht;rename_i n' e hu;split at ht;rename_i sz ha;cases ht;obtain⟨h4,h5⟩:=Kd ha w;have hsz:vs.size=tbl.length*Enc.sz α:=by rw[h2,Qpd]
 refine⟨.agg (vs.extract (k*Enc.sz α) (k*Enc.sz α+Enc.sz α)),?_,_,Z,?_,λi c hc=>?_⟩;have h6:(k:Int)<(n:Int):=by omega
 have h7:¬n<=k:=by omega
 simp[execOp,Instr.index,h1,J8 (hr.ev hy),asIntOf,run_underlying hu,part,h4,h5,h6,h7];have:k*Enc.sz α+Enc.sz α<=vs.size:=by rw[hsz,<-Sw];exact Pq _ hlt
 rw[Array.size_extract,Co,EncLen.len];omega;have hi:i<Enc.sz α:=by have:=(Ce.1 hc).1;rw[Co,EncLen.len]at this;exact this
 have hc':(Q6l tbl)[k*Enc.sz α+i]?=some c:=by rw[Qpe hk hi,<-Cn];exact hc
 obtain⟨u,h6,h7⟩:=h3 _ c hc';refine⟨u,?_,h7⟩;rw[Array.getElem?_extract];have:k*Enc.sz α+Enc.sz α<=vs.size:=by rw[hsz,<-Sw];exact Pq _ hlt
 rw[Cf (by omega)];exact h6;cases ht;cases ht
end
end
section
open Go.RowKit
noncomputable section
structure Rsc where
 env:List Dcl
 own:List (List UInt8)
 d:Dcl
def J77(s:Rsc):List C:=.sl 23 (Enc.encL s.env)::.sl 1 (Enc.encL s.own)::J5h s.d
instance:Enc Rsc:=⟨25,J77,λl=>l.map J77,rfl,λa b=>Ct,λ_=>rfl⟩
instance:EncLen Rsc:=⟨λ_=>rfl,by decide⟩
end
section
variable{E:Env}{st:St}{dd:Option Tmp}{ty:TypeId}{pos:String}{af:Array Edge}{g:Option (Nat×Bool)}
theorem Xh{t i n:Nat}{ag:Bool}{T:TypeId}{xs ys:List CA}{o1 o2:Operand}(ht:Jw E.P t=some (ag,n))(h1:ev st.tm o1=some (.v (.one (.ptr i 0))))(h2:ev st.tm o2=some (.v (.agg ys)))(hi:lk st.hp i=some (.cells T xs))(hl:ys.length=n)(hx:xs.length=n)(hdd:dd=none):OpOK E ⟨dd,.store t o1 o2,ty,pos,af,g⟩ st (.tup []) ⟨(i,.cells T ys)::QT i st.hp,st.tk,st.nx⟩:=by
 have:=Qz (dd:=dd) (ty:=ty) (pos:=pos) (af:=af) (g:=g) ht h1 h2 hi hl (by omega) hdd;have e1:setL xs 0 (AV.agg ys).cells=ys:=by have:=Q5e ys xs [] (by omega);rw[CC,CC]at this;exact this
 rw[e1]at this;exact this
variable{α:Type}[Enc α][EncLen α]
end
end
section
open Go.RowKit
structure Tkn where
 text:Bs
 at_:Int
def J6t(t:Tkn):List C:=[.v (.string (sB t.text)),.v (.int .i64 t.at_)]
instance:Enc Tkn:=⟨2,J6t,λl=>l.map J6t,rfl,λa b=>Ct,λ_=>rfl⟩
instance:EncLen Tkn:=⟨λ_=>rfl,by decide⟩
structure Rdr where
 l:List Tkn
 n:Int
def J7b(t:Rdr):List C:=[.sl 2 (Enc.encL t.l),.v (.int .i64 t.n)]
instance:Enc Rdr:=⟨2,J7b,λl=>l.map J7b,rfl,λa b=>Ct,λ_=>rfl⟩
instance:EncLen Rdr:=⟨λ_=>rfl,by decide⟩
structure RRd where
 s:Bs
 at_:Int
 bad:Bool
def J78(t:RRd):List C:=[.v (.string (sB t.s)),.v (.int .i64 t.at_),.v (.bool t.bad)]
instance:Enc RRd:=⟨3,J78,λl=>l.map J78,rfl,λa b=>Ct,λ_=>rfl⟩
instance:EncLen RRd:=⟨λ_=>rfl,by decide⟩
structure RWr where
 s:Bs
 e:Int
def J76(t:RWr):List C:=[.v (.string (sB t.s)),.v (.int .i64 t.e)]
instance:Enc RWr:=⟨2,J76,λl=>l.map J76,rfl,λa b=>Ct,λ_=>rfl⟩
instance:EncLen RWr:=⟨λ_=>rfl,by decide⟩
structure LRd where
 s:Bs
 at_:Int
 bad:Bool
 e:Int
def J7v(t:LRd):List C:=[.v (.string (sB t.s)),.v (.int .i64 t.at_),.v (.bool t.bad),.v (.int .i64 t.e)]
instance:Enc LRd:=⟨4,J7v,λl=>l.map J7v,rfl,λa b=>Ct,λ_=>rfl⟩
instance:EncLen LRd:=⟨λ_=>rfl,by decide⟩
structure Rfd where
 e:Int
 at_:Int
def J79(t:Rfd):List C:=[.v (.int .i64 t.e),.v (.int .i64 t.at_)]
instance:Enc Rfd:=⟨2,J79,λl=>l.map J79,rfl,λa b=>Ct,λ_=>rfl⟩
instance:EncLen Rfd:=⟨λ_=>rfl,by decide⟩
end
end
end Go.Proofs.YtjcfppnjamjjhaaGreatDoor
namespace Go.Proofs
open Go.Proofs.Tryz
noncomputable section
section
open Go.Shelf
def Q2e:Go.Shelf.Ren:=⟨λ|171=>62|243=>113|246=>138|283=>159|284=>160|285=>161|286=>162|129=>191|317=>190|318=>192|319=>193|320=>194|337=>212|338=>213|n=>n,λ|3=>3|9=>9|2=>2|4=>4|171=>194|0=>0|53=>195|37=>60|5=>5|173=>198|212=>230|51=>231|20=>20|213=>232|46=>234|232=>260|233=>261|n=>n,λ|17=>0|18=>4|19=>5|n=>n⟩
theorem Qcv:Go.Proofs.LaysM.n171 prog Q2e:={
 mixed:=by kernel_rfl
 f129:=Ly func191 (by kernel_rfl)
 f171:=Ly func62 (by kernel_rfl)
 f243:=Ly func113 (by kernel_rfl)
 f246:=Ly func138 (by kernel_rfl)
 f283:=Ly func159 (by kernel_rfl)
 f284:=Ly func160 (by kernel_rfl)
 f285:=Ly func161 (by kernel_rfl)
 f286:=Ly func162 (by kernel_rfl)
 f317:=Ly func190 (by kernel_rfl)
 f318:=Ly func192 (by kernel_rfl)
 f319:=Ly func193 (by kernel_rfl)
 f320:=Ly func194 (by kernel_rfl)
 f337:=Ly func212 (by kernel_rfl)
 f338:=Ly func213 (by kernel_rfl)
 t0:=underlying0
 a0:=isAgg0
 z0:=sizeOf0
 v0:=zeroValue0
 t2:=underlying2
 a2:=isAgg2
 z2:=sizeOf2
 v2:=zeroValue2
 t3:=underlying3
 a3:=isAgg3
 z3:=sizeOf3
 v3:=zeroValue3
 t4:=underlying4
 a4:=isAgg4
 z4:=sizeOf4
 v4:=zeroValue4
 t5:=underlying5
 a5:=isAgg5
 z5:=sizeOf5
 v5:=zeroValue5
 t9:=underlying9
 a9:=isAgg9
 z9:=sizeOf9
 v9:=zeroValue9
 t20:=underlying20
 a20:=isAgg20
 z20:=sizeOf20
 v20:=zeroValue20
 t37:=underlying60
 a37:=isAgg60
 z37:=sizeOf60
 v37:=zeroValue60
 t46:=underlying234
 a46:=isAgg234
 z46:=sizeOf234
 v46:=zeroValue234
 t51:=underlying231
 a51:=isAgg231
 z51:=sizeOf231
 v51:=zeroValue231
 t53:=underlying195
 a53:=isAgg195
 z53:=sizeOf195
 v53:=zeroValue195
 t171:=underlying194
 a171:=isAgg194
 z171:=sizeOf194
 v171:=zeroValue194
 t173:=underlying198
 a173:=isAgg198
 z173:=sizeOf198
 v173:=zeroValue198
 t212:=underlying230
 a212:=isAgg230
 z212:=sizeOf230
 v212:=zeroValue230
 t213:=underlying232
 a213:=isAgg232
 z213:=sizeOf232
 t232:=underlying260
 a232:=isAgg260
 z232:=sizeOf260
 v232:=zeroValue260
 t233:=underlying261
 a233:=isAgg261
 z233:=sizeOf261
 v233:=zeroValue261
 g17:=by kernel_rfl
 g18:=by kernel_rfl
 g19:=by kernel_rfl
 i0:=by kernel_rfl
 i2:=by kernel_rfl
 i3:=by kernel_rfl
 i4:=by kernel_rfl
 i5:=by kernel_rfl
 i9:=by kernel_rfl
 i20:=by kernel_rfl
 i37:=by kernel_rfl
 i46:=by kernel_rfl
 i51:=by kernel_rfl
 i53:=by kernel_rfl
 i171:=by kernel_rfl
 i173:=by kernel_rfl
 i212:=by kernel_rfl
 i232:=by kernel_rfl
 i233:=by kernel_rfl
 m17:=by kernel_rfl
 m18:=by kernel_rfl
 m19:=by kernel_rfl}
def Q2g:Go.Shelf.Ren:=⟨λ|160=>146|232=>167|231=>166|227=>168|234=>170|233=>169|236=>172|235=>171|228=>196|271=>199|151=>198|197=>197|120=>217|152=>216|260=>215|137=>122|119=>224|224=>225|225=>226|217=>143|266=>165|n=>n,λ|9=>9|4=>4|3=>3|5=>5|117=>204|116=>203|0=>0|124=>207|21=>21|105=>236|46=>234|119=>262|139=>265|138=>264|n=>n,λ|3=>6|4=>7|n=>n⟩
theorem Qcy:Go.Proofs.Lays.n160 prog Q2g:={
 mixed:=by kernel_rfl
 f119:=Ly func224 (by kernel_rfl)
 f120:=Ly func217 (by kernel_rfl)
 f137:=Ly func122 (by kernel_rfl)
 f151:=Ly func198 (by kernel_rfl)
 f152:=Ly func216 (by kernel_rfl)
 f160:=Ly func146 (by kernel_rfl)
 f197:=Ly func197 (by kernel_rfl)
 f217:=Ly func143 (by kernel_rfl)
 f224:=Ly func225 (by kernel_rfl)
 f225:=Ly func226 (by kernel_rfl)
 f227:=Ly func168 (by kernel_rfl)
 f228:=Ly func196 (by kernel_rfl)
 f231:=Ly func166 (by kernel_rfl)
 f232:=Ly func167 (by kernel_rfl)
 f233:=Ly func169 (by kernel_rfl)
 f234:=Ly func170 (by kernel_rfl)
 f235:=Ly func171 (by kernel_rfl)
 f236:=Ly func172 (by kernel_rfl)
 f260:=Ly func215 (by kernel_rfl)
 f266:=Ly func165 (by kernel_rfl)
 f271:=Ly func199 (by kernel_rfl)
 t0:=underlying0
 a0:=isAgg0
 z0:=sizeOf0
 v0:=zeroValue0
 t3:=underlying3
 a3:=isAgg3
 z3:=sizeOf3
 v3:=zeroValue3
 t4:=underlying4
 a4:=isAgg4
 z4:=sizeOf4
 v4:=zeroValue4
 t5:=underlying5
 a5:=isAgg5
 z5:=sizeOf5
 v5:=zeroValue5
 t9:=underlying9
 a9:=isAgg9
 z9:=sizeOf9
 v9:=zeroValue9
 t21:=underlying21
 a21:=isAgg21
 z21:=sizeOf21
 v21:=zeroValue21
 t46:=underlying234
 a46:=isAgg234
 z46:=sizeOf234
 v46:=zeroValue234
 t105:=underlying236
 a105:=isAgg236
 z105:=sizeOf236
 v105:=zeroValue236
 t116:=underlying203
 a116:=isAgg203
 z116:=sizeOf203
 t117:=underlying204
 a117:=isAgg204
 z117:=sizeOf204
 v117:=zeroValue204
 t119:=underlying262
 a119:=isAgg262
 z119:=sizeOf262
 t124:=underlying207
 a124:=isAgg207
 z124:=sizeOf207
 v124:=zeroValue207
 t138:=underlying264
 a138:=isAgg264
 z138:=sizeOf264
 v138:=zeroValue264
 t139:=underlying265
 a139:=isAgg265
 z139:=sizeOf265
 v139:=zeroValue265
 g3:=by kernel_rfl
 g4:=by kernel_rfl}
def Q2h:Go.Shelf.Ren:=⟨λ|137=>122|217=>143|266=>165|n=>n,λ|9=>9|5=>5|3=>3|n=>n,λ|n=>n⟩
theorem Qcz:Go.Proofs.Lays.n137 prog Q2h:={
 mixed:=by kernel_rfl
 f137:=Ly func122 (by kernel_rfl)
 f217:=Ly func143 (by kernel_rfl)
 f266:=Ly func165 (by kernel_rfl)
 t3:=underlying3
 a3:=isAgg3
 z3:=sizeOf3
 v3:=zeroValue3
 t5:=underlying5
 a5:=isAgg5
 z5:=sizeOf5
 v5:=zeroValue5
 t9:=underlying9
 a9:=isAgg9
 z9:=sizeOf9
 v9:=zeroValue9}
def Q42:Go.Shelf.Ren:=⟨λ|99=>126|206=>148|n=>n,λ|9=>9|4=>4|3=>3|n=>n,λ|n=>n⟩
theorem Qgd:Go.Proofs.Lays.n99 prog Q42:={
 mixed:=by kernel_rfl
 f99:=Ly func126 (by kernel_rfl)
 f206:=Ly func148 (by kernel_rfl)
 t3:=underlying3
 a3:=isAgg3
 z3:=sizeOf3
 v3:=zeroValue3
 t4:=underlying4
 a4:=isAgg4
 z4:=sizeOf4
 v4:=zeroValue4
 t9:=underlying9
 a9:=isAgg9
 z9:=sizeOf9
 v9:=zeroValue9}
def Q2d:Go.Shelf.Ren:=⟨λ|172=>147|244=>173|245=>174|247=>200|279=>201|280=>202|281=>203|282=>204|287=>218|316=>219|171=>62|205=>220|321=>227|322=>228|243=>113|246=>138|283=>159|284=>160|285=>161|286=>162|129=>191|317=>190|318=>192|319=>193|320=>194|337=>212|338=>213|n=>n,λ|9=>9|3=>3|75=>114|76=>115|4=>4|5=>5|167=>239|37=>60|0=>0|85=>240|2=>2|168=>242|53=>195|175=>252|46=>234|210=>256|127=>121|145=>271|143=>269|21=>21|171=>194|173=>198|212=>230|51=>231|20=>20|213=>232|232=>260|233=>261|80=>65|n=>n,λ|15=>2|16=>3|17=>0|18=>4|19=>5|n=>n⟩
theorem Q0v:Go.Proofs.Lays.n172 prog Q2d:={
 mixed:=by kernel_rfl
 f129:=Ly func191 (by kernel_rfl)
 f171:=Ly func62 (by kernel_rfl)
 f172:=Ly func147 (by kernel_rfl)
 f205:=Ly func220 (by kernel_rfl)
 f243:=Ly func113 (by kernel_rfl)
 f244:=Ly func173 (by kernel_rfl)
 f245:=Ly func174 (by kernel_rfl)
 f246:=Ly func138 (by kernel_rfl)
 f247:=Ly func200 (by kernel_rfl)
 f279:=Ly func201 (by kernel_rfl)
 f280:=Ly func202 (by kernel_rfl)
 f281:=Ly func203 (by kernel_rfl)
 f282:=Ly func204 (by kernel_rfl)
 f283:=Ly func159 (by kernel_rfl)
 f284:=Ly func160 (by kernel_rfl)
 f285:=Ly func161 (by kernel_rfl)
 f286:=Ly func162 (by kernel_rfl)
 f287:=Ly func218 (by kernel_rfl)
 f316:=Ly func219 (by kernel_rfl)
 f317:=Ly func190 (by kernel_rfl)
 f318:=Ly func192 (by kernel_rfl)
 f319:=Ly func193 (by kernel_rfl)
 f320:=Ly func194 (by kernel_rfl)
 f321:=Ly func227 (by kernel_rfl)
 f322:=Ly func228 (by kernel_rfl)
 f337:=Ly func212 (by kernel_rfl)
 f338:=Ly func213 (by kernel_rfl)
 t0:=underlying0
 a0:=isAgg0
 z0:=sizeOf0
 v0:=zeroValue0
 t2:=underlying2
 a2:=isAgg2
 z2:=sizeOf2
 v2:=zeroValue2
 t3:=underlying3
 a3:=isAgg3
 z3:=sizeOf3
 v3:=zeroValue3
 t4:=underlying4
 a4:=isAgg4
 z4:=sizeOf4
 v4:=zeroValue4
 t5:=underlying5
 a5:=isAgg5
 z5:=sizeOf5
 v5:=zeroValue5
 t9:=underlying9
 a9:=isAgg9
 z9:=sizeOf9
 v9:=zeroValue9
 t20:=underlying20
 a20:=isAgg20
 z20:=sizeOf20
 v20:=zeroValue20
 t21:=underlying21
 a21:=isAgg21
 z21:=sizeOf21
 v21:=zeroValue21
 t37:=underlying60
 a37:=isAgg60
 z37:=sizeOf60
 v37:=zeroValue60
 t46:=underlying234
 a46:=isAgg234
 z46:=sizeOf234
 v46:=zeroValue234
 t51:=underlying231
 a51:=isAgg231
 z51:=sizeOf231
 v51:=zeroValue231
 t53:=underlying195
 a53:=isAgg195
 z53:=sizeOf195
 v53:=zeroValue195
 t75:=underlying114
 a75:=isAgg114
 z75:=sizeOf114
 v75:=zeroValue114
 t76:=underlying115
 a76:=isAgg115
 z76:=sizeOf115
 v76:=zeroValue115
 t85:=underlying240
 a85:=isAgg240
 z85:=sizeOf240
 v85:=zeroValue240
 t127:=underlying121
 a127:=isAgg121
 z127:=sizeOf121
 v127:=zeroValue121
 t143:=underlying269
 a143:=isAgg269
 z143:=sizeOf269
 v143:=zeroValue269
 t145:=underlying271
 a145:=isAgg271
 z145:=sizeOf271
 v145:=zeroValue271
 t167:=underlying239
 a167:=isAgg239
 z167:=sizeOf239
 v167:=zeroValue239
 t168:=underlying242
 a168:=isAgg242
 z168:=sizeOf242
 v168:=zeroValue242
 t171:=underlying194
 a171:=isAgg194
 z171:=sizeOf194
 v171:=zeroValue194
 t173:=underlying198
 a173:=isAgg198
 z173:=sizeOf198
 v173:=zeroValue198
 t175:=underlying252
 a175:=isAgg252
 z175:=sizeOf252
 v175:=zeroValue252
 t210:=underlying256
 a210:=isAgg256
 z210:=sizeOf256
 v210:=zeroValue256
 t212:=underlying230
 a212:=isAgg230
 z212:=sizeOf230
 v212:=zeroValue230
 t213:=underlying232
 a213:=isAgg232
 z213:=sizeOf232
 t232:=underlying260
 a232:=isAgg260
 z232:=sizeOf260
 v232:=zeroValue260
 t233:=underlying261
 a233:=isAgg261
 z233:=sizeOf261
 v233:=zeroValue261
 g15:=by kernel_rfl
 g16:=by kernel_rfl
 g17:=by kernel_rfl
 g18:=by kernel_rfl
 g19:=by kernel_rfl}
def Kp:Go.Shelf.Ren:=⟨λ|156=>141|165=>164|166=>61|169=>30|240=>112|241=>195|276=>137|277=>214|n=>n,λ|31=>41|9=>9|3=>3|4=>4|0=>0|20=>20|72=>62|76=>115|70=>59|37=>60|75=>114|127=>121|164=>176|5=>5|80=>65|n=>n,λ|n=>n⟩
theorem Wr:Go.Proofs.Lays.n156 prog Kp:={
 mixed:=by kernel_rfl
 f156:=Ly func141 (by kernel_rfl)
 f165:=Ly func164 (by kernel_rfl)
 f166:=Ly func61 (by kernel_rfl)
 f169:=Ly func30 (by kernel_rfl)
 f240:=Ly func112 (by kernel_rfl)
 f241:=Ly func195 (by kernel_rfl)
 f276:=Ly func137 (by kernel_rfl)
 f277:=Ly func214 (by kernel_rfl)
 t0:=underlying0
 a0:=isAgg0
 z0:=sizeOf0
 v0:=zeroValue0
 t3:=underlying3
 a3:=isAgg3
 z3:=sizeOf3
 v3:=zeroValue3
 t4:=underlying4
 a4:=isAgg4
 z4:=sizeOf4
 v4:=zeroValue4
 t9:=underlying9
 a9:=isAgg9
 z9:=sizeOf9
 v9:=zeroValue9
 t20:=underlying20
 a20:=isAgg20
 z20:=sizeOf20
 v20:=zeroValue20
 t31:=underlying41
 a31:=isAgg41
 z31:=sizeOf41
 v31:=zeroValue41
 t37:=underlying60
 a37:=isAgg60
 z37:=sizeOf60
 v37:=zeroValue60
 t70:=underlying59
 a70:=isAgg59
 z70:=sizeOf59
 v70:=zeroValue59
 t72:=underlying62
 a72:=isAgg62
 z72:=sizeOf62
 v72:=zeroValue62
 t75:=underlying114
 a75:=isAgg114
 z75:=sizeOf114
 v75:=zeroValue114
 t76:=underlying115
 a76:=isAgg115
 z76:=sizeOf115
 v76:=zeroValue115
 t127:=underlying121
 a127:=isAgg121
 z127:=sizeOf121
 v127:=zeroValue121
 t164:=underlying176
 a164:=isAgg176
 z164:=sizeOf176
 v164:=zeroValue176}
def XK:Go.Shelf.Ren:=⟨λ|169=>30|n=>n,λ|70=>59|9=>9|0=>0|72=>62|37=>60|127=>121|3=>3|5=>5|n=>n,λ|n=>n⟩
theorem Qcw:Go.Proofs.Lays.n169 prog XK:={
 mixed:=by kernel_rfl
 f169:=Ly func30 (by kernel_rfl)
 t0:=underlying0
 a0:=isAgg0
 z0:=sizeOf0
 v0:=zeroValue0
 t3:=underlying3
 a3:=isAgg3
 z3:=sizeOf3
 v3:=zeroValue3
 t9:=underlying9
 a9:=isAgg9
 z9:=sizeOf9
 v9:=zeroValue9
 t37:=underlying60
 a37:=isAgg60
 z37:=sizeOf60
 v37:=zeroValue60
 t70:=underlying59
 a70:=isAgg59
 z70:=sizeOf59
 v70:=zeroValue59
 t72:=underlying62
 a72:=isAgg62
 z72:=sizeOf62
 v72:=zeroValue62
 t127:=underlying121
 a127:=isAgg121
 z127:=sizeOf121
 v127:=zeroValue121}
theorem bx156:Builder.Extra prog Kp:={
 sizeBuilder:=by kernel_rfl
 liesBuilder:=by kernel_rfl
 t5:=underlying5
 a5:=isAgg5
 z5:=sizeOf5
 v5:=zeroValue5
 infoByte:=by kernel_rfl
 cellsByte:=by kernel_rfl
 sizeByte:=by kernel_rfl
 neB5:=by decide}
theorem Qjx:Builder.Extra prog XK:={
 sizeBuilder:=by kernel_rfl
 liesBuilder:=by kernel_rfl
 t5:=underlying5
 a5:=isAgg5
 z5:=sizeOf5
 v5:=zeroValue5
 infoByte:=by kernel_rfl
 cellsByte:=by kernel_rfl
 sizeByte:=by kernel_rfl
 neB5:=by decide}
theorem Q0u:Go.Proofs.Lays.n240 prog Kp:={Wr with}
end
end
end Go.Proofs
namespace Go.Proofs.YtjcfppnjamjjhaaGreatDoor
open Go.Proofs.Tryz
noncomputable section
section
open Go.RowKit
structure Wd where
 p:(Nat->Nat->Prop)->World->Prop
 mono:∀(V V':Vu)(w w':World),V.Le V' w w'->p V.S w->p V'.S w'
 mono2:∀(S S':Nat->Nat->Prop)(w w':World),(∀(b o:Nat),(∀(ds:Option (List Deferred)),w.heap[b]? ≠ some (Obj.deferred ds))->S b o->S' b o)->(∀(b:Nat),(∀(ds:Option (List Deferred)),w.heap[b]? ≠ some (Obj.deferred ds))->w'.heap[b]?=w.heap[b]?)->p S w->p S' w'
def FunW(W:Wd)(P:Program)(f:FuncId)(args:List AV)(res:TV):Prop:=Qd P f/\∀(S:Nat->Nat->Prop)(w:World)(vs:Array Value),(∀b o,S b o->b<w.heap.size)->W.p S w->argsRel (YY S) w args vs -> Calls P f vs w λe w'=>∃v S',e=.returned v/\Xi w w'/\(∀b o,S b o->S' b o)/\(∀b o,S' b o->(S b o\/w.heap.size<=b)/\b<w'.heap.size)/\res.rel (YY S') w' v
def Wd.any:Wd:=⟨λ_ _=>True,λ_ _ _ _ _ _=>trivial,λ_ _ _ _ _ _ _=>trivial⟩
theorem X7{W:Wd}{P:Program}{f:FuncId}{args:List AV}{res:TV}(h:Fun P f args res):FunW W P f args res:=⟨h.1,λS w vs hS _ ha=>h.2 S w vs hS ha⟩
theorem FunW.any{P:Program}{f:FuncId}{args:List AV}{res:TV}(h:FunW .any P f args res):Fun P f args res:=⟨h.1,λS w vs hS ha=>h.2 S w vs hS trivial ha⟩
theorem HRel.wd{W:Wd}{E:Env}{V:Vu}{hp:List (Nat×HB)}{tk:List (Nat×Option Tok)}{w:World}(h:HRel E V hp tk w)(hW:W.p E.V0.S E.w0):W.p V.S w:=W.mono _ _ _ _ h.le0 hW
theorem D9{W:Wd}{E:Env}{st:St}{d:Option Nat}{ty:TypeId}{pos:String}{af:Array Edge}{g:Option (Nat×Bool)}{x:Operand}{f:FuncId}{ars:Array Operand}{args ys:List AV}{ats:Array TypeId}{res:TV}(hW:W.p E.V0.S E.w0)(hx:ev st.tm x=some (.v (.one (.fn f []))))(hF:FunW W E.P f ys res)(ha:Z7 st.tm ars.toList=some args)(hs:ASubL args ys):OpOK E ⟨d,.call {callee:=.value x,args:=ars,argTypes:=ats},ty,pos,af,g⟩ st res ⟨st.hp,st.tk,st.nx⟩:=by
 intro V a w hr ro n K Q hK;refine⟨λ_ _=>trivial,?_⟩;rw[Oper.semAt_eq _ _ _ (by intro c h;cases h)];rw[Q3h (by have:=(hr.ev hx).2;simpa using this) hF.1];refine⟨(by intro h;cases h),?_⟩;have har:argsRel (YY V.S) w ys (ars.map a.eval):=by obtain⟨h1,h2⟩:=KI hr ha;obtain⟨h3,h4⟩:=hs.spec;refine⟨by omega,λi y hy=>?_⟩;obtain⟨x,hx',hxy⟩:=h4 i y hy;obtain⟨u,hu,hxu⟩:=h2 i x hx';exact⟨u,hu,hxy.rel hxu⟩
 have hc':CallsIn Fence.wide (n-1) E.P f _ w _:=callsIn_wide.2 (hF.2 V.S w _ hr.h.sz (hr.h.wd hW) har);refine CallsIn.mono (F:=FR ro) hc' ?_;rintro e w' ⟨v,S',rfl,hx,hS,hS',hv⟩;have hg:V.Grow {V with S:=S' } w w':=⟨Cl _,λ_ _=>rfl,λ_ _=>rfl,λ_ _ _ _=>rfl,hS,λb o h=>(hS' b o h).1,λb o h=>(hS' b o h).2⟩;exact hK {V with S:=S' } w' v (hr.h.later hx hg) hr.nx (hr.h.le hx hg) (hv.mono (Qle (V:={V with S:=S' })))
def Q7u(W:Wd)(P:Program)(f:FuncId)(args:List AV)(m:Mem)(res:TV)(m':Mem):Prop:=Qd P f/\∀(E:Env)(V:Vu)(w:World)(vs:Array Value),E.P=P->W.p V.S w->HRel E V m.hp m.tk w->V.nx=m.nx->argsRel V w args vs -> Calls P f vs w λe w'=>∃v V',e=.returned v/\HRel E V' m'.hp m'.tk w'/\V'.nx=m'.nx/\V.Le V' w w'/\res.rel V' w' v
theorem Qgk{W:Wd}{E:Env}{st:St}{dd:Option Nat}{ty:TypeId}{pos:String}{af:Array Edge}{g:Option (Nat×Bool)}{x:Operand}{f:FuncId}{caps:List (Nat×Nat)}{ars:Array Operand}{args:List AV}{ats:Array TypeId}{res:TV}{m':Mem}(hW:W.p E.V0.S E.w0)(hx:ev st.tm x=some (.v (.one (.fn f caps))))(ha:Z7 st.tm ars.toList=some args)(hc:Q7u W E.P f (args++K9 caps) st.mem res m'):OpOK E ⟨dd,.call {callee:=.value x,args:=ars,argTypes:=ats},ty,pos,af,g⟩ st res m':=by
 intro V a w hr ro n K Q hK;refine⟨λ_ _=>trivial,?_⟩;rw[Oper.semAt_eq _ _ _ (by intro c h;cases h)];obtain⟨hv1,hv2⟩:=hr.ev hx;have hrun:(execOp a.eval ⟨dd,.call {callee:=.value x,args:=ars,argTypes:=ats},ty,pos,af,g⟩).run E.P w=.ok (.enter f (ars.map a.eval++(caps.map λp=>Value.pointer (some ⟨V.ι p.1,p.2,none⟩)).toArray)) w:=by have:=hc.1 (ars.map a.eval++(caps.map λp=>Value.pointer (some ⟨V.ι p.1,p.2,none⟩)).toArray) w;simp[execOp,resolve,hv2,Deferred.ofValue,invoke];simpa using this
 rw[hrun];refine⟨(by intro h;cases h),?_⟩;have hc':CallsIn Fence.wide (n-1) E.P f _ w _:=callsIn_wide.2 (hc.2 E V w _ rfl (hr.h.wd hW) hr.h hr.nx ((KI hr ha).append (ZR hv1)));refine CallsIn.mono (F:=FR ro) hc' ?_;rintro e w' ⟨v,V',rfl,H,hn,L,hres⟩;exact hK V' w' v H hn L hres
def Q7w(W:Wd)(P:Program)(f:FuncId)(args:List AV)(m:Mem)(pv:Value)(m':Mem):Prop:=Qd P f/\∀(E:Env)(V:Vu)(w:World)(vs:Array Value),E.P=P->W.p V.S w->HRel E V m.hp m.tk w->V.nx=m.nx->argsRel V w args vs -> Calls P f vs w λe w'=>∃V',e=.panicked (Kz pv)/\HRel E V' m'.hp m'.tk w'/\V'.nx=m'.nx/\V.Le V' w w'
theorem Qka{W:Wd}{E:Env}{st:St}{dd:Option Nat}{ty:TypeId}{pos:String}{af:Array Edge}{g:Option (Nat×Bool)}{x:Operand}{f:FuncId}{caps:List (Nat×Nat)}{ars:Array Operand}{args:List AV}{ats:Array TypeId}{pv:Value}{m':Mem}(hW:W.p E.V0.S E.w0)(hx:ev st.tm x=some (.v (.one (.fn f caps))))(ha:Z7 st.tm ars.toList=some args)(hc:Q7w W E.P f (args++K9 caps) st.mem pv m'):OpD E ⟨dd,.call {callee:=.value x,args:=ars,argTypes:=ats},ty,pos,af,g⟩ st pv m':=by
 intro V a w hr ro n K Q hK;refine⟨λ_ _=>trivial,?_⟩;rw[Oper.semAt_eq _ _ _ (by intro c h;cases h)];obtain⟨hv1,hv2⟩:=hr.ev hx;have hrun:(execOp a.eval ⟨dd,.call {callee:=.value x,args:=ars,argTypes:=ats},ty,pos,af,g⟩).run E.P w=.ok (.enter f (ars.map a.eval++(caps.map λp=>Value.pointer (some ⟨V.ι p.1,p.2,none⟩)).toArray)) w:=by have:=hc.1 (ars.map a.eval++(caps.map λp=>Value.pointer (some ⟨V.ι p.1,p.2,none⟩)).toArray) w;simp[execOp,resolve,hv2,Deferred.ofValue,invoke];simpa using this
 rw[hrun];refine⟨(by intro h;cases h),?_⟩;have hc':CallsIn Fence.wide (n-1) E.P f _ w _:=callsIn_wide.2 (hc.2 E V w _ rfl (hr.h.wd hW) hr.h hr.nx ((KI hr ha).append (ZR hv1)));refine CallsIn.mono (F:=FR ro) hc' ?_;rintro e w' ⟨V',rfl,H,hn,L⟩;exact hK V' w' H hn L
inductive OutM where
 |val (x:TV) (m:Mem)
 |die (v:Value) (m:Mem)
def CallO(W:Wd)(P:Program)(f:FuncId)(args:List AV)(m:Mem):OutM->Prop|.val x m'=>Q7u W P f args m x m'|.die v m'=>Q7w W P f args m v m'
def DR:Option Value->FrameMode|none=>.returning|some v=>.panicking (Kz v)
def Zi(rc:Bool):Option Value->FrameMode|none=>.returning|some v=>.panicking [{v:=v,recovered:=rc}]
def DefM(W:Wd)(P:Program)(g:FuncId)(is:List Nat)(u:Option Value)(m m2:Mem)(rc:Bool):Prop:=Qd P g/\∀(E:Env)(V:Vu)(w:World)(n:Nat),E.P=P->W.p V.S w->HRel E V m.hp m.tk w->V.nx=m.nx->(∀i∈is,i<V.nx) -> CallsDIn Fence.wide n P g (is.map (Gr V)).toArray (DR u) w λe u' w'=>(∃v,e=.returned v)/\u'=Zi rc u/\∃V',HRel E V' m2.hp m2.tk w'/\V'.nx=m2.nx/\V.Le V' w w'
def To(E:Env)(x y:St):Prop:=∀V ac w,Rel E V x ac w->∃V',Rel E V' y ac w
def ToW(W:Wd)(P:Program)(nx0:Nat)(x y:St):Prop:=∀E:Env,E.P=P->W.p E.V0.S E.w0->E.V0.nx<=nx0->To E x y
theorem ToW.refl(W:Wd)(P:Program)(nx0:Nat)(x:St):ToW W P nx0 x x:=λE _ _ _ V a w hr=>⟨V,hr⟩
inductive EndO(W:Wd)(P:Program)(fn:Func)(nx0:Nat):Exit->St->OutM->Prop
 |ret {e:Exit} {st st1:St} {xs:List AV} (he:e=.normal\/e=.ret) (hd:st1.df=[]) (ht:ToW W P nx0 st st1) (hr:RAs P st1 fn.results.toList xs):EndO W P fn nx0 e st (.val (Qj xs) st1.mem)
 |die {v:Value} {st st1:St} (hd:st1.df=[]) (ht:ToW W P nx0 st st1):EndO W P fn nx0 (.panic (Kz v)) st (.die v st1.mem)
 |dret {e:Exit} {st st1:St} {f:Nat} {is:List Nat} {m2:Mem} {rc:Bool} {xs:List AV} (he:e=.normal\/e=.ret) (hd:st.df=f::is) (h:DefM W P f is none st.mem m2 rc) (hd1:st1.df=[]) (ht:ToW W P nx0 ⟨st.tm,m2.hp,m2.tk,m2.nx,st.nt,[]⟩ st1) (hr:RAs P st1 fn.results.toList xs):EndO W P fn nx0 e st (.val (Qj xs) st1.mem)
 |drec {v:Value} {st st1:St} {f:Nat} {is:List Nat} {m2:Mem} {xs:List AV} (hd:st.df=f::is) (h:DefM W P f is (some v) st.mem m2 true) (hd1:st1.df=[]) (ht:ToW W P nx0 ⟨st.tm,m2.hp,m2.tk,m2.nx,st.nt,[]⟩ st1) (hr:RAs P st1 fn.results.toList xs):EndO W P fn nx0 (.panic (Kz v)) st (.val (Qj xs) st1.mem)
 |ddie {v:Value} {st st1:St} {f:Nat} {is:List Nat} {m2:Mem} (hd:st.df=f::is) (h:DefM W P f is (some v) st.mem m2 false) (hd1:st1.df=[]) (ht:ToW W P nx0 ⟨st.tm,m2.hp,m2.tk,m2.nx,st.nt,[]⟩ st1):EndO W P fn nx0 (.panic (Kz v)) st (.die v st1.mem)
def Qzu(E:Env)(V:Vu)(w:World):OutM->Ending->World->Prop|.val x m'=>λe w'=>∃v V',e=.returned v/\HRel E V' m'.hp m'.tk w'/\V'.nx=m'.nx/\V.Le V' w w'/\x.rel V' w' v|.die pv m'=>λe w'=>∃V',e=.panicked (Kz pv)/\HRel E V' m'.hp m'.tk w'/\V'.nx=m'.nx/\V.Le V' w w'
theorem Ze{W:Wd}{P:Program}{f:FuncId}{args:List AV}{m:Mem}{o:OutM}(hen:Qd P f)(h:∀(E:Env)(V:Vu)(w:World)(vs:Array Value),E.P=P->W.p V.S w->HRel E V m.hp m.tk w->V.nx=m.nx->argsRel V w args vs->Calls P f vs w (Qzu E V w o)):CallO W P f args m o:=by cases o with|val x m'=>exact⟨hen,h⟩|die v m'=>exact⟨hen,h⟩
theorem Qit{E:Env}{hp:List (Nat×HB)}{tk:List (Nat×Option Tok)}{P:Program}{fn:Func}{tmps:Array Value}{R:Ending->World->Prop}(bs:List Nat)(w:World)(V:Vu)(h:HRel E V hp tk w)(hm:marksOK E V w bs)(hK:∀w' V',HRel E V' hp tk w'->V'.nx=V.nx->V.Lx V' w w'->∃v,(results fn tmps).run P w'=.ok v w'/\R (.returned v) w'):LeavesInM Fence.wide 0 P fn tmps R (bs.map λb=>{target:=.collected b,args:=#[]}) .returning w:=Q1u bs w V h hm.1 hm.2 hK
def CallP(W:Wd)(P:Program)(f:FuncId)(args:List AV)(m:Mem)(Φ:OutM->Prop):Prop:=Qd P f/\∀(E:Env)(V:Vu)(w:World)(vs:Array Value),E.P=P->W.p V.S w->HRel E V m.hp m.tk w->V.nx=m.nx->argsRel V w args vs->Calls P f vs w λe w'=>∃o,Φ o/\Qzu E V w o e w'
theorem Xj{W:Wd}{P:Program}{f:FuncId}{fn:Func}{c:Code}{args:List AV}{m:Mem}{Φ:OutM->Prop}(hf:P.funcs[f]?=some fn)(hb:fn.body=some c)(hen:Qd P f)(hnt:args.length<=fn.ntmps)(h:∀(w0:World)(M:Nat->Prop)(V0:Vu)(Q:Exit->Act->World->Prop),W.p V0.S w0->V0.nx<=m.nx->(∀e (st':St) o,Φ o->EndO W P fn m.nx e st' o->XQ ⟨P,w0,M,V0⟩ Q e st')->XC ⟨P,w0,M,V0⟩ none 0 Q c ⟨J4 0 args,m.hp,m.tk,m.nx,fn.ntmps,[]⟩)(hP0:P=prog):CallP W P f args m Φ:=by
 refine⟨hen,λE V w vs hP hWp H hn hargs=>?_⟩;obtain⟨R,hR⟩:∃R:Ending->World->Prop,R=λe w'=>∃o,Φ o/\Qzu E V w o e w':=⟨_,rfl⟩;rw[<-hR];have toR:∀o,Φ o->∀e w',Qzu E V w o e w'->R e w':=λo ho e w' h=>by rw[hR];exact⟨o,ho,h⟩
 refine(callsIn_wide (n:=0)).1 (K3 (F:=Fence.wide) (Q2p hP0 hf) hf hb trivial ?_);have hR0:Rel (E.at V w) V ⟨J4 0 args,m.hp,m.tk,m.nx,fn.ntmps,[]⟩ {tmps:=vs++Array.replicate (fn.ntmps-vs.size) undef,defers:=[]} w:=by refine⟨H.rebase,hn,by simp[hargs.1];omega,dfRel.nil,λt x hx=>?_⟩;obtain⟨k,y,h1,h2,rfl⟩:=Xw args 0 t x hx;obtain⟨u,hu,hy⟩:=hargs.2 k y h2;have hk:k<vs.size:=(CP.1 hu).1;(have:(vs++Array.replicate (fn.ntmps-vs.size) undef).getD t undef=u:=by rw[show t=k by omega,P8,P9 hk,hu];rfl);rw[this];exact hy
 have hWE:W.p (E.at V w).V0.S (E.at V w).w0:=hWp;have hPE:(E.at V w).P=P:=hP;have fin:∀(st:St)(xs:List AV)(a1:Act)(V1:Vu)(w1:World),Φ (.val (Qj xs) st.mem)->st.df=[]->RAs P st fn.results.toList xs->Rel (E.at V w) V1 st a1 w1->LeavesInM Fence.wide 0 P fn a1.tmps R a1.defers .returning w1:=by intro st xs a1 V1 w1 hΦ hd hres hr1;obtain⟨bs,h1,h2,h3⟩:=hr1.df.of_nil hd;rw[h1];refine Qit bs w1 V1 hr1.h ⟨h2,h3⟩ (λw' V1' H' hn' L'=>?_);(have est:(⟨st.tm,st.hp,st.tk,st.nx,st.nt,[]⟩:St)=st:=by rw[<-hd]);have hr':Rel (E.at V w) V1' ⟨st.tm,st.hp,st.tk,st.nx,st.nt,[]⟩ {tmps:=a1.tmps,defers:=[]} w':=⟨H',hn'.trans hr1.nx,hr1.nt,dfRel.nil,λt x hx=>(hr1.tm t x hx).keep L'⟩;obtain⟨v,e1,e2⟩:=WO (E:=E.at V w) (by rw[est];exact hres) hP hr';obtain⟨H5,L5⟩:=H.back H';exact⟨v,e1,toR _ hΦ _ _ ⟨v,V1',Z,H5,hn'.trans hr1.nx,L5,e2⟩⟩
 have tow:∀{x y:St},ToW W P m.nx x y->To (E.at V w) x y:=λh=>h _ hPE hWE (Pc hn);have clo:∀(st:St)(a1:Act)(V1:Vu)(w1:World)(f':Nat)(is:List Nat)(u:Option Value)(m2:Mem)(rc:Bool),st.df=f'::is->DefM W P f' is u st.mem m2 rc->Rel (E.at V w) V1 st a1 w1 -> (∀(ds:List Deferred)(V2:Vu)(w2:World),Rel (E.at V w) V2 ⟨st.tm,m2.hp,m2.tk,m2.nx,st.nt,[]⟩ {tmps:=a1.tmps,defers:=ds} w2->LeavesInM Fence.wide 0 P fn a1.tmps R ds (settle (Zi rc u)) w2) -> LeavesInM Fence.wide 0 P fn a1.tmps R a1.defers (DR u) w1:=by
  intro st a1 V1 w1 f' is u m2 rc hd hdm hr1 hK;obtain⟨bs,bs0,hi,hds,hm1,hm2⟩:∃bs bs0,(∀i∈is,i<V1.nx)/\a1.defers=bs.map (λb=>{target:=.collected b,args:=#[]})++Qjk f' (is.map (Gr V1))::bs0.map (λb=>{target:=.collected b,args:=#[]})/\marksOK (E.at V w) V1 w1 (bs++bs0):=by rcases hr1.df with⟨h0,-⟩|⟨f2,is2,bs,bs0,h0,h1,h2,h3⟩;rw[hd]at h0;cases h0;rw[hd]at h0;cases h0;exact⟨bs,bs0,h1,h2,h3⟩
  obtain⟨hn1,hn2,hn3⟩:=SD.1 hm1;rw[hds];have hu:DR u ≠ .run:=by cases u <;> (unfold DR;simp)
  refine U2 hu bs w1 V1 hr1.h hn1 (λb hb=>hm2 b (by simp[hb])) (λw' V' H' hn' hι' L' hS' hh'=>?_);have hinv:(invoke (.fn (.func f') (is.map (Gr V1)).toArray) #[]).run P w'=.ok (.enter f' (is.map (Gr V1)).toArray) w':=by have:=hdm.1 (#[]++(is.map (Gr V1)).toArray) w';simp only[invoke];simpa using this
  refine⟨hu,.inr ⟨(by intro h;cases h),.func f',_,f',_,rfl,hinv,(λ_ _=>trivial),?_⟩⟩;have hW1:W.p V1.S w1:=hr1.h.wd hWE;have hnd:∀b,(∀ds,w1.heap[b]? ≠ some (Obj.deferred ds))->b∉bs:=λb hb hmem=>hb _ (hm2 b (by simp[hmem])).2.1;have hW':W.p V'.S w':=W.mono2 _ _ _ _ (λb o hb=>hS' b o (hnd b hb)) (λb hb=>hh' b (hnd b hb)) hW1;have ep:is.map (Gr V1)=is.map (Gr V'):=by refine Cy λi _=>?_;unfold Gr;rw[hι']
  rw[ep];have hmk:marksOK (E.at V w) V' w' bs0:=⟨hn2,λb hb=>⟨hS' b 0 (λh=>hn3 b h b hb rfl) (hm2 b (by simp[hb])).1,(hh' b (λh=>hn3 b h b hb rfl)).trans (hm2 b (by simp[hb])).2.1,(hm2 b (by simp[hb])).2.2⟩⟩;refine(hdm.2 (E.at V w) V' w' (0-1) hP hW' H' (hn'.trans hr1.nx) (λi h=>by rw[hn'];exact hi i h)).mono ?_;rintro e' u' w'' ⟨⟨v,rfl⟩,rfl,V2,H2,hn2',L2⟩;exact hK _ V2 w'' ⟨H2,hn2',hr1.nt,.inl ⟨Z,bs0,Z,hmk.le L2⟩,λt x hx=>((hr1.tm t x hx).keep L').mono L2⟩
 have key:∀(e:Exit)(st':St)(o:OutM),Φ o->EndO W P fn m.nx e st' o->∀(V1:Vu)(a1:Act)(w1:World),Rel (E.at V w) V1 st' a1 w1->bodyPostM Fence.wide 0 P fn R e a1 w1:=by intro e st' o hΦ hend V1 a1 w1 hr1;cases hend with|ret he hd ht hres=>(obtain⟨V2,hr2⟩:=tow ht V1 a1 w1 hr1;have hl:=fin _ _ a1 V2 w1 hΦ hd hres hr2;rcases he with rfl|rfl;exact hl;exact hl)|die hd ht=>(obtain⟨V2,hr2⟩:=tow ht V1 a1 w1 hr1;exact Ds hr2 hd (λw' V' H' hn' L'=>let⟨H5,L5⟩:=H.back H';toR _ hΦ _ _ ⟨V',Z,H5,hn'.trans hr2.nx,L5⟩))|@dret _ _ st1 f' is m2 rc xs he hd hdm hd1 ht hres=>(have hl:LeavesInM Fence.wide 0 P fn a1.tmps R a1.defers .returning w1:=clo st' a1 V1 w1 f' is none m2 rc hd hdm hr1 (λds V2 w2 hr2=>let⟨V3,hr3⟩:=tow ht V2 _ w2 hr2;fin st1 xs _ V3 w2 hΦ hd1 hres hr3);rcases he with rfl|rfl;exact hl;exact hl)|@drec v _ st1 f' is m2 xs hd hdm hd1 ht hres=>exact clo st' a1 V1 w1 f' is (some v) m2 true hd hdm hr1 (λds V2 w2 hr2=>let⟨V3,hr3⟩:=tow ht V2 _ w2 hr2;fin st1 xs _ V3 w2 hΦ hd1 hres hr3)|@ddie v _ st1 f' is m2 hd hdm hd1 ht=>exact clo st' a1 V1 w1 f' is (some v) m2 false hd hdm hr1 (λds V2 w2 hr2=>let⟨V3,hr3⟩:=tow ht V2 _ w2 hr2;Ds hr3 hd1 (λw' V' H' hn' L'=>let⟨H5,L5⟩:=H.back H';toR _ hΦ _ _ ⟨V',Z,H5,hn'.trans hr3.nx,L5⟩))
 have hgo:∀E':Env,E'=E.at V w->E'.P=P->E'.V0=V->XC E' none 0 (bodyPostM Fence.wide 0 P fn R) c ⟨J4 0 args,m.hp,m.tk,m.nx,fn.ntmps,[]⟩:=by rintro⟨P',w0,M,V0⟩ he hP' hV';dsimp only at hP' hV';subst hP';have ew:w0=w:=congrArg Env.w0 he;refine h w0 M V0 _ (by rw[hV',ew];exact hWp) (by rw[hV',hn];exact Cl _) ?_;intro e st' o hΦ hend;rw[he];exact λV1 a1 w1 hr1=>key e st' o hΦ hend V1 a1 w1 hr1
 have:=hgo (E.at V w) rfl hP rfl V _ w hR0;rw[show(E.at V w).P=P from hP]at this;exact this
theorem Qkd{W:Wd}{P:Program}{f:FuncId}{args:List AV}{m:Mem}{o:OutM}(h:CallP W P f args m λo'=>o'=o):CallO W P f args m o:=by refine Ze h.1 λE V w vs hP hWp H hn hargs=>(h.2 E V w vs hP hWp H hn hargs).mono ?_;rintro e w' ⟨o',rfl,ho⟩;exact ho
theorem Q4w{F:Fence}{n:Nat}{P:Program}{Q:Exit->Act->List Frame->World->Prop}{a:Act}{cs:List Frame}{w:World}{c:Code}(hro:F.round=none)(h:DO F n P c (λe a' w'=>Q e a' cs w') a w){b:Frame}(k:List Item)(hr:b.roundOf=none)(hb:F.fn b.fn)(hv:VF b.fn)(hroom:F.room (cs.length+1+n)):∃e a' cs' w',cs'.length=cs.length/\Q e a' cs' w'/\ArrivesIn (Machine.fenced P F) P (lone (b.atR a (.code c::k)) cs w) b k cs' e a' w':=
 let⟨e,a',w',q,r⟩:=h b k cs (hr.trans hro.symm) hb hv hroom
 ⟨e,a',cs,w',rfl,q,r⟩
def Q7t(P:Program)(K:World->Prop):List Deferred->World->Prop|[],w=>K w|d::ds,w=>∃r w',d.target=.collected r/\(Instr.takeDeferred r).run P w=.ok [] w'/\Q7t P K ds w'
theorem WV{F:Fence}{n:Nat}{P:Program}{K:World->Prop}:∀(ds:List Deferred)(w:World)(fr:Frame)(cs:List Frame),fr.mode=.returning->fr.defers=ds->F.fn fr.fn->F.room (cs.length+1+n)->Q7t P K ds w -> ∃w',StepsIn (Machine.fenced P F) P (lone fr cs w) (lone {fr with defers:=[]} cs w')/\K w'|[],w,fr,cs,hm,hd,hb,hroom,h=>⟨w,by(have:({fr with defers:=[]}:Frame)=fr:=by rw[<-hd]);rw[this];exact StepsIn.refl _,h⟩|d::ds,w,fr,cs,hm,hd,hb,hroom,⟨r,w1,htar,htake,hrest⟩=>by(have hrun:fr.mode ≠ .run:=by rw[hm];simp);have h1:=step_collected (cs:=cs) hrun hd htar htake;have i1:(lone fr cs w).fenced P F:=fenced_out hb hroom hrun hd (λg hg=>by rw[htar]at hg;simp[Target.leads]at hg);obtain⟨w',hs,hk⟩:=WV ds w1 {fr with defers:=[]++ds} cs hm rfl hb hroom hrest;exact⟨w',.head i1 h1 hs,hk⟩
def XE(P:Program)(fn:Func)(c₀:Frame)(cs:List Frame)(R:Ending->FrameMode->World->Prop):Exit->Act->List Frame->World->Prop
 |.normal,a,cs',w|.ret,a,cs',w=>∃u',cs'={c₀ with mode:=u' }::cs/\Q7t P (λw'=>∃v,(results fn a.tmps).run P w'=.ok v w'/\R (.returned v) u' w') a.defers w
 |_,_,_,_=>False
theorem Qa9{F:Fence}{n:Nat}{P:Program}{f:FuncId}{fn:Func}{c:Code}{args:Array Value}{u:FrameMode}{w:World}{R:Ending->FrameMode->World->Prop}(hv:VF f)(hf:P.funcs[f]?=some fn)(hb:fn.body=some c)(hF:F.fn f)(h:∀(c₀:Frame)(cs:List Frame),c₀.mode=u->∀(b:Frame)(k:List Item),b.kind=.deferred->b.roundOf=none->b.fn=f->F.room ((c₀::cs).length+1+n) -> ∃e a' cs' w',cs'.length=(c₀::cs).length/\XE P fn c₀ cs R e a' cs' w'/\ArrivesIn (Machine.fenced P F) P (lone (b.atR {tmps:=args++Array.replicate (fn.ntmps-args.size) undef,defers:=[]} (.code c::k)) (c₀::cs) w) b k cs' e a' w'):CallsDIn F n P f args u w R:=by
 refine⟨hF,λc₀ cs hu hroom=>?_⟩;let b:Frame:={(default:Frame)with fn:=f,kind:=.deferred,roundOf:=none};have henter:Frame.enter P f args .deferred = b.atR {tmps:=args++Array.replicate (fn.ntmps-args.size) undef,defers:=[]} [.code c]:=by simp[Frame.enter,Frame.atR,hf,hb,b]
 obtain⟨e,a',cs',w',hl,hq,harr⟩:=h c₀ cs hu b [] rfl rfl rfl hroom;rw[<-henter]at harr;cases e with|normal=>(obtain⟨u',rfl,hm⟩:=hq;obtain⟨w2,hs2,v,hr,hR⟩:=WV (F:=F) (n:=n) a'.defers w' {b.atR a' []with mode:=.returning} ({c₀ with mode:=u' }::cs) rfl rfl hF hroom hm;exact⟨.returned v,u',w2,_,hR,StepsIn.trans (StepsIn.trans harr (.one (fenced_calm (fr:=b.atR a' []) hF hroom Z) (stepR_end Z))) hs2,Z,Z,Z,Z,fn,hf,hr⟩)|ret=>(obtain⟨u',rfl,hm⟩:=hq;obtain⟨todo,hs⟩:=harr.1 rfl;obtain⟨w2,hs2,v,hr,hR⟩:=WV (F:=F) (n:=n) a'.defers w' {b.atR a' todo with mode:=.returning} ({c₀ with mode:=u' }::cs) rfl rfl hF hroom hm;exact⟨.returned v,u',w2,_,hR,StepsIn.trans hs hs2,Z,Z,Z,Z,fn,hf,hr⟩)|panic chain=>exact hq.elim|exit id=>exact hq.elim|goto l=>exact hq.elim|outgrown=>exact hq.elim
theorem Q95{E:Env}{hp:List (Nat×HB)}{tk:List (Nat×Option Tok)}{P:Program}{K:World->Prop}:∀(bs:List Nat)(w:World)(V:Vu),HRel E V hp tk w->marksOK E V w bs->(∀w' V',HRel E V' hp tk w'->V'.nx=V.nx->V.Lx V' w w'->K w')->Q7t P K (bs.map λb=>{target:=.collected b,args:=#[]}) w|[],w,V,h,_,hK=>hK w V h rfl (Vu.Lx.refl _ _)|b::bs,w,V,h,hm,hK=>by obtain⟨h1,h2,h3⟩:=hm.2 b (by simp);obtain⟨h4,h5⟩:=CX.1 hm.1;obtain⟨H,L⟩:=h.take h1 h2 h3;refine⟨b,_,Z,run_takeDeferred h2,Q95 bs _ _ H ⟨h5,λb' hb'=>?_⟩ (λw' V' hw' hn' L'=>hK w' V' hw' hn' (L.trans L'))⟩;obtain⟨h6,h7,h8⟩:=hm.2 b' (by simp[hb']);have hne:b'≠b:=λe=>h4 (by rw[<-e];exact hb');exact⟨⟨h6,hne⟩,(World.putObj_heap_other hne).trans h7,h8⟩
def Q4t(W:Wd)(P:Program)(c:Code)(tm:List (Nat×TV))(nt:Nat)(m m2:Mem):Prop:=∀(E:Env)(Q:Exit->Act->World->Prop)(n:Nat),E.P=P->W.p E.V0.S E.w0->E.V0.nx<=m.nx -> (∀e (st':St),(e=.normal\/e=.ret)->st'.df=[]->st'.mem=m2->XQ E Q e st')->XC E none n Q c ⟨tm,m.hp,m.tk,m.nx,nt,[]⟩
theorem Q6u{E:Env}{V:Vu}{w:World}{m:Mem}{is:List Nat}{nt:Nat}(H:HRel E V m.hp m.tk w)(hn:V.nx=m.nx)(hi:∀i∈is,i<V.nx)(hnt:is.length<=nt):Rel (E.at V w) V ⟨J4 0 (is.map λi=>.one (.ptr i 0)),m.hp,m.tk,m.nx,nt,[]⟩ {tmps:=(is.map (Gr V)).toArray++Array.replicate (nt-(is.map (Gr V)).toArray.size) undef,defers:=[]} w:=by refine⟨H.rebase,hn,by simp;omega,dfRel.nil,λt x hx=>?_⟩;obtain⟨k,y,h1,h2,rfl⟩:=Xw _ 0 t x hx;rw[Cn]at h2;cases hk:is[k]? with|none=>rw[hk]at h2;cases h2|some i=>rw[hk]at h2;cases h2;have hlt:k<is.length:=(Ce.1 hk).1;(have hu:(is.map (Gr V)).toArray[k]?=some (Gr V i):=by simp[hk]);(have:((is.map (Gr V)).toArray++Array.replicate (nt-(is.map (Gr V)).toArray.size) undef).getD t undef=Gr V i:=by rw[show t=k by omega,P8,P9 (by simpa using hlt),hu];rfl);rw[this];exact⟨hi i (Cr hk),Z⟩
theorem Qrd{P:Program}{fn:Func}(hr:fn.results.toList=[])(tmps:Array Value)(w:World):∃v,(results fn tmps).run P w=.ok v w:=by have:fn.results=#[]:=Sk hr;unfold results;rw[this];exact⟨_,by simp[go_sem];rfl⟩
theorem Q8q{W:Wd}{P:Program}{fn:Func}{c:Code}{tm:List (Nat×TV)}{m m2:Mem}{E:Env}{V:Vu}{w:World}{rc:Bool}{u:Option Value}{c₀:Frame}{cs:List Frame}{a:Act}{n:Nat}(hr:fn.results.toList=[])(h:Q4t W P c tm fn.ntmps m m2)(hP:E.P=P)(hWp:W.p V.S w)(H:HRel E V m.hp m.tk w)(hn:V.nx=m.nx)(hR:Rel (E.at V w) V ⟨tm,m.hp,m.tk,m.nx,fn.ntmps,[]⟩ a w):DO Fence.wide n P c (λe a' w'=>XE P fn c₀ cs (λe u' w'=>(∃v,e=.returned v)/\u'=Zi rc u/\∃V',HRel E V' m2.hp m2.tk w'/\V'.nx=m2.nx/\V.Le V' w w') e a' ({c₀ with mode:=Zi rc u}::cs) w') a w:=by
 have hx:=h (E.at V w) (λe a' w'=>XE P fn c₀ cs (λe u' w'=>(∃v,e=.returned v)/\u'=Zi rc u/\∃V',HRel E V' m2.hp m2.tk w'/\V'.nx=m2.nx/\V.Le V' w w') e a' ({c₀ with mode:=Zi rc u}::cs) w') n hP hWp (Pc hn) (λe st' he hd hm V1 a1 w1 hr1=>?_) V _ w hR;rw[show(E.at V w).P=P from hP]at hx;exact hx;have key:∃u',({c₀ with mode:=Zi rc u}:Frame)::cs={c₀ with mode:=u' }::cs/\Q7t P (λw'=>∃v,(results fn a1.tmps).run P w'=.ok v w'/\(∃v',Ending.returned v=.returned v')/\u'=Zi rc u/\∃V',HRel E V' m2.hp m2.tk w'/\V'.nx=m2.nx/\V.Le V' w w') a1.defers w1:=by obtain⟨bs,h1,h2,h3⟩:=hr1.df.of_nil hd;refine⟨_,Z,?_⟩;rw[h1];refine Q95 bs w1 V1 hr1.h ⟨h2,h3⟩ (λw' V' H' hn' L'=>?_);obtain⟨v,hv⟩:=Qrd (P:=P) hr a1.tmps w';obtain⟨H5,L5⟩:=H.back H';refine⟨v,hv,⟨v,Z⟩,Z,V',?_,?_,L5⟩;rw[<-hm];exact H5;rw[<-hm];exact hn'.trans hr1.nx
 rcases he with rfl|rfl;exact key;exact key
theorem Qd9{W:Wd}{P:Program}{f:FuncId}{fn:Func}{c:Code}{is:List Nat}{u:Option Value}{m m2:Mem}(hf:P.funcs[f]?=some fn)(hb:fn.body=some c)(hen:Qd P f)(hnt:is.length<=fn.ntmps)(hr:fn.results.toList=[])(h:Q4t W P c (J4 0 (is.map λi=>.one (.ptr i 0))) fn.ntmps m m2)(hP0:P=prog):DefM W P f is u m m2 false:=by
 refine⟨hen,λE V w n hP hWp H hn hi=>?_⟩;refine Qa9 (Q2p hP0 hf) hf hb trivial (λc₀ cs hu b k hk hro hbf hroom=>?_);have hvf:VF b.fn:=by rw[hbf];exact Q2p hP0 hf
 have ec:(c₀::cs)=({c₀ with mode:=Zi false u}:Frame)::cs:=by(have:Zi false u=c₀.mode:=by rw[hu];cases u <;> rfl);rw[this]
 have hx:=Q8q (c₀:=c₀) (cs:=cs) (rc:=false) (u:=u) (n:=n) hr h hP hWp H hn (Q6u (nt:=fn.ntmps) H hn hi hnt);rw[ec]at hroom⊢;exact Q4w (F:=Fence.wide) (Q:=XE P fn c₀ cs _) Z hx k hro trivial hvf hroom
def Qd2(P:Program)(nt:Nat)(id:Nat)(ops:Array Oper)(put:Act->Value->Act):Prop:=∀(n:Nat)(a0:Act)(c₀:Frame)(cs:List Frame)(w:World)(u:Option Value),a0.tmps.size=nt->c₀.mode=DR u -> (Code.region id ops false).wpSIn Fence.wide n P (λe a' cs' w'=>e=.normal/\a'=put a0 (u.getD .nilIface)/\cs'={c₀ with mode:=Zi true u}::cs/\w'=w) a0 (c₀::cs) w
theorem Qw9{P:Program}{nt id d:Nat}{ts:Array TypeId}{ty:TypeId}{pos:String}{af:Array Edge}:Qd2 P nt id #[⟨some d,.call {callee:=.builtin .recover,args:=#[],argTypes:=ts},ty,pos,af,none⟩] λa v=>a.put (some d) v:=λn a0 c₀ cs w u hn hu=>by apply wpSIn_region;cases u with|none=>(have hc:recoverD (c₀::cs)=none:=by simp only[recoverD,hu,DR]);(have e0:({c₀ with mode:=FrameMode.returning}:Frame)=c₀:=by have:c₀.mode=FrameMode.returning:=hu;rw[<-this]);simp[wpOpsSIn,go_sem,List.range,List.range.loop,hc,Zi,e0,Region.wanted,execOp,Oper.about]|some v=>(have hc:recoverD (c₀::cs)=some (v,{c₀ with mode:=.panicking [{v:=v,recovered:=true}]}::cs):=by simp only[recoverD,hu,DR]);simp[wpOpsSIn,go_sem,List.range,List.range.loop,hc,Zi,Region.wanted,execOp,Oper.about]
theorem Qw8{P:Program}{nt id d d2:Nat}{ts:Array TypeId}{ty ty2:TypeId}{pos pos2:String}{af af2:Array Edge}(hd:d<nt):Qd2 P nt id #[⟨some d,.call {callee:=.builtin .recover,args:=#[],argTypes:=ts},ty,pos,af,none⟩,⟨some d2,.assign (.tmp d),ty2,pos2,af2,none⟩] λa v=>(a.put (some d) v).put (some d2) v:=λn a0 c₀ cs w u hn hu=>by apply wpSIn_region;cases u with|none=>(have hc:recoverD (c₀::cs)=none:=by simp only[recoverD,hu,DR]);(have e0:({c₀ with mode:=FrameMode.returning}:Frame)=c₀:=by have:c₀.mode=FrameMode.returning:=hu;rw[<-this]);have hg:d<a0.tmps.size:=hn▸hd;simp[wpOpsSIn,go_sem,List.range,List.range.loop,hc,Zi,e0,Region.wanted,execOp,Oper.about,hg]|some v=>(have hc:recoverD (c₀::cs)=some (v,{c₀ with mode:=.panicking [{v:=v,recovered:=true}]}::cs):=by simp only[recoverD,hu,DR]);have hg:d<a0.tmps.size:=hn▸hd;simp[wpOpsSIn,go_sem,List.range,List.range.loop,hc,Zi,Region.wanted,execOp,Oper.about,hg]
theorem Qgo{W:Wd}{P:Program}{f:FuncId}{fn:Func}{c:Code}{is:List Nat}{u:Option Value}{m m2:Mem}{id:Nat}{ops:Array Oper}{put:Act->Value->Act}{tmx:List (Nat×TV)}(hf:P.funcs[f]?=some fn)(hb:fn.body=some (.seq (.region id ops false) c))(hen:Qd P f)(hnt:is.length<=fn.ntmps)(hr:fn.results.toList=[])(hreg0:Qd2 P fn.ntmps id ops put)(hput:∀(E:Env)(V:Vu)(a:Act)(w:World),Rel E V ⟨J4 0 (is.map λi=>.one (.ptr i 0)),m.hp,m.tk,m.nx,fn.ntmps,[]⟩ a w->Rel E V ⟨tmx,m.hp,m.tk,m.nx,fn.ntmps,[]⟩ (put a (u.getD .nilIface)) w)(h:Q4t W P c tmx fn.ntmps m m2)(hP0:P=prog):DefM W P f is u m m2 true:=by
 refine⟨hen,λE V w n hP hWp H hn hi=>?_⟩;refine Qa9 (Q2p hP0 hf) hf hb trivial (λc₀ cs hu b k hk hro hbf hroom=>?_);have hvf:VF b.fn:=by rw[hbf];exact Q2p hP0 hf
 have hR:=Q6u (nt:=fn.ntmps) H hn hi hnt;obtain⟨a0,ha0⟩:∃a0:Act,a0={tmps:=(is.map (Gr V)).toArray++Array.replicate (fn.ntmps-(is.map (Gr V)).toArray.size) undef,defers:=[]}:=⟨_,rfl⟩;rw[<-ha0]at hR⊢;have hR2:=hput _ V a0 w hR;have hx:=Q8q (c₀:=c₀) (cs:=cs) (rc:=true) (u:=u) (n:=n) hr h hP hWp H hn hR2;have hlen:((({c₀ with mode:=Zi true u}:Frame)::cs)).length=(c₀::cs).length:=rfl;have hreg:=hreg0 n a0 c₀ cs w u hR.nt hu;obtain⟨e,a1,cs1,w1,hl,⟨he,ha,hcs,hw⟩,harr⟩:=hreg b (.code c::k) hk hro trivial hroom;subst he;subst ha;subst hcs;subst hw;obtain⟨e2,a2,cs2,w2,hl2,hq2,harr2⟩:=Q4w (F:=Fence.wide) (Q:=XE P fn c₀ cs _) rfl hx k hro trivial hvf (hlen▸hroom);have i0:(lone (b.atR a0 (.code (.seq (.region id ops false) c)::k)) (c₀::cs) w1).fenced P Fence.wide:=fenced_calm trivial hroom rfl;exact⟨e2,a2,cs2,w2,hl2.trans hlen,hq2,.of_steps (.head i0 stepR_seq harr) harr2⟩
def Qap(W:Wd)(P:Program)(rn:Option Nat)(c:Code)(st:St)(e:Exit)(st':St):Prop:=∀(E:Env)(ro:Option Nat)(n:Nat)(Q:Exit->Act->World->Prop),E.P=P->W.p E.V0.S E.w0->E.V0.nx<=st.nx->Q0x E rn ro->XQ E Q e st'->XC E ro n Q c st
section
variable{E:Env}{st:St}{dd:Option Nat}{ty:TypeId}{pos:String}{af:Array Edge}{g:Option (Nat×Bool)}
theorem Qgi{W:Wd}{x:Operand}{L:Nat}{ars:Array Operand}{args:List AV}{ats:Array TypeId}{p0 p1 p2:Option Code}{tm0 tm1 tm2:List (Nat×TV)}{nt0 nt1 nt2:Nat}{ps0 ps1 ps2:Array Nat}{as0 as1 as2 bd0 bd1 bd2:Code}{D0 D1 D2:Nat}{sa sb:St}{e:Exit}{jump:Option Code}(hW:W.p E.V0.S E.w0)(hx:ev st.tm x=some (.v (.one (.yld L))))(ha:Z7 st.tm ars.toList=some args)(hL:lk st.hp L=some (.loop .ready p0 tm0 nt0 ps0 as0 bd0 D0))(hlen:ars.size=ps0.size)(hps:ps0.toList.all (λt=>Nat.blt t nt0)=true)(h1:Qap W E.P (some L) as0 ⟨ZQ ps0.toList args tm0,st.hp,st.tk,st.nx,nt0,[]⟩ .normal sa)(hnx:st.nx<=sa.nx)(h2:lk sa.hp L=some (.loop .ready p1 tm1 nt1 ps1 as1 bd1 D1))(h3:Qap W E.P (some L) bd0 ⟨sa.tm,(L,.loop .busy p1 tm1 nt1 ps1 as1 bd1 D1)::QT L sa.hp,sa.tk,sa.nx,sa.nt,sa.df⟩ e sb)(h4:lk sb.hp L=some (.loop .busy p2 tm2 nt2 ps2 as2 bd2 D2))(he:U6 e=some jump):OpOK E ⟨dd,.call {callee:=.value x,args:=ars,argTypes:=ats},ty,pos,af,g⟩ st (TB jump.isNone) ⟨(L,.loop (if jump.isNone then .ready else .done) jump tm2 nt2 ps2 as2 bd2 D2)::QT L sb.hp,sb.tk,sb.nx⟩:=by
 intro V a w hr ro n K Q hK;refine⟨λ_ _=>trivial,?_⟩;rw[Oper.semAt_eq _ _ _ (by intro c h;cases h)];obtain⟨hLnx,hv⟩:=hr.ev hx;obtain⟨-,ob,hob,hD,fn,tmps,rfl,hsz,htm⟩:=hr.h.own L _ hL;rw[Q2u rfl hv hob hlen];refine⟨(by intro h;cases h),?_⟩;have har:=KI hr ha;obtain⟨hal,-⟩:=KG ha;have hput:=WQ (V:=V) (w:=w) ps0.toList args (ars.map a.eval).toList tm0 tmps (by simpa using hal.symm) (λi y hy=>by obtain⟨u,hu1,hu2⟩:=har.2 i y hy;exact⟨u,by simpa using hu1,hu2⟩) (λt ht=>by rw[hsz];exact C9 (Ch.1 hps t ht)) htm;have hfold:(ps0.zip (ars.map a.eval)).foldl (λtmps (x:Nat×Value)=>tmps.setIfInBounds x.1 x.2) tmps=(ps0.toList.zip (ars.map a.eval).toList).foldl (λtmps (p:Nat×Value)=>tmps.setIfInBounds p.1 p.2) tmps:=by rw[<-Sy,Array.toList_zip]
 refine WN (F:=FR ro) fn.2 trivial ?_;have hR0:Rel (E.at V w) V ⟨ZQ ps0.toList args tm0,st.hp,st.tk,st.nx,nt0,[]⟩ {tmps:=(ps0.zip (ars.map a.eval)).foldl (λtmps (x:Nat×Value)=>tmps.setIfInBounds x.1 x.2) tmps,defers:=[]} w:=⟨hr.h.rebase,hr.nx,by rw[hfold,hput.1];exact hsz,dfRel.nil,λt y hy=>by rw[hfold];exact hput.2 t y hy⟩;have hWp:W.p (E.at V w).V0.S (E.at V w).w0:=hr.h.wd hW;have hv0:(E.at V w).V0.nx<=st.nx:=Pc hr.nx;refine h1 (E.at V w) (some (V.ι L)) (n-1) _ Z hWp hv0 ⟨hLnx,Z⟩ ?_ V _ w hR0;intro V1 a1 w1 hr1;obtain⟨hL1,ob1,hob1,hD1,fn1,tmps1,rfl,hsz1,htm1⟩:=hr1.h.own L _ h2;have hι1:V1.ι L=V.ι L:=hr1.h.le0.ι L hLnx;have hb:=run_beginRound (P:=E.P) hob1 rfl;rw[hι1]at hb hob1;refine⟨_,hb,?_⟩;obtain⟨H2,L2⟩:=hr1.h.putObj (o':=.loop {state:=.busy,pending:=p1,fn:=fn1,tmps:=tmps1,params:=ps1,assign:=as1,body:=bd1,defers:=V1.ι D1}) (B':=.loop .busy p1 tm1 nt1 ps1 as1 bd1 D1) h2 (λhle=>⟨hD1,fn1,tmps1,rfl,hsz1,λt y hy=>(htm1 t y hy).mono hle⟩);rw[hι1]at H2 L2;have hR1:Rel (E.at V w) V1 ⟨sa.tm,(L,.loop .busy p1 tm1 nt1 ps1 as1 bd1 D1)::QT L sa.hp,sa.tk,sa.nx,sa.nt,sa.df⟩ a1 _:=⟨H2.congr (λj=>JI L _ sa.hp j) (λ_=>rfl),hr1.nx,hr1.nt,hr1.df.le L2,λt y hy=>(hr1.tm t y hy).mono L2⟩;refine h3 (E.at V w) (some (V.ι L)) (n-1) _ Z hWp (Cg hv0 hnx) ⟨hLnx,Z⟩ ?_ V1 a1 _ hR1;intro V3 a3 w3 hr3;obtain⟨hL3,ob3,hob3,hD3,fn3,tmps3,rfl,hsz3,htm3⟩:=hr3.h.own L _ h4;have hι3:V3.ι L=V.ι L:=hr3.h.le0.ι L hLnx;have fin:∃v w',(Instr.endRound (V.ι L) jump).run E.P w3=.ok v w'/\K (a.put dd v) w':=by have hb:=run_endRound (P:=E.P) jump hob3;obtain⟨H4,L4⟩:=hr3.h.putObj (o':=.loop {state:=if jump.isNone then .ready else .done,pending:=jump,fn:=fn3,tmps:=tmps3,params:=ps2,assign:=as2,body:=bd2,defers:=V3.ι D2}) (B':=.loop (if jump.isNone then .ready else .done) jump tm2 nt2 ps2 as2 bd2 D2) h4 (λhle=>⟨hD3,fn3,tmps3,rfl,hsz3,λt y hy=>(htm3 t y hy).mono hle⟩);obtain⟨H5,L5⟩:=hr.h.back H4;rw[hι3]at hb;rw[hι3]at H5 L5;refine⟨_,_,hb,hK V3 _ _ (H5.congr (λj=>JI L _ sb.hp j) (λ_=>rfl)) hr3.nx L5 (Jl rfl)⟩
 cases e with|normal=>cases he;exact fin|ret=>cases he;exact fin|exit id=>cases he;exact fin|goto t=>cases he|panic c=>cases he|outgrown=>cases he
end
theorem Q5l{W:Wd}{P:Program}{g:Operand}{ps:Array Nat}{assign body:Code}{st:St}{gf:FuncId}{caps:List (Nat×Nat)}{res:TV}{m2:Mem}{s:LoopState}{jump:Option Code}{e:Exit}{tm2:List (Nat×TV)}{nt2:Nat}{ps2:Array Nat}{as2 bd2:Code}{D2:Nat}(hg:ev st.tm g=some (.v (.one (.fn gf caps))))(hc:Q7u W P gf (.one (.yld (st.nx+1))::K9 caps) ⟨(st.nx+1,.loop .ready none st.tm st.nt ps assign body st.nx)::(st.nx,.obj (.deferred (some [])))::st.hp,st.tk,st.nx+2⟩ res m2)(hL:lk m2.hp (st.nx+1)=some (.loop s jump tm2 nt2 ps2 as2 bd2 D2))(hD:lk m2.hp st.nx=some (.obj (.deferred (some []))))(hs:s ≠ .busy)(he:U6 e=some jump):Qap W P none (.rangeFunc g ps assign body) st e ⟨st.tm,QT st.nx (QT (st.nx+1) m2.hp),m2.tk,m2.nx,st.nt,st.df⟩:=by
 intro E ro n Q hP hW hv0 hro hQ V a w hr;subst hP;cases hro;refine Zl (λfn _=>?_);obtain⟨hv1,hv2⟩:=hr.ev hg;have H1:=hr.h.addOwn (.deferred (some [])) (.obj (.deferred (some []))) rfl;have L1:=hr.h.le (w':=w.alloc (.deferred (some []))) ⟨rfl,rfl,rfl,by simp,λk hk _=>Below.heap_alloc w _ k hk⟩ (V.add_grow w.heap.size hr.h.sz ⟨rfl,rfl,rfl,by simp,λk hk _=>Below.heap_alloc w _ k hk⟩);have L2:=H1.le (w':=(w.alloc (.deferred (some []))).alloc (.loop {state:=.ready,pending:=none,fn:=fn,tmps:=a.tmps,params:=ps,assign:=assign,body:=body,defers:=w.heap.size})) ⟨rfl,rfl,rfl,by simp,λk hk _=>Below.heap_alloc _ _ k hk⟩ (Vu.add_grow _ (w.alloc (.deferred (some []))).heap.size H1.sz ⟨rfl,rfl,rfl,by simp,λk hk _=>Below.heap_alloc _ _ k hk⟩);have hι:((V.add w.heap.size).add (w.alloc (.deferred (some []))).heap.size).ι V.nx=w.heap.size:=by rw[L2.ι V.nx (Cv _),V.add_at]
 have H2:=H1.addOwn (.loop {state:=.ready,pending:=none,fn:=fn,tmps:=a.tmps,params:=ps,assign:=assign,body:=body,defers:=w.heap.size}) (.loop .ready none st.tm st.nt ps assign body V.nx) ⟨Ci (Cv _) (Nat.le_succ _),fn,a.tmps,by rw[hι],hr.nt,λt x hx=>((hr.tm t x hx).mono L1).mono L2⟩;have L12:=L1.trans L2;generalize hV2:(V.add w.heap.size).add (w.alloc (.deferred (some []))).heap.size=V2 at H2 L2 L12 hι;have hnx2:V2.nx=st.nx+2:=by rw[<-hV2];show V.nx+1+1=_;rw[hr.nx]
 have hιL:V2.ι (V.nx+1)=w.heap.size+1:=by rw[<-hV2];have:=(V.add w.heap.size).add_at (w.alloc (.deferred (some []))).heap.size;rw[World.size_alloc]at this;rw[World.size_alloc];exact this
 have hcl:(V.add w.heap.size).nx=V.nx+1:=rfl;rw[hcl]at H2;rw[hr.nx]at H2 hιL hι;obtain⟨W2,hW2⟩:∃W2,(w.alloc (.deferred (some []))).alloc (.loop {state:=.ready,pending:=none,fn:=fn,tmps:=a.tmps,params:=ps,assign:=assign,body:=body,defers:=w.heap.size})=W2:=⟨_,rfl⟩;rw[hW2]at H2 L12;refine⟨w.heap.size+1,[{target:=.collected w.heap.size,args:=#[]}],W2,{target:=.fn (.func gf) (caps.map λp=>Value.pointer (some ⟨V.ι p.1,p.2,none⟩)).toArray,args:=#[.func (.yield (w.heap.size+1)) #[] #[]]},W2,gf,#[.func (.yield (w.heap.size+1)) #[] #[]]++(caps.map λp=>Value.pointer (some ⟨V.ι p.1,p.2,none⟩)).toArray,W2,?_,?_,?_,?_,(by intro h;cases h),?_⟩;rw[<-hW2];exact run_enterLoop_outer fn a.tmps ps assign body;simp only[resolve,hv2];simp[go_sem];exact λ_ _=>trivial;have:=hc.1 (#[.func (.yield (w.heap.size+1)) #[] #[]]++(caps.map λp=>Value.pointer (some ⟨V.ι p.1,p.2,none⟩)).toArray) W2;simp only[invoke];exact this;have hargs:argsRel V2 W2 (.one (.yld (st.nx+1))::K9 caps) (#[.func (.yield (w.heap.size+1)) #[] #[]]++(caps.map λp=>Value.pointer (some ⟨V.ι p.1,p.2,none⟩)).toArray):=by
  have h1:argsRel V2 W2 [.one (.yld (st.nx+1))] #[.func (.yield (w.heap.size+1)) #[] #[]]:=⟨rfl,λi y hy=>by
   match i,hy with
   |0,hy=>cases hy;exact⟨_,rfl,by rw[hnx2];omega,by rw[hιL];rfl⟩⟩
  have h2:argsRel V2 W2 (K9 caps) (caps.map λp=>Value.pointer (some ⟨V.ι p.1,p.2,none⟩)).toArray:=by have h3:=ZR (V:=V2) (w:=W2) (caps:=caps) (λp hp=>Ci (hv1 p hp) L12.nx);rw[Cy (g:=λp=>Value.pointer (some ⟨V.ι p.1,p.2,none⟩)) (λp hp=>by rw[L12.ι p.1 (hv1 p hp)])]at h3;exact h3
  exact h1.append h2
 have hcall:=hc.2 E V2 W2 _ rfl (HRel.wd H2 hW) H2 hnx2 hargs;have hcall':CallsIn Fence.wide (n-1) E.P gf _ W2 _:=callsIn_wide.2 hcall;refine CallsIn.mono (F:=FR none) hcall' ?_;rintro e' w3 ⟨v,V3,rfl,H3,hn3,L3,-⟩;obtain⟨hL3,ob3,hob3,hD3,fn3,tmps3,rfl,hsz3,htm3⟩:=H3.own _ _ hL;have hι3:V3.ι (st.nx+1)=w.heap.size+1:=by rw[L3.ι _ (by rw[hnx2];omega)];exact hιL
 have hend:=run_endLoop (P:=E.P) hob3 hs;obtain⟨H4,L4⟩:=H3.putObj (o':=.loop {state:=.exhausted,pending:=jump,fn:=fn3,tmps:=tmps3,params:=ps2,assign:=as2,body:=bd2,defers:=V3.ι D2}) (B':=.loop .exhausted jump tm2 nt2 ps2 as2 bd2 D2) hL (λhle=>⟨hD3,fn3,tmps3,rfl,hsz3,λt y hy=>(htm3 t y hy).mono hle⟩);rw[hι3]at hend H4 L4;have L:=(L12.trans L3).trans L4;have hlk:∀j,lk (QT (st.nx+1) m2.hp) j=lk (QT (st.nx+1) ((st.nx+1,HB.loop .exhausted jump tm2 nt2 ps2 as2 bd2 D2)::m2.hp)) j:=λj=>by rw[Y0,Y0,Q8];split;rfl;rename_i e;rw[Ca (λe'=>e e'.symm)]
 have H5:=(H4.drop (st.nx+1)).congr (hp':=QT (st.nx+1) m2.hp) hlk (λ_=>rfl);have hD5:lk (QT (st.nx+1) m2.hp) st.nx=some (.obj (.deferred (some []))):=by rw[Y0,Ca (by omega)];exact hD
 obtain⟨H6,L6⟩:=H5.freeze hD5;have e1:V3.ι st.nx=w.heap.size:=by rw[L3.ι _ (by rw[hnx2];omega)];exact hι
 obtain⟨-,oD,hoD,hDr⟩:=H5.own _ _ hD5;have hoD':oD=.deferred (some []):=hDr;rw[hoD',e1]at hoD;obtain⟨V6,hV6⟩:∃V6:Vu,{V3 with S:=λb o=>V3.S b o\/b=V3.ι st.nx}=V6:=⟨_,rfl⟩;have hS6:V6.S w.heap.size 0:=by rw[<-hV6];exact .inr e1.symm
 have hn6:V6.nx=m2.nx:=by rw[<-hV6];exact hn3
 rw[hV6]at H6 L6;have hR:Rel E V6 ⟨st.tm,QT st.nx (QT (st.nx+1) m2.hp),m2.tk,m2.nx,st.nt,st.df⟩ {a with defers:=[{target:=.collected w.heap.size,args:=#[]}]++a.defers} (w3.putObj (w.heap.size+1) (.loop {state:=.exhausted,pending:=jump,fn:=fn3,tmps:=tmps3,params:=ps2,assign:=as2,body:=bd2,defers:=V3.ι D2})):=by have LL:=L.trans L6;exact⟨H6,hn6,hr.nt,hr.df.push LL (Cl _) hS6 hoD (λo hs=>(H5.new _ _ hD5).2 o (by rw[e1];exact H5.le0.S _ _ hs)),λt x hx=>(hr.tm t x hx).mono LL⟩
 refine⟨jump,_,hend,?_⟩;cases e with|normal=>cases he;exact hQ V6 _ _ hR|ret=>cases he;exact Gj (wpIn_ret (hQ V6 _ _ hR))|exit id=>cases he;exact Gj (wpIn_exit (hQ V6 _ _ hR))|goto t=>cases he|panic c=>cases he|outgrown=>cases he
theorem Q82{W:Wd}{P:Program}{g:Operand}{ps:Array Nat}{assign body:Code}{st:St}{gf:FuncId}{caps:List (Nat×Nat)}{res:TV}{m2:Mem}{s s0:LoopState}{jump p0:Option Code}{e:Exit}{tm2 tm0:List (Nat×TV)}{nt2 nt0:Nat}{ps2 ps0:Array Nat}{as2 bd2 as0 bd0:Code}{D2 D0 L0:Nat}(hg:ev st.tm g=some (.v (.one (.fn gf caps))))(h0:lk st.hp L0=some (.loop s0 p0 tm0 nt0 ps0 as0 bd0 D0))(hc:Q7u W P gf (.one (.yld st.nx)::K9 caps) ⟨(st.nx,.loop .ready none st.tm st.nt ps assign body D0)::st.hp,st.tk,st.nx+1⟩ res m2)(hL:lk m2.hp st.nx=some (.loop s jump tm2 nt2 ps2 as2 bd2 D2))(hs:s ≠ .busy)(he:U6 e=some jump):Qap W P (some L0) (.rangeFunc g ps assign body) st e ⟨st.tm,QT st.nx m2.hp,m2.tk,m2.nx,st.nt,st.df⟩:=by
 intro E ro n Q hP hW hv0 hro hQ V a w hr;subst hP;obtain⟨hL0,rfl⟩:=hro;refine Zl (λfn _=>?_);obtain⟨hv1,hv2⟩:=hr.ev hg;obtain⟨-,ob0,hob0,hD0,fn0,tmps0,rfl,hsz0,htm0⟩:=hr.h.own L0 _ h0;have hι0:V.ι L0=E.V0.ι L0:=hr.h.le0.ι L0 hL0;have H1:=hr.h.addOwn (.loop {state:=.ready,pending:=none,fn:=fn,tmps:=a.tmps,params:=ps,assign:=assign,body:=body,defers:=V.ι D0}) (.loop .ready none st.tm st.nt ps assign body D0) (by have L1:=hr.h.le (w':=w.alloc (.loop {state:=.ready,pending:=none,fn:=fn,tmps:=a.tmps,params:=ps,assign:=assign,body:=body,defers:=V.ι D0})) ⟨rfl,rfl,rfl,by simp,λk hk _=>Below.heap_alloc w _ k hk⟩ (V.add_grow w.heap.size hr.h.sz ⟨rfl,rfl,rfl,by simp,λk hk _=>Below.heap_alloc w _ k hk⟩);exact⟨Ci hD0 L1.nx,fn,a.tmps,by rw[L1.ι D0 hD0],hr.nt,λt x hx=>(hr.tm t x hx).mono L1⟩);have L1:=hr.h.le (w':=w.alloc (.loop {state:=.ready,pending:=none,fn:=fn,tmps:=a.tmps,params:=ps,assign:=assign,body:=body,defers:=V.ι D0})) ⟨rfl,rfl,rfl,by simp,λk hk _=>Below.heap_alloc w _ k hk⟩ (V.add_grow w.heap.size hr.h.sz ⟨rfl,rfl,rfl,by simp,λk hk _=>Below.heap_alloc w _ k hk⟩);have hιL:(V.add w.heap.size).ι V.nx=w.heap.size:=V.add_at _;generalize hV2:V.add w.heap.size=V2 at H1 L1 hιL;have hnx2:V2.nx=st.nx+1:=by rw[<-hV2];show V.nx+1=_;rw[hr.nx]
 rw[hr.nx]at H1 hιL;obtain⟨W2,hW2⟩:∃W2,w.alloc (.loop {state:=.ready,pending:=none,fn:=fn,tmps:=a.tmps,params:=ps,assign:=assign,body:=body,defers:=V.ι D0})=W2:=⟨_,rfl⟩;rw[hW2]at H1 L1;refine⟨w.heap.size,[],W2,{target:=.fn (.func gf) (caps.map λp=>Value.pointer (some ⟨V.ι p.1,p.2,none⟩)).toArray,args:=#[.func (.yield w.heap.size) #[] #[]]},W2,gf,#[.func (.yield w.heap.size) #[] #[]]++(caps.map λp=>Value.pointer (some ⟨V.ι p.1,p.2,none⟩)).toArray,W2,?_,?_,?_,?_,(by intro h;cases h),?_⟩
 · rw[<-hW2]
   rw[hι0]at hob0
   unfold Instr.enterLoop
   simp only[FR,Sem.run_bind,run_getLoop hob0,run_newObj_alloc,Result.andThen,Sem.run_pure]
 · simp only[resolve,hv2]
   simp[go_sem]
 · exact λ_ _=>trivial
 · have:=hc.1 (#[.func (.yield w.heap.size) #[] #[]]++(caps.map λp=>Value.pointer (some ⟨V.ι p.1,p.2,none⟩)).toArray) W2
   simp only[invoke];exact this
 · have hargs:argsRel V2 W2 (.one (.yld st.nx)::K9 caps) (#[.func (.yield w.heap.size) #[] #[]]++(caps.map λp=>Value.pointer (some ⟨V.ι p.1,p.2,none⟩)).toArray):=by
     have h1:argsRel V2 W2 [.one (.yld st.nx)] #[.func (.yield w.heap.size) #[] #[]]:=⟨rfl,λi y hy=>by
       match i,hy with
       |0,hy=>cases hy;exact⟨_,rfl,by rw[hnx2];omega,by rw[hιL];rfl⟩⟩
     have h2:argsRel V2 W2 (K9 caps) (caps.map λp=>Value.pointer (some ⟨V.ι p.1,p.2,none⟩)).toArray:=by
       have h3:=ZR (V:=V2) (w:=W2) (caps:=caps) (λp hp=>Ci (hv1 p hp) L1.nx)
       rw[Cy (g:=λp=>Value.pointer (some ⟨V.ι p.1,p.2,none⟩)) (λp hp=>by rw[L1.ι p.1 (hv1 p hp)])]at h3
       exact h3
     exact h1.append h2
   have hcall:=hc.2 E V2 W2 _ rfl (HRel.wd H1 hW) H1 hnx2 hargs
   have hcall':CallsIn Fence.wide (n-1) E.P gf _ W2 _:=callsIn_wide.2 hcall
   refine CallsIn.mono (F:=FR (some (E.V0.ι L0))) hcall' ?_
   rintro e' w3 ⟨v,V3,rfl,H3,hn3,L3,-⟩
   obtain⟨hL3,ob3,hob3,hD3,fn3,tmps3,rfl,hsz3,htm3⟩:=H3.own _ _ hL
   have hι3:V3.ι st.nx=w.heap.size:=by rw[L3.ι _ (by rw[hnx2];omega)];exact hιL
   have hend:=run_endLoop (P:=E.P) hob3 hs
   obtain⟨H4,L4⟩:=H3.putObj (o':=.loop {state:=.exhausted,pending:=jump,fn:=fn3,tmps:=tmps3,params:=ps2,assign:=as2,body:=bd2,defers:=V3.ι D2}) (B':=.loop .exhausted jump tm2 nt2 ps2 as2 bd2 D2) hL (λhle=>⟨hD3,fn3,tmps3,rfl,hsz3,λt y hy=>(htm3 t y hy).mono hle⟩)
   rw[hι3]at hend H4 L4
   have hR:Rel E V3 ⟨st.tm,QT st.nx m2.hp,m2.tk,m2.nx,st.nt,st.df⟩ {a with defers:=[]++a.defers} (w3.putObj w.heap.size (.loop {state:=.exhausted,pending:=jump,fn:=fn3,tmps:=tmps3,params:=ps2,assign:=as2,body:=bd2,defers:=V3.ι D2})):=by
     have L:=(L1.trans L3).trans L4
     refine⟨(H4.drop st.nx).congr (λj=>?_) (λ_=>rfl),hn3,hr.nt,hr.df.le L,λt x hx=>(hr.tm t x hx).mono L⟩
     rw[Y0,Y0,Q8]
     split
     · rfl
     · rename_i e;rw[Ca (λe'=>e e'.symm)]
   refine⟨jump,_,hend,?_⟩
   cases e with
   |normal=>cases he;exact hQ V3 _ _ hR
   |ret=>cases he;exact Gj (wpIn_ret (hQ V3 _ _ hR))
   |exit id=>cases he;exact Gj (wpIn_exit (hQ V3 _ _ hR))
   |goto t=>cases he
   |panic c=>cases he
   |outgrown=>cases he
theorem Q3u{W:Wd}{P:Program}{g:Operand}{ps:Array Nat}{assign body:Code}{st:St}{gf:FuncId}{caps:List (Nat×Nat)}{m2:Mem}{pv:Value}(hg:ev st.tm g=some (.v (.one (.fn gf caps))))(hc:Q7w W P gf (.one (.yld (st.nx+1))::K9 caps) ⟨(st.nx+1,.loop .ready none st.tm st.nt ps assign body st.nx)::(st.nx,.obj (.deferred (some [])))::st.hp,st.tk,st.nx+2⟩ pv m2)(hD:lk m2.hp st.nx=some (.obj (.deferred (some [])))):Qap W P none (.rangeFunc g ps assign body) st (.panic (Kz pv)) ⟨st.tm,QT st.nx (QT (st.nx+1) m2.hp),m2.tk,m2.nx,st.nt,st.df⟩:=by
 intro E ro n Q hP hW hv0 hro hQ V a w hr;subst hP;cases hro;refine Zl (λfn _=>?_);obtain⟨hv1,hv2⟩:=hr.ev hg;have H1:=hr.h.addOwn (.deferred (some [])) (.obj (.deferred (some []))) rfl;have L1:=hr.h.le (w':=w.alloc (.deferred (some []))) ⟨rfl,rfl,rfl,by simp,λk hk _=>Below.heap_alloc w _ k hk⟩ (V.add_grow w.heap.size hr.h.sz ⟨rfl,rfl,rfl,by simp,λk hk _=>Below.heap_alloc w _ k hk⟩);have L2:=H1.le (w':=(w.alloc (.deferred (some []))).alloc (.loop {state:=.ready,pending:=none,fn:=fn,tmps:=a.tmps,params:=ps,assign:=assign,body:=body,defers:=w.heap.size})) ⟨rfl,rfl,rfl,by simp,λk hk _=>Below.heap_alloc _ _ k hk⟩ (Vu.add_grow _ (w.alloc (.deferred (some []))).heap.size H1.sz ⟨rfl,rfl,rfl,by simp,λk hk _=>Below.heap_alloc _ _ k hk⟩);have hι:((V.add w.heap.size).add (w.alloc (.deferred (some []))).heap.size).ι V.nx=w.heap.size:=by rw[L2.ι V.nx (Cv _),V.add_at]
 have H2:=H1.addOwn (.loop {state:=.ready,pending:=none,fn:=fn,tmps:=a.tmps,params:=ps,assign:=assign,body:=body,defers:=w.heap.size}) (.loop .ready none st.tm st.nt ps assign body V.nx) ⟨Ci (Cv _) (Nat.le_succ _),fn,a.tmps,by rw[hι],hr.nt,λt x hx=>((hr.tm t x hx).mono L1).mono L2⟩;have L12:=L1.trans L2;generalize hV2:(V.add w.heap.size).add (w.alloc (.deferred (some []))).heap.size=V2 at H2 L2 L12 hι;have hnx2:V2.nx=st.nx+2:=by rw[<-hV2];show V.nx+1+1=_;rw[hr.nx]
 have hιL:V2.ι (V.nx+1)=w.heap.size+1:=by rw[<-hV2];have:=(V.add w.heap.size).add_at (w.alloc (.deferred (some []))).heap.size;rw[World.size_alloc]at this;rw[World.size_alloc];exact this
 have hcl:(V.add w.heap.size).nx=V.nx+1:=rfl;rw[hcl]at H2;rw[hr.nx]at H2 hιL hι;obtain⟨W2,hW2⟩:∃W2,(w.alloc (.deferred (some []))).alloc (.loop {state:=.ready,pending:=none,fn:=fn,tmps:=a.tmps,params:=ps,assign:=assign,body:=body,defers:=w.heap.size})=W2:=⟨_,rfl⟩;rw[hW2]at H2 L12;refine⟨w.heap.size+1,[{target:=.collected w.heap.size,args:=#[]}],W2,{target:=.fn (.func gf) (caps.map λp=>Value.pointer (some ⟨V.ι p.1,p.2,none⟩)).toArray,args:=#[.func (.yield (w.heap.size+1)) #[] #[]]},W2,gf,#[.func (.yield (w.heap.size+1)) #[] #[]]++(caps.map λp=>Value.pointer (some ⟨V.ι p.1,p.2,none⟩)).toArray,W2,?_,?_,?_,?_,(by intro h;cases h),?_⟩;rw[<-hW2];exact run_enterLoop_outer fn.1 a.tmps ps assign body;simp only[resolve,hv2];simp[go_sem];exact λ_ _=>trivial;have:=hc.1 (#[.func (.yield (w.heap.size+1)) #[] #[]]++(caps.map λp=>Value.pointer (some ⟨V.ι p.1,p.2,none⟩)).toArray) W2;simp only[invoke];exact this;have hargs:argsRel V2 W2 (.one (.yld (st.nx+1))::K9 caps) (#[.func (.yield (w.heap.size+1)) #[] #[]]++(caps.map λp=>Value.pointer (some ⟨V.ι p.1,p.2,none⟩)).toArray):=by
  have h1:argsRel V2 W2 [.one (.yld (st.nx+1))] #[.func (.yield (w.heap.size+1)) #[] #[]]:=⟨rfl,λi y hy=>by
   match i,hy with
   |0,hy=>cases hy;exact⟨_,rfl,by rw[hnx2];omega,by rw[hιL];rfl⟩⟩
  have h2:argsRel V2 W2 (K9 caps) (caps.map λp=>Value.pointer (some ⟨V.ι p.1,p.2,none⟩)).toArray:=by have h3:=ZR (V:=V2) (w:=W2) (caps:=caps) (λp hp=>Ci (hv1 p hp) L12.nx);rw[Cy (g:=λp=>Value.pointer (some ⟨V.ι p.1,p.2,none⟩)) (λp hp=>by rw[L12.ι p.1 (hv1 p hp)])]at h3;exact h3
  exact h1.append h2
 have hcall:=hc.2 E V2 W2 _ rfl (HRel.wd H2 hW) H2 hnx2 hargs;have hcall':CallsIn Fence.wide (n-1) E.P gf _ W2 _:=callsIn_wide.2 hcall;refine CallsIn.mono (F:=FR none) hcall' ?_;rintro e' w3 ⟨V3,rfl,H3,hn3,L3⟩;have L:=L12.trans L3;have H5:=H3.drop (st.nx+1);have hD5:lk (QT (st.nx+1) m2.hp) st.nx=some (.obj (.deferred (some []))):=by rw[Y0,Ca (by omega)];exact hD
 obtain⟨H6,L6⟩:=H5.freeze hD5;have e1:V3.ι st.nx=w.heap.size:=by rw[L3.ι _ (by rw[hnx2];omega)];exact hι
 obtain⟨-,oD,hoD,hDr⟩:=H5.own _ _ hD5;have hoD':oD=.deferred (some []):=hDr;rw[hoD',e1]at hoD;obtain⟨V6,hV6⟩:∃V6:Vu,{V3 with S:=λb o=>V3.S b o\/b=V3.ι st.nx}=V6:=⟨_,rfl⟩;have hS6:V6.S w.heap.size 0:=by rw[<-hV6];exact .inr e1.symm
 have hn6:V6.nx=m2.nx:=by rw[<-hV6];exact hn3
 rw[hV6]at H6 L6;have LL:=L.trans L6;exact hQ V6 _ _ ⟨H6,hn6,hr.nt,hr.df.push LL (Cl _) hS6 hoD (λo hs=>(H5.new _ _ hD5).2 o (by rw[e1];exact H5.le0.S _ _ hs)),λt x hx=>(hr.tm t x hx).mono LL⟩
theorem Q5m{W:Wd}{P:Program}{g:Operand}{ps:Array Nat}{assign body:Code}{st:St}{gf:FuncId}{caps:List (Nat×Nat)}{m2:Mem}{s0:LoopState}{p0:Option Code}{tm0:List (Nat×TV)}{nt0:Nat}{ps0:Array Nat}{as0 bd0:Code}{D0 L0:Nat}{pv:Value}(hg:ev st.tm g=some (.v (.one (.fn gf caps))))(h0:lk st.hp L0=some (.loop s0 p0 tm0 nt0 ps0 as0 bd0 D0))(hc:Q7w W P gf (.one (.yld st.nx)::K9 caps) ⟨(st.nx,.loop .ready none st.tm st.nt ps assign body D0)::st.hp,st.tk,st.nx+1⟩ pv m2):Qap W P (some L0) (.rangeFunc g ps assign body) st (.panic (Kz pv)) ⟨st.tm,QT st.nx m2.hp,m2.tk,m2.nx,st.nt,st.df⟩:=by
 intro E ro n Q hP hW hv0 hro hQ V a w hr;subst hP;obtain⟨hL0,rfl⟩:=hro;refine Zl (λfn _=>?_);obtain⟨hv1,hv2⟩:=hr.ev hg;obtain⟨-,ob0,hob0,hD0,fn0,tmps0,rfl,hsz0,htm0⟩:=hr.h.own L0 _ h0;have hι0:V.ι L0=E.V0.ι L0:=hr.h.le0.ι L0 hL0;have L1:=hr.h.le (w':=w.alloc (.loop {state:=.ready,pending:=none,fn:=fn,tmps:=a.tmps,params:=ps,assign:=assign,body:=body,defers:=V.ι D0})) ⟨rfl,rfl,rfl,by simp,λk hk _=>Below.heap_alloc w _ k hk⟩ (V.add_grow w.heap.size hr.h.sz ⟨rfl,rfl,rfl,by simp,λk hk _=>Below.heap_alloc w _ k hk⟩);have H1:=hr.h.addOwn (.loop {state:=.ready,pending:=none,fn:=fn,tmps:=a.tmps,params:=ps,assign:=assign,body:=body,defers:=V.ι D0}) (.loop .ready none st.tm st.nt ps assign body D0) ⟨Ci hD0 L1.nx,fn,a.tmps,by rw[L1.ι D0 hD0],hr.nt,λt x hx=>(hr.tm t x hx).mono L1⟩;have hιL:(V.add w.heap.size).ι V.nx=w.heap.size:=V.add_at _;generalize hV2:V.add w.heap.size=V2 at H1 L1 hιL;have hnx2:V2.nx=st.nx+1:=by rw[<-hV2];show V.nx+1=_;rw[hr.nx]
 rw[hr.nx]at H1 hιL;obtain⟨W2,hW2⟩:∃W2,w.alloc (.loop {state:=.ready,pending:=none,fn:=fn,tmps:=a.tmps,params:=ps,assign:=assign,body:=body,defers:=V.ι D0})=W2:=⟨_,rfl⟩;rw[hW2]at H1 L1;refine⟨w.heap.size,[],W2,{target:=.fn (.func gf) (caps.map λp=>Value.pointer (some ⟨V.ι p.1,p.2,none⟩)).toArray,args:=#[.func (.yield w.heap.size) #[] #[]]},W2,gf,#[.func (.yield w.heap.size) #[] #[]]++(caps.map λp=>Value.pointer (some ⟨V.ι p.1,p.2,none⟩)).toArray,W2,?_,?_,?_,?_,(by intro h;cases h),?_⟩;rw[<-hW2];rw[hι0]at hob0;unfold Instr.enterLoop;simp only[FR,Sem.run_bind,run_getLoop hob0,run_newObj_alloc,Result.andThen,Sem.run_pure];simp only[resolve,hv2];simp[go_sem];exact λ_ _=>trivial;have:=hc.1 (#[.func (.yield w.heap.size) #[] #[]]++(caps.map λp=>Value.pointer (some ⟨V.ι p.1,p.2,none⟩)).toArray) W2;simp only[invoke];exact this;have hargs:argsRel V2 W2 (.one (.yld st.nx)::K9 caps) (#[.func (.yield w.heap.size) #[] #[]]++(caps.map λp=>Value.pointer (some ⟨V.ι p.1,p.2,none⟩)).toArray):=by
  have h1:argsRel V2 W2 [.one (.yld st.nx)] #[.func (.yield w.heap.size) #[] #[]]:=⟨rfl,λi y hy=>by
   match i,hy with
   |0,hy=>cases hy;exact⟨_,rfl,by rw[hnx2];omega,by rw[hιL];rfl⟩⟩
  have h2:argsRel V2 W2 (K9 caps) (caps.map λp=>Value.pointer (some ⟨V.ι p.1,p.2,none⟩)).toArray:=by have h3:=ZR (V:=V2) (w:=W2) (caps:=caps) (λp hp=>Ci (hv1 p hp) L1.nx);rw[Cy (g:=λp=>Value.pointer (some ⟨V.ι p.1,p.2,none⟩)) (λp hp=>by rw[L1.ι p.1 (hv1 p hp)])]at h3;exact h3
  exact h1.append h2
 have hcall:=hc.2 E V2 W2 _ rfl (HRel.wd H1 hW) H1 hnx2 hargs;have hcall':CallsIn Fence.wide (n-1) E.P gf _ W2 _:=callsIn_wide.2 hcall;refine CallsIn.mono (F:=FR (some (E.V0.ι L0))) hcall' ?_;rintro e' w3 ⟨V3,rfl,H3,hn3,L3⟩;have L:=L1.trans L3;exact hQ V3 _ _ ⟨H3.drop st.nx,hn3,hr.nt,hr.df.le L,λt x hx=>(hr.tm t x hx).mono L⟩
end
section
open Go.RowKit
structure StW(st st':St):Prop where
 tm:∀t y,lk st'.tm t=some y->y=.unk\/∃x,lk st.tm t=some x/\∀V w v,x.rel V w v->y.rel V w v
 hp:∀i B,lk st'.hp i=some B->∃A,lk st.hp i=some A/\∀V w o,A.rel V w o->B.rel V w o
 tk:∀i T,lk st'.tk i=some (some T)->lk st.tk i=some (some T)
 nx:st'.nx=st.nx
 nt:st'.nt=st.nt
 df:st'.df=st.df
theorem StW.refl(st:St):StW st st:=⟨λt y h=>.inr ⟨y,h,λ_ _ _ h=>h⟩,λi B h=>⟨B,h,λ_ _ _ h=>h⟩,λi T h=>h,rfl,rfl,rfl⟩
theorem HRel.weak{E:Env}{V:Vu}{hp hp':List (Nat×HB)}{tk tk':List (Nat×Option Tok)}{w:World}(h:HRel E V hp tk w)(hh:∀i B,lk hp' i=some B->∃A,lk hp i=some A/\∀V w o,A.rel V w o->B.rel V w o)(ht:∀i T,lk tk' i=some (some T)->lk tk i=some (some T)):HRel E V hp' tk' w:=by refine⟨h.ext,h.le0,h.sz,h.sub,λi B hi=>?_,λi j A B hi hj=>?_,λi B hi=>?_,λi T hi=>?_,λi j T U g hi hj=>h.tki i j T U g (ht i T hi) (ht j U hj)⟩;obtain⟨x,hx,hxy⟩:=hh i B hi;obtain⟨h1,o,h2,h3⟩:=h.own i x hx;exact⟨h1,o,h2,hxy _ _ _ h3⟩;obtain⟨x,hx,-⟩:=hh i A hi;obtain⟨y,hy,-⟩:=hh j B hj;exact h.inj i j x y hx hy;obtain⟨x,hx,-⟩:=hh i B hi;exact h.new i x hx;obtain⟨h1,h2,xs,h3,h4⟩:=h.tok i T (ht i T hi);refine⟨h1,h2,xs,h3,λg hg=>⟨(h4 g hg).1,(h4 g hg).2.1,λj B hj=>?_⟩⟩;obtain⟨x,hx,-⟩:=hh j B hj;exact(h4 g hg).2.2 j x hx
theorem Rel.weak{E:Env}{V:Vu}{st st':St}{a:Act}{w:World}(h:Rel E V st a w)(hl:StW st st'):Rel E V st' a w:=⟨h.h.weak hl.hp hl.tk,h.nx.trans hl.nx.symm,h.nt.trans hl.nt.symm,by rw[hl.df];exact h.df,λt y hy=>by rcases hl.tm t y hy with e|⟨x,hx,hxy⟩;subst e;trivial;exact hxy _ _ _ (h.tm t x hx)⟩
structure StB(m:Nat)(st:St):Prop where
 tm:∀t x,lk st.tm t=some x->x.below m
 hp:∀i B,lk st.hp i=some B->i<m/\B.below m
 tk:∀i T,lk st.tk i=some (some T)->i<m
 df:∀i,i∈st.df.tail->i<m
theorem Qjy{E:Env}{V:Vu}{st:St}{a:Act}{w:World}{m:Nat}(h:Rel E V st a w)(hb:StB m st)(h0:E.V0.nx<=m):∃V',Rel E V' ⟨st.tm,st.hp,st.tk,m,st.nt,st.df⟩ a w:=by
 have H:=h.h;refine⟨{V with nx:=m},⟨H.ext,⟨h0,H.le0.ι,H.le0.cu,H.le0.κ,H.le0.S,H.le0.cell,H.le0.dk⟩,H.sz,H.sub,?_,H.inj,H.new,?_,?_⟩,Z,h.nt,h.df.trim hb.df,?_⟩;intro i B hi;obtain⟨h1,h2⟩:=hb.hp i B hi;obtain⟨-,o,ho,hB⟩:=H.own i B hi;refine⟨h1,o,ho,?_⟩;cases B with|cells T xs=>(obtain⟨vs,h3,h4⟩:=hB;exact⟨vs,h3,h4.trim h2⟩)|obj o'=>exact hB|loop s p tm nt ps assign body D=>(obtain⟨-,fn,tmps,h3,h4,h5⟩:=hB;exact⟨h2.1,fn,tmps,h3,h4,λt x hx=>(h5 t x hx).trim (h2.2 t x hx)⟩)|mp es clock=>obtain⟨ents,h3,h4,h5⟩:=hB;exact⟨ents,h3,h4,λi k x b hi=>let⟨v,h6,h7⟩:=h5 i k x b hi;⟨v,h6,h7.trim (h2 _ (Cr hi))⟩⟩
 intro i T hi;obtain⟨h1,hcu,xs,h2,h3⟩:=H.tok i T hi;exact⟨hb.tk i _ hi,hcu,xs,h2,h3⟩;exact H.tki;intro t y hy;exact(h.tm t y hy).trim (hb.tm t y hy)
structure Univ where
 T:Type
 R:T->Type
 eq:(a b:T)->Option (PLift (a=b))
 E:∀t,Enc (R t)
section
variable(U:Univ)
inductive TC where
 |v (x:Value)
 |str (s:Bs)
 |sl (t:U.T) (l:List (U.R t))
inductive TA where
 |c (x:TC U)
 |ptr (i off:Nat)
 |pel (t:U.T) (x:U.R t) (off:Nat)
 |fn (f:FuncId) (caps:List (Nat×Nat))
 |app (i ver:Nat)
 |raw (x:CA)
inductive It where
 |one (x:TA U)
 |grp (t:U.T) (x:U.R t)
inductive TAV where
 |one (x:TA U)
 |agg (xs:List (It U))
inductive TTV where
 |v (x:TAV U)
 |tup (xs:List (TAV U))
 |unk
structure TTok where
 E:TypeId
 t:U.T
 l:List (U.R t)
 ver:Nat
inductive Ev where
 |box (i:Nat) (T:TypeId) (xs:List (It U))
 |set (i off:Nat) (xs:List (It U))
 |raw (i:Nat) (B:HB)
 |lp (i:Nat) (s:LoopState) (p:Option Code) (tm:List (Nat×TTV U)) (nt:Nat) (ps:Array Nat) (a b:Code) (d:Nat)
 |ls (i:Nat) (xs:List (Nat×TTV U))
structure TMe where
 es:List (Ev U)
 tk:List (Nat×TTok U)
 nx:Nat
structure TSt where
 tm:List (Nat×TTV U)
 m:TMe U
 nt:Nat
 df:List Nat
structure Codec where
 fl:∀t,U.R t->List (TC U)
 sub:∀t,U.R t->Nat->Nat->Option (Sigma U.R)
 bld:∀t,List (It U)->Option (U.R t)
end
section
variable{U:Univ}
def TC.er:TC U->C|.v x=>.v x|.str s=>.v (.string (sB s))|.sl t l=>.sl (U.E t).sz ((U.E t).encL l)
def TTok.er(T:TTok U):Tok:=⟨T.E,(U.E T.t).sz,((U.E T.t).encL T.l).length,[]⟩
def TTok.erO(T:TTok U):Option Tok:=cond (Nat.beq T.E 0) none (some T.er)
theorem Q8b{T:TTok U}{x:Tok}(h:T.erO=some x):T.er=x/\Nat.beq T.E 0=false:=by unfold TTok.erO at h;cases hb:Nat.beq T.E 0 with|true=>rw[hb]at h;cases h|false=>rw[hb]at h;exact⟨Cw h,rfl⟩
theorem KK{T:TTok U}(h:Nat.beq T.E 0=false):T.erO=some T.er:=by unfold TTok.erO;rw[h];rfl
def WB(tk:List (Nat×TTok U)):List (Nat×Option Tok):=tk.map λp=>(p.1,p.2.erO)
def cur(tk:List (Nat×TTok U))(i ver:Nat):Option (TTok U):=match lk tk i with|some T=>cond (Nat.beq T.ver ver) (some T) none|none=>none
def TA.er(tk:List (Nat×TTok U)):TA U->CA|.c x=>.d x.er|.ptr i off=>.ptr i off|.pel t x off=>.pel ((U.E t).enc x) off|.fn f caps=>.fn f caps|.app i ver=>(match cur tk i ver with|some T=>.app i (U.E T.t).sz ((U.E T.t).encL T.l)|none=>.any)|.raw x=>x
variable(D:Codec U)
def It.cells:It U->List (TA U)|.one x=>[x]|.grp t x=>(D.fl t x).map .c
def Yz(xs:List (It U)):List (TA U):=xs.flatMap (It.cells D)
def Jy(tk:List (Nat×TTok U))(xs:List (It U)):List CA:=(Yz D xs).map (TA.er tk)
def TAV.er(tk:List (Nat×TTok U)):TAV U->AV|.one x=>.one (x.er tk)|.agg xs=>.agg (Jy D tk xs)
def TTV.er(tk:List (Nat×TTok U)):TTV U->TV|.v x=>.v (x.er D tk)|.tup xs=>.tup (xs.map (TAV.er D tk))|.unk=>.unk
def QW{α β:Type}(f:α->β)(l:List (Nat×α)):List (Nat×β):=l.map λp=>(p.1,f p.2)
theorem QY{α β:Type}(f:α->β):∀(l:List (Nat×α))(i:Nat),lk (QW f l) i=(lk l i).map f|[],i=>rfl|(k,x)::l,i=>by show lk ((k,f x)::QW f l) i=_;rw[Q8,Q8,QY f l i];split <;> rfl
theorem Xk{tk:List (Nat×TTok U)}{i j:Nat}{T0:TTok U}{x y:Tok}{l:List (Nat×Option Tok)}(hy:T0.er=y)(hl:∀j,lk l j=lk ((i,some y)::WB tk) j)(h:lk (WB ((i,T0)::tk)) j=some (some x)):lk l j=some (some x):=by have h':lk ((i,T0.erO)::WB tk) j=some (some x):=h;rw[hl,Q8];rw[Q8]at h';by_cases e:i=j;rw[Cf e]at h'⊢;rw[<-hy,(Q8b (Cw h')).1];rw[Ca e]at h'⊢;exact h'
def Qq(tk:List (Nat×TTok U)):List (Ev U)->List (Nat×HB)|[]=>[]|.box i T xs::es=>(i,.cells T (Jy D tk xs))::Qq tk es|.raw i B::es=>(i,B)::Qq tk es|.lp i s p tm nt ps a b d::es=>(i,.loop s p (QW (TTV.er D tk) tm) nt ps a b d)::Qq tk es|.ls i xs::es=>(match lk (Qq tk es) i with|some (.loop s p tm nt ps a b d)=>(i,.loop s p (QW (TTV.er D tk) xs++tm) nt ps a b d)::Qq tk es|_=>Qq tk es)|.set i off xs::es=>match lk (Qq tk es) i with|some (.cells T ys)=>(i,.cells T (setL ys off (Jy D tk xs)))::Qq tk es|_=>Qq tk es
def TMe.er(m:TMe U):Mem:=⟨Qq D m.tk m.es,WB m.tk,m.nx⟩
def TSt.er(st:TSt U):St:=⟨QW (TTV.er D st.m.tk) st.tm,Qq D st.m.tk st.m.es,WB st.m.tk,st.m.nx,st.nt,st.df⟩
structure Codec.OK:Prop where
 fl:∀t x,(D.fl t x).map TC.er=(U.E t).enc x
 sz:∀t x,((U.E t).enc x).length=(U.E t).sz
 sub:∀t x off n t' x',D.sub t x off n=some ⟨t',x'⟩->((D.fl t x).drop off).take n=D.fl t' x'/\(D.fl t' x').length=n
 bld:∀tk t xs x,D.bld t xs=some x->CSubs (Jy D tk xs) ((U.E t).enc x)
end
end
section
open Go.RowKit
section
variable{U:Univ}(D:Codec U)
def It.size:It U->Nat|.one _=>1|.grp t _=>(U.E t).sz
def Jd:List (It U)->Nat|[]=>0|x::xs=>x.size+Jd xs
def Qem(xs:List (TA U)):List (It U):=xs.map .one
def ZP:List (It U)->Nat->List (It U)×List (It U)|[],_=>([],[])|x::xs,n=>cond (Nat.beq n 0) ([],x::xs) (cond (Nat.ble x.size n) (x::(ZP xs (n-x.size)).1,(ZP xs (n-x.size)).2) (Qem ((x.cells D).take n),Qem ((x.cells D).drop n)++xs))
def Qtt(x:It U)(off n:Nat):List (It U):=match x with|.grp t v=>(match D.sub t v off n with|some ⟨t',v'⟩=>[.grp t' v']|none=>Qem ((((It.grp t v).cells D).drop off).take n))|.one v=>Qem ((((It.one v).cells D).drop off).take n)
def Q7y:List (It U)->Nat->Nat->List (It U)|[],_,_=>[]|x::xs,off,n=>cond (Nat.ble x.size off) (Q7y xs (off-x.size) n) (cond (Nat.ble (off+n) x.size&&!(Nat.beq off 0&&Nat.beq n x.size)) (Qtt D x off n) (cond (Nat.beq off 0) (ZP D (x::xs) n).1 (ZP D (Qem ((x.cells D).drop off)++xs) n).1))
def Qrp(xs:List (It U))(off:Nat)(ys:List (It U)):List (It U):=(ZP D xs off).1++ys++(ZP D xs (off+Jd ys)).2
variable{D}
theorem Gf(xs:List (TA U)):Yz D (Qem xs)=xs:=by induction xs with|nil=>rfl|cons x xs ih=>show Yz D (.one x::Qem xs)=_;unfold Yz at ih⊢;rw[List.flatMap_cons,ih];rfl
theorem Yy(x:It U)(xs:List (It U)):Yz D (x::xs)=x.cells D++Yz D xs:=List.flatMap_cons
theorem Q0i(xs ys:List (It U)):Yz D (xs++ys)=Yz D xs++Yz D ys:=List.flatMap_append
variable(hD:D.OK)
include hD
theorem Q29(x:It U):(x.cells D).length=x.size:=by cases x with|one x=>rfl|grp t x=>show((D.fl t x).map TA.c).length=_;rw[Co];have h:=congrArg List.length (hD.fl t x);rw[Co,hD.sz]at h;exact h
theorem K0:∀xs:List (It U),(Yz D xs).length=Jd xs|[]=>rfl|x::xs=>by rw[Yy,C8,Q29 hD,K0 xs];rfl
theorem Ke:∀(xs:List (It U))(n:Nat),Yz D (ZP D xs n).1=(Yz D xs).take n/\Yz D (ZP D xs n).2=(Yz D xs).drop n|[],n=>by constructor <;> (show([]:List (TA U))=_;show[]=_;simp[Yz])|x::xs,n=>by have hl:=Q29 hD x;unfold ZP;cases h0:Nat.beq n 0 with|true=>have:=Cc h0;subst this;exact⟨by simp[Yz],by simp⟩|false=>rw[C6];cases h1:Nat.ble x.size n with|true=>(rw[C5];have hle:=C9 h1;obtain⟨i1,i2⟩:=Ke xs (n-x.size);dsimp only;refine⟨?_,?_⟩;have t1:(x.cells D).take n=x.cells D:=PM (by omega);rw[Yy,Yy,i1,List.take_append,hl,t1];have t1:(x.cells D).drop n=[]:=Sn (by omega);rw[i2,Yy,List.drop_append,hl,t1,Pj])|false=>rw[C6];(have hlt:n<x.size:=by rcases P2 n x.size with h|h;exact h;rw[C7 h]at h1;cases h1);dsimp only;refine⟨?_,?_⟩;rw[Gf,Yy,List.take_append_of_le_length (by omega)];rw[Q0i,Gf,Yy,S3 (by omega)]
theorem DX:∀(xs:List (It U))(off n:Nat),Yz D (Q7y D xs off n)=((Yz D xs).drop off).take n|[],off,n=>by simp[Q7y,Yz]|x::xs,off,n=>by have hl:=Q29 hD x;unfold Q7y;cases h1:Nat.ble x.size off with|true=>have hle:=C9 h1;have t1:(x.cells D).drop off=[]:=Sn (by omega);rw[C5,DX xs,Yy,List.drop_append,hl,t1,Pj]|false=>(have hlt:off<x.size:=by rcases P2 off x.size with h|h;exact h;rw[C7 h]at h1;cases h1);rw[C6];cases h2:(Nat.ble (off+n) x.size&&!(Nat.beq off 0&&Nat.beq n x.size))with|true=>(rw[C5];have hle:off+n<=x.size:=C9 (C2.1 h2).1;(have hc:((x.cells D).drop off).take n=((Yz D (x::xs)).drop off).take n:=by rw[Yy,S3 (by omega),List.take_append_of_le_length (by rw[Cq];omega)]);rw[<-hc];unfold Qtt;cases x with|one v=>exact Gf _|grp t v=>dsimp only;split;rename_i t' v' hs;obtain⟨q1,q2⟩:=hD.sub t v off n t' v' hs;show Yz D [It.grp t' v']=(((D.fl t v).map TA.c).drop off).take n;rw[<-S8,<-S9,q1];show(D.fl t' v').map TA.c++[]=_;rw[CC];exact Gf _)|false=>rw[C6];cases h3:Nat.beq off 0 with|true=>rw[C5,(Ke hD _ n).1,Cc h3,Pp]|false=>rw[C6,(Ke hD _ n).1,Q0i,Gf,Yy,S3 (by omega)]
theorem Qro(xs:List (It U))(off:Nat)(ys:List (It U)):Yz D (Qrp D xs off ys)=(Yz D xs).take off++Yz D ys++(Yz D xs).drop (off+Jd ys):=by unfold Qrp;rw[Q0i,Q0i,(Ke hD xs off).1,(Ke hD xs _).2]
omit hD
theorem Qaz:∀(ys xs:List CA)(off:Nat),off+ys.length<=xs.length->setL xs off ys=xs.take off++ys++xs.drop (off+ys.length)|[],xs,off,_=>by simp[setL]|y::ys,xs,off,h=>by rw[C1]at h;show setL (xs.set off y) (off+1) ys=_;rw[Qaz ys _ _ (by rw[S7];omega),C1];(have hoff:off<xs.length:=by omega);rw[List.take_succ_eq_append_getElem (by rw[S7];omega),List.getElem_set_self,List.take_set_of_le (Cl _),List.drop_set_of_lt (by omega),show off+1+ys.length=off+(ys.length+1) by omega];simp
include hD
theorem Qhl(tk:List (Nat×TTok U))(xs:List (It U))(off:Nat)(ys:List (It U))(h:off+Jd ys<=Jd xs):Jy D tk (Qrp D xs off ys)=setL (Jy D tk xs) off (Jy D tk ys):=by have h1:=K0 hD xs;have h2:=K0 hD ys;unfold Jy;rw[Qro hD,Qaz _ _ _ (by rw[Co,Co];omega),Ct,Ct,S9,S8,Co,h2]
omit hD
variable(D)in
def UW:List (Ev U)->Nat->Nat->Nat->Option (List (It U))
 |[],_,_,_=>none
 |.box j T xs::es,i,off,n=>cond (Nat.beq j i) (cond (Nat.ble (off+n) (Jd xs)) (some (Q7y D xs off n)) none) (UW es i off n)
 |.raw j B::es,i,off,n=>cond (Nat.beq j i) none (UW es i off n)
 |.lp j _ _ _ _ _ _ _ _::es,i,off,n=>cond (Nat.beq j i) none (UW es i off n)
 |.ls j _::es,i,off,n=>cond (Nat.beq j i) none (UW es i off n)
 |.set j o xs::es,i,off,n=>match UW es i off n with
  |none=>none
  |some ys=>cond (Nat.beq j i) (cond (Nat.ble (off+n) o||Nat.ble (o+Jd xs) off) (some ys)
    (cond (Nat.ble o off&&Nat.ble (off+n) (o+Jd xs)) (some (Q7y D xs (off-o) n))
     (cond (Nat.ble off o&&Nat.ble (o+Jd xs) (off+n)) (some (Qrp D ys (o-off) xs)) none))) (some ys)
variable(D)in
def ZJ:List (Ev U)->Nat->Option (TypeId×Nat)|[],_=>none|.box j T xs::es,i=>cond (Nat.beq j i) (some (T,Jd xs)) (ZJ es i)|.raw j B::es,i=>cond (Nat.beq j i) none (ZJ es i)|.lp j _ _ _ _ _ _ _ _::es,i=>cond (Nat.beq j i) none (ZJ es i)|.ls j _::es,i=>cond (Nat.beq j i) none (ZJ es i)|.set _ _ _::es,i=>ZJ es i
theorem KW{a b:Nat}(h:Nat.beq a b=false):a≠b:=λe=>by subst e;simp at h
include hD
theorem YI{tk:List (Nat×TTok U)}:∀{es:List (Ev U)}{i n T:Nat},ZJ es i=some (T,n)->∃ys,lk (Qq D tk es) i=some (.cells T ys)/\ys.length=n|.box j T xs::es,i,n,T',h=>(by unfold ZJ at h;unfold Qq;rw[Q8];cases hb:Nat.beq j i with|true=>rw[hb]at h;cases h;rw[Cf (Cc hb)];exact⟨_,rfl,by unfold Jy;rw[Co,K0 hD]⟩|false=>rw[hb]at h;rw[Ca (KW hb)];exact YI h)|.raw j B::es,i,n,T',h=>(by unfold ZJ at h;unfold Qq;rw[Q8];cases hb:Nat.beq j i with|true=>rw[hb]at h;cases h|false=>rw[hb]at h;rw[Ca (KW hb)];exact YI h)|.lp j _ _ _ _ _ _ _ _::es,i,n,T',h=>(by unfold ZJ at h;unfold Qq;rw[Q8];cases hb:Nat.beq j i with|true=>rw[hb]at h;cases h|false=>rw[hb]at h;rw[Ca (KW hb)];exact YI h)|.ls j xs::es,i,n,T',h=>(by unfold ZJ at h;unfold Qq;cases hb:Nat.beq j i with|true=>rw[hb]at h;cases h|false=>rw[hb]at h;split;rw[Q8,Ca (KW hb)];exact YI h;exact YI h)|.set j o xs::es,i,n,T',h=>by obtain⟨ys,h1,h2⟩:=YI (tk:=tk) (show ZJ es i=some (T',n)from h);unfold Qq;split;rename_i T zs hz;rw[Q8];by_cases e:j=i;subst e;rw[hz]at h1;cases h1;rw[Cf rfl];exact⟨_,rfl,by rw[JC];exact h2⟩;rw[Ca e];exact⟨ys,h1,h2⟩;exact⟨ys,h1,h2⟩
theorem YQ{tk:List (Nat×TTok U)}:∀{es:List (Ev U)}{i off n:Nat}{xs:List (It U)},UW D es i off n=some xs->∃T ys,lk (Qq D tk es) i=some (.cells T ys)/\off+n<=ys.length/\(ys.drop off).take n=Jy D tk xs|.box j T xs::es,i,off,n,zs,h=>(by unfold UW at h;unfold Qq;rw[Q8];cases hb:Nat.beq j i with|true=>(rw[hb,C5]at h;rw[Cf (Cc hb)];cases hl:Nat.ble (off+n) (Jd xs)with|false=>rw[hl]at h;cases h|true=>rw[hl]at h;cases h;refine⟨T,_,rfl,by unfold Jy;rw[Co,K0 hD];exact C9 hl,?_⟩;unfold Jy;rw[DX hD,S9,S8])|false=>rw[hb]at h;rw[Ca (KW hb)];exact YQ h)|.raw j B::es,i,off,n,zs,h=>(by unfold UW at h;unfold Qq;rw[Q8];cases hb:Nat.beq j i with|true=>rw[hb]at h;cases h|false=>rw[hb]at h;rw[Ca (KW hb)];exact YQ h)|.lp j _ _ _ _ _ _ _ _::es,i,off,n,zs,h=>(by unfold UW at h;unfold Qq;rw[Q8];cases hb:Nat.beq j i with|true=>rw[hb]at h;cases h|false=>rw[hb]at h;rw[Ca (KW hb)];exact YQ h)|.ls j xs::es,i,off,n,zs,h=>(by unfold UW at h;unfold Qq;cases hb:Nat.beq j i with|true=>rw[hb]at h;cases h|false=>rw[hb]at h;split;rw[Q8,Ca (KW hb)];exact YQ h;exact YQ h)|.set j o xs::es,i,off,n,zs,h=>by unfold UW at h;split at h;cases h;rename_i ys hys;obtain⟨T,vs,h1,h2,h3⟩:=YQ (tk:=tk) hys;(have hx:(Jy D tk xs).length=Jd xs:=by unfold Jy;rw[Co,K0 hD]);unfold Qq;cases hb:Nat.beq j i with|false=>rw[hb]at h;cases h;have hne:=KW hb;split;rw[Q8,Ca hne];exact⟨T,vs,h1,h2,h3⟩;exact⟨T,vs,h1,h2,h3⟩|true=>have e:=Cc hb;subst e;rw[hb,C5]at h;rw[h1];dsimp only;rw[Q8,Cf rfl];refine⟨T,_,rfl,by rw[JC];exact h2,?_⟩;(have hin:∀(k:Nat)(ys:List CA)(zs:List CA)(q:Nat),(setL zs q ys)[k]?=if q<=k/\k<q+ys.length/\k<zs.length then ys[k-q]? else zs[k]?:=by intro k ys;induction ys with|nil=>intro zs q;show zs[k]?=_;rw[Ca (by rw[Cb];omega)]|cons y ys ih=>intro zs q;show(setL (zs.set q y) (q+1) ys)[k]?=_;rw[ih,S7,C1,Sb];by_cases c1:q+1<=k/\k<q+1+ys.length/\k<zs.length;rw[Cf c1,Cf (by omega),show k-q=(k-(q+1))+1 by omega];rfl;rw[Ca c1];by_cases c2:q=k;subst c2;rw[Cf rfl];by_cases c3:q<zs.length;rw[Cf c3,Cf (by omega),PD];rfl;rw[Ca c3,Ca (by omega),Pn (by omega)];rw[Ca c2,Ca (by omega)]);(have ext:∀{us bs:List CA},us.length=bs.length->(∀k,k<us.length->us[k]?=bs[k]?)->us=bs:=λ{us bs} hl hk=>Sm λk=>by by_cases c:k<us.length;exact hk k c;rw[Pn (by omega),Pn (by omega)]);(have hzl:(List.take n (List.drop off vs)).length=n:=by rw[CH,Cq];omega);(have hkey:∀k,k<n->((setL vs o (Jy D tk xs)).drop off |>.take n)[k]?=if o<=off+k/\off+k<o+Jd xs then(Jy D tk xs)[off+k-o]? else(Jy D tk ys)[k]?:=by intro k hk;rw[Pe,Cf hk,CS,hin,hx];by_cases c:o<=off+k/\off+k<o+Jd xs;rw[Cf c,Cf (by omega)];rw[Ca c,Ca (by omega),<-h3,Pe,Cf hk,CS]);(have hlen:((setL vs o (Jy D tk xs)).drop off |>.take n).length=n:=by rw[CH,Cq,JC];omega);(have hyl:Jd ys=n:=by have:=congrArg List.length h3;rw[hzl]at this;unfold Jy at this;rw[Co,K0 hD]at this;exact this.symm);cases c1:(Nat.ble (off+n) o||Nat.ble (o+Jd xs) off)with|true=>(rw[c1]at h;cases h;rw[<-h3];refine ext (by rw[hlen,hzl]) (λk hk=>?_);rw[hlen]at hk;rw[hkey k hk,h3,Ca];rcases CN.1 c1 with c|c <;> have:=C9 c <;> omega)|false=>rw[c1,C6]at h;cases c2:(Nat.ble o off&&Nat.ble (off+n) (o+Jd xs))with|true=>(rw[c2]at h;cases h;obtain⟨a1,a2⟩:=C2.1 c2;have b1:=C9 a1;have b2:=C9 a2;(have hel:(Jy D tk (Q7y D xs (off-o) n))=((Jy D tk xs).drop (off-o)).take n:=by unfold Jy;rw[DX hD,S9,S8]);rw[hel];refine ext (by rw[hlen,CH,Cq,hx];omega) (λk hk=>?_);rw[hlen]at hk;rw[hkey k hk,Cf (by omega),Pe,Cf hk,CS,show off-o+k=off+k-o by omega])|false=>rw[c2,C6]at h;cases c3:(Nat.ble off o&&Nat.ble (o+Jd xs) (off+n))with|false=>rw[c3]at h;cases h|true=>rw[c3]at h;cases h;obtain⟨a1,a2⟩:=C2.1 c3;have b1:=C9 a1;have b2:=C9 a2;rw[Qhl hD tk ys (o-off) xs (by omega)];(have hyl':(Jy D tk ys).length=n:=by unfold Jy;rw[Co,K0 hD,hyl]);refine ext (by rw[hlen,JC,hyl']) (λk hk=>?_);rw[hlen]at hk;rw[hkey k hk,hin,hx,hyl'];by_cases c:o<=off+k/\off+k<o+Jd xs;rw[Cf c,Cf (by omega),show k-(o-off)=off+k-o by omega];rw[Ca c,Ca (by omega)]
end
end
section
open Go.RowKit
section
variable{E:Env}{st:St}{d:Option Nat}{ty:TypeId}{pos:String}{af:Array Edge}{g:Option (Nat×Bool)}
def bc(s:Bs):List (List C):=s.map λb=>[C.v (.int .u8 b.toNat)]
theorem Qco(s:Bs):(bc s).length=s.length:=Co ..
theorem Qdv(s:Bs):Lib.strCells (sB s)=s.map λb=>Value.int .u8 b.toNat:=rfl
theorem Q1z{P:Program}{u:TypeId}(h:JS P u=true):P.underlying u=some .string:=by unfold JS at h;split at h;rename_i h1;exact h1;cases h
theorem Q3l{V:Vu}{hp:List (Nat×HB)}{tk:List (Nat×Option Tok)}{w:World}(h:HRel E V hp tk w){t u ty e by_ i:Nat}{v:Value}{es:List (List C)}{s:Bs}(ht:Ja E.P t=some (e,1))(hu:JS E.P u=true)(hte:KL E.P e=some (1,by_))(hi:(lk tk i=some (some ⟨e,1,es.length,[]⟩)/\v=V.κ i es.length)\/(i=V.nx/\es=[]/\v=.slice none 0 0))(hv:Reads V.S w (.sl 1 es) v)(hm:es.length+s.length<=1000000000)(hb:by_<=100000)(h2:s≠[]):∃v' w' gb m V',(Builtin.append_ #[t,u] ty #[v,.string (sB s)]).run E.P w=.ok v' w'/\V'=V.tok i (es++bc s).length v' gb m/\HRel E V' hp ((i,some ⟨e,1,(es++bc s).length,[]⟩)::tk) w'/\V.Le V' w w'/\Reads V'.S w' (.sl 1 (es++bc s)) v':=by
 obtain⟨hut,i1,hi1,hs1⟩:=Jx ht;obtain⟨i0,z,hi0,hz,hzs,hpos,hsz,hby⟩:=Q2q hte;have:i1=i0:=Cw (hi1.symm.trans hi0);subst this;have huu:=Q1z hu;have hlen:(bc s).length=s.length:=Qco s;have hne:bc s≠[]:=λe=>h2 (Cz (by rw[<-hlen,e];rfl));have hs0:0<s.length:=Sh.2 h2;have hbytes:∀n,n<=1000000000->n*i1.bytes<=140737488355328:=λn hn=>by
  rw[hby];calc n*by_<=1000000000*100000:=Nat.mul_le_mul hn hb
   _<=_:=by omega
 have hss:(sB s).size=s.length:=Za s;refine Q3m (i1:=i1) (us2:=Lib.strCells (sB s)) h hzs hsz hi hv ?_ ?_ ?_ (by rw[hlen];exact hm) hne ?_ ?_ ?_;intro e he;obtain⟨b,_,rfl⟩:=Cx.1 he;rfl;rw[Lib.strCells_length,hss,hlen,SE];intro k c hk;have e1:(bc s).flatten=s.map λb=>C.v (.int .u8 b.toNat):=by unfold bc;clear hm hlen hne hs0 hss h2 hk;induction s with|nil=>rfl|cons b s ih=>show[C.v (.int .u8 b.toNat)]++(s.map λb=>[C.v (.int .u8 b.toNat)]).flatten=_;rw[ih];rfl
 rw[e1,Cn]at hk;rw[Qdv,Cn];cases hq:s[k]? with|none=>rw[hq]at hk;cases hk|some b=>rw[hq]at hk;cases hk;exact⟨_,rfl,Reads.v _ rfl⟩
 rw[hlen];have hr:=run_append_nil_string (P:=E.P) w t u ty e i1 z hut huu hi1 hz (sB s) (by rw[hss];exact hs0) (by rw[hss];omega) (by rw[hss];have:=hbytes s.length (by omega);omega);rw[hss]at hr;have e1:((sB s).data.map λb=>Value.int .u8 b.toNat)=(Lib.strCells (sB s)).toArray:=by apply Sk;simp[Lib.strCells]
 rw[e1]at hr;exact hr;intro gg n cap cur hg h1c hroom hfit;rw[hlen]at hroom⊢;rw[Lib.strCells_length,hss,SE]at hfit;have hr:=Lib.run_append_room_string (P:=E.P) w t u ty e i1 hut huu hi1 hsz gg n cap cur hg (sB s) (by rw[hss];exact hroom) (by rw[hss];exact hfit);rw[hss]at hr;rw[Lib.strCells_length,hss,SE];exact hr;intro gg n cap olds hlo holds hcap hn;rw[hlen]at hcap hn⊢;have hr:=Lib.run_append_grow_string (P:=E.P) w t u ty e i1 z hut huu hi1 hz ⟨gg,0,none⟩ n cap olds (by rw[hsz];exact hlo) holds (sB s) (by rw[hss];exact hcap) (by rw[hss];omega) (by rw[hss];exact growslice_fits (by omega) (hbytes _ hn));rw[hss]at hr;exact hr
theorem Qg6{P:Program}{w:World}{t u ty e:Nat}{i:TypeInfo}(ht:P.underlying t=some (.slice e))(hu:P.underlying u=some .string)(hi:P.info? e=some i)(hs:i.size=1)(v:Value)(a:Option Addr)(n c:Nat)(hv:v=.slice a n c)(hn:n<=c):(Builtin.append_ #[t,u] ty #[v,.string (sB [])]).run P w=.ok v w:=by subst hv;have h0:(sB []).size=0:=rfl;have hf:=Lib.run_firstCells_string (P:=P) w 1 (sB []);rw[h0]at hf;cases a <;> simp[Builtin.append_,run_underlying ht,run_underlying hu,sizeOf,typeInfo,hi,hs,Builtin.lenOf,h0,hn,hf,storeCells,show Lib.strCells (sB [])=[]from rfl]
theorem Q8d{t u e by_ i:Nat}{o1 o2:Operand}{es:List (List C)}{s:Bs}(ht:Ja E.P t=some (e,1))(hu:JS E.P u=true)(hte:KL E.P e=some (1,by_))(hb:Nat.ble by_ 100000=true)(h1:ev st.tm o1=some (.v (.one (.app i 1 es))))(hi:lk st.tk i=some (some ⟨e,1,es.length,[]⟩))(h2:ev st.tm o2=some (TS s))(hm:Nat.ble (es.length+s.length) 1000000000=true):OpOK E ⟨d,.call {callee:=.builtin .append,args:=#[o1,o2],argTypes:=#[t,u]},ty,pos,af,g⟩ st (.v (.one (.app i 1 (es++bc s)))) ⟨st.hp,(i,some ⟨e,1,(es++bc s).length,[]⟩)::QT i st.tk,st.nx⟩:=by
 intro V a w hr ro n K Q hK;refine⟨λ_ _=>trivial,?_⟩;rw[Oper.semAt_eq _ _ _ (by intro c h;cases h)];have r1:=hr.ev h1;have r2:=J8 (hr.ev h2);have hexec:∀v' w',(Builtin.append_ #[t,u] ty #[a.eval o1,a.eval o2]).run E.P w=.ok v' w'->(execOp a.eval ⟨d,.call {callee:=.builtin .append,args:=#[o1,o2],argTypes:=#[t,u]},ty,pos,af,g⟩).run E.P w=.ok (.value v') w':=λv' w' h=>by simp[execOp,resolve,invoke,builtin,h]
 by_cases h0:s=[];subst h0;obtain⟨hut,i1,hi1,hs1⟩:=Jx ht;obtain⟨-,a1,cap1,b1,off1,us1,e1,hc1,-⟩:=r1.2.2.2.row;have:=Qg6 (w:=w) (ty:=ty) hut (Q1z hu) hi1 hs1 (a.eval o1) a1 _ cap1 e1 hc1;rw[hexec (a.eval o1) w (by rw[r2];exact this)];have hl:∀j,lk ((i,some (Tok.mk e 1 (es++bc []).length []))::QT i st.tk) j=lk st.tk j:=λj=>by rw[JI,Q8,show es++bc []=es from CC es];split;rename_i e3;subst e3;exact hi.symm;rfl
 refine hK V w _ (hr.h.congr (λ_=>rfl) hl) hr.nx (Vu.Le.refl _ _) ?_;rw[show es++bc []=es from CC es];exact r1;have hle:=C9 hm;obtain⟨v',w',gb,m,V',hrun,rfl,H,L,hrd⟩:=Q3l (ty:=ty) (s:=s) hr.h ht hu hte (.inl ⟨hi,r1.2.2.1⟩) r1.2.2.2 hle (C9 hb) h0;rw[hexec v' w' (by rw[r2];exact hrun)];have hlt:i<V.nx:=r1.1;have hnx:(V.tok i (es++bc s).length v' gb m).nx=st.nx:=by show max V.nx (i+1)=st.nx;rw[<-hr.nx];omega
 refine hK _ w' _ (H.congr (λ_=>rfl) (λj=>JI i _ st.tk j)) hnx L ?_;exact⟨Ci hlt L.nx,by rw[tok_cu];exact Cl _,by rw[YO],hrd⟩
theorem Q45{t u e by_:Nat}{o1 o2:Operand}{s:Bs}(ht:Ja E.P t=some (e,1))(hu:JS E.P u=true)(hte:KL E.P e=some (1,by_))(hb:Nat.ble by_ 100000=true)(h1:ev st.tm o1=some (Gh (.slice none 0 0)))(h2:ev st.tm o2=some (TS s))(hm:Nat.ble s.length 1000000000=true):OpOK E ⟨d,.call {callee:=.builtin .append,args:=#[o1,o2],argTypes:=#[t,u]},ty,pos,af,g⟩ st (.v (.one (.app st.nx 1 (bc s)))) ⟨st.hp,(st.nx,some ⟨e,1,(bc s).length,[]⟩)::st.tk,st.nx+1⟩:=by
 intro V a w hr ro n K Q hK;refine⟨λ_ _=>trivial,?_⟩;rw[Oper.semAt_eq _ _ _ (by intro c h;cases h)];have r1:=J8 (hr.ev h1);have r2:=J8 (hr.ev h2);have hexec:∀v' w',(Builtin.append_ #[t,u] ty #[a.eval o1,a.eval o2]).run E.P w=.ok v' w'->(execOp a.eval ⟨d,.call {callee:=.builtin .append,args:=#[o1,o2],argTypes:=#[t,u]},ty,pos,af,g⟩).run E.P w=.ok (.value v') w':=λv' w' h=>by simp[execOp,resolve,invoke,builtin,h]
 by_cases h0:s=[];subst h0;obtain⟨hut,i1,hi1,hs1⟩:=Jx ht;have:=Qg6 (w:=w) (ty:=ty) hut (Q1z hu) hi1 hs1 (.slice none 0 0) none 0 0 rfl (Cl _);rw[hexec _ w (by rw[r1,r2];exact this)];obtain⟨H,L⟩:=hr.h.tokNil e 1;refine hK _ w _ (by dsimp only;rw[<-hr.nx];exact H) (by show max V.nx (V.nx+1)=st.nx+1;rw[hr.nx];omega) L ?_;rw[<-hr.nx];exact KJ e 1;have hle:=C9 hm;have hnil:Reads V.S w (.sl 1 []) (.slice none 0 0):=(SlOf.nil 1).reads (V:=V) (Reads.v _ rfl);obtain⟨v',w',gb,m,V',hrun,rfl,H,L,hrd⟩:=Q3l (ty:=ty) (i:=V.nx) (es:=[]) (s:=s) hr.h ht hu hte (.inr ⟨rfl,rfl,rfl⟩) hnil (by simpa using hle) (C9 hb) h0;rw[hexec v' w' (by rw[r1,r2];exact hrun)];simp only[Pj]at H L hrd;refine hK _ w' _ (by rw[<-hr.nx];exact H) (by show max V.nx (V.nx+1)=st.nx+1;rw[hr.nx];omega) L ?_;rw[<-hr.nx];exact⟨Ci (Cv _) (S0 _ _),by rw[tok_cu];exact Cl _,by rw[YO],hrd⟩
end
end
section
open Go.RowKit
section
variable{E:Env}{st:St}{d:Option Nat}{ty:TypeId}{pos:String}{af:Array Edge}{g:Option (Nat×Bool)}
theorem Qec{P:Program}{e:TypeId}(h:Jw P e=some (false,1)){vs:Array Value}{k:Nat}{u:Value}(hu:vs[k]?=some u)(w:World):(part e vs k).run P w=.ok u w:=by obtain⟨h4,h5⟩:=Kd h w;simp[part,h4,h5,hu]
theorem Qq3{s f k:Nat}{x:Operand}{xs:List CA}{c:CA}(ht:Qqp E.P s f=some k)(hx:ev st.tm x=some (.v (.agg xs)))(hc:xs[k]?=some c):RO E ⟨d,.field s x f,ty,pos,af,g⟩ st (.v (.one c)):=by refine⟨(λ_ h=>nomatch h),λV a w hr=>?_⟩;obtain⟨vs,h1,h2,h3⟩:=hr.ev hx;obtain⟨u,h4,h5⟩:=h3 k c hc;refine⟨u,?_,h5⟩;unfold Qqp at ht;split at ht;rename_i fs hu;split at ht;rename_i fd hf;split at ht;rename_i ha;cases ht;simp[execOp,Instr.field,run_underlying hu,hf,h1,asAgg,Qec ha h4];cases ht;cases ht;cases ht
theorem Qq0{t n k:Nat}{x y:Operand}{xs:List CA}{c:CA}{m:Int}{kk:IntKind}(ht:Qqq E.P t=some n)(hx:ev st.tm x=some (.v (.agg xs)))(hy:ev st.tm y=some (Gh (.int kk m)))(hm:m=(k:Int))(hk:k<n)(hc:xs[k]?=some c):RO E ⟨d,.index t x y,ty,pos,af,g⟩ st (.v (.one c)):=by
 refine⟨(λ_ h=>nomatch h),λV a w hr=>?_⟩;subst hm;obtain⟨vs,h1,h2,h3⟩:=hr.ev hx;obtain⟨u,h4,h5⟩:=h3 k c hc;refine⟨u,?_,h5⟩;unfold Qqq at ht;split at ht;rename_i n' e hu;split at ht;rename_i ha;cases ht;have h6:(k:Int)<(n:Int):=by omega
 have h7:¬n<=k:=by omega
 obtain⟨h8,h9⟩:=Kd ha w;simp[execOp,Instr.index,h1,J8 (hr.ev hy),asIntOf,run_underlying hu,h6,h7,h9,Qec ha h4];cases ht;cases ht
theorem Qvf{T:TypeId}{x:Operand}{us:List Value}(ht:Qdm E.P T=true)(hx:ev st.tm x=some (.v (.agg (us.map λu=>.d (.v u))))):RO E ⟨d,.makeInterface T x,ty,pos,af,g⟩ st (Gh (.iface T (.agg us.toArray))):=by
 refine⟨(λ_ h=>nomatch h),λV a w hr=>⟨_,?_,Jl Z⟩⟩;obtain⟨vs,h1,h2,h3⟩:=hr.ev hx;have e2:vs=us.toArray:=by apply Sk;rw[Co]at h2;apply Sm;intro k;by_cases hk:k<us.length;obtain⟨u,h4,h5⟩:=h3 k (.d (.v us[k])) (by rw[Cn,Cm hk];rfl);(have e1:u=us[k]:=by cases h5;rfl);rw[Pz,h4,e1,Cm hk];rw[Pn (by rw[Pv,h2];omega)];exact(Pn (by show us.length<=k;omega)).symm
 unfold Qdm at ht;split at ht;rename_i fs hu;simp[execOp,Instr.makeInterface,run_underlying hu,h1,e2];cases ht
theorem Qk7{T t:TypeId}{x:Operand}{us:List Value}(ht:Qdm E.P T=true)(hx:ev st.tm x=some (Gh (.iface T (.agg us.toArray))))(ho:(us.all λu=>u.oneCell')=true):RO E ⟨d,.typeAssert x t T true,ty,pos,af,g⟩ st (.tup [.agg (us.map λu=>.d (.v u)),.one (.d (.v (.bool true)))]):=by refine⟨(λ_ h=>nomatch h),λV a w hr=>⟨.tuple #[.agg us.toArray,.bool true],?_,_,Z,Z,λk y hk=>?_⟩⟩;unfold Qdm at ht;split at ht;rename_i fs hu;simp[execOp,Instr.typeAssert,run_underlying hu,J8 (hr.ev hx)];cases ht;match k,hk with|0,hk=>(cases hk;refine⟨_,rfl,_,rfl,by simp,λj c hj=>?_⟩;rw[Cn]at hj;cases hq:us[j]? with|none=>rw[hq]at hj;cases hj|some u=>rw[hq]at hj;cases hj;exact⟨u,by simpa using hq,Reads.v _ (Ch.1 ho u (Cr hq))⟩)|1,hk=>cases hk;exact⟨_,rfl,Reads.v _ rfl⟩
theorem Qh1{P:Program}{t:TypeId}(h:Q8i P t=true):∃m,P.underlying t=some (.interface m):=by unfold Q8i at h;split at h;rename_i m h1;exact⟨m,h1⟩;cases h
def Dx:Value->Option Bool|.nilIface=>some true|.iface _ _=>some false|_=>none
theorem Qmr{P:Program}{t:TypeId}(h:Q8i P t=true){v:Value}{b:Bool}(hv:Dx v=some b)(w:World):(Op.equal t v .nilIface).run P w=.ok b w:=by obtain⟨m,hm⟩:=Qh1 h;unfold Dx at hv;unfold Op.equal;rw[show Op.maxDepth=(Op.maxDepth-1)+1 from rfl];unfold Op.equalIn;split at hv <;> cases hv <;> simp[run_underlying hm]
theorem J5z{t t':TypeId}{x:Operand}{v:Value}{b:Bool}(ht:Q8i E.P t=true)(hx:ev st.tm x=some (Gh v))(hv:Dx v=some b):RO E ⟨d,.binOp .eql t x (.const .nilIface) t',ty,pos,af,g⟩ st (TB b):=by refine⟨(λ_ h=>nomatch h),λV a w hr=>⟨.bool b,?_,Jl Z⟩⟩;have e:=Qmr ht hv w;have e0:a.eval (.const .nilIface)=.nilIface:=rfl;simp only[execOp,J8 (hr.ev hx),e0,eqGuard,binOp,Sem.run_bind];unfold Dx at hv;split at hv <;> cases hv <;> simp[e]
theorem J5x{t t':TypeId}{x:Operand}{v:Value}{b:Bool}(ht:Q8i E.P t=true)(hx:ev st.tm x=some (Gh v))(hv:Dx v=some b):RO E ⟨d,.binOp .neq t x (.const .nilIface) t',ty,pos,af,g⟩ st (TB (!b)):=by refine⟨(λ_ h=>nomatch h),λV a w hr=>⟨.bool (!b),?_,Jl Z⟩⟩;have e:=Qmr ht hv w;have e0:a.eval (.const .nilIface)=.nilIface:=rfl;simp only[execOp,J8 (hr.ev hx),e0,eqGuard,binOp,Sem.run_bind];unfold Dx at hv;split at hv <;> cases hv <;> simp[e]
end
end
section
open Go.RowKit
structure BytOf(U:Univ) where
 t:U.T
 bs:Bs->List (U.R t)
 sz:(U.E t).sz=1
 ok:∀(l:List (U.R t)) s,(U.E t).encL (l++bs s)=(U.E t).encL l++bc s
 sb:List (U.R t)->Bs
 back:∀l,∃l':List Byt,(U.E t).encL l=Enc.encL l'/\sb l=l'.map Byt.u8
structure TCfg(U:Univ) where
 T:Tables
 cd:List (Nat×U.T)
 bt:Option (BytOf U)
section
variable{U:Univ}
instance(t:U.T):Enc (U.R t):=U.E t
def Db:Value->TC U|.string s=>.str s.data.toList|v=>.v v
theorem DU(v:Value):(Db (U:=U) v).er=.v v:=by cases v <;> first|rfl|(rename_i s;show C.v (.string (sB s.data.toList))=_;rw[Qzz])
def Zb(tm:List (Nat×TTV U)):Operand->Option (TTV U)
 |.tmp t=>lk tm t
 |.const v=>cond v.oneCell' (some (.v (.one (.c (Db v))))) (match v with
  |.agg us=>cond (us.toList.all λu=>u.oneCell') (some (.v (.agg (us.toList.map λu=>.one (.c (Db u)))))) none
  |_=>none)
 |.func f=>some (.v (.one (.fn f [])))
 |.global _=>none
variable{D:Codec U}
theorem UE{α:Type}(f:α->TA U)(l:List α):Yz D (l.map λu=>It.one (f u))=l.map f:=by have:=Gf (D:=D) (l.map f);unfold Qem at this;rw[CL]at this;exact this
theorem J3s{tk:List (Nat×TTok U)}{tm:List (Nat×TTV U)}{o:Operand}{x:TTV U}(h:Zb tm o=some x):ev (QW (TTV.er D tk) tm) o=some (x.er D tk):=by cases o with|tmp t=>show lk (QW (TTV.er D tk) tm) t=_;have h':lk tm t=some x:=h;rw[QY,h'];rfl|const v=>(simp only[Zb]at h;simp only[ev];cases hv:v.oneCell' with|true=>rw[hv,C5]at h;cases h;show some (TV.v (.one (.d (.v v))))=some (TV.v (.one (.d (Db (U:=U) v).er)));rw[DU]|false=>rw[hv,C6]at h;rw[C6];split at h;rename_i us;(cases ha:us.toList.all λu=>u.oneCell' with|false=>rw[ha]at h;cases h|true=>rw[ha]at h;cases h;dsimp only;rw[ha,C5];show some (TV.v (.agg (us.toList.map λu=>.d (.v u))))=some (TV.v (.agg ((Yz D _).map (TA.er tk))));rw[UE,CL];congr 3;refine Cy λu _=>?_;show CA.d (.v u)=CA.d (Db (U:=U) u).er;rw[DU]);cases h)|func f=>cases h;rfl|global g=>cases h
variable(U)in
inductive RdR where
 |val (x:TTV U)
 |grd (g:Bool) (x:TTV U)
 |ix {α:Type} (o:Option α) (f:α->TTV U)
def RdR.run{β:Type}(k:TTV U->Option β):RdR U->Option β|.val x=>k x|.grd g x=>Qa g (k x)|.ix o f=>Option.bind o λa=>k (f a)
variable(D)in
def RdOK(E:Env)(o:Oper)(st:TSt U):RdR U->Prop|.val x=>RO E o (st.er D) (x.er D st.m.tk)|.grd g x=>g=true->RO E o (st.er D) (x.er D st.m.tk)|.ix oo f=>∀a,oo=some a->RO E o (st.er D) ((f a).er D st.m.tk)
def X1(a b:U.T)(l:List (U.R a)):Option (List (U.R b)):=match U.eq a b with|some ⟨h⟩=>some (h▸l)|none=>none
def GH(tk:List (Nat×TTok U))(t:U.T):TTV U->Option (List (U.R t))|.v (.one (.c (.sl t' l)))=>X1 t' t l|.v (.one (.c (.v (.slice none 0 0))))=>some []|.v (.one (.app i ver))=>(match cur tk i ver with|some T=>X1 T.t t T.l|none=>none)|_=>none
theorem Zr{a b:U.T}{l:List (U.R a)}{l':List (U.R b)}(h:X1 a b l=some l'):∃e:a=b,l'=e▸l:=by unfold X1 at h;split at h;rename_i e _;cases h;exact⟨e,rfl⟩;cases h
theorem Wq{tk:List (Nat×TTok U)}{t:U.T}{x:TTV U}{l:List (U.R t)}(h:GH tk t x=some l):∃y,x.er D tk=.v (.one y)/\SlE y l:=by
 unfold GH at h;split at h;obtain⟨e,rfl⟩:=Zr h;subst e;exact⟨_,Z,.d _⟩;cases h;exact⟨_,rfl,.nil⟩;rename_i i ver;split at h;rename_i T hT;obtain⟨e,rfl⟩:=Zr h;subst e;refine⟨_,Z,?_⟩;show SlE (match cur tk i ver with
  |some T=>CA.app i (U.E T.t).sz ((U.E T.t).encL T.l)
  |none=>.any) _
 rw[hT];exact .app i T.l;cases h;cases h
variable(C:TCfg U)
def Qnx(t:TypeId):Option (TypeId×U.T):=match lk C.T.sl t with|some (e,sz)=>(match lk C.cd e with|some tc=>cond (Nat.beq sz (U.E tc).sz) (some (e,tc)) none|none=>none)|none=>none
theorem De{C:TCfg U}{P:Program}(hT:C.T.OK P){t e:TypeId}{tc:U.T}(h:Qnx C t=some (e,tc)):Ja P t=some (e,Enc.sz (U.R tc)):=by
 unfold Qnx at h;split at h;rename_i e' sz hs;split at h;rename_i tc' hc;cases hb:Nat.beq sz (U.E tc').sz with|false=>rw[hb]at h;cases h|true=>rw[hb]at h;cases h;have:=hT.sl.get hs;rw[Cc hb]at this;exact this
 cases h;cases h
variable(D)
def Qha:Option (TTV U)->Option (IntKind×Int)|some (.v (.one (.c (.v (.int k a)))))=>some (k,a)|_=>none
def Q3s:Option (TTV U)->Option Int|some (.v (.one (.c (.v (.int .i64 a)))))=>some a|_=>none
def Je4(b:Bool):TTV U:=.v (.one (.c (.v (.bool b))))
def Je3(k:IntKind)(a:Int):TTV U:=.v (.one (.c (.v (.int k a))))
def Je2(s:Bs):TTV U:=.v (.one (.c (.str s)))
def Qlb(xs:List (It U)):Option (Int×Int):=match Yz D xs with|[.c (.v (.int .i64 a)),.c (.v (.int .i64 b))]=>some (a,b)|_=>none
def J5l(st:TSt U)(op:BinOp)(t:TypeId)(x y:Operand):Option (RdR U):=match Zb st.tm x,Zb st.tm y with|some (.v (.one (.c (.v (.int k a))))),some (.v (.one (.c (.v (.int k' b)))))=>(match op with|.rem=>cond (decide (k=k')) (some (.grd (!(b==0)) (Je3 k (a.tmod b)))) none|op=>match Q6b op k a k' b with|some v=>some (.val (.v (.one (.c (.v v)))))|none=>none)|some (.v (.one (.c (.str a)))),some (.v (.one (.c (.str b))))=>(match op with|.add=>some (.grd (Nat.ble (a.length+b.length) 1000000000) (Je2 (a++b)))|.eql=>some (.val (Je4 (a==b)))|.neq=>some (.val (Je4 (!(a==b))))|_=>none)|some (.v (.one (.c (.v (.bool a))))),some (.v (.one (.c (.v (.bool b)))))=>(match lk C.T.bools t,op with|some _,.eql=>some (.val (Je4 (a==b)))|some _,.neq=>some (.val (Je4 (!(a==b))))|_,_=>none)|some (.v (.one (.c (.v v)))),some (.v (.one (.c (.v .nilIface))))=>(match y,lk C.T.ifc t,Dx v,op with|.const .nilIface,some _,some b,.eql=>some (.val (Je4 b))|.const .nilIface,some _,some b,.neq=>some (.val (Je4 (!b)))|_,_,_,_=>none)|some (.v (.agg xs)),some (.v (.agg ys))=>(match lk C.T.pairs t,Qlb D xs,Qlb D ys,op with|some _,some a,some b,.eql=>some (.val (Je4 ((a.1==b.1)&&(a.2==b.2))))|some _,some a,some b,.neq=>some (.val (Je4 (!((a.1==b.1)&&(a.2==b.2)))))|_,_,_,_=>none)|_,_=>none
def Jax(st:TSt U)(op:UnOp)(x:Operand):Option (RdR U):=match op,Zb st.tm x with|.not,some (.v (.one (.c (.v (.bool b)))))=>some (.val (Je4 (!b)))|.neg,some (.v (.one (.c (.v (.int k m)))))=>some (.val (Je3 k (k.wrap (0-m))))|_,_=>none
def Qj7(st:TSt U)(s:TypeId)(x:Operand)(f:Nat):Option (RdR U):=match lk C.T.fld s with|none=>none|some fs=>match lk fs f with|none=>none|some k=>match Zb st.tm x with|some (.v (.one (.ptr i off)))=>some (.val (.v (.one (.ptr i (off+k)))))|some (.v (.one (.pel t e off)))=>some (.val (.v (.one (.pel t e (off+k)))))|_=>none
def Q1t(st:TSt U)(t:TypeId)(x:Operand):Option (RdR U):=match lk C.T.agg t with|none=>none|some (ag,n)=>match Zb st.tm x with|some (.v (.one (.ptr i off)))=>(match ag with|false=>(match UW D st.m.es i off 1 with|some [.one y]=>some (.val (.v (.one y)))|some [.grp t v]=>(match D.fl t v with|[y]=>some (.val (.v (.one (.c y))))|_=>none)|_=>none)|true=>match UW D st.m.es i off n with|some xs=>some (.val (.v (.agg xs)))|none=>none)|some (.v (.one (.pel tc e off)))=>(match ag with|false=>(match(D.fl tc e)[off]? with|some c=>some (.val (.v (.one (.c c))))|none=>none)|true=>cond (Nat.ble (off+n) (U.E tc).sz) (some (.val (.v (.agg (Q7y D [.grp tc e] off n))))) none)|_=>none
def Q22(st:TSt U)(t:TypeId)(x y:Operand):Option (RdR U):=match Qnx C t,Zb st.tm x,Qha (Zb st.tm y)with|some (_,tc),some xv,some (_,m)=>(match GH st.m.tk tc xv with|some l=>some (.ix (QP l m) λv=>.v (.one (.pel tc v 0)))|none=>none)|_,_,_=>none
def Qay:List (TA U)->Option (List Bs)|[]=>some []|.c (.str s)::r=>(match Qay r with|some l=>some (s::l)|none=>none)|_=>none
def Q21(st:TSt U)(t:TypeId)(x y:Operand):Option (RdR U):=match lk C.T.strs t,Zb st.tm x,Qha (Zb st.tm y)with|some _,some (.v (.one (.c (.str s)))),some (_,m)=>some (.ix (QP s m) λb=>Je3 .u8 b.toNat)|_,some (.v (.agg xs)),some (_,m)=>(match lk C.T.ars t,Qay (Yz D xs)with|some n,some l=>cond (Nat.beq l.length n) (some (.ix (QP l m) λs=>Je2 s)) none|_,_=>none)|_,_,_=>none
def Q6s(st:TSt U)(x:Operand)(k:Nat):Option (RdR U):=match Zb st.tm x with|some (.tup xs)=>(match xs[k]? with|some y=>some (.val (.v y))|none=>none)|_=>none
def TAV.items:TAV U->List (It U)|.one x=>[.one x]|.agg xs=>xs
def Q5p(tm:List (Nat×TTV U)):List (Nat×Operand)->Option (List (Nat×TAV U))|[]=>some []|(i,o)::os=>match Zb tm o,Q5p tm os with|some (.v x),some xs=>some ((i,x)::xs)|_,_=>none
def Q6p(pl:List (Nat×Nat)):List (It U)->List (Nat×TAV U)->Option (List (It U))|xs,[]=>some xs|xs,(i,x)::r=>match pl[i]? with|none=>none|some (off,size)=>cond (Nat.beq (Jd x.items) size&&Nat.ble (off+size) (Jd xs)) (Q6p pl (Qrp D xs off x.items) r) none
def Qjm(st:TSt U)(t:TypeId)(parts:List (Nat×Operand)):Option (RdR U):=match lk C.T.places t,lk C.T.zero t,Q5p st.tm parts with|some pl,some zs,some avs=>(match Q6p D pl (zs.map λz=>.one (.c (Db z))) avs with|some ys=>some (.val (.v (.agg ys)))|none=>none)|_,_,_=>none
def Ql4(tm:List (Nat×TTV U)):List Operand->Option (List (Nat×Nat))|[]=>some []|o::os=>match Zb tm o,Ql4 tm os with|some (.v (.one (.ptr i k))),some l=>some ((i,k)::l)|_,_=>none
def Qty(st:TSt U)(fn:Go.Fn)(first caps:List Operand):Option (RdR U):=match fn,first,Ql4 st.tm caps with|.func f,[],some l=>some (.val (.v (.one (.fn f l))))|_,_,_=>none
def J1i(st:TSt U)(x:Operand):Option (RdR U):=match Zb st.tm x with|some (.v (.one (.ptr i off)))=>some (.val (.v (.one (.ptr i off))))|some (.v (.one (.pel t e off)))=>some (.val (.v (.one (.pel t e off))))|_=>none
def Q2b(st:TSt U)(s t:TypeId)(x:Operand):Option (RdR U):=match C.bt,lk C.T.byt s,lk C.T.strs t,Zb st.tm x with|some B,some _,some _,some xv=>(match GH st.m.tk B.t xv with|some l=>some (.val (Je2 (B.sb l)))|none=>none)|_,_,_,_=>none
def Qa7(st:TSt U)(s t:TypeId)(x:Operand):Option (RdR U):=match lk C.T.ints s,lk C.T.ints t,Qha (Zb st.tm x)with|some _,some k',some (_,m)=>some (.val (Je3 k' (k'.wrap m)))|_,_,_=>Q2b C st s t x
def Qj6(st:TSt U)(s:TypeId)(x:Operand)(f:Nat):Option (RdR U):=match lk C.T.fdv s,Zb st.tm x with|some fs,some (.v (.agg xs))=>(match lk fs f with|some k=>(match(Yz D xs)[k]? with|some y=>some (.val (.v (.one y)))|none=>none)|none=>none)|_,_=>none
def Qbc:List (TA U)->Option (List Value)|[]=>some []|.c (.v (.int k a))::r=>(match Qbc r with|some l=>some (.int k a::l)|none=>none)|_=>none
def Qhu(st:TSt U)(T:TypeId)(x:Operand):Option (RdR U):=match lk C.T.stc T,Zb st.tm x with|some _,some (.v (.agg xs))=>(match Qbc (Yz D xs)with|some us=>some (.val (.v (.one (.c (.v (.iface T (.agg us.toArray)))))))|none=>none)|_,_=>none
def Qcp(st:TSt U)(x:Operand)(t T:TypeId)(ok:Bool):Option (RdR U):=match ok,lk C.T.stc T,Zb st.tm x with|true,some _,some (.v (.one (.c (.v (.iface T' (.agg us))))))=>cond (Nat.beq T' T&&us.toList.all λu=>u.oneCell') (some (.val (.tup [.agg (us.toList.map λu=>.one (.c (Db u))),.one (.c (.v (.bool true)))]))) none|_,_,_=>none
def WE(m:Int)(n:Nat):Bool:=cond (decide (0<=m)) (Nat.ble m.toNat n) false
def Q16(st:TSt U)(t:TypeId)(x:Operand)(lo hi mx:Option Operand):Option (RdR U):=match mx,Zb st.tm x with|none,some (.v (.one (.c (.str s))))=>(match lk C.T.strs t,lo,hi with|some _,some a,none=>(match Q3s (Zb st.tm a)with|some m=>some (.grd (WE m s.length) (Je2 (s.drop m.toNat)))|none=>none)|some _,none,some b=>(match Q3s (Zb st.tm b)with|some m=>some (.grd (WE m s.length) (Je2 (s.take m.toNat)))|none=>none)|some _,some a,some b=>(match Q3s (Zb st.tm a),Q3s (Zb st.tm b)with|some m,some n=>some (.grd (cond (decide (0<=m)) (cond (Nat.ble m.toNat n.toNat) (WE n s.length) false) false) (Je2 ((s.take n.toNat).drop m.toNat)))|_,_=>none)|_,_,_=>none)|none,some xv=>(match Qnx C t with|some (_,tc)=>(match GH st.m.tk tc xv,lo,hi with|some l,some a,none=>(match Q3s (Zb st.tm a)with|some m=>some (.grd (WE m l.length) (.v (.one (.c (.sl tc (l.drop m.toNat))))))|none=>none)|some l,none,some b=>(match Q3s (Zb st.tm b)with|some m=>some (.grd (WE m l.length) (.v (.one (.c (.sl tc (l.take m.toNat))))))|none=>none)|_,_,_=>none)|none=>none)|_,_=>none
def Qp5(st:TSt U)(t:TypeId)(x:Operand):Option (RdR U):=match Zb st.tm x with|some (.v (.one (.c (.str s))))=>(match lk C.T.strs t with|some _=>some (.val (Je3 .i64 s.length))|none=>none)|some xv=>(match Qnx C t with|some (_,tc)=>(match GH st.m.tk tc xv with|some l=>some (.val (Je3 .i64 l.length))|none=>none)|none=>none)|none=>none
def XD(st:TSt U)(b:Builtin)(xs:List Operand)(ts:List TypeId):Option (RdR U):=match b,xs,ts with|.len,[x],[t]=>Qp5 C st t x|.max,[x,y],[_,_]=>(match Q3s (Zb st.tm x),Q3s (Zb st.tm y)with|some a,some b=>some (.val (Je3 .i64 (max a b)))|_,_=>none)|.min,[x,y],[_,_]=>(match Q3s (Zb st.tm x),Q3s (Zb st.tm y)with|some a,some b=>some (.val (Je3 .i64 (min a b)))|_,_=>none)|_,_,_=>none
def Qqo(x:Option (TTV U)):Option (RdR U):=match x with|some x=>some (.val x)|none=>none
def Qvu(st:TSt U)(o:Oper):Option (RdR U):=match o.op with|.move x=>Qqo (Zb st.tm x)|.assign x=>Qqo (Zb st.tm x)|.pick c x y=>(match Zb st.tm c with|some (.v (.one (.c (.v (.bool true)))))=>Qqo (Zb st.tm x)|some (.v (.one (.c (.v (.bool false)))))=>Qqo (Zb st.tm y)|_=>none)|.binOp op t x y _=>J5l D C st op t x y|.unOp op _ x=>Jax st op x|.fieldAddr s x f=>Qj7 C st s x f|.load t x=>Q1t D C st t x|.indexAddr t x y=>Q22 C st t x y|.index t x y=>Q21 D C st t x y|.field s x f=>Qj6 D C st s x f|.makeInterface T x=>Qhu D C st T x|.typeAssert x t T ok=>Qcp C st x t T ok|.extract x k=>Q6s st x k|.build t parts=>Qjm D C st t parts.toList|.makeFunc fn first caps=>(Qty st fn first.toList caps.toList)|.nilCheck x=>J1i st x|.convert s t x=>Qa7 C st s t x|.slice t x lo hi mx=>Q16 C st t x lo hi mx|.call c=>(match c.callee with|.builtin b=>XD C st b c.args.toList c.argTypes.toList|_=>none)|_=>none
end
section
variable{U:Univ}{D:Codec U}{C:TCfg U}{E:Env}{st:TSt U}{dd:Option Nat}{ty:TypeId}{pos:String}{af:Array Edge}{g:Option (Nat×Bool)}{r:RdR U}
theorem Z6{o:Operand}{x:TTV U}(h:Zb st.tm o=some x):ev (st.er D).tm o=some (x.er D st.m.tk):=J3s h
theorem Q4d{x:Option (TTV U)}{k:IntKind}{a:Int}(h:Qha x=some (k,a)):x=some (Je3 k a):=by unfold Qha at h;split at h;cases h;rfl;cases h
theorem Ks{x:Option (TTV U)}{a:Int}(h:Q3s x=some a):x=some (Je3 .i64 a):=by unfold Q3s at h;split at h;cases h;rfl;cases h
theorem Q49{o:Oper}{x:Option (TTV U)}(h:Qqo x=some r)(hx:∀y,x=some y->RO E o (st.er D) (y.er D st.m.tk)):RdOK D E o st r:=by cases x with|none=>cases h|some x=>cases h;exact hx x rfl
theorem Q03{xs:List (It U)}{a:Int×Int}(h:Qlb D xs=some a)(tk:List (Nat×TTok U)):Jy D tk xs=[.d (.v (.int .i64 a.1)),.d (.v (.int .i64 a.2))]:=by unfold Qlb at h;split at h;rename_i x y hf;cases h;unfold Jy;rw[hf];rfl;cases h
theorem Qze(hT:C.T.OK E.P){op:BinOp}{t t':TypeId}{x y:Operand}(h:J5l D C st op t x y=some r):RdOK D E ⟨dd,.binOp op t x y t',ty,pos,af,g⟩ st r:=by
 unfold J5l at h;split at h;rename_i k a k' b hx hy;have ex:=Z6 (D:=D) hx;have ey:=Z6 (D:=D) hy;split at h;cases hk:decide (k=k')with|false=>rw[hk]at h;cases h|true=>rw[hk]at h;cases h;have e:=CF hk;subst e;exact λhg=>Qzp ex ey hg
 split at h;rename_i v hv;cases h;exact Q5 ex ey hv;cases h;rename_i a b hx hy;have ex:=Z6 (D:=D) hx;have ey:=Z6 (D:=D) hy;split at h;cases h;exact λhg=>Qzt ex ey hg;cases h;exact Qd5 ex ey;cases h;exact Qk2 ex ey;cases h;rename_i a b hx hy;have ex:=Z6 (D:=D) hx;have ey:=Z6 (D:=D) hy;split at h;rename_i hb;cases h;exact Qq5 (hT.bools.get hb) ex ey;rename_i hb;cases h;exact Qk1 (hT.bools.get hb) ex ey;cases h;rename_i v hx hy;have ex:=Z6 (D:=D) hx;split at h;rename_i hi hb;cases h;exact J5z (hT.ifc.get hi) ex hb;rename_i hi hb;cases h;exact J5x (hT.ifc.get hi) ex hb;cases h;rename_i xs ys hx hy;have ex:=Z6 (D:=D) hx;have ey:=Z6 (D:=D) hy;split at h;rename_i a b hp ha hb;cases h;have e1:(TTV.v (.agg xs):TTV U).er D st.m.tk=.v (.agg [.d (.v (.int .i64 a.1)),.d (.v (.int .i64 a.2))]):=congrArg (λl=>TV.v (.agg l)) (Q03 ha st.m.tk);have e2:(TTV.v (.agg ys):TTV U).er D st.m.tk=.v (.agg [.d (.v (.int .i64 b.1)),.d (.v (.int .i64 b.2))]):=congrArg (λl=>TV.v (.agg l)) (Q03 hb st.m.tk);rw[e1]at ex;rw[e2]at ey;exact Qq4 (hT.pairs.get hp) ex ey;rename_i a b hp ha hb;cases h;have e1:(TTV.v (.agg xs):TTV U).er D st.m.tk=.v (.agg [.d (.v (.int .i64 a.1)),.d (.v (.int .i64 a.2))]):=congrArg (λl=>TV.v (.agg l)) (Q03 ha st.m.tk);have e2:(TTV.v (.agg ys):TTV U).er D st.m.tk=.v (.agg [.d (.v (.int .i64 b.1)),.d (.v (.int .i64 b.2))]):=congrArg (λl=>TV.v (.agg l)) (Q03 hb st.m.tk);rw[e1]at ex;rw[e2]at ey;exact Qk0 (hT.pairs.get hp) ex ey;cases h;cases h
theorem J0w{op:UnOp}{t:TypeId}{x:Operand}(h:Jax st op x=some r):RdOK D E ⟨dd,.unOp op t x,ty,pos,af,g⟩ st r:=by unfold Jax at h;split at h;rename_i b hx;cases h;exact Zk (Z6 (D:=D) hx);rename_i k m hx;cases h;exact Qzq (Z6 (D:=D) hx);cases h
theorem Qpg(hT:C.T.OK E.P){s f:Nat}{x:Operand}(h:Qj7 C st s x f=some r):RdOK D E ⟨dd,.fieldAddr s x f,ty,pos,af,g⟩ st r:=by unfold Qj7 at h;split at h;cases h;rename_i fs hfs;split at h;cases h;rename_i k hk;have hf:J3 E.P s f=some k:=(hT.fld.get hfs).get hk;split at h;rename_i i off hx;cases h;exact Q4 hf (Z6 (D:=D) hx);rename_i t e off hx;cases h;exact ZL hf (Z6 (D:=D) hx);cases h
theorem DW{α:Type}{ys:List α}{off:Nat}{z:α}(h:(ys.drop off).take 1=[z]):ys[off]?=some z:=by
 have h1:((ys.drop off).take 1)[0]?=some z:=by rw[h];rfl
 rw[Pe,Cf (by omega),CS]at h1;exact h1
theorem Gy(t:U.T)(x:U.R t):Yz D [.grp t x]=(D.fl t x).map .c:=by show(D.fl t x).map TA.c++[]=_;rw[CC]
theorem Q9z(hD:D.OK)(tk:List (Nat×TTok U))(t:U.T)(x:U.R t):((D.fl t x).map TA.c).map (TA.er tk)=((U.E t).enc x).map .d:=by rw[<-hD.fl t x,CL,CL];rfl
theorem Qp4(hT:C.T.OK E.P)(hD:D.OK){t:Nat}{x:Operand}(h:Q1t D C st t x=some r):RdOK D E ⟨dd,.load t x,ty,pos,af,g⟩ st r:=by
 unfold Q1t at h;split at h;cases h;rename_i ag n hag;have ht:=hT.agg.get hag;split at h;rename_i i off hx;have ex:=Z6 (D:=D) hx;split at h;split at h;rename_i y hr;cases h;obtain⟨T,ys,h1,h2,h3⟩:=YQ hD (tk:=st.m.tk) hr;exact Q6 ht ex h1 (DW h3);rename_i t' v hr;split at h;rename_i y hy;cases h;obtain⟨T,ys,h1,h2,h3⟩:=YQ hD (tk:=st.m.tk) hr;have e:Jy D st.m.tk [It.grp t' v]=[(TA.c y).er st.m.tk]:=by unfold Jy;rw[Gy,hy];rfl
 rw[e]at h3;exact Q6 ht ex h1 (DW h3);cases h;cases h;split at h;rename_i xs hr;cases h;obtain⟨T,ys,h1,h2,h3⟩:=YQ hD (tk:=st.m.tk) hr;refine JX ht ex h1 h3 ?_;rw[<-h3,CH,Cq];omega;cases h;rename_i tc e off hx;have ex:=Z6 (D:=D) hx;split at h;split at h;rename_i c hc;cases h;refine ZC (e:=(U.E tc).enc e) (c:=c.er) ht ex ?_;rw[<-hD.fl,Cn,hc];rfl;cases h;cases hb:Nat.ble (off+n) (U.E tc).sz with|false=>rw[hb]at h;cases h|true=>rw[hb]at h;cases h;have hle:=C9 hb;have:=D8 (E:=E) (d:=dd) (ty:=ty) (pos:=pos) (af:=af) (g:=g) (e:=(U.E tc).enc e) (cs:=(((U.E tc).enc e).drop off).take n) ht ex rfl (by rw[CH,Cq,hD.sz];omega);(have e1:Jy D st.m.tk (Q7y D [.grp tc e] off n)=((((U.E tc).enc e).drop off).take n).map .d:=by unfold Jy;rw[DX hD,Gy,S9,S8,Q9z hD,S9,S8]);show RO E _ _ (.v (.agg (Jy D st.m.tk (Q7y D [.grp tc e] off n))));rw[e1];exact this
 cases h
theorem Qq1{E:Env}{st:St}{d:Option Nat}{ty:TypeId}{pos:String}{af:Array Edge}{g:Option (Nat×Bool)}{α:Type}[Enc α]{t:TypeId}{e:Nat}{o i:Operand}{y:CA}{l:List α}{v:α}{m:Int}{kk:IntKind}(ht:Ja E.P t=some (e,Enc.sz α))(hx:ev st.tm o=some (.v (.one y)))(hs:SlE y l)(hi:ev st.tm i=some (Gh (.int kk m)))(hv:QP l m=some v):RO E ⟨d,.indexAddr t o i,ty,pos,af,g⟩ st (.v (.one (.pel (Enc.enc v) 0))):=by obtain⟨k,hk,hl⟩:=Qpc hv;have he:=Enc.get hl;refine⟨(λ_ h=>nomatch h),λV a w hr=>?_⟩;have h1:=hs.sl.reads (hr.ev hx);have h2:=J8 (hr.ev hi);obtain⟨hu,i0,hi0,hsz⟩:=Jx ht;have hlt:=(Ce.1 he).1;subst hk;generalize hv:a.eval o=v at h1;cases h1 with|sl _ _ aa cap b off f hcap ha hl hc hss hr'=>have:=ha (λe'=>by rw[e']at he;cases he);subst this;refine⟨.pointer (some ⟨b,off+k*Enc.sz α,none⟩),?_,b,off+k*Enc.sz α,f k,Z,λj c hj=>⟨hc k _ j c he hj,hss k _ j c he hj,hr' k _ j c he hj⟩⟩;simp only[execOp,hv,h2,Instr.indexAt,asIntOf,Sem.run_bind,Sem.run_pure,Result.andThen_ok,run_underlying hu,sizeOf,typeInfo];simp[hi0,hsz,K5,hlt,Sem.run,program]
theorem Qpb(hT:C.T.OK E.P){t:TypeId}{x y:Operand}(h:Q22 C st t x y=some r):RdOK D E ⟨dd,.indexAddr t x y,ty,pos,af,g⟩ st r:=by unfold Q22 at h;split at h;rename_i e tc xv k m hs hx hm;split at h;rename_i l hl;cases h;obtain⟨z,hz,hzl⟩:=Wq (D:=D) hl;have ex:=Z6 (D:=D) hx;rw[hz]at ex;exact λv hv=>Qq1 (α:=U.R tc) (De hT hs) ex hzl (Z6 (D:=D) (Q4d hm)) hv;cases h;cases h
theorem Q8l(tk:List (Nat×TTok U)):∀{l:List (TA U)}{ss:List Bs},Qay l=some ss->l.map (TA.er tk)=ss.map λs=>CA.d (.v (.string (sB s)))|[],ss,h=>by cases h;rfl|x::l,ss,h=>by unfold Qay at h;split at h;rename_i e;cases e;rename_i s r e;cases e;split at h;rename_i q hq;cases h;rw[CJ,Q8l tk hq];rfl;cases h;cases h
theorem Qce(hT:C.T.OK E.P){t:TypeId}{x y:Operand}(h:Q21 D C st t x y=some r):RdOK D E ⟨dd,.index t x y,ty,pos,af,g⟩ st r:=by
 unfold Q21 at h;split at h;rename_i s k m hs hx hm;cases h;exact λv hv=>Q7n (hT.strs.get hs) (Z6 (D:=D) hx) (Z6 (D:=D) (Q4d hm)) hv;rename_i xs k m hx hm;split at h;rename_i n l hn hl;cases hb:Nat.beq l.length n with|false=>rw[hb]at h;cases h|true=>rw[hb]at h;cases h;intro v hv;obtain⟨j,hj,hk⟩:=Qpc hv;have hlt:j<l.length:=(Ce.1 hk).1;refine Qq0 (hT.ars.get hn) (Z6 (D:=D) hx) (Z6 (D:=D) (Q4d hm)) hj (by rw[<-Cc hb];exact hlt) (c:=.d (.v (.string (sB v)))) ?_;show((Yz D xs).map (TA.er st.m.tk))[j]?=_;rw[Q8l _ hl,Cn,hk];rfl
 cases h;cases h
theorem Qfm{x:Operand}{k:Nat}(h:Q6s st x k=some r):RdOK D E ⟨dd,.extract x k,ty,pos,af,g⟩ st r:=by unfold Q6s at h;split at h;rename_i xs hx;split at h;rename_i y hy;cases h;exact Jr (Z6 (D:=D) hx) (by rw[Cn,hy];rfl);cases h;cases h
theorem Q0o(tk:List (Nat×TTok U))(x:TAV U):(x.er D tk).cells=Jy D tk x.items:=by cases x with|one x=>rfl|agg xs=>rfl
theorem K1(hD:D.OK)(tk:List (Nat×TTok U))(xs:List (It U)):(Jy D tk xs).length=Jd xs:=by unfold Jy;rw[Co,K0 hD]
theorem Q6o(hD:D.OK){tk:List (Nat×TTok U)}{pl:List (Nat×Nat)}:∀{avs:List (Nat×TAV U)}{xs ys:List (It U)},Q6p D pl xs avs=some ys->Gz pl (Jy D tk xs) (avs.map λp=>(p.1,p.2.er D tk))=some (Jy D tk ys)
 |[],xs,ys,h=>by cases h;rfl
 |(i,x)::avs,xs,ys,h=>by
  unfold Q6p at h;rw[CJ];unfold Gz;split at h
  · cases h
  · rename_i off size hp
    rw[hp]
    dsimp only
    rw[Q0o,K1 hD,K1 hD]
    cases hb:(Nat.beq (Jd x.items) size&&Nat.ble (off+size) (Jd xs))with
    |false=>rw[hb]at h;cases h
    |true=>
      rw[hb,C5]at h
      rw[C5]
      obtain⟨b1,b2⟩:=C2.1 hb
      have e1:=Cc b1
      have e2:=C9 b2
      rw[<-Qhl hD tk xs off x.items (by omega)]
      exact Q6o hD h
theorem Q1b:∀{parts:List (Nat×Operand)}{avs:List (Nat×TAV U)},Q5p st.tm parts=some avs->parts.length=avs.length/\∀(j i:Nat)(x:AV),(avs.map λp=>(p.1,p.2.er D st.m.tk))[j]?=some (i,x)->∃o,parts[j]?=some (i,o)/\ev (st.er D).tm o=some (.v x)
 |[],avs,h=>by cases h;exact⟨rfl,λj i x hx=>by simp at hx⟩
 |(i0,o0)::parts,avs,h=>by
  unfold Q5p at h;split at h
  · rename_i x0 xs hx0 hxs
    cases h
    obtain⟨h1,h2⟩:=Q1b hxs
    refine⟨by rw[C1,C1,h1],λj i x hx=>?_⟩
    cases j with
    |zero=>
      cases hx
      exact⟨o0,Z,Z6 (D:=D) hx0⟩
    |succ j=>exact h2 j i x hx
  · cases h
theorem Qkf(tk:List (Nat×TTok U))(zs:List Value):Jy D tk (zs.map λz=>.one (.c (Db z)))=zs.map λz=>.d (.v z):=by unfold Jy;rw[UE,CL];refine Cy λz _=>?_;show CA.d (Db (U:=U) z).er=_;rw[DU]
theorem Qpn(hT:C.T.OK E.P)(hD:D.OK){t:TypeId}{parts:Array (Nat×Operand)}(h:Qjm D C st t parts.toList=some r):RdOK D E ⟨dd,.build t parts,ty,pos,af,g⟩ st r:=by unfold Qjm at h;split at h;rename_i pl zs avs hp hz ha;split at h;rename_i ys hy;cases h;obtain⟨h1,h2⟩:=Q1b (D:=D) ha;have hf:=Q6o hD (tk:=st.m.tk) hy;rw[Qkf]at hf;exact XO ⟨hT.places.get hp,(hT.zero.get hz).1⟩ (hT.zero.get hz).2 (by rw[h1,Co]) h2 hf;cases h;cases h
theorem Qe7:∀{os:List Operand}{l:List (Nat×Nat)},Ql4 st.tm os=some l->os.length=l.length/\∀(k:Nat)(p:Nat×Nat),l[k]?=some p->∃o,os[k]?=some o/\ev (st.er D).tm o=some (.v (.one (.ptr p.1 p.2)))|[],l,h=>by cases h;exact⟨rfl,λk p hp=>by simp at hp⟩|o::os,l,h=>by unfold Ql4 at h;split at h;rename_i i k l' ho hl;cases h;obtain⟨h1,h2⟩:=Qe7 hl;refine⟨by rw[C1,C1,h1],λj p hp=>?_⟩;(cases j with|zero=>cases hp;exact⟨o,rfl,Z6 (D:=D) ho⟩|succ j=>exact h2 j p hp);cases h
theorem Qtx{fn:Go.Fn}{first caps:Array Operand}(h:Qty st fn first.toList caps.toList=some r):RdOK D E ⟨dd,.makeFunc fn first caps,ty,pos,af,g⟩ st r:=by
 unfold Qty at h;split at h;rename_i f l hf hl;cases h;obtain⟨h1,h2⟩:=Qe7 (D:=D) hl;have e:first=#[]:=by apply Sk;exact hf
 subst e;exact Ul (by simpa using h1) (λk p hp=>let⟨o,a,b⟩:=h2 k p hp;⟨o,by simpa using a,b⟩);cases h
theorem Qwp{x:Operand}(h:J1i st x=some r):RdOK D E ⟨dd,.nilCheck x,ty,pos,af,g⟩ st r:=by unfold J1i at h;split at h;rename_i hx;cases h;exact Qo (Z6 (D:=D) hx);rename_i hx;cases h;exact Q7m (Z6 (D:=D) hx);cases h
theorem Qpm(hT:C.T.OK E.P){s t:TypeId}{x:Operand}(h:Q2b C st s t x=some r):RdOK D E ⟨dd,.convert s t x,ty,pos,af,g⟩ st r:=by
 unfold Q2b at h;split at h;rename_i B u1 u2 xv hB hs ht hx;split at h;rename_i l hl;cases h;obtain⟨z,hz,hzl⟩:=Wq (D:=D) hl;have ex:=Z6 (D:=D) hx;rw[hz]at ex;obtain⟨l',e1,e2⟩:=B.back l;have hso:SlOf z 1 (Enc.encL l'):=by have:=hzl.sl;rw[show Enc.encL l=(U.E B.t).encL l from rfl,e1]at this;rw[<-B.sz];exact this
 have:=Qq6 (E:=E) (d:=dd) (ty:=ty) (pos:=pos) (af:=af) (g:=g) (hT.byt.get hs) (hT.strs.get ht) ex hso;show RO E _ _ (TS (B.sb l));rw[e2];exact this;cases h;cases h
theorem Qup(hT:C.T.OK E.P){s t:TypeId}{x:Operand}(h:Qa7 C st s t x=some r):RdOK D E ⟨dd,.convert s t x,ty,pos,af,g⟩ st r:=by unfold Qa7 at h;split at h;rename_i k0 k' k m hs ht hm;cases h;exact Qvh (hT.ints.get hs) (hT.ints.get ht) (Z6 (D:=D) (Q4d hm));exact Qpm hT h
theorem Qpf(hT:C.T.OK E.P){s f:Nat}{x:Operand}(h:Qj6 D C st s x f=some r):RdOK D E ⟨dd,.field s x f,ty,pos,af,g⟩ st r:=by unfold Qj6 at h;split at h;rename_i fs xs hf hx;split at h;rename_i k hk;split at h;rename_i y hy;cases h;refine Qq3 ((hT.fdv.get hf).get hk) (Z6 (D:=D) hx) ?_;show((Yz D xs).map (TA.er st.m.tk))[k]?=_;rw[Cn,hy];rfl;cases h;cases h;cases h
theorem Q8w(tk:List (Nat×TTok U)):∀{l:List (TA U)}{us:List Value},Qbc l=some us->l.map (TA.er tk)=us.map λu=>CA.d (.v u)|[],us,h=>by cases h;rfl|x::l,us,h=>by unfold Qbc at h;split at h;rename_i e;cases e;rename_i k a r e;cases e;split at h;rename_i q hq;cases h;rw[CJ,Q8w tk hq];rfl;cases h;cases h
theorem Qo8(hT:C.T.OK E.P){T:TypeId}{x:Operand}(h:Qhu D C st T x=some r):RdOK D E ⟨dd,.makeInterface T x,ty,pos,af,g⟩ st r:=by unfold Qhu at h;split at h;rename_i u xs ht hx;split at h;rename_i us hu;cases h;have ex:=Z6 (D:=D) hx;refine Qvf (hT.stc.get ht) ?_;rw[ex];show some (TV.v (.agg ((Yz D xs).map (TA.er st.m.tk))))=_;rw[Q8w _ hu];cases h;cases h
theorem Qjr(hT:C.T.OK E.P){t T:TypeId}{x:Operand}{ok:Bool}(h:Qcp C st x t T ok=some r):RdOK D E ⟨dd,.typeAssert x t T ok,ty,pos,af,g⟩ st r:=by
 unfold Qcp at h;split at h;rename_i u T' us ht hx;cases hc:(Nat.beq T' T&&us.toList.all λu=>u.oneCell')with|false=>rw[hc]at h;cases h|true=>rw[hc]at h;cases h;obtain⟨c1,c2⟩:=C2.1 hc;have e1:=Cc c1;subst e1;have ex:ev (st.er D).tm x=some (Gh (.iface T' (.agg us.toList.toArray))):=Z6 (D:=D) hx;have key:=Qk7 (E:=E) (d:=dd) (ty:=ty) (pos:=pos) (af:=af) (g:=g) (t:=t) (hT.stc.get ht) ex c2;(have e2:(TTV.tup [.agg (us.toList.map λu=>.one (.c (Db u))),.one (.c (.v (.bool true)))]:TTV U).er D st.m.tk=.tup [.agg (us.toList.map λu=>.d (.v u)),.one (.d (.v (.bool true)))]:=by show TV.tup [.agg ((Yz D _).map (TA.er st.m.tk)),_]=_;rw[UE,CL];(have:us.toList.map (TA.er st.m.tk∘λu=>TA.c (Db u))=us.toList.map λu=>CA.d (.v u):=Cy λu _=>by show CA.d (Db (U:=U) u).er=_;rw[DU]);rw[this];rfl);show RO E _ _ (TTV.er D st.m.tk _);rw[e2];exact key
 cases h
theorem Qnw(hT:C.T.OK E.P){t:TypeId}{x:Operand}{lo hi mx:Option Operand}(h:Q16 C st t x lo hi mx=some r):RdOK D E ⟨dd,.slice t x lo hi mx,ty,pos,af,g⟩ st r:=by unfold Q16 at h;split at h;rename_i s hx;have ex:=Z6 (D:=D) hx;split at h;rename_i hs;split at h;rename_i m hm;cases h;exact λhg=>Qgh (hT.strs.get hs) ex (Z6 (D:=D) (Ks hm)) hg;cases h;rename_i hs;split at h;rename_i m hm;cases h;exact λhg=>Qve (hT.strs.get hs) ex (Z6 (D:=D) (Ks hm)) hg;cases h;rename_i hs;split at h;rename_i m n hm hn;cases h;exact λhg=>Qzs (hT.strs.get hs) ex (Z6 (D:=D) (Ks hm)) (Z6 (D:=D) (Ks hn)) hg;cases h;cases h;rename_i xv hx hns;split at h;rename_i e tc hs;split at h;rename_i l hl;split at h;rename_i m hm;cases h;obtain⟨z,hz,hzl⟩:=Wq (D:=D) hl;have ex:=Z6 (D:=D) hns;rw[hz]at ex;exact λhg=>Qd3 (α:=U.R tc) (De hT hs) ex hzl (Z6 (D:=D) (Ks hm)) hg;cases h;rename_i l hl;split at h;rename_i m hm;cases h;obtain⟨z,hz,hzl⟩:=Wq (D:=D) hl;have ex:=Z6 (D:=D) hns;rw[hz]at ex;exact λhg=>Qjz (α:=U.R tc) (De hT hs) ex hzl (Z6 (D:=D) (Ks hm)) hg;cases h;cases h;cases h;cases h
theorem Qy3(hT:C.T.OK E.P){t:TypeId}{x:Operand}(h:Qp5 C st t x=some r):RdOK D E ⟨dd,.call {callee:=.builtin .len,args:=#[x],argTypes:=#[t]},ty,pos,af,g⟩ st r:=by unfold Qp5 at h;split at h;rename_i s hx;split at h;rename_i hs;cases h;exact Q0y (hT.strs.get hs) (Z6 (D:=D) hx);cases h;rename_i xv hns hx;split at h;rename_i e tc hs;split at h;rename_i l hl;cases h;obtain⟨z,hz,hzl⟩:=Wq (D:=D) hl;have ex:=Z6 (D:=D) hx;rw[hz]at ex;exact Jg (α:=U.R tc) (De hT hs) ex hzl;cases h;cases h;cases h
theorem Qg3(hT:C.T.OK E.P){b:Builtin}{xs:Array Operand}{ts:Array TypeId}(h:XD C st b xs.toList ts.toList=some r):RdOK D E ⟨dd,.call {callee:=.builtin b,args:=xs,argTypes:=ts},ty,pos,af,g⟩ st r:=by obtain⟨xs⟩:=xs;obtain⟨ts⟩:=ts;unfold XD at h;dsimp only at h;split at h;exact Qy3 hT h;split at h;rename_i a b ha hb;cases h;exact X6 (Z6 (D:=D) (Ks ha)) (Z6 (D:=D) (Ks hb));cases h;split at h;rename_i a b ha hb;cases h;exact Qzr (Z6 (D:=D) (Ks ha)) (Z6 (D:=D) (Ks hb));cases h;cases h
theorem Qh5(hT:C.T.OK E.P)(hD:D.OK){o:Oper}(h:Qvu D C st o=some r):RdOK D E o st r:=by obtain⟨dd,op,ty,pos,af,g⟩:=o;unfold Qvu at h;dsimp only at h;split at h;exact Q49 h (λy hy=>Jn (Z6 (D:=D) hy));exact Q49 h (λy hy=>UO (Z6 (D:=D) hy));split at h;rename_i hc;exact Q49 h (λy hy=>Qe (Z6 (D:=D) hc) (Z6 (D:=D) hy));rename_i hc;exact Q49 h (λy hy=>Qh (Z6 (D:=D) hc) (Z6 (D:=D) hy));cases h;exact Qze hT h;exact J0w h;exact Qpg hT h;exact Qp4 hT hD h;exact Qpb hT h;exact Qce hT h;exact Qpf hT h;exact Qo8 hT h;exact Qjr hT h;exact Qfm h;exact Qpn hT hD h;exact Qtx h;exact Qwp h;exact Qup hT h;exact Qnw hT h;rename_i c;obtain⟨callee,xs,ts⟩:=c;dsimp only at h;split at h;exact Qg3 hT h;cases h;cases h
end
end
section
open Go.RowKit
section
variable(U:Univ)
structure OR where
 x:TTV U
 es:List (Ev U)
 tk:Option (Nat×TTok U)
 nx:Nat
inductive EfR where
 |val (o:OR U)
 |grd (g:Bool) (o:OR U)
 |ix {α:Type} (o:Option α) (f:α->OR U)
end
section
variable{U:Univ}{D:Codec U}
def Zu(n:Option (Nat×TTok U))(tk:List (Nat×TTok U)):List (Nat×TTok U):=match n with|some p=>p::tk|none=>tk
def EfR.run{β:Type}(k:OR U->Option β):EfR U->Option β|.val o=>k o|.grd g o=>Qa g (k o)|.ix o f=>Option.bind o λa=>k (f a)
def OROK(D:Codec U)(E:Env)(o:Oper)(st:TSt U)(r:OR U):Prop:=∃hp tkx,OpOK E o (st.er D) (r.x.er D (Zu r.tk st.m.tk)) ⟨hp,tkx,r.nx⟩/\(∀j,lk hp j=lk (Qq D st.m.tk (r.es++st.m.es)) j)/\∀j T,lk (WB (Zu r.tk st.m.tk)) j=some (some T)->lk tkx j=some (some T)
def EfOK(D:Codec U)(E:Env)(o:Oper)(st:TSt U):EfR U->Prop|.val x=>OROK D E o st x|.grd g x=>g=true->OROK D E o st x|.ix oo f=>∀a,oo=some a->OROK D E o st (f a)
def TA.hasApp(i v:Nat):TA U->Bool|.app j u=>Nat.beq j i&&Nat.beq u v|_=>false
def It.hasApp(i v:Nat):It U->Bool|.one x=>x.hasApp i v|.grp _ _=>false
def TAV.hasApp(i v:Nat):TAV U->Bool|.one x=>x.hasApp i v|.agg xs=>xs.any (It.hasApp i v)
def TTV.hasApp(i v:Nat):TTV U->Bool|.v x=>x.hasApp i v|.tup xs=>xs.any (TAV.hasApp i v)|.unk=>false
def Ev.hasApp(i v:Nat):Ev U->Bool|.box _ _ xs=>xs.any (It.hasApp i v)|.set _ _ xs=>xs.any (It.hasApp i v)|.raw _ _=>false|.lp _ _ _ tm _ _ _ _ _=>tm.any λp=>p.2.hasApp i v|.ls _ xs=>xs.any λp=>p.2.hasApp i v
def Qeq(i v:Nat)(tm:List (Nat×TTV U))(es:List (Ev U)):Bool:=!(tm.any λp=>p.2.hasApp i v)&&!(es.any (Ev.hasApp i v))
def CW(x y:CA):Prop:=∀V w v,x.rel V w v->y.rel V w v
theorem CW.refl(x:CA):CW x x:=λ_ _ _ h=>h
theorem K2{tk:List (Nat×TTok U)}{i:Nat}{T:TTok U}(j u:Nat):cur ((i,T)::tk) j u=if i=j then(if T.ver=u then some T else none)else cur tk j u:=by
 unfold cur;rw[Q8];by_cases h:i=j;rw[Cf h,Cf h];dsimp only;by_cases h2:T.ver=u;rw[Cf h2,h2];simp;rw[Ca h2];cases hb:Nat.beq T.ver u with|true=>exact absurd (Cc hb) h2|false=>rfl
 rw[Ca h,Ca h]
def TkW(tk tk':List (Nat×TTok U))(P:Nat->Nat->Prop):Prop:=∀j u,P j u->cur tk' j u=none\/cur tk' j u=cur tk j u
theorem DM{tk:List (Nat×TTok U)}{i:Nat}{T:TTok U}{P:Nat->Nat->Prop}(h:¬P i T.ver):TkW tk ((i,T)::tk) P:=by intro j u hp;rw[K2];by_cases e:i=j;rw[Cf e];by_cases e2:T.ver=u;subst e;subst e2;exact(h hp).elim;rw[Ca e2];exact .inl rfl;rw[Ca e];exact .inr rfl
theorem Qge{tk tk':List (Nat×TTok U)}(x:TA U)(h:TkW tk tk' λj u=>x.hasApp j u=true):CW (x.er tk) (x.er tk'):=by
 cases x with
 |app j u=>
  intro V w v hr;show(match cur tk' j u with
   |some T=>CA.app j (U.E T.t).sz ((U.E T.t).encL T.l)
   |none=>CA.any).rel V w v
  rcases h j u (by show(Nat.beq j j&&Nat.beq u u)=true;simp)with e|e;rw[e];exact CA.rel.one hr;rw[e];exact hr
 |c x=>exact CW.refl _
 |ptr i off=>exact CW.refl _
 |pel t x off=>exact CW.refl _
 |fn f caps=>exact CW.refl _
 |raw x=>exact CW.refl _
def LW(xs ys:List CA):Prop:=xs.length=ys.length/\∀(k:Nat)(x y:CA),xs[k]?=some x->ys[k]?=some y->CW x y
theorem LW.rels{xs ys:List CA}(h:LW xs ys){V:Vu}{w:World}{vs:Array Value}(hv:rels V w xs vs):rels V w ys vs:=by refine⟨hv.1.trans h.1,λi y hy=>?_⟩;have hi:i<ys.length:=(Ce.1 hy).1;have hx:xs[i]?=some (xs[i]'(by rw[h.1];exact hi)):=Cm _;obtain⟨u,h1,h2⟩:=hv.2 i _ hx;exact⟨u,h1,h.2 i _ y hx hy _ _ _ h2⟩
theorem LW.refl(xs:List CA):LW xs xs:=⟨rfl,λk x y hx hy=>by rw[hx]at hy;cases hy;exact CW.refl _⟩
theorem Qu3{xs:List (It U)}{i v:Nat}{x:TA U}(hx:x∈Yz D xs)(h:x.hasApp i v=true):xs.any (It.hasApp i v)=true:=by obtain⟨it,h1,h2⟩:=Pg.1 hx;refine CU.2 ⟨it,h1,?_⟩;cases it with|one y=>rw[CI.1 h2]at h;exact h|grp t y=>obtain⟨z,_,rfl⟩:=Cx.1 h2;cases h
theorem UF{tk tk':List (Nat×TTok U)}{xs:List (It U)}(h:TkW tk tk' λj u=>xs.any (It.hasApp j u)=true):LW (Jy D tk xs) (Jy D tk' xs):=by unfold Jy;refine⟨by rw[Co,Co],λk x y hx hy=>?_⟩;rw[Cn]at hx hy;cases hz:(Yz D xs)[k]? with|none=>rw[hz]at hx;cases hx|some z=>rw[hz]at hx hy;cases hx;cases hy;exact Qge z (λj u hp=>h j u (Qu3 (Cr hz) hp))
theorem Qaj{tk tk':List (Nat×TTok U)}{x:TAV U}(h:TkW tk tk' λj u=>x.hasApp j u=true){V:Vu}{w:World}{v:Value}(hv:(x.er D tk).rel V w v):(x.er D tk').rel V w v:=by cases x with|one x=>exact Qge x h V w v hv|agg xs=>obtain⟨vs,h1,h2⟩:=hv;exact⟨vs,h1,(UF h).rels h2⟩
theorem Kq{tk tk':List (Nat×TTok U)}{x:TTV U}(h:TkW tk tk' λj u=>x.hasApp j u=true){V:Vu}{w:World}{v:Value}(hv:(x.er D tk).rel V w v):(x.er D tk').rel V w v:=by cases x with|v x=>exact Qaj h hv|tup xs=>(obtain⟨vs,h1,h2,h3⟩:=hv;refine⟨vs,h1,by rw[h2,Co,Co],λk y hy=>?_⟩;rw[Cn]at hy;cases hz:xs[k]? with|none=>rw[hz]at hy;cases hy|some z=>rw[hz]at hy;cases hy;obtain⟨u,h4,h5⟩:=h3 k (z.er D tk) (by rw[Cn,hz];rfl);exact⟨u,h4,Qaj (λj u hp=>h j u (CU.2 ⟨z,Cr hz,hp⟩)) h5⟩)|unk=>trivial
theorem WM:∀(ys zs:List CA)(q k:Nat),(setL zs q ys)[k]?=if q<=k/\k<q+ys.length/\k<zs.length then ys[k-q]? else zs[k]?|[],zs,q,k=>by show zs[k]?=_;rw[Ca (by rw[Cb];omega)]|y::ys,zs,q,k=>by show(setL (zs.set q y) (q+1) ys)[k]?=_;rw[WM ys,S7,C1,Sb];by_cases c1:q+1<=k/\k<q+1+ys.length/\k<zs.length;rw[Cf c1,Cf (by omega),show k-q=(k-(q+1))+1 by omega];rfl;rw[Ca c1];by_cases c2:q=k;subst c2;rw[Cf rfl];by_cases c3:q<zs.length;rw[Cf c3,Cf (by omega),PD];rfl;rw[Ca c3,Ca (by omega),Pn (by omega)];rw[Ca c2,Ca (by omega)]
theorem LW.set{xs ys us vs:List CA}(h:LW xs ys)(k:LW us vs)(q:Nat):LW (setL xs q us) (setL ys q vs):=by refine⟨by rw[JC,JC];exact h.1,λj x y hx hy=>?_⟩;rw[WM]at hx hy;by_cases c:q<=j/\j<q+us.length/\j<xs.length;rw[Cf c]at hx;rw[Cf (by rw[<-k.1,<-h.1];exact c)]at hy;exact k.2 _ x y hx hy;rw[Ca c]at hx;rw[Ca (by rw[<-k.1,<-h.1];exact c)]at hy;exact h.2 _ x y hx hy
inductive BW:HB->HB->Prop
 |refl (B:HB):BW B B
 |cells {T:TypeId} {xs ys:List CA} (h:LW xs ys):BW (.cells T xs) (.cells T ys)
 |loop {s:LoopState} {p:Option Code} {tm tm':List (Nat×TV)} {nt:Nat} {ps:Array Tmp} {a b:Code} {d:Nat} (h:∀t y,lk tm' t=some y->∃x,lk tm t=some x/\∀V w v,x.rel V w v->y.rel V w v):BW (.loop s p tm nt ps a b d) (.loop s p tm' nt ps a b d)
theorem BW.rel{A B:HB}(h:BW A B){V:Vu}{w:World}{o:Obj}(hr:A.rel V w o):B.rel V w o:=by cases h with|refl=>exact hr|cells h=>(obtain⟨vs,h1,h2⟩:=hr;exact⟨vs,h1,h.rels h2⟩)|loop h=>obtain⟨h0,fn,tmps,h1,h2,h3⟩:=hr;exact⟨h0,fn,tmps,h1,h2,λt y hy=>let⟨x,hx,hxy⟩:=h t y hy;hxy _ _ _ (h3 t x hx)⟩
def OW:Option HB->Option HB->Prop|none,none=>True|some A,some B=>BW A B|_,_=>False
theorem Zq{tk tk':List (Nat×TTok U)}:∀{es:List (Ev U)},(TkW tk tk' λj u=>es.any (Ev.hasApp j u)=true)->∀j,OW (lk (Qq D tk es) j) (lk (Qq D tk' es) j)
 |[],_,j=>trivial
 |.box q T' xs::es,h,j=>by have h1:TkW tk tk' λj u=>xs.any (It.hasApp j u)=true:=λj u hp=>h j u (CN.2 (.inl hp));have h2:TkW tk tk' λj u=>es.any (Ev.hasApp j u)=true:=λj u hp=>h j u (CN.2 (.inr hp));unfold Qq;rw[Q8,Q8];by_cases e:q=j;rw[Cf e,Cf e];exact .cells (UF h1);rw[Ca e,Ca e];exact Zq h2 j
 |.raw q B::es,h,j=>by have h2:TkW tk tk' λj u=>es.any (Ev.hasApp j u)=true:=λj u hp=>h j u (CN.2 (.inr hp));unfold Qq;rw[Q8,Q8];by_cases e:q=j;rw[Cf e,Cf e];exact .refl _;rw[Ca e,Ca e];exact Zq h2 j
 |.lp q s p tm nt ps a b d::es,h,j=>by have h1:TkW tk tk' λj u=>tm.any (λp=>p.2.hasApp j u)=true:=λj u hp=>h j u (CN.2 (.inl hp));have h2:TkW tk tk' λj u=>es.any (Ev.hasApp j u)=true:=λj u hp=>h j u (CN.2 (.inr hp));unfold Qq;rw[Q8,Q8];by_cases e:q=j;rw[Cf e,Cf e];refine .loop λt y hy=>?_;rw[QY]at hy⊢;(cases hz:lk tm t with|none=>rw[hz]at hy;cases hy|some z=>rw[hz]at hy;cases hy;exact⟨_,Z,λV w v hv=>Kq (λj u hp=>h1 j u (CU.2 ⟨_,Ym hz,hp⟩)) hv⟩);rw[Ca e,Ca e];exact Zq h2 j
 |.ls q xs::es,h,j=>by
  have h1:TkW tk tk' λj u=>xs.any (λp=>p.2.hasApp j u)=true:=λj u hp=>h j u (CN.2 (.inl hp));have h2:TkW tk tk' λj u=>es.any (Ev.hasApp j u)=true:=λj u hp=>h j u (CN.2 (.inr hp));have ih:=Zq h2;have hq:=ih q;have hx:∀t y,lk (QW (TTV.er D tk') xs) t=some y->∃x,lk (QW (TTV.er D tk) xs) t=some x/\∀V w v,x.rel V w v->y.rel V w v:=λt y hy=>by rw[QY]at hy⊢;cases hz:lk xs t with|none=>rw[hz]at hy;cases hy|some z=>rw[hz]at hy;cases hy;exact⟨_,Z,λV w v hv=>Kq (λj u hp=>h1 j u (CU.2 ⟨_,Ym hz,hp⟩)) hv⟩
  have hn:∀t,lk (QW (TTV.er D tk') xs) t=none->lk (QW (TTV.er D tk) xs) t=none:=λt hy=>by rw[QY]at hy⊢;cases hz:lk xs t with|none=>rfl|some z=>rw[hz]at hy;cases hy
  have ap:∀{tm tm':List (Nat×TV)},(∀t y,lk tm' t=some y->∃x,lk tm t=some x/\∀V w v,x.rel V w v->y.rel V w v)->∀t y,lk (QW (TTV.er D tk') xs++tm') t=some y->∃x,lk (QW (TTV.er D tk) xs++tm) t=some x/\∀V w v,x.rel V w v->y.rel V w v:=λ{tm tm'} hl t y hy=>by rw[JN]at hy⊢;cases hz:lk (QW (TTV.er D tk') xs) t with|none=>rw[hz]at hy;rw[hn t hz];exact hl t y hy|some z=>rw[hz]at hy;cases hy;obtain⟨x,hx1,hx2⟩:=hx t _ hz;rw[hx1];exact⟨x,rfl,hx2⟩
  unfold Qq;revert hq;cases hA:lk (Qq D tk es) q with|none=>(cases hB:lk (Qq D tk' es) q with|none=>intro _;exact ih j|some B=>intro hq;exact hq.elim)|some A=>cases hB:lk (Qq D tk' es) q with|none=>intro hq;exact hq.elim|some B=>intro hq;cases hq with|refl=>(cases A with|cells T' ys=>exact ih j|obj o=>exact ih j|mp es clock=>exact ih j|loop s p tm nt ps assign body D=>dsimp only;rw[Q8,Q8];by_cases e:q=j;rw[Cf e,Cf e];exact .loop (ap λt y hy=>⟨y,hy,λ_ _ _ h=>h⟩);rw[Ca e,Ca e];exact ih j)|cells hl=>exact ih j|loop hl=>dsimp only;rw[Q8,Q8];by_cases e:q=j;rw[Cf e,Cf e];exact .loop (ap hl);rw[Ca e,Ca e];exact ih j
 |.set q off xs::es,h,j=>by have h1:TkW tk tk' λj u=>xs.any (It.hasApp j u)=true:=λj u hp=>h j u (CN.2 (.inl hp));have h2:TkW tk tk' λj u=>es.any (Ev.hasApp j u)=true:=λj u hp=>h j u (CN.2 (.inr hp));have ih:=Zq h2;have hq:=ih q;unfold Qq;revert hq;cases hA:lk (Qq D tk es) q with|none=>(cases hB:lk (Qq D tk' es) q with|none=>intro _;exact ih j|some B=>intro hq;exact hq.elim)|some A=>cases hB:lk (Qq D tk' es) q with|none=>intro hq;exact hq.elim|some B=>intro hq;cases hq with|refl=>(cases A with|cells T' ys=>dsimp only;rw[Q8,Q8];by_cases e:q=j;rw[Cf e,Cf e];exact .cells ((LW.refl _).set (UF h1) off);rw[Ca e,Ca e];exact ih j|obj o=>exact ih j|loop s p tm nt ps assign body D=>exact ih j|mp es clock=>exact ih j)|loop hl=>exact ih j|cells hl=>dsimp only;rw[Q8,Q8];by_cases e:q=j;rw[Cf e,Cf e];exact .cells (hl.set (UF h1) off);rw[Ca e,Ca e];exact ih j
def Q5u(st:TSt U)(es:List (Ev U)):Option (Nat×TTok U)->Bool|none=>true|some (i,T)=>Qeq i T.ver st.tm es
def Yj(st:TSt U):Option Nat->Bool|none=>true|some d=>Nat.blt d st.nt
def UP(dst:Option Nat)(x:TTV U)(tm:List (Nat×TTV U)):List (Nat×TTV U):=match dst with|some d=>(d,x)::tm|none=>tm
def Q91(st:TSt U)(dst:Option Nat)(r:OR U):TSt U:=⟨UP dst r.x st.tm,⟨r.es++st.m.es,Zu r.tk st.m.tk,r.nx⟩,st.nt,st.df⟩
theorem Q90{st:TSt U}{dst:Option Nat}{r:OR U}{hp:List (Nat×HB)}{tkx:List (Nat×Option Tok)}(hh:∀j,lk hp j=lk (Qq D st.m.tk (r.es++st.m.es)) j)(ht:∀j T,lk (WB (Zu r.tk st.m.tk)) j=some (some T)->lk tkx j=some (some T))(hn:Q5u st (r.es++st.m.es) r.tk=true):StW (WU (st.er D) dst (r.x.er D (Zu r.tk st.m.tk)) ⟨hp,tkx,r.nx⟩) ((Q91 st dst r).er D):=by
 have htm:∀t y,lk (QW (TTV.er D (Zu r.tk st.m.tk)) st.tm) t=some y->y=.unk\/∃x,lk (QW (TTV.er D st.m.tk) st.tm) t=some x/\∀V w v,x.rel V w v->y.rel V w v:=by intro t y hy;rw[QY]at hy⊢;cases hz:lk st.tm t with|none=>rw[hz]at hy;cases hy|some z=>rw[hz]at hy;cases hy;refine .inr ⟨_,Z,λV w v hv=>?_⟩;cases htk:r.tk with|none=>exact hv|some p=>obtain⟨i,T⟩:=p;rw[htk]at hn;have h1:=(C2.1 hn).1;(have h2:st.tm.any (λp=>p.2.hasApp i T.ver)=false:=by simpa using h1);exact Kq (DM λhp=>by have h3:=Pt.1 h2 (t,z) (Ym hz);exact h3 hp) hv
 have hhp:∀j B,lk (Qq D (Zu r.tk st.m.tk) (r.es++st.m.es)) j=some B->∃A,lk hp j=some A/\∀V w o,A.rel V w o->B.rel V w o:=by intro j B hB;rw[hh];cases htk:r.tk with|none=>rw[htk]at hB;exact⟨B,hB,λ_ _ _ h=>h⟩|some p=>obtain⟨i,T⟩:=p;rw[htk]at hn hB;have h1:=(C2.1 hn).2;(have h2:(r.es++st.m.es).any (Ev.hasApp i T.ver)=false:=by simpa using h1);have h3:=Zq (D:=D) (tk:=st.m.tk) (tk':=(i,T)::st.m.tk) (es:=r.es++st.m.es) (DM λhp=>by rw[h2]at hp;cases hp) j;have hB':lk (Qq D ((i,T)::st.m.tk) (r.es++st.m.es)) j=some B:=hB;rw[hB']at h3;cases hA:lk (Qq D st.m.tk (r.es++st.m.es)) j with|none=>rw[hA]at h3;exact h3.elim|some A=>rw[hA]at h3;exact⟨A,rfl,λV w o h=>BW.rel h3 h⟩
 cases dst with|none=>exact⟨htm,hhp,λi T h=>ht i T h,rfl,rfl,rfl⟩|some d=>refine⟨λt y hy=>?_,hhp,λi T h=>ht i T h,Z,Z,Z⟩;have hy':lk ((d,r.x.er D (Zu r.tk st.m.tk))::QW (TTV.er D (Zu r.tk st.m.tk)) st.tm) t=some y:=hy;show y=.unk\/∃x,lk ((d,r.x.er D (Zu r.tk st.m.tk))::QT d (st.er D).tm) t=some x/\_;rw[JI];rw[Q8]at hy'⊢;by_cases e:d=t;rw[Cf e]at hy'⊢;cases hy';exact .inr ⟨_,rfl,λ_ _ _ h=>h⟩;rw[Ca e]at hy'⊢;exact htm t y hy'
theorem Q0s{E:Env}{ro:Option Nat}{n:Nat}{ops:Array Oper}{Q:Exit->Act->World->Prop}{rest:List Oper}{a b:St}(h:StW a b)(k:XL E ro n ops Q rest b):XL E ro n ops Q rest a:=λV ac w hr=>k V ac w (hr.weak h)
theorem X4{E:Env}{Q:Exit->Act->World->Prop}{e:Exit}{a b:St}(h:StW a b)(k:XQ E Q e b):XQ E Q e a:=λV ac w hr=>k V ac w (hr.weak h)
theorem OROK.next{E:Env}{o:Oper}{st:TSt U}{r:OR U}(h:OROK D E o st r)(hn:Q5u st (r.es++st.m.es) r.tk=true)(hd:Yj st o.dst=true){ro:Option Nat}{n:Nat}{ops:Array Oper}{Q:Exit->Act->World->Prop}{rest:List Oper}(hg:QQ ops (st.er D).tm o=some true)(k:XL E ro n ops Q rest ((Q91 st o.dst r).er D)):XL E ro n ops Q (o::rest) (st.er D):=by obtain⟨hp,tkx,h1,h2,h3⟩:=h;refine Qcu hg h1 ?_ (Q0s (Q90 h2 h3 hn) k);cases hdst:o.dst with|none=>rfl|some d=>rw[hdst]at hd;exact hd
variable(D)(C:TCfg U)
def G0(tk:List (Nat×TTok U)):TA U->Option (TA U)|.c x=>some (.c x)|.app i ver=>(match cur tk i ver with|some T=>some (.c (.sl T.t T.l))|none=>none)|_=>none
def Y6(tk:List (Nat×TTok U)):List (It U)->Option (List (It U))|[]=>some []|.grp t x::r=>(match Y6 tk r with|some ys=>some (.grp t x::ys)|none=>none)|.one x::r=>match G0 tk x,Y6 tk r with|some y,some ys=>some (.one y::ys)|_,_=>none
def Qn9(a b:U.T)(x:U.R a):Option (U.R b):=match U.eq a b with|some ⟨h⟩=>some (h▸x)|none=>none
def Q7a(tk:List (Nat×TTok U))(t:U.T):List (It U)->Option (U.R t)|[.grp t' x]=>Qn9 t' t x|xs=>match Y6 tk xs with|some ys=>D.bld t ys|none=>none
def Qcn(tk:List (Nat×TTok U))(t:U.T):Nat->List (It U)->Option (List (U.R t))|0,_=>some []|n+1,xs=>match Q7a D tk t (ZP D xs (U.E t).sz).1,Qcn tk t n (ZP D xs (U.E t).sz).2 with|some x,some l=>some (x::l)|_,_=>none
def J5k(st:TSt U)(t:TypeId)(x:Operand):Option (EfR U):=match Zb st.tm x with|some (.v v)=>some (.val ⟨.v (.one (.ptr st.m.nx 0)),[.box st.m.nx t v.items],none,st.m.nx+1⟩)|_=>none
def Qqg(zs:List Value):List (It U):=zs.map λz=>.one (.c (Db z))
def Qju(st:TSt U)(t:TypeId):Option (EfR U):=match lk C.T.zero t with|some zs=>some (.val ⟨.v (.one (.ptr st.m.nx 0)),[.box st.m.nx t (Qqg zs)],none,st.m.nx+1⟩)|none=>none
def Qhb(st:TSt U)(t:TypeId)(x y:Operand):Option (EfR U):=match lk C.T.agg t,Zb st.tm x,Zb st.tm y with|some (_,n),some (.v (.one (.ptr i off))),some (.v v)=>(match ZJ st.m.es i with|some (_,N)=>cond (Nat.beq (Jd v.items) n&&Nat.ble (off+n) N) (some (.val ⟨.tup [],[.set i off v.items],none,st.m.nx⟩)) none|none=>none)|_,_,_=>none
def Q4u(zs:List Value)(len:Nat):List (It U):=(List.range (len*zs.length)).map λk=>.one (.c (Db (zs.getD (k%zs.length) undef)))
def J2q(st:TSt U)(t len:Nat)(parts:List (Nat×Operand)):Option (EfR U):=
 match Qnx C t with
 |none=>none
 |some (e,tc)=>match lk C.T.zero e,Q5p st.tm parts with
  |some zs,some avs=>cond (Nat.beq zs.length (U.E tc).sz&&Nat.blt 0 (U.E tc).sz&&Nat.ble (len*(U.E tc).sz) 16777216) (match Q6p D (ZD (U.E tc).sz len) (Q4u zs len) avs with
   |some ys=>match Qcn D st.m.tk tc len ys with|some l=>some (.val ⟨.v (.one (.app st.m.nx 0)),[],some (st.m.nx,⟨e,tc,l,0⟩),st.m.nx+1⟩)|none=>none
   |none=>none) none
  |_,_=>none
def Qcr(st:TSt U)(t:TypeId)(x y:Operand):Option (EfR U):=
 match Qnx C t with
 |none=>none
 |some (e,tc)=>match lk C.T.elem e,Zb st.tm y with
  |some (sz',by_),some yv=>cond (Nat.beq sz' (U.E tc).sz&&Nat.ble by_ 100000) (match GH st.m.tk tc yv with
   |some l2=>match Zb st.tm x with|some (.v (.one (.app i ver)))=>(match cur st.m.tk i ver with|some T=>(match X1 T.t tc T.l with|some l=>cond (Nat.beq T.E e&&!(Nat.beq e 0)) (some (.grd (Nat.ble (l.length+l2.length) 1000000000) ⟨.v (.one (.app i (ver+1))),[],some (i,⟨e,tc,l++l2,ver+1⟩),st.m.nx⟩)) none|none=>none)|none=>none)|some (.v (.one (.c (.v (.slice none 0 0)))))=>some (.grd (Nat.ble l2.length 1000000000) ⟨.v (.one (.app st.m.nx 0)),[],some (st.m.nx,⟨e,tc,l2,0⟩),st.m.nx+1⟩)|_=>none
   |none=>none) none
  |_,_=>none
def Q7g(st:TSt U)(t t':TypeId)(x y:Operand):Option (EfR U):=
 match C.bt,Qnx C t,lk C.T.strs t',Zb st.tm y with
 |some B,some (e,tc),some _,some (.v (.one (.c (.str s))))=>match U.eq B.t tc,lk C.T.elem e with
  |some _,some (sz',by_)=>cond (Nat.beq sz' 1&&Nat.ble by_ 100000) (match Zb st.tm x with
   |some (.v (.one (.app i ver)))=>match cur st.m.tk i ver with|some T=>(match X1 T.t B.t T.l with|some l=>cond (Nat.beq T.E e&&!(Nat.beq e 0)) (some (.grd (Nat.ble (l.length+s.length) 1000000000) ⟨.v (.one (.app i (ver+1))),[],some (i,⟨e,B.t,l++B.bs s,ver+1⟩),st.m.nx⟩)) none|none=>none)|none=>none
   |some (.v (.one (.c (.v (.slice none 0 0)))))=>some (.grd (Nat.ble s.length 1000000000) ⟨.v (.one (.app st.m.nx 0)),[],some (st.m.nx,⟨e,B.t,B.bs s,0⟩),st.m.nx+1⟩)
   |_=>none) none
  |_,_=>none
 |_,_,_,_=>none
variable(U)in
structure KR where
 α:Type
 o:Option α
 f:α->TTV U
def Q3k(tm:List (Nat×TTV U)):List Operand->Option (List (TAV U))|[]=>some []|o::os=>match Zb tm o,Q3k tm os with|some (.v x),some xs=>some (x::xs)|_,_=>none
def Uu(tk:List (Nat×TTok U)):TAV U->Option (TAV U)|.one x=>(match G0 tk x with|some y=>some (.one y)|none=>none)|.agg xs=>match Y6 tk xs with|some ys=>some (.agg ys)|none=>none
def Zn(tk:List (Nat×TTok U)):List (TAV U)->Option (List (TAV U))|[]=>some []|x::xs=>match Uu tk x,Zn tk xs with|some y,some ys=>some (y::ys)|_,_=>none
variable(K:FuncId->List (TAV U)->Option (KR U))
def Qg2(st:TSt U)(x:Operand)(os:List Operand):Option (EfR U):=match Zb st.tm x,Q3k st.tm os with|some (.v (.one (.fn f []))),some args=>(match Zn st.m.tk args with|some args'=>(match K f args' with|some kr=>some (.ix kr.o λa=>⟨kr.f a,[],none,st.m.nx⟩)|none=>none)|none=>none)|_,_=>none
def J6u(st:TSt U)(o:Oper):Option (EfR U):=match o.op with|.box t x=>J5k st t x|.alloc t=>Qju C st t|.store t x y=>(match o.dst with|none=>Qhb C st t x y|some _=>none)|.buildSlice t len parts=>J2q D C st t len parts.toList|.call c=>(match c.callee,c.args.toList,c.argTypes.toList with|.builtin .append,[x,y],[t,t']=>cond (Nat.beq t t') (Qcr C st t x y) (Q7g C st t t' x y)|.value x,os,_=>Qg2 K st x os|_,_,_=>none)|_=>none
end
section
variable{U:Univ}{D:Codec U}{C:TCfg U}{E:Env}{st:TSt U}{dd:Option Nat}{ty:TypeId}{pos:String}{af:Array Edge}{g:Option (Nat×Bool)}{r:EfR U}
theorem Qzc{t:TypeId}{x:Operand}(h:J5k st t x=some r):EfOK D E ⟨dd,.box t x,ty,pos,af,g⟩ st r:=by unfold J5k at h;split at h;rename_i v hx;cases h;refine⟨_,_,Ju (Z6 (D:=D) hx),λj=>?_,λj x hx=>hx⟩;show lk ((st.m.nx,HB.cells t (v.er D st.m.tk).cells)::Qq D st.m.tk st.m.es) j=lk ((st.m.nx,HB.cells t (Jy D st.m.tk v.items))::Qq D st.m.tk st.m.es) j;rw[Q0o];cases h
theorem Qqf(tk:List (Nat×TTok U))(zs:List Value):Jy D tk (Qqg zs)=zs.map λz=>.d (.v z):=Qkf tk zs
theorem Qpr(hT:C.T.OK E.P){t:TypeId}(h:Qju C st t=some r):EfOK D E ⟨dd,.alloc t,ty,pos,af,g⟩ st r:=by unfold Qju at h;split at h;rename_i zs hz;cases h;refine⟨_,_,J0 (hT.zero.get hz).1 (hT.zero.get hz).2,λj=>?_,λj x hx=>hx⟩;show lk ((st.m.nx,HB.cells t (zs.map λz=>.d (.v z)))::Qq D st.m.tk st.m.es) j=lk ((st.m.nx,HB.cells t (Jy D st.m.tk (Qqg zs)))::Qq D st.m.tk st.m.es) j;rw[Qqf];cases h
theorem Qnv(hT:C.T.OK E.P)(hD:D.OK){t:TypeId}{x y:Operand}(h:Qhb C st t x y=some r):EfOK D E ⟨none,.store t x y,ty,pos,af,g⟩ st r:=by
 unfold Qhb at h;split at h;rename_i ag n i off v ht hx hy;split at h;rename_i T N hb;cases hc:(Nat.beq (Jd v.items) n&&Nat.ble (off+n) N)with
 |false=>rw[hc]at h;cases h
 |true=>
  rw[hc]at h;cases h;obtain⟨b1,b2⟩:=C2.1 hc;have e1:=Cc b1;have e2:=C9 b2;obtain⟨ys,h1,h2⟩:=YI hD (tk:=st.m.tk) hb;refine⟨_,_,Qz (hT.agg.get ht) (Z6 (D:=D) hx) (Z6 (D:=D) hy) h1 (by rw[Q0o,K1 hD];exact e1) (by omega) rfl,λj=>?_,λj x hx=>hx⟩;show lk ((i,HB.cells T (setL ys off (v.er D st.m.tk).cells))::QT i (Qq D st.m.tk st.m.es)) j=lk (Qq D st.m.tk (.set i off v.items::st.m.es)) j;rw[JI,Q0o];show _=lk (match lk (Qq D st.m.tk st.m.es) i with
   |some (.cells T ys)=>(i,.cells T (setL ys off (Jy D st.m.tk v.items)))::Qq D st.m.tk st.m.es
   |_=>Qq D st.m.tk st.m.es) j
  rw[h1]
 cases h;cases h
theorem CSub.of_sl{sz:Nat}{es:List (List Proofs.YtjcfppnjamjjhaaGreatDoor.C)}{c:Proofs.YtjcfppnjamjjhaaGreatDoor.C}(h:CSub (.d (.sl sz es)) c)(i:Nat):CSub (.app i sz es) c:=by cases h with|d=>exact .app i sz es
theorem Q5c{tk:List (Nat×TTok U)}{x y:TA U}(h:G0 tk x=some y){c:Proofs.YtjcfppnjamjjhaaGreatDoor.C}(hc:CSub (y.er tk) c):CSub (x.er tk) c:=by
 unfold G0 at h;split at h;cases h;exact hc;rename_i i ver;split at h;rename_i T hT;cases h;show CSub (match cur tk i ver with
  |some T=>CA.app i (U.E T.t).sz ((U.E T.t).encL T.l)
  |none=>CA.any) c
 rw[hT];exact hc.of_sl i;cases h;cases h
theorem Qpl{xs ys:List CA}{cs:List Proofs.YtjcfppnjamjjhaaGreatDoor.C}(h:CSubs (xs++ys) cs):∃c1 c2,cs=c1++c2/\CSubs xs c1/\CSubs ys c2:=by induction xs generalizing cs with|nil=>exact⟨[],cs,rfl,.nil,h⟩|cons x xs ih=>cases h with|cons h t=>obtain⟨c1,c2,e,h1,h2⟩:=ih t;exact⟨_::c1,c2,by rw[e];rfl,.cons h h1,h2⟩
theorem Qfo(tk:List (Nat×TTok U))(x:It U)(xs:List (It U)):Jy D tk (x::xs)=(x.cells D).map (TA.er tk)++Jy D tk xs:=by unfold Jy;rw[Yy,Ct]
theorem XV{tk:List (Nat×TTok U)}:∀{xs ys:List (It U)},Y6 tk xs=some ys->∀{cs:List Proofs.YtjcfppnjamjjhaaGreatDoor.C},CSubs (Jy D tk ys) cs->CSubs (Jy D tk xs) cs|[],ys,h,cs,hc=>by cases h;exact hc|.grp t x::r,ys,h,cs,hc=>(by unfold Y6 at h;split at h;rename_i zs hz;cases h;rw[Qfo]at hc⊢;obtain⟨c1,c2,rfl,h1,h2⟩:=Qpl hc;exact h1.append (XV hz h2);cases h)|.one x::r,ys,h,cs,hc=>by unfold Y6 at h;split at h;rename_i y zs hy hz;cases h;rw[Qfo]at hc⊢;(cases hc with|cons h1 h2=>exact .cons (Q5c hy h1) (XV hz h2));cases h
theorem Q4s(hD:D.OK){tk:List (Nat×TTok U)}{t:U.T}{xs:List (It U)}{x:U.R t}(h:Q7a D tk t xs=some x):CSubs (Jy D tk xs) ((U.E t).enc x):=by
 unfold Q7a at h;split at h;rename_i t' y;unfold Qn9 at h;split at h;rename_i e _;cases h;subst e;have e1:Jy D tk [It.grp t' y]=((U.E t').enc y).map .d:=by unfold Jy;rw[Gy,Q9z hD]
 rw[e1];generalize (U.E t').enc y=l;induction l with|nil=>exact .nil|cons c l ih=>exact .cons (.d c) ih
 cases h;split at h;rename_i ys hy;exact XV hy (hD.bld tk t ys x h);cases h
theorem Qac(hD:D.OK){tk:List (Nat×TTok U)}{t:U.T}:∀{n:Nat}{xs:List (It U)}{l:List (U.R t)},Qcn D tk t n xs=some l->n*(U.E t).sz=Jd xs->CSubs (Jy D tk xs) ((U.E t).encL l).flatten/\l.length=n
 |0,xs,l,h,hs=>by cases h;have hl:=K1 hD tk xs;have:Jy D tk xs=[]:=List.length_eq_zero_iff.1 (by omega);rw[this];show CSubs [] ((U.E t).encL []).flatten/\_;rw[(U.E t).nil];exact⟨.nil,Z⟩
 |n+1,xs,l,h,hs=>by
  unfold Qcn at h;split at h;rename_i x l' hx hl;cases h;obtain⟨s1,s2⟩:=Ke hD xs (U.E t).sz;have hlen2:Jd (ZP D xs (U.E t).sz).2=n*(U.E t).sz:=by rw[<-K0 hD,s2,Cq,K0 hD,<-hs,SC];omega
  obtain⟨i1,i2⟩:=Qac hD hl hlen2.symm;have h0:=Q4s hD hx;refine⟨?_,by rw[C1,i2]⟩;have e:Jy D tk xs=Jy D tk (ZP D xs (U.E t).sz).1++Jy D tk (ZP D xs (U.E t).sz).2:=by unfold Jy;rw[s1,s2,<-Ct,So]
  rw[e];have e2:((U.E t).encL (x::l')).flatten=(U.E t).enc x++((U.E t).encL l').flatten:=by have:=Enc.cons (α:=U.R t) x l';show(Enc.encL (x::l')).flatten=_;rw[this];rfl
  rw[e2];exact h0.append i1;cases h
theorem Qua(hD:D.OK)(t:U.T)(l:List (U.R t)):∀x∈(U.E t).encL l,x.length=(U.E t).sz:=by intro x hx;have e:(U.E t).encL l=l.map (U.E t).enc:=Enc.map (α:=U.R t) l;rw[e]at hx;obtain⟨y,_,rfl⟩:=Cx.1 hx;exact hD.sz t y
theorem Qu9(t:U.T)(l:List (U.R t)):((U.E t).encL l).length=l.length:=Enc.len (α:=U.R t) l
theorem Q2o(tk:List (Nat×TTok U))(zs:List Value)(len:Nat):Jy D tk (Q4u zs len)=ZN zs len:=by unfold Jy Q4u ZN;rw[UE,CL];refine Cy λk _=>?_;show CA.d (Db (U:=U) _).er=_;rw[DU]
theorem Q6n(hD:D.OK){pl:List (Nat×Nat)}:∀{avs:List (Nat×TAV U)}{xs ys:List (It U)},Q6p D pl xs avs=some ys->Jd ys=Jd xs
 |[],xs,ys,h=>by cases h;rfl
 |(i,x)::avs,xs,ys,h=>by
  unfold Q6p at h;split at h
  · cases h
  · rename_i off size hp
    cases hb:(Nat.beq (Jd x.items) size&&Nat.ble (off+size) (Jd xs))with
    |false=>rw[hb]at h;cases h
    |true=>
      rw[hb,C5]at h
      obtain⟨b1,b2⟩:=C2.1 hb
      have e1:=Cc b1
      have e2:=C9 b2
      rw[Q6n hD h,<-K1 hD ([]:List (Nat×TTok U)),Qhl hD _ _ _ _ (by omega),JC,K1 hD]
theorem Qy2(hT:C.T.OK E.P)(hD:D.OK){t len:Nat}{parts:Array (Nat×Operand)}(h:J2q D C st t len parts.toList=some r):EfOK D E ⟨dd,.buildSlice t len parts,ty,pos,af,g⟩ st r:=by
 unfold J2q at h;split at h;cases h;rename_i e tc hs;split at h;rename_i zs avs hz ha;cases hc:(Nat.beq zs.length (U.E tc).sz&&Nat.blt 0 (U.E tc).sz&&Nat.ble (len*(U.E tc).sz) 16777216)with
 |false=>rw[hc]at h;cases h
 |true=>
  rw[hc,C5]at h;obtain⟨b12,b3⟩:=C2.1 hc;obtain⟨b1,b2⟩:=C2.1 b12;have e1:=Cc b1;have e2:0<(U.E tc).sz:=C9 b2;have e3:=C9 b3;split at h;rename_i ys hy;split at h;rename_i l hl;cases h;obtain⟨p1,p2⟩:=Q1b (D:=D) ha;have hf:=Q6o hD (tk:=st.m.tk) hy;rw[Q2o]at hf;have hsz:len*(U.E tc).sz=Jd ys:=by rw[Q6n hD hy,<-K1 hD st.m.tk,Q2o];unfold ZN;rw[Co,List.length_range,e1]
  obtain⟨q1,q2⟩:=Qac hD hl hsz;have key:=Q3p (E:=E) (st:=st.er D) (dd:=dd) (ty:=ty) (pos:=pos) (af:=af) (g:=g) ((U.E tc).encL l) (De hT hs) (hT.zero.get hz).1 e1 (hT.zero.get hz).2 e2 e3 (by rw[p1,Co]) p2 hf q1 (Qua hD tc l) (by rw[Qu9,q2]);refine⟨_,_,?_,λj=>rfl,λj x hx=>Xk rfl (λj=>rfl) hx⟩;have ex:(TTV.v (.one (.app st.m.nx 0)):TTV U).er D (Zu (some (st.m.nx,(⟨e,tc,l,0⟩:TTok U))) st.m.tk)=.v (.one (.app st.m.nx (U.E tc).sz ((U.E tc).encL l))):=by
   show TV.v (.one (match cur ((st.m.nx,(⟨e,tc,l,0⟩:TTok U))::st.m.tk) st.m.nx 0 with
    |some T=>CA.app st.m.nx (U.E T.t).sz ((U.E T.t).encL T.l)
    |none=>CA.any))=_
   rw[K2,Cf rfl,Cf rfl]
  rw[ex];exact key;cases h;cases h
 cases h
theorem Qjs(hT:C.T.OK E.P){t:TypeId}{x y:Operand}(h:Qcr C st t x y=some r):EfOK D E ⟨dd,.call {callee:=.builtin .append,args:=#[x,y],argTypes:=#[t,t]},ty,pos,af,g⟩ st r:=by
 unfold Qcr at h;split at h;cases h;rename_i e tc hs;have ht:=De hT hs;split at h;rename_i sz' by_ yv he hy;cases hc:(Nat.beq sz' (U.E tc).sz&&Nat.ble by_ 100000)with
 |false=>rw[hc]at h;cases h
 |true=>
  rw[hc,C5]at h;obtain⟨b1,b2⟩:=C2.1 hc;have e1:=Cc b1;have hte:=hT.elem.get he;rw[e1]at hte;split at h;rename_i l2 hl2;obtain⟨z,hz,hzl⟩:=Wq (D:=D) hl2;have ey:=Z6 (D:=D) hy;rw[hz]at ey;split at h;rename_i i ver hx;split at h;rename_i T hcur;split at h;rename_i l hl;obtain⟨et,rfl⟩:=Zr hl;subst et;cases hE:(Nat.beq T.E e&&!(Nat.beq e 0))with
  |false=>rw[hE]at h;cases h
  |true=>
   rw[hE]at h;cases h;obtain⟨hE1,hE2⟩:=C2.1 hE;have eE:=Cc hE1;have eN:Nat.beq e 0=false:=by simpa using hE2
   intro hg;have hcur':=hcur;unfold cur at hcur';split at hcur';rename_i T0 hlk;cases hv:Nat.beq T0.ver ver with
   |false=>rw[hv]at hcur';cases hcur'
   |true=>
    rw[hv]at hcur';cases hcur';have ex:=Z6 (D:=D) hx;have ex':ev (st.er D).tm x=some (.v (.one (.app i (U.E T.t).sz ((U.E T.t).encL T.l)))):=by
     rw[ex];show some (TV.v (.one (match cur st.m.tk i ver with
      |some T=>CA.app i (U.E T.t).sz ((U.E T.t).encL T.l)
      |none=>CA.any)))=_
     rw[hcur]
    (have htok:lk (st.er D).tk i=some (some ⟨e,(U.E T.t).sz,((U.E T.t).encL T.l).length,[]⟩):=by show lk (QW TTok.erO st.m.tk) i=_;rw[QY,hlk];show some T.erO=_;rw[KK (by rw[eE];exact eN)];unfold TTok.er;rw[eE]);have key:=Q0z (α:=U.R T.t) (E:=E) (st:=st.er D) (d:=dd) (ty:=ty) (pos:=pos) (af:=af) (g:=g) ht hte b2 ex' htok rfl ey hzl hg;refine⟨_,_,?_,λj=>rfl,λj x hx=>Xk (y:=⟨e,(U.E T.t).sz,((U.E T.t).encL (T.l++l2)).length,[]⟩) rfl (λj=>JI i _ _ j) hx⟩;have ex2:(TTV.v (.one (.app i (ver+1))):TTV U).er D (Zu (some (i,(⟨e,T.t,T.l++l2,ver+1⟩:TTok U))) st.m.tk)=.v (.one (.app i (U.E T.t).sz ((U.E T.t).encL (T.l++l2)))):=by
     show TV.v (.one (match cur ((i,(⟨e,T.t,T.l++l2,ver+1⟩:TTok U))::st.m.tk) i (ver+1)with
      |some T=>CA.app i (U.E T.t).sz ((U.E T.t).encL T.l)
      |none=>CA.any))=_
     rw[K2,Cf rfl,Cf rfl]
    rw[ex2];exact key
   cases hcur'
  cases h;cases h;rename_i hx;cases h;intro hg;have key:=Q46 (α:=U.R tc) (E:=E) (st:=st.er D) (d:=dd) (ty:=ty) (pos:=pos) (af:=af) (g:=g) ht hte b2 (Z6 (D:=D) hx) ey hzl hg;refine⟨_,_,?_,λj=>rfl,λj x hx=>Xk rfl (λj=>rfl) hx⟩;have ex2:(TTV.v (.one (.app st.m.nx 0)):TTV U).er D (Zu (some (st.m.nx,(⟨e,tc,l2,0⟩:TTok U))) st.m.tk)=.v (.one (.app st.m.nx (U.E tc).sz ((U.E tc).encL l2))):=by
   show TV.v (.one (match cur ((st.m.nx,(⟨e,tc,l2,0⟩:TTok U))::st.m.tk) st.m.nx 0 with
    |some T=>CA.app st.m.nx (U.E T.t).sz ((U.E T.t).encL T.l)
    |none=>CA.any))=_
   rw[K2,Cf rfl,Cf rfl]
  rw[ex2];exact key;cases h;cases h
 cases h
theorem Qg5(hT:C.T.OK E.P){t t':TypeId}{x y:Operand}(h:Q7g C st t t' x y=some r):EfOK D E ⟨dd,.call {callee:=.builtin .append,args:=#[x,y],argTypes:=#[t,t']},ty,pos,af,g⟩ st r:=by
 unfold Q7g at h;split at h;case h_2=>cases h
 rename_i B e tc _u s hB hs hst hy;split at h;case h_2=>cases h
 rename_i heq sz' by_ hU he;obtain⟨eBt⟩:=heq;subst eBt;have ht:=De hT hs;have ht1:Ja E.P t=some (e,1):=by rw[ht];exact congrArg (λn=>some (e,n)) B.sz
 have hsr:=hT.strs.get hst;cases hc:(Nat.beq sz' 1&&Nat.ble by_ 100000)with
 |false=>rw[hc]at h;cases h
 |true=>
  rw[hc,C5]at h;obtain⟨b1,b2⟩:=C2.1 hc;have e1:=Cc b1;have hte:=hT.elem.get he;rw[e1]at hte;have ey:=Z6 (D:=D) hy;split at h
  ·rename_i i ver hx;split at h
   ·rename_i T hcur;split at h
    ·rename_i l hl;obtain⟨et,rfl⟩:=Zr hl;obtain⟨TE,Tt,Tl,Tv⟩:=T;dsimp only at et;subst et;cases hE:(Nat.beq TE e&&!(Nat.beq e 0))with
     |false=>rw[hE]at h;cases h
     |true=>
      rw[hE]at h;cases h;obtain⟨hE1,hE2⟩:=C2.1 hE;have eE:=Cc hE1;(have eN:Nat.beq e 0=false:=by simpa using hE2);subst eE;intro hg;have hcur':=hcur;unfold cur at hcur';split at hcur'
      ·rename_i T0 hlk;cases hv:Nat.beq T0.ver ver with
       |false=>rw[hv]at hcur';cases hcur'
       |true=>
        rw[hv]at hcur';cases hcur';have ex:=Z6 (D:=D) hx;have ex':ev (st.er D).tm x=some (.v (.one (.app i 1 ((U.E B.t).encL Tl)))):=by
         rw[ex];show some (TV.v (.one (match cur st.m.tk i ver with
          |some T=>CA.app i (U.E T.t).sz ((U.E T.t).encL T.l)
          |none=>CA.any)))=_
         rw[hcur];show some (TV.v (.one (CA.app i (U.E B.t).sz ((U.E B.t).encL Tl))))=_;rw[B.sz]
        (have htok:lk (st.er D).tk i=some (some ⟨TE,1,((U.E B.t).encL Tl).length,[]⟩):=by show lk (QW TTok.erO st.m.tk) i=_;rw[QY,hlk];show some (TTok.erO (⟨TE,B.t,Tl,_⟩:TTok U))=_;rw[KK eN];show some (some (⟨TE,(U.E B.t).sz,((U.E B.t).encL Tl).length,[]⟩:Tok))=_;rw[B.sz]);(have hg':Nat.ble (((U.E B.t).encL Tl).length+s.length) 1000000000=true:=by rw[Enc.len];exact hg);have key:=Q8d (E:=E) (st:=st.er D) (d:=dd) (ty:=ty) (pos:=pos) (af:=af) (g:=g) ht1 hsr hte b2 ex' htok ey hg';(have ek:(⟨TE,B.t,Tl++B.bs s,ver+1⟩:TTok U).er=⟨TE,1,((U.E B.t).encL Tl++bc s).length,[]⟩:=by show(⟨TE,(U.E B.t).sz,((U.E B.t).encL (Tl++B.bs s)).length,[]⟩:Tok)=_;rw[B.sz,B.ok]);refine⟨(st.er D).hp,(i,some ⟨TE,1,((U.E B.t).encL Tl++bc s).length,[]⟩)::QT i (st.er D).tk,?_,λj=>rfl,λj=>?_⟩;(rotate_left);exact λx hx=>Xk ek (λj=>JI i _ _ j) hx;have ex2:(TTV.v (.one (.app i (ver+1))):TTV U).er D (Zu (some (i,(⟨TE,B.t,Tl++B.bs s,ver+1⟩:TTok U))) st.m.tk)=.v (.one (.app i 1 ((U.E B.t).encL Tl++bc s))):=by
         show TV.v (.one (match cur ((i,(⟨TE,B.t,Tl++B.bs s,ver+1⟩:TTok U))::st.m.tk) i (ver+1)with
          |some T=>CA.app i (U.E T.t).sz ((U.E T.t).encL T.l)
          |none=>CA.any))=_
         rw[K2,Cf rfl,Cf rfl];show TV.v (.one (CA.app i (U.E B.t).sz ((U.E B.t).encL (Tl++B.bs s))))=_;rw[B.sz,B.ok]
        rw[ex2];exact key
      cases hcur'
    cases h
   cases h
  ·rename_i hx;cases h;intro hg;have key:=Q45 (E:=E) (st:=st.er D) (d:=dd) (ty:=ty) (pos:=pos) (af:=af) (g:=g) ht1 hsr hte b2 (Z6 (D:=D) hx) ey hg;have em:(U.E B.t).encL (B.bs s)=bc s:=by have:=B.ok [] s;rw[Pj]at this;rw[this,show(U.E B.t).encL []=[]from Cz (Enc.len (α:=U.R B.t) [])];rfl
   refine⟨(st.er D).hp,(st.m.nx,some ⟨e,1,(bc s).length,[]⟩)::(st.er D).tk,?_,λj=>rfl,λj=>?_⟩;rotate_left
   have ek:(⟨e,B.t,B.bs s,0⟩:TTok U).er=⟨e,1,(bc s).length,[]⟩:=by show(⟨e,(U.E B.t).sz,((U.E B.t).encL (B.bs s)).length,[]⟩:Tok)=_;rw[B.sz,em]
   exact λx hx=>Xk ek (λj=>rfl) hx;have ex2:(TTV.v (.one (.app st.m.nx 0)):TTV U).er D (Zu (some (st.m.nx,(⟨e,B.t,B.bs s,0⟩:TTok U))) st.m.tk)=.v (.one (.app st.m.nx 1 (bc s))):=by
    show TV.v (.one (match cur ((st.m.nx,(⟨e,B.t,B.bs s,0⟩:TTok U))::st.m.tk) st.m.nx 0 with
     |some T=>CA.app st.m.nx (U.E T.t).sz ((U.E T.t).encL T.l)
     |none=>CA.any))=_
    rw[K2,Cf rfl,Cf rfl];show TV.v (.one (CA.app st.m.nx (U.E B.t).sz ((U.E B.t).encL (B.bs s))))=_;rw[B.sz,em]
   rw[ex2];exact key
  cases h
def Q2n(W:Wd)(D:Codec U)(P:Program)(K:FuncId->List (TAV U)->Option (KR U)):Prop:=∀f args kr a,K f args=some kr->kr.o=some a->∃ys,(∀tk,ASubL (args.map (TAV.er D tk)) ys)/\∀tk,FunW W P f ys ((kr.f a).er D tk)
variable{W:Wd}
variable{K:FuncId->List (TAV U)->Option (KR U)}
theorem Qhd{tk:List (Nat×TTok U)}{x y:TAV U}(h:Uu tk x=some y){z:AV}(hz:ASub (y.er D tk) z):ASub (x.er D tk) z:=by
 unfold Uu at h;split at h;rename_i a;split at h;rename_i b hb;cases h;cases hz with|one h=>exact .one (Q5c hb h)
 cases h;rename_i xs;split at h;rename_i ys hy;cases h;cases hz with|agg h=>refine .agg ?_;(have key:∀{us vs ws:List CA},LSub us ws->(∀cs,CSubs us cs->CSubs vs cs)->LSub vs ws:=by intro us vs ws h hk;(have h1:∃cs:List Proofs.YtjcfppnjamjjhaaGreatDoor.C,ws=cs.map .d/\CSubs us cs:=by clear hk;induction h with|nil=>exact⟨[],rfl,.nil⟩|cons h t ih=>obtain⟨cs,e,h2⟩:=ih;exact⟨_::cs,by rw[e];rfl,.cons h h2⟩);obtain⟨cs,rfl,h2⟩:=h1;have h3:=hk cs h2;clear hk h h2;induction h3 with|nil=>exact .nil|cons h t ih=>exact .cons h ih);exact key h (λcs hc=>XV hy hc)
 cases h
theorem GM{tk:List (Nat×TTok U)}:∀{xs ys:List (TAV U)},Zn tk xs=some ys->∀{zs:List AV},ASubL (ys.map (TAV.er D tk)) zs->ASubL (xs.map (TAV.er D tk)) zs|[],ys,h,zs,hz=>by cases h;exact hz|x::xs,ys,h,zs,hz=>by unfold Zn at h;split at h;rename_i y ys' hy hys;cases h;(cases hz with|cons h1 h2=>exact .cons (Qhd hy h1) (GM hys h2));cases h
theorem XG:∀{os:List Operand}{xs:List (TAV U)},Q3k st.tm os=some xs->Z7 (st.er D).tm os=some (xs.map (TAV.er D st.m.tk))|[],xs,h=>by cases h;rfl|o::os,xs,h=>by unfold Q3k at h;split at h;rename_i x ys hx hys;cases h;unfold Z7;rw[Z6 (D:=D) hx,XG hys];rfl;cases h
theorem Qut(hW:W.p E.V0.S E.w0)(hK:Q2n W D E.P K){x:Operand}{os:Array Operand}{ts:Array TypeId}(h:Qg2 K st x os.toList=some r):EfOK D E ⟨dd,.call {callee:=.value x,args:=os,argTypes:=ts},ty,pos,af,g⟩ st r:=by unfold Qg2 at h;split at h;rename_i f args hx ha;split at h;rename_i args' hs;split at h;rename_i kr hk;cases h;intro a hoa;obtain⟨ys,h1,h2⟩:=hK f args' kr a hk hoa;exact⟨_,_,D9 hW (Z6 (D:=D) hx) (h2 st.m.tk) (XG (D:=D) ha) (GM hs (h1 st.m.tk)),λj=>rfl,λj x hx=>hx⟩;cases h;cases h;cases h
theorem Qr2(hT:C.T.OK E.P)(hD:D.OK)(hW:W.p E.V0.S E.w0)(hK:Q2n W D E.P K){o:Oper}(h:J6u D C K st o=some r):EfOK D E o st r:=by
 obtain⟨dd,op,ty,pos,af,g⟩:=o;unfold J6u at h;dsimp only at h;split at h;exact Qzc h;exact Qpr hT h;split at h;exact Qnv hT hD h;cases h;exact Qy2 hT hD h;rename_i c;obtain⟨callee,⟨xs⟩,⟨ts⟩⟩:=c;dsimp only at h;split at h;rename_i x y t t';cases hb:Nat.beq t t' with|false=>rw[hb]at h;exact Qg5 hT h|true=>rw[hb]at h;have e:=Cc hb;subst e;exact Qjs hT h
 exact Qut hW hK h;cases h;cases h
end
end
section
open Go.RowKit
section
variable{U:Univ}
structure Sfx(a b:TSt U):Prop where
 tm:∃p,b.tm=p++a.tm
 es:∃p,b.m.es=p++a.m.es
 tk:∃p,b.m.tk=p++a.m.tk
 nx:a.m.nx<=b.m.nx
 nt:b.nt=a.nt
 df:a.df=[]\/b.df=a.df
theorem Sfx.refl(a:TSt U):Sfx a a:=⟨⟨[],rfl⟩,⟨[],rfl⟩,⟨[],rfl⟩,Cl _,rfl,.inr rfl⟩
theorem Sfx.trans{a b c:TSt U}(h:Sfx a b)(k:Sfx b c):Sfx a c:=by obtain⟨⟨p1,e1⟩,⟨p2,e2⟩,⟨p3,e3⟩,h4,h5,h6⟩:=h;obtain⟨⟨q1,f1⟩,⟨q2,f2⟩,⟨q3,f3⟩,k4,k5,k6⟩:=k;exact⟨⟨q1++p1,by rw[f1,e1,CB]⟩,⟨q2++p2,by rw[f2,e2,CB]⟩,⟨q3++p3,by rw[f3,e3,CB]⟩,Cg h4 k4,k5.trans h5,by rcases h6 with h|h;exact .inl h;rcases k6 with k|k;exact .inl (h.symm.trans k);exact .inr (k.trans h)⟩
theorem Sfx.put(st:TSt U)(dst:Option Nat)(x:TTV U):Sfx st ⟨UP dst x st.tm,st.m,st.nt,st.df⟩:=by refine⟨?_,⟨[],Z⟩,⟨[],Z⟩,Cl _,Z,.inr Z⟩;cases dst with|none=>exact⟨[],rfl⟩|some d=>exact⟨[(d,x)],rfl⟩
theorem Sfx.next(st:TSt U)(dst:Option Nat)(r:OR U)(h:st.m.nx<=r.nx):Sfx st (Q91 st dst r):=by
 refine⟨?_,⟨r.es,Z⟩,?_,h,Z,.inr Z⟩;cases dst with|none=>exact⟨[],rfl⟩|some d=>exact⟨[(d,r.x)],rfl⟩
 show ∃p,Zu r.tk st.m.tk=p++st.m.tk;cases r.tk with|none=>exact⟨[],rfl⟩|some q=>exact⟨[q],rfl⟩
inductive CalT where
 |fn (f:FuncId)
 |yld (L:Nat)
 |dfr (f:FuncId) (u:Option Value)
structure CO(U:Univ) where
 run:{β:Type}->(TTV U->TMe U->Option β)->(Value->TMe U->Option β)->Option β
abbrev YH(U:Univ):=Nat->List (TAV U)->TMe U->Option (CO U)
abbrev XH(U:Univ):=YH U->CalT->List (TAV U)->TMe U->Option (CO U)
inductive OutT(U:Univ) where
 |val (x:TTV U) (m:TMe U)
 |die (v:Value) (m:TMe U)
def OutT.m:OutT U->TMe U|.val _ m=>m|.die _ m=>m
def OutT.to{β:Type}(k:TTV U->TMe U->Option β)(d:Value->TMe U->Option β):OutT U->Option β|.val x m=>k x m|.die v m=>d v m
def OutT.er(D:Codec U):OutT U->OutM|.val x m=>.val (x.er D m.tk) (m.er D)|.die v m=>.die v (m.er D)
structure SfM(m m':TMe U):Prop where
 es:∃p,m'.es=p++m.es
 tk:∃p,m'.tk=p++m.tk
 nx:m.nx<=m'.nx
theorem SfM.refl(m:TMe U):SfM m m:=⟨⟨[],rfl⟩,⟨[],rfl⟩,Cl _⟩
theorem SfM.trans{a b c:TMe U}(h:SfM a b)(k:SfM b c):SfM a c:=by obtain⟨⟨p2,e2⟩,⟨p3,e3⟩,h4⟩:=h;obtain⟨⟨q2,f2⟩,⟨q3,f3⟩,k4⟩:=k;exact⟨⟨q2++p2,by rw[f2,e2,CB]⟩,⟨q3++p3,by rw[f3,e3,CB]⟩,Cg h4 k4⟩
theorem Sfx.sfm{a b:TSt U}(h:Sfx a b):SfM a.m b.m:=⟨h.es,h.tk,h.nx⟩
def J0s(E:Env)(o:Oper)(st:St):OutM->Prop|.val x m=>OpOK E o st x m|.die v m=>OpD E o st v m
def Qkc(m:TMe U)(xo:CO U)(S:OutT U->Prop):Prop:=∀ ⦃β:Type⦄ (k:TTV U->TMe U->Option β) (d:Value->TMe U->Option β) (r:β),xo.run k d=some r->∃o,S o/\SfM m o.m/\o.to k d=some r
def Qni(W:Wd)(D:Codec U)(P:Program)(L:Nat)(args:List (TAV U))(m:TMe U)(o:OutT U):Prop:=∀(E:Env)(st:St)(dd:Option Nat)(ty:TypeId)(pos:String)(af:Array Edge)(g:Option (Nat×Bool))(x:Operand)(ars:Array Operand)(ats:Array TypeId),E.P=P->W.p E.V0.S E.w0 -> ev st.tm x=some (.v (.one (.yld L)))->Z7 st.tm ars.toList=some (args.map (TAV.er D m.tk))->st.mem=m.er D->J0s E ⟨dd,.call {callee:=.value x,args:=ars,argTypes:=ats},ty,pos,af,g⟩ st (o.er D)
def ZX(is:List Nat):List (TAV U):=is.map λi=>.one (.ptr i 0)
def Qgp(W:Wd)(D:Codec U)(P:Program)(c:CalT)(args:List (TAV U))(m:TMe U)(o:OutT U):Prop:=match c with|.fn f=>CallO W P f (args.map (TAV.er D m.tk)) (m.er D) (o.er D)|.yld L=>Qni W D P L args m o|.dfr f u=>∃is rc m2,args=ZX is/\o=.val (Je4 rc) m2/\DefM W P f is u (m.er D) (m2.er D) rc
def YOK(W:Wd)(D:Codec U)(P:Program)(Y:YH U)(m0:TMe U):Prop:=∀L args m xo,SfM m0 m->Y L args m=some xo->Qkc m xo (Qni W D P L args m)
theorem YOK.mono{W:Wd}{D:Codec U}{P:Program}{Y:YH U}{m m':TMe U}(h:YOK W D P Y m)(k:SfM m m'):YOK W D P Y m':=λL args m2 xo hm hx=>h L args m2 xo (k.trans hm) hx
def UM(W:Wd)(D:Codec U)(P:Program)(X:XH U):Prop:=∀Y c args m xo,YOK W D P Y m->X Y c args m=some xo->Qkc m xo (Qgp W D P c args m)
def Ui(tk' tk:List (Nat×TTok U)):List (Nat×Nat):=(tk'.take (tk'.length-tk.length)).map λp=>(p.1,p.2.ver)
def ZB(ap:List (Nat×Nat))(tm:List (Nat×TTV U)):Bool:=ap.all λp=>!(tm.any λq=>q.2.hasApp p.1 p.2)
def Qa8(caps:List (Nat×Nat)):List (TAV U):=caps.map λp=>.one (.ptr p.1 p.2)
def Qna(X:XH U)(Y:YH U)(st:TSt U)(o:Oper):Option (CO U):=match o.op with|.call {callee:=.value x,args:=os,argTypes:=_}=>(match Zb st.tm x with|some (.v (.one (.fn f caps)))=>(match Q3k st.tm os.toList with|some vs=>X Y (.fn f) (vs++Qa8 caps) st.m|none=>none)|some (.v (.one (.raw (.yld L))))=>(match Q3k st.tm os.toList with|some vs=>Y L vs st.m|none=>none)|_=>none)|_=>none
def Qwi(st:TSt U)(o:Oper):Option Value:=match o.op with|.panic x=>(match Zb st.tm x with|some (.v (.one (.c (.v (.iface T v)))))=>some (.iface T v)|_=>none)|_=>none
def Qfy:List (Nat×Nat)->Option (List Nat)
 |[]=>some []
 |(i,k)::r=>cond (Nat.beq k 0) (match Qfy r with
  |some l=>some (i::l)
  |none=>none) none
def J9w(st:TSt U)(o:Oper):Option (List Nat):=match o with|⟨none,.defer {callee:=.value x,args:=os,argTypes:=_},_,_,_,none⟩=>(match os.toList,Zb st.tm x with|[],some (.v (.one (.fn f caps)))=>(match Qfy caps with|some is=>some (f::is)|none=>none)|_,_=>none)|_=>none
variable(D:Codec U)(C:TCfg U)(K:FuncId->List (TAV U)->Option (KR U))(X:XH U)(Y:YH U)(rn:Option Nat)
def Q8n{β:Type}(o:Oper)(st:TSt U)(p:Value->TSt U->Option β)(k:TSt U->Option β):Option β:=match Qvu D C st o with|some r=>cond (Yj st o.dst) (r.run λx=>k ⟨UP o.dst x st.tm,st.m,st.nt,st.df⟩) none|none=>match J6u D C K st o with|some e=>e.run λq=>cond (Q5u st (q.es++st.m.es) q.tk&&Yj st o.dst&&Nat.ble st.m.nx q.nx) (k (Q91 st o.dst q)) none|none=>match Qna X Y st o with|some xo=>cond (Yj st o.dst) (xo.run (λx m=>cond (ZB (Ui m.tk st.m.tk) st.tm) (k ⟨UP o.dst x st.tm,m,st.nt,st.df⟩) none) λv m=>cond (ZB (Ui m.tk st.m.tk) st.tm) (p v ⟨st.tm,m,st.nt,st.df⟩) none) none|none=>match Qwi st o with|some v=>p v st|none=>match rn,st.df,J9w st o with|none,[],some df=>k ⟨st.tm,st.m,st.nt,df⟩|_,_,_=>none
def KQ(o:Oper)(st:TSt U):TSt U:=⟨UP o.dst (.tup []) st.tm,st.m,st.nt,st.df⟩
def setB(st:TSt U)(d:Nat)(b:Bool):TSt U:=⟨(d,Je4 b)::st.tm,st.m,st.nt,st.df⟩
def Q3w{β:Type}(ops:Array Oper)(p:Value->TSt U->Option β):List Oper->TSt U->(TSt U->Option β)->Option β
 |[],st,k=>k st
 |o::os,st,k=>match o.guard with
  |none=>Q8n D C K X Y rn o st p λs=>Q3w ops p os s k
  |some (j,b)=>match(ops[j]?).bind (·.dst)with
   |none=>none
   |some d=>match lk st.tm d with
    |some (.v (.one (.c (.v (.bool c)))))=>cond c
     (cond b (Q8n D C K X Y rn o (setB st d true) p λs=>Q3w ops p os s k) (Q3w ops p os (KQ o (setB st d true)) k))
     (cond b (Q3w ops p os (KQ o (setB st d false)) k) (Q8n D C K X Y rn o (setB st d false) p λs=>Q3w ops p os s k))
    |some (.tup [])=>Q3w ops p os (KQ o st) k
    |_=>none
variable{D C K X Y rn}
theorem Qpk{p tk:List (Nat×TTok U)}{j u:Nat}(h:(j,u)∉p.map λq=>(q.1,q.2.ver)):cur (p++tk) j u=none\/cur (p++tk) j u=cur tk j u:=by induction p with|nil=>exact .inr rfl|cons q p ih=>obtain⟨i,T⟩:=q;rw[CJ,Cs]at h;show cur ((i,T)::(p++tk)) j u=none\/cur ((i,T)::(p++tk)) j u=_;rw[K2];by_cases e:i=j;rw[Cf e];by_cases e2:T.ver=u;exact(h (.inl (by rw[e,e2]))).elim;rw[Ca e2];exact .inl rfl;rw[Ca e];exact ih λhm=>h (.inr hm)
theorem XI{D:Codec U}{tm:List (Nat×TTV U)}{tk tk':List (Nat×TTok U)}(hf:ZB (Ui tk' tk) tm=true)(hc:∃p,tk'=p++tk){t:Nat}{z:TTV U}(hz:lk tm t=some z)(V:Vu)(w:World)(v:Value)(hv:(z.er D tk).rel V w v):(z.er D tk').rel V w v:=by
 obtain⟨p,rfl⟩:=hc;have e:Ui (p++tk) tk=p.map λq=>(q.1,q.2.ver):=by unfold Ui;rw[C8,Nat.add_sub_cancel,List.take_left]
 rw[e]at hf;refine Kq (λj u hu=>Qpk λhm=>?_) hv;have h1:=Ch.1 hf (j,u) hm;have h2:tm.any (λq=>q.2.hasApp j u)=false:=by simpa using h1
 exact Pt.1 h2 (t,z) (Ym hz) hu
theorem Qfz(tk:List (Nat×TTok U))(caps:List (Nat×Nat)):(Qa8 caps).map (TAV.er D tk)=K9 caps:=by unfold Qa8 K9;rw[CL];rfl
structure Fit(W:Wd)(P:Program)(rn:Option Nat)(E:Env)(ro:Option Nat):Prop where
 P:E.P=P
 W:W.p E.V0.S E.w0
 rn:Q0x E rn ro
theorem Qg1{W:Wd}{P:Program}(hX:UM W D P X){st:TSt U}(hY:YOK W D P Y st.m){o:Oper}{xo:CO U}(h:Qna X Y st o=some xo):Qkc st.m xo λr=>∀E,E.P=P->W.p E.V0.S E.w0->J0s E o (st.er D) (r.er D):=by
 unfold Qna at h;split at h;rename_i x os ts hop;obtain⟨dd,op,ty,pos,af,g⟩:=o;dsimp only at hop;subst hop;split at h;rename_i f caps hx;split at h;rename_i vs has;intro β k d r hr;obtain⟨q,h1,h2,h3⟩:=hX Y _ _ _ _ hY h k d r hr;refine⟨q,λE hP hW=>?_,h2,h3⟩;subst hP;have h1':CallO W E.P f ((vs++Qa8 caps).map (TAV.er D st.m.tk)) (st.m.er D) (q.er D):=h1;rw[Ct,Qfz]at h1';cases q with|val y m=>exact Qgk hW (Z6 (D:=D) hx) (XG (D:=D) has) h1'|die v m=>exact Qka hW (Z6 (D:=D) hx) (XG (D:=D) has) h1'
 cases h;rename_i L hx;split at h;rename_i vs has;intro β k d r hr;obtain⟨q,h1,h2,h3⟩:=hY _ _ _ _ (SfM.refl _) h k d r hr;exact⟨q,λE hP hW=>h1 E (st.er D) dd ty pos af g x os ts hP hW (Z6 (D:=D) hx) (XG (D:=D) has) Z,h2,h3⟩;cases h;cases h;cases h
theorem Qwa{o:Oper}{st:TSt U}{r:RdR U}{β:Type}{k:TTV U->Option β}{v:β}(hk:r.run k=some v):∃x,k x=some v/\∀E,RdOK D E o st r->RO E o (st.er D) (x.er D st.m.tk):=by cases r with|val x=>exact⟨x,hk,λE h=>h⟩|grd g x=>(obtain⟨h1,h2⟩:=Gw hk;exact⟨x,h2,λE h=>h h1⟩)|ix oo f=>obtain⟨a,h1,h2⟩:=Zt hk;exact⟨f a,h2,λE h=>h a h1⟩
theorem Qz3{o:Oper}{st:TSt U}{r:EfR U}{β:Type}{k:OR U->Option β}{v:β}(hk:r.run k=some v):∃x,k x=some v/\∀E,EfOK D E o st r->OROK D E o st x:=by cases r with|val x=>exact⟨x,hk,λE h=>h⟩|grd g x=>(obtain⟨h1,h2⟩:=Gw hk;exact⟨x,h2,λE h=>h h1⟩)|ix oo f=>obtain⟨a,h1,h2⟩:=Zt hk;exact⟨f a,h2,λE h=>h a h1⟩
theorem Qla{E:Env}{st:TSt U}{o:Oper}{v:Value}(h:Qwi st o=some v):OpD E o (st.er D) v (st.er D).mem:=by unfold Qwi at h;split at h;rename_i x hop;split at h;rename_i T u hx;cases h;obtain⟨dd,op,ty,pos,af,g⟩:=o;dsimp only at hop;subst hop;exact OpD.panic (Z6 (D:=D) hx);cases h;cases h
theorem Qfx:∀{caps:List (Nat×Nat)}{is:List Nat},Qfy caps=some is->caps=is.map λi=>(i,0)
 |[],is,h=>by cases h;rfl
 |(i,k)::r,is,h=>by
  have h':cond (Nat.beq k 0) (match Qfy r with
   |some l=>some (i::l)
   |none=>none) none=some is:=h
  cases hk:Nat.beq k 0 with|false=>rw[hk]at h';cases h'|true=>rw[hk,C5]at h';have e:=Cc hk;subst e;cases hl:Qfy r with|none=>rw[hl]at h';cases h'|some l=>rw[hl]at h';cases h';rw[Qfx hl];rfl
theorem Qpw{E:Env}{n:Nat}{ops:Array Oper}{Q:Exit->Act->World->Prop}{rest:List Oper}{st:St}{pos:String}{af:Array Edge}{ty:TypeId}{x:Operand}{ats:Array TypeId}{f:Nat}{is:List Nat}(hx:ev st.tm x=some (.v (.one (.fn f (is.map λi=>(i,0))))))(hdf:st.df=[])(k:XL E none n ops Q rest ⟨st.tm,st.hp,st.tk,st.nx,st.nt,f::is⟩):XL E none n ops Q (⟨none,.defer {callee:=.value x,args:=#[],argTypes:=ats},ty,pos,af,none⟩::rest) st:=by
 intro V a w hr;unfold wpListIn;rw[Cf (by simp[Region.wanted])];refine⟨λ_ _=>trivial,?_⟩;obtain⟨hv1,hv2⟩:=hr.ev hx;have hps:((is.map λi=>((i,0):Nat×Nat)).map λp=>Value.pointer (some ⟨V.ι p.1,p.2,none⟩))=is.map (Gr V):=by rw[CL];rfl
 have hrun:(Oper.semAt (FR none).round a.eval ⟨none,.defer {callee:=.value x,args:=#[],argTypes:=ats},ty,pos,af,none⟩).run E.P w=.ok (.defer (Qjk f (is.map (Gr V)))) w:=by simp[FR,Oper.semAt_none,execOp,resolve,hv2,Deferred.ofValue,<-hps]
 rw[hrun];refine k V _ w ⟨hr.h,hr.nx,hr.nt,?_,hr.tm⟩;obtain⟨bs,h1,h2,h3⟩:=hr.df.of_nil hdf;exact .inr ⟨f,is,[],bs,rfl,λi hi=>hv1 (i,0) (Cx.2 ⟨i,hi,rfl⟩),by simp only[List.map_nil,Pj];rw[<-h1];rfl,by simpa using⟨h2,h3⟩⟩
section
variable{ops:Array Oper}{rest:List Oper}{β:Type}{r:β}
theorem Qks(o:Oper)(st:TSt U):StW (WU (st.er D) o.dst (.tup []) (st.er D).mem) ((KQ o st).er D):=by unfold KQ;cases o.dst with|none=>exact StW.refl _|some d=>refine⟨λt y hy=>.inr ⟨y,?_,λ_ _ _ h=>h⟩,λi B h=>⟨B,h,λ_ _ _ h=>h⟩,λi T h=>h,Z,Z,Z⟩;show lk ((d,TV.tup [])::QT d (st.er D).tm) t=some y;rw[JI];exact hy
theorem Qwh(st:TSt U)(dst:Option Nat)(x:TTV U):StW (WU (st.er D) dst (x.er D st.m.tk) (st.er D).mem) ((⟨UP dst x st.tm,st.m,st.nt,st.df⟩:TSt U).er D):=by cases dst with|none=>exact StW.refl _|some d=>refine⟨λt y hy=>.inr ⟨y,?_,λ_ _ _ h=>h⟩,λi B h=>⟨B,h,λ_ _ _ h=>h⟩,λi T h=>h,Z,Z,Z⟩;show lk ((d,x.er D st.m.tk)::QT d (st.er D).tm) t=some y;rw[JI];exact hy
theorem Qeo{st:TSt U}{d:Option Nat}(h:Yj st d=true):ZH (st.er D) d=true:=by cases d with|none=>rfl|some d=>exact h
theorem Qrn{st:TSt U}{dst:Option Nat}{x:TTV U}{m:TMe U}(h:∀t z,lk st.tm t=some z->∀V w v,(z.er D st.m.tk).rel V w v->(z.er D m.tk).rel V w v):StW (WU (st.er D) dst (x.er D m.tk) (m.er D)) ((⟨UP dst x st.tm,m,st.nt,st.df⟩:TSt U).er D):=by
 have old:∀t y,lk (QW (TTV.er D m.tk) st.tm) t=some y->y=.unk\/∃x,lk (QW (TTV.er D st.m.tk) st.tm) t=some x/\∀V w v,x.rel V w v->y.rel V w v:=λt y hy=>by rw[QY]at hy⊢;cases hz:lk st.tm t with|none=>rw[hz]at hy;cases hy|some z=>rw[hz]at hy;cases hy;exact .inr ⟨_,rfl,h t z hz⟩
 cases dst with|none=>exact⟨old,λi B h=>⟨B,h,λ_ _ _ h=>h⟩,λi T h=>h,rfl,rfl,rfl⟩|some d=>refine⟨λt y hy=>?_,λi B h=>⟨B,h,λ_ _ _ h=>h⟩,λi T h=>h,Z,Z,Z⟩;have hy':lk ((d,x.er D m.tk)::QW (TTV.er D m.tk) st.tm) t=some y:=hy;show y=.unk\/∃z,lk ((d,x.er D m.tk)::QT d (st.er D).tm) t=some z/\_;rw[JI];rw[Q8]at hy'⊢;by_cases e:d=t;rw[Cf e]at hy'⊢;cases hy';exact .inr ⟨_,rfl,λ_ _ _ h=>h⟩;rw[Ca e]at hy'⊢;exact old t y hy'
theorem Qfs{st:TSt U}{m:TMe U}(h:∀t z,lk st.tm t=some z->∀V w v,(z.er D st.m.tk).rel V w v->(z.er D m.tk).rel V w v):StW (⟨(st.er D).tm,(m.er D).hp,(m.er D).tk,(m.er D).nx,st.nt,st.df⟩:St) ((⟨st.tm,m,st.nt,st.df⟩:TSt U).er D):=
 ⟨λt y hy=>by
  have hy':lk (QW (TTV.er D m.tk) st.tm) t=some y:=hy;rw[QY]at hy';cases hz:lk st.tm t with
  |none=>rw[hz]at hy';cases hy'
  |some z=>rw[hz]at hy';cases hy';exact .inr ⟨z.er D st.m.tk,by show lk (QW _ st.tm) t=_;rw[QY,hz];rfl,h t z hz⟩,λi B h=>⟨B,h,λ_ _ _ h=>h⟩,λi T h=>h,rfl,rfl,rfl⟩
def OneL(D:Codec U)(W:Wd)(P:Program)(rn:Option Nat)(ops:Array Oper)(l0 l1:List Oper){β:Type}(st:TSt U)(p:Value->TSt U->Option β)(k:TSt U->Option β)(r:β):Prop:=(∃s,Sfx st s/\k s=some r/\∀E ro n Q,Fit W P rn E ro->XL E ro n ops Q l1 (s.er D)->XL E ro n ops Q l0 (st.er D))\/(∃v s,Sfx st s/\p v s=some r/\∀E ro n Q,Fit W P rn E ro->XQ E Q (.panic (Kz v)) (s.er D)->XL E ro n ops Q l0 (st.er D))
theorem Qdz{P:Program}(hT:C.T.OK P)(hD:D.OK){W:Wd}(hK:Q2n W D P K)(hX:UM W D P X){o:Oper}{st:TSt U}(hY:YOK W D P Y st.m){p:Value->TSt U->Option β}{k:TSt U->Option β}(h:Q8n D C K X Y rn o st p k=some r)(hg:QQ ops (st.er D).tm o=some true):OneL D W P rn ops (o::rest) rest st p k r:=by
 unfold Q8n at h;split at h;rename_i rd hrd;cases hd:Yj st o.dst with|false=>rw[hd]at h;cases h|true=>rw[hd,C5]at h;obtain⟨x,h1,h2⟩:=Qwa (D:=D) (o:=o) (st:=st) h;exact .inl ⟨_,Sfx.put st o.dst x,h1,λE ro n Q f hl=>Qcu hg (Q9 (h2 E (Qh5 (D:=D) (f.P.symm▸hT) hD hrd))) (Qeo hd) (Q0s (Qwh st o.dst x) hl)⟩
 split at h;rename_i e he;obtain⟨q,h1,h2⟩:=Qz3 (D:=D) (o:=o) (st:=st) h;cases hc:(Q5u st (q.es++st.m.es) q.tk&&Yj st o.dst&&Nat.ble st.m.nx q.nx)with|false=>rw[hc]at h1;cases h1|true=>rw[hc,C5]at h1;obtain⟨b12,b3⟩:=C2.1 hc;obtain⟨b1,b2⟩:=C2.1 b12;exact .inl ⟨_,Sfx.next st o.dst q (C9 b3),h1,λE ro n Q f hl=>(h2 E (Qr2 (D:=D) (f.P.symm▸hT) hD f.W (f.P.symm▸hK) he)).next b1 b2 hg hl⟩
 split at h;rename_i xo hxo;cases b1:Yj st o.dst with
 |false=>rw[b1]at h;cases h
 |true=>
  rw[b1,C5]at h;obtain⟨q,q1,q2,h2⟩:=Qg1 hX hY hxo _ _ _ h;cases q with
  |val x m=>
   dsimp only[OutT.to]at h2;cases b2:ZB (Ui m.tk st.m.tk) st.tm with
   |false=>rw[b2]at h2;cases h2
   |true=>
   rw[b2,C5]at h2;refine .inl ⟨⟨UP o.dst x st.tm,m,st.nt,st.df⟩,⟨?_,q2.es,q2.tk,q2.nx,Z,.inr Z⟩,h2,λE ro n Q f hl=>Qcu hg (q1 E f.P f.W) (Qeo b1) (Q0s ?_ hl)⟩;cases o.dst with|none=>exact⟨[],rfl⟩|some d=>exact⟨[(d,x)],rfl⟩
   exact Qrn (λt z hz V w v hv=>XI b2 q2.tk hz V w v hv)
  |die v m=>
   dsimp only[OutT.to]at h2;cases b2:ZB (Ui m.tk st.m.tk) st.tm with
   |false=>rw[b2]at h2;cases h2
   |true=>
   rw[b2,C5]at h2;exact .inr ⟨v,⟨st.tm,m,st.nt,st.df⟩,⟨⟨[],Z⟩,q2.es,q2.tk,q2.nx,Z,.inr Z⟩,h2,λE ro n Q f hq=>Qvb (hp:=(m.er D).hp) (tk:=(m.er D).tk) (nx:=(m.er D).nx) hg (q1 E f.P f.W) (X4 (Qfs λt z hz V w v hv=>XI b2 q2.tk hz V w v hv) hq)⟩
 split at h;rename_i v hv;exact .inr ⟨v,st,Sfx.refl st,h,λE ro n Q f hq=>Qvb (hp:=(st.er D).hp) (tk:=(st.er D).tk) (nx:=(st.er D).nx) hg (Qla hv) hq⟩;split at h;rename_i df hrn hdf hdt;unfold J9w at hdt;split at hdt;split at hdt;rename_i f caps hos hx;split at hdt;rename_i is hz;cases hdt;have e:=Qfx hz;subst e;have eo:=Sk (ys:=#[]) hos;subst eo;refine .inl ⟨⟨st.tm,st.m,st.nt,f::is⟩,⟨⟨[],Z⟩,⟨[],Z⟩,⟨[],Z⟩,Cl _,Z,.inl hdf⟩,h,λE ro n Q ft hl=>?_⟩;have ero:ro=none:=ft.rn;subst ero;exact Qpw (st:=st.er D) (Z6 (D:=D) hx) hdf hl;cases hdt;cases hdt;cases hdt;cases h
theorem DZ(st:TSt U)(d:Nat)(b:Bool):Sfx st (setB st d b):=Sfx.put st (some d) (Je4 b)
theorem Qy1(st:TSt U)(d:Nat)(b:Bool):lk ((setB st d b).er D).tm d=some (TB b):=by show lk ((d,TB b)::(st.er D).tm) d=_;rw[Q8,Cf rfl]
theorem OneL.trans{l0 l1 l2:List Oper}{st s1:TSt U}{p:Value->TSt U->Option β}{k:TSt U->Option β}(hs:Sfx st s1){W:Wd}{P:Program}(h1:∀E ro n Q,Fit W P rn E ro->XL E ro n ops Q l1 (s1.er D)->XL E ro n ops Q l0 (st.er D))(h2:OneL D W P rn ops l1 l2 s1 p k r):OneL D W P rn ops l0 l2 st p k r:=by rcases h2 with⟨s,q1,q2,q3⟩|⟨v,s,q1,q2,q3⟩;exact .inl ⟨s,hs.trans q1,q2,λE ro n Q f hl=>h1 E ro n Q f (q3 E ro n Q f hl)⟩;exact .inr ⟨v,s,hs.trans q1,q2,λE ro n Q f hl=>h1 E ro n Q f (q3 E ro n Q f hl)⟩
theorem OneL.bind{l0 l1 l2:List Oper}{st s0:TSt U}{p:Value->TSt U->Option β}{k:TSt U->Option β}{f:TSt U->Option β}{W:Wd}{P:Program}(hs0:Sfx st s0)(he:∀E ro n Q,Fit W P rn E ro->XL E ro n ops Q l0 (s0.er D)->XL E ro n ops Q l0 (st.er D))(h1:OneL D W P rn ops l0 l1 s0 p f r)(h2:∀s,Sfx s0 s->f s=some r->OneL D W P rn ops l1 l2 s p k r):OneL D W P rn ops l0 l2 st p k r:=by rcases h1 with⟨s,q1,q2,q3⟩|⟨v,s,q1,q2,q3⟩;exact OneL.trans (hs0.trans q1) (λE ro n Q f hl=>he E ro n Q f (q3 E ro n Q f hl)) (h2 s q1 q2);exact .inr ⟨v,s,hs0.trans q1,q2,λE ro n Q f hl=>he E ro n Q f (q3 E ro n Q f hl)⟩
theorem Q07{P:Program}(hT:C.T.OK P)(hD:D.OK){W:Wd}(hK:Q2n W D P K)(hX:UM W D P X){p:Value->TSt U->Option β}:∀(rest:List Oper){st:TSt U}{k:TSt U->Option β},YOK W D P Y st.m->Q3w D C K X Y rn ops p rest st k=some r->OneL D W P rn ops rest [] st p k r
 |[],st,k,hY,h=>.inl ⟨st,Sfx.refl st,h,λE ro n Q f hl=>hl⟩
 |o::os,st,k,hY,h=>by
  unfold Q3w at h;split at h;rename_i hgd;exact OneL.bind (Sfx.refl st) (λE ro n Q f hl=>hl) (Qdz (rest:=os) hT hD hK hX hY h (by unfold QQ;rw[hgd])) (λs hs h'=>Q07 hT hD hK hX os (hY.mono hs.sfm) h');rename_i j b hgd;split at h;cases h;rename_i d hj;split at h;rename_i c hc;have hlk:lk (st.er D).tm d=some (TB c):=by show lk (QW (TTV.er D st.m.tk) st.tm) d=_;rw[QY,hc];rfl
  have hw:∀b',QQ ops ((setB st d b').er D).tm o=some (b'==b):=λb'=>by unfold QQ;rw[hgd];dsimp only;rw[hj];dsimp only;rw[Qy1]
  have cse:∀b',c=b'->∀E ro n Q,Fit W P rn E ro->XL E ro n ops Q (o::os) ((setB st d b').er D)->XL E ro n ops Q (o::os) (st.er D):=λb' e E ro n Q f hl=>by subst e;refine QB hlk (λec=>?_) (λec=>?_);subst ec;exact hl;subst ec;exact hl
  have run:∀b',c=b'->Q8n D C K X Y rn o (setB st d b') p (λs=>Q3w D C K X Y rn ops p os s k)=some r->(b'==b)=true->OneL D W P rn ops (o::os) [] st p k r:=λb' ec h' e=>OneL.bind (DZ st d b') (cse b' ec) (Qdz (rest:=os) (st:=setB st d b') hT hD hK hX hY h' (by rw[hw,e])) (λs hs h''=>Q07 hT hD hK hX os (hY.mono hs.sfm) h'');have skip:∀b',c=b'->Q3w D C K X Y rn ops p os (KQ o (setB st d b')) k=some r->(b'==b)=false->OneL D W P rn ops (o::os) [] st p k r:=λb' ec h' e=>OneL.trans ((DZ st d b').trans (Sfx.put _ o.dst _)) (λE ro n Q f hl=>cse b' ec E ro n Q f (Qnj (st:=(setB st d b').er D) (by rw[hw,e]) (Q0s (Qks o _) hl))) (Q07 (st:=KQ o (setB st d b')) hT hD hK hX os hY h');cases ec:c with|true=>(rw[ec,C5]at h;cases b with|true=>exact run true ec h rfl|false=>exact skip true ec h rfl)|false=>rw[ec,C6]at h;cases b with|true=>exact skip false ec h rfl|false=>exact run false ec h rfl
  rename_i hc;have hlk:lk (st.er D).tm d=some (.tup []):=by show lk (QW (TTV.er D st.m.tk) st.tm) d=_;rw[QY,hc];rfl
  refine OneL.trans (Sfx.put _ o.dst _) (λE ro n Q f hl=>Qnj (by unfold QQ;rw[hgd];dsimp only;rw[hj];dsimp only;rw[hlk]) (Q0s (Qks o st) hl)) (Q07 (st:=KQ o st) hT hD hK hX os hY h);cases h
end
end
end
section
open Go.RowKit
section
variable{U:Univ}{D:Codec U}{C:TCfg U}{K:FuncId->List (TAV U)->Option (KR U)}
def Q83{α:Type}(a b:List α):List α:=b.take (b.length-a.length)
def Q34(i:Nat):Ev U->Bool|.box j _ _=>!(Nat.beq j i)|.raw j _=>!(Nat.beq j i)|.lp j _ _ _ _ _ _ _ _=>!(Nat.beq j i)|.ls j _=>!(Nat.beq j i)|.set j _ _=>!(Nat.beq j i)
theorem Qe4{i off n:Nat}{es:List (Ev U)}:∀{p:List (Ev U)},p.all (Q34 i)=true->UW D (p++es) i off n=UW D es i off n
 |[],h=>rfl
 |e::p,h=>by
  obtain⟨h1,h2⟩:=C2.1 h;have ih:=Qe4 (es:=es) (off:=off) (n:=n) h2;cases e with
  |box j T xs=>(have hj:Nat.beq j i=false:=by simpa[Q34]using h1);show cond (Nat.beq j i) _ _=_;rw[hj];exact ih
  |raw j B=>(have hj:Nat.beq j i=false:=by simpa[Q34]using h1);show cond (Nat.beq j i) _ _=_;rw[hj];exact ih
  |lp j s p tm nt ps a b d=>(have hj:Nat.beq j i=false:=by simpa[Q34]using h1);show cond (Nat.beq j i) _ _=_;rw[hj];exact ih
  |ls j xs=>(have hj:Nat.beq j i=false:=by simpa[Q34]using h1);show cond (Nat.beq j i) _ _=_;rw[hj];exact ih
  |set j o xs=>
   have hj:Nat.beq j i=false:=by simpa[Q34]using h1
   show(match UW D (p++es) i off n with
    |none=>none
    |some ys=>cond (Nat.beq j i) _ (some ys))=_
   rw[ih,hj];cases UW D es i off n <;> rfl
def Qho:TA U->Bool|.app _ _=>false|_=>true
def Qsa:It U->Bool|.one x=>Qho x|.grp _ _=>true
def Qbf:TAV U->Bool|.one x=>Qho x|.agg xs=>xs.all Qsa
def WS:Option (TTV U)->Bool|some (.v (.one (.app _ _)))=>false|_=>true
theorem Qcq{tk tk':List (Nat×TTok U)}{t:U.T}{x:TTV U}(h:WS (some x)=true):GH tk t x=GH tk' t x:=by unfold GH;split;rfl;rfl;cases h;rfl
theorem Q5d{tk tk':List (Nat×TTok U)}{x:TA U}(h:Qho x=true):G0 tk x=G0 tk' x:=by cases x <;> first|rfl|cases h
theorem Df{tk tk':List (Nat×TTok U)}:∀{xs:List (It U)},xs.all Qsa=true->Y6 tk xs=Y6 tk' xs
 |[],h=>rfl
 |It.grp t x::r,h=>by
  have h2:=(C2.1 h).2;show(match Y6 tk r with
   |some ys=>some (It.grp t x::ys)
   |none=>none)=_
  rw[Df (tk':=tk') h2];rfl
 |It.one x::r,h=>by
  obtain⟨h1,h2⟩:=C2.1 h;show(match G0 tk x,Y6 tk r with
   |some y,some ys=>some (It.one y::ys)
   |_,_=>none)=_
  rw[Df (tk':=tk') h2,Q5d (tk':=tk') h1];rfl
theorem Qhe{tk tk':List (Nat×TTok U)}{x:TAV U}(h:Qbf x=true):Uu tk x=Uu tk' x:=by
 cases x with
 |one x=>
  show(match G0 tk x with
   |some y=>some (TAV.one y)
   |none=>none)=_
  rw[Q5d (tk':=tk') h];rfl
 |agg xs=>
  show(match Y6 tk xs with
   |some ys=>some (TAV.agg ys)
   |none=>none)=_
  rw[Df (tk':=tk') h];rfl
theorem Q2t{tk tk':List (Nat×TTok U)}:∀{xs:List (TAV U)},xs.all Qbf=true->Zn tk xs=Zn tk' xs
 |[],h=>rfl
 |x::xs,h=>by
  obtain⟨h1,h2⟩:=C2.1 h;show(match Uu tk x,Zn tk xs with
   |some y,some ys=>some (y::ys)
   |_,_=>none)=_
  rw[Q2t (tk':=tk') h2,Qhe (tk':=tk') h1];rfl
def J7e(tm:List (Nat×TTV U))(p:List (Ev U))(o:Oper):Bool:=match o.op with|.load _ x=>(match Zb tm x with|some (.v (.one (.ptr i _)))=>p.all (Q34 i)|_=>true)|.indexAddr _ x _=>WS (Zb tm x)|.slice _ x _ _ _=>(match Zb tm x with|some (.v (.one (.c (.str _))))=>true|_=>false)|.convert _ _ x=>WS (Zb tm x)|.call c=>(match c.callee with|.builtin _=>c.args.toList.all λx=>WS (Zb tm x)|_=>match Q3k tm c.args.toList with|some vs=>vs.all Qbf|none=>false)|_=>true
theorem J2r{tm:List (Nat×TTV U)}{m m':TMe U}{nt:Nat}{df:List Nat}{t:TypeId}{x:Operand}(h:WS (Zb tm x)=true):Qp5 C ⟨tm,m',nt,df⟩ t x=Qp5 C ⟨tm,m,nt,df⟩ t x:=by
 unfold Qp5;dsimp only;cases hx:Zb tm x with
 |none=>rfl
 |some v=>
  rw[hx]at h;have key:∀t,GH m'.tk t v=GH m.tk t v:=λt=>Qcq h;have fin:∀(w:TTV U),w=v->(match Qnx C t with
   |some (_,tc)=>match GH m'.tk tc w with|some l=>some (RdR.val (U:=U) (Je3 .i64 l.length))|none=>none
   |none=>none)=(match Qnx C t with
   |some (_,tc)=>match GH m.tk tc w with|some l=>some (RdR.val (Je3 .i64 l.length))|none=>none
   |none=>none):=λw e=>by
   subst e;cases Qnx C t with|none=>rfl|some q=>obtain⟨e,tc⟩:=q;dsimp only;rw[key]
  cases v with|v a=>(cases a with|one b=>(cases b with|c z=>(cases z <;> first|rfl|exact fin _ rfl)|_=>exact fin _ rfl)|agg xs=>exact fin _ rfl)|tup xs=>exact fin _ rfl|unk=>exact fin _ rfl
theorem Qzx{tm:List (Nat×TTV U)}{m m':TMe U}{nt:Nat}{df:List Nat}{p:List (Ev U)}(he:m'.es=p++m.es){o:Oper}(h:J7e tm p o=true):Qvu D C ⟨tm,m',nt,df⟩ o=Qvu D C ⟨tm,m,nt,df⟩ o:=by
 obtain⟨dd,op,ty,pos,af,g⟩:=o;cases op with
 |load t x=>
  show Q1t D C ⟨tm,m',nt,df⟩ t x=Q1t D C ⟨tm,m,nt,df⟩ t x;have h':(match Zb tm x with
   |some (.v (.one (.ptr i _)))=>p.all (Q34 i)
   |_=>true)=true:=h
  unfold Q1t;dsimp only;cases hx:Zb tm x with|none=>rfl|some v=>rw[hx]at h';cases v with|v a=>(cases a with|one b=>(cases b with|ptr i off=>(have key:∀n,UW D m'.es i off n=UW D m.es i off n:=λn=>by rw[he];exact Qe4 h');dsimp only;simp only[key]|_=>rfl)|agg xs=>rfl)|tup xs=>rfl|unk=>rfl
 |indexAddr t x y=>show Q22 C ⟨tm,m',nt,df⟩ t x y=Q22 C ⟨tm,m,nt,df⟩ t x y;have h':WS (Zb tm x)=true:=h;unfold Q22;dsimp only;cases hx:Zb tm x with|none=>cases Qnx C t <;> cases Qha (Zb tm y) <;> rfl|some v=>rw[hx]at h';have key:∀t,GH m'.tk t v=GH m.tk t v:=λt=>Qcq h';cases Qnx C t with|none=>rfl|some q=>obtain⟨e,tc⟩:=q;cases Qha (Zb tm y)with|none=>rfl|some k=>dsimp only;rw[key]
 |slice t x lo hi mx=>
  show Q16 C ⟨tm,m',nt,df⟩ t x lo hi mx=Q16 C ⟨tm,m,nt,df⟩ t x lo hi mx;have h':(match Zb tm x with
   |some (.v (.one (.c (.str _))))=>true
   |_=>false)=true:=h
  unfold Q16;dsimp only;split at h';rename_i s hx;rw[hx];cases mx <;> rfl;cases h'
 |convert s t x=>show Qa7 C ⟨tm,m',nt,df⟩ s t x=Qa7 C ⟨tm,m,nt,df⟩ s t x;have h':WS (Zb tm x)=true:=h;(have e:Q2b C ⟨tm,m',nt,df⟩ s t x=Q2b C ⟨tm,m,nt,df⟩ s t x:=by unfold Q2b;dsimp only;cases hx:Zb tm x with|none=>cases C.bt <;> cases lk C.T.byt s <;> cases lk C.T.strs t <;> rfl|some v=>rw[hx]at h';have key:∀t,GH m'.tk t v=GH m.tk t v:=λt=>Qcq h';cases C.bt with|none=>rfl|some B=>cases lk C.T.byt s with|none=>rfl|some u1=>cases lk C.T.strs t with|none=>rfl|some u2=>dsimp only;rw[key]);unfold Qa7;rw[e]
 |call c=>obtain⟨callee,⟨xs⟩,⟨ts⟩⟩:=c;cases callee with|builtin b=>have h':(xs.all λx=>WS (Zb tm x))=true:=h;show XD C ⟨tm,m',nt,df⟩ b xs ts=XD C ⟨tm,m,nt,df⟩ b xs ts;unfold XD;split;exact J2r (C2.1 h').1;rfl;rfl;rfl|_=>rfl
 |_=>rfl
def Qjq(q:List (Nat×TTok U)):TA U->Bool|.app j _=>q.all λp=>!(Nat.beq p.1 j)|_=>true
variable(D)in
def Qjp(q:List (Nat×TTok U)):TAV U->Bool|.one x=>Qjq q x|.agg xs=>(Yz D xs).all (Qjq q)
variable(D)in
def Q7d(q:List (Nat×TTok U)):TTV U->Bool|.v x=>Qjp D q x|.tup xs=>xs.all (Qjp D q)|.unk=>true
theorem Qtb{α:Type}{j:Nat}:∀{q:List (Nat×α)},(q.all λp=>!(Nat.beq p.1 j))=true->lk q j=none|[],h=>rfl|p::q,h=>by obtain⟨h1,h2⟩:=C2.1 h;(have hj:Nat.beq p.1 j=false:=by simpa using h1);show cond (Nat.beq p.1 j) _ _=_;rw[hj];exact Qtb h2
theorem Qaf{q tk:List (Nat×TTok U)}{x:TA U}(h:Qjq q x=true):x.er (q++tk)=x.er tk:=by
 cases x with
 |app j u=>
  have h':(q.all λp=>!(Nat.beq p.1 j))=true:=h;show(match cur (q++tk) j u with
   |some T=>CA.app j (U.E T.t).sz ((U.E T.t).encL T.l)
   |none=>CA.any)=_
  have:cur (q++tk) j u=cur tk j u:=by unfold cur;rw[JN,Qtb h']
  rw[this];rfl
 |c x=>rfl
 |ptr i off=>rfl
 |pel t x off=>rfl
 |fn f caps=>rfl
 |raw x=>rfl
theorem Qae{q tk:List (Nat×TTok U)}{x:TAV U}(h:Qjp D q x=true):x.er D (q++tk)=x.er D tk:=by cases x with|one x=>exact congrArg AV.one (Qaf h)|agg xs=>show AV.agg ((Yz D xs).map (TA.er (q++tk)))=AV.agg ((Yz D xs).map (TA.er tk));congr 1;exact Cy λx hx=>Qaf (Ch.1 h x hx)
theorem UK{q tk:List (Nat×TTok U)}{x:TTV U}(h:Q7d D q x=true):x.er D (q++tk)=x.er D tk:=by cases x with|v x=>exact congrArg TV.v (Qae h)|tup xs=>show TV.tup (xs.map (TAV.er D (q++tk)))=TV.tup (xs.map (TAV.er D tk));congr 1;exact Cy λx hx=>Qae (Ch.1 h x hx)|unk=>rfl
variable(D)in
def Qlh(tm:List (Nat×TTV U))(m:TMe U)(o:Oper)(x:TTV U)(up:Bool)(m':TMe U):Bool:=cond up (J7e tm (Q83 m.es m'.es) o&&(Q7d D (Q83 m.tk m'.tk) x&&tm.all λp=>Q7d D (Q83 m.tk m'.tk) p.2)) (J7e tm (Q83 m'.es m.es) o&&(Q7d D (Q83 m'.tk m.tk) x&&tm.all λp=>Q7d D (Q83 m'.tk m.tk) p.2))
end
end
section
open Go.RowKit
section
variable(U:Univ)
inductive AK where
 |int (k:IntKind)
 |bool
 |str
 |sl (t:U.T)
 |app (i:Nat) (e:TypeId) (t:U.T)
 |stc (t:U.T)
 |ptr (i off:Nat)
 |any
inductive Loc where
 |reg (r:Nat)
 |cell (i off:Nat)
structure Lab where
 sl:List (List Loc×AK U)
 dead:List Nat
end
section
variable{U:Univ}(D:Codec U)
def AK.Ty:AK U->Type|.int _=>Int|.bool=>Bool|.str=>Bs|.sl t=>List (U.R t)|.app _ _ t=>List (U.R t)|.stc t=>U.R t|.ptr _ _=>Unit|.any=>Unit
def AK.sz:AK U->Nat|.stc t=>(U.E t).sz|_=>1
def tup:List (AK U)->Type|[]=>Unit|[k]=>k.Ty|k::k2::r=>k.Ty×tup (k2::r)
def Q70(k:IntKind):TAV U->Option Int|.one (.c (.v (.int k' a)))=>cond (decide (k'=k)) (some a) none|_=>none
def Q0n:TAV U->Option Bool|.one (.c (.v (.bool b)))=>some b|_=>none
def Q6z:TAV U->Option Bs|.one (.c (.str s))=>some s|_=>none
def Uf(tk:List (Nat×TTok U))(i:Nat)(e:TypeId)(t:U.T):TAV U->Option (List (U.R t))|.one (.app j ver)=>(match cur tk j ver with|some T=>cond (Nat.beq j i&&Nat.beq T.E e) (X1 T.t t T.l) none|none=>none)|_=>none
def Qjf(i off:Nat):TAV U->Option Unit|.one (.ptr j o)=>cond (Nat.beq j i&&Nat.beq o off) (some ()) none|_=>none
def Quo:TAV U->Option Unit|.one _=>some ()|.agg _=>none
def Qjh(tk:List (Nat×TTok U)):(k:AK U)->TAV U->Option k.Ty|.int k,x=>Q70 k x|.bool,x=>Q0n x|.str,x=>Q6z x|.sl t,x=>GH tk t (.v x)|.app i e t,x=>Uf tk i e t x|.stc t,x=>Q7a D tk t x.items|.ptr i off,x=>Qjf i off x|.any,x=>Quo x
def Xz:(k:AK U)->k.Ty->Nat->TAV U|.int k,a,_=>.one (.c (.v (.int k a)))|.bool,b,_=>.one (.c (.v (.bool b)))|.str,s,_=>.one (.c (.str s))|.sl t,l,_=>.one (.c (.sl t l))|.app i _ _,_,ver=>.one (.app i ver)|.stc t,x,_=>.agg [.grp t x]|.ptr i off,_,_=>.one (.ptr i off)|.any,_,_=>.one (.raw .any)
def Qvv:(k:AK U)->k.Ty->Nat->List (Nat×TTok U)|.app i e t,l,ver=>[(i,⟨e,t,l,ver⟩)]|_,_,_=>[]
def Jf(tk:List (Nat×TTok U))(i:Nat):Nat:=match lk tk i with|some T=>T.ver+1|none=>0
def UT(tk:List (Nat×TTok U)):AK U->Nat|.app i _ _=>Jf tk i|_=>0
abbrev SV(U:Univ):=(k:AK U)×k.Ty
def vals:(sl:List (List Loc×AK U))->tup (sl.map (·.2))->List (List Loc×SV U)|[],_=>[]|[(ls,k)],v=>[(ls,⟨k,v⟩)]|(ls,k)::s2::r,v=>(ls,⟨k,v.1⟩)::vals (s2::r) v.2
def Dj(x:TTV U):List Loc->List (Nat×TTV U)|[]=>[]|.reg r::ls=>(r,x)::Dj x ls|.cell _ _::ls=>Dj x ls
def Q18(xs:List (It U)):List Loc->List (Nat×Nat×List (It U))|[]=>[]|.reg _::ls=>Q18 xs ls|.cell i off::ls=>(i,off,xs)::Q18 xs ls
def Qmb(tk:List (Nat×TTok U))(vs:List (List Loc×SV U)):List (Nat×TTV U):=vs.flatMap λp=>Dj (.v (Xz p.2.1 p.2.2 (UT tk p.2.1))) p.1
def Wk(tk:List (Nat×TTok U))(vs:List (List Loc×SV U)):List (Nat×Nat×List (It U)):=vs.flatMap λp=>Q18 (Xz p.2.1 p.2.2 (UT tk p.2.1)).items p.1
def Qfa(tk:List (Nat×TTok U))(vs:List (List Loc×SV U)):List (Nat×TTok U):=vs.flatMap λp=>Qvv p.2.1 p.2.2 (UT tk p.2.1)
def UY(p:Nat×Nat×List (It U)):Ev U:=.set p.1 p.2.1 p.2.2
def lab(h:Lab U)(st:TSt U)(t:tup (h.sl.map (·.2))):TSt U:=⟨Qmb st.m.tk (vals h.sl t)++(h.dead.map λr=>(r,.unk))++st.tm,⟨(Wk st.m.tk (vals h.sl t)).map UY++st.m.es,Qfa st.m.tk (vals h.sl t)++st.m.tk,st.m.nx⟩,st.nt,st.df⟩
def Qix:TAV U->Bool|.one _=>false|.agg _=>true
def Wy(s:TSt U):Loc->Nat->Option (TAV U)|.reg r,_=>(match lk s.tm r with|some (.v x)=>some x|_=>none)|.cell i off,n=>match UW D s.m.es i off n with|some [.one x]=>some (.one x)|some xs=>some (.agg xs)|none=>none
def Qb2(s:TSt U)(i:Nat)(l:Loc):Bool:=match Wy D s l 1 with|some (.one (.app j ver))=>Nat.beq j i&&(cur s.m.tk j ver).isSome|_=>false
def Qrc(s:TSt U)(x:TAV U)(r:List Loc):AK U->Bool|.app i _ _=>r.all (Qb2 D s i)|.stc _=>Qix x&&r.isEmpty|_=>r.isEmpty
def J6h(s:TSt U)(ls:List Loc)(k:AK U):Option k.Ty:=match ls with|[]=>none|l::r=>match Wy D s l k.sz with|some x=>cond (Qrc D s x r k) (Qjh D s.m.tk k x) none|none=>none
def J7c(s:TSt U):(sl:List (List Loc×AK U))->Option (tup (sl.map (·.2)))|[]=>some ()|[(ls,k)]=>J6h D s ls k|(ls,k)::s2::r=>match J6h D s ls k,J7c s (s2::r)with|some a,some b=>some (a,b)|_,_=>none
def Q5i:List Loc->List Nat|[]=>[]|.reg r::ls=>r::Q5i ls|.cell _ _::ls=>Q5i ls
def Q2a(n:Nat):List Loc->List (Nat×Nat×Nat)|[]=>[]|.reg _::ls=>Q2a n ls|.cell i off::ls=>(i,off,n)::Q2a n ls
def Q17(sl:List (List Loc×AK U)):List Nat:=sl.flatMap λp=>Q5i p.1
def YU(sl:List (List Loc×AK U)):List (Nat×Nat×Nat):=sl.flatMap λp=>Q2a p.2.sz p.1
def Q7e:AK U->List Nat|.app i _ _=>[i]|_=>[]
def Qe8:AK U->List Nat|.ptr i _=>[i]|_=>[]
def Q5b(sl:List (List Loc×AK U)):List Nat:=sl.flatMap λp=>Qe8 p.2
def YC(sl:List (List Loc×AK U)):List Nat:=sl.flatMap λp=>Q7e p.2
def Qbh(cs:List (Nat×Nat×Nat))(i k:Nat):Bool:=cs.any λp=>Nat.beq p.1 i&&(Nat.ble p.2.1 k&&Nat.blt k (p.2.1+p.2.2))
def Qz2(nx:Nat)(cs:List (Nat×Nat×Nat)):Ev U->Bool|.box i _ _=>Nat.ble nx i|.raw i _=>Nat.ble nx i|.lp i _ _ _ _ _ _ _ _=>Nat.ble nx i|.ls i _=>Nat.ble nx i|.set i off xs=>Nat.ble nx i||(List.range (Jd xs)).all λj=>Qbh cs i (off+j)
def Q88:List Nat->List Nat->Bool|[],[]=>true|a::x,b::y=>Nat.beq a b&&Q88 x y|_,_=>false
theorem Xf:∀{x y:List Nat},Q88 x y=true->x=y|[],[],_=>rfl|[],b::y,h=>by cases h|a::x,[],h=>by cases h|a::x,b::y,h=>by obtain⟨h1,h2⟩:=C2.1 (show(Nat.beq a b&&Q88 x y)=true from h);rw[Cc h1,Xf h2]
def Qrs(h:Lab U)(st s:TSt U):Bool:=Q88 st.df s.df&&((Q83 st.tm s.tm).all (λp=>(Q17 h.sl).contains p.1||h.dead.contains p.1)&&((Q83 st.m.es s.m.es).all (Qz2 st.m.nx (YU h.sl))&&(Q83 st.m.tk s.m.tk).all λp=>Nat.ble st.m.nx p.1||(YC h.sl).contains p.1))
def Xn(h:Lab U)(st s:TSt U):Option (tup (h.sl.map (·.2))):=cond (Qrs h st s) (J7c D s h.sl) none
def TA.belowB(m:Nat):TA U->Bool|.c _=>true|.ptr i _=>Nat.blt i m|.pel _ _ _=>true|.fn _ caps=>caps.all λp=>Nat.blt p.1 m|.app i _=>Nat.blt i m|.raw x=>match x with|.yld L=>Nat.blt L m|.any=>true|_=>false
def It.belowB(m:Nat):It U->Bool|.one x=>x.belowB m|.grp _ _=>true
def TAV.belowB(m:Nat):TAV U->Bool|.one x=>x.belowB m|.agg xs=>xs.all (It.belowB m)
def TTV.belowB(m:Nat):TTV U->Bool|.v x=>x.belowB m|.tup xs=>xs.all (TAV.belowB m)|.unk=>true
def Ev.belowB(m:Nat):Ev U->Bool|.box i _ xs=>Nat.blt i m&&xs.all (It.belowB m)|.set i _ xs=>xs.all (It.belowB m)|.raw i B=>(match B with|.obj _=>Nat.blt i m|_=>false)|.lp i _ _ tm _ _ _ _ d=>Nat.blt i m&&(Nat.blt d m&&tm.all λp=>p.2.belowB m)|.ls _ xs=>xs.all λp=>p.2.belowB m
def disj:List (Nat×Nat×Nat)->Bool|[]=>true|p::r=>r.all (λq=>!(Nat.beq p.1 q.1)||(Nat.ble (p.2.1+p.2.2) q.2.1||Nat.ble (q.2.1+q.2.2) p.2.1))&&disj r
def J7f:List Nat->Bool|[]=>true|a::r=>!(r.contains a)&&J7f r
def Quq(es:List (Ev U))(p:Nat×Nat×Nat):Bool:=match ZJ es p.1 with|some (_,N)=>Nat.ble (p.2.1+p.2.2) N|none=>false
def J0q(st:TSt U)(i:Nat):Bool:=Nat.blt i st.m.nx&&Qeq i (Jf st.m.tk i) st.tm st.m.es
def Qql(h:Lab U)(st:TSt U):Bool:=st.tm.all (λp=>p.2.belowB st.m.nx)&&(st.m.es.all (Ev.belowB st.m.nx)&&(st.m.tk.all (λp=>Nat.blt p.1 st.m.nx)&&(st.df.tail.all (λi=>Nat.blt i st.m.nx)&&((YU h.sl).all (Quq st.m.es)&&(disj (YU h.sl)&&(J7f (YC h.sl)&&((YC h.sl).all (J0q st)&&(Q5b h.sl).all (λi=>Nat.blt i st.m.nx))))))))
variable{D}
theorem UZ{α:Type}:∀(a b:List (Nat×α))(i:Nat),lk (a++b) i=match lk a i with
    |some x=>some x
    |none=>lk b i
  |[],b,i=>rfl
  |(k,x)::a,b,i=>by
    rw[PN,Q8,Q8,UZ a b i]
    by_cases h:k=i
    · rw[Cf h,Cf h]
    · rw[Ca h,Ca h]
theorem Qbz{α:Type}{l:List (Nat×α)}{i:Nat}(h:∀p∈l,p.1≠i):lk l i=none:=by cases e:lk l i with|none=>rfl|some x=>exact(h _ (Ym e) rfl).elim
theorem J0f{α:Type}:∀{l:List (Nat×α)}{i:Nat}{x:α},J7f (l.map (·.1))=true->(i,x)∈l->lk l i=some x
 |(k,y)::l,i,x,h,hm=>by
  obtain⟨h1,h2⟩:=C2.1 (show(!((l.map (·.1)).contains k)&&J7f (l.map (·.1)))=true from h);rw[Q8];rcases Cs.1 hm with e|hm
  · cases e;rw[Cf rfl]
  · have hne:k≠i:=λe=>by
      subst e
      have:(l.map (·.1)).contains k=true:=Sa.2 (Cx.2 ⟨_,hm,rfl⟩)
      rw[this]at h1;cases h1
    rw[Ca hne];exact J0f h2 hm
theorem Zv{α:Type}(p a:List α):Q83 a (p++a)=p:=by unfold Q83;rw[C8,show p.length+a.length-a.length=p.length by omega,List.take_left]
theorem Q48:∀{sl:List (List Loc×AK U)}{s:TSt U}{t:tup (sl.map (·.2))},J7c D s sl=some t->∀p∈vals sl t,J6h D s p.1 p.2.1=some p.2.2
 |[],s,t,h,p,hp=>by cases hp
 |[(ls,k)],s,t,h,p,hp=>by rw[CI.1 hp];exact h
 |(ls,k)::s2::r,s,t,h,p,hp=>by
  unfold J7c at h;split at h
  · rename_i a b ha hb
    cases h
    rcases Cs.1 hp with e|hp
    · rw[e];exact ha
    · exact Q48 hb p hp
  · cases h
theorem Ur:∀{sl:List (List Loc×AK U)}{t:tup (sl.map (·.2))},(vals sl t).map (λp=>(p.1,p.2.1))=sl|[],t=>rfl|[(ls,k)],t=>rfl|(ls,k)::s2::r,t=>by show(ls,k)::(vals (s2::r) t.2).map _=_;rw[Ur]
theorem Qa1(hD:D.OK)(k:AK U)(v:k.Ty)(ver:Nat):Jd (Xz k v ver).items=k.sz:=by cases k with|stc t=>show(U.E t).sz+0=_;rfl|_=>rfl
theorem XZ{x:TTV U}:∀{ls:List Loc}{q:Nat×TTV U},q∈Dj x ls->q.2=x/\Loc.reg q.1∈ls/\q.1∈Q5i ls|.reg r::ls,q,h=>(by rcases Cs.1 h with e|h;rw[e];exact⟨rfl,Cj ..,Cj ..⟩;obtain⟨h1,h2,h3⟩:=XZ h;exact⟨h1,Ck _ h2,Ck _ h3⟩)|.cell i off::ls,q,h=>by obtain⟨h1,h2,h3⟩:=XZ (show q∈Dj x ls from h);exact⟨h1,Ck _ h2,h3⟩
theorem XW{xs:List (It U)}:∀{ls:List Loc}{q:Nat×Nat×List (It U)},q∈Q18 xs ls->q.2.2=xs/\Loc.cell q.1 q.2.1∈ls|.reg r::ls,q,h=>(by obtain⟨h1,h2⟩:=XW (show q∈Q18 xs ls from h);exact⟨h1,Ck _ h2⟩)|.cell i off::ls,q,h=>by rcases Cs.1 h with e|h;rw[e];exact⟨rfl,Cj ..⟩;obtain⟨h1,h2⟩:=XW h;exact⟨h1,Ck _ h2⟩
theorem Dg(hD:D.OK)(xs:List (It U))(n:Nat)(hn:Jd xs=n):∀ls:List Loc,(Q18 xs ls).map (λq=>(q.1,q.2.1,Jd q.2.2))=Q2a n ls|[]=>rfl|.reg r::ls=>Dg hD xs n hn ls|.cell i off::ls=>by show(i,off,Jd xs)::_=(i,off,n)::_;rw[Dg hD xs n hn ls,hn]
theorem Xc(hD:D.OK)(tk:List (Nat×TTok U)){sl:List (List Loc×AK U)}{t:tup (sl.map (·.2))}:(Wk tk (vals sl t)).map (λq=>(q.1,q.2.1,Jd q.2.2))=YU sl:=by
 have e:YU sl=(vals sl t).flatMap λp=>Q2a p.2.1.sz p.1:=by have:=congrArg (λl:List (List Loc×AK U)=>l.flatMap λp=>Q2a p.2.sz p.1) (Ur (sl:=sl) (t:=t));rw[<-show _=YU sl from this,Sg]
 rw[e];unfold Wk;rw[List.map_flatMap];congr 1;funext p;exact Dg hD _ _ (Qa1 hD p.2.1 p.2.2 _) p.1
theorem Dt(tk:List (Nat×TTok U)){sl:List (List Loc×AK U)}{t:tup (sl.map (·.2))}:(Qfa tk (vals sl t)).map (·.1)=YC sl:=by
 have e:YC sl=(vals sl t).flatMap λp=>Q7e p.2.1:=by have:=congrArg (λl:List (List Loc×AK U)=>l.flatMap λp=>Q7e p.2) (Ur (sl:=sl) (t:=t));rw[<-show _=YC sl from this,Sg]
 rw[e];unfold Qfa;rw[List.map_flatMap];congr 1;funext p;obtain⟨ls,k,v⟩:=p;cases k <;> rfl
theorem Qfv{xs:List CA}{cs:List C}(h:CSubs xs cs):LW xs (cs.map .d):=by refine⟨by rw[Co];exact h.len,λk x y hx hy=>?_⟩;rw[Cn]at hy;cases hc:cs[k]? with|none=>rw[hc]at hy;cases hy|some c=>rw[hc]at hy;cases hy;obtain⟨x',hx',hs⟩:=h.get k c hc;rw[hx]at hx';cases hx';exact λV w v hv=>(show Reads V.S w c v from hs.reads hv)
theorem SlE.sub{α:Type}[Enc α]{y:CA}{l:List α}(h:SlE y l):CW y (.d (.sl (Enc.sz α) (Enc.encL l))):=λV w v hv=>(show Reads V.S w _ v from h.sl.reads hv)
theorem Qao{x y:CA}(h:CW x y):LW [x] [y]:=by refine⟨Z,λk a b ha hb=>?_⟩;cases k with|zero=>cases ha;cases hb;exact h|succ k=>simp at ha
theorem J3p(hD:D.OK){tk tk':List (Nat×TTok U)}{t:U.T}{xs:List (It U)}{v:U.R t}(h:Q7a D tk t xs=some v):LW (Jy D tk xs) (Jy D tk' [.grp t v]):=by
 have e:Jy D tk' [It.grp t v]=((U.E t).enc v).map .d:=by unfold Jy;rw[Gy,Q9z hD]
 rw[e];exact Qfv (Q4s hD h)
theorem J3l{tk tk':List (Nat×TTok U)}{k:IntKind}{x:TAV U}{v:Int}(h:Q70 k x=some v):LW (Jy D tk x.items) (Jy D tk' [.one (.c (.v (.int k v)))]):=by
 unfold Q70 at h;split at h;rename_i k0 a;cases hk:decide (k0=k)with|false=>rw[hk]at h;cases h|true=>rw[hk]at h;cases h;have e:=CF hk;subst e;exact LW.refl _
 cases h
theorem Qzd{tk tk':List (Nat×TTok U)}{x:TAV U}{v:Bool}(h:Q0n x=some v):LW (Jy D tk x.items) (Jy D tk' [.one (.c (.v (.bool v)))]):=by unfold Q0n at h;split at h;cases h;exact LW.refl _;cases h
theorem J0z{tk tk':List (Nat×TTok U)}{x:TAV U}{v:Bs}(h:Q6z x=some v):LW (Jy D tk x.items) (Jy D tk' [.one (.c (.str v))]):=by unfold Q6z at h;split at h;cases h;exact LW.refl _;cases h
theorem J1c{tk tk':List (Nat×TTok U)}{i off:Nat}{x:TAV U}{v:Unit}(h:Qjf i off x=some v):LW (Jy D tk x.items) (Jy D tk' [.one (.ptr i off)]):=by
 unfold Qjf at h;split at h;rename_i j o;cases hb:(Nat.beq j i&&Nat.beq o off)with|false=>rw[hb]at h;cases h|true=>obtain⟨b1,b2⟩:=C2.1 hb;have e1:=Cc b1;have e2:=Cc b2;subst e1;subst e2;exact LW.refl _
 cases h
theorem J5s{tk tk':List (Nat×TTok U)}{x:TAV U}{v:Unit}(h:Quo x=some v):LW (Jy D tk x.items) (Jy D tk' [.one (.raw .any)]):=by cases x with|one x=>exact Qao λV w v hv=>CA.rel.one hv|agg xs=>cases h
theorem J73{tk tk':List (Nat×TTok U)}{t:U.T}{x:TAV U}{l:List (U.R t)}(h:GH tk t (.v x)=some l):LW (Jy D tk x.items) (Jy D tk' [.one (.c (.sl t l))]):=by obtain⟨y,hy,hs⟩:=Wq (D:=D) h;cases x with|one z=>(have e:z.er tk=y:=by have:TV.v (.one (z.er tk))=.v (.one y):=hy;cases this;rfl);show LW [z.er tk] [_];rw[e];exact Qao hs.sub|agg xs=>have:TV.v (.agg (Jy D tk xs))=.v (.one y):=hy;cases this
theorem J5r{tk tk':List (Nat×TTok U)}{i ver:Nat}{e:TypeId}{t:U.T}{x:TAV U}{l:List (U.R t)}(h:Uf tk i e t x=some l)(hc:cur tk' i ver=some ⟨e,t,l,ver⟩):LW (Jy D tk x.items) (Jy D tk' [.one (.app i ver)]):=by
 unfold Uf at h;split at h;rename_i j u;split at h;rename_i T hT;cases hb:(Nat.beq j i&&Nat.beq T.E e)with
 |false=>rw[hb]at h;cases h
 |true=>
  rw[hb,C5]at h;obtain⟨b1,b2⟩:=C2.1 hb;have e1:=Cc b1;obtain⟨et,e2⟩:=Zr h;subst et;subst e1;have e3:(TA.app j u:TA U).er tk=(TA.app j ver:TA U).er tk':=by
   show(match cur tk j u with
    |some T=>CA.app j (U.E T.t).sz ((U.E T.t).encL T.l)
    |none=>CA.any)=(match cur tk' j ver with
    |some T=>CA.app j (U.E T.t).sz ((U.E T.t).encL T.l)
    |none=>CA.any)
   rw[hT,hc,e2]
  show LW [(TA.app j u:TA U).er tk] [(TA.app j ver:TA U).er tk'];rw[e3];exact LW.refl _
 cases h;cases h
theorem Quj(hD:D.OK){tk tk':List (Nat×TTok U)}{k:AK U}{x:TAV U}{v:k.Ty}{ver:Nat}(h:Qjh D tk k x=some v)(ht:∀p∈Qvv k v ver,cur tk' p.1 ver=some p.2):LW (Jy D tk x.items) (Jy D tk' (Xz k v ver).items):=by cases k with|int k=>exact J3l h|bool=>exact Qzd h|str=>exact J0z h|sl t=>exact J73 h|app i e t=>exact J5r h (ht _ (CI.2 rfl))|stc t=>exact J3p hD h|ptr i off=>exact J1c h|any=>exact J5s h
theorem Qn3(hD:D.OK){tk tk':List (Nat×TTok U)}{k:AK U}{x:TAV U}{v:k.Ty}{ver:Nat}(h:Qjh D tk k x=some v)(ht:∀p∈Qvv k v ver,cur tk' p.1 ver=some p.2)(hs:(∃t y,k=.stc t/\x=.one y)->False){V:Vu}{w:World}{u:Value}(hr:(x.er D tk).rel V w u):((Xz k v ver).er D tk').rel V w u:=by have hl:=Quj (tk':=tk') hD h ht;cases x with|one y=>(have key:∀z:TA U,LW (Jy D tk [.one y]) (Jy D tk' [.one z])->((TAV.one z).er D tk').rel V w u:=λz hz=>hz.2 0 _ _ rfl rfl V w u hr;cases k with|stc t=>exact(hs ⟨t,y,rfl,rfl⟩).elim|int k=>exact key _ hl|bool=>exact key _ hl|str=>exact key _ hl|sl t=>exact key _ hl|app i e t=>exact key _ hl|ptr i off=>exact key _ hl|any=>exact key _ hl)|agg xs=>cases k with|stc t=>(obtain⟨vs,h1,h2⟩:=hr;exact⟨vs,h1,hl.rels h2⟩)|int k=>cases h|bool=>cases h|str=>cases h|sl t=>cases h|app i e t=>cases h|ptr i off=>cases h|any=>cases h
end
end
section
open Go.RowKit
section
variable{U:Univ}{D:Codec U}
theorem Qcl{tk:List (Nat×TTok U)}{j u:Nat}{e:TypeId}{t:U.T}{x:TAV U}{l:List (U.R t)}(h:Uf tk j e t x=some l)(b2:(cur tk j u).isSome=true):Uf tk j e t (.one (.app j u))=some l:=by
 unfold Uf at h;split at h;rename_i j' u';split at h;rename_i T hT;cases hb:(Nat.beq j' j&&Nat.beq T.E e)with
 |false=>rw[hb]at h;cases h
 |true=>
  have e2:=Cc (C2.1 hb).1;subst e2;have hc:cur tk j' u=some T:=by unfold cur at hT b2⊢;cases hlk:lk tk j' with|none=>rw[hlk]at hT;cases hT|some T1=>rw[hlk]at hT b2;dsimp only at hT b2⊢;cases q1:Nat.beq T1.ver u' with|false=>rw[q1]at hT;cases hT|true=>rw[q1]at hT;cases hT;cases q2:Nat.beq T.ver u with|false=>rw[q2]at b2;cases b2|true=>rfl
  show(match cur tk j' u with
   |some T=>cond (Nat.beq j' j'&&Nat.beq T.E e) (X1 T.t t T.l) none
   |none=>none)=some l
  rw[hc];exact h
 cases h;cases h
theorem Qb8{s:TSt U}{ls:List Loc}{k:AK U}{v:k.Ty}(h:J6h D s ls k=some v):∀l∈ls,∃x,Wy D s l k.sz=some x/\Qjh D s.m.tk k x=some v/\((∃t y,k=.stc t/\x=.one y)->False):=by
 unfold J6h at h;split at h;cases h;rename_i l0 r;split at h;rename_i x hx;cases hr:Qrc D s x r k with|false=>rw[hr]at h;cases h|true=>rw[hr,C5]at h;(have hst:(∃t y,k=.stc t/\x=.one y)->False:=by rintro⟨t,y,rfl,rfl⟩;cases hr);intro l hl;rcases Cs.1 hl with rfl|hl;exact⟨x,hx,h,hst⟩;cases k with|app i e t=>(have h1:=Ch.1 (show r.all (Qb2 D s i)=true from hr) l hl;unfold Qb2 at h1;split at h1;rename_i j u hj;obtain⟨b1,b2⟩:=C2.1 h1;have e1:=Cc b1;subst e1;refine⟨_,hj,?_,λ⟨_,_,e,_⟩=>by cases e⟩;exact Qcl h b2;cases h1)|int k=>rw[Pr.1 (show r.isEmpty=true from hr)]at hl;cases hl|bool=>rw[Pr.1 (show r.isEmpty=true from hr)]at hl;cases hl|str=>rw[Pr.1 (show r.isEmpty=true from hr)]at hl;cases hl|sl t=>rw[Pr.1 (show r.isEmpty=true from hr)]at hl;cases hl|ptr i off=>rw[Pr.1 (show r.isEmpty=true from hr)]at hl;cases hl|any=>rw[Pr.1 (show r.isEmpty=true from hr)]at hl;cases hl|stc t=>rw[Pr.1 (C2.1 (show(Qix x&&r.isEmpty)=true from hr)).2]at hl;cases hl
 cases h
theorem J17{s:TSt U}{ls:List Loc}{k:AK U}{v:k.Ty}(h:J6h D s ls k=some v):∃l r,ls=l::r:=by cases ls with|nil=>cases h|cons l r=>exact⟨l,r,rfl⟩
structure AtLab(D:Codec U)(h:Lab U)(st s:TSt U)(t:tup (h.sl.map (·.2))):Prop where
 sfx:Sfx st s
 wf:Qql h st=true
 pk:Xn D h st s=some t
theorem AtLab.parts{h:Lab U}{st s:TSt U}{t:tup (h.sl.map (·.2))}(a:AtLab D h st s t):(∃p,s.tm=p++st.tm/\∀q∈p,q.1∈Q17 h.sl\/q.1∈h.dead)/\(∃p,s.m.es=p++st.m.es/\∀q∈p,Qz2 st.m.nx (YU h.sl) q=true)/\(∃p,s.m.tk=p++st.m.tk/\∀q∈p,st.m.nx<=q.1\/q.1∈YC h.sl)/\J7c D s h.sl=some t/\st.df=s.df:=by obtain⟨⟨p1,e1⟩,⟨p2,e2⟩,⟨p3,e3⟩,_,_,_⟩:=a.sfx;have hp:=a.pk;unfold Xn at hp;cases hc:Qrs h st s with|false=>rw[hc]at hp;cases hp|true=>rw[hc,C5]at hp;unfold Qrs at hc;rw[e1,e2,e3,Zv,Zv,Zv]at hc;obtain⟨c0,hc⟩:=C2.1 hc;obtain⟨c1,c23⟩:=C2.1 hc;obtain⟨c2,c3⟩:=C2.1 c23;refine⟨⟨p1,e1,λq hq=>?_⟩,⟨p2,e2,λq hq=>Ch.1 c2 q hq⟩,⟨p3,e3,λq hq=>?_⟩,hp,Xf c0⟩;rcases CN.1 (Ch.1 c1 q hq)with h|h;exact .inl (Sa.1 h);exact .inr (Sa.1 h);rcases CN.1 (Ch.1 c3 q hq)with h|h;exact .inl (C9 h);exact .inr (Sa.1 h)
structure WfL(h:Lab U)(st:TSt U):Prop where
 tm:∀p∈st.tm,p.2.belowB st.m.nx=true
 es:∀e∈st.m.es,e.belowB st.m.nx=true
 tk:∀p∈st.m.tk,p.1<st.m.nx
 df:∀i∈st.df.tail,i<st.m.nx
 cells:∀p∈YU h.sl,Quq st.m.es p=true
 disj:disj (YU h.sl)=true
 nd:J7f (YC h.sl)=true
 app:∀i∈YC h.sl,J0q st i=true
 pt:∀i∈Q5b h.sl,i<st.m.nx
theorem Q4y{h:Lab U}{st:TSt U}(hw:Qql h st=true):WfL h st:=by unfold Qql at hw;obtain⟨a1,hw⟩:=C2.1 hw;obtain⟨a2,hw⟩:=C2.1 hw;obtain⟨a3,hw⟩:=C2.1 hw;obtain⟨a4,hw⟩:=C2.1 hw;obtain⟨a5,hw⟩:=C2.1 hw;obtain⟨a6,hw⟩:=C2.1 hw;obtain⟨a7,hw⟩:=C2.1 hw;obtain⟨a8,a9⟩:=C2.1 hw;exact⟨Ch.1 a1,Ch.1 a2,λp hp=>C9 (Ch.1 a3 p hp),λi hi=>C9 (Ch.1 a4 i hi),Ch.1 a5,a6,a7,Ch.1 a8,λi hi=>C9 (Ch.1 a9 i hi)⟩
theorem Qak{x:TA U}{j u m:Nat}(h:x.hasApp j u=true)(hb:x.belowB m=true):j<m:=by cases x with|app i v=>have:=Cc (C2.1 (show(Nat.beq i j&&Nat.beq v u)=true from h)).1;subst this;exact C9 hb|c x=>cases h|ptr i off=>cases h|pel t x off=>cases h|fn f caps=>cases h|raw x=>cases h
theorem Qq7{x:It U}{j u m:Nat}(h:x.hasApp j u=true)(hb:x.belowB m=true):j<m:=by cases x with|one x=>exact Qak h hb|grp t x=>cases h
theorem Dw{xs:List (It U)}{j u m:Nat}(h:xs.any (It.hasApp j u)=true)(hb:xs.all (It.belowB m)=true):j<m:=by obtain⟨x,h1,h2⟩:=CU.1 h;exact Qq7 h2 (Ch.1 hb x h1)
theorem Q7l{x:TAV U}{j u m:Nat}(h:x.hasApp j u=true)(hb:x.belowB m=true):j<m:=by cases x with|one x=>exact Qak h hb|agg xs=>exact Dw h hb
theorem DN{x:TTV U}{j u m:Nat}(h:x.hasApp j u=true)(hb:x.belowB m=true):j<m:=by cases x with|v x=>exact Q7l h hb|tup xs=>(obtain⟨x,h1,h2⟩:=CU.1 (show xs.any (TAV.hasApp j u)=true from h);exact Q7l h2 (Ch.1 (show xs.all (TAV.belowB m)=true from hb) x h1))|unk=>cases h
theorem Qq9{x:Ev U}{j u m:Nat}(h:x.hasApp j u=true)(hb:x.belowB m=true):j<m:=by cases x with|box i T xs=>exact Dw h (C2.1 hb).2|set i off xs=>exact Dw h hb|raw i B=>cases h|lp i s p tm nt ps a b d=>(obtain⟨q,h1,h2⟩:=CU.1 (show tm.any (λp=>p.2.hasApp j u)=true from h);exact DN h2 (Ch.1 (C2.1 (C2.1 hb).2).2 q h1))|ls i xs=>obtain⟨q,h1,h2⟩:=CU.1 (show xs.any (λp=>p.2.hasApp j u)=true from h);exact DN h2 (Ch.1 (show xs.all (λp=>p.2.belowB m)=true from hb) q h1)
theorem Q3n{x:TA U}{m:Nat}(tk:List (Nat×TTok U))(hb:x.belowB m=true):(x.er tk).below m:=by
 cases x with
 |c x=>trivial
 |ptr i off=>exact C9 hb
 |pel t x off=>trivial
 |fn f caps=>exact λp hp=>C9 (Ch.1 (show caps.all _=true from hb) p hp)
 |app i ver=>
  show(match cur tk i ver with
   |some T=>CA.app i (U.E T.t).sz ((U.E T.t).encL T.l)
   |none=>CA.any).below m
  cases cur tk i ver with|none=>trivial|some T=>exact C9 hb
 |raw x=>cases x with|yld L=>exact C9 hb|any=>trivial|_=>cases hb
theorem Q26{xs:List (It U)}{m:Nat}(tk:List (Nat×TTok U))(hb:xs.all (It.belowB m)=true):∀x∈Jy D tk xs,x.below m:=by intro x hx;obtain⟨y,hy,rfl⟩:=Cx.1 hx;obtain⟨it,h1,h2⟩:=Pg.1 hy;have h3:=Ch.1 hb it h1;cases it with|one z=>rw[CI.1 h2];exact Q3n tk h3|grp t z=>obtain⟨c,_,rfl⟩:=Cx.1 h2;trivial
theorem Wt{x:TAV U}{m:Nat}(tk:List (Nat×TTok U))(hb:x.belowB m=true):(x.er D tk).below m:=by cases x with|one x=>exact Q3n tk hb|agg xs=>exact Q26 tk hb
theorem Ws{x:TTV U}{m:Nat}(tk:List (Nat×TTok U))(hb:x.belowB m=true):(x.er D tk).below m:=by cases x with|v x=>exact Wt tk hb|tup xs=>(intro y hy;obtain⟨z,hz,rfl⟩:=Cx.1 hy;exact Wt tk (Ch.1 (show xs.all (TAV.belowB m)=true from hb) z hz))|unk=>trivial
theorem Qdx:∀(ys xs:List CA)(off:Nat)(z:CA),z∈setL xs off ys->z∈xs\/z∈ys|[],xs,off,z,h=>.inl h|y::ys,xs,off,z,h=>by rcases Qdx ys _ _ z h with h|h;rcases List.mem_or_eq_of_mem_set h with h|h;exact .inl h;exact .inr (by rw[h];exact Cj ..);exact .inr (Ck _ h)
theorem GA{tk:List (Nat×TTok U)}{m:Nat}:∀{es:List (Ev U)},(∀e∈es,e.belowB m=true)->∀i B,lk (Qq D tk es) i=some B->i<m/\B.below m|[],_,i,B,h=>by cases h|.box j T xs::es,hb,i,B,h=>(by have h1:=hb _ (Cj ..);unfold Qq at h;rw[Q8]at h;split at h;rename_i e;subst e;cases h;obtain⟨b1,b2⟩:=C2.1 h1;exact⟨C9 b1,Q26 tk b2⟩;exact GA (λe he=>hb e (Ck _ he)) i B h)|.raw j B'::es,hb,i,B,h=>by have h1:=hb _ (Cj ..);unfold Qq at h;rw[Q8]at h;split at h;rename_i e;subst e;cases h;(cases B' with|obj o=>exact⟨C9 h1,trivial⟩|cells T xs=>cases h1|loop s p tm nt ps a b d=>cases h1|mp es clock=>cases h1);exact GA (λe he=>hb e (Ck _ he)) i B h|.lp j s p tm nt ps a b d::es,hb,i,B,h=>(by have h1:=hb _ (Cj ..);unfold Qq at h;rw[Q8]at h;split at h;rename_i e;subst e;cases h;obtain⟨b1,b23⟩:=C2.1 h1;obtain⟨b2,b3⟩:=C2.1 b23;refine⟨C9 b1,C9 b2,λt x hx=>?_⟩;rw[QY]at hx;(cases hz:lk tm t with|none=>rw[hz]at hx;cases hx|some z=>rw[hz]at hx;cases hx;exact Ws tk (Ch.1 b3 _ (Ym hz)));exact GA (λe he=>hb e (Ck _ he)) i B h)|.ls j xs::es,hb,i,B,h=>(by have h1:=hb _ (Cj ..);have ih:=GA (tk:=tk) (λe he=>hb e (Ck _ he));unfold Qq at h;split at h;rename_i s p tm nt ps a b d hy;rw[Q8]at h;split at h;rename_i e;subst e;cases h;obtain⟨c1,c2,c3⟩:=ih j _ hy;refine⟨c1,c2,λt x hx=>?_⟩;rw[JN]at hx;(cases hz:lk xs t with|none=>rw[QY,hz]at hx;exact c3 t x hx|some z=>rw[QY,hz]at hx;cases hx;exact Ws tk (Ch.1 (show xs.all (λp=>p.2.belowB _)=true from h1) _ (Ym hz)));exact ih i B h;exact ih i B h)|.set j off xs::es,hb,i,B,h=>by have h1:=hb _ (Cj ..);have ih:=GA (tk:=tk) (λe he=>hb e (Ck _ he));unfold Qq at h;split at h;rename_i T ys hy;rw[Q8]at h;split at h;rename_i e;subst e;cases h;obtain⟨c1,c2⟩:=ih j _ hy;refine⟨c1,λz hz=>?_⟩;rcases Qdx _ _ _ z hz with hz|hz;exact c2 z hz;exact Q26 tk h1 z hz;exact ih i B h;exact ih i B h
def BR(cs:List (Nat×Nat×Nat))(i:Nat):Option HB->Option HB->Prop|none,none=>True|some A,some B=>(A=B)\/∃T xs ys,A=.cells T xs/\B=.cells T ys/\xs.length=ys.length/\∀k,Qbh cs i k=false->ys[k]?=xs[k]?|_,_=>False
theorem BR.refl(cs:List (Nat×Nat×Nat))(i:Nat)(o:Option HB):BR cs i o o:=by cases o with|none=>trivial|some A=>exact .inl rfl
theorem Ko(hD:D.OK){tk:List (Nat×TTok U)}{nx:Nat}{cs:List (Nat×Nat×Nat)}{es:List (Ev U)}:∀(q:List (Ev U)),(∀e∈q,Qz2 nx cs e=true)->∀i,i<nx->BR cs i (lk (Qq D tk es) i) (lk (Qq D tk (q++es)) i)
 |[],_,i,_=>BR.refl ..
 |.box j T xs::q,h,i,hi=>by have hj:=C9 (h _ (Cj ..));have ih:=Ko hD (tk:=tk) (es:=es) q (λe he=>h e (Ck _ he)) i hi;show BR cs i (lk (Qq D tk es) i) (lk ((j,.cells T (Jy D tk xs))::Qq D tk (q++es)) i);rw[Q8,Ca (by omega)];exact ih
 |.raw j B::q,h,i,hi=>by have hj:=C9 (h _ (Cj ..));have ih:=Ko hD (tk:=tk) (es:=es) q (λe he=>h e (Ck _ he)) i hi;show BR cs i (lk (Qq D tk es) i) (lk ((j,B)::Qq D tk (q++es)) i);rw[Q8,Ca (by omega)];exact ih
 |.lp j s p tm nt ps a b d::q,h,i,hi=>by have hj:=C9 (h _ (Cj ..));have ih:=Ko hD (tk:=tk) (es:=es) q (λe he=>h e (Ck _ he)) i hi;show BR cs i (lk (Qq D tk es) i) (lk ((j,.loop s p (QW (TTV.er D tk) tm) nt ps a b d)::Qq D tk (q++es)) i);rw[Q8,Ca (by omega)];exact ih
 |.ls j xs::q,h,i,hi=>by
  have hj:=C9 (h _ (Cj ..));have ih:=Ko hD (tk:=tk) (es:=es) q (λe he=>h e (Ck _ he)) i hi;show BR cs i (lk (Qq D tk es) i) (lk (match lk (Qq D tk (q++es)) j with
   |some (.loop s p tm nt ps a b d)=>(j,.loop s p (QW (TTV.er D tk) xs++tm) nt ps a b d)::Qq D tk (q++es)
   |_=>Qq D tk (q++es)) i)
  split;rw[Q8,Ca (by omega)];exact ih;exact ih
 |.set j off xs::q,h,i,hi=>by
  have hev:=h _ (Cj ..);have ih:=Ko hD (tk:=tk) (es:=es) q (λe he=>h e (Ck _ he)) i hi;show BR cs i (lk (Qq D tk es) i) (lk (match lk (Qq D tk (q++es)) j with
   |some (.cells T ys)=>(j,.cells T (setL ys off (Jy D tk xs)))::Qq D tk (q++es)
   |_=>Qq D tk (q++es)) i)
  split;rename_i T ys hy;rw[Q8];by_cases e:j=i;subst e;rw[Cf rfl];have hin:∀k,Qbh cs j k=false->(setL ys off (Jy D tk xs))[k]?=ys[k]?:=by intro k hk;rw[WM,K1 hD];by_cases c:off<=k/\k<off+Jd xs/\k<ys.length;exfalso;rcases CN.1 (show(Nat.ble nx j||(List.range (Jd xs)).all λp=>Qbh cs j (off+p))=true from hev)with h1|h1;have:=C9 h1;omega;have:=Ch.1 h1 (k-off) (List.mem_range.2 (by omega));rw[show off+(k-off)=k by omega,hk]at this;cases this;rw[Ca c]
  rw[hy]at ih;cases hA:lk (Qq D tk es) j with|none=>rw[hA]at ih;exact ih.elim|some A=>rw[hA]at ih;rcases ih with e1|⟨T',x1,y1,e1,e2,e3,e4⟩;exact .inr ⟨T,ys,_,e1,rfl,(JC ..).symm,hin⟩;cases e2;exact .inr ⟨T,x1,_,e1,rfl,by rw[JC];exact e3,λk hk=>(hin k hk).trans (e4 k hk)⟩
  rw[Ca e];exact ih;exact ih
theorem Qdw(hD:D.OK){tk:List (Nat×TTok U)}{es:List (Ev U)}:∀(L:List (Nat×Nat×List (It U))),disj (L.map λq=>(q.1,q.2.1,Jd q.2.2))=true->∀p∈L,∀(T:TypeId)(ys:List CA),lk (Qq D tk (L.map UY++es)) p.1=some (.cells T ys) -> ∀k,p.2.1<=k->k<p.2.1+Jd p.2.2->k<ys.length->ys[k]?=(Jy D tk p.2.2)[k-p.2.1]?
 |[],_,p,hp,_,_,_=>by cases hp
 |q::L,hd,p,hp,T,ys,hy=>by
  intro k k1 k2 k3;obtain⟨d1,d2⟩:=C2.1 (show((L.map λq=>(q.1,q.2.1,Jd q.2.2)).all _&&disj (L.map λq=>(q.1,q.2.1,Jd q.2.2)))=true from hd);have hq:Qq D tk ((q::L).map UY++es)=match lk (Qq D tk (L.map UY++es)) q.1 with
   |some (.cells T ys)=>(q.1,.cells T (setL ys q.2.1 (Jy D tk q.2.2)))::Qq D tk (L.map UY++es)
   |_=>Qq D tk (L.map UY++es):=by
   show Qq D tk (.set q.1 q.2.1 q.2.2::(L.map UY++es))=_;rfl
  rw[hq]at hy;rcases Cs.1 hp with rfl|hp;split at hy;rename_i T0 y0 h0;rw[Q8,Cf rfl]at hy;cases hy;rw[JC]at k3;rw[WM,K1 hD,Cf ⟨k1,k2,k3⟩];rename_i h0;exact(h0 T ys hy).elim;have ih:=Qdw hD (tk:=tk) (es:=es) L d2 p hp;split at hy;rename_i T0 y0 h0;rw[Q8]at hy;by_cases e:q.1=p.1;rw[Cf e]at hy;cases hy;rw[e]at h0;rw[JC]at k3;have h1:=Ch.1 d1 (p.1,p.2.1,Jd p.2.2) (Cx.2 ⟨p,hp,rfl⟩);dsimp only at h1;rw[e]at h1;have h2:(Nat.ble (q.2.1+Jd q.2.2) p.2.1||Nat.ble (p.2.1+Jd p.2.2) q.2.1)=true:=by simpa using h1
  rw[WM,K1 hD,Ca];exact ih _ y0 h0 k k1 k2 k3;rcases CN.1 h2 with h3|h3 <;> have:=C9 h3 <;> omega;rw[Ca e]at hy;exact ih T ys hy k k1 k2 k3;exact ih T ys hy k k1 k2 k3
end
end
end
end Go.Proofs.YtjcfppnjamjjhaaGreatDoor
