/- Part 3 of the proof: rules, mirrors and plain laws. -/
import Derived.Test.YtjcfppnjamjjhaaGreatDoorK42
import Derived.Shelf.Strings.Builder1
import Derived.Lib.LaidTab
import Derived.Lib.ItoaNum
import Derived.Lib.AtoiErrMem
set_option maxHeartbeats 2000000
set_option maxRecDepth 100000
set_option linter.unusedSimpArgs false
set_option linter.unusedVariables false
set_option linter.unusedSectionVars false
namespace Go.Proofs.YtjcfppnjamjjhaaGreatDoor
open Go.Proofs.Tryz
noncomputable section
section
open Go.RowKit
section
variable{U:Univ}{D:Codec U}
theorem U1{α:Type}:∀{l:List (Nat×α)}{i:Nat},lk l i=none->∀p∈l,p.1≠i
 |(k,x)::l,i,h,p,hp=>by
  rw[Q8]at h;split at h
  · cases h
  · rename_i hne
    rcases Cs.1 hp with rfl|hp
    · exact hne
    · exact U1 h p hp
theorem WP(x:TTV U):∀ls:List Loc,(Dj x ls).map (·.1)=Q5i ls|[]=>rfl|.reg r::ls=>by show r::(Dj x ls).map _=r::_;rw[WP x ls]|.cell i off::ls=>WP x ls
theorem Qiu(tk:List (Nat×TTok U)){sl:List (List Loc×AK U)}{t:tup (sl.map (·.2))}:(Qmb tk (vals sl t)).map (·.1)=Q17 sl:=by
 have e:Q17 sl=(vals sl t).flatMap λp=>Q5i p.1:=by have:=congrArg (λl:List (List Loc×AK U)=>l.flatMap λp=>Q5i p.1) (Ur (sl:=sl) (t:=t));rw[<-show _=Q17 sl from this,Sg]
 rw[e];unfold Qmb;rw[List.map_flatMap];congr 1;funext p;exact WP _ p.1
variable{h:Lab U}{st s:TSt U}{t:tup (h.sl.map (·.2))}
abbrev LT(h:Lab U)(st:TSt U)(t:tup (h.sl.map (·.2))):List (Nat×TTok U):=Qfa st.m.tk (vals h.sl t)++st.m.tk
theorem Q66(wf:WfL h st):∀p∈vals h.sl t,∀w∈Qvv p.2.1 p.2.2 (UT st.m.tk p.2.1),lk (LT h st t) w.1=some w.2/\cur (LT h st t) w.1 (UT st.m.tk p.2.1)=some w.2:=by
 intro p hp w hw;have hm:(w.1,w.2)∈Qfa st.m.tk (vals h.sl t):=Pg.2 ⟨p,hp,hw⟩;have h1:=J0f (by rw[Dt];exact wf.nd) hm;have h2:lk (LT h st t) w.1=some w.2:=by unfold LT;rw[UZ,h1]
 refine⟨h2,?_⟩;have hv:w.2.ver=UT st.m.tk p.2.1:=by obtain⟨ls,k,v⟩:=p;cases k with|app i e tt=>rw[CI.1 hw]|int k=>cases hw|bool=>cases hw|str=>cases hw|sl t=>cases hw|stc t=>cases hw|ptr i o=>cases hw|any=>cases hw
 unfold cur;rw[h2];dsimp only;rw[hv];simp
theorem Qc7{i:Nat}(hi:i∉YC h.sl):lk (LT h st t) i=lk st.m.tk i:=by unfold LT;rw[UZ,Qbz (λp hp e=>hi (by rw[<-Dt st.m.tk (t:=t)];exact Cx.2 ⟨p,hp,e⟩))]
theorem Qte(wf:WfL h st){i:Nat}(hi:i∈YC h.sl):∃p∈vals h.sl t,∃(e:TypeId)(tt:U.T)(l:List (U.R tt)),p.2=⟨.app i e tt,l⟩/\lk (LT h st t) i=some ⟨e,tt,l,UT st.m.tk (.app i e tt)⟩:=by rw[<-Dt st.m.tk (t:=t)]at hi;obtain⟨w,hw,rfl⟩:=Cx.1 hi;obtain⟨p,hp,hwp⟩:=Pg.1 hw;have h1:=(Q66 (t:=t) wf p hp w hwp).1;obtain⟨ls,k,v⟩:=p;cases k with|app i e tt=>rw[CI.1 hwp]at h1⊢;exact⟨_,hp,e,tt,v,Z,h1⟩|int k=>cases hwp|bool=>cases hwp|str=>cases hwp|sl t=>cases hwp|stc t=>cases hwp|ptr i o=>cases hwp|any=>cases hwp
theorem Qf9(a:AtLab D h st s t){i:Nat}(hi:i∉YC h.sl)(hn:i<st.m.nx):lk s.m.tk i=lk st.m.tk i:=by obtain⟨-,-,⟨p3,e3,k3⟩,-⟩:=a.parts;rw[e3,UZ,Qbz (λp hp e=>by rcases k3 p hp with q|q;omega;exact hi (by rw[<-e];exact q))]
theorem Qf7(a:AtLab D h st s t){P:Nat->Nat->Prop}(h1:∀j u,P j u->j<st.m.nx)(h2:∀i∈YC h.sl,¬P i (Jf st.m.tk i)):TkW s.m.tk (LT h st t) P:=by
 have wf:=Q4y a.wf;intro j u hp;by_cases hj:j∈YC h.sl;left;obtain⟨p,_,e,tt,l,_,hl⟩:=Qte (t:=t) wf hj;unfold cur;rw[hl];dsimp only;cases hb:Nat.beq (UT st.m.tk (AK.app j e tt)) u with|false=>rfl|true=>have e1:=Cc hb;exact(h2 j hj (by(have:P j (UT st.m.tk (AK.app j e tt)):=by rw[e1];exact hp);exact this)).elim
 right;unfold cur;rw[Qc7 hj,Qf9 a hj (h1 j u hp)]
theorem Qwv{cs:List (Nat×Nat×Nat)}{i k:Nat}(h:Qbh cs i k=true):∃c∈cs,c.1=i/\c.2.1<=k/\k<c.2.1+c.2.2:=by obtain⟨c,hc,hb⟩:=CU.1 h;obtain⟨b1,b23⟩:=C2.1 hb;obtain⟨b2,b3⟩:=C2.1 b23;exact⟨c,hc,Cc b1,C9 b2,C9 b3⟩
theorem Qwn{cs:List (Nat×Nat×Nat)}{i k:Nat}{c:Nat×Nat×Nat}(hc:c∈cs)(h1:c.1=i)(h2:c.2.1<=k)(h3:k<c.2.1+c.2.2):Qbh cs i k=true:=CU.2 ⟨c,hc,C2.2 ⟨by rw[h1];simp,C2.2 ⟨C7 h2,C7 h3⟩⟩⟩
theorem Qf8(hD:D.OK)(st:TSt U)(t:tup (h.sl.map (·.2))):∀e∈(Wk st.m.tk (vals h.sl t)).map UY,Qz2 st.m.nx (YU h.sl) e=true:=by
 intro e he;obtain⟨q,hq,rfl⟩:=Cx.1 he;have hc:(q.1,q.2.1,Jd q.2.2)∈YU h.sl:=by rw[<-Xc hD st.m.tk (t:=t)];exact Cx.2 ⟨q,hq,Z⟩
 refine CN.2 (.inr (Ch.2 λk hk=>?_));have:=List.mem_range.1 hk;exact Qwn hc rfl (by dsimp only;omega) (by dsimp only;omega)
theorem DE{m:Nat}(k:AK U)(v:k.Ty)(ver:Nat)(h:∀i∈Q7e k,i<m)(h2:∀i∈Qe8 k,i<m):(Xz k v ver).belowB m=true:=by cases k with|app i e tt=>exact C7 (h i (CI.2 rfl))|int k=>rfl|bool=>rfl|str=>rfl|sl t=>rfl|stc t=>rfl|ptr i o=>exact C7 (h2 i (CI.2 rfl))|any=>rfl
theorem Q43{m:Nat}{x:TAV U}(h:x.belowB m=true):x.items.all (It.belowB m)=true:=by cases x with|one x=>show(It.belowB m (.one x)&&true)=true;rw[Bool.and_true];exact h|agg xs=>exact h
theorem Q9m(wf:WfL h st):(∀p∈(lab h st t).tm,p.2.belowB st.m.nx=true)/\∀e∈(lab h st t).m.es,e.belowB st.m.nx=true:=by
 have happ:∀p∈vals h.sl t,∀i∈Q7e p.2.1,i<st.m.nx:=λp hp i hi=>by(have:i∈YC h.sl:=by(have e:YC h.sl=(vals h.sl t).flatMap λp=>Q7e p.2.1:=by have:=congrArg (λl:List (List Loc×AK U)=>l.flatMap λp=>Q7e p.2) (Ur (sl:=h.sl) (t:=t));rw[<-show _=YC h.sl from this,Sg]);rw[e];exact Pg.2 ⟨p,hp,hi⟩);exact C9 (C2.1 (wf.app i this)).1
 have hptr:∀p∈vals h.sl t,∀i∈Qe8 p.2.1,i<st.m.nx:=λp hp i hi=>by(have:i∈Q5b h.sl:=by(have e:Q5b h.sl=(vals h.sl t).flatMap λp=>Qe8 p.2.1:=by have:=congrArg (λl:List (List Loc×AK U)=>l.flatMap λp=>Qe8 p.2) (Ur (sl:=h.sl) (t:=t));rw[<-show _=Q5b h.sl from this,Sg]);rw[e];exact Pg.2 ⟨p,hp,hi⟩);exact wf.pt i this
 refine⟨λp hp=>?_,λe he=>?_⟩;rcases CR.1 hp with hp|hp;rcases CR.1 hp with hp|hp;obtain⟨q,hq,hm⟩:=Pg.1 hp;rw[(XZ hm).1];exact DE _ _ _ (happ q hq) (hptr q hq);obtain⟨r,_,rfl⟩:=Cx.1 hp;rfl;exact wf.tm p hp;rcases CR.1 he with he|he;obtain⟨q,hq,rfl⟩:=Cx.1 he;obtain⟨p,hp,hm⟩:=Pg.1 hq;have h1:=(XW hm).1;show q.2.2.all (It.belowB st.m.nx)=true;rw[h1];exact Q43 (DE _ _ _ (happ p hp) (hptr p hp));exact wf.es e he
theorem Q5k{i off n:Nat}{x:TAV U}(hx:Wy D s (.cell i off) n=some x):UW D s.m.es i off n=some x.items:=by unfold Wy at hx;dsimp only at hx;split at hx;rename_i y hy;cases hx;exact hy;rename_i xs hne hxs;cases hx;exact hxs;cases hx
theorem Q8r{r n:Nat}{x:TAV U}(hx:Wy D s (.reg r) n=some x):lk s.tm r=some (.v x):=by unfold Wy at hx;dsimp only at hx;split at hx;rename_i y hy;cases hx;exact hy;cases hx
theorem J2u(hD:D.OK)(a:AtLab D h st s t):∀i B,lk (Qq D (LT h st t) ((Wk st.m.tk (vals h.sl t)).map UY++st.m.es)) i=some B->∃A,lk (Qq D s.m.tk s.m.es) i=some A/\∀V w o,A.rel V w o->B.rel V w o:=by
 have wf:=Q4y a.wf;obtain⟨-,⟨p2,e2,k2⟩,-,hrd,-⟩:=a.parts;have hv:=Q48 hrd;intro i B hB;have hi:i<st.m.nx:=(GA (Q9m (t:=t) wf).2 i B hB).1;have brL:=Ko hD (tk:=LT h st t) (es:=st.m.es) _ (Qf8 hD st t) i hi;have brS:=Ko hD (tk:=s.m.tk) (es:=st.m.es) p2 k2 i hi;rw[<-e2]at brS;have ow:=Zq (D:=D) (es:=st.m.es) (tk:=s.m.tk) (tk':=LT h st t) (Qf7 a (λj u hp=>by
  obtain⟨e,he,hp⟩:=CU.1 hp;exact Qq9 hp (wf.es e he)) (λi hi hp=>by
  have h1:=(C2.1 (wf.app i hi)).2;have h2:=(C2.1 h1).2;rw[hp]at h2;cases h2)) i
 rw[hB]at brL;cases hX:lk (Qq D (LT h st t) st.m.es) i with|none=>rw[hX]at brL;exact brL.elim|some X=>rw[hX]at brL ow;cases hY:lk (Qq D s.m.tk st.m.es) i with|none=>rw[hY]at ow;exact ow.elim|some Y=>rw[hY]at brS ow;cases hA:lk (Qq D s.m.tk s.m.es) i with|none=>rw[hA]at brS;exact brS.elim|some A=>rw[hA]at brS;refine⟨A,Z,?_⟩;(have cellsX:(∃T xs0,X=.cells T xs0)\/BW A B:=by cases X with|cells T xs0=>exact .inl ⟨T,xs0,rfl⟩|obj o=>(right;rcases brL with e|⟨T,x1,y1,e,_⟩;rcases brS with e3|⟨T,x1,y1,e3,_⟩;have ow2:BW Y _:=ow;rw[<-e3,<-e];exact ow2;subst e3;cases ow;cases e)|loop st1 pp tm nt ps asg body DD=>(right;rcases brL with e|⟨T,x1,y1,e,_⟩;rcases brS with e3|⟨T,x1,y1,e3,_⟩;have ow2:BW Y _:=ow;rw[<-e3,<-e];exact ow2;subst e3;cases ow;cases e)|mp es clock=>right;rcases brL with e|⟨T,x1,y1,e,_⟩;rcases brS with e3|⟨T,x1,y1,e3,_⟩;have ow2:BW Y _:=ow;rw[<-e3,<-e];exact ow2;subst e3;cases ow;cases e);rcases cellsX with⟨T,xs0,rfl⟩|e;(obtain⟨xs,rfl,l1,g1⟩:∃xs,B=.cells T xs/\xs.length=xs0.length/\∀k,Qbh (YU h.sl) i k=false->xs[k]?=xs0[k]?:=by rcases brL with e|⟨T',x1,y1,e,e',l,g⟩;exact⟨xs0,e.symm,rfl,λ_ _=>rfl⟩;cases e;exact⟨y1,e',l.symm,g⟩);(obtain⟨ys0,rfl,hl0⟩:∃ys0,Y=.cells T ys0/\LW ys0 xs0:=by have ow':BW Y (.cells T xs0):=ow;cases ow' with|refl=>exact⟨xs0,rfl,LW.refl _⟩|cells hl=>exact⟨_,rfl,hl⟩);(obtain⟨ys,rfl,l2,g2⟩:∃ys,A=.cells T ys/\ys.length=ys0.length/\∀k,Qbh (YU h.sl) i k=false->ys[k]?=ys0[k]?:=by rcases brS with e|⟨T',x1,y1,e,e',l,g⟩;exact⟨ys0,e.symm,rfl,λ_ _=>rfl⟩;cases e;exact⟨y1,e',l.symm,g⟩);intro V w o hr;refine BW.rel (.cells ⟨by rw[l2,hl0.1,l1],λk x y hx hy=>?_⟩) hr;(cases hm:Qbh (YU h.sl) i k with|false=>rw[g2 k hm]at hx;rw[g1 k hm]at hy;exact hl0.2 k x y hx hy|true=>obtain⟨c,hc,c1,c2,c3⟩:=Qwv hm;have hc':=hc;rw[<-Xc hD st.m.tk (t:=t)]at hc';obtain⟨q,hq,rfl⟩:=Cx.1 hc';dsimp only at c1 c2 c3;have hyl:k<xs.length:=(Ce.1 hy).1;have hset:=Qdw hD (tk:=LT h st t) (es:=st.m.es) (Wk st.m.tk (vals h.sl t)) (by rw[Xc hD];exact wf.disj) q hq T xs (by rw[c1];exact hB) k c2 c3 hyl;rw[hset]at hy;obtain⟨p,hp,hm⟩:=Pg.1 hq;obtain⟨q1,q2⟩:=XW hm;obtain⟨z,hz,hdec,-⟩:=Qb8 (hv p hp) _ q2;obtain⟨T1,zs,r1,r2,r3⟩:=YQ hD (tk:=s.m.tk) (Q5k hz);have hlw:=Quj (tk':=LT h st t) (ver:=UT st.m.tk p.2.1) hD hdec (λw hw=>(Q66 (t:=t) wf p hp w hw).2);rw[<-q1,<-r3]at hlw;rw[c1,hA]at r1;cases r1;(have hsz:Jd q.2.2=p.2.1.sz:=by rw[q1];exact Qa1 hD _ _ _);refine hlw.2 (k-q.2.1) x y ?_ hy;rw[Pe,Cf (by omega),CS,show q.2.1+(k-q.2.1)=k by omega];exact hx);intro V w o hr;exact BW.rel e hr
theorem J2s(hD:D.OK)(a:AtLab D h st s t):∀r y,lk (QW (TTV.er D (LT h st t)) (lab h st t).tm) r=some y->y=.unk\/∃x,lk (QW (TTV.er D s.m.tk) s.tm) r=some x/\∀V w v,x.rel V w v->y.rel V w v:=by have wf:=Q4y a.wf;obtain⟨⟨p1,e1,k1⟩,-,-,hrd,-⟩:=a.parts;have hv:=Q48 hrd;intro r y hy;rw[QY]at hy;unfold lab at hy;dsimp only at hy;rw[UZ,UZ]at hy;cases h1:lk (Qmb st.m.tk (vals h.sl t)) r with|some y0=>(rw[h1]at hy;cases hy;right;obtain⟨p,hp,hm⟩:=Pg.1 (Ym h1);obtain⟨m1,m2,-⟩:=XZ hm;dsimp only at m1 m2;obtain⟨x,hx,hdec,hns⟩:=Qb8 (hv p hp) _ m2;refine⟨TV.v (x.er D s.m.tk),by rw[QY,Q8r hx];rfl,λV w v hr=>?_⟩;rw[m1];exact Qn3 hD hdec (λw hw=>(Q66 (t:=t) wf p hp w hw).2) hns hr)|none=>rw[h1]at hy;cases h2:lk (h.dead.map λr=>(r,(TTV.unk:TTV U))) r with|some y0=>(rw[h2]at hy;cases hy;obtain⟨q,_,hq⟩:=Cx.1 (Ym h2);cases hq;exact .inl Z)|none=>rw[h2]at hy;(have hr1:r∉Q17 h.sl:=λhm=>by rw[<-Qiu st.m.tk (t:=t)]at hm;obtain⟨q,hq,e⟩:=Cx.1 hm;exact U1 h1 q hq e);have hr2:r∉h.dead:=λhm=>U1 h2 (r,.unk) (Cx.2 ⟨r,hm,rfl⟩) rfl;(have hs:lk s.tm r=lk st.tm r:=by rw[e1,UZ,Qbz (λp hp e=>by rcases k1 p hp with q|q;exact hr1 (by rw[<-e];exact q);exact hr2 (by rw[<-e];exact q))]);cases h3:lk st.tm r with|none=>rw[h3]at hy;cases hy|some y0=>rw[h3]at hy;cases hy;right;refine⟨y0.er D s.m.tk,by rw[QY,hs,h3];rfl,λV w v hr=>?_⟩;have hmem:=Ym h3;exact Kq (Qf7 a (λj u hp=>DN hp (wf.tm _ hmem)) (λi hi hp=>by have q1:=(C2.1 (wf.app i hi)).2;have q2:=(C2.1 q1).1;have q3:st.tm.any (λp=>p.2.hasApp i (Jf st.m.tk i))=true:=CU.2 ⟨_,hmem,hp⟩;rw[q3]at q2;cases q2)) hr
theorem J2t(a:AtLab D h st s t):∀i T,lk (WB (LT h st t)) i=some (some T)->lk (WB s.m.tk) i=some (some T):=by
 have wf:=Q4y a.wf;obtain⟨-,-,-,hrd,-⟩:=a.parts;have hv:=Q48 hrd;intro i T hT;have hT':lk (QW TTok.erO (LT h st t)) i=some (some T):=hT;show lk (QW TTok.erO s.m.tk) i=some (some T);rw[QY]at hT'⊢;by_cases hi:i∈YC h.sl;obtain⟨p,hp,e,tt,l,hpe,hl⟩:=Qte (t:=t) wf hi;rw[hl]at hT';have hr:=hv p hp;obtain⟨ls,kv⟩:=p;dsimp only at hpe hr;subst hpe;obtain⟨l0,r0,hls⟩:=J17 hr;obtain⟨x,hx,hdec,-⟩:=Qb8 hr l0 (by rw[hls];exact Cj ..);have hdec':Uf s.m.tk i e tt x=some l:=hdec;unfold Uf at hdec';split at hdec';rename_i j u;split at hdec';rename_i T1 hc;cases hb:(Nat.beq j i&&Nat.beq T1.E e)with|false=>rw[hb]at hdec';cases hdec'|true=>rw[hb,C5]at hdec';obtain⟨b1,b2⟩:=C2.1 hb;have ej:=Cc b1;have eE:=Cc b2;obtain⟨et,el⟩:=Zr hdec';subst et;subst ej;(have hlk:lk s.m.tk j=some T1:=by unfold cur at hc;split at hc;rename_i T0 h0;(cases hq:Nat.beq T0.ver u with|false=>rw[hq]at hc;cases hc|true=>rw[hq]at hc;cases hc;exact h0);cases hc);rw[hlk];have h':=Cw hT';show some T1.erO=some (some T);rw[<-h'];unfold TTok.erO TTok.er;rw[eE,el]
 cases hdec';cases hdec';rw[Qc7 hi]at hT';have hn:i<st.m.nx:=by cases hq:lk st.m.tk i with|none=>rw[hq]at hT';cases hT'|some T0=>exact wf.tk _ (Ym hq)
 rw[Qf9 a hi hn];exact hT'
theorem U3(hD:D.OK)(a:AtLab D h st s t){E:Env}(h0:E.V0.nx<=st.m.nx):To E (s.er D) ((lab h st t).er D):=by
 have wf:=Q4y a.wf;have hsf:=a.sfx;intro V ac w hr;have hdf:st.df=s.df:=a.parts.2.2.2.2;have hW:StW (s.er D) ⟨QW (TTV.er D (LT h st t)) (lab h st t).tm,Qq D (LT h st t) ((Wk st.m.tk (vals h.sl t)).map UY++st.m.es),WB (LT h st t),s.m.nx,st.nt,st.df⟩:=⟨J2s hD a,J2u hD a,J2t a,rfl,hsf.nt.symm,hdf⟩;have hb:=Q9m (t:=t) wf;refine Qjy (m:=st.m.nx) (hr.weak hW) ⟨λr x hx=>?_,λi B hB=>GA hb.2 i B hB,λi T hT=>?_,λi hi=>?_⟩ h0;have hx':lk (QW (TTV.er D (LT h st t)) (lab h st t).tm) r=some x:=hx;rw[QY]at hx';cases hy:lk (lab h st t).tm r with|none=>rw[hy]at hx';cases hx'|some y=>rw[hy]at hx';cases hx';exact Ws _ (hb.1 _ (Ym hy))
 have hT':lk (QW TTok.erO (LT h st t)) i=some (some T):=hT;rw[QY]at hT';by_cases hi:i∈YC h.sl;exact C9 (C2.1 (wf.app i hi)).1;rw[Qc7 hi]at hT';cases hq:lk st.m.tk i with|none=>rw[hq]at hT';cases hT'|some T0=>exact wf.tk _ (Ym hq)
 exact wf.df i hi
theorem YE(st:TSt U)(t:tup (h.sl.map (·.2))):Sfx st (lab h st t):=⟨⟨_,rfl⟩,⟨_,rfl⟩,⟨_,rfl⟩,Cl _,rfl,.inr rfl⟩
end
end
section
open Go.RowKit
theorem Un{E:Env}{o:Oper}{a b:St}{x:TV}{m:Mem}(h:StW a b)(k:OpOK E o b x m):OpOK E o a x m:=λV ac w hr=>k V ac w (hr.weak h)
theorem Q2m{E:Env}{o:Oper}{a:St}{x:TV}{m m':Mem}(hh:∀i B,lk m'.hp i=some B->∃A,lk m.hp i=some A/\∀V w o,A.rel V w o->B.rel V w o)(ht:∀i T,lk m'.tk i=some (some T)->lk m.tk i=some (some T))(hn:m'.nx=m.nx)(k:OpOK E o a x m):OpOK E o a x m':=λV ac w hr ro n K Q hK=>k V ac w hr ro n K Q λV' w' v H e L hv=>hK V' w' v (H.weak hh ht) (e.trans hn.symm) L hv
def Q79(ops:Array Oper)(i:Nat):List Nat:=(List.range ops.size).filterMap λj=>match Jz ops j with|some d=>cond ((QM ops i).contains j||(QM ops j).contains i) none (some d)|none=>none
section
variable{U:Univ}(D:Codec U)(C:TCfg U)(K:FuncId->List (TAV U)->Option (KR U))(X:XH U)(Y:YH U)
def GB(ops:Array Oper)(i:Nat)(st:TSt U):TSt U:=⟨st.tm.filter λp=>!((Q79 ops i).contains p.1),st.m,st.nt,st.df⟩
def Qmp(o:Oper):Bool:=match o.op with|.call c=>(match c.callee with|.value _=>true|_=>false)|_=>false
def Ue{β:Type}(ops:Array Oper)(effs:List Nat)(i:Nat)(o:Oper)(st:TSt U)(p:Value->TMe U->Option β)(k:TSt U->(Bool->TMe U->Bool)->Option β):Option β:=
 match Qvu D C (GB ops i st) o with
 |some r=>cond (Yj st o.dst&&!(effs.contains i)) (r.run λx=>k ⟨UP o.dst x st.tm,st.m,st.nt,st.df⟩ (Qlh D (GB ops i st).tm st.m o x)) none
 |none=>match J6u D C K (GB ops i st) o with
  |some e=>e.run λq=>cond (Q5u st (q.es++st.m.es) q.tk&&Yj st o.dst&&Nat.ble st.m.nx q.nx) (cond (effs.contains i) (k (Q91 st o.dst q) λ_ _=>false) (match q.es,q.tk with
   |[],none=>cond (Nat.beq q.nx st.m.nx) (k ⟨UP o.dst q.x st.tm,st.m,st.nt,st.df⟩ λup m'=>Qmp o&&Qlh D (GB ops i st).tm st.m o q.x up m') none
   |_,_=>none)) none
  |none=>match Qna X Y (GB ops i st) o with|some xo=>cond (Yj st o.dst&&effs.contains i) (xo.run (λx m=>cond (ZB (Ui m.tk st.m.tk) st.tm) (k ⟨UP o.dst x st.tm,m,st.nt,st.df⟩ λ_ _=>false) none) λv m=>cond (ZB (Ui m.tk st.m.tk) st.tm) (p v m) none) none|none=>none
def Q9y(ops:Array Oper)(effs:List Nat)(acc:List (Nat×(Bool->TMe U->Bool)))(ms:List (TMe U)):Bool:=
 (List.range ops.size).all λi=>(List.range (effs.length+1)).all λj=>!(Q35 ops effs i j)||(Nat.beq j (Gv effs i)||(match lk acc i,ms[j]? with
  |some c,some m=>c (Nat.blt (Gv effs i) j) m
  |_,_=>false))
def Qj8(ops:Array Oper)(effs:List Nat):List (Nat×Nat):=(List.range ops.size).flatMap λi=>((List.range (effs.length+1)).filter λj=>Q35 ops effs i j&&!(Nat.beq j (Gv effs i))).map λj=>(i,j)
def Qfg(m:TMe U):TMe U:=⟨.raw m.nx (.obj (.deferred none))::m.es,m.tk,m.nx⟩
def Q38(m:TMe U):Bool:=match m.es with|.raw n (.obj (.deferred none))::_=>Nat.ble m.nx n|_=>false
def Qfu(effs:List Nat):Nat->List Oper->TMe U->List (TMe U)->List (TMe U)|_,[],_,ms=>ms|i,_::os,m,ms=>Qfu effs (i+1) os m (cond (effs.contains i) (m::ms) ms)
def Qn7(effs:List Nat):Nat->List Oper->List (Nat×(Bool->TMe U->Bool))->List (Nat×(Bool->TMe U->Bool))|_,[],acc=>acc|i,_::os,acc=>Qn7 effs (i+1) os ((i,λ_ m=>!(effs.contains i)&&Q38 m)::acc)
def Qa6{β:Type}(ops:Array Oper)(effs:List Nat)(i:Nat)(os:List Oper)(st:TSt U)(ms:List (TMe U))(acc:List (Nat×(Bool->TMe U->Bool)))(p:Value->TSt U->Option β)(v:Value)(m:TMe U):Option β:=cond (os.all (λo=>o.guard.isNone&&Yj st o.dst)&&Q9y ops effs (Qn7 effs (i+1) os ((i,λ_ _=>false)::acc)) (Qfg st.m::Qfu effs (i+1) os (Qfg st.m) (st.m::ms)).reverse) (p v ⟨((JG ops).map λd=>(d,TTV.unk))++st.tm,m,st.nt,st.df⟩) none
def KU{β:Type}(ops:Array Oper)(effs:List Nat)(p:Value->TSt U->Option β):Nat->List Oper->TSt U->List (TMe U)->List (Nat×(Bool->TMe U->Bool))->(TSt U->Option β)->Option β
 |_,[],st,ms,acc,k=>cond (Q9y ops effs acc (st.m::ms).reverse) (k st) none
 |i,o::os,st,ms,acc,k=>match o.guard with
  |none=>Ue D C K X Y ops effs i o st (Qa6 ops effs i os st ms acc p) λs c=>KU ops effs p (i+1) os s (cond (effs.contains i) (st.m::ms) ms) ((i,c)::acc) k
  |some (j,b)=>match(ops[j]?).bind (·.dst)with
   |none=>none
   |some d=>cond ((Q79 ops i).contains d) none (match lk st.tm d with
    |some (.v (.one (.c (.v (.bool c)))))=>cond c
     (cond b (Ue D C K X Y ops effs i o (setB st d true) (Qa6 ops effs i os (setB st d true) ms acc p) λs c=>KU ops effs p (i+1) os s (cond (effs.contains i) (st.m::ms) ms) ((i,c)::acc) k) (cond (Yj st o.dst) (KU ops effs p (i+1) os (KQ o (setB st d true)) (cond (effs.contains i) (st.m::ms) ms) ((i,λ_ _=>!(effs.contains i))::acc) k) none))
     (cond b (cond (Yj st o.dst) (KU ops effs p (i+1) os (KQ o (setB st d false)) (cond (effs.contains i) (st.m::ms) ms) ((i,λ_ _=>!(effs.contains i))::acc) k) none) (Ue D C K X Y ops effs i o (setB st d false) (Qa6 ops effs i os (setB st d false) ms acc p) λs c=>KU ops effs p (i+1) os s (cond (effs.contains i) (st.m::ms) ms) ((i,c)::acc) k))
    |some (.tup [])=>cond (Yj st o.dst) (KU ops effs p (i+1) os (KQ o st) (cond (effs.contains i) (st.m::ms) ms) ((i,λ_ _=>!(effs.contains i))::acc) k) none
    |_=>none)
def Qh0(st:TSt U):TSt U:=⟨(st.tm.map λp=>(p.1,TTV.unk))++st.tm,st.m,st.nt,st.df⟩
def Qpi{β:Type}(ops:Array Oper)(effs:List Nat)(st0:TSt U)(p:Value->TSt U->Option β):Nat->List Oper->TSt U->Option β
 |_,[],_=>none
 |i,o::os,st=>match o.guard with
  |some _=>none
  |none=>match os with
   |[]=>cond (effs.contains i&&Yj st o.dst) (match Qwi (GB ops i st) o with
    |some v=>p v (Qh0 st0)
    |none=>none) none
   |_::_=>cond (effs.contains i) none (Ue D C K X Y ops effs i o st (λ_ _=>none) λs _=>Qpi ops effs st0 p (i+1) os s)
def Q1v(ops:Array Oper):Bool:=match ops.toList.getLast? with|some o=>(match o.op with|.panic _=>true|_=>false)|none=>false
def Qfr(ops:Array Oper)(effs:List Nat):Bool:=Q7h ops effs&&J8g ops effs (Qj8 ops effs)&&Nat.beq ((List.range' 0 ops.size).filter effs.contains).length effs.length
variable{D C K X Y}
def GW(y z:TV):Prop:=(∀V w v,y.rel V w v->z.rel V w v)/\(((∃c,z=TB c)\/z=.tup [])->y=z)
theorem Jbo{tk tk':List (Nat×TTok U)}{z:TTV U}(h:(∃c,z.er D tk'=TB c)\/z.er D tk'=.tup []):z.er D tk=z.er D tk':=by
 cases z with
 |unk=>rfl
 |tup xs=>cases xs with|nil=>rfl|cons x xs=>rcases h with⟨c,h⟩|h;cases h;cases h
 |v x=>
  rcases h with⟨c,h⟩|h;cases x with
  |agg xs=>cases h
  |one x=>
   cases x with
   |app i u=>
    have h':(match cur tk' i u with
     |some T=>CA.app i (U.E T.t).sz ((U.E T.t).encL T.l)
     |none=>CA.any)=.d (.v (.bool c)):=AV.one.inj (TV.v.inj h)
    split at h' <;> cases h'
   |c x=>rfl
   |ptr i off=>rfl
   |pel t x off=>rfl
   |fn f caps=>rfl
   |raw x=>rfl
  cases h
structure DI(D:Codec U)(ops:Array Oper)(st0:St)(fx:List (Nat×TV))(i:Nat)(st:TSt U):Prop where
 dn:∀j,j<i->∃y,lk fx j=some y
 nd:∀j,i<=j->lk fx j=none
 tm:∀t x,lk st.tm t=some x->(∃j y,j<i/\Jz ops j=some t/\lk fx j=some y/\GW y (x.er D st.m.tk))\/((∀j,j<i->Jz ops j≠some t)/\∃y,lk st0.tm t=some y/\GW y (x.er D st.m.tk))
 nt:st.nt=st0.nt
 df:st.df=st0.df
theorem Qo5{ops:Array Oper}(h:(JG ops).Nodup){j k d:Nat}(hj:Jz ops j=some d)(hk:Jz ops k=some d):j=k:=by
 have lt:∀{j},Jz ops j=some d->j<ops.size:=λ{j} hj=>by rcases P2 j ops.size with h3|h3;exact h3;simp[Jz,P0 h3]at hj
 have hp:∀(l:List Nat),l.Nodup->(l.filterMap (Jz ops)).Nodup->j∈l->k∈l->j=k:=by intro l;induction l with|nil=>intro _ _ h;cases h|cons p l ih=>intro hl hf hi hk';rw[CX]at hl;rw[Pw]at hf;rcases Cs.1 hi with rfl|hi2;rcases Cs.1 hk' with rfl|hk2;rfl;rw[hj]at hf;simp only[CX]at hf;exact absurd (Ph (l:=l).2 ⟨k,hk2,hk⟩) hf.1;rcases Cs.1 hk' with rfl|hk2;rw[hk]at hf;simp only[CX]at hf;exact absurd (Ph (l:=l).2 ⟨j,hi2,hj⟩) hf.1;refine ih hl.2 ?_ hi2 hk2;split at hf;exact hf;exact(CX.1 hf).2
 exact hp (List.range ops.size) List.nodup_range h (by simpa using lt hj) (by simpa using lt hk)
theorem Q6q{ops:Array Oper}{fx:List (Nat×TV)}:∀(js:List Nat){j t:Nat}{y:TV},j∈js->Jz ops j=some t->lk fx j=some y->∃z,lk (JO ops fx js) t=some z|[],j,t,y,h,_,_=>by cases h|a::js,j,t,y,h,hd,hf=>by simp only[JO,Pw];rcases Cs.1 h with rfl|h2;rw[hd,hf];dsimp only;rw[Q8,Cf rfl];exact⟨_,Z⟩;obtain⟨z,hz⟩:=Q6q js h2 hd hf;split;exact⟨z,hz⟩;rename_i p hp;obtain⟨d,q⟩:=p;rw[Q8];split;exact⟨_,rfl⟩;exact⟨z,hz⟩
theorem Qfl{ops:Array Oper}{fx:List (Nat×TV)}(h:(JG ops).Nodup){js:List Nat}{j t:Nat}{y:TV}(hj:j∈js)(hd:Jz ops j=some t)(hf:lk fx j=some y):lk (JO ops fx js) t=some y:=by obtain⟨z,hz⟩:=Q6q js hj hd hf;obtain⟨k,h1,h2,h3⟩:=Xv js t z hz;have:=Qo5 h hd h2;subst this;rw[hf]at h3;cases h3;exact hz
theorem Q6r{ops:Array Oper}{fx:List (Nat×TV)}{js:List Nat}{t:Nat}(h:∀j y,Jz ops j=some t->lk fx j=some y->False):lk (JO ops fx js) t=none:=by cases hc:lk (JO ops fx js) t with|none=>rfl|some z=>obtain⟨k,h1,h2,h3⟩:=Xv js t z hc;exact(h k z h2 h3).elim
theorem Qc3{α:Type}{p:Nat->Bool}:∀{l:List (Nat×α)}{t:Nat}{x:α},lk (l.filter λq=>p q.1) t=some x->p t=true/\lk l t=some x
 |[],t,x,h=>by cases h
 |(k,v)::r,t,x,h=>by
  rw[CE]at h;cases hp:p k with
  |true=>
   rw[Cf hp,Q8]at h;rw[Q8];split at h
   · rename_i e;subst e;rw[Cf rfl];exact⟨hp,h⟩
   · rename_i e;rw[Ca e];exact Qc3 h
  |false=>
   rw[Ca (by rw[hp];exact Cp)]at h;obtain⟨h1,h2⟩:=Qc3 h;refine⟨h1,?_⟩;rw[Q8,Ca]
   · exact h2
   · intro e;subst e;rw[hp]at h1;cases h1
theorem Qch{α:Type}{p:Nat->Bool}:∀{l:List (Nat×α)}{t:Nat}{x:α},p t=true->lk l t=some x->lk (l.filter λq=>p q.1) t=some x
 |[],t,x,_,h=>by cases h
 |(k,v)::r,t,x,hp,h=>by
  rw[CE];rw[Q8]at h;split at h
  · rename_i e;subst e;rw[Cf hp,Q8,Cf rfl];exact h
  · rename_i e
    have ih:=Qch hp h
    split
    · rw[Q8,Ca e];exact ih
    · exact ih
theorem Quv{ops:Array Oper}{i t j:Nat}(h:(Q79 ops i).contains t=false)(hd:Jz ops j=some t)(hj:j<ops.size):j∈QM ops i\/i∈QM ops j:=by rw[Sq,decide_eq_false_iff_not]at h;cases hc:((QM ops i).contains j||(QM ops j).contains i)with|true=>(rcases CN.1 hc with h1|h1;exact .inl (by simpa using h1);exact .inr (by simpa using h1))|false=>refine(h (Ph.2 ⟨j,by simpa using hj,?_⟩)).elim;rw[hd];dsimp only;rw[hc];rfl
section
variable{ops:Array Oper}{st0:St}{fx:List (Nat×TV)}{i:Nat}{st:TSt U}
theorem Qy6{t:Nat}{x:TV}:∀{tm:List (Nat×TV)},Q9t ops i t=false->lk tm t=some x->lk (Q67 ops i tm) t=some x:=λ{tm} hh h=>Qch (p:=λt=>!(Q9t ops i t)) (by rw[hh];rfl) h
theorem DI.look(h:DI D ops st0 fx i st)(hdag:∀i,i<ops.size->∀k∈QM ops i,k<i)(hnd:(JG ops).Nodup)(hi:i<ops.size){t:Nat}{x:TTV U}(hb':(Q79 ops i).contains t=false)(hx:lk st.tm t=some x):∃y,lk (QI ops st0 fx i (st.er D).mem).tm t=some y/\GW y (x.er D st.m.tk):=by
 have ltS:∀{j},Jz ops j=some t->j<ops.size:=λ{j} hj=>by rcases P2 j ops.size with h3|h3;exact h3;simp[Jz,P0 h3]at hj
 show ∃z,lk (JO ops fx (QM ops i)++Q67 ops i st0.tm) t=some z/\_;rcases h.tm t x hx with⟨j,z,h1,h2,h3,h4⟩|⟨h1,z,h2,h3⟩;refine⟨z,?_,h4⟩;have hj:j∈QM ops i:=by rcases Quv hb' h2 (ltS h2)with h5|h5;exact h5;have:=hdag j (ltS h2) i h5;omega
 rw[JN,Qfl hnd hj h2 h3];refine⟨z,?_,h3⟩;have hn:lk (JO ops fx (QM ops i)) t=none:=Q6r λj y hd hf=>by rcases P2 j i with h5|h5;exact h1 j h5 hd;rw[h.nd j h5]at hf;cases hf
 rw[JN,hn];refine Qy6 ?_ h2;unfold Q9t;rw[Pt];intro j hj;cases hd:Jz ops j with|none=>simp|some d=>dsimp only;cases hbq:Nat.beq d t with|false=>simp|true=>have e:=Cc hbq;subst e;rw[C5];(have hj':j<ops.size:=by simpa using hj);rcases Quv hb' hd hj' with h5|h5;exact(h1 j (hdag i hi j h5) hd).elim;simpa using h5
theorem DI.deps(h:DI D ops st0 fx i st)(hdag:∀i,i<ops.size->∀k∈QM ops i,k<i)(hnd:(JG ops).Nodup)(hi:i<ops.size):StW (QI ops st0 fx i (st.er D).mem) ((GB ops i st).er D):=by refine⟨λt y hy=>?_,λj B hB=>⟨B,hB,λ_ _ _ h=>h⟩,λj T hT=>hT,Z,h.nt,h.df⟩;have hy':lk (QW (TTV.er D st.m.tk) (st.tm.filter λp=>!((Q79 ops i).contains p.1))) t=some y:=hy;rw[QY]at hy';cases hz:lk (st.tm.filter λp=>!((Q79 ops i).contains p.1)) t with|none=>rw[hz]at hy';cases hy'|some x=>rw[hz]at hy';cases hy';obtain⟨hb,hx⟩:=Qc3 (p:=λt=>!((Q79 ops i).contains t)) hz;obtain⟨z,h1,h2⟩:=h.look hdag hnd hi (by simpa using hb) hx;exact .inr ⟨z,h1,h2.1⟩
theorem DI.end(h:DI D ops st0 fx ops.size st)(hnd:(JG ops).Nodup):StW (Q3g ops st0 fx (st.er D).mem) (st.er D):=by refine⟨λt y hy=>?_,λj B hB=>⟨B,hB,λ_ _ _ h=>h⟩,λj T hT=>hT,Z,h.nt,h.df⟩;have hy':lk (QW (TTV.er D st.m.tk) st.tm) t=some y:=hy;rw[QY]at hy';cases hz:lk st.tm t with|none=>rw[hz]at hy';cases hy'|some x=>rw[hz]at hy';cases hy';refine .inr ?_;show ∃z,lk (JO ops fx (List.range ops.size)++Ud (JG ops) st0.tm) t=some z/\_;rcases h.tm t x hz with⟨j,z,h1,h2,h3,h4⟩|⟨h1,z,h2,h3⟩;refine⟨z,?_,h4.1⟩;rw[JN,Qfl hnd (by simpa using h1) h2 h3];refine⟨z,?_,h3.1⟩;(have hn:lk (JO ops fx (List.range ops.size)) t=none:=Q6r λj y hd hf=>by rcases P2 j ops.size with h5|h5;exact h1 j h5 hd;rw[h.nd j h5]at hf;cases hf);rw[JN,hn];refine Qch (p:=λt=>!((JG ops).contains t)) ?_ h2;show(!((JG ops).contains t))=true;cases hc:(JG ops).contains t with|false=>rfl|true=>(have:t∈JG ops:=by simpa using hc);obtain⟨j,hj,hd⟩:=Ph.1 this;exact(h1 j (by simpa using hj) hd).elim
theorem DI.step(h:DI D ops st0 fx i st){o:Oper}(ho:ops[i]?=some o){x:TTV U}{m':TMe U}{y:TV}(hy:y=x.er D m'.tk)(hst:∀t z,lk st.tm t=some z->∀V w v,(z.er D st.m.tk).rel V w v->(z.er D m'.tk).rel V w v):DI D ops st0 ((i,y)::fx) (i+1) ⟨UP o.dst x st.tm,m',st.nt,st.df⟩:=by
 have hfx:∀{j z},j<i->lk fx j=some z->lk ((i,y)::fx) j=some z:=λ{j z} hj hz=>by rw[Q8,Ca (by omega)];exact hz
 refine⟨λj hj=>?_,λj hj=>?_,λt z hz=>?_,h.nt,h.df⟩;by_cases e:i=j;subst e;exact⟨y,by rw[Q8,Cf rfl]⟩;obtain⟨z,hz⟩:=h.dn j (by omega);exact⟨z,hfx (by omega) hz⟩;rw[Q8,Ca (by omega)];exact h.nd j (by omega);have hdo:Jz ops i=o.dst:=by simp[Jz,ho]
 have hz':lk (UP o.dst x st.tm) t=some z:=hz;have old:Jz ops i≠some t->lk st.tm t=some z->(∃j y',j<i+1/\Jz ops j=some t/\lk ((i,y)::fx) j=some y'/\GW y' (z.er D m'.tk))\/((∀j,j<i+1->Jz ops j≠some t)/\∃y',lk st0.tm t=some y'/\GW y' (z.er D m'.tk)):=λhne hz=>by have comp:∀{y'},GW y' (z.er D st.m.tk)->GW y' (z.er D m'.tk):=λ{y'} h4=>⟨λV w v hv=>hst t z hz V w v (h4.1 V w v hv),λhg=>by have e:=Jbo (tk:=st.m.tk) hg;rw[<-e]at hg⊢;exact h4.2 hg⟩;rcases h.tm t z hz with⟨j,y',h1,h2,h3,h4⟩|⟨h1,y',h2,h3⟩;exact .inl ⟨j,y',by omega,h2,hfx h1 h3,comp h4⟩;refine .inr ⟨λj hj e=>?_,y',h2,comp h3⟩;by_cases e2:j=i;subst e2;exact hne e;exact h1 j (by omega) e
 cases hd:o.dst with|none=>rw[hd]at hz';exact old (by rw[hdo,hd];intro e;cases e) hz'|some d=>rw[hd]at hz';have hz2:lk ((d,x)::st.tm) t=some z:=hz';rw[Q8]at hz2;split at hz2;rename_i e;cases hz2;subst e;exact .inl ⟨i,y,by omega,by rw[hdo,hd],by rw[Q8,Cf rfl],by rw[hy];exact⟨λ_ _ _ h=>h,λ_=>rfl⟩⟩;rename_i e;exact old (by rw[hdo,hd];intro e';cases e';exact e rfl) hz2
theorem DI.setB(h:DI D ops st0 fx i st){d:Nat}{c b:Bool}(hc:lk st.tm d=some (.v (.one (.c (.v (.bool c))))))(e:c=b):DI D ops st0 fx i (setB st d b):=by subst e;refine⟨h.dn,h.nd,λt x hx=>?_,h.nt,h.df⟩;have hx':lk ((d,Je4 c)::st.tm) t=some x:=hx;rw[Q8]at hx';split at hx';rename_i e;subst e;cases hx';exact h.tm _ _ hc;exact h.tm t x hx'
end
section
def RdR.has:RdR U->TTV U->Prop|.val x,y=>y=x|.grd g x,y=>g=true/\y=x|.ix oo f,y=>∃a,oo=some a/\y=f a
def EfR.has:EfR U->OR U->Prop|.val x,y=>y=x|.grd g x,y=>g=true/\y=x|.ix oo f,y=>∃a,oo=some a/\y=f a
theorem Qgf{r:RdR U}{β:Type}{k:TTV U->Option β}{v:β}(hk:r.run k=some v):∃x,k x=some v/\r.has x:=by cases r with|val x=>exact⟨x,hk,rfl⟩|grd g x=>(obtain⟨h1,h2⟩:=Gw hk;exact⟨x,h2,h1,rfl⟩)|ix oo f=>obtain⟨a,h1,h2⟩:=Zt hk;exact⟨f a,h2,a,h1,rfl⟩
theorem Qgn{r:EfR U}{β:Type}{k:OR U->Option β}{v:β}(hk:r.run k=some v):∃x,k x=some v/\r.has x:=by cases r with|val x=>exact⟨x,hk,rfl⟩|grd g x=>(obtain⟨h1,h2⟩:=Gw hk;exact⟨x,h2,h1,rfl⟩)|ix oo f=>obtain⟨a,h1,h2⟩:=Zt hk;exact⟨f a,h2,a,h1,rfl⟩
theorem RdOK.has{E:Env}{o:Oper}{st:TSt U}{r:RdR U}(h:RdOK D E o st r){x:TTV U}(hx:r.has x):RO E o (st.er D) (x.er D st.m.tk):=by cases r with|val y=>cases hx;exact h|grd g y=>(obtain⟨h1,rfl⟩:=hx;exact h h1)|ix oo f=>obtain⟨a,h1,rfl⟩:=hx;exact h a h1
theorem EfOK.has{E:Env}{o:Oper}{st:TSt U}{r:EfR U}(h:EfOK D E o st r){x:OR U}(hx:r.has x):OROK D E o st x:=by cases r with|val y=>cases hx;exact h|grd g y=>(obtain⟨h1,rfl⟩:=hx;exact h h1)|ix oo f=>obtain⟨a,h1,rfl⟩:=hx;exact h a h1
def AnyB(E:Env)(ops:Array Oper)(st0:St)(effs:List Nat)(fx:List (Nat×TV))(i:Nat)(M:Mem):Prop:=∃o x,ops[i]?=some o/\lk fx i=some x/\ZH st0 o.dst=true/\effs.contains i=false/\((QQ ops (QI ops st0 fx i M).tm o=some true/\OpOK E o (QI ops st0 fx i M) x M)\/(QQ ops (QI ops st0 fx i M).tm o=some false/\x=.tup []))
theorem KE{ops:Array Oper}{fx fx':List (Nat×TV)}{js:List Nat}(h:∀j∈js,lk fx' j=lk fx j):JO ops fx' js=JO ops fx js:=by induction js with|nil=>rfl|cons a js ih=>have h1:=h a (Cj ..);have h2:=ih λj hj=>h j (Ck _ hj);simp only[JO,Pw]at h2⊢;rw[h1,h2]
theorem AnyB.ext{E:Env}{ops:Array Oper}{st0:St}{effs:List Nat}{fx fx':List (Nat×TV)}{i:Nat}{M:Mem}(hdag:∀k∈QM ops i,k<i)(h:AnyB E ops st0 effs fx i M)(hf:∀j,j<=i->lk fx' j=lk fx j):AnyB E ops st0 effs fx' i M:=by
 obtain⟨o,x,h1,h2,h3,h4,h5⟩:=h;have e:QI ops st0 fx' i M=QI ops st0 fx i M:=by unfold QI;rw[KE λj hj=>hf j (Nat.le_of_lt (hdag j hj))]
 exact⟨o,x,h1,(hf i (Cl _)).trans h2,h3,h4,by rw[e];exact h5⟩
def Qnm(D:Codec U)(W:Wd)(P:Program)(ops:Array Oper)(effs:List Nat)(st0:St)(i:Nat)(m:TMe U)(c:Bool->TMe U->Bool)(fx:List (Nat×TV)):Prop:=∀E,E.P=P->W.p E.V0.S E.w0->∀up m',(up=true->SfM m m')->(up=false->SfM m' m)->c up m'=true->AnyB E ops st0 effs fx i (m'.er D)
theorem Qet{tm:List (Nat×TTV U)}{m m':TMe U}{o:Oper}{x:TTV U}{up:Bool}(h1:up=true->SfM m m')(h2:up=false->SfM m' m)(h:Qlh D tm m o x up m'=true):(∀nt df,Qvu D C ⟨tm,m',nt,df⟩ o=Qvu D C ⟨tm,m,nt,df⟩ o)/\x.er D m'.tk=x.er D m.tk/\(∀p∈tm,p.2.er D m'.tk=p.2.er D m.tk)/\J7e tm (cond up (Q83 m.es m'.es) (Q83 m'.es m.es)) o=true:=by unfold Qlh at h;cases up with|true=>(rw[C5]at h;obtain⟨⟨p,hp⟩,⟨q,hq⟩,-⟩:=h1 rfl;rw[hp,hq,Zv,Zv]at h;obtain⟨g1,g23⟩:=C2.1 h;obtain⟨g2,g3⟩:=C2.1 g23;refine⟨λnt df=>Qzx hp g1,by rw[hq];exact UK g2,λz hz=>by rw[hq];exact UK (Ch.1 g3 z hz),?_⟩;rw[C5,hp,Zv];exact g1)|false=>rw[C6]at h;obtain⟨⟨p,hp⟩,⟨q,hq⟩,-⟩:=h2 rfl;rw[hp,hq,Zv,Zv]at h;obtain⟨g1,g23⟩:=C2.1 h;obtain⟨g2,g3⟩:=C2.1 g23;refine⟨λnt df=>(Qzx hp g1).symm,by rw[hq];exact(UK g2).symm,λz hz=>by rw[hq];exact(UK (Ch.1 g3 z hz)).symm,?_⟩;rw[C6,hp,Zv];exact g1
theorem StW.move{ops:Array Oper}{st0:St}{fx:List (Nat×TV)}{i:Nat}{st:TSt U}{m':TMe U}(h:StW (QI ops st0 fx i (st.er D).mem) ((GB ops i st).er D))(ht:∀p∈(GB ops i st).tm,p.2.er D m'.tk=p.2.er D st.m.tk):StW (QI ops st0 fx i (m'.er D)) ((⟨(GB ops i st).tm,m',st.nt,st.df⟩:TSt U).er D):=by refine⟨λt y hy=>?_,λj B hB=>⟨B,hB,λ_ _ _ h=>h⟩,λj T hT=>hT,Z,h.nt,h.df⟩;have hy':lk (QW (TTV.er D m'.tk) (GB ops i st).tm) t=some y:=hy;rw[QY]at hy';cases hz:lk (GB ops i st).tm t with|none=>rw[hz]at hy';cases hy'|some x=>rw[hz]at hy';cases hy';have e:=ht (t,x) (Ym hz);dsimp only at e;rw[e];exact h.tm t _ (by show lk (QW (TTV.er D st.m.tk) (GB ops i st).tm) t=_;rw[QY,hz];rfl)
theorem Qus{E:Env}{W:Wd}(hW:W.p E.V0.S E.w0)(hK:Q2n W D E.P K){st:TSt U}{m':TMe U}{o:Oper}{e:EfR U}{q:OR U}(hc:Qmp o=true)(h:J6u D C K st o=some e)(hq:e.has q){p:List (Ev U)}(hQ:J7e st.tm p o=true):OpOK E o ((⟨st.tm,m',st.nt,st.df⟩:TSt U).er D) (q.x.er D m'.tk) (m'.er D):=by
 obtain⟨dd,op,ty,pos,af,g⟩:=o;cases op with
 |call c=>
  obtain⟨callee,os,ts⟩:=c;cases callee with
  |value x=>
   have h':Qg2 K st x os.toList=some e:=h;have hQ':(match Q3k st.tm os.toList with
    |some vs=>vs.all Qbf
    |none=>false)=true:=hQ
   unfold Qg2 at h';split at h';rename_i f args hx ha;rw[ha]at hQ';split at h';rename_i args' hs;split at h';rename_i kr hk;cases h';obtain⟨a,hoa,rfl⟩:=hq;obtain⟨ys,h1,h2⟩:=hK f args' kr a hk hoa;have hs':Zn m'.tk args=some args':=(Q2t hQ').trans hs;exact D9 (st:=(⟨st.tm,m',st.nt,st.df⟩:TSt U).er D) hW (Z6 (D:=D) (st:=⟨st.tm,m',st.nt,st.df⟩) hx) (h2 m'.tk) (XG (D:=D) (st:=⟨st.tm,m',st.nt,st.df⟩) ha) (GM hs' (h1 m'.tk));cases h';cases h';cases h'
  |_=>cases hc
 |_=>cases hc
end
section
variable{ops:Array Oper}{effs:List Nat}{st0:St}{β:Type}{r:β}
theorem Qa3{P:Program}(hT:C.T.OK P)(hD:D.OK){W:Wd}(hK:Q2n W D P K)(hX:UM W D P X)(hdag:∀i,i<ops.size->∀k∈QM ops i,k<i)(hnd:(JG ops).Nodup){i:Nat}{fx:List (Nat×TV)}{o:Oper}{st:TSt U}{pn:Value->TMe U->Option β}{k:TSt U->(Bool->TMe U->Bool)->Option β}(hY:YOK W D P Y st.m)(h:DI D ops st0 fx i st)(ho:ops[i]?=some o)(hw:QQ ops (QI ops st0 fx i (st.er D).mem).tm o=some true)(hr:Ue D C K X Y ops effs i o st pn k=some r):(∃s c,Sfx st s/\k s c=some r/\(effs.contains i=false->s.m=st.m)/\∃y,DI D ops st0 ((i,y)::fx) (i+1) s/\Qnm D W P ops effs st0 i st.m c ((i,y)::fx)/\∀E,E.P=P->W.p E.V0.S E.w0->∀ms rest Dd F,RunA E ops st0 effs Dd F rest ((i,y)::fx) (cond (effs.contains i) ((s.er D).mem::(st.er D).mem::ms) ((s.er D).mem::ms))->RunA E ops st0 effs Dd F (i::rest) fx ((st.er D).mem::ms)) \/ (∃v m,effs.contains i=true/\Yj st o.dst=true/\ZB (Ui m.tk st.m.tk) st.tm=true/\SfM st.m m/\pn v m=some r/\∀E,E.P=P->W.p E.V0.S E.w0->OpD E o ((GB ops i st).er D) v (m.er D)):=by
 have hi:i<ops.size:=(CP.1 ho).1;have hdep:=h.deps hdag hnd hi;have dst0:Yj st o.dst=true->ZH st0 o.dst=true:=λhd=>by cases hdst:o.dst with|none=>rfl|some d=>rw[hdst]at hd;show Nat.blt d st0.nt=true;rw[<-h.nt];exact hd
 have eqd:∀(y:TV)(M:Mem),QI ops st0 ((i,y)::fx) i M=QI ops st0 fx i M:=λy M=>by have e:=KE (ops:=ops) (fx:=fx) (fx':=(i,y)::fx) (js:=QM ops i) (λj hj=>by have:=hdag i hi j hj;rw[Q8,Ca (by omega)]);unfold QI;rw[e]
 have noG:∀fx',Qnm D W P ops effs st0 i st.m (λ_ _=>false) fx':=λfx' E hP hW up m' u1 u2 hc=>by cases hc
 have good:∀(x:TTV U)(m':TMe U)(E:Env),Yj st o.dst=true->effs.contains i=false->x.er D m'.tk=x.er D st.m.tk->OpOK E o (QI ops st0 fx i (m'.er D)) (x.er D m'.tk) (m'.er D)->AnyB E ops st0 effs ((i,x.er D st.m.tk)::fx) i (m'.er D):=λx m' E hd he g2 hop=>by refine⟨o,x.er D st.m.tk,ho,by rw[Q8,Cf rfl],dst0 hd,he,.inl ⟨?_,?_⟩⟩;rw[eqd];exact hw;rw[eqd,<-g2];exact hop
 unfold Ue at hr;split at hr;rename_i rd hrd;cases hd:(Yj st o.dst&&!(effs.contains i))with|false=>rw[hd]at hr;cases hr|true=>rw[hd,C5]at hr;obtain⟨hd1,hd2⟩:=C2.1 hd;(have he:effs.contains i=false:=by simpa using hd2);obtain⟨x,h1,h2⟩:=Qgf hr;have hop:∀E:Env,E.P=P->OpOK E o (QI ops st0 fx i (st.er D).mem) (x.er D st.m.tk) (st.er D).mem:=λE hP=>Un hdep (Q9 ((Qh5 (E:=E) (D:=D) (hP.symm▸hT) hD hrd).has h2));refine .inl ⟨⟨UP o.dst x st.tm,st.m,st.nt,st.df⟩,_,Sfx.put st o.dst x,h1,λ_=>rfl,_,h.step ho (m':=st.m) rfl (λt z hz V w v hv=>hv),λE hP hW up m' u1 u2 hc=>?_,λE hP hW ms rest Dd F hk=>RunA.rd ho he hw (hop E hP) (dst0 hd1) (by first|exact hk|(rw[he]at hk;exact hk))⟩;obtain⟨g1,g2,g3,-⟩:=Qet u1 u2 hc;have hrd':Qvu D C ⟨(GB ops i st).tm,m',st.nt,st.df⟩ o=some rd:=(g1 _ _).trans hrd;exact good x m' E hd1 he g2 (Un (StW.move hdep g3) (Q9 ((Qh5 (E:=E) (D:=D) (hP.symm▸hT) hD hrd').has h2)))
 split at hr;rename_i e he0;obtain⟨q,h1,hhas⟩:=Qgn hr;have h2':∀E,EfOK D E o (GB ops i st) e->OROK D E o (GB ops i st) q:=λE he=>he.has hhas;cases hc:(Q5u st (q.es++st.m.es) q.tk&&Yj st o.dst&&Nat.ble st.m.nx q.nx)with
 |false=>rw[hc]at h1;cases h1
 |true=>
  rw[hc,C5]at h1;obtain⟨b12,b3⟩:=C2.1 hc;obtain⟨b1,b2⟩:=C2.1 b12;have hst:∀t z,lk st.tm t=some z->∀V w v,(z.er D st.m.tk).rel V w v->(z.er D (Zu q.tk st.m.tk)).rel V w v:=λt z hz V w v hv=>by cases htk:q.tk with|none=>exact hv|some p=>obtain⟨j,T⟩:=p;rw[htk]at b1;have h1:=(C2.1 b1).1;(have h2:st.tm.any (λp=>p.2.hasApp j T.ver)=false:=by simpa using h1);exact Kq (DM λhp=>Pt.1 h2 (t,z) (Ym hz) hp) hv
  have b1':Q5u (GB ops i st) (q.es++(GB ops i st).m.es) q.tk=true:=by cases htk:q.tk with|none=>rfl|some p=>obtain⟨j,T⟩:=p;rw[htk]at b1;obtain⟨h1,h3⟩:=C2.1 b1;refine C2.2 ⟨?_,h3⟩;(have h2:st.tm.any (λp=>p.2.hasApp j T.ver)=false:=by simpa using h1);have:(GB ops i st).tm.any (λp=>p.2.hasApp j T.ver)=false:=Pt.2 λp hp=>Pt.1 h2 p (PT.1 hp).1;rw[this];rfl
  have hop0:∀E:Env,E.P=P->W.p E.V0.S E.w0->OpOK E o (QI ops st0 fx i (st.er D).mem) (q.x.er D (Zu q.tk st.m.tk)) ⟨Qq D (Zu q.tk st.m.tk) (q.es++st.m.es),WB (Zu q.tk st.m.tk),q.nx⟩:=λE hP hW=>by obtain⟨hp,tkx,h4,h5,h6⟩:=h2' E (Qr2 (D:=D) (hP.symm▸hT) hD hW (hP.symm▸hK) he0);have hWk:=Q90 (D:=D) (st:=GB ops i st) (dst:=none) (r:=q) h5 h6 b1';exact Un hdep (Q2m (m:=⟨hp,tkx,q.nx⟩) hWk.hp hWk.tk Z h4)
  cases he:effs.contains i with|true=>rw[he,C5]at h1;have hsf:Sfx st (Q91 st o.dst q):=Sfx.next st o.dst q (C9 b3);exact .inl ⟨_,_,hsf,h1,(λh0=>by first|cases h0|(rw[he]at h0;cases h0)),_,h.step ho (m':=⟨q.es++st.m.es,Zu q.tk st.m.tk,q.nx⟩) rfl hst,noG _,λE hP hW ms rest Dd F hk=>RunA.eff ho he hw (hop0 E hP hW) (dst0 b2) (by first|exact hk|(rw[he]at hk;exact hk))⟩|false=>rw[he,C6]at h1;split at h1;rename_i e1 e2;(cases hn:Nat.beq q.nx st.m.nx with|false=>rw[hn]at h1;cases h1|true=>rw[hn,C5]at h1;have e3:=Cc hn;have hop:=hop0;rw[e1,e2,e3]at hop;refine .inl ⟨⟨UP o.dst q.x st.tm,st.m,st.nt,st.df⟩,_,Sfx.put st o.dst q.x,h1,λ_=>rfl,_,h.step ho (m':=st.m) rfl (λt z hz V w v hv=>hv),λE hP hW up m' u1 u2 hc=>?_,λE hP hW ms rest Dd F hk=>RunA.rd ho he hw (hop E hP hW) (dst0 b2) (by first|exact hk|(rw[he]at hk;exact hk))⟩;obtain⟨c1,c2⟩:=C2.1 hc;obtain⟨-,g2,g3,g4⟩:=Qet (C:=C) u1 u2 c2;exact good q.x m' E b2 he g2 (Un (StW.move hdep g3) (Qus (st:=GB ops i st) hW (hP.symm▸hK) c1 he0 hhas g4)));cases h1
 split at hr;rename_i xo hxo;cases hc:(Yj st o.dst&&effs.contains i)with
 |false=>rw[hc]at hr;cases hr
 |true=>
  rw[hc,C5]at hr;obtain⟨b1,he⟩:=C2.1 hc;obtain⟨q,q1,q2,h2⟩:=Qg1 (st:=GB ops i st) hX hY hxo _ _ _ hr;cases q with
  |die v m=>dsimp only[OutT.to]at h2;cases b2:ZB (Ui m.tk st.m.tk) st.tm with|false=>rw[b2]at h2;cases h2|true=>rw[b2,C5]at h2;exact .inr ⟨v,m,he,b1,b2,q2,h2,λE hP hW=>q1 E hP hW⟩
  |val x m=>
  dsimp only[OutT.to]at h2;cases b2:ZB (Ui m.tk st.m.tk) st.tm with
  |false=>rw[b2]at h2;cases h2
  |true=>
  rw[b2,C5]at h2;refine .inl ⟨⟨UP o.dst x st.tm,m,st.nt,st.df⟩,_,⟨?_,q2.es,q2.tk,q2.nx,rfl,.inr rfl⟩,h2,(λh0=>by first|cases h0|(rw[he]at h0;cases h0)),_,h.step ho (m':=m) rfl (λt z hz V w v hv=>XI b2 q2.tk hz V w v hv),noG _,λE hP hW ms rest Dd F hk=>RunA.eff ho he hw (Un hdep (q1 E hP hW)) (dst0 b1) (by first|exact hk|(rw[he]at hk;exact hk))⟩;cases o.dst with|none=>exact⟨[],rfl⟩|some d=>exact⟨[(d,x)],rfl⟩
 cases hr
theorem Qj1(effs:List Nat)(i:Nat):Gv effs (i+1)=Gv effs i+cond (effs.contains i) 1 0:=by unfold Gv;rw[show List.range' 0 (i+1)=List.range' 0 i++[i] by rw[List.range'_1_concat,Pd]];rw[List.filter_append,C8];cases hc:effs.contains i with|true=>rw[List.filter_cons_of_pos hc];rfl|false=>rw[List.filter_cons_of_neg (by rw[hc];exact Cp)];rfl
structure SI(D:Codec U)(W:Wd)(P:Program)(ops:Array Oper)(effs:List Nat)(st0:St)(fx:List (Nat×TV))(i:Nat)(m:TMe U)(ms:List (TMe U))(acc:List (Nat×(Bool->TMe U->Bool))):Prop where
 ac:∀j c,lk acc j=some c->j<i/\∃m',(m::ms).reverse[Gv effs j]?=some m'/\Qnm D W P ops effs st0 j m' c fx
 ch:∀(a b:Nat)(ma mb:TMe U),a<=b->(m::ms).reverse[a]?=some ma->(m::ms).reverse[b]?=some mb->SfM ma mb
 ln:ms.length=Gv effs i
theorem SI.step{W:Wd}{P:Program}{fx:List (Nat×TV)}{i:Nat}{m m':TMe U}{ms:List (TMe U)}{acc:List (Nat×(Bool->TMe U->Bool))}(h:SI D W P ops effs st0 fx i m ms acc)(hdag:∀i,i<ops.size->∀k∈QM ops i,k<i)(hi:i<ops.size){y:TV}{c:Bool->TMe U->Bool}(hm:effs.contains i=false->m'=m)(hs:SfM m m')(hc:Qnm D W P ops effs st0 i m c ((i,y)::fx)):SI D W P ops effs st0 ((i,y)::fx) (i+1) m' (cond (effs.contains i) (m::ms) ms) ((i,c)::acc):=by
 have get:∀(k:Nat)(z:TMe U),(m::ms).reverse[k]?=some z->(m'::cond (effs.contains i) (m::ms) ms).reverse[k]?=some z:=λk z hz=>by cases he:effs.contains i with|true=>rw[C5,PX,CG (Ce.1 hz).1];exact hz|false=>rw[C6,hm he];exact hz
 have len:∀(k:Nat)(z:TMe U),(m'::cond (effs.contains i) (m::ms) ms).reverse[k]?=some z->(m::ms).reverse[k]?=some z\/(z=m'/\ms.length<=k):=λk z hz=>by cases he:effs.contains i with|true=>rw[he,C5,PX]at hz;by_cases hk:k<(m::ms).reverse.length;rw[CG hk]at hz;exact .inl hz;rw[CQ (by omega)]at hz;have h1:=(Ce.1 hz).1;have h2:k-(m::ms).reverse.length<1:=h1;(have:k-(m::ms).reverse.length=0:=by omega);rw[this]at hz;cases hz;refine .inr ⟨Z,?_⟩;rw[Px,C1]at hk;omega|false=>rw[he,C6,hm he]at hz;exact .inl hz
 have last:(m::ms).reverse[ms.length]?=some m:=by rw[PX,CQ (by rw[Px];exact Cl _),Px,PD];rfl
 have all_m:∀(k:Nat)(z:TMe U),(m::ms).reverse[k]?=some z->SfM z m:=λk z hz=>by have hk:k<(m::ms).reverse.length:=(Ce.1 hz).1;rw[Px,C1]at hk;exact h.ch k ms.length z m (by omega) hz last
 refine⟨λj d hj=>?_,λa b ma mb hab ha hb=>?_,?_⟩;rw[Q8]at hj;split at hj;rename_i e;subst e;cases hj;exact⟨Cv _,m,get _ _ (by rw[<-h.ln];exact last),hc⟩;obtain⟨h1,z,h2,h3⟩:=h.ac j d hj;refine⟨by omega,z,get _ _ h2,λE hP hW up m2 u1 u2 hq=>(h3 E hP hW up m2 u1 u2 hq).ext (hdag j (by omega)) λk hk=>?_⟩;rw[Q8,Ca (by omega)];rcases len a ma ha with ha'|⟨ea,la⟩;rcases len b mb hb with hb'|⟨eb,-⟩;exact h.ch a b ma mb hab ha' hb';rw[eb];exact(all_m a ma ha').trans hs;rcases len b mb hb with hb'|⟨eb,-⟩;have hk:b<(m::ms).reverse.length:=(Ce.1 hb').1;rw[Px,C1]at hk;have:b=ms.length:=by omega
 subst this;rw[last]at hb';cases hb';have:a=ms.length:=by omega
 subst this;rcases hE:effs.contains i with _|_;rw[ea,hm hE];exact SfM.refl _;rw[hE,C5,PX,CG (by rw[Px,C1];omega),last]at ha;cases ha;exact SfM.refl _;rw[ea,eb];exact SfM.refl _;rw[Qj1];cases he:effs.contains i with|true=>rw[C5,C5,C1,h.ln]|false=>rw[C6,C6,h.ln];rfl
theorem Qgq{E:Env}{st:St}{fx:List (Nat×TV)}{ms:List Mem}:∀{l:List (Nat×Nat)},(∀p∈l,∃m,ms[p.2]?=some m/\Qnn E ops st fx effs ms p.1 p.2 m)->AllEx E ops st effs fx ms l|[],_=>trivial|(i,j)::l,h=>⟨h (i,j) (Cj ..),Qgq λp hp=>h p (Ck _ hp)⟩
theorem SI.all{W:Wd}{P:Program}{fx:List (Nat×TV)}{n:Nat}{m:TMe U}{ms:List (TMe U)}{acc:List (Nat×(Bool->TMe U->Bool))}(h:SI D W P ops effs st0 fx n m ms acc)(hx:Q9y ops effs acc (m::ms).reverse=true){E:Env}(hP:E.P=P)(hW:W.p E.V0.S E.w0):AllEx E ops st0 effs fx ((m::ms).map (TMe.er D)).reverse (Qj8 ops effs):=by
 refine Qgq λp hp=>?_;obtain⟨i,hi,h1⟩:=Pg.1 hp;obtain⟨j,hj,rfl⟩:=Cx.1 h1;obtain⟨hj1,hj2⟩:=PT.1 hj;obtain⟨hm,hn⟩:=C2.1 hj2;have hq:=Ch.1 (Ch.1 hx i hi) j hj1;rw[hm]at hq;have hn':Nat.beq j (Gv effs i)=false:=by simpa using hn
 rw[hn']at hq;have hq':(match lk acc i,(m::ms).reverse[j]? with
  |some c,some m=>c (Nat.blt (Gv effs i) j) m
  |_,_=>false)=true:=by simpa using hq
 split at hq';rename_i c m' hc hm';obtain⟨-,mh,g1,g2⟩:=h.ac i c hc;have key:=g2 E hP hW (Nat.blt (Gv effs i) j) m' (λhb=>h.ch _ _ _ _ (by have:=C9 hb;omega) g1 hm') (λhb=>h.ch _ _ _ _ (by rcases P2 (Gv effs i) j with h5|h5;have:Nat.blt (Gv effs i) j=true:=C7 h5;rw[this]at hb;cases hb;exact h5) hm' g1) hq';refine⟨m'.er D,by rw[<-List.map_reverse,Cn,hm'];rfl,?_⟩;obtain⟨o,x,k1,k2,k3,k4,k5⟩:=key;refine⟨o,x,k1,k2,k3,?_⟩;rcases k5 with⟨k6,k7⟩|⟨k6,k7⟩;exact .inl ⟨k6,_,k7,by rw[k4];exact Ca Cp▸rfl⟩;exact .inr ⟨k6,k7,λh=>by rw[k4]at h;cases h⟩;cases hq'
theorem Qto{m:TMe U}(h:Q38 m=true){E:Env}{V:Vu}{st:St}{a:Act}{w:World}(hm:st.mem=m.er D)(hr:Rel E V st a w):False:=by obtain⟨es,tk,nx⟩:=m;unfold Q38 at h;split at h;rename_i n es' he;dsimp only at he h;subst he;have e1:st.hp=(n,.obj (.deferred none))::Qq D tk es':=congrArg Mem.hp hm;have e2:st.nx=nx:=congrArg Mem.nx hm;have h1:=(hr.h.own n (.obj (.deferred none)) (by rw[e1,Q8,Cf rfl])).1;have h2:V.nx=st.nx:=hr.nx;have h3:=C9 h;omega;cases h
theorem Qff(m:TMe U):Q38 (Qfg m)=true:=C7 (Cl _)
theorem Qyz(m:TMe U):SfM m (Qfg m):=⟨⟨[_],rfl⟩,⟨[],rfl⟩,Cl _⟩
theorem Qn6{P:Program}{W:Wd}(hdag:∀i,i<ops.size->∀k∈QM ops i,k<i){m:TMe U}(hm:Q38 m=true):∀(rest:List Oper){i:Nat}{fx:List (Nat×TV)}{ms:List (TMe U)}{acc:List (Nat×(Bool->TMe U->Bool))},(∀j o,rest[j]?=some o->ops[i+j]?=some o/\o.guard=none/\ZH st0 o.dst=true)->i+rest.length=ops.size->SI D W P ops effs st0 fx i m ms acc -> ∃fx',SI D W P ops effs st0 fx' ops.size m (Qfu effs i rest m ms) (Qn7 effs i rest acc)/\∀E,E.P=P->W.p E.V0.S E.w0->∀Dd F,F fx' ((m::Qfu effs i rest m ms).map (TMe.er D))->RunA E ops st0 effs Dd F (List.range' i rest.length) fx ((m::ms).map (TMe.er D))
 |[],i,fx,ms,acc,hl,hs,hS=>⟨fx,by rw[<-hs];exact hS,λE hP hW Dd F hk=>RunA.nil hk⟩
 |o::os,i,fx,ms,acc,hl,hs,hS=>by
  obtain⟨ho,hg,hd⟩:=hl 0 o rfl;have hi:i<ops.size:=(CP.1 ho).1;have hl':∀j o',os[j]?=some o'->ops[i+1+j]?=some o'/\o'.guard=none/\ZH st0 o'.dst=true:=λj o' hj=>by have:=hl (j+1) o' (by simpa using hj);rw[show i+1+j=i+(j+1) by omega];exact this
  have hs':i+1+os.length=ops.size:=by rw[<-hs,C1];omega
  have hw:∀tm:List (Nat×TV),QQ ops tm o=some true:=λtm=>by unfold QQ;rw[hg]
  have hv:∀(E:Env)(fx':List (Nat×TV))(m':TMe U),Q38 m'=true->OpOK E o (QI ops st0 fx' i (m'.er D)) .unk (m'.er D):=λE fx' m' hm' V a w hr=>(Qto (D:=D) hm' rfl hr).elim;have hS':=hS.step (m':=m) (y:=.unk) (c:=λ_ m'=>!(effs.contains i)&&Q38 m') hdag hi (λ_=>rfl) (SfM.refl m) (λE hP hW up m' u1 u2 hc=>by obtain⟨c1,c2⟩:=C2.1 hc;exact⟨o,.unk,ho,by rw[Q8,Cf rfl],hd,by simpa using c1,.inl ⟨hw _,hv E _ m' c2⟩⟩);obtain⟨fx',h1,h2⟩:=Qn6 hdag hm os hl' hs' hS';refine⟨fx',h1,λE hP hW Dd F hk=>?_⟩;have key:=h2 E hP hW Dd F hk;cases he:effs.contains i with|true=>rw[he]at key;exact RunA.eff ho he (hw _) (hv E _ m hm) hd key|false=>rw[he]at key;exact RunA.rd ho he (hw _) (hv E _ m hm) hd key
def DrawR(D:Codec U)(W:Wd)(P:Program)(ops:Array Oper)(effs:List Nat)(st0:St)(i n:Nat)(fx:List (Nat×TV))(st:TSt U)(ms:List (TMe U))(p:Value->TSt U->Option β)(k:TSt U->Option β)(r:β):Prop:=
 (∃s,Sfx st s/\k s=some r/\∃fx' msF,DI D ops st0 fx' ops.size s/\(∀E,E.P=P->W.p E.V0.S E.w0->AllEx E ops st0 effs fx' ((s.m::msF).map (TMe.er D)).reverse (Qj8 ops effs))/\∀E,E.P=P->W.p E.V0.S E.w0->∀Q F,F fx' ((s.m::msF).map (TMe.er D))->RunA E ops st0 effs (DieOp E Q ops st0) F (List.range' i n) fx ((st.m::ms).map (TMe.er D))) \/
 (∃v s,Sfx st s/\p v s=some r/\∃fx' mF msF,Q38 mF=true/\(∀E,E.P=P->W.p E.V0.S E.w0->AllEx E ops st0 effs fx' ((mF::msF).map (TMe.er D)).reverse (Qj8 ops effs))/\∀E,E.P=P->W.p E.V0.S E.w0->∀Q F,XQ E Q (.panic (Kz v)) (s.er D)->F fx' ((mF::msF).map (TMe.er D))->RunA E ops st0 effs (DieOp E Q ops st0) F (List.range' i n) fx ((st.m::ms).map (TMe.er D)))
theorem DrawR.step{P:Program}{W:Wd}{i n:Nat}{y:TV}{fx:List (Nat×TV)}{st s1:TSt U}{ms ms1:List (TMe U)}{p:Value->TSt U->Option β}{k:TSt U->Option β}(hsf:Sfx st s1)(h:DrawR D W P ops effs st0 (i+1) n ((i,y)::fx) s1 ms1 p k r)(hrun:∀E,E.P=P->W.p E.V0.S E.w0->∀Dd F,RunA E ops st0 effs Dd F (List.range' (i+1) n) ((i,y)::fx) ((s1.m::ms1).map (TMe.er D))->RunA E ops st0 effs Dd F (i::List.range' (i+1) n) fx ((st.m::ms).map (TMe.er D))):DrawR D W P ops effs st0 i (n+1) fx st ms p k r:=by rcases h with⟨s,q1,q2,fx',msF,q3,qx,q4⟩|⟨v,s,q1,q2,fx',mF,msF,q3,qx,q4⟩;exact .inl ⟨s,hsf.trans q1,q2,fx',msF,q3,qx,λE hP hW Q F hk=>hrun E hP hW _ F (q4 E hP hW Q F hk)⟩;exact .inr ⟨v,s,hsf.trans q1,q2,fx',mF,msF,q3,qx,λE hP hW Q F hq hk=>hrun E hP hW _ F (q4 E hP hW Q F hq hk)⟩
theorem Jbr{fx:List (Nat×TV)}{i:Nat}{st:TSt U}{m:TMe U}(hap:ZB (Ui m.tk st.m.tk) st.tm=true)(htk:∃p,m.tk=p++st.m.tk)(h:DI D ops st0 fx i st)(hdag:∀i,i<ops.size->∀k∈QM ops i,k<i)(hnd:(JG ops).Nodup)(hi:i<ops.size){M:Mem}:StW ⟨(QI ops st0 fx i M).tm,(m.er D).hp,(m.er D).tk,(m.er D).nx,st0.nt,st0.df⟩ ((⟨((JG ops).map λd=>(d,TTV.unk))++st.tm,m,st.nt,st.df⟩:TSt U).er D):=by
 refine⟨λt y hy=>?_,λj B hB=>⟨B,hB,λ_ _ _ h=>h⟩,λj T hT=>hT,Z,h.nt.symm▸Z,h.df.symm▸Z⟩;have hy':lk (QW (TTV.er D m.tk) (((JG ops).map λd=>(d,TTV.unk))++st.tm)) t=some y:=hy;rw[QY,JN]at hy';by_cases hd:t∈JG ops;obtain hq:lk ((JG ops).map λd=>(d,(TTV.unk:TTV U))) t=some .unk:=by generalize JG ops=l at hd;induction l with|nil=>cases hd|cons a l ih=>rw[CJ,Q8];by_cases e:a=t;rw[Cf e];rw[Ca e];rcases Cs.1 hd with h1|h1;exact absurd h1.symm e;exact ih h1
 rw[hq]at hy';cases hy';exact .inl Z;have hq:lk ((JG ops).map λd=>(d,(TTV.unk:TTV U))) t=none:=by cases hc:lk ((JG ops).map λd=>(d,(TTV.unk:TTV U))) t with|none=>rfl|some z=>obtain⟨d,hd1,hd2⟩:=Cx.1 (Ym hc);cases hd2;exact absurd hd1 hd
 rw[hq]at hy';cases hz:lk st.tm t with|none=>rw[hz]at hy';cases hy'|some x=>rw[hz]at hy';cases hy';(have hb:(Q79 ops i).contains t=false:=by cases hc:(Q79 ops i).contains t with|false=>rfl|true=>(have h1:t∈Q79 ops i:=by simpa using hc);obtain⟨j,hj,hjd⟩:=Ph.1 h1;refine absurd ?_ hd;refine Ph.2 ⟨j,hj,?_⟩;split at hjd;rename_i d hd1;rw[hd1];(cases hcc:((QM ops i).contains j||(QM ops j).contains i)with|true=>rw[hcc]at hjd;cases hjd|false=>rw[hcc,C6]at hjd;exact hjd);cases hjd);obtain⟨z,h1,h2⟩:=h.look hdag hnd hi hb hz;exact .inr ⟨z,h1,λV w v hv=>XI hap htk hz V w v (h2.1 V w v hv)⟩
theorem Qfq{P:Program}(hT:C.T.OK P)(hD:D.OK){W:Wd}(hK:Q2n W D P K)(hX:UM W D P X)(hdag:∀i,i<ops.size->∀k∈QM ops i,k<i)(hnd:(JG ops).Nodup):∀(rest:List Oper){i:Nat}{fx:List (Nat×TV)}{st:TSt U}{ms:List (TMe U)}{acc:List (Nat×(Bool->TMe U->Bool))}{pn:Value->TSt U->Option β}{k:TSt U->Option β},(∀j o,rest[j]?=some o->ops[i+j]?=some o)->i+rest.length=ops.size->DI D ops st0 fx i st->SI D W P ops effs st0 fx i st.m ms acc->YOK W D P Y st.m->KU D C K X Y ops effs pn i rest st ms acc k=some r -> DrawR D W P ops effs st0 i rest.length fx st ms pn k r
 |[],i,fx,st,ms,acc,pn,k,hl,hs,h,hS,hY,hr=>by have hr':cond (Q9y ops effs acc (st.m::ms).reverse) (k st) none=some r:=hr;cases hx:Q9y ops effs acc (st.m::ms).reverse with|false=>rw[hx]at hr';cases hr'|true=>rw[hx,C5]at hr';exact .inl ⟨st,Sfx.refl st,hr',fx,ms,(by rw[<-hs];exact h),λE hP hW=>hS.all hx hP hW,λE hP hW Q F hk=>RunA.nil hk⟩
 |o::os,i,fx,st,ms,acc,pn,k,hl,hs,h,hS,hY,hr=>by
  have ho:ops[i]?=some o:=hl 0 o rfl;have hi:i<ops.size:=(CP.1 ho).1;have hl':∀j o',os[j]?=some o'->ops[i+1+j]?=some o':=λj o' hj=>by have:=hl (j+1) o' (by simpa using hj);rw[<-this];congr 1;omega
  have hs':i+1+os.length=ops.size:=by rw[<-hs,C1];omega
  have GO:∀(s1:TSt U)(y:TV)(ms1:List (TMe U))(acc1:List (Nat×(Bool->TMe U->Bool))),Sfx st s1->DI D ops st0 ((i,y)::fx) (i+1) s1->SI D W P ops effs st0 ((i,y)::fx) (i+1) s1.m ms1 acc1->KU D C K X Y ops effs pn (i+1) os s1 ms1 acc1 k=some r->(∀E,E.P=P->W.p E.V0.S E.w0->∀Dd F,RunA E ops st0 effs Dd F (List.range' (i+1) os.length) ((i,y)::fx) ((s1.m::ms1).map (TMe.er D))->RunA E ops st0 effs Dd F (i::List.range' (i+1) os.length) fx ((st.m::ms).map (TMe.er D)))->DrawR D W P ops effs st0 i (os.length+1) fx st ms pn k r:=λs1 y ms1 acc1 hsf hdi hsi h' hrun=>by exact DrawR.step hsf (Qfq hT hD hK hX hdag hnd os hl' hs' hdi hsi (hY.mono hsf.sfm) h') hrun
  have dst0:Yj st o.dst=true->ZH st0 o.dst=true:=λhd=>by cases hdst:o.dst with|none=>rfl|some d=>rw[hdst]at hd;show Nat.blt d st0.nt=true;rw[<-h.nt];exact hd
  have eqd:∀M:Mem,QI ops st0 ((i,.unk)::fx) i M=QI ops st0 fx i M:=λM=>by have e:=KE (ops:=ops) (fx:=fx) (fx':=(i,TV.unk)::fx) (js:=QM ops i) (λj hj=>by have:=hdag i hi j hj;rw[Q8,Ca (by omega)]);unfold QI;rw[e]
  have RUN:∀(st1:TSt U),st1.m=st.m->Sfx st st1->DI D ops st0 fx i st1->QQ ops (QI ops st0 fx i (st1.er D).mem).tm o=some true->Ue D C K X Y ops effs i o st1 (Qa6 ops effs i os st1 ms acc pn) (λs c=>KU D C K X Y ops effs pn (i+1) os s (cond (effs.contains i) (st.m::ms) ms) ((i,c)::acc) k)=some r->DrawR D W P ops effs st0 i (os.length+1) fx st ms pn k r:=λst1 hm hsf1 hdi1 hw1 hr1=>by
   rcases Qa3 (st:=st1) hT hD hK hX hdag hnd (by rw[hm];exact hY) hdi1 ho hw1 hr1 with⟨s1,c,q1,q2,qm,y,q3,qg,q4⟩|⟨v,m,he,hd,hap,hsf,hpn,hop⟩
   ·skip
    (have em:(st1.er D).mem=st.m.er D:=by show TMe.er D st1.m=_;rw[hm]);refine GO s1 y _ _ (hsf1.trans q1) q3 (hS.step hdag hi (λhe=>(qm he).trans hm) (by rw[<-hm];exact q1.sfm) (by rw[<-hm];exact qg)) q2 (λE hP hW Dd F hk=>?_);have key:=q4 E hP hW (ms.map (TMe.er D)) (List.range' (i+1) os.length) Dd F;rw[em]at key;refine key ?_;cases he:effs.contains i with|true=>rw[he]at hk;exact hk|false=>rw[he]at hk;exact hk
   unfold Qa6 at hpn;cases hc:(os.all (λo=>o.guard.isNone&&Yj st1 o.dst)&&Q9y ops effs (Qn7 effs (i+1) os ((i,λ_ _=>false)::acc)) (Qfg st1.m::Qfu effs (i+1) os (Qfg st1.m) (st1.m::ms)).reverse)with|false=>rw[hc]at hpn;cases hpn|true=>rw[hc,C5]at hpn;obtain⟨c1,c2⟩:=C2.1 hc;rw[hm]at c2 hsf hap;(have dst1:∀{d:Option Nat},Yj st1 d=true->ZH st0 d=true:=λ{d} hd=>by cases d with|none=>rfl|some d=>show Nat.blt d st0.nt=true;rw[<-hdi1.nt];exact hd);have hS1:=hS.step (m':=Qfg st.m) (y:=.unk) (c:=λ_ _=>false) hdag hi (λh0=>by rw[he]at h0;cases h0) (Qyz st.m) (λE hP hW up m' u1 u2 hc=>by cases hc);rw[he,C5]at hS1;(have hl2:∀j o',os[j]?=some o'->ops[i+1+j]?=some o'/\o'.guard=none/\ZH st0 o'.dst=true:=λj o' hj=>by have h5:=Ch.1 c1 o' (Cr hj);obtain⟨h6,h7⟩:=C2.1 h5;exact⟨hl' j o' hj,Option.isNone_iff_eq_none.1 h6,dst1 h7⟩);obtain⟨fx',g1,g2⟩:=Qn6 (m:=Qfg st.m) hdag (Qff st.m) os hl2 hs' hS1;refine .inr ⟨v,_,⟨?_,hsf.es,hsf.tk,hsf.nx,?_,?_⟩,hpn,fx',_,_,Qff st.m,λE hP hW=>g1.all c2 hP hW,λE hP hW Q F hq hk=>?_⟩;obtain⟨z,hz⟩:=hsf1.tm;exact⟨_++z,by rw[CB,<-hz]⟩;exact hsf1.nt;exact hsf1.df;refine RunA.die ho he (dst1 hd) (DieOp.mk (m':=m.er D) (pv:=v) ho (by rw[eqd];rw[show(st1.er D).mem=st.m.er D from congrArg (TMe.er D) hm]at hw1;exact hw1) (λV a w hr2=>?_) (X4 ?_ hq)) (g2 E hP hW _ F hk);rw[eqd,<-hm]at hr2;exact hop E hP hW V a w (hr2.weak (hdi1.deps hdag hnd hi));rw[eqd];exact Jbr (by rw[hm]at *;exact hap) (by rw[hm];exact hsf.tk) hdi1 hdag hnd hi
  unfold KU at hr;split at hr;rename_i hgd;exact RUN st rfl (Sfx.refl st) h (by unfold QQ;rw[hgd]) hr;rename_i j b hgd;split at hr;cases hr;rename_i d hj;cases hbk:(Q79 ops i).contains d with|true=>rw[hbk]at hr;cases hr|false=>rw[hbk,C6]at hr;(have skip:∀{st':TSt U},DI D ops st0 fx i st'->st'.m=st.m->Sfx st st'->QQ ops (QI ops st0 fx i (st.er D).mem).tm o=some false->cond (Yj st o.dst) (KU D C K X Y ops effs pn (i+1) os (KQ o st') (cond (effs.contains i) (st.m::ms) ms) ((i,λ_ _=>!(effs.contains i))::acc) k) none=some r->DrawR D W P ops effs st0 i (os.length+1) fx st ms pn k r:=by intro st' hdi hm hsf hw hr';cases hd1:Yj st o.dst with|false=>rw[hd1]at hr';cases hr'|true=>rw[hd1,C5]at hr';have hsi:=hS.step (m':=(KQ o st').m) (y:=.tup []) (c:=λ_ _=>!(effs.contains i)) hdag hi (λ_=>hm) (by show SfM st.m st'.m;rw[hm];exact SfM.refl _) (λE hP hW up m' u1 u2 hc=>by(have he:effs.contains i=false:=by simpa using hc);have e:=KE (ops:=ops) (fx:=fx) (fx':=(i,TV.tup [])::fx) (js:=QM ops i) (λj hj=>by have:=hdag i hi j hj;rw[Q8,Ca (by omega)]);(have eqd:∀M:Mem,QI ops st0 ((i,.tup [])::fx) i M=QI ops st0 fx i M:=λM=>by unfold QI;rw[e]);exact⟨o,.tup [],ho,by rw[Q8,Cf rfl],dst0 hd1,he,.inr ⟨by rw[eqd];exact hw,rfl⟩⟩);refine GO (KQ o st') (.tup []) _ _ (hsf.trans (Sfx.put st' o.dst _)) (hdi.step ho (x:=.tup []) (m':=st'.m) (y:=.tup []) Z (λt z hz V w v hv=>hv)) hsi hr' (λE hP hW Dd F hk=>?_);have e:(KQ o st').m=st.m:=hm;rw[e]at hk;cases he:effs.contains i with|true=>rw[he]at hk;exact RunA.noE ho he hw (dst0 hd1) hk|false=>rw[he]at hk;exact RunA.no ho he hw (dst0 hd1) hk);split at hr;rename_i c hc;(have want:∀b',c=b'->QQ ops (QI ops st0 fx i (st.er D).mem).tm o=some (b'==b):=λb' e=>by subst e;obtain⟨y,hy,hyz⟩:=h.look hdag hnd hi hbk hc;have ey:=hyz.2 (.inl ⟨c,rfl⟩);unfold QQ;rw[hgd];dsimp only;rw[hj];dsimp only;rw[hy,ey];rfl);have run:∀b',c=b'->Ue D C K X Y ops effs i o (setB st d b') (Qa6 ops effs i os (setB st d b') ms acc pn) (λs c=>KU D C K X Y ops effs pn (i+1) os s (cond (effs.contains i) (st.m::ms) ms) ((i,c)::acc) k)=some r->(b'==b)=true->_:=λb' e h' e2=>RUN (setB st d b') rfl (DZ st d b') (h.setB hc e) (by rw[<-e2];exact want b' e) h';have skp:∀b',c=b'->cond (Yj st o.dst) (KU D C K X Y ops effs pn (i+1) os (KQ o (setB st d b')) (cond (effs.contains i) (st.m::ms) ms) ((i,λ_ _=>!(effs.contains i))::acc) k) none=some r->(b'==b)=false->_:=λb' e h' e2=>skip (h.setB hc e) rfl (DZ st d b') (by rw[<-e2];exact want b' e) h';(cases hcv:c with|true=>(rw[hcv,C5]at hr;cases b with|true=>exact run true hcv hr rfl|false=>exact skp true hcv hr rfl)|false=>rw[hcv,C6]at hr;cases b with|true=>exact skp false hcv hr rfl|false=>exact run false hcv hr rfl);rename_i hc;refine skip h Z (Sfx.refl st) ?_ hr;obtain⟨y,hy,hyz⟩:=h.look hdag hnd hi hbk hc;have ey:=hyz.2 (.inr rfl);unfold QQ;rw[hgd];dsimp only;rw[hj];dsimp only;rw[hy,ey];rfl;cases hr
theorem Qz4{id:Nat}{st:TSt U}{pn:Value->TSt U->Option β}{k:TSt U->Option β}{P:Program}(hm:P.follows .mixedOrders=true)(hT:C.T.OK P)(hD:D.OK){W:Wd}(hK:Q2n W D P K)(hX:UM W D P X)(hY:YOK W D P Y st.m)(hB:Qfr ops effs=true)(hr:KU D C K X Y ops effs pn 0 ops.toList st [] [] k=some r):(∃s,Sfx st s/\k s=some r/\∀(E:Env)(ro:Option Nat)(n:Nat) Q,E.P=P->W.p E.V0.S E.w0->XQ E Q .normal (s.er D)->XC E ro n Q (.region id ops true) (st.er D)) \/ (∃v s,Sfx st s/\pn v s=some r/\∀(E:Env)(ro:Option Nat)(n:Nat) Q,E.P=P->W.p E.V0.S E.w0->XQ E Q (.panic (Kz v)) (s.er D)->XC E ro n Q (.region id ops true) (st.er D)):=by
 obtain⟨hB12,hB3⟩:=C2.1 hB;obtain⟨hB1,hB2⟩:=C2.1 hB12;have hB':=hB1;simp only[Q7h,CD,CZ]at hB';obtain⟨⟨⟨⟨hdag,hnd⟩,-⟩,-⟩,-⟩:=hB';have hdag':∀i,i<ops.size->∀k∈QM ops i,k<i:=λi hi k hk=>by have:=Ch.1 (Ch.1 hdag i (by simpa using hi)) k hk;simpa using this
 have e:ops.toList.length=ops.size:=by simp
 have R:=Qfq (effs:=effs) (st0:=st.er D) (fx:=[]) hT hD hK hX hdag' hnd ops.toList (i:=0) (st:=st) (ms:=[]) (acc:=[]) (pn:=pn) (k:=k) (r:=r) (λj o hj=>by rw[Pd];simpa using hj) (by rw[Pd];simp) ⟨λj hj=>by omega,λj hj=>rfl,λt x hx=>.inr ⟨λj hj=>by omega,x.er D st.m.tk,by show lk (QW _ st.tm) t=_;rw[QY,hx];rfl,λ_ _ _ h=>h,λ_=>rfl⟩,rfl,rfl⟩ ⟨(λj c hj=>by cases hj),(λa b ma mb hab ha hb=>by have ha1:=(Ce.1 ha).1;have hb1:=(Ce.1 hb).1;(have e1:a=0:=by simpa using ha1);(have e2:b=0:=by simpa using hb1);subst e1;subst e2;rw[ha]at hb;cases hb;exact SfM.refl _),rfl⟩ hY hr;rcases R with⟨s,q1,q2,fx',msF,q3,qx,q4⟩|⟨v,s,q1,q2,fx',mF,msF,q3,qx,q4⟩;refine .inl ⟨s,q1,q2,λE ro n Q hP hW hq=>Ye effs (Qj8 ops effs) (hP.symm▸hm) hB1 hB2 (Cc hB3) ?_⟩;have key:=q4 E hP hW Q (λfx ms=>AllEx E ops (st.er D) effs fx ms.reverse (Qj8 ops effs)/\∃mE r,ms=mE::r/\XQ E Q .normal (Q3g ops (st.er D) fx mE)) ⟨qx E hP hW,_,_,rfl,X4 (q3.end hnd) hq⟩;rw[e]at key;exact key;refine .inr ⟨v,s,q1,q2,λE ro n Q hP hW hq=>Ye effs (Qj8 ops effs) (hP.symm▸hm) hB1 hB2 (Cc hB3) ?_⟩;have key:=q4 E hP hW Q (λfx ms=>AllEx E ops (st.er D) effs fx ms.reverse (Qj8 ops effs)/\∃mE r,ms=mE::r/\XQ E Q .normal (Q3g ops (st.er D) fx mE)) hq ⟨qx E hP hW,_,_,rfl,λV a w hr=>(Qto (D:=D) q3 rfl hr).elim⟩;rw[e]at key;exact key
theorem Qnr{st0:TSt U}{tm:List (Nat×TV)}:StW ⟨tm,(st0.m.er D).hp,(st0.m.er D).tk,(st0.m.er D).nx,st0.nt,st0.df⟩ ((Qh0 st0).er D):=by
 refine⟨λt y hy=>.inl ?_,λi B h=>⟨B,h,λ_ _ _ h=>h⟩,λi T h=>h,Z,Z,Z⟩;have hy':lk (QW (TTV.er D st0.m.tk) ((st0.tm.map λp=>(p.1,TTV.unk))++st0.tm)) t=some y:=hy;rw[QY]at hy';have key:∀(a b:List (Nat×TTV U)),(∀k z,lk b k=some z->∃z',lk a k=some z')->lk ((a.map λp=>(p.1,(TTV.unk:TTV U)))++b) t=none\/lk ((a.map λp=>(p.1,(TTV.unk:TTV U)))++b) t=some .unk:=by intro a b hab;rw[JN];cases hq:lk (a.map λp=>(p.1,(TTV.unk:TTV U))) t with|some z=>(have:lk (QW (λ_:TTV U=>(TTV.unk:TTV U)) a) t=some z:=hq;rw[QY]at this;cases hz:lk a t with|none=>rw[hz]at this;cases this|some u=>rw[hz]at this;cases this;exact .inr rfl)|none=>have h0:lk (QW (λ_:TTV U=>(TTV.unk:TTV U)) a) t=none:=hq;rw[QY]at h0;cases hb:lk b t with|none=>exact .inl rfl|some z=>obtain⟨z',hz'⟩:=hab t z hb;rw[hz']at h0;cases h0
 rcases key st0.tm st0.tm (λk z h=>⟨z,h⟩)with h|h;rw[h]at hy';cases hy';rw[h]at hy';cases hy';rfl
theorem Qn2{P:Program}(hT:C.T.OK P)(hD:D.OK){W:Wd}(hK:Q2n W D P K)(hX:UM W D P X)(hdag:∀i,i<ops.size->∀k∈QM ops i,k<i)(hnd:(JG ops).Nodup){st0:TSt U}(hY:YOK W D P Y st0.m){p:Value->TSt U->Option β}:∀(rest:List Oper){i:Nat}{fx:List (Nat×TV)}{st:TSt U},(∀j o,rest[j]?=some o->ops[i+j]?=some o)->i+rest.length=ops.size->DI D ops (st0.er D) fx i st->st.m=st0.m->Qpi D C K X Y ops effs st0 p i rest st=some r -> ∃v,p v (Qh0 st0)=some r/\∀E,E.P=P->W.p E.V0.S E.w0->∀Q F,XQ E Q (.panic (Kz v)) ((Qh0 st0).er D)->(∀fx m ms,F fx ((⟨[(0,.obj (.deferred none))],[],0⟩:Mem)::m::ms))->∀ms,RunA E ops (st0.er D) effs (DieOp E Q ops (st0.er D)) F (List.range' i rest.length) fx ((st.er D).mem::ms)
 |[],i,fx,st,hl,hs,h,hm,hr=>by cases hr
 |o::os,i,fx,st,hl,hs,h,hm,hr=>by
  have ho:ops[i]?=some o:=hl 0 o rfl;have hi:i<ops.size:=(CP.1 ho).1;have hl':∀j o',os[j]?=some o'->ops[i+1+j]?=some o':=λj o' hj=>by have:=hl (j+1) o' (by simpa using hj);rw[<-this];congr 1;omega
  have hs':i+1+os.length=ops.size:=by rw[<-hs,C1];omega
  unfold Qpi at hr;split at hr;cases hr;rename_i hgd;have hw:∀tm:List (Nat×TV),QQ ops tm o=some true:=λtm=>by unfold QQ;rw[hgd]
  split at hr;cases hc:(effs.contains i&&Yj st o.dst)with|false=>rw[hc]at hr;cases hr|true=>rw[hc,C5]at hr;obtain⟨he,hd⟩:=C2.1 hc;split at hr;rename_i v hv;refine⟨v,hr,λE hP hW Q F hq hF ms=>?_⟩;(have hdd:ZH (st0.er D) o.dst=true:=by cases hdst:o.dst with|none=>rfl|some d=>rw[hdst]at hd;show Nat.blt d st0.nt=true;have:=h.nt;rw[show st0.nt=st.nt from this.symm];exact hd);refine RunA.die ho he hdd (DieOp.mk (m':=(st.er D).mem) (pv:=v) ho (hw _) (λV a w hr2=>?_) ?_) (RunA.nil (hF _ _ _));(have e2:QI ops (st0.er D) ((i,.unk)::fx) i (st.er D).mem=QI ops (st0.er D) fx i (st.er D).mem:=by have e:=KE (ops:=ops) (fx:=fx) (fx':=(i,TV.unk)::fx) (js:=QM ops i) (λj hj=>by have:=hdag i hi j hj;rw[Q8,Ca (by omega)]);unfold QI;rw[e]);rw[e2]at hr2;exact Qla hv V a w (hr2.weak (h.deps hdag hnd hi));refine X4 ?_ hq;(have em:(st.er D).mem=st0.m.er D:=by show TMe.er D st.m=_;rw[hm]);rw[em];exact Qnr;cases hr
  rename_i h1 t1;cases he:effs.contains i with|true=>rw[he]at hr;cases hr|false=>rw[he,C6]at hr;(have hY':YOK W D P Y st.m:=by rw[hm];exact hY);obtain⟨s1,c,q1,q2,qm,y,q3,qg,q4⟩:=(Qa3 (st:=st) hT hD hK hX hdag hnd hY' h ho (hw _) hr).resolve_right (λ⟨v,m,he',_⟩=>by rw[he]at he';cases he');have hm1:=qm he;obtain⟨v,k1,k2⟩:=Qn2 hT hD hK hX hdag hnd hY _ hl' hs' q3 (hm1.trans hm) q2;refine⟨v,k1,λE hP hW Q F hq hF ms=>?_⟩;have key:=q4 E hP hW ms (List.range' (i+1) (h1::t1).length) (DieOp E Q ops (st0.er D)) F;rw[he,C6]at key;exact key (k2 E hP hW Q F hq hF ms)
theorem J5f{id:Nat}{st:TSt U}{p:Value->TSt U->Option β}{P:Program}(hm:P.follows .mixedOrders=true)(hT:C.T.OK P)(hD:D.OK){W:Wd}(hK:Q2n W D P K)(hX:UM W D P X)(hY:YOK W D P Y st.m)(hB:Qfr ops effs=true)(hx:(Qj8 ops effs).isEmpty=true)(hr:Qpi D C K X Y ops effs st p 0 ops.toList st=some r):∃v,p v (Qh0 st)=some r/\∀E ro n Q,E.P=P->W.p E.V0.S E.w0->XQ E Q (.panic (Kz v)) ((Qh0 st).er D)->XC E ro n Q (.region id ops true) (st.er D):=by
 obtain⟨hB12,hB3⟩:=C2.1 hB;obtain⟨hB1,hB2⟩:=C2.1 hB12;have hB':=hB1;simp only[Q7h,CD,CZ]at hB';obtain⟨⟨⟨⟨hdag,hnd⟩,-⟩,-⟩,-⟩:=hB';have hdag':∀i,i<ops.size->∀k∈QM ops i,k<i:=λi hi k hk=>by have:=Ch.1 (Ch.1 hdag i (by simpa using hi)) k hk;simpa using this
 obtain⟨v,q1,q2⟩:=Qn2 (effs:=effs) (fx:=[]) hT hD hK hX hdag' hnd hY ops.toList (i:=0) (st:=st) (λj o hj=>by rw[Pd];simpa using hj) (by rw[Pd];simp) ⟨λj hj=>by omega,λj hj=>rfl,λt x hx=>.inr ⟨λj hj=>by omega,x.er D st.m.tk,by show lk (QW _ st.tm) t=_;rw[QY,hx];rfl,λ_ _ _ h=>h,λ_=>rfl⟩,rfl,rfl⟩ rfl hr;have hex:Qj8 ops effs=[]:=Pr.1 hx;refine⟨v,q1,λE ro n Q hP hW hq=>Ye effs (Qj8 ops effs) (hP.symm▸hm) hB1 hB2 (Cc hB3) ?_⟩;have key:=q2 E hP hW Q (λfx ms=>AllEx E ops (st.er D) effs fx ms.reverse (Qj8 ops effs)/\∃mE r,ms=mE::r/\XQ E Q .normal (Q3g ops (st.er D) fx mE)) hq (λfx m ms=>⟨by rw[hex];trivial,_,_,rfl,J5w⟩) [];have e:ops.toList.length=ops.size:=by simp
 rw[e]at key;exact key
end
end
end
section
open Go.RowKit
section
variable{U:Univ}
variable(U)in
structure LpT where
 s:LoopState
 p:Option Code
 tm:List (Nat×TTV U)
 nt:Nat
 ps:Array Nat
 a:Code
 b:Code
 d:Nat
def LpT.er(D:Codec U)(tk:List (Nat×TTok U))(L:LpT U):HB:=.loop L.s L.p (QW (TTV.er D tk) L.tm) L.nt L.ps L.a L.b L.d
def Do:List (Ev U)->Nat->Option (LpT U)|[],_=>none|.lp j s p tm nt ps a b d::es,i=>cond (Nat.beq j i) (some ⟨s,p,tm,nt,ps,a,b,d⟩) (Do es i)|.ls j xs::es,i=>(match Do es i with|some L=>some (cond (Nat.beq j i) ⟨L.s,L.p,xs++L.tm,L.nt,L.ps,L.a,L.b,L.d⟩ L)|none=>none)|.box j _ _::es,i=>cond (Nat.beq j i) none (Do es i)|.raw j _::es,i=>cond (Nat.beq j i) none (Do es i)|.set _ _ _::es,i=>Do es i
theorem Qeu{α β:Type}(f:α->β)(xs ys:List (Nat×α)):QW f (xs++ys)=QW f xs++QW f ys:=Ct
theorem G6{D:Codec U}{tk:List (Nat×TTok U)}:∀{es:List (Ev U)}{i:Nat}{L:LpT U},Do es i=some L->lk (Qq D tk es) i=some (L.er D tk)|[],i,L,h=>by cases h|.lp j s p tm nt ps a b d::es,i,L,h=>(by unfold Do at h;unfold Qq;rw[Q8];cases hb:Nat.beq j i with|true=>rw[hb]at h;cases h;rw[Cf (Cc hb)];rfl|false=>rw[hb]at h;rw[Ca (KW hb)];exact G6 h)|.ls j xs::es,i,L,h=>by unfold Do at h;split at h;rename_i L0 h0;have ih:=G6 (D:=D) (tk:=tk) h0;unfold Qq;(cases hb:Nat.beq j i with|true=>rw[hb]at h;cases h;have e:=Cc hb;subst e;rw[ih];show lk ((j,HB.loop L0.s L0.p (QW (TTV.er D tk) xs++QW (TTV.er D tk) L0.tm) L0.nt L0.ps L0.a L0.b L0.d)::Qq D tk es) j=_;rw[Q8,Cf rfl,<-Qeu];rfl|false=>rw[hb]at h;cases h;split;rw[Q8,Ca (KW hb)];exact ih;exact ih);cases h|.box j T xs::es,i,L,h=>(by unfold Do at h;unfold Qq;rw[Q8];cases hb:Nat.beq j i with|true=>rw[hb]at h;cases h|false=>rw[hb]at h;rw[Ca (KW hb)];exact G6 h)|.raw j B::es,i,L,h=>(by unfold Do at h;unfold Qq;rw[Q8];cases hb:Nat.beq j i with|true=>rw[hb]at h;cases h|false=>rw[hb]at h;rw[Ca (KW hb)];exact G6 h)|.set j off xs::es,i,L,h=>by unfold Do at h;have ih:=G6 (D:=D) (tk:=tk) h;unfold Qq;split;rename_i T ys hy;rw[Q8];by_cases e:j=i;subst e;rw[hy]at ih;cases ih;rw[Ca e];exact ih;exact ih
end
end
section
open Go.RowKit
section
variable{U:Univ}(D:Codec U)
def Qct(st:TSt U)(l:Loc)(i:Nat)(e:TypeId)(t:U.T):TSt U:=match l with|.reg r=>⟨(r,.v (.one (.app i 0)))::st.tm,⟨st.m.es,(i,⟨e,t,[],0⟩)::st.m.tk,i+1⟩,st.nt,st.df⟩|.cell j off=>⟨st.tm,⟨.set j off [.one (.app i 0)]::st.m.es,(i,⟨e,t,[],0⟩)::st.m.tk,i+1⟩,st.nt,st.df⟩
def Qcd:Option (TAV U)->Bool|some (.one (.c (.v (.slice none 0 0))))=>true|_=>false
variable(U)in
inductive HK where
 |int (k:IntKind)
 |bool
 |str
 |sl (t:U.T)
 |app (e:TypeId) (t:U.T)
 |stc (t:U.T)
 |ptr (r off:Nat)
 |any
inductive HL where
 |reg (r:Nat)
 |at (r off:Nat)
 |fat (rL r off:Nat)
variable(U)in
structure HLab where
 sl:List (List HL×HK U)
 dead:List Nat
def J7w(st:TSt U):HL->Option Loc|.reg r=>some (.reg r)|.at r off=>(match lk st.tm r with|some (.v (.one (.ptr i o)))=>some (.cell i (o+off))|_=>none)|.fat rL r off=>match lk st.tm rL with|some (.v (.one (.raw (.yld L))))=>(match Do st.m.es L with|some F=>(match lk F.tm r with|some (.v (.one (.ptr i o)))=>some (.cell i (o+off))|_=>none)|none=>none)|_=>none
def Qip(st:TSt U):List HL->Option (List Loc)|[]=>some []|l::ls=>match J7w st l with|some x=>(match Qip st ls with|some xs=>some (x::xs)|none=>none)|none=>none
def Qc9(st:TSt U)(ls:List Loc):HK U->Option (AK U×TSt U)
 |.int k=>some (.int k,st)
 |.bool=>some (.bool,st)
 |.str=>some (.str,st)
 |.sl t=>some (.sl t,st)
 |.stc t=>some (.stc t,st)
 |.ptr r off=>match lk st.tm r with|some (.v (.one (.ptr i o)))=>some (.ptr i (o+off),st)|_=>none
 |.any=>some (.any,st)
 |.app e t=>match ls with
  |[]=>none
  |l::_=>cond (Qcd (Wy D st l 1)) (cond (Qeq st.m.nx 0 st.tm st.m.es) (some (.app st.m.nx e t,Qct st l st.m.nx e t)) none) (match Wy D st l 1 with
   |some (.one (.app j _))=>some (.app j e t,st)
   |_=>none)
def Q02:List (List HL×HK U)->TSt U->Option (List (List Loc×AK U)×TSt U)|[],st=>some ([],st)|(hl,k)::r,st=>match Qip st hl with|none=>none|some ls=>match Qc9 D st ls k with|none=>none|some (k',s1)=>match Q02 r s1 with|none=>none|some (sl,s)=>some ((ls,k')::sl,s)
def D3(h:HLab U)(st:TSt U):Option (Lab U×TSt U):=match Q02 D h.sl st with|some (sl,s)=>cond (Qql ⟨sl,h.dead⟩ s) (some (⟨sl,h.dead⟩,s)) none|none=>none
def Qy5(st:TSt U)(ls:List Loc):HK U->Option (AK U)|.int k=>some (.int k)|.bool=>some .bool|.str=>some .str|.sl t=>some (.sl t)|.stc t=>some (.stc t)|.ptr r off=>(match lk st.tm r with|some (.v (.one (.ptr i o)))=>some (.ptr i (o+off))|_=>none)|.any=>some .any|.app e t=>match ls with|[]=>none|l::_=>match Wy D st l 1 with|some (.one (.app j _))=>some (.app j e t)|_=>none
def Qrf(st:TSt U):List (List HL×HK U)->Option (List (List Loc×AK U))|[]=>some []|(hl,k)::r=>match Qip st hl with|none=>none|some ls=>match Qy5 D st ls k with|none=>none|some k'=>match Qrf st r with|none=>none|some sl=>some ((ls,k')::sl)
def Q1x(h:HLab U)(st:TSt U):Option (Lab U):=match Qrf D st h.sl with|some sl=>cond (Qql ⟨sl,h.dead⟩ st) (some ⟨sl,h.dead⟩) none|none=>none
variable{D}
theorem Qpa{x:Option (TAV U)}(h:Qcd x=true):x=some (.one (.c (.v (.slice none 0 0)))):=by unfold Qcd at h;split at h;rfl;cases h
theorem To.refl(E:Env)(x:St):To E x x:=λV a w hr=>⟨V,hr⟩
theorem To.trans{E:Env}{x y z:St}(h:To E x y)(k:To E y z):To E x z:=λV a w hr=>let⟨V',h'⟩:=h V a w hr;k V' a w h'
theorem To.weak{E:Env}{x y:St}(h:StW x y):To E x y:=λV a w hr=>⟨V,hr.weak h⟩
theorem Qvc{E:Env}{x y:St}(h:XQ E (λ_ a w=>∃V,Rel E V y a w) .normal x):To E x y:=h
theorem Qjw(hD:D.OK){E:Env}{st:TSt U}{l:Loc}{i:Nat}{e:TypeId}{t:U.T}(h:Wy D st l 1=some (.one (.c (.v (.slice none 0 0)))))(hn:st.m.nx<=i)(ha:Qeq i 0 st.tm st.m.es=true):To E (st.er D) ((Qct st l i e t).er D):=by
 have hs:To E (st.er D) ⟨(st.er D).tm,(st.er D).hp,(st.er D).tk,i,st.nt,st.df⟩:=Qvc (Qps i hn (λV a w hr=>⟨V,hr⟩));refine hs.trans ?_;have e0:(U.E t).encL []=[]:=(U.E t).nil;have eapp:(TA.app i 0:TA U).er ((i,(⟨e,t,[],0⟩:TTok U))::st.m.tk)=.app i (U.E t).sz []:=by
  show(match cur ((i,(⟨e,t,[],0⟩:TTok U))::st.m.tk) i 0 with
   |some T=>CA.app i (U.E T.t).sz ((U.E T.t).encL T.l)
   |none=>CA.any)=_
  rw[K2,Cf rfl,Cf rfl];show CA.app i (U.E t).sz ((U.E t).encL [])=_;rw[e0]
 have etok:∀j x,lk (WB ((i,(⟨e,t,[],0⟩:TTok U))::st.m.tk)) j=some (some x)->lk ((i,some ⟨e,(U.E t).sz,0,[]⟩)::WB st.m.tk) j=some (some x):=λj x h=>Xk (T0:=(⟨e,t,[],0⟩:TTok U)) (by unfold TTok.er;dsimp only;rw[e0];rfl) (λ_=>rfl) h;have htm:∀r y,lk (QW (TTV.er D ((i,(⟨e,t,[],0⟩:TTok U))::st.m.tk)) st.tm) r=some y->y=.unk\/∃x,lk (st.er D).tm r=some x/\∀V w v,x.rel V w v->y.rel V w v:=by intro r y hy;rw[QY]at hy;cases hz:lk st.tm r with|none=>rw[hz]at hy;cases hy|some z=>rw[hz]at hy;cases hy;refine .inr ⟨z.er D st.m.tk,by show lk (QW _ st.tm) r=_;rw[QY,hz];rfl,λV w v hv=>?_⟩;exact Kq (DM λhp=>by have h1:=(C2.1 ha).1;have h2:st.tm.any (λp=>p.2.hasApp i 0)=true:=CU.2 ⟨_,Ym hz,hp⟩;rw[h2]at h1;cases h1) hv
 have hes:∀j,OW (lk (Qq D st.m.tk st.m.es) j) (lk (Qq D ((i,(⟨e,t,[],0⟩:TTok U))::st.m.tk) st.m.es) j):=Zq (DM λhp=>by have h1:=(C2.1 ha).2;rw[hp]at h1;cases h1);cases l with
 |reg r=>(have hr:lk (st.er D).tm r=some (Gh (.slice none 0 0)):=by show lk (QW (TTV.er D st.m.tk) st.tm) r=_;rw[QY,Q8r h];rfl);refine(Qvc (Qpu (st:=⟨(st.er D).tm,(st.er D).hp,(st.er D).tk,i,st.nt,st.df⟩) e (U.E t).sz hr (λV a w hr=>⟨V,hr⟩))).trans (To.weak ⟨λq y hy=>?_,λj B hB=>?_,λj T hT=>?_,Z,Z,Z⟩);have hy':lk ((r,TV.v (.one ((TA.app i 0:TA U).er ((i,(⟨e,t,[],0⟩:TTok U))::st.m.tk))))::QW (TTV.er D ((i,(⟨e,t,[],0⟩:TTok U))::st.m.tk)) st.tm) q=some y:=hy;rw[eapp]at hy';show y=.unk\/∃x,lk ((r,TV.v (.one (.app i (U.E t).sz [])))::(st.er D).tm) q=some x/\_;rw[Q8]at hy'⊢;by_cases c:r=q;rw[Cf c]at hy'⊢;cases hy';exact .inr ⟨_,rfl,λ_ _ _ h=>h⟩;rw[Ca c]at hy'⊢;exact htm q y hy';have hB':lk (Qq D ((i,(⟨e,t,[],0⟩:TTok U))::st.m.tk) st.m.es) j=some B:=hB;have h3:=hes j;rw[hB']at h3;show ∃A,lk (Qq D st.m.tk st.m.es) j=some A/\_;(cases hA:lk (Qq D st.m.tk st.m.es) j with|none=>rw[hA]at h3;exact h3.elim|some A=>rw[hA]at h3;exact⟨A,rfl,λV w o h=>BW.rel h3 h⟩);have hT':lk (WB ((i,(⟨e,t,[],0⟩:TTok U))::st.m.tk)) j=some (some T):=hT;exact etok _ _ hT'
 |cell j0 off=>
  obtain⟨T0,ys,r1,r2,r3⟩:=YQ hD (tk:=st.m.tk) (Q5k h);have hy0:ys[off]?=some (.d (.v (.slice none 0 0))):=DW r3;refine(Qvc (Qpv (st:=⟨(st.er D).tm,(st.er D).hp,(st.er D).tk,i,st.nt,st.df⟩) e (U.E t).sz r1 hy0 (λV a w hr=>⟨V,hr⟩))).trans (To.weak ⟨htm,λj B hB=>?_,λj T hT=>?_,Z,Z,Z⟩);have hB':lk (match lk (Qq D ((i,(⟨e,t,[],0⟩:TTok U))::st.m.tk) st.m.es) j0 with
   |some (.cells T zs)=>(j0,.cells T (setL zs off [(TA.app i 0:TA U).er ((i,(⟨e,t,[],0⟩:TTok U))::st.m.tk)]))::Qq D ((i,(⟨e,t,[],0⟩:TTok U))::st.m.tk) st.m.es
   |_=>Qq D ((i,(⟨e,t,[],0⟩:TTok U))::st.m.tk) st.m.es) j=some B:=hB
  rw[eapp]at hB';show ∃A,lk ((j0,HB.cells T0 (ys.set off (.app i (U.E t).sz [])))::Qq D st.m.tk st.m.es) j=some A/\_;have h0:=hes j0;rw[r1]at h0;have h3:=hes j;rw[Q8];cases hX:lk (Qq D ((i,(⟨e,t,[],0⟩:TTok U))::st.m.tk) st.m.es) j0 with|none=>rw[hX]at h0;exact h0.elim|some X=>rw[hX]at h0 hB';(obtain⟨zs,rfl,hl⟩:∃zs,X=.cells T0 zs/\LW ys zs:=by have h0':BW (.cells T0 ys) X:=h0;cases h0' with|refl=>exact⟨ys,rfl,LW.refl _⟩|cells hl=>exact⟨_,rfl,hl⟩);dsimp only at hB';rw[Q8]at hB';by_cases c:j0=j;rw[Cf c]at hB'⊢;cases hB';refine⟨_,Z,λV w o hr=>BW.rel (.cells ?_) hr⟩;exact LW.set hl (LW.refl [CA.app i (U.E t).sz []]) off;rw[Ca c]at hB'⊢;rw[hB']at h3;cases hA:lk (Qq D st.m.tk st.m.es) j with|none=>rw[hA]at h3;exact h3.elim|some A=>rw[hA]at h3;exact⟨A,rfl,λV w o h=>BW.rel h3 h⟩
  have hT':lk (WB ((i,(⟨e,t,[],0⟩:TTok U))::st.m.tk)) j=some (some T):=hT;exact etok _ _ hT'
theorem Qg9{st:TSt U}{l:Loc}{i:Nat}{e:TypeId}{t:U.T}(hn:st.m.nx<=i):Sfx st (Qct st l i e t):=by cases l with|reg r=>exact⟨⟨[_],rfl⟩,⟨[],rfl⟩,⟨[_],rfl⟩,SF hn,rfl,.inr rfl⟩|cell j off=>exact⟨⟨[],rfl⟩,⟨[_],rfl⟩,⟨[_],rfl⟩,SF hn,rfl,.inr rfl⟩
theorem Qp7(hD:D.OK){E:Env}{st s:TSt U}{ls:List Loc}{k:HK U}{k':AK U}(h:Qc9 D st ls k=some (k',s)):To E (st.er D) (s.er D)/\Sfx st s:=by cases k with|app e t=>(cases ls with|nil=>cases h|cons l ls=>unfold Qc9 at h;dsimp only at h;cases hn:Qcd (Wy D st l 1)with|true=>(rw[hn,C5]at h;cases hc:Qeq st.m.nx 0 st.tm st.m.es with|false=>rw[hc]at h;cases h|true=>rw[hc]at h;cases h;exact⟨Qjw hD (Qpa hn) (Cl _) hc,Qg9 (Cl _)⟩)|false=>rw[hn,C6]at h;split at h;cases h;exact⟨To.refl _ _,Sfx.refl _⟩;cases h)|int k=>cases h;exact⟨To.refl _ _,Sfx.refl _⟩|bool=>cases h;exact⟨To.refl _ _,Sfx.refl _⟩|str=>cases h;exact⟨To.refl _ _,Sfx.refl _⟩|sl t=>cases h;exact⟨To.refl _ _,Sfx.refl _⟩|stc t=>cases h;exact⟨To.refl _ _,Sfx.refl _⟩|any=>cases h;exact⟨To.refl _ _,Sfx.refl _⟩|ptr r off=>unfold Qc9 at h;dsimp only at h;split at h;cases h;exact⟨To.refl _ _,Sfx.refl _⟩;cases h
theorem Q5h(hD:D.OK){E:Env}:∀{hl:List (List HL×HK U)}{st s:TSt U}{sl:List (List Loc×AK U)},Q02 D hl st=some (sl,s)->To E (st.er D) (s.er D)/\Sfx st s
 |[],st,s,sl,h=>by cases h;exact⟨To.refl _ _,Sfx.refl _⟩
 |(ls,k)::r,st,s,sl,h=>by
  unfold Q02 at h;split at h
  · cases h
  · split at h
    · cases h
    · rename_i k' s1 h1
      split at h
      · cases h
      · rename_i sl' s' h2;cases h
        obtain⟨a1,a2⟩:=Qp7 (E:=E) hD h1
        obtain⟨b1,b2⟩:=Q5h (E:=E) hD h2
        exact⟨a1.trans b1,a2.trans b2⟩
theorem YG(hD:D.OK){E:Env}{h:HLab U}{L:Lab U}{st s:TSt U}(hi:D3 D h st=some (L,s)):To E (st.er D) (s.er D)/\Sfx st s/\Qql L s=true:=by
 unfold D3 at hi;split at hi;rename_i sl s1 h1;cases hw:Qql ⟨sl,h.dead⟩ s1 with|false=>rw[hw]at hi;cases hi|true=>rw[hw]at hi;cases hi;obtain⟨a1,a2⟩:=Q5h (E:=E) hD h1;exact⟨a1,a2,hw⟩
 cases hi
theorem Q1w{h:HLab U}{L:Lab U}{st:TSt U}(hi:Q1x D h st=some L):Qql L st=true:=by
 unfold Q1x at hi;split at hi;rename_i sl h1;cases hw:Qql ⟨sl,h.dead⟩ st with|false=>rw[hw]at hi;cases hi|true=>rw[hw]at hi;cases hi;exact hw
 cases hi
variable(U)in
inductive Tc where
 |skip
 |reg (id:Nat) (ops:Array Oper)
 |draw (id:Nat) (effs:List Nat) (ops:Array Oper)
 |seq (a b:Tc)
 |cond (c:Operand) (a b:Tc)
 |block (id:Nat) (b:Tc)
 |bloop (id:Nat) (h ho:HLab U) (b:Tc)
 |bloopE (id:Nat) (h ho:HLab U) (b:Tc)
 |join (h:HLab U) (b:Tc)
 |joinE (h:HLab U) (b:Tc)
 |exit (id:Nat)
 |scope (b:Tc)
 |range (g:Operand) (ps:Array Nat) (a b:Tc)
 |ret
def Tc.code:Tc U->Code|.skip=>.skip|.reg id ops=>.region id ops false|.draw id _ ops=>.region id ops true|.seq a b=>.seq a.code b.code|.cond c a b=>.cond c a.code b.code|.block id b=>.block id b.code|.bloop id _ _ b=>.block id (.loop b.code)|.bloopE id _ _ b=>.block id (.loop b.code)|.join _ b=>b.code|.joinE _ b=>b.code|.exit id=>.exit id|.scope b=>.scope b.code|.range g ps a b=>.rangeFunc g ps a.code b.code|.ret=>.ret
variable(D)(C:TCfg U)(K:FuncId->List (TAV U)->Option (KR U))(X:XH U)
def Q31{α:Type}(h:Lab U)(st s:TSt U)(f:tup (h.sl.map (·.2))->α):Option α:=match Xn D h st s with|some t=>some (f t)|none=>none
def Gq:List Nat->List (TAV U)->List (Nat×TTV U)->List (Nat×TTV U)|t::ts,x::xs,tm=>Gq ts xs ((t,.v x)::tm)|_,_,tm=>tm
abbrev Qgm(U:Univ):=List (Ev U)×List (Nat×TTok U)×Nat
def Qci(m:TMe U)(s:TSt U):Option (Qgm U):=cond (Q88 s.df []) (some (s.m.es.take (s.m.es.length-m.es.length),s.m.tk.take (s.m.tk.length-m.tk.length),s.m.nx-m.nx)) none
def Q1j(m:TMe U)(a:Qgm U):TMe U:=⟨a.1++m.es,a.2.1++m.tk,m.nx+a.2.2⟩
def LpT.ev(L:Nat)(F:LpT U)(s:LoopState)(p:Option Code):Ev U:=.lp L s p F.tm F.nt F.ps F.a F.b F.d
def KN(L:Nat):Ev U->Bool|.box i _ _=>!(Nat.beq i L)|.raw i _=>!(Nat.beq i L)|.lp i _ _ _ _ _ _ _ _=>!(Nat.beq i L)|.ls i _=>!(Nat.beq i L)|.set i _ _=>!(Nat.beq i L)
def Q85(L:Nat):Ev U->Bool|.lp i _ _ _ _ _ _ _ _=>Nat.beq i L|_=>false
def J0k(L:Nat)(F:LpT U)(m:TMe U)(j:Option Code)(a:Qgm U):Option (TMe U):=cond (a.1.all (KN L)) (match j with
 |none=>some (Q1j m a)
 |some c=>some ⟨F.ev L .done (some c)::(Q1j m a).es,(Q1j m a).tk,(Q1j m a).nx⟩) none
def XY{β:Type}(L:Nat)(F:LpT U)(m:TMe U)(k:TTV U->TMe U->Option β)(j:Option Code)(a:Qgm U):Option β:=match J0k L F m j a with|some m'=>k (Je4 j.isNone) m'|none=>none
def Jaz(st:TSt U):Option Nat->Option (Nat×Nat×List (Ev U)×Nat)|none=>some (st.m.nx+1,st.m.nx,[.raw st.m.nx (.obj (.deferred (some [])))],st.m.nx+2)|some L0=>match Do st.m.es L0 with|some F0=>some (st.m.nx,F0.d,[],st.m.nx+1)|none=>none
def Q4e(st:TSt U)(L:Nat)(F:LpT U)(xs:List (Ev U))(nx:Nat):TMe U:=⟨F.ev L .ready none::(xs++st.m.es),st.m.tk,nx⟩
def Qw5(L:Nat)(m1 m2:TMe U):List (Ev U):=(Q83 m1.es m2.es).filter λe=>!(Q85 L e)
def J13(st:TSt U)(L:Nat)(m1 m2:TMe U):TSt U:=⟨st.tm,⟨Qw5 L m1 m2++st.m.es,m2.tk,m2.nx⟩,st.nt,st.df⟩
def Qra(rn:Option Nat)(st:TSt U)(L:Nat)(m1 m2:TMe U):Bool:=ZB (Ui m2.tk st.m.tk) st.tm&&((Qw5 L m1 m2).all (KN L)&&(st.m.es.all (KN L)&&(match rn with
 |none=>(Qw5 L m1 m2).all (KN st.m.nx)&&st.m.es.all (KN st.m.nx)
 |some _=>true)))
def Jac(m2:TMe U)(L:Nat):Option Exit:=match Do m2.es L with|some F=>(match F.s,F.p with|.ready,none=>some .normal|.done,some .ret=>some .ret|.done,some (.exit id)=>some (.exit id)|_,_=>none)|none=>none
def Yh:Tc U->(Y:YH U)->(rn:Option Nat)->{R:Type}->(ret:TSt U->Option R)->(pan:Value->TSt U->Option R)->{β:Type}->TSt U->(R->Option β)->(Exit->TSt U->Option β)->Option β
 |.skip,_,_,_,_,_,_,st,_,k=>k .normal st
 |.reg _ ops,Y,rn,_,_,pan,_,st,p,k=>Q3w D C K X Y rn ops (λv s=>Option.bind (pan v s) p) ops.toList st (k .normal)
 |.draw _ effs ops,Y,_,_,_,pan,_,st,p,k=>_root_.cond (Qfr ops effs) (_root_.cond (Q1v ops) (_root_.cond (Qj8 ops effs).isEmpty (Qpi D C K X Y ops effs st (λv s=>Option.bind (pan v s) p) 0 ops.toList st) none) (KU D C K X Y ops effs (λv s=>Option.bind (pan v s) p) 0 ops.toList st [] [] (k .normal))) none
 |.seq a b,Y,rn,_,ret,pan,_,st,p,k=>Yh a Y rn ret pan st p λe s=>match e with|.normal=>Yh b Y rn ret pan s p k|e=>k e s
 |.cond c a b,Y,rn,_,ret,pan,_,st,p,k=>match Zb st.tm c with|some (.v (.one (.c (.v (.bool v)))))=>cond v (Yh a Y rn ret pan st p k) (Yh b Y rn ret pan st p k)|_=>none
 |.block id b,Y,rn,_,ret,pan,_,st,p,k=>Yh b Y rn ret pan st p λe s=>match e with|.exit j=>cond (Nat.beq j id) (k .normal s) (k (.exit j) s)|e=>k e s
 |.bloop id h ho b,Y,rn,R,_,_,_,st,_,k=>match D3 D h st with
  |none=>none
  |some (L,s0)=>match Xn D L s0 s0,Q1x D ho s0 with
   |some t0,some Lo=>Option.bind (Qc (λt=>Yh b Y rn (R:=R) (λ_=>none) (λ_ _=>none) (lab L s0 t) (λ_=>none) λe s=>match e with
    |.normal=>Q31 D L s0 s .next
    |.exit j=>cond (Nat.beq j id) (Q31 D Lo s0 s .done) none
    |_=>none) Qf t0) λo=>k .normal (lab Lo s0 o)
   |_,_=>none
 |.bloopE id h ho b,Y,rn,R,ret,pan,_,st,p,k=>match D3 D h st with
  |none=>none
  |some (L,s0)=>match Xn D L s0 s0,Q1x D ho s0 with
   |some t0,some Lo=>Option.bind (Qc (β:=tup (Lo.sl.map (·.2))⊕R) (λt=>Yh b Y rn ret pan (lab L s0 t) (λo=>some (.done (.inr o))) λe s=>match e with
    |.normal=>Q31 D L s0 s .next
    |.exit j=>cond (Nat.beq j id) (Q31 D Lo s0 s λo=>.done (.inl o)) none
    |_=>none) Qf t0) (Sum.elim (λo=>k .normal (lab Lo s0 o)) p)
   |_,_=>none
 |.join h b,Y,rn,R,_,_,_,st,_,k=>match D3 D h st with
  |none=>none
  |some (L,s0)=>Option.bind (Yh b Y rn (R:=R) (λ_=>none) (λ_ _=>none) s0 (λ_=>none) λe s=>match e with
   |.normal=>Q31 D L s0 s id
   |_=>none) λt=>k .normal (lab L s0 t)
 |.joinE h b,Y,rn,R,ret,pan,_,st,p,k=>match D3 D h st with
  |none=>none
  |some (L,s0)=>Option.bind (Yh b Y rn ret pan (β:=tup (L.sl.map (·.2))⊕R) s0 (λo=>some (.inr o)) λe s=>match e with
   |.normal=>Q31 D L s0 s .inl
   |_=>none) (Sum.elim (λt=>k .normal (lab L s0 t)) p)
 |.exit id,_,_,_,_,_,_,st,_,k=>k (.exit id) st
 |.scope b,Y,rn,_,ret,pan,_,st,p,k=>Yh b Y rn ret pan st p λe s=>match e with|.goto _=>none|e=>k e s
 |.range g ps a b,Y,rn,_,ret,pan,_,st,p,k=>match Zb st.tm g,Jaz st rn with
  |some (.v (.one (.fn gf caps))),some (L,d,xs,nx)=>match X (λL' args m=>cond (Nat.beq L' L)
    (cond ((Q83 (Q4e st L ⟨.ready,none,st.tm,st.nt,ps,a.code,b.code,d⟩ xs nx).es m.es).all (KN L)&&(Nat.beq args.length ps.size&&ps.toList.all λt=>Nat.blt t st.nt))
     (some ⟨λk _=>Yh a Y (some L) (R:=Qgm U) (λ_=>none) (λ_ _=>none) ⟨Gq ps.toList args st.tm,m,st.nt,[]⟩ (λ_=>none) λe s=>match e with
      |.normal=>cond ((Q83 m.es s.m.es).all (KN L)&&Q88 s.df []) (Yh b Y (some L) (Qci ⟨.lp L .busy none st.tm st.nt ps a.code b.code d::s.m.es,s.m.tk,s.m.nx⟩) (λ_ _=>none) ⟨s.tm,⟨.lp L .busy none st.tm st.nt ps a.code b.code d::s.m.es,s.m.tk,s.m.nx⟩,s.nt,s.df⟩ (XY L ⟨.ready,none,st.tm,st.nt,ps,a.code,b.code,d⟩ s.m k (some .ret)) λe s2=>match e with
        |.normal=>Option.bind (Qci ⟨.lp L .busy none st.tm st.nt ps a.code b.code d::s.m.es,s.m.tk,s.m.nx⟩ s2) (XY L ⟨.ready,none,st.tm,st.nt,ps,a.code,b.code,d⟩ s.m k none)
        |.exit id=>Option.bind (Qci ⟨.lp L .busy none st.tm st.nt ps a.code b.code d::s.m.es,s.m.tk,s.m.nx⟩ s2) (XY L ⟨.ready,none,st.tm,st.nt,ps,a.code,b.code,d⟩ s.m k (some (.exit id)))
        |_=>none) none
      |_=>none⟩) none) (Y L' args m)) (.fn gf) (.one (.raw (.yld L))::Qa8 caps) (Q4e st L ⟨.ready,none,st.tm,st.nt,ps,a.code,b.code,d⟩ xs nx)with
   |some xo=>xo.run (λ_ m2=>cond (Qra rn st L (Q4e st L ⟨.ready,none,st.tm,st.nt,ps,a.code,b.code,d⟩ xs nx) m2) (match Jac m2 L with
    |some .ret=>Option.bind (ret (J13 st L (Q4e st L ⟨.ready,none,st.tm,st.nt,ps,a.code,b.code,d⟩ xs nx) m2)) p
    |some e=>k e (J13 st L (Q4e st L ⟨.ready,none,st.tm,st.nt,ps,a.code,b.code,d⟩ xs nx) m2)
    |none=>none) none) λv m2=>cond (Qra rn st L (Q4e st L ⟨.ready,none,st.tm,st.nt,ps,a.code,b.code,d⟩ xs nx) m2) (Option.bind (pan v (J13 st L (Q4e st L ⟨.ready,none,st.tm,st.nt,ps,a.code,b.code,d⟩ xs nx) m2)) p) none
   |none=>none
  |_,_=>none
 |.ret,_,_,_,ret,_,_,st,p,_=>Option.bind (ret st) p
end
section
variable{U:Univ}{D:Codec U}{C:TCfg U}{K:FuncId->List (TAV U)->Option (KR U)}{X:XH U}
variable{E:Env}{ro:Option Nat}{n:Nat}{Q:Exit->Act->World->Prop}
theorem Kv{c:Code}{x y:St}(h:To E x y)(k:XC E ro n Q c y):XC E ro n Q c x:=λV a w hr=>let⟨V',hr'⟩:=h V a w hr;k V' a w hr'
theorem UL{e:Exit}{x y:St}(h:To E x y)(k:XQ E Q e y):XQ E Q e x:=λV a w hr=>let⟨V',hr'⟩:=h V a w hr;k V' a w hr'
theorem Qga{σ β:Type}{st:St}{c:Code}(step:σ->Option (LO σ β))(inv:σ->St)(s0:σ)(b:β)(h0:To E st (inv s0))(hok:Qc step Qf s0=some b)(round:∀(s:σ)(m:Nat)(o:LO σ β),step s=some o->XN step m b o->XC E ro n (Exit.then (Q7s E inv step m b) Q) c (inv s)):XC E ro n Q (.loop c) st:=by
 intro V a w hr;obtain⟨V',hr'⟩:=h0 V a w hr;refine WH (λk a w=>∃(x:σ×Nat)(V:Vu),x.2=k/\Qc step x.2 x.1=some b/\Rel E V (inv x.1) a w) Qf ⟨(s0,Qf),V',Z,hok,hr'⟩ ?_;rintro k a w ⟨⟨s,j⟩,V,rfl,hx,hr⟩;obtain⟨m,o,hm,h1,h2⟩:=Qt9 hx;dsimp only at hm hr;refine WG (round s m o h1 (by
  cases o with
  |next s'=>exact h2
  |done b'=>exact Cw h2) V a w hr) ?_
 intro e a' w' hq;cases e with|normal=>(obtain⟨x',V',q1,q2,q3⟩:=hq;exact⟨x'.2,by dsimp only at q1⊢;omega,x',V',rfl,q2,q3⟩)|exit id=>exact hq|goto l=>exact hq|ret=>exact hq|panic ch=>exact hq|outgrown=>exact hq
theorem Qv9{σ β:Type}{st:St}{step:σ->Option (LO σ β)}{inv:σ->St}{m:Nat}{b:β}(s':σ)(hl:To E st (inv s'))(ho:XN step m b (.next s')):XQ E (Exit.then (Q7s E inv step m b) Q) .normal st:=λV a w hr=>by obtain⟨V',hr'⟩:=hl V a w hr;exact⟨(s',m),V',Cv _,ho,hr'⟩
theorem KA{α:Type}{h:Lab U}{st s:TSt U}{f:tup (h.sl.map (·.2))->α}{v:α}(hp:Q31 D h st s f=some v):∃t,Xn D h st s=some t/\f t=v:=by unfold Q31 at hp;split at hp;rename_i t ht;cases hp;exact⟨t,ht,rfl⟩;cases hp
theorem Q9k(hD:D.OK){id:Nat}{h:Lab U}{s0:TSt U}{β:Type}{step:tup (h.sl.map (·.2))->Option (LO (tup (h.sl.map (·.2))) β)}{m:Nat}{b:β}{s:TSt U}{t:tup (h.sl.map (·.2))}(hw:Qql h s0=true)(h0:E.V0.nx<=s0.m.nx)(hs:Sfx s0 s)(hp:Xn D h s0 s=some t)(hr:XN step m b (.next t)):XQ E (Exit.then (Q7s E (λt=>(lab h s0 t).er D) step m b) (Exit.inBlock id Q)) .normal (s.er D):=Qv9 t (U3 hD ⟨hs,hw,hp⟩ h0) hr
theorem Qfn{σ β:Type}{step:σ->Option (LO σ β)}{inv:σ->St}{m:Nat}{b:β}{id:Nat}{st:St}(k:XQ E Q .normal st):XQ E (Exit.then (Q7s E inv step m b) (Exit.inBlock id Q)) (.exit id) st:=λV a w hr=>by show(if id=id then Q .normal a w else Q (.exit id) a w);rw[Cf rfl];exact k V a w hr
theorem Q9x{σ β:Type}{step:σ->Option (LO σ β)}{inv:σ->St}{m:Nat}{b:β}{id:Nat}{st:St}{e:Exit}(h1:e ≠ .normal)(h2:e ≠ .exit id)(k:XQ E Q e st):XQ E (Exit.then (Q7s E inv step m b) (Exit.inBlock id Q)) e st:=λV a w hr=>by have hk:=k V a w hr;cases e with|normal=>exact(h1 rfl).elim|exit j=>show(if j=id then Q .normal a w else Q (.exit j) a w);rw[Ca (λe=>h2 (by rw[e]))];exact hk|goto l=>exact hk|ret=>exact hk|panic c=>exact hk|outgrown=>exact hk
theorem Qu8{tk:List (Nat×TTok U)}{i:Nat}{T:TypeId}{xs:List (It U)}{es:List (Ev U)}:Qq D tk (.box i T xs::es)=(i,.cells T (Jy D tk xs))::Qq D tk es:=rfl
theorem Qu5{tk:List (Nat×TTok U)}{i:Nat}{B:HB}{es:List (Ev U)}:Qq D tk (.raw i B::es)=(i,B)::Qq D tk es:=rfl
theorem Qu7{tk:List (Nat×TTok U)}{i:Nat}{s:LoopState}{p:Option Code}{tm:List (Nat×TTV U)}{nt:Nat}{ps:Array Nat}{a b:Code}{d:Nat}{es:List (Ev U)}:Qq D tk (.lp i s p tm nt ps a b d::es)=(i,.loop s p (QW (TTV.er D tk) tm) nt ps a b d)::Qq D tk es:=rfl
theorem Qu6{tk:List (Nat×TTok U)}{i:Nat}{xs:List (Nat×TTV U)}{es:List (Ev U)}:Qq D tk (.ls i xs::es)=match lk (Qq D tk es) i with|some (.loop s p tm nt ps a b d)=>(i,.loop s p (QW (TTV.er D tk) xs++tm) nt ps a b d)::Qq D tk es|_=>Qq D tk es:=rfl
theorem Qj9{tk:List (Nat×TTok U)}{i off:Nat}{xs:List (It U)}{es:List (Ev U)}:Qq D tk (.set i off xs::es)=match lk (Qq D tk es) i with|some (.cells T ys)=>(i,.cells T (setL ys off (Jy D tk xs)))::Qq D tk es|_=>Qq D tk es:=rfl
theorem W3{tk:List (Nat×TTok U)}{L:Nat}:∀(q es:List (Ev U)),q.all (KN L)=true->lk (Qq D tk (q++es)) L=lk (Qq D tk es) L|[],es,h=>rfl|e::q,es,h=>by obtain⟨h1,h2⟩:=C2.1 h;have ih:=W3 (tk:=tk) q es h2;have hne:∀i,(!(Nat.beq i L))=true->i≠L:=λi hi=>KW (by simpa using hi);rw[PN];cases e with|box i T xs=>simp only[Qu8];rw[Q8,Ca (hne i h1)];exact ih|raw i B=>simp only[Qu5];rw[Q8,Ca (hne i h1)];exact ih|lp i s p tm nt ps a b d=>simp only[Qu7];rw[Q8,Ca (hne i h1)];exact ih|ls i xs=>rw[Qu6];split;rw[Q8,Ca (hne i h1)];exact ih;exact ih|set i off xs=>rw[Qj9];split;rw[Q8,Ca (hne i h1)];exact ih;exact ih
theorem Qma{tk:List (Nat×TTok U)}{N:Nat->Prop}{A B:List (Ev U)}{e:Ev U}(h:∀j,¬N j->lk (Qq D tk A) j=lk (Qq D tk B) j)(he:∀j,N j->KN j e=true):∀j,¬N j->lk (Qq D tk (e::A)) j=lk (Qq D tk (e::B)) j:=by
 intro j hj;have hi:∀i,(∀j,N j->(!(Nat.beq i j))=true)->¬N i:=λi hh hn=>by have:=hh i hn;simp at this
 cases e with|box i T xs=>simp only[Qu8];rw[Q8,Q8,h j hj]|raw i C=>simp only[Qu5];rw[Q8,Q8,h j hj]|lp i s p tm nt ps a b d=>simp only[Qu7];rw[Q8,Q8,h j hj]|ls i xs=>(rw[Qu6,Qu6];rw[h i (hi i he)];cases lk (Qq D tk B) i with|none=>exact h j hj|some X=>cases X with|loop s p tm nt ps a b d=>dsimp only;rw[Q8,Q8,h j hj]|cells T ys=>exact h j hj|obj o=>exact h j hj|mp es c=>exact h j hj)|set i off xs=>rw[Qj9,Qj9];rw[h i (hi i he)];cases lk (Qq D tk B) i with|none=>exact h j hj|some X=>cases X with|cells T ys=>dsimp only;rw[Q8,Q8,h j hj]|loop s p tm nt ps a b d=>exact h j hj|obj o=>exact h j hj|mp es c=>exact h j hj
theorem Qf6{tk:List (Nat×TTok U)}{N:Nat->Prop}{A B:List (Ev U)}(h:∀j,¬N j->lk (Qq D tk A) j=lk (Qq D tk B) j):∀(q:List (Ev U)),(∀e∈q,∀j,N j->KN j e=true)->∀j,¬N j->lk (Qq D tk (q++A)) j=lk (Qq D tk (q++B)) j|[],hq=>h|e::q,hq=>Qma (Qf6 h q λe he=>hq e (Ck _ he)) (hq e (Cj ..))
theorem Qir{tk:List (Nat×TTok U)}{N:Nat->Prop}{L:Nat}(hL:N L){A B:List (Ev U)}(h:∀j,¬N j->lk (Qq D tk A) j=lk (Qq D tk B) j):∀(q:List (Ev U)),(∀e∈q.filter (λe=>!(Q85 L e)),∀j,N j->KN j e=true)->∀j,¬N j->lk (Qq D tk (q++A)) j=lk (Qq D tk (q.filter (λe=>!(Q85 L e))++B)) j|[],hq=>h|e::q,hq=>by cases hb:Q85 L e with|true=>((have e1:(e::q).filter (λe=>!(Q85 L e))=q.filter (λe=>!(Q85 L e)):=by rw[CE,hb];rfl);rw[e1]at hq⊢;intro j hj;rw[<-Qir hL h q hq j hj,PN];cases e with|lp i s p tm nt ps a b d=>have ei:i=L:=Cc hb;rw[Qu7,Q8,Ca (λe'=>hj (by rw[<-e',ei];exact hL))]|box i T xs=>cases hb|raw i C=>cases hb|ls i xs=>cases hb|set i off xs=>cases hb)|false=>(have e1:(e::q).filter (λe=>!(Q85 L e))=e::q.filter (λe=>!(Q85 L e)):=by rw[CE,hb];rfl);rw[e1]at hq⊢;exact Qma (Qir hL h q λe he=>hq e (Ck _ he)) (hq e (Cj ..))
theorem Q8z{tk:List (Nat×TTok U)}{L:Nat}{es:List (Ev U)}(h:es.all (KN L)=true):lk (Qq D tk es) L=none:=by have:=W3 (D:=D) (tk:=tk) es [] h;rw[CC]at this;rw[this];rfl
theorem Q2z(tk:List (Nat×TTok U)):∀(ts:List Nat)(xs:List (TAV U))(tm:List (Nat×TTV U))(tm':List (Nat×TV)),(∀t,lk (QW (TTV.er D tk) tm) t=lk tm' t)->∀t,lk (QW (TTV.er D tk) (Gq ts xs tm)) t=lk (ZQ ts (xs.map (TAV.er D tk)) tm') t|[],[],tm,tm',h=>h|[],x::xs,tm,tm',h=>h|t::ts,[],tm,tm',h=>h|t::ts,x::xs,tm,tm',h=>Q2z tk ts xs ((t,.v x)::tm) ((t,.v (x.er D tk))::QT t tm') λu=>by rw[JI];show lk ((t,TV.v (x.er D tk))::QW (TTV.er D tk) tm) u=_;rw[Q8,Q8,h u]
def Qvp(D:Codec U)(W:Wd)(P:Program)(rn:Option Nat)(c:Code){R β:Type}(st:TSt U)(ret:TSt U->Option R)(pan:Value->TSt U->Option R)(p:R->Option β)(k:Exit->TSt U->Option β)(r:β):Prop:=
 (∃e s,Sfx st s/\k e s=some r/\∀E ro n Q,Fit W P rn E ro->E.V0.nx<=st.m.nx->XQ E Q e (s.er D)->XC E ro n Q c (st.er D)) \/
 (∃a,p a=some r/\(∃s,Sfx st s/\(ret s=some a\/∃v,pan v s=some a))/\∀E ro n Q,Fit W P rn E ro->E.V0.nx<=st.m.nx->(∀s,Sfx st s->ret s=some a->XQ E Q .ret (s.er D))->(∀v s,Sfx st s->pan v s=some a->XQ E Q (.panic (Kz v)) (s.er D))->XC E ro n Q c (st.er D))
def J6n(D:Codec U)(C:TCfg U)(K:FuncId->List (TAV U)->Option (KR U))(X:XH U)(W:Wd)(P:Program)(c:Tc U):Prop:=∀ ⦃Y:YH U⦄ ⦃rn:Option Nat⦄ ⦃R:Type⦄ ⦃ret:TSt U->Option R⦄ ⦃pan:Value->TSt U->Option R⦄ ⦃β:Type⦄ ⦃st:TSt U⦄ ⦃p:R->Option β⦄ ⦃k:Exit->TSt U->Option β⦄ ⦃r:β⦄,YOK W D P Y st.m->Yh D C K X c Y rn ret pan st p k=some r->Qvp D W P rn c.code st ret pan p k r
theorem Qds{α:Type}{p l m:List α}(h:m=p++l):m.take (m.length-l.length)++l=m:=by subst h;rw[C8,Nat.add_sub_cancel,List.take_left]
theorem Ql8{α:Type}{f:α->Bool}{a b:List α}(h:∃p,b=p++a)(k:(Q83 a b).all f=true):∃p,b=p++a/\p.all f=true:=by obtain⟨p,rfl⟩:=h;rw[Zv]at k;exact⟨p,Z,k⟩
theorem Qmz{m:TMe U}{s:TSt U}{a:Qgm U}(h:Qci m s=some a)(hs:SfM m s.m):Q1j m a=s.m/\s.df=[]:=by unfold Qci at h;cases hd:Q88 s.df []with|false=>rw[hd]at h;cases h|true=>rw[hd]at h;cases h;(have e1:s.m.es.take (s.m.es.length-m.es.length)++m.es=s.m.es:=by obtain⟨p,hp⟩:=hs.es;exact Qds hp);(have e2:s.m.tk.take (s.m.tk.length-m.tk.length)++m.tk=s.m.tk:=by obtain⟨p,hp⟩:=hs.tk;exact Qds hp);have e3:m.nx+(s.m.nx-m.nx)=s.m.nx:=Nat.add_sub_cancel' hs.nx;refine⟨?_,Xf hd⟩;unfold Q1j;dsimp only;rw[e1,e2,e3]
theorem Q9u{s:TSt U}(hd:s.df=[]){nt:Nat}(hn:s.nt=nt):StW (s.er D) ⟨[],(s.m.er D).hp,(s.m.er D).tk,(s.m.er D).nx,nt,[]⟩:=⟨(λt y hy=>by cases hy),λi B h=>⟨B,h,λ_ _ _ h=>h⟩,λi T h=>h,rfl,hn.symm,hd.symm⟩
theorem Q8o{W:Wd}{P:Program}(hP0:P=prog){L d:Nat}{tm:List (Nat×TTV U)}{nt:Nat}{ps:Array Nat}{a b:Tc U}{m:TMe U}{args:List (TAV U)}{s:TSt U}{β:Type}{k:TTV U->TMe U->Option β}{r:β}{e2:Exit}{jump:Option Code}{a3:Qgm U}(hm:∀tk,lk (Qq D tk m.es) L=some (.loop .ready none (QW (TTV.er D tk) tm) nt ps a.code b.code d))(hlen:args.length=ps.size)(hps:ps.toList.all (λt=>Nat.blt t nt)=true)(hs:Sfx ⟨Gq ps.toList args tm,m,nt,[]⟩ s)(hs1:∃q,s.m.es=q++m.es/\q.all (KN L)=true)(hsd:s.df=[])(hx1:∀E ro n Q,Fit W P (some L) E ro->E.V0.nx<=m.nx->XQ E Q .normal (s.er D)->XC E ro n Q a.code ((⟨Gq ps.toList args tm,m,nt,[]⟩:TSt U).er D))(hx2:∀E ro n Q,Fit W P (some L) E ro->E.V0.nx<=s.m.nx->XQ E Q e2 ⟨[],((Q1j ⟨.lp L .busy none tm nt ps a.code b.code d::s.m.es,s.m.tk,s.m.nx⟩ a3).er D).hp,((Q1j ⟨.lp L .busy none tm nt ps a.code b.code d::s.m.es,s.m.tk,s.m.nx⟩ a3).er D).tk,((Q1j ⟨.lp L .busy none tm nt ps a.code b.code d::s.m.es,s.m.tk,s.m.nx⟩ a3).er D).nx,nt,[]⟩->XC E ro n Q b.code ((⟨s.tm,⟨.lp L .busy none tm nt ps a.code b.code d::s.m.es,s.m.tk,s.m.nx⟩,s.nt,s.df⟩:TSt U).er D))(he:U6 e2=some jump)(hr:XY L ⟨.ready,none,tm,nt,ps,a.code,b.code,d⟩ s.m k jump a3=some r):∃o,Qni W D P L args m o/\SfM m o.m/\∀dd:Value->TMe U->Option β,o.to k dd=some r:=by
 obtain⟨q,hq1,hq2⟩:=hs1;unfold XY at hr;split at hr
 · rename_i m' hm'
   unfold J0k at hm'
   cases hall:a3.1.all (KN L)with
   |false=>rw[hall]at hm';cases hm'
   |true=>
     rw[hall,C5]at hm'
     have hsL:∀tk,lk (Qq D tk s.m.es) L=some (.loop .ready none (QW (TTV.er D tk) tm) nt ps a.code b.code d):=λtk=>by
       rw[hq1,W3 q m.es hq2];exact hm tk
     have sfR:SfM m (Q1j s.m a3):=hs.sfm.trans ⟨⟨_,rfl⟩,⟨_,rfl⟩,Nat.le_add_right _ _⟩
     have sfm':SfM m m':=by
       cases jump with
       |none=>cases hm';exact sfR
       |some c=>
         cases hm'
         obtain⟨p,hp⟩:=sfR.es
         exact⟨⟨_::p,by dsimp only;rw[hp];rfl⟩,sfR.tk,sfR.nx⟩
     refine⟨.val (Je4 jump.isNone) m',?_,sfm',λdd=>hr⟩
     intro E st' dd ty pos af g x ars ats hP hW hx ha hmem
     have e_hp:st'.hp=Qq D m.tk m.es:=congrArg Mem.hp hmem
     have e_tk:st'.tk=WB m.tk:=congrArg Mem.tk hmem
     have e_nx:st'.nx=m.nx:=congrArg Mem.nx hmem
     have hal:=(KG ha).1
     have hars:ars.size=ps.size:=by
       rw[<-hlen]
       have:ars.toList.length=args.length:=by rw[hal,Co]
       simpa using this
     have hst:StW (⟨ZQ ps.toList (args.map (TAV.er D m.tk)) (QW (TTV.er D m.tk) tm),st'.hp,st'.tk,st'.nx,nt,[]⟩:St) ((⟨Gq ps.toList args tm,m,nt,[]⟩:TSt U).er D):=
       ⟨λt y hy=>.inr ⟨y,by rw[<-Q2z m.tk ps.toList args tm _ (λ_=>rfl)];exact hy,λ_ _ _ h=>h⟩,λi B hB=>⟨B,by show lk st'.hp i=_;rw[e_hp];exact hB,λ_ _ _ h=>h⟩,λi T hT=>by show lk st'.tk i=_;rw[e_tk];exact hT,e_nx.symm,rfl,rfl⟩
     have hst2:StW (⟨(s.er D).tm,(L,HB.loop .busy none (QW (TTV.er D s.m.tk) tm) nt ps a.code b.code d)::QT L (s.er D).hp,(s.er D).tk,(s.er D).nx,(s.er D).nt,(s.er D).df⟩:St) ((⟨s.tm,⟨.lp L .busy none tm nt ps a.code b.code d::s.m.es,s.m.tk,s.m.nx⟩,s.nt,s.df⟩:TSt U).er D):=
       ⟨λt y hy=>.inr ⟨y,hy,λ_ _ _ h=>h⟩,λi B hB=>⟨B,by show lk ((L,_)::QT L _) i=_;rw[JI];exact hB,λ_ _ _ h=>h⟩,λi T h=>h,rfl,rfl,rfl⟩
     have y:=Qgi (E:=E) (st:=st') (dd:=dd) (ty:=ty) (pos:=pos) (af:=af) (g:=g) (x:=x) (L:=L) (ars:=ars) (ats:=ats) (p0:=none) (tm0:=QW (TTV.er D m.tk) tm) (nt0:=nt) (ps0:=ps) (as0:=a.code) (bd0:=b.code) (D0:=d) (sa:=s.er D) (sb:=⟨[],((Q1j ⟨.lp L .busy none tm nt ps a.code b.code d::s.m.es,s.m.tk,s.m.nx⟩ a3).er D).hp,((Q1j ⟨.lp L .busy none tm nt ps a.code b.code d::s.m.es,s.m.tk,s.m.nx⟩ a3).er D).tk,((Q1j ⟨.lp L .busy none tm nt ps a.code b.code d::s.m.es,s.m.tk,s.m.nx⟩ a3).er D).nx,nt,[]⟩) (e:=e2) (jump:=jump)
       hW hx ha (by rw[e_hp];exact hm m.tk) hars hps
       (by
         intro E' ro' n' Q' hP' hW' hv hro' hq
         exact Kv (To.weak hst) (hx1 E' ro' n' Q' ⟨hP'.trans hP,hW',hro'⟩ (by rw[<-e_nx];exact hv) hq))
       (by rw[e_nx];exact hs.nx) (hsL s.m.tk)
       (by
         intro E' ro' n' Q' hP' hW' hv hro' hq
         exact Kv (To.weak hst2) (hx2 E' ro' n' Q' ⟨hP'.trans hP,hW',hro'⟩ hv hq))
       (by
         show lk (Qq D (a3.2.1++s.m.tk) (a3.1++(.lp L .busy none tm nt ps a.code b.code d::s.m.es))) L=_
         rw[W3 _ _ hall]
         show lk ((L,HB.loop .busy none (QW (TTV.er D (a3.2.1++s.m.tk)) tm) nt ps a.code b.code d)::_) L=_
         rw[Q8,Cf rfl])
       he
     have hN:∀j,j≠L->lk (Qq D (a3.2.1++s.m.tk) (a3.1++(.lp L .busy none tm nt ps a.code b.code d::s.m.es))) j=lk (Qq D (a3.2.1++s.m.tk) (a3.1++s.m.es)) j:=λj hj=>
       Qf6 (N:=λj=>j=L) (λj hj=>by
         show lk ((L,HB.loop .busy none (QW (TTV.er D (a3.2.1++s.m.tk)) tm) nt ps a.code b.code d)::_) j=_
         rw[Q8,Ca (λe=>hj e.symm)]) a3.1 (λe he j hj=>by rw[hj];exact Ch.1 hall e he) j hj
     have hLL:lk (Qq D (a3.2.1++s.m.tk) (a3.1++s.m.es)) L=some (.loop .ready none (QW (TTV.er D (a3.2.1++s.m.tk)) tm) nt ps a.code b.code d):=by
       rw[W3 _ _ hall];exact hsL _
     cases jump with
     |none=>
       cases hm'
       have post:=λm' h1 h2 h3=>Q2m (m':=m') h1 h2 h3 y
       refine post (TMe.er D _) (λi B hB=>⟨B,?_,λ_ _ _ h=>h⟩) (λi T h=>h) Z
       have hB':lk (Qq D (a3.2.1++s.m.tk) (a3.1++s.m.es)) i=some B:=hB
       show lk ((L,HB.loop (if(none:Option Code).isNone then .ready else .done) none (QW (TTV.er D (a3.2.1++s.m.tk)) tm) nt ps a.code b.code d)::QT L (Qq D (a3.2.1++s.m.tk) (a3.1++(.lp L .busy none tm nt ps a.code b.code d::s.m.es)))) i=some B
       rw[JI,Q8]
       by_cases c:L=i
       · subst c;rw[Cf rfl,<-hB',hLL];rfl
       · rw[Ca c,hN i (λe=>c e.symm)];exact hB'
     |some c=>
       cases hm'
       have post:=λm' h1 h2 h3=>Q2m (m':=m') h1 h2 h3 y
       refine post (TMe.er D _) (λi B hB=>⟨B,?_,λ_ _ _ h=>h⟩) (λi T h=>h) Z
       have hB':lk ((L,HB.loop .done (some c) (QW (TTV.er D (a3.2.1++s.m.tk)) tm) nt ps a.code b.code d)::Qq D (a3.2.1++s.m.tk) (a3.1++s.m.es)) i=some B:=hB
       show lk ((L,HB.loop (if(some c:Option Code).isNone then .ready else .done) (some c) (QW (TTV.er D (a3.2.1++s.m.tk)) tm) nt ps a.code b.code d)::QT L (Qq D (a3.2.1++s.m.tk) (a3.1++(.lp L .busy none tm nt ps a.code b.code d::s.m.es)))) i=some B
       rw[JI]
       rw[Q8]at hB'⊢
       by_cases e:L=i
       · rw[Cf e]at hB'⊢;exact hB'
       · rw[Ca e]at hB'⊢;rw[hN i (λe'=>e e'.symm)];exact hB'
 · cases hr
abbrev Qdb(st:TSt U)(ps:Array Nat)(a b:Tc U)(d:Nat):LpT U:=⟨.ready,none,st.tm,st.nt,ps,a.code,b.code,d⟩
theorem J0t{W:Wd}{P:Program}(hP0:P=prog){Y:YH U}{st:TSt U}{ps:Array Nat}{a b:Tc U}{L d nx:Nat}{xs:List (Ev U)}(iha:J6n D C K X W P a)(ihb:J6n D C K X W P b)(hY:YOK W D P Y st.m)(h1:SfM st.m (Q4e st L (Qdb st ps a b d) xs nx)):YOK W D P (λL' args m=>cond (Nat.beq L' L) (cond ((Q83 (Q4e st L (Qdb st ps a b d) xs nx).es m.es).all (KN L)&&(Nat.beq args.length ps.size&&ps.toList.all λt=>Nat.blt t st.nt)) (some ⟨λk _=>Yh D C K X a Y (some L) (R:=Qgm U) (λ_=>none) (λ_ _=>none) ⟨Gq ps.toList args st.tm,m,st.nt,[]⟩ (λ_=>none) λe s=>match e with
      |.normal=>cond ((Q83 m.es s.m.es).all (KN L)&&Q88 s.df []) (Yh D C K X b Y (some L) (Qci ⟨.lp L .busy none st.tm st.nt ps a.code b.code d::s.m.es,s.m.tk,s.m.nx⟩) (λ_ _=>none) ⟨s.tm,⟨.lp L .busy none st.tm st.nt ps a.code b.code d::s.m.es,s.m.tk,s.m.nx⟩,s.nt,s.df⟩ (XY L ⟨.ready,none,st.tm,st.nt,ps,a.code,b.code,d⟩ s.m k (some .ret)) λe s2=>match e with
        |.normal=>Option.bind (Qci ⟨.lp L .busy none st.tm st.nt ps a.code b.code d::s.m.es,s.m.tk,s.m.nx⟩ s2) (XY L ⟨.ready,none,st.tm,st.nt,ps,a.code,b.code,d⟩ s.m k none)
        |.exit id=>Option.bind (Qci ⟨.lp L .busy none st.tm st.nt ps a.code b.code d::s.m.es,s.m.tk,s.m.nx⟩ s2) (XY L ⟨.ready,none,st.tm,st.nt,ps,a.code,b.code,d⟩ s.m k (some (.exit id)))
        |_=>none) none
      |_=>none⟩) none) (Y L' args m)) (Q4e st L (Qdb st ps a b d) xs nx):=by
 intro L' args m xo hm hy
 dsimp only at hy
 cases hb:Nat.beq L' L with
 |false=>rw[hb,C6]at hy;exact hY L' args m xo (h1.trans hm) hy
 |true=>
  have eL:=Cc hb
  subst eL
  rw[hb,C5]at hy
  cases hc:((Q83 (Q4e st L' (Qdb st ps a b d) xs nx).es m.es).all (KN L')&&(Nat.beq args.length ps.size&&ps.toList.all λt=>Nat.blt t st.nt))with
  |false=>rw[hc]at hy;cases hy
  |true=>
   rw[hc,C5]at hy
   cases hy
   obtain⟨c1,c23⟩:=C2.1 hc
   obtain⟨c2,c3⟩:=C2.1 c23
   obtain⟨q,hq1,hq2⟩:=Ql8 hm.es c1
   have hmL:∀tk,lk (Qq D tk m.es) L'=some (.loop .ready none (QW (TTV.er D tk) st.tm) st.nt ps a.code b.code d):=λtk=>by
    rw[hq1,W3 q _ hq2]
    show lk ((L',HB.loop .ready none (QW (TTV.er D tk) st.tm) st.nt ps a.code b.code d)::_) L'=_
    rw[Q8,Cf rfl]
   intro β k dd r hr
   rcases iha (hY.mono (h1.trans hm)) hr with⟨e,s,hs,hk,hx⟩|⟨a',hp,-⟩
   ·cases e with
    |normal=>
     dsimp only at hk
     cases hd:((Q83 m.es s.m.es).all (KN L')&&Q88 s.df [])with
     |false=>rw[hd]at hk;cases hk
     |true=>
      rw[hd,C5]at hk
      obtain⟨d1,d2⟩:=C2.1 hd
      have hs1:=Ql8 hs.es d1
      have hsd:=Xf d2
      have hYb:YOK W D P Y (⟨.lp L' .busy none st.tm st.nt ps a.code b.code d::s.m.es,s.m.tk,s.m.nx⟩:TMe U):=(hY.mono ((h1.trans hm).trans hs.sfm)).mono ⟨⟨[_],rfl⟩,⟨[],rfl⟩,Cl _⟩
      have fin:∀(e2:Exit)(jump:Option Code)(s2:TSt U),U6 e2=some jump->Sfx ⟨s.tm,⟨.lp L' .busy none st.tm st.nt ps a.code b.code d::s.m.es,s.m.tk,s.m.nx⟩,s.nt,s.df⟩ s2->Option.bind (Qci ⟨.lp L' .busy none st.tm st.nt ps a.code b.code d::s.m.es,s.m.tk,s.m.nx⟩ s2) (XY L' ⟨.ready,none,st.tm,st.nt,ps,a.code,b.code,d⟩ s.m k jump)=some r ->
        (∀E ro n Q,Fit W P (some L') E ro->E.V0.nx<=s.m.nx->XQ E Q e2 (s2.er D)->XC E ro n Q b.code ((⟨s.tm,⟨.lp L' .busy none st.tm st.nt ps a.code b.code d::s.m.es,s.m.tk,s.m.nx⟩,s.nt,s.df⟩:TSt U).er D)) ->
        ∃o,Qni W D P L' args m o/\SfM m o.m/\o.to k dd=some r:=by
       intro e2 jump s2 he hs2 hbind hx2
       obtain⟨a3,ha3,hr3⟩:=Zt hbind
       obtain⟨em,ed⟩:=Qmz ha3 hs2.sfm
       obtain⟨o,o1,o2,o3⟩:=Q8o (D:=D) (W:=W) hP0 hmL (Cc c2) c3 hs hs1 hsd (λE ro n Q f h0 hq=>hx E ro n Q f h0 hq) (λE ro n Q f h0 hq=>hx2 E ro n Q f h0 (UL (To.weak (by rw[em];exact Q9u ed (hs2.nt.trans hs.nt))) hq)) he hr3
       exact⟨o,o1,o2,o3 dd⟩
      rcases ihb hYb hk with⟨e2,s2,hs2,hk2,hx2⟩|⟨a2,hp2,-,hx2⟩
      ·cases e2 with
       |normal=>exact fin .normal none s2 rfl hs2 hk2 hx2
       |exit id=>exact fin (.exit id) (some (.exit id)) s2 rfl hs2 hk2 hx2
       |ret=>cases hk2
       |goto l=>cases hk2
       |panic c=>cases hk2
       |outgrown=>cases hk2
      ·obtain⟨o,o1,o2,o3⟩:=Q8o (D:=D) (W:=W) hP0 (e2:=.ret) (jump:=some .ret) hmL (Cc c2) c3 hs hs1 hsd (λE ro n Q f h0 hq=>hx E ro n Q f h0 hq) (λE ro n Q f h0 hq=>hx2 E ro n Q f h0 (λs2 hs2 hr2=>by
        obtain⟨em,ed⟩:=Qmz hr2 hs2.sfm
        exact UL (To.weak (by rw[em];exact Q9u ed (hs2.nt.trans hs.nt))) hq) (λv s2 _ h=>by cases h)) rfl hp2
       exact⟨o,o1,o2,o3 dd⟩
    |exit id=>cases hk
    |ret=>cases hk
    |goto l=>cases hk
    |panic c=>cases hk
    |outgrown=>cases hk
   ·cases hp
theorem Qr9{m2:TMe U}{L:Nat}{e:Exit}(h:Jac m2 L=some e):∃F:LpT U,Do m2.es L=some F/\F.s ≠ .busy/\U6 e=some F.p:=by unfold Jac at h;split at h;rename_i F hF;refine⟨F,hF,?_⟩;split at h;rename_i h1 h2;cases h;rw[h1,h2];exact⟨by simp,rfl⟩;rename_i h1 h2;cases h;rw[h1,h2];exact⟨by simp,rfl⟩;rename_i id h1 h2;cases h;rw[h1,h2];exact⟨by simp,rfl⟩;cases h;cases h
theorem J00{N:Nat->Prop}{L:Nat}(hNL:N L){st:TSt U}{m1 m2:TMe U}(hsf:SfM m1 m2)(hbase:∀tk j,¬N j->lk (Qq D tk m1.es) j=lk (Qq D tk st.m.es) j)(hq:∀e∈Qw5 L m1 m2,∀j,N j->KN j e=true)(hst:∀j,N j->st.m.es.all (KN j)=true):∀i B,lk (Qq D m2.tk (Qw5 L m1 m2++st.m.es)) i=some B->¬N i/\lk (Qq D m2.tk m2.es) i=some B:=by
 intro i B hB;obtain⟨q,hqe⟩:=hsf.es;have eq:Qw5 L m1 m2=q.filter λe=>!(Q85 L e):=by unfold Qw5;rw[hqe,Zv]
 by_cases hn:N i;rw[Q8z (L:=i) (by rw[List.all_append];exact C2.2 ⟨Ch.2 λe he=>hq e he i hn,hst i hn⟩)]at hB;cases hB;refine⟨hn,?_⟩;rw[eq]at hB hq;rw[hqe,Qir hNL (hbase m2.tk) q hq i hn];exact hB
theorem Qku{st:TSt U}{L:Nat}{m1 m2:TMe U}{hp:List (Nat×HB)}(ha:ZB (Ui m2.tk st.m.tk) st.tm=true)(hk:∃p,m2.tk=p++st.m.tk)(hh:∀i B,lk (Qq D m2.tk (Qw5 L m1 m2++st.m.es)) i=some B->lk hp i=some B):StW (⟨(st.er D).tm,hp,(m2.er D).tk,(m2.er D).nx,(st.er D).nt,(st.er D).df⟩:St) ((J13 st L m1 m2).er D):=
 ⟨λt y hy=>by
  have hy':lk (QW (TTV.er D m2.tk) st.tm) t=some y:=hy;rw[QY]at hy';cases hz:lk st.tm t with
  |none=>rw[hz]at hy';cases hy'
  |some z=>rw[hz]at hy';cases hy';exact .inr ⟨z.er D st.m.tk,by show lk (QW _ st.tm) t=_;rw[QY,hz];rfl,λV w v hv=>XI ha hk hz V w v hv⟩,λi B hB=>⟨B,hh i B hB,λ_ _ _ h=>h⟩,λi T h=>h,rfl,rfl,rfl⟩
theorem Q5g{st:TSt U}{L:Nat}{m1 m2:TMe U}(h:SfM st.m m2):Sfx st (J13 st L m1 m2):=⟨⟨[],rfl⟩,⟨_,rfl⟩,h.tk,h.nx,rfl,.inr rfl⟩
theorem Qrk{W:Wd}{P:Program}(hP0:P=prog)(hX:UM W D P X){g:Operand}{ps:Array Nat}{a b:Tc U}(iha:J6n D C K X W P a)(ihb:J6n D C K X W P b):J6n D C K X W P (.range g ps a b):=by
 intro Y rn R ret pan β st p k r hY h;show Qvp D W P rn (.rangeFunc g ps a.code b.code) st ret pan p k r;unfold Yh at h;split at h;rename_i gf caps L d xs nx hx hB;split at h;rename_i xo hxo;have hBx:SfM st.m (Q4e st L (Qdb st ps a b d) xs nx):=by refine⟨⟨(Qdb st ps a b d).ev L .ready none::xs,Z⟩,⟨[],Z⟩,?_⟩;unfold Jaz at hB;split at hB;cases hB;exact Nat.le_add_right _ _;split at hB;cases hB;exact Nat.le_add_right _ _;cases hB
 have hY':=J0t (xs:=xs) (nx:=nx) hP0 iha ihb hY hBx;obtain⟨q,q1,q2,q3⟩:=hX _ _ _ _ _ hY' hxo _ _ _ h;have q1':CallO W P gf (.one (.yld L)::K9 caps) ((Q4e st L (Qdb st ps a b d) xs nx).er D) (q.er D):=by have:CallO W P gf (List.map (TAV.er D st.m.tk) (.one (.raw (.yld L))::Qa8 caps)) ((Q4e st L (Qdb st ps a b d) xs nx).er D) (q.er D):=q1;rw[CJ,Qfz]at this;exact this
 have lay:∀m2:TMe U,SfM (Q4e st L (Qdb st ps a b d) xs nx) m2->Qra rn st L (Q4e st L (Qdb st ps a b d) xs nx) m2=true -> (∀x,Q7u W P gf (.one (.yld L)::K9 caps) ((Q4e st L (Qdb st ps a b d) xs nx).er D) x (m2.er D)->∀e,Jac m2 L=some e->∀E ro n Q,Fit W P rn E ro->E.V0.nx<=st.m.nx->XQ E Q e ((J13 st L (Q4e st L (Qdb st ps a b d) xs nx) m2).er D)->XC E ro n Q (.rangeFunc g ps a.code b.code) (st.er D)) /\ (∀v,Q7w W P gf (.one (.yld L)::K9 caps) ((Q4e st L (Qdb st ps a b d) xs nx).er D) v (m2.er D)->∀E ro n Q,Fit W P rn E ro->E.V0.nx<=st.m.nx->XQ E Q (.panic (Kz v)) ((J13 st L (Q4e st L (Qdb st ps a b d) xs nx) m2).er D)->XC E ro n Q (.rangeFunc g ps a.code b.code) (st.er D)):=by
  intro m2 hsf hok;obtain⟨o1,w2⟩:=C2.1 hok;obtain⟨o2,w3⟩:=C2.1 w2;obtain⟨o3,w4⟩:=C2.1 w3;have htk:∃p,m2.tk=p++st.m.tk:=(hBx.trans hsf).tk;have hg:=Z6 (D:=D) hx;unfold Jaz at hB;split at hB
  ·
   cases hB
   obtain⟨o4,o5⟩:=C2.1 w4
   have hN:=J00 (D:=D) (N:=λj=>j=st.m.nx+1\/j=st.m.nx) (L:=st.m.nx+1) (st:=st) (.inl rfl) hsf (λtk j hj=>by
     show lk ((st.m.nx+1,HB.loop .ready none (QW (TTV.er D tk) st.tm) st.nt ps a.code b.code st.m.nx)::(st.m.nx,HB.obj (.deferred (some [])))::Qq D tk st.m.es) j=_
     rw[Q8,Ca (λe=>hj (.inl e.symm)),Q8,Ca (λe=>hj (.inr e.symm))])
    (λe he j hj=>by
     rcases hj with rfl|rfl
     ·exact Ch.1 o2 e he
     ·exact Ch.1 o4 e he)
    (λj hj=>by
     rcases hj with rfl|rfl
     ·exact o3
     ·exact o5)
   have hw:=Qku (D:=D) (st:=st) (L:=st.m.nx+1) (m1:=Q4e st (st.m.nx+1) (Qdb st ps a b st.m.nx) [.raw st.m.nx (.obj (.deferred (some [])))] (st.m.nx+2)) (m2:=m2) (hp:=QT (st.er D).nx (QT ((st.er D).nx+1) (m2.er D).hp)) o1 htk (λi B hB=>by
    obtain⟨h1,h2⟩:=hN i B hB
    show lk (QT st.m.nx (QT (st.m.nx+1) (Qq D m2.tk m2.es))) i=some B
    rw[Y0,Ca (λe=>h1 (.inr e)),Y0,Ca (λe=>h1 (.inl e))]
    exact h2)
   have hD:lk (m2.er D).hp (st.er D).nx=some (.obj (.deferred (some []))):=by
    obtain⟨q,hq⟩:=hsf.es
    have hqa:q.all (KN st.m.nx)=true:=by
     refine Ch.2 λe he=>?_
     cases hl:Q85 (st.m.nx+1) e with
     |false=>
      refine Ch.1 o4 e ?_
      unfold Qw5
      rw[hq,Zv]
      exact PT.2 ⟨he,by rw[hl];rfl⟩
     |true=>
      cases e with
      |lp i s p tm nt ps a b d=>
       have ei:i=st.m.nx+1:=Cc hl
       show(!(Nat.beq i st.m.nx))=true
       cases hbq:Nat.beq i st.m.nx with
       |false=>rfl
       |true=>have:=Cc hbq;omega
      |box i T xs=>cases hl
      |raw i C=>cases hl
      |ls i xs=>cases hl
      |set i off xs=>cases hl
    show lk (Qq D m2.tk m2.es) st.m.nx=_
    rw[hq,W3 q _ hqa]
    show lk ((st.m.nx+1,HB.loop .ready none (QW (TTV.er D m2.tk) st.tm) st.nt ps a.code b.code st.m.nx)::(st.m.nx,HB.obj (.deferred (some [])))::Qq D m2.tk st.m.es) st.m.nx=_
    rw[Q8,Ca (by omega),Q8,Cf rfl]
   refine⟨λx hc e he E ro n Q f h0 hq=>?_,λv hc E ro n Q f h0 hq=>?_⟩
   ·obtain⟨F,hF,hs,hj⟩:=Qr9 he
    exact Q5l (W:=W) (st:=st.er D) hg hc (G6 hF) hD hs hj E ro n Q f.P f.W h0 f.rn (X4 hw hq)
   ·exact Q3u (W:=W) (st:=st.er D) hg hc hD E ro n Q f.P f.W h0 f.rn (X4 hw hq)
  ·
   rename_i L0
   split at hB
   ·rename_i F0 hF0
    cases hB
    have hN:=J00 (D:=D) (N:=λj=>j=st.m.nx) (L:=st.m.nx) (st:=st) rfl hsf (λtk j hj=>by
      show lk ((st.m.nx,HB.loop .ready none (QW (TTV.er D tk) st.tm) st.nt ps a.code b.code F0.d)::Qq D tk st.m.es) j=_
      rw[Q8,Ca (λe=>hj e.symm)])
     (λe he j hj=>by rw[hj];exact Ch.1 o2 e he)
     (λj hj=>by rw[hj];exact o3)
    have hw:=Qku (D:=D) (st:=st) (L:=st.m.nx) (m1:=Q4e st st.m.nx (Qdb st ps a b F0.d) [] (st.m.nx+1)) (m2:=m2) (hp:=QT (st.er D).nx (m2.er D).hp) o1 htk (λi B hB=>by
     obtain⟨h1,h2⟩:=hN i B hB
     show lk (QT st.m.nx (Qq D m2.tk m2.es)) i=some B
     rw[Y0,Ca h1]
     exact h2)
    refine⟨λx hc e he E ro n Q f h0 hq=>?_,λv hc E ro n Q f h0 hq=>?_⟩
    ·obtain⟨F,hF,hs,hj⟩:=Qr9 he
     exact Q82 (W:=W) (st:=st.er D) hg (G6 hF0) hc (G6 hF) hs hj E ro n Q f.P f.W h0 f.rn (X4 hw hq)
    ·exact Q5m (W:=W) (st:=st.er D) hg (G6 hF0) hc E ro n Q f.P f.W h0 f.rn (X4 hw hq)
   ·cases hB
 cases q with|val x m2=>(dsimp only[OutT.to]at q3;cases hok:Qra rn st L (Q4e st L (Qdb st ps a b d) xs nx) m2 with|false=>rw[hok]at q3;cases q3|true=>rw[hok,C5]at q3;have l1:=(lay m2 q2 hok).1 _ q1';split at q3;rename_i he;obtain⟨y,y1,y2⟩:=Zt q3;exact .inr ⟨y,y2,⟨_,Q5g (hBx.trans q2),.inl y1⟩,λE ro n Q f h0 hr hp=>l1 _ he E ro n Q f h0 (hr _ (Q5g (hBx.trans q2)) y1)⟩;rename_i e hne he;exact .inl ⟨e,_,Q5g (hBx.trans q2),q3,λE ro n Q f h0 hq=>l1 _ he E ro n Q f h0 hq⟩;cases q3)|die v m2=>dsimp only[OutT.to]at q3;cases hok:Qra rn st L (Q4e st L (Qdb st ps a b d) xs nx) m2 with|false=>rw[hok]at q3;cases q3|true=>rw[hok,C5]at q3;obtain⟨y,y1,y2⟩:=Zt q3;exact .inr ⟨y,y2,⟨_,Q5g (hBx.trans q2),.inr ⟨v,y1⟩⟩,λE ro n Q f h0 hr hp=>(lay m2 q2 hok).2 v q1' E ro n Q f h0 (hp v _ (Q5g (hBx.trans q2)) y1)⟩
 cases h;cases h
theorem Q9j{σ β:Type}{step:σ->Option (LO σ β)}{b:β}:∀{k:Nat}{t:σ},Qc step k t=some b->∃t',step t'=some (.done b)|0,t,h=>by cases h|k+1,t,h=>by obtain⟨m,o,hm,h1,h2⟩:=Qt9 h;cases o with|next s'=>(have:m=k:=by omega);subst this;exact Q9j h2|done b'=>cases h2;exact⟨t,h1⟩
theorem JP{W:Wd}{P:Program}(hP0:P=prog)(hm:P.follows .mixedOrders=true)(hT:C.T.OK P)(hD:D.OK)(hK:Q2n W D P K)(hX:UM W D P X):∀c:Tc U,J6n D C K X W P c
 |.skip=>by intro Y rn R ret pan β st p k r hY h;exact .inl ⟨.normal,st,Sfx.refl st,h,λE ro n Q f h0 hq=>Qp hq⟩
 |.reg id ops=>by intro Y rn R ret pan β st p k r hY h;have h1:Q3w D C K X Y rn ops (λv s=>Option.bind (pan v s) p) ops.toList st (k .normal)=some r:=h;(have e:ops.toList.toArray=ops:=by simp);have h2:=Q07 hT hD hK hX (ops:=ops.toList.toArray) ops.toList hY (by rw[e];exact h1);(have hc:(Tc.reg id ops:Tc U).code=.region id ops.toList.toArray false:=by rw[e];rfl);rw[hc];rcases h2 with⟨s,q1,q2,q3⟩|⟨v,s,q1,q2,q3⟩;exact .inl ⟨.normal,s,q1,q2,λE ro n Q f h0 hq=>Q0 (q3 E ro n Q f (Q2 hq))⟩;obtain⟨a,a1,a2⟩:=Zt q2;exact .inr ⟨a,a2,⟨s,q1,.inr ⟨v,a1⟩⟩,λE ro n Q f h0 hr hp=>Q0 (q3 E ro n Q f (hp v s q1 a1))⟩
 |.draw id effs ops=>by
  intro Y rn R ret pan β st p k r hY h;have h1:_root_.cond (Qfr ops effs) (_root_.cond (Q1v ops) (_root_.cond (Qj8 ops effs).isEmpty (Qpi D C K X Y ops effs st (λv s=>Option.bind (pan v s) p) 0 ops.toList st) none) (KU D C K X Y ops effs (λv s=>Option.bind (pan v s) p) 0 ops.toList st [] [] (k .normal))) none=some r:=h;cases hB:Qfr ops effs with
  |false=>rw[hB]at h1;cases h1
  |true=>
   rw[hB,C5]at h1;cases hL:Q1v ops with
   |true=>rw[hL,C5]at h1;cases hE:(Qj8 ops effs).isEmpty with|false=>rw[hE]at h1;cases h1|true=>rw[hE,C5]at h1;obtain⟨v,q1,q2⟩:=J5f (id:=id) hm hT hD hK hX hY hB hE h1;obtain⟨a,a1,a2⟩:=Zt q1;have hsf:Sfx st (Qh0 st):=⟨⟨_,rfl⟩,⟨[],rfl⟩,⟨[],rfl⟩,Cl _,rfl,.inr rfl⟩;exact .inr ⟨a,a2,⟨_,hsf,.inr ⟨v,a1⟩⟩,λE ro n Q f h0 hr hp=>q2 E ro n Q f.P f.W (hp v _ hsf a1)⟩
   |false=>
   rw[hL,C6]at h1;rcases Qz4 (id:=id) hm hT hD hK hX hY hB h1 with⟨s,q1,q2,q3⟩|⟨v,s,q1,q2,q3⟩;exact .inl ⟨.normal,s,q1,q2,λE ro n Q f h0 hq=>q3 E ro n Q f.P f.W hq⟩;obtain⟨a,a1,a2⟩:=Zt q2;exact .inr ⟨a,a2,⟨s,q1,.inr ⟨v,a1⟩⟩,λE ro n Q f h0 hr hp=>q3 E ro n Q f.P f.W (hp v s q1 a1)⟩
 |.seq a b=>by intro Y rn R ret pan β st p k r hY h;show Qvp D W P rn (.seq a.code b.code) st ret pan p k r;rcases JP hP0 hm hT hD hK hX a hY h with⟨e,s,hs,hk,hx⟩|⟨y,hp,hex,hx⟩;(cases e with|normal=>(rcases JP hP0 hm hT hD hK hX b (hY.mono hs.sfm) hk with⟨e2,s2,hs2,hk2,hx2⟩|⟨y,hp2,⟨s2,hs2,ha2⟩,hx2⟩;exact .inl ⟨e2,s2,hs.trans hs2,hk2,λE ro n Q f h0 hq=>Q3 (hx E ro n _ f h0 (Q1 (hx2 E ro n Q f (Cg h0 hs.nx) hq)))⟩;exact .inr ⟨y,hp2,⟨s2,hs.trans hs2,ha2⟩,λE ro n Q f h0 hr hpn=>Q3 (hx E ro n _ f h0 (Q1 (hx2 E ro n Q f (Cg h0 hs.nx) (λs2 h2=>hr s2 (hs.trans h2)) (λv s2 h2=>hpn v s2 (hs.trans h2)))))⟩)|exit j=>exact .inl ⟨_,s,hs,hk,λE ro n Q f h0 hq=>Q3 (hx E ro n _ f h0 hq)⟩|goto l=>exact .inl ⟨_,s,hs,hk,λE ro n Q f h0 hq=>Q3 (hx E ro n _ f h0 hq)⟩|ret=>exact .inl ⟨_,s,hs,hk,λE ro n Q f h0 hq=>Q3 (hx E ro n _ f h0 hq)⟩|panic c=>exact .inl ⟨_,s,hs,hk,λE ro n Q f h0 hq=>Q3 (hx E ro n _ f h0 hq)⟩|outgrown=>exact .inl ⟨_,s,hs,hk,λE ro n Q f h0 hq=>Q3 (hx E ro n _ f h0 hq)⟩);exact .inr ⟨y,hp,hex,λE ro n Q f h0 hr hpn=>Q3 (hx E ro n _ f h0 (λs2 h2 e=>hr s2 h2 e) (λv s2 h2 e=>hpn v s2 h2 e))⟩
 |.cond c a b=>by intro Y rn R ret pan β st p k r hY h;show Qvp D W P rn (.cond c a.code b.code) st ret pan p k r;unfold Yh at h;split at h;rename_i v hv;have ec:=Z6 (D:=D) hv;(cases hvv:v with|true=>(rw[hvv]at h ec;rcases JP hP0 hm hT hD hK hX a hY h with⟨e,s,hs,hk,hx⟩|⟨y,hp,hex,hx⟩;exact .inl ⟨e,s,hs,hk,λE ro n Q f h0 hq=>Qi ec (λ_=>hx E ro n Q f h0 hq) (λe=>by cases e)⟩;exact .inr ⟨y,hp,hex,λE ro n Q f h0 hr hpn=>Qi ec (λ_=>hx E ro n Q f h0 hr hpn) (λe=>by cases e)⟩)|false=>rw[hvv]at h ec;rcases JP hP0 hm hT hD hK hX b hY h with⟨e,s,hs,hk,hx⟩|⟨y,hp,hex,hx⟩;exact .inl ⟨e,s,hs,hk,λE ro n Q f h0 hq=>Qi ec (λe=>by cases e) (λ_=>hx E ro n Q f h0 hq)⟩;exact .inr ⟨y,hp,hex,λE ro n Q f h0 hr hpn=>Qi ec (λe=>by cases e) (λ_=>hx E ro n Q f h0 hr hpn)⟩);cases h
 |.block id b=>by intro Y rn R ret pan β st p k r hY h;show Qvp D W P rn (.block id b.code) st ret pan p k r;rcases JP hP0 hm hT hD hK hX b hY h with⟨e,s,hs,hk,hx⟩|⟨y,hp,hex,hx⟩;(cases e with|normal=>exact .inl ⟨.normal,s,hs,hk,λE ro n Q f h0 hq=>QC (hx E ro n _ f h0 (QU hq))⟩|exit j=>(dsimp only at hk;cases hb:Nat.beq j id with|true=>rw[hb]at hk;have e:=Cc hb;subst e;exact .inl ⟨.normal,s,hs,hk,λE ro n Q f h0 hq=>QC (hx E ro n _ f h0 (Jo hq))⟩|false=>rw[hb]at hk;exact .inl ⟨.exit j,s,hs,hk,λE ro n Q f h0 hq=>QC (hx E ro n _ f h0 (Qpt (KW hb) hq))⟩)|goto l=>exact .inl ⟨_,s,hs,hk,λE ro n Q f h0 hq=>QC (hx E ro n _ f h0 hq)⟩|ret=>exact .inl ⟨_,s,hs,hk,λE ro n Q f h0 hq=>QC (hx E ro n _ f h0 hq)⟩|panic c=>exact .inl ⟨_,s,hs,hk,λE ro n Q f h0 hq=>QC (hx E ro n _ f h0 hq)⟩|outgrown=>exact .inl ⟨_,s,hs,hk,λE ro n Q f h0 hq=>QC (hx E ro n _ f h0 hq)⟩);exact .inr ⟨y,hp,hex,λE ro n Q f h0 hr hpn=>QC (hx E ro n _ f h0 (λs2 h2 e=>hr s2 h2 e) (λv s2 h2 e=>hpn v s2 h2 e))⟩
 |.bloop id h ho b=>by intro Y rn R ret pan β st p k r hY hx;show Qvp D W P rn (.block id (.loop b.code)) st ret pan p k r;unfold Yh at hx;split at hx;cases hx;rename_i L s0 hl;have hto:=λE=>(YG (E:=E) hD hl).1;obtain⟨-,hsf,hw⟩:=YG (E:=⟨P,default,λ_=>False,⟨0,λ_=>0,λ_ _=>undef,λ_=>0,λ_ _=>False⟩⟩) hD hl;split at hx;rename_i t0 Lo ht0 hLo;have hwo:=Q1w hLo;obtain⟨o,hloop,hcont⟩:=Zt hx;refine .inl ⟨.normal,lab Lo s0 o,hsf.trans (YE s0 o),hcont,λE ro n Q f h0 hq=>?_⟩;have h00:E.V0.nx<=s0.m.nx:=Cg h0 hsf.nx;refine Kv (hto E) (QC (Qga _ (λt=>(lab L s0 t).er D) t0 o (U3 hD ⟨Sfx.refl _,hw,ht0⟩ h00) hloop (λt m lo hstep hsays=>?_)));rcases JP hP0 hm hT hD hK hX b (hY.mono (hsf.trans (YE s0 t)).sfm) hstep with⟨e,s,hs,hk,hb⟩|⟨y,hp,-⟩;refine hb E ro n _ f h00 ?_;have hs0:Sfx s0 s:=(YE s0 t).trans hs;(cases e with|normal=>(obtain⟨t',hp,rfl⟩:=KA hk;exact Q9k hD hw h00 hs0 hp hsays)|exit j=>(dsimp only at hk;cases hbq:Nat.beq j id with|false=>rw[hbq]at hk;cases hk|true=>rw[hbq,C5]at hk;have e:=Cc hbq;subst e;obtain⟨o',hp,rfl⟩:=KA hk;have eo:o'=o:=hsays;subst eo;exact Qfn (UL (U3 hD ⟨hs0,hwo,hp⟩ h00) hq))|goto l=>cases hk|ret=>cases hk|panic c=>cases hk|outgrown=>cases hk);cases hp;cases hx
 |.bloopE id h ho b=>by intro Y rn R ret pan β st p k r hY hx;show Qvp D W P rn (.block id (.loop b.code)) st ret pan p k r;unfold Yh at hx;split at hx;cases hx;rename_i L s0 hl;have hto:=λE=>(YG (E:=E) hD hl).1;obtain⟨-,hsf,hw⟩:=YG (E:=⟨P,default,λ_=>False,⟨0,λ_=>0,λ_ _=>undef,λ_=>0,λ_ _=>False⟩⟩) hD hl;split at hx;rename_i t0 Lo ht0 hLo;have hwo:=Q1w hLo;obtain⟨o,hloop,hcont⟩:=Zt hx;(have key:∀E ro n Q,Fit W P rn E ro->E.V0.nx<=st.m.nx->(∀o',o=.inl o'->XQ E Q .normal ((lab Lo s0 o').er D))->(∀y,o=.inr y->(∀s,Sfx st s->ret s=some y->XQ E Q .ret (s.er D))/\∀v s,Sfx st s->pan v s=some y->XQ E Q (.panic (Kz v)) (s.er D))->XC E ro n Q (.block id (.loop b.code)) (st.er D):=by intro E ro n Q f h0 hl1 hl2;have h00:E.V0.nx<=s0.m.nx:=Cg h0 hsf.nx;refine Kv (hto E) (QC (Qga _ (λt=>(lab L s0 t).er D) t0 o (U3 hD ⟨Sfx.refl _,hw,ht0⟩ h00) hloop (λt m lo hstep hsays=>?_)));rcases JP hP0 hm hT hD hK hX b (hY.mono (hsf.trans (YE s0 t)).sfm) hstep with⟨e,s,hs,hk,hb⟩|⟨y,hp,-,hb⟩;refine hb E ro n _ f h00 ?_;have hs0:Sfx s0 s:=(YE s0 t).trans hs;(cases e with|normal=>(obtain⟨t',hp,rfl⟩:=KA hk;exact Q9k hD hw h00 hs0 hp hsays)|exit j=>(dsimp only at hk;cases hbq:Nat.beq j id with|false=>rw[hbq]at hk;cases hk|true=>rw[hbq,C5]at hk;have e:=Cc hbq;subst e;obtain⟨o',hp,rfl⟩:=KA hk;have eo:Sum.inl o'=o:=hsays;exact Qfn (UL (U3 hD ⟨hs0,hwo,hp⟩ h00) (hl1 o' eo.symm)))|goto l=>cases hk|ret=>cases hk|panic c=>cases hk|outgrown=>cases hk);cases hp;have eo:Sum.inr y=o:=hsays;obtain⟨g1,g2⟩:=hl2 y eo.symm;refine hb E ro n _ f h00 (λs hs hr=>Q9x (λe=>by cases e) (λe=>by cases e) (g1 s (hsf.trans ((YE s0 t).trans hs)) hr)) (λv s hs hr=>Q9x (λe=>by cases e) (λe=>by cases e) (g2 v s (hsf.trans ((YE s0 t).trans hs)) hr)));(cases o with|inl o'=>exact .inl ⟨.normal,lab Lo s0 o',hsf.trans (YE s0 o'),hcont,λE ro n Q f h0 hq=>key E ro n Q f h0 (λo2 e=>by cases e;exact hq) (λy e=>by cases e)⟩|inr y=>obtain⟨t,hst⟩:=Q9j hloop;(have hex:∃s,Sfx st s/\(ret s=some y\/∃v,pan v s=some y):=by rcases JP hP0 hm hT hD hK hX b (hY.mono (hsf.trans (YE s0 t)).sfm) hst with⟨e,s,hs,hk,hb⟩|⟨y',hp,⟨s,hs,ha⟩,-⟩;(cases e with|normal=>(obtain⟨t',-,e⟩:=KA hk;cases e)|exit j=>(dsimp only at hk;cases hbq:Nat.beq j id with|false=>rw[hbq]at hk;cases hk|true=>rw[hbq,C5]at hk;obtain⟨t',-,e⟩:=KA hk;cases e)|goto l=>cases hk|ret=>cases hk|panic c=>cases hk|outgrown=>cases hk);cases hp;exact⟨s,hsf.trans ((YE s0 t).trans hs),ha⟩);exact .inr ⟨y,hcont,hex,λE ro n Q f h0 hr hp=>key E ro n Q f h0 (λo2 e=>by cases e) (λy2 e=>by cases e;exact⟨hr,hp⟩)⟩);cases hx
 |.join h b=>by intro Y rn R ret pan β st p k r hY hx;show Qvp D W P rn b.code st ret pan p k r;unfold Yh at hx;split at hx;cases hx;rename_i L s0 hl;have hto:=λE=>(YG (E:=E) hD hl).1;obtain⟨-,hsf,hw⟩:=YG (E:=⟨P,default,λ_=>False,⟨0,λ_=>0,λ_ _=>undef,λ_=>0,λ_ _=>False⟩⟩) hD hl;obtain⟨t0,hb,hcont⟩:=Zt hx;refine .inl ⟨.normal,lab L s0 t0,hsf.trans (YE s0 t0),hcont,λE ro n Q f h0 hq=>Kv (hto E) ?_⟩;have h00:E.V0.nx<=s0.m.nx:=Cg h0 hsf.nx;rcases JP hP0 hm hT hD hK hX b (hY.mono hsf.sfm) hb with⟨e,s,hs,hk,hb2⟩|⟨y,hp,-⟩;refine hb2 E ro n Q f h00 ?_;(cases e with|normal=>(obtain⟨t',hp,e⟩:=KA hk;have e':t'=t0:=e;subst e';exact UL (U3 hD ⟨hs,hw,hp⟩ h00) hq)|exit j=>cases hk|goto l=>cases hk|ret=>cases hk|panic c=>cases hk|outgrown=>cases hk);cases hp
 |.joinE h b=>by intro Y rn R ret pan β st p k r hY hx;show Qvp D W P rn b.code st ret pan p k r;unfold Yh at hx;split at hx;cases hx;rename_i L s0 hl;have hto:=λE=>(YG (E:=E) hD hl).1;obtain⟨-,hsf,hw⟩:=YG (E:=⟨P,default,λ_=>False,⟨0,λ_=>0,λ_ _=>undef,λ_=>0,λ_ _=>False⟩⟩) hD hl;obtain⟨t0,hb,hcont⟩:=Zt hx;rcases JP hP0 hm hT hD hK hX b (hY.mono hsf.sfm) hb with⟨e,s,hs,hk,hb2⟩|⟨y,hp,⟨s1,hs1,ha1⟩,hb2⟩;(cases e with|normal=>(obtain⟨t',hp,rfl⟩:=KA hk;refine .inl ⟨.normal,lab L s0 t',hsf.trans (YE s0 t'),hcont,λE ro n Q f h0 hq=>Kv (hto E) ?_⟩;have h00:E.V0.nx<=s0.m.nx:=Cg h0 hsf.nx;exact hb2 E ro n Q f h00 (UL (U3 hD ⟨hs,hw,hp⟩ h00) hq))|exit j=>cases hk|goto l=>cases hk|ret=>cases hk|panic c=>cases hk|outgrown=>cases hk);cases hp;exact .inr ⟨y,hcont,⟨s1,hsf.trans hs1,ha1⟩,λE ro n Q f h0 hr hp=>Kv (hto E) (hb2 E ro n Q f (Cg h0 hsf.nx) (λs hs e=>hr s (hsf.trans hs) e) (λv s hs e=>hp v s (hsf.trans hs) e))⟩
 |.exit id=>by intro Y rn R ret pan β st p k r hY h;exact .inl ⟨.exit id,st,Sfx.refl st,h,λE ro n Q f h0 hq=>Y9 hq⟩
 |.scope b=>by
  intro Y rn R ret pan β st p k r hY h;show Qvp D W P rn (.scope b.code) st ret pan p k r;have scp:∀{E:Env}{ro:Option Nat}{n:Nat}{Q:Exit->Act->World->Prop}{c:Code}{x:St},XC E ro n (λe a w=>match e with
   |.goto _=>False
   |e=>Q e a w) c x->XC E ro n Q (.scope c) x:=λh V a w hr=>Qno (h V a w hr)
  rcases JP hP0 hm hT hD hK hX b hY h with⟨e,s,hs,hk,hx⟩|⟨y,hp,hex,hx⟩;cases e with|normal=>exact .inl ⟨_,s,hs,hk,λE ro n Q f h0 hq=>scp (hx E ro n _ f h0 hq)⟩|exit j=>exact .inl ⟨_,s,hs,hk,λE ro n Q f h0 hq=>scp (hx E ro n _ f h0 hq)⟩|goto l=>cases hk|ret=>exact .inl ⟨_,s,hs,hk,λE ro n Q f h0 hq=>scp (hx E ro n _ f h0 hq)⟩|panic c=>exact .inl ⟨_,s,hs,hk,λE ro n Q f h0 hq=>scp (hx E ro n _ f h0 hq)⟩|outgrown=>exact .inl ⟨_,s,hs,hk,λE ro n Q f h0 hq=>scp (hx E ro n _ f h0 hq)⟩
  exact .inr ⟨y,hp,hex,λE ro n Q f h0 hr hpn=>scp (hx E ro n _ f h0 (λs2 h2 e=>hr s2 h2 e) (λv s2 h2 e=>hpn v s2 h2 e))⟩
 |.range g ps a b=>Qrk hP0 hX (JP hP0 hm hT hD hK hX a) (JP hP0 hm hT hD hK hX b)
 |.ret=>by intro Y rn R ret pan β st p k r hY h;obtain⟨v,h1,h2⟩:=Zt (show Option.bind (ret st) p=some r from h);exact .inr ⟨v,h2,⟨st,Sfx.refl st,.inl h1⟩,λE ro n Q f h0 hr hp=>Qx (hr st (Sfx.refl st) h1)⟩
end
end
section
open Go.RowKit
theorem Qhr:prog.follows .mixedOrders=true:=by kernel_rfl
section
variable{U:Univ}
variable(U)in
structure Hint where
 sl:List (List HL×HK U)
 so:List (List HL×HK U)
 esc:Bool
variable(U)in
structure Hints where
 h:List (Nat×Hint U)
 e:List (Nat×List Nat)
def J5e(e:List (Nat×List Nat))(n:Nat):List Nat:=match lk e n with|some l=>l|none=>[]
def J9v(ops:List Oper):List Nat:=ops.filterMap (·.dst)
def D5:Code->List Nat|.region _ ops _=>J9v ops.toList|.seq a b=>D5 a++D5 b|.cond _ a b=>D5 a++D5 b|.block _ b=>D5 b|.loop b=>D5 b|.scope b=>D5 b|.rangeFunc _ _ a b=>D5 a++D5 b|_=>[]
def Quh:List Nat->List Nat|[]=>[]|a::r=>cond (r.contains a) (Quh r) (a::Quh r)
def Qcf:List HL->List Nat|[]=>[]|.reg r::ls=>r::Qcf ls|.at _ _::ls=>Qcf ls|.fat _ _ _::ls=>Qcf ls
def U4(sl:List (List HL×HK U))(c:Code):HLab U:=⟨sl,Quh ((D5 c).filter λr=>!(sl.flatMap λp=>Qcf p.1).contains r)⟩
def Qdh(h:Option (Hint U))(c:Code)(t:Tc U):Tc U:=match h with|none=>t|some h=>cond h.esc (.joinE (U4 h.sl c) t) (.join (U4 h.sl c) t)
def KV(H:Hints U):Nat->Code->Option (Nat×Tc U)|n,.skip=>some (n,.skip)|n,.region id ops false=>some (n+1,Qdh (lk H.h n) (.region id ops false) (.reg id ops))|n,.region id ops true=>some (n+1,Qdh (lk H.h n) (.region id ops true) (.draw id (J5e H.e n) ops))|n,.seq a b=>(match KV H n a with|some (n1,ta)=>(match KV H n1 b with|some (n2,tb)=>some (n2,.seq ta tb)|none=>none)|none=>none)|n,.cond c a b=>(match KV H (n+1) a with|some (n1,ta)=>(match KV H n1 b with|some (n2,tb)=>some (n2,Qdh (lk H.h n) (.cond c a b) (.cond c ta tb))|none=>none)|none=>none)|n,.block id (.loop b)=>(match lk H.h n,KV H (n+1) b with|some h,some (n1,tb)=>some (n1,cond h.esc (.bloopE id (U4 h.sl b) (U4 h.so b) tb) (.bloop id (U4 h.sl b) (U4 h.so b) tb))|_,_=>none)|n,.block id b=>(match KV H (n+1) b with|some (n1,tb)=>some (n1,Qdh (lk H.h n) (.block id b) (.block id tb))|none=>none)|n,.exit id=>some (n,.exit id)|n,.scope b=>(match KV H n b with|some (n1,tb)=>some (n1,.scope tb)|none=>none)|n,.ret=>some (n,.ret)|n,.rangeFunc g ps a b=>(match KV H n a with|some (n1,ta)=>(match KV H n1 b with|some (n2,tb)=>some (n2,.range g ps ta tb)|none=>none)|none=>none)|_,_=>none
theorem XP(h:Option (Hint U))(c:Code)(t:Tc U):(Qdh h c t).code=t.code:=by cases h with|none=>rfl|some h=>show(_root_.cond h.esc (Tc.joinE (U4 h.sl c) t) (Tc.join (U4 h.sl c) t)).code=_;cases h.esc <;> rfl
theorem Yn{H:Hints U}:∀(c:Code){n n':Nat}{tc:Tc U},KV H n c=some (n',tc)->tc.code=c|.skip,n,n',tc,h=>by cases h;rfl|.region id ops false,n,n',tc,h=>by cases h;exact XP _ _ _|.region id ops true,n,n',tc,h=>by cases h;exact XP _ _ _|.seq a b,n,n',tc,h=>by unfold KV at h;split at h;rename_i n1 ta ha;split at h;rename_i n2 tb hb;cases h;show Code.seq ta.code tb.code=_;rw[Yn a ha,Yn b hb];cases h;cases h|.cond c a b,n,n',tc,h=>by unfold KV at h;split at h;rename_i n1 ta ha;split at h;rename_i n2 tb hb;cases h;rw[XP];show Code.cond c ta.code tb.code=_;rw[Yn a ha,Yn b hb];cases h;cases h|.block id b,n,n',tc,h=>by unfold KV at h;split at h;(all_goals first|(cases ‹_=Code.block id b›;done)|skip);(all_goals first|(rename_i heq;cases heq;done)|skip);rename_i heq;cases heq;split at h;rename_i hh n1 tb h1 h2;cases h;cases hh.esc <;> (show Code.block _ (.loop tb.code)=_;rw[Yn _ h2]);cases h;rename_i heq;cases heq;split at h;rename_i n1 tb hb;cases h;rw[XP];show Code.block _ tb.code=_;rw[Yn _ hb];cases h;all_goals cases h|.exit id,n,n',tc,h=>by cases h;rfl|.scope b,n,n',tc,h=>by unfold KV at h;split at h;rename_i n1 tb hb;cases h;show Code.scope tb.code=_;rw[Yn b hb];cases h|.ret,n,n',tc,h=>by cases h;rfl|.loop b,n,n',tc,h=>by cases h|.rangeFunc g ps a b,n,n',tc,h=>by unfold KV at h;split at h;rename_i n1 ta ha;split at h;rename_i n2 tb hb;cases h;show Code.rangeFunc g ps ta.code tb.code=_;rw[Yn a ha,Yn b hb];cases h;cases h|.label _,n,n',tc,h=>by cases h|.goto _,n,n',tc,h=>by cases h|.refuse _,n,n',tc,h=>by cases h
end
section
variable{U:Univ}(D:Codec U)(C:TCfg U)(K:FuncId->List (TAV U)->Option (KR U))(X:XH U)
def Y2:Nat->List (TAV U)->List (Nat×TTV U)|_,[]=>[]|i,x::xs=>(i,.v x)::Y2 (i+1) xs
def Qe3(s:TSt U):ResultVar->Option (TAV U)|.tmp t=>(match lk s.tm t with|some (.v x)=>some x|_=>none)|.cell ad ty=>match lk C.T.agg ty,lk s.tm ad with|some (ag,n),some (.v (.one (.ptr i off)))=>(match ag with|false=>(match UW D s.m.es i off 1 with|some [.one y]=>some (.one y)|_=>none)|true=>match UW D s.m.es i off n with|some xs=>some (.agg xs)|none=>none)|_,_=>none
def Yw:AK U->Bool|.app _ _ _=>false|.ptr _ _=>false|.any=>false|_=>true
def Qen:AK U->TAV U->Bool|.stc _,x=>Qix x|_,_=>true
def Qa4(s:TSt U)(k:AK U)(v:ResultVar):Option k.Ty:=match Qe3 D C s v with|some x=>cond (Yw k&&Qen k x) (Qjh D s.m.tk k x) none|none=>none
def Qck(s:TSt U):(rk:List (AK U))->List ResultVar->Option (tup rk)|[],[]=>some ()|[k],[v]=>Qa4 D C s k v|k::k2::r,v::vs=>(match Qa4 D C s k v with|some a=>(match Qck s (k2::r) vs with|some b=>some (a,b)|none=>none)|none=>none)|_,_=>none
def GZ:(rk:List (AK U))->tup rk->List (TAV U)|[],_=>[]|[k],v=>[Xz k v 0]|k::k2::r,v=>Xz k v.1 0::GZ (k2::r) v.2
def QG(rk:List (AK U))(v:tup rk):List AV:=(GZ rk v).map (TAV.er D [])
variable{D C K X}
theorem Qa2(hD:D.OK){k:AK U}(hk:Yw k=true)(v:k.Ty)(tk tk':List (Nat×TTok U)):(Xz k v 0).er D tk=(Xz k v 0).er D tk':=by cases k with|app i e t=>cases hk|ptr i o=>cases hk|any=>cases hk|stc t=>show AV.agg (Jy D tk [It.grp t v])=AV.agg (Jy D tk' [It.grp t v]);(have e:∀(tk:List (Nat×TTok U))(x:U.R t),Jy D tk [It.grp t x]=((U.E t).enc x).map .d:=λtk x=>by unfold Jy;rw[Gy,Q9z hD]);rw[e tk v,e tk' v]|int k=>rfl|bool=>rfl|str=>rfl|sl t=>rfl
theorem Qui(hD:D.OK){tk tk':List (Nat×TTok U)}{k:AK U}{x:TAV U}{v:k.Ty}(hk:Yw k=true)(hs:Qen k x=true)(h:Qjh D tk k x=some v){V:Vu}{w:World}{u:Value}(hr:(x.er D tk).rel V w u):((Xz k v 0).er D tk').rel (YY V.S) w u:=by have h1:=Qn3 (tk':=tk') (ver:=0) hD h (λp hp=>by cases k <;> first|(cases hp;done)|(cases hk)) (by rintro⟨t,y,rfl,rfl⟩;cases hs) hr;cases k with|app i e t=>cases hk|ptr i o=>cases hk|any=>cases hk|stc t=>((have e:∀(x:U.R t),Jy D tk' [It.grp t x]=((U.E t).enc x).map .d:=λx=>by unfold Jy;rw[Gy,Q9z hD]);have h2:(AV.agg (Jy D tk' [It.grp t v])).rel V w u:=h1;show(AV.agg (Jy D tk' [It.grp t v])).rel (YY V.S) w u;rw[e v]at h2⊢;obtain⟨vs,q1,q2⟩:=h2;refine⟨vs,q1,q2.1,λi y hy=>?_⟩;obtain⟨z,hz,hzr⟩:=q2.2 i y hy;refine⟨z,hz,?_⟩;rw[Cn]at hy;cases hc:((U.E t).enc v)[i]? with|none=>rw[hc]at hy;cases hy|some c=>rw[hc]at hy;cases hy;exact hzr)|int k=>exact h1|bool=>exact h1|str=>exact h1|sl t=>exact h1
theorem Q5j{P:Program}(hT:C.T.OK P)(hD:D.OK){s:TSt U}{v:ResultVar}{x:TAV U}(h:Qe3 D C s v=some x){rs:List ResultVar}{xs:List AV}(k:RAs P (s.er D) rs xs):RAs P (s.er D) (v::rs) (x.er D s.m.tk::xs):=by
 cases v with
 |tmp t=>
  have h:(match lk s.tm t with
   |some (.v x)=>some x
   |_=>none)=some x:=h
  split at h;rename_i y hy;cases h;exact Qy (by show lk (QW _ s.tm) t=_;rw[QY,hy];rfl) k;cases h
 |cell ad ty=>unfold Qe3 at h;dsimp only at h;split at h;rename_i ag n i off hag had;(have ea:lk (s.er D).tm ad=some (.v (.one (.ptr i off))):=by show lk (QW (TTV.er D s.m.tk) s.tm) ad=_;rw[QY,had];rfl);split at h;split at h;rename_i y hy;cases h;obtain⟨T,ys,h1,h2,h3⟩:=YQ hD (tk:=s.m.tk) hy;exact Um (hT.agg.get hag) ea h1 (DW h3) k;cases h;split at h;rename_i xs' hy;cases h;obtain⟨T,ys,h1,h2,h3⟩:=YQ hD (tk:=s.m.tk) hy;refine K6 (hT.agg.get hag) ea h1 h3 ?_ k;rw[<-h3,CH,Cq];omega;cases h;cases h
theorem Qn4{P:Program}(hT:C.T.OK P)(hD:D.OK){s:TSt U}:∀{rk:List (AK U)}{vs:List ResultVar}{r:tup rk},Qck D C s rk vs=some r->∃xs,RAs P (s.er D) vs xs/\xs.length=(QG D rk r).length/\∀(i:Nat)(y:AV),(QG D rk r)[i]?=some y->∃x,xs[i]?=some x/\∀V w v,x.rel V w v->y.rel (YY V.S) w v:=by
 have one:∀{k:AK U}{v:ResultVar}{a:k.Ty},Qa4 D C s k v=some a->∃x,Qe3 D C s v=some x/\∀V w u,(x.er D s.m.tk).rel V w u->((Xz k a 0).er D []).rel (YY V.S) w u:=by intro k v a h;unfold Qa4 at h;split at h;rename_i x hx;(cases hc:(Yw k&&Qen k x)with|false=>rw[hc]at h;cases h|true=>rw[hc,C5]at h;obtain⟨b1,b2⟩:=C2.1 hc;exact⟨x,hx,λV w u hr=>Qui hD b1 b2 h hr⟩);cases h
 intro rk;induction rk with
 |nil=>intro vs r h;cases vs with|nil=>exact⟨[],.nil,rfl,λi y hy=>by cases hy⟩|cons v vs=>cases h
 |cons k rk ih=>
  intro vs r h;cases rk with
  |nil=>cases vs with|nil=>cases h|cons v vs=>cases vs with|nil=>(obtain⟨x,hx,hr⟩:=one h;refine⟨[x.er D s.m.tk],Q5j hT hD hx .nil,Z,λi y hy=>?_⟩;cases i with|zero=>cases hy;exact⟨_,rfl,hr⟩|succ i=>cases hy)|cons v2 vs=>cases h
  |cons k2 rk=>
   cases vs with
   |nil=>cases h
   |cons v vs=>
    have h2:(match Qa4 D C s k v with
     |some a=>match Qck D C s (k2::rk) vs with|some b=>(some (a,b):Option (k.Ty×tup (k2::rk)))|none=>none
     |none=>none)=some r:=h
    cases ha:Qa4 D C s k v with|none=>rw[ha]at h2;cases h2|some a=>rw[ha]at h2;dsimp only at h2;cases hb:Qck D C s (k2::rk) vs with|none=>rw[hb]at h2;cases h2|some b=>rw[hb]at h2;cases h2;obtain⟨x,hx,hr⟩:=one ha;obtain⟨xs,q1,q2,q3⟩:=ih hb;refine⟨x.er D s.m.tk::xs,Q5j hT hD hx q1,by show xs.length+1=(QG D (k2::rk) b).length+1;rw[q2],λi y hy=>?_⟩;cases i with|zero=>cases hy;exact⟨_,rfl,hr⟩|succ i=>exact q3 i y hy
theorem Qe1{xs ys:List AV}(hl:xs.length=ys.length)(hs:∀(i:Nat)(y:AV),ys[i]?=some y->∃x,xs[i]?=some x/\∀V w v,x.rel V w v->y.rel (YY V.S) w v){V:Vu}{w:World}{v:Value}(h2:(Qj xs).rel V w v):(Qj ys).rel (YY V.S) w v:=by match xs,ys,hl with|[],[],_=>(obtain⟨vs,q1,q2,q3⟩:=h2;exact⟨vs,q1,q2,λi x hx=>by cases hx⟩)|[x],[y],_=>(obtain⟨x',hx,hxy⟩:=hs 0 y rfl;cases hx;exact hxy _ _ _ h2)|x::x2::xs,y::y2::ys,hl=>obtain⟨vs,q1,q2,q3⟩:=h2;refine⟨vs,q1,by rw[q2];exact hl,λi z hz=>?_⟩;obtain⟨x',hx,hxy⟩:=hs i z hz;obtain⟨u,hu,hr⟩:=q3 i x' hx;exact⟨u,hu,hxy _ _ _ hr⟩
end
end
section
open Go.RowKit
section
variable{U:Univ}
abbrev WD(U:Univ)(α:Type):=List (It U)->Option (α×List (It U))
def Zz:WD U Int|.one (.c (.v (.int .i64 a)))::r=>some (a,r)|_=>none
def Q33:WD U Bool|.one (.c (.v (.bool a)))::r=>some (a,r)|_=>none
def J1d:WD U Byt|.one (.c (.v (.int .u8 a)))::r=>some (⟨a⟩,r)|_=>none
def Q1d:WD U Bs|.one (.c (.str a))::r=>some (a,r)|_=>none
def Qvn(t:U.T):WD U (List (U.R t))|.one (.c (.sl t' l))::r=>(match X1 t' t l with|some l'=>some (l',r)|none=>none)|.one (.c (.v (.slice none 0 0)))::r=>some ([],r)|_=>none
def Q5s(t:U.T)(p:WD U (U.R t)):WD U (U.R t)|.grp t' x::r=>(match Qn9 t' t x with|some y=>some (y,r)|none=>none)|xs=>p xs
def G3{α:Type}(p:WD U α)(xs:List (It U)):Option α:=match p xs with|some (a,[])=>some a|_=>none
def Yi{α β:Type}(p:WD U α)(q:WD U β):WD U (α×β):=λxs=>match p xs with|some (a,r)=>(match q r with|some (b,r')=>some ((a,b),r')|none=>none)|none=>none
def Xo{α β:Type}(f:α->β)(p:WD U α):WD U β:=λxs=>match p xs with|some (a,r)=>some (f a,r)|none=>none
variable{D:Codec U}
def Js(D:Codec U){α:Type}(p:WD U α)(cells:α->List C):Prop:=∀tk xs a r,p xs=some (a,r)->∃pre,Jy D tk xs=pre++Jy D tk r/\CSubs pre (cells a)
theorem Je:Js D Zz λa=>[.v (.int .i64 a)]:=by intro tk xs a r h;unfold Zz at h;split at h;cases h;exact⟨[_],rfl,.cons (.d _) .nil⟩;cases h
theorem Xp:Js D Q33 λa=>[.v (.bool a)]:=by intro tk xs a r h;unfold Q33 at h;split at h;cases h;exact⟨[_],rfl,.cons (.d _) .nil⟩;cases h
theorem Qwj:Js D J1d bytC:=by intro tk xs a r h;unfold J1d at h;split at h;cases h;exact⟨[_],rfl,.cons (.d _) .nil⟩;cases h
theorem ZS:Js D Q1d λa=>[.v (.string (sB a))]:=by intro tk xs a r h;unfold Q1d at h;split at h;cases h;exact⟨[_],rfl,.cons (.d _) .nil⟩;cases h
theorem WR(t:U.T):Js D (Qvn t) λl=>[.sl (U.E t).sz ((U.E t).encL l)]:=by intro tk xs a r h;unfold Qvn at h;split at h;split at h;rename_i l' hl;cases h;obtain⟨e,rfl⟩:=Zr hl;subst e;exact⟨[_],Z,.cons (.d _) .nil⟩;cases h;cases h;refine⟨[_],Z,.cons ?_ .nil⟩;have e:(U.E t).encL []=[]:=(U.E t).nil;rw[e];exact .nil _;cases h
theorem Qza(l:List C):CSubs (l.map .d) l:=by induction l with|nil=>exact .nil|cons c l ih=>exact .cons (.d c) ih
theorem G2(hf:∀t x,(D.fl t x).map TC.er=(U.E t).enc x)(t:U.T){p:WD U (U.R t)}(hp:Js D p (U.E t).enc):Js D (Q5s t p) (U.E t).enc:=by intro tk xs a r h;unfold Q5s at h;split at h;rename_i t' x r';split at h;rename_i y hy;cases h;unfold Qn9 at hy;split at hy;rename_i e _;cases hy;subst e;refine⟨((U.E t').enc x).map .d,?_,Qza _⟩;unfold Jy;rw[Yy,Ct];congr 1;show((D.fl t' x).map TA.c).map (TA.er tk)=_;rw[<-hf t' x,CL,CL];rfl;cases hy;cases h;exact hp tk _ a r h
theorem QR{α β:Type}{p:WD U α}{q:WD U β}{f:α->List C}{g:β->List C}(hp:Js D p f)(hq:Js D q g):Js D (Yi p q) λa=>f a.1++g a.2:=by intro tk xs a r h;unfold Yi at h;split at h;rename_i a1 r1 h1;split at h;rename_i b r2 h2;cases h;obtain⟨p1,e1,c1⟩:=hp tk _ _ _ h1;obtain⟨p2,e2,c2⟩:=hq tk _ _ _ h2;exact⟨p1++p2,by rw[e1,e2,CB],c1.append c2⟩;cases h;cases h
theorem Y8{α β:Type}{f:α->β}{p:WD U α}{g:α->List C}{g':β->List C}(hp:Js D p g)(hg:∀a,g' (f a)=g a):Js D (Xo f p) g':=by intro tk xs a r h;unfold Xo at h;split at h;rename_i a1 r1 h1;cases h;obtain⟨p1,e1,c1⟩:=hp tk _ _ _ h1;exact⟨p1,e1,by rw[hg];exact c1⟩;cases h
theorem JE{α:Type}{p:WD U α}{g:α->List C}(hp:Js D p g)(tk:List (Nat×TTok U))(xs:List (It U))(a:α)(h:G3 p xs=some a):CSubs (Jy D tk xs) (g a):=by unfold G3 at h;split at h;rename_i a1 h1;cases h;obtain⟨p1,e1,c1⟩:=hp tk _ _ _ h1;rw[e1];show CSubs (p1++Jy D tk []) _;have:Jy D tk []=[]:=rfl;rw[this,CC];exact c1;cases h
end
end
section
open Go.RowKit
def tabs:Tables:={
  agg:=[(3,(false,1)),(4,(false,1)),(5,(false,1)),(9,(false,1)),(22,(false,1)),(23,(false,1)),(25,(true,5)),(26,(false,1)),(28,(false,1)),(41,(false,1)),(43,(false,1)),(45,(true,7)),(46,(false,1)),(48,(true,23)),(59,(false,1)),(60,(false,1)),(69,(true,2)),(71,(false,1)),(80,(false,1)),(82,(true,2)),(86,(true,6)),(87,(false,1)),(89,(true,8)),(91,(true,15)),(107,(true,4)),(114,(false,1)),(119,(true,8)),(125,(false,1)),(132,(true,2)),(137,(true,2)),(142,(true,2)),(144,(true,5)),(148,(true,10)),(153,(false,1)),(155,(true,5)),(156,(true,65)),(185,(false,1)),(195,(false,1)),(203,(true,256)),(210,(false,1)),(218,(false,1)),(264,(true,2)),(280,(false,1))]
  sl:=[(22,(82,2)),(23,(25,5)),(41,(9,1)),(43,(86,6)),(46,(91,15)),(60,(5,1)),(80,(142,2)),(87,(148,10)),(125,(132,2)),(218,(3,1))]
  zero:=[(3,[.int .i64 0]),(5,[.int .u8 0]),(9,[.string ByteArray.empty]),(25,[.int .i64 0,.int .i64 0,.string ByteArray.empty,.slice none 0 0,.slice none 0 0]),(26,[.nilFunc]),(28,[.int .i64 0]),(41,[.slice none 0 0]),(48,[.int .i64 0,.string ByteArray.empty,.int .i64 0,.int .i64 0,.int .i64 0,.string ByteArray.empty,.slice none 0 0,.slice none 0 0,.int .i64 0,.int .i64 0,.string ByteArray.empty,.slice none 0 0,.slice none 0 0,.int .i64 0,.slice none 0 0,.int .i64 0,.int .i64 0,.int .i64 0,.string ByteArray.empty,.slice none 0 0,.slice none 0 0,.slice none 0 0,.slice none 0 0]),(62,[.pointer none,.slice none 0 0]),(69,[.int .i64 0,.int .i64 0]),(71,[.pointer none]),(77,[.string ByteArray.empty,.int .i64 0,.bool false]),(82,[.int .i64 0,.slice none 0 0]),(86,[.string ByteArray.empty,.int .i64 0,.int .i64 0,.string ByteArray.empty,.slice none 0 0,.slice none 0 0]),(89,[.int .i64 0,.int .i64 0,.int .i64 0,.string ByteArray.empty,.slice none 0 0,.slice none 0 0,.int .i64 0,.slice none 0 0]),(91,[.string ByteArray.empty,.int .i64 0,.int .i64 0,.string ByteArray.empty,.slice none 0 0,.slice none 0 0,.int .i64 0,.int .i64 0,.int .i64 0,.int .i64 0,.string ByteArray.empty,.slice none 0 0,.slice none 0 0,.int .i64 0,.slice none 0 0]),(95,[.pointer none,.slice none 0 0]),(99,[.string ByteArray.empty,.int .i64 0]),(107,[.int .i64 0,.int .i64 0,.int .i64 0,.int .i64 0]),(119,[.string ByteArray.empty,.string ByteArray.empty,.string ByteArray.empty,.string ByteArray.empty,.string ByteArray.empty,.string ByteArray.empty,.string ByteArray.empty,.string ByteArray.empty]),(127,[.slice none 0 0,.int .i64 0]),(132,[.string ByteArray.empty,.int .i64 0]),(137,[.string ByteArray.empty,.int .i64 0]),(142,[.int .i64 0,.int .i64 0]),(144,[.string ByteArray.empty,.string ByteArray.empty,.string ByteArray.empty,.string ByteArray.empty,.string ByteArray.empty]),(148,[.string ByteArray.empty,.bool false,.int .i64 0,.int .i64 0,.int .i64 0,.string ByteArray.empty,.slice none 0 0,.slice none 0 0,.int .i64 0,.slice none 0 0]),(155,[.bool false,.bool false,.int .i64 0,.int .i64 0,.int .i64 0]),(156,[.bool false,.bool false,.int .i64 0,.int .i64 0,.int .i64 0,.bool false,.bool false,.int .i64 0,.int .i64 0,.int .i64 0,.bool false,.bool false,.int .i64 0,.int .i64 0,.int .i64 0,.bool false,.bool false,.int .i64 0,.int .i64 0,.int .i64 0,.bool false,.bool false,.int .i64 0,.int .i64 0,.int .i64 0,.bool false,.bool false,.int .i64 0,.int .i64 0,.int .i64 0,.bool false,.bool false,.int .i64 0,.int .i64 0,.int .i64 0,.bool false,.bool false,.int .i64 0,.int .i64 0,.int .i64 0,.bool false,.bool false,.int .i64 0,.int .i64 0,.int .i64 0,.bool false,.bool false,.int .i64 0,.int .i64 0,.int .i64 0,.bool false,.bool false,.int .i64 0,.int .i64 0,.int .i64 0,.bool false,.bool false,.int .i64 0,.int .i64 0,.int .i64 0,.bool false,.bool false,.int .i64 0,.int .i64 0,.int .i64 0]),(188,[.string ByteArray.empty,.bool false,.int .i64 0,.pointer none]),(192,[.string ByteArray.empty,.int .i64 0,.bool false,.int .i64 0]),(194,[.int .u8 0,.int .u8 0,.int .u8 0,.int .u8 0,.int .u8 0,.int .u8 0,.int .u8 0,.int .u8 0,.int .u8 0,.int .u8 0,.int .u8 0,.int .u8 0,.int .u8 0,.int .u8 0,.int .u8 0,.int .u8 0,.int .u8 0,.int .u8 0,.int .u8 0,.int .u8 0,.int .u8 0,.int .u8 0,.int .u8 0,.int .u8 0]),(203,[.bool false,.bool false,.bool false,.bool false,.bool false,.bool false,.bool false,.bool false,.bool false,.bool false,.bool false,.bool false,.bool false,.bool false,.bool false,.bool false,.bool false,.bool false,.bool false,.bool false,.bool false,.bool false,.bool false,.bool false,.bool false,.bool false,.bool false,.bool false,.bool false,.bool false,.bool false,.bool false,.bool false,.bool false,.bool false,.bool false,.bool false,.bool false,.bool false,.bool false,.bool false,.bool false,.bool false,.bool false,.bool false,.bool false,.bool false,.bool false,.bool false,.bool false,.bool false,.bool false,.bool false,.bool false,.bool false,.bool false,.bool false,.bool false,.bool false,.bool false,.bool false,.bool false,.bool false,.bool false,.bool false,.bool false,.bool false,.bool false,.bool false,.bool false,.bool false,.bool false,.bool false,.bool false,.bool false,.bool false,.bool false,.bool false,.bool false,.bool false,.bool false,.bool false,.bool false,.bool false,.bool false,.bool false,.bool false,.bool false,.bool false,.bool false,.bool false,.bool false,.bool false,.bool false,.bool false,.bool false,.bool false,.bool false,.bool false,.bool false,.bool false,.bool false,.bool false,.bool false,.bool false,.bool false,.bool false,.bool false,.bool false,.bool false,.bool false,.bool false,.bool false,.bool false,.bool false,.bool false,.bool false,.bool false,.bool false,.bool false,.bool false,.bool false,.bool false,.bool false,.bool false,.bool false,.bool false,.bool false,.bool false,.bool false,.bool false,.bool false,.bool false,.bool false,.bool false,.bool false,.bool false,.bool false,.bool false,.bool false,.bool false,.bool false,.bool false,.bool false,.bool false,.bool false,.bool false,.bool false,.bool false,.bool false,.bool false,.bool false,.bool false,.bool false,.bool false,.bool false,.bool false,.bool false,.bool false,.bool false,.bool false,.bool false,.bool false,.bool false,.bool false,.bool false,.bool false,.bool false,.bool false,.bool false,.bool false,.bool false,.bool false,.bool false,.bool false,.bool false,.bool false,.bool false,.bool false,.bool false,.bool false,.bool false,.bool false,.bool false,.bool false,.bool false,.bool false,.bool false,.bool false,.bool false,.bool false,.bool false,.bool false,.bool false,.bool false,.bool false,.bool false,.bool false,.bool false,.bool false,.bool false,.bool false,.bool false,.bool false,.bool false,.bool false,.bool false,.bool false,.bool false,.bool false,.bool false,.bool false,.bool false,.bool false,.bool false,.bool false,.bool false,.bool false,.bool false,.bool false,.bool false,.bool false,.bool false,.bool false,.bool false,.bool false,.bool false,.bool false,.bool false,.bool false,.bool false,.bool false,.bool false,.bool false,.bool false,.bool false,.bool false,.bool false,.bool false,.bool false,.bool false,.bool false,.bool false,.bool false,.bool false,.bool false,.bool false,.bool false,.bool false,.bool false,.bool false,.bool false,.bool false,.bool false,.bool false,.bool false]),(212,[.map none,.int .i64 0]),(232,[.int .u8 0,.int .u8 0,.int .u8 0,.int .u8 0,.int .u8 0,.int .u8 0,.int .u8 0,.int .u8 0,.int .u8 0,.int .u8 0,.int .u8 0,.int .u8 0,.int .u8 0,.int .u8 0,.int .u8 0,.int .u8 0,.int .u8 0,.int .u8 0,.int .u8 0,.int .u8 0,.int .u8 0,.int .u8 0,.int .u8 0,.int .u8 0,.int .u8 0,.int .u8 0,.int .u8 0,.int .u8 0,.int .u8 0,.int .u8 0,.int .u8 0,.int .u8 0,.int .u8 0,.int .u8 0,.int .u8 0,.int .u8 0,.int .u8 0,.int .u8 0,.int .u8 0,.int .u8 0,.int .u8 0,.int .u8 0,.int .u8 0,.int .u8 0,.int .u8 0,.int .u8 0,.int .u8 0,.int .u8 0,.int .u8 0,.int .u8 0,.int .u8 0,.int .u8 0,.int .u8 0,.int .u8 0,.int .u8 0,.int .u8 0,.int .u8 0,.int .u8 0,.int .u8 0,.int .u8 0,.int .u8 0,.int .u8 0,.int .u8 0,.int .u8 0,.int .u8 0]),(256,[.string ByteArray.empty,.string ByteArray.empty,.nilIface]),(264,[.int .u8 0,.int .u8 0]),(271,[.string ByteArray.empty]),(280,[.int .u64 0])]
  fld:=[(25,[(0,0),(1,1),(2,2),(3,3),(4,4)]),(45,[(0,0),(1,1),(2,6)]),(48,[(0,0),(1,1),(2,2),(3,3),(4,8),(5,13),(6,14),(7,15),(8,22)]),(62,[(0,0),(1,1)]),(69,[(0,0),(1,1)]),(77,[(0,0),(1,1),(2,2)]),(82,[(0,0),(1,1)]),(86,[(0,0),(1,1)]),(89,[(0,0),(1,1),(2,6),(3,7)]),(91,[(0,0),(1,1),(2,6),(3,7)]),(95,[(0,0)]),(99,[(0,0),(1,1)]),(107,[(0,0),(1,1),(2,2),(3,3)]),(127,[(0,0),(1,1)]),(132,[(0,0),(1,1)]),(137,[(0,0)]),(142,[(0,0),(1,1)]),(148,[(0,0),(1,1),(2,2)]),(155,[(0,0),(1,1),(2,2),(3,3),(4,4)]),(188,[(0,0),(1,1),(2,2),(3,3)]),(192,[(0,0),(1,1),(2,2),(3,3)]),(212,[(0,0),(1,1)]),(264,[(0,0),(1,1)])]
  places:=[(25,[(0,1),(1,1),(2,1),(3,1),(4,1)]),(48,[(0,1),(1,1),(2,1),(3,5),(8,5),(13,1),(14,1),(15,7),(22,1)]),(69,[(0,1),(1,1)]),(77,[(0,1),(1,1),(2,1)]),(82,[(0,1),(1,1)]),(86,[(0,1),(1,5)]),(89,[(0,1),(1,5),(6,1),(7,1)]),(91,[(0,1),(1,5),(6,1),(7,8)]),(95,[(0,2)]),(99,[(0,1),(1,1)]),(107,[(0,1),(1,1),(2,1),(3,1)]),(119,[(0,1),(1,1),(2,1),(3,1),(4,1),(5,1),(6,1),(7,1)]),(127,[(0,1),(1,1)]),(132,[(0,1),(1,1)]),(137,[(0,1),(1,1)]),(142,[(0,1),(1,1)]),(144,[(0,1),(1,1),(2,1),(3,1),(4,1)]),(148,[(0,1),(1,1),(2,8)]),(155,[(0,1),(1,1),(2,1),(3,1),(4,1)]),(156,[(0,5),(5,5),(10,5),(15,5),(20,5),(25,5),(30,5),(35,5),(40,5),(45,5),(50,5),(55,5),(60,5)]),(188,[(0,1),(1,1),(2,1),(3,1)]),(192,[(0,1),(1,1),(2,1),(3,1)]),(212,[(0,1),(1,1)]),(256,[(0,1),(1,1),(2,1)]),(271,[(0,1)])]
  elem:=[(3,(1,8)),(5,(1,1)),(9,(1,16)),(25,(5,80)),(82,(2,32)),(86,(6,96)),(91,(15,224)),(132,(2,24)),(142,(2,16)),(148,(10,144))]
  arr:=[(156,(13,5)),(194,(24,1)),(203,(256,1)),(230,(20,1)),(232,(65,1)),(260,(32,1)),(261,(64,1)),(262,(256,1)),(265,(16,2))]
  mp:=[(210,(true,.one (.d (.v (.int .i64 0)))))]
  ints:=[(2,.i64),(3,.i64),(5,.u8),(21,.i32),(195,.u64),(231,.u32),(234,.u64),(280,.u64)]
  strs:=[(9,())]
  bools:=[(4,())]
  pairs:=[(142,())]
  fns:=[]
  stc:=[(69,())]
  ifc:=[(20,()),(114,())]
  ars:=[(119,8),(144,5)]
  fdv:=[(69,[(0,0)]),(137,[(0,0)])]
  byt:=[(60,())]
 }
theorem Qu:tabs.OK prog:=by constructor <;> repeat' first|exact trivial|(show _=_;kernel_rfl)|refine⟨?_,?_⟩
end
section
open Go.RowKit
inductive Tcd where
 |t3
 |t4
 |t5
 |t9
 |t82
 |t142
 |t132
 |t137
 |t127
 |t99
 |t69
 |t77
 |t107
 |t192
 |t25
 |t155
 |t86
 |t45
 |t89
 |t148
 |t91
 |t48
def Rt:Tcd->Type|.t3=>Int|.t4=>Bool|.t5=>Byt|.t9=>(List UInt8)|.t82=>Lvl|.t142=>LV|.t132=>Tkn|.t137=>Tkn|.t127=>Rdr|.t99=>RWr|.t69=>Rfd|.t77=>RRd|.t107=>Scp|.t192=>LRd|.t25=>Tm|.t155=>Use|.t86=>Ctr|.t45=>Rcr|.t89=>Tr|.t148=>Br|.t91=>Fn|.t48=>Dcl
def Jd0:(a b:Tcd)->Option (PLift (a=b))|.t3,.t3=>some ⟨rfl⟩|.t4,.t4=>some ⟨rfl⟩|.t5,.t5=>some ⟨rfl⟩|.t9,.t9=>some ⟨rfl⟩|.t82,.t82=>some ⟨rfl⟩|.t142,.t142=>some ⟨rfl⟩|.t132,.t132=>some ⟨rfl⟩|.t137,.t137=>some ⟨rfl⟩|.t127,.t127=>some ⟨rfl⟩|.t99,.t99=>some ⟨rfl⟩|.t69,.t69=>some ⟨rfl⟩|.t77,.t77=>some ⟨rfl⟩|.t107,.t107=>some ⟨rfl⟩|.t192,.t192=>some ⟨rfl⟩|.t25,.t25=>some ⟨rfl⟩|.t155,.t155=>some ⟨rfl⟩|.t86,.t86=>some ⟨rfl⟩|.t45,.t45=>some ⟨rfl⟩|.t89,.t89=>some ⟨rfl⟩|.t148,.t148=>some ⟨rfl⟩|.t91,.t91=>some ⟨rfl⟩|.t48,.t48=>some ⟨rfl⟩|_,_=>none
@[reducible] def encT:(t:Tcd)->Enc (Rt t)|.t3=>inferInstanceAs (Enc Int)|.t4=>inferInstanceAs (Enc Bool)|.t5=>inferInstanceAs (Enc Byt)|.t9=>inferInstanceAs (Enc ((List UInt8)))|.t82=>inferInstanceAs (Enc Lvl)|.t142=>inferInstanceAs (Enc LV)|.t132=>inferInstanceAs (Enc Tkn)|.t137=>inferInstanceAs (Enc Tkn)|.t127=>inferInstanceAs (Enc Rdr)|.t99=>inferInstanceAs (Enc RWr)|.t69=>inferInstanceAs (Enc Rfd)|.t77=>inferInstanceAs (Enc RRd)|.t107=>inferInstanceAs (Enc Scp)|.t192=>inferInstanceAs (Enc LRd)|.t25=>inferInstanceAs (Enc Tm)|.t155=>inferInstanceAs (Enc Use)|.t86=>inferInstanceAs (Enc Ctr)|.t45=>inferInstanceAs (Enc Rcr)|.t89=>inferInstanceAs (Enc Tr)|.t148=>inferInstanceAs (Enc Br)|.t91=>inferInstanceAs (Enc Fn)|.t48=>inferInstanceAs (Enc Dcl)
abbrev UV:Univ:=⟨Tcd,Rt,Jd0,encT⟩
def Jcr:(t:Tcd)->Rt t->List (TC UV)|.t3,x=>[.v (.int .i64 (x))]|.t4,x=>[.v (.bool (x))]|.t5,x=>[.v (.int .u8 (x.n))]|.t9,x=>[.str (x)]|.t82,x=>[.v (.int .i64 (x.c)),.sl .t142 (x.vs)]|.t142,x=>[.v (.int .i64 (x.1)),.v (.int .i64 (x.2))]|.t132,x=>[.str (x.text),.v (.int .i64 (x.at_))]|.t137,x=>[.str (x.text),.v (.int .i64 (x.at_))]|.t127,x=>[.sl .t132 (x.l),.v (.int .i64 (x.n))]|.t99,x=>[.str (x.s),.v (.int .i64 (x.e))]|.t69,x=>[.v (.int .i64 (x.e)),.v (.int .i64 (x.at_))]|.t77,x=>[.str (x.s),.v (.int .i64 (x.at_)),.v (.bool (x.bad))]|.t107,x=>[.v (.int .i64 (x.vars)),.v (.int .i64 (x.params)),.v (.int .i64 (x.metas)),.v (.int .i64 (x.levels))]|.t192,x=>[.str (x.s),.v (.int .i64 (x.at_)),.v (.bool (x.bad)),.v (.int .i64 (x.e))]|.t25,x=>[.v (.int .i64 (x.kind)),.v (.int .i64 (x.index)),.str (x.name),.sl .t82 (x.levels),.sl .t25 (x.kids)]|.t155,x=>[.v (.bool (x.index)),.v (.bool (x.name)),.v (.int .i64 (x.levels)),.v (.int .i64 (x.kids)),.v (.int .i64 (x.below))]|.t86,x=>[.str (x.name),.v (.int .i64 (x.ty.kind)),.v (.int .i64 (x.ty.index)),.str (x.ty.name),.sl .t82 (x.ty.levels),.sl .t25 (x.ty.kids)]|.t45,x=>[.v (.int .i64 (x.params)),.v (.int .i64 (x.ty.kind)),.v (.int .i64 (x.ty.index)),.str (x.ty.name),.sl .t82 (x.ty.levels),.sl .t25 (x.ty.kids),.sl .t25 (x.rules)]|.t89,x=>[.v (.int .i64 (x.kind)),.v (.int .i64 (x.body.kind)),.v (.int .i64 (x.body.index)),.str (x.body.name),.sl .t82 (x.body.levels),.sl .t25 (x.body.kids),.v (.int .i64 (x.var)),.sl .t148 (x.branches)]|.t148,x=>[.str (x.ctor),.v (.bool (x.absurd)),.v (.int .i64 (x.tree.kind)),.v (.int .i64 (x.tree.body.kind)),.v (.int .i64 (x.tree.body.index)),.str (x.tree.body.name),.sl .t82 (x.tree.body.levels),.sl .t25 (x.tree.body.kids),.v (.int .i64 (x.tree.var)),.sl .t148 (x.tree.branches)]|.t91,x=>[.str (x.name),.v (.int .i64 (x.ty.kind)),.v (.int .i64 (x.ty.index)),.str (x.ty.name),.sl .t82 (x.ty.levels),.sl .t25 (x.ty.kids),.v (.int .i64 (x.arity)),.v (.int .i64 (x.tree.kind)),.v (.int .i64 (x.tree.body.kind)),.v (.int .i64 (x.tree.body.index)),.str (x.tree.body.name),.sl .t82 (x.tree.body.levels),.sl .t25 (x.tree.body.kids),.v (.int .i64 (x.tree.var)),.sl .t148 (x.tree.branches)]|.t48,x=>[.v (.int .i64 (x.kind)),.str (x.name),.v (.int .i64 (x.params)),.v (.int .i64 (x.ty.kind)),.v (.int .i64 (x.ty.index)),.str (x.ty.name),.sl .t82 (x.ty.levels),.sl .t25 (x.ty.kids),.v (.int .i64 (x.value.kind)),.v (.int .i64 (x.value.index)),.str (x.value.name),.sl .t82 (x.value.levels),.sl .t25 (x.value.kids),.v (.int .i64 (x.fixed)),.sl .t86 (x.ctors),.v (.int .i64 (x.rcr.params)),.v (.int .i64 (x.rcr.ty.kind)),.v (.int .i64 (x.rcr.ty.index)),.str (x.rcr.ty.name),.sl .t82 (x.rcr.ty.levels),.sl .t25 (x.rcr.ty.kids),.sl .t25 (x.rcr.rules),.sl .t91 (x.funs)]
def J6z:(t:Tcd)->Rt t->Nat->Nat->Option (Sigma Rt)|.t86,x,1,5=>some ⟨.t25,x.ty⟩|.t45,x,1,5=>some ⟨.t25,x.ty⟩|.t89,x,1,5=>some ⟨.t25,x.body⟩|.t148,x,2,8=>some ⟨.t89,x.tree⟩|.t148,x,3,5=>some ⟨.t25,x.tree.body⟩|.t91,x,1,5=>some ⟨.t25,x.ty⟩|.t91,x,7,8=>some ⟨.t89,x.tree⟩|.t91,x,8,5=>some ⟨.t25,x.tree.body⟩|.t48,x,3,5=>some ⟨.t25,x.ty⟩|.t48,x,8,5=>some ⟨.t25,x.value⟩|.t48,x,15,7=>some ⟨.t45,x.rcr⟩|.t48,x,16,5=>some ⟨.t25,x.rcr.ty⟩|_,_,_,_=>none
def J06:WD UV Lvl:=Xo (λa=>(.mk a.1 a.2:Lvl)) (Yi Zz (Qvn (U:=UV) .t142))
def Qry:WD UV LV:=Xo (λa=>((a.1,a.2):LV)) (Yi Zz Zz)
def Qs0:WD UV Tkn:=Xo (λa=>(.mk a.1 a.2:Tkn)) (Yi Q1d Zz)
def Qrz:WD UV Tkn:=Xo (λa=>(.mk a.1 a.2:Tkn)) (Yi Q1d Zz)
def Qs1:WD UV Rdr:=Xo (λa=>(.mk a.1 a.2:Rdr)) (Yi (Qvn (U:=UV) .t132) Zz)
def J03:WD UV RWr:=Xo (λa=>(.mk a.1 a.2:RWr)) (Yi Q1d Zz)
def J08:WD UV Rfd:=Xo (λa=>(.mk a.1 a.2:Rfd)) (Yi Zz Zz)
def J07:WD UV RRd:=Xo (λa=>(.mk a.1 a.2.1 a.2.2:RRd)) (Yi Q1d (Yi Zz Q33))
def Qs2:WD UV Scp:=Xo (λa=>(.mk a.1 a.2.1 a.2.2.1 a.2.2.2:Scp)) (Yi Zz (Yi Zz (Yi Zz Zz)))
def Qrv:WD UV LRd:=Xo (λa=>(.mk a.1 a.2.1 a.2.2.1 a.2.2.2:LRd)) (Yi Q1d (Yi Zz (Yi Q33 Zz)))
def Q30:WD UV Tm:=Xo (λa=>(.mk a.1 a.2.1 a.2.2.1 a.2.2.2.1 a.2.2.2.2:Tm)) (Yi Zz (Yi Zz (Yi Q1d (Yi (Qvn (U:=UV) .t82) (Qvn (U:=UV) .t25)))))
def Qrw:WD UV Use:=Xo (λa=>(.mk a.1 a.2.1 a.2.2.1 a.2.2.2.1 a.2.2.2.2:Use)) (Yi Q33 (Yi Q33 (Yi Zz (Yi Zz Zz))))
def J05:WD UV Ctr:=Xo (λa=>(.mk a.1 a.2:Ctr)) (Yi Q1d (Q5s (U:=UV) .t25 Q30))
def Qru:WD UV Rcr:=Xo (λa=>(.mk a.1 a.2.1 a.2.2:Rcr)) (Yi Zz (Yi (Q5s (U:=UV) .t25 Q30) (Qvn (U:=UV) .t25)))
def Ql9:WD UV Tr:=Xo (λa=>(.mk a.1 a.2.1 a.2.2.1 a.2.2.2:Tr)) (Yi Zz (Yi (Q5s (U:=UV) .t25 Q30) (Yi Zz (Qvn (U:=UV) .t148))))
def Qrx:WD UV Br:=Xo (λa=>(.mk a.1 a.2.1 a.2.2:Br)) (Yi Q1d (Yi Q33 (Q5s (U:=UV) .t89 Ql9)))
def J04:WD UV Fn:=Xo (λa=>(.mk a.1 a.2.1 a.2.2.1 a.2.2.2:Fn)) (Yi Q1d (Yi (Q5s (U:=UV) .t25 Q30) (Yi Zz (Q5s (U:=UV) .t89 Ql9))))
def J09:WD UV Dcl:=Xo (λa=>(.mk a.1 a.2.1 a.2.2.1 a.2.2.2.1 a.2.2.2.2.1 a.2.2.2.2.2.1 a.2.2.2.2.2.2.1 a.2.2.2.2.2.2.2.1 a.2.2.2.2.2.2.2.2:Dcl)) (Yi Zz (Yi Q1d (Yi Zz (Yi (Q5s (U:=UV) .t25 Q30) (Yi (Q5s (U:=UV) .t25 Q30) (Yi Zz (Yi (Qvn (U:=UV) .t86) (Yi (Q5s (U:=UV) .t45 Qru) (Qvn (U:=UV) .t91)))))))))
def Jbw:(t:Tcd)->List (It UV)->Option (Rt t)|.t3,xs=>G3 (α:=Int) Zz xs|.t4,xs=>G3 (α:=Bool) Q33 xs|.t5,xs=>G3 (α:=Byt) J1d xs|.t9,xs=>G3 (α:=(List UInt8)) Q1d xs|.t82,xs=>G3 (α:=Lvl) J06 xs|.t142,xs=>G3 (α:=LV) Qry xs|.t132,xs=>G3 (α:=Tkn) Qs0 xs|.t137,xs=>G3 (α:=Tkn) Qrz xs|.t127,xs=>G3 (α:=Rdr) Qs1 xs|.t99,xs=>G3 (α:=RWr) J03 xs|.t69,xs=>G3 (α:=Rfd) J08 xs|.t77,xs=>G3 (α:=RRd) J07 xs|.t107,xs=>G3 (α:=Scp) Qs2 xs|.t192,xs=>G3 (α:=LRd) Qrv xs|.t25,xs=>G3 (α:=Tm) Q30 xs|.t155,xs=>G3 (α:=Use) Qrw xs|.t86,xs=>G3 (α:=Ctr) J05 xs|.t45,xs=>G3 (α:=Rcr) Qru xs|.t89,xs=>G3 (α:=Tr) Ql9 xs|.t148,xs=>G3 (α:=Br) Qrx xs|.t91,xs=>G3 (α:=Fn) J04 xs|.t48,xs=>G3 (α:=Dcl) J09 xs
abbrev DV:Codec UV:=⟨Jcr,J6z,Jbw⟩
theorem Xe:∀(t:Tcd)(x:Rt t),(Jcr t x).map TC.er=(encT t).enc x|.t3,x=>(by first|rfl|(cases x;rfl))|.t4,x=>(by first|rfl|(cases x;rfl))|.t5,x=>(by first|rfl|(cases x;rfl))|.t9,x=>(by first|rfl|(cases x;rfl))|.t82,x=>(by first|rfl|(cases x;rfl))|.t142,x=>(by first|rfl|(cases x;rfl))|.t132,x=>(by first|rfl|(cases x;rfl))|.t137,x=>(by first|rfl|(cases x;rfl))|.t127,x=>(by first|rfl|(cases x;rfl))|.t99,x=>(by first|rfl|(cases x;rfl))|.t69,x=>(by first|rfl|(cases x;rfl))|.t77,x=>(by first|rfl|(cases x;rfl))|.t107,x=>(by first|rfl|(cases x;rfl))|.t192,x=>(by first|rfl|(cases x;rfl))|.t25,x=>(by first|rfl|(cases x;rfl))|.t155,x=>(by first|rfl|(cases x;rfl))|.t86,x=>(by first|rfl|(cases x;rfl))|.t45,x=>(by first|rfl|(cases x;rfl))|.t89,x=>(by first|rfl|(cases x;rfl))|.t148,x=>(by first|rfl|(cases x;rfl))|.t91,x=>(by first|rfl|(cases x;rfl))|.t48,x=>by first|rfl|(cases x;rfl)
theorem Jbk:Js DV J06 (encT .t82).enc:=Y8 (QR Je (WR (U:=UV) .t142)) λa=>rfl
theorem J8a:Js DV Qry (encT .t142).enc:=Y8 (QR Je Je) λa=>rfl
theorem J8c:Js DV Qs0 (encT .t132).enc:=Y8 (QR ZS Je) λa=>rfl
theorem J8b:Js DV Qrz (encT .t137).enc:=Y8 (QR ZS Je) λa=>rfl
theorem J8d:Js DV Qs1 (encT .t127).enc:=Y8 (QR (WR (U:=UV) .t132) Je) λa=>rfl
theorem Jbh:Js DV J03 (encT .t99).enc:=Y8 (QR ZS Je) λa=>rfl
theorem Jbm:Js DV J08 (encT .t69).enc:=Y8 (QR Je Je) λa=>rfl
theorem Jbl:Js DV J07 (encT .t77).enc:=Y8 (QR ZS (QR Je Xp)) λa=>rfl
theorem J8e:Js DV Qs2 (encT .t107).enc:=Y8 (QR Je (QR Je (QR Je Je))) λa=>rfl
theorem J87:Js DV Qrv (encT .t192).enc:=Y8 (QR ZS (QR Je (QR Xp Je))) λa=>rfl
theorem Qj0:Js DV Q30 (encT .t25).enc:=Y8 (QR Je (QR Je (QR ZS (QR (WR (U:=UV) .t82) (WR (U:=UV) .t25))))) λa=>rfl
theorem J88:Js DV Qrw (encT .t155).enc:=Y8 (QR Xp (QR Xp (QR Je (QR Je Je)))) λa=>rfl
theorem Jbj:Js DV J05 (encT .t86).enc:=Y8 (QR ZS (G2 (U:=UV) (D:=DV) Xe Tcd.t25 (Qj0))) λa=>rfl
theorem J86:Js DV Qru (encT .t45).enc:=Y8 (QR Je (QR (G2 (U:=UV) (D:=DV) Xe Tcd.t25 (Qj0)) (WR (U:=UV) .t25))) λa=>rfl
theorem J3o:Js DV Ql9 (encT .t89).enc:=Y8 (QR Je (QR (G2 (U:=UV) (D:=DV) Xe Tcd.t25 (Qj0)) (QR Je (WR (U:=UV) .t148)))) λa=>rfl
theorem J89:Js DV Qrx (encT .t148).enc:=Y8 (QR ZS (QR Xp (G2 (U:=UV) (D:=DV) Xe Tcd.t89 (J3o)))) λa=>rfl
theorem Jbi:Js DV J04 (encT .t91).enc:=Y8 (QR ZS (QR (G2 (U:=UV) (D:=DV) Xe Tcd.t25 (Qj0)) (QR Je (G2 (U:=UV) (D:=DV) Xe Tcd.t89 (J3o))))) λa=>rfl
theorem Jbn:Js DV J09 (encT .t48).enc:=Y8 (QR Je (QR ZS (QR Je (QR (G2 (U:=UV) (D:=DV) Xe Tcd.t25 (Qj0)) (QR (G2 (U:=UV) (D:=DV) Xe Tcd.t25 (Qj0)) (QR Je (QR (WR (U:=UV) .t86) (QR (G2 (U:=UV) (D:=DV) Xe Tcd.t45 (J86)) (WR (U:=UV) .t91))))))))) λa=>rfl
theorem Qg:DV.OK where
 fl:=Xe
 sz:=λt x=>by cases t <;> first|rfl|(cases x;rfl)
 sub:=λt x off n t' x' h=>by
  unfold Codec.sub at h
  dsimp only[DV]at h
  unfold J6z at h
  split at h
  all_goals (cases h;try exact⟨rfl,rfl⟩)
 bld:=λtk t xs x h=>by
  cases t with
  |t3=>exact JE (D:=DV) Je tk xs x h
  |t4=>exact JE (D:=DV) Xp tk xs x h
  |t5=>exact JE (D:=DV) Qwj tk xs x h
  |t9=>exact JE (D:=DV) ZS tk xs x h
  |t82=>exact JE (D:=DV) Jbk tk xs x h
  |t142=>exact JE (D:=DV) J8a tk xs x h
  |t132=>exact JE (D:=DV) J8c tk xs x h
  |t137=>exact JE (D:=DV) J8b tk xs x h
  |t127=>exact JE (D:=DV) J8d tk xs x h
  |t99=>exact JE (D:=DV) Jbh tk xs x h
  |t69=>exact JE (D:=DV) Jbm tk xs x h
  |t77=>exact JE (D:=DV) Jbl tk xs x h
  |t107=>exact JE (D:=DV) J8e tk xs x h
  |t192=>exact JE (D:=DV) J87 tk xs x h
  |t25=>exact JE (D:=DV) Qj0 tk xs x h
  |t155=>exact JE (D:=DV) J88 tk xs x h
  |t86=>exact JE (D:=DV) Jbj tk xs x h
  |t45=>exact JE (D:=DV) J86 tk xs x h
  |t89=>exact JE (D:=DV) J3o tk xs x h
  |t148=>exact JE (D:=DV) J89 tk xs x h
  |t91=>exact JE (D:=DV) Jbi tk xs x h
  |t48=>exact JE (D:=DV) Jbn tk xs x h
def Jbu:BytOf UV where
 t:=.t5
 bs:=λs=>(s.map λb=>(⟨b.toNat⟩:Byt):List Byt)
 sz:=rfl
 ok:=λl s=>by
  have h:∀(l:List Byt),(l++s.map λb=>(⟨b.toNat⟩:Byt)).map bytC=l.map bytC++bc s:=λl=>by rw[Ct,CL];rfl
  exact h l
 sb:=λl=>(l:List Byt).map Byt.u8
 back:=λl=>⟨l,rfl,rfl⟩
abbrev CV:TCfg UV:=⟨tabs,[(3,.t3),(4,.t4),(5,.t5),(9,.t9),(82,.t82),(142,.t142),(132,.t132),(137,.t137),(127,.t127),(99,.t99),(69,.t69),(77,.t77),(107,.t107),(192,.t192),(25,.t25),(155,.t155),(86,.t86),(45,.t45),(89,.t89),(148,.t148),(91,.t91),(48,.t48)],some Jbu⟩
end
section
open Go.RowKit
inductive PK where
 |p0 (T:TypeId)
 |p1 (T:TypeId)
 |p2 (T:TypeId)
 |num (T:TypeId)
def PK.Ty:PK->Type|.p0 _=>Unit|.p1 _=>Int|.p2 _=>Int×Int|.num _=>Int
def Q40:(k:PK)->k.Ty->Value|.p0 T,_=>.iface T (.agg #[])|.p1 T,a=>.iface T (.agg #[.int .i64 a])|.p2 T,a=>.iface T (.agg #[.int .i64 a.1,.int .i64 a.2])|.num T,a=>.iface T (.int .i64 a)
def Qmq:List Value->Option (List Int)|[]=>some []|v::r=>match v with|.int .i64 a=>(match Qmq r with|some l=>some (a::l)|none=>none)|_=>none
def J0m(T:TypeId):(k:PK)->List Int->Option k.Ty|.p0 T',[]=>cond (Nat.beq T T') (some ()) none|.p1 T',[a]=>cond (Nat.beq T T') (some a) none|.p2 T',[a,b]=>cond (Nat.beq T T') (some (a,b)) none|_,_=>none
def Qum(T:TypeId)(k:PK)(us:List Value):Option k.Ty:=match Qmq us with|some l=>J0m T k l|none=>none
def J0l(T:TypeId)(a:Int):(k:PK)->Option k.Ty|.num T'=>cond (Nat.beq T T') (some a) none|_=>none
def Qz7(k:PK):Value->Option k.Ty|.iface T (.agg us)=>Qum T k us.toList|.iface T (.int .i64 a)=>J0l T a k|_=>none
theorem Qn8{α:Type}{T T':Nat}{x e:α}(h:cond (Nat.beq T T') (some x) none=some e):T=T'/\x=e:=by cases hb:Nat.beq T T' with|false=>rw[hb]at h;cases h|true=>rw[hb]at h;cases h;exact⟨Cc hb,rfl⟩
theorem Qfc:∀{us:List Value}{l:List Int},Qmq us=some l->us=l.map λa=>.int .i64 a|[],l,h=>by cases h;rfl|v::r,l,h=>by unfold Qmq at h;split at h;split at h;rename_i l' hl;cases h;rw[Qfc hl];rfl;cases h;cases h
theorem Qun{T:TypeId}{k:PK}{l:List Int}{e:k.Ty}(h:J0m T k l=some e):Value.iface T (.agg (l.map λa=>.int .i64 a).toArray)=Q40 k e:=by cases k with|p0 T'=>(cases l with|nil=>(obtain⟨h1,h2⟩:=Qn8 (show cond (Nat.beq T T') (some ()) none=some e from h);subst h1;rfl)|cons x us=>cases h)|p1 T'=>(cases l with|nil=>cases h|cons a l=>cases l with|nil=>(obtain⟨h1,h2⟩:=Qn8 (show cond (Nat.beq T T') (some a) none=some e from h);subst h1;subst h2;rfl)|cons b l=>cases h)|p2 T'=>(cases l with|nil=>cases h|cons a l=>cases l with|nil=>cases h|cons b l=>cases l with|nil=>(obtain⟨h1,h2⟩:=Qn8 (show cond (Nat.beq T T') (some (a,b)) none=some e from h);subst h1;subst h2;rfl)|cons c l=>cases h)|num T'=>cases l <;> cases h
theorem Qul{T:TypeId}{k:PK}{us:List Value}{e:k.Ty}(h:Qum T k us=some e):Value.iface T (.agg us.toArray)=Q40 k e:=by unfold Qum at h;split at h;rename_i l hl;rw[Qfc hl];exact Qun h;cases h
theorem Quk{T:TypeId}{k:PK}{a:Int}{e:k.Ty}(h:J0l T a k=some e):Value.iface T (.int .i64 a)=Q40 k e:=by cases k with|num T'=>(obtain⟨h1,h2⟩:=Qn8 (show cond (Nat.beq T T') (some a) none=some e from h);subst h1;subst h2;rfl)|p0 T'=>cases h|p1 T'=>cases h|p2 T'=>cases h
theorem Qn5{k:PK}{v:Value}{e:k.Ty}(h:Qz7 k v=some e):v=Q40 k e:=by unfold Qz7 at h;split at h;rename_i T us;have:=Qul h;simpa using this;exact Quk h;cases h
section
variable{U:Univ}
inductive IM(U:Univ) where
 |st
 |lab (sl:List (List HL×HK U))
 |labP (sl dl:List (List HL×HK U)) (pk:PK)
structure IH(U:Univ) where
 fn:Func
 h:Hints U
 md:IM U
def Q28(c:Option Code)(H:Hints U):Option (Code×Tc U):=match c with|none=>none|some c=>match KV H 0 c with|some (_,tc)=>some (c,tc)|none=>none
theorem UJ{b:Option Code}{H:Hints U}{c:Code}{tc:Tc U}(h:Q28 b H=some (c,tc)):tc.code=c/\b=some c:=by unfold Q28 at h;split at h;cases h;split at h;rename_i n' tc' hcc;cases h;exact⟨Yn _ hcc,Z⟩;cases h
variable(D:Codec U)(C:TCfg U)(K:FuncId->List (TAV U)->Option (KR U))
def Qe2(s:TSt U):List ResultVar->Option (List (TAV U))|[]=>some []|v::vs=>match Qe3 D C s v with|some x=>(match Qe2 s vs with|some xs=>some (x::xs)|none=>none)|none=>none
def Qhi:List (TAV U)->TTV U|[x]=>.v x|xs=>.tup xs
def Qja(h:Lab U)(s0 s:TSt U)(rs:List ResultVar):Option (tup (h.sl.map (·.2))):=match Xn D h s0 s with|some t=>(match Qe2 D C (lab h s0 t) rs with|some _=>some t|none=>none)|none=>none
def Qnq(s:TSt U)(rs:List ResultVar):TTV U:=match Qe2 D C s rs with|some xs=>Qhi xs|none=>.unk
def Xg(X:XH U)(Y:YH U){β:Type}(s:TSt U)(u:Option Value)(kv:TSt U->Option β)(kd:Value->TSt U->Option β):Option β:=match s.df with
 |[]=>match u with|none=>kv s|some v=>kd v s
 |f::is=>match X Y (.dfr f u) (ZX is) s.m with
  |some xo=>xo.run (λx m2=>cond (ZB (Ui m2.tk s.m.tk) s.tm) (match u with
   |none=>kv ⟨s.tm,m2,s.nt,[]⟩
   |some v=>match x with
    |.v (.one (.c (.v (.bool true))))=>kv ⟨s.tm,m2,s.nt,[]⟩
    |.v (.one (.c (.v (.bool false))))=>kd v ⟨s.tm,m2,s.nt,[]⟩
    |_=>none) none) λ_ _=>none
  |none=>none
abbrev Jck(U:Univ):=Option Value×TSt U
def J82(X:XH U)(Y:YH U)(fn:Func)(tc:Tc U)(args:List (TAV U))(m:TMe U):CO U:=⟨λk d=>Yh D C K X tc Y none (R:=Jck U) (λs=>some (none,s)) (λv s=>some (some v,s)) ⟨Y2 0 args,m,fn.ntmps,[]⟩ (λa=>Xg X Y a.2 a.1 (λs=>match Qe2 D C s fn.results.toList with
  |some xs=>k (Qhi xs) s.m
  |none=>none) λv s=>d v s.m) λe s=>match e with
 |.normal=>Xg X Y s none (λs=>match Qe2 D C s fn.results.toList with
  |some xs=>k (Qhi xs) s.m
  |none=>none) λv s=>d v s.m
 |_=>none⟩
def J85(X:XH U)(Y:YH U)(fn:Func)(tc:Tc U)(L:Lab U)(s0:TSt U):CO U:=⟨λk _=>Option.bind (Yh D C K X tc Y none (λs=>Xg X Y s none (λs=>Qja D C L s0 s fn.results.toList) λ_ _=>none) (λv s=>Xg X Y s (some v) (λs=>Qja D C L s0 s fn.results.toList) λ_ _=>none) s0 some λe s=>match e with
 |.normal=>Xg X Y s none (λs=>Qja D C L s0 s fn.results.toList) λ_ _=>none
 |_=>none) λt=>k (Qnq D C (lab L s0 t) fn.results.toList) (lab L s0 t).m⟩
def Q8v(pk:PK)(Ld:Lab U)(s0:TSt U){α:Type}(v:Value)(s:TSt U):Option (α⊕(pk.Ty×tup (Ld.sl.map (·.2)))):=match Qz7 pk v,Xn D Ld s0 s with|some e,some t=>some (.inr (e,t))|_,_=>none
def Qph(L:Lab U)(s0:TSt U)(rs:List ResultVar){α:Type}(s:TSt U):Option (tup (L.sl.map (·.2))⊕α):=match Qja D C L s0 s rs with|some t=>some (.inl t)|none=>none
def J83(X:XH U)(Y:YH U)(fn:Func)(tc:Tc U)(L Ld:Lab U)(pk:PK)(s0:TSt U):CO U:=⟨λk d=>Option.bind (Yh D C K X tc Y none (R:=tup (L.sl.map (·.2))⊕(pk.Ty×tup (Ld.sl.map (·.2)))) (λs=>Xg X Y s none (Qph D C L s0 fn.results.toList) (Q8v D pk Ld s0)) (λv s=>Xg X Y s (some v) (Qph D C L s0 fn.results.toList) (Q8v D pk Ld s0)) s0 some λe s=>match e with
 |.normal=>Xg X Y s none (Qph D C L s0 fn.results.toList) (Q8v D pk Ld s0)
 |_=>none) (Sum.elim (λt=>k (Qnq D C (lab L s0 t) fn.results.toList) (lab L s0 t).m) λa=>d (Q40 pk a.1) (lab Ld s0 a.2).m)⟩
def Qe6:List (TAV U)->Option (List Nat)
 |[]=>some []
 |.one (.ptr i off)::r=>cond (Nat.beq off 0) (match Qe6 r with
  |some l=>some (i::l)
  |none=>none) none
 |_=>none
def Ql1(ops:List Oper):Option (Nat×Option Nat):=match ops with|[⟨some d,.call {callee:=.builtin .recover,args:=xs,argTypes:=_},_,_,_,none⟩]=>(match xs.toList with|[]=>some (d,none)|_=>none)|[⟨some d,.call {callee:=.builtin .recover,args:=xs,argTypes:=_},_,_,_,none⟩,⟨some d2,.assign (.tmp d1),_,_,_,none⟩]=>(match xs.toList with|[]=>cond (Nat.beq d1 d) (some (d,some d2)) none|_=>none)|_=>none
def J7a:Tc U->Option ((Nat×Option Nat)×Tc U)|.seq (.reg _ ops) b=>(match Ql1 ops.toList with|some d=>some (d,b)|none=>none)|_=>none
def Qrh(d:Nat×Option Nat)(v:Value)(tm:List (Nat×TTV U)):List (Nat×TTV U):=match d.2 with|none=>(d.1,.v (.one (.c (.v v))))::tm|some d2=>(d2,.v (.one (.c (.v v))))::(d.1,.v (.one (.c (.v v))))::tm
def Qrj(d:Nat×Option Nat)(n:Nat):Bool:=Nat.blt d.1 n&&match d.2 with|none=>true|some d2=>Nat.blt d2 n
def J3n(X:XH U)(Y:YH U)(tc:Tc U)(rc:Bool)(tm:List (Nat×TTV U))(nt:Nat)(m:TMe U):CO U:=⟨λk _=>Yh D C K X tc Y none (R:=TSt U) (λs=>some s) (λ_ _=>none) ⟨tm,m,nt,[]⟩ (λs=>cond (Q88 s.df []) (k (Je4 rc) s.m) none) λe s=>match e with
 |.normal=>cond (Q88 s.df []) (k (Je4 rc) s.m) none
 |_=>none⟩
def Qs9(fn:Func):Bool:=fn.results.toList.isEmpty
def J3m(X:XH U)(I:List (Nat×IH U)):XH U:=λY c args m=>match c with
 |.yld _=>none
 |.fn f=>match lk I f with
  |none=>none
  |some ih=>match Q28 ih.fn.body ih.h with
   |none=>none
   |some (c,tc)=>cond (Nat.ble args.length ih.fn.ntmps) (match ih.md with
    |.st=>some (J82 D C K X Y ih.fn tc args m)
    |.lab sl=>match D3 D (U4 sl c) ⟨Y2 0 args,m,ih.fn.ntmps,[]⟩with|none=>none|some (L,s0)=>cond (Q88 s0.df []) (some (J85 D C K X Y ih.fn tc L s0)) none
    |.labP sl dl pk=>match D3 D (U4 sl c) ⟨Y2 0 args,m,ih.fn.ntmps,[]⟩with
     |none=>none
     |some (L,s0)=>match Q1x D (U4 dl c) s0 with
      |none=>none
      |some Ld=>cond (Q88 s0.df []) (some (J83 D C K X Y ih.fn tc L Ld pk s0)) none) none
 |.dfr f u=>match lk I f with
  |none=>none
  |some ih=>match Q28 ih.fn.body ih.h,Qe6 args with
   |some (_,tc),some is=>cond (Nat.ble args.length ih.fn.ntmps&&Qs9 ih.fn) (match J7a tc with
    |some (d,tb)=>cond (Qrj d ih.fn.ntmps&&(u.getD .nilIface).oneCell') (some (J3n D C K X Y tb true (Qrh d (u.getD .nilIface) (Y2 0 args)) ih.fn.ntmps m)) none
    |none=>some (J3n D C K X Y tc false (Y2 0 args) ih.fn.ntmps m)) none
   |_,_=>none
def Jb0(T X:XH U):XH U:=λY c args m=>match T Y c args m with|some xo=>some xo|none=>X Y c args m
def J84(T:XH U)(I:List (Nat×IH U)):Nat->XH U|0=>T|n+1=>Jb0 T (J3m D C K (J84 T I n) I)
def IOK(P:Program):List (Nat×IH U)->Prop|[]=>True|(f,ih)::r=>(P.funcs[f]?=some ih.fn/\Qd P f)/\IOK P r
variable{D C K}
theorem IOK.get{P:Program}:∀{I:List (Nat×IH U)}{f:Nat}{ih:IH U},IOK P I->lk I f=some ih->P.funcs[f]?=some ih.fn/\Qd P f
 |[],f,ih,_,h=>by cases h
 |(g,x)::r,f,ih,hI,h=>by
  rw[Q8]at h;split at h
  · rename_i e;subst e;cases h;exact hI.1
  · exact IOK.get hI.2 h
theorem Qb5{P:Program}(hT:C.T.OK P)(hD:D.OK){s:TSt U}:∀{rs:List ResultVar}{xs:List (TAV U)},Qe2 D C s rs=some xs->RAs P (s.er D) rs (xs.map (TAV.er D s.m.tk))|[],xs,h=>by cases h;exact .nil|v::vs,xs,h=>by unfold Qe2 at h;split at h;rename_i x hx;split at h;rename_i ys hy;cases h;exact Q5j hT hD hx (Qb5 hT hD hy);cases h;cases h
theorem Wn(tk:List (Nat×TTok U)):∀(args:List (TAV U))(i:Nat),QW (TTV.er D tk) (Y2 i args)=J4 i (args.map (TAV.er D tk))|[],i=>rfl|x::xs,i=>by show(i,TV.v (x.er D tk))::QW (TTV.er D tk) (Y2 (i+1) xs)=(i,TV.v (x.er D tk))::J4 (i+1) _;rw[Wn tk xs (i+1)]
theorem Qky(tk:List (Nat×TTok U))(xs:List (TAV U)):(Qhi xs).er D tk=Qj (xs.map (TAV.er D tk)):=by match xs with|[]=>rfl|[x]=>rfl|x::y::xs=>rfl
theorem Q6t(fn:Func)(args:List (TAV U))(m:TMe U):((⟨Y2 0 args,m,fn.ntmps,[]⟩:TSt U).er D)=⟨J4 0 (args.map (TAV.er D m.tk)),(m.er D).hp,(m.er D).tk,(m.er D).nx,fn.ntmps,[]⟩:=by show(⟨QW (TTV.er D m.tk) (Y2 0 args),Qq D m.tk m.es,WB m.tk,m.nx,fn.ntmps,[]⟩:St)=_;rw[Wn];rfl
theorem ToW.trans{W:Wd}{P:Program}{nx0:Nat}{x y z:St}(h:ToW W P nx0 x y)(k:ToW W P nx0 y z):ToW W P nx0 x z:=λE a b c=>(h E a b c).trans (k E a b c)
theorem ToW.weak{W:Wd}{P:Program}{nx0:Nat}{x y:St}(h:StW x y):ToW W P nx0 x y:=λE a b c=>To.weak h
def J5j:Option Value->Exit->Prop|none,e=>e=.normal\/e=.ret|some v,e=>e=.panic (Kz v)
theorem UG{W:Wd}{P:Program}{X:XH U}(hX:UM W D P X){Y:YH U}(fn:Func)(nx0:Nat){s:TSt U}{u:Option Value}{β:Type}{kv:TSt U->Option β}{kd:Value->TSt U->Option β}{r:β}(hY:YOK W D P Y s.m)(h:Xg X Y s u kv kd=some r):∃s':TSt U,SfM s.m s'.m/\s'.df=[]/\s'.tm=s.tm/\s'.nt=s.nt /\ ((kv s'=some r/\∀e st1 xs,J5j u e->st1.df=[]->ToW W P nx0 (s'.er D) st1->RAs P st1 fn.results.toList xs->EndO W P fn nx0 e (s.er D) (.val (Qj xs) st1.mem)) \/ (∃v,u=some v/\kd v s'=some r/\∀e st1,J5j u e->st1.df=[]->ToW W P nx0 (s'.er D) st1->EndO W P fn nx0 e (s.er D) (.die v st1.mem))):=by
 unfold Xg at h;split at h;rename_i hd;cases u with|none=>exact⟨s,SfM.refl _,hd,rfl,rfl,.inl ⟨h,λe st1 xs he h1 h2 h3=>.ret he h1 h2 h3⟩⟩|some v=>exact⟨s,SfM.refl _,hd,rfl,rfl,.inr ⟨v,rfl,h,λe st1 he h1 h2=>by cases he;exact .die h1 h2⟩⟩
 rename_i f is hd;split at h;rename_i xo hxo;obtain⟨q,q1,q2,q3⟩:=hX _ _ _ _ _ hY hxo _ _ _ h;obtain⟨is',rc,m2,ha,rfl,hdm⟩:=q1;have eis:is'=is:=by(have key:∀(a b:List Nat),ZX (U:=U) a=ZX b->a=b:=by intro a;induction a with|nil=>(intro b h;cases b with|nil=>rfl|cons y b=>cases h)|cons x a ih=>intro b h;cases b with|nil=>cases h|cons y b=>have h':(TAV.one (.ptr x 0):TAV U)::ZX a=.one (.ptr y 0)::ZX b:=h;injection h' with h1 h2;cases h1;rw[ih b h2]);exact(key _ _ ha).symm
 subst eis;dsimp only[OutT.to]at q3;have q2':SfM s.m m2:=q2;cases hf:ZB (Ui m2.tk s.m.tk) s.tm with|false=>rw[hf]at q3;cases q3|true=>rw[hf,C5]at q3;(have hw:ToW W P nx0 ⟨(s.er D).tm,(m2.er D).hp,(m2.er D).tk,(m2.er D).nx,(s.er D).nt,[]⟩ ((⟨s.tm,m2,s.nt,[]⟩:TSt U).er D):=by have hz:=Qfs (D:=D) (st:=⟨s.tm,s.m,s.nt,[]⟩) (m:=m2) (λt z hz V w v hv=>XI hf q2'.tk hz V w v hv);exact ToW.weak hz);refine⟨⟨s.tm,m2,s.nt,[]⟩,q2',Z,Z,Z,?_⟩;cases u with|none=>exact .inl ⟨q3,λe st1 xs he h1 h2 h3=>.dret he hd hdm h1 (hw.trans h2) h3⟩|some v=>cases rc with|true=>exact .inl ⟨q3,λe st1 xs he h1 h2 h3=>by cases he;exact .drec hd hdm h1 (hw.trans h2) h3⟩|false=>exact .inr ⟨v,rfl,q3,λe st1 he h1 h2=>by cases he;exact .ddie hd hdm h1 (hw.trans h2)⟩
 cases h
theorem Qg0{W:Wd}{P:Program}(hP:P=prog){X:XH U}{Y:YH U}{f:FuncId}{fn:Func}{c:Code}{tc:Tc U}{args:List (TAV U)}{m:TMe U}{s0:TSt U}(hT:C.T.OK P)(hD:D.OK)(hK:Q2n W D P K)(hX:UM W D P X)(hY:YOK W D P Y m)(hf:P.funcs[f]?=some fn)(hen:Qd P f)(hc:tc.code=c)(hb:fn.body=some c)(hle:args.length<=fn.ntmps)(hto:∀E,To E ((⟨Y2 0 args,m,fn.ntmps,[]⟩:TSt U).er D) (s0.er D))(hsf:Sfx ⟨Y2 0 args,m,fn.ntmps,[]⟩ s0){R β:Type}{ret:TSt U->Option R}{pan:Value->TSt U->Option R}{p:R->Option β}{k:Exit->TSt U->Option β}{r:β}(h:Yh D C K X tc Y none ret pan s0 p k=some r){S:OutM->Prop}(h1:∀e s,Sfx s0 s->k e s=some r->∃o,S o/\EndO W P fn m.nx e (s.er D) o)(h2:∀a,p a=some r->(∃s,Sfx s0 s/\(ret s=some a\/∃v,pan v s=some a))->(∀s,Sfx s0 s->ret s=some a->∃o,S o/\EndO W P fn m.nx .ret (s.er D) o)/\∀v s,Sfx s0 s->pan v s=some a->∃o,S o/\EndO W P fn m.nx (.panic (Kz v)) (s.er D) o):CallP W P f (args.map (TAV.er D m.tk)) (m.er D) S:=by
 have hm:P.follows .mixedOrders=true:=by rw[hP];exact Qhr
 have go:(∀E ro n Q,Fit W P none E ro->E.V0.nx<=s0.m.nx->(∀e st' o,S o->EndO W P fn m.nx e st' o->XQ E Q e st')->XC E ro n Q tc.code (s0.er D))->CallP W P f (args.map (TAV.er D m.tk)) (m.er D) S:=by intro hx;refine Xj hf hb hen (by rw[Co];exact hle) (λw0 M V0 Q hW h0 hQ=>?_) hP;have key:=hx ⟨P,w0,M,V0⟩ none 0 Q ⟨rfl,hW,rfl⟩ (Cg h0 hsf.nx) hQ;rw[hc]at key;have:=Kv (hto _) key;rw[Q6t]at this;exact this
 rcases JP hP hm hT hD hK hX tc (hY.mono hsf.sfm) h with⟨e,s,hs,hk,hx⟩|⟨a,hp,hex,hx⟩;obtain⟨o,o1,o2⟩:=h1 e s hs hk;exact go (λE ro n Q ft h0 hQ=>hx E ro n Q ft h0 (hQ e _ o o1 o2));obtain⟨o2,o3⟩:=h2 a hp hex;exact go (λE ro n Q ft h0 hQ=>hx E ro n Q ft h0 (λs hs e=>let⟨o,q1,q2⟩:=o2 s hs e;hQ _ _ o q1 q2) (λv s hs e=>let⟨o,q1,q2⟩:=o3 v s hs e;hQ _ _ o q1 q2))
theorem Qcm{W:Wd}{P:Program}(hP:P=prog){X:XH U}{Y:YH U}{f:FuncId}{fn:Func}{c:Code}{tc:Tc U}{args:List (TAV U)}{m:TMe U}{s0:TSt U}(hT:C.T.OK P)(hD:D.OK)(hK:Q2n W D P K)(hX:UM W D P X)(hY:YOK W D P Y m)(hf:P.funcs[f]?=some fn)(hen:Qd P f)(hc:tc.code=c)(hb:fn.body=some c)(hle:args.length<=fn.ntmps)(hto:∀E,To E ((⟨Y2 0 args,m,fn.ntmps,[]⟩:TSt U).er D) (s0.er D))(hsf:Sfx ⟨Y2 0 args,m,fn.ntmps,[]⟩ s0){R β:Type}{ret:TSt U->Option R}{pan:Value->TSt U->Option R}{p:R->Option β}{k:Exit->TSt U->Option β}{r:β}(h:Yh D C K X tc Y none ret pan s0 p k=some r){S:OutM->Prop}(h1:∀e s,Sfx s0 s->k e s=some r->∃o,S o/\EndO W P fn m.nx e (s.er D) o)(h2:∀a,p a=some r->(∃s,Sfx s0 s/\(ret s=some a\/∃v,pan v s=some a))->∃o,S o/\(∀s,Sfx s0 s->ret s=some a->EndO W P fn m.nx .ret (s.er D) o)/\∀v s,Sfx s0 s->pan v s=some a->EndO W P fn m.nx (.panic (Kz v)) (s.er D) o):∃o,S o/\CallO W P f (args.map (TAV.er D m.tk)) (m.er D) o:=by
 have one:∀o,S o->CallP W P f (args.map (TAV.er D m.tk)) (m.er D) (λo'=>o'=o)->∃o,S o/\CallO W P f (args.map (TAV.er D m.tk)) (m.er D) o:=λo ho h=>⟨o,ho,Qkd h⟩;have hm:P.follows .mixedOrders=true:=by rw[hP];exact Qhr
 rcases JP hP hm hT hD hK hX tc (hY.mono hsf.sfm) h with⟨e,s,hs,hk,hx⟩|⟨a,hp,hex,hx⟩;obtain⟨o,o1,o2⟩:=h1 e s hs hk;refine one o o1 (Xj hf hb hen (by rw[Co];exact hle) (λw0 M V0 Q hW h0 hQ=>?_) hP);have key:=hx ⟨P,w0,M,V0⟩ none 0 Q ⟨rfl,hW,rfl⟩ (Cg h0 hsf.nx) (hQ _ _ o rfl o2);rw[hc]at key;have:=Kv (hto _) key;rw[Q6t]at this;exact this;obtain⟨o,o1,o2,o3⟩:=h2 a hp hex;refine one o o1 (Xj hf hb hen (by rw[Co];exact hle) (λw0 M V0 Q hW h0 hQ=>?_) hP);have key:=hx ⟨P,w0,M,V0⟩ none 0 Q ⟨rfl,hW,rfl⟩ (Cg h0 hsf.nx) (λs hs e=>hQ _ _ o rfl (o2 s hs e)) (λv s hs e=>hQ _ _ o rfl (o3 v s hs e));rw[hc]at key;have:=Kv (hto _) key;rw[Q6t]at this;exact this
theorem Q75{W:Wd}{P:Program}{f:FuncId}{args:List (TAV U)}{m:TMe U}{β:Type}{k:TTV U->TMe U->Option β}{d:Value->TMe U->Option β}{r:β}(h:∃o,(∃q:OutT U,o=q.er D/\SfM m q.m/\q.to k d=some r)/\CallO W P f (args.map (TAV.er D m.tk)) (m.er D) o):∃q:OutT U,Qgp W D P (.fn f) args m q/\SfM m q.m/\q.to k d=some r:=by obtain⟨o,⟨q,rfl,q2,q3⟩,hc⟩:=h;exact⟨q,hc,q2,q3⟩
theorem Qyw{W:Wd}{P:Program}(hP:P=prog)(hT:C.T.OK P)(hD:D.OK)(hK:Q2n W D P K){X:XH U}(hX:UM W D P X){Y:YH U}{f:FuncId}{fn:Func}{c:Code}{tc:Tc U}{args:List (TAV U)}{m:TMe U}(hY:YOK W D P Y m)(hf:P.funcs[f]?=some fn)(hen:Qd P f)(hc:tc.code=c)(hb:fn.body=some c)(hle:args.length<=fn.ntmps):Qkc m (J82 D C K X Y fn tc args m) (Qgp W D P (.fn f) args m):=by
 intro β k d r hr;have ho:∀(s:TSt U)(u:Option Value),Sfx ⟨Y2 0 args,m,fn.ntmps,[]⟩ s->Xg X Y s u (λs=>match Qe2 D C s fn.results.toList with
   |some xs=>k (Qhi xs) s.m
   |none=>none) (λv s=>d v s.m)=some r->∃o,(∃q:OutT U,o=q.er D/\SfM m q.m/\q.to k d=some r)/\∀e,J5j u e->EndO W P fn m.nx e (s.er D) o:=by
  intro s u hs hend
  obtain⟨s',a1,a2,a3,a4,a5⟩:=UG hX fn m.nx (hY.mono hs.sfm) hend
  have sm:SfM m s'.m:=hs.sfm.trans a1
  rcases a5 with⟨b1,b2⟩|⟨v,rfl,b1,b2⟩
  ·split at b1
   ·rename_i xs hxs
    refine⟨_,⟨.val (Qhi xs) s'.m,Z,sm,b1⟩,λe he=>?_⟩
    have:=b2 e (s'.er D) _ he a2 (ToW.refl _ _ _ _) (Qb5 hT hD hxs)
    show EndO W P fn m.nx e (s.er D) (.val ((Qhi xs).er D s'.m.tk) (s'.m.er D))
    rw[Qky]
    exact this
   ·cases b1
  ·exact⟨_,⟨.die v s'.m,rfl,sm,b1⟩,λe he=>b2 e (s'.er D) he a2 (ToW.refl _ _ _ _)⟩
 refine Q75 (Qcm hP hT hD hK hX hY hf hen hc hb hle (λE=>To.refl _ _) (Sfx.refl _) hr (λe s hs hk=>?_) (λa hp hex=>?_));cases e with|normal=>(obtain⟨o,o1,o2⟩:=ho s none hs hk;exact⟨o,o1,o2 _ (.inl rfl)⟩)|ret=>cases hk|exit j=>cases hk|goto l=>cases hk|panic c=>cases hk|outgrown=>cases hk
 obtain⟨u,s1⟩:=a;have hs1:Sfx ⟨Y2 0 args,m,fn.ntmps,[]⟩ s1:=by obtain⟨s,hs,e|⟨v,e⟩⟩:=hex;cases e;exact hs;cases e;exact hs
 obtain⟨o,o1,o2⟩:=ho s1 u hs1 hp;exact⟨o,o1,λs hs e=>by cases e;exact o2 _ (.inr rfl),λv s hs e=>by cases e;exact o2 _ rfl⟩
theorem Qn1{P:Program}(hT:C.T.OK P)(hD:D.OK){L:Lab U}{s0 s:TSt U}{rs:List ResultVar}{t:tup (L.sl.map (·.2))}(h:Qja D C L s0 s rs=some t):Xn D L s0 s=some t/\∃xs,RAs P ((lab L s0 t).er D) rs xs/\Qj xs=(Qnq D C (lab L s0 t) rs).er D (lab L s0 t).m.tk:=by unfold Qja at h;split at h;rename_i t' ht;split at h;rename_i xs hxs;cases h;refine⟨ht,_,Qb5 hT hD hxs,?_⟩;unfold Qnq;rw[hxs];exact(Qky _ _).symm;cases h;cases h
theorem Qhc{a b c:TSt U}(h:Sfx a b)(k:SfM b.m c.m)(e1:c.tm=b.tm)(e2:c.nt=b.nt)(hd:a.df=[]):Sfx a c:=by obtain⟨h1,h2,h3,h4,h5,-⟩:=h;have hk:=(⟨h2,h3,h4⟩:SfM a.m b.m).trans k;exact⟨by rw[e1];exact h1,hk.es,hk.tk,hk.nx,e2.trans h5,.inl hd⟩
theorem Qc8{W:Wd}{P:Program}(hD:D.OK){L:Lab U}{s0 s':TSt U}{t:tup (L.sl.map (·.2))}{nx0:Nat}(hw:Qql L s0=true)(hs:Sfx s0 s')(hp:Xn D L s0 s'=some t)(h0:nx0<=s0.m.nx):ToW W P nx0 (s'.er D) ((lab L s0 t).er D):=λE _ _ h=>U3 hD ⟨hs,hw,hp⟩ (Cg h h0)
theorem Qyy{W:Wd}{P:Program}(hP:P=prog)(hT:C.T.OK P)(hD:D.OK)(hK:Q2n W D P K){X:XH U}(hX:UM W D P X){Y:YH U}{f:FuncId}{fn:Func}{c:Code}{tc:Tc U}{args:List (TAV U)}{m:TMe U}{h:HLab U}{L:Lab U}{s0:TSt U}(hY:YOK W D P Y m)(hf:P.funcs[f]?=some fn)(hen:Qd P f)(hc:tc.code=c)(hb:fn.body=some c)(hle:args.length<=fn.ntmps)(hl:D3 D h ⟨Y2 0 args,m,fn.ntmps,[]⟩=some (L,s0))(hd0:s0.df=[]):Qkc m (J85 D C K X Y fn tc L s0) (Qgp W D P (.fn f) args m):=by
 intro β k d r hr;have hto:=λE=>(YG (E:=E) hD hl).1;obtain⟨-,hsf,hw⟩:=YG (E:=⟨P,default,λ_=>False,⟨0,λ_=>0,λ_ _=>undef,λ_=>0,λ_ _=>False⟩⟩) hD hl;obtain⟨t,ht,hk⟩:=Zt (show Option.bind _ _=some r from hr);have hls:=YE s0 t;have ho:∀(s:TSt U)(u:Option Value),Sfx s0 s->Xg X Y s u (λs=>Qja D C L s0 s fn.results.toList) (λ_ _=>none)=some t->∀e,J5j u e->EndO W P fn m.nx e (s.er D) (.val ((Qnq D C (lab L s0 t) fn.results.toList).er D (lab L s0 t).m.tk) ((lab L s0 t).m.er D)):=by intro s u hs hend e he;obtain⟨s',a1,a2,a3,a4,a5⟩:=UG hX fn m.nx (hY.mono (hsf.trans hs).sfm) hend;rcases a5 with⟨b1,b2⟩|⟨v,rfl,b1,b2⟩;obtain⟨q1,xs,q2,q3⟩:=Qn1 hT hD b1;have:=b2 e ((lab L s0 t).er D) xs he hd0 (Qc8 hD hw (Qhc hs a1 a3 a4 hd0) q1 hsf.nx) q2;rw[q3]at this;exact this;cases b1
 refine Q75 (Qcm hP hT hD hK hX hY hf hen hc hb hle hto hsf ht (S:=λo=>∃q:OutT U,o=q.er D/\SfM m q.m/\q.to k d=some r) (λe s hs hk'=>?_) (λa hp hex=>?_));cases e with|normal=>exact⟨_,⟨.val _ (lab L s0 t).m,rfl,(hsf.trans hls).sfm,hk⟩,ho s none hs hk' _ (.inl rfl)⟩|ret=>cases hk'|exit j=>cases hk'|goto l=>cases hk'|panic c=>cases hk'|outgrown=>cases hk'
 cases hp;exact⟨_,⟨.val _ (lab L s0 t).m,Z,(hsf.trans hls).sfm,hk⟩,λs hs e=>ho s none hs e _ (.inr Z),λv s hs e=>ho s (some v) hs e _ Z⟩
theorem Qn0{P:Program}(hT:C.T.OK P)(hD:D.OK){L:Lab U}{s0 s:TSt U}{rs:List ResultVar}{α:Type}{y:tup (L.sl.map (·.2))⊕α}(h:Qph D C L s0 rs s=some y):∃t,y=.inl t/\Xn D L s0 s=some t/\∃xs,RAs P ((lab L s0 t).er D) rs xs/\Qj xs=(Qnq D C (lab L s0 t) rs).er D (lab L s0 t).m.tk:=by unfold Qph at h;split at h;rename_i t ht;cases h;exact⟨t,Z,Qn1 hT hD ht⟩;cases h
theorem Qef{pk:PK}{Ld:Lab U}{s0 s:TSt U}{α:Type}{v:Value}{y:α⊕(pk.Ty×tup (Ld.sl.map (·.2)))}(h:Q8v D pk Ld s0 v s=some y):∃e t,y=.inr (e,t)/\v=Q40 pk e/\Xn D Ld s0 s=some t:=by unfold Q8v at h;split at h;rename_i e t he ht;cases h;exact⟨e,t,Z,Qn5 he,ht⟩;cases h
theorem Qyx{W:Wd}{P:Program}(hP:P=prog)(hT:C.T.OK P)(hD:D.OK)(hK:Q2n W D P K){X:XH U}(hX:UM W D P X){Y:YH U}{f:FuncId}{fn:Func}{c:Code}{tc:Tc U}{args:List (TAV U)}{m:TMe U}{h hd:HLab U}{L Ld:Lab U}{pk:PK}{s0:TSt U}(hY:YOK W D P Y m)(hf:P.funcs[f]?=some fn)(hen:Qd P f)(hc:tc.code=c)(hb:fn.body=some c)(hle:args.length<=fn.ntmps)(hl:D3 D h ⟨Y2 0 args,m,fn.ntmps,[]⟩=some (L,s0))(hld:Q1x D hd s0=some Ld)(hd0:s0.df=[]):Qkc m (J83 D C K X Y fn tc L Ld pk s0) (Qgp W D P (.fn f) args m):=by
 intro β k d r hr;have hto:=λE=>(YG (E:=E) hD hl).1;obtain⟨-,hsf,hw⟩:=YG (E:=⟨P,default,λ_=>False,⟨0,λ_=>0,λ_ _=>undef,λ_=>0,λ_ _=>False⟩⟩) hD hl;have hwd:=Q1w hld;obtain⟨y,ht,hk⟩:=Zt (show Option.bind _ _=some r from hr);have ho:∃o,(∃q:OutT U,o=q.er D/\SfM m q.m/\q.to k d=some r)/\∀(s:TSt U)(u:Option Value),Sfx s0 s->Xg X Y s u (Qph D C L s0 fn.results.toList) (Q8v D pk Ld s0)=some y->∀e,J5j u e->EndO W P fn m.nx e (s.er D) o:=by cases y with|inl t=>(refine⟨_,⟨.val _ (lab L s0 t).m,Z,(hsf.trans (YE s0 t)).sfm,hk⟩,λs u hs hend e he=>?_⟩;obtain⟨s',a1,a2,a3,a4,a5⟩:=UG hX fn m.nx (hY.mono (hsf.trans hs).sfm) hend;rcases a5 with⟨b1,b2⟩|⟨v,rfl,b1,b2⟩;obtain⟨t',e1,q1,xs,q2,q3⟩:=Qn0 hT hD b1;cases e1;have:=b2 e ((lab L s0 t).er D) xs he hd0 (Qc8 hD hw (Qhc hs a1 a3 a4 hd0) q1 hsf.nx) q2;rw[q3]at this;exact this;obtain⟨e',t',e1,-,-⟩:=Qef b1;cases e1)|inr y=>obtain⟨ev,t⟩:=y;refine⟨_,⟨.die (Q40 pk ev) (lab Ld s0 t).m,Z,(hsf.trans (YE s0 t)).sfm,hk⟩,λs u hs hend e he=>?_⟩;obtain⟨s',a1,a2,a3,a4,a5⟩:=UG hX fn m.nx (hY.mono (hsf.trans hs).sfm) hend;rcases a5 with⟨b1,b2⟩|⟨v,rfl,b1,b2⟩;obtain⟨t',e1,-⟩:=Qn0 (P:=P) hT hD b1;cases e1;obtain⟨e',t',e1,ev',q1⟩:=Qef b1;cases e1;have:=b2 e ((lab Ld s0 t).er D) he hd0 (Qc8 hD hwd (Qhc hs a1 a3 a4 hd0) q1 hsf.nx);rw[ev']at this;exact this
 obtain⟨o,o1,o2⟩:=ho;refine Q75 (Qcm hP hT hD hK hX hY hf hen hc hb hle hto hsf ht (S:=λo=>∃q:OutT U,o=q.er D/\SfM m q.m/\q.to k d=some r) (λe s hs hk'=>?_) (λa hp hex=>?_));cases e with|normal=>exact⟨o,o1,o2 s none hs hk' _ (.inl rfl)⟩|ret=>cases hk'|exit j=>cases hk'|goto l=>cases hk'|panic c=>cases hk'|outgrown=>cases hk'
 cases hp;exact⟨o,o1,λs hs e=>o2 s none hs e _ (.inr Z),λv s hs e=>o2 s (some v) hs e _ Z⟩
theorem Qe5:∀{args:List (TAV U)}{is:List Nat},Qe6 args=some is->args=ZX is
 |[],is,h=>by cases h;rfl
 |.agg xs::r,is,h=>by cases h
 |.one x::r,is,h=>by
  cases x with
  |ptr i off=>
   have h':cond (Nat.beq off 0) (match Qe6 r with
    |some l=>some (i::l)
    |none=>none) none=some is:=h
   cases hb:Nat.beq off 0 with|false=>rw[hb]at h';cases h'|true=>rw[hb,C5]at h';have e:=Cc hb;subst e;cases hl:Qe6 r with|none=>rw[hl]at h';cases h'|some l=>rw[hl]at h';cases h';rw[Qe5 hl];rfl
  |c x=>cases h
  |pel t x off=>cases h
  |fn f caps=>cases h
  |app i ver=>cases h
  |raw x=>cases h
theorem Q9r(tk:List (Nat×TTok U))(is:List Nat):(ZX is).map (TAV.er D tk)=is.map λi=>.one (.ptr i 0):=by unfold ZX;rw[CL];rfl
theorem Qkx{W:Wd}{P:Program}(hP:P=prog)(hT:C.T.OK P)(hD:D.OK)(hK:Q2n W D P K){X:XH U}(hX:UM W D P X){Y:YH U}{tc:Tc U}{rc:Bool}{tm:List (Nat×TTV U)}{nt:Nat}{m:TMe U}(hY:YOK W D P Y m){S:TMe U->Prop}(hS:∀m2,Q4t W P tc.code (QW (TTV.er D m.tk) tm) nt (m.er D) (m2.er D)->S m2):Qkc m (J3n D C K X Y tc rc tm nt m) (λo=>∃m2,o=.val (Je4 rc) m2/\S m2):=by
 intro β k d r hr;have hm:P.follows .mixedOrders=true:=by rw[hP];exact Qhr
 have one:=JP hP hm hT hD hK hX tc (st:=⟨tm,m,nt,[]⟩) hY hr;rcases one with⟨e,s,hs,hk,hx⟩|⟨s,hp,⟨s',hs',ha⟩,hx⟩;cases e with|normal=>(dsimp only at hk;cases hd:Q88 s.df []with|false=>rw[hd]at hk;cases hk|true=>rw[hd,C5]at hk;exact⟨.val (Je4 rc) s.m,⟨s.m,Z,hS s.m (λE Q n hP' hW h0 hq=>hx E none n Q ⟨hP',hW,Z⟩ h0 (hq _ _ (.inl Z) (Xf hd) Z))⟩,hs.sfm,hk⟩)|ret=>cases hk|exit j=>cases hk|goto l=>cases hk|panic c=>cases hk|outgrown=>cases hk
 have es:s'=s:=by rcases ha with e|⟨v,e⟩;exact Cw e;cases e
 subst es;dsimp only at hp;cases hd:Q88 s'.df []with|false=>rw[hd]at hp;cases hp|true=>rw[hd,C5]at hp;refine⟨.val (Je4 rc) s'.m,⟨s'.m,rfl,hS s'.m (λE Q n hP' hW h0 hq=>hx E none n Q ⟨hP',hW,rfl⟩ h0 (λs2 hs2 e=>?_) (λv s2 _ e=>by cases e))⟩,hs'.sfm,hp⟩;have:=Cw e;subst this;exact hq _ _ (.inr Z) (Xf hd) Z
theorem Qri{P:Program}{ops:Array Oper}{d:Nat×Option Nat}{nt id:Nat}(h:Ql1 ops.toList=some d)(hd:Qrj d nt=true):∃put,Qd2 P nt id ops put/\∀(u:Value),u.oneCell'=true->∀(E:Env)(V:Vu)(a:Act)(w:World)(tm:List (Nat×TV))(hp:List (Nat×HB))(tk:List (Nat×Option Tok))(nx:Nat)(tkT:List (Nat×TTok U))(tmT:List (Nat×TTV U)),tm=QW (TTV.er D tkT) tmT->Rel E V ⟨tm,hp,tk,nx,nt,[]⟩ a w->Rel E V ⟨QW (TTV.er D tkT) (Qrh d u tmT),hp,tk,nx,nt,[]⟩ (put a u) w:=by
 obtain⟨l⟩:=ops;dsimp only at h;unfold Ql1 at h;obtain⟨hd1,hd2⟩:=C2.1 hd;split at h;rename_i d' xs ts ty pos af;split at h;rename_i hx;cases h;have ex:=Sk (ys:=#[]) hx;subst ex;refine⟨_,Qw9,λu hu E V a w tm hp tk nx tkT tmT e hr=>?_⟩;subst e;exact hr.put (x:=.v (.one (.d (.v u)))) (C9 hd1) (Jl hu);cases h;rename_i d' xs ts ty pos af d2 d1 ty2 pos2 af2;split at h;rename_i hx;cases hq:Nat.beq d1 d' with|false=>rw[hq]at h;cases h|true=>rw[hq]at h;cases h;have e:=Cc hq;subst e;have ex:=Sk (ys:=#[]) hx;subst ex;refine⟨_,Qw8 (C9 hd1),λu hu E V a w tm hp tk nx tkT tmT e hr=>?_⟩;subst e;have h1:=hr.put (d:=d1) (x:=.v (.one (.d (.v u)))) (C9 hd1) (Jl hu);exact Rel.put (d:=d2) h1 (x:=.v (.one (.d (.v u)))) (C9 hd2) (Jl hu)
 cases h;cases h
theorem Qyv{W:Wd}{P:Program}(hP:P=prog)(hT:C.T.OK P)(hD:D.OK)(hK:Q2n W D P K){X:XH U}(hX:UM W D P X){I:List (Nat×IH U)}(hI:IOK P I):UM W D P (J3m D C K X I):=by
 intro Y c args m xo hY hx;unfold J3m at hx;split at hx;cases hx;rename_i f;split at hx;cases hx;rename_i ih hih;obtain⟨hf,hen⟩:=hI.get hih;split at hx;cases hx;rename_i c' tc hc;obtain⟨hc1,hc2⟩:=UJ hc;cases hle:Nat.ble args.length ih.fn.ntmps with|false=>rw[hle]at hx;cases hx|true=>rw[hle,C5]at hx;have hle':=C9 hle;split at hx;cases hx;intro β k d r;exact Qyw hP hT hD hK hX hY hf hen hc1 hc2 hle' k d r;split at hx;cases hx;rename_i L s0 hl;(cases hd:Q88 s0.df []with|false=>rw[hd]at hx;cases hx|true=>rw[hd]at hx;cases hx;intro β k d r;exact Qyy hP hT hD hK hX hY hf hen hc1 hc2 hle' hl (Xf hd) k d r);split at hx;cases hx;rename_i L s0 hl;split at hx;cases hx;rename_i Ld hld;cases hd:Q88 s0.df []with|false=>rw[hd]at hx;cases hx|true=>rw[hd]at hx;cases hx;intro β k d r;exact Qyx hP hT hD hK hX hY hf hen hc1 hc2 hle' hl hld (Xf hd) k d r
 rename_i f u;split at hx;cases hx;rename_i ih hih;obtain⟨hf,hen⟩:=hI.get hih;split at hx;rename_i c' tc is hc hz;obtain⟨hc1,hc2⟩:=UJ hc;have ea:=Qe5 hz;subst ea;cases hle:(Nat.ble (ZX (U:=U) is).length ih.fn.ntmps&&Qs9 ih.fn)with
 |false=>rw[hle]at hx;cases hx
 |true=>
  rw[hle,C5]at hx;obtain⟨l1,l2⟩:=C2.1 hle;have hle':is.length<=ih.fn.ntmps:=by have:=C9 l1;unfold ZX at this;simpa using this
  have hres:ih.fn.results.toList=[]:=by unfold Qs9 at l2;exact Pr.1 l2
  split at hx;rename_i d tb hrc;cases hd:(Qrj d ih.fn.ntmps&&(u.getD .nilIface).oneCell')with|false=>rw[hd]at hx;cases hx|true=>rw[hd,C5]at hx;cases hx;obtain⟨d1,d2⟩:=C2.1 hd;(have hbody:∃id ops,Ql1 ops.toList=some d/\ih.fn.body=some (.seq (.region id ops false) tb.code):=by unfold J7a at hrc;split at hrc;rename_i id ops b;split at hrc;rename_i d' hd';cases hrc;exact⟨id,ops,hd',by rw[hc2,<-hc1];rfl⟩;cases hrc;cases hrc);obtain⟨id,ops,hro,hbody⟩:=hbody;obtain⟨put,hreg,hput⟩:=Qri (U:=U) (D:=D) (P:=P) (id:=id) hro d1;have:=Qkx (rc:=true) (tc:=tb) (tm:=Qrh d (u.getD .nilIface) (Y2 0 (ZX is))) (nt:=ih.fn.ntmps) hP hT hD hK hX hY (S:=λm2=>DefM W P f is u (m.er D) (m2.er D) true) (λm2 h=>Qgo hf hbody hen hle' hres hreg (λE V a w hr=>hput _ d2 E V a w _ _ _ _ m.tk (Y2 0 (ZX is)) (by rw[Wn,Q9r]) hr) h hP);intro β k dd r hr;obtain⟨q,⟨m2,rfl,q1⟩,q2,q3⟩:=this k dd r hr;exact⟨_,⟨is,true,m2,Z,Z,q1⟩,q2,q3⟩
  cases hx;have:=Qkx (rc:=false) (tc:=tc) (tm:=Y2 0 (ZX is)) (nt:=ih.fn.ntmps) hP hT hD hK hX hY (S:=λm2=>DefM W P f is u (m.er D) (m2.er D) false) (λm2 h=>Qd9 hf hc2 hen hle' hres (by rw[Wn,Q9r,hc1]at h;exact h) hP);intro β k dd r hr;obtain⟨q,⟨m2,rfl,q1⟩,q2,q3⟩:=this k dd r hr;exact⟨_,⟨is,false,m2,Z,Z,q1⟩,q2,q3⟩
 cases hx
theorem X9{W:Wd}{P:Program}{T X:XH U}(hT:UM W D P T)(hX:UM W D P X):UM W D P (Jb0 T X):=by intro Y c args m xo hY h;unfold Jb0 at h;split at h;rename_i h';cases h;exact hT Y c args m _ hY h';exact hX Y c args m xo hY h
theorem Wm{W:Wd}{P:Program}(hP:P=prog)(hT:C.T.OK P)(hD:D.OK)(hK:Q2n W D P K){T:XH U}(hTb:UM W D P T){I:List (Nat×IH U)}(hI:IOK P I):∀n,UM W D P (J84 D C K T I n)|0=>hTb|n+1=>X9 hTb (Qyv hP hT hD hK (Wm hP hT hD hK hTb hI n) hI)
end
end
section
open Go.RowKit
def OutM.ren(ρ:Nat->Nat)(hpF:List (Nat×HB))(tkF:List (Nat×Option Tok))(nx2:Nat):OutM->OutM|.val x m=>.val (x.ren ρ) ⟨JM ρ m.hp++hpF,Ys ρ m.tk++tkF,nx2⟩|.die v m=>.die v ⟨JM ρ m.hp++hpF,Ys ρ m.tk++tkF,nx2⟩
def OutM.m:OutM->Mem|.val _ m=>m|.die _ m=>m
theorem CallO.ren{W:Wd}{P:Program}{f:FuncId}{args0:List AV}{hp0 hpF hp:List (Nat×HB)}{tk0 tkF tk:List (Nat×Option Tok)}{nx0 nx2 n:Nat}{o:OutM}(rs:List Nat)(hc:CallO W P f args0 ⟨hp0,tk0,nx0⟩ o)(hh:hpLe hp (JM (G1 rs n) hp0))(ht:tkLe tk (Ys (G1 rs n) tk0))(hhF:hpLe hp hpF)(htF:tkLe tk tkF)(hl:rs.length=nx0)(hnd:rs.Nodup)(hlt:∀j∈rs,j<n)(d1:∀i B,lk hpF i=some B->i∉rs)(d2:∀i T,lk tkF i=some (some T)->i∉rs)(b0:hpBelow nx0 hp0)(c0:tkBelow nx0 tk0)(ba:∀y∈args0,y.below nx0)(hle:nx0<=o.m.nx)(hn:o.m.nx+n=nx2+nx0):CallO W P f (args0.map (AV.ren (G1 rs n))) ⟨hp,tk,n⟩ (o.ren (G1 rs n) hpF tkF nx2):=by
 have hen:Qd P f:=by cases o <;> exact hc.1
 have inj:∀i j,G1 rs n i=G1 rs n j->i=j:=λi j h=>Qkv hnd hlt h;refine Ze hen λE V w vs hP hWp H hnx hargs=>?_;dsimp only at H hnx;have h0:=(H.forgetLe hh ht).part inj b0 c0;have har:argsRel (pull (G1 rs n) V nx0) w args0 vs:=by obtain⟨h1,h2⟩:=hargs;refine⟨by simpa using h1,λi y hy=>?_⟩;obtain⟨u,hu,hyu⟩:=h2 i (y.ren _) (by rw[Cn,hy];rfl);exact⟨u,hu,hyu.pull (ba y (Cr hy))⟩
 have turn:∀{V1:Vu}{hp1:List (Nat×HB)}{tk1:List (Nat×Option Tok)}{nx1:Nat}{w':World},nx0<=nx1->nx1+n=nx2+nx0->V1.nx=nx1->HRel ⟨E.P,w,Wz V (JM (G1 rs n) hp0) (Ys (G1 rs n) tk0),pull (G1 rs n) V nx0⟩ V1 hp1 tk1 w'->HRel E (Kc (G1 rs n) V V1 nx2) (JM (G1 rs n) hp1++hpF) (Ys (G1 rs n) tk1++tkF) w'/\V.Le (Kc (G1 rs n) V V1 nx2) w w'/\Via (G1 rs n) V1 (Kc (G1 rs n) V V1 nx2):=λhle hn hn1 Hr=>H.turn (n:=nx2) inj hh ht hhF htF (λi hi=>by rw[hnx];exact hlt _ (GQ (by omega))) (λi hi=>by rw[Di (by omega),hnx,hl]) (λi B hi k hk e=>d1 i B hi (by rw[<-e];exact GQ (by omega))) (λi T hi k hk e=>d2 i T hi (by rw[<-e];exact GQ (by omega))) b0 c0 (by rw[hn1,hnx];exact hn) (by rw[hn1];exact hle) Hr;cases o with|val x m=>(refine(hc.2 ⟨E.P,w,Wz V _ _,pull (G1 rs n) V nx0⟩ (pull (G1 rs n) V nx0) w vs hP hWp h0 Z har).mono ?_;rintro e w' ⟨v,V1,rfl,H1,hn1,L,hres⟩;obtain⟨H2,L2,L3⟩:=turn hle hn hn1 H1;exact⟨v,_,Z,H2,Z,L2,hres.via L3⟩)|die pv m=>refine(hc.2 ⟨E.P,w,Wz V _ _,pull (G1 rs n) V nx0⟩ (pull (G1 rs n) V nx0) w vs hP hWp h0 Z har).mono ?_;rintro e w' ⟨V1,rfl,H1,hn1,L⟩;obtain⟨H2,L2,L3⟩:=turn hle hn hn1 H1;exact⟨_,Z,H2,Z,L2⟩
theorem CallO.pre{W:Wd}{P:Program}{f:FuncId}{args:List AV}{m m0:Mem}{o:OutM}(hh:∀i B,lk m0.hp i=some B->∃A,lk m.hp i=some A/\∀V w o,A.rel V w o->B.rel V w o)(ht:∀i T,lk m0.tk i=some (some T)->lk m.tk i=some (some T))(hn:m.nx=m0.nx)(hc:CallO W P f args m0 o):CallO W P f args m o:=by
 have hen:Qd P f:=by cases o <;> exact hc.1
 refine Ze hen λE V w vs hP hWp H hnx hargs=>?_;cases o with|val x m'=>exact hc.2 E V w vs hP hWp (H.weak hh ht) (hnx.trans hn) hargs|die v m'=>exact hc.2 E V w vs hP hWp (H.weak hh ht) (hnx.trans hn) hargs
def OutM.with(m':Mem):OutM->OutM|.val x _=>.val x m'|.die v _=>.die v m'
theorem CallO.post{W:Wd}{P:Program}{f:FuncId}{args:List AV}{m m':Mem}{o:OutM}(hh:∀i B,lk m'.hp i=some B->∃A,lk o.m.hp i=some A/\∀V w o,A.rel V w o->B.rel V w o)(ht:∀i T,lk m'.tk i=some (some T)->lk o.m.tk i=some (some T))(hn:m'.nx=o.m.nx)(hc:CallO W P f args m o):CallO W P f args m (o.with m'):=by
 have hen:Qd P f:=by cases o <;> exact hc.1
 refine Ze hen λE V w vs hP hWp H hnx hargs=>?_;cases o with|val x m1=>refine(hc.2 E V w vs hP hWp H hnx hargs).mono ?_;rintro e w' ⟨v,V1,rfl,H1,hn1,L,hres⟩;exact⟨v,V1,Z,H1.weak hh ht,hn1.trans hn.symm,L,hres⟩|die v m1=>refine(hc.2 E V w vs hP hWp H hnx hargs).mono ?_;rintro e w' ⟨V1,rfl,H1,hn1,L⟩;exact⟨V1,Z,H1.weak hh ht,hn1.trans hn.symm,L⟩
theorem CallO.args{W:Wd}{P:Program}{f:FuncId}{args args':List AV}{m:Mem}{o:OutM}(ha:∀V w vs,argsRel V w args' vs->argsRel V w args vs)(hc:CallO W P f args m o):CallO W P f args' m o:=by
 have hen:Qd P f:=by cases o <;> exact hc.1
 refine Ze hen λE V w vs hP hWp H hnx hargs=>?_;cases o with|val x m'=>exact hc.2 E V w vs hP hWp H hnx (ha V w vs hargs)|die v m'=>exact hc.2 E V w vs hP hWp H hnx (ha V w vs hargs)
end
section
open Go.RowKit
section
variable{U:Univ}(D:Codec U)
variable(U)in
structure KF where
 args:List (AK U)
 res:List (AK U)
 m:tup args->Option (tup res)
def Qpj(k:AK U)(x:TAV U):Option k.Ty:=cond (Yw k&&Qen k x) (Qjh D [] k x) none
def Qjg:(ks:List (AK U))->List (TAV U)->Option (tup ks)|[],[]=>some ()|[k],[x]=>Qpj D k x|k::k2::r,x::xs=>(match Qpj D k x with|some a=>(match Qjg (k2::r) xs with|some b=>some (a,b)|none=>none)|none=>none)|_,_=>none
def Qel(rk:List (AK U))(r:tup rk):TTV U:=match GZ rk r with|[x]=>.v x|xs=>.tup xs
def J6v(tb:List (Nat×KF U))(f:FuncId)(args:List (TAV U)):Option (KR U):=match lk tb f with|some kf=>(match Qjg D kf.args args with|some v=>some ⟨tup kf.res,kf.m v,Qel kf.res⟩|none=>none)|none=>none
def Jv(W:Wd)(P:Program)(f:Nat)(kf:KF U):Prop:=kf.res.all Yw=true/\∀v r,kf.m v=some r->FunW W P f (QG D kf.args v) (Qj (QG D kf.res r))
variable{D}
theorem WL{tk:List (Nat×TTok U)}:∀{xs ys:List (It U)},Y6 [] xs=some ys->Y6 tk xs=some ys|[],ys,h=>h|.grp t x::r,ys,h=>by unfold Y6 at h⊢;split at h;rename_i zs hz;rw[WL hz];exact h;cases h|.one x::r,ys,h=>by unfold Y6 at h⊢;split at h;rename_i y zs hy hz;rw[WL hz];(have e:G0 tk x=some y:=by cases x with|c x=>exact hy|app i ver=>cases hy|ptr i off=>cases hy|pel t x off=>cases hy|fn f caps=>cases hy|raw x=>cases hy);rw[e];exact h;cases h
theorem Quw{tk:List (Nat×TTok U)}{t:U.T}{xs:List (It U)}{x:U.R t}(h:Q7a D [] t xs=some x):Q7a D tk t xs=some x:=by
 have key:∀L:List (It U),(match Y6 [] L with
   |some ys=>D.bld t ys
   |none=>none)=some x->(match Y6 tk L with
   |some ys=>D.bld t ys
   |none=>none)=some x:=by
  intro L hL
  split at hL
  ·rename_i ys hy;rw[WL hy];exact hL
  ·cases hL
 cases xs with|nil=>exact key [] h|cons a r=>cases r with|nil=>(cases a with|grp t' y=>exact h|one y=>exact key [.one y] h)|cons b r=>cases a <;> exact key _ h
theorem Qy0{xs:List CA}{cs:List C}(h:CSubs xs cs):LSub xs (cs.map .d):=by induction h with|nil=>exact .nil|cons h t ih=>exact .cons h ih
theorem Q4r(hD:D.OK)(tk:List (Nat×TTok U))(t:U.T)(x:U.R t):Jy D tk [It.grp t x]=((U.E t).enc x).map .d:=by unfold Jy;rw[Gy,Q9z hD]
theorem Q08{tk:List (Nat×TTok U)}{x:TAV U}{c:C}(h:∃y,x=.one y/\CSub (y.er tk) c):ASub (x.er D tk) (.one (.d c)):=by obtain⟨y,rfl,h⟩:=h;exact .one h
theorem Qw2{tk:List (Nat×TTok U)}{t:U.T}{x:TAV U}{l:List (U.R t)}(h:GH [] t (.v x)=some l):∃y,x=.one y/\CSub (y.er tk) (.sl (U.E t).sz ((U.E t).encL l)):=by cases x with|agg xs=>cases h|one y=>refine⟨y,Z,?_⟩;cases y with|c z=>(cases z with|v w=>unfold GH at h;split at h;rename_i heq;cases heq;rename_i heq;cases heq;cases h;have e:(U.E t).encL []=[]:=(U.E t).nil;rw[e];exact .nil _;rename_i heq;cases heq;cases h|str s=>cases h|sl t' l'=>have h':X1 t' t l'=some l:=h;obtain⟨e,rfl⟩:=Zr h';subst e;exact .d _)|ptr i off=>cases h|pel t x off=>cases h|fn f caps=>cases h|app i ver=>cases h|raw x=>cases h
theorem Qa5(hD:D.OK){k:AK U}{x:TAV U}{v:k.Ty}(h:Qpj D k x=some v)(tk:List (Nat×TTok U)):ASub (x.er D tk) ((Xz k v 0).er D []):=by unfold Qpj at h;cases hc:(Yw k&&Qen k x)with|false=>rw[hc]at h;cases h|true=>rw[hc,C5]at h;obtain⟨b1,b2⟩:=C2.1 hc;cases k with|app i e t=>cases b1|ptr i o=>cases b1|any=>cases b1|int k=>refine Q08 ?_;replace h:Q70 k x=some v:=h;unfold Q70 at h;split at h;rename_i k0 a;(cases hk:decide (k0=k)with|false=>rw[hk]at h;cases h|true=>rw[hk]at h;cases h;have e:=CF hk;subst e;exact⟨_,Z,CSub.d _⟩);cases h|bool=>refine Q08 ?_;replace h:Q0n x=some v:=h;unfold Q0n at h;split at h;cases h;exact⟨_,rfl,.d _⟩;cases h|str=>refine Q08 ?_;replace h:Q6z x=some v:=h;unfold Q6z at h;split at h;cases h;exact⟨_,rfl,.d _⟩;cases h|sl t=>exact Q08 (Qw2 h)|stc t=>cases x with|one y=>cases b2|agg xs=>(have key:∀(w:U.R t),Q7a D [] t xs=some w->ASub (AV.agg (Jy D tk xs)) (AV.agg (Jy D [] [It.grp t w])):=by intro w hw;rw[Q4r hD];exact .agg (Qy0 (Q4s hD (Quw (tk:=tk) hw))));exact key v h
theorem Q27(hD:D.OK):∀{ks:List (AK U)}{xs:List (TAV U)}{v:tup ks},Qjg D ks xs=some v->∀tk,ASubL (xs.map (TAV.er D tk)) (QG D ks v)
 |[],[],v,h,tk=>.nil
 |[],x::xs,v,h,tk=>by cases h
 |[k],[],v,h,tk=>by cases h
 |[k],[x],v,h,tk=>.cons (Qa5 hD h tk) .nil
 |[k],x::y::xs,v,h,tk=>by cases h
 |k::k2::r,[],v,h,tk=>by cases h
 |k::k2::r,x::xs,v,h,tk=>by
  have h2:(match Qpj D k x with
   |some a=>match Qjg D (k2::r) xs with|some b=>(some (a,b):Option (k.Ty×tup (k2::r)))|none=>none
   |none=>none)=some v:=h
  cases ha:Qpj D k x with|none=>rw[ha]at h2;cases h2|some a=>rw[ha]at h2;dsimp only at h2;cases hb:Qjg D (k2::r) xs with|none=>rw[hb]at h2;cases h2|some b=>rw[hb]at h2;cases h2;exact .cons (Qa5 hD ha tk) (Q27 hD hb tk)
theorem DC(hD:D.OK)(tk:List (Nat×TTok U)):∀{rk:List (AK U)}(r:tup rk),rk.all Yw=true->(GZ rk r).map (TAV.er D tk)=QG D rk r|[],r,h=>rfl|[k],r,h=>by have hk:=(C2.1 (show(Yw k&&true)=true from h)).1;show[(Xz k r 0).er D tk]=[(Xz k r 0).er D []];rw[Qa2 hD hk r tk []]|k::k2::rk,r,h=>by obtain⟨hk,hr⟩:=C2.1 (show(Yw k&&(k2::rk).all Yw)=true from h);have ih:=DC hD tk (rk:=k2::rk) r.2 hr;show(Xz k r.1 0).er D tk::(GZ (k2::rk) r.2).map _=(Xz k r.1 0).er D []::QG D (k2::rk) r.2;rw[Qa2 hD hk r.1 tk [],ih]
theorem Qlc(hD:D.OK)(tk:List (Nat×TTok U)){rk:List (AK U)}(r:tup rk)(h:rk.all Yw=true):(Qel rk r).er D tk=Qj (QG D rk r):=by have e:=DC hD tk r h;rw[<-e];unfold Qel;split;rename_i x hx;rw[hx];rfl;rename_i xs hne;show TV.tup ((GZ rk r).map _)=_;cases hl:GZ rk r with|nil=>rfl|cons a l=>cases l with|nil=>exact(hne a hl).elim|cons b l=>rfl
theorem Qt(hD:D.OK){P:Program}{tb:List (Nat×KF U)}{W:Wd}(h:AllT (Jv D W P) tb):Q2n W D P (J6v D tb):=by intro f args kr a hk ho;unfold J6v at hk;split at hk;rename_i kf hf;split at hk;rename_i v hv;cases hk;obtain⟨h1,h2⟩:=h.get hf;refine⟨QG D kf.args v,Q27 hD hv,λtk=>?_⟩;show FunW W P f _ ((Qel kf.res a).er D tk);rw[Qlc hD tk a h1];exact h2 v a ho;cases hk;cases hk
def Qs8:YH U:=λ_ _ _=>none
theorem Qbe{W:Wd}{P:Program}(m:TMe U):YOK W D P (Qs8 (U:=U)) m:=λL args m xo _ h=>by cases h
def Jcw:XH U:=λ_ _ _ _=>none
theorem J2{W:Wd}{P:Program}:UM W D P (Jcw (U:=U)):=λY c args m xo _ h=>by cases h
section
variable(D)(C:TCfg U)(K:FuncId->List (TAV U)->Option (KR U))(X:XH U)
def Qr4(fn:Func)(H:Hints U)(args:List (TAV U))(rk:List (AK U)):Option (tup rk):=match Q28 fn.body H with
 |none=>none
 |some (_,tc)=>cond (Nat.ble args.length fn.ntmps) (Yh D C K X tc Qs8 none (R:=tup rk) (λs=>Xg X Qs8 s none (λs=>Qck D C s rk fn.results.toList) λ_ _=>none) (λv s=>Xg X Qs8 s (some v) (λs=>Qck D C s rk fn.results.toList) λ_ _=>none) ⟨Y2 0 args,⟨[],[],0⟩,fn.ntmps,[]⟩ some λe s=>match e with
  |.normal=>Xg X Qs8 s none (λs=>Qck D C s rk fn.results.toList) λ_ _=>none
  |_=>none) none
end
def J62(D:Codec U)(rk:List (AK U))(r:tup rk)(o:OutM):Prop:=∃xs m',o=.val (Qj xs) m'/\xs.length=(QG D rk r).length/\∀(i:Nat)(y:AV),(QG D rk r)[i]?=some y->∃x,xs[i]?=some x/\∀V w v,x.rel V w v->y.rel (YY V.S) w v
theorem Qq8{W:Wd}{P:Program}{f:FuncId}{args:List AV}{rk:List (AK U)}{r:tup rk}(h:CallP W P f args Jb2 (J62 D rk r)):FunW W P f args (Qj (QG D rk r)):=by refine⟨h.1,λS w vs hS hWp ha=>(h.2 (Qvj P w S) (YY S) w vs Z hWp (Qms hS) Z ha).mono ?_⟩;rintro e w' ⟨o,⟨xs,m',rfl,hl,hs⟩,v,V',rfl,H,hn,L,hv⟩;refine⟨v,V'.S,Z,H.ext,H.le0.S,λb o h=>⟨?_,H.sz b o h⟩,Qe1 hl hs hv⟩;rcases H.sub b o h with h1|h1|h1;exact .inl h1;exact .inr h1;exact h1.elim
theorem Q6v:∀{rk:List (AK U)}{v:tup rk}{x:TAV U},x∈GZ rk v->∃k∈rk,∃a:k.Ty,x=Xz k a 0|[],v,x,h=>by cases h|[k],v,x,h=>⟨k,Cj ..,v,CI.1 h⟩|k::k2::rk,v,x,h=>by have h':x∈Xz k v.1 0::GZ (k2::rk) v.2:=h;rcases Cs.1 h' with e|h2;exact⟨k,Cj ..,v.1,e⟩;obtain⟨k',h3,a,e⟩:=Q6v h2;exact⟨k',Ck _ h3,a,e⟩
theorem Qr3{C:TCfg U}{K:FuncId->List (TAV U)->Option (KR U)}{X:XH U}{P:Program}(hP:P=prog)(hT:C.T.OK P)(hD:D.OK){W:Wd}(hK:Q2n W D P K)(hX:UM W D P X){f:FuncId}{fn:Func}(hf:P.funcs[f]?=some fn)(hen:Qd P f){H:Hints U}{args:List (TAV U)}{rk:List (AK U)}{r:tup rk}(h:Qr4 D C K X fn H args rk=some r):FunW W P f (args.map (TAV.er D [])) (Qj (QG D rk r)):=by unfold Qr4 at h;split at h;cases h;rename_i c tc hc;obtain⟨hc1,hc2⟩:=UJ hc;cases hl:Nat.ble args.length fn.ntmps with|false=>rw[hl]at h;cases h|true=>rw[hl,C5]at h;(have ho:∀(s:TSt U)(u:Option Value),Xg X Qs8 s u (λs=>Qck D C s rk fn.results.toList) (λ_ _=>none)=some r->∀e,J5j u e->∃o,J62 D rk r o/\EndO W P fn 0 e (s.er D) o:=by intro s u hend e he;obtain⟨s',a1,a2,a3,a4,a5⟩:=UG hX fn 0 (Qbe s.m) hend;rcases a5 with⟨b1,b2⟩|⟨v,rfl,b1,b2⟩;obtain⟨xs,q1,q2,q3⟩:=Qn4 (P:=P) hT hD b1;exact⟨_,⟨xs,_,Z,q2,q3⟩,b2 e (s'.er D) xs he a2 (ToW.refl _ _ _ _) q1⟩;cases b1);refine Qq8 (Qg0 (m:=⟨[],[],0⟩) hP hT hD hK hX (Qbe _) hf hen hc1 hc2 (C9 hl) (λE=>To.refl _ _) (Sfx.refl _) h (S:=J62 D rk r) (λe s hs hk=>?_) (λa hp hex=>?_));(cases e with|normal=>exact ho s none hk _ (.inl rfl)|ret=>cases hk|exit j=>cases hk|goto l=>cases hk|panic c=>cases hk|outgrown=>cases hk);cases hp;exact⟨λs hs e=>ho s none e _ (.inr Z),λv s hs e=>ho s (some v) e _ Z⟩
theorem JD{C:TCfg U}{K:FuncId->List (TAV U)->Option (KR U)}{X:XH U}{P:Program}(hP:P=prog)(hT:C.T.OK P)(hD:D.OK){W:Wd}(hK:Q2n W D P K)(hX:UM W D P X){f:FuncId}{fn:Func}(hf:P.funcs[f]?=some fn)(hen:Qd P f)(H:Hints U)(kf:KF U)(hd:kf.res.all Yw=true)(h:∀v,Qr4 D C K X fn H (GZ kf.args v) kf.res=kf.m v):Jv D W P f kf:=⟨hd,λv r hr=>Qr3 hP hT hD hK hX hf hen ((h v).trans hr)⟩
variable(U)in
structure KP where
 args:List (AK U)
 res:List (AK U)
 pk:PK
 m:tup args->Option (tup res⊕pk.Ty)
end
end
section
open Go.RowKit
section
variable(U:Univ)
inductive BX where
 |stc (T:TypeId) (t:U.T)
 |bld (T E:TypeId) (t:U.T)
end
section
variable{U:Univ}(D:Codec U)
@[reducible] def BX.Ty:BX U->Type|.stc _ t=>U.R t|.bld _ _ t=>List (U.R t)
def BX.n:BX U->Nat|.stc _ _=>1|.bld _ _ _=>2
def BX.rs:BX U->List Nat|.stc _ _=>[0]|.bld _ _ _=>[0,1]
def Q73:(x:BX U)->x.Ty->TMe U|.stc T t,v=>⟨[.box 0 T [.grp t v]],[],1⟩|.bld T E t,v=>⟨[.box 0 T [.one (.ptr 0 0),.one (.app 1 0)]],[(1,⟨E,t,v,0⟩)],2⟩
def Qwb(m:TMe U)(i:Nat):(x:BX U)->Option (x.Ty×List Nat)
 |.stc T t=>match ZJ m.es i with
  |some (T',N)=>cond (Nat.beq T' T&&Nat.beq N (U.E t).sz) (match UW D m.es i 0 N with
   |some xs=>match Q7a D m.tk t xs with|some v=>some (v,[i])|none=>none
   |none=>none) none
  |none=>none
 |.bld T E t=>match ZJ m.es i with
  |some (T',N)=>cond (Nat.beq T' T&&Nat.beq N 2) (match UW D m.es i 0 2 with
   |some [.one (.ptr i' off),.one (.app j ver)]=>match cur m.tk j ver with
    |some tok=>cond (Nat.beq i' i&&(Nat.beq off 0&&(Nat.beq tok.E E&&!(Nat.beq E 0)))) (match X1 tok.t t tok.l with
     |some l=>some (l,[i,j])
     |none=>none) none
    |none=>none
   |_=>none) none
  |none=>none
def Qkg(m:TMe U)(i:Nat)(rs:List Nat):(x:BX U)->x.Ty->TMe U|.stc _ t,v=>⟨.set i 0 [.grp t v]::m.es,m.tk,m.nx⟩|.bld _ E t,v=>⟨.set i 1 [.one (.app (rs.getD 1 0) (Jf m.tk (rs.getD 1 0)))]::m.es,(rs.getD 1 0,⟨E,t,v,Jf m.tk (rs.getD 1 0)⟩)::m.tk,m.nx⟩
def J1h(m:TMe U)(i:Nat)(rs:List Nat):BX U->Bool|.stc _ _=>Gt rs&&(rs.all (λj=>Nat.blt j m.nx)&&(lk m.tk i).isNone)|.bld _ _ _=>Gt rs&&(rs.all (λj=>Nat.blt j m.nx)&&((lk m.tk i).isNone&&(m.es.all (KN (rs.getD 1 0))&&!(m.es.any (Ev.hasApp (rs.getD 1 0) (Jf m.tk (rs.getD 1 0)))))))
def XB:(x:BX U)->x.Ty->Nat->Nat->HB|.stc T t,v,_,_=>.cells T (((U.E t).enc v).map .d)|.bld T E t,v,i,j=>.cells T [.ptr i 0,.app j (U.E t).sz ((U.E t).encL v)]
def XA:(x:BX U)->x.Ty->Nat->List (Nat×Option Tok)|.stc _ _,_,_=>[]|.bld _ E t,v,j=>[(j,(⟨E,t,v,0⟩:TTok U).erO)]
variable{D}
theorem Qjj(hD:D.OK)(x:BX U)(v:x.Ty):(Q73 x v).er D=⟨[(0,XB x v 0 1)],XA x v 1,x.n⟩:=by cases x with|stc T t=>show(⟨[(0,.cells T (Jy D [] [It.grp t v]))],[],1⟩:Mem)=_;rw[Q4r hD];rfl|bld T E t=>rfl
theorem Qfw(ρ:Nat->Nat)(x:BX U)(v:x.Ty)(i j:Nat):(XB x v i j).ren ρ=XB x v (ρ i) (ρ j):=by cases x with|stc T t=>show HB.cells T ((((U.E t).enc v).map CA.d).map (CA.ren ρ))=_;rw[CL];rfl|bld T E t=>rfl
theorem Q13{ys:List CA}{n:Nat}(h:ys.length=n):(ys.drop 0).take n=ys:=by rw[Pp,PM (by omega)]
theorem Qhj(hD:D.OK){m:TMe U}{i:Nat}{x:BX U}{v:x.Ty}{rs:List Nat}(h:Qwb D m i x=some (v,rs)):(∃A,lk (m.er D).hp i=some A/\∀V w o,A.rel V w o->(XB x v i (rs.getD 1 0)).rel V w o)/\(∀k T,lk (XA x v (rs.getD 1 0)) k=some (some T)->lk (m.er D).tk k=some (some T))/\rs.length=x.n/\rs.getD 0 0=i:=by
 cases x with
 |stc T t=>
  have h':(match ZJ m.es i with
   |some (T',N)=>cond (Nat.beq T' T&&Nat.beq N (U.E t).sz) (match UW D m.es i 0 N with
    |some xs=>match Q7a D m.tk t xs with|some v=>some (v,[i])|none=>none
    |none=>none) none
   |none=>none)=some (v,rs):=h
  split at h';rename_i T' N hb;cases hc:(Nat.beq T' T&&Nat.beq N (U.E t).sz)with|false=>rw[hc]at h';cases h'|true=>rw[hc,C5]at h';obtain⟨c1,c2⟩:=C2.1 hc;have e1:=Cc c1;subst e1;split at h';rename_i xs hr;split at h';rename_i v' hv;cases h';obtain⟨ys,b1,b2⟩:=YI hD (tk:=m.tk) hb;obtain⟨T2,zs,r1,r2,r3⟩:=YQ hD (tk:=m.tk) hr;rw[b1]at r1;cases r1;rw[Q13 b2]at r3;refine⟨⟨_,b1,λV w o hr=>BW.rel (.cells ?_) hr⟩,(λk T hk=>by cases hk),rfl,rfl⟩;rw[r3];exact Qfv (Q4s hD hv);cases h';cases h'
  cases h'
 |bld T E t=>
  have h':(match ZJ m.es i with
   |some (T',N)=>cond (Nat.beq T' T&&Nat.beq N 2) (match UW D m.es i 0 2 with
    |some [.one (.ptr i' off),.one (.app j ver)]=>match cur m.tk j ver with
     |some tok=>cond (Nat.beq i' i&&(Nat.beq off 0&&(Nat.beq tok.E E&&!(Nat.beq E 0)))) (match X1 tok.t t tok.l with
      |some l=>some (l,[i,j])
      |none=>none) none
     |none=>none
    |_=>none) none
   |none=>none)=some (v,rs):=h
  split at h';rename_i T' N hb;cases hc:(Nat.beq T' T&&Nat.beq N 2)with
  |false=>rw[hc]at h';cases h'
  |true=>
   rw[hc,C5]at h';obtain⟨c1,c2⟩:=C2.1 hc;have e1:=Cc c1;have e2:=Cc c2;subst e1;subst e2;split at h';rename_i i' off j ver hr;split at h';rename_i tok hcur;cases hq:(Nat.beq i' i&&(Nat.beq off 0&&(Nat.beq tok.E E&&!(Nat.beq E 0))))with
   |false=>rw[hq]at h';cases h'
   |true=>
    rw[hq,C5]at h';obtain⟨q1,q23⟩:=C2.1 hq;obtain⟨q2,q3⟩:=C2.1 q23;have f1:=Cc q1;have f2:=Cc q2;obtain⟨q3,q4⟩:=C2.1 q3;have f3:=Cc q3;(have fN:Nat.beq E 0=false:=by simpa using q4);subst f1;subst f2;split at h';rename_i l hl;cases h';obtain⟨et,el⟩:=Zr hl;subst et;have el':tok.l=v:=el.symm;obtain⟨ys,b1,b2⟩:=YI hD (tk:=m.tk) hb;obtain⟨T2,zs,r1,r2,r3⟩:=YQ hD (tk:=m.tk) hr;rw[b1]at r1;cases r1;rw[Q13 b2]at r3;have eapp:(TA.app j ver:TA U).er m.tk=.app j (U.E tok.t).sz ((U.E tok.t).encL tok.l):=by
     show(match cur m.tk j ver with
      |some T=>CA.app j (U.E T.t).sz ((U.E T.t).encL T.l)
      |none=>CA.any)=_
     rw[hcur]
    (have e4:ys=[.ptr i' 0,.app j (U.E tok.t).sz ((U.E tok.t).encL tok.l)]:=by rw[r3];show[CA.ptr i' 0,(TA.app j ver:TA U).er m.tk]=_;rw[eapp]);refine⟨⟨_,b1,λV w o hr=>?_⟩,λk T hk=>?_,Z,Z⟩;rw[e4,el']at hr;exact hr;have hk0:lk [(j,(⟨E,tok.t,v,0⟩:TTok U).erO)] k=some (some T):=hk;rw[KK fN]at hk0;have hk':lk [(j,some (⟨E,(U.E tok.t).sz,((U.E tok.t).encL v).length,[]⟩:Tok))] k=some (some T):=hk0;rw[Q8]at hk';split at hk';rename_i ek;subst ek;cases hk';(have hlk:lk m.tk j=some tok:=by unfold cur at hcur;split at hcur;rename_i T0 h0;(cases hq:Nat.beq T0.ver ver with|false=>rw[hq]at hcur;cases hcur|true=>rw[hq]at hcur;cases hcur;exact h0);cases hcur);show lk (QW TTok.erO m.tk) j=_;rw[QY,hlk];show some tok.erO=_;rw[KK (by rw[f3];exact fN)];unfold TTok.er;rw[f3,el'];cases hk';cases h'
   cases h';cases h'
  cases h'
variable(U)in
structure PF where
 bx:BX U
 args:List (AK U)
 res:List (AK U)
 pk:PK
 m:bx.Ty->tup args->Option ((bx.Ty×tup res)⊕(pk.Ty×bx.Ty))
def Qo1(D:Codec U)(bx:BX U)(res:List (AK U))(pk:PK):(bx.Ty×tup res)⊕(pk.Ty×bx.Ty)->OutM|.inl y=>.val (Qj (QG D res y.2)) ((Q73 bx y.1).er D)|.inr y=>.die (Q40 pk y.1) ((Q73 bx y.2).er D)
def ZM(D:Codec U)(W:Wd)(P:Program)(f:Nat)(pf:PF U):Prop:=(pf.res.all Yw=true/\pf.args.all Yw=true)/\∀b v y,pf.m b v=some y->CallO W P f (.one (.ptr 0 0)::QG D pf.args v) ((Q73 pf.bx b).er D) (Qo1 D pf.bx pf.res pf.pk y)
section
variable(D)(C:TCfg U)(K:FuncId->List (TAV U)->Option (KR U))(X:XH U)
def Qrb(bx:BX U)(res:List (AK U))(rs:List ResultVar){α:Type}(s:TSt U):Option ((bx.Ty×tup res)⊕α):=match Qck D C s res rs with|some r=>(match Qwb D s.m 0 bx with|some (b,ns)=>cond (Q88 ns bx.rs) (some (.inl (b,r))) none|none=>none)|none=>none
def Qs3(bx:BX U)(pk:PK){α:Type}(v:Value)(s:TSt U):Option (α⊕(pk.Ty×bx.Ty)):=match Qz7 pk v with|some e=>(match Qwb D s.m 0 bx with|some (b,ns)=>cond (Q88 ns bx.rs) (some (.inr (e,b))) none|none=>none)|none=>none
def J02(fn:Func)(H:Hints U)(bx:BX U)(b:bx.Ty)(args:List (TAV U))(res:List (AK U))(pk:PK):Option ((bx.Ty×tup res)⊕(pk.Ty×bx.Ty)):=match Q28 fn.body H with
 |some (_,tc)=>cond (Nat.ble (args.length+1) fn.ntmps) (Yh D C K X tc Qs8 none (R:=(bx.Ty×tup res)⊕(pk.Ty×bx.Ty)) (λs=>Xg X Qs8 s none (Qrb D C bx res fn.results.toList) (Qs3 D bx pk)) (λv s=>Xg X Qs8 s (some v) (Qrb D C bx res fn.results.toList) (Qs3 D bx pk)) ⟨Y2 0 (.one (.ptr 0 0)::args),Q73 bx b,fn.ntmps,[]⟩ some λe s=>match e with
  |.normal=>Xg X Qs8 s none (Qrb D C bx res fn.results.toList) (Qs3 D bx pk)
  |_=>none) none
 |none=>none
end
theorem HRel.trimN{E:Env}{V:Vu}{hp:List (Nat×HB)}{tk:List (Nat×Option Tok)}{w:World}{n:Nat}(H:HRel E V hp tk w)(hh:∀i B,lk hp i=some B->i<n/\B.below n)(ht:∀i T,lk tk i=some (some T)->i<n)(h0:E.V0.nx<=n):HRel E {V with nx:=n} hp tk w:=by
 refine⟨H.ext,⟨h0,H.le0.ι,H.le0.cu,H.le0.κ,H.le0.S,H.le0.cell,H.le0.dk⟩,H.sz,H.sub,?_,H.inj,H.new,?_,?_⟩;intro i B hi;obtain⟨h1,h2⟩:=hh i B hi;obtain⟨-,o,ho,hB⟩:=H.own i B hi;refine⟨h1,o,ho,?_⟩;cases B with|cells T xs=>(obtain⟨vs,h3,h4⟩:=hB;exact⟨vs,h3,h4.trim h2⟩)|obj o'=>exact hB|loop s p tm nt ps assign body D=>(obtain⟨-,fn,tmps,h3,h4,h5⟩:=hB;exact⟨h2.1,fn,tmps,h3,h4,λt x hx=>(h5 t x hx).trim (h2.2 t x hx)⟩)|mp es clock=>obtain⟨ents,h3,h4,h5⟩:=hB;exact⟨ents,h3,h4,λi k x b hi=>let⟨v,h6,h7⟩:=h5 i k x b hi;⟨v,h6,h7.trim (h2 _ (Cr hi))⟩⟩
 intro i T hi;obtain⟨h1,hcu,xs,h2,h3⟩:=H.tok i T hi;exact⟨ht i _ hi,hcu,xs,h2,h3⟩;exact H.tki
theorem Qnf(hD:D.OK){bx:BX U}{b:bx.Ty}{s:TSt U}(hb:Qwb D s.m 0 bx=some (b,bx.rs)){E:Env}{V:Vu}{w:World}(H:HRel E V (s.er D).hp (s.er D).tk w)(h0:E.V0.nx<=bx.n):HRel E {V with nx:=bx.n} ((Q73 bx b).er D).hp ((Q73 bx b).er D).tk w:=by
 obtain⟨⟨A,a1,a2⟩,a3,-,-⟩:=Qhj hD hb;have ecb:XB bx b 0 (bx.rs.getD 1 0)=XB bx b 0 1:=by cases bx <;> rfl
 have ect:XA bx b (bx.rs.getD 1 0)=XA bx b 1:=by cases bx <;> rfl
 rw[ecb]at a2;rw[ect]at a3;rw[Qjj hD];have w1:∀i B,lk [(0,XB bx b 0 1)] i=some B->∃A,lk (s.er D).hp i=some A/\∀V w o,A.rel V w o->B.rel V w o:=by intro i B hB;rw[Q8]at hB;split at hB;rename_i e;subst e;cases hB;exact⟨A,a1,a2⟩;cases hB
 have w2:∀i B,lk [(0,XB bx b 0 1)] i=some B->i<bx.n/\B.below bx.n:=by intro i B hB;rw[Q8]at hB;split at hB;rename_i e;subst e;cases hB;(cases bx with|stc T t=>exact⟨Nat.one_pos,λx hx=>by obtain⟨c,_,rfl⟩:=Cx.1 hx;trivial⟩|bld T E' t=>refine⟨SG,λx hx=>?_⟩;rcases Cs.1 hx with rfl|hx;exact SG;rw[CI.1 hx];exact SB);cases hB
 have w3:∀i T,lk (XA bx b 1) i=some (some T)->i<bx.n:=by intro i T hT;cases bx with|stc T' t=>cases hT|bld T' E' t=>have hT':lk [(1,(⟨E',t,b,0⟩:TTok U).erO)] i=some (some T):=hT;rw[Q8]at hT';split at hT';rename_i e;subst e;exact SB;cases hT'
 exact(H.weak w1 λi T hT=>a3 i T hT).trimN w2 w3 h0
theorem Q72(x:BX U)(b:x.Ty):(Q73 x b).nx=x.n:=by cases x <;> rfl
def J63(D:Codec U)(bx:BX U)(res:List (AK U))(pk:PK)(y:(bx.Ty×tup res)⊕(pk.Ty×bx.Ty))(o:OutM):Prop:=∃(s:TSt U)(b':bx.Ty),Qwb D s.m 0 bx=some (b',bx.rs)/\match y with|.inl z=>z.1=b'/\∃xs,o=.val (Qj xs) (s.er D).mem/\xs.length=(QG D res z.2).length/\∀(i:Nat)(y:AV),(QG D res z.2)[i]?=some y->∃x,xs[i]?=some x/\∀V w v,x.rel V w v->y.rel (YY V.S) w v|.inr z=>z.2=b'/\o=.die (Q40 pk z.1) (s.er D).mem
theorem Qke(hD:D.OK){W:Wd}{P:Program}{f:FuncId}{args:List AV}{bx:BX U}{b:bx.Ty}{res:List (AK U)}{pk:PK}{y:(bx.Ty×tup res)⊕(pk.Ty×bx.Ty)}(h:CallP W P f args ((Q73 bx b).er D) (J63 D bx res pk y)):CallO W P f args ((Q73 bx b).er D) (Qo1 D bx res pk y):=by
 refine Ze h.1 λE V w vs hP hW H hn ha=>(h.2 E V w vs hP hW H hn ha).mono ?_;rintro e w' ⟨o,⟨s,b',hb,hy⟩,ho⟩;have hn':V.nx=bx.n:=hn.trans (Q72 bx b);have h0:E.V0.nx<=bx.n:=by rw[<-hn'];exact H.le0.nx
 have le:∀V':Vu,V.Le V' w w'->V.Le {V' with nx:=bx.n} w w':=λV' L=>⟨Pc hn',L.ι,L.cu,L.κ,L.S,L.cell,L.dk⟩;cases y with|inl z=>(obtain⟨rfl,xs,rfl,hl,hs⟩:=hy;obtain⟨v,V',rfl,H',hn2,L,hv⟩:=ho;refine⟨v,{V' with nx:=bx.n},Z,Qnf hD hb H' h0,(Q72 bx _).symm,le V' L,?_⟩;exact(Qe1 hl hs hv).mono (Qle (V:={V' with nx:=bx.n})))|inr z=>obtain⟨rfl,rfl⟩:=hy;obtain⟨V',rfl,H',hn2,L⟩:=ho;exact⟨{V' with nx:=bx.n},Z,Qnf hD hb H' h0,(Q72 bx _).symm,le V' L⟩
theorem Q41{k:AK U}(hk:Yw k=true)(v:k.Ty)(m:Nat):(Xz k v 0).belowB m=true:=DE k v 0 (λi hi=>by cases k <;> first|(cases hk;done)|(cases hi)) (λi hi=>by cases k <;> first|(cases hk;done)|(cases hi))
theorem YV{C:TCfg U}{K:FuncId->List (TAV U)->Option (KR U)}{X:XH U}{P:Program}(hP:P=prog)(hT:C.T.OK P)(hD:D.OK){W:Wd}(hK:Q2n W D P K)(hX:UM W D P X){f:FuncId}{fn:Func}(hf:P.funcs[f]?=some fn)(hen:Qd P f)(H:Hints U)(pf:PF U)(hd:pf.res.all Yw=true)(hd2:pf.args.all Yw=true)(h:∀b v,J02 D C K X fn H pf.bx b (GZ pf.args v) pf.res pf.pk=pf.m b v):ZM D W P f pf:=by
 refine⟨⟨hd,hd2⟩,λb v y hy=>?_⟩;have h:=(h b v).trans hy;unfold J02 at h;split at h;rename_i c tc hc;obtain⟨hc1,hc2⟩:=UJ hc;cases l1:Nat.ble ((GZ pf.args v).length+1) fn.ntmps with
 |false=>rw[l1]at h;cases h
 |true=>
  rw[l1,C5]at h;have ho:∀(s:TSt U)(u:Option Value),Xg X Qs8 s u (Qrb D C pf.bx pf.res fn.results.toList) (Qs3 D pf.bx pf.pk)=some y->∀e,J5j u e->∃o,J63 D pf.bx pf.res pf.pk y o/\EndO W P fn (Q73 pf.bx b).nx e (s.er D) o:=by intro s u hend e he;obtain⟨s',a1,a2,a3,a4,a5⟩:=UG hX fn (Q73 pf.bx b).nx (Qbe s.m) hend;rcases a5 with⟨b1,b2⟩|⟨pv,rfl,b1,b2⟩;unfold Qrb at b1;split at b1;rename_i r hr;split at b1;rename_i b' ns hb;(cases hq:Q88 ns pf.bx.rs with|false=>rw[hq]at b1;cases b1|true=>rw[hq]at b1;cases b1;obtain⟨xs,q1,q2,q3⟩:=Qn4 (P:=P) hT hD hr;have hns:=Xf hq;subst hns;exact⟨_,⟨s',b',hb,Z,xs,Z,q2,q3⟩,b2 e (s'.er D) xs he a2 (ToW.refl _ _ _ _) q1⟩);cases b1;cases b1;unfold Qs3 at b1;split at b1;rename_i ev hev;split at b1;rename_i b' ns hb;(cases hq:Q88 ns pf.bx.rs with|false=>rw[hq]at b1;cases b1|true=>rw[hq]at b1;cases b1;have ee:=Qn5 hev;subst ee;have hns:=Xf hq;subst hns;exact⟨_,⟨s',b',hb,Z,Z⟩,b2 e (s'.er D) he a2 (ToW.refl _ _ _ _)⟩);cases b1;cases b1
  have hcall:=Qg0 (m:=Q73 pf.bx b) hP hT hD hK hX (Qbe _) hf hen hc1 hc2 (show(TAV.one (TA.ptr 0 0)::GZ pf.args v).length<=fn.ntmps from C9 l1) (λE=>To.refl _ _) (Sfx.refl _) h (S:=J63 D pf.bx pf.res pf.pk y) (λe s hs hk=>by
   cases e with
   |normal=>exact ho s none hk _ (.inl rfl)
   |ret=>cases hk
   |exit j=>cases hk
   |goto l=>cases hk
   |panic c=>cases hk
   |outgrown=>cases hk) (λa hp hex=>by
   cases hp;exact⟨λs hs e=>ho s none e _ (.inr Z),λv s hs e=>ho s (some v) e _ Z⟩)
  have hargs:(TAV.one (TA.ptr 0 0)::GZ pf.args v).map (TAV.er D (Q73 pf.bx b).tk)=.one (.ptr 0 0)::QG D pf.args v:=by rw[CJ];show AV.one (.ptr 0 0)::_=_;rw[DC hD (Q73 pf.bx b).tk v hd2]
  rw[hargs]at hcall;exact Qke hD hcall
 cases h
theorem Qe9(hD:D.OK)(ρ:Nat->Nat){rk:List (AK U)}(hk:rk.all Yw=true)(v:tup rk):(QG D rk v).map (AV.ren ρ)=QG D rk v:=by unfold QG;rw[CL];refine Cy λx hx=>?_;obtain⟨k,h1,a,rfl⟩:=Q6v hx;have hk':=Ch.1 hk k h1;cases k with|app i e t=>cases hk'|ptr i o=>cases hk'|any=>cases hk'|stc t=>(have key:∀x:U.R t,AV.ren ρ (AV.agg (Jy D [] [It.grp t x]))=AV.agg (Jy D [] [It.grp t x]):=λx=>by rw[Q4r hD];show AV.agg ((((U.E t).enc x).map CA.d).map (CA.ren ρ))=_;rw[CL];rfl);exact key a|int k=>rfl|bool=>rfl|str=>rfl|sl t=>rfl
theorem Qw7(ρ:Nat->Nat)(xs:List AV)(h:xs.map (AV.ren ρ)=xs):(Qj xs).ren ρ=Qj xs:=by match xs,h with|[],h=>rfl|[x],h=>(have:x.ren ρ=x:=by injection h);show TV.v (x.ren ρ)=.v x;rw[this]|x::y::l,h=>show TV.tup ((x::y::l).map (AV.ren ρ))=.tup (x::y::l);rw[h]
section
variable(D)
def Qvy(tb:List (Nat×PF U)):XH U:=λ_ c args m=>match c with
 |.fn f=>match lk tb f,args with
  |some pf,.one (.ptr i off)::rest=>cond (Nat.beq off 0) (match Qwb D m i pf.bx,Zn m.tk rest with
   |some (b,rs),some rest'=>cond (J1h m i rs pf.bx) (match Qjg D pf.args rest' with
    |some v=>some ⟨λk d=>Option.bind (pf.m b v) (Sum.elim (λr=>k (Qel pf.res r.2) (Qkg m i rs pf.bx r.1)) λe=>d (Q40 pf.pk e.1) (Qkg m i rs pf.bx e.2))⟩
    |none=>none) none
   |_,_=>none) none
  |_,_=>none
 |_=>none
end
def Yo{α:Type}(rs:List Nat)(l:List (Nat×α)):List (Nat×α):=l.filter λp=>!(rs.contains p.1)
theorem Wh{α:Type}(rs:List Nat):∀(l:List (Nat×α))(i:Nat),lk (Yo rs l) i=if i∈rs then none else lk l i
 |[],i=>by unfold Yo;simp[lk]
 |(k,x)::l,i=>by
  have ih:=Wh rs l i;unfold Yo at ih⊢;rw[CE];by_cases hk:k∈rs
  · have:(!(rs.contains (k,x).1))=false:=by simp[hk]
    rw[this,Ca (by simp),ih]
    by_cases hi:i∈rs
    · rw[Cf hi,Cf hi]
    · rw[Ca hi,Ca hi,Q8,Ca (λe=>hi (by rw[<-e];exact hk))]
  · have:(!(rs.contains (k,x).1))=true:=by simp[hk]
    rw[this,Cf rfl,Q8,ih,Q8]
    by_cases e:k=i
    · rw[Cf e,Cf e,Ca (by rw[<-e];exact hk)]
    · rw[Ca e,Ca e]
theorem Qcg{hp:List (Nat×HB)}:∀{l:List (Nat×HB)},(∀p∈l,lk hp p.1=some p.2)->hpLe hp l|[],h=>trivial|(i,x)::l,h=>⟨⟨x,h _ (Cj ..),.refl _⟩,Qcg λp hp=>h p (Ck _ hp)⟩
theorem Qhf{zs ys:List CA}(h:zs.length=ys.length):setL zs 0 ys=ys:=by rw[Qaz ys zs 0 (by omega),List.take_zero,Pj,Sn (by omega),CC]
theorem Qjb{ks:List (AK U)}(hk:ks.all Yw=true)(v:tup ks)(n:Nat):∀y∈QG D ks v,y.below n:=by intro y hy;obtain⟨x,hx,rfl⟩:=Cx.1 hy;obtain⟨k,h1,a,rfl⟩:=Q6v hx;exact Wt _ (Q41 (Ch.1 hk k h1) a n)
theorem J6r(hD:D.OK){m:TMe U}{i:Nat}{x:BX U}{b:x.Ty}{rs:List Nat}(h:Qwb D m i x=some (b,rs))(hk:J1h m i rs x=true)(b':x.Ty):(∀k B,lk ((Qkg m i rs x b').er D).hp k=some B->(k=i/\∀V w o,(XB x b' i (rs.getD 1 0)).rel V w o->B.rel V w o)\/(k∉rs/\∃A,lk (m.er D).hp k=some A/\∀V w o,A.rel V w o->B.rel V w o)) /\ (∀k T,lk ((Qkg m i rs x b').er D).tk k=some (some T)->lk (XA x b' (rs.getD 1 0)) k=some (some T)\/(k∉rs/\lk (m.er D).tk k=some (some T)))/\SfM m (Qkg m i rs x b')/\(Qkg m i rs x b').nx=m.nx:=by
 cases x with
 |stc T t=>
  have h':(match ZJ m.es i with
   |some (T',N)=>cond (Nat.beq T' T&&Nat.beq N (U.E t).sz) (match UW D m.es i 0 N with
    |some xs=>match Q7a D m.tk t xs with|some v=>some (v,[i])|none=>none
    |none=>none) none
   |none=>none)=some (b,rs):=h
  split at h';rename_i T' N hb;cases hc:(Nat.beq T' T&&Nat.beq N (U.E t).sz)with
  |false=>rw[hc]at h';cases h'
  |true=>
   rw[hc,C5]at h';obtain⟨c1,c2⟩:=C2.1 hc;have e1:=Cc c1;have e2:=Cc c2;subst e1;split at h';split at h';cases h';obtain⟨ys,b1,b2⟩:=YI hD (tk:=m.tk) hb;have hk':(Gt [i]&&([i].all (λj=>Nat.blt j m.nx)&&(lk m.tk i).isNone))=true:=hk;obtain⟨k1,k2⟩:=C2.1 hk';obtain⟨k2,k3⟩:=C2.1 k2;have hrow:∀v:U.R t,Jy D m.tk [It.grp t v]=((U.E t).enc v).map .d:=λv=>Q4r hD m.tk t v;refine⟨λk B hB=>?_,λk T hT=>?_,⟨⟨[_],Z⟩,⟨[],Z⟩,Cl _⟩,Z⟩;have hB':lk (match lk (Qq D m.tk m.es) i with
    |some (.cells T ys)=>(i,.cells T (setL ys 0 (Jy D m.tk [It.grp t b'])))::Qq D m.tk m.es
    |_=>Qq D m.tk m.es) k=some B:=hB
   rw[b1]at hB';dsimp only at hB';rw[Q8]at hB';split at hB';rename_i ek;left;refine⟨ek.symm,λV w o hr=>?_⟩;cases hB';rw[Qhf (by rw[K1 hD,b2,e2];rfl),hrow b'];exact hr;rename_i ek;right;exact⟨λhm=>ek (CI.1 hm).symm,B,hB',λ_ _ _ h=>h⟩;right;refine⟨λhm=>?_,hT⟩;rw[CI.1 hm]at hT;have hT':lk (QW TTok.erO m.tk) i=some (some T):=hT;rw[QY]at hT';cases hz:lk m.tk i with|none=>rw[hz]at hT';cases hT'|some z=>rw[hz]at k3;cases k3
   cases h';cases h'
  cases h'
 |bld T E t=>
  have h0:=h;have h':(match ZJ m.es i with
   |some (T',N)=>cond (Nat.beq T' T&&Nat.beq N 2) (match UW D m.es i 0 2 with
    |some [.one (.ptr i' off),.one (.app j ver)]=>match cur m.tk j ver with
     |some tok=>cond (Nat.beq i' i&&(Nat.beq off 0&&(Nat.beq tok.E E&&!(Nat.beq E 0)))) (match X1 tok.t t tok.l with
      |some l=>some (l,[i,j])
      |none=>none) none
     |none=>none
    |_=>none) none
   |none=>none)=some (b,rs):=h
  split at h';rename_i T' N hb;cases hc:(Nat.beq T' T&&Nat.beq N 2)with
  |false=>rw[hc]at h';cases h'
  |true=>
   rw[hc,C5]at h';obtain⟨c1,c2⟩:=C2.1 hc;have e1:=Cc c1;have e2:=Cc c2;subst e1;subst e2;split at h';rename_i i' off j ver hr;split at h';rename_i tok hcur;cases hq:(Nat.beq i' i&&(Nat.beq off 0&&(Nat.beq tok.E E&&!(Nat.beq E 0))))with
   |false=>rw[hq]at h';cases h'
   |true=>
    rw[hq,C5]at h';obtain⟨q1,q23⟩:=C2.1 hq;obtain⟨q2,q3⟩:=C2.1 q23;have f1:=Cc q1;have f2:=Cc q2;subst f1;subst f2;split at h';cases h';have hk':(Gt [i',j]&&([i',j].all (λj=>Nat.blt j m.nx)&&((lk m.tk i').isNone&&(m.es.all (KN j)&&!(m.es.any (Ev.hasApp j (Jf m.tk j)))))))=true:=hk;obtain⟨k1,k2⟩:=C2.1 hk';obtain⟨k2,k3⟩:=C2.1 k2;obtain⟨k3,k4⟩:=C2.1 k3;obtain⟨k4,k5⟩:=C2.1 k4;(have hij:i'≠j:=λe=>by have:=Uw k1;rw[e]at this;simp at this);obtain⟨tk',htk'⟩:∃tk',tk'=(j,(⟨E,t,b',Jf m.tk j⟩:TTok U))::m.tk:=⟨_,rfl⟩;obtain⟨ys,b1,b2⟩:=YI hD (tk:=tk') hb;obtain⟨T2,zs,r1,r2,r3⟩:=YQ hD (tk:=tk') hr;rw[b1]at r1;cases r1;rw[Q13 b2]at r3;have eapp:(TA.app j (Jf m.tk j):TA U).er tk'=.app j (U.E t).sz ((U.E t).encL b'):=by
     show(match cur tk' j (Jf m.tk j)with
      |some T=>CA.app j (U.E T.t).sz ((U.E T.t).encL T.l)
      |none=>CA.any)=_
     rw[htk',K2,Cf rfl,Cf rfl]
    have hst:=Zq (D:=D) (tk:=m.tk) (tk':=tk') (es:=m.es) (by rw[htk'];exact DM λhp=>by have:m.es.any (Ev.hasApp j (Jf m.tk j))=true:=hp;have k5':(!(m.es.any (Ev.hasApp j (Jf m.tk j))))=true:=k5;rw[this]at k5';cases k5');refine⟨λk B hB=>?_,λk T hT=>?_,⟨⟨[_],Z⟩,⟨[_],Z⟩,Cl _⟩,Z⟩;have hB':lk (match lk (Qq D tk' m.es) i' with
     |some (.cells T ys)=>(i',.cells T (setL ys 1 (Jy D tk' [It.one (.app j (Jf m.tk j))])))::Qq D tk' m.es
     |_=>Qq D tk' m.es) k=some B:=by rw[htk'];exact hB
    rw[b1]at hB';dsimp only at hB';rw[Q8]at hB';split at hB';rename_i ek;left;refine⟨ek.symm,λV w o hr=>?_⟩;cases hB';(have e5:setL ys 1 (Jy D tk' [It.one (.app j (Jf m.tk j))])=[.ptr i' 0,.app j (U.E t).sz ((U.E t).encL b')]:=by rw[r3];show setL [CA.ptr i' 0,(TA.app j ver:TA U).er tk'] 1 [(TA.app j (Jf m.tk j):TA U).er tk']=_;rw[eapp];rfl);rw[e5];exact hr;rename_i ek;right;(have hkj:k≠j:=λe=>by rw[e,Q8z (show m.es.all (KN j)=true from k4)]at hB';cases hB');have ow:=hst k;rw[hB']at ow;(cases hA:lk (Qq D m.tk m.es) k with|none=>rw[hA]at ow;exact ow.elim|some A=>rw[hA]at ow;refine⟨λhm=>?_,A,hA,λV w o hr=>BW.rel ow hr⟩;rcases Cs.1 hm with e|hm;exact ek e.symm;exact hkj (CI.1 hm));have hT':lk (QW TTok.erO ((j,(⟨E,t,b',Jf m.tk j⟩:TTok U))::m.tk)) k=some (some T):=hT;have hT2:lk ((j,(⟨E,t,b',Jf m.tk j⟩:TTok U).erO)::QW TTok.erO m.tk) k=some (some T):=hT';rw[Q8]at hT2;split at hT2;rename_i ek;left;rw[<-hT2];show lk [(j,_)] k=_;rw[Q8,Cf ek];rfl;rename_i ek;right;refine⟨λhm=>?_,hT2⟩;rcases Cs.1 hm with e|hm;rw[e,QY]at hT2;(cases hz:lk m.tk i' with|none=>rw[hz]at hT2;cases hT2|some z=>have k3':(lk m.tk i').isNone=true:=k3;rw[hz]at k3';cases k3');exact ek (CI.1 hm).symm;cases h'
   cases h';cases h'
  cases h'
theorem J1g{m:TMe U}{i:Nat}{rs:List Nat}{x:BX U}(h:J1h m i rs x=true):rs.Nodup/\∀j∈rs,j<m.nx:=by
 have key:Gt rs=true/\rs.all (λj=>Nat.blt j m.nx)=true:=by cases x with|stc T t=>(have h':(Gt rs&&(rs.all (λj=>Nat.blt j m.nx)&&(lk m.tk i).isNone))=true:=h;obtain⟨k1,k2⟩:=C2.1 h';exact⟨k1,(C2.1 k2).1⟩)|bld T E t=>have h':(Gt rs&&(rs.all (λj=>Nat.blt j m.nx)&&((lk m.tk i).isNone&&(m.es.all (KN (rs.getD 1 0))&&!(m.es.any (Ev.hasApp (rs.getD 1 0) (Jf m.tk (rs.getD 1 0))))))))=true:=h;obtain⟨k1,k2⟩:=C2.1 h';exact⟨k1,(C2.1 k2).1⟩
 exact⟨Uw key.1,λj hj=>C9 (Ch.1 key.2 j hj)⟩
theorem Qjl(x:BX U)(b:x.Ty):hpBelow x.n [(0,XB x b 0 1)]:=by cases x with|stc T t=>exact⟨Nat.one_pos,λx hx=>by obtain⟨c,_,rfl⟩:=Cx.1 hx;trivial,trivial⟩|bld T E t=>refine⟨SG,λx hx=>?_,trivial⟩;rcases Cs.1 hx with rfl|hx;exact SG;rw[CI.1 hx];exact SB
theorem Qji(x:BX U)(b:x.Ty):tkBelow x.n (XA x b 1):=by cases x with|stc T t=>trivial|bld T E t=>exact⟨SB,trivial⟩
theorem Qb6(x:BX U){rs:List Nat}(hl:rs.length=x.n)(n:Nat):G1 rs n 0=rs.getD 0 0/\rs.getD 0 0∈rs/\∀z:x.Ty,JM (G1 rs n) [(0,XB x z 0 1)]=[(rs.getD 0 0,XB x z (rs.getD 0 0) (rs.getD 1 0))]/\Ys (G1 rs n) (XA x z 1)=XA x z (rs.getD 1 0)/\∀(k:Nat)(T:Option Tok),lk (XA x z (rs.getD 1 0)) k=some T->k∈rs:=by cases x with|stc T t=>(match rs,hl with|[q],_=>refine⟨rfl,Cj ..,λz=>⟨?_,rfl,λk T h=>by cases h⟩⟩;show[(q,(XB (BX.stc T t) z 0 1).ren _)]=_;rw[Qfw];rfl)|bld T E t=>match rs,hl with|[q,q2],_=>refine⟨Z,Cj ..,λz=>⟨?_,Z,λk T h=>?_⟩⟩;show[(q,(XB (BX.bld T E t) z 0 1).ren _)]=_;rw[Qfw];rfl;have h':lk [(q2,(⟨E,t,z,0⟩:TTok U).erO)] k=some T:=h;rw[Q8]at h';split at h';rename_i e;rw[<-e];exact Ck _ (Cj ..);cases h'
theorem Qz9(x:BX U)(b:x.Ty)(j:Nat)(r:List (Nat×Option Tok)):tkLe (XA x b j++r) (XA x b j):=by cases x with|stc T t=>trivial|bld T E t=>exact⟨λT hT=>by show lk ((j,_)::_) _=_;rw[Q8,Cf rfl,hT],trivial⟩
def Yc{α:Type}:List (Nat×α)->List (Nat×α)|[]=>[]|(k,x)::l=>(k,x)::QT k (Yc l)
theorem Xu{α:Type}:∀(l:List (Nat×α))(i:Nat),lk (Yc l) i=lk l i|[],i=>rfl|(k,x)::l,i=>by show lk ((k,x)::QT k (Yc l)) i=_;rw[JI,Q8,Q8,Xu l i]
theorem DA{α:Type}:∀(l:List (Nat×α)),∀p∈Yc l,lk l p.1=some p.2
 |[],p,h=>by cases h
 |(k,x)::l,p,h=>by
  rcases Cs.1 h with e|h
  · rw[e,Q8,Cf rfl]
  · obtain⟨h1,h2⟩:=PT.1 h
    have hne:p.1≠k:=KW (by simpa using h2)
    rw[Q8,Ca (λe=>hne e.symm)]
    exact DA l p h1
theorem Qkm{tk:List (Nat×Option Tok)}:∀{l:List (Nat×Option Tok)},(∀p∈l,lk tk p.1=some p.2)->tkLe tk l|[],h=>trivial|(i,x)::l,h=>⟨λT e=>by rw[h _ (Cj ..),e],Qkm λp hp=>h p (Ck _ hp)⟩
theorem Qur{W:Wd}{P:Program}(hD:D.OK){f:FuncId}{bx:BX U}{b:bx.Ty}{args0:List AV}{m:TMe U}{i:Nat}{rs:List Nat}{o:OutM}(hrd:Qwb D m i bx=some (b,rs))(hok:J1h m i rs bx=true)(ha:∀ρ:Nat->Nat,args0.map (AV.ren ρ)=args0)(hb:∀y∈args0,y.below bx.n)(hc:CallO W P f (.one (.ptr 0 0)::args0) ((Q73 bx b).er D) o)(hn:o.m.nx=bx.n):CallO W P f (.one (.ptr i 0)::args0) (m.er D) (o.ren (G1 rs m.nx) (Yc (Yo rs (m.er D).hp)) (Yc (Yo rs (m.er D).tk)) m.nx):=by
 obtain⟨hnd,hlt⟩:=J1g hok;obtain⟨⟨A,a1,a2⟩,a3,a4,a5⟩:=Qhj hD hrd;obtain⟨ρ0,him,ρb⟩:=Qb6 bx a4 m.nx;rw[a5]at ρ0 him ρb;obtain⟨r1,r2,r3⟩:=ρb b;rw[Qjj hD]at hc;have hren:=CallO.ren (n:=m.nx) (nx2:=m.nx) (hp:=[(i,XB bx b i (rs.getD 1 0))]++Yo rs (m.er D).hp) (tk:=XA bx b (rs.getD 1 0)++Yo rs (m.er D).tk) (hpF:=Yc (Yo rs (m.er D).hp)) (tkF:=Yc (Yo rs (m.er D).tk)) rs hc (by
     rw[r1]
     exact Qcg λp hp=>by rw[CI.1 hp];show lk ((i,_)::_) i=_;rw[Q8,Cf rfl])
   (by rw[r2];exact Qz9 _ _ _ _)
   (Qcg λp hp=>by
     have h1:=DA _ p hp
     show lk ((i,_)::Yo rs (m.er D).hp) p.1=_
     have hni:p.1≠i:=λe=>by
       rw[Wh,e,Cf him]at h1;cases h1
     rw[Q8,Ca (λe=>hni e.symm)];exact h1)
   (Qkm λp hp=>by
     have h1:=DA _ p hp
     have hni:p.1∉rs:=λe=>by rw[Wh,Cf e]at h1;cases h1
     rw[UZ]
     cases hc:lk (XA bx b (rs.getD 1 0)) p.1 with
     |none=>exact h1
     |some x=>exact(hni (r3 _ _ hc)).elim)
   a4 hnd hlt
   (λk B hB hm=>by rw[Xu,Wh,Cf hm]at hB;cases hB)
   (λk T hT hm=>by rw[Xu,Wh,Cf hm]at hT;cases hT)
   (Qjl _ _) (Qji _ _)
   (λy hy=>by
     rcases Cs.1 hy with rfl|hy
     · show 0<bx.n;cases bx <;> first|exact Nat.one_pos|exact SG
     · exact hb y hy)
   (by rw[hn];exact Cl _) (by rw[hn];exact Nat.add_comm _ _)
 have eargs:((AV.one (.ptr 0 0))::args0).map (AV.ren (G1 rs m.nx))=.one (.ptr i 0)::args0:=by rw[CJ,ha];show AV.one (.ptr (G1 rs m.nx 0) 0)::args0=_;rw[ρ0]
 rw[eargs]at hren;refine CallO.pre (m0:=⟨[(i,XB bx b i (rs.getD 1 0))]++Yo rs (m.er D).hp,XA bx b (rs.getD 1 0)++Yo rs (m.er D).tk,m.nx⟩) (λk B hB=>?_) (λk T hT=>?_) Z hren
 · have hB':lk ((i,XB bx b i (rs.getD 1 0))::Yo rs (m.er D).hp) k=some B:=hB
   rw[Q8]at hB'
   split at hB'
   · rename_i e;subst e;cases hB';exact⟨A,a1,a2⟩
   · rw[Wh]at hB'
     split at hB'
     · cases hB'
     · exact⟨B,hB',λ_ _ _ h=>h⟩
 · have hT':lk (XA bx b (rs.getD 1 0)++Yo rs (m.er D).tk) k=some (some T):=hT
   rw[UZ]at hT'
   split at hT'
   · rename_i x hx;cases hT';exact a3 k T hx
   · rw[Wh]at hT'
     split at hT'
     · cases hT'
     · exact hT'
theorem KZ(hD:D.OK){P:Program}{tb:List (Nat×PF U)}{W:Wd}(h:AllT (ZM D W P) tb):UM W D P (Qvy D tb):=by
 intro Y c args m xo hY hx;unfold Qvy at hx;split at hx;rename_i f;split at hx;rename_i pf i off rest hpf;cases hoff:Nat.beq off 0 with|false=>rw[hoff]at hx;cases hx|true=>rw[hoff,C5]at hx;have eoff:=Cc hoff;subst eoff;split at hx;rename_i b rs rest' hrd hs;(cases hok:J1h m i rs pf.bx with|false=>rw[hok]at hx;cases hx|true=>rw[hok,C5]at hx;split at hx;rename_i v hv;cases hx;obtain⟨⟨hd1,hd2⟩,hm⟩:=h.get hpf;intro β k d r hr;obtain⟨y,hy,hk⟩:=Zt (show Option.bind _ _=some r from hr);have hc:=hm b v y hy;(have hn:(Qo1 D pf.bx pf.res pf.pk y).m.nx=pf.bx.n:=by cases y with|inl y=>exact Q72 _ _|inr y=>exact Q72 _ _);have call:=Qur hD hrd hok (λρ=>Qe9 hD ρ hd2 v) (Qjb hd2 v _) hc hn;obtain⟨-,-,a4,a5⟩:=Qhj hD hrd;obtain⟨-,-,ρb⟩:=Qb6 pf.bx a4 m.nx;rw[a5]at ρb;(have hargs:∀V w vs,argsRel V w ((TAV.one (TA.ptr i 0)::rest).map (TAV.er D m.tk)) vs->argsRel V w (AV.one (.ptr i 0)::QG D pf.args v) vs:=by intro V w vs ha;have hsb:=GM (D:=D) hs (Q27 hD hv m.tk);obtain⟨h3,h4⟩:=hsb.spec;refine⟨by rw[ha.1,CJ,C1,C1,h3],λj z hz=>?_⟩;cases j with|zero=>cases hz;exact ha.2 0 _ Z|succ j=>obtain⟨x,hx,hxy⟩:=h4 j z hz;obtain⟨u,hu,hr⟩:=ha.2 (j+1) x hx;exact⟨u,hu,(hxy.rel hr).mono (Qle (V:=V))⟩);(have post:∀b':pf.bx.Ty,(Qo1 D pf.bx pf.res pf.pk y).m=(Q73 pf.bx b').er D->CallO W P f (AV.one (.ptr i 0)::QG D pf.args v) (m.er D) (((Qo1 D pf.bx pf.res pf.pk y).ren (G1 rs m.nx) (Yc (Yo rs (m.er D).hp)) (Yc (Yo rs (m.er D).tk)) m.nx).with ((Qkg m i rs pf.bx b').er D))/\SfM m (Qkg m i rs pf.bx b'):=by intro b' hb';obtain⟨w1,w2,w3,w4⟩:=J6r hD hrd hok b';obtain⟨r1,r2,-⟩:=ρb b';(have em:((Qo1 D pf.bx pf.res pf.pk y).ren (G1 rs m.nx) (Yc (Yo rs (m.er D).hp)) (Yc (Yo rs (m.er D).tk)) m.nx).m=⟨[(i,XB pf.bx b' i (rs.getD 1 0))]++Yc (Yo rs (m.er D).hp),XA pf.bx b' (rs.getD 1 0)++Yc (Yo rs (m.er D).tk),m.nx⟩:=by(have e0:∀o:OutM,(o.ren (G1 rs m.nx) (Yc (Yo rs (m.er D).hp)) (Yc (Yo rs (m.er D).tk)) m.nx).m=⟨JM (G1 rs m.nx) o.m.hp++Yc (Yo rs (m.er D).hp),Ys (G1 rs m.nx) o.m.tk++Yc (Yo rs (m.er D).tk),m.nx⟩:=λo=>by cases o <;> rfl);rw[e0,hb',Qjj hD];show(⟨JM _ [(0,XB pf.bx b' 0 1)]++_,Ys _ (XA pf.bx b' 1)++_,_⟩:Mem)=_;rw[r1,r2]);refine⟨CallO.post (λk B hB=>?_) (λk T hT=>?_) (by rw[em];exact w4) call,w3⟩;rw[em];show ∃A,lk ((i,XB pf.bx b' i (rs.getD 1 0))::Yc (Yo rs (m.er D).hp)) k=some A/\_;rcases w1 k B hB with⟨e,hw⟩|⟨hn',A,hA,hw⟩;exact⟨_,by rw[Q8,Cf e.symm],hw⟩;refine⟨A,?_,hw⟩;(have hki:i≠k:=λe=>by obtain⟨-,him,-⟩:=Qb6 pf.bx a4 m.nx;rw[a5,e]at him;exact hn' him);rw[Q8,Ca hki,Xu,Wh,Ca hn'];exact hA;rw[em];show lk (XA pf.bx b' (rs.getD 1 0)++Yc (Yo rs (m.er D).tk)) k=some (some T);rw[UZ];rcases w2 k T hT with e|⟨hn',e⟩;rw[e];obtain⟨-,-,r3⟩:=ρb b';cases hz:lk (XA pf.bx b' (rs.getD 1 0)) k with|some x=>exact(hn' (r3 k x hz)).elim|none=>dsimp only;rw[Xu,Wh,Ca hn'];exact e);(cases y with|inl y=>(obtain⟨p1,p2⟩:=post y.1 rfl;refine⟨.val (Qel pf.res y.2) (Qkg m i rs pf.bx y.1),?_,p2,hk⟩;show CallO W P f ((TAV.one (TA.ptr i 0)::rest).map (TAV.er D m.tk)) (m.er D) (.val ((Qel pf.res y.2).er D _) _);rw[Qlc hD _ y.2 hd1];(have e:((Qo1 D pf.bx pf.res pf.pk (.inl y)).ren (G1 rs m.nx) (Yc (Yo rs (m.er D).hp)) (Yc (Yo rs (m.er D).tk)) m.nx).with ((Qkg m i rs pf.bx y.1).er D)=.val (Qj (QG D pf.res y.2)) ((Qkg m i rs pf.bx y.1).er D):=by show OutM.val ((Qj (QG D pf.res y.2)).ren _) _=_;rw[Qw7 _ _ (Qe9 hD _ hd1 y.2)]);rw[e]at p1;exact CallO.args hargs p1)|inr y=>obtain⟨p1,p2⟩:=post y.2 rfl;exact⟨.die (Q40 pf.pk y.1) (Qkg m i rs pf.bx y.2),CallO.args (o:=.die (Q40 pf.pk y.1) ((Qkg m i rs pf.bx y.2).er D)) hargs p1,p2,hk⟩);cases hx);cases hx
 cases hx;cases hx
end
end
section
open Go.RowKit
section
variable{U:Univ}(D:Codec U)
def Jbs(f T:Nat):XH U:=λ_ c args m=>match c with
 |.fn g=>match args with
  |[.one (.ptr i off)]=>cond (Nat.beq g f&&Nat.beq off 0) (match ZJ m.es i,UW D m.es i 0 1 with
   |some (T',N),some [.one (.ptr i' o')]=>cond (Nat.beq i' i&&Nat.beq o' 0) (some ⟨λk _=>k (.tup []) m⟩) none
   |some (T',N),some [.one (.c (.v (.pointer none)))]=>cond (Nat.beq T' T&&Nat.beq N 2) (some ⟨λk _=>k (.tup []) ⟨.set i 0 [.one (.ptr i 0)]::m.es,m.tk,m.nx⟩⟩) none
   |_,_=>none) none
  |_=>none
 |_=>none
variable{D}
theorem Qbb{V:Vu}{w:World}{x:AV}{vs:Array Value}(h:argsRel V w [x] vs):∃u,vs=#[u]/\x.rel V w u:=by obtain⟨u,hu,hr⟩:=h.2 0 x rfl;refine⟨u,?_,hr⟩;apply PO;intro k;match k with|0=>rw[hu];rfl|k+1=>rw[P0 (by rw[h.1];simp)];simp
theorem J5i(hD:D.OK){W:Wd}{P:Program}{f T:Nat}(hen:Qd P f)(hu:∀b w,w.cell? ⟨b,0,none⟩=some (.pointer (some ⟨b,0,none⟩))->Calls P f #[.pointer (some ⟨b,0,none⟩)] w λe w'=>e=.returned (.tuple #[])/\w'=w)(hf:∀b w,w.cell? ⟨b,0,none⟩=some (.pointer none)->w.shape? b=some (T,2)->w.frozen? ⟨b,0,none⟩=false -> Calls P f #[.pointer (some ⟨b,0,none⟩)] w λe w'=>e=.returned (.tuple #[])/\w'=w.setCell ⟨b,0,none⟩ (.pointer (some ⟨b,0,none⟩))):UM W D P (Jbs D f T):=by
 intro Y c args m xo hY hx;unfold Jbs at hx;split at hx;rename_i g;split at hx;rename_i i off;cases hc:(Nat.beq g f&&Nat.beq off 0)with
 |false=>rw[hc]at hx;cases hx
 |true=>
  rw[hc,C5]at hx;obtain⟨c1,c2⟩:=C2.1 hc;have e1:=Cc c1;have e2:=Cc c2;subst e1 e2;have first:∀{x:TA U},UW D m.es i 0 1=some [.one x]->∃T ys,lk (m.er D).hp i=some (.cells T ys)/\ys[0]?=(Jy D m.tk [.one x])[0]?:=λ{x} h=>by obtain⟨T,ys,h1,h2,h3⟩:=YQ hD (tk:=m.tk) h;refine⟨T,ys,h1,?_⟩;rw[<-h3];simp
  split at hx;rename_i T' N i' o' hb hr;cases hc2:(Nat.beq i' i&&Nat.beq o' 0)with|false=>rw[hc2]at hx;cases hx|true=>rw[hc2]at hx;cases hx;obtain⟨d1,d2⟩:=C2.1 hc2;have e1:=Cc d1;have e2:=Cc d2;subst e1 e2;(obtain⟨T2,ys,hl,hy⟩:=first hr);intro β k d r hrun;refine⟨.val (.tup []) m,?_,SfM.refl m,hrun⟩;refine Ze hen (o:=.val (.tup []) (m.er D)) λE V w vs hP hW H hn ha=>?_;obtain⟨u,rfl,hu'⟩:=Qbb ha;obtain⟨-,rfl⟩:i'<V.nx/\u=.pointer (some ⟨V.ι i',0,none⟩):=hu';obtain⟨-,o,ho,vs,rfl,hvs⟩:=H.own _ _ hl;obtain⟨u0,hu0,hr0⟩:=hvs.2 0 _ hy;obtain⟨-,rfl⟩:i'<V.nx/\u0=.pointer (some ⟨V.ι i',0,none⟩):=hr0;refine(hu (V.ι i') w (by rw[Jt ho];exact hu0)).mono ?_;rintro e w' ⟨rfl,rfl⟩;exact⟨_,V,rfl,H,hn,Vu.Le.refl _ _,⟨#[],rfl,rfl,λi y hy=>by cases hy⟩⟩
  rename_i T' N hb hr;cases hc2:(Nat.beq T' T&&Nat.beq N 2)with
  |false=>rw[hc2]at hx;cases hx
  |true=>
   rw[hc2]at hx;cases hx;obtain⟨d1,d2⟩:=C2.1 hc2;have e1:=Cc d1;have e2:=Cc d2;subst e1 e2;obtain⟨T2,ys,hl,hy⟩:=first hr
   obtain⟨ys2,hl2,hlen⟩:=YI hD (tk:=m.tk) hb;obtain⟨rfl,rfl⟩:T2=T'/\ys=ys2:=by have:=hl.symm.trans hl2;cases this;exact⟨rfl,rfl⟩
   intro β k d r hrun;refine⟨.val (.tup []) ⟨.set i 0 [.one (.ptr i 0)]::m.es,m.tk,m.nx⟩,?_,⟨⟨[_],Z⟩,⟨[],Z⟩,Cl _⟩,hrun⟩;refine Ze hen (o:=.val (.tup []) ((⟨.set i 0 [.one (.ptr i 0)]::m.es,m.tk,m.nx⟩:TMe U).er D)) λE V w vs hP hW H hn ha=>?_;obtain⟨u,rfl,hu'⟩:=Qbb ha;obtain⟨hi,rfl⟩:i<V.nx/\u=.pointer (some ⟨V.ι i,0,none⟩):=hu';obtain⟨-,o,ho,vs,rfl,hvs⟩:=H.own _ _ hl;obtain⟨u0,hu0,hr0⟩:=hvs.2 0 _ hy;have e0:u0=.pointer none:=by cases hr0;rfl
   subst e0;refine(hf (V.ι i) w (by rw[Jt ho];exact hu0) (by have:=hvs.1;unfold World.shape?;rw[ho];simp only[];rw[this,hlen]) (Q3c ho 0)).mono ?_;rintro e w' ⟨rfl,rfl⟩;obtain⟨H1,L1⟩:=H.store hl 0 (x:=.ptr i 0) (u:=.pointer (some ⟨V.ι i,0,none⟩)) ⟨hi,rfl⟩;refine⟨_,V,rfl,H1.congr (λj=>?_) (λj=>rfl),hn,L1,⟨#[],rfl,rfl,λi y hy=>by cases hy⟩⟩;show lk (match lk (Qq D m.tk m.es) i with
    |some (.cells T ys)=>(i,.cells T (setL ys 0 (Jy D m.tk [.one (.ptr i 0)])))::Qq D m.tk m.es
    |_=>Qq D m.tk m.es) j=_
   rw[show lk (Qq D m.tk m.es) i=some (.cells T2 ys)from hl];rfl
  cases hx
 cases hx;cases hx
variable(D)
def QH{α β:Type}:Option (α⊕β)->Option α|some (.inl a)=>some a|_=>none
def J6w(tb:List (Nat×PF U)):XH U:=λ_ c args m=>match c with
 |.fn f=>match lk tb f,args with
  |some pf,.one (.ptr i off)::rest=>cond (Nat.beq off 0) (match Qwb D m i pf.bx,Zn m.tk rest with
   |some (b,rs),some rest'=>cond (J1h m i rs pf.bx) (match Qjg D pf.args rest' with
    |some v=>some ⟨λk _=>Option.bind (QH (pf.m b v)) λr=>k (Qel pf.res r.2) (Qkg m i rs pf.bx r.1)⟩
    |none=>none) none
   |_,_=>none) none
  |_,_=>none
 |_=>none
variable{D}
theorem JR(hD:D.OK){P:Program}{tb:List (Nat×PF U)}{W:Wd}(h:AllT (ZM D W P) tb):UM W D P (J6w D tb):=by
 intro Y c args m xo hY hx;obtain⟨xo',h',hr⟩:∃xo',Qvy D tb Y c args m=some xo'/\∀ ⦃β:Type⦄ (k:TTV U->TMe U->Option β) (d:Value->TMe U->Option β) (r:β),xo.run k d=some r->xo'.run k d=some r:=by unfold J6w at hx;unfold Qvy;split at hx;split at hx;rename_i f pf i off rest hlk;(try (dsimp only;rw[hlk];dsimp only));(cases hoff:Nat.beq off 0 with|false=>rw[hoff]at hx;cases hx|true=>rw[hoff,C5]at hx;rw[C5];split at hx;rename_i b rs rest' hrd hs;(try (rw[hrd,hs];dsimp only));(cases hok:J1h m i rs pf.bx with|false=>rw[hok]at hx;cases hx|true=>rw[hok,C5]at hx;rw[C5];split at hx;rename_i v hv;cases hx;(try rw[hv]);refine⟨_,Z,λβ k d r hk=>?_⟩;obtain⟨y,hy,hk⟩:=Zt (show Option.bind (QH (pf.m b v)) _=some r from hk);(have hm:pf.m b v=some (.inl y):=by unfold QH at hy;split at hy;rename_i a ha;cases hy;exact ha;cases hy);show Option.bind (pf.m b v) _=some r;rw[hm];exact hk;cases hx);cases hx);cases hx;cases hx
 intro β k d r hk;exact KZ hD h Y c args m xo' hY h' k d r (hr k d r hk)
end
end
section
open Go.RowKit Go.Shelf
theorem Q78{P:Program}{ρ:Ren}(L:Lays.n169 P ρ)(X:Builder.Extra P ρ)(b g cap:Nat)(cur:Array Value)(l:List UInt8)(w:World)(hc:w.cell? ⟨b,1,none⟩=some (.slice (some ⟨g,0,none⟩) l.length cap))(hg:w.heap[g]?=some (.cells cur (ρ.t 5) (0,0)))(hl0:l.length≠0)(hnc:l.length<=cap)(hcm:cap<=maxLen)(hcs:cur.size=cap*1)(hcells:∀(j:Nat)(x:UInt8),l[j]?=some x->w.cell? ⟨g,j,none⟩=some (.int .u8 x.toNat)):Calls P (ρ.f 169) #[.pointer (some ⟨b,0,none⟩)] w λe w'=>e=.returned (.string ⟨l.toArray⟩)/\w'=w.drew.freeze ⟨g,0,none⟩ l.length:=by
 have h0:l≠[]:=by simpa using hl0
 have c1:w.drew.cell? ⟨b,1,none⟩=some (.slice (some ⟨g,0,none⟩) l.length cap):=hc;have hSD:(Builtin.unsafeSliceData_ #[(ρ.t 37)] (ρ.t 127) #[.slice (some ⟨g,0,none⟩) l.length cap]).run P w.drew=.ok (.pointer (some ⟨g,0,none⟩)) w.drew:=Lib.run_unsafeSliceData_row _ _ _ _ _ _ (by omega);have hUS:(Builtin.unsafeString_ #[(ρ.t 127),(ρ.t 3)] (ρ.t 9) #[.pointer (some ⟨g,0,none⟩),.int .i64 l.length]).run P w.drew=.ok (.string ⟨l.toArray⟩) (w.drew.freeze ⟨g,0,none⟩ l.length):=by refine Lib.run_unsafeString_row w.drew (ρ.t 127) (ρ.t 3) (ρ.t 9) (ρ.t 5) L.t127 X.cellsByte g cur.size (by have hg':w.drew.heap[g]?=some (.cells cur (ρ.t 5) (0,0)):=hg;simp[World.shape?,hg']) l h0 (by omega) (by unfold maxLen at hcm;omega) ?_;intro j x hx;rw[K5,Pd];exact hcells j x hx
 have mixed:=L.mixed;have t72:=L.t72;have a72:=L.a72;have z72:=L.z72;have v72:=L.v72;have u72:=run_underlying L.t72;have t70:=L.t70;have a70:=L.a70;have z70:=L.z70;have v70:=L.v70;have u70:=run_underlying L.t70;have t37:=L.t37;have a37:=L.a37;have z37:=L.z37;have v37:=L.v37;have u37:=run_underlying L.t37;have t127:=L.t127;have a127:=L.a127;have z127:=L.z127;have v127:=L.v127;have u127:=run_underlying L.t127;have t3:=L.t3;have a3:=L.a3;have z3:=L.z3;have v3:=L.v3;have u3:=run_underlying L.t3;have t9:=L.t9;have a9:=L.a9;have z9:=L.z9;have v9:=L.v9;have u9:=run_underlying L.t9;have t5:=X.t5;have a5:=X.a5;have z5:=X.z5;have v5:=X.v5;have u5:=run_underlying X.t5
 go_enter L.f169,Body.n169_ntmps ρ
 go_wp2
 go_region_o
 all_goals (go_wp2;go_ret;exact⟨rfl,rfl⟩)
theorem Q6g(w:World)(g n k:Nat)(hk:k≠g):(w.drew.freeze ⟨g,0,none⟩ n).heap[k]?=w.heap[k]?:=by unfold World.freeze;split;rfl;show(w.drew.heap.modify g _)[k]?=_;rw[Py,Ca (λe=>hk e.symm)];rfl
theorem Qfh(w:World)(g n:Nat):(w.drew.freeze ⟨g,0,none⟩ n).heap.size=w.heap.size:=by unfold World.freeze;split;rfl;show(w.drew.heap.modify g _).size=_;rw[Array.size_modify];rfl
theorem Qtz(w:World)(g n b o:Nat):(w.drew.freeze ⟨g,0,none⟩ n).cell? ⟨b,o,none⟩=w.cell? ⟨b,o,none⟩:=by
 unfold World.freeze;split;rfl;simp only[World.cell?,Py];by_cases e:g=b;rw[Cf e];have e2:w.drew.heap[b]?=w.heap[b]?:=rfl;rw[e2];cases hb:w.heap[b]? with|none=>rfl|some x=>cases x <;> rfl
 rw[Ca e];rfl
theorem J3r(w:World)(g n b:Nat)(ds:Option (List Deferred))(h:w.heap[b]?=some (.deferred ds)):(w.drew.freeze ⟨g,0,none⟩ n).heap[b]?=some (.deferred ds):=by unfold World.freeze;split;exact h;show(w.drew.heap.modify g _)[b]?=_;rw[Py];by_cases e:g=b;rw[Cf e];show Option.map _ w.heap[b]?=_;rw[h];rfl;rw[Ca e];exact h
theorem J3q(w:World)(g n:Nat):(w.drew.freeze ⟨g,0,none⟩ n).os=w.os/\(w.drew.freeze ⟨g,0,none⟩ n).tape=w.tape/\(w.drew.freeze ⟨g,0,none⟩ n).output=w.output:=by unfold World.freeze;split <;> exact⟨rfl,rfl,rfl⟩
theorem HRel.frz{E:Env}{V:Vu}{hp:List (Nat×HB)}{tk:List (Nat×Option Tok)}{w:World}(h:HRel E V hp tk w){g n:Nat}(hM:E.w0.heap.size<=g\/E.M g)(hb:∀j B,lk hp j=some B->V.ι j≠g)(ht:∀j T,lk tk j=some (some T)->(V.κ j T.n).ownBlock≠some g):HRel E V hp tk (w.drew.freeze ⟨g,0,none⟩ n)/\V.Le V w (w.drew.freeze ⟨g,0,none⟩ n):=by
 have L:V.Le V w (w.drew.freeze ⟨g,0,none⟩ n):=⟨Cl _,λ_ _=>rfl,λ_ _=>Cl _,λ_ _ _ _=>rfl,λ_ _ h=>h,λb o _=>Qtz w g n b o,λb o _ ds hd=>J3r w g n b ds hd⟩;obtain⟨o1,o2,o3⟩:=J3q w g n;refine⟨⟨⟨o1.trans h.ext.os,o2.trans h.ext.tape,o3.trans h.ext.output,by rw[Qfh];exact h.ext.size,λk hk hkM=>?_⟩,h.le0.trans L,λb o hs=>by rw[Qfh];exact h.sz b o hs,h.sub,λi B hi=>?_,h.inj,h.new,λi T hi=>?_,h.tki⟩,L⟩;have hkg:k≠g:=λe=>by subst e;rcases hM with hM|hM;exact absurd hk (Nat.not_lt.2 hM);exact hkM hM
 rw[Q6g w g n k hkg];exact h.ext.block k hk hkM;obtain⟨h1,o,h2,h3⟩:=h.own i B hi;exact⟨h1,o,by rw[Q6g w g n _ (hb i B hi)];exact h2,h3.mono L⟩;obtain⟨h1,h2,xs,h3,h4⟩:=h.tok i T hi;exact⟨h1,h2,xs,h3.keepW rfl (Q06 h3.1 λk hk=>Q6g w g n k λe=>ht i T hi (by rw[hk,e])) L.lx,h4⟩
section
variable{U:Univ}(D:Codec U)
structure BytR(B:BytOf U) where
 rg:List (U.R B.t)->Bool
 ok:∀l,rg l=true->(U.E B.t).encL l=bc (B.sb l)
def J10(f E0:Nat)(B:BytOf U)(R:BytR B):XH U:=λ_ c args m=>match c with
 |.fn g=>match args with
  |[.one (.ptr i off)]=>cond (Nat.beq g f&&Nat.beq off 0) (match UW D m.es i 1 1 with
   |some [.one (.app j ver)]=>match cur m.tk j ver with|some T=>(match X1 T.t B.t T.l with|some l=>cond ((Nat.beq T.E E0&&!(Nat.beq E0 0))&&!(m.es.any (Ev.hasApp j (Jf m.tk j)))) (some ⟨λk _=>Qa (cond (R.rg l) (!l.isEmpty) false) (k (.v (.one (.c (.str (B.sb l))))) ⟨m.es,(j,⟨0,B.t,l,Jf m.tk j⟩)::m.tk,m.nx⟩)⟩) none|none=>none)|none=>none
   |_=>none) none
  |_=>none
 |_=>none
variable{D}
theorem Qw0(hD:D.OK){W:Wd}{P:Program}{f E0:Nat}{B:BytOf U}{R:BytR B}(hen:Qd P f)(hs:∀(b g cap:Nat)(cur:Array Value)(l:List UInt8)(w:World),w.cell? ⟨b,1,none⟩=some (.slice (some ⟨g,0,none⟩) l.length cap)->w.heap[g]?=some (.cells cur E0 (0,0))->l.length≠0->l.length<=cap->cap<=maxLen->cur.size=cap*1 -> (∀(j:Nat)(x:UInt8),l[j]?=some x->w.cell? ⟨g,j,none⟩=some (.int .u8 x.toNat))->Calls P f #[.pointer (some ⟨b,0,none⟩)] w λe w'=>e=.returned (.string ⟨l.toArray⟩)/\w'=w.drew.freeze ⟨g,0,none⟩ l.length):UM W D P (J10 D f E0 B R):=by
 intro Y c args m xo hY hx;unfold J10 at hx;split at hx;rename_i g0;split at hx;rename_i i off;cases hc:(Nat.beq g0 f&&Nat.beq off 0)with
 |false=>rw[hc]at hx;cases hx
 |true=>
  rw[hc,C5]at hx;obtain⟨c1,c2⟩:=C2.1 hc;have e1:=Cc c1;have e2:=Cc c2;subst e1 e2;split at hx;rename_i j ver hrd;split at hx;rename_i T hcur;split at hx;rename_i l hl;obtain⟨et,el⟩:=Zr hl;obtain⟨TE,Tt,Tl,Tv⟩:=T;dsimp only at et el;subst et;subst el;cases hcd:((Nat.beq TE E0&&!(Nat.beq E0 0))&&!(m.es.any (Ev.hasApp j (Jf m.tk j))))with
  |false=>rw[hcd]at hx;cases hx
  |true=>
   rw[hcd]at hx;cases hx;obtain⟨d12,d3⟩:=C2.1 hcd;obtain⟨d1,d2⟩:=C2.1 d12;have eE:=Cc d1;have eN:Nat.beq E0 0=false:=by simpa using d2
   subst eE;intro β k d r hrun;obtain⟨hg,hrun⟩:=Gw (show Qa _ _=some r from hrun);have hrg:R.rg l=true:=J9 hg;have hne:l.isEmpty=false:=by simpa using J5 hg
   have henc:=R.ok l hrg;have hlen:(B.sb l).length=((U.E B.t).encL l).length:=by rw[henc,Qco]
   have hl0:(B.sb l).length≠0:=by rw[hlen,Enc.len];cases l with|nil=>cases hne|cons x r=>simp
   have hlk:lk m.tk j=some ⟨TE,B.t,l,Tv⟩:=by unfold cur at hcur;split at hcur;rename_i T0 h0;(cases hq:Nat.beq T0.ver ver with|false=>rw[hq]at hcur;cases hcur|true=>rw[hq]at hcur;cases hcur;exact h0);cases hcur
   have htok:lk (m.er D).tk j=some (some ⟨TE,1,(B.sb l).length,[]⟩):=by show lk (QW TTok.erO m.tk) j=_;rw[QY,hlk];show some (TTok.erO (⟨TE,B.t,l,Tv⟩:TTok U))=_;rw[KK eN];show some (some (⟨TE,(U.E B.t).sz,((U.E B.t).encL l).length,[]⟩:Tok))=_;rw[B.sz,hlen]
   obtain⟨T2,ys,q1,q2,q3⟩:=YQ hD (tk:=m.tk) hrd;have hy:ys[1]?=some (CA.app j 1 (bc (B.sb l))):=by
    (have h1:((ys.drop 1).take 1)[0]?=ys[1]?:=by simp);rw[<-h1,q3];show some (match cur m.tk j ver with
     |some T=>CA.app j (U.E T.t).sz ((U.E T.t).encL T.l)
     |none=>CA.any)=_
    rw[hcur];show some (CA.app j (U.E B.t).sz ((U.E B.t).encL l))=_;rw[B.sz,henc]
   refine⟨.val (.v (.one (.c (.str (B.sb l))))) ⟨m.es,(j,⟨0,B.t,l,Jf m.tk j⟩)::m.tk,m.nx⟩,?_,⟨⟨[],Z⟩,⟨[_],Z⟩,Cl _⟩,hrun⟩;refine Ze hen (o:=.val (.v (.one (.d (.v (.string (sB (B.sb l))))))) ((⟨m.es,(j,⟨0,B.t,l,Jf m.tk j⟩)::m.tk,m.nx⟩:TMe U).er D)) λE V w vs hP hW H hn ha=>?_;obtain⟨u,rfl,hu'⟩:=Qbb ha;obtain⟨hi,rfl⟩:i<V.nx/\u=.pointer (some ⟨V.ι i,0,none⟩):=hu';obtain⟨-,o,ho,vs,rfl,hvs⟩:=H.own _ _ (show lk (m.er D).hp i=some (.cells T2 ys)from q1);obtain⟨u1,hu1,hr1⟩:=hvs.2 1 _ hy;obtain⟨-,hcu,rfl,hrd1⟩:j<V.nx/\(bc (B.sb l)).length<=V.cu j/\u1=V.κ j (bc (B.sb l)).length/\Reads V.S w (C.sl 1 (bc (B.sb l))) u1:=hr1;rw[Qco]at hu1 hrd1;obtain⟨t1,t2,xs,t3,t4⟩:=H.tok j _ htok;dsimp only at t2 t3 t4;obtain⟨g,cap,cu0,hv,-,hgc,hnc,hcm,hcs,-⟩:∃g cap cur,V.κ j (B.sb l).length=.slice (some ⟨g,0,none⟩) (B.sb l).length cap/\0<=g/\w.heap[g]?=some (.cells cur TE (0,0))/\(B.sb l).length<=cap/\cap<=maxLen/\cur.size=cap*1/\cur.toList.take ((B.sb l).length*1)=xs:=by rcases t3.1.2 with⟨_,hz⟩|hr;exact absurd hz hl0;exact hr
   have hown:(V.κ j (B.sb l).length).ownBlock=some g:=by rw[hv];rfl
   obtain⟨t5,t6,t7⟩:=t4 g hown;rw[hv]at hu1 hrd1;have hcells:∀(q:Nat)(x:UInt8),(B.sb l)[q]?=some x->w.cell? ⟨g,q,none⟩=some (.int .u8 x.toNat):=by generalize hes:bc (B.sb l)=es at hrd1;(have hel:es.length=(B.sb l).length:=by rw[<-hes,Qco]);generalize hv2:Value.slice (some ⟨g,0,none⟩) (B.sb l).length cap=v2 at hrd1;cases hrd1 with|sl _ _ a cap2 b0 off0 ff hcap haa hll hcc hss hrr=>have ea:=haa (by intro e;rw[e]at hel;exact hl0 hel.symm);injection hv2 with e1 e2 e3;rw[ea]at e1;injection e1 with e1;injection e1 with e4 e5;subst e4 e5;intro q x hq;(have hq':es[q]?=some [C.v (.int .u8 x.toNat)]:=by rw[<-hes];unfold bc;rw[Cn,hq];rfl);have h1:=hcc q _ 0 _ hq' rfl;have h2:=hrr q _ 0 _ hq' rfl;rw[SE,Pk,Pd]at h1;generalize ff q 0=fv at h1 h2;cases h2;exact h1
   refine(hs (V.ι i) g cap cu0 (B.sb l) w (by rw[Jt ho];exact hu1) hgc hl0 hnc hcm hcs hcells).mono ?_;rintro e w' ⟨rfl,rfl⟩;have hst:=Zq (D:=D) (tk:=m.tk) (tk':=(j,(⟨0,B.t,l,Jf m.tk j⟩:TTok U))::m.tk) (es:=m.es) (DM λhp=>by have:m.es.any (Ev.hasApp j (Jf m.tk j))=true:=hp;rw[this]at d3;cases d3);have hhp:∀k B',lk ((⟨m.es,(j,⟨0,B.t,l,Jf m.tk j⟩)::m.tk,m.nx⟩:TMe U).er D).hp k=some B'->∃A,lk (m.er D).hp k=some A/\∀V w o,A.rel V w o->B'.rel V w o:=λk B' hB=>by have ow:=hst k;have hB':lk (Qq D ((j,(⟨0,B.t,l,Jf m.tk j⟩:TTok U))::m.tk) m.es) k=some B':=hB;rw[hB']at ow;show ∃A,lk (Qq D m.tk m.es) k=some A/\_;cases hA:lk (Qq D m.tk m.es) k with|none=>rw[hA]at ow;exact ow.elim|some A=>rw[hA]at ow;exact⟨A,rfl,λV w o hr=>BW.rel ow hr⟩
   have htk:∀k T,lk ((⟨m.es,(j,⟨0,B.t,l,Jf m.tk j⟩)::m.tk,m.nx⟩:TMe U).er D).tk k=some (some T)->k≠j/\lk (m.er D).tk k=some (some T):=λk T hT=>by have hT':lk ((j,(none:Option Tok))::WB m.tk) k=some (some T):=hT;rw[Q8]at hT';by_cases e:j=k;rw[Cf e]at hT';cases hT';rw[Ca e]at hT';exact⟨λh=>e h.symm,hT'⟩
   have H1:=H.weak hhp λk T hT=>(htk k T hT).2;obtain⟨H2,L2⟩:=H1.frz (g:=g) (n:=(B.sb l).length) t5 (λk B' hB=>by
    obtain⟨A,hA,-⟩:=hhp k B' hB;exact t7 k A hA) (λk T hT hk=>by
    obtain⟨n1,n2⟩:=htk k T hT;exact n1 (H.tki k j T _ g n2 htok hk hown))
   exact⟨_,V,Z,H2,hn,L2,Jl Z⟩
  cases hx;cases hx;cases hx
 cases hx;cases hx
end
end
section
open Go.RowKit
def Tabs(P:Program)(S:Nat->Nat->Prop)(w:World):Prop:=∃g, P.globalNamed "internal/strconv.uint64pow10" = some g /\ (∀o, S g o) /\ ∀o, w.cell? ⟨g, o, none⟩ = (Lib.pow10Tab.map λz=> Value.int .u64 z)[o]?
theorem Tabs.mono{P:Program}{S S':Nat->Nat->Prop}{w w':World}(h:Tabs P S w)(hS:∀b o,S b o->S' b o)(hw:∀b o,S b o->w'.cell? ⟨b,o,none⟩=w.cell? ⟨b,o,none⟩):Tabs P S' w':=by obtain⟨g,h1,h2,h3⟩:=h;exact⟨g,h1,λo=>hS _ _ (h2 o),λo=>(hw _ _ (h2 o)).trans (h3 o)⟩
theorem Tabs.is{P:Program}{S:Nat -> Nat -> Prop}{w:World}(h:Tabs P S w):Lib.TabIs P w "internal/strconv.uint64pow10" .u64 Lib.pow10Tab:= by
 obtain⟨g,h1,-,h3⟩:=h
 have h0:=h3 0
 unfold Lib.TabIs World.var?
 rw[h1]
 simp only[World.cell?]at h0 h3
 simp only[C0]
 split at h0
 ·rename_i c T f hc
  rw[hc]
  refine congrArg some (PO λo=>?_)
  have:=h3 o
  rw[hc]at this
  simpa using this
 ·have:(Lib.pow10Tab.map λz=>Value.int .u64 z)[0]?=some (.int .u64 1):=rfl
  rw[this]at h0;cases h0
theorem Qzo{P:Program}{S:Nat -> Nat -> Prop}{w:World}{g:Nat}(hg:P.globalNamed "internal/strconv.uint64pow10" = some g)(hS:∀o, S g o)(h:Lib.TabIs P w "internal/strconv.uint64pow10" .u64 Lib.pow10Tab):Tabs P S w:= by
 refine⟨g,hg,hS,λo=>?_⟩
 unfold Lib.TabIs World.var? at h
 rw[hg]at h
 simp only[C0]at h
 split at h
 ·rename_i c T f hc
  cases h
  simp[World.cell?,hc]
 ·cases h
theorem Tabs.blk{P:Program}{S:Nat -> Nat -> Prop}{w:World}(h:Tabs P S w):∃g, P.globalNamed "internal/strconv.uint64pow10" = some g /\ (∀o, S g o) /\ (∀o, w.cell? ⟨g, o, none⟩ = (Lib.pow10Tab.map λz=> Value.int .u64 z)[o]?) /\ ∀ds, w.heap[g]? ≠ some (Obj.deferred ds):= by
 obtain⟨g,h1,h2,h3⟩:=h
 refine⟨g,h1,h2,h3,λds hd=>?_⟩
 have h0:=h3 0
 simp only[World.cell?]at h0
 rw[hd]at h0
 have:(Lib.pow10Tab.map λz=>Value.int .u64 z)[0]?=some (.int .u64 1):=rfl
 rw[this]at h0;cases h0
def WT(P:Program):Wd where
 p:=Tabs P
 mono:=λV V' w w' hL h=>h.mono hL.S hL.cell
 mono2:=λS S' w w' hS hw h=>by
  obtain⟨g,h1,h2,h3,h4⟩:=h.blk
  refine⟨g,h1,λo=>hS g o h4 (h2 o),λo=>?_⟩
  rw[<-h3 o]
  simp only[World.cell?]
  rw[hw g h4]
end
section
open Go.RowKit Go.Shelf
set_option maxRecDepth 100000
theorem G8{w w':World}(h:Below w.heap.size w w'):Xi w w':=⟨h.os,h.tape,h.output,h.size,λk hk _=>h.block k hk⟩
theorem K7{W:Wd}{P:Program}{f:FuncId}{vs0:List Value}{res:TV}(v:Value)(hen:Qd P f)(hres:∀V w,res.rel V w v)(h:∀S w,W.p S w->Calls P f vs0.toArray w λe w'=>e=.returned v/\Xi w w'):FunW W P f (vs0.map λa=>.one (.d (.v a))) res:=by
 refine⟨hen,λS w vs hS hW hargs=>?_⟩;have hsz:vs.size=vs0.length:=by rw[hargs.1,Co]
 have hvs:vs=vs0.toArray:=by apply PO;intro k;cases hk:vs0[k]? with|none=>have:=Pb.1 hk;rw[P0 (by omega)];simp[hk]|some a=>obtain⟨u,h1,h2⟩:=hargs.2 k (.one (.d (.v a))) (by rw[Cn,hk];rfl);(have e:u=a:=by cases h2;rfl);rw[h1,e];simp[hk]
 rw[hvs];exact(h S w hW).mono λe w' ⟨he,hx⟩=>⟨v,S,he,hx,λ_ _ h=>h,λb o h=>⟨.inl h,Ci (hS b o h) hx.size⟩,hres _ _⟩
abbrev W0:Wd:=WT prog
theorem Qzm{S:Nat->Nat->Prop}{w:World}(h:W0.p S w):Tabs prog S w:=h
section
variable{U:Univ}
def Jcp(A B:FuncId->List (TAV U)->Option (KR U))(f:FuncId)(args:List (TAV U)):Option (KR U):=match A f args with|some k=>some k|none=>B f args
theorem J2v{W:Wd}{D:Codec U}{P:Program}{A B:FuncId->List (TAV U)->Option (KR U)}(hA:Q2n W D P A)(hB:Q2n W D P B):Q2n W D P (Jcp A B):=by intro f args kr a h ha;unfold Jcp at h;split at h;rename_i k hk;cases h;exact hA f args _ a hk ha;exact hB f args _ a h ha
end
def k62:KF UV:=⟨[.int .i64],[.str],λ(n:Int)=>Qa (cond (decide (-9223372036854775808<=n)) (decide (n<=9223372036854775807)) false) (some (Lib.itoa n))⟩
theorem J97:Qd prog 62:=enters_of func62 (by kernel_rfl) rfl
theorem Dv:Jv DV W0 prog 62 k62:=⟨rfl,λ(v:Int)(r:Bs) h=>by obtain⟨hg,h⟩:=Gw (show Qa _ _=some r from h);cases h;have h0:-9223372036854775808<=v:=CF (J9 hg);have h1:v<=9223372036854775807:=CF (J5 hg);refine K7 (vs0:=[.int .i64 v]) (res:=TS (Lib.itoa v)) (.string (sB (Lib.itoa v))) J97 (λV w=>Jl Z) λS w hW=>?_;refine Calls.mono (Any.strconv_Itoa Qcv v h0 h1 w (Qzm hW).is) ?_;rintro e w' ⟨rfl,k,os,rfl⟩;exact⟨rfl,⟨rfl,rfl,rfl,(by simp[Go.Sort.grow,World.drewN]),λk hk _=>by simp[Go.Sort.grow,World.drewN,P9 hk]⟩⟩⟩
def k122:KF UV:=⟨[.str,.int .u8],[.int .i64],λ(v:Bs×Int)=>some (Lib.indexByte v.1 v.2.toNat.toUInt8)⟩
theorem J4y:Qd prog 122:=enters_of func122 (by kernel_rfl) rfl
theorem Qcb:Jv DV W0 prog 122 k122:=⟨rfl,λ(v:Bs×Int)(r:Int) h=>by cases h;refine K7 (vs0:=[.string (sB v.1),.int .u8 v.2]) (res:=TI (Lib.indexByte v.1 v.2.toNat.toUInt8)) (.int .i64 (Lib.indexByte v.1 v.2.toNat.toUInt8)) J4y (λV w=>Jl Z) λS w hW=>?_;refine Calls.mono (Any.strings_IndexByte Qcz (sB v.1) v.2 w) ?_;rintro e w' ⟨rfl,rfl⟩;exact⟨Z,ExtM.refl _ _⟩⟩
def k126:KF UV:=⟨[.str,.str],[.bool],λ(v:Bs×Bs)=>some (Lib.hasPrefix v.1 v.2)⟩
theorem J4u:Qd prog 126:=enters_of func126 (by kernel_rfl) rfl
theorem Qyp:Jv DV W0 prog 126 k126:=⟨rfl,λ(v:Bs×Bs)(r:Bool) h=>by cases h;refine K7 (vs0:=[.string (sB v.1),.string (sB v.2)]) (res:=TB (Lib.hasPrefix v.1 v.2)) (.bool (Lib.hasPrefix v.1 v.2)) J4u (λV w=>Jl Z) λS w hW=>?_;refine Calls.mono (Any.strings_HasPrefix Qgd (sB v.1) (sB v.2) w) ?_;rintro e w' ⟨rfl,rfl⟩;exact⟨Z,ExtM.refl _ _⟩⟩
def k146:KF UV:=⟨[.str,.str],[.str],λ(v:Bs×Bs)=>Qa (cond (Nat.ble v.1.length 1000000000) (cond (Nat.ble v.2.length 1000) (v.2.all λb=>decide (b.toNat<128)) false) false) (some (Lib.trimS v.1 v.2))⟩
theorem J4h:Qd prog 146:=enters_of func146 (by kernel_rfl) rfl
theorem Qyk:Jv DV W0 prog 146 k146:=⟨rfl,λ(v:Bs×Bs)(r:Bs) h=>by obtain⟨hg,h⟩:=Gw (show Qa _ _=some r from h);cases h;have h0:=C9 (J9 hg);have h1:=C9 (J9 (J5 hg));have h2:=J5 (J5 hg);refine K7 (vs0:=[.string (sB v.1),.string (sB v.2)]) (res:=TS (Lib.trimS v.1 v.2)) (.string (sB (Lib.trimS v.1 v.2))) J4h (λV w=>Jl Z) λS w hW=>?_;refine Calls.mono (Any.strings_Trim_laid Qcy (by kernel_rfl) (sB v.1) (sB v.2) w (by rw[Za];omega) (by rw[Za];omega) (ascii_of_all h2)) ?_;rintro e w' ⟨rfl,hb⟩;exact⟨Z,G8 hb⟩⟩
theorem J4g:Qd prog 147:=enters_of func147 (by kernel_rfl) rfl
def atK:FuncId->List (TAV UV)->Option (KR UV):=λf args=>cond (Nat.beq f 147) (match args with
 |[.one (.c (.str s))]=>some ⟨Int,Qa (cond (Nat.ble s.length 18) (Lib.atoi s).isSome false) (some ((Lib.atoi s).getD 0)),λn=>.tup [.one (.c (.v (.int .i64 n))),.one (.c (.v .nilIface))]⟩
 |_=>none) none
theorem J0y{a b:Value}{x y:AV}(h1:∀V w,x.rel V w a)(h2:∀V w,y.rel V w b):∀V w,(TV.tup [x,y]).rel V w (.tuple #[a,b]):=λV w=>
 ⟨#[a,b],rfl,rfl,λi z hz=>by
  match i,hz with
  |0,hz=>cases hz;exact⟨a,rfl,h1 V w⟩
  |1,hz=>cases hz;exact⟨b,rfl,h2 V w⟩⟩
theorem J5q:Q2n W0 DV prog atK:=by intro f args kr a h ha;unfold atK at h;cases hb:Nat.beq f 147 with|false=>rw[hb]at h;cases h|true=>rw[hb,C5]at h;have:=Cc hb;subst this;split at h;rename_i s;cases h;obtain⟨hg,h⟩:=Gw (show Qa _ _=some a from ha);have h0:=C9 (J9 hg);obtain⟨n,hn⟩:=Option.isSome_iff_exists.1 (J5 hg);(have e:a=n:=by have:(Lib.atoi s).getD 0=a:=Cw h;rw[<-this,hn];rfl);subst e;refine⟨[.one (.d (.v (.string (sB s))))],λtk=>.cons (.one (.d _)) .nil,λtk=>?_⟩;refine K7 (vs0:=[.string (sB s)]) (.tuple #[.int .i64 a,.nilIface]) J4g (J0y (λV w=>Reads.v _ Z) (λV w=>Reads.v _ Z)) λS w hW=>?_;refine Calls.mono (Any.strconv_Atoi Q0v (sB s) a (by rw[Za];exact h0) hn w) ?_;rintro e w' ⟨rfl,t,rfl⟩;exact⟨Z,G8 (Lib.bytesWorld_below _ _ _)⟩;cases h
theorem Qp8(xs:List (List UInt8))(sep:List UInt8)(h:(cond (Nat.ble xs.length 1000000) (Nat.ble (Lib.join xs sep).length 1000000000) false)=true):FunW (WT prog) prog 141 [.one (.d (.sl 1 (xs.map Q7z))),.one (K8 sep)] (TS (Lib.join xs sep)):=by
 have h0:=C9 (J9 h);have h1:=C9 (J5 h);have hmap:(xs.map sB).map (·.data.toList)=xs:=by rw[CL];have:((λx:ByteArray=>x.data.toList)∘sB)=id:=rfl;rw[this,List.map_id]
 refine⟨enters_of func141 (by kernel_rfl) rfl,λS w vs hS _ hargs=>?_⟩;obtain⟨u0,hu0,r0⟩:=hargs.2 0 _ rfl;obtain⟨u1,hu1,r1⟩:=hargs.2 1 _ rfl;have e1:u1=.string (sB sep):=by cases r1;rfl
 subst e1;have hvs:vs=#[u0,.string (sB sep)]:=by apply PO;intro k;match k with|0=>rw[hu0];rfl|1=>rw[hu1];rfl|k+2=>rw[P0 (by rw[hargs.1];simp)];simp
 rw[hvs];have fin:∀(e:Ending)(w':World),e=.returned (.string (sB (Lib.join xs sep)))/\Below w.heap.size w w'->∃v S',e=.returned v/\Xi w w'/\(∀b o,S b o->S' b o)/\(∀b o,S' b o->(S b o\/w.heap.size<=b)/\b<w'.heap.size)/\(TS (Lib.join xs sep)).rel (YY S') w' v:=λe w' ⟨he,hb⟩=>⟨_,S,he,G8 hb,λ_ _ h=>h,λb o h=>⟨.inl h,Ci (hS b o h) hb.size⟩,Jl rfl⟩;have rd:Reads S w (.sl 1 (xs.map Q7z)) u0:=r0;generalize hes:xs.map Q7z=es at rd;cases rd with
 |sl _ _ a cap b off f hcap ha hl hc hs hr=>
  subst hes;rw[Co]at hcap⊢;cases xs with
  |nil=>refine Calls.mono (Any.strings_Join_none Wr bx156 a cap (sB sep) w) ?_;rintro e w' ⟨rfl,rfl⟩;exact fin _ _ ⟨Z,Below.refl _ _⟩
  |cons x r=>
   have ha':=ha (by simp);subst ha';have hget:∀(j:Nat)(y:List UInt8),(x::r)[j]?=some y->w.cell? ⟨b,off+j,none⟩=some (.string (sB y))/\S b (off+j):=λj y hy=>by(have hj:((x::r).map Q7z)[j]?=some (Q7z y):=by rw[Cn,hy];rfl);have h3:=hc j (Q7z y) 0 _ hj rfl;have h4:=hs j (Q7z y) 0 _ hj rfl;have h5:=hr j (Q7z y) 0 _ hj rfl;rw[SE,Pk]at h3 h4;(have e5:f j 0=.string (sB y):=by generalize hfv:f j 0=fv at h5;cases h5;rfl);rw[e5]at h3;exact⟨h3,h4⟩
   have key:=Any.strings_Join Wr bx156 b off cap ((x::r).map sB) (sB sep) w (λj y hy=>by
    rw[Cn]at hy;cases hz:(x::r)[j]? with
    |none=>rw[hz]at hy;cases hy
    |some z=>rw[hz]at hy;cases hy;exact(hget j z hz).1) (hS _ _ (hget 0 x rfl).2) (by rw[Co];omega) (by rw[Co];exact hcap) (by rw[hmap];exact Cg h1 (by decide))
   rw[hmap,Co]at key;exact Calls.mono key fin
def k141:KF UV:=⟨[.sl .t9,.str],[.str],λ(v:List Bs×Bs)=>Qa (cond (Nat.ble v.1.length 1000000) (Nat.ble (Lib.join v.1 v.2).length 1000000000) false) (some (Lib.join v.1 v.2))⟩
theorem Qmg:Jv DV W0 prog 141 k141:=⟨rfl,λ(v:List Bs×Bs)(r:Bs) h=>by obtain⟨hg,h⟩:=Gw (show Qa _ _=some r from h);cases h;exact Qp8 v.1 v.2 hg⟩
def Qsq(n:Int):Option (List UInt8):=Qa (cond (decide (-9223372036854775808<=n)) (decide (n<=9223372036854775807)) false) (some (Lib.itoa n))
def Qih(s:List UInt8)(c:Int):Option Int:=some (Lib.indexByte s c.toNat.toUInt8)
def J7r(s p:List UInt8):Option Bool:=some (Lib.hasPrefix s p)
def Qid(s c:List UInt8):Option (List UInt8):=Qa (cond (Nat.ble s.length 1000000000) (cond (Nat.ble c.length 1000) (c.all λb=>decide (b.toNat<128)) false) false) (some (Lib.trimS s c))
def J7q(l:List (List UInt8))(s:List UInt8):Option (List UInt8):=Qa (cond (Nat.ble l.length 1000000) (Nat.ble (Lib.join l s).length 1000000000) false) (some (Lib.join l s))
theorem J57:Qd prog 112:=enters_of func112 (by kernel_rfl) rfl
theorem J9l:Qd prog 30:=enters_of func30 (by kernel_rfl) rfl
theorem J0n:UM W0 DV prog (Jbs DV 112 62):=J5i Qg J57 (λb w h=>Any.Builder_copyCheck_used Q0u bx156.toX72 b w h) (λb w h h2 h3=>Any.Builder_copyCheck_fresh Q0u bx156.toX72 b w h h2 h3)
def Jcv:BytR Jbu where
 rg:=λl=>(l:List Byt).all λx=>cond (decide (0<=x.n)) (decide (x.n<256)) false
 ok:=λl h=>by
  have key:∀l:List Byt,(l.all λx=>cond (decide (0<=x.n)) (decide (x.n<256)) false)=true->l.map bytC=bc (l.map Byt.u8):=λl h=>by
   unfold bc
   rw[CL]
   refine Cy λx hx=>?_
   have hx2:=Ch.1 h x hx
   have h0:0<=x.n:=CF (J9 hx2)
   have h1:x.n<256:=CF (J5 hx2)
   show[C.v (.int .u8 x.n)]=[C.v (.int .u8 ((UInt8.ofNat x.n.toNat).toNat:Int))]
   rw[UInt8.toNat_ofNat',Nat.mod_eq_of_lt (by omega),Pl h0]
  exact key l h
theorem J71:UM W0 DV prog (J10 DV 30 5 Jbu Jcv):=Qw0 Qg J9l λb g cap cur l w h1 h2 h3 h4 h5 h6 h7=>Q78 Qcw Qjx b g cap cur l w h1 h2 h3 h4 h5 h6 h7
end
end
end Go.Proofs.YtjcfppnjamjjhaaGreatDoor
