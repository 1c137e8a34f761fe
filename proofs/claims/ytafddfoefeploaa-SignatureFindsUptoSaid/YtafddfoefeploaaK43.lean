/- Part 3 of the proof: rules, mirrors and plain laws. The statement SignatureFindsUpto is proved here: for every list of declarations and every name the law returns true, and what it is given reads behind the call ars it did before; condition: the arguments are of bulk at most 1048576 (the second form). -/
import Derived.Test.YtafddfoefeploaaK42
import Derived.ProofKit
import Derived.Shelf.Abstract
set_option maxRecDepth 100000
set_option maxHeartbeats 2000000
set_option linter.unusedSimpArgs false
set_option linter.unusedVariables false
set_option linter.unusedSectionVars false
namespace Go.Proofs.Ytafddfoefeploaa
open Go.RowKit
section
variable {E:Env} {V:Vu} {hp:List (Nat×HB)} {tk:List (Nat×Option Tok)} {w:World}
theorem grow_alloc (h:HRel E V hp tk w) (o:Obj):X6 w (w.alloc o)∧V.Grow V w (w.alloc o):=by
 have hx:X6 w (w.alloc o):=⟨rfl,rfl,rfl,by simp,fun k hk _=>Below.heap_alloc w o k hk⟩
 exact ⟨hx,Nat.le_refl _,fun _ _=>rfl,fun _ _=>rfl,fun _ _ _ _=>rfl,fun _ _ h=>h,fun _ _ h=>.inl h,fun b o' hs=>Nat.lt_of_lt_of_le (h.sz b o' hs) hx.size⟩
theorem HRel.ownAt (h:HRel E V hp tk w) {i:Nat} (hi:i < V.nx) (hι:V.ι i=w.heap.size) (o:Obj) (B:HB) (hB:B.rel V (w.alloc o) o):HRel E V ((i,B)::hp) tk (w.alloc o):=by
 obtain ⟨hx,hg⟩:=grow_alloc h o
 have H:=h.later hx hg
 have hsize:∀ j A,lk hp j=some A→V.ι j < w.heap.size:=fun j A hj=>by
  obtain ⟨-,o1,ho1,-⟩:=h.own j A hj
  exact Zk ho1
 refine ⟨H.ext,H.le0,H.sz,H.sub,?_,?_,?_,?_,H.tki⟩
 ·intro j A hj
  rw [J7] at hj
  split at hj
  ·rename_i e;subst e;cases hj
   exact ⟨hi,o,by rw [hι];exact heap_alloc_new w o,hB⟩
  ·exact H.own j A hj
 ·intro j k A A' hj hk e
  rw [J7] at hj hk
  split at hj
  ·rename_i e1;subst e1
   split at hk
   ·assumption
   ·have:=hsize k A' hk;omega
  ·split at hk
   ·rename_i e2;subst e2
    have:=hsize j A hj;omega
   ·exact H.inj j k A A' hj hk e
 ·intro j A hj
  rw [J7] at hj
  split at hj
  ·rename_i e;subst e
   rw [hι]
   exact ⟨.inl h.ext.size,fun o' hs=>by have:=h.sz _ _ hs;omega⟩
  ·exact H.new j A hj
 ·intro j T hj
  obtain ⟨h1,hcu,xs,hown,hgg⟩:=H.tok j T hj
  refine ⟨h1,hcu,xs,hown,fun g hgb=>⟨(hgg g hgb).1,(hgg g hgb).2.1,fun k A hk=>?_⟩⟩
  rw [J7] at hk
  split at hk
  ·rename_i e;subst e
   obtain ⟨h1',hcu',xs',hown',-⟩:=h.tok j T hj
   have:=(hown'.1.lt g hgb).2
   omega
  ·exact (hgg g hgb).2.2 k A hk
theorem HRel.aside (h:HRel E V hp tk w) (o:Obj) (B:HB) (hB:∀ V':Vu,B.rel V' (w.alloc o) o) :
  HRel E ((V.add (w.heap.size+1)).add w.heap.size) ((V.nx+1,B)::hp) tk (w.alloc o)∧V.Le ((V.add (w.heap.size+1)).add w.heap.size) w (w.alloc o) ∧
  ((V.add (w.heap.size+1)).add w.heap.size).ι V.nx=(w.alloc o).heap.size∧((V.add (w.heap.size+1)).add w.heap.size).ι (V.nx+1)=w.heap.size:=by
 have hx0:X6 w w:=ExtM.refl _ _
 have hg0:=V.add_grow (w.heap.size+1) h.sz hx0
 have H0:=h.later hx0 hg0
 obtain ⟨hx,-⟩:=grow_alloc h o
 refine ⟨H0.addOwn o B (hB _),(h.le hx0 hg0).trans (H0.le hx ((V.add (w.heap.size+1)).add_grow w.heap.size H0.sz hx)),?_,(V.add (w.heap.size+1)).add_at _⟩
 show (if V.nx=V.nx+1 then w.heap.size else if V.nx=V.nx then w.heap.size+1 else V.ι V.nx)=_
 rw [if_neg (by omega),if_pos rfl,World.size_alloc]
end
theorem wpIn_alloc {E:Env} {dd:Option Tmp} {ty:TypeId} {pos:String} {af:Array Edge} {g:Option (Nat×Bool)} {t:TypeId} {zs:List Value} (hz:JQ E.P t=some zs) {a:Act} {w:World} {ro:Option Nat} {n:Nat} {K:Act→World→Prop} {Q:Exit→Act→World→Prop}
  (hK:K (a.put dd (.pointer (some ⟨w.heap.size,0,none⟩))) (w.alloc (.cells zs.toArray t))):Oper.wpIn (FR ro) n E.P (⟨dd,.alloc t,ty,pos,af,g⟩:Oper) a w K Q:=by
 refine ⟨fun _ _=>trivial,?_⟩
 rw [Oper.semAt_eq _ _ _ (by intro c h;cases h)]
 obtain ⟨z,hz1,hz2⟩:=Kl hz
 have hrun:(execOp a.eval ⟨dd,.alloc t,ty,pos,af,g⟩).run E.P w=.ok (.value (.pointer (some ⟨w.heap.size,0,none⟩))) (w.alloc (.cells zs.toArray t)):=by
  simp [execOp,Instr.alloc,hz1,newVar,newRow,hz2]
 rw [hrun]
 exact hK
abbrev Dl (t:TypeId) (zs:List Value):HB:=.cells t (zs.map fun z=>.d (.v z))
def PairOK (E:Env) (ops:Array Oper) (st:St) (fx:List (Nat×TV)) (effs:List Nat) (dns:List (List Nat)) (ms:List Mem) (js p q:Nat) (m:Mem):Prop :=
 ∃ (dp:Tmp) (tp typ:TypeId) (posp:String) (afp:Array Edge) (zp:List Value) (dq:Tmp) (tq tyq:TypeId) (posq:String) (afq:Array Edge) (zq:List Value) (j2:Nat) (d2:List Nat),
  ops[p]?=some ⟨some dp,.alloc tp,typ,posp,afp,none⟩∧ops[q]?=some ⟨some dq,.alloc tq,tyq,posq,afq,none⟩ ∧
  JQ E.P tp=some zp∧zp.all (·.oneCell')=true∧JQ E.P tq=some zq∧zq.all (·.oneCell')=true ∧
  lk fx p=some (.v (.one (.ptr st.nx 0)))∧lk fx q=some (.v (.one (.ptr (st.nx+1) 0)))∧X3 st (some dp)=true∧X3 st (some dq)=true∧effs.contains p=true∧effs.contains q=true ∧
  dns[js]?=some [q]∧ms[js]?=some m∧m=⟨(st.nx+1,Dl tq zq)::st.hp,st.tk,st.nx+2⟩ ∧
  dns[j2]?=some d2∧WB d2 [q] p=true∧ms[j2]?=some ⟨(st.nx+1,Dl tq zq)::(st.nx,Dl tp zp)::st.hp,st.tk,st.nx+2⟩
def RdOp (E:Env) (ops:Array Oper) (st:St) (fx:List (Nat×TV)) (i:Nat) (m:Mem):Prop :=
 ∃ o x,ops[i]?=some o∧lk fx i=some x∧X3 st o.dst=true ∧
  ((Yb ops (Y6 ops st fx i m).tm o=some true∧RO E o (Y6 ops st fx i m) x)∨(Yb ops (Y6 ops st fx i m).tm o=some false∧x=.tup []))
section
variable {E:Env} {ops:Array Oper} {st:St} {fx:List (Nat×TV)} {effs:List Nat} {dns:List (List Nat)} {ms:List Mem} {listed:Array Bool} {a:Act} {w:World} {V:Vu} {j:Nat} {d:List Nat} {m:Mem}
theorem XC.pairOrder {ro:Option Nat} {n:Nat} {Q:Exit→Act→World→Prop} {id:Nat} {ops:Array Oper} {st:St} (fx:List (Nat×TV)) (effs:List Nat) (dns:List (List Nat)) (ms:List Mem) (jE:Nat) {mE:Mem} (js p q:Nat) {mS:Mem} (hm:E.P.follows .mixedOrders=true) (hB:DY ops effs=true) (h0:ms[0]?=some st.mem) (hd0:dns[0]?=some []) (hE:ms[jE]?=some mE)
  (hfin:∀ (j:Nat) (d:List Nat),dns[j]?=some d→(∀ e∈effs,e∈d)→j=jE)
  (hops:∀ (i j:Nat) (d:List Nat) (m:Mem),i < ops.size→dns[j]?=some d→ms[j]?=some m→UR ops effs d i=true→d ≠ [q]→¬ (d=[]∧i=q)→SwOp E ops st fx effs dns ms i d m)
  (hP:PairOK E ops st fx effs dns ms js p q mS) (h0u:∀ j,dns[j]?=some []→j=0) (hsu:∀ j,dns[j]?=some [q]→j=js)
  (hrd:∀ i,i < ops.size→UR ops effs [q] i=true→i ≠ p→effs.contains i=false∧RdOp E ops st fx i mS)
  (k:XQ E Q .normal (UB ops st fx mE)):XC E ro n Q (.region id ops true) st:=by
 intro V a w hr
 obtain ⟨dp,tp,typ,posp,afp,zp,dq,tq,tyq,posq,afq,zq,j2,d2,hop,hoq,hzp,hzp1,hzq,hzq1,hfp,hfq,hdp,hdq,hcp,hcq,hds,hms,hmS,hd2,hs2,hm2⟩:=hP
 subst hmS
 have hjs0:js ≠ 0:=fun e=>by rw [e,hd0] at hds;cases hds
 refine Xl (wpIn_region_any hm ?_)
 have hr':=hr.drew
 have hB':=hB
 simp only [DY,Bool.and_eq_true,decide_eq_true_eq] at hB'
 obtain ⟨⟨hdag,-⟩,heff⟩:=hB'
 have hrdy:∀ listed:Array Bool,listed.size=ops.size→Region.ready .any ops listed=[]→∀ i,i < ops.size→listed.getD i false=true:=by
  intro listed hsz hrd i
  induction i using Nat.strongRecOn with
  | ind i ih =>
   intro hi
   cases hc:listed.getD i false with
   | true=>rfl
   | false =>
    exfalso
    have hnm:i∉Region.ready .any ops listed:=by rw [hrd];exact List.not_mem_nil
    refine hnm (mem_ready.2 ?_)
    obtain ⟨o,ho⟩:∃ o,ops[i]?=some o:=⟨_,Array.getElem?_eq_getElem hi⟩
    refine ⟨getD_in (by rw [hsz];exact hi) hc,o,ho,fun e he hb=>?_⟩
    have hem:e.on∈Y5 ops i:=(mem_edges ho).2 ⟨e,he,hb,rfl⟩
    have hlt:=List.all_eq_true.1 (List.all_eq_true.1 hdag i (by simpa using hi)) _ hem
    have hlt':e.on < i:=by simpa using hlt
    exact ih e.on hlt' (by omega)
 have fin:∀ (listed:Array Bool) (a:Act) (w:World) (V:Vu) (j:Nat) (d:List Nat) (m:Mem),SwInv E ops st fx effs dns ms listed a w V j d m→(∀ i,i < ops.size→listed.getD i false=true)→Q .normal a w:=by
  intro listed a w V j d m hI hall
  have hjk:j=jE:=hfin j d hI.stage fun e he=>by
   by_cases hed:e∈d
   ·exact hed
   ·exfalso
    have h2:=hI.todo e he hed
    have h3:=hall e (by simpa using List.all_eq_true.1 heff e he)
    rw [h2] at h3;cases h3
  subst hjk
  have e1:m=mE:=Option.some.inj (hI.mem.symm.trans hE)
  subst e1
  refine k V a w ⟨hI.rel.h,hI.rel.nx,hI.rel.nt,hI.rel.df,fun t x hx=>?_⟩
  simp only [UB,Ke] at hx
  split at hx
  ·rename_i y hy;cases hx
   obtain ⟨i,h1,h2,h3⟩:=GX _ t x hy
   exact hI.fact i (hall i (by simpa using h1)) t x h2 h3
  ·exact hI.rel.tm t x hx
 have main:∀ (fuel:Nat) (listed:Array Bool) (a:Act) (w:World) (V:Vu) (j:Nat) (d:List Nat) (m:Mem),SwInv E ops st fx effs dns ms listed a w V j d m →
   (j=js→V.ι st.nx=w.heap.size) →
   ops.size≤fuel+((List.range ops.size).filter fun i=>listed.getD i false).length→wpAnyIn (FR ro) n E.P .any ops Q fuel listed a w:=by
  intro fuel
  induction fuel with
  | zero =>
   intro listed a w V j d m hI _ hc
   have hall:∀ i,i < ops.size→listed.getD i false=true:=by
    intro i hi
    have h1:((List.range ops.size).filter fun i=>listed.getD i false).length=(List.range ops.size).length:=by
     have:=List.length_filter_le (fun i=>listed.getD i false) (List.range ops.size)
     simp only [List.length_range] at this ⊢;omega
    exact List.length_filter_eq_length_iff.1 h1 i (by simpa using hi)
   refine ⟨?_,fin listed a w V j d m hI hall⟩
   unfold Region.ready
   rw [List.filter_eq_nil_iff]
   intro i hi
   have hi':i < ops.size:=by simpa using hi
   have:listed.getD i true=true:=by
    have h1:=hall i hi'
    have:i < listed.size:=by rw [hI.size];exact hi'
    simp [this] at h1 ⊢;exact h1
   rw [this];simp
  | succ fuel ih =>
   intro listed a w V j d m hI hS hc
   refine ⟨fun hrd=>fin listed a w V j d m hI (hrdy listed hI.size hrd),fun i hi=>?_⟩
   obtain ⟨hun,o,ho,hdeps⟩:=mem_ready.1 hi
   have hlt:i < ops.size:=(Array.getElem?_eq_some_iff.1 ho).1
   have hno:listed.getD i false=false:=by
    have:i < listed.size:=by rw [hI.size];exact hlt
    simp [this] at hun ⊢;exact hun
   have hd:∀ k∈Y5 ops i,listed.getD k false=true:=fun k hk=>by
    obtain ⟨e,he,hb,rfl⟩:=(mem_edges ho).1 hk
    exact hdeps e he hb
   have hmay:=hI.may hlt hno hd
   have hrel:=hI.depsRel hno hd
   have hcnt:ops.size≤fuel+((List.range ops.size).filter fun i'=>(listed.setIfInBounds i true).getD i' false).length:=by
    have h1:((List.range ops.size).filter fun i=>listed.getD i false).length < ((List.range ops.size).filter fun i'=>(listed.setIfInBounds i true).getD i' false).length:=by
     have key:∀ (l:List Nat),l.Nodup→i∈l→(l.filter fun i=>listed.getD i false).length < (l.filter fun i'=>(listed.setIfInBounds i true).getD i' false).length:=by
      have hget:∀ k,(listed.setIfInBounds i true).getD k false=if k=i then true else listed.getD k false:=fun k=>by
       by_cases hk:k=i
       ·subst hk
        have:k < listed.size:=by rw [hI.size];exact hlt
        simp [this]
       ·rw [if_neg hk,getD_set_ne false (fun e=>hk e.symm)]
      have hle:∀ (l:List Nat),(l.filter fun i=>listed.getD i false).length≤(l.filter fun i'=>(listed.setIfInBounds i true).getD i' false).length:=by
       intro l
       induction l with
       | nil=>exact Nat.le_refl _
       | cons p l ih =>
        rw [List.filter_cons,List.filter_cons,hget]
        by_cases hp:p=i
        ·subst hp;rw [hno];simp only [if_true];rw [List.length_cons];simp only [Bool.false_eq_true,if_false];omega
        ·rw [if_neg hp];split <;> (try rw [List.length_cons,List.length_cons]) <;> omega
      intro l
      induction l with
      | nil=>intro _ h;cases h
      | cons p l ih =>
       intro hnd' hi'
       rw [List.nodup_cons] at hnd'
       rw [List.filter_cons,List.filter_cons,hget]
       rcases List.mem_cons.1 hi' with rfl | hi'
       ·rw [hno];simp only [if_true,Bool.false_eq_true,if_false];rw [List.length_cons];have:=hle l;omega
       ·have:=ih hnd'.2 hi'
        have hp:p ≠ i:=fun e=>hnd'.1 (by rw [e];exact hi')
        rw [if_neg hp];split <;> (try rw [List.length_cons,List.length_cons]) <;> omega
     exact key _ List.nodup_range (by simpa using hlt)
    omega
   unfold wpOpIn
   simp only [ho]
   by_cases hjs:j=js
   ·subst hjs
    have ed:d=[q]:=Option.some.inj (hI.stage.symm.trans hds)
    subst ed
    have em:m=_:=Option.some.inj (hI.mem.symm.trans hms)
    subst em
    have hι:=hS rfl
    by_cases hip:i=p
    ·subst hip
     rw [hop] at ho;cases ho
     rw [if_pos (YB (b:=true) hrel rfl)]
     refine wpIn_alloc hzp ?_
     have hqp:st.nx < V.nx:=by rw [hI.rel.nx];show st.nx < st.nx+2;omega
     have H:=hI.rel.h.ownAt hqp hι (.cells zp.toArray tp) (Dl tp zp) ⟨_,rfl,KQ hzp1⟩
     obtain ⟨hxa,hga⟩:=grow_alloc hI.rel.h (.cells zp.toArray tp)
     have hj2:j2 ≠ j:=fun e=>by
      subst e
      rw [hds] at hd2
      cases hd2
      simp only [UR,Bool.and_eq_true,Bool.not_eq_true'] at hmay
      simp only [WB,Bool.and_eq_true] at hs2
      rw [hs2.2] at hmay
      exact absurd hmay.2 Bool.noConfusion
     refine ih _ _ _ V j2 d2 _ (hI.step hB hlt hno hop hfp hdp (.inl ⟨hcp,hs2⟩) hd2 hm2 (H.congr (fun t=>?_) (fun _=>rfl)) hI.rel.nx (hI.rel.h.le hxa hga) ⟨hqp,by rw [hι]⟩ hd) (fun e=>absurd e hj2) hcnt
     simp only [J7]
     by_cases h1:st.nx=t
     ·have h2:¬ st.nx+1=t:=by omega
      repeat (first | rw [if_pos h1] | rw [if_neg h2])
     ·simp only [h1,if_false]
    ·obtain ⟨hce,o',x,ho',hx,hdst,hcase⟩:=hrd i hlt hmay hip
     rw [ho] at ho';cases ho'
     rcases hcase with ⟨hw,hro⟩ | ⟨hw,rfl⟩
     ·rw [if_pos (YB hrel hw)]
      exact wpIn_of_ro hro hrel fun v hxv=>ih _ _ _ V j _ _ (hI.step hB hlt hno ho hx hdst (.inr ⟨hce,Z⟩) hI.stage hI.mem hI.rel.h hI.rel.nx (Vu.Le.refl _ _) hxv hd) (fun _=>hι) hcnt
     ·rw [if_neg (by rw [YB hrel hw];exact Bool.false_ne_true)]
      exact ⟨fun _ _=>trivial,ih _ _ _ V j _ _ (hI.step hB hlt hno ho hx hdst (.inr ⟨hce,Z⟩) hI.stage hI.mem hI.rel.h hI.rel.nx (Vu.Le.refl _ _) XT hd) (fun _=>hι) hcnt⟩
   ·by_cases hfst:d=[]∧i=q
    ·obtain ⟨ed,ei⟩:=hfst
     subst ed;subst ei
     have ej:j=0:=h0u j hI.stage
     subst ej
     have em:m=st.mem:=Option.some.inj (hI.mem.symm.trans h0)
     subst em
     rw [hoq] at ho;cases ho
     rw [if_pos (YB (b:=true) hrel rfl)]
     refine wpIn_alloc hzq ?_
     obtain ⟨H,L,e1,e2⟩:=hI.rel.h.aside (.cells zq.toArray tq) (Dl tq zq) (fun V'=>⟨_,rfl,KQ hzq1⟩)
     have hnx:V.nx=st.nx:=hI.rel.nx
     rw [hnx] at H e1 e2
     refine ih _ _ _ _ js [i] _ (hI.step hB hlt hno hoq hfq hdq (.inl ⟨hcq,by simp [WB]⟩) hds hms H (by show V.nx+1+1=st.nx+2;omega) L ⟨by show st.nx+1 < V.nx+1+1;omega,by rw [e2]⟩ hd) (fun _=>e1) hcnt
    ·have hdq':d ≠ [q]:=fun e=>hjs (hsu j (by rw [← e];exact hI.stage))
     obtain ⟨o',x,ho',hx,hdst,hcase⟩:=hops i j d m hlt hI.stage hI.mem hmay hdq' hfst
     rw [ho] at ho';cases ho'
     rcases hcase with ⟨hw,m',hok,hm'⟩ | ⟨hw,rfl,hc'⟩
     ·rw [if_pos (YB hrel hw)]
      refine hok V a w hrel ro n _ Q (fun V' w' v H hn L hxv=>?_)
      rcases hm' with ⟨hce,j',d',hs1,hs2',hm'⟩ | ⟨hce,hm'⟩
      ·refine ih _ _ _ V' j' d' m' (hI.step hB hlt hno ho hx hdst (.inl ⟨hce,hs2'⟩) hs1 hm' H hn L hxv hd) (fun e=>?_) hcnt
       exfalso
       subst e
       rw [hds] at hs1;cases hs1
       simp only [WB,Bool.and_eq_true,List.contains_eq_mem,List.all_eq_true,decide_eq_true_eq,List.mem_singleton] at hs2'
       simp only [UR,Bool.and_eq_true,Bool.not_eq_true',List.contains_eq_mem,decide_eq_false_iff_not] at hmay
       refine hfst ⟨?_,hs2'.2⟩
       cases d with
       | nil=>rfl
       | cons y r =>
        exfalso
        have h1:=hs2'.1.2 y (by simp)
        exact hmay.2 (by rw [hs2'.2,← h1];simp)
      ·subst hm'
       exact ih _ _ _ V' j d m' (hI.step hB hlt hno ho hx hdst (.inr ⟨hce,Z⟩) hI.stage hI.mem H hn L hxv hd) (fun e=>absurd e hjs) hcnt
     ·rw [if_neg (by rw [YB hrel hw];exact Bool.false_ne_true)]
      exact ⟨fun _ _=>trivial,ih _ _ _ V j d m (hI.step hB hlt hno ho hx hdst (.inr ⟨hc',Z⟩) hI.stage hI.mem hI.rel.h hI.rel.nx (Vu.Le.refl _ _) XT hd) (fun e=>absurd e hjs) hcnt⟩
 refine main ops.size _ a _ V 0 [] st.mem ⟨by simp,fun i hi=>?_,hd0,fun e he=>by simp at he,fun e _ _=>getD_replicate_false _ _,h0,⟨hr'.h,hr'.nx,hr'.nt,hr'.df,fun t y hy=>hr'.tm t y (XW _ _ _ hy).1⟩,fun i hi=>?_,fun t y hy _=>hr'.tm t y hy⟩ (fun e=>absurd e.symm hjs0) (by omega)
 ·rw [getD_replicate_false] at hi;cases hi
 ·rw [getD_replicate_false] at hi;cases hi
end
section
variable {E:Env} {ops:Array Oper} {st:St} {effs:List Nat} {dns:List (List Nat)}
def AllRd (E:Env) (ops:Array Oper) (st:St) (fx:List (Nat×TV)) (m:Mem):List Nat→Prop
 | []=>True
 | i::r=>RdOp E ops st fx i m∧AllRd E ops st fx m r
theorem AllRd.get {fx:List (Nat×TV)} {m:Mem}:∀ {l:List Nat} {i:Nat},AllRd E ops st fx m l→l.contains i=true→RdOp E ops st fx i m
 | [],i,_,h=>by cases h
 | a::r,i,ha,h=>by
  simp only [List.contains_cons,Bool.or_eq_true,beq_iff_eq] at h
  rcases h with h | h
  ·cases h;exact ha.1
  ·exact AllRd.get ha.2 h
def exP (ops:Array Oper) (effs:List Nat) (dns:List (List Nat)) (ex:List (Nat×Nat)) (js q:Nat):Bool :=
 (List.range ops.size).all fun i=>(List.range dns.length).all fun j=>!(UR ops effs (dns.getD j []) i)||(j==js||(j==0&&i==q)||j==WG effs i||ex.contains (i,j))
def rdP (ops:Array Oper) (effs:List Nat) (p q:Nat) (rd:List Nat):Bool :=
 (List.range ops.size).all fun i=>!(UR ops effs [q] i)||(i==p||(rd.contains i&&!(effs.contains i)))
def onlyP (dns:List (List Nat)) (js q:Nat):Bool:=(List.range dns.length).all fun j=>(j==0||!((dns.getD j []).isEmpty))&&(j==js||!(dns.getD j []==[q]))
theorem XC.pairRun {ro:Option Nat} {n id:Nat} {Q:Exit→Act→World→Prop} (effs:List Nat) (dns:List (List Nat)) (ex:List (Nat×Nat)) (js p q:Nat) (rd:List Nat) (hm:E.P.follows .mixedOrders=true) (hB:DY ops effs=true) (hex:exP ops effs dns ex js q=true) (hrp:rdP ops effs p q rd=true) (hop:onlyP dns js q=true) (hho:homeS ops effs dns=true) (hfi:finS effs dns=true) (hd0:dns[0]?=some []) (hlen:((List.range' 0 ops.size).filter effs.contains).length=effs.length)
  (h:RunA E ops st effs (fun _ _ _=>False) (fun fx ms=>∃ xm:List Mem,AllSw E ops st effs dns fx (ms.reverse++xm) ex∧(∃ mS,PairOK E ops st fx effs dns (ms.reverse++xm) js p q mS∧AllRd E ops st fx mS rd)∧∃ mE r,ms=mE::r∧XQ E Q .normal (UB ops st fx mE)) (List.range' 0 ops.size) [] [st.mem]):XC E ro n Q (.region id ops true) st:=by
 have hB':=hB
 simp only [DY,Bool.and_eq_true] at hB'
 obtain ⟨⟨hdag,-⟩,-⟩:=hB'
 have hdag':∀ i,i < ops.size→∀ k∈Y5 ops i,k < i:=fun i hi k hk=>by
  have:=List.all_eq_true.1 (List.all_eq_true.1 hdag i (by simpa using hi)) k hk
  simpa using this
 obtain ⟨fx',ms',⟨xm,hall,⟨mS,hpair,hard⟩,mE,r,hmE,hQ⟩,-,hms,hrun⟩:=run_home hdag' _ 0 [] st.mem [] h (fun p hp=>by cases hp) (by rw [Nat.sub_zero]) (Nat.zero_le _)
 rw [List.append_nil] at hall hpair hard hQ
 rw [hlen] at hms
 have hl:((ms'++[st.mem]).reverse).length=effs.length+1:=by simp [hms]
 have hin:∀ {q:Nat} {m:Mem},(ms'++[st.mem]).reverse[q]?=some m→((ms'++[st.mem]).reverse++xm)[q]?=some m:=fun {q m} hq=>by
  rw [List.getElem?_append_left (List.getElem?_eq_some_iff.1 hq).1];exact hq
 refine XC.pairOrder fx' effs dns ((ms'++[st.mem]).reverse++xm) effs.length (mE:=mE) js p q (mS:=mS) hm hB (hin (by simp)) hd0 ?_ (fun j d hj hall=>?_) (fun i j d m hi hj hmj hmay hnq hn0=>?_) hpair (fun j hj=>?_) (fun j hj=>?_) (fun i hi hmay hip=>?_) hQ
 ·refine hin ?_
  rw [hmE]
  have:r.length=effs.length:=by have:=congrArg List.length hmE;simp at this;omega
  rw [List.reverse_cons,List.getElem?_append_right (by simp;omega)];simp [this]
 ·have hlt:=(List.getElem?_eq_some_iff.1 hj).1
  have h1:=List.all_eq_true.1 hfi j (by simpa using hlt)
  have hd:dns.getD j []=d:=by rw [List.getD_eq_getElem?_getD,hj];rfl
  rw [hd] at h1
  have h2:(effs.all fun e=>d.contains e)=true:=List.all_eq_true.2 fun e he=>by simpa using hall e he
  rw [h2] at h1
  simpa using h1
 ·have hlt:=(List.getElem?_eq_some_iff.1 hj).1
  have hd:dns.getD j []=d:=by rw [List.getD_eq_getElem?_getD,hj];rfl
  have h1:=List.all_eq_true.1 (List.all_eq_true.1 hex i (by simpa using hi)) j (by simpa using hlt)
  rw [hd,hmay] at h1
  have hjn:j ≠ js:=fun e=>by
   subst e
   obtain ⟨_,_,_,_,_,_,_,_,_,_,_,_,_,_,-,-,-,-,-,-,-,-,-,-,-,-,h9,-⟩:=hpair
   rw [hj] at h9
   exact hnq (Option.some.inj h9)
  have hjz:¬ (j=0∧i=q):=fun e=>by
   obtain ⟨rfl,rfl⟩:=e
   rw [hd0] at hj
   exact hn0 ⟨(Option.some.inj hj).symm,Z⟩
  simp only [Bool.not_true,Bool.false_or,Bool.or_eq_true,Bool.and_eq_true,beq_iff_eq] at h1
  replace h1:j=WG effs i∨ex.contains (i,j)=true:=by
   rcases h1 with ((h1 | h1) | h1) | h1
   ·exact absurd h1 hjn
   ·exact absurd h1 hjz
   ·exact .inl h1
   ·exact .inr h1
  rcases h1 with h1 | h1
  ·obtain ⟨mi,h2,o,x,h3,h4,h5,h6⟩:=hrun i (List.mem_range'_1.2 ⟨Nat.zero_le _,by omega⟩)
   rw [List.append_nil] at h4 h6
   simp only [List.length_nil,Nat.zero_add,Nat.sub_zero] at h2 h6
   replace h6:=Or.imp_right (fun h=>Or.resolve_right h (fun h=>h)) h6
   subst h1
   have e1:mi=m:=by
    have:=hin h2
    unfold WG at hmj
    rw [hmj] at this
    exact (Option.some.inj this).symm
   subst e1
   refine ⟨o,x,h3,h4,h5,?_⟩
   rcases h6 with ⟨h6,m',h7,h8⟩ | h6
   ·refine .inl ⟨h6,m',h7,?_⟩
    cases hc:effs.contains i with
    | false=>rw [hc] at h8;exact .inr ⟨rfl,by simpa using h8⟩
    | true =>
     rw [hc] at h8
     have h9:=List.all_eq_true.1 hho i (by simpa using hi)
     rw [hc,hj] at h9
     simp only [Bool.not_true,Bool.false_or] at h9
     split at h9
     ·rename_i d1 d2 e2 e3
      cases e2
      exact .inl ⟨rfl,WG effs i+1,d2,e3,h9,hin (by simpa [WG] using h8)⟩
     ·cases h9
   ·exact .inr h6
  ·obtain ⟨d',m',h2,h3,h4⟩:=hall.get h1
   rw [hj] at h2;cases h2
   rw [hmj] at h3;cases h3
   exact h4
 ·have hlt:=(List.getElem?_eq_some_iff.1 hj).1
  have h1:=List.all_eq_true.1 hop j (by simpa using hlt)
  rw [List.getD_eq_getElem?_getD,hj] at h1
  simp only [Option.getD_some,Bool.and_eq_true,Bool.or_eq_true,beq_iff_eq] at h1
  rcases h1.1 with h2 | h2
  ·exact h2
  ·simp at h2
 ·have hlt:=(List.getElem?_eq_some_iff.1 hj).1
  have h1:=List.all_eq_true.1 hop j (by simpa using hlt)
  rw [List.getD_eq_getElem?_getD,hj] at h1
  simp only [Option.getD_some,Bool.and_eq_true,Bool.or_eq_true,beq_iff_eq] at h1
  rcases h1.2 with h2 | h2
  ·exact h2
  ·simp at h2
 ·have h1:=List.all_eq_true.1 hrp i (by simpa using hi)
  rw [hmay] at h1
  simp only [Bool.not_true,Bool.false_or,Bool.or_eq_true,Bool.and_eq_true,beq_iff_eq,Bool.not_eq_true'] at h1
  rcases h1 with h1 | ⟨h1,h2⟩
  ·exact absurd h1 hip
  ·exact ⟨h2,AllRd.get hard h1⟩
end
end Go.Proofs.Ytafddfoefeploaa
namespace Go.Proofs.Ytafddfoefeploaa
open Go.RowKit Go.Shelf
theorem YK:J1 Try.prog 33 1=some 1:=by kernel_rfl
theorem Yy:J1 Try.prog 33 3=some 3:=by kernel_rfl
theorem XZ:J1 Try.prog 35 3=some 3:=by kernel_rfl
theorem fo_35_4:J1 Try.prog 35 4=some 4:=by kernel_rfl
theorem KL:J1 Try.prog 74 2=some 6:=by kernel_rfl
theorem KK:J1 Try.prog 76 2=some 6:=by kernel_rfl
theorem ZA:J1 Try.prog 87 0=some 0:=by kernel_rfl
theorem Yn:J1 Try.prog 87 1=some 1:=by kernel_rfl
theorem K4:JI Try.prog 30=some (false,1):=by kernel_rfl
theorem ag_42:JI Try.prog 42=some (true,7):=by kernel_rfl
theorem Zy:JI Try.prog 85=some (false,1):=by kernel_rfl
theorem K8:JI Try.prog 87=some (true,2):=by kernel_rfl
theorem Kf:JI Try.prog 124=some (true,2):=by kernel_rfl
theorem YV:JD Try.prog 30=some (87,2):=by kernel_rfl
theorem YU:JD Try.prog 85=some (124,2):=by kernel_rfl
theorem ib_4:X0 Try.prog 4=true:=by kernel_rfl
theorem ip_124:XN Try.prog 124=true:=by kernel_rfl
theorem en_18:QY Try.prog 18:=enters_of Try.func18 (by kernel_rfl) rfl
theorem en_19:QY Try.prog 19:=enters_of Try.func19 (by kernel_rfl) rfl
theorem en_22:QY Try.prog 22:=enters_of Try.func22 (by kernel_rfl) rfl
theorem en_27:QY Try.prog 27:=enters_of Try.func27 (by kernel_rfl) rfl
theorem en_35:QY Try.prog 35:=enters_of Try.func35 (by kernel_rfl) rfl
theorem en_36:QY Try.prog 36:=enters_of Try.func36 (by kernel_rfl) rfl
theorem en_42:QY Try.prog 42:=enters_of Try.func42 (by kernel_rfl) rfl
theorem en_54:QY Try.prog 54:=enters_of Try.func54 (by kernel_rfl) rfl
theorem en_61:QY Try.prog 61:=enters_of Try.func61 (by kernel_rfl) rfl
def WT (a0:Lvl) (a1:Lvl) (s1:Int):Option (LO Int (Unit⊕Bool)) :=
 cond (decide (s1 < (a0.vs.length:Int)))
   (Option.bind (JP a0.vs s1) fun (x5:LV) =>
 Option.bind (JP a1.vs s1) fun (x6:LV) =>
 cond (!((x5.1==x6.1)&&(x5.2==x6.2)))
   (some (.done (.inr false)))
   (some (.next (Ja (s1+1)))))
   (some (.done (.inl ())))
def m61 (a0:Lvl) (a1:Lvl):Option Bool :=
 Option.bind (cond (a0.c != a1.c)
   (some true)
   (some ((a0.vs.length:Int) != (a1.vs.length:Int)))) (fun (v1:Bool)=>cond v1
   (some false)
   (Option.bind (QE (WT a0 a1) QU 0) (Sum.elim (fun (o3:Unit)=>some true) (fun o=>some o))))
theorem m61_ok (a0:Lvl) (a1:Lvl) (r:Bool) (h0:m61 a0 a1=some r):Fun Try.prog 61 [.agg (cE a0),.agg (cE a1)] (QM [.one (dB r)]):=by
 unfold m61 at h0
 refine QB 9 38 Try.func61 Z en_61 Z (lb Z) (fun S w=>?_)
 simp only [J3]
 refine Q4<|Q0<|Qb Z Z (lb Z) (QN Z)<|Qb Z Z (lb Z) (QN Z)<|rA Z Z Z<|Q5<|Q3<|Q4<|Q4 ?_
 refine QD (fun (v1:Bool)=>⟨[(2,.v (.one (.ptr 0 0))),(3,.v (.one (.ptr 1 0))),(19,.v (.one (dB v1)))],[(0,.cells 87 (cE a0)),(1,.cells 87 (cE a1))],[],2,38,[]⟩) (fun (v1:Bool)=>(cond v1
     (some false)
     (Option.bind (QE (WT a0 a1) QU 0) (Sum.elim (fun (o3:Unit)=>some true) (fun o=>some o))))=some r) ?_ ?_
 refine Qd h0 (fun w1_ h1 h0=>?_)
 refine Q0<|rR Z Z Z (Q2 ZA Z)<|rR Z Z Z (Q6 QG Z Z Z)<|rR Z Z Z (Q2 ZA Z)<|rR Z Z Z (Q6 QG Z Z Z)<|rR Z Z Z (Q8 Z Z Z)<|rM Z Z Z ?_
 refine Qw (d:=11) (c:=(a0.c != a1.c)) Z (fun c2=>?_) (fun c2=>?_)
 replace h1:=Qf c2 h1
 refine Q7 Z Z<|Q7 Z Z<|Q7 Z Z<|Q7 Z Z<|Q7 Z Z<|Q7 Z Z<|Q7 Z Z<|rR Z Z Z (Qc Z Z)<|Q5 ?_
 have e:=sI h1;subst e
 exact Q9 true (sL (Nat.zero_le _) Z Z Z Z Z) h0
 replace h1:=Qg c2 h1
 refine rR Z Z Z (Q2 Yn Z)<|rR Z Z Z (Q6 Zy Z Z Z)<|rR Z Z Z (Qx (α:=LV) YU Z (.d _))<|rR Z Z Z (Q2 Yn Z)<|rR Z Z Z (Q6 Zy Z Z Z)<|rR Z Z Z (Qx (α:=LV) YU Z (.d _))<|rR Z Z Z (Q8 Z Z Z)<|rR Z Z Z (Qa Z Z)<|Q5 ?_
 have e:=sI h1;subst e
 exact Q9 ((a0.vs.length:Int) != (a1.vs.length:Int)) (sL (Nat.zero_le _) Z Z Z Z Z) h0
 intro v1 h0
 refine Q3 ?_
 refine Qe (b:=v1) Z (fun c3=>?_) (fun c3=>?_)
 replace h0:=Qf c3 h0
 refine Q4<|Q0<|rA Z Z Z<|Q5<|Q3<|Qp ?_
 have e:=sI h0;subst e
 exact Qn (fun _ _ h=>h) Z (Qm Z .nil) (.cons (.one (.d _)) .nil)
 replace h0:=Qg c3 h0
 refine Qj<|Q3<|Q4<|Q4<|Q0<|rA Z Z Z<|Q5<|Q3<|Ql ?_
 refine QQ 0 (fun (o4:Unit)=>⟨[],[(0,.cells 87 (cE a0)),(1,.cells 87 (cE a1))],[],2,38,[]⟩) (fun (o4:Unit)=>(some true)=some r) ?_ ?_
 refine Qd h0 (fun o5 hl1 h0=>?_)
 refine QP (WT a0 a1) (fun s1=>⟨[(2,.v (.one (.ptr 0 0))),(3,.v (.one (.ptr 1 0))),(5,.v (.one (dI s1)))],[(0,.cells 87 (cE a0)),(1,.cells 87 (cE a1))],[],2,38,[]⟩) 0 o5 (sL (Nat.zero_le _) Z Z Z Z Z) hl1 (fun s1 n1 oo1 h1 ho1=>?_)
 unfold WT at h1
 refine Q4<|Q4<|Q0<|rM Z Z Z<|rR Z Z Z (Q2 Yn Z)<|rR Z Z Z (Q6 Zy Z Z Z)<|rR Z Z Z (Qx (α:=LV) YU Z (.d _))<|rR Z Z Z (Q8 Z Z Z)<|Q5<|Q3 ?_
 refine Qe (b:=(decide (s1 < (a0.vs.length:Int)))) Z (fun c6=>?_) (fun c6=>?_)
 replace h1:=Qf c6 h1
 refine Qj<|Q3<|Q4<|Ql<|Q4 ?_
 refine J4 [] [] JV (by kernel_rfl) (by kernel_rfl) (by kernel_rfl) ?_
 refine RunA.rd Z Z Z (Q1 (Q2 Yn Z)) Z<|RunA.rd Z Z Z (Q1 (Q6 Zy Z Z Z)) Z<|RunA.rd Z Z Z (Q1 (Qq Z)) Z ?_
 refine Qd h1 (fun x7 hx7 h1=>?_)
 refine RunA.rd Z Z Z (Q1 (Qt (α:=LV) YU Z (.d _) Z hx7)) Z<|RunA.rd Z Z Z (Q1 (Qu (x7:LV) Kf Z)) Z<|RunA.rd Z Z Z (Q1 (Q2 Yn Z)) Z<|RunA.rd Z Z Z (Q1 (Q6 Zy Z Z Z)) Z<|RunA.rd Z Z Z (Q1 (Qq Z)) Z ?_
 refine Qd h1 (fun x8 hx8 h1=>?_)
 refine RunA.rd Z Z Z (Q1 (Qt (α:=LV) YU Z (.d _) Z hx8)) Z<|RunA.rd Z Z Z (Q1 (Qu (x8:LV) Kf Z)) Z<|RunA.rd Z Z Z (Q1 (RO.neqPair ip_124 Z Z)) Z ?_
 refine RunA.nil ⟨?ex,_,_,Z,?_⟩
 case ex=>exact trivial
 refine Jp (st':=⟨[(2,.v (.one (.ptr 0 0))),(3,.v (.one (.ptr 1 0))),(5,.v (.one (dI s1))),(37,.v (.one (dB (!((x7.1==x8.1)&&(x7.2==x8.2))))))],[(0,.cells 87 (cE a0)),(1,.cells 87 (cE a1))],[],2,38,[]⟩) (sL (Nat.zero_le _) Z Z Z Z Z)<|Q3 ?_
 refine Qe (b:=(!((x7.1==x8.1)&&(x7.2==x8.2)))) Z (fun c9=>?_) (fun c9=>?_)
 replace h1:=Qf c9 h1
 refine Q4<|Q0<|rA Z Z Z<|Q5<|Q3<|Qp ?_
 have e:=sI h1;subst e
 have e_:_=_:=ho1
 subst e_
 try dsimp only [Sum.elim_inl,Sum.elim_inr] at h0
 have e:=sI h0;subst e
 exact Qn (fun _ _ h=>h) Z (Qm Z .nil) (.cons (.one (.d _)) .nil)
 replace h1:=Qg c9 h1
 refine Qj<|Qk<|Q3<|Q0<|rM Z Z Z<|rR Z Z Z (Q8 Z Z Z)<|rA Z Z Z<|Q5 ?_
 have e:=sI h1;subst e
 refine QJ (Ja (s1+1)) (sL (Nat.zero_le _) Z Z Z Z Z) ho1
 replace h1:=Qg c6 h1
 refine QW<|Qr<|Qr ?_
 have e:=sI h1;subst e
 have e_:_=_:=ho1
 subst e_
 exact QO () (sL (Nat.zero_le _) Z Z Z Z Z) h0
 intro o4 h0
 refine QF<|Q3<|Q4<|Q0<|rA Z Z Z<|Q5<|Q3<|Qp ?_
 have e:=sI h0;subst e
 exact Qn (fun _ _ h=>h) Z (Qm Z .nil) (.cons (.one (.d _)) .nil)
def WW (a0:List Lvl) (a1:List Lvl) (s1:Int):Option (LO Int (Unit⊕Bool)) :=
 cond (decide (s1 < (a0.length:Int)))
   (Option.bind (JP a0 s1) fun (x4:Lvl) =>
 Option.bind (JP a1 s1) fun (x5:Lvl) =>
 Option.bind (m61 x4 x5) fun (x6:Bool) =>
 cond (!x6)
   (some (.done (.inr false)))
   (some (.next (Ja (s1+1)))))
   (some (.done (.inl ())))
def DK (a0:List Lvl) (a1:List Lvl):Option Bool :=
 cond ((a0.length:Int) != (a1.length:Int))
   (some false)
   (Option.bind (QE (WW a0 a1) QU 0) (Sum.elim (fun (o2:Unit)=>some true) (fun o=>some o)))
theorem m42_ok (a0:List Lvl) (a1:List Lvl) (r:Bool) (h0:DK a0 a1=some r):Fun Try.prog 42 [.one (dS a0),.one (dS a1)] (QM [.one (dB r)]):=by
 unfold DK at h0
 refine QB 9 27 Try.func42 Z en_42 Z (lb Z) (fun S w=>?_)
 simp only [J3]
 refine Q4<|Q0<|rA Z Z Z<|Q5<|Q3<|Q4<|Q4<|Q0<|rM Z Z Z<|rR Z Z Z (Qx (α:=Lvl) YV Z (.d _))<|rM Z Z Z<|rR Z Z Z (Qx (α:=Lvl) YV Z (.d _))<|rR Z Z Z (Q8 Z Z Z)<|Q5 ?_
 refine Q3 ?_
 refine Qe (b:=((a0.length:Int) != (a1.length:Int))) Z (fun c1=>?_) (fun c1=>?_)
 replace h0:=Qf c1 h0
 refine Q4<|Q0<|rA Z Z Z<|Q5<|Q3<|Qp ?_
 have e:=sI h0;subst e
 exact Qn (fun _ _ h=>h) Z (Qm Z .nil) (.cons (.one (.d _)) .nil)
 replace h0:=Qg c1 h0
 refine Qj<|Q3<|Q4<|Q4<|Q0<|rA Z Z Z<|Q5<|Q3<|Ql ?_
 refine QQ 0 (fun (o2:Unit)=>⟨[],[],[],0,27,[]⟩) (fun (o2:Unit)=>(some true)=some r) ?_ ?_
 refine Qd h0 (fun o3 hl1 h0=>?_)
 refine QP (WW a0 a1) (fun s1=>⟨[(0,.v (.one (dS a0))),(1,.v (.one (dS a1))),(5,.v (.one (dI s1)))],[],[],0,27,[]⟩) 0 o3 (sL (Nat.zero_le _) Z Z Z Z Z) hl1 (fun s1 n1 oo1 h1 ho1=>?_)
 unfold WW at h1
 refine Q4<|Q4<|Q0<|rM Z Z Z<|rM Z Z Z<|rR Z Z Z (Qx (α:=Lvl) YV Z (.d _))<|rR Z Z Z (Q8 Z Z Z)<|Q5<|Q3 ?_
 refine Qe (b:=(decide (s1 < (a0.length:Int)))) Z (fun c4=>?_) (fun c4=>?_)
 replace h1:=Qf c4 h1
 refine Qj<|Q3<|Q4<|Ql<|Q4 ?_
 refine J4 [] [] JV (by kernel_rfl) (by kernel_rfl) (by kernel_rfl) ?_
 refine RunA.rd Z Z Z (Q1 (Qq Z)) Z<|RunA.rd Z Z Z (Q1 (Qq Z)) Z ?_
 refine Qd h1 (fun x5 hx5 h1=>?_)
 refine RunA.rd Z Z Z (Q1 (Qt (α:=Lvl) YV Z (.d _) Z hx5)) Z<|RunA.rd Z Z Z (Q1 (Qu (x5:Lvl) K8 Z)) Z<|RunA.rd Z Z Z (Q1 (Qq Z)) Z<|RunA.rd Z Z Z (Q1 (Qq Z)) Z ?_
 refine Qd h1 (fun x6 hx6 h1=>?_)
 refine RunA.rd Z Z Z (Q1 (Qt (α:=Lvl) YV Z (.d _) Z hx6)) Z<|RunA.rd Z Z Z (Q1 (Qu (x6:Lvl) K8 Z)) Z ?_
 refine Qd h1 (fun x7 hx7 h1=>?_)
 refine RunA.rd Z Z Z (Qh (m61_ok x5 x6 x7 hx7) Z (.cons (.agg (.cons (.d _) (.cons (.d _) .nil))) (.cons (.agg (.cons (.d _) (.cons (.d _) .nil))) .nil))) Z<|RunA.rd Z Z Z (Q1 (Jc Z)) Z ?_
 refine RunA.nil ⟨?ex,_,_,Z,?_⟩
 case ex=>exact trivial
 refine Jp (st':=⟨[(0,.v (.one (dS a0))),(1,.v (.one (dS a1))),(5,.v (.one (dI s1))),(26,.v (.one (dB (!x7))))],[],[],0,27,[]⟩) (sL (Nat.zero_le _) Z Z Z Z Z)<|Q3 ?_
 refine Qe (b:=(!x7)) Z (fun c8=>?_) (fun c8=>?_)
 replace h1:=Qf c8 h1
 refine Q4<|Q0<|rA Z Z Z<|Q5<|Q3<|Qp ?_
 have e:=sI h1;subst e
 have e_:_=_:=ho1
 subst e_
 try dsimp only [Sum.elim_inl,Sum.elim_inr] at h0
 have e:=sI h0;subst e
 exact Qn (fun _ _ h=>h) Z (Qm Z .nil) (.cons (.one (.d _)) .nil)
 replace h1:=Qg c8 h1
 refine Qj<|Qk<|Q3<|Q0<|rM Z Z Z<|rR Z Z Z (Q8 Z Z Z)<|rA Z Z Z<|Q5 ?_
 have e:=sI h1;subst e
 refine QJ (Ja (s1+1)) (sL (Nat.zero_le _) Z Z Z Z Z) ho1
 replace h1:=Qg c4 h1
 refine QW<|Qr<|Qr ?_
 have e:=sI h1;subst e
 have e_:_=_:=ho1
 subst e_
 exact QO () (sL (Nat.zero_le _) Z Z Z Z Z) h0
 intro o2 h0
 refine QF<|Q3<|Q4<|Q0<|rA Z Z Z<|Q5<|Q3<|Qp ?_
 have e:=sI h0;subst e
 exact Qn (fun _ _ h=>h) Z (Qm Z .nil) (.cons (.one (.d _)) .nil)
def Xc (a0:Tm) (a1:Tm) (rc:Tm×Tm→Option Bool) (s1:Int):Option (LO Int (Unit⊕Bool)) :=
 cond (decide (s1 < (a0.kids.length:Int)))
   (Option.bind (JP a0.kids s1) fun (x5:Tm) =>
 Option.bind (JP a1.kids s1) fun (x6:Tm) =>
 Option.bind (rc (x5,x6)) fun (x7:Bool) =>
 cond (!x7)
   (some (.done (.inr false)))
   (some (.next (Ja (s1+1)))))
   (some (.done (.inl ())))
def D7 (rc:Tm×Tm→Option Bool) (a0:Tm) (a1:Tm):Option Bool :=
 Option.bind (cond (a0.kind != a1.kind)
   (some true)
   (cond (a0.index != a1.index)
   (some true)
   (cond (!(a0.name==a1.name))
   (some true)
   (Option.bind (DK a0.levels a1.levels) fun (x5:Bool) =>
 cond (!x5)
   (some true)
   (some ((a0.kids.length:Int) != (a1.kids.length:Int))))))) (fun (v1:Bool)=>cond v1
   (some false)
   (Option.bind (QE (Xc a0 a1 rc) QU 0) (Sum.elim (fun (o3:Unit)=>some true) (fun o=>some o))))
def m27F (rc:Tm×Tm→Option Bool) (u:Tm×Tm):Option Bool:=D7 rc u.1 u.2
def D8 (a0:Tm) (a1:Tm):Option Bool:=JR m27F QU (a0,a1)
theorem m27s_ok (rc:Tm×Tm→Option Bool) (H:∀ (a0:Tm) (a1:Tm) (r:Bool),rc (a0,a1)=some r→Fun Try.prog 27 [.agg (cE a0),.agg (cE a1)] (QM [.one (dB r)])) (a0:Tm) (a1:Tm) (r:Bool) (h0:D7 rc a0 a1=some r):Fun Try.prog 27 [.agg (cE a0),.agg (cE a1)] (QM [.one (dB r)]):=by
 unfold D7 at h0
 refine QB 9 61 Try.func27 Z en_27 Z (lb Z) (fun S w=>?_)
 simp only [J3]
 refine Q4<|Q0<|Qb Z Z (lb Z) (QN Z)<|Qb Z Z (lb Z) (QN Z)<|rA Z Z Z<|Q5<|Q3<|Q4<|Q4 ?_
 refine QD (fun (v1:Bool)=>⟨[(2,.v (.one (.ptr 0 0))),(3,.v (.one (.ptr 1 0))),(41,.v (.one (dB v1)))],[(0,.cells 33 (cE a0)),(1,.cells 33 (cE a1))],[],2,61,[]⟩) (fun (v1:Bool)=>(cond v1
     (some false)
     (Option.bind (QE (Xc a0 a1 rc) QU 0) (Sum.elim (fun (o3:Unit)=>some true) (fun o=>some o))))=some r) ?_ ?_
 refine Qd h0 (fun w1_ h1 h0=>?_)
 refine Q0<|rR Z Z Z (Q2 JF Z)<|rR Z Z Z (Q6 QG Z Z Z)<|rR Z Z Z (Q2 JF Z)<|rR Z Z Z (Q6 QG Z Z Z)<|rR Z Z Z (Q8 Z Z Z)<|rM Z Z Z ?_
 refine Qw (d:=11) (c:=(a0.kind != a1.kind)) Z (fun c2=>?_) (fun c2=>?_)
 replace h1:=Qf c2 h1
 refine Q7 Z Z<|Q7 Z Z<|Q7 Z Z<|Q7 Z Z<|Q7 Z Z<|rR Z Z Z (Qc Z Z)<|rM Z Z Z<|Q7 Z Z<|Q7 Z Z<|Q7 Z Z<|Q7 Z Z<|Q7 Z Z<|rR Z Z Z (Qc Z Z)<|rM Z Z Z ?_
 refine Q7 Z Z<|Q7 Z Z<|Q7 Z Z<|Q7 Z Z<|Q7 Z Z<|Q7 Z Z<|rR Z Z Z (Qc Z Z)<|rM Z Z Z<|Q7 Z Z<|Q7 Z Z<|Q7 Z Z<|Q7 Z Z<|Q7 Z Z<|Q7 Z Z ?_
 refine Q7 Z Z<|rR Z Z Z (Qc Z Z)<|Q5 ?_
 have e:=sI h1;subst e
 exact Q9 true (sL (Nat.zero_le _) Z Z Z Z Z) h0
 replace h1:=Qg c2 h1
 refine rR Z Z Z (Q2 YK Z)<|rR Z Z Z (Q6 QG Z Z Z)<|rR Z Z Z (Q2 YK Z)<|rR Z Z Z (Q6 QG Z Z Z)<|rR Z Z Z (Q8 Z Z Z)<|rR Z Z Z (Qa Z Z)<|rM Z Z Z ?_
 refine Qw (d:=18) (c:=(a0.index != a1.index)) Z (fun c3=>?_) (fun c3=>?_)
 replace h1:=Qf c3 h1
 refine Q7 Z Z<|Q7 Z Z<|Q7 Z Z<|Q7 Z Z<|Q7 Z Z<|rR Z Z Z (Qc Z Z)<|rM Z Z Z<|Q7 Z Z<|Q7 Z Z<|Q7 Z Z<|Q7 Z Z<|Q7 Z Z<|Q7 Z Z<|rR Z Z Z (Qc Z Z) ?_
 refine rM Z Z Z<|Q7 Z Z<|Q7 Z Z<|Q7 Z Z<|Q7 Z Z<|Q7 Z Z<|Q7 Z Z<|Q7 Z Z<|rR Z Z Z (Qc Z Z)<|Q5 ?_
 have e:=sI h1;subst e
 exact Q9 true (sL (Nat.zero_le _) Z Z Z Z Z) h0
 replace h1:=Qg c3 h1
 refine rR Z Z Z (Q2 Zb Z)<|rR Z Z Z (Q6 JG Z Z Z)<|rR Z Z Z (Q2 Zb Z)<|rR Z Z Z (Q6 JG Z Z Z)<|rR Z Z Z (Wy Z Z)<|rR Z Z Z (Qa Z Z)<|rM Z Z Z ?_
 refine Qw (d:=25) (c:=(!(a0.name==a1.name))) Z (fun c4=>?_) (fun c4=>?_)
 replace h1:=Qf c4 h1
 refine Q7 Z Z<|Q7 Z Z<|Q7 Z Z<|Q7 Z Z<|Q7 Z Z<|Q7 Z Z<|rR Z Z Z (Qc Z Z)<|rM Z Z Z<|Q7 Z Z<|Q7 Z Z<|Q7 Z Z<|Q7 Z Z<|Q7 Z Z<|Q7 Z Z ?_
 refine Q7 Z Z<|rR Z Z Z (Qc Z Z)<|Q5 ?_
 have e:=sI h1;subst e
 exact Q9 true (sL (Nat.zero_le _) Z Z Z Z Z) h0
 replace h1:=Qg c4 h1
 refine rR Z Z Z (Q2 Yy Z)<|rR Z Z Z (Q6 K4 Z Z Z)<|rR Z Z Z (Q2 Yy Z)<|rR Z Z Z (Q6 K4 Z Z Z) ?_
 refine Qd h1 (fun x5 hx5 h1=>?_)
 refine Qb Z Z (lb Z) (Qh (m42_ok a0.levels a1.levels x5 hx5) Z (.cons (.one (.d _)) (.cons (.one (.d _)) .nil)))<|rR Z Z Z (Jc Z)<|rR Z Z Z (Qa Z Z)<|rM Z Z Z ?_
 refine Qw (d:=33) (c:=(!x5)) Z (fun c6=>?_) (fun c6=>?_)
 replace h1:=Qf c6 h1
 refine Q7 Z Z<|Q7 Z Z<|Q7 Z Z<|Q7 Z Z<|Q7 Z Z<|Q7 Z Z<|Q7 Z Z<|rR Z Z Z (Qc Z Z)<|Q5 ?_
 have e:=sI h1;subst e
 exact Q9 true (sL (Nat.zero_le _) Z Z Z Z Z) h0
 replace h1:=Qg c6 h1
 refine rR Z Z Z (Q2 Jv Z)<|rR Z Z Z (Q6 JH Z Z Z)<|rR Z Z Z (Qx (α:=Tm) Jk Z (.d _))<|rR Z Z Z (Q2 Jv Z)<|rR Z Z Z (Q6 JH Z Z Z)<|rR Z Z Z (Qx (α:=Tm) Jk Z (.d _))<|rR Z Z Z (Q8 Z Z Z)<|rR Z Z Z (Qa Z Z)<|Q5 ?_
 have e:=sI h1;subst e
 exact Q9 ((a0.kids.length:Int) != (a1.kids.length:Int)) (sL (Nat.zero_le _) Z Z Z Z Z) h0
 intro v1 h0
 refine Q3 ?_
 refine Qe (b:=v1) Z (fun c7=>?_) (fun c7=>?_)
 replace h0:=Qf c7 h0
 refine Q4<|Q0<|rA Z Z Z<|Q5<|Q3<|Qp ?_
 have e:=sI h0;subst e
 exact Qn (fun _ _ h=>h) Z (Qm Z .nil) (.cons (.one (.d _)) .nil)
 replace h0:=Qg c7 h0
 refine Qj<|Q3<|Q4<|Q4<|Q0<|rA Z Z Z<|Q5<|Q3<|Ql ?_
 refine QQ 0 (fun (o8:Unit)=>⟨[],[(0,.cells 33 (cE a0)),(1,.cells 33 (cE a1))],[],2,61,[]⟩) (fun (o8:Unit)=>(some true)=some r) ?_ ?_
 refine Qd h0 (fun o9 hl1 h0=>?_)
 refine QP (Xc a0 a1 rc) (fun s1=>⟨[(2,.v (.one (.ptr 0 0))),(3,.v (.one (.ptr 1 0))),(5,.v (.one (dI s1)))],[(0,.cells 33 (cE a0)),(1,.cells 33 (cE a1))],[],2,61,[]⟩) 0 o9 (sL (Nat.zero_le _) Z Z Z Z Z) hl1 (fun s1 n1 oo1 h1 ho1=>?_)
 unfold Xc at h1
 refine Q4<|Q4<|Q0<|rM Z Z Z<|rR Z Z Z (Q2 Jv Z)<|rR Z Z Z (Q6 JH Z Z Z)<|rR Z Z Z (Qx (α:=Tm) Jk Z (.d _))<|rR Z Z Z (Q8 Z Z Z)<|Q5<|Q3 ?_
 refine Qe (b:=(decide (s1 < (a0.kids.length:Int)))) Z (fun c10=>?_) (fun c10=>?_)
 replace h1:=Qf c10 h1
 refine Qj<|Q3<|Q4<|Ql<|Q4 ?_
 refine J4 [] [] JV (by kernel_rfl) (by kernel_rfl) (by kernel_rfl) ?_
 refine RunA.rd Z Z Z (Q1 (Q2 Jv Z)) Z<|RunA.rd Z Z Z (Q1 (Q6 JH Z Z Z)) Z<|RunA.rd Z Z Z (Q1 (Qq Z)) Z ?_
 refine Qd h1 (fun x11 hx11 h1=>?_)
 refine RunA.rd Z Z Z (Q1 (Qt (α:=Tm) Jk Z (.d _) Z hx11)) Z<|RunA.rd Z Z Z (Q1 (Qu (x11:Tm) QR Z)) Z<|RunA.rd Z Z Z (Q1 (Q2 Jv Z)) Z<|RunA.rd Z Z Z (Q1 (Q6 JH Z Z Z)) Z<|RunA.rd Z Z Z (Q1 (Qq Z)) Z ?_
 refine Qd h1 (fun x12 hx12 h1=>?_)
 refine RunA.rd Z Z Z (Q1 (Qt (α:=Tm) Jk Z (.d _) Z hx12)) Z<|RunA.rd Z Z Z (Q1 (Qu (x12:Tm) QR Z)) Z ?_
 refine Qd h1 (fun x13 hx13 h1=>?_)
 refine RunA.rd Z Z Z (Qh (H x11 x12 x13 hx13) Z (.cons (.agg (.cons (.d _) (.cons (.d _) (.cons (.d _) (.cons (.d _) (.cons (.d _) .nil)))))) (.cons (.agg (.cons (.d _) (.cons (.d _) (.cons (.d _) (.cons (.d _) (.cons (.d _) .nil)))))) .nil))) Z<|RunA.rd Z Z Z (Q1 (Jc Z)) Z ?_
 refine RunA.nil ⟨?ex,_,_,Z,?_⟩
 case ex=>exact trivial
 refine Jp (st':=⟨[(2,.v (.one (.ptr 0 0))),(3,.v (.one (.ptr 1 0))),(5,.v (.one (dI s1))),(60,.v (.one (dB (!x13))))],[(0,.cells 33 (cE a0)),(1,.cells 33 (cE a1))],[],2,61,[]⟩) (sL (Nat.zero_le _) Z Z Z Z Z)<|Q3 ?_
 refine Qe (b:=(!x13)) Z (fun c14=>?_) (fun c14=>?_)
 replace h1:=Qf c14 h1
 refine Q4<|Q0<|rA Z Z Z<|Q5<|Q3<|Qp ?_
 have e:=sI h1;subst e
 have e_:_=_:=ho1
 subst e_
 try dsimp only [Sum.elim_inl,Sum.elim_inr] at h0
 have e:=sI h0;subst e
 exact Qn (fun _ _ h=>h) Z (Qm Z .nil) (.cons (.one (.d _)) .nil)
 replace h1:=Qg c14 h1
 refine Qj<|Qk<|Q3<|Q0<|rM Z Z Z<|rR Z Z Z (Q8 Z Z Z)<|rA Z Z Z<|Q5 ?_
 have e:=sI h1;subst e
 refine QJ (Ja (s1+1)) (sL (Nat.zero_le _) Z Z Z Z Z) ho1
 replace h1:=Qg c10 h1
 refine QW<|Qr<|Qr ?_
 have e:=sI h1;subst e
 have e_:_=_:=ho1
 subst e_
 exact QO () (sL (Nat.zero_le _) Z Z Z Z Z) h0
 intro o8 h0
 refine QF<|Q3<|Q4<|Q0<|rA Z Z Z<|Q5<|Q3<|Qp ?_
 have e:=sI h0;subst e
 exact Qn (fun _ _ h=>h) Z (Qm Z .nil) (.cons (.one (.d _)) .nil)
theorem m27_all (n:Nat) (u:Tm×Tm) (r:Bool) (h0:JR m27F n u=some r):Fun Try.prog 27 [.agg (cE u.1),.agg (cE u.2)] (QM [.one (dB r)]) :=
 YN (C:=fun u r=>Fun Try.prog 27 [.agg (cE u.1),.agg (cE u.2)] (QM [.one (dB r)])) (fun rc H u r h=>m27s_ok rc (fun a0 a1 r h=>H (a0,a1) r h) u.1 u.2 r h) n u r h0
theorem GE (a0:Tm) (a1:Tm) (r:Bool) (h0:D8 a0 a1=some r):Fun Try.prog 27 [.agg (cE a0),.agg (cE a1)] (QM [.one (dB r)]):=m27_all QU (a0,a1) r h0
def Ul (a0:List Tm) (a1:List Tm) (s1:Int):Option (LO Int (Unit⊕Bool)) :=
 cond (decide (s1 < (a0.length:Int)))
   (Option.bind (JP a0 s1) fun (x4:Tm) =>
 Option.bind (JP a1 s1) fun (x5:Tm) =>
 Option.bind (D8 x4 x5) fun (x6:Bool) =>
 cond (!x6)
   (some (.done (.inr false)))
   (some (.next (Ja (s1+1)))))
   (some (.done (.inl ())))
def m54 (a0:List Tm) (a1:List Tm):Option Bool :=
 cond ((a0.length:Int) != (a1.length:Int))
   (some false)
   (Option.bind (QE (Ul a0 a1) QU 0) (Sum.elim (fun (o2:Unit)=>some true) (fun o=>some o)))
theorem m54_ok (a0:List Tm) (a1:List Tm) (r:Bool) (h0:m54 a0 a1=some r):Fun Try.prog 54 [.one (dS a0),.one (dS a1)] (QM [.one (dB r)]):=by
 unfold m54 at h0
 refine QB 9 27 Try.func54 Z en_54 Z (lb Z) (fun S w=>?_)
 simp only [J3]
 refine Q4<|Q0<|rA Z Z Z<|Q5<|Q3<|Q4<|Q4<|Q0<|rM Z Z Z<|rR Z Z Z (Qx (α:=Tm) Jk Z (.d _))<|rM Z Z Z<|rR Z Z Z (Qx (α:=Tm) Jk Z (.d _))<|rR Z Z Z (Q8 Z Z Z)<|Q5 ?_
 refine Q3 ?_
 refine Qe (b:=((a0.length:Int) != (a1.length:Int))) Z (fun c1=>?_) (fun c1=>?_)
 replace h0:=Qf c1 h0
 refine Q4<|Q0<|rA Z Z Z<|Q5<|Q3<|Qp ?_
 have e:=sI h0;subst e
 exact Qn (fun _ _ h=>h) Z (Qm Z .nil) (.cons (.one (.d _)) .nil)
 replace h0:=Qg c1 h0
 refine Qj<|Q3<|Q4<|Q4<|Q0<|rA Z Z Z<|Q5<|Q3<|Ql ?_
 refine QQ 0 (fun (o2:Unit)=>⟨[],[],[],0,27,[]⟩) (fun (o2:Unit)=>(some true)=some r) ?_ ?_
 refine Qd h0 (fun o3 hl1 h0=>?_)
 refine QP (Ul a0 a1) (fun s1=>⟨[(0,.v (.one (dS a0))),(1,.v (.one (dS a1))),(5,.v (.one (dI s1)))],[],[],0,27,[]⟩) 0 o3 (sL (Nat.zero_le _) Z Z Z Z Z) hl1 (fun s1 n1 oo1 h1 ho1=>?_)
 unfold Ul at h1
 refine Q4<|Q4<|Q0<|rM Z Z Z<|rM Z Z Z<|rR Z Z Z (Qx (α:=Tm) Jk Z (.d _))<|rR Z Z Z (Q8 Z Z Z)<|Q5<|Q3 ?_
 refine Qe (b:=(decide (s1 < (a0.length:Int)))) Z (fun c4=>?_) (fun c4=>?_)
 replace h1:=Qf c4 h1
 refine Qj<|Q3<|Q4<|Ql<|Q4 ?_
 refine J4 [] [] JV (by kernel_rfl) (by kernel_rfl) (by kernel_rfl) ?_
 refine RunA.rd Z Z Z (Q1 (Qq Z)) Z<|RunA.rd Z Z Z (Q1 (Qq Z)) Z ?_
 refine Qd h1 (fun x5 hx5 h1=>?_)
 refine RunA.rd Z Z Z (Q1 (Qt (α:=Tm) Jk Z (.d _) Z hx5)) Z<|RunA.rd Z Z Z (Q1 (Qu (x5:Tm) QR Z)) Z<|RunA.rd Z Z Z (Q1 (Qq Z)) Z<|RunA.rd Z Z Z (Q1 (Qq Z)) Z ?_
 refine Qd h1 (fun x6 hx6 h1=>?_)
 refine RunA.rd Z Z Z (Q1 (Qt (α:=Tm) Jk Z (.d _) Z hx6)) Z<|RunA.rd Z Z Z (Q1 (Qu (x6:Tm) QR Z)) Z ?_
 refine Qd h1 (fun x7 hx7 h1=>?_)
 refine RunA.rd Z Z Z (Qh (GE x5 x6 x7 hx7) Z (.cons (.agg (.cons (.d _) (.cons (.d _) (.cons (.d _) (.cons (.d _) (.cons (.d _) .nil)))))) (.cons (.agg (.cons (.d _) (.cons (.d _) (.cons (.d _) (.cons (.d _) (.cons (.d _) .nil)))))) .nil))) Z<|RunA.rd Z Z Z (Q1 (Jc Z)) Z ?_
 refine RunA.nil ⟨?ex,_,_,Z,?_⟩
 case ex=>exact trivial
 refine Jp (st':=⟨[(0,.v (.one (dS a0))),(1,.v (.one (dS a1))),(5,.v (.one (dI s1))),(26,.v (.one (dB (!x7))))],[],[],0,27,[]⟩) (sL (Nat.zero_le _) Z Z Z Z Z)<|Q3 ?_
 refine Qe (b:=(!x7)) Z (fun c8=>?_) (fun c8=>?_)
 replace h1:=Qf c8 h1
 refine Q4<|Q0<|rA Z Z Z<|Q5<|Q3<|Qp ?_
 have e:=sI h1;subst e
 have e_:_=_:=ho1
 subst e_
 try dsimp only [Sum.elim_inl,Sum.elim_inr] at h0
 have e:=sI h0;subst e
 exact Qn (fun _ _ h=>h) Z (Qm Z .nil) (.cons (.one (.d _)) .nil)
 replace h1:=Qg c8 h1
 refine Qj<|Qk<|Q3<|Q0<|rM Z Z Z<|rR Z Z Z (Q8 Z Z Z)<|rA Z Z Z<|Q5 ?_
 have e:=sI h1;subst e
 refine QJ (Ja (s1+1)) (sL (Nat.zero_le _) Z Z Z Z Z) ho1
 replace h1:=Qg c4 h1
 refine QW<|Qr<|Qr ?_
 have e:=sI h1;subst e
 have e_:_=_:=ho1
 subst e_
 exact QO () (sL (Nat.zero_le _) Z Z Z Z Z) h0
 intro o2 h0
 refine QF<|Q3<|Q4<|Q0<|rA Z Z Z<|Q5<|Q3<|Qp ?_
 have e:=sI h0;subst e
 exact Qn (fun _ _ h=>h) Z (Qm Z .nil) (.cons (.one (.d _)) .nil)
def m35 (a0:Rcr) (a1:Rcr):Option Bool :=
 Option.bind (cond (a0.params==a1.params)
   (Option.bind (D8 a0.ty a1.ty) fun (x3:Bool) =>
 cond x3
   (Option.bind (m54 a0.rules a1.rules) fun (x5:Bool) =>
 some x5)
   (some false))
   (some false)) (fun (v1:Bool)=>some v1)
theorem m35_ok (a0:Rcr) (a1:Rcr) (r:Bool) (h0:m35 a0 a1=some r):Fun Try.prog 35 [.agg (cE a0),.agg (cE a1)] (QM [.one (dB r)]):=by
 unfold m35 at h0
 refine QB 9 24 Try.func35 Z en_35 Z (lb Z) (fun S w=>?_)
 simp only [J3]
 refine Q4<|Q0<|Qb Z Z (lb Z) (QN Z)<|Qb Z Z (lb Z) (QN Z)<|rA Z Z Z<|Q5<|Q3<|Q4 ?_
 refine QD (fun (v1:Bool)=>⟨[(4,.v (.one (dB v1)))],[(0,.cells 42 (cE a0)),(1,.cells 42 (cE a1))],[],2,24,[]⟩) (fun (v1:Bool)=>(some v1)=some r) ?_ ?_
 refine Qd h0 (fun w1_ h1 h0=>?_)
 refine Q0<|rR Z Z Z (Q2 YJ Z)<|rR Z Z Z (Q6 QG Z Z Z)<|rR Z Z Z (Q2 YJ Z)<|rR Z Z Z (Q6 QG Z Z Z)<|rR Z Z Z (Q8 Z Z Z)<|rM Z Z Z ?_
 refine Qw (d:=10) (c:=(a0.params==a1.params)) Z (fun c2=>?_) (fun c2=>?_)
 replace h1:=Qf c2 h1
 refine rR Z Z Z (Q2 Zq Z)<|rR Z Z Z (Qi QR Z Z Z Z)<|rR Z Z Z (Q2 Zq Z)<|rR Z Z Z (Qi QR Z Z Z Z) ?_
 refine Qd h1 (fun x3 hx3 h1=>?_)
 refine Qb Z Z (lb Z) (Qh (GE a0.ty a1.ty x3 hx3) Z (.cons (.agg (.cons (.d _) (.cons (.d _) (.cons (.d _) (.cons (.d _) (.cons (.d _) .nil)))))) (.cons (.agg (.cons (.d _) (.cons (.d _) (.cons (.d _) (.cons (.d _) (.cons (.d _) .nil)))))) .nil)))<|rR Z Z Z (Qc Z Z)<|rM Z Z Z ?_
 refine Qw (d:=17) (c:=x3) Z (fun c4=>?_) (fun c4=>?_)
 replace h1:=Qf c4 h1
 refine rR Z Z Z (Q2 YZ Z)<|rR Z Z Z (Q6 JH Z Z Z)<|rR Z Z Z (Q2 YZ Z)<|rR Z Z Z (Q6 JH Z Z Z) ?_
 refine Qd h1 (fun x5 hx5 h1=>?_)
 refine Qb Z Z (lb Z) (Qh (m54_ok a0.rules a1.rules x5 hx5) Z (.cons (.one (.d _)) (.cons (.one (.d _)) .nil)))<|rR Z Z Z (Qc Z Z)<|rA Z Z Z<|Q5 ?_
 have e:=sI h1;subst e
 exact Q9 x5 (sL (Nat.zero_le _) Z Z Z Z Z) h0
 replace h1:=Qg c4 h1
 refine Q7 Z Z<|Q7 Z Z<|Q7 Z Z<|Q7 Z Z<|Q7 Z Z<|rR Z Z Z (Qa Z Z)<|rA Z Z Z<|Q5 ?_
 have e:=sI h1;subst e
 exact Q9 false (sL (Nat.zero_le _) Z Z Z Z Z) h0
 replace h1:=Qg c2 h1
 refine Q7 Z Z<|Q7 Z Z<|Q7 Z Z<|Q7 Z Z<|Q7 Z Z<|rR Z Z Z (Qa Z Z)<|rM Z Z Z<|Q7 Z Z<|Q7 Z Z<|Q7 Z Z<|Q7 Z Z<|Q7 Z Z<|rR Z Z Z (Qa Z Z)<|rA Z Z Z ?_
 refine Q5 ?_
 have e:=sI h1;subst e
 exact Q9 false (sL (Nat.zero_le _) Z Z Z Z Z) h0
 intro v1 h0
 refine Q3<|Qp ?_
 have e:=sI h0;subst e
 exact Qn (fun _ _ h=>h) Z (Qm Z .nil) (.cons (.one (.d _)) .nil)
def Xb (a0:Tr) (a1:Tr) (rc:Tr×Tr→Option Bool) (s1:Int):Option (LO Int (Unit⊕Bool)) :=
 cond (decide (s1 < (a0.branches.length:Int)))
   (Option.bind (JP a0.branches s1) fun (x5:Br) =>
 Option.bind (JP a1.branches s1) fun (x6:Br) =>
 Option.bind (cond (!(x5.ctor==x6.ctor))
   (some true)
   (cond (!(x5.absurd==x6.absurd))
   (some true)
   (Option.bind (rc (x5.tree,x6.tree)) fun (x10:Bool) =>
 some (!x10)))) (fun (v7:Bool)=>cond v7
   (some (.done (.inr false)))
   (some (.next (Ja (s1+1))))))
   (some (.done (.inl ())))
noncomputable abbrev m36_h0 (p0_:Tr) (p1_:Tr) (p2_:Br) (p3_:Br):List (Nat×HB) :=
 [(0,.cells 74 (cE p0_)),(1,.cells 74 (cE p1_)),(2,.cells 101 (cE p2_)),(3,.cells 101 (cE p3_))]
def D6 (rc:Tr×Tr→Option Bool) (a0:Tr) (a1:Tr):Option Bool :=
 Option.bind (cond (a0.kind != a1.kind)
   (some true)
   (cond (a0.var != a1.var)
   (some true)
   (Option.bind (D8 a0.body a1.body) fun (x4:Bool) =>
 cond (!x4)
   (some true)
   (some ((a0.branches.length:Int) != (a1.branches.length:Int)))))) (fun (v1:Bool)=>cond v1
   (some false)
   (Option.bind (QE (Xb a0 a1 rc) QU 0) (Sum.elim (fun (o3:Unit)=>some true) (fun o=>some o))))
def m36F (rc:Tr×Tr→Option Bool) (u:Tr×Tr):Option Bool:=D6 rc u.1 u.2
def DS (a0:Tr) (a1:Tr):Option Bool:=JR m36F QU (a0,a1)
theorem m36s_ok (rc:Tr×Tr→Option Bool) (H:∀ (a0:Tr) (a1:Tr) (r:Bool),rc (a0,a1)=some r→Fun Try.prog 36 [.agg (cE a0),.agg (cE a1)] (QM [.one (dB r)])) (a0:Tr) (a1:Tr) (r:Bool) (h0:D6 rc a0 a1=some r):Fun Try.prog 36 [.agg (cE a0),.agg (cE a1)] (QM [.one (dB r)]):=by
 unfold D6 at h0
 refine QB 9 74 Try.func36 Z en_36 Z (lb Z) (fun S w=>?_)
 simp only [J3]
 refine Q4<|Q0<|Qb Z Z (lb Z) (QN Z)<|Qb Z Z (lb Z) (QN Z)<|rA Z Z Z<|Q5<|Q3<|Q4<|Q4 ?_
 refine QD (fun (v1:Bool)=>⟨[(2,.v (.one (.ptr 0 0))),(3,.v (.one (.ptr 1 0))),(36,.v (.one (dB v1)))],[(0,.cells 74 (cE a0)),(1,.cells 74 (cE a1))],[],2,74,[]⟩) (fun (v1:Bool)=>(cond v1
     (some false)
     (Option.bind (QE (Xb a0 a1 rc) QU 0) (Sum.elim (fun (o3:Unit)=>some true) (fun o=>some o))))=some r) ?_ ?_
 refine Qd h0 (fun w1_ h1 h0=>?_)
 refine Q0<|rR Z Z Z (Q2 XY Z)<|rR Z Z Z (Q6 QG Z Z Z)<|rR Z Z Z (Q2 XY Z)<|rR Z Z Z (Q6 QG Z Z Z)<|rR Z Z Z (Q8 Z Z Z)<|rM Z Z Z ?_
 refine Qw (d:=13) (c:=(a0.kind != a1.kind)) Z (fun c2=>?_) (fun c2=>?_)
 replace h1:=Qf c2 h1
 refine Q7 Z Z<|Q7 Z Z<|Q7 Z Z<|Q7 Z Z<|Q7 Z Z<|rR Z Z Z (Qc Z Z)<|rM Z Z Z<|Q7 Z Z<|Q7 Z Z<|Q7 Z Z<|Q7 Z Z<|Q7 Z Z<|Q7 Z Z<|rR Z Z Z (Qc Z Z) ?_
 refine rM Z Z Z<|Q7 Z Z<|Q7 Z Z<|Q7 Z Z<|Q7 Z Z<|Q7 Z Z<|Q7 Z Z<|Q7 Z Z<|rR Z Z Z (Qc Z Z)<|Q5 ?_
 have e:=sI h1;subst e
 exact Q9 true (sL (Nat.zero_le _) Z Z Z Z Z) h0
 replace h1:=Qg c2 h1
 refine rR Z Z Z (Q2 KL Z)<|rR Z Z Z (Q6 QG Z Z Z)<|rR Z Z Z (Q2 KL Z)<|rR Z Z Z (Q6 QG Z Z Z)<|rR Z Z Z (Q8 Z Z Z)<|rR Z Z Z (Qa Z Z)<|rM Z Z Z ?_
 refine Qw (d:=20) (c:=(a0.var != a1.var)) Z (fun c3=>?_) (fun c3=>?_)
 replace h1:=Qf c3 h1
 refine Q7 Z Z<|Q7 Z Z<|Q7 Z Z<|Q7 Z Z<|Q7 Z Z<|Q7 Z Z<|rR Z Z Z (Qc Z Z)<|rM Z Z Z<|Q7 Z Z<|Q7 Z Z<|Q7 Z Z<|Q7 Z Z<|Q7 Z Z<|Q7 Z Z ?_
 refine Q7 Z Z<|rR Z Z Z (Qc Z Z)<|Q5 ?_
 have e:=sI h1;subst e
 exact Q9 true (sL (Nat.zero_le _) Z Z Z Z Z) h0
 replace h1:=Qg c3 h1
 refine rR Z Z Z (Q2 Gw Z)<|rR Z Z Z (Qi QR Z Z Z Z)<|rR Z Z Z (Q2 Gw Z)<|rR Z Z Z (Qi QR Z Z Z Z) ?_
 refine Qd h1 (fun x4 hx4 h1=>?_)
 refine Qb Z Z (lb Z) (Qh (GE a0.body a1.body x4 hx4) Z (.cons (.agg (.cons (.d _) (.cons (.d _) (.cons (.d _) (.cons (.d _) (.cons (.d _) .nil)))))) (.cons (.agg (.cons (.d _) (.cons (.d _) (.cons (.d _) (.cons (.d _) (.cons (.d _) .nil)))))) .nil)))<|rR Z Z Z (Jc Z)<|rR Z Z Z (Qa Z Z)<|rM Z Z Z ?_
 refine Qw (d:=28) (c:=(!x4)) Z (fun c5=>?_) (fun c5=>?_)
 replace h1:=Qf c5 h1
 refine Q7 Z Z<|Q7 Z Z<|Q7 Z Z<|Q7 Z Z<|Q7 Z Z<|Q7 Z Z<|Q7 Z Z<|rR Z Z Z (Qc Z Z)<|Q5 ?_
 have e:=sI h1;subst e
 exact Q9 true (sL (Nat.zero_le _) Z Z Z Z Z) h0
 replace h1:=Qg c5 h1
 refine rR Z Z Z (Q2 Yc Z)<|rR Z Z Z (Q6 Zm Z Z Z)<|rR Z Z Z (Qx (α:=Br) Zc Z (.d _))<|rR Z Z Z (Q2 Yc Z)<|rR Z Z Z (Q6 Zm Z Z Z)<|rR Z Z Z (Qx (α:=Br) Zc Z (.d _))<|rR Z Z Z (Q8 Z Z Z)<|rR Z Z Z (Qa Z Z)<|Q5 ?_
 have e:=sI h1;subst e
 exact Q9 ((a0.branches.length:Int) != (a1.branches.length:Int)) (sL (Nat.zero_le _) Z Z Z Z Z) h0
 intro v1 h0
 refine Q3 ?_
 refine Qe (b:=v1) Z (fun c6=>?_) (fun c6=>?_)
 replace h0:=Qf c6 h0
 refine Q4<|Q0<|rA Z Z Z<|Q5<|Q3<|Qp ?_
 have e:=sI h0;subst e
 exact Qn (fun _ _ h=>h) Z (Qm Z .nil) (.cons (.one (.d _)) .nil)
 replace h0:=Qg c6 h0
 refine Qj<|Q3<|Q4<|Q4<|Q0<|rA Z Z Z<|Q5<|Q3<|Ql ?_
 refine QQ 0 (fun (o7:Unit)=>⟨[],[(0,.cells 74 (cE a0)),(1,.cells 74 (cE a1))],[],2,74,[]⟩) (fun (o7:Unit)=>(some true)=some r) ?_ ?_
 refine Qd h0 (fun o8 hl1 h0=>?_)
 refine QP (Xb a0 a1 rc) (fun s1=>⟨[(2,.v (.one (.ptr 0 0))),(3,.v (.one (.ptr 1 0))),(5,.v (.one (dI s1)))],[(0,.cells 74 (cE a0)),(1,.cells 74 (cE a1))],[],2,74,[]⟩) 0 o8 (sL (Nat.zero_le _) Z Z Z Z Z) hl1 (fun s1 n1 oo1 h1 ho1=>?_)
 unfold Xb at h1
 refine Q4<|Q4<|Q0<|rM Z Z Z<|rR Z Z Z (Q2 Yc Z)<|rR Z Z Z (Q6 Zm Z Z Z)<|rR Z Z Z (Qx (α:=Br) Zc Z (.d _))<|rR Z Z Z (Q8 Z Z Z)<|Q5<|Q3 ?_
 refine Qe (b:=(decide (s1 < (a0.branches.length:Int)))) Z (fun c9=>?_) (fun c9=>?_)
 replace h1:=Qf c9 h1
 refine Qj<|Q3<|Q4<|Ql<|Q4 ?_
 refine XC.pairRun [10,11,12,13] [[],[10],[10,11],[10,11,12],[10,11,12,13],[11]] [(0,1),(0,2),(1,1),(1,2),(2,1),(2,2),(3,1),(3,2),(4,1),(4,2),(5,1),(5,2),(5,3),(6,1),(6,2),(6,3),(7,1),(7,2),(7,3),(8,1),(8,2),(8,3),(9,1),(9,2),(9,3)] 5 10 11 [0,1,2,3,4,5,6,7,8,9] JV (by kernel_rfl) (by kernel_rfl) (by kernel_rfl) (by kernel_rfl) (by kernel_rfl) (by kernel_rfl) rfl (by kernel_rfl) ?_
 refine RunA.rd Z Z Z (Q1 (Q2 Yc Z)) Z<|RunA.rd Z Z Z (Q1 (Q6 Zm Z Z Z)) Z<|RunA.rd Z Z Z (Q1 (Qq Z)) Z ?_
 refine Qd h1 (fun x10 hx10 h1=>?_)
 refine RunA.rd Z Z Z (Q1 (Qt (α:=Br) Zc Z (.d _) Z hx10)) Z<|RunA.rd Z Z Z (Q1 (Qu (x10:Br) ZF Z)) Z<|RunA.rd Z Z Z (Q1 (Q2 Yc Z)) Z<|RunA.rd Z Z Z (Q1 (Q6 Zm Z Z Z)) Z<|RunA.rd Z Z Z (Q1 (Qq Z)) Z ?_
 refine Qd h1 (fun x11 hx11 h1=>?_)
 refine RunA.rd Z Z Z (Q1 (Qt (α:=Br) Zc Z (.d _) Z hx11)) Z<|RunA.rd Z Z Z (Q1 (Qu (x11:Br) ZF Z)) Z<|RunA.eff Z Z Z (Qv UH Z) Z<|RunA.eff Z Z Z (Qv UH Z) Z<|RunA.eff Z Z Z (QA (x10:Br) ZF Z Z Z Z Z) Z<|RunA.eff Z Z Z (QA (x11:Br) ZF Z Z Z Z Z) Z ?_
 refine RunA.nil ⟨[_],⟨⟨_,_,Z,Z,_,_,Z,Z,Z,.inl ⟨Z,_,(Q1 (Q2 Yc Z)),.inr ⟨Z,Z⟩⟩⟩,⟨⟨_,_,Z,Z,_,_,Z,Z,Z,.inl ⟨Z,_,(Q1 (Q2 Yc Z)),.inr ⟨Z,Z⟩⟩⟩,⟨⟨_,_,Z,Z,_,_,Z,Z,Z,.inl ⟨Z,_,(Q1 (Q6 Zm Z Z Z)),.inr ⟨Z,Z⟩⟩⟩,⟨⟨_,_,Z,Z,_,_,Z,Z,Z,.inl ⟨Z,_,(Q1 (Q6 Zm Z Z Z)),.inr ⟨Z,Z⟩⟩⟩,⟨⟨_,_,Z,Z,_,_,Z,Z,Z,.inl ⟨Z,_,(Q1 (Qq Z)),.inr ⟨Z,Z⟩⟩⟩,⟨⟨_,_,Z,Z,_,_,Z,Z,Z,.inl ⟨Z,_,(Q1 (Qq Z)),.inr ⟨Z,Z⟩⟩⟩,⟨⟨_,_,Z,Z,_,_,Z,Z,Z,.inl ⟨Z,_,(Q1 (Qt (α:=Br) Zc Z (.d _) Z hx10)),.inr ⟨Z,Z⟩⟩⟩,⟨⟨_,_,Z,Z,_,_,Z,Z,Z,.inl ⟨Z,_,(Q1 (Qt (α:=Br) Zc Z (.d _) Z hx10)),.inr ⟨Z,Z⟩⟩⟩,⟨⟨_,_,Z,Z,_,_,Z,Z,Z,.inl ⟨Z,_,(Q1 (Qu (x10:Br) ZF Z)),.inr ⟨Z,Z⟩⟩⟩,⟨⟨_,_,Z,Z,_,_,Z,Z,Z,.inl ⟨Z,_,(Q1 (Qu (x10:Br) ZF Z)),.inr ⟨Z,Z⟩⟩⟩,⟨⟨_,_,Z,Z,_,_,Z,Z,Z,.inl ⟨Z,_,(Q1 (Q2 Yc Z)),.inr ⟨Z,Z⟩⟩⟩,⟨⟨_,_,Z,Z,_,_,Z,Z,Z,.inl ⟨Z,_,(Q1 (Q2 Yc Z)),.inr ⟨Z,Z⟩⟩⟩,⟨⟨_,_,Z,Z,_,_,Z,Z,Z,.inl ⟨Z,_,(Q1 (Q2 Yc Z)),.inr ⟨Z,Z⟩⟩⟩,⟨⟨_,_,Z,Z,_,_,Z,Z,Z,.inl ⟨Z,_,(Q1 (Q6 Zm Z Z Z)),.inr ⟨Z,Z⟩⟩⟩,⟨⟨_,_,Z,Z,_,_,Z,Z,Z,.inl ⟨Z,_,(Q1 (Q6 Zm Z Z Z)),.inr ⟨Z,Z⟩⟩⟩,⟨⟨_,_,Z,Z,_,_,Z,Z,Z,.inl ⟨Z,_,(Q1 (Q6 Zm Z Z Z)),.inr ⟨Z,Z⟩⟩⟩,⟨⟨_,_,Z,Z,_,_,Z,Z,Z,.inl ⟨Z,_,(Q1 (Qq Z)),.inr ⟨Z,Z⟩⟩⟩,⟨⟨_,_,Z,Z,_,_,Z,Z,Z,.inl ⟨Z,_,(Q1 (Qq Z)),.inr ⟨Z,Z⟩⟩⟩,⟨⟨_,_,Z,Z,_,_,Z,Z,Z,.inl ⟨Z,_,(Q1 (Qq Z)),.inr ⟨Z,Z⟩⟩⟩,⟨⟨_,_,Z,Z,_,_,Z,Z,Z,.inl ⟨Z,_,(Q1 (Qt (α:=Br) Zc Z (.d _) Z hx11)),.inr ⟨Z,Z⟩⟩⟩,⟨⟨_,_,Z,Z,_,_,Z,Z,Z,.inl ⟨Z,_,(Q1 (Qt (α:=Br) Zc Z (.d _) Z hx11)),.inr ⟨Z,Z⟩⟩⟩,⟨⟨_,_,Z,Z,_,_,Z,Z,Z,.inl ⟨Z,_,(Q1 (Qt (α:=Br) Zc Z (.d _) Z hx11)),.inr ⟨Z,Z⟩⟩⟩,⟨⟨_,_,Z,Z,_,_,Z,Z,Z,.inl ⟨Z,_,(Q1 (Qu (x11:Br) ZF Z)),.inr ⟨Z,Z⟩⟩⟩,⟨⟨_,_,Z,Z,_,_,Z,Z,Z,.inl ⟨Z,_,(Q1 (Qu (x11:Br) ZF Z)),.inr ⟨Z,Z⟩⟩⟩,⟨⟨_,_,Z,Z,_,_,Z,Z,Z,.inl ⟨Z,_,(Q1 (Qu (x11:Br) ZF Z)),.inr ⟨Z,Z⟩⟩⟩,trivial⟩⟩⟩⟩⟩⟩⟩⟩⟩⟩⟩⟩⟩⟩⟩⟩⟩⟩⟩⟩⟩⟩⟩⟩⟩,⟨_,⟨_,_,_,_,_,_,_,_,_,_,_,_,2,_,Z,Z,UH,Z,UH,Z,Z,Z,Z,Z,Z,Z,Z,Z,Z,Z,Z,Z⟩,⟨⟨_,_,Z,Z,Z,.inl ⟨Z,Q2 Yc Z⟩⟩,⟨⟨_,_,Z,Z,Z,.inl ⟨Z,Q6 Zm Z Z Z⟩⟩,⟨⟨_,_,Z,Z,Z,.inl ⟨Z,Qq Z⟩⟩,⟨⟨_,_,Z,Z,Z,.inl ⟨Z,Qt (α:=Br) Zc Z (.d _) Z hx10⟩⟩,⟨⟨_,_,Z,Z,Z,.inl ⟨Z,Qu (x10:Br) ZF Z⟩⟩,⟨⟨_,_,Z,Z,Z,.inl ⟨Z,Q2 Yc Z⟩⟩,⟨⟨_,_,Z,Z,Z,.inl ⟨Z,Q6 Zm Z Z Z⟩⟩,⟨⟨_,_,Z,Z,Z,.inl ⟨Z,Qq Z⟩⟩,⟨⟨_,_,Z,Z,Z,.inl ⟨Z,Qt (α:=Br) Zc Z (.d _) Z hx11⟩⟩,⟨⟨_,_,Z,Z,Z,.inl ⟨Z,Qu (x11:Br) ZF Z⟩⟩,trivial⟩⟩⟩⟩⟩⟩⟩⟩⟩⟩⟩,_,_,Z,?_⟩
 refine Jp (st':=⟨[(2,.v (.one (.ptr 0 0))),(3,.v (.one (.ptr 1 0))),(5,.v (.one (dI s1))),(6,.v (.one (.ptr 2 0))),(7,.v (.one (.ptr 3 0)))],m36_h0 a0 a1 x10 x11,[],4,74,[]⟩) (sL (Nat.zero_le _) Z Z Z Z Z)<|Q3<|Q4 ?_
 refine QD (fun (v12:Bool)=>⟨[(2,.v (.one (.ptr 0 0))),(3,.v (.one (.ptr 1 0))),(5,.v (.one (dI s1))),(73,.v (.one (dB v12)))],m36_h0 a0 a1 x10 x11,[],4,74,[]⟩) (fun (v12:Bool)=>(cond v12
     (some (.done (.inr false)))
     (some (.next (Ja (s1+1)))))=some oo1) ?_ ?_
 refine Qd h1 (fun w2_ h2 h1=>?_)
 refine Q0<|rR Z Z Z (Q2 X2 Z)<|rR Z Z Z (Q6 JG Z Z Z)<|rR Z Z Z (Q2 X2 Z)<|rR Z Z Z (Q6 JG Z Z Z)<|rR Z Z Z (Wy Z Z)<|rM Z Z Z ?_
 refine Qw (d:=59) (c:=(!(x10.ctor==x11.ctor))) Z (fun c13=>?_) (fun c13=>?_)
 replace h2:=Qf c13 h2
 refine Q7 Z Z<|Q7 Z Z<|Q7 Z Z<|Q7 Z Z<|Q7 Z Z<|rR Z Z Z (Qc Z Z)<|rM Z Z Z<|Q7 Z Z<|Q7 Z Z<|Q7 Z Z<|Q7 Z Z<|Q7 Z Z<|Q7 Z Z<|rR Z Z Z (Qc Z Z) ?_
 refine Q5 ?_
 have e:=sI h2;subst e
 exact Q9 true (sL (Nat.zero_le _) Z Z Z Z Z) h1
 replace h2:=Qg c13 h2
 refine rR Z Z Z (Q2 fo_101_1 Z)<|rR Z Z Z (Q6 Db Z Z Z)<|rR Z Z Z (Q2 fo_101_1 Z)<|rR Z Z Z (Q6 Db Z Z Z)<|rR Z Z Z (RO.neqBool ib_4 Z Z)<|rR Z Z Z (Qa Z Z)<|rM Z Z Z ?_
 refine Qw (d:=66) (c:=(!(x10.absurd==x11.absurd))) Z (fun c14=>?_) (fun c14=>?_)
 replace h2:=Qf c14 h2
 refine Q7 Z Z<|Q7 Z Z<|Q7 Z Z<|Q7 Z Z<|Q7 Z Z<|Q7 Z Z<|rR Z Z Z (Qc Z Z)<|Q5 ?_
 have e:=sI h2;subst e
 exact Q9 true (sL (Nat.zero_le _) Z Z Z Z Z) h1
 replace h2:=Qg c14 h2
 refine rR Z Z Z (Q2 Gh Z)<|rR Z Z Z (Qi Gy Z Z Z Z)<|rR Z Z Z (Q2 Gh Z)<|rR Z Z Z (Qi Gy Z Z Z Z) ?_
 refine Qd h2 (fun x15 hx15 h2=>?_)
 refine Qb Z Z (lb Z) (Qh (H x10.tree x11.tree x15 hx15) Z (.cons (.agg (.cons (.d _) (.cons (.d _) (.cons (.d _) (.cons (.d _) (.cons (.d _) (.cons (.d _) (.cons (.d _) (.cons (.d _) .nil))))))))) (.cons (.agg (.cons (.d _) (.cons (.d _) (.cons (.d _) (.cons (.d _) (.cons (.d _) (.cons (.d _) (.cons (.d _) (.cons (.d _) .nil))))))))) .nil)))<|rR Z Z Z (Jc Z)<|rR Z Z Z (Qa Z Z)<|Q5 ?_
 have e:=sI h2;subst e
 exact Q9 (!x15) (sL (Nat.zero_le _) Z Z Z Z Z) h1
 intro v12 h1
 refine Q3 ?_
 refine Qe (b:=v12) Z (fun c16=>?_) (fun c16=>?_)
 replace h1:=Qf c16 h1
 refine Q4<|Q0<|rA Z Z Z<|Q5<|Q3<|Qp ?_
 have e:=sI h1;subst e
 have e_:_=_:=ho1
 subst e_
 try dsimp only [Sum.elim_inl,Sum.elim_inr] at h0
 have e:=sI h0;subst e
 exact Qn (fun _ _ h=>h) Z (Qm Z .nil) (.cons (.one (.d _)) .nil)
 replace h1:=Qg c16 h1
 refine Qj<|Qk<|Q3<|Q0<|rM Z Z Z<|rR Z Z Z (Q8 Z Z Z)<|rA Z Z Z<|Q5 ?_
 have e:=sI h1;subst e
 refine QJ (Ja (s1+1)) (sL (Nat.zero_le _) Z Z Z Z Z) ho1
 replace h1:=Qg c9 h1
 refine QW<|Qr<|Qr ?_
 have e:=sI h1;subst e
 have e_:_=_:=ho1
 subst e_
 exact QO () (sL (Nat.zero_le _) Z Z Z Z Z) h0
 intro o7 h0
 refine QF<|Q3<|Q4<|Q0<|rA Z Z Z<|Q5<|Q3<|Qp ?_
 have e:=sI h0;subst e
 exact Qn (fun _ _ h=>h) Z (Qm Z .nil) (.cons (.one (.d _)) .nil)
theorem m36_all (n:Nat) (u:Tr×Tr) (r:Bool) (h0:JR m36F n u=some r):Fun Try.prog 36 [.agg (cE u.1),.agg (cE u.2)] (QM [.one (dB r)]) :=
 YN (C:=fun u r=>Fun Try.prog 36 [.agg (cE u.1),.agg (cE u.2)] (QM [.one (dB r)])) (fun rc H u r h=>m36s_ok rc (fun a0 a1 r h=>H (a0,a1) r h) u.1 u.2 r h) n u r h0
theorem m36_ok (a0:Tr) (a1:Tr) (r:Bool) (h0:DS a0 a1=some r):Fun Try.prog 36 [.agg (cE a0),.agg (cE a1)] (QM [.one (dB r)]):=m36_all QU (a0,a1) r h0
def Wr (a0:Dcl) (a1:Dcl) (s1:Int):Option (LO Int (Unit⊕Bool)) :=
 cond (decide (s1 < (a0.ctors.length:Int)))
   (Option.bind (Option.bind (JP a0.ctors s1) fun (x8:Ctr) =>
 Option.bind (JP a1.ctors s1) fun (x9:Ctr) =>
 cond (!(x8.name==x9.name))
   (some true)
   (Option.bind (JP a0.ctors s1) fun (x11:Ctr) =>
 Option.bind (JP a1.ctors s1) fun (x12:Ctr) =>
 Option.bind (D8 x11.ty x12.ty) fun (x13:Bool) =>
 some (!x13))) (fun (v7:Bool)=>cond v7
   (some (.done (.inr false)))
   (some (.next (Ja (s1+1))))))
   (some (.done (.inl ())))
def XD (a0:Dcl) (a1:Dcl) (s1:Int):Option (LO Int (Unit⊕Bool)) :=
 cond (decide (s1 < (a0.funs.length:Int)))
   (Option.bind (JP a0.funs s1) fun (x8:Fn) =>
 Option.bind (JP a1.funs s1) fun (x9:Fn) =>
 Option.bind (cond (!(x8.name==x9.name))
   (some true)
   (cond (x8.arity != x9.arity)
   (some true)
   (Option.bind (D8 x8.ty x9.ty) fun (x13:Bool) =>
 cond (!x13)
   (some true)
   (Option.bind (DS x8.tree x9.tree) fun (x15:Bool) =>
 some (!x15))))) (fun (v10:Bool)=>cond v10
   (some (.done (.inr false)))
   (some (.next (Ja (s1+1))))))
   (some (.done (.inl ())))
noncomputable abbrev m19_h0 (p0_:Dcl) (p1_:Dcl) (p2_:Fn) (p3_:Fn):List (Nat×HB) :=
 [(0,.cells 45 (cE p0_)),(1,.cells 45 (cE p1_)),(2,.cells 76 (cE p2_)),(3,.cells 76 (cE p3_))]
def m19 (a0:Dcl) (a1:Dcl):Option Bool :=
 Option.bind (cond (a0.kind != a1.kind)
   (some true)
   (cond (!(a0.name==a1.name))
   (some true)
   (cond (a0.params != a1.params)
   (some true)
   (cond (a0.fixed != a1.fixed)
   (some true)
   (Option.bind (D8 a0.ty a1.ty) fun (x6:Bool) =>
 cond (!x6)
   (some true)
   (Option.bind (D8 a0.value a1.value) fun (x8:Bool) =>
 some (!x8))))))) (fun (v1:Bool)=>cond v1
   (some false)
   (Option.bind (cond ((a0.ctors.length:Int) != (a1.ctors.length:Int))
   (some true)
   (cond ((a0.funs.length:Int) != (a1.funs.length:Int))
   (some true)
   (Option.bind (m35 a0.rcr a1.rcr) fun (x6:Bool) =>
 some (!x6)))) (fun (v3:Bool)=>cond v3
   (some false)
   (Option.bind (QE (Wr a0 a1) QU 0) (Sum.elim (fun (o5:Unit)=>Option.bind (QE (XD a0 a1) QU 0) (Sum.elim (fun (o6:Unit)=>some true) (fun o=>some o))) (fun o=>some o))))))
theorem m19_ok (a0:Dcl) (a1:Dcl) (r:Bool) (h0:m19 a0 a1=some r):Fun Try.prog 19 [.agg (cE a0),.agg (cE a1)] (QM [.one (dB r)]):=by
 unfold m19 at h0
 refine QB 9 156 Try.func19 Z en_19 Z (lb Z) (fun S w=>?_)
 simp only [J3]
 refine Q4<|Q0<|Qb Z Z (lb Z) (QN Z)<|Qb Z Z (lb Z) (QN Z)<|rA Z Z Z<|Q5<|Q3<|Q4<|Q4 ?_
 refine QD (fun (v1:Bool)=>⟨[(2,.v (.one (.ptr 0 0))),(3,.v (.one (.ptr 1 0))),(50,.v (.one (dB v1)))],[(0,.cells 45 (cE a0)),(1,.cells 45 (cE a1))],[],2,156,[]⟩) (fun (v1:Bool)=>(cond v1
     (some false)
     (Option.bind (cond ((a0.ctors.length:Int) != (a1.ctors.length:Int))
     (some true)
     (cond ((a0.funs.length:Int) != (a1.funs.length:Int))
     (some true)
     (Option.bind (m35 a0.rcr a1.rcr) fun (x6:Bool) =>
   some (!x6)))) (fun (v3:Bool)=>cond v3
     (some false)
     (Option.bind (QE (Wr a0 a1) QU 0) (Sum.elim (fun (o5:Unit)=>Option.bind (QE (XD a0 a1) QU 0) (Sum.elim (fun (o6:Unit)=>some true) (fun o=>some o))) (fun o=>some o))))))=some r) ?_ ?_
 refine Qd h0 (fun w1_ h1 h0=>?_)
 refine Q0<|rR Z Z Z (Q2 JN Z)<|rR Z Z Z (Q6 QG Z Z Z)<|rR Z Z Z (Q2 JN Z)<|rR Z Z Z (Q6 QG Z Z Z)<|rR Z Z Z (Q8 Z Z Z)<|rM Z Z Z ?_
 refine Qw (d:=14) (c:=(a0.kind != a1.kind)) Z (fun c2=>?_) (fun c2=>?_)
 replace h1:=Qf c2 h1
 refine Q7 Z Z<|Q7 Z Z<|Q7 Z Z<|Q7 Z Z<|Q7 Z Z<|rR Z Z Z (Qc Z Z)<|rM Z Z Z<|Q7 Z Z<|Q7 Z Z<|Q7 Z Z<|Q7 Z Z<|Q7 Z Z<|rR Z Z Z (Qc Z Z)<|rM Z Z Z ?_
 refine Q7 Z Z<|Q7 Z Z<|Q7 Z Z<|Q7 Z Z<|Q7 Z Z<|rR Z Z Z (Qc Z Z)<|rM Z Z Z<|Q7 Z Z<|Q7 Z Z<|Q7 Z Z<|Q7 Z Z<|Q7 Z Z<|Q7 Z Z<|rR Z Z Z (Qc Z Z) ?_
 refine rM Z Z Z<|Q7 Z Z<|Q7 Z Z<|Q7 Z Z<|Q7 Z Z<|Q7 Z Z<|Q7 Z Z<|rR Z Z Z (Qc Z Z)<|Q5 ?_
 have e:=sI h1;subst e
 exact Q9 true (sL (Nat.zero_le _) Z Z Z Z Z) h0
 replace h1:=Qg c2 h1
 refine rR Z Z Z (Q2 JY Z)<|rR Z Z Z (Q6 JG Z Z Z)<|rR Z Z Z (Q2 JY Z)<|rR Z Z Z (Q6 JG Z Z Z)<|rR Z Z Z (Wy Z Z)<|rR Z Z Z (Qa Z Z)<|rM Z Z Z ?_
 refine Qw (d:=21) (c:=(!(a0.name==a1.name))) Z (fun c3=>?_) (fun c3=>?_)
 replace h1:=Qf c3 h1
 refine Q7 Z Z<|Q7 Z Z<|Q7 Z Z<|Q7 Z Z<|Q7 Z Z<|rR Z Z Z (Qc Z Z)<|rM Z Z Z<|Q7 Z Z<|Q7 Z Z<|Q7 Z Z<|Q7 Z Z<|Q7 Z Z<|rR Z Z Z (Qc Z Z)<|rM Z Z Z ?_
 refine Q7 Z Z<|Q7 Z Z<|Q7 Z Z<|Q7 Z Z<|Q7 Z Z<|Q7 Z Z<|rR Z Z Z (Qc Z Z)<|rM Z Z Z<|Q7 Z Z<|Q7 Z Z<|Q7 Z Z<|Q7 Z Z<|Q7 Z Z<|Q7 Z Z ?_
 refine rR Z Z Z (Qc Z Z)<|Q5 ?_
 have e:=sI h1;subst e
 exact Q9 true (sL (Nat.zero_le _) Z Z Z Z Z) h0
 replace h1:=Qg c3 h1
 refine rR Z Z Z (Q2 Jz Z)<|rR Z Z Z (Q6 QG Z Z Z)<|rR Z Z Z (Q2 Jz Z)<|rR Z Z Z (Q6 QG Z Z Z)<|rR Z Z Z (Q8 Z Z Z)<|rR Z Z Z (Qa Z Z)<|rM Z Z Z ?_
 refine Qw (d:=28) (c:=(a0.params != a1.params)) Z (fun c4=>?_) (fun c4=>?_)
 replace h1:=Qf c4 h1
 refine Q7 Z Z<|Q7 Z Z<|Q7 Z Z<|Q7 Z Z<|Q7 Z Z<|rR Z Z Z (Qc Z Z)<|rM Z Z Z<|Q7 Z Z<|Q7 Z Z<|Q7 Z Z<|Q7 Z Z<|Q7 Z Z<|Q7 Z Z<|rR Z Z Z (Qc Z Z) ?_
 refine rM Z Z Z<|Q7 Z Z<|Q7 Z Z<|Q7 Z Z<|Q7 Z Z<|Q7 Z Z<|Q7 Z Z<|rR Z Z Z (Qc Z Z)<|Q5 ?_
 have e:=sI h1;subst e
 exact Q9 true (sL (Nat.zero_le _) Z Z Z Z Z) h0
 replace h1:=Qg c4 h1
 refine rR Z Z Z (Q2 K0 Z)<|rR Z Z Z (Q6 QG Z Z Z)<|rR Z Z Z (Q2 K0 Z)<|rR Z Z Z (Q6 QG Z Z Z)<|rR Z Z Z (Q8 Z Z Z)<|rR Z Z Z (Qa Z Z)<|rM Z Z Z ?_
 refine Qw (d:=35) (c:=(a0.fixed != a1.fixed)) Z (fun c5=>?_) (fun c5=>?_)
 replace h1:=Qf c5 h1
 refine Q7 Z Z<|Q7 Z Z<|Q7 Z Z<|Q7 Z Z<|Q7 Z Z<|Q7 Z Z<|rR Z Z Z (Qc Z Z)<|rM Z Z Z<|Q7 Z Z<|Q7 Z Z<|Q7 Z Z<|Q7 Z Z<|Q7 Z Z<|Q7 Z Z ?_
 refine rR Z Z Z (Qc Z Z)<|Q5 ?_
 have e:=sI h1;subst e
 exact Q9 true (sL (Nat.zero_le _) Z Z Z Z Z) h0
 replace h1:=Qg c5 h1
 refine rR Z Z Z (Q2 Zl Z)<|rR Z Z Z (Qi QR Z Z Z Z)<|rR Z Z Z (Q2 Zl Z)<|rR Z Z Z (Qi QR Z Z Z Z) ?_
 refine Qd h1 (fun x6 hx6 h1=>?_)
 refine Qb Z Z (lb Z) (Qh (GE a0.ty a1.ty x6 hx6) Z (.cons (.agg (.cons (.d _) (.cons (.d _) (.cons (.d _) (.cons (.d _) (.cons (.d _) .nil)))))) (.cons (.agg (.cons (.d _) (.cons (.d _) (.cons (.d _) (.cons (.d _) (.cons (.d _) .nil)))))) .nil)))<|rR Z Z Z (Jc Z)<|rR Z Z Z (Qa Z Z)<|rM Z Z Z ?_
 refine Qw (d:=43) (c:=(!x6)) Z (fun c7=>?_) (fun c7=>?_)
 replace h1:=Qf c7 h1
 refine Q7 Z Z<|Q7 Z Z<|Q7 Z Z<|Q7 Z Z<|Q7 Z Z<|Q7 Z Z<|rR Z Z Z (Qc Z Z)<|Q5 ?_
 have e:=sI h1;subst e
 exact Q9 true (sL (Nat.zero_le _) Z Z Z Z Z) h0
 replace h1:=Qg c7 h1
 refine rR Z Z Z (Q2 Kk Z)<|rR Z Z Z (Qi QR Z Z Z Z)<|rR Z Z Z (Q2 Kk Z)<|rR Z Z Z (Qi QR Z Z Z Z) ?_
 refine Qd h1 (fun x8 hx8 h1=>?_)
 refine Qb Z Z (lb Z) (Qh (GE a0.value a1.value x8 hx8) Z (.cons (.agg (.cons (.d _) (.cons (.d _) (.cons (.d _) (.cons (.d _) (.cons (.d _) .nil)))))) (.cons (.agg (.cons (.d _) (.cons (.d _) (.cons (.d _) (.cons (.d _) (.cons (.d _) .nil)))))) .nil)))<|rR Z Z Z (Jc Z)<|rR Z Z Z (Qa Z Z)<|Q5 ?_
 have e:=sI h1;subst e
 exact Q9 (!x8) (sL (Nat.zero_le _) Z Z Z Z Z) h0
 intro v1 h0
 refine Q3 ?_
 refine Qe (b:=v1) Z (fun c9=>?_) (fun c9=>?_)
 replace h0:=Qf c9 h0
 refine Q4<|Q0<|rA Z Z Z<|Q5<|Q3<|Qp ?_
 have e:=sI h0;subst e
 exact Qn (fun _ _ h=>h) Z (Qm Z .nil) (.cons (.one (.d _)) .nil)
 replace h0:=Qg c9 h0
 refine Qj<|Q3<|Q4<|Q4 ?_
 refine QD (fun (v10:Bool)=>⟨[(2,.v (.one (.ptr 0 0))),(3,.v (.one (.ptr 1 0))),(74,.v (.one (dB v10)))],[(0,.cells 45 (cE a0)),(1,.cells 45 (cE a1))],[],2,156,[]⟩) (fun (v10:Bool)=>(cond v10
     (some false)
     (Option.bind (QE (Wr a0 a1) QU 0) (Sum.elim (fun (o12:Unit)=>Option.bind (QE (XD a0 a1) QU 0) (Sum.elim (fun (o13:Unit)=>some true) (fun o=>some o))) (fun o=>some o))))=some r) ?_ ?_
 refine Qd h0 (fun w1_ h1 h0=>?_)
 refine Q0<|rR Z Z Z (Q2 Js Z)<|rR Z Z Z (Q6 Yd Z Z Z)<|rR Z Z Z (Qx (α:=Ctr) JX Z (.d _))<|rR Z Z Z (Q2 Js Z)<|rR Z Z Z (Q6 Yd Z Z Z)<|rR Z Z Z (Qx (α:=Ctr) JX Z (.d _))<|rR Z Z Z (Q8 Z Z Z)<|rM Z Z Z ?_
 refine Qw (d:=58) (c:=((a0.ctors.length:Int) != (a1.ctors.length:Int))) Z (fun c11=>?_) (fun c11=>?_)
 replace h1:=Qf c11 h1
 refine Q7 Z Z<|Q7 Z Z<|Q7 Z Z<|Q7 Z Z<|Q7 Z Z<|Q7 Z Z<|Q7 Z Z<|rR Z Z Z (Qc Z Z)<|rM Z Z Z<|Q7 Z Z<|Q7 Z Z<|Q7 Z Z<|Q7 Z Z<|Q7 Z Z ?_
 refine Q7 Z Z<|rR Z Z Z (Qc Z Z)<|Q5 ?_
 have e:=sI h1;subst e
 exact Q9 true (sL (Nat.zero_le _) Z Z Z Z Z) h0
 replace h1:=Qg c11 h1
 refine rR Z Z Z (Q2 Jf Z)<|rR Z Z Z (Q6 JU Z Z Z)<|rR Z Z Z (Qx (α:=Fn) JA Z (.d _))<|rR Z Z Z (Q2 Jf Z)<|rR Z Z Z (Q6 JU Z Z Z)<|rR Z Z Z (Qx (α:=Fn) JA Z (.d _))<|rR Z Z Z (Q8 Z Z Z)<|rR Z Z Z (Qa Z Z)<|rM Z Z Z ?_
 refine Qw (d:=67) (c:=((a0.funs.length:Int) != (a1.funs.length:Int))) Z (fun c12=>?_) (fun c12=>?_)
 replace h1:=Qf c12 h1
 refine Q7 Z Z<|Q7 Z Z<|Q7 Z Z<|Q7 Z Z<|Q7 Z Z<|Q7 Z Z<|rR Z Z Z (Qc Z Z)<|Q5 ?_
 have e:=sI h1;subst e
 exact Q9 true (sL (Nat.zero_le _) Z Z Z Z Z) h0
 replace h1:=Qg c12 h1
 refine rR Z Z Z (Q2 Jo Z)<|rR Z Z Z (Qi ag_42 Z Z Z Z)<|rR Z Z Z (Q2 Jo Z)<|rR Z Z Z (Qi ag_42 Z Z Z Z) ?_
 refine Qd h1 (fun x13 hx13 h1=>?_)
 refine Qb Z Z (lb Z) (Qh (m35_ok a0.rcr a1.rcr x13 hx13) Z (.cons (.agg (.cons (.d _) (.cons (.d _) (.cons (.d _) (.cons (.d _) (.cons (.d _) (.cons (.d _) (.cons (.d _) .nil)))))))) (.cons (.agg (.cons (.d _) (.cons (.d _) (.cons (.d _) (.cons (.d _) (.cons (.d _) (.cons (.d _) (.cons (.d _) .nil)))))))) .nil)))<|rR Z Z Z (Jc Z)<|rR Z Z Z (Qa Z Z)<|Q5 ?_
 have e:=sI h1;subst e
 exact Q9 (!x13) (sL (Nat.zero_le _) Z Z Z Z Z) h0
 intro v10 h0
 refine Q3 ?_
 refine Qe (b:=v10) Z (fun c14=>?_) (fun c14=>?_)
 replace h0:=Qf c14 h0
 refine Q4<|Q0<|rA Z Z Z<|Q5<|Q3<|Qp ?_
 have e:=sI h0;subst e
 exact Qn (fun _ _ h=>h) Z (Qm Z .nil) (.cons (.one (.d _)) .nil)
 replace h0:=Qg c14 h0
 refine Qj<|Q3<|Q4<|Q4<|Q0<|rA Z Z Z<|Q5<|Q3<|Ql ?_
 refine QQ 0 (fun (o15:Unit)=>⟨[(2,.v (.one (.ptr 0 0))),(3,.v (.one (.ptr 1 0)))],[(0,.cells 45 (cE a0)),(1,.cells 45 (cE a1))],[],2,156,[]⟩) (fun (o15:Unit)=>(Option.bind (QE (XD a0 a1) QU 0) (Sum.elim (fun (o16:Unit)=>some true) (fun o=>some o)))=some r) ?_ ?_
 refine Qd h0 (fun o16 hl1 h0=>?_)
 refine QP (Wr a0 a1) (fun s1=>⟨[(2,.v (.one (.ptr 0 0))),(3,.v (.one (.ptr 1 0))),(5,.v (.one (dI s1)))],[(0,.cells 45 (cE a0)),(1,.cells 45 (cE a1))],[],2,156,[]⟩) 0 o16 (sL (Nat.zero_le _) Z Z Z Z Z) hl1 (fun s1 n1 oo1 h1 ho1=>?_)
 unfold Wr at h1
 refine Q4<|Q4<|Q0<|rM Z Z Z<|rR Z Z Z (Q2 Js Z)<|rR Z Z Z (Q6 Yd Z Z Z)<|rR Z Z Z (Qx (α:=Ctr) JX Z (.d _))<|rR Z Z Z (Q8 Z Z Z)<|Q5<|Q3 ?_
 refine Qe (b:=(decide (s1 < (a0.ctors.length:Int)))) Z (fun c17=>?_) (fun c17=>?_)
 replace h1:=Qf c17 h1
 refine Qj<|Q3<|Q4<|Ql<|Q4 ?_
 refine QD (fun (v18:Bool)=>⟨[(2,.v (.one (.ptr 0 0))),(3,.v (.one (.ptr 1 0))),(5,.v (.one (dI s1))),(110,.v (.one (dB v18)))],[(0,.cells 45 (cE a0)),(1,.cells 45 (cE a1))],[],2,156,[]⟩) (fun (v18:Bool)=>(cond v18
     (some (.done (.inr false)))
     (some (.next (Ja (s1+1)))))=some oo1) ?_ ?_
 refine Qd h1 (fun w2_ h2 h1=>?_)
 refine J4 [] [] JV (by kernel_rfl) (by kernel_rfl) (by kernel_rfl) ?_
 refine RunA.rd Z Z Z (Q1 (Q2 Js Z)) Z<|RunA.rd Z Z Z (Q1 (Q6 Yd Z Z Z)) Z<|RunA.rd Z Z Z (Q1 (Qq Z)) Z ?_
 refine Qd h2 (fun x19 hx19 h2=>?_)
 refine RunA.rd Z Z Z (Q1 (Qt (α:=Ctr) JX Z (.d _) Z hx19)) Z<|RunA.rd Z Z Z (Q1 (J5 ZB Z)) Z<|RunA.rd Z Z Z (Q1 (Jj JG Z Z)) Z<|RunA.rd Z Z Z (Q1 (Q2 Js Z)) Z<|RunA.rd Z Z Z (Q1 (Q6 Yd Z Z Z)) Z<|RunA.rd Z Z Z (Q1 (Qq Z)) Z ?_
 refine Qd h2 (fun x20 hx20 h2=>?_)
 refine RunA.rd Z Z Z (Q1 (Qt (α:=Ctr) JX Z (.d _) Z hx20)) Z<|RunA.rd Z Z Z (Q1 (J5 ZB Z)) Z<|RunA.rd Z Z Z (Q1 (Jj JG Z Z)) Z<|RunA.rd Z Z Z (Q1 (Wy Z Z)) Z ?_
 refine JM (c:=(!(x19.name==x20.name))) Z Z Z (Q1 (Qq Z)) Z (fun c21=>?_) (fun c21=>?_)
 replace h2:=Qf c21 h2
 refine RunA.no Z Z Z Z<|RunA.no Z Z Z Z<|RunA.no Z Z Z Z<|RunA.no Z Z Z Z<|RunA.no Z Z Z Z<|RunA.no Z Z Z Z<|RunA.no Z Z Z Z<|RunA.no Z Z Z Z<|RunA.no Z Z Z Z<|RunA.no Z Z Z Z<|RunA.no Z Z Z Z<|RunA.no Z Z Z Z<|RunA.no Z Z Z Z<|RunA.no Z Z Z Z ?_
 refine RunA.rd Z Z Z (Q1 (Qc Z Z)) Z ?_
 refine RunA.nil ⟨?ex,_,_,Z,?_⟩
 case ex=>exact trivial
 have e:=sI h2;subst e
 exact Q9 true (sL (Nat.zero_le _) Z Z Z Z Z) h1
 replace h2:=Qg c21 h2
 refine RunA.rd Z Z Z (Q1 (Q2 Js Z)) Z<|RunA.rd Z Z Z (Q1 (Q6 Yd Z Z Z)) Z<|RunA.rd Z Z Z (Q1 (Qq Z)) Z ?_
 refine Qd h2 (fun x22 hx22 h2=>?_)
 refine RunA.rd Z Z Z (Q1 (Qt (α:=Ctr) JX Z (.d _) Z hx22)) Z<|RunA.rd Z Z Z (Q1 (J5 Za Z)) Z<|RunA.rd Z Z Z (Q1 (Jr QR Z Z Z)) Z<|RunA.rd Z Z Z (Q1 (Q2 Js Z)) Z<|RunA.rd Z Z Z (Q1 (Q6 Yd Z Z Z)) Z<|RunA.rd Z Z Z (Q1 (Qq Z)) Z ?_
 refine Qd h2 (fun x23 hx23 h2=>?_)
 refine RunA.rd Z Z Z (Q1 (Qt (α:=Ctr) JX Z (.d _) Z hx23)) Z<|RunA.rd Z Z Z (Q1 (J5 Za Z)) Z<|RunA.rd Z Z Z (Q1 (Jr QR Z Z Z)) Z ?_
 refine Qd h2 (fun x24 hx24 h2=>?_)
 refine RunA.rd Z Z Z (Qh (GE x22.ty x23.ty x24 hx24) Z (.cons (.agg (.cons (.d _) (.cons (.d _) (.cons (.d _) (.cons (.d _) (.cons (.d _) .nil)))))) (.cons (.agg (.cons (.d _) (.cons (.d _) (.cons (.d _) (.cons (.d _) (.cons (.d _) .nil)))))) .nil))) Z<|RunA.rd Z Z Z (Q1 (Jc Z)) Z<|RunA.rd Z Z Z (Q1 (Qa Z Z)) Z ?_
 refine RunA.nil ⟨?ex,_,_,Z,?_⟩
 case ex=>exact trivial
 have e:=sI h2;subst e
 exact Q9 (!x24) (sL (Nat.zero_le _) Z Z Z Z Z) h1
 intro v18 h1
 refine Q3 ?_
 refine Qe (b:=v18) Z (fun c25=>?_) (fun c25=>?_)
 replace h1:=Qf c25 h1
 refine Q4<|Q0<|rA Z Z Z<|Q5<|Q3<|Qp ?_
 have e:=sI h1;subst e
 have e_:_=_:=ho1
 subst e_
 try dsimp only [Sum.elim_inl,Sum.elim_inr] at h0
 have e:=sI h0;subst e
 exact Qn (fun _ _ h=>h) Z (Qm Z .nil) (.cons (.one (.d _)) .nil)
 replace h1:=Qg c25 h1
 refine Qj<|Qk<|Q3<|Q0<|rM Z Z Z<|rR Z Z Z (Q8 Z Z Z)<|rA Z Z Z<|Q5 ?_
 have e:=sI h1;subst e
 refine QJ (Ja (s1+1)) (sL (Nat.zero_le _) Z Z Z Z Z) ho1
 replace h1:=Qg c17 h1
 refine QW<|Qr<|Qr ?_
 have e:=sI h1;subst e
 have e_:_=_:=ho1
 subst e_
 exact QO () (sL (Nat.zero_le _) Z Z Z Z Z) h0
 intro o15 h0
 refine QF<|Q3<|Q4<|Q4<|Q0<|rA Z Z Z<|Q5<|Q3<|Ql ?_
 refine QQ 2 (fun (o26:Unit)=>⟨[],[(0,.cells 45 (cE a0)),(1,.cells 45 (cE a1))],[],2,156,[]⟩) (fun (o26:Unit)=>(some true)=some r) ?_ ?_
 refine Qd h0 (fun o27 hl1 h0=>?_)
 refine QP (XD a0 a1) (fun s1=>⟨[(2,.v (.one (.ptr 0 0))),(3,.v (.one (.ptr 1 0))),(6,.v (.one (dI s1)))],[(0,.cells 45 (cE a0)),(1,.cells 45 (cE a1))],[],2,156,[]⟩) 0 o27 (sL (Nat.zero_le _) Z Z Z Z Z) hl1 (fun s1 n1 oo1 h1 ho1=>?_)
 unfold XD at h1
 refine Q4<|Q4<|Q0<|rM Z Z Z<|rR Z Z Z (Q2 Jf Z)<|rR Z Z Z (Q6 JU Z Z Z)<|rR Z Z Z (Qx (α:=Fn) JA Z (.d _))<|rR Z Z Z (Q8 Z Z Z)<|Q5<|Q3 ?_
 refine Qe (b:=(decide (s1 < (a0.funs.length:Int)))) Z (fun c28=>?_) (fun c28=>?_)
 replace h1:=Qf c28 h1
 refine Qj<|Q3<|Q4<|Ql<|Q4 ?_
 refine XC.pairRun [10,11,12,13] [[],[10],[10,11],[10,11,12],[10,11,12,13],[11]] [(0,1),(0,2),(1,1),(1,2),(2,1),(2,2),(3,1),(3,2),(4,1),(4,2),(5,1),(5,2),(5,3),(6,1),(6,2),(6,3),(7,1),(7,2),(7,3),(8,1),(8,2),(8,3),(9,1),(9,2),(9,3)] 5 10 11 [0,1,2,3,4,5,6,7,8,9] JV (by kernel_rfl) (by kernel_rfl) (by kernel_rfl) (by kernel_rfl) (by kernel_rfl) (by kernel_rfl) rfl (by kernel_rfl) ?_
 refine RunA.rd Z Z Z (Q1 (Q2 Jf Z)) Z<|RunA.rd Z Z Z (Q1 (Q6 JU Z Z Z)) Z<|RunA.rd Z Z Z (Q1 (Qq Z)) Z ?_
 refine Qd h1 (fun x29 hx29 h1=>?_)
 refine RunA.rd Z Z Z (Q1 (Qt (α:=Fn) JA Z (.d _) Z hx29)) Z<|RunA.rd Z Z Z (Q1 (Qu (x29:Fn) Z5 Z)) Z<|RunA.rd Z Z Z (Q1 (Q2 Jf Z)) Z<|RunA.rd Z Z Z (Q1 (Q6 JU Z Z Z)) Z<|RunA.rd Z Z Z (Q1 (Qq Z)) Z ?_
 refine Qd h1 (fun x30 hx30 h1=>?_)
 refine RunA.rd Z Z Z (Q1 (Qt (α:=Fn) JA Z (.d _) Z hx30)) Z<|RunA.rd Z Z Z (Q1 (Qu (x30:Fn) Z5 Z)) Z<|RunA.eff Z Z Z (Qv U9 Z) Z<|RunA.eff Z Z Z (Qv U9 Z) Z<|RunA.eff Z Z Z (QA (x29:Fn) Z5 Z Z Z Z Z) Z<|RunA.eff Z Z Z (QA (x30:Fn) Z5 Z Z Z Z Z) Z ?_
 refine RunA.nil ⟨[_],⟨⟨_,_,Z,Z,_,_,Z,Z,Z,.inl ⟨Z,_,(Q1 (Q2 Jf Z)),.inr ⟨Z,Z⟩⟩⟩,⟨⟨_,_,Z,Z,_,_,Z,Z,Z,.inl ⟨Z,_,(Q1 (Q2 Jf Z)),.inr ⟨Z,Z⟩⟩⟩,⟨⟨_,_,Z,Z,_,_,Z,Z,Z,.inl ⟨Z,_,(Q1 (Q6 JU Z Z Z)),.inr ⟨Z,Z⟩⟩⟩,⟨⟨_,_,Z,Z,_,_,Z,Z,Z,.inl ⟨Z,_,(Q1 (Q6 JU Z Z Z)),.inr ⟨Z,Z⟩⟩⟩,⟨⟨_,_,Z,Z,_,_,Z,Z,Z,.inl ⟨Z,_,(Q1 (Qq Z)),.inr ⟨Z,Z⟩⟩⟩,⟨⟨_,_,Z,Z,_,_,Z,Z,Z,.inl ⟨Z,_,(Q1 (Qq Z)),.inr ⟨Z,Z⟩⟩⟩,⟨⟨_,_,Z,Z,_,_,Z,Z,Z,.inl ⟨Z,_,(Q1 (Qt (α:=Fn) JA Z (.d _) Z hx29)),.inr ⟨Z,Z⟩⟩⟩,⟨⟨_,_,Z,Z,_,_,Z,Z,Z,.inl ⟨Z,_,(Q1 (Qt (α:=Fn) JA Z (.d _) Z hx29)),.inr ⟨Z,Z⟩⟩⟩,⟨⟨_,_,Z,Z,_,_,Z,Z,Z,.inl ⟨Z,_,(Q1 (Qu (x29:Fn) Z5 Z)),.inr ⟨Z,Z⟩⟩⟩,⟨⟨_,_,Z,Z,_,_,Z,Z,Z,.inl ⟨Z,_,(Q1 (Qu (x29:Fn) Z5 Z)),.inr ⟨Z,Z⟩⟩⟩,⟨⟨_,_,Z,Z,_,_,Z,Z,Z,.inl ⟨Z,_,(Q1 (Q2 Jf Z)),.inr ⟨Z,Z⟩⟩⟩,⟨⟨_,_,Z,Z,_,_,Z,Z,Z,.inl ⟨Z,_,(Q1 (Q2 Jf Z)),.inr ⟨Z,Z⟩⟩⟩,⟨⟨_,_,Z,Z,_,_,Z,Z,Z,.inl ⟨Z,_,(Q1 (Q2 Jf Z)),.inr ⟨Z,Z⟩⟩⟩,⟨⟨_,_,Z,Z,_,_,Z,Z,Z,.inl ⟨Z,_,(Q1 (Q6 JU Z Z Z)),.inr ⟨Z,Z⟩⟩⟩,⟨⟨_,_,Z,Z,_,_,Z,Z,Z,.inl ⟨Z,_,(Q1 (Q6 JU Z Z Z)),.inr ⟨Z,Z⟩⟩⟩,⟨⟨_,_,Z,Z,_,_,Z,Z,Z,.inl ⟨Z,_,(Q1 (Q6 JU Z Z Z)),.inr ⟨Z,Z⟩⟩⟩,⟨⟨_,_,Z,Z,_,_,Z,Z,Z,.inl ⟨Z,_,(Q1 (Qq Z)),.inr ⟨Z,Z⟩⟩⟩,⟨⟨_,_,Z,Z,_,_,Z,Z,Z,.inl ⟨Z,_,(Q1 (Qq Z)),.inr ⟨Z,Z⟩⟩⟩,⟨⟨_,_,Z,Z,_,_,Z,Z,Z,.inl ⟨Z,_,(Q1 (Qq Z)),.inr ⟨Z,Z⟩⟩⟩,⟨⟨_,_,Z,Z,_,_,Z,Z,Z,.inl ⟨Z,_,(Q1 (Qt (α:=Fn) JA Z (.d _) Z hx30)),.inr ⟨Z,Z⟩⟩⟩,⟨⟨_,_,Z,Z,_,_,Z,Z,Z,.inl ⟨Z,_,(Q1 (Qt (α:=Fn) JA Z (.d _) Z hx30)),.inr ⟨Z,Z⟩⟩⟩,⟨⟨_,_,Z,Z,_,_,Z,Z,Z,.inl ⟨Z,_,(Q1 (Qt (α:=Fn) JA Z (.d _) Z hx30)),.inr ⟨Z,Z⟩⟩⟩,⟨⟨_,_,Z,Z,_,_,Z,Z,Z,.inl ⟨Z,_,(Q1 (Qu (x30:Fn) Z5 Z)),.inr ⟨Z,Z⟩⟩⟩,⟨⟨_,_,Z,Z,_,_,Z,Z,Z,.inl ⟨Z,_,(Q1 (Qu (x30:Fn) Z5 Z)),.inr ⟨Z,Z⟩⟩⟩,⟨⟨_,_,Z,Z,_,_,Z,Z,Z,.inl ⟨Z,_,(Q1 (Qu (x30:Fn) Z5 Z)),.inr ⟨Z,Z⟩⟩⟩,trivial⟩⟩⟩⟩⟩⟩⟩⟩⟩⟩⟩⟩⟩⟩⟩⟩⟩⟩⟩⟩⟩⟩⟩⟩⟩,⟨_,⟨_,_,_,_,_,_,_,_,_,_,_,_,2,_,Z,Z,U9,Z,U9,Z,Z,Z,Z,Z,Z,Z,Z,Z,Z,Z,Z,Z⟩,⟨⟨_,_,Z,Z,Z,.inl ⟨Z,Q2 Jf Z⟩⟩,⟨⟨_,_,Z,Z,Z,.inl ⟨Z,Q6 JU Z Z Z⟩⟩,⟨⟨_,_,Z,Z,Z,.inl ⟨Z,Qq Z⟩⟩,⟨⟨_,_,Z,Z,Z,.inl ⟨Z,Qt (α:=Fn) JA Z (.d _) Z hx29⟩⟩,⟨⟨_,_,Z,Z,Z,.inl ⟨Z,Qu (x29:Fn) Z5 Z⟩⟩,⟨⟨_,_,Z,Z,Z,.inl ⟨Z,Q2 Jf Z⟩⟩,⟨⟨_,_,Z,Z,Z,.inl ⟨Z,Q6 JU Z Z Z⟩⟩,⟨⟨_,_,Z,Z,Z,.inl ⟨Z,Qq Z⟩⟩,⟨⟨_,_,Z,Z,Z,.inl ⟨Z,Qt (α:=Fn) JA Z (.d _) Z hx30⟩⟩,⟨⟨_,_,Z,Z,Z,.inl ⟨Z,Qu (x30:Fn) Z5 Z⟩⟩,trivial⟩⟩⟩⟩⟩⟩⟩⟩⟩⟩⟩,_,_,Z,?_⟩
 refine Jp (st':=⟨[(2,.v (.one (.ptr 0 0))),(3,.v (.one (.ptr 1 0))),(6,.v (.one (dI s1))),(7,.v (.one (.ptr 2 0))),(8,.v (.one (.ptr 3 0)))],m19_h0 a0 a1 x29 x30,[],4,156,[]⟩) (sL (Nat.zero_le _) Z Z Z Z Z)<|Q3<|Q4 ?_
 refine QD (fun (v31:Bool)=>⟨[(2,.v (.one (.ptr 0 0))),(3,.v (.one (.ptr 1 0))),(6,.v (.one (dI s1))),(155,.v (.one (dB v31)))],m19_h0 a0 a1 x29 x30,[],4,156,[]⟩) (fun (v31:Bool)=>(cond v31
     (some (.done (.inr false)))
     (some (.next (Ja (s1+1)))))=some oo1) ?_ ?_
 refine Qd h1 (fun w2_ h2 h1=>?_)
 refine Q0<|rR Z Z Z (Q2 Ki Z)<|rR Z Z Z (Q6 JG Z Z Z)<|rR Z Z Z (Q2 Ki Z)<|rR Z Z Z (Q6 JG Z Z Z)<|rR Z Z Z (Wy Z Z)<|rM Z Z Z ?_
 refine Qw (d:=133) (c:=(!(x29.name==x30.name))) Z (fun c32=>?_) (fun c32=>?_)
 replace h2:=Qf c32 h2
 refine Q7 Z Z<|Q7 Z Z<|Q7 Z Z<|Q7 Z Z<|Q7 Z Z<|rR Z Z Z (Qc Z Z)<|rM Z Z Z<|Q7 Z Z<|Q7 Z Z<|Q7 Z Z<|Q7 Z Z<|Q7 Z Z<|Q7 Z Z<|rR Z Z Z (Qc Z Z) ?_
 refine rM Z Z Z<|Q7 Z Z<|Q7 Z Z<|Q7 Z Z<|Q7 Z Z<|Q7 Z Z<|Q7 Z Z<|rR Z Z Z (Qc Z Z)<|Q5 ?_
 have e:=sI h2;subst e
 exact Q9 true (sL (Nat.zero_le _) Z Z Z Z Z) h1
 replace h2:=Qg c32 h2
 refine rR Z Z Z (Q2 KK Z)<|rR Z Z Z (Q6 QG Z Z Z)<|rR Z Z Z (Q2 KK Z)<|rR Z Z Z (Q6 QG Z Z Z)<|rR Z Z Z (Q8 Z Z Z)<|rR Z Z Z (Qa Z Z)<|rM Z Z Z ?_
 refine Qw (d:=140) (c:=(x29.arity != x30.arity)) Z (fun c33=>?_) (fun c33=>?_)
 replace h2:=Qf c33 h2
 refine Q7 Z Z<|Q7 Z Z<|Q7 Z Z<|Q7 Z Z<|Q7 Z Z<|Q7 Z Z<|rR Z Z Z (Qc Z Z)<|rM Z Z Z<|Q7 Z Z<|Q7 Z Z<|Q7 Z Z<|Q7 Z Z<|Q7 Z Z<|Q7 Z Z ?_
 refine rR Z Z Z (Qc Z Z)<|Q5 ?_
 have e:=sI h2;subst e
 exact Q9 true (sL (Nat.zero_le _) Z Z Z Z Z) h1
 replace h2:=Qg c33 h2
 refine rR Z Z Z (Q2 ZZ Z)<|rR Z Z Z (Qi QR Z Z Z Z)<|rR Z Z Z (Q2 ZZ Z)<|rR Z Z Z (Qi QR Z Z Z Z) ?_
 refine Qd h2 (fun x34 hx34 h2=>?_)
 refine Qb Z Z (lb Z) (Qh (GE x29.ty x30.ty x34 hx34) Z (.cons (.agg (.cons (.d _) (.cons (.d _) (.cons (.d _) (.cons (.d _) (.cons (.d _) .nil)))))) (.cons (.agg (.cons (.d _) (.cons (.d _) (.cons (.d _) (.cons (.d _) (.cons (.d _) .nil)))))) .nil)))<|rR Z Z Z (Jc Z)<|rR Z Z Z (Qa Z Z)<|rM Z Z Z ?_
 refine Qw (d:=148) (c:=(!x34)) Z (fun c35=>?_) (fun c35=>?_)
 replace h2:=Qf c35 h2
 refine Q7 Z Z<|Q7 Z Z<|Q7 Z Z<|Q7 Z Z<|Q7 Z Z<|Q7 Z Z<|rR Z Z Z (Qc Z Z)<|Q5 ?_
 have e:=sI h2;subst e
 exact Q9 true (sL (Nat.zero_le _) Z Z Z Z Z) h1
 replace h2:=Qg c35 h2
 refine rR Z Z Z (Q2 XX Z)<|rR Z Z Z (Qi Gy Z Z Z Z)<|rR Z Z Z (Q2 XX Z)<|rR Z Z Z (Qi Gy Z Z Z Z) ?_
 refine Qd h2 (fun x36 hx36 h2=>?_)
 refine Qb Z Z (lb Z) (Qh (m36_ok x29.tree x30.tree x36 hx36) Z (.cons (.agg (.cons (.d _) (.cons (.d _) (.cons (.d _) (.cons (.d _) (.cons (.d _) (.cons (.d _) (.cons (.d _) (.cons (.d _) .nil))))))))) (.cons (.agg (.cons (.d _) (.cons (.d _) (.cons (.d _) (.cons (.d _) (.cons (.d _) (.cons (.d _) (.cons (.d _) (.cons (.d _) .nil))))))))) .nil)))<|rR Z Z Z (Jc Z)<|rR Z Z Z (Qa Z Z)<|Q5 ?_
 have e:=sI h2;subst e
 exact Q9 (!x36) (sL (Nat.zero_le _) Z Z Z Z Z) h1
 intro v31 h1
 refine Q3 ?_
 refine Qe (b:=v31) Z (fun c37=>?_) (fun c37=>?_)
 replace h1:=Qf c37 h1
 refine Q4<|Q0<|rA Z Z Z<|Q5<|Q3<|Qp ?_
 have e:=sI h1;subst e
 have e_:_=_:=ho1
 subst e_
 try dsimp only [Sum.elim_inl,Sum.elim_inr] at h0
 have e:=sI h0;subst e
 exact Qn (fun _ _ h=>h) Z (Qm Z .nil) (.cons (.one (.d _)) .nil)
 replace h1:=Qg c37 h1
 refine Qj<|Qk<|Q3<|Q0<|rM Z Z Z<|rR Z Z Z (Q8 Z Z Z)<|rA Z Z Z<|Q5 ?_
 have e:=sI h1;subst e
 refine QJ (Ja (s1+1)) (sL (Nat.zero_le _) Z Z Z Z Z) ho1
 replace h1:=Qg c28 h1
 refine QW<|Qr<|Qr ?_
 have e:=sI h1;subst e
 have e_:_=_:=ho1
 subst e_
 exact QO () (sL (Nat.zero_le _) Z Z Z Z Z) h0
 intro o26 h0
 refine QF<|Q3<|Q4<|Q0<|rA Z Z Z<|Q5<|Q3<|Qp ?_
 have e:=sI h0;subst e
 exact Qn (fun _ _ h=>h) Z (Qm Z .nil) (.cons (.one (.d _)) .nil)
def m18 (a0:Ent) (a1:Ent):Option Bool :=
 Option.bind (cond (a0.kind==a1.kind)
   (cond (a0.decl==a1.decl)
   (cond (a0.item==a1.item)
   (cond (a0.params==a1.params)
   (Option.bind (D8 a0.ty a1.ty) fun (x6:Bool) =>
 some x6)
   (some false))
   (some false))
   (some false))
   (some false)) (fun (v1:Bool)=>some v1)
theorem m18_ok (a0:Ent) (a1:Ent) (r:Bool) (h0:m18 a0 a1=some r):Fun Try.prog 18 [.agg (cE a0),.agg (cE a1)] (QM [.one (dB r)]):=by
 unfold m18 at h0
 refine QB 9 38 Try.func18 Z en_18 Z (lb Z) (fun S w=>?_)
 simp only [J3]
 refine Q4<|Q0<|Qb Z Z (lb Z) (QN Z)<|Qb Z Z (lb Z) (QN Z)<|rA Z Z Z<|Q5<|Q3<|Q4 ?_
 refine QD (fun (v1:Bool)=>⟨[(4,.v (.one (dB v1)))],[(0,.cells 35 (cE a0)),(1,.cells 35 (cE a1))],[],2,38,[]⟩) (fun (v1:Bool)=>(some v1)=some r) ?_ ?_
 refine Qd h0 (fun w1_ h1 h0=>?_)
 refine Q0<|rR Z Z Z (Q2 Yx Z)<|rR Z Z Z (Q6 QG Z Z Z)<|rR Z Z Z (Q2 Yx Z)<|rR Z Z Z (Q6 QG Z Z Z)<|rR Z Z Z (Q8 Z Z Z)<|rM Z Z Z ?_
 refine Qw (d:=10) (c:=(a0.kind==a1.kind)) Z (fun c2=>?_) (fun c2=>?_)
 replace h1:=Qf c2 h1
 refine rR Z Z Z (Q2 K1 Z)<|rR Z Z Z (Q6 QG Z Z Z)<|rR Z Z Z (Q2 K1 Z)<|rR Z Z Z (Q6 QG Z Z Z)<|rR Z Z Z (Q8 Z Z Z)<|rR Z Z Z (Qc Z Z)<|rM Z Z Z ?_
 refine Qw (d:=17) (c:=(a0.decl==a1.decl)) Z (fun c3=>?_) (fun c3=>?_)
 replace h1:=Qf c3 h1
 refine rR Z Z Z (Q2 KM Z)<|rR Z Z Z (Q6 QG Z Z Z)<|rR Z Z Z (Q2 KM Z)<|rR Z Z Z (Q6 QG Z Z Z)<|rR Z Z Z (Q8 Z Z Z)<|rR Z Z Z (Qc Z Z)<|rM Z Z Z ?_
 refine Qw (d:=24) (c:=(a0.item==a1.item)) Z (fun c4=>?_) (fun c4=>?_)
 replace h1:=Qf c4 h1
 refine rR Z Z Z (Q2 XZ Z)<|rR Z Z Z (Q6 QG Z Z Z)<|rR Z Z Z (Q2 XZ Z)<|rR Z Z Z (Q6 QG Z Z Z)<|rR Z Z Z (Q8 Z Z Z)<|rR Z Z Z (Qc Z Z)<|rM Z Z Z ?_
 refine Qw (d:=31) (c:=(a0.params==a1.params)) Z (fun c5=>?_) (fun c5=>?_)
 replace h1:=Qf c5 h1
 refine rR Z Z Z (Q2 fo_35_4 Z)<|rR Z Z Z (Qi QR Z Z Z Z)<|rR Z Z Z (Q2 fo_35_4 Z)<|rR Z Z Z (Qi QR Z Z Z Z) ?_
 refine Qd h1 (fun x6 hx6 h1=>?_)
 refine Qb Z Z (lb Z) (Qh (GE a0.ty a1.ty x6 hx6) Z (.cons (.agg (.cons (.d _) (.cons (.d _) (.cons (.d _) (.cons (.d _) (.cons (.d _) .nil)))))) (.cons (.agg (.cons (.d _) (.cons (.d _) (.cons (.d _) (.cons (.d _) (.cons (.d _) .nil)))))) .nil)))<|rR Z Z Z (Qc Z Z)<|rA Z Z Z<|Q5 ?_
 have e:=sI h1;subst e
 exact Q9 x6 (sL (Nat.zero_le _) Z Z Z Z Z) h0
 replace h1:=Qg c5 h1
 refine Q7 Z Z<|Q7 Z Z<|Q7 Z Z<|Q7 Z Z<|Q7 Z Z<|rR Z Z Z (Qa Z Z)<|rA Z Z Z<|Q5 ?_
 have e:=sI h1;subst e
 exact Q9 false (sL (Nat.zero_le _) Z Z Z Z Z) h0
 replace h1:=Qg c4 h1
 refine Q7 Z Z<|Q7 Z Z<|Q7 Z Z<|Q7 Z Z<|Q7 Z Z<|rR Z Z Z (Qa Z Z)<|rM Z Z Z<|Q7 Z Z<|Q7 Z Z<|Q7 Z Z<|Q7 Z Z<|Q7 Z Z<|rR Z Z Z (Qa Z Z)<|rA Z Z Z ?_
 refine Q5 ?_
 have e:=sI h1;subst e
 exact Q9 false (sL (Nat.zero_le _) Z Z Z Z Z) h0
 replace h1:=Qg c3 h1
 refine Q7 Z Z<|Q7 Z Z<|Q7 Z Z<|Q7 Z Z<|Q7 Z Z<|rR Z Z Z (Qa Z Z)<|rM Z Z Z<|Q7 Z Z<|Q7 Z Z<|Q7 Z Z<|Q7 Z Z<|Q7 Z Z<|rR Z Z Z (Qa Z Z)<|rM Z Z Z ?_
 refine Q7 Z Z<|Q7 Z Z<|Q7 Z Z<|Q7 Z Z<|Q7 Z Z<|rR Z Z Z (Qa Z Z)<|rA Z Z Z<|Q5 ?_
 have e:=sI h1;subst e
 exact Q9 false (sL (Nat.zero_le _) Z Z Z Z Z) h0
 replace h1:=Qg c2 h1
 refine Q7 Z Z<|Q7 Z Z<|Q7 Z Z<|Q7 Z Z<|Q7 Z Z<|rR Z Z Z (Qa Z Z)<|rM Z Z Z<|Q7 Z Z<|Q7 Z Z<|Q7 Z Z<|Q7 Z Z<|Q7 Z Z<|rR Z Z Z (Qa Z Z)<|rM Z Z Z ?_
 refine Q7 Z Z<|Q7 Z Z<|Q7 Z Z<|Q7 Z Z<|Q7 Z Z<|rR Z Z Z (Qa Z Z)<|rM Z Z Z<|Q7 Z Z<|Q7 Z Z<|Q7 Z Z<|Q7 Z Z<|Q7 Z Z<|rR Z Z Z (Qa Z Z)<|rA Z Z Z ?_
 refine Q5 ?_
 have e:=sI h1;subst e
 exact Q9 false (sL (Nat.zero_le _) Z Z Z Z Z) h0
 intro v1 h0
 refine Q3<|Qp ?_
 have e:=sI h0;subst e
 exact Qn (fun _ _ h=>h) Z (Qm Z .nil) (.cons (.one (.d _)) .nil)
def m22_l0 (a0:List Bs) (a1:List Bs) (s1:Int):Option (LO Int (Unit⊕Bool)) :=
 cond (decide (s1 < (a0.length:Int)))
   (Option.bind (JP a0 s1) fun (x4:Bs) =>
 Option.bind (JP a1 s1) fun (x5:Bs) =>
 cond (!(x4==x5))
   (some (.done (.inr false)))
   (some (.next (Ja (s1+1)))))
   (some (.done (.inl ())))
def m22 (a0:List Bs) (a1:List Bs):Option Bool :=
 cond ((a0.length:Int) != (a1.length:Int))
   (some false)
   (Option.bind (QE (m22_l0 a0 a1) QU 0) (Sum.elim (fun (o2:Unit)=>some true) (fun o=>some o)))
theorem m22_ok (a0:List Bs) (a1:List Bs) (r:Bool) (h0:m22 a0 a1=some r):Fun Try.prog 22 [.one (dS a0),.one (dS a1)] (QM [.one (dB r)]):=by
 unfold m22 at h0
 refine QB 9 26 Try.func22 Z en_22 Z (lb Z) (fun S w=>?_)
 simp only [J3]
 refine Q4<|Q0<|rA Z Z Z<|Q5<|Q3<|Q4<|Q4<|Q0<|rM Z Z Z<|rR Z Z Z (Qx (α:=Bs) Ye Z (.d _))<|rM Z Z Z<|rR Z Z Z (Qx (α:=Bs) Ye Z (.d _))<|rR Z Z Z (Q8 Z Z Z)<|Q5 ?_
 refine Q3 ?_
 refine Qe (b:=((a0.length:Int) != (a1.length:Int))) Z (fun c1=>?_) (fun c1=>?_)
 replace h0:=Qf c1 h0
 refine Q4<|Q0<|rA Z Z Z<|Q5<|Q3<|Qp ?_
 have e:=sI h0;subst e
 exact Qn (fun _ _ h=>h) Z (Qm Z .nil) (.cons (.one (.d _)) .nil)
 replace h0:=Qg c1 h0
 refine Qj<|Q3<|Q4<|Q4<|Q0<|rA Z Z Z<|Q5<|Q3<|Ql ?_
 refine QQ 0 (fun (o2:Unit)=>⟨[],[],[],0,26,[]⟩) (fun (o2:Unit)=>(some true)=some r) ?_ ?_
 refine Qd h0 (fun o3 hl1 h0=>?_)
 refine QP (m22_l0 a0 a1) (fun s1=>⟨[(0,.v (.one (dS a0))),(1,.v (.one (dS a1))),(5,.v (.one (dI s1)))],[],[],0,26,[]⟩) 0 o3 (sL (Nat.zero_le _) Z Z Z Z Z) hl1 (fun s1 n1 oo1 h1 ho1=>?_)
 unfold m22_l0 at h1
 refine Q4<|Q4<|Q0<|rM Z Z Z<|rM Z Z Z<|rR Z Z Z (Qx (α:=Bs) Ye Z (.d _))<|rR Z Z Z (Q8 Z Z Z)<|Q5<|Q3 ?_
 refine Qe (b:=(decide (s1 < (a0.length:Int)))) Z (fun c4=>?_) (fun c4=>?_)
 replace h1:=Qf c4 h1
 refine Qj<|Q3<|Q4<|Ql<|Q4 ?_
 refine J4 [] [] JV (by kernel_rfl) (by kernel_rfl) (by kernel_rfl) ?_
 refine RunA.rd Z Z Z (Q1 (Qq Z)) Z<|RunA.rd Z Z Z (Q1 (Qq Z)) Z ?_
 refine Qd h1 (fun x5 hx5 h1=>?_)
 refine RunA.rd Z Z Z (Q1 (Qt (α:=Bs) Ye Z (.d _) Z hx5)) Z<|RunA.rd Z Z Z (Q1 (Jj JG Z Z)) Z<|RunA.rd Z Z Z (Q1 (Qq Z)) Z<|RunA.rd Z Z Z (Q1 (Qq Z)) Z ?_
 refine Qd h1 (fun x6 hx6 h1=>?_)
 refine RunA.rd Z Z Z (Q1 (Qt (α:=Bs) Ye Z (.d _) Z hx6)) Z<|RunA.rd Z Z Z (Q1 (Jj JG Z Z)) Z<|RunA.rd Z Z Z (Q1 (Wy Z Z)) Z ?_
 refine RunA.nil ⟨?ex,_,_,Z,?_⟩
 case ex=>exact trivial
 refine Jp (st':=⟨[(0,.v (.one (dS a0))),(1,.v (.one (dS a1))),(5,.v (.one (dI s1))),(25,.v (.one (dB (!(x5==x6)))))],[],[],0,26,[]⟩) (sL (Nat.zero_le _) Z Z Z Z Z)<|Q3 ?_
 refine Qe (b:=(!(x5==x6))) Z (fun c7=>?_) (fun c7=>?_)
 replace h1:=Qf c7 h1
 refine Q4<|Q0<|rA Z Z Z<|Q5<|Q3<|Qp ?_
 have e:=sI h1;subst e
 have e_:_=_:=ho1
 subst e_
 try dsimp only [Sum.elim_inl,Sum.elim_inr] at h0
 have e:=sI h0;subst e
 exact Qn (fun _ _ h=>h) Z (Qm Z .nil) (.cons (.one (.d _)) .nil)
 replace h1:=Qg c7 h1
 refine Qj<|Qk<|Q3<|Q0<|rM Z Z Z<|rR Z Z Z (Q8 Z Z Z)<|rA Z Z Z<|Q5 ?_
 have e:=sI h1;subst e
 refine QJ (Ja (s1+1)) (sL (Nat.zero_le _) Z Z Z Z Z) ho1
 replace h1:=Qg c4 h1
 refine QW<|Qr<|Qr ?_
 have e:=sI h1;subst e
 have e_:_=_:=ho1
 subst e_
 exact QO () (sL (Nat.zero_le _) Z Z Z Z Z) h0
 intro o2 h0
 refine QF<|Q3<|Q4<|Q0<|rA Z Z Z<|Q5<|Q3<|Qp ?_
 have e:=sI h0;subst e
 exact Qn (fun _ _ h=>h) Z (Qm Z .nil) (.cons (.one (.d _)) .nil)
end Go.Proofs.Ytafddfoefeploaa
namespace Go.Proofs.Ytafddfoefeploaa
open Go.RowKit Go.Shelf
theorem en_15:QY Try.prog 15:=enters_of Try.func15 (by kernel_rfl) rfl
theorem en_17:QY Try.prog 17:=enters_of Try.func17 (by kernel_rfl) rfl
theorem en_34:QY Try.prog 34:=enters_of Try.func34 (by kernel_rfl) rfl
def Wm (a0:Dcl) (a2:Bs) (a1:Int) (s1:Int):Option (LO Int (Unit⊕Ent)) :=
 cond (decide (s1 < (a0.ctors.length:Int)))
   (Option.bind (JP a0.ctors s1) fun (x8:Ctr) =>
 cond (x8.name==a2)
   (Option.bind (JP a0.ctors s1) fun (x10:Ctr) =>
 some (.done (.inr (⟨4,a1,s1,a0.params,x10.ty⟩:Ent))))
   (some (.next (Ja (s1+1)))))
   (some (.done (.inl ())))
def Wl (a0:Dcl) (a2:Bs) (a1:Int) (s1:Int):Option (LO Int (Unit⊕Ent)) :=
 cond (decide (s1 < (a0.funs.length:Int)))
   (Option.bind (JP a0.funs s1) fun (x14:Fn) =>
 cond (x14.name==a2)
   (Option.bind (JP a0.funs s1) fun (x16:Fn) =>
 some (.done (.inr (⟨6,a1,s1,a0.params,x16.ty⟩:Ent))))
   (some (.next (Ja (s1+1)))))
   (some (.done (.inl ())))
def DL (a0:Dcl) (a1:Int) (a2:Bs):Option Ent :=
 cond (a0.kind==0)
   (some (⟨0,a1,0,a0.params,a0.ty⟩:Ent))
   (cond (a0.kind==1)
   (some (⟨1,a1,0,a0.params,a0.ty⟩:Ent))
   (cond (a0.kind==2)
   (some (⟨2,a1,0,a0.params,a0.ty⟩:Ent))
   (cond (a0.kind==3)
   (cond (a2==a0.name)
   (some (⟨3,a1,0,a0.params,a0.ty⟩:Ent))
   (Option.bind (QE (Wm a0 a2 a1) QU 0) (Sum.elim (fun (o6:Unit)=>some (⟨5,a1,0,a0.rcr.params,a0.rcr.ty⟩:Ent)) (fun o=>some o))))
   (Option.bind (QE (Wl a0 a2 a1) QU 0) (Sum.elim (fun (o12:Unit)=>some (⟨0,a1,0,a0.params,a0.ty⟩:Ent)) (fun o=>some o))))))
theorem m34_ok (a0:Dcl) (a1:Int) (a2:Bs) (r:Ent) (h0:DL a0 a1 a2=some r):Fun Try.prog 34 [.agg (cE a0),.one (dI a1),.one (J6 a2)] (QM [.agg (cE r)]):=by
 unfold DL at h0
 refine QB 9 96 Try.func34 Z en_34 Z (lb Z) (fun S w=>?_)
 simp only [J3]
 refine Q4<|Q0<|Qb Z Z (lb Z) (QN Z)<|Qb Z Z (lb Z) (Qv Z7 Z)<|Q5<|Q3<|Q4<|Q0<|rM Z Z Z<|rR Z Z Z (Q2 Jz Z)<|rR Z Z Z (Q6 QG Z Z Z)<|rR Z Z Z (Q2 Zl Z)<|rR Z Z Z (Qi QR Z Z Z Z)<|rR Z Z Z (ZN Zs Z Z Z Z Z) ?_
 refine Qb Z Z (lb Z) (Qv Z7 Z)<|QC Z Z (Qz J8 Z Z Z Z (lb Z) Z)<|Q5<|Q3<|Q4<|Q4<|Q0<|rR Z Z Z (Q2 JN Z)<|rR Z Z Z (Q6 QG Z Z Z)<|Q5<|Q3<|Ql<|Q4<|Q0 ?_
 refine rR Z Z Z (Q8 Z Z Z)<|rA Z Z Z<|Q5<|Q3 ?_
 refine Qe (b:=(a0.kind==0)) Z (fun c1=>?_) (fun c1=>?_)
 replace h0:=Qf c1 h0
 refine Q0<|rR Z Z Z (Q2 Yx Z)<|QC Z Z (Qz QG Z Z Z Z (lb Z) Z)<|Q5<|Qk<|Q3<|Q4<|Q0<|rR Z Z Z (Qi J8 Z Z Z Z)<|QC Z Z (Qz J8 Z Z Z Z (lb Z) Z)<|Q5<|Q3<|Qp ?_
 have e:=sI h0;subst e
 exact Qn (fun _ _ h=>h) Z (JZ J8 Z Z Z Z .nil) (.cons (.agg (.cons (.d _) (.cons (.d _) (.cons (.d _) (.cons (.d _) (.cons (.d _) (.cons (.d _) (.cons (.d _) (.cons (.d _) (.cons (.d _) .nil)))))))))) .nil)
 replace h0:=Qg c1 h0
 refine Q4<|Q0<|rR Z Z Z (Q8 Z Z Z)<|rA Z Z Z<|Q5<|Q3 ?_
 refine Qe (b:=(a0.kind==1)) Z (fun c2=>?_) (fun c2=>?_)
 replace h0:=Qf c2 h0
 refine Q0<|rR Z Z Z (Q2 Yx Z)<|QC Z Z (Qz QG Z Z Z Z (lb Z) Z)<|Q5<|Qk<|Q3<|Q4<|Q0<|rR Z Z Z (Qi J8 Z Z Z Z)<|QC Z Z (Qz J8 Z Z Z Z (lb Z) Z)<|Q5<|Q3<|Qp ?_
 have e:=sI h0;subst e
 exact Qn (fun _ _ h=>h) Z (JZ J8 Z Z Z Z .nil) (.cons (.agg (.cons (.d _) (.cons (.d _) (.cons (.d _) (.cons (.d _) (.cons (.d _) (.cons (.d _) (.cons (.d _) (.cons (.d _) (.cons (.d _) .nil)))))))))) .nil)
 replace h0:=Qg c2 h0
 refine Q4<|Q0<|rR Z Z Z (Q8 Z Z Z)<|rA Z Z Z<|Q5<|Q3 ?_
 refine Qe (b:=(a0.kind==2)) Z (fun c3=>?_) (fun c3=>?_)
 replace h0:=Qf c3 h0
 refine Q0<|rR Z Z Z (Q2 Yx Z)<|QC Z Z (Qz QG Z Z Z Z (lb Z) Z)<|Q5<|Qk<|Q3<|Q4<|Q0<|rR Z Z Z (Qi J8 Z Z Z Z)<|QC Z Z (Qz J8 Z Z Z Z (lb Z) Z)<|Q5<|Q3<|Qp ?_
 have e:=sI h0;subst e
 exact Qn (fun _ _ h=>h) Z (JZ J8 Z Z Z Z .nil) (.cons (.agg (.cons (.d _) (.cons (.d _) (.cons (.d _) (.cons (.d _) (.cons (.d _) (.cons (.d _) (.cons (.d _) (.cons (.d _) (.cons (.d _) .nil)))))))))) .nil)
 replace h0:=Qg c3 h0
 refine Q4<|Q0<|rR Z Z Z (Q8 Z Z Z)<|rA Z Z Z<|Q5<|Q3 ?_
 refine Qe (b:=(a0.kind==3)) Z (fun c4=>?_) (fun c4=>?_)
 replace h0:=Qf c4 h0
 refine Q4<|Q0<|rR Z Z Z (Q2 Yx Z)<|QC Z Z (Qz QG Z Z Z Z (lb Z) Z)<|Q5<|Q3<|Q4<|Q4<|Q0<|rM Z Z Z<|rR Z Z Z (Q2 JY Z)<|rR Z Z Z (Q6 JG Z Z Z)<|rR Z Z Z (ZG Z Z)<|Q5 ?_
 refine Q3 ?_
 refine Qe (b:=(a2==a0.name)) Z (fun c5=>?_) (fun c5=>?_)
 replace h0:=Qf c5 h0
 refine Q4<|Q0<|rR Z Z Z (Qi J8 Z Z Z Z)<|QC Z Z (Qz J8 Z Z Z Z (lb Z) Z)<|Q5<|Q3<|Qp ?_
 have e:=sI h0;subst e
 exact Qn (fun _ _ h=>h) Z (JZ J8 Z Z Z Z .nil) (.cons (.agg (.cons (.d _) (.cons (.d _) (.cons (.d _) (.cons (.d _) (.cons (.d _) (.cons (.d _) (.cons (.d _) (.cons (.d _) (.cons (.d _) .nil)))))))))) .nil)
 replace h0:=Qg c5 h0
 refine Qj<|Q3<|Q4<|Q4<|Q0<|rA Z Z Z<|Q5<|Q3<|Ql ?_
 refine QQ 3 (fun (o6:Unit)=>⟨[(1,.v (.one (dI a1))),(3,.v (.one (.ptr 0 0))),(6,.v (.one (.ptr 1 0)))],[(0,.cells 45 (cE a0)),(1,.cells 35 [dI 0,dI 0,dI 0,dI 0,dI 0,dI 0,J6 ([]:List UInt8),dN,dN]),(2,.cells 35 [dI 3,dI a1,dI 0,dI a0.params,dI a0.ty.kind,dI a0.ty.index,J6 a0.ty.name,dS a0.ty.levels,dS a0.ty.kids])],[],3,96,[]⟩) (fun (o6:Unit)=>(some (⟨5,a1,0,a0.rcr.params,a0.rcr.ty⟩:Ent))=some r) ?_ ?_
 refine Qd h0 (fun o7 hl1 h0=>?_)
 refine QP (Wm a0 a2 a1) (fun s1=>⟨[(1,.v (.one (dI a1))),(2,.v (.one (J6 a2))),(3,.v (.one (.ptr 0 0))),(6,.v (.one (.ptr 1 0))),(8,.v (.one (dI s1)))],[(0,.cells 45 (cE a0)),(1,.cells 35 [dI 0,dI 0,dI 0,dI 0,dI 0,dI 0,J6 ([]:List UInt8),dN,dN]),(2,.cells 35 [dI 3,dI a1,dI 0,dI a0.params,dI a0.ty.kind,dI a0.ty.index,J6 a0.ty.name,dS a0.ty.levels,dS a0.ty.kids])],[],3,96,[]⟩) 0 o7 (sL (Nat.zero_le _) Z Z Z Z Z) hl1 (fun s1 n1 oo1 h1 ho1=>?_)
 unfold Wm at h1
 refine Q4<|Q4<|Q0<|rM Z Z Z<|rR Z Z Z (Q2 Js Z)<|rR Z Z Z (Q6 Yd Z Z Z)<|rR Z Z Z (Qx (α:=Ctr) JX Z (.d _))<|rR Z Z Z (Q8 Z Z Z)<|Q5<|Q3 ?_
 refine Qe (b:=(decide (s1 < (a0.ctors.length:Int)))) Z (fun c8=>?_) (fun c8=>?_)
 replace h1:=Qf c8 h1
 refine Qj<|Q3<|Q4<|Ql<|Q4<|Q0<|rR Z Z Z (Q2 Js Z)<|rR Z Z Z (Q6 Yd Z Z Z)<|rM Z Z Z ?_
 refine Qd h1 (fun x9 hx9 h1=>?_)
 refine rR Z Z Z (Qt (α:=Ctr) JX Z (.d _) Z hx9)<|rR Z Z Z (J5 ZB Z)<|rR Z Z Z (Jj JG Z Z)<|rM Z Z Z<|rR Z Z Z (ZG Z Z)<|Q5<|Q3 ?_
 refine Qe (b:=(x9.name==a2)) Z (fun c10=>?_) (fun c10=>?_)
 replace h1:=Qf c10 h1
 refine Q4 ?_
 refine J4 [11] [] JV (by kernel_rfl) (by kernel_rfl) (by kernel_rfl) ?_
 refine RunA.rd Z Z Z (Q1 (Qq Z)) Z<|RunA.rd Z Z Z (Q1 (Qq Z)) Z<|RunA.rd Z Z Z (Q1 (Q2 Jz Z)) Z<|RunA.rd Z Z Z (Q1 (Q6 QG Z Z Z)) Z<|RunA.rd Z Z Z (Q1 (Q2 Js Z)) Z<|RunA.rd Z Z Z (Q1 (Q6 Yd Z Z Z)) Z<|RunA.rd Z Z Z (Q1 (Qq Z)) Z ?_
 refine Qd h1 (fun x11 hx11 h1=>?_)
 refine RunA.rd Z Z Z (Q1 (Qt (α:=Ctr) JX Z (.d _) Z hx11)) Z<|RunA.rd Z Z Z (Q1 (J5 Za Z)) Z<|RunA.rd Z Z Z (Q1 (Jr QR Z Z Z)) Z<|RunA.rd Z Z Z (Q1 (Y1 Zs Z (.cons Z (.cons Z (.cons Z (.cons Z (.cons Z .nil))))) Z)) Z<|RunA.eff Z Z Z (Qz J8 Z Z Z Z (lb Z) Z) Z ?_
 refine RunA.nil ⟨?ex,_,_,Z,?_⟩
 case ex=>exact trivial
 refine Jp (st':=⟨[(6,.v (.one (.ptr 1 0)))],[(0,.cells 45 (cE a0)),(1,.cells 35 [dI 4,dI a1,dI s1,dI a0.params,dI x11.ty.kind,dI x11.ty.index,J6 x11.ty.name,dS x11.ty.levels,dS x11.ty.kids]),(2,.cells 35 [dI 3,dI a1,dI 0,dI a0.params,dI a0.ty.kind,dI a0.ty.index,J6 a0.ty.name,dS a0.ty.levels,dS a0.ty.kids])],[],3,96,[]⟩) (sL (Nat.zero_le _) Z Z Z Z Z)<|Q3<|Qp ?_
 have e:=sI h1;subst e
 have e_:_=_:=ho1
 subst e_
 try dsimp only [Sum.elim_inl,Sum.elim_inr] at h0
 have e:=sI h0;subst e
 exact Qn (fun _ _ h=>h) Z (JZ J8 Z Z Z Z .nil) (.cons (.agg (.cons (.d _) (.cons (.d _) (.cons (.d _) (.cons (.d _) (.cons (.d _) (.cons (.d _) (.cons (.d _) (.cons (.d _) (.cons (.d _) .nil)))))))))) .nil)
 replace h1:=Qg c10 h1
 refine Qj<|Qk<|Q3<|Q0<|rM Z Z Z<|rR Z Z Z (Q8 Z Z Z)<|rA Z Z Z<|Q5 ?_
 have e:=sI h1;subst e
 refine QJ (Ja (s1+1)) (sL (Nat.zero_le _) Z Z Z Z Z) ho1
 replace h1:=Qg c8 h1
 refine QW<|Qr<|Qr ?_
 have e:=sI h1;subst e
 have e_:_=_:=ho1
 subst e_
 exact QO () (sL (Nat.zero_le _) Z Z Z Z Z) h0
 intro o6 h0
 refine QF<|Q3<|Q4<|Q0<|rM Z Z Z<|rR Z Z Z (Q2 Jo Z)<|rR Z Z Z (Q2 YJ Z)<|rR Z Z Z (Q6 QG Z Z Z)<|rR Z Z Z (Q2 Jo Z)<|rR Z Z Z (Q2 Zq Z)<|rR Z Z Z (Qi QR Z Z Z Z)<|rR Z Z Z (Y1 Zs Z (.cons Z (.cons Z (.cons Z (.cons Z .nil)))) Z)<|QC Z Z (Qz J8 Z Z Z Z (lb Z) Z)<|Q5 ?_
 refine Q3<|Qp ?_
 have e:=sI h0;subst e
 exact Qn (fun _ _ h=>h) Z (JZ J8 Z Z Z Z .nil) (.cons (.agg (.cons (.d _) (.cons (.d _) (.cons (.d _) (.cons (.d _) (.cons (.d _) (.cons (.d _) (.cons (.d _) (.cons (.d _) (.cons (.d _) .nil)))))))))) .nil)
 replace h0:=Qg c4 h0
 refine Q4<|Q0<|rA Z Z Z<|Q5<|Q3<|Ql ?_
 refine QQ 1 (fun (o12:Unit)=>⟨[(6,.v (.one (.ptr 1 0))),(7,.v (.one (.ptr 2 0)))],[(0,.cells 45 (cE a0)),(1,.cells 35 [dI 0,dI 0,dI 0,dI 0,dI 0,dI 0,J6 ([]:List UInt8),dN,dN]),(2,.cells 35 [dI 0,dI a1,dI 0,dI a0.params,dI a0.ty.kind,dI a0.ty.index,J6 a0.ty.name,dS a0.ty.levels,dS a0.ty.kids])],[],3,96,[]⟩) (fun (o12:Unit)=>(some (⟨0,a1,0,a0.params,a0.ty⟩:Ent))=some r) ?_ ?_
 refine Qd h0 (fun o13 hl1 h0=>?_)
 refine QP (Wl a0 a2 a1) (fun s1=>⟨[(1,.v (.one (dI a1))),(2,.v (.one (J6 a2))),(3,.v (.one (.ptr 0 0))),(6,.v (.one (.ptr 1 0))),(7,.v (.one (.ptr 2 0))),(9,.v (.one (dI s1)))],[(0,.cells 45 (cE a0)),(1,.cells 35 [dI 0,dI 0,dI 0,dI 0,dI 0,dI 0,J6 ([]:List UInt8),dN,dN]),(2,.cells 35 [dI 0,dI a1,dI 0,dI a0.params,dI a0.ty.kind,dI a0.ty.index,J6 a0.ty.name,dS a0.ty.levels,dS a0.ty.kids])],[],3,96,[]⟩) 0 o13 (sL (Nat.zero_le _) Z Z Z Z Z) hl1 (fun s1 n1 oo1 h1 ho1=>?_)
 unfold Wl at h1
 refine Q4<|Q4<|Q0<|rM Z Z Z<|rR Z Z Z (Q2 Jf Z)<|rR Z Z Z (Q6 JU Z Z Z)<|rR Z Z Z (Qx (α:=Fn) JA Z (.d _))<|rR Z Z Z (Q8 Z Z Z)<|Q5<|Q3 ?_
 refine Qe (b:=(decide (s1 < (a0.funs.length:Int)))) Z (fun c14=>?_) (fun c14=>?_)
 replace h1:=Qf c14 h1
 refine Qj<|Q3<|Q4<|Ql<|Q4<|Q0<|rR Z Z Z (Q2 Jf Z)<|rR Z Z Z (Q6 JU Z Z Z)<|rM Z Z Z ?_
 refine Qd h1 (fun x15 hx15 h1=>?_)
 refine rR Z Z Z (Qt (α:=Fn) JA Z (.d _) Z hx15)<|rR Z Z Z (J5 Ki Z)<|rR Z Z Z (Jj JG Z Z)<|rM Z Z Z<|rR Z Z Z (ZG Z Z)<|Q5<|Q3 ?_
 refine Qe (b:=(x15.name==a2)) Z (fun c16=>?_) (fun c16=>?_)
 replace h1:=Qf c16 h1
 refine Q4 ?_
 refine J4 [11] [] JV (by kernel_rfl) (by kernel_rfl) (by kernel_rfl) ?_
 refine RunA.rd Z Z Z (Q1 (Qq Z)) Z<|RunA.rd Z Z Z (Q1 (Qq Z)) Z<|RunA.rd Z Z Z (Q1 (Q2 Jz Z)) Z<|RunA.rd Z Z Z (Q1 (Q6 QG Z Z Z)) Z<|RunA.rd Z Z Z (Q1 (Q2 Jf Z)) Z<|RunA.rd Z Z Z (Q1 (Q6 JU Z Z Z)) Z<|RunA.rd Z Z Z (Q1 (Qq Z)) Z ?_
 refine Qd h1 (fun x17 hx17 h1=>?_)
 refine RunA.rd Z Z Z (Q1 (Qt (α:=Fn) JA Z (.d _) Z hx17)) Z<|RunA.rd Z Z Z (Q1 (J5 ZZ Z)) Z<|RunA.rd Z Z Z (Q1 (Jr QR Z Z Z)) Z<|RunA.rd Z Z Z (Q1 (Y1 Zs Z (.cons Z (.cons Z (.cons Z (.cons Z (.cons Z .nil))))) Z)) Z<|RunA.eff Z Z Z (Qz J8 Z Z Z Z (lb Z) Z) Z ?_
 refine RunA.nil ⟨?ex,_,_,Z,?_⟩
 case ex=>exact trivial
 refine Jp (st':=⟨[(6,.v (.one (.ptr 1 0)))],[(0,.cells 45 (cE a0)),(1,.cells 35 [dI 6,dI a1,dI s1,dI a0.params,dI x17.ty.kind,dI x17.ty.index,J6 x17.ty.name,dS x17.ty.levels,dS x17.ty.kids]),(2,.cells 35 [dI 0,dI a1,dI 0,dI a0.params,dI a0.ty.kind,dI a0.ty.index,J6 a0.ty.name,dS a0.ty.levels,dS a0.ty.kids])],[],3,96,[]⟩) (sL (Nat.zero_le _) Z Z Z Z Z)<|Q3<|Qp ?_
 have e:=sI h1;subst e
 have e_:_=_:=ho1
 subst e_
 try dsimp only [Sum.elim_inl,Sum.elim_inr] at h0
 have e:=sI h0;subst e
 exact Qn (fun _ _ h=>h) Z (JZ J8 Z Z Z Z .nil) (.cons (.agg (.cons (.d _) (.cons (.d _) (.cons (.d _) (.cons (.d _) (.cons (.d _) (.cons (.d _) (.cons (.d _) (.cons (.d _) (.cons (.d _) .nil)))))))))) .nil)
 replace h1:=Qg c16 h1
 refine Qj<|Qk<|Q3<|Q0<|rM Z Z Z<|rR Z Z Z (Q8 Z Z Z)<|rA Z Z Z<|Q5 ?_
 have e:=sI h1;subst e
 refine QJ (Ja (s1+1)) (sL (Nat.zero_le _) Z Z Z Z Z) ho1
 replace h1:=Qg c14 h1
 refine QW<|Qr<|Qr ?_
 have e:=sI h1;subst e
 have e_:_=_:=ho1
 subst e_
 exact QO () (sL (Nat.zero_le _) Z Z Z Z Z) h0
 intro o12 h0
 refine QF<|Qk<|Q3<|Q4<|Q0<|rR Z Z Z (Qi J8 Z Z Z Z)<|QC Z Z (Qz J8 Z Z Z Z (lb Z) Z)<|Q5<|Q3<|Qp ?_
 have e:=sI h0;subst e
 exact Qn (fun _ _ h=>h) Z (JZ J8 Z Z Z Z .nil) (.cons (.agg (.cons (.d _) (.cons (.d _) (.cons (.d _) (.cons (.d _) (.cons (.d _) (.cons (.d _) (.cons (.d _) (.cons (.d _) (.cons (.d _) .nil)))))))))) .nil)
def Ur (a0:List Dcl) (a1:Bs) (s1:Int):Option (LO Int (Unit⊕(Ent×Int))) :=
 cond (decide (s1 < (a0.length:Int)))
   (Option.bind (JP a0 s1) fun (x3:Dcl) =>
 Option.bind (Dz x3) fun (x4:(List Bs)) =>
 Option.bind (Dj x4 a1) fun (x5:Bool) =>
 cond x5
   (Option.bind (JP a0 s1) fun (x7:Dcl) =>
 Option.bind (DL x7 s1 a1) fun (x8:Ent) =>
 some (.done (.inr (x8,0))))
   (some (.next (Ja (s1+1)))))
   (some (.done (.inl ())))
def DG (a0:List Dcl) (a1:Bs):Option (Ent×Int) :=
 Option.bind (QE (Ur a0 a1) QU 0) (Sum.elim (fun (o1:Unit)=>some ((⟨0,0,0,0,(Tm.mk 0 0 ([]:List UInt8) ([]:List Lvl) ([]:List Tm))⟩:Ent),9)) (fun o=>some o))
theorem Uq (a0:List Dcl) (a1:Bs) (r:Ent×Int) (h0:DG a0 a1=some r):Fun Try.prog 15 [.one (dS a0),.one (J6 a1)] (QM [.agg (cE r.1),.one (dI r.2)]):=by
 unfold DG at h0
 refine QB 9 28 Try.func15 Z en_15 Z (lb Z) (fun S w=>?_)
 simp only [J3]
 refine Q4<|Q0<|Qb Z Z (lb Z) (Qv Z7 Z)<|rA Z Z Z<|Q5<|Q3<|Q4<|Q4<|Q0<|rA Z Z Z<|Q5<|Q3<|Ql ?_
 refine QQ 0 (fun (o1:Unit)=>⟨[(4,.v (.one (.ptr 0 0)))],[(0,.cells 35 [dI 0,dI 0,dI 0,dI 0,dI 0,dI 0,J6 ([]:List UInt8),dN,dN])],[],1,28,[]⟩) (fun (o1:Unit)=>(some ((⟨0,0,0,0,(Tm.mk 0 0 ([]:List UInt8) ([]:List Lvl) ([]:List Tm))⟩:Ent),9))=some r) ?_ ?_
 refine Qd h0 (fun o2 hl1 h0=>?_)
 refine QP (Ur a0 a1) (fun s1=>⟨[(0,.v (.one (dS a0))),(1,.v (.one (J6 a1))),(4,.v (.one (.ptr 0 0))),(6,.v (.one (dI s1)))],[(0,.cells 35 [dI 0,dI 0,dI 0,dI 0,dI 0,dI 0,J6 ([]:List UInt8),dN,dN])],[],1,28,[]⟩) 0 o2 (sL (Nat.zero_le _) Z Z Z Z Z) hl1 (fun s1 n1 oo1 h1 ho1=>?_)
 unfold Ur at h1
 refine Q4<|Q4<|Q0<|rM Z Z Z<|rM Z Z Z<|rR Z Z Z (Qx (α:=Dcl) YE Z (.d _))<|rR Z Z Z (Q8 Z Z Z)<|Q5<|Q3 ?_
 refine Qe (b:=(decide (s1 < (a0.length:Int)))) Z (fun c3=>?_) (fun c3=>?_)
 replace h1:=Qf c3 h1
 refine Qj<|Q3<|Q4<|Ql<|Q4<|Q0<|rM Z Z Z<|rM Z Z Z ?_
 refine Qd h1 (fun x4 hx4 h1=>?_)
 refine rR Z Z Z (Qt (α:=Dcl) YE Z (.d _) Z hx4)<|rR Z Z Z (Qu (x4:Dcl) Jq Z) ?_
 refine Qd h1 (fun x5 hx5 h1=>?_)
 refine Qb Z Z (lb Z) (Qh (WX x4 x5 hx5) Z (.cons (.agg (.cons (.d _) (.cons (.d _) (.cons (.d _) (.cons (.d _) (.cons (.d _) (.cons (.d _) (.cons (.d _) (.cons (.d _) (.cons (.d _) (.cons (.d _) (.cons (.d _) (.cons (.d _) (.cons (.d _) (.cons (.d _) (.cons (.d _) (.cons (.d _) (.cons (.d _) (.cons (.d _) (.cons (.d _) (.cons (.d _) (.cons (.d _) (.cons (.d _) (.cons (.d _) .nil)))))))))))))))))))))))) .nil))<|rM Z Z Z ?_
 refine Qd h1 (fun x6 hx6 h1=>?_)
 refine Qb Z Z (lb Z) (Qh (m33_ok x5 a1 x6 hx6) Z (.cons (.one (.d _)) (.cons (.one (.d _)) .nil)))<|Q5<|Q3 ?_
 refine Qe (b:=x6) Z (fun c7=>?_) (fun c7=>?_)
 replace h1:=Qf c7 h1
 refine Q4<|Q0<|rM Z Z Z<|rM Z Z Z ?_
 refine Qd h1 (fun x8 hx8 h1=>?_)
 refine rR Z Z Z (Qt (α:=Dcl) YE Z (.d _) Z hx8)<|rR Z Z Z (Qu (x8:Dcl) Jq Z)<|rM Z Z Z<|rM Z Z Z ?_
 refine Qd h1 (fun x9 hx9 h1=>?_)
 refine Qb Z Z (lb Z) (Qh (m34_ok x8 s1 a1 x9 hx9) Z (.cons (.agg (.cons (.d _) (.cons (.d _) (.cons (.d _) (.cons (.d _) (.cons (.d _) (.cons (.d _) (.cons (.d _) (.cons (.d _) (.cons (.d _) (.cons (.d _) (.cons (.d _) (.cons (.d _) (.cons (.d _) (.cons (.d _) (.cons (.d _) (.cons (.d _) (.cons (.d _) (.cons (.d _) (.cons (.d _) (.cons (.d _) (.cons (.d _) (.cons (.d _) (.cons (.d _) .nil)))))))))))))))))))))))) (.cons (.one (.d _)) (.cons (.one (.d _)) .nil))))<|QC Z Z (QA (x9:Ent) J8 Z Z Z Z Z)<|rA Z Z Z<|Q5<|Q3<|Qp ?_
 have e:=sI h1;subst e
 have e_:_=_:=ho1
 subst e_
 try dsimp only [Sum.elim_inl,Sum.elim_inr] at h0
 have e:=sI h0;subst e
 exact Qn (fun _ _ h=>h) Z (JZ J8 Z Z Z Z (Qm Z .nil)) (.cons (.agg (.cons (.d _) (.cons (.d _) (.cons (.d _) (.cons (.d _) (.cons (.d _) (.cons (.d _) (.cons (.d _) (.cons (.d _) (.cons (.d _) .nil)))))))))) (.cons (.one (.d _)) .nil))
 replace h1:=Qg c7 h1
 refine Qj<|Qk<|Q3<|Q0<|rM Z Z Z<|rR Z Z Z (Q8 Z Z Z)<|rA Z Z Z<|Q5 ?_
 have e:=sI h1;subst e
 refine QJ (Ja (s1+1)) (sL (Nat.zero_le _) Z Z Z Z Z) ho1
 replace h1:=Qg c3 h1
 refine QW<|Qr<|Qr ?_
 have e:=sI h1;subst e
 have e_:_=_:=ho1
 subst e_
 exact QO () (sL (Nat.zero_le _) Z Z Z Z Z) h0
 intro o1 h0
 refine QF<|Q3<|Q4<|Q0<|rR Z Z Z (Zi Zs Z )<|QC Z Z (Qz J8 Z Z Z Z (lb Z) Z)<|rA Z Z Z<|Q5<|Q3<|Qp ?_
 have e:=sI h0;subst e
 exact Qn (fun _ _ h=>h) Z (JZ J8 Z Z Z Z (Qm Z .nil)) (.cons (.agg (.cons (.d _) (.cons (.d _) (.cons (.d _) (.cons (.d _) (.cons (.d _) (.cons (.d _) (.cons (.d _) (.cons (.nil _) (.cons (.nil _) .nil)))))))))) (.cons (.one (.d _)) .nil))
def m17 (a0:List Dcl) (a1:Bs):Option (Dcl×Int×Bool) :=
 Option.bind (DG a0 a1) fun (x1:Ent×Int) =>
 cond (x1.2 != 0)
   (some ((⟨0,([]:List UInt8),0,(Tm.mk 0 0 ([]:List UInt8) ([]:List Lvl) ([]:List Tm)),(Tm.mk 0 0 ([]:List UInt8) ([]:List Lvl) ([]:List Tm)),0,([]:List Ctr),(⟨0,(Tm.mk 0 0 ([]:List UInt8) ([]:List Lvl) ([]:List Tm)),([]:List Tm)⟩:Rcr),([]:List Fn)⟩:Dcl),0,false))
   (cond (x1.1.kind==3)
   (Option.bind (JP a0 x1.1.decl) fun (x4:Dcl) =>
 some (x4,(-1),true))
   (cond (x1.1.kind==4)
   (Option.bind (JP a0 x1.1.decl) fun (x6:Dcl) =>
 some (x6,x1.1.item,true))
   (cond (x1.1.kind==5)
   (Option.bind (JP a0 x1.1.decl) fun (x8:Dcl) =>
 some (x8,(-2),true))
   (some ((⟨0,([]:List UInt8),0,(Tm.mk 0 0 ([]:List UInt8) ([]:List Lvl) ([]:List Tm)),(Tm.mk 0 0 ([]:List UInt8) ([]:List Lvl) ([]:List Tm)),0,([]:List Ctr),(⟨0,(Tm.mk 0 0 ([]:List UInt8) ([]:List Lvl) ([]:List Tm)),([]:List Tm)⟩:Rcr),([]:List Fn)⟩:Dcl),0,false)))))
theorem m17_ok (a0:List Dcl) (a1:Bs) (r:Dcl×Int×Bool) (h0:m17 a0 a1=some r):Fun Try.prog 17 [.one (dS a0),.one (J6 a1)] (QM [.agg (cE r.1),.one (dI r.2.1),.one (dB r.2.2)]):=by
 unfold m17 at h0
 refine QB 9 44 Try.func17 Z en_17 Z (lb Z) (fun S w=>?_)
 simp only [J3]
 refine Q4<|Q0<|Qb Z Z (lb Z) (Qv WK Z)<|rA Z Z Z<|rA Z Z Z<|Q5<|Q3<|Q4<|Q0<|rM Z Z Z<|rM Z Z Z ?_
 refine Qd h0 (fun x1 hx1 h0=>?_)
 refine Qb Z Z (lb Z) (Qh (Uq a0 a1 x1 hx1) Z (.cons (.one (.d _)) (.cons (.one (.d _)) .nil)))<|rM Z Z Z<|rR Z Z Z (QX Z Z)<|rR Z Z Z (QX Z Z)<|Qb Z Z (lb Z) (Qv Z7 Z)<|QC Z Z (QA (x1.1:Ent) J8 Z Z Z Z Z)<|rA Z Z Z<|Q5<|Q3<|Q4<|Q4<|Q0<|rM Z Z Z<|rR Z Z Z (Q8 Z Z Z) ?_
 refine Q5<|Q3 ?_
 refine Qe (b:=(x1.2 != 0)) Z (fun c2=>?_) (fun c2=>?_)
 replace h0:=Qf c2 h0
 refine Q4<|Q0<|rR Z Z Z (Zi UY Z )<|QC Z Z (Qz Jq Z Z Z Z (lb Z) Z)<|rA Z Z Z<|rA Z Z Z<|Q5<|Q3<|Qp ?_
 have e:=sI h0;subst e
 exact Qn (fun _ _ h=>h) Z (JZ Jq Z Z Z Z (Qm Z (Qm Z .nil))) (.cons (.agg (.cons (.d _) (.cons (.d _) (.cons (.d _) (.cons (.d _) (.cons (.d _) (.cons (.d _) (.cons (.nil _) (.cons (.nil _) (.cons (.d _) (.cons (.d _) (.cons (.d _) (.cons (.nil _) (.cons (.nil _) (.cons (.d _) (.cons (.nil _) (.cons (.d _) (.cons (.d _) (.cons (.d _) (.cons (.d _) (.cons (.nil _) (.cons (.nil _) (.cons (.nil _) (.cons (.nil _) .nil)))))))))))))))))))))))) (.cons (.one (.d _)) (.cons (.one (.d _)) .nil)))
 replace h0:=Qg c2 h0
 refine Qj<|Q3<|Q4<|Q4<|Q0<|rR Z Z Z (Q2 Yx Z)<|rR Z Z Z (Q6 QG Z Z Z)<|Q5<|Q3<|Ql<|Q4<|Q0<|rR Z Z Z (Q8 Z Z Z)<|rA Z Z Z ?_
 refine Q5<|Q3 ?_
 refine Qe (b:=(x1.1.kind==3)) Z (fun c3=>?_) (fun c3=>?_)
 replace h0:=Qf c3 h0
 refine Q4<|Q0<|rM Z Z Z<|rR Z Z Z (Q2 K1 Z)<|rR Z Z Z (Q6 QG Z Z Z) ?_
 refine Qd h0 (fun x4 hx4 h0=>?_)
 refine rR Z Z Z (Qt (α:=Dcl) YE Z (.d _) Z hx4)<|rR Z Z Z (Qu (x4:Dcl) Jq Z)<|QC Z Z (QA (x4:Dcl) Jq Z Z Z Z Z)<|rA Z Z Z<|rA Z Z Z<|Q5<|Q3<|Qp ?_
 have e:=sI h0;subst e
 exact Qn (fun _ _ h=>h) Z (JZ Jq Z Z Z Z (Qm Z (Qm Z .nil))) (.cons (.agg (.cons (.d _) (.cons (.d _) (.cons (.d _) (.cons (.d _) (.cons (.d _) (.cons (.d _) (.cons (.d _) (.cons (.d _) (.cons (.d _) (.cons (.d _) (.cons (.d _) (.cons (.d _) (.cons (.d _) (.cons (.d _) (.cons (.d _) (.cons (.d _) (.cons (.d _) (.cons (.d _) (.cons (.d _) (.cons (.d _) (.cons (.d _) (.cons (.d _) (.cons (.d _) .nil)))))))))))))))))))))))) (.cons (.one (.d _)) (.cons (.one (.d _)) .nil)))
 replace h0:=Qg c3 h0
 refine Q4<|Q0<|rR Z Z Z (Q8 Z Z Z)<|rA Z Z Z<|Q5<|Q3 ?_
 refine Qe (b:=(x1.1.kind==4)) Z (fun c5=>?_) (fun c5=>?_)
 replace h0:=Qf c5 h0
 refine Q4 ?_
 refine J4 [7] [(5,1),(6,1)] JV (by kernel_rfl) (by kernel_rfl) (by kernel_rfl) ?_
 refine RunA.rd Z Z Z (Q1 (Qq Z)) Z<|RunA.rd Z Z Z (Q1 (Q2 K1 Z)) Z<|RunA.rd Z Z Z (Q1 (Q6 QG Z Z Z)) Z ?_
 refine Qd h0 (fun x6 hx6 h0=>?_)
 refine RunA.rd Z Z Z (Q1 (Qt (α:=Dcl) YE Z (.d _) Z hx6)) Z<|RunA.rd Z Z Z (Q1 (Qu (x6:Dcl) Jq Z)) Z<|RunA.rd Z Z Z (Q1 (Q2 KM Z)) Z<|RunA.rd Z Z Z (Q1 (Q6 QG Z Z Z)) Z<|RunA.eff Z Z Z (QA (x6:Dcl) Jq Z Z Z Z Z) Z<|RunA.rd Z Z Z (Q1 (Jd Z)) Z<|RunA.rd Z Z Z (Q1 (Jd Z)) Z ?_
 refine RunA.nil ⟨?ex,_,_,Z,?_⟩
 case ex=>exact ⟨⟨_,rfl,_,_,rfl,rfl,rfl,.inl ⟨rfl,_,Q1 (Q2 KM rfl),rfl⟩⟩,⟨_,rfl,_,_,rfl,rfl,rfl,.inl ⟨rfl,_,Q1 (Q6 QG rfl rfl rfl),rfl⟩⟩,trivial⟩
 refine Jp (st':=⟨[(4,.v (.one (.ptr 0 0))),(5,.v (.one (dI x1.1.item))),(6,.v (.one (dB true)))],[(0,.cells 45 (cE x6)),(1,.cells 35 (cE x1.1))],[],2,44,[]⟩) (sL (Nat.zero_le _) Z Z Z Z Z)<|Q3<|Qp ?_
 have e:=sI h0;subst e
 exact Qn (fun _ _ h=>h) Z (JZ Jq Z Z Z Z (Qm Z (Qm Z .nil))) (.cons (.agg (.cons (.d _) (.cons (.d _) (.cons (.d _) (.cons (.d _) (.cons (.d _) (.cons (.d _) (.cons (.d _) (.cons (.d _) (.cons (.d _) (.cons (.d _) (.cons (.d _) (.cons (.d _) (.cons (.d _) (.cons (.d _) (.cons (.d _) (.cons (.d _) (.cons (.d _) (.cons (.d _) (.cons (.d _) (.cons (.d _) (.cons (.d _) (.cons (.d _) (.cons (.d _) .nil)))))))))))))))))))))))) (.cons (.one (.d _)) (.cons (.one (.d _)) .nil)))
 replace h0:=Qg c5 h0
 refine Q4<|Q0<|rR Z Z Z (Q8 Z Z Z)<|rA Z Z Z<|Q5<|Q3 ?_
 refine Qe (b:=(x1.1.kind==5)) Z (fun c7=>?_) (fun c7=>?_)
 replace h0:=Qf c7 h0
 refine Q4<|Q0<|rM Z Z Z<|rR Z Z Z (Q2 K1 Z)<|rR Z Z Z (Q6 QG Z Z Z) ?_
 refine Qd h0 (fun x8 hx8 h0=>?_)
 refine rR Z Z Z (Qt (α:=Dcl) YE Z (.d _) Z hx8)<|rR Z Z Z (Qu (x8:Dcl) Jq Z)<|QC Z Z (QA (x8:Dcl) Jq Z Z Z Z Z)<|rA Z Z Z<|rA Z Z Z<|Q5<|Q3<|Qp ?_
 have e:=sI h0;subst e
 exact Qn (fun _ _ h=>h) Z (JZ Jq Z Z Z Z (Qm Z (Qm Z .nil))) (.cons (.agg (.cons (.d _) (.cons (.d _) (.cons (.d _) (.cons (.d _) (.cons (.d _) (.cons (.d _) (.cons (.d _) (.cons (.d _) (.cons (.d _) (.cons (.d _) (.cons (.d _) (.cons (.d _) (.cons (.d _) (.cons (.d _) (.cons (.d _) (.cons (.d _) (.cons (.d _) (.cons (.d _) (.cons (.d _) (.cons (.d _) (.cons (.d _) (.cons (.d _) (.cons (.d _) .nil)))))))))))))))))))))))) (.cons (.one (.d _)) (.cons (.one (.d _)) .nil)))
 replace h0:=Qg c7 h0
 refine Qj<|Qk<|Q3<|Q4<|Q0<|rR Z Z Z (Zi UY Z )<|QC Z Z (Qz Jq Z Z Z Z (lb Z) Z)<|rA Z Z Z<|rA Z Z Z<|Q5<|Q3<|Qp ?_
 have e:=sI h0;subst e
 exact Qn (fun _ _ h=>h) Z (JZ Jq Z Z Z Z (Qm Z (Qm Z .nil))) (.cons (.agg (.cons (.d _) (.cons (.d _) (.cons (.d _) (.cons (.d _) (.cons (.d _) (.cons (.d _) (.cons (.nil _) (.cons (.nil _) (.cons (.d _) (.cons (.d _) (.cons (.d _) (.cons (.nil _) (.cons (.nil _) (.cons (.d _) (.cons (.nil _) (.cons (.d _) (.cons (.d _) (.cons (.d _) (.cons (.d _) (.cons (.nil _) (.cons (.nil _) (.cons (.nil _) (.cons (.nil _) .nil)))))))))))))))))))))))) (.cons (.one (.d _)) (.cons (.one (.d _)) .nil)))
end Go.Proofs.Ytafddfoefeploaa
namespace Go.Proofs.Ytafddfoefeploaa
open Go.RowKit Go.Shelf
def JT {α:Type} (nm:α→Bs) (n:Bs):List α→Nat→Option (Nat×α)
 | [],_=>none
 | x::l,i=>if nm x=n then some (i,x) else JT nm n l (i+1)
theorem firstN_none {α:Type} (nm:α→Bs) (n:Bs):∀ (l:List α) (k:Nat),(∀ y∈l,nm y ≠ n)→JT nm n l k=none
 | [],_,_=>rfl
 | x::l,k,h=>by
  rw [JT,if_neg (h x (List.mem_cons_self ..))]
  exact firstN_none nm n l (k+1) fun y hy=>h y (List.mem_cons_of_mem _ hy)
theorem firstN_mid {α:Type} (nm:α→Bs) (n:Bs) (x:α) (b:List α) (hx:nm x=n):∀ (a:List α) (k:Nat),(∀ y∈a,nm y ≠ n)→JT nm n (a++x::b) k=some (k+a.length,x)
 | [],k,_=>by rw [List.nil_append,JT,if_pos hx];rfl
 | y::a,k,h=>by
  rw [List.cons_append,JT,if_neg (h y (List.mem_cons_self ..)),firstN_mid nm n x b hx a (k+1) fun z hz=>h z (List.mem_cons_of_mem _ hz),List.length_cons]
  congr 2
  omega
def U1 {α β:Type} (e0:β) (g:Int→α→β):Option (Nat×α)→β
 | none=>e0
 | some p=>g (p.1:Int) p.2
theorem loop_find {α β:Type} {step:Int→Option (LO Int β)} (nm:α→Bs) (n:Bs) (l:List α) (e0:β) (g:Int→α→β) (hlen:l.length≤900000000)
  (hin:∀ (a:List α) (x:α) (b:List α),l=a++x::b→step (a.length:Int)=some (if nm x=n then .done (g (a.length:Int) x) else .next (Ja ((a.length:Int)+1))))
  (hout:step (l.length:Int)=some (.done e0)):QE step QU 0=some (U1 e0 g (JT nm n l 0)):=by
 obtain ⟨r,h1,h2⟩:=YG (step:=step) l (fun i (_:Unit)=>i) (fun a _=>∀ y∈a,nm y ≠ n) (fun r=>r=(U1 e0 g (JT nm n l 0))) hlen
  (fun a x b s hl hI=>by
   by_cases hx:nm x=n
   ·refine .inl ⟨g (a.length:Int) x,by rw [hin a x b hl,if_pos hx],?_⟩
    rw [hl,firstN_mid nm n x b hx a 0 hI,Nat.zero_add];rfl
   ·refine .inr ⟨(),by rw [hin a x b hl,if_neg hx],fun y hy=>?_⟩
    rcases List.mem_append.1 hy with h | h
    ·exact hI y h
    ·rw [List.mem_singleton.1 h];exact hx)
  (fun s hI=>⟨e0,hout,by rw [firstN_none nm n l 0 hI];rfl⟩) () (fun y hy=>by cases hy)
 rw [h1,h2]
def Ug:Bs:=[46,114,101,99]
def Ys (d:Dcl) (at_:Int) (n:Bs):Option Ent :=
 if d.kind=0∨d.kind=1∨d.kind=2 then (if d.name=n then some ⟨d.kind,at_,0,d.params,d.ty⟩ else none)
 else if d.kind=3 then (if d.name=n then some ⟨3,at_,0,d.params,d.ty⟩ else match JT (·.name) n d.ctors 0 with
  | some (i,c)=>some ⟨4,at_,i,d.params,c.ty⟩
  | none=>if d.name++Ug=n then some ⟨5,at_,0,d.rcr.params,d.rcr.ty⟩ else none)
 else if d.kind=4 then (match JT (·.name) n d.funs 0 with
  | some (i,f)=>some ⟨6,at_,i,d.params,f.ty⟩
  | none=>none)
 else none
abbrev Y8:=Int×Int×Int×Int×Int×Bs×List Lvl×List Tm
theorem m14_l0_eq (d:Dcl) (n:Bs) (h:d.size≤900000000):QE (XF d n) QU 0=some (U1 (β:=Unit⊕(Unit⊕Y8)) (.inl ()) (fun i c=>.inr (.inr (4,i,d.params,c.ty.kind,c.ty.index,c.ty.name,c.ty.levels,c.ty.kids))) (JT (·.name) n d.ctors 0)):=by
 have hl:=YM d
 refine loop_find (β:=Unit⊕(Unit⊕Y8)) (step:=XF d n) (·.name) n d.ctors (.inl ()) (fun i (c:Ctr)=>.inr (.inr (4,i,d.params,c.ty.kind,c.ty.index,c.ty.name,c.ty.levels,c.ty.kids))) (by omega) (fun a x b e=>?_) (by unfold XF;rw [Ji];rfl)
 unfold XF
 rw [e,Y4,JK]
 show Option.bind (cond (x.name==n) (some (Sum.inr ())) (some (Sum.inl ()))) _=_
 rw [UG]
 by_cases hx:x.name=n
 ·rw [decide_eq_true hx,if_pos hx];rfl
 ·rw [decide_eq_false hx,if_neg hx];rfl
theorem m14_l2_eq (d:Dcl) (n:Bs) (h:d.size≤900000000):QE (XE d n) QU 0=some (U1 (β:=Unit⊕(Unit⊕Y8)) (.inl ()) (fun i c=>.inr (.inr (6,i,d.params,c.ty.kind,c.ty.index,c.ty.name,c.ty.levels,c.ty.kids))) (JT (·.name) n d.funs 0)):=by
 have hl:=Zw d
 refine loop_find (β:=Unit⊕(Unit⊕Y8)) (step:=XE d n) (·.name) n d.funs (.inl ()) (fun i (c:Fn)=>.inr (.inr (6,i,d.params,c.ty.kind,c.ty.index,c.ty.name,c.ty.levels,c.ty.kids))) (by omega) (fun a x b e=>?_) (by unfold XE;rw [Ji];rfl)
 unfold XE
 rw [e,Y4,JK]
 show Option.bind (cond (x.name==n) (some (Sum.inr ())) (some (Sum.inl ()))) _=_
 rw [UG]
 by_cases hx:x.name=n
 ·rw [decide_eq_true hx,if_pos hx];rfl
 ·rw [decide_eq_false hx,if_neg hx];rfl
def ansE:Option Ent→Unit⊕Y8
 | none=>.inl ()
 | some e=>.inr (e.kind,e.item,e.params,e.ty.kind,e.ty.index,e.ty.name,e.ty.levels,e.ty.kids)
theorem name_len (d:Dcl):d.name.length < d.size:=by unfold Dcl.size;omega
theorem m14_k1_eq (d:Dcl) (n:Bs) (at_:Int) (h:d.size≤900000000):Uu d n=some (ansE (if d.name++Ug=n then some ⟨5,at_,0,d.rcr.params,d.rcr.ty⟩ else none)):=by
 have hl:=name_len d
 unfold Uu
 rw [Yo (by show d.name.length+4≤1000000000;omega),UG]
 by_cases hx:d.name++Ug=n
 ·rw [decide_eq_true (show d.name++[46,114,101,99]=n from hx),if_pos hx];rfl
 ·rw [decide_eq_false (show ¬ d.name++[46,114,101,99]=n from hx),if_neg hx];rfl
theorem m14_decl (d:Dcl) (n:Bs) (at_:Int) (h:d.size≤900000000):Option.bind (cond (d.kind==0) (some (d.kind==0)) (cond (d.kind==1) (some (d.kind==1)) (some (d.kind==2)))) (fun v10=>Ws v10 d n)=some (ansE (Ys d at_ n)):=by
 rw [kinds_eq]
 show Ws (decide (d.kind=0∨d.kind=1∨d.kind=2)) d n=_
 unfold Ws Ys
 by_cases hk:d.kind=0∨d.kind=1∨d.kind=2
 ·rw [decide_eq_true hk,if_pos hk]
  show Option.bind (JP [0,1,2] d.kind) _=_
  have e1:JP ([0,1,2]:List Int) d.kind=some d.kind:=by rcases hk with e | e | e <;> rw [e] <;> rfl
  rw [e1]
  show Option.bind (cond (d.name==n) _ _) _=_
  rw [UG]
  by_cases hx:d.name=n
  ·rw [decide_eq_true hx,if_pos hx];rfl
  ·rw [decide_eq_false hx,if_neg hx];rfl
 ·rw [decide_eq_false hk,if_neg hk]
  show cond (d.kind==3) _ _=_
  rw [YC]
  by_cases h3:d.kind=3
  ·rw [decide_eq_true h3,if_pos h3]
   show Option.bind (cond (d.name==n) _ _) _=_
   rw [UG]
   by_cases hx:d.name=n
   ·rw [decide_eq_true hx,if_pos hx];rfl
   ·rw [decide_eq_false hx,if_neg hx]
    show Option.bind (QE (XF d n) QU 0) _=_
    rw [m14_l0_eq d n h]
    cases JT (·.name) n d.ctors 0 with
    | none=>exact m14_k1_eq d n at_ h
    | some p=>rfl
  ·rw [decide_eq_false h3,if_neg h3]
   show cond (d.kind==4) _ _=_
   rw [YC]
   by_cases h4:d.kind=4
   ·rw [decide_eq_true h4,if_pos h4]
    show Option.bind (QE (XE d n) QU 0) _=_
    rw [m14_l2_eq d n h]
    cases JT (·.name) n d.funs 0 with
    | none=>rfl
    | some p=>rfl
   ·rw [decide_eq_false h4,if_neg h4];rfl
theorem m34_l0_eq (d:Dcl) (n:Bs) (at_:Int) (h:d.size≤900000000):QE (Wm d n at_) QU 0=some (U1 (β:=Unit⊕Ent) (.inl ()) (fun i c=>.inr ⟨4,at_,i,d.params,c.ty⟩) (JT (·.name) n d.ctors 0)):=by
 have hl:=YM d
 refine loop_find (β:=Unit⊕Ent) (step:=Wm d n at_) (·.name) n d.ctors (.inl ()) (fun i (c:Ctr)=>.inr ⟨4,at_,i,d.params,c.ty⟩) (by omega) (fun a x b e=>?_) (by unfold Wm;rw [Ji];rfl)
 unfold Wm
 rw [e,Y4,JK]
 show cond (x.name==n) _ _=_
 rw [UG]
 by_cases hx:x.name=n
 ·rw [decide_eq_true hx,if_pos hx];rfl
 ·rw [decide_eq_false hx,if_neg hx];rfl
theorem m34_l1_eq (d:Dcl) (n:Bs) (at_:Int) (h:d.size≤900000000):QE (Wl d n at_) QU 0=some (U1 (β:=Unit⊕Ent) (.inl ()) (fun i c=>.inr ⟨6,at_,i,d.params,c.ty⟩) (JT (·.name) n d.funs 0)):=by
 have hl:=Zw d
 refine loop_find (β:=Unit⊕Ent) (step:=Wl d n at_) (·.name) n d.funs (.inl ()) (fun i (c:Fn)=>.inr ⟨6,at_,i,d.params,c.ty⟩) (by omega) (fun a x b e=>?_) (by unfold Wl;rw [Ji];rfl)
 unfold Wl
 rw [e,Y4,JK]
 show cond (x.name==n) _ _=_
 rw [UG]
 by_cases hx:x.name=n
 ·rw [decide_eq_true hx,if_pos hx];rfl
 ·rw [decide_eq_false hx,if_neg hx];rfl
theorem m34_eq (d:Dcl) (n:Bs) (at_:Int) (e:Ent) (h:d.size≤900000000) (he:Ys d at_ n=some e):DL d at_ n=some e:=by
 unfold Ys at he
 unfold DL
 simp only [YC]
 by_cases hk:d.kind=0∨d.kind=1∨d.kind=2
 ·rw [if_pos hk] at he
  by_cases hn:d.name=n
  ·rw [if_pos hn] at he
   cases he
   rcases hk with hk | hk | hk <;> rw [hk] <;> rfl
  ·rw [if_neg hn] at he;cases he
 ·rw [if_neg hk] at he
  rw [decide_eq_false (show ¬ d.kind=0 from fun x=>hk (.inl x)),decide_eq_false (show ¬ d.kind=1 from fun x=>hk (.inr (.inl x))),decide_eq_false (show ¬ d.kind=2 from fun x=>hk (.inr (.inr x)))]
  simp only [cond_false]
  by_cases h3:d.kind=3
  ·rw [if_pos h3] at he
   rw [decide_eq_true h3,cond_true,UG]
   by_cases hn:d.name=n
   ·rw [if_pos hn] at he
    rw [decide_eq_true hn.symm,cond_true];exact he
   ·rw [if_neg hn] at he
    rw [decide_eq_false (fun x=>hn x.symm),cond_false,m34_l0_eq d n at_ h]
    cases hf:JT (·.name) n d.ctors 0 with
    | none =>
     rw [hf] at he
     simp only at he
     by_cases hr:d.name++Ug=n
     ·rw [if_pos hr] at he;exact he
     ·rw [if_neg hr] at he;cases he
    | some p=>rw [hf] at he;exact he
  ·rw [if_neg h3] at he
   rw [decide_eq_false h3,cond_false,m34_l1_eq d n at_ h]
   by_cases h4:d.kind=4
   ·rw [if_pos h4] at he
    cases hf:JT (·.name) n d.funs 0 with
    | none=>rw [hf] at he;cases he
    | some p=>rw [hf] at he;exact he
   ·rw [if_neg h4] at he;cases he
theorem firstN_is {α:Type} (nm:α→Bs) (n:Bs):∀ (l:List α) (k:Nat),(JT nm n l k).isSome=decide (n∈l.map nm)
 | [],k=>rfl
 | x::l,k=>by
  rw [JT]
  by_cases hx:nm x=n
  ·rw [if_pos hx,List.map_cons,decide_eq_true (by rw [hx];exact List.mem_cons_self ..)];rfl
  ·rw [if_neg hx,firstN_is nm n l (k+1),List.map_cons]
   congr 1
   rw [List.mem_cons,eq_iff_iff]
   exact ⟨.inr,fun h=>h.resolve_left fun h=>hx h.symm⟩
theorem XV (d:Dcl) (at_:Int) (n:Bs):(Ys d at_ n).isSome=decide (n∈Jx d):=by
 unfold Ys Jx
 by_cases hk:d.kind=0∨d.kind=1∨d.kind=2
 ·rw [if_pos hk,if_pos hk]
  by_cases hn:d.name=n
  ·rw [if_pos hn,decide_eq_true (by rw [hn];exact List.mem_singleton_self _)];rfl
  ·rw [if_neg hn,decide_eq_false (by rw [List.mem_singleton];exact fun h=>hn h.symm)];rfl
 ·rw [if_neg hk,if_neg hk]
  by_cases h3:d.kind=3
  ·rw [if_pos h3,if_pos h3]
   by_cases hn:d.name=n
   ·rw [if_pos hn,decide_eq_true (by rw [hn];simp)];rfl
   ·rw [if_neg hn]
    have h5:=firstN_is (·.name) n d.ctors 0
    cases hf:JT (·.name) n d.ctors 0 with
    | none =>
     rw [hf] at h5
     have h6:n∉d.ctors.map (·.name):=of_decide_eq_false h5.symm
     simp only
     by_cases hr:d.name++Ug=n
     ·rw [if_pos hr,decide_eq_true (by rw [← hr];unfold Ug;simp)];rfl
     ·rw [if_neg hr,decide_eq_false]
      ·rfl
      ·rw [List.mem_append,List.mem_cons,List.mem_singleton]
       rintro ((h | h) | h)
       ·exact hn h.symm
       ·exact h6 h
       ·exact hr h.symm
    | some p =>
     rw [hf] at h5
     have h6:n∈d.ctors.map (·.name):=of_decide_eq_true h5.symm
     rw [decide_eq_true]
     ·rfl
     ·exact List.mem_append_left _ (List.mem_cons_of_mem _ h6)
  ·rw [if_neg h3,if_neg h3]
   by_cases h4:d.kind=4
   ·rw [if_pos h4,if_pos h4,← firstN_is (·.name) n d.funs 0]
    cases JT (·.name) n d.funs 0 <;> rfl
   ·rw [if_neg h4,if_neg h4];rfl
theorem look_decl {d:Dcl} {at_:Int} {n:Bs} {e:Ent} (h:Ys d at_ n=some e):e.decl=at_:=by
 unfold Ys at h
 split at h
 ·split at h <;> cases h;rfl
 ·split at h
  ·split at h
   ·cases h;rfl
   ·split at h
    ·cases h;rfl
    ·split at h <;> cases h;rfl
  ·split at h
   ·split at h <;> cases h;rfl
   ·cases h
def UP {α γ:Type} (f:Nat→α→Option γ):List α→Nat→Option γ
 | [],_=>none
 | x::l,i=>(f i x).elim (UP f l (i+1)) some
theorem fsI_app {α γ:Type} (f:Nat→α→Option γ) (b:List α):∀ (a:List α) (k:Nat),UP f (a++b) k=(UP f a k).elim (UP f b (k+a.length)) some
 | [],k=>rfl
 | x::a,k=>by
  rw [List.cons_append,UP,UP]
  cases f k x with
  | some y=>rfl
  | none =>
   show UP f (a++b) (k+1)=_
   rw [fsI_app f b a (k+1),List.length_cons,show k+1+a.length=k+(a.length+1) from by omega];rfl
theorem fsI_some {α γ:Type} (f:Nat→α→Option γ) {y:γ}:∀ (l:List α) (k:Nat),UP f l k=some y→∃ i x,l[i]?=some x∧f (k+i) x=some y
 | [],k,h=>by cases h
 | x::l,k,h=>by
  rw [UP] at h
  cases hf:f k x with
  | some z=>rw [hf] at h;cases h;exact ⟨0,x,rfl,hf⟩
  | none =>
   rw [hf] at h
   obtain ⟨i,z,h1,h2⟩:=fsI_some f l (k+1) h
   exact ⟨i+1,z,h1,by rw [← h2];congr 1;omega⟩
theorem loop_fs {α β γ:Type} {step:Int→Option (LO Int β)} (l:List α) (f:Nat→α→Option γ) (e0:β) (g:γ→β) (hlen:l.length≤900000000)
  (hin:∀ (a:List α) (x:α) (b:List α),l=a++x::b→step (a.length:Int)=some ((f a.length x).elim (.next (Ja ((a.length:Int)+1))) fun y=>.done (g y)))
  (hout:step (l.length:Int)=some (.done e0)):QE step QU 0=some ((UP f l 0).elim e0 g):=by
 obtain ⟨r,h1,h2⟩:=YG (step:=step) l (fun i (_:Unit)=>i) (fun a _=>UP f a 0=none) (fun r=>r=((UP f l 0).elim e0 g)) hlen
  (fun a x b s hl hI=>by
   have h3:=hin a x b hl
   have h4:UP f l 0=(f a.length x).elim (UP f b (a.length+1)) some:=by rw [hl,fsI_app,hI,Nat.zero_add];rfl
   cases hf:f a.length x with
   | some y=>refine .inl ⟨g y,by rw [h3,hf];rfl,?_⟩;rw [h4,hf];rfl
   | none =>
    refine .inr ⟨(),by rw [h3,hf];rfl,?_⟩
    rw [fsI_app,hI,Nat.zero_add]
    show UP f [x] a.length=none
    rw [UP,hf];rfl)
  (fun s hI=>⟨e0,hout,by rw [hI];rfl⟩) () rfl
 rw [h1,h2]
def KC (env:List Dcl) (n:Bs):Option Ent:=UP (fun k d=>Ys d (k:Int) n) env 0
def W5 (env:List Dcl) (n:Bs):Ent×Int:=(KC env n).elim (ent0,9) fun e=>(e,0)
theorem m14_eq (env:List Dcl) (n:Bs) (h:YX env≤900000000):DT env n=some (W5 env n):=by
 have hl:=env_len env
 unfold DT
 rw [loop_fs (β:=Unit⊕(Ent×Int)) env (fun k d=>Ys d (k:Int) n) (.inl ()) (fun e=>.inr (e,0)) (by omega) (fun a x b e=>?_) (by unfold Ut;rw [Ji];rfl)]
 ·unfold W5 KC
  cases UP (fun k d=>Ys d (k:Int) n) env 0 <;> rfl
 ·have hx:x.size≤900000000:=Nat.le_trans (XU (env:=env) (d:=x) (by rw [e];simp)) h
  unfold Ut
  rw [e,Y4,JK]
  show Option.bind (Option.bind (cond (x.kind==0) (some (x.kind==0)) (cond (x.kind==1) (some (x.kind==1)) (some (x.kind==2)))) (fun v10=>Ws v10 x n)) _=_
  rw [m14_decl x n (a.length:Int) hx]
  cases hf:Ys x (a.length:Int) n with
  | none=>rfl
  | some e =>
   have hd:=look_decl hf
   cases e with
   | mk k dd it ps ty =>
    cases hd
    cases ty
    rfl
theorem Us (env:List Dcl) (n:Bs) (h:YX env≤800000000):DG env n=some (W5 env n):=by
 have hl:=env_len env
 unfold DG
 rw [loop_fs (β:=Unit⊕(Ent×Int)) env (fun k d=>Ys d (k:Int) n) (.inl ()) (fun e=>.inr (e,0)) (by omega) (fun a x b e=>?_) (by unfold Ur;rw [Ji];rfl)]
 ·unfold W5 KC
  cases UP (fun k d=>Ys d (k:Int) n) env 0 <;> rfl
 ·have hx:x.size≤800000000:=Nat.le_trans (XU (env:=env) (d:=x) (by rw [e];simp)) h
  have hn:=names_len x
  unfold Ur
  rw [e,Y4,JK]
  show Option.bind (Dz x) _=_
  rw [m23_eq x (by omega)]
  show Option.bind (Dj (Jx x) n) _=_
  rw [m33_eq (Jx x) n (by omega)]
  show cond (decide (n∈Jx x)) _ _=_
  rw [← XV x (a.length:Int) n]
  cases hf:Ys x (a.length:Int) n with
  | none=>rfl
  | some e =>
   show Option.bind (DL x (a.length:Int) n) _=_
   rw [m34_eq x n _ e (by omega) hf];rfl
theorem m17_eq (env:List Dcl) (n:Bs) (h:YX env≤800000000):m17 env n=DN env n:=by
 unfold m17 DN
 rw [m14_eq env n (by omega),Us env n h]
end Go.Proofs.Ytafddfoefeploaa
namespace Go.Proofs.Ytafddfoefeploaa
open Go.RowKit Go.Shelf
theorem YH:J1 Try.prog 124 0=some 0:=by kernel_rfl
theorem X1:J1 Try.prog 124 1=some 1:=by kernel_rfl
theorem z_124:JQ Try.prog 124=some [.int .i64 0,.int .i64 0]:=by kernel_rfl
theorem en_103:QY Try.prog 103:=enters_of Try.func103 (by kernel_rfl) rfl
theorem en_108:QY Try.prog 108:=enters_of Try.func108 (by kernel_rfl) rfl
theorem en_111:QY Try.prog 111:=enters_of Try.func111 (by kernel_rfl) rfl
theorem en_112:QY Try.prog 112:=enters_of Try.func112 (by kernel_rfl) rfl
theorem en_113:QY Try.prog 113:=enters_of Try.func113 (by kernel_rfl) rfl
def m112f2 (a0:LV) (a1:Lvl):Option Unit :=
 some ()
theorem m112f2_ok (a0:LV) (a1:Lvl) (r:Unit) (h0:m112f2 a0 a1=some r):CallM Try.prog 112 [.agg (cE a0),.one (.ptr 0 0)] ⟨[(0,.cells 87 (cE a1))],[],1⟩ (QM [.one (dB (decide (a1.c≤a0.2)))]) ⟨[(0,.cells 87 (cE a1))],[],2⟩:=by
 unfold m112f2 at h0
 refine Jl ⟨[(3,.v (.one (dB (decide (a1.c≤a0.2)))))],[(0,.cells 87 (cE a1))],[],2,9,[]⟩ Z Z en_112 (lb Z) Z (Qm Z .nil) (fun w0 M V0 Q hv0 hQ0=>?_)
 simp only [J3]
 refine Q4<|Q0<|Qb Z Z (lb Z) (QN Z)<|rA Z Z Z<|Q5<|Q3<|Q4<|Q0<|rR Z Z Z (Q2 X1 Z)<|rR Z Z Z (Q6 QG Z Z Z)<|rR Z Z Z (Q2 ZA Z)<|rR Z Z Z (Q6 QG Z Z Z)<|rR Z Z Z (Q8 Z Z Z)<|rA Z Z Z ?_
 refine Q5<|Q3<|Qp ?_
 have e:=sI h0;subst e
 exact hQ0 _ _ _ (.inr Z) Z (sL (Nat.le_trans hv0 (lb Z)) Z Z Z Z Z)
def ZJ (a0:List LV) (a1:Lvl) (s1:Int):Option (LO Int (Unit⊕Int)) :=
 cond (decide (s1 < (a0.length:Int)))
   (Option.bind (JP a0 s1) fun (x3:LV) =>
 Option.bind (m112f2 x3 a1) fun (x4:Unit) =>
 cond (decide (a1.c≤x3.2))
   (some (.done (.inr s1)))
   (some (.next (Ja (s1+1)))))
   (some (.done (.inl ())))
def m113f1 (a0:List LV) (a1:Lvl):Option Int :=
 Option.bind (QE (ZJ a0 a1) QU 0) (Sum.elim (fun (o1:Unit)=>some (-1)) (fun o=>some o))
theorem m113f1_ok (a0:List LV) (a1:Lvl) (r:Int) (h0:m113f1 a0 a1=some r):CallM Try.prog 113 [.one (dS a0),.one (.fn 112 [(0,0)])] ⟨[(0,.cells 87 (cE a1))],[],1⟩ (QM [.one (dI r)]) ⟨[(0,.cells 87 (cE a1))],[],1⟩:=by
 unfold m113f1 at h0
 refine Jl ⟨[(4,.v (.one (dI r)))],[(0,.cells 87 (cE a1))],[],1,19,[]⟩ Z Z en_113 (lb Z) Z (Qm Z .nil) (fun w0 M V0 Q hv0 hQ0=>?_)
 simp only [J3]
 refine Q4<|Q0<|rA Z Z Z<|Q5<|Q3<|Q4<|Q4<|Q0<|rM Z Z Z<|rR Z Z Z (Qx (α:=LV) YU Z (.d _))<|rM Z Z Z<|Q5<|Q3<|Ql ?_
 refine QQ 0 (fun (o1:Unit)=>⟨[],[(0,.cells 87 (cE a1))],[],1,19,[]⟩) (fun (o1:Unit)=>(some (-1))=some r) ?_ ?_
 refine Qd h0 (fun o2 hl1 h0=>?_)
 refine QP (ZJ a0 a1) (fun s1=>⟨[(0,.v (.one (dS a0))),(1,.v (.one (.fn 112 [(0,0)]))),(7,.v (.one (dI (a0.length:Int)))),(8,.v (.one (dI s1)))],[(0,.cells 87 (cE a1))],[],1,19,[]⟩) 0 o2 (sL (Nat.le_trans hv0 (lb Z)) Z Z Z Z Z) hl1 (fun s1 n1 oo1 h1 ho1=>?_)
 unfold ZJ at h1
 refine Q4<|Q0<|rR Z Z Z (Q8 Z Z Z)<|Q5<|Q3<|Q4 ?_
 refine Qe (b:=(decide (s1 < (a0.length:Int)))) Z (fun c3=>?_) (fun c3=>?_)
 replace h1:=Qf c3 h1
 refine Qj<|Q3<|Q4<|Ql<|Q4<|Q0<|rM Z Z Z<|rA Z Z Z<|Q5<|Q3<|Q4<|Q0<|rM Z Z Z<|rM Z Z Z ?_
 refine rM Z Z Z ?_
 refine Qd h1 (fun x4 hx4 h1=>?_)
 refine rR Z Z Z (Qt (α:=LV) YU Z (.d _) Z hx4)<|rR Z Z Z (Qu (x4:LV) Kf Z) ?_
 refine Qd h1 (fun x5 hx5 h1=>?_)
 refine Qb Z Z (lb Z) (JC (hp1':=[(0,.cells 87 (cE a1))]) (tk1':=[]) (hpF:=[]) (tkF:=[]) (res2:=QM [.one (dB (decide (a1.c≤x4.2)))]) (nx2:=2) [0] Z Z (m112f2_ok x4 a1 x5 hx5) Z Z (qB Z Z qZ) Z Z (gR Z gZ) jZ hZ kZ Z Z Z Z Z (bA Z) Z Z Z Z)<|Q5<|Q3 ?_
 refine Qe (b:=(decide (a1.c≤x4.2))) Z (fun c6=>?_) (fun c6=>?_)
 replace h1:=Qf c6 h1
 refine Q4<|Q0<|rM Z Z Z<|rA Z Z Z<|Q5<|Q3<|Qp ?_
 have e:=sI h1;subst e
 have e_:_=_:=ho1
 subst e_
 try dsimp only [Sum.elim_inl,Sum.elim_inr] at h0
 have e:=sI h0;subst e
 exact hQ0 _ _ _ (.inr Z) Z (sL (Nat.le_trans hv0 (lb Z)) Z Z Z Z Z)
 replace h1:=Qg c6 h1
 refine Qj<|Qk<|Q3<|Q0<|rR Z Z Z (Q8 Z Z Z)<|rM Z Z Z<|Q5 ?_
 have e:=sI h1;subst e
 refine QJ (Ja (s1+1)) (sL (Nat.le_trans hv0 (lb Z)) Z Z Z Z Z) ho1
 replace h1:=Qg c3 h1
 refine QW<|Qr<|Qr ?_
 have e:=sI h1;subst e
 have e_:_=_:=ho1
 subst e_
 exact QO () (sL (Nat.le_trans hv0 (lb Z)) Z Z Z Z Z) h0
 intro o1 h0
 refine QF<|Q3<|Q4<|Q0<|rA Z Z Z<|Q5<|Q3<|Qp ?_
 have e:=sI h0;subst e
 exact hQ0 _ _ _ (.inr Z) Z (sL (Nat.le_trans hv0 (lb Z)) Z Z Z Z Z)
def Uw (a0:List LV) (a1:Lvl):Option Bool :=
 Option.bind (m113f1 a0 a1) fun (x1:Int) =>
 some (decide (0≤x1))
theorem m111f0_ok (a0:List LV) (a1:Lvl) (r:Bool) (h0:Uw a0 a1=some r):CallM Try.prog 111 [.one (dS a0),.one (.fn 112 [(0,0)])] ⟨[(0,.cells 87 (cE a1))],[],1⟩ (QM [.one (dB r)]) ⟨[(0,.cells 87 (cE a1))],[],1⟩:=by
 unfold Uw at h0
 refine Jl ⟨[(4,.v (.one (dB r)))],[(0,.cells 87 (cE a1))],[],1,9,[]⟩ Z Z en_111 (lb Z) Z (Qm Z .nil) (fun w0 M V0 Q hv0 hQ0=>?_)
 simp only [J3]
 refine Q4<|Q0<|rA Z Z Z<|Q5<|Q3<|Q4<|Q0<|rM Z Z Z<|rM Z Z Z ?_
 refine Qd h0 (fun x1 hx1 h0=>?_)
 refine Qb Z Z (lb Z) (JC (hp1':=[(0,.cells 87 (cE a1))]) (tk1':=[]) (hpF:=[]) (tkF:=[]) (res2:=QM [.one (dI x1)]) (nx2:=1) [0] Z Z (m113f1_ok a0 a1 x1 hx1) Z Z (qB Z Z qZ) Z Z (gR Z gZ) jZ hZ kZ Z Z Z Z Z (bA Z) Z Z Z Z)<|rR Z Z Z (Q8 Z Z Z)<|rA Z Z Z<|Q5<|Q3<|Qp ?_
 have e:=sI h0;subst e
 exact hQ0 _ _ _ (.inr Z) Z (sL (Nat.le_trans hv0 (lb Z)) Z Z Z Z Z)
def Gu (a0:Lvl) (s1:Int):Option (LO Int (Unit⊕Bool)) :=
 cond (decide (s1 < (a0.vs.length:Int)))
   (Option.bind (JP a0.vs s1) fun (x5:LV) =>
 Option.bind (cond (decide (x5.1 < (-65536)))
   (some true)
   (cond (decide (7 < x5.1))
   (some true)
   (cond (decide (x5.2 < 0))
   (some true)
   (cond (decide (100 < x5.2))
   (some true)
   (cond (decide (0 < s1))
   (Option.bind (JP a0.vs (Ja (s1 - 1))) fun (x12:LV) =>
 some (decide (x5.1≤x12.1)))
   (some false)))))) (fun (v6:Bool)=>cond v6
   (some (.done (.inr false)))
   (some (.next (Ja (s1+1))))))
   (some (.done (.inl ())))
def Dh (a0:Lvl):Option Bool :=
 Option.bind (cond (decide (a0.c < 0))
   (some true)
   (cond (decide (100 < a0.c))
   (some true)
   (cond (decide (0 < a0.c))
   (Option.bind (Option.bind (Uw a0.vs a0) fun (x7:Bool) =>
 some x7) (fun (y5:Bool)=>some y5))
   (some false)))) (fun (v1:Bool)=>cond v1
   (some false)
   (Option.bind (QE (Gu a0) QU 0) (Sum.elim (fun (o3:Unit)=>some true) (fun o=>some o))))
theorem m103_ok (a0:Lvl) (r:Bool) (h0:Dh a0=some r):Fun Try.prog 103 [.agg (cE a0)] (QM [.one (dB r)]):=by
 unfold Dh at h0
 refine QB 9 65 Try.func103 Z en_103 Z (lb Z) (fun S w=>?_)
 simp only [J3]
 refine Q4<|Q0<|Qb Z Z (lb Z) (QN Z)<|rA Z Z Z<|Q5<|Q3<|Q4<|Q4 ?_
 refine QD (fun (v1:Bool)=>⟨[(1,.v (.one (.ptr 0 0))),(21,.v (.one (dB v1)))],[(0,.cells 87 (cE a0))],[],1,65,[]⟩) (fun (v1:Bool)=>(cond v1
     (some false)
     (Option.bind (QE (Gu a0) QU 0) (Sum.elim (fun (o3:Unit)=>some true) (fun o=>some o))))=some r) ?_ ?_
 refine Qd h0 (fun w1_ h1 h0=>?_)
 refine Q0<|rR Z Z Z (Q2 ZA Z)<|rR Z Z Z (Q6 QG Z Z Z)<|rR Z Z Z (Q8 Z Z Z)<|rM Z Z Z ?_
 refine Qw (d:=8) (c:=(decide (a0.c < 0))) Z (fun c2=>?_) (fun c2=>?_)
 replace h1:=Qf c2 h1
 refine Q7 Z Z<|Q7 Z Z<|Q7 Z Z<|rR Z Z Z (Qc Z Z)<|rM Z Z Z<|Q7 Z Z<|Q7 Z Z<|Q7 Z Z<|Q7 Z Z<|Q7 Z Z<|Q7 Z Z<|Q7 Z Z<|rR Z Z Z (Qc Z Z)<|Q5 ?_
 have e:=sI h1;subst e
 exact Q9 true (sL (Nat.zero_le _) Z Z Z Z Z) h0
 replace h1:=Qg c2 h1
 refine rR Z Z Z (Q2 ZA Z)<|rR Z Z Z (Q6 QG Z Z Z)<|rR Z Z Z (Q8 Z Z Z)<|rR Z Z Z (Qa Z Z)<|rM Z Z Z ?_
 refine Qw (d:=13) (c:=(decide (100 < a0.c))) Z (fun c3=>?_) (fun c3=>?_)
 replace h1:=Qf c3 h1
 refine Q7 Z Z<|Q7 Z Z<|Q7 Z Z<|Q7 Z Z<|Q7 Z Z<|Q7 Z Z<|Q7 Z Z<|rR Z Z Z (Qc Z Z)<|Q5 ?_
 have e:=sI h1;subst e
 exact Q9 true (sL (Nat.zero_le _) Z Z Z Z Z) h0
 replace h1:=Qg c3 h1
 refine rR Z Z Z (Q2 ZA Z)<|rR Z Z Z (Q6 QG Z Z Z)<|rR Z Z Z (Q8 Z Z Z)<|rM Z Z Z ?_
 refine Qw (d:=17) (c:=(decide (0 < a0.c))) Z (fun c4=>?_) (fun c4=>?_)
 replace h1:=Qf c4 h1
 refine rR Z Z Z (QH (a0:Lvl) K8 Z Z) ?_
 refine Qd h1 (fun y5 h2 h1=>?_)
 have hc6:CallM Try.prog 108 [.agg (cE a0)] ⟨[(0,.cells 87 (cE a0))],[],1⟩ (QM [.one (dB y5)]) ⟨[(0,.cells 87 (cE a0))],[],2⟩:=by
  refine Jl ⟨[(2,.v (.one (dB y5)))],[(0,.cells 87 (cE a0))],[],2,7,[]⟩ Z Z en_108 (lb Z) Z (Qm Z .nil) (fun w0 M V0 Q hv2 hQ2=>?_)
  simp only [J3]
  refine Q4<|Q0<|Qb Z Z (lb Z) (QN Z)<|rA Z Z Z<|Q5<|Q3<|Q4<|Q0<|rR Z Z Z (Q2 Yn Z)<|rR Z Z Z (Q6 Zy Z Z Z)<|rR Z Z Z (K5 Z) ?_
  refine Qd h2 (fun x7 hx7 h2=>?_)
  refine Qb Z Z (lb Z) (JC (hp1':=[(1,.cells 87 (cE a0))]) (tk1':=[]) (hpF:=[(0,.cells 87 (cE a0))]) (tkF:=[]) (res2:=QM [.one (dB x7)]) (nx2:=2) [1] Z Z (m111f0_ok a0.vs a0 x7 hx7) Z Z (qB Z Z qZ) Z Z (gR Z gZ) jZ (hA Z) kZ Z Z Z Z Z (bA Z) Z Z Z Z)<|rA Z Z Z<|Q5<|Q3<|Qp ?_
  have e:=sI h2;subst e
  exact hQ2 _ _ _ (.inr Z) Z (sL (Nat.le_trans hv2 (lb Z)) Z Z Z Z Z)
 refine Qb Z Z (lb Z) (Yf Z Z Z hc6 Z (hA Z) kZ)<|rR Z Z Z (Qc Z Z)<|rR Z Z Z (Qa Z Z)<|Q5 ?_
 have e:=sI h1;subst e
 exact Q9 y5 (sL (Nat.zero_le _) Z Z Z Z Z) h0
 replace h1:=Qg c4 h1
 refine Q7 Z Z<|Q7 Z Z<|rR Z Z Z (Qa Z Z)<|rR Z Z Z (Qa Z Z)<|Q5 ?_
 have e:=sI h1;subst e
 exact Q9 false (sL (Nat.zero_le _) Z Z Z Z Z) h0
 intro v1 h0
 refine Q3 ?_
 refine Qe (b:=v1) Z (fun c8=>?_) (fun c8=>?_)
 replace h0:=Qf c8 h0
 refine Q4<|Q0<|rA Z Z Z<|Q5<|Q3<|Qp ?_
 have e:=sI h0;subst e
 exact Qn (fun _ _ h=>h) Z (Qm Z .nil) (.cons (.one (.d _)) .nil)
 replace h0:=Qg c8 h0
 refine Qj<|Q3<|Q4<|Q4<|Q0<|rR Z Z Z (Q2 Yn Z)<|rR Z Z Z (Q6 Zy Z Z Z)<|rR Z Z Z (Qx (α:=LV) YU Z (.d _))<|rM Z Z Z<|Q5<|Q3<|Ql ?_
 refine QQ 0 (fun (o9:Unit)=>⟨[],[(0,.cells 87 (cE a0))],[],1,65,[]⟩) (fun (o9:Unit)=>(some true)=some r) ?_ ?_
 refine Qd h0 (fun o10 hl1 h0=>?_)
 refine QP (Gu a0) (fun s1=>⟨[(1,.v (.one (.ptr 0 0))),(23,.v (.one (dS a0.vs))),(24,.v (.one (dI (a0.vs.length:Int)))),(25,.v (.one (dI s1)))],[(0,.cells 87 (cE a0))],[],1,65,[]⟩) 0 o10 (sL (Nat.zero_le _) Z Z Z Z Z) hl1 (fun s1 n1 oo1 h1 ho1=>?_)
 unfold Gu at h1
 refine Q4<|Q0<|rR Z Z Z (Q8 Z Z Z)<|Q5<|Q3<|Q4 ?_
 refine Qe (b:=(decide (s1 < (a0.vs.length:Int)))) Z (fun c11=>?_) (fun c11=>?_)
 replace h1:=Qf c11 h1
 refine Qj<|Q3<|Q4<|Ql<|Q4<|Q0<|rM Z Z Z ?_
 refine Qd h1 (fun x12 hx12 h1=>?_)
 refine rR Z Z Z (Qt (α:=LV) YU Z (.d _) Z hx12)<|rR Z Z Z (Qu (x12:LV) Kf Z)<|Qb Z Z (lb Z) (Qv z_124 Z)<|rA Z Z Z<|QC Z Z (QA (x12:LV) Kf Z Z Z Z Z)<|Q5<|Q3<|Q4 ?_
 refine QD (fun (v13:Bool)=>⟨[(1,.v (.one (.ptr 0 0))),(23,.v (.one (dS a0.vs))),(24,.v (.one (dI (a0.vs.length:Int)))),(25,.v (.one (dI s1))),(63,.v (.one (dB v13)))],[(0,.cells 87 (cE a0)),(1,.cells 124 (cE x12))],[],2,65,[]⟩) (fun (v13:Bool)=>(cond v13
     (some (.done (.inr false)))
     (some (.next (Ja (s1+1)))))=some oo1) ?_ ?_
 refine Qd h1 (fun w2_ h2 h1=>?_)
 refine J4 [] [] JV (by kernel_rfl) (by kernel_rfl) (by kernel_rfl) ?_
 refine RunA.rd Z Z Z (Q1 (Q2 YH Z)) Z<|RunA.rd Z Z Z (Q1 (Q6 QG Z Z Z)) Z<|RunA.rd Z Z Z (Q1 (Q8 Z Z Z)) Z ?_
 refine JM (c:=(decide (x12.1 < (-65536)))) Z Z Z (Q1 (Qq Z)) Z (fun c14=>?_) (fun c14=>?_)
 replace h2:=Qf c14 h2
 refine RunA.no Z Z Z Z<|RunA.no Z Z Z Z<|RunA.no Z Z Z Z<|RunA.rd Z Z Z (Q1 (Qc Z Z)) Z<|RunA.rd Z Z Z (Q1 (Qq Z)) Z<|RunA.no Z Z Z Z<|RunA.no Z Z Z Z<|RunA.no Z Z Z Z<|RunA.rd Z Z Z (Q1 (Qc Z Z)) Z<|RunA.rd Z Z Z (Q1 (Qq Z)) Z<|RunA.no Z Z Z Z<|RunA.no Z Z Z Z<|RunA.no Z Z Z Z<|RunA.rd Z Z Z (Q1 (Qc Z Z)) Z ?_
 refine RunA.rd Z Z Z (Q1 (Qq Z)) Z<|RunA.no Z Z Z Z<|RunA.no Z Z Z Z<|RunA.no Z Z Z Z<|RunA.no Z Z Z Z<|RunA.no Z Z Z Z<|RunA.no Z Z Z Z<|RunA.no Z Z Z Z<|RunA.no Z Z Z Z<|RunA.no Z Z Z Z<|RunA.no Z Z Z Z<|RunA.no Z Z Z Z<|RunA.no Z Z Z Z<|RunA.no Z Z Z Z ?_
 refine RunA.no Z Z Z Z<|RunA.rd Z Z Z (Q1 (Qc Z Z)) Z ?_
 refine RunA.nil ⟨?ex,_,_,Z,?_⟩
 case ex=>exact trivial
 have e:=sI h2;subst e
 exact Q9 true (sL (Nat.zero_le _) Z Z Z Z Z) h1
 replace h2:=Qg c14 h2
 refine RunA.rd Z Z Z (Q1 (Q2 YH Z)) Z<|RunA.rd Z Z Z (Q1 (Q6 QG Z Z Z)) Z<|RunA.rd Z Z Z (Q1 (Q8 Z Z Z)) Z<|RunA.rd Z Z Z (Q1 (Qa Z Z)) Z ?_
 refine JM (c:=(decide (7 < x12.1))) Z Z Z (Q1 (Qq Z)) Z (fun c15=>?_) (fun c15=>?_)
 replace h2:=Qf c15 h2
 refine RunA.no Z Z Z Z<|RunA.no Z Z Z Z<|RunA.no Z Z Z Z<|RunA.rd Z Z Z (Q1 (Qc Z Z)) Z<|RunA.rd Z Z Z (Q1 (Qq Z)) Z<|RunA.no Z Z Z Z<|RunA.no Z Z Z Z<|RunA.no Z Z Z Z<|RunA.rd Z Z Z (Q1 (Qc Z Z)) Z<|RunA.rd Z Z Z (Q1 (Qq Z)) Z<|RunA.no Z Z Z Z<|RunA.no Z Z Z Z<|RunA.no Z Z Z Z<|RunA.no Z Z Z Z ?_
 refine RunA.no Z Z Z Z<|RunA.no Z Z Z Z<|RunA.no Z Z Z Z<|RunA.no Z Z Z Z<|RunA.no Z Z Z Z<|RunA.no Z Z Z Z<|RunA.no Z Z Z Z<|RunA.no Z Z Z Z<|RunA.no Z Z Z Z<|RunA.no Z Z Z Z<|RunA.rd Z Z Z (Q1 (Qc Z Z)) Z ?_
 refine RunA.nil ⟨?ex,_,_,Z,?_⟩
 case ex=>exact trivial
 have e:=sI h2;subst e
 exact Q9 true (sL (Nat.zero_le _) Z Z Z Z Z) h1
 replace h2:=Qg c15 h2
 refine RunA.rd Z Z Z (Q1 (Q2 X1 Z)) Z<|RunA.rd Z Z Z (Q1 (Q6 QG Z Z Z)) Z<|RunA.rd Z Z Z (Q1 (Q8 Z Z Z)) Z<|RunA.rd Z Z Z (Q1 (Qa Z Z)) Z ?_
 refine JM (c:=(decide (x12.2 < 0))) Z Z Z (Q1 (Qq Z)) Z (fun c16=>?_) (fun c16=>?_)
 replace h2:=Qf c16 h2
 refine RunA.no Z Z Z Z<|RunA.no Z Z Z Z<|RunA.no Z Z Z Z<|RunA.rd Z Z Z (Q1 (Qc Z Z)) Z<|RunA.rd Z Z Z (Q1 (Qq Z)) Z<|RunA.no Z Z Z Z<|RunA.no Z Z Z Z<|RunA.no Z Z Z Z<|RunA.no Z Z Z Z<|RunA.no Z Z Z Z<|RunA.no Z Z Z Z<|RunA.no Z Z Z Z<|RunA.no Z Z Z Z<|RunA.no Z Z Z Z ?_
 refine RunA.no Z Z Z Z<|RunA.no Z Z Z Z<|RunA.no Z Z Z Z<|RunA.no Z Z Z Z<|RunA.no Z Z Z Z<|RunA.rd Z Z Z (Q1 (Qc Z Z)) Z ?_
 refine RunA.nil ⟨?ex,_,_,Z,?_⟩
 case ex=>exact trivial
 have e:=sI h2;subst e
 exact Q9 true (sL (Nat.zero_le _) Z Z Z Z Z) h1
 replace h2:=Qg c16 h2
 refine RunA.rd Z Z Z (Q1 (Q2 X1 Z)) Z<|RunA.rd Z Z Z (Q1 (Q6 QG Z Z Z)) Z<|RunA.rd Z Z Z (Q1 (Q8 Z Z Z)) Z<|RunA.rd Z Z Z (Q1 (Qa Z Z)) Z ?_
 refine JM (c:=(decide (100 < x12.2))) Z Z Z (Q1 (Qq Z)) Z (fun c17=>?_) (fun c17=>?_)
 replace h2:=Qf c17 h2
 refine RunA.no Z Z Z Z<|RunA.no Z Z Z Z<|RunA.no Z Z Z Z<|RunA.no Z Z Z Z<|RunA.no Z Z Z Z<|RunA.no Z Z Z Z<|RunA.no Z Z Z Z<|RunA.no Z Z Z Z<|RunA.no Z Z Z Z<|RunA.no Z Z Z Z<|RunA.no Z Z Z Z<|RunA.no Z Z Z Z<|RunA.no Z Z Z Z<|RunA.no Z Z Z Z ?_
 refine RunA.rd Z Z Z (Q1 (Qc Z Z)) Z ?_
 refine RunA.nil ⟨?ex,_,_,Z,?_⟩
 case ex=>exact trivial
 have e:=sI h2;subst e
 exact Q9 true (sL (Nat.zero_le _) Z Z Z Z Z) h1
 replace h2:=Qg c17 h2
 refine RunA.rd Z Z Z (Q1 (Qq Z)) Z<|RunA.rd Z Z Z (Q1 (Q8 Z Z Z)) Z ?_
 refine JM (c:=(decide (0 < s1))) Z Z Z (Q1 (Qq Z)) Z (fun c18=>?_) (fun c18=>?_)
 replace h2:=Qf c18 h2
 refine RunA.rd Z Z Z (Q1 (Q2 Yn Z)) Z<|RunA.rd Z Z Z (Q1 (Q6 Zy Z Z Z)) Z<|RunA.rd Z Z Z (Q1 (Qq Z)) Z<|RunA.rd Z Z Z (Q1 (Q8 Z Z Z)) Z ?_
 refine Qd h2 (fun x19 hx19 h2=>?_)
 refine RunA.rd Z Z Z (Q1 (Qt (α:=LV) YU Z (.d _) Z hx19)) Z<|RunA.rd Z Z Z (Q1 (J5 YH Z)) Z<|RunA.rd Z Z Z (Q1 (Jj QG Z Z)) Z<|RunA.rd Z Z Z (Q1 (Q2 YH Z)) Z<|RunA.rd Z Z Z (Q1 (Q6 QG Z Z Z)) Z<|RunA.rd Z Z Z (Q1 (Q8 Z Z Z)) Z<|RunA.rd Z Z Z (Q1 (Qc Z Z)) Z<|RunA.rd Z Z Z (Q1 (Qa Z Z)) Z ?_
 refine RunA.nil ⟨?ex,_,_,Z,?_⟩
 case ex=>exact trivial
 have e:=sI h2;subst e
 exact Q9 (decide (x12.1≤x19.1)) (sL (Nat.zero_le _) Z Z Z Z Z) h1
 replace h2:=Qg c18 h2
 refine RunA.no Z Z Z Z<|RunA.no Z Z Z Z<|RunA.no Z Z Z Z<|RunA.no Z Z Z Z<|RunA.no Z Z Z Z<|RunA.no Z Z Z Z<|RunA.no Z Z Z Z<|RunA.no Z Z Z Z<|RunA.no Z Z Z Z<|RunA.no Z Z Z Z<|RunA.rd Z Z Z (Q1 (Qa Z Z)) Z<|RunA.rd Z Z Z (Q1 (Qa Z Z)) Z ?_
 refine RunA.nil ⟨?ex,_,_,Z,?_⟩
 case ex=>exact trivial
 have e:=sI h2;subst e
 exact Q9 false (sL (Nat.zero_le _) Z Z Z Z Z) h1
 intro v13 h1
 refine Q3 ?_
 refine Qe (b:=v13) Z (fun c20=>?_) (fun c20=>?_)
 replace h1:=Qf c20 h1
 refine Q4<|Q0<|rA Z Z Z<|Q5<|Q3<|Qp ?_
 have e:=sI h1;subst e
 have e_:_=_:=ho1
 subst e_
 try dsimp only [Sum.elim_inl,Sum.elim_inr] at h0
 have e:=sI h0;subst e
 exact Qn (fun _ _ h=>h) Z (Qm Z .nil) (.cons (.one (.d _)) .nil)
 replace h1:=Qg c20 h1
 refine Qj<|Qk<|Q3<|Q0<|rR Z Z Z (Q8 Z Z Z)<|rM Z Z Z<|Q5 ?_
 have e:=sI h1;subst e
 refine QJ (Ja (s1+1)) (sL (Nat.zero_le _) Z Z Z Z Z) ho1
 replace h1:=Qg c11 h1
 refine QW<|Qr<|Qr ?_
 have e:=sI h1;subst e
 have e_:_=_:=ho1
 subst e_
 exact QO () (sL (Nat.zero_le _) Z Z Z Z Z) h0
 intro o9 h0
 refine QF<|Q3<|Q4<|Q0<|rA Z Z Z<|Q5<|Q3<|Qp ?_
 have e:=sI h0;subst e
 exact Qn (fun _ _ h=>h) Z (Qm Z .nil) (.cons (.one (.d _)) .nil)
end Go.Proofs.Ytafddfoefeploaa
namespace Go.Proofs.Ytafddfoefeploaa
open Go.RowKit Go.Shelf
theorem en_65:QY Try.prog 65:=enters_of Try.func65 (by kernel_rfl) rfl
theorem en_79:QY Try.prog 79:=enters_of Try.func79 (by kernel_rfl) rfl
theorem en_81:QY Try.prog 81:=enters_of Try.func81 (by kernel_rfl) rfl
def m79 (a0:Byt):Option Bool :=
 Option.bind (cond (decide (97≤a0.n))
   (cond (decide (a0.n≤122))
   (some true)
   (cond (decide (65≤a0.n))
   (cond (decide (a0.n≤90))
   (some true)
   (some (a0.n==95)))
   (some (a0.n==95))))
   (cond (decide (65≤a0.n))
   (cond (decide (a0.n≤90))
   (some true)
   (some (a0.n==95)))
   (some (a0.n==95)))) (fun (v1:Bool)=>some v1)
theorem m79_ok (a0:Byt) (r:Bool) (h0:m79 a0=some r):Fun Try.prog 79 [.one (.d (.v (.int .u8 a0.n)))] (QM [.one (dB r)]):=by
 unfold m79 at h0
 refine QB 9 21 Try.func79 Z en_79 Z (lb Z) (fun S w=>?_)
 simp only [J3]
 refine Q4<|Q0<|rA Z Z Z<|Q5<|Q3<|Q4 ?_
 refine QD (fun (v1:Bool)=>⟨[(2,.v (.one (dB v1)))],[],[],0,21,[]⟩) (fun (v1:Bool)=>(some v1)=some r) ?_ ?_
 refine Qd h0 (fun w1_ h1 h0=>?_)
 refine Q0<|rM Z Z Z<|rR Z Z Z (Q8 Z Z Z)<|rM Z Z Z ?_
 refine Qw (d:=5) (c:=(decide (97≤a0.n))) Z (fun c2=>?_) (fun c2=>?_)
 replace h1:=Qf c2 h1
 refine rM Z Z Z<|rR Z Z Z (Q8 Z Z Z)<|rR Z Z Z (Qc Z Z)<|rM Z Z Z ?_
 refine Qw (d:=9) (c:=(decide (a0.n≤122))) Z (fun c3=>?_) (fun c3=>?_)
 replace h1:=Qf c3 h1
 refine Q7 Z Z<|Q7 Z Z<|Q7 Z Z<|Q7 Z Z<|Q7 Z Z<|Q7 Z Z<|rR Z Z Z (Qc Z Z)<|rM Z Z Z<|Q7 Z Z<|Q7 Z Z<|rR Z Z Z (Qc Z Z)<|rA Z Z Z<|Q5 ?_
 have e:=sI h1;subst e
 exact Q9 true (sL (Nat.zero_le _) Z Z Z Z Z) h0
 replace h1:=Qg c3 h1
 refine rM Z Z Z<|rR Z Z Z (Q8 Z Z Z)<|rM Z Z Z ?_
 refine Qw (d:=12) (c:=(decide (65≤a0.n))) Z (fun c4=>?_) (fun c4=>?_)
 replace h1:=Qf c4 h1
 refine rM Z Z Z<|rR Z Z Z (Q8 Z Z Z)<|rR Z Z Z (Qc Z Z)<|rR Z Z Z (Qa Z Z)<|rM Z Z Z ?_
 refine Qw (d:=17) (c:=(decide (a0.n≤90))) Z (fun c5=>?_) (fun c5=>?_)
 replace h1:=Qf c5 h1
 refine Q7 Z Z<|Q7 Z Z<|rR Z Z Z (Qc Z Z)<|rA Z Z Z<|Q5 ?_
 have e:=sI h1;subst e
 exact Q9 true (sL (Nat.zero_le _) Z Z Z Z Z) h0
 replace h1:=Qg c5 h1
 refine rM Z Z Z<|rR Z Z Z (Q8 Z Z Z)<|rR Z Z Z (Qa Z Z)<|rA Z Z Z<|Q5 ?_
 have e:=sI h1;subst e
 exact Q9 (a0.n==95) (sL (Nat.zero_le _) Z Z Z Z Z) h0
 replace h1:=Qg c4 h1
 refine Q7 Z Z<|Q7 Z Z<|rR Z Z Z (Qa Z Z)<|rR Z Z Z (Qa Z Z)<|rM Z Z Z<|rM Z Z Z<|rR Z Z Z (Q8 Z Z Z)<|rR Z Z Z (Qa Z Z)<|rA Z Z Z<|Q5 ?_
 have e:=sI h1;subst e
 exact Q9 (a0.n==95) (sL (Nat.zero_le _) Z Z Z Z Z) h0
 replace h1:=Qg c2 h1
 refine Q7 Z Z<|Q7 Z Z<|rR Z Z Z (Qa Z Z)<|rM Z Z Z<|rM Z Z Z<|rR Z Z Z (Q8 Z Z Z)<|rM Z Z Z ?_
 refine Qw (d:=12) (c:=(decide (65≤a0.n))) Z (fun c6=>?_) (fun c6=>?_)
 replace h1:=Qf c6 h1
 refine rM Z Z Z<|rR Z Z Z (Q8 Z Z Z)<|rR Z Z Z (Qc Z Z)<|rR Z Z Z (Qa Z Z)<|rM Z Z Z ?_
 refine Qw (d:=17) (c:=(decide (a0.n≤90))) Z (fun c7=>?_) (fun c7=>?_)
 replace h1:=Qf c7 h1
 refine Q7 Z Z<|Q7 Z Z<|rR Z Z Z (Qc Z Z)<|rA Z Z Z<|Q5 ?_
 have e:=sI h1;subst e
 exact Q9 true (sL (Nat.zero_le _) Z Z Z Z Z) h0
 replace h1:=Qg c7 h1
 refine rM Z Z Z<|rR Z Z Z (Q8 Z Z Z)<|rR Z Z Z (Qa Z Z)<|rA Z Z Z<|Q5 ?_
 have e:=sI h1;subst e
 exact Q9 (a0.n==95) (sL (Nat.zero_le _) Z Z Z Z Z) h0
 replace h1:=Qg c6 h1
 refine Q7 Z Z<|Q7 Z Z<|rR Z Z Z (Qa Z Z)<|rR Z Z Z (Qa Z Z)<|rM Z Z Z<|rM Z Z Z<|rR Z Z Z (Q8 Z Z Z)<|rR Z Z Z (Qa Z Z)<|rA Z Z Z<|Q5 ?_
 have e:=sI h1;subst e
 exact Q9 (a0.n==95) (sL (Nat.zero_le _) Z Z Z Z Z) h0
 intro v1 h0
 refine Q3<|Qp ?_
 have e:=sI h0;subst e
 exact Qn (fun _ _ h=>h) Z (Qm Z .nil) (.cons (.one (.d _)) .nil)
def Wf (a0:Bs) (s1:Bool×Int):Option (LO (Bool×Int) (Bool⊕Bool)) :=
 cond (decide (s1.2 < (a0.length:Int)))
   (Option.bind (JP a0 s1.2) fun (x3:UInt8) =>
 Option.bind (m79 (⟨(x3.toNat:Int)⟩:Byt)) fun (x4:Bool) =>
 cond x4
   (some (.next (false,(Ja (s1.2+1)))))
   (cond s1.1
   (some (.done (.inr false)))
   (cond ((x3.toNat:Int)==46)
   (some (.next (true,(Ja (s1.2+1)))))
   (Option.bind (cond (decide ((x3.toNat:Int) < 48))
   (some true)
   (some (decide (57 < (x3.toNat:Int))))) (fun (v8:Bool)=>cond v8
   (cond ((x3.toNat:Int) != 39)
   (some (.done (.inr false)))
   (some (.next (s1.1,(Ja (s1.2+1))))))
   (some (.next (s1.1,(Ja (s1.2+1))))))))))
   (some (.done (.inl s1.1)))
def DR (a0:Bs):Option Bool :=
 Option.bind (QE (Wf a0) QU (true,0)) (Sum.elim (fun (o1:Bool)=>Option.bind (cond (!o1)
   (some (decide ((a0.length:Int)≤64)))
   (some false)) (fun (v2:Bool)=>some v2)) (fun o=>some o))
theorem m65_ok (a0:Bs) (r:Bool) (h0:DR a0=some r):Fun Try.prog 65 [.one (J6 a0)] (QM [.one (dB r)]):=by
 unfold DR at h0
 refine QB 9 39 Try.func65 Z en_65 Z (lb Z) (fun S w=>?_)
 simp only [J3]
 refine Q4<|Q0<|rA Z Z Z<|Q5<|Q3<|Q4<|Q0<|rA Z Z Z<|Q5<|Q3<|Q4<|Q4<|Q0<|rM Z Z Z ?_
 refine rR Z Z Z (KP Ue Z)<|rM Z Z Z<|Q5<|Q3<|Ql ?_
 refine QQ 0 (fun (o1:Bool)=>⟨[(0,.v (.one (J6 a0))),(3,.v (.one (dB o1)))],[],[],0,39,[]⟩) (fun (o1:Bool)=>(Option.bind (cond (!o1)
     (some (decide ((a0.length:Int)≤64)))
     (some false)) (fun (v2:Bool)=>some v2))=some r) ?_ ?_
 refine Qd h0 (fun o2 hl1 h0=>?_)
 refine QP (Wf a0) (fun s1=>⟨[(0,.v (.one (J6 a0))),(3,.v (.one (dB s1.1))),(7,.v (.one (dI (a0.length:Int)))),(8,.v (.one (dI s1.2)))],[],[],0,39,[]⟩) (true,0) o2 (sL (Nat.zero_le _) Z Z Z Z Z) hl1 (fun s1 n1 oo1 h1 ho1=>?_)
 unfold Wf at h1
 refine Q4<|Q0<|rR Z Z Z (Q8 Z Z Z)<|Q5<|Q3<|Q4 ?_
 refine Qe (b:=(decide (s1.2 < (a0.length:Int)))) Z (fun c3=>?_) (fun c3=>?_)
 replace h1:=Qf c3 h1
 refine Qj<|Q3<|Q4<|Ql<|Q4<|Q0<|rM Z Z Z<|rA Z Z Z<|Q5<|Q3<|Q4<|Q0<|rM Z Z Z<|rM Z Z Z ?_
 refine Qd h1 (fun x4 hx4 h1=>?_)
 refine rR Z Z Z (RO.ixS Ue Z Z hx4)<|rA Z Z Z<|Q5<|Q3<|Ql<|Q4<|Q0<|rM Z Z Z ?_
 refine Qd h1 (fun x5 hx5 h1=>?_)
 refine Qb Z Z (lb Z) (Qh (m79_ok (⟨(x4.toNat:Int)⟩:Byt) x5 hx5) Z (.cons (.one (.d _)) .nil))<|rA Z Z Z<|Q5<|Q3 ?_
 refine Qe (b:=x5) Z (fun c6=>?_) (fun c6=>?_)
 replace h1:=Qf c6 h1
 refine Q0<|rA Z Z Z<|Q5<|Qk<|Qk<|Q3<|Q0<|rR Z Z Z (Q8 Z Z Z)<|rM Z Z Z<|Q5 ?_
 have e:=sI h1;subst e
 refine QJ (false,(Ja (s1.2+1))) (sL (Nat.zero_le _) Z Z Z Z Z) ho1
 replace h1:=Qg c6 h1
 refine Q4<|Q0<|rM Z Z Z<|rA Z Z Z<|Q5<|Q3 ?_
 refine Qe (b:=s1.1) Z (fun c7=>?_) (fun c7=>?_)
 replace h1:=Qf c7 h1
 refine Q4<|Q0<|rA Z Z Z<|Q5<|Q3<|Qp ?_
 have e:=sI h1;subst e
 have e_:_=_:=ho1
 subst e_
 try dsimp only [Sum.elim_inl,Sum.elim_inr] at h0
 have e:=sI h0;subst e
 exact Qn (fun _ _ h=>h) Z (Qm Z .nil) (.cons (.one (.d _)) .nil)
 replace h1:=Qg c7 h1
 refine Q4<|Q0<|rM Z Z Z<|rR Z Z Z (Q8 Z Z Z)<|rA Z Z Z<|Q5<|Q3 ?_
 refine Qe (b:=((x4.toNat:Int)==46)) Z (fun c8=>?_) (fun c8=>?_)
 replace h1:=Qf c8 h1
 refine Q0<|rA Z Z Z<|Q5<|Qk<|Qk<|Q3<|Q0<|rR Z Z Z (Q8 Z Z Z)<|rM Z Z Z<|Q5 ?_
 have e:=sI h1;subst e
 refine QJ (true,(Ja (s1.2+1))) (sL (Nat.zero_le _) Z Z Z Z Z) ho1
 replace h1:=Qg c8 h1
 refine Q4 ?_
 refine QD (fun (v9:Bool)=>⟨[(0,.v (.one (J6 a0))),(3,.v (.one (dB s1.1))),(5,.v (.one (.d (.v (.int .u8 (x4.toNat:Int)))))),(7,.v (.one (dI (a0.length:Int)))),(8,.v (.one (dI s1.2))),(22,.v (.one (dB v9)))],[],[],0,39,[]⟩) (fun (v9:Bool)=>(cond v9
     (cond ((x4.toNat:Int) != 39)
     (some (.done (.inr false)))
     (some (.next (s1.1,(Ja (s1.2+1))))))
     (some (.next (s1.1,(Ja (s1.2+1))))))=some oo1) ?_ ?_
 refine Qd h1 (fun w2_ h2 h1=>?_)
 refine Q0<|rM Z Z Z<|rR Z Z Z (Q8 Z Z Z)<|rM Z Z Z ?_
 refine Qw (d:=25) (c:=(decide ((x4.toNat:Int) < 48))) Z (fun c10=>?_) (fun c10=>?_)
 replace h2:=Qf c10 h2
 refine Q7 Z Z<|Q7 Z Z<|rR Z Z Z (Qc Z Z)<|rA Z Z Z<|Q5 ?_
 have e:=sI h2;subst e
 exact Q9 true (sL (Nat.zero_le _) Z Z Z Z Z) h1
 replace h2:=Qg c10 h2
 refine rM Z Z Z<|rR Z Z Z (Q8 Z Z Z)<|rR Z Z Z (Qa Z Z)<|rA Z Z Z<|Q5 ?_
 have e:=sI h2;subst e
 exact Q9 (decide (57 < (x4.toNat:Int))) (sL (Nat.zero_le _) Z Z Z Z Z) h1
 intro v9 h1
 refine Q3 ?_
 refine Qe (b:=v9) Z (fun c11=>?_) (fun c11=>?_)
 replace h1:=Qf c11 h1
 refine Q4<|Q0<|rM Z Z Z<|rR Z Z Z (Q8 Z Z Z)<|Q5<|Q3 ?_
 refine Qe (b:=((x4.toNat:Int) != 39)) Z (fun c12=>?_) (fun c12=>?_)
 replace h1:=Qf c12 h1
 refine Q4<|Q0<|rA Z Z Z<|Q5<|Q3<|Qp ?_
 have e:=sI h1;subst e
 have e_:_=_:=ho1
 subst e_
 try dsimp only [Sum.elim_inl,Sum.elim_inr] at h0
 have e:=sI h0;subst e
 exact Qn (fun _ _ h=>h) Z (Qm Z .nil) (.cons (.one (.d _)) .nil)
 replace h1:=Qg c12 h1
 refine Qj<|Qk<|Qk<|Q3<|Q0<|rR Z Z Z (Q8 Z Z Z)<|rM Z Z Z<|Q5 ?_
 have e:=sI h1;subst e
 refine QJ (s1.1,(Ja (s1.2+1))) (sL (Nat.zero_le _) Z Z Z Z Z) ho1
 replace h1:=Qg c11 h1
 refine Qj<|Qk<|Qk<|Q3<|Q0<|rR Z Z Z (Q8 Z Z Z)<|rM Z Z Z<|Q5 ?_
 have e:=sI h1;subst e
 refine QJ (s1.1,(Ja (s1.2+1))) (sL (Nat.zero_le _) Z Z Z Z Z) ho1
 replace h1:=Qg c3 h1
 refine QW<|Qr<|Qr ?_
 have e:=sI h1;subst e
 have e_:_=_:=ho1
 subst e_
 exact QO s1.1 (sL (Nat.zero_le _) Z Z Z Z Z) h0
 intro o1 h0
 refine QF<|Q3<|Q4 ?_
 refine QD (fun (v13:Bool)=>⟨[(2,.v (.one (dB v13)))],[],[],0,39,[]⟩) (fun (v13:Bool)=>(some v13)=some r) ?_ ?_
 refine Qd h0 (fun w1_ h1 h0=>?_)
 refine Q0<|rM Z Z Z<|rR Z Z Z (Jc Z)<|rM Z Z Z ?_
 refine Qw (d:=34) (c:=(!o1)) Z (fun c14=>?_) (fun c14=>?_)
 replace h1:=Qf c14 h1
 refine rM Z Z Z<|rR Z Z Z (KP Ue Z)<|rR Z Z Z (Q8 Z Z Z)<|rR Z Z Z (Qc Z Z)<|rA Z Z Z<|Q5 ?_
 have e:=sI h1;subst e
 exact Q9 (decide ((a0.length:Int)≤64)) (sL (Nat.zero_le _) Z Z Z Z Z) h0
 replace h1:=Qg c14 h1
 refine Q7 Z Z<|Q7 Z Z<|Q7 Z Z<|rR Z Z Z (Qa Z Z)<|rA Z Z Z<|Q5 ?_
 have e:=sI h1;subst e
 exact Q9 false (sL (Nat.zero_le _) Z Z Z Z Z) h0
 intro v13 h0
 refine Q3<|Qp ?_
 have e:=sI h0;subst e
 exact Qn (fun _ _ h=>h) Z (Qm Z .nil) (.cons (.one (.d _)) .nil)
def m81_l0 (a0:Tm) (rc:Tm→Option Int) (s1:Int×Int):Option (LO (Int×Int) Int) :=
 cond (decide (s1.2 < (a0.kids.length:Int)))
   (Option.bind (JP a0.kids s1.2) fun (x3:Tm) =>
 Option.bind (rc x3) fun (x4:Int) =>
 some (.next ((max s1.1 x4),(Ja (s1.2+1)))))
   (some (.done s1.1))
def m81s (rc:Tm→Option Int) (a0:Tm):Option Int :=
 Option.bind (QE (m81_l0 a0 rc) QU (0,0)) (fun (o1:Int)=>some (Ja (o1+1)))
def m81F (rc:Tm→Option Int) (u:Tm):Option Int:=m81s rc u
def m81 (a0:Tm):Option Int:=JR m81F QU a0
theorem m81s_ok (rc:Tm→Option Int) (H:∀ (a0:Tm) (r:Int),rc a0=some r→Fun Try.prog 81 [.agg (cE a0)] (QM [.one (dI r)])) (a0:Tm) (r:Int) (h0:m81s rc a0=some r):Fun Try.prog 81 [.agg (cE a0)] (QM [.one (dI r)]):=by
 unfold m81s at h0
 refine QB 9 20 Try.func81 Z en_81 Z (lb Z) (fun S w=>?_)
 simp only [J3]
 refine Q4<|Q0<|Qb Z Z (lb Z) (QN Z)<|rA Z Z Z<|Q5<|Q3<|Q4<|Q0<|rA Z Z Z<|Q5<|Q3<|Q4<|Q4<|Q0 ?_
 refine rR Z Z Z (Q2 Jv Z)<|rR Z Z Z (Q6 JH Z Z Z)<|rR Z Z Z (Qx (α:=Tm) Jk Z (.d _))<|rM Z Z Z<|Q5<|Q3<|Ql ?_
 refine QQ 0 (fun (o1:Int)=>⟨[(3,.v (.one (dI o1)))],[(0,.cells 33 (cE a0))],[],1,20,[]⟩) (fun (o1:Int)=>(some (Ja (o1+1)))=some r) ?_ ?_
 refine Qd h0 (fun o2 hl1 h0=>?_)
 refine QP (m81_l0 a0 rc) (fun s1=>⟨[(3,.v (.one (dI s1.1))),(7,.v (.one (dS a0.kids))),(8,.v (.one (dI (a0.kids.length:Int)))),(9,.v (.one (dI s1.2)))],[(0,.cells 33 (cE a0))],[],1,20,[]⟩) (0,0) o2 (sL (Nat.zero_le _) Z Z Z Z Z) hl1 (fun s1 n1 oo1 h1 ho1=>?_)
 unfold m81_l0 at h1
 refine Q4<|Q0<|rR Z Z Z (Q8 Z Z Z)<|Q5<|Q3<|Q4 ?_
 refine Qe (b:=(decide (s1.2 < (a0.kids.length:Int)))) Z (fun c3=>?_) (fun c3=>?_)
 replace h1:=Qf c3 h1
 refine Qj<|Q3<|Q4<|Ql<|Q4<|Q0 ?_
 refine Qd h1 (fun x4 hx4 h1=>?_)
 refine rR Z Z Z (Qt (α:=Tm) Jk Z (.d _) Z hx4)<|rR Z Z Z (Qu (x4:Tm) QR Z)<|Qb Z Z (lb Z) (Qv G1 Z)<|QC Z Z (QA (x4:Tm) QR Z Z Z Z Z)<|Q5<|Q3<|Q0<|rM Z Z Z<|rR Z Z Z (QH (x4:Tm) QR Z Z) ?_
 refine Qd h1 (fun x5 hx5 h1=>?_)
 refine Qb Z Z (lb Z) (Qh (H x4 x5 hx5) Z (.cons (.agg (.cons (.d _) (.cons (.d _) (.cons (.d _) (.cons (.d _) (.cons (.d _) .nil)))))) .nil))<|rR Z Z Z (KO Z Z)<|rA Z Z Z<|Q5<|Qk<|Q3<|Q0<|rR Z Z Z (Q8 Z Z Z)<|rM Z Z Z<|Q5 ?_
 have e:=sI h1;subst e
 refine QJ ((max s1.1 x5),(Ja (s1.2+1))) (sL (Nat.zero_le _) Z Z Z Z Z) ho1
 replace h1:=Qg c3 h1
 refine QW<|Qr<|Qr ?_
 have e:=sI h1;subst e
 have e_:_=_:=ho1
 subst e_
 exact QO s1.1 (sL (Nat.zero_le _) Z Z Z Z Z) h0
 intro o1 h0
 refine QF<|Q3<|Q4<|Q0<|rM Z Z Z<|rR Z Z Z (Q8 Z Z Z)<|rA Z Z Z<|Q5<|Q3<|Qp ?_
 have e:=sI h0;subst e
 exact Qn (fun _ _ h=>h) Z (Qm Z .nil) (.cons (.one (.d _)) .nil)
theorem m81_all (n:Nat) (u:Tm) (r:Int) (h0:JR m81F n u=some r):Fun Try.prog 81 [.agg (cE u)] (QM [.one (dI r)]) :=
 YN (C:=fun u r=>Fun Try.prog 81 [.agg (cE u)] (QM [.one (dI r)])) (fun rc H u r h=>m81s_ok rc (fun a0 r h=>H a0 r h) u r h) n u r h0
theorem m81_ok (a0:Tm) (r:Int) (h0:m81 a0=some r):Fun Try.prog 81 [.agg (cE a0)] (QM [.one (dI r)]):=m81_all QU a0 r h0
end Go.Proofs.Ytafddfoefeploaa
namespace Go.Proofs.Ytafddfoefeploaa
open Go.RowKit Go.Shelf
theorem fo_127_0:J1 Try.prog 127 0=some 0:=by kernel_rfl
theorem fo_127_1:J1 Try.prog 127 1=some 1:=by kernel_rfl
theorem fo_127_2:J1 Try.prog 127 2=some 2:=by kernel_rfl
theorem fo_127_3:J1 Try.prog 127 3=some 3:=by kernel_rfl
theorem fo_134_0:J1 Try.prog 134 0=some 0:=by kernel_rfl
theorem fo_134_1:J1 Try.prog 134 1=some 1:=by kernel_rfl
theorem Ku:J1 Try.prog 134 2=some 2:=by kernel_rfl
theorem Kt:J1 Try.prog 134 3=some 3:=by kernel_rfl
theorem ag_127:JI Try.prog 127=some (true,4):=by kernel_rfl
theorem ag_134:JI Try.prog 134=some (true,5):=by kernel_rfl
theorem Dk:JQ Try.prog 87=some [.int .i64 0,.slice none 0 0]:=by kernel_rfl
theorem z_134:JQ Try.prog 134=some [.bool false,.bool false,.int .i64 0,.int .i64 0,.int .i64 0]:=by kernel_rfl
theorem en_80:QY Try.prog 80:=enters_of Try.func80 (by kernel_rfl) rfl
theorem en_96:QY Try.prog 96:=enters_of Try.func96 (by kernel_rfl) rfl
theorem en_97:QY Try.prog 97:=enters_of Try.func97 (by kernel_rfl) rfl
theorem as_135:tyArrS Try.prog 135=some (13,5):=by kernel_rfl
def m90 :Option ((List Use)) :=
 some ([(⟨true,false,0,0,(-1)⟩:Use),(⟨false,false,0,0,(-1)⟩:Use),(⟨false,false,1,0,(-1)⟩:Use),(⟨false,true,(-1),0,(-1)⟩:Use),(⟨false,false,0,2,(-1)⟩:Use),(⟨false,false,0,2,1⟩:Use),(⟨false,false,0,2,1⟩:Use),(⟨false,false,0,2,1⟩:Use),(⟨false,false,0,3,(-1)⟩:Use),(⟨false,false,0,1,(-1)⟩:Use),(⟨false,false,0,1,(-1)⟩:Use),(⟨false,false,0,3,2⟩:Use),(⟨true,false,0,0,(-1)⟩:Use)]:List Use)
theorem m90_ok  (r:(List Use)) (h0:m90 =some r):Fun Try.prog 90 [] (QM [.agg (Uz (r:List Use))]):=by
 unfold m90 at h0
 refine QB 9 15 Try.func90 Z en_90 Z (lb Z) (fun S w=>?_)
 simp only [J3]
 refine Q4<|Q0<|Qb Z Z (lb Z) (Qv z_135 Z)<|Q5<|Q3<|Q4<|Q0<|rR Z Z Z (Jt Yq Z Z Z Z)<|rR Z Z Z (RO.build1 Yq Z Z Z)<|rR Z Z Z (Jt Yq Z Z Z Z)<|rR Z Z Z (ZN Yq Z Z Z Z Z)<|rR Z Z Z (Jt Yq Z Z Z Z)<|rR Z Z Z (Jt Yq Z Z Z Z)<|rR Z Z Z (Jt Yq Z Z Z Z) ?_
 refine rR Z Z Z (Jt Yq Z Z Z Z)<|rR Z Z Z (Jt Yq Z Z Z Z)<|rR Z Z Z (Jt Yq Z Z Z Z)<|rR Z Z Z (Jt Yq Z Z Z Z)<|rR Z Z Z (Jt Yq Z Z Z Z)<|rR Z Z Z (Jt Yq Z Z Z Z)<|rR Z Z Z (Y1 bd_135 Z (.cons Z (.cons Z (.cons Z (.cons Z (.cons Z (.cons Z (.cons Z (.cons Z (.cons Z (.cons Z (.cons Z (.cons Z (.cons Z .nil))))))))))))) Z)<|QC Z Z (YT UE Z Z Z Z Z Z)<|Q5<|Q3<|Qp ?_
 have e:=sI h0;subst e
 exact Qn (fun _ _ h=>h) Z (JZ UE Z Z Z Z .nil) (.cons (.agg (.cons (.d _) (.cons (.d _) (.cons (.d _) (.cons (.d _) (.cons (.d _) (.cons (.d _) (.cons (.d _) (.cons (.d _) (.cons (.d _) (.cons (.d _) (.cons (.d _) (.cons (.d _) (.cons (.d _) (.cons (.d _) (.cons (.d _) (.cons (.d _) (.cons (.d _) (.cons (.d _) (.cons (.d _) (.cons (.d _) (.cons (.d _) (.cons (.d _) (.cons (.d _) (.cons (.d _) (.cons (.d _) (.cons (.d _) (.cons (.d _) (.cons (.d _) (.cons (.d _) (.cons (.d _) (.cons (.d _) (.cons (.d _) (.cons (.d _) (.cons (.d _) (.cons (.d _) (.cons (.d _) (.cons (.d _) (.cons (.d _) (.cons (.d _) (.cons (.d _) (.cons (.d _) (.cons (.d _) (.cons (.d _) (.cons (.d _) (.cons (.d _) (.cons (.d _) (.cons (.d _) (.cons (.d _) (.cons (.d _) (.cons (.d _) (.cons (.d _) (.cons (.d _) (.cons (.d _) (.cons (.d _) (.cons (.d _) (.cons (.d _) (.cons (.d _) (.cons (.d _) (.cons (.d _) (.cons (.d _) (.cons (.d _) (.cons (.d _) (.cons (.d _) (.cons (.d _) (.cons (.d _) .nil)))))))))))))))))))))))))))))))))))))))))))))))))))))))))))))))))) .nil)
def m96_k0 (p0_:Bool) (p1_:Tm):Option Bool :=
 cond p0_
   (some false)
   (Option.bind (m90 ) fun (b0_:(List Use)) =>
 Option.bind (JP b0_ p1_.kind) fun (b1_:Use) =>
 Jy (Nat.beq b0_.length 13)
 (Option.bind (cond b1_.index
   (cond b1_.name
   (cond (decide (b1_.levels < 0))
   (some ((p1_.kids.length:Int)==b1_.kids))
   (cond ((p1_.levels.length:Int)==b1_.levels)
   (some ((p1_.kids.length:Int)==b1_.kids))
   (some false)))
   (cond (p1_.name==([]:List UInt8))
   (cond (decide (b1_.levels < 0))
   (some ((p1_.kids.length:Int)==b1_.kids))
   (cond ((p1_.levels.length:Int)==b1_.levels)
   (some ((p1_.kids.length:Int)==b1_.kids))
   (some false)))
   (some false)))
   (cond (p1_.index==0)
   (cond b1_.name
   (cond (decide (b1_.levels < 0))
   (some ((p1_.kids.length:Int)==b1_.kids))
   (cond ((p1_.levels.length:Int)==b1_.levels)
   (some ((p1_.kids.length:Int)==b1_.kids))
   (some false)))
   (cond (p1_.name==([]:List UInt8))
   (cond (decide (b1_.levels < 0))
   (some ((p1_.kids.length:Int)==b1_.kids))
   (cond ((p1_.levels.length:Int)==b1_.levels)
   (some ((p1_.kids.length:Int)==b1_.kids))
   (some false)))
   (some false)))
   (some false))) (fun (b2_:Bool)=>some b2_)))
def DI (a0:Tm):Option Bool :=
 Option.bind (cond (decide (a0.kind < 0))
   (some true)
   (some (decide (13≤a0.kind)))) (fun (v1:Bool)=>m96_k0 v1 a0)
theorem m96_ok (a0:Tm) (r:Bool) (h0:DI a0=some r):Fun Try.prog 96 [.agg (cE a0)] (QM [.one (dB r)]):=by
 unfold DI at h0
 refine QB 9 53 Try.func96 Z en_96 Z (lb Z) (fun S w=>?_)
 simp only [J3]
 refine Q4<|Q0<|Qb Z Z (lb Z) (QN Z)<|rA Z Z Z<|Q5<|Q3<|Q4<|Q4 ?_
 refine QD (fun (v1:Bool)=>⟨[(1,.v (.one (.ptr 0 0))),(11,.v (.one (dB v1)))],[(0,.cells 33 (cE a0))],[],1,53,[]⟩) (fun (v1:Bool)=>(m96_k0 v1 a0)=some r) ?_ ?_
 refine Qd h0 (fun w1_ h1 h0=>?_)
 refine Q0<|rR Z Z Z (Q2 JF Z)<|rR Z Z Z (Q6 QG Z Z Z)<|rR Z Z Z (Q8 Z Z Z)<|rM Z Z Z ?_
 refine Qw (d:=7) (c:=(decide (a0.kind < 0))) Z (fun c2=>?_) (fun c2=>?_)
 replace h1:=Qf c2 h1
 refine Q7 Z Z<|Q7 Z Z<|Q7 Z Z<|rR Z Z Z (Qc Z Z)<|Q5 ?_
 have e:=sI h1;subst e
 exact Q9 true (sL (Nat.zero_le _) Z Z Z Z Z) h0
 replace h1:=Qg c2 h1
 refine rR Z Z Z (Q2 JF Z)<|rR Z Z Z (Q6 QG Z Z Z)<|rR Z Z Z (Q8 Z Z Z)<|rR Z Z Z (Qa Z Z)<|Q5 ?_
 have e:=sI h1;subst e
 exact Q9 (decide (13≤a0.kind)) (sL (Nat.zero_le _) Z Z Z Z Z) h0
 intro v1 h0
 unfold m96_k0 at h0
 refine Q3 ?_
 refine Qe (b:=v1) Z (fun c3=>?_) (fun c3=>?_)
 replace h0:=Qf c3 h0
 refine Q4<|Q0<|rA Z Z Z<|Q5<|Q3<|Qp ?_
 have e:=sI h0;subst e
 exact Qn (fun _ _ h=>h) Z (Qm Z .nil) (.cons (.one (.d _)) .nil)
 replace h0:=Qg c3 h0
 refine Qj<|Q3<|Q4 ?_
 refine J4 [4,5] [(0,1),(1,1),(2,1),(3,1)] JV (by kernel_rfl) (by kernel_rfl) (by kernel_rfl) ?_
 refine Qd h0 (fun x4 hx4 h0=>?_)
 refine RunA.rd Z Z Z (Qh (m90_ok  x4 hx4) Z .nil) Z<|RunA.rd Z Z Z (Q1 (Q2 JF Z)) Z<|RunA.rd Z Z Z (Q1 (Q6 QG Z Z Z)) Z ?_
 refine Qd h0 (fun x5 hx5 h0=>?_)
 refine Yt h0 (fun g6 h0=>?_)
 refine RunA.rd Z Z Z (Q1 (RO.indexAgg (α:=Use) (tbl:=x4) as_135 Z Z g6 Z hx5)) Z<|RunA.eff Z Z Z (Qv z_134 Z) Z<|RunA.eff Z Z Z (QA (x5:Use) ag_134 Z Z Z Z Z) Z ?_
 refine RunA.nil ⟨?ex,_,_,Z,?_⟩
 case ex=>exact ⟨⟨_,rfl,_,_,rfl,rfl,rfl,.inl ⟨rfl,_,Qh (m90_ok  x4 hx4) rfl .nil,rfl⟩⟩,⟨_,rfl,_,_,rfl,rfl,rfl,.inl ⟨rfl,_,Q1 (Q2 JF rfl),rfl⟩⟩,⟨_,rfl,_,_,rfl,rfl,rfl,.inl ⟨rfl,_,Q1 (Q6 QG rfl rfl rfl),rfl⟩⟩,⟨_,rfl,_,_,rfl,rfl,rfl,.inl ⟨rfl,_,Q1 (RO.indexAgg (α:=Use) (tbl:=x4) as_135 rfl rfl g6 rfl hx5),rfl⟩⟩,trivial⟩
 refine Jp (st':=⟨[(1,.v (.one (.ptr 0 0))),(3,.v (.one (.ptr 1 0)))],[(0,.cells 33 (cE a0)),(1,.cells 134 (cE x5))],[],2,53,[]⟩) (sL (Nat.zero_le _) Z Z Z Z Z)<|Q3<|Q4 ?_
 refine QD (fun (v7:Bool)=>⟨[(2,.v (.one (dB v7)))],[(0,.cells 33 (cE a0)),(1,.cells 134 (cE x5))],[],2,53,[]⟩) (fun (v7:Bool)=>(some v7)=some r) ?_ ?_
 refine Qd h0 (fun w1_ h1 h0=>?_)
 refine Q0<|rR Z Z Z (Q2 fo_134_0 Z)<|rR Z Z Z (Q6 Db Z Z Z)<|rM Z Z Z ?_
 refine Qw (d:=18) (c:=x5.index) Z (fun c8=>?_) (fun c8=>?_)
 replace h1:=Qf c8 h1
 refine Q7 Z Z<|Q7 Z Z<|Q7 Z Z<|rR Z Z Z (Qc Z Z)<|rM Z Z Z<|rR Z Z Z (Q2 fo_134_1 Z)<|rR Z Z Z (Q6 Db Z Z Z)<|rM Z Z Z ?_
 refine Qw (d:=26) (c:=x5.name) Z (fun c9=>?_) (fun c9=>?_)
 replace h1:=Qf c9 h1
 refine Q7 Z Z<|Q7 Z Z<|Q7 Z Z<|rR Z Z Z (Qc Z Z)<|rR Z Z Z (Qc Z Z)<|rM Z Z Z<|rR Z Z Z (Q2 Ku Z)<|rR Z Z Z (Q6 QG Z Z Z)<|rR Z Z Z (Q8 Z Z Z)<|rM Z Z Z ?_
 refine Qw (d:=36) (c:=(decide (x5.levels < 0))) Z (fun c10=>?_) (fun c10=>?_)
 replace h1:=Qf c10 h1
 refine Q7 Z Z<|Q7 Z Z<|Q7 Z Z<|Q7 Z Z<|Q7 Z Z<|Q7 Z Z<|rR Z Z Z (Qc Z Z)<|rR Z Z Z (Qc Z Z)<|rM Z Z Z<|rR Z Z Z (Q2 Jv Z)<|rR Z Z Z (Q6 JH Z Z Z)<|rR Z Z Z (Qx (α:=Tm) Jk Z (.d _))<|rR Z Z Z (Q2 Kt Z)<|rR Z Z Z (Q6 QG Z Z Z) ?_
 refine rR Z Z Z (Q8 Z Z Z)<|rR Z Z Z (Qc Z Z)<|rA Z Z Z<|Q5 ?_
 have e:=sI h1;subst e
 exact Q9 ((a0.kids.length:Int)==x5.kids) (sL (Nat.zero_le _) Z Z Z Z Z) h0
 replace h1:=Qg c10 h1
 refine rR Z Z Z (Q2 Yy Z)<|rR Z Z Z (Q6 K4 Z Z Z)<|rR Z Z Z (Qx (α:=Lvl) YV Z (.d _))<|rR Z Z Z (Q2 Ku Z)<|rR Z Z Z (Q6 QG Z Z Z)<|rR Z Z Z (Q8 Z Z Z)<|rR Z Z Z (Qa Z Z)<|rR Z Z Z (Qc Z Z)<|rM Z Z Z ?_
 refine Qw (d:=45) (c:=((a0.levels.length:Int)==x5.levels)) Z (fun c11=>?_) (fun c11=>?_)
 replace h1:=Qf c11 h1
 refine rR Z Z Z (Q2 Jv Z)<|rR Z Z Z (Q6 JH Z Z Z)<|rR Z Z Z (Qx (α:=Tm) Jk Z (.d _))<|rR Z Z Z (Q2 Kt Z)<|rR Z Z Z (Q6 QG Z Z Z)<|rR Z Z Z (Q8 Z Z Z)<|rR Z Z Z (Qc Z Z)<|rA Z Z Z<|Q5 ?_
 have e:=sI h1;subst e
 exact Q9 ((a0.kids.length:Int)==x5.kids) (sL (Nat.zero_le _) Z Z Z Z Z) h0
 replace h1:=Qg c11 h1
 refine Q7 Z Z<|Q7 Z Z<|Q7 Z Z<|Q7 Z Z<|Q7 Z Z<|Q7 Z Z<|rR Z Z Z (Qa Z Z)<|rA Z Z Z<|Q5 ?_
 have e:=sI h1;subst e
 exact Q9 false (sL (Nat.zero_le _) Z Z Z Z Z) h0
 replace h1:=Qg c9 h1
 refine rR Z Z Z (Q2 Zb Z)<|rR Z Z Z (Q6 JG Z Z Z)<|rR Z Z Z (ZG Z Z)<|rR Z Z Z (Qa Z Z)<|rR Z Z Z (Qc Z Z)<|rM Z Z Z ?_
 refine Qw (d:=32) (c:=(a0.name==([]:List UInt8))) Z (fun c12=>?_) (fun c12=>?_)
 replace h1:=Qf c12 h1
 refine rR Z Z Z (Q2 Ku Z)<|rR Z Z Z (Q6 QG Z Z Z)<|rR Z Z Z (Q8 Z Z Z)<|rM Z Z Z ?_
 refine Qw (d:=36) (c:=(decide (x5.levels < 0))) Z (fun c13=>?_) (fun c13=>?_)
 replace h1:=Qf c13 h1
 refine Q7 Z Z<|Q7 Z Z<|Q7 Z Z<|Q7 Z Z<|Q7 Z Z<|Q7 Z Z<|rR Z Z Z (Qc Z Z)<|rR Z Z Z (Qc Z Z)<|rM Z Z Z<|rR Z Z Z (Q2 Jv Z)<|rR Z Z Z (Q6 JH Z Z Z)<|rR Z Z Z (Qx (α:=Tm) Jk Z (.d _))<|rR Z Z Z (Q2 Kt Z)<|rR Z Z Z (Q6 QG Z Z Z) ?_
 refine rR Z Z Z (Q8 Z Z Z)<|rR Z Z Z (Qc Z Z)<|rA Z Z Z<|Q5 ?_
 have e:=sI h1;subst e
 exact Q9 ((a0.kids.length:Int)==x5.kids) (sL (Nat.zero_le _) Z Z Z Z Z) h0
 replace h1:=Qg c13 h1
 refine rR Z Z Z (Q2 Yy Z)<|rR Z Z Z (Q6 K4 Z Z Z)<|rR Z Z Z (Qx (α:=Lvl) YV Z (.d _))<|rR Z Z Z (Q2 Ku Z)<|rR Z Z Z (Q6 QG Z Z Z)<|rR Z Z Z (Q8 Z Z Z)<|rR Z Z Z (Qa Z Z)<|rR Z Z Z (Qc Z Z)<|rM Z Z Z ?_
 refine Qw (d:=45) (c:=((a0.levels.length:Int)==x5.levels)) Z (fun c14=>?_) (fun c14=>?_)
 replace h1:=Qf c14 h1
 refine rR Z Z Z (Q2 Jv Z)<|rR Z Z Z (Q6 JH Z Z Z)<|rR Z Z Z (Qx (α:=Tm) Jk Z (.d _))<|rR Z Z Z (Q2 Kt Z)<|rR Z Z Z (Q6 QG Z Z Z)<|rR Z Z Z (Q8 Z Z Z)<|rR Z Z Z (Qc Z Z)<|rA Z Z Z<|Q5 ?_
 have e:=sI h1;subst e
 exact Q9 ((a0.kids.length:Int)==x5.kids) (sL (Nat.zero_le _) Z Z Z Z Z) h0
 replace h1:=Qg c14 h1
 refine Q7 Z Z<|Q7 Z Z<|Q7 Z Z<|Q7 Z Z<|Q7 Z Z<|Q7 Z Z<|rR Z Z Z (Qa Z Z)<|rA Z Z Z<|Q5 ?_
 have e:=sI h1;subst e
 exact Q9 false (sL (Nat.zero_le _) Z Z Z Z Z) h0
 replace h1:=Qg c12 h1
 refine Q7 Z Z<|Q7 Z Z<|Q7 Z Z<|Q7 Z Z<|Q7 Z Z<|Q7 Z Z<|Q7 Z Z<|Q7 Z Z<|Q7 Z Z<|Q7 Z Z<|Q7 Z Z<|rR Z Z Z (Qa Z Z)<|rM Z Z Z<|Q7 Z Z ?_
 refine Q7 Z Z<|Q7 Z Z<|Q7 Z Z<|Q7 Z Z<|Q7 Z Z<|rR Z Z Z (Qa Z Z)<|rA Z Z Z<|Q5 ?_
 have e:=sI h1;subst e
 exact Q9 false (sL (Nat.zero_le _) Z Z Z Z Z) h0
 replace h1:=Qg c8 h1
 refine rR Z Z Z (Q2 YK Z)<|rR Z Z Z (Q6 QG Z Z Z)<|rR Z Z Z (Q8 Z Z Z)<|rR Z Z Z (Qa Z Z)<|rM Z Z Z ?_
 refine Qw (d:=23) (c:=(a0.index==0)) Z (fun c15=>?_) (fun c15=>?_)
 replace h1:=Qf c15 h1
 refine rR Z Z Z (Q2 fo_134_1 Z)<|rR Z Z Z (Q6 Db Z Z Z)<|rM Z Z Z ?_
 refine Qw (d:=26) (c:=x5.name) Z (fun c16=>?_) (fun c16=>?_)
 replace h1:=Qf c16 h1
 refine Q7 Z Z<|Q7 Z Z<|Q7 Z Z<|rR Z Z Z (Qc Z Z)<|rR Z Z Z (Qc Z Z)<|rM Z Z Z<|rR Z Z Z (Q2 Ku Z)<|rR Z Z Z (Q6 QG Z Z Z)<|rR Z Z Z (Q8 Z Z Z)<|rM Z Z Z ?_
 refine Qw (d:=36) (c:=(decide (x5.levels < 0))) Z (fun c17=>?_) (fun c17=>?_)
 replace h1:=Qf c17 h1
 refine Q7 Z Z<|Q7 Z Z<|Q7 Z Z<|Q7 Z Z<|Q7 Z Z<|Q7 Z Z<|rR Z Z Z (Qc Z Z)<|rR Z Z Z (Qc Z Z)<|rM Z Z Z<|rR Z Z Z (Q2 Jv Z)<|rR Z Z Z (Q6 JH Z Z Z)<|rR Z Z Z (Qx (α:=Tm) Jk Z (.d _))<|rR Z Z Z (Q2 Kt Z)<|rR Z Z Z (Q6 QG Z Z Z) ?_
 refine rR Z Z Z (Q8 Z Z Z)<|rR Z Z Z (Qc Z Z)<|rA Z Z Z<|Q5 ?_
 have e:=sI h1;subst e
 exact Q9 ((a0.kids.length:Int)==x5.kids) (sL (Nat.zero_le _) Z Z Z Z Z) h0
 replace h1:=Qg c17 h1
 refine rR Z Z Z (Q2 Yy Z)<|rR Z Z Z (Q6 K4 Z Z Z)<|rR Z Z Z (Qx (α:=Lvl) YV Z (.d _))<|rR Z Z Z (Q2 Ku Z)<|rR Z Z Z (Q6 QG Z Z Z)<|rR Z Z Z (Q8 Z Z Z)<|rR Z Z Z (Qa Z Z)<|rR Z Z Z (Qc Z Z)<|rM Z Z Z ?_
 refine Qw (d:=45) (c:=((a0.levels.length:Int)==x5.levels)) Z (fun c18=>?_) (fun c18=>?_)
 replace h1:=Qf c18 h1
 refine rR Z Z Z (Q2 Jv Z)<|rR Z Z Z (Q6 JH Z Z Z)<|rR Z Z Z (Qx (α:=Tm) Jk Z (.d _))<|rR Z Z Z (Q2 Kt Z)<|rR Z Z Z (Q6 QG Z Z Z)<|rR Z Z Z (Q8 Z Z Z)<|rR Z Z Z (Qc Z Z)<|rA Z Z Z<|Q5 ?_
 have e:=sI h1;subst e
 exact Q9 ((a0.kids.length:Int)==x5.kids) (sL (Nat.zero_le _) Z Z Z Z Z) h0
 replace h1:=Qg c18 h1
 refine Q7 Z Z<|Q7 Z Z<|Q7 Z Z<|Q7 Z Z<|Q7 Z Z<|Q7 Z Z<|rR Z Z Z (Qa Z Z)<|rA Z Z Z<|Q5 ?_
 have e:=sI h1;subst e
 exact Q9 false (sL (Nat.zero_le _) Z Z Z Z Z) h0
 replace h1:=Qg c16 h1
 refine rR Z Z Z (Q2 Zb Z)<|rR Z Z Z (Q6 JG Z Z Z)<|rR Z Z Z (ZG Z Z)<|rR Z Z Z (Qa Z Z)<|rR Z Z Z (Qc Z Z)<|rM Z Z Z ?_
 refine Qw (d:=32) (c:=(a0.name==([]:List UInt8))) Z (fun c19=>?_) (fun c19=>?_)
 replace h1:=Qf c19 h1
 refine rR Z Z Z (Q2 Ku Z)<|rR Z Z Z (Q6 QG Z Z Z)<|rR Z Z Z (Q8 Z Z Z)<|rM Z Z Z ?_
 refine Qw (d:=36) (c:=(decide (x5.levels < 0))) Z (fun c20=>?_) (fun c20=>?_)
 replace h1:=Qf c20 h1
 refine Q7 Z Z<|Q7 Z Z<|Q7 Z Z<|Q7 Z Z<|Q7 Z Z<|Q7 Z Z<|rR Z Z Z (Qc Z Z)<|rR Z Z Z (Qc Z Z)<|rM Z Z Z<|rR Z Z Z (Q2 Jv Z)<|rR Z Z Z (Q6 JH Z Z Z)<|rR Z Z Z (Qx (α:=Tm) Jk Z (.d _))<|rR Z Z Z (Q2 Kt Z)<|rR Z Z Z (Q6 QG Z Z Z) ?_
 refine rR Z Z Z (Q8 Z Z Z)<|rR Z Z Z (Qc Z Z)<|rA Z Z Z<|Q5 ?_
 have e:=sI h1;subst e
 exact Q9 ((a0.kids.length:Int)==x5.kids) (sL (Nat.zero_le _) Z Z Z Z Z) h0
 replace h1:=Qg c20 h1
 refine rR Z Z Z (Q2 Yy Z)<|rR Z Z Z (Q6 K4 Z Z Z)<|rR Z Z Z (Qx (α:=Lvl) YV Z (.d _))<|rR Z Z Z (Q2 Ku Z)<|rR Z Z Z (Q6 QG Z Z Z)<|rR Z Z Z (Q8 Z Z Z)<|rR Z Z Z (Qa Z Z)<|rR Z Z Z (Qc Z Z)<|rM Z Z Z ?_
 refine Qw (d:=45) (c:=((a0.levels.length:Int)==x5.levels)) Z (fun c21=>?_) (fun c21=>?_)
 replace h1:=Qf c21 h1
 refine rR Z Z Z (Q2 Jv Z)<|rR Z Z Z (Q6 JH Z Z Z)<|rR Z Z Z (Qx (α:=Tm) Jk Z (.d _))<|rR Z Z Z (Q2 Kt Z)<|rR Z Z Z (Q6 QG Z Z Z)<|rR Z Z Z (Q8 Z Z Z)<|rR Z Z Z (Qc Z Z)<|rA Z Z Z<|Q5 ?_
 have e:=sI h1;subst e
 exact Q9 ((a0.kids.length:Int)==x5.kids) (sL (Nat.zero_le _) Z Z Z Z Z) h0
 replace h1:=Qg c21 h1
 refine Q7 Z Z<|Q7 Z Z<|Q7 Z Z<|Q7 Z Z<|Q7 Z Z<|Q7 Z Z<|rR Z Z Z (Qa Z Z)<|rA Z Z Z<|Q5 ?_
 have e:=sI h1;subst e
 exact Q9 false (sL (Nat.zero_le _) Z Z Z Z Z) h0
 replace h1:=Qg c19 h1
 refine Q7 Z Z<|Q7 Z Z<|Q7 Z Z<|Q7 Z Z<|Q7 Z Z<|Q7 Z Z<|Q7 Z Z<|Q7 Z Z<|Q7 Z Z<|Q7 Z Z<|Q7 Z Z<|rR Z Z Z (Qa Z Z)<|rM Z Z Z<|Q7 Z Z ?_
 refine Q7 Z Z<|Q7 Z Z<|Q7 Z Z<|Q7 Z Z<|Q7 Z Z<|rR Z Z Z (Qa Z Z)<|rA Z Z Z<|Q5 ?_
 have e:=sI h1;subst e
 exact Q9 false (sL (Nat.zero_le _) Z Z Z Z Z) h0
 replace h1:=Qg c15 h1
 refine Q7 Z Z<|Q7 Z Z<|Q7 Z Z<|Q7 Z Z<|Q7 Z Z<|Q7 Z Z<|Q7 Z Z<|rR Z Z Z (Qa Z Z)<|rM Z Z Z<|Q7 Z Z<|Q7 Z Z<|Q7 Z Z<|Q7 Z Z<|Q7 Z Z ?_
 refine Q7 Z Z<|Q7 Z Z<|Q7 Z Z<|Q7 Z Z<|Q7 Z Z<|Q7 Z Z<|rR Z Z Z (Qa Z Z)<|rM Z Z Z<|Q7 Z Z<|Q7 Z Z<|Q7 Z Z<|Q7 Z Z<|Q7 Z Z<|Q7 Z Z ?_
 refine rR Z Z Z (Qa Z Z)<|rA Z Z Z<|Q5 ?_
 have e:=sI h1;subst e
 exact Q9 false (sL (Nat.zero_le _) Z Z Z Z Z) h0
 intro v7 h0
 refine Q3<|Qp ?_
 have e:=sI h0;subst e
 exact Qn (fun _ _ h=>h) Z (Qm Z .nil) (.cons (.one (.d _)) .nil)
def Wc (a1:Lvl) (a0:Scp) (s1:Int):Option (LO Int (Unit⊕Int)) :=
 cond (decide (s1 < (a1.vs.length:Int)))
   (Option.bind (JP a1.vs s1) fun (x5:LV) =>
 cond (decide (a0.params≤x5.1))
   (some (.done (.inr 15)))
   (some (.next (Ja (s1+1)))))
   (some (.done (.inl ())))
def Xo (a1:Lvl) (a0:Scp) (s1:Int):Option (LO Int (Unit⊕Int)) :=
 cond (decide (s1 < (a1.vs.length:Int)))
   (Option.bind (JP a1.vs s1) fun (x6:LV) =>
 Option.bind (cond (decide (x6.1 < 0))
   (some (decide (a0.levels≤(Ja ((-1) - x6.1)))))
   (some false)) (fun (v7:Bool)=>cond v7
   (some (.done (.inr 23)))
   (some (.next (Ja (s1+1))))))
   (some (.done (.inl ())))
noncomputable abbrev m97_h0 (p0_:Scp) (p1_:Lvl) (p2_:LV):List (Nat×HB) :=
 [(0,.cells 127 (cE p0_)),(1,.cells 87 (cE p1_)),(2,.cells 124 (cE p2_))]
def DP (a0:Scp) (a1:Lvl):Option Int :=
 Option.bind (Dh a1) fun (x1:Bool) =>
 cond (!x1)
   (some 3)
   (Option.bind (QE (Wc a1 a0) QU 0) (Sum.elim (fun (o3:Unit)=>Option.bind (QE (Xo a1 a0) QU 0) (Sum.elim (fun (o4:Unit)=>some 0) (fun o=>some o))) (fun o=>some o)))
theorem m97_ok (a0:Scp) (a1:Lvl) (r:Int) (h0:DP a0 a1=some r):Fun Try.prog 97 [.agg (cE a0),.agg (cE a1)] (QM [.one (dI r)]):=by
 unfold DP at h0
 refine QB 9 44 Try.func97 Z en_97 Z (lb Z) (fun S w=>?_)
 simp only [J3]
 refine Q4<|Q0<|Qb Z Z (lb Z) (QN Z)<|Qb Z Z (lb Z) (QN Z)<|rA Z Z Z<|Q5<|Q3<|Q4<|Q4<|Q0<|rR Z Z Z (QH (a1:Lvl) K8 Z Z) ?_
 refine Qd h0 (fun x1 hx1 h0=>?_)
 refine Qb Z Z (lb Z) (Qh (m103_ok a1 x1 hx1) Z (.cons (.agg (.cons (.d _) (.cons (.d _) .nil))) .nil))<|rR Z Z Z (Jc Z)<|Q5<|Q3 ?_
 refine Qe (b:=(!x1)) Z (fun c2=>?_) (fun c2=>?_)
 replace h0:=Qf c2 h0
 refine Q4<|Q0<|rA Z Z Z<|Q5<|Q3<|Qp ?_
 have e:=sI h0;subst e
 exact Qn (fun _ _ h=>h) Z (Qm Z .nil) (.cons (.one (.d _)) .nil)
 replace h0:=Qg c2 h0
 refine Qj<|Q3<|Q4<|Q4<|Q0<|rR Z Z Z (Q2 Yn Z)<|rR Z Z Z (Q6 Zy Z Z Z)<|rR Z Z Z (Qx (α:=LV) YU Z (.d _))<|rM Z Z Z<|Q5<|Q3<|Ql ?_
 refine QQ 0 (fun (o3:Unit)=>⟨[(2,.v (.one (.ptr 0 0))),(3,.v (.one (.ptr 1 0)))],[(0,.cells 127 (cE a0)),(1,.cells 87 (cE a1))],[],2,44,[]⟩) (fun (o3:Unit)=>(Option.bind (QE (Xo a1 a0) QU 0) (Sum.elim (fun (o4:Unit)=>some 0) (fun o=>some o)))=some r) ?_ ?_
 refine Qd h0 (fun o4 hl1 h0=>?_)
 refine QP (Wc a1 a0) (fun s1=>⟨[(2,.v (.one (.ptr 0 0))),(3,.v (.one (.ptr 1 0))),(13,.v (.one (dS a1.vs))),(14,.v (.one (dI (a1.vs.length:Int)))),(15,.v (.one (dI s1)))],[(0,.cells 127 (cE a0)),(1,.cells 87 (cE a1))],[],2,44,[]⟩) 0 o4 (sL (Nat.zero_le _) Z Z Z Z Z) hl1 (fun s1 n1 oo1 h1 ho1=>?_)
 unfold Wc at h1
 refine Q4<|Q0<|rR Z Z Z (Q8 Z Z Z)<|Q5<|Q3<|Q4 ?_
 refine Qe (b:=(decide (s1 < (a1.vs.length:Int)))) Z (fun c5=>?_) (fun c5=>?_)
 replace h1:=Qf c5 h1
 refine Qj<|Q3<|Q4<|Ql<|Q4<|Q0 ?_
 refine Qd h1 (fun x6 hx6 h1=>?_)
 refine rR Z Z Z (Qt (α:=LV) YU Z (.d _) Z hx6)<|rR Z Z Z (Qu (x6:LV) Kf Z)<|Qb Z Z (lb Z) (Qv z_124 Z)<|QC Z Z (QA (x6:LV) Kf Z Z Z Z Z)<|Q5<|Q3<|Q4<|Q0<|rR Z Z Z (Q2 YH Z)<|rR Z Z Z (Q6 QG Z Z Z)<|rR Z Z Z (Q2 fo_127_1 Z)<|rR Z Z Z (Q6 QG Z Z Z)<|rR Z Z Z (Q8 Z Z Z)<|Q5 ?_
 refine Q3 ?_
 refine Qe (b:=(decide (a0.params≤x6.1))) Z (fun c7=>?_) (fun c7=>?_)
 replace h1:=Qf c7 h1
 refine Q4<|Q0<|rA Z Z Z<|Q5<|Q3<|Qp ?_
 have e:=sI h1;subst e
 have e_:_=_:=ho1
 subst e_
 try dsimp only [Sum.elim_inl,Sum.elim_inr] at h0
 have e:=sI h0;subst e
 exact Qn (fun _ _ h=>h) Z (Qm Z .nil) (.cons (.one (.d _)) .nil)
 replace h1:=Qg c7 h1
 refine Qj<|Qk<|Q3<|Q0<|rR Z Z Z (Q8 Z Z Z)<|rM Z Z Z<|Q5 ?_
 have e:=sI h1;subst e
 refine QJ (Ja (s1+1)) (sL (Nat.zero_le _) Z Z Z Z Z) ho1
 replace h1:=Qg c5 h1
 refine QW<|Qr<|Qr ?_
 have e:=sI h1;subst e
 have e_:_=_:=ho1
 subst e_
 exact QO () (sL (Nat.zero_le _) Z Z Z Z Z) h0
 intro o3 h0
 refine QF<|Q3<|Q4<|Q4<|Q0<|rR Z Z Z (Q2 Yn Z)<|rR Z Z Z (Q6 Zy Z Z Z)<|rR Z Z Z (Qx (α:=LV) YU Z (.d _))<|rM Z Z Z<|Q5<|Q3<|Ql ?_
 refine QQ 2 (fun (o8:Unit)=>⟨[],[(0,.cells 127 (cE a0)),(1,.cells 87 (cE a1))],[],2,44,[]⟩) (fun (o8:Unit)=>(some 0)=some r) ?_ ?_
 refine Qd h0 (fun o9 hl1 h0=>?_)
 refine QP (Xo a1 a0) (fun s1=>⟨[(2,.v (.one (.ptr 0 0))),(26,.v (.one (dS a1.vs))),(27,.v (.one (dI (a1.vs.length:Int)))),(28,.v (.one (dI s1)))],[(0,.cells 127 (cE a0)),(1,.cells 87 (cE a1))],[],2,44,[]⟩) 0 o9 (sL (Nat.zero_le _) Z Z Z Z Z) hl1 (fun s1 n1 oo1 h1 ho1=>?_)
 unfold Xo at h1
 refine Q4<|Q0<|rR Z Z Z (Q8 Z Z Z)<|Q5<|Q3<|Q4 ?_
 refine Qe (b:=(decide (s1 < (a1.vs.length:Int)))) Z (fun c10=>?_) (fun c10=>?_)
 replace h1:=Qf c10 h1
 refine Qj<|Q3<|Q4<|Ql<|Q4<|Q0 ?_
 refine Qd h1 (fun x11 hx11 h1=>?_)
 refine rR Z Z Z (Qt (α:=LV) YU Z (.d _) Z hx11)<|rR Z Z Z (Qu (x11:LV) Kf Z)<|Qb Z Z (lb Z) (Qv z_124 Z)<|QC Z Z (QA (x11:LV) Kf Z Z Z Z Z)<|Q5<|Q3<|Q4 ?_
 refine QD (fun (v12:Bool)=>⟨[(2,.v (.one (.ptr 0 0))),(26,.v (.one (dS a1.vs))),(27,.v (.one (dI (a1.vs.length:Int)))),(28,.v (.one (dI s1))),(42,.v (.one (dB v12)))],m97_h0 a0 a1 x11,[],3,44,[]⟩) (fun (v12:Bool)=>(cond v12
     (some (.done (.inr 23)))
     (some (.next (Ja (s1+1)))))=some oo1) ?_ ?_
 refine Qd h1 (fun w2_ h2 h1=>?_)
 refine Q0<|rR Z Z Z (Q2 YH Z)<|rR Z Z Z (Q6 QG Z Z Z)<|rR Z Z Z (Q8 Z Z Z)<|rM Z Z Z ?_
 refine Qw (d:=35) (c:=(decide (x11.1 < 0))) Z (fun c13=>?_) (fun c13=>?_)
 replace h2:=Qf c13 h2
 refine rR Z Z Z (Q2 YH Z)<|rR Z Z Z (Q6 QG Z Z Z)<|rR Z Z Z (Q8 Z Z Z)<|rR Z Z Z (Q2 fo_127_3 Z)<|rR Z Z Z (Q6 QG Z Z Z)<|rR Z Z Z (Q8 Z Z Z)<|rR Z Z Z (Qc Z Z)<|Q5 ?_
 have e:=sI h2;subst e
 exact Q9 (decide (a0.levels≤(Ja ((-1) - x11.1)))) (sL (Nat.zero_le _) Z Z Z Z Z) h1
 replace h2:=Qg c13 h2
 refine Q7 Z Z<|Q7 Z Z<|Q7 Z Z<|Q7 Z Z<|Q7 Z Z<|Q7 Z Z<|rR Z Z Z (Qa Z Z)<|Q5 ?_
 have e:=sI h2;subst e
 exact Q9 false (sL (Nat.zero_le _) Z Z Z Z Z) h1
 intro v12 h1
 refine Q3 ?_
 refine Qe (b:=v12) Z (fun c14=>?_) (fun c14=>?_)
 replace h1:=Qf c14 h1
 refine Q4<|Q0<|rA Z Z Z<|Q5<|Q3<|Qp ?_
 have e:=sI h1;subst e
 have e_:_=_:=ho1
 subst e_
 try dsimp only [Sum.elim_inl,Sum.elim_inr] at h0
 have e:=sI h0;subst e
 exact Qn (fun _ _ h=>h) Z (Qm Z .nil) (.cons (.one (.d _)) .nil)
 replace h1:=Qg c14 h1
 refine Qj<|Qk<|Q3<|Q0<|rR Z Z Z (Q8 Z Z Z)<|rM Z Z Z<|Q5 ?_
 have e:=sI h1;subst e
 refine QJ (Ja (s1+1)) (sL (Nat.zero_le _) Z Z Z Z Z) ho1
 replace h1:=Qg c10 h1
 refine QW<|Qr<|Qr ?_
 have e:=sI h1;subst e
 have e_:_=_:=ho1
 subst e_
 exact QO () (sL (Nat.zero_le _) Z Z Z Z Z) h0
 intro o8 h0
 refine QF<|Q3<|Q4<|Q0<|rA Z Z Z<|Q5<|Q3<|Qp ?_
 have e:=sI h0;subst e
 exact Qn (fun _ _ h=>h) Z (Qm Z .nil) (.cons (.one (.d _)) .nil)
def Ky (a1:Tm) (a0:Scp) (s1:Int):Option (LO Int (Unit⊕Int)) :=
 cond (decide (s1 < (a1.levels.length:Int)))
   (Option.bind (JP a1.levels s1) fun (x9:Lvl) =>
 Option.bind (DP a0 x9) fun (x10:Int) =>
 cond (x10 != 0)
   (some (.done (.inr x10)))
   (some (.next (Ja (s1+1)))))
   (some (.done (.inl ())))
def G6 (p0_:Tm) (p1_:Scp) (p2_:Int):Option Int :=
 Option.bind (cond (p0_.kind==0)
   (cond (decide (p0_.index < 0))
   (some true)
   (some (decide (p1_.vars≤(Ja (p0_.index - p2_))))))
   (some false)) (fun (b0_:Bool)=>cond b0_
   (some 24)
   (Option.bind (cond (p0_.kind==12)
   (cond (decide (p0_.index < 0))
   (some true)
   (some (decide (p1_.metas≤p0_.index))))
   (some false)) (fun (b1_:Bool)=>cond b1_
   (some 23)
   (some 0))))
def m80 (a0:Scp) (a1:Tm) (a2:Int):Option Int :=
 Option.bind (DI a1) fun (x1:Bool) =>
 cond (!x1)
   (some 3)
   (cond (a1.kind==3)
   (Option.bind (DR a1.name) fun (x4:Bool) =>
 cond (!x4)
   (some 29)
   (cond (decide (8 < (a1.levels.length:Int)))
   (some 6)
   (Option.bind (QE (Ky a1 a0) QU 0) (Sum.elim (fun (o7:Unit)=>G6 a1 a0 a2) (fun o=>some o)))))
   (Option.bind (QE (Ky a1 a0) QU 0) (Sum.elim (fun (o21:Unit)=>G6 a1 a0 a2) (fun o=>some o))))
theorem m80_ok (a0:Scp) (a1:Tm) (a2:Int) (r:Int) (h0:m80 a0 a1 a2=some r):Fun Try.prog 80 [.agg (cE a0),.agg (cE a1),.one (dI a2)] (QM [.one (dI r)]):=by
 unfold m80 at h0
 refine QB 9 72 Try.func80 Z en_80 Z (lb Z) (fun S w=>?_)
 simp only [J3]
 refine Q4<|Q0<|Qb Z Z (lb Z) (QN Z)<|Qb Z Z (lb Z) (QN Z)<|rA Z Z Z<|Q5<|Q3<|Q4<|Q4<|Q0<|rR Z Z Z (QH (a1:Tm) QR Z Z) ?_
 refine Qd h0 (fun x1 hx1 h0=>?_)
 refine Qb Z Z (lb Z) (Qh (m96_ok a1 x1 hx1) Z (.cons (.agg (.cons (.d _) (.cons (.d _) (.cons (.d _) (.cons (.d _) (.cons (.d _) .nil)))))) .nil))<|rR Z Z Z (Jc Z)<|Q5<|Q3 ?_
 refine Qe (b:=(!x1)) Z (fun c2=>?_) (fun c2=>?_)
 replace h0:=Qf c2 h0
 refine Q4<|Q0<|rA Z Z Z<|Q5<|Q3<|Qp ?_
 have e:=sI h0;subst e
 exact Qn (fun _ _ h=>h) Z (Qm Z .nil) (.cons (.one (.d _)) .nil)
 replace h0:=Qg c2 h0
 refine Qj<|Q3<|Q4<|Q4<|Q0<|rR Z Z Z (Q2 JF Z)<|rR Z Z Z (Q6 QG Z Z Z)<|rR Z Z Z (Q8 Z Z Z)<|Q5<|Q3 ?_
 refine Qe (b:=(a1.kind==3)) Z (fun c3=>?_) (fun c3=>?_)
 replace h0:=Qf c3 h0
 refine Q4<|Q4<|Q0<|rR Z Z Z (Q2 Zb Z)<|rR Z Z Z (Q6 JG Z Z Z) ?_
 refine Qd h0 (fun x4 hx4 h0=>?_)
 refine Qb Z Z (lb Z) (Qh (m65_ok a1.name x4 hx4) Z (.cons (.one (.d _)) .nil))<|rR Z Z Z (Jc Z)<|Q5<|Q3 ?_
 refine Qe (b:=(!x4)) Z (fun c5=>?_) (fun c5=>?_)
 replace h0:=Qf c5 h0
 refine Q4<|Q0<|rA Z Z Z<|Q5<|Q3<|Qp ?_
 have e:=sI h0;subst e
 exact Qn (fun _ _ h=>h) Z (Qm Z .nil) (.cons (.one (.d _)) .nil)
 replace h0:=Qg c5 h0
 refine Qj<|Q3<|Q4<|Q0<|rR Z Z Z (Q2 Yy Z)<|rR Z Z Z (Q6 K4 Z Z Z)<|rR Z Z Z (Qx (α:=Lvl) YV Z (.d _))<|rR Z Z Z (Q8 Z Z Z)<|Q5<|Q3 ?_
 refine Qe (b:=(decide (8 < (a1.levels.length:Int)))) Z (fun c6=>?_) (fun c6=>?_)
 replace h0:=Qf c6 h0
 refine Q4<|Q0<|rA Z Z Z<|Q5<|Q3<|Qp ?_
 have e:=sI h0;subst e
 exact Qn (fun _ _ h=>h) Z (Qm Z .nil) (.cons (.one (.d _)) .nil)
 replace h0:=Qg c6 h0
 refine Qj<|Q3<|Q4<|Q4<|Q0<|rR Z Z Z (Q2 Yy Z)<|rR Z Z Z (Q6 K4 Z Z Z)<|rR Z Z Z (Qx (α:=Lvl) YV Z (.d _))<|rM Z Z Z<|Q5<|Q3<|Ql ?_
 refine QQ 0 (fun (o7:Unit)=>⟨[(2,.v (.one (dI a2))),(3,.v (.one (.ptr 0 0))),(4,.v (.one (.ptr 1 0)))],[(0,.cells 127 (cE a0)),(1,.cells 33 (cE a1))],[],2,72,[]⟩) (fun (o7:Unit)=>(G6 a1 a0 a2)=some r) ?_ ?_
 refine Qd h0 (fun o8 hl1 h0=>?_)
 refine QP (Ky a1 a0) (fun s1=>⟨[(2,.v (.one (dI a2))),(3,.v (.one (.ptr 0 0))),(4,.v (.one (.ptr 1 0))),(25,.v (.one (dS a1.levels))),(26,.v (.one (dI (a1.levels.length:Int)))),(27,.v (.one (dI s1)))],[(0,.cells 127 (cE a0)),(1,.cells 33 (cE a1))],[],2,72,[]⟩) 0 o8 (sL (Nat.zero_le _) Z Z Z Z Z) hl1 (fun s1 n1 oo1 h1 ho1=>?_)
 unfold Ky at h1
 refine Q4<|Q0<|rR Z Z Z (Q8 Z Z Z)<|Q5<|Q3<|Q4 ?_
 refine Qe (b:=(decide (s1 < (a1.levels.length:Int)))) Z (fun c9=>?_) (fun c9=>?_)
 replace h1:=Qf c9 h1
 refine Qj<|Q3<|Q4<|Ql<|Q4<|Q0 ?_
 refine Qd h1 (fun x10 hx10 h1=>?_)
 refine rR Z Z Z (Qt (α:=Lvl) YV Z (.d _) Z hx10)<|rR Z Z Z (Qu (x10:Lvl) K8 Z)<|Qb Z Z (lb Z) (Qv Dk Z)<|QC Z Z (QA (x10:Lvl) K8 Z Z Z Z Z)<|Q5<|Q3<|Q4<|Q0<|rR Z Z Z (QH (a0:Scp) ag_127 Z Z)<|rR Z Z Z (QH (x10:Lvl) K8 Z Z) ?_
 refine Qd h1 (fun x11 hx11 h1=>?_)
 refine Qb Z Z (lb Z) (Qh (m97_ok a0 x10 x11 hx11) Z (.cons (.agg (.cons (.d _) (.cons (.d _) (.cons (.d _) (.cons (.d _) .nil))))) (.cons (.agg (.cons (.d _) (.cons (.d _) .nil))) .nil)))<|rA Z Z Z<|Q5<|Q3<|Q4<|Q0<|rM Z Z Z<|rR Z Z Z (Q8 Z Z Z)<|Q5<|Q3 ?_
 refine Qe (b:=(x11 != 0)) Z (fun c12=>?_) (fun c12=>?_)
 replace h1:=Qf c12 h1
 refine Q4<|Q0<|rM Z Z Z<|rA Z Z Z<|Q5<|Q3<|Qp ?_
 have e:=sI h1;subst e
 have e_:_=_:=ho1
 subst e_
 try dsimp only [Sum.elim_inl,Sum.elim_inr] at h0
 have e:=sI h0;subst e
 exact Qn (fun _ _ h=>h) Z (Qm Z .nil) (.cons (.one (.d _)) .nil)
 replace h1:=Qg c12 h1
 refine Qj<|Qk<|Q3<|Q0<|rR Z Z Z (Q8 Z Z Z)<|rM Z Z Z<|Q5 ?_
 have e:=sI h1;subst e
 refine QJ (Ja (s1+1)) (sL (Nat.zero_le _) Z Z Z Z Z) ho1
 replace h1:=Qg c9 h1
 refine QW<|Qr<|Qr ?_
 have e:=sI h1;subst e
 have e_:_=_:=ho1
 subst e_
 exact QO () (sL (Nat.zero_le _) Z Z Z Z Z) h0
 intro o7 h0
 unfold G6 at h0
 refine QF<|Q3<|Q4<|Ql<|Q4 ?_
 refine QD (fun (v13:Bool)=>⟨[(3,.v (.one (.ptr 0 0))),(4,.v (.one (.ptr 1 0))),(38,.v (.one (dB v13)))],[(0,.cells 127 (cE a0)),(1,.cells 33 (cE a1))],[],2,72,[]⟩) (fun (v13:Bool)=>(cond v13
     (some 24)
     (Option.bind (cond (a1.kind==12)
     (cond (decide (a1.index < 0))
     (some true)
     (some (decide (a0.metas≤a1.index))))
     (some false)) (fun (v15:Bool)=>cond v15
     (some 23)
     (some 0))))=some r) ?_ ?_
 refine Qd h0 (fun w1_ h1 h0=>?_)
 refine Q0<|rR Z Z Z (Q2 JF Z)<|rR Z Z Z (Q6 QG Z Z Z)<|rR Z Z Z (Q8 Z Z Z)<|rM Z Z Z ?_
 refine Qw (d:=42) (c:=(a1.kind==0)) Z (fun c14=>?_) (fun c14=>?_)
 replace h1:=Qf c14 h1
 refine rR Z Z Z (Q2 YK Z)<|rR Z Z Z (Q6 QG Z Z Z)<|rR Z Z Z (Q8 Z Z Z)<|rM Z Z Z ?_
 refine Qw (d:=46) (c:=(decide (a1.index < 0))) Z (fun c15=>?_) (fun c15=>?_)
 replace h1:=Qf c15 h1
 refine Q7 Z Z<|Q7 Z Z<|Q7 Z Z<|Q7 Z Z<|Q7 Z Z<|Q7 Z Z<|Q7 Z Z<|rR Z Z Z (Qc Z Z)<|rR Z Z Z (Qc Z Z)<|rA Z Z Z<|Q5 ?_
 have e:=sI h1;subst e
 exact Q9 true (sL (Nat.zero_le _) Z Z Z Z Z) h0
 replace h1:=Qg c15 h1
 refine rR Z Z Z (Q2 YK Z)<|rR Z Z Z (Q6 QG Z Z Z)<|rM Z Z Z<|rR Z Z Z (Q8 Z Z Z)<|rR Z Z Z (Q2 fo_127_0 Z)<|rR Z Z Z (Q6 QG Z Z Z)<|rR Z Z Z (Q8 Z Z Z)<|rR Z Z Z (Qa Z Z)<|rR Z Z Z (Qc Z Z)<|rA Z Z Z<|Q5 ?_
 have e:=sI h1;subst e
 exact Q9 (decide (a0.vars≤(Ja (a1.index - a2)))) (sL (Nat.zero_le _) Z Z Z Z Z) h0
 replace h1:=Qg c14 h1
 refine Q7 Z Z<|Q7 Z Z<|Q7 Z Z<|Q7 Z Z<|Q7 Z Z<|Q7 Z Z<|Q7 Z Z<|Q7 Z Z<|Q7 Z Z<|Q7 Z Z<|Q7 Z Z<|Q7 Z Z<|rR Z Z Z (Qa Z Z)<|rA Z Z Z ?_
 refine Q5 ?_
 have e:=sI h1;subst e
 exact Q9 false (sL (Nat.zero_le _) Z Z Z Z Z) h0
 intro v13 h0
 refine Q3 ?_
 refine Qe (b:=v13) Z (fun c16=>?_) (fun c16=>?_)
 replace h0:=Qf c16 h0
 refine Q4<|Q0<|rA Z Z Z<|Q5<|Q3<|Qp ?_
 have e:=sI h0;subst e
 exact Qn (fun _ _ h=>h) Z (Qm Z .nil) (.cons (.one (.d _)) .nil)
 replace h0:=Qg c16 h0
 refine Q4 ?_
 refine QD (fun (v17:Bool)=>⟨[(56,.v (.one (dB v17)))],[(0,.cells 127 (cE a0)),(1,.cells 33 (cE a1))],[],2,72,[]⟩) (fun (v17:Bool)=>(cond v17
     (some 23)
     (some 0))=some r) ?_ ?_
 refine Qd h0 (fun w1_ h1 h0=>?_)
 refine Q0<|rR Z Z Z (Q2 JF Z)<|rR Z Z Z (Q6 QG Z Z Z)<|rR Z Z Z (Q8 Z Z Z)<|rM Z Z Z ?_
 refine Qw (d:=60) (c:=(a1.kind==12)) Z (fun c18=>?_) (fun c18=>?_)
 replace h1:=Qf c18 h1
 refine rR Z Z Z (Q2 YK Z)<|rR Z Z Z (Q6 QG Z Z Z)<|rR Z Z Z (Q8 Z Z Z)<|rM Z Z Z ?_
 refine Qw (d:=64) (c:=(decide (a1.index < 0))) Z (fun c19=>?_) (fun c19=>?_)
 replace h1:=Qf c19 h1
 refine Q7 Z Z<|Q7 Z Z<|Q7 Z Z<|Q7 Z Z<|Q7 Z Z<|rR Z Z Z (Qc Z Z)<|rR Z Z Z (Qc Z Z)<|rA Z Z Z<|Q5 ?_
 have e:=sI h1;subst e
 exact Q9 true (sL (Nat.zero_le _) Z Z Z Z Z) h0
 replace h1:=Qg c19 h1
 refine rR Z Z Z (Q2 YK Z)<|rR Z Z Z (Q6 QG Z Z Z)<|rR Z Z Z (Q2 fo_127_2 Z)<|rR Z Z Z (Q6 QG Z Z Z)<|rR Z Z Z (Q8 Z Z Z)<|rR Z Z Z (Qa Z Z)<|rR Z Z Z (Qc Z Z)<|rA Z Z Z<|Q5 ?_
 have e:=sI h1;subst e
 exact Q9 (decide (a0.metas≤a1.index)) (sL (Nat.zero_le _) Z Z Z Z Z) h0
 replace h1:=Qg c18 h1
 refine Q7 Z Z<|Q7 Z Z<|Q7 Z Z<|Q7 Z Z<|Q7 Z Z<|Q7 Z Z<|Q7 Z Z<|Q7 Z Z<|Q7 Z Z<|Q7 Z Z<|rR Z Z Z (Qa Z Z)<|rA Z Z Z<|Q5 ?_
 have e:=sI h1;subst e
 exact Q9 false (sL (Nat.zero_le _) Z Z Z Z Z) h0
 intro v17 h0
 refine Q3 ?_
 refine Qe (b:=v17) Z (fun c20=>?_) (fun c20=>?_)
 replace h0:=Qf c20 h0
 refine Q4<|Q0<|rA Z Z Z<|Q5<|Q3<|Qp ?_
 have e:=sI h0;subst e
 exact Qn (fun _ _ h=>h) Z (Qm Z .nil) (.cons (.one (.d _)) .nil)
 replace h0:=Qg c20 h0
 refine Qj<|Qk<|Q3<|Q4<|Q0<|rA Z Z Z<|Q5<|Q3<|Qp ?_
 have e:=sI h0;subst e
 exact Qn (fun _ _ h=>h) Z (Qm Z .nil) (.cons (.one (.d _)) .nil)
 replace h0:=Qg c3 h0
 refine Qj<|Q3<|Q4<|Q4<|Q0<|rR Z Z Z (Q2 Yy Z)<|rR Z Z Z (Q6 K4 Z Z Z)<|rR Z Z Z (Qx (α:=Lvl) YV Z (.d _))<|rM Z Z Z<|Q5<|Q3<|Ql ?_
 refine QQ 0 (fun (o21:Unit)=>⟨[(2,.v (.one (dI a2))),(3,.v (.one (.ptr 0 0))),(4,.v (.one (.ptr 1 0)))],[(0,.cells 127 (cE a0)),(1,.cells 33 (cE a1))],[],2,72,[]⟩) (fun (o21:Unit)=>(G6 a1 a0 a2)=some r) ?_ ?_
 refine Qd h0 (fun o22 hl1 h0=>?_)
 refine QP (Ky a1 a0) (fun s1=>⟨[(2,.v (.one (dI a2))),(3,.v (.one (.ptr 0 0))),(4,.v (.one (.ptr 1 0))),(25,.v (.one (dS a1.levels))),(26,.v (.one (dI (a1.levels.length:Int)))),(27,.v (.one (dI s1)))],[(0,.cells 127 (cE a0)),(1,.cells 33 (cE a1))],[],2,72,[]⟩) 0 o22 (sL (Nat.zero_le _) Z Z Z Z Z) hl1 (fun s1 n1 oo1 h1 ho1=>?_)
 unfold Ky at h1
 refine Q4<|Q0<|rR Z Z Z (Q8 Z Z Z)<|Q5<|Q3<|Q4 ?_
 refine Qe (b:=(decide (s1 < (a1.levels.length:Int)))) Z (fun c23=>?_) (fun c23=>?_)
 replace h1:=Qf c23 h1
 refine Qj<|Q3<|Q4<|Ql<|Q4<|Q0 ?_
 refine Qd h1 (fun x24 hx24 h1=>?_)
 refine rR Z Z Z (Qt (α:=Lvl) YV Z (.d _) Z hx24)<|rR Z Z Z (Qu (x24:Lvl) K8 Z)<|Qb Z Z (lb Z) (Qv Dk Z)<|QC Z Z (QA (x24:Lvl) K8 Z Z Z Z Z)<|Q5<|Q3<|Q4<|Q0<|rR Z Z Z (QH (a0:Scp) ag_127 Z Z)<|rR Z Z Z (QH (x24:Lvl) K8 Z Z) ?_
 refine Qd h1 (fun x25 hx25 h1=>?_)
 refine Qb Z Z (lb Z) (Qh (m97_ok a0 x24 x25 hx25) Z (.cons (.agg (.cons (.d _) (.cons (.d _) (.cons (.d _) (.cons (.d _) .nil))))) (.cons (.agg (.cons (.d _) (.cons (.d _) .nil))) .nil)))<|rA Z Z Z<|Q5<|Q3<|Q4<|Q0<|rM Z Z Z<|rR Z Z Z (Q8 Z Z Z)<|Q5<|Q3 ?_
 refine Qe (b:=(x25 != 0)) Z (fun c26=>?_) (fun c26=>?_)
 replace h1:=Qf c26 h1
 refine Q4<|Q0<|rM Z Z Z<|rA Z Z Z<|Q5<|Q3<|Qp ?_
 have e:=sI h1;subst e
 have e_:_=_:=ho1
 subst e_
 try dsimp only [Sum.elim_inl,Sum.elim_inr] at h0
 have e:=sI h0;subst e
 exact Qn (fun _ _ h=>h) Z (Qm Z .nil) (.cons (.one (.d _)) .nil)
 replace h1:=Qg c26 h1
 refine Qj<|Qk<|Q3<|Q0<|rR Z Z Z (Q8 Z Z Z)<|rM Z Z Z<|Q5 ?_
 have e:=sI h1;subst e
 refine QJ (Ja (s1+1)) (sL (Nat.zero_le _) Z Z Z Z Z) ho1
 replace h1:=Qg c23 h1
 refine QW<|Qr<|Qr ?_
 have e:=sI h1;subst e
 have e_:_=_:=ho1
 subst e_
 exact QO () (sL (Nat.zero_le _) Z Z Z Z Z) h0
 intro o21 h0
 unfold G6 at h0
 refine QF<|Q3<|Q4<|Ql<|Q4 ?_
 refine QD (fun (v27:Bool)=>⟨[(3,.v (.one (.ptr 0 0))),(4,.v (.one (.ptr 1 0))),(38,.v (.one (dB v27)))],[(0,.cells 127 (cE a0)),(1,.cells 33 (cE a1))],[],2,72,[]⟩) (fun (v27:Bool)=>(cond v27
     (some 24)
     (Option.bind (cond (a1.kind==12)
     (cond (decide (a1.index < 0))
     (some true)
     (some (decide (a0.metas≤a1.index))))
     (some false)) (fun (v29:Bool)=>cond v29
     (some 23)
     (some 0))))=some r) ?_ ?_
 refine Qd h0 (fun w1_ h1 h0=>?_)
 refine Q0<|rR Z Z Z (Q2 JF Z)<|rR Z Z Z (Q6 QG Z Z Z)<|rR Z Z Z (Q8 Z Z Z)<|rM Z Z Z ?_
 refine Qw (d:=42) (c:=(a1.kind==0)) Z (fun c28=>?_) (fun c28=>?_)
 replace h1:=Qf c28 h1
 refine rR Z Z Z (Q2 YK Z)<|rR Z Z Z (Q6 QG Z Z Z)<|rR Z Z Z (Q8 Z Z Z)<|rM Z Z Z ?_
 refine Qw (d:=46) (c:=(decide (a1.index < 0))) Z (fun c29=>?_) (fun c29=>?_)
 replace h1:=Qf c29 h1
 refine Q7 Z Z<|Q7 Z Z<|Q7 Z Z<|Q7 Z Z<|Q7 Z Z<|Q7 Z Z<|Q7 Z Z<|rR Z Z Z (Qc Z Z)<|rR Z Z Z (Qc Z Z)<|rA Z Z Z<|Q5 ?_
 have e:=sI h1;subst e
 exact Q9 true (sL (Nat.zero_le _) Z Z Z Z Z) h0
 replace h1:=Qg c29 h1
 refine rR Z Z Z (Q2 YK Z)<|rR Z Z Z (Q6 QG Z Z Z)<|rM Z Z Z<|rR Z Z Z (Q8 Z Z Z)<|rR Z Z Z (Q2 fo_127_0 Z)<|rR Z Z Z (Q6 QG Z Z Z)<|rR Z Z Z (Q8 Z Z Z)<|rR Z Z Z (Qa Z Z)<|rR Z Z Z (Qc Z Z)<|rA Z Z Z<|Q5 ?_
 have e:=sI h1;subst e
 exact Q9 (decide (a0.vars≤(Ja (a1.index - a2)))) (sL (Nat.zero_le _) Z Z Z Z Z) h0
 replace h1:=Qg c28 h1
 refine Q7 Z Z<|Q7 Z Z<|Q7 Z Z<|Q7 Z Z<|Q7 Z Z<|Q7 Z Z<|Q7 Z Z<|Q7 Z Z<|Q7 Z Z<|Q7 Z Z<|Q7 Z Z<|Q7 Z Z<|rR Z Z Z (Qa Z Z)<|rA Z Z Z ?_
 refine Q5 ?_
 have e:=sI h1;subst e
 exact Q9 false (sL (Nat.zero_le _) Z Z Z Z Z) h0
 intro v27 h0
 refine Q3 ?_
 refine Qe (b:=v27) Z (fun c30=>?_) (fun c30=>?_)
 replace h0:=Qf c30 h0
 refine Q4<|Q0<|rA Z Z Z<|Q5<|Q3<|Qp ?_
 have e:=sI h0;subst e
 exact Qn (fun _ _ h=>h) Z (Qm Z .nil) (.cons (.one (.d _)) .nil)
 replace h0:=Qg c30 h0
 refine Q4 ?_
 refine QD (fun (v31:Bool)=>⟨[(56,.v (.one (dB v31)))],[(0,.cells 127 (cE a0)),(1,.cells 33 (cE a1))],[],2,72,[]⟩) (fun (v31:Bool)=>(cond v31
     (some 23)
     (some 0))=some r) ?_ ?_
 refine Qd h0 (fun w1_ h1 h0=>?_)
 refine Q0<|rR Z Z Z (Q2 JF Z)<|rR Z Z Z (Q6 QG Z Z Z)<|rR Z Z Z (Q8 Z Z Z)<|rM Z Z Z ?_
 refine Qw (d:=60) (c:=(a1.kind==12)) Z (fun c32=>?_) (fun c32=>?_)
 replace h1:=Qf c32 h1
 refine rR Z Z Z (Q2 YK Z)<|rR Z Z Z (Q6 QG Z Z Z)<|rR Z Z Z (Q8 Z Z Z)<|rM Z Z Z ?_
 refine Qw (d:=64) (c:=(decide (a1.index < 0))) Z (fun c33=>?_) (fun c33=>?_)
 replace h1:=Qf c33 h1
 refine Q7 Z Z<|Q7 Z Z<|Q7 Z Z<|Q7 Z Z<|Q7 Z Z<|rR Z Z Z (Qc Z Z)<|rR Z Z Z (Qc Z Z)<|rA Z Z Z<|Q5 ?_
 have e:=sI h1;subst e
 exact Q9 true (sL (Nat.zero_le _) Z Z Z Z Z) h0
 replace h1:=Qg c33 h1
 refine rR Z Z Z (Q2 YK Z)<|rR Z Z Z (Q6 QG Z Z Z)<|rR Z Z Z (Q2 fo_127_2 Z)<|rR Z Z Z (Q6 QG Z Z Z)<|rR Z Z Z (Q8 Z Z Z)<|rR Z Z Z (Qa Z Z)<|rR Z Z Z (Qc Z Z)<|rA Z Z Z<|Q5 ?_
 have e:=sI h1;subst e
 exact Q9 (decide (a0.metas≤a1.index)) (sL (Nat.zero_le _) Z Z Z Z Z) h0
 replace h1:=Qg c32 h1
 refine Q7 Z Z<|Q7 Z Z<|Q7 Z Z<|Q7 Z Z<|Q7 Z Z<|Q7 Z Z<|Q7 Z Z<|Q7 Z Z<|Q7 Z Z<|Q7 Z Z<|rR Z Z Z (Qa Z Z)<|rA Z Z Z<|Q5 ?_
 have e:=sI h1;subst e
 exact Q9 false (sL (Nat.zero_le _) Z Z Z Z Z) h0
 intro v31 h0
 refine Q3 ?_
 refine Qe (b:=v31) Z (fun c34=>?_) (fun c34=>?_)
 replace h0:=Qf c34 h0
 refine Q4<|Q0<|rA Z Z Z<|Q5<|Q3<|Qp ?_
 have e:=sI h0;subst e
 exact Qn (fun _ _ h=>h) Z (Qm Z .nil) (.cons (.one (.d _)) .nil)
 replace h0:=Qg c34 h0
 refine Qj<|Qk<|Q3<|Q4<|Q0<|rA Z Z Z<|Q5<|Q3<|Qp ?_
 have e:=sI h0;subst e
 exact Qn (fun _ _ h=>h) Z (Qm Z .nil) (.cons (.one (.d _)) .nil)
end Go.Proofs.Ytafddfoefeploaa
namespace Go.Proofs.Ytafddfoefeploaa
open Go.RowKit Go.Shelf
theorem z_127:JQ Try.prog 127=some [.int .i64 0,.int .i64 0,.int .i64 0,.int .i64 0]:=by kernel_rfl
theorem bd_127:Y9 Try.prog 127 [(0,1),(1,1),(2,1),(3,1)] [.int .i64 0,.int .i64 0,.int .i64 0,.int .i64 0]:=⟨by kernel_rfl,by kernel_rfl⟩
theorem en_66:QY Try.prog 66:=enters_of Try.func66 (by kernel_rfl) rfl
noncomputable def ZQ:Code:=(cA (cA (cB (cA (cB (cB (cB (Xi Try.f66))))))))
noncomputable def Zn:Code:=(cB (cA (cB (cA (cB (cB (cB (Xi Try.f66))))))))
def m91f3_k0 (p0_:Tm×Int×Tm×Int×Scp×Int×Tm→Option ((Int×Int)⊕(Bool×Int))) (p1_:Tm) (p2_:Int) (p3_:Tm) (p4_:Int) (p5_:Scp) (p6_:Int×Int) (p7_:Tm):Option (LO (Int×Int) (Int⊕((Int×Int)⊕(Bool×Int)))) :=
 Option.bind (p0_ (p1_,p2_,p3_,p4_,p5_,p6_.2,p7_)) (Sum.elim (fun (b0_:Int×Int)=>some (.done (.inr (.inl (b0_.1,b0_.2))))) (fun (b1_:Bool×Int)=>cond (!b1_.1)
   (some (.done (.inr (.inr (false,b1_.2)))))
   (some (.next ((Ja (p6_.1+1)),b1_.2)))))
def Km (a0:Tm) (v9:Int) (a1:Int) (rc:Tm×Int×Tm×Int×Scp×Int×Tm→Option ((Int×Int)⊕(Bool×Int))) (a2:Tm) (a3:Int) (a4:Scp) (a6:Tm) (s1:Int×Int):Option (LO (Int×Int) (Int⊕((Int×Int)⊕(Bool×Int)))) :=
 cond (decide (s1.1 < (a0.kids.length:Int)))
   (Option.bind (JP a0.kids s1.1) fun (x12:Tm) =>
 Option.bind (cond (s1.1==v9)
   (some (Ja (a1+1)))
   (some a1)) (fun (v13:Int)=>m91f3_k0 rc x12 v13 a2 a3 a4 s1 a6))
   (some (.done (.inl s1.2)))
def GK (p0_:Bool) (p1_:Tm) (p2_:Int) (p3_:Tm×Int×Tm×Int×Scp×Int×Tm→Option ((Int×Int)⊕(Bool×Int))) (p4_:Tm) (p5_:Int) (p6_:Scp) (p7_:Tm) (p8_:Int):Option ((Int×Int)⊕(Bool×Int)) :=
 Option.bind (cond p0_
   (Jy (cond (decide (0≤p1_.kind)) (Nat.blt p1_.kind.toNat 13) false)
 (Option.bind (JP ([(-1),(-1),(-1),(-1),(-1),1,1,1,(-1),(-1),(-1),2,(-1)]:List Int) p1_.kind) fun (b0_:Int) =>
 some b0_))
   (some (-1))) (fun (b1_:Int)=>Option.bind (QE (Km p1_ b1_ p2_ p3_ p4_ p5_ p6_ p7_) QU (0,(Ja (p8_+1)))) (Sum.elim (fun (b2_:Int)=>some (.inr (true,b2_))) (fun o=>some o)))
noncomputable abbrev JS :HB :=
 .loop .ready none [(5,.v (.one (.ptr 3 0))),(10,.v (.one (.ptr 4 0))),(11,.v (.one (.ptr 5 0))),(12,.v (.one (.ptr 6 0))),(26,.v (.one (.fn 89 [(7,0)])))] 45 #[27,28] ZQ Zn 2
noncomputable abbrev J9 :HB :=
 .cells 135 [dB true,dB false,dI 0,dI 0,dI (-1),dB false,dB false,dI 0,dI 0,dI (-1),dB false,dB false,dI 1,dI 0,dI (-1),dB false,dB true,dI (-1),dI 0,dI (-1),dB false,dB false,dI 0,dI 2,dI (-1),dB false,dB false,dI 0,dI 2,dI 1,dB false,dB false,dI 0,dI 2,dI 1,dB false,dB false,dI 0,dI 2,dI 1,dB false,dB false,dI 0,dI 3,dI (-1),dB false,dB false,dI 0,dI 1,dI (-1),dB false,dB false,dI 0,dI 1,dI (-1),dB false,dB false,dI 0,dI 3,dI 2,dB true,dB false,dI 0,dI 0,dI (-1)]
noncomputable abbrev m91f3_h2 (p0_:Tm) (p1_:Int) (p2_:Scp) (p3_:Int) (p4_:Tm) (p5_:Tm):List (Nat×HB) :=
 [(0,.cells 132 [.yld 1]),(1,JS),(2,.obj (.deferred (some []))),(3,.cells 33 (cE p0_)),(4,.cells 25 [dI p1_]),(5,.cells 127 (cE p2_)),(6,.cells 3 [dI p3_]),(7,.cells 33 (cE p4_)),(8,J9),(9,.cells 137 [.fn 91 [(0,0),(8,0),(9,0)]]),(10,.cells 33 (cE p5_))]
noncomputable abbrev GL :HB :=
 .loop .busy none [(5,.v (.one (.ptr 3 0))),(10,.v (.one (.ptr 4 0))),(11,.v (.one (.ptr 5 0))),(12,.v (.one (.ptr 6 0))),(26,.v (.one (.fn 89 [(7,0)])))] 45 #[27,28] ZQ Zn 2
noncomputable abbrev m91f3_h4 (p0_:Tm) (p1_:Int) (p2_:Scp) (p3_:Int) (p4_:Tm) (p5_:Tm):List (Nat×HB) :=
 [(0,.cells 132 [.yld 1]),(1,GL),(2,.obj (.deferred (some []))),(3,.cells 33 (cE p0_)),(4,.cells 25 [dI p1_]),(5,.cells 127 (cE p2_)),(6,.cells 3 [dI p3_]),(7,.cells 33 (cE p4_)),(8,J9),(9,.cells 137 [.fn 91 [(0,0),(8,0),(9,0)]]),(10,.cells 33 (cE p5_)),(11,.cells 33 (cE p5_))]
noncomputable abbrev m91f3_h5 (p0_:Tm) (p1_:Int) (p2_:Scp) (p3_:Int) (p4_:Tm) (p5_:Tm):List (Nat×HB) :=
 [(0,.cells 132 [.yld 1]),(1,JS),(2,.obj (.deferred (some []))),(3,.cells 33 (cE p0_)),(4,.cells 25 [dI p1_]),(5,.cells 127 (cE p2_)),(6,.cells 3 [dI p3_]),(7,.cells 33 (cE p4_)),(8,J9),(9,.cells 137 [.fn 91 [(0,0),(8,0),(9,0)]]),(10,.cells 33 (cE p5_)),(11,.cells 33 (cE p5_))]
noncomputable abbrev m91f3_h6 (p0_:Tm) (p1_:Int) (p2_:Scp) (p3_:Int) (p4_:Tm) (p5_:Tm):List (Nat×HB) :=
 [(0,.cells 132 [.yld 1]),(1,GL),(2,.obj (.deferred (some []))),(3,.cells 33 (cE p0_)),(4,.cells 25 [dI p1_]),(5,.cells 127 (cE p2_)),(6,.cells 3 [dI p3_]),(7,.cells 33 (cE p4_)),(8,J9),(9,.cells 137 [.fn 91 [(0,0),(8,0),(9,0)]]),(10,.cells 33 (cE p5_))]
noncomputable abbrev m91f3_h7 (p0_:Tm) (p1_:Int) (p2_:Scp) (p3_:Int×Int) (p4_:Tm) (p5_:Tm) (p6_:Tm):List (Nat×HB) :=
 [(0,.cells 132 [.yld 1]),(1,JS),(2,.obj (.deferred (some []))),(3,.cells 33 (cE p0_)),(4,.cells 25 [dI p1_]),(5,.cells 127 (cE p2_)),(6,.cells 3 [dI p3_.2]),(7,.cells 33 (cE p4_)),(8,J9),(9,.cells 137 [.fn 91 [(0,0),(8,0),(9,0)]]),(10,.cells 33 (cE p5_)),(12,.cells 33 (cE p6_))]
noncomputable abbrev Yh :HB :=
 .loop .done (some .ret) [(5,.v (.one (.ptr 3 0))),(10,.v (.one (.ptr 4 0))),(11,.v (.one (.ptr 5 0))),(12,.v (.one (.ptr 6 0))),(26,.v (.one (.fn 89 [(7,0)])))] 45 #[27,28] ZQ Zn 2
noncomputable abbrev m91f3_h9 (p0_:Tm) (p1_:Int×Int) (p2_:Scp) (p3_:Tm):List (Nat×HB) :=
 [(0,.cells 132 [.yld 1]),(1,Yh),(2,.obj (.deferred (some []))),(3,.cells 33 (cE p0_)),(4,.cells 25 [dI p1_.1]),(5,.cells 127 (cE p2_)),(6,.cells 3 [dI p1_.2]),(7,.cells 33 (cE p3_)),(8,J9),(9,.cells 137 [.fn 91 [(0,0),(8,0),(9,0)]])]
noncomputable abbrev m91f3_h10 (p0_:Tm) (p1_:Int) (p2_:Scp) (p3_:Bool×Int) (p4_:Tm):List (Nat×HB) :=
 [(0,.cells 132 [.yld 1]),(1,JS),(2,.obj (.deferred (some []))),(3,.cells 33 (cE p0_)),(4,.cells 25 [dI p1_]),(5,.cells 127 (cE p2_)),(6,.cells 3 [dI p3_.2]),(7,.cells 33 (cE p4_)),(8,J9),(9,.cells 137 [.fn 91 [(0,0),(8,0),(9,0)]])]
noncomputable abbrev KR (p0_:Tm) (p1_:Int) (p2_:Scp) (p3_:Int) (p4_:Tm):List (Nat×HB) :=
 [(0,.cells 132 [.yld 1]),(1,JS),(2,.obj (.deferred (some []))),(3,.cells 33 (cE p0_)),(4,.cells 25 [dI p1_]),(5,.cells 127 (cE p2_)),(6,.cells 3 [dI p3_]),(7,.cells 33 (cE p4_)),(8,J9),(9,.cells 137 [.fn 91 [(0,0),(8,0),(9,0)]])]
noncomputable abbrev m91f3_h12 (p0_:Tm) (p1_:Int) (p2_:Scp) (p3_:Int) (p4_:Tm):List (Nat×HB) :=
 [(0,.cells 132 [.yld 1]),(1,Yh),(2,.obj (.deferred (some []))),(3,.cells 33 (cE p0_)),(4,.cells 25 [dI p1_]),(5,.cells 127 (cE p2_)),(6,.cells 3 [dI p3_]),(7,.cells 33 (cE p4_)),(8,J9),(9,.cells 137 [.fn 91 [(0,0),(8,0),(9,0)]])]
def WO (rc:Tm×Int×Tm×Int×Scp×Int×Tm→Option ((Int×Int)⊕(Bool×Int))) (a0:Tm) (a1:Int) (a2:Tm) (a3:Int) (a4:Scp) (a5:Int) (a6:Tm):Option ((Int×Int)⊕(Bool×Int)) :=
 Option.bind (Option.bind (m80 a4 a0 a1) fun (x6:Int) =>
 cond (x6 != 0)
   (some (.inr x6))
   (some (.inl ()))) (Sum.elim (fun (y1:Unit)=>Option.bind (cond (decide (0≤a0.kind))
   (some (decide (a0.kind < 13)))
   (some false)) (fun (v8:Bool)=>GK v8 a0 a1 rc a2 a3 a4 a6 a5)) (fun (y2:Int)=>some (.inl (y2,a5))))
def G5 (rc:Tm×Int×Tm×Int×Scp×Int×Tm→Option ((Int×Int)⊕(Bool×Int))) (u:Tm×Int×Tm×Int×Scp×Int×Tm):Option ((Int×Int)⊕(Bool×Int)):=WO rc u.1 u.2.1 u.2.2.1 u.2.2.2.1 u.2.2.2.2.1 u.2.2.2.2.2.1 u.2.2.2.2.2.2
def m91f3 (a0:Tm) (a1:Int) (a2:Tm) (a3:Int) (a4:Scp) (a5:Int) (a6:Tm):Option ((Int×Int)⊕(Bool×Int)):=JR G5 QU (a0,a1,a2,a3,a4,a5,a6)
theorem m91f3s_ok (rc:Tm×Int×Tm×Int×Scp×Int×Tm→Option ((Int×Int)⊕(Bool×Int))) (H:∀ (a0:Tm) (a1:Int) (a2:Tm) (a3:Int) (a4:Scp) (a5:Int) (a6:Tm) (r:(Int×Int)⊕(Bool×Int)),rc (a0,a1,a2,a3,a4,a5,a6)=some r→CallE Try.prog 91 [.agg (cE a0),.one (dI a1),.one (.ptr 0 0),.one (.ptr 8 0),.one (.ptr 9 0)] ⟨KR a2 a3 a4 a5 a6,[],10⟩ ((Sum.elim (fun (r0:Int×Int)=>((.ret [.one (dB false)]):EK)) (fun (r1:Bool×Int)=>((.ret [.one (dB r1.1)]):EK))) r) ⟨((Sum.elim (fun (r0:Int×Int)=>(⟨[(7,.v (.one (dB false)))],[(0,.cells 132 [.yld 1]),(1,Yh),(2,.obj (.deferred (some []))),(3,.cells 33 (cE a2)),(4,.cells 25 [dI r0.1]),(5,.cells 127 (cE a4)),(6,.cells 3 [dI r0.2]),(7,.cells 33 (cE a6)),(8,J9),(9,.cells 137 [.fn 91 [(0,0),(8,0),(9,0)]])],[],12,50,[]⟩:St)) (fun (r1:Bool×Int)=>(⟨[(7,.v (.one (dB r1.1)))],[(0,.cells 132 [.yld 1]),(1,JS),(2,.obj (.deferred (some []))),(3,.cells 33 (cE a2)),(4,.cells 25 [dI a3]),(5,.cells 127 (cE a4)),(6,.cells 3 [dI r1.2]),(7,.cells 33 (cE a6)),(8,J9),(9,.cells 137 [.fn 91 [(0,0),(8,0),(9,0)]])],[],12,50,[]⟩:St))) r).hp,((Sum.elim (fun (r0:Int×Int)=>(⟨[(7,.v (.one (dB false)))],[(0,.cells 132 [.yld 1]),(1,Yh),(2,.obj (.deferred (some []))),(3,.cells 33 (cE a2)),(4,.cells 25 [dI r0.1]),(5,.cells 127 (cE a4)),(6,.cells 3 [dI r0.2]),(7,.cells 33 (cE a6)),(8,J9),(9,.cells 137 [.fn 91 [(0,0),(8,0),(9,0)]])],[],12,50,[]⟩:St)) (fun (r1:Bool×Int)=>(⟨[(7,.v (.one (dB r1.1)))],[(0,.cells 132 [.yld 1]),(1,JS),(2,.obj (.deferred (some []))),(3,.cells 33 (cE a2)),(4,.cells 25 [dI a3]),(5,.cells 127 (cE a4)),(6,.cells 3 [dI r1.2]),(7,.cells 33 (cE a6)),(8,J9),(9,.cells 137 [.fn 91 [(0,0),(8,0),(9,0)]])],[],12,50,[]⟩:St))) r).tk,((Sum.elim (fun (r0:Int×Int)=>(⟨[(7,.v (.one (dB false)))],[(0,.cells 132 [.yld 1]),(1,Yh),(2,.obj (.deferred (some []))),(3,.cells 33 (cE a2)),(4,.cells 25 [dI r0.1]),(5,.cells 127 (cE a4)),(6,.cells 3 [dI r0.2]),(7,.cells 33 (cE a6)),(8,J9),(9,.cells 137 [.fn 91 [(0,0),(8,0),(9,0)]])],[],12,50,[]⟩:St)) (fun (r1:Bool×Int)=>(⟨[(7,.v (.one (dB r1.1)))],[(0,.cells 132 [.yld 1]),(1,JS),(2,.obj (.deferred (some []))),(3,.cells 33 (cE a2)),(4,.cells 25 [dI a3]),(5,.cells 127 (cE a4)),(6,.cells 3 [dI r1.2]),(7,.cells 33 (cE a6)),(8,J9),(9,.cells 137 [.fn 91 [(0,0),(8,0),(9,0)]])],[],12,50,[]⟩:St))) r).nx⟩) (a0:Tm) (a1:Int) (a2:Tm) (a3:Int) (a4:Scp) (a5:Int) (a6:Tm) (r:(Int×Int)⊕(Bool×Int)) (h0:WO rc a0 a1 a2 a3 a4 a5 a6=some r):CallE Try.prog 91 [.agg (cE a0),.one (dI a1),.one (.ptr 0 0),.one (.ptr 8 0),.one (.ptr 9 0)] ⟨KR a2 a3 a4 a5 a6,[],10⟩ ((Sum.elim (fun (r0:Int×Int)=>((.ret [.one (dB false)]):EK)) (fun (r1:Bool×Int)=>((.ret [.one (dB r1.1)]):EK))) r) ⟨((Sum.elim (fun (r0:Int×Int)=>(⟨[(7,.v (.one (dB false)))],[(0,.cells 132 [.yld 1]),(1,Yh),(2,.obj (.deferred (some []))),(3,.cells 33 (cE a2)),(4,.cells 25 [dI r0.1]),(5,.cells 127 (cE a4)),(6,.cells 3 [dI r0.2]),(7,.cells 33 (cE a6)),(8,J9),(9,.cells 137 [.fn 91 [(0,0),(8,0),(9,0)]])],[],12,50,[]⟩:St)) (fun (r1:Bool×Int)=>(⟨[(7,.v (.one (dB r1.1)))],[(0,.cells 132 [.yld 1]),(1,JS),(2,.obj (.deferred (some []))),(3,.cells 33 (cE a2)),(4,.cells 25 [dI a3]),(5,.cells 127 (cE a4)),(6,.cells 3 [dI r1.2]),(7,.cells 33 (cE a6)),(8,J9),(9,.cells 137 [.fn 91 [(0,0),(8,0),(9,0)]])],[],12,50,[]⟩:St))) r).hp,((Sum.elim (fun (r0:Int×Int)=>(⟨[(7,.v (.one (dB false)))],[(0,.cells 132 [.yld 1]),(1,Yh),(2,.obj (.deferred (some []))),(3,.cells 33 (cE a2)),(4,.cells 25 [dI r0.1]),(5,.cells 127 (cE a4)),(6,.cells 3 [dI r0.2]),(7,.cells 33 (cE a6)),(8,J9),(9,.cells 137 [.fn 91 [(0,0),(8,0),(9,0)]])],[],12,50,[]⟩:St)) (fun (r1:Bool×Int)=>(⟨[(7,.v (.one (dB r1.1)))],[(0,.cells 132 [.yld 1]),(1,JS),(2,.obj (.deferred (some []))),(3,.cells 33 (cE a2)),(4,.cells 25 [dI a3]),(5,.cells 127 (cE a4)),(6,.cells 3 [dI r1.2]),(7,.cells 33 (cE a6)),(8,J9),(9,.cells 137 [.fn 91 [(0,0),(8,0),(9,0)]])],[],12,50,[]⟩:St))) r).tk,((Sum.elim (fun (r0:Int×Int)=>(⟨[(7,.v (.one (dB false)))],[(0,.cells 132 [.yld 1]),(1,Yh),(2,.obj (.deferred (some []))),(3,.cells 33 (cE a2)),(4,.cells 25 [dI r0.1]),(5,.cells 127 (cE a4)),(6,.cells 3 [dI r0.2]),(7,.cells 33 (cE a6)),(8,J9),(9,.cells 137 [.fn 91 [(0,0),(8,0),(9,0)]])],[],12,50,[]⟩:St)) (fun (r1:Bool×Int)=>(⟨[(7,.v (.one (dB r1.1)))],[(0,.cells 132 [.yld 1]),(1,JS),(2,.obj (.deferred (some []))),(3,.cells 33 (cE a2)),(4,.cells 25 [dI a3]),(5,.cells 127 (cE a4)),(6,.cells 3 [dI r1.2]),(7,.cells 33 (cE a6)),(8,J9),(9,.cells 137 [.fn 91 [(0,0),(8,0),(9,0)]])],[],12,50,[]⟩:St))) r).nx⟩:=by
 unfold WO at h0
 refine Y0 r ((Sum.elim (fun (r0:Int×Int)=>(⟨[(7,.v (.one (dB false)))],[(0,.cells 132 [.yld 1]),(1,Yh),(2,.obj (.deferred (some []))),(3,.cells 33 (cE a2)),(4,.cells 25 [dI r0.1]),(5,.cells 127 (cE a4)),(6,.cells 3 [dI r0.2]),(7,.cells 33 (cE a6)),(8,J9),(9,.cells 137 [.fn 91 [(0,0),(8,0),(9,0)]])],[],12,50,[]⟩:St)) (fun (r1:Bool×Int)=>(⟨[(7,.v (.one (dB r1.1)))],[(0,.cells 132 [.yld 1]),(1,JS),(2,.obj (.deferred (some []))),(3,.cells 33 (cE a2)),(4,.cells 25 [dI a3]),(5,.cells 127 (cE a4)),(6,.cells 3 [dI r1.2]),(7,.cells 33 (cE a6)),(8,J9),(9,.cells 137 [.fn 91 [(0,0),(8,0),(9,0)]])],[],12,50,[]⟩:St)))) ((Sum.elim (fun (r0:Int×Int)=>((.ret [.one (dB false)]):EK)) (fun (r1:Bool×Int)=>((.ret [.one (dB r1.1)]):EK)))) rfl rfl en_91 (lb rfl) (fun z_=>by cases z_ with
 | inl _=>exact rfl
 | inr _=>exact rfl) (fun z_=>by cases z_ with
 | inl _=>exact (De (Qm rfl .nil))
 | inr _=>exact (De (Qm rfl .nil))) (fun w0 M V0 Q hv0 hQ0=>?_)
 simp only [J3]
 refine Q4<|Q0<|Qb Z Z (lb Z) (QN Z)<|rA Z Z Z<|Q5<|Q3<|Q4<|Q4<|Q0<|rR Z Z Z (Q6 ag_132 Z Z Z)<|rM Z Z Z<|rR Z Z Z (QH (a0:Tm) QR Z Z) ?_
 refine Qd h0 (fun y3 h1 h0=>?_)
 have ha4:ExecOK Try.prog (some 1) ZQ ⟨[(5,.v (.one (.ptr 3 0))),(10,.v (.one (.ptr 4 0))),(11,.v (.one (.ptr 5 0))),(12,.v (.one (.ptr 6 0))),(26,.v (.one (.fn 89 [(7,0)]))),(27,.v (.one (dI a1))),(28,.v (.agg (cE a0)))],m91f3_h2 a2 a3 a4 a5 a6 a0,[],11,45,[]⟩ .normal ⟨[(10,.v (.one (.ptr 4 0))),(11,.v (.one (.ptr 5 0))),(12,.v (.one (.ptr 6 0))),(13,.v (.one (dI a1))),(14,.v (.one (.ptr 11 0)))],m91f3_h5 a2 a3 a4 a5 a6 a0,[],12,45,[]⟩:=by
  refine QZ (fun w0 M V0 ro n Q hv1 hro1 hQn1=>?_)
  refine Q4<|Q0<|rA Z Z Z<|Q5<|Q3<|Q0<|Qb Z Z (lb Z) (Qv G1 Z)<|QC Z Z (QA (a0:Tm) QR Z Z Z Z Z)<|Q5 ?_
  exact JO hQn1 (sL (Nat.le_trans hv1 (lb Z)) Z Z Z Z Z)
 have hb5:ExecOK Try.prog (some 1) Zn ⟨[(10,.v (.one (.ptr 4 0))),(11,.v (.one (.ptr 5 0))),(12,.v (.one (.ptr 6 0))),(13,.v (.one (dI a1))),(14,.v (.one (.ptr 11 0)))],m91f3_h4 a2 a3 a4 a5 a6 a0,[],12,45,[]⟩ ((Sum.elim (fun (_:Unit)=>(.normal:Exit)) (fun (_:Int)=>(.ret:Exit))) y3) ((Sum.elim (fun (y1:Unit)=>(⟨[],[(0,.cells 132 [.yld 1]),(1,GL),(2,.obj (.deferred (some []))),(3,.cells 33 (cE a2)),(4,.cells 25 [dI a3]),(5,.cells 127 (cE a4)),(6,.cells 3 [dI (Ja (a5+1))]),(7,.cells 33 (cE a6)),(8,J9),(9,.cells 137 [.fn 91 [(0,0),(8,0),(9,0)]]),(10,.cells 33 (cE a0))],[],12,45,[]⟩:St)) (fun (y2:Int)=>(⟨[],m91f3_h6 a2 y2 a4 a5 a6 a0,[],12,45,[]⟩:St))) y3):=by
  refine QZ (fun w0 M V0 ro n Q hv1 hro1 hQn1=>?_)
  refine Ql<|Q4<|Q4<|Q0<|rR Z Z Z (QH (a4:Scp) ag_127 Z Z)<|rR Z Z Z (QH (a0:Tm) QR Z Z)<|rM Z Z Z ?_
  refine Qd h1 (fun x6 hx6 h1=>?_)
  refine Qb Z Z (lb Z) (Qh (m80_ok a4 a0 a1 x6 hx6) Z (.cons (.agg (.cons (.d _) (.cons (.d _) (.cons (.d _) (.cons (.d _) .nil))))) (.cons (.agg (.cons (.d _) (.cons (.d _) (.cons (.d _) (.cons (.d _) (.cons (.d _) .nil)))))) (.cons (.one (.d _)) .nil))))<|rA Z Z Z<|Q5<|Q3<|Q4<|Q0<|rM Z Z Z<|rR Z Z Z (Q8 Z Z Z)<|Q5<|Q3 ?_
  refine Qe (b:=(x6 != 0)) Z (fun c7=>?_) (fun c7=>?_)
  replace h1:=Qf c7 h1
  refine Q4<|Q0<|rM Z Z Z<|QC Z Z (Qz K9 Z Z Z Z (lb Z) Z)<|Q5<|Q3<|Qp ?_
  have e:=sI h1;subst e
  exact JO (e:=.ret) (st':=⟨[],m91f3_h6 a2 x6 a4 a5 a6 a0,[],12,45,[]⟩) hQn1 (sL (Nat.le_trans hv1 (lb Z)) Z Z Z Z Z)
  replace h1:=Qg c7 h1
  refine Qj<|Q3<|Q0<|rR Z Z Z (Q6 QG Z Z Z)<|rR Z Z Z (Q8 Z Z Z)<|QC Z Z (Qz QG Z Z Z Z (lb Z) Z)<|Q5<|Qk ?_
  have e:=sI h1;subst e
  exact JO (e:=.normal) (st':=⟨[],[(0,.cells 132 [.yld 1]),(1,GL),(2,.obj (.deferred (some []))),(3,.cells 33 (cE a2)),(4,.cells 25 [dI a3]),(5,.cells 127 (cE a4)),(6,.cells 3 [dI (Ja (a5+1))]),(7,.cells 33 (cE a6)),(8,J9),(9,.cells 137 [.fn 91 [(0,0),(8,0),(9,0)]]),(10,.cells 33 (cE a0))],[],12,45,[]⟩) hQn1 (sL (Nat.le_trans hv1 (lb Z)) Z Z Z Z Z)
 refine WM (C:=fun q_=>ExecOK Try.prog (some 1) Zn ⟨[(10,.v (.one (.ptr 4 0))),(11,.v (.one (.ptr 5 0))),(12,.v (.one (.ptr 6 0))),(13,.v (.one (dI a1))),(14,.v (.one (.ptr 11 0)))],m91f3_h4 a2 a3 a4 a5 a6 a0,[],12,45,[]⟩ ((Sum.elim (fun (_:Unit)=>(.normal:Exit)) (fun (_:Int)=>(.ret:Exit))) q_) ((Sum.elim (fun (y1:Unit)=>(⟨[],[(0,.cells 132 [.yld 1]),(1,GL),(2,.obj (.deferred (some []))),(3,.cells 33 (cE a2)),(4,.cells 25 [dI a3]),(5,.cells 127 (cE a4)),(6,.cells 3 [dI (Ja (a5+1))]),(7,.cells 33 (cE a6)),(8,J9),(9,.cells 137 [.fn 91 [(0,0),(8,0),(9,0)]]),(10,.cells 33 (cE a0))],[],12,45,[]⟩:St)) (fun (y2:Int)=>(⟨[],m91f3_h6 a2 y2 a4 a5 a6 a0,[],12,45,[]⟩:St))) q_)) hb5 h0 (fun y1 hb5 h0=>?_) (fun y2 hb5 h0=>?_)
 replace hb5:ExecOK Try.prog (some 1) Zn ⟨[(10,.v (.one (.ptr 4 0))),(11,.v (.one (.ptr 5 0))),(12,.v (.one (.ptr 6 0))),(13,.v (.one (dI a1))),(14,.v (.one (.ptr 11 0)))],m91f3_h4 a2 a3 a4 a5 a6 a0,[],12,45,[]⟩ .normal ⟨[],[(0,.cells 132 [.yld 1]),(1,GL),(2,.obj (.deferred (some []))),(3,.cells 33 (cE a2)),(4,.cells 25 [dI a3]),(5,.cells 127 (cE a4)),(6,.cells 3 [dI (Ja (a5+1))]),(7,.cells 33 (cE a6)),(8,J9),(9,.cells 137 [.fn 91 [(0,0),(8,0),(9,0)]]),(10,.cells 33 (cE a0))],[],12,45,[]⟩:=hb5
 refine Qb Z Z (lb Z) (Jm (jump:=none) Z Z Z Z Z (QK ha4 (fun E hv=>(sL (Nat.le_trans hv (lb Z)) Z Z Z Z Z))) Z (QK hb5 (fun E hv=>(sL (Nat.le_trans hv (lb Z)) Z Z Z Z Z))) Z Z) ?_
 refine rR Z Z Z (Jc Z)<|Q5<|Q3 ?_
 refine Qe Z (fun h=>nomatch h) (fun _=>?_)
 refine Qj<|Q3<|Q4<|Q0<|rA Z Z Z<|Q5<|Q3<|Q4<|Q4 ?_
 refine QD (fun (v8:Bool)=>⟨[(1,.v (.one (dI a1))),(3,.v (.one (.ptr 8 0))),(4,.v (.one (.ptr 9 0))),(5,.v (.one (.ptr 10 0))),(8,.v (.one (dI (-1)))),(24,.v (.one (dB v8)))],[(0,.cells 132 [.yld 1]),(1,JS),(2,.obj (.deferred (some []))),(3,.cells 33 (cE a2)),(4,.cells 25 [dI a3]),(5,.cells 127 (cE a4)),(6,.cells 3 [dI (Ja (a5+1))]),(7,.cells 33 (cE a6)),(8,J9),(9,.cells 137 [.fn 91 [(0,0),(8,0),(9,0)]]),(10,.cells 33 (cE a0))],[],12,50,[]⟩) (fun (v8:Bool)=>(GK v8 a0 a1 rc a2 a3 a4 a6 a5)=some r) ?_ ?_
 refine Qd h0 (fun w1_ h1 h0=>?_)
 refine Q0<|rR Z Z Z (Q2 JF Z)<|rR Z Z Z (Q6 QG Z Z Z)<|rR Z Z Z (Q8 Z Z Z)<|rM Z Z Z ?_
 refine Qw (d:=20) (c:=(decide (0≤a0.kind))) Z (fun c9=>?_) (fun c9=>?_)
 replace h1:=Qf c9 h1
 refine rR Z Z Z (Q2 JF Z)<|rR Z Z Z (Q6 QG Z Z Z)<|rR Z Z Z (Q8 Z Z Z)<|rR Z Z Z (Qc Z Z)<|Q5 ?_
 have e:=sI h1;subst e
 exact Q9 (decide (a0.kind < 13)) (sL (Nat.le_trans hv0 (lb Z)) Z Z Z Z Z) h0
 replace h1:=Qg c9 h1
 refine Q7 Z Z<|Q7 Z Z<|Q7 Z Z<|rR Z Z Z (Qa Z Z)<|Q5 ?_
 have e:=sI h1;subst e
 exact Q9 false (sL (Nat.le_trans hv0 (lb Z)) Z Z Z Z Z) h0
 intro v8 h0
 unfold GK at h0
 refine Q3 ?_
 refine QD (fun (v10:Int)=>⟨[(1,.v (.one (dI a1))),(4,.v (.one (.ptr 9 0))),(5,.v (.one (.ptr 10 0))),(8,.v (.one (dI v10)))],[(0,.cells 132 [.yld 1]),(1,JS),(2,.obj (.deferred (some []))),(3,.cells 33 (cE a2)),(4,.cells 25 [dI a3]),(5,.cells 127 (cE a4)),(6,.cells 3 [dI (Ja (a5+1))]),(7,.cells 33 (cE a6)),(8,J9),(9,.cells 137 [.fn 91 [(0,0),(8,0),(9,0)]]),(10,.cells 33 (cE a0))],[],12,50,[]⟩) (fun (v10:Int)=>(Option.bind (QE (Km a0 v10 a1 rc a2 a3 a4 a6) QU (0,(Ja (a5+1)))) (Sum.elim (fun (o11:Int)=>some (.inr (true,o11))) (fun o=>some o)))=some r) ?_ ?_
 refine Qd h0 (fun w1_ h1 h0=>?_)
 refine Qe (b:=v8) Z (fun c11=>?_) (fun c11=>?_)
 replace h1:=Qf c11 h1
 refine Q0<|rR Z Z Z (Q2 JF Z)<|rR Z Z Z (Q6 QG Z Z Z) ?_
 refine Yt h1 (fun g12 h1=>?_)
 refine rR Z Z Z (RO.indexA arr_135 Z Z g12)<|rR Z Z Z (Q2 fo_134_4 Z) ?_
 refine Qd h1 (fun x13 hx13 h1=>?_)
 refine rR Z Z Z (RO.loadCol (m:=a0.kind) (sz:=5) (f:=4) (col:=([(-1),(-1),(-1),(-1),(-1),1,1,1,(-1),(-1),(-1),2,(-1)]:List Int)) QG Z Z Z hx13)<|rA Z Z Z<|Q5 ?_
 have e:=sI h1;subst e
 exact Q9 x13 (sL (Nat.le_trans hv0 (lb Z)) Z Z Z Z Z) h0
 replace h1:=Qg c11 h1
 refine Qj ?_
 have e:=sI h1;subst e
 exact Q9 (-1) (sL (Nat.le_trans hv0 (lb Z)) Z Z Z Z Z) h0
 intro v10 h0
 refine Q3<|Q4<|Q4<|Q0<|rR Z Z Z (Q2 Jv Z)<|rR Z Z Z (Q6 JH Z Z Z)<|rR Z Z Z (Qx (α:=Tm) Jk Z (.d _))<|rM Z Z Z<|Q5<|Q3<|Ql ?_
 refine QQ 0 (fun (o14:Int)=>⟨[],[(0,.cells 132 [.yld 1]),(1,JS),(2,.obj (.deferred (some []))),(3,.cells 33 (cE a2)),(4,.cells 25 [dI a3]),(5,.cells 127 (cE a4)),(6,.cells 3 [dI o14]),(7,.cells 33 (cE a6)),(8,J9),(9,.cells 137 [.fn 91 [(0,0),(8,0),(9,0)]]),(10,.cells 33 (cE a0))],[],12,50,[]⟩) (fun (o14:Int)=>(some (.inr (true,o14)))=some r) ?_ ?_
 refine Qd h0 (fun o15 hl1 h0=>?_)
 refine QP (Km a0 v10 a1 rc a2 a3 a4 a6) (fun s1=>⟨[(1,.v (.one (dI a1))),(4,.v (.one (.ptr 9 0))),(8,.v (.one (dI v10))),(31,.v (.one (dS a0.kids))),(32,.v (.one (dI (a0.kids.length:Int)))),(33,.v (.one (dI s1.1)))],[(0,.cells 132 [.yld 1]),(1,JS),(2,.obj (.deferred (some []))),(3,.cells 33 (cE a2)),(4,.cells 25 [dI a3]),(5,.cells 127 (cE a4)),(6,.cells 3 [dI s1.2]),(7,.cells 33 (cE a6)),(8,J9),(9,.cells 137 [.fn 91 [(0,0),(8,0),(9,0)]]),(10,.cells 33 (cE a0))],[],12,50,[]⟩) (0,(Ja (a5+1))) o15 (sL (Nat.le_trans hv0 (lb Z)) Z Z Z Z Z) hl1 (fun s1 n1 oo1 h1 ho1=>?_)
 unfold Km at h1
 refine Q4<|Q0<|rR Z Z Z (Q8 Z Z Z)<|Q5<|Q3<|Q4 ?_
 refine Qe (b:=(decide (s1.1 < (a0.kids.length:Int)))) Z (fun c16=>?_) (fun c16=>?_)
 replace h1:=Qf c16 h1
 refine Qj<|Q3<|Q4<|Ql<|Q4<|Q0<|rM Z Z Z ?_
 refine Qd h1 (fun x17 hx17 h1=>?_)
 refine rR Z Z Z (Qt (α:=Tm) Jk Z (.d _) Z hx17)<|rR Z Z Z (Qu (x17:Tm) QR Z)<|Qb Z Z (lb Z) (Qv G1 Z)<|rA Z Z Z<|QC Z Z (QA (x17:Tm) QR Z Z Z Z Z)<|Q5<|Q3<|Q4<|Q0<|rM Z Z Z<|rA Z Z Z<|Q5<|Q3<|Q4 ?_
 refine Q4<|Q0<|rM Z Z Z<|rM Z Z Z<|rR Z Z Z (Q8 Z Z Z)<|Q5<|Q3 ?_
 refine QD (fun (v18:Int)=>⟨[(1,.v (.one (dI a1))),(4,.v (.one (.ptr 9 0))),(8,.v (.one (dI v10))),(10,.v (.one (.ptr 12 0))),(11,.v (.one (dI v18))),(31,.v (.one (dS a0.kids))),(32,.v (.one (dI (a0.kids.length:Int)))),(33,.v (.one (dI s1.1)))],m91f3_h7 a2 a3 a4 s1 a6 a0 x17,[],13,50,[]⟩) (fun (v18:Int)=>(m91f3_k0 rc x17 v18 a2 a3 a4 s1 a6)=some oo1) ?_ ?_
 refine Qd h1 (fun w2_ h2 h1=>?_)
 refine Qe (b:=(s1.1==v10)) Z (fun c19=>?_) (fun c19=>?_)
 replace h2:=Qf c19 h2
 refine Q0<|rM Z Z Z<|rR Z Z Z (Q8 Z Z Z)<|rA Z Z Z<|Q5 ?_
 have e:=sI h2;subst e
 exact Q9 (Ja (a1+1)) (sL (Nat.le_trans hv0 (lb Z)) Z Z Z Z Z) h1
 replace h2:=Qg c19 h2
 refine Qj ?_
 have e:=sI h2;subst e
 exact Q9 a1 (sL (Nat.le_trans hv0 (lb Z)) Z Z Z Z Z) h1
 intro v18 h1
 unfold m91f3_k0 at h1
 refine Q3<|Q4<|Q0<|rR Z Z Z (Q6 ag_137 Z Z Z)<|rR Z Z Z (QH (x17:Tm) QR Z Z)<|rM Z Z Z ?_
 refine Qd h1 (fun x20 hx20 h1=>?_)
 refine Y7 id hx20 h1 (fun x21 hx21 h1=>?_) (fun x22 hx22 h1=>?_)
 refine Qb Z Z (lb Z) (JC (hp1':=[(0,.cells 132 [.yld 1]),(1,.loop .done (some .ret) [(5,.v (.one (.ptr 3 0))),(10,.v (.one (.ptr 4 0))),(11,.v (.one (.ptr 5 0))),(12,.v (.one (.ptr 6 0))),(26,.v (.one (.fn 89 [(7,0)])))] 45 #[27,28] ZQ Zn 2),(2,.obj (.deferred (some []))),(3,.cells 33 (cE a2)),(4,.cells 25 [dI x21.1]),(5,.cells 127 (cE a4)),(6,.cells 3 [dI x21.2]),(7,.cells 33 (cE a6)),(8,.cells 135 [dB true,dB false,dI 0,dI 0,dI (-1),dB false,dB false,dI 0,dI 0,dI (-1),dB false,dB false,dI 1,dI 0,dI (-1),dB false,dB true,dI (-1),dI 0,dI (-1),dB false,dB false,dI 0,dI 2,dI (-1),dB false,dB false,dI 0,dI 2,dI 1,dB false,dB false,dI 0,dI 2,dI 1,dB false,dB false,dI 0,dI 2,dI 1,dB false,dB false,dI 0,dI 3,dI (-1),dB false,dB false,dI 0,dI 1,dI (-1),dB false,dB false,dI 0,dI 1,dI (-1),dB false,dB false,dI 0,dI 3,dI 2,dB true,dB false,dI 0,dI 0,dI (-1)]),(9,.cells 137 [.fn 91 [(0,0),(8,0),(9,0)]])]) (tk1':=[]) (hpF:=[(10,.cells 33 (cE a0)),(12,.cells 33 (cE x17))]) (tkF:=[]) (res2:=QM [.one (dB false)]) (nx2:=15) [0,1,2,3,4,5,6,7,8,9] Z Z (CallE.m (H x17 v18 a2 a3 a4 s1.2 a6 (.inl x21) hx21)) Z Z (qB Z Z (qB Z Z (qB Z Z (qB Z Z (qB Z Z (qB Z Z (qB Z Z (qB Z Z (qB Z Z (qB Z Z qZ)))))))))) Z Z (gR Z (gR Z (gR Z (gR Z (gR Z (gR Z (gR Z (gR Z (gR Z (gR Z gZ)))))))))) jZ (hA Z) kZ Z Z Z Z Z (bA Z) Z Z Z Z)<|rR Z Z Z (Jc Z)<|Q5<|Q3 ?_
 refine Qe Z (fun _=>?_) (fun h=>nomatch h)
 refine Q4<|Q0<|rA Z Z Z<|Q5<|Q3<|Qp ?_
 have e:=sI h1;subst e
 have e_:_=_:=ho1
 subst e_
 try dsimp only [Sum.elim_inl,Sum.elim_inr] at h0
 have e:=sI h0;subst e
 exact hQ0 _ _ DF Z (show StLe _ _ ⟨[(7,.v (.one (dB false)))],m91f3_h9 a2 x21 a4 a6,[],12,50,[]⟩ from (sL (Nat.le_trans hv0 (lb Z)) Z Z Z Z Z))
 refine Qb Z Z (lb Z) (JC (hp1':=[(0,.cells 132 [.yld 1]),(1,.loop .ready none [(5,.v (.one (.ptr 3 0))),(10,.v (.one (.ptr 4 0))),(11,.v (.one (.ptr 5 0))),(12,.v (.one (.ptr 6 0))),(26,.v (.one (.fn 89 [(7,0)])))] 45 #[27,28] ZQ Zn 2),(2,.obj (.deferred (some []))),(3,.cells 33 (cE a2)),(4,.cells 25 [dI a3]),(5,.cells 127 (cE a4)),(6,.cells 3 [dI x22.2]),(7,.cells 33 (cE a6)),(8,.cells 135 [dB true,dB false,dI 0,dI 0,dI (-1),dB false,dB false,dI 0,dI 0,dI (-1),dB false,dB false,dI 1,dI 0,dI (-1),dB false,dB true,dI (-1),dI 0,dI (-1),dB false,dB false,dI 0,dI 2,dI (-1),dB false,dB false,dI 0,dI 2,dI 1,dB false,dB false,dI 0,dI 2,dI 1,dB false,dB false,dI 0,dI 2,dI 1,dB false,dB false,dI 0,dI 3,dI (-1),dB false,dB false,dI 0,dI 1,dI (-1),dB false,dB false,dI 0,dI 1,dI (-1),dB false,dB false,dI 0,dI 3,dI 2,dB true,dB false,dI 0,dI 0,dI (-1)]),(9,.cells 137 [.fn 91 [(0,0),(8,0),(9,0)]])]) (tk1':=[]) (hpF:=[(10,.cells 33 (cE a0)),(12,.cells 33 (cE x17))]) (tkF:=[]) (res2:=QM [.one (dB x22.1)]) (nx2:=15) [0,1,2,3,4,5,6,7,8,9] Z Z (CallE.m (H x17 v18 a2 a3 a4 s1.2 a6 (.inr x22) hx22)) Z Z (qB Z Z (qB Z Z (qB Z Z (qB Z Z (qB Z Z (qB Z Z (qB Z Z (qB Z Z (qB Z Z (qB Z Z qZ)))))))))) Z Z (gR Z (gR Z (gR Z (gR Z (gR Z (gR Z (gR Z (gR Z (gR Z (gR Z gZ)))))))))) jZ (hA Z) kZ Z Z Z Z Z (bA Z) Z Z Z Z)<|rR Z Z Z (Jc Z)<|Q5<|Q3 ?_
 refine Qe (b:=(!x22.1)) Z (fun c23=>?_) (fun c23=>?_)
 replace h1:=Qf c23 h1
 refine Q4<|Q0<|rA Z Z Z<|Q5<|Q3<|Qp ?_
 have e:=sI h1;subst e
 have e_:_=_:=ho1
 subst e_
 try dsimp only [Sum.elim_inl,Sum.elim_inr] at h0
 have e:=sI h0;subst e
 exact hQ0 _ _ DF Z (show StLe _ _ ⟨[(7,.v (.one (dB false)))],m91f3_h10 a2 a3 a4 x22 a6,[],12,50,[]⟩ from (sL (Nat.le_trans hv0 (lb Z)) Z Z Z Z Z))
 replace h1:=Qg c23 h1
 refine Qj<|Qk<|Q3<|Q0<|rR Z Z Z (Q8 Z Z Z)<|rM Z Z Z<|Q5 ?_
 have e:=sI h1;subst e
 refine QJ ((Ja (s1.1+1)),x22.2) (sL (Nat.le_trans hv0 (lb Z)) Z Z Z Z Z) ho1
 replace h1:=Qg c16 h1
 refine QW<|Qr<|Qr ?_
 have e:=sI h1;subst e
 have e_:_=_:=ho1
 subst e_
 exact QO s1.2 (sL (Nat.le_trans hv0 (lb Z)) Z Z Z Z Z) h0
 intro o14 h0
 refine QF<|Q3<|Q4<|Q0<|rA Z Z Z<|Q5<|Q3<|Qp ?_
 have e:=sI h0;subst e
 exact hQ0 _ _ DF Z (show StLe _ _ ⟨[(7,.v (.one (dB true)))],KR a2 a3 a4 o14 a6,[],12,50,[]⟩ from (sL (Nat.le_trans hv0 (lb Z)) Z Z Z Z Z))
 replace hb5:ExecOK Try.prog (some 1) Zn ⟨[(10,.v (.one (.ptr 4 0))),(11,.v (.one (.ptr 5 0))),(12,.v (.one (.ptr 6 0))),(13,.v (.one (dI a1))),(14,.v (.one (.ptr 11 0)))],m91f3_h4 a2 a3 a4 a5 a6 a0,[],12,45,[]⟩ .ret ⟨[],m91f3_h6 a2 y2 a4 a5 a6 a0,[],12,45,[]⟩:=hb5
 refine Qb Z Z (lb Z) (Jm (jump:=(some .ret)) Z Z Z Z Z (QK ha4 (fun E hv=>(sL (Nat.le_trans hv (lb Z)) Z Z Z Z Z))) Z (QK hb5 (fun E hv=>(sL (Nat.le_trans hv (lb Z)) Z Z Z Z Z))) Z Z) ?_
 refine rR Z Z Z (Jc Z)<|Q5<|Q3 ?_
 refine Qe Z (fun _=>?_) (fun h=>nomatch h)
 refine Q4<|Q0<|rA Z Z Z<|Q5<|Q3<|Qp ?_
 have e:=sI h0;subst e
 exact hQ0 _ _ DF Z (show StLe _ _ ⟨[(7,.v (.one (dB false)))],m91f3_h12 a2 y2 a4 a5 a6,[],12,50,[]⟩ from (sL (Nat.le_trans hv0 (lb Z)) Z Z Z Z Z))
theorem m91f3_all (n:Nat) (u:Tm×Int×Tm×Int×Scp×Int×Tm) (r:(Int×Int)⊕(Bool×Int)) (h0:JR G5 n u=some r):CallE Try.prog 91 [.agg (cE u.1),.one (dI u.2.1),.one (.ptr 0 0),.one (.ptr 8 0),.one (.ptr 9 0)] ⟨KR u.2.2.1 u.2.2.2.1 u.2.2.2.2.1 u.2.2.2.2.2.1 u.2.2.2.2.2.2,[],10⟩ ((Sum.elim (fun (r0:Int×Int)=>((.ret [.one (dB false)]):EK)) (fun (r1:Bool×Int)=>((.ret [.one (dB r1.1)]):EK))) r) ⟨((Sum.elim (fun (r0:Int×Int)=>(⟨[(7,.v (.one (dB false)))],[(0,.cells 132 [.yld 1]),(1,Yh),(2,.obj (.deferred (some []))),(3,.cells 33 (cE u.2.2.1)),(4,.cells 25 [dI r0.1]),(5,.cells 127 (cE u.2.2.2.2.1)),(6,.cells 3 [dI r0.2]),(7,.cells 33 (cE u.2.2.2.2.2.2)),(8,J9),(9,.cells 137 [.fn 91 [(0,0),(8,0),(9,0)]])],[],12,50,[]⟩:St)) (fun (r1:Bool×Int)=>(⟨[(7,.v (.one (dB r1.1)))],[(0,.cells 132 [.yld 1]),(1,JS),(2,.obj (.deferred (some []))),(3,.cells 33 (cE u.2.2.1)),(4,.cells 25 [dI u.2.2.2.1]),(5,.cells 127 (cE u.2.2.2.2.1)),(6,.cells 3 [dI r1.2]),(7,.cells 33 (cE u.2.2.2.2.2.2)),(8,J9),(9,.cells 137 [.fn 91 [(0,0),(8,0),(9,0)]])],[],12,50,[]⟩:St))) r).hp,((Sum.elim (fun (r0:Int×Int)=>(⟨[(7,.v (.one (dB false)))],[(0,.cells 132 [.yld 1]),(1,Yh),(2,.obj (.deferred (some []))),(3,.cells 33 (cE u.2.2.1)),(4,.cells 25 [dI r0.1]),(5,.cells 127 (cE u.2.2.2.2.1)),(6,.cells 3 [dI r0.2]),(7,.cells 33 (cE u.2.2.2.2.2.2)),(8,J9),(9,.cells 137 [.fn 91 [(0,0),(8,0),(9,0)]])],[],12,50,[]⟩:St)) (fun (r1:Bool×Int)=>(⟨[(7,.v (.one (dB r1.1)))],[(0,.cells 132 [.yld 1]),(1,JS),(2,.obj (.deferred (some []))),(3,.cells 33 (cE u.2.2.1)),(4,.cells 25 [dI u.2.2.2.1]),(5,.cells 127 (cE u.2.2.2.2.1)),(6,.cells 3 [dI r1.2]),(7,.cells 33 (cE u.2.2.2.2.2.2)),(8,J9),(9,.cells 137 [.fn 91 [(0,0),(8,0),(9,0)]])],[],12,50,[]⟩:St))) r).tk,((Sum.elim (fun (r0:Int×Int)=>(⟨[(7,.v (.one (dB false)))],[(0,.cells 132 [.yld 1]),(1,Yh),(2,.obj (.deferred (some []))),(3,.cells 33 (cE u.2.2.1)),(4,.cells 25 [dI r0.1]),(5,.cells 127 (cE u.2.2.2.2.1)),(6,.cells 3 [dI r0.2]),(7,.cells 33 (cE u.2.2.2.2.2.2)),(8,J9),(9,.cells 137 [.fn 91 [(0,0),(8,0),(9,0)]])],[],12,50,[]⟩:St)) (fun (r1:Bool×Int)=>(⟨[(7,.v (.one (dB r1.1)))],[(0,.cells 132 [.yld 1]),(1,JS),(2,.obj (.deferred (some []))),(3,.cells 33 (cE u.2.2.1)),(4,.cells 25 [dI u.2.2.2.1]),(5,.cells 127 (cE u.2.2.2.2.1)),(6,.cells 3 [dI r1.2]),(7,.cells 33 (cE u.2.2.2.2.2.2)),(8,J9),(9,.cells 137 [.fn 91 [(0,0),(8,0),(9,0)]])],[],12,50,[]⟩:St))) r).nx⟩ :=
 YN (C:=fun u r=>CallE Try.prog 91 [.agg (cE u.1),.one (dI u.2.1),.one (.ptr 0 0),.one (.ptr 8 0),.one (.ptr 9 0)] ⟨KR u.2.2.1 u.2.2.2.1 u.2.2.2.2.1 u.2.2.2.2.2.1 u.2.2.2.2.2.2,[],10⟩ ((Sum.elim (fun (r0:Int×Int)=>((.ret [.one (dB false)]):EK)) (fun (r1:Bool×Int)=>((.ret [.one (dB r1.1)]):EK))) r) ⟨((Sum.elim (fun (r0:Int×Int)=>(⟨[(7,.v (.one (dB false)))],[(0,.cells 132 [.yld 1]),(1,Yh),(2,.obj (.deferred (some []))),(3,.cells 33 (cE u.2.2.1)),(4,.cells 25 [dI r0.1]),(5,.cells 127 (cE u.2.2.2.2.1)),(6,.cells 3 [dI r0.2]),(7,.cells 33 (cE u.2.2.2.2.2.2)),(8,J9),(9,.cells 137 [.fn 91 [(0,0),(8,0),(9,0)]])],[],12,50,[]⟩:St)) (fun (r1:Bool×Int)=>(⟨[(7,.v (.one (dB r1.1)))],[(0,.cells 132 [.yld 1]),(1,JS),(2,.obj (.deferred (some []))),(3,.cells 33 (cE u.2.2.1)),(4,.cells 25 [dI u.2.2.2.1]),(5,.cells 127 (cE u.2.2.2.2.1)),(6,.cells 3 [dI r1.2]),(7,.cells 33 (cE u.2.2.2.2.2.2)),(8,J9),(9,.cells 137 [.fn 91 [(0,0),(8,0),(9,0)]])],[],12,50,[]⟩:St))) r).hp,((Sum.elim (fun (r0:Int×Int)=>(⟨[(7,.v (.one (dB false)))],[(0,.cells 132 [.yld 1]),(1,Yh),(2,.obj (.deferred (some []))),(3,.cells 33 (cE u.2.2.1)),(4,.cells 25 [dI r0.1]),(5,.cells 127 (cE u.2.2.2.2.1)),(6,.cells 3 [dI r0.2]),(7,.cells 33 (cE u.2.2.2.2.2.2)),(8,J9),(9,.cells 137 [.fn 91 [(0,0),(8,0),(9,0)]])],[],12,50,[]⟩:St)) (fun (r1:Bool×Int)=>(⟨[(7,.v (.one (dB r1.1)))],[(0,.cells 132 [.yld 1]),(1,JS),(2,.obj (.deferred (some []))),(3,.cells 33 (cE u.2.2.1)),(4,.cells 25 [dI u.2.2.2.1]),(5,.cells 127 (cE u.2.2.2.2.1)),(6,.cells 3 [dI r1.2]),(7,.cells 33 (cE u.2.2.2.2.2.2)),(8,J9),(9,.cells 137 [.fn 91 [(0,0),(8,0),(9,0)]])],[],12,50,[]⟩:St))) r).tk,((Sum.elim (fun (r0:Int×Int)=>(⟨[(7,.v (.one (dB false)))],[(0,.cells 132 [.yld 1]),(1,Yh),(2,.obj (.deferred (some []))),(3,.cells 33 (cE u.2.2.1)),(4,.cells 25 [dI r0.1]),(5,.cells 127 (cE u.2.2.2.2.1)),(6,.cells 3 [dI r0.2]),(7,.cells 33 (cE u.2.2.2.2.2.2)),(8,J9),(9,.cells 137 [.fn 91 [(0,0),(8,0),(9,0)]])],[],12,50,[]⟩:St)) (fun (r1:Bool×Int)=>(⟨[(7,.v (.one (dB r1.1)))],[(0,.cells 132 [.yld 1]),(1,JS),(2,.obj (.deferred (some []))),(3,.cells 33 (cE u.2.2.1)),(4,.cells 25 [dI u.2.2.2.1]),(5,.cells 127 (cE u.2.2.2.2.1)),(6,.cells 3 [dI r1.2]),(7,.cells 33 (cE u.2.2.2.2.2.2)),(8,J9),(9,.cells 137 [.fn 91 [(0,0),(8,0),(9,0)]])],[],12,50,[]⟩:St))) r).nx⟩) (fun rc H u r h=>m91f3s_ok rc (fun a0 a1 a2 a3 a4 a5 a6 r h=>H (a0,a1,a2,a3,a4,a5,a6) r h) u.1 u.2.1 u.2.2.1 u.2.2.2.1 u.2.2.2.2.1 u.2.2.2.2.2.1 u.2.2.2.2.2.2 r h) n u r h0
theorem m91f3_ok (a0:Tm) (a1:Int) (a2:Tm) (a3:Int) (a4:Scp) (a5:Int) (a6:Tm) (r:(Int×Int)⊕(Bool×Int)) (h0:m91f3 a0 a1 a2 a3 a4 a5 a6=some r):CallE Try.prog 91 [.agg (cE a0),.one (dI a1),.one (.ptr 0 0),.one (.ptr 8 0),.one (.ptr 9 0)] ⟨KR a2 a3 a4 a5 a6,[],10⟩ ((Sum.elim (fun (r0:Int×Int)=>((.ret [.one (dB false)]):EK)) (fun (r1:Bool×Int)=>((.ret [.one (dB r1.1)]):EK))) r) ⟨((Sum.elim (fun (r0:Int×Int)=>(⟨[(7,.v (.one (dB false)))],[(0,.cells 132 [.yld 1]),(1,Yh),(2,.obj (.deferred (some []))),(3,.cells 33 (cE a2)),(4,.cells 25 [dI r0.1]),(5,.cells 127 (cE a4)),(6,.cells 3 [dI r0.2]),(7,.cells 33 (cE a6)),(8,J9),(9,.cells 137 [.fn 91 [(0,0),(8,0),(9,0)]])],[],12,50,[]⟩:St)) (fun (r1:Bool×Int)=>(⟨[(7,.v (.one (dB r1.1)))],[(0,.cells 132 [.yld 1]),(1,JS),(2,.obj (.deferred (some []))),(3,.cells 33 (cE a2)),(4,.cells 25 [dI a3]),(5,.cells 127 (cE a4)),(6,.cells 3 [dI r1.2]),(7,.cells 33 (cE a6)),(8,J9),(9,.cells 137 [.fn 91 [(0,0),(8,0),(9,0)]])],[],12,50,[]⟩:St))) r).hp,((Sum.elim (fun (r0:Int×Int)=>(⟨[(7,.v (.one (dB false)))],[(0,.cells 132 [.yld 1]),(1,Yh),(2,.obj (.deferred (some []))),(3,.cells 33 (cE a2)),(4,.cells 25 [dI r0.1]),(5,.cells 127 (cE a4)),(6,.cells 3 [dI r0.2]),(7,.cells 33 (cE a6)),(8,J9),(9,.cells 137 [.fn 91 [(0,0),(8,0),(9,0)]])],[],12,50,[]⟩:St)) (fun (r1:Bool×Int)=>(⟨[(7,.v (.one (dB r1.1)))],[(0,.cells 132 [.yld 1]),(1,JS),(2,.obj (.deferred (some []))),(3,.cells 33 (cE a2)),(4,.cells 25 [dI a3]),(5,.cells 127 (cE a4)),(6,.cells 3 [dI r1.2]),(7,.cells 33 (cE a6)),(8,J9),(9,.cells 137 [.fn 91 [(0,0),(8,0),(9,0)]])],[],12,50,[]⟩:St))) r).tk,((Sum.elim (fun (r0:Int×Int)=>(⟨[(7,.v (.one (dB false)))],[(0,.cells 132 [.yld 1]),(1,Yh),(2,.obj (.deferred (some []))),(3,.cells 33 (cE a2)),(4,.cells 25 [dI r0.1]),(5,.cells 127 (cE a4)),(6,.cells 3 [dI r0.2]),(7,.cells 33 (cE a6)),(8,J9),(9,.cells 137 [.fn 91 [(0,0),(8,0),(9,0)]])],[],12,50,[]⟩:St)) (fun (r1:Bool×Int)=>(⟨[(7,.v (.one (dB r1.1)))],[(0,.cells 132 [.yld 1]),(1,JS),(2,.obj (.deferred (some []))),(3,.cells 33 (cE a2)),(4,.cells 25 [dI a3]),(5,.cells 127 (cE a4)),(6,.cells 3 [dI r1.2]),(7,.cells 33 (cE a6)),(8,J9),(9,.cells 137 [.fn 91 [(0,0),(8,0),(9,0)]])],[],12,50,[]⟩:St))) r).nx⟩:=m91f3_all QU (a0,a1,a2,a3,a4,a5,a6) r h0
noncomputable abbrev m66_h0 (p0_:Int) (p1_:Int) (p2_:Int) (p3_:Int):HB :=
 .cells 127 [dI (max p0_ 0),dI (max p1_ 0),dI (max p2_ 0),dI (max p3_ 0)]
noncomputable abbrev m66_h1 (p0_:Tm) (p1_:Int) (p2_:Int) (p3_:Int) (p4_:Int):List (Nat×HB) :=
 [(0,.cells 33 (cE p0_)),(1,.cells 25 [dI 0]),(2,m66_h0 p1_ p2_ p3_ p4_),(3,.cells 3 [dI 0])]
noncomputable abbrev m66_h2 (p0_:Tm) (p1_:Int) (p2_:Int) (p3_:Int) (p4_:Int):List (Nat×HB) :=
 [(0,.cells 33 (cE p0_)),(1,.cells 25 [dI 0]),(2,m66_h0 p1_ p2_ p3_ p4_),(3,.cells 3 [dI 0]),(4,.cells 33 (cE p0_))]
noncomputable abbrev m66_h3 (p0_:Int) (p1_:Int) (p2_:Int) (p3_:Int):HB :=
 .cells 127 [dI ((⟨(max p0_ 0),(max p1_ 0),(max p2_ 0),(max p3_ 0)⟩:Scp).vars),dI ((⟨(max p0_ 0),(max p1_ 0),(max p2_ 0),(max p3_ 0)⟩:Scp).params),dI ((⟨(max p0_ 0),(max p1_ 0),(max p2_ 0),(max p3_ 0)⟩:Scp).metas),dI ((⟨(max p0_ 0),(max p1_ 0),(max p2_ 0),(max p3_ 0)⟩:Scp).levels)]
noncomputable abbrev m66_h4 :HB :=
 .loop .ready none [(5,.v (.one (.ptr 0 0))),(10,.v (.one (.ptr 1 0))),(11,.v (.one (.ptr 2 0))),(12,.v (.one (.ptr 3 0))),(26,.v (.one (.fn 89 [(4,0)])))] 45 #[27,28] ZQ Zn 5
noncomputable abbrev Xs (p0_:Tm) (p1_:Int) (p2_:Int) (p3_:Int) (p4_:Int) (p5_:Int):List (Nat×HB) :=
 [(0,.cells 33 (cE p0_)),(1,.cells 25 [dI 0]),(2,m66_h3 p1_ p2_ p3_ p4_),(3,.cells 3 [dI p5_]),(4,.cells 33 (cE p0_)),(5,.obj (.deferred (some []))),(6,m66_h4)]
noncomputable abbrev m66_h6 :HB :=
 .loop .done (some .ret) [(5,.v (.one (.ptr 0 0))),(10,.v (.one (.ptr 1 0))),(11,.v (.one (.ptr 2 0))),(12,.v (.one (.ptr 3 0))),(26,.v (.one (.fn 89 [(4,0)])))] 45 #[27,28] ZQ Zn 5
noncomputable abbrev X7 (p0_:Tm) (p1_:Int×Int) (p2_:Int) (p3_:Int) (p4_:Int) (p5_:Int):List (Nat×HB) :=
 [(0,.cells 33 (cE p0_)),(1,.cells 25 [dI p1_.1]),(2,m66_h3 p2_ p3_ p4_ p5_),(3,.cells 3 [dI p1_.2]),(4,.cells 33 (cE p0_)),(5,.obj (.deferred (some []))),(6,m66_h6)]
noncomputable abbrev m66_h8 (p0_:Tm) (p1_:Int) (p2_:Int) (p3_:Int) (p4_:Int):List (Nat×HB) :=
 [(0,.cells 33 (cE p0_)),(1,.cells 25 [dI 0]),(2,m66_h0 p1_ p2_ p3_ p4_),(3,.cells 3 [dI 0]),(4,.cells 33 (cE p0_)),(5,.obj (.deferred (some []))),(6,m66_h4),(7,.cells 132 [.yld 6])]
noncomputable abbrev m66_h9 :HB :=
 .cells 135 [dB true,dB false,dI 0,dI 0,dI (-1),dB false,dB false,dI 0,dI 0,dI (-1),dB false,dB false,dI 1,dI 0,dI (-1),dB false,dB true,dI (-1),dI 0,dI (-1),dB false,dB false,dI 0,dI 2,dI (-1),dB false,dB false,dI 0,dI 2,dI 1,dB false,dB false,dI 0,dI 2,dI 1,dB false,dB false,dI 0,dI 2,dI 1,dB false,dB false,dI 0,dI 3,dI (-1),dB false,dB false,dI 0,dI 1,dI (-1),dB false,dB false,dI 0,dI 1,dI (-1),dB false,dB false,dI 0,dI 3,dI 2,dB true,dB false,dI 0,dI 0,dI (-1)]
noncomputable abbrev m66_h10 (p0_:Tm) (p1_:Int) (p2_:Int) (p3_:Int) (p4_:Int):List (Nat×HB) :=
 [(0,.cells 33 (cE p0_)),(1,.cells 25 [dI 0]),(2,m66_h0 p1_ p2_ p3_ p4_),(3,.cells 3 [dI 0]),(4,.cells 33 (cE p0_)),(5,.obj (.deferred (some []))),(6,m66_h4),(7,.cells 132 [.yld 6]),(8,m66_h9)]
noncomputable abbrev m66_h11 (p0_:Tm) (p1_:Int) (p2_:Int) (p3_:Int) (p4_:Int) (p5_:Bool×Int):List (Nat×HB) :=
 [(0,.cells 33 (cE p0_)),(1,.cells 25 [dI 0]),(2,m66_h3 p1_ p2_ p3_ p4_),(3,.cells 3 [dI p5_.2]),(4,.cells 33 (cE p0_)),(5,.obj (.deferred (some []))),(6,m66_h4)]
def m66 (a0:Tm) (a1:Int) (a2:Int) (a3:Int) (a4:Int):Option Int :=
 Option.bind (some ()) (fun (y1:Unit)=>Option.bind (Option.bind (some ()) (fun (y7:Unit)=>Option.bind (m91f3 a0 0 a0 0 (⟨(max a1 0),(max a2 0),(max a3 0),(max a4 0)⟩:Scp) 0 a0) (Sum.elim (fun (x10:Int×Int)=>some (.inr (x10.1,x10.2))) (fun (x11:Bool×Int)=>some (.inl x11.2))))) (Sum.elim (fun (y3:Int)=>cond (decide (4096 < y3))
   (some 5)
   (Option.bind (m81 a0) fun (x13:Int) =>
 cond (decide (200 < x13))
   (some 7)
   (some 0))) (fun (y4:Int×Int)=>some y4.1)))
theorem m66_ok (a0:Tm) (a1:Int) (a2:Int) (a3:Int) (a4:Int) (r:Int) (h0:m66 a0 a1 a2 a3 a4=some r):Fun Try.prog 66 [.agg (cE a0),.one (dI a1),.one (dI a2),.one (dI a3),.one (dI a4)] (QM [.one (dI r)]):=by
 unfold m66 at h0
 refine QB 9 45 Try.func66 Z en_66 Z (lb Z) (fun S w=>?_)
 simp only [J3]
 refine Q4<|Q0<|Qb Z Z (lb Z) (QN Z)<|Qb Z Z (lb Z) (Qv z_25 Z)<|Q5<|Q3<|Q4<|Q0<|rM Z Z Z<|rR Z Z Z (KO Z Z)<|rM Z Z Z<|rR Z Z Z (KO Z Z)<|rM Z Z Z<|rR Z Z Z (KO Z Z) ?_
 refine rM Z Z Z<|rR Z Z Z (KO Z Z)<|rR Z Z Z (Y1 bd_127 Z (.cons Z (.cons Z (.cons Z (.cons Z .nil)))) Z)<|Qb Z Z (lb Z) (Qv z_127 Z)<|QC Z Z (Qz ag_127 Z Z Z Z (lb Z) Z)<|Q5<|Q3<|Q4<|Q0<|Qb Z Z (lb Z) (Qv z_3 Z)<|QC Z Z (Qz QG Z Z Z Z (lb Z) Z)<|Q5<|Q3<|Q4 ?_
 refine Q4<|Q0<|rR Z Z Z (QH (a0:Tm) QR Z Z) ?_
 refine Qd h0 (fun y1 h1 h0=>?_)
 have hc2:CallM Try.prog 74 [.agg (cE a0)] ⟨m66_h1 a0 a1 a2 a3 a4,[],4⟩ (QM [.one (.fn 89 [(4,0)])]) ⟨m66_h2 a0 a1 a2 a3 a4,[],5⟩:=by
  refine Jl ⟨[(2,.v (.one (.fn 89 [(4,0)])))],m66_h2 a0 a1 a2 a3 a4,[],5,4,[]⟩ Z Z en_74 (lb Z) Z (Qm Z .nil) (fun w0 M V0 Q hv1 hQ1=>?_)
  simp only [J3]
  refine Q4<|Q0<|Qb Z Z (lb Z) (QN Z)<|rA Z Z Z<|Q5<|Q3<|Q4<|Q0<|rR Z Z Z (K5 Z)<|rA Z Z Z<|Q5<|Q3<|Qp ?_
  have e:=sI h1;subst e
  exact hQ1 _ _ _ (.inr Z) Z (sL (Nat.le_trans hv1 (lb Z)) Z Z Z Z Z)
 refine Qb Z Z (lb Z) (Yf Z Z Z hc2 Z (hA Z) kZ)<|Q5<|Q3<|Ql<|Xg (st':=⟨[(5,.v (.one (.ptr 0 0))),(10,.v (.one (.ptr 1 0))),(11,.v (.one (.ptr 2 0))),(12,.v (.one (.ptr 3 0))),(26,.v (.one (.fn 89 [(4,0)])))],m66_h2 a0 a1 a2 a3 a4,[],5,45,[]⟩) (sL (Nat.zero_le _) Z Z Z Z Z) ?_
 refine Qd h0 (fun y6 h1 h0=>?_)
 have hc5:CallM Try.prog 89 [.one (.yld 6),.one (.ptr 4 0)] ⟨[(6,.loop .ready none [(5,.v (.one (.ptr 0 0))),(10,.v (.one (.ptr 1 0))),(11,.v (.one (.ptr 2 0))),(12,.v (.one (.ptr 3 0))),(26,.v (.one (.fn 89 [(4,0)])))] 45 #[27,28] ZQ Zn 5),(5,.obj (.deferred (some []))),(0,.cells 33 (cE a0)),(1,.cells 25 [dI 0]),(2,.cells 127 [dI (max a1 0),dI (max a2 0),dI (max a3 0),dI (max a4 0)]),(3,.cells 3 [dI 0]),(4,.cells 33 (cE a0))],[],7⟩ (QM []) ⟨(((Sum.elim (fun (y3:Int)=>(⟨[],Xs a0 a1 a2 a3 a4 y3,[],13,10,[]⟩:St)) (fun (y4:Int×Int)=>(⟨[],X7 a0 y4 a1 a2 a3 a4,[],13,10,[]⟩:St)))) y6).hp,(((Sum.elim (fun (y3:Int)=>(⟨[],Xs a0 a1 a2 a3 a4 y3,[],13,10,[]⟩:St)) (fun (y4:Int×Int)=>(⟨[],X7 a0 y4 a1 a2 a3 a4,[],13,10,[]⟩:St)))) y6).tk,(((Sum.elim (fun (y3:Int)=>(⟨[],Xs a0 a1 a2 a3 a4 y3,[],13,10,[]⟩:St)) (fun (y4:Int×Int)=>(⟨[],X7 a0 y4 a1 a2 a3 a4,[],13,10,[]⟩:St)))) y6).nx⟩:=by
  refine CallM.of_bodyS y6 ((Sum.elim (fun (y3:Int)=>(⟨[],Xs a0 a1 a2 a3 a4 y3,[],13,10,[]⟩:St)) (fun (y4:Int×Int)=>(⟨[],X7 a0 y4 a1 a2 a3 a4,[],13,10,[]⟩:St)))) rfl rfl en_89 (lb rfl) (fun z_=>by cases z_ <;> rfl) (fun z_=>.nil) (fun w0 M V0 Q hv1 hQ1=>?_)
  simp only [J3]
  refine Q4<|Q0<|Qb Z Z (lb Z) (QN Z)<|Q5<|Q3<|Q4<|Q0 ?_
  refine Qd h1 (fun y7 h2 h1=>?_)
  have hc8:CallM Try.prog 90 [] ⟨m66_h8 a0 a1 a2 a3 a4,[],8⟩ (QM [.agg [dB true,dB false,dI 0,dI 0,dI (-1),dB false,dB false,dI 0,dI 0,dI (-1),dB false,dB false,dI 1,dI 0,dI (-1),dB false,dB true,dI (-1),dI 0,dI (-1),dB false,dB false,dI 0,dI 2,dI (-1),dB false,dB false,dI 0,dI 2,dI 1,dB false,dB false,dI 0,dI 2,dI 1,dB false,dB false,dI 0,dI 2,dI 1,dB false,dB false,dI 0,dI 3,dI (-1),dB false,dB false,dI 0,dI 1,dI (-1),dB false,dB false,dI 0,dI 1,dI (-1),dB false,dB false,dI 0,dI 3,dI 2,dB true,dB false,dI 0,dI 0,dI (-1)]]) ⟨m66_h10 a0 a1 a2 a3 a4,[],9⟩:=by
   refine Jl ⟨[(0,.v (.one (.ptr 8 0)))],m66_h10 a0 a1 a2 a3 a4,[],9,15,[]⟩ Z Z en_90 (lb Z) Z (JZ UE Z Z Z Z .nil) (fun w0 M V0 Q hv2 hQ2=>?_)
   simp only [J3]
   refine Q4<|Q0<|Qb Z Z (lb Z) (Qv z_135 Z)<|Q5<|Q3<|Q4<|Q0<|rR Z Z Z (Jt Yq Z Z Z Z)<|rR Z Z Z (RO.build1 Yq Z Z Z)<|rR Z Z Z (Jt Yq Z Z Z Z)<|rR Z Z Z (ZN Yq Z Z Z Z Z)<|rR Z Z Z (Jt Yq Z Z Z Z)<|rR Z Z Z (Jt Yq Z Z Z Z)<|rR Z Z Z (Jt Yq Z Z Z Z) ?_
   refine rR Z Z Z (Jt Yq Z Z Z Z)<|rR Z Z Z (Jt Yq Z Z Z Z)<|rR Z Z Z (Jt Yq Z Z Z Z)<|rR Z Z Z (Jt Yq Z Z Z Z)<|rR Z Z Z (Jt Yq Z Z Z Z)<|rR Z Z Z (Jt Yq Z Z Z Z)<|rR Z Z Z (Y1 bd_135 Z (.cons Z (.cons Z (.cons Z (.cons Z (.cons Z (.cons Z (.cons Z (.cons Z (.cons Z (.cons Z (.cons Z (.cons Z (.cons Z .nil))))))))))))) Z)<|QC Z Z (YT UE Z Z Z Z Z Z)<|Q5<|Q3<|Qp ?_
   have e:=sI h2;subst e
   exact hQ2 _ _ _ (.inr Z) Z (sL (Nat.le_trans hv2 (lb Z)) Z Z Z Z Z)
  refine Qb Z Z (lb Z) (Yf Z Z Z hc8 Z (hA Z) kZ)<|Qb Z Z (lb Z) (Qv z_135 Z)<|QC Z Z (YT UE Z Z Z Z Z Z)<|Q5<|Q3<|Q4<|Q0<|Qb Z Z (lb Z) (Qv z_137 Z)<|Q5<|Q3<|Q4<|Q0<|rR Z Z Z (RO.makeFunc3 Z Z Z)<|QC Z Z (Qz ag_137 Z Z Z Z (lb Z) Z) ?_
  refine Q5<|Q3<|Q0<|rR Z Z Z (Q6 ag_137 Z Z Z)<|rR Z Z Z (QH (a0:Tm) QR Z Z) ?_
  refine Qd h1 (fun x9 hx9 h1=>?_)
  refine Y7 id hx9 h1 (fun x10 hx10 h1=>?_) (fun x11 hx11 h1=>?_)
  refine Qb Z Z (lb Z) (JC (hp1':=[(7,.cells 132 [.yld 6]),(6,.loop .done (some .ret) [(5,.v (.one (.ptr 0 0))),(10,.v (.one (.ptr 1 0))),(11,.v (.one (.ptr 2 0))),(12,.v (.one (.ptr 3 0))),(26,.v (.one (.fn 89 [(4,0)])))] 45 #[27,28] ZQ Zn 5),(5,.obj (.deferred (some []))),(0,.cells 33 (cE a0)),(1,.cells 25 [dI x10.1]),(2,.cells 127 [dI ((⟨(max a1 0),(max a2 0),(max a3 0),(max a4 0)⟩:Scp).vars),dI ((⟨(max a1 0),(max a2 0),(max a3 0),(max a4 0)⟩:Scp).params),dI ((⟨(max a1 0),(max a2 0),(max a3 0),(max a4 0)⟩:Scp).metas),dI ((⟨(max a1 0),(max a2 0),(max a3 0),(max a4 0)⟩:Scp).levels)]),(3,.cells 3 [dI x10.2]),(4,.cells 33 (cE a0)),(9,.cells 135 [dB true,dB false,dI 0,dI 0,dI (-1),dB false,dB false,dI 0,dI 0,dI (-1),dB false,dB false,dI 1,dI 0,dI (-1),dB false,dB true,dI (-1),dI 0,dI (-1),dB false,dB false,dI 0,dI 2,dI (-1),dB false,dB false,dI 0,dI 2,dI 1,dB false,dB false,dI 0,dI 2,dI 1,dB false,dB false,dI 0,dI 2,dI 1,dB false,dB false,dI 0,dI 3,dI (-1),dB false,dB false,dI 0,dI 1,dI (-1),dB false,dB false,dI 0,dI 1,dI (-1),dB false,dB false,dI 0,dI 3,dI 2,dB true,dB false,dI 0,dI 0,dI (-1)]),(10,.cells 137 [.fn 91 [(7,0),(9,0),(10,0)]])]) (tk1':=[]) (hpF:=[(8,m66_h9)]) (tkF:=[]) (res2:=QM [.one (dB false)]) (nx2:=13) [7,6,5,0,1,2,3,4,9,10] Z Z (CallE.m (m91f3_ok a0 0 a0 0 (⟨(max a1 0),(max a2 0),(max a3 0),(max a4 0)⟩:Scp) 0 a0 (.inl x10) hx10)) Z Z (qB Z Z (qB Z Z (qB Z Z (qB Z Z (qB Z Z (qB Z Z (qB Z Z (qB Z Z (qB Z Z (qB Z Z qZ)))))))))) Z Z (gR Z (gR Z (gR Z (gR Z (gR Z (gR Z (gR Z (gR Z (gR Z (gR Z gZ)))))))))) jZ (hA Z) kZ Z Z Z Z Z (bA Z) Z Z Z Z)<|Q5 ?_
  have e:=sI h1;subst e
  exact hQ1 _ _ _ (.inl Z) Z (show StLe _ _ ⟨[],X7 a0 x10 a1 a2 a3 a4,[],13,10,[]⟩ from (sL (Nat.le_trans hv1 (lb Z)) Z Z Z Z Z))
  refine Qb Z Z (lb Z) (JC (hp1':=[(7,.cells 132 [.yld 6]),(6,.loop .ready none [(5,.v (.one (.ptr 0 0))),(10,.v (.one (.ptr 1 0))),(11,.v (.one (.ptr 2 0))),(12,.v (.one (.ptr 3 0))),(26,.v (.one (.fn 89 [(4,0)])))] 45 #[27,28] ZQ Zn 5),(5,.obj (.deferred (some []))),(0,.cells 33 (cE a0)),(1,.cells 25 [dI 0]),(2,.cells 127 [dI ((⟨(max a1 0),(max a2 0),(max a3 0),(max a4 0)⟩:Scp).vars),dI ((⟨(max a1 0),(max a2 0),(max a3 0),(max a4 0)⟩:Scp).params),dI ((⟨(max a1 0),(max a2 0),(max a3 0),(max a4 0)⟩:Scp).metas),dI ((⟨(max a1 0),(max a2 0),(max a3 0),(max a4 0)⟩:Scp).levels)]),(3,.cells 3 [dI x11.2]),(4,.cells 33 (cE a0)),(9,.cells 135 [dB true,dB false,dI 0,dI 0,dI (-1),dB false,dB false,dI 0,dI 0,dI (-1),dB false,dB false,dI 1,dI 0,dI (-1),dB false,dB true,dI (-1),dI 0,dI (-1),dB false,dB false,dI 0,dI 2,dI (-1),dB false,dB false,dI 0,dI 2,dI 1,dB false,dB false,dI 0,dI 2,dI 1,dB false,dB false,dI 0,dI 2,dI 1,dB false,dB false,dI 0,dI 3,dI (-1),dB false,dB false,dI 0,dI 1,dI (-1),dB false,dB false,dI 0,dI 1,dI (-1),dB false,dB false,dI 0,dI 3,dI 2,dB true,dB false,dI 0,dI 0,dI (-1)]),(10,.cells 137 [.fn 91 [(7,0),(9,0),(10,0)]])]) (tk1':=[]) (hpF:=[(8,m66_h9)]) (tkF:=[]) (res2:=QM [.one (dB x11.1)]) (nx2:=13) [7,6,5,0,1,2,3,4,9,10] Z Z (CallE.m (m91f3_ok a0 0 a0 0 (⟨(max a1 0),(max a2 0),(max a3 0),(max a4 0)⟩:Scp) 0 a0 (.inr x11) hx11)) Z Z (qB Z Z (qB Z Z (qB Z Z (qB Z Z (qB Z Z (qB Z Z (qB Z Z (qB Z Z (qB Z Z (qB Z Z qZ)))))))))) Z Z (gR Z (gR Z (gR Z (gR Z (gR Z (gR Z (gR Z (gR Z (gR Z (gR Z gZ)))))))))) jZ (hA Z) kZ Z Z Z Z Z (bA Z) Z Z Z Z)<|Q5 ?_
  have e:=sI h1;subst e
  exact hQ1 _ _ _ (.inl Z) Z (show StLe _ _ ⟨[],m66_h11 a0 a1 a2 a3 a4 x11,[],13,10,[]⟩ from (sL (Nat.le_trans hv1 (lb Z)) Z Z Z Z Z))
 refine WM (C:=fun q_=>CallM Try.prog 89 [.one (.yld 6),.one (.ptr 4 0)] ⟨[(6,.loop .ready none [(5,.v (.one (.ptr 0 0))),(10,.v (.one (.ptr 1 0))),(11,.v (.one (.ptr 2 0))),(12,.v (.one (.ptr 3 0))),(26,.v (.one (.fn 89 [(4,0)])))] 45 #[27,28] ZQ Zn 5),(5,.obj (.deferred (some []))),(0,.cells 33 (cE a0)),(1,.cells 25 [dI 0]),(2,.cells 127 [dI (max a1 0),dI (max a2 0),dI (max a3 0),dI (max a4 0)]),(3,.cells 3 [dI 0]),(4,.cells 33 (cE a0))],[],7⟩ (QM []) ⟨(((Sum.elim (fun (y3:Int)=>(⟨[],Xs a0 a1 a2 a3 a4 y3,[],13,10,[]⟩:St)) (fun (y4:Int×Int)=>(⟨[],X7 a0 y4 a1 a2 a3 a4,[],13,10,[]⟩:St)))) q_).hp,(((Sum.elim (fun (y3:Int)=>(⟨[],Xs a0 a1 a2 a3 a4 y3,[],13,10,[]⟩:St)) (fun (y4:Int×Int)=>(⟨[],X7 a0 y4 a1 a2 a3 a4,[],13,10,[]⟩:St)))) q_).tk,(((Sum.elim (fun (y3:Int)=>(⟨[],Xs a0 a1 a2 a3 a4 y3,[],13,10,[]⟩:St)) (fun (y4:Int×Int)=>(⟨[],X7 a0 y4 a1 a2 a3 a4,[],13,10,[]⟩:St)))) q_).nx⟩) hc5 h0 (fun y3 hc5 h0=>?_) (fun y4 hc5 h0=>?_)
 replace hc5:CallM Try.prog 89 [.one (.yld 6),.one (.ptr 4 0)] ⟨[(6,.loop .ready none [(5,.v (.one (.ptr 0 0))),(10,.v (.one (.ptr 1 0))),(11,.v (.one (.ptr 2 0))),(12,.v (.one (.ptr 3 0))),(26,.v (.one (.fn 89 [(4,0)])))] 45 #[27,28] ZQ Zn 5),(5,.obj (.deferred (some []))),(0,.cells 33 (cE a0)),(1,.cells 25 [dI 0]),(2,.cells 127 [dI (max a1 0),dI (max a2 0),dI (max a3 0),dI (max a4 0)]),(3,.cells 3 [dI 0]),(4,.cells 33 (cE a0))],[],7⟩ (QM []) ⟨Xs a0 a1 a2 a3 a4 y3,[],13⟩:=hc5
 refine KN (YA (e:=.normal) rfl hc5 rfl rfl (by intro h;cases h) rfl) rfl ?_
 refine Qk<|Q3<|Q4<|Ql<|Q4<|Q0<|rR Z Z Z (Q6 QG Z Z Z)<|rR Z Z Z (Q8 Z Z Z)<|rA Z Z Z<|Q5<|Q3 ?_
 refine Qe (b:=(decide (4096 < y3))) Z (fun c12=>?_) (fun c12=>?_)
 replace h0:=Qf c12 h0
 refine Q4<|Q0<|QC Z Z (Qz K9 Z Z Z Z (lb Z) Z)<|Q5<|Q3<|Qp ?_
 have e:=sI h0;subst e
 exact Qn (fun _ _ h=>h) Z (Gm K9 Z Z Z .nil) (.cons (.one (.d _)) .nil)
 replace h0:=Qg c12 h0
 refine Q4<|Q0<|rR Z Z Z (QH (a0:Tm) QR Z Z) ?_
 refine Qd h0 (fun x13 hx13 h0=>?_)
 refine Qb Z Z (lb Z) (Qh (m81_ok a0 x13 hx13) Z (.cons (.agg (.cons (.d _) (.cons (.d _) (.cons (.d _) (.cons (.d _) (.cons (.d _) .nil)))))) .nil))<|rR Z Z Z (Q8 Z Z Z)<|rA Z Z Z<|Q5<|Q3 ?_
 refine Qe (b:=(decide (200 < x13))) Z (fun c14=>?_) (fun c14=>?_)
 replace h0:=Qf c14 h0
 refine Q4<|Q0<|QC Z Z (Qz K9 Z Z Z Z (lb Z) Z)<|Q5<|Q3<|Qp ?_
 have e:=sI h0;subst e
 exact Qn (fun _ _ h=>h) Z (Gm K9 Z Z Z .nil) (.cons (.one (.d _)) .nil)
 replace h0:=Qg c14 h0
 refine Qj<|Qk<|Q3<|Q4<|Q0<|QC Z Z (Qz K9 Z Z Z Z (lb Z) Z)<|Q5<|Q3<|Qp ?_
 have e:=sI h0;subst e
 exact Qn (fun _ _ h=>h) Z (Gm K9 Z Z Z .nil) (.cons (.one (.d _)) .nil)
 replace hc5:CallM Try.prog 89 [.one (.yld 6),.one (.ptr 4 0)] ⟨[(6,.loop .ready none [(5,.v (.one (.ptr 0 0))),(10,.v (.one (.ptr 1 0))),(11,.v (.one (.ptr 2 0))),(12,.v (.one (.ptr 3 0))),(26,.v (.one (.fn 89 [(4,0)])))] 45 #[27,28] ZQ Zn 5),(5,.obj (.deferred (some []))),(0,.cells 33 (cE a0)),(1,.cells 25 [dI 0]),(2,.cells 127 [dI (max a1 0),dI (max a2 0),dI (max a3 0),dI (max a4 0)]),(3,.cells 3 [dI 0]),(4,.cells 33 (cE a0))],[],7⟩ (QM []) ⟨X7 a0 y4 a1 a2 a3 a4,[],13⟩:=hc5
 refine KN (YA (e:=.ret) rfl hc5 rfl rfl (by intro h;cases h) rfl) rfl ?_
 have e:=sI h0;subst e
 exact Qn (fun _ _ h=>h) Z (Gm K9 Z Z Z .nil) (.cons (.one (.d _)) .nil)
end Go.Proofs.Ytafddfoefeploaa
namespace Go.Proofs.Ytafddfoefeploaa
open Go.RowKit Go.Shelf
theorem UZ:Y9 Try.prog 33 [(0,1),(1,1),(2,1),(3,1),(4,1)] [.int .i64 0,.int .i64 0,.string ByteArray.empty,.slice none 0 0,.slice none 0 0]:=⟨by kernel_rfl,by kernel_rfl⟩
theorem en_63:QY Try.prog 63:=enters_of Try.func63 (by kernel_rfl) rfl
theorem en_78:QY Try.prog 78:=enters_of Try.func78 (by kernel_rfl) rfl
theorem en_93:QY Try.prog 93:=enters_of Try.func93 (by kernel_rfl) rfl
theorem en_94:QY Try.prog 94:=enters_of Try.func94 (by kernel_rfl) rfl
theorem en_95:QY Try.prog 95:=enters_of Try.func95 (by kernel_rfl) rfl
theorem en_102:QY Try.prog 102:=enters_of Try.func102 (by kernel_rfl) rfl
def m94_l0 (a0:Lvl) (a1:Lvl) (s3:Int):Option (LO Int (Unit⊕Bool)) :=
 cond (decide (s3 < (a0.vs.length:Int)))
   (Option.bind (JP a0.vs s3) fun (x8:LV) =>
 Option.bind (JP a1.vs s3) fun (x9:LV) =>
 cond (!((x8.1==x9.1)&&(x8.2==x9.2)))
   (some (.done (.inr false)))
   (some (.next (Ja (s3+1)))))
   (some (.done (.inl ())))
def m94 (a0:Lvl) (a1:Lvl):Option Bool :=
 Option.bind (cond (a0.c==a1.c)
   (Option.bind (cond ((a0.vs.length:Int) != (a1.vs.length:Int))
   (some false)
   (Option.bind (QE (m94_l0 a0 a1) QU 0) (Sum.elim (fun (o6:Unit)=>some true) (fun o=>some o)))) (fun (y3:Bool)=>some y3))
   (some false)) (fun (v1:Bool)=>some v1)
theorem m94_ok (a0:Lvl) (a1:Lvl) (r:Bool) (h0:m94 a0 a1=some r):Fun Try.prog 94 [.agg (cE a0),.agg (cE a1)] (QM [.one (dB r)]):=by
 unfold m94 at h0
 refine QB 9 17 Try.func94 Z en_94 Z (lb Z) (fun S w=>?_)
 simp only [J3]
 refine Q4<|Q0<|Qb Z Z (lb Z) (QN Z)<|Qb Z Z (lb Z) (QN Z)<|rA Z Z Z<|Q5<|Q3<|Q4 ?_
 refine QD (fun (v1:Bool)=>⟨[(4,.v (.one (dB v1)))],[(0,.cells 87 (cE a0)),(1,.cells 87 (cE a1))],[],2,17,[]⟩) (fun (v1:Bool)=>(some v1)=some r) ?_ ?_
 refine Qd h0 (fun w1_ h1 h0=>?_)
 refine Q0<|rR Z Z Z (Q2 ZA Z)<|rR Z Z Z (Q6 QG Z Z Z)<|rR Z Z Z (Q2 ZA Z)<|rR Z Z Z (Q6 QG Z Z Z)<|rR Z Z Z (Q8 Z Z Z)<|rM Z Z Z ?_
 refine Qw (d:=10) (c:=(a0.c==a1.c)) Z (fun c2=>?_) (fun c2=>?_)
 replace h1:=Qf c2 h1
 refine rR Z Z Z (Q2 Yn Z)<|rR Z Z Z (Q6 Zy Z Z Z)<|rR Z Z Z (Q2 Yn Z)<|rR Z Z Z (Q6 Zy Z Z Z) ?_
 refine Qd h1 (fun y3 h2 h1=>?_)
 have hc4:CallM Try.prog 102 [.one (dS a0.vs),.one (dS a1.vs)] ⟨[(0,.cells 87 (cE a0)),(1,.cells 87 (cE a1))],[],2⟩ (QM [.one (dB y3)]) ⟨[(0,.cells 87 (cE a0)),(1,.cells 87 (cE a1))],[],2⟩:=by
  refine Jl ⟨[(4,.v (.one (dB y3)))],[(0,.cells 87 (cE a0)),(1,.cells 87 (cE a1))],[],2,26,[]⟩ Z Z en_102 (lb Z) Z (Qm Z .nil) (fun w0 M V0 Q hv2 hQ2=>?_)
  simp only [J3]
  refine Q4<|Q0<|rA Z Z Z<|Q5<|Q3<|Q4<|Q4<|Q0<|rM Z Z Z<|rR Z Z Z (Qx (α:=LV) YU Z (.d _))<|rM Z Z Z<|rR Z Z Z (Qx (α:=LV) YU Z (.d _))<|rR Z Z Z (Q8 Z Z Z)<|Q5 ?_
  refine Q3 ?_
  refine Qe (b:=((a0.vs.length:Int) != (a1.vs.length:Int))) Z (fun c5=>?_) (fun c5=>?_)
  replace h2:=Qf c5 h2
  refine Q4<|Q0<|rA Z Z Z<|Q5<|Q3<|Qp ?_
  have e:=sI h2;subst e
  exact hQ2 _ _ _ (.inr Z) Z (sL (Nat.le_trans hv2 (lb Z)) Z Z Z Z Z)
  replace h2:=Qg c5 h2
  refine Qj<|Q3<|Q4<|Q4<|Q0<|rM Z Z Z<|rR Z Z Z (Qx (α:=LV) YU Z (.d _))<|rM Z Z Z<|Q5<|Q3<|Ql ?_
  refine QQ 0 (fun (o6:Unit)=>⟨[],[(0,.cells 87 (cE a0)),(1,.cells 87 (cE a1))],[],2,26,[]⟩) (fun (o6:Unit)=>(some true)=some y3) ?_ ?_
  refine Qd h2 (fun o7 hl3 h2=>?_)
  refine QP (m94_l0 a0 a1) (fun s3=>⟨[(0,.v (.one (dS a0.vs))),(1,.v (.one (dS a1.vs))),(12,.v (.one (dI (a0.vs.length:Int)))),(13,.v (.one (dI s3)))],[(0,.cells 87 (cE a0)),(1,.cells 87 (cE a1))],[],2,26,[]⟩) 0 o7 (sL (Nat.le_trans hv2 (lb Z)) Z Z Z Z Z) hl3 (fun s3 n3 oo3 h3 ho3=>?_)
  unfold m94_l0 at h3
  refine Q4<|Q0<|rR Z Z Z (Q8 Z Z Z)<|Q5<|Q3<|Q4 ?_
  refine Qe (b:=(decide (s3 < (a0.vs.length:Int)))) Z (fun c8=>?_) (fun c8=>?_)
  replace h3:=Qf c8 h3
  refine Qj<|Q3<|Q4<|Ql<|Q4<|Q0<|rM Z Z Z<|rA Z Z Z<|Q5<|Q3<|Q4 ?_
  refine J4 [] [] JV (by kernel_rfl) (by kernel_rfl) (by kernel_rfl) ?_
  refine RunA.rd Z Z Z (Q1 (Qq Z)) Z<|RunA.rd Z Z Z (Q1 (Qq Z)) Z ?_
  refine Qd h3 (fun x9 hx9 h3=>?_)
  refine RunA.rd Z Z Z (Q1 (Qt (α:=LV) YU Z (.d _) Z hx9)) Z<|RunA.rd Z Z Z (Q1 (Qu (x9:LV) Kf Z)) Z<|RunA.rd Z Z Z (Q1 (Qq Z)) Z<|RunA.rd Z Z Z (Q1 (Qq Z)) Z ?_
  refine Qd h3 (fun x10 hx10 h3=>?_)
  refine RunA.rd Z Z Z (Q1 (Qt (α:=LV) YU Z (.d _) Z hx10)) Z<|RunA.rd Z Z Z (Q1 (Qu (x10:LV) Kf Z)) Z<|RunA.rd Z Z Z (Q1 (RO.neqPair ip_124 Z Z)) Z ?_
  refine RunA.nil ⟨?ex,_,_,Z,?_⟩
  case ex=>exact trivial
  refine Jp (st':=⟨[(0,.v (.one (dS a0.vs))),(1,.v (.one (dS a1.vs))),(12,.v (.one (dI (a0.vs.length:Int)))),(13,.v (.one (dI s3))),(24,.v (.one (dB (!((x9.1==x10.1)&&(x9.2==x10.2))))))],[(0,.cells 87 (cE a0)),(1,.cells 87 (cE a1))],[],2,26,[]⟩) (sL (Nat.le_trans hv2 (lb Z)) Z Z Z Z Z)<|Q3 ?_
  refine Qe (b:=(!((x9.1==x10.1)&&(x9.2==x10.2)))) Z (fun c11=>?_) (fun c11=>?_)
  replace h3:=Qf c11 h3
  refine Q4<|Q0<|rA Z Z Z<|Q5<|Q3<|Qp ?_
  have e:=sI h3;subst e
  have e_:_=_:=ho3
  subst e_
  try dsimp only [Sum.elim_inl,Sum.elim_inr] at h2
  have e:=sI h2;subst e
  exact hQ2 _ _ _ (.inr Z) Z (sL (Nat.le_trans hv2 (lb Z)) Z Z Z Z Z)
  replace h3:=Qg c11 h3
  refine Qj<|Qk<|Q3<|Q0<|rR Z Z Z (Q8 Z Z Z)<|rM Z Z Z<|Q5 ?_
  have e:=sI h3;subst e
  refine QJ (Ja (s3+1)) (sL (Nat.le_trans hv2 (lb Z)) Z Z Z Z Z) ho3
  replace h3:=Qg c8 h3
  refine QW<|Qr<|Qr ?_
  have e:=sI h3;subst e
  have e_:_=_:=ho3
  subst e_
  exact QO () (sL (Nat.le_trans hv2 (lb Z)) Z Z Z Z Z) h2
  intro o6 h2
  refine QF<|Q3<|Q4<|Q0<|rA Z Z Z<|Q5<|Q3<|Qp ?_
  have e:=sI h2;subst e
  exact hQ2 _ _ _ (.inr Z) Z (sL (Nat.le_trans hv2 (lb Z)) Z Z Z Z Z)
 refine Qb Z Z (lb Z) (Yf Z Z Z hc4 Z (hA Z) kZ)<|rR Z Z Z (Qc Z Z)<|rA Z Z Z<|Q5 ?_
 have e:=sI h1;subst e
 exact Q9 y3 (sL (Nat.zero_le _) Z Z Z Z Z) h0
 replace h1:=Qg c2 h1
 refine Q7 Z Z<|Q7 Z Z<|Q7 Z Z<|Q7 Z Z<|Q7 Z Z<|rR Z Z Z (Qa Z Z)<|rA Z Z Z<|Q5 ?_
 have e:=sI h1;subst e
 exact Q9 false (sL (Nat.zero_le _) Z Z Z Z Z) h0
 intro v1 h0
 refine Q3<|Qp ?_
 have e:=sI h0;subst e
 exact Qn (fun _ _ h=>h) Z (Qm Z .nil) (.cons (.one (.d _)) .nil)
def WR (a0:Tm) (a1:Tm) (s3:Int):Option (LO Int (Unit⊕Bool)) :=
 cond (decide (s3 < (a0.levels.length:Int)))
   (Option.bind (JP a0.levels s3) fun (x10:Lvl) =>
 Option.bind (JP a1.levels s3) fun (x11:Lvl) =>
 Option.bind (m94 x10 x11) fun (x12:Bool) =>
 cond (!x12)
   (some (.done (.inr false)))
   (some (.next (Ja (s3+1)))))
   (some (.done (.inl ())))
def WQ (a0:Tm) (a1:Tm) (rc:Tm×Tm→Option Bool) (s3:Int):Option (LO Int (Unit⊕Bool)) :=
 cond (decide (s3 < (a0.kids.length:Int)))
   (Option.bind (JP a0.kids s3) fun (x21:Tm) =>
 Option.bind (JP a1.kids s3) fun (x22:Tm) =>
 Option.bind (rc (x21,x22)) fun (x23:Bool) =>
 cond (!x23)
   (some (.done (.inr false)))
   (some (.next (Ja (s3+1)))))
   (some (.done (.inl ())))
def Dq (rc:Tm×Tm→Option Bool) (a0:Tm) (a1:Tm):Option Bool :=
 Option.bind (cond (a0.kind==a1.kind)
   (cond (a0.index==a1.index)
   (cond (a0.name==a1.name)
   (Option.bind (cond ((a0.levels.length:Int) != (a1.levels.length:Int))
   (some false)
   (Option.bind (QE (WR a0 a1) QU 0) (Sum.elim (fun (o8:Unit)=>some true) (fun o=>some o)))) (fun (y5:Bool)=>cond y5
   (Option.bind (cond ((a0.kids.length:Int) != (a1.kids.length:Int))
   (some false)
   (Option.bind (QE (WQ a0 a1 rc) QU 0) (Sum.elim (fun (o19:Unit)=>some true) (fun o=>some o)))) (fun (y16:Bool)=>some y16))
   (some false)))
   (some false))
   (some false))
   (some false)) (fun (v1:Bool)=>some v1)
def m78F (rc:Tm×Tm→Option Bool) (u:Tm×Tm):Option Bool:=Dq rc u.1 u.2
def m78 (a0:Tm) (a1:Tm):Option Bool:=JR m78F QU (a0,a1)
theorem m78s_ok (rc:Tm×Tm→Option Bool) (H:∀ (a0:Tm) (a1:Tm) (r:Bool),rc (a0,a1)=some r→Fun Try.prog 78 [.agg (cE a0),.agg (cE a1)] (QM [.one (dB r)])) (a0:Tm) (a1:Tm) (r:Bool) (h0:Dq rc a0 a1=some r):Fun Try.prog 78 [.agg (cE a0),.agg (cE a1)] (QM [.one (dB r)]):=by
 unfold Dq at h0
 refine QB 9 38 Try.func78 Z en_78 Z (lb Z) (fun S w=>?_)
 simp only [J3]
 refine Q4<|Q0<|Qb Z Z (lb Z) (QN Z)<|Qb Z Z (lb Z) (QN Z)<|rA Z Z Z<|Q5<|Q3<|Q4 ?_
 refine QD (fun (v1:Bool)=>⟨[(4,.v (.one (dB v1)))],[(0,.cells 33 (cE a0)),(1,.cells 33 (cE a1))],[],2,38,[]⟩) (fun (v1:Bool)=>(some v1)=some r) ?_ ?_
 refine Qd h0 (fun w1_ h1 h0=>?_)
 refine Q0<|rR Z Z Z (Q2 JF Z)<|rR Z Z Z (Q6 QG Z Z Z)<|rR Z Z Z (Q2 JF Z)<|rR Z Z Z (Q6 QG Z Z Z)<|rR Z Z Z (Q8 Z Z Z)<|rM Z Z Z ?_
 refine Qw (d:=10) (c:=(a0.kind==a1.kind)) Z (fun c2=>?_) (fun c2=>?_)
 replace h1:=Qf c2 h1
 refine rR Z Z Z (Q2 YK Z)<|rR Z Z Z (Q6 QG Z Z Z)<|rR Z Z Z (Q2 YK Z)<|rR Z Z Z (Q6 QG Z Z Z)<|rR Z Z Z (Q8 Z Z Z)<|rR Z Z Z (Qc Z Z)<|rM Z Z Z ?_
 refine Qw (d:=17) (c:=(a0.index==a1.index)) Z (fun c3=>?_) (fun c3=>?_)
 replace h1:=Qf c3 h1
 refine rR Z Z Z (Q2 Zb Z)<|rR Z Z Z (Q6 JG Z Z Z)<|rR Z Z Z (Q2 Zb Z)<|rR Z Z Z (Q6 JG Z Z Z)<|rR Z Z Z (ZG Z Z)<|rR Z Z Z (Qc Z Z)<|rM Z Z Z ?_
 refine Qw (d:=24) (c:=(a0.name==a1.name)) Z (fun c4=>?_) (fun c4=>?_)
 replace h1:=Qf c4 h1
 refine rR Z Z Z (Q2 Yy Z)<|rR Z Z Z (Q6 K4 Z Z Z)<|rR Z Z Z (Q2 Yy Z)<|rR Z Z Z (Q6 K4 Z Z Z) ?_
 refine Qd h1 (fun y5 h2 h1=>?_)
 have hc6:CallM Try.prog 93 [.one (dS a0.levels),.one (dS a1.levels),.one (.fn 94 [])] ⟨[(0,.cells 33 (cE a0)),(1,.cells 33 (cE a1))],[],2⟩ (QM [.one (dB y5)]) ⟨[(0,.cells 33 (cE a0)),(1,.cells 33 (cE a1))],[],2⟩:=by
  refine Jl ⟨[(6,.v (.one (dB y5)))],[(0,.cells 33 (cE a0)),(1,.cells 33 (cE a1))],[],2,32,[]⟩ Z Z en_93 (lb Z) Z (Qm Z .nil) (fun w0 M V0 Q hv2 hQ2=>?_)
  simp only [J3]
  refine Q4<|Q0<|rA Z Z Z<|Q5<|Q3<|Q4<|Q4<|Q0<|rM Z Z Z<|rR Z Z Z (Qx (α:=Lvl) YV Z (.d _))<|rM Z Z Z<|rR Z Z Z (Qx (α:=Lvl) YV Z (.d _))<|rR Z Z Z (Q8 Z Z Z)<|Q5 ?_
  refine Q3 ?_
  refine Qe (b:=((a0.levels.length:Int) != (a1.levels.length:Int))) Z (fun c7=>?_) (fun c7=>?_)
  replace h2:=Qf c7 h2
  refine Q4<|Q0<|rA Z Z Z<|Q5<|Q3<|Qp ?_
  have e:=sI h2;subst e
  exact hQ2 _ _ _ (.inr Z) Z (sL (Nat.le_trans hv2 (lb Z)) Z Z Z Z Z)
  replace h2:=Qg c7 h2
  refine Qj<|Q3<|Q4<|Q4<|Q0<|rM Z Z Z<|rR Z Z Z (Qx (α:=Lvl) YV Z (.d _))<|rM Z Z Z<|Q5<|Q3<|Ql ?_
  refine QQ 0 (fun (o8:Unit)=>⟨[],[(0,.cells 33 (cE a0)),(1,.cells 33 (cE a1))],[],2,32,[]⟩) (fun (o8:Unit)=>(some true)=some y5) ?_ ?_
  refine Qd h2 (fun o9 hl3 h2=>?_)
  refine QP (WR a0 a1) (fun s3=>⟨[(1,.v (.one (dS a1.levels))),(2,.v (.one (.fn 94 []))),(15,.v (.one (dS a0.levels))),(16,.v (.one (dI (a0.levels.length:Int)))),(17,.v (.one (dI s3)))],[(0,.cells 33 (cE a0)),(1,.cells 33 (cE a1))],[],2,32,[]⟩) 0 o9 (sL (Nat.le_trans hv2 (lb Z)) Z Z Z Z Z) hl3 (fun s3 n3 oo3 h3 ho3=>?_)
  unfold WR at h3
  refine Q4<|Q0<|rR Z Z Z (Q8 Z Z Z)<|Q5<|Q3<|Q4 ?_
  refine Qe (b:=(decide (s3 < (a0.levels.length:Int)))) Z (fun c10=>?_) (fun c10=>?_)
  replace h3:=Qf c10 h3
  refine Qj<|Q3<|Q4<|Ql<|Q4<|Q0<|rM Z Z Z ?_
  refine Qd h3 (fun x11 hx11 h3=>?_)
  refine rR Z Z Z (Qt (α:=Lvl) YV Z (.d _) Z hx11)<|rR Z Z Z (Qu (x11:Lvl) K8 Z)<|Qb Z Z (lb Z) (Qv Dk Z)<|rA Z Z Z<|QC Z Z (QA (x11:Lvl) K8 Z Z Z Z Z)<|Q5<|Q3<|Q4<|Q0<|rM Z Z Z<|rM Z Z Z ?_
  refine Qd h3 (fun x12 hx12 h3=>?_)
  refine rR Z Z Z (Qt (α:=Lvl) YV Z (.d _) Z hx12)<|rR Z Z Z (Qu (x12:Lvl) K8 Z)<|Qb Z Z (lb Z) (Qv Dk Z)<|QC Z Z (QA (x12:Lvl) K8 Z Z Z Z Z)<|Q5<|Q3<|Q4<|Q0<|rM Z Z Z<|rR Z Z Z (QH (x11:Lvl) K8 Z Z)<|rR Z Z Z (QH (x12:Lvl) K8 Z Z) ?_
  refine Qd h3 (fun x13 hx13 h3=>?_)
  refine Qb Z Z (lb Z) (OpOK.callFunV Z (m94_ok x11 x12 x13 hx13) Z (.cons (.agg (.cons (.d _) (.cons (.d _) .nil))) (.cons (.agg (.cons (.d _) (.cons (.d _) .nil))) .nil)))<|rR Z Z Z (Jc Z)<|Q5<|Q3 ?_
  refine Qe (b:=(!x13)) Z (fun c14=>?_) (fun c14=>?_)
  replace h3:=Qf c14 h3
  refine Q4<|Q0<|rA Z Z Z<|Q5<|Q3<|Qp ?_
  have e:=sI h3;subst e
  have e_:_=_:=ho3
  subst e_
  try dsimp only [Sum.elim_inl,Sum.elim_inr] at h2
  have e:=sI h2;subst e
  exact hQ2 _ _ _ (.inr Z) Z (sL (Nat.le_trans hv2 (lb Z)) Z Z Z Z Z)
  replace h3:=Qg c14 h3
  refine Qj<|Qk<|Q3<|Q0<|rR Z Z Z (Q8 Z Z Z)<|rM Z Z Z<|Q5 ?_
  have e:=sI h3;subst e
  refine QJ (Ja (s3+1)) (sL (Nat.le_trans hv2 (lb Z)) Z Z Z Z Z) ho3
  replace h3:=Qg c10 h3
  refine QW<|Qr<|Qr ?_
  have e:=sI h3;subst e
  have e_:_=_:=ho3
  subst e_
  exact QO () (sL (Nat.le_trans hv2 (lb Z)) Z Z Z Z Z) h2
  intro o8 h2
  refine QF<|Q3<|Q4<|Q0<|rA Z Z Z<|Q5<|Q3<|Qp ?_
  have e:=sI h2;subst e
  exact hQ2 _ _ _ (.inr Z) Z (sL (Nat.le_trans hv2 (lb Z)) Z Z Z Z Z)
 refine Qb Z Z (lb Z) (Yf Z Z Z hc6 Z (hA Z) kZ)<|rR Z Z Z (Qc Z Z)<|rM Z Z Z ?_
 refine Qw (d:=31) (c:=y5) Z (fun c15=>?_) (fun c15=>?_)
 replace h1:=Qf c15 h1
 refine rR Z Z Z (Q2 Jv Z)<|rR Z Z Z (Q6 JH Z Z Z)<|rR Z Z Z (Q2 Jv Z)<|rR Z Z Z (Q6 JH Z Z Z) ?_
 refine Qd h1 (fun y16 h2 h1=>?_)
 have hc17:CallM Try.prog 95 [.one (dS a0.kids),.one (dS a1.kids),.one (.fn 78 [])] ⟨[(0,.cells 33 (cE a0)),(1,.cells 33 (cE a1))],[],2⟩ (QM [.one (dB y16)]) ⟨[(0,.cells 33 (cE a0)),(1,.cells 33 (cE a1))],[],2⟩:=by
  refine Jl ⟨[(6,.v (.one (dB y16)))],[(0,.cells 33 (cE a0)),(1,.cells 33 (cE a1))],[],2,32,[]⟩ Z Z en_95 (lb Z) Z (Qm Z .nil) (fun w0 M V0 Q hv2 hQ2=>?_)
  simp only [J3]
  refine Q4<|Q0<|rA Z Z Z<|Q5<|Q3<|Q4<|Q4<|Q0<|rM Z Z Z<|rR Z Z Z (Qx (α:=Tm) Jk Z (.d _))<|rM Z Z Z<|rR Z Z Z (Qx (α:=Tm) Jk Z (.d _))<|rR Z Z Z (Q8 Z Z Z)<|Q5 ?_
  refine Q3 ?_
  refine Qe (b:=((a0.kids.length:Int) != (a1.kids.length:Int))) Z (fun c18=>?_) (fun c18=>?_)
  replace h2:=Qf c18 h2
  refine Q4<|Q0<|rA Z Z Z<|Q5<|Q3<|Qp ?_
  have e:=sI h2;subst e
  exact hQ2 _ _ _ (.inr Z) Z (sL (Nat.le_trans hv2 (lb Z)) Z Z Z Z Z)
  replace h2:=Qg c18 h2
  refine Qj<|Q3<|Q4<|Q4<|Q0<|rM Z Z Z<|rR Z Z Z (Qx (α:=Tm) Jk Z (.d _))<|rM Z Z Z<|Q5<|Q3<|Ql ?_
  refine QQ 0 (fun (o19:Unit)=>⟨[],[(0,.cells 33 (cE a0)),(1,.cells 33 (cE a1))],[],2,32,[]⟩) (fun (o19:Unit)=>(some true)=some y16) ?_ ?_
  refine Qd h2 (fun o20 hl3 h2=>?_)
  refine QP (WQ a0 a1 rc) (fun s3=>⟨[(1,.v (.one (dS a1.kids))),(2,.v (.one (.fn 78 []))),(15,.v (.one (dS a0.kids))),(16,.v (.one (dI (a0.kids.length:Int)))),(17,.v (.one (dI s3)))],[(0,.cells 33 (cE a0)),(1,.cells 33 (cE a1))],[],2,32,[]⟩) 0 o20 (sL (Nat.le_trans hv2 (lb Z)) Z Z Z Z Z) hl3 (fun s3 n3 oo3 h3 ho3=>?_)
  unfold WQ at h3
  refine Q4<|Q0<|rR Z Z Z (Q8 Z Z Z)<|Q5<|Q3<|Q4 ?_
  refine Qe (b:=(decide (s3 < (a0.kids.length:Int)))) Z (fun c21=>?_) (fun c21=>?_)
  replace h3:=Qf c21 h3
  refine Qj<|Q3<|Q4<|Ql<|Q4<|Q0<|rM Z Z Z ?_
  refine Qd h3 (fun x22 hx22 h3=>?_)
  refine rR Z Z Z (Qt (α:=Tm) Jk Z (.d _) Z hx22)<|rR Z Z Z (Qu (x22:Tm) QR Z)<|Qb Z Z (lb Z) (Qv G1 Z)<|rA Z Z Z<|QC Z Z (QA (x22:Tm) QR Z Z Z Z Z)<|Q5<|Q3<|Q4<|Q0<|rM Z Z Z<|rM Z Z Z ?_
  refine Qd h3 (fun x23 hx23 h3=>?_)
  refine rR Z Z Z (Qt (α:=Tm) Jk Z (.d _) Z hx23)<|rR Z Z Z (Qu (x23:Tm) QR Z)<|Qb Z Z (lb Z) (Qv G1 Z)<|QC Z Z (QA (x23:Tm) QR Z Z Z Z Z)<|Q5<|Q3<|Q4<|Q0<|rM Z Z Z<|rR Z Z Z (QH (x22:Tm) QR Z Z)<|rR Z Z Z (QH (x23:Tm) QR Z Z) ?_
  refine Qd h3 (fun x24 hx24 h3=>?_)
  refine Qb Z Z (lb Z) (OpOK.callFunV Z (H x22 x23 x24 hx24) Z (.cons (.agg (.cons (.d _) (.cons (.d _) (.cons (.d _) (.cons (.d _) (.cons (.d _) .nil)))))) (.cons (.agg (.cons (.d _) (.cons (.d _) (.cons (.d _) (.cons (.d _) (.cons (.d _) .nil)))))) .nil)))<|rR Z Z Z (Jc Z)<|Q5<|Q3 ?_
  refine Qe (b:=(!x24)) Z (fun c25=>?_) (fun c25=>?_)
  replace h3:=Qf c25 h3
  refine Q4<|Q0<|rA Z Z Z<|Q5<|Q3<|Qp ?_
  have e:=sI h3;subst e
  have e_:_=_:=ho3
  subst e_
  try dsimp only [Sum.elim_inl,Sum.elim_inr] at h2
  have e:=sI h2;subst e
  exact hQ2 _ _ _ (.inr Z) Z (sL (Nat.le_trans hv2 (lb Z)) Z Z Z Z Z)
  replace h3:=Qg c25 h3
  refine Qj<|Qk<|Q3<|Q0<|rR Z Z Z (Q8 Z Z Z)<|rM Z Z Z<|Q5 ?_
  have e:=sI h3;subst e
  refine QJ (Ja (s3+1)) (sL (Nat.le_trans hv2 (lb Z)) Z Z Z Z Z) ho3
  replace h3:=Qg c21 h3
  refine QW<|Qr<|Qr ?_
  have e:=sI h3;subst e
  have e_:_=_:=ho3
  subst e_
  exact QO () (sL (Nat.le_trans hv2 (lb Z)) Z Z Z Z Z) h2
  intro o19 h2
  refine QF<|Q3<|Q4<|Q0<|rA Z Z Z<|Q5<|Q3<|Qp ?_
  have e:=sI h2;subst e
  exact hQ2 _ _ _ (.inr Z) Z (sL (Nat.le_trans hv2 (lb Z)) Z Z Z Z Z)
 refine Qb Z Z (lb Z) (Yf Z Z Z hc17 Z (hA Z) kZ)<|rR Z Z Z (Qc Z Z)<|rA Z Z Z<|Q5 ?_
 have e:=sI h1;subst e
 exact Q9 y16 (sL (Nat.zero_le _) Z Z Z Z Z) h0
 replace h1:=Qg c15 h1
 refine Q7 Z Z<|Q7 Z Z<|Q7 Z Z<|Q7 Z Z<|Q7 Z Z<|rR Z Z Z (Qa Z Z)<|rA Z Z Z<|Q5 ?_
 have e:=sI h1;subst e
 exact Q9 false (sL (Nat.zero_le _) Z Z Z Z Z) h0
 replace h1:=Qg c4 h1
 refine Q7 Z Z<|Q7 Z Z<|Q7 Z Z<|Q7 Z Z<|Q7 Z Z<|rR Z Z Z (Qa Z Z)<|rM Z Z Z<|Q7 Z Z<|Q7 Z Z<|Q7 Z Z<|Q7 Z Z<|Q7 Z Z<|rR Z Z Z (Qa Z Z)<|rA Z Z Z ?_
 refine Q5 ?_
 have e:=sI h1;subst e
 exact Q9 false (sL (Nat.zero_le _) Z Z Z Z Z) h0
 replace h1:=Qg c3 h1
 refine Q7 Z Z<|Q7 Z Z<|Q7 Z Z<|Q7 Z Z<|Q7 Z Z<|rR Z Z Z (Qa Z Z)<|rM Z Z Z<|Q7 Z Z<|Q7 Z Z<|Q7 Z Z<|Q7 Z Z<|Q7 Z Z<|rR Z Z Z (Qa Z Z)<|rM Z Z Z ?_
 refine Q7 Z Z<|Q7 Z Z<|Q7 Z Z<|Q7 Z Z<|Q7 Z Z<|rR Z Z Z (Qa Z Z)<|rA Z Z Z<|Q5 ?_
 have e:=sI h1;subst e
 exact Q9 false (sL (Nat.zero_le _) Z Z Z Z Z) h0
 replace h1:=Qg c2 h1
 refine Q7 Z Z<|Q7 Z Z<|Q7 Z Z<|Q7 Z Z<|Q7 Z Z<|rR Z Z Z (Qa Z Z)<|rM Z Z Z<|Q7 Z Z<|Q7 Z Z<|Q7 Z Z<|Q7 Z Z<|Q7 Z Z<|rR Z Z Z (Qa Z Z)<|rM Z Z Z ?_
 refine Q7 Z Z<|Q7 Z Z<|Q7 Z Z<|Q7 Z Z<|Q7 Z Z<|rR Z Z Z (Qa Z Z)<|rM Z Z Z<|Q7 Z Z<|Q7 Z Z<|Q7 Z Z<|Q7 Z Z<|Q7 Z Z<|rR Z Z Z (Qa Z Z)<|rA Z Z Z ?_
 refine Q5 ?_
 have e:=sI h1;subst e
 exact Q9 false (sL (Nat.zero_le _) Z Z Z Z Z) h0
 intro v1 h0
 refine Q3<|Qp ?_
 have e:=sI h0;subst e
 exact Qn (fun _ _ h=>h) Z (Qm Z .nil) (.cons (.one (.d _)) .nil)
theorem m78_all (n:Nat) (u:Tm×Tm) (r:Bool) (h0:JR m78F n u=some r):Fun Try.prog 78 [.agg (cE u.1),.agg (cE u.2)] (QM [.one (dB r)]) :=
 YN (C:=fun u r=>Fun Try.prog 78 [.agg (cE u.1),.agg (cE u.2)] (QM [.one (dB r)])) (fun rc H u r h=>m78s_ok rc (fun a0 a1 r h=>H (a0,a1) r h) u.1 u.2 r h) n u r h0
theorem m78_ok (a0:Tm) (a1:Tm) (r:Bool) (h0:m78 a0 a1=some r):Fun Try.prog 78 [.agg (cE a0),.agg (cE a1)] (QM [.one (dB r)]):=m78_all QU (a0,a1) r h0
def DE (a0:Tm):Option Bool :=
 Option.bind (m78 a0 (Tm.mk 0 0 ([]:List UInt8) ([]:List Lvl) ([]:List Tm))) fun (x1:Bool) =>
 some x1
theorem Uj (a0:Tm) (r:Bool) (h0:DE a0=some r):Fun Try.prog 63 [.agg (cE a0)] (QM [.one (dB r)]):=by
 unfold DE at h0
 refine QB 9 6 Try.func63 Z en_63 Z (lb Z) (fun S w=>?_)
 simp only [J3]
 refine Q4<|Q0<|Qb Z Z (lb Z) (QN Z)<|rA Z Z Z<|Q5<|Q3<|Q4<|Q0<|rR Z Z Z (QH (a0:Tm) QR Z Z)<|rR Z Z Z (Zi UZ Z ) ?_
 refine Qd h0 (fun x1 hx1 h0=>?_)
 refine Qb Z Z (lb Z) (Qh (m78_ok a0 (Tm.mk 0 0 ([]:List UInt8) ([]:List Lvl) ([]:List Tm)) x1 hx1) Z (.cons (.agg (.cons (.d _) (.cons (.d _) (.cons (.d _) (.cons (.d _) (.cons (.d _) .nil)))))) (.cons (.agg (.cons (.d _) (.cons (.d _) (.cons (.d _) (.cons (.nil _) (.cons (.nil _) .nil)))))) .nil)))<|rA Z Z Z<|Q5<|Q3<|Qp ?_
 have e:=sI h0;subst e
 exact Qn (fun _ _ h=>h) Z (Qm Z .nil) (.cons (.one (.d _)) .nil)
end Go.Proofs.Ytafddfoefeploaa
namespace Go.Proofs.Ytafddfoefeploaa
open Go.RowKit Go.Shelf
theorem wrong_st:tyStruct Try.prog 90=true:=by kernel_rfl
theorem und20:Try.prog.underlying 20=some (.interface #[]):=by kernel_rfl
theorem und90:JI Try.prog 90=some (true,1):=by kernel_rfl
theorem z90:JQ Try.prog 90=some [.int .i64 0]:=by kernel_rfl
theorem eq_nil (w:World):(Op.equal 20 .nilIface .nilIface).run Try.prog w=.ok true w:=by
 unfold Op.equal
 rw [show Op.maxDepth=(Op.maxDepth - 1)+1 from rfl]
 unfold Op.equalIn
 simp [run_underlying und20]
theorem eq_some (T:TypeId) (v:Value) (w:World):(Op.equal 20 (.iface T v) .nilIface).run Try.prog w=.ok false w:=by
 unfold Op.equal
 rw [show Op.maxDepth=(Op.maxDepth - 1)+1 from rfl]
 unfold Op.equalIn
 simp [run_underlying und20]
theorem catch_idle (n:Nat) (p:Addr) (w:World):CallsDIn Fence.wide n Try.prog 43 #[.pointer (some p)] .returning w fun e u' w'=>(∃ v,e=.returned v)∧u'=.returning∧w'=w:=by
 refine callsDIn_of_wpSIn Try.func43 Z trivial fun c₀ cs hu=>?_
 apply wpSIn_seq
 apply wpSIn_region
 simp [wpOpsSIn,go_sem,recoverD,hu,Exit.thenS,Try.f43]
 apply wpSIn_seq
 apply wpSIn_region
 simp [wpOpsSIn,go_sem,Exit.thenS,eqGuard,binOp,eq_nil]
 refine wpSIn_cond (t:=false) (by simp [Act.eval]) ?_
 simp only [Bool.false_eq_true,if_false]
 refine wpSIn_of_wpIn Z (wpIn_skip ?_)
 cases c₀
 simp_all [bodyPostS,results,Try.f43]
theorem ta_run (v:Value) (w:World):(Instr.typeAssert (.iface 90 v) 20 90 true).run Try.prog w=.ok (.tuple #[v,.bool true]) w:=by
 have h:=wrong_st
 unfold tyStruct at h
 split at h
 ·rename_i fs hu
  unfold Instr.typeAssert
  simp [run_underlying hu]
 ·cases h
theorem al_run (w:World):(Instr.alloc 90 true (.tuple #[])).run Try.prog w=.ok (.pointer (some ⟨w.heap.size,0,none⟩)) (w.alloc (.cells #[.int .i64 0] 90)):=by
 obtain ⟨z,hz1,hz2⟩:=Kl z90
 simp [Instr.alloc,hz1,newVar,newRow,hz2]
theorem st_run {t:TypeId} {ag:Bool} (ht:JI Try.prog t=some (ag,1)) {p:Addr} {v x y:Value} {w:World} (hv:v.cells=#[x]) (hx:x.oneCell'=true) (hc:w.cell? p=some y) (hz:w.frozen? p=false):(Instr.storeAt t (.pointer (some p)) v).run Try.prog w=.ok () (w.setCell p x):=by
 obtain ⟨-,hs⟩:=G2 ht w
 simp only [Instr.storeAt,Instr.sureAddr,storeVar,Sem.run_bind,Sem.run_pure,Result.andThen_ok,hs,hv]
 have h1:(Go.store (p.add 0) x).run Try.prog w=.ok () (w.setCell p x):=by
  have:p.add 0=p:=by unfold Addr.add;simp
  rw [this,run_store _ _ _ _ _ hx,hc]
  simp [hz]
 simp [storeCells,h1]
theorem ag25:JI Try.prog 25=some (false,1):=by kernel_rfl
theorem fo90:J1 Try.prog 90 0=some 0:=by kernel_rfl
theorem catch_caught (n:Nat) (p:Addr) (x:Int) (y:Value) (w:World) (hc:w.cell? p=some y) (hz:w.frozen? p=false):CallsDIn Fence.wide n Try.prog 43 #[.pointer (some p)] (.panicking (JE (QT 90 x))) w fun e u' w' =>
  (∃ v,e=.returned v)∧u'=.panicking [{ v:=QT 90 x,recovered:=true }]∧∃ w1,ExtM (fun _=>False) w w1∧w'=w1.setCell p (.int .i64 x):=by
 have hb:p.block < w.heap.size:=by
  rcases Nat.lt_or_ge p.block w.heap.size with h | h
  ·exact h
  ·unfold World.cell? at hc
   rw [Array.getElem?_eq_none h] at hc
   split at hc <;> simp_all
 obtain ⟨W1,hW1⟩:∃ W1,(w.alloc (.cells #[.int .i64 0] 90)).setCell ⟨w.heap.size,0,none⟩ (.int .i64 x)=W1:=⟨_,rfl⟩
 have hx1:ExtM (fun _=>False) w W1:=by
  subst hW1
  refine ⟨rfl,rfl,rfl,by simp [World.setCell],fun k hk _=>?_⟩
  rw [Below.heap_setCell _ _ _ _ (by simp;omega)]
  exact Below.heap_alloc w _ k hk
 have hcell:W1.cell? p=some y:=by rw [World.cell?_of_block (hx1.block p.block hb (fun h=>h))];exact hc
 have hfz:W1.frozen? p=false:=by
  have:=hx1.block p.block hb (fun h=>h)
  unfold World.frozen? at hz ⊢
  rw [this];exact hz
 have hnew:W1.cell? ⟨w.heap.size,0,none⟩=some (.int .i64 x):=by subst hW1;simp [go_sem]
 refine callsDIn_of_wpSIn Try.func43 Z trivial fun c₀ cs hu=>?_
 apply wpSIn_seq
 apply wpSIn_region
 simp [wpOpsSIn,go_sem,recoverD,hu,Exit.thenS,Try.f43]
 apply wpSIn_seq
 apply wpSIn_region
 simp [wpOpsSIn,go_sem,Exit.thenS,eqGuard,binOp,eq_some,QT]
 refine wpSIn_cond (t:=true) (by simp [Act.eval]) ?_
 simp only [if_true]
 have hst:=st_run und90 (p:=⟨w.heap.size,0,none⟩) (v:=.agg #[.int .i64 x]) (x:=.int .i64 x) (y:=.int .i64 0) (w:=w.alloc (.cells #[.int .i64 0] 90)) rfl rfl (by simp [go_sem]) (by simp [go_sem])
 rw [hW1] at hst
 have hld:=run_loadOne (P:=Try.prog) (w:=W1) (b:=w.heap.size) (o:=0) ag25 hnew
 have hfa:=run_fieldAt (P:=Try.prog) (b:=w.heap.size) (o:=0) fo90 W1
 have hst2:=st_run ag25 (p:=p) (v:=.int .i64 x) (x:=.int .i64 x) rfl rfl hcell hfz
 apply wpSIn_seq
 apply wpSIn_region
 simp [wpOpsSIn,List.range,List.range.loop,execOp,Act.eval,Act.put,Region.wanted,ta_run,al_run,hst,Exit.thenS,Oper.about,Instr.extract,hu,recoverD]
 apply wpSIn_seq
 apply wpSIn_seq
 apply wpSIn_region
 simp [wpOpsSIn,List.range,List.range.loop,execOp,Act.eval,Act.put,Region.wanted,Exit.thenS,Oper.about,Op.unary]
 refine wpSIn_cond (t:=false) (by simp [Act.eval]) ?_
 simp only [Bool.false_eq_true,if_false]
 refine wpSIn_of_wpIn Z (wpIn_skip ?_)
 simp only [Exit.thenS]
 apply wpSIn_region
 simp [wpOpsSIn,List.range,List.range.loop,execOp,Act.eval,Act.put,Region.wanted,Exit.thenS,Oper.about,hfa,hld,hst2]
 cases c₀
 simp_all [bodyPostS,results,Try.f43]
 exact ⟨W1,hx1,Z⟩
theorem catch_ok:Catch Try.prog 43 90:=⟨enters_of Try.func43 (by kernel_rfl) rfl,catch_idle,catch_caught⟩
end Go.Proofs.Ytafddfoefeploaa
