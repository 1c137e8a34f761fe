/- Part 3 of the proof: rules, mirrors and plain laws. The card of TextSpaces is proved here: for every string and every byte the law returns true, and the arguments read behind the call as they did before; condition: the listed package-level variables hold what the text of the program lays (tied). -/
import Derived.Test.YtjcfppnjamjjhaaGreatDoorK72
import Derived.Test.YtjcfppnjamjjhaaGreatDoorProg
set_option maxHeartbeats 2000000
set_option maxRecDepth 100000
set_option linter.unusedSimpArgs false
set_option linter.unusedVariables false
set_option linter.unusedSectionVars false
namespace Go.Proofs.YtjcfppnjamjjhaaGreatDoor
noncomputable section
open Go.RowKit
section
variable {U:Univ}
structure Sfx (a b:TSt U):Prop where
 tm:∃ p,b.tm=p++a.tm
 es:∃ p,b.m.es=p++a.m.es
 tk:∃ p,b.m.tk=p++a.m.tk
 nx:a.m.nx≤b.m.nx
 nt:b.nt=a.nt
 df:a.df=[]∨b.df=a.df
theorem Sfx.refl (a:TSt U):Sfx a a:=⟨⟨[],rfl⟩,⟨[],rfl⟩,⟨[],rfl⟩,Ck _,rfl,.inr rfl⟩
theorem Sfx.trans {a b c:TSt U} (h:Sfx a b) (k:Sfx b c):Sfx a c:=by
 obtain ⟨⟨p1,e1⟩,⟨p2,e2⟩,⟨p3,e3⟩,h4,h5,h6⟩:=h
 obtain ⟨⟨q1,f1⟩,⟨q2,f2⟩,⟨q3,f3⟩,k4,k5,Qqc⟩:=k
 exact ⟨⟨q1++p1,by rw [f1,e1,CB]⟩,⟨q2++p2,by rw [f2,e2,CB]⟩,⟨q3++p3,by rw [f3,e3,CB]⟩,Ca h4 k4,k5.trans h5,by
  rcases h6 with h | h
  ·exact .inl h
  ·rcases Qqc with k | k
   ·exact .inl (h.symm.trans k)
   ·exact .inr (k.trans h)⟩
theorem Sfx.put (st:TSt U) (dst:Option Nat) (x:TTV U):Sfx st ⟨WS dst x st.tm,st.m,st.nt,st.df⟩:=by
 refine ⟨?_,⟨[],Z⟩,⟨[],Z⟩,Ck _,Z,.inr Z⟩
 cases dst with
 | none=>exact ⟨[],rfl⟩
 | some d=>exact ⟨[(d,x)],rfl⟩
theorem Sfx.next (st:TSt U) (dst:Option Nat) (r:OR U) (h:st.m.nx≤r.nx):Sfx st (Q68 st dst r):=by
 refine ⟨?_,⟨r.es,Z⟩,?_,h,Z,.inr Z⟩
 ·cases dst with
  | none=>exact ⟨[],rfl⟩
  | some d=>exact ⟨[(d,r.x)],rfl⟩
 ·show ∃ p,YX r.tk st.m.tk=p++st.m.tk
  cases r.tk with
  | none=>exact ⟨[],rfl⟩
  | some q=>exact ⟨[q],rfl⟩
inductive CalT where
 | fn (f:FuncId)
 | yld (L:Nat)
 | dfr (f:FuncId) (u:Option Value)
structure CO (U:Univ) where
 run:{β:Type}→(TTV U→TMe U→Option β)→(Value→TMe U→Option β)→Option β
abbrev Qr1 (U:Univ):=Nat→List (TAV U)→TMe U→Option (CO U)
abbrev Qr2 (U:Univ):=Qr1 U→CalT→List (TAV U)→TMe U→Option (CO U)
inductive OutT (U:Univ) where
 | val (x:TTV U) (m:TMe U)
 | die (v:Value) (m:TMe U)
def OutT.m:OutT U→TMe U
 | .val _ m=>m
 | .die _ m=>m
def OutT.to {β:Type} (k:TTV U→TMe U→Option β) (d:Value→TMe U→Option β):OutT U→Option β
 | .val x m=>k x m
 | .die v m=>d v m
def OutT.er (D:Codec U):OutT U→OutM
 | .val x m=>.val (x.er D m.tk) (m.er D)
 | .die v m=>.die v (m.er D)
structure SfM (m m':TMe U):Prop where
 es:∃ p,m'.es=p++m.es
 tk:∃ p,m'.tk=p++m.tk
 nx:m.nx≤m'.nx
theorem SfM.refl (m:TMe U):SfM m m:=⟨⟨[],rfl⟩,⟨[],rfl⟩,Ck _⟩
theorem SfM.trans {a b c:TMe U} (h:SfM a b) (k:SfM b c):SfM a c:=by
 obtain ⟨⟨p2,e2⟩,⟨p3,e3⟩,h4⟩:=h
 obtain ⟨⟨q2,f2⟩,⟨q3,f3⟩,k4⟩:=k
 exact ⟨⟨q2++p2,by rw [f2,e2,CB]⟩,⟨q3++p3,by rw [f3,e3,CB]⟩,Ca h4 k4⟩
theorem Sfx.sfm {a b:TSt U} (h:Sfx a b):SfM a.m b.m:=⟨h.es,h.tk,h.nx⟩
def Qmf (E:Env) (o:Oper) (st:St):OutM→Prop
 | .val x m=>OpOK E o st x m
 | .die v m=>OpD E o st v m
def Qee (m:TMe U) (xo:CO U) (S:OutT U→Prop):Prop:=∀ ⦃β:Type⦄ (k:TTV U→TMe U→Option β) (d:Value→TMe U→Option β) (r:β),xo.run k d=some r→∃ o,S o∧SfM m o.m∧o.to k d=some r
def Qh7 (W:Wd) (D:Codec U) (P:Program) (L:Nat) (args:List (TAV U)) (m:TMe U) (o:OutT U):Prop:=∀ (E:Env) (st:St) (dd:Option Nat) (ty:TypeId) (pos:String) (af:Array Edge) (g:Option (Nat×Bool)) (x:Operand) (ars:Array Operand) (ats:Array TypeId),E.P=P→W.p E.V0.S E.w0 →
 ev st.tm x=some (.v (.one (.yld L)))→Yz st.tm ars.toList=some (args.map (TAV.er D m.tk))→st.mem=m.er D→Qmf E ⟨dd,.call { callee:=.value x,args:=ars,argTypes:=ats },ty,pos,af,g⟩ st (o.er D)
def Zi (is:List Nat):List (TAV U):=is.map fun i=>.one (.ptr i 0)
def Qco (W:Wd) (D:Codec U) (P:Program) (c:CalT) (args:List (TAV U)) (m:TMe U) (o:OutT U):Prop:=match c with
 | .fn f=>CallO W P f (args.map (TAV.er D m.tk)) (m.er D) (o.er D)
 | .yld L=>Qh7 W D P L args m o
 | .dfr f u=>∃ is rc m2,args=Zi is∧o=.val (Qpv rc) m2∧DefM W P f is u (m.er D) (m2.er D) rc
def YOK (W:Wd) (D:Codec U) (P:Program) (Y:Qr1 U) (m0:TMe U):Prop:=∀ L args m xo,SfM m0 m→Y L args m=some xo→Qee m xo (Qh7 W D P L args m)
theorem YOK.mono {W:Wd} {D:Codec U} {P:Program} {Y:Qr1 U} {m m':TMe U} (h:YOK W D P Y m) (k:SfM m m'):YOK W D P Y m':=fun L args m2 xo hm hx=>h L args m2 xo (k.trans hm) hx
def WO (W:Wd) (D:Codec U) (P:Program) (X:Qr2 U):Prop:=∀ Y c args m xo,YOK W D P Y m→X Y c args m=some xo→Qee m xo (Qco W D P c args m)
def Wq (tk' tk:List (Nat×TTok U)):List (Nat×Nat):=(tk'.take (tk'.length - tk.length)).map fun p=>(p.1,p.2.ver)
def Z0 (ap:List (Nat×Nat)) (tm:List (Nat×TTV U)):Bool:=ap.all fun p=>!(tm.any fun q=>q.2.hasApp p.1 p.2)
def Q7d (caps:List (Nat×Nat)):List (TAV U):=caps.map fun p=>.one (.ptr p.1 p.2)
def Qh0 (X:Qr2 U) (Y:Qr1 U) (st:TSt U) (o:Oper):Option (CO U):=match o.op with
 | .call { callee:=.value x,args:=os,argTypes:=_ }=>match YD st.tm x with
  | some (.v (.one (.fn f caps)))=>match Q1o st.tm os.toList with
   | some vs=>X Y (.fn f) (vs++Q7d caps) st.m
   | none=>none
  | some (.v (.one (.raw (.yld L))))=>match Q1o st.tm os.toList with
   | some vs=>Y L vs st.m
   | none=>none
  | _=>none
 | _=>none
def Ql8 (st:TSt U) (o:Oper):Option Value:=match o.op with
 | .panic x=>match YD st.tm x with
  | some (.v (.one (.c (.v (.iface T v)))))=>some (.iface T v)
  | _=>none
 | _=>none
def Qc7:List (Nat×Nat)→Option (List Nat)
  | []=>some []
  | (i,k)::r=>cond (Nat.beq k 0) (match Qc7 r with
    | some l=>some (i::l)
    | none=>none) none
def Qon (st:TSt U) (o:Oper):Option (List Nat):=match o with
 | ⟨none,.defer { callee:=.value x,args:=os,argTypes:=_ },_,_,_,none⟩=>match os.toList,YD st.tm x with
  | [],some (.v (.one (.fn f caps)))=>match Qc7 caps with
   | some is=>some (f::is)
   | none=>none
  | _,_=>none
 | _=>none
variable (D:Codec U) (C:TCfg U) (K:FuncId→List (TAV U)→Option (KR U)) (X:Qr2 U) (Y:Qr1 U) (rn:Option Nat)
def Q5t {β:Type} (o:Oper) (st:TSt U) (p:Value→TSt U→Option β) (k:TSt U→Option β):Option β :=
 match Ql3 D C st o with
 | some r=>cond (JM st o.dst) (r.run fun x=>k ⟨WS o.dst x st.tm,st.m,st.nt,st.df⟩) none
 | none=>match Qnj D C K st o with
  | some e=>e.run fun q=>cond (Q3e st (q.es++st.m.es) q.tk&&JM st o.dst&&Nat.ble st.m.nx q.nx) (k (Q68 st o.dst q)) none
  | none=>match Qh0 X Y st o with
   | some xo=>cond (JM st o.dst) (xo.run (fun x m=>cond (Z0 (Wq m.tk st.m.tk) st.tm) (k ⟨WS o.dst x st.tm,m,st.nt,st.df⟩) none) fun v m=>cond (Z0 (Wq m.tk st.m.tk) st.tm) (p v ⟨st.tm,m,st.nt,st.df⟩) none) none
   | none=>match Ql8 st o with
    | some v=>p v st
    | none=>match rn,st.df,Qon st o with
     | none,[],some df=>k ⟨st.tm,st.m,st.nt,df⟩
     | _,_,_=>none
def Ka (o:Oper) (st:TSt U):TSt U:=⟨WS o.dst (.tup []) st.tm,st.m,st.nt,st.df⟩
def setB (st:TSt U) (d:Nat) (b:Bool):TSt U:=⟨(d,Qpv b)::st.tm,st.m,st.nt,st.df⟩
def Q1z {β:Type} (ops:Array Oper) (p:Value→TSt U→Option β):List Oper→TSt U→(TSt U→Option β)→Option β
 | [],st,k=>k st
 | o::os,st,k=>match o.guard with
  | none=>Q5t D C K X Y rn o st p fun s=>Q1z ops p os s k
  | some (j,b)=>match (ops[j]?).bind (·.dst) with
   | none=>none
   | some d=>match Qq8 st.tm d with
    | some (.v (.one (.c (.v (.bool c)))))=>cond c
     (cond b (Q5t D C K X Y rn o (setB st d true) p fun s=>Q1z ops p os s k) (Q1z ops p os (Ka o (setB st d true)) k))
     (cond b (Q1z ops p os (Ka o (setB st d false)) k) (Q5t D C K X Y rn o (setB st d false) p fun s=>Q1z ops p os s k))
    | some (.tup [])=>Q1z ops p os (Ka o st) k
    | _=>none
variable {D C K X Y rn}
theorem cur_front {p tk:List (Nat×TTok U)} {j u:Nat} (h:(j,u)∉p.map fun q=>(q.1,q.2.ver)):cur (p++tk) j u=none∨cur (p++tk) j u=cur tk j u:=by
 induction p with
 | nil=>exact .inr rfl
 | cons q p ih =>
  obtain ⟨i,T⟩:=q
  rw [CF,Cq] at h
  show cur ((i,T)::(p++tk)) j u=none∨cur ((i,T)::(p++tk)) j u=_
  rw [Zn]
  by_cases e:i=j
  ·rw [Cd e]
   by_cases e2:T.ver=u
   ·exact (h (.inl (by rw [e,e2]))).elim
   ·rw [C5 e2];exact .inl rfl
  ·rw [C5 e];exact ih fun hm=>h (.inr hm)
theorem GT {D:Codec U} {tm:List (Nat×TTV U)} {tk tk':List (Nat×TTok U)} (hf:Z0 (Wq tk' tk) tm=true) (hc:∃ p,tk'=p++tk) {t:Nat} {z:TTV U} (hz:Qq8 tm t=some z) (V:Vu) (w:World) (v:Value) (hv:(z.er D tk).rel V w v):(z.er D tk').rel V w v:=by
 obtain ⟨p,rfl⟩:=hc
 have e:Wq (p++tk) tk=p.map fun q=>(q.1,q.2.ver):=by
  unfold Wq
  rw [C7,Nat.add_sub_cancel,List.take_left]
 rw [e] at hf
 refine ZN (fun j u hu=>cur_front fun hm=>?_) hv
 have h1:=Cf.1 hf (j,u) hm
 have h2:tm.any (fun q=>q.2.hasApp j u)=false:=by simpa using h1
 exact Pl.1 h2 (t,z) (JR hz) hu
theorem Qc8 (tk:List (Nat×TTok U)) (caps:List (Nat×Nat)):(Q7d caps).map (TAV.er D tk)=Zv caps:=by
 unfold Q7d Zv
 rw [CI];rfl
structure Fit (W:Wd) (P:Program) (rn:Option Nat) (E:Env) (ro:Option Nat):Prop where
 P:E.P=P
 W:W.p E.V0.S E.w0
 rn:DF E rn ro
theorem Qca {W:Wd} {P:Program} (hX:WO W D P X) {st:TSt U} (hY:YOK W D P Y st.m) {o:Oper} {xo:CO U} (h:Qh0 X Y st o=some xo):Qee st.m xo fun r=>∀ E,E.P=P→W.p E.V0.S E.w0→Qmf E o (st.er D) (r.er D):=by
 unfold Qh0 at h
 split at h
 ·rename_i x os ts hop
  obtain ⟨dd,op,ty,pos,af,g⟩:=o
  dsimp only at hop
  subst hop
  split at h
  ·rename_i f caps hx
   split at h
   ·rename_i vs has
    intro β k d r hr
    obtain ⟨q,h1,h2,h3⟩:=hX Y _ _ _ _ hY h k d r hr
    refine ⟨q,fun E hP hW=>?_,h2,h3⟩
    subst hP
    have h1':CallO W E.P f ((vs++Q7d caps).map (TAV.er D st.m.tk)) (st.m.er D) (q.er D):=h1
    rw [Cr,Qc8] at h1'
    cases q with
    | val y m=>exact OpOK.callXW hW (Yy (D:=D) hx) (GS (D:=D) has) h1'
    | die v m=>exact OpD.callXW hW (Yy (D:=D) hx) (GS (D:=D) has) h1'
   ·cases h
  ·rename_i L hx
   split at h
   ·rename_i vs has
    intro β k d r hr
    obtain ⟨q,h1,h2,h3⟩:=hY _ _ _ _ (SfM.refl _) h k d r hr
    exact ⟨q,fun E hP hW=>h1 E (st.er D) dd ty pos af g x os ts hP hW (Yy (D:=D) hx) (GS (D:=D) has) Z,h2,h3⟩
   ·cases h
  ·cases h
 ·cases h
theorem rd_run1 {o:Oper} {st:TSt U} {r:RdR U} {β:Type} {k:TTV U→Option β} {v:β} (hk:r.run k=some v):∃ x,k x=some v∧∀ E,RdOK D E o st r→RO E o (st.er D) (x.er D st.m.tk):=by
 cases r with
 | val x=>exact ⟨x,hk,fun E h=>h⟩
 | grd g x=>obtain ⟨h1,h2⟩:=KQ hk;exact ⟨x,h2,fun E h=>h h1⟩
 | ix oo f=>obtain ⟨a,h1,h2⟩:=YW hk;exact ⟨f a,h2,fun E h=>h a h1⟩
theorem ef_run1 {o:Oper} {st:TSt U} {r:EfR U} {β:Type} {k:OR U→Option β} {v:β} (hk:r.run k=some v):∃ x,k x=some v∧∀ E,EfOK D E o st r→OROK D E o st x:=by
 cases r with
 | val x=>exact ⟨x,hk,fun E h=>h⟩
 | grd g x=>obtain ⟨h1,h2⟩:=KQ hk;exact ⟨x,h2,fun E h=>h h1⟩
 | ix oo f=>obtain ⟨a,h1,h2⟩:=YW hk;exact ⟨f a,h2,fun E h=>h a h1⟩
theorem Qf9 {E:Env} {st:TSt U} {o:Oper} {v:Value} (h:Ql8 st o=some v):OpD E o (st.er D) v (st.er D).mem:=by
 unfold Ql8 at h
 split at h
 ·rename_i x hop
  split at h
  ·rename_i T u hx;cases h
   obtain ⟨dd,op,ty,pos,af,g⟩:=o
   dsimp only at hop
   subst hop
   exact OpD.panic (Yy (D:=D) hx)
  ·cases h
 ·cases h
theorem Qc6:∀ {caps:List (Nat×Nat)} {is:List Nat},Qc7 caps=some is→caps=is.map fun i=>(i,0)
  | [],is,h=>by cases h;rfl
  | (i,k)::r,is,h=>by
    have h':cond (Nat.beq k 0) (match Qc7 r with
      | some l=>some (i::l)
      | none=>none) none=some is:=h
    cases hk:Nat.beq k 0 with
    | false=>rw [hk] at h';cases h'
    | true =>
      rw [hk,C6] at h'
      have e:=C4 hk
      subst e
      cases hl:Qc7 r with
      | none=>rw [hl] at h';cases h'
      | some l=>rw [hl] at h';cases h';rw [Qc6 hl];rfl
theorem XL.deferT {E:Env} {n:Nat} {ops:Array Oper} {Q:Exit→Act→World→Prop} {rest:List Oper} {st:St} {pos:String} {af:Array Edge} {ty:TypeId} {x:Operand} {ats:Array TypeId} {f:Nat} {is:List Nat} (hx:ev st.tm x=some (.v (.one (.fn f (is.map fun i=>(i,0)))))) (hdf:st.df=[])
  (k:XL E none n ops Q rest ⟨st.tm,st.hp,st.tk,st.nx,st.nt,f::is⟩):XL E none n ops Q (⟨none,.defer { callee:=.value x,args:=#[],argTypes:=ats },ty,pos,af,none⟩::rest) st:=by
 intro V a w hr
 unfold wpListIn
 rw [Cd (by simp [Region.wanted])]
 refine ⟨fun _ _=>trivial,?_⟩
 obtain ⟨hv1,hv2⟩:=hr.ev hx
 have hps:((is.map fun i=>((i,0):Nat×Nat)).map fun p=>Value.pointer (some ⟨V.ι p.1,p.2,none⟩))=is.map (KI V):=by rw [CI];rfl
 have hrun:(Oper.semAt (Qrj none).round a.eval ⟨none,.defer { callee:=.value x,args:=#[],argTypes:=ats },ty,pos,af,none⟩).run E.P w=.ok (.defer (Qe4 f (is.map (KI V)))) w:=by
  simp [Qrj,Oper.semAt_none,execOp,resolve,hv2,Deferred.ofValue,← hps]
 rw [hrun]
 refine k V _ w ⟨hr.h,hr.nx,hr.nt,?_,hr.tm⟩
 obtain ⟨bs,h1,h2,h3⟩:=hr.df.of_nil hdf
 exact .inr ⟨f,is,[],bs,rfl,fun i hi=>hv1 (i,0) (Cw.2 ⟨i,hi,rfl⟩),by simp only [List.map_nil,CU];rw [← h1];rfl,by simpa using ⟨h2,h3⟩⟩
section
variable {ops:Array Oper} {rest:List Oper} {β:Type} {r:β}
theorem Qet (o:Oper) (st:TSt U):StW (XY (st.er D) o.dst (.tup []) (st.er D).mem) ((Ka o st).er D):=by
 unfold Ka
 cases o.dst with
 | none=>exact StW.refl _
 | some d =>
  refine ⟨fun t y hy=>.inr ⟨y,?_,fun _ _ _ h=>h⟩,fun i B h=>⟨B,h,fun _ _ _ h=>h⟩,fun i T h=>h,Z,Z,Z⟩
  show Qq8 ((d,TV.tup [])::QD d (st.er D).tm) t=some y
  rw [Jo];exact hy
theorem putR_er (st:TSt U) (dst:Option Nat) (x:TTV U):StW (XY (st.er D) dst (x.er D st.m.tk) (st.er D).mem) ((⟨WS dst x st.tm,st.m,st.nt,st.df⟩:TSt U).er D):=by
 cases dst with
 | none=>exact StW.refl _
 | some d =>
  refine ⟨fun t y hy=>.inr ⟨y,?_,fun _ _ _ h=>h⟩,fun i B h=>⟨B,h,fun _ _ _ h=>h⟩,fun i T h=>h,Z,Z,Z⟩
  show Qq8 ((d,x.er D st.m.tk)::QD d (st.er D).tm) t=some y
  rw [Jo];exact hy
theorem Qb7 {st:TSt U} {d:Option Nat} (h:JM st d=true):Zm (st.er D) d=true:=by
 cases d with
 | none=>rfl
 | some d=>exact h
theorem put_weak {st:TSt U} {dst:Option Nat} {x:TTV U} {m:TMe U} (h:∀ t z,Qq8 st.tm t=some z→∀ V w v,(z.er D st.m.tk).rel V w v→(z.er D m.tk).rel V w v):StW (XY (st.er D) dst (x.er D m.tk) (m.er D)) ((⟨WS dst x st.tm,m,st.nt,st.df⟩:TSt U).er D):=by
 have old:∀ t y,Qq8 (QI (TTV.er D m.tk) st.tm) t=some y→y=.unk∨∃ x,Qq8 (QI (TTV.er D st.m.tk) st.tm) t=some x∧∀ V w v,x.rel V w v→y.rel V w v:=fun t y hy=>by
  rw [QN] at hy ⊢
  cases hz:Qq8 st.tm t with
  | none=>rw [hz] at hy;cases hy
  | some z=>rw [hz] at hy;cases hy;exact .inr ⟨_,rfl,h t z hz⟩
 cases dst with
 | none=>exact ⟨old,fun i B h=>⟨B,h,fun _ _ _ h=>h⟩,fun i T h=>h,rfl,rfl,rfl⟩
 | some d =>
  refine ⟨fun t y hy=>?_,fun i B h=>⟨B,h,fun _ _ _ h=>h⟩,fun i T h=>h,Z,Z,Z⟩
  have hy':Qq8 ((d,x.er D m.tk)::QI (TTV.er D m.tk) st.tm) t=some y:=hy
  show y=.unk∨∃ z,Qq8 ((d,x.er D m.tk)::QD d (st.er D).tm) t=some z∧_
  rw [Jo]
  rw [Q1] at hy' ⊢
  by_cases e:d=t
  ·rw [Cd e] at hy' ⊢;cases hy';exact .inr ⟨_,rfl,fun _ _ _ h=>h⟩
  ·rw [C5 e] at hy' ⊢;exact old t y hy'
theorem Qc1 {st:TSt U} {m:TMe U} (h:∀ t z,Qq8 st.tm t=some z→∀ V w v,(z.er D st.m.tk).rel V w v→(z.er D m.tk).rel V w v):StW (⟨(st.er D).tm,(m.er D).hp,(m.er D).tk,(m.er D).nx,st.nt,st.df⟩:St) ((⟨st.tm,m,st.nt,st.df⟩:TSt U).er D) :=
 ⟨fun t y hy=>by
  have hy':Qq8 (QI (TTV.er D m.tk) st.tm) t=some y:=hy
  rw [QN] at hy'
  cases hz:Qq8 st.tm t with
  | none=>rw [hz] at hy';cases hy'
  | some z =>
   rw [hz] at hy';cases hy'
   exact .inr ⟨z.er D st.m.tk,by show Qq8 (QI _ st.tm) t=_;rw [QN,hz];rfl,h t z hz⟩,fun i B h=>⟨B,h,fun _ _ _ h=>h⟩,fun i T h=>h,rfl,rfl,rfl⟩
def OneL (D:Codec U) (W:Wd) (P:Program) (rn:Option Nat) (ops:Array Oper) (l0 l1:List Oper) {β:Type} (st:TSt U) (p:Value→TSt U→Option β) (k:TSt U→Option β) (r:β):Prop :=
 (∃ s,Sfx st s∧k s=some r∧∀ E ro n Q,Fit W P rn E ro→XL E ro n ops Q l1 (s.er D)→XL E ro n ops Q l0 (st.er D))∨(∃ v s,Sfx st s∧p v s=some r∧∀ E ro n Q,Fit W P rn E ro→XQ E Q (.panic (ZW v)) (s.er D)→XL E ro n ops Q l0 (st.er D))
theorem Qai {P:Program} (hT:C.T.OK P) (hD:D.OK) {W:Wd} (hK:Q0v W D P K) (hX:WO W D P X) {o:Oper} {st:TSt U} (hY:YOK W D P Y st.m) {p:Value→TSt U→Option β} {k:TSt U→Option β} (h:Q5t D C K X Y rn o st p k=some r) (hg:Qx ops (st.er D).tm o=some true) :
  OneL D W P rn ops (o::rest) rest st p k r:=by
 unfold Q5t at h
 split at h
 ·rename_i rd hrd
  cases hd:JM st o.dst with
  | false=>rw [hd] at h;cases h
  | true =>
   rw [hd,C6] at h
   obtain ⟨x,h1,h2⟩:=rd_run1 (D:=D) (o:=o) (st:=st) h
   exact .inl ⟨_,Sfx.put st o.dst x,h1,fun E ro n Q f hl=>Q9w hg (Qa (h2 E (Qcw (D:=D) (f.P.symm▸hT) hD hrd))) (Qb7 hd) (Dz (putR_er st o.dst x) hl)⟩
 ·split at h
  ·rename_i e he
   obtain ⟨q,h1,h2⟩:=ef_run1 (D:=D) (o:=o) (st:=st) h
   cases hc:(Q3e st (q.es++st.m.es) q.tk&&JM st o.dst&&Nat.ble st.m.nx q.nx) with
   | false=>rw [hc] at h1;cases h1
   | true =>
    rw [hc,C6] at h1
    obtain ⟨b12,b3⟩:=C0.1 hc
    obtain ⟨b1,b2⟩:=C0.1 b12
    exact .inl ⟨_,Sfx.next st o.dst q (C3 b3),h1,fun E ro n Q f hl=>(h2 E (Qi7 (D:=D) (f.P.symm▸hT) hD f.W (f.P.symm▸hK) he)).next b1 b2 hg hl⟩
  ·split at h
   ·rename_i xo hxo
    cases b1:JM st o.dst with
    | false=>rw [b1] at h;cases h
    | true =>
     rw [b1,C6] at h
     obtain ⟨q,q1,q2,h2⟩:=Qca hX hY hxo _ _ _ h
     cases q with
     | val x m =>
      dsimp only [OutT.to] at h2
      cases b2:Z0 (Wq m.tk st.m.tk) st.tm with
      | false=>rw [b2] at h2;cases h2
      | true =>
      rw [b2,C6] at h2
      refine .inl ⟨⟨WS o.dst x st.tm,m,st.nt,st.df⟩,⟨?_,q2.es,q2.tk,q2.nx,Z,.inr Z⟩,h2,fun E ro n Q f hl=>Q9w hg (q1 E f.P f.W) (Qb7 b1) (Dz ?_ hl)⟩
      ·cases o.dst with
       | none=>exact ⟨[],rfl⟩
       | some d=>exact ⟨[(d,x)],rfl⟩
      ·exact put_weak (fun t z hz V w v hv=>GT b2 q2.tk hz V w v hv)
     | die v m =>
      dsimp only [OutT.to] at h2
      cases b2:Z0 (Wq m.tk st.m.tk) st.tm with
      | false=>rw [b2] at h2;cases h2
      | true =>
      rw [b2,C6] at h2
      exact .inr ⟨v,⟨st.tm,m,st.nt,st.df⟩,⟨⟨[],Z⟩,q2.es,q2.tk,q2.nx,Z,.inr Z⟩,h2,fun E ro n Q f hq=>Qkr (hp:=(m.er D).hp) (tk:=(m.er D).tk) (nx:=(m.er D).nx) hg (q1 E f.P f.W) (Gi (Qc1 fun t z hz V w v hv=>GT b2 q2.tk hz V w v hv) hq)⟩
   ·split at h
    ·rename_i v hv
     exact .inr ⟨v,st,Sfx.refl st,h,fun E ro n Q f hq=>Qkr (hp:=(st.er D).hp) (tk:=(st.er D).tk) (nx:=(st.er D).nx) hg (Qf9 hv) hq⟩
    ·split at h
     ·rename_i df hrn hdf hdt
      unfold Qon at hdt
      split at hdt
      ·split at hdt
       ·rename_i f caps hos hx
        split at hdt
        ·rename_i is hz;cases hdt
         have e:=Qc6 hz
         subst e
         have eo:=Sg (ys:=#[]) hos
         subst eo
         refine .inl ⟨⟨st.tm,st.m,st.nt,f::is⟩,⟨⟨[],Z⟩,⟨[],Z⟩,⟨[],Z⟩,Ck _,Z,.inl hdf⟩,h,fun E ro n Q ft hl=>?_⟩
         have ero:ro=none:=ft.rn
         subst ero
         exact XL.deferT (st:=st.er D) (Yy (D:=D) hx) hdf hl
        ·cases hdt
       ·cases hdt
      ·cases hdt
     ·cases h
theorem UW (st:TSt U) (d:Nat) (b:Bool):Sfx st (setB st d b):=Sfx.put st (some d) (Qpv b)
theorem lk_setB (st:TSt U) (d:Nat) (b:Bool):Qq8 ((setB st d b).er D).tm d=some (Qr7 b):=by
 show Qq8 ((d,Qr7 b)::(st.er D).tm) d=_
 rw [Q1,Cd rfl]
theorem OneL.trans {l0 l1 l2:List Oper} {st s1:TSt U} {p:Value→TSt U→Option β} {k:TSt U→Option β} (hs:Sfx st s1) {W:Wd} {P:Program} (h1:∀ E ro n Q,Fit W P rn E ro→XL E ro n ops Q l1 (s1.er D)→XL E ro n ops Q l0 (st.er D)) (h2:OneL D W P rn ops l1 l2 s1 p k r):OneL D W P rn ops l0 l2 st p k r:=by
 rcases h2 with ⟨s,q1,q2,q3⟩ | ⟨v,s,q1,q2,q3⟩
 ·exact .inl ⟨s,hs.trans q1,q2,fun E ro n Q f hl=>h1 E ro n Q f (q3 E ro n Q f hl)⟩
 ·exact .inr ⟨v,s,hs.trans q1,q2,fun E ro n Q f hl=>h1 E ro n Q f (q3 E ro n Q f hl)⟩
theorem OneL.bind {l0 l1 l2:List Oper} {st s0:TSt U} {p:Value→TSt U→Option β} {k:TSt U→Option β} {f:TSt U→Option β} {W:Wd} {P:Program} (hs0:Sfx st s0) (he:∀ E ro n Q,Fit W P rn E ro→XL E ro n ops Q l0 (s0.er D)→XL E ro n ops Q l0 (st.er D)) (h1:OneL D W P rn ops l0 l1 s0 p f r) (h2:∀ s,Sfx s0 s→f s=some r→OneL D W P rn ops l1 l2 s p k r):OneL D W P rn ops l0 l2 st p k r:=by
 rcases h1 with ⟨s,q1,q2,q3⟩ | ⟨v,s,q1,q2,q3⟩
 ·exact OneL.trans (hs0.trans q1) (fun E ro n Q f hl=>he E ro n Q f (q3 E ro n Q f hl)) (h2 s q1 q2)
 ·exact .inr ⟨v,s,hs0.trans q1,q2,fun E ro n Q f hl=>he E ro n Q f (q3 E ro n Q f hl)⟩
theorem D6 {P:Program} (hT:C.T.OK P) (hD:D.OK) {W:Wd} (hK:Q0v W D P K) (hX:WO W D P X) {p:Value→TSt U→Option β}:∀ (rest:List Oper) {st:TSt U} {k:TSt U→Option β},YOK W D P Y st.m→Q1z D C K X Y rn ops p rest st k=some r→OneL D W P rn ops rest [] st p k r
 | [],st,k,hY,h=>.inl ⟨st,Sfx.refl st,h,fun E ro n Q f hl=>hl⟩
 | o::os,st,k,hY,h=>by
  unfold Q1z at h
  split at h
  ·rename_i hgd
   exact OneL.bind (Sfx.refl st) (fun E ro n Q f hl=>hl) (Qai (rest:=os) hT hD hK hX hY h (by unfold Qx;rw [hgd])) (fun s hs h'=>D6 hT hD hK hX os (hY.mono hs.sfm) h')
  ·rename_i j b hgd
   split at h
   ·cases h
   ·rename_i d hj
    split at h
    ·rename_i c hc
     have hlk:Qq8 (st.er D).tm d=some (Qr7 c):=by
      show Qq8 (QI (TTV.er D st.m.tk) st.tm) d=_
      rw [QN,hc];rfl
     have hw:∀ b',Qx ops ((setB st d b').er D).tm o=some (b'==b):=fun b'=>by
      unfold Qx
      rw [hgd]
      dsimp only
      rw [hj]
      dsimp only
      rw [lk_setB]
     have cse:∀ b',c=b'→∀ E ro n Q,Fit W P rn E ro→XL E ro n ops Q (o::os) ((setB st d b').er D)→XL E ro n ops Q (o::os) (st.er D):=fun b' e E ro n Q f hl=>by
      subst e
      refine J1 hlk (fun ec=>?_) (fun ec=>?_)
      ·subst ec;exact hl
      ·subst ec;exact hl
     have run:∀ b',c=b'→Q5t D C K X Y rn o (setB st d b') p (fun s=>Q1z D C K X Y rn ops p os s k)=some r→(b'==b)=true→OneL D W P rn ops (o::os) [] st p k r:=fun b' ec h' e =>
      OneL.bind (UW st d b') (cse b' ec) (Qai (rest:=os) (st:=setB st d b') hT hD hK hX hY h' (by rw [hw,e])) (fun s hs h''=>D6 hT hD hK hX os (hY.mono hs.sfm) h'')
     have skip:∀ b',c=b'→Q1z D C K X Y rn ops p os (Ka o (setB st d b')) k=some r→(b'==b)=false→OneL D W P rn ops (o::os) [] st p k r:=fun b' ec h' e =>
      OneL.trans ((UW st d b').trans (Sfx.put _ o.dst _)) (fun E ro n Q f hl=>cse b' ec E ro n Q f (Qh8 (st:=(setB st d b').er D) (by rw [hw,e]) (Dz (Qet o _) hl))) (D6 (st:=Ka o (setB st d b')) hT hD hK hX os hY h')
     cases ec:c with
     | true =>
      rw [ec,C6] at h
      cases b with
      | true=>exact run true ec h rfl
      | false=>exact skip true ec h rfl
     | false =>
      rw [ec,Ce] at h
      cases b with
      | true=>exact skip false ec h rfl
      | false=>exact run false ec h rfl
    ·rename_i hc
     have hlk:Qq8 (st.er D).tm d=some (.tup []):=by
      show Qq8 (QI (TTV.er D st.m.tk) st.tm) d=_
      rw [QN,hc];rfl
     refine OneL.trans (Sfx.put _ o.dst _) (fun E ro n Q f hl=>Qh8 (by
      unfold Qx
      rw [hgd]
      dsimp only
      rw [hj]
      dsimp only
      rw [hlk]) (Dz (Qet o st) hl)) (D6 (st:=Ka o st) hT hD hK hX os hY h)
    ·cases h
end
end
end
noncomputable section
open Go.RowKit
section
variable {U:Univ} {D:Codec U} {C:TCfg U} {K:FuncId→List (TAV U)→Option (KR U)}
def Q5d {α:Type} (a b:List α):List α:=b.take (b.length - a.length)
def Q1b (i:Nat):Ev U→Bool
 | .box j _ _=>!(Nat.beq j i)
 | .raw j _=>!(Nat.beq j i)
 | .lp j _ _ _ _ _ _ _ _=>!(Nat.beq j i)
 | .ls j _=>!(Nat.beq j i)
 | .set j _ _=>!(Nat.beq j i)
theorem Qan {i off n:Nat} {es:List (Ev U)}:∀ {p:List (Ev U)},p.all (Q1b i)=true→WZ D (p++es) i off n=WZ D es i off n
 | [],h=>rfl
 | e::p,h=>by
  obtain ⟨h1,h2⟩:=C0.1 h
  have ih:=Qan (es:=es) (off:=off) (n:=n) h2
  cases e with
  | box j T xs =>
   have hj:Nat.beq j i=false:=by simpa [Q1b] using h1
   show cond (Nat.beq j i) _ _=_
   rw [hj];exact ih
  | raw j B =>
   have hj:Nat.beq j i=false:=by simpa [Q1b] using h1
   show cond (Nat.beq j i) _ _=_
   rw [hj];exact ih
  | lp j s p tm nt ps a b d =>
   have hj:Nat.beq j i=false:=by simpa [Q1b] using h1
   show cond (Nat.beq j i) _ _=_
   rw [hj];exact ih
  | ls j xs =>
   have hj:Nat.beq j i=false:=by simpa [Q1b] using h1
   show cond (Nat.beq j i) _ _=_
   rw [hj];exact ih
  | set j o xs =>
   have hj:Nat.beq j i=false:=by simpa [Q1b] using h1
   show (match WZ D (p++es) i off n with
    | none=>none
    | some ys=>cond (Nat.beq j i) _ (some ys))=_
   rw [ih,hj]
   cases WZ D es i off n <;> rfl
def Qd5:TA U→Bool
 | .app _ _=>false
 | _=>true
def Qix:It U→Bool
 | .one x=>Qd5 x
 | .grp _ _=>true
def Q8i:TAV U→Bool
 | .one x=>Qd5 x
 | .agg xs=>xs.all Qix
def XX:Option (TTV U)→Bool
 | some (.v (.one (.app _ _)))=>false
 | _=>true
theorem Q9s {tk tk':List (Nat×TTok U)} {t:U.T} {x:TTV U} (h:XX (some x)=true):G5 tk t x=G5 tk' t x:=by
 unfold G5
 split
 ·rfl
 ·rfl
 ·cases h
 ·rfl
theorem Q31 {tk tk':List (Nat×TTok U)} {x:TA U} (h:Qd5 x=true):Kh tk x=Kh tk' x:=by
 cases x <;> first | rfl | cases h
theorem Ud {tk tk':List (Nat×TTok U)}:∀ {xs:List (It U)},xs.all Qix=true→JF tk xs=JF tk' xs
 | [],h=>rfl
 | It.grp t x::r,h=>by
  have h2:=(C0.1 h).2
  show (match JF tk r with
   | some ys=>some (It.grp t x::ys)
   | none=>none)=_
  rw [Ud (tk':=tk') h2];rfl
 | It.one x::r,h=>by
  obtain ⟨h1,h2⟩:=C0.1 h
  show (match Kh tk x,JF tk r with
   | some y,some ys=>some (It.one y::ys)
   | _,_=>none)=_
  rw [Ud (tk':=tk') h2,Q31 (tk':=tk') h1];rfl
theorem settleV_na {tk tk':List (Nat×TTok U)} {x:TAV U} (h:Q8i x=true):WA tk x=WA tk' x:=by
 cases x with
 | one x =>
  show (match Kh tk x with
   | some y=>some (TAV.one y)
   | none=>none)=_
  rw [Q31 (tk':=tk') h];rfl
 | agg xs =>
  show (match JF tk xs with
   | some ys=>some (TAV.agg ys)
   | none=>none)=_
  rw [Ud (tk':=tk') h];rfl
theorem Q12 {tk tk':List (Nat×TTok U)}:∀ {xs:List (TAV U)},xs.all Q8i=true→YR tk xs=YR tk' xs
 | [],h=>rfl
 | x::xs,h=>by
  obtain ⟨h1,h2⟩:=C0.1 h
  show (match WA tk x,YR tk xs with
   | some y,some ys=>some (y::ys)
   | _,_=>none)=_
  rw [Q12 (tk':=tk') h2,settleV_na (tk':=tk') h1];rfl
def Qnz (tm:List (Nat×TTV U)) (p:List (Ev U)) (o:Oper):Bool:=match o.op with
 | .load _ x=>match YD tm x with
  | some (.v (.one (.ptr i _)))=>p.all (Q1b i)
  | _=>true
 | .indexAddr _ x _=>XX (YD tm x)
 | .slice _ x _ _ _=>match YD tm x with
  | some (.v (.one (.c (.str _))))=>true
  | _=>false
 | .convert _ _ x=>XX (YD tm x)
 | .call c=>match c.callee with
  | .builtin _=>c.args.toList.all fun x=>XX (YD tm x)
  | _=>match Q1o tm c.args.toList with
   | some vs=>vs.all Q8i
   | none=>false
 | _=>true
theorem lenR_q {tm:List (Nat×TTV U)} {m m':TMe U} {nt:Nat} {df:List Nat} {t:TypeId} {x:Operand} (h:XX (YD tm x)=true):Qhj C ⟨tm,m',nt,df⟩ t x=Qhj C ⟨tm,m,nt,df⟩ t x:=by
 unfold Qhj
 dsimp only
 cases hx:YD tm x with
 | none=>rfl
 | some v =>
  rw [hx] at h
  have key:∀ t,G5 m'.tk t v=G5 m.tk t v:=fun t=>Q9s h
  have fin:∀ (w:TTV U),w=v→(match Qhe C t with
   | some (_,tc)=>match G5 m'.tk tc w with
    | some l=>some (RdR.val (U:=U) (Qpu .i64 l.length))
    | none=>none
   | none=>none)=(match Qhe C t with
   | some (_,tc)=>match G5 m.tk tc w with
    | some l=>some (RdR.val (Qpu .i64 l.length))
    | none=>none
   | none=>none):=fun w e=>by
   subst e
   cases Qhe C t with
   | none=>rfl
   | some q =>
    obtain ⟨e,tc⟩:=q
    dsimp only
    rw [key]
  cases v with
  | v a =>
   cases a with
   | one b =>
    cases b with
    | c z=>cases z <;> first | rfl | exact fin _ rfl
    | _=>exact fin _ rfl
   | agg xs=>exact fin _ rfl
  | tup xs=>exact fin _ rfl
  | unk=>exact fin _ rfl
theorem Qlk {tm:List (Nat×TTV U)} {m m':TMe U} {nt:Nat} {df:List Nat} {p:List (Ev U)} (he:m'.es=p++m.es) {o:Oper} (h:Qnz tm p o=true):Ql3 D C ⟨tm,m',nt,df⟩ o=Ql3 D C ⟨tm,m,nt,df⟩ o:=by
 obtain ⟨dd,op,ty,pos,af,g⟩:=o
 cases op with
 | load t x =>
  show Q06 D C ⟨tm,m',nt,df⟩ t x=Q06 D C ⟨tm,m,nt,df⟩ t x
  have h':(match YD tm x with
   | some (.v (.one (.ptr i _)))=>p.all (Q1b i)
   | _=>true)=true:=h
  unfold Q06
  dsimp only
  cases hx:YD tm x with
  | none=>rfl
  | some v =>
   rw [hx] at h'
   cases v with
   | v a =>
    cases a with
    | one b =>
     cases b with
     | ptr i off =>
      have key:∀ n,WZ D m'.es i off n=WZ D m.es i off n:=fun n=>by rw [he];exact Qan h'
      dsimp only
      simp only [key]
     | _=>rfl
    | agg xs=>rfl
   | tup xs=>rfl
   | unk=>rfl
 | indexAddr t x y =>
  show Q0g C ⟨tm,m',nt,df⟩ t x y=Q0g C ⟨tm,m,nt,df⟩ t x y
  have h':XX (YD tm x)=true:=h
  unfold Q0g
  dsimp only
  cases hx:YD tm x with
  | none=>cases Qhe C t <;> cases Qcy (YD tm y) <;> rfl
  | some v =>
   rw [hx] at h'
   have key:∀ t,G5 m'.tk t v=G5 m.tk t v:=fun t=>Q9s h'
   cases Qhe C t with
   | none=>rfl
   | some q =>
    obtain ⟨e,tc⟩:=q
    cases Qcy (YD tm y) with
    | none=>rfl
    | some k =>
     dsimp only
     rw [key]
 | slice t x lo hi mx =>
  show DQ C ⟨tm,m',nt,df⟩ t x lo hi mx=DQ C ⟨tm,m,nt,df⟩ t x lo hi mx
  have h':(match YD tm x with
   | some (.v (.one (.c (.str _))))=>true
   | _=>false)=true:=h
  unfold DQ
  dsimp only
  split at h'
  ·rename_i s hx
   rw [hx]
   cases mx <;> rfl
  ·cases h'
 | convert s t x =>
  show Q7c C ⟨tm,m',nt,df⟩ s t x=Q7c C ⟨tm,m,nt,df⟩ s t x
  have h':XX (YD tm x)=true:=h
  have e:Q0p C ⟨tm,m',nt,df⟩ s t x=Q0p C ⟨tm,m,nt,df⟩ s t x:=by
   unfold Q0p
   dsimp only
   cases hx:YD tm x with
   | none=>cases C.bt <;> cases Qq8 C.T.byt s <;> cases Qq8 C.T.strs t <;> rfl
   | some v =>
    rw [hx] at h'
    have key:∀ t,G5 m'.tk t v=G5 m.tk t v:=fun t=>Q9s h'
    cases C.bt with
    | none=>rfl
    | some B =>
     cases Qq8 C.T.byt s with
     | none=>rfl
     | some u1 =>
      cases Qq8 C.T.strs t with
      | none=>rfl
      | some u2 =>
       dsimp only
       rw [key]
  unfold Q7c
  rw [e]
 | call c =>
  obtain ⟨callee,⟨xs⟩,⟨ts⟩⟩:=c
  cases callee with
  | builtin b =>
   have h':(xs.all fun x=>XX (YD tm x))=true:=h
   show GP C ⟨tm,m',nt,df⟩ b xs ts=GP C ⟨tm,m,nt,df⟩ b xs ts
   unfold GP
   split
   ·exact lenR_q (C0.1 h').1
   ·rfl
   ·rfl
   ·rfl
  | _=>rfl
 | _=>rfl
def Qe8 (q:List (Nat×TTok U)):TA U→Bool
 | .app j _=>q.all fun p=>!(Nat.beq p.1 j)
 | _=>true
variable (D) in
def Qe7 (q:List (Nat×TTok U)):TAV U→Bool
 | .one x=>Qe8 q x
 | .agg xs=>(Y0 D xs).all (Qe8 q)
variable (D) in
def Q4u (q:List (Nat×TTok U)):TTV U→Bool
 | .v x=>Qe7 D q x
 | .tup xs=>xs.all (Qe7 D q)
 | .unk=>true
theorem Qjf {α:Type} {j:Nat}:∀ {q:List (Nat×α)},(q.all fun p=>!(Nat.beq p.1 j))=true→Qq8 q j=none
 | [],h=>rfl
 | p::q,h=>by
  obtain ⟨h1,h2⟩:=C0.1 h
  have hj:Nat.beq p.1 j=false:=by simpa using h1
  show cond (Nat.beq p.1 j) _ _=_
  rw [hj];exact Qjf h2
theorem Q7m {q tk:List (Nat×TTok U)} {x:TA U} (h:Qe8 q x=true):x.er (q++tk)=x.er tk:=by
 cases x with
 | app j u =>
  have h':(q.all fun p=>!(Nat.beq p.1 j))=true:=h
  show (match cur (q++tk) j u with
   | some T=>CA.app j (U.E T.t).sz ((U.E T.t).encL T.l)
   | none=>CA.any)=_
  have:cur (q++tk) j u=cur tk j u:=by
   unfold cur
   rw [Jt,Qjf h']
  rw [this];rfl
 | c x=>rfl
 | ptr i off=>rfl
 | pel t x off=>rfl
 | fn f caps=>rfl
 | raw x=>rfl
theorem Q7l {q tk:List (Nat×TTok U)} {x:TAV U} (h:Qe7 D q x=true):x.er D (q++tk)=x.er D tk:=by
 cases x with
 | one x=>exact congrArg AV.one (Q7m h)
 | agg xs =>
  show AV.agg ((Y0 D xs).map (TA.er (q++tk)))=AV.agg ((Y0 D xs).map (TA.er tk))
  congr 1
  exact Cx fun x hx=>Q7m (Cf.1 h x hx)
theorem WM {q tk:List (Nat×TTok U)} {x:TTV U} (h:Q4u D q x=true):x.er D (q++tk)=x.er D tk:=by
 cases x with
 | v x=>exact congrArg TV.v (Q7l h)
 | tup xs =>
  show TV.tup (xs.map (TAV.er D (q++tk)))=TV.tup (xs.map (TAV.er D tk))
  congr 1
  exact Cx fun x hx=>Q7l (Cf.1 h x hx)
 | unk=>rfl
variable (D) in
def Qfh (tm:List (Nat×TTV U)) (m:TMe U) (o:Oper) (x:TTV U) (up:Bool) (m':TMe U):Bool :=
 cond up (Qnz tm (Q5d m.es m'.es) o&&(Q4u D (Q5d m.tk m'.tk) x&&tm.all fun p=>Q4u D (Q5d m.tk m'.tk) p.2)) (Qnz tm (Q5d m'.es m.es) o&&(Q4u D (Q5d m'.tk m.tk) x&&tm.all fun p=>Q4u D (Q5d m'.tk m.tk) p.2))
end
end
noncomputable section
open Go.RowKit
section
variable (U:Univ)
inductive AK where
 | int (k:IntKind)
 | bool
 | str
 | sl (t:U.T)
 | app (i:Nat) (e:TypeId) (t:U.T)
 | stc (t:U.T)
 | ptr (i off:Nat)
 | any
inductive Loc where
 | reg (r:Nat)
 | cell (i off:Nat)
structure Lab where
 sl:List (List Loc×AK U)
 dead:List Nat
end
section
variable {U:Univ} (D:Codec U)
def AK.Ty:AK U→Type
 | .int _=>Int
 | .bool=>Bool
 | .str=>Qrl
 | .sl t=>List (U.R t)
 | .app _ _ t=>List (U.R t)
 | .stc t=>U.R t
 | .ptr _ _=>Unit
 | .any=>Unit
def AK.sz:AK U→Nat
 | .stc t=>(U.E t).sz
 | _=>1
def tup:List (AK U)→Type
 | []=>Unit
 | [k]=>k.Ty
 | k::k2::r=>k.Ty×tup (k2::r)
def Q4l (k:IntKind):TAV U→Option Int
 | .one (.c (.v (.int k' a)))=>cond (decide (k'=k)) (some a) none
 | _=>none
def Du:TAV U→Option Bool
 | .one (.c (.v (.bool b)))=>some b
 | _=>none
def Q4k:TAV U→Option Qrl
 | .one (.c (.str s))=>some s
 | _=>none
def Wn (tk:List (Nat×TTok U)) (i:Nat) (e:TypeId) (t:U.T):TAV U→Option (List (U.R t))
 | .one (.app j ver)=>match cur tk j ver with
  | some T=>cond (Nat.beq j i&&Nat.beq T.E e) (Gg T.t t T.l) none
  | none=>none
 | _=>none
def Qe0 (i off:Nat):TAV U→Option Unit
 | .one (.ptr j o)=>cond (Nat.beq j i&&Nat.beq o off) (some ()) none
 | _=>none
def Qka:TAV U→Option Unit
 | .one _=>some ()
 | .agg _=>none
def Qe2 (tk:List (Nat×TTok U)):(k:AK U)→TAV U→Option k.Ty
 | .int k,x=>Q4l k x
 | .bool,x=>Du x
 | .str,x=>Q4k x
 | .sl t,x=>G5 tk t (.v x)
 | .app i e t,x=>Wn tk i e t x
 | .stc t,x=>Q4r D tk t x.items
 | .ptr i off,x=>Qe0 i off x
 | .any,x=>Qka x
def GK:(k:AK U)→k.Ty→Nat→TAV U
 | .int k,a,_=>.one (.c (.v (.int k a)))
 | .bool,b,_=>.one (.c (.v (.bool b)))
 | .str,s,_=>.one (.c (.str s))
 | .sl t,l,_=>.one (.c (.sl t l))
 | .app i _ _,_,ver=>.one (.app i ver)
 | .stc t,x,_=>.agg [.grp t x]
 | .ptr i off,_,_=>.one (.ptr i off)
 | .any,_,_=>.one (.raw .any)
def Ql4:(k:AK U)→k.Ty→Nat→List (Nat×TTok U)
 | .app i e t,l,ver=>[(i,⟨e,t,l,ver⟩)]
 | _,_,_=>[]
def QZ (tk:List (Nat×TTok U)) (i:Nat):Nat:=match Qq8 tk i with
 | some T=>T.ver+1
 | none=>0
def WW (tk:List (Nat×TTok U)):AK U→Nat
 | .app i _ _=>QZ tk i
 | _=>0
abbrev Qr8 (U:Univ):=(k:AK U)×k.Ty
def vals:(sl:List (List Loc×AK U))→tup (sl.map (·.2))→List (List Loc×Qr8 U)
  | [],_=>[]
  | [(ls,k)],v=>[(ls,⟨k,v⟩)]
  | (ls,k)::s2::r,v=>(ls,⟨k,v.1⟩)::vals (s2::r) v.2
def Uh (x:TTV U):List Loc→List (Nat×TTV U)
 | []=>[]
 | .reg r::ls=>(r,x)::Uh x ls
 | .cell _ _::ls=>Uh x ls
def DS (xs:List (It U)):List Loc→List (Nat×Nat×List (It U))
 | []=>[]
 | .reg _::ls=>DS xs ls
 | .cell i off::ls=>(i,off,xs)::DS xs ls
def Qg3 (tk:List (Nat×TTok U)) (vs:List (List Loc×Qr8 U)):List (Nat×TTV U):=vs.flatMap fun p=>Uh (.v (GK p.2.1 p.2.2 (WW tk p.2.1))) p.1
def Xk (tk:List (Nat×TTok U)) (vs:List (List Loc×Qr8 U)):List (Nat×Nat×List (It U)):=vs.flatMap fun p=>DS (GK p.2.1 p.2.2 (WW tk p.2.1)).items p.1
def Qbm (tk:List (Nat×TTok U)) (vs:List (List Loc×Qr8 U)):List (Nat×TTok U):=vs.flatMap fun p=>Ql4 p.2.1 p.2.2 (WW tk p.2.1)
def U2 (p:Nat×Nat×List (It U)):Ev U:=.set p.1 p.2.1 p.2.2
def lab (h:Lab U) (st:TSt U) (t:tup (h.sl.map (·.2))):TSt U :=
 ⟨Qg3 st.m.tk (vals h.sl t)++(h.dead.map fun r=>(r,.unk))++st.tm,⟨(Xk st.m.tk (vals h.sl t)).map U2++st.m.es,Qbm st.m.tk (vals h.sl t)++st.m.tk,st.m.nx⟩,st.nt,st.df⟩
def Qdp:TAV U→Bool
 | .one _=>false
 | .agg _=>true
def Xy (s:TSt U):Loc→Nat→Option (TAV U)
 | .reg r,_=>match Qq8 s.tm r with
  | some (.v x)=>some x
  | _=>none
 | .cell i off,n=>match WZ D s.m.es i off n with
  | some [.one x]=>some (.one x)
  | some xs=>some (.agg xs)
  | none=>none
def Q84 (s:TSt U) (i:Nat) (l:Loc):Bool:=match Xy D s l 1 with
 | some (.one (.app j ver))=>Nat.beq j i&&(cur s.m.tk j ver).isSome
 | _=>false
def Qid (s:TSt U) (x:TAV U) (r:List Loc):AK U→Bool
 | .app i _ _=>r.all (Q84 D s i)
 | .stc _=>Qdp x&&r.isEmpty
 | _=>r.isEmpty
def Qnb (s:TSt U) (ls:List Loc) (k:AK U):Option k.Ty:=match ls with
 | []=>none
 | l::r=>match Xy D s l k.sz with
  | some x=>cond (Qid D s x r k) (Qe2 D s.m.tk k x) none
  | none=>none
def Qnx (s:TSt U):(sl:List (List Loc×AK U))→Option (tup (sl.map (·.2)))
  | []=>some ()
  | [(ls,k)]=>Qnb D s ls k
  | (ls,k)::s2::r=>match Qnb D s ls k,Qnx s (s2::r) with
    | some a,some b=>some (a,b)
    | _,_=>none
def Q37:List Loc→List Nat
 | []=>[]
 | .reg r::ls=>r::Q37 ls
 | .cell _ _::ls=>Q37 ls
def Q0o (n:Nat):List Loc→List (Nat×Nat×Nat)
 | []=>[]
 | .reg _::ls=>Q0o n ls
 | .cell i off::ls=>(i,off,n)::Q0o n ls
def DR (sl:List (List Loc×AK U)):List Nat:=sl.flatMap fun p=>Q37 p.1
def Yn (sl:List (List Loc×AK U)):List (Nat×Nat×Nat):=sl.flatMap fun p=>Q0o p.2.sz p.1
def Q4v:AK U→List Nat
 | .app i _ _=>[i]
 | _=>[]
def Qar:AK U→List Nat
 | .ptr i _=>[i]
 | _=>[]
def Q2z (sl:List (List Loc×AK U)):List Nat:=sl.flatMap fun p=>Qar p.2
def Y7 (sl:List (List Loc×AK U)):List Nat:=sl.flatMap fun p=>Q4v p.2
def Q8l (cs:List (Nat×Nat×Nat)) (i k:Nat):Bool:=cs.any fun p=>Nat.beq p.1 i&&(Nat.ble p.2.1 k&&Nat.blt k (p.2.1+p.2.2))
def Qle (nx:Nat) (cs:List (Nat×Nat×Nat)):Ev U→Bool
 | .box i _ _=>Nat.ble nx i
 | .raw i _=>Nat.ble nx i
 | .lp i _ _ _ _ _ _ _ _=>Nat.ble nx i
 | .ls i _=>Nat.ble nx i
 | .set i off xs=>Nat.ble nx i||(List.range (QX xs)).all fun j=>Q8l cs i (off+j)
def Q5i:List Nat→List Nat→Bool
 | [],[]=>true
 | a::x,b::y=>Nat.beq a b&&Q5i x y
 | _,_=>false
theorem Gr:∀ {x y:List Nat},Q5i x y=true→x=y
 | [],[],_=>rfl
 | [],b::y,h=>by cases h
 | a::x,[],h=>by cases h
 | a::x,b::y,h=>by
  obtain ⟨h1,h2⟩:=C0.1 (show (Nat.beq a b&&Q5i x y)=true from h)
  rw [C4 h1,Gr h2]
def Qij (h:Lab U) (st s:TSt U):Bool :=
 Q5i st.df s.df&&((Q5d st.tm s.tm).all (fun p=>(DR h.sl).contains p.1||h.dead.contains p.1)&&((Q5d st.m.es s.m.es).all (Qle st.m.nx (Yn h.sl))&&(Q5d st.m.tk s.m.tk).all fun p=>Nat.ble st.m.nx p.1||(Y7 h.sl).contains p.1))
def GC (h:Lab U) (st s:TSt U):Option (tup (h.sl.map (·.2))):=cond (Qij h st s) (Qnx D s h.sl) none
def TA.belowB (m:Nat):TA U→Bool
 | .c _=>true
 | .ptr i _=>Nat.blt i m
 | .pel _ _ _=>true
 | .fn _ caps=>caps.all fun p=>Nat.blt p.1 m
 | .app i _=>Nat.blt i m
 | .raw x=>match x with
  | .yld L=>Nat.blt L m
  | .any=>true
  | _=>false
def It.belowB (m:Nat):It U→Bool
 | .one x=>x.belowB m
 | .grp _ _=>true
def TAV.belowB (m:Nat):TAV U→Bool
 | .one x=>x.belowB m
 | .agg xs=>xs.all (It.belowB m)
def TTV.belowB (m:Nat):TTV U→Bool
 | .v x=>x.belowB m
 | .tup xs=>xs.all (TAV.belowB m)
 | .unk=>true
def Ev.belowB (m:Nat):Ev U→Bool
 | .box i _ xs=>Nat.blt i m&&xs.all (It.belowB m)
 | .set i _ xs=>xs.all (It.belowB m)
 | .raw i B=>match B with
  | .obj _=>Nat.blt i m
  | _=>false
 | .lp i _ _ tm _ _ _ _ d=>Nat.blt i m&&(Nat.blt d m&&tm.all fun p=>p.2.belowB m)
 | .ls _ xs=>xs.all fun p=>p.2.belowB m
def disj:List (Nat×Nat×Nat)→Bool
 | []=>true
 | p::r=>r.all (fun q=>!(Nat.beq p.1 q.1)||(Nat.ble (p.2.1+p.2.2) q.2.1||Nat.ble (q.2.1+q.2.2) p.2.1))&&disj r
def Qo0:List Nat→Bool
 | []=>true
 | a::r=>!(r.contains a)&&Qo0 r
def Qkb (es:List (Ev U)) (p:Nat×Nat×Nat):Bool:=match Z4 es p.1 with
 | some (_,N)=>Nat.ble (p.2.1+p.2.2) N
 | none=>false
def Qme (st:TSt U) (i:Nat):Bool:=Nat.blt i st.m.nx&&Qb9 i (QZ st.m.tk i) st.tm st.m.es
def Qhw (h:Lab U) (st:TSt U):Bool :=
 st.tm.all (fun p=>p.2.belowB st.m.nx)&&(st.m.es.all (Ev.belowB st.m.nx)&&(st.m.tk.all (fun p=>Nat.blt p.1 st.m.nx)&&(st.df.tail.all (fun i=>Nat.blt i st.m.nx)&&((Yn h.sl).all (Qkb st.m.es)&&(disj (Yn h.sl)&&(Qo0 (Y7 h.sl)&&((Y7 h.sl).all (Qme st)&&(Q2z h.sl).all (fun i=>Nat.blt i st.m.nx))))))))
variable {D}
theorem U3 {α:Type}:∀ (a b:List (Nat×α)) (i:Nat),Qq8 (a++b) i=match Qq8 a i with
    | some x=>some x
    | none=>Qq8 b i
  | [],b,i=>rfl
  | (k,x)::a,b,i=>by
    rw [P2,Q1,Q1,U3 a b i]
    by_cases h:k=i
    · rw [Cd h,Cd h]
    · rw [C5 h,C5 h]
theorem Q90 {α:Type} {l:List (Nat×α)} {i:Nat} (h:∀ p∈l,p.1 ≠ i):Qq8 l i=none:=by
 cases e:Qq8 l i with
 | none=>rfl
 | some x=>exact (h _ (JR e) rfl).elim
theorem Qm3 {α:Type}:∀ {l:List (Nat×α)} {i:Nat} {x:α},Qo0 (l.map (·.1))=true→(i,x)∈l→Qq8 l i=some x
  | (k,y)::l,i,x,h,hm=>by
    obtain ⟨h1,h2⟩:=C0.1 (show (!((l.map (·.1)).contains k)&&Qo0 (l.map (·.1)))=true from h)
    rw [Q1]
    rcases Cq.1 hm with e | hm
    · cases e;rw [Cd rfl]
    · have hne:k ≠ i:=fun e=>by
        subst e
        have:(l.map (·.1)).contains k=true:=S2.2 (Cw.2 ⟨_,hm,rfl⟩)
        rw [this] at h1;cases h1
      rw [C5 hne];exact Qm3 h2 hm
theorem YY {α:Type} (p a:List α):Q5d a (p++a)=p:=by
 unfold Q5d
 rw [C7,show p.length+a.length - a.length=p.length by omega,List.take_left]
theorem Q26:∀ {sl:List (List Loc×AK U)} {s:TSt U} {t:tup (sl.map (·.2))},Qnx D s sl=some t→∀ p∈vals sl t,Qnb D s p.1 p.2.1=some p.2.2
  | [],s,t,h,p,hp=>by cases hp
  | [(ls,k)],s,t,h,p,hp=>by
    rw [CG.1 hp];exact h
  | (ls,k)::s2::r,s,t,h,p,hp=>by
    unfold Qnx at h
    split at h
    · rename_i a b ha hb
      cases h
      rcases Cq.1 hp with e | hp
      · rw [e];exact ha
      · exact Q26 hb p hp
    · cases h
theorem Wz:∀ {sl:List (List Loc×AK U)} {t:tup (sl.map (·.2))},(vals sl t).map (fun p=>(p.1,p.2.1))=sl
  | [],t=>rfl
  | [(ls,k)],t=>rfl
  | (ls,k)::s2::r,t=>by
    show (ls,k)::(vals (s2::r) t.2).map _=_
    rw [Wz]
theorem Q76 (hD:D.OK) (k:AK U) (v:k.Ty) (ver:Nat):QX (GK k v ver).items=k.sz:=by
 cases k with
 | stc t=>show (U.E t).sz+0=_;rfl
 | _=>rfl
theorem X7 {x:TTV U}:∀ {ls:List Loc} {q:Nat×TTV U},q∈Uh x ls→q.2=x∧Loc.reg q.1∈ls∧q.1∈Q37 ls
 | .reg r::ls,q,h=>by
  rcases Cq.1 h with e | h
  ·rw [e];exact ⟨rfl,Ci ..,Ci ..⟩
  ·obtain ⟨h1,h2,h3⟩:=X7 h
   exact ⟨h1,Ch _ h2,Ch _ h3⟩
 | .cell i off::ls,q,h=>by
  obtain ⟨h1,h2,h3⟩:=X7 (show q∈Uh x ls from h)
  exact ⟨h1,Ch _ h2,h3⟩
theorem X5 {xs:List (It U)}:∀ {ls:List Loc} {q:Nat×Nat×List (It U)},q∈DS xs ls→q.2.2=xs∧Loc.cell q.1 q.2.1∈ls
 | .reg r::ls,q,h=>by
  obtain ⟨h1,h2⟩:=X5 (show q∈DS xs ls from h)
  exact ⟨h1,Ch _ h2⟩
 | .cell i off::ls,q,h=>by
  rcases Cq.1 h with e | h
  ·rw [e];exact ⟨rfl,Ci ..⟩
  ·obtain ⟨h1,h2⟩:=X5 h
   exact ⟨h1,Ch _ h2⟩
theorem Ue (hD:D.OK) (xs:List (It U)) (n:Nat) (hn:QX xs=n):∀ ls:List Loc,(DS xs ls).map (fun q=>(q.1,q.2.1,QX q.2.2))=Q0o n ls
 | []=>rfl
 | .reg r::ls=>Ue hD xs n hn ls
 | .cell i off::ls=>by
  show (i,off,QX xs)::_=(i,off,n)::_
  rw [Ue hD xs n hn ls,hn]
theorem Gn (hD:D.OK) (tk:List (Nat×TTok U)) {sl:List (List Loc×AK U)} {t:tup (sl.map (·.2))}:(Xk tk (vals sl t)).map (fun q=>(q.1,q.2.1,QX q.2.2))=Yn sl:=by
 have e:Yn sl=(vals sl t).flatMap fun p=>Q0o p.2.1.sz p.1:=by
  have:=congrArg (fun l:List (List Loc×AK U)=>l.flatMap fun p=>Q0o p.2.sz p.1) (Wz (sl:=sl) (t:=t))
  rw [← show _=Yn sl from this,Sa]
 rw [e]
 unfold Xk
 rw [List.map_flatMap]
 congr 1
 funext p
 exact Ue hD _ _ (Q76 hD p.2.1 p.2.2 _) p.1
theorem Uu (tk:List (Nat×TTok U)) {sl:List (List Loc×AK U)} {t:tup (sl.map (·.2))}:(Qbm tk (vals sl t)).map (·.1)=Y7 sl:=by
 have e:Y7 sl=(vals sl t).flatMap fun p=>Q4v p.2.1:=by
  have:=congrArg (fun l:List (List Loc×AK U)=>l.flatMap fun p=>Q4v p.2) (Wz (sl:=sl) (t:=t))
  rw [← show _=Y7 sl from this,Sa]
 rw [e]
 unfold Qbm
 rw [List.map_flatMap]
 congr 1
 funext p
 obtain ⟨ls,k,v⟩:=p
 cases k <;> rfl
theorem Qc4 {xs:List CA} {cs:List C} (h:CSubs xs cs):LW xs (cs.map .d):=by
 refine ⟨by rw [Cm];exact h.len,fun k x y hx hy=>?_⟩
 rw [Cl] at hy
 cases hc:cs[k]? with
 | none=>rw [hc] at hy;cases hy
 | some c =>
  rw [hc] at hy;cases hy
  obtain ⟨x',hx',hs⟩:=h.get k c hc
  rw [hx] at hx';cases hx'
  exact fun V w v hv=>(show Reads V.S w c v from hs.reads hv)
theorem SlE.sub {α:Type} [Enc α] {y:CA} {l:List α} (h:SlE y l):CW y (.d (.sl (Enc.sz α) (Enc.encL l))):=fun V w v hv=>(show Reads V.S w _ v from h.sl.reads hv)
theorem Q7u {x y:CA} (h:CW x y):LW [x] [y]:=by
 refine ⟨Z,fun k a b ha hb=>?_⟩
 cases k with
 | zero=>cases ha;cases hb;exact h
 | succ k=>simp at ha
theorem grp_LW (hD:D.OK) {tk tk':List (Nat×TTok U)} {t:U.T} {xs:List (It U)} {v:U.R t} (h:Q4r D tk t xs=some v):LW (Jf D tk xs) (Jf D tk' [.grp t v]):=by
 have e:Jf D tk' [It.grp t v]=((U.E t).enc v).map .d:=by
  unfold Jf
  rw [KT,Q74 hD]
 rw [e]
 exact Qc4 (Q2l hD h)
theorem int_LW {tk tk':List (Nat×TTok U)} {k:IntKind} {x:TAV U} {v:Int} (h:Q4l k x=some v):LW (Jf D tk x.items) (Jf D tk' [.one (.c (.v (.int k v)))]):=by
 unfold Q4l at h
 split at h
 ·rename_i k0 a
  cases hk:decide (k0=k) with
  | false=>rw [hk] at h;cases h
  | true =>
   rw [hk] at h;cases h
   have e:=CH hk
   subst e
   exact LW.refl _
 ·cases h
theorem bool_LW {tk tk':List (Nat×TTok U)} {x:TAV U} {v:Bool} (h:Du x=some v):LW (Jf D tk x.items) (Jf D tk' [.one (.c (.v (.bool v)))]):=by
 unfold Du at h
 split at h
 ·cases h;exact LW.refl _
 ·cases h
theorem str_LW {tk tk':List (Nat×TTok U)} {x:TAV U} {v:Qrl} (h:Q4k x=some v):LW (Jf D tk x.items) (Jf D tk' [.one (.c (.str v))]):=by
 unfold Q4k at h
 split at h
 ·cases h;exact LW.refl _
 ·cases h
theorem ptr_LW {tk tk':List (Nat×TTok U)} {i off:Nat} {x:TAV U} {v:Unit} (h:Qe0 i off x=some v):LW (Jf D tk x.items) (Jf D tk' [.one (.ptr i off)]):=by
 unfold Qe0 at h
 split at h
 ·rename_i j o
  cases hb:(Nat.beq j i&&Nat.beq o off) with
  | false=>rw [hb] at h;cases h
  | true =>
   obtain ⟨b1,b2⟩:=C0.1 hb
   have e1:=C4 b1
   have e2:=C4 b2
   subst e1;subst e2
   exact LW.refl _
 ·cases h
theorem any_LW {tk tk':List (Nat×TTok U)} {x:TAV U} {v:Unit} (h:Qka x=some v):LW (Jf D tk x.items) (Jf D tk' [.one (.raw .any)]):=by
 cases x with
 | one x=>exact Q7u fun V w v hv=>CA.rel.one hv
 | agg xs=>cases h
theorem sl_LW {tk tk':List (Nat×TTok U)} {t:U.T} {x:TAV U} {l:List (U.R t)} (h:G5 tk t (.v x)=some l):LW (Jf D tk x.items) (Jf D tk' [.one (.c (.sl t l))]):=by
 obtain ⟨y,hy,hs⟩:=Xp (D:=D) h
 cases x with
 | one z =>
  have e:z.er tk=y:=by
   have:TV.v (.one (z.er tk))=.v (.one y):=hy
   cases this;rfl
  show LW [z.er tk] [_]
  rw [e]
  exact Q7u hs.sub
 | agg xs =>
  have:TV.v (.agg (Jf D tk xs))=.v (.one y):=hy
  cases this
theorem app_LW {tk tk':List (Nat×TTok U)} {i ver:Nat} {e:TypeId} {t:U.T} {x:TAV U} {l:List (U.R t)} (h:Wn tk i e t x=some l) (hc:cur tk' i ver=some ⟨e,t,l,ver⟩):LW (Jf D tk x.items) (Jf D tk' [.one (.app i ver)]):=by
 unfold Wn at h
 split at h
 ·rename_i j u
  split at h
  ·rename_i T hT
   cases hb:(Nat.beq j i&&Nat.beq T.E e) with
   | false=>rw [hb] at h;cases h
   | true =>
    rw [hb,C6] at h
    obtain ⟨b1,b2⟩:=C0.1 hb
    have e1:=C4 b1
    obtain ⟨et,e2⟩:=YU h
    subst et;subst e1
    have e3:(TA.app j u:TA U).er tk=(TA.app j ver:TA U).er tk':=by
     show (match cur tk j u with
      | some T=>CA.app j (U.E T.t).sz ((U.E T.t).encL T.l)
      | none=>CA.any)=(match cur tk' j ver with
      | some T=>CA.app j (U.E T.t).sz ((U.E T.t).encL T.l)
      | none=>CA.any)
     rw [hT,hc,e2]
    show LW [(TA.app j u:TA U).er tk] [(TA.app j ver:TA U).er tk']
    rw [e3];exact LW.refl _
  ·cases h
 ·cases h
theorem Qk8 (hD:D.OK) {tk tk':List (Nat×TTok U)} {k:AK U} {x:TAV U} {v:k.Ty} {ver:Nat} (h:Qe2 D tk k x=some v) (ht:∀ p∈Ql4 k v ver,cur tk' p.1 ver=some p.2):LW (Jf D tk x.items) (Jf D tk' (GK k v ver).items):=by
 cases k with
 | int k=>exact int_LW h
 | bool=>exact bool_LW h
 | str=>exact str_LW h
 | sl t=>exact sl_LW h
 | app i e t=>exact app_LW h (ht _ (CG.2 rfl))
 | stc t=>exact grp_LW hD h
 | ptr i off=>exact ptr_LW h
 | any=>exact any_LW h
theorem Qgt (hD:D.OK) {tk tk':List (Nat×TTok U)} {k:AK U} {x:TAV U} {v:k.Ty} {ver:Nat} (h:Qe2 D tk k x=some v) (ht:∀ p∈Ql4 k v ver,cur tk' p.1 ver=some p.2) (hs:(∃ t y,k=.stc t∧x=.one y)→False) {V:Vu} {w:World} {u:Value} (hr:(x.er D tk).rel V w u):((GK k v ver).er D tk').rel V w u:=by
 have hl:=Qk8 (tk':=tk') hD h ht
 cases x with
 | one y =>
  have key:∀ z:TA U,LW (Jf D tk [.one y]) (Jf D tk' [.one z])→((TAV.one z).er D tk').rel V w u:=fun z hz=>hz.2 0 _ _ rfl rfl V w u hr
  cases k with
  | stc t=>exact (hs ⟨t,y,rfl,rfl⟩).elim
  | int k=>exact key _ hl
  | bool=>exact key _ hl
  | str=>exact key _ hl
  | sl t=>exact key _ hl
  | app i e t=>exact key _ hl
  | ptr i off=>exact key _ hl
  | any=>exact key _ hl
 | agg xs =>
  cases k with
  | stc t =>
   obtain ⟨vs,h1,h2⟩:=hr
   exact ⟨vs,h1,hl.rels h2⟩
  | int k=>cases h
  | bool=>cases h
  | str=>cases h
  | sl t=>cases h
  | app i e t=>cases h
  | ptr i off=>cases h
  | any=>cases h
end
end
noncomputable section
open Go.RowKit
section
variable {U:Univ} {D:Codec U}
theorem decApp_other {tk:List (Nat×TTok U)} {j u:Nat} {e:TypeId} {t:U.T} {x:TAV U} {l:List (U.R t)} (h:Wn tk j e t x=some l) (b2:(cur tk j u).isSome=true):Wn tk j e t (.one (.app j u))=some l:=by
 unfold Wn at h
 split at h
 ·rename_i j' u'
  split at h
  ·rename_i T hT
   cases hb:(Nat.beq j' j&&Nat.beq T.E e) with
   | false=>rw [hb] at h;cases h
   | true =>
    have e2:=C4 (C0.1 hb).1
    subst e2
    have hc:cur tk j' u=some T:=by
     unfold cur at hT b2 ⊢
     cases hlk:Qq8 tk j' with
     | none=>rw [hlk] at hT;cases hT
     | some T1 =>
      rw [hlk] at hT b2
      dsimp only at hT b2 ⊢
      cases q1:Nat.beq T1.ver u' with
      | false=>rw [q1] at hT;cases hT
      | true =>
       rw [q1] at hT;cases hT
       cases q2:Nat.beq T.ver u with
       | false=>rw [q2] at b2;cases b2
       | true=>rfl
    show (match cur tk j' u with
     | some T=>cond (Nat.beq j' j'&&Nat.beq T.E e) (Gg T.t t T.l) none
     | none=>none)=some l
    rw [hc]
    exact h
  ·cases h
 ·cases h
theorem Q88 {s:TSt U} {ls:List Loc} {k:AK U} {v:k.Ty} (h:Qnb D s ls k=some v):∀ l∈ls,∃ x,Xy D s l k.sz=some x∧Qe2 D s.m.tk k x=some v∧((∃ t y,k=.stc t∧x=.one y)→False):=by
 unfold Qnb at h
 split at h
 ·cases h
 ·rename_i l0 r
  split at h
  ·rename_i x hx
   cases hr:Qid D s x r k with
   | false=>rw [hr] at h;cases h
   | true =>
    rw [hr,C6] at h
    have hst:(∃ t y,k=.stc t∧x=.one y)→False:=by
     rintro ⟨t,y,rfl,rfl⟩
     cases hr
    intro l hl
    rcases Cq.1 hl with rfl | hl
    ·exact ⟨x,hx,h,hst⟩
    ·cases k with
     | app i e t =>
      have h1:=Cf.1 (show r.all (Q84 D s i)=true from hr) l hl
      unfold Q84 at h1
      split at h1
      ·rename_i j u hj
       obtain ⟨b1,b2⟩:=C0.1 h1
       have e1:=C4 b1
       subst e1
       refine ⟨_,hj,?_,fun ⟨_,_,e,_⟩=>by cases e⟩
       exact decApp_other h b2
      ·cases h1
     | int k=>rw [Pc.1 (show r.isEmpty=true from hr)] at hl;cases hl
     | bool=>rw [Pc.1 (show r.isEmpty=true from hr)] at hl;cases hl
     | str=>rw [Pc.1 (show r.isEmpty=true from hr)] at hl;cases hl
     | sl t=>rw [Pc.1 (show r.isEmpty=true from hr)] at hl;cases hl
     | ptr i off=>rw [Pc.1 (show r.isEmpty=true from hr)] at hl;cases hl
     | any=>rw [Pc.1 (show r.isEmpty=true from hr)] at hl;cases hl
     | stc t=>rw [Pc.1 (C0.1 (show (Qdp x&&r.isEmpty)=true from hr)).2] at hl;cases hl
  ·cases h
theorem rd1_ne {s:TSt U} {ls:List Loc} {k:AK U} {v:k.Ty} (h:Qnb D s ls k=some v):∃ l r,ls=l::r:=by
 cases ls with
 | nil=>cases h
 | cons l r=>exact ⟨l,r,rfl⟩
structure AtLab (D:Codec U) (h:Lab U) (st s:TSt U) (t:tup (h.sl.map (·.2))):Prop where
 sfx:Sfx st s
 wf:Qhw h st=true
 pk:GC D h st s=some t
theorem AtLab.parts {h:Lab U} {st s:TSt U} {t:tup (h.sl.map (·.2))} (a:AtLab D h st s t) :
  (∃ p,s.tm=p++st.tm∧∀ q∈p,q.1∈DR h.sl∨q.1∈h.dead)∧(∃ p,s.m.es=p++st.m.es∧∀ q∈p,Qle st.m.nx (Yn h.sl) q=true)∧(∃ p,s.m.tk=p++st.m.tk∧∀ q∈p,st.m.nx≤q.1∨q.1∈Y7 h.sl)∧Qnx D s h.sl=some t∧st.df=s.df:=by
 obtain ⟨⟨p1,e1⟩,⟨p2,e2⟩,⟨p3,e3⟩,_,_,_⟩:=a.sfx
 have hp:=a.pk
 unfold GC at hp
 cases hc:Qij h st s with
 | false=>rw [hc] at hp;cases hp
 | true =>
  rw [hc,C6] at hp
  unfold Qij at hc
  rw [e1,e2,e3,YY,YY,YY] at hc
  obtain ⟨c0,hc⟩:=C0.1 hc
  obtain ⟨c1,c23⟩:=C0.1 hc
  obtain ⟨c2,c3⟩:=C0.1 c23
  refine ⟨⟨p1,e1,fun q hq=>?_⟩,⟨p2,e2,fun q hq=>Cf.1 c2 q hq⟩,⟨p3,e3,fun q hq=>?_⟩,hp,Gr c0⟩
  ·rcases CM.1 (Cf.1 c1 q hq) with h | h
   ·exact .inl (S2.1 h)
   ·exact .inr (S2.1 h)
  ·rcases CM.1 (Cf.1 c3 q hq) with h | h
   ·exact .inl (C3 h)
   ·exact .inr (S2.1 h)
structure WfL (h:Lab U) (st:TSt U):Prop where
 tm:∀ p∈st.tm,p.2.belowB st.m.nx=true
 es:∀ e∈st.m.es,e.belowB st.m.nx=true
 tk:∀ p∈st.m.tk,p.1 < st.m.nx
 df:∀ i∈st.df.tail,i < st.m.nx
 cells:∀ p∈Yn h.sl,Qkb st.m.es p=true
 disj:disj (Yn h.sl)=true
 nd:Qo0 (Y7 h.sl)=true
 app:∀ i∈Y7 h.sl,Qme st i=true
 pt:∀ i∈Q2z h.sl,i < st.m.nx
theorem Q2p {h:Lab U} {st:TSt U} (hw:Qhw h st=true):WfL h st:=by
 unfold Qhw at hw
 obtain ⟨a1,hw⟩:=C0.1 hw
 obtain ⟨a2,hw⟩:=C0.1 hw
 obtain ⟨a3,hw⟩:=C0.1 hw
 obtain ⟨a4,hw⟩:=C0.1 hw
 obtain ⟨a5,hw⟩:=C0.1 hw
 obtain ⟨a6,hw⟩:=C0.1 hw
 obtain ⟨a7,hw⟩:=C0.1 hw
 obtain ⟨a8,a9⟩:=C0.1 hw
 exact ⟨Cf.1 a1,Cf.1 a2,fun p hp=>C3 (Cf.1 a3 p hp),fun i hi=>C3 (Cf.1 a4 i hi),Cf.1 a5,a6,a7,Cf.1 a8,fun i hi=>C3 (Cf.1 a9 i hi)⟩
theorem Q7q {x:TA U} {j u m:Nat} (h:x.hasApp j u=true) (hb:x.belowB m=true):j < m:=by
 cases x with
 | app i v =>
  have:=C4 (C0.1 (show (Nat.beq i j&&Nat.beq v u)=true from h)).1
  subst this
  exact C3 hb
 | c x=>cases h
 | ptr i off=>cases h
 | pel t x off=>cases h
 | fn f caps=>cases h
 | raw x=>cases h
theorem It.app_lt {x:It U} {j u m:Nat} (h:x.hasApp j u=true) (hb:x.belowB m=true):j < m:=by
 cases x with
 | one x=>exact Q7q h hb
 | grp t x=>cases h
theorem Ux {xs:List (It U)} {j u m:Nat} (h:xs.any (It.hasApp j u)=true) (hb:xs.all (It.belowB m)=true):j < m:=by
 obtain ⟨x,h1,h2⟩:=CS.1 h
 exact It.app_lt h2 (Cf.1 hb x h1)
theorem Q52 {x:TAV U} {j u m:Nat} (h:x.hasApp j u=true) (hb:x.belowB m=true):j < m:=by
 cases x with
 | one x=>exact Q7q h hb
 | agg xs=>exact Ux h hb
theorem UI {x:TTV U} {j u m:Nat} (h:x.hasApp j u=true) (hb:x.belowB m=true):j < m:=by
 cases x with
 | v x=>exact Q52 h hb
 | tup xs =>
  obtain ⟨x,h1,h2⟩:=CS.1 (show xs.any (TAV.hasApp j u)=true from h)
  exact Q52 h2 (Cf.1 (show xs.all (TAV.belowB m)=true from hb) x h1)
 | unk=>cases h
theorem Ev.app_lt {x:Ev U} {j u m:Nat} (h:x.hasApp j u=true) (hb:x.belowB m=true):j < m:=by
 cases x with
 | box i T xs=>exact Ux h (C0.1 hb).2
 | set i off xs=>exact Ux h hb
 | raw i B=>cases h
 | lp i s p tm nt ps a b d =>
  obtain ⟨q,h1,h2⟩:=CS.1 (show tm.any (fun p=>p.2.hasApp j u)=true from h)
  exact UI h2 (Cf.1 (C0.1 (C0.1 hb).2).2 q h1)
 | ls i xs =>
  obtain ⟨q,h1,h2⟩:=CS.1 (show xs.any (fun p=>p.2.hasApp j u)=true from h)
  exact UI h2 (Cf.1 (show xs.all (fun p=>p.2.belowB m)=true from hb) q h1)
theorem Q1r {x:TA U} {m:Nat} (tk:List (Nat×TTok U)) (hb:x.belowB m=true):(x.er tk).below m:=by
 cases x with
 | c x=>trivial
 | ptr i off=>exact C3 hb
 | pel t x off=>trivial
 | fn f caps=>exact fun p hp=>C3 (Cf.1 (show caps.all _=true from hb) p hp)
 | app i ver =>
  show (match cur tk i ver with
   | some T=>CA.app i (U.E T.t).sz ((U.E T.t).encL T.l)
   | none=>CA.any).below m
  cases cur tk i ver with
  | none=>trivial
  | some T=>exact C3 hb
 | raw x =>
  cases x with
  | yld L=>exact C3 hb
  | any=>trivial
  | _=>cases hb
theorem Q0k {xs:List (It U)} {m:Nat} (tk:List (Nat×TTok U)) (hb:xs.all (It.belowB m)=true):∀ x∈Jf D tk xs,x.below m:=by
 intro x hx
 obtain ⟨y,hy,rfl⟩:=Cw.1 hx
 obtain ⟨it,h1,h2⟩:=Pb.1 hy
 have h3:=Cf.1 hb it h1
 cases it with
 | one z=>rw [CG.1 h2];exact Q1r tk h3
 | grp t z=>obtain ⟨c,_,rfl⟩:=Cw.1 h2;trivial
theorem Xt {x:TAV U} {m:Nat} (tk:List (Nat×TTok U)) (hb:x.belowB m=true):(x.er D tk).below m:=by
 cases x with
 | one x=>exact Q1r tk hb
 | agg xs=>exact Q0k tk hb
theorem Xs {x:TTV U} {m:Nat} (tk:List (Nat×TTok U)) (hb:x.belowB m=true):(x.er D tk).below m:=by
 cases x with
 | v x=>exact Xt tk hb
 | tup xs =>
  intro y hy
  obtain ⟨z,hz,rfl⟩:=Cw.1 hy
  exact Xt tk (Cf.1 (show xs.all (TAV.belowB m)=true from hb) z hz)
 | unk=>trivial
theorem Qag:∀ (ys xs:List CA) (off:Nat) (z:CA),z∈setL xs off ys→z∈xs∨z∈ys
 | [],xs,off,z,h=>.inl h
 | y::ys,xs,off,z,h=>by
  rcases Qag ys _ _ z h with h | h
  ·rcases List.mem_or_eq_of_mem_set h with h | h
   ·exact .inl h
   ·exact .inr (by rw [h];exact Ci ..)
  ·exact .inr (Ch _ h)
theorem KV {tk:List (Nat×TTok U)} {m:Nat}:∀ {es:List (Ev U)},(∀ e∈es,e.belowB m=true)→∀ i B,Qq8 (Qg D tk es) i=some B→i < m∧B.below m
 | [],_,i,B,h=>by cases h
 | .box j T xs::es,hb,i,B,h=>by
  have h1:=hb _ (Ci ..)
  unfold Qg at h
  rw [Q1] at h
  split at h
  ·rename_i e;subst e;cases h
   obtain ⟨b1,b2⟩:=C0.1 h1
   exact ⟨C3 b1,Q0k tk b2⟩
  ·exact KV (fun e he=>hb e (Ch _ he)) i B h
 | .raw j B'::es,hb,i,B,h=>by
  have h1:=hb _ (Ci ..)
  unfold Qg at h
  rw [Q1] at h
  split at h
  ·rename_i e;subst e;cases h
   cases B' with
   | obj o=>exact ⟨C3 h1,trivial⟩
   | cells T xs=>cases h1
   | loop s p tm nt ps a b d=>cases h1
   | mp es clock=>cases h1
  ·exact KV (fun e he=>hb e (Ch _ he)) i B h
 | .lp j s p tm nt ps a b d::es,hb,i,B,h=>by
  have h1:=hb _ (Ci ..)
  unfold Qg at h
  rw [Q1] at h
  split at h
  ·rename_i e;subst e;cases h
   obtain ⟨b1,b23⟩:=C0.1 h1
   obtain ⟨b2,b3⟩:=C0.1 b23
   refine ⟨C3 b1,C3 b2,fun t x hx=>?_⟩
   rw [QN] at hx
   cases hz:Qq8 tm t with
   | none=>rw [hz] at hx;cases hx
   | some z=>rw [hz] at hx;cases hx;exact Xs tk (Cf.1 b3 _ (JR hz))
  ·exact KV (fun e he=>hb e (Ch _ he)) i B h
 | .ls j xs::es,hb,i,B,h=>by
  have h1:=hb _ (Ci ..)
  have ih:=KV (tk:=tk) (fun e he=>hb e (Ch _ he))
  unfold Qg at h
  split at h
  ·rename_i s p tm nt ps a b d hy
   rw [Q1] at h
   split at h
   ·rename_i e;subst e;cases h
    obtain ⟨c1,c2,c3⟩:=ih j _ hy
    refine ⟨c1,c2,fun t x hx=>?_⟩
    rw [Jt] at hx
    cases hz:Qq8 xs t with
    | none =>
     rw [QN,hz] at hx
     exact c3 t x hx
    | some z =>
     rw [QN,hz] at hx;cases hx
     exact Xs tk (Cf.1 (show xs.all (fun p=>p.2.belowB _)=true from h1) _ (JR hz))
   ·exact ih i B h
  ·exact ih i B h
 | .set j off xs::es,hb,i,B,h=>by
  have h1:=hb _ (Ci ..)
  have ih:=KV (tk:=tk) (fun e he=>hb e (Ch _ he))
  unfold Qg at h
  split at h
  ·rename_i T ys hy
   rw [Q1] at h
   split at h
   ·rename_i e;subst e;cases h
    obtain ⟨c1,c2⟩:=ih j _ hy
    refine ⟨c1,fun z hz=>?_⟩
    rcases Qag _ _ _ z hz with hz | hz
    ·exact c2 z hz
    ·exact Q0k tk h1 z hz
   ·exact ih i B h
  ·exact ih i B h
def BR (cs:List (Nat×Nat×Nat)) (i:Nat):Option HB→Option HB→Prop
 | none,none=>True
 | some A,some B=>(A=B)∨∃ T xs ys,A=.cells T xs∧B=.cells T ys∧xs.length=ys.length∧∀ k,Q8l cs i k=false→ys[k]?=xs[k]?
 | _,_=>False
theorem BR.refl (cs:List (Nat×Nat×Nat)) (i:Nat) (o:Option HB):BR cs i o o:=by
 cases o with
 | none=>trivial
 | some A=>exact .inl rfl
theorem ZK (hD:D.OK) {tk:List (Nat×TTok U)} {nx:Nat} {cs:List (Nat×Nat×Nat)} {es:List (Ev U)}:∀ (q:List (Ev U)),(∀ e∈q,Qle nx cs e=true)→∀ i,i < nx→BR cs i (Qq8 (Qg D tk es) i) (Qq8 (Qg D tk (q++es)) i)
 | [],_,i,_=>BR.refl ..
 | .box j T xs::q,h,i,hi=>by
  have hj:=C3 (h _ (Ci ..))
  have ih:=ZK hD (tk:=tk) (es:=es) q (fun e he=>h e (Ch _ he)) i hi
  show BR cs i (Qq8 (Qg D tk es) i) (Qq8 ((j,.cells T (Jf D tk xs))::Qg D tk (q++es)) i)
  rw [Q1,C5 (by omega)]
  exact ih
 | .raw j B::q,h,i,hi=>by
  have hj:=C3 (h _ (Ci ..))
  have ih:=ZK hD (tk:=tk) (es:=es) q (fun e he=>h e (Ch _ he)) i hi
  show BR cs i (Qq8 (Qg D tk es) i) (Qq8 ((j,B)::Qg D tk (q++es)) i)
  rw [Q1,C5 (by omega)]
  exact ih
 | .lp j s p tm nt ps a b d::q,h,i,hi=>by
  have hj:=C3 (h _ (Ci ..))
  have ih:=ZK hD (tk:=tk) (es:=es) q (fun e he=>h e (Ch _ he)) i hi
  show BR cs i (Qq8 (Qg D tk es) i) (Qq8 ((j,.loop s p (QI (TTV.er D tk) tm) nt ps a b d)::Qg D tk (q++es)) i)
  rw [Q1,C5 (by omega)]
  exact ih
 | .ls j xs::q,h,i,hi=>by
  have hj:=C3 (h _ (Ci ..))
  have ih:=ZK hD (tk:=tk) (es:=es) q (fun e he=>h e (Ch _ he)) i hi
  show BR cs i (Qq8 (Qg D tk es) i) (Qq8 (match Qq8 (Qg D tk (q++es)) j with
   | some (.loop s p tm nt ps a b d)=>(j,.loop s p (QI (TTV.er D tk) xs++tm) nt ps a b d)::Qg D tk (q++es)
   | _=>Qg D tk (q++es)) i)
  split
  ·rw [Q1,C5 (by omega)];exact ih
  ·exact ih
 | .set j off xs::q,h,i,hi=>by
  have hev:=h _ (Ci ..)
  have ih:=ZK hD (tk:=tk) (es:=es) q (fun e he=>h e (Ch _ he)) i hi
  show BR cs i (Qq8 (Qg D tk es) i) (Qq8 (match Qq8 (Qg D tk (q++es)) j with
   | some (.cells T ys)=>(j,.cells T (setL ys off (Jf D tk xs)))::Qg D tk (q++es)
   | _=>Qg D tk (q++es)) i)
  split
  ·rename_i T ys hy
   rw [Q1]
   by_cases e:j=i
   ·subst e
    rw [Cd rfl]
    have hin:∀ k,Q8l cs j k=false→(setL ys off (Jf D tk xs))[k]?=ys[k]?:=by
     intro k hk
     rw [XM,Zl hD]
     by_cases c:off≤k∧k < off+QX xs∧k < ys.length
     ·exfalso
      rcases CM.1 (show (Nat.ble nx j||(List.range (QX xs)).all fun p=>Q8l cs j (off+p))=true from hev) with h1 | h1
      ·have:=C3 h1;omega
      ·have:=Cf.1 h1 (k - off) (List.mem_range.2 (by omega))
       rw [show off+(k - off)=k by omega,hk] at this
       cases this
     ·rw [C5 c]
    rw [hy] at ih
    cases hA:Qq8 (Qg D tk es) j with
    | none=>rw [hA] at ih;exact ih.elim
    | some A =>
     rw [hA] at ih
     rcases ih with e1 | ⟨T',x1,y1,e1,e2,e3,e4⟩
     ·exact .inr ⟨T,ys,_,e1,rfl,(Jj ..).symm,hin⟩
     ·cases e2
      exact .inr ⟨T,x1,_,e1,rfl,by rw [Jj];exact e3,fun k hk=>(hin k hk).trans (e4 k hk)⟩
   ·rw [C5 e];exact ih
  ·exact ih
theorem Qaf (hD:D.OK) {tk:List (Nat×TTok U)} {es:List (Ev U)}:∀ (L:List (Nat×Nat×List (It U))),disj (L.map fun q=>(q.1,q.2.1,QX q.2.2))=true→∀ p∈L,∀ (T:TypeId) (ys:List CA),Qq8 (Qg D tk (L.map U2++es)) p.1=some (.cells T ys) →
  ∀ k,p.2.1≤k→k < p.2.1+QX p.2.2→k < ys.length→ys[k]?=(Jf D tk p.2.2)[k - p.2.1]?
 | [],_,p,hp,_,_,_=>by cases hp
 | q::L,hd,p,hp,T,ys,hy=>by
  intro k k1 k2 Qqd
  obtain ⟨d1,d2⟩:=C0.1 (show ((L.map fun q=>(q.1,q.2.1,QX q.2.2)).all _&&disj (L.map fun q=>(q.1,q.2.1,QX q.2.2)))=true from hd)
  have hq:Qg D tk ((q::L).map U2++es)=match Qq8 (Qg D tk (L.map U2++es)) q.1 with
   | some (.cells T ys)=>(q.1,.cells T (setL ys q.2.1 (Jf D tk q.2.2)))::Qg D tk (L.map U2++es)
   | _=>Qg D tk (L.map U2++es):=by
   show Qg D tk (.set q.1 q.2.1 q.2.2::(L.map U2++es))=_
   rfl
  rw [hq] at hy
  rcases Cq.1 hp with rfl | hp
  ·split at hy
   ·rename_i T0 y0 h0
    rw [Q1,Cd rfl] at hy
    cases hy
    rw [Jj] at Qqd
    rw [XM,Zl hD,Cd ⟨k1,k2,Qqd⟩]
   ·rename_i h0
    exact (h0 T ys hy).elim
  ·have ih:=Qaf hD (tk:=tk) (es:=es) L d2 p hp
   split at hy
   ·rename_i T0 y0 h0
    rw [Q1] at hy
    by_cases e:q.1=p.1
    ·rw [Cd e] at hy
     cases hy
     rw [e] at h0
     rw [Jj] at Qqd
     have h1:=Cf.1 d1 (p.1,p.2.1,QX p.2.2) (Cw.2 ⟨p,hp,rfl⟩)
     dsimp only at h1
     rw [e] at h1
     have h2:(Nat.ble (q.2.1+QX q.2.2) p.2.1||Nat.ble (p.2.1+QX p.2.2) q.2.1)=true:=by simpa using h1
     rw [XM,Zl hD,C5]
     ·exact ih _ y0 h0 k k1 k2 Qqd
     ·rcases CM.1 h2 with h3 | h3 <;> have:=C3 h3 <;> omega
    ·rw [C5 e] at hy
     exact ih T ys hy k k1 k2 Qqd
   ·exact ih T ys hy k k1 k2 Qqd
end
end
noncomputable section
open Go.RowKit
section
variable {U:Univ} {D:Codec U}
theorem W5 {α:Type}:∀ {l:List (Nat×α)} {i:Nat},Qq8 l i=none→∀ p∈l,p.1 ≠ i
  | (k,x)::l,i,h,p,hp=>by
    rw [Q1] at h
    split at h
    · cases h
    · rename_i hne
      rcases Cq.1 hp with rfl | hp
      · exact hne
      · exact W5 h p hp
theorem XP (x:TTV U):∀ ls:List Loc,(Uh x ls).map (·.1)=Q37 ls
 | []=>rfl
 | .reg r::ls=>by show r::(Uh x ls).map _=r::_;rw [XP x ls]
 | .cell i off::ls=>XP x ls
theorem labTm_keys (tk:List (Nat×TTok U)) {sl:List (List Loc×AK U)} {t:tup (sl.map (·.2))}:(Qg3 tk (vals sl t)).map (·.1)=DR sl:=by
 have e:DR sl=(vals sl t).flatMap fun p=>Q37 p.1:=by
  have:=congrArg (fun l:List (List Loc×AK U)=>l.flatMap fun p=>Q37 p.1) (Wz (sl:=sl) (t:=t))
  rw [← show _=DR sl from this,Sa]
 rw [e]
 unfold Qg3
 rw [List.map_flatMap]
 congr 1
 funext p
 exact XP _ p.1
variable {h:Lab U} {st s:TSt U} {t:tup (h.sl.map (·.2))}
abbrev Qrg (h:Lab U) (st:TSt U) (t:tup (h.sl.map (·.2))):List (Nat×TTok U):=Qbm st.m.tk (vals h.sl t)++st.m.tk
theorem Q3t (wf:WfL h st):∀ p∈vals h.sl t,∀ w∈Ql4 p.2.1 p.2.2 (WW st.m.tk p.2.1),Qq8 (Qrg h st t) w.1=some w.2∧cur (Qrg h st t) w.1 (WW st.m.tk p.2.1)=some w.2:=by
 intro p hp w hw
 have hm:(w.1,w.2)∈Qbm st.m.tk (vals h.sl t):=Pb.2 ⟨p,hp,hw⟩
 have h1:=Qm3 (by rw [Uu];exact wf.nd) hm
 have h2:Qq8 (Qrg h st t) w.1=some w.2:=by
  unfold Qrg
  rw [U3,h1]
 refine ⟨h2,?_⟩
 have hv:w.2.ver=WW st.m.tk p.2.1:=by
  obtain ⟨ls,k,v⟩:=p
  cases k with
  | app i e tt=>rw [CG.1 hw]
  | int k=>cases hw
  | bool=>cases hw
  | str=>cases hw
  | sl t=>cases hw
  | stc t=>cases hw
  | ptr i o=>cases hw
  | any=>cases hw
 unfold cur
 rw [h2]
 dsimp only
 rw [hv]
 simp
theorem Q99 {i:Nat} (hi:i∉Y7 h.sl):Qq8 (Qrg h st t) i=Qq8 st.m.tk i:=by
 unfold Qrg
 rw [U3,Q90 (fun p hp e=>hi (by
  rw [← Uu st.m.tk (t:=t)]
  exact Cw.2 ⟨p,hp,e⟩))]
theorem Qjh (wf:WfL h st) {i:Nat} (hi:i∈Y7 h.sl):∃ p∈vals h.sl t,∃ (e:TypeId) (tt:U.T) (l:List (U.R tt)),p.2=⟨.app i e tt,l⟩∧Qq8 (Qrg h st t) i=some ⟨e,tt,l,WW st.m.tk (.app i e tt)⟩:=by
 rw [← Uu st.m.tk (t:=t)] at hi
 obtain ⟨w,hw,rfl⟩:=Cw.1 hi
 obtain ⟨p,hp,hwp⟩:=Pb.1 hw
 have h1:=(Q3t (t:=t) wf p hp w hwp).1
 obtain ⟨ls,k,v⟩:=p
 cases k with
 | app i e tt =>
  rw [CG.1 hwp] at h1 ⊢
  exact ⟨_,hp,e,tt,v,Z,h1⟩
 | int k=>cases hwp
 | bool=>cases hwp
 | str=>cases hwp
 | sl t=>cases hwp
 | stc t=>cases hwp
 | ptr i o=>cases hwp
 | any=>cases hwp
theorem Qbl (a:AtLab D h st s t) {i:Nat} (hi:i∉Y7 h.sl) (hn:i < st.m.nx):Qq8 s.m.tk i=Qq8 st.m.tk i:=by
 obtain ⟨-,-,⟨p3,e3,Qqd⟩,-⟩:=a.parts
 rw [e3,U3,Q90 (fun p hp e=>by
  rcases Qqd p hp with q | q
  ·omega
  ·exact hi (by rw [← e];exact q))]
theorem Qbk (a:AtLab D h st s t) {P:Nat→Nat→Prop} (h1:∀ j u,P j u→j < st.m.nx) (h2:∀ i∈Y7 h.sl,¬ P i (QZ st.m.tk i)):TkW s.m.tk (Qrg h st t) P:=by
 have wf:=Q2p a.wf
 intro j u hp
 by_cases hj:j∈Y7 h.sl
 ·left
  obtain ⟨p,_,e,tt,l,_,hl⟩:=Qjh (t:=t) wf hj
  unfold cur
  rw [hl]
  dsimp only
  cases hb:Nat.beq (WW st.m.tk (AK.app j e tt)) u with
  | false=>rfl
  | true =>
   have e1:=C4 hb
   exact (h2 j hj (by
    have:P j (WW st.m.tk (AK.app j e tt)):=by rw [e1];exact hp
    exact this)).elim
 ·right
  unfold cur
  rw [Q99 hj,Qbl a hj (h1 j u hp)]
theorem memC_of {cs:List (Nat×Nat×Nat)} {i k:Nat} (h:Q8l cs i k=true):∃ c∈cs,c.1=i∧c.2.1≤k∧k < c.2.1+c.2.2:=by
 obtain ⟨c,hc,hb⟩:=CS.1 h
 obtain ⟨b1,b23⟩:=C0.1 hb
 obtain ⟨b2,b3⟩:=C0.1 b23
 exact ⟨c,hc,C4 b1,C3 b2,C3 b3⟩
theorem of_memC {cs:List (Nat×Nat×Nat)} {i k:Nat} {c:Nat×Nat×Nat} (hc:c∈cs) (h1:c.1=i) (h2:c.2.1≤k) (h3:k < c.2.1+c.2.2):Q8l cs i k=true :=
 CS.2 ⟨c,hc,C0.2 ⟨by rw [h1];simp,C0.2 ⟨Cb h2,Cb h3⟩⟩⟩
theorem lab_sets_ok (hD:D.OK) (st:TSt U) (t:tup (h.sl.map (·.2))):∀ e∈(Xk st.m.tk (vals h.sl t)).map U2,Qle st.m.nx (Yn h.sl) e=true:=by
 intro e he
 obtain ⟨q,hq,rfl⟩:=Cw.1 he
 have hc:(q.1,q.2.1,QX q.2.2)∈Yn h.sl:=by
  rw [← Gn hD st.m.tk (t:=t)]
  exact Cw.2 ⟨q,hq,Z⟩
 refine CM.2 (.inr (Cf.2 fun k hk=>?_))
 have:=List.mem_range.1 hk
 exact of_memC hc rfl (by dsimp only;omega) (by dsimp only;omega)
theorem UE {m:Nat} (k:AK U) (v:k.Ty) (ver:Nat) (h:∀ i∈Q4v k,i < m) (h2:∀ i∈Qar k,i < m):(GK k v ver).belowB m=true:=by
 cases k with
 | app i e tt=>exact Cb (h i (CG.2 rfl))
 | int k=>rfl
 | bool=>rfl
 | str=>rfl
 | sl t=>rfl
 | stc t=>rfl
 | ptr i o=>exact Cb (h2 i (CG.2 rfl))
 | any=>rfl
theorem TAV.items_below {m:Nat} {x:TAV U} (h:x.belowB m=true):x.items.all (It.belowB m)=true:=by
 cases x with
 | one x=>show (It.belowB m (.one x)&&true)=true;rw [Bool.and_true];exact h
 | agg xs=>exact h
theorem Q6s (wf:WfL h st):(∀ p∈(lab h st t).tm,p.2.belowB st.m.nx=true)∧∀ e∈(lab h st t).m.es,e.belowB st.m.nx=true:=by
 have happ:∀ p∈vals h.sl t,∀ i∈Q4v p.2.1,i < st.m.nx:=fun p hp i hi=>by
  have:i∈Y7 h.sl:=by
   have e:Y7 h.sl=(vals h.sl t).flatMap fun p=>Q4v p.2.1:=by
    have:=congrArg (fun l:List (List Loc×AK U)=>l.flatMap fun p=>Q4v p.2) (Wz (sl:=h.sl) (t:=t))
    rw [← show _=Y7 h.sl from this,Sa]
   rw [e]
   exact Pb.2 ⟨p,hp,hi⟩
  exact C3 (C0.1 (wf.app i this)).1
 have hptr:∀ p∈vals h.sl t,∀ i∈Qar p.2.1,i < st.m.nx:=fun p hp i hi=>by
  have:i∈Q2z h.sl:=by
   have e:Q2z h.sl=(vals h.sl t).flatMap fun p=>Qar p.2.1:=by
    have:=congrArg (fun l:List (List Loc×AK U)=>l.flatMap fun p=>Qar p.2) (Wz (sl:=h.sl) (t:=t))
    rw [← show _=Q2z h.sl from this,Sa]
   rw [e]
   exact Pb.2 ⟨p,hp,hi⟩
  exact wf.pt i this
 refine ⟨fun p hp=>?_,fun e he=>?_⟩
 ·rcases CQ.1 hp with hp | hp
  ·rcases CQ.1 hp with hp | hp
   ·obtain ⟨q,hq,hm⟩:=Pb.1 hp
    rw [(X7 hm).1]
    exact UE _ _ _ (happ q hq) (hptr q hq)
   ·obtain ⟨r,_,rfl⟩:=Cw.1 hp
    rfl
  ·exact wf.tm p hp
 ·rcases CQ.1 he with he | he
  ·obtain ⟨q,hq,rfl⟩:=Cw.1 he
   obtain ⟨p,hp,hm⟩:=Pb.1 hq
   have h1:=(X5 hm).1
   show q.2.2.all (It.belowB st.m.nx)=true
   rw [h1]
   exact TAV.items_below (UE _ _ _ (happ p hp) (hptr p hp))
  ·exact wf.es e he
theorem Q39 {i off n:Nat} {x:TAV U} (hx:Xy D s (.cell i off) n=some x):WZ D s.m.es i off n=some x.items:=by
 unfold Xy at hx
 dsimp only at hx
 split at hx
 ·rename_i y hy;cases hx;exact hy
 ·rename_i xs hne hxs;cases hx;exact hxs
 ·cases hx
theorem Q5x {r n:Nat} {x:TAV U} (hx:Xy D s (.reg r) n=some x):Qq8 s.tm r=some (.v x):=by
 unfold Xy at hx
 dsimp only at hx
 split at hx
 ·rename_i y hy;cases hx;exact hy
 ·cases hx
theorem lab_hp (hD:D.OK) (a:AtLab D h st s t):∀ i B,Qq8 (Qg D (Qrg h st t) ((Xk st.m.tk (vals h.sl t)).map U2++st.m.es)) i=some B→∃ A,Qq8 (Qg D s.m.tk s.m.es) i=some A∧∀ V w o,A.rel V w o→B.rel V w o:=by
 have wf:=Q2p a.wf
 obtain ⟨-,⟨p2,e2,k2⟩,-,hrd,-⟩:=a.parts
 have hv:=Q26 hrd
 intro i B hB
 have hi:i < st.m.nx:=(KV (Q6s (t:=t) wf).2 i B hB).1
 have brL:=ZK hD (tk:=Qrg h st t) (es:=st.m.es) _ (lab_sets_ok hD st t) i hi
 have brS:=ZK hD (tk:=s.m.tk) (es:=st.m.es) p2 k2 i hi
 rw [← e2] at brS
 have ow:=YT (D:=D) (es:=st.m.es) (tk:=s.m.tk) (tk':=Qrg h st t) (Qbk a (fun j u hp=>by
   obtain ⟨e,he,hp⟩:=CS.1 hp
   exact Ev.app_lt hp (wf.es e he)) (fun i hi hp=>by
   have h1:=(C0.1 (wf.app i hi)).2
   have h2:=(C0.1 h1).2
   rw [hp] at h2
   cases h2)) i
 rw [hB] at brL
 cases hX:Qq8 (Qg D (Qrg h st t) st.m.es) i with
 | none=>rw [hX] at brL;exact brL.elim
 | some X =>
  rw [hX] at brL ow
  cases hY:Qq8 (Qg D s.m.tk st.m.es) i with
  | none=>rw [hY] at ow;exact ow.elim
  | some Y =>
   rw [hY] at brS ow
   cases hA:Qq8 (Qg D s.m.tk s.m.es) i with
   | none=>rw [hA] at brS;exact brS.elim
   | some A =>
    rw [hA] at brS
    refine ⟨A,Z,?_⟩
    have cellsX:(∃ T xs0,X=.cells T xs0)∨BW A B:=by
     cases X with
     | cells T xs0=>exact .inl ⟨T,xs0,rfl⟩
     | obj o =>
      right
      rcases brL with e | ⟨T,x1,y1,e,_⟩
      ·rcases brS with e3 | ⟨T,x1,y1,e3,_⟩
       ·have ow2:BW Y _:=ow
        rw [← e3,← e];exact ow2
       ·subst e3;cases ow
      ·cases e
     | loop st1 pp tm nt ps asg body DD =>
      right
      rcases brL with e | ⟨T,x1,y1,e,_⟩
      ·rcases brS with e3 | ⟨T,x1,y1,e3,_⟩
       ·have ow2:BW Y _:=ow
        rw [← e3,← e];exact ow2
       ·subst e3;cases ow
      ·cases e
     | mp es clock =>
      right
      rcases brL with e | ⟨T,x1,y1,e,_⟩
      ·rcases brS with e3 | ⟨T,x1,y1,e3,_⟩
       ·have ow2:BW Y _:=ow
        rw [← e3,← e];exact ow2
       ·subst e3;cases ow
      ·cases e
    rcases cellsX with ⟨T,xs0,rfl⟩ | e
    ·obtain ⟨xs,rfl,l1,g1⟩:∃ xs,B=.cells T xs∧xs.length=xs0.length∧∀ k,Q8l (Yn h.sl) i k=false→xs[k]?=xs0[k]?:=by
      rcases brL with e | ⟨T',x1,y1,e,e',l,g⟩
      ·exact ⟨xs0,e.symm,rfl,fun _ _=>rfl⟩
      ·cases e;exact ⟨y1,e',l.symm,g⟩
     obtain ⟨ys0,rfl,hl0⟩:∃ ys0,Y=.cells T ys0∧LW ys0 xs0:=by
      have ow':BW Y (.cells T xs0):=ow
      cases ow' with
      | refl=>exact ⟨xs0,rfl,LW.refl _⟩
      | cells hl=>exact ⟨_,rfl,hl⟩
     obtain ⟨ys,rfl,l2,Qqm⟩:∃ ys,A=.cells T ys∧ys.length=ys0.length∧∀ k,Q8l (Yn h.sl) i k=false→ys[k]?=ys0[k]?:=by
      rcases brS with e | ⟨T',x1,y1,e,e',l,g⟩
      ·exact ⟨ys0,e.symm,rfl,fun _ _=>rfl⟩
      ·cases e;exact ⟨y1,e',l.symm,g⟩
     intro V w o hr
     refine BW.rel (.cells ⟨by rw [l2,hl0.1,l1],fun k x y hx hy=>?_⟩) hr
     cases hm:Q8l (Yn h.sl) i k with
     | false =>
      rw [Qqm k hm] at hx
      rw [g1 k hm] at hy
      exact hl0.2 k x y hx hy
     | true =>
      obtain ⟨c,hc,c1,c2,c3⟩:=memC_of hm
      have hc':=hc
      rw [← Gn hD st.m.tk (t:=t)] at hc'
      obtain ⟨q,hq,rfl⟩:=Cw.1 hc'
      dsimp only at c1 c2 c3
      have hyl:k < xs.length:=(Cg.1 hy).1
      have hset:=Qaf hD (tk:=Qrg h st t) (es:=st.m.es) (Xk st.m.tk (vals h.sl t)) (by rw [Gn hD];exact wf.disj) q hq T xs (by rw [c1];exact hB) k c2 c3 hyl
      rw [hset] at hy
      obtain ⟨p,hp,hm⟩:=Pb.1 hq
      obtain ⟨q1,q2⟩:=X5 hm
      obtain ⟨z,hz,hdec,-⟩:=Q88 (hv p hp) _ q2
      obtain ⟨T1,zs,r1,r2,r3⟩:=Yj hD (tk:=s.m.tk) (Q39 hz)
      have hlw:=Qk8 (tk':=Qrg h st t) (ver:=WW st.m.tk p.2.1) hD hdec (fun w hw=>(Q3t (t:=t) wf p hp w hw).2)
      rw [← q1,← r3] at hlw
      rw [c1,hA] at r1
      cases r1
      have hsz:QX q.2.2=p.2.1.sz:=by rw [q1];exact Q76 hD _ _ _
      refine hlw.2 (k - q.2.1) x y ?_ hy
      rw [Pd,Cd (by omega),CY,show q.2.1+(k - q.2.1)=k by omega]
      exact hx
    ·intro V w o hr
     exact BW.rel e hr
theorem lab_tm (hD:D.OK) (a:AtLab D h st s t):∀ r y,Qq8 (QI (TTV.er D (Qrg h st t)) (lab h st t).tm) r=some y→y=.unk∨∃ x,Qq8 (QI (TTV.er D s.m.tk) s.tm) r=some x∧∀ V w v,x.rel V w v→y.rel V w v:=by
 have wf:=Q2p a.wf
 obtain ⟨⟨p1,e1,k1⟩,-,-,hrd,-⟩:=a.parts
 have hv:=Q26 hrd
 intro r y hy
 rw [QN] at hy
 unfold lab at hy
 dsimp only at hy
 rw [U3,U3] at hy
 cases h1:Qq8 (Qg3 st.m.tk (vals h.sl t)) r with
 | some y0 =>
  rw [h1] at hy
  cases hy
  right
  obtain ⟨p,hp,hm⟩:=Pb.1 (JR h1)
  obtain ⟨m1,m2,-⟩:=X7 hm
  dsimp only at m1 m2
  obtain ⟨x,hx,hdec,hns⟩:=Q88 (hv p hp) _ m2
  refine ⟨TV.v (x.er D s.m.tk),by rw [QN,Q5x hx];rfl,fun V w v hr=>?_⟩
  rw [m1]
  exact Qgt hD hdec (fun w hw=>(Q3t (t:=t) wf p hp w hw).2) hns hr
 | none =>
  rw [h1] at hy
  cases h2:Qq8 (h.dead.map fun r=>(r,(TTV.unk:TTV U))) r with
  | some y0 =>
   rw [h2] at hy
   cases hy
   obtain ⟨q,_,hq⟩:=Cw.1 (JR h2)
   cases hq
   exact .inl Z
  | none =>
   rw [h2] at hy
   have hr1:r∉DR h.sl:=fun hm=>by
    rw [← labTm_keys st.m.tk (t:=t)] at hm
    obtain ⟨q,hq,e⟩:=Cw.1 hm
    exact W5 h1 q hq e
   have hr2:r∉h.dead:=fun hm=>W5 h2 (r,.unk) (Cw.2 ⟨r,hm,rfl⟩) rfl
   have hs:Qq8 s.tm r=Qq8 st.tm r:=by
    rw [e1,U3,Q90 (fun p hp e=>by
     rcases k1 p hp with q | q
     ·exact hr1 (by rw [← e];exact q)
     ·exact hr2 (by rw [← e];exact q))]
   cases h3:Qq8 st.tm r with
   | none=>rw [h3] at hy;cases hy
   | some y0 =>
    rw [h3] at hy
    cases hy
    right
    refine ⟨y0.er D s.m.tk,by rw [QN,hs,h3];rfl,fun V w v hr=>?_⟩
    have hmem:=JR h3
    exact ZN (Qbk a (fun j u hp=>UI hp (wf.tm _ hmem)) (fun i hi hp=>by
     have q1:=(C0.1 (wf.app i hi)).2
     have q2:=(C0.1 q1).1
     have q3:st.tm.any (fun p=>p.2.hasApp i (QZ st.m.tk i))=true:=CS.2 ⟨_,hmem,hp⟩
     rw [q3] at q2
     cases q2)) hr
theorem lab_tk (a:AtLab D h st s t):∀ i T,Qq8 (XE (Qrg h st t)) i=some (some T)→Qq8 (XE s.m.tk) i=some (some T):=by
 have wf:=Q2p a.wf
 obtain ⟨-,-,-,hrd,-⟩:=a.parts
 have hv:=Q26 hrd
 intro i T hT
 have hT':Qq8 (QI TTok.erO (Qrg h st t)) i=some (some T):=hT
 show Qq8 (QI TTok.erO s.m.tk) i=some (some T)
 rw [QN] at hT' ⊢
 by_cases hi:i∈Y7 h.sl
 ·obtain ⟨p,hp,e,tt,l,hpe,hl⟩:=Qjh (t:=t) wf hi
  rw [hl] at hT'
  have hr:=hv p hp
  obtain ⟨ls,kv⟩:=p
  dsimp only at hpe hr
  subst hpe
  obtain ⟨l0,r0,hls⟩:=rd1_ne hr
  obtain ⟨x,hx,hdec,-⟩:=Q88 hr l0 (by rw [hls];exact Ci ..)
  have hdec':Wn s.m.tk i e tt x=some l:=hdec
  unfold Wn at hdec'
  split at hdec'
  ·rename_i j u
   split at hdec'
   ·rename_i T1 hc
    cases hb:(Nat.beq j i&&Nat.beq T1.E e) with
    | false=>rw [hb] at hdec';cases hdec'
    | true =>
     rw [hb,C6] at hdec'
     obtain ⟨b1,b2⟩:=C0.1 hb
     have ej:=C4 b1
     have eE:=C4 b2
     obtain ⟨et,el⟩:=YU hdec'
     subst et;subst ej
     have hlk:Qq8 s.m.tk j=some T1:=by
      unfold cur at hc
      split at hc
      ·rename_i T0 h0
       cases hq:Nat.beq T0.ver u with
       | false=>rw [hq] at hc;cases hc
       | true=>rw [hq] at hc;cases hc;exact h0
      ·cases hc
     rw [hlk]
     have h':=Cv hT'
     show some T1.erO=some (some T)
     rw [← h']
     unfold TTok.erO TTok.er
     rw [eE,el]
   ·cases hdec'
  ·cases hdec'
 ·rw [Q99 hi] at hT'
  have hn:i < st.m.nx:=by
   cases hq:Qq8 st.m.tk i with
   | none=>rw [hq] at hT';cases hT'
   | some T0=>exact wf.tk _ (JR hq)
  rw [Qbl a hi hn];exact hT'
theorem W7 (hD:D.OK) (a:AtLab D h st s t) {E:Env} (h0:E.V0.nx≤st.m.nx):To E (s.er D) ((lab h st t).er D):=by
 have wf:=Q2p a.wf
 have hsf:=a.sfx
 intro V ac w hr
 have hdf:st.df=s.df:=a.parts.2.2.2.2
 have hW:StW (s.er D) ⟨QI (TTV.er D (Qrg h st t)) (lab h st t).tm,Qg D (Qrg h st t) ((Xk st.m.tk (vals h.sl t)).map U2++st.m.es),XE (Qrg h st t),s.m.nx,st.nt,st.df⟩ :=
  ⟨lab_tm hD a,lab_hp hD a,lab_tk a,rfl,hsf.nt.symm,hdf⟩
 have hb:=Q6s (t:=t) wf
 refine Rel.trimTo (m:=st.m.nx) (hr.weak hW) ⟨fun r x hx=>?_,fun i B hB=>KV hb.2 i B hB,fun i T hT=>?_,fun i hi=>?_⟩ h0
 ·have hx':Qq8 (QI (TTV.er D (Qrg h st t)) (lab h st t).tm) r=some x:=hx
  rw [QN] at hx'
  cases hy:Qq8 (lab h st t).tm r with
  | none=>rw [hy] at hx';cases hx'
  | some y=>rw [hy] at hx';cases hx';exact Xs _ (hb.1 _ (JR hy))
 ·have hT':Qq8 (QI TTok.erO (Qrg h st t)) i=some (some T):=hT
  rw [QN] at hT'
  by_cases hi:i∈Y7 h.sl
  ·exact C3 (C0.1 (wf.app i hi)).1
  ·rw [Q99 hi] at hT'
   cases hq:Qq8 st.m.tk i with
   | none=>rw [hq] at hT';cases hT'
   | some T0=>exact wf.tk _ (JR hq)
 ·exact wf.df i hi
theorem Y8 (st:TSt U) (t:tup (h.sl.map (·.2))):Sfx st (lab h st t):=⟨⟨_,rfl⟩,⟨_,rfl⟩,⟨_,rfl⟩,Ck _,rfl,.inr rfl⟩
end
end
noncomputable section
open Go.RowKit
theorem Wv {E:Env} {o:Oper} {a b:St} {x:TV} {m:Mem} (h:StW a b) (k:OpOK E o b x m):OpOK E o a x m:=fun V ac w hr=>k V ac w (hr.weak h)
theorem Q0u {E:Env} {o:Oper} {a:St} {x:TV} {m m':Mem} (hh:∀ i B,Qq8 m'.hp i=some B→∃ A,Qq8 m.hp i=some A∧∀ V w o,A.rel V w o→B.rel V w o) (ht:∀ i T,Qq8 m'.tk i=some (some T)→Qq8 m.tk i=some (some T)) (hn:m'.nx=m.nx) (k:OpOK E o a x m):OpOK E o a x m' :=
 fun V ac w hr ro n K Q hK=>k V ac w hr ro n K Q fun V' w' v H e L hv=>hK V' w' v (H.weak hh ht) (e.trans hn.symm) L hv
def Q4q (ops:Array Oper) (i:Nat):List Nat:=(List.range ops.size).filterMap fun j=>match Jg ops j with
 | some d=>cond ((Qu ops i).contains j||(Qu ops j).contains i) none (some d)
 | none=>none
section
variable {U:Univ} (D:Codec U) (C:TCfg U) (K:FuncId→List (TAV U)→Option (KR U)) (X:Qr2 U) (Y:Qr1 U)
def KW (ops:Array Oper) (i:Nat) (st:TSt U):TSt U:=⟨st.tm.filter fun p=>!((Q4q ops i).contains p.1),st.m,st.nt,st.df⟩
def Qge (o:Oper):Bool:=match o.op with
 | .call c=>match c.callee with
  | .value _=>true
  | _=>false
 | _=>false
def Wl {β:Type} (ops:Array Oper) (effs:List Nat) (i:Nat) (o:Oper) (st:TSt U) (p:Value→TMe U→Option β) (k:TSt U→(Bool→TMe U→Bool)→Option β):Option β :=
 match Ql3 D C (KW ops i st) o with
 | some r=>cond (JM st o.dst&&!(effs.contains i)) (r.run fun x=>k ⟨WS o.dst x st.tm,st.m,st.nt,st.df⟩ (Qfh D (KW ops i st).tm st.m o x)) none
 | none=>match Qnj D C K (KW ops i st) o with
  | some e=>e.run fun q=>cond (Q3e st (q.es++st.m.es) q.tk&&JM st o.dst&&Nat.ble st.m.nx q.nx) (cond (effs.contains i) (k (Q68 st o.dst q) fun _ _=>false) (match q.es,q.tk with
   | [],none=>cond (Nat.beq q.nx st.m.nx) (k ⟨WS o.dst q.x st.tm,st.m,st.nt,st.df⟩ fun up m'=>Qge o&&Qfh D (KW ops i st).tm st.m o q.x up m') none
   | _,_=>none)) none
  | none=>match Qh0 X Y (KW ops i st) o with
   | some xo=>cond (JM st o.dst&&effs.contains i) (xo.run (fun x m=>cond (Z0 (Wq m.tk st.m.tk) st.tm) (k ⟨WS o.dst x st.tm,m,st.nt,st.df⟩ fun _ _=>false) none) fun v m=>cond (Z0 (Wq m.tk st.m.tk) st.tm) (p v m) none) none
   | none=>none
def Q73 (ops:Array Oper) (effs:List Nat) (acc:List (Nat×(Bool→TMe U→Bool))) (ms:List (TMe U)):Bool :=
 (List.range ops.size).all fun i=>(List.range (effs.length+1)).all fun j=>!(Q1c ops effs i j)||(Nat.beq j (KO effs i)||(match Qq8 acc i,ms[j]? with
  | some c,some m=>c (Nat.blt (KO effs i) j) m
  | _,_=>false))
def Qdx (ops:Array Oper) (effs:List Nat):List (Nat×Nat):=(List.range ops.size).flatMap fun i=>((List.range (effs.length+1)).filter fun j=>Q1c ops effs i j&&!(Nat.beq j (KO effs i))).map fun j=>(i,j)
def Qbq (m:TMe U):TMe U:=⟨.raw m.nx (.obj (.deferred none))::m.es,m.tk,m.nx⟩
def Q1f (m:TMe U):Bool:=match m.es with
 | .raw n (.obj (.deferred none))::_=>Nat.ble m.nx n
 | _=>false
def Qc3 (effs:List Nat):Nat→List Oper→TMe U→List (TMe U)→List (TMe U)
 | _,[],_,ms=>ms
 | i,_::os,m,ms=>Qc3 effs (i+1) os m (cond (effs.contains i) (m::ms) ms)
def Qgx (effs:List Nat):Nat→List Oper→List (Nat×(Bool→TMe U→Bool))→List (Nat×(Bool→TMe U→Bool))
 | _,[],acc=>acc
 | i,_::os,acc=>Qgx effs (i+1) os ((i,fun _ m=>!(effs.contains i)&&Q1f m)::acc)
def Q7b {β:Type} (ops:Array Oper) (effs:List Nat) (i:Nat) (os:List Oper) (st:TSt U) (ms:List (TMe U)) (acc:List (Nat×(Bool→TMe U→Bool))) (p:Value→TSt U→Option β) (v:Value) (m:TMe U):Option β :=
 cond (os.all (fun o=>o.guard.isNone&&JM st o.dst)&&Q73 ops effs (Qgx effs (i+1) os ((i,fun _ _=>false)::acc)) (Qbq st.m::Qc3 effs (i+1) os (Qbq st.m) (st.m::ms)).reverse)
  (p v ⟨((Jl ops).map fun d=>(d,TTV.unk))++st.tm,m,st.nt,st.df⟩) none
def Kc {β:Type} (ops:Array Oper) (effs:List Nat) (p:Value→TSt U→Option β):Nat→List Oper→TSt U→List (TMe U)→List (Nat×(Bool→TMe U→Bool))→(TSt U→Option β)→Option β
 | _,[],st,ms,acc,k=>cond (Q73 ops effs acc (st.m::ms).reverse) (k st) none
 | i,o::os,st,ms,acc,k=>match o.guard with
  | none=>Wl D C K X Y ops effs i o st (Q7b ops effs i os st ms acc p) fun s c=>Kc ops effs p (i+1) os s (cond (effs.contains i) (st.m::ms) ms) ((i,c)::acc) k
  | some (j,b)=>match (ops[j]?).bind (·.dst) with
   | none=>none
   | some d=>cond ((Q4q ops i).contains d) none (match Qq8 st.tm d with
    | some (.v (.one (.c (.v (.bool c)))))=>cond c
     (cond b (Wl D C K X Y ops effs i o (setB st d true) (Q7b ops effs i os (setB st d true) ms acc p) fun s c=>Kc ops effs p (i+1) os s (cond (effs.contains i) (st.m::ms) ms) ((i,c)::acc) k) (cond (JM st o.dst) (Kc ops effs p (i+1) os (Ka o (setB st d true)) (cond (effs.contains i) (st.m::ms) ms) ((i,fun _ _=>!(effs.contains i))::acc) k) none))
     (cond b (cond (JM st o.dst) (Kc ops effs p (i+1) os (Ka o (setB st d false)) (cond (effs.contains i) (st.m::ms) ms) ((i,fun _ _=>!(effs.contains i))::acc) k) none) (Wl D C K X Y ops effs i o (setB st d false) (Q7b ops effs i os (setB st d false) ms acc p) fun s c=>Kc ops effs p (i+1) os s (cond (effs.contains i) (st.m::ms) ms) ((i,c)::acc) k))
    | some (.tup [])=>cond (JM st o.dst) (Kc ops effs p (i+1) os (Ka o st) (cond (effs.contains i) (st.m::ms) ms) ((i,fun _ _=>!(effs.contains i))::acc) k) none
    | _=>none)
def Qcu (st:TSt U):TSt U:=⟨(st.tm.map fun p=>(p.1,TTV.unk))++st.tm,st.m,st.nt,st.df⟩
def Qhn {β:Type} (ops:Array Oper) (effs:List Nat) (st0:TSt U) (p:Value→TSt U→Option β):Nat→List Oper→TSt U→Option β
 | _,[],_=>none
 | i,o::os,st=>match o.guard with
  | some _=>none
  | none=>match os with
   | []=>cond (effs.contains i&&JM st o.dst) (match Ql8 (KW ops i st) o with
    | some v=>p v (Qcu st0)
    | none=>none) none
   | _::_=>cond (effs.contains i) none (Wl D C K X Y ops effs i o st (fun _ _=>none) fun s _=>Qhn ops effs st0 p (i+1) os s)
def Q0a (ops:Array Oper):Bool:=match ops.toList.getLast? with
 | some o=>match o.op with
  | .panic _=>true
  | _=>false
 | none=>false
def Qc0 (ops:Array Oper) (effs:List Nat):Bool:=Q4y ops effs&&Qok ops effs (Qdx ops effs)&&Nat.beq ((List.range' 0 ops.size).filter effs.contains).length effs.length
variable {D C K X Y}
def Qri (y z:TV):Prop:=(∀ V w v,y.rel V w v→z.rel V w v)∧(((∃ c,z=Qr7 c)∨z=.tup [])→y=z)
theorem er_G {tk tk':List (Nat×TTok U)} {z:TTV U} (h:(∃ c,z.er D tk'=Qr7 c)∨z.er D tk'=.tup []):z.er D tk=z.er D tk':=by
 cases z with
 | unk=>rfl
 | tup xs =>
  cases xs with
  | nil=>rfl
  | cons x xs =>
   rcases h with ⟨c,h⟩ | h
   ·cases h
   ·cases h
 | v x =>
  rcases h with ⟨c,h⟩ | h
  ·cases x with
   | agg xs=>cases h
   | one x =>
    cases x with
    | app i u =>
     have h':(match cur tk' i u with
      | some T=>CA.app i (U.E T.t).sz ((U.E T.t).encL T.l)
      | none=>CA.any)=.d (.v (.bool c)):=AV.one.inj (TV.v.inj h)
     split at h' <;> cases h'
    | c x=>rfl
    | ptr i off=>rfl
    | pel t x off=>rfl
    | fn f caps=>rfl
    | raw x=>rfl
  ·cases h
structure DI (D:Codec U) (ops:Array Oper) (st0:St) (fx:List (Nat×TV)) (i:Nat) (st:TSt U):Prop where
 dn:∀ j,j < i→∃ y,Qq8 fx j=some y
 nd:∀ j,i≤j→Qq8 fx j=none
 tm:∀ t x,Qq8 st.tm t=some x→(∃ j y,j < i∧Jg ops j=some t∧Qq8 fx j=some y∧Qri y (x.er D st.m.tk))∨((∀ j,j < i→Jg ops j ≠ some t)∧∃ y,Qq8 st0.tm t=some y∧Qri y (x.er D st.m.tk))
 nt:st.nt=st0.nt
 df:st.df=st0.df
theorem nodup_dst {ops:Array Oper} (h:(Jl ops).Nodup) {j k d:Nat} (hj:Jg ops j=some d) (hk:Jg ops k=some d):j=k:=by
 have lt:∀ {j},Jg ops j=some d→j < ops.size:=fun {j} hj=>by
  rcases P1 j ops.size with h3 | h3
  ·exact h3
  ·simp [Jg,CZ h3] at hj
 have hp:∀ (l:List Nat),l.Nodup→(l.filterMap (Jg ops)).Nodup→j∈l→k∈l→j=k:=by
  intro l
  induction l with
  | nil=>intro _ _ h;cases h
  | cons p l ih =>
   intro hl hf hi hk'
   rw [CT] at hl
   rw [Pp] at hf
   rcases Cq.1 hi with rfl | hi2
   ·rcases Cq.1 hk' with rfl | hk2
    ·rfl
    ·rw [hj] at hf
     simp only [CT] at hf
     exact absurd (Pe (l:=l).2 ⟨k,hk2,hk⟩) hf.1
   ·rcases Cq.1 hk' with rfl | hk2
    ·rw [hk] at hf
     simp only [CT] at hf
     exact absurd (Pe (l:=l).2 ⟨j,hi2,hj⟩) hf.1
    ·refine ih hl.2 ?_ hi2 hk2
     split at hf
     ·exact hf
     ·exact (CT.1 hf).2
 exact hp (List.range ops.size) List.nodup_range h (by simpa using lt hj) (by simpa using lt hk)
theorem Q4d {ops:Array Oper} {fx:List (Nat×TV)}:∀ (js:List Nat) {j t:Nat} {y:TV},j∈js→Jg ops j=some t→Qq8 fx j=some y→∃ z,Qq8 (Ju ops fx js) t=some z
 | [],j,t,y,h,_,_=>by cases h
 | a::js,j,t,y,h,hd,hf=>by
  simp only [Ju,Pp]
  rcases Cq.1 h with rfl | h2
  ·rw [hd,hf]
   dsimp only
   rw [Q1,Cd rfl]
   exact ⟨_,Z⟩
  ·obtain ⟨z,hz⟩:=Q4d js h2 hd hf
   split
   ·exact ⟨z,hz⟩
   ·rename_i p hp
    obtain ⟨d,q⟩:=p
    rw [Q1]
    split
    ·exact ⟨_,rfl⟩
    ·exact ⟨z,hz⟩
theorem Qbw {ops:Array Oper} {fx:List (Nat×TV)} (h:(Jl ops).Nodup) {js:List Nat} {j t:Nat} {y:TV} (hj:j∈js) (hd:Jg ops j=some t) (hf:Qq8 fx j=some y):Qq8 (Ju ops fx js) t=some y:=by
 obtain ⟨z,hz⟩:=Q4d js hj hd hf
 obtain ⟨k,h1,h2,h3⟩:=GH js t z hz
 have:=nodup_dst h hd h2
 subst this
 rw [hf] at h3;cases h3;exact hz
theorem Q4e {ops:Array Oper} {fx:List (Nat×TV)} {js:List Nat} {t:Nat} (h:∀ j y,Jg ops j=some t→Qq8 fx j=some y→False):Qq8 (Ju ops fx js) t=none:=by
 cases hc:Qq8 (Ju ops fx js) t with
 | none=>rfl
 | some z=>obtain ⟨k,h1,h2,h3⟩:=GH js t z hc;exact (h k z h2 h3).elim
theorem Q94 {α:Type} {p:Nat→Bool}:∀ {l:List (Nat×α)} {t:Nat} {x:α},Qq8 (l.filter fun q=>p q.1) t=some x→p t=true∧Qq8 l t=some x
  | [],t,x,h=>by cases h
  | (k,v)::r,t,x,h=>by
    rw [CE] at h
    cases hp:p k with
    | true =>
      rw [Cd hp,Q1] at h
      rw [Q1]
      split at h
      · rename_i e;subst e;rw [Cd rfl];exact ⟨hp,h⟩
      · rename_i e;rw [C5 e];exact Q94 h
    | false =>
      rw [C5 (by rw [hp];exact Cn)] at h
      obtain ⟨h1,h2⟩:=Q94 h
      refine ⟨h1,?_⟩
      rw [Q1,C5]
      · exact h2
      · intro e;subst e;rw [hp] at h1;cases h1
theorem Q9i {α:Type} {p:Nat→Bool}:∀ {l:List (Nat×α)} {t:Nat} {x:α},p t=true→Qq8 l t=some x→Qq8 (l.filter fun q=>p q.1) t=some x
  | [],t,x,_,h=>by cases h
  | (k,v)::r,t,x,hp,h=>by
    rw [CE]
    rw [Q1] at h
    split at h
    · rename_i e;subst e;rw [Cd hp,Q1,Cd rfl];exact h
    · rename_i e
      have ih:=Q9i hp h
      split
      · rw [Q1,C5 e];exact ih
      · exact ih
theorem Qke {ops:Array Oper} {i t j:Nat} (h:(Q4q ops i).contains t=false) (hd:Jg ops j=some t) (hj:j < ops.size):j∈Qu ops i∨i∈Qu ops j:=by
 rw [Sq,decide_eq_false_iff_not] at h
 cases hc:((Qu ops i).contains j||(Qu ops j).contains i) with
 | true =>
  rcases CM.1 hc with h1 | h1
  ·exact .inl (by simpa using h1)
  ·exact .inr (by simpa using h1)
 | false =>
  refine (h (Pe.2 ⟨j,by simpa using hj,?_⟩)).elim
  rw [hd]
  dsimp only
  rw [hc];rfl
section
variable {ops:Array Oper} {st0:St} {fx:List (Nat×TV)} {i:Nat} {st:TSt U}
theorem keep_lk {t:Nat} {x:TV}:∀ {tm:List (Nat×TV)},Q6y ops i t=false→Qq8 tm t=some x→Qq8 (Q3u ops i tm) t=some x:=fun {tm} hh h=>Q9i (p:=fun t=>!(Q6y ops i t)) (by rw [hh];rfl) h
theorem DI.look (h:DI D ops st0 fx i st) (hdag:∀ i,i < ops.size→∀ k∈Qu ops i,k < i) (hnd:(Jl ops).Nodup) (hi:i < ops.size) {t:Nat} {x:TTV U} (hb':(Q4q ops i).contains t=false) (hx:Qq8 st.tm t=some x):∃ y,Qq8 (Qq ops st0 fx i (st.er D).mem).tm t=some y∧Qri y (x.er D st.m.tk):=by
 have ltS:∀ {j},Jg ops j=some t→j < ops.size:=fun {j} hj=>by
  rcases P1 j ops.size with h3 | h3
  ·exact h3
  ·simp [Jg,CZ h3] at hj
 show ∃ z,Qq8 (Ju ops fx (Qu ops i)++Q3u ops i st0.tm) t=some z∧_
 rcases h.tm t x hx with ⟨j,z,h1,h2,h3,h4⟩ | ⟨h1,z,h2,h3⟩
 ·refine ⟨z,?_,h4⟩
  have hj:j∈Qu ops i:=by
   rcases Qke hb' h2 (ltS h2) with h5 | h5
   ·exact h5
   ·have:=hdag j (ltS h2) i h5
    omega
  rw [Jt,Qbw hnd hj h2 h3]
 ·refine ⟨z,?_,h3⟩
  have hn:Qq8 (Ju ops fx (Qu ops i)) t=none:=Q4e fun j y hd hf=>by
   rcases P1 j i with h5 | h5
   ·exact h1 j h5 hd
   ·rw [h.nd j h5] at hf;cases hf
  rw [Jt,hn]
  refine keep_lk ?_ h2
  unfold Q6y
  rw [Pl]
  intro j hj
  cases hd:Jg ops j with
  | none=>simp
  | some d =>
   dsimp only
   cases hbq:Nat.beq d t with
   | false=>simp
   | true =>
    have e:=C4 hbq
    subst e
    rw [C6]
    have hj':j < ops.size:=by simpa using hj
    rcases Qke hb' hd hj' with h5 | h5
    ·exact (h1 j (hdag i hi j h5) hd).elim
    ·simpa using h5
theorem DI.deps (h:DI D ops st0 fx i st) (hdag:∀ i,i < ops.size→∀ k∈Qu ops i,k < i) (hnd:(Jl ops).Nodup) (hi:i < ops.size):StW (Qq ops st0 fx i (st.er D).mem) ((KW ops i st).er D):=by
 refine ⟨fun t y hy=>?_,fun j B hB=>⟨B,hB,fun _ _ _ h=>h⟩,fun j T hT=>hT,Z,h.nt,h.df⟩
 have hy':Qq8 (QI (TTV.er D st.m.tk) (st.tm.filter fun p=>!((Q4q ops i).contains p.1))) t=some y:=hy
 rw [QN] at hy'
 cases hz:Qq8 (st.tm.filter fun p=>!((Q4q ops i).contains p.1)) t with
 | none=>rw [hz] at hy';cases hy'
 | some x =>
  rw [hz] at hy';cases hy'
  obtain ⟨hb,hx⟩:=Q94 (p:=fun t=>!((Q4q ops i).contains t)) hz
  obtain ⟨z,h1,h2⟩:=h.look hdag hnd hi (by simpa using hb) hx
  exact .inr ⟨z,h1,h2.1⟩
theorem DI.end (h:DI D ops st0 fx ops.size st) (hnd:(Jl ops).Nodup):StW (Q1l ops st0 fx (st.er D).mem) (st.er D):=by
 refine ⟨fun t y hy=>?_,fun j B hB=>⟨B,hB,fun _ _ _ h=>h⟩,fun j T hT=>hT,Z,h.nt,h.df⟩
 have hy':Qq8 (QI (TTV.er D st.m.tk) st.tm) t=some y:=hy
 rw [QN] at hy'
 cases hz:Qq8 st.tm t with
 | none=>rw [hz] at hy';cases hy'
 | some x =>
  rw [hz] at hy';cases hy'
  refine .inr ?_
  show ∃ z,Qq8 (Ju ops fx (List.range ops.size)++Wk (Jl ops) st0.tm) t=some z∧_
  rcases h.tm t x hz with ⟨j,z,h1,h2,h3,h4⟩ | ⟨h1,z,h2,h3⟩
  ·refine ⟨z,?_,h4.1⟩
   rw [Jt,Qbw hnd (by simpa using h1) h2 h3]
  ·refine ⟨z,?_,h3.1⟩
   have hn:Qq8 (Ju ops fx (List.range ops.size)) t=none:=Q4e fun j y hd hf=>by
    rcases P1 j ops.size with h5 | h5
    ·exact h1 j h5 hd
    ·rw [h.nd j h5] at hf;cases hf
   rw [Jt,hn]
   refine Q9i (p:=fun t=>!((Jl ops).contains t)) ?_ h2
   show (!((Jl ops).contains t))=true
   cases hc:(Jl ops).contains t with
   | false=>rfl
   | true =>
    have:t∈Jl ops:=by simpa using hc
    obtain ⟨j,hj,hd⟩:=Pe.1 this
    exact (h1 j (by simpa using hj) hd).elim
theorem DI.step (h:DI D ops st0 fx i st) {o:Oper} (ho:ops[i]?=some o) {x:TTV U} {m':TMe U} {y:TV} (hy:y=x.er D m'.tk) (hst:∀ t z,Qq8 st.tm t=some z→∀ V w v,(z.er D st.m.tk).rel V w v→(z.er D m'.tk).rel V w v):DI D ops st0 ((i,y)::fx) (i+1) ⟨WS o.dst x st.tm,m',st.nt,st.df⟩:=by
 have hfx:∀ {j z},j < i→Qq8 fx j=some z→Qq8 ((i,y)::fx) j=some z:=fun {j z} hj hz=>by
  rw [Q1,C5 (by omega)];exact hz
 refine ⟨fun j hj=>?_,fun j hj=>?_,fun t z hz=>?_,h.nt,h.df⟩
 ·by_cases e:i=j
  ·subst e;exact ⟨y,by rw [Q1,Cd rfl]⟩
  ·obtain ⟨z,hz⟩:=h.dn j (by omega)
   exact ⟨z,hfx (by omega) hz⟩
 ·rw [Q1,C5 (by omega)];exact h.nd j (by omega)
 ·have hdo:Jg ops i=o.dst:=by simp [Jg,ho]
  have hz':Qq8 (WS o.dst x st.tm) t=some z:=hz
  have old:Jg ops i ≠ some t→Qq8 st.tm t=some z→(∃ j y',j < i+1∧Jg ops j=some t∧Qq8 ((i,y)::fx) j=some y'∧Qri y' (z.er D m'.tk))∨((∀ j,j < i+1→Jg ops j ≠ some t)∧∃ y',Qq8 st0.tm t=some y'∧Qri y' (z.er D m'.tk)):=fun hne hz=>by
   have comp:∀ {y'},Qri y' (z.er D st.m.tk)→Qri y' (z.er D m'.tk):=fun {y'} h4=>⟨fun V w v hv=>hst t z hz V w v (h4.1 V w v hv),fun hg=>by
    have e:=er_G (tk:=st.m.tk) hg
    rw [← e] at hg ⊢
    exact h4.2 hg⟩
   rcases h.tm t z hz with ⟨j,y',h1,h2,h3,h4⟩ | ⟨h1,y',h2,h3⟩
   ·exact .inl ⟨j,y',by omega,h2,hfx h1 h3,comp h4⟩
   ·refine .inr ⟨fun j hj e=>?_,y',h2,comp h3⟩
    by_cases e2:j=i
    ·subst e2;exact hne e
    ·exact h1 j (by omega) e
  cases hd:o.dst with
  | none =>
   rw [hd] at hz'
   exact old (by rw [hdo,hd];intro e;cases e) hz'
  | some d =>
   rw [hd] at hz'
   have hz2:Qq8 ((d,x)::st.tm) t=some z:=hz'
   rw [Q1] at hz2
   split at hz2
   ·rename_i e
    cases hz2
    subst e
    exact .inl ⟨i,y,by omega,by rw [hdo,hd],by rw [Q1,Cd rfl],by rw [hy];exact ⟨fun _ _ _ h=>h,fun _=>rfl⟩⟩
   ·rename_i e
    exact old (by rw [hdo,hd];intro e';cases e';exact e rfl) hz2
theorem DI.setB (h:DI D ops st0 fx i st) {d:Nat} {c b:Bool} (hc:Qq8 st.tm d=some (.v (.one (.c (.v (.bool c)))))) (e:c=b):DI D ops st0 fx i (setB st d b):=by
 subst e
 refine ⟨h.dn,h.nd,fun t x hx=>?_,h.nt,h.df⟩
 have hx':Qq8 ((d,Qpv c)::st.tm) t=some x:=hx
 rw [Q1] at hx'
 split at hx'
 ·rename_i e;subst e;cases hx'
  exact h.tm _ _ hc
 ·exact h.tm t x hx'
end
section
def RdR.has:RdR U→TTV U→Prop
 | .val x,y=>y=x
 | .grd g x,y=>g=true∧y=x
 | .ix oo f,y=>∃ a,oo=some a∧y=f a
def EfR.has:EfR U→OR U→Prop
 | .val x,y=>y=x
 | .grd g x,y=>g=true∧y=x
 | .ix oo f,y=>∃ a,oo=some a∧y=f a
theorem RdR.run_has {r:RdR U} {β:Type} {k:TTV U→Option β} {v:β} (hk:r.run k=some v):∃ x,k x=some v∧r.has x:=by
 cases r with
 | val x=>exact ⟨x,hk,rfl⟩
 | grd g x=>obtain ⟨h1,h2⟩:=KQ hk;exact ⟨x,h2,h1,rfl⟩
 | ix oo f=>obtain ⟨a,h1,h2⟩:=YW hk;exact ⟨f a,h2,a,h1,rfl⟩
theorem EfR.run_has {r:EfR U} {β:Type} {k:OR U→Option β} {v:β} (hk:r.run k=some v):∃ x,k x=some v∧r.has x:=by
 cases r with
 | val x=>exact ⟨x,hk,rfl⟩
 | grd g x=>obtain ⟨h1,h2⟩:=KQ hk;exact ⟨x,h2,h1,rfl⟩
 | ix oo f=>obtain ⟨a,h1,h2⟩:=YW hk;exact ⟨f a,h2,a,h1,rfl⟩
theorem RdOK.has {E:Env} {o:Oper} {st:TSt U} {r:RdR U} (h:RdOK D E o st r) {x:TTV U} (hx:r.has x):RO E o (st.er D) (x.er D st.m.tk):=by
 cases r with
 | val y=>cases hx;exact h
 | grd g y=>obtain ⟨h1,rfl⟩:=hx;exact h h1
 | ix oo f=>obtain ⟨a,h1,rfl⟩:=hx;exact h a h1
theorem EfOK.has {E:Env} {o:Oper} {st:TSt U} {r:EfR U} (h:EfOK D E o st r) {x:OR U} (hx:r.has x):OROK D E o st x:=by
 cases r with
 | val y=>cases hx;exact h
 | grd g y=>obtain ⟨h1,rfl⟩:=hx;exact h h1
 | ix oo f=>obtain ⟨a,h1,rfl⟩:=hx;exact h a h1
def AnyB (E:Env) (ops:Array Oper) (st0:St) (effs:List Nat) (fx:List (Nat×TV)) (i:Nat) (M:Mem):Prop :=
 ∃ o x,ops[i]?=some o∧Qq8 fx i=some x∧Zm st0 o.dst=true∧effs.contains i=false∧((Qx ops (Qq ops st0 fx i M).tm o=some true∧OpOK E o (Qq ops st0 fx i M) x M)∨(Qx ops (Qq ops st0 fx i M).tm o=some false∧x=.tup []))
theorem K1 {ops:Array Oper} {fx fx':List (Nat×TV)} {js:List Nat} (h:∀ j∈js,Qq8 fx' j=Qq8 fx j):Ju ops fx' js=Ju ops fx js:=by
 induction js with
 | nil=>rfl
 | cons a js ih =>
  have h1:=h a (Ci ..)
  have h2:=ih fun j hj=>h j (Ch _ hj)
  simp only [Ju,Pp] at h2 ⊢
  rw [h1,h2]
theorem AnyB.ext {E:Env} {ops:Array Oper} {st0:St} {effs:List Nat} {fx fx':List (Nat×TV)} {i:Nat} {M:Mem} (hdag:∀ k∈Qu ops i,k < i) (h:AnyB E ops st0 effs fx i M) (hf:∀ j,j≤i→Qq8 fx' j=Qq8 fx j):AnyB E ops st0 effs fx' i M:=by
 obtain ⟨o,x,h1,h2,h3,h4,h5⟩:=h
 have e:Qq ops st0 fx' i M=Qq ops st0 fx i M:=by
  unfold Qq
  rw [K1 fun j hj=>hf j (Nat.le_of_lt (hdag j hj))]
 exact ⟨o,x,h1,(hf i (Ck _)).trans h2,h3,h4,by rw [e];exact h5⟩
def Qhb (D:Codec U) (W:Wd) (P:Program) (ops:Array Oper) (effs:List Nat) (st0:St) (i:Nat) (m:TMe U) (c:Bool→TMe U→Bool) (fx:List (Nat×TV)):Prop :=
 ∀ E,E.P=P→W.p E.V0.S E.w0→∀ up m',(up=true→SfM m m')→(up=false→SfM m' m)→c up m'=true→AnyB E ops st0 effs fx i (m'.er D)
theorem Qbb {tm:List (Nat×TTV U)} {m m':TMe U} {o:Oper} {x:TTV U} {up:Bool} (h1:up=true→SfM m m') (h2:up=false→SfM m' m) (h:Qfh D tm m o x up m'=true) :
  (∀ nt df,Ql3 D C ⟨tm,m',nt,df⟩ o=Ql3 D C ⟨tm,m,nt,df⟩ o)∧x.er D m'.tk=x.er D m.tk∧(∀ p∈tm,p.2.er D m'.tk=p.2.er D m.tk)∧Qnz tm (cond up (Q5d m.es m'.es) (Q5d m'.es m.es)) o=true:=by
 unfold Qfh at h
 cases up with
 | true =>
  rw [C6] at h
  obtain ⟨⟨p,hp⟩,⟨q,hq⟩,-⟩:=h1 rfl
  rw [hp,hq,YY,YY] at h
  obtain ⟨g1,g23⟩:=C0.1 h
  obtain ⟨Qqm,g3⟩:=C0.1 g23
  refine ⟨fun nt df=>Qlk hp g1,by rw [hq];exact WM Qqm,fun z hz=>by rw [hq];exact WM (Cf.1 g3 z hz),?_⟩
  rw [C6,hp,YY];exact g1
 | false =>
  rw [Ce] at h
  obtain ⟨⟨p,hp⟩,⟨q,hq⟩,-⟩:=h2 rfl
  rw [hp,hq,YY,YY] at h
  obtain ⟨g1,g23⟩:=C0.1 h
  obtain ⟨Qqm,g3⟩:=C0.1 g23
  refine ⟨fun nt df=>(Qlk hp g1).symm,by rw [hq];exact (WM Qqm).symm,fun z hz=>by rw [hq];exact (WM (Cf.1 g3 z hz)).symm,?_⟩
  rw [Ce,hp,YY];exact g1
theorem StW.move {ops:Array Oper} {st0:St} {fx:List (Nat×TV)} {i:Nat} {st:TSt U} {m':TMe U} (h:StW (Qq ops st0 fx i (st.er D).mem) ((KW ops i st).er D)) (ht:∀ p∈(KW ops i st).tm,p.2.er D m'.tk=p.2.er D st.m.tk) :
  StW (Qq ops st0 fx i (m'.er D)) ((⟨(KW ops i st).tm,m',st.nt,st.df⟩:TSt U).er D):=by
 refine ⟨fun t y hy=>?_,fun j B hB=>⟨B,hB,fun _ _ _ h=>h⟩,fun j T hT=>hT,Z,h.nt,h.df⟩
 have hy':Qq8 (QI (TTV.er D m'.tk) (KW ops i st).tm) t=some y:=hy
 rw [QN] at hy'
 cases hz:Qq8 (KW ops i st).tm t with
 | none=>rw [hz] at hy';cases hy'
 | some x =>
  rw [hz] at hy';cases hy'
  have e:=ht (t,x) (JR hz)
  dsimp only at e
  rw [e]
  exact h.tm t _ (by show Qq8 (QI (TTV.er D st.m.tk) (KW ops i st).tm) t=_;rw [QN,hz];rfl)
theorem call_any {E:Env} {W:Wd} (hW:W.p E.V0.S E.w0) (hK:Q0v W D E.P K) {st:TSt U} {m':TMe U} {o:Oper} {e:EfR U} {q:OR U} (hc:Qge o=true) (h:Qnj D C K st o=some e) (hq:e.has q) {p:List (Ev U)} (hQ:Qnz st.tm p o=true):OpOK E o ((⟨st.tm,m',st.nt,st.df⟩:TSt U).er D) (q.x.er D m'.tk) (m'.er D):=by
 obtain ⟨dd,op,ty,pos,af,g⟩:=o
 cases op with
 | call c =>
  obtain ⟨callee,os,ts⟩:=c
  cases callee with
  | value x =>
   have h':Qcb K st x os.toList=some e:=h
   have hQ':(match Q1o st.tm os.toList with
    | some vs=>vs.all Q8i
    | none=>false)=true:=hQ
   unfold Qcb at h'
   split at h'
   ·rename_i f args hx ha
    rw [ha] at hQ'
    split at h'
    ·rename_i args' hs
     split at h'
     ·rename_i kr hk;cases h'
      obtain ⟨a,hoa,rfl⟩:=hq
      obtain ⟨ys,h1,h2⟩:=hK f args' kr a hk hoa
      have hs':YR m'.tk args=some args':=(Q12 hQ').trans hs
      exact U9 (st:=(⟨st.tm,m',st.nt,st.df⟩:TSt U).er D) hW (Yy (D:=D) (st:=⟨st.tm,m',st.nt,st.df⟩) hx) (h2 m'.tk) (GS (D:=D) (st:=⟨st.tm,m',st.nt,st.df⟩) ha) (G7 hs' (h1 m'.tk))
     ·cases h'
    ·cases h'
   ·cases h'
  | _=>cases hc
 | _=>cases hc
end
section
variable {ops:Array Oper} {effs:List Nat} {st0:St} {β:Type} {r:β}
theorem Q78 {P:Program} (hT:C.T.OK P) (hD:D.OK) {W:Wd} (hK:Q0v W D P K) (hX:WO W D P X) (hdag:∀ i,i < ops.size→∀ k∈Qu ops i,k < i) (hnd:(Jl ops).Nodup) {i:Nat} {fx:List (Nat×TV)} {o:Oper} {st:TSt U} {pn:Value→TMe U→Option β} {k:TSt U→(Bool→TMe U→Bool)→Option β} (hY:YOK W D P Y st.m) (h:DI D ops st0 fx i st) (ho:ops[i]?=some o)
  (hw:Qx ops (Qq ops st0 fx i (st.er D).mem).tm o=some true) (hr:Wl D C K X Y ops effs i o st pn k=some r)
  : (∃ s c,Sfx st s∧k s c=some r∧(effs.contains i=false→s.m=st.m)∧∃ y,DI D ops st0 ((i,y)::fx) (i+1) s∧Qhb D W P ops effs st0 i st.m c ((i,y)::fx)∧∀ E,E.P=P→W.p E.V0.S E.w0→∀ ms rest Dd F,RunA E ops st0 effs Dd F rest ((i,y)::fx) (cond (effs.contains i) ((s.er D).mem::(st.er D).mem::ms) ((s.er D).mem::ms))→RunA E ops st0 effs Dd F (i::rest) fx ((st.er D).mem::ms)) ∨
   (∃ v m,effs.contains i=true∧JM st o.dst=true∧Z0 (Wq m.tk st.m.tk) st.tm=true∧SfM st.m m∧pn v m=some r∧∀ E,E.P=P→W.p E.V0.S E.w0→OpD E o ((KW ops i st).er D) v (m.er D)):=by
 have hi:i < ops.size:=(CP.1 ho).1
 have hdep:=h.deps hdag hnd hi
 have dst0:JM st o.dst=true→Zm st0 o.dst=true:=fun hd=>by
  cases hdst:o.dst with
  | none=>rfl
  | some d=>rw [hdst] at hd;show Nat.blt d st0.nt=true;rw [← h.nt];exact hd
 have eqd:∀ (y:TV) (M:Mem),Qq ops st0 ((i,y)::fx) i M=Qq ops st0 fx i M:=fun y M=>by
  have e:=K1 (ops:=ops) (fx:=fx) (fx':=(i,y)::fx) (js:=Qu ops i) (fun j hj=>by
   have:=hdag i hi j hj
   rw [Q1,C5 (by omega)])
  unfold Qq
  rw [e]
 have noG:∀ fx',Qhb D W P ops effs st0 i st.m (fun _ _=>false) fx':=fun fx' E hP hW up m' u1 u2 hc=>by cases hc
 have good:∀ (x:TTV U) (m':TMe U) (E:Env),JM st o.dst=true→effs.contains i=false→x.er D m'.tk=x.er D st.m.tk→OpOK E o (Qq ops st0 fx i (m'.er D)) (x.er D m'.tk) (m'.er D)→AnyB E ops st0 effs ((i,x.er D st.m.tk)::fx) i (m'.er D):=fun x m' E hd he Qqm hop=>by
  refine ⟨o,x.er D st.m.tk,ho,by rw [Q1,Cd rfl],dst0 hd,he,.inl ⟨?_,?_⟩⟩
  ·rw [eqd];exact hw
  ·rw [eqd,← Qqm];exact hop
 unfold Wl at hr
 split at hr
 ·rename_i rd hrd
  cases hd:(JM st o.dst&&!(effs.contains i)) with
  | false=>rw [hd] at hr;cases hr
  | true =>
   rw [hd,C6] at hr
   obtain ⟨hd1,hd2⟩:=C0.1 hd
   have he:effs.contains i=false:=by simpa using hd2
   obtain ⟨x,h1,h2⟩:=RdR.run_has hr
   have hop:∀ E:Env,E.P=P→OpOK E o (Qq ops st0 fx i (st.er D).mem) (x.er D st.m.tk) (st.er D).mem:=fun E hP=>Wv hdep (Qa ((Qcw (E:=E) (D:=D) (hP.symm▸hT) hD hrd).has h2))
   refine .inl ⟨⟨WS o.dst x st.tm,st.m,st.nt,st.df⟩,_,Sfx.put st o.dst x,h1,fun _=>rfl,_,h.step ho (m':=st.m) rfl (fun t z hz V w v hv=>hv),fun E hP hW up m' u1 u2 hc=>?_,fun E hP hW ms rest Dd F hk=>RunA.rd ho he hw (hop E hP) (dst0 hd1) (by first | exact hk | (rw [he] at hk;exact hk))⟩
   obtain ⟨g1,Qqm,g3,-⟩:=Qbb u1 u2 hc
   have hrd':Ql3 D C ⟨(KW ops i st).tm,m',st.nt,st.df⟩ o=some rd:=(g1 _ _).trans hrd
   exact good x m' E hd1 he Qqm (Wv (StW.move hdep g3) (Qa ((Qcw (E:=E) (D:=D) (hP.symm▸hT) hD hrd').has h2)))
 ·split at hr
  ·rename_i e he0
   obtain ⟨q,h1,hhas⟩:=EfR.run_has hr
   have h2':∀ E,EfOK D E o (KW ops i st) e→OROK D E o (KW ops i st) q:=fun E he=>he.has hhas
   cases hc:(Q3e st (q.es++st.m.es) q.tk&&JM st o.dst&&Nat.ble st.m.nx q.nx) with
   | false=>rw [hc] at h1;cases h1
   | true =>
    rw [hc,C6] at h1
    obtain ⟨b12,b3⟩:=C0.1 hc
    obtain ⟨b1,b2⟩:=C0.1 b12
    have hst:∀ t z,Qq8 st.tm t=some z→∀ V w v,(z.er D st.m.tk).rel V w v→(z.er D (YX q.tk st.m.tk)).rel V w v:=fun t z hz V w v hv=>by
     cases htk:q.tk with
     | none=>exact hv
     | some p =>
      obtain ⟨j,T⟩:=p
      rw [htk] at b1
      have h1:=(C0.1 b1).1
      have h2:st.tm.any (fun p=>p.2.hasApp j T.ver)=false:=by simpa using h1
      exact ZN (UH fun hp=>Pl.1 h2 (t,z) (JR hz) hp) hv
    have b1':Q3e (KW ops i st) (q.es++(KW ops i st).m.es) q.tk=true:=by
     cases htk:q.tk with
     | none=>rfl
     | some p =>
      obtain ⟨j,T⟩:=p
      rw [htk] at b1
      obtain ⟨h1,h3⟩:=C0.1 b1
      refine C0.2 ⟨?_,h3⟩
      have h2:st.tm.any (fun p=>p.2.hasApp j T.ver)=false:=by simpa using h1
      have:(KW ops i st).tm.any (fun p=>p.2.hasApp j T.ver)=false:=Pl.2 fun p hp=>Pl.1 h2 p (PI.1 hp).1
      rw [this];rfl
    have hop0:∀ E:Env,E.P=P→W.p E.V0.S E.w0→OpOK E o (Qq ops st0 fx i (st.er D).mem) (q.x.er D (YX q.tk st.m.tk)) ⟨Qg D (YX q.tk st.m.tk) (q.es++st.m.es),XE (YX q.tk st.m.tk),q.nx⟩:=fun E hP hW=>by
     obtain ⟨hp,tkx,h4,h5,h6⟩:=h2' E (Qi7 (D:=D) (hP.symm▸hT) hD hW (hP.symm▸hK) he0)
     have hWk:=Q67 (D:=D) (st:=KW ops i st) (dst:=none) (r:=q) h5 h6 b1'
     exact Wv hdep (Q0u (m:=⟨hp,tkx,q.nx⟩) hWk.hp hWk.tk Z h4)
    cases he:effs.contains i with
    | true =>
     rw [he,C6] at h1
     have hsf:Sfx st (Q68 st o.dst q):=Sfx.next st o.dst q (C3 b3)
     exact .inl ⟨_,_,hsf,h1,(fun h0=>by first | cases h0 | (rw [he] at h0;cases h0)),_,h.step ho (m':=⟨q.es++st.m.es,YX q.tk st.m.tk,q.nx⟩) rfl hst,noG _,fun E hP hW ms rest Dd F hk=>RunA.eff ho he hw (hop0 E hP hW) (dst0 b2) (by first | exact hk | (rw [he] at hk;exact hk))⟩
    | false =>
     rw [he,Ce] at h1
     split at h1
     ·rename_i e1 e2
      cases hn:Nat.beq q.nx st.m.nx with
      | false=>rw [hn] at h1;cases h1
      | true =>
       rw [hn,C6] at h1
       have e3:=C4 hn
       have hop:=hop0
       rw [e1,e2,e3] at hop
       refine .inl ⟨⟨WS o.dst q.x st.tm,st.m,st.nt,st.df⟩,_,Sfx.put st o.dst q.x,h1,fun _=>rfl,_,h.step ho (m':=st.m) rfl (fun t z hz V w v hv=>hv),fun E hP hW up m' u1 u2 hc=>?_,fun E hP hW ms rest Dd F hk=>RunA.rd ho he hw (hop E hP hW) (dst0 b2) (by first | exact hk | (rw [he] at hk;exact hk))⟩
       obtain ⟨c1,c2⟩:=C0.1 hc
       obtain ⟨-,Qqm,g3,g4⟩:=Qbb (C:=C) u1 u2 c2
       exact good q.x m' E b2 he Qqm (Wv (StW.move hdep g3) (call_any (st:=KW ops i st) hW (hP.symm▸hK) c1 he0 hhas g4))
     ·cases h1
  ·split at hr
   ·rename_i xo hxo
    cases hc:(JM st o.dst&&effs.contains i) with
    | false=>rw [hc] at hr;cases hr
    | true =>
     rw [hc,C6] at hr
     obtain ⟨b1,he⟩:=C0.1 hc
     obtain ⟨q,q1,q2,h2⟩:=Qca (st:=KW ops i st) hX hY hxo _ _ _ hr
     cases q with
     | die v m =>
      dsimp only [OutT.to] at h2
      cases b2:Z0 (Wq m.tk st.m.tk) st.tm with
      | false=>rw [b2] at h2;cases h2
      | true =>
       rw [b2,C6] at h2
       exact .inr ⟨v,m,he,b1,b2,q2,h2,fun E hP hW=>q1 E hP hW⟩
     | val x m =>
     dsimp only [OutT.to] at h2
     cases b2:Z0 (Wq m.tk st.m.tk) st.tm with
     | false=>rw [b2] at h2;cases h2
     | true =>
     rw [b2,C6] at h2
     refine .inl ⟨⟨WS o.dst x st.tm,m,st.nt,st.df⟩,_,⟨?_,q2.es,q2.tk,q2.nx,rfl,.inr rfl⟩,h2,(fun h0=>by first | cases h0 | (rw [he] at h0;cases h0)),_,h.step ho (m':=m) rfl (fun t z hz V w v hv=>GT b2 q2.tk hz V w v hv),noG _,fun E hP hW ms rest Dd F hk=>RunA.eff ho he hw (Wv hdep (q1 E hP hW)) (dst0 b1) (by first | exact hk | (rw [he] at hk;exact hk))⟩
     cases o.dst with
     | none=>exact ⟨[],rfl⟩
     | some d=>exact ⟨[(d,x)],rfl⟩
   ·cases hr
theorem homeK_succ (effs:List Nat) (i:Nat):KO effs (i+1)=KO effs i+cond (effs.contains i) 1 0:=by
 unfold KO
 rw [show List.range' 0 (i+1)=List.range' 0 i++[i] by
  rw [List.range'_1_concat,P7]]
 rw [List.filter_append,C7]
 cases hc:effs.contains i with
 | true=>rw [List.filter_cons_of_pos hc];rfl
 | false=>rw [List.filter_cons_of_neg (by rw [hc];exact Cn)];rfl
structure SI (D:Codec U) (W:Wd) (P:Program) (ops:Array Oper) (effs:List Nat) (st0:St) (fx:List (Nat×TV)) (i:Nat) (m:TMe U) (ms:List (TMe U)) (acc:List (Nat×(Bool→TMe U→Bool))):Prop where
 ac:∀ j c,Qq8 acc j=some c→j < i∧∃ m',(m::ms).reverse[KO effs j]?=some m'∧Qhb D W P ops effs st0 j m' c fx
 ch:∀ (a b:Nat) (ma mb:TMe U),a≤b→(m::ms).reverse[a]?=some ma→(m::ms).reverse[b]?=some mb→SfM ma mb
 ln:ms.length=KO effs i
theorem SI.step {W:Wd} {P:Program} {fx:List (Nat×TV)} {i:Nat} {m m':TMe U} {ms:List (TMe U)} {acc:List (Nat×(Bool→TMe U→Bool))} (h:SI D W P ops effs st0 fx i m ms acc) (hdag:∀ i,i < ops.size→∀ k∈Qu ops i,k < i) (hi:i < ops.size) {y:TV} {c:Bool→TMe U→Bool} (hm:effs.contains i=false→m'=m) (hs:SfM m m') (hc:Qhb D W P ops effs st0 i m c ((i,y)::fx)) :
  SI D W P ops effs st0 ((i,y)::fx) (i+1) m' (cond (effs.contains i) (m::ms) ms) ((i,c)::acc):=by
 have get:∀ (k:Nat) (z:TMe U),(m::ms).reverse[k]?=some z→(m'::cond (effs.contains i) (m::ms) ms).reverse[k]?=some z:=fun k z hz=>by
  cases he:effs.contains i with
  | true =>
   rw [C6,PL,CK (Cg.1 hz).1]
   exact hz
  | false=>rw [Ce,hm he];exact hz
 have len:∀ (k:Nat) (z:TMe U),(m'::cond (effs.contains i) (m::ms) ms).reverse[k]?=some z→(m::ms).reverse[k]?=some z∨(z=m'∧ms.length≤k):=fun k z hz=>by
  cases he:effs.contains i with
  | true =>
   rw [he,C6,PL] at hz
   by_cases hk:k < (m::ms).reverse.length
   ·rw [CK hk] at hz;exact .inl hz
   ·rw [P0 (by omega)] at hz
    have h1:=(Cg.1 hz).1
    have h2:k - (m::ms).reverse.length < 1:=h1
    have:k - (m::ms).reverse.length=0:=by omega
    rw [this] at hz
    cases hz
    refine .inr ⟨Z,?_⟩
    rw [Pq,C2] at hk;omega
  | false=>rw [he,Ce,hm he] at hz;exact .inl hz
 have last:(m::ms).reverse[ms.length]?=some m:=by
  rw [PL,P0 (by rw [Pq];exact Ck _),Pq,PA];rfl
 have all_m:∀ (k:Nat) (z:TMe U),(m::ms).reverse[k]?=some z→SfM z m:=fun k z hz=>by
  have hk:k < (m::ms).reverse.length:=(Cg.1 hz).1
  rw [Pq,C2] at hk
  exact h.ch k ms.length z m (by omega) hz last
 refine ⟨fun j d hj=>?_,fun a b ma mb hab ha hb=>?_,?_⟩
 ·rw [Q1] at hj
  split at hj
  ·rename_i e;subst e;cases hj
   exact ⟨Ct _,m,get _ _ (by rw [← h.ln];exact last),hc⟩
  ·obtain ⟨h1,z,h2,h3⟩:=h.ac j d hj
   refine ⟨by omega,z,get _ _ h2,fun E hP hW up m2 u1 u2 hq=>(h3 E hP hW up m2 u1 u2 hq).ext (hdag j (by omega)) fun k hk=>?_⟩
   rw [Q1,C5 (by omega)]
 ·rcases len a ma ha with ha' | ⟨ea,la⟩
  ·rcases len b mb hb with hb' | ⟨eb,-⟩
   ·exact h.ch a b ma mb hab ha' hb'
   ·rw [eb];exact (all_m a ma ha').trans hs
  ·rcases len b mb hb with hb' | ⟨eb,-⟩
   ·have hk:b < (m::ms).reverse.length:=(Cg.1 hb').1
    rw [Pq,C2] at hk
    have:b=ms.length:=by omega
    subst this
    rw [last] at hb';cases hb'
    have:a=ms.length:=by omega
    subst this
    rcases hE:effs.contains i with _ | _
    ·rw [ea,hm hE];exact SfM.refl _
    ·rw [hE,C6,PL,CK (by rw [Pq,C2];omega),last] at ha
     cases ha;exact SfM.refl _
   ·rw [ea,eb];exact SfM.refl _
 ·rw [homeK_succ]
  cases he:effs.contains i with
  | true=>rw [C6,C6,C2,h.ln]
  | false=>rw [Ce,Ce,h.ln];rfl
theorem Qcp {E:Env} {st:St} {fx:List (Nat×TV)} {ms:List Mem}:∀ {l:List (Nat×Nat)},(∀ p∈l,∃ m,ms[p.2]?=some m∧Qhc E ops st fx effs ms p.1 p.2 m)→AllEx E ops st effs fx ms l
  | [],_=>trivial
  | (i,j)::l,h=>⟨h (i,j) (Ci ..),Qcp fun p hp=>h p (Ch _ hp)⟩
theorem SI.all {W:Wd} {P:Program} {fx:List (Nat×TV)} {n:Nat} {m:TMe U} {ms:List (TMe U)} {acc:List (Nat×(Bool→TMe U→Bool))} (h:SI D W P ops effs st0 fx n m ms acc) (hx:Q73 ops effs acc (m::ms).reverse=true) {E:Env} (hP:E.P=P) (hW:W.p E.V0.S E.w0):AllEx E ops st0 effs fx ((m::ms).map (TMe.er D)).reverse (Qdx ops effs):=by
 refine Qcp fun p hp=>?_
 obtain ⟨i,hi,h1⟩:=Pb.1 hp
 obtain ⟨j,hj,rfl⟩:=Cw.1 h1
 obtain ⟨hj1,hj2⟩:=PI.1 hj
 obtain ⟨hm,hn⟩:=C0.1 hj2
 have hq:=Cf.1 (Cf.1 hx i hi) j hj1
 rw [hm] at hq
 have hn':Nat.beq j (KO effs i)=false:=by simpa using hn
 rw [hn'] at hq
 have hq':(match Qq8 acc i,(m::ms).reverse[j]? with
  | some c,some m=>c (Nat.blt (KO effs i) j) m
  | _,_=>false)=true:=by simpa using hq
 split at hq'
 ·rename_i c m' hc hm'
  obtain ⟨-,mh,g1,Qqm⟩:=h.ac i c hc
  have key:=Qqm E hP hW (Nat.blt (KO effs i) j) m' (fun hb=>h.ch _ _ _ _ (by have:=C3 hb;omega) g1 hm') (fun hb=>h.ch _ _ _ _ (by
   rcases P1 (KO effs i) j with h5 | h5
   ·have:Nat.blt (KO effs i) j=true:=Cb h5
    rw [this] at hb;cases hb
   ·exact h5) hm' g1) hq'
  refine ⟨m'.er D,by rw [← List.map_reverse,Cl,hm'];rfl,?_⟩
  obtain ⟨o,x,k1,k2,Qqd,k4,k5⟩:=key
  refine ⟨o,x,k1,k2,Qqd,?_⟩
  rcases k5 with ⟨Qqc,k7⟩ | ⟨Qqc,k7⟩
  ·exact .inl ⟨Qqc,_,k7,by rw [k4];exact C5 Cn▸rfl⟩
  ·exact .inr ⟨Qqc,k7,fun h=>by rw [k4] at h;cases h⟩
 ·cases hq'
theorem Qjn {m:TMe U} (h:Q1f m=true) {E:Env} {V:Vu} {st:St} {a:Act} {w:World} (hm:st.mem=m.er D) (hr:Rel E V st a w):False:=by
 obtain ⟨es,tk,nx⟩:=m
 unfold Q1f at h
 split at h
 ·rename_i n es' he
  dsimp only at he h
  subst he
  have e1:st.hp=(n,.obj (.deferred none))::Qg D tk es':=congrArg Mem.hp hm
  have e2:st.nx=nx:=congrArg Mem.nx hm
  have h1:=(hr.h.own n (.obj (.deferred none)) (by rw [e1,Q1,Cd rfl])).1
  have h2:V.nx=st.nx:=hr.nx
  have h3:=C3 h
  omega
 ·cases h
theorem Qbp (m:TMe U):Q1f (Qbq m)=true:=Cb (Ck _)
theorem impM_sf (m:TMe U):SfM m (Qbq m):=⟨⟨[_],rfl⟩,⟨[],rfl⟩,Ck _⟩
theorem Qgw {P:Program} {W:Wd} (hdag:∀ i,i < ops.size→∀ k∈Qu ops i,k < i) {m:TMe U} (hm:Q1f m=true):∀ (rest:List Oper) {i:Nat} {fx:List (Nat×TV)} {ms:List (TMe U)} {acc:List (Nat×(Bool→TMe U→Bool))},(∀ j o,rest[j]?=some o→ops[i+j]?=some o∧o.guard=none∧Zm st0 o.dst=true)→i+rest.length=ops.size→SI D W P ops effs st0 fx i m ms acc →
  ∃ fx',SI D W P ops effs st0 fx' ops.size m (Qc3 effs i rest m ms) (Qgx effs i rest acc)∧∀ E,E.P=P→W.p E.V0.S E.w0→∀ Dd F,F fx' ((m::Qc3 effs i rest m ms).map (TMe.er D))→RunA E ops st0 effs Dd F (List.range' i rest.length) fx ((m::ms).map (TMe.er D))
 | [],i,fx,ms,acc,hl,hs,hS=>⟨fx,by rw [← hs];exact hS,fun E hP hW Dd F hk=>RunA.nil hk⟩
 | o::os,i,fx,ms,acc,hl,hs,hS=>by
  obtain ⟨ho,hg,hd⟩:=hl 0 o rfl
  have hi:i < ops.size:=(CP.1 ho).1
  have hl':∀ j o',os[j]?=some o'→ops[i+1+j]?=some o'∧o'.guard=none∧Zm st0 o'.dst=true:=fun j o' hj=>by
   have:=hl (j+1) o' (by simpa using hj)
   rw [show i+1+j=i+(j+1) by omega];exact this
  have hs':i+1+os.length=ops.size:=by rw [← hs,C2];omega
  have hw:∀ tm:List (Nat×TV),Qx ops tm o=some true:=fun tm=>by unfold Qx;rw [hg]
  have hv:∀ (E:Env) (fx':List (Nat×TV)) (m':TMe U),Q1f m'=true→OpOK E o (Qq ops st0 fx' i (m'.er D)) .unk (m'.er D):=fun E fx' m' hm' V a w hr=>(Qjn (D:=D) hm' rfl hr).elim
  have hS':=hS.step (m':=m) (y:=.unk) (c:=fun _ m'=>!(effs.contains i)&&Q1f m') hdag hi (fun _=>rfl) (SfM.refl m) (fun E hP hW up m' u1 u2 hc=>by
   obtain ⟨c1,c2⟩:=C0.1 hc
   exact ⟨o,.unk,ho,by rw [Q1,Cd rfl],hd,by simpa using c1,.inl ⟨hw _,hv E _ m' c2⟩⟩)
  obtain ⟨fx',h1,h2⟩:=Qgw hdag hm os hl' hs' hS'
  refine ⟨fx',h1,fun E hP hW Dd F hk=>?_⟩
  have key:=h2 E hP hW Dd F hk
  cases he:effs.contains i with
  | true=>rw [he] at key;exact RunA.eff ho he (hw _) (hv E _ m hm) hd key
  | false=>rw [he] at key;exact RunA.rd ho he (hw _) (hv E _ m hm) hd key
def DrawR (D:Codec U) (W:Wd) (P:Program) (ops:Array Oper) (effs:List Nat) (st0:St) (i n:Nat) (fx:List (Nat×TV)) (st:TSt U) (ms:List (TMe U)) (p:Value→TSt U→Option β) (k:TSt U→Option β) (r:β):Prop :=
 (∃ s,Sfx st s∧k s=some r∧∃ fx' msF,DI D ops st0 fx' ops.size s∧(∀ E,E.P=P→W.p E.V0.S E.w0→AllEx E ops st0 effs fx' ((s.m::msF).map (TMe.er D)).reverse (Qdx ops effs))∧∀ E,E.P=P→W.p E.V0.S E.w0→∀ Q F,F fx' ((s.m::msF).map (TMe.er D))→RunA E ops st0 effs (DieOp E Q ops st0) F (List.range' i n) fx ((st.m::ms).map (TMe.er D))) ∨
 (∃ v s,Sfx st s∧p v s=some r∧∃ fx' mF msF,Q1f mF=true∧(∀ E,E.P=P→W.p E.V0.S E.w0→AllEx E ops st0 effs fx' ((mF::msF).map (TMe.er D)).reverse (Qdx ops effs))∧∀ E,E.P=P→W.p E.V0.S E.w0→∀ Q F,XQ E Q (.panic (ZW v)) (s.er D)→F fx' ((mF::msF).map (TMe.er D))→RunA E ops st0 effs (DieOp E Q ops st0) F (List.range' i n) fx ((st.m::ms).map (TMe.er D)))
theorem DrawR.step {P:Program} {W:Wd} {i n:Nat} {y:TV} {fx:List (Nat×TV)} {st s1:TSt U} {ms ms1:List (TMe U)} {p:Value→TSt U→Option β} {k:TSt U→Option β} (hsf:Sfx st s1) (h:DrawR D W P ops effs st0 (i+1) n ((i,y)::fx) s1 ms1 p k r)
  (hrun:∀ E,E.P=P→W.p E.V0.S E.w0→∀ Dd F,RunA E ops st0 effs Dd F (List.range' (i+1) n) ((i,y)::fx) ((s1.m::ms1).map (TMe.er D))→RunA E ops st0 effs Dd F (i::List.range' (i+1) n) fx ((st.m::ms).map (TMe.er D))):DrawR D W P ops effs st0 i (n+1) fx st ms p k r:=by
 rcases h with ⟨s,q1,q2,fx',msF,q3,qx,q4⟩ | ⟨v,s,q1,q2,fx',mF,msF,q3,qx,q4⟩
 ·exact .inl ⟨s,hsf.trans q1,q2,fx',msF,q3,qx,fun E hP hW Q F hk=>hrun E hP hW _ F (q4 E hP hW Q F hk)⟩
 ·exact .inr ⟨v,s,hsf.trans q1,q2,fx',mF,msF,q3,qx,fun E hP hW Q F hq hk=>hrun E hP hW _ F (q4 E hP hW Q F hq hk)⟩
theorem dieW {fx:List (Nat×TV)} {i:Nat} {st:TSt U} {m:TMe U} (hap:Z0 (Wq m.tk st.m.tk) st.tm=true) (htk:∃ p,m.tk=p++st.m.tk) (h:DI D ops st0 fx i st) (hdag:∀ i,i < ops.size→∀ k∈Qu ops i,k < i) (hnd:(Jl ops).Nodup) (hi:i < ops.size) {M:Mem} :
  StW ⟨(Qq ops st0 fx i M).tm,(m.er D).hp,(m.er D).tk,(m.er D).nx,st0.nt,st0.df⟩ ((⟨((Jl ops).map fun d=>(d,TTV.unk))++st.tm,m,st.nt,st.df⟩:TSt U).er D):=by
 refine ⟨fun t y hy=>?_,fun j B hB=>⟨B,hB,fun _ _ _ h=>h⟩,fun j T hT=>hT,Z,h.nt.symm▸Z,h.df.symm▸Z⟩
 have hy':Qq8 (QI (TTV.er D m.tk) (((Jl ops).map fun d=>(d,TTV.unk))++st.tm)) t=some y:=hy
 rw [QN,Jt] at hy'
 by_cases hd:t∈Jl ops
 ·obtain hq:Qq8 ((Jl ops).map fun d=>(d,(TTV.unk:TTV U))) t=some .unk:=by
   generalize Jl ops=l at hd
   induction l with
   | nil=>cases hd
   | cons a l ih =>
    rw [CF,Q1]
    by_cases e:a=t
    ·rw [Cd e]
    ·rw [C5 e]
     rcases Cq.1 hd with h1 | h1
     ·exact absurd h1.symm e
     ·exact ih h1
  rw [hq] at hy'
  cases hy'
  exact .inl Z
 ·have hq:Qq8 ((Jl ops).map fun d=>(d,(TTV.unk:TTV U))) t=none:=by
   cases hc:Qq8 ((Jl ops).map fun d=>(d,(TTV.unk:TTV U))) t with
   | none=>rfl
   | some z =>
    obtain ⟨d,hd1,hd2⟩:=Cw.1 (JR hc)
    cases hd2
    exact absurd hd1 hd
  rw [hq] at hy'
  cases hz:Qq8 st.tm t with
  | none=>rw [hz] at hy';cases hy'
  | some x =>
   rw [hz] at hy';cases hy'
   have hb:(Q4q ops i).contains t=false:=by
    cases hc:(Q4q ops i).contains t with
    | false=>rfl
    | true =>
     have h1:t∈Q4q ops i:=by simpa using hc
     obtain ⟨j,hj,hjd⟩:=Pe.1 h1
     refine absurd ?_ hd
     refine Pe.2 ⟨j,hj,?_⟩
     split at hjd
     ·rename_i d hd1
      rw [hd1]
      cases hcc:((Qu ops i).contains j||(Qu ops j).contains i) with
      | true=>rw [hcc] at hjd;cases hjd
      | false=>rw [hcc,Ce] at hjd;exact hjd
     ·cases hjd
   obtain ⟨z,h1,h2⟩:=h.look hdag hnd hi hb hz
   exact .inr ⟨z,h1,fun V w v hv=>GT hap htk hz V w v (h2.1 V w v hv)⟩
theorem Qbz {P:Program} (hT:C.T.OK P) (hD:D.OK) {W:Wd} (hK:Q0v W D P K) (hX:WO W D P X) (hdag:∀ i,i < ops.size→∀ k∈Qu ops i,k < i) (hnd:(Jl ops).Nodup):∀ (rest:List Oper) {i:Nat} {fx:List (Nat×TV)} {st:TSt U} {ms:List (TMe U)} {acc:List (Nat×(Bool→TMe U→Bool))} {pn:Value→TSt U→Option β} {k:TSt U→Option β},(∀ j o,rest[j]?=some o→ops[i+j]?=some o)→i+rest.length=ops.size→DI D ops st0 fx i st→SI D W P ops effs st0 fx i st.m ms acc→YOK W D P Y st.m→Kc D C K X Y ops effs pn i rest st ms acc k=some r →
  DrawR D W P ops effs st0 i rest.length fx st ms pn k r
 | [],i,fx,st,ms,acc,pn,k,hl,hs,h,hS,hY,hr=>by
  have hr':cond (Q73 ops effs acc (st.m::ms).reverse) (k st) none=some r:=hr
  cases hx:Q73 ops effs acc (st.m::ms).reverse with
  | false=>rw [hx] at hr';cases hr'
  | true =>
   rw [hx,C6] at hr'
   exact .inl ⟨st,Sfx.refl st,hr',fx,ms,(by rw [← hs];exact h),fun E hP hW=>hS.all hx hP hW,fun E hP hW Q F hk=>RunA.nil hk⟩
 | o::os,i,fx,st,ms,acc,pn,k,hl,hs,h,hS,hY,hr=>by
  have ho:ops[i]?=some o:=hl 0 o rfl
  have hi:i < ops.size:=(CP.1 ho).1
  have hl':∀ j o',os[j]?=some o'→ops[i+1+j]?=some o':=fun j o' hj=>by
   have:=hl (j+1) o' (by simpa using hj)
   rw [← this];congr 1;omega
  have hs':i+1+os.length=ops.size:=by rw [← hs,C2];omega
  have GO:∀ (s1:TSt U) (y:TV) (ms1:List (TMe U)) (acc1:List (Nat×(Bool→TMe U→Bool))),Sfx st s1→DI D ops st0 ((i,y)::fx) (i+1) s1→SI D W P ops effs st0 ((i,y)::fx) (i+1) s1.m ms1 acc1→Kc D C K X Y ops effs pn (i+1) os s1 ms1 acc1 k=some r→(∀ E,E.P=P→W.p E.V0.S E.w0→∀ Dd F,RunA E ops st0 effs Dd F (List.range' (i+1) os.length) ((i,y)::fx) ((s1.m::ms1).map (TMe.er D))→RunA E ops st0 effs Dd F (i::List.range' (i+1) os.length) fx ((st.m::ms).map (TMe.er D)))→DrawR D W P ops effs st0 i (os.length+1) fx st ms pn k r:=fun s1 y ms1 acc1 hsf hdi hsi h' hrun=>by
   exact DrawR.step hsf (Qbz hT hD hK hX hdag hnd os hl' hs' hdi hsi (hY.mono hsf.sfm) h') hrun
  have dst0:JM st o.dst=true→Zm st0 o.dst=true:=fun hd=>by
   cases hdst:o.dst with
   | none=>rfl
   | some d=>rw [hdst] at hd;show Nat.blt d st0.nt=true;rw [← h.nt];exact hd
  have eqd:∀ M:Mem,Qq ops st0 ((i,.unk)::fx) i M=Qq ops st0 fx i M:=fun M=>by
   have e:=K1 (ops:=ops) (fx:=fx) (fx':=(i,TV.unk)::fx) (js:=Qu ops i) (fun j hj=>by
    have:=hdag i hi j hj
    rw [Q1,C5 (by omega)])
   unfold Qq
   rw [e]
  have RUN:∀ (st1:TSt U),st1.m=st.m→Sfx st st1→DI D ops st0 fx i st1→Qx ops (Qq ops st0 fx i (st1.er D).mem).tm o=some true→Wl D C K X Y ops effs i o st1 (Q7b ops effs i os st1 ms acc pn) (fun s c=>Kc D C K X Y ops effs pn (i+1) os s (cond (effs.contains i) (st.m::ms) ms) ((i,c)::acc) k)=some r→DrawR D W P ops effs st0 i (os.length+1) fx st ms pn k r:=fun st1 hm hsf1 hdi1 hw1 hr1=>by
   rcases Q78 (st:=st1) hT hD hK hX hdag hnd (by rw [hm];exact hY) hdi1 ho hw1 hr1 with ⟨s1,c,q1,q2,qm,y,q3,qg,q4⟩ | ⟨v,m,he,hd,hap,hsf,hpn,hop⟩
   ·skip
    have em:(st1.er D).mem=st.m.er D:=by
     show TMe.er D st1.m=_
     rw [hm]
    refine GO s1 y _ _ (hsf1.trans q1) q3 (hS.step hdag hi (fun he=>(qm he).trans hm) (by rw [← hm];exact q1.sfm) (by rw [← hm];exact qg)) q2 (fun E hP hW Dd F hk=>?_)
    have key:=q4 E hP hW (ms.map (TMe.er D)) (List.range' (i+1) os.length) Dd F
    rw [em] at key
    refine key ?_
    cases he:effs.contains i with
    | true=>rw [he] at hk;exact hk
    | false=>rw [he] at hk;exact hk
   ·unfold Q7b at hpn
    cases hc:(os.all (fun o=>o.guard.isNone&&JM st1 o.dst)&&Q73 ops effs (Qgx effs (i+1) os ((i,fun _ _=>false)::acc)) (Qbq st1.m::Qc3 effs (i+1) os (Qbq st1.m) (st1.m::ms)).reverse) with
    | false=>rw [hc] at hpn;cases hpn
    | true =>
     rw [hc,C6] at hpn
     obtain ⟨c1,c2⟩:=C0.1 hc
     rw [hm] at c2 hsf hap
     have dst1:∀ {d:Option Nat},JM st1 d=true→Zm st0 d=true:=fun {d} hd=>by
      cases d with
      | none=>rfl
      | some d=>show Nat.blt d st0.nt=true;rw [← hdi1.nt];exact hd
     have hS1:=hS.step (m':=Qbq st.m) (y:=.unk) (c:=fun _ _=>false) hdag hi (fun h0=>by rw [he] at h0;cases h0) (impM_sf st.m) (fun E hP hW up m' u1 u2 hc=>by cases hc)
     rw [he,C6] at hS1
     have hl2:∀ j o',os[j]?=some o'→ops[i+1+j]?=some o'∧o'.guard=none∧Zm st0 o'.dst=true:=fun j o' hj=>by
      have h5:=Cf.1 c1 o' (Cs hj)
      obtain ⟨h6,h7⟩:=C0.1 h5
      exact ⟨hl' j o' hj,Option.isNone_iff_eq_none.1 h6,dst1 h7⟩
     obtain ⟨fx',g1,Qqm⟩:=Qgw (m:=Qbq st.m) hdag (Qbp st.m) os hl2 hs' hS1
     refine .inr ⟨v,_,⟨?_,hsf.es,hsf.tk,hsf.nx,?_,?_⟩,hpn,fx',_,_,Qbp st.m,fun E hP hW=>g1.all c2 hP hW,fun E hP hW Q F hq hk=>?_⟩
     ·obtain ⟨z,hz⟩:=hsf1.tm
      exact ⟨_++z,by rw [CB,← hz]⟩
     ·exact hsf1.nt
     ·exact hsf1.df
     ·refine RunA.die ho he (dst1 hd) (DieOp.mk (m':=m.er D) (pv:=v) ho (by rw [eqd];rw [show (st1.er D).mem=st.m.er D from congrArg (TMe.er D) hm] at hw1;exact hw1) (fun V a w hr2=>?_) (Gi ?_ hq)) (Qqm E hP hW _ F hk)
      ·rw [eqd,← hm] at hr2
       exact hop E hP hW V a w (hr2.weak (hdi1.deps hdag hnd hi))
      ·rw [eqd]
       exact dieW (by rw [hm] at *;exact hap) (by rw [hm];exact hsf.tk) hdi1 hdag hnd hi
  unfold Kc at hr
  split at hr
  ·rename_i hgd
   exact RUN st rfl (Sfx.refl st) h (by unfold Qx;rw [hgd]) hr
  ·rename_i j b hgd
   split at hr
   ·cases hr
   ·rename_i d hj
    cases hbk:(Q4q ops i).contains d with
    | true=>rw [hbk] at hr;cases hr
    | false =>
     rw [hbk,Ce] at hr
     have skip:∀ {st':TSt U},DI D ops st0 fx i st'→st'.m=st.m→Sfx st st'→Qx ops (Qq ops st0 fx i (st.er D).mem).tm o=some false→cond (JM st o.dst) (Kc D C K X Y ops effs pn (i+1) os (Ka o st') (cond (effs.contains i) (st.m::ms) ms) ((i,fun _ _=>!(effs.contains i))::acc) k) none=some r→DrawR D W P ops effs st0 i (os.length+1) fx st ms pn k r:=by
      intro st' hdi hm hsf hw hr'
      cases hd1:JM st o.dst with
      | false=>rw [hd1] at hr';cases hr'
      | true =>
       rw [hd1,C6] at hr'
       have hsi:=hS.step (m':=(Ka o st').m) (y:=.tup []) (c:=fun _ _=>!(effs.contains i)) hdag hi (fun _=>hm) (by show SfM st.m st'.m;rw [hm];exact SfM.refl _) (fun E hP hW up m' u1 u2 hc=>by
        have he:effs.contains i=false:=by simpa using hc
        have e:=K1 (ops:=ops) (fx:=fx) (fx':=(i,TV.tup [])::fx) (js:=Qu ops i) (fun j hj=>by
         have:=hdag i hi j hj
         rw [Q1,C5 (by omega)])
        have eqd:∀ M:Mem,Qq ops st0 ((i,.tup [])::fx) i M=Qq ops st0 fx i M:=fun M=>by
         unfold Qq
         rw [e]
        exact ⟨o,.tup [],ho,by rw [Q1,Cd rfl],dst0 hd1,he,.inr ⟨by rw [eqd];exact hw,rfl⟩⟩)
       refine GO (Ka o st') (.tup []) _ _ (hsf.trans (Sfx.put st' o.dst _)) (hdi.step ho (x:=.tup []) (m':=st'.m) (y:=.tup []) Z (fun t z hz V w v hv=>hv)) hsi hr' (fun E hP hW Dd F hk=>?_)
       have e:(Ka o st').m=st.m:=hm
       rw [e] at hk
       cases he:effs.contains i with
       | true=>rw [he] at hk;exact RunA.noE ho he hw (dst0 hd1) hk
       | false=>rw [he] at hk;exact RunA.no ho he hw (dst0 hd1) hk
     split at hr
     ·rename_i c hc
      have want:∀ b',c=b'→Qx ops (Qq ops st0 fx i (st.er D).mem).tm o=some (b'==b):=fun b' e=>by
       subst e
       obtain ⟨y,hy,hyz⟩:=h.look hdag hnd hi hbk hc
       have ey:=hyz.2 (.inl ⟨c,rfl⟩)
       unfold Qx
       rw [hgd]
       dsimp only
       rw [hj]
       dsimp only
       rw [hy,ey];rfl
      have run:∀ b',c=b'→Wl D C K X Y ops effs i o (setB st d b') (Q7b ops effs i os (setB st d b') ms acc pn) (fun s c=>Kc D C K X Y ops effs pn (i+1) os s (cond (effs.contains i) (st.m::ms) ms) ((i,c)::acc) k)=some r→(b'==b)=true→_:=fun b' e h' e2=>RUN (setB st d b') rfl (UW st d b') (h.setB hc e) (by rw [← e2];exact want b' e) h'
      have skp:∀ b',c=b'→cond (JM st o.dst) (Kc D C K X Y ops effs pn (i+1) os (Ka o (setB st d b')) (cond (effs.contains i) (st.m::ms) ms) ((i,fun _ _=>!(effs.contains i))::acc) k) none=some r→(b'==b)=false→_:=fun b' e h' e2 =>
       skip (h.setB hc e) rfl (UW st d b') (by rw [← e2];exact want b' e) h'
      cases hcv:c with
      | true =>
       rw [hcv,C6] at hr
       cases b with
       | true=>exact run true hcv hr rfl
       | false=>exact skp true hcv hr rfl
      | false =>
       rw [hcv,Ce] at hr
       cases b with
       | true=>exact skp false hcv hr rfl
       | false=>exact run false hcv hr rfl
     ·rename_i hc
      refine skip h Z (Sfx.refl st) ?_ hr
      obtain ⟨y,hy,hyz⟩:=h.look hdag hnd hi hbk hc
      have ey:=hyz.2 (.inr rfl)
      unfold Qx
      rw [hgd]
      dsimp only
      rw [hj]
      dsimp only
      rw [hy,ey];rfl
     ·cases hr
theorem draw_ok {id:Nat} {st:TSt U} {pn:Value→TSt U→Option β} {k:TSt U→Option β} {P:Program} (hm:P.follows .mixedOrders=true) (hT:C.T.OK P) (hD:D.OK) {W:Wd} (hK:Q0v W D P K) (hX:WO W D P X) (hY:YOK W D P Y st.m) (hB:Qc0 ops effs=true) (hr:Kc D C K X Y ops effs pn 0 ops.toList st [] [] k=some r):(∃ s,Sfx st s∧k s=some r∧∀ (E:Env) (ro:Option Nat) (n:Nat) Q,E.P=P→W.p E.V0.S E.w0→XQ E Q .normal (s.er D)→XC E ro n Q (.region id ops true) (st.er D)) ∨
  (∃ v s,Sfx st s∧pn v s=some r∧∀ (E:Env) (ro:Option Nat) (n:Nat) Q,E.P=P→W.p E.V0.S E.w0→XQ E Q (.panic (ZW v)) (s.er D)→XC E ro n Q (.region id ops true) (st.er D)):=by
 obtain ⟨hB12,hB3⟩:=C0.1 hB
 obtain ⟨hB1,hB2⟩:=C0.1 hB12
 have hB':=hB1
 simp only [Q4y,CD,CX] at hB'
 obtain ⟨⟨⟨⟨hdag,hnd⟩,-⟩,-⟩,-⟩:=hB'
 have hdag':∀ i,i < ops.size→∀ k∈Qu ops i,k < i:=fun i hi k hk=>by
  have:=Cf.1 (Cf.1 hdag i (by simpa using hi)) k hk
  simpa using this
 have e:ops.toList.length=ops.size:=by simp
 have R:=Qbz (effs:=effs) (st0:=st.er D) (fx:=[]) hT hD hK hX hdag' hnd ops.toList (i:=0) (st:=st) (ms:=[]) (acc:=[]) (pn:=pn) (k:=k) (r:=r)
  (fun j o hj=>by rw [P7];simpa using hj) (by rw [P7];simp) ⟨fun j hj=>by omega,fun j hj=>rfl,fun t x hx=>.inr ⟨fun j hj=>by omega,x.er D st.m.tk,by show Qq8 (QI _ st.tm) t=_;rw [QN,hx];rfl,fun _ _ _ h=>h,fun _=>rfl⟩,rfl,rfl⟩
  ⟨(fun j c hj=>by cases hj),(fun a b ma mb hab ha hb=>by
   have ha1:=(Cg.1 ha).1
   have hb1:=(Cg.1 hb).1
   have e1:a=0:=by simpa using ha1
   have e2:b=0:=by simpa using hb1
   subst e1;subst e2
   rw [ha] at hb;cases hb;exact SfM.refl _),rfl⟩ hY hr
 rcases R with ⟨s,q1,q2,fx',msF,q3,qx,q4⟩ | ⟨v,s,q1,q2,fx',mF,msF,q3,qx,q4⟩
 ·refine .inl ⟨s,q1,q2,fun E ro n Q hP hW hq=>YG effs (Qdx ops effs) (hP.symm▸hm) hB1 hB2 (C4 hB3) ?_⟩
  have key:=q4 E hP hW Q (fun fx ms=>AllEx E ops (st.er D) effs fx ms.reverse (Qdx ops effs)∧∃ mE r,ms=mE::r∧XQ E Q .normal (Q1l ops (st.er D) fx mE)) ⟨qx E hP hW,_,_,rfl,Gi (q3.end hnd) hq⟩
  rw [e] at key
  exact key
 ·refine .inr ⟨v,s,q1,q2,fun E ro n Q hP hW hq=>YG effs (Qdx ops effs) (hP.symm▸hm) hB1 hB2 (C4 hB3) ?_⟩
  have key:=q4 E hP hW Q (fun fx ms=>AllEx E ops (st.er D) effs fx ms.reverse (Qdx ops effs)∧∃ mE r,ms=mE::r∧XQ E Q .normal (Q1l ops (st.er D) fx mE)) hq ⟨qx E hP hW,_,_,rfl,fun V a w hr=>(Qjn (D:=D) q3 rfl hr).elim⟩
  rw [e] at key
  exact key
theorem unkT_weak {st0:TSt U} {tm:List (Nat×TV)}:StW ⟨tm,(st0.m.er D).hp,(st0.m.er D).tk,(st0.m.er D).nx,st0.nt,st0.df⟩ ((Qcu st0).er D):=by
 refine ⟨fun t y hy=>.inl ?_,fun i B h=>⟨B,h,fun _ _ _ h=>h⟩,fun i T h=>h,Z,Z,Z⟩
 have hy':Qq8 (QI (TTV.er D st0.m.tk) ((st0.tm.map fun p=>(p.1,TTV.unk))++st0.tm)) t=some y:=hy
 rw [QN] at hy'
 have key:∀ (a b:List (Nat×TTV U)),(∀ k z,Qq8 b k=some z→∃ z',Qq8 a k=some z')→Qq8 ((a.map fun p=>(p.1,(TTV.unk:TTV U)))++b) t=none∨Qq8 ((a.map fun p=>(p.1,(TTV.unk:TTV U)))++b) t=some .unk:=by
  intro a b hab
  rw [Jt]
  cases hq:Qq8 (a.map fun p=>(p.1,(TTV.unk:TTV U))) t with
  | some z =>
   have:Qq8 (QI (fun _:TTV U=>(TTV.unk:TTV U)) a) t=some z:=hq
   rw [QN] at this
   cases hz:Qq8 a t with
   | none=>rw [hz] at this;cases this
   | some u=>rw [hz] at this;cases this;exact .inr rfl
  | none =>
   have h0:Qq8 (QI (fun _:TTV U=>(TTV.unk:TTV U)) a) t=none:=hq
   rw [QN] at h0
   cases hb:Qq8 b t with
   | none=>exact .inl rfl
   | some z =>
    obtain ⟨z',hz'⟩:=hab t z hb
    rw [hz'] at h0;cases h0
 rcases key st0.tm st0.tm (fun k z h=>⟨z,h⟩) with h | h
 ·rw [h] at hy';cases hy'
 ·rw [h] at hy';cases hy';rfl
theorem Qgs {P:Program} (hT:C.T.OK P) (hD:D.OK) {W:Wd} (hK:Q0v W D P K) (hX:WO W D P X) (hdag:∀ i,i < ops.size→∀ k∈Qu ops i,k < i) (hnd:(Jl ops).Nodup) {st0:TSt U} (hY:YOK W D P Y st0.m) {p:Value→TSt U→Option β} :
  ∀ (rest:List Oper) {i:Nat} {fx:List (Nat×TV)} {st:TSt U},(∀ j o,rest[j]?=some o→ops[i+j]?=some o)→i+rest.length=ops.size→DI D ops (st0.er D) fx i st→st.m=st0.m→Qhn D C K X Y ops effs st0 p i rest st=some r →
  ∃ v,p v (Qcu st0)=some r∧∀ E,E.P=P→W.p E.V0.S E.w0→∀ Q F,XQ E Q (.panic (ZW v)) ((Qcu st0).er D)→(∀ fx m ms,F fx ((⟨[(0,.obj (.deferred none))],[],0⟩:Mem)::m::ms))→∀ ms,RunA E ops (st0.er D) effs (DieOp E Q ops (st0.er D)) F (List.range' i rest.length) fx ((st.er D).mem::ms)
 | [],i,fx,st,hl,hs,h,hm,hr=>by cases hr
 | o::os,i,fx,st,hl,hs,h,hm,hr=>by
  have ho:ops[i]?=some o:=hl 0 o rfl
  have hi:i < ops.size:=(CP.1 ho).1
  have hl':∀ j o',os[j]?=some o'→ops[i+1+j]?=some o':=fun j o' hj=>by
   have:=hl (j+1) o' (by simpa using hj)
   rw [← this];congr 1;omega
  have hs':i+1+os.length=ops.size:=by rw [← hs,C2];omega
  unfold Qhn at hr
  split at hr
  ·cases hr
  ·rename_i hgd
   have hw:∀ tm:List (Nat×TV),Qx ops tm o=some true:=fun tm=>by unfold Qx;rw [hgd]
   split at hr
   ·cases hc:(effs.contains i&&JM st o.dst) with
    | false=>rw [hc] at hr;cases hr
    | true =>
     rw [hc,C6] at hr
     obtain ⟨he,hd⟩:=C0.1 hc
     split at hr
     ·rename_i v hv
      refine ⟨v,hr,fun E hP hW Q F hq hF ms=>?_⟩
      have hdd:Zm (st0.er D) o.dst=true:=by
       cases hdst:o.dst with
       | none=>rfl
       | some d=>rw [hdst] at hd;show Nat.blt d st0.nt=true;have:=h.nt;rw [show st0.nt=st.nt from this.symm];exact hd
      refine RunA.die ho he hdd (DieOp.mk (m':=(st.er D).mem) (pv:=v) ho (hw _) (fun V a w hr2=>?_) ?_) (RunA.nil (hF _ _ _))
      ·have e2:Qq ops (st0.er D) ((i,.unk)::fx) i (st.er D).mem=Qq ops (st0.er D) fx i (st.er D).mem:=by
        have e:=K1 (ops:=ops) (fx:=fx) (fx':=(i,TV.unk)::fx) (js:=Qu ops i) (fun j hj=>by
         have:=hdag i hi j hj
         rw [Q1,C5 (by omega)])
        unfold Qq
        rw [e]
       rw [e2] at hr2
       exact Qf9 hv V a w (hr2.weak (h.deps hdag hnd hi))
      ·refine Gi ?_ hq
       have em:(st.er D).mem=st0.m.er D:=by show TMe.er D st.m=_;rw [hm]
       rw [em]
       exact unkT_weak
     ·cases hr
   ·rename_i h1 t1
    cases he:effs.contains i with
    | true=>rw [he] at hr;cases hr
    | false =>
     rw [he,Ce] at hr
     have hY':YOK W D P Y st.m:=by rw [hm];exact hY
     obtain ⟨s1,c,q1,q2,qm,y,q3,qg,q4⟩:=(Q78 (st:=st) hT hD hK hX hdag hnd hY' h ho (hw _) hr).resolve_right (fun ⟨v,m,he',_⟩=>by rw [he] at he';cases he')
     have hm1:=qm he
     obtain ⟨v,k1,k2⟩:=Qgs hT hD hK hX hdag hnd hY _ hl' hs' q3 (hm1.trans hm) q2
     refine ⟨v,k1,fun E hP hW Q F hq hF ms=>?_⟩
     have key:=q4 E hP hW ms (List.range' (i+1) (h1::t1).length) (DieOp E Q ops (st0.er D)) F
     rw [he,Ce] at key
     exact key (k2 E hP hW Q F hq hF ms)
theorem die_ok {id:Nat} {st:TSt U} {p:Value→TSt U→Option β} {P:Program} (hm:P.follows .mixedOrders=true) (hT:C.T.OK P) (hD:D.OK) {W:Wd} (hK:Q0v W D P K) (hX:WO W D P X) (hY:YOK W D P Y st.m) (hB:Qc0 ops effs=true) (hx:(Qdx ops effs).isEmpty=true) (hr:Qhn D C K X Y ops effs st p 0 ops.toList st=some r) :
  ∃ v,p v (Qcu st)=some r∧∀ E ro n Q,E.P=P→W.p E.V0.S E.w0→XQ E Q (.panic (ZW v)) ((Qcu st).er D)→XC E ro n Q (.region id ops true) (st.er D):=by
 obtain ⟨hB12,hB3⟩:=C0.1 hB
 obtain ⟨hB1,hB2⟩:=C0.1 hB12
 have hB':=hB1
 simp only [Q4y,CD,CX] at hB'
 obtain ⟨⟨⟨⟨hdag,hnd⟩,-⟩,-⟩,-⟩:=hB'
 have hdag':∀ i,i < ops.size→∀ k∈Qu ops i,k < i:=fun i hi k hk=>by
  have:=Cf.1 (Cf.1 hdag i (by simpa using hi)) k hk
  simpa using this
 obtain ⟨v,q1,q2⟩:=Qgs (effs:=effs) (fx:=[]) hT hD hK hX hdag' hnd hY ops.toList (i:=0) (st:=st)
  (fun j o hj=>by rw [P7];simpa using hj) (by rw [P7];simp) ⟨fun j hj=>by omega,fun j hj=>rfl,fun t x hx=>.inr ⟨fun j hj=>by omega,x.er D st.m.tk,by show Qq8 (QI _ st.tm) t=_;rw [QN,hx];rfl,fun _ _ _ h=>h,fun _=>rfl⟩,rfl,rfl⟩ rfl hr
 have hex:Qdx ops effs=[]:=Pc.1 hx
 refine ⟨v,q1,fun E ro n Q hP hW hq=>YG effs (Qdx ops effs) (hP.symm▸hm) hB1 hB2 (C4 hB3) ?_⟩
 have key:=q2 E hP hW Q (fun fx ms=>AllEx E ops (st.er D) effs fx ms.reverse (Qdx ops effs)∧∃ mE r,ms=mE::r∧XQ E Q .normal (Q1l ops (st.er D) fx mE)) hq (fun fx m ms=>⟨by rw [hex];trivial,_,_,rfl,XQ.bad⟩) []
 have e:ops.toList.length=ops.size:=by simp
 rw [e] at key
 exact key
end
end
end
noncomputable section
open Go.RowKit
section
variable {U:Univ}
variable (U) in
structure LpT where
 s:LoopState
 p:Option Code
 tm:List (Nat×TTV U)
 nt:Nat
 ps:Array Nat
 a:Code
 b:Code
 d:Nat
def LpT.er (D:Codec U) (tk:List (Nat×TTok U)) (L:LpT U):HB:=.loop L.s L.p (QI (TTV.er D tk) L.tm) L.nt L.ps L.a L.b L.d
def Up:List (Ev U)→Nat→Option (LpT U)
 | [],_=>none
 | .lp j s p tm nt ps a b d::es,i=>cond (Nat.beq j i) (some ⟨s,p,tm,nt,ps,a,b,d⟩) (Up es i)
 | .ls j xs::es,i=>match Up es i with
  | some L=>some (cond (Nat.beq j i) ⟨L.s,L.p,xs++L.tm,L.nt,L.ps,L.a,L.b,L.d⟩ L)
  | none=>none
 | .box j _ _::es,i=>cond (Nat.beq j i) none (Up es i)
 | .raw j _::es,i=>cond (Nat.beq j i) none (Up es i)
 | .set _ _ _::es,i=>Up es i
theorem mapV_append {α β:Type} (f:α→β) (xs ys:List (Nat×α)):QI f (xs++ys)=QI f xs++QI f ys:=Cr
theorem Kk {D:Codec U} {tk:List (Nat×TTok U)}:∀ {es:List (Ev U)} {i:Nat} {L:LpT U},Up es i=some L→Qq8 (Qg D tk es) i=some (L.er D tk)
 | [],i,L,h=>by cases h
 | .lp j s p tm nt ps a b d::es,i,L,h=>by
  unfold Up at h
  unfold Qg
  rw [Q1]
  cases hb:Nat.beq j i with
  | true=>rw [hb] at h;cases h;rw [Cd (C4 hb)];rfl
  | false=>rw [hb] at h;rw [C5 (Ke hb)];exact Kk h
 | .ls j xs::es,i,L,h=>by
  unfold Up at h
  split at h
  ·rename_i L0 h0
   have ih:=Kk (D:=D) (tk:=tk) h0
   unfold Qg
   cases hb:Nat.beq j i with
   | true =>
    rw [hb] at h;cases h
    have e:=C4 hb
    subst e
    rw [ih]
    show Qq8 ((j,HB.loop L0.s L0.p (QI (TTV.er D tk) xs++QI (TTV.er D tk) L0.tm) L0.nt L0.ps L0.a L0.b L0.d)::Qg D tk es) j=_
    rw [Q1,Cd rfl,← mapV_append];rfl
   | false =>
    rw [hb] at h;cases h
    split
    ·rw [Q1,C5 (Ke hb)];exact ih
    ·exact ih
  ·cases h
 | .box j T xs::es,i,L,h=>by
  unfold Up at h
  unfold Qg
  rw [Q1]
  cases hb:Nat.beq j i with
  | true=>rw [hb] at h;cases h
  | false=>rw [hb] at h;rw [C5 (Ke hb)];exact Kk h
 | .raw j B::es,i,L,h=>by
  unfold Up at h
  unfold Qg
  rw [Q1]
  cases hb:Nat.beq j i with
  | true=>rw [hb] at h;cases h
  | false=>rw [hb] at h;rw [C5 (Ke hb)];exact Kk h
 | .set j off xs::es,i,L,h=>by
  unfold Up at h
  have ih:=Kk (D:=D) (tk:=tk) h
  unfold Qg
  split
  ·rename_i T ys hy
   rw [Q1]
   by_cases e:j=i
   ·subst e
    rw [hy] at ih;cases ih
   ·rw [C5 e];exact ih
  ·exact ih
end
end
noncomputable section
open Go.RowKit
section
variable {U:Univ} (D:Codec U)
def Q9v (st:TSt U) (l:Loc) (i:Nat) (e:TypeId) (t:U.T):TSt U:=match l with
 | .reg r=>⟨(r,.v (.one (.app i 0)))::st.tm,⟨st.m.es,(i,⟨e,t,[],0⟩)::st.m.tk,i+1⟩,st.nt,st.df⟩
 | .cell j off=>⟨st.tm,⟨.set j off [.one (.app i 0)]::st.m.es,(i,⟨e,t,[],0⟩)::st.m.tk,i+1⟩,st.nt,st.df⟩
def Q9f:Option (TAV U)→Bool
 | some (.one (.c (.v (.slice none 0 0))))=>true
 | _=>false
variable (U) in
inductive HK where
 | int (k:IntKind)
 | bool
 | str
 | sl (t:U.T)
 | app (e:TypeId) (t:U.T)
 | stc (t:U.T)
 | ptr (r off:Nat)
 | any
inductive HL where
 | reg (r:Nat)
 | at (r off:Nat)
 | fat (rL r off:Nat)
variable (U) in
structure HLab where
 sl:List (List HL×HK U)
 dead:List Nat
def locOf (st:TSt U):HL→Option Loc
 | .reg r=>some (.reg r)
 | .at r off=>match Qq8 st.tm r with
  | some (.v (.one (.ptr i o)))=>some (.cell i (o+off))
  | _=>none
 | .fat rL r off=>match Qq8 st.tm rL with
  | some (.v (.one (.raw (.yld L))))=>match Up st.m.es L with
   | some F=>match Qq8 F.tm r with
    | some (.v (.one (.ptr i o)))=>some (.cell i (o+off))
    | _=>none
   | none=>none
  | _=>none
def Qdm (st:TSt U):List HL→Option (List Loc)
 | []=>some []
 | l::ls=>match locOf st l with
  | some x=>match Qdm st ls with
   | some xs=>some (x::xs)
   | none=>none
  | none=>none
def Q9b (st:TSt U) (ls:List Loc):HK U→Option (AK U×TSt U)
 | .int k=>some (.int k,st)
 | .bool=>some (.bool,st)
 | .str=>some (.str,st)
 | .sl t=>some (.sl t,st)
 | .stc t=>some (.stc t,st)
 | .ptr r off=>match Qq8 st.tm r with
  | some (.v (.one (.ptr i o)))=>some (.ptr i (o+off),st)
  | _=>none
 | .any=>some (.any,st)
 | .app e t=>match ls with
  | []=>none
  | l::_=>cond (Q9f (Xy D st l 1)) (cond (Qb9 st.m.nx 0 st.tm st.m.es) (some (.app st.m.nx e t,Q9v st l st.m.nx e t)) none) (match Xy D st l 1 with
   | some (.one (.app j _))=>some (.app j e t,st)
   | _=>none)
def UY:List (List HL×HK U)→TSt U→Option (List (List Loc×AK U)×TSt U)
  | [],st=>some ([],st)
  | (hl,k)::r,st=>match Qdm st hl with
    | none=>none
    | some ls=>match Q9b D st ls k with
      | none=>none
      | some (k',s1)=>match UY r s1 with
        | none=>none
        | some (sl,s)=>some ((ls,k')::sl,s)
def U4 (h:HLab U) (st:TSt U):Option (Lab U×TSt U):=match UY D h.sl st with
 | some (sl,s)=>cond (Qhw ⟨sl,h.dead⟩ s) (some (⟨sl,h.dead⟩,s)) none
 | none=>none
def kindOut (st:TSt U) (ls:List Loc):HK U→Option (AK U)
 | .int k=>some (.int k)
 | .bool=>some .bool
 | .str=>some .str
 | .sl t=>some (.sl t)
 | .stc t=>some (.stc t)
 | .ptr r off=>match Qq8 st.tm r with
  | some (.v (.one (.ptr i o)))=>some (.ptr i (o+off))
  | _=>none
 | .any=>some .any
 | .app e t=>match ls with
  | []=>none
  | l::_=>match Xy D st l 1 with
   | some (.one (.app j _))=>some (.app j e t)
   | _=>none
def Qie (st:TSt U):List (List HL×HK U)→Option (List (List Loc×AK U))
  | []=>some []
  | (hl,k)::r=>match Qdm st hl with
    | none=>none
    | some ls=>match kindOut D st ls k with
      | none=>none
      | some k'=>match Qie st r with
        | none=>none
        | some sl=>some ((ls,k')::sl)
def Q0c (h:HLab U) (st:TSt U):Option (Lab U):=match Qie D st h.sl with
 | some sl=>cond (Qhw ⟨sl,h.dead⟩ st) (some ⟨sl,h.dead⟩) none
 | none=>none
variable {D}
theorem isNilA_ok {x:Option (TAV U)} (h:Q9f x=true):x=some (.one (.c (.v (.slice none 0 0)))):=by
 unfold Q9f at h
 split at h
 ·rfl
 ·cases h
theorem To.refl (E:Env) (x:St):To E x x:=fun V a w hr=>⟨V,hr⟩
theorem To.trans {E:Env} {x y z:St} (h:To E x y) (k:To E y z):To E x z:=fun V a w hr=>let ⟨V',h'⟩:=h V a w hr;k V' a w h'
theorem To.weak {E:Env} {x y:St} (h:StW x y):To E x y:=fun V a w hr=>⟨V,hr.weak h⟩
theorem Qks {E:Env} {x y:St} (h:XQ E (fun _ a w=>∃ V,Rel E V y a w) .normal x):To E x y:=h
theorem adoptAt_ok (hD:D.OK) {E:Env} {st:TSt U} {l:Loc} {i:Nat} {e:TypeId} {t:U.T} (h:Xy D st l 1=some (.one (.c (.v (.slice none 0 0))))) (hn:st.m.nx≤i) (ha:Qb9 i 0 st.tm st.m.es=true):To E (st.er D) ((Q9v st l i e t).er D):=by
 have hs:To E (st.er D) ⟨(st.er D).tm,(st.er D).hp,(st.er D).tk,i,st.nt,st.df⟩:=Qks (XQ.skipTo i hn (fun V a w hr=>⟨V,hr⟩))
 refine hs.trans ?_
 have e0:(U.E t).encL []=[]:=(U.E t).nil
 have eapp:(TA.app i 0:TA U).er ((i,(⟨e,t,[],0⟩:TTok U))::st.m.tk)=.app i (U.E t).sz []:=by
  show (match cur ((i,(⟨e,t,[],0⟩:TTok U))::st.m.tk) i 0 with
   | some T=>CA.app i (U.E T.t).sz ((U.E T.t).encL T.l)
   | none=>CA.any)=_
  rw [Zn,Cd rfl,Cd rfl]
  show CA.app i (U.E t).sz ((U.E t).encL [])=_
  rw [e0]
 have etok:∀ j x,Qq8 (XE ((i,(⟨e,t,[],0⟩:TTok U))::st.m.tk)) j=some (some x)→Qq8 ((i,some ⟨e,(U.E t).sz,0,[]⟩)::XE st.m.tk) j=some (some x):=fun j x h =>
  Gy (T0:=(⟨e,t,[],0⟩:TTok U)) (by
   unfold TTok.er
   dsimp only
   rw [e0];rfl) (fun _=>rfl) h
 have htm:∀ r y,Qq8 (QI (TTV.er D ((i,(⟨e,t,[],0⟩:TTok U))::st.m.tk)) st.tm) r=some y→y=.unk∨∃ x,Qq8 (st.er D).tm r=some x∧∀ V w v,x.rel V w v→y.rel V w v:=by
  intro r y hy
  rw [QN] at hy
  cases hz:Qq8 st.tm r with
  | none=>rw [hz] at hy;cases hy
  | some z =>
   rw [hz] at hy;cases hy
   refine .inr ⟨z.er D st.m.tk,by show Qq8 (QI _ st.tm) r=_;rw [QN,hz];rfl,fun V w v hv=>?_⟩
   exact ZN (UH fun hp=>by
    have h1:=(C0.1 ha).1
    have h2:st.tm.any (fun p=>p.2.hasApp i 0)=true:=CS.2 ⟨_,JR hz,hp⟩
    rw [h2] at h1;cases h1) hv
 have hes:∀ j,Qrc (Qq8 (Qg D st.m.tk st.m.es) j) (Qq8 (Qg D ((i,(⟨e,t,[],0⟩:TTok U))::st.m.tk) st.m.es) j):=YT (UH fun hp=>by
  have h1:=(C0.1 ha).2
  rw [hp] at h1;cases h1)
 cases l with
 | reg r =>
  have hr:Qq8 (st.er D).tm r=some (KB (.slice none 0 0)):=by
   show Qq8 (QI (TTV.er D st.m.tk) st.tm) r=_
   rw [QN,Q5x h];rfl
  refine (Qks (XQ.adoptT (st:=⟨(st.er D).tm,(st.er D).hp,(st.er D).tk,i,st.nt,st.df⟩) e (U.E t).sz hr (fun V a w hr=>⟨V,hr⟩))).trans (To.weak ⟨fun q y hy=>?_,fun j B hB=>?_,fun j T hT=>?_,Z,Z,Z⟩)
  ·have hy':Qq8 ((r,TV.v (.one ((TA.app i 0:TA U).er ((i,(⟨e,t,[],0⟩:TTok U))::st.m.tk))))::QI (TTV.er D ((i,(⟨e,t,[],0⟩:TTok U))::st.m.tk)) st.tm) q=some y:=hy
   rw [eapp] at hy'
   show y=.unk∨∃ x,Qq8 ((r,TV.v (.one (.app i (U.E t).sz [])))::(st.er D).tm) q=some x∧_
   rw [Q1] at hy' ⊢
   by_cases c:r=q
   ·rw [Cd c] at hy' ⊢;cases hy';exact .inr ⟨_,rfl,fun _ _ _ h=>h⟩
   ·rw [C5 c] at hy' ⊢;exact htm q y hy'
  ·have hB':Qq8 (Qg D ((i,(⟨e,t,[],0⟩:TTok U))::st.m.tk) st.m.es) j=some B:=hB
   have h3:=hes j
   rw [hB'] at h3
   show ∃ A,Qq8 (Qg D st.m.tk st.m.es) j=some A∧_
   cases hA:Qq8 (Qg D st.m.tk st.m.es) j with
   | none=>rw [hA] at h3;exact h3.elim
   | some A=>rw [hA] at h3;exact ⟨A,rfl,fun V w o h=>BW.rel h3 h⟩
  ·have hT':Qq8 (XE ((i,(⟨e,t,[],0⟩:TTok U))::st.m.tk)) j=some (some T):=hT
   exact etok _ _ hT'
 | cell j0 off =>
  obtain ⟨T0,ys,r1,r2,r3⟩:=Yj hD (tk:=st.m.tk) (Q39 h)
  have hy0:ys[off]?=some (.d (.v (.slice none 0 0))):=UQ r3
  refine (Qks (XQ.adoptC (st:=⟨(st.er D).tm,(st.er D).hp,(st.er D).tk,i,st.nt,st.df⟩) e (U.E t).sz r1 hy0 (fun V a w hr=>⟨V,hr⟩))).trans (To.weak ⟨htm,fun j B hB=>?_,fun j T hT=>?_,Z,Z,Z⟩)
  ·have hB':Qq8 (match Qq8 (Qg D ((i,(⟨e,t,[],0⟩:TTok U))::st.m.tk) st.m.es) j0 with
    | some (.cells T zs)=>(j0,.cells T (setL zs off [(TA.app i 0:TA U).er ((i,(⟨e,t,[],0⟩:TTok U))::st.m.tk)]))::Qg D ((i,(⟨e,t,[],0⟩:TTok U))::st.m.tk) st.m.es
    | _=>Qg D ((i,(⟨e,t,[],0⟩:TTok U))::st.m.tk) st.m.es) j=some B:=hB
   rw [eapp] at hB'
   show ∃ A,Qq8 ((j0,HB.cells T0 (ys.set off (.app i (U.E t).sz [])))::Qg D st.m.tk st.m.es) j=some A∧_
   have h0:=hes j0
   rw [r1] at h0
   have h3:=hes j
   rw [Q1]
   cases hX:Qq8 (Qg D ((i,(⟨e,t,[],0⟩:TTok U))::st.m.tk) st.m.es) j0 with
   | none=>rw [hX] at h0;exact h0.elim
   | some X =>
    rw [hX] at h0 hB'
    obtain ⟨zs,rfl,hl⟩:∃ zs,X=.cells T0 zs∧LW ys zs:=by
     have h0':BW (.cells T0 ys) X:=h0
     cases h0' with
     | refl=>exact ⟨ys,rfl,LW.refl _⟩
     | cells hl=>exact ⟨_,rfl,hl⟩
    dsimp only at hB'
    rw [Q1] at hB'
    by_cases c:j0=j
    ·rw [Cd c] at hB' ⊢
     cases hB'
     refine ⟨_,Z,fun V w o hr=>BW.rel (.cells ?_) hr⟩
     exact LW.set hl (LW.refl [CA.app i (U.E t).sz []]) off
    ·rw [C5 c] at hB' ⊢
     rw [hB'] at h3
     cases hA:Qq8 (Qg D st.m.tk st.m.es) j with
     | none=>rw [hA] at h3;exact h3.elim
     | some A=>rw [hA] at h3;exact ⟨A,rfl,fun V w o h=>BW.rel h3 h⟩
  ·have hT':Qq8 (XE ((i,(⟨e,t,[],0⟩:TTok U))::st.m.tk)) j=some (some T):=hT
   exact etok _ _ hT'
theorem adoptAt_sfx {st:TSt U} {l:Loc} {i:Nat} {e:TypeId} {t:U.T} (hn:st.m.nx≤i):Sfx st (Q9v st l i e t):=by
 cases l with
 | reg r=>exact ⟨⟨[_],rfl⟩,⟨[],rfl⟩,⟨[_],rfl⟩,SJ hn,rfl,.inr rfl⟩
 | cell j off=>exact ⟨⟨[],rfl⟩,⟨[_],rfl⟩,⟨[_],rfl⟩,SJ hn,rfl,.inr rfl⟩
theorem kindAt_ok (hD:D.OK) {E:Env} {st s:TSt U} {ls:List Loc} {k:HK U} {k':AK U} (h:Q9b D st ls k=some (k',s)):To E (st.er D) (s.er D)∧Sfx st s:=by
 cases k with
 | app e t =>
  cases ls with
  | nil=>cases h
  | cons l ls =>
   unfold Q9b at h
   dsimp only at h
   cases hn:Q9f (Xy D st l 1) with
   | true =>
    rw [hn,C6] at h
    cases hc:Qb9 st.m.nx 0 st.tm st.m.es with
    | false=>rw [hc] at h;cases h
    | true =>
     rw [hc] at h;cases h
     exact ⟨adoptAt_ok hD (isNilA_ok hn) (Ck _) hc,adoptAt_sfx (Ck _)⟩
   | false =>
    rw [hn,Ce] at h
    split at h
    ·cases h;exact ⟨To.refl _ _,Sfx.refl _⟩
    ·cases h
 | int k=>cases h;exact ⟨To.refl _ _,Sfx.refl _⟩
 | bool=>cases h;exact ⟨To.refl _ _,Sfx.refl _⟩
 | str=>cases h;exact ⟨To.refl _ _,Sfx.refl _⟩
 | sl t=>cases h;exact ⟨To.refl _ _,Sfx.refl _⟩
 | stc t=>cases h;exact ⟨To.refl _ _,Sfx.refl _⟩
 | any=>cases h;exact ⟨To.refl _ _,Sfx.refl _⟩
 | ptr r off =>
  unfold Q9b at h
  dsimp only at h
  split at h
  ·cases h;exact ⟨To.refl _ _,Sfx.refl _⟩
  ·cases h
theorem Q36 (hD:D.OK) {E:Env}:∀ {hl:List (List HL×HK U)} {st s:TSt U} {sl:List (List Loc×AK U)},UY D hl st=some (sl,s)→To E (st.er D) (s.er D)∧Sfx st s
  | [],st,s,sl,h=>by cases h;exact ⟨To.refl _ _,Sfx.refl _⟩
  | (ls,k)::r,st,s,sl,h=>by
    unfold UY at h
    split at h
    · cases h
    · split at h
      · cases h
      · rename_i k' s1 h1
        split at h
        · cases h
        · rename_i sl' s' h2;cases h
          obtain ⟨a1,a2⟩:=kindAt_ok (E:=E) hD h1
          obtain ⟨b1,b2⟩:=Q36 (E:=E) hD h2
          exact ⟨a1.trans b1,a2.trans b2⟩
theorem Yd (hD:D.OK) {E:Env} {h:HLab U} {L:Lab U} {st s:TSt U} (hi:U4 D h st=some (L,s)):To E (st.er D) (s.er D)∧Sfx st s∧Qhw L s=true:=by
 unfold U4 at hi
 split at hi
 ·rename_i sl s1 h1
  cases hw:Qhw ⟨sl,h.dead⟩ s1 with
  | false=>rw [hw] at hi;cases hi
  | true =>
   rw [hw] at hi;cases hi
   obtain ⟨a1,a2⟩:=Q36 (E:=E) hD h1
   exact ⟨a1,a2,hw⟩
 ·cases hi
theorem Q0b {h:HLab U} {L:Lab U} {st:TSt U} (hi:Q0c D h st=some L):Qhw L st=true:=by
 unfold Q0c at hi
 split at hi
 ·rename_i sl h1
  cases hw:Qhw ⟨sl,h.dead⟩ st with
  | false=>rw [hw] at hi;cases hi
  | true=>rw [hw] at hi;cases hi;exact hw
 ·cases hi
variable (U) in
inductive Tc where
 | skip
 | reg (id:Nat) (ops:Array Oper)
 | draw (id:Nat) (effs:List Nat) (ops:Array Oper)
 | seq (a b:Tc)
 | cond (c:Operand) (a b:Tc)
 | block (id:Nat) (b:Tc)
 | bloop (id:Nat) (h ho:HLab U) (b:Tc)
 | bloopE (id:Nat) (h ho:HLab U) (b:Tc)
 | join (h:HLab U) (b:Tc)
 | joinE (h:HLab U) (b:Tc)
 | exit (id:Nat)
 | scope (b:Tc)
 | range (g:Operand) (ps:Array Nat) (a b:Tc)
 | ret
def Tc.code:Tc U→Code
 | .skip=>.skip
 | .reg id ops=>.region id ops false
 | .draw id _ ops=>.region id ops true
 | .seq a b=>.seq a.code b.code
 | .cond c a b=>.cond c a.code b.code
 | .block id b=>.block id b.code
 | .bloop id _ _ b=>.block id (.loop b.code)
 | .bloopE id _ _ b=>.block id (.loop b.code)
 | .join _ b=>b.code
 | .joinE _ b=>b.code
 | .exit id=>.exit id
 | .scope b=>.scope b.code
 | .range g ps a b=>.rangeFunc g ps a.code b.code
 | .ret=>.ret
variable (D) (C:TCfg U) (K:FuncId→List (TAV U)→Option (KR U)) (X:Qr2 U)
def Q1a {α:Type} (h:Lab U) (st s:TSt U) (f:tup (h.sl.map (·.2))→α):Option α:=match GC D h st s with
 | some t=>some (f t)
 | none=>none
def KH:List Nat→List (TAV U)→List (Nat×TTV U)→List (Nat×TTV U)
 | t::ts,x::xs,tm=>KH ts xs ((t,.v x)::tm)
 | _,_,tm=>tm
abbrev Qcn (U:Univ):=List (Ev U)×List (Nat×TTok U)×Nat
def Q9j (m:TMe U) (s:TSt U):Option (Qcn U):=cond (Q5i s.df []) (some (s.m.es.take (s.m.es.length - m.es.length),s.m.tk.take (s.m.tk.length - m.tk.length),s.m.nx - m.nx)) none
def Q00 (m:TMe U) (a:Qcn U):TMe U:=⟨a.1++m.es,a.2.1++m.tk,m.nx+a.2.2⟩
def LpT.ev (L:Nat) (F:LpT U) (s:LoopState) (p:Option Code):Ev U:=.lp L s p F.tm F.nt F.ps F.a F.b F.d
def K8 (L:Nat):Ev U→Bool
 | .box i _ _=>!(Nat.beq i L)
 | .raw i _=>!(Nat.beq i L)
 | .lp i _ _ _ _ _ _ _ _=>!(Nat.beq i L)
 | .ls i _=>!(Nat.beq i L)
 | .set i _ _=>!(Nat.beq i L)
def Q5g (L:Nat):Ev U→Bool
 | .lp i _ _ _ _ _ _ _ _=>Nat.beq i L
 | _=>false
def Qm8 (L:Nat) (F:LpT U) (m:TMe U) (j:Option Code) (a:Qcn U):Option (TMe U):=cond (a.1.all (K8 L)) (match j with
 | none=>some (Q00 m a)
 | some c=>some ⟨F.ev L .done (some c)::(Q00 m a).es,(Q00 m a).tk,(Q00 m a).nx⟩) none
def X6 {β:Type} (L:Nat) (F:LpT U) (m:TMe U) (k:TTV U→TMe U→Option β) (j:Option Code) (a:Qcn U):Option β:=match Qm8 L F m j a with
 | some m'=>k (Qpv j.isNone) m'
 | none=>none
def Qp8 (st:TSt U):Option Nat→Option (Nat×Nat×List (Ev U)×Nat)
 | none=>some (st.m.nx+1,st.m.nx,[.raw st.m.nx (.obj (.deferred (some [])))],st.m.nx+2)
 | some L0=>match Up st.m.es L0 with
  | some F0=>some (st.m.nx,F0.d,[],st.m.nx+1)
  | none=>none
def Q2b (st:TSt U) (L:Nat) (F:LpT U) (xs:List (Ev U)) (nx:Nat):TMe U:=⟨F.ev L .ready none::(xs++st.m.es),st.m.tk,nx⟩
def Ql6 (L:Nat) (m1 m2:TMe U):List (Ev U):=(Q5d m1.es m2.es).filter fun e=>!(Q5g L e)
def Qmj (st:TSt U) (L:Nat) (m1 m2:TMe U):TSt U:=⟨st.tm,⟨Ql6 L m1 m2++st.m.es,m2.tk,m2.nx⟩,st.nt,st.df⟩
def Qib (rn:Option Nat) (st:TSt U) (L:Nat) (m1 m2:TMe U):Bool:=Z0 (Wq m2.tk st.m.tk) st.tm&&((Ql6 L m1 m2).all (K8 L)&&(st.m.es.all (K8 L)&&(match rn with
 | none=>(Ql6 L m1 m2).all (K8 st.m.nx)&&st.m.es.all (K8 st.m.nx)
 | some _=>true)))
def Qox (m2:TMe U) (L:Nat):Option Exit:=match Up m2.es L with
 | some F=>match F.s,F.p with
  | .ready,none=>some .normal
  | .done,some .ret=>some .ret
  | .done,some (.exit id)=>some (.exit id)
  | _,_=>none
 | none=>none
def JK:Tc U→(Y:Qr1 U)→(rn:Option Nat)→{R:Type}→(ret:TSt U→Option R)→(pan:Value→TSt U→Option R)→{β:Type}→TSt U→(R→Option β)→(Exit→TSt U→Option β)→Option β
 | .skip,_,_,_,_,_,_,st,_,k=>k .normal st
 | .reg _ ops,Y,rn,_,_,pan,_,st,p,k=>Q1z D C K X Y rn ops (fun v s=>Option.bind (pan v s) p) ops.toList st (k .normal)
 | .draw _ effs ops,Y,_,_,_,pan,_,st,p,k=>_root_.cond (Qc0 ops effs) (_root_.cond (Q0a ops) (_root_.cond (Qdx ops effs).isEmpty (Qhn D C K X Y ops effs st (fun v s=>Option.bind (pan v s) p) 0 ops.toList st) none) (Kc D C K X Y ops effs (fun v s=>Option.bind (pan v s) p) 0 ops.toList st [] [] (k .normal))) none
 | .seq a b,Y,rn,_,ret,pan,_,st,p,k=>JK a Y rn ret pan st p fun e s=>match e with
  | .normal=>JK b Y rn ret pan s p k
  | e=>k e s
 | .cond c a b,Y,rn,_,ret,pan,_,st,p,k=>match YD st.tm c with
  | some (.v (.one (.c (.v (.bool v)))))=>cond v (JK a Y rn ret pan st p k) (JK b Y rn ret pan st p k)
  | _=>none
 | .block id b,Y,rn,_,ret,pan,_,st,p,k=>JK b Y rn ret pan st p fun e s=>match e with
  | .exit j=>cond (Nat.beq j id) (k .normal s) (k (.exit j) s)
  | e=>k e s
 | .bloop id h ho b,Y,rn,R,_,_,_,st,_,k=>match U4 D h st with
  | none=>none
  | some (L,s0)=>match GC D L s0 s0,Q0c D ho s0 with
   | some t0,some Lo=>Option.bind (Q9 (fun t=>JK b Y rn (R:=R) (fun _=>none) (fun _ _=>none) (lab L s0 t) (fun _=>none) fun e s=>match e with
     | .normal=>Q1a D L s0 s .next
     | .exit j=>cond (Nat.beq j id) (Q1a D Lo s0 s .done) none
     | _=>none) Qd t0) fun o=>k .normal (lab Lo s0 o)
   | _,_=>none
 | .bloopE id h ho b,Y,rn,R,ret,pan,_,st,p,k=>match U4 D h st with
  | none=>none
  | some (L,s0)=>match GC D L s0 s0,Q0c D ho s0 with
   | some t0,some Lo=>Option.bind (Q9 (β:=tup (Lo.sl.map (·.2))⊕R) (fun t=>JK b Y rn ret pan (lab L s0 t) (fun o=>some (.done (.inr o))) fun e s=>match e with
     | .normal=>Q1a D L s0 s .next
     | .exit j=>cond (Nat.beq j id) (Q1a D Lo s0 s fun o=>.done (.inl o)) none
     | _=>none) Qd t0) (Sum.elim (fun o=>k .normal (lab Lo s0 o)) p)
   | _,_=>none
 | .join h b,Y,rn,R,_,_,_,st,_,k=>match U4 D h st with
  | none=>none
  | some (L,s0)=>Option.bind (JK b Y rn (R:=R) (fun _=>none) (fun _ _=>none) s0 (fun _=>none) fun e s=>match e with
   | .normal=>Q1a D L s0 s id
   | _=>none) fun t=>k .normal (lab L s0 t)
 | .joinE h b,Y,rn,R,ret,pan,_,st,p,k=>match U4 D h st with
  | none=>none
  | some (L,s0)=>Option.bind (JK b Y rn ret pan (β:=tup (L.sl.map (·.2))⊕R) s0 (fun o=>some (.inr o)) fun e s=>match e with
   | .normal=>Q1a D L s0 s .inl
   | _=>none) (Sum.elim (fun t=>k .normal (lab L s0 t)) p)
 | .exit id,_,_,_,_,_,_,st,_,k=>k (.exit id) st
 | .scope b,Y,rn,_,ret,pan,_,st,p,k=>JK b Y rn ret pan st p fun e s=>match e with
  | .goto _=>none
  | e=>k e s
 | .range g ps a b,Y,rn,_,ret,pan,_,st,p,k=>match YD st.tm g,Qp8 st rn with
  | some (.v (.one (.fn gf caps))),some (L,d,xs,nx)=>match X (fun L' args m=>cond (Nat.beq L' L)
    (cond ((Q5d (Q2b st L ⟨.ready,none,st.tm,st.nt,ps,a.code,b.code,d⟩ xs nx).es m.es).all (K8 L)&&(Nat.beq args.length ps.size&&ps.toList.all fun t=>Nat.blt t st.nt))
     (some ⟨fun k _=>JK a Y (some L) (R:=Qcn U) (fun _=>none) (fun _ _=>none) ⟨KH ps.toList args st.tm,m,st.nt,[]⟩ (fun _=>none) fun e s=>match e with
      | .normal=>cond ((Q5d m.es s.m.es).all (K8 L)&&Q5i s.df []) (JK b Y (some L) (Q9j ⟨.lp L .busy none st.tm st.nt ps a.code b.code d::s.m.es,s.m.tk,s.m.nx⟩) (fun _ _=>none) ⟨s.tm,⟨.lp L .busy none st.tm st.nt ps a.code b.code d::s.m.es,s.m.tk,s.m.nx⟩,s.nt,s.df⟩ (X6 L ⟨.ready,none,st.tm,st.nt,ps,a.code,b.code,d⟩ s.m k (some .ret)) fun e s2=>match e with
        | .normal=>Option.bind (Q9j ⟨.lp L .busy none st.tm st.nt ps a.code b.code d::s.m.es,s.m.tk,s.m.nx⟩ s2) (X6 L ⟨.ready,none,st.tm,st.nt,ps,a.code,b.code,d⟩ s.m k none)
        | .exit id=>Option.bind (Q9j ⟨.lp L .busy none st.tm st.nt ps a.code b.code d::s.m.es,s.m.tk,s.m.nx⟩ s2) (X6 L ⟨.ready,none,st.tm,st.nt,ps,a.code,b.code,d⟩ s.m k (some (.exit id)))
        | _=>none) none
      | _=>none⟩) none) (Y L' args m)) (.fn gf) (.one (.raw (.yld L))::Q7d caps) (Q2b st L ⟨.ready,none,st.tm,st.nt,ps,a.code,b.code,d⟩ xs nx) with
   | some xo=>xo.run (fun _ m2=>cond (Qib rn st L (Q2b st L ⟨.ready,none,st.tm,st.nt,ps,a.code,b.code,d⟩ xs nx) m2) (match Qox m2 L with
    | some .ret=>Option.bind (ret (Qmj st L (Q2b st L ⟨.ready,none,st.tm,st.nt,ps,a.code,b.code,d⟩ xs nx) m2)) p
    | some e=>k e (Qmj st L (Q2b st L ⟨.ready,none,st.tm,st.nt,ps,a.code,b.code,d⟩ xs nx) m2)
    | none=>none) none) fun v m2=>cond (Qib rn st L (Q2b st L ⟨.ready,none,st.tm,st.nt,ps,a.code,b.code,d⟩ xs nx) m2) (Option.bind (pan v (Qmj st L (Q2b st L ⟨.ready,none,st.tm,st.nt,ps,a.code,b.code,d⟩ xs nx) m2)) p) none
   | none=>none
  | _,_=>none
 | .ret,_,_,_,ret,_,_,st,p,_=>Option.bind (ret st) p
end
section
variable {U:Univ} {D:Codec U} {C:TCfg U} {K:FuncId→List (TAV U)→Option (KR U)} {X:Qr2 U}
variable {E:Env} {ro:Option Nat} {n:Nat} {Q:Exit→Act→World→Prop}
theorem ZU {c:Code} {x y:St} (h:To E x y) (k:XC E ro n Q c y):XC E ro n Q c x:=fun V a w hr=>let ⟨V',hr'⟩:=h V a w hr;k V' a w hr'
theorem WN {e:Exit} {x y:St} (h:To E x y) (k:XQ E Q e y):XQ E Q e x:=fun V a w hr=>let ⟨V',hr'⟩:=h V a w hr;k V' a w hr'
theorem Qci {σ β:Type} {st:St} {c:Code} (step:σ→Option (LO σ β)) (inv:σ→St) (s0:σ) (b:β) (h0:To E st (inv s0)) (hok:Q9 step Qd s0=some b)
  (round:∀ (s:σ) (m:Nat) (o:LO σ β),step s=some o→GY step m b o→XC E ro n (Exit.then (Q55 E inv step m b) Q) c (inv s)):XC E ro n Q (.loop c) st:=by
 intro V a w hr
 obtain ⟨V',hr'⟩:=h0 V a w hr
 refine XI (fun k a w=>∃ (x:σ×Nat) (V:Vu),x.2=k∧Q9 step x.2 x.1=some b∧Rel E V (inv x.1) a w) Qd ⟨(s0,Qd),V',Z,hok,hr'⟩ ?_
 rintro k a w ⟨⟨s,j⟩,V,rfl,hx,hr⟩
 obtain ⟨m,o,hm,h1,h2⟩:=Qje hx
 dsimp only at hm hr
 refine XG (round s m o h1 (by
  cases o with
  | next s'=>exact h2
  | done b'=>exact Cv h2) V a w hr) ?_
 intro e a' w' hq
 cases e with
 | normal =>
  obtain ⟨x',V',q1,q2,q3⟩:=hq
  exact ⟨x'.2,by dsimp only at q1 ⊢;omega,x',V',rfl,q2,q3⟩
 | exit id=>exact hq
 | goto l=>exact hq
 | ret=>exact hq
 | panic ch=>exact hq
 | outgrown=>exact hq
theorem XQ.nextT {σ β:Type} {st:St} {step:σ→Option (LO σ β)} {inv:σ→St} {m:Nat} {b:β} (s':σ) (hl:To E st (inv s')) (ho:GY step m b (.next s')):XQ E (Exit.then (Q55 E inv step m b) Q) .normal st:=fun V a w hr=>by
 obtain ⟨V',hr'⟩:=hl V a w hr
 exact ⟨(s',m),V',Ct _,ho,hr'⟩
theorem ZX {α:Type} {h:Lab U} {st s:TSt U} {f:tup (h.sl.map (·.2))→α} {v:α} (hp:Q1a D h st s f=some v):∃ t,GC D h st s=some t∧f t=v:=by
 unfold Q1a at hp
 split at hp
 ·rename_i t ht;cases hp;exact ⟨t,ht,rfl⟩
 ·cases hp
theorem Q6q (hD:D.OK) {id:Nat} {h:Lab U} {s0:TSt U} {β:Type} {step:tup (h.sl.map (·.2))→Option (LO (tup (h.sl.map (·.2))) β)} {m:Nat} {b:β} {s:TSt U} {t:tup (h.sl.map (·.2))} (hw:Qhw h s0=true) (h0:E.V0.nx≤s0.m.nx)
  (hs:Sfx s0 s) (hp:GC D h s0 s=some t) (hr:GY step m b (.next t)):XQ E (Exit.then (Q55 E (fun t=>(lab h s0 t).er D) step m b) (Exit.inBlock id Q)) .normal (s.er D) :=
 XQ.nextT t (W7 hD ⟨hs,hw,hp⟩ h0) hr
theorem Qbx {σ β:Type} {step:σ→Option (LO σ β)} {inv:σ→St} {m:Nat} {b:β} {id:Nat} {st:St} (k:XQ E Q .normal st):XQ E (Exit.then (Q55 E inv step m b) (Exit.inBlock id Q)) (.exit id) st:=fun V a w hr=>by
 show (if id=id then Q .normal a w else Q (.exit id) a w)
 rw [Cd rfl];exact k V a w hr
theorem Q72 {σ β:Type} {step:σ→Option (LO σ β)} {inv:σ→St} {m:Nat} {b:β} {id:Nat} {st:St} {e:Exit} (h1:e ≠ .normal) (h2:e ≠ .exit id) (k:XQ E Q e st):XQ E (Exit.then (Q55 E inv step m b) (Exit.inBlock id Q)) e st:=fun V a w hr=>by
 have hk:=k V a w hr
 cases e with
 | normal=>exact (h1 rfl).elim
 | exit j =>
  show (if j=id then Q .normal a w else Q (.exit j) a w)
  rw [C5 (fun e=>h2 (by rw [e]))];exact hk
 | goto l=>exact hk
 | ret=>exact hk
 | panic c=>exact hk
 | outgrown=>exact hk
theorem Qjz {tk:List (Nat×TTok U)} {i:Nat} {T:TypeId} {xs:List (It U)} {es:List (Ev U)}:Qg D tk (.box i T xs::es)=(i,.cells T (Jf D tk xs))::Qg D tk es:=rfl
theorem Qjw {tk:List (Nat×TTok U)} {i:Nat} {B:HB} {es:List (Ev U)}:Qg D tk (.raw i B::es)=(i,B)::Qg D tk es:=rfl
theorem Qjy {tk:List (Nat×TTok U)} {i:Nat} {s:LoopState} {p:Option Code} {tm:List (Nat×TTV U)} {nt:Nat} {ps:Array Nat} {a b:Code} {d:Nat} {es:List (Ev U)}:Qg D tk (.lp i s p tm nt ps a b d::es)=(i,.loop s p (QI (TTV.er D tk) tm) nt ps a b d)::Qg D tk es:=rfl
theorem Qjx {tk:List (Nat×TTok U)} {i:Nat} {xs:List (Nat×TTV U)} {es:List (Ev U)}:Qg D tk (.ls i xs::es)=match Qq8 (Qg D tk es) i with
  | some (.loop s p tm nt ps a b d)=>(i,.loop s p (QI (TTV.er D tk) xs++tm) nt ps a b d)::Qg D tk es
  | _=>Qg D tk es:=rfl
theorem Qdy {tk:List (Nat×TTok U)} {i off:Nat} {xs:List (It U)} {es:List (Ev U)}:Qg D tk (.set i off xs::es)=match Qq8 (Qg D tk es) i with
  | some (.cells T ys)=>(i,.cells T (setL ys off (Jf D tk xs)))::Qg D tk es
  | _=>Qg D tk es:=rfl
theorem Xa {tk:List (Nat×TTok U)} {L:Nat}:∀ (q es:List (Ev U)),q.all (K8 L)=true→Qq8 (Qg D tk (q++es)) L=Qq8 (Qg D tk es) L
 | [],es,h=>rfl
 | e::q,es,h=>by
  obtain ⟨h1,h2⟩:=C0.1 h
  have ih:=Xa (tk:=tk) q es h2
  have hne:∀ i,(!(Nat.beq i L))=true→i ≠ L:=fun i hi=>Ke (by simpa using hi)
  rw [P2]
  cases e with
  | box i T xs=>simp only [Qjz];rw [Q1,C5 (hne i h1)];exact ih
  | raw i B=>simp only [Qjw];rw [Q1,C5 (hne i h1)];exact ih
  | lp i s p tm nt ps a b d=>simp only [Qjy];rw [Q1,C5 (hne i h1)];exact ih
  | ls i xs =>
   rw [Qjx]
   split
   ·rw [Q1,C5 (hne i h1)];exact ih
   ·exact ih
  | set i off xs =>
   rw [Qdy]
   split
   ·rw [Q1,C5 (hne i h1)];exact ih
   ·exact ih
theorem Qg1 {tk:List (Nat×TTok U)} {N:Nat→Prop} {A B:List (Ev U)} {e:Ev U} (h:∀ j,¬ N j→Qq8 (Qg D tk A) j=Qq8 (Qg D tk B) j) (he:∀ j,N j→K8 j e=true):∀ j,¬ N j→Qq8 (Qg D tk (e::A)) j=Qq8 (Qg D tk (e::B)) j:=by
 intro j hj
 have hi:∀ i,(∀ j,N j→(!(Nat.beq i j))=true)→¬ N i:=fun i hh hn=>by
  have:=hh i hn
  simp at this
 cases e with
 | box i T xs=>simp only [Qjz];rw [Q1,Q1,h j hj]
 | raw i C=>simp only [Qjw];rw [Q1,Q1,h j hj]
 | lp i s p tm nt ps a b d=>simp only [Qjy];rw [Q1,Q1,h j hj]
 | ls i xs =>
  rw [Qjx,Qjx]
  rw [h i (hi i he)]
  cases Qq8 (Qg D tk B) i with
  | none=>exact h j hj
  | some X =>
   cases X with
   | loop s p tm nt ps a b d=>dsimp only;rw [Q1,Q1,h j hj]
   | cells T ys=>exact h j hj
   | obj o=>exact h j hj
   | mp es c=>exact h j hj
 | set i off xs =>
  rw [Qdy,Qdy]
  rw [h i (hi i he)]
  cases Qq8 (Qg D tk B) i with
  | none=>exact h j hj
  | some X =>
   cases X with
   | cells T ys=>dsimp only;rw [Q1,Q1,h j hj]
   | loop s p tm nt ps a b d=>exact h j hj
   | obj o=>exact h j hj
   | mp es c=>exact h j hj
theorem Qbi {tk:List (Nat×TTok U)} {N:Nat→Prop} {A B:List (Ev U)} (h:∀ j,¬ N j→Qq8 (Qg D tk A) j=Qq8 (Qg D tk B) j):∀ (q:List (Ev U)),(∀ e∈q,∀ j,N j→K8 j e=true)→∀ j,¬ N j→Qq8 (Qg D tk (q++A)) j=Qq8 (Qg D tk (q++B)) j
 | [],hq=>h
 | e::q,hq=>Qg1 (Qbi h q fun e he=>hq e (Ch _ he)) (hq e (Ci ..))
theorem Qdn {tk:List (Nat×TTok U)} {N:Nat→Prop} {L:Nat} (hL:N L) {A B:List (Ev U)} (h:∀ j,¬ N j→Qq8 (Qg D tk A) j=Qq8 (Qg D tk B) j):∀ (q:List (Ev U)),(∀ e∈q.filter (fun e=>!(Q5g L e)),∀ j,N j→K8 j e=true)→∀ j,¬ N j→Qq8 (Qg D tk (q++A)) j=Qq8 (Qg D tk (q.filter (fun e=>!(Q5g L e))++B)) j
 | [],hq=>h
 | e::q,hq=>by
  cases hb:Q5g L e with
  | true =>
   have e1:(e::q).filter (fun e=>!(Q5g L e))=q.filter (fun e=>!(Q5g L e)):=by rw [CE,hb];rfl
   rw [e1] at hq ⊢
   intro j hj
   rw [← Qdn hL h q hq j hj,P2]
   cases e with
   | lp i s p tm nt ps a b d =>
    have ei:i=L:=C4 hb
    rw [Qjy,Q1,C5 (fun e'=>hj (by rw [← e',ei];exact hL))]
   | box i T xs=>cases hb
   | raw i C=>cases hb
   | ls i xs=>cases hb
   | set i off xs=>cases hb
  | false =>
   have e1:(e::q).filter (fun e=>!(Q5g L e))=e::q.filter (fun e=>!(Q5g L e)):=by rw [CE,hb];rfl
   rw [e1] at hq ⊢
   exact Qg1 (Qdn hL h q fun e he=>hq e (Ch _ he)) (hq e (Ci ..))
theorem Q66 {tk:List (Nat×TTok U)} {L:Nat} {es:List (Ev U)} (h:es.all (K8 L)=true):Qq8 (Qg D tk es) L=none:=by
 have:=Xa (D:=D) (tk:=tk) es [] h
 rw [Cy] at this
 rw [this];rfl
theorem Q18 (tk:List (Nat×TTok U)):∀ (ts:List Nat) (xs:List (TAV U)) (tm:List (Nat×TTV U)) (tm':List (Nat×TV)),(∀ t,Qq8 (QI (TTV.er D tk) tm) t=Qq8 tm' t)→∀ t,Qq8 (QI (TTV.er D tk) (KH ts xs tm)) t=Qq8 (Zc ts (xs.map (TAV.er D tk)) tm') t
 | [],[],tm,tm',h=>h
 | [],x::xs,tm,tm',h=>h
 | t::ts,[],tm,tm',h=>h
 | t::ts,x::xs,tm,tm',h=>Q18 tk ts xs ((t,.v x)::tm) ((t,.v (x.er D tk))::QD t tm') fun u=>by
  rw [Jo]
  show Qq8 ((t,TV.v (x.er D tk))::QI (TTV.er D tk) tm) u=_
  rw [Q1,Q1,h u]
def Ql2 (D:Codec U) (W:Wd) (P:Program) (rn:Option Nat) (c:Code) {R β:Type} (st:TSt U) (ret:TSt U→Option R) (pan:Value→TSt U→Option R) (p:R→Option β) (k:Exit→TSt U→Option β) (r:β):Prop :=
 (∃ e s,Sfx st s∧k e s=some r∧∀ E ro n Q,Fit W P rn E ro→E.V0.nx≤st.m.nx→XQ E Q e (s.er D)→XC E ro n Q c (st.er D)) ∨
 (∃ a,p a=some r∧(∃ s,Sfx st s∧(ret s=some a∨∃ v,pan v s=some a))∧∀ E ro n Q,Fit W P rn E ro→E.V0.nx≤st.m.nx→(∀ s,Sfx st s→ret s=some a→XQ E Q .ret (s.er D))→(∀ v s,Sfx st s→pan v s=some a→XQ E Q (.panic (ZW v)) (s.er D))→XC E ro n Q c (st.er D))
def Qnf (D:Codec U) (C:TCfg U) (K:FuncId→List (TAV U)→Option (KR U)) (X:Qr2 U) (W:Wd) (P:Program) (c:Tc U):Prop:=∀ ⦃Y:Qr1 U⦄ ⦃rn:Option Nat⦄ ⦃R:Type⦄ ⦃ret:TSt U→Option R⦄ ⦃pan:Value→TSt U→Option R⦄ ⦃β:Type⦄ ⦃st:TSt U⦄ ⦃p:R→Option β⦄ ⦃k:Exit→TSt U→Option β⦄ ⦃r:β⦄,YOK W D P Y st.m→JK D C K X c Y rn ret pan st p k=some r→Ql2 D W P rn c.code st ret pan p k r
theorem Qad {α:Type} {p l m:List α} (h:m=p++l):m.take (m.length - l.length)++l=m:=by
 subst h
 rw [C7,Nat.add_sub_cancel,List.take_left]
theorem Qf7 {α:Type} {f:α→Bool} {a b:List α} (h:∃ p,b=p++a) (k:(Q5d a b).all f=true):∃ p,b=p++a∧p.all f=true:=by
 obtain ⟨p,rfl⟩:=h
 rw [YY] at k
 exact ⟨p,Z,k⟩
theorem Qgo {m:TMe U} {s:TSt U} {a:Qcn U} (h:Q9j m s=some a) (hs:SfM m s.m):Q00 m a=s.m∧s.df=[]:=by
 unfold Q9j at h
 cases hd:Q5i s.df [] with
 | false=>rw [hd] at h;cases h
 | true =>
  rw [hd] at h;cases h
  have e1:s.m.es.take (s.m.es.length - m.es.length)++m.es=s.m.es:=by
   obtain ⟨p,hp⟩:=hs.es
   exact Qad hp
  have e2:s.m.tk.take (s.m.tk.length - m.tk.length)++m.tk=s.m.tk:=by
   obtain ⟨p,hp⟩:=hs.tk
   exact Qad hp
  have e3:m.nx+(s.m.nx - m.nx)=s.m.nx:=Nat.add_sub_cancel' hs.nx
  refine ⟨?_,Gr hd⟩
  unfold Q00
  dsimp only
  rw [e1,e2,e3]
theorem Q6z {s:TSt U} (hd:s.df=[]) {nt:Nat} (hn:s.nt=nt):StW (s.er D) ⟨[],(s.m.er D).hp,(s.m.er D).tk,(s.m.er D).nx,nt,[]⟩ :=
 ⟨(fun t y hy=>by cases hy),fun i B h=>⟨B,h,fun _ _ _ h=>h⟩,fun i T h=>h,rfl,hn.symm,hd.symm⟩
theorem Q5u {W:Wd} {P:Program} (hP0:P=Tryz.prog) {L d:Nat} {tm:List (Nat×TTV U)} {nt:Nat} {ps:Array Nat} {a b:Tc U} {m:TMe U} {args:List (TAV U)} {s:TSt U} {β:Type} {k:TTV U→TMe U→Option β} {r:β} {e2:Exit} {jump:Option Code} {a3:Qcn U}
    (hm:∀ tk,Qq8 (Qg D tk m.es) L=some (.loop .ready none (QI (TTV.er D tk) tm) nt ps a.code b.code d)) (hlen:args.length=ps.size) (hps:ps.toList.all (fun t=>Nat.blt t nt)=true) (hs:Sfx ⟨KH ps.toList args tm,m,nt,[]⟩ s) (hs1:∃ q,s.m.es=q++m.es∧q.all (K8 L)=true) (hsd:s.df=[])
    (hx1:∀ E ro n Q,Fit W P (some L) E ro→E.V0.nx≤m.nx→XQ E Q .normal (s.er D)→XC E ro n Q a.code ((⟨KH ps.toList args tm,m,nt,[]⟩:TSt U).er D))
    (hx2:∀ E ro n Q,Fit W P (some L) E ro→E.V0.nx≤s.m.nx→XQ E Q e2 ⟨[],((Q00 ⟨.lp L .busy none tm nt ps a.code b.code d::s.m.es,s.m.tk,s.m.nx⟩ a3).er D).hp,((Q00 ⟨.lp L .busy none tm nt ps a.code b.code d::s.m.es,s.m.tk,s.m.nx⟩ a3).er D).tk,((Q00 ⟨.lp L .busy none tm nt ps a.code b.code d::s.m.es,s.m.tk,s.m.nx⟩ a3).er D).nx,nt,[]⟩→XC E ro n Q b.code ((⟨s.tm,⟨.lp L .busy none tm nt ps a.code b.code d::s.m.es,s.m.tk,s.m.nx⟩,s.nt,s.df⟩:TSt U).er D))
    (he:Wa e2=some jump) (hr:X6 L ⟨.ready,none,tm,nt,ps,a.code,b.code,d⟩ s.m k jump a3=some r):∃ o,Qh7 W D P L args m o∧SfM m o.m∧∀ dd:Value→TMe U→Option β,o.to k dd=some r:=by
  obtain ⟨q,hq1,hq2⟩:=hs1
  unfold X6 at hr
  split at hr
  · rename_i m' hm'
    unfold Qm8 at hm'
    cases hall:a3.1.all (K8 L) with
    | false=>rw [hall] at hm';cases hm'
    | true =>
      rw [hall,C6] at hm'
      have hsL:∀ tk,Qq8 (Qg D tk s.m.es) L=some (.loop .ready none (QI (TTV.er D tk) tm) nt ps a.code b.code d):=fun tk=>by
        rw [hq1,Xa q m.es hq2];exact hm tk
      have sfR:SfM m (Q00 s.m a3):=hs.sfm.trans ⟨⟨_,rfl⟩,⟨_,rfl⟩,Nat.le_add_right _ _⟩
      have sfm':SfM m m':=by
        cases jump with
        | none=>cases hm';exact sfR
        | some c =>
          cases hm'
          obtain ⟨p,hp⟩:=sfR.es
          exact ⟨⟨_::p,by dsimp only;rw [hp];rfl⟩,sfR.tk,sfR.nx⟩
      refine ⟨.val (Qpv jump.isNone) m',?_,sfm',fun dd=>hr⟩
      intro E st' dd ty pos af g x ars ats hP hW hx ha hmem
      have e_hp:st'.hp=Qg D m.tk m.es:=congrArg Mem.hp hmem
      have e_tk:st'.tk=XE m.tk:=congrArg Mem.tk hmem
      have e_nx:st'.nx=m.nx:=congrArg Mem.nx hmem
      have hal:=(K2 ha).1
      have hars:ars.size=ps.size:=by
        rw [← hlen]
        have:ars.toList.length=args.length:=by rw [hal,Cm]
        simpa using this
      have hst:StW (⟨Zc ps.toList (args.map (TAV.er D m.tk)) (QI (TTV.er D m.tk) tm),st'.hp,st'.tk,st'.nx,nt,[]⟩:St) ((⟨KH ps.toList args tm,m,nt,[]⟩:TSt U).er D) :=
        ⟨fun t y hy=>.inr ⟨y,by rw [← Q18 m.tk ps.toList args tm _ (fun _=>rfl)];exact hy,fun _ _ _ h=>h⟩,fun i B hB=>⟨B,by show Qq8 st'.hp i=_;rw [e_hp];exact hB,fun _ _ _ h=>h⟩,fun i T hT=>by show Qq8 st'.tk i=_;rw [e_tk];exact hT,e_nx.symm,rfl,rfl⟩
      have hst2:StW (⟨(s.er D).tm,(L,HB.loop .busy none (QI (TTV.er D s.m.tk) tm) nt ps a.code b.code d)::QD L (s.er D).hp,(s.er D).tk,(s.er D).nx,(s.er D).nt,(s.er D).df⟩:St) ((⟨s.tm,⟨.lp L .busy none tm nt ps a.code b.code d::s.m.es,s.m.tk,s.m.nx⟩,s.nt,s.df⟩:TSt U).er D) :=
        ⟨fun t y hy=>.inr ⟨y,hy,fun _ _ _ h=>h⟩,fun i B hB=>⟨B,by show Qq8 ((L,_)::QD L _) i=_;rw [Jo];exact hB,fun _ _ _ h=>h⟩,fun i T h=>h,rfl,rfl,rfl⟩
      have y:=OpOK.yieldW (E:=E) (st:=st') (dd:=dd) (ty:=ty) (pos:=pos) (af:=af) (g:=g) (x:=x) (L:=L) (ars:=ars) (ats:=ats) (p0:=none) (tm0:=QI (TTV.er D m.tk) tm) (nt0:=nt) (ps0:=ps) (as0:=a.code) (bd0:=b.code) (D0:=d) (sa:=s.er D) (sb:=⟨[],((Q00 ⟨.lp L .busy none tm nt ps a.code b.code d::s.m.es,s.m.tk,s.m.nx⟩ a3).er D).hp,((Q00 ⟨.lp L .busy none tm nt ps a.code b.code d::s.m.es,s.m.tk,s.m.nx⟩ a3).er D).tk,((Q00 ⟨.lp L .busy none tm nt ps a.code b.code d::s.m.es,s.m.tk,s.m.nx⟩ a3).er D).nx,nt,[]⟩) (e:=e2) (jump:=jump)
        hW hx ha (by rw [e_hp];exact hm m.tk) hars hps
        (by
          intro E' ro' n' Q' hP' hW' hv hro' hq
          exact ZU (To.weak hst) (hx1 E' ro' n' Q' ⟨hP'.trans hP,hW',hro'⟩ (by rw [← e_nx];exact hv) hq))
        (by rw [e_nx];exact hs.nx) (hsL s.m.tk)
        (by
          intro E' ro' n' Q' hP' hW' hv hro' hq
          exact ZU (To.weak hst2) (hx2 E' ro' n' Q' ⟨hP'.trans hP,hW',hro'⟩ hv hq))
        (by
          show Qq8 (Qg D (a3.2.1++s.m.tk) (a3.1++(.lp L .busy none tm nt ps a.code b.code d::s.m.es))) L=_
          rw [Xa _ _ hall]
          show Qq8 ((L,HB.loop .busy none (QI (TTV.er D (a3.2.1++s.m.tk)) tm) nt ps a.code b.code d)::_) L=_
          rw [Q1,Cd rfl])
        he
      have hN:∀ j,j ≠ L→Qq8 (Qg D (a3.2.1++s.m.tk) (a3.1++(.lp L .busy none tm nt ps a.code b.code d::s.m.es))) j=Qq8 (Qg D (a3.2.1++s.m.tk) (a3.1++s.m.es)) j:=fun j hj =>
        Qbi (N:=fun j=>j=L) (fun j hj=>by
          show Qq8 ((L,HB.loop .busy none (QI (TTV.er D (a3.2.1++s.m.tk)) tm) nt ps a.code b.code d)::_) j=_
          rw [Q1,C5 (fun e=>hj e.symm)]) a3.1 (fun e he j hj=>by rw [hj];exact Cf.1 hall e he) j hj
      have hLL:Qq8 (Qg D (a3.2.1++s.m.tk) (a3.1++s.m.es)) L=some (.loop .ready none (QI (TTV.er D (a3.2.1++s.m.tk)) tm) nt ps a.code b.code d):=by
        rw [Xa _ _ hall];exact hsL _
      cases jump with
      | none =>
        cases hm'
        have post:=fun m' h1 h2 h3=>Q0u (m':=m') h1 h2 h3 y
        refine post (TMe.er D _) (fun i B hB=>⟨B,?_,fun _ _ _ h=>h⟩) (fun i T h=>h) Z
        have hB':Qq8 (Qg D (a3.2.1++s.m.tk) (a3.1++s.m.es)) i=some B:=hB
        show Qq8 ((L,HB.loop (if (none:Option Code).isNone then .ready else .done) none (QI (TTV.er D (a3.2.1++s.m.tk)) tm) nt ps a.code b.code d)::QD L (Qg D (a3.2.1++s.m.tk) (a3.1++(.lp L .busy none tm nt ps a.code b.code d::s.m.es)))) i=some B
        rw [Jo,Q1]
        by_cases c:L=i
        · subst c;rw [Cd rfl,← hB',hLL];rfl
        · rw [C5 c,hN i (fun e=>c e.symm)];exact hB'
      | some c =>
        cases hm'
        have post:=fun m' h1 h2 h3=>Q0u (m':=m') h1 h2 h3 y
        refine post (TMe.er D _) (fun i B hB=>⟨B,?_,fun _ _ _ h=>h⟩) (fun i T h=>h) Z
        have hB':Qq8 ((L,HB.loop .done (some c) (QI (TTV.er D (a3.2.1++s.m.tk)) tm) nt ps a.code b.code d)::Qg D (a3.2.1++s.m.tk) (a3.1++s.m.es)) i=some B:=hB
        show Qq8 ((L,HB.loop (if (some c:Option Code).isNone then .ready else .done) (some c) (QI (TTV.er D (a3.2.1++s.m.tk)) tm) nt ps a.code b.code d)::QD L (Qg D (a3.2.1++s.m.tk) (a3.1++(.lp L .busy none tm nt ps a.code b.code d::s.m.es)))) i=some B
        rw [Jo]
        rw [Q1] at hB' ⊢
        by_cases e:L=i
        · rw [Cd e] at hB' ⊢;exact hB'
        · rw [C5 e] at hB' ⊢;rw [hN i (fun e'=>e e'.symm)];exact hB'
  · cases hr
abbrev Qa1 (st:TSt U) (ps:Array Nat) (a b:Tc U) (d:Nat):LpT U:=⟨.ready,none,st.tm,st.nt,ps,a.code,b.code,d⟩
theorem yld_ok {W:Wd} {P:Program} (hP0:P=Tryz.prog) {Y:Qr1 U} {st:TSt U} {ps:Array Nat} {a b:Tc U} {L d nx:Nat} {xs:List (Ev U)} (iha:Qnf D C K X W P a) (ihb:Qnf D C K X W P b) (hY:YOK W D P Y st.m) (h1:SfM st.m (Q2b st L (Qa1 st ps a b d) xs nx)) :
  YOK W D P (fun L' args m=>cond (Nat.beq L' L)
    (cond ((Q5d (Q2b st L (Qa1 st ps a b d) xs nx).es m.es).all (K8 L)&&(Nat.beq args.length ps.size&&ps.toList.all fun t=>Nat.blt t st.nt))
     (some ⟨fun k _=>JK D C K X a Y (some L) (R:=Qcn U) (fun _=>none) (fun _ _=>none) ⟨KH ps.toList args st.tm,m,st.nt,[]⟩ (fun _=>none) fun e s=>match e with
      | .normal=>cond ((Q5d m.es s.m.es).all (K8 L)&&Q5i s.df []) (JK D C K X b Y (some L) (Q9j ⟨.lp L .busy none st.tm st.nt ps a.code b.code d::s.m.es,s.m.tk,s.m.nx⟩) (fun _ _=>none) ⟨s.tm,⟨.lp L .busy none st.tm st.nt ps a.code b.code d::s.m.es,s.m.tk,s.m.nx⟩,s.nt,s.df⟩ (X6 L ⟨.ready,none,st.tm,st.nt,ps,a.code,b.code,d⟩ s.m k (some .ret)) fun e s2=>match e with
        | .normal=>Option.bind (Q9j ⟨.lp L .busy none st.tm st.nt ps a.code b.code d::s.m.es,s.m.tk,s.m.nx⟩ s2) (X6 L ⟨.ready,none,st.tm,st.nt,ps,a.code,b.code,d⟩ s.m k none)
        | .exit id=>Option.bind (Q9j ⟨.lp L .busy none st.tm st.nt ps a.code b.code d::s.m.es,s.m.tk,s.m.nx⟩ s2) (X6 L ⟨.ready,none,st.tm,st.nt,ps,a.code,b.code,d⟩ s.m k (some (.exit id)))
        | _=>none) none
      | _=>none⟩) none) (Y L' args m)) (Q2b st L (Qa1 st ps a b d) xs nx):=by
 intro L' args m xo hm hy
 dsimp only at hy
 cases hb:Nat.beq L' L with
 | false=>rw [hb,Ce] at hy;exact hY L' args m xo (h1.trans hm) hy
 | true =>
  have eL:=C4 hb
  subst eL
  rw [hb,C6] at hy
  cases hc:((Q5d (Q2b st L' (Qa1 st ps a b d) xs nx).es m.es).all (K8 L')&&(Nat.beq args.length ps.size&&ps.toList.all fun t=>Nat.blt t st.nt)) with
  | false=>rw [hc] at hy;cases hy
  | true =>
   rw [hc,C6] at hy
   cases hy
   obtain ⟨c1,c23⟩:=C0.1 hc
   obtain ⟨c2,c3⟩:=C0.1 c23
   obtain ⟨q,hq1,hq2⟩:=Qf7 hm.es c1
   have hmL:∀ tk,Qq8 (Qg D tk m.es) L'=some (.loop .ready none (QI (TTV.er D tk) st.tm) st.nt ps a.code b.code d):=fun tk=>by
    rw [hq1,Xa q _ hq2]
    show Qq8 ((L',HB.loop .ready none (QI (TTV.er D tk) st.tm) st.nt ps a.code b.code d)::_) L'=_
    rw [Q1,Cd rfl]
   intro β k dd r hr
   rcases iha (hY.mono (h1.trans hm)) hr with ⟨e,s,hs,hk,hx⟩ | ⟨a',hp,-⟩
   ·cases e with
    | normal =>
     dsimp only at hk
     cases hd:((Q5d m.es s.m.es).all (K8 L')&&Q5i s.df []) with
     | false=>rw [hd] at hk;cases hk
     | true =>
      rw [hd,C6] at hk
      obtain ⟨d1,d2⟩:=C0.1 hd
      have hs1:=Qf7 hs.es d1
      have hsd:=Gr d2
      have hYb:YOK W D P Y (⟨.lp L' .busy none st.tm st.nt ps a.code b.code d::s.m.es,s.m.tk,s.m.nx⟩:TMe U):=(hY.mono ((h1.trans hm).trans hs.sfm)).mono ⟨⟨[_],rfl⟩,⟨[],rfl⟩,Ck _⟩
      have fin:∀ (e2:Exit) (jump:Option Code) (s2:TSt U),Wa e2=some jump→Sfx ⟨s.tm,⟨.lp L' .busy none st.tm st.nt ps a.code b.code d::s.m.es,s.m.tk,s.m.nx⟩,s.nt,s.df⟩ s2→Option.bind (Q9j ⟨.lp L' .busy none st.tm st.nt ps a.code b.code d::s.m.es,s.m.tk,s.m.nx⟩ s2) (X6 L' ⟨.ready,none,st.tm,st.nt,ps,a.code,b.code,d⟩ s.m k jump)=some r →
        (∀ E ro n Q,Fit W P (some L') E ro→E.V0.nx≤s.m.nx→XQ E Q e2 (s2.er D)→XC E ro n Q b.code ((⟨s.tm,⟨.lp L' .busy none st.tm st.nt ps a.code b.code d::s.m.es,s.m.tk,s.m.nx⟩,s.nt,s.df⟩:TSt U).er D)) →
        ∃ o,Qh7 W D P L' args m o∧SfM m o.m∧o.to k dd=some r:=by
       intro e2 jump s2 he hs2 hbind hx2
       obtain ⟨a3,ha3,hr3⟩:=YW hbind
       obtain ⟨em,ed⟩:=Qgo ha3 hs2.sfm
       obtain ⟨o,o1,o2,o3⟩:=Q5u (D:=D) (W:=W) hP0 hmL (C4 c2) c3 hs hs1 hsd (fun E ro n Q f h0 hq=>hx E ro n Q f h0 hq) (fun E ro n Q f h0 hq=>hx2 E ro n Q f h0 (WN (To.weak (by rw [em];exact Q6z ed (hs2.nt.trans hs.nt))) hq)) he hr3
       exact ⟨o,o1,o2,o3 dd⟩
      rcases ihb hYb hk with ⟨e2,s2,hs2,hk2,hx2⟩ | ⟨a2,hp2,-,hx2⟩
      ·cases e2 with
       | normal=>exact fin .normal none s2 rfl hs2 hk2 hx2
       | exit id=>exact fin (.exit id) (some (.exit id)) s2 rfl hs2 hk2 hx2
       | ret=>cases hk2
       | goto l=>cases hk2
       | panic c=>cases hk2
       | outgrown=>cases hk2
      ·obtain ⟨o,o1,o2,o3⟩:=Q5u (D:=D) (W:=W) hP0 (e2:=.ret) (jump:=some .ret) hmL (C4 c2) c3 hs hs1 hsd (fun E ro n Q f h0 hq=>hx E ro n Q f h0 hq) (fun E ro n Q f h0 hq=>hx2 E ro n Q f h0 (fun s2 hs2 hr2=>by
        obtain ⟨em,ed⟩:=Qgo hr2 hs2.sfm
        exact WN (To.weak (by rw [em];exact Q6z ed (hs2.nt.trans hs.nt))) hq) (fun v s2 _ h=>by cases h)) rfl hp2
       exact ⟨o,o1,o2,o3 dd⟩
    | exit id=>cases hk
    | ret=>cases hk
    | goto l=>cases hk
    | panic c=>cases hk
    | outgrown=>cases hk
   ·cases hp
theorem Qia {m2:TMe U} {L:Nat} {e:Exit} (h:Qox m2 L=some e):∃ F:LpT U,Up m2.es L=some F∧F.s ≠ .busy∧Wa e=some F.p:=by
 unfold Qox at h
 split at h
 ·rename_i F hF
  refine ⟨F,hF,?_⟩
  split at h
  ·rename_i h1 h2;cases h;rw [h1,h2];exact ⟨by simp,rfl⟩
  ·rename_i h1 h2;cases h;rw [h1,h2];exact ⟨by simp,rfl⟩
  ·rename_i id h1 h2;cases h;rw [h1,h2];exact ⟨by simp,rfl⟩
  ·cases h
 ·cases h
theorem Qlr {N:Nat→Prop} {L:Nat} (hNL:N L) {st:TSt U} {m1 m2:TMe U} (hsf:SfM m1 m2) (hbase:∀ tk j,¬ N j→Qq8 (Qg D tk m1.es) j=Qq8 (Qg D tk st.m.es) j) (hq:∀ e∈Ql6 L m1 m2,∀ j,N j→K8 j e=true) (hst:∀ j,N j→st.m.es.all (K8 j)=true) :
  ∀ i B,Qq8 (Qg D m2.tk (Ql6 L m1 m2++st.m.es)) i=some B→¬ N i∧Qq8 (Qg D m2.tk m2.es) i=some B:=by
 intro i B hB
 obtain ⟨q,hqe⟩:=hsf.es
 have eq:Ql6 L m1 m2=q.filter fun e=>!(Q5g L e):=by
  unfold Ql6
  rw [hqe,YY]
 by_cases hn:N i
 ·rw [Q66 (L:=i) (by rw [List.all_append];exact C0.2 ⟨Cf.2 fun e he=>hq e he i hn,hst i hn⟩)] at hB
  cases hB
 ·refine ⟨hn,?_⟩
  rw [eq] at hB hq
  rw [hqe,Qdn hNL (hbase m2.tk) q hq i hn]
  exact hB
theorem Qew {st:TSt U} {L:Nat} {m1 m2:TMe U} {hp:List (Nat×HB)} (ha:Z0 (Wq m2.tk st.m.tk) st.tm=true) (hk:∃ p,m2.tk=p++st.m.tk) (hh:∀ i B,Qq8 (Qg D m2.tk (Ql6 L m1 m2++st.m.es)) i=some B→Qq8 hp i=some B) :
  StW (⟨(st.er D).tm,hp,(m2.er D).tk,(m2.er D).nx,(st.er D).nt,(st.er D).df⟩:St) ((Qmj st L m1 m2).er D) :=
 ⟨fun t y hy=>by
  have hy':Qq8 (QI (TTV.er D m2.tk) st.tm) t=some y:=hy
  rw [QN] at hy'
  cases hz:Qq8 st.tm t with
  | none=>rw [hz] at hy';cases hy'
  | some z =>
   rw [hz] at hy';cases hy'
   exact .inr ⟨z.er D st.m.tk,by show Qq8 (QI _ st.tm) t=_;rw [QN,hz];rfl,fun V w v hv=>GT ha hk hz V w v hv⟩,fun i B hB=>⟨B,hh i B hB,fun _ _ _ h=>h⟩,fun i T h=>h,rfl,rfl,rfl⟩
theorem Q35 {st:TSt U} {L:Nat} {m1 m2:TMe U} (h:SfM st.m m2):Sfx st (Qmj st L m1 m2):=⟨⟨[],rfl⟩,⟨_,rfl⟩,h.tk,h.nx,rfl,.inr rfl⟩
theorem range_ok {W:Wd} {P:Program} (hP0:P=Tryz.prog) (hX:WO W D P X) {g:Operand} {ps:Array Nat} {a b:Tc U} (iha:Qnf D C K X W P a) (ihb:Qnf D C K X W P b):Qnf D C K X W P (.range g ps a b):=by
 intro Y rn R ret pan β st p k r hY h
 show Ql2 D W P rn (.rangeFunc g ps a.code b.code) st ret pan p k r
 unfold JK at h
 split at h
 ·rename_i gf caps L d xs nx hx hB
  split at h
  ·rename_i xo hxo
   have hBx:SfM st.m (Q2b st L (Qa1 st ps a b d) xs nx):=by
    refine ⟨⟨(Qa1 st ps a b d).ev L .ready none::xs,Z⟩,⟨[],Z⟩,?_⟩
    unfold Qp8 at hB
    split at hB
    ·cases hB;exact Nat.le_add_right _ _
    ·split at hB
     ·cases hB;exact Nat.le_add_right _ _
     ·cases hB
   have hY':=yld_ok (xs:=xs) (nx:=nx) hP0 iha ihb hY hBx
   obtain ⟨q,q1,q2,q3⟩:=hX _ _ _ _ _ hY' hxo _ _ _ h
   have q1':CallO W P gf (.one (.yld L)::Zv caps) ((Q2b st L (Qa1 st ps a b d) xs nx).er D) (q.er D):=by
    have:CallO W P gf (List.map (TAV.er D st.m.tk) (.one (.raw (.yld L))::Q7d caps)) ((Q2b st L (Qa1 st ps a b d) xs nx).er D) (q.er D):=q1
    rw [CF,Qc8] at this
    exact this
   have lay:∀ m2:TMe U,SfM (Q2b st L (Qa1 st ps a b d) xs nx) m2→Qib rn st L (Q2b st L (Qa1 st ps a b d) xs nx) m2=true →
     (∀ x,Q57 W P gf (.one (.yld L)::Zv caps) ((Q2b st L (Qa1 st ps a b d) xs nx).er D) x (m2.er D)→∀ e,Qox m2 L=some e→∀ E ro n Q,Fit W P rn E ro→E.V0.nx≤st.m.nx→XQ E Q e ((Qmj st L (Q2b st L (Qa1 st ps a b d) xs nx) m2).er D)→XC E ro n Q (.rangeFunc g ps a.code b.code) (st.er D)) ∧
     (∀ v,Q58 W P gf (.one (.yld L)::Zv caps) ((Q2b st L (Qa1 st ps a b d) xs nx).er D) v (m2.er D)→∀ E ro n Q,Fit W P rn E ro→E.V0.nx≤st.m.nx→XQ E Q (.panic (ZW v)) ((Qmj st L (Q2b st L (Qa1 st ps a b d) xs nx) m2).er D)→XC E ro n Q (.rangeFunc g ps a.code b.code) (st.er D)):=by
    intro m2 hsf hok
    obtain ⟨o1,w2⟩:=C0.1 hok
    obtain ⟨o2,w3⟩:=C0.1 w2
    obtain ⟨o3,w4⟩:=C0.1 w3
    have htk:∃ p,m2.tk=p++st.m.tk:=(hBx.trans hsf).tk
    have hg:=Yy (D:=D) hx
    unfold Qp8 at hB
    split at hB
    ·
     cases hB
     obtain ⟨o4,o5⟩:=C0.1 w4
     have hN:=Qlr (D:=D) (N:=fun j=>j=st.m.nx+1∨j=st.m.nx) (L:=st.m.nx+1) (st:=st) (.inl rfl) hsf (fun tk j hj=>by
       show Qq8 ((st.m.nx+1,HB.loop .ready none (QI (TTV.er D tk) st.tm) st.nt ps a.code b.code st.m.nx)::(st.m.nx,HB.obj (.deferred (some [])))::Qg D tk st.m.es) j=_
       rw [Q1,C5 (fun e=>hj (.inl e.symm)),Q1,C5 (fun e=>hj (.inr e.symm))])
      (fun e he j hj=>by
       rcases hj with rfl | rfl
       ·exact Cf.1 o2 e he
       ·exact Cf.1 o4 e he)
      (fun j hj=>by
       rcases hj with rfl | rfl
       ·exact o3
       ·exact o5)
     have hw:=Qew (D:=D) (st:=st) (L:=st.m.nx+1) (m1:=Q2b st (st.m.nx+1) (Qa1 st ps a b st.m.nx) [.raw st.m.nx (.obj (.deferred (some [])))] (st.m.nx+2)) (m2:=m2) (hp:=QD (st.er D).nx (QD ((st.er D).nx+1) (m2.er D).hp)) o1 htk (fun i B hB=>by
      obtain ⟨h1,h2⟩:=hN i B hB
      show Qq8 (QD st.m.nx (QD (st.m.nx+1) (Qg D m2.tk m2.es))) i=some B
      rw [JB,C5 (fun e=>h1 (.inr e)),JB,C5 (fun e=>h1 (.inl e))]
      exact h2)
     have hD:Qq8 (m2.er D).hp (st.er D).nx=some (.obj (.deferred (some []))):=by
      obtain ⟨q,hq⟩:=hsf.es
      have hqa:q.all (K8 st.m.nx)=true:=by
       refine Cf.2 fun e he=>?_
       cases hl:Q5g (st.m.nx+1) e with
       | false =>
        refine Cf.1 o4 e ?_
        unfold Ql6
        rw [hq,YY]
        exact PI.2 ⟨he,by rw [hl];rfl⟩
       | true =>
        cases e with
        | lp i s p tm nt ps a b d =>
         have ei:i=st.m.nx+1:=C4 hl
         show (!(Nat.beq i st.m.nx))=true
         cases hbq:Nat.beq i st.m.nx with
         | false=>rfl
         | true=>have:=C4 hbq;omega
        | box i T xs=>cases hl
        | raw i C=>cases hl
        | ls i xs=>cases hl
        | set i off xs=>cases hl
      show Qq8 (Qg D m2.tk m2.es) st.m.nx=_
      rw [hq,Xa q _ hqa]
      show Qq8 ((st.m.nx+1,HB.loop .ready none (QI (TTV.er D m2.tk) st.tm) st.nt ps a.code b.code st.m.nx)::(st.m.nx,HB.obj (.deferred (some [])))::Qg D m2.tk st.m.es) st.m.nx=_
      rw [Q1,C5 (by omega),Q1,Cd rfl]
     refine ⟨fun x hc e he E ro n Q f h0 hq=>?_,fun v hc E ro n Q f h0 hq=>?_⟩
     ·obtain ⟨F,hF,hs,hj⟩:=Qia he
      exact rangeFunc_outW (W:=W) (st:=st.er D) hg hc (Kk hF) hD hs hj E ro n Q f.P f.W h0 f.rn (Gi hw hq)
     ·exact rangeFunc_outDW (W:=W) (st:=st.er D) hg hc hD E ro n Q f.P f.W h0 f.rn (Gi hw hq)
    ·
     rename_i L0
     split at hB
     ·rename_i F0 hF0
      cases hB
      have hN:=Qlr (D:=D) (N:=fun j=>j=st.m.nx) (L:=st.m.nx) (st:=st) rfl hsf (fun tk j hj=>by
        show Qq8 ((st.m.nx,HB.loop .ready none (QI (TTV.er D tk) st.tm) st.nt ps a.code b.code F0.d)::Qg D tk st.m.es) j=_
        rw [Q1,C5 (fun e=>hj e.symm)])
       (fun e he j hj=>by rw [hj];exact Cf.1 o2 e he)
       (fun j hj=>by rw [hj];exact o3)
      have hw:=Qew (D:=D) (st:=st) (L:=st.m.nx) (m1:=Q2b st st.m.nx (Qa1 st ps a b F0.d) [] (st.m.nx+1)) (m2:=m2) (hp:=QD (st.er D).nx (m2.er D).hp) o1 htk (fun i B hB=>by
       obtain ⟨h1,h2⟩:=hN i B hB
       show Qq8 (QD st.m.nx (Qg D m2.tk m2.es)) i=some B
       rw [JB,C5 h1]
       exact h2)
      refine ⟨fun x hc e he E ro n Q f h0 hq=>?_,fun v hc E ro n Q f h0 hq=>?_⟩
      ·obtain ⟨F,hF,hs,hj⟩:=Qia he
       exact rangeFunc_inW (W:=W) (st:=st.er D) hg (Kk hF0) hc (Kk hF) hs hj E ro n Q f.P f.W h0 f.rn (Gi hw hq)
      ·exact rangeFunc_inDW (W:=W) (st:=st.er D) hg (Kk hF0) hc E ro n Q f.P f.W h0 f.rn (Gi hw hq)
     ·cases hB
   cases q with
   | val x m2 =>
    dsimp only [OutT.to] at q3
    cases hok:Qib rn st L (Q2b st L (Qa1 st ps a b d) xs nx) m2 with
    | false=>rw [hok] at q3;cases q3
    | true =>
     rw [hok,C6] at q3
     have l1:=(lay m2 q2 hok).1 _ q1'
     split at q3
     ·rename_i he
      obtain ⟨y,y1,y2⟩:=YW q3
      exact .inr ⟨y,y2,⟨_,Q35 (hBx.trans q2),.inl y1⟩,fun E ro n Q f h0 hr hp=>l1 _ he E ro n Q f h0 (hr _ (Q35 (hBx.trans q2)) y1)⟩
     ·rename_i e hne he
      exact .inl ⟨e,_,Q35 (hBx.trans q2),q3,fun E ro n Q f h0 hq=>l1 _ he E ro n Q f h0 hq⟩
     ·cases q3
   | die v m2 =>
    dsimp only [OutT.to] at q3
    cases hok:Qib rn st L (Q2b st L (Qa1 st ps a b d) xs nx) m2 with
    | false=>rw [hok] at q3;cases q3
    | true =>
     rw [hok,C6] at q3
     obtain ⟨y,y1,y2⟩:=YW q3
     exact .inr ⟨y,y2,⟨_,Q35 (hBx.trans q2),.inr ⟨v,y1⟩⟩,fun E ro n Q f h0 hr hp=>(lay m2 q2 hok).2 v q1' E ro n Q f h0 (hp v _ (Q35 (hBx.trans q2)) y1)⟩
  ·cases h
 ·cases h
theorem Q6p {σ β:Type} {step:σ→Option (LO σ β)} {b:β}:∀ {k:Nat} {t:σ},Q9 step k t=some b→∃ t',step t'=some (.done b)
 | 0,t,h=>by cases h
 | k+1,t,h=>by
  obtain ⟨m,o,hm,h1,h2⟩:=Qje h
  cases o with
  | next s' =>
   have:m=k:=by omega
   subst this
   exact Q6p h2
  | done b'=>cases h2;exact ⟨t,h1⟩
theorem Jw {W:Wd} {P:Program} (hP0:P=Tryz.prog) (hm:P.follows .mixedOrders=true) (hT:C.T.OK P) (hD:D.OK) (hK:Q0v W D P K) (hX:WO W D P X):∀ c:Tc U,Qnf D C K X W P c
 | .skip=>by
  intro Y rn R ret pan β st p k r hY h
  exact .inl ⟨.normal,st,Sfx.refl st,h,fun E ro n Q f h0 hq=>QY hq⟩
 | .reg id ops=>by
  intro Y rn R ret pan β st p k r hY h
  have h1:Q1z D C K X Y rn ops (fun v s=>Option.bind (pan v s) p) ops.toList st (k .normal)=some r:=h
  have e:ops.toList.toArray=ops:=by simp
  have h2:=D6 hT hD hK hX (ops:=ops.toList.toArray) ops.toList hY (by rw [e];exact h1)
  have hc:(Tc.reg id ops:Tc U).code=.region id ops.toList.toArray false:=by rw [e];rfl
  rw [hc]
  rcases h2 with ⟨s,q1,q2,q3⟩ | ⟨v,s,q1,q2,q3⟩
  ·exact .inl ⟨.normal,s,q1,q2,fun E ro n Q f h0 hq=>Q0 (q3 E ro n Q f (Q3 hq))⟩
  ·obtain ⟨a,a1,a2⟩:=YW q2
   exact .inr ⟨a,a2,⟨s,q1,.inr ⟨v,a1⟩⟩,fun E ro n Q f h0 hr hp=>Q0 (q3 E ro n Q f (hp v s q1 a1))⟩
 | .draw id effs ops=>by
  intro Y rn R ret pan β st p k r hY h
  have h1:_root_.cond (Qc0 ops effs) (_root_.cond (Q0a ops) (_root_.cond (Qdx ops effs).isEmpty (Qhn D C K X Y ops effs st (fun v s=>Option.bind (pan v s) p) 0 ops.toList st) none) (Kc D C K X Y ops effs (fun v s=>Option.bind (pan v s) p) 0 ops.toList st [] [] (k .normal))) none=some r:=h
  cases hB:Qc0 ops effs with
  | false=>rw [hB] at h1;cases h1
  | true =>
   rw [hB,C6] at h1
   cases hL:Q0a ops with
   | true =>
    rw [hL,C6] at h1
    cases hE:(Qdx ops effs).isEmpty with
    | false=>rw [hE] at h1;cases h1
    | true =>
     rw [hE,C6] at h1
     obtain ⟨v,q1,q2⟩:=die_ok (id:=id) hm hT hD hK hX hY hB hE h1
     obtain ⟨a,a1,a2⟩:=YW q1
     have hsf:Sfx st (Qcu st):=⟨⟨_,rfl⟩,⟨[],rfl⟩,⟨[],rfl⟩,Ck _,rfl,.inr rfl⟩
     exact .inr ⟨a,a2,⟨_,hsf,.inr ⟨v,a1⟩⟩,fun E ro n Q f h0 hr hp=>q2 E ro n Q f.P f.W (hp v _ hsf a1)⟩
   | false =>
   rw [hL,Ce] at h1
   rcases draw_ok (id:=id) hm hT hD hK hX hY hB h1 with ⟨s,q1,q2,q3⟩ | ⟨v,s,q1,q2,q3⟩
   ·exact .inl ⟨.normal,s,q1,q2,fun E ro n Q f h0 hq=>q3 E ro n Q f.P f.W hq⟩
   ·obtain ⟨a,a1,a2⟩:=YW q2
    exact .inr ⟨a,a2,⟨s,q1,.inr ⟨v,a1⟩⟩,fun E ro n Q f h0 hr hp=>q3 E ro n Q f.P f.W (hp v s q1 a1)⟩
 | .seq a b=>by
  intro Y rn R ret pan β st p k r hY h
  show Ql2 D W P rn (.seq a.code b.code) st ret pan p k r
  rcases Jw hP0 hm hT hD hK hX a hY h with ⟨e,s,hs,hk,hx⟩ | ⟨y,hp,hex,hx⟩
  ·cases e with
   | normal =>
    rcases Jw hP0 hm hT hD hK hX b (hY.mono hs.sfm) hk with ⟨e2,s2,hs2,hk2,hx2⟩ | ⟨y,hp2,⟨s2,hs2,ha2⟩,hx2⟩
    ·exact .inl ⟨e2,s2,hs.trans hs2,hk2,fun E ro n Q f h0 hq=>Q4 (hx E ro n _ f h0 (Q5 (hx2 E ro n Q f (Ca h0 hs.nx) hq)))⟩
    ·exact .inr ⟨y,hp2,⟨s2,hs.trans hs2,ha2⟩,fun E ro n Q f h0 hr hpn=>Q4 (hx E ro n _ f h0 (Q5 (hx2 E ro n Q f (Ca h0 hs.nx) (fun s2 h2=>hr s2 (hs.trans h2)) (fun v s2 h2=>hpn v s2 (hs.trans h2)))))⟩
   | exit j=>exact .inl ⟨_,s,hs,hk,fun E ro n Q f h0 hq=>Q4 (hx E ro n _ f h0 hq)⟩
   | goto l=>exact .inl ⟨_,s,hs,hk,fun E ro n Q f h0 hq=>Q4 (hx E ro n _ f h0 hq)⟩
   | ret=>exact .inl ⟨_,s,hs,hk,fun E ro n Q f h0 hq=>Q4 (hx E ro n _ f h0 hq)⟩
   | panic c=>exact .inl ⟨_,s,hs,hk,fun E ro n Q f h0 hq=>Q4 (hx E ro n _ f h0 hq)⟩
   | outgrown=>exact .inl ⟨_,s,hs,hk,fun E ro n Q f h0 hq=>Q4 (hx E ro n _ f h0 hq)⟩
  ·exact .inr ⟨y,hp,hex,fun E ro n Q f h0 hr hpn=>Q4 (hx E ro n _ f h0 (fun s2 h2 e=>hr s2 h2 e) (fun v s2 h2 e=>hpn v s2 h2 e))⟩
 | .cond c a b=>by
  intro Y rn R ret pan β st p k r hY h
  show Ql2 D W P rn (.cond c a.code b.code) st ret pan p k r
  unfold JK at h
  split at h
  ·rename_i v hv
   have ec:=Yy (D:=D) hv
   cases hvv:v with
   | true =>
    rw [hvv] at h ec
    rcases Jw hP0 hm hT hD hK hX a hY h with ⟨e,s,hs,hk,hx⟩ | ⟨y,hp,hex,hx⟩
    ·exact .inl ⟨e,s,hs,hk,fun E ro n Q f h0 hq=>Qy ec (fun _=>hx E ro n Q f h0 hq) (fun e=>by cases e)⟩
    ·exact .inr ⟨y,hp,hex,fun E ro n Q f h0 hr hpn=>Qy ec (fun _=>hx E ro n Q f h0 hr hpn) (fun e=>by cases e)⟩
   | false =>
    rw [hvv] at h ec
    rcases Jw hP0 hm hT hD hK hX b hY h with ⟨e,s,hs,hk,hx⟩ | ⟨y,hp,hex,hx⟩
    ·exact .inl ⟨e,s,hs,hk,fun E ro n Q f h0 hq=>Qy ec (fun e=>by cases e) (fun _=>hx E ro n Q f h0 hq)⟩
    ·exact .inr ⟨y,hp,hex,fun E ro n Q f h0 hr hpn=>Qy ec (fun e=>by cases e) (fun _=>hx E ro n Q f h0 hr hpn)⟩
  ·cases h
 | .block id b=>by
  intro Y rn R ret pan β st p k r hY h
  show Ql2 D W P rn (.block id b.code) st ret pan p k r
  rcases Jw hP0 hm hT hD hK hX b hY h with ⟨e,s,hs,hk,hx⟩ | ⟨y,hp,hex,hx⟩
  ·cases e with
   | normal=>exact .inl ⟨.normal,s,hs,hk,fun E ro n Q f h0 hq=>QH (hx E ro n _ f h0 (Ji hq))⟩
   | exit j =>
    dsimp only at hk
    cases hb:Nat.beq j id with
    | true =>
     rw [hb] at hk
     have e:=C4 hb
     subst e
     exact .inl ⟨.normal,s,hs,hk,fun E ro n Q f h0 hq=>QH (hx E ro n _ f h0 (Z6 hq))⟩
    | false =>
     rw [hb] at hk
     exact .inl ⟨.exit j,s,hs,hk,fun E ro n Q f h0 hq=>QH (hx E ro n _ f h0 (XQ.blockE (Ke hb) hq))⟩
   | goto l=>exact .inl ⟨_,s,hs,hk,fun E ro n Q f h0 hq=>QH (hx E ro n _ f h0 hq)⟩
   | ret=>exact .inl ⟨_,s,hs,hk,fun E ro n Q f h0 hq=>QH (hx E ro n _ f h0 hq)⟩
   | panic c=>exact .inl ⟨_,s,hs,hk,fun E ro n Q f h0 hq=>QH (hx E ro n _ f h0 hq)⟩
   | outgrown=>exact .inl ⟨_,s,hs,hk,fun E ro n Q f h0 hq=>QH (hx E ro n _ f h0 hq)⟩
  ·exact .inr ⟨y,hp,hex,fun E ro n Q f h0 hr hpn=>QH (hx E ro n _ f h0 (fun s2 h2 e=>hr s2 h2 e) (fun v s2 h2 e=>hpn v s2 h2 e))⟩
 | .bloop id h ho b=>by
  intro Y rn R ret pan β st p k r hY hx
  show Ql2 D W P rn (.block id (.loop b.code)) st ret pan p k r
  unfold JK at hx
  split at hx
  ·cases hx
  ·rename_i L s0 hl
   have hto:=fun E=>(Yd (E:=E) hD hl).1
   obtain ⟨-,hsf,hw⟩:=Yd (E:=⟨P,default,fun _=>False,⟨0,fun _=>0,fun _ _=>undef,fun _=>0,fun _ _=>False⟩⟩) hD hl
   split at hx
   ·rename_i t0 Lo ht0 hLo
    have hwo:=Q0b hLo
    obtain ⟨o,hloop,hcont⟩:=YW hx
    refine .inl ⟨.normal,lab Lo s0 o,hsf.trans (Y8 s0 o),hcont,fun E ro n Q f h0 hq=>?_⟩
    have h00:E.V0.nx≤s0.m.nx:=Ca h0 hsf.nx
    refine ZU (hto E) (QH (Qci _ (fun t=>(lab L s0 t).er D) t0 o (W7 hD ⟨Sfx.refl _,hw,ht0⟩ h00) hloop (fun t m lo hstep hsays=>?_)))
    rcases Jw hP0 hm hT hD hK hX b (hY.mono (hsf.trans (Y8 s0 t)).sfm) hstep with ⟨e,s,hs,hk,hb⟩ | ⟨y,hp,-⟩
    ·refine hb E ro n _ f h00 ?_
     have hs0:Sfx s0 s:=(Y8 s0 t).trans hs
     cases e with
     | normal =>
      obtain ⟨t',hp,rfl⟩:=ZX hk
      exact Q6q hD hw h00 hs0 hp hsays
     | exit j =>
      dsimp only at hk
      cases hbq:Nat.beq j id with
      | false=>rw [hbq] at hk;cases hk
      | true =>
       rw [hbq,C6] at hk
       have e:=C4 hbq
       subst e
       obtain ⟨o',hp,rfl⟩:=ZX hk
       have eo:o'=o:=hsays
       subst eo
       exact Qbx (WN (W7 hD ⟨hs0,hwo,hp⟩ h00) hq)
     | goto l=>cases hk
     | ret=>cases hk
     | panic c=>cases hk
     | outgrown=>cases hk
    ·cases hp
   ·cases hx
 | .bloopE id h ho b=>by
  intro Y rn R ret pan β st p k r hY hx
  show Ql2 D W P rn (.block id (.loop b.code)) st ret pan p k r
  unfold JK at hx
  split at hx
  ·cases hx
  ·rename_i L s0 hl
   have hto:=fun E=>(Yd (E:=E) hD hl).1
   obtain ⟨-,hsf,hw⟩:=Yd (E:=⟨P,default,fun _=>False,⟨0,fun _=>0,fun _ _=>undef,fun _=>0,fun _ _=>False⟩⟩) hD hl
   split at hx
   ·rename_i t0 Lo ht0 hLo
    have hwo:=Q0b hLo
    obtain ⟨o,hloop,hcont⟩:=YW hx
    have key:∀ E ro n Q,Fit W P rn E ro→E.V0.nx≤st.m.nx→(∀ o',o=.inl o'→XQ E Q .normal ((lab Lo s0 o').er D))→(∀ y,o=.inr y→(∀ s,Sfx st s→ret s=some y→XQ E Q .ret (s.er D))∧∀ v s,Sfx st s→pan v s=some y→XQ E Q (.panic (ZW v)) (s.er D))→XC E ro n Q (.block id (.loop b.code)) (st.er D):=by
     intro E ro n Q f h0 hl1 hl2
     have h00:E.V0.nx≤s0.m.nx:=Ca h0 hsf.nx
     refine ZU (hto E) (QH (Qci _ (fun t=>(lab L s0 t).er D) t0 o (W7 hD ⟨Sfx.refl _,hw,ht0⟩ h00) hloop (fun t m lo hstep hsays=>?_)))
     rcases Jw hP0 hm hT hD hK hX b (hY.mono (hsf.trans (Y8 s0 t)).sfm) hstep with ⟨e,s,hs,hk,hb⟩ | ⟨y,hp,-,hb⟩
     ·refine hb E ro n _ f h00 ?_
      have hs0:Sfx s0 s:=(Y8 s0 t).trans hs
      cases e with
      | normal =>
       obtain ⟨t',hp,rfl⟩:=ZX hk
       exact Q6q hD hw h00 hs0 hp hsays
      | exit j =>
       dsimp only at hk
       cases hbq:Nat.beq j id with
       | false=>rw [hbq] at hk;cases hk
       | true =>
        rw [hbq,C6] at hk
        have e:=C4 hbq
        subst e
        obtain ⟨o',hp,rfl⟩:=ZX hk
        have eo:Sum.inl o'=o:=hsays
        exact Qbx (WN (W7 hD ⟨hs0,hwo,hp⟩ h00) (hl1 o' eo.symm))
      | goto l=>cases hk
      | ret=>cases hk
      | panic c=>cases hk
      | outgrown=>cases hk
     ·cases hp
      have eo:Sum.inr y=o:=hsays
      obtain ⟨g1,Qqm⟩:=hl2 y eo.symm
      refine hb E ro n _ f h00 (fun s hs hr=>Q72 (fun e=>by cases e) (fun e=>by cases e) (g1 s (hsf.trans ((Y8 s0 t).trans hs)) hr)) (fun v s hs hr=>Q72 (fun e=>by cases e) (fun e=>by cases e) (Qqm v s (hsf.trans ((Y8 s0 t).trans hs)) hr))
    cases o with
    | inl o'=>exact .inl ⟨.normal,lab Lo s0 o',hsf.trans (Y8 s0 o'),hcont,fun E ro n Q f h0 hq=>key E ro n Q f h0 (fun o2 e=>by cases e;exact hq) (fun y e=>by cases e)⟩
    | inr y =>
     obtain ⟨t,hst⟩:=Q6p hloop
     have hex:∃ s,Sfx st s∧(ret s=some y∨∃ v,pan v s=some y):=by
      rcases Jw hP0 hm hT hD hK hX b (hY.mono (hsf.trans (Y8 s0 t)).sfm) hst with ⟨e,s,hs,hk,hb⟩ | ⟨y',hp,⟨s,hs,ha⟩,-⟩
      ·cases e with
       | normal=>obtain ⟨t',-,e⟩:=ZX hk;cases e
       | exit j =>
        dsimp only at hk
        cases hbq:Nat.beq j id with
        | false=>rw [hbq] at hk;cases hk
        | true=>rw [hbq,C6] at hk;obtain ⟨t',-,e⟩:=ZX hk;cases e
       | goto l=>cases hk
       | ret=>cases hk
       | panic c=>cases hk
       | outgrown=>cases hk
      ·cases hp;exact ⟨s,hsf.trans ((Y8 s0 t).trans hs),ha⟩
     exact .inr ⟨y,hcont,hex,fun E ro n Q f h0 hr hp=>key E ro n Q f h0 (fun o2 e=>by cases e) (fun y2 e=>by cases e;exact ⟨hr,hp⟩)⟩
   ·cases hx
 | .join h b=>by
  intro Y rn R ret pan β st p k r hY hx
  show Ql2 D W P rn b.code st ret pan p k r
  unfold JK at hx
  split at hx
  ·cases hx
  ·rename_i L s0 hl
   have hto:=fun E=>(Yd (E:=E) hD hl).1
   obtain ⟨-,hsf,hw⟩:=Yd (E:=⟨P,default,fun _=>False,⟨0,fun _=>0,fun _ _=>undef,fun _=>0,fun _ _=>False⟩⟩) hD hl
   obtain ⟨t0,hb,hcont⟩:=YW hx
   refine .inl ⟨.normal,lab L s0 t0,hsf.trans (Y8 s0 t0),hcont,fun E ro n Q f h0 hq=>ZU (hto E) ?_⟩
   have h00:E.V0.nx≤s0.m.nx:=Ca h0 hsf.nx
   rcases Jw hP0 hm hT hD hK hX b (hY.mono hsf.sfm) hb with ⟨e,s,hs,hk,hb2⟩ | ⟨y,hp,-⟩
   ·refine hb2 E ro n Q f h00 ?_
    cases e with
    | normal =>
     obtain ⟨t',hp,e⟩:=ZX hk
     have e':t'=t0:=e
     subst e'
     exact WN (W7 hD ⟨hs,hw,hp⟩ h00) hq
    | exit j=>cases hk
    | goto l=>cases hk
    | ret=>cases hk
    | panic c=>cases hk
    | outgrown=>cases hk
   ·cases hp
 | .joinE h b=>by
  intro Y rn R ret pan β st p k r hY hx
  show Ql2 D W P rn b.code st ret pan p k r
  unfold JK at hx
  split at hx
  ·cases hx
  ·rename_i L s0 hl
   have hto:=fun E=>(Yd (E:=E) hD hl).1
   obtain ⟨-,hsf,hw⟩:=Yd (E:=⟨P,default,fun _=>False,⟨0,fun _=>0,fun _ _=>undef,fun _=>0,fun _ _=>False⟩⟩) hD hl
   obtain ⟨t0,hb,hcont⟩:=YW hx
   rcases Jw hP0 hm hT hD hK hX b (hY.mono hsf.sfm) hb with ⟨e,s,hs,hk,hb2⟩ | ⟨y,hp,⟨s1,hs1,ha1⟩,hb2⟩
   ·cases e with
    | normal =>
     obtain ⟨t',hp,rfl⟩:=ZX hk
     refine .inl ⟨.normal,lab L s0 t',hsf.trans (Y8 s0 t'),hcont,fun E ro n Q f h0 hq=>ZU (hto E) ?_⟩
     have h00:E.V0.nx≤s0.m.nx:=Ca h0 hsf.nx
     exact hb2 E ro n Q f h00 (WN (W7 hD ⟨hs,hw,hp⟩ h00) hq)
    | exit j=>cases hk
    | goto l=>cases hk
    | ret=>cases hk
    | panic c=>cases hk
    | outgrown=>cases hk
   ·cases hp
    exact .inr ⟨y,hcont,⟨s1,hsf.trans hs1,ha1⟩,fun E ro n Q f h0 hr hp=>ZU (hto E) (hb2 E ro n Q f (Ca h0 hsf.nx) (fun s hs e=>hr s (hsf.trans hs) e) (fun v s hs e=>hp v s (hsf.trans hs) e))⟩
 | .exit id=>by
  intro Y rn R ret pan β st p k r hY h
  exact .inl ⟨.exit id,st,Sfx.refl st,h,fun E ro n Q f h0 hq=>Gj hq⟩
 | .scope b=>by
  intro Y rn R ret pan β st p k r hY h
  show Ql2 D W P rn (.scope b.code) st ret pan p k r
  have scp:∀ {E:Env} {ro:Option Nat} {n:Nat} {Q:Exit→Act→World→Prop} {c:Code} {x:St},XC E ro n (fun e a w=>match e with
    | .goto _=>False
    | e=>Q e a w) c x→XC E ro n Q (.scope c) x:=fun h V a w hr=>wpV_scope (h V a w hr)
  rcases Jw hP0 hm hT hD hK hX b hY h with ⟨e,s,hs,hk,hx⟩ | ⟨y,hp,hex,hx⟩
  ·cases e with
   | normal=>exact .inl ⟨_,s,hs,hk,fun E ro n Q f h0 hq=>scp (hx E ro n _ f h0 hq)⟩
   | exit j=>exact .inl ⟨_,s,hs,hk,fun E ro n Q f h0 hq=>scp (hx E ro n _ f h0 hq)⟩
   | goto l=>cases hk
   | ret=>exact .inl ⟨_,s,hs,hk,fun E ro n Q f h0 hq=>scp (hx E ro n _ f h0 hq)⟩
   | panic c=>exact .inl ⟨_,s,hs,hk,fun E ro n Q f h0 hq=>scp (hx E ro n _ f h0 hq)⟩
   | outgrown=>exact .inl ⟨_,s,hs,hk,fun E ro n Q f h0 hq=>scp (hx E ro n _ f h0 hq)⟩
  ·exact .inr ⟨y,hp,hex,fun E ro n Q f h0 hr hpn=>scp (hx E ro n _ f h0 (fun s2 h2 e=>hr s2 h2 e) (fun v s2 h2 e=>hpn v s2 h2 e))⟩
 | .range g ps a b=>range_ok hP0 hX (Jw hP0 hm hT hD hK hX a) (Jw hP0 hm hT hD hK hX b)
 | .ret=>by
  intro Y rn R ret pan β st p k r hY h
  obtain ⟨v,h1,h2⟩:=YW (show Option.bind (ret st) p=some r from h)
  exact .inr ⟨v,h2,⟨st,Sfx.refl st,.inl h1⟩,fun E ro n Q f h0 hr hp=>QU (hr st (Sfx.refl st) h1)⟩
end
end
noncomputable section
open Go.RowKit
theorem Qd7:Tryz.prog.follows .mixedOrders=true:=by kernel_rfl
section
variable {U:Univ}
variable (U) in
structure Hint where
 sl:List (List HL×HK U)
 so:List (List HL×HK U)
 esc:Bool
variable (U) in
structure Hints where
 h:List (Nat×Hint U)
 e:List (Nat×List Nat)
def effsAt (e:List (Nat×List Nat)) (n:Nat):List Nat:=match Qq8 e n with
 | some l=>l
 | none=>[]
def dstsO (ops:List Oper):List Nat:=ops.filterMap (·.dst)
def U6:Code→List Nat
 | .region _ ops _=>dstsO ops.toList
 | .seq a b=>U6 a++U6 b
 | .cond _ a b=>U6 a++U6 b
 | .block _ b=>U6 b
 | .loop b=>U6 b
 | .scope b=>U6 b
 | .rangeFunc _ _ a b=>U6 a++U6 b
 | _=>[]
def Qk6:List Nat→List Nat
 | []=>[]
 | a::r=>cond (r.contains a) (Qk6 r) (a::Qk6 r)
def Q9g:List HL→List Nat
 | []=>[]
 | .reg r::ls=>r::Q9g ls
 | .at _ _::ls=>Q9g ls
 | .fat _ _ _::ls=>Q9g ls
def W8 (sl:List (List HL×HK U)) (c:Code):HLab U:=⟨sl,Qk6 ((U6 c).filter fun r=>!(sl.flatMap fun p=>Q9g p.1).contains r)⟩
def Qa2 (h:Option (Hint U)) (c:Code) (t:Tc U):Tc U:=match h with
 | none=>t
 | some h=>cond h.esc (.joinE (W8 h.sl c) t) (.join (W8 h.sl c) t)
def Kd (H:Hints U):Nat→Code→Option (Nat×Tc U)
 | n,.skip=>some (n,.skip)
 | n,.region id ops false=>some (n+1,Qa2 (Qq8 H.h n) (.region id ops false) (.reg id ops))
 | n,.region id ops true=>some (n+1,Qa2 (Qq8 H.h n) (.region id ops true) (.draw id (effsAt H.e n) ops))
 | n,.seq a b=>match Kd H n a with
  | some (n1,ta)=>match Kd H n1 b with
   | some (n2,tb)=>some (n2,.seq ta tb)
   | none=>none
  | none=>none
 | n,.cond c a b=>match Kd H (n+1) a with
  | some (n1,ta)=>match Kd H n1 b with
   | some (n2,tb)=>some (n2,Qa2 (Qq8 H.h n) (.cond c a b) (.cond c ta tb))
   | none=>none
  | none=>none
 | n,.block id (.loop b)=>match Qq8 H.h n,Kd H (n+1) b with
  | some h,some (n1,tb)=>some (n1,cond h.esc (.bloopE id (W8 h.sl b) (W8 h.so b) tb) (.bloop id (W8 h.sl b) (W8 h.so b) tb))
  | _,_=>none
 | n,.block id b=>match Kd H (n+1) b with
  | some (n1,tb)=>some (n1,Qa2 (Qq8 H.h n) (.block id b) (.block id tb))
  | none=>none
 | n,.exit id=>some (n,.exit id)
 | n,.scope b=>match Kd H n b with
  | some (n1,tb)=>some (n1,.scope tb)
  | none=>none
 | n,.ret=>some (n,.ret)
 | n,.rangeFunc g ps a b=>match Kd H n a with
  | some (n1,ta)=>match Kd H n1 b with
   | some (n2,tb)=>some (n2,.range g ps ta tb)
   | none=>none
  | none=>none
 | _,_=>none
theorem X1 (h:Option (Hint U)) (c:Code) (t:Tc U):(Qa2 h c t).code=t.code:=by
 cases h with
 | none=>rfl
 | some h =>
  show (_root_.cond h.esc (Tc.joinE (W8 h.sl c) t) (Tc.join (W8 h.sl c) t)).code=_
  cases h.esc <;> rfl
theorem JS {H:Hints U}:∀ (c:Code) {n n':Nat} {tc:Tc U},Kd H n c=some (n',tc)→tc.code=c
 | .skip,n,n',tc,h=>by cases h;rfl
 | .region id ops false,n,n',tc,h=>by cases h;exact X1 _ _ _
 | .region id ops true,n,n',tc,h=>by cases h;exact X1 _ _ _
 | .seq a b,n,n',tc,h=>by
  unfold Kd at h
  split at h
  ·rename_i n1 ta ha
   split at h
   ·rename_i n2 tb hb;cases h
    show Code.seq ta.code tb.code=_
    rw [JS a ha,JS b hb]
   ·cases h
  ·cases h
 | .cond c a b,n,n',tc,h=>by
  unfold Kd at h
  split at h
  ·rename_i n1 ta ha
   split at h
   ·rename_i n2 tb hb;cases h
    rw [X1]
    show Code.cond c ta.code tb.code=_
    rw [JS a ha,JS b hb]
   ·cases h
  ·cases h
 | .block id b,n,n',tc,h=>by
  unfold Kd at h
  split at h
  all_goals first | (cases ‹_=Code.block id b›;done) | skip
  all_goals first | (rename_i heq;cases heq;done) | skip
  ·rename_i heq
   cases heq
   split at h
   ·rename_i hh n1 tb h1 h2;cases h
    cases hh.esc <;> (show Code.block _ (.loop tb.code)=_;rw [JS _ h2])
   ·cases h
  ·rename_i heq
   cases heq
   split at h
   ·rename_i n1 tb hb;cases h
    rw [X1]
    show Code.block _ tb.code=_
    rw [JS _ hb]
   ·cases h
  all_goals cases h
 | .exit id,n,n',tc,h=>by cases h;rfl
 | .scope b,n,n',tc,h=>by
  unfold Kd at h
  split at h
  ·rename_i n1 tb hb;cases h
   show Code.scope tb.code=_
   rw [JS b hb]
  ·cases h
 | .ret,n,n',tc,h=>by cases h;rfl
 | .loop b,n,n',tc,h=>by cases h
 | .rangeFunc g ps a b,n,n',tc,h=>by
  unfold Kd at h
  split at h
  ·rename_i n1 ta ha
   split at h
   ·rename_i n2 tb hb;cases h
    show Code.rangeFunc g ps ta.code tb.code=_
    rw [JS a ha,JS b hb]
   ·cases h
  ·cases h
 | .label _,n,n',tc,h=>by cases h
 | .goto _,n,n',tc,h=>by cases h
 | .refuse _,n,n',tc,h=>by cases h
end
section
variable {U:Univ} (D:Codec U) (C:TCfg U) (K:FuncId→List (TAV U)→Option (KR U)) (X:Qr2 U)
def JD:Nat→List (TAV U)→List (Nat×TTV U)
 | _,[]=>[]
 | i,x::xs=>(i,.v x)::JD (i+1) xs
def Qam (s:TSt U):ResultVar→Option (TAV U)
 | .tmp t=>match Qq8 s.tm t with
  | some (.v x)=>some x
  | _=>none
 | .cell ad ty=>match Qq8 C.T.agg ty,Qq8 s.tm ad with
  | some (ag,n),some (.v (.one (.ptr i off)))=>match ag with
   | false=>match WZ D s.m.es i off 1 with
    | some [.one y]=>some (.one y)
    | _=>none
   | true=>match WZ D s.m.es i off n with
    | some xs=>some (.agg xs)
    | none=>none
  | _,_=>none
def JX:AK U→Bool
 | .app _ _ _=>false
 | .ptr _ _=>false
 | .any=>false
 | _=>true
def Qb6:AK U→TAV U→Bool
 | .stc _,x=>Qdp x
 | _,_=>true
def Q79 (s:TSt U) (k:AK U) (v:ResultVar):Option k.Ty:=match Qam D C s v with
 | some x=>cond (JX k&&Qb6 k x) (Qe2 D s.m.tk k x) none
 | none=>none
def Q9m (s:TSt U):(rk:List (AK U))→List ResultVar→Option (tup rk)
 | [],[]=>some ()
 | [k],[v]=>Q79 D C s k v
 | k::k2::r,v::vs=>match Q79 D C s k v with
  | some a=>match Q9m s (k2::r) vs with
   | some b=>some (a,b)
   | none=>none
  | none=>none
 | _,_=>none
def Gf:(rk:List (AK U))→tup rk→List (TAV U)
 | [],_=>[]
 | [k],v=>[GK k v 0]
 | k::k2::r,v=>GK k v.1 0::Gf (k2::r) v.2
def QM (rk:List (AK U)) (v:tup rk):List AV:=(Gf rk v).map (TAV.er D [])
variable {D C K X}
theorem Q77 (hD:D.OK) {k:AK U} (hk:JX k=true) (v:k.Ty) (tk tk':List (Nat×TTok U)):(GK k v 0).er D tk=(GK k v 0).er D tk':=by
 cases k with
 | app i e t=>cases hk
 | ptr i o=>cases hk
 | any=>cases hk
 | stc t =>
  show AV.agg (Jf D tk [It.grp t v])=AV.agg (Jf D tk' [It.grp t v])
  have e:∀ (tk:List (Nat×TTok U)) (x:U.R t),Jf D tk [It.grp t x]=((U.E t).enc x).map .d:=fun tk x=>by
   unfold Jf
   rw [KT,Q74 hD]
  rw [e tk v,e tk' v]
 | int k=>rfl
 | bool=>rfl
 | str=>rfl
 | sl t=>rfl
theorem dec_data (hD:D.OK) {tk tk':List (Nat×TTok U)} {k:AK U} {x:TAV U} {v:k.Ty} (hk:JX k=true) (hs:Qb6 k x=true) (h:Qe2 D tk k x=some v) {V:Vu} {w:World} {u:Value} (hr:(x.er D tk).rel V w u):((GK k v 0).er D tk').rel (Yr V.S) w u:=by
 have h1:=Qgt (tk':=tk') (ver:=0) hD h (fun p hp=>by cases k <;> first | (cases hp;done) | (cases hk)) (by
  rintro ⟨t,y,rfl,rfl⟩
  cases hs) hr
 cases k with
 | app i e t=>cases hk
 | ptr i o=>cases hk
 | any=>cases hk
 | stc t =>
  have e:∀ (x:U.R t),Jf D tk' [It.grp t x]=((U.E t).enc x).map .d:=fun x=>by
   unfold Jf
   rw [KT,Q74 hD]
  have h2:(AV.agg (Jf D tk' [It.grp t v])).rel V w u:=h1
  show (AV.agg (Jf D tk' [It.grp t v])).rel (Yr V.S) w u
  rw [e v] at h2 ⊢
  obtain ⟨vs,q1,q2⟩:=h2
  refine ⟨vs,q1,q2.1,fun i y hy=>?_⟩
  obtain ⟨z,hz,hzr⟩:=q2.2 i y hy
  refine ⟨z,hz,?_⟩
  rw [Cl] at hy
  cases hc:((U.E t).enc v)[i]? with
  | none=>rw [hc] at hy;cases hy
  | some c=>rw [hc] at hy;cases hy;exact hzr
 | int k=>exact h1
 | bool=>exact h1
 | str=>exact h1
 | sl t=>exact h1
theorem Q38 {P:Program} (hT:C.T.OK P) (hD:D.OK) {s:TSt U} {v:ResultVar} {x:TAV U} (h:Qam D C s v=some x) {rs:List ResultVar} {xs:List AV} (k:RAs P (s.er D) rs xs):RAs P (s.er D) (v::rs) (x.er D s.m.tk::xs):=by
 cases v with
 | tmp t =>
  have h:(match Qq8 s.tm t with
   | some (.v x)=>some x
   | _=>none)=some x:=h
  split at h
  ·rename_i y hy;cases h
   exact Jk (by show Qq8 (QI _ s.tm) t=_;rw [QN,hy];rfl) k
  ·cases h
 | cell ad ty =>
  unfold Qam at h
  dsimp only at h
  split at h
  ·rename_i ag n i off hag had
   have ea:Qq8 (s.er D).tm ad=some (.v (.one (.ptr i off))):=by
    show Qq8 (QI (TTV.er D s.m.tk) s.tm) ad=_
    rw [QN,had];rfl
   split at h
   ·split at h
    ·rename_i y hy;cases h
     obtain ⟨T,ys,h1,h2,h3⟩:=Yj hD (tk:=s.m.tk) hy
     exact Wu (hT.agg.get hag) ea h1 (UQ h3) k
    ·cases h
   ·split at h
    ·rename_i xs' hy;cases h
     obtain ⟨T,ys,h1,h2,h3⟩:=Yj hD (tk:=s.m.tk) hy
     refine Zs (hT.agg.get hag) ea h1 h3 ?_ k
     rw [← h3,CR,Cu];omega
    ·cases h
  ·cases h
theorem Qgu {P:Program} (hT:C.T.OK P) (hD:D.OK) {s:TSt U}:∀ {rk:List (AK U)} {vs:List ResultVar} {r:tup rk},Q9m D C s rk vs=some r→∃ xs,RAs P (s.er D) vs xs∧xs.length=(QM D rk r).length∧∀ (i:Nat) (y:AV),(QM D rk r)[i]?=some y→∃ x,xs[i]?=some x∧∀ V w v,x.rel V w v→y.rel (Yr V.S) w v:=by
 have one:∀ {k:AK U} {v:ResultVar} {a:k.Ty},Q79 D C s k v=some a→∃ x,Qam D C s v=some x∧∀ V w u,(x.er D s.m.tk).rel V w u→((GK k a 0).er D []).rel (Yr V.S) w u:=by
  intro k v a h
  unfold Q79 at h
  split at h
  ·rename_i x hx
   cases hc:(JX k&&Qb6 k x) with
   | false=>rw [hc] at h;cases h
   | true =>
    rw [hc,C6] at h
    obtain ⟨b1,b2⟩:=C0.1 hc
    exact ⟨x,hx,fun V w u hr=>dec_data hD b1 b2 h hr⟩
  ·cases h
 intro rk
 induction rk with
 | nil =>
  intro vs r h
  cases vs with
  | nil=>exact ⟨[],.nil,rfl,fun i y hy=>by cases hy⟩
  | cons v vs=>cases h
 | cons k rk ih =>
  intro vs r h
  cases rk with
  | nil =>
   cases vs with
   | nil=>cases h
   | cons v vs =>
    cases vs with
    | nil =>
     obtain ⟨x,hx,hr⟩:=one h
     refine ⟨[x.er D s.m.tk],Q38 hT hD hx .nil,Z,fun i y hy=>?_⟩
     cases i with
     | zero=>cases hy;exact ⟨_,rfl,hr⟩
     | succ i=>cases hy
    | cons v2 vs=>cases h
  | cons k2 rk =>
   cases vs with
   | nil=>cases h
   | cons v vs =>
    have h2:(match Q79 D C s k v with
     | some a=>match Q9m D C s (k2::rk) vs with
      | some b=>(some (a,b):Option (k.Ty×tup (k2::rk)))
      | none=>none
     | none=>none)=some r:=h
    cases ha:Q79 D C s k v with
    | none=>rw [ha] at h2;cases h2
    | some a =>
     rw [ha] at h2
     dsimp only at h2
     cases hb:Q9m D C s (k2::rk) vs with
     | none=>rw [hb] at h2;cases h2
     | some b =>
      rw [hb] at h2;cases h2
      obtain ⟨x,hx,hr⟩:=one ha
      obtain ⟨xs,q1,q2,q3⟩:=ih hb
      refine ⟨x.er D s.m.tk::xs,Q38 hT hD hx q1,by show xs.length+1=(QM D (k2::rk) b).length+1;rw [q2],fun i y hy=>?_⟩
      cases i with
      | zero=>cases hy;exact ⟨_,rfl,hr⟩
      | succ i=>exact q3 i y hy
theorem Qak {xs ys:List AV} (hl:xs.length=ys.length) (hs:∀ (i:Nat) (y:AV),ys[i]?=some y→∃ x,xs[i]?=some x∧∀ V w v,x.rel V w v→y.rel (Yr V.S) w v) {V:Vu} {w:World} {v:Value} (h2:(Qh xs).rel V w v):(Qh ys).rel (Yr V.S) w v:=by
 match xs,ys,hl with
 | [],[],_=>obtain ⟨vs,q1,q2,q3⟩:=h2;exact ⟨vs,q1,q2,fun i x hx=>by cases hx⟩
 | [x],[y],_ =>
  obtain ⟨x',hx,hxy⟩:=hs 0 y rfl
  cases hx
  exact hxy _ _ _ h2
 | x::x2::xs,y::y2::ys,hl =>
  obtain ⟨vs,q1,q2,q3⟩:=h2
  refine ⟨vs,q1,by rw [q2];exact hl,fun i z hz=>?_⟩
  obtain ⟨x',hx,hxy⟩:=hs i z hz
  obtain ⟨u,hu,hr⟩:=q3 i x' hx
  exact ⟨u,hu,hxy _ _ _ hr⟩
end
end
noncomputable section
open Go.RowKit
section
variable {U:Univ}
abbrev XF (U:Univ) (α:Type):=List (It U)→Option (α×List (It U))
def Ze:XF U Int
 | .one (.c (.v (.int .i64 a)))::r=>some (a,r)
 | _=>none
def Q3d:XF U Bool
 | .one (.c (.v (.bool a)))::r=>some (a,r)
 | _=>none
def Qmk:XF U Byt
 | .one (.c (.v (.int .u8 a)))::r=>some (⟨a⟩,r)
 | _=>none
def Q1x:XF U Qrl
 | .one (.c (.str a))::r=>some (a,r)
 | _=>none
def Qkz (t:U.T):XF U (List (U.R t))
 | .one (.c (.sl t' l))::r=>match Gg t' t l with
  | some l'=>some (l',r)
  | none=>none
 | .one (.c (.v (.slice none 0 0)))::r=>some ([],r)
 | _=>none
def Q3c (t:U.T) (p:XF U (U.R t)):XF U (U.R t)
 | .grp t' x::r=>match Qgz t' t x with
  | some y=>some (y,r)
  | none=>none
 | xs=>p xs
def KJ {α:Type} (p:XF U α) (xs:List (It U)):Option α:=match p xs with
 | some (a,[])=>some a
 | _=>none
def JW {α β:Type} (p:XF U α) (q:XF U β):XF U (α×β):=fun xs=>match p xs with
 | some (a,r)=>match q r with
  | some (b,r')=>some ((a,b),r')
  | none=>none
 | none=>none
def X9 {α β:Type} (f:α→β) (p:XF U α):XF U β:=fun xs=>match p xs with
 | some (a,r)=>some (f a,r)
 | none=>none
variable {D:Codec U}
def Jc (D:Codec U) {α:Type} (p:XF U α) (cells:α→List C):Prop:=∀ tk xs a r,p xs=some (a,r)→∃ pre,Jf D tk xs=pre++Jf D tk r∧CSubs pre (cells a)
theorem J3:Jc D Ze fun a=>[.v (.int .i64 a)]:=by
 intro tk xs a r h
 unfold Ze at h
 split at h
 ·cases h;exact ⟨[_],rfl,.cons (.d _) .nil⟩
 ·cases h
theorem XW:Jc D Q3d fun a=>[.v (.bool a)]:=by
 intro tk xs a r h
 unfold Q3d at h
 split at h
 ·cases h;exact ⟨[_],rfl,.cons (.d _) .nil⟩
 ·cases h
theorem pByt_ok:Jc D Qmk bytC:=by
 intro tk xs a r h
 unfold Qmk at h
 split at h
 ·cases h;exact ⟨[_],rfl,.cons (.d _) .nil⟩
 ·cases h
theorem ZR:Jc D Q1x fun a=>[.v (.string (Qpz a))]:=by
 intro tk xs a r h
 unfold Q1x at h
 split at h
 ·cases h;exact ⟨[_],rfl,.cons (.d _) .nil⟩
 ·cases h
theorem XV (t:U.T):Jc D (Qkz t) fun l=>[.sl (U.E t).sz ((U.E t).encL l)]:=by
 intro tk xs a r h
 unfold Qkz at h
 split at h
 ·split at h
  ·rename_i l' hl;cases h
   obtain ⟨e,rfl⟩:=YU hl
   subst e
   exact ⟨[_],Z,.cons (.d _) .nil⟩
  ·cases h
 ·cases h
  refine ⟨[_],Z,.cons ?_ .nil⟩
  have e:(U.E t).encL []=[]:=(U.E t).nil
  rw [e]
  exact .nil _
 ·cases h
theorem csubs_d (l:List C):CSubs (l.map .d) l:=by
 induction l with
 | nil=>exact .nil
 | cons c l ih=>exact .cons (.d c) ih
theorem Kj (hf:∀ t x,(D.fl t x).map TC.er=(U.E t).enc x) (t:U.T) {p:XF U (U.R t)} (hp:Jc D p (U.E t).enc):Jc D (Q3c t p) (U.E t).enc:=by
 intro tk xs a r h
 unfold Q3c at h
 split at h
 ·rename_i t' x r'
  split at h
  ·rename_i y hy;cases h
   unfold Qgz at hy
   split at hy
   ·rename_i e _;cases hy
    subst e
    refine ⟨((U.E t').enc x).map .d,?_,csubs_d _⟩
    unfold Jf
    rw [JZ,Cr]
    congr 1
    show ((D.fl t' x).map TA.c).map (TA.er tk)=_
    rw [← hf t' x,CI,CI];rfl
   ·cases hy
  ·cases h
 ·exact hp tk _ a r h
theorem QE {α β:Type} {p:XF U α} {q:XF U β} {f:α→List C} {g:β→List C} (hp:Jc D p f) (hq:Jc D q g):Jc D (JW p q) fun a=>f a.1++g a.2:=by
 intro tk xs a r h
 unfold JW at h
 split at h
 ·rename_i a1 r1 h1
  split at h
  ·rename_i b r2 h2;cases h
   obtain ⟨p1,e1,c1⟩:=hp tk _ _ _ h1
   obtain ⟨p2,e2,c2⟩:=hq tk _ _ _ h2
   exact ⟨p1++p2,by rw [e1,e2,CB],c1.append c2⟩
  ·cases h
 ·cases h
theorem JL {α β:Type} {f:α→β} {p:XF U α} {g:α→List C} {g':β→List C} (hp:Jc D p g) (hg:∀ a,g' (f a)=g a):Jc D (X9 f p) g':=by
 intro tk xs a r h
 unfold X9 at h
 split at h
 ·rename_i a1 r1 h1;cases h
  obtain ⟨p1,e1,c1⟩:=hp tk _ _ _ h1
  exact ⟨p1,e1,by rw [hg];exact c1⟩
 ·cases h
theorem Jm {α:Type} {p:XF U α} {g:α→List C} (hp:Jc D p g) (tk:List (Nat×TTok U)) (xs:List (It U)) (a:α) (h:KJ p xs=some a):CSubs (Jf D tk xs) (g a):=by
 unfold KJ at h
 split at h
 ·rename_i a1 h1;cases h
  obtain ⟨p1,e1,c1⟩:=hp tk _ _ _ h1
  rw [e1]
  show CSubs (p1++Jf D tk []) _
  have:Jf D tk []=[]:=rfl
  rw [this,Cy];exact c1
 ·cases h
end
end
noncomputable section
open Go.RowKit
def tabs:Tables:={
  agg:=[(3,(false,1)),(4,(false,1)),(5,(false,1)),(9,(false,1)),(22,(false,1)),(23,(false,1)),(25,(true,5)),(26,(false,1)),(28,(false,1)),(41,(false,1)),(43,(false,1)),(45,(true,7)),(46,(false,1)),(48,(true,23)),(59,(false,1)),(60,(false,1)),(69,(true,2)),(71,(false,1)),(80,(false,1)),(82,(true,2)),(86,(true,6)),(87,(false,1)),(89,(true,8)),(91,(true,15)),(107,(true,4)),(114,(false,1)),(119,(true,8)),(125,(false,1)),(132,(true,2)),(137,(true,2)),(142,(true,2)),(144,(true,5)),(148,(true,10)),(153,(false,1)),(155,(true,5)),(156,(true,65)),(185,(false,1)),(195,(false,1)),(203,(true,256)),(210,(false,1)),(218,(false,1)),(264,(true,2)),(280,(false,1))]
  sl:=[(22,(82,2)),(23,(25,5)),(41,(9,1)),(43,(86,6)),(46,(91,15)),(60,(5,1)),(80,(142,2)),(87,(148,10)),(125,(132,2)),(218,(3,1))]
  zero:=[(3,[.int .i64 0]),(5,[.int .u8 0]),(9,[.string ByteArray.empty]),(25,[.int .i64 0,.int .i64 0,.string ByteArray.empty,.slice none 0 0,.slice none 0 0]),(26,[.nilFunc]),(28,[.int .i64 0]),(41,[.slice none 0 0]),(48,[.int .i64 0,.string ByteArray.empty,.int .i64 0,.int .i64 0,.int .i64 0,.string ByteArray.empty,.slice none 0 0,.slice none 0 0,.int .i64 0,.int .i64 0,.string ByteArray.empty,.slice none 0 0,.slice none 0 0,.int .i64 0,.slice none 0 0,.int .i64 0,.int .i64 0,.int .i64 0,.string ByteArray.empty,.slice none 0 0,.slice none 0 0,.slice none 0 0,.slice none 0 0]),(62,[.pointer none,.slice none 0 0]),(69,[.int .i64 0,.int .i64 0]),(71,[.pointer none]),(77,[.string ByteArray.empty,.int .i64 0,.bool false]),(82,[.int .i64 0,.slice none 0 0]),(86,[.string ByteArray.empty,.int .i64 0,.int .i64 0,.string ByteArray.empty,.slice none 0 0,.slice none 0 0]),(89,[.int .i64 0,.int .i64 0,.int .i64 0,.string ByteArray.empty,.slice none 0 0,.slice none 0 0,.int .i64 0,.slice none 0 0]),(91,[.string ByteArray.empty,.int .i64 0,.int .i64 0,.string ByteArray.empty,.slice none 0 0,.slice none 0 0,.int .i64 0,.int .i64 0,.int .i64 0,.int .i64 0,.string ByteArray.empty,.slice none 0 0,.slice none 0 0,.int .i64 0,.slice none 0 0]),(95,[.pointer none,.slice none 0 0]),(99,[.string ByteArray.empty,.int .i64 0]),(107,[.int .i64 0,.int .i64 0,.int .i64 0,.int .i64 0]),(119,[.string ByteArray.empty,.string ByteArray.empty,.string ByteArray.empty,.string ByteArray.empty,.string ByteArray.empty,.string ByteArray.empty,.string ByteArray.empty,.string ByteArray.empty]),(127,[.slice none 0 0,.int .i64 0]),(132,[.string ByteArray.empty,.int .i64 0]),(137,[.string ByteArray.empty,.int .i64 0]),(142,[.int .i64 0,.int .i64 0]),(144,[.string ByteArray.empty,.string ByteArray.empty,.string ByteArray.empty,.string ByteArray.empty,.string ByteArray.empty]),(148,[.string ByteArray.empty,.bool false,.int .i64 0,.int .i64 0,.int .i64 0,.string ByteArray.empty,.slice none 0 0,.slice none 0 0,.int .i64 0,.slice none 0 0]),(155,[.bool false,.bool false,.int .i64 0,.int .i64 0,.int .i64 0]),(156,[.bool false,.bool false,.int .i64 0,.int .i64 0,.int .i64 0,.bool false,.bool false,.int .i64 0,.int .i64 0,.int .i64 0,.bool false,.bool false,.int .i64 0,.int .i64 0,.int .i64 0,.bool false,.bool false,.int .i64 0,.int .i64 0,.int .i64 0,.bool false,.bool false,.int .i64 0,.int .i64 0,.int .i64 0,.bool false,.bool false,.int .i64 0,.int .i64 0,.int .i64 0,.bool false,.bool false,.int .i64 0,.int .i64 0,.int .i64 0,.bool false,.bool false,.int .i64 0,.int .i64 0,.int .i64 0,.bool false,.bool false,.int .i64 0,.int .i64 0,.int .i64 0,.bool false,.bool false,.int .i64 0,.int .i64 0,.int .i64 0,.bool false,.bool false,.int .i64 0,.int .i64 0,.int .i64 0,.bool false,.bool false,.int .i64 0,.int .i64 0,.int .i64 0,.bool false,.bool false,.int .i64 0,.int .i64 0,.int .i64 0]),(188,[.string ByteArray.empty,.bool false,.int .i64 0,.pointer none]),(192,[.string ByteArray.empty,.int .i64 0,.bool false,.int .i64 0]),(194,[.int .u8 0,.int .u8 0,.int .u8 0,.int .u8 0,.int .u8 0,.int .u8 0,.int .u8 0,.int .u8 0,.int .u8 0,.int .u8 0,.int .u8 0,.int .u8 0,.int .u8 0,.int .u8 0,.int .u8 0,.int .u8 0,.int .u8 0,.int .u8 0,.int .u8 0,.int .u8 0,.int .u8 0,.int .u8 0,.int .u8 0,.int .u8 0]),(203,[.bool false,.bool false,.bool false,.bool false,.bool false,.bool false,.bool false,.bool false,.bool false,.bool false,.bool false,.bool false,.bool false,.bool false,.bool false,.bool false,.bool false,.bool false,.bool false,.bool false,.bool false,.bool false,.bool false,.bool false,.bool false,.bool false,.bool false,.bool false,.bool false,.bool false,.bool false,.bool false,.bool false,.bool false,.bool false,.bool false,.bool false,.bool false,.bool false,.bool false,.bool false,.bool false,.bool false,.bool false,.bool false,.bool false,.bool false,.bool false,.bool false,.bool false,.bool false,.bool false,.bool false,.bool false,.bool false,.bool false,.bool false,.bool false,.bool false,.bool false,.bool false,.bool false,.bool false,.bool false,.bool false,.bool false,.bool false,.bool false,.bool false,.bool false,.bool false,.bool false,.bool false,.bool false,.bool false,.bool false,.bool false,.bool false,.bool false,.bool false,.bool false,.bool false,.bool false,.bool false,.bool false,.bool false,.bool false,.bool false,.bool false,.bool false,.bool false,.bool false,.bool false,.bool false,.bool false,.bool false,.bool false,.bool false,.bool false,.bool false,.bool false,.bool false,.bool false,.bool false,.bool false,.bool false,.bool false,.bool false,.bool false,.bool false,.bool false,.bool false,.bool false,.bool false,.bool false,.bool false,.bool false,.bool false,.bool false,.bool false,.bool false,.bool false,.bool false,.bool false,.bool false,.bool false,.bool false,.bool false,.bool false,.bool false,.bool false,.bool false,.bool false,.bool false,.bool false,.bool false,.bool false,.bool false,.bool false,.bool false,.bool false,.bool false,.bool false,.bool false,.bool false,.bool false,.bool false,.bool false,.bool false,.bool false,.bool false,.bool false,.bool false,.bool false,.bool false,.bool false,.bool false,.bool false,.bool false,.bool false,.bool false,.bool false,.bool false,.bool false,.bool false,.bool false,.bool false,.bool false,.bool false,.bool false,.bool false,.bool false,.bool false,.bool false,.bool false,.bool false,.bool false,.bool false,.bool false,.bool false,.bool false,.bool false,.bool false,.bool false,.bool false,.bool false,.bool false,.bool false,.bool false,.bool false,.bool false,.bool false,.bool false,.bool false,.bool false,.bool false,.bool false,.bool false,.bool false,.bool false,.bool false,.bool false,.bool false,.bool false,.bool false,.bool false,.bool false,.bool false,.bool false,.bool false,.bool false,.bool false,.bool false,.bool false,.bool false,.bool false,.bool false,.bool false,.bool false,.bool false,.bool false,.bool false,.bool false,.bool false,.bool false,.bool false,.bool false,.bool false,.bool false,.bool false,.bool false,.bool false,.bool false,.bool false,.bool false,.bool false,.bool false,.bool false,.bool false,.bool false,.bool false,.bool false,.bool false,.bool false,.bool false,.bool false,.bool false,.bool false,.bool false,.bool false,.bool false,.bool false,.bool false,.bool false,.bool false,.bool false]),(212,[.map none,.int .i64 0]),(232,[.int .u8 0,.int .u8 0,.int .u8 0,.int .u8 0,.int .u8 0,.int .u8 0,.int .u8 0,.int .u8 0,.int .u8 0,.int .u8 0,.int .u8 0,.int .u8 0,.int .u8 0,.int .u8 0,.int .u8 0,.int .u8 0,.int .u8 0,.int .u8 0,.int .u8 0,.int .u8 0,.int .u8 0,.int .u8 0,.int .u8 0,.int .u8 0,.int .u8 0,.int .u8 0,.int .u8 0,.int .u8 0,.int .u8 0,.int .u8 0,.int .u8 0,.int .u8 0,.int .u8 0,.int .u8 0,.int .u8 0,.int .u8 0,.int .u8 0,.int .u8 0,.int .u8 0,.int .u8 0,.int .u8 0,.int .u8 0,.int .u8 0,.int .u8 0,.int .u8 0,.int .u8 0,.int .u8 0,.int .u8 0,.int .u8 0,.int .u8 0,.int .u8 0,.int .u8 0,.int .u8 0,.int .u8 0,.int .u8 0,.int .u8 0,.int .u8 0,.int .u8 0,.int .u8 0,.int .u8 0,.int .u8 0,.int .u8 0,.int .u8 0,.int .u8 0,.int .u8 0]),(256,[.string ByteArray.empty,.string ByteArray.empty,.nilIface]),(264,[.int .u8 0,.int .u8 0]),(271,[.string ByteArray.empty]),(280,[.int .u64 0])]
  fld:=[(25,[(0,0),(1,1),(2,2),(3,3),(4,4)]),(45,[(0,0),(1,1),(2,6)]),(48,[(0,0),(1,1),(2,2),(3,3),(4,8),(5,13),(6,14),(7,15),(8,22)]),(62,[(0,0),(1,1)]),(69,[(0,0),(1,1)]),(77,[(0,0),(1,1),(2,2)]),(82,[(0,0),(1,1)]),(86,[(0,0),(1,1)]),(89,[(0,0),(1,1),(2,6),(3,7)]),(91,[(0,0),(1,1),(2,6),(3,7)]),(95,[(0,0)]),(99,[(0,0),(1,1)]),(107,[(0,0),(1,1),(2,2),(3,3)]),(127,[(0,0),(1,1)]),(132,[(0,0),(1,1)]),(137,[(0,0)]),(142,[(0,0),(1,1)]),(148,[(0,0),(1,1),(2,2)]),(155,[(0,0),(1,1),(2,2),(3,3),(4,4)]),(188,[(0,0),(1,1),(2,2),(3,3)]),(192,[(0,0),(1,1),(2,2),(3,3)]),(212,[(0,0),(1,1)]),(264,[(0,0),(1,1)])]
  places:=[(25,[(0,1),(1,1),(2,1),(3,1),(4,1)]),(48,[(0,1),(1,1),(2,1),(3,5),(8,5),(13,1),(14,1),(15,7),(22,1)]),(69,[(0,1),(1,1)]),(77,[(0,1),(1,1),(2,1)]),(82,[(0,1),(1,1)]),(86,[(0,1),(1,5)]),(89,[(0,1),(1,5),(6,1),(7,1)]),(91,[(0,1),(1,5),(6,1),(7,8)]),(95,[(0,2)]),(99,[(0,1),(1,1)]),(107,[(0,1),(1,1),(2,1),(3,1)]),(119,[(0,1),(1,1),(2,1),(3,1),(4,1),(5,1),(6,1),(7,1)]),(127,[(0,1),(1,1)]),(132,[(0,1),(1,1)]),(137,[(0,1),(1,1)]),(142,[(0,1),(1,1)]),(144,[(0,1),(1,1),(2,1),(3,1),(4,1)]),(148,[(0,1),(1,1),(2,8)]),(155,[(0,1),(1,1),(2,1),(3,1),(4,1)]),(156,[(0,5),(5,5),(10,5),(15,5),(20,5),(25,5),(30,5),(35,5),(40,5),(45,5),(50,5),(55,5),(60,5)]),(188,[(0,1),(1,1),(2,1),(3,1)]),(192,[(0,1),(1,1),(2,1),(3,1)]),(212,[(0,1),(1,1)]),(256,[(0,1),(1,1),(2,1)]),(271,[(0,1)])]
  elem:=[(3,(1,8)),(5,(1,1)),(9,(1,16)),(25,(5,80)),(82,(2,32)),(86,(6,96)),(91,(15,224)),(132,(2,24)),(142,(2,16)),(148,(10,144))]
  arr:=[(156,(13,5)),(194,(24,1)),(203,(256,1)),(230,(20,1)),(232,(65,1)),(260,(32,1)),(261,(64,1)),(262,(256,1)),(265,(16,2))]
  mp:=[(210,(true,.one (.d (.v (.int .i64 0)))))]
  ints:=[(2,.i64),(3,.i64),(5,.u8),(21,.i32),(195,.u64),(231,.u32),(234,.u64),(280,.u64)]
  strs:=[(9,())]
  bools:=[(4,())]
  pairs:=[(142,())]
  fns:=[]
  stc:=[(69,())]
  ifc:=[(20,()),(114,())]
  ars:=[(119,8),(144,5)]
  fdv:=[(69,[(0,0)]),(137,[(0,0)])]
  byt:=[(60,())]
 }
theorem QC:tabs.OK Tryz.prog where
 agg:=⟨(show _=_ by kernel_rfl),(show _=_ by kernel_rfl),(show _=_ by kernel_rfl),(show _=_ by kernel_rfl),(show _=_ by kernel_rfl),(show _=_ by kernel_rfl),(show _=_ by kernel_rfl),(show _=_ by kernel_rfl),(show _=_ by kernel_rfl),(show _=_ by kernel_rfl),(show _=_ by kernel_rfl),(show _=_ by kernel_rfl),(show _=_ by kernel_rfl),(show _=_ by kernel_rfl),(show _=_ by kernel_rfl),(show _=_ by kernel_rfl),(show _=_ by kernel_rfl),(show _=_ by kernel_rfl),(show _=_ by kernel_rfl),(show _=_ by kernel_rfl),(show _=_ by kernel_rfl),(show _=_ by kernel_rfl),(show _=_ by kernel_rfl),(show _=_ by kernel_rfl),(show _=_ by kernel_rfl),(show _=_ by kernel_rfl),(show _=_ by kernel_rfl),(show _=_ by kernel_rfl),(show _=_ by kernel_rfl),(show _=_ by kernel_rfl),(show _=_ by kernel_rfl),(show _=_ by kernel_rfl),(show _=_ by kernel_rfl),(show _=_ by kernel_rfl),(show _=_ by kernel_rfl),(show _=_ by kernel_rfl),(show _=_ by kernel_rfl),(show _=_ by kernel_rfl),(show _=_ by kernel_rfl),(show _=_ by kernel_rfl),(show _=_ by kernel_rfl),(show _=_ by kernel_rfl),(show _=_ by kernel_rfl),trivial⟩
 sl:=⟨(show _=_ by kernel_rfl),(show _=_ by kernel_rfl),(show _=_ by kernel_rfl),(show _=_ by kernel_rfl),(show _=_ by kernel_rfl),(show _=_ by kernel_rfl),(show _=_ by kernel_rfl),(show _=_ by kernel_rfl),(show _=_ by kernel_rfl),(show _=_ by kernel_rfl),trivial⟩
 zero:=⟨⟨(show _=_ by kernel_rfl),(show _=_ by kernel_rfl)⟩,⟨(show _=_ by kernel_rfl),(show _=_ by kernel_rfl)⟩,⟨(show _=_ by kernel_rfl),(show _=_ by kernel_rfl)⟩,⟨(show _=_ by kernel_rfl),(show _=_ by kernel_rfl)⟩,⟨(show _=_ by kernel_rfl),(show _=_ by kernel_rfl)⟩,⟨(show _=_ by kernel_rfl),(show _=_ by kernel_rfl)⟩,⟨(show _=_ by kernel_rfl),(show _=_ by kernel_rfl)⟩,⟨(show _=_ by kernel_rfl),(show _=_ by kernel_rfl)⟩,⟨(show _=_ by kernel_rfl),(show _=_ by kernel_rfl)⟩,⟨(show _=_ by kernel_rfl),(show _=_ by kernel_rfl)⟩,⟨(show _=_ by kernel_rfl),(show _=_ by kernel_rfl)⟩,⟨(show _=_ by kernel_rfl),(show _=_ by kernel_rfl)⟩,⟨(show _=_ by kernel_rfl),(show _=_ by kernel_rfl)⟩,⟨(show _=_ by kernel_rfl),(show _=_ by kernel_rfl)⟩,⟨(show _=_ by kernel_rfl),(show _=_ by kernel_rfl)⟩,⟨(show _=_ by kernel_rfl),(show _=_ by kernel_rfl)⟩,⟨(show _=_ by kernel_rfl),(show _=_ by kernel_rfl)⟩,⟨(show _=_ by kernel_rfl),(show _=_ by kernel_rfl)⟩,⟨(show _=_ by kernel_rfl),(show _=_ by kernel_rfl)⟩,⟨(show _=_ by kernel_rfl),(show _=_ by kernel_rfl)⟩,⟨(show _=_ by kernel_rfl),(show _=_ by kernel_rfl)⟩,⟨(show _=_ by kernel_rfl),(show _=_ by kernel_rfl)⟩,⟨(show _=_ by kernel_rfl),(show _=_ by kernel_rfl)⟩,⟨(show _=_ by kernel_rfl),(show _=_ by kernel_rfl)⟩,⟨(show _=_ by kernel_rfl),(show _=_ by kernel_rfl)⟩,⟨(show _=_ by kernel_rfl),(show _=_ by kernel_rfl)⟩,⟨(show _=_ by kernel_rfl),(show _=_ by kernel_rfl)⟩,⟨(show _=_ by kernel_rfl),(show _=_ by kernel_rfl)⟩,⟨(show _=_ by kernel_rfl),(show _=_ by kernel_rfl)⟩,⟨(show _=_ by kernel_rfl),(show _=_ by kernel_rfl)⟩,⟨(show _=_ by kernel_rfl),(show _=_ by kernel_rfl)⟩,⟨(show _=_ by kernel_rfl),(show _=_ by kernel_rfl)⟩,⟨(show _=_ by kernel_rfl),(show _=_ by kernel_rfl)⟩,⟨(show _=_ by kernel_rfl),(show _=_ by kernel_rfl)⟩,⟨(show _=_ by kernel_rfl),(show _=_ by kernel_rfl)⟩,⟨(show _=_ by kernel_rfl),(show _=_ by kernel_rfl)⟩,⟨(show _=_ by kernel_rfl),(show _=_ by kernel_rfl)⟩,⟨(show _=_ by kernel_rfl),(show _=_ by kernel_rfl)⟩,trivial⟩
 fld:=⟨⟨(show _=_ by kernel_rfl),(show _=_ by kernel_rfl),(show _=_ by kernel_rfl),(show _=_ by kernel_rfl),(show _=_ by kernel_rfl),trivial⟩,⟨(show _=_ by kernel_rfl),(show _=_ by kernel_rfl),(show _=_ by kernel_rfl),trivial⟩,⟨(show _=_ by kernel_rfl),(show _=_ by kernel_rfl),(show _=_ by kernel_rfl),(show _=_ by kernel_rfl),(show _=_ by kernel_rfl),(show _=_ by kernel_rfl),(show _=_ by kernel_rfl),(show _=_ by kernel_rfl),(show _=_ by kernel_rfl),trivial⟩,⟨(show _=_ by kernel_rfl),(show _=_ by kernel_rfl),trivial⟩,⟨(show _=_ by kernel_rfl),(show _=_ by kernel_rfl),trivial⟩,⟨(show _=_ by kernel_rfl),(show _=_ by kernel_rfl),(show _=_ by kernel_rfl),trivial⟩,⟨(show _=_ by kernel_rfl),(show _=_ by kernel_rfl),trivial⟩,⟨(show _=_ by kernel_rfl),(show _=_ by kernel_rfl),trivial⟩,⟨(show _=_ by kernel_rfl),(show _=_ by kernel_rfl),(show _=_ by kernel_rfl),(show _=_ by kernel_rfl),trivial⟩,⟨(show _=_ by kernel_rfl),(show _=_ by kernel_rfl),(show _=_ by kernel_rfl),(show _=_ by kernel_rfl),trivial⟩,⟨(show _=_ by kernel_rfl),trivial⟩,⟨(show _=_ by kernel_rfl),(show _=_ by kernel_rfl),trivial⟩,⟨(show _=_ by kernel_rfl),(show _=_ by kernel_rfl),(show _=_ by kernel_rfl),(show _=_ by kernel_rfl),trivial⟩,⟨(show _=_ by kernel_rfl),(show _=_ by kernel_rfl),trivial⟩,⟨(show _=_ by kernel_rfl),(show _=_ by kernel_rfl),trivial⟩,⟨(show _=_ by kernel_rfl),trivial⟩,⟨(show _=_ by kernel_rfl),(show _=_ by kernel_rfl),trivial⟩,⟨(show _=_ by kernel_rfl),(show _=_ by kernel_rfl),(show _=_ by kernel_rfl),trivial⟩,⟨(show _=_ by kernel_rfl),(show _=_ by kernel_rfl),(show _=_ by kernel_rfl),(show _=_ by kernel_rfl),(show _=_ by kernel_rfl),trivial⟩,⟨(show _=_ by kernel_rfl),(show _=_ by kernel_rfl),(show _=_ by kernel_rfl),(show _=_ by kernel_rfl),trivial⟩,⟨(show _=_ by kernel_rfl),(show _=_ by kernel_rfl),(show _=_ by kernel_rfl),(show _=_ by kernel_rfl),trivial⟩,⟨(show _=_ by kernel_rfl),(show _=_ by kernel_rfl),trivial⟩,⟨(show _=_ by kernel_rfl),(show _=_ by kernel_rfl),trivial⟩,trivial⟩
 places:=⟨(show _=_ by kernel_rfl),(show _=_ by kernel_rfl),(show _=_ by kernel_rfl),(show _=_ by kernel_rfl),(show _=_ by kernel_rfl),(show _=_ by kernel_rfl),(show _=_ by kernel_rfl),(show _=_ by kernel_rfl),(show _=_ by kernel_rfl),(show _=_ by kernel_rfl),(show _=_ by kernel_rfl),(show _=_ by kernel_rfl),(show _=_ by kernel_rfl),(show _=_ by kernel_rfl),(show _=_ by kernel_rfl),(show _=_ by kernel_rfl),(show _=_ by kernel_rfl),(show _=_ by kernel_rfl),(show _=_ by kernel_rfl),(show _=_ by kernel_rfl),(show _=_ by kernel_rfl),(show _=_ by kernel_rfl),(show _=_ by kernel_rfl),(show _=_ by kernel_rfl),(show _=_ by kernel_rfl),trivial⟩
 elem:=⟨(show _=_ by kernel_rfl),(show _=_ by kernel_rfl),(show _=_ by kernel_rfl),(show _=_ by kernel_rfl),(show _=_ by kernel_rfl),(show _=_ by kernel_rfl),(show _=_ by kernel_rfl),(show _=_ by kernel_rfl),(show _=_ by kernel_rfl),(show _=_ by kernel_rfl),trivial⟩
 arr:=⟨(show _=_ by kernel_rfl),(show _=_ by kernel_rfl),(show _=_ by kernel_rfl),(show _=_ by kernel_rfl),(show _=_ by kernel_rfl),(show _=_ by kernel_rfl),(show _=_ by kernel_rfl),(show _=_ by kernel_rfl),(show _=_ by kernel_rfl),trivial⟩
 mp:=⟨(show _=_ by kernel_rfl),trivial⟩
 ints:=⟨(show _=_ by kernel_rfl),(show _=_ by kernel_rfl),(show _=_ by kernel_rfl),(show _=_ by kernel_rfl),(show _=_ by kernel_rfl),(show _=_ by kernel_rfl),(show _=_ by kernel_rfl),(show _=_ by kernel_rfl),trivial⟩
 strs:=⟨(show _=_ by kernel_rfl),trivial⟩
 bools:=⟨(show _=_ by kernel_rfl),trivial⟩
 pairs:=⟨(show _=_ by kernel_rfl),trivial⟩
 fns:=trivial
 stc:=⟨(show _=_ by kernel_rfl),trivial⟩
 ifc:=⟨(show _=_ by kernel_rfl),(show _=_ by kernel_rfl),trivial⟩
 ars:=⟨(show _=_ by kernel_rfl),(show _=_ by kernel_rfl),trivial⟩
 fdv:=⟨⟨(show _=_ by kernel_rfl),trivial⟩,⟨(show _=_ by kernel_rfl),trivial⟩,trivial⟩
 byt:=⟨(show _=_ by kernel_rfl),trivial⟩
 mixed:=by kernel_rfl
end
noncomputable section
open Go.RowKit
inductive Tcd where
 | t3
 | t4
 | t5
 | t9
 | t82
 | t142
 | t132
 | t137
 | t127
 | t99
 | t69
 | t77
 | t107
 | t25
 | t155
 | t86
 | t45
 | t89
 | t148
 | t91
 | t48
def Qr9:Tcd→Type
 | .t3=>Int
 | .t4=>Bool
 | .t5=>Byt
 | .t9=>(List UInt8)
 | .t82=>Lvl
 | .t142=>Qrf
 | .t132=>Tkn
 | .t137=>Tkn
 | .t127=>Rdr
 | .t99=>RWr
 | .t69=>Rfd
 | .t77=>RRd
 | .t107=>Scp
 | .t25=>Tm
 | .t155=>Use
 | .t86=>Ctr
 | .t45=>Rcr
 | .t89=>Tr
 | .t148=>Qrm
 | .t91=>Fn
 | .t48=>Dcl
def eqT:(a b:Tcd)→Option (PLift (a=b))
 | .t3,.t3=>some ⟨rfl⟩
 | .t4,.t4=>some ⟨rfl⟩
 | .t5,.t5=>some ⟨rfl⟩
 | .t9,.t9=>some ⟨rfl⟩
 | .t82,.t82=>some ⟨rfl⟩
 | .t142,.t142=>some ⟨rfl⟩
 | .t132,.t132=>some ⟨rfl⟩
 | .t137,.t137=>some ⟨rfl⟩
 | .t127,.t127=>some ⟨rfl⟩
 | .t99,.t99=>some ⟨rfl⟩
 | .t69,.t69=>some ⟨rfl⟩
 | .t77,.t77=>some ⟨rfl⟩
 | .t107,.t107=>some ⟨rfl⟩
 | .t25,.t25=>some ⟨rfl⟩
 | .t155,.t155=>some ⟨rfl⟩
 | .t86,.t86=>some ⟨rfl⟩
 | .t45,.t45=>some ⟨rfl⟩
 | .t89,.t89=>some ⟨rfl⟩
 | .t148,.t148=>some ⟨rfl⟩
 | .t91,.t91=>some ⟨rfl⟩
 | .t48,.t48=>some ⟨rfl⟩
 | _,_=>none
@[reducible] def encT:(t:Tcd)→Enc (Qr9 t)
 | .t3=>inferInstanceAs (Enc Int)
 | .t4=>inferInstanceAs (Enc Bool)
 | .t5=>inferInstanceAs (Enc Byt)
 | .t9=>inferInstanceAs (Enc ((List UInt8)))
 | .t82=>inferInstanceAs (Enc Lvl)
 | .t142=>inferInstanceAs (Enc Qrf)
 | .t132=>inferInstanceAs (Enc Tkn)
 | .t137=>inferInstanceAs (Enc Tkn)
 | .t127=>inferInstanceAs (Enc Rdr)
 | .t99=>inferInstanceAs (Enc RWr)
 | .t69=>inferInstanceAs (Enc Rfd)
 | .t77=>inferInstanceAs (Enc RRd)
 | .t107=>inferInstanceAs (Enc Scp)
 | .t25=>inferInstanceAs (Enc Tm)
 | .t155=>inferInstanceAs (Enc Use)
 | .t86=>inferInstanceAs (Enc Ctr)
 | .t45=>inferInstanceAs (Enc Rcr)
 | .t89=>inferInstanceAs (Enc Tr)
 | .t148=>inferInstanceAs (Enc Qrm)
 | .t91=>inferInstanceAs (Enc Fn)
 | .t48=>inferInstanceAs (Enc Dcl)
abbrev UV:Univ:=⟨Tcd,Qr9,eqT,encT⟩
def Qpp:(t:Tcd)→Qr9 t→List (TC UV)
 | .t3,x=>[.v (.int .i64 (x))]
 | .t4,x=>[.v (.bool (x))]
 | .t5,x=>[.v (.int .u8 (x.n))]
 | .t9,x=>[.str (x)]
 | .t82,x=>[.v (.int .i64 (x.c)),.sl .t142 (x.vs)]
 | .t142,x=>[.v (.int .i64 (x.1)),.v (.int .i64 (x.2))]
 | .t132,x=>[.str (x.text),.v (.int .i64 (x.at_))]
 | .t137,x=>[.str (x.text),.v (.int .i64 (x.at_))]
 | .t127,x=>[.sl .t132 (x.l),.v (.int .i64 (x.n))]
 | .t99,x=>[.str (x.s),.v (.int .i64 (x.e))]
 | .t69,x=>[.v (.int .i64 (x.e)),.v (.int .i64 (x.at_))]
 | .t77,x=>[.str (x.s),.v (.int .i64 (x.at_)),.v (.bool (x.bad))]
 | .t107,x=>[.v (.int .i64 (x.vars)),.v (.int .i64 (x.params)),.v (.int .i64 (x.metas)),.v (.int .i64 (x.levels))]
 | .t25,x=>[.v (.int .i64 (x.kind)),.v (.int .i64 (x.index)),.str (x.name),.sl .t82 (x.levels),.sl .t25 (x.kids)]
 | .t155,x=>[.v (.bool (x.index)),.v (.bool (x.name)),.v (.int .i64 (x.levels)),.v (.int .i64 (x.kids)),.v (.int .i64 (x.below))]
 | .t86,x=>[.str (x.name),.v (.int .i64 (x.ty.kind)),.v (.int .i64 (x.ty.index)),.str (x.ty.name),.sl .t82 (x.ty.levels),.sl .t25 (x.ty.kids)]
 | .t45,x=>[.v (.int .i64 (x.params)),.v (.int .i64 (x.ty.kind)),.v (.int .i64 (x.ty.index)),.str (x.ty.name),.sl .t82 (x.ty.levels),.sl .t25 (x.ty.kids),.sl .t25 (x.rules)]
 | .t89,x=>[.v (.int .i64 (x.kind)),.v (.int .i64 (x.body.kind)),.v (.int .i64 (x.body.index)),.str (x.body.name),.sl .t82 (x.body.levels),.sl .t25 (x.body.kids),.v (.int .i64 (x.var)),.sl .t148 (x.branches)]
 | .t148,x=>[.str (x.ctor),.v (.bool (x.absurd)),.v (.int .i64 (x.tree.kind)),.v (.int .i64 (x.tree.body.kind)),.v (.int .i64 (x.tree.body.index)),.str (x.tree.body.name),.sl .t82 (x.tree.body.levels),.sl .t25 (x.tree.body.kids),.v (.int .i64 (x.tree.var)),.sl .t148 (x.tree.branches)]
 | .t91,x=>[.str (x.name),.v (.int .i64 (x.ty.kind)),.v (.int .i64 (x.ty.index)),.str (x.ty.name),.sl .t82 (x.ty.levels),.sl .t25 (x.ty.kids),.v (.int .i64 (x.arity)),.v (.int .i64 (x.tree.kind)),.v (.int .i64 (x.tree.body.kind)),.v (.int .i64 (x.tree.body.index)),.str (x.tree.body.name),.sl .t82 (x.tree.body.levels),.sl .t25 (x.tree.body.kids),.v (.int .i64 (x.tree.var)),.sl .t148 (x.tree.branches)]
 | .t48,x=>[.v (.int .i64 (x.kind)),.str (x.name),.v (.int .i64 (x.params)),.v (.int .i64 (x.ty.kind)),.v (.int .i64 (x.ty.index)),.str (x.ty.name),.sl .t82 (x.ty.levels),.sl .t25 (x.ty.kids),.v (.int .i64 (x.value.kind)),.v (.int .i64 (x.value.index)),.str (x.value.name),.sl .t82 (x.value.levels),.sl .t25 (x.value.kids),.v (.int .i64 (x.fixed)),.sl .t86 (x.ctors),.v (.int .i64 (x.rcr.params)),.v (.int .i64 (x.rcr.ty.kind)),.v (.int .i64 (x.rcr.ty.index)),.str (x.rcr.ty.name),.sl .t82 (x.rcr.ty.levels),.sl .t25 (x.rcr.ty.kids),.sl .t25 (x.rcr.rules),.sl .t91 (x.funs)]
def Qno:(t:Tcd)→Qr9 t→Nat→Nat→Option (Sigma Qr9)
 | .t86,x,1,5=>some ⟨.t25,x.ty⟩
 | .t45,x,1,5=>some ⟨.t25,x.ty⟩
 | .t89,x,1,5=>some ⟨.t25,x.body⟩
 | .t148,x,2,8=>some ⟨.t89,x.tree⟩
 | .t148,x,3,5=>some ⟨.t25,x.tree.body⟩
 | .t91,x,1,5=>some ⟨.t25,x.ty⟩
 | .t91,x,7,8=>some ⟨.t89,x.tree⟩
 | .t91,x,8,5=>some ⟨.t25,x.tree.body⟩
 | .t48,x,3,5=>some ⟨.t25,x.ty⟩
 | .t48,x,8,5=>some ⟨.t25,x.value⟩
 | .t48,x,15,7=>some ⟨.t45,x.rcr⟩
 | .t48,x,16,5=>some ⟨.t25,x.rcr.ty⟩
 | _,_,_,_=>none
def Qlw:XF UV Lvl:=X9 (fun a=>(.mk a.1 a.2:Lvl)) (JW Ze (Qkz (U:=UV) .t142))
def Qio:XF UV Qrf:=X9 (fun a=>((a.1,a.2):Qrf)) (JW Ze Ze)
def Qiq:XF UV Tkn:=X9 (fun a=>(.mk a.1 a.2:Tkn)) (JW Q1x Ze)
def Qip:XF UV Tkn:=X9 (fun a=>(.mk a.1 a.2:Tkn)) (JW Q1x Ze)
def Qir:XF UV Rdr:=X9 (fun a=>(.mk a.1 a.2:Rdr)) (JW (Qkz (U:=UV) .t132) Ze)
def Qlt:XF UV RWr:=X9 (fun a=>(.mk a.1 a.2:RWr)) (JW Q1x Ze)
def Qly:XF UV Rfd:=X9 (fun a=>(.mk a.1 a.2:Rfd)) (JW Ze Ze)
def Qlx:XF UV RRd:=X9 (fun a=>(.mk a.1 a.2.1 a.2.2:RRd)) (JW Q1x (JW Ze Q3d))
def Qis:XF UV Scp:=X9 (fun a=>(.mk a.1 a.2.1 a.2.2.1 a.2.2.2:Scp)) (JW Ze (JW Ze (JW Ze Ze)))
def Q19:XF UV Tm:=X9 (fun a=>(.mk a.1 a.2.1 a.2.2.1 a.2.2.2.1 a.2.2.2.2:Tm)) (JW Ze (JW Ze (JW Q1x (JW (Qkz (U:=UV) .t82) (Qkz (U:=UV) .t25)))))
def Qim:XF UV Use:=X9 (fun a=>(.mk a.1 a.2.1 a.2.2.1 a.2.2.2.1 a.2.2.2.2:Use)) (JW Q3d (JW Q3d (JW Ze (JW Ze Ze))))
def Qlv:XF UV Ctr:=X9 (fun a=>(.mk a.1 a.2:Ctr)) (JW Q1x (Q3c (U:=UV) .t25 Q19))
def Qil:XF UV Rcr:=X9 (fun a=>(.mk a.1 a.2.1 a.2.2:Rcr)) (JW Ze (JW (Q3c (U:=UV) .t25 Q19) (Qkz (U:=UV) .t25)))
def Qf8:XF UV Tr:=X9 (fun a=>(.mk a.1 a.2.1 a.2.2.1 a.2.2.2:Tr)) (JW Ze (JW (Q3c (U:=UV) .t25 Q19) (JW Ze (Qkz (U:=UV) .t148))))
def Qin:XF UV Qrm:=X9 (fun a=>(.mk a.1 a.2.1 a.2.2:Qrm)) (JW Q1x (JW Q3d (Q3c (U:=UV) .t89 Qf8)))
def Qlu:XF UV Fn:=X9 (fun a=>(.mk a.1 a.2.1 a.2.2.1 a.2.2.2:Fn)) (JW Q1x (JW (Q3c (U:=UV) .t25 Q19) (JW Ze (Q3c (U:=UV) .t89 Qf8))))
def Qlz:XF UV Dcl:=X9 (fun a=>(.mk a.1 a.2.1 a.2.2.1 a.2.2.2.1 a.2.2.2.2.1 a.2.2.2.2.2.1 a.2.2.2.2.2.2.1 a.2.2.2.2.2.2.2.1 a.2.2.2.2.2.2.2.2:Dcl)) (JW Ze (JW Q1x (JW Ze (JW (Q3c (U:=UV) .t25 Q19) (JW (Q3c (U:=UV) .t25 Q19) (JW Ze (JW (Qkz (U:=UV) .t86) (JW (Q3c (U:=UV) .t45 Qil) (Qkz (U:=UV) .t91)))))))))
def bldS:(t:Tcd)→List (It UV)→Option (Qr9 t)
 | .t3,xs=>KJ (α:=Int) Ze xs
 | .t4,xs=>KJ (α:=Bool) Q3d xs
 | .t5,xs=>KJ (α:=Byt) Qmk xs
 | .t9,xs=>KJ (α:=(List UInt8)) Q1x xs
 | .t82,xs=>KJ (α:=Lvl) Qlw xs
 | .t142,xs=>KJ (α:=Qrf) Qio xs
 | .t132,xs=>KJ (α:=Tkn) Qiq xs
 | .t137,xs=>KJ (α:=Tkn) Qip xs
 | .t127,xs=>KJ (α:=Rdr) Qir xs
 | .t99,xs=>KJ (α:=RWr) Qlt xs
 | .t69,xs=>KJ (α:=Rfd) Qly xs
 | .t77,xs=>KJ (α:=RRd) Qlx xs
 | .t107,xs=>KJ (α:=Scp) Qis xs
 | .t25,xs=>KJ (α:=Tm) Q19 xs
 | .t155,xs=>KJ (α:=Use) Qim xs
 | .t86,xs=>KJ (α:=Ctr) Qlv xs
 | .t45,xs=>KJ (α:=Rcr) Qil xs
 | .t89,xs=>KJ (α:=Tr) Qf8 xs
 | .t148,xs=>KJ (α:=Qrm) Qin xs
 | .t91,xs=>KJ (α:=Fn) Qlu xs
 | .t48,xs=>KJ (α:=Dcl) Qlz xs
abbrev DV:Codec UV:=⟨Qpp,Qno,bldS⟩
theorem Gp:∀ (t:Tcd) (x:Qr9 t),(Qpp t x).map TC.er=(encT t).enc x
 | .t3,x=>by first | rfl | (cases x;rfl)
 | .t4,x=>by first | rfl | (cases x;rfl)
 | .t5,x=>by first | rfl | (cases x;rfl)
 | .t9,x=>by first | rfl | (cases x;rfl)
 | .t82,x=>by first | rfl | (cases x;rfl)
 | .t142,x=>by first | rfl | (cases x;rfl)
 | .t132,x=>by first | rfl | (cases x;rfl)
 | .t137,x=>by first | rfl | (cases x;rfl)
 | .t127,x=>by first | rfl | (cases x;rfl)
 | .t99,x=>by first | rfl | (cases x;rfl)
 | .t69,x=>by first | rfl | (cases x;rfl)
 | .t77,x=>by first | rfl | (cases x;rfl)
 | .t107,x=>by first | rfl | (cases x;rfl)
 | .t25,x=>by first | rfl | (cases x;rfl)
 | .t155,x=>by first | rfl | (cases x;rfl)
 | .t86,x=>by first | rfl | (cases x;rfl)
 | .t45,x=>by first | rfl | (cases x;rfl)
 | .t89,x=>by first | rfl | (cases x;rfl)
 | .t148,x=>by first | rfl | (cases x;rfl)
 | .t91,x=>by first | rfl | (cases x;rfl)
 | .t48,x=>by first | rfl | (cases x;rfl)
theorem hp82:Jc DV Qlw (encT .t82).enc:=JL (QE J3 (XV (U:=UV) .t142)) fun a=>rfl
theorem hp142:Jc DV Qio (encT .t142).enc:=JL (QE J3 J3) fun a=>rfl
theorem hp132:Jc DV Qiq (encT .t132).enc:=JL (QE ZR J3) fun a=>rfl
theorem hp137:Jc DV Qip (encT .t137).enc:=JL (QE ZR J3) fun a=>rfl
theorem hp127:Jc DV Qir (encT .t127).enc:=JL (QE (XV (U:=UV) .t132) J3) fun a=>rfl
theorem hp99:Jc DV Qlt (encT .t99).enc:=JL (QE ZR J3) fun a=>rfl
theorem hp69:Jc DV Qly (encT .t69).enc:=JL (QE J3 J3) fun a=>rfl
theorem hp77:Jc DV Qlx (encT .t77).enc:=JL (QE ZR (QE J3 XW)) fun a=>rfl
theorem hp107:Jc DV Qis (encT .t107).enc:=JL (QE J3 (QE J3 (QE J3 J3))) fun a=>rfl
theorem Qdr:Jc DV Q19 (encT .t25).enc:=JL (QE J3 (QE J3 (QE ZR (QE (XV (U:=UV) .t82) (XV (U:=UV) .t25))))) fun a=>rfl
theorem hp155:Jc DV Qim (encT .t155).enc:=JL (QE XW (QE XW (QE J3 (QE J3 J3)))) fun a=>rfl
theorem hp86:Jc DV Qlv (encT .t86).enc:=JL (QE ZR (Kj (U:=UV) (D:=DV) Gp Tcd.t25 (Qdr))) fun a=>rfl
theorem Qoj:Jc DV Qil (encT .t45).enc:=JL (QE J3 (QE (Kj (U:=UV) (D:=DV) Gp Tcd.t25 (Qdr)) (XV (U:=UV) .t25))) fun a=>rfl
theorem Qn0:Jc DV Qf8 (encT .t89).enc:=JL (QE J3 (QE (Kj (U:=UV) (D:=DV) Gp Tcd.t25 (Qdr)) (QE J3 (XV (U:=UV) .t148)))) fun a=>rfl
theorem hp148:Jc DV Qin (encT .t148).enc:=JL (QE ZR (QE XW (Kj (U:=UV) (D:=DV) Gp Tcd.t89 (Qn0)))) fun a=>rfl
theorem hp91:Jc DV Qlu (encT .t91).enc:=JL (QE ZR (QE (Kj (U:=UV) (D:=DV) Gp Tcd.t25 (Qdr)) (QE J3 (Kj (U:=UV) (D:=DV) Gp Tcd.t89 (Qn0))))) fun a=>rfl
theorem hp48:Jc DV Qlz (encT .t48).enc:=JL (QE J3 (QE ZR (QE J3 (QE (Kj (U:=UV) (D:=DV) Gp Tcd.t25 (Qdr)) (QE (Kj (U:=UV) (D:=DV) Gp Tcd.t25 (Qdr)) (QE J3 (QE (XV (U:=UV) .t86) (QE (Kj (U:=UV) (D:=DV) Gp Tcd.t45 (Qoj)) (XV (U:=UV) .t91))))))))) fun a=>rfl
theorem Ql:DV.OK where
 fl:=Gp
 sz:=fun t x=>by cases t <;> first | rfl | (cases x;rfl)
 sub:=fun t x off n t' x' h=>by
  unfold Codec.sub at h
  dsimp only [DV] at h
  unfold Qno at h
  split at h
  all_goals (cases h;try exact ⟨rfl,rfl⟩)
 bld:=fun tk t xs x h=>by
  cases t with
  | t3=>exact Jm (D:=DV) J3 tk xs x h
  | t4=>exact Jm (D:=DV) XW tk xs x h
  | t5=>exact Jm (D:=DV) pByt_ok tk xs x h
  | t9=>exact Jm (D:=DV) ZR tk xs x h
  | t82=>exact Jm (D:=DV) hp82 tk xs x h
  | t142=>exact Jm (D:=DV) hp142 tk xs x h
  | t132=>exact Jm (D:=DV) hp132 tk xs x h
  | t137=>exact Jm (D:=DV) hp137 tk xs x h
  | t127=>exact Jm (D:=DV) hp127 tk xs x h
  | t99=>exact Jm (D:=DV) hp99 tk xs x h
  | t69=>exact Jm (D:=DV) hp69 tk xs x h
  | t77=>exact Jm (D:=DV) hp77 tk xs x h
  | t107=>exact Jm (D:=DV) hp107 tk xs x h
  | t25=>exact Jm (D:=DV) Qdr tk xs x h
  | t155=>exact Jm (D:=DV) hp155 tk xs x h
  | t86=>exact Jm (D:=DV) hp86 tk xs x h
  | t45=>exact Jm (D:=DV) Qoj tk xs x h
  | t89=>exact Jm (D:=DV) Qn0 tk xs x h
  | t148=>exact Jm (D:=DV) hp148 tk xs x h
  | t91=>exact Jm (D:=DV) hp91 tk xs x h
  | t48=>exact Jm (D:=DV) hp48 tk xs x h
def Qpf:BytOf UV where
 t:=.t5
 bs:=fun s=>(s.map fun b=>(⟨b.toNat⟩:Byt):List Byt)
 sz:=rfl
 ok:=fun l s=>by
  have h:∀ (l:List Byt),(l++s.map fun b=>(⟨b.toNat⟩:Byt)).map bytC=l.map bytC++Qqw s:=fun l=>by rw [Cr,CI];rfl
  exact h l
 sb:=fun l=>(l:List Byt).map Byt.u8
 back:=fun l=>⟨l,rfl,rfl⟩
abbrev Qrk:TCfg UV:=⟨tabs,[(3,.t3),(4,.t4),(5,.t5),(9,.t9),(82,.t82),(142,.t142),(132,.t132),(137,.t137),(127,.t127),(99,.t99),(69,.t69),(77,.t77),(107,.t107),(25,.t25),(155,.t155),(86,.t86),(45,.t45),(89,.t89),(148,.t148),(91,.t91),(48,.t48)],some Qpf⟩
end
noncomputable section
open Go.RowKit
inductive PK where
 | p0 (T:TypeId)
 | p1 (T:TypeId)
 | p2 (T:TypeId)
 | num (T:TypeId)
def PK.Ty:PK→Type
 | .p0 _=>Unit
 | .p1 _=>Int
 | .p2 _=>Int×Int
 | .num _=>Int
def Q23:(k:PK)→k.Ty→Value
 | .p0 T,_=>.iface T (.agg #[])
 | .p1 T,a=>.iface T (.agg #[.int .i64 a])
 | .p2 T,a=>.iface T (.agg #[.int .i64 a.1,.int .i64 a.2])
 | .num T,a=>.iface T (.int .i64 a)
def Qgf:List Value→Option (List Int)
 | []=>some []
 | v::r=>match v with
  | .int .i64 a=>match Qgf r with
   | some l=>some (a::l)
   | none=>none
  | _=>none
def Qma (T:TypeId):(k:PK)→List Int→Option k.Ty
 | .p0 T',[]=>cond (Nat.beq T T') (some ()) none
 | .p1 T',[a]=>cond (Nat.beq T T') (some a) none
 | .p2 T',[a,b]=>cond (Nat.beq T T') (some (a,b)) none
 | _,_=>none
def Qk9 (T:TypeId) (k:PK) (us:List Value):Option k.Ty:=match Qgf us with
 | some l=>Qma T k l
 | none=>none
def Qm9 (T:TypeId) (a:Int):(k:PK)→Option k.Ty
 | .num T'=>cond (Nat.beq T T') (some a) none
 | _=>none
def Qlf (k:PK):Value→Option k.Ty
 | .iface T (.agg us)=>Qk9 T k us.toList
 | .iface T (.int .i64 a)=>Qm9 T a k
 | _=>none
theorem Qgy {α:Type} {T T':Nat} {x e:α} (h:cond (Nat.beq T T') (some x) none=some e):T=T'∧x=e:=by
 cases hb:Nat.beq T T' with
 | false=>rw [hb] at h;cases h
 | true=>rw [hb] at h;cases h;exact ⟨C4 hb,rfl⟩
theorem Qbo:∀ {us:List Value} {l:List Int},Qgf us=some l→us=l.map fun a=>.int .i64 a
 | [],l,h=>by cases h;rfl
 | v::r,l,h=>by
  unfold Qgf at h
  split at h
  ·split at h
   ·rename_i l' hl;cases h;rw [Qbo hl];rfl
   ·cases h
  ·cases h
theorem decPI_ok {T:TypeId} {k:PK} {l:List Int} {e:k.Ty} (h:Qma T k l=some e):Value.iface T (.agg (l.map fun a=>.int .i64 a).toArray)=Q23 k e:=by
 cases k with
 | p0 T' =>
  cases l with
  | nil=>obtain ⟨h1,h2⟩:=Qgy (show cond (Nat.beq T T') (some ()) none=some e from h);subst h1;rfl
  | cons x us=>cases h
 | p1 T' =>
  cases l with
  | nil=>cases h
  | cons a l =>
   cases l with
   | nil=>obtain ⟨h1,h2⟩:=Qgy (show cond (Nat.beq T T') (some a) none=some e from h);subst h1;subst h2;rfl
   | cons b l=>cases h
 | p2 T' =>
  cases l with
  | nil=>cases h
  | cons a l =>
   cases l with
   | nil=>cases h
   | cons b l =>
    cases l with
    | nil=>obtain ⟨h1,h2⟩:=Qgy (show cond (Nat.beq T T') (some (a,b)) none=some e from h);subst h1;subst h2;rfl
    | cons c l=>cases h
 | num T'=>cases l <;> cases h
theorem decPL_ok {T:TypeId} {k:PK} {us:List Value} {e:k.Ty} (h:Qk9 T k us=some e):Value.iface T (.agg us.toArray)=Q23 k e:=by
 unfold Qk9 at h
 split at h
 ·rename_i l hl;rw [Qbo hl];exact decPI_ok h
 ·cases h
theorem decPN_ok {T:TypeId} {k:PK} {a:Int} {e:k.Ty} (h:Qm9 T a k=some e):Value.iface T (.int .i64 a)=Q23 k e:=by
 cases k with
 | num T'=>obtain ⟨h1,h2⟩:=Qgy (show cond (Nat.beq T T') (some a) none=some e from h);subst h1;subst h2;rfl
 | p0 T'=>cases h
 | p1 T'=>cases h
 | p2 T'=>cases h
theorem Qgv {k:PK} {v:Value} {e:k.Ty} (h:Qlf k v=some e):v=Q23 k e:=by
 unfold Qlf at h
 split at h
 ·rename_i T us
  have:=decPL_ok h
  simpa using this
 ·exact decPN_ok h
 ·cases h
section
variable {U:Univ}
inductive IM (U:Univ) where
 | st
 | lab (sl:List (List HL×HK U))
 | labP (sl dl:List (List HL×HK U)) (pk:PK)
structure IH (U:Univ) where
 fn:Func
 h:Hints U
 md:IM U
def Q0m (c:Option Code) (H:Hints U):Option (Code×Tc U):=match c with
 | none=>none
 | some c=>match Kd H 0 c with
  | some (_,tc)=>some (c,tc)
  | none=>none
theorem WL {b:Option Code} {H:Hints U} {c:Code} {tc:Tc U} (h:Q0m b H=some (c,tc)):tc.code=c∧b=some c:=by
 unfold Q0m at h
 split at h
 ·cases h
 ·split at h
  ·rename_i n' tc' hcc;cases h
   exact ⟨JS _ hcc,Z⟩
  ·cases h
variable (D:Codec U) (C:TCfg U) (K:FuncId→List (TAV U)→Option (KR U))
def Qal (s:TSt U):List ResultVar→Option (List (TAV U))
 | []=>some []
 | v::vs=>match Qam D C s v with
  | some x=>match Qal s vs with
   | some xs=>some (x::xs)
   | none=>none
  | none=>none
def Qd2:List (TAV U)→TTV U
 | [x]=>.v x
 | xs=>.tup xs
def Qdz (h:Lab U) (s0 s:TSt U) (rs:List ResultVar):Option (tup (h.sl.map (·.2))):=match GC D h s0 s with
 | some t=>match Qal D C (lab h s0 t) rs with
  | some _=>some t
  | none=>none
 | none=>none
def Qhd (s:TSt U) (rs:List ResultVar):TTV U:=match Qal D C s rs with
 | some xs=>Qd2 xs
 | none=>.unk
def Gs (X:Qr2 U) (Y:Qr1 U) {β:Type} (s:TSt U) (u:Option Value) (kv:TSt U→Option β) (kd:Value→TSt U→Option β):Option β:=match s.df with
 | []=>match u with
  | none=>kv s
  | some v=>kd v s
 | f::is=>match X Y (.dfr f u) (Zi is) s.m with
  | some xo=>xo.run (fun x m2=>cond (Z0 (Wq m2.tk s.m.tk) s.tm) (match u with
    | none=>kv ⟨s.tm,m2,s.nt,[]⟩
    | some v=>match x with
     | .v (.one (.c (.v (.bool true))))=>kv ⟨s.tm,m2,s.nt,[]⟩
     | .v (.one (.c (.v (.bool false))))=>kd v ⟨s.tm,m2,s.nt,[]⟩
     | _=>none) none) fun _ _=>none
  | none=>none
abbrev EndS (U:Univ):=Option Value×TSt U
def Qof (X:Qr2 U) (Y:Qr1 U) (fn:Func) (tc:Tc U) (args:List (TAV U)) (m:TMe U):CO U:=⟨fun k d=>JK D C K X tc Y none (R:=EndS U) (fun s=>some (none,s)) (fun v s=>some (some v,s)) ⟨JD 0 args,m,fn.ntmps,[]⟩
 (fun a=>Gs X Y a.2 a.1 (fun s=>match Qal D C s fn.results.toList with
  | some xs=>k (Qd2 xs) s.m
  | none=>none) fun v s=>d v s.m) fun e s=>match e with
 | .normal=>Gs X Y s none (fun s=>match Qal D C s fn.results.toList with
  | some xs=>k (Qd2 xs) s.m
  | none=>none) fun v s=>d v s.m
 | _=>none⟩
def Qoi (X:Qr2 U) (Y:Qr1 U) (fn:Func) (tc:Tc U) (L:Lab U) (s0:TSt U):CO U:=⟨fun k _=>Option.bind (JK D C K X tc Y none (fun s=>Gs X Y s none (fun s=>Qdz D C L s0 s fn.results.toList) fun _ _=>none) (fun v s=>Gs X Y s (some v) (fun s=>Qdz D C L s0 s fn.results.toList) fun _ _=>none) s0 some fun e s=>match e with
 | .normal=>Gs X Y s none (fun s=>Qdz D C L s0 s fn.results.toList) fun _ _=>none
 | _=>none) fun t=>k (Qhd D C (lab L s0 t) fn.results.toList) (lab L s0 t).m⟩
def Q61 (pk:PK) (Ld:Lab U) (s0:TSt U) {α:Type} (v:Value) (s:TSt U):Option (α⊕(pk.Ty×tup (Ld.sl.map (·.2)))):=match Qlf pk v,GC D Ld s0 s with
 | some e,some t=>some (.inr (e,t))
 | _,_=>none
def Qhm (L:Lab U) (s0:TSt U) (rs:List ResultVar) {α:Type} (s:TSt U):Option (tup (L.sl.map (·.2))⊕α):=match Qdz D C L s0 s rs with
 | some t=>some (.inl t)
 | none=>none
def Qog (X:Qr2 U) (Y:Qr1 U) (fn:Func) (tc:Tc U) (L Ld:Lab U) (pk:PK) (s0:TSt U):CO U:=⟨fun k d=>Option.bind (JK D C K X tc Y none (R:=tup (L.sl.map (·.2))⊕(pk.Ty×tup (Ld.sl.map (·.2)))) (fun s=>Gs X Y s none (Qhm D C L s0 fn.results.toList) (Q61 D pk Ld s0)) (fun v s=>Gs X Y s (some v) (Qhm D C L s0 fn.results.toList) (Q61 D pk Ld s0)) s0 some fun e s=>match e with
 | .normal=>Gs X Y s none (Qhm D C L s0 fn.results.toList) (Q61 D pk Ld s0)
 | _=>none) (Sum.elim (fun t=>k (Qhd D C (lab L s0 t) fn.results.toList) (lab L s0 t).m) fun a=>d (Q23 pk a.1) (lab Ld s0 a.2).m)⟩
def Qap:List (TAV U)→Option (List Nat)
 | []=>some []
 | .one (.ptr i off)::r=>cond (Nat.beq off 0) (match Qap r with
  | some l=>some (i::l)
  | none=>none) none
 | _=>none
def Qf1 (ops:List Oper):Option (Nat×Option Nat):=match ops with
 | [⟨some d,.call { callee:=.builtin .recover,args:=xs,argTypes:=_ },_,_,_,none⟩]=>match xs.toList with
  | []=>some (d,none)
  | _=>none
 | [⟨some d,.call { callee:=.builtin .recover,args:=xs,argTypes:=_ },_,_,_,none⟩,⟨some d2,.assign (.tmp d1),_,_,_,none⟩]=>match xs.toList with
  | []=>cond (Nat.beq d1 d) (some (d,some d2)) none
  | _=>none
 | _=>none
def Qnv:Tc U→Option ((Nat×Option Nat)×Tc U)
 | .seq (.reg _ ops) b=>match Qf1 ops.toList with
  | some d=>some (d,b)
  | none=>none
 | _=>none
def Qif (d:Nat×Option Nat) (v:Value) (tm:List (Nat×TTV U)):List (Nat×TTV U):=match d.2 with
 | none=>(d.1,.v (.one (.c (.v v))))::tm
 | some d2=>(d2,.v (.one (.c (.v v))))::(d.1,.v (.one (.c (.v v))))::tm
def Qig (d:Nat×Option Nat) (n:Nat):Bool:=Nat.blt d.1 n&&match d.2 with
 | none=>true
 | some d2=>Nat.blt d2 n
def Qmz (X:Qr2 U) (Y:Qr1 U) (tc:Tc U) (rc:Bool) (tm:List (Nat×TTV U)) (nt:Nat) (m:TMe U):CO U:=⟨fun k _=>JK D C K X tc Y none (R:=TSt U) (fun s=>some s) (fun _ _=>none) ⟨tm,m,nt,[]⟩
 (fun s=>cond (Q5i s.df []) (k (Qpv rc) s.m) none) fun e s=>match e with
 | .normal=>cond (Q5i s.df []) (k (Qpv rc) s.m) none
 | _=>none⟩
def Qiw (fn:Func):Bool:=fn.results.toList.isEmpty
def Qmy (X:Qr2 U) (I:List (Nat×IH U)):Qr2 U:=fun Y c args m=>match c with
 | .yld _=>none
 | .fn f=>match Qq8 I f with
  | none=>none
  | some ih=>match Q0m ih.fn.body ih.h with
   | none=>none
   | some (c,tc)=>cond (Nat.ble args.length ih.fn.ntmps) (match ih.md with
    | .st=>some (Qof D C K X Y ih.fn tc args m)
    | .lab sl=>match U4 D (W8 sl c) ⟨JD 0 args,m,ih.fn.ntmps,[]⟩ with
     | none=>none
     | some (L,s0)=>cond (Q5i s0.df []) (some (Qoi D C K X Y ih.fn tc L s0)) none
    | .labP sl dl pk=>match U4 D (W8 sl c) ⟨JD 0 args,m,ih.fn.ntmps,[]⟩ with
     | none=>none
     | some (L,s0)=>match Q0c D (W8 dl c) s0 with
      | none=>none
      | some Ld=>cond (Q5i s0.df []) (some (Qog D C K X Y ih.fn tc L Ld pk s0)) none) none
 | .dfr f u=>match Qq8 I f with
  | none=>none
  | some ih=>match Q0m ih.fn.body ih.h,Qap args with
   | some (_,tc),some is=>cond (Nat.ble args.length ih.fn.ntmps&&Qiw ih.fn) (match Qnv tc with
    | some (d,tb)=>cond (Qig d ih.fn.ntmps&&(u.getD .nilIface).oneCell') (some (Qmz D C K X Y tb true (Qif d (u.getD .nilIface) (JD 0 args)) ih.fn.ntmps m)) none
    | none=>some (Qmz D C K X Y tc false (JD 0 args) ih.fn.ntmps m)) none
   | _,_=>none
def Qp9 (T X:Qr2 U):Qr2 U:=fun Y c args m=>match T Y c args m with
 | some xo=>some xo
 | none=>X Y c args m
def Qoh (T:Qr2 U) (I:List (Nat×IH U)):Nat→Qr2 U
 | 0=>T
 | n+1=>Qp9 T (Qmy D C K (Qoh T I n) I)
def IOK (P:Program):List (Nat×IH U)→Prop
  | []=>True
  | (f,ih)::r=>(P.funcs[f]?=some ih.fn∧Qc P f)∧IOK P r
variable {D C K}
theorem IOK.get {P:Program}:∀ {I:List (Nat×IH U)} {f:Nat} {ih:IH U},IOK P I→Qq8 I f=some ih→P.funcs[f]?=some ih.fn∧Qc P f
  | [],f,ih,_,h=>by cases h
  | (g,x)::r,f,ih,hI,h=>by
    rw [Q1] at h
    split at h
    · rename_i e;subst e;cases h;exact hI.1
    · exact IOK.get hI.2 h
theorem Q86 {P:Program} (hT:C.T.OK P) (hD:D.OK) {s:TSt U}:∀ {rs:List ResultVar} {xs:List (TAV U)},Qal D C s rs=some xs→RAs P (s.er D) rs (xs.map (TAV.er D s.m.tk))
 | [],xs,h=>by cases h;exact .nil
 | v::vs,xs,h=>by
  unfold Qal at h
  split at h
  ·rename_i x hx
   split at h
   ·rename_i ys hy;cases h
    exact Q38 hT hD hx (Q86 hT hD hy)
   ·cases h
  ·cases h
theorem Xn (tk:List (Nat×TTok U)):∀ (args:List (TAV U)) (i:Nat),QI (TTV.er D tk) (JD i args)=J5 i (args.map (TAV.er D tk))
 | [],i=>rfl
 | x::xs,i=>by
  show (i,TV.v (x.er D tk))::QI (TTV.er D tk) (JD (i+1) xs)=(i,TV.v (x.er D tk))::J5 (i+1) _
  rw [Xn tk xs (i+1)]
theorem Qf0 (tk:List (Nat×TTok U)) (xs:List (TAV U)):(Qd2 xs).er D tk=Qh (xs.map (TAV.er D tk)):=by
 match xs with
 | []=>rfl
 | [x]=>rfl
 | x::y::xs=>rfl
theorem Q4g (fn:Func) (args:List (TAV U)) (m:TMe U):((⟨JD 0 args,m,fn.ntmps,[]⟩:TSt U).er D)=⟨J5 0 (args.map (TAV.er D m.tk)),(m.er D).hp,(m.er D).tk,(m.er D).nx,fn.ntmps,[]⟩:=by
 show (⟨QI (TTV.er D m.tk) (JD 0 args),Qg D m.tk m.es,XE m.tk,m.nx,fn.ntmps,[]⟩:St)=_
 rw [Xn];rfl
theorem ToW.trans {W:Wd} {P:Program} {nx0:Nat} {x y z:St} (h:ToW W P nx0 x y) (k:ToW W P nx0 y z):ToW W P nx0 x z:=fun E a b c=>(h E a b c).trans (k E a b c)
theorem ToW.weak {W:Wd} {P:Program} {nx0:Nat} {x y:St} (h:StW x y):ToW W P nx0 x y:=fun E a b c=>To.weak h
def Qn2:Option Value→Exit→Prop
 | none,e=>e=.normal∨e=.ret
 | some v,e=>e=.panic (ZW v)
theorem WJ {W:Wd} {P:Program} {X:Qr2 U} (hX:WO W D P X) {Y:Qr1 U} (fn:Func) (nx0:Nat) {s:TSt U} {u:Option Value} {β:Type} {kv:TSt U→Option β} {kd:Value→TSt U→Option β} {r:β} (hY:YOK W D P Y s.m) (h:Gs X Y s u kv kd=some r) :
  ∃ s':TSt U,SfM s.m s'.m∧s'.df=[]∧s'.tm=s.tm∧s'.nt=s.nt ∧
   ((kv s'=some r∧∀ e st1 xs,Qn2 u e→st1.df=[]→ToW W P nx0 (s'.er D) st1→RAs P st1 fn.results.toList xs→EndO W P fn nx0 e (s.er D) (.val (Qh xs) st1.mem)) ∨
    (∃ v,u=some v∧kd v s'=some r∧∀ e st1,Qn2 u e→st1.df=[]→ToW W P nx0 (s'.er D) st1→EndO W P fn nx0 e (s.er D) (.die v st1.mem))):=by
 unfold Gs at h
 split at h
 ·rename_i hd
  cases u with
  | none=>exact ⟨s,SfM.refl _,hd,rfl,rfl,.inl ⟨h,fun e st1 xs he h1 h2 h3=>.ret he h1 h2 h3⟩⟩
  | some v=>exact ⟨s,SfM.refl _,hd,rfl,rfl,.inr ⟨v,rfl,h,fun e st1 he h1 h2=>by cases he;exact .die h1 h2⟩⟩
 ·rename_i f is hd
  split at h
  ·rename_i xo hxo
   obtain ⟨q,q1,q2,q3⟩:=hX _ _ _ _ _ hY hxo _ _ _ h
   obtain ⟨is',rc,m2,ha,rfl,hdm⟩:=q1
   have eis:is'=is:=by
    have key:∀ (a b:List Nat),Zi (U:=U) a=Zi b→a=b:=by
     intro a
     induction a with
     | nil=>intro b h;cases b with
      | nil=>rfl
      | cons y b=>cases h
     | cons x a ih=>intro b h;cases b with
      | nil=>cases h
      | cons y b =>
       have h':(TAV.one (.ptr x 0):TAV U)::Zi a=.one (.ptr y 0)::Zi b:=h
       injection h' with h1 h2
       cases h1
       rw [ih b h2]
    exact (key _ _ ha).symm
   subst eis
   dsimp only [OutT.to] at q3
   have q2':SfM s.m m2:=q2
   cases hf:Z0 (Wq m2.tk s.m.tk) s.tm with
   | false=>rw [hf] at q3;cases q3
   | true =>
    rw [hf,C6] at q3
    have hw:ToW W P nx0 ⟨(s.er D).tm,(m2.er D).hp,(m2.er D).tk,(m2.er D).nx,(s.er D).nt,[]⟩ ((⟨s.tm,m2,s.nt,[]⟩:TSt U).er D):=by
     have hz:=Qc1 (D:=D) (st:=⟨s.tm,s.m,s.nt,[]⟩) (m:=m2) (fun t z hz V w v hv=>GT hf q2'.tk hz V w v hv)
     exact ToW.weak hz
    refine ⟨⟨s.tm,m2,s.nt,[]⟩,q2',Z,Z,Z,?_⟩
    cases u with
    | none=>exact .inl ⟨q3,fun e st1 xs he h1 h2 h3=>.dret he hd hdm h1 (hw.trans h2) h3⟩
    | some v =>
     cases rc with
     | true=>exact .inl ⟨q3,fun e st1 xs he h1 h2 h3=>by cases he;exact .drec hd hdm h1 (hw.trans h2) h3⟩
     | false=>exact .inr ⟨v,rfl,q3,fun e st1 he h1 h2=>by cases he;exact .ddie hd hdm h1 (hw.trans h2)⟩
  ·cases h
theorem Qc9 {W:Wd} {P:Program} (hP:P=Tryz.prog) {X:Qr2 U} {Y:Qr1 U} {f:FuncId} {fn:Func} {c:Code} {tc:Tc U} {args:List (TAV U)} {m:TMe U} {s0:TSt U} (hT:C.T.OK P) (hD:D.OK) (hK:Q0v W D P K) (hX:WO W D P X) (hY:YOK W D P Y m) (hf:P.funcs[f]?=some fn) (hen:Qc P f) (hc:tc.code=c) (hb:fn.body=some c) (hle:args.length≤fn.ntmps) (hto:∀ E,To E ((⟨JD 0 args,m,fn.ntmps,[]⟩:TSt U).er D) (s0.er D)) (hsf:Sfx ⟨JD 0 args,m,fn.ntmps,[]⟩ s0)
  {R β:Type} {ret:TSt U→Option R} {pan:Value→TSt U→Option R} {p:R→Option β} {k:Exit→TSt U→Option β} {r:β} (h:JK D C K X tc Y none ret pan s0 p k=some r) {S:OutM→Prop}
  (h1:∀ e s,Sfx s0 s→k e s=some r→∃ o,S o∧EndO W P fn m.nx e (s.er D) o)
  (h2:∀ a,p a=some r→(∃ s,Sfx s0 s∧(ret s=some a∨∃ v,pan v s=some a))→(∀ s,Sfx s0 s→ret s=some a→∃ o,S o∧EndO W P fn m.nx .ret (s.er D) o)∧∀ v s,Sfx s0 s→pan v s=some a→∃ o,S o∧EndO W P fn m.nx (.panic (ZW v)) (s.er D) o):CallP W P f (args.map (TAV.er D m.tk)) (m.er D) S:=by
 have hm:P.follows .mixedOrders=true:=by rw [hP];exact Qd7
 have go:(∀ E ro n Q,Fit W P none E ro→E.V0.nx≤s0.m.nx→(∀ e st' o,S o→EndO W P fn m.nx e st' o→XQ E Q e st')→XC E ro n Q tc.code (s0.er D))→CallP W P f (args.map (TAV.er D m.tk)) (m.er D) S:=by
  intro hx
  refine Gw hf hb hen (by rw [Cm];exact hle) (fun w0 M V0 Q hW h0 hQ=>?_) hP
  have key:=hx ⟨P,w0,M,V0⟩ none 0 Q ⟨rfl,hW,rfl⟩ (Ca h0 hsf.nx) hQ
  rw [hc] at key
  have:=ZU (hto _) key
  rw [Q4g] at this
  exact this
 rcases Jw hP hm hT hD hK hX tc (hY.mono hsf.sfm) h with ⟨e,s,hs,hk,hx⟩ | ⟨a,hp,hex,hx⟩
 ·obtain ⟨o,o1,o2⟩:=h1 e s hs hk
  exact go (fun E ro n Q ft h0 hQ=>hx E ro n Q ft h0 (hQ e _ o o1 o2))
 ·obtain ⟨o2,o3⟩:=h2 a hp hex
  exact go (fun E ro n Q ft h0 hQ=>hx E ro n Q ft h0 (fun s hs e=>let ⟨o,q1,q2⟩:=o2 s hs e;hQ _ _ o q1 q2) (fun v s hs e=>let ⟨o,q1,q2⟩:=o3 v s hs e;hQ _ _ o q1 q2))
theorem Q9n {W:Wd} {P:Program} (hP:P=Tryz.prog) {X:Qr2 U} {Y:Qr1 U} {f:FuncId} {fn:Func} {c:Code} {tc:Tc U} {args:List (TAV U)} {m:TMe U} {s0:TSt U} (hT:C.T.OK P) (hD:D.OK) (hK:Q0v W D P K) (hX:WO W D P X) (hY:YOK W D P Y m) (hf:P.funcs[f]?=some fn) (hen:Qc P f) (hc:tc.code=c) (hb:fn.body=some c) (hle:args.length≤fn.ntmps) (hto:∀ E,To E ((⟨JD 0 args,m,fn.ntmps,[]⟩:TSt U).er D) (s0.er D)) (hsf:Sfx ⟨JD 0 args,m,fn.ntmps,[]⟩ s0)
  {R β:Type} {ret:TSt U→Option R} {pan:Value→TSt U→Option R} {p:R→Option β} {k:Exit→TSt U→Option β} {r:β} (h:JK D C K X tc Y none ret pan s0 p k=some r) {S:OutM→Prop}
  (h1:∀ e s,Sfx s0 s→k e s=some r→∃ o,S o∧EndO W P fn m.nx e (s.er D) o)
  (h2:∀ a,p a=some r→(∃ s,Sfx s0 s∧(ret s=some a∨∃ v,pan v s=some a))→∃ o,S o∧(∀ s,Sfx s0 s→ret s=some a→EndO W P fn m.nx .ret (s.er D) o)∧∀ v s,Sfx s0 s→pan v s=some a→EndO W P fn m.nx (.panic (ZW v)) (s.er D) o):∃ o,S o∧CallO W P f (args.map (TAV.er D m.tk)) (m.er D) o:=by
 have one:∀ o,S o→CallP W P f (args.map (TAV.er D m.tk)) (m.er D) (fun o'=>o'=o)→∃ o,S o∧CallO W P f (args.map (TAV.er D m.tk)) (m.er D) o:=fun o ho h=>⟨o,ho,CallO.of_p h⟩
 have hm:P.follows .mixedOrders=true:=by rw [hP];exact Qd7
 rcases Jw hP hm hT hD hK hX tc (hY.mono hsf.sfm) h with ⟨e,s,hs,hk,hx⟩ | ⟨a,hp,hex,hx⟩
 ·obtain ⟨o,o1,o2⟩:=h1 e s hs hk
  refine one o o1 (Gw hf hb hen (by rw [Cm];exact hle) (fun w0 M V0 Q hW h0 hQ=>?_) hP)
  have key:=hx ⟨P,w0,M,V0⟩ none 0 Q ⟨rfl,hW,rfl⟩ (Ca h0 hsf.nx) (hQ _ _ o rfl o2)
  rw [hc] at key
  have:=ZU (hto _) key
  rw [Q4g] at this
  exact this
 ·obtain ⟨o,o1,o2,o3⟩:=h2 a hp hex
  refine one o o1 (Gw hf hb hen (by rw [Cm];exact hle) (fun w0 M V0 Q hW h0 hQ=>?_) hP)
  have key:=hx ⟨P,w0,M,V0⟩ none 0 Q ⟨rfl,hW,rfl⟩ (Ca h0 hsf.nx) (fun s hs e=>hQ _ _ o rfl (o2 s hs e)) (fun v s hs e=>hQ _ _ o rfl (o3 v s hs e))
  rw [hc] at key
  have:=ZU (hto _) key
  rw [Q4g] at this
  exact this
theorem Q4o {W:Wd} {P:Program} {f:FuncId} {args:List (TAV U)} {m:TMe U} {β:Type} {k:TTV U→TMe U→Option β} {d:Value→TMe U→Option β} {r:β} (h:∃ o,(∃ q:OutT U,o=q.er D∧SfM m q.m∧q.to k d=some r)∧CallO W P f (args.map (TAV.er D m.tk)) (m.er D) o):∃ q:OutT U,Qco W D P (.fn f) args m q∧SfM m q.m∧q.to k d=some r:=by
 obtain ⟨o,⟨q,rfl,q2,q3⟩,hc⟩:=h
 exact ⟨q,hc,q2,q3⟩
theorem inlS_ok {W:Wd} {P:Program} (hP:P=Tryz.prog) (hT:C.T.OK P) (hD:D.OK) (hK:Q0v W D P K) {X:Qr2 U} (hX:WO W D P X) {Y:Qr1 U} {f:FuncId} {fn:Func} {c:Code} {tc:Tc U} {args:List (TAV U)} {m:TMe U} (hY:YOK W D P Y m) (hf:P.funcs[f]?=some fn) (hen:Qc P f) (hc:tc.code=c) (hb:fn.body=some c) (hle:args.length≤fn.ntmps):Qee m (Qof D C K X Y fn tc args m) (Qco W D P (.fn f) args m):=by
 intro β k d r hr
 have ho:∀ (s:TSt U) (u:Option Value),Sfx ⟨JD 0 args,m,fn.ntmps,[]⟩ s→Gs X Y s u (fun s=>match Qal D C s fn.results.toList with
   | some xs=>k (Qd2 xs) s.m
   | none=>none) (fun v s=>d v s.m)=some r→∃ o,(∃ q:OutT U,o=q.er D∧SfM m q.m∧q.to k d=some r)∧∀ e,Qn2 u e→EndO W P fn m.nx e (s.er D) o:=by
  intro s u hs hend
  obtain ⟨s',a1,a2,a3,a4,a5⟩:=WJ hX fn m.nx (hY.mono hs.sfm) hend
  have sm:SfM m s'.m:=hs.sfm.trans a1
  rcases a5 with ⟨b1,b2⟩ | ⟨v,rfl,b1,b2⟩
  ·split at b1
   ·rename_i xs hxs
    refine ⟨_,⟨.val (Qd2 xs) s'.m,Z,sm,b1⟩,fun e he=>?_⟩
    have:=b2 e (s'.er D) _ he a2 (ToW.refl _ _ _ _) (Q86 hT hD hxs)
    show EndO W P fn m.nx e (s.er D) (.val ((Qd2 xs).er D s'.m.tk) (s'.m.er D))
    rw [Qf0]
    exact this
   ·cases b1
  ·exact ⟨_,⟨.die v s'.m,rfl,sm,b1⟩,fun e he=>b2 e (s'.er D) he a2 (ToW.refl _ _ _ _)⟩
 refine Q4o (Q9n hP hT hD hK hX hY hf hen hc hb hle (fun E=>To.refl _ _) (Sfx.refl _) hr (fun e s hs hk=>?_) (fun a hp hex=>?_))
 ·cases e with
  | normal=>obtain ⟨o,o1,o2⟩:=ho s none hs hk;exact ⟨o,o1,o2 _ (.inl rfl)⟩
  | ret=>cases hk
  | exit j=>cases hk
  | goto l=>cases hk
  | panic c=>cases hk
  | outgrown=>cases hk
 ·obtain ⟨u,s1⟩:=a
  have hs1:Sfx ⟨JD 0 args,m,fn.ntmps,[]⟩ s1:=by
   obtain ⟨s,hs,e | ⟨v,e⟩⟩:=hex
   ·cases e;exact hs
   ·cases e;exact hs
  obtain ⟨o,o1,o2⟩:=ho s1 u hs1 hp
  exact ⟨o,o1,fun s hs e=>by cases e;exact o2 _ (.inr rfl),fun v s hs e=>by cases e;exact o2 _ rfl⟩
theorem Qgq {P:Program} (hT:C.T.OK P) (hD:D.OK) {L:Lab U} {s0 s:TSt U} {rs:List ResultVar} {t:tup (L.sl.map (·.2))} (h:Qdz D C L s0 s rs=some t):GC D L s0 s=some t∧∃ xs,RAs P ((lab L s0 t).er D) rs xs∧Qh xs=(Qhd D C (lab L s0 t) rs).er D (lab L s0 t).m.tk:=by
 unfold Qdz at h
 split at h
 ·rename_i t' ht
  split at h
  ·rename_i xs hxs;cases h
   refine ⟨ht,_,Q86 hT hD hxs,?_⟩
   unfold Qhd
   rw [hxs]
   exact (Qf0 _ _).symm
  ·cases h
 ·cases h
theorem Qd1 {a b c:TSt U} (h:Sfx a b) (k:SfM b.m c.m) (e1:c.tm=b.tm) (e2:c.nt=b.nt) (hd:a.df=[]):Sfx a c:=by
 obtain ⟨h1,h2,h3,h4,h5,-⟩:=h
 have hk:=(⟨h2,h3,h4⟩:SfM a.m b.m).trans k
 exact ⟨by rw [e1];exact h1,hk.es,hk.tk,hk.nx,e2.trans h5,.inl hd⟩
theorem Q9a {W:Wd} {P:Program} (hD:D.OK) {L:Lab U} {s0 s':TSt U} {t:tup (L.sl.map (·.2))} {nx0:Nat} (hw:Qhw L s0=true) (hs:Sfx s0 s') (hp:GC D L s0 s'=some t) (h0:nx0≤s0.m.nx):ToW W P nx0 (s'.er D) ((lab L s0 t).er D):=fun E _ _ h=>W7 hD ⟨hs,hw,hp⟩ (Ca h h0)
theorem inlL_ok {W:Wd} {P:Program} (hP:P=Tryz.prog) (hT:C.T.OK P) (hD:D.OK) (hK:Q0v W D P K) {X:Qr2 U} (hX:WO W D P X) {Y:Qr1 U} {f:FuncId} {fn:Func} {c:Code} {tc:Tc U} {args:List (TAV U)} {m:TMe U} {h:HLab U} {L:Lab U} {s0:TSt U} (hY:YOK W D P Y m) (hf:P.funcs[f]?=some fn) (hen:Qc P f) (hc:tc.code=c) (hb:fn.body=some c) (hle:args.length≤fn.ntmps)
  (hl:U4 D h ⟨JD 0 args,m,fn.ntmps,[]⟩=some (L,s0)) (hd0:s0.df=[]):Qee m (Qoi D C K X Y fn tc L s0) (Qco W D P (.fn f) args m):=by
 intro β k d r hr
 have hto:=fun E=>(Yd (E:=E) hD hl).1
 obtain ⟨-,hsf,hw⟩:=Yd (E:=⟨P,default,fun _=>False,⟨0,fun _=>0,fun _ _=>undef,fun _=>0,fun _ _=>False⟩⟩) hD hl
 obtain ⟨t,ht,hk⟩:=YW (show Option.bind _ _=some r from hr)
 have hls:=Y8 s0 t
 have ho:∀ (s:TSt U) (u:Option Value),Sfx s0 s→Gs X Y s u (fun s=>Qdz D C L s0 s fn.results.toList) (fun _ _=>none)=some t→∀ e,Qn2 u e→EndO W P fn m.nx e (s.er D) (.val ((Qhd D C (lab L s0 t) fn.results.toList).er D (lab L s0 t).m.tk) ((lab L s0 t).m.er D)):=by
  intro s u hs hend e he
  obtain ⟨s',a1,a2,a3,a4,a5⟩:=WJ hX fn m.nx (hY.mono (hsf.trans hs).sfm) hend
  rcases a5 with ⟨b1,b2⟩ | ⟨v,rfl,b1,b2⟩
  ·obtain ⟨q1,xs,q2,q3⟩:=Qgq hT hD b1
   have:=b2 e ((lab L s0 t).er D) xs he hd0 (Q9a hD hw (Qd1 hs a1 a3 a4 hd0) q1 hsf.nx) q2
   rw [q3] at this
   exact this
  ·cases b1
 refine Q4o (Q9n hP hT hD hK hX hY hf hen hc hb hle hto hsf ht (S:=fun o=>∃ q:OutT U,o=q.er D∧SfM m q.m∧q.to k d=some r) (fun e s hs hk'=>?_) (fun a hp hex=>?_))
 ·cases e with
  | normal=>exact ⟨_,⟨.val _ (lab L s0 t).m,rfl,(hsf.trans hls).sfm,hk⟩,ho s none hs hk' _ (.inl rfl)⟩
  | ret=>cases hk'
  | exit j=>cases hk'
  | goto l=>cases hk'
  | panic c=>cases hk'
  | outgrown=>cases hk'
 ·cases hp
  exact ⟨_,⟨.val _ (lab L s0 t).m,Z,(hsf.trans hls).sfm,hk⟩,fun s hs e=>ho s none hs e _ (.inr Z),fun v s hs e=>ho s (some v) hs e _ Z⟩
theorem Qgp {P:Program} (hT:C.T.OK P) (hD:D.OK) {L:Lab U} {s0 s:TSt U} {rs:List ResultVar} {α:Type} {y:tup (L.sl.map (·.2))⊕α} (h:Qhm D C L s0 rs s=some y):∃ t,y=.inl t∧GC D L s0 s=some t∧∃ xs,RAs P ((lab L s0 t).er D) rs xs∧Qh xs=(Qhd D C (lab L s0 t) rs).er D (lab L s0 t).m.tk:=by
 unfold Qhm at h
 split at h
 ·rename_i t ht;cases h
  exact ⟨t,Z,Qgq hT hD ht⟩
 ·cases h
theorem Qaz {pk:PK} {Ld:Lab U} {s0 s:TSt U} {α:Type} {v:Value} {y:α⊕(pk.Ty×tup (Ld.sl.map (·.2)))} (h:Q61 D pk Ld s0 v s=some y):∃ e t,y=.inr (e,t)∧v=Q23 pk e∧GC D Ld s0 s=some t:=by
 unfold Q61 at h
 split at h
 ·rename_i e t he ht;cases h
  exact ⟨e,t,Z,Qgv he,ht⟩
 ·cases h
theorem inlP_ok {W:Wd} {P:Program} (hP:P=Tryz.prog) (hT:C.T.OK P) (hD:D.OK) (hK:Q0v W D P K) {X:Qr2 U} (hX:WO W D P X) {Y:Qr1 U} {f:FuncId} {fn:Func} {c:Code} {tc:Tc U} {args:List (TAV U)} {m:TMe U} {h hd:HLab U} {L Ld:Lab U} {pk:PK} {s0:TSt U} (hY:YOK W D P Y m) (hf:P.funcs[f]?=some fn) (hen:Qc P f) (hc:tc.code=c) (hb:fn.body=some c) (hle:args.length≤fn.ntmps)
  (hl:U4 D h ⟨JD 0 args,m,fn.ntmps,[]⟩=some (L,s0)) (hld:Q0c D hd s0=some Ld) (hd0:s0.df=[]):Qee m (Qog D C K X Y fn tc L Ld pk s0) (Qco W D P (.fn f) args m):=by
 intro β k d r hr
 have hto:=fun E=>(Yd (E:=E) hD hl).1
 obtain ⟨-,hsf,hw⟩:=Yd (E:=⟨P,default,fun _=>False,⟨0,fun _=>0,fun _ _=>undef,fun _=>0,fun _ _=>False⟩⟩) hD hl
 have hwd:=Q0b hld
 obtain ⟨y,ht,hk⟩:=YW (show Option.bind _ _=some r from hr)
 have ho:∃ o,(∃ q:OutT U,o=q.er D∧SfM m q.m∧q.to k d=some r)∧∀ (s:TSt U) (u:Option Value),Sfx s0 s→Gs X Y s u (Qhm D C L s0 fn.results.toList) (Q61 D pk Ld s0)=some y→∀ e,Qn2 u e→EndO W P fn m.nx e (s.er D) o:=by
  cases y with
  | inl t =>
   refine ⟨_,⟨.val _ (lab L s0 t).m,Z,(hsf.trans (Y8 s0 t)).sfm,hk⟩,fun s u hs hend e he=>?_⟩
   obtain ⟨s',a1,a2,a3,a4,a5⟩:=WJ hX fn m.nx (hY.mono (hsf.trans hs).sfm) hend
   rcases a5 with ⟨b1,b2⟩ | ⟨v,rfl,b1,b2⟩
   ·obtain ⟨t',e1,q1,xs,q2,q3⟩:=Qgp hT hD b1
    cases e1
    have:=b2 e ((lab L s0 t).er D) xs he hd0 (Q9a hD hw (Qd1 hs a1 a3 a4 hd0) q1 hsf.nx) q2
    rw [q3] at this
    exact this
   ·obtain ⟨e',t',e1,-,-⟩:=Qaz b1
    cases e1
  | inr y =>
   obtain ⟨ev,t⟩:=y
   refine ⟨_,⟨.die (Q23 pk ev) (lab Ld s0 t).m,Z,(hsf.trans (Y8 s0 t)).sfm,hk⟩,fun s u hs hend e he=>?_⟩
   obtain ⟨s',a1,a2,a3,a4,a5⟩:=WJ hX fn m.nx (hY.mono (hsf.trans hs).sfm) hend
   rcases a5 with ⟨b1,b2⟩ | ⟨v,rfl,b1,b2⟩
   ·obtain ⟨t',e1,-⟩:=Qgp (P:=P) hT hD b1
    cases e1
   ·obtain ⟨e',t',e1,ev',q1⟩:=Qaz b1
    cases e1
    have:=b2 e ((lab Ld s0 t).er D) he hd0 (Q9a hD hwd (Qd1 hs a1 a3 a4 hd0) q1 hsf.nx)
    rw [ev'] at this
    exact this
 obtain ⟨o,o1,o2⟩:=ho
 refine Q4o (Q9n hP hT hD hK hX hY hf hen hc hb hle hto hsf ht (S:=fun o=>∃ q:OutT U,o=q.er D∧SfM m q.m∧q.to k d=some r) (fun e s hs hk'=>?_) (fun a hp hex=>?_))
 ·cases e with
  | normal=>exact ⟨o,o1,o2 s none hs hk' _ (.inl rfl)⟩
  | ret=>cases hk'
  | exit j=>cases hk'
  | goto l=>cases hk'
  | panic c=>cases hk'
  | outgrown=>cases hk'
 ·cases hp
  exact ⟨o,o1,fun s hs e=>o2 s none hs e _ (.inr Z),fun v s hs e=>o2 s (some v) hs e _ Z⟩
theorem Qao:∀ {args:List (TAV U)} {is:List Nat},Qap args=some is→args=Zi is
 | [],is,h=>by cases h;rfl
 | .agg xs::r,is,h=>by cases h
 | .one x::r,is,h=>by
  cases x with
  | ptr i off =>
   have h':cond (Nat.beq off 0) (match Qap r with
    | some l=>some (i::l)
    | none=>none) none=some is:=h
   cases hb:Nat.beq off 0 with
   | false=>rw [hb] at h';cases h'
   | true =>
    rw [hb,C6] at h'
    have e:=C4 hb
    subst e
    cases hl:Qap r with
    | none=>rw [hl] at h';cases h'
    | some l=>rw [hl] at h';cases h';rw [Qao hl];rfl
  | c x=>cases h
  | pel t x off=>cases h
  | fn f caps=>cases h
  | app i ver=>cases h
  | raw x=>cases h
theorem Q6w (tk:List (Nat×TTok U)) (is:List Nat):(Zi is).map (TAV.er D tk)=is.map fun i=>.one (.ptr i 0):=by
 unfold Zi
 rw [CI];rfl
theorem Qez {W:Wd} {P:Program} (hP:P=Tryz.prog) (hT:C.T.OK P) (hD:D.OK) (hK:Q0v W D P K) {X:Qr2 U} (hX:WO W D P X) {Y:Qr1 U} {tc:Tc U} {rc:Bool} {tm:List (Nat×TTV U)} {nt:Nat} {m:TMe U} (hY:YOK W D P Y m) {S:TMe U→Prop} (hS:∀ m2,Q2m W P tc.code (QI (TTV.er D m.tk) tm) nt (m.er D) (m2.er D)→S m2):Qee m (Qmz D C K X Y tc rc tm nt m) (fun o=>∃ m2,o=.val (Qpv rc) m2∧S m2):=by
 intro β k d r hr
 have hm:P.follows .mixedOrders=true:=by rw [hP];exact Qd7
 have one:=Jw hP hm hT hD hK hX tc (st:=⟨tm,m,nt,[]⟩) hY hr
 rcases one with ⟨e,s,hs,hk,hx⟩ | ⟨s,hp,⟨s',hs',ha⟩,hx⟩
 ·cases e with
  | normal =>
   dsimp only at hk
   cases hd:Q5i s.df [] with
   | false=>rw [hd] at hk;cases hk
   | true =>
    rw [hd,C6] at hk
    exact ⟨.val (Qpv rc) s.m,⟨s.m,Z,hS s.m (fun E Q n hP' hW h0 hq=>hx E none n Q ⟨hP',hW,Z⟩ h0 (hq _ _ (.inl Z) (Gr hd) Z))⟩,hs.sfm,hk⟩
  | ret=>cases hk
  | exit j=>cases hk
  | goto l=>cases hk
  | panic c=>cases hk
  | outgrown=>cases hk
 ·have es:s'=s:=by
   rcases ha with e | ⟨v,e⟩
   ·exact Cv e
   ·cases e
  subst es
  dsimp only at hp
  cases hd:Q5i s'.df [] with
  | false=>rw [hd] at hp;cases hp
  | true =>
   rw [hd,C6] at hp
   refine ⟨.val (Qpv rc) s'.m,⟨s'.m,rfl,hS s'.m (fun E Q n hP' hW h0 hq=>hx E none n Q ⟨hP',hW,rfl⟩ h0 (fun s2 hs2 e=>?_) (fun v s2 _ e=>by cases e))⟩,hs'.sfm,hp⟩
   have:=Cv e
   subst this
   exact hq _ _ (.inr Z) (Gr hd) Z
theorem recOp_ok {P:Program} {ops:Array Oper} {d:Nat×Option Nat} {nt id:Nat} (h:Qf1 ops.toList=some d) (hd:Qig d nt=true):∃ put,Q9x P nt id ops put∧∀ (u:Value),u.oneCell'=true→∀ (E:Env) (V:Vu) (a:Act) (w:World) (tm:List (Nat×TV)) (hp:List (Nat×HB)) (tk:List (Nat×Option Tok)) (nx:Nat) (tkT:List (Nat×TTok U)) (tmT:List (Nat×TTV U)),tm=QI (TTV.er D tkT) tmT→Rel E V ⟨tm,hp,tk,nx,nt,[]⟩ a w→Rel E V ⟨QI (TTV.er D tkT) (Qif d u tmT),hp,tk,nx,nt,[]⟩ (put a u) w:=by
 obtain ⟨l⟩:=ops
 dsimp only at h
 unfold Qf1 at h
 obtain ⟨hd1,hd2⟩:=C0.1 hd
 split at h
 ·rename_i d' xs ts ty pos af
  split at h
  ·rename_i hx;cases h
   have ex:=Sg (ys:=#[]) hx
   subst ex
   refine ⟨_,recReg1,fun u hu E V a w tm hp tk nx tkT tmT e hr=>?_⟩
   subst e
   exact hr.put (x:=.v (.one (.d (.v u)))) (C3 hd1) (J4 hu)
  ·cases h
 ·rename_i d' xs ts ty pos af d2 d1 ty2 pos2 af2
  split at h
  ·rename_i hx
   cases hq:Nat.beq d1 d' with
   | false=>rw [hq] at h;cases h
   | true =>
    rw [hq] at h;cases h
    have e:=C4 hq
    subst e
    have ex:=Sg (ys:=#[]) hx
    subst ex
    refine ⟨_,recReg2 (C3 hd1),fun u hu E V a w tm hp tk nx tkT tmT e hr=>?_⟩
    subst e
    have h1:=hr.put (d:=d1) (x:=.v (.one (.d (.v u)))) (C3 hd1) (J4 hu)
    exact Rel.put (d:=d2) h1 (x:=.v (.one (.d (.v u)))) (C3 hd2) (J4 hu)
  ·cases h
 ·cases h
theorem inlX_ok {W:Wd} {P:Program} (hP:P=Tryz.prog) (hT:C.T.OK P) (hD:D.OK) (hK:Q0v W D P K) {X:Qr2 U} (hX:WO W D P X) {I:List (Nat×IH U)} (hI:IOK P I):WO W D P (Qmy D C K X I):=by
 intro Y c args m xo hY hx
 unfold Qmy at hx
 split at hx
 ·cases hx
 ·rename_i f
  split at hx
  ·cases hx
  ·rename_i ih hih
   obtain ⟨hf,hen⟩:=hI.get hih
   split at hx
   ·cases hx
   ·rename_i c' tc hc
    obtain ⟨hc1,hc2⟩:=WL hc
    cases hle:Nat.ble args.length ih.fn.ntmps with
    | false=>rw [hle] at hx;cases hx
    | true =>
     rw [hle,C6] at hx
     have hle':=C3 hle
     split at hx
     ·cases hx
      intro β k d r
      exact inlS_ok hP hT hD hK hX hY hf hen hc1 hc2 hle' k d r
     ·split at hx
      ·cases hx
      ·rename_i L s0 hl
       cases hd:Q5i s0.df [] with
       | false=>rw [hd] at hx;cases hx
       | true =>
        rw [hd] at hx;cases hx
        intro β k d r
        exact inlL_ok hP hT hD hK hX hY hf hen hc1 hc2 hle' hl (Gr hd) k d r
     ·split at hx
      ·cases hx
      ·rename_i L s0 hl
       split at hx
       ·cases hx
       ·rename_i Ld hld
        cases hd:Q5i s0.df [] with
        | false=>rw [hd] at hx;cases hx
        | true =>
         rw [hd] at hx;cases hx
         intro β k d r
         exact inlP_ok hP hT hD hK hX hY hf hen hc1 hc2 hle' hl hld (Gr hd) k d r
 ·rename_i f u
  split at hx
  ·cases hx
  ·rename_i ih hih
   obtain ⟨hf,hen⟩:=hI.get hih
   split at hx
   ·rename_i c' tc is hc hz
    obtain ⟨hc1,hc2⟩:=WL hc
    have ea:=Qao hz
    subst ea
    cases hle:(Nat.ble (Zi (U:=U) is).length ih.fn.ntmps&&Qiw ih.fn) with
    | false=>rw [hle] at hx;cases hx
    | true =>
     rw [hle,C6] at hx
     obtain ⟨l1,l2⟩:=C0.1 hle
     have hle':is.length≤ih.fn.ntmps:=by
      have:=C3 l1
      unfold Zi at this
      simpa using this
     have hres:ih.fn.results.toList=[]:=by
      unfold Qiw at l2
      exact Pc.1 l2
     split at hx
     ·rename_i d tb hrc
      cases hd:(Qig d ih.fn.ntmps&&(u.getD .nilIface).oneCell') with
      | false=>rw [hd] at hx;cases hx
      | true =>
       rw [hd,C6] at hx
       cases hx
       obtain ⟨d1,d2⟩:=C0.1 hd
       have hbody:∃ id ops,Qf1 ops.toList=some d∧ih.fn.body=some (.seq (.region id ops false) tb.code):=by
        unfold Qnv at hrc
        split at hrc
        ·rename_i id ops b
         split at hrc
         ·rename_i d' hd';cases hrc
          exact ⟨id,ops,hd',by rw [hc2,← hc1];rfl⟩
         ·cases hrc
        ·cases hrc
       obtain ⟨id,ops,hro,hbody⟩:=hbody
       obtain ⟨put,hreg,hput⟩:=recOp_ok (U:=U) (D:=D) (P:=P) (id:=id) hro d1
       have:=Qez (rc:=true) (tc:=tb) (tm:=Qif d (u.getD .nilIface) (JD 0 (Zi is))) (nt:=ih.fn.ntmps) hP hT hD hK hX hY (S:=fun m2=>DefM W P f is u (m.er D) (m2.er D) true) (fun m2 h=>DefM.of_rec hf hbody hen hle' hres hreg (fun E V a w hr=>hput _ d2 E V a w _ _ _ _ m.tk (JD 0 (Zi is)) (by rw [Xn,Q6w]) hr) h hP)
       intro β k dd r hr
       obtain ⟨q,⟨m2,rfl,q1⟩,q2,q3⟩:=this k dd r hr
       exact ⟨_,⟨is,true,m2,Z,Z,q1⟩,q2,q3⟩
     ·cases hx
      have:=Qez (rc:=false) (tc:=tc) (tm:=JD 0 (Zi is)) (nt:=ih.fn.ntmps) hP hT hD hK hX hY (S:=fun m2=>DefM W P f is u (m.er D) (m2.er D) false) (fun m2 h=>DefM.of_rest hf hc2 hen hle' hres (by
        rw [Xn,Q6w,hc1] at h
        exact h) hP)
      intro β k dd r hr
      obtain ⟨q,⟨m2,rfl,q1⟩,q2,q3⟩:=this k dd r hr
      exact ⟨_,⟨is,false,m2,Z,Z,q1⟩,q2,q3⟩
   ·cases hx
theorem Gm {W:Wd} {P:Program} {T X:Qr2 U} (hT:WO W D P T) (hX:WO W D P X):WO W D P (Qp9 T X):=by
 intro Y c args m xo hY h
 unfold Qp9 at h
 split at h
 ·rename_i h';cases h;exact hT Y c args m _ hY h'
 ·exact hX Y c args m xo hY h
theorem Gd {W:Wd} {P:Program} (hP:P=Tryz.prog) (hT:C.T.OK P) (hD:D.OK) (hK:Q0v W D P K) {T:Qr2 U} (hTb:WO W D P T) {I:List (Nat×IH U)} (hI:IOK P I):∀ n,WO W D P (Qoh D C K T I n)
 | 0=>hTb
 | n+1=>Gm hTb (inlX_ok hP hT hD hK (Gd hP hT hD hK hTb hI n) hI)
end
end
end Go.Proofs.YtjcfppnjamjjhaaGreatDoor
