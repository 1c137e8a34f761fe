/- Part 3 of the proof: rules, mirrors and plain laws. The card of TextOffsets is proved here: for all strings the law returns true, and the arguments read behind the call as they did before; condition: the listed package-level variables hold what the text of the program lays (tied). -/
import Derived.Test.YtjcfppnjamjjhaaGreatDoorK52
import Derived.Test.YtjcfppnjamjjhaaGreatDoorProg
set_option maxHeartbeats 2000000
set_option maxRecDepth 100000
set_option linter.unusedSimpArgs false
set_option linter.unusedVariables false
set_option linter.unusedSectionVars false
namespace Go.Proofs.YtjcfppnjamjjhaaGreatDoor
noncomputable section
open Go.RowKit
section
variable {U:Univ}
structure Sfx (a b:TSt U):Prop where
 tm:∃ p,b.tm=p++a.tm
 es:∃ p,b.m.es=p++a.m.es
 tk:∃ p,b.m.tk=p++a.m.tk
 nx:a.m.nx≤b.m.nx
 nt:b.nt=a.nt
 df:a.df=[]∨b.df=a.df
theorem Sfx.refl (a:TSt U):Sfx a a:=⟨⟨[],rfl⟩,⟨[],rfl⟩,⟨[],rfl⟩,Ck _,rfl,.inr rfl⟩
theorem Sfx.trans {a b c:TSt U} (h:Sfx a b) (k:Sfx b c):Sfx a c:=by
 obtain ⟨⟨p1,e1⟩,⟨p2,e2⟩,⟨p3,e3⟩,h4,h5,h6⟩:=h
 obtain ⟨⟨q1,f1⟩,⟨q2,f2⟩,⟨q3,f3⟩,k4,k5,Qpy⟩:=k
 exact ⟨⟨q1++p1,by rw [f1,e1,Cy]⟩,⟨q2++p2,by rw [f2,e2,Cy]⟩,⟨q3++p3,by rw [f3,e3,Cy]⟩,Ca h4 k4,k5.trans h5,by
  rcases h6 with h | h
  ·exact .inl h
  ·rcases Qpy with k | k
   ·exact .inl (h.symm.trans k)
   ·exact .inr (k.trans h)⟩
theorem Sfx.put (st:TSt U) (dst:Option Nat) (x:TTV U):Sfx st ⟨WR dst x st.tm,st.m,st.nt,st.df⟩:=by
 refine ⟨?_,⟨[],Z⟩,⟨[],Z⟩,Ck _,Z,.inr Z⟩
 cases dst with
 | none=>exact ⟨[],rfl⟩
 | some d=>exact ⟨[(d,x)],rfl⟩
theorem Sfx.next (st:TSt U) (dst:Option Nat) (r:OR U) (h:st.m.nx≤r.nx):Sfx st (Q69 st dst r):=by
 refine ⟨?_,⟨r.es,Z⟩,?_,h,Z,.inr Z⟩
 ·cases dst with
  | none=>exact ⟨[],rfl⟩
  | some d=>exact ⟨[(d,r.x)],rfl⟩
 ·show ∃ p,YT r.tk st.m.tk=p++st.m.tk
  cases r.tk with
  | none=>exact ⟨[],rfl⟩
  | some q=>exact ⟨[q],rfl⟩
inductive CalT where
 | fn (f:FuncId)
 | yld (L:Nat)
 | dfr (f:FuncId) (u:Option Value)
structure CO (U:Univ) where
 run:{β:Type}→(TTV U→TMe U→Option β)→(Value→TMe U→Option β)→Option β
abbrev Qqn (U:Univ):=Nat→List (TAV U)→TMe U→Option (CO U)
abbrev Qqo (U:Univ):=Qqn U→CalT→List (TAV U)→TMe U→Option (CO U)
inductive OutT (U:Univ) where
 | val (x:TTV U) (m:TMe U)
 | die (v:Value) (m:TMe U)
def OutT.m:OutT U→TMe U
 | .val _ m=>m
 | .die _ m=>m
def OutT.to {β:Type} (k:TTV U→TMe U→Option β) (d:Value→TMe U→Option β):OutT U→Option β
 | .val x m=>k x m
 | .die v m=>d v m
def OutT.er (D:Codec U):OutT U→OutM
 | .val x m=>.val (x.er D m.tk) (m.er D)
 | .die v m=>.die v (m.er D)
structure SfM (m m':TMe U):Prop where
 es:∃ p,m'.es=p++m.es
 tk:∃ p,m'.tk=p++m.tk
 nx:m.nx≤m'.nx
theorem SfM.refl (m:TMe U):SfM m m:=⟨⟨[],rfl⟩,⟨[],rfl⟩,Ck _⟩
theorem SfM.trans {a b c:TMe U} (h:SfM a b) (k:SfM b c):SfM a c:=by
 obtain ⟨⟨p2,e2⟩,⟨p3,e3⟩,h4⟩:=h
 obtain ⟨⟨q2,f2⟩,⟨q3,f3⟩,k4⟩:=k
 exact ⟨⟨q2++p2,by rw [f2,e2,Cy]⟩,⟨q3++p3,by rw [f3,e3,Cy]⟩,Ca h4 k4⟩
theorem Sfx.sfm {a b:TSt U} (h:Sfx a b):SfM a.m b.m:=⟨h.es,h.tk,h.nx⟩
def Qm0 (E:Env) (o:Oper) (st:St):OutM→Prop
 | .val x m=>OpOK E o st x m
 | .die v m=>OpD E o st v m
def Qe4 (m:TMe U) (xo:CO U) (S:OutT U→Prop):Prop:=∀ ⦃β:Type⦄ (k:TTV U→TMe U→Option β) (d:Value→TMe U→Option β) (r:β),xo.run k d=some r→∃ o,S o∧SfM m o.m∧o.to k d=some r
def Qgt (W:Wd) (D:Codec U) (P:Program) (L:Nat) (args:List (TAV U)) (m:TMe U) (o:OutT U):Prop:=∀ (E:Env) (st:St) (dd:Option Nat) (ty:TypeId) (pos:String) (af:Array Edge) (g:Option (Nat×Bool)) (x:Operand) (ars:Array Operand) (ats:Array TypeId),E.P=P→W.p E.V0.S E.w0 →
 ev st.tm x=some (.v (.one (.yld L)))→Yw st.tm ars.toList=some (args.map (TAV.er D m.tk))→st.mem=m.er D→Qm0 E ⟨dd,.call { callee:=.value x,args:=ars,argTypes:=ats },ty,pos,af,g⟩ st (o.er D)
def Zg (is:List Nat):List (TAV U):=is.map fun i=>.one (.ptr i 0)
def Qcf (W:Wd) (D:Codec U) (P:Program) (c:CalT) (args:List (TAV U)) (m:TMe U) (o:OutT U):Prop:=match c with
 | .fn f=>CallO W P f (args.map (TAV.er D m.tk)) (m.er D) (o.er D)
 | .yld L=>Qgt W D P L args m o
 | .dfr f u=>∃ is rc m2,args=Zg is∧o=.val (Qpf rc) m2∧DefM W P f is u (m.er D) (m2.er D) rc
def YOK (W:Wd) (D:Codec U) (P:Program) (Y:Qqn U) (m0:TMe U):Prop:=∀ L args m xo,SfM m0 m→Y L args m=some xo→Qe4 m xo (Qgt W D P L args m)
theorem YOK.mono {W:Wd} {D:Codec U} {P:Program} {Y:Qqn U} {m m':TMe U} (h:YOK W D P Y m) (k:SfM m m'):YOK W D P Y m':=fun L args m2 xo hm hx=>h L args m2 xo (k.trans hm) hx
def WN (W:Wd) (D:Codec U) (P:Program) (X:Qqo U):Prop:=∀ Y c args m xo,YOK W D P Y m→X Y c args m=some xo→Qe4 m xo (Qcf W D P c args m)
def Wo (tk' tk:List (Nat×TTok U)):List (Nat×Nat):=(tk'.take (tk'.length - tk.length)).map fun p=>(p.1,p.2.ver)
def YX (ap:List (Nat×Nat)) (tm:List (Nat×TTV U)):Bool:=ap.all fun p=>!(tm.any fun q=>q.2.hasApp p.1 p.2)
def Q7d (caps:List (Nat×Nat)):List (TAV U):=caps.map fun p=>.one (.ptr p.1 p.2)
def Qgm (X:Qqo U) (Y:Qqn U) (st:TSt U) (o:Oper):Option (CO U):=match o.op with
 | .call { callee:=.value x,args:=os,argTypes:=_ }=>match YB st.tm x with
  | some (.v (.one (.fn f caps)))=>match Q1l st.tm os.toList with
   | some vs=>X Y (.fn f) (vs++Q7d caps) st.m
   | none=>none
  | some (.v (.one (.raw (.yld L))))=>match Q1l st.tm os.toList with
   | some vs=>Y L vs st.m
   | none=>none
  | _=>none
 | _=>none
def Qkv (st:TSt U) (o:Oper):Option Value:=match o.op with
 | .panic x=>match YB st.tm x with
  | some (.v (.one (.c (.v (.iface T v)))))=>some (.iface T v)
  | _=>none
 | _=>none
def Qbx:List (Nat×Nat)→Option (List Nat)
  | []=>some []
  | (i,k)::r=>cond (Nat.beq k 0) (match Qbx r with
    | some l=>some (i::l)
    | none=>none) none
def Qo7 (st:TSt U) (o:Oper):Option (List Nat):=match o with
 | ⟨none,.defer { callee:=.value x,args:=os,argTypes:=_ },_,_,_,none⟩=>match os.toList,YB st.tm x with
  | [],some (.v (.one (.fn f caps)))=>match Qbx caps with
   | some is=>some (f::is)
   | none=>none
  | _,_=>none
 | _=>none
variable (D:Codec U) (C:TCfg U) (K:FuncId→List (TAV U)→Option (KR U)) (X:Qqo U) (Y:Qqn U) (rn:Option Nat)
def Q5u {β:Type} (o:Oper) (st:TSt U) (p:Value→TSt U→Option β) (k:TSt U→Option β):Option β :=
 match Qkq D C st o with
 | some r=>cond (JL st o.dst) (r.run fun x=>k ⟨WR o.dst x st.tm,st.m,st.nt,st.df⟩) none
 | none=>match Qn4 D C K st o with
  | some e=>e.run fun q=>cond (Q3g st (q.es++st.m.es) q.tk&&JL st o.dst&&Nat.ble st.m.nx q.nx) (k (Q69 st o.dst q)) none
  | none=>match Qgm X Y st o with
   | some xo=>cond (JL st o.dst) (xo.run (fun x m=>cond (YX (Wo m.tk st.m.tk) st.tm) (k ⟨WR o.dst x st.tm,m,st.nt,st.df⟩) none) fun v m=>cond (YX (Wo m.tk st.m.tk) st.tm) (p v ⟨st.tm,m,st.nt,st.df⟩) none) none
   | none=>match Qkv st o with
    | some v=>p v st
    | none=>match rn,st.df,Qo7 st o with
     | none,[],some df=>k ⟨st.tm,st.m,st.nt,df⟩
     | _,_,_=>none
def K7 (o:Oper) (st:TSt U):TSt U:=⟨WR o.dst (.tup []) st.tm,st.m,st.nt,st.df⟩
def setB (st:TSt U) (d:Nat) (b:Bool):TSt U:=⟨(d,Qpf b)::st.tm,st.m,st.nt,st.df⟩
def Q1w {β:Type} (ops:Array Oper) (p:Value→TSt U→Option β):List Oper→TSt U→(TSt U→Option β)→Option β
 | [],st,k=>k st
 | o::os,st,k=>match o.guard with
  | none=>Q5u D C K X Y rn o st p fun s=>Q1w ops p os s k
  | some (j,b)=>match (ops[j]?).bind (·.dst) with
   | none=>none
   | some d=>match Qpt st.tm d with
    | some (.v (.one (.c (.v (.bool c)))))=>cond c
     (cond b (Q5u D C K X Y rn o (setB st d true) p fun s=>Q1w ops p os s k) (Q1w ops p os (K7 o (setB st d true)) k))
     (cond b (Q1w ops p os (K7 o (setB st d false)) k) (Q5u D C K X Y rn o (setB st d false) p fun s=>Q1w ops p os s k))
    | some (.tup [])=>Q1w ops p os (K7 o st) k
    | _=>none
variable {D C K X Y rn}
theorem cur_front {p tk:List (Nat×TTok U)} {j u:Nat} (h:(j,u)∉p.map fun q=>(q.1,q.2.ver)):cur (p++tk) j u=none∨cur (p++tk) j u=cur tk j u:=by
 induction p with
 | nil=>exact .inr rfl
 | cons q p ih =>
  obtain ⟨i,T⟩:=q
  rw [CF,Cq] at h
  show cur ((i,T)::(p++tk)) j u=none∨cur ((i,T)::(p++tk)) j u=_
  rw [Zm]
  by_cases e:i=j
  ·rw [Cc e]
   by_cases e2:T.ver=u
   ·exact (h (.inl (by rw [e,e2]))).elim
   ·rw [C8 e2];exact .inl rfl
  ·rw [C8 e];exact ih fun hm=>h (.inr hm)
theorem GR {D:Codec U} {tm:List (Nat×TTV U)} {tk tk':List (Nat×TTok U)} (hf:YX (Wo tk' tk) tm=true) (hc:∃ p,tk'=p++tk) {t:Nat} {z:TTV U} (hz:Qpt tm t=some z) (V:Vu) (w:World) (v:Value) (hv:(z.er D tk).rel V w v):(z.er D tk').rel V w v:=by
 obtain ⟨p,rfl⟩:=hc
 have e:Wo (p++tk) tk=p.map fun q=>(q.1,q.2.ver):=by
  unfold Wo
  rw [C9,Nat.add_sub_cancel,List.take_left]
 rw [e] at hf
 refine ZL (fun j u hu=>cur_front fun hm=>?_) hv
 have h1:=Cg.1 hf (j,u) hm
 have h2:tm.any (fun q=>q.2.hasApp j u)=false:=by simpa using h1
 exact Pk.1 h2 (t,z) (JO hz) hu
theorem Qby (tk:List (Nat×TTok U)) (caps:List (Nat×Nat)):(Q7d caps).map (TAV.er D tk)=Zu caps:=by
 unfold Q7d Zu
 rw [CJ];rfl
structure Fit (W:Wd) (P:Program) (rn:Option Nat) (E:Env) (ro:Option Nat):Prop where
 P:E.P=P
 W:W.p E.V0.S E.w0
 rn:DE E rn ro
theorem Qc0 {W:Wd} {P:Program} (hX:WN W D P X) {st:TSt U} (hY:YOK W D P Y st.m) {o:Oper} {xo:CO U} (h:Qgm X Y st o=some xo):Qe4 st.m xo fun r=>∀ E,E.P=P→W.p E.V0.S E.w0→Qm0 E o (st.er D) (r.er D):=by
 unfold Qgm at h
 split at h
 ·rename_i x os ts hop
  obtain ⟨dd,op,ty,pos,af,g⟩:=o
  dsimp only at hop
  subst hop
  split at h
  ·rename_i f caps hx
   split at h
   ·rename_i vs has
    intro β k d r hr
    obtain ⟨q,h1,h2,h3⟩:=hX Y _ _ _ _ hY h k d r hr
    refine ⟨q,fun E hP hW=>?_,h2,h3⟩
    subst hP
    have h1':CallO W E.P f ((vs++Q7d caps).map (TAV.er D st.m.tk)) (st.m.er D) (q.er D):=h1
    rw [Cr,Qby] at h1'
    cases q with
    | val y m=>exact OpOK.callXW hW (Yv (D:=D) hx) (GQ (D:=D) has) h1'
    | die v m=>exact OpD.callXW hW (Yv (D:=D) hx) (GQ (D:=D) has) h1'
   ·cases h
  ·rename_i L hx
   split at h
   ·rename_i vs has
    intro β k d r hr
    obtain ⟨q,h1,h2,h3⟩:=hY _ _ _ _ (SfM.refl _) h k d r hr
    exact ⟨q,fun E hP hW=>h1 E (st.er D) dd ty pos af g x os ts hP hW (Yv (D:=D) hx) (GQ (D:=D) has) Z,h2,h3⟩
   ·cases h
  ·cases h
 ·cases h
theorem rd_run1 {o:Oper} {st:TSt U} {r:RdR U} {β:Type} {k:TTV U→Option β} {v:β} (hk:r.run k=some v):∃ x,k x=some v∧∀ E,RdOK D E o st r→RO E o (st.er D) (x.er D st.m.tk):=by
 cases r with
 | val x=>exact ⟨x,hk,fun E h=>h⟩
 | grd g x=>obtain ⟨h1,h2⟩:=KM hk;exact ⟨x,h2,fun E h=>h h1⟩
 | ix oo f=>obtain ⟨a,h1,h2⟩:=YS hk;exact ⟨f a,h2,fun E h=>h a h1⟩
theorem ef_run1 {o:Oper} {st:TSt U} {r:EfR U} {β:Type} {k:OR U→Option β} {v:β} (hk:r.run k=some v):∃ x,k x=some v∧∀ E,EfOK D E o st r→OROK D E o st x:=by
 cases r with
 | val x=>exact ⟨x,hk,fun E h=>h⟩
 | grd g x=>obtain ⟨h1,h2⟩:=KM hk;exact ⟨x,h2,fun E h=>h h1⟩
 | ix oo f=>obtain ⟨a,h1,h2⟩:=YS hk;exact ⟨f a,h2,fun E h=>h a h1⟩
theorem Qex {E:Env} {st:TSt U} {o:Oper} {v:Value} (h:Qkv st o=some v):OpD E o (st.er D) v (st.er D).mem:=by
 unfold Qkv at h
 split at h
 ·rename_i x hop
  split at h
  ·rename_i T u hx;cases h
   obtain ⟨dd,op,ty,pos,af,g⟩:=o
   dsimp only at hop
   subst hop
   exact OpD.panic (Yv (D:=D) hx)
  ·cases h
 ·cases h
theorem Qbw:∀ {caps:List (Nat×Nat)} {is:List Nat},Qbx caps=some is→caps=is.map fun i=>(i,0)
  | [],is,h=>by cases h;rfl
  | (i,k)::r,is,h=>by
    have h':cond (Nat.beq k 0) (match Qbx r with
      | some l=>some (i::l)
      | none=>none) none=some is:=h
    cases hk:Nat.beq k 0 with
    | false=>rw [hk] at h';cases h'
    | true =>
      rw [hk,C7] at h'
      have e:=C4 hk
      subst e
      cases hl:Qbx r with
      | none=>rw [hl] at h';cases h'
      | some l=>rw [hl] at h';cases h';rw [Qbw hl];rfl
theorem XL.deferT {E:Env} {n:Nat} {ops:Array Oper} {Q:Exit→Act→World→Prop} {rest:List Oper} {st:St} {pos:String} {af:Array Edge} {ty:TypeId} {x:Operand} {ats:Array TypeId} {f:Nat} {is:List Nat} (hx:ev st.tm x=some (.v (.one (.fn f (is.map fun i=>(i,0)))))) (hdf:st.df=[])
  (k:XL E none n ops Q rest ⟨st.tm,st.hp,st.tk,st.nx,st.nt,f::is⟩):XL E none n ops Q (⟨none,.defer { callee:=.value x,args:=#[],argTypes:=ats },ty,pos,af,none⟩::rest) st:=by
 intro V a w hr
 unfold wpListIn
 rw [Cc (by simp [Region.wanted])]
 refine ⟨fun _ _=>trivial,?_⟩
 obtain ⟨hv1,hv2⟩:=hr.ev hx
 have hps:((is.map fun i=>((i,0):Nat×Nat)).map fun p=>Value.pointer (some ⟨V.ι p.1,p.2,none⟩))=is.map (KG V):=by rw [CJ];rfl
 have hrun:(Oper.semAt (Qr5 none).round a.eval ⟨none,.defer { callee:=.value x,args:=#[],argTypes:=ats },ty,pos,af,none⟩).run E.P w=.ok (.defer (Qdu f (is.map (KG V)))) w:=by
  simp [Qr5,Oper.semAt_none,execOp,resolve,hv2,Deferred.ofValue,← hps]
 rw [hrun]
 refine k V _ w ⟨hr.h,hr.nx,hr.nt,?_,hr.tm⟩
 obtain ⟨bs,h1,h2,h3⟩:=hr.df.of_nil hdf
 exact .inr ⟨f,is,[],bs,rfl,fun i hi=>hv1 (i,0) (Cv.2 ⟨i,hi,rfl⟩),by simp only [List.map_nil,P7];rw [← h1];rfl,by simpa using ⟨h2,h3⟩⟩
section
variable {ops:Array Oper} {rest:List Oper} {β:Type} {r:β}
theorem Qeh (o:Oper) (st:TSt U):StW (XW (st.er D) o.dst (.tup []) (st.er D).mem) ((K7 o st).er D):=by
 unfold K7
 cases o.dst with
 | none=>exact StW.refl _
 | some d =>
  refine ⟨fun t y hy=>.inr ⟨y,?_,fun _ _ _ h=>h⟩,fun i B h=>⟨B,h,fun _ _ _ h=>h⟩,fun i T h=>h,Z,Z,Z⟩
  show Qpt ((d,TV.tup [])::QA d (st.er D).tm) t=some y
  rw [Jm];exact hy
theorem putR_er (st:TSt U) (dst:Option Nat) (x:TTV U):StW (XW (st.er D) dst (x.er D st.m.tk) (st.er D).mem) ((⟨WR dst x st.tm,st.m,st.nt,st.df⟩:TSt U).er D):=by
 cases dst with
 | none=>exact StW.refl _
 | some d =>
  refine ⟨fun t y hy=>.inr ⟨y,?_,fun _ _ _ h=>h⟩,fun i B h=>⟨B,h,fun _ _ _ h=>h⟩,fun i T h=>h,Z,Z,Z⟩
  show Qpt ((d,x.er D st.m.tk)::QA d (st.er D).tm) t=some y
  rw [Jm];exact hy
theorem Qay {st:TSt U} {d:Option Nat} (h:JL st d=true):Zl (st.er D) d=true:=by
 cases d with
 | none=>rfl
 | some d=>exact h
theorem put_weak {st:TSt U} {dst:Option Nat} {x:TTV U} {m:TMe U} (h:∀ t z,Qpt st.tm t=some z→∀ V w v,(z.er D st.m.tk).rel V w v→(z.er D m.tk).rel V w v):StW (XW (st.er D) dst (x.er D m.tk) (m.er D)) ((⟨WR dst x st.tm,m,st.nt,st.df⟩:TSt U).er D):=by
 have old:∀ t y,Qpt (QI (TTV.er D m.tk) st.tm) t=some y→y=.unk∨∃ x,Qpt (QI (TTV.er D st.m.tk) st.tm) t=some x∧∀ V w v,x.rel V w v→y.rel V w v:=fun t y hy=>by
  rw [QL] at hy ⊢
  cases hz:Qpt st.tm t with
  | none=>rw [hz] at hy;cases hy
  | some z=>rw [hz] at hy;cases hy;exact .inr ⟨_,rfl,h t z hz⟩
 cases dst with
 | none=>exact ⟨old,fun i B h=>⟨B,h,fun _ _ _ h=>h⟩,fun i T h=>h,rfl,rfl,rfl⟩
 | some d =>
  refine ⟨fun t y hy=>?_,fun i B h=>⟨B,h,fun _ _ _ h=>h⟩,fun i T h=>h,Z,Z,Z⟩
  have hy':Qpt ((d,x.er D m.tk)::QI (TTV.er D m.tk) st.tm) t=some y:=hy
  show y=.unk∨∃ z,Qpt ((d,x.er D m.tk)::QA d (st.er D).tm) t=some z∧_
  rw [Jm]
  rw [Q1] at hy' ⊢
  by_cases e:d=t
  ·rw [Cc e] at hy' ⊢;cases hy';exact .inr ⟨_,rfl,fun _ _ _ h=>h⟩
  ·rw [C8 e] at hy' ⊢;exact old t y hy'
theorem Qbr {st:TSt U} {m:TMe U} (h:∀ t z,Qpt st.tm t=some z→∀ V w v,(z.er D st.m.tk).rel V w v→(z.er D m.tk).rel V w v):StW (⟨(st.er D).tm,(m.er D).hp,(m.er D).tk,(m.er D).nx,st.nt,st.df⟩:St) ((⟨st.tm,m,st.nt,st.df⟩:TSt U).er D) :=
 ⟨fun t y hy=>by
  have hy':Qpt (QI (TTV.er D m.tk) st.tm) t=some y:=hy
  rw [QL] at hy'
  cases hz:Qpt st.tm t with
  | none=>rw [hz] at hy';cases hy'
  | some z =>
   rw [hz] at hy';cases hy'
   exact .inr ⟨z.er D st.m.tk,by show Qpt (QI _ st.tm) t=_;rw [QL,hz];rfl,h t z hz⟩,fun i B h=>⟨B,h,fun _ _ _ h=>h⟩,fun i T h=>h,rfl,rfl,rfl⟩
def OneL (D:Codec U) (W:Wd) (P:Program) (rn:Option Nat) (ops:Array Oper) (l0 l1:List Oper) {β:Type} (st:TSt U) (p:Value→TSt U→Option β) (k:TSt U→Option β) (r:β):Prop :=
 (∃ s,Sfx st s∧k s=some r∧∀ E ro n Q,Fit W P rn E ro→XL E ro n ops Q l1 (s.er D)→XL E ro n ops Q l0 (st.er D))∨(∃ v s,Sfx st s∧p v s=some r∧∀ E ro n Q,Fit W P rn E ro→XQ E Q (.panic (ZT v)) (s.er D)→XL E ro n ops Q l0 (st.er D))
theorem Qab {P:Program} (hT:C.T.OK P) (hD:D.OK) {W:Wd} (hK:Q0s W D P K) (hX:WN W D P X) {o:Oper} {st:TSt U} (hY:YOK W D P Y st.m) {p:Value→TSt U→Option β} {k:TSt U→Option β} (h:Q5u D C K X Y rn o st p k=some r) (hg:Qx ops (st.er D).tm o=some true) :
  OneL D W P rn ops (o::rest) rest st p k r:=by
 unfold Q5u at h
 split at h
 ·rename_i rd hrd
  cases hd:JL st o.dst with
  | false=>rw [hd] at h;cases h
  | true =>
   rw [hd,C7] at h
   obtain ⟨x,h1,h2⟩:=rd_run1 (D:=D) (o:=o) (st:=st) h
   exact .inl ⟨_,Sfx.put st o.dst x,h1,fun E ro n Q f hl=>Q9q hg (Q9 (h2 E (Qcn (D:=D) (f.P.symm▸hT) hD hrd))) (Qay hd) (Dy (putR_er st o.dst x) hl)⟩
 ·split at h
  ·rename_i e he
   obtain ⟨q,h1,h2⟩:=ef_run1 (D:=D) (o:=o) (st:=st) h
   cases hc:(Q3g st (q.es++st.m.es) q.tk&&JL st o.dst&&Nat.ble st.m.nx q.nx) with
   | false=>rw [hc] at h1;cases h1
   | true =>
    rw [hc,C7] at h1
    obtain ⟨b12,b3⟩:=C0.1 hc
    obtain ⟨b1,b2⟩:=C0.1 b12
    exact .inl ⟨_,Sfx.next st o.dst q (C3 b3),h1,fun E ro n Q f hl=>(h2 E (Qht (D:=D) (f.P.symm▸hT) hD f.W (f.P.symm▸hK) he)).next b1 b2 hg hl⟩
  ·split at h
   ·rename_i xo hxo
    cases b1:JL st o.dst with
    | false=>rw [b1] at h;cases h
    | true =>
     rw [b1,C7] at h
     obtain ⟨q,q1,q2,h2⟩:=Qc0 hX hY hxo _ _ _ h
     cases q with
     | val x m =>
      dsimp only [OutT.to] at h2
      cases b2:YX (Wo m.tk st.m.tk) st.tm with
      | false=>rw [b2] at h2;cases h2
      | true =>
      rw [b2,C7] at h2
      refine .inl ⟨⟨WR o.dst x st.tm,m,st.nt,st.df⟩,⟨?_,q2.es,q2.tk,q2.nx,Z,.inr Z⟩,h2,fun E ro n Q f hl=>Q9q hg (q1 E f.P f.W) (Qay b1) (Dy ?_ hl)⟩
      ·cases o.dst with
       | none=>exact ⟨[],rfl⟩
       | some d=>exact ⟨[(d,x)],rfl⟩
      ·exact put_weak (fun t z hz V w v hv=>GR b2 q2.tk hz V w v hv)
     | die v m =>
      dsimp only [OutT.to] at h2
      cases b2:YX (Wo m.tk st.m.tk) st.tm with
      | false=>rw [b2] at h2;cases h2
      | true =>
      rw [b2,C7] at h2
      exact .inr ⟨v,⟨st.tm,m,st.nt,st.df⟩,⟨⟨[],Z⟩,q2.es,q2.tk,q2.nx,Z,.inr Z⟩,h2,fun E ro n Q f hq=>Qke (hp:=(m.er D).hp) (tk:=(m.er D).tk) (nx:=(m.er D).nx) hg (q1 E f.P f.W) (Gg (Qbr fun t z hz V w v hv=>GR b2 q2.tk hz V w v hv) hq)⟩
   ·split at h
    ·rename_i v hv
     exact .inr ⟨v,st,Sfx.refl st,h,fun E ro n Q f hq=>Qke (hp:=(st.er D).hp) (tk:=(st.er D).tk) (nx:=(st.er D).nx) hg (Qex hv) hq⟩
    ·split at h
     ·rename_i df hrn hdf hdt
      unfold Qo7 at hdt
      split at hdt
      ·split at hdt
       ·rename_i f caps hos hx
        split at hdt
        ·rename_i is hz;cases hdt
         have e:=Qbw hz
         subst e
         have eo:=Sf (ys:=#[]) hos
         subst eo
         refine .inl ⟨⟨st.tm,st.m,st.nt,f::is⟩,⟨⟨[],Z⟩,⟨[],Z⟩,⟨[],Z⟩,Ck _,Z,.inl hdf⟩,h,fun E ro n Q ft hl=>?_⟩
         have ero:ro=none:=ft.rn
         subst ero
         exact XL.deferT (st:=st.er D) (Yv (D:=D) hx) hdf hl
        ·cases hdt
       ·cases hdt
      ·cases hdt
     ·cases h
theorem UU (st:TSt U) (d:Nat) (b:Bool):Sfx st (setB st d b):=Sfx.put st (some d) (Qpf b)
theorem lk_setB (st:TSt U) (d:Nat) (b:Bool):Qpt ((setB st d b).er D).tm d=some (Qqt b):=by
 show Qpt ((d,Qqt b)::(st.er D).tm) d=_
 rw [Q1,Cc rfl]
theorem OneL.trans {l0 l1 l2:List Oper} {st s1:TSt U} {p:Value→TSt U→Option β} {k:TSt U→Option β} (hs:Sfx st s1) {W:Wd} {P:Program} (h1:∀ E ro n Q,Fit W P rn E ro→XL E ro n ops Q l1 (s1.er D)→XL E ro n ops Q l0 (st.er D)) (h2:OneL D W P rn ops l1 l2 s1 p k r):OneL D W P rn ops l0 l2 st p k r:=by
 rcases h2 with ⟨s,q1,q2,q3⟩ | ⟨v,s,q1,q2,q3⟩
 ·exact .inl ⟨s,hs.trans q1,q2,fun E ro n Q f hl=>h1 E ro n Q f (q3 E ro n Q f hl)⟩
 ·exact .inr ⟨v,s,hs.trans q1,q2,fun E ro n Q f hl=>h1 E ro n Q f (q3 E ro n Q f hl)⟩
theorem OneL.bind {l0 l1 l2:List Oper} {st s0:TSt U} {p:Value→TSt U→Option β} {k:TSt U→Option β} {f:TSt U→Option β} {W:Wd} {P:Program} (hs0:Sfx st s0) (he:∀ E ro n Q,Fit W P rn E ro→XL E ro n ops Q l0 (s0.er D)→XL E ro n ops Q l0 (st.er D)) (h1:OneL D W P rn ops l0 l1 s0 p f r) (h2:∀ s,Sfx s0 s→f s=some r→OneL D W P rn ops l1 l2 s p k r):OneL D W P rn ops l0 l2 st p k r:=by
 rcases h1 with ⟨s,q1,q2,q3⟩ | ⟨v,s,q1,q2,q3⟩
 ·exact OneL.trans (hs0.trans q1) (fun E ro n Q f hl=>he E ro n Q f (q3 E ro n Q f hl)) (h2 s q1 q2)
 ·exact .inr ⟨v,s,hs0.trans q1,q2,fun E ro n Q f hl=>he E ro n Q f (q3 E ro n Q f hl)⟩
theorem D6 {P:Program} (hT:C.T.OK P) (hD:D.OK) {W:Wd} (hK:Q0s W D P K) (hX:WN W D P X) {p:Value→TSt U→Option β}:∀ (rest:List Oper) {st:TSt U} {k:TSt U→Option β},YOK W D P Y st.m→Q1w D C K X Y rn ops p rest st k=some r→OneL D W P rn ops rest [] st p k r
 | [],st,k,hY,h=>.inl ⟨st,Sfx.refl st,h,fun E ro n Q f hl=>hl⟩
 | o::os,st,k,hY,h=>by
  unfold Q1w at h
  split at h
  ·rename_i hgd
   exact OneL.bind (Sfx.refl st) (fun E ro n Q f hl=>hl) (Qab (rest:=os) hT hD hK hX hY h (by unfold Qx;rw [hgd])) (fun s hs h'=>D6 hT hD hK hX os (hY.mono hs.sfm) h')
  ·rename_i j b hgd
   split at h
   ·cases h
   ·rename_i d hj
    split at h
    ·rename_i c hc
     have hlk:Qpt (st.er D).tm d=some (Qqt c):=by
      show Qpt (QI (TTV.er D st.m.tk) st.tm) d=_
      rw [QL,hc];rfl
     have hw:∀ b',Qx ops ((setB st d b').er D).tm o=some (b'==b):=fun b'=>by
      unfold Qx
      rw [hgd]
      dsimp only
      rw [hj]
      dsimp only
      rw [lk_setB]
     have cse:∀ b',c=b'→∀ E ro n Q,Fit W P rn E ro→XL E ro n ops Q (o::os) ((setB st d b').er D)→XL E ro n ops Q (o::os) (st.er D):=fun b' e E ro n Q f hl=>by
      subst e
      refine QZ hlk (fun ec=>?_) (fun ec=>?_)
      ·subst ec;exact hl
      ·subst ec;exact hl
     have run:∀ b',c=b'→Q5u D C K X Y rn o (setB st d b') p (fun s=>Q1w D C K X Y rn ops p os s k)=some r→(b'==b)=true→OneL D W P rn ops (o::os) [] st p k r:=fun b' ec h' e =>
      OneL.bind (UU st d b') (cse b' ec) (Qab (rest:=os) (st:=setB st d b') hT hD hK hX hY h' (by rw [hw,e])) (fun s hs h''=>D6 hT hD hK hX os (hY.mono hs.sfm) h'')
     have skip:∀ b',c=b'→Q1w D C K X Y rn ops p os (K7 o (setB st d b')) k=some r→(b'==b)=false→OneL D W P rn ops (o::os) [] st p k r:=fun b' ec h' e =>
      OneL.trans ((UU st d b').trans (Sfx.put _ o.dst _)) (fun E ro n Q f hl=>cse b' ec E ro n Q f (Qgu (st:=(setB st d b').er D) (by rw [hw,e]) (Dy (Qeh o _) hl))) (D6 (st:=K7 o (setB st d b')) hT hD hK hX os hY h')
     cases ec:c with
     | true =>
      rw [ec,C7] at h
      cases b with
      | true=>exact run true ec h rfl
      | false=>exact skip true ec h rfl
     | false =>
      rw [ec,Cd] at h
      cases b with
      | true=>exact skip false ec h rfl
      | false=>exact run false ec h rfl
    ·rename_i hc
     have hlk:Qpt (st.er D).tm d=some (.tup []):=by
      show Qpt (QI (TTV.er D st.m.tk) st.tm) d=_
      rw [QL,hc];rfl
     refine OneL.trans (Sfx.put _ o.dst _) (fun E ro n Q f hl=>Qgu (by
      unfold Qx
      rw [hgd]
      dsimp only
      rw [hj]
      dsimp only
      rw [hlk]) (Dy (Qeh o st) hl)) (D6 (st:=K7 o st) hT hD hK hX os hY h)
    ·cases h
end
end
end
noncomputable section
open Go.RowKit
section
variable {U:Univ} {D:Codec U} {C:TCfg U} {K:FuncId→List (TAV U)→Option (KR U)}
def Q5g {α:Type} (a b:List α):List α:=b.take (b.length - a.length)
def Q18 (i:Nat):Ev U→Bool
 | .box j _ _=>!(Nat.beq j i)
 | .raw j _=>!(Nat.beq j i)
 | .lp j _ _ _ _ _ _ _ _=>!(Nat.beq j i)
 | .ls j _=>!(Nat.beq j i)
 | .set j _ _=>!(Nat.beq j i)
theorem Qag {i off n:Nat} {es:List (Ev U)}:∀ {p:List (Ev U)},p.all (Q18 i)=true→WY D (p++es) i off n=WY D es i off n
 | [],h=>rfl
 | e::p,h=>by
  obtain ⟨h1,h2⟩:=C0.1 h
  have ih:=Qag (es:=es) (off:=off) (n:=n) h2
  cases e with
  | box j T xs =>
   have hj:Nat.beq j i=false:=by simpa [Q18] using h1
   show cond (Nat.beq j i) _ _=_
   rw [hj];exact ih
  | raw j B =>
   have hj:Nat.beq j i=false:=by simpa [Q18] using h1
   show cond (Nat.beq j i) _ _=_
   rw [hj];exact ih
  | lp j s p tm nt ps a b d =>
   have hj:Nat.beq j i=false:=by simpa [Q18] using h1
   show cond (Nat.beq j i) _ _=_
   rw [hj];exact ih
  | ls j xs =>
   have hj:Nat.beq j i=false:=by simpa [Q18] using h1
   show cond (Nat.beq j i) _ _=_
   rw [hj];exact ih
  | set j o xs =>
   have hj:Nat.beq j i=false:=by simpa [Q18] using h1
   show (match WY D (p++es) i off n with
    | none=>none
    | some ys=>cond (Nat.beq j i) _ (some ys))=_
   rw [ih,hj]
   cases WY D es i off n <;> rfl
def Qcw:TA U→Bool
 | .app _ _=>false
 | _=>true
def Qik:It U→Bool
 | .one x=>Qcw x
 | .grp _ _=>true
def Q8g:TAV U→Bool
 | .one x=>Qcw x
 | .agg xs=>xs.all Qik
def XV:Option (TTV U)→Bool
 | some (.v (.one (.app _ _)))=>false
 | _=>true
theorem Q9m {tk tk':List (Nat×TTok U)} {t:U.T} {x:TTV U} (h:XV (some x)=true):G2 tk t x=G2 tk' t x:=by
 unfold G2
 split
 ·rfl
 ·rfl
 ·cases h
 ·rfl
theorem Q31 {tk tk':List (Nat×TTok U)} {x:TA U} (h:Qcw x=true):Ke tk x=Ke tk' x:=by
 cases x <;> first | rfl | cases h
theorem Ud {tk tk':List (Nat×TTok U)}:∀ {xs:List (It U)},xs.all Qik=true→JF tk xs=JF tk' xs
 | [],h=>rfl
 | It.grp t x::r,h=>by
  have h2:=(C0.1 h).2
  show (match JF tk r with
   | some ys=>some (It.grp t x::ys)
   | none=>none)=_
  rw [Ud (tk':=tk') h2];rfl
 | It.one x::r,h=>by
  obtain ⟨h1,h2⟩:=C0.1 h
  show (match Ke tk x,JF tk r with
   | some y,some ys=>some (It.one y::ys)
   | _,_=>none)=_
  rw [Ud (tk':=tk') h2,Q31 (tk':=tk') h1];rfl
theorem settleV_na {tk tk':List (Nat×TTok U)} {x:TAV U} (h:Q8g x=true):Wy tk x=Wy tk' x:=by
 cases x with
 | one x =>
  show (match Ke tk x with
   | some y=>some (TAV.one y)
   | none=>none)=_
  rw [Q31 (tk':=tk') h];rfl
 | agg xs =>
  show (match JF tk xs with
   | some ys=>some (TAV.agg ys)
   | none=>none)=_
  rw [Ud (tk':=tk') h];rfl
theorem Q0z {tk tk':List (Nat×TTok U)}:∀ {xs:List (TAV U)},xs.all Q8g=true→YN tk xs=YN tk' xs
 | [],h=>rfl
 | x::xs,h=>by
  obtain ⟨h1,h2⟩:=C0.1 h
  show (match Wy tk x,YN tk xs with
   | some y,some ys=>some (y::ys)
   | _,_=>none)=_
  rw [Q0z (tk':=tk') h2,settleV_na (tk':=tk') h1];rfl
def Qnk (tm:List (Nat×TTV U)) (p:List (Ev U)) (o:Oper):Bool:=match o.op with
 | .load _ x=>match YB tm x with
  | some (.v (.one (.ptr i _)))=>p.all (Q18 i)
  | _=>true
 | .indexAddr _ x _=>XV (YB tm x)
 | .slice _ x _ _ _=>match YB tm x with
  | some (.v (.one (.c (.str _))))=>true
  | _=>false
 | .convert _ _ x=>XV (YB tm x)
 | .call c=>match c.callee with
  | .builtin _=>c.args.toList.all fun x=>XV (YB tm x)
  | _=>match Q1l tm c.args.toList with
   | some vs=>vs.all Q8g
   | none=>false
 | _=>true
theorem lenR_q {tm:List (Nat×TTV U)} {m m':TMe U} {nt:Nat} {df:List Nat} {t:TypeId} {x:Operand} (h:XV (YB tm x)=true):Qh5 C ⟨tm,m',nt,df⟩ t x=Qh5 C ⟨tm,m,nt,df⟩ t x:=by
 unfold Qh5
 dsimp only
 cases hx:YB tm x with
 | none=>rfl
 | some v =>
  rw [hx] at h
  have key:∀ t,G2 m'.tk t v=G2 m.tk t v:=fun t=>Q9m h
  have fin:∀ (w:TTV U),w=v→(match Qh0 C t with
   | some (_,tc)=>match G2 m'.tk tc w with
    | some l=>some (RdR.val (U:=U) (Qpe .i64 l.length))
    | none=>none
   | none=>none)=(match Qh0 C t with
   | some (_,tc)=>match G2 m.tk tc w with
    | some l=>some (RdR.val (Qpe .i64 l.length))
    | none=>none
   | none=>none):=fun w e=>by
   subst e
   cases Qh0 C t with
   | none=>rfl
   | some q =>
    obtain ⟨e,tc⟩:=q
    dsimp only
    rw [key]
  cases v with
  | v a =>
   cases a with
   | one b =>
    cases b with
    | c z=>cases z <;> first | rfl | exact fin _ rfl
    | _=>exact fin _ rfl
   | agg xs=>exact fin _ rfl
  | tup xs=>exact fin _ rfl
  | unk=>exact fin _ rfl
theorem Ql6 {tm:List (Nat×TTV U)} {m m':TMe U} {nt:Nat} {df:List Nat} {p:List (Ev U)} (he:m'.es=p++m.es) {o:Oper} (h:Qnk tm p o=true):Qkq D C ⟨tm,m',nt,df⟩ o=Qkq D C ⟨tm,m,nt,df⟩ o:=by
 obtain ⟨dd,op,ty,pos,af,g⟩:=o
 cases op with
 | load t x =>
  show Q05 D C ⟨tm,m',nt,df⟩ t x=Q05 D C ⟨tm,m,nt,df⟩ t x
  have h':(match YB tm x with
   | some (.v (.one (.ptr i _)))=>p.all (Q18 i)
   | _=>true)=true:=h
  unfold Q05
  dsimp only
  cases hx:YB tm x with
  | none=>rfl
  | some v =>
   rw [hx] at h'
   cases v with
   | v a =>
    cases a with
    | one b =>
     cases b with
     | ptr i off =>
      have key:∀ n,WY D m'.es i off n=WY D m.es i off n:=fun n=>by rw [he];exact Qag h'
      dsimp only
      simp only [key]
     | _=>rfl
    | agg xs=>rfl
   | tup xs=>rfl
   | unk=>rfl
 | indexAddr t x y =>
  show Q0d C ⟨tm,m',nt,df⟩ t x y=Q0d C ⟨tm,m,nt,df⟩ t x y
  have h':XV (YB tm x)=true:=h
  unfold Q0d
  dsimp only
  cases hx:YB tm x with
  | none=>cases Qh0 C t <;> cases Qcp (YB tm y) <;> rfl
  | some v =>
   rw [hx] at h'
   have key:∀ t,G2 m'.tk t v=G2 m.tk t v:=fun t=>Q9m h'
   cases Qh0 C t with
   | none=>rfl
   | some q =>
    obtain ⟨e,tc⟩:=q
    cases Qcp (YB tm y) with
    | none=>rfl
    | some k =>
     dsimp only
     rw [key]
 | slice t x lo hi mx =>
  show DP C ⟨tm,m',nt,df⟩ t x lo hi mx=DP C ⟨tm,m,nt,df⟩ t x lo hi mx
  have h':(match YB tm x with
   | some (.v (.one (.c (.str _))))=>true
   | _=>false)=true:=h
  unfold DP
  dsimp only
  split at h'
  ·rename_i s hx
   rw [hx]
   cases mx <;> rfl
  ·cases h'
 | convert s t x =>
  show Q7c C ⟨tm,m',nt,df⟩ s t x=Q7c C ⟨tm,m,nt,df⟩ s t x
  have h':XV (YB tm x)=true:=h
  have e:Q0m C ⟨tm,m',nt,df⟩ s t x=Q0m C ⟨tm,m,nt,df⟩ s t x:=by
   unfold Q0m
   dsimp only
   cases hx:YB tm x with
   | none=>cases C.bt <;> cases Qpt C.T.byt s <;> cases Qpt C.T.strs t <;> rfl
   | some v =>
    rw [hx] at h'
    have key:∀ t,G2 m'.tk t v=G2 m.tk t v:=fun t=>Q9m h'
    cases C.bt with
    | none=>rfl
    | some B =>
     cases Qpt C.T.byt s with
     | none=>rfl
     | some u1 =>
      cases Qpt C.T.strs t with
      | none=>rfl
      | some u2 =>
       dsimp only
       rw [key]
  unfold Q7c
  rw [e]
 | call c =>
  obtain ⟨callee,⟨xs⟩,⟨ts⟩⟩:=c
  cases callee with
  | builtin b =>
   have h':(xs.all fun x=>XV (YB tm x))=true:=h
   show GM C ⟨tm,m',nt,df⟩ b xs ts=GM C ⟨tm,m,nt,df⟩ b xs ts
   unfold GM
   split
   ·exact lenR_q (C0.1 h').1
   ·rfl
   ·rfl
   ·rfl
  | _=>rfl
 | _=>rfl
def Qdy (q:List (Nat×TTok U)):TA U→Bool
 | .app j _=>q.all fun p=>!(Nat.beq p.1 j)
 | _=>true
variable (D) in
def Qdx (q:List (Nat×TTok U)):TAV U→Bool
 | .one x=>Qdy q x
 | .agg xs=>(JX D xs).all (Qdy q)
variable (D) in
def Q4x (q:List (Nat×TTok U)):TTV U→Bool
 | .v x=>Qdx D q x
 | .tup xs=>xs.all (Qdx D q)
 | .unk=>true
theorem Qj3 {α:Type} {j:Nat}:∀ {q:List (Nat×α)},(q.all fun p=>!(Nat.beq p.1 j))=true→Qpt q j=none
 | [],h=>rfl
 | p::q,h=>by
  obtain ⟨h1,h2⟩:=C0.1 h
  have hj:Nat.beq p.1 j=false:=by simpa using h1
  show cond (Nat.beq p.1 j) _ _=_
  rw [hj];exact Qj3 h2
theorem Q7m {q tk:List (Nat×TTok U)} {x:TA U} (h:Qdy q x=true):x.er (q++tk)=x.er tk:=by
 cases x with
 | app j u =>
  have h':(q.all fun p=>!(Nat.beq p.1 j))=true:=h
  show (match cur (q++tk) j u with
   | some T=>CA.app j (U.E T.t).sz ((U.E T.t).encL T.l)
   | none=>CA.any)=_
  have:cur (q++tk) j u=cur tk j u:=by
   unfold cur
   rw [Jr,Qj3 h']
  rw [this];rfl
 | c x=>rfl
 | ptr i off=>rfl
 | pel t x off=>rfl
 | fn f caps=>rfl
 | raw x=>rfl
theorem Q7l {q tk:List (Nat×TTok U)} {x:TAV U} (h:Qdx D q x=true):x.er D (q++tk)=x.er D tk:=by
 cases x with
 | one x=>exact congrArg AV.one (Q7m h)
 | agg xs =>
  show AV.agg ((JX D xs).map (TA.er (q++tk)))=AV.agg ((JX D xs).map (TA.er tk))
  congr 1
  exact Cx fun x hx=>Q7m (Cg.1 h x hx)
theorem WL {q tk:List (Nat×TTok U)} {x:TTV U} (h:Q4x D q x=true):x.er D (q++tk)=x.er D tk:=by
 cases x with
 | v x=>exact congrArg TV.v (Q7l h)
 | tup xs =>
  show TV.tup (xs.map (TAV.er D (q++tk)))=TV.tup (xs.map (TAV.er D tk))
  congr 1
  exact Cx fun x hx=>Q7l (Cg.1 h x hx)
 | unk=>rfl
variable (D) in
def Qf5 (tm:List (Nat×TTV U)) (m:TMe U) (o:Oper) (x:TTV U) (up:Bool) (m':TMe U):Bool :=
 cond up (Qnk tm (Q5g m.es m'.es) o&&(Q4x D (Q5g m.tk m'.tk) x&&tm.all fun p=>Q4x D (Q5g m.tk m'.tk) p.2)) (Qnk tm (Q5g m'.es m.es) o&&(Q4x D (Q5g m'.tk m.tk) x&&tm.all fun p=>Q4x D (Q5g m'.tk m.tk) p.2))
end
end
noncomputable section
open Go.RowKit
section
variable (U:Univ)
inductive AK where
 | int (k:IntKind)
 | bool
 | str
 | sl (t:U.T)
 | app (i:Nat) (e:TypeId) (t:U.T)
 | stc (t:U.T)
 | ptr (i off:Nat)
 | any
inductive Loc where
 | reg (r:Nat)
 | cell (i off:Nat)
structure Lab where
 sl:List (List Loc×AK U)
 dead:List Nat
end
section
variable {U:Univ} (D:Codec U)
def AK.Ty:AK U→Type
 | .int _=>Int
 | .bool=>Bool
 | .str=>Qr7
 | .sl t=>List (U.R t)
 | .app _ _ t=>List (U.R t)
 | .stc t=>U.R t
 | .ptr _ _=>Unit
 | .any=>Unit
def AK.sz:AK U→Nat
 | .stc t=>(U.E t).sz
 | _=>1
def tup:List (AK U)→Type
 | []=>Unit
 | [k]=>k.Ty
 | k::k2::r=>k.Ty×tup (k2::r)
def Q4o (k:IntKind):TAV U→Option Int
 | .one (.c (.v (.int k' a)))=>cond (decide (k'=k)) (some a) none
 | _=>none
def Ds:TAV U→Option Bool
 | .one (.c (.v (.bool b)))=>some b
 | _=>none
def Q4n:TAV U→Option Qr7
 | .one (.c (.str s))=>some s
 | _=>none
def Wl (tk:List (Nat×TTok U)) (i:Nat) (e:TypeId) (t:U.T):TAV U→Option (List (U.R t))
 | .one (.app j ver)=>match cur tk j ver with
  | some T=>cond (Nat.beq j i&&Nat.beq T.E e) (Ge T.t t T.l) none
  | none=>none
 | _=>none
def Qdq (i off:Nat):TAV U→Option Unit
 | .one (.ptr j o)=>cond (Nat.beq j i&&Nat.beq o off) (some ()) none
 | _=>none
def Qjx:TAV U→Option Unit
 | .one _=>some ()
 | .agg _=>none
def Qds (tk:List (Nat×TTok U)):(k:AK U)→TAV U→Option k.Ty
 | .int k,x=>Q4o k x
 | .bool,x=>Ds x
 | .str,x=>Q4n x
 | .sl t,x=>G2 tk t (.v x)
 | .app i e t,x=>Wl tk i e t x
 | .stc t,x=>Q4u D tk t x.items
 | .ptr i off,x=>Qdq i off x
 | .any,x=>Qjx x
def GI:(k:AK U)→k.Ty→Nat→TAV U
 | .int k,a,_=>.one (.c (.v (.int k a)))
 | .bool,b,_=>.one (.c (.v (.bool b)))
 | .str,s,_=>.one (.c (.str s))
 | .sl t,l,_=>.one (.c (.sl t l))
 | .app i _ _,_,ver=>.one (.app i ver)
 | .stc t,x,_=>.agg [.grp t x]
 | .ptr i off,_,_=>.one (.ptr i off)
 | .any,_,_=>.one (.raw .any)
def Qkr:(k:AK U)→k.Ty→Nat→List (Nat×TTok U)
 | .app i e t,l,ver=>[(i,⟨e,t,l,ver⟩)]
 | _,_,_=>[]
def QY (tk:List (Nat×TTok U)) (i:Nat):Nat:=match Qpt tk i with
 | some T=>T.ver+1
 | none=>0
def WV (tk:List (Nat×TTok U)):AK U→Nat
 | .app i _ _=>QY tk i
 | _=>0
abbrev Qqu (U:Univ):=(k:AK U)×k.Ty
def vals:(sl:List (List Loc×AK U))→tup (sl.map (·.2))→List (List Loc×Qqu U)
  | [],_=>[]
  | [(ls,k)],v=>[(ls,⟨k,v⟩)]
  | (ls,k)::s2::r,v=>(ls,⟨k,v.1⟩)::vals (s2::r) v.2
def Uh (x:TTV U):List Loc→List (Nat×TTV U)
 | []=>[]
 | .reg r::ls=>(r,x)::Uh x ls
 | .cell _ _::ls=>Uh x ls
def DR (xs:List (It U)):List Loc→List (Nat×Nat×List (It U))
 | []=>[]
 | .reg _::ls=>DR xs ls
 | .cell i off::ls=>(i,off,xs)::DR xs ls
def Qfp (tk:List (Nat×TTok U)) (vs:List (List Loc×Qqu U)):List (Nat×TTV U):=vs.flatMap fun p=>Uh (.v (GI p.2.1 p.2.2 (WV tk p.2.1))) p.1
def Xi (tk:List (Nat×TTok U)) (vs:List (List Loc×Qqu U)):List (Nat×Nat×List (It U)):=vs.flatMap fun p=>DR (GI p.2.1 p.2.2 (WV tk p.2.1)).items p.1
def Qbc (tk:List (Nat×TTok U)) (vs:List (List Loc×Qqu U)):List (Nat×TTok U):=vs.flatMap fun p=>Qkr p.2.1 p.2.2 (WV tk p.2.1)
def U1 (p:Nat×Nat×List (It U)):Ev U:=.set p.1 p.2.1 p.2.2
def lab (h:Lab U) (st:TSt U) (t:tup (h.sl.map (·.2))):TSt U :=
 ⟨Qfp st.m.tk (vals h.sl t)++(h.dead.map fun r=>(r,.unk))++st.tm,⟨(Xi st.m.tk (vals h.sl t)).map U1++st.m.es,Qbc st.m.tk (vals h.sl t)++st.m.tk,st.m.nx⟩,st.nt,st.df⟩
def Qdg:TAV U→Bool
 | .one _=>false
 | .agg _=>true
def Xx (s:TSt U):Loc→Nat→Option (TAV U)
 | .reg r,_=>match Qpt s.tm r with
  | some (.v x)=>some x
  | _=>none
 | .cell i off,n=>match WY D s.m.es i off n with
  | some [.one x]=>some (.one x)
  | some xs=>some (.agg xs)
  | none=>none
def Q82 (s:TSt U) (i:Nat) (l:Loc):Bool:=match Xx D s l 1 with
 | some (.one (.app j ver))=>Nat.beq j i&&(cur s.m.tk j ver).isSome
 | _=>false
def Qi0 (s:TSt U) (x:TAV U) (r:List Loc):AK U→Bool
 | .app i _ _=>r.all (Q82 D s i)
 | .stc _=>Qdg x&&r.isEmpty
 | _=>r.isEmpty
def Qmw (s:TSt U) (ls:List Loc) (k:AK U):Option k.Ty:=match ls with
 | []=>none
 | l::r=>match Xx D s l k.sz with
  | some x=>cond (Qi0 D s x r k) (Qds D s.m.tk k x) none
  | none=>none
def Qni (s:TSt U):(sl:List (List Loc×AK U))→Option (tup (sl.map (·.2)))
  | []=>some ()
  | [(ls,k)]=>Qmw D s ls k
  | (ls,k)::s2::r=>match Qmw D s ls k,Qni s (s2::r) with
    | some a,some b=>some (a,b)
    | _,_=>none
def Q37:List Loc→List Nat
 | []=>[]
 | .reg r::ls=>r::Q37 ls
 | .cell _ _::ls=>Q37 ls
def Q0l (n:Nat):List Loc→List (Nat×Nat×Nat)
 | []=>[]
 | .reg _::ls=>Q0l n ls
 | .cell i off::ls=>(i,off,n)::Q0l n ls
def DQ (sl:List (List Loc×AK U)):List Nat:=sl.flatMap fun p=>Q37 p.1
def Yk (sl:List (List Loc×AK U)):List (Nat×Nat×Nat):=sl.flatMap fun p=>Q0l p.2.sz p.1
def Q4y:AK U→List Nat
 | .app i _ _=>[i]
 | _=>[]
def Qak:AK U→List Nat
 | .ptr i _=>[i]
 | _=>[]
def Q2z (sl:List (List Loc×AK U)):List Nat:=sl.flatMap fun p=>Qak p.2
def Y4 (sl:List (List Loc×AK U)):List Nat:=sl.flatMap fun p=>Q4y p.2
def Q8j (cs:List (Nat×Nat×Nat)) (i k:Nat):Bool:=cs.any fun p=>Nat.beq p.1 i&&(Nat.ble p.2.1 k&&Nat.blt k (p.2.1+p.2.2))
def Ql1 (nx:Nat) (cs:List (Nat×Nat×Nat)):Ev U→Bool
 | .box i _ _=>Nat.ble nx i
 | .raw i _=>Nat.ble nx i
 | .lp i _ _ _ _ _ _ _ _=>Nat.ble nx i
 | .ls i _=>Nat.ble nx i
 | .set i off xs=>Nat.ble nx i||(List.range (QW xs)).all fun j=>Q8j cs i (off+j)
def Q5l:List Nat→List Nat→Bool
 | [],[]=>true
 | a::x,b::y=>Nat.beq a b&&Q5l x y
 | _,_=>false
theorem Gr:∀ {x y:List Nat},Q5l x y=true→x=y
 | [],[],_=>rfl
 | [],b::y,h=>by cases h
 | a::x,[],h=>by cases h
 | a::x,b::y,h=>by
  obtain ⟨h1,h2⟩:=C0.1 (show (Nat.beq a b&&Q5l x y)=true from h)
  rw [C4 h1,Gr h2]
def Qi6 (h:Lab U) (st s:TSt U):Bool :=
 Q5l st.df s.df&&((Q5g st.tm s.tm).all (fun p=>(DQ h.sl).contains p.1||h.dead.contains p.1)&&((Q5g st.m.es s.m.es).all (Ql1 st.m.nx (Yk h.sl))&&(Q5g st.m.tk s.m.tk).all fun p=>Nat.ble st.m.nx p.1||(Y4 h.sl).contains p.1))
def GB (h:Lab U) (st s:TSt U):Option (tup (h.sl.map (·.2))):=cond (Qi6 h st s) (Qni D s h.sl) none
def TA.belowB (m:Nat):TA U→Bool
 | .c _=>true
 | .ptr i _=>Nat.blt i m
 | .pel _ _ _=>true
 | .fn _ caps=>caps.all fun p=>Nat.blt p.1 m
 | .app i _=>Nat.blt i m
 | .raw x=>match x with
  | .yld L=>Nat.blt L m
  | .any=>true
  | _=>false
def It.belowB (m:Nat):It U→Bool
 | .one x=>x.belowB m
 | .grp _ _=>true
def TAV.belowB (m:Nat):TAV U→Bool
 | .one x=>x.belowB m
 | .agg xs=>xs.all (It.belowB m)
def TTV.belowB (m:Nat):TTV U→Bool
 | .v x=>x.belowB m
 | .tup xs=>xs.all (TAV.belowB m)
 | .unk=>true
def Ev.belowB (m:Nat):Ev U→Bool
 | .box i _ xs=>Nat.blt i m&&xs.all (It.belowB m)
 | .set i _ xs=>xs.all (It.belowB m)
 | .raw i B=>match B with
  | .obj _=>Nat.blt i m
  | _=>false
 | .lp i _ _ tm _ _ _ _ d=>Nat.blt i m&&(Nat.blt d m&&tm.all fun p=>p.2.belowB m)
 | .ls _ xs=>xs.all fun p=>p.2.belowB m
def disj:List (Nat×Nat×Nat)→Bool
 | []=>true
 | p::r=>r.all (fun q=>!(Nat.beq p.1 q.1)||(Nat.ble (p.2.1+p.2.2) q.2.1||Nat.ble (q.2.1+q.2.2) p.2.1))&&disj r
def Qnl:List Nat→Bool
 | []=>true
 | a::r=>!(r.contains a)&&Qnl r
def Qjy (es:List (Ev U)) (p:Nat×Nat×Nat):Bool:=match Z2 es p.1 with
 | some (_,N)=>Nat.ble (p.2.1+p.2.2) N
 | none=>false
def Qlz (st:TSt U) (i:Nat):Bool:=Nat.blt i st.m.nx&&Qb0 i (QY st.m.tk i) st.tm st.m.es
def Qhi (h:Lab U) (st:TSt U):Bool :=
 st.tm.all (fun p=>p.2.belowB st.m.nx)&&(st.m.es.all (Ev.belowB st.m.nx)&&(st.m.tk.all (fun p=>Nat.blt p.1 st.m.nx)&&(st.df.tail.all (fun i=>Nat.blt i st.m.nx)&&((Yk h.sl).all (Qjy st.m.es)&&(disj (Yk h.sl)&&(Qnl (Y4 h.sl)&&((Y4 h.sl).all (Qlz st)&&(Q2z h.sl).all (fun i=>Nat.blt i st.m.nx))))))))
variable {D}
theorem U2 {α:Type}:∀ (a b:List (Nat×α)) (i:Nat),Qpt (a++b) i=match Qpt a i with
    | some x=>some x
    | none=>Qpt b i
  | [],b,i=>rfl
  | (k,x)::a,b,i=>by
    rw [Pu,Q1,Q1,U2 a b i]
    by_cases h:k=i
    · rw [Cc h,Cc h]
    · rw [C8 h,C8 h]
theorem Q8x {α:Type} {l:List (Nat×α)} {i:Nat} (h:∀ p∈l,p.1 ≠ i):Qpt l i=none:=by
 cases e:Qpt l i with
 | none=>rfl
 | some x=>exact (h _ (JO e) rfl).elim
theorem Qlo {α:Type}:∀ {l:List (Nat×α)} {i:Nat} {x:α},Qnl (l.map (·.1))=true→(i,x)∈l→Qpt l i=some x
  | (k,y)::l,i,x,h,hm=>by
    obtain ⟨h1,h2⟩:=C0.1 (show (!((l.map (·.1)).contains k)&&Qnl (l.map (·.1)))=true from h)
    rw [Q1]
    rcases Cq.1 hm with e | hm
    · cases e;rw [Cc rfl]
    · have hne:k ≠ i:=fun e=>by
        subst e
        have:(l.map (·.1)).contains k=true:=S3.2 (Cv.2 ⟨_,hm,rfl⟩)
        rw [this] at h1;cases h1
      rw [C8 hne];exact Qlo h2 hm
theorem YU {α:Type} (p a:List α):Q5g a (p++a)=p:=by
 unfold Q5g
 rw [C9,show p.length+a.length - a.length=p.length by omega,List.take_left]
theorem Q23:∀ {sl:List (List Loc×AK U)} {s:TSt U} {t:tup (sl.map (·.2))},Qni D s sl=some t→∀ p∈vals sl t,Qmw D s p.1 p.2.1=some p.2.2
  | [],s,t,h,p,hp=>by cases hp
  | [(ls,k)],s,t,h,p,hp=>by
    rw [CE.1 hp];exact h
  | (ls,k)::s2::r,s,t,h,p,hp=>by
    unfold Qni at h
    split at h
    · rename_i a b ha hb
      cases h
      rcases Cq.1 hp with e | hp
      · rw [e];exact ha
      · exact Q23 hb p hp
    · cases h
theorem Wx:∀ {sl:List (List Loc×AK U)} {t:tup (sl.map (·.2))},(vals sl t).map (fun p=>(p.1,p.2.1))=sl
  | [],t=>rfl
  | [(ls,k)],t=>rfl
  | (ls,k)::s2::r,t=>by
    show (ls,k)::(vals (s2::r) t.2).map _=_
    rw [Wx]
theorem Q76 (hD:D.OK) (k:AK U) (v:k.Ty) (ver:Nat):QW (GI k v ver).items=k.sz:=by
 cases k with
 | stc t=>show (U.E t).sz+0=_;rfl
 | _=>rfl
theorem X5 {x:TTV U}:∀ {ls:List Loc} {q:Nat×TTV U},q∈Uh x ls→q.2=x∧Loc.reg q.1∈ls∧q.1∈Q37 ls
 | .reg r::ls,q,h=>by
  rcases Cq.1 h with e | h
  ·rw [e];exact ⟨rfl,Ch ..,Ch ..⟩
  ·obtain ⟨h1,h2,h3⟩:=X5 h
   exact ⟨h1,Ci _ h2,Ci _ h3⟩
 | .cell i off::ls,q,h=>by
  obtain ⟨h1,h2,h3⟩:=X5 (show q∈Uh x ls from h)
  exact ⟨h1,Ci _ h2,h3⟩
theorem X3 {xs:List (It U)}:∀ {ls:List Loc} {q:Nat×Nat×List (It U)},q∈DR xs ls→q.2.2=xs∧Loc.cell q.1 q.2.1∈ls
 | .reg r::ls,q,h=>by
  obtain ⟨h1,h2⟩:=X3 (show q∈DR xs ls from h)
  exact ⟨h1,Ci _ h2⟩
 | .cell i off::ls,q,h=>by
  rcases Cq.1 h with e | h
  ·rw [e];exact ⟨rfl,Ch ..⟩
  ·obtain ⟨h1,h2⟩:=X3 h
   exact ⟨h1,Ci _ h2⟩
theorem Ue (hD:D.OK) (xs:List (It U)) (n:Nat) (hn:QW xs=n):∀ ls:List Loc,(DR xs ls).map (fun q=>(q.1,q.2.1,QW q.2.2))=Q0l n ls
 | []=>rfl
 | .reg r::ls=>Ue hD xs n hn ls
 | .cell i off::ls=>by
  show (i,off,QW xs)::_=(i,off,n)::_
  rw [Ue hD xs n hn ls,hn]
theorem Gn (hD:D.OK) (tk:List (Nat×TTok U)) {sl:List (List Loc×AK U)} {t:tup (sl.map (·.2))}:(Xi tk (vals sl t)).map (fun q=>(q.1,q.2.1,QW q.2.2))=Yk sl:=by
 have e:Yk sl=(vals sl t).flatMap fun p=>Q0l p.2.1.sz p.1:=by
  have:=congrArg (fun l:List (List Loc×AK U)=>l.flatMap fun p=>Q0l p.2.sz p.1) (Wx (sl:=sl) (t:=t))
  rw [← show _=Yk sl from this,Sa]
 rw [e]
 unfold Xi
 rw [List.map_flatMap]
 congr 1
 funext p
 exact Ue hD _ _ (Q76 hD p.2.1 p.2.2 _) p.1
theorem Ut (tk:List (Nat×TTok U)) {sl:List (List Loc×AK U)} {t:tup (sl.map (·.2))}:(Qbc tk (vals sl t)).map (·.1)=Y4 sl:=by
 have e:Y4 sl=(vals sl t).flatMap fun p=>Q4y p.2.1:=by
  have:=congrArg (fun l:List (List Loc×AK U)=>l.flatMap fun p=>Q4y p.2) (Wx (sl:=sl) (t:=t))
  rw [← show _=Y4 sl from this,Sa]
 rw [e]
 unfold Qbc
 rw [List.map_flatMap]
 congr 1
 funext p
 obtain ⟨ls,k,v⟩:=p
 cases k <;> rfl
theorem Qbu {xs:List CA} {cs:List C} (h:CSubs xs cs):LW xs (cs.map .d):=by
 refine ⟨by rw [Cm];exact h.len,fun k x y hx hy=>?_⟩
 rw [Cl] at hy
 cases hc:cs[k]? with
 | none=>rw [hc] at hy;cases hy
 | some c =>
  rw [hc] at hy;cases hy
  obtain ⟨x',hx',hs⟩:=h.get k c hc
  rw [hx] at hx';cases hx'
  exact fun V w v hv=>(show Reads V.S w c v from hs.reads hv)
theorem SlE.sub {α:Type} [Enc α] {y:CA} {l:List α} (h:SlE y l):CW y (.d (.sl (Enc.sz α) (Enc.encL l))):=fun V w v hv=>(show Reads V.S w _ v from h.sl.reads hv)
theorem Q7u {x y:CA} (h:CW x y):LW [x] [y]:=by
 refine ⟨Z,fun k a b ha hb=>?_⟩
 cases k with
 | zero=>cases ha;cases hb;exact h
 | succ k=>simp at ha
theorem grp_LW (hD:D.OK) {tk tk':List (Nat×TTok U)} {t:U.T} {xs:List (It U)} {v:U.R t} (h:Q4u D tk t xs=some v):LW (Je D tk xs) (Je D tk' [.grp t v]):=by
 have e:Je D tk' [It.grp t v]=((U.E t).enc v).map .d:=by
  unfold Je
  rw [KO,Q74 hD]
 rw [e]
 exact Qbu (Q2j hD h)
theorem int_LW {tk tk':List (Nat×TTok U)} {k:IntKind} {x:TAV U} {v:Int} (h:Q4o k x=some v):LW (Je D tk x.items) (Je D tk' [.one (.c (.v (.int k v)))]):=by
 unfold Q4o at h
 split at h
 ·rename_i k0 a
  cases hk:decide (k0=k) with
  | false=>rw [hk] at h;cases h
  | true =>
   rw [hk] at h;cases h
   have e:=CG hk
   subst e
   exact LW.refl _
 ·cases h
theorem bool_LW {tk tk':List (Nat×TTok U)} {x:TAV U} {v:Bool} (h:Ds x=some v):LW (Je D tk x.items) (Je D tk' [.one (.c (.v (.bool v)))]):=by
 unfold Ds at h
 split at h
 ·cases h;exact LW.refl _
 ·cases h
theorem str_LW {tk tk':List (Nat×TTok U)} {x:TAV U} {v:Qr7} (h:Q4n x=some v):LW (Je D tk x.items) (Je D tk' [.one (.c (.str v))]):=by
 unfold Q4n at h
 split at h
 ·cases h;exact LW.refl _
 ·cases h
theorem ptr_LW {tk tk':List (Nat×TTok U)} {i off:Nat} {x:TAV U} {v:Unit} (h:Qdq i off x=some v):LW (Je D tk x.items) (Je D tk' [.one (.ptr i off)]):=by
 unfold Qdq at h
 split at h
 ·rename_i j o
  cases hb:(Nat.beq j i&&Nat.beq o off) with
  | false=>rw [hb] at h;cases h
  | true =>
   obtain ⟨b1,b2⟩:=C0.1 hb
   have e1:=C4 b1
   have e2:=C4 b2
   subst e1;subst e2
   exact LW.refl _
 ·cases h
theorem any_LW {tk tk':List (Nat×TTok U)} {x:TAV U} {v:Unit} (h:Qjx x=some v):LW (Je D tk x.items) (Je D tk' [.one (.raw .any)]):=by
 cases x with
 | one x=>exact Q7u fun V w v hv=>CA.rel.one hv
 | agg xs=>cases h
theorem sl_LW {tk tk':List (Nat×TTok U)} {t:U.T} {x:TAV U} {l:List (U.R t)} (h:G2 tk t (.v x)=some l):LW (Je D tk x.items) (Je D tk' [.one (.c (.sl t l))]):=by
 obtain ⟨y,hy,hs⟩:=Xo (D:=D) h
 cases x with
 | one z =>
  have e:z.er tk=y:=by
   have:TV.v (.one (z.er tk))=.v (.one y):=hy
   cases this;rfl
  show LW [z.er tk] [_]
  rw [e]
  exact Q7u hs.sub
 | agg xs =>
  have:TV.v (.agg (Je D tk xs))=.v (.one y):=hy
  cases this
theorem app_LW {tk tk':List (Nat×TTok U)} {i ver:Nat} {e:TypeId} {t:U.T} {x:TAV U} {l:List (U.R t)} (h:Wl tk i e t x=some l) (hc:cur tk' i ver=some ⟨e,t,l,ver⟩):LW (Je D tk x.items) (Je D tk' [.one (.app i ver)]):=by
 unfold Wl at h
 split at h
 ·rename_i j u
  split at h
  ·rename_i T hT
   cases hb:(Nat.beq j i&&Nat.beq T.E e) with
   | false=>rw [hb] at h;cases h
   | true =>
    rw [hb,C7] at h
    obtain ⟨b1,b2⟩:=C0.1 hb
    have e1:=C4 b1
    obtain ⟨et,e2⟩:=YQ h
    subst et;subst e1
    have e3:(TA.app j u:TA U).er tk=(TA.app j ver:TA U).er tk':=by
     show (match cur tk j u with
      | some T=>CA.app j (U.E T.t).sz ((U.E T.t).encL T.l)
      | none=>CA.any)=(match cur tk' j ver with
      | some T=>CA.app j (U.E T.t).sz ((U.E T.t).encL T.l)
      | none=>CA.any)
     rw [hT,hc,e2]
    show LW [(TA.app j u:TA U).er tk] [(TA.app j ver:TA U).er tk']
    rw [e3];exact LW.refl _
  ·cases h
 ·cases h
theorem Qjv (hD:D.OK) {tk tk':List (Nat×TTok U)} {k:AK U} {x:TAV U} {v:k.Ty} {ver:Nat} (h:Qds D tk k x=some v) (ht:∀ p∈Qkr k v ver,cur tk' p.1 ver=some p.2):LW (Je D tk x.items) (Je D tk' (GI k v ver).items):=by
 cases k with
 | int k=>exact int_LW h
 | bool=>exact bool_LW h
 | str=>exact str_LW h
 | sl t=>exact sl_LW h
 | app i e t=>exact app_LW h (ht _ (CE.2 rfl))
 | stc t=>exact grp_LW hD h
 | ptr i off=>exact ptr_LW h
 | any=>exact any_LW h
theorem Qgf (hD:D.OK) {tk tk':List (Nat×TTok U)} {k:AK U} {x:TAV U} {v:k.Ty} {ver:Nat} (h:Qds D tk k x=some v) (ht:∀ p∈Qkr k v ver,cur tk' p.1 ver=some p.2) (hs:(∃ t y,k=.stc t∧x=.one y)→False) {V:Vu} {w:World} {u:Value} (hr:(x.er D tk).rel V w u):((GI k v ver).er D tk').rel V w u:=by
 have hl:=Qjv (tk':=tk') hD h ht
 cases x with
 | one y =>
  have key:∀ z:TA U,LW (Je D tk [.one y]) (Je D tk' [.one z])→((TAV.one z).er D tk').rel V w u:=fun z hz=>hz.2 0 _ _ rfl rfl V w u hr
  cases k with
  | stc t=>exact (hs ⟨t,y,rfl,rfl⟩).elim
  | int k=>exact key _ hl
  | bool=>exact key _ hl
  | str=>exact key _ hl
  | sl t=>exact key _ hl
  | app i e t=>exact key _ hl
  | ptr i off=>exact key _ hl
  | any=>exact key _ hl
 | agg xs =>
  cases k with
  | stc t =>
   obtain ⟨vs,h1,h2⟩:=hr
   exact ⟨vs,h1,hl.rels h2⟩
  | int k=>cases h
  | bool=>cases h
  | str=>cases h
  | sl t=>cases h
  | app i e t=>cases h
  | ptr i off=>cases h
  | any=>cases h
end
end
noncomputable section
open Go.RowKit
section
variable {U:Univ} {D:Codec U}
theorem decApp_other {tk:List (Nat×TTok U)} {j u:Nat} {e:TypeId} {t:U.T} {x:TAV U} {l:List (U.R t)} (h:Wl tk j e t x=some l) (b2:(cur tk j u).isSome=true):Wl tk j e t (.one (.app j u))=some l:=by
 unfold Wl at h
 split at h
 ·rename_i j' u'
  split at h
  ·rename_i T hT
   cases hb:(Nat.beq j' j&&Nat.beq T.E e) with
   | false=>rw [hb] at h;cases h
   | true =>
    have e2:=C4 (C0.1 hb).1
    subst e2
    have hc:cur tk j' u=some T:=by
     unfold cur at hT b2 ⊢
     cases hlk:Qpt tk j' with
     | none=>rw [hlk] at hT;cases hT
     | some T1 =>
      rw [hlk] at hT b2
      dsimp only at hT b2 ⊢
      cases q1:Nat.beq T1.ver u' with
      | false=>rw [q1] at hT;cases hT
      | true =>
       rw [q1] at hT;cases hT
       cases q2:Nat.beq T.ver u with
       | false=>rw [q2] at b2;cases b2
       | true=>rfl
    show (match cur tk j' u with
     | some T=>cond (Nat.beq j' j'&&Nat.beq T.E e) (Ge T.t t T.l) none
     | none=>none)=some l
    rw [hc]
    exact h
  ·cases h
 ·cases h
theorem Q86 {s:TSt U} {ls:List Loc} {k:AK U} {v:k.Ty} (h:Qmw D s ls k=some v):∀ l∈ls,∃ x,Xx D s l k.sz=some x∧Qds D s.m.tk k x=some v∧((∃ t y,k=.stc t∧x=.one y)→False):=by
 unfold Qmw at h
 split at h
 ·cases h
 ·rename_i l0 r
  split at h
  ·rename_i x hx
   cases hr:Qi0 D s x r k with
   | false=>rw [hr] at h;cases h
   | true =>
    rw [hr,C7] at h
    have hst:(∃ t y,k=.stc t∧x=.one y)→False:=by
     rintro ⟨t,y,rfl,rfl⟩
     cases hr
    intro l hl
    rcases Cq.1 hl with rfl | hl
    ·exact ⟨x,hx,h,hst⟩
    ·cases k with
     | app i e t =>
      have h1:=Cg.1 (show r.all (Q82 D s i)=true from hr) l hl
      unfold Q82 at h1
      split at h1
      ·rename_i j u hj
       obtain ⟨b1,b2⟩:=C0.1 h1
       have e1:=C4 b1
       subst e1
       refine ⟨_,hj,?_,fun ⟨_,_,e,_⟩=>by cases e⟩
       exact decApp_other h b2
      ·cases h1
     | int k=>rw [Ph.1 (show r.isEmpty=true from hr)] at hl;cases hl
     | bool=>rw [Ph.1 (show r.isEmpty=true from hr)] at hl;cases hl
     | str=>rw [Ph.1 (show r.isEmpty=true from hr)] at hl;cases hl
     | sl t=>rw [Ph.1 (show r.isEmpty=true from hr)] at hl;cases hl
     | ptr i off=>rw [Ph.1 (show r.isEmpty=true from hr)] at hl;cases hl
     | any=>rw [Ph.1 (show r.isEmpty=true from hr)] at hl;cases hl
     | stc t=>rw [Ph.1 (C0.1 (show (Qdg x&&r.isEmpty)=true from hr)).2] at hl;cases hl
  ·cases h
theorem rd1_ne {s:TSt U} {ls:List Loc} {k:AK U} {v:k.Ty} (h:Qmw D s ls k=some v):∃ l r,ls=l::r:=by
 cases ls with
 | nil=>cases h
 | cons l r=>exact ⟨l,r,rfl⟩
structure AtLab (D:Codec U) (h:Lab U) (st s:TSt U) (t:tup (h.sl.map (·.2))):Prop where
 sfx:Sfx st s
 wf:Qhi h st=true
 pk:GB D h st s=some t
theorem AtLab.parts {h:Lab U} {st s:TSt U} {t:tup (h.sl.map (·.2))} (a:AtLab D h st s t) :
  (∃ p,s.tm=p++st.tm∧∀ q∈p,q.1∈DQ h.sl∨q.1∈h.dead)∧(∃ p,s.m.es=p++st.m.es∧∀ q∈p,Ql1 st.m.nx (Yk h.sl) q=true)∧(∃ p,s.m.tk=p++st.m.tk∧∀ q∈p,st.m.nx≤q.1∨q.1∈Y4 h.sl)∧Qni D s h.sl=some t∧st.df=s.df:=by
 obtain ⟨⟨p1,e1⟩,⟨p2,e2⟩,⟨p3,e3⟩,_,_,_⟩:=a.sfx
 have hp:=a.pk
 unfold GB at hp
 cases hc:Qi6 h st s with
 | false=>rw [hc] at hp;cases hp
 | true =>
  rw [hc,C7] at hp
  unfold Qi6 at hc
  rw [e1,e2,e3,YU,YU,YU] at hc
  obtain ⟨c0,hc⟩:=C0.1 hc
  obtain ⟨c1,c23⟩:=C0.1 hc
  obtain ⟨c2,c3⟩:=C0.1 c23
  refine ⟨⟨p1,e1,fun q hq=>?_⟩,⟨p2,e2,fun q hq=>Cg.1 c2 q hq⟩,⟨p3,e3,fun q hq=>?_⟩,hp,Gr c0⟩
  ·rcases CM.1 (Cg.1 c1 q hq) with h | h
   ·exact .inl (S3.1 h)
   ·exact .inr (S3.1 h)
  ·rcases CM.1 (Cg.1 c3 q hq) with h | h
   ·exact .inl (C3 h)
   ·exact .inr (S3.1 h)
structure WfL (h:Lab U) (st:TSt U):Prop where
 tm:∀ p∈st.tm,p.2.belowB st.m.nx=true
 es:∀ e∈st.m.es,e.belowB st.m.nx=true
 tk:∀ p∈st.m.tk,p.1 < st.m.nx
 df:∀ i∈st.df.tail,i < st.m.nx
 cells:∀ p∈Yk h.sl,Qjy st.m.es p=true
 disj:disj (Yk h.sl)=true
 nd:Qnl (Y4 h.sl)=true
 app:∀ i∈Y4 h.sl,Qlz st i=true
 pt:∀ i∈Q2z h.sl,i < st.m.nx
theorem Q2n {h:Lab U} {st:TSt U} (hw:Qhi h st=true):WfL h st:=by
 unfold Qhi at hw
 obtain ⟨a1,hw⟩:=C0.1 hw
 obtain ⟨a2,hw⟩:=C0.1 hw
 obtain ⟨a3,hw⟩:=C0.1 hw
 obtain ⟨a4,hw⟩:=C0.1 hw
 obtain ⟨a5,hw⟩:=C0.1 hw
 obtain ⟨a6,hw⟩:=C0.1 hw
 obtain ⟨a7,hw⟩:=C0.1 hw
 obtain ⟨a8,a9⟩:=C0.1 hw
 exact ⟨Cg.1 a1,Cg.1 a2,fun p hp=>C3 (Cg.1 a3 p hp),fun i hi=>C3 (Cg.1 a4 i hi),Cg.1 a5,a6,a7,Cg.1 a8,fun i hi=>C3 (Cg.1 a9 i hi)⟩
theorem Q7q {x:TA U} {j u m:Nat} (h:x.hasApp j u=true) (hb:x.belowB m=true):j < m:=by
 cases x with
 | app i v =>
  have:=C4 (C0.1 (show (Nat.beq i j&&Nat.beq v u)=true from h)).1
  subst this
  exact C3 hb
 | c x=>cases h
 | ptr i off=>cases h
 | pel t x off=>cases h
 | fn f caps=>cases h
 | raw x=>cases h
theorem It.app_lt {x:It U} {j u m:Nat} (h:x.hasApp j u=true) (hb:x.belowB m=true):j < m:=by
 cases x with
 | one x=>exact Q7q h hb
 | grp t x=>cases h
theorem Uw {xs:List (It U)} {j u m:Nat} (h:xs.any (It.hasApp j u)=true) (hb:xs.all (It.belowB m)=true):j < m:=by
 obtain ⟨x,h1,h2⟩:=CS.1 h
 exact It.app_lt h2 (Cg.1 hb x h1)
theorem Q55 {x:TAV U} {j u m:Nat} (h:x.hasApp j u=true) (hb:x.belowB m=true):j < m:=by
 cases x with
 | one x=>exact Q7q h hb
 | agg xs=>exact Uw h hb
theorem UI {x:TTV U} {j u m:Nat} (h:x.hasApp j u=true) (hb:x.belowB m=true):j < m:=by
 cases x with
 | v x=>exact Q55 h hb
 | tup xs =>
  obtain ⟨x,h1,h2⟩:=CS.1 (show xs.any (TAV.hasApp j u)=true from h)
  exact Q55 h2 (Cg.1 (show xs.all (TAV.belowB m)=true from hb) x h1)
 | unk=>cases h
theorem Ev.app_lt {x:Ev U} {j u m:Nat} (h:x.hasApp j u=true) (hb:x.belowB m=true):j < m:=by
 cases x with
 | box i T xs=>exact Uw h (C0.1 hb).2
 | set i off xs=>exact Uw h hb
 | raw i B=>cases h
 | lp i s p tm nt ps a b d =>
  obtain ⟨q,h1,h2⟩:=CS.1 (show tm.any (fun p=>p.2.hasApp j u)=true from h)
  exact UI h2 (Cg.1 (C0.1 (C0.1 hb).2).2 q h1)
 | ls i xs =>
  obtain ⟨q,h1,h2⟩:=CS.1 (show xs.any (fun p=>p.2.hasApp j u)=true from h)
  exact UI h2 (Cg.1 (show xs.all (fun p=>p.2.belowB m)=true from hb) q h1)
theorem Q1o {x:TA U} {m:Nat} (tk:List (Nat×TTok U)) (hb:x.belowB m=true):(x.er tk).below m:=by
 cases x with
 | c x=>trivial
 | ptr i off=>exact C3 hb
 | pel t x off=>trivial
 | fn f caps=>exact fun p hp=>C3 (Cg.1 (show caps.all _=true from hb) p hp)
 | app i ver =>
  show (match cur tk i ver with
   | some T=>CA.app i (U.E T.t).sz ((U.E T.t).encL T.l)
   | none=>CA.any).below m
  cases cur tk i ver with
  | none=>trivial
  | some T=>exact C3 hb
 | raw x =>
  cases x with
  | yld L=>exact C3 hb
  | any=>trivial
  | _=>cases hb
theorem Q0h {xs:List (It U)} {m:Nat} (tk:List (Nat×TTok U)) (hb:xs.all (It.belowB m)=true):∀ x∈Je D tk xs,x.below m:=by
 intro x hx
 obtain ⟨y,hy,rfl⟩:=Cv.1 hx
 obtain ⟨it,h1,h2⟩:=P8.1 hy
 have h3:=Cg.1 hb it h1
 cases it with
 | one z=>rw [CE.1 h2];exact Q1o tk h3
 | grp t z=>obtain ⟨c,_,rfl⟩:=Cv.1 h2;trivial
theorem Xs {x:TAV U} {m:Nat} (tk:List (Nat×TTok U)) (hb:x.belowB m=true):(x.er D tk).below m:=by
 cases x with
 | one x=>exact Q1o tk hb
 | agg xs=>exact Q0h tk hb
theorem Xr {x:TTV U} {m:Nat} (tk:List (Nat×TTok U)) (hb:x.belowB m=true):(x.er D tk).below m:=by
 cases x with
 | v x=>exact Xs tk hb
 | tup xs =>
  intro y hy
  obtain ⟨z,hz,rfl⟩:=Cv.1 hy
  exact Xs tk (Cg.1 (show xs.all (TAV.belowB m)=true from hb) z hz)
 | unk=>trivial
theorem Qa9:∀ (ys xs:List CA) (off:Nat) (z:CA),z∈setL xs off ys→z∈xs∨z∈ys
 | [],xs,off,z,h=>.inl h
 | y::ys,xs,off,z,h=>by
  rcases Qa9 ys _ _ z h with h | h
  ·rcases List.mem_or_eq_of_mem_set h with h | h
   ·exact .inl h
   ·exact .inr (by rw [h];exact Ch ..)
  ·exact .inr (Ci _ h)
theorem KS {tk:List (Nat×TTok U)} {m:Nat}:∀ {es:List (Ev U)},(∀ e∈es,e.belowB m=true)→∀ i B,Qpt (Qg D tk es) i=some B→i < m∧B.below m
 | [],_,i,B,h=>by cases h
 | .box j T xs::es,hb,i,B,h=>by
  have h1:=hb _ (Ch ..)
  unfold Qg at h
  rw [Q1] at h
  split at h
  ·rename_i e;subst e;cases h
   obtain ⟨b1,b2⟩:=C0.1 h1
   exact ⟨C3 b1,Q0h tk b2⟩
  ·exact KS (fun e he=>hb e (Ci _ he)) i B h
 | .raw j B'::es,hb,i,B,h=>by
  have h1:=hb _ (Ch ..)
  unfold Qg at h
  rw [Q1] at h
  split at h
  ·rename_i e;subst e;cases h
   cases B' with
   | obj o=>exact ⟨C3 h1,trivial⟩
   | cells T xs=>cases h1
   | loop s p tm nt ps a b d=>cases h1
   | mp es clock=>cases h1
  ·exact KS (fun e he=>hb e (Ci _ he)) i B h
 | .lp j s p tm nt ps a b d::es,hb,i,B,h=>by
  have h1:=hb _ (Ch ..)
  unfold Qg at h
  rw [Q1] at h
  split at h
  ·rename_i e;subst e;cases h
   obtain ⟨b1,b23⟩:=C0.1 h1
   obtain ⟨b2,b3⟩:=C0.1 b23
   refine ⟨C3 b1,C3 b2,fun t x hx=>?_⟩
   rw [QL] at hx
   cases hz:Qpt tm t with
   | none=>rw [hz] at hx;cases hx
   | some z=>rw [hz] at hx;cases hx;exact Xr tk (Cg.1 b3 _ (JO hz))
  ·exact KS (fun e he=>hb e (Ci _ he)) i B h
 | .ls j xs::es,hb,i,B,h=>by
  have h1:=hb _ (Ch ..)
  have ih:=KS (tk:=tk) (fun e he=>hb e (Ci _ he))
  unfold Qg at h
  split at h
  ·rename_i s p tm nt ps a b d hy
   rw [Q1] at h
   split at h
   ·rename_i e;subst e;cases h
    obtain ⟨c1,c2,c3⟩:=ih j _ hy
    refine ⟨c1,c2,fun t x hx=>?_⟩
    rw [Jr] at hx
    cases hz:Qpt xs t with
    | none =>
     rw [QL,hz] at hx
     exact c3 t x hx
    | some z =>
     rw [QL,hz] at hx;cases hx
     exact Xr tk (Cg.1 (show xs.all (fun p=>p.2.belowB _)=true from h1) _ (JO hz))
   ·exact ih i B h
  ·exact ih i B h
 | .set j off xs::es,hb,i,B,h=>by
  have h1:=hb _ (Ch ..)
  have ih:=KS (tk:=tk) (fun e he=>hb e (Ci _ he))
  unfold Qg at h
  split at h
  ·rename_i T ys hy
   rw [Q1] at h
   split at h
   ·rename_i e;subst e;cases h
    obtain ⟨c1,c2⟩:=ih j _ hy
    refine ⟨c1,fun z hz=>?_⟩
    rcases Qa9 _ _ _ z hz with hz | hz
    ·exact c2 z hz
    ·exact Q0h tk h1 z hz
   ·exact ih i B h
  ·exact ih i B h
def BR (cs:List (Nat×Nat×Nat)) (i:Nat):Option HB→Option HB→Prop
 | none,none=>True
 | some A,some B=>(A=B)∨∃ T xs ys,A=.cells T xs∧B=.cells T ys∧xs.length=ys.length∧∀ k,Q8j cs i k=false→ys[k]?=xs[k]?
 | _,_=>False
theorem BR.refl (cs:List (Nat×Nat×Nat)) (i:Nat) (o:Option HB):BR cs i o o:=by
 cases o with
 | none=>trivial
 | some A=>exact .inl rfl
theorem ZI (hD:D.OK) {tk:List (Nat×TTok U)} {nx:Nat} {cs:List (Nat×Nat×Nat)} {es:List (Ev U)}:∀ (q:List (Ev U)),(∀ e∈q,Ql1 nx cs e=true)→∀ i,i < nx→BR cs i (Qpt (Qg D tk es) i) (Qpt (Qg D tk (q++es)) i)
 | [],_,i,_=>BR.refl ..
 | .box j T xs::q,h,i,hi=>by
  have hj:=C3 (h _ (Ch ..))
  have ih:=ZI hD (tk:=tk) (es:=es) q (fun e he=>h e (Ci _ he)) i hi
  show BR cs i (Qpt (Qg D tk es) i) (Qpt ((j,.cells T (Je D tk xs))::Qg D tk (q++es)) i)
  rw [Q1,C8 (by omega)]
  exact ih
 | .raw j B::q,h,i,hi=>by
  have hj:=C3 (h _ (Ch ..))
  have ih:=ZI hD (tk:=tk) (es:=es) q (fun e he=>h e (Ci _ he)) i hi
  show BR cs i (Qpt (Qg D tk es) i) (Qpt ((j,B)::Qg D tk (q++es)) i)
  rw [Q1,C8 (by omega)]
  exact ih
 | .lp j s p tm nt ps a b d::q,h,i,hi=>by
  have hj:=C3 (h _ (Ch ..))
  have ih:=ZI hD (tk:=tk) (es:=es) q (fun e he=>h e (Ci _ he)) i hi
  show BR cs i (Qpt (Qg D tk es) i) (Qpt ((j,.loop s p (QI (TTV.er D tk) tm) nt ps a b d)::Qg D tk (q++es)) i)
  rw [Q1,C8 (by omega)]
  exact ih
 | .ls j xs::q,h,i,hi=>by
  have hj:=C3 (h _ (Ch ..))
  have ih:=ZI hD (tk:=tk) (es:=es) q (fun e he=>h e (Ci _ he)) i hi
  show BR cs i (Qpt (Qg D tk es) i) (Qpt (match Qpt (Qg D tk (q++es)) j with
   | some (.loop s p tm nt ps a b d)=>(j,.loop s p (QI (TTV.er D tk) xs++tm) nt ps a b d)::Qg D tk (q++es)
   | _=>Qg D tk (q++es)) i)
  split
  ·rw [Q1,C8 (by omega)];exact ih
  ·exact ih
 | .set j off xs::q,h,i,hi=>by
  have hev:=h _ (Ch ..)
  have ih:=ZI hD (tk:=tk) (es:=es) q (fun e he=>h e (Ci _ he)) i hi
  show BR cs i (Qpt (Qg D tk es) i) (Qpt (match Qpt (Qg D tk (q++es)) j with
   | some (.cells T ys)=>(j,.cells T (setL ys off (Je D tk xs)))::Qg D tk (q++es)
   | _=>Qg D tk (q++es)) i)
  split
  ·rename_i T ys hy
   rw [Q1]
   by_cases e:j=i
   ·subst e
    rw [Cc rfl]
    have hin:∀ k,Q8j cs j k=false→(setL ys off (Je D tk xs))[k]?=ys[k]?:=by
     intro k hk
     rw [XJ,Zk hD]
     by_cases c:off≤k∧k < off+QW xs∧k < ys.length
     ·exfalso
      rcases CM.1 (show (Nat.ble nx j||(List.range (QW xs)).all fun p=>Q8j cs j (off+p))=true from hev) with h1 | h1
      ·have:=C3 h1;omega
      ·have:=Cg.1 h1 (k - off) (List.mem_range.2 (by omega))
       rw [show off+(k - off)=k by omega,hk] at this
       cases this
     ·rw [C8 c]
    rw [hy] at ih
    cases hA:Qpt (Qg D tk es) j with
    | none=>rw [hA] at ih;exact ih.elim
    | some A =>
     rw [hA] at ih
     rcases ih with e1 | ⟨T',x1,y1,e1,e2,e3,e4⟩
     ·exact .inr ⟨T,ys,_,e1,rfl,(Ji ..).symm,hin⟩
     ·cases e2
      exact .inr ⟨T,x1,_,e1,rfl,by rw [Ji];exact e3,fun k hk=>(hin k hk).trans (e4 k hk)⟩
   ·rw [C8 e];exact ih
  ·exact ih
theorem Qa8 (hD:D.OK) {tk:List (Nat×TTok U)} {es:List (Ev U)}:∀ (L:List (Nat×Nat×List (It U))),disj (L.map fun q=>(q.1,q.2.1,QW q.2.2))=true→∀ p∈L,∀ (T:TypeId) (ys:List CA),Qpt (Qg D tk (L.map U1++es)) p.1=some (.cells T ys) →
  ∀ k,p.2.1≤k→k < p.2.1+QW p.2.2→k < ys.length→ys[k]?=(Je D tk p.2.2)[k - p.2.1]?
 | [],_,p,hp,_,_,_=>by cases hp
 | q::L,hd,p,hp,T,ys,hy=>by
  intro k k1 k2 Qpz
  obtain ⟨d1,d2⟩:=C0.1 (show ((L.map fun q=>(q.1,q.2.1,QW q.2.2)).all _&&disj (L.map fun q=>(q.1,q.2.1,QW q.2.2)))=true from hd)
  have hq:Qg D tk ((q::L).map U1++es)=match Qpt (Qg D tk (L.map U1++es)) q.1 with
   | some (.cells T ys)=>(q.1,.cells T (setL ys q.2.1 (Je D tk q.2.2)))::Qg D tk (L.map U1++es)
   | _=>Qg D tk (L.map U1++es):=by
   show Qg D tk (.set q.1 q.2.1 q.2.2::(L.map U1++es))=_
   rfl
  rw [hq] at hy
  rcases Cq.1 hp with rfl | hp
  ·split at hy
   ·rename_i T0 y0 h0
    rw [Q1,Cc rfl] at hy
    cases hy
    rw [Ji] at Qpz
    rw [XJ,Zk hD,Cc ⟨k1,k2,Qpz⟩]
   ·rename_i h0
    exact (h0 T ys hy).elim
  ·have ih:=Qa8 hD (tk:=tk) (es:=es) L d2 p hp
   split at hy
   ·rename_i T0 y0 h0
    rw [Q1] at hy
    by_cases e:q.1=p.1
    ·rw [Cc e] at hy
     cases hy
     rw [e] at h0
     rw [Ji] at Qpz
     have h1:=Cg.1 d1 (p.1,p.2.1,QW p.2.2) (Cv.2 ⟨p,hp,rfl⟩)
     dsimp only at h1
     rw [e] at h1
     have h2:(Nat.ble (q.2.1+QW q.2.2) p.2.1||Nat.ble (p.2.1+QW p.2.2) q.2.1)=true:=by simpa using h1
     rw [XJ,Zk hD,C8]
     ·exact ih _ y0 h0 k k1 k2 Qpz
     ·rcases CM.1 h2 with h3 | h3 <;> have:=C3 h3 <;> omega
    ·rw [C8 e] at hy
     exact ih T ys hy k k1 k2 Qpz
   ·exact ih T ys hy k k1 k2 Qpz
end
end
noncomputable section
open Go.RowKit
section
variable {U:Univ} {D:Codec U}
theorem W3 {α:Type}:∀ {l:List (Nat×α)} {i:Nat},Qpt l i=none→∀ p∈l,p.1 ≠ i
  | (k,x)::l,i,h,p,hp=>by
    rw [Q1] at h
    split at h
    · cases h
    · rename_i hne
      rcases Cq.1 hp with rfl | hp
      · exact hne
      · exact W3 h p hp
theorem XN (x:TTV U):∀ ls:List Loc,(Uh x ls).map (·.1)=Q37 ls
 | []=>rfl
 | .reg r::ls=>by show r::(Uh x ls).map _=r::_;rw [XN x ls]
 | .cell i off::ls=>XN x ls
theorem labTm_keys (tk:List (Nat×TTok U)) {sl:List (List Loc×AK U)} {t:tup (sl.map (·.2))}:(Qfp tk (vals sl t)).map (·.1)=DQ sl:=by
 have e:DQ sl=(vals sl t).flatMap fun p=>Q37 p.1:=by
  have:=congrArg (fun l:List (List Loc×AK U)=>l.flatMap fun p=>Q37 p.1) (Wx (sl:=sl) (t:=t))
  rw [← show _=DQ sl from this,Sa]
 rw [e]
 unfold Qfp
 rw [List.map_flatMap]
 congr 1
 funext p
 exact XN _ p.1
variable {h:Lab U} {st s:TSt U} {t:tup (h.sl.map (·.2))}
abbrev Qr2 (h:Lab U) (st:TSt U) (t:tup (h.sl.map (·.2))):List (Nat×TTok U):=Qbc st.m.tk (vals h.sl t)++st.m.tk
theorem Q3w (wf:WfL h st):∀ p∈vals h.sl t,∀ w∈Qkr p.2.1 p.2.2 (WV st.m.tk p.2.1),Qpt (Qr2 h st t) w.1=some w.2∧cur (Qr2 h st t) w.1 (WV st.m.tk p.2.1)=some w.2:=by
 intro p hp w hw
 have hm:(w.1,w.2)∈Qbc st.m.tk (vals h.sl t):=P8.2 ⟨p,hp,hw⟩
 have h1:=Qlo (by rw [Ut];exact wf.nd) hm
 have h2:Qpt (Qr2 h st t) w.1=some w.2:=by
  unfold Qr2
  rw [U2,h1]
 refine ⟨h2,?_⟩
 have hv:w.2.ver=WV st.m.tk p.2.1:=by
  obtain ⟨ls,k,v⟩:=p
  cases k with
  | app i e tt=>rw [CE.1 hw]
  | int k=>cases hw
  | bool=>cases hw
  | str=>cases hw
  | sl t=>cases hw
  | stc t=>cases hw
  | ptr i o=>cases hw
  | any=>cases hw
 unfold cur
 rw [h2]
 dsimp only
 rw [hv]
 simp
theorem Q94 {i:Nat} (hi:i∉Y4 h.sl):Qpt (Qr2 h st t) i=Qpt st.m.tk i:=by
 unfold Qr2
 rw [U2,Q8x (fun p hp e=>hi (by
  rw [← Ut st.m.tk (t:=t)]
  exact Cv.2 ⟨p,hp,e⟩))]
theorem Qj5 (wf:WfL h st) {i:Nat} (hi:i∈Y4 h.sl):∃ p∈vals h.sl t,∃ (e:TypeId) (tt:U.T) (l:List (U.R tt)),p.2=⟨.app i e tt,l⟩∧Qpt (Qr2 h st t) i=some ⟨e,tt,l,WV st.m.tk (.app i e tt)⟩:=by
 rw [← Ut st.m.tk (t:=t)] at hi
 obtain ⟨w,hw,rfl⟩:=Cv.1 hi
 obtain ⟨p,hp,hwp⟩:=P8.1 hw
 have h1:=(Q3w (t:=t) wf p hp w hwp).1
 obtain ⟨ls,k,v⟩:=p
 cases k with
 | app i e tt =>
  rw [CE.1 hwp] at h1 ⊢
  exact ⟨_,hp,e,tt,v,Z,h1⟩
 | int k=>cases hwp
 | bool=>cases hwp
 | str=>cases hwp
 | sl t=>cases hwp
 | stc t=>cases hwp
 | ptr i o=>cases hwp
 | any=>cases hwp
theorem Qbb (a:AtLab D h st s t) {i:Nat} (hi:i∉Y4 h.sl) (hn:i < st.m.nx):Qpt s.m.tk i=Qpt st.m.tk i:=by
 obtain ⟨-,-,⟨p3,e3,Qpz⟩,-⟩:=a.parts
 rw [e3,U2,Q8x (fun p hp e=>by
  rcases Qpz p hp with q | q
  ·omega
  ·exact hi (by rw [← e];exact q))]
theorem Qba (a:AtLab D h st s t) {P:Nat→Nat→Prop} (h1:∀ j u,P j u→j < st.m.nx) (h2:∀ i∈Y4 h.sl,¬ P i (QY st.m.tk i)):TkW s.m.tk (Qr2 h st t) P:=by
 have wf:=Q2n a.wf
 intro j u hp
 by_cases hj:j∈Y4 h.sl
 ·left
  obtain ⟨p,_,e,tt,l,_,hl⟩:=Qj5 (t:=t) wf hj
  unfold cur
  rw [hl]
  dsimp only
  cases hb:Nat.beq (WV st.m.tk (AK.app j e tt)) u with
  | false=>rfl
  | true =>
   have e1:=C4 hb
   exact (h2 j hj (by
    have:P j (WV st.m.tk (AK.app j e tt)):=by rw [e1];exact hp
    exact this)).elim
 ·right
  unfold cur
  rw [Q94 hj,Qbb a hj (h1 j u hp)]
theorem memC_of {cs:List (Nat×Nat×Nat)} {i k:Nat} (h:Q8j cs i k=true):∃ c∈cs,c.1=i∧c.2.1≤k∧k < c.2.1+c.2.2:=by
 obtain ⟨c,hc,hb⟩:=CS.1 h
 obtain ⟨b1,b23⟩:=C0.1 hb
 obtain ⟨b2,b3⟩:=C0.1 b23
 exact ⟨c,hc,C4 b1,C3 b2,C3 b3⟩
theorem of_memC {cs:List (Nat×Nat×Nat)} {i k:Nat} {c:Nat×Nat×Nat} (hc:c∈cs) (h1:c.1=i) (h2:c.2.1≤k) (h3:k < c.2.1+c.2.2):Q8j cs i k=true :=
 CS.2 ⟨c,hc,C0.2 ⟨by rw [h1];simp,C0.2 ⟨Cb h2,Cb h3⟩⟩⟩
theorem lab_sets_ok (hD:D.OK) (st:TSt U) (t:tup (h.sl.map (·.2))):∀ e∈(Xi st.m.tk (vals h.sl t)).map U1,Ql1 st.m.nx (Yk h.sl) e=true:=by
 intro e he
 obtain ⟨q,hq,rfl⟩:=Cv.1 he
 have hc:(q.1,q.2.1,QW q.2.2)∈Yk h.sl:=by
  rw [← Gn hD st.m.tk (t:=t)]
  exact Cv.2 ⟨q,hq,Z⟩
 refine CM.2 (.inr (Cg.2 fun k hk=>?_))
 have:=List.mem_range.1 hk
 exact of_memC hc rfl (by dsimp only;omega) (by dsimp only;omega)
theorem UD {m:Nat} (k:AK U) (v:k.Ty) (ver:Nat) (h:∀ i∈Q4y k,i < m) (h2:∀ i∈Qak k,i < m):(GI k v ver).belowB m=true:=by
 cases k with
 | app i e tt=>exact Cb (h i (CE.2 rfl))
 | int k=>rfl
 | bool=>rfl
 | str=>rfl
 | sl t=>rfl
 | stc t=>rfl
 | ptr i o=>exact Cb (h2 i (CE.2 rfl))
 | any=>rfl
theorem TAV.items_below {m:Nat} {x:TAV U} (h:x.belowB m=true):x.items.all (It.belowB m)=true:=by
 cases x with
 | one x=>show (It.belowB m (.one x)&&true)=true;rw [Bool.and_true];exact h
 | agg xs=>exact h
theorem Q6s (wf:WfL h st):(∀ p∈(lab h st t).tm,p.2.belowB st.m.nx=true)∧∀ e∈(lab h st t).m.es,e.belowB st.m.nx=true:=by
 have happ:∀ p∈vals h.sl t,∀ i∈Q4y p.2.1,i < st.m.nx:=fun p hp i hi=>by
  have:i∈Y4 h.sl:=by
   have e:Y4 h.sl=(vals h.sl t).flatMap fun p=>Q4y p.2.1:=by
    have:=congrArg (fun l:List (List Loc×AK U)=>l.flatMap fun p=>Q4y p.2) (Wx (sl:=h.sl) (t:=t))
    rw [← show _=Y4 h.sl from this,Sa]
   rw [e]
   exact P8.2 ⟨p,hp,hi⟩
  exact C3 (C0.1 (wf.app i this)).1
 have hptr:∀ p∈vals h.sl t,∀ i∈Qak p.2.1,i < st.m.nx:=fun p hp i hi=>by
  have:i∈Q2z h.sl:=by
   have e:Q2z h.sl=(vals h.sl t).flatMap fun p=>Qak p.2.1:=by
    have:=congrArg (fun l:List (List Loc×AK U)=>l.flatMap fun p=>Qak p.2) (Wx (sl:=h.sl) (t:=t))
    rw [← show _=Q2z h.sl from this,Sa]
   rw [e]
   exact P8.2 ⟨p,hp,hi⟩
  exact wf.pt i this
 refine ⟨fun p hp=>?_,fun e he=>?_⟩
 ·rcases CQ.1 hp with hp | hp
  ·rcases CQ.1 hp with hp | hp
   ·obtain ⟨q,hq,hm⟩:=P8.1 hp
    rw [(X5 hm).1]
    exact UD _ _ _ (happ q hq) (hptr q hq)
   ·obtain ⟨r,_,rfl⟩:=Cv.1 hp
    rfl
  ·exact wf.tm p hp
 ·rcases CQ.1 he with he | he
  ·obtain ⟨q,hq,rfl⟩:=Cv.1 he
   obtain ⟨p,hp,hm⟩:=P8.1 hq
   have h1:=(X3 hm).1
   show q.2.2.all (It.belowB st.m.nx)=true
   rw [h1]
   exact TAV.items_below (UD _ _ _ (happ p hp) (hptr p hp))
  ·exact wf.es e he
theorem Q39 {i off n:Nat} {x:TAV U} (hx:Xx D s (.cell i off) n=some x):WY D s.m.es i off n=some x.items:=by
 unfold Xx at hx
 dsimp only at hx
 split at hx
 ·rename_i y hy;cases hx;exact hy
 ·rename_i xs hne hxs;cases hx;exact hxs
 ·cases hx
theorem Q5x {r n:Nat} {x:TAV U} (hx:Xx D s (.reg r) n=some x):Qpt s.tm r=some (.v x):=by
 unfold Xx at hx
 dsimp only at hx
 split at hx
 ·rename_i y hy;cases hx;exact hy
 ·cases hx
theorem lab_hp (hD:D.OK) (a:AtLab D h st s t):∀ i B,Qpt (Qg D (Qr2 h st t) ((Xi st.m.tk (vals h.sl t)).map U1++st.m.es)) i=some B→∃ A,Qpt (Qg D s.m.tk s.m.es) i=some A∧∀ V w o,A.rel V w o→B.rel V w o:=by
 have wf:=Q2n a.wf
 obtain ⟨-,⟨p2,e2,k2⟩,-,hrd,-⟩:=a.parts
 have hv:=Q23 hrd
 intro i B hB
 have hi:i < st.m.nx:=(KS (Q6s (t:=t) wf).2 i B hB).1
 have brL:=ZI hD (tk:=Qr2 h st t) (es:=st.m.es) _ (lab_sets_ok hD st t) i hi
 have brS:=ZI hD (tk:=s.m.tk) (es:=st.m.es) p2 k2 i hi
 rw [← e2] at brS
 have ow:=YP (D:=D) (es:=st.m.es) (tk:=s.m.tk) (tk':=Qr2 h st t) (Qba a (fun j u hp=>by
   obtain ⟨e,he,hp⟩:=CS.1 hp
   exact Ev.app_lt hp (wf.es e he)) (fun i hi hp=>by
   have h1:=(C0.1 (wf.app i hi)).2
   have h2:=(C0.1 h1).2
   rw [hp] at h2
   cases h2)) i
 rw [hB] at brL
 cases hX:Qpt (Qg D (Qr2 h st t) st.m.es) i with
 | none=>rw [hX] at brL;exact brL.elim
 | some X =>
  rw [hX] at brL ow
  cases hY:Qpt (Qg D s.m.tk st.m.es) i with
  | none=>rw [hY] at ow;exact ow.elim
  | some Y =>
   rw [hY] at brS ow
   cases hA:Qpt (Qg D s.m.tk s.m.es) i with
   | none=>rw [hA] at brS;exact brS.elim
   | some A =>
    rw [hA] at brS
    refine ⟨A,Z,?_⟩
    have cellsX:(∃ T xs0,X=.cells T xs0)∨BW A B:=by
     cases X with
     | cells T xs0=>exact .inl ⟨T,xs0,rfl⟩
     | obj o =>
      right
      rcases brL with e | ⟨T,x1,y1,e,_⟩
      ·rcases brS with e3 | ⟨T,x1,y1,e3,_⟩
       ·have ow2:BW Y _:=ow
        rw [← e3,← e];exact ow2
       ·subst e3;cases ow
      ·cases e
     | loop st1 pp tm nt ps asg body DD =>
      right
      rcases brL with e | ⟨T,x1,y1,e,_⟩
      ·rcases brS with e3 | ⟨T,x1,y1,e3,_⟩
       ·have ow2:BW Y _:=ow
        rw [← e3,← e];exact ow2
       ·subst e3;cases ow
      ·cases e
     | mp es clock =>
      right
      rcases brL with e | ⟨T,x1,y1,e,_⟩
      ·rcases brS with e3 | ⟨T,x1,y1,e3,_⟩
       ·have ow2:BW Y _:=ow
        rw [← e3,← e];exact ow2
       ·subst e3;cases ow
      ·cases e
    rcases cellsX with ⟨T,xs0,rfl⟩ | e
    ·obtain ⟨xs,rfl,l1,g1⟩:∃ xs,B=.cells T xs∧xs.length=xs0.length∧∀ k,Q8j (Yk h.sl) i k=false→xs[k]?=xs0[k]?:=by
      rcases brL with e | ⟨T',x1,y1,e,e',l,g⟩
      ·exact ⟨xs0,e.symm,rfl,fun _ _=>rfl⟩
      ·cases e;exact ⟨y1,e',l.symm,g⟩
     obtain ⟨ys0,rfl,hl0⟩:∃ ys0,Y=.cells T ys0∧LW ys0 xs0:=by
      have ow':BW Y (.cells T xs0):=ow
      cases ow' with
      | refl=>exact ⟨xs0,rfl,LW.refl _⟩
      | cells hl=>exact ⟨_,rfl,hl⟩
     obtain ⟨ys,rfl,l2,Qq8⟩:∃ ys,A=.cells T ys∧ys.length=ys0.length∧∀ k,Q8j (Yk h.sl) i k=false→ys[k]?=ys0[k]?:=by
      rcases brS with e | ⟨T',x1,y1,e,e',l,g⟩
      ·exact ⟨ys0,e.symm,rfl,fun _ _=>rfl⟩
      ·cases e;exact ⟨y1,e',l.symm,g⟩
     intro V w o hr
     refine BW.rel (.cells ⟨by rw [l2,hl0.1,l1],fun k x y hx hy=>?_⟩) hr
     cases hm:Q8j (Yk h.sl) i k with
     | false =>
      rw [Qq8 k hm] at hx
      rw [g1 k hm] at hy
      exact hl0.2 k x y hx hy
     | true =>
      obtain ⟨c,hc,c1,c2,c3⟩:=memC_of hm
      have hc':=hc
      rw [← Gn hD st.m.tk (t:=t)] at hc'
      obtain ⟨q,hq,rfl⟩:=Cv.1 hc'
      dsimp only at c1 c2 c3
      have hyl:k < xs.length:=(Cf.1 hy).1
      have hset:=Qa8 hD (tk:=Qr2 h st t) (es:=st.m.es) (Xi st.m.tk (vals h.sl t)) (by rw [Gn hD];exact wf.disj) q hq T xs (by rw [c1];exact hB) k c2 c3 hyl
      rw [hset] at hy
      obtain ⟨p,hp,hm⟩:=P8.1 hq
      obtain ⟨q1,q2⟩:=X3 hm
      obtain ⟨z,hz,hdec,-⟩:=Q86 (hv p hp) _ q2
      obtain ⟨T1,zs,r1,r2,r3⟩:=Yg hD (tk:=s.m.tk) (Q39 hz)
      have hlw:=Qjv (tk':=Qr2 h st t) (ver:=WV st.m.tk p.2.1) hD hdec (fun w hw=>(Q3w (t:=t) wf p hp w hw).2)
      rw [← q1,← r3] at hlw
      rw [c1,hA] at r1
      cases r1
      have hsz:QW q.2.2=p.2.1.sz:=by rw [q1];exact Q76 hD _ _ _
      refine hlw.2 (k - q.2.1) x y ?_ hy
      rw [Pa,Cc (by omega),CR,show q.2.1+(k - q.2.1)=k by omega]
      exact hx
    ·intro V w o hr
     exact BW.rel e hr
theorem lab_tm (hD:D.OK) (a:AtLab D h st s t):∀ r y,Qpt (QI (TTV.er D (Qr2 h st t)) (lab h st t).tm) r=some y→y=.unk∨∃ x,Qpt (QI (TTV.er D s.m.tk) s.tm) r=some x∧∀ V w v,x.rel V w v→y.rel V w v:=by
 have wf:=Q2n a.wf
 obtain ⟨⟨p1,e1,k1⟩,-,-,hrd,-⟩:=a.parts
 have hv:=Q23 hrd
 intro r y hy
 rw [QL] at hy
 unfold lab at hy
 dsimp only at hy
 rw [U2,U2] at hy
 cases h1:Qpt (Qfp st.m.tk (vals h.sl t)) r with
 | some y0 =>
  rw [h1] at hy
  cases hy
  right
  obtain ⟨p,hp,hm⟩:=P8.1 (JO h1)
  obtain ⟨m1,m2,-⟩:=X5 hm
  dsimp only at m1 m2
  obtain ⟨x,hx,hdec,hns⟩:=Q86 (hv p hp) _ m2
  refine ⟨TV.v (x.er D s.m.tk),by rw [QL,Q5x hx];rfl,fun V w v hr=>?_⟩
  rw [m1]
  exact Qgf hD hdec (fun w hw=>(Q3w (t:=t) wf p hp w hw).2) hns hr
 | none =>
  rw [h1] at hy
  cases h2:Qpt (h.dead.map fun r=>(r,(TTV.unk:TTV U))) r with
  | some y0 =>
   rw [h2] at hy
   cases hy
   obtain ⟨q,_,hq⟩:=Cv.1 (JO h2)
   cases hq
   exact .inl Z
  | none =>
   rw [h2] at hy
   have hr1:r∉DQ h.sl:=fun hm=>by
    rw [← labTm_keys st.m.tk (t:=t)] at hm
    obtain ⟨q,hq,e⟩:=Cv.1 hm
    exact W3 h1 q hq e
   have hr2:r∉h.dead:=fun hm=>W3 h2 (r,.unk) (Cv.2 ⟨r,hm,rfl⟩) rfl
   have hs:Qpt s.tm r=Qpt st.tm r:=by
    rw [e1,U2,Q8x (fun p hp e=>by
     rcases k1 p hp with q | q
     ·exact hr1 (by rw [← e];exact q)
     ·exact hr2 (by rw [← e];exact q))]
   cases h3:Qpt st.tm r with
   | none=>rw [h3] at hy;cases hy
   | some y0 =>
    rw [h3] at hy
    cases hy
    right
    refine ⟨y0.er D s.m.tk,by rw [QL,hs,h3];rfl,fun V w v hr=>?_⟩
    have hmem:=JO h3
    exact ZL (Qba a (fun j u hp=>UI hp (wf.tm _ hmem)) (fun i hi hp=>by
     have q1:=(C0.1 (wf.app i hi)).2
     have q2:=(C0.1 q1).1
     have q3:st.tm.any (fun p=>p.2.hasApp i (QY st.m.tk i))=true:=CS.2 ⟨_,hmem,hp⟩
     rw [q3] at q2
     cases q2)) hr
theorem lab_tk (a:AtLab D h st s t):∀ i T,Qpt (XB (Qr2 h st t)) i=some (some T)→Qpt (XB s.m.tk) i=some (some T):=by
 have wf:=Q2n a.wf
 obtain ⟨-,-,-,hrd,-⟩:=a.parts
 have hv:=Q23 hrd
 intro i T hT
 have hT':Qpt (QI TTok.erO (Qr2 h st t)) i=some (some T):=hT
 show Qpt (QI TTok.erO s.m.tk) i=some (some T)
 rw [QL] at hT' ⊢
 by_cases hi:i∈Y4 h.sl
 ·obtain ⟨p,hp,e,tt,l,hpe,hl⟩:=Qj5 (t:=t) wf hi
  rw [hl] at hT'
  have hr:=hv p hp
  obtain ⟨ls,kv⟩:=p
  dsimp only at hpe hr
  subst hpe
  obtain ⟨l0,r0,hls⟩:=rd1_ne hr
  obtain ⟨x,hx,hdec,-⟩:=Q86 hr l0 (by rw [hls];exact Ch ..)
  have hdec':Wl s.m.tk i e tt x=some l:=hdec
  unfold Wl at hdec'
  split at hdec'
  ·rename_i j u
   split at hdec'
   ·rename_i T1 hc
    cases hb:(Nat.beq j i&&Nat.beq T1.E e) with
    | false=>rw [hb] at hdec';cases hdec'
    | true =>
     rw [hb,C7] at hdec'
     obtain ⟨b1,b2⟩:=C0.1 hb
     have ej:=C4 b1
     have eE:=C4 b2
     obtain ⟨et,el⟩:=YQ hdec'
     subst et;subst ej
     have hlk:Qpt s.m.tk j=some T1:=by
      unfold cur at hc
      split at hc
      ·rename_i T0 h0
       cases hq:Nat.beq T0.ver u with
       | false=>rw [hq] at hc;cases hc
       | true=>rw [hq] at hc;cases hc;exact h0
      ·cases hc
     rw [hlk]
     have h':=Cw hT'
     show some T1.erO=some (some T)
     rw [← h']
     unfold TTok.erO TTok.er
     rw [eE,el]
   ·cases hdec'
  ·cases hdec'
 ·rw [Q94 hi] at hT'
  have hn:i < st.m.nx:=by
   cases hq:Qpt st.m.tk i with
   | none=>rw [hq] at hT';cases hT'
   | some T0=>exact wf.tk _ (JO hq)
  rw [Qbb a hi hn];exact hT'
theorem W5 (hD:D.OK) (a:AtLab D h st s t) {E:Env} (h0:E.V0.nx≤st.m.nx):To E (s.er D) ((lab h st t).er D):=by
 have wf:=Q2n a.wf
 have hsf:=a.sfx
 intro V ac w hr
 have hdf:st.df=s.df:=a.parts.2.2.2.2
 have hW:StW (s.er D) ⟨QI (TTV.er D (Qr2 h st t)) (lab h st t).tm,Qg D (Qr2 h st t) ((Xi st.m.tk (vals h.sl t)).map U1++st.m.es),XB (Qr2 h st t),s.m.nx,st.nt,st.df⟩ :=
  ⟨lab_tm hD a,lab_hp hD a,lab_tk a,rfl,hsf.nt.symm,hdf⟩
 have hb:=Q6s (t:=t) wf
 refine Rel.trimTo (m:=st.m.nx) (hr.weak hW) ⟨fun r x hx=>?_,fun i B hB=>KS hb.2 i B hB,fun i T hT=>?_,fun i hi=>?_⟩ h0
 ·have hx':Qpt (QI (TTV.er D (Qr2 h st t)) (lab h st t).tm) r=some x:=hx
  rw [QL] at hx'
  cases hy:Qpt (lab h st t).tm r with
  | none=>rw [hy] at hx';cases hx'
  | some y=>rw [hy] at hx';cases hx';exact Xr _ (hb.1 _ (JO hy))
 ·have hT':Qpt (QI TTok.erO (Qr2 h st t)) i=some (some T):=hT
  rw [QL] at hT'
  by_cases hi:i∈Y4 h.sl
  ·exact C3 (C0.1 (wf.app i hi)).1
  ·rw [Q94 hi] at hT'
   cases hq:Qpt st.m.tk i with
   | none=>rw [hq] at hT';cases hT'
   | some T0=>exact wf.tk _ (JO hq)
 ·exact wf.df i hi
theorem Y6 (st:TSt U) (t:tup (h.sl.map (·.2))):Sfx st (lab h st t):=⟨⟨_,rfl⟩,⟨_,rfl⟩,⟨_,rfl⟩,Ck _,rfl,.inr rfl⟩
end
end
noncomputable section
open Go.RowKit
theorem Wt {E:Env} {o:Oper} {a b:St} {x:TV} {m:Mem} (h:StW a b) (k:OpOK E o b x m):OpOK E o a x m:=fun V ac w hr=>k V ac w (hr.weak h)
theorem Q0r {E:Env} {o:Oper} {a:St} {x:TV} {m m':Mem} (hh:∀ i B,Qpt m'.hp i=some B→∃ A,Qpt m.hp i=some A∧∀ V w o,A.rel V w o→B.rel V w o) (ht:∀ i T,Qpt m'.tk i=some (some T)→Qpt m.tk i=some (some T)) (hn:m'.nx=m.nx) (k:OpOK E o a x m):OpOK E o a x m' :=
 fun V ac w hr ro n K Q hK=>k V ac w hr ro n K Q fun V' w' v H e L hv=>hK V' w' v (H.weak hh ht) (e.trans hn.symm) L hv
def Q4t (ops:Array Oper) (i:Nat):List Nat:=(List.range ops.size).filterMap fun j=>match Jf ops j with
 | some d=>cond ((Qu ops i).contains j||(Qu ops j).contains i) none (some d)
 | none=>none
section
variable {U:Univ} (D:Codec U) (C:TCfg U) (K:FuncId→List (TAV U)→Option (KR U)) (X:Qqo U) (Y:Qqn U)
def KT (ops:Array Oper) (i:Nat) (st:TSt U):TSt U:=⟨st.tm.filter fun p=>!((Q4t ops i).contains p.1),st.m,st.nt,st.df⟩
def Qg0 (o:Oper):Bool:=match o.op with
 | .call c=>match c.callee with
  | .value _=>true
  | _=>false
 | _=>false
def Wj {β:Type} (ops:Array Oper) (effs:List Nat) (i:Nat) (o:Oper) (st:TSt U) (p:Value→TMe U→Option β) (k:TSt U→(Bool→TMe U→Bool)→Option β):Option β :=
 match Qkq D C (KT ops i st) o with
 | some r=>cond (JL st o.dst&&!(effs.contains i)) (r.run fun x=>k ⟨WR o.dst x st.tm,st.m,st.nt,st.df⟩ (Qf5 D (KT ops i st).tm st.m o x)) none
 | none=>match Qn4 D C K (KT ops i st) o with
  | some e=>e.run fun q=>cond (Q3g st (q.es++st.m.es) q.tk&&JL st o.dst&&Nat.ble st.m.nx q.nx) (cond (effs.contains i) (k (Q69 st o.dst q) fun _ _=>false) (match q.es,q.tk with
   | [],none=>cond (Nat.beq q.nx st.m.nx) (k ⟨WR o.dst q.x st.tm,st.m,st.nt,st.df⟩ fun up m'=>Qg0 o&&Qf5 D (KT ops i st).tm st.m o q.x up m') none
   | _,_=>none)) none
  | none=>match Qgm X Y (KT ops i st) o with
   | some xo=>cond (JL st o.dst&&effs.contains i) (xo.run (fun x m=>cond (YX (Wo m.tk st.m.tk) st.tm) (k ⟨WR o.dst x st.tm,m,st.nt,st.df⟩ fun _ _=>false) none) fun v m=>cond (YX (Wo m.tk st.m.tk) st.tm) (p v m) none) none
   | none=>none
def Q73 (ops:Array Oper) (effs:List Nat) (acc:List (Nat×(Bool→TMe U→Bool))) (ms:List (TMe U)):Bool :=
 (List.range ops.size).all fun i=>(List.range (effs.length+1)).all fun j=>!(Q19 ops effs i j)||(Nat.beq j (KL effs i)||(match Qpt acc i,ms[j]? with
  | some c,some m=>c (Nat.blt (KL effs i) j) m
  | _,_=>false))
def Qdn (ops:Array Oper) (effs:List Nat):List (Nat×Nat):=(List.range ops.size).flatMap fun i=>((List.range (effs.length+1)).filter fun j=>Q19 ops effs i j&&!(Nat.beq j (KL effs i))).map fun j=>(i,j)
def Qbg (m:TMe U):TMe U:=⟨.raw m.nx (.obj (.deferred none))::m.es,m.tk,m.nx⟩
def Q1c (m:TMe U):Bool:=match m.es with
 | .raw n (.obj (.deferred none))::_=>Nat.ble m.nx n
 | _=>false
def Qbt (effs:List Nat):Nat→List Oper→TMe U→List (TMe U)→List (TMe U)
 | _,[],_,ms=>ms
 | i,_::os,m,ms=>Qbt effs (i+1) os m (cond (effs.contains i) (m::ms) ms)
def Qgj (effs:List Nat):Nat→List Oper→List (Nat×(Bool→TMe U→Bool))→List (Nat×(Bool→TMe U→Bool))
 | _,[],acc=>acc
 | i,_::os,acc=>Qgj effs (i+1) os ((i,fun _ m=>!(effs.contains i)&&Q1c m)::acc)
def Q7b {β:Type} (ops:Array Oper) (effs:List Nat) (i:Nat) (os:List Oper) (st:TSt U) (ms:List (TMe U)) (acc:List (Nat×(Bool→TMe U→Bool))) (p:Value→TSt U→Option β) (v:Value) (m:TMe U):Option β :=
 cond (os.all (fun o=>o.guard.isNone&&JL st o.dst)&&Q73 ops effs (Qgj effs (i+1) os ((i,fun _ _=>false)::acc)) (Qbg st.m::Qbt effs (i+1) os (Qbg st.m) (st.m::ms)).reverse)
  (p v ⟨((Jk ops).map fun d=>(d,TTV.unk))++st.tm,m,st.nt,st.df⟩) none
def K9 {β:Type} (ops:Array Oper) (effs:List Nat) (p:Value→TSt U→Option β):Nat→List Oper→TSt U→List (TMe U)→List (Nat×(Bool→TMe U→Bool))→(TSt U→Option β)→Option β
 | _,[],st,ms,acc,k=>cond (Q73 ops effs acc (st.m::ms).reverse) (k st) none
 | i,o::os,st,ms,acc,k=>match o.guard with
  | none=>Wj D C K X Y ops effs i o st (Q7b ops effs i os st ms acc p) fun s c=>K9 ops effs p (i+1) os s (cond (effs.contains i) (st.m::ms) ms) ((i,c)::acc) k
  | some (j,b)=>match (ops[j]?).bind (·.dst) with
   | none=>none
   | some d=>cond ((Q4t ops i).contains d) none (match Qpt st.tm d with
    | some (.v (.one (.c (.v (.bool c)))))=>cond c
     (cond b (Wj D C K X Y ops effs i o (setB st d true) (Q7b ops effs i os (setB st d true) ms acc p) fun s c=>K9 ops effs p (i+1) os s (cond (effs.contains i) (st.m::ms) ms) ((i,c)::acc) k) (cond (JL st o.dst) (K9 ops effs p (i+1) os (K7 o (setB st d true)) (cond (effs.contains i) (st.m::ms) ms) ((i,fun _ _=>!(effs.contains i))::acc) k) none))
     (cond b (cond (JL st o.dst) (K9 ops effs p (i+1) os (K7 o (setB st d false)) (cond (effs.contains i) (st.m::ms) ms) ((i,fun _ _=>!(effs.contains i))::acc) k) none) (Wj D C K X Y ops effs i o (setB st d false) (Q7b ops effs i os (setB st d false) ms acc p) fun s c=>K9 ops effs p (i+1) os s (cond (effs.contains i) (st.m::ms) ms) ((i,c)::acc) k))
    | some (.tup [])=>cond (JL st o.dst) (K9 ops effs p (i+1) os (K7 o st) (cond (effs.contains i) (st.m::ms) ms) ((i,fun _ _=>!(effs.contains i))::acc) k) none
    | _=>none)
def Qcl (st:TSt U):TSt U:=⟨(st.tm.map fun p=>(p.1,TTV.unk))++st.tm,st.m,st.nt,st.df⟩
def Qh9 {β:Type} (ops:Array Oper) (effs:List Nat) (st0:TSt U) (p:Value→TSt U→Option β):Nat→List Oper→TSt U→Option β
 | _,[],_=>none
 | i,o::os,st=>match o.guard with
  | some _=>none
  | none=>match os with
   | []=>cond (effs.contains i&&JL st o.dst) (match Qkv (KT ops i st) o with
    | some v=>p v (Qcl st0)
    | none=>none) none
   | _::_=>cond (effs.contains i) none (Wj D C K X Y ops effs i o st (fun _ _=>none) fun s _=>Qh9 ops effs st0 p (i+1) os s)
def Q07 (ops:Array Oper):Bool:=match ops.toList.getLast? with
 | some o=>match o.op with
  | .panic _=>true
  | _=>false
 | none=>false
def Qbq (ops:Array Oper) (effs:List Nat):Bool:=Q51 ops effs&&Qo4 ops effs (Qdn ops effs)&&Nat.beq ((List.range' 0 ops.size).filter effs.contains).length effs.length
variable {D C K X Y}
def Qr4 (y z:TV):Prop:=(∀ V w v,y.rel V w v→z.rel V w v)∧(((∃ c,z=Qqt c)∨z=.tup [])→y=z)
theorem er_G {tk tk':List (Nat×TTok U)} {z:TTV U} (h:(∃ c,z.er D tk'=Qqt c)∨z.er D tk'=.tup []):z.er D tk=z.er D tk':=by
 cases z with
 | unk=>rfl
 | tup xs =>
  cases xs with
  | nil=>rfl
  | cons x xs =>
   rcases h with ⟨c,h⟩ | h
   ·cases h
   ·cases h
 | v x =>
  rcases h with ⟨c,h⟩ | h
  ·cases x with
   | agg xs=>cases h
   | one x =>
    cases x with
    | app i u =>
     have h':(match cur tk' i u with
      | some T=>CA.app i (U.E T.t).sz ((U.E T.t).encL T.l)
      | none=>CA.any)=.d (.v (.bool c)):=AV.one.inj (TV.v.inj h)
     split at h' <;> cases h'
    | c x=>rfl
    | ptr i off=>rfl
    | pel t x off=>rfl
    | fn f caps=>rfl
    | raw x=>rfl
  ·cases h
structure DI (D:Codec U) (ops:Array Oper) (st0:St) (fx:List (Nat×TV)) (i:Nat) (st:TSt U):Prop where
 dn:∀ j,j < i→∃ y,Qpt fx j=some y
 nd:∀ j,i≤j→Qpt fx j=none
 tm:∀ t x,Qpt st.tm t=some x→(∃ j y,j < i∧Jf ops j=some t∧Qpt fx j=some y∧Qr4 y (x.er D st.m.tk))∨((∀ j,j < i→Jf ops j ≠ some t)∧∃ y,Qpt st0.tm t=some y∧Qr4 y (x.er D st.m.tk))
 nt:st.nt=st0.nt
 df:st.df=st0.df
theorem nodup_dst {ops:Array Oper} (h:(Jk ops).Nodup) {j k d:Nat} (hj:Jf ops j=some d) (hk:Jf ops k=some d):j=k:=by
 have lt:∀ {j},Jf ops j=some d→j < ops.size:=fun {j} hj=>by
  rcases P1 j ops.size with h3 | h3
  ·exact h3
  ·simp [Jf,CU h3] at hj
 have hp:∀ (l:List Nat),l.Nodup→(l.filterMap (Jf ops)).Nodup→j∈l→k∈l→j=k:=by
  intro l
  induction l with
  | nil=>intro _ _ h;cases h
  | cons p l ih =>
   intro hl hf hi hk'
   rw [CT] at hl
   rw [Po] at hf
   rcases Cq.1 hi with rfl | hi2
   ·rcases Cq.1 hk' with rfl | hk2
    ·rfl
    ·rw [hj] at hf
     simp only [CT] at hf
     exact absurd (Pb (l:=l).2 ⟨k,hk2,hk⟩) hf.1
   ·rcases Cq.1 hk' with rfl | hk2
    ·rw [hk] at hf
     simp only [CT] at hf
     exact absurd (Pb (l:=l).2 ⟨j,hi2,hj⟩) hf.1
    ·refine ih hl.2 ?_ hi2 hk2
     split at hf
     ·exact hf
     ·exact (CT.1 hf).2
 exact hp (List.range ops.size) List.nodup_range h (by simpa using lt hj) (by simpa using lt hk)
theorem Q4g {ops:Array Oper} {fx:List (Nat×TV)}:∀ (js:List Nat) {j t:Nat} {y:TV},j∈js→Jf ops j=some t→Qpt fx j=some y→∃ z,Qpt (Js ops fx js) t=some z
 | [],j,t,y,h,_,_=>by cases h
 | a::js,j,t,y,h,hd,hf=>by
  simp only [Js,Po]
  rcases Cq.1 h with rfl | h2
  ·rw [hd,hf]
   dsimp only
   rw [Q1,Cc rfl]
   exact ⟨_,Z⟩
  ·obtain ⟨z,hz⟩:=Q4g js h2 hd hf
   split
   ·exact ⟨z,hz⟩
   ·rename_i p hp
    obtain ⟨d,q⟩:=p
    rw [Q1]
    split
    ·exact ⟨_,rfl⟩
    ·exact ⟨z,hz⟩
theorem Qbm {ops:Array Oper} {fx:List (Nat×TV)} (h:(Jk ops).Nodup) {js:List Nat} {j t:Nat} {y:TV} (hj:j∈js) (hd:Jf ops j=some t) (hf:Qpt fx j=some y):Qpt (Js ops fx js) t=some y:=by
 obtain ⟨z,hz⟩:=Q4g js hj hd hf
 obtain ⟨k,h1,h2,h3⟩:=GG js t z hz
 have:=nodup_dst h hd h2
 subst this
 rw [hf] at h3;cases h3;exact hz
theorem Q4h {ops:Array Oper} {fx:List (Nat×TV)} {js:List Nat} {t:Nat} (h:∀ j y,Jf ops j=some t→Qpt fx j=some y→False):Qpt (Js ops fx js) t=none:=by
 cases hc:Qpt (Js ops fx js) t with
 | none=>rfl
 | some z=>obtain ⟨k,h1,h2,h3⟩:=GG js t z hc;exact (h k z h2 h3).elim
theorem Q91 {α:Type} {p:Nat→Bool}:∀ {l:List (Nat×α)} {t:Nat} {x:α},Qpt (l.filter fun q=>p q.1) t=some x→p t=true∧Qpt l t=some x
  | [],t,x,h=>by cases h
  | (k,v)::r,t,x,h=>by
    rw [CB] at h
    cases hp:p k with
    | true =>
      rw [Cc hp,Q1] at h
      rw [Q1]
      split at h
      · rename_i e;subst e;rw [Cc rfl];exact ⟨hp,h⟩
      · rename_i e;rw [C8 e];exact Q91 h
    | false =>
      rw [C8 (by rw [hp];exact Cn)] at h
      obtain ⟨h1,h2⟩:=Q91 h
      refine ⟨h1,?_⟩
      rw [Q1,C8]
      · exact h2
      · intro e;subst e;rw [hp] at h1;cases h1
theorem Q9d {α:Type} {p:Nat→Bool}:∀ {l:List (Nat×α)} {t:Nat} {x:α},p t=true→Qpt l t=some x→Qpt (l.filter fun q=>p q.1) t=some x
  | [],t,x,_,h=>by cases h
  | (k,v)::r,t,x,hp,h=>by
    rw [CB]
    rw [Q1] at h
    split at h
    · rename_i e;subst e;rw [Cc hp,Q1,Cc rfl];exact h
    · rename_i e
      have ih:=Q9d hp h
      split
      · rw [Q1,C8 e];exact ih
      · exact ih
theorem Qk1 {ops:Array Oper} {i t j:Nat} (h:(Q4t ops i).contains t=false) (hd:Jf ops j=some t) (hj:j < ops.size):j∈Qu ops i∨i∈Qu ops j:=by
 rw [Sl,decide_eq_false_iff_not] at h
 cases hc:((Qu ops i).contains j||(Qu ops j).contains i) with
 | true =>
  rcases CM.1 hc with h1 | h1
  ·exact .inl (by simpa using h1)
  ·exact .inr (by simpa using h1)
 | false =>
  refine (h (Pb.2 ⟨j,by simpa using hj,?_⟩)).elim
  rw [hd]
  dsimp only
  rw [hc];rfl
section
variable {ops:Array Oper} {st0:St} {fx:List (Nat×TV)} {i:Nat} {st:TSt U}
theorem keep_lk {t:Nat} {x:TV}:∀ {tm:List (Nat×TV)},Q6y ops i t=false→Qpt tm t=some x→Qpt (Q3x ops i tm) t=some x:=fun {tm} hh h=>Q9d (p:=fun t=>!(Q6y ops i t)) (by rw [hh];rfl) h
theorem DI.look (h:DI D ops st0 fx i st) (hdag:∀ i,i < ops.size→∀ k∈Qu ops i,k < i) (hnd:(Jk ops).Nodup) (hi:i < ops.size) {t:Nat} {x:TTV U} (hb':(Q4t ops i).contains t=false) (hx:Qpt st.tm t=some x):∃ y,Qpt (Qq ops st0 fx i (st.er D).mem).tm t=some y∧Qr4 y (x.er D st.m.tk):=by
 have ltS:∀ {j},Jf ops j=some t→j < ops.size:=fun {j} hj=>by
  rcases P1 j ops.size with h3 | h3
  ·exact h3
  ·simp [Jf,CU h3] at hj
 show ∃ z,Qpt (Js ops fx (Qu ops i)++Q3x ops i st0.tm) t=some z∧_
 rcases h.tm t x hx with ⟨j,z,h1,h2,h3,h4⟩ | ⟨h1,z,h2,h3⟩
 ·refine ⟨z,?_,h4⟩
  have hj:j∈Qu ops i:=by
   rcases Qk1 hb' h2 (ltS h2) with h5 | h5
   ·exact h5
   ·have:=hdag j (ltS h2) i h5
    omega
  rw [Jr,Qbm hnd hj h2 h3]
 ·refine ⟨z,?_,h3⟩
  have hn:Qpt (Js ops fx (Qu ops i)) t=none:=Q4h fun j y hd hf=>by
   rcases P1 j i with h5 | h5
   ·exact h1 j h5 hd
   ·rw [h.nd j h5] at hf;cases hf
  rw [Jr,hn]
  refine keep_lk ?_ h2
  unfold Q6y
  rw [Pk]
  intro j hj
  cases hd:Jf ops j with
  | none=>simp
  | some d =>
   dsimp only
   cases hbq:Nat.beq d t with
   | false=>simp
   | true =>
    have e:=C4 hbq
    subst e
    rw [C7]
    have hj':j < ops.size:=by simpa using hj
    rcases Qk1 hb' hd hj' with h5 | h5
    ·exact (h1 j (hdag i hi j h5) hd).elim
    ·simpa using h5
theorem DI.deps (h:DI D ops st0 fx i st) (hdag:∀ i,i < ops.size→∀ k∈Qu ops i,k < i) (hnd:(Jk ops).Nodup) (hi:i < ops.size):StW (Qq ops st0 fx i (st.er D).mem) ((KT ops i st).er D):=by
 refine ⟨fun t y hy=>?_,fun j B hB=>⟨B,hB,fun _ _ _ h=>h⟩,fun j T hT=>hT,Z,h.nt,h.df⟩
 have hy':Qpt (QI (TTV.er D st.m.tk) (st.tm.filter fun p=>!((Q4t ops i).contains p.1))) t=some y:=hy
 rw [QL] at hy'
 cases hz:Qpt (st.tm.filter fun p=>!((Q4t ops i).contains p.1)) t with
 | none=>rw [hz] at hy';cases hy'
 | some x =>
  rw [hz] at hy';cases hy'
  obtain ⟨hb,hx⟩:=Q91 (p:=fun t=>!((Q4t ops i).contains t)) hz
  obtain ⟨z,h1,h2⟩:=h.look hdag hnd hi (by simpa using hb) hx
  exact .inr ⟨z,h1,h2.1⟩
theorem DI.end (h:DI D ops st0 fx ops.size st) (hnd:(Jk ops).Nodup):StW (Q1i ops st0 fx (st.er D).mem) (st.er D):=by
 refine ⟨fun t y hy=>?_,fun j B hB=>⟨B,hB,fun _ _ _ h=>h⟩,fun j T hT=>hT,Z,h.nt,h.df⟩
 have hy':Qpt (QI (TTV.er D st.m.tk) st.tm) t=some y:=hy
 rw [QL] at hy'
 cases hz:Qpt st.tm t with
 | none=>rw [hz] at hy';cases hy'
 | some x =>
  rw [hz] at hy';cases hy'
  refine .inr ?_
  show ∃ z,Qpt (Js ops fx (List.range ops.size)++Wi (Jk ops) st0.tm) t=some z∧_
  rcases h.tm t x hz with ⟨j,z,h1,h2,h3,h4⟩ | ⟨h1,z,h2,h3⟩
  ·refine ⟨z,?_,h4.1⟩
   rw [Jr,Qbm hnd (by simpa using h1) h2 h3]
  ·refine ⟨z,?_,h3.1⟩
   have hn:Qpt (Js ops fx (List.range ops.size)) t=none:=Q4h fun j y hd hf=>by
    rcases P1 j ops.size with h5 | h5
    ·exact h1 j h5 hd
    ·rw [h.nd j h5] at hf;cases hf
   rw [Jr,hn]
   refine Q9d (p:=fun t=>!((Jk ops).contains t)) ?_ h2
   show (!((Jk ops).contains t))=true
   cases hc:(Jk ops).contains t with
   | false=>rfl
   | true =>
    have:t∈Jk ops:=by simpa using hc
    obtain ⟨j,hj,hd⟩:=Pb.1 this
    exact (h1 j (by simpa using hj) hd).elim
theorem DI.step (h:DI D ops st0 fx i st) {o:Oper} (ho:ops[i]?=some o) {x:TTV U} {m':TMe U} {y:TV} (hy:y=x.er D m'.tk) (hst:∀ t z,Qpt st.tm t=some z→∀ V w v,(z.er D st.m.tk).rel V w v→(z.er D m'.tk).rel V w v):DI D ops st0 ((i,y)::fx) (i+1) ⟨WR o.dst x st.tm,m',st.nt,st.df⟩:=by
 have hfx:∀ {j z},j < i→Qpt fx j=some z→Qpt ((i,y)::fx) j=some z:=fun {j z} hj hz=>by
  rw [Q1,C8 (by omega)];exact hz
 refine ⟨fun j hj=>?_,fun j hj=>?_,fun t z hz=>?_,h.nt,h.df⟩
 ·by_cases e:i=j
  ·subst e;exact ⟨y,by rw [Q1,Cc rfl]⟩
  ·obtain ⟨z,hz⟩:=h.dn j (by omega)
   exact ⟨z,hfx (by omega) hz⟩
 ·rw [Q1,C8 (by omega)];exact h.nd j (by omega)
 ·have hdo:Jf ops i=o.dst:=by simp [Jf,ho]
  have hz':Qpt (WR o.dst x st.tm) t=some z:=hz
  have old:Jf ops i ≠ some t→Qpt st.tm t=some z→(∃ j y',j < i+1∧Jf ops j=some t∧Qpt ((i,y)::fx) j=some y'∧Qr4 y' (z.er D m'.tk))∨((∀ j,j < i+1→Jf ops j ≠ some t)∧∃ y',Qpt st0.tm t=some y'∧Qr4 y' (z.er D m'.tk)):=fun hne hz=>by
   have comp:∀ {y'},Qr4 y' (z.er D st.m.tk)→Qr4 y' (z.er D m'.tk):=fun {y'} h4=>⟨fun V w v hv=>hst t z hz V w v (h4.1 V w v hv),fun hg=>by
    have e:=er_G (tk:=st.m.tk) hg
    rw [← e] at hg ⊢
    exact h4.2 hg⟩
   rcases h.tm t z hz with ⟨j,y',h1,h2,h3,h4⟩ | ⟨h1,y',h2,h3⟩
   ·exact .inl ⟨j,y',by omega,h2,hfx h1 h3,comp h4⟩
   ·refine .inr ⟨fun j hj e=>?_,y',h2,comp h3⟩
    by_cases e2:j=i
    ·subst e2;exact hne e
    ·exact h1 j (by omega) e
  cases hd:o.dst with
  | none =>
   rw [hd] at hz'
   exact old (by rw [hdo,hd];intro e;cases e) hz'
  | some d =>
   rw [hd] at hz'
   have hz2:Qpt ((d,x)::st.tm) t=some z:=hz'
   rw [Q1] at hz2
   split at hz2
   ·rename_i e
    cases hz2
    subst e
    exact .inl ⟨i,y,by omega,by rw [hdo,hd],by rw [Q1,Cc rfl],by rw [hy];exact ⟨fun _ _ _ h=>h,fun _=>rfl⟩⟩
   ·rename_i e
    exact old (by rw [hdo,hd];intro e';cases e';exact e rfl) hz2
theorem DI.setB (h:DI D ops st0 fx i st) {d:Nat} {c b:Bool} (hc:Qpt st.tm d=some (.v (.one (.c (.v (.bool c)))))) (e:c=b):DI D ops st0 fx i (setB st d b):=by
 subst e
 refine ⟨h.dn,h.nd,fun t x hx=>?_,h.nt,h.df⟩
 have hx':Qpt ((d,Qpf c)::st.tm) t=some x:=hx
 rw [Q1] at hx'
 split at hx'
 ·rename_i e;subst e;cases hx'
  exact h.tm _ _ hc
 ·exact h.tm t x hx'
end
section
def RdR.has:RdR U→TTV U→Prop
 | .val x,y=>y=x
 | .grd g x,y=>g=true∧y=x
 | .ix oo f,y=>∃ a,oo=some a∧y=f a
def EfR.has:EfR U→OR U→Prop
 | .val x,y=>y=x
 | .grd g x,y=>g=true∧y=x
 | .ix oo f,y=>∃ a,oo=some a∧y=f a
theorem RdR.run_has {r:RdR U} {β:Type} {k:TTV U→Option β} {v:β} (hk:r.run k=some v):∃ x,k x=some v∧r.has x:=by
 cases r with
 | val x=>exact ⟨x,hk,rfl⟩
 | grd g x=>obtain ⟨h1,h2⟩:=KM hk;exact ⟨x,h2,h1,rfl⟩
 | ix oo f=>obtain ⟨a,h1,h2⟩:=YS hk;exact ⟨f a,h2,a,h1,rfl⟩
theorem EfR.run_has {r:EfR U} {β:Type} {k:OR U→Option β} {v:β} (hk:r.run k=some v):∃ x,k x=some v∧r.has x:=by
 cases r with
 | val x=>exact ⟨x,hk,rfl⟩
 | grd g x=>obtain ⟨h1,h2⟩:=KM hk;exact ⟨x,h2,h1,rfl⟩
 | ix oo f=>obtain ⟨a,h1,h2⟩:=YS hk;exact ⟨f a,h2,a,h1,rfl⟩
theorem RdOK.has {E:Env} {o:Oper} {st:TSt U} {r:RdR U} (h:RdOK D E o st r) {x:TTV U} (hx:r.has x):RO E o (st.er D) (x.er D st.m.tk):=by
 cases r with
 | val y=>cases hx;exact h
 | grd g y=>obtain ⟨h1,rfl⟩:=hx;exact h h1
 | ix oo f=>obtain ⟨a,h1,rfl⟩:=hx;exact h a h1
theorem EfOK.has {E:Env} {o:Oper} {st:TSt U} {r:EfR U} (h:EfOK D E o st r) {x:OR U} (hx:r.has x):OROK D E o st x:=by
 cases r with
 | val y=>cases hx;exact h
 | grd g y=>obtain ⟨h1,rfl⟩:=hx;exact h h1
 | ix oo f=>obtain ⟨a,h1,rfl⟩:=hx;exact h a h1
def AnyB (E:Env) (ops:Array Oper) (st0:St) (effs:List Nat) (fx:List (Nat×TV)) (i:Nat) (M:Mem):Prop :=
 ∃ o x,ops[i]?=some o∧Qpt fx i=some x∧Zl st0 o.dst=true∧effs.contains i=false∧((Qx ops (Qq ops st0 fx i M).tm o=some true∧OpOK E o (Qq ops st0 fx i M) x M)∨(Qx ops (Qq ops st0 fx i M).tm o=some false∧x=.tup []))
theorem ZY {ops:Array Oper} {fx fx':List (Nat×TV)} {js:List Nat} (h:∀ j∈js,Qpt fx' j=Qpt fx j):Js ops fx' js=Js ops fx js:=by
 induction js with
 | nil=>rfl
 | cons a js ih =>
  have h1:=h a (Ch ..)
  have h2:=ih fun j hj=>h j (Ci _ hj)
  simp only [Js,Po] at h2 ⊢
  rw [h1,h2]
theorem AnyB.ext {E:Env} {ops:Array Oper} {st0:St} {effs:List Nat} {fx fx':List (Nat×TV)} {i:Nat} {M:Mem} (hdag:∀ k∈Qu ops i,k < i) (h:AnyB E ops st0 effs fx i M) (hf:∀ j,j≤i→Qpt fx' j=Qpt fx j):AnyB E ops st0 effs fx' i M:=by
 obtain ⟨o,x,h1,h2,h3,h4,h5⟩:=h
 have e:Qq ops st0 fx' i M=Qq ops st0 fx i M:=by
  unfold Qq
  rw [ZY fun j hj=>hf j (Nat.le_of_lt (hdag j hj))]
 exact ⟨o,x,h1,(hf i (Ck _)).trans h2,h3,h4,by rw [e];exact h5⟩
def Qgx (D:Codec U) (W:Wd) (P:Program) (ops:Array Oper) (effs:List Nat) (st0:St) (i:Nat) (m:TMe U) (c:Bool→TMe U→Bool) (fx:List (Nat×TV)):Prop :=
 ∀ E,E.P=P→W.p E.V0.S E.w0→∀ up m',(up=true→SfM m m')→(up=false→SfM m' m)→c up m'=true→AnyB E ops st0 effs fx i (m'.er D)
theorem Qb2 {tm:List (Nat×TTV U)} {m m':TMe U} {o:Oper} {x:TTV U} {up:Bool} (h1:up=true→SfM m m') (h2:up=false→SfM m' m) (h:Qf5 D tm m o x up m'=true) :
  (∀ nt df,Qkq D C ⟨tm,m',nt,df⟩ o=Qkq D C ⟨tm,m,nt,df⟩ o)∧x.er D m'.tk=x.er D m.tk∧(∀ p∈tm,p.2.er D m'.tk=p.2.er D m.tk)∧Qnk tm (cond up (Q5g m.es m'.es) (Q5g m'.es m.es)) o=true:=by
 unfold Qf5 at h
 cases up with
 | true =>
  rw [C7] at h
  obtain ⟨⟨p,hp⟩,⟨q,hq⟩,-⟩:=h1 rfl
  rw [hp,hq,YU,YU] at h
  obtain ⟨g1,g23⟩:=C0.1 h
  obtain ⟨Qq8,g3⟩:=C0.1 g23
  refine ⟨fun nt df=>Ql6 hp g1,by rw [hq];exact WL Qq8,fun z hz=>by rw [hq];exact WL (Cg.1 g3 z hz),?_⟩
  rw [C7,hp,YU];exact g1
 | false =>
  rw [Cd] at h
  obtain ⟨⟨p,hp⟩,⟨q,hq⟩,-⟩:=h2 rfl
  rw [hp,hq,YU,YU] at h
  obtain ⟨g1,g23⟩:=C0.1 h
  obtain ⟨Qq8,g3⟩:=C0.1 g23
  refine ⟨fun nt df=>(Ql6 hp g1).symm,by rw [hq];exact (WL Qq8).symm,fun z hz=>by rw [hq];exact (WL (Cg.1 g3 z hz)).symm,?_⟩
  rw [Cd,hp,YU];exact g1
theorem StW.move {ops:Array Oper} {st0:St} {fx:List (Nat×TV)} {i:Nat} {st:TSt U} {m':TMe U} (h:StW (Qq ops st0 fx i (st.er D).mem) ((KT ops i st).er D)) (ht:∀ p∈(KT ops i st).tm,p.2.er D m'.tk=p.2.er D st.m.tk) :
  StW (Qq ops st0 fx i (m'.er D)) ((⟨(KT ops i st).tm,m',st.nt,st.df⟩:TSt U).er D):=by
 refine ⟨fun t y hy=>?_,fun j B hB=>⟨B,hB,fun _ _ _ h=>h⟩,fun j T hT=>hT,Z,h.nt,h.df⟩
 have hy':Qpt (QI (TTV.er D m'.tk) (KT ops i st).tm) t=some y:=hy
 rw [QL] at hy'
 cases hz:Qpt (KT ops i st).tm t with
 | none=>rw [hz] at hy';cases hy'
 | some x =>
  rw [hz] at hy';cases hy'
  have e:=ht (t,x) (JO hz)
  dsimp only at e
  rw [e]
  exact h.tm t _ (by show Qpt (QI (TTV.er D st.m.tk) (KT ops i st).tm) t=_;rw [QL,hz];rfl)
theorem call_any {E:Env} {W:Wd} (hW:W.p E.V0.S E.w0) (hK:Q0s W D E.P K) {st:TSt U} {m':TMe U} {o:Oper} {e:EfR U} {q:OR U} (hc:Qg0 o=true) (h:Qn4 D C K st o=some e) (hq:e.has q) {p:List (Ev U)} (hQ:Qnk st.tm p o=true):OpOK E o ((⟨st.tm,m',st.nt,st.df⟩:TSt U).er D) (q.x.er D m'.tk) (m'.er D):=by
 obtain ⟨dd,op,ty,pos,af,g⟩:=o
 cases op with
 | call c =>
  obtain ⟨callee,os,ts⟩:=c
  cases callee with
  | value x =>
   have h':Qc1 K st x os.toList=some e:=h
   have hQ':(match Q1l st.tm os.toList with
    | some vs=>vs.all Q8g
    | none=>false)=true:=hQ
   unfold Qc1 at h'
   split at h'
   ·rename_i f args hx ha
    rw [ha] at hQ'
    split at h'
    ·rename_i args' hs
     split at h'
     ·rename_i kr hk;cases h'
      obtain ⟨a,hoa,rfl⟩:=hq
      obtain ⟨ys,h1,h2⟩:=hK f args' kr a hk hoa
      have hs':YN m'.tk args=some args':=(Q0z hQ').trans hs
      exact U8 (st:=(⟨st.tm,m',st.nt,st.df⟩:TSt U).er D) hW (Yv (D:=D) (st:=⟨st.tm,m',st.nt,st.df⟩) hx) (h2 m'.tk) (GQ (D:=D) (st:=⟨st.tm,m',st.nt,st.df⟩) ha) (G5 hs' (h1 m'.tk))
     ·cases h'
    ·cases h'
   ·cases h'
  | _=>cases hc
 | _=>cases hc
end
section
variable {ops:Array Oper} {effs:List Nat} {st0:St} {β:Type} {r:β}
theorem Q78 {P:Program} (hT:C.T.OK P) (hD:D.OK) {W:Wd} (hK:Q0s W D P K) (hX:WN W D P X) (hdag:∀ i,i < ops.size→∀ k∈Qu ops i,k < i) (hnd:(Jk ops).Nodup) {i:Nat} {fx:List (Nat×TV)} {o:Oper} {st:TSt U} {pn:Value→TMe U→Option β} {k:TSt U→(Bool→TMe U→Bool)→Option β} (hY:YOK W D P Y st.m) (h:DI D ops st0 fx i st) (ho:ops[i]?=some o)
  (hw:Qx ops (Qq ops st0 fx i (st.er D).mem).tm o=some true) (hr:Wj D C K X Y ops effs i o st pn k=some r)
  : (∃ s c,Sfx st s∧k s c=some r∧(effs.contains i=false→s.m=st.m)∧∃ y,DI D ops st0 ((i,y)::fx) (i+1) s∧Qgx D W P ops effs st0 i st.m c ((i,y)::fx)∧∀ E,E.P=P→W.p E.V0.S E.w0→∀ ms rest Dd F,RunA E ops st0 effs Dd F rest ((i,y)::fx) (cond (effs.contains i) ((s.er D).mem::(st.er D).mem::ms) ((s.er D).mem::ms))→RunA E ops st0 effs Dd F (i::rest) fx ((st.er D).mem::ms)) ∨
   (∃ v m,effs.contains i=true∧JL st o.dst=true∧YX (Wo m.tk st.m.tk) st.tm=true∧SfM st.m m∧pn v m=some r∧∀ E,E.P=P→W.p E.V0.S E.w0→OpD E o ((KT ops i st).er D) v (m.er D)):=by
 have hi:i < ops.size:=(CP.1 ho).1
 have hdep:=h.deps hdag hnd hi
 have dst0:JL st o.dst=true→Zl st0 o.dst=true:=fun hd=>by
  cases hdst:o.dst with
  | none=>rfl
  | some d=>rw [hdst] at hd;show Nat.blt d st0.nt=true;rw [← h.nt];exact hd
 have eqd:∀ (y:TV) (M:Mem),Qq ops st0 ((i,y)::fx) i M=Qq ops st0 fx i M:=fun y M=>by
  have e:=ZY (ops:=ops) (fx:=fx) (fx':=(i,y)::fx) (js:=Qu ops i) (fun j hj=>by
   have:=hdag i hi j hj
   rw [Q1,C8 (by omega)])
  unfold Qq
  rw [e]
 have noG:∀ fx',Qgx D W P ops effs st0 i st.m (fun _ _=>false) fx':=fun fx' E hP hW up m' u1 u2 hc=>by cases hc
 have good:∀ (x:TTV U) (m':TMe U) (E:Env),JL st o.dst=true→effs.contains i=false→x.er D m'.tk=x.er D st.m.tk→OpOK E o (Qq ops st0 fx i (m'.er D)) (x.er D m'.tk) (m'.er D)→AnyB E ops st0 effs ((i,x.er D st.m.tk)::fx) i (m'.er D):=fun x m' E hd he Qq8 hop=>by
  refine ⟨o,x.er D st.m.tk,ho,by rw [Q1,Cc rfl],dst0 hd,he,.inl ⟨?_,?_⟩⟩
  ·rw [eqd];exact hw
  ·rw [eqd,← Qq8];exact hop
 unfold Wj at hr
 split at hr
 ·rename_i rd hrd
  cases hd:(JL st o.dst&&!(effs.contains i)) with
  | false=>rw [hd] at hr;cases hr
  | true =>
   rw [hd,C7] at hr
   obtain ⟨hd1,hd2⟩:=C0.1 hd
   have he:effs.contains i=false:=by simpa using hd2
   obtain ⟨x,h1,h2⟩:=RdR.run_has hr
   have hop:∀ E:Env,E.P=P→OpOK E o (Qq ops st0 fx i (st.er D).mem) (x.er D st.m.tk) (st.er D).mem:=fun E hP=>Wt hdep (Q9 ((Qcn (E:=E) (D:=D) (hP.symm▸hT) hD hrd).has h2))
   refine .inl ⟨⟨WR o.dst x st.tm,st.m,st.nt,st.df⟩,_,Sfx.put st o.dst x,h1,fun _=>rfl,_,h.step ho (m':=st.m) rfl (fun t z hz V w v hv=>hv),fun E hP hW up m' u1 u2 hc=>?_,fun E hP hW ms rest Dd F hk=>RunA.rd ho he hw (hop E hP) (dst0 hd1) (by first | exact hk | (rw [he] at hk;exact hk))⟩
   obtain ⟨g1,Qq8,g3,-⟩:=Qb2 u1 u2 hc
   have hrd':Qkq D C ⟨(KT ops i st).tm,m',st.nt,st.df⟩ o=some rd:=(g1 _ _).trans hrd
   exact good x m' E hd1 he Qq8 (Wt (StW.move hdep g3) (Q9 ((Qcn (E:=E) (D:=D) (hP.symm▸hT) hD hrd').has h2)))
 ·split at hr
  ·rename_i e he0
   obtain ⟨q,h1,hhas⟩:=EfR.run_has hr
   have h2':∀ E,EfOK D E o (KT ops i st) e→OROK D E o (KT ops i st) q:=fun E he=>he.has hhas
   cases hc:(Q3g st (q.es++st.m.es) q.tk&&JL st o.dst&&Nat.ble st.m.nx q.nx) with
   | false=>rw [hc] at h1;cases h1
   | true =>
    rw [hc,C7] at h1
    obtain ⟨b12,b3⟩:=C0.1 hc
    obtain ⟨b1,b2⟩:=C0.1 b12
    have hst:∀ t z,Qpt st.tm t=some z→∀ V w v,(z.er D st.m.tk).rel V w v→(z.er D (YT q.tk st.m.tk)).rel V w v:=fun t z hz V w v hv=>by
     cases htk:q.tk with
     | none=>exact hv
     | some p =>
      obtain ⟨j,T⟩:=p
      rw [htk] at b1
      have h1:=(C0.1 b1).1
      have h2:st.tm.any (fun p=>p.2.hasApp j T.ver)=false:=by simpa using h1
      exact ZL (UH fun hp=>Pk.1 h2 (t,z) (JO hz) hp) hv
    have b1':Q3g (KT ops i st) (q.es++(KT ops i st).m.es) q.tk=true:=by
     cases htk:q.tk with
     | none=>rfl
     | some p =>
      obtain ⟨j,T⟩:=p
      rw [htk] at b1
      obtain ⟨h1,h3⟩:=C0.1 b1
      refine C0.2 ⟨?_,h3⟩
      have h2:st.tm.any (fun p=>p.2.hasApp j T.ver)=false:=by simpa using h1
      have:(KT ops i st).tm.any (fun p=>p.2.hasApp j T.ver)=false:=Pk.2 fun p hp=>Pk.1 h2 p (PJ.1 hp).1
      rw [this];rfl
    have hop0:∀ E:Env,E.P=P→W.p E.V0.S E.w0→OpOK E o (Qq ops st0 fx i (st.er D).mem) (q.x.er D (YT q.tk st.m.tk)) ⟨Qg D (YT q.tk st.m.tk) (q.es++st.m.es),XB (YT q.tk st.m.tk),q.nx⟩:=fun E hP hW=>by
     obtain ⟨hp,tkx,h4,h5,h6⟩:=h2' E (Qht (D:=D) (hP.symm▸hT) hD hW (hP.symm▸hK) he0)
     have hWk:=Q68 (D:=D) (st:=KT ops i st) (dst:=none) (r:=q) h5 h6 b1'
     exact Wt hdep (Q0r (m:=⟨hp,tkx,q.nx⟩) hWk.hp hWk.tk Z h4)
    cases he:effs.contains i with
    | true =>
     rw [he,C7] at h1
     have hsf:Sfx st (Q69 st o.dst q):=Sfx.next st o.dst q (C3 b3)
     exact .inl ⟨_,_,hsf,h1,(fun h0=>by first | cases h0 | (rw [he] at h0;cases h0)),_,h.step ho (m':=⟨q.es++st.m.es,YT q.tk st.m.tk,q.nx⟩) rfl hst,noG _,fun E hP hW ms rest Dd F hk=>RunA.eff ho he hw (hop0 E hP hW) (dst0 b2) (by first | exact hk | (rw [he] at hk;exact hk))⟩
    | false =>
     rw [he,Cd] at h1
     split at h1
     ·rename_i e1 e2
      cases hn:Nat.beq q.nx st.m.nx with
      | false=>rw [hn] at h1;cases h1
      | true =>
       rw [hn,C7] at h1
       have e3:=C4 hn
       have hop:=hop0
       rw [e1,e2,e3] at hop
       refine .inl ⟨⟨WR o.dst q.x st.tm,st.m,st.nt,st.df⟩,_,Sfx.put st o.dst q.x,h1,fun _=>rfl,_,h.step ho (m':=st.m) rfl (fun t z hz V w v hv=>hv),fun E hP hW up m' u1 u2 hc=>?_,fun E hP hW ms rest Dd F hk=>RunA.rd ho he hw (hop E hP hW) (dst0 b2) (by first | exact hk | (rw [he] at hk;exact hk))⟩
       obtain ⟨c1,c2⟩:=C0.1 hc
       obtain ⟨-,Qq8,g3,g4⟩:=Qb2 (C:=C) u1 u2 c2
       exact good q.x m' E b2 he Qq8 (Wt (StW.move hdep g3) (call_any (st:=KT ops i st) hW (hP.symm▸hK) c1 he0 hhas g4))
     ·cases h1
  ·split at hr
   ·rename_i xo hxo
    cases hc:(JL st o.dst&&effs.contains i) with
    | false=>rw [hc] at hr;cases hr
    | true =>
     rw [hc,C7] at hr
     obtain ⟨b1,he⟩:=C0.1 hc
     obtain ⟨q,q1,q2,h2⟩:=Qc0 (st:=KT ops i st) hX hY hxo _ _ _ hr
     cases q with
     | die v m =>
      dsimp only [OutT.to] at h2
      cases b2:YX (Wo m.tk st.m.tk) st.tm with
      | false=>rw [b2] at h2;cases h2
      | true =>
       rw [b2,C7] at h2
       exact .inr ⟨v,m,he,b1,b2,q2,h2,fun E hP hW=>q1 E hP hW⟩
     | val x m =>
     dsimp only [OutT.to] at h2
     cases b2:YX (Wo m.tk st.m.tk) st.tm with
     | false=>rw [b2] at h2;cases h2
     | true =>
     rw [b2,C7] at h2
     refine .inl ⟨⟨WR o.dst x st.tm,m,st.nt,st.df⟩,_,⟨?_,q2.es,q2.tk,q2.nx,rfl,.inr rfl⟩,h2,(fun h0=>by first | cases h0 | (rw [he] at h0;cases h0)),_,h.step ho (m':=m) rfl (fun t z hz V w v hv=>GR b2 q2.tk hz V w v hv),noG _,fun E hP hW ms rest Dd F hk=>RunA.eff ho he hw (Wt hdep (q1 E hP hW)) (dst0 b1) (by first | exact hk | (rw [he] at hk;exact hk))⟩
     cases o.dst with
     | none=>exact ⟨[],rfl⟩
     | some d=>exact ⟨[(d,x)],rfl⟩
   ·cases hr
theorem homeK_succ (effs:List Nat) (i:Nat):KL effs (i+1)=KL effs i+cond (effs.contains i) 1 0:=by
 unfold KL
 rw [show List.range' 0 (i+1)=List.range' 0 i++[i] by
  rw [List.range'_1_concat,P4]]
 rw [List.filter_append,C9]
 cases hc:effs.contains i with
 | true=>rw [List.filter_cons_of_pos hc];rfl
 | false=>rw [List.filter_cons_of_neg (by rw [hc];exact Cn)];rfl
structure SI (D:Codec U) (W:Wd) (P:Program) (ops:Array Oper) (effs:List Nat) (st0:St) (fx:List (Nat×TV)) (i:Nat) (m:TMe U) (ms:List (TMe U)) (acc:List (Nat×(Bool→TMe U→Bool))):Prop where
 ac:∀ j c,Qpt acc j=some c→j < i∧∃ m',(m::ms).reverse[KL effs j]?=some m'∧Qgx D W P ops effs st0 j m' c fx
 ch:∀ (a b:Nat) (ma mb:TMe U),a≤b→(m::ms).reverse[a]?=some ma→(m::ms).reverse[b]?=some mb→SfM ma mb
 ln:ms.length=KL effs i
theorem SI.step {W:Wd} {P:Program} {fx:List (Nat×TV)} {i:Nat} {m m':TMe U} {ms:List (TMe U)} {acc:List (Nat×(Bool→TMe U→Bool))} (h:SI D W P ops effs st0 fx i m ms acc) (hdag:∀ i,i < ops.size→∀ k∈Qu ops i,k < i) (hi:i < ops.size) {y:TV} {c:Bool→TMe U→Bool} (hm:effs.contains i=false→m'=m) (hs:SfM m m') (hc:Qgx D W P ops effs st0 i m c ((i,y)::fx)) :
  SI D W P ops effs st0 ((i,y)::fx) (i+1) m' (cond (effs.contains i) (m::ms) ms) ((i,c)::acc):=by
 have get:∀ (k:Nat) (z:TMe U),(m::ms).reverse[k]?=some z→(m'::cond (effs.contains i) (m::ms) ms).reverse[k]?=some z:=fun k z hz=>by
  cases he:effs.contains i with
  | true =>
   rw [C7,PM,CK (Cf.1 hz).1]
   exact hz
  | false=>rw [Cd,hm he];exact hz
 have len:∀ (k:Nat) (z:TMe U),(m'::cond (effs.contains i) (m::ms) ms).reverse[k]?=some z→(m::ms).reverse[k]?=some z∨(z=m'∧ms.length≤k):=fun k z hz=>by
  cases he:effs.contains i with
  | true =>
   rw [he,C7,PM] at hz
   by_cases hk:k < (m::ms).reverse.length
   ·rw [CK hk] at hz;exact .inl hz
   ·rw [CV (by omega)] at hz
    have h1:=(Cf.1 hz).1
    have h2:k - (m::ms).reverse.length < 1:=h1
    have:k - (m::ms).reverse.length=0:=by omega
    rw [this] at hz
    cases hz
    refine .inr ⟨Z,?_⟩
    rw [Pp,C2] at hk;omega
  | false=>rw [he,Cd,hm he] at hz;exact .inl hz
 have last:(m::ms).reverse[ms.length]?=some m:=by
  rw [PM,CV (by rw [Pp];exact Ck _),Pp,PC];rfl
 have all_m:∀ (k:Nat) (z:TMe U),(m::ms).reverse[k]?=some z→SfM z m:=fun k z hz=>by
  have hk:k < (m::ms).reverse.length:=(Cf.1 hz).1
  rw [Pp,C2] at hk
  exact h.ch k ms.length z m (by omega) hz last
 refine ⟨fun j d hj=>?_,fun a b ma mb hab ha hb=>?_,?_⟩
 ·rw [Q1] at hj
  split at hj
  ·rename_i e;subst e;cases hj
   exact ⟨Ct _,m,get _ _ (by rw [← h.ln];exact last),hc⟩
  ·obtain ⟨h1,z,h2,h3⟩:=h.ac j d hj
   refine ⟨by omega,z,get _ _ h2,fun E hP hW up m2 u1 u2 hq=>(h3 E hP hW up m2 u1 u2 hq).ext (hdag j (by omega)) fun k hk=>?_⟩
   rw [Q1,C8 (by omega)]
 ·rcases len a ma ha with ha' | ⟨ea,la⟩
  ·rcases len b mb hb with hb' | ⟨eb,-⟩
   ·exact h.ch a b ma mb hab ha' hb'
   ·rw [eb];exact (all_m a ma ha').trans hs
  ·rcases len b mb hb with hb' | ⟨eb,-⟩
   ·have hk:b < (m::ms).reverse.length:=(Cf.1 hb').1
    rw [Pp,C2] at hk
    have:b=ms.length:=by omega
    subst this
    rw [last] at hb';cases hb'
    have:a=ms.length:=by omega
    subst this
    rcases hE:effs.contains i with _ | _
    ·rw [ea,hm hE];exact SfM.refl _
    ·rw [hE,C7,PM,CK (by rw [Pp,C2];omega),last] at ha
     cases ha;exact SfM.refl _
   ·rw [ea,eb];exact SfM.refl _
 ·rw [homeK_succ]
  cases he:effs.contains i with
  | true=>rw [C7,C7,C2,h.ln]
  | false=>rw [Cd,Cd,h.ln];rfl
theorem Qcg {E:Env} {st:St} {fx:List (Nat×TV)} {ms:List Mem}:∀ {l:List (Nat×Nat)},(∀ p∈l,∃ m,ms[p.2]?=some m∧Qgy E ops st fx effs ms p.1 p.2 m)→AllEx E ops st effs fx ms l
  | [],_=>trivial
  | (i,j)::l,h=>⟨h (i,j) (Ch ..),Qcg fun p hp=>h p (Ci _ hp)⟩
theorem SI.all {W:Wd} {P:Program} {fx:List (Nat×TV)} {n:Nat} {m:TMe U} {ms:List (TMe U)} {acc:List (Nat×(Bool→TMe U→Bool))} (h:SI D W P ops effs st0 fx n m ms acc) (hx:Q73 ops effs acc (m::ms).reverse=true) {E:Env} (hP:E.P=P) (hW:W.p E.V0.S E.w0):AllEx E ops st0 effs fx ((m::ms).map (TMe.er D)).reverse (Qdn ops effs):=by
 refine Qcg fun p hp=>?_
 obtain ⟨i,hi,h1⟩:=P8.1 hp
 obtain ⟨j,hj,rfl⟩:=Cv.1 h1
 obtain ⟨hj1,hj2⟩:=PJ.1 hj
 obtain ⟨hm,hn⟩:=C0.1 hj2
 have hq:=Cg.1 (Cg.1 hx i hi) j hj1
 rw [hm] at hq
 have hn':Nat.beq j (KL effs i)=false:=by simpa using hn
 rw [hn'] at hq
 have hq':(match Qpt acc i,(m::ms).reverse[j]? with
  | some c,some m=>c (Nat.blt (KL effs i) j) m
  | _,_=>false)=true:=by simpa using hq
 split at hq'
 ·rename_i c m' hc hm'
  obtain ⟨-,mh,g1,Qq8⟩:=h.ac i c hc
  have key:=Qq8 E hP hW (Nat.blt (KL effs i) j) m' (fun hb=>h.ch _ _ _ _ (by have:=C3 hb;omega) g1 hm') (fun hb=>h.ch _ _ _ _ (by
   rcases P1 (KL effs i) j with h5 | h5
   ·have:Nat.blt (KL effs i) j=true:=Cb h5
    rw [this] at hb;cases hb
   ·exact h5) hm' g1) hq'
  refine ⟨m'.er D,by rw [← List.map_reverse,Cl,hm'];rfl,?_⟩
  obtain ⟨o,x,k1,k2,Qpz,k4,k5⟩:=key
  refine ⟨o,x,k1,k2,Qpz,?_⟩
  rcases k5 with ⟨Qpy,Qpx⟩ | ⟨Qpy,Qpx⟩
  ·exact .inl ⟨Qpy,_,Qpx,by rw [k4];exact C8 Cn▸rfl⟩
  ·exact .inr ⟨Qpy,Qpx,fun h=>by rw [k4] at h;cases h⟩
 ·cases hq'
theorem Qja {m:TMe U} (h:Q1c m=true) {E:Env} {V:Vu} {st:St} {a:Act} {w:World} (hm:st.mem=m.er D) (hr:Rel E V st a w):False:=by
 obtain ⟨es,tk,nx⟩:=m
 unfold Q1c at h
 split at h
 ·rename_i n es' he
  dsimp only at he h
  subst he
  have e1:st.hp=(n,.obj (.deferred none))::Qg D tk es':=congrArg Mem.hp hm
  have e2:st.nx=nx:=congrArg Mem.nx hm
  have h1:=(hr.h.own n (.obj (.deferred none)) (by rw [e1,Q1,Cc rfl])).1
  have h2:V.nx=st.nx:=hr.nx
  have h3:=C3 h
  omega
 ·cases h
theorem Qbf (m:TMe U):Q1c (Qbg m)=true:=Cb (Ck _)
theorem impM_sf (m:TMe U):SfM m (Qbg m):=⟨⟨[_],rfl⟩,⟨[],rfl⟩,Ck _⟩
theorem Qgi {P:Program} {W:Wd} (hdag:∀ i,i < ops.size→∀ k∈Qu ops i,k < i) {m:TMe U} (hm:Q1c m=true):∀ (rest:List Oper) {i:Nat} {fx:List (Nat×TV)} {ms:List (TMe U)} {acc:List (Nat×(Bool→TMe U→Bool))},(∀ j o,rest[j]?=some o→ops[i+j]?=some o∧o.guard=none∧Zl st0 o.dst=true)→i+rest.length=ops.size→SI D W P ops effs st0 fx i m ms acc →
  ∃ fx',SI D W P ops effs st0 fx' ops.size m (Qbt effs i rest m ms) (Qgj effs i rest acc)∧∀ E,E.P=P→W.p E.V0.S E.w0→∀ Dd F,F fx' ((m::Qbt effs i rest m ms).map (TMe.er D))→RunA E ops st0 effs Dd F (List.range' i rest.length) fx ((m::ms).map (TMe.er D))
 | [],i,fx,ms,acc,hl,hs,hS=>⟨fx,by rw [← hs];exact hS,fun E hP hW Dd F hk=>RunA.nil hk⟩
 | o::os,i,fx,ms,acc,hl,hs,hS=>by
  obtain ⟨ho,hg,hd⟩:=hl 0 o rfl
  have hi:i < ops.size:=(CP.1 ho).1
  have hl':∀ j o',os[j]?=some o'→ops[i+1+j]?=some o'∧o'.guard=none∧Zl st0 o'.dst=true:=fun j o' hj=>by
   have:=hl (j+1) o' (by simpa using hj)
   rw [show i+1+j=i+(j+1) by omega];exact this
  have hs':i+1+os.length=ops.size:=by rw [← hs,C2];omega
  have hw:∀ tm:List (Nat×TV),Qx ops tm o=some true:=fun tm=>by unfold Qx;rw [hg]
  have hv:∀ (E:Env) (fx':List (Nat×TV)) (m':TMe U),Q1c m'=true→OpOK E o (Qq ops st0 fx' i (m'.er D)) .unk (m'.er D):=fun E fx' m' hm' V a w hr=>(Qja (D:=D) hm' rfl hr).elim
  have hS':=hS.step (m':=m) (y:=.unk) (c:=fun _ m'=>!(effs.contains i)&&Q1c m') hdag hi (fun _=>rfl) (SfM.refl m) (fun E hP hW up m' u1 u2 hc=>by
   obtain ⟨c1,c2⟩:=C0.1 hc
   exact ⟨o,.unk,ho,by rw [Q1,Cc rfl],hd,by simpa using c1,.inl ⟨hw _,hv E _ m' c2⟩⟩)
  obtain ⟨fx',h1,h2⟩:=Qgi hdag hm os hl' hs' hS'
  refine ⟨fx',h1,fun E hP hW Dd F hk=>?_⟩
  have key:=h2 E hP hW Dd F hk
  cases he:effs.contains i with
  | true=>rw [he] at key;exact RunA.eff ho he (hw _) (hv E _ m hm) hd key
  | false=>rw [he] at key;exact RunA.rd ho he (hw _) (hv E _ m hm) hd key
def DrawR (D:Codec U) (W:Wd) (P:Program) (ops:Array Oper) (effs:List Nat) (st0:St) (i n:Nat) (fx:List (Nat×TV)) (st:TSt U) (ms:List (TMe U)) (p:Value→TSt U→Option β) (k:TSt U→Option β) (r:β):Prop :=
 (∃ s,Sfx st s∧k s=some r∧∃ fx' msF,DI D ops st0 fx' ops.size s∧(∀ E,E.P=P→W.p E.V0.S E.w0→AllEx E ops st0 effs fx' ((s.m::msF).map (TMe.er D)).reverse (Qdn ops effs))∧∀ E,E.P=P→W.p E.V0.S E.w0→∀ Q F,F fx' ((s.m::msF).map (TMe.er D))→RunA E ops st0 effs (DieOp E Q ops st0) F (List.range' i n) fx ((st.m::ms).map (TMe.er D))) ∨
 (∃ v s,Sfx st s∧p v s=some r∧∃ fx' mF msF,Q1c mF=true∧(∀ E,E.P=P→W.p E.V0.S E.w0→AllEx E ops st0 effs fx' ((mF::msF).map (TMe.er D)).reverse (Qdn ops effs))∧∀ E,E.P=P→W.p E.V0.S E.w0→∀ Q F,XQ E Q (.panic (ZT v)) (s.er D)→F fx' ((mF::msF).map (TMe.er D))→RunA E ops st0 effs (DieOp E Q ops st0) F (List.range' i n) fx ((st.m::ms).map (TMe.er D)))
theorem DrawR.step {P:Program} {W:Wd} {i n:Nat} {y:TV} {fx:List (Nat×TV)} {st s1:TSt U} {ms ms1:List (TMe U)} {p:Value→TSt U→Option β} {k:TSt U→Option β} (hsf:Sfx st s1) (h:DrawR D W P ops effs st0 (i+1) n ((i,y)::fx) s1 ms1 p k r)
  (hrun:∀ E,E.P=P→W.p E.V0.S E.w0→∀ Dd F,RunA E ops st0 effs Dd F (List.range' (i+1) n) ((i,y)::fx) ((s1.m::ms1).map (TMe.er D))→RunA E ops st0 effs Dd F (i::List.range' (i+1) n) fx ((st.m::ms).map (TMe.er D))):DrawR D W P ops effs st0 i (n+1) fx st ms p k r:=by
 rcases h with ⟨s,q1,q2,fx',msF,q3,qx,q4⟩ | ⟨v,s,q1,q2,fx',mF,msF,q3,qx,q4⟩
 ·exact .inl ⟨s,hsf.trans q1,q2,fx',msF,q3,qx,fun E hP hW Q F hk=>hrun E hP hW _ F (q4 E hP hW Q F hk)⟩
 ·exact .inr ⟨v,s,hsf.trans q1,q2,fx',mF,msF,q3,qx,fun E hP hW Q F hq hk=>hrun E hP hW _ F (q4 E hP hW Q F hq hk)⟩
theorem dieW {fx:List (Nat×TV)} {i:Nat} {st:TSt U} {m:TMe U} (hap:YX (Wo m.tk st.m.tk) st.tm=true) (htk:∃ p,m.tk=p++st.m.tk) (h:DI D ops st0 fx i st) (hdag:∀ i,i < ops.size→∀ k∈Qu ops i,k < i) (hnd:(Jk ops).Nodup) (hi:i < ops.size) {M:Mem} :
  StW ⟨(Qq ops st0 fx i M).tm,(m.er D).hp,(m.er D).tk,(m.er D).nx,st0.nt,st0.df⟩ ((⟨((Jk ops).map fun d=>(d,TTV.unk))++st.tm,m,st.nt,st.df⟩:TSt U).er D):=by
 refine ⟨fun t y hy=>?_,fun j B hB=>⟨B,hB,fun _ _ _ h=>h⟩,fun j T hT=>hT,Z,h.nt.symm▸Z,h.df.symm▸Z⟩
 have hy':Qpt (QI (TTV.er D m.tk) (((Jk ops).map fun d=>(d,TTV.unk))++st.tm)) t=some y:=hy
 rw [QL,Jr] at hy'
 by_cases hd:t∈Jk ops
 ·obtain hq:Qpt ((Jk ops).map fun d=>(d,(TTV.unk:TTV U))) t=some .unk:=by
   generalize Jk ops=l at hd
   induction l with
   | nil=>cases hd
   | cons a l ih =>
    rw [CF,Q1]
    by_cases e:a=t
    ·rw [Cc e]
    ·rw [C8 e]
     rcases Cq.1 hd with h1 | h1
     ·exact absurd h1.symm e
     ·exact ih h1
  rw [hq] at hy'
  cases hy'
  exact .inl Z
 ·have hq:Qpt ((Jk ops).map fun d=>(d,(TTV.unk:TTV U))) t=none:=by
   cases hc:Qpt ((Jk ops).map fun d=>(d,(TTV.unk:TTV U))) t with
   | none=>rfl
   | some z =>
    obtain ⟨d,hd1,hd2⟩:=Cv.1 (JO hc)
    cases hd2
    exact absurd hd1 hd
  rw [hq] at hy'
  cases hz:Qpt st.tm t with
  | none=>rw [hz] at hy';cases hy'
  | some x =>
   rw [hz] at hy';cases hy'
   have hb:(Q4t ops i).contains t=false:=by
    cases hc:(Q4t ops i).contains t with
    | false=>rfl
    | true =>
     have h1:t∈Q4t ops i:=by simpa using hc
     obtain ⟨j,hj,hjd⟩:=Pb.1 h1
     refine absurd ?_ hd
     refine Pb.2 ⟨j,hj,?_⟩
     split at hjd
     ·rename_i d hd1
      rw [hd1]
      cases hcc:((Qu ops i).contains j||(Qu ops j).contains i) with
      | true=>rw [hcc] at hjd;cases hjd
      | false=>rw [hcc,Cd] at hjd;exact hjd
     ·cases hjd
   obtain ⟨z,h1,h2⟩:=h.look hdag hnd hi hb hz
   exact .inr ⟨z,h1,fun V w v hv=>GR hap htk hz V w v (h2.1 V w v hv)⟩
theorem Qbp {P:Program} (hT:C.T.OK P) (hD:D.OK) {W:Wd} (hK:Q0s W D P K) (hX:WN W D P X) (hdag:∀ i,i < ops.size→∀ k∈Qu ops i,k < i) (hnd:(Jk ops).Nodup):∀ (rest:List Oper) {i:Nat} {fx:List (Nat×TV)} {st:TSt U} {ms:List (TMe U)} {acc:List (Nat×(Bool→TMe U→Bool))} {pn:Value→TSt U→Option β} {k:TSt U→Option β},(∀ j o,rest[j]?=some o→ops[i+j]?=some o)→i+rest.length=ops.size→DI D ops st0 fx i st→SI D W P ops effs st0 fx i st.m ms acc→YOK W D P Y st.m→K9 D C K X Y ops effs pn i rest st ms acc k=some r →
  DrawR D W P ops effs st0 i rest.length fx st ms pn k r
 | [],i,fx,st,ms,acc,pn,k,hl,hs,h,hS,hY,hr=>by
  have hr':cond (Q73 ops effs acc (st.m::ms).reverse) (k st) none=some r:=hr
  cases hx:Q73 ops effs acc (st.m::ms).reverse with
  | false=>rw [hx] at hr';cases hr'
  | true =>
   rw [hx,C7] at hr'
   exact .inl ⟨st,Sfx.refl st,hr',fx,ms,(by rw [← hs];exact h),fun E hP hW=>hS.all hx hP hW,fun E hP hW Q F hk=>RunA.nil hk⟩
 | o::os,i,fx,st,ms,acc,pn,k,hl,hs,h,hS,hY,hr=>by
  have ho:ops[i]?=some o:=hl 0 o rfl
  have hi:i < ops.size:=(CP.1 ho).1
  have hl':∀ j o',os[j]?=some o'→ops[i+1+j]?=some o':=fun j o' hj=>by
   have:=hl (j+1) o' (by simpa using hj)
   rw [← this];congr 1;omega
  have hs':i+1+os.length=ops.size:=by rw [← hs,C2];omega
  have GO:∀ (s1:TSt U) (y:TV) (ms1:List (TMe U)) (acc1:List (Nat×(Bool→TMe U→Bool))),Sfx st s1→DI D ops st0 ((i,y)::fx) (i+1) s1→SI D W P ops effs st0 ((i,y)::fx) (i+1) s1.m ms1 acc1→K9 D C K X Y ops effs pn (i+1) os s1 ms1 acc1 k=some r→(∀ E,E.P=P→W.p E.V0.S E.w0→∀ Dd F,RunA E ops st0 effs Dd F (List.range' (i+1) os.length) ((i,y)::fx) ((s1.m::ms1).map (TMe.er D))→RunA E ops st0 effs Dd F (i::List.range' (i+1) os.length) fx ((st.m::ms).map (TMe.er D)))→DrawR D W P ops effs st0 i (os.length+1) fx st ms pn k r:=fun s1 y ms1 acc1 hsf hdi hsi h' hrun=>by
   exact DrawR.step hsf (Qbp hT hD hK hX hdag hnd os hl' hs' hdi hsi (hY.mono hsf.sfm) h') hrun
  have dst0:JL st o.dst=true→Zl st0 o.dst=true:=fun hd=>by
   cases hdst:o.dst with
   | none=>rfl
   | some d=>rw [hdst] at hd;show Nat.blt d st0.nt=true;rw [← h.nt];exact hd
  have eqd:∀ M:Mem,Qq ops st0 ((i,.unk)::fx) i M=Qq ops st0 fx i M:=fun M=>by
   have e:=ZY (ops:=ops) (fx:=fx) (fx':=(i,TV.unk)::fx) (js:=Qu ops i) (fun j hj=>by
    have:=hdag i hi j hj
    rw [Q1,C8 (by omega)])
   unfold Qq
   rw [e]
  have RUN:∀ (st1:TSt U),st1.m=st.m→Sfx st st1→DI D ops st0 fx i st1→Qx ops (Qq ops st0 fx i (st1.er D).mem).tm o=some true→Wj D C K X Y ops effs i o st1 (Q7b ops effs i os st1 ms acc pn) (fun s c=>K9 D C K X Y ops effs pn (i+1) os s (cond (effs.contains i) (st.m::ms) ms) ((i,c)::acc) k)=some r→DrawR D W P ops effs st0 i (os.length+1) fx st ms pn k r:=fun st1 hm hsf1 hdi1 hw1 hr1=>by
   rcases Q78 (st:=st1) hT hD hK hX hdag hnd (by rw [hm];exact hY) hdi1 ho hw1 hr1 with ⟨s1,c,q1,q2,qm,y,q3,qg,q4⟩ | ⟨v,m,he,hd,hap,hsf,hpn,hop⟩
   ·skip
    have em:(st1.er D).mem=st.m.er D:=by
     show TMe.er D st1.m=_
     rw [hm]
    refine GO s1 y _ _ (hsf1.trans q1) q3 (hS.step hdag hi (fun he=>(qm he).trans hm) (by rw [← hm];exact q1.sfm) (by rw [← hm];exact qg)) q2 (fun E hP hW Dd F hk=>?_)
    have key:=q4 E hP hW (ms.map (TMe.er D)) (List.range' (i+1) os.length) Dd F
    rw [em] at key
    refine key ?_
    cases he:effs.contains i with
    | true=>rw [he] at hk;exact hk
    | false=>rw [he] at hk;exact hk
   ·unfold Q7b at hpn
    cases hc:(os.all (fun o=>o.guard.isNone&&JL st1 o.dst)&&Q73 ops effs (Qgj effs (i+1) os ((i,fun _ _=>false)::acc)) (Qbg st1.m::Qbt effs (i+1) os (Qbg st1.m) (st1.m::ms)).reverse) with
    | false=>rw [hc] at hpn;cases hpn
    | true =>
     rw [hc,C7] at hpn
     obtain ⟨c1,c2⟩:=C0.1 hc
     rw [hm] at c2 hsf hap
     have dst1:∀ {d:Option Nat},JL st1 d=true→Zl st0 d=true:=fun {d} hd=>by
      cases d with
      | none=>rfl
      | some d=>show Nat.blt d st0.nt=true;rw [← hdi1.nt];exact hd
     have hS1:=hS.step (m':=Qbg st.m) (y:=.unk) (c:=fun _ _=>false) hdag hi (fun h0=>by rw [he] at h0;cases h0) (impM_sf st.m) (fun E hP hW up m' u1 u2 hc=>by cases hc)
     rw [he,C7] at hS1
     have hl2:∀ j o',os[j]?=some o'→ops[i+1+j]?=some o'∧o'.guard=none∧Zl st0 o'.dst=true:=fun j o' hj=>by
      have h5:=Cg.1 c1 o' (Cs hj)
      obtain ⟨h6,h7⟩:=C0.1 h5
      exact ⟨hl' j o' hj,Option.isNone_iff_eq_none.1 h6,dst1 h7⟩
     obtain ⟨fx',g1,Qq8⟩:=Qgi (m:=Qbg st.m) hdag (Qbf st.m) os hl2 hs' hS1
     refine .inr ⟨v,_,⟨?_,hsf.es,hsf.tk,hsf.nx,?_,?_⟩,hpn,fx',_,_,Qbf st.m,fun E hP hW=>g1.all c2 hP hW,fun E hP hW Q F hq hk=>?_⟩
     ·obtain ⟨z,hz⟩:=hsf1.tm
      exact ⟨_++z,by rw [Cy,← hz]⟩
     ·exact hsf1.nt
     ·exact hsf1.df
     ·refine RunA.die ho he (dst1 hd) (DieOp.mk (m':=m.er D) (pv:=v) ho (by rw [eqd];rw [show (st1.er D).mem=st.m.er D from congrArg (TMe.er D) hm] at hw1;exact hw1) (fun V a w hr2=>?_) (Gg ?_ hq)) (Qq8 E hP hW _ F hk)
      ·rw [eqd,← hm] at hr2
       exact hop E hP hW V a w (hr2.weak (hdi1.deps hdag hnd hi))
      ·rw [eqd]
       exact dieW (by rw [hm] at *;exact hap) (by rw [hm];exact hsf.tk) hdi1 hdag hnd hi
  unfold K9 at hr
  split at hr
  ·rename_i hgd
   exact RUN st rfl (Sfx.refl st) h (by unfold Qx;rw [hgd]) hr
  ·rename_i j b hgd
   split at hr
   ·cases hr
   ·rename_i d hj
    cases hbk:(Q4t ops i).contains d with
    | true=>rw [hbk] at hr;cases hr
    | false =>
     rw [hbk,Cd] at hr
     have skip:∀ {st':TSt U},DI D ops st0 fx i st'→st'.m=st.m→Sfx st st'→Qx ops (Qq ops st0 fx i (st.er D).mem).tm o=some false→cond (JL st o.dst) (K9 D C K X Y ops effs pn (i+1) os (K7 o st') (cond (effs.contains i) (st.m::ms) ms) ((i,fun _ _=>!(effs.contains i))::acc) k) none=some r→DrawR D W P ops effs st0 i (os.length+1) fx st ms pn k r:=by
      intro st' hdi hm hsf hw hr'
      cases hd1:JL st o.dst with
      | false=>rw [hd1] at hr';cases hr'
      | true =>
       rw [hd1,C7] at hr'
       have hsi:=hS.step (m':=(K7 o st').m) (y:=.tup []) (c:=fun _ _=>!(effs.contains i)) hdag hi (fun _=>hm) (by show SfM st.m st'.m;rw [hm];exact SfM.refl _) (fun E hP hW up m' u1 u2 hc=>by
        have he:effs.contains i=false:=by simpa using hc
        have e:=ZY (ops:=ops) (fx:=fx) (fx':=(i,TV.tup [])::fx) (js:=Qu ops i) (fun j hj=>by
         have:=hdag i hi j hj
         rw [Q1,C8 (by omega)])
        have eqd:∀ M:Mem,Qq ops st0 ((i,.tup [])::fx) i M=Qq ops st0 fx i M:=fun M=>by
         unfold Qq
         rw [e]
        exact ⟨o,.tup [],ho,by rw [Q1,Cc rfl],dst0 hd1,he,.inr ⟨by rw [eqd];exact hw,rfl⟩⟩)
       refine GO (K7 o st') (.tup []) _ _ (hsf.trans (Sfx.put st' o.dst _)) (hdi.step ho (x:=.tup []) (m':=st'.m) (y:=.tup []) Z (fun t z hz V w v hv=>hv)) hsi hr' (fun E hP hW Dd F hk=>?_)
       have e:(K7 o st').m=st.m:=hm
       rw [e] at hk
       cases he:effs.contains i with
       | true=>rw [he] at hk;exact RunA.noE ho he hw (dst0 hd1) hk
       | false=>rw [he] at hk;exact RunA.no ho he hw (dst0 hd1) hk
     split at hr
     ·rename_i c hc
      have want:∀ b',c=b'→Qx ops (Qq ops st0 fx i (st.er D).mem).tm o=some (b'==b):=fun b' e=>by
       subst e
       obtain ⟨y,hy,hyz⟩:=h.look hdag hnd hi hbk hc
       have ey:=hyz.2 (.inl ⟨c,rfl⟩)
       unfold Qx
       rw [hgd]
       dsimp only
       rw [hj]
       dsimp only
       rw [hy,ey];rfl
      have run:∀ b',c=b'→Wj D C K X Y ops effs i o (setB st d b') (Q7b ops effs i os (setB st d b') ms acc pn) (fun s c=>K9 D C K X Y ops effs pn (i+1) os s (cond (effs.contains i) (st.m::ms) ms) ((i,c)::acc) k)=some r→(b'==b)=true→_:=fun b' e h' e2=>RUN (setB st d b') rfl (UU st d b') (h.setB hc e) (by rw [← e2];exact want b' e) h'
      have skp:∀ b',c=b'→cond (JL st o.dst) (K9 D C K X Y ops effs pn (i+1) os (K7 o (setB st d b')) (cond (effs.contains i) (st.m::ms) ms) ((i,fun _ _=>!(effs.contains i))::acc) k) none=some r→(b'==b)=false→_:=fun b' e h' e2 =>
       skip (h.setB hc e) rfl (UU st d b') (by rw [← e2];exact want b' e) h'
      cases hcv:c with
      | true =>
       rw [hcv,C7] at hr
       cases b with
       | true=>exact run true hcv hr rfl
       | false=>exact skp true hcv hr rfl
      | false =>
       rw [hcv,Cd] at hr
       cases b with
       | true=>exact skp false hcv hr rfl
       | false=>exact run false hcv hr rfl
     ·rename_i hc
      refine skip h Z (Sfx.refl st) ?_ hr
      obtain ⟨y,hy,hyz⟩:=h.look hdag hnd hi hbk hc
      have ey:=hyz.2 (.inr rfl)
      unfold Qx
      rw [hgd]
      dsimp only
      rw [hj]
      dsimp only
      rw [hy,ey];rfl
     ·cases hr
theorem draw_ok {id:Nat} {st:TSt U} {pn:Value→TSt U→Option β} {k:TSt U→Option β} {P:Program} (hm:P.follows .mixedOrders=true) (hT:C.T.OK P) (hD:D.OK) {W:Wd} (hK:Q0s W D P K) (hX:WN W D P X) (hY:YOK W D P Y st.m) (hB:Qbq ops effs=true) (hr:K9 D C K X Y ops effs pn 0 ops.toList st [] [] k=some r):(∃ s,Sfx st s∧k s=some r∧∀ (E:Env) (ro:Option Nat) (n:Nat) Q,E.P=P→W.p E.V0.S E.w0→XQ E Q .normal (s.er D)→XC E ro n Q (.region id ops true) (st.er D)) ∨
  (∃ v s,Sfx st s∧pn v s=some r∧∀ (E:Env) (ro:Option Nat) (n:Nat) Q,E.P=P→W.p E.V0.S E.w0→XQ E Q (.panic (ZT v)) (s.er D)→XC E ro n Q (.region id ops true) (st.er D)):=by
 obtain ⟨hB12,hB3⟩:=C0.1 hB
 obtain ⟨hB1,hB2⟩:=C0.1 hB12
 have hB':=hB1
 simp only [Q51,CD,CX] at hB'
 obtain ⟨⟨⟨⟨hdag,hnd⟩,-⟩,-⟩,-⟩:=hB'
 have hdag':∀ i,i < ops.size→∀ k∈Qu ops i,k < i:=fun i hi k hk=>by
  have:=Cg.1 (Cg.1 hdag i (by simpa using hi)) k hk
  simpa using this
 have e:ops.toList.length=ops.size:=by simp
 have R:=Qbp (effs:=effs) (st0:=st.er D) (fx:=[]) hT hD hK hX hdag' hnd ops.toList (i:=0) (st:=st) (ms:=[]) (acc:=[]) (pn:=pn) (k:=k) (r:=r)
  (fun j o hj=>by rw [P4];simpa using hj) (by rw [P4];simp) ⟨fun j hj=>by omega,fun j hj=>rfl,fun t x hx=>.inr ⟨fun j hj=>by omega,x.er D st.m.tk,by show Qpt (QI _ st.tm) t=_;rw [QL,hx];rfl,fun _ _ _ h=>h,fun _=>rfl⟩,rfl,rfl⟩
  ⟨(fun j c hj=>by cases hj),(fun a b ma mb hab ha hb=>by
   have ha1:=(Cf.1 ha).1
   have hb1:=(Cf.1 hb).1
   have e1:a=0:=by simpa using ha1
   have e2:b=0:=by simpa using hb1
   subst e1;subst e2
   rw [ha] at hb;cases hb;exact SfM.refl _),rfl⟩ hY hr
 rcases R with ⟨s,q1,q2,fx',msF,q3,qx,q4⟩ | ⟨v,s,q1,q2,fx',mF,msF,q3,qx,q4⟩
 ·refine .inl ⟨s,q1,q2,fun E ro n Q hP hW hq=>YD effs (Qdn ops effs) (hP.symm▸hm) hB1 hB2 (C4 hB3) ?_⟩
  have key:=q4 E hP hW Q (fun fx ms=>AllEx E ops (st.er D) effs fx ms.reverse (Qdn ops effs)∧∃ mE r,ms=mE::r∧XQ E Q .normal (Q1i ops (st.er D) fx mE)) ⟨qx E hP hW,_,_,rfl,Gg (q3.end hnd) hq⟩
  rw [e] at key
  exact key
 ·refine .inr ⟨v,s,q1,q2,fun E ro n Q hP hW hq=>YD effs (Qdn ops effs) (hP.symm▸hm) hB1 hB2 (C4 hB3) ?_⟩
  have key:=q4 E hP hW Q (fun fx ms=>AllEx E ops (st.er D) effs fx ms.reverse (Qdn ops effs)∧∃ mE r,ms=mE::r∧XQ E Q .normal (Q1i ops (st.er D) fx mE)) hq ⟨qx E hP hW,_,_,rfl,fun V a w hr=>(Qja (D:=D) q3 rfl hr).elim⟩
  rw [e] at key
  exact key
theorem unkT_weak {st0:TSt U} {tm:List (Nat×TV)}:StW ⟨tm,(st0.m.er D).hp,(st0.m.er D).tk,(st0.m.er D).nx,st0.nt,st0.df⟩ ((Qcl st0).er D):=by
 refine ⟨fun t y hy=>.inl ?_,fun i B h=>⟨B,h,fun _ _ _ h=>h⟩,fun i T h=>h,Z,Z,Z⟩
 have hy':Qpt (QI (TTV.er D st0.m.tk) ((st0.tm.map fun p=>(p.1,TTV.unk))++st0.tm)) t=some y:=hy
 rw [QL] at hy'
 have key:∀ (a b:List (Nat×TTV U)),(∀ k z,Qpt b k=some z→∃ z',Qpt a k=some z')→Qpt ((a.map fun p=>(p.1,(TTV.unk:TTV U)))++b) t=none∨Qpt ((a.map fun p=>(p.1,(TTV.unk:TTV U)))++b) t=some .unk:=by
  intro a b hab
  rw [Jr]
  cases hq:Qpt (a.map fun p=>(p.1,(TTV.unk:TTV U))) t with
  | some z =>
   have:Qpt (QI (fun _:TTV U=>(TTV.unk:TTV U)) a) t=some z:=hq
   rw [QL] at this
   cases hz:Qpt a t with
   | none=>rw [hz] at this;cases this
   | some u=>rw [hz] at this;cases this;exact .inr rfl
  | none =>
   have h0:Qpt (QI (fun _:TTV U=>(TTV.unk:TTV U)) a) t=none:=hq
   rw [QL] at h0
   cases hb:Qpt b t with
   | none=>exact .inl rfl
   | some z =>
    obtain ⟨z',hz'⟩:=hab t z hb
    rw [hz'] at h0;cases h0
 rcases key st0.tm st0.tm (fun k z h=>⟨z,h⟩) with h | h
 ·rw [h] at hy';cases hy'
 ·rw [h] at hy';cases hy';rfl
theorem Qge {P:Program} (hT:C.T.OK P) (hD:D.OK) {W:Wd} (hK:Q0s W D P K) (hX:WN W D P X) (hdag:∀ i,i < ops.size→∀ k∈Qu ops i,k < i) (hnd:(Jk ops).Nodup) {st0:TSt U} (hY:YOK W D P Y st0.m) {p:Value→TSt U→Option β} :
  ∀ (rest:List Oper) {i:Nat} {fx:List (Nat×TV)} {st:TSt U},(∀ j o,rest[j]?=some o→ops[i+j]?=some o)→i+rest.length=ops.size→DI D ops (st0.er D) fx i st→st.m=st0.m→Qh9 D C K X Y ops effs st0 p i rest st=some r →
  ∃ v,p v (Qcl st0)=some r∧∀ E,E.P=P→W.p E.V0.S E.w0→∀ Q F,XQ E Q (.panic (ZT v)) ((Qcl st0).er D)→(∀ fx m ms,F fx ((⟨[(0,.obj (.deferred none))],[],0⟩:Mem)::m::ms))→∀ ms,RunA E ops (st0.er D) effs (DieOp E Q ops (st0.er D)) F (List.range' i rest.length) fx ((st.er D).mem::ms)
 | [],i,fx,st,hl,hs,h,hm,hr=>by cases hr
 | o::os,i,fx,st,hl,hs,h,hm,hr=>by
  have ho:ops[i]?=some o:=hl 0 o rfl
  have hi:i < ops.size:=(CP.1 ho).1
  have hl':∀ j o',os[j]?=some o'→ops[i+1+j]?=some o':=fun j o' hj=>by
   have:=hl (j+1) o' (by simpa using hj)
   rw [← this];congr 1;omega
  have hs':i+1+os.length=ops.size:=by rw [← hs,C2];omega
  unfold Qh9 at hr
  split at hr
  ·cases hr
  ·rename_i hgd
   have hw:∀ tm:List (Nat×TV),Qx ops tm o=some true:=fun tm=>by unfold Qx;rw [hgd]
   split at hr
   ·cases hc:(effs.contains i&&JL st o.dst) with
    | false=>rw [hc] at hr;cases hr
    | true =>
     rw [hc,C7] at hr
     obtain ⟨he,hd⟩:=C0.1 hc
     split at hr
     ·rename_i v hv
      refine ⟨v,hr,fun E hP hW Q F hq hF ms=>?_⟩
      have hdd:Zl (st0.er D) o.dst=true:=by
       cases hdst:o.dst with
       | none=>rfl
       | some d=>rw [hdst] at hd;show Nat.blt d st0.nt=true;have:=h.nt;rw [show st0.nt=st.nt from this.symm];exact hd
      refine RunA.die ho he hdd (DieOp.mk (m':=(st.er D).mem) (pv:=v) ho (hw _) (fun V a w hr2=>?_) ?_) (RunA.nil (hF _ _ _))
      ·have e2:Qq ops (st0.er D) ((i,.unk)::fx) i (st.er D).mem=Qq ops (st0.er D) fx i (st.er D).mem:=by
        have e:=ZY (ops:=ops) (fx:=fx) (fx':=(i,TV.unk)::fx) (js:=Qu ops i) (fun j hj=>by
         have:=hdag i hi j hj
         rw [Q1,C8 (by omega)])
        unfold Qq
        rw [e]
       rw [e2] at hr2
       exact Qex hv V a w (hr2.weak (h.deps hdag hnd hi))
      ·refine Gg ?_ hq
       have em:(st.er D).mem=st0.m.er D:=by show TMe.er D st.m=_;rw [hm]
       rw [em]
       exact unkT_weak
     ·cases hr
   ·rename_i h1 t1
    cases he:effs.contains i with
    | true=>rw [he] at hr;cases hr
    | false =>
     rw [he,Cd] at hr
     have hY':YOK W D P Y st.m:=by rw [hm];exact hY
     obtain ⟨s1,c,q1,q2,qm,y,q3,qg,q4⟩:=(Q78 (st:=st) hT hD hK hX hdag hnd hY' h ho (hw _) hr).resolve_right (fun ⟨v,m,he',_⟩=>by rw [he] at he';cases he')
     have hm1:=qm he
     obtain ⟨v,k1,k2⟩:=Qge hT hD hK hX hdag hnd hY _ hl' hs' q3 (hm1.trans hm) q2
     refine ⟨v,k1,fun E hP hW Q F hq hF ms=>?_⟩
     have key:=q4 E hP hW ms (List.range' (i+1) (h1::t1).length) (DieOp E Q ops (st0.er D)) F
     rw [he,Cd] at key
     exact key (k2 E hP hW Q F hq hF ms)
theorem die_ok {id:Nat} {st:TSt U} {p:Value→TSt U→Option β} {P:Program} (hm:P.follows .mixedOrders=true) (hT:C.T.OK P) (hD:D.OK) {W:Wd} (hK:Q0s W D P K) (hX:WN W D P X) (hY:YOK W D P Y st.m) (hB:Qbq ops effs=true) (hx:(Qdn ops effs).isEmpty=true) (hr:Qh9 D C K X Y ops effs st p 0 ops.toList st=some r) :
  ∃ v,p v (Qcl st)=some r∧∀ E ro n Q,E.P=P→W.p E.V0.S E.w0→XQ E Q (.panic (ZT v)) ((Qcl st).er D)→XC E ro n Q (.region id ops true) (st.er D):=by
 obtain ⟨hB12,hB3⟩:=C0.1 hB
 obtain ⟨hB1,hB2⟩:=C0.1 hB12
 have hB':=hB1
 simp only [Q51,CD,CX] at hB'
 obtain ⟨⟨⟨⟨hdag,hnd⟩,-⟩,-⟩,-⟩:=hB'
 have hdag':∀ i,i < ops.size→∀ k∈Qu ops i,k < i:=fun i hi k hk=>by
  have:=Cg.1 (Cg.1 hdag i (by simpa using hi)) k hk
  simpa using this
 obtain ⟨v,q1,q2⟩:=Qge (effs:=effs) (fx:=[]) hT hD hK hX hdag' hnd hY ops.toList (i:=0) (st:=st)
  (fun j o hj=>by rw [P4];simpa using hj) (by rw [P4];simp) ⟨fun j hj=>by omega,fun j hj=>rfl,fun t x hx=>.inr ⟨fun j hj=>by omega,x.er D st.m.tk,by show Qpt (QI _ st.tm) t=_;rw [QL,hx];rfl,fun _ _ _ h=>h,fun _=>rfl⟩,rfl,rfl⟩ rfl hr
 have hex:Qdn ops effs=[]:=Ph.1 hx
 refine ⟨v,q1,fun E ro n Q hP hW hq=>YD effs (Qdn ops effs) (hP.symm▸hm) hB1 hB2 (C4 hB3) ?_⟩
 have key:=q2 E hP hW Q (fun fx ms=>AllEx E ops (st.er D) effs fx ms.reverse (Qdn ops effs)∧∃ mE r,ms=mE::r∧XQ E Q .normal (Q1i ops (st.er D) fx mE)) hq (fun fx m ms=>⟨by rw [hex];trivial,_,_,rfl,XQ.bad⟩) []
 have e:ops.toList.length=ops.size:=by simp
 rw [e] at key
 exact key
end
end
end
noncomputable section
open Go.RowKit
section
variable {U:Univ}
variable (U) in
structure LpT where
 s:LoopState
 p:Option Code
 tm:List (Nat×TTV U)
 nt:Nat
 ps:Array Nat
 a:Code
 b:Code
 d:Nat
def LpT.er (D:Codec U) (tk:List (Nat×TTok U)) (L:LpT U):HB:=.loop L.s L.p (QI (TTV.er D tk) L.tm) L.nt L.ps L.a L.b L.d
def Uo:List (Ev U)→Nat→Option (LpT U)
 | [],_=>none
 | .lp j s p tm nt ps a b d::es,i=>cond (Nat.beq j i) (some ⟨s,p,tm,nt,ps,a,b,d⟩) (Uo es i)
 | .ls j xs::es,i=>match Uo es i with
  | some L=>some (cond (Nat.beq j i) ⟨L.s,L.p,xs++L.tm,L.nt,L.ps,L.a,L.b,L.d⟩ L)
  | none=>none
 | .box j _ _::es,i=>cond (Nat.beq j i) none (Uo es i)
 | .raw j _::es,i=>cond (Nat.beq j i) none (Uo es i)
 | .set _ _ _::es,i=>Uo es i
theorem mapV_append {α β:Type} (f:α→β) (xs ys:List (Nat×α)):QI f (xs++ys)=QI f xs++QI f ys:=Cr
theorem Kh {D:Codec U} {tk:List (Nat×TTok U)}:∀ {es:List (Ev U)} {i:Nat} {L:LpT U},Uo es i=some L→Qpt (Qg D tk es) i=some (L.er D tk)
 | [],i,L,h=>by cases h
 | .lp j s p tm nt ps a b d::es,i,L,h=>by
  unfold Uo at h
  unfold Qg
  rw [Q1]
  cases hb:Nat.beq j i with
  | true=>rw [hb] at h;cases h;rw [Cc (C4 hb)];rfl
  | false=>rw [hb] at h;rw [C8 (Kb hb)];exact Kh h
 | .ls j xs::es,i,L,h=>by
  unfold Uo at h
  split at h
  ·rename_i L0 h0
   have ih:=Kh (D:=D) (tk:=tk) h0
   unfold Qg
   cases hb:Nat.beq j i with
   | true =>
    rw [hb] at h;cases h
    have e:=C4 hb
    subst e
    rw [ih]
    show Qpt ((j,HB.loop L0.s L0.p (QI (TTV.er D tk) xs++QI (TTV.er D tk) L0.tm) L0.nt L0.ps L0.a L0.b L0.d)::Qg D tk es) j=_
    rw [Q1,Cc rfl,← mapV_append];rfl
   | false =>
    rw [hb] at h;cases h
    split
    ·rw [Q1,C8 (Kb hb)];exact ih
    ·exact ih
  ·cases h
 | .box j T xs::es,i,L,h=>by
  unfold Uo at h
  unfold Qg
  rw [Q1]
  cases hb:Nat.beq j i with
  | true=>rw [hb] at h;cases h
  | false=>rw [hb] at h;rw [C8 (Kb hb)];exact Kh h
 | .raw j B::es,i,L,h=>by
  unfold Uo at h
  unfold Qg
  rw [Q1]
  cases hb:Nat.beq j i with
  | true=>rw [hb] at h;cases h
  | false=>rw [hb] at h;rw [C8 (Kb hb)];exact Kh h
 | .set j off xs::es,i,L,h=>by
  unfold Uo at h
  have ih:=Kh (D:=D) (tk:=tk) h
  unfold Qg
  split
  ·rename_i T ys hy
   rw [Q1]
   by_cases e:j=i
   ·subst e
    rw [hy] at ih;cases ih
   ·rw [C8 e];exact ih
  ·exact ih
end
end
noncomputable section
open Go.RowKit
section
variable {U:Univ} (D:Codec U)
def Q9p (st:TSt U) (l:Loc) (i:Nat) (e:TypeId) (t:U.T):TSt U:=match l with
 | .reg r=>⟨(r,.v (.one (.app i 0)))::st.tm,⟨st.m.es,(i,⟨e,t,[],0⟩)::st.m.tk,i+1⟩,st.nt,st.df⟩
 | .cell j off=>⟨st.tm,⟨.set j off [.one (.app i 0)]::st.m.es,(i,⟨e,t,[],0⟩)::st.m.tk,i+1⟩,st.nt,st.df⟩
def Q9a:Option (TAV U)→Bool
 | some (.one (.c (.v (.slice none 0 0))))=>true
 | _=>false
variable (U) in
inductive HK where
 | int (k:IntKind)
 | bool
 | str
 | sl (t:U.T)
 | app (e:TypeId) (t:U.T)
 | stc (t:U.T)
 | ptr (r off:Nat)
 | any
inductive HL where
 | reg (r:Nat)
 | at (r off:Nat)
 | fat (rL r off:Nat)
variable (U) in
structure HLab where
 sl:List (List HL×HK U)
 dead:List Nat
def locOf (st:TSt U):HL→Option Loc
 | .reg r=>some (.reg r)
 | .at r off=>match Qpt st.tm r with
  | some (.v (.one (.ptr i o)))=>some (.cell i (o+off))
  | _=>none
 | .fat rL r off=>match Qpt st.tm rL with
  | some (.v (.one (.raw (.yld L))))=>match Uo st.m.es L with
   | some F=>match Qpt F.tm r with
    | some (.v (.one (.ptr i o)))=>some (.cell i (o+off))
    | _=>none
   | none=>none
  | _=>none
def Qdc (st:TSt U):List HL→Option (List Loc)
 | []=>some []
 | l::ls=>match locOf st l with
  | some x=>match Qdc st ls with
   | some xs=>some (x::xs)
   | none=>none
  | none=>none
def Q96 (st:TSt U) (ls:List Loc):HK U→Option (AK U×TSt U)
 | .int k=>some (.int k,st)
 | .bool=>some (.bool,st)
 | .str=>some (.str,st)
 | .sl t=>some (.sl t,st)
 | .stc t=>some (.stc t,st)
 | .ptr r off=>match Qpt st.tm r with
  | some (.v (.one (.ptr i o)))=>some (.ptr i (o+off),st)
  | _=>none
 | .any=>some (.any,st)
 | .app e t=>match ls with
  | []=>none
  | l::_=>cond (Q9a (Xx D st l 1)) (cond (Qb0 st.m.nx 0 st.tm st.m.es) (some (.app st.m.nx e t,Q9p st l st.m.nx e t)) none) (match Xx D st l 1 with
   | some (.one (.app j _))=>some (.app j e t,st)
   | _=>none)
def UX:List (List HL×HK U)→TSt U→Option (List (List Loc×AK U)×TSt U)
  | [],st=>some ([],st)
  | (hl,k)::r,st=>match Qdc st hl with
    | none=>none
    | some ls=>match Q96 D st ls k with
      | none=>none
      | some (k',s1)=>match UX r s1 with
        | none=>none
        | some (sl,s)=>some ((ls,k')::sl,s)
def U3 (h:HLab U) (st:TSt U):Option (Lab U×TSt U):=match UX D h.sl st with
 | some (sl,s)=>cond (Qhi ⟨sl,h.dead⟩ s) (some (⟨sl,h.dead⟩,s)) none
 | none=>none
def kindOut (st:TSt U) (ls:List Loc):HK U→Option (AK U)
 | .int k=>some (.int k)
 | .bool=>some .bool
 | .str=>some .str
 | .sl t=>some (.sl t)
 | .stc t=>some (.stc t)
 | .ptr r off=>match Qpt st.tm r with
  | some (.v (.one (.ptr i o)))=>some (.ptr i (o+off))
  | _=>none
 | .any=>some .any
 | .app e t=>match ls with
  | []=>none
  | l::_=>match Xx D st l 1 with
   | some (.one (.app j _))=>some (.app j e t)
   | _=>none
def Qi1 (st:TSt U):List (List HL×HK U)→Option (List (List Loc×AK U))
  | []=>some []
  | (hl,k)::r=>match Qdc st hl with
    | none=>none
    | some ls=>match kindOut D st ls k with
      | none=>none
      | some k'=>match Qi1 st r with
        | none=>none
        | some sl=>some ((ls,k')::sl)
def Q09 (h:HLab U) (st:TSt U):Option (Lab U):=match Qi1 D st h.sl with
 | some sl=>cond (Qhi ⟨sl,h.dead⟩ st) (some ⟨sl,h.dead⟩) none
 | none=>none
variable {D}
theorem isNilA_ok {x:Option (TAV U)} (h:Q9a x=true):x=some (.one (.c (.v (.slice none 0 0)))):=by
 unfold Q9a at h
 split at h
 ·rfl
 ·cases h
theorem To.refl (E:Env) (x:St):To E x x:=fun V a w hr=>⟨V,hr⟩
theorem To.trans {E:Env} {x y z:St} (h:To E x y) (k:To E y z):To E x z:=fun V a w hr=>let ⟨V',h'⟩:=h V a w hr;k V' a w h'
theorem To.weak {E:Env} {x y:St} (h:StW x y):To E x y:=fun V a w hr=>⟨V,hr.weak h⟩
theorem Qkf {E:Env} {x y:St} (h:XQ E (fun _ a w=>∃ V,Rel E V y a w) .normal x):To E x y:=h
theorem adoptAt_ok (hD:D.OK) {E:Env} {st:TSt U} {l:Loc} {i:Nat} {e:TypeId} {t:U.T} (h:Xx D st l 1=some (.one (.c (.v (.slice none 0 0))))) (hn:st.m.nx≤i) (ha:Qb0 i 0 st.tm st.m.es=true):To E (st.er D) ((Q9p st l i e t).er D):=by
 have hs:To E (st.er D) ⟨(st.er D).tm,(st.er D).hp,(st.er D).tk,i,st.nt,st.df⟩:=Qkf (XQ.skipTo i hn (fun V a w hr=>⟨V,hr⟩))
 refine hs.trans ?_
 have e0:(U.E t).encL []=[]:=(U.E t).nil
 have eapp:(TA.app i 0:TA U).er ((i,(⟨e,t,[],0⟩:TTok U))::st.m.tk)=.app i (U.E t).sz []:=by
  show (match cur ((i,(⟨e,t,[],0⟩:TTok U))::st.m.tk) i 0 with
   | some T=>CA.app i (U.E T.t).sz ((U.E T.t).encL T.l)
   | none=>CA.any)=_
  rw [Zm,Cc rfl,Cc rfl]
  show CA.app i (U.E t).sz ((U.E t).encL [])=_
  rw [e0]
 have etok:∀ j x,Qpt (XB ((i,(⟨e,t,[],0⟩:TTok U))::st.m.tk)) j=some (some x)→Qpt ((i,some ⟨e,(U.E t).sz,0,[]⟩)::XB st.m.tk) j=some (some x):=fun j x h =>
  Gy (T0:=(⟨e,t,[],0⟩:TTok U)) (by
   unfold TTok.er
   dsimp only
   rw [e0];rfl) (fun _=>rfl) h
 have htm:∀ r y,Qpt (QI (TTV.er D ((i,(⟨e,t,[],0⟩:TTok U))::st.m.tk)) st.tm) r=some y→y=.unk∨∃ x,Qpt (st.er D).tm r=some x∧∀ V w v,x.rel V w v→y.rel V w v:=by
  intro r y hy
  rw [QL] at hy
  cases hz:Qpt st.tm r with
  | none=>rw [hz] at hy;cases hy
  | some z =>
   rw [hz] at hy;cases hy
   refine .inr ⟨z.er D st.m.tk,by show Qpt (QI _ st.tm) r=_;rw [QL,hz];rfl,fun V w v hv=>?_⟩
   exact ZL (UH fun hp=>by
    have h1:=(C0.1 ha).1
    have h2:st.tm.any (fun p=>p.2.hasApp i 0)=true:=CS.2 ⟨_,JO hz,hp⟩
    rw [h2] at h1;cases h1) hv
 have hes:∀ j,Qqy (Qpt (Qg D st.m.tk st.m.es) j) (Qpt (Qg D ((i,(⟨e,t,[],0⟩:TTok U))::st.m.tk) st.m.es) j):=YP (UH fun hp=>by
  have h1:=(C0.1 ha).2
  rw [hp] at h1;cases h1)
 cases l with
 | reg r =>
  have hr:Qpt (st.er D).tm r=some (Ky (.slice none 0 0)):=by
   show Qpt (QI (TTV.er D st.m.tk) st.tm) r=_
   rw [QL,Q5x h];rfl
  refine (Qkf (XQ.adoptT (st:=⟨(st.er D).tm,(st.er D).hp,(st.er D).tk,i,st.nt,st.df⟩) e (U.E t).sz hr (fun V a w hr=>⟨V,hr⟩))).trans (To.weak ⟨fun q y hy=>?_,fun j B hB=>?_,fun j T hT=>?_,Z,Z,Z⟩)
  ·have hy':Qpt ((r,TV.v (.one ((TA.app i 0:TA U).er ((i,(⟨e,t,[],0⟩:TTok U))::st.m.tk))))::QI (TTV.er D ((i,(⟨e,t,[],0⟩:TTok U))::st.m.tk)) st.tm) q=some y:=hy
   rw [eapp] at hy'
   show y=.unk∨∃ x,Qpt ((r,TV.v (.one (.app i (U.E t).sz [])))::(st.er D).tm) q=some x∧_
   rw [Q1] at hy' ⊢
   by_cases c:r=q
   ·rw [Cc c] at hy' ⊢;cases hy';exact .inr ⟨_,rfl,fun _ _ _ h=>h⟩
   ·rw [C8 c] at hy' ⊢;exact htm q y hy'
  ·have hB':Qpt (Qg D ((i,(⟨e,t,[],0⟩:TTok U))::st.m.tk) st.m.es) j=some B:=hB
   have h3:=hes j
   rw [hB'] at h3
   show ∃ A,Qpt (Qg D st.m.tk st.m.es) j=some A∧_
   cases hA:Qpt (Qg D st.m.tk st.m.es) j with
   | none=>rw [hA] at h3;exact h3.elim
   | some A=>rw [hA] at h3;exact ⟨A,rfl,fun V w o h=>BW.rel h3 h⟩
  ·have hT':Qpt (XB ((i,(⟨e,t,[],0⟩:TTok U))::st.m.tk)) j=some (some T):=hT
   exact etok _ _ hT'
 | cell j0 off =>
  obtain ⟨T0,ys,r1,r2,r3⟩:=Yg hD (tk:=st.m.tk) (Q39 h)
  have hy0:ys[off]?=some (.d (.v (.slice none 0 0))):=UQ r3
  refine (Qkf (XQ.adoptC (st:=⟨(st.er D).tm,(st.er D).hp,(st.er D).tk,i,st.nt,st.df⟩) e (U.E t).sz r1 hy0 (fun V a w hr=>⟨V,hr⟩))).trans (To.weak ⟨htm,fun j B hB=>?_,fun j T hT=>?_,Z,Z,Z⟩)
  ·have hB':Qpt (match Qpt (Qg D ((i,(⟨e,t,[],0⟩:TTok U))::st.m.tk) st.m.es) j0 with
    | some (.cells T zs)=>(j0,.cells T (setL zs off [(TA.app i 0:TA U).er ((i,(⟨e,t,[],0⟩:TTok U))::st.m.tk)]))::Qg D ((i,(⟨e,t,[],0⟩:TTok U))::st.m.tk) st.m.es
    | _=>Qg D ((i,(⟨e,t,[],0⟩:TTok U))::st.m.tk) st.m.es) j=some B:=hB
   rw [eapp] at hB'
   show ∃ A,Qpt ((j0,HB.cells T0 (ys.set off (.app i (U.E t).sz [])))::Qg D st.m.tk st.m.es) j=some A∧_
   have h0:=hes j0
   rw [r1] at h0
   have h3:=hes j
   rw [Q1]
   cases hX:Qpt (Qg D ((i,(⟨e,t,[],0⟩:TTok U))::st.m.tk) st.m.es) j0 with
   | none=>rw [hX] at h0;exact h0.elim
   | some X =>
    rw [hX] at h0 hB'
    obtain ⟨zs,rfl,hl⟩:∃ zs,X=.cells T0 zs∧LW ys zs:=by
     have h0':BW (.cells T0 ys) X:=h0
     cases h0' with
     | refl=>exact ⟨ys,rfl,LW.refl _⟩
     | cells hl=>exact ⟨_,rfl,hl⟩
    dsimp only at hB'
    rw [Q1] at hB'
    by_cases c:j0=j
    ·rw [Cc c] at hB' ⊢
     cases hB'
     refine ⟨_,Z,fun V w o hr=>BW.rel (.cells ?_) hr⟩
     exact LW.set hl (LW.refl [CA.app i (U.E t).sz []]) off
    ·rw [C8 c] at hB' ⊢
     rw [hB'] at h3
     cases hA:Qpt (Qg D st.m.tk st.m.es) j with
     | none=>rw [hA] at h3;exact h3.elim
     | some A=>rw [hA] at h3;exact ⟨A,rfl,fun V w o h=>BW.rel h3 h⟩
  ·have hT':Qpt (XB ((i,(⟨e,t,[],0⟩:TTok U))::st.m.tk)) j=some (some T):=hT
   exact etok _ _ hT'
theorem adoptAt_sfx {st:TSt U} {l:Loc} {i:Nat} {e:TypeId} {t:U.T} (hn:st.m.nx≤i):Sfx st (Q9p st l i e t):=by
 cases l with
 | reg r=>exact ⟨⟨[_],rfl⟩,⟨[],rfl⟩,⟨[_],rfl⟩,SD hn,rfl,.inr rfl⟩
 | cell j off=>exact ⟨⟨[],rfl⟩,⟨[_],rfl⟩,⟨[_],rfl⟩,SD hn,rfl,.inr rfl⟩
theorem kindAt_ok (hD:D.OK) {E:Env} {st s:TSt U} {ls:List Loc} {k:HK U} {k':AK U} (h:Q96 D st ls k=some (k',s)):To E (st.er D) (s.er D)∧Sfx st s:=by
 cases k with
 | app e t =>
  cases ls with
  | nil=>cases h
  | cons l ls =>
   unfold Q96 at h
   dsimp only at h
   cases hn:Q9a (Xx D st l 1) with
   | true =>
    rw [hn,C7] at h
    cases hc:Qb0 st.m.nx 0 st.tm st.m.es with
    | false=>rw [hc] at h;cases h
    | true =>
     rw [hc] at h;cases h
     exact ⟨adoptAt_ok hD (isNilA_ok hn) (Ck _) hc,adoptAt_sfx (Ck _)⟩
   | false =>
    rw [hn,Cd] at h
    split at h
    ·cases h;exact ⟨To.refl _ _,Sfx.refl _⟩
    ·cases h
 | int k=>cases h;exact ⟨To.refl _ _,Sfx.refl _⟩
 | bool=>cases h;exact ⟨To.refl _ _,Sfx.refl _⟩
 | str=>cases h;exact ⟨To.refl _ _,Sfx.refl _⟩
 | sl t=>cases h;exact ⟨To.refl _ _,Sfx.refl _⟩
 | stc t=>cases h;exact ⟨To.refl _ _,Sfx.refl _⟩
 | any=>cases h;exact ⟨To.refl _ _,Sfx.refl _⟩
 | ptr r off =>
  unfold Q96 at h
  dsimp only at h
  split at h
  ·cases h;exact ⟨To.refl _ _,Sfx.refl _⟩
  ·cases h
theorem Q36 (hD:D.OK) {E:Env}:∀ {hl:List (List HL×HK U)} {st s:TSt U} {sl:List (List Loc×AK U)},UX D hl st=some (sl,s)→To E (st.er D) (s.er D)∧Sfx st s
  | [],st,s,sl,h=>by cases h;exact ⟨To.refl _ _,Sfx.refl _⟩
  | (ls,k)::r,st,s,sl,h=>by
    unfold UX at h
    split at h
    · cases h
    · split at h
      · cases h
      · rename_i k' s1 h1
        split at h
        · cases h
        · rename_i sl' s' h2;cases h
          obtain ⟨a1,a2⟩:=kindAt_ok (E:=E) hD h1
          obtain ⟨b1,b2⟩:=Q36 (E:=E) hD h2
          exact ⟨a1.trans b1,a2.trans b2⟩
theorem Ya (hD:D.OK) {E:Env} {h:HLab U} {L:Lab U} {st s:TSt U} (hi:U3 D h st=some (L,s)):To E (st.er D) (s.er D)∧Sfx st s∧Qhi L s=true:=by
 unfold U3 at hi
 split at hi
 ·rename_i sl s1 h1
  cases hw:Qhi ⟨sl,h.dead⟩ s1 with
  | false=>rw [hw] at hi;cases hi
  | true =>
   rw [hw] at hi;cases hi
   obtain ⟨a1,a2⟩:=Q36 (E:=E) hD h1
   exact ⟨a1,a2,hw⟩
 ·cases hi
theorem Q08 {h:HLab U} {L:Lab U} {st:TSt U} (hi:Q09 D h st=some L):Qhi L st=true:=by
 unfold Q09 at hi
 split at hi
 ·rename_i sl h1
  cases hw:Qhi ⟨sl,h.dead⟩ st with
  | false=>rw [hw] at hi;cases hi
  | true=>rw [hw] at hi;cases hi;exact hw
 ·cases hi
variable (U) in
inductive Tc where
 | skip
 | reg (id:Nat) (ops:Array Oper)
 | draw (id:Nat) (effs:List Nat) (ops:Array Oper)
 | seq (a b:Tc)
 | cond (c:Operand) (a b:Tc)
 | block (id:Nat) (b:Tc)
 | bloop (id:Nat) (h ho:HLab U) (b:Tc)
 | bloopE (id:Nat) (h ho:HLab U) (b:Tc)
 | join (h:HLab U) (b:Tc)
 | joinE (h:HLab U) (b:Tc)
 | exit (id:Nat)
 | scope (b:Tc)
 | range (g:Operand) (ps:Array Nat) (a b:Tc)
 | ret
def Tc.code:Tc U→Code
 | .skip=>.skip
 | .reg id ops=>.region id ops false
 | .draw id _ ops=>.region id ops true
 | .seq a b=>.seq a.code b.code
 | .cond c a b=>.cond c a.code b.code
 | .block id b=>.block id b.code
 | .bloop id _ _ b=>.block id (.loop b.code)
 | .bloopE id _ _ b=>.block id (.loop b.code)
 | .join _ b=>b.code
 | .joinE _ b=>b.code
 | .exit id=>.exit id
 | .scope b=>.scope b.code
 | .range g ps a b=>.rangeFunc g ps a.code b.code
 | .ret=>.ret
variable (D) (C:TCfg U) (K:FuncId→List (TAV U)→Option (KR U)) (X:Qqo U)
def Q17 {α:Type} (h:Lab U) (st s:TSt U) (f:tup (h.sl.map (·.2))→α):Option α:=match GB D h st s with
 | some t=>some (f t)
 | none=>none
def KE:List Nat→List (TAV U)→List (Nat×TTV U)→List (Nat×TTV U)
 | t::ts,x::xs,tm=>KE ts xs ((t,.v x)::tm)
 | _,_,tm=>tm
abbrev Qce (U:Univ):=List (Ev U)×List (Nat×TTok U)×Nat
def Q9e (m:TMe U) (s:TSt U):Option (Qce U):=cond (Q5l s.df []) (some (s.m.es.take (s.m.es.length - m.es.length),s.m.tk.take (s.m.tk.length - m.tk.length),s.m.nx - m.nx)) none
def DZ (m:TMe U) (a:Qce U):TMe U:=⟨a.1++m.es,a.2.1++m.tk,m.nx+a.2.2⟩
def LpT.ev (L:Nat) (F:LpT U) (s:LoopState) (p:Option Code):Ev U:=.lp L s p F.tm F.nt F.ps F.a F.b F.d
def K5 (L:Nat):Ev U→Bool
 | .box i _ _=>!(Nat.beq i L)
 | .raw i _=>!(Nat.beq i L)
 | .lp i _ _ _ _ _ _ _ _=>!(Nat.beq i L)
 | .ls i _=>!(Nat.beq i L)
 | .set i _ _=>!(Nat.beq i L)
def Q5j (L:Nat):Ev U→Bool
 | .lp i _ _ _ _ _ _ _ _=>Nat.beq i L
 | _=>false
def Qlt (L:Nat) (F:LpT U) (m:TMe U) (j:Option Code) (a:Qce U):Option (TMe U):=cond (a.1.all (K5 L)) (match j with
 | none=>some (DZ m a)
 | some c=>some ⟨F.ev L .done (some c)::(DZ m a).es,(DZ m a).tk,(DZ m a).nx⟩) none
def X4 {β:Type} (L:Nat) (F:LpT U) (m:TMe U) (k:TTV U→TMe U→Option β) (j:Option Code) (a:Qce U):Option β:=match Qlt L F m j a with
 | some m'=>k (Qpf j.isNone) m'
 | none=>none
def Qor (st:TSt U):Option Nat→Option (Nat×Nat×List (Ev U)×Nat)
 | none=>some (st.m.nx+1,st.m.nx,[.raw st.m.nx (.obj (.deferred (some [])))],st.m.nx+2)
 | some L0=>match Uo st.m.es L0 with
  | some F0=>some (st.m.nx,F0.d,[],st.m.nx+1)
  | none=>none
def Q29 (st:TSt U) (L:Nat) (F:LpT U) (xs:List (Ev U)) (nx:Nat):TMe U:=⟨F.ev L .ready none::(xs++st.m.es),st.m.tk,nx⟩
def Qkt (L:Nat) (m1 m2:TMe U):List (Ev U):=(Q5g m1.es m2.es).filter fun e=>!(Q5j L e)
def Qm4 (st:TSt U) (L:Nat) (m1 m2:TMe U):TSt U:=⟨st.tm,⟨Qkt L m1 m2++st.m.es,m2.tk,m2.nx⟩,st.nt,st.df⟩
def Qhy (rn:Option Nat) (st:TSt U) (L:Nat) (m1 m2:TMe U):Bool:=YX (Wo m2.tk st.m.tk) st.tm&&((Qkt L m1 m2).all (K5 L)&&(st.m.es.all (K5 L)&&(match rn with
 | none=>(Qkt L m1 m2).all (K5 st.m.nx)&&st.m.es.all (K5 st.m.nx)
 | some _=>true)))
def Qoh (m2:TMe U) (L:Nat):Option Exit:=match Uo m2.es L with
 | some F=>match F.s,F.p with
  | .ready,none=>some .normal
  | .done,some .ret=>some .ret
  | .done,some (.exit id)=>some (.exit id)
  | _,_=>none
 | none=>none
def JJ:Tc U→(Y:Qqn U)→(rn:Option Nat)→{R:Type}→(ret:TSt U→Option R)→(pan:Value→TSt U→Option R)→{β:Type}→TSt U→(R→Option β)→(Exit→TSt U→Option β)→Option β
 | .skip,_,_,_,_,_,_,st,_,k=>k .normal st
 | .reg _ ops,Y,rn,_,_,pan,_,st,p,k=>Q1w D C K X Y rn ops (fun v s=>Option.bind (pan v s) p) ops.toList st (k .normal)
 | .draw _ effs ops,Y,_,_,_,pan,_,st,p,k=>_root_.cond (Qbq ops effs) (_root_.cond (Q07 ops) (_root_.cond (Qdn ops effs).isEmpty (Qh9 D C K X Y ops effs st (fun v s=>Option.bind (pan v s) p) 0 ops.toList st) none) (K9 D C K X Y ops effs (fun v s=>Option.bind (pan v s) p) 0 ops.toList st [] [] (k .normal))) none
 | .seq a b,Y,rn,_,ret,pan,_,st,p,k=>JJ a Y rn ret pan st p fun e s=>match e with
  | .normal=>JJ b Y rn ret pan s p k
  | e=>k e s
 | .cond c a b,Y,rn,_,ret,pan,_,st,p,k=>match YB st.tm c with
  | some (.v (.one (.c (.v (.bool v)))))=>cond v (JJ a Y rn ret pan st p k) (JJ b Y rn ret pan st p k)
  | _=>none
 | .block id b,Y,rn,_,ret,pan,_,st,p,k=>JJ b Y rn ret pan st p fun e s=>match e with
  | .exit j=>cond (Nat.beq j id) (k .normal s) (k (.exit j) s)
  | e=>k e s
 | .bloop id h ho b,Y,rn,R,_,_,_,st,_,k=>match U3 D h st with
  | none=>none
  | some (L,s0)=>match GB D L s0 s0,Q09 D ho s0 with
   | some t0,some Lo=>Option.bind (Qa (fun t=>JJ b Y rn (R:=R) (fun _=>none) (fun _ _=>none) (lab L s0 t) (fun _=>none) fun e s=>match e with
     | .normal=>Q17 D L s0 s .next
     | .exit j=>cond (Nat.beq j id) (Q17 D Lo s0 s .done) none
     | _=>none) Qd t0) fun o=>k .normal (lab Lo s0 o)
   | _,_=>none
 | .bloopE id h ho b,Y,rn,R,ret,pan,_,st,p,k=>match U3 D h st with
  | none=>none
  | some (L,s0)=>match GB D L s0 s0,Q09 D ho s0 with
   | some t0,some Lo=>Option.bind (Qa (β:=tup (Lo.sl.map (·.2))⊕R) (fun t=>JJ b Y rn ret pan (lab L s0 t) (fun o=>some (.done (.inr o))) fun e s=>match e with
     | .normal=>Q17 D L s0 s .next
     | .exit j=>cond (Nat.beq j id) (Q17 D Lo s0 s fun o=>.done (.inl o)) none
     | _=>none) Qd t0) (Sum.elim (fun o=>k .normal (lab Lo s0 o)) p)
   | _,_=>none
 | .join h b,Y,rn,R,_,_,_,st,_,k=>match U3 D h st with
  | none=>none
  | some (L,s0)=>Option.bind (JJ b Y rn (R:=R) (fun _=>none) (fun _ _=>none) s0 (fun _=>none) fun e s=>match e with
   | .normal=>Q17 D L s0 s id
   | _=>none) fun t=>k .normal (lab L s0 t)
 | .joinE h b,Y,rn,R,ret,pan,_,st,p,k=>match U3 D h st with
  | none=>none
  | some (L,s0)=>Option.bind (JJ b Y rn ret pan (β:=tup (L.sl.map (·.2))⊕R) s0 (fun o=>some (.inr o)) fun e s=>match e with
   | .normal=>Q17 D L s0 s .inl
   | _=>none) (Sum.elim (fun t=>k .normal (lab L s0 t)) p)
 | .exit id,_,_,_,_,_,_,st,_,k=>k (.exit id) st
 | .scope b,Y,rn,_,ret,pan,_,st,p,k=>JJ b Y rn ret pan st p fun e s=>match e with
  | .goto _=>none
  | e=>k e s
 | .range g ps a b,Y,rn,_,ret,pan,_,st,p,k=>match YB st.tm g,Qor st rn with
  | some (.v (.one (.fn gf caps))),some (L,d,xs,nx)=>match X (fun L' args m=>cond (Nat.beq L' L)
    (cond ((Q5g (Q29 st L ⟨.ready,none,st.tm,st.nt,ps,a.code,b.code,d⟩ xs nx).es m.es).all (K5 L)&&(Nat.beq args.length ps.size&&ps.toList.all fun t=>Nat.blt t st.nt))
     (some ⟨fun k _=>JJ a Y (some L) (R:=Qce U) (fun _=>none) (fun _ _=>none) ⟨KE ps.toList args st.tm,m,st.nt,[]⟩ (fun _=>none) fun e s=>match e with
      | .normal=>cond ((Q5g m.es s.m.es).all (K5 L)&&Q5l s.df []) (JJ b Y (some L) (Q9e ⟨.lp L .busy none st.tm st.nt ps a.code b.code d::s.m.es,s.m.tk,s.m.nx⟩) (fun _ _=>none) ⟨s.tm,⟨.lp L .busy none st.tm st.nt ps a.code b.code d::s.m.es,s.m.tk,s.m.nx⟩,s.nt,s.df⟩ (X4 L ⟨.ready,none,st.tm,st.nt,ps,a.code,b.code,d⟩ s.m k (some .ret)) fun e s2=>match e with
        | .normal=>Option.bind (Q9e ⟨.lp L .busy none st.tm st.nt ps a.code b.code d::s.m.es,s.m.tk,s.m.nx⟩ s2) (X4 L ⟨.ready,none,st.tm,st.nt,ps,a.code,b.code,d⟩ s.m k none)
        | .exit id=>Option.bind (Q9e ⟨.lp L .busy none st.tm st.nt ps a.code b.code d::s.m.es,s.m.tk,s.m.nx⟩ s2) (X4 L ⟨.ready,none,st.tm,st.nt,ps,a.code,b.code,d⟩ s.m k (some (.exit id)))
        | _=>none) none
      | _=>none⟩) none) (Y L' args m)) (.fn gf) (.one (.raw (.yld L))::Q7d caps) (Q29 st L ⟨.ready,none,st.tm,st.nt,ps,a.code,b.code,d⟩ xs nx) with
   | some xo=>xo.run (fun _ m2=>cond (Qhy rn st L (Q29 st L ⟨.ready,none,st.tm,st.nt,ps,a.code,b.code,d⟩ xs nx) m2) (match Qoh m2 L with
    | some .ret=>Option.bind (ret (Qm4 st L (Q29 st L ⟨.ready,none,st.tm,st.nt,ps,a.code,b.code,d⟩ xs nx) m2)) p
    | some e=>k e (Qm4 st L (Q29 st L ⟨.ready,none,st.tm,st.nt,ps,a.code,b.code,d⟩ xs nx) m2)
    | none=>none) none) fun v m2=>cond (Qhy rn st L (Q29 st L ⟨.ready,none,st.tm,st.nt,ps,a.code,b.code,d⟩ xs nx) m2) (Option.bind (pan v (Qm4 st L (Q29 st L ⟨.ready,none,st.tm,st.nt,ps,a.code,b.code,d⟩ xs nx) m2)) p) none
   | none=>none
  | _,_=>none
 | .ret,_,_,_,ret,_,_,st,p,_=>Option.bind (ret st) p
end
section
variable {U:Univ} {D:Codec U} {C:TCfg U} {K:FuncId→List (TAV U)→Option (KR U)} {X:Qqo U}
variable {E:Env} {ro:Option Nat} {n:Nat} {Q:Exit→Act→World→Prop}
theorem ZS {c:Code} {x y:St} (h:To E x y) (k:XC E ro n Q c y):XC E ro n Q c x:=fun V a w hr=>let ⟨V',hr'⟩:=h V a w hr;k V' a w hr'
theorem WM {e:Exit} {x y:St} (h:To E x y) (k:XQ E Q e y):XQ E Q e x:=fun V a w hr=>let ⟨V',hr'⟩:=h V a w hr;k V' a w hr'
theorem Qc9 {σ β:Type} {st:St} {c:Code} (step:σ→Option (LO σ β)) (inv:σ→St) (s0:σ) (b:β) (h0:To E st (inv s0)) (hok:Qa step Qd s0=some b)
  (round:∀ (s:σ) (m:Nat) (o:LO σ β),step s=some o→GV step m b o→XC E ro n (Exit.then (Q58 E inv step m b) Q) c (inv s)):XC E ro n Q (.loop c) st:=by
 intro V a w hr
 obtain ⟨V',hr'⟩:=h0 V a w hr
 refine XF (fun k a w=>∃ (x:σ×Nat) (V:Vu),x.2=k∧Qa step x.2 x.1=some b∧Rel E V (inv x.1) a w) Qd ⟨(s0,Qd),V',Z,hok,hr'⟩ ?_
 rintro k a w ⟨⟨s,j⟩,V,rfl,hx,hr⟩
 obtain ⟨m,o,hm,h1,h2⟩:=Qj2 hx
 dsimp only at hm hr
 refine XE (round s m o h1 (by
  cases o with
  | next s'=>exact h2
  | done b'=>exact Cw h2) V a w hr) ?_
 intro e a' w' hq
 cases e with
 | normal =>
  obtain ⟨x',V',q1,q2,q3⟩:=hq
  exact ⟨x'.2,by dsimp only at q1 ⊢;omega,x',V',rfl,q2,q3⟩
 | exit id=>exact hq
 | goto l=>exact hq
 | ret=>exact hq
 | panic ch=>exact hq
 | outgrown=>exact hq
theorem XQ.nextT {σ β:Type} {st:St} {step:σ→Option (LO σ β)} {inv:σ→St} {m:Nat} {b:β} (s':σ) (hl:To E st (inv s')) (ho:GV step m b (.next s')):XQ E (Exit.then (Q58 E inv step m b) Q) .normal st:=fun V a w hr=>by
 obtain ⟨V',hr'⟩:=hl V a w hr
 exact ⟨(s',m),V',Ct _,ho,hr'⟩
theorem ZU {α:Type} {h:Lab U} {st s:TSt U} {f:tup (h.sl.map (·.2))→α} {v:α} (hp:Q17 D h st s f=some v):∃ t,GB D h st s=some t∧f t=v:=by
 unfold Q17 at hp
 split at hp
 ·rename_i t ht;cases hp;exact ⟨t,ht,rfl⟩
 ·cases hp
theorem Q6q (hD:D.OK) {id:Nat} {h:Lab U} {s0:TSt U} {β:Type} {step:tup (h.sl.map (·.2))→Option (LO (tup (h.sl.map (·.2))) β)} {m:Nat} {b:β} {s:TSt U} {t:tup (h.sl.map (·.2))} (hw:Qhi h s0=true) (h0:E.V0.nx≤s0.m.nx)
  (hs:Sfx s0 s) (hp:GB D h s0 s=some t) (hr:GV step m b (.next t)):XQ E (Exit.then (Q58 E (fun t=>(lab h s0 t).er D) step m b) (Exit.inBlock id Q)) .normal (s.er D) :=
 XQ.nextT t (W5 hD ⟨hs,hw,hp⟩ h0) hr
theorem Qbn {σ β:Type} {step:σ→Option (LO σ β)} {inv:σ→St} {m:Nat} {b:β} {id:Nat} {st:St} (k:XQ E Q .normal st):XQ E (Exit.then (Q58 E inv step m b) (Exit.inBlock id Q)) (.exit id) st:=fun V a w hr=>by
 show (if id=id then Q .normal a w else Q (.exit id) a w)
 rw [Cc rfl];exact k V a w hr
theorem Q72 {σ β:Type} {step:σ→Option (LO σ β)} {inv:σ→St} {m:Nat} {b:β} {id:Nat} {st:St} {e:Exit} (h1:e ≠ .normal) (h2:e ≠ .exit id) (k:XQ E Q e st):XQ E (Exit.then (Q58 E inv step m b) (Exit.inBlock id Q)) e st:=fun V a w hr=>by
 have hk:=k V a w hr
 cases e with
 | normal=>exact (h1 rfl).elim
 | exit j =>
  show (if j=id then Q .normal a w else Q (.exit j) a w)
  rw [C8 (fun e=>h2 (by rw [e]))];exact hk
 | goto l=>exact hk
 | ret=>exact hk
 | panic c=>exact hk
 | outgrown=>exact hk
theorem Qjm {tk:List (Nat×TTok U)} {i:Nat} {T:TypeId} {xs:List (It U)} {es:List (Ev U)}:Qg D tk (.box i T xs::es)=(i,.cells T (Je D tk xs))::Qg D tk es:=rfl
theorem Qjj {tk:List (Nat×TTok U)} {i:Nat} {B:HB} {es:List (Ev U)}:Qg D tk (.raw i B::es)=(i,B)::Qg D tk es:=rfl
theorem Qjl {tk:List (Nat×TTok U)} {i:Nat} {s:LoopState} {p:Option Code} {tm:List (Nat×TTV U)} {nt:Nat} {ps:Array Nat} {a b:Code} {d:Nat} {es:List (Ev U)}:Qg D tk (.lp i s p tm nt ps a b d::es)=(i,.loop s p (QI (TTV.er D tk) tm) nt ps a b d)::Qg D tk es:=rfl
theorem Qjk {tk:List (Nat×TTok U)} {i:Nat} {xs:List (Nat×TTV U)} {es:List (Ev U)}:Qg D tk (.ls i xs::es)=match Qpt (Qg D tk es) i with
  | some (.loop s p tm nt ps a b d)=>(i,.loop s p (QI (TTV.er D tk) xs++tm) nt ps a b d)::Qg D tk es
  | _=>Qg D tk es:=rfl
theorem Qdo {tk:List (Nat×TTok U)} {i off:Nat} {xs:List (It U)} {es:List (Ev U)}:Qg D tk (.set i off xs::es)=match Qpt (Qg D tk es) i with
  | some (.cells T ys)=>(i,.cells T (setL ys off (Je D tk xs)))::Qg D tk es
  | _=>Qg D tk es:=rfl
theorem X8 {tk:List (Nat×TTok U)} {L:Nat}:∀ (q es:List (Ev U)),q.all (K5 L)=true→Qpt (Qg D tk (q++es)) L=Qpt (Qg D tk es) L
 | [],es,h=>rfl
 | e::q,es,h=>by
  obtain ⟨h1,h2⟩:=C0.1 h
  have ih:=X8 (tk:=tk) q es h2
  have hne:∀ i,(!(Nat.beq i L))=true→i ≠ L:=fun i hi=>Kb (by simpa using hi)
  rw [Pu]
  cases e with
  | box i T xs=>simp only [Qjm];rw [Q1,C8 (hne i h1)];exact ih
  | raw i B=>simp only [Qjj];rw [Q1,C8 (hne i h1)];exact ih
  | lp i s p tm nt ps a b d=>simp only [Qjl];rw [Q1,C8 (hne i h1)];exact ih
  | ls i xs =>
   rw [Qjk]
   split
   ·rw [Q1,C8 (hne i h1)];exact ih
   ·exact ih
  | set i off xs =>
   rw [Qdo]
   split
   ·rw [Q1,C8 (hne i h1)];exact ih
   ·exact ih
theorem Qfn {tk:List (Nat×TTok U)} {N:Nat→Prop} {A B:List (Ev U)} {e:Ev U} (h:∀ j,¬ N j→Qpt (Qg D tk A) j=Qpt (Qg D tk B) j) (he:∀ j,N j→K5 j e=true):∀ j,¬ N j→Qpt (Qg D tk (e::A)) j=Qpt (Qg D tk (e::B)) j:=by
 intro j hj
 have hi:∀ i,(∀ j,N j→(!(Nat.beq i j))=true)→¬ N i:=fun i hh hn=>by
  have:=hh i hn
  simp at this
 cases e with
 | box i T xs=>simp only [Qjm];rw [Q1,Q1,h j hj]
 | raw i C=>simp only [Qjj];rw [Q1,Q1,h j hj]
 | lp i s p tm nt ps a b d=>simp only [Qjl];rw [Q1,Q1,h j hj]
 | ls i xs =>
  rw [Qjk,Qjk]
  rw [h i (hi i he)]
  cases Qpt (Qg D tk B) i with
  | none=>exact h j hj
  | some X =>
   cases X with
   | loop s p tm nt ps a b d=>dsimp only;rw [Q1,Q1,h j hj]
   | cells T ys=>exact h j hj
   | obj o=>exact h j hj
   | mp es c=>exact h j hj
 | set i off xs =>
  rw [Qdo,Qdo]
  rw [h i (hi i he)]
  cases Qpt (Qg D tk B) i with
  | none=>exact h j hj
  | some X =>
   cases X with
   | cells T ys=>dsimp only;rw [Q1,Q1,h j hj]
   | loop s p tm nt ps a b d=>exact h j hj
   | obj o=>exact h j hj
   | mp es c=>exact h j hj
theorem Qb9 {tk:List (Nat×TTok U)} {N:Nat→Prop} {A B:List (Ev U)} (h:∀ j,¬ N j→Qpt (Qg D tk A) j=Qpt (Qg D tk B) j):∀ (q:List (Ev U)),(∀ e∈q,∀ j,N j→K5 j e=true)→∀ j,¬ N j→Qpt (Qg D tk (q++A)) j=Qpt (Qg D tk (q++B)) j
 | [],hq=>h
 | e::q,hq=>Qfn (Qb9 h q fun e he=>hq e (Ci _ he)) (hq e (Ch ..))
theorem Qdd {tk:List (Nat×TTok U)} {N:Nat→Prop} {L:Nat} (hL:N L) {A B:List (Ev U)} (h:∀ j,¬ N j→Qpt (Qg D tk A) j=Qpt (Qg D tk B) j):∀ (q:List (Ev U)),(∀ e∈q.filter (fun e=>!(Q5j L e)),∀ j,N j→K5 j e=true)→∀ j,¬ N j→Qpt (Qg D tk (q++A)) j=Qpt (Qg D tk (q.filter (fun e=>!(Q5j L e))++B)) j
 | [],hq=>h
 | e::q,hq=>by
  cases hb:Q5j L e with
  | true =>
   have e1:(e::q).filter (fun e=>!(Q5j L e))=q.filter (fun e=>!(Q5j L e)):=by rw [CB,hb];rfl
   rw [e1] at hq ⊢
   intro j hj
   rw [← Qdd hL h q hq j hj,Pu]
   cases e with
   | lp i s p tm nt ps a b d =>
    have ei:i=L:=C4 hb
    rw [Qjl,Q1,C8 (fun e'=>hj (by rw [← e',ei];exact hL))]
   | box i T xs=>cases hb
   | raw i C=>cases hb
   | ls i xs=>cases hb
   | set i off xs=>cases hb
  | false =>
   have e1:(e::q).filter (fun e=>!(Q5j L e))=e::q.filter (fun e=>!(Q5j L e)):=by rw [CB,hb];rfl
   rw [e1] at hq ⊢
   exact Qfn (Qdd hL h q fun e he=>hq e (Ci _ he)) (hq e (Ch ..))
theorem Q67 {tk:List (Nat×TTok U)} {L:Nat} {es:List (Ev U)} (h:es.all (K5 L)=true):Qpt (Qg D tk es) L=none:=by
 have:=X8 (D:=D) (tk:=tk) es [] h
 rw [CH] at this
 rw [this];rfl
theorem Q15 (tk:List (Nat×TTok U)):∀ (ts:List Nat) (xs:List (TAV U)) (tm:List (Nat×TTV U)) (tm':List (Nat×TV)),(∀ t,Qpt (QI (TTV.er D tk) tm) t=Qpt tm' t)→∀ t,Qpt (QI (TTV.er D tk) (KE ts xs tm)) t=Qpt (Z9 ts (xs.map (TAV.er D tk)) tm') t
 | [],[],tm,tm',h=>h
 | [],x::xs,tm,tm',h=>h
 | t::ts,[],tm,tm',h=>h
 | t::ts,x::xs,tm,tm',h=>Q15 tk ts xs ((t,.v x)::tm) ((t,.v (x.er D tk))::QA t tm') fun u=>by
  rw [Jm]
  show Qpt ((t,TV.v (x.er D tk))::QI (TTV.er D tk) tm) u=_
  rw [Q1,Q1,h u]
def Qkp (D:Codec U) (W:Wd) (P:Program) (rn:Option Nat) (c:Code) {R β:Type} (st:TSt U) (ret:TSt U→Option R) (pan:Value→TSt U→Option R) (p:R→Option β) (k:Exit→TSt U→Option β) (r:β):Prop :=
 (∃ e s,Sfx st s∧k e s=some r∧∀ E ro n Q,Fit W P rn E ro→E.V0.nx≤st.m.nx→XQ E Q e (s.er D)→XC E ro n Q c (st.er D)) ∨
 (∃ a,p a=some r∧(∃ s,Sfx st s∧(ret s=some a∨∃ v,pan v s=some a))∧∀ E ro n Q,Fit W P rn E ro→E.V0.nx≤st.m.nx→(∀ s,Sfx st s→ret s=some a→XQ E Q .ret (s.er D))→(∀ v s,Sfx st s→pan v s=some a→XQ E Q (.panic (ZT v)) (s.er D))→XC E ro n Q c (st.er D))
def Qn0 (D:Codec U) (C:TCfg U) (K:FuncId→List (TAV U)→Option (KR U)) (X:Qqo U) (W:Wd) (P:Program) (c:Tc U):Prop:=∀ ⦃Y:Qqn U⦄ ⦃rn:Option Nat⦄ ⦃R:Type⦄ ⦃ret:TSt U→Option R⦄ ⦃pan:Value→TSt U→Option R⦄ ⦃β:Type⦄ ⦃st:TSt U⦄ ⦃p:R→Option β⦄ ⦃k:Exit→TSt U→Option β⦄ ⦃r:β⦄,YOK W D P Y st.m→JJ D C K X c Y rn ret pan st p k=some r→Qkp D W P rn c.code st ret pan p k r
theorem Qa6 {α:Type} {p l m:List α} (h:m=p++l):m.take (m.length - l.length)++l=m:=by
 subst h
 rw [C9,Nat.add_sub_cancel,List.take_left]
theorem Qev {α:Type} {f:α→Bool} {a b:List α} (h:∃ p,b=p++a) (k:(Q5g a b).all f=true):∃ p,b=p++a∧p.all f=true:=by
 obtain ⟨p,rfl⟩:=h
 rw [YU] at k
 exact ⟨p,Z,k⟩
theorem Qga {m:TMe U} {s:TSt U} {a:Qce U} (h:Q9e m s=some a) (hs:SfM m s.m):DZ m a=s.m∧s.df=[]:=by
 unfold Q9e at h
 cases hd:Q5l s.df [] with
 | false=>rw [hd] at h;cases h
 | true =>
  rw [hd] at h;cases h
  have e1:s.m.es.take (s.m.es.length - m.es.length)++m.es=s.m.es:=by
   obtain ⟨p,hp⟩:=hs.es
   exact Qa6 hp
  have e2:s.m.tk.take (s.m.tk.length - m.tk.length)++m.tk=s.m.tk:=by
   obtain ⟨p,hp⟩:=hs.tk
   exact Qa6 hp
  have e3:m.nx+(s.m.nx - m.nx)=s.m.nx:=Nat.add_sub_cancel' hs.nx
  refine ⟨?_,Gr hd⟩
  unfold DZ
  dsimp only
  rw [e1,e2,e3]
theorem Q6z {s:TSt U} (hd:s.df=[]) {nt:Nat} (hn:s.nt=nt):StW (s.er D) ⟨[],(s.m.er D).hp,(s.m.er D).tk,(s.m.er D).nx,nt,[]⟩ :=
 ⟨(fun t y hy=>by cases hy),fun i B h=>⟨B,h,fun _ _ _ h=>h⟩,fun i T h=>h,rfl,hn.symm,hd.symm⟩
theorem Q5v {W:Wd} {P:Program} (hP0:P=Tryz.prog) {L d:Nat} {tm:List (Nat×TTV U)} {nt:Nat} {ps:Array Nat} {a b:Tc U} {m:TMe U} {args:List (TAV U)} {s:TSt U} {β:Type} {k:TTV U→TMe U→Option β} {r:β} {e2:Exit} {jump:Option Code} {a3:Qce U}
    (hm:∀ tk,Qpt (Qg D tk m.es) L=some (.loop .ready none (QI (TTV.er D tk) tm) nt ps a.code b.code d)) (hlen:args.length=ps.size) (hps:ps.toList.all (fun t=>Nat.blt t nt)=true) (hs:Sfx ⟨KE ps.toList args tm,m,nt,[]⟩ s) (hs1:∃ q,s.m.es=q++m.es∧q.all (K5 L)=true) (hsd:s.df=[])
    (hx1:∀ E ro n Q,Fit W P (some L) E ro→E.V0.nx≤m.nx→XQ E Q .normal (s.er D)→XC E ro n Q a.code ((⟨KE ps.toList args tm,m,nt,[]⟩:TSt U).er D))
    (hx2:∀ E ro n Q,Fit W P (some L) E ro→E.V0.nx≤s.m.nx→XQ E Q e2 ⟨[],((DZ ⟨.lp L .busy none tm nt ps a.code b.code d::s.m.es,s.m.tk,s.m.nx⟩ a3).er D).hp,((DZ ⟨.lp L .busy none tm nt ps a.code b.code d::s.m.es,s.m.tk,s.m.nx⟩ a3).er D).tk,((DZ ⟨.lp L .busy none tm nt ps a.code b.code d::s.m.es,s.m.tk,s.m.nx⟩ a3).er D).nx,nt,[]⟩→XC E ro n Q b.code ((⟨s.tm,⟨.lp L .busy none tm nt ps a.code b.code d::s.m.es,s.m.tk,s.m.nx⟩,s.nt,s.df⟩:TSt U).er D))
    (he:W9 e2=some jump) (hr:X4 L ⟨.ready,none,tm,nt,ps,a.code,b.code,d⟩ s.m k jump a3=some r):∃ o,Qgt W D P L args m o∧SfM m o.m∧∀ dd:Value→TMe U→Option β,o.to k dd=some r:=by
  obtain ⟨q,hq1,hq2⟩:=hs1
  unfold X4 at hr
  split at hr
  · rename_i m' hm'
    unfold Qlt at hm'
    cases hall:a3.1.all (K5 L) with
    | false=>rw [hall] at hm';cases hm'
    | true =>
      rw [hall,C7] at hm'
      have hsL:∀ tk,Qpt (Qg D tk s.m.es) L=some (.loop .ready none (QI (TTV.er D tk) tm) nt ps a.code b.code d):=fun tk=>by
        rw [hq1,X8 q m.es hq2];exact hm tk
      have sfR:SfM m (DZ s.m a3):=hs.sfm.trans ⟨⟨_,rfl⟩,⟨_,rfl⟩,Nat.le_add_right _ _⟩
      have sfm':SfM m m':=by
        cases jump with
        | none=>cases hm';exact sfR
        | some c =>
          cases hm'
          obtain ⟨p,hp⟩:=sfR.es
          exact ⟨⟨_::p,by dsimp only;rw [hp];rfl⟩,sfR.tk,sfR.nx⟩
      refine ⟨.val (Qpf jump.isNone) m',?_,sfm',fun dd=>hr⟩
      intro E st' dd ty pos af g x ars ats hP hW hx ha hmem
      have e_hp:st'.hp=Qg D m.tk m.es:=congrArg Mem.hp hmem
      have e_tk:st'.tk=XB m.tk:=congrArg Mem.tk hmem
      have e_nx:st'.nx=m.nx:=congrArg Mem.nx hmem
      have hal:=(ZZ ha).1
      have hars:ars.size=ps.size:=by
        rw [← hlen]
        have:ars.toList.length=args.length:=by rw [hal,Cm]
        simpa using this
      have hst:StW (⟨Z9 ps.toList (args.map (TAV.er D m.tk)) (QI (TTV.er D m.tk) tm),st'.hp,st'.tk,st'.nx,nt,[]⟩:St) ((⟨KE ps.toList args tm,m,nt,[]⟩:TSt U).er D) :=
        ⟨fun t y hy=>.inr ⟨y,by rw [← Q15 m.tk ps.toList args tm _ (fun _=>rfl)];exact hy,fun _ _ _ h=>h⟩,fun i B hB=>⟨B,by show Qpt st'.hp i=_;rw [e_hp];exact hB,fun _ _ _ h=>h⟩,fun i T hT=>by show Qpt st'.tk i=_;rw [e_tk];exact hT,e_nx.symm,rfl,rfl⟩
      have hst2:StW (⟨(s.er D).tm,(L,HB.loop .busy none (QI (TTV.er D s.m.tk) tm) nt ps a.code b.code d)::QA L (s.er D).hp,(s.er D).tk,(s.er D).nx,(s.er D).nt,(s.er D).df⟩:St) ((⟨s.tm,⟨.lp L .busy none tm nt ps a.code b.code d::s.m.es,s.m.tk,s.m.nx⟩,s.nt,s.df⟩:TSt U).er D) :=
        ⟨fun t y hy=>.inr ⟨y,hy,fun _ _ _ h=>h⟩,fun i B hB=>⟨B,by show Qpt ((L,_)::QA L _) i=_;rw [Jm];exact hB,fun _ _ _ h=>h⟩,fun i T h=>h,rfl,rfl,rfl⟩
      have y:=OpOK.yieldW (E:=E) (st:=st') (dd:=dd) (ty:=ty) (pos:=pos) (af:=af) (g:=g) (x:=x) (L:=L) (ars:=ars) (ats:=ats) (p0:=none) (tm0:=QI (TTV.er D m.tk) tm) (nt0:=nt) (ps0:=ps) (as0:=a.code) (bd0:=b.code) (D0:=d) (sa:=s.er D) (sb:=⟨[],((DZ ⟨.lp L .busy none tm nt ps a.code b.code d::s.m.es,s.m.tk,s.m.nx⟩ a3).er D).hp,((DZ ⟨.lp L .busy none tm nt ps a.code b.code d::s.m.es,s.m.tk,s.m.nx⟩ a3).er D).tk,((DZ ⟨.lp L .busy none tm nt ps a.code b.code d::s.m.es,s.m.tk,s.m.nx⟩ a3).er D).nx,nt,[]⟩) (e:=e2) (jump:=jump)
        hW hx ha (by rw [e_hp];exact hm m.tk) hars hps
        (by
          intro E' ro' n' Q' hP' hW' hv hro' hq
          exact ZS (To.weak hst) (hx1 E' ro' n' Q' ⟨hP'.trans hP,hW',hro'⟩ (by rw [← e_nx];exact hv) hq))
        (by rw [e_nx];exact hs.nx) (hsL s.m.tk)
        (by
          intro E' ro' n' Q' hP' hW' hv hro' hq
          exact ZS (To.weak hst2) (hx2 E' ro' n' Q' ⟨hP'.trans hP,hW',hro'⟩ hv hq))
        (by
          show Qpt (Qg D (a3.2.1++s.m.tk) (a3.1++(.lp L .busy none tm nt ps a.code b.code d::s.m.es))) L=_
          rw [X8 _ _ hall]
          show Qpt ((L,HB.loop .busy none (QI (TTV.er D (a3.2.1++s.m.tk)) tm) nt ps a.code b.code d)::_) L=_
          rw [Q1,Cc rfl])
        he
      have hN:∀ j,j ≠ L→Qpt (Qg D (a3.2.1++s.m.tk) (a3.1++(.lp L .busy none tm nt ps a.code b.code d::s.m.es))) j=Qpt (Qg D (a3.2.1++s.m.tk) (a3.1++s.m.es)) j:=fun j hj =>
        Qb9 (N:=fun j=>j=L) (fun j hj=>by
          show Qpt ((L,HB.loop .busy none (QI (TTV.er D (a3.2.1++s.m.tk)) tm) nt ps a.code b.code d)::_) j=_
          rw [Q1,C8 (fun e=>hj e.symm)]) a3.1 (fun e he j hj=>by rw [hj];exact Cg.1 hall e he) j hj
      have hLL:Qpt (Qg D (a3.2.1++s.m.tk) (a3.1++s.m.es)) L=some (.loop .ready none (QI (TTV.er D (a3.2.1++s.m.tk)) tm) nt ps a.code b.code d):=by
        rw [X8 _ _ hall];exact hsL _
      cases jump with
      | none =>
        cases hm'
        have post:=fun m' h1 h2 h3=>Q0r (m':=m') h1 h2 h3 y
        refine post (TMe.er D _) (fun i B hB=>⟨B,?_,fun _ _ _ h=>h⟩) (fun i T h=>h) Z
        have hB':Qpt (Qg D (a3.2.1++s.m.tk) (a3.1++s.m.es)) i=some B:=hB
        show Qpt ((L,HB.loop (if (none:Option Code).isNone then .ready else .done) none (QI (TTV.er D (a3.2.1++s.m.tk)) tm) nt ps a.code b.code d)::QA L (Qg D (a3.2.1++s.m.tk) (a3.1++(.lp L .busy none tm nt ps a.code b.code d::s.m.es)))) i=some B
        rw [Jm,Q1]
        by_cases c:L=i
        · subst c;rw [Cc rfl,← hB',hLL];rfl
        · rw [C8 c,hN i (fun e=>c e.symm)];exact hB'
      | some c =>
        cases hm'
        have post:=fun m' h1 h2 h3=>Q0r (m':=m') h1 h2 h3 y
        refine post (TMe.er D _) (fun i B hB=>⟨B,?_,fun _ _ _ h=>h⟩) (fun i T h=>h) Z
        have hB':Qpt ((L,HB.loop .done (some c) (QI (TTV.er D (a3.2.1++s.m.tk)) tm) nt ps a.code b.code d)::Qg D (a3.2.1++s.m.tk) (a3.1++s.m.es)) i=some B:=hB
        show Qpt ((L,HB.loop (if (some c:Option Code).isNone then .ready else .done) (some c) (QI (TTV.er D (a3.2.1++s.m.tk)) tm) nt ps a.code b.code d)::QA L (Qg D (a3.2.1++s.m.tk) (a3.1++(.lp L .busy none tm nt ps a.code b.code d::s.m.es)))) i=some B
        rw [Jm]
        rw [Q1] at hB' ⊢
        by_cases e:L=i
        · rw [Cc e] at hB' ⊢;exact hB'
        · rw [C8 e] at hB' ⊢;rw [hN i (fun e'=>e e'.symm)];exact hB'
  · cases hr
abbrev Q9v (st:TSt U) (ps:Array Nat) (a b:Tc U) (d:Nat):LpT U:=⟨.ready,none,st.tm,st.nt,ps,a.code,b.code,d⟩
theorem yld_ok {W:Wd} {P:Program} (hP0:P=Tryz.prog) {Y:Qqn U} {st:TSt U} {ps:Array Nat} {a b:Tc U} {L d nx:Nat} {xs:List (Ev U)} (iha:Qn0 D C K X W P a) (ihb:Qn0 D C K X W P b) (hY:YOK W D P Y st.m) (h1:SfM st.m (Q29 st L (Q9v st ps a b d) xs nx)) :
  YOK W D P (fun L' args m=>cond (Nat.beq L' L)
    (cond ((Q5g (Q29 st L (Q9v st ps a b d) xs nx).es m.es).all (K5 L)&&(Nat.beq args.length ps.size&&ps.toList.all fun t=>Nat.blt t st.nt))
     (some ⟨fun k _=>JJ D C K X a Y (some L) (R:=Qce U) (fun _=>none) (fun _ _=>none) ⟨KE ps.toList args st.tm,m,st.nt,[]⟩ (fun _=>none) fun e s=>match e with
      | .normal=>cond ((Q5g m.es s.m.es).all (K5 L)&&Q5l s.df []) (JJ D C K X b Y (some L) (Q9e ⟨.lp L .busy none st.tm st.nt ps a.code b.code d::s.m.es,s.m.tk,s.m.nx⟩) (fun _ _=>none) ⟨s.tm,⟨.lp L .busy none st.tm st.nt ps a.code b.code d::s.m.es,s.m.tk,s.m.nx⟩,s.nt,s.df⟩ (X4 L ⟨.ready,none,st.tm,st.nt,ps,a.code,b.code,d⟩ s.m k (some .ret)) fun e s2=>match e with
        | .normal=>Option.bind (Q9e ⟨.lp L .busy none st.tm st.nt ps a.code b.code d::s.m.es,s.m.tk,s.m.nx⟩ s2) (X4 L ⟨.ready,none,st.tm,st.nt,ps,a.code,b.code,d⟩ s.m k none)
        | .exit id=>Option.bind (Q9e ⟨.lp L .busy none st.tm st.nt ps a.code b.code d::s.m.es,s.m.tk,s.m.nx⟩ s2) (X4 L ⟨.ready,none,st.tm,st.nt,ps,a.code,b.code,d⟩ s.m k (some (.exit id)))
        | _=>none) none
      | _=>none⟩) none) (Y L' args m)) (Q29 st L (Q9v st ps a b d) xs nx):=by
 intro L' args m xo hm hy
 dsimp only at hy
 cases hb:Nat.beq L' L with
 | false=>rw [hb,Cd] at hy;exact hY L' args m xo (h1.trans hm) hy
 | true =>
  have eL:=C4 hb
  subst eL
  rw [hb,C7] at hy
  cases hc:((Q5g (Q29 st L' (Q9v st ps a b d) xs nx).es m.es).all (K5 L')&&(Nat.beq args.length ps.size&&ps.toList.all fun t=>Nat.blt t st.nt)) with
  | false=>rw [hc] at hy;cases hy
  | true =>
   rw [hc,C7] at hy
   cases hy
   obtain ⟨c1,c23⟩:=C0.1 hc
   obtain ⟨c2,c3⟩:=C0.1 c23
   obtain ⟨q,hq1,hq2⟩:=Qev hm.es c1
   have hmL:∀ tk,Qpt (Qg D tk m.es) L'=some (.loop .ready none (QI (TTV.er D tk) st.tm) st.nt ps a.code b.code d):=fun tk=>by
    rw [hq1,X8 q _ hq2]
    show Qpt ((L',HB.loop .ready none (QI (TTV.er D tk) st.tm) st.nt ps a.code b.code d)::_) L'=_
    rw [Q1,Cc rfl]
   intro β k dd r hr
   rcases iha (hY.mono (h1.trans hm)) hr with ⟨e,s,hs,hk,hx⟩ | ⟨a',hp,-⟩
   ·cases e with
    | normal =>
     dsimp only at hk
     cases hd:((Q5g m.es s.m.es).all (K5 L')&&Q5l s.df []) with
     | false=>rw [hd] at hk;cases hk
     | true =>
      rw [hd,C7] at hk
      obtain ⟨d1,d2⟩:=C0.1 hd
      have hs1:=Qev hs.es d1
      have hsd:=Gr d2
      have hYb:YOK W D P Y (⟨.lp L' .busy none st.tm st.nt ps a.code b.code d::s.m.es,s.m.tk,s.m.nx⟩:TMe U):=(hY.mono ((h1.trans hm).trans hs.sfm)).mono ⟨⟨[_],rfl⟩,⟨[],rfl⟩,Ck _⟩
      have fin:∀ (e2:Exit) (jump:Option Code) (s2:TSt U),W9 e2=some jump→Sfx ⟨s.tm,⟨.lp L' .busy none st.tm st.nt ps a.code b.code d::s.m.es,s.m.tk,s.m.nx⟩,s.nt,s.df⟩ s2→Option.bind (Q9e ⟨.lp L' .busy none st.tm st.nt ps a.code b.code d::s.m.es,s.m.tk,s.m.nx⟩ s2) (X4 L' ⟨.ready,none,st.tm,st.nt,ps,a.code,b.code,d⟩ s.m k jump)=some r →
        (∀ E ro n Q,Fit W P (some L') E ro→E.V0.nx≤s.m.nx→XQ E Q e2 (s2.er D)→XC E ro n Q b.code ((⟨s.tm,⟨.lp L' .busy none st.tm st.nt ps a.code b.code d::s.m.es,s.m.tk,s.m.nx⟩,s.nt,s.df⟩:TSt U).er D)) →
        ∃ o,Qgt W D P L' args m o∧SfM m o.m∧o.to k dd=some r:=by
       intro e2 jump s2 he hs2 hbind hx2
       obtain ⟨a3,ha3,hr3⟩:=YS hbind
       obtain ⟨em,ed⟩:=Qga ha3 hs2.sfm
       obtain ⟨o,o1,o2,o3⟩:=Q5v (D:=D) (W:=W) hP0 hmL (C4 c2) c3 hs hs1 hsd (fun E ro n Q f h0 hq=>hx E ro n Q f h0 hq) (fun E ro n Q f h0 hq=>hx2 E ro n Q f h0 (WM (To.weak (by rw [em];exact Q6z ed (hs2.nt.trans hs.nt))) hq)) he hr3
       exact ⟨o,o1,o2,o3 dd⟩
      rcases ihb hYb hk with ⟨e2,s2,hs2,hk2,hx2⟩ | ⟨a2,hp2,-,hx2⟩
      ·cases e2 with
       | normal=>exact fin .normal none s2 rfl hs2 hk2 hx2
       | exit id=>exact fin (.exit id) (some (.exit id)) s2 rfl hs2 hk2 hx2
       | ret=>cases hk2
       | goto l=>cases hk2
       | panic c=>cases hk2
       | outgrown=>cases hk2
      ·obtain ⟨o,o1,o2,o3⟩:=Q5v (D:=D) (W:=W) hP0 (e2:=.ret) (jump:=some .ret) hmL (C4 c2) c3 hs hs1 hsd (fun E ro n Q f h0 hq=>hx E ro n Q f h0 hq) (fun E ro n Q f h0 hq=>hx2 E ro n Q f h0 (fun s2 hs2 hr2=>by
        obtain ⟨em,ed⟩:=Qga hr2 hs2.sfm
        exact WM (To.weak (by rw [em];exact Q6z ed (hs2.nt.trans hs.nt))) hq) (fun v s2 _ h=>by cases h)) rfl hp2
       exact ⟨o,o1,o2,o3 dd⟩
    | exit id=>cases hk
    | ret=>cases hk
    | goto l=>cases hk
    | panic c=>cases hk
    | outgrown=>cases hk
   ·cases hp
theorem Qhx {m2:TMe U} {L:Nat} {e:Exit} (h:Qoh m2 L=some e):∃ F:LpT U,Uo m2.es L=some F∧F.s ≠ .busy∧W9 e=some F.p:=by
 unfold Qoh at h
 split at h
 ·rename_i F hF
  refine ⟨F,hF,?_⟩
  split at h
  ·rename_i h1 h2;cases h;rw [h1,h2];exact ⟨by simp,rfl⟩
  ·rename_i h1 h2;cases h;rw [h1,h2];exact ⟨by simp,rfl⟩
  ·rename_i id h1 h2;cases h;rw [h1,h2];exact ⟨by simp,rfl⟩
  ·cases h
 ·cases h
theorem Qlc {N:Nat→Prop} {L:Nat} (hNL:N L) {st:TSt U} {m1 m2:TMe U} (hsf:SfM m1 m2) (hbase:∀ tk j,¬ N j→Qpt (Qg D tk m1.es) j=Qpt (Qg D tk st.m.es) j) (hq:∀ e∈Qkt L m1 m2,∀ j,N j→K5 j e=true) (hst:∀ j,N j→st.m.es.all (K5 j)=true) :
  ∀ i B,Qpt (Qg D m2.tk (Qkt L m1 m2++st.m.es)) i=some B→¬ N i∧Qpt (Qg D m2.tk m2.es) i=some B:=by
 intro i B hB
 obtain ⟨q,hqe⟩:=hsf.es
 have eq:Qkt L m1 m2=q.filter fun e=>!(Q5j L e):=by
  unfold Qkt
  rw [hqe,YU]
 by_cases hn:N i
 ·rw [Q67 (L:=i) (by rw [List.all_append];exact C0.2 ⟨Cg.2 fun e he=>hq e he i hn,hst i hn⟩)] at hB
  cases hB
 ·refine ⟨hn,?_⟩
  rw [eq] at hB hq
  rw [hqe,Qdd hNL (hbase m2.tk) q hq i hn]
  exact hB
theorem Qek {st:TSt U} {L:Nat} {m1 m2:TMe U} {hp:List (Nat×HB)} (ha:YX (Wo m2.tk st.m.tk) st.tm=true) (hk:∃ p,m2.tk=p++st.m.tk) (hh:∀ i B,Qpt (Qg D m2.tk (Qkt L m1 m2++st.m.es)) i=some B→Qpt hp i=some B) :
  StW (⟨(st.er D).tm,hp,(m2.er D).tk,(m2.er D).nx,(st.er D).nt,(st.er D).df⟩:St) ((Qm4 st L m1 m2).er D) :=
 ⟨fun t y hy=>by
  have hy':Qpt (QI (TTV.er D m2.tk) st.tm) t=some y:=hy
  rw [QL] at hy'
  cases hz:Qpt st.tm t with
  | none=>rw [hz] at hy';cases hy'
  | some z =>
   rw [hz] at hy';cases hy'
   exact .inr ⟨z.er D st.m.tk,by show Qpt (QI _ st.tm) t=_;rw [QL,hz];rfl,fun V w v hv=>GR ha hk hz V w v hv⟩,fun i B hB=>⟨B,hh i B hB,fun _ _ _ h=>h⟩,fun i T h=>h,rfl,rfl,rfl⟩
theorem Q35 {st:TSt U} {L:Nat} {m1 m2:TMe U} (h:SfM st.m m2):Sfx st (Qm4 st L m1 m2):=⟨⟨[],rfl⟩,⟨_,rfl⟩,h.tk,h.nx,rfl,.inr rfl⟩
theorem range_ok {W:Wd} {P:Program} (hP0:P=Tryz.prog) (hX:WN W D P X) {g:Operand} {ps:Array Nat} {a b:Tc U} (iha:Qn0 D C K X W P a) (ihb:Qn0 D C K X W P b):Qn0 D C K X W P (.range g ps a b):=by
 intro Y rn R ret pan β st p k r hY h
 show Qkp D W P rn (.rangeFunc g ps a.code b.code) st ret pan p k r
 unfold JJ at h
 split at h
 ·rename_i gf caps L d xs nx hx hB
  split at h
  ·rename_i xo hxo
   have hBx:SfM st.m (Q29 st L (Q9v st ps a b d) xs nx):=by
    refine ⟨⟨(Q9v st ps a b d).ev L .ready none::xs,Z⟩,⟨[],Z⟩,?_⟩
    unfold Qor at hB
    split at hB
    ·cases hB;exact Nat.le_add_right _ _
    ·split at hB
     ·cases hB;exact Nat.le_add_right _ _
     ·cases hB
   have hY':=yld_ok (xs:=xs) (nx:=nx) hP0 iha ihb hY hBx
   obtain ⟨q,q1,q2,q3⟩:=hX _ _ _ _ _ hY' hxo _ _ _ h
   have q1':CallO W P gf (.one (.yld L)::Zu caps) ((Q29 st L (Q9v st ps a b d) xs nx).er D) (q.er D):=by
    have:CallO W P gf (List.map (TAV.er D st.m.tk) (.one (.raw (.yld L))::Q7d caps)) ((Q29 st L (Q9v st ps a b d) xs nx).er D) (q.er D):=q1
    rw [CF,Qby] at this
    exact this
   have lay:∀ m2:TMe U,SfM (Q29 st L (Q9v st ps a b d) xs nx) m2→Qhy rn st L (Q29 st L (Q9v st ps a b d) xs nx) m2=true →
     (∀ x,Q5a W P gf (.one (.yld L)::Zu caps) ((Q29 st L (Q9v st ps a b d) xs nx).er D) x (m2.er D)→∀ e,Qoh m2 L=some e→∀ E ro n Q,Fit W P rn E ro→E.V0.nx≤st.m.nx→XQ E Q e ((Qm4 st L (Q29 st L (Q9v st ps a b d) xs nx) m2).er D)→XC E ro n Q (.rangeFunc g ps a.code b.code) (st.er D)) ∧
     (∀ v,Q5b W P gf (.one (.yld L)::Zu caps) ((Q29 st L (Q9v st ps a b d) xs nx).er D) v (m2.er D)→∀ E ro n Q,Fit W P rn E ro→E.V0.nx≤st.m.nx→XQ E Q (.panic (ZT v)) ((Qm4 st L (Q29 st L (Q9v st ps a b d) xs nx) m2).er D)→XC E ro n Q (.rangeFunc g ps a.code b.code) (st.er D)):=by
    intro m2 hsf hok
    obtain ⟨o1,w2⟩:=C0.1 hok
    obtain ⟨o2,w3⟩:=C0.1 w2
    obtain ⟨o3,w4⟩:=C0.1 w3
    have htk:∃ p,m2.tk=p++st.m.tk:=(hBx.trans hsf).tk
    have hg:=Yv (D:=D) hx
    unfold Qor at hB
    split at hB
    ·
     cases hB
     obtain ⟨o4,o5⟩:=C0.1 w4
     have hN:=Qlc (D:=D) (N:=fun j=>j=st.m.nx+1∨j=st.m.nx) (L:=st.m.nx+1) (st:=st) (.inl rfl) hsf (fun tk j hj=>by
       show Qpt ((st.m.nx+1,HB.loop .ready none (QI (TTV.er D tk) st.tm) st.nt ps a.code b.code st.m.nx)::(st.m.nx,HB.obj (.deferred (some [])))::Qg D tk st.m.es) j=_
       rw [Q1,C8 (fun e=>hj (.inl e.symm)),Q1,C8 (fun e=>hj (.inr e.symm))])
      (fun e he j hj=>by
       rcases hj with rfl | rfl
       ·exact Cg.1 o2 e he
       ·exact Cg.1 o4 e he)
      (fun j hj=>by
       rcases hj with rfl | rfl
       ·exact o3
       ·exact o5)
     have hw:=Qek (D:=D) (st:=st) (L:=st.m.nx+1) (m1:=Q29 st (st.m.nx+1) (Q9v st ps a b st.m.nx) [.raw st.m.nx (.obj (.deferred (some [])))] (st.m.nx+2)) (m2:=m2) (hp:=QA (st.er D).nx (QA ((st.er D).nx+1) (m2.er D).hp)) o1 htk (fun i B hB=>by
      obtain ⟨h1,h2⟩:=hN i B hB
      show Qpt (QA st.m.nx (QA (st.m.nx+1) (Qg D m2.tk m2.es))) i=some B
      rw [JB,C8 (fun e=>h1 (.inr e)),JB,C8 (fun e=>h1 (.inl e))]
      exact h2)
     have hD:Qpt (m2.er D).hp (st.er D).nx=some (.obj (.deferred (some []))):=by
      obtain ⟨q,hq⟩:=hsf.es
      have hqa:q.all (K5 st.m.nx)=true:=by
       refine Cg.2 fun e he=>?_
       cases hl:Q5j (st.m.nx+1) e with
       | false =>
        refine Cg.1 o4 e ?_
        unfold Qkt
        rw [hq,YU]
        exact PJ.2 ⟨he,by rw [hl];rfl⟩
       | true =>
        cases e with
        | lp i s p tm nt ps a b d =>
         have ei:i=st.m.nx+1:=C4 hl
         show (!(Nat.beq i st.m.nx))=true
         cases hbq:Nat.beq i st.m.nx with
         | false=>rfl
         | true=>have:=C4 hbq;omega
        | box i T xs=>cases hl
        | raw i C=>cases hl
        | ls i xs=>cases hl
        | set i off xs=>cases hl
      show Qpt (Qg D m2.tk m2.es) st.m.nx=_
      rw [hq,X8 q _ hqa]
      show Qpt ((st.m.nx+1,HB.loop .ready none (QI (TTV.er D m2.tk) st.tm) st.nt ps a.code b.code st.m.nx)::(st.m.nx,HB.obj (.deferred (some [])))::Qg D m2.tk st.m.es) st.m.nx=_
      rw [Q1,C8 (by omega),Q1,Cc rfl]
     refine ⟨fun x hc e he E ro n Q f h0 hq=>?_,fun v hc E ro n Q f h0 hq=>?_⟩
     ·obtain ⟨F,hF,hs,hj⟩:=Qhx he
      exact rangeFunc_outW (W:=W) (st:=st.er D) hg hc (Kh hF) hD hs hj E ro n Q f.P f.W h0 f.rn (Gg hw hq)
     ·exact rangeFunc_outDW (W:=W) (st:=st.er D) hg hc hD E ro n Q f.P f.W h0 f.rn (Gg hw hq)
    ·
     rename_i L0
     split at hB
     ·rename_i F0 hF0
      cases hB
      have hN:=Qlc (D:=D) (N:=fun j=>j=st.m.nx) (L:=st.m.nx) (st:=st) rfl hsf (fun tk j hj=>by
        show Qpt ((st.m.nx,HB.loop .ready none (QI (TTV.er D tk) st.tm) st.nt ps a.code b.code F0.d)::Qg D tk st.m.es) j=_
        rw [Q1,C8 (fun e=>hj e.symm)])
       (fun e he j hj=>by rw [hj];exact Cg.1 o2 e he)
       (fun j hj=>by rw [hj];exact o3)
      have hw:=Qek (D:=D) (st:=st) (L:=st.m.nx) (m1:=Q29 st st.m.nx (Q9v st ps a b F0.d) [] (st.m.nx+1)) (m2:=m2) (hp:=QA (st.er D).nx (m2.er D).hp) o1 htk (fun i B hB=>by
       obtain ⟨h1,h2⟩:=hN i B hB
       show Qpt (QA st.m.nx (Qg D m2.tk m2.es)) i=some B
       rw [JB,C8 h1]
       exact h2)
      refine ⟨fun x hc e he E ro n Q f h0 hq=>?_,fun v hc E ro n Q f h0 hq=>?_⟩
      ·obtain ⟨F,hF,hs,hj⟩:=Qhx he
       exact rangeFunc_inW (W:=W) (st:=st.er D) hg (Kh hF0) hc (Kh hF) hs hj E ro n Q f.P f.W h0 f.rn (Gg hw hq)
      ·exact rangeFunc_inDW (W:=W) (st:=st.er D) hg (Kh hF0) hc E ro n Q f.P f.W h0 f.rn (Gg hw hq)
     ·cases hB
   cases q with
   | val x m2 =>
    dsimp only [OutT.to] at q3
    cases hok:Qhy rn st L (Q29 st L (Q9v st ps a b d) xs nx) m2 with
    | false=>rw [hok] at q3;cases q3
    | true =>
     rw [hok,C7] at q3
     have l1:=(lay m2 q2 hok).1 _ q1'
     split at q3
     ·rename_i he
      obtain ⟨y,y1,y2⟩:=YS q3
      exact .inr ⟨y,y2,⟨_,Q35 (hBx.trans q2),.inl y1⟩,fun E ro n Q f h0 hr hp=>l1 _ he E ro n Q f h0 (hr _ (Q35 (hBx.trans q2)) y1)⟩
     ·rename_i e hne he
      exact .inl ⟨e,_,Q35 (hBx.trans q2),q3,fun E ro n Q f h0 hq=>l1 _ he E ro n Q f h0 hq⟩
     ·cases q3
   | die v m2 =>
    dsimp only [OutT.to] at q3
    cases hok:Qhy rn st L (Q29 st L (Q9v st ps a b d) xs nx) m2 with
    | false=>rw [hok] at q3;cases q3
    | true =>
     rw [hok,C7] at q3
     obtain ⟨y,y1,y2⟩:=YS q3
     exact .inr ⟨y,y2,⟨_,Q35 (hBx.trans q2),.inr ⟨v,y1⟩⟩,fun E ro n Q f h0 hr hp=>(lay m2 q2 hok).2 v q1' E ro n Q f h0 (hp v _ (Q35 (hBx.trans q2)) y1)⟩
  ·cases h
 ·cases h
theorem Q6p {σ β:Type} {step:σ→Option (LO σ β)} {b:β}:∀ {k:Nat} {t:σ},Qa step k t=some b→∃ t',step t'=some (.done b)
 | 0,t,h=>by cases h
 | k+1,t,h=>by
  obtain ⟨m,o,hm,h1,h2⟩:=Qj2 h
  cases o with
  | next s' =>
   have:m=k:=by omega
   subst this
   exact Q6p h2
  | done b'=>cases h2;exact ⟨t,h1⟩
theorem Jt {W:Wd} {P:Program} (hP0:P=Tryz.prog) (hm:P.follows .mixedOrders=true) (hT:C.T.OK P) (hD:D.OK) (hK:Q0s W D P K) (hX:WN W D P X):∀ c:Tc U,Qn0 D C K X W P c
 | .skip=>by
  intro Y rn R ret pan β st p k r hY h
  exact .inl ⟨.normal,st,Sfx.refl st,h,fun E ro n Q f h0 hq=>QX hq⟩
 | .reg id ops=>by
  intro Y rn R ret pan β st p k r hY h
  have h1:Q1w D C K X Y rn ops (fun v s=>Option.bind (pan v s) p) ops.toList st (k .normal)=some r:=h
  have e:ops.toList.toArray=ops:=by simp
  have h2:=D6 hT hD hK hX (ops:=ops.toList.toArray) ops.toList hY (by rw [e];exact h1)
  have hc:(Tc.reg id ops:Tc U).code=.region id ops.toList.toArray false:=by rw [e];rfl
  rw [hc]
  rcases h2 with ⟨s,q1,q2,q3⟩ | ⟨v,s,q1,q2,q3⟩
  ·exact .inl ⟨.normal,s,q1,q2,fun E ro n Q f h0 hq=>Q0 (q3 E ro n Q f (Q3 hq))⟩
  ·obtain ⟨a,a1,a2⟩:=YS q2
   exact .inr ⟨a,a2,⟨s,q1,.inr ⟨v,a1⟩⟩,fun E ro n Q f h0 hr hp=>Q0 (q3 E ro n Q f (hp v s q1 a1))⟩
 | .draw id effs ops=>by
  intro Y rn R ret pan β st p k r hY h
  have h1:_root_.cond (Qbq ops effs) (_root_.cond (Q07 ops) (_root_.cond (Qdn ops effs).isEmpty (Qh9 D C K X Y ops effs st (fun v s=>Option.bind (pan v s) p) 0 ops.toList st) none) (K9 D C K X Y ops effs (fun v s=>Option.bind (pan v s) p) 0 ops.toList st [] [] (k .normal))) none=some r:=h
  cases hB:Qbq ops effs with
  | false=>rw [hB] at h1;cases h1
  | true =>
   rw [hB,C7] at h1
   cases hL:Q07 ops with
   | true =>
    rw [hL,C7] at h1
    cases hE:(Qdn ops effs).isEmpty with
    | false=>rw [hE] at h1;cases h1
    | true =>
     rw [hE,C7] at h1
     obtain ⟨v,q1,q2⟩:=die_ok (id:=id) hm hT hD hK hX hY hB hE h1
     obtain ⟨a,a1,a2⟩:=YS q1
     have hsf:Sfx st (Qcl st):=⟨⟨_,rfl⟩,⟨[],rfl⟩,⟨[],rfl⟩,Ck _,rfl,.inr rfl⟩
     exact .inr ⟨a,a2,⟨_,hsf,.inr ⟨v,a1⟩⟩,fun E ro n Q f h0 hr hp=>q2 E ro n Q f.P f.W (hp v _ hsf a1)⟩
   | false =>
   rw [hL,Cd] at h1
   rcases draw_ok (id:=id) hm hT hD hK hX hY hB h1 with ⟨s,q1,q2,q3⟩ | ⟨v,s,q1,q2,q3⟩
   ·exact .inl ⟨.normal,s,q1,q2,fun E ro n Q f h0 hq=>q3 E ro n Q f.P f.W hq⟩
   ·obtain ⟨a,a1,a2⟩:=YS q2
    exact .inr ⟨a,a2,⟨s,q1,.inr ⟨v,a1⟩⟩,fun E ro n Q f h0 hr hp=>q3 E ro n Q f.P f.W (hp v s q1 a1)⟩
 | .seq a b=>by
  intro Y rn R ret pan β st p k r hY h
  show Qkp D W P rn (.seq a.code b.code) st ret pan p k r
  rcases Jt hP0 hm hT hD hK hX a hY h with ⟨e,s,hs,hk,hx⟩ | ⟨y,hp,hex,hx⟩
  ·cases e with
   | normal =>
    rcases Jt hP0 hm hT hD hK hX b (hY.mono hs.sfm) hk with ⟨e2,s2,hs2,hk2,hx2⟩ | ⟨y,hp2,⟨s2,hs2,ha2⟩,hx2⟩
    ·exact .inl ⟨e2,s2,hs.trans hs2,hk2,fun E ro n Q f h0 hq=>Q4 (hx E ro n _ f h0 (Q5 (hx2 E ro n Q f (Ca h0 hs.nx) hq)))⟩
    ·exact .inr ⟨y,hp2,⟨s2,hs.trans hs2,ha2⟩,fun E ro n Q f h0 hr hpn=>Q4 (hx E ro n _ f h0 (Q5 (hx2 E ro n Q f (Ca h0 hs.nx) (fun s2 h2=>hr s2 (hs.trans h2)) (fun v s2 h2=>hpn v s2 (hs.trans h2)))))⟩
   | exit j=>exact .inl ⟨_,s,hs,hk,fun E ro n Q f h0 hq=>Q4 (hx E ro n _ f h0 hq)⟩
   | goto l=>exact .inl ⟨_,s,hs,hk,fun E ro n Q f h0 hq=>Q4 (hx E ro n _ f h0 hq)⟩
   | ret=>exact .inl ⟨_,s,hs,hk,fun E ro n Q f h0 hq=>Q4 (hx E ro n _ f h0 hq)⟩
   | panic c=>exact .inl ⟨_,s,hs,hk,fun E ro n Q f h0 hq=>Q4 (hx E ro n _ f h0 hq)⟩
   | outgrown=>exact .inl ⟨_,s,hs,hk,fun E ro n Q f h0 hq=>Q4 (hx E ro n _ f h0 hq)⟩
  ·exact .inr ⟨y,hp,hex,fun E ro n Q f h0 hr hpn=>Q4 (hx E ro n _ f h0 (fun s2 h2 e=>hr s2 h2 e) (fun v s2 h2 e=>hpn v s2 h2 e))⟩
 | .cond c a b=>by
  intro Y rn R ret pan β st p k r hY h
  show Qkp D W P rn (.cond c a.code b.code) st ret pan p k r
  unfold JJ at h
  split at h
  ·rename_i v hv
   have ec:=Yv (D:=D) hv
   cases hvv:v with
   | true =>
    rw [hvv] at h ec
    rcases Jt hP0 hm hT hD hK hX a hY h with ⟨e,s,hs,hk,hx⟩ | ⟨y,hp,hex,hx⟩
    ·exact .inl ⟨e,s,hs,hk,fun E ro n Q f h0 hq=>Qy ec (fun _=>hx E ro n Q f h0 hq) (fun e=>by cases e)⟩
    ·exact .inr ⟨y,hp,hex,fun E ro n Q f h0 hr hpn=>Qy ec (fun _=>hx E ro n Q f h0 hr hpn) (fun e=>by cases e)⟩
   | false =>
    rw [hvv] at h ec
    rcases Jt hP0 hm hT hD hK hX b hY h with ⟨e,s,hs,hk,hx⟩ | ⟨y,hp,hex,hx⟩
    ·exact .inl ⟨e,s,hs,hk,fun E ro n Q f h0 hq=>Qy ec (fun e=>by cases e) (fun _=>hx E ro n Q f h0 hq)⟩
    ·exact .inr ⟨y,hp,hex,fun E ro n Q f h0 hr hpn=>Qy ec (fun e=>by cases e) (fun _=>hx E ro n Q f h0 hr hpn)⟩
  ·cases h
 | .block id b=>by
  intro Y rn R ret pan β st p k r hY h
  show Qkp D W P rn (.block id b.code) st ret pan p k r
  rcases Jt hP0 hm hT hD hK hX b hY h with ⟨e,s,hs,hk,hx⟩ | ⟨y,hp,hex,hx⟩
  ·cases e with
   | normal=>exact .inl ⟨.normal,s,hs,hk,fun E ro n Q f h0 hq=>QF (hx E ro n _ f h0 (Jh hq))⟩
   | exit j =>
    dsimp only at hk
    cases hb:Nat.beq j id with
    | true =>
     rw [hb] at hk
     have e:=C4 hb
     subst e
     exact .inl ⟨.normal,s,hs,hk,fun E ro n Q f h0 hq=>QF (hx E ro n _ f h0 (Z4 hq))⟩
    | false =>
     rw [hb] at hk
     exact .inl ⟨.exit j,s,hs,hk,fun E ro n Q f h0 hq=>QF (hx E ro n _ f h0 (XQ.blockE (Kb hb) hq))⟩
   | goto l=>exact .inl ⟨_,s,hs,hk,fun E ro n Q f h0 hq=>QF (hx E ro n _ f h0 hq)⟩
   | ret=>exact .inl ⟨_,s,hs,hk,fun E ro n Q f h0 hq=>QF (hx E ro n _ f h0 hq)⟩
   | panic c=>exact .inl ⟨_,s,hs,hk,fun E ro n Q f h0 hq=>QF (hx E ro n _ f h0 hq)⟩
   | outgrown=>exact .inl ⟨_,s,hs,hk,fun E ro n Q f h0 hq=>QF (hx E ro n _ f h0 hq)⟩
  ·exact .inr ⟨y,hp,hex,fun E ro n Q f h0 hr hpn=>QF (hx E ro n _ f h0 (fun s2 h2 e=>hr s2 h2 e) (fun v s2 h2 e=>hpn v s2 h2 e))⟩
 | .bloop id h ho b=>by
  intro Y rn R ret pan β st p k r hY hx
  show Qkp D W P rn (.block id (.loop b.code)) st ret pan p k r
  unfold JJ at hx
  split at hx
  ·cases hx
  ·rename_i L s0 hl
   have hto:=fun E=>(Ya (E:=E) hD hl).1
   obtain ⟨-,hsf,hw⟩:=Ya (E:=⟨P,default,fun _=>False,⟨0,fun _=>0,fun _ _=>undef,fun _=>0,fun _ _=>False⟩⟩) hD hl
   split at hx
   ·rename_i t0 Lo ht0 hLo
    have hwo:=Q08 hLo
    obtain ⟨o,hloop,hcont⟩:=YS hx
    refine .inl ⟨.normal,lab Lo s0 o,hsf.trans (Y6 s0 o),hcont,fun E ro n Q f h0 hq=>?_⟩
    have h00:E.V0.nx≤s0.m.nx:=Ca h0 hsf.nx
    refine ZS (hto E) (QF (Qc9 _ (fun t=>(lab L s0 t).er D) t0 o (W5 hD ⟨Sfx.refl _,hw,ht0⟩ h00) hloop (fun t m lo hstep hsays=>?_)))
    rcases Jt hP0 hm hT hD hK hX b (hY.mono (hsf.trans (Y6 s0 t)).sfm) hstep with ⟨e,s,hs,hk,hb⟩ | ⟨y,hp,-⟩
    ·refine hb E ro n _ f h00 ?_
     have hs0:Sfx s0 s:=(Y6 s0 t).trans hs
     cases e with
     | normal =>
      obtain ⟨t',hp,rfl⟩:=ZU hk
      exact Q6q hD hw h00 hs0 hp hsays
     | exit j =>
      dsimp only at hk
      cases hbq:Nat.beq j id with
      | false=>rw [hbq] at hk;cases hk
      | true =>
       rw [hbq,C7] at hk
       have e:=C4 hbq
       subst e
       obtain ⟨o',hp,rfl⟩:=ZU hk
       have eo:o'=o:=hsays
       subst eo
       exact Qbn (WM (W5 hD ⟨hs0,hwo,hp⟩ h00) hq)
     | goto l=>cases hk
     | ret=>cases hk
     | panic c=>cases hk
     | outgrown=>cases hk
    ·cases hp
   ·cases hx
 | .bloopE id h ho b=>by
  intro Y rn R ret pan β st p k r hY hx
  show Qkp D W P rn (.block id (.loop b.code)) st ret pan p k r
  unfold JJ at hx
  split at hx
  ·cases hx
  ·rename_i L s0 hl
   have hto:=fun E=>(Ya (E:=E) hD hl).1
   obtain ⟨-,hsf,hw⟩:=Ya (E:=⟨P,default,fun _=>False,⟨0,fun _=>0,fun _ _=>undef,fun _=>0,fun _ _=>False⟩⟩) hD hl
   split at hx
   ·rename_i t0 Lo ht0 hLo
    have hwo:=Q08 hLo
    obtain ⟨o,hloop,hcont⟩:=YS hx
    have key:∀ E ro n Q,Fit W P rn E ro→E.V0.nx≤st.m.nx→(∀ o',o=.inl o'→XQ E Q .normal ((lab Lo s0 o').er D))→(∀ y,o=.inr y→(∀ s,Sfx st s→ret s=some y→XQ E Q .ret (s.er D))∧∀ v s,Sfx st s→pan v s=some y→XQ E Q (.panic (ZT v)) (s.er D))→XC E ro n Q (.block id (.loop b.code)) (st.er D):=by
     intro E ro n Q f h0 hl1 hl2
     have h00:E.V0.nx≤s0.m.nx:=Ca h0 hsf.nx
     refine ZS (hto E) (QF (Qc9 _ (fun t=>(lab L s0 t).er D) t0 o (W5 hD ⟨Sfx.refl _,hw,ht0⟩ h00) hloop (fun t m lo hstep hsays=>?_)))
     rcases Jt hP0 hm hT hD hK hX b (hY.mono (hsf.trans (Y6 s0 t)).sfm) hstep with ⟨e,s,hs,hk,hb⟩ | ⟨y,hp,-,hb⟩
     ·refine hb E ro n _ f h00 ?_
      have hs0:Sfx s0 s:=(Y6 s0 t).trans hs
      cases e with
      | normal =>
       obtain ⟨t',hp,rfl⟩:=ZU hk
       exact Q6q hD hw h00 hs0 hp hsays
      | exit j =>
       dsimp only at hk
       cases hbq:Nat.beq j id with
       | false=>rw [hbq] at hk;cases hk
       | true =>
        rw [hbq,C7] at hk
        have e:=C4 hbq
        subst e
        obtain ⟨o',hp,rfl⟩:=ZU hk
        have eo:Sum.inl o'=o:=hsays
        exact Qbn (WM (W5 hD ⟨hs0,hwo,hp⟩ h00) (hl1 o' eo.symm))
      | goto l=>cases hk
      | ret=>cases hk
      | panic c=>cases hk
      | outgrown=>cases hk
     ·cases hp
      have eo:Sum.inr y=o:=hsays
      obtain ⟨g1,Qq8⟩:=hl2 y eo.symm
      refine hb E ro n _ f h00 (fun s hs hr=>Q72 (fun e=>by cases e) (fun e=>by cases e) (g1 s (hsf.trans ((Y6 s0 t).trans hs)) hr)) (fun v s hs hr=>Q72 (fun e=>by cases e) (fun e=>by cases e) (Qq8 v s (hsf.trans ((Y6 s0 t).trans hs)) hr))
    cases o with
    | inl o'=>exact .inl ⟨.normal,lab Lo s0 o',hsf.trans (Y6 s0 o'),hcont,fun E ro n Q f h0 hq=>key E ro n Q f h0 (fun o2 e=>by cases e;exact hq) (fun y e=>by cases e)⟩
    | inr y =>
     obtain ⟨t,hst⟩:=Q6p hloop
     have hex:∃ s,Sfx st s∧(ret s=some y∨∃ v,pan v s=some y):=by
      rcases Jt hP0 hm hT hD hK hX b (hY.mono (hsf.trans (Y6 s0 t)).sfm) hst with ⟨e,s,hs,hk,hb⟩ | ⟨y',hp,⟨s,hs,ha⟩,-⟩
      ·cases e with
       | normal=>obtain ⟨t',-,e⟩:=ZU hk;cases e
       | exit j =>
        dsimp only at hk
        cases hbq:Nat.beq j id with
        | false=>rw [hbq] at hk;cases hk
        | true=>rw [hbq,C7] at hk;obtain ⟨t',-,e⟩:=ZU hk;cases e
       | goto l=>cases hk
       | ret=>cases hk
       | panic c=>cases hk
       | outgrown=>cases hk
      ·cases hp;exact ⟨s,hsf.trans ((Y6 s0 t).trans hs),ha⟩
     exact .inr ⟨y,hcont,hex,fun E ro n Q f h0 hr hp=>key E ro n Q f h0 (fun o2 e=>by cases e) (fun y2 e=>by cases e;exact ⟨hr,hp⟩)⟩
   ·cases hx
 | .join h b=>by
  intro Y rn R ret pan β st p k r hY hx
  show Qkp D W P rn b.code st ret pan p k r
  unfold JJ at hx
  split at hx
  ·cases hx
  ·rename_i L s0 hl
   have hto:=fun E=>(Ya (E:=E) hD hl).1
   obtain ⟨-,hsf,hw⟩:=Ya (E:=⟨P,default,fun _=>False,⟨0,fun _=>0,fun _ _=>undef,fun _=>0,fun _ _=>False⟩⟩) hD hl
   obtain ⟨t0,hb,hcont⟩:=YS hx
   refine .inl ⟨.normal,lab L s0 t0,hsf.trans (Y6 s0 t0),hcont,fun E ro n Q f h0 hq=>ZS (hto E) ?_⟩
   have h00:E.V0.nx≤s0.m.nx:=Ca h0 hsf.nx
   rcases Jt hP0 hm hT hD hK hX b (hY.mono hsf.sfm) hb with ⟨e,s,hs,hk,hb2⟩ | ⟨y,hp,-⟩
   ·refine hb2 E ro n Q f h00 ?_
    cases e with
    | normal =>
     obtain ⟨t',hp,e⟩:=ZU hk
     have e':t'=t0:=e
     subst e'
     exact WM (W5 hD ⟨hs,hw,hp⟩ h00) hq
    | exit j=>cases hk
    | goto l=>cases hk
    | ret=>cases hk
    | panic c=>cases hk
    | outgrown=>cases hk
   ·cases hp
 | .joinE h b=>by
  intro Y rn R ret pan β st p k r hY hx
  show Qkp D W P rn b.code st ret pan p k r
  unfold JJ at hx
  split at hx
  ·cases hx
  ·rename_i L s0 hl
   have hto:=fun E=>(Ya (E:=E) hD hl).1
   obtain ⟨-,hsf,hw⟩:=Ya (E:=⟨P,default,fun _=>False,⟨0,fun _=>0,fun _ _=>undef,fun _=>0,fun _ _=>False⟩⟩) hD hl
   obtain ⟨t0,hb,hcont⟩:=YS hx
   rcases Jt hP0 hm hT hD hK hX b (hY.mono hsf.sfm) hb with ⟨e,s,hs,hk,hb2⟩ | ⟨y,hp,⟨s1,hs1,ha1⟩,hb2⟩
   ·cases e with
    | normal =>
     obtain ⟨t',hp,rfl⟩:=ZU hk
     refine .inl ⟨.normal,lab L s0 t',hsf.trans (Y6 s0 t'),hcont,fun E ro n Q f h0 hq=>ZS (hto E) ?_⟩
     have h00:E.V0.nx≤s0.m.nx:=Ca h0 hsf.nx
     exact hb2 E ro n Q f h00 (WM (W5 hD ⟨hs,hw,hp⟩ h00) hq)
    | exit j=>cases hk
    | goto l=>cases hk
    | ret=>cases hk
    | panic c=>cases hk
    | outgrown=>cases hk
   ·cases hp
    exact .inr ⟨y,hcont,⟨s1,hsf.trans hs1,ha1⟩,fun E ro n Q f h0 hr hp=>ZS (hto E) (hb2 E ro n Q f (Ca h0 hsf.nx) (fun s hs e=>hr s (hsf.trans hs) e) (fun v s hs e=>hp v s (hsf.trans hs) e))⟩
 | .exit id=>by
  intro Y rn R ret pan β st p k r hY h
  exact .inl ⟨.exit id,st,Sfx.refl st,h,fun E ro n Q f h0 hq=>Gh hq⟩
 | .scope b=>by
  intro Y rn R ret pan β st p k r hY h
  show Qkp D W P rn (.scope b.code) st ret pan p k r
  have scp:∀ {E:Env} {ro:Option Nat} {n:Nat} {Q:Exit→Act→World→Prop} {c:Code} {x:St},XC E ro n (fun e a w=>match e with
    | .goto _=>False
    | e=>Q e a w) c x→XC E ro n Q (.scope c) x:=fun h V a w hr=>wpV_scope (h V a w hr)
  rcases Jt hP0 hm hT hD hK hX b hY h with ⟨e,s,hs,hk,hx⟩ | ⟨y,hp,hex,hx⟩
  ·cases e with
   | normal=>exact .inl ⟨_,s,hs,hk,fun E ro n Q f h0 hq=>scp (hx E ro n _ f h0 hq)⟩
   | exit j=>exact .inl ⟨_,s,hs,hk,fun E ro n Q f h0 hq=>scp (hx E ro n _ f h0 hq)⟩
   | goto l=>cases hk
   | ret=>exact .inl ⟨_,s,hs,hk,fun E ro n Q f h0 hq=>scp (hx E ro n _ f h0 hq)⟩
   | panic c=>exact .inl ⟨_,s,hs,hk,fun E ro n Q f h0 hq=>scp (hx E ro n _ f h0 hq)⟩
   | outgrown=>exact .inl ⟨_,s,hs,hk,fun E ro n Q f h0 hq=>scp (hx E ro n _ f h0 hq)⟩
  ·exact .inr ⟨y,hp,hex,fun E ro n Q f h0 hr hpn=>scp (hx E ro n _ f h0 (fun s2 h2 e=>hr s2 h2 e) (fun v s2 h2 e=>hpn v s2 h2 e))⟩
 | .range g ps a b=>range_ok hP0 hX (Jt hP0 hm hT hD hK hX a) (Jt hP0 hm hT hD hK hX b)
 | .ret=>by
  intro Y rn R ret pan β st p k r hY h
  obtain ⟨v,h1,h2⟩:=YS (show Option.bind (ret st) p=some r from h)
  exact .inr ⟨v,h2,⟨st,Sfx.refl st,.inl h1⟩,fun E ro n Q f h0 hr hp=>QT (hr st (Sfx.refl st) h1)⟩
end
end
noncomputable section
open Go.RowKit
theorem Qcy:Tryz.prog.follows .mixedOrders=true:=by kernel_rfl
section
variable {U:Univ}
variable (U) in
structure Hint where
 sl:List (List HL×HK U)
 so:List (List HL×HK U)
 esc:Bool
variable (U) in
structure Hints where
 h:List (Nat×Hint U)
 e:List (Nat×List Nat)
def effsAt (e:List (Nat×List Nat)) (n:Nat):List Nat:=match Qpt e n with
 | some l=>l
 | none=>[]
def dstsO (ops:List Oper):List Nat:=ops.filterMap (·.dst)
def U5:Code→List Nat
 | .region _ ops _=>dstsO ops.toList
 | .seq a b=>U5 a++U5 b
 | .cond _ a b=>U5 a++U5 b
 | .block _ b=>U5 b
 | .loop b=>U5 b
 | .scope b=>U5 b
 | .rangeFunc _ _ a b=>U5 a++U5 b
 | _=>[]
def Qjt:List Nat→List Nat
 | []=>[]
 | a::r=>cond (r.contains a) (Qjt r) (a::Qjt r)
def Q9b:List HL→List Nat
 | []=>[]
 | .reg r::ls=>r::Q9b ls
 | .at _ _::ls=>Q9b ls
 | .fat _ _ _::ls=>Q9b ls
def W6 (sl:List (List HL×HK U)) (c:Code):HLab U:=⟨sl,Qjt ((U5 c).filter fun r=>!(sl.flatMap fun p=>Q9b p.1).contains r)⟩
def Q9x (h:Option (Hint U)) (c:Code) (t:Tc U):Tc U:=match h with
 | none=>t
 | some h=>cond h.esc (.joinE (W6 h.sl c) t) (.join (W6 h.sl c) t)
def Ka (H:Hints U):Nat→Code→Option (Nat×Tc U)
 | n,.skip=>some (n,.skip)
 | n,.region id ops false=>some (n+1,Q9x (Qpt H.h n) (.region id ops false) (.reg id ops))
 | n,.region id ops true=>some (n+1,Q9x (Qpt H.h n) (.region id ops true) (.draw id (effsAt H.e n) ops))
 | n,.seq a b=>match Ka H n a with
  | some (n1,ta)=>match Ka H n1 b with
   | some (n2,tb)=>some (n2,.seq ta tb)
   | none=>none
  | none=>none
 | n,.cond c a b=>match Ka H (n+1) a with
  | some (n1,ta)=>match Ka H n1 b with
   | some (n2,tb)=>some (n2,Q9x (Qpt H.h n) (.cond c a b) (.cond c ta tb))
   | none=>none
  | none=>none
 | n,.block id (.loop b)=>match Qpt H.h n,Ka H (n+1) b with
  | some h,some (n1,tb)=>some (n1,cond h.esc (.bloopE id (W6 h.sl b) (W6 h.so b) tb) (.bloop id (W6 h.sl b) (W6 h.so b) tb))
  | _,_=>none
 | n,.block id b=>match Ka H (n+1) b with
  | some (n1,tb)=>some (n1,Q9x (Qpt H.h n) (.block id b) (.block id tb))
  | none=>none
 | n,.exit id=>some (n,.exit id)
 | n,.scope b=>match Ka H n b with
  | some (n1,tb)=>some (n1,.scope tb)
  | none=>none
 | n,.ret=>some (n,.ret)
 | n,.rangeFunc g ps a b=>match Ka H n a with
  | some (n1,ta)=>match Ka H n1 b with
   | some (n2,tb)=>some (n2,.range g ps ta tb)
   | none=>none
  | none=>none
 | _,_=>none
theorem GZ (h:Option (Hint U)) (c:Code) (t:Tc U):(Q9x h c t).code=t.code:=by
 cases h with
 | none=>rfl
 | some h =>
  show (_root_.cond h.esc (Tc.joinE (W6 h.sl c) t) (Tc.join (W6 h.sl c) t)).code=_
  cases h.esc <;> rfl
theorem JP {H:Hints U}:∀ (c:Code) {n n':Nat} {tc:Tc U},Ka H n c=some (n',tc)→tc.code=c
 | .skip,n,n',tc,h=>by cases h;rfl
 | .region id ops false,n,n',tc,h=>by cases h;exact GZ _ _ _
 | .region id ops true,n,n',tc,h=>by cases h;exact GZ _ _ _
 | .seq a b,n,n',tc,h=>by
  unfold Ka at h
  split at h
  ·rename_i n1 ta ha
   split at h
   ·rename_i n2 tb hb;cases h
    show Code.seq ta.code tb.code=_
    rw [JP a ha,JP b hb]
   ·cases h
  ·cases h
 | .cond c a b,n,n',tc,h=>by
  unfold Ka at h
  split at h
  ·rename_i n1 ta ha
   split at h
   ·rename_i n2 tb hb;cases h
    rw [GZ]
    show Code.cond c ta.code tb.code=_
    rw [JP a ha,JP b hb]
   ·cases h
  ·cases h
 | .block id b,n,n',tc,h=>by
  unfold Ka at h
  split at h
  all_goals first | (cases ‹_=Code.block id b›;done) | skip
  all_goals first | (rename_i heq;cases heq;done) | skip
  ·rename_i heq
   cases heq
   split at h
   ·rename_i hh n1 tb h1 h2;cases h
    cases hh.esc <;> (show Code.block _ (.loop tb.code)=_;rw [JP _ h2])
   ·cases h
  ·rename_i heq
   cases heq
   split at h
   ·rename_i n1 tb hb;cases h
    rw [GZ]
    show Code.block _ tb.code=_
    rw [JP _ hb]
   ·cases h
  all_goals cases h
 | .exit id,n,n',tc,h=>by cases h;rfl
 | .scope b,n,n',tc,h=>by
  unfold Ka at h
  split at h
  ·rename_i n1 tb hb;cases h
   show Code.scope tb.code=_
   rw [JP b hb]
  ·cases h
 | .ret,n,n',tc,h=>by cases h;rfl
 | .loop b,n,n',tc,h=>by cases h
 | .rangeFunc g ps a b,n,n',tc,h=>by
  unfold Ka at h
  split at h
  ·rename_i n1 ta ha
   split at h
   ·rename_i n2 tb hb;cases h
    show Code.rangeFunc g ps ta.code tb.code=_
    rw [JP a ha,JP b hb]
   ·cases h
  ·cases h
 | .label _,n,n',tc,h=>by cases h
 | .goto _,n,n',tc,h=>by cases h
 | .refuse _,n,n',tc,h=>by cases h
end
section
variable {U:Univ} (D:Codec U) (C:TCfg U) (K:FuncId→List (TAV U)→Option (KR U)) (X:Qqo U)
def JD:Nat→List (TAV U)→List (Nat×TTV U)
 | _,[]=>[]
 | i,x::xs=>(i,.v x)::JD (i+1) xs
def Qaf (s:TSt U):ResultVar→Option (TAV U)
 | .tmp t=>match Qpt s.tm t with
  | some (.v x)=>some x
  | _=>none
 | .cell ad ty=>match Qpt C.T.agg ty,Qpt s.tm ad with
  | some (ag,n),some (.v (.one (.ptr i off)))=>match ag with
   | false=>match WY D s.m.es i off 1 with
    | some [.one y]=>some (.one y)
    | _=>none
   | true=>match WY D s.m.es i off n with
    | some xs=>some (.agg xs)
    | none=>none
  | _,_=>none
def JU:AK U→Bool
 | .app _ _ _=>false
 | .ptr _ _=>false
 | .any=>false
 | _=>true
def Qax:AK U→TAV U→Bool
 | .stc _,x=>Qdg x
 | _,_=>true
def Q79 (s:TSt U) (k:AK U) (v:ResultVar):Option k.Ty:=match Qaf D C s v with
 | some x=>cond (JU k&&Qax k x) (Qds D s.m.tk k x) none
 | none=>none
def Q9h (s:TSt U):(rk:List (AK U))→List ResultVar→Option (tup rk)
 | [],[]=>some ()
 | [k],[v]=>Q79 D C s k v
 | k::k2::r,v::vs=>match Q79 D C s k v with
  | some a=>match Q9h s (k2::r) vs with
   | some b=>some (a,b)
   | none=>none
  | none=>none
 | _,_=>none
def Gd:(rk:List (AK U))→tup rk→List (TAV U)
 | [],_=>[]
 | [k],v=>[GI k v 0]
 | k::k2::r,v=>GI k v.1 0::Gd (k2::r) v.2
def QN (rk:List (AK U)) (v:tup rk):List AV:=(Gd rk v).map (TAV.er D [])
variable {D C K X}
theorem Q77 (hD:D.OK) {k:AK U} (hk:JU k=true) (v:k.Ty) (tk tk':List (Nat×TTok U)):(GI k v 0).er D tk=(GI k v 0).er D tk':=by
 cases k with
 | app i e t=>cases hk
 | ptr i o=>cases hk
 | any=>cases hk
 | stc t =>
  show AV.agg (Je D tk [It.grp t v])=AV.agg (Je D tk' [It.grp t v])
  have e:∀ (tk:List (Nat×TTok U)) (x:U.R t),Je D tk [It.grp t x]=((U.E t).enc x).map .d:=fun tk x=>by
   unfold Je
   rw [KO,Q74 hD]
  rw [e tk v,e tk' v]
 | int k=>rfl
 | bool=>rfl
 | str=>rfl
 | sl t=>rfl
theorem dec_data (hD:D.OK) {tk tk':List (Nat×TTok U)} {k:AK U} {x:TAV U} {v:k.Ty} (hk:JU k=true) (hs:Qax k x=true) (h:Qds D tk k x=some v) {V:Vu} {w:World} {u:Value} (hr:(x.er D tk).rel V w u):((GI k v 0).er D tk').rel (Yn V.S) w u:=by
 have h1:=Qgf (tk':=tk') (ver:=0) hD h (fun p hp=>by cases k <;> first | (cases hp;done) | (cases hk)) (by
  rintro ⟨t,y,rfl,rfl⟩
  cases hs) hr
 cases k with
 | app i e t=>cases hk
 | ptr i o=>cases hk
 | any=>cases hk
 | stc t =>
  have e:∀ (x:U.R t),Je D tk' [It.grp t x]=((U.E t).enc x).map .d:=fun x=>by
   unfold Je
   rw [KO,Q74 hD]
  have h2:(AV.agg (Je D tk' [It.grp t v])).rel V w u:=h1
  show (AV.agg (Je D tk' [It.grp t v])).rel (Yn V.S) w u
  rw [e v] at h2 ⊢
  obtain ⟨vs,q1,q2⟩:=h2
  refine ⟨vs,q1,q2.1,fun i y hy=>?_⟩
  obtain ⟨z,hz,hzr⟩:=q2.2 i y hy
  refine ⟨z,hz,?_⟩
  rw [Cl] at hy
  cases hc:((U.E t).enc v)[i]? with
  | none=>rw [hc] at hy;cases hy
  | some c=>rw [hc] at hy;cases hy;exact hzr
 | int k=>exact h1
 | bool=>exact h1
 | str=>exact h1
 | sl t=>exact h1
theorem Q38 {P:Program} (hT:C.T.OK P) (hD:D.OK) {s:TSt U} {v:ResultVar} {x:TAV U} (h:Qaf D C s v=some x) {rs:List ResultVar} {xs:List AV} (k:RAs P (s.er D) rs xs):RAs P (s.er D) (v::rs) (x.er D s.m.tk::xs):=by
 cases v with
 | tmp t =>
  have h:(match Qpt s.tm t with
   | some (.v x)=>some x
   | _=>none)=some x:=h
  split at h
  ·rename_i y hy;cases h
   exact Jj (by show Qpt (QI _ s.tm) t=_;rw [QL,hy];rfl) k
  ·cases h
 | cell ad ty =>
  unfold Qaf at h
  dsimp only at h
  split at h
  ·rename_i ag n i off hag had
   have ea:Qpt (s.er D).tm ad=some (.v (.one (.ptr i off))):=by
    show Qpt (QI (TTV.er D s.m.tk) s.tm) ad=_
    rw [QL,had];rfl
   split at h
   ·split at h
    ·rename_i y hy;cases h
     obtain ⟨T,ys,h1,h2,h3⟩:=Yg hD (tk:=s.m.tk) hy
     exact Ws (hT.agg.get hag) ea h1 (UQ h3) k
    ·cases h
   ·split at h
    ·rename_i xs' hy;cases h
     obtain ⟨T,ys,h1,h2,h3⟩:=Yg hD (tk:=s.m.tk) hy
     refine Zr (hT.agg.get hag) ea h1 h3 ?_ k
     rw [← h3,CI,Cu];omega
    ·cases h
  ·cases h
theorem Qgg {P:Program} (hT:C.T.OK P) (hD:D.OK) {s:TSt U}:∀ {rk:List (AK U)} {vs:List ResultVar} {r:tup rk},Q9h D C s rk vs=some r→∃ xs,RAs P (s.er D) vs xs∧xs.length=(QN D rk r).length∧∀ (i:Nat) (y:AV),(QN D rk r)[i]?=some y→∃ x,xs[i]?=some x∧∀ V w v,x.rel V w v→y.rel (Yn V.S) w v:=by
 have one:∀ {k:AK U} {v:ResultVar} {a:k.Ty},Q79 D C s k v=some a→∃ x,Qaf D C s v=some x∧∀ V w u,(x.er D s.m.tk).rel V w u→((GI k a 0).er D []).rel (Yn V.S) w u:=by
  intro k v a h
  unfold Q79 at h
  split at h
  ·rename_i x hx
   cases hc:(JU k&&Qax k x) with
   | false=>rw [hc] at h;cases h
   | true =>
    rw [hc,C7] at h
    obtain ⟨b1,b2⟩:=C0.1 hc
    exact ⟨x,hx,fun V w u hr=>dec_data hD b1 b2 h hr⟩
  ·cases h
 intro rk
 induction rk with
 | nil =>
  intro vs r h
  cases vs with
  | nil=>exact ⟨[],.nil,rfl,fun i y hy=>by cases hy⟩
  | cons v vs=>cases h
 | cons k rk ih =>
  intro vs r h
  cases rk with
  | nil =>
   cases vs with
   | nil=>cases h
   | cons v vs =>
    cases vs with
    | nil =>
     obtain ⟨x,hx,hr⟩:=one h
     refine ⟨[x.er D s.m.tk],Q38 hT hD hx .nil,Z,fun i y hy=>?_⟩
     cases i with
     | zero=>cases hy;exact ⟨_,rfl,hr⟩
     | succ i=>cases hy
    | cons v2 vs=>cases h
  | cons k2 rk =>
   cases vs with
   | nil=>cases h
   | cons v vs =>
    have h2:(match Q79 D C s k v with
     | some a=>match Q9h D C s (k2::rk) vs with
      | some b=>(some (a,b):Option (k.Ty×tup (k2::rk)))
      | none=>none
     | none=>none)=some r:=h
    cases ha:Q79 D C s k v with
    | none=>rw [ha] at h2;cases h2
    | some a =>
     rw [ha] at h2
     dsimp only at h2
     cases hb:Q9h D C s (k2::rk) vs with
     | none=>rw [hb] at h2;cases h2
     | some b =>
      rw [hb] at h2;cases h2
      obtain ⟨x,hx,hr⟩:=one ha
      obtain ⟨xs,q1,q2,q3⟩:=ih hb
      refine ⟨x.er D s.m.tk::xs,Q38 hT hD hx q1,by show xs.length+1=(QN D (k2::rk) b).length+1;rw [q2],fun i y hy=>?_⟩
      cases i with
      | zero=>cases hy;exact ⟨_,rfl,hr⟩
      | succ i=>exact q3 i y hy
theorem Qad {xs ys:List AV} (hl:xs.length=ys.length) (hs:∀ (i:Nat) (y:AV),ys[i]?=some y→∃ x,xs[i]?=some x∧∀ V w v,x.rel V w v→y.rel (Yn V.S) w v) {V:Vu} {w:World} {v:Value} (h2:(Qh xs).rel V w v):(Qh ys).rel (Yn V.S) w v:=by
 match xs,ys,hl with
 | [],[],_=>obtain ⟨vs,q1,q2,q3⟩:=h2;exact ⟨vs,q1,q2,fun i x hx=>by cases hx⟩
 | [x],[y],_ =>
  obtain ⟨x',hx,hxy⟩:=hs 0 y rfl
  cases hx
  exact hxy _ _ _ h2
 | x::x2::xs,y::y2::ys,hl =>
  obtain ⟨vs,q1,q2,q3⟩:=h2
  refine ⟨vs,q1,by rw [q2];exact hl,fun i z hz=>?_⟩
  obtain ⟨x',hx,hxy⟩:=hs i z hz
  obtain ⟨u,hu,hr⟩:=q3 i x' hx
  exact ⟨u,hu,hxy _ _ _ hr⟩
end
end
noncomputable section
open Go.RowKit
section
variable {U:Univ}
abbrev XD (U:Univ) (α:Type):=List (It U)→Option (α×List (It U))
def Zb:XD U Int
 | .one (.c (.v (.int .i64 a)))::r=>some (a,r)
 | _=>none
def Q3f:XD U Bool
 | .one (.c (.v (.bool a)))::r=>some (a,r)
 | _=>none
def Qm5:XD U Byt
 | .one (.c (.v (.int .u8 a)))::r=>some (⟨a⟩,r)
 | _=>none
def Q1u:XD U Qr7
 | .one (.c (.str a))::r=>some (a,r)
 | _=>none
def Qkm (t:U.T):XD U (List (U.R t))
 | .one (.c (.sl t' l))::r=>match Ge t' t l with
  | some l'=>some (l',r)
  | none=>none
 | .one (.c (.v (.slice none 0 0)))::r=>some ([],r)
 | _=>none
def Q3e (t:U.T) (p:XD U (U.R t)):XD U (U.R t)
 | .grp t' x::r=>match Qgl t' t x with
  | some y=>some (y,r)
  | none=>none
 | xs=>p xs
def KH {α:Type} (p:XD U α) (xs:List (It U)):Option α:=match p xs with
 | some (a,[])=>some a
 | _=>none
def JT {α β:Type} (p:XD U α) (q:XD U β):XD U (α×β):=fun xs=>match p xs with
 | some (a,r)=>match q r with
  | some (b,r')=>some ((a,b),r')
  | none=>none
 | none=>none
def X7 {α β:Type} (f:α→β) (p:XD U α):XD U β:=fun xs=>match p xs with
 | some (a,r)=>some (f a,r)
 | none=>none
variable {D:Codec U}
def Jb (D:Codec U) {α:Type} (p:XD U α) (cells:α→List C):Prop:=∀ tk xs a r,p xs=some (a,r)→∃ pre,Je D tk xs=pre++Je D tk r∧CSubs pre (cells a)
theorem J2:Jb D Zb fun a=>[.v (.int .i64 a)]:=by
 intro tk xs a r h
 unfold Zb at h
 split at h
 ·cases h;exact ⟨[_],rfl,.cons (.d _) .nil⟩
 ·cases h
theorem XU:Jb D Q3f fun a=>[.v (.bool a)]:=by
 intro tk xs a r h
 unfold Q3f at h
 split at h
 ·cases h;exact ⟨[_],rfl,.cons (.d _) .nil⟩
 ·cases h
theorem pByt_ok:Jb D Qm5 bytC:=by
 intro tk xs a r h
 unfold Qm5 at h
 split at h
 ·cases h;exact ⟨[_],rfl,.cons (.d _) .nil⟩
 ·cases h
theorem ZP:Jb D Q1u fun a=>[.v (.string (Qpk a))]:=by
 intro tk xs a r h
 unfold Q1u at h
 split at h
 ·cases h;exact ⟨[_],rfl,.cons (.d _) .nil⟩
 ·cases h
theorem XT (t:U.T):Jb D (Qkm t) fun l=>[.sl (U.E t).sz ((U.E t).encL l)]:=by
 intro tk xs a r h
 unfold Qkm at h
 split at h
 ·split at h
  ·rename_i l' hl;cases h
   obtain ⟨e,rfl⟩:=YQ hl
   subst e
   exact ⟨[_],Z,.cons (.d _) .nil⟩
  ·cases h
 ·cases h
  refine ⟨[_],Z,.cons ?_ .nil⟩
  have e:(U.E t).encL []=[]:=(U.E t).nil
  rw [e]
  exact .nil _
 ·cases h
theorem csubs_d (l:List C):CSubs (l.map .d) l:=by
 induction l with
 | nil=>exact .nil
 | cons c l ih=>exact .cons (.d c) ih
theorem Kg (hf:∀ t x,(D.fl t x).map TC.er=(U.E t).enc x) (t:U.T) {p:XD U (U.R t)} (hp:Jb D p (U.E t).enc):Jb D (Q3e t p) (U.E t).enc:=by
 intro tk xs a r h
 unfold Q3e at h
 split at h
 ·rename_i t' x r'
  split at h
  ·rename_i y hy;cases h
   unfold Qgl at hy
   split at hy
   ·rename_i e _;cases hy
    subst e
    refine ⟨((U.E t').enc x).map .d,?_,csubs_d _⟩
    unfold Je
    rw [JW,Cr]
    congr 1
    show ((D.fl t' x).map TA.c).map (TA.er tk)=_
    rw [← hf t' x,CJ,CJ];rfl
   ·cases hy
  ·cases h
 ·exact hp tk _ a r h
theorem QB {α β:Type} {p:XD U α} {q:XD U β} {f:α→List C} {g:β→List C} (hp:Jb D p f) (hq:Jb D q g):Jb D (JT p q) fun a=>f a.1++g a.2:=by
 intro tk xs a r h
 unfold JT at h
 split at h
 ·rename_i a1 r1 h1
  split at h
  ·rename_i b r2 h2;cases h
   obtain ⟨p1,e1,c1⟩:=hp tk _ _ _ h1
   obtain ⟨p2,e2,c2⟩:=hq tk _ _ _ h2
   exact ⟨p1++p2,by rw [e1,e2,Cy],c1.append c2⟩
  ·cases h
 ·cases h
theorem JK {α β:Type} {f:α→β} {p:XD U α} {g:α→List C} {g':β→List C} (hp:Jb D p g) (hg:∀ a,g' (f a)=g a):Jb D (X7 f p) g':=by
 intro tk xs a r h
 unfold X7 at h
 split at h
 ·rename_i a1 r1 h1;cases h
  obtain ⟨p1,e1,c1⟩:=hp tk _ _ _ h1
  exact ⟨p1,e1,by rw [hg];exact c1⟩
 ·cases h
theorem Jl {α:Type} {p:XD U α} {g:α→List C} (hp:Jb D p g) (tk:List (Nat×TTok U)) (xs:List (It U)) (a:α) (h:KH p xs=some a):CSubs (Je D tk xs) (g a):=by
 unfold KH at h
 split at h
 ·rename_i a1 h1;cases h
  obtain ⟨p1,e1,c1⟩:=hp tk _ _ _ h1
  rw [e1]
  show CSubs (p1++Je D tk []) _
  have:Je D tk []=[]:=rfl
  rw [this,CH];exact c1
 ·cases h
end
end
noncomputable section
open Go.RowKit
def tabs:Tables:={
  agg:=[(3,(false,1)),(4,(false,1)),(5,(false,1)),(9,(false,1)),(22,(false,1)),(23,(false,1)),(25,(true,5)),(26,(false,1)),(28,(false,1)),(41,(false,1)),(43,(false,1)),(45,(true,7)),(46,(false,1)),(48,(true,23)),(59,(false,1)),(60,(false,1)),(69,(true,2)),(71,(false,1)),(80,(false,1)),(82,(true,2)),(86,(true,6)),(87,(false,1)),(89,(true,8)),(91,(true,15)),(107,(true,4)),(114,(false,1)),(119,(true,8)),(125,(false,1)),(132,(true,2)),(137,(true,2)),(142,(true,2)),(144,(true,5)),(148,(true,10)),(153,(false,1)),(155,(true,5)),(156,(true,65)),(185,(false,1)),(195,(false,1)),(203,(true,256)),(210,(false,1)),(218,(false,1)),(264,(true,2)),(280,(false,1))]
  sl:=[(22,(82,2)),(23,(25,5)),(41,(9,1)),(43,(86,6)),(46,(91,15)),(60,(5,1)),(80,(142,2)),(87,(148,10)),(125,(132,2)),(218,(3,1))]
  zero:=[(3,[.int .i64 0]),(5,[.int .u8 0]),(9,[.string ByteArray.empty]),(25,[.int .i64 0,.int .i64 0,.string ByteArray.empty,.slice none 0 0,.slice none 0 0]),(26,[.nilFunc]),(28,[.int .i64 0]),(41,[.slice none 0 0]),(48,[.int .i64 0,.string ByteArray.empty,.int .i64 0,.int .i64 0,.int .i64 0,.string ByteArray.empty,.slice none 0 0,.slice none 0 0,.int .i64 0,.int .i64 0,.string ByteArray.empty,.slice none 0 0,.slice none 0 0,.int .i64 0,.slice none 0 0,.int .i64 0,.int .i64 0,.int .i64 0,.string ByteArray.empty,.slice none 0 0,.slice none 0 0,.slice none 0 0,.slice none 0 0]),(62,[.pointer none,.slice none 0 0]),(69,[.int .i64 0,.int .i64 0]),(71,[.pointer none]),(77,[.string ByteArray.empty,.int .i64 0,.bool false]),(82,[.int .i64 0,.slice none 0 0]),(86,[.string ByteArray.empty,.int .i64 0,.int .i64 0,.string ByteArray.empty,.slice none 0 0,.slice none 0 0]),(89,[.int .i64 0,.int .i64 0,.int .i64 0,.string ByteArray.empty,.slice none 0 0,.slice none 0 0,.int .i64 0,.slice none 0 0]),(91,[.string ByteArray.empty,.int .i64 0,.int .i64 0,.string ByteArray.empty,.slice none 0 0,.slice none 0 0,.int .i64 0,.int .i64 0,.int .i64 0,.int .i64 0,.string ByteArray.empty,.slice none 0 0,.slice none 0 0,.int .i64 0,.slice none 0 0]),(95,[.pointer none,.slice none 0 0]),(99,[.string ByteArray.empty,.int .i64 0]),(107,[.int .i64 0,.int .i64 0,.int .i64 0,.int .i64 0]),(119,[.string ByteArray.empty,.string ByteArray.empty,.string ByteArray.empty,.string ByteArray.empty,.string ByteArray.empty,.string ByteArray.empty,.string ByteArray.empty,.string ByteArray.empty]),(127,[.slice none 0 0,.int .i64 0]),(132,[.string ByteArray.empty,.int .i64 0]),(137,[.string ByteArray.empty,.int .i64 0]),(142,[.int .i64 0,.int .i64 0]),(144,[.string ByteArray.empty,.string ByteArray.empty,.string ByteArray.empty,.string ByteArray.empty,.string ByteArray.empty]),(148,[.string ByteArray.empty,.bool false,.int .i64 0,.int .i64 0,.int .i64 0,.string ByteArray.empty,.slice none 0 0,.slice none 0 0,.int .i64 0,.slice none 0 0]),(155,[.bool false,.bool false,.int .i64 0,.int .i64 0,.int .i64 0]),(156,[.bool false,.bool false,.int .i64 0,.int .i64 0,.int .i64 0,.bool false,.bool false,.int .i64 0,.int .i64 0,.int .i64 0,.bool false,.bool false,.int .i64 0,.int .i64 0,.int .i64 0,.bool false,.bool false,.int .i64 0,.int .i64 0,.int .i64 0,.bool false,.bool false,.int .i64 0,.int .i64 0,.int .i64 0,.bool false,.bool false,.int .i64 0,.int .i64 0,.int .i64 0,.bool false,.bool false,.int .i64 0,.int .i64 0,.int .i64 0,.bool false,.bool false,.int .i64 0,.int .i64 0,.int .i64 0,.bool false,.bool false,.int .i64 0,.int .i64 0,.int .i64 0,.bool false,.bool false,.int .i64 0,.int .i64 0,.int .i64 0,.bool false,.bool false,.int .i64 0,.int .i64 0,.int .i64 0,.bool false,.bool false,.int .i64 0,.int .i64 0,.int .i64 0,.bool false,.bool false,.int .i64 0,.int .i64 0,.int .i64 0]),(188,[.string ByteArray.empty,.bool false,.int .i64 0,.pointer none]),(192,[.string ByteArray.empty,.int .i64 0,.bool false,.int .i64 0]),(194,[.int .u8 0,.int .u8 0,.int .u8 0,.int .u8 0,.int .u8 0,.int .u8 0,.int .u8 0,.int .u8 0,.int .u8 0,.int .u8 0,.int .u8 0,.int .u8 0,.int .u8 0,.int .u8 0,.int .u8 0,.int .u8 0,.int .u8 0,.int .u8 0,.int .u8 0,.int .u8 0,.int .u8 0,.int .u8 0,.int .u8 0,.int .u8 0]),(203,[.bool false,.bool false,.bool false,.bool false,.bool false,.bool false,.bool false,.bool false,.bool false,.bool false,.bool false,.bool false,.bool false,.bool false,.bool false,.bool false,.bool false,.bool false,.bool false,.bool false,.bool false,.bool false,.bool false,.bool false,.bool false,.bool false,.bool false,.bool false,.bool false,.bool false,.bool false,.bool false,.bool false,.bool false,.bool false,.bool false,.bool false,.bool false,.bool false,.bool false,.bool false,.bool false,.bool false,.bool false,.bool false,.bool false,.bool false,.bool false,.bool false,.bool false,.bool false,.bool false,.bool false,.bool false,.bool false,.bool false,.bool false,.bool false,.bool false,.bool false,.bool false,.bool false,.bool false,.bool false,.bool false,.bool false,.bool false,.bool false,.bool false,.bool false,.bool false,.bool false,.bool false,.bool false,.bool false,.bool false,.bool false,.bool false,.bool false,.bool false,.bool false,.bool false,.bool false,.bool false,.bool false,.bool false,.bool false,.bool false,.bool false,.bool false,.bool false,.bool false,.bool false,.bool false,.bool false,.bool false,.bool false,.bool false,.bool false,.bool false,.bool false,.bool false,.bool false,.bool false,.bool false,.bool false,.bool false,.bool false,.bool false,.bool false,.bool false,.bool false,.bool false,.bool false,.bool false,.bool false,.bool false,.bool false,.bool false,.bool false,.bool false,.bool false,.bool false,.bool false,.bool false,.bool false,.bool false,.bool false,.bool false,.bool false,.bool false,.bool false,.bool false,.bool false,.bool false,.bool false,.bool false,.bool false,.bool false,.bool false,.bool false,.bool false,.bool false,.bool false,.bool false,.bool false,.bool false,.bool false,.bool false,.bool false,.bool false,.bool false,.bool false,.bool false,.bool false,.bool false,.bool false,.bool false,.bool false,.bool false,.bool false,.bool false,.bool false,.bool false,.bool false,.bool false,.bool false,.bool false,.bool false,.bool false,.bool false,.bool false,.bool false,.bool false,.bool false,.bool false,.bool false,.bool false,.bool false,.bool false,.bool false,.bool false,.bool false,.bool false,.bool false,.bool false,.bool false,.bool false,.bool false,.bool false,.bool false,.bool false,.bool false,.bool false,.bool false,.bool false,.bool false,.bool false,.bool false,.bool false,.bool false,.bool false,.bool false,.bool false,.bool false,.bool false,.bool false,.bool false,.bool false,.bool false,.bool false,.bool false,.bool false,.bool false,.bool false,.bool false,.bool false,.bool false,.bool false,.bool false,.bool false,.bool false,.bool false,.bool false,.bool false,.bool false,.bool false,.bool false,.bool false,.bool false,.bool false,.bool false,.bool false,.bool false,.bool false,.bool false,.bool false,.bool false,.bool false,.bool false,.bool false,.bool false,.bool false,.bool false,.bool false,.bool false,.bool false,.bool false,.bool false,.bool false,.bool false,.bool false,.bool false,.bool false,.bool false,.bool false]),(212,[.map none,.int .i64 0]),(232,[.int .u8 0,.int .u8 0,.int .u8 0,.int .u8 0,.int .u8 0,.int .u8 0,.int .u8 0,.int .u8 0,.int .u8 0,.int .u8 0,.int .u8 0,.int .u8 0,.int .u8 0,.int .u8 0,.int .u8 0,.int .u8 0,.int .u8 0,.int .u8 0,.int .u8 0,.int .u8 0,.int .u8 0,.int .u8 0,.int .u8 0,.int .u8 0,.int .u8 0,.int .u8 0,.int .u8 0,.int .u8 0,.int .u8 0,.int .u8 0,.int .u8 0,.int .u8 0,.int .u8 0,.int .u8 0,.int .u8 0,.int .u8 0,.int .u8 0,.int .u8 0,.int .u8 0,.int .u8 0,.int .u8 0,.int .u8 0,.int .u8 0,.int .u8 0,.int .u8 0,.int .u8 0,.int .u8 0,.int .u8 0,.int .u8 0,.int .u8 0,.int .u8 0,.int .u8 0,.int .u8 0,.int .u8 0,.int .u8 0,.int .u8 0,.int .u8 0,.int .u8 0,.int .u8 0,.int .u8 0,.int .u8 0,.int .u8 0,.int .u8 0,.int .u8 0,.int .u8 0]),(256,[.string ByteArray.empty,.string ByteArray.empty,.nilIface]),(264,[.int .u8 0,.int .u8 0]),(271,[.string ByteArray.empty]),(280,[.int .u64 0])]
  fld:=[(25,[(0,0),(1,1),(2,2),(3,3),(4,4)]),(45,[(0,0),(1,1),(2,6)]),(48,[(0,0),(1,1),(2,2),(3,3),(4,8),(5,13),(6,14),(7,15),(8,22)]),(62,[(0,0),(1,1)]),(69,[(0,0),(1,1)]),(77,[(0,0),(1,1),(2,2)]),(82,[(0,0),(1,1)]),(86,[(0,0),(1,1)]),(89,[(0,0),(1,1),(2,6),(3,7)]),(91,[(0,0),(1,1),(2,6),(3,7)]),(95,[(0,0)]),(99,[(0,0),(1,1)]),(107,[(0,0),(1,1),(2,2),(3,3)]),(127,[(0,0),(1,1)]),(132,[(0,0),(1,1)]),(137,[(0,0)]),(142,[(0,0),(1,1)]),(148,[(0,0),(1,1),(2,2)]),(155,[(0,0),(1,1),(2,2),(3,3),(4,4)]),(188,[(0,0),(1,1),(2,2),(3,3)]),(192,[(0,0),(1,1),(2,2),(3,3)]),(212,[(0,0),(1,1)]),(264,[(0,0),(1,1)])]
  places:=[(25,[(0,1),(1,1),(2,1),(3,1),(4,1)]),(48,[(0,1),(1,1),(2,1),(3,5),(8,5),(13,1),(14,1),(15,7),(22,1)]),(69,[(0,1),(1,1)]),(77,[(0,1),(1,1),(2,1)]),(82,[(0,1),(1,1)]),(86,[(0,1),(1,5)]),(89,[(0,1),(1,5),(6,1),(7,1)]),(91,[(0,1),(1,5),(6,1),(7,8)]),(95,[(0,2)]),(99,[(0,1),(1,1)]),(107,[(0,1),(1,1),(2,1),(3,1)]),(119,[(0,1),(1,1),(2,1),(3,1),(4,1),(5,1),(6,1),(7,1)]),(127,[(0,1),(1,1)]),(132,[(0,1),(1,1)]),(137,[(0,1),(1,1)]),(142,[(0,1),(1,1)]),(144,[(0,1),(1,1),(2,1),(3,1),(4,1)]),(148,[(0,1),(1,1),(2,8)]),(155,[(0,1),(1,1),(2,1),(3,1),(4,1)]),(156,[(0,5),(5,5),(10,5),(15,5),(20,5),(25,5),(30,5),(35,5),(40,5),(45,5),(50,5),(55,5),(60,5)]),(188,[(0,1),(1,1),(2,1),(3,1)]),(192,[(0,1),(1,1),(2,1),(3,1)]),(212,[(0,1),(1,1)]),(256,[(0,1),(1,1),(2,1)]),(271,[(0,1)])]
  elem:=[(3,(1,8)),(5,(1,1)),(9,(1,16)),(25,(5,80)),(82,(2,32)),(86,(6,96)),(91,(15,224)),(132,(2,24)),(142,(2,16)),(148,(10,144))]
  arr:=[(156,(13,5)),(194,(24,1)),(203,(256,1)),(230,(20,1)),(232,(65,1)),(260,(32,1)),(261,(64,1)),(262,(256,1)),(265,(16,2))]
  mp:=[(210,(true,.one (.d (.v (.int .i64 0)))))]
  ints:=[(2,.i64),(3,.i64),(5,.u8),(21,.i32),(195,.u64),(231,.u32),(234,.u64),(280,.u64)]
  strs:=[(9,())]
  bools:=[(4,())]
  pairs:=[(142,())]
  fns:=[]
  stc:=[(69,())]
  ifc:=[(20,()),(114,())]
  ars:=[(119,8),(144,5)]
  fdv:=[(69,[(0,0)]),(137,[(0,0)])]
  byt:=[(60,())]
 }
theorem QH:tabs.OK Tryz.prog where
 agg:=⟨(show _=_ by kernel_rfl),(show _=_ by kernel_rfl),(show _=_ by kernel_rfl),(show _=_ by kernel_rfl),(show _=_ by kernel_rfl),(show _=_ by kernel_rfl),(show _=_ by kernel_rfl),(show _=_ by kernel_rfl),(show _=_ by kernel_rfl),(show _=_ by kernel_rfl),(show _=_ by kernel_rfl),(show _=_ by kernel_rfl),(show _=_ by kernel_rfl),(show _=_ by kernel_rfl),(show _=_ by kernel_rfl),(show _=_ by kernel_rfl),(show _=_ by kernel_rfl),(show _=_ by kernel_rfl),(show _=_ by kernel_rfl),(show _=_ by kernel_rfl),(show _=_ by kernel_rfl),(show _=_ by kernel_rfl),(show _=_ by kernel_rfl),(show _=_ by kernel_rfl),(show _=_ by kernel_rfl),(show _=_ by kernel_rfl),(show _=_ by kernel_rfl),(show _=_ by kernel_rfl),(show _=_ by kernel_rfl),(show _=_ by kernel_rfl),(show _=_ by kernel_rfl),(show _=_ by kernel_rfl),(show _=_ by kernel_rfl),(show _=_ by kernel_rfl),(show _=_ by kernel_rfl),(show _=_ by kernel_rfl),(show _=_ by kernel_rfl),(show _=_ by kernel_rfl),(show _=_ by kernel_rfl),(show _=_ by kernel_rfl),(show _=_ by kernel_rfl),(show _=_ by kernel_rfl),(show _=_ by kernel_rfl),trivial⟩
 sl:=⟨(show _=_ by kernel_rfl),(show _=_ by kernel_rfl),(show _=_ by kernel_rfl),(show _=_ by kernel_rfl),(show _=_ by kernel_rfl),(show _=_ by kernel_rfl),(show _=_ by kernel_rfl),(show _=_ by kernel_rfl),(show _=_ by kernel_rfl),(show _=_ by kernel_rfl),trivial⟩
 zero:=⟨⟨(show _=_ by kernel_rfl),(show _=_ by kernel_rfl)⟩,⟨(show _=_ by kernel_rfl),(show _=_ by kernel_rfl)⟩,⟨(show _=_ by kernel_rfl),(show _=_ by kernel_rfl)⟩,⟨(show _=_ by kernel_rfl),(show _=_ by kernel_rfl)⟩,⟨(show _=_ by kernel_rfl),(show _=_ by kernel_rfl)⟩,⟨(show _=_ by kernel_rfl),(show _=_ by kernel_rfl)⟩,⟨(show _=_ by kernel_rfl),(show _=_ by kernel_rfl)⟩,⟨(show _=_ by kernel_rfl),(show _=_ by kernel_rfl)⟩,⟨(show _=_ by kernel_rfl),(show _=_ by kernel_rfl)⟩,⟨(show _=_ by kernel_rfl),(show _=_ by kernel_rfl)⟩,⟨(show _=_ by kernel_rfl),(show _=_ by kernel_rfl)⟩,⟨(show _=_ by kernel_rfl),(show _=_ by kernel_rfl)⟩,⟨(show _=_ by kernel_rfl),(show _=_ by kernel_rfl)⟩,⟨(show _=_ by kernel_rfl),(show _=_ by kernel_rfl)⟩,⟨(show _=_ by kernel_rfl),(show _=_ by kernel_rfl)⟩,⟨(show _=_ by kernel_rfl),(show _=_ by kernel_rfl)⟩,⟨(show _=_ by kernel_rfl),(show _=_ by kernel_rfl)⟩,⟨(show _=_ by kernel_rfl),(show _=_ by kernel_rfl)⟩,⟨(show _=_ by kernel_rfl),(show _=_ by kernel_rfl)⟩,⟨(show _=_ by kernel_rfl),(show _=_ by kernel_rfl)⟩,⟨(show _=_ by kernel_rfl),(show _=_ by kernel_rfl)⟩,⟨(show _=_ by kernel_rfl),(show _=_ by kernel_rfl)⟩,⟨(show _=_ by kernel_rfl),(show _=_ by kernel_rfl)⟩,⟨(show _=_ by kernel_rfl),(show _=_ by kernel_rfl)⟩,⟨(show _=_ by kernel_rfl),(show _=_ by kernel_rfl)⟩,⟨(show _=_ by kernel_rfl),(show _=_ by kernel_rfl)⟩,⟨(show _=_ by kernel_rfl),(show _=_ by kernel_rfl)⟩,⟨(show _=_ by kernel_rfl),(show _=_ by kernel_rfl)⟩,⟨(show _=_ by kernel_rfl),(show _=_ by kernel_rfl)⟩,⟨(show _=_ by kernel_rfl),(show _=_ by kernel_rfl)⟩,⟨(show _=_ by kernel_rfl),(show _=_ by kernel_rfl)⟩,⟨(show _=_ by kernel_rfl),(show _=_ by kernel_rfl)⟩,⟨(show _=_ by kernel_rfl),(show _=_ by kernel_rfl)⟩,⟨(show _=_ by kernel_rfl),(show _=_ by kernel_rfl)⟩,⟨(show _=_ by kernel_rfl),(show _=_ by kernel_rfl)⟩,⟨(show _=_ by kernel_rfl),(show _=_ by kernel_rfl)⟩,⟨(show _=_ by kernel_rfl),(show _=_ by kernel_rfl)⟩,⟨(show _=_ by kernel_rfl),(show _=_ by kernel_rfl)⟩,trivial⟩
 fld:=⟨⟨(show _=_ by kernel_rfl),(show _=_ by kernel_rfl),(show _=_ by kernel_rfl),(show _=_ by kernel_rfl),(show _=_ by kernel_rfl),trivial⟩,⟨(show _=_ by kernel_rfl),(show _=_ by kernel_rfl),(show _=_ by kernel_rfl),trivial⟩,⟨(show _=_ by kernel_rfl),(show _=_ by kernel_rfl),(show _=_ by kernel_rfl),(show _=_ by kernel_rfl),(show _=_ by kernel_rfl),(show _=_ by kernel_rfl),(show _=_ by kernel_rfl),(show _=_ by kernel_rfl),(show _=_ by kernel_rfl),trivial⟩,⟨(show _=_ by kernel_rfl),(show _=_ by kernel_rfl),trivial⟩,⟨(show _=_ by kernel_rfl),(show _=_ by kernel_rfl),trivial⟩,⟨(show _=_ by kernel_rfl),(show _=_ by kernel_rfl),(show _=_ by kernel_rfl),trivial⟩,⟨(show _=_ by kernel_rfl),(show _=_ by kernel_rfl),trivial⟩,⟨(show _=_ by kernel_rfl),(show _=_ by kernel_rfl),trivial⟩,⟨(show _=_ by kernel_rfl),(show _=_ by kernel_rfl),(show _=_ by kernel_rfl),(show _=_ by kernel_rfl),trivial⟩,⟨(show _=_ by kernel_rfl),(show _=_ by kernel_rfl),(show _=_ by kernel_rfl),(show _=_ by kernel_rfl),trivial⟩,⟨(show _=_ by kernel_rfl),trivial⟩,⟨(show _=_ by kernel_rfl),(show _=_ by kernel_rfl),trivial⟩,⟨(show _=_ by kernel_rfl),(show _=_ by kernel_rfl),(show _=_ by kernel_rfl),(show _=_ by kernel_rfl),trivial⟩,⟨(show _=_ by kernel_rfl),(show _=_ by kernel_rfl),trivial⟩,⟨(show _=_ by kernel_rfl),(show _=_ by kernel_rfl),trivial⟩,⟨(show _=_ by kernel_rfl),trivial⟩,⟨(show _=_ by kernel_rfl),(show _=_ by kernel_rfl),trivial⟩,⟨(show _=_ by kernel_rfl),(show _=_ by kernel_rfl),(show _=_ by kernel_rfl),trivial⟩,⟨(show _=_ by kernel_rfl),(show _=_ by kernel_rfl),(show _=_ by kernel_rfl),(show _=_ by kernel_rfl),(show _=_ by kernel_rfl),trivial⟩,⟨(show _=_ by kernel_rfl),(show _=_ by kernel_rfl),(show _=_ by kernel_rfl),(show _=_ by kernel_rfl),trivial⟩,⟨(show _=_ by kernel_rfl),(show _=_ by kernel_rfl),(show _=_ by kernel_rfl),(show _=_ by kernel_rfl),trivial⟩,⟨(show _=_ by kernel_rfl),(show _=_ by kernel_rfl),trivial⟩,⟨(show _=_ by kernel_rfl),(show _=_ by kernel_rfl),trivial⟩,trivial⟩
 places:=⟨(show _=_ by kernel_rfl),(show _=_ by kernel_rfl),(show _=_ by kernel_rfl),(show _=_ by kernel_rfl),(show _=_ by kernel_rfl),(show _=_ by kernel_rfl),(show _=_ by kernel_rfl),(show _=_ by kernel_rfl),(show _=_ by kernel_rfl),(show _=_ by kernel_rfl),(show _=_ by kernel_rfl),(show _=_ by kernel_rfl),(show _=_ by kernel_rfl),(show _=_ by kernel_rfl),(show _=_ by kernel_rfl),(show _=_ by kernel_rfl),(show _=_ by kernel_rfl),(show _=_ by kernel_rfl),(show _=_ by kernel_rfl),(show _=_ by kernel_rfl),(show _=_ by kernel_rfl),(show _=_ by kernel_rfl),(show _=_ by kernel_rfl),(show _=_ by kernel_rfl),(show _=_ by kernel_rfl),trivial⟩
 elem:=⟨(show _=_ by kernel_rfl),(show _=_ by kernel_rfl),(show _=_ by kernel_rfl),(show _=_ by kernel_rfl),(show _=_ by kernel_rfl),(show _=_ by kernel_rfl),(show _=_ by kernel_rfl),(show _=_ by kernel_rfl),(show _=_ by kernel_rfl),(show _=_ by kernel_rfl),trivial⟩
 arr:=⟨(show _=_ by kernel_rfl),(show _=_ by kernel_rfl),(show _=_ by kernel_rfl),(show _=_ by kernel_rfl),(show _=_ by kernel_rfl),(show _=_ by kernel_rfl),(show _=_ by kernel_rfl),(show _=_ by kernel_rfl),(show _=_ by kernel_rfl),trivial⟩
 mp:=⟨(show _=_ by kernel_rfl),trivial⟩
 ints:=⟨(show _=_ by kernel_rfl),(show _=_ by kernel_rfl),(show _=_ by kernel_rfl),(show _=_ by kernel_rfl),(show _=_ by kernel_rfl),(show _=_ by kernel_rfl),(show _=_ by kernel_rfl),(show _=_ by kernel_rfl),trivial⟩
 strs:=⟨(show _=_ by kernel_rfl),trivial⟩
 bools:=⟨(show _=_ by kernel_rfl),trivial⟩
 pairs:=⟨(show _=_ by kernel_rfl),trivial⟩
 fns:=trivial
 stc:=⟨(show _=_ by kernel_rfl),trivial⟩
 ifc:=⟨(show _=_ by kernel_rfl),(show _=_ by kernel_rfl),trivial⟩
 ars:=⟨(show _=_ by kernel_rfl),(show _=_ by kernel_rfl),trivial⟩
 fdv:=⟨⟨(show _=_ by kernel_rfl),trivial⟩,⟨(show _=_ by kernel_rfl),trivial⟩,trivial⟩
 byt:=⟨(show _=_ by kernel_rfl),trivial⟩
 mixed:=by kernel_rfl
end
noncomputable section
open Go.RowKit
inductive Tcd where
 | t3
 | t4
 | t5
 | t9
 | t82
 | t142
 | t132
 | t137
 | t127
 | t99
 | t69
 | t77
 | t107
 | t25
 | t155
 | t86
 | t45
 | t89
 | t148
 | t91
 | t48
def Qqv:Tcd→Type
 | .t3=>Int
 | .t4=>Bool
 | .t5=>Byt
 | .t9=>(List UInt8)
 | .t82=>Lvl
 | .t142=>Qr1
 | .t132=>Tkn
 | .t137=>Tkn
 | .t127=>Rdr
 | .t99=>RWr
 | .t69=>Rfd
 | .t77=>RRd
 | .t107=>Scp
 | .t25=>Tm
 | .t155=>Use
 | .t86=>Ctr
 | .t45=>Rcr
 | .t89=>Tr
 | .t148=>Qr8
 | .t91=>Fn
 | .t48=>Dcl
def eqT:(a b:Tcd)→Option (PLift (a=b))
 | .t3,.t3=>some ⟨rfl⟩
 | .t4,.t4=>some ⟨rfl⟩
 | .t5,.t5=>some ⟨rfl⟩
 | .t9,.t9=>some ⟨rfl⟩
 | .t82,.t82=>some ⟨rfl⟩
 | .t142,.t142=>some ⟨rfl⟩
 | .t132,.t132=>some ⟨rfl⟩
 | .t137,.t137=>some ⟨rfl⟩
 | .t127,.t127=>some ⟨rfl⟩
 | .t99,.t99=>some ⟨rfl⟩
 | .t69,.t69=>some ⟨rfl⟩
 | .t77,.t77=>some ⟨rfl⟩
 | .t107,.t107=>some ⟨rfl⟩
 | .t25,.t25=>some ⟨rfl⟩
 | .t155,.t155=>some ⟨rfl⟩
 | .t86,.t86=>some ⟨rfl⟩
 | .t45,.t45=>some ⟨rfl⟩
 | .t89,.t89=>some ⟨rfl⟩
 | .t148,.t148=>some ⟨rfl⟩
 | .t91,.t91=>some ⟨rfl⟩
 | .t48,.t48=>some ⟨rfl⟩
 | _,_=>none
@[reducible] def encT:(t:Tcd)→Enc (Qqv t)
 | .t3=>inferInstanceAs (Enc Int)
 | .t4=>inferInstanceAs (Enc Bool)
 | .t5=>inferInstanceAs (Enc Byt)
 | .t9=>inferInstanceAs (Enc ((List UInt8)))
 | .t82=>inferInstanceAs (Enc Lvl)
 | .t142=>inferInstanceAs (Enc Qr1)
 | .t132=>inferInstanceAs (Enc Tkn)
 | .t137=>inferInstanceAs (Enc Tkn)
 | .t127=>inferInstanceAs (Enc Rdr)
 | .t99=>inferInstanceAs (Enc RWr)
 | .t69=>inferInstanceAs (Enc Rfd)
 | .t77=>inferInstanceAs (Enc RRd)
 | .t107=>inferInstanceAs (Enc Scp)
 | .t25=>inferInstanceAs (Enc Tm)
 | .t155=>inferInstanceAs (Enc Use)
 | .t86=>inferInstanceAs (Enc Ctr)
 | .t45=>inferInstanceAs (Enc Rcr)
 | .t89=>inferInstanceAs (Enc Tr)
 | .t148=>inferInstanceAs (Enc Qr8)
 | .t91=>inferInstanceAs (Enc Fn)
 | .t48=>inferInstanceAs (Enc Dcl)
abbrev UV:Univ:=⟨Tcd,Qqv,eqT,encT⟩
def Qp8:(t:Tcd)→Qqv t→List (TC UV)
 | .t3,x=>[.v (.int .i64 (x))]
 | .t4,x=>[.v (.bool (x))]
 | .t5,x=>[.v (.int .u8 (x.n))]
 | .t9,x=>[.str (x)]
 | .t82,x=>[.v (.int .i64 (x.c)),.sl .t142 (x.vs)]
 | .t142,x=>[.v (.int .i64 (x.1)),.v (.int .i64 (x.2))]
 | .t132,x=>[.str (x.text),.v (.int .i64 (x.at_))]
 | .t137,x=>[.str (x.text),.v (.int .i64 (x.at_))]
 | .t127,x=>[.sl .t132 (x.l),.v (.int .i64 (x.n))]
 | .t99,x=>[.str (x.s),.v (.int .i64 (x.e))]
 | .t69,x=>[.v (.int .i64 (x.e)),.v (.int .i64 (x.at_))]
 | .t77,x=>[.str (x.s),.v (.int .i64 (x.at_)),.v (.bool (x.bad))]
 | .t107,x=>[.v (.int .i64 (x.vars)),.v (.int .i64 (x.params)),.v (.int .i64 (x.metas)),.v (.int .i64 (x.levels))]
 | .t25,x=>[.v (.int .i64 (x.kind)),.v (.int .i64 (x.index)),.str (x.name),.sl .t82 (x.levels),.sl .t25 (x.kids)]
 | .t155,x=>[.v (.bool (x.index)),.v (.bool (x.name)),.v (.int .i64 (x.levels)),.v (.int .i64 (x.kids)),.v (.int .i64 (x.below))]
 | .t86,x=>[.str (x.name),.v (.int .i64 (x.ty.kind)),.v (.int .i64 (x.ty.index)),.str (x.ty.name),.sl .t82 (x.ty.levels),.sl .t25 (x.ty.kids)]
 | .t45,x=>[.v (.int .i64 (x.params)),.v (.int .i64 (x.ty.kind)),.v (.int .i64 (x.ty.index)),.str (x.ty.name),.sl .t82 (x.ty.levels),.sl .t25 (x.ty.kids),.sl .t25 (x.rules)]
 | .t89,x=>[.v (.int .i64 (x.kind)),.v (.int .i64 (x.body.kind)),.v (.int .i64 (x.body.index)),.str (x.body.name),.sl .t82 (x.body.levels),.sl .t25 (x.body.kids),.v (.int .i64 (x.var)),.sl .t148 (x.branches)]
 | .t148,x=>[.str (x.ctor),.v (.bool (x.absurd)),.v (.int .i64 (x.tree.kind)),.v (.int .i64 (x.tree.body.kind)),.v (.int .i64 (x.tree.body.index)),.str (x.tree.body.name),.sl .t82 (x.tree.body.levels),.sl .t25 (x.tree.body.kids),.v (.int .i64 (x.tree.var)),.sl .t148 (x.tree.branches)]
 | .t91,x=>[.str (x.name),.v (.int .i64 (x.ty.kind)),.v (.int .i64 (x.ty.index)),.str (x.ty.name),.sl .t82 (x.ty.levels),.sl .t25 (x.ty.kids),.v (.int .i64 (x.arity)),.v (.int .i64 (x.tree.kind)),.v (.int .i64 (x.tree.body.kind)),.v (.int .i64 (x.tree.body.index)),.str (x.tree.body.name),.sl .t82 (x.tree.body.levels),.sl .t25 (x.tree.body.kids),.v (.int .i64 (x.tree.var)),.sl .t148 (x.tree.branches)]
 | .t48,x=>[.v (.int .i64 (x.kind)),.str (x.name),.v (.int .i64 (x.params)),.v (.int .i64 (x.ty.kind)),.v (.int .i64 (x.ty.index)),.str (x.ty.name),.sl .t82 (x.ty.levels),.sl .t25 (x.ty.kids),.v (.int .i64 (x.value.kind)),.v (.int .i64 (x.value.index)),.str (x.value.name),.sl .t82 (x.value.levels),.sl .t25 (x.value.kids),.v (.int .i64 (x.fixed)),.sl .t86 (x.ctors),.v (.int .i64 (x.rcr.params)),.v (.int .i64 (x.rcr.ty.kind)),.v (.int .i64 (x.rcr.ty.index)),.str (x.rcr.ty.name),.sl .t82 (x.rcr.ty.levels),.sl .t25 (x.rcr.ty.kids),.sl .t25 (x.rcr.rules),.sl .t91 (x.funs)]
def Qn9:(t:Tcd)→Qqv t→Nat→Nat→Option (Sigma Qqv)
 | .t86,x,1,5=>some ⟨.t25,x.ty⟩
 | .t45,x,1,5=>some ⟨.t25,x.ty⟩
 | .t89,x,1,5=>some ⟨.t25,x.body⟩
 | .t148,x,2,8=>some ⟨.t89,x.tree⟩
 | .t148,x,3,5=>some ⟨.t25,x.tree.body⟩
 | .t91,x,1,5=>some ⟨.t25,x.ty⟩
 | .t91,x,7,8=>some ⟨.t89,x.tree⟩
 | .t91,x,8,5=>some ⟨.t25,x.tree.body⟩
 | .t48,x,3,5=>some ⟨.t25,x.ty⟩
 | .t48,x,8,5=>some ⟨.t25,x.value⟩
 | .t48,x,15,7=>some ⟨.t45,x.rcr⟩
 | .t48,x,16,5=>some ⟨.t25,x.rcr.ty⟩
 | _,_,_,_=>none
def Qlh:XD UV Lvl:=X7 (fun a=>(.mk a.1 a.2:Lvl)) (JT Zb (Qkm (U:=UV) .t142))
def Qib:XD UV Qr1:=X7 (fun a=>((a.1,a.2):Qr1)) (JT Zb Zb)
def Qid:XD UV Tkn:=X7 (fun a=>(.mk a.1 a.2:Tkn)) (JT Q1u Zb)
def Qic:XD UV Tkn:=X7 (fun a=>(.mk a.1 a.2:Tkn)) (JT Q1u Zb)
def Qie:XD UV Rdr:=X7 (fun a=>(.mk a.1 a.2:Rdr)) (JT (Qkm (U:=UV) .t132) Zb)
def Qle:XD UV RWr:=X7 (fun a=>(.mk a.1 a.2:RWr)) (JT Q1u Zb)
def Qlj:XD UV Rfd:=X7 (fun a=>(.mk a.1 a.2:Rfd)) (JT Zb Zb)
def Qli:XD UV RRd:=X7 (fun a=>(.mk a.1 a.2.1 a.2.2:RRd)) (JT Q1u (JT Zb Q3f))
def Qif:XD UV Scp:=X7 (fun a=>(.mk a.1 a.2.1 a.2.2.1 a.2.2.2:Scp)) (JT Zb (JT Zb (JT Zb Zb)))
def Q16:XD UV Tm:=X7 (fun a=>(.mk a.1 a.2.1 a.2.2.1 a.2.2.2.1 a.2.2.2.2:Tm)) (JT Zb (JT Zb (JT Q1u (JT (Qkm (U:=UV) .t82) (Qkm (U:=UV) .t25)))))
def Qi9:XD UV Use:=X7 (fun a=>(.mk a.1 a.2.1 a.2.2.1 a.2.2.2.1 a.2.2.2.2:Use)) (JT Q3f (JT Q3f (JT Zb (JT Zb Zb))))
def Qlg:XD UV Ctr:=X7 (fun a=>(.mk a.1 a.2:Ctr)) (JT Q1u (Q3e (U:=UV) .t25 Q16))
def Qi8:XD UV Rcr:=X7 (fun a=>(.mk a.1 a.2.1 a.2.2:Rcr)) (JT Zb (JT (Q3e (U:=UV) .t25 Q16) (Qkm (U:=UV) .t25)))
def Qew:XD UV Tr:=X7 (fun a=>(.mk a.1 a.2.1 a.2.2.1 a.2.2.2:Tr)) (JT Zb (JT (Q3e (U:=UV) .t25 Q16) (JT Zb (Qkm (U:=UV) .t148))))
def Qia:XD UV Qr8:=X7 (fun a=>(.mk a.1 a.2.1 a.2.2:Qr8)) (JT Q1u (JT Q3f (Q3e (U:=UV) .t89 Qew)))
def Qlf:XD UV Fn:=X7 (fun a=>(.mk a.1 a.2.1 a.2.2.1 a.2.2.2:Fn)) (JT Q1u (JT (Q3e (U:=UV) .t25 Q16) (JT Zb (Q3e (U:=UV) .t89 Qew))))
def Qlk:XD UV Dcl:=X7 (fun a=>(.mk a.1 a.2.1 a.2.2.1 a.2.2.2.1 a.2.2.2.2.1 a.2.2.2.2.2.1 a.2.2.2.2.2.2.1 a.2.2.2.2.2.2.2.1 a.2.2.2.2.2.2.2.2:Dcl)) (JT Zb (JT Q1u (JT Zb (JT (Q3e (U:=UV) .t25 Q16) (JT (Q3e (U:=UV) .t25 Q16) (JT Zb (JT (Qkm (U:=UV) .t86) (JT (Q3e (U:=UV) .t45 Qi8) (Qkm (U:=UV) .t91)))))))))
def bldS:(t:Tcd)→List (It UV)→Option (Qqv t)
 | .t3,xs=>KH (α:=Int) Zb xs
 | .t4,xs=>KH (α:=Bool) Q3f xs
 | .t5,xs=>KH (α:=Byt) Qm5 xs
 | .t9,xs=>KH (α:=(List UInt8)) Q1u xs
 | .t82,xs=>KH (α:=Lvl) Qlh xs
 | .t142,xs=>KH (α:=Qr1) Qib xs
 | .t132,xs=>KH (α:=Tkn) Qid xs
 | .t137,xs=>KH (α:=Tkn) Qic xs
 | .t127,xs=>KH (α:=Rdr) Qie xs
 | .t99,xs=>KH (α:=RWr) Qle xs
 | .t69,xs=>KH (α:=Rfd) Qlj xs
 | .t77,xs=>KH (α:=RRd) Qli xs
 | .t107,xs=>KH (α:=Scp) Qif xs
 | .t25,xs=>KH (α:=Tm) Q16 xs
 | .t155,xs=>KH (α:=Use) Qi9 xs
 | .t86,xs=>KH (α:=Ctr) Qlg xs
 | .t45,xs=>KH (α:=Rcr) Qi8 xs
 | .t89,xs=>KH (α:=Tr) Qew xs
 | .t148,xs=>KH (α:=Qr8) Qia xs
 | .t91,xs=>KH (α:=Fn) Qlf xs
 | .t48,xs=>KH (α:=Dcl) Qlk xs
abbrev DV:Codec UV:=⟨Qp8,Qn9,bldS⟩
theorem Gp:∀ (t:Tcd) (x:Qqv t),(Qp8 t x).map TC.er=(encT t).enc x
 | .t3,x=>by first | rfl | (cases x;rfl)
 | .t4,x=>by first | rfl | (cases x;rfl)
 | .t5,x=>by first | rfl | (cases x;rfl)
 | .t9,x=>by first | rfl | (cases x;rfl)
 | .t82,x=>by first | rfl | (cases x;rfl)
 | .t142,x=>by first | rfl | (cases x;rfl)
 | .t132,x=>by first | rfl | (cases x;rfl)
 | .t137,x=>by first | rfl | (cases x;rfl)
 | .t127,x=>by first | rfl | (cases x;rfl)
 | .t99,x=>by first | rfl | (cases x;rfl)
 | .t69,x=>by first | rfl | (cases x;rfl)
 | .t77,x=>by first | rfl | (cases x;rfl)
 | .t107,x=>by first | rfl | (cases x;rfl)
 | .t25,x=>by first | rfl | (cases x;rfl)
 | .t155,x=>by first | rfl | (cases x;rfl)
 | .t86,x=>by first | rfl | (cases x;rfl)
 | .t45,x=>by first | rfl | (cases x;rfl)
 | .t89,x=>by first | rfl | (cases x;rfl)
 | .t148,x=>by first | rfl | (cases x;rfl)
 | .t91,x=>by first | rfl | (cases x;rfl)
 | .t48,x=>by first | rfl | (cases x;rfl)
theorem hp82:Jb DV Qlh (encT .t82).enc:=JK (QB J2 (XT (U:=UV) .t142)) fun a=>rfl
theorem hp142:Jb DV Qib (encT .t142).enc:=JK (QB J2 J2) fun a=>rfl
theorem hp132:Jb DV Qid (encT .t132).enc:=JK (QB ZP J2) fun a=>rfl
theorem hp137:Jb DV Qic (encT .t137).enc:=JK (QB ZP J2) fun a=>rfl
theorem hp127:Jb DV Qie (encT .t127).enc:=JK (QB (XT (U:=UV) .t132) J2) fun a=>rfl
theorem hp99:Jb DV Qle (encT .t99).enc:=JK (QB ZP J2) fun a=>rfl
theorem hp69:Jb DV Qlj (encT .t69).enc:=JK (QB J2 J2) fun a=>rfl
theorem hp77:Jb DV Qli (encT .t77).enc:=JK (QB ZP (QB J2 XU)) fun a=>rfl
theorem hp107:Jb DV Qif (encT .t107).enc:=JK (QB J2 (QB J2 (QB J2 J2))) fun a=>rfl
theorem Qdi:Jb DV Q16 (encT .t25).enc:=JK (QB J2 (QB J2 (QB ZP (QB (XT (U:=UV) .t82) (XT (U:=UV) .t25))))) fun a=>rfl
theorem hp155:Jb DV Qi9 (encT .t155).enc:=JK (QB XU (QB XU (QB J2 (QB J2 J2)))) fun a=>rfl
theorem hp86:Jb DV Qlg (encT .t86).enc:=JK (QB ZP (Kg (U:=UV) (D:=DV) Gp Tcd.t25 (Qdi))) fun a=>rfl
theorem Qo3:Jb DV Qi8 (encT .t45).enc:=JK (QB J2 (QB (Kg (U:=UV) (D:=DV) Gp Tcd.t25 (Qdi)) (XT (U:=UV) .t25))) fun a=>rfl
theorem Qml:Jb DV Qew (encT .t89).enc:=JK (QB J2 (QB (Kg (U:=UV) (D:=DV) Gp Tcd.t25 (Qdi)) (QB J2 (XT (U:=UV) .t148)))) fun a=>rfl
theorem hp148:Jb DV Qia (encT .t148).enc:=JK (QB ZP (QB XU (Kg (U:=UV) (D:=DV) Gp Tcd.t89 (Qml)))) fun a=>rfl
theorem hp91:Jb DV Qlf (encT .t91).enc:=JK (QB ZP (QB (Kg (U:=UV) (D:=DV) Gp Tcd.t25 (Qdi)) (QB J2 (Kg (U:=UV) (D:=DV) Gp Tcd.t89 (Qml))))) fun a=>rfl
theorem hp48:Jb DV Qlk (encT .t48).enc:=JK (QB J2 (QB ZP (QB J2 (QB (Kg (U:=UV) (D:=DV) Gp Tcd.t25 (Qdi)) (QB (Kg (U:=UV) (D:=DV) Gp Tcd.t25 (Qdi)) (QB J2 (QB (XT (U:=UV) .t86) (QB (Kg (U:=UV) (D:=DV) Gp Tcd.t45 (Qo3)) (XT (U:=UV) .t91))))))))) fun a=>rfl
theorem Ql:DV.OK where
 fl:=Gp
 sz:=fun t x=>by cases t <;> first | rfl | (cases x;rfl)
 sub:=fun t x off n t' x' h=>by
  unfold Codec.sub at h
  dsimp only [DV] at h
  unfold Qn9 at h
  split at h
  all_goals (cases h;try exact ⟨rfl,rfl⟩)
 bld:=fun tk t xs x h=>by
  cases t with
  | t3=>exact Jl (D:=DV) J2 tk xs x h
  | t4=>exact Jl (D:=DV) XU tk xs x h
  | t5=>exact Jl (D:=DV) pByt_ok tk xs x h
  | t9=>exact Jl (D:=DV) ZP tk xs x h
  | t82=>exact Jl (D:=DV) hp82 tk xs x h
  | t142=>exact Jl (D:=DV) hp142 tk xs x h
  | t132=>exact Jl (D:=DV) hp132 tk xs x h
  | t137=>exact Jl (D:=DV) hp137 tk xs x h
  | t127=>exact Jl (D:=DV) hp127 tk xs x h
  | t99=>exact Jl (D:=DV) hp99 tk xs x h
  | t69=>exact Jl (D:=DV) hp69 tk xs x h
  | t77=>exact Jl (D:=DV) hp77 tk xs x h
  | t107=>exact Jl (D:=DV) hp107 tk xs x h
  | t25=>exact Jl (D:=DV) Qdi tk xs x h
  | t155=>exact Jl (D:=DV) hp155 tk xs x h
  | t86=>exact Jl (D:=DV) hp86 tk xs x h
  | t45=>exact Jl (D:=DV) Qo3 tk xs x h
  | t89=>exact Jl (D:=DV) Qml tk xs x h
  | t148=>exact Jl (D:=DV) hp148 tk xs x h
  | t91=>exact Jl (D:=DV) hp91 tk xs x h
  | t48=>exact Jl (D:=DV) hp48 tk xs x h
def Qoy:BytOf UV where
 t:=.t5
 bs:=fun s=>(s.map fun b=>(⟨b.toNat⟩:Byt):List Byt)
 sz:=rfl
 ok:=fun l s=>by
  have h:∀ (l:List Byt),(l++s.map fun b=>(⟨b.toNat⟩:Byt)).map bytC=l.map bytC++Qqi s:=fun l=>by rw [Cr,CJ];rfl
  exact h l
 sb:=fun l=>(l:List Byt).map Byt.u8
 back:=fun l=>⟨l,rfl,rfl⟩
abbrev Qr6:TCfg UV:=⟨tabs,[(3,.t3),(4,.t4),(5,.t5),(9,.t9),(82,.t82),(142,.t142),(132,.t132),(137,.t137),(127,.t127),(99,.t99),(69,.t69),(77,.t77),(107,.t107),(25,.t25),(155,.t155),(86,.t86),(45,.t45),(89,.t89),(148,.t148),(91,.t91),(48,.t48)],some Qoy⟩
end
noncomputable section
open Go.RowKit
inductive PK where
 | p0 (T:TypeId)
 | p1 (T:TypeId)
 | p2 (T:TypeId)
 | num (T:TypeId)
def PK.Ty:PK→Type
 | .p0 _=>Unit
 | .p1 _=>Int
 | .p2 _=>Int×Int
 | .num _=>Int
def Q20:(k:PK)→k.Ty→Value
 | .p0 T,_=>.iface T (.agg #[])
 | .p1 T,a=>.iface T (.agg #[.int .i64 a])
 | .p2 T,a=>.iface T (.agg #[.int .i64 a.1,.int .i64 a.2])
 | .num T,a=>.iface T (.int .i64 a)
def Qg1:List Value→Option (List Int)
 | []=>some []
 | v::r=>match v with
  | .int .i64 a=>match Qg1 r with
   | some l=>some (a::l)
   | none=>none
  | _=>none
def Qlv (T:TypeId):(k:PK)→List Int→Option k.Ty
 | .p0 T',[]=>cond (Nat.beq T T') (some ()) none
 | .p1 T',[a]=>cond (Nat.beq T T') (some a) none
 | .p2 T',[a,b]=>cond (Nat.beq T T') (some (a,b)) none
 | _,_=>none
def Qjw (T:TypeId) (k:PK) (us:List Value):Option k.Ty:=match Qg1 us with
 | some l=>Qlv T k l
 | none=>none
def Qlu (T:TypeId) (a:Int):(k:PK)→Option k.Ty
 | .num T'=>cond (Nat.beq T T') (some a) none
 | _=>none
def Ql2 (k:PK):Value→Option k.Ty
 | .iface T (.agg us)=>Qjw T k us.toList
 | .iface T (.int .i64 a)=>Qlu T a k
 | _=>none
theorem Qgk {α:Type} {T T':Nat} {x e:α} (h:cond (Nat.beq T T') (some x) none=some e):T=T'∧x=e:=by
 cases hb:Nat.beq T T' with
 | false=>rw [hb] at h;cases h
 | true=>rw [hb] at h;cases h;exact ⟨C4 hb,rfl⟩
theorem Qbe:∀ {us:List Value} {l:List Int},Qg1 us=some l→us=l.map fun a=>.int .i64 a
 | [],l,h=>by cases h;rfl
 | v::r,l,h=>by
  unfold Qg1 at h
  split at h
  ·split at h
   ·rename_i l' hl;cases h;rw [Qbe hl];rfl
   ·cases h
  ·cases h
theorem decPI_ok {T:TypeId} {k:PK} {l:List Int} {e:k.Ty} (h:Qlv T k l=some e):Value.iface T (.agg (l.map fun a=>.int .i64 a).toArray)=Q20 k e:=by
 cases k with
 | p0 T' =>
  cases l with
  | nil=>obtain ⟨h1,h2⟩:=Qgk (show cond (Nat.beq T T') (some ()) none=some e from h);subst h1;rfl
  | cons x us=>cases h
 | p1 T' =>
  cases l with
  | nil=>cases h
  | cons a l =>
   cases l with
   | nil=>obtain ⟨h1,h2⟩:=Qgk (show cond (Nat.beq T T') (some a) none=some e from h);subst h1;subst h2;rfl
   | cons b l=>cases h
 | p2 T' =>
  cases l with
  | nil=>cases h
  | cons a l =>
   cases l with
   | nil=>cases h
   | cons b l =>
    cases l with
    | nil=>obtain ⟨h1,h2⟩:=Qgk (show cond (Nat.beq T T') (some (a,b)) none=some e from h);subst h1;subst h2;rfl
    | cons c l=>cases h
 | num T'=>cases l <;> cases h
theorem decPL_ok {T:TypeId} {k:PK} {us:List Value} {e:k.Ty} (h:Qjw T k us=some e):Value.iface T (.agg us.toArray)=Q20 k e:=by
 unfold Qjw at h
 split at h
 ·rename_i l hl;rw [Qbe hl];exact decPI_ok h
 ·cases h
theorem decPN_ok {T:TypeId} {k:PK} {a:Int} {e:k.Ty} (h:Qlu T a k=some e):Value.iface T (.int .i64 a)=Q20 k e:=by
 cases k with
 | num T'=>obtain ⟨h1,h2⟩:=Qgk (show cond (Nat.beq T T') (some a) none=some e from h);subst h1;subst h2;rfl
 | p0 T'=>cases h
 | p1 T'=>cases h
 | p2 T'=>cases h
theorem Qgh {k:PK} {v:Value} {e:k.Ty} (h:Ql2 k v=some e):v=Q20 k e:=by
 unfold Ql2 at h
 split at h
 ·rename_i T us
  have:=decPL_ok h
  simpa using this
 ·exact decPN_ok h
 ·cases h
section
variable {U:Univ}
inductive IM (U:Univ) where
 | st
 | lab (sl:List (List HL×HK U))
 | labP (sl dl:List (List HL×HK U)) (pk:PK)
structure IH (U:Univ) where
 fn:Func
 h:Hints U
 md:IM U
def Q0j (c:Option Code) (H:Hints U):Option (Code×Tc U):=match c with
 | none=>none
 | some c=>match Ka H 0 c with
  | some (_,tc)=>some (c,tc)
  | none=>none
theorem WK {b:Option Code} {H:Hints U} {c:Code} {tc:Tc U} (h:Q0j b H=some (c,tc)):tc.code=c∧b=some c:=by
 unfold Q0j at h
 split at h
 ·cases h
 ·split at h
  ·rename_i n' tc' hcc;cases h
   exact ⟨JP _ hcc,Z⟩
  ·cases h
variable (D:Codec U) (C:TCfg U) (K:FuncId→List (TAV U)→Option (KR U))
def Qae (s:TSt U):List ResultVar→Option (List (TAV U))
 | []=>some []
 | v::vs=>match Qaf D C s v with
  | some x=>match Qae s vs with
   | some xs=>some (x::xs)
   | none=>none
  | none=>none
def Qct:List (TAV U)→TTV U
 | [x]=>.v x
 | xs=>.tup xs
def Qdp (h:Lab U) (s0 s:TSt U) (rs:List ResultVar):Option (tup (h.sl.map (·.2))):=match GB D h s0 s with
 | some t=>match Qae D C (lab h s0 t) rs with
  | some _=>some t
  | none=>none
 | none=>none
def Qgz (s:TSt U) (rs:List ResultVar):TTV U:=match Qae D C s rs with
 | some xs=>Qct xs
 | none=>.unk
def Gs (X:Qqo U) (Y:Qqn U) {β:Type} (s:TSt U) (u:Option Value) (kv:TSt U→Option β) (kd:Value→TSt U→Option β):Option β:=match s.df with
 | []=>match u with
  | none=>kv s
  | some v=>kd v s
 | f::is=>match X Y (.dfr f u) (Zg is) s.m with
  | some xo=>xo.run (fun x m2=>cond (YX (Wo m2.tk s.m.tk) s.tm) (match u with
    | none=>kv ⟨s.tm,m2,s.nt,[]⟩
    | some v=>match x with
     | .v (.one (.c (.v (.bool true))))=>kv ⟨s.tm,m2,s.nt,[]⟩
     | .v (.one (.c (.v (.bool false))))=>kd v ⟨s.tm,m2,s.nt,[]⟩
     | _=>none) none) fun _ _=>none
  | none=>none
abbrev EndS (U:Univ):=Option Value×TSt U
def Qnz (X:Qqo U) (Y:Qqn U) (fn:Func) (tc:Tc U) (args:List (TAV U)) (m:TMe U):CO U:=⟨fun k d=>JJ D C K X tc Y none (R:=EndS U) (fun s=>some (none,s)) (fun v s=>some (some v,s)) ⟨JD 0 args,m,fn.ntmps,[]⟩
 (fun a=>Gs X Y a.2 a.1 (fun s=>match Qae D C s fn.results.toList with
  | some xs=>k (Qct xs) s.m
  | none=>none) fun v s=>d v s.m) fun e s=>match e with
 | .normal=>Gs X Y s none (fun s=>match Qae D C s fn.results.toList with
  | some xs=>k (Qct xs) s.m
  | none=>none) fun v s=>d v s.m
 | _=>none⟩
def Qo2 (X:Qqo U) (Y:Qqn U) (fn:Func) (tc:Tc U) (L:Lab U) (s0:TSt U):CO U:=⟨fun k _=>Option.bind (JJ D C K X tc Y none (fun s=>Gs X Y s none (fun s=>Qdp D C L s0 s fn.results.toList) fun _ _=>none) (fun v s=>Gs X Y s (some v) (fun s=>Qdp D C L s0 s fn.results.toList) fun _ _=>none) s0 some fun e s=>match e with
 | .normal=>Gs X Y s none (fun s=>Qdp D C L s0 s fn.results.toList) fun _ _=>none
 | _=>none) fun t=>k (Qgz D C (lab L s0 t) fn.results.toList) (lab L s0 t).m⟩
def Q61 (pk:PK) (Ld:Lab U) (s0:TSt U) {α:Type} (v:Value) (s:TSt U):Option (α⊕(pk.Ty×tup (Ld.sl.map (·.2)))):=match Ql2 pk v,GB D Ld s0 s with
 | some e,some t=>some (.inr (e,t))
 | _,_=>none
def Qh8 (L:Lab U) (s0:TSt U) (rs:List ResultVar) {α:Type} (s:TSt U):Option (tup (L.sl.map (·.2))⊕α):=match Qdp D C L s0 s rs with
 | some t=>some (.inl t)
 | none=>none
def Qo0 (X:Qqo U) (Y:Qqn U) (fn:Func) (tc:Tc U) (L Ld:Lab U) (pk:PK) (s0:TSt U):CO U:=⟨fun k d=>Option.bind (JJ D C K X tc Y none (R:=tup (L.sl.map (·.2))⊕(pk.Ty×tup (Ld.sl.map (·.2)))) (fun s=>Gs X Y s none (Qh8 D C L s0 fn.results.toList) (Q61 D pk Ld s0)) (fun v s=>Gs X Y s (some v) (Qh8 D C L s0 fn.results.toList) (Q61 D pk Ld s0)) s0 some fun e s=>match e with
 | .normal=>Gs X Y s none (Qh8 D C L s0 fn.results.toList) (Q61 D pk Ld s0)
 | _=>none) (Sum.elim (fun t=>k (Qgz D C (lab L s0 t) fn.results.toList) (lab L s0 t).m) fun a=>d (Q20 pk a.1) (lab Ld s0 a.2).m)⟩
def Qai:List (TAV U)→Option (List Nat)
 | []=>some []
 | .one (.ptr i off)::r=>cond (Nat.beq off 0) (match Qai r with
  | some l=>some (i::l)
  | none=>none) none
 | _=>none
def Qep (ops:List Oper):Option (Nat×Option Nat):=match ops with
 | [⟨some d,.call { callee:=.builtin .recover,args:=xs,argTypes:=_ },_,_,_,none⟩]=>match xs.toList with
  | []=>some (d,none)
  | _=>none
 | [⟨some d,.call { callee:=.builtin .recover,args:=xs,argTypes:=_ },_,_,_,none⟩,⟨some d2,.assign (.tmp d1),_,_,_,none⟩]=>match xs.toList with
  | []=>cond (Nat.beq d1 d) (some (d,some d2)) none
  | _=>none
 | _=>none
def Qng:Tc U→Option ((Nat×Option Nat)×Tc U)
 | .seq (.reg _ ops) b=>match Qep ops.toList with
  | some d=>some (d,b)
  | none=>none
 | _=>none
def Qi2 (d:Nat×Option Nat) (v:Value) (tm:List (Nat×TTV U)):List (Nat×TTV U):=match d.2 with
 | none=>(d.1,.v (.one (.c (.v v))))::tm
 | some d2=>(d2,.v (.one (.c (.v v))))::(d.1,.v (.one (.c (.v v))))::tm
def Qi3 (d:Nat×Option Nat) (n:Nat):Bool:=Nat.blt d.1 n&&match d.2 with
 | none=>true
 | some d2=>Nat.blt d2 n
def Qmk (X:Qqo U) (Y:Qqn U) (tc:Tc U) (rc:Bool) (tm:List (Nat×TTV U)) (nt:Nat) (m:TMe U):CO U:=⟨fun k _=>JJ D C K X tc Y none (R:=TSt U) (fun s=>some s) (fun _ _=>none) ⟨tm,m,nt,[]⟩
 (fun s=>cond (Q5l s.df []) (k (Qpf rc) s.m) none) fun e s=>match e with
 | .normal=>cond (Q5l s.df []) (k (Qpf rc) s.m) none
 | _=>none⟩
def Qij (fn:Func):Bool:=fn.results.toList.isEmpty
def Qmj (X:Qqo U) (I:List (Nat×IH U)):Qqo U:=fun Y c args m=>match c with
 | .yld _=>none
 | .fn f=>match Qpt I f with
  | none=>none
  | some ih=>match Q0j ih.fn.body ih.h with
   | none=>none
   | some (c,tc)=>cond (Nat.ble args.length ih.fn.ntmps) (match ih.md with
    | .st=>some (Qnz D C K X Y ih.fn tc args m)
    | .lab sl=>match U3 D (W6 sl c) ⟨JD 0 args,m,ih.fn.ntmps,[]⟩ with
     | none=>none
     | some (L,s0)=>cond (Q5l s0.df []) (some (Qo2 D C K X Y ih.fn tc L s0)) none
    | .labP sl dl pk=>match U3 D (W6 sl c) ⟨JD 0 args,m,ih.fn.ntmps,[]⟩ with
     | none=>none
     | some (L,s0)=>match Q09 D (W6 dl c) s0 with
      | none=>none
      | some Ld=>cond (Q5l s0.df []) (some (Qo0 D C K X Y ih.fn tc L Ld pk s0)) none) none
 | .dfr f u=>match Qpt I f with
  | none=>none
  | some ih=>match Q0j ih.fn.body ih.h,Qai args with
   | some (_,tc),some is=>cond (Nat.ble args.length ih.fn.ntmps&&Qij ih.fn) (match Qng tc with
    | some (d,tb)=>cond (Qi3 d ih.fn.ntmps&&(u.getD .nilIface).oneCell') (some (Qmk D C K X Y tb true (Qi2 d (u.getD .nilIface) (JD 0 args)) ih.fn.ntmps m)) none
    | none=>some (Qmk D C K X Y tc false (JD 0 args) ih.fn.ntmps m)) none
   | _,_=>none
def Qos (T X:Qqo U):Qqo U:=fun Y c args m=>match T Y c args m with
 | some xo=>some xo
 | none=>X Y c args m
def Qo1 (T:Qqo U) (I:List (Nat×IH U)):Nat→Qqo U
 | 0=>T
 | n+1=>Qos T (Qmj D C K (Qo1 T I n) I)
def IOK (P:Program):List (Nat×IH U)→Prop
  | []=>True
  | (f,ih)::r=>(P.funcs[f]?=some ih.fn∧Qc P f)∧IOK P r
variable {D C K}
theorem IOK.get {P:Program}:∀ {I:List (Nat×IH U)} {f:Nat} {ih:IH U},IOK P I→Qpt I f=some ih→P.funcs[f]?=some ih.fn∧Qc P f
  | [],f,ih,_,h=>by cases h
  | (g,x)::r,f,ih,hI,h=>by
    rw [Q1] at h
    split at h
    · rename_i e;subst e;cases h;exact hI.1
    · exact IOK.get hI.2 h
theorem Q84 {P:Program} (hT:C.T.OK P) (hD:D.OK) {s:TSt U}:∀ {rs:List ResultVar} {xs:List (TAV U)},Qae D C s rs=some xs→RAs P (s.er D) rs (xs.map (TAV.er D s.m.tk))
 | [],xs,h=>by cases h;exact .nil
 | v::vs,xs,h=>by
  unfold Qae at h
  split at h
  ·rename_i x hx
   split at h
   ·rename_i ys hy;cases h
    exact Q38 hT hD hx (Q84 hT hD hy)
   ·cases h
  ·cases h
theorem Xm (tk:List (Nat×TTok U)):∀ (args:List (TAV U)) (i:Nat),QI (TTV.er D tk) (JD i args)=J4 i (args.map (TAV.er D tk))
 | [],i=>rfl
 | x::xs,i=>by
  show (i,TV.v (x.er D tk))::QI (TTV.er D tk) (JD (i+1) xs)=(i,TV.v (x.er D tk))::J4 (i+1) _
  rw [Xm tk xs (i+1)]
theorem Qeo (tk:List (Nat×TTok U)) (xs:List (TAV U)):(Qct xs).er D tk=Qh (xs.map (TAV.er D tk)):=by
 match xs with
 | []=>rfl
 | [x]=>rfl
 | x::y::xs=>rfl
theorem Q4j (fn:Func) (args:List (TAV U)) (m:TMe U):((⟨JD 0 args,m,fn.ntmps,[]⟩:TSt U).er D)=⟨J4 0 (args.map (TAV.er D m.tk)),(m.er D).hp,(m.er D).tk,(m.er D).nx,fn.ntmps,[]⟩:=by
 show (⟨QI (TTV.er D m.tk) (JD 0 args),Qg D m.tk m.es,XB m.tk,m.nx,fn.ntmps,[]⟩:St)=_
 rw [Xm];rfl
theorem ToW.trans {W:Wd} {P:Program} {nx0:Nat} {x y z:St} (h:ToW W P nx0 x y) (k:ToW W P nx0 y z):ToW W P nx0 x z:=fun E a b c=>(h E a b c).trans (k E a b c)
theorem ToW.weak {W:Wd} {P:Program} {nx0:Nat} {x y:St} (h:StW x y):ToW W P nx0 x y:=fun E a b c=>To.weak h
def Qmn:Option Value→Exit→Prop
 | none,e=>e=.normal∨e=.ret
 | some v,e=>e=.panic (ZT v)
theorem WI {W:Wd} {P:Program} {X:Qqo U} (hX:WN W D P X) {Y:Qqn U} (fn:Func) (nx0:Nat) {s:TSt U} {u:Option Value} {β:Type} {kv:TSt U→Option β} {kd:Value→TSt U→Option β} {r:β} (hY:YOK W D P Y s.m) (h:Gs X Y s u kv kd=some r) :
  ∃ s':TSt U,SfM s.m s'.m∧s'.df=[]∧s'.tm=s.tm∧s'.nt=s.nt ∧
   ((kv s'=some r∧∀ e st1 xs,Qmn u e→st1.df=[]→ToW W P nx0 (s'.er D) st1→RAs P st1 fn.results.toList xs→EndO W P fn nx0 e (s.er D) (.val (Qh xs) st1.mem)) ∨
    (∃ v,u=some v∧kd v s'=some r∧∀ e st1,Qmn u e→st1.df=[]→ToW W P nx0 (s'.er D) st1→EndO W P fn nx0 e (s.er D) (.die v st1.mem))):=by
 unfold Gs at h
 split at h
 ·rename_i hd
  cases u with
  | none=>exact ⟨s,SfM.refl _,hd,rfl,rfl,.inl ⟨h,fun e st1 xs he h1 h2 h3=>.ret he h1 h2 h3⟩⟩
  | some v=>exact ⟨s,SfM.refl _,hd,rfl,rfl,.inr ⟨v,rfl,h,fun e st1 he h1 h2=>by cases he;exact .die h1 h2⟩⟩
 ·rename_i f is hd
  split at h
  ·rename_i xo hxo
   obtain ⟨q,q1,q2,q3⟩:=hX _ _ _ _ _ hY hxo _ _ _ h
   obtain ⟨is',rc,m2,ha,rfl,hdm⟩:=q1
   have eis:is'=is:=by
    have key:∀ (a b:List Nat),Zg (U:=U) a=Zg b→a=b:=by
     intro a
     induction a with
     | nil=>intro b h;cases b with
      | nil=>rfl
      | cons y b=>cases h
     | cons x a ih=>intro b h;cases b with
      | nil=>cases h
      | cons y b =>
       have h':(TAV.one (.ptr x 0):TAV U)::Zg a=.one (.ptr y 0)::Zg b:=h
       injection h' with h1 h2
       cases h1
       rw [ih b h2]
    exact (key _ _ ha).symm
   subst eis
   dsimp only [OutT.to] at q3
   have q2':SfM s.m m2:=q2
   cases hf:YX (Wo m2.tk s.m.tk) s.tm with
   | false=>rw [hf] at q3;cases q3
   | true =>
    rw [hf,C7] at q3
    have hw:ToW W P nx0 ⟨(s.er D).tm,(m2.er D).hp,(m2.er D).tk,(m2.er D).nx,(s.er D).nt,[]⟩ ((⟨s.tm,m2,s.nt,[]⟩:TSt U).er D):=by
     have hz:=Qbr (D:=D) (st:=⟨s.tm,s.m,s.nt,[]⟩) (m:=m2) (fun t z hz V w v hv=>GR hf q2'.tk hz V w v hv)
     exact ToW.weak hz
    refine ⟨⟨s.tm,m2,s.nt,[]⟩,q2',Z,Z,Z,?_⟩
    cases u with
    | none=>exact .inl ⟨q3,fun e st1 xs he h1 h2 h3=>.dret he hd hdm h1 (hw.trans h2) h3⟩
    | some v =>
     cases rc with
     | true=>exact .inl ⟨q3,fun e st1 xs he h1 h2 h3=>by cases he;exact .drec hd hdm h1 (hw.trans h2) h3⟩
     | false=>exact .inr ⟨v,rfl,q3,fun e st1 he h1 h2=>by cases he;exact .ddie hd hdm h1 (hw.trans h2)⟩
  ·cases h
theorem Qbz {W:Wd} {P:Program} (hP:P=Tryz.prog) {X:Qqo U} {Y:Qqn U} {f:FuncId} {fn:Func} {c:Code} {tc:Tc U} {args:List (TAV U)} {m:TMe U} {s0:TSt U} (hT:C.T.OK P) (hD:D.OK) (hK:Q0s W D P K) (hX:WN W D P X) (hY:YOK W D P Y m) (hf:P.funcs[f]?=some fn) (hen:Qc P f) (hc:tc.code=c) (hb:fn.body=some c) (hle:args.length≤fn.ntmps) (hto:∀ E,To E ((⟨JD 0 args,m,fn.ntmps,[]⟩:TSt U).er D) (s0.er D)) (hsf:Sfx ⟨JD 0 args,m,fn.ntmps,[]⟩ s0)
  {R β:Type} {ret:TSt U→Option R} {pan:Value→TSt U→Option R} {p:R→Option β} {k:Exit→TSt U→Option β} {r:β} (h:JJ D C K X tc Y none ret pan s0 p k=some r) {S:OutM→Prop}
  (h1:∀ e s,Sfx s0 s→k e s=some r→∃ o,S o∧EndO W P fn m.nx e (s.er D) o)
  (h2:∀ a,p a=some r→(∃ s,Sfx s0 s∧(ret s=some a∨∃ v,pan v s=some a))→(∀ s,Sfx s0 s→ret s=some a→∃ o,S o∧EndO W P fn m.nx .ret (s.er D) o)∧∀ v s,Sfx s0 s→pan v s=some a→∃ o,S o∧EndO W P fn m.nx (.panic (ZT v)) (s.er D) o):CallP W P f (args.map (TAV.er D m.tk)) (m.er D) S:=by
 have hm:P.follows .mixedOrders=true:=by rw [hP];exact Qcy
 have go:(∀ E ro n Q,Fit W P none E ro→E.V0.nx≤s0.m.nx→(∀ e st' o,S o→EndO W P fn m.nx e st' o→XQ E Q e st')→XC E ro n Q tc.code (s0.er D))→CallP W P f (args.map (TAV.er D m.tk)) (m.er D) S:=by
  intro hx
  refine Gw hf hb hen (by rw [Cm];exact hle) (fun w0 M V0 Q hW h0 hQ=>?_) hP
  have key:=hx ⟨P,w0,M,V0⟩ none 0 Q ⟨rfl,hW,rfl⟩ (Ca h0 hsf.nx) hQ
  rw [hc] at key
  have:=ZS (hto _) key
  rw [Q4j] at this
  exact this
 rcases Jt hP hm hT hD hK hX tc (hY.mono hsf.sfm) h with ⟨e,s,hs,hk,hx⟩ | ⟨a,hp,hex,hx⟩
 ·obtain ⟨o,o1,o2⟩:=h1 e s hs hk
  exact go (fun E ro n Q ft h0 hQ=>hx E ro n Q ft h0 (hQ e _ o o1 o2))
 ·obtain ⟨o2,o3⟩:=h2 a hp hex
  exact go (fun E ro n Q ft h0 hQ=>hx E ro n Q ft h0 (fun s hs e=>let ⟨o,q1,q2⟩:=o2 s hs e;hQ _ _ o q1 q2) (fun v s hs e=>let ⟨o,q1,q2⟩:=o3 v s hs e;hQ _ _ o q1 q2))
theorem Q9i {W:Wd} {P:Program} (hP:P=Tryz.prog) {X:Qqo U} {Y:Qqn U} {f:FuncId} {fn:Func} {c:Code} {tc:Tc U} {args:List (TAV U)} {m:TMe U} {s0:TSt U} (hT:C.T.OK P) (hD:D.OK) (hK:Q0s W D P K) (hX:WN W D P X) (hY:YOK W D P Y m) (hf:P.funcs[f]?=some fn) (hen:Qc P f) (hc:tc.code=c) (hb:fn.body=some c) (hle:args.length≤fn.ntmps) (hto:∀ E,To E ((⟨JD 0 args,m,fn.ntmps,[]⟩:TSt U).er D) (s0.er D)) (hsf:Sfx ⟨JD 0 args,m,fn.ntmps,[]⟩ s0)
  {R β:Type} {ret:TSt U→Option R} {pan:Value→TSt U→Option R} {p:R→Option β} {k:Exit→TSt U→Option β} {r:β} (h:JJ D C K X tc Y none ret pan s0 p k=some r) {S:OutM→Prop}
  (h1:∀ e s,Sfx s0 s→k e s=some r→∃ o,S o∧EndO W P fn m.nx e (s.er D) o)
  (h2:∀ a,p a=some r→(∃ s,Sfx s0 s∧(ret s=some a∨∃ v,pan v s=some a))→∃ o,S o∧(∀ s,Sfx s0 s→ret s=some a→EndO W P fn m.nx .ret (s.er D) o)∧∀ v s,Sfx s0 s→pan v s=some a→EndO W P fn m.nx (.panic (ZT v)) (s.er D) o):∃ o,S o∧CallO W P f (args.map (TAV.er D m.tk)) (m.er D) o:=by
 have one:∀ o,S o→CallP W P f (args.map (TAV.er D m.tk)) (m.er D) (fun o'=>o'=o)→∃ o,S o∧CallO W P f (args.map (TAV.er D m.tk)) (m.er D) o:=fun o ho h=>⟨o,ho,CallO.of_p h⟩
 have hm:P.follows .mixedOrders=true:=by rw [hP];exact Qcy
 rcases Jt hP hm hT hD hK hX tc (hY.mono hsf.sfm) h with ⟨e,s,hs,hk,hx⟩ | ⟨a,hp,hex,hx⟩
 ·obtain ⟨o,o1,o2⟩:=h1 e s hs hk
  refine one o o1 (Gw hf hb hen (by rw [Cm];exact hle) (fun w0 M V0 Q hW h0 hQ=>?_) hP)
  have key:=hx ⟨P,w0,M,V0⟩ none 0 Q ⟨rfl,hW,rfl⟩ (Ca h0 hsf.nx) (hQ _ _ o rfl o2)
  rw [hc] at key
  have:=ZS (hto _) key
  rw [Q4j] at this
  exact this
 ·obtain ⟨o,o1,o2,o3⟩:=h2 a hp hex
  refine one o o1 (Gw hf hb hen (by rw [Cm];exact hle) (fun w0 M V0 Q hW h0 hQ=>?_) hP)
  have key:=hx ⟨P,w0,M,V0⟩ none 0 Q ⟨rfl,hW,rfl⟩ (Ca h0 hsf.nx) (fun s hs e=>hQ _ _ o rfl (o2 s hs e)) (fun v s hs e=>hQ _ _ o rfl (o3 v s hs e))
  rw [hc] at key
  have:=ZS (hto _) key
  rw [Q4j] at this
  exact this
theorem Q4r {W:Wd} {P:Program} {f:FuncId} {args:List (TAV U)} {m:TMe U} {β:Type} {k:TTV U→TMe U→Option β} {d:Value→TMe U→Option β} {r:β} (h:∃ o,(∃ q:OutT U,o=q.er D∧SfM m q.m∧q.to k d=some r)∧CallO W P f (args.map (TAV.er D m.tk)) (m.er D) o):∃ q:OutT U,Qcf W D P (.fn f) args m q∧SfM m q.m∧q.to k d=some r:=by
 obtain ⟨o,⟨q,rfl,q2,q3⟩,hc⟩:=h
 exact ⟨q,hc,q2,q3⟩
theorem inlS_ok {W:Wd} {P:Program} (hP:P=Tryz.prog) (hT:C.T.OK P) (hD:D.OK) (hK:Q0s W D P K) {X:Qqo U} (hX:WN W D P X) {Y:Qqn U} {f:FuncId} {fn:Func} {c:Code} {tc:Tc U} {args:List (TAV U)} {m:TMe U} (hY:YOK W D P Y m) (hf:P.funcs[f]?=some fn) (hen:Qc P f) (hc:tc.code=c) (hb:fn.body=some c) (hle:args.length≤fn.ntmps):Qe4 m (Qnz D C K X Y fn tc args m) (Qcf W D P (.fn f) args m):=by
 intro β k d r hr
 have ho:∀ (s:TSt U) (u:Option Value),Sfx ⟨JD 0 args,m,fn.ntmps,[]⟩ s→Gs X Y s u (fun s=>match Qae D C s fn.results.toList with
   | some xs=>k (Qct xs) s.m
   | none=>none) (fun v s=>d v s.m)=some r→∃ o,(∃ q:OutT U,o=q.er D∧SfM m q.m∧q.to k d=some r)∧∀ e,Qmn u e→EndO W P fn m.nx e (s.er D) o:=by
  intro s u hs hend
  obtain ⟨s',a1,a2,a3,a4,a5⟩:=WI hX fn m.nx (hY.mono hs.sfm) hend
  have sm:SfM m s'.m:=hs.sfm.trans a1
  rcases a5 with ⟨b1,b2⟩ | ⟨v,rfl,b1,b2⟩
  ·split at b1
   ·rename_i xs hxs
    refine ⟨_,⟨.val (Qct xs) s'.m,Z,sm,b1⟩,fun e he=>?_⟩
    have:=b2 e (s'.er D) _ he a2 (ToW.refl _ _ _ _) (Q84 hT hD hxs)
    show EndO W P fn m.nx e (s.er D) (.val ((Qct xs).er D s'.m.tk) (s'.m.er D))
    rw [Qeo]
    exact this
   ·cases b1
  ·exact ⟨_,⟨.die v s'.m,rfl,sm,b1⟩,fun e he=>b2 e (s'.er D) he a2 (ToW.refl _ _ _ _)⟩
 refine Q4r (Q9i hP hT hD hK hX hY hf hen hc hb hle (fun E=>To.refl _ _) (Sfx.refl _) hr (fun e s hs hk=>?_) (fun a hp hex=>?_))
 ·cases e with
  | normal=>obtain ⟨o,o1,o2⟩:=ho s none hs hk;exact ⟨o,o1,o2 _ (.inl rfl)⟩
  | ret=>cases hk
  | exit j=>cases hk
  | goto l=>cases hk
  | panic c=>cases hk
  | outgrown=>cases hk
 ·obtain ⟨u,s1⟩:=a
  have hs1:Sfx ⟨JD 0 args,m,fn.ntmps,[]⟩ s1:=by
   obtain ⟨s,hs,e | ⟨v,e⟩⟩:=hex
   ·cases e;exact hs
   ·cases e;exact hs
  obtain ⟨o,o1,o2⟩:=ho s1 u hs1 hp
  exact ⟨o,o1,fun s hs e=>by cases e;exact o2 _ (.inr rfl),fun v s hs e=>by cases e;exact o2 _ rfl⟩
theorem Qgc {P:Program} (hT:C.T.OK P) (hD:D.OK) {L:Lab U} {s0 s:TSt U} {rs:List ResultVar} {t:tup (L.sl.map (·.2))} (h:Qdp D C L s0 s rs=some t):GB D L s0 s=some t∧∃ xs,RAs P ((lab L s0 t).er D) rs xs∧Qh xs=(Qgz D C (lab L s0 t) rs).er D (lab L s0 t).m.tk:=by
 unfold Qdp at h
 split at h
 ·rename_i t' ht
  split at h
  ·rename_i xs hxs;cases h
   refine ⟨ht,_,Q84 hT hD hxs,?_⟩
   unfold Qgz
   rw [hxs]
   exact (Qeo _ _).symm
  ·cases h
 ·cases h
theorem Qcs {a b c:TSt U} (h:Sfx a b) (k:SfM b.m c.m) (e1:c.tm=b.tm) (e2:c.nt=b.nt) (hd:a.df=[]):Sfx a c:=by
 obtain ⟨h1,h2,h3,h4,h5,-⟩:=h
 have hk:=(⟨h2,h3,h4⟩:SfM a.m b.m).trans k
 exact ⟨by rw [e1];exact h1,hk.es,hk.tk,hk.nx,e2.trans h5,.inl hd⟩
theorem Q95 {W:Wd} {P:Program} (hD:D.OK) {L:Lab U} {s0 s':TSt U} {t:tup (L.sl.map (·.2))} {nx0:Nat} (hw:Qhi L s0=true) (hs:Sfx s0 s') (hp:GB D L s0 s'=some t) (h0:nx0≤s0.m.nx):ToW W P nx0 (s'.er D) ((lab L s0 t).er D):=fun E _ _ h=>W5 hD ⟨hs,hw,hp⟩ (Ca h h0)
theorem inlL_ok {W:Wd} {P:Program} (hP:P=Tryz.prog) (hT:C.T.OK P) (hD:D.OK) (hK:Q0s W D P K) {X:Qqo U} (hX:WN W D P X) {Y:Qqn U} {f:FuncId} {fn:Func} {c:Code} {tc:Tc U} {args:List (TAV U)} {m:TMe U} {h:HLab U} {L:Lab U} {s0:TSt U} (hY:YOK W D P Y m) (hf:P.funcs[f]?=some fn) (hen:Qc P f) (hc:tc.code=c) (hb:fn.body=some c) (hle:args.length≤fn.ntmps)
  (hl:U3 D h ⟨JD 0 args,m,fn.ntmps,[]⟩=some (L,s0)) (hd0:s0.df=[]):Qe4 m (Qo2 D C K X Y fn tc L s0) (Qcf W D P (.fn f) args m):=by
 intro β k d r hr
 have hto:=fun E=>(Ya (E:=E) hD hl).1
 obtain ⟨-,hsf,hw⟩:=Ya (E:=⟨P,default,fun _=>False,⟨0,fun _=>0,fun _ _=>undef,fun _=>0,fun _ _=>False⟩⟩) hD hl
 obtain ⟨t,ht,hk⟩:=YS (show Option.bind _ _=some r from hr)
 have hls:=Y6 s0 t
 have ho:∀ (s:TSt U) (u:Option Value),Sfx s0 s→Gs X Y s u (fun s=>Qdp D C L s0 s fn.results.toList) (fun _ _=>none)=some t→∀ e,Qmn u e→EndO W P fn m.nx e (s.er D) (.val ((Qgz D C (lab L s0 t) fn.results.toList).er D (lab L s0 t).m.tk) ((lab L s0 t).m.er D)):=by
  intro s u hs hend e he
  obtain ⟨s',a1,a2,a3,a4,a5⟩:=WI hX fn m.nx (hY.mono (hsf.trans hs).sfm) hend
  rcases a5 with ⟨b1,b2⟩ | ⟨v,rfl,b1,b2⟩
  ·obtain ⟨q1,xs,q2,q3⟩:=Qgc hT hD b1
   have:=b2 e ((lab L s0 t).er D) xs he hd0 (Q95 hD hw (Qcs hs a1 a3 a4 hd0) q1 hsf.nx) q2
   rw [q3] at this
   exact this
  ·cases b1
 refine Q4r (Q9i hP hT hD hK hX hY hf hen hc hb hle hto hsf ht (S:=fun o=>∃ q:OutT U,o=q.er D∧SfM m q.m∧q.to k d=some r) (fun e s hs hk'=>?_) (fun a hp hex=>?_))
 ·cases e with
  | normal=>exact ⟨_,⟨.val _ (lab L s0 t).m,rfl,(hsf.trans hls).sfm,hk⟩,ho s none hs hk' _ (.inl rfl)⟩
  | ret=>cases hk'
  | exit j=>cases hk'
  | goto l=>cases hk'
  | panic c=>cases hk'
  | outgrown=>cases hk'
 ·cases hp
  exact ⟨_,⟨.val _ (lab L s0 t).m,Z,(hsf.trans hls).sfm,hk⟩,fun s hs e=>ho s none hs e _ (.inr Z),fun v s hs e=>ho s (some v) hs e _ Z⟩
theorem Qgb {P:Program} (hT:C.T.OK P) (hD:D.OK) {L:Lab U} {s0 s:TSt U} {rs:List ResultVar} {α:Type} {y:tup (L.sl.map (·.2))⊕α} (h:Qh8 D C L s0 rs s=some y):∃ t,y=.inl t∧GB D L s0 s=some t∧∃ xs,RAs P ((lab L s0 t).er D) rs xs∧Qh xs=(Qgz D C (lab L s0 t) rs).er D (lab L s0 t).m.tk:=by
 unfold Qh8 at h
 split at h
 ·rename_i t ht;cases h
  exact ⟨t,Z,Qgc hT hD ht⟩
 ·cases h
theorem Qar {pk:PK} {Ld:Lab U} {s0 s:TSt U} {α:Type} {v:Value} {y:α⊕(pk.Ty×tup (Ld.sl.map (·.2)))} (h:Q61 D pk Ld s0 v s=some y):∃ e t,y=.inr (e,t)∧v=Q20 pk e∧GB D Ld s0 s=some t:=by
 unfold Q61 at h
 split at h
 ·rename_i e t he ht;cases h
  exact ⟨e,t,Z,Qgh he,ht⟩
 ·cases h
theorem inlP_ok {W:Wd} {P:Program} (hP:P=Tryz.prog) (hT:C.T.OK P) (hD:D.OK) (hK:Q0s W D P K) {X:Qqo U} (hX:WN W D P X) {Y:Qqn U} {f:FuncId} {fn:Func} {c:Code} {tc:Tc U} {args:List (TAV U)} {m:TMe U} {h hd:HLab U} {L Ld:Lab U} {pk:PK} {s0:TSt U} (hY:YOK W D P Y m) (hf:P.funcs[f]?=some fn) (hen:Qc P f) (hc:tc.code=c) (hb:fn.body=some c) (hle:args.length≤fn.ntmps)
  (hl:U3 D h ⟨JD 0 args,m,fn.ntmps,[]⟩=some (L,s0)) (hld:Q09 D hd s0=some Ld) (hd0:s0.df=[]):Qe4 m (Qo0 D C K X Y fn tc L Ld pk s0) (Qcf W D P (.fn f) args m):=by
 intro β k d r hr
 have hto:=fun E=>(Ya (E:=E) hD hl).1
 obtain ⟨-,hsf,hw⟩:=Ya (E:=⟨P,default,fun _=>False,⟨0,fun _=>0,fun _ _=>undef,fun _=>0,fun _ _=>False⟩⟩) hD hl
 have hwd:=Q08 hld
 obtain ⟨y,ht,hk⟩:=YS (show Option.bind _ _=some r from hr)
 have ho:∃ o,(∃ q:OutT U,o=q.er D∧SfM m q.m∧q.to k d=some r)∧∀ (s:TSt U) (u:Option Value),Sfx s0 s→Gs X Y s u (Qh8 D C L s0 fn.results.toList) (Q61 D pk Ld s0)=some y→∀ e,Qmn u e→EndO W P fn m.nx e (s.er D) o:=by
  cases y with
  | inl t =>
   refine ⟨_,⟨.val _ (lab L s0 t).m,Z,(hsf.trans (Y6 s0 t)).sfm,hk⟩,fun s u hs hend e he=>?_⟩
   obtain ⟨s',a1,a2,a3,a4,a5⟩:=WI hX fn m.nx (hY.mono (hsf.trans hs).sfm) hend
   rcases a5 with ⟨b1,b2⟩ | ⟨v,rfl,b1,b2⟩
   ·obtain ⟨t',e1,q1,xs,q2,q3⟩:=Qgb hT hD b1
    cases e1
    have:=b2 e ((lab L s0 t).er D) xs he hd0 (Q95 hD hw (Qcs hs a1 a3 a4 hd0) q1 hsf.nx) q2
    rw [q3] at this
    exact this
   ·obtain ⟨e',t',e1,-,-⟩:=Qar b1
    cases e1
  | inr y =>
   obtain ⟨ev,t⟩:=y
   refine ⟨_,⟨.die (Q20 pk ev) (lab Ld s0 t).m,Z,(hsf.trans (Y6 s0 t)).sfm,hk⟩,fun s u hs hend e he=>?_⟩
   obtain ⟨s',a1,a2,a3,a4,a5⟩:=WI hX fn m.nx (hY.mono (hsf.trans hs).sfm) hend
   rcases a5 with ⟨b1,b2⟩ | ⟨v,rfl,b1,b2⟩
   ·obtain ⟨t',e1,-⟩:=Qgb (P:=P) hT hD b1
    cases e1
   ·obtain ⟨e',t',e1,ev',q1⟩:=Qar b1
    cases e1
    have:=b2 e ((lab Ld s0 t).er D) he hd0 (Q95 hD hwd (Qcs hs a1 a3 a4 hd0) q1 hsf.nx)
    rw [ev'] at this
    exact this
 obtain ⟨o,o1,o2⟩:=ho
 refine Q4r (Q9i hP hT hD hK hX hY hf hen hc hb hle hto hsf ht (S:=fun o=>∃ q:OutT U,o=q.er D∧SfM m q.m∧q.to k d=some r) (fun e s hs hk'=>?_) (fun a hp hex=>?_))
 ·cases e with
  | normal=>exact ⟨o,o1,o2 s none hs hk' _ (.inl rfl)⟩
  | ret=>cases hk'
  | exit j=>cases hk'
  | goto l=>cases hk'
  | panic c=>cases hk'
  | outgrown=>cases hk'
 ·cases hp
  exact ⟨o,o1,fun s hs e=>o2 s none hs e _ (.inr Z),fun v s hs e=>o2 s (some v) hs e _ Z⟩
theorem Qah:∀ {args:List (TAV U)} {is:List Nat},Qai args=some is→args=Zg is
 | [],is,h=>by cases h;rfl
 | .agg xs::r,is,h=>by cases h
 | .one x::r,is,h=>by
  cases x with
  | ptr i off =>
   have h':cond (Nat.beq off 0) (match Qai r with
    | some l=>some (i::l)
    | none=>none) none=some is:=h
   cases hb:Nat.beq off 0 with
   | false=>rw [hb] at h';cases h'
   | true =>
    rw [hb,C7] at h'
    have e:=C4 hb
    subst e
    cases hl:Qai r with
    | none=>rw [hl] at h';cases h'
    | some l=>rw [hl] at h';cases h';rw [Qah hl];rfl
  | c x=>cases h
  | pel t x off=>cases h
  | fn f caps=>cases h
  | app i ver=>cases h
  | raw x=>cases h
theorem Q6w (tk:List (Nat×TTok U)) (is:List Nat):(Zg is).map (TAV.er D tk)=is.map fun i=>.one (.ptr i 0):=by
 unfold Zg
 rw [CJ];rfl
theorem Qen {W:Wd} {P:Program} (hP:P=Tryz.prog) (hT:C.T.OK P) (hD:D.OK) (hK:Q0s W D P K) {X:Qqo U} (hX:WN W D P X) {Y:Qqn U} {tc:Tc U} {rc:Bool} {tm:List (Nat×TTV U)} {nt:Nat} {m:TMe U} (hY:YOK W D P Y m) {S:TMe U→Prop} (hS:∀ m2,Q2k W P tc.code (QI (TTV.er D m.tk) tm) nt (m.er D) (m2.er D)→S m2):Qe4 m (Qmk D C K X Y tc rc tm nt m) (fun o=>∃ m2,o=.val (Qpf rc) m2∧S m2):=by
 intro β k d r hr
 have hm:P.follows .mixedOrders=true:=by rw [hP];exact Qcy
 have one:=Jt hP hm hT hD hK hX tc (st:=⟨tm,m,nt,[]⟩) hY hr
 rcases one with ⟨e,s,hs,hk,hx⟩ | ⟨s,hp,⟨s',hs',ha⟩,hx⟩
 ·cases e with
  | normal =>
   dsimp only at hk
   cases hd:Q5l s.df [] with
   | false=>rw [hd] at hk;cases hk
   | true =>
    rw [hd,C7] at hk
    exact ⟨.val (Qpf rc) s.m,⟨s.m,Z,hS s.m (fun E Q n hP' hW h0 hq=>hx E none n Q ⟨hP',hW,Z⟩ h0 (hq _ _ (.inl Z) (Gr hd) Z))⟩,hs.sfm,hk⟩
  | ret=>cases hk
  | exit j=>cases hk
  | goto l=>cases hk
  | panic c=>cases hk
  | outgrown=>cases hk
 ·have es:s'=s:=by
   rcases ha with e | ⟨v,e⟩
   ·exact Cw e
   ·cases e
  subst es
  dsimp only at hp
  cases hd:Q5l s'.df [] with
  | false=>rw [hd] at hp;cases hp
  | true =>
   rw [hd,C7] at hp
   refine ⟨.val (Qpf rc) s'.m,⟨s'.m,rfl,hS s'.m (fun E Q n hP' hW h0 hq=>hx E none n Q ⟨hP',hW,rfl⟩ h0 (fun s2 hs2 e=>?_) (fun v s2 _ e=>by cases e))⟩,hs'.sfm,hp⟩
   have:=Cw e
   subst this
   exact hq _ _ (.inr Z) (Gr hd) Z
theorem recOp_ok {P:Program} {ops:Array Oper} {d:Nat×Option Nat} {nt id:Nat} (h:Qep ops.toList=some d) (hd:Qi3 d nt=true):∃ put,Q9r P nt id ops put∧∀ (u:Value),u.oneCell'=true→∀ (E:Env) (V:Vu) (a:Act) (w:World) (tm:List (Nat×TV)) (hp:List (Nat×HB)) (tk:List (Nat×Option Tok)) (nx:Nat) (tkT:List (Nat×TTok U)) (tmT:List (Nat×TTV U)),tm=QI (TTV.er D tkT) tmT→Rel E V ⟨tm,hp,tk,nx,nt,[]⟩ a w→Rel E V ⟨QI (TTV.er D tkT) (Qi2 d u tmT),hp,tk,nx,nt,[]⟩ (put a u) w:=by
 obtain ⟨l⟩:=ops
 dsimp only at h
 unfold Qep at h
 obtain ⟨hd1,hd2⟩:=C0.1 hd
 split at h
 ·rename_i d' xs ts ty pos af
  split at h
  ·rename_i hx;cases h
   have ex:=Sf (ys:=#[]) hx
   subst ex
   refine ⟨_,recReg1,fun u hu E V a w tm hp tk nx tkT tmT e hr=>?_⟩
   subst e
   exact hr.put (x:=.v (.one (.d (.v u)))) (C3 hd1) (J3 hu)
  ·cases h
 ·rename_i d' xs ts ty pos af d2 d1 ty2 pos2 af2
  split at h
  ·rename_i hx
   cases hq:Nat.beq d1 d' with
   | false=>rw [hq] at h;cases h
   | true =>
    rw [hq] at h;cases h
    have e:=C4 hq
    subst e
    have ex:=Sf (ys:=#[]) hx
    subst ex
    refine ⟨_,recReg2 (C3 hd1),fun u hu E V a w tm hp tk nx tkT tmT e hr=>?_⟩
    subst e
    have h1:=hr.put (d:=d1) (x:=.v (.one (.d (.v u)))) (C3 hd1) (J3 hu)
    exact Rel.put (d:=d2) h1 (x:=.v (.one (.d (.v u)))) (C3 hd2) (J3 hu)
  ·cases h
 ·cases h
theorem inlX_ok {W:Wd} {P:Program} (hP:P=Tryz.prog) (hT:C.T.OK P) (hD:D.OK) (hK:Q0s W D P K) {X:Qqo U} (hX:WN W D P X) {I:List (Nat×IH U)} (hI:IOK P I):WN W D P (Qmj D C K X I):=by
 intro Y c args m xo hY hx
 unfold Qmj at hx
 split at hx
 ·cases hx
 ·rename_i f
  split at hx
  ·cases hx
  ·rename_i ih hih
   obtain ⟨hf,hen⟩:=hI.get hih
   split at hx
   ·cases hx
   ·rename_i c' tc hc
    obtain ⟨hc1,hc2⟩:=WK hc
    cases hle:Nat.ble args.length ih.fn.ntmps with
    | false=>rw [hle] at hx;cases hx
    | true =>
     rw [hle,C7] at hx
     have hle':=C3 hle
     split at hx
     ·cases hx
      intro β k d r
      exact inlS_ok hP hT hD hK hX hY hf hen hc1 hc2 hle' k d r
     ·split at hx
      ·cases hx
      ·rename_i L s0 hl
       cases hd:Q5l s0.df [] with
       | false=>rw [hd] at hx;cases hx
       | true =>
        rw [hd] at hx;cases hx
        intro β k d r
        exact inlL_ok hP hT hD hK hX hY hf hen hc1 hc2 hle' hl (Gr hd) k d r
     ·split at hx
      ·cases hx
      ·rename_i L s0 hl
       split at hx
       ·cases hx
       ·rename_i Ld hld
        cases hd:Q5l s0.df [] with
        | false=>rw [hd] at hx;cases hx
        | true =>
         rw [hd] at hx;cases hx
         intro β k d r
         exact inlP_ok hP hT hD hK hX hY hf hen hc1 hc2 hle' hl hld (Gr hd) k d r
 ·rename_i f u
  split at hx
  ·cases hx
  ·rename_i ih hih
   obtain ⟨hf,hen⟩:=hI.get hih
   split at hx
   ·rename_i c' tc is hc hz
    obtain ⟨hc1,hc2⟩:=WK hc
    have ea:=Qah hz
    subst ea
    cases hle:(Nat.ble (Zg (U:=U) is).length ih.fn.ntmps&&Qij ih.fn) with
    | false=>rw [hle] at hx;cases hx
    | true =>
     rw [hle,C7] at hx
     obtain ⟨l1,l2⟩:=C0.1 hle
     have hle':is.length≤ih.fn.ntmps:=by
      have:=C3 l1
      unfold Zg at this
      simpa using this
     have hres:ih.fn.results.toList=[]:=by
      unfold Qij at l2
      exact Ph.1 l2
     split at hx
     ·rename_i d tb hrc
      cases hd:(Qi3 d ih.fn.ntmps&&(u.getD .nilIface).oneCell') with
      | false=>rw [hd] at hx;cases hx
      | true =>
       rw [hd,C7] at hx
       cases hx
       obtain ⟨d1,d2⟩:=C0.1 hd
       have hbody:∃ id ops,Qep ops.toList=some d∧ih.fn.body=some (.seq (.region id ops false) tb.code):=by
        unfold Qng at hrc
        split at hrc
        ·rename_i id ops b
         split at hrc
         ·rename_i d' hd';cases hrc
          exact ⟨id,ops,hd',by rw [hc2,← hc1];rfl⟩
         ·cases hrc
        ·cases hrc
       obtain ⟨id,ops,hro,hbody⟩:=hbody
       obtain ⟨put,hreg,hput⟩:=recOp_ok (U:=U) (D:=D) (P:=P) (id:=id) hro d1
       have:=Qen (rc:=true) (tc:=tb) (tm:=Qi2 d (u.getD .nilIface) (JD 0 (Zg is))) (nt:=ih.fn.ntmps) hP hT hD hK hX hY (S:=fun m2=>DefM W P f is u (m.er D) (m2.er D) true) (fun m2 h=>DefM.of_rec hf hbody hen hle' hres hreg (fun E V a w hr=>hput _ d2 E V a w _ _ _ _ m.tk (JD 0 (Zg is)) (by rw [Xm,Q6w]) hr) h hP)
       intro β k dd r hr
       obtain ⟨q,⟨m2,rfl,q1⟩,q2,q3⟩:=this k dd r hr
       exact ⟨_,⟨is,true,m2,Z,Z,q1⟩,q2,q3⟩
     ·cases hx
      have:=Qen (rc:=false) (tc:=tc) (tm:=JD 0 (Zg is)) (nt:=ih.fn.ntmps) hP hT hD hK hX hY (S:=fun m2=>DefM W P f is u (m.er D) (m2.er D) false) (fun m2 h=>DefM.of_rest hf hc2 hen hle' hres (by
        rw [Xm,Q6w,hc1] at h
        exact h) hP)
      intro β k dd r hr
      obtain ⟨q,⟨m2,rfl,q1⟩,q2,q3⟩:=this k dd r hr
      exact ⟨_,⟨is,false,m2,Z,Z,q1⟩,q2,q3⟩
   ·cases hx
theorem Gk {W:Wd} {P:Program} {T X:Qqo U} (hT:WN W D P T) (hX:WN W D P X):WN W D P (Qos T X):=by
 intro Y c args m xo hY h
 unfold Qos at h
 split at h
 ·rename_i h';cases h;exact hT Y c args m _ hY h'
 ·exact hX Y c args m xo hY h
theorem Xk {W:Wd} {P:Program} (hP:P=Tryz.prog) (hT:C.T.OK P) (hD:D.OK) (hK:Q0s W D P K) {T:Qqo U} (hTb:WN W D P T) {I:List (Nat×IH U)} (hI:IOK P I):∀ n,WN W D P (Qo1 D C K T I n)
 | 0=>hTb
 | n+1=>Gk hTb (inlX_ok hP hT hD hK (Xk hP hT hD hK hTb hI n) hI)
end
end
end Go.Proofs.YtjcfppnjamjjhaaGreatDoor
